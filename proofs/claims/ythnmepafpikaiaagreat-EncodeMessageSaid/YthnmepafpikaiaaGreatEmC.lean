/- The functions of the program as functions of Lean, that its code does what they say, and what they answer; part C. -/
import Derived.Test.YthnmepafpikaiaaGreatEmB

namespace Go.Proofs.YthnmepafpikaiaaGreat
set_option linter.all false
section
open Go Go.Proofs.YthnmepafpikaiaaGreat.Shv Go.Sort
set_option maxRecDepth 100000
abbrev Nd :=Sheaveref07Node
abbrev dNd :=dSheaveref07Node
abbrev dPt :=dSheaveref07Part
theorem nz{a:Int}(h:¬a=0) :(!(decide (a=0)))=true:=by simp[h]
theorem g65{x m:Int}(h:0≤x)(hm:0≤m) :remI x m=x % m:=by
 unfold remI;rw[Int.tmod_eq_emod_of_nonneg h]
theorem g17l{x:Int}(h:0≤x)(h2:x≤255) :quoI .u8 x 4=x / 4:=by
 unfold quoI;rw[Int.tdiv_eq_ediv_of_nonneg h,IntKind.wrap_u8];omega
theorem ga8{x:Int}(h:I64 x) :wrp .i64 x=x:=by
 unfold wrp I64 at*;rw[IntKind.wrap_i64];omega
theorem gus{k:Int}(h:0≤k∧k≤25) :g8m (wrp .i32 (addI .i64 97 k))=[UInt8.ofNat (97+k.toNat)]:=by
 have key:∀k:Nat,k < 26→g8m (wrp .i32 (addI .i64 97 (k:Int)))=[UInt8.ofNat (97+k)]:=by decide+kernel
 have:=key k.toNat (by omega);have e:((k.toNat:Nat):Int)=k:=by omega
 rw[e]at this;exact this
theorem g17m{k:Int}(h:0≤k∧k≤25) :g8m (wrp .i32 (addI .i64 65 k))=[UInt8.ofNat (65+k.toNat)]:=by
 have key:∀k:Nat,k < 26→g8m (wrp .i32 (addI .i64 65 (k:Int)))=[UInt8.ofNat (65+k)]:=by decide+kernel
 have:=key k.toNat (by omega);have e:((k.toNat:Nat):Int)=k:=by omega
 rw[e]at this;exact this
theorem gpy{s:List UInt8}(h0:s≠[])(hl:s.length≤24)(h:∀i:Nat,i < s.length→g8y (g3e s i)=true) :nm s=true:=by
 have key:∀k i:Nat,i+k=s.length→g2s (s,(s.length:Int),(i:Int))=some (.inr ()):=by
   intro k
   induction k with
   | zero=>intro i hi;rw[g2s,if_neg (by simp;omega)]
   | succ k ih=>
     intro i hi;rw[g2s,if_pos (by simp;omega),if_pos (g6 (by omega)),ggk,h i (by omega)];simp only[oZ4,oZ3,Bool.not_true];rw[if_pos (by rw[g6 (by omega)];rfl),ge (by omega)];exact ih (i+1) (by omega)
 have hpos:0 < s.length:=List.length_pos_iff.2 h0;have h00:=h 0 hpos;have hin:inR 0 s.length=true:=g6 (k:=0) hpos;have ht:(bif decide (s=[])then true else decide (24 < (s.length:Int)))=false:=by
   simp[h0];omega
 have hk:g2s (s,(s.length:Int),0)=some (.inr ()):=key s.length 0 (by omega);have h00':g8y (g3e s 0)=true:=h00;unfold nm;rw[g3t];simp only[oZ4,oZ3];rw[ht,hin,ggk,h00'];simp only[Bool.true_or,if_true,Bool.not_false,oZ3,cond_false,Bool.not_true,Bool.false_eq_true,if_false,hk,Option.getD_some]
theorem g17n{c:Nat}(h:65≤c∧c≤90∨97≤c∧c≤122) :nm [UInt8.ofNat c]=true:=by
 refine gpy (by simp) (by simp) fun i hi=>?_
 have:i=0:=by simp at hi;omega
 subst this;have e:g3e [UInt8.ofNat c] ((0:Nat):Int)=(c:Int):=by
   rw[g6k];simp only[List.getD_cons_zero];rw[g3g (by omega)]
 rw[e];unfold g8y;simp;omega
theorem g12a{b c:Nat}(hb:97≤b∧b≤122)(h:97≤c∧c≤122) :nm [UInt8.ofNat b,UInt8.ofNat c]=true:=by
 refine gpy (by simp) (by simp) fun i hi=>?_
 have:i=0∨i=1:=by simp at hi;omega
 rcases this with rfl | rfl
 · rw[g6k];simp only[List.getD_cons_zero];rw[g3g (by omega)];unfold g8y;simp;omega
 · rw[g6k];simp only[List.getD_cons_succ,List.getD_cons_zero];rw[g3g (by omega)];unfold g8y;simp;omega
def U8(x:Int) :Prop:=0≤x∧x≤255
structure NOk (x:Nd):Prop where
 k:U8 x.Kind
 a:U8 x.A
 b:U8 x.B
 c:U8 x.C
 p:∀q,q∈x.Parts→U8 q.ID∧U8 q.Type_∧U8 q.Flag
 l:x.Parts.length≤reachBytes
def kd(ns:List Nd)(i:Int) :Int:=1+(ns.getD i.toNat dNd).Kind % 9
section
variable {ns:List Nd} (hN:∀x,x∈ns→NOk x) (h5:ns.length≤5)
include hN h5 in
theorem kd_eq{i:Int}(h0:0≤i)(h1:i < ns.length) :g4s ((⟨ns⟩:Sheaveref07Draft),i)=some (kd ns i)∧1≤kd ns i∧kd ns i≤9:=by
 obtain⟨j,rfl⟩:∃j:Nat,i=(j:Int):=⟨i.toNat,by omega⟩
 have hx:=(hN _ (g8 (by omega:j < ns.length) dNd)).k;unfold kd;rw[g7];obtain⟨a,b⟩:=hx;refine⟨?_,by omega,by omega⟩;rw[g4s,if_pos (g6 (by omega:j < ns.length)),g7,g65 a (by omega),ga8 ⟨by omega,by omega⟩,g7n (by omega) (by omega)]
def Tgt(ns:List Nd)(i u:Int) :Prop:=0≤u∧u < ns.length∧(7≤kd ns u∨u < i)
include hN h5 in
theorem grz :∀(k i:Nat),i+k=ns.length→g2d ((ns.length:Int),(i:Int),ns)=some (.inr ())∨∃u:Int,g2d ((ns.length:Int),(i:Int),ns)=some (.inl u)∧0≤u∧u < ns.length∧7≤kd ns u
 | 0,i,hi=>.inl (by rw[g2d,if_neg (by simp;omega)])
 | k+1,i,hi=>by
   obtain⟨e,_,_⟩:=kd_eq hN h5 (i:=(i:Int)) (by omega) (by omega);rw[g2d,if_pos (by simp;omega),e];simp only[oZ4,oZ3,g6p];by_cases h7:7≤kd ns i
   · rw[if_pos (by simpa using h7)];exact .inr ⟨i,rfl,by omega,by omega,h7⟩
   · rw[if_neg (by simpa using h7),ge (by omega)];exact grz k (i+1) (by omega)
include hN h5 in
theorem g12b(h1:1≤ns.length){i code:Int}(hi:0≤i∧i < ns.length)(hc:U8 code) :∃u,g6q ((⟨ns⟩:Sheaveref07Draft),i,code)=some u∧(u < 0∨Tgt ns i u):=by
 have hm:wrp .i64 code=code:=ga8 ⟨by unfold U8 at hc;omega,by unfold U8 at hc;omega⟩;obtain⟨c1,c2⟩:=hc;have hr0:0≤code % (ns.length:Int):=Int.emod_nonneg _ (by omega);have hr1:code % (ns.length:Int) < ns.length:=Int.emod_lt_of_pos _ (by omega);rw[g6q];simp only[oZ4,oZ3];rw[if_pos (nz (by omega)),hm,g65 c1 (by omega)]
 obtain⟨e,_,_⟩:=kd_eq hN h5 hr0 hr1;rw[e];simp only[oZ3,g6p];by_cases h7:7≤kd ns (code % (ns.length:Int))
 · rw[if_pos (by simp[h7])];exact⟨_,rfl,.inr ⟨hr0,hr1,.inl h7⟩⟩
 · by_cases hlt:code % (ns.length:Int) < i
   · rw[if_pos (by simp[hlt])];exact⟨_,rfl,.inr ⟨hr0,hr1,.inr hlt⟩⟩
   · rw[if_neg (by simp[h7,hlt])];by_cases hp:0 < i
     · rw[if_pos (by simpa using hp),if_pos (by simp;omega),g65 hr0 (by omega)];have a0:0≤code % (ns.length:Int) % i:=Int.emod_nonneg _ (by omega);have a1:code % (ns.length:Int) % i < i:=Int.emod_lt_of_pos _ (by omega);exact⟨_,rfl,.inr ⟨a0,by omega,.inr a1⟩⟩
     · rw[if_neg (by simpa using hp)];have h0:=grz hN h5 ns.length 0 (by omega);have e0:g2d ((ns.length:Int),((0:Nat):Int),ns)=g2d ((ns.length:Int),0,ns):=rfl;rw[e0]at h0;rcases h0 with h | ⟨u,h,a,b,c⟩
       · rw[h];exact⟨-1,rfl,.inl (by omega)⟩
       · rw[h];exact⟨u,rfl,.inr ⟨a,b,.inl c⟩⟩
def KeyT(ns:List Nd)(u:Int) :Prop:=0≤u∧u < ns.length∧1≤kd ns u∧kd ns u≤4
include hN h5 in
theorem g12c{code:Int}(hc:U8 code)(h1:1≤ns.length) :∀(k i:Nat),i+k=ns.length→(g35 (code,(ns.length:Int),(i:Int),ns)=some (.inr ())∧∀m:Nat,i≤m→m < ns.length→¬KeyT ns ((code+m) % (ns.length:Int)))∨∃u:Int,g35 (code,(ns.length:Int),(i:Int),ns)=some (.inl u)∧KeyT ns u
 | 0,i,hi=>.inl ⟨by rw[g35,if_neg (by simp;omega)],fun m a b=>by omega⟩
 | k+1,i,hi=>by
   obtain⟨c1,c2⟩:=hc;have hr0:0≤(code+i) % (ns.length:Int):=Int.emod_nonneg _ (by omega);have hr1:(code+i) % (ns.length:Int) < ns.length:=Int.emod_lt_of_pos _ (by omega);obtain⟨e,e1,e9⟩:=kd_eq hN h5 hr0 hr1;rw[g35,if_pos (by simp;omega),if_pos (nz (by omega)),ga8 ⟨by omega,by omega⟩,g7n (by omega) (by omega),g65 (by omega) (by omega)]
   simp only[oZ4,oZ3];rw[e];simp only[oZ3,g6c];by_cases h4:kd ns ((code+i) % (ns.length:Int))≤4
   · rw[if_pos (by simp[e1,h4])];exact .inr ⟨_,rfl,hr0,hr1,e1,h4⟩
   · rw[if_neg (by simp[h4]),ge (by omega)];rcases g12c ⟨c1,c2⟩ h1 k (i+1) (by omega)with⟨a,b⟩ | h
     · refine .inl ⟨a,fun m hm1 hm2=>?_⟩;by_cases hm:m=i
       · subst hm;rintro ⟨_,_,_,h⟩;exact h4 h
       · exact b m (by omega) hm2
     · exact .inr h
include hN h5 in
theorem g12d{code:Int}(hc:U8 code)(h1:1≤ns.length) :∃u,g63 ((⟨ns⟩:Sheaveref07Draft),code)=some u∧((u= -1∧∀w,¬KeyT ns w)∨KeyT ns u):=by
 rw[g63];have h0:=g12c hN h5 hc h1 ns.length 0 (by omega);have e0:g35 (code,(ns.length:Int),((0:Nat):Int),ns)=g35 (code,(ns.length:Int),0,ns):=rfl;rw[e0]at h0;rcases h0 with⟨h,a⟩ | ⟨u,h,a⟩
 · rw[h];refine⟨-1,rfl,.inl ⟨rfl,fun w hw=>?_⟩⟩;have hw':=hw;obtain⟨w0,w1,_⟩:=hw';have hr0:0≤(w - code) % (ns.length:Int):=Int.emod_nonneg _ (by omega);have hr1:(w - code) % (ns.length:Int) < ns.length:=Int.emod_lt_of_pos _ (by omega);refine a ((w - code) % (ns.length:Int)).toNat (by omega) (by omega) ?_
   have e:(code+(((w - code) % (ns.length:Int)).toNat:Int)) % (ns.length:Int)=w:=by
     rw[Int.toNat_of_nonneg hr0,Int.add_emod_emod];have:code+(w - code)=w:=by omega
     rw[this];exact Int.emod_eq_of_lt w0 w1
   rw[e];exact hw
 · rw[h];exact⟨u,rfl,.inr a⟩
theorem gut{x:Nd}(h:NOk x) :g4h x=some (x.A % 7 - 3):=by
 have:=h.a;unfold U8 at this;rw[g4h,g65 this.1 (by omega),ga8 ⟨by omega,by omega⟩,g5c (by omega) (by omega)]
theorem gxb{x:Nd}(h:NOk x) :g5l x=some (x.A % 7 - 3+x.B % 6):=by
 have ha:=h.a;have hb:=h.b;unfold U8 at ha hb;rw[g5l,gut h];simp only[oZ4,oZ3];rw[g65 hb.1 (by omega),ga8 ⟨by omega,by omega⟩,g7n (by omega) (by omega)]
def IdsOk(l:List Int)(n:Int) :Prop:=l.Pairwise (· < ·)∧∀x,x∈l→1≤x∧x≤n
theorem guu{x:Nd} :∀(k i:Nat) (acc:List Int),i+k=6→IdsOk acc i→acc.length≤i→∃l,g3u ((i:Int),x,acc)=some l∧IdsOk l 6∧l.length≤6
 | 0,i,acc,hi,ha,hl=>⟨acc,by rw[g3u,if_neg (by simp;omega)],⟨ha.1,fun y hy=>by have:=ha.2 y hy;omega⟩,by omega⟩
 | k+1,i,acc,hi,ha,hl=>by
   have hacc:IdsOk acc ((i+1:Nat):Int):=⟨ha.1,fun y hy=>by have:=ha.2 y hy;omega⟩
   rw[g3u,if_pos (by simp;omega),if_pos (by simp)];simp only[oZ4,oZ3];rw[ge (by omega)];split
   · rw[if_pos (g44 (by omega) (by simp;omega))];refine guu k (i+1) _ (by omega) ⟨?_,fun y hy=>?_⟩ (by simp;omega)
     · rw[List.pairwise_append];refine⟨ha.1,by simp,fun a h1 b h2=>?_⟩;have:=ha.2 a h1;simp at h2;omega
     · rcases List.mem_append.1 hy with h | h
       · have:=ha.2 y h;omega
       · simp at h;omega
   · exact guu k (i+1) acc (by omega) hacc (by omega)
theorem g17o(x:Nd) :∃l,g47 x=some l∧IdsOk l 6∧1≤l.length∧l.length≤6:=by
 obtain⟨l,h1,h2,h3⟩:=guu (x:=x) 6 0 [] (by omega) ⟨.nil,fun y hy=>by cases hy⟩ (by simp);have h1':g3u (0,x,[])=some l:=h1;rw[g47,h1'];simp only[oZ4,oZ3];cases l with
 | nil=>
   rw[if_pos (by simp),if_pos (g44 (by omega) (by simp))];exact⟨_,rfl,⟨by simp,fun y hy=>by simp at hy;omega⟩,by simp,by simp⟩
 | cons a l=>
   rw[if_neg (by simp;omega)];exact⟨_,rfl,h2,by simp,h3⟩
def idsL(x:Nd) :List Int:=(g47 x).getD []
theorem ids_eq'(x:Nd) :g47 x=some (idsL x)∧IdsOk (idsL x) 6∧1≤(idsL x).length∧(idsL x).length≤6:=by
 obtain⟨l,h1,h2⟩:=g17o x;unfold idsL;rw[h1];exact⟨rfl,h2⟩
def InitP(k:Int)(x:Nd)(key:Prop)(v:SValue) :Prop:=
 v.Keys=[]∧v.Items=[]∧v.Rest=[]∧
 (k=1∧v.Kind=1∧v.Int_=0∧v.Str=[]∧v.ID=0∨
  k=2∧v.Kind=2∧v.Bool_=false∧v.Str=[]∧v.ID=0∧x.A % 7 - 3≤v.Int_∧v.Int_≤x.A % 7 - 3+x.B % 6∨
  k=3∧v.Kind=3∧v.Bool_=false∧v.Int_=0∧v.ID=0∧(v.Str.length:Int)≤x.A % 4∨
  k=4∧v.Kind=4∧v.Bool_=false∧v.Int_=0∧v.Str=[]∧v.ID∈idsL x∨
  7≤k∧v.Bool_=false∧v.Int_=0∧v.Str=[]∧v.ID=0∧(v.Kind=k∧(k=8→key)∨k=8∧v.Kind=7∧¬key))
def Init(ns:List Nd)(t:Int)(v:SValue) :Prop:=InitP (kd ns t) (ns.getD t.toNat dNd) (∃w,KeyT ns w) v
include hN h5 in
theorem gzh(h1:1≤ns.length){t code:Int}(ht:0≤t∧t < ns.length)(hc:U8 code) :∃r,g6d ((⟨ns⟩:Sheaveref07Draft),t,code)=some r∧(r.2=false→r.1=dSValue)∧(r.2=true→Init ns t r.1):=by
 obtain⟨j,rfl⟩:∃j:Nat,t=(j:Int):=⟨t.toNat,by omega⟩
 have hj:j < ns.length:=by omega
 have hx:=hN _ (g8 hj dNd);obtain⟨e,k1,k9⟩:=kd_eq hN h5 ht.1 ht.2;obtain⟨u,hu,hu2⟩:=g12d hN h5 (code:=0) ⟨by omega,by omega⟩ h1;obtain⟨c1,c2⟩:=hc;rw[g6d,if_pos (g6 hj)];simp only[oZ4,oZ3,g7];rw[e];simp only[oZ3];unfold Init;simp only[g7];have hids:=ids_eq' (ns.getD j dNd);generalize kd ns (j:Int)=k at*
 generalize ns.getD j dNd=x at*;have ha:=hx.a;have hb:=hx.b;unfold U8 at ha hb;have hc9:k=1∨k=2∨k=3∨k=4∨k=5∨k=6∨k=7∨k=8∨k=9:=by omega
 rcases hc9 with rfl | rfl | rfl | rfl | rfl | rfl | rfl | rfl | rfl
 · exact⟨_,rfl,fun h=>(by cases h),fun _=>by unfold InitP;simp⟩
 · have el:=gut hx;have eh:=gxb hx;have e1:addI .i64 (subI .i64 (x.A % 7 - 3+x.B % 6) (x.A % 7 - 3)) 1=x.B % 6+1:=by
     rw[g5c (by omega) (by omega),g7n (by omega) (by omega)];omega
   have e2:remI (wrp .i64 code) (x.B % 6+1)=code % (x.B % 6+1):=by
     rw[ga8 ⟨by omega,by omega⟩,g65 c1 (by omega)]
   have r0:0≤code % (x.B % 6+1):=Int.emod_nonneg _ (by omega);have r1:code % (x.B % 6+1) < x.B % 6+1:=Int.emod_lt_of_pos _ (by omega);have e3:addI .i64 (x.A % 7 - 3) (code % (x.B % 6+1))=x.A % 7 - 3+code % (x.B % 6+1):=g7n (by omega) (by omega)
   simp only[Int.reduceEq,decide_false,decide_true,Bool.false_eq_true,if_false,if_true,oZ3,cond_false,cond_true];rw[el];simp only[oZ4,oZ3];rw[eh];simp only[oZ3];rw[e1,if_pos (by simp;omega),e2,e3];exact⟨_,rfl,fun h=>(by cases h),fun _=>by unfold InitP;simp;omega⟩
 · simp only[Int.reduceEq,decide_false,decide_true,Bool.false_eq_true,if_false,if_true,oZ3,cond_false,cond_true];rw[g65 ha.1 (by omega),g65 c1 (by omega)];by_cases g:0 < x.A % 4
   · by_cases g2:code % 2=1
     · rw[if_pos (by simp[g,g2])];exact⟨_,rfl,fun h=>(by cases h),fun _=>by unfold InitP;simp;omega⟩
     · rw[if_neg (by simp[g2])];exact⟨_,rfl,fun h=>(by cases h),fun _=>by unfold InitP;simp;omega⟩
   · rw[if_neg (by simp[g])];exact⟨_,rfl,fun h=>(by cases h),fun _=>by unfold InitP;simp;omega⟩
 · obtain⟨i1,i2,i3,i4⟩:=hids;simp only[Int.reduceEq,decide_false,decide_true,Bool.false_eq_true,if_false,if_true,oZ3,cond_false,cond_true];rw[i1];simp only[oZ4,oZ3];have r0:0≤code % ((idsL x).length:Int):=Int.emod_nonneg _ (by omega)
   have r1:code % ((idsL x).length:Int) < ((idsL x).length:Int):=Int.emod_lt_of_pos _ (by omega);rw[if_pos (nz (by omega)),ga8 ⟨by omega,by omega⟩,g65 c1 (by omega)];obtain⟨q,hq⟩:∃q:Nat,code % ((idsL x).length:Int)=(q:Int):=⟨(code % ((idsL x).length:Int)).toNat,by omega⟩
   rw[hq,if_pos (g6 (by omega)),g7];exact⟨_,rfl,fun h=>(by cases h),fun _=>by unfold InitP;simp;rw[←List.getD_eq_getElem?_getD];exact g8 (by omega) 0⟩
 · exact⟨_,rfl,fun _=>rfl,fun h=>by cases h⟩
 · exact⟨_,rfl,fun _=>rfl,fun h=>by cases h⟩
 · exact⟨_,rfl,fun h=>(by cases h),fun _=>by unfold InitP;simp⟩
 · simp only[Int.reduceEq,decide_false,decide_true,Bool.false_eq_true,if_false,if_true,oZ3,cond_false,cond_true];rw[hu];rcases hu2 with⟨rfl,a⟩ | a
   · exact⟨_,rfl,fun h=>(by cases h),fun _=>by unfold InitP;simp;exact fun w hw=>a w hw⟩
   · have hge:¬u < 0:=by have:=a.1;omega
     simp only[oZ4,oZ3];rw[if_neg (by simp[hge])];exact⟨_,rfl,fun h=>(by cases h),fun _=>by unfold InitP;simp;exact⟨u,a⟩⟩
 · exact⟨_,rfl,fun h=>(by cases h),fun _=>by unfold InitP;simp⟩
end
end
section
open Go Go.Proofs.YthnmepafpikaiaaGreat.Shv Go.Sort
set_option maxRecDepth 100000
section
variable {ns:List Nd} (hN:∀x,x∈ns→NOk x) (h5:ns.length≤5)
structure MemP (ns:List Nd) (i:Int) (record:Bool) (m:SMember):Prop where
 id:1≤m.ID∧m.ID≤12
 name:m.Name=[UInt8.ofNat 109,UInt8.ofNat (97+m.ID.toNat)]
 tgt:Tgt ns i m.Type_
 crit:m.Critical=true→m.HasDefault=false
 un:record=false→m.Critical=false∧m.HasDefault=false
 nod:m.HasDefault=false→m.Default=dSValue
 dfl:m.HasDefault=true→Init ns m.Type_ m.Default
include hN h5 in
theorem guv (h1 : 1 ≤ ns.length) {i : Int} (hi : 0 ≤ i ∧ i < ns.length) {x : Nd} (hx : NOk x) (record : Bool) {id : Int} (hid : 1 ≤ id ∧ id ≤ 12) {acc : List SMember} (ha : acc.length ≤ 12) :
   ∀(k j:Nat),j+k=x.Parts.length→∃l,g36 (i,record,id,(j:Int),ns,x,acc)=some (i,record,id,ns,x,acc++l)∧l.length≤1∧∀m,m∈l→m.ID=id∧MemP ns i record m
 | 0,j,hj=>⟨[],by rw[g36,if_neg (by simp;omega)];simp,by simp,fun m hm=>by cases hm⟩
 | k+1,j,hj=>by
   have hlt:j < x.Parts.length:=by omega
   have hr:=g12 hx.l;obtain⟨q1,q2,q3⟩:=hx.p _ (g8 hlt dPt);obtain⟨u,hu,hu2⟩:=g12b hN h5 h1 hi q2;rw[g36,if_pos (by simp;omega),if_pos (g6 hlt)];simp only[oZ4,oZ3,g7];have hu':g6q ((⟨ns⟩:Sheaveref07Draft),i,(x.Parts.getD j dSheaveref07Part).Type_)=some u:=hu;rw[hu'];simp only[oZ3]
   generalize hp:x.Parts.getD j dSheaveref07Part=p;have q1':U8 p.ID:=by rw[←hp];exact q1
   have q3':U8 p.Flag:=by rw[←hp];exact q3
   obtain⟨f1,f2⟩:=q3';have e1:remI p.Flag 4=p.Flag % 4:=g65 f1 (by omega);have e2:quoI .u8 p.Flag 4=p.Flag / 4:=g17l f1 f2;have rec':=guv h1 hi hx record hid ha k (j+1) (by omega);by_cases hskip:(bif (!(decide (addI .i64 1 (wrp .i64 (remI p.ID 12))=id)))then true else decide (u < 0))=true
   · rw[if_pos hskip,ge (by omega)];exact rec'
   · rw[if_neg hskip];have hu0:Tgt ns i u:=by
       rcases hu2 with h | h
       · exfalso;apply hskip
         cases decide (addI .i64 1 (wrp .i64 (remI p.ID 12))=id) <;> simp[h]
       · exact h
     have hrune:=gus (k:=id) ⟨by omega,by omega⟩;rw[hrune];have hname:([109]++[UInt8.ofNat (97+id.toNat)]:List UInt8)=[UInt8.ofNat 109,UInt8.ofNat (97+id.toNat)]:=rfl;rw[if_pos (g39 (by simp)),hname,e1,e2];obtain⟨r,r1,r2,r3⟩:=gzh hN h5 h1 ⟨hu0.1,hu0.2.1⟩ (code:=p.Flag / 4) ⟨by omega,by omega⟩
     have hroom:∀m:SMember,room 160 (acc++[m]).length=true:=fun m=>g44 (by omega) (by simp;omega)
     have done:∀m:SMember,m.ID=id→MemP ns i record m→∃l,(some (i,record,id,ns,x,acc++[m]):Option (Int × Bool × Int × List Nd × Nd × List SMember))=some (i,record,id,ns,x,acc++l)∧l.length≤1∧∀m,m∈l→m.ID=id∧MemP ns i record m:=fun m a b=>⟨[m],rfl,by simp,fun y hy=>by
       have:y=m:=by simpa using hy
       subst this;exact⟨a,b⟩⟩
     cases record with
     | false=>
       simp only[cond_false,Bool.false_eq_true,if_false];rw[if_pos (hroom _)];exact done _ rfl ⟨hid,rfl,hu0,fun h=>(by cases h),fun _=>⟨rfl,rfl⟩,fun _=>rfl,fun h=>by cases h⟩
     | true=>
       simp only[cond_true];by_cases g1:p.Flag % 4=1
       · rw[if_pos (by simpa using g1),if_neg (by simp;omega),if_pos (hroom _)];exact done _ rfl ⟨hid,rfl,hu0,fun _=>rfl,fun h=>(by cases h),fun _=>rfl,fun h=>by cases h⟩
       · rw[if_neg (by simpa using g1)];by_cases g2:2≤p.Flag % 4
         · rw[if_pos (by simpa using g2),r1];simp only[oZ3,SValue.gr];rw[if_pos (hroom _)];exact done _ rfl ⟨hid,rfl,hu0,fun h=>(by cases h),fun h=>(by cases h),r2,r3⟩
         · rw[if_neg (by simpa using g2),if_pos (hroom _)];exact done _ rfl ⟨hid,rfl,hu0,fun h=>(by cases h),fun h=>(by cases h),fun _=>rfl,fun h=>by cases h⟩
def MemsP(ns:List Nd)(i:Int)(record:Bool)(l:List SMember) :Prop:=l.Pairwise (fun a b=>a.ID < b.ID)∧(∀m,m∈l→MemP ns i record m)∧l.length≤12
include hN h5 in
theorem guw (h1 : 1 ≤ ns.length) {i : Int} (hi : 0 ≤ i ∧ i < ns.length) {x : Nd} (hx : NOk x) (record : Bool) : ∀ (k id : Nat) (acc : List SMember), id + k = 13 → 1 ≤ id →
   acc.Pairwise (fun a b=>a.ID < b.ID)→(∀m,m∈acc→MemP ns i record m∧m.ID < id)→acc.length < id→∃l,g31 (i,record,(id:Int),ns,x,acc)=some l∧MemsP ns i record l
 | 0,id,acc,hk,h0,ha,hb,hl=>⟨acc,by rw[g31,if_neg (by simp;omega)],ha,fun m hm=>(hb m hm).1,by omega⟩
 | k+1,id,acc,hk,h0,ha,hb,hl=>by
   rw[g31,if_pos (by simp;omega)];obtain⟨l,l1,l2,l3⟩:=guv hN h5 h1 hi hx record (id:=(id:Int)) ⟨by omega,by omega⟩ (acc:=acc) (by omega) x.Parts.length 0 (by omega);have l1':g36 (i,record,(id:Int),0,ns,x,acc)=_:=l1;rw[l1'];simp only[oZ4,oZ3];rw[ge (by omega)]
   refine guw h1 hi hx record k (id+1) _ (by omega) (by omega) ?_ (fun m hm=>?_) (by simp;omega)
   · rw[List.pairwise_append];refine⟨ha,?_,fun a h2 b h3=>?_⟩
     · match l,l2 with
       | [],_=>exact .nil
       | [a],_=>simp
       | a::b::c,h=>simp at h
     · have:=(hb a h2).2;have:=(l3 b h3).1;omega
   · rcases List.mem_append.1 hm with h | h
     · have:=hb m h;exact⟨this.1,by omega⟩
     · have:=l3 m h;exact⟨this.2,by omega⟩
include hN h5 in
theorem gux(h1:1≤ns.length){i:Int}(hi:0≤i∧i < ns.length)(record:Bool) :∃l,g52 ((⟨ns⟩:Sheaveref07Draft),i,record)=some l∧MemsP ns i record l:=by
 obtain⟨j,rfl⟩:∃j:Nat,i=(j:Int):=⟨i.toNat,by omega⟩
 have hj:j < ns.length:=by omega
 have hx:=hN _ (g8 hj dNd);obtain⟨l,l1,l2⟩:=guw hN h5 h1 hi hx record 12 1 [] (by omega) (by omega) .nil (fun m hm=>by cases hm) (by simp);refine⟨l,?_,l2⟩;have l1':g31 ((j:Int),record,1,ns,ns.getD j dNd,[])=some l:=l1;rw[g52,if_pos (g6 hj),g7];have l1'':g31 ((j:Int),record,1,ns,ns.getD j dSheaveref07Node,[])=some l:=l1';rw[l1''];rfl
def symsL(l:List Int) :List SSymbol:=l.map fun j=>⟨j,[UInt8.ofNat 115,UInt8.ofNat (97+j.toNat)]⟩
theorem gxc {l : List Int} (hl : l.length ≤ 6) (hr : ∀ x, x ∈ l → 1 ≤ x ∧ x ≤ 6) (n i : Int) (b : List Nd) (b1 : Int) (b2 : List UInt8) (b3 b4 b5 b6 b7 : Int) (b8 : Bool) (b9 : List SType) : ∀ (k j : Nat) (acc : List SSymbol), j + k = l.length → acc.length ≤ j →
   g3j (n,i,l,(j:Int),b,b1,b2,b3,b4,b5,b6,b7,b8,b9,acc)=some (n,i,b,b1,b2,b3,b4,b5,b6,b7,b8,b9,acc++symsL (l.drop j))
 | 0,j,acc,hj,ha=>by
   rw[g3j,if_neg (by simp;omega),List.drop_eq_nil_of_le (by omega:l.length≤j)];simp[symsL]
 | k+1,j,acc,hj,ha=>by
   have hlt:j < l.length:=by omega
   have hx:=hr _ (g8 hlt 0);rw[g3j,if_pos (by simp;omega),if_pos (g6 hlt),if_pos (g6 hlt)];simp only[oZ4,oZ3,g7];rw[gus ⟨by omega,by omega⟩,if_pos (g39 (by simp)),if_pos (g44 (by omega) (by simp;omega)),ge (by omega),gxc hl hr n i b b1 b2 b3 b4 b5 b6 b7 b8 b9 k (j+1) _ (by omega) (by simp;omega),g1x hlt 0];simp[symsL]
def TyP(ns:List Nd)(i:Int)(t:SType) :Prop:=
 let x:=ns.getD i.toNat dNd
 let n:=(ns.length:Int)
 let nameL:=[UInt8.ofNat (65+i.toNat)]
 (kd ns i=1∧t=⟨1,[],0,0,0,[],[],0,0,false⟩)∨
 (kd ns i=2∧t=⟨2,[],x.A % 7 - 3,x.A % 7 - 3+x.B % 6,0,[],[],0,0,false⟩)∨
 (kd ns i=3∧t=⟨3,[],0,0,x.A % 4,[],[],0,0,false⟩)∨
 (kd ns i=4∧∃o,t=⟨4,nameL,0,0,0,symsL (idsL x),[],0,0,o⟩)∨
 (kd ns i=5∧∃l,MemsP ns i true l∧t=⟨5,nameL,0,0,0,[],l,0,0,false⟩)∨
 (kd ns i=6∧t=⟨5,nameL,0,0,0,[],[],0,0,false⟩)∨
 (kd ns i=6∧∃l o,MemsP ns i false l∧0 < l.length∧t=⟨6,nameL,0,0,0,[],l,0,0,o⟩)∨
 (kd ns i=7∧t=⟨7,[],0,0,x.A % 4,[],[],0,x.C % n,false⟩)∨
 (kd ns i=8∧(∀w,¬KeyT ns w)∧t=⟨7,[],0,0,x.A % 4,[],[],0,x.C % n,false⟩)∨
 (kd ns i=8∧∃k,KeyT ns k∧t=⟨8,[],0,0,x.A % 4,[],[],k,x.C % n,false⟩)∨
 (kd ns i=9∧t=⟨9,[],0,0,0,[],[],0,x.C % n,false⟩)
include hN h5 in
theorem of_l0 (h1 : 1 ≤ ns.length) : ∀ (k i : Nat) (acc : List SType), i + k = ns.length → acc.length = i → (∀ j, j < i → TyP ns (j : Int) (acc.getD j dSType)) →
   ∃l,gn ((ns.length:Int),(i:Int),ns,acc)=some l∧l.length=ns.length∧∀j,j < ns.length→TyP ns (j:Int) (l.getD j dSType)
 | 0,i,acc,hi,hl,ha=>⟨acc,by rw[gn,if_neg (by simp;omega)],by omega,fun j hj=>ha j (by omega)⟩
 | k+1,i,acc,hi,hl,ha=>by
   have hlt:i < ns.length:=by omega
   have hx:=hN _ (g8 hlt dNd);obtain⟨e,k1,k9⟩:=kd_eq hN h5 (i:=(i:Int)) (by omega) (by omega);have next:∀t:SType,TyP ns (i:Int) t→∃l,(if room 120 (acc++[t]).length=true then gn ((ns.length:Int),addI .i64 (i:Int) 1,ns,acc++[t])else none)=some l∧l.length=ns.length∧∀j,j < ns.length→TyP ns (j:Int) (l.getD j dSType):=by
     intro t ht;rw[if_pos (g44 (by omega) (by simp;omega)),ge (by omega)];refine of_l0 h1 k (i+1) _ (by omega) (by simp;omega) fun j hj=>?_
     by_cases hji:j < i
     · have:(acc++[t]).getD j dSType=acc.getD j dSType:=by
         rw[List.getD_eq_getElem?_getD,List.getD_eq_getElem?_getD,List.getElem?_append_left (by omega)]
       rw[this];exact ha j hji
     · have:j=i:=by omega
       subst this;have:(acc++[t]).getD j dSType=t:=by
         rw[List.getD_eq_getElem?_getD,List.getElem?_append_right (by omega),hl];simp
       rw[this];exact ht
   rw[gn,if_pos (by simp;omega),if_pos (g6 hlt)];simp only[oZ4,oZ3,g7];rw[e];simp only[oZ3,g1v];have hrune:=g17m (k:=(i:Int)) ⟨by omega,by omega⟩;have hT:∀t,TyP ns (i:Int) t→TyP ns (i:Int) t:=fun t h=>h
   have⟨ga,gb,gc⟩:U8 (ns.getD i dNd).A∧U8 (ns.getD i dNd).B∧U8 (ns.getD i dNd).C:=⟨hx.a,hx.b,hx.c⟩
   have g0:(!(decide ((ns.length:Int)=0)))=true:=nz (by omega);have gA:wrp .i64 (remI (ns.getD i dNd).A 4)=(ns.getD i dNd).A % 4:=by
     unfold U8 at ga;rw[g65 ga.1 (by omega),ga8 ⟨by omega,by omega⟩]
   have gC:remI (wrp .i64 (ns.getD i dNd).C) (ns.length:Int)=(ns.getD i dNd).C % (ns.length:Int):=by
     unfold U8 at gc;rw[ga8 ⟨by omega,by omega⟩,g65 gc.1 (by omega)]
   have hc9:kd ns (i:Int)=1∨kd ns (i:Int)=2∨kd ns (i:Int)=3∨kd ns (i:Int)=4∨kd ns (i:Int)=5∨kd ns (i:Int)=6∨kd ns (i:Int)=7∨kd ns (i:Int)=8∨kd ns (i:Int)=9:=by omega
   rcases hc9 with hk | hk | hk | hk | hk | hk | hk | hk | hk <;> rw[hk] <;>
     simp only[Int.reduceEq,decide_false,decide_true,Bool.false_eq_true,if_false,if_true,oZ3,cond_false,cond_true]
   · exact next _ (by unfold TyP;simp[hk])
   · have el:=gut hx;have eh:=gxb hx;have el':g4h (ns.getD i dSheaveref07Node)=_:=el;have eh':g5l (ns.getD i dSheaveref07Node)=_:=eh;rw[el'];simp only[oZ3];rw[eh'];simp only[oZ3];exact next _ (by unfold TyP;simp only[g7];exact .inr (.inl ⟨hk,by first | trivial | rfl⟩))
   · have gA':wrp .i64 (remI (ns.getD i dSheaveref07Node).A 4)=_:=gA;rw[gA'];exact next _ (by unfold TyP;simp only[g7];exact .inr (.inr (.inl ⟨hk,by first | trivial | rfl⟩)))
   · obtain⟨i1,i2,i3,i4⟩:=ids_eq' (ns.getD i dNd);have i1':g47 (ns.getD i dSheaveref07Node)=_:=i1;rw[i1'];simp only[oZ3];have hs:=gxc (l:=idsL (ns.getD i dNd)) i4 i2.2 (ns.length:Int) (i:Int) ns 4 (g8m (wrp .i32 (addI .i64 65 (i:Int)))) 0 0 0 0 0 (decide (remI (ns.getD i dNd).B 2=1)) acc (idsL (ns.getD i dNd)).length 0 [] (by omega) (by simp)
     have hs':g3j ((ns.length:Int),(i:Int),idsL (ns.getD i dNd),0,ns,4,g8m (wrp .i32 (addI .i64 65 (i:Int))),0,0,0,0,0,decide (remI (ns.getD i dSheaveref07Node).B 2=1),acc,[])=_:=hs;rw[hs'];simp only[oZ3,List.drop_zero,List.nil_append];rw[hrune];exact next _ (by unfold TyP;simp only[g7];exact .inr (.inr (.inr (.inl ⟨hk,_,rfl⟩))))
   · obtain⟨l,l1,l2⟩:=gux hN h5 h1 (i:=(i:Int)) ⟨by omega,by omega⟩ true;rw[l1];simp only[oZ3];rw[hrune];exact next _ (by unfold TyP;simp only[g7];exact .inr (.inr (.inr (.inr (.inl ⟨hk,l,l2,rfl⟩)))))
   · obtain⟨l,l1,l2⟩:=gux hN h5 h1 (i:=(i:Int)) ⟨by omega,by omega⟩ false;rw[l1];simp only[oZ3];rw[hrune];by_cases h0:l.length=0
     · rw[if_pos (by simp[h0])];exact next _ (by unfold TyP;simp only[g7];exact .inr (.inr (.inr (.inr (.inr (.inl ⟨hk,by first | trivial | rfl⟩))))))
     · rw[if_neg (by simp;intro h;rw[h]at h0;simp at h0)];exact next _ (by unfold TyP;simp only[g7];exact .inr (.inr (.inr (.inr (.inr (.inr (.inl ⟨hk,l,_,l2,by omega,rfl⟩)))))))
   · have gA':wrp .i64 (remI (ns.getD i dSheaveref07Node).A 4)=_:=gA;have gC':remI (wrp .i64 (ns.getD i dSheaveref07Node).C) (ns.length:Int)=_:=gC;rw[if_pos g0,gA',gC'];exact next _ (by unfold TyP;simp only[g7];exact .inr (.inr (.inr (.inr (.inr (.inr (.inr (.inl ⟨hk,by first | trivial | rfl⟩))))))))
   · have gA':wrp .i64 (remI (ns.getD i dSheaveref07Node).A 4)=_:=gA;have gC':remI (wrp .i64 (ns.getD i dSheaveref07Node).C) (ns.length:Int)=_:=gC;obtain⟨u,u1,u2⟩:=g12d hN h5 gb h1;have u1':g63 ((⟨ns⟩:Sheaveref07Draft),(ns.getD i dSheaveref07Node).B)=some u:=u1;rw[u1'];simp only[oZ3];rw[if_pos g0,gA',gC'];rcases u2 with⟨rfl,a⟩ | a
     · rw[if_pos (by simp)];exact next _ (by unfold TyP;simp only[g7];exact .inr (.inr (.inr (.inr (.inr (.inr (.inr (.inr (.inl ⟨hk,a,by first | trivial | rfl⟩)))))))))
     · rw[if_neg (by have:=a.1;simp;omega)];exact next _ (by unfold TyP;simp only[g7];exact .inr (.inr (.inr (.inr (.inr (.inr (.inr (.inr (.inr (.inl ⟨hk,u,a,rfl⟩))))))))))
   · have gC':remI (wrp .i64 (ns.getD i dSheaveref07Node).C) (ns.length:Int)=_:=gC;rw[if_pos g0,gC'];exact next _ (by unfold TyP;simp only[g7];exact .inr (.inr (.inr (.inr (.inr (.inr (.inr (.inr (.inr (.inr ⟨hk,by first | trivial | rfl⟩))))))))))
end
def DOk(d:Sheaveref07Draft) :Prop:=d.Nodes.length≤reachBytes∧∀x,x∈d.Nodes→NOk x
theorem of_eq{d:Sheaveref07Draft}(hd:DOk d) :g6i d=some (⟨[]⟩,false)∨∃l,g6i d=some (⟨l⟩,true)∧1≤d.Nodes.length∧d.Nodes.length≤5∧l.length=d.Nodes.length∧∀j,j < d.Nodes.length→TyP d.Nodes (j:Int) (l.getD j dSType):=by
 rw[g6i];simp only[oZ4,oZ3];by_cases h:1≤d.Nodes.length∧d.Nodes.length≤5
 · obtain⟨l,l1,l2,l3⟩:=of_l0 hd.2 h.2 h.1 d.Nodes.length 0 [] (by omega) rfl (fun j hj=>by omega);have l1':gn ((d.Nodes.length:Int),0,d.Nodes,[])=some l:=l1;right;have hc:¬((bif decide ((d.Nodes.length:Int) < 1)then true else decide (5 < (d.Nodes.length:Int)))=true):=by
     have a:¬(d.Nodes.length:Int) < 1:=by omega
     have b:¬(5:Int) < (d.Nodes.length:Int):=by omega
     simp only[a,b,decide_false,cond_false,Bool.false_eq_true,not_false_eq_true]
   rw[if_neg hc,l1'];exact⟨l,rfl,h.1,h.2,l2,l3⟩
 · left;have hc:(bif decide ((d.Nodes.length:Int) < 1)then true else decide (5 < (d.Nodes.length:Int)))=true:=by
     by_cases a:(d.Nodes.length:Int) < 1
     · simp only[a,decide_true,cond_true]
     · have b:(5:Int) < (d.Nodes.length:Int):=by omega
       simp only[a,b,decide_true,decide_false,cond_false]
   rw[if_pos hc]
end
section
open Go Go.Proofs.YthnmepafpikaiaaGreat.Shv Go.Sort
set_option maxRecDepth 100000
structure DrOk (ts:List SType):Prop where
 n1:1≤ts.length
 n5:ts.length≤5
 T:∀t,t∈ts→OkT t
 V:VOk ts
 D:∀t,t∈ts→g17k ts t.Members
 R:∀i:Nat,i < ts.length→∀m,m∈(ts.getD i dSType).Members→0≤m.Type_∧m.Type_ < ts.length∧(7≤(ts.getD m.Type_.toNat dSType).Kind∨m.Type_ < i)
 L:∀t,t∈ts→t.Kind=2→-3≤t.Low∧t.High≤8
 M:∀t,t∈ts→t.Max≤3
 I:∀t,t∈ts→(∀m,m∈t.Members→m.ID≤12)∧(∀y,y∈t.Symbols→y.ID≤6)∧t.Members.length≤12
 W:∀t,t∈ts→∀m,m∈t.Members→m.HasDefault=true→wt m.Default≤13
theorem g9b{v:SValue}(hk:v.Keys=[])(hi:v.Items=[])(hr:v.Rest=[])(hs:v.Str.length≤1000)(n1:I64 v.Kind)(n2:I64 v.Int_)(n3:I64 v.ID) :OkV v:=by
 refine .mk v (by unfold reachBytes;omega) (by rw[hk];simp) (by rw[hi];simp) (by rw[hr];simp) (fun x hx=>?_) (fun x hx=>?_) (fun x hx=>?_) n1 n2 n3 (fun x hx=>?_)
 · rw[hk]at hx;cases hx
 · rw[hi]at hx;cases hx
 · rw[hr]at hx;cases hx
 · rw[hr]at hx;cases hx
theorem okV_d :OkV dSValue:=g9b rfl rfl rfl (by simp[dSValue]) (by unfold I64 dSValue;simp) (by unfold I64 dSValue;simp) (by unfold I64 dSValue;simp)
theorem gxd{v:SValue}(hk:v.Keys=[])(hi:v.Items=[])(hr:v.Rest=[]) :wt v=10+v.Str.length:=by
 rw[wt_eq,hk,hi,hr,g6j];simp
section
variable {ns:List Nd} (hN:∀x,x∈ns→NOk x) (h5:ns.length≤5) (h1:1≤ns.length) {l:List SType} (hl:l.length=ns.length) (hT:∀j,j < ns.length→TyP ns (j:Int) (l.getD j dSType))
include hN h5 in
theorem gxe{t:Int}(ht:0≤t∧t < ns.length){v:SValue}(h:Init ns t v) :OkV v∧wt v≤13:=by
 obtain⟨a,b,c,h⟩:=h;obtain⟨j,rfl⟩:∃j:Nat,t=(j:Int):=⟨t.toNat,by omega⟩
 have hx:=hN _ (g8 (by omega:j < ns.length) dNd);obtain⟨_,k1,k9⟩:=kd_eq hN h5 ht.1 ht.2;rw[g7]at h;have ha:=hx.a;have hb:=hx.b;have hids:=(ids_eq' (ns.getD j dNd)).2.1.2;unfold U8 at ha hb;rw[gxd a b c];have hs:v.Str.length≤3:=by
   rcases h with⟨_,_,_,e,_⟩ | ⟨_,_,_,e,_⟩ | ⟨_,_,_,_,_,e⟩ | ⟨_,_,_,_,e,_⟩ | ⟨_,_,_,e,_⟩
   · rw[e];simp
   · rw[e];simp
   · omega
   · rw[e];simp
   · rw[e];simp
 refine⟨g9b a b c (by omega) ?_ ?_ ?_,by omega⟩
 · unfold I64;rcases h with h | h | h | h | h <;> omega
 · unfold I64;rcases h with⟨_,_,e,_⟩ | ⟨_,_,_,_,_,e⟩ | ⟨_,_,_,e,_⟩ | ⟨_,_,_,e,_⟩ | ⟨_,_,e,_⟩ <;> omega
 · unfold I64;rcases h with⟨_,_,_,_,e⟩ | ⟨_,_,_,_,e,_⟩ | ⟨_,_,_,_,e,_⟩ | ⟨_,_,_,_,_,e⟩ | ⟨_,_,_,_,e,_⟩
   · omega
   · omega
   · omega
   · have:=hids _ e;omega
   · omega
include hN h5 in
theorem gpz{i:Int}{r:Bool}{Ms:List SMember}(h:MemsP ns i r Ms) :gc5 (!r) Ms∨(r=false∧Ms=[]):=by
 obtain⟨a,b,c⟩:=h;by_cases h0:r=false∧Ms=[]
 · exact .inr h0
 left;refine⟨fun m hm=>?_,?_,⟨a,fun m hm=>?_⟩,fun m hm=>?_,?_,by omega⟩
 · have q:=b m hm;unfold badM;have hz:m.HasDefault=false→gav m.Default=true:=fun h=>by
     rw[q.nod h];have h3:Says (g4w (dSValue,dSValue)) dSValue dSValue:=ge4 okV_d dSValue;obtain⟨w,w1,w2⟩:=h3;unfold gav;rw[w1];exact w2.2 rfl
   have hc:=q.crit;have hu:=q.un;cases r <;> cases hcr:m.Critical <;> cases hdf:m.HasDefault <;> simp_all
 · cases r with
   | true=>exact .inl rfl
   | false=>
     right;have:Ms≠[]:=fun e=>h0 ⟨rfl,e⟩
     exact List.length_pos_iff.2 this
 · have:=(b m hm).id;exact⟨by omega,by omega⟩
 · have q:=b m hm;have:=q.id;rw[q.name];exact g12a (by omega) (by omega)
 · unfold List.Nodup;rw[List.pairwise_map];refine a.imp_of_mem fun {x y} hx hy hlt=>?_
   have qx:=b x hx;have qy:=b y hy;have ix:=qx.id;have iy:=qy.id;rw[qx.name,qy.name];intro e;simp only[List.cons.injEq,and_true,true_and]at e;have e2:=congrArg UInt8.toNat e;rw[g3g (by omega),g3g (by omega)]at e2;omega
theorem gq0{l:List Int}(h:IdsOk l 6)(h1:1≤l.length)(h6:l.length≤6) :glw (symsL l)∧(∀y,y∈symsL l→y.ID≤6):=by
 unfold symsL;refine⟨⟨by simp;omega,⟨?_,fun y hy=>?_⟩,fun y hy=>?_,?_,by simp;omega⟩,fun y hy=>?_⟩
 · rw[List.pairwise_map];exact h.1
 · obtain⟨x,hx,rfl⟩:=List.mem_map.1 hy;have:=h.2 x hx;exact⟨this.1,by show x≤1000;omega⟩
 · obtain⟨x,hx,rfl⟩:=List.mem_map.1 hy;have:=h.2 x hx;exact g12a (by omega) (by omega)
 · unfold List.Nodup;rw[List.pairwise_map,List.pairwise_map];refine h.1.imp_of_mem fun {x y} hx hy hlt=>?_
   have ix:=h.2 x hx;have iy:=h.2 y hy;intro e;simp only[List.cons.injEq,and_true,true_and]at e;have e2:=congrArg UInt8.toNat e;rw[g3g (by omega),g3g (by omega)]at e2;omega
 · obtain⟨x,hx,rfl⟩:=List.mem_map.1 hy;exact(h.2 x hx).2
theorem gxf{i:Int}{t:SType}(h:TyP ns i t) :(kd ns i≤5∨kd ns i=7∨kd ns i=9→t.Kind=kd ns i)∧(kd ns i=6→t.Kind=5∨t.Kind=6)∧(kd ns i=8→(t.Kind=8∧∃w,KeyT ns w)∨(t.Kind=7∧¬∃w,KeyT ns w)):=by
 unfold TyP at h;rcases h with⟨k,rfl⟩ | ⟨k,rfl⟩ | ⟨k,rfl⟩ | ⟨k,_,rfl⟩ | ⟨k,_,_,rfl⟩ | ⟨k,rfl⟩ | ⟨k,_,_,_,_,rfl⟩ | ⟨k,rfl⟩ | ⟨k,a,rfl⟩ | ⟨k,w,a,rfl⟩ | ⟨k,rfl⟩ <;> simp[k]
 · exact fun w hw=>a w hw
 · exact⟨w,a⟩
theorem gje{i:Int}{t:SType}(h:TyP ns i t) :t.Members=[]∨∃r,MemsP ns i r t.Members:=by
 unfold TyP at h;rcases h with⟨k,rfl⟩ | ⟨k,rfl⟩ | ⟨k,rfl⟩ | ⟨k,_,rfl⟩ | ⟨k,_,a,rfl⟩ | ⟨k,rfl⟩ | ⟨k,_,_,a,_,rfl⟩ | ⟨k,rfl⟩ | ⟨k,a,rfl⟩ | ⟨k,w,a,rfl⟩ | ⟨k,rfl⟩
 · exact .inl rfl
 · exact .inl rfl
 · exact .inl rfl
 · exact .inl rfl
 · exact .inr ⟨_,a⟩
 · exact .inl rfl
 · exact .inr ⟨_,a⟩
 · exact .inl rfl
 · exact .inl rfl
 · exact .inl rfl
 · exact .inl rfl
include hN h5 h1 hl hT in
theorem g13o :DrOk l:=by
 have lift:∀{P:SType→Prop},(∀j,j < ns.length→P (l.getD j dSType))→∀t,t∈l→P t:=fun hp t ht=>by
   obtain⟨i,hi,rfl⟩:=List.getElem_of_mem ht;have:=hp i (by omega);rw[g15 hi]at this;exact this
 have hx:∀j,j < ns.length→NOk (ns.getD j dNd):=fun j hj=>hN _ (g8 hj dNd)
 have mem:∀j,j < ns.length→∀m,m∈(l.getD j dSType).Members→∃r,MemP ns (j:Int) r m:=fun j hj m hm=>by
   rcases gje (hT j hj)with h | ⟨r,_,h,_⟩
   · rw[h]at hm;cases hm
   · exact⟨r,h m hm⟩
 have okT:∀t,t∈l→OkT t:=lift fun j hj=>by
   have hm:=mem j hj;have ht:=hT j hj;have hlm:(l.getD j dSType).Members.length≤12:=by
     rcases gje ht with h | ⟨r,_,_,h⟩
     · rw[h];simp
     · exact h
   have hls:(l.getD j dSType).Symbols.length≤6:=by
     have hi:=(ids_eq' (ns.getD j dNd)).2.2.2;unfold TyP at ht;rcases ht with⟨k,e⟩ | ⟨k,e⟩ | ⟨k,e⟩ | ⟨k,_,e⟩ | ⟨k,_,_,e⟩ | ⟨k,e⟩ | ⟨k,_,_,_,_,e⟩ | ⟨k,e⟩ | ⟨k,_,e⟩ | ⟨k,_,_,e⟩ | ⟨k,e⟩ <;> rw[e]
     case inr.inr.inr.inl=>simp only[g7,symsL,List.length_map];exact hi
     all_goals simp
   refine⟨by unfold reachBytes;omega,by unfold reachBytes;omega,fun m hm'=>?_⟩;obtain⟨r,q⟩:=hm m hm';by_cases hd:m.HasDefault=true
   · exact(gxe hN h5 ⟨q.tgt.1,q.tgt.2.1⟩ (q.dfl hd)).1
   · rw[q.nod (by simpa using hd)];exact okV_d
 have kind7:∀u:Int,0≤u→u < ns.length→7≤kd ns u→7≤(l.getD u.toNat dSType).Kind:=fun u h0 hu h7=>by
   obtain⟨j,rfl⟩:∃j:Nat,u=(j:Int):=⟨u.toNat,by omega⟩
   rw[g7];obtain⟨_,_,k9⟩:=kd_eq hN h5 h0 hu;obtain⟨a,b,c⟩:=gxf (hT j (by omega));have:kd ns (j:Int)=7∨kd ns (j:Int)=8∨kd ns (j:Int)=9:=by omega
   rcases this with h | h | h
   · have:=a (.inr (.inl h));omega
   · rcases c h with h | h <;> omega
   · have:=a (.inr (.inr h));omega
 have vok:VOk l:=by
   refine⟨by omega,lift fun j hj=>?_,fun j hj=>?_,lift fun j hj=>?_,lift fun j hj h8=>?_⟩
   · have ht:=hT j hj;have hid:=ids_eq' (ns.getD j dNd);have ha:=(hx j hj).a;have hb:=(hx j hj).b;have hnm:nm [UInt8.ofNat (65+j)]=true:=g17n (by omega);unfold U8 at ha hb;unfold TyP at ht;simp only[g7]at ht;generalize [UInt8.ofNat (65+j)]=nmL at hnm ht;unfold FormP
     rcases ht with⟨k,e⟩ | ⟨k,e⟩ | ⟨k,e⟩ | ⟨k,_,e⟩ | ⟨k,Ms,a,e⟩ | ⟨k,e⟩ | ⟨k,Ms,_,a,a0,e⟩ | ⟨k,e⟩ | ⟨k,_,e⟩ | ⟨k,_,_,e⟩ | ⟨k,e⟩ <;> rw[e]
     · simp
     · simp;omega
     · simp;omega
     · simp;exact⟨hnm,(gq0 hid.2.1 hid.2.2.1 hid.2.2.2).1⟩
     · simp;refine⟨hnm,?_⟩;rcases gpz hN h5 a with h | ⟨h,_⟩
       · exact h
       · cases h
     · simp;exact⟨hnm,fun m hm=>(by cases hm),.inl rfl,⟨.nil,fun m hm=>by cases hm⟩,fun m hm=>(by cases hm),by simp,by simp⟩
     · simp;refine⟨hnm,?_⟩;rcases gpz hN h5 a with h | ⟨_,h⟩
       · exact h
       · rw[h]at a0;simp at a0
     · simp;omega
     · simp;omega
     · simp;omega
     · simp
   ·
     have nameOf:∀k,k < ns.length→(l.getD k dSType).Name=[]∨(l.getD k dSType).Name=[UInt8.ofNat (65+k)]:=fun k hk=>by
       have ht:=hT k hk;unfold TyP at ht;simp only[g7]at ht;rcases ht with⟨k,e⟩ | ⟨k,e⟩ | ⟨k,e⟩ | ⟨k,_,e⟩ | ⟨k,Ms,a,e⟩ | ⟨k,e⟩ | ⟨k,Ms,_,a,a0,e⟩ | ⟨k,e⟩ | ⟨k,_,e⟩ | ⟨k,_,_,e⟩ | ⟨k,e⟩ <;> rw[e] <;> simp
     rcases nameOf j (by omega)with h | h
     · rw[h];simp
     · rw[h];simp only[Bool.and_eq_false_iff];right;apply Bool.eq_false_iff.2;intro hc;obtain⟨k,hk,he⟩:=(g5j (by simp;omega)).1 hc;have hg:(l.map (·.Name)).getD k []=(l.getD k dSType).Name:=g2k (·.Name) l k dSType [] (by omega);rw[hg]at he;rcases nameOf k (by omega)with h' | h'
       · rw[h']at he;cases he
       · rw[h']at he;simp only[List.cons.injEq,and_true]at he;have e2:=congrArg UInt8.toNat he;rw[g3g (by omega),g3g (by omega)]at e2;omega
   · intro u hu;have hm:=mem j hj;have hc:=(hx j hj).c;unfold U8 at hc;have c0:0≤(ns.getD j dNd).C % (ns.length:Int):=Int.emod_nonneg _ (by omega);have c1:(ns.getD j dNd).C % (ns.length:Int) < ns.length:=Int.emod_lt_of_pos _ (by omega);have ht:=hT j hj;unfold TyP at ht;simp only[g7]at ht;generalize (ns.getD j dNd).C % (ns.length:Int)=cc at c0 c1 ht;unfold usesL at hu
     simp only[List.mem_append,List.mem_map]at hu;rcases hu with(⟨m,h,rfl⟩ | h) | h
     · obtain⟨r,q⟩:=hm m h;have:=q.tgt.1;have:=q.tgt.2.1;omega
     · split at h
       · rename_i h8;have:u=(l.getD j dSType).Key:=by simpa using h
         rw[this];rcases ht with⟨k,e⟩ | ⟨k,e⟩ | ⟨k,e⟩ | ⟨k,_,e⟩ | ⟨k,Ms,a,e⟩ | ⟨k,e⟩ | ⟨k,Ms,_,a,a0,e⟩ | ⟨k,e⟩ | ⟨k,_,e⟩ | ⟨k,w,a,e⟩ | ⟨k,e⟩ <;> rw[e]at h8 ⊢ <;> simp at h8 ⊢
         obtain⟨w0,w1,_⟩:=a;omega
       · cases h
     · split at h
       · rename_i h7;have:u=(l.getD j dSType).Elem:=by simpa using h
         rw[this];rcases ht with⟨k,e⟩ | ⟨k,e⟩ | ⟨k,e⟩ | ⟨k,_,e⟩ | ⟨k,Ms,a,e⟩ | ⟨k,e⟩ | ⟨k,Ms,_,a,a0,e⟩ | ⟨k,e⟩ | ⟨k,_,e⟩ | ⟨k,w,a,e⟩ | ⟨k,e⟩ <;> rw[e]at h7 ⊢ <;> simp at h7 ⊢ <;> omega
       · cases h
   · have ht:=hT j hj;unfold TyP at ht;simp only[g7]at ht;rcases ht with⟨k,e⟩ | ⟨k,e⟩ | ⟨k,e⟩ | ⟨k,_,e⟩ | ⟨k,Ms,a,e⟩ | ⟨k,e⟩ | ⟨k,Ms,_,a,a0,e⟩ | ⟨k,e⟩ | ⟨k,_,e⟩ | ⟨k,w,a,e⟩ | ⟨k,e⟩ <;> rw[e]at h8 ⊢ <;> simp at h8 ⊢
     obtain⟨w0,w1,w2,w3⟩:=a;obtain⟨q,rfl⟩:∃q:Nat,w=(q:Int):=⟨w.toNat,by omega⟩
     obtain⟨a,_,_⟩:=gxf (hT q (by omega));have:=a (.inl (by omega));simp only[g7];rw[←List.getD_eq_getElem?_getD];omega
 refine⟨by omega,by omega,okT,vok,lift fun j hj m hm hd=>?_,fun j hj m hm=>?_,lift fun j hj h2=>?_,lift fun j hj=>?_,lift fun j hj=>⟨fun m hm=>?_,fun y hy=>?_,?_⟩,lift fun j hj m hm hd=>?_⟩
 · obtain⟨r,q⟩:=mem j hj m hm;have hi:=q.dfl hd;obtain⟨u0,u1,_⟩:=q.tgt;generalize m.Default=v at hi;obtain⟨u,hu⟩:∃u:Nat,m.Type_=(u:Int):=⟨m.Type_.toNat,by omega⟩
   rw[hu]at hi u0 u1 ⊢;have ht:=hT u (by omega);obtain⟨a,b,c,hi⟩:=hi;rw[g6u];simp only[g7]at hi ⊢;unfold TyP at ht;simp only[g7]at ht;have hlen:((l.length:Nat):Int)=ns.length:=by omega
   rw[hlen];generalize l.getD u dSType=x at ht ⊢;rw[a,b,c];have vn:∀t,vfits l true t []:=fun t=>by rw[vfits];trivial
   have ka:g6t []:=fun i hi=>by simp at hi
   have hxu:=hx u (by omega);generalize ns.getD u dNd=nd at ht hi hxu;rcases hi with⟨k,e1,e2,e3,e4⟩ | ⟨k,e1,e2,e3,e4,e5,e6⟩ | ⟨k,e1,e2,e3,e4,e5⟩ | ⟨k,e1,e2,e3,e4,e5⟩ | ⟨k,e1,e2,e3,e4,e5⟩
   · rw[k]at ht;simp only[Int.reduceEq,false_and,true_and,or_false,false_or]at ht;rw[ht,e1,e2,e3,e4];simp <;> omega
   · rw[k]at ht;simp only[Int.reduceEq,false_and,true_and,or_false,false_or]at ht;rw[ht,e1,e2,e3,e4];simp <;> omega
   · rw[k]at ht;simp only[Int.reduceEq,false_and,true_and,or_false,false_or]at ht;rw[ht,e1,e2,e3,e4];simp <;> omega
   · rw[k]at ht;simp only[Int.reduceEq,false_and,true_and,or_false,false_or]at ht;obtain⟨o,rfl⟩:=ht;rw[e1,e2,e3,e4];simp;refine⟨by omega,⟨v.ID,[UInt8.ofNat 115,UInt8.ofNat (97+v.ID.toNat)]⟩,?_,rfl⟩;unfold symsL;refine List.mem_map.2 ⟨v.ID,?_,rfl⟩;exact e5
   · rw[e1,e2,e3,e4];have k9:kd ns (u:Int)≤9:=(kd_eq hN h5 u0 u1).2.2;have hcc:kd ns (u:Int)=7∨kd ns (u:Int)=8∨kd ns (u:Int)=9:=by omega
     have ha:=hxu.a;unfold U8 at ha;rcases hcc with k' | k' | k'
     · rw[k']at ht e5;simp only[Int.reduceEq,false_and,true_and,or_false,false_or]at ht;have e5':v.Kind=7:=by simpa using e5
       rw[ht,e5'];simp[vn];omega
     · rw[k']at ht e5;simp at e5;rcases e5 with⟨e5,w,hw⟩ | ⟨e5,e6⟩
       · simp at ht;rcases ht with⟨hno,_⟩ | ⟨w',hw',rfl⟩
         · exact absurd hw (hno w)
         · rw[e5];simp[vn,ka];omega
       · simp at ht;rcases ht with⟨hno,rfl⟩ | ⟨w',hw',rfl⟩
         · rw[e5];simp[vn];omega
         · exact absurd hw' (e6 w')
     · rw[k']at ht e5;simp only[Int.reduceEq,false_and,true_and,or_false,false_or]at ht;have e5':v.Kind=9:=by simpa using e5
       rw[ht,e5'];simp[vn];omega
 · obtain⟨r,q⟩:=mem j (by omega) m hm;obtain⟨u0,u1,u2⟩:=q.tgt;refine⟨u0,by omega,?_⟩;rcases u2 with h | h
   · exact .inl (kind7 _ u0 u1 h)
   · exact .inr h
 · have ht:=hT j hj;have ha:=(hx j hj).a;have hb:=(hx j hj).b;unfold U8 at ha hb;unfold TyP at ht;simp only[g7]at ht;rcases ht with⟨k,e⟩ | ⟨k,e⟩ | ⟨k,e⟩ | ⟨k,_,e⟩ | ⟨k,Ms,a,e⟩ | ⟨k,e⟩ | ⟨k,Ms,_,a,a0,e⟩ | ⟨k,e⟩ | ⟨k,_,e⟩ | ⟨k,w,a,e⟩ | ⟨k,e⟩ <;> rw[e]at h2 ⊢ <;> simp at h2 ⊢
   omega
 · have ht:=hT j hj;have ha:=(hx j hj).a;unfold U8 at ha;unfold TyP at ht;simp only[g7]at ht;rcases ht with⟨k,e⟩ | ⟨k,e⟩ | ⟨k,e⟩ | ⟨k,_,e⟩ | ⟨k,Ms,a,e⟩ | ⟨k,e⟩ | ⟨k,Ms,_,a,a0,e⟩ | ⟨k,e⟩ | ⟨k,_,e⟩ | ⟨k,w,a,e⟩ | ⟨k,e⟩ <;> rw[e] <;> simp <;> omega
 · obtain⟨r,q⟩:=mem j hj m hm;exact q.id.2
 · have ht:=hT j hj;have hid:=ids_eq' (ns.getD j dNd);unfold TyP at ht;simp only[g7]at ht;rcases ht with⟨k,e⟩ | ⟨k,e⟩ | ⟨k,e⟩ | ⟨k,_,e⟩ | ⟨k,Ms,a,e⟩ | ⟨k,e⟩ | ⟨k,Ms,_,a,a0,e⟩ | ⟨k,e⟩ | ⟨k,_,e⟩ | ⟨k,w,a,e⟩ | ⟨k,e⟩ <;> rw[e]at hy <;> simp at hy
   exact(gq0 hid.2.1 hid.2.2.1 hid.2.2.2).2 y hy
 · rcases gje (hT j hj)with h | ⟨r,_,_,h⟩
   · rw[h];simp
   · exact h
 · obtain⟨r,q⟩:=mem j hj m hm;exact(gxe hN h5 ⟨q.tgt.1,q.tgt.2.1⟩ (q.dfl hd)).2
end
theorem of_ok{d:Sheaveref07Draft}(hd:DOk d) :g6i d=some (⟨[]⟩,false)∨∃l,g6i d=some (⟨l⟩,true)∧DrOk l:=by
 rcases of_eq hd with h | ⟨l,a,b,c,e,f⟩
 · exact .inl h
 · exact .inr ⟨l,a,g13o hd.2 c b e f⟩
end
section
open Go Go.Proofs.YthnmepafpikaiaaGreat.Shv Go.Sort
set_option maxRecDepth 100000
def Suf(C' C:List Int) :Prop:=C'.length≤C.length∧∀c,c∈C'→c∈C
theorem Suf.refl(C:List Int) :Suf C C:=⟨Nat.le_refl _,fun _ h=>h⟩
theorem Suf.trans{A B C:List Int}(h:Suf A B)(k:Suf B C) :Suf A C:=⟨Nat.le_trans h.1 k.1,fun c hc=>k.2 c (h.2 c hc)⟩
def CU8(C:List Int) :Prop:=∀c,c∈C→U8 c
theorem CU8.suf{A B:List Int}(h:CU8 B)(k:Suf A B) :CU8 A:=fun c hc=>h c (k.2 c hc)
section
variable {ts:List SType}
theorem g7j {n : Int} (hn : 1 ≤ n ∧ n ≤ 1000) {C : List Int} (hC : CU8 C) (hl : C.length ≤ 1000) (odd : Bool) :
   ∃r C',gx (n,ts,C,odd)=some (r,ts,C',odd)∧0≤r∧r < n∧Suf C' C∧(r=0∧C'=[]∧C=[]∨C'.length+1=C.length):=by
 rw[gx];cases C with
 | nil=>
   rw[if_pos (by simp)];exact⟨0,[],rfl,by omega,by omega,Suf.refl _,.inl ⟨rfl,rfl,rfl⟩⟩
 | cons c C=>
   have hc:=hC c (.head _);unfold U8 at hc;have h0:inR 0 (c::C).length=true:=g6 (k:=0) (by simp);have h1:slR 1 ((c::C).length:Int) (c::C).length=true:=g57 (a:=1) (by simp) (by simp);have h2:cutL (c::C) 1 ((c::C).length:Int)=C:=by
     have:=g6w (c::C) 1
     simpa using this
   rw[if_neg (by simp;omega),if_pos h0,if_pos (nz (by omega)),if_pos h1,h2];simp only[Int.toNat_zero,List.getD_cons_zero];rw[ga8 ⟨by omega,by omega⟩,g65 hc.1 (by omega)];exact⟨_,C,rfl,Int.emod_nonneg _ (by omega),Int.emod_lt_of_pos _ (by omega),⟨by simp,fun x hx=>.tail _ hx⟩,.inr (by simp)⟩
theorem guy {C : List Int} (hC : CU8 C) (hl : C.length ≤ 1000) (odd : Bool) :
   ∃o C',g4n (ts,C,odd)=some (o,ts,C',odd)∧(odd=false→o=false)∧Suf C' C:=by
 rw[g4n];cases odd with
 | false=>exact⟨false,C,rfl,fun _=>rfl,Suf.refl _⟩
 | true=>
   obtain⟨r,C',h1,_,_,h4,_⟩:=g7j (ts:=ts) (n:=4) ⟨by omega,by omega⟩ hC hl true;rw[if_pos rfl,h1];exact⟨_,C',rfl,fun h=>(by cases h),h4⟩
theorem g14t{x:SType}(hm:x.Members.length < 9223372036854775807)(hs:x.Symbols.length < 9223372036854775807)(n:Int) :SaysP (g98 (x,n)) ((∃m,m∈x.Members∧m.ID=n)∨∃y,y∈x.Symbols∧y.ID=n):=by
 obtain⟨r,_,r2,hf⟩:=g3x (t:=x) n hm;obtain⟨s,_,s2,hg⟩:=gaw (t:=x) n hs;rw[g98,r2];simp only[oZ4,oZ3];rw[s2];refine⟨_,rfl,?_⟩;have h1:=ge5 hg;have h2:r.2=true↔∃m,m∈x.Members∧m.ID=n:=by
   rcases g5h hf with⟨e,j,q1,_,_,q4⟩ | ⟨e,q⟩
   · rw[e];simp only[true_iff];exact⟨_,g8 q1 dSMember,q4⟩
   · rw[e];have:=gaj q;simp;exact this
 rw[←h1,←h2];cases r.2 <;> cases s.2 <;> simp
theorem gq1 {x : SType} (hm : x.Members.length < 9223372036854775807) (hs : x.Symbols.length < 9223372036854775807) (h12 : ∀ m, m ∈ x.Members → m.ID ≤ 12) (h6 : ∀ y, y ∈ x.Symbols → y.ID ≤ 6) (C : List Int) (odd : Bool) :
   ∀(k:Nat) (n:Int),1≤n→n≤14→13≤n+k→∃n',g3b (n,ts,C,odd,x)=some (n',ts,C,odd)∧1≤n'∧n'≤14∧(∀m,m∈x.Members→m.ID≠n')∧(∀y,y∈x.Symbols→y.ID≠n')
 | k,n,h1,h14,hk=>by
   obtain⟨r,r1,r2⟩:=g14t hm hs n;rw[g3b,r1];simp only[oZ4,oZ3];cases r with
   | false=>
     rw[if_neg (by simp)];refine⟨n,rfl,h1,h14,fun m hm' e=>?_,fun y hy e=>?_⟩
     · have:=r2.2 (.inl ⟨m,hm',e⟩);cases this
     · have:=r2.2 (.inr ⟨y,hy,e⟩);cases this
   | true=>
     have hle:n≤12:=by
       rcases r2.1 rfl with⟨m,hm',e⟩ | ⟨y,hy,e⟩
       · have:=h12 m hm';omega
       · have:=h6 y hy;omega
     rw[if_pos rfl,g7n (by omega) (by omega)]
     match k,hk with
     | 0,hk=>omega
     | k+1,hk=>exact gq1 hm hs h12 h6 C odd k (n+1) (by omega) (by omega) (by omega)
theorem gjf {x : SType} (hm : x.Members.length < 9223372036854775807) (hs : x.Symbols.length < 9223372036854775807) (h12 : ∀ m, m ∈ x.Members → m.ID ≤ 12) (h6 : ∀ y, y ∈ x.Symbols → y.ID ≤ 6) {C : List Int} (hC : CU8 C) (hl : C.length ≤ 1000) (odd : Bool) :
   ∃n C',g2j (x,ts,C,odd)=some (n,ts,C',odd)∧I1000 n∧findM x.Members n=none∧Suf C' C:=by
 obtain⟨r,C',h1,h2,h3,h4,_⟩:=g7j (ts:=ts) (n:=14) ⟨by omega,by omega⟩ hC hl odd;obtain⟨n,n1,n2,n3,n4,_⟩:=gq1 (ts:=ts) hm hs h12 h6 C' odd 12 (1+r) (by omega) (by omega) (by omega);refine⟨n,C',?_,⟨by omega,by omega⟩,?_,h4⟩
 · rw[g2j,h1];simp only[oZ4,oZ3];rw[g7n (by omega) (by omega),n1];rfl
 · unfold findM;rw[List.find?_eq_none];intro m hm'
   simpa using n4 m hm'
theorem guz{n:Int}{C:List Int}(hC:CU8 C)(hl:C.length≤1000)(odd:Bool) :∃d C',g4o (n,ts,C,odd)=some (⟨n,d⟩,ts,C',odd)∧d.length≤3∧Suf C' C:=by
 obtain⟨r,C',h1,h2,h3,h4,_⟩:=g7j (ts:=ts) (n:=4) ⟨by omega,by omega⟩ hC hl odd;obtain⟨k,rfl⟩:∃k:Nat,r=(k:Int):=⟨r.toNat,by omega⟩
 rw[g4o];simp only[oZ4,oZ3];rw[h1];simp only[oZ3];rw[if_pos (g6 (by simp;omega)),g7];refine⟨_,C',rfl,?_,h4⟩;have:k=0∨k=1∨k=2∨k=3:=by omega
 rcases this with rfl | rfl | rfl | rfl <;> simp
theorem gxg(odd:Bool) :∀(k:Nat) (s:List UInt8) (C:List Int),k≤100→CU8 C→C.length≤1000→s.length+k≤100→∃s' C',g33 (s,(k:Int),ts,C,odd)=some (s',ts,C',odd)∧s'.length≤s.length+k∧Suf C' C
 | 0,s,C,hk,hC,hl,hs=>⟨s,C,by rw[g33,if_neg (by simp)],by omega,Suf.refl _⟩
 | k+1,s,C,hk,hC,hl,hs=>by
   obtain⟨r,C',h1,h2,h3,h4,_⟩:=g7j (ts:=ts) (n:=3) ⟨by omega,by omega⟩ hC hl odd;have hpos:decide ((0:Int) < ((k+1:Nat):Int))=true:=by rw[decide_eq_true_eq];omega
   have e:subI .i64 ((k+1:Nat):Int) 1=(k:Int):=by rw[g5c (by omega) (by omega)];omega
   rw[g33,if_pos hpos,h1];simp only[oZ4,oZ3];rw[gus ⟨h2,by omega⟩,if_pos (g39 (by simp;omega)),e];obtain⟨s',C'',a1,a2,a3⟩:=gxg odd k (s++[UInt8.ofNat (97+r.toNat)]) C' (by omega) (hC.suf h4) (by have:=h4.1;omega) (by simp;omega);exact⟨s',C'',a1,by simp at a2;omega,a3.trans h4⟩
theorem g14u{most:Int}(hm:0≤most∧most≤1000){C:List Int}(hC:CU8 C)(hl:C.length≤1000)(odd:Bool) :∃s C',g6l (most,ts,C,odd)=some (s,ts,C',odd)∧(s.length:Int)≤most∧s.length≤3∧Suf C' C:=by
 have em:addI .i64 (minI most 3) 1=min most 3+1:=by
   have:minI most 3=min most 3:=rfl;rw[this,g7n (by omega) (by omega)]
 obtain⟨r,C',h1,h2,h3,h4,_⟩:=g7j (ts:=ts) (n:=min most 3+1) ⟨by omega,by omega⟩ hC hl odd;obtain⟨k,rfl⟩:∃k:Nat,r=(k:Int):=⟨r.toNat,by omega⟩
 obtain⟨s,C'',a1,a2,a3⟩:=gxg (ts:=ts) odd k [] C' (by omega) (hC.suf h4) (by have:=h4.1;omega) (by simp;omega);refine⟨s,C'',?_,by simp at a2;omega,by simp at a2;omega,a3.trans h4⟩;rw[g6l,em,h1];simp only[oZ4,oZ3];rw[a1];rfl
end
theorem ggl :∀a b:List UInt8,Op.bytesLess a b=false→a≠b→Op.bytesLess b a=true
 | [],[],_,h=>absurd rfl h
 | [],y::b,h,_=>by simp[Op.bytesLess]at h
 | x::a,[],h,_=>by simp[Op.bytesLess]
 | x::a,y::b,h,hne=>by
   simp only[Op.bytesLess]at h ⊢;by_cases h1:x < y
   · simp[h1]at h
   · by_cases h2:y < x
     · simp[h2]
     · have e:x=y:=by
         have h1':¬x.toNat < y.toNat:=h1;have h2':¬y.toNat < x.toNat:=h2;exact UInt8.toNat_inj.1 (by omega)
       subst e;have hr:Op.bytesLess a b=false:=by simpa using h
       have:=ggl a b hr (fun e=>hne (by rw[e]));simp[this]
theorem gjg{a b:SValue}(ha:I64 a.Int_)(hb:I64 b.Int_) :g3k (a,b)=some (vcmp a b):=by
 obtain⟨r,h1,h2⟩:=gfs ha hb;unfold vcmp;rw[h1,h2];rfl
theorem g12e{a b:SValue}(ha:I64 a.Int_)(hb:I64 b.Int_)(h:0 < vcmp a b) :vcmp b a < 0:=by
 have h1:=gjg ha hb;have h2:=gjg hb ha;generalize vcmp a b=r at h h1;generalize vcmp b a=q at h2;rw[g3k]at h1 h2;by_cases hk:a.Kind=b.Kind
 · rw[if_neg (by simp[hk])]at h1 h2;by_cases k1:a.Kind=1
   · have k1':b.Kind=1:=by omega
     rw[if_pos (by simp[k1])]at h1;rw[if_pos (by simp[k1'])]at h2;simp only[g21,eqB]at h1 h2;cases hA:a.Bool_ <;> cases hB:b.Bool_ <;> simp[hA,hB]at h1 h2 <;> omega
   · have k1':¬b.Kind=1:=by omega
     rw[if_neg (by simp[k1])]at h1;rw[if_neg (by simp[k1'])]at h2;by_cases k2:a.Kind=2
     · have k2':b.Kind=2:=by omega
       rw[if_pos (by simp[k2]),gfr ha,gfr hb]at h1;rw[if_pos (by simp[k2']),gfr ha,gfr hb]at h2;simp only[oZ4,oZ3,g21]at h1 h2;by_cases e:a.Int_=b.Int_
       · simp[e]at h1;omega
       · have hz:zig a.Int_≠zig b.Int_:=fun h=>e (gqn h)
         have e':¬b.Int_=a.Int_:=fun h=>e h.symm
         by_cases hl:zig a.Int_ < zig b.Int_
         · simp[e,hl]at h1;omega
         · have hl':zig b.Int_ < zig a.Int_:=by omega
           simp[e',hl']at h2;omega
     · have k2':¬b.Kind=2:=by omega
       rw[if_neg (by simp[k2])]at h1;rw[if_neg (by simp[k2'])]at h2;by_cases k3:a.Kind=3
       · have k3':b.Kind=3:=by omega
         rw[if_pos (by simp[k3])]at h1;rw[if_pos (by simp[k3'])]at h2;simp only[oZ4,oZ3,g21]at h1 h2;by_cases hl:a.Str.length=b.Str.length
         · rw[if_neg (by simp[hl])]at h1 h2;by_cases e:a.Str=b.Str
           · simp[e]at h1;omega
           · have e':¬b.Str=a.Str:=fun h=>e h.symm
             cases hb':Op.bytesLess a.Str b.Str with
             | true=>simp[e,hb']at h1;omega
             | false=>
               have:=ggl _ _ hb' e;simp[e',this]at h2;omega
         · have hl1:¬(a.Str.length:Int)=(b.Str.length:Int):=by omega
           have hl2:¬(b.Str.length:Int)=(a.Str.length:Int):=by omega
           rw[if_pos (by simp only[hl1,decide_false,Bool.not_false])]at h1;rw[if_pos (by simp only[hl2,decide_false,Bool.not_false])]at h2;by_cases hlt:(a.Str.length:Int) < (b.Str.length:Int)
           · simp[hlt]at h1;omega
           · have hlt':(b.Str.length:Int) < (a.Str.length:Int):=by omega
             simp[hlt']at h2;omega
       · have k3':¬b.Kind=3:=by omega
         rw[if_neg (by simp[k3])]at h1;rw[if_neg (by simp[k3'])]at h2;by_cases k4:a.Kind=4
         · have k4':b.Kind=4:=by omega
           rw[if_pos (by simp[k4])]at h1;rw[if_pos (by simp[k4'])]at h2;simp only[oZ4,oZ3,g21]at h1 h2;by_cases e:a.ID=b.ID
           · simp[e]at h1;omega
           · have e':¬b.ID=a.ID:=fun h=>e h.symm
             by_cases hlt:a.ID < b.ID
             · simp[e,hlt]at h1;omega
             · have hlt':b.ID < a.ID:=by omega
               simp[e',hlt']at h2;omega
         · rw[if_neg (by simp[k4])]at h1;cases h1;omega
 · rw[if_pos (by simp[hk])]at h1;cases h1;omega
theorem put_l0' {v key item : SValue} (hl : v.Keys.length < 1000000) (hk : ∀ x, x ∈ v.Keys → I64 x.Int_) (hkey : I64 key.Int_) (a : Int) (b : Bool) (c : Int) (d : List UInt8) (e : Int) : ∀ (k i : Nat), i + k = v.Keys.length →
   (∀j,j < i→vcmp (v.Keys.getD j dSValue) key < 0)→∃m:Nat,m≤v.Keys.length∧g4a ((i:Int),v,key,item,a,b,c,d,e)=some ((m:Int),v,key,item,a,b,c,d,e)∧(∀j,j < m→vcmp (v.Keys.getD j dSValue) key < 0)∧(m < v.Keys.length→0≤vcmp (v.Keys.getD m dSValue) key)
 | 0,i,hi,hj=>by
   have hd:decide ((i:Int) < (v.Keys.length:Int))=false:=by simp;omega
   refine⟨i,by omega,?_,hj,fun h=>by omega⟩;rw[g4a];simp only[oZ4,oZ3,hd,Bool.not_false,Bool.or_true,if_true,Bool.false_eq_true,if_false,cond_false,SValue.gr]
 | k+1,i,hi,hj=>by
   have hlt:i < v.Keys.length:=by omega
   have hd:decide ((i:Int) < (v.Keys.length:Int))=true:=by simp;omega
   have hc:=gjg (hk _ (g8 hlt dSValue)) hkey;rw[g4a];simp only[oZ4,oZ3,hd,Bool.not_true,Bool.or_false,if_true,cond_true,SValue.gr,g7];rw[if_pos (g6 hlt),hc];simp only[oZ3];by_cases hneg:vcmp (v.Keys.getD i dSValue) key < 0
   · rw[if_pos (by simpa using hneg),ge (by omega)];refine put_l0' hl hk hkey a b c d e k (i+1) (by omega) fun j hj'=>?_
     by_cases g:j < i
     · exact hj j g
     · have:j=i:=by omega
       subst this;exact hneg
   · rw[if_neg (by simpa using hneg)];exact⟨i,by omega,rfl,hj,fun _=>by omega⟩
theorem g9c :∀(a b:List SValue),wts (a++b)=wts a+wts b
 | [],b=>by rw[g6j];simp
 | x::a,b=>by rw[List.cons_append,g7r,g7r,g9c a b];omega
theorem gv0{α:Type}{l:List α}{m:Nat}{x d:α}(hm:m≤l.length)(i:Nat) :(l.take m++(x::l.drop m)).getD i d=if i < m then l.getD i d else if i=m then x else l.getD (i - 1) d:=by
 by_cases h1:i < m
 · rw[if_pos h1,List.getD_eq_getElem?_getD,List.getElem?_append_left (by simp;omega),List.getElem?_take_of_lt h1,←List.getD_eq_getElem?_getD]
 · rw[if_neg h1,List.getD_eq_getElem?_getD,List.getElem?_append_right (by simp;omega)];have hl:(l.take m).length=m:=by simp;omega
   rw[hl];by_cases h2:i=m
   · subst h2;simp
   · rw[if_neg h2];have:i - m=(i - m - 1)+1:=by omega
     rw[this,List.getElem?_cons_succ,List.getElem?_drop];have:m+(i - m - 1)=i - 1:=by omega
     rw[this,←List.getD_eq_getElem?_getD]
theorem g17p {v key item : SValue} (hl : v.Keys.length < 1000) (hl2 : v.Items.length = v.Keys.length) (hk : ∀ x, x ∈ v.Keys → I64 x.Int_) (hkey : I64 key.Int_) (ha : g6t v.Keys) :
   ∃ks is,g9t (v,key,item)=some ⟨v.Kind,v.Bool_,v.Int_,v.Str,v.ID,ks,is,v.Rest⟩∧is.length=ks.length∧ks.length≤v.Keys.length+1∧g6t ks∧(∀x,x∈ks→x∈v.Keys∨x=key)∧(∀x,x∈is→x∈v.Items∨x=item)∧wts ks+wts is≤wts v.Keys+wts v.Items+wt key+wt item:=by
 obtain⟨m,m1,m2,m3,m4⟩:=put_l0' (item:=item) (by omega) hk hkey 0 false 0 [] 0 v.Keys.length 0 (by omega) (fun j hj=>by omega);have m2':g4a (0,v,key,item,0,false,0,[],0)=_:=m2;rw[g9t];simp only[SValue.gr];rw[m2'];simp only[oZ4,oZ3,SValue.gr]
 have ins:∀(hne:m < v.Keys.length→0 < vcmp (v.Keys.getD m dSValue) key),∃ks is,(some (⟨v.Kind,v.Bool_,v.Int_,v.Str,v.ID,v.Keys.take m++(key::v.Keys.drop m),v.Items.take m++(item::v.Items.drop m),v.Rest⟩:SValue):Option SValue)=some ⟨v.Kind,v.Bool_,v.Int_,v.Str,v.ID,ks,is,v.Rest⟩∧is.length=ks.length∧ks.length≤v.Keys.length+1∧g6t ks∧(∀x,x∈ks→x∈v.Keys∨x=key)∧(∀x,x∈is→x∈v.Items∨x=item)∧wts ks+wts is≤wts v.Keys+wts v.Items+wt key+wt item:=by
   intro hne;refine⟨_,_,rfl,by simp;omega,by simp;omega,fun i hi=>?_,fun x hx=>?_,fun x hx=>?_,?_⟩
   · rw[gv0 m1,gv0 m1];have hlen:(v.Keys.take m++(key::v.Keys.drop m)).length=v.Keys.length+1:=by simp;omega
     rw[hlen]at hi;by_cases h1:i+1 < m
     · rw[if_pos (by omega),if_pos h1];exact ha i (by omega)
     · by_cases h2:i+1=m
       · rw[if_pos (by omega),if_neg h1,if_pos h2];exact m3 i (by omega)
       · by_cases h3:i=m
         · rw[if_neg (by omega),if_pos h3,if_neg h1,if_neg h2];have e:i+1 - 1=m:=by omega
           rw[e];exact g12e (hk _ (g8 (by omega) dSValue)) hkey (hne (by omega))
         · rw[if_neg (by omega),if_neg h3,if_neg h1,if_neg h2];have:=ha (i - 1) (by omega);have e:i - 1+1=i+1 - 1:=by omega
           rw[e]at this;exact this
   · rcases List.mem_append.1 hx with h | h
     · exact .inl (List.mem_of_mem_take h)
     · rcases List.mem_cons.1 h with h | h
       · exact .inr h
       · exact .inl (List.mem_of_mem_drop h)
   · rcases List.mem_append.1 hx with h | h
     · exact .inl (List.mem_of_mem_take h)
     · rcases List.mem_cons.1 h with h | h
       · exact .inr h
       · exact .inl (List.mem_of_mem_drop h)
   · rw[g9c,g9c,g7r,g7r];have e1:wts v.Keys=wts (v.Keys.take m)+wts (v.Keys.drop m):=by rw[←g9c,List.take_append_drop]
     have e2:wts v.Items=wts (v.Items.take m)+wts (v.Items.drop m):=by rw[←g9c,List.take_append_drop]
     omega
 have s1:slR 0 (m:Int) v.Keys.length=true:=g57 (a:=0) (by omega) m1;have s2:slR (m:Int) (v.Keys.length:Int) v.Keys.length=true:=g57 m1 (by omega);have s3:slR 0 (m:Int) v.Items.length=true:=g57 (a:=0) (by omega) (by omega);have s4:slR (m:Int) (v.Items.length:Int) v.Items.length=true:=g57 (by omega) (by omega)
 have build:∀{o:Option SValue→Prop},o (some (⟨v.Kind,v.Bool_,v.Int_,v.Str,v.ID,v.Keys.take m++(key::v.Keys.drop m),v.Items.take m++(item::v.Items.drop m),v.Rest⟩:SValue))→o (some (⟨v.Kind,v.Bool_,v.Int_,v.Str,v.ID,v.Keys.take m++(key::v.Keys.drop m),v.Items.take m++(item::v.Items.drop m),v.Rest⟩:SValue)):=fun h=>h
 by_cases hin:m < v.Keys.length
 · have hd:decide ((m:Int) < (v.Keys.length:Int))=true:=by simp;omega
   have hc:=gjg (hk _ (g8 hin dSValue)) hkey;simp only[hd,Bool.not_true,Bool.or_false,if_true,cond_true,g7];rw[if_pos (g6 hin),hc];simp only[oZ3];by_cases h0:vcmp (v.Keys.getD m dSValue) key=0
   · rw[if_pos (by simpa using h0)];refine⟨v.Keys,v.Items,by cases v;rfl,hl2,by omega,ha,fun x hx=>.inl hx,fun x hx=>.inl hx,by omega⟩
   · rw[if_neg (by simpa using h0),if_pos s1,if_pos (g44 (by omega) (by simp[cutL];omega))];rw[if_pos (g44 (by omega) (by simp[cutL];omega)),if_pos s2,if_pos (g44 (by omega) (by simp[cutL];omega)),if_pos s3,if_pos (g44 (by omega) (by simp[cutL];omega)),if_pos (g44 (by omega) (by simp[cutL];omega)),if_pos s4,if_pos (g44 (by omega) (by simp[cutL];omega))]
     rw[g94,g94,g6w,g6w];simp only[List.nil_append,List.append_assoc,List.singleton_append];exact ins fun _=>by have:=m4 hin;omega
 · have hd:decide ((m:Int) < (v.Keys.length:Int))=false:=by simp;omega
   simp only[hd,Bool.not_false,Bool.or_true,if_true,Bool.false_eq_true,if_false,cond_false,oZ3];rw[if_pos s1,if_pos (g44 (by omega) (by simp[cutL];omega))]
   rw[if_pos (g44 (by omega) (by simp[cutL];omega)),if_pos s2,if_pos (g44 (by omega) (by simp[cutL];omega)),if_pos s3,if_pos (g44 (by omega) (by simp[cutL];omega)),if_pos (g44 (by omega) (by simp[cutL];omega)),if_pos s4,if_pos (g44 (by omega) (by simp[cutL];omega))];rw[g94,g94,g6w,g6w];simp only[List.nil_append,List.append_assoc,List.singleton_append]
   exact ins fun h=>absurd h hin
end
section
open Go Go.Proofs.YthnmepafpikaiaaGreat.Shv Go.Sort
set_option maxRecDepth 100000
section
variable {ts:List SType}
mutual
theorem vfit_weak :∀(v:SValue) (t:Int),vfit ts true t v→vfit ts false t v
 | ⟨k,b,i,s,id,ks,is,r⟩,t,h=>by
   rw[vfit]at h ⊢;obtain⟨⟨h1,h2,h3,h4⟩,h5⟩:=h;have w:=vfits_weak is;have wk:=vfits_weak ks;have wm:=vfitm_weak is;refine⟨⟨h1,h2,h3,fun h=>by cases h⟩,?_⟩
   have c6:(match findM (ts.getD t.toNat dSType).Members id with
     | some m=>r=[]∧is.length=1∧vfits ts true m.Type_ is
     | none=>(ts.getD t.toNat dSType).Open=true∧true=false∧I1000 id∧is=[]∧∃d,r=[⟨id,d⟩])→(match findM (ts.getD t.toNat dSType).Members id with
     | some m=>r=[]∧is.length=1∧vfits ts false m.Type_ is
     | none=>(ts.getD t.toNat dSType).Open=true∧false=false∧I1000 id∧is=[]∧∃d,r=[⟨id,d⟩]):=by
     split
     · rintro ⟨a,b,c⟩;exact⟨a,b,w _ c⟩
     · rintro ⟨_,b,_⟩;cases b
   rcases h5 with h | h | h | ⟨a1,a2,a3,a4,a5,a6,a7,a8⟩ | ⟨a1,a2,a3,a4,a5,a6,a7,a8⟩ | ⟨a1,a2,a3,a4,a5,a6⟩ | ⟨a1,a2,a3,a4,a5,a6,a7,a8,a9⟩ | ⟨a1,a2,a3,a4,a5,a6,a7,a8,a9,a10,a11⟩ | ⟨a1,a2,a3,a4,a5,a6,a7,a8,a9⟩
   · exact .inl h
   · exact .inr (.inl h)
   · exact .inr (.inr (.inl h))
   · refine .inr (.inr (.inr (.inl ⟨a1,a2,a3,a4,a5,a6,a7,?_⟩)));rcases a8 with h | ⟨_,h,_⟩
     · exact .inl h
     · cases h
   · exact .inr (.inr (.inr (.inr (.inl ⟨a1,a2,a3,a4,a5,a6,a7,wm _ a8⟩))))
   · exact .inr (.inr (.inr (.inr (.inr (.inl ⟨a1,a2,a3,a4,a5,c6 a6⟩)))))
   · exact .inr (.inr (.inr (.inr (.inr (.inr (.inl ⟨a1,a2,a3,a4,a5,a6,a7,a8,w _ a9⟩))))))
   · exact .inr (.inr (.inr (.inr (.inr (.inr (.inr (.inl ⟨a1,a2,a3,a4,a5,a6,a7,a8,wk _ a9,w _ a10,a11⟩)))))))
   · exact .inr (.inr (.inr (.inr (.inr (.inr (.inr (.inr ⟨a1,a2,a3,a4,a5,a6,a7,a8,w _ a9⟩)))))))
theorem vfits_weak :∀(l:List SValue) (t:Int),vfits ts true t l→vfits ts false t l
 | [],t,h=>by rw[vfits];trivial
 | v::l,t,h=>by
   rw[vfits]at h ⊢;exact⟨vfit_weak v t h.1,vfits_weak l t h.2⟩
theorem vfitm_weak :∀(l:List SValue) (ms:List SMember),vfitm ts true ms l→vfitm ts false ms l
 | [],[],h=>by rw[vfitm];trivial
 | [],m::ms,h=>by
   have:vfitm ts true (m::ms) []=False:=by rw[vfitm] <;> (intros;simp_all)
   rw[this]at h;exact h.elim
 | v::l,[],h=>by
   have:vfitm ts true [] (v::l)=False:=by rw[vfitm] <;> (intros;simp_all)
   rw[this]at h;exact h.elim
 | v::l,m::ms,h=>by
   rw[vfitm]at h ⊢;exact⟨vfit_weak v m.Type_ h.1,vfitm_weak l ms h.2⟩
end
theorem gnz{v:SValue}{t:Int}(h:vfit ts true t v)(pl:Bool) :vfit ts pl t v:=by
 cases pl with
 | true=>exact h
 | false=>exact vfit_weak v t h
def rk(ts:List SType)(t:Nat) :Nat:=if 7≤(ts.getD t dSType).Kind then 0 else t+1
def Aw :Nat→Nat
 | 0=>20
 | n+1=>12*Aw n+20
theorem Aw_le{a:Nat} :∀{b:Nat},a≤b→Aw a≤Aw b
 | 0, h => by have : a = 0 := by omega
              subst this;omega
 | b+1,h=>by
   by_cases e:a=b+1
   · subst e;omega
   · have:=Aw_le (a:=a) (b:=b) (by omega);simp only[Aw];omega
theorem Aw_20(r:Nat) :20≤Aw r:=Aw_le (a:=0) (Nat.zero_le _)
theorem Aw_5 :Aw 5=5429060:=rfl
def Mk(ts:List SType)(odd:Bool)(C:List Int)(r:Nat)(t:Int) :Prop:=∃v C',g13 (t,ts,C,odd)=some (v,ts,C',odd)∧vfit ts (!odd) t v∧OkV v∧Suf C' C∧wt v+32574360*C'.length≤Aw r+32574360*C.length
theorem g12f {odd : Bool} {c r : Nat} (hc : c ≤ 1000) {x : SType} (h12 : x.Members.length ≤ 12) (hm : ∀ m, m ∈ x.Members → (∀ C, CU8 C → C.length ≤ c → Mk ts odd C r m.Type_) ∧ (m.HasDefault = true → vfit ts true m.Type_ m.Default ∧ OkV m.Default ∧ wt m.Default ≤ 13))
   (a0:Int) (a1:Bool) (a2:Int) (a3:List UInt8) (a4:Int) (v0:Int) (v1:Bool) (v2:Int) (v3:List UInt8) (v4:Int):
   ∀(k i:Nat) (C:List Int) (acc:List SValue),i+k=x.Members.length→CU8 C→C.length≤c→acc.length=i→(∀j,j < i→vfit ts (!odd) (x.Members.getD j dSMember).Type_ (acc.getD j dSValue))→(∀y,y∈acc→OkV y)→
   ∃acc' C',g1h ((i:Int),ts,C,odd,a0,a1,a2,a3,a4,x.Kind,x.Name,x.Low,x.High,x.Max,x.Symbols,x.Members,x.Key,x.Elem,x.Open,v0,v1,v2,v3,v4,acc)=some (ts,C',odd,a0,a1,a2,a3,a4,x.Kind,x.Name,x.Low,x.High,x.Max,x.Symbols,x.Members,x.Key,x.Elem,x.Open,v0,v1,v2,v3,v4,acc')∧
     acc'.length=x.Members.length∧(∀j,j < x.Members.length→vfit ts (!odd) (x.Members.getD j dSMember).Type_ (acc'.getD j dSValue))∧(∀y,y∈acc'→OkV y)∧Suf C' C∧wts acc'+32574360*C'.length≤wts acc+k*Aw r+32574360*C.length
 | 0,i,C,acc,hi,hC,hl,ha,hf,ho=>⟨acc,C,by rw[g1h,if_neg (by simp;omega)],by omega,fun j hj=>hf j (by omega),ho,Suf.refl _,by omega⟩
 | k+1,i,C,acc,hi,hC,hl,ha,hf,ho=>by
   have hlt:i < x.Members.length:=by omega
   obtain⟨hmk,hdf⟩:=hm _ (g8 hlt dSMember)
   have next : ∀ (w : SValue) (C1 : List Int), vfit ts (!odd) (x.Members.getD i dSMember).Type_ w → OkV w → Suf C1 C → wt w + 32574360 * C1.length ≤ Aw r + 32574360 * C.length →
       ∃acc' C',(if room 120 (acc++[w]).length=true then g1h (addI .i64 (i:Int) 1,ts,C1,odd,a0,a1,a2,a3,a4,x.Kind,x.Name,x.Low,x.High,x.Max,x.Symbols,x.Members,x.Key,x.Elem,x.Open,v0,v1,v2,v3,v4,acc++[w])else none)=some (ts,C',odd,a0,a1,a2,a3,a4,x.Kind,x.Name,x.Low,x.High,x.Max,x.Symbols,x.Members,x.Key,x.Elem,x.Open,v0,v1,v2,v3,v4,acc')∧
         acc'.length=x.Members.length∧(∀j,j < x.Members.length→vfit ts (!odd) (x.Members.getD j dSMember).Type_ (acc'.getD j dSValue))∧(∀y,y∈acc'→OkV y)∧Suf C' C∧wts acc'+32574360*C'.length≤wts acc+(k+1)*Aw r+32574360*C.length:=by
     intro w C1 hw hok hs hwt;rw[if_pos (g44 (by omega) (by simp;omega)),ge (by omega)]
     obtain⟨acc',C',b1,b2,b3,b4,b5,b6⟩:=g12f hc h12 hm a0 a1 a2 a3 a4 v0 v1 v2 v3 v4 k (i+1) C1 (acc++[w]) (by omega) (hC.suf hs) (by have:=hs.1;omega) (by simp;omega) (fun j hj=>by
       by_cases h:j < i
       · have e:(acc++[w]).getD j dSValue=acc.getD j dSValue:=by
           rw[List.getD_eq_getElem?_getD,List.getD_eq_getElem?_getD,List.getElem?_append_left (by omega)]
         rw[e];exact hf j h
       · have e0:j=i:=by omega
         subst e0;have e:(acc++[w]).getD j dSValue=w:=by
           rw[List.getD_eq_getElem?_getD,List.getElem?_append_right (by omega),ha];simp
         rw[e];exact hw) (fun y hy=>by
       rcases List.mem_append.1 hy with h | h
       · exact ho y h
       · have:y=w:=by simpa using h
         subst this;exact hok)
     refine⟨acc',C',b1,b2,b3,b4,b5.trans hs,?_⟩;rw[g9c,g7r,g6j]at b6;have e:(k+1)*Aw r=k*Aw r+Aw r:=Nat.succ_mul _ _;omega
   rw[g1h,if_pos (by simp;omega),if_pos (g6 hlt)];simp only[oZ4,oZ3,g7,SValue.gr];cases hd:(x.Members.getD i dSMember).HasDefault with
   | true=>
     obtain⟨f1,f2,f3⟩:=hdf hd;obtain⟨q,C1,n1,n2,n3,n4,n5⟩:=g7j (ts:=ts) (n:=3) ⟨by omega,by omega⟩ hC (by omega) odd;rw[if_pos rfl,n1];simp only[oZ3,cond_true];by_cases h0:q=0
     · rw[if_pos (by simpa using h0)];have:=n4.1;have:=Aw_20 r;rw[if_pos (g6 hlt)];exact next _ C1 (gnz f1 _) f2 n4 (by omega)
     · rw[if_neg (by simpa using h0),if_pos (g6 hlt)];obtain⟨w,C2,m1,m2,m3,m4,m5⟩:=hmk C1 (hC.suf n4) (by have:=n4.1;omega);rw[m1];simp only[oZ3,SValue.gr];have:=n4.1;exact next w C2 m2 m3 (m4.trans n4) (by omega)
   | false=>
     rw[if_neg (by simp),if_neg (by simp),if_pos (g6 hlt)];obtain⟨w,C2,m1,m2,m3,m4,m5⟩:=hmk C hC hl;rw[m1];simp only[oZ3,SValue.gr];exact next w C2 m2 m3 m4 m5
theorem gxh {odd : Bool} {c r : Nat} (hc : c ≤ 1000) {x : SType} (hE : ∀ C, CU8 C → C.length ≤ c → Mk ts odd C r x.Elem)
   (a0:Int) (a1:Bool) (a2:Int) (a3:List UInt8) (a4:Int) (v0:Int) (v1:Bool) (v2:Int) (v3:List UInt8) (v4:Int):
   ∀(k:Nat) (C:List Int) (acc:List SValue),acc.length+k≤100→CU8 C→C.length≤c→(∀y,y∈acc→vfit ts (!odd) x.Elem y∧OkV y)→
   ∃acc' C',g2a ((k:Int),ts,C,odd,a0,a1,a2,a3,a4,x.Kind,x.Name,x.Low,x.High,x.Max,x.Symbols,x.Members,x.Key,x.Elem,x.Open,v0,v1,v2,v3,v4,acc)=some (ts,C',odd,a0,a1,a2,a3,a4,v0,v1,v2,v3,v4,acc')∧
     acc'.length=acc.length+k∧(∀y,y∈acc'→vfit ts (!odd) x.Elem y∧OkV y)∧Suf C' C∧wts acc'+32574360*C'.length≤wts acc+k*Aw r+32574360*C.length
 | 0,C,acc,ha,hC,hl,hf=>⟨acc,C,by rw[g2a,if_neg (by simp)],by omega,hf,Suf.refl _,by omega⟩
 | k+1,C,acc,ha,hC,hl,hf=>by
   have hpos:decide ((0:Int) < ((k+1:Nat):Int))=true:=by rw[decide_eq_true_eq];omega
   have e:subI .i64 ((k+1:Nat):Int) 1=(k:Int):=by rw[g5c (by omega) (by omega)];omega
   obtain⟨w,C2,m1,m2,m3,m4,m5⟩:=hE C hC hl;rw[g2a,if_pos hpos,m1];simp only[oZ4,oZ3,SValue.gr];rw[if_pos (g44 (by omega) (by simp;omega)),e]
   obtain⟨acc',C',b1,b2,b3,b4,b5⟩:=gxh hc hE a0 a1 a2 a3 a4 v0 v1 v2 v3 v4 k C2 (acc++[w]) (by simp;omega) (hC.suf m4) (by have:=m4.1;omega) (fun y hy=>by
     rcases List.mem_append.1 hy with h | h
     · exact hf y h
     · have:y=w:=by simpa using h
       subst this;exact⟨m2,m3⟩)
   refine⟨acc',C',b1,by simp at b2;omega,b3,b4.trans m4,?_⟩;rw[g9c,g7r,g6j]at b5;have e:(k+1)*Aw r=k*Aw r+Aw r:=Nat.succ_mul _ _;omega
theorem g12g {odd : Bool} {c r : Nat} (hc : c ≤ 1000) {x : SType} (hK : ∀ C, CU8 C → C.length ≤ c → Mk ts odd C r x.Key) (hE : ∀ C, CU8 C → C.length ≤ c → Mk ts odd C r x.Elem)
   (a0:Int) (a1:Bool) (a2:Int) (a3:List UInt8) (a4:Int) (v0:Int) (v1:Bool) (v2:Int) (v3:List UInt8) (v4:Int) (R:List SRaw):
   ∀(k:Nat) (C:List Int) (ks is:List SValue),ks.length+k≤100→is.length=ks.length→CU8 C→C.length≤c→(∀y,y∈ks→vfit ts (!odd) x.Key y∧OkV y)→(∀y,y∈is→vfit ts (!odd) x.Elem y∧OkV y)→g6t ks→
   ∃ks' is' C',g2b ((k:Int),ts,C,odd,a0,a1,a2,a3,a4,x.Kind,x.Name,x.Low,x.High,x.Max,x.Symbols,x.Members,x.Key,x.Elem,x.Open,v0,v1,v2,v3,v4,ks,is,R)=some (ts,C',odd,a0,a1,a2,a3,a4,v0,v1,v2,v3,v4,ks',is',R)∧
     ks'.length≤ks.length+k∧is'.length=ks'.length∧(∀y,y∈ks'→vfit ts (!odd) x.Key y∧OkV y)∧(∀y,y∈is'→vfit ts (!odd) x.Elem y∧OkV y)∧g6t ks'∧Suf C' C∧wts ks'+wts is'+32574360*C'.length≤wts ks+wts is+2*(k*Aw r)+32574360*C.length
 | 0,C,ks,is,ha,hli,hC,hl,hf,hg,hasc=>⟨ks,is,C,by rw[g2b,if_neg (by simp)],by omega,hli,hf,hg,hasc,Suf.refl _,by omega⟩
 | k+1,C,ks,is,ha,hli,hC,hl,hf,hg,hasc=>by
   have hpos:decide ((0:Int) < ((k+1:Nat):Int))=true:=by rw[decide_eq_true_eq];omega
   have e:subI .i64 ((k+1:Nat):Int) 1=(k:Int):=by rw[g5c (by omega) (by omega)];omega
   obtain⟨w,C2,m1,m2,m3,m4,m5⟩:=hK C hC hl;have hl2:=m4.1;obtain⟨z,C3,n1,n2,n3,n4,n5⟩:=hE C2 (hC.suf m4) (by omega);have hl3:=n4.1;obtain⟨ks1,is1,p1,p2,p3,p4,p5,p6,p7⟩:=g17p (v:=⟨v0,v1,v2,v3,v4,ks,is,R⟩) (key:=w) (item:=z) (by show ks.length < 1000;omega) hli (fun y hy=>geg (hf y hy).2) (geg m3) hasc;simp only at p1 p3 p5 p6 p7
   rw[g2b,if_pos hpos,m1];simp only[oZ4,oZ3,SValue.gr];rw[n1];simp only[oZ3,SValue.gr];rw[p1];simp only[oZ3];rw[e]
   obtain⟨ks',is',C',b1,b2,b3,b4,b5,b6,b7,b8⟩:=g12g hc hK hE a0 a1 a2 a3 a4 v0 v1 v2 v3 v4 R k C3 ks1 is1 (by omega) p2 ((hC.suf m4).suf n4) (by omega) (fun y hy=>by
     rcases p5 y hy with h | h
     · exact hf y h
     · subst h;exact⟨m2,m3⟩) (fun y hy=>by
     rcases p6 y hy with h | h
     · exact hg y h
     · subst h;exact⟨n2,n3⟩) p4
   refine⟨ks',is',C',b1,by omega,b3,b4,b5,b6,b7.trans (n4.trans m4),?_⟩;have e:(k+1)*Aw r=k*Aw r+Aw r:=Nat.succ_mul _ _;omega
end
end
section
open Go Go.Proofs.YthnmepafpikaiaaGreat.Shv Go.Sort
set_option maxRecDepth 100000
section
variable {ts:List SType}
theorem gfu{v:SValue}(hs:v.Str.length≤1000)(hk:∀x,x∈v.Keys→OkV x)(hi:∀x,x∈v.Items→OkV x)(h1:v.Keys.length≤1000)(h2:v.Items.length≤1000)(h3:v.Rest.length≤1000)(hr:∀x,x∈v.Rest→x.Data.length≤1000∧I64 x.ID)(n1:I64 v.Kind)(n2:I64 v.Int_)(n3:I64 v.ID) :OkV v:=
 .mk v (by unfold reachBytes;omega) (by unfold reachBytes;omega) (by unfold reachBytes;omega) (by unfold reachBytes;omega) hk hi (fun x hx=>by have:=(hr x hx).1;unfold reachBytes;omega) n1 n2 n3 (fun x hx=>(hr x hx).2)
theorem gb9{n:Int}(h:I1000 n) :I64 n:=by unfold I1000 at h;unfold I64;omega
def Gd(ts:List SType)(odd:Bool)(c r:Nat) :Prop:=∀t:Nat,t < ts.length→rk ts t≤r→∀C,CU8 C→C.length≤c→Mk ts odd C r (t:Int)
theorem gv1(H:DrOk ts){t:Nat}(ht:t < ts.length) :rk ts t≤5:=by
 unfold rk;have:=H.n5;split <;> omega
theorem g14v(H:DrOk ts){odd:Bool}{c r:Nat}(hc:c≤60)(Hc:∀c',c' < c→Gd ts odd c' 5)(Hr:∀r',r' < r→Gd ts odd c r') :Gd ts odd c r:=by
 intro t ht hrk C hC hl;have hxm:=g8 ht dSType;have hF:=H.V.F _ hxm;have hT:=H.T _ hxm;have hmx:=H.M _ hxm;obtain⟨hI12,hI6,hM12⟩:=H.I _ hxm;have hR:=H.R t ht;have hL:=H.L _ hxm;have hU:=H.V.U _ hxm;have hD:=H.D _ hxm;have hW:=H.W _ hxm;have hkd:rk ts t=if 7≤(ts.getD t dSType).Kind then 0 else t+1:=rfl
 unfold Mk;rw[g13,if_pos (g6 ht)];simp only[oZ4,oZ3,g7];have fitI:=fun v=>g6u (ts:=ts) (!odd) (t:Int) v
 simp only[g7]at fitI;generalize hx:ts.getD t dSType=x at*;have hA20:=Aw_20 r;have hin:(0:Int)≤t∧(t:Int) < ts.length:=by omega
 have leaf:∀(v:SValue) (C':List Int),v.Keys=[]→v.Items=[]→v.Rest=[]→v.Str.length≤3→Suf C' C→wt v+32574360*C'.length≤Aw r+32574360*C.length:=fun v C' a b c d e=>by
   rw[gxd a b c];have:=e.1;omega
 have below:∀C1:List Int,C1.length+1=C.length→∀u:Int,0≤u→u < ts.length→∀C2,CU8 C2→C2.length≤C1.length→Mk ts odd C2 5 u:=fun C1 h1 u hu0 hu1 C2 hC2 hl2=>by
   obtain⟨k,rfl⟩:∃k:Nat,u=(k:Int):=⟨u.toNat,by omega⟩
   exact Hc C1.length (by omega) k (by omega) (gv1 H (by omega)) C2 hC2 hl2
 have member:x.Kind=5∨x.Kind=6→1≤r∧∀m,m∈x.Members→∀C2,CU8 C2→C2.length≤c→Mk ts odd C2 (r - 1) m.Type_:=fun hk=>by
   have hrt:rk ts t=t+1:=by rw[hkd,if_neg (by omega)]
   refine⟨by omega,fun m hm C2 hC2 hl2=>?_⟩;obtain⟨a,b,cc⟩:=hR m hm;obtain⟨k,hk'⟩:∃k:Nat,m.Type_=(k:Int):=⟨m.Type_.toNat,by omega⟩
   rw[hk']at cc ⊢;refine Hr (r - 1) (by omega) k (by omega) ?_ C2 hC2 hl2;have:rk ts k≤t:=by
     unfold rk;rw[g7]at cc;split
     · omega
     · rcases cc with h | h <;> omega
   omega
 have hs7:x.Symbols.length < 9223372036854775807:=g12 (g3h hT.syms);have hm7:x.Members.length < 9223372036854775807:=g12 (g3h hT.mems);unfold FormP at hF;rcases hF with⟨k,_⟩ | ⟨k,f1,f2,_⟩ | ⟨k,f1,f2,f3,f4,_⟩ | ⟨k,f1,f2,f3,f4,f5,_⟩ | ⟨k,f1,f2,f3,f4,f5,f6,_⟩ | ⟨k,f1,f2,f3,f4,f5,f6,_⟩ | ⟨k,f1,f2,f3,f4,_⟩ | ⟨k,f1,f2,f3,f4,_⟩ | ⟨k,_⟩
 · obtain⟨q,C1,n1,n2,n3,n4,n5⟩:=g7j (ts:=ts) (n:=2) ⟨by omega,by omega⟩ hC (by omega) odd;rw[if_pos (by simp[k]),n1];refine⟨_,C1,rfl,?_,g9b rfl rfl rfl (by simp) (by simp[I64,k]) (by simp[I64]) (by simp[I64]),n4,leaf _ _ rfl rfl rfl (by simp) n4⟩;rw[fitI];simp[k,hin]
 · obtain⟨q,C1,n1,n2,n3,n4,n5⟩:=g7j (ts:=ts) (n:=256) ⟨by omega,by omega⟩ hC (by omega) odd;have hLk:=hL k;have e1:addI .i64 (subI .i64 x.High x.Low) 1=x.High - x.Low+1:=by
     rw[g5c (by omega) (by omega),g7n (by omega) (by omega)]
   have r0:0≤q % (x.High - x.Low+1):=Int.emod_nonneg _ (by omega);have r1:q % (x.High - x.Low+1) < x.High - x.Low+1:=Int.emod_lt_of_pos _ (by omega);rw[if_neg (by simp[k]),if_pos (by simp[k]),n1];simp only[oZ3];rw[e1,if_pos (nz (by omega)),g65 n2 (by omega),g7n (by omega) (by omega)]
   refine⟨_,C1,rfl,?_,g9b rfl rfl rfl (by simp) (by simp[I64,k]) (by simp only[I64];omega) (by simp[I64]),n4,leaf _ _ rfl rfl rfl (by simp) n4⟩;rw[fitI];simp[k,hin];omega
 · obtain⟨s,C1,n1,n2,n3,n4⟩:=g14u (ts:=ts) (most:=x.Max) ⟨f4.1,by omega⟩ hC (by omega) odd;rw[if_neg (by simp[k]),if_neg (by simp[k]),if_pos (by simp[k]),n1];refine⟨_,C1,rfl,?_,g9b rfl rfl rfl (by show s.length≤1000;omega) (by simp[I64,k]) (by simp[I64]) (by simp[I64]),n4,leaf _ _ rfl rfl rfl n3 n4⟩;rw[fitI];simp[k,hin,n2]
 · have hsl:=f5.1;have hs16:=f5.2.2.2.2;have hsid:=f5.2.1.2;obtain⟨q,C1,n1,n2,n3,n4,n5⟩:=g7j (ts:=ts) (n:=(x.Symbols.length:Int)) ⟨by omega,by omega⟩ hC (by omega) odd;obtain⟨j,rfl⟩:∃j:Nat,q=(j:Int):=⟨q.toNat,by omega⟩
   have hlc:=n4.1;have hj:j < x.Symbols.length:=by omega
   have hy:=g8 hj dSSymbol;rw[if_neg (by simp[k]),if_neg (by simp[k]),if_neg (by simp[k]),if_pos (by simp[k]),n1];simp only[oZ3];rw[if_pos (g6 hj)];simp only[g7];cases ho:x.Open with
   | false=>
     rw[if_neg (by simp),if_neg (by simp)];refine⟨_,C1,rfl,?_,g9b rfl rfl rfl (by simp) (by simp[I64,k]) (by simp[I64]) (gb9 (hsid _ hy)),n4,leaf _ _ rfl rfl rfl (by simp) n4⟩;refine(fitI _).2 ⟨⟨hin.1,hin.2,rfl,fun _=>rfl⟩,.inr (.inr (.inr (.inl ⟨k,rfl,rfl,rfl,rfl,rfl,rfl,.inl ⟨_,hy,rfl⟩⟩)))⟩
   | true=>
     obtain⟨o,C2,o1,o2,o3⟩:=guy (ts:=ts) (hC.suf n4) (by omega) odd;have hlc2:=o3.1;rw[if_pos rfl,o1];simp only[oZ3,cond_true];cases o with
     | false=>
       rw[if_neg (by simp)];refine⟨_,C2,rfl,?_,g9b rfl rfl rfl (by simp) (by simp[I64,k]) (by simp[I64]) (gb9 (hsid _ hy)),(o3.trans n4),leaf _ _ rfl rfl rfl (by simp) (o3.trans n4)⟩;refine(fitI _).2 ⟨⟨hin.1,hin.2,rfl,fun _=>rfl⟩,.inr (.inr (.inr (.inl ⟨k,rfl,rfl,rfl,rfl,rfl,rfl,.inl ⟨_,hy,rfl⟩⟩)))⟩
     | true=>
       have hodd:odd=true:=by
         cases odd with
         | true=>rfl
         | false=>exact absurd (o2 rfl) (by simp)
       obtain⟨n,C3,u1,u2,u3,u4⟩:=gjf (ts:=ts) hm7 hs7 hI12 hI6 ((hC.suf n4).suf o3) (by omega) odd;rw[if_pos rfl,u1];refine⟨_,C3,rfl,?_,g9b rfl rfl rfl (by simp) (by simp[I64,k]) (by simp[I64]) (gb9 u2),u4.trans (o3.trans n4),leaf _ _ rfl rfl rfl (by simp) (u4.trans (o3.trans n4))⟩
       refine(fitI _).2 ⟨⟨hin.1,hin.2,rfl,fun _=>rfl⟩,.inr (.inr (.inr (.inl ⟨k,rfl,rfl,rfl,rfl,rfl,rfl,.inr ⟨ho,by simp[hodd],u2⟩⟩)))⟩
 · obtain⟨hr1,hmem⟩:=member (.inl k);obtain⟨acc,C1,b1,b2,b3,b4,b5,b6⟩:=g12f (ts:=ts) (odd:=odd) (c:=c) (r:=r - 1) (by omega) (x:=x) hM12 (fun m hm=>⟨hmem m hm,fun hd=>⟨hD m hm hd,hT.dv m hm,hW m hm hd⟩⟩) 0 false 0 [] 0 x.Kind false 0 [] 0 x.Members.length 0 C [] (by omega) hC hl rfl (fun j hj=>by omega) (fun y hy=>by cases hy)
   have b1':g1h (0,ts,C,odd,0,false,0,[],0,x.Kind,x.Name,x.Low,x.High,x.Max,x.Symbols,x.Members,x.Key,x.Elem,x.Open,x.Kind,false,0,[],0,[])=_:=b1;have hlc:=b5.1;have hAr:Aw r=12*Aw (r - 1)+20:=by
     obtain⟨r',rfl⟩:∃r',r=r'+1:=⟨r - 1,by omega⟩
     rfl
   have hmul:x.Members.length*Aw (r - 1)≤12*Aw (r - 1):=Nat.mul_le_mul_right _ hM12;rw[g6j]at b6;have hfm:vfitm ts (!odd) x.Members acc:=g7f.2 ⟨b2,b3⟩;rw[if_neg (by simp[k]),if_neg (by simp[k]),if_neg (by simp[k]),if_neg (by simp[k]),if_pos (by simp[k]),b1'];simp only[oZ3];obtain⟨o,C2,o1,o2,o3⟩:=guy (ts:=ts) (hC.suf b5) (by omega) odd
   have hlc2:=o3.1;rw[o1];simp only[oZ3];cases o with
   | false=>
     rw[if_neg (by simp)];refine⟨_,C2,rfl,?_,gfu (by simp) (fun y hy=>by cases hy) b4 (by simp) (by show acc.length≤1000;omega) (by simp) (fun y hy=>by cases hy) (by simp[I64,k]) (by simp[I64]) (by simp[I64]),o3.trans b5,?_⟩
     · exact(fitI _).2 ⟨⟨hin.1,hin.2,rfl,fun _=>rfl⟩,.inr (.inr (.inr (.inr (.inl ⟨k,rfl,rfl,rfl,rfl,rfl,⟨.nil,fun y hy=>by cases hy⟩,hfm⟩))))⟩
     · rw[wt_eq];simp only[g6j,List.length_nil,List.map_nil,List.sum_nil];omega
   | true=>
     have hodd:odd=true:=by
       cases odd with
       | true=>rfl
       | false=>exact absurd (o2 rfl) (by simp)
     obtain⟨n,C3,u1,u2,u3,u4⟩:=gjf (ts:=ts) hm7 hs7 hI12 hI6 ((hC.suf b5).suf o3) (by omega) odd;have hlc3:=u4.1;obtain⟨d,C4,d1,d2,d3⟩:=guz (ts:=ts) (n:=n) (((hC.suf b5).suf o3).suf u4) (by omega) odd;have hlc4:=d3.1;rw[if_pos rfl,gfq,u1];simp only[oZ3];rw[d1];simp only[oZ3]
     refine⟨_,C4,rfl,?_,gfu (by simp) (fun y hy=>by cases hy) b4 (by simp) (by show acc.length≤1000;omega) (by simp) (fun y hy=>?_) (by simp[I64,k]) (by simp[I64]) (by simp[I64]),d3.trans (u4.trans (o3.trans b5)),?_⟩
     · refine(fitI _).2 ⟨⟨hin.1,hin.2,rfl,fun h=>by simp[hodd]at h⟩,.inr (.inr (.inr (.inr (.inl ⟨k,rfl,rfl,rfl,rfl,rfl,⟨by simp,fun y hy=>?_⟩,hfm⟩))))⟩;have:y=⟨n,d⟩:=by simpa using hy
       subst this;exact⟨u2,u3⟩
     · have:y=⟨n,d⟩:=by simpa using hy
       subst this;exact⟨by show d.length≤1000;omega,gb9 u2⟩
     · rw[wt_eq];simp only[g6j,List.length_nil,List.map_cons,List.map_nil,List.sum_cons,List.sum_nil];omega
 · obtain⟨hr1,hmem⟩:=member (.inr k);have hMp:0 < x.Members.length:=by
     rcases f6.2.1 with h | h
     · cases h
     · exact h
   have hA1:Aw (r - 1)+20≤Aw r:=by
     obtain⟨r',rfl⟩:∃r',r=r'+1:=⟨r - 1,by omega⟩
     have:=Aw_20 r';show Aw r'+20≤12*Aw r'+20;omega
   have arm : ∀ C0, Suf C0 C → ∃ v C', (Option.bind (gx ((x.Members.length : Int), ts, C0, odd)) fun r_65 => if inR r_65.1 x.Members.length = true then
         (g13 ((x.Members.getD r_65.1.toNat dSMember).Type_,r_65.2.1,r_65.2.2.1,r_65.2.2.2)).bind fun r_70=>
           some ((⟨x.Kind,false,0,[],(x.Members.getD r_65.1.toNat dSMember).ID,[],[r_70.1],[]⟩:SValue),r_70.2.1,r_70.2.2.1,r_70.2.2.2)
       else none)=some (v,ts,C',odd)∧vfit ts (!odd) (t:Int) v∧OkV v∧Suf C' C∧wt v+32574360*C'.length≤Aw r+32574360*C.length:=by
     intro C0 hs0;have hlc0:=hs0.1;obtain⟨q,C1,n1,n2,n3,n4,n5⟩:=g7j (ts:=ts) (n:=(x.Members.length:Int)) ⟨by omega,by omega⟩ (hC.suf hs0) (by omega) odd;obtain⟨j,rfl⟩:∃j:Nat,q=(j:Int):=⟨q.toNat,by omega⟩
     have hlc:=n4.1;have hj:j < x.Members.length:=by omega
     have hm:=g8 hj dSMember;obtain⟨w,C2,m1,m2,m3,m4,m5⟩:=hmem _ hm C1 ((hC.suf hs0).suf n4) (by omega);have hlc2:=m4.1;rw[n1];simp only[oZ3];rw[if_pos (g6 hj)];simp only[g7];rw[m1];simp only[oZ3];have hI:=f6.2.2.1.2 _ hm
     refine⟨_,C2,rfl,?_,gfu (by simp) (fun y hy=>by cases hy) (fun y hy=>?_) (by simp) (by simp) (by simp) (fun y hy=>by cases hy) (by simp[I64,k]) (by simp[I64]) (gb9 hI),m4.trans (n4.trans hs0),?_⟩
     · refine(fitI _).2 ⟨⟨hin.1,hin.2,rfl,fun _=>rfl⟩,.inr (.inr (.inr (.inr (.inr (.inl ⟨k,rfl,rfl,rfl,rfl,?_⟩)))))⟩;have hfind:findM x.Members (x.Members.getD j dSMember).ID=some (x.Members.getD j dSMember):=by
         unfold findM;rw[List.find?_eq_some_iff_getElem];refine⟨by simp,j,hj,(g15 hj _).symm,fun i hi=>?_⟩;have hp:=List.pairwise_iff_getElem.1 f6.2.2.1.1 i j (by omega) hj hi;rw[g15 hj];simp;omega
       simp only[hfind];refine⟨by first | rfl | trivial,by first | rfl | trivial,?_⟩;rw[g16];intro y hy;have:y=w:=by simpa using hy
       subst this;exact m2
     · have:y=w:=by simpa using hy
       subst this;exact m3
     · rw[wt_eq];simp only[g7r,g6j,List.length_nil,List.map_nil,List.sum_nil];omega
   rw[if_neg (by simp[k]),if_neg (by simp[k]),if_neg (by simp[k]),if_neg (by simp[k]),if_neg (by simp[k]),if_pos (by simp[k])];simp only[SValue.gr];cases ho:x.Open with
   | false=>
     rw[if_neg (by simp),if_neg (by simp)];obtain⟨v,C',a1,a2,a3,a4,a5⟩:=arm C (Suf.refl _);rw[a1];exact⟨v,C',rfl,a2,a3,a4,a5⟩
   | true=>
     obtain⟨o,C2,o1,o2,o3⟩:=guy (ts:=ts) hC (by omega) odd;have hlc2:=o3.1;rw[if_pos rfl,o1];simp only[oZ3,cond_true];cases o with
     | false=>
       rw[if_neg (by simp)];obtain⟨v,C',a1,a2,a3,a4,a5⟩:=arm C2 o3;rw[a1];exact⟨v,C',rfl,a2,a3,a4,a5⟩
     | true=>
       have hodd:odd=true:=by
         cases odd with
         | true=>rfl
         | false=>exact absurd (o2 rfl) (by simp)
       obtain⟨n,C3,u1,u2,u3,u4⟩:=gjf (ts:=ts) hm7 hs7 hI12 hI6 (hC.suf o3) (by omega) odd;have hlc3:=u4.1;obtain⟨d,C4,d1,d2,d3⟩:=guz (ts:=ts) (n:=n) ((hC.suf o3).suf u4) (by omega) odd;have hlc4:=d3.1;rw[if_pos rfl,u1];simp only[oZ3];rw[d1];simp only[oZ3]
       refine⟨_,C4,rfl,?_,gfu (by simp) (fun y hy=>by cases hy) (fun y hy=>by cases hy) (by simp) (by simp) (by simp) (fun y hy=>?_) (by simp[I64,k]) (by simp[I64]) (gb9 u2),d3.trans (u4.trans o3),?_⟩
       · refine(fitI _).2 ⟨⟨hin.1,hin.2,rfl,fun h=>by simp[hodd]at h⟩,.inr (.inr (.inr (.inr (.inr (.inl ⟨k,rfl,rfl,rfl,rfl,?_⟩)))))⟩;simp only[u3];exact⟨ho,by simp[hodd],u2,by first | rfl | trivial,d,by first | rfl | trivial⟩
       · have:y=⟨n,d⟩:=by simpa using hy
         subst this;exact⟨by show d.length≤1000;omega,gb9 u2⟩
       · rw[wt_eq];simp only[g6j,List.length_nil,List.map_cons,List.map_nil,List.sum_cons,List.sum_nil];omega
 · have em:addI .i64 (minI x.Max 3) 1=min x.Max 3+1:=by
     have:minI x.Max 3=min x.Max 3:=rfl;rw[this,g7n (by omega) (by omega)]
   have hel:0≤x.Elem∧x.Elem < ts.length:=hU x.Elem (by unfold usesL;simp[k]);obtain⟨q,C1,n1,n2,n3,n4,n5⟩:=g7j (ts:=ts) (n:=min x.Max 3+1) ⟨by omega,by omega⟩ hC (by omega) odd;obtain⟨j,rfl⟩:∃j:Nat,q=(j:Int):=⟨q.toNat,by omega⟩
   have hlc:=n4.1
   have loop:∃acc C',g2a ((j:Int),ts,C1,odd,0,false,0,[],0,x.Kind,x.Name,x.Low,x.High,x.Max,x.Symbols,x.Members,x.Key,x.Elem,x.Open,x.Kind,false,0,[],0,[])=some (ts,C',odd,0,false,0,[],0,x.Kind,false,0,[],0,acc)∧acc.length=j∧(∀y,y∈acc→vfit ts (!odd) x.Elem y∧OkV y)∧Suf C' C∧10+wts acc+32574360*C'.length≤Aw r+32574360*C.length:=by
     rcases n5 with⟨h0,h1,h2⟩ | h1
     · have:j=0:=by omega
       subst this;refine⟨[],C1,by rw[g2a,if_neg (by simp)],rfl,fun y hy=>(by cases hy),n4,?_⟩;rw[g6j];omega
     · obtain⟨acc,C',b1,b2,b3,b4,b5⟩:=gxh (ts:=ts) (odd:=odd) (c:=C1.length) (r:=5) (by omega) (x:=x) (fun C2 hC2 hl2=>below C1 h1 x.Elem hel.1 hel.2 C2 hC2 hl2) 0 false 0 [] 0 x.Kind false 0 [] 0 j C1 [] (by simp;omega) (hC.suf n4) (by omega) (fun y hy=>by cases hy);refine⟨acc,C',b1,by simpa using b2,b3,b4.trans n4,?_⟩;rw[g6j,Aw_5]at b5
       have:j*5429060≤3*5429060:=Nat.mul_le_mul_right _ (by omega);omega
   obtain⟨acc,C',b1,b2,b3,b4,b5⟩:=loop;rw[if_neg (by simp[k]),if_neg (by simp[k]),if_neg (by simp[k]),if_neg (by simp[k]),if_neg (by simp[k]),if_neg (by simp[k]),if_pos (by simp[k]),em,n1];simp only[oZ3];rw[b1];simp only[oZ3]
   refine⟨_,C',rfl,?_,gfu (by simp) (fun y hy=>by cases hy) (fun y hy=>(b3 y hy).2) (by simp) (by show acc.length≤1000;omega) (by simp) (fun y hy=>by cases hy) (by simp[I64,k]) (by simp[I64]) (by simp[I64]),b4,?_⟩
   · exact(fitI _).2 ⟨⟨hin.1,hin.2,rfl,fun _=>rfl⟩,.inr (.inr (.inr (.inr (.inr (.inr (.inl ⟨k,rfl,rfl,rfl,rfl,rfl,rfl,by show(acc.length:Int)≤x.Max;omega,g16.2 fun y hy=>(b3 y hy).1⟩))))))⟩
   · rw[wt_eq];simp only[g6j,List.length_nil,List.map_nil,List.sum_nil];omega
 · have em:addI .i64 (minI x.Max 3) 1=min x.Max 3+1:=by
     have:minI x.Max 3=min x.Max 3:=rfl;rw[this,g7n (by omega) (by omega)]
   have hel:0≤x.Elem∧x.Elem < ts.length:=hU x.Elem (by unfold usesL;simp[k]);have hkl:0≤x.Key∧x.Key < ts.length:=hU x.Key (by unfold usesL;simp[k]);obtain⟨q,C1,n1,n2,n3,n4,n5⟩:=g7j (ts:=ts) (n:=min x.Max 3+1) ⟨by omega,by omega⟩ hC (by omega) odd;obtain⟨j,rfl⟩:∃j:Nat,q=(j:Int):=⟨q.toNat,by omega⟩
   have hlc:=n4.1;have hasc0:g6t []:=fun i hi=>by simp at hi
   have loop:∃ks is C',g2b ((j:Int),ts,C1,odd,0,false,0,[],0,x.Kind,x.Name,x.Low,x.High,x.Max,x.Symbols,x.Members,x.Key,x.Elem,x.Open,x.Kind,false,0,[],0,[],[],[])=some (ts,C',odd,0,false,0,[],0,x.Kind,false,0,[],0,ks,is,[])∧ks.length≤j∧is.length=ks.length∧(∀y,y∈ks→vfit ts (!odd) x.Key y∧OkV y)∧(∀y,y∈is→vfit ts (!odd) x.Elem y∧OkV y)∧g6t ks∧Suf C' C∧10+wts ks+wts is+32574360*C'.length≤Aw r+32574360*C.length:=by
     rcases n5 with⟨h0,h1,h2⟩ | h1
     · have:j=0:=by omega
       subst this;refine⟨[],[],C1,by rw[g2b,if_neg (by simp)],by simp,rfl,fun y hy=>(by cases hy),fun y hy=>(by cases hy),hasc0,n4,?_⟩;rw[g6j];omega
     · obtain⟨ks,is,C',b1,b2,b3,b4,b5,b6,b7,b8⟩:=g12g (ts:=ts) (odd:=odd) (c:=C1.length) (r:=5) (by omega) (x:=x) (fun C2 hC2 hl2=>below C1 h1 x.Key hkl.1 hkl.2 C2 hC2 hl2) (fun C2 hC2 hl2=>below C1 h1 x.Elem hel.1 hel.2 C2 hC2 hl2) 0 false 0 [] 0 x.Kind false 0 [] 0 [] j C1 [] [] (by simp;omega) rfl (hC.suf n4) (by omega) (fun y hy=>by cases hy) (fun y hy=>by cases hy) hasc0
       refine⟨ks,is,C',b1,by simpa using b2,b3,b4,b5,b6,b7.trans n4,?_⟩;rw[g6j,Aw_5]at b8;have:j*5429060≤3*5429060:=Nat.mul_le_mul_right _ (by omega);omega
   obtain⟨ks,is,C',b1,b2,b3,b4,b5,b6,b7,b8⟩:=loop;rw[if_neg (by simp[k]),if_neg (by simp[k]),if_neg (by simp[k]),if_neg (by simp[k]),if_neg (by simp[k]),if_neg (by simp[k]),if_neg (by simp[k]),if_pos (by simp[k]),em,n1];simp only[oZ3];rw[b1];simp only[oZ3]
   refine⟨_,C',rfl,?_,gfu (by simp) (fun y hy=>(b4 y hy).2) (fun y hy=>(b5 y hy).2) (by show ks.length≤1000;omega) (by show is.length≤1000;omega) (by simp) (fun y hy=>by cases hy) (by simp[I64,k]) (by simp[I64]) (by simp[I64]),b7,?_⟩
   · exact(fitI _).2 ⟨⟨hin.1,hin.2,rfl,fun _=>rfl⟩,.inr (.inr (.inr (.inr (.inr (.inr (.inr (.inl ⟨k,rfl,rfl,rfl,rfl,rfl,by show(ks.length:Int)≤x.Max;omega,b3,g16.2 fun y hy=>(b4 y hy).1,g16.2 fun y hy=>(b5 y hy).1,b6⟩)))))))⟩
   · rw[wt_eq];simp only[List.length_nil,List.map_nil,List.sum_nil];omega
 · have hel:0≤x.Elem∧x.Elem < ts.length:=hU x.Elem (by unfold usesL;simp[k]);obtain⟨q,C1,n1,n2,n3,n4,n5⟩:=g7j (ts:=ts) (n:=2) ⟨by omega,by omega⟩ hC (by omega) odd;have hlc:=n4.1;rw[if_neg (by simp[k]),if_neg (by simp[k]),if_neg (by simp[k]),if_neg (by simp[k]),if_neg (by simp[k]),if_neg (by simp[k]),if_neg (by simp[k]),if_neg (by simp[k]),n1]
   simp only[oZ3,SValue.gr];by_cases h1:q=1
   · have hc1:C1.length+1=C.length:=by
       rcases n5 with⟨h0,_,_⟩ | h
       · omega
       · exact h
     obtain⟨w,C2,m1,m2,m3,m4,m5⟩:=below C1 hc1 x.Elem hel.1 hel.2 C1 (hC.suf n4) (by omega);have hlc2:=m4.1;rw[Aw_5]at m5;rw[if_pos (by simpa using h1),m1];simp only[oZ3]
     refine⟨_,C2,rfl,?_,gfu (by simp) (fun y hy=>by cases hy) (fun y hy=>?_) (by simp) (by simp) (by simp) (fun y hy=>by cases hy) (by simp[I64,k]) (by simp[I64]) (by simp[I64]),m4.trans n4,?_⟩
     · refine(fitI _).2 ⟨⟨hin.1,hin.2,rfl,fun _=>rfl⟩,.inr (.inr (.inr (.inr (.inr (.inr (.inr (.inr ⟨k,rfl,rfl,rfl,rfl,rfl,rfl,by simp,g16.2 fun y hy=>?_⟩)))))))⟩;have:y=w:=by simpa using hy
       subst this;exact m2
     · have:y=w:=by simpa using hy
       subst this;exact m3
     · rw[wt_eq];simp only[g7r,g6j,List.length_nil,List.map_nil,List.sum_nil];omega
   · rw[if_neg (by simpa using h1)];refine⟨_,C1,rfl,?_,g9b rfl rfl rfl (by simp) (by simp[I64,k]) (by simp[I64]) (by simp[I64]),n4,leaf _ _ rfl rfl rfl (by simp) n4⟩;exact(fitI _).2 ⟨⟨hin.1,hin.2,rfl,fun _=>rfl⟩,.inr (.inr (.inr (.inr (.inr (.inr (.inr (.inr ⟨k,rfl,rfl,rfl,rfl,rfl,rfl,by simp,g16.2 fun y hy=>by cases hy⟩)))))))⟩
theorem g12h(H:DrOk ts){odd:Bool} :∀(c:Nat),c≤60→∀r,Gd ts odd c r:=by
 intro c
 induction c using Nat.strongRecOn with
 | ind c ihc=>
   intro hc r
   induction r using Nat.strongRecOn with
   | ind r ihr=>exact g14v H hc (fun c' h=>ihc c' h (by omega) 5) (fun r' h=>ihr r' h)
theorem g14w(H:DrOk ts){t:Int}(ht:0≤t∧t < ts.length){C:List Int}(hC:CU8 C)(hl:C.length≤reachBytes) :∃v,g99 ((⟨ts⟩:SSchema),t,C)=some v∧vfit ts true t v∧OkV v∧wt v≤2147483648:=by
 obtain⟨j,rfl⟩:∃j:Nat,t=(j:Int):=⟨t.toNat,by omega⟩
 have hr:=g12 hl;have hm:minI 60 (C.length:Int)=((min 60 C.length:Nat):Int):=gnn 60 C.length;have hs:CU8 (C.take (min 60 C.length)):=fun c hc=>hC c (List.mem_of_mem_take hc)
 have hlen:(C.take (min 60 C.length)).length≤60:=by rw[List.length_take];omega
 have hsl:slR 0 ((min 60 C.length:Nat):Int) C.length=true:=g57 (a:=0) (by omega) (by omega);obtain⟨v,C',h1,h2,h3,h4,h5⟩:=g12h H (odd:=false) 60 (by omega) 5 j (by omega) (gv1 H (by omega)) _ hs hlen;rw[g99];simp only[oZ4,oZ3];rw[hm,if_pos hsl,g94,h1];refine⟨v,by simp only[oZ3,SValue.gr],h2,h3,?_⟩;rw[Aw_5]at h5;omega
theorem gzi(H:DrOk ts){t:Int}(ht:0≤t∧t < ts.length){C:List Int}(hC:CU8 C)(hl:C.length≤reachBytes) :∃v,g7t ((⟨ts⟩:SSchema),t,C)=some v∧vfit ts false t v∧OkV v∧wt v≤2147483648:=by
 obtain⟨j,rfl⟩:∃j:Nat,t=(j:Int):=⟨t.toNat,by omega⟩
 have hr:=g12 hl;have hm:minI 60 (C.length:Int)=((min 60 C.length:Nat):Int):=gnn 60 C.length;have hs:CU8 (C.take (min 60 C.length)):=fun c hc=>hC c (List.mem_of_mem_take hc)
 have hlen:(C.take (min 60 C.length)).length≤60:=by rw[List.length_take];omega
 have hsl:slR 0 ((min 60 C.length:Nat):Int) C.length=true:=g57 (a:=0) (by omega) (by omega);obtain⟨v,C',h1,h2,h3,h4,h5⟩:=g12h H (odd:=true) 60 (by omega) 5 j (by omega) (gv1 H (by omega)) _ hs hlen;rw[g7t];simp only[oZ4,oZ3];rw[hm,if_pos hsl,g94,h1];refine⟨v,by simp only[oZ3,SValue.gr],h2,h3,?_⟩;rw[Aw_5]at h5;omega
end
structure DrIn (d:Sheaveref08Draft):Prop where
 s:DOk d.S
 t:U8 d.T
 c:CU8 d.C
 l:d.C.length≤reachBytes
theorem of8 {d : Sheaveref08Draft} (hd : DrIn d) : (∃ s t v w, g8x d = some (s, t, v, w, false)) ∨
   ∃ts t v w,g8x d=some (⟨ts⟩,t,v,w,true)∧DrOk ts∧(0≤t∧t < ts.length)∧(vfit ts true t v∧OkV v∧wt v≤2147483648)∧(vfit ts false t w∧OkV w∧wt w≤2147483648):=by
 rw[g8x];rcases of_ok hd.s with h | ⟨l,h,H⟩
 · rw[h];exact .inl ⟨_,_,_,_,rfl⟩
 · right;have hn1:=H.n1;have hn5:=H.n5;have ht:=hd.t;unfold U8 at ht;have r0:0≤d.T % (l.length:Int):=Int.emod_nonneg _ (by omega);have r1:d.T % (l.length:Int) < l.length:=Int.emod_lt_of_pos _ (by omega);obtain⟨v,v1,v2⟩:=g14w H ⟨r0,r1⟩ hd.c hd.l;obtain⟨w,w1,w2⟩:=gzi H ⟨r0,r1⟩ hd.c hd.l;rw[h];simp only[oZ4,oZ3]
   rw[if_neg (by simp),if_pos (nz (by omega)),ga8 ⟨by omega,by omega⟩,g65 ht.1 (by omega),v1];simp only[oZ3];rw[w1];exact⟨l,_,v,w,by simp only[oZ3,SValue.gr],H,⟨r0,r1⟩,v2,w2⟩
end
section
open Go Go.Proofs.YthnmepafpikaiaaGreat.Shv Go.Sort
set_option maxRecDepth 100000
theorem gv2{ts:List SType}(H:SOk ts){v:SValue}(hv:OkV v)(t:Int)(pl:Bool) :SaysP (g4d ((⟨ts⟩:SSchema),t,v,pl)) (vfit ts pl t v):=by
 obtain⟨r,h1,h2⟩:=g13n (by have:=H.n;omega) H.T H.K hv t pl;obtain⟨q,q1,q2⟩:=gro (by have:=H.n;omega) H.T H.K hv t pl;rw[h1]at q2;have:r=q:=Option.some.inj q2;subst this;exact⟨r,q1,h2⟩
theorem gzj{ts:List SType}(hT:∀t,t∈ts→OkT t)(hV:VOk ts){v:SValue}(hv:OkV v){t:Int}(hf:vfit ts false t v) :g4e ((⟨ts⟩:SSchema),t,v)=some 0∧g54 ((⟨ts⟩:SSchema),t,v)=some 0:=by
 have H:=hV.sok hT;obtain⟨v1,v2⟩:=gry hT hV;obtain⟨⟨g1,g2,_⟩,_⟩:=(g6u _ _ _).1 hf;obtain⟨e,e1,e2,_⟩:=gzb (s:=⟨ts⟩) (by have:=hV.n;unfold reachBytes;show ts.length≤_;omega) hT hv t;obtain⟨r,r1,r2⟩:=gv2 H hv t false;have hr:=r2.2 hf;subst hr;have hout:¬((bif decide (t < 0)then true else decide (((⟨ts⟩:SSchema).Types.length:Int)≤t))=true):=by
   have a:¬t < 0:=by omega
   have b:¬((ts.length:Nat):Int)≤t:=by omega
   simp only[a,b,decide_false,cond_false,Bool.false_eq_true,not_false_eq_true]
 have key:g4e ((⟨ts⟩:SSchema),t,v)=some 0:=by
   rw[g4e,g7i];simp only[gc4,SValue.gr];rw[v1];show((if(bif decide (t < 0)then true else decide (((⟨ts⟩:SSchema).Types.length:Int)≤t))=true then some (4:Int)else some 0) >>=_)=_;rw[if_neg hout];show(g76 ((⟨ts⟩:SSchema),t,v) >>=_)=_;rw[g76];simp only[SValue.gr];rw[r1];rfl
 rw[key]at e1;have:e=0:=(Option.some.inj e1).symm;subst this;exact⟨key,e2⟩
theorem g13p{l:List Fd}(hp:g7o ltF l=true)(hn:l.Pairwise (fun a b=>a.id≠b.id)) :(isoB ltF l).Pairwise (fun a b=>a.id < b.id):=by
 have h1:=gcs gx3 l;have h2:(isoB ltF l).Pairwise (fun a b=>a.id≠b.id):=(g66 ltF l).symm.pairwise hn (fun {a b} h=>fun e=>h e.symm);refine(h1.and h2).imp fun {a b} h=>?_
 have:=h.1;have:=h.2;simp only[ltF,decide_eq_false_iff_not]at*;omega
theorem g12i{ts:List SType}{ms:List SMember}{l:List SValue}{r:List SRaw}(h:MAsc ms)(hr:g72 ms r) :(g3a ts ms l r).Pairwise (fun a b=>a.id≠b.id):=by
 have:=gb4 (ts:=ts) (l:=l) h hr;have key:∀q:List Fd,g7o ltF q=true→q.Pairwise (fun a b=>a.id≠b.id):=by
   intro q
   induction q with
   | nil=>intro _;exact .nil
   | cons a q ih=>
     intro h;simp only[g7o,Bool.and_eq_true,List.all_eq_true,Bool.or_eq_true,ltF,decide_eq_true_eq]at h;rw[List.pairwise_cons];exact⟨fun b hb=>by have:=h.1 b hb;omega,ih h.2⟩
 exact key _ this
def fdS(f:Fd) :SField:=⟨(f.id:Int),f.c,f.p⟩
theorem gs0 : ∀ (l : List Fd) (last : Nat) (b : List SField), l.Pairwise (fun a b => a.id < b.id) → (∀ f, f ∈ l → last < f.id ∧ f.id ≤ 1000) → (l.flatMap Fd.text).length ≤ 100000 → b.length + l.length ≤ 90000 →
   g1o ((last:Int),l.flatMap Fd.text,b)=some (.inr (b++l.map fdS))
 | [],last,b,_,_,_,_=>by
   rw[g1o,if_neg (by simp)];simp
 | f::l,last,b,hp,hr,hl,hb=>by
   rw[List.pairwise_cons]at hp;obtain⟨h1,h2⟩:=hr f (.head _);rw[List.flatMap_cons]at hl ⊢;have ht:f.text=g4j f.id f.c f.p:=rfl;rw[ht]at hl ⊢;rw[gw0 h1 h2 hl (by simp at hb;omega)];have hl2:(l.flatMap Fd.text).length≤100000:=by rw[List.length_append]at hl;omega
   rw[gs0 l f.id _ hp.2 (fun g hg=>⟨hp.1 g hg,(hr g (.tail _ hg)).2⟩) hl2 (by simp at hb ⊢;omega)];simp[fdS]
theorem gzk{p rest:List UInt8}{b:List (List UInt8)}(h:(g1s p++rest).length≤100000)(hb:b.length≤90000) :g2i (g1s p++rest,b)=g2i (rest,b++[p]):=by
 have hpl:p.length≤100000:=by
   simp only[g1s,List.length_append]at h;omega
 have hne:g1s p++rest≠[]:=by
   intro hc;have h2:=congrArg List.length hc;have:=gfp p.length;simp only[g1s,List.length_append,List.length_nil]at h2;omega
 rw[g2i,if_pos (by simp only[Bool.not_eq_true',decide_eq_false_iff_not];exact hne),gef (by omega),gn4 hpl];simp only[oZ4,oZ3];have hnn:¬((!(encP (some (p,rest))).2.2)=true):=by simp[encP]
 have hr:room 16 (b++[(encP (some (p,rest))).1]).length=true:=g44 (by omega) (by simp;omega);rw[if_neg hnn,if_pos hr];rfl
theorem gv3 :∀(l:List (List UInt8)) (b:List (List UInt8)),(l.flatMap g1s).length≤100000→b.length+l.length≤90000→g2i (l.flatMap g1s,b)=some (.inr (b++l))
 | [],b,_,_=>by
   rw[g2i,if_neg (by simp)];simp
 | p::l,b,hl,hb=>by
   rw[List.flatMap_cons]at hl ⊢;rw[gzk hl (by simp at hb;omega),gv3 l _ (by rw[List.length_append]at hl;omega) (by simp at hb ⊢;omega)];simp
def weave :List (List UInt8)→List (List UInt8)→List (List UInt8)
 | k::ks,v::vs=>k::v::weave ks vs
 | _,_=>[]
theorem gs1 :∀a b,ilv a b=(weave a b).flatMap g1s
 | [],b=>by simp[ilv,weave]
 | k::ks,[]=>by simp[ilv,weave]
 | k::ks,v::vs=>by simp[ilv,weave,gs1 ks vs]
theorem gs2 :∀a b:List (List UInt8),a.length=b.length→(weave a b).length=a.length+b.length
 | [],[],_=>rfl
 | k::ks,v::vs,h=>by
   simp only[weave,List.length_cons];have:=gs2 ks vs (by simpa using h);omega
theorem gc6(p:List UInt8) :1≤(g1s p).length:=by
 have:=gfp p.length;unfold g1s;rw[List.length_append];omega
theorem gn7 :∀l:List (List UInt8),l.length≤(l.flatMap g1s).length
 | []=>by simp
 | p::l=>by
   have:=gn7 l;have:=gc6 p;rw[List.flatMap_cons,List.length_append,List.length_cons];omega
theorem go0(f:Fd) :1≤f.text.length:=by
 have:=gfp (2*f.id+(if f.c then 1 else 0));unfold Fd.text g4j;rw[List.length_append];omega
theorem gn8 :∀l:List Fd,l.length≤(l.flatMap Fd.text).length
 | []=>by simp
 | p::l=>by
   have:=gn8 l;have:=go0 p;rw[List.flatMap_cons,List.length_append,List.length_cons];omega
theorem gs3{f:Fd} :∀{l:List Fd},f∈l→f.p.length≤(l.flatMap Fd.text).length
 | g::l,h=>by
   rw[List.flatMap_cons,List.length_append];rcases List.mem_cons.1 h with rfl | h
   · have:f.p.length≤f.text.length:=by unfold Fd.text g4j g1s;simp only[List.length_append];omega
     omega
   · have:=gs3 h;omega
theorem g14x{d:Sheaveref07Draft}(h:WF Un ⟨.slice (.nm ixSheaveref07Node),d.Nodes⟩) :DOk d:=by
 obtain⟨a,_,c⟩:=gny (t:= .nm ixSheaveref07Node) h;refine⟨a,fun x hx=>?_⟩;have hc:=c x hx;have u8:∀{n:Int},WF Un ⟨.int .u8,n⟩→U8 n:=fun {n} h=>by
   cases h with
   | int k n h=>
     simp[Lit.wf,IntKind.min,IntKind.max,IntKind.bits,IntKind.signed]at h;unfold U8;omega
 have c1:=hc ⟨.int .u8,x.Kind⟩ (.head _);have c2:=hc ⟨.int .u8,x.A⟩ (.tail _ (.head _));have c3:=hc ⟨.int .u8,x.B⟩ (.tail _ (.tail _ (.head _)));have c4:=hc ⟨.int .u8,x.C⟩ (.tail _ (.tail _ (.tail _ (.head _))));have c5:=hc ⟨.slice (.nm ixSheaveref07Part),x.Parts⟩ (.tail _ (.tail _ (.tail _ (.tail _ (.head _)))));obtain⟨p1,_,p3⟩:=gny (t:= .nm ixSheaveref07Part) c5
 refine⟨u8 c1,u8 c2,u8 c3,u8 c4,fun q hq=>?_,p1⟩;have hq':=p3 q hq;exact⟨u8 (hq' ⟨.int .u8,q.ID⟩ (.head _)),u8 (hq' ⟨.int .u8,q.Type_⟩ (.tail _ (.head _))),u8 (hq' ⟨.int .u8,q.Flag⟩ (.tail _ (.tail _ (.head _))))⟩
theorem g13q{d:Sheaveref08Draft}(h:∀c,c∈Un.flds ixSheaveref08Draft d→WF Un c) :DrIn d:=by
 have c1:=h ⟨.slice (.nm ixSheaveref07Node),d.S.Nodes⟩ (.head _);have c2:=h ⟨.int .u8,d.T⟩ (.tail _ (.head _));have c3:=h ⟨.slice (.int .u8),d.C⟩ (.tail _ (.tail _ (.head _)));obtain⟨a,_,c⟩:=gny (t:= .int .u8) c3;have u8:∀{n:Int},WF Un ⟨.int .u8,n⟩→U8 n:=fun {n} h=>by
   cases h with
   | int k n h=>
     simp[Lit.wf,IntKind.min,IntKind.max,IntKind.bits,IntKind.signed]at h;unfold U8;omega
 exact⟨g14x c1,u8 c2,fun n hn=>u8 (c n hn ⟨.int .u8,n⟩ (.head _)),a⟩
end
section
open Go Go.Proofs.YthnmepafpikaiaaGreat.Shv Go.Sort
set_option maxRecDepth 100000
def fb(n:Nat) :List UInt8→Nat
 | []=>n
 | c::s=>fb (n*256+c.toNat) s
theorem fb_lt :∀(s:List UInt8) (n k:Nat),n < 256 ^ k→fb n s < 256 ^ (k+s.length)
 | [],n,k,h=>by simpa[fb]using h
 | c::s,n,k,h=>by
   have hc:c.toNat < 256:=UInt8.toNat_lt c;have h1:n*256+c.toNat < 256 ^ (k+1):=by rw[Nat.pow_succ];omega
   have:=fb_lt s _ (k+1) h1;simp only[fb,List.length_cons];have e:k+(s.length+1)=k+1+s.length:=by omega
   rw[e];exact this
theorem shl8{n:Nat}(h:n < 72057594037927936) :shlI .u64 (n:Int) 8=((n*256:Nat):Int):=by
 unfold shlI;have e:((2:Int) ^ min (8:Int).toNat IntKind.u64.bits)=256:=by decide
 rw[e];have:(n:Int)*256=((n*256:Nat):Int):=by push_cast;rfl
 rw[this];exact wrapu (by omega) (by omega)
theorem g14y{a b:Nat}(ha:a < 72057594037927936)(hb:b < 256) :orI .u64 ((a*256:Nat):Int) (b:Int)=((a*256+b:Nat):Int):=by
 have e:(BitVec.ofInt 64 ((a*256:Nat):Int) ||| BitVec.ofInt 64 (b:Int)).toNat=a*256+b:=by
   rw[BitVec.ofInt_natCast,BitVec.ofInt_natCast,BitVec.toNat_or,BitVec.toNat_ofNat,BitVec.toNat_ofNat,two64,Nat.mod_eq_of_lt (by omega),Nat.mod_eq_of_lt (by omega)];have h:=Nat.shiftLeft_add_eq_or_of_lt (show b < 2 ^ 8 by omega) a;rw[Nat.shiftLeft_eq]at h;exact h.symm
 show IntKind.u64.wrap (((BitVec.ofInt 64 ((a*256:Nat):Int) ||| BitVec.ofInt 64 (b:Int)).toNat:Nat):Int)=_;rw[e];exact wrapu (by omega) (by omega)
theorem g12j :(256:Nat) ^ 8=18446744073709551616:=by decide
theorem go1{s:List UInt8}(hs:s.length≤8) :∀(k i n:Nat),i+k=s.length→n < 256 ^ i→g3m (s,(n:Int),(s.length:Int),(i:Int))=some ((fb n (s.drop i):Nat):Int)
 | 0,i,n,hi,hn=>by
   rw[g3m,if_neg (by simp;omega),List.drop_eq_nil_of_le (by omega:s.length≤i)];rfl
 | k+1,i,n,hi,hn=>by
   have hlt:i < s.length:=by omega
   have hb:=gd3 s i;have hn7:n < 72057594037927936:=by
     have:(256:Nat) ^ i≤256 ^ 7:=Nat.pow_le_pow_right (by omega) (by omega);have e:(256:Nat) ^ 7=72057594037927936:=by decide
     omega
   rw[g3m,if_pos (by simp;omega),if_pos (g6 hlt),shl8 hn7,g6k,wrpn (by omega),g14y hn7 hb,ge (by omega),go1 hs k (i+1) _ (by omega) (by rw[Nat.pow_succ];omega),g1x hlt 0];rfl
theorem go2{s:List UInt8}(hs:s.length≤8) :∀(k i n:Nat),i+k=s.length→n < 256 ^ i→g38 (s,(n:Int),(i:Int))=some ((fb n (s.drop i):Nat):Int)
 | 0,i,n,hi,hn=>by
   rw[g38,if_neg (by simp;omega),List.drop_eq_nil_of_le (by omega:s.length≤i)];rfl
 | k+1,i,n,hi,hn=>by
   have hlt:i < s.length:=by omega
   have hb:=gd3 s i;have hn7:n < 72057594037927936:=by
     have:(256:Nat) ^ i≤256 ^ 7:=Nat.pow_le_pow_right (by omega) (by omega);have e:(256:Nat) ^ 7=72057594037927936:=by decide
     omega
   have e1:mulI .u64 (n:Int) 256=((n*256:Nat):Int):=mulIn (b:=256) (by omega);rw[g38,if_pos (by simp;omega),if_pos (g6 hlt),e1,g6k,wrpn (by omega),addIn (by omega),ge (by omega),go2 hs k (i+1) _ (by omega) (by rw[Nat.pow_succ];omega),g1x hlt 0];rfl
def vub(s:List UInt8) :Option Nat:=if s.head?=some 0∨8 < s.length then none else some (fb 0 s)
theorem g12k{s:List UInt8}{n:Nat}(h:vub s=some n) :n < 18446744073709551616:=by
 unfold vub at h;split at h
 · cases h
 · rename_i hh;cases h;have:=fb_lt s 0 0 (by simp);have h2:(256:Nat) ^ (0+s.length)≤256 ^ 8:=Nat.pow_le_pow_right (by omega) (by omega);rw[g12j]at h2;omega
theorem gs4{s:List UInt8}(h:s≠[]) :(g3e s 0=0)↔s.head?=some 0:=by
 cases s with
 | nil=>exact absurd rfl h
 | cons c s=>
   have:g3e (c::s) 0=(c.toNat:Int):=g6k (c::s) 0;rw[this];simp only[List.head?_cons,Option.some.injEq];constructor
   · intro h;exact UInt8.toNat_inj.1 (by simpa using h)
   · rintro rfl;rfl
theorem gjh(s:List UInt8) :∃r,gah s=some r∧g7s s=some r∧(r.2=0→∃n,vub s=some n∧r.1=(n:Int))∧(r.2≠0→vub s=none):=by
 rw[gah,g7s];simp only[oZ4,oZ3];by_cases h0:s=[]
 · subst h0;have e1:g3m ([],0,((([]:List UInt8)).length:Int),0)=some ((fb 0 []:Nat):Int):=go1 (s:=[]) (by simp) 0 0 0 rfl (by simp);have e2:g38 ([],0,0)=some ((fb 0 []:Nat):Int):=go2 (s:=[]) (by simp) 0 0 0 rfl (by simp);refine⟨(((fb 0 []:Nat):Int),0),?_,?_,fun _=>⟨0,rfl,rfl⟩,fun h=>absurd rfl h⟩
   · show(g3m ([],0,((([]:List UInt8)).length:Int),0) >>=_)=_;rw[e1];rfl
   · show(g38 ([],0,0) >>=_)=_;rw[e2];rfl
 · have hpos:0 < s.length:=List.length_pos_iff.2 h0;have hin:inR 0 s.length=true:=g6 (k:=0) hpos;have hd:decide ((0:Int) < (s.length:Int))=true:=by simp;omega
   have hd2:(!(decide (s=[])))=true:=by simp[h0]
   rw[hd,hd2,hin];simp only[Bool.true_or,if_true,cond_true];by_cases hz:g3e s 0=0
   · have hzc:decide (g3e s 0=0)=true:=by simp[hz]
     rw[if_pos hzc,if_pos hzc];refine⟨_,rfl,rfl,fun h=>(by cases h),fun _=>?_⟩;unfold vub;rw[if_pos (.inl ((gs4 h0).1 hz))]
   · have hzc:¬(decide (g3e s 0=0)=true):=by simp[hz]
     rw[if_neg hzc,if_neg hzc];by_cases h8:8 < s.length
     · have:decide ((8:Int) < (s.length:Int))=true:=by simp;omega
       rw[if_pos this,if_pos this];refine⟨_,rfl,rfl,fun h=>(by cases h),fun _=>?_⟩;unfold vub;rw[if_pos (.inr h8)]
     · have:¬(decide ((8:Int) < (s.length:Int))=true):=by simp;omega
       rw[if_neg this,if_neg this];have e1:g3m (s,0,(s.length:Int),0)=some ((fb 0 s:Nat):Int):=go1 (by omega) s.length 0 0 (by omega) (by simp);have e2:g38 (s,0,0)=some ((fb 0 s:Nat):Int):=go2 (by omega) s.length 0 0 (by omega) (by simp);rw[e1,e2];refine⟨_,rfl,rfl,fun _=>⟨fb 0 s,?_,rfl⟩,fun h=>absurd rfl h⟩;unfold vub;rw[if_neg]
       rintro (h | h)
       · exact hz ((gs4 h0).2 h)
       · exact h8 h
def unz(n:Nat) :Int:=if n % 2=0 then((n / 2:Nat):Int)else -((n / 2:Nat):Int) - 1
theorem gxi{n:Int}(h:I64 n) :unz (zig n).toNat=n:=by
 unfold unz zig I64 at*;split <;> split <;> omega
theorem g17q{n:Nat}(h:n < 18446744073709551616) :g7b (n:Int)=some (unz n):=by
 rw[g7b];have e1:remI (n:Int) 2=((n % 2:Nat):Int):=remIn (b:=2);have e2:quoI .u64 (n:Int) 2=((n / 2:Nat):Int):=quoI2 h;rw[e1,e2,wrp64 (by omega) (by omega)];unfold unz;by_cases h0:n % 2=0
 · rw[if_pos (by simp;omega),if_pos h0]
 · have e3:subI .i64 0 ((n / 2:Nat):Int)= -((n / 2:Nat):Int):=by rw[g5c (by omega) (by omega)];omega
   rw[if_neg (by simp;omega),if_neg h0,e3,g5c (by omega) (by omega)]
theorem and1{n:Nat}(h:n < 18446744073709551616) :andI .u64 (n:Int) 1=((n % 2:Nat):Int):=by
 have e:(BitVec.ofInt 64 (n:Int) &&& BitVec.ofInt 64 (1:Int)).toNat=n % 2:=by
   have h1:BitVec.ofInt 64 (1:Int)=BitVec.ofNat 64 1:=by decide
   rw[h1,BitVec.ofInt_natCast,BitVec.toNat_and,BitVec.toNat_ofNat,BitVec.toNat_ofNat,two64,Nat.mod_eq_of_lt h];exact Nat.and_one_is_mod n
 show IntKind.u64.wrap (((BitVec.ofInt 64 (n:Int) &&& BitVec.ofInt 64 (1:Int)).toNat:Nat):Int)=_;rw[e];exact wrapu (by omega) (by omega)
theorem shr1{n:Nat} :shrI .u64 (n:Int) 1=((n / 2:Nat):Int):=by
 unfold shrI;have:((2:Int) ^ min (1:Int).toNat IntKind.u64.bits)=2:=by decide
 rw[this,Int.fdiv_eq_ediv_of_nonneg _ (by omega)];omega
theorem g12l{a:Nat}(h:a < 9223372036854775808) :xorI .i64 (a:Int) 0=(a:Int):=by
 have e:(BitVec.ofInt 64 (a:Int) ^^^ BitVec.ofInt 64 (0:Int)).toNat=a:=by
   have:BitVec.ofInt 64 (0:Int)=BitVec.ofNat 64 0:=by decide
   rw[this,BitVec.ofInt_natCast,BitVec.toNat_xor,BitVec.toNat_ofNat,BitVec.toNat_ofNat,two64,Nat.mod_eq_of_lt (by omega)];simp
 show IntKind.i64.wrap (((BitVec.ofInt 64 (a:Int) ^^^ BitVec.ofInt 64 (0:Int)).toNat:Nat):Int)=_;rw[e,IntKind.wrap_i64];omega
theorem g12m{a:Nat}(h:a < 9223372036854775808) :xorI .i64 (a:Int) (-1)= -(a:Int) - 1:=by
 have e:(BitVec.ofInt 64 (a:Int) ^^^ BitVec.ofInt 64 (-1:Int)).toNat=18446744073709551615 - a:=by
   have h1:BitVec.ofInt 64 (-1:Int)=BitVec.allOnes 64:=by decide
   rw[h1,BitVec.ofInt_natCast,BitVec.xor_allOnes,BitVec.toNat_not,BitVec.toNat_ofNat,two64,Nat.mod_eq_of_lt (by omega)]
 all_goals (try omega)
 show IntKind.i64.wrap (((BitVec.ofInt 64 (a:Int) ^^^ BitVec.ofInt 64 (-1:Int)).toNat:Nat):Int)=_;rw[e,IntKind.wrap_i64];omega
theorem g17r{n:Nat}(h:n < 18446744073709551616) :g9q (n:Int)=some (unz n):=by
 rw[g9q,shr1,and1 h,wrp64 (by omega) (by omega),wrp64 (by omega) (by omega),g5c (by omega) (by omega)];unfold unz;by_cases h0:n % 2=0
 · rw[if_pos h0,h0];have:(0:Int) - ((0:Nat):Int)=0:=rfl;rw[this,g12l (by omega)]
 · have h1:n % 2=1:=by omega
   rw[if_neg h0,h1];have:(0:Int) - ((1:Nat):Int)= -1:=rfl;rw[this,g12m (by omega)]
end
section
open Go Go.Proofs.YthnmepafpikaiaaGreat.Shv Go.Sort
set_option maxRecDepth 100000
def vI(p:List UInt8) :Option (List (List UInt8)):=match g5e p with
 | some (l,e)=>if e=0 then some l else none
 | none=>none
def vFl(p:List UInt8) :Option (List SField):=match g69 p with
 | some (l,e)=>if e=0 then some l else none
 | none=>none
def vA(p:List UInt8) :Option (Int × List UInt8):=match g78 p with
 | some (id,q,e)=>if e=0 then some (id,q)else none
 | none=>none
theorem gs5 :∀(n:Nat) (s:List UInt8) (b l:List (List UInt8)),s.length≤n→s.length+b.length≤100000→g2i (s,b)=some (.inr l)→∀q,q∈l→q∈b∨q.length≤s.length
 | n,s,b,l,hn,hb,h=>by
   rw[g2i]at h;by_cases h0:s=[]
   · rw[if_neg (by simp[h0])]at h;cases h;exact fun q hq=>.inl hq
   · rw[if_pos (by simp[h0]),gef (by omega)]at h;simp only[oZ4,oZ3]at h;cases hv:vpart s with
     | none=>
       rw[hv]at h;simp[encP]at h
     | some r=>
       obtain⟨x,rest⟩:=r;rw[hv]at h;have hl:=ggh hv;have hnn:¬((!(encP (some (x,rest))).2.2)=true):=by simp[encP]
       have hr:room 16 (b++[(encP (some (x,rest))).1]).length=true:=g44 (by omega) (by simp;omega);rw[if_neg hnn,if_pos hr]at h;intro q hq
       match n,hn with
       | 0,hn=>omega
       | n+1,hn=>
         have:=gs5 n rest _ l (by omega) (by simp;omega) h q hq;rcases this with h | h
         · rcases List.mem_append.1 h with h | h
           · exact .inl h
           · right;have:q=x:=by simpa[encP]using h
             subst this;omega
         · right;omega
theorem gq2 : ∀ (n : Nat) (s : List UInt8) (last : Nat) (b l : List SField), s.length ≤ n → s.length + b.length ≤ 100000 → g1o ((last : Int), s, b) = some (.inr l) →
   ∃l',l=b++l'∧(∀f,f∈l'→f.Data.length≤s.length∧(last:Int) < f.ID∧f.ID≤1000)∧l'.Pairwise (fun a b=>a.ID < b.ID)
 | n,s,last,b,l,hn,hb,h=>by
   rw[g1o]at h;by_cases h0:s=[]
   · rw[if_neg (by simp[h0])]at h;cases h;exact⟨[],by simp,fun f hf=>(by cases hf),.nil⟩
   · rw[if_pos (by simp[h0])]at h;rcases vg0 s with⟨e,he,hg⟩ | ⟨m,k,hg,hk0,hk,hm⟩
     · rw[gfo he hg]at h;simp at h
     · rw[gcl hg hk]at h;simp only[oZ4,oZ3,quoI2 hm]at h;by_cases hc:((m / 2:Nat):Int)≤(last:Int)∨1000 < ((m / 2:Nat):Int)
       · exfalso
         have:(bif bif (!true)then true else decide (((m / 2:Nat):Int)≤(last:Int))then true else decide (1000 < ((m / 2:Nat):Int)))=true:=by
           generalize ((m / 2:Nat):Int)=d at hc;rcases hc with h1 | h1
           · simp[h1]
           · by_cases h2:d≤(last:Int) <;> simp[h2,h1]
         rw[if_pos this]at h;cases h
       · have:¬((bif bif (!true)then true else decide (((m / 2:Nat):Int)≤(last:Int))then true else decide (1000 < ((m / 2:Nat):Int)))=true):=by
           have a:¬((m / 2:Nat):Int)≤(last:Int):=fun h=>hc (.inl h)
           have b:¬1000 < ((m / 2:Nat):Int):=fun h=>hc (.inr h)
           simp only[a,b,Bool.not_true,decide_false,cond_false,Bool.false_eq_true,not_false_eq_true]
         rw[if_neg this,gef (by rw[List.length_drop];omega)]at h;simp only[oZ3]at h;cases hv:vpart (s.drop k)with
         | none=>
           rw[hv]at h;simp[encP]at h
         | some r=>
           obtain⟨x,rest⟩:=r;rw[hv]at h;have hl:=ggh hv;rw[List.length_drop]at hl;have hnn:¬((!(encP (some (x,rest))).2.2)=true):=by simp[encP]
           have hw:wrp .i64 ((m / 2:Nat):Int)=((m / 2:Nat):Int):=wrp64 (by omega) (by omega);rw[if_neg hnn,hw]at h;have hr:room 32 (b++[(⟨((m / 2:Nat):Int),decide (remI (m:Int) 2=1),(encP (some (x,rest))).1⟩:SField)]).length=true:=g44 (by omega) (by simp;omega);rw[if_pos hr]at h
           match n,hn with
           | 0,hn=>omega
           | n+1,hn=>
             obtain⟨l',e,h1,h2⟩:=gq2 n rest (m / 2) _ l (by omega) (by simp;omega) h;refine⟨⟨((m / 2:Nat):Int),decide (remI (m:Int) 2=1),(encP (some (x,rest))).1⟩::l',by rw[e];simp,fun f hf=>?_,?_⟩
             · rcases List.mem_cons.1 hf with rfl | hf
               · refine⟨by show x.length≤_;omega,by show(last:Int) < ((m / 2:Nat):Int);omega,by show((m / 2:Nat):Int)≤1000;omega⟩
               · have:=h1 f hf;exact⟨by omega,by omega,this.2.2⟩
             · rw[List.pairwise_cons];exact⟨fun f hf=>(h1 f hf).2.1,h2⟩
theorem ge6{p:List UInt8}(hp:p.length≤90000) :∃o,g5e p=some o∧g70 p=some o∧(o.2=0→vI p=some o.1∧(∀q,q∈o.1→q.length≤p.length)∧o.1.length≤p.length)∧(o.2≠0→vI p=none):=by
 obtain⟨o,h1,h2,h3⟩:=g13e hp;refine⟨o,h1,h2,fun h0=>⟨?_,?_,h3⟩,fun h0=>?_⟩
 · unfold vI;rw[h1];obtain⟨l,e⟩:=o;simp only at h0;simp[h0]
 · obtain⟨o',a1,_,_⟩:=gnx p.length p [] (by omega) (by simp;omega);rw[g5e,a1]at h1;cases o' with
   | inl e=>
     have:o=([],e):=(Option.some.inj h1).symm;subst this;intro q hq;cases hq
   | inr l=>
     have:o=(l,0):=(Option.some.inj h1).symm;subst this;intro q hq;rcases gs5 p.length p [] l (by omega) (by simp;omega) a1 q hq with h | h
     · cases h
     · exact h
 · unfold vI;rw[h1];obtain⟨l,e⟩:=o;simp only at h0;simp[h0]
theorem gn9{p:List UInt8}(hp:p.length≤90000) :∃o,g69 p=some o∧g88 p=some o∧(o.2=0→vFl p=some o.1∧(∀f,f∈o.1→f.Data.length≤p.length∧I1000 f.ID)∧o.1.Pairwise (fun a b=>a.ID < b.ID)∧o.1.length≤p.length)∧(o.2≠0→vFl p=none):=by
 obtain⟨o,h1,h2,h3⟩:=g11j hp;obtain⟨o',a1,_,_⟩:=gri p.length p 0 [] (by omega) (by simp;omega);have key:o.2=0→(∀f,f∈o.1→f.Data.length≤p.length∧I1000 f.ID)∧o.1.Pairwise (fun a b=>a.ID < b.ID):=by
   intro h0;have h1':=h1;have a1':g1o (0,p,[])=some o':=a1;rw[g69,a1']at h1';cases o' with
   | inl e=>
     have:o=([],e):=(Option.some.inj h1').symm;subst this;exact⟨fun f hf=>(by cases hf),.nil⟩
   | inr l=>
     have:o=(l,0):=(Option.some.inj h1').symm;subst this;obtain⟨l',e,b1,b2⟩:=gq2 p.length p 0 [] l (by omega) (by simp;omega) a1;have:l=l':=by simpa using e
     subst this;exact⟨fun f hf=>by have:=b1 f hf;exact⟨this.1,by omega,this.2.2⟩,b2⟩
 refine⟨o,h1,h2,fun h0=>⟨?_,(key h0).1,(key h0).2,h3⟩,fun h0=>?_⟩
 · unfold vFl;rw[h1];obtain⟨l,e⟩:=o;simp only at h0;simp[h0]
 · unfold vFl;rw[h1];obtain⟨l,e⟩:=o;simp only at h0;simp[h0]
theorem gv4(p:List UInt8) :∃o,g78 p=some o∧g9s p=some o∧(o.2.2=0→vA p=some (o.1,o.2.1)∧o.2.1.length≤p.length∧I1000 o.1)∧(o.2.2≠0→vA p=none):=by
 obtain⟨o,h1,h2⟩:=g17c p;have key:o.2.2=0→o.2.1.length≤p.length∧I1000 o.1:=by
   intro h0;have h1':=h1;rw[g78]at h1';rcases vg0 p with⟨e,he,hg⟩ | ⟨m,k,hg,hk0,hk,hm⟩
   · rw[gfo he hg]at h1';have:o=(0,[],12):=by simpa using h1'.symm
     subst this;cases h0
   · rw[gcl hg hk]at h1';simp only[oZ4,oZ3]at h1';by_cases hc:(m:Int) < 1∨1000 < (m:Int)
     · have hcc:(bif bif (!true)then true else decide ((m:Int) < 1)then true else decide (1000 < (m:Int)))=true:=by
         rcases hc with h | h
         · simp only[h,Bool.not_true,decide_true,cond_true,cond_false]
         · have:¬(m:Int) < 1:=by omega
           simp only[h,this,Bool.not_true,decide_true,decide_false,cond_false]
       rw[if_pos hcc]at h1';have:o=(0,[],12):=(Option.some.inj h1').symm;subst this;cases h0
     · have hcc:¬((bif bif (!true)then true else decide ((m:Int) < 1)then true else decide (1000 < (m:Int)))=true):=by
         have a:¬(m:Int) < 1:=fun h=>hc (.inl h)
         have b:¬1000 < (m:Int):=fun h=>hc (.inr h)
         simp only[a,b,Bool.not_true,decide_false,cond_false,Bool.false_eq_true,not_false_eq_true]
       rw[if_neg hcc,wrp64 (by omega) (by omega)]at h1';have:o=((m:Int),p.drop k,0):=(Option.some.inj h1').symm;subst this;exact⟨by show(p.drop k).length≤_;rw[List.length_drop];omega,by omega,by show(m:Int)≤1000;omega⟩
 refine⟨o,h1,h2,fun h0=>⟨?_,(key h0).1,(key h0).2⟩,fun h0=>?_⟩
 · unfold vA;rw[h1];obtain⟨l,q,e⟩:=o;simp only at h0;simp[h0]
 · unfold vA;rw[h1];obtain⟨l,q,e⟩:=o;simp only at h0;simp[h0]
def g6f(a b:List UInt8) :Bool:=bif decide ((a.length:Int) < (b.length:Int))then true else bif decide ((a.length:Int)=(b.length:Int))then Op.bytesLess a b else false
def vcan(ts:List SType) :Nat→Int→List UInt8→Prop
 | 0,_,_=>False
 | r+1,t,p=>
   let x:=ts.getD t.toNat dSType
   (x.Kind=1∧(p=[]∨p=[1]))∨
   (x.Kind=2∧∃n,vub p=some n∧x.Low≤unz n∧unz n≤x.High)∨
   (x.Kind=3∧(p.length:Int)≤x.Max)∨
   (x.Kind=4∧∃n,vub p=some n∧(1≤n∧n≤1000)∧((∃y,y∈x.Symbols∧y.ID=(n:Int))∨x.Open=true))∨
   (x.Kind=5∧∃l,vFl p=some l∧(∀f,f∈l→(findM x.Members f.ID=none→f.Critical=false)∧∀m,findM x.Members f.ID=some m→f.Critical=m.Critical∧vcan ts r m.Type_ f.Data∧(m.HasDefault=true→f.Data≠vpay ts m.Type_ m.Default))∧∀m,m∈x.Members→m.HasDefault=false→∃f,f∈l∧f.ID=m.ID)∨
   (x.Kind=6∧∃id q,vA p=some (id,q)∧(findM x.Members id=none→x.Open=true)∧∀m,findM x.Members id=some m→vcan ts r m.Type_ q)∨
   (x.Kind=7∧∃l,vI p=some l∧(l.length:Int)≤x.Max∧∀q,q∈l→vcan ts r x.Elem q)∨
   (x.Kind=8∧∃l,vI p=some l∧l.length % 2=0∧((l.length / 2:Nat):Int)≤x.Max∧∀i,2*i+1 < l.length→vcan ts r x.Key (l.getD (2*i) [])∧vcan ts r x.Elem (l.getD (2*i+1) [])∧(0 < i→g6f (l.getD (2*i - 2) []) (l.getD (2*i) [])=true))∨
   (x.Kind=9∧(p=[]∨∃q,p=1::q∧vcan ts r x.Elem q))
theorem ggm :∀{A B:List Int},A.Nodup→(∀a,a∈A→a∈B)→A.length≤B.length
 | [],B,_,_=>by simp
 | a::A,B,hn,hs=>by
   have hn':=List.nodup_cons.1 hn
   have h1:=ggm (A:=A) (B:=B.erase a) hn'.2 (fun b hb=>by
     have hne:b≠a:=fun e=>hn'.1 (e▸hb)
     exact(List.mem_erase_of_ne hne).2 (hs b (.tail _ hb)))
   have h2:=List.length_erase_of_mem (hs a (.head _));have h3:=List.length_pos_of_mem (hs a (.head _));simp only[List.length_cons];omega
theorem g12n{A B:List Int}(hn:A.Nodup)(hs:∀a,a∈A→a∈B)(hB:B.Nodup) :A.length=B.length↔∀b,b∈B→b∈A:=by
 constructor
 · intro h b hb;apply Classical.byContradiction;intro hc
   have h1:=ggm (A:=A) (B:=B.erase b) hn (fun a ha=>by
     have hne:a≠b:=fun e=>hc (e▸ha)
     exact(List.mem_erase_of_ne hne).2 (hs a ha))
   have h2:=List.length_erase_of_mem hb;have h3:=List.length_pos_of_mem hb;omega
 · intro h;have h1:=ggm hn hs;have h2:=ggm hB h;omega
end
section
open Go Go.Proofs.YthnmepafpikaiaaGreat.Shv Go.Sort
set_option maxRecDepth 100000
section
variable {ts:List SType}
abbrev rdr(ts:List SType) :EncodeReader:=⟨⟨ts⟩⟩
def Ce(ts:List SType)(r:Nat)(L:Nat) :Prop:=∀(t:Int) (p:List UInt8),0≤t→t < ts.length→p.length≤4096→SaysP (g9 (rdr ts,t,p,(L:Int))) (vcan ts r t p)
theorem g12o(a b:List UInt8) :gb3 (a,b)=some (g6f a b):=rfl
theorem g13r(a b:List UInt8) :gal (a,b)=some (g6f a b):=rfl
theorem gw6 {x : SType} (hs : x.Symbols.length < 9223372036854775807) (p : List UInt8) (hk : x.Kind = 1 ∨ x.Kind = 2 ∨ x.Kind = 3 ∨ x.Kind = 4) : SaysP (g7y (x, p)) ((x.Kind = 1 ∧ (p = [] ∨ p = [1])) ∨
   (x.Kind=2∧∃n,vub p=some n∧x.Low≤unz n∧unz n≤x.High)∨
   (x.Kind=3∧(p.length:Int)≤x.Max)∨
   (x.Kind=4∧∃n,vub p=some n∧(1≤n∧n≤1000)∧((∃y,y∈x.Symbols∧y.ID=(n:Int))∨x.Open=true))):=by
 rw[g7y];have hk4:¬x.Kind=1→¬x.Kind=3→¬x.Kind=2→x.Kind=4:=by omega
 by_cases k1:x.Kind=1
 · rw[if_pos (by simp[k1])];refine .of ?_;by_cases h:p=[] <;> simp[h,k1]
 by_cases k3:x.Kind=3
 · rw[if_neg (by simp[k1]),if_pos (by simp[k3])];refine .of ?_;simp[k3]
 rw[if_neg (by simp[k1]),if_neg (by simp[k3])];obtain⟨r,r1,_,r3,r4⟩:=gjh p;rw[r1];simp only[oZ4,oZ3];by_cases h0:r.2=0
 · obtain⟨n,n1,n2⟩:=r3 h0;have hn:=g12k n1;rw[if_neg (by simp[h0]),n2,n1];by_cases k2:x.Kind=2
   · rw[if_pos (by simp[k2]),g17r hn];refine .of ?_;by_cases g:x.Low≤unz n <;> simp[g,k2]
   · have k4:x.Kind=4:=hk4 k1 k3 k2;rw[if_neg (by simp[k2])];by_cases hr:1≤n∧n≤1000
     · have a:¬(n:Int) < 1:=by omega
       have b:¬(1000:Int) < (n:Int):=by omega
       obtain⟨q,q1,_,qf⟩:=gaw (t:=x) (n:Int) hs;rw[if_neg (by simp only[a,b,decide_false,cond_false,Bool.false_eq_true,not_false_eq_true]),wrp64 (by omega) (by omega),q1];refine⟨_,rfl,?_⟩;have:=ge5 qf;cases hq:q.2 with
       | true=>
         have h1:=this.1 hq;simp[k4,hr,h1]
       | false=>
         have h1:¬∃y,y∈x.Symbols∧y.ID=(n:Int):=fun h=>by rw[this.2 h]at hq;cases hq
         simp only[cond_false];constructor
         · intro h;exact .inr (.inr (.inr ⟨k4,n,rfl,hr,.inr h⟩))
         · rintro (⟨h,_⟩ | ⟨h,_⟩ | ⟨h,_⟩ | ⟨_,m,hm,_,h⟩)
           · exact absurd h k1
           · exact absurd h k2
           · exact absurd h k3
           · cases hm;rcases h with h | h
             · exact absurd h h1
             · exact h
     · have hc:(bif decide ((n:Int) < 1)then true else decide (1000 < (n:Int)))=true:=by
         by_cases a:(n:Int) < 1
         · simp only[a,decide_true,cond_true]
         · have b:(1000:Int) < (n:Int):=by omega
           simp only[a,b,decide_true,decide_false,cond_false]
       rw[if_pos hc];refine⟨false,rfl,?_⟩;constructor
       · intro h;cases h
       · rintro (⟨h,_⟩ | ⟨h,_⟩ | ⟨h,_⟩ | ⟨_,m,hm,h,_⟩)
         · exact absurd h k1
         · exact absurd h k2
         · exact absurd h k3
         · cases hm;exact absurd h hr
 · have hv:=r4 h0;rw[if_pos (by simp[h0]),hv];refine⟨false,rfl,?_⟩;constructor
   · intro h;cases h
   · rintro (⟨h,_⟩ | ⟨_,m,hm,_⟩ | ⟨h,_⟩ | ⟨_,m,hm,_⟩)
     · exact absurd h k1
     · cases hm
     · exact absurd h k3
     · cases hm
def okF(ts:List SType)(r:Nat)(Ms:List SMember)(f:SField) :Prop:=(findM Ms f.ID=none→f.Critical=false)∧∀m,findM Ms f.ID=some m→f.Critical=m.Critical∧vcan ts r m.Type_ f.Data∧(m.HasDefault=true→f.Data≠vpay ts m.Type_ m.Default)
def needF(Ms:List SMember)(l:List SField) :List SField:=l.filter fun f=>match findM Ms f.ID with
 | some m=>!m.HasDefault
 | none=>false
theorem gxj (H : DrOk ts) {r L : Nat} (hL : L ≤ 300) (ih : Ce ts r (L + 1)) {x : SType} (hx : x ∈ ts) (hMt : ∀ m, m ∈ x.Members → 0 ≤ m.Type_ ∧ m.Type_ < ts.length) {l : List SField} (hl : l.length ≤ 100000) (hd : ∀ f, f ∈ l → f.Data.length ≤ 4096) :
   ∀(k i seen:Nat),i+k=l.length→seen≤i→(g17 ((L:Int),(seen:Int),l,(l.length:Int),(i:Int),ts,x)=some (.inr (((seen+(needF x.Members (l.drop i)).length:Nat):Int),x))∧∀f,f∈l.drop i→okF ts r x.Members f)∨
     (g17 ((L:Int),(seen:Int),l,(l.length:Int),(i:Int),ts,x)=some (.inl false)∧¬∀f,f∈l.drop i→okF ts r x.Members f)
 | 0,i,seen,hi,hs=>by
   left;rw[g17,if_neg (by simp;omega),List.drop_eq_nil_of_le (by omega:l.length≤i)];exact⟨rfl,fun f hf=>by cases hf⟩
 | k+1,i,seen,hi,hs=>by
   have hlt:i < l.length:=by omega
   have hm7:x.Members.length < 9223372036854775807:=g12 (g3h (H.T _ hx).mems);have hmem:=g8 hlt dSField;obtain⟨q,q1,_,qf⟩:=g3x (t:=x) (l.getD i dSField).ID hm7;have ih':=gxj H hL ih hx hMt hl hd k (i+1);rw[g1x hlt dSField];have hall:∀P:SField→Prop,(∀f,f∈l.getD i dSField::l.drop (i+1)→P f)↔P (l.getD i dSField)∧∀f,f∈l.drop (i+1)→P f:=fun P=>by
     constructor
     · intro h;exact⟨h _ (.head _),fun f hf=>h f (.tail _ hf)⟩
     · rintro ⟨h1,h2⟩ f hf
       rcases List.mem_cons.1 hf with rfl | hf
       · exact h1
       · exact h2 f hf
   rw[hall];rw[g17,if_pos (by simp;omega),if_pos (g6 hlt)];simp only[oZ4,oZ3,g7];rw[q1];simp only[oZ3];generalize hf:l.getD i dSField=f at*;rcases g5h qf with⟨e,j,j1,j2,j3,j4⟩ | ⟨e,j3⟩
   · rw[if_neg (by simp[e]),j2,if_pos (g6 j1)];simp only[g7,SValue.gr];have hmm:=g8 j1 dSMember;obtain⟨m0,m1⟩:=hMt _ hmm;have hdef:=H.D _ hx _ hmm;have hdo:=(H.T _ hx).dv _ hmm;have hdw:=H.W _ hx _ hmm;generalize x.Members.getD j dSMember=m at*
     have hok:okF ts r x.Members f↔f.Critical=m.Critical∧vcan ts r m.Type_ f.Data∧(m.HasDefault=true→f.Data≠vpay ts m.Type_ m.Default):=by
       unfold okF;rw[j3];constructor
       · rintro ⟨_,h⟩;exact h m rfl
       · intro h;exact⟨fun h=>(by cases h),fun m' hm'=>(by cases hm';exact h)⟩
     have hneed:needF x.Members (f::l.drop (i+1))=if m.HasDefault=true then needF x.Members (l.drop (i+1))else f::needF x.Members (l.drop (i+1)):=by
       unfold needF;rw[List.filter_cons,j3];cases hdd:m.HasDefault <;> simp only[hdd,Bool.not_true,Bool.not_false,if_true,if_false,Bool.false_eq_true]
     obtain⟨w,w1,w2⟩:=ih m.Type_ f.Data m0 m1 (hd _ hmem);have e1:addI .i64 (L:Int) 1=((L+1:Nat):Int):=ge (by omega);rw[hok,hneed];by_cases hcr:f.Critical=m.Critical
     · have hq:(!(eqB f.Critical m.Critical))=false:=by rw[hcr];cases m.Critical <;> rfl
       have w1':g9 ((⟨(⟨ts⟩:SSchema)⟩:EncodeReader),m.Type_,f.Data,((L+1:Nat):Int))=some w:=w1;rw[hq,if_pos (by simp),e1,w1'];simp only[oZ3,cond_false];cases w with
       | false=>
         right;rw[if_pos (by simp)];refine⟨rfl,fun h=>?_⟩;have:=w2.2 h.1.2.1;cases this
       | true=>
         have hw:=w2.1 rfl;rw[if_neg (by simp)];cases hdf:m.HasDefault with
         | true=>
           have hfit:=hdef hdf;obtain⟨z,z1,z2⟩:=gv2 (H.V.sok H.T) hdo m.Type_ false;have hz:=z2.2 (vfit_weak _ _ hfit);subst hz;have hF:g76 ((⟨ts⟩:SSchema),m.Type_,m.Default)=some true:=by
             rw[g76];simp only[SValue.gr];rw[z1];rfl
           have hE:=(gxa (H.V.sok H.T) hdo (by have:=hdw hdf;omega) (vfit_weak _ _ hfit)).1;rw[if_pos rfl,hF];simp only[oZ3];rw[if_pos trivial,hE];simp only[oZ3,cond_true];by_cases hp:vpay ts m.Type_ m.Default=f.Data
           · right;rw[if_pos (by simpa using hp)];exact⟨rfl,fun h=>h.1.2.2 trivial hp.symm⟩
           · rw[if_neg (by simpa using hp),ge (by omega)];rcases ih' seen (by omega) (by omega)with⟨a,b⟩ | ⟨a,b⟩
             · left;rw[if_pos trivial];exact⟨a,⟨hcr,hw,fun _=>fun e=>hp e.symm⟩,b⟩
             · right;exact⟨a,fun h=>b h.2⟩
         | false=>
           have e2:addI .i64 (seen:Int) 1=((seen+1:Nat):Int):=ge (by omega);rw[if_neg (by simp),e2,ge (by omega)];rcases ih' (seen+1) (by omega) (by omega)with⟨a,b⟩ | ⟨a,b⟩
           · left;rw[if_neg (by simp),List.length_cons];have e3:seen+((needF x.Members (l.drop (i+1))).length+1)=seen+1+(needF x.Members (l.drop (i+1))).length:=by omega
             rw[e3];exact⟨a,⟨hcr,hw,fun h=>by cases h⟩,b⟩
           · right;exact⟨a,fun h=>b h.2⟩
     · right;have hq:(!(eqB f.Critical m.Critical))=true:=by
         cases h1:f.Critical <;> cases h2:m.Critical <;> rw[h1,h2]at hcr <;> first | rfl | exact absurd rfl hcr
       rw[hq];simp only[Bool.not_true,Bool.false_eq_true,if_false,oZ3,cond_true,if_true];exact⟨by first | rfl | trivial,fun h=>hcr h.1.1⟩
   · have hok:okF ts r x.Members f↔f.Critical=false:=by
       unfold okF;rw[j3];constructor
       · rintro ⟨h,_⟩;exact h rfl
       · intro h;exact⟨fun _=>h,fun m' hm'=>by cases hm'⟩
     have hneed:needF x.Members (f::l.drop (i+1))=needF x.Members (l.drop (i+1)):=by
       unfold needF;rw[List.filter_cons,j3];rfl
     rw[hok,hneed,if_pos (by simp[e])];cases hcr:f.Critical with
     | true=>
       right;rw[if_pos rfl];exact⟨rfl,fun h=>by have:=h.1;cases this⟩
     | false=>
       rw[if_neg (by simp),ge (by omega)];rcases ih' seen (by omega) (by omega)with⟨a,b⟩ | ⟨a,b⟩
       · exact .inl ⟨a,by first | rfl | trivial,b⟩
       · exact .inr ⟨a,fun h=>b h.2⟩
theorem gqp{Ms:List SMember}(hl:Ms.length≤1000) :∀(k i:Nat) (seen:Int),i+k=Ms.length→-100000≤seen - k→seen≤200000→g2f (seen,Ms,(Ms.length:Int),(i:Int))=some (seen - (((Ms.drop i).filter fun m=>!m.HasDefault).length:Int))
 | 0,i,seen,hi,h1,h2=>by
   rw[g2f,if_neg (by simp;omega),List.drop_eq_nil_of_le (by omega:Ms.length≤i)];simp
 | k+1,i,seen,hi,h1,h2=>by
   have hlt:i < Ms.length:=by omega
   rw[g2f,if_pos (by simp;omega),if_pos (g6 hlt),g1x hlt dSMember];simp only[g7];rw[List.filter_cons,ge (by omega)];cases (Ms.getD i dSMember).HasDefault with
   | true=>
     simp only[Bool.not_true,Bool.false_eq_true,if_false];exact gqp hl k (i+1) seen (by omega) (by omega) h2
   | false=>
     simp only[Bool.not_false,if_true,List.length_cons];rw[g5c (by omega) (by omega),gqp hl k (i+1) _ (by omega) (by omega) (by omega)]
     congr 1;omega
theorem g13s{Ms:List SMember}(hM:MAsc Ms){l:List SField}(hl:l.Pairwise (fun a b=>a.ID < b.ID)) :(needF Ms l).length=(Ms.filter fun m=>!m.HasDefault).length↔∀m,m∈Ms→m.HasDefault=false→∃f,f∈l∧f.ID=m.ID:=by
 have hA:((needF Ms l).map (·.ID)).Nodup:=by
   unfold List.Nodup;rw[List.pairwise_map]
   have:=hl.sublist (List.filter_sublist (l:=l) (p:=fun f=>match findM Ms f.ID with
     | some m=>!m.HasDefault
     | none=>false))
   exact this.imp fun {a b} h=>by omega
 have hB:((Ms.filter fun m=>!m.HasDefault).map (·.ID)).Nodup:=by
   unfold List.Nodup;rw[List.pairwise_map];exact(hM.1.sublist List.filter_sublist).imp fun {a b} h=>by omega
 have hsub:∀a,a∈(needF Ms l).map (·.ID)→a∈(Ms.filter fun m=>!m.HasDefault).map (·.ID):=by
   intro a ha;obtain⟨f,hf,rfl⟩:=List.mem_map.1 ha;unfold needF at hf;rw[List.mem_filter]at hf;obtain⟨h1,h2⟩:=hf;cases hm:findM Ms f.ID with
   | none=>rw[hm]at h2;cases h2
   | some m=>
     rw[hm]at h2;have e1:=List.mem_of_find?_eq_some hm;have e2:=List.find?_some hm;exact List.mem_map.2 ⟨m,List.mem_filter.2 ⟨e1,h2⟩,by simpa using e2⟩
 have:=g12n hA hsub hB;simp only[List.length_map]at this;rw[this];constructor
 · intro h m hm hd;obtain⟨f,hf,e⟩:=List.mem_map.1 (h m.ID (List.mem_map.2 ⟨m,List.mem_filter.2 ⟨hm,by simp[hd]⟩,rfl⟩));unfold needF at hf;exact⟨f,(List.mem_filter.1 hf).1,e⟩
 · intro h b hb;obtain⟨m,hm,rfl⟩:=List.mem_map.1 hb;obtain⟨h1,h2⟩:=List.mem_filter.1 hm;obtain⟨f,f1,f2⟩:=h m h1 (by simpa using h2);refine List.mem_map.2 ⟨f,?_,f2⟩;unfold needF;refine List.mem_filter.2 ⟨f1,?_⟩;have hfind:findM Ms f.ID=some m:=by
     obtain⟨j,hj,hjm⟩:=List.getElem_of_mem h1;unfold findM;rw[List.find?_eq_some_iff_getElem];refine⟨by simp[f2],j,hj,hjm,fun i hi=>?_⟩;have hp:=List.pairwise_iff_getElem.1 hM.1 i j (by omega) hj hi;rw[hjm]at hp;simp;omega
   rw[hfind];exact h2
end
end
section
open Go Go.Proofs.YthnmepafpikaiaaGreat.Shv Go.Sort
set_option maxRecDepth 100000
section
variable {ts:List SType}
theorem gv5 {r L : Nat} (hL : L ≤ 300) {x : SType} {l : List (List UInt8)} (hl : l.length ≤ 100000) (ih : ∀ q, q ∈ l → SaysP (g9 (rdr ts, x.Elem, q, ((L + 1 : Nat) : Int))) (vcan ts r x.Elem q)) :
   ∃b,g2z (l,ts,x.Kind,x.Name,x.Low,x.High,x.Max,x.Symbols,x.Members,x.Key,x.Elem,x.Open,(L:Int))=some (b,ts,x.Kind,x.Name,x.Low,x.High,x.Max,x.Symbols,x.Members,x.Key,x.Elem,x.Open,(L:Int))∧(b=false↔∀q,q∈l→vcan ts r x.Elem q):=by
 let p:Nat→Bool:=fun i=>(g9 (rdr ts,x.Elem,l.getD i [],((L+1:Nat):Int))).getD false
 have hp:∀i,i < l.length→g9 (rdr ts,x.Elem,l.getD i [],((L+1:Nat):Int))=some (p i)∧(p i=true↔vcan ts r x.Elem (l.getD i [])):=by
   intro i hi;obtain⟨w,h1,h2⟩:=ih _ (g8 hi []);refine⟨by simp only[p,h1,Option.getD_some],?_⟩;simp only[p,h1,Option.getD_some];exact h2
 have e1:addI .i64 (L:Int) 1=((L+1:Nat):Int):=ge (by omega)
 have hf:=gbe (fun i=>g1j (l,(l.length:Int),(i:Int),ts,x.Kind,x.Name,x.Low,x.High,x.Max,x.Symbols,x.Members,x.Key,x.Elem,x.Open,(L:Int))) l.length (fun i=>!(p i)) (fun i=>.inl ((i:Int),ts,x.Kind,x.Name,x.Low,x.High,x.Max,x.Symbols,x.Members,x.Key,x.Elem,x.Open,(L:Int))) (.inr (ts,x.Kind,x.Name,x.Low,x.High,x.Max,x.Symbols,x.Members,x.Key,x.Elem,x.Open,(L:Int)))
   (fun i hi=>by
     have h1:g9 ((⟨(⟨ts⟩:SSchema)⟩:EncodeReader),x.Elem,l.getD i [],((L+1:Nat):Int))=some (p i):=(hp i hi).1;rw[g1j,if_pos (by simp;omega),if_pos (g6 hi),g7v];simp only[g7];rw[e1,h1,ge (by omega)]
     rfl)
   (by rw[g1j,if_neg (by simp)])
 have e0:g1j (l,(l.length:Int),((0:Nat):Int),ts,x.Kind,x.Name,x.Low,x.High,x.Max,x.Symbols,x.Members,x.Key,x.Elem,x.Open,(L:Int))=g1j (l,(l.length:Int),0,ts,x.Kind,x.Name,x.Low,x.High,x.Max,x.Symbols,x.Members,x.Key,x.Elem,x.Open,(L:Int)):=rfl;simp only[e0]at hf;rw[g2z,g5y];rcases hf with⟨j,h1,h2,h3,h4⟩ | ⟨h1,h4⟩
 · rw[h4];refine⟨true,?_,?_⟩
   · have e:decide ((0:Int)≤(j:Int))=true:=by simp
     simp only[oZ4,oZ3,e]
   · constructor
     · intro h;cases h
     · intro h;have:=(hp j h1).2.2 (h _ (g8 h1 []));simp[this]at h2
 · rw[h4];refine⟨false,rfl,?_⟩;simp only[true_iff];intro q hq;obtain⟨i,hi,rfl⟩:=List.getElem_of_mem hq;have:=(hp i hi).2.1 (by simpa using h1 i hi);rw[g15 hi]at this;exact this
theorem gxk {γ : Type} (a e Z sh I0 I2 : Bool) (sI iI : Int) (J : Int → Bool) (I1 : Int → Bool) (E : Int → Option Bool) (B : Int → Option Bool) (X Y : Option γ) (hE : E iI = some e) (hJ : J iI = true) (hI2 : I2 = true) (h1 : Z = true → I1 sI = true ∧ B sI = some sh) :
   (some a >>=fun r_18=>some (!r_18) >>=fun t61=>some iI >>=fun t68=>if(J t68 || (!(!t61)))=true then(if(!t61)=true then E t68 else some false) >>=fun r_19=>some (bif t61 then true else(!r_19)) >>=fun t75=>some Z >>=fun t78=>some sI >>=fun t82=>
     if(I1 t82 || (!((!t75) && t78)))=true then if(I2 || (!((!t75) && t78)))=true then(if((!t75) && t78)=true then B t82 else some false) >>=fun r_20=>if(bif t75 then true else bif t78 then(!r_20)else false)=true then X else Y else none else none else none)=if(a && e && (!Z || sh))=true then Y else X:=by
 subst hI2;simp only[oZ4,oZ3];rw[hE,hJ];cases Z with
 | true=>
   obtain⟨h2,h3⟩:=h1 rfl;rw[h2,h3];cases a <;> cases e <;> cases sh <;> rfl
 | false=>
   generalize I1 sI=d;cases a <;> cases e <;> cases d <;> cases sh <;> rfl
theorem g14z {r L : Nat} (hL : L ≤ 300) {x : SType} {l : List (List UInt8)} (hl : l.length ≤ 100000) (he : l.length % 2 = 0) (ihk : ∀ q, q ∈ l → SaysP (g9 (rdr ts, x.Key, q, ((L + 1 : Nat) : Int))) (vcan ts r x.Key q)) (ihe : ∀ q, q ∈ l → SaysP (g9 (rdr ts, x.Elem, q, ((L + 1 : Nat) : Int))) (vcan ts r x.Elem q)) :
   SaysP (g23 (l,0,ts,x.Kind,x.Name,x.Low,x.High,x.Max,x.Symbols,x.Members,x.Key,x.Elem,x.Open,(L:Int)) >>=fun o=>match o with | .inl x=>some x | .inr _=>some true)
     (∀i,2*i+1 < l.length→vcan ts r x.Key (l.getD (2*i) [])∧vcan ts r x.Elem (l.getD (2*i+1) [])∧(0 < i→g6f (l.getD (2*i - 2) []) (l.getD (2*i) [])=true)):=by
 let a:Nat→Bool:=fun i=>(g9 (rdr ts,x.Key,l.getD (2*i) [],((L+1:Nat):Int))).getD false
 let e:Nat→Bool:=fun i=>(g9 (rdr ts,x.Elem,l.getD (2*i+1) [],((L+1:Nat):Int))).getD false
 have ha:∀i,2*i < l.length→g9 (rdr ts,x.Key,l.getD (2*i) [],((L+1:Nat):Int))=some (a i)∧(a i=true↔vcan ts r x.Key (l.getD (2*i) [])):=by
   intro i hi;obtain⟨w,h1,h2⟩:=ihk _ (g8 hi []);refine⟨by simp only[a,h1,Option.getD_some],?_⟩;simp only[a,h1,Option.getD_some];exact h2
 have hee:∀i,2*i+1 < l.length→g9 (rdr ts,x.Elem,l.getD (2*i+1) [],((L+1:Nat):Int))=some (e i)∧(e i=true↔vcan ts r x.Elem (l.getD (2*i+1) [])):=by
   intro i hi;obtain⟨w,h1,h2⟩:=ihe _ (g8 hi []);refine⟨by simp only[e,h1,Option.getD_some],?_⟩;simp only[e,h1,Option.getD_some];exact h2
 have e1:addI .i64 (L:Int) 1=((L+1:Nat):Int):=ge (by omega)
 refine(SaysP.loop (L:=fun i=>g23 (l,((2*i:Nat):Int),ts,x.Kind,x.Name,x.Low,x.High,x.Max,x.Symbols,x.Members,x.Key,x.Elem,x.Open,(L:Int))) (n:=l.length / 2) (p:=fun i=>a i && e i && (!(decide ((0:Int) < ((2*i:Nat):Int))) || g6f (l.getD (2*i - 2) []) (l.getD (2*i) []))) (g:=()) rfl (fun i hi=>?_) ?_).imp ?_
 · show g23 (l,((2*i:Nat):Int),ts,x.Kind,x.Name,x.Low,x.High,x.Max,x.Symbols,x.Members,x.Key,x.Elem,x.Open,(L:Int))=if _ then g23 (l,((2*(i+1):Nat):Int),ts,x.Kind,x.Name,x.Low,x.High,x.Max,x.Symbols,x.Members,x.Key,x.Elem,x.Open,(L:Int))else _
   have h2:2*i < l.length:=by omega
   have h3:2*i+1 < l.length:=by omega
   have ha':g9 ((⟨(⟨ts⟩:SSchema)⟩:EncodeReader),x.Key,l.getD (2*i) [],((L+1:Nat):Int))=some (a i):=(ha i h2).1;have hst:addI .i64 ((2*i:Nat):Int) 2=((2*(i+1):Nat):Int):=by
     have:=ghr (a:=2*i) (b:=2) (by omega);have e:2*i+2=2*(i+1):=by omega
     rw[e]at this;exact this
   have hs1:addI .i64 ((2*i:Nat):Int) 1=((2*i+1:Nat):Int):=ge (by omega);rw[g23,if_pos (by simp;omega),if_pos (g6 h2)];simp only[g7];rw[e1,ha',hst,hs1]
   refine gxk (a i) (e i) (decide ((0:Int) < ((2*i:Nat):Int))) (g6f (l.getD (2*i - 2) []) (l.getD (2*i) [])) true (inR ((2*i:Nat):Int) l.length) (subI .i64 ((2*i:Nat):Int) 2) ((2*i+1:Nat):Int) (fun j=>inR j l.length) (fun j=>inR j l.length) (fun j=>g9 ((⟨(⟨ts⟩:SSchema)⟩:EncodeReader),x.Elem,l.getD j.toNat [],((L+1:Nat):Int))) (fun j=>gb3 (l.getD j.toNat [],l.getD (2*i) [])) _ _ ?_ (g6 h3) (g6 h2) (fun hz=>?_)
   · show g9 _=_;rw[g7];exact(hee i h3).1
   · have:0 < i:=by simp at hz;omega
     have hsub:subI .i64 ((2*i:Nat):Int) 2=((2*i - 2:Nat):Int):=by rw[g5c (by omega) (by omega)];omega
     rw[hsub,g7];exact⟨g6 (by omega),g12o _ _⟩
 · show g23 (l,((2*(l.length / 2):Nat):Int),ts,x.Kind,x.Name,x.Low,x.High,x.Max,x.Symbols,x.Members,x.Key,x.Elem,x.Open,(L:Int))=_;have:2*(l.length / 2)=l.length:=by omega
   rw[this,g23,if_neg (by simp)]
 · constructor
   · intro h i hi;have:=h i (by omega);simp only[Bool.and_eq_true,Bool.or_eq_true]at this;refine⟨(ha i (by omega)).2.1 this.1.1,(hee i hi).2.1 this.1.2,fun h0=>?_⟩;rcases this.2 with h | h
     · exfalso
       have hd:decide ((0:Int) < ((2*i:Nat):Int))=true:=by simp;omega
       rw[hd]at h;cases h
     · exact h
   · intro h i hi;obtain⟨h1,h2,h3⟩:=h i (by omega);simp only[Bool.and_eq_true,Bool.or_eq_true];refine⟨⟨(ha i (by omega)).2.2 h1,(hee i (by omega)).2.2 h2⟩,?_⟩;by_cases h0:0 < i
     · exact .inr (h3 h0)
     · left;have:i=0:=by omega
       subst this;rfl
theorem gxl (r : Nat) (t : Int) (p : List UInt8) : vcan ts (r + 1) t p ↔
   (((ts.getD t.toNat dSType).Kind=1∧(p=[]∨p=[1]))∨
   ((ts.getD t.toNat dSType).Kind=2∧∃n,vub p=some n∧(ts.getD t.toNat dSType).Low≤unz n∧unz n≤(ts.getD t.toNat dSType).High)∨
   ((ts.getD t.toNat dSType).Kind=3∧(p.length:Int)≤(ts.getD t.toNat dSType).Max)∨
   ((ts.getD t.toNat dSType).Kind=4∧∃n,vub p=some n∧(1≤n∧n≤1000)∧((∃y,y∈(ts.getD t.toNat dSType).Symbols∧y.ID=(n:Int))∨(ts.getD t.toNat dSType).Open=true)))∨
   ((ts.getD t.toNat dSType).Kind=5∧∃l,vFl p=some l∧(∀f,f∈l→okF ts r (ts.getD t.toNat dSType).Members f)∧∀m,m∈(ts.getD t.toNat dSType).Members→m.HasDefault=false→∃f,f∈l∧f.ID=m.ID)∨
   ((ts.getD t.toNat dSType).Kind=6∧∃id q,vA p=some (id,q)∧(findM (ts.getD t.toNat dSType).Members id=none→(ts.getD t.toNat dSType).Open=true)∧∀m,findM (ts.getD t.toNat dSType).Members id=some m→vcan ts r m.Type_ q)∨
   ((ts.getD t.toNat dSType).Kind=7∧∃l,vI p=some l∧(l.length:Int)≤(ts.getD t.toNat dSType).Max∧∀q,q∈l→vcan ts r (ts.getD t.toNat dSType).Elem q)∨
   ((ts.getD t.toNat dSType).Kind=8∧∃l,vI p=some l∧l.length % 2=0∧((l.length / 2:Nat):Int)≤(ts.getD t.toNat dSType).Max∧∀i,2*i+1 < l.length→vcan ts r (ts.getD t.toNat dSType).Key (l.getD (2*i) [])∧vcan ts r (ts.getD t.toNat dSType).Elem (l.getD (2*i+1) [])∧(0 < i→g6f (l.getD (2*i - 2) []) (l.getD (2*i) [])=true))∨
   ((ts.getD t.toNat dSType).Kind=9∧(p=[]∨∃q,p=1::q∧vcan ts r (ts.getD t.toNat dSType).Elem q)):=by
 rw[vcan];simp only[or_assoc];exact Iff.rfl
theorem gxm(H:DrOk ts) :∀(r L:Nat),L+r=201→1≤L→Ce ts r L
 | 0,L,hr,h1=>by
   intro t p ht0 ht1 hp;obtain⟨j,rfl⟩:∃j:Nat,t=(j:Int):=⟨t.toNat,by omega⟩
   rw[g9,if_pos (g6 (by omega:j < ts.length))];simp only[oZ4,oZ3];rw[if_pos (by simp;omega)];refine⟨false,rfl,?_⟩;constructor
   · intro h;cases h
   · intro h;exact h.elim
 | r+1,L,hr,h1=>by
   intro t p ht0 ht1 hp;have ih:=gxm H r (L+1) (by omega) (by omega);obtain⟨j,rfl⟩:∃j:Nat,t=(j:Int):=⟨t.toNat,by omega⟩
   have hj:j < ts.length:=by omega
   have hxm:=g8 hj dSType;have hS:=H.V.sok H.T;have hU:=H.V.U _ hxm;have hK:=hS.K _ hxm;have hm7:(ts.getD j dSType).Members.length < 9223372036854775807:=g12 (g3h (H.T _ hxm).mems);have hs7:(ts.getD j dSType).Symbols.length < 9223372036854775807:=g12 (g3h (H.T _ hxm).syms)
   have hMt:∀m,m∈(ts.getD j dSType).Members→0≤m.Type_∧m.Type_ < ts.length:=fun m hm=>hU m.Type_ (List.mem_append.2 (.inl (List.mem_append.2 (.inl (List.mem_map.2 ⟨m,hm,rfl⟩)))))
   have e1:addI .i64 (L:Int) 1=((L+1:Nat):Int):=ge (by omega);rw[g9,if_pos (g6 hj)];simp only[oZ4,oZ3,g7];rw[if_neg (by simp;omega)];have hv:=gxl (ts:=ts) r (j:Int) p;rw[g7]at hv;have hA:=hS.A _ hxm;generalize hxx:ts.getD j dSType=x at*;have hM12:=(H.I _ hxm).2.2;unfold ga5 at hK
   have hc9:x.Kind=1∨x.Kind=2∨x.Kind=3∨x.Kind=4∨x.Kind=5∨x.Kind=6∨x.Kind=7∨x.Kind=8∨x.Kind=9:=by omega
   have simple:x.Kind=1∨x.Kind=2∨x.Kind=3∨x.Kind=4→SaysP (g7y (x,p) >>=fun r_12=>some r_12) (vcan ts (r+1) (j:Int) p):=by
     intro hk;have:=gid (gw6 hs7 p hk);refine this.imp ?_;rw[hv];constructor
     · intro h;exact .inl h
     · rintro (h | ⟨k,_⟩ | ⟨k,_⟩ | ⟨k,_⟩ | ⟨k,_⟩ | ⟨k,_⟩)
       · exact h
       all_goals (exfalso;omega)
   rcases hc9 with k | k | k | k | k | k | k | k | k
   · rw[if_neg (by simp[k])];have e7:decide (x.Kind=7)=false:=by simp[k]
     rw[e7,if_neg (by simp),if_neg (by simp[k]),if_neg (by simp[k]),if_neg (by simp[k])];exact simple (.inl k)
   · rw[if_neg (by simp[k])];have e7:decide (x.Kind=7)=false:=by simp[k]
     rw[e7,if_neg (by simp),if_neg (by simp[k]),if_neg (by simp[k]),if_neg (by simp[k])];exact simple (.inr (.inl k))
   · rw[if_neg (by simp[k])];have e7:decide (x.Kind=7)=false:=by simp[k]
     rw[e7,if_neg (by simp),if_neg (by simp[k]),if_neg (by simp[k]),if_neg (by simp[k])];exact simple (.inr (.inr (.inl k)))
   · rw[if_neg (by simp[k])];have e7:decide (x.Kind=7)=false:=by simp[k]
     rw[e7,if_neg (by simp),if_neg (by simp[k]),if_neg (by simp[k]),if_neg (by simp[k])];exact simple (.inr (.inr (.inr k)))
   · rw[if_pos (by simp[k])];obtain⟨o,o1,_,o3,o4⟩:=gn9 (p:=p) (by omega);have hv5:vcan ts (r+1) (j:Int) p↔∃l,vFl p=some l∧(∀f,f∈l→okF ts r x.Members f)∧∀m,m∈x.Members→m.HasDefault=false→∃f,f∈l∧f.ID=m.ID:=by
       rw[hv];constructor
       · intro h;rcases h with h | ⟨k',h⟩ | ⟨k',h⟩ | ⟨k',h⟩ | ⟨k',h⟩ | ⟨k',h⟩
         · exfalso;rcases h with⟨k',_⟩ | ⟨k',_⟩ | ⟨k',_⟩ | ⟨k',_⟩ <;> omega
         all_goals first | exact h | (exfalso;omega)
       · intro h;exact .inr (.inl ⟨k,h⟩)
     have hR:∀{q:Option Bool} {P:Prop},SaysP q P→SaysP (q >>=fun r_1=>some r_1) P:=fun h=>gid h
     refine hR ?_;show SaysP (g79 (rdr ts,x,p,(L:Int))) _;rw[g79,o1];simp only[oZ4,oZ3];by_cases h0:o.2=0
     · obtain⟨f1,f2,f3,f4⟩:=o3 h0;rw[if_neg (by simp[h0])];obtain⟨hma,_⟩:=hA (.inl k);have hrc:=gxj H (by omega:L≤300) ih hxm hMt (l:=o.1) (by omega) (fun f hf=>by have:=(f2 f hf).1;omega) o.1.length 0 0 (by omega) (by omega)
       have e0:g17 ((L:Int),((0:Nat):Int),o.1,(o.1.length:Int),((0:Nat):Int),ts,x)=g17 ((L:Int),0,o.1,(o.1.length:Int),0,ts,x):=rfl;simp only[e0,List.drop_zero,Nat.zero_add]at hrc;rcases hrc with⟨a,b⟩ | ⟨a,b⟩
       · have hnl:(needF x.Members o.1).length≤o.1.length:=List.length_filter_le _ _;have hcnt:=gqp (Ms:=x.Members) (by omega) x.Members.length 0 (((needF x.Members o.1).length:Nat):Int) (by omega) (by omega) (by omega);have hcnt':g2f ((((needF x.Members o.1).length:Nat):Int),x.Members,(x.Members.length:Int),0)=_:=hcnt
         have ha':g17 ((L:Int),0,o.1,(o.1.length:Int),0,(rdr ts).s.Types,x)=_:=a;rw[ha'];simp only[oZ3];rw[hcnt'];refine⟨_,rfl,?_⟩;rw[hv5];have hn:=g13s (l:=o.1) hma f3;constructor
         · intro h;have h':(((needF x.Members o.1).length:Nat):Int) - ((x.Members.filter fun m=>!m.HasDefault).length:Int)=0:=by simpa using h
           exact⟨o.1,f1,b,hn.1 (by omega)⟩
         · rintro ⟨l,h1,h2,h3⟩
           rw[f1]at h1;cases h1;have:=hn.2 h3;simp only[List.drop_zero];rw[decide_eq_true_eq];omega
       · have ha':g17 ((L:Int),0,o.1,(o.1.length:Int),0,(rdr ts).s.Types,x)=_:=a;rw[ha'];refine⟨false,rfl,?_⟩;rw[hv5];constructor
         · intro h;cases h
         · rintro ⟨l,h1,h2,_⟩
           rw[f1]at h1;cases h1;exact absurd h2 b
     · rw[if_pos (by simp[h0])];refine⟨false,rfl,?_⟩;rw[hv5,o4 h0];constructor
       · intro h;cases h
       · rintro ⟨l,h,_⟩;cases h
   · have hv6:vcan ts (r+1) (j:Int) p↔∃id q,vA p=some (id,q)∧(findM x.Members id=none→x.Open=true)∧∀m,findM x.Members id=some m→vcan ts r m.Type_ q:=by
       rw[hv];constructor
       · intro h;rcases h with h | ⟨k',h⟩ | ⟨k',h⟩ | ⟨k',h⟩ | ⟨k',h⟩ | ⟨k',h⟩
         · exfalso;rcases h with⟨k',_⟩ | ⟨k',_⟩ | ⟨k',_⟩ | ⟨k',_⟩ <;> omega
         all_goals first | exact h | (exfalso;omega)
       · intro h;exact .inr (.inr (.inl ⟨k,h⟩))
     rw[if_neg (by simp[k])];have e7:decide (x.Kind=7)=false:=by simp[k]
     rw[e7,if_neg (by simp),if_neg (by simp[k]),if_neg (by simp[k]),if_pos (by simp[k])];obtain⟨o,o1,_,o3,o4⟩:=gv4 p;rw[o1];simp only[oZ3];by_cases h0:o.2.2=0
     · obtain⟨f1,f2,f3⟩:=o3 h0;rw[if_neg (by simp[h0])];obtain⟨q,q1,_,qf⟩:=g3x (t:=x) o.1 hm7;rw[q1];simp only[oZ3];rcases g5h qf with⟨e,i,i1,i2,i3,i4⟩ | ⟨e,i3⟩
       · have hmm:=g8 i1 dSMember;obtain⟨m0,m1⟩:=hMt _ hmm;obtain⟨w,w1,w2⟩:=ih (x.Members.getD i dSMember).Type_ o.2.1 m0 m1 (by omega);have w1':g9 ((⟨(⟨ts⟩:SSchema)⟩:EncodeReader),(x.Members.getD i dSMember).Type_,o.2.1,((L+1:Nat):Int))=some w:=w1;rw[e];simp only[Bool.not_true,cond_false,Bool.not_false,Bool.and_self,if_true,Bool.or_false,cond_true]
         rw[i2,if_pos (g6 i1),g7,e1,w1'];refine⟨w,rfl,?_⟩;rw[hv6,w2];constructor
         · intro h;refine⟨_,_,f1,fun h'=>?_,fun m hm=>?_⟩
           · rw[i3]at h';cases h'
           · rw[i3]at hm;cases hm;exact h
         · rintro ⟨id,q',h1,_,h3⟩
           rw[f1]at h1;cases h1;exact h3 _ i3
       · rw[e];simp only[Bool.not_false,cond_true,Bool.and_false,Bool.not_false,Bool.or_true,if_true,Bool.false_eq_true,if_false,oZ3,cond_false];refine⟨_,rfl,?_⟩;rw[hv6];constructor
         · intro h;refine⟨_,_,f1,fun _=>?_,fun m hm=>?_⟩
           · cases ho:x.Open with
             | true=>rfl
             | false=>rw[ho]at h;cases h
           · rw[i3]at hm;cases hm
         · rintro ⟨id,q',h1,h2,_⟩
           rw[f1]at h1;cases h1;rw[h2 i3];rfl
     · rw[if_pos (by simp[h0])];refine⟨false,rfl,?_⟩;rw[hv6,o4 h0];constructor
       · intro h;cases h
       · rintro ⟨id,q,h,_⟩;cases h
   · have hv7:vcan ts (r+1) (j:Int) p↔∃l,vI p=some l∧(l.length:Int)≤x.Max∧∀q,q∈l→vcan ts r x.Elem q:=by
       rw[hv];constructor
       · intro h;rcases h with h | ⟨k',h⟩ | ⟨k',h⟩ | ⟨k',h⟩ | ⟨k',h⟩ | ⟨k',h⟩
         · exfalso;rcases h with⟨k',_⟩ | ⟨k',_⟩ | ⟨k',_⟩ | ⟨k',_⟩ <;> omega
         all_goals first | exact h | (exfalso;omega)
       · intro h;exact .inr (.inr (.inr (.inl ⟨k,h⟩)))
     obtain⟨el0,el1⟩:=hU x.Elem (by unfold usesL;simp[k]);obtain⟨o,o1,_,o3,o4⟩:=ge6 (p:=p) (by omega);have e7:decide (x.Kind=7)=true:=by simp[k]
     rw[if_neg (by simp[k]),e7,if_pos rfl,if_pos rfl];show SaysP (g4g (rdr ts,x,p,(L:Int)) >>=fun r_2=>some r_2) _;refine gid ?_;rw[g4g,o1];simp only[oZ4,oZ3];by_cases h0:o.2=0
     · obtain⟨f1,f2,f3⟩:=o3 h0;rw[if_neg (by simp[h0]),e7,if_pos rfl];obtain⟨b,b1,b2⟩:=gv5 (ts:=ts) (r:=r) (L:=L) (by omega) (x:=x) (l:=o.1) (by omega) (fun q hq=>ih x.Elem q el0 el1 (by have:=f2 q hq;omega));by_cases hmx:(o.1.length:Int)≤x.Max
       · have hd:decide ((o.1.length:Int)≤x.Max)=true:=by simpa using hmx
         have b1':g2z (o.1,(rdr ts).s.Types,x.Kind,x.Name,x.Low,x.High,x.Max,x.Symbols,x.Members,x.Key,x.Elem,x.Open,(L:Int))=_:=b1;rw[hd,if_pos rfl,b1'];refine⟨!b,rfl,?_⟩;rw[hv7];have:(!b)=true↔b=false:=by cases b <;> simp
         rw[this,b2];constructor
         · intro h;exact⟨_,f1,hmx,h⟩
         · rintro ⟨l,h1,_,h3⟩
           rw[f1]at h1;cases h1;exact h3
       · have hd:decide ((o.1.length:Int)≤x.Max)=false:=by simpa using hmx
         rw[hd,if_neg (by simp)];refine⟨false,rfl,?_⟩;rw[hv7];constructor
         · intro h;cases h
         · rintro ⟨l,h1,h2,_⟩
           rw[f1]at h1;cases h1;exact absurd h2 hmx
     · rw[if_pos (by simp[h0])];refine⟨false,rfl,?_⟩;rw[hv7,o4 h0];constructor
       · intro h;cases h
       · rintro ⟨l,h,_⟩;cases h
   · have hv8:vcan ts (r+1) (j:Int) p↔∃l,vI p=some l∧l.length % 2=0∧((l.length / 2:Nat):Int)≤x.Max∧∀i,2*i+1 < l.length→vcan ts r x.Key (l.getD (2*i) [])∧vcan ts r x.Elem (l.getD (2*i+1) [])∧(0 < i→g6f (l.getD (2*i - 2) []) (l.getD (2*i) [])=true):=by
       rw[hv];constructor
       · intro h;rcases h with h | ⟨k',h⟩ | ⟨k',h⟩ | ⟨k',h⟩ | ⟨k',h⟩ | ⟨k',h⟩
         · exfalso;rcases h with⟨k',_⟩ | ⟨k',_⟩ | ⟨k',_⟩ | ⟨k',_⟩ <;> omega
         all_goals first | exact h | (exfalso;omega)
       · intro h;exact .inr (.inr (.inr (.inr (.inl ⟨k,h⟩))))
     obtain⟨el0,el1⟩:=hU x.Elem (by unfold usesL;simp[k]);obtain⟨kl0,kl1⟩:=hU x.Key (by unfold usesL;simp[k]);obtain⟨o,o1,_,o3,o4⟩:=ge6 (p:=p) (by omega);have e7:decide (x.Kind=7)=false:=by simp[k]
     rw[if_neg (by simp[k]),e7,if_neg (by simp),if_pos (by simp[k])];show SaysP (g4g (rdr ts,x,p,(L:Int)) >>=fun r_2=>some r_2) _;refine gid ?_;rw[g4g,o1];simp only[oZ4,oZ3];by_cases h0:o.2=0
     · obtain⟨f1,f2,f3⟩:=o3 h0;have hr2:remI (o.1.length:Int) 2=((o.1.length % 2:Nat):Int):=remIn (b:=2);have hq2:quoI .i64 (o.1.length:Int) 2=((o.1.length / 2:Nat):Int):=by
         unfold quoI;have e:(o.1.length:Int).tdiv 2=((o.1.length / 2:Nat):Int):=by rw[Int.tdiv_eq_ediv_of_nonneg (by omega)];omega
         rw[e,IntKind.wrap_i64];omega
       rw[if_neg (by simp[h0]),e7,if_neg (by simp),hr2,hq2];by_cases hev:o.1.length % 2=0
       · by_cases hmx:((o.1.length / 2:Nat):Int)≤x.Max
         · have hcc:¬((bif decide (((o.1.length % 2:Nat):Int)=1)then true else decide (x.Max < ((o.1.length / 2:Nat):Int)))=true):=by
             have a:¬((o.1.length % 2:Nat):Int)=1:=by omega
             have b:¬x.Max < ((o.1.length / 2:Nat):Int):=by omega
             simp only[a,b,decide_false,cond_false,Bool.false_eq_true,not_false_eq_true]
           rw[if_neg hcc];have:=g14z (ts:=ts) (r:=r) (L:=L) (by omega) (x:=x) (l:=o.1) (by omega) hev (fun q hq=>ih x.Key q kl0 kl1 (by have:=f2 q hq;omega)) (fun q hq=>ih x.Elem q el0 el1 (by have:=f2 q hq;omega));refine this.imp ?_;rw[hv8];constructor
           · intro h;exact⟨_,f1,hev,hmx,h⟩
           · rintro ⟨l,h1,_,_,h4⟩
             rw[f1]at h1;cases h1;exact h4
         · have hcc:(bif decide (((o.1.length % 2:Nat):Int)=1)then true else decide (x.Max < ((o.1.length / 2:Nat):Int)))=true:=by
             have a:¬((o.1.length % 2:Nat):Int)=1:=by omega
             have b:x.Max < ((o.1.length / 2:Nat):Int):=by omega
             simp only[a,b,decide_false,decide_true,cond_false]
           rw[if_pos hcc];refine⟨false,rfl,?_⟩;rw[hv8];constructor
           · intro h;cases h
           · rintro ⟨l,h1,_,h3,_⟩
             rw[f1]at h1;cases h1;exact absurd h3 hmx
       · have hcc:(bif decide (((o.1.length % 2:Nat):Int)=1)then true else decide (x.Max < ((o.1.length / 2:Nat):Int)))=true:=by
           have a:((o.1.length % 2:Nat):Int)=1:=by omega
           simp only[a,decide_true,cond_true]
         rw[if_pos hcc];refine⟨false,rfl,?_⟩;rw[hv8];constructor
         · intro h;cases h
         · rintro ⟨l,h1,h2,_⟩
           rw[f1]at h1;cases h1;exact absurd h2 hev
     · rw[if_pos (by simp[h0])];refine⟨false,rfl,?_⟩;rw[hv8,o4 h0];constructor
       · intro h;cases h
       · rintro ⟨l,h,_⟩;cases h
   · have hv9:vcan ts (r+1) (j:Int) p↔(p=[]∨∃q,p=1::q∧vcan ts r x.Elem q):=by
       rw[hv];constructor
       · intro h;rcases h with h | ⟨k',h⟩ | ⟨k',h⟩ | ⟨k',h⟩ | ⟨k',h⟩ | ⟨k',h⟩
         · exfalso;rcases h with⟨k',_⟩ | ⟨k',_⟩ | ⟨k',_⟩ | ⟨k',_⟩ <;> omega
         all_goals first | exact h | (exfalso;omega)
       · intro h;exact .inr (.inr (.inr (.inr (.inr ⟨k,h⟩))))
     obtain⟨el0,el1⟩:=hU x.Elem (by unfold usesL;simp[k]);have e7:decide (x.Kind=7)=false:=by simp[k]
     rw[if_neg (by simp[k]),e7,if_neg (by simp),if_neg (by simp[k]),if_pos (by simp[k])];cases p with
     | nil=>
       refine⟨true,rfl,?_⟩;rw[hv9];simp
     | cons c q=>
       have hin:inR 0 (c::q).length=true:=g6 (k:=0) (by simp);have hsl:slR 1 ((c::q).length:Int) (c::q).length=true:=g57 (a:=1) (by simp) (by simp);have hcut:cutL (c::q) 1 ((c::q).length:Int)=q:=by
         have:=g6w (c::q) 1
         simpa using this
       have hne:decide (c::q=[])=false:=by simp
       have hby:g3e (c::q) 0=(c.toNat:Int):=g6k (c::q) 0;rw[hne,hin,hsl,hby,hcut];simp only[Bool.not_false,Bool.true_or,if_true,Bool.true_and,cond_false];by_cases hc1:c=1
       · subst hc1;obtain⟨w,w1,w2⟩:=ih x.Elem q el0 el1 (by simp at hp;omega);have w1':g9 ((⟨(⟨ts⟩:SSchema)⟩:EncodeReader),x.Elem,q,((L+1:Nat):Int))=some w:=w1;have hd:decide (((1:UInt8).toNat:Int)=1)=true:=by decide
         rw[hd,if_pos rfl,e1,w1'];refine⟨w,rfl,?_⟩;rw[hv9,w2];simp
       · have hd:decide ((c.toNat:Int)=1)=false:=by
           rw[decide_eq_false_iff_not];intro h
           exact hc1 (UInt8.toNat_inj.1 (by
             have:(1:UInt8).toNat=1:=rfl
             omega))
         rw[hd];refine⟨false,rfl,?_⟩;rw[hv9];constructor
         · intro h;cases h
         · rintro (h | ⟨q',h,_⟩)
           · cases h
           · cases h;exact absurd rfl hc1
end
end
section
open Go Go.Proofs.YthnmepafpikaiaaGreat.Shv Go.Sort
set_option maxRecDepth 100000
section
variable {ts:List SType}
def Cr(ts:List SType)(r:Nat) :Prop:=∀(t:Int) (p:List UInt8),0≤t→t < ts.length→p.length≤4096→SaysP (gt ((⟨ts⟩:SSchema),t,p,(r:Int))) (vcan ts r t p)
theorem gv6 {l : List SField} (hl : l.length ≤ 100000) {x : SType} {m : SMember} (lv i : Int) : ∀ (k j : Nat) (a : Int), j + k = l.length → (a = -1 ∧ (∀ q, q < j → (l.getD q dSField).ID ≠ m.ID) ∨ ∃ q : Nat, q < l.length ∧ a = (q : Int) ∧ (l.getD q dSField).ID = m.ID) →
   ∃a',g2v (lv,l,i,a,(j:Int),ts,x.Kind,x.Name,x.Low,x.High,x.Max,x.Symbols,x.Members,x.Key,x.Elem,x.Open,m)=some (lv,l,i,a',ts,x.Kind,x.Name,x.Low,x.High,x.Max,x.Symbols,x.Members,x.Key,x.Elem,x.Open,m)∧(a'= -1∧(∀q,q < l.length→(l.getD q dSField).ID≠m.ID)∨∃q:Nat,q < l.length∧a'=(q:Int)∧(l.getD q dSField).ID=m.ID)
 | 0,j,a,hj,ha=>by
   refine⟨a,by rw[g2v,if_neg (by simp;omega),g6m],?_⟩;rcases ha with⟨h1,h2⟩ | h
   · exact .inl ⟨h1,fun q hq=>h2 q (by omega)⟩
   · exact .inr h
 | k+1,j,a,hj,ha=>by
   have hlt:j < l.length:=by omega
   rw[g2v,if_pos (by simp;omega),if_pos (g6 hlt)];simp only[g7,g6m];by_cases e:(l.getD j dSField).ID=m.ID
   · rw[if_pos (by simpa using e),ge (by omega)];exact gv6 hl lv i k (j+1) (j:Int) (by omega) (.inr ⟨j,hlt,rfl,e⟩)
   · rw[if_neg (by simpa using e),ge (by omega)];refine gv6 hl lv i k (j+1) a (by omega) ?_;rcases ha with⟨h1,h2⟩ | h
     · refine .inl ⟨h1,fun q hq=>?_⟩;by_cases h3:q < j
       · exact h2 q h3
       · have:q=j:=by omega
         subst this;exact e
     · exact .inr h
def okM(ts:List SType)(r:Nat)(l:List SField)(m:SMember) :Prop:=((∀f,f∈l→f.ID≠m.ID)→m.HasDefault=true)∧∀f,f∈l→f.ID=m.ID→f.Critical=m.Critical∧vcan ts r m.Type_ f.Data∧(m.HasDefault=true→f.Data≠vpay ts m.Type_ m.Default)
theorem g17s {γ : Type} (I : Bool) (A : Int → Bool) (cq w hd pe : Bool) (W : Option Bool) (P : Option (List UInt8)) (D q : List UInt8) (X Y : Option γ) (hI : I = true) (hW : cq = true → W = some w) (hP : cq = true → w = true → hd = true → P = some q) (hq : pe = decide (D = q)) :
   (if(I || (!true))=true then some (!cq) >>=fun t316=>if(I || (!(true && (!t316))))=true then(if(true && (!t316))=true then W else some false) >>=fun r_33=>some (bif t316 then true else(!r_33)) >>=fun t330=>
     if(I || (!(true && (!t330) && hd)))=true then(if(true && (!t330) && hd)=true then P else some []) >>=fun r_34=>if(bif true then bif t330 then true else bif hd then decide (D=r_34)else false else false)=true then X else Y else none else none else none)=if(cq && w && (!hd || !pe))=true then Y else X:=by
 subst hI;cases cq with
 | false=>rfl
 | true=>
   rw[hW rfl];cases w with
   | false=>rfl
   | true=>
     cases hd with
     | false=>rfl
     | true=>
       rw[hP rfl rfl rfl,hq];simp only[oZ4,oZ3,Bool.not_true,Bool.not_false,Bool.and_self,Bool.and_true,Bool.true_or,if_true,cond_true,cond_false,Bool.false_or];cases decide (D=q) <;> rfl
theorem gv7 (H : DrOk ts) {r : Nat} (hr : r ≤ 300) (ih : Cr ts r) {x : SType} (hx : x ∈ ts) (hMt : ∀ m, m ∈ x.Members → 0 ≤ m.Type_ ∧ m.Type_ < ts.length) {l : List SField} (hl : l.length ≤ 100000) (hasc : l.Pairwise (fun a b => a.ID < b.ID)) (hd : ∀ f, f ∈ l → f.Data.length ≤ 4096) :
   ∀(k i:Nat),i+k=x.Members.length→(g29 (((r+1:Nat):Int),l,(i:Int),ts,x.Kind,x.Name,x.Low,x.High,x.Max,x.Symbols,x.Members,x.Key,x.Elem,x.Open)=some (.inr (l,x.Kind,x.Name,x.Low,x.High,x.Max,x.Symbols,x.Members,x.Key,x.Elem,x.Open))∧∀m,m∈x.Members.drop i→okM ts r l m)∨
     (g29 (((r+1:Nat):Int),l,(i:Int),ts,x.Kind,x.Name,x.Low,x.High,x.Max,x.Symbols,x.Members,x.Key,x.Elem,x.Open)=some (.inl false)∧¬∀m,m∈x.Members.drop i→okM ts r l m)
 | 0,i,hi=>by
   left;rw[g29,if_neg (by simp;omega),List.drop_eq_nil_of_le (by omega:x.Members.length≤i)];exact⟨rfl,fun m hm=>by cases hm⟩
 | k+1,i,hi=>by
   have hlt:i < x.Members.length:=by omega
   have hm12:=(H.I _ hx).2.2;have ih':=gv7 H hr ih hx hMt hl hasc hd k (i+1) (by omega);have hmm:=g8 hlt dSMember;obtain⟨m0,m1⟩:=hMt _ hmm;have hdef:=H.D _ hx _ hmm;have hdo:=(H.T _ hx).dv _ hmm;have hdw:=H.W _ hx _ hmm
   obtain⟨a,a1,a2⟩:=gv6 (ts:=ts) hl (x:=x) (m:=x.Members.getD i dSMember) (((r+1:Nat):Int)) (i:Int) l.length 0 (-1) (by omega) (.inl ⟨rfl,fun q hq=>by omega⟩);have a1':g2v (((r+1:Nat):Int),l,(i:Int),-1,0,ts,x.Kind,x.Name,x.Low,x.High,x.Max,x.Symbols,x.Members,x.Key,x.Elem,x.Open,x.Members.getD i dSMember)=_:=a1
   have hall:∀P:SMember→Prop,(∀m,m∈x.Members.getD i dSMember::x.Members.drop (i+1)→P m)↔P (x.Members.getD i dSMember)∧∀m,m∈x.Members.drop (i+1)→P m:=fun P=>by
     constructor
     · intro h;exact⟨h _ (.head _),fun f hf=>h f (.tail _ hf)⟩
     · rintro ⟨h1,h2⟩ f hf
       rcases List.mem_cons.1 hf with rfl | hf
       · exact h1
       · exact h2 f hf
   rw[g1x hlt dSMember,hall,g29,if_pos (by simp;omega),if_pos (g6 hlt)];simp only[oZ4,oZ3,g7,g6m,SValue.gr];rw[a1'];simp only[oZ3];have e1:subI .i64 ((r+1:Nat):Int) 1=(r:Int):=by rw[g5c (by omega) (by omega)];omega
   rw[e1,ge (by omega)];generalize x.Members.getD i dSMember=m at*;rcases a2 with⟨rfl,hno⟩ | ⟨q,hq,rfl,he⟩
   · have hno':∀f,f∈l→f.ID≠m.ID:=fun f hf=>by
       obtain⟨q,hq,rfl⟩:=List.getElem_of_mem hf;have:=hno q hq;rw[g15 hq]at this;exact this
     cases hdf:m.HasDefault with
     | true=>
       have hok:okM ts r l m:=⟨fun _=>hdf,fun f hf e=>absurd e (hno' f hf)⟩
       have hd0:decide ((0:Int)≤-1)=false:=by decide
       rw[if_neg (by simp),hd0];simp only[Bool.not_false,Bool.or_true,if_true,Bool.false_and,Bool.false_eq_true,if_false,cond_false,oZ3];rcases ih' with⟨b1,b2⟩ | ⟨b1,b2⟩
       · exact .inl ⟨b1,hok,b2⟩
       · exact .inr ⟨b1,fun h=>b2 h.2⟩
     | false=>
       right;rw[if_pos (by simp)];refine⟨rfl,fun h=>?_⟩;have:=h.1.1 hno';rw[hdf]at this;cases this
   · have hf:=g8 hq dSField;have huniq:∀f,f∈l→f.ID=m.ID→f=l.getD q dSField:=fun f hf' e=>by
       obtain⟨q',hq',rfl⟩:=List.getElem_of_mem hf';rw[g15 hq]at he ⊢;have hp:=List.pairwise_iff_getElem.1 hasc;rcases Nat.lt_trichotomy q q' with h | h | h
       · have:=hp q q' hq hq' h;omega
       · subst h;rfl
       · have:=hp q' q hq' hq h;omega
     have hok:okM ts r l m↔(l.getD q dSField).Critical=m.Critical∧vcan ts r m.Type_ (l.getD q dSField).Data∧(m.HasDefault=true→(l.getD q dSField).Data≠vpay ts m.Type_ m.Default):=by
       constructor
       · rintro ⟨_,h⟩;exact h _ hf he
       · intro h;refine⟨fun h'=>absurd he (h' _ hf),fun f hf' e=>?_⟩;rw[huniq f hf' e];exact h
     obtain⟨w,w1,w2⟩:=ih m.Type_ (l.getD q dSField).Data m0 m1 (hd _ hf);have hd0:decide ((0:Int)≤(q:Int))=true:=by simp
     have hneg:¬((bif decide ((q:Int) < 0)then(!m.HasDefault)else false)=true):=by
       have:¬(q:Int) < 0:=by omega
       simp only[this,decide_false,cond_false,Bool.false_eq_true,not_false_eq_true]
     rw[if_neg hneg,hd0];simp only[g7]
     have hst:=g17s (γ:=Bool ⊕ (List SField × Int × List UInt8 × Int × Int × Int × List SSymbol × List SMember × Int × Int × Bool)) (inR (q:Int) l.length) (fun _=>true) (eqB (l.getD q dSField).Critical m.Critical) w m.HasDefault (decide ((l.getD q dSField).Data=vpay ts m.Type_ m.Default)) (gt ((⟨ts⟩:SSchema),m.Type_,(l.getD q dSField).Data,(r:Int))) (g1b ((⟨ts⟩:SSchema),m.Type_,m.Default)) (l.getD q dSField).Data (vpay ts m.Type_ m.Default) (some (.inl false)) (g29 (((r+1:Nat):Int),l,((i+1:Nat):Int),ts,x.Kind,x.Name,x.Low,x.High,x.Max,x.Symbols,x.Members,x.Key,x.Elem,x.Open)) (g6 hq) (fun _=>w1) (fun _ _ hdf=>gx8 (H.V.sok H.T) hdo (by have:=hdw hdf;omega) _ (vfit_weak _ _ (hdef hdf))) rfl
     have hgoal:=hst;simp only[oZ4]at hgoal;have hcond:(eqB (l.getD q dSField).Critical m.Critical && w && (!m.HasDefault || !(decide ((l.getD q dSField).Data=vpay ts m.Type_ m.Default))))=true↔okM ts r l m:=by
       rw[hok,←w2];have hc:eqB (l.getD q dSField).Critical m.Critical=true↔(l.getD q dSField).Critical=m.Critical:=by
         cases (l.getD q dSField).Critical <;> cases m.Critical <;> simp[eqB]
       simp only[Bool.and_eq_true,Bool.or_eq_true,hc];cases m.HasDefault <;> simp[and_assoc]
     by_cases hyes:okM ts r l m
     · have hE:=hgoal.trans (if_pos (hcond.2 hyes));rcases ih' with⟨b1,b2⟩ | ⟨b1,b2⟩
       · exact .inl ⟨hE.trans b1,hyes,b2⟩
       · exact .inr ⟨hE.trans b1,fun h=>b2 h.2⟩
     · have hE:=hgoal.trans (if_neg (fun h=>hyes (hcond.1 h)));exact .inr ⟨hE,fun h=>hyes h.1⟩
theorem gw7{x:SType}(hm:x.Members.length < 9223372036854775807){l:List SField}(hl:l.length≤100000) :SaysP (g27 (l,0,x.Kind,x.Name,x.Low,x.High,x.Max,x.Symbols,x.Members,x.Key,x.Elem,x.Open) >>=fun o_9=>match o_9 with | .inl o_10=>some o_10 | .inr _=>some true) (∀f,f∈l→findM x.Members f.ID=none→f.Critical=false):=by
 let u:Nat→Bool:=fun i=>!((g1a (x,(l.getD i dSField).ID)).getD (0,false)).2
 have hu:∀i,i < l.length→∃q,g1a (x,(l.getD i dSField).ID)=some q∧u i=!q.2∧(q.2=false↔findM x.Members (l.getD i dSField).ID=none):=by
   intro i hi;obtain⟨q,_,q2,qf⟩:=g3x (t:=x) (l.getD i dSField).ID hm;refine⟨q,q2,by simp only[u,q2,Option.getD_some],?_⟩;rcases g5h qf with⟨e,j,j1,j2,j3,j4⟩ | ⟨e,j3⟩
   · rw[e,j3];simp
   · rw[e,j3];simp
 refine(SaysP.loop (L:=fun i=>g27 (l,(i:Int),x.Kind,x.Name,x.Low,x.High,x.Max,x.Symbols,x.Members,x.Key,x.Elem,x.Open)) (n:=l.length) (p:=fun i=>!(bif u i then(l.getD i dSField).Critical else false)) (g:=()) rfl (fun i hi=>?_) ?_).imp ?_
 · show g27 (l,(i:Int),x.Kind,x.Name,x.Low,x.High,x.Max,x.Symbols,x.Members,x.Key,x.Elem,x.Open)=if(!(bif u i then(l.getD i dSField).Critical else false))=true then g27 (l,((i+1:Nat):Int),x.Kind,x.Name,x.Low,x.High,x.Max,x.Symbols,x.Members,x.Key,x.Elem,x.Open)else _
   obtain⟨q,q1,q2,_⟩:=hu i hi;rw[g27,if_pos (by simp;omega),if_pos (g6 hi)];simp only[g7,gfq];rw[q1,q2];simp only[oZ4,oZ3];rw[if_pos (by rw[g6 hi];rfl),ge (by omega)];cases (bif (!q.2)then(l.getD i dSField).Critical else false) <;> rfl
 · show g27 (l,(l.length:Int),x.Kind,x.Name,x.Low,x.High,x.Max,x.Symbols,x.Members,x.Key,x.Elem,x.Open)=_;rw[g27,if_neg (by simp)]
 · constructor
   · intro h f hf hn;obtain⟨i,hi,rfl⟩:=List.getElem_of_mem hf;obtain⟨q,q1,q2,q3⟩:=hu i hi;rw[g15 hi]at q3;have:=h i hi;rw[q2,q3.2 hn,g15 hi]at this
     simpa using this
   · intro h i hi;obtain⟨q,q1,q2,q3⟩:=hu i hi;rw[q2];cases hq:q.2 with
     | true=>rfl
     | false=>
       have:=h _ (g8 hi dSField) (q3.1 hq);rw[this];rfl
theorem gw8{r:Nat}{Ms:List SMember}(hM:MAsc Ms){l:List SField} :((∀m,m∈Ms→okM ts r l m)∧∀f,f∈l→findM Ms f.ID=none→f.Critical=false)↔(∀f,f∈l→okF ts r Ms f)∧∀m,m∈Ms→m.HasDefault=false→∃f,f∈l∧f.ID=m.ID:=by
 have hfind:∀m,m∈Ms→findM Ms m.ID=some m:=fun m hm=>by
   obtain⟨j,hj,hjm⟩:=List.getElem_of_mem hm;unfold findM;rw[List.find?_eq_some_iff_getElem];refine⟨by simp,j,hj,hjm,fun i hi=>?_⟩;have hp:=List.pairwise_iff_getElem.1 hM.1 i j (by omega) hj hi;rw[hjm]at hp;simp;omega
 constructor
 · rintro ⟨h1,h2⟩
   refine⟨fun f hf=>⟨h2 f hf,fun m hm=>?_⟩,fun m hm hd=>?_⟩
   · have e1:=List.mem_of_find?_eq_some hm;have e2:=List.find?_some hm
     exact (h1 m e1).2 f hf (by have : m.ID = f.ID := by simpa using e2
                                omega)
   · apply Classical.byContradiction;intro hc;have:=(h1 m hm).1 (fun f hf e=>hc ⟨f,hf,e⟩);rw[hd]at this;cases this
 · rintro ⟨h1,h2⟩
   refine⟨fun m hm=>⟨fun hno=>?_,fun f hf e=>?_⟩,fun f hf=>(h1 f hf).1⟩
   · cases hd:m.HasDefault with
     | true=>rfl
     | false=>
       obtain⟨f,hf,e⟩:=h2 m hm hd;exact absurd e (hno f hf)
   · exact(h1 f hf).2 m (by rw[e];exact hfind m hm)
end
end
section
open Go Go.Proofs.YthnmepafpikaiaaGreat.Shv Go.Sort
set_option maxRecDepth 100000
theorem g12p{p:List UInt8}(hp:p.length≤90000){o:List (List UInt8) × Int}(h:g5e p=some o)(h0:¬o.2=0) :o.1=[]:=by
 obtain⟨o',a1,_,_⟩:=gnx p.length p [] (by omega) (by simp;omega);rw[g5e,a1]at h;cases o' with
 | inl e=>
   have:o=([],e):=(Option.some.inj h).symm;subst this;rfl
 | inr l=>
   have:o=(l,0):=(Option.some.inj h).symm;subst this;exact absurd rfl h0
section
variable {ts:List SType}
theorem glx {r : Nat} (hr : r ≤ 300) {x : SType} {l : List (List UInt8)} (e : Int) (hl : l.length ≤ 100000) (ih : ∀ q, q ∈ l → SaysP (gt ((⟨ts⟩ : SSchema), x.Elem, q, (r : Int))) (vcan ts r x.Elem q)) :
   ∀(k i:Nat),i+k=l.length→(g2r (((r+1:Nat):Int),l,e,(i:Int),ts,x.Kind,x.Name,x.Low,x.High,x.Max,x.Symbols,x.Members,x.Key,x.Elem,x.Open)=some (.inr (l,e,x.Kind,x.Name,x.Low,x.High,x.Max,x.Symbols,x.Members,x.Key,x.Elem,x.Open))∧∀q,q∈l.drop i→vcan ts r x.Elem q)∨
     (g2r (((r+1:Nat):Int),l,e,(i:Int),ts,x.Kind,x.Name,x.Low,x.High,x.Max,x.Symbols,x.Members,x.Key,x.Elem,x.Open)=some (.inl false)∧¬∀q,q∈l.drop i→vcan ts r x.Elem q)
 | 0,i,hi=>by
   left;rw[g2r,if_neg (by simp;omega),List.drop_eq_nil_of_le (by omega:l.length≤i)];exact⟨rfl,fun q hq=>by cases hq⟩
 | k+1,i,hi=>by
   have hlt:i < l.length:=by omega
   obtain⟨w,w1,w2⟩:=ih _ (g8 hlt []);have e1:subI .i64 ((r+1:Nat):Int) 1=(r:Int):=by rw[g5c (by omega) (by omega)];omega
   have ih':=glx hr e hl ih k (i+1) (by omega);rw[g1x hlt [],g2r,if_pos (by simp;omega),if_pos (g6 hlt)];simp only[oZ4,oZ3,g7];rw[e1,w1];simp only[oZ3];cases w with
   | false=>
     right;rw[if_pos (by simp)];refine⟨rfl,fun h=>?_⟩;have:=w2.2 (h _ (.head _));cases this
   | true=>
     rw[if_neg (by simp),ge (by omega)];rcases ih' with⟨a,b⟩ | ⟨a,b⟩
     · refine .inl ⟨a,fun q hq=>?_⟩;rcases List.mem_cons.1 hq with rfl | hq
       · exact w2.1 rfl
       · exact b q hq
     · exact .inr ⟨a,fun h=>b fun q hq=>h q (.tail _ hq)⟩
theorem gw9 {r : Nat} (hr : r ≤ 300) {x : SType} {l : List (List UInt8)} (hl : l.length ≤ 100000) (he : l.length % 2 = 0) (ihk : ∀ q, q ∈ l → SaysP (gt ((⟨ts⟩ : SSchema), x.Key, q, (r : Int))) (vcan ts r x.Key q)) (ihe : ∀ q, q ∈ l → SaysP (gt ((⟨ts⟩ : SSchema), x.Elem, q, (r : Int))) (vcan ts r x.Elem q)) :
   SaysP (g28 (((r+1:Nat):Int),l,0,ts,x.Kind,x.Name,x.Low,x.High,x.Max,x.Symbols,x.Members,x.Key,x.Elem,x.Open) >>=fun o=>match o with | .inl x=>some x | .inr _=>some true)
     (∀i,2*i+1 < l.length→vcan ts r x.Key (l.getD (2*i) [])∧vcan ts r x.Elem (l.getD (2*i+1) [])∧(0 < i→g6f (l.getD (2*i - 2) []) (l.getD (2*i) [])=true)):=by
 let a:Nat→Bool:=fun i=>(gt ((⟨ts⟩:SSchema),x.Key,l.getD (2*i) [],(r:Int))).getD false
 let e:Nat→Bool:=fun i=>(gt ((⟨ts⟩:SSchema),x.Elem,l.getD (2*i+1) [],(r:Int))).getD false
 have ha:∀i,2*i < l.length→gt ((⟨ts⟩:SSchema),x.Key,l.getD (2*i) [],(r:Int))=some (a i)∧(a i=true↔vcan ts r x.Key (l.getD (2*i) [])):=by
   intro i hi;obtain⟨w,h1,h2⟩:=ihk _ (g8 hi []);refine⟨by simp only[a,h1,Option.getD_some],?_⟩;simp only[a,h1,Option.getD_some];exact h2
 have hee:∀i,2*i+1 < l.length→gt ((⟨ts⟩:SSchema),x.Elem,l.getD (2*i+1) [],(r:Int))=some (e i)∧(e i=true↔vcan ts r x.Elem (l.getD (2*i+1) [])):=by
   intro i hi;obtain⟨w,h1,h2⟩:=ihe _ (g8 hi []);refine⟨by simp only[e,h1,Option.getD_some],?_⟩;simp only[e,h1,Option.getD_some];exact h2
 have e1:subI .i64 ((r+1:Nat):Int) 1=(r:Int):=by rw[g5c (by omega) (by omega)];omega
 refine(SaysP.loop (L:=fun i=>g28 (((r+1:Nat):Int),l,((2*i:Nat):Int),ts,x.Kind,x.Name,x.Low,x.High,x.Max,x.Symbols,x.Members,x.Key,x.Elem,x.Open)) (n:=l.length / 2) (p:=fun i=>a i && e i && (!(decide ((0:Int) < ((2*i:Nat):Int))) || g6f (l.getD (2*i - 2) []) (l.getD (2*i) []))) (g:=()) rfl (fun i hi=>?_) ?_).imp ?_
 · show g28 (((r+1:Nat):Int),l,((2*i:Nat):Int),ts,x.Kind,x.Name,x.Low,x.High,x.Max,x.Symbols,x.Members,x.Key,x.Elem,x.Open)=if _ then g28 (((r+1:Nat):Int),l,((2*(i+1):Nat):Int),ts,x.Kind,x.Name,x.Low,x.High,x.Max,x.Symbols,x.Members,x.Key,x.Elem,x.Open)else _
   have h2:2*i < l.length:=by omega
   have h3:2*i+1 < l.length:=by omega
   have hst:addI .i64 ((2*i:Nat):Int) 2=((2*(i+1):Nat):Int):=by
     have:=ghr (a:=2*i) (b:=2) (by omega);have e:2*i+2=2*(i+1):=by omega
     rw[e]at this;exact this
   have hs1:addI .i64 ((2*i:Nat):Int) 1=((2*i+1:Nat):Int):=ge (by omega);rw[g28,if_pos (by simp;omega),if_pos (g6 h2)];simp only[g7];rw[e1,(ha i h2).1,hst,hs1]
   refine gxk (a i) (e i) (decide ((0:Int) < ((2*i:Nat):Int))) (g6f (l.getD (2*i - 2) []) (l.getD (2*i) [])) true (inR ((2*i:Nat):Int) l.length) (subI .i64 ((2*i:Nat):Int) 2) ((2*i+1:Nat):Int) (fun j=>inR j l.length) (fun j=>inR j l.length) (fun j=>gt ((⟨ts⟩:SSchema),x.Elem,l.getD j.toNat [],(r:Int))) (fun j=>gal (l.getD j.toNat [],l.getD (2*i) [])) _ _ ?_ (g6 h3) (g6 h2) (fun hz=>?_)
   · show gt _=_;rw[g7];exact(hee i h3).1
   · have:0 < i:=by simp at hz;omega
     have hsub:subI .i64 ((2*i:Nat):Int) 2=((2*i - 2:Nat):Int):=by rw[g5c (by omega) (by omega)];omega
     rw[hsub,g7];exact⟨g6 (by omega),g13r _ _⟩
 · show g28 (((r+1:Nat):Int),l,((2*(l.length / 2):Nat):Int),ts,x.Kind,x.Name,x.Low,x.High,x.Max,x.Symbols,x.Members,x.Key,x.Elem,x.Open)=_;have:2*(l.length / 2)=l.length:=by omega
   rw[this,g28,if_neg (by simp)]
 · constructor
   · intro h i hi;have:=h i (by omega);simp only[Bool.and_eq_true,Bool.or_eq_true]at this;refine⟨(ha i (by omega)).2.1 this.1.1,(hee i hi).2.1 this.1.2,fun h0=>?_⟩;rcases this.2 with h | h
     · exfalso
       have hd:decide ((0:Int) < ((2*i:Nat):Int))=true:=by simp;omega
       rw[hd]at h;cases h
     · exact h
   · intro h i hi;obtain⟨h1,h2,h3⟩:=h i (by omega);simp only[Bool.and_eq_true,Bool.or_eq_true];refine⟨⟨(ha i (by omega)).2.2 h1,(hee i (by omega)).2.2 h2⟩,?_⟩;by_cases h0:0 < i
     · exact .inr (h3 h0)
     · left;have:i=0:=by omega
       subst this;rfl
theorem g12q {r : Nat} {j : Nat} {p : List UInt8} {x : SType} (hx : ts.getD j dSType = x) :
   (x.Kind=1→(vcan ts (r+1) (j:Int) p↔(p=[]∨p=[1])))∧
   (x.Kind=2→(vcan ts (r+1) (j:Int) p↔∃n,vub p=some n∧x.Low≤unz n∧unz n≤x.High))∧
   (x.Kind=3→(vcan ts (r+1) (j:Int) p↔(p.length:Int)≤x.Max))∧
   (x.Kind=4→(vcan ts (r+1) (j:Int) p↔∃n,vub p=some n∧(1≤n∧n≤1000)∧((∃y,y∈x.Symbols∧y.ID=(n:Int))∨x.Open=true)))∧
   (x.Kind=5→(vcan ts (r+1) (j:Int) p↔∃l,vFl p=some l∧(∀f,f∈l→okF ts r x.Members f)∧∀m,m∈x.Members→m.HasDefault=false→∃f,f∈l∧f.ID=m.ID))∧
   (x.Kind=6→(vcan ts (r+1) (j:Int) p↔∃id q,vA p=some (id,q)∧(findM x.Members id=none→x.Open=true)∧∀m,findM x.Members id=some m→vcan ts r m.Type_ q))∧
   (x.Kind=7→(vcan ts (r+1) (j:Int) p↔∃l,vI p=some l∧(l.length:Int)≤x.Max∧∀q,q∈l→vcan ts r x.Elem q))∧
   (x.Kind=8→(vcan ts (r+1) (j:Int) p↔∃l,vI p=some l∧l.length % 2=0∧((l.length / 2:Nat):Int)≤x.Max∧∀i,2*i+1 < l.length→vcan ts r x.Key (l.getD (2*i) [])∧vcan ts r x.Elem (l.getD (2*i+1) [])∧(0 < i→g6f (l.getD (2*i - 2) []) (l.getD (2*i) [])=true)))∧
   (x.Kind=9→(vcan ts (r+1) (j:Int) p↔(p=[]∨∃q,p=1::q∧vcan ts r x.Elem q))):=by
 have hv:=gxl (ts:=ts) r (j:Int) p;rw[g7,hx]at hv;refine⟨fun k=>?_,fun k=>?_,fun k=>?_,fun k=>?_,fun k=>?_,fun k=>?_,fun k=>?_,fun k=>?_,fun k=>?_⟩ <;> rw[hv] <;> simp[k]
theorem gxn(H:DrOk ts) :∀(r:Nat),r≤200→Cr ts r
 | 0,hr=>by
   intro t p ht0 ht1 hp;obtain⟨j,rfl⟩:∃j:Nat,t=(j:Int):=⟨t.toNat,by omega⟩
   rw[gt,if_pos (g6 (by omega:j < ts.length))];simp only[oZ4,oZ3];rw[if_pos (by simp)];refine⟨false,rfl,?_⟩;constructor
   · intro h;cases h
   · intro h;exact h.elim
 | r+1,hr=>by
   intro t p ht0 ht1 hp;have ih:=gxn H r (by omega);obtain⟨j,rfl⟩:∃j:Nat,t=(j:Int):=⟨t.toNat,by omega⟩
   have hj:j < ts.length:=by omega
   have hxm:=g8 hj dSType;have hS:=H.V.sok H.T;have hU:=H.V.U _ hxm;have hK:=hS.K _ hxm;have hm7:(ts.getD j dSType).Members.length < 9223372036854775807:=g12 (g3h (H.T _ hxm).mems);have hs7:(ts.getD j dSType).Symbols.length < 9223372036854775807:=g12 (g3h (H.T _ hxm).syms)
   have hMt:∀m,m∈(ts.getD j dSType).Members→0≤m.Type_∧m.Type_ < ts.length:=fun m hm=>hU m.Type_ (List.mem_append.2 (.inl (List.mem_append.2 (.inl (List.mem_map.2 ⟨m,hm,rfl⟩)))))
   have e1:subI .i64 ((r+1:Nat):Int) 1=(r:Int):=by rw[g5c (by omega) (by omega)];omega
   rw[gt,if_pos (g6 hj)];simp only[oZ4,oZ3,g7];rw[if_neg (by simp;omega)];have hA:=hS.A _ hxm;generalize hxx:ts.getD j dSType=x at*;obtain⟨v1,v2,v3,v4,v5,v6,v7,v8,v9⟩:=g12q (ts:=ts) (r:=r) (p:=p) hxx;unfold ga5 at hK
   have hc9:x.Kind=1∨x.Kind=2∨x.Kind=3∨x.Kind=4∨x.Kind=5∨x.Kind=6∨x.Kind=7∨x.Kind=8∨x.Kind=9:=by omega
   rcases hc9 with k | k | k | k | k | k | k | k | k
   · rw[if_pos (by simp[k])];refine(SaysP.of ?_).imp (v1 k).symm;by_cases h:p=[] <;> simp[h]
   · rw[if_neg (by simp[k]),if_pos (by simp[k])];obtain⟨o,_,o2,o3,o4⟩:=gjh p;rw[o2];simp only[oZ3];by_cases h0:o.2=0
     · obtain⟨n,n1,n2⟩:=o3 h0;have hn:=g12k n1;have hd:decide (o.2=0)=true:=by simp[h0]
       rw[hd,if_pos rfl,n2,g17q hn];simp only[oZ3,cond_true];by_cases g:x.Low≤unz n
       · have hg:decide (x.Low≤unz n)=true:=by simpa using g
         rw[hg,if_pos rfl];refine⟨_,rfl,?_⟩;rw[v2 k,n1];constructor
         · intro h;exact⟨n,rfl,g,by simpa using h⟩
         · rintro ⟨m,hm,_,h⟩
           cases hm
           simpa using h
       · have hg:decide (x.Low≤unz n)=false:=by simpa using g
         rw[hg,if_neg (by simp)];refine⟨false,rfl,?_⟩;rw[v2 k,n1];constructor
         · intro h;cases h
         · rintro ⟨m,hm,h,_⟩
           cases hm;exact absurd h g
     · have hd:decide (o.2=0)=false:=by simp[h0]
       rw[hd];refine⟨false,rfl,?_⟩;rw[v2 k,o4 h0];constructor
       · intro h;cases h
       · rintro ⟨m,hm,_⟩;cases hm
   · rw[if_neg (by simp[k]),if_neg (by simp[k]),if_pos (by simp[k])];exact(SaysP.of (by simp)).imp (v3 k).symm
   · rw[if_neg (by simp[k]),if_neg (by simp[k]),if_neg (by simp[k]),if_pos (by simp[k])];obtain⟨o,_,o2,o3,o4⟩:=gjh p;rw[o2];simp only[oZ3];by_cases h0:o.2=0
     · obtain⟨n,n1,n2⟩:=o3 h0;rw[n2,h0];by_cases hrn:1≤n∧n≤1000
       · have a:¬(n:Int) < 1:=by omega
         have b:¬(1000:Int) < (n:Int):=by omega
         obtain⟨q,_,q2,qf⟩:=gaw (t:=x) (n:Int) hs7;rw[if_neg (by simp only[a,b,decide_false,decide_true,Bool.not_true,cond_false,Bool.false_eq_true,not_false_eq_true]),wrp64 (by omega) (by omega),q2];refine⟨_,rfl,?_⟩;rw[v4 k,n1];have:=ge5 qf;cases hq:q.2 with
         | true=>
           simp only[cond_true,true_iff];exact⟨n,rfl,hrn,.inl (this.1 hq)⟩
         | false=>
           have h1:¬∃y,y∈x.Symbols∧y.ID=(n:Int):=fun h=>by rw[this.2 h]at hq;cases hq
           simp only[cond_false];constructor
           · intro h;exact⟨n,rfl,hrn,.inr h⟩
           · rintro ⟨m,hm,_,h⟩
             cases hm;rcases h with h | h
             · exact absurd h h1
             · exact h
       · have hc:(bif bif (!(decide ((0:Int)=0)))then true else decide ((n:Int) < 1)then true else decide (1000 < (n:Int)))=true:=by
           by_cases a:(n:Int) < 1
           · simp only[a,decide_true,Bool.not_true,cond_true,cond_false]
           · have b:(1000:Int) < (n:Int):=by omega
             simp only[a,b,decide_true,decide_false,Bool.not_true,cond_false]
         rw[if_pos hc];refine⟨false,rfl,?_⟩;rw[v4 k,n1];constructor
         · intro h;cases h
         · rintro ⟨m,hm,h,_⟩
           cases hm;exact absurd h hrn
     · have hc:(bif bif (!(decide (o.2=0)))then true else decide (o.1 < 1)then true else decide (1000 < o.1))=true:=by simp[h0]
       rw[if_pos hc];refine⟨false,rfl,?_⟩;rw[v4 k,o4 h0];constructor
       · intro h;cases h
       · rintro ⟨m,hm,_⟩;cases hm
   · rw[if_neg (by simp[k]),if_neg (by simp[k]),if_neg (by simp[k]),if_neg (by simp[k]),if_neg (by simp[k]),if_neg (by simp[k]),if_neg (by simp[k]),if_neg (by simp[k])];obtain⟨o,_,o2,o3,o4⟩:=gn9 (p:=p) (by omega);rw[o2];simp only[oZ3];by_cases h0:o.2=0
     · obtain⟨f1,f2,f3,f4⟩:=o3 h0;obtain⟨hma,_⟩:=hA (.inl k);rw[if_neg (by simp[h0])];have hm':=gv7 H (by omega:r≤300) ih hxm hMt (l:=o.1) (by omega) f3 (fun f hf=>by have:=(f2 f hf).1;omega) x.Members.length 0 (by omega)
       have e0:g29 (((r+1:Nat):Int),o.1,((0:Nat):Int),ts,x.Kind,x.Name,x.Low,x.High,x.Max,x.Symbols,x.Members,x.Key,x.Elem,x.Open)=g29 (((r+1:Nat):Int),o.1,0,ts,x.Kind,x.Name,x.Low,x.High,x.Max,x.Symbols,x.Members,x.Key,x.Elem,x.Open):=rfl;simp only[e0,List.drop_zero]at hm';have hb:=gw8 (ts:=ts) (r:=r) hma (l:=o.1)
       rcases hm' with⟨a,b⟩ | ⟨a,b⟩
       · rw[a];simp only[oZ3];refine(gw7 hm7 (l:=o.1) (by omega)).imp ?_;rw[v5 k];constructor
         · intro h;exact⟨o.1,f1,hb.1 ⟨b,h⟩⟩
         · rintro ⟨l,h1,h2⟩
           rw[f1]at h1;cases h1;exact(hb.2 h2).2
       · rw[a];refine⟨false,rfl,?_⟩;rw[v5 k];constructor
         · intro h;cases h
         · rintro ⟨l,h1,h2⟩
           rw[f1]at h1;cases h1;exact absurd (hb.2 h2).1 b
     · rw[if_pos (by simp[h0])];refine⟨false,rfl,?_⟩;rw[v5 k,o4 h0];constructor
       · intro h;cases h
       · rintro ⟨l,h,_⟩;cases h
   · rw[if_neg (by simp[k]),if_neg (by simp[k]),if_neg (by simp[k]),if_neg (by simp[k]),if_neg (by simp[k]),if_pos (by simp[k])];obtain⟨o,_,o2,o3,o4⟩:=gv4 p;rw[o2];simp only[oZ3];by_cases h0:o.2.2=0
     · obtain⟨f1,f2,f3⟩:=o3 h0;rw[if_neg (by simp[h0])];obtain⟨q,_,q2,qf⟩:=g3x (t:=x) o.1 hm7;rw[q2];simp only[oZ3];rcases g5h qf with⟨e,i,i1,i2,i3,i4⟩ | ⟨e,i3⟩
       · have hmm:=g8 i1 dSMember;obtain⟨m0,m1⟩:=hMt _ hmm;obtain⟨w,w1,w2⟩:=ih (x.Members.getD i dSMember).Type_ o.2.1 m0 m1 (by omega);rw[if_pos e,i2,if_pos (g6 i1),g7,e1,w1];refine⟨w,rfl,?_⟩;rw[v6 k,w2];constructor
         · intro h;refine⟨_,_,f1,fun h'=>?_,fun m hm=>?_⟩
           · rw[i3]at h';cases h'
           · rw[i3]at hm;cases hm;exact h
         · rintro ⟨id,q',h1,_,h3⟩
           rw[f1]at h1;cases h1;exact h3 _ i3
       · rw[if_neg (by simp[e])];refine⟨_,rfl,?_⟩;rw[v6 k];constructor
         · intro h;refine⟨_,_,f1,fun _=>h,fun m hm=>?_⟩;rw[i3]at hm;cases hm
         · rintro ⟨id,q',h1,h2,_⟩
           rw[f1]at h1;cases h1;exact h2 i3
     · rw[if_pos (by simp[h0])];refine⟨false,rfl,?_⟩;rw[v6 k,o4 h0];constructor
       · intro h;cases h
       · rintro ⟨id,q,h,_⟩;cases h
   · rw[if_neg (by simp[k]),if_neg (by simp[k]),if_neg (by simp[k]),if_neg (by simp[k]),if_neg (by simp[k]),if_neg (by simp[k]),if_pos (by simp[k])];obtain⟨el0,el1⟩:=hU x.Elem (by unfold usesL;simp[k]);obtain⟨o,o1,o2,o3,o4⟩:=ge6 (p:=p) (by omega);rw[o2];simp only[oZ3];have hlen:o.1.length≤100000∧∀q,q∈o.1→q.length≤4096:=by
       by_cases h0:o.2=0
       · obtain⟨_,f2,f3⟩:=o3 h0;exact⟨by omega,fun q hq=>by have:=f2 q hq;omega⟩
       · have:=g12p (by omega) o1 h0;rw[this];exact⟨by simp,fun q hq=>by cases hq⟩
     have hls:=glx (ts:=ts) (r:=r) (by omega) (x:=x) (l:=o.1) o.2 hlen.1 (fun q hq=>ih x.Elem q el0 el1 (hlen.2 q hq)) o.1.length 0 (by omega)
     have e0:g2r (((r+1:Nat):Int),o.1,o.2,((0:Nat):Int),ts,x.Kind,x.Name,x.Low,x.High,x.Max,x.Symbols,x.Members,x.Key,x.Elem,x.Open)=g2r (((r+1:Nat):Int),o.1,o.2,0,ts,x.Kind,x.Name,x.Low,x.High,x.Max,x.Symbols,x.Members,x.Key,x.Elem,x.Open):=rfl;simp only[e0,List.drop_zero]at hls;rcases hls with⟨a,b⟩ | ⟨a,b⟩
     · rw[a];simp only[oZ3];refine⟨_,rfl,?_⟩;rw[v7 k];by_cases h0:o.2=0
       · have f1:=(o3 h0).1;have hd:decide (o.2=0)=true:=by simp[h0]
         rw[hd];simp only[cond_true,decide_eq_true_eq];constructor
         · intro h;exact⟨_,f1,h,b⟩
         · rintro ⟨l,h1,h2,_⟩
           rw[f1]at h1;cases h1;exact h2
       · have hd:decide (o.2=0)=false:=by simp[h0]
         rw[hd,o4 h0];simp
     · rw[a];refine⟨false,rfl,?_⟩;rw[v7 k];by_cases h0:o.2=0
       · have f1:=(o3 h0).1;constructor
         · intro h;cases h
         · rintro ⟨l,h1,_,h3⟩
           rw[f1]at h1;cases h1;exact absurd h3 b
       · rw[o4 h0];simp
   · rw[if_neg (by simp[k]),if_neg (by simp[k]),if_neg (by simp[k]),if_neg (by simp[k]),if_neg (by simp[k]),if_neg (by simp[k]),if_neg (by simp[k]),if_pos (by simp[k])];obtain⟨el0,el1⟩:=hU x.Elem (by unfold usesL;simp[k]);obtain⟨kl0,kl1⟩:=hU x.Key (by unfold usesL;simp[k]);obtain⟨o,o1,o2,o3,o4⟩:=ge6 (p:=p) (by omega);rw[o2];simp only[oZ3]
     by_cases h0:o.2=0
     · obtain⟨f1,f2,f3⟩:=o3 h0;have hr2:remI (o.1.length:Int) 2=((o.1.length % 2:Nat):Int):=remIn (b:=2);have hq2:quoI .i64 (o.1.length:Int) 2=((o.1.length / 2:Nat):Int):=by
         unfold quoI;have e:(o.1.length:Int).tdiv 2=((o.1.length / 2:Nat):Int):=by rw[Int.tdiv_eq_ediv_of_nonneg (by omega)];omega
         rw[e,IntKind.wrap_i64];omega
       rw[hr2,hq2,h0];by_cases hev:o.1.length % 2=0
       · have ev:((o.1.length % 2:Nat):Int)=0:=by omega
         rw[ev];by_cases hmx:((o.1.length / 2:Nat):Int)≤x.Max
         · have b:¬x.Max < ((o.1.length / 2:Nat):Int):=by omega
           rw[if_neg (by simp only[b,decide_true,decide_false,Bool.not_true,cond_false,Bool.false_eq_true,not_false_eq_true])];refine(gw9 (ts:=ts) (r:=r) (by omega) (x:=x) (l:=o.1) (by omega) hev (fun q hq=>ih x.Key q kl0 kl1 (by have:=f2 q hq;omega)) (fun q hq=>ih x.Elem q el0 el1 (by have:=f2 q hq;omega))).imp ?_;rw[v8 k];constructor
           · intro h;exact⟨_,f1,hev,hmx,h⟩
           · rintro ⟨l,h1,_,_,h4⟩
             rw[f1]at h1;cases h1;exact h4
         · have b:x.Max < ((o.1.length / 2:Nat):Int):=by omega
           rw[if_pos (by simp only[b,decide_true,Bool.not_true,cond_false])];refine⟨false,rfl,?_⟩;rw[v8 k];constructor
           · intro h;cases h
           · rintro ⟨l,h1,_,h3,_⟩
             rw[f1]at h1;cases h1;exact absurd h3 hmx
       · have ev:((o.1.length % 2:Nat):Int)=1:=by omega
         rw[ev,if_pos (by rfl)];refine⟨false,rfl,?_⟩;rw[v8 k];constructor
         · intro h;cases h
         · rintro ⟨l,h1,h2,_⟩
           rw[f1]at h1;cases h1;exact absurd h2 hev
     · rw[if_pos (by simp[h0])];refine⟨false,rfl,?_⟩;rw[v8 k,o4 h0];constructor
       · intro h;cases h
       · rintro ⟨l,h,_⟩;cases h
   · rw[if_neg (by simp[k]),if_neg (by simp[k]),if_neg (by simp[k]),if_neg (by simp[k]),if_pos (by simp[k])];obtain⟨el0,el1⟩:=hU x.Elem (by unfold usesL;simp[k]);cases p with
     | nil=>
       refine⟨true,rfl,?_⟩;rw[v9 k];simp
     | cons c q=>
       have hin:inR 0 (c::q).length=true:=g6 (k:=0) (by simp);have hsl:slR 1 ((c::q).length:Int) (c::q).length=true:=g57 (a:=1) (by simp) (by simp);have hcut:cutL (c::q) 1 ((c::q).length:Int)=q:=by
         have:=g6w (c::q) 1
         simpa using this
       have hne:decide (c::q=[])=false:=by simp
       have hby:g3e (c::q) 0=(c.toNat:Int):=g6k (c::q) 0;rw[hne,hin,hsl,hby,hcut];simp only[Bool.not_false,Bool.true_or,if_true,Bool.true_and,cond_false];by_cases hc1:c=1
       · subst hc1;obtain⟨w,w1,w2⟩:=ih x.Elem q el0 el1 (by simp at hp;omega);have hd:decide (((1:UInt8).toNat:Int)=1)=true:=by decide
         rw[hd,if_pos rfl,e1,w1];refine⟨w,rfl,?_⟩;rw[v9 k,w2];simp
       · have hd:decide ((c.toNat:Int)=1)=false:=by
           rw[decide_eq_false_iff_not];intro h
           exact hc1 (UInt8.toNat_inj.1 (by
             have:(1:UInt8).toNat=1:=rfl
             omega))
         rw[hd];refine⟨false,rfl,?_⟩;rw[v9 k];constructor
         · intro h;cases h
         · rintro (h | ⟨q',h,_⟩)
           · cases h
           · cases h;exact absurd rfl hc1
theorem gqq(H:DrOk ts)(t:Int)(m:List UInt8) :∃b,g7p ((⟨ts⟩:SSchema),t,m)=some b∧gbc ((⟨ts⟩:SSchema),t,m)=some b∧(b=true↔0≤t∧t < ts.length∧m.length≤4096∧vcan ts 200 t m):=by
 obtain⟨v1,v2⟩:=gry H.T H.V;rw[g7p,gbc,g7i];simp only[gc4];rw[v1,v2];by_cases hin:0≤t∧t < ts.length
 · have a:¬t < 0:=by omega
   have b:¬((ts.length:Nat):Int)≤t:=by omega
   have hc:¬((bif decide (t < 0)then true else decide (((⟨ts⟩:SSchema).Types.length:Int)≤t))=true):=by
     simp only[a,b,decide_false,cond_false,Bool.false_eq_true,not_false_eq_true]
   have hE:∀{γ:Type} (K:Int→Option γ),((some (0:Int) >>=fun r=>if(!(decide (r=0)))=true then some r else if(bif decide (t < 0)then true else decide (((⟨ts⟩:SSchema).Types.length:Int)≤t))=true then some (4:Int)else some 0) >>=K)=K 0:=fun K=>by
     show((if(bif decide (t < 0)then true else decide (((⟨ts⟩:SSchema).Types.length:Int)≤t))=true then some (4:Int)else some 0) >>=K)=_;rw[if_neg hc];rfl
   by_cases hl:m.length≤4096
   · obtain⟨w,w1,w2⟩:=gxm H 200 1 (by omega) (by omega) t m hin.1 hin.2 hl;obtain⟨z,z1,z2⟩:=gxn H 200 (by omega) t m hin.1 hin.2 hl;have hwz:w=z:=by rw[Bool.eq_iff_iff,w2,z2]
     subst hwz;have w1':g9 ((⟨(⟨ts⟩:SSchema)⟩:EncodeReader),t,m,1)=some w:=w1;have z1':gt ((⟨ts⟩:SSchema),t,m,200)=some w:=z1;have hd:decide ((m.length:Int)≤4096)=true:=by simp;omega
     refine⟨w,?_,?_,by rw[w2];simp[hin,hl]⟩
     · refine(hE _).trans ?_;show(some (decide ((m.length:Int)≤4096)) >>=_)=_;rw[hd];show(g9 ((⟨(⟨ts⟩:SSchema)⟩:EncodeReader),t,m,1) >>=_)=_;rw[w1'];rfl
     · have hb:(bif bif bif decide True then decide (0≤t)else false then decide (t < (ts.length:Int))else false then decide ((m.length:Int)≤4096)else false)=true:=by
         have h1:decide (0≤t)=true:=by simp;omega
         have h2:decide (t < (ts.length:Int))=true:=by simp;omega
         rw[h1,h2,hd];simp
       simp only[oZ4,oZ3];rw[hb,if_pos rfl,z1'];rfl
   · have hd:decide ((m.length:Int)≤4096)=false:=by simp;omega
     refine⟨false,?_,?_,by simp;omega⟩
     · refine(hE _).trans ?_;show(some (decide ((m.length:Int)≤4096)) >>=_)=_;rw[hd];rfl
     · simp only[oZ4,oZ3];rw[hd];cases (bif bif decide True then decide (0≤t)else false then decide (t < (ts.length:Int))else false) <;> rfl
 · have hc:(bif decide (t < 0)then true else decide (((⟨ts⟩:SSchema).Types.length:Int)≤t))=true:=by
     by_cases a:t < 0
     · simp only[a,decide_true,cond_true]
     · have b:((ts.length:Nat):Int)≤t:=by omega
       simp only[a,b,decide_true,decide_false,cond_false]
   refine⟨false,?_,?_,by
     constructor
     · intro h;cases h
     · rintro ⟨h1,h2,_⟩;exact absurd ⟨h1,h2⟩ hin⟩
   · show((if(bif decide (t < 0)then true else decide (((⟨ts⟩:SSchema).Types.length:Int)≤t))=true then some (4:Int)else some 0) >>=_)=_;rw[if_pos hc];rfl
   · have hb:(bif bif bif decide True then decide (0≤t)else false then decide (t < (ts.length:Int))else false then decide ((m.length:Int)≤4096)else false)=false:=by
       by_cases a:0≤t
       · have b:¬t < ((ts.length:Nat):Int):=by omega
         have h1:decide (t < (ts.length:Int))=false:=by simpa using b
         rw[h1];cases (bif decide True then decide (0≤t)else false) <;> rfl
       · have h1:decide (0≤t)=false:=by simpa using a
         rw[h1];rfl
     simp only[oZ4,oZ3];rw[hb];rfl
end
end
section
open Go Go.Proofs.YthnmepafpikaiaaGreat.Shv Go.Sort
set_option maxRecDepth 100000
theorem go3{n m:Nat}(hn:n < 18446744073709551616)(hm:m < 18446744073709551616){r s:List UInt8}(h:vput n++r=vput m++s) :n=m∧r=s:=by
 have h1:=gi8 hn r;rw[h,gi8 hm s]at h1;have e:((m:Nat):Int)=(n:Int):=congrArg Prod.fst h1;have e:m=n:=by omega
 subst e;exact⟨rfl,List.append_cancel_left h⟩
theorem ge7{p q r s:List UInt8}(hp:p.length < 18446744073709551616)(hq:q.length < 18446744073709551616)(h:g1s p++r=g1s q++s) :p=q∧r=s:=by
 unfold g1s at h;rw[List.append_assoc,List.append_assoc]at h;obtain⟨h1,h2⟩:=go3 hp hq h;exact List.append_inj h2 h1
theorem gv8 :∀{a b:List (List UInt8)},(∀x,x∈a→x.length < 18446744073709551616)→(∀x,x∈b→x.length < 18446744073709551616)→a.flatMap g1s=b.flatMap g1s→a=b
 | [],[],_,_,_=>rfl
 | [],q::b,_,_,h=>by
   have h2:=congrArg List.length h;have:=gc6 q;rw[List.flatMap_cons,List.length_append,List.flatMap_nil,List.length_nil]at h2;omega
 | p::a,[],_,_,h=>by
   have h2:=congrArg List.length h;have:=gc6 p;rw[List.flatMap_cons,List.length_append,List.flatMap_nil,List.length_nil]at h2;omega
 | p::a,q::b,ha,hb,h=>by
   rw[List.flatMap_cons,List.flatMap_cons]at h;obtain⟨e,h2⟩:=ge7 (ha _ (.head _)) (hb _ (.head _)) h;rw[e,gv8 (fun x hx=>ha x (.tail _ hx)) (fun x hx=>hb x (.tail _ hx)) h2]
def FdOk(f:Fd) :Prop:=f.id≤1000∧f.p.length < 18446744073709551616
theorem gv9 :∀{a b:List Fd},(∀x,x∈a→FdOk x)→(∀x,x∈b→FdOk x)→a.flatMap Fd.text=b.flatMap Fd.text→a=b
 | [],[],_,_,_=>rfl
 | [],q::b,_,_,h=>by
   have h2:=congrArg List.length h;have:=go0 q;rw[List.flatMap_cons,List.length_append,List.flatMap_nil,List.length_nil]at h2;omega
 | p::a,[],_,_,h=>by
   have h2:=congrArg List.length h;have:=go0 p;rw[List.flatMap_cons,List.length_append,List.flatMap_nil,List.length_nil]at h2;omega
 | ⟨i,c,p⟩::a,⟨j,d,q⟩::b,ha,hb,h=>by
   have h1:=ha _ (.head _);have h2:=hb _ (.head _);unfold FdOk at h1 h2;simp only at h1 h2;rw[List.flatMap_cons,List.flatMap_cons]at h;simp only[Fd.text,g4j,List.append_assoc]at h;obtain⟨e1,h3⟩:=go3 (by split <;> omega) (by split <;> omega) h;obtain⟨e2,h4⟩:=ge7 h1.2 h2.2 h3;have e3:=gv9 (fun x hx=>ha x (.tail _ hx)) (fun x hx=>hb x (.tail _ hx)) h4;subst e2 e3
   cases c <;> cases d <;> simp at e1
   · have:i=j:=by omega
     subst this;rfl
   · omega
   · omega
   · have:i=j:=by omega
     subst this;rfl
theorem gxo :∀(s:List UInt8) (n:Nat) (b:UInt8),fb n (s++[b])=fb n s*256+b.toNat
 | [],n,b=>by simp[fb]
 | a::s,n,b=>by
   simp only[List.cons_append,fb];exact gxo s _ b
theorem gqr(n:Nat) :fb 0 (vbig n)=n:=by
 induction n using Nat.strongRecOn with
 | ind n ih=>
   rw[vbig];split
   · rename_i h;subst h;rfl
   · rw[gxo,ih (n / 256) (by omega),g3g (by omega)];omega
theorem gva{n m:Nat}(h:vbig n=vbig m) :n=m:=by rw[←gqr n,←gqr m,h]
theorem g12r :∀(n:Nat),¬(vbig n).head?=some 0:=by
 intro n
 induction n using Nat.strongRecOn with
 | ind n ih=>
   rw[vbig];split
   · simp
   · rename_i h;have:=ih (n / 256) (by omega);by_cases h2:n < 256
     · have:n / 256=0:=by omega
       rw[this,vbig,if_pos rfl];simp only[List.nil_append,List.head?_cons,Option.some.injEq];intro hc;have h3:=congrArg UInt8.toNat hc;rw[g3g (by omega)]at h3;simp at h3;omega
     · have hne:vbig (n / 256)≠[]:=by rw[vbig,if_neg (by omega)];simp
       cases hv:vbig (n / 256)with
       | nil=>exact absurd hv hne
       | cons a l=>rw[hv]at this;simpa using this
theorem gvb{n:Nat}(h:n < 18446744073709551616) :vub (vbig n)=some n:=by
 unfold vub;have h1:=g12r n;have h2:=gjc 8 n (by rw[g12j];exact h)
 rw [if_neg (by rintro (h | h)
                · exact h1 h
                · omega),gqr]
theorem g150{a b:List SRaw}(ha:a.Pairwise (fun x y=>x.ID < y.ID))(hb:b.Pairwise (fun x y=>x.ID < y.ID))(h:∀x,x∈a↔x∈b) :a=b:=by
 have na:a.Nodup:=ha.imp fun {x y} h e=>by subst e;omega
 have nb:b.Nodup:=hb.imp fun {x y} h e=>by subst e;omega
 have hp:a.Perm b:=(List.perm_ext_iff_of_nodup na nb).2 h;exact List.Perm.eq_of_pairwise (le:=fun x y:SRaw=>x.ID < y.ID) (fun x y _ _ h1 h2=>by omega) ha hb hp
theorem gxp :∀{a b c d:List (List UInt8)},(∀x,x∈a→x.length < 18446744073709551616)→(∀x,x∈b→x.length < 18446744073709551616)→(∀x,x∈c→x.length < 18446744073709551616)→(∀x,x∈d→x.length < 18446744073709551616)→a.length=b.length→c.length=d.length→ilv a b=ilv c d→a=c∧b=d
 | [],[],[],[],_,_,_,_,_,_,_=>⟨rfl,rfl⟩
 | [],[],p::c,q::d,_,_,_,_,_,_,h=>by
   have h2:=congrArg List.length h;have:=gc6 p;simp only[ilv,List.length_append,List.length_nil]at h2;omega
 | p::a,q::b,[],[],_,_,_,_,_,_,h=>by
   have h2:=congrArg List.length h;have:=gc6 p;simp only[ilv,List.length_append,List.length_nil]at h2;omega
 | p::a,q::b,r::c,s::d,ha,hb,hc,hd,h1,h2,h=>by
   simp only[ilv]at h;obtain⟨e1,h3⟩:=ge7 (ha _ (.head _)) (hc _ (.head _)) h;obtain⟨e2,h4⟩:=ge7 (hb _ (.head _)) (hd _ (.head _)) h3;obtain⟨e3,e4⟩:=gxp (fun x hx=>ha x (.tail _ hx)) (fun x hx=>hb x (.tail _ hx)) (fun x hx=>hc x (.tail _ hx)) (fun x hx=>hd x (.tail _ hx)) (by simpa using h1) (by simpa using h2) h4;rw[e1,e2,e3,e4];exact⟨rfl,rfl⟩
theorem ggn{ts:List SType}{t:Int} :∀{l m:List SValue},(∀x,x∈l→∀y,y∈m→vpay ts t x=vpay ts t y→x=y)→vpays ts t l=vpays ts t m→l=m
 | [],[],_,_=>rfl
 | [],y::m,_,h=>by rw[vpays,vpays]at h;cases h
 | x::l,[],_,h=>by rw[vpays,vpays]at h;cases h
 | x::l,y::m,hi,h=>by
   rw[vpays,vpays]at h;injection h with h1 h2;rw[hi x (.head _) y (.head _) h1,ggn (fun a ha b hb=>hi a (.tail _ ha) b (.tail _ hb)) h2]
theorem g13t{l m:List SValue}(hl:l.length=m.length)(h:∀i,i < l.length→l.getD i dSValue=m.getD i dSValue) :l=m:=by
 apply List.ext_getElem hl;intro i h1 h2;have:=h i h1;rw[List.getD_eq_getElem?_getD,List.getD_eq_getElem?_getD,List.getElem?_eq_getElem h1,List.getElem?_eq_getElem h2]at this;exact this
theorem gji{ts:List SType}{n:Nat} :∀{ms:List SMember} {l:List SValue},(∀x,x∈l→∀t,(vpay ts t x).length < n)→∀f,f∈vents ts ms l→f.p.length < n
 | [],l,_,f,hf=>by rw[vents]at hf;cases hf;intros;simp_all
 | m::ms,[],_,f,hf=>by rw[vents]at hf;cases hf;intros;simp_all
 | m::ms,v::l,h,f,hf=>by
   rw[vents]at hf;split at hf
   · exact gji (fun x hx=>h x (.tail _ hx)) f hf
   · rcases List.mem_cons.1 hf with rfl | hf
     · exact h v (.head _) _
     · exact gji (fun x hx=>h x (.tail _ hx)) f hf
theorem g151 {ts : List SType} {ms : List SMember} {a b : List SValue} {ra rb : List SRaw} (hm : MAsc ms) (hra : g72 ms ra) (hrb : g72 ms rb) (hla : a.length = ms.length) (hlb : b.length = ms.length)
   (da:∀f,f∈g3a ts ms a ra→FdOk f) (db:∀f,f∈g3a ts ms b rb→FdOk f)
   (ih:∀i,i < ms.length→vpay ts (ms.getD i dSMember).Type_ (a.getD i dSValue)=vpay ts (ms.getD i dSMember).Type_ (b.getD i dSValue)→a.getD i dSValue=b.getD i dSValue)
   (h:(isoB ltF (g3a ts ms a ra)).flatMap Fd.text=(isoB ltF (g3a ts ms b rb)).flatMap Fd.text):a=b∧ra=rb:=by
 have e:=gv9 (fun f hf=>da f ((g66 ltF _).mem_iff.1 hf)) (fun f hf=>db f ((g66 ltF _).mem_iff.1 hf)) h;have hp:(g3a ts ms a ra).Perm (g3a ts ms b rb):=(g66 ltF _).symm.trans (e▸g66 ltF _);have rawmem:∀{l:List SValue} {r:List SRaw},g72 ms r→∀x,I1000 x.ID→findM ms x.ID=none→rawF x∈g3a ts ms l r→x∈r:=by
   intro l r hr x hx hn hmem;rcases List.mem_append.1 hmem with h1 | h1
   · obtain⟨m,h2,h3⟩:=ga7 h1;have:=gaj hn m h2;have:=hm.2 m h2;have h3:x.ID.toNat=m.ID.toNat:=h3;unfold I1000 at*;omega
   · obtain⟨q,h2,h3⟩:=List.mem_map.1 h1;have hq:=(hr.2 q h2).1;have:q=x:=by
       cases q;cases x;simp only[rawF,Fd.mk.injEq]at h3;unfold I1000 at*;simp only[SRaw.mk.injEq];simp only at hq hx;exact⟨by omega,h3.2.2⟩
     rw[←this];exact h2
 refine⟨g13t (by omega) fun i hi=>?_,g150 hra.1 hrb.1 fun x=>⟨fun hx=>?_,fun hx=>?_⟩⟩
 · have hi':i < ms.length:=by omega
   have hmi:=g8 hi' dSMember;have hid:=hm.2 _ hmi;have hf:=hp.filter fun x=>decide (x.id=(ms.getD i dSMember).ID.toNat)
   have noraw:∀{r:List SRaw},g72 ms r→((r.map rawF).filter fun x=>decide (x.id=(ms.getD i dSMember).ID.toNat))=[]:=by
     intro r hr;rw[List.filter_eq_nil_iff];intro f hf;obtain⟨q,h2,rfl⟩:=List.mem_map.1 hf;have h3:=hr.2 q h2;have:=gaj h3.2 _ hmi;have:=h3.1;have:¬q.ID.toNat=(ms.getD i dSMember).ID.toNat:=by unfold I1000 at*;omega
     simpa[rawF]using this
   unfold g3a at hf;rw[List.filter_append,List.filter_append,noraw hra,noraw hrb,List.append_nil,List.append_nil,gax (gib hm) hla hi' rfl,gax (gib hm) hlb hi' rfl]at hf;by_cases oa:om (ms.getD i dSMember) (a.getD i dSValue)=true
   · by_cases ob:om (ms.getD i dSMember) (b.getD i dSValue)=true
     · unfold om at oa ob;simp only[Bool.and_eq_true,decide_eq_true_eq]at oa ob;rw[←oa.2,←ob.2]
     · rw[if_pos oa,if_neg ob]at hf;have:=hf.length_eq;simp at this
   · by_cases ob:om (ms.getD i dSMember) (b.getD i dSValue)=true
     · rw[if_neg oa,if_pos ob]at hf;have:=hf.length_eq;simp at this
     · rw[if_neg oa,if_neg ob]at hf;have:=List.perm_singleton.1 hf.symm;simp only[List.cons.injEq,Fd.mk.injEq,and_true,true_and]at this;exact ih i hi' this.symm
 · obtain⟨h1,h2⟩:=hra.2 x hx;exact rawmem hrb x h1 h2 (hp.mem_iff.1 (List.mem_append_right _ (List.mem_map_of_mem hx)))
 · obtain⟨h1,h2⟩:=hrb.2 x hx;exact rawmem hra x h1 h2 (hp.mem_iff.2 (List.mem_append_right _ (List.mem_map_of_mem hx)))
theorem g13u{ts:List SType}(H:SOk ts){a:SValue}(ha:OkV a) :∀{t:Int} {b:SValue},OkV b→wt a≤1099511627776→wt b≤1099511627776→vfit ts false t a→vfit ts false t b→vpay ts t a=vpay ts t b→a=b:=by
 induction ha with
 | mk a hs h1 h2 h3 hk hi hrd n1 n2 n3 n4 ihk ihi=>
   intro t b hb wa wb fa fb e;have hwa:=wt_eq a;have hwb:=wt_eq b;have hOb:=hb;cases hb with
   | mk _ gs g1 g2 g3 gk gi grd m1 m2 m3 m4=>
   have lI:∀x,x∈a.Items→∀t,(vpay ts t x).length < 18446744073709551616:=fun x hx t=>by have:=g9n H (hi x hx) (by have:=g2o hx;omega) t;omega
   have lK:∀x,x∈a.Keys→∀t,(vpay ts t x).length < 18446744073709551616:=fun x hx t=>by have:=g9n H (hk x hx) (by have:=g2o hx;omega) t;omega
   have kI:∀x,x∈b.Items→∀t,(vpay ts t x).length < 18446744073709551616:=fun x hx t=>by have:=g9n H (gi x hx) (by have:=g2o hx;omega) t;omega
   have kK:∀x,x∈b.Keys→∀t,(vpay ts t x).length < 18446744073709551616:=fun x hx t=>by have:=g9n H (gk x hx) (by have:=g2o hx;omega) t;omega
   have IHI:∀{t:Int} x,x∈a.Items→∀y,y∈b.Items→vfit ts false t x→vfit ts false t y→vpay ts t x=vpay ts t y→x=y:=fun x hx y hy f g=>ihi x hx (gi y hy) (by have:=g2o hx;omega) (by have:=g2o hy;omega) f g
   have IHK:∀{t:Int} x,x∈a.Keys→∀y,y∈b.Keys→vfit ts false t x→vfit ts false t y→vpay ts t x=vpay ts t y→x=y:=fun x hx y hy f g=>ihk x hx (gk y hy) (by have:=g2o hx;omega) (by have:=g2o hy;omega) f g
   obtain⟨⟨p1,p2,p3,_⟩,fa⟩:=(g6u _ _ _).1 fa;obtain⟨⟨_,_,q3,_⟩,fb⟩:=(g6u _ _ _).1 fb;have hj:t.toNat < ts.length:=by omega
   have hxm:=g8 hj dSType;have hv1:=fun v=>@vpay1 ts t v
   have hv2:=fun v=>@vpay2 ts t v
   have hv3:=fun v=>@vpay3 ts t v
   have hv4:=fun v=>@vpay4 ts t v
   have hv5:=fun v=>@vpay5 ts t v
   have hv6:=fun v=>@vpay6 ts t v
   have hv7:=fun v=>@vpay7 ts t v
   have hv8:=fun v=>@vpay8 ts t v
   have hv9:=fun v=>@vpay9 ts t v
   have hA:=H.A _ hxm;have hS:=H.S _ hxm;have hT:=H.T _ hxm;generalize ts.getD t.toNat dSType=x at*;have fin:a.Kind=b.Kind→a.Bool_=b.Bool_→a.Int_=b.Int_→a.Str=b.Str→a.ID=b.ID→a.Keys=b.Keys→a.Items=b.Items→a.Rest=b.Rest→a=b:=by
     intro e1 e2 e3 e4 e5 e6 e7 e8;cases a;cases b;simp_all
   have ek:a.Kind=b.Kind:=p3.trans q3.symm;rcases fa with⟨k,c1,c2,c3,c4,c5,c6⟩ | ⟨k,c1,c2,c3,c4,c5,c6,c7,c8⟩ | ⟨k,c1,c2,c3,c4,c5,c6,c7⟩ | ⟨k,c1,c2,c3,c4,c5,c6,c7⟩ | ⟨k,c1,c2,c3,c4,c5,c6,c7⟩ | ⟨k,c1,c2,c3,c4,c5⟩ | ⟨k,c1,c2,c3,c4,c5,c6,c7,c8⟩ | ⟨k,c1,c2,c3,c4,c5,c6,c7,c8,c9,c10⟩ | ⟨k,c1,c2,c3,c4,c5,c6,c7,c8⟩ <;>
   rcases fb with⟨l,d1,d2,d3,d4,d5,d6⟩ | ⟨l,d1,d2,d3,d4,d5,d6,d7,d8⟩ | ⟨l,d1,d2,d3,d4,d5,d6,d7⟩ | ⟨l,d1,d2,d3,d4,d5,d6,d7⟩ | ⟨l,d1,d2,d3,d4,d5,d6,d7⟩ | ⟨l,d1,d2,d3,d4,d5⟩ | ⟨l,d1,d2,d3,d4,d5,d6,d7,d8⟩ | ⟨l,d1,d2,d3,d4,d5,d6,d7,d8,d9,d10⟩ | ⟨l,d1,d2,d3,d4,d5,d6,d7,d8⟩ <;>
   (first | (exfalso;omega) | skip) <;> have kx:=p3.symm.trans k
   · rw[hv1 _ kx,hv1 _ kx]at e;refine fin ek ?_ (c1.trans d1.symm) (c2.trans d2.symm) (c3.trans d3.symm) (c4.trans d4.symm) (c5.trans d5.symm) (c6.trans d6.symm);cases ha:a.Bool_ <;> cases hb:b.Bool_ <;> simp[ha,hb]at e ⊢
   · rw[hv2 _ kx,hv2 _ kx]at e;have:=gva e;refine fin ek (c1.trans d1.symm) (gqn ?_) (c2.trans d2.symm) (c3.trans d3.symm) (c4.trans d4.symm) (c5.trans d5.symm) (c6.trans d6.symm);have z1:0≤zig a.Int_:=by unfold zig;split <;> omega
     have z2:0≤zig b.Int_:=by unfold zig;split <;> omega
     omega
   · rw[hv3 _ kx,hv3 _ kx]at e;exact fin ek (c1.trans d1.symm) (c2.trans d2.symm) e (c3.trans d3.symm) (c4.trans d4.symm) (c5.trans d5.symm) (c6.trans d6.symm)
   · rw[hv4 _ kx,hv4 _ kx]at e;have:=gva e;refine fin ek (c1.trans d1.symm) (c2.trans d2.symm) (c3.trans d3.symm) ?_ (c4.trans d4.symm) (c5.trans d5.symm) (c6.trans d6.symm);have key:∀{v:SValue},((∃y,y∈x.Symbols∧y.ID=v.ID)∨x.Open=true∧false=false∧I1000 v.ID)→I1000 v.ID:=by
       rintro v (⟨y,hy,he⟩ | ⟨_,_,he⟩)
       · rw[←he];exact hS kx y hy
       · exact he
     have i1:=key c7;have i2:=key d7;unfold I1000 at i1 i2;omega
   · rw[hv5 _ kx,hv5 _ kx]at e;obtain⟨hma,hm16⟩:=hA (.inl kx);obtain⟨hil,hip⟩:=g7f.1 c7;obtain⟨hjl,hjp⟩:=g7f.1 d7;have ok:∀{l:List SValue} {r:List SRaw},(∀y,y∈l→∀t,(vpay ts t y).length < 18446744073709551616)→g72 x.Members r→(∀y,y∈r→y.Data.length≤reachBytes)→∀f,f∈g3a ts x.Members l r→FdOk f:=by
       intro l r hl hr hd f hf;refine⟨(gft hma hr hf).2,?_⟩;rcases List.mem_append.1 hf with h | h
       · exact gji hl f h
       · obtain⟨q,h2,rfl⟩:=List.mem_map.1 h;have:=hd q h2;show q.Data.length < _;unfold reachBytes at this;omega
     obtain⟨e1,e2⟩:=g151 hma c6 d6 hil hjl (ok lI c6 hrd) (ok kI d6 grd) (fun i hi=>IHI _ (g8 (by omega) _) _ (g8 (by omega) _) (hip i hi) (hjp i hi)) e;exact fin ek (c1.trans d1.symm) (c2.trans d2.symm) (c3.trans d3.symm) (c4.trans d4.symm) (c5.trans d5.symm) e1 e2
   · rw[hv6 _ kx,hv6 _ kx]at e;obtain⟨hma,hm16⟩:=hA (.inr kx)
     have key : ∀ {v : SValue}, (match findM x.Members v.ID with
         | some m=>v.Rest=[]∧v.Items.length=1∧vfits ts false m.Type_ v.Items
         | none=>x.Open=true∧false=false∧I1000 v.ID∧v.Items=[]∧∃d,v.Rest=[⟨v.ID,d⟩])→I1000 v.ID:=by
       intro v h;split at h
       · rename_i m hf;have h1:=List.mem_of_find?_eq_some hf;have h2:=List.find?_some hf;simp only[decide_eq_true_eq]at h2;rw[←h2];exact hma.2 m h1
       · exact h.2.2.1
     have i1:=key c5;have i2:=key d5;have j1:=i1;have j2:=i2;unfold I1000 at j1 j2;obtain⟨e1,e2⟩:=go3 (by omega) (by omega) e;have eid:a.ID=b.ID:=by omega
     rw[eid]at c5 e2;cases hf:findM x.Members b.ID with
     | some m=>
       simp only[hf]at c5 d5 e2;obtain⟨r1,r2,r3⟩:=c5;obtain⟨s1,s2,s3⟩:=d5;obtain⟨y,hy⟩:∃y,a.Items=[y]:=List.length_eq_one_iff.1 r2;obtain⟨z,hz⟩:∃y,b.Items=[y]:=List.length_eq_one_iff.1 s2;rw[hy,hz,vpays,vpays]at e2
       have:=IHI y (by rw[hy];exact .head _) z (by rw[hz];exact .head _) (g16.1 r3 y (by rw[hy];exact .head _)) (g16.1 s3 z (by rw[hz];exact .head _)) e2;exact fin ek (c1.trans d1.symm) (c2.trans d2.symm) (c3.trans d3.symm) eid (c4.trans d4.symm) (by rw[hy,hz,this]) (r1.trans s1.symm)
     | none=>
       simp only[hf]at c5 d5 e2;obtain⟨_,_,_,r1,d,r2⟩:=c5;obtain⟨_,_,_,s1,d',s2⟩:=d5;rw[r2,s2]at e2;have e2:d=d':=e2;exact fin ek (c1.trans d1.symm) (c2.trans d2.symm) (c3.trans d3.symm) eid (c4.trans d4.symm) (r1.trans s1.symm) (by rw[r2,s2,e2])
   · rw[hv7 _ kx,hv7 _ kx]at e;have hf:=g16.1 c8;have hg:=g16.1 d8;have e1:=gv8 (fun y hy=>by rw[ga6]at hy;obtain⟨z,hz,rfl⟩:=List.mem_map.1 hy;exact lI z hz _) (fun y hy=>by rw[ga6]at hy;obtain⟨z,hz,rfl⟩:=List.mem_map.1 hy;exact kI z hz _) e
     exact fin ek (c1.trans d1.symm) (c2.trans d2.symm) (c3.trans d3.symm) (c4.trans d4.symm) (c5.trans d5.symm) (ggn (fun y hy z hz=>IHI y hy z hz (hf y hy) (hg z hz)) e1) (c6.trans d6.symm)
   · rw[hv8 _ kx,hv8 _ kx]at e;have hf:=g16.1 c9;have hg:=g16.1 d9;have hfk:=g16.1 c8;have hgk:=g16.1 d8;have lp:∀{l:List SValue} {t:Int},(∀y,y∈l→∀t,(vpay ts t y).length < 18446744073709551616)→∀y,y∈vpays ts t l→y.length < 18446744073709551616:=fun hl y hy=>by rw[ga6]at hy;obtain⟨z,hz,rfl⟩:=List.mem_map.1 hy;exact hl z hz _
     obtain⟨e1,e2⟩:=gxp (lp lK) (lp lI) (lp kK) (lp kI) (by rw[g64,g64];omega) (by rw[g64,g64];omega) e;exact fin ek (c1.trans d1.symm) (c2.trans d2.symm) (c3.trans d3.symm) (c4.trans d4.symm) (ggn (fun y hy z hz=>IHK y hy z hz (hfk y hy) (hgk z hz)) e1) (ggn (fun y hy z hz=>IHI y hy z hz (hf y hy) (hg z hz)) e2) (c5.trans d5.symm)
   · rw[hv9 _ kx,hv9 _ kx]at e;have hf:=g16.1 c8;have hg:=g16.1 d8;refine fin ek (c1.trans d1.symm) (c2.trans d2.symm) (c3.trans d3.symm) (c4.trans d4.symm) (c5.trans d5.symm) ?_ (c6.trans d6.symm)
     match hI:a.Items,hJ:b.Items,c7,d7 with
     | [],[],_,_=>rfl
     | [],z::_,_,_=>rw[hI,hJ,vpays,vpays]at e;cases e
     | y::_,[],_,_=>rw[hI,hJ,vpays,vpays]at e;cases e
     | [y],[z],_,_=>
       rw[hI,hJ,vpays,vpays]at e;injection e with _ e;rw[IHI y (by rw[hI];exact .head _) z (by rw[hJ];exact .head _) (hf y (by rw[hI];exact .head _)) (hg z (by rw[hJ];exact .head _)) e]
     | _::_::_,_,h,_=>simp at h
     | [_],_::_::_,_,h=>simp at h
end
section
open Go Go.Proofs.YthnmepafpikaiaaGreat.Shv Go.Sort
set_option maxRecDepth 100000
theorem gwa(p:List UInt8) :p.length≤(g1s p).length:=by unfold g1s;rw[List.length_append];omega
theorem gc7{p:List UInt8} :∀{l:List (List UInt8)},p∈l→p.length≤(l.flatMap g1s).length
 | q::l,h=>by
   rw[List.flatMap_cons,List.length_append];rcases List.mem_cons.1 h with rfl | h
   · have:=gwa p;omega
   · have:=gc7 h;omega
theorem gna :∀{a b:List UInt8} {x y:UInt8},a.length=b.length→Op.bytesLess a b=true→Op.bytesLess (a++[x]) (b++[y])=true
 | [],[],_,_,_,h=>by simp[Op.bytesLess]at h
 | p::a,q::b,x,y,hl,h=>by
   simp only[List.cons_append,Op.bytesLess,Bool.or_eq_true,Bool.and_eq_true]at h ⊢;rcases h with h | ⟨h1,h2⟩
   · exact .inl h
   · exact .inr ⟨h1,gna (by simpa using hl) h2⟩
theorem gs6 :∀(a:List UInt8) {x y:UInt8},x < y→Op.bytesLess (a++[x]) (a++[y])=true
 | [],x,y,h=>by simp[Op.bytesLess,h]
 | p::a,x,y,h=>by simp[Op.bytesLess,gs6 a h]
theorem gjj{a b:List UInt8} :g6f a b=true↔a.length < b.length∨a.length=b.length∧Op.bytesLess a b=true:=by
 unfold g6f;by_cases h1:a.length < b.length
 · have:(a.length:Int) < (b.length:Int):=by omega
   simp[this,h1]
 · have h1':¬(a.length:Int) < (b.length:Int):=by omega
   by_cases h2:a.length=b.length
   · have:(a.length:Int)=(b.length:Int):=by omega
     simp[h2,this]
   · have:¬(a.length:Int)=(b.length:Int):=by omega
     simp only[h1',this,decide_false,cond_false,Bool.false_eq_true,false_iff];omega
theorem gs7 :∀(m n:Nat),n < m→g6f (vbig n) (vbig m)=true:=by
 intro m
 induction m using Nat.strongRecOn with
 | ind m ih=>
   intro n h;rw[gjj];have em:vbig m=vbig (m / 256)++[UInt8.ofNat (m % 256)]:=by rw[vbig,if_neg (by omega)]
   by_cases h0:n=0
   · subst h0;have:vbig 0=[]:=by rw[vbig,if_pos rfl]
     rw[this,em];left;simp
   · have en:vbig n=vbig (n / 256)++[UInt8.ofNat (n % 256)]:=by rw[vbig,if_neg h0]
     rw[em,en];simp only[List.length_append,List.length_cons,List.length_nil];by_cases hq:n / 256 < m / 256
     · rcases gjj.1 (ih (m / 256) (by omega) _ hq)with h1 | ⟨h1,h2⟩
       · left;omega
       · right;exact⟨by omega,gna h1 h2⟩
     · have:n / 256=m / 256:=by omega
       rw[this];right;refine⟨rfl,gs6 _ ?_⟩;rw[UInt8.lt_iff_toNat_lt,g3g (by omega),g3g (by omega)];omega
theorem cmpN(p q:Prop)[Decidable p][Decidable q](h:(if p then(-1:Int)else if q then 1 else 0) < 0) :p:=by
 by_cases hp:p
 · exact hp
 · rw[if_neg hp]at h;split at h <;> omega
theorem g12s {ts : List SType} {t : Int} {a b : SValue} (hk : 1 ≤ (ts.getD t.toNat dSType).Kind ∧ (ts.getD t.toNat dSType).Kind ≤ 4) (ha : OkV a) (hb : OkV b) (ka : a.Kind = (ts.getD t.toNat dSType).Kind) (kb : b.Kind = (ts.getD t.toNat dSType).Kind)
   (na:0≤a.ID∨a.Kind≠4) (nb:0≤b.ID∨b.Kind≠4) (h:vcmp a b < 0):g6f (vpay ts t a) (vpay ts t b)=true:=by
 cases ha with | mk _ _ _ _ _ _ _ _ _ n2 _ _=>
 cases hb with | mk _ _ _ _ _ _ _ _ _ m2 _ _=>
 have hv1:=fun v=>@vpay1 ts t v
 have hv2:=fun v=>@vpay2 ts t v
 have hv3:=fun v=>@vpay3 ts t v
 have hv4:=fun v=>@vpay4 ts t v
 generalize (ts.getD t.toNat dSType).Kind=k at*;unfold vcmp at h;rw[g67]at h;rw[if_neg (by simp[ka,kb])]at h;by_cases k1:k=1
 · rw[if_pos (by simp[ka,k1])]at h;rw[hv1 _ k1,hv1 _ k1];cases hA:a.Bool_ <;> cases hB:b.Bool_ <;> rw[hA,hB]at h <;> first | (exfalso;revert h;decide) | decide
 · rw[if_neg (by simp[ka,k1])]at h;by_cases k2:k=2
   · rw[if_pos (by simp[ka,k2]),glr n2,glr m2]at h;simp only[oZ4,oZ3,cmp1,Option.getD_some]at h;have h:=cmpN _ _ h;rw[hv2 _ k2,hv2 _ k2];have z1:0≤zig a.Int_:=by unfold zig;split <;> omega
     exact gs7 _ _ (by omega)
   · rw[if_neg (by simp[ka,k2])]at h;by_cases k3:k=3
     · rw[if_pos (by simp[ka,k3])]at h;simp only[oZ4,oZ3,cmp2,cmp3,or2,Option.getD_some]at h;rw[hv3 _ k3,hv3 _ k3,gjj];by_cases h1:a.Str.length < b.Str.length
       · exact .inl h1
       · by_cases h2:b.Str.length < a.Str.length
         · have i1:¬(a.Str.length:Int) < (b.Str.length:Int):=by omega
           have i2:(b.Str.length:Int) < (a.Str.length:Int):=by omega
           rw[if_neg i1,if_pos i2]at h;simp at h
         · have i1:¬(a.Str.length:Int) < (b.Str.length:Int):=by omega
           have i2:¬(b.Str.length:Int) < (a.Str.length:Int):=by omega
           rw[if_neg i1,if_neg i2]at h;simp only[ne_eq,not_true_eq_false,if_false]at h;refine .inr ⟨by omega,?_⟩;cases hl:Op.bytesLess a.Str b.Str with
           | true=>rfl
           | false=>
             rw[hl]at h;by_cases he:a.Str=b.Str <;> simp[he]at h
     · have k4:k=4:=by omega
       rw[if_neg (by simp[ka,k3]),if_pos (by simp[ka,k4])]at h;simp only[oZ4,oZ3,cmp2,Option.getD_some]at h;have h:=cmpN _ _ h;rw[hv4 _ k4,hv4 _ k4];have:=na.resolve_right (by simp[ka,k4]);have:=nb.resolve_right (by simp[kb,k4]);exact gs7 _ _ (by omega)
theorem gjk{ts:List SType} :∀{ms:List SMember} {l:List SValue} {x:Fd},x∈vents ts ms l→∃j,j < ms.length∧j < l.length∧om (ms.getD j dSMember) (l.getD j dSValue)=false∧x=⟨(ms.getD j dSMember).ID.toNat,(ms.getD j dSMember).Critical,vpay ts (ms.getD j dSMember).Type_ (l.getD j dSValue)⟩
 | [],l,x,h=>by
   rw[vents]at h
   · cases h
   · intros;simp_all
 | m::ms,[],x,h=>by
   rw[vents]at h
   · cases h
   · intros;simp_all
 | m::ms,v::l,x,h=>by
   rw[vents]at h;split at h
   · obtain⟨j,h1,h2,h3,h4⟩:=gjk h;exact⟨j+1,by simpa using h1,by simpa using h2,by simpa using h3,by simpa using h4⟩
   · rename_i ho;rcases List.mem_cons.1 h with rfl | h
     · exact⟨0,by simp,by simp,by simpa using ho,rfl⟩
     · obtain⟨j,h1,h2,h3,h4⟩:=gjk h;exact⟨j+1,by simpa using h1,by simpa using h2,by simpa using h3,by simpa using h4⟩
theorem g13v{ms:List SMember}(h:MAsc ms){a b:SMember}(ha:a∈ms)(hb:b∈ms)(e:a.ID=b.ID) :a=b:=by
 obtain⟨i,hi,rfl⟩:=List.getElem_of_mem ha;obtain⟨j,hj,rfl⟩:=List.getElem_of_mem hb;have key:=List.pairwise_iff_getElem.1 h.1;by_cases hij:i < j
 · have:=key i j hi hj hij;omega
 · by_cases hji:j < i
   · have:=key j i hj hi hji;omega
   · have:i=j:=by omega
     subst this;rfl
theorem gs8{ms:List SMember}{id:Int}{m:SMember}(h:findM ms id=some m) :m∈ms∧m.ID=id:=
 ⟨List.mem_of_find?_eq_some h,by simpa using List.find?_some h⟩
theorem gvc{ms:List SMember}(hm:MAsc ms){m:SMember}(h:m∈ms) :findM ms m.ID=some m:=by
 cases hf:findM ms m.ID with
 | none=>exact absurd rfl (gaj hf m h)
 | some q=>
   obtain⟨h1,h2⟩:=gs8 hf;rw[g13v hm h1 h h2]
theorem gc8{ts:List SType}{t:Int} :∀{l:List SValue} {x:SValue},x∈l→vlev ts t x≤vlevs ts t l
 | v::l,x,h=>by
   rw[vlevs];rcases List.mem_cons.1 h with rfl | h
   · omega
   · have:=gc8 (ts:=ts) (t:=t) h;omega
theorem gs9{ts:List SType} :∀{ms:List SMember} {l:List SValue} {j:Nat},j < ms.length→j < l.length→om (ms.getD j dSMember) (l.getD j dSValue)=false→vlev ts (ms.getD j dSMember).Type_ (l.getD j dSValue)≤vlevm ts ms l
 | m::ms,v::l,0,_,_,ho=>by
   simp only[List.getD_cons_zero]at ho ⊢;rw[vlevm,if_neg (by rw[ho];simp)];omega
 | m::ms,v::l,j+1,h1,h2,ho=>by
   simp only[List.getD_cons_succ]at ho ⊢;have:=gs9 (ts:=ts) (by simpa using h1) (by simpa using h2) ho;rw[vlevm];split
   · exact this
   · omega
theorem gly :∀{a b:List (List UInt8)} {i:Nat},a.length=b.length→i < a.length→(weave a b).getD (2*i) []=a.getD i []∧(weave a b).getD (2*i+1) []=b.getD i []
 | p::a,q::b,0,_,_=>by simp[weave]
 | p::a,q::b,i+1,hl,hi=>by
   have:=gly (a:=a) (b:=b) (i:=i) (by simpa using hl) (by simpa using hi);simp only[weave,List.getD_cons_succ,show 2*(i+1)=2*i+1+1 by omega];exact this
theorem gxq{l:List (List UInt8)}(h:(l.flatMap g1s).length≤90000) :vI (l.flatMap g1s)=some l:=by
 have hl:=gn7 l;have:=gv3 l [] (by omega) (by simp;omega);unfold vI;rw[g5e,this];rfl
theorem g13w{l:List Fd}(ha:l.Pairwise (fun a b=>a.id < b.id))(hr:∀f,f∈l→1≤f.id∧f.id≤1000)(h:(l.flatMap Fd.text).length≤90000) :vFl (l.flatMap Fd.text)=some (l.map fdS):=by
 have hl:=gn8 l;have hF:=gs0 l 0 [] ha (fun f h=>⟨by have:=hr f h;omega,(hr f h).2⟩) (by omega) (by simp;omega);have hF':g1o (0,l.flatMap Fd.text,[])=some (.inr (l.map fdS)):=by simpa using hF
 unfold vFl;rw[g69,hF'];rfl
theorem g12t{n:Nat}(h:1≤n∧n≤1000)(rest:List UInt8) :vA (vput n++rest)=some ((n:Int),rest):=by
 unfold vA;have hnx:=gcl (gi8 (n:=n) (by omega) rest) (by simp);rw[g78,hnx];simp only[oZ4,oZ3];have a:¬(n:Int) < 1:=by omega
 have b:¬(1000:Int) < (n:Int):=by omega
 rw[if_neg (by simp only[a,b,Bool.not_true,decide_false,cond_false,Bool.false_eq_true,not_false_eq_true]),wrp64 (by omega) (by omega)];simp
theorem ge8{ts:List SType}{t:Int}{l:List SValue}{i:Nat}(h:i < l.length) :(vpays ts t l).getD i []=vpay ts t (l.getD i dSValue):=by
 rw[ga6,g2k (vpay ts t) l i dSValue [] h]
theorem glz{a b c n r:Nat}(h:a=1+max n b)(hr:a≤r+1)(hc:c≤b) :c≤r:=by omega
theorem g152{a b c r:Nat}(h:a=1+max 1 b)(hr:a≤r+1)(hc:c=1) :c≤r:=by omega
theorem g13x{a b n:Nat}(h:n=a+b)(e:a=b) :n % 2=0∧n / 2=a:=by omega
theorem g153{i n a:Nat}(h:2*i+1 < n)(e:n / 2=a) :i < a:=by omega
theorem g13y {ts : List SType} {r : Nat} {x : SType} {Ks Is : List (List UInt8)} (hl : Ks.length = Is.length) (hm : (Ks.length : Int) ≤ x.Max) (hlen : ((weave Ks Is).flatMap g1s).length ≤ 90000)
   (hK:∀i,i < Ks.length→(Ks.getD i []).length≤90000→vcan ts r x.Key (Ks.getD i [])) (hI:∀i,i < Ks.length→(Is.getD i []).length≤90000→vcan ts r x.Elem (Is.getD i [])) (hS:∀i,i+1 < Ks.length→g6f (Ks.getD i []) (Ks.getD (i+1) [])=true):
   ∃l,vI ((weave Ks Is).flatMap g1s)=some l∧l.length % 2=0∧((l.length / 2:Nat):Int)≤x.Max∧∀i,2*i+1 < l.length→vcan ts r x.Key (l.getD (2*i) [])∧vcan ts r x.Elem (l.getD (2*i+1) [])∧(0 < i→g6f (l.getD (2*i - 2) []) (l.getD (2*i) [])=true):=by
 obtain⟨e1,e2⟩:=g13x (gs2 Ks Is hl) hl;refine⟨_,gxq hlen,e1,by rw[e2];exact hm,fun i hi=>?_⟩;have hik:=g153 hi e2;obtain⟨w1,w2⟩:=gly (i:=i) hl hik;have l1:=Nat.le_trans (gc7 (g8 (Nat.lt_of_succ_lt hi) [])) hlen;have l2:=Nat.le_trans (gc7 (g8 hi [])) hlen;rw[w1]at l1;rw[w2]at l2;rw[w1,w2];refine⟨hK i hik l1,hI i hik l2,fun h0=>?_⟩
 obtain⟨k,rfl⟩:∃k,i=k+1:=⟨i - 1,by clear hlen l1 l2 w1 w2;omega⟩
 obtain⟨w3,_⟩:=gly (i:=k) hl (Nat.lt_of_succ_lt hik);rw[show 2*(k+1) - 2=2*k from rfl,w3];exact hS k hik
set_option maxHeartbeats 1000000 in
theorem gzl{ts:List SType}(H:DrOk ts){v:SValue}(hv:OkV v) :∀{t:Int} {r:Nat},wt v≤1099511627776→(vpay ts t v).length≤90000→vfit ts false t v→vlev ts t v≤r→vcan ts r t (vpay ts t v):=by
 have hS:=H.V.sok H.T
 induction hv with
 | mk v hs h1 h2 h3 hk hi hrd n1 n2 n3 n4 ihk ihi=>
   intro t r hw hlen hf hr;have hwt:=wt_eq v;have hOk:OkV v:= .mk v hs h1 h2 h3 hk hi hrd n1 n2 n3 n4;have hlp:=gb8 (ts:=ts) t v;obtain⟨r,rfl⟩:∃q,r=q+1:=⟨r - 1,by omega⟩
   obtain⟨⟨g1,g2,g3,_⟩,hf⟩:=(g6u _ _ _).1 hf;obtain⟨j,rfl⟩:∃j:Nat,t=(j:Int):=⟨t.toNat,by omega⟩
   have hj:j < ts.length:=by omega
   have hxm:=g8 hj dSType;have hlev:=gm4 (ts:=ts) (j:Int) v;have hv1:=@vpay1 ts (j:Int) v;have hv2:=@vpay2 ts (j:Int) v;have hv3:=@vpay3 ts (j:Int) v;have hv4:=@vpay4 ts (j:Int) v;have hv5:=@vpay5 ts (j:Int) v;have hv6:=@vpay6 ts (j:Int) v;have hv7:=@vpay7 ts (j:Int) v;have hv8:=@vpay8 ts (j:Int) v;have hv9:=@vpay9 ts (j:Int) v
   simp only[g7]at hf g3 hlev hv1 hv2 hv3 hv4 hv5 hv6 hv7 hv8 hv9;have hA:=hS.A _ hxm;have hKy:=hS.Ky _ hxm;have hSy:=hS.S _ hxm;have hDf:=H.D _ hxm;have hW:=H.W _ hxm;have hT:=H.T _ hxm;obtain⟨c1,c2,c3,c4,c5,c6,c7,c8,c9⟩:=g12q (ts:=ts) (r:=r) (j:=j) (p:=vpay ts (j:Int) v) rfl;generalize ts.getD j dSType=x at*
   have IHI:∀{t:Int} x,x∈v.Items→(vpay ts t x).length≤90000→vfit ts false t x→vlev ts t x≤r→vcan ts r t (vpay ts t x):=fun x hx a b c=>ihi x hx (by have:=g2o hx;omega) a b c
   have IHK:∀{t:Int} x,x∈v.Keys→(vpay ts t x).length≤90000→vfit ts false t x→vlev ts t x≤r→vcan ts r t (vpay ts t x):=fun x hx a b c=>ihk x hx (by have:=g2o hx;omega) a b c
   rcases hf with⟨k,d1,d2,d3,d4,d5,d6⟩ | ⟨k,d1,d2,d3,d4,d5,d6,d7,d8⟩ | ⟨k,d1,d2,d3,d4,d5,d6,d7⟩ | ⟨k,d1,d2,d3,d4,d5,d6,d7⟩ | ⟨k,d1,d2,d3,d4,d5,d6,d7⟩ | ⟨k,d1,d2,d3,d4,d5⟩ | ⟨k,d1,d2,d3,d4,d5,d6,d7,d8⟩ | ⟨k,d1,d2,d3,d4,d5,d6,d7,d8,d9,d10⟩ | ⟨k,d1,d2,d3,d4,d5,d6,d7,d8⟩ <;> rw[k]at g3 <;> have kx:=g3.symm
   · rw[c1 kx,hv1 kx];cases v.Bool_
     · exact .inl rfl
     · exact .inr rfl
   · rw[c2 kx,hv2 kx];have hz:=gpw n2;exact⟨_,gvb hz,by rw[gxi n2];exact d7,by rw[gxi n2];exact d8⟩
   · rw[c3 kx,hv3 kx];exact d7
   · rw[c4 kx,hv4 kx];have hid:I1000 v.ID:=by
       rcases d7 with⟨y,hy,he⟩ | ⟨_,_,he⟩
       · rw[←he];exact hSy kx y hy
       · exact he
     unfold I1000 at hid;refine⟨_,gvb (by omega),by omega,?_⟩;rcases d7 with⟨y,hy,he⟩ | ⟨he,_⟩
     · exact .inl ⟨y,hy,by omega⟩
     · exact .inr he
   · rw[c5 kx];rw[hv5 kx]at hlen ⊢;obtain⟨hma,_⟩:=hA (.inl kx);obtain⟨hil,hip⟩:=g7f.1 d7;rw[if_pos kx,if_pos d5]at hlev;have hasc:=g13p (gb4 (ts:=ts) (l:=v.Items) hma d6) (g12i hma d6);have hrg:∀f,f∈isoB ltF (g3a ts x.Members v.Items v.Rest)→1≤f.id∧f.id≤1000:=fun f h=>gft hma d6 ((g66 ltF _).mem_iff.1 h)
     have hin:∀f,f∈isoB ltF (g3a ts x.Members v.Items v.Rest)↔f∈g3a ts x.Members v.Items v.Rest:=fun f=>(g66 ltF _).mem_iff
     generalize isoB ltF (g3a ts x.Members v.Items v.Rest)=l at*;refine⟨_,g13w hasc hrg hlen,fun f hf=>?_,fun m hm hd=>?_⟩
     · obtain⟨g,hg,rfl⟩:=List.mem_map.1 hf;have hgl:=gs3 hg;rcases List.mem_append.1 ((hin g).1 hg)with h | h
       · obtain⟨i,i1,i2,i3,rfl⟩:=gjk h;have hmi:=g8 i1 dSMember;have hvi:=g8 i2 dSValue;have hid:=hma.2 _ hmi;have eid:(((x.Members.getD i dSMember).ID.toNat:Nat):Int)=(x.Members.getD i dSMember).ID:=by unfold I1000 at hid;omega
         have hlv:=gs9 (ts:=ts) i1 i2 i3;refine⟨fun hn=>?_,fun m hm=>?_⟩
         · have hn:findM x.Members (((x.Members.getD i dSMember).ID.toNat:Nat):Int)=none:=hn;rw[eid,gvc hma hmi]at hn;cases hn
         · have hm:findM x.Members (((x.Members.getD i dSMember).ID.toNat:Nat):Int)=some m:=hm;rw[eid,gvc hma hmi]at hm;cases hm;have hvr:vlev ts (x.Members.getD i dSMember).Type_ (v.Items.getD i dSValue)≤r:=by
             exact glz hlev hr hlv
           have h5:=IHI (t:=(x.Members.getD i dSMember).Type_) _ hvi (Nat.le_trans hgl hlen) (hip i i1) hvr;refine⟨rfl,h5,fun hd he=>?_⟩;have he:vpay ts (x.Members.getD i dSMember).Type_ (v.Items.getD i dSValue)=vpay ts (x.Members.getD i dSMember).Type_ (x.Members.getD i dSMember).Default:=he
           have:=g13u hS (hi _ hvi) (hT.dv _ hmi) (by have:=g2o hvi;omega) (by have:=hW _ hmi hd;omega) (hip i i1) (gnz (hDf _ hmi hd) false) he;unfold om at i3;rw[hd,this]at i3;simp at i3
       · obtain⟨q,h2,rfl⟩:=List.mem_map.1 h;obtain⟨q1,q2⟩:=d6.2 q h2;have eid:((q.ID.toNat:Nat):Int)=q.ID:=by unfold I1000 at q1;omega
         refine⟨fun _=>rfl,fun m hm=>?_⟩;have hm:findM x.Members ((q.ID.toNat:Nat):Int)=some m:=hm;rw[eid,q2]at hm;cases hm
     · obtain⟨i,hi',he⟩:=List.getElem_of_mem hm;have em:x.Members.getD i dSMember=m:=by rw[List.getD_eq_getElem?_getD,List.getElem?_eq_getElem hi',he];rfl
       have hid:=hma.2 _ hm;have hfo:=gax (ts:=ts) (l:=v.Items) (n:=m.ID.toNat) (gib hma) hil hi' (by rw[em]);rw[em,if_neg (by unfold om;simp[hd])]at hfo;have hmem:(⟨m.ID.toNat,m.Critical,vpay ts m.Type_ (v.Items.getD i dSValue)⟩:Fd)∈vents ts x.Members v.Items:=by
         have:(⟨m.ID.toNat,m.Critical,vpay ts m.Type_ (v.Items.getD i dSValue)⟩:Fd)∈(vents ts x.Members v.Items).filter fun x=>decide (x.id=m.ID.toNat):=by rw[hfo];exact .head _
         exact(List.mem_filter.1 this).1
       refine⟨fdS _,List.mem_map_of_mem ((hin _).2 (List.mem_append_left _ hmem)),?_⟩;show((m.ID.toNat:Nat):Int)=m.ID;unfold I1000 at hid;omega
   · rw[c6 kx];rw[hv6 kx]at hlen ⊢;obtain⟨hma,_⟩:=hA (.inr kx);rw[if_neg (show ¬x.Kind=5 by rw[kx];decide),if_pos kx,if_pos d4]at hlev;cases hfm:findM x.Members v.ID with
     | some m=>
       simp only[hfm]at d5 hlen hlev ⊢;obtain⟨e1,e2,e3⟩:=d5;obtain⟨f1,f2⟩:=gs8 hfm;have hid:=hma.2 _ f1;rw[f2]at hid;unfold I1000 at hid;have eid:((v.ID.toNat:Nat):Int)=v.ID:=by omega
       obtain⟨y,hy⟩:∃y,v.Items=[y]:=List.length_eq_one_iff.1 e2;have hym:y∈v.Items:=by rw[hy];exact .head _
       have hlv:=gc8 (ts:=ts) (t:=m.Type_) hym;rw[hy,vpays]at hlen ⊢;rw[List.length_append]at hlen;refine⟨_,_,g12t (by omega) _,fun hn=>?_,fun q hq=>?_⟩
       · rw[eid,hfm]at hn;cases hn
       · rw[eid,hfm]at hq;cases hq;exact IHI y hym (by show(vpay ts m.Type_ y).length≤_;have hlen:(vput v.ID.toNat).length+(vpay ts m.Type_ y).length≤90000:=hlen;omega) (g16.1 e3 y hym) (glz hlev hr hlv)
     | none=>
       simp only[hfm]at d5 ⊢;obtain⟨e1,_,e3,e4,d,e5⟩:=d5;unfold I1000 at e3;have eid:((v.ID.toNat:Nat):Int)=v.ID:=by omega
       refine⟨_,_,g12t (by omega) _,fun _=>e1,fun q hq=>?_⟩;rw[eid,hfm]at hq;cases hq
   · rw[c7 kx];rw[hv7 kx]at hlen ⊢;rw[if_neg (show ¬x.Kind=5 by rw[kx];decide),if_neg (show ¬x.Kind=6 by rw[kx];decide),if_pos d5]at hlev;refine⟨_,gxq hlen,by rw[g64];exact d7,fun q hq=>?_⟩;have hql:=gc7 hq;rw[ga6]at hq;obtain⟨y,hy,rfl⟩:=List.mem_map.1 hq;have:=gc8 (ts:=ts) (t:=x.Elem) hy
     exact IHI y hy (Nat.le_trans hql hlen) (g16.1 d8 y hy) (glz hlev hr this)
   · rw[c8 kx];rw[hv8 kx,gs1]at hlen ⊢;have hll:(vpays ts x.Key v.Keys).length=(vpays ts x.Elem v.Items).length:=by rw[g64,g64];exact d7.symm
     have hkl:=g64 (ts:=ts) (l:=v.Keys) (t:=x.Key);rw[if_neg (show ¬x.Kind=5 by rw[kx];decide),if_neg (show ¬x.Kind=6 by rw[kx];decide)]at hlev;obtain⟨ky1,ky2⟩:=hKy kx;have hfk:=g16.1 d8;have leaf:∀y,y∈v.Keys→vlev ts x.Key y=1∧y.Kind=(ts.getD x.Key.toNat dSType).Kind∧(0≤y.ID∨y.Kind≠4):=fun y hy=>by
       obtain⟨⟨b1,b2,b3,_⟩,b⟩:=(g6u _ _ _).1 (hfk y hy);refine⟨by apply glv <;> grind,b3,?_⟩;have hS4:=hS.S _ (g8 (show x.Key.toNat < ts.length by clear hlen;omega) dSType);by_cases k4:y.Kind=4
       · left;have hb:(∃z,z∈(ts.getD x.Key.toNat dSType).Symbols∧z.ID=y.ID)∨(ts.getD x.Key.toNat dSType).Open=true∧false=false∧I1000 y.ID:=by grind
         rcases hb with⟨z,hz,he⟩ | ⟨_,_,he⟩
         · have:=hS4 (b3.symm.trans k4) z hz;unfold I1000 at this;clear hlen;omega
         · unfold I1000 at he;clear hlen;omega
       · exact .inr k4
     refine g13y hll (by rw[hkl];exact d6) hlen (fun i hi' hl=>?_) (fun i hi' hl=>?_) (fun i hi'=>?_)
     · have hik:i < v.Keys.length:=hkl▸hi';have hym:=g8 hik dSValue;rw[ge8 hik]at hl ⊢;obtain⟨q1,_⟩:=leaf _ hym;have hne:v.Keys≠[]:=by intro h;rw[h]at hik;cases hik
       rw[if_neg hne]at hlev;exact IHK _ hym hl (hfk _ hym) (g152 hlev hr q1)
     · have hik:i < v.Items.length:=by rw[d7];exact hkl▸hi'
       have him:=g8 hik dSValue;rw[ge8 hik]at hl ⊢;have hlv:=gc8 (ts:=ts) (t:=x.Elem) him;exact IHI _ him hl (g16.1 d9 _ him) (glz hlev hr hlv)
     · have hik:i+1 < v.Keys.length:=hkl▸hi';have hik2:i < v.Keys.length:=Nat.lt_of_succ_lt hik;rw[ge8 hik,ge8 hik2];have hym:=g8 hik dSValue;have hym2:=g8 hik2 dSValue;obtain⟨_,p1,p2⟩:=leaf _ hym2;obtain⟨_,p3,p4⟩:=leaf _ hym;exact g12s ⟨ky1,ky2⟩ (hk _ hym2) (hk _ hym) p1 p3 p2 p4 (d10 i hik)
   · rw[c9 kx];rw[hv9 kx]at hlen ⊢;rw[if_neg (show ¬x.Kind=5 by rw[kx];decide),if_neg (show ¬x.Kind=6 by rw[kx];decide),if_pos d5]at hlev
     match hI:v.Items with
     | []=>rw[vpays];exact .inl rfl
     | y::l=>
       have hym:y∈v.Items:=by rw[hI];exact .head _
       rw[hI,vpays]at hlen;rw[vpays];have:=gc8 (ts:=ts) (t:=x.Elem) hym;refine .inr ⟨_,rfl,IHI y hym ?_ (g16.1 d8 y hym) (glz hlev hr this)⟩;have hlen:(vpay ts x.Elem y).length+1≤90000:=hlen;omega
end
section
open Go Go.Proofs.YthnmepafpikaiaaGreat.Shv Go.Sort
set_option maxRecDepth 100000
def FitW(ts:List SType)(t:Int)(v:SValue) :Prop:=vfit ts false t v∧OkV v∧wt v≤2147483648
theorem gsp{ts:List SType}(H:DrOk ts){t:Int}{v:SValue}(hv:FitW ts t v)(h1:¬4096 < (vpay ts t v).length)(h2:¬200 < vlev ts t v) :g7p ((⟨ts⟩:SSchema),t,vpay ts t v)=some true:=by
 obtain⟨b,b1,_,b3⟩:=gqq H t (vpay ts t v);obtain⟨⟨g1,g2,_⟩,_⟩:=(g6u _ _ _).1 hv.1;have hw:=hv.2.2;rw[b1,b3.2 ⟨g1,g2,Nat.le_of_not_lt h1,gzl H hv.2.1 (by omega) (by omega) hv.1 (Nat.le_of_not_lt h2)⟩]
theorem gzm {ts : List SType} (H : DrOk ts) {t : Int} {v : SValue} (hv : FitW ts t v) :
   g9i ((⟨ts⟩:SSchema),t,v)=some (encA ts t v)∧g6s ((⟨ts⟩:SSchema),t,v)=some (encA ts t v)∧gau ((⟨ts⟩:SSchema),t,v)=some (((vpay ts t v).length:Int),0):=by
 obtain⟨e1,e2⟩:=gzj H.T H.V hv.2.1 hv.1;have hw:=hv.2.2;obtain⟨a1,a2,a3,_⟩:=g129 (s:=⟨ts⟩) (H.V.sok H.T) hv.2.1 (by omega) hv.1 e1 e2;exact⟨a1,a2,a3⟩
theorem gvd{ts:List SType}(H:DrOk ts){t:Int}{l:List SValue}(hl:∀v,v∈l→FitW ts t v)(hn:l.length≤1000) :∀(k i:Nat),i+k=l.length→g1u (t,(l.length:Int),(i:Int),ts,l)=some (.inr ())
 | 0,i,hi=>by
   rw[g1u,if_neg (by simp;omega)]
 | k+1,i,hi=>by
   have hlt:i < l.length:=by omega
   have hv:=hl _ (g8 hlt dSValue);have hc:=gsp H hv;obtain⟨a1,a2,a3⟩:=gzm H hv;rw[g1u,if_pos (by simp;omega),if_pos (g6 hlt),if_pos (by simp;omega)];simp only[g7,SValue.gr];rw[a1,a2,a3];simp only[oZ4,oZ3];have next:g1u (t,(l.length:Int),addI .i64 (i:Int) 1,ts,l)=some (.inr ()):=by
     rw[ge (by omega)];exact gvd H hl hn k (i+1) (by omega)
   unfold encA;by_cases hbig:4096 < (vpay ts t (l.getD i dSValue)).length∨200 < vlev ts t (l.getD i dSValue)
   · rw[if_pos hbig];generalize (vpay ts t (l.getD i dSValue)).length=n;simp[next]
   · rw[if_neg hbig];have hc:=hc (fun h=>hbig (.inl h)) (fun h=>hbig (.inr h));generalize vpay ts t (l.getD i dSValue)=p at hc ⊢;simp[next,hc]
theorem gwb{d:Sheaveref08Draft}(hd:DrIn d) :g5x d=some true:=by
 rw[g5x];rcases of8 hd with⟨s,t,v,w,h⟩ | ⟨ts,t,v,w,h,H,ht,⟨hv1,hv2,hv3⟩,hw⟩
 · rw[h,gba];rfl
 · rw[h,gba];simp only[oZ4,oZ3,SValue.gr];rw[if_neg (by simp)]
   have hm:=gvd H (l:=[v,w]) (fun x hx=>by
     rcases List.mem_cons.1 hx with rfl | hx
     · exact⟨gnz hv1 false,hv2,hv3⟩
     · rcases List.mem_cons.1 hx with rfl | hx
       · exact hw
       · cases hx) (by simp) 2 0 (by simp)
   have hm':g1u (t,2,0,ts,[v,w])=some (.inr ()):=hm;rw[hm'];rfl
theorem law_EncodeMessage(h:Hs Un.D [.nm ixSheaveref08Draft])(hk:Ok Un [.nm ixSheaveref08Draft] h) :g5x h=some true:=gwb (g13q (okOne hk))
end
end Go.Proofs.YthnmepafpikaiaaGreat
