/- The functions of the program as functions of Lean, that its code does what they say, and what they answer; part C. -/
import Derived.Test.YtijpinendaoleaaGreatRtB

namespace Go.Proofs.YtijpinendaoleaaGreat
set_option linter.all false
section
open Go Go.Proofs.YtijpinendaoleaaGreat.Shv Go.Sort
set_option maxRecDepth 100000
abbrev Nd :=bE
abbrev dNd :=cf
abbrev dPt :=lr
theorem nz{a:Int}(h:¬a=0):(!(decide (a=0)))=true:=by simp[h]
theorem cA{x m:Int}(h:0<=x)(hm:0<=m):remI x m=x % m:=by unfold remI;rw[Int.tmod_eq_emod_of_nonneg h]
theorem NU{x:Int}(h:0<=x)(h2:x<=255):quoI .u8 x 4=x / 4:=by
 unfold quoI;rw[Int.tdiv_eq_ediv_of_nonneg h,IntKind.wrap_u8];omega
theorem fX{x:Int}(h:I64 x):wrp .i64 x=x:=by
 unfold wrp I64 at*;rw[IntKind.wrap_i64];omega
theorem BV{k:Int}(h:0<=k/\k<=25):ei (wrp .i32 (addI .i64 97 k))=[UInt8.ofNat (97+k.toNat)]:=by
 have key:∀k:Nat,k < 26->ei (wrp .i32 (addI .i64 97 (k:Int)))=[UInt8.ofNat (97+k)]:=by decide+kernel
 grind
theorem NV{k:Int}(h:0<=k/\k<=25):ei (wrp .i32 (addI .i64 65 k))=[UInt8.ofNat (65+k.toNat)]:=by
 have key:∀k:Nat,k < 26->ei (wrp .i32 (addI .i64 65 (k:Int)))=[UInt8.ofNat (65+k)]:=by decide+kernel
 grind
theorem w4{s:List UInt8}(h0:s≠[])(hl:s.length<=24)(h:∀i:Nat,i < s.length->dB (aY s i)=true):nm s=true:=by
 have key:∀k i:Nat,i+k=s.length->cT (s,(s.length:Int),(i:Int))=some (.inr ()):=by
  intro k
  induction k with
  | zero=>intro i hi;rw[cT,if_neg (by simp;omega)]
  | succ k ih=>
   intro i hi;rw[cT,if_pos (by simp;omega),if_pos (au (by omega)),o0,h i (by omega)];simp only[oZ4,oZ3,Bool.not_true];rw[if_pos (by rw[au (by omega)];rfl),aA (by omega)];exact ih (i+1) (by omega)
 have hpos:0 < s.length:=List.length_pos_iff.2 h0;have h00:=h 0 hpos;have hin:inR 0 s.length=true:=au (k:=0) hpos;have ht:(bif decide (s=[])then true else decide (24 < (s.length:Int)))=false:=by grind
 have hk:cT (s,(s.length:Int),0)=some (.inr ()):=key s.length 0 (by omega);have h00':dB (aY s 0)=true:=h00;unfold nm;rw[cH];simp only[oZ4,oZ3];rw[ht,hin,o0,h00']
 grind
theorem NW{c:Nat}(h:65<=c/\c<=90\/97<=c/\c<=122):nm [UInt8.ofNat c]=true:=by
 refine w4 (by simp) (by simp) fun i hi=>?_
 have:i=0:=by simp at hi;omega
 subst this;have e:aY [UInt8.ofNat c] ((0:Nat):Int)=(c:Int):=by
  rw[dV];simp only[List.getD_cons_zero];rw[cu (by omega)]
 rw[e];unfold dB;simp;omega
theorem BW{b c:Nat}(hb:97<=b/\b<=122)(h:97<=c/\c<=122):nm [UInt8.ofNat b,UInt8.ofNat c]=true:=by
 refine w4 (by simp) (by simp) fun i hi=>?_
 have:i=0\/i=1:=by simp at hi;omega
 rcases this with rfl | rfl
 . rw[dV];simp only[List.getD_cons_zero];rw[cu (by omega)];unfold dB;simp;omega
 . rw[dV];simp only[List.getD_cons_succ,List.getD_cons_zero];rw[cu (by omega)];unfold dB;simp;omega
def U8(x:Int):Prop:=0<=x/\x<=255
structure NOk (x:Nd):Prop where
 k:U8 x.Kind
 a:U8 x.A
 b:U8 x.B
 c:U8 x.C
 p:∀q,q∈x.Parts->U8 q.ID/\U8 q.Type_/\U8 q.Flag
 l:x.Parts.length<=reachBytes
def kd(ns:List Nd)(i:Int):Int:=1+(ns.getD i.toNat dNd).Kind % 9
section
variable {ns:List Nd} (hN:∀x,x∈ns->NOk x) (h5:ns.length<=5)
include hN h5 in
theorem kd_eq{i:Int}(h0:0<=i)(h1:i < ns.length):gv ((⟨ns⟩:aU),i)=some (kd ns i)/\1<=kd ns i/\kd ns i<=9:=by
 obtain⟨j,rfl⟩:∃j:Nat,i=(j:Int):=⟨i.toNat,by omega⟩
 have hx:=(hN _ (aB (by omega:j < ns.length) dNd)).k;unfold kd;rw[aw];obtain⟨a,b⟩:=hx;refine⟨?_,by omega,by omega⟩;rw[gv,if_pos (au (by omega:j < ns.length)),aw,cA a (by omega),fX ⟨by omega,by omega⟩,gV (by omega) (by omega)]
def Tgt(ns:List Nd)(i u:Int):Prop:=0<=u/\u < ns.length/\(7<=kd ns u\/u < i)
include hN h5 in
theorem xY :∀(k i:Nat),i+k=ns.length->dO ((ns.length:Int),(i:Int),ns)=some (.inr ())\/∃u:Int,dO ((ns.length:Int),(i:Int),ns)=some (.inl u)/\0<=u/\u < ns.length/\7<=kd ns u
 | 0,i,hi=>.inl (by rw[dO,if_neg (by simp;omega)])
 | k+1,i,hi=>by
  obtain⟨e,_,_⟩:=kd_eq hN h5 (i:=(i:Int)) (by omega) (by omega);rw[dO,if_pos (by simp;omega),e];simp only[oZ4,oZ3,lf];by_cases h7:7<=kd ns i
  . grind
  . rw[if_neg (by simpa using h7),aA (by omega)];exact xY k (i+1) (by omega)
include hN h5 in
theorem IP(h1:1<=ns.length){i code:Int}(hi:0<=i/\i < ns.length)(hc:U8 code):∃u,lg ((⟨ns⟩:aU),i,code)=some u/\(u < 0\/Tgt ns i u):=by
 have hm:wrp .i64 code=code:=fX ⟨by unfold U8 at hc;omega,by unfold U8 at hc;omega⟩;obtain⟨c1,c2⟩:=hc;have hr0:0<=code % (ns.length:Int):=Int.emod_nonneg _ (by omega);have hr1:code % (ns.length:Int) < ns.length:=Int.emod_lt_of_pos _ (by omega);rw[lg];simp only[oZ4,oZ3];rw[if_pos (nz (by omega)),hm,cA c1 (by omega)]
 obtain⟨e,_,_⟩:=kd_eq hN h5 hr0 hr1;rw[e];simp only[oZ3,lf];by_cases h7:7<=kd ns (code % (ns.length:Int))
 . rw[if_pos (by simp[h7])];exact⟨_,rfl,.inr ⟨hr0,hr1,.inl h7⟩⟩
 . by_cases hlt:code % (ns.length:Int) < i
   . rw[if_pos (by simp[hlt])];exact⟨_,rfl,.inr ⟨hr0,hr1,.inr hlt⟩⟩
   . rw[if_neg (by simp[h7,hlt])];by_cases hp:0 < i
     . rw[if_pos (by simpa using hp),if_pos (by simp;omega),cA hr0 (by omega)];have a0:0<=code % (ns.length:Int) % i:=Int.emod_nonneg _ (by omega);have a1:code % (ns.length:Int) % i < i:=Int.emod_lt_of_pos _ (by omega);exact⟨_,rfl,.inr ⟨a0,by omega,.inr a1⟩⟩
     . rw[if_neg (by simpa using hp)];have h0:=xY hN h5 ns.length 0 (by omega);have e0:dO ((ns.length:Int),((0:Nat):Int),ns)=dO ((ns.length:Int),0,ns):=rfl;rw[e0]at h0;rcases h0 with h | ⟨u,h,a,b,c⟩
       . grind
       . rw[h];exact⟨u,rfl,.inr ⟨a,b,.inl c⟩⟩
def KeyT(ns:List Nd)(u:Int):Prop:=0<=u/\u < ns.length/\1<=kd ns u/\kd ns u<=4
include hN h5 in
theorem BX{code:Int}(hc:U8 code)(h1:1<=ns.length):∀(k i:Nat),i+k=ns.length->(dQ (code,(ns.length:Int),(i:Int),ns)=some (.inr ())/\∀m:Nat,i<=m->m < ns.length->¬KeyT ns ((code+m) % (ns.length:Int)))\/∃u:Int,dQ (code,(ns.length:Int),(i:Int),ns)=some (.inl u)/\KeyT ns u
 | 0,i,hi=>.inl ⟨by rw[dQ,if_neg (by simp;omega)],fun m a b=>by omega⟩
 | k+1,i,hi=>by
  obtain⟨c1,c2⟩:=hc;have hr0:0<=(code+i) % (ns.length:Int):=Int.emod_nonneg _ (by omega);have hr1:(code+i) % (ns.length:Int) < ns.length:=Int.emod_lt_of_pos _ (by omega);obtain⟨e,e1,e9⟩:=kd_eq hN h5 hr0 hr1;rw[dQ,if_pos (by simp;omega),if_pos (nz (by omega)),fX ⟨by omega,by omega⟩,gV (by omega) (by omega),cA (by omega) (by omega)]
  simp only[oZ4,oZ3];rw[e];simp only[oZ3,kX];by_cases h4:kd ns ((code+i) % (ns.length:Int))<=4
  . rw[if_pos (by simp[e1,h4])];exact .inr ⟨_,rfl,hr0,hr1,e1,h4⟩
  . rw[if_neg (by simp[h4]),aA (by omega)];rcases BX ⟨c1,c2⟩ h1 k (i+1) (by omega)with⟨a,b⟩ | h
    . refine .inl ⟨a,fun m hm1 hm2=>?_⟩;by_cases hm:m=i
      . subst hm;rintro ⟨_,_,_,h⟩;exact h4 h
      grind
    grind
include hN h5 in
theorem BY{code:Int}(hc:U8 code)(h1:1<=ns.length):∃u,iv ((⟨ns⟩:aU),code)=some u/\((u= -1/\∀w,¬KeyT ns w)\/KeyT ns u):=by
 rw[iv];have h0:=BX hN h5 hc h1 ns.length 0 (by omega);have e0:dQ (code,(ns.length:Int),((0:Nat):Int),ns)=dQ (code,(ns.length:Int),0,ns):=rfl;rw[e0]at h0;rcases h0 with⟨h,a⟩ | ⟨u,h,a⟩
 . rw[h];refine⟨-1,rfl,.inl ⟨rfl,fun w hw=>?_⟩⟩;have hw':=hw;obtain⟨w0,w1,_⟩:=hw';have hr0:0<=(w - code) % (ns.length:Int):=Int.emod_nonneg _ (by omega);have hr1:(w - code) % (ns.length:Int) < ns.length:=Int.emod_lt_of_pos _ (by omega);refine a ((w - code) % (ns.length:Int)).toNat (by omega) (by omega) ?_
   have e:(code+(((w - code) % (ns.length:Int)).toNat:Int)) % (ns.length:Int)=w:=by
    rw[Int.toNat_of_nonneg hr0,Int.add_emod_emod];have:code+(w - code)=w:=by omega
    rw[this];exact Int.emod_eq_of_lt w0 w1
   grind
 grind
theorem tm{x:Nd}(h:NOk x):fp x=some (x.A % 7 - 3):=by
 have:=h.a;unfold U8 at this;rw[fp,cA this.1 (by omega),fX ⟨by omega,by omega⟩,bP (by omega) (by omega)]
theorem Ah{x:Nd}(h:NOk x):io x=some (x.A % 7 - 3+x.B % 6):=by
 have ha:=h.a;have hb:=h.b;unfold U8 at ha hb;rw[io,tm h];simp only[oZ4,oZ3];rw[cA hb.1 (by omega),fX ⟨by omega,by omega⟩,gV (by omega) (by omega)]
def IdsOk(l:List Int)(n:Int):Prop:=l.Pairwise (· < ·)/\∀x,x∈l->1<=x/\x<=n
theorem tn{x:Nd}:∀(k i:Nat) (acc:List Int),i+k=6->IdsOk acc i->acc.length<=i->∃l,fg ((i:Int),x,acc)=some l/\IdsOk l 6/\l.length<=6
 | 0,i,acc,hi,ha,hl=>⟨acc,by rw[fg,if_neg (by simp;omega)],⟨ha.1,fun y hy=>by have:=ha.2 y hy;omega⟩,by omega⟩
 | k+1,i,acc,hi,ha,hl=>by
  have hacc:IdsOk acc ((i+1:Nat):Int):=⟨ha.1,fun y hy=>by have:=ha.2 y hy;omega⟩
  rw[fg,if_pos (by simp;omega),if_pos (by simp)];simp only[oZ4,oZ3];rw[aA (by omega)];split
  . rw[if_pos (bk (by omega) (by simp;omega))];refine tn k (i+1) _ (by omega) ⟨?_,fun y hy=>?_⟩ (by simp;omega)
    . rw[List.pairwise_append];refine⟨ha.1,by simp,fun a h1 b h2=>?_⟩;have:=ha.2 a h1
      grind
    . rcases List.mem_append.1 hy with h | h
      . have:=ha.2 y h;omega
      grind
  . exact tn k (i+1) acc (by omega) hacc (by omega)
theorem NX(x:Nd):∃l,dR x=some l/\IdsOk l 6/\1<=l.length/\l.length<=6:=by
 obtain⟨l,h1,h2,h3⟩:=tn (x:=x) 6 0 [] (by omega) ⟨.nil,fun y hy=>by cases hy⟩ (by simp);have h1':fg (0,x,[])=some l:=h1;rw[dR,h1'];simp only[oZ4,oZ3];cases l with
 | nil=>
  rw[if_pos (by simp),if_pos (bk (by omega) (by simp))];exact⟨_,rfl,⟨by simp,fun y hy=>by simp at hy;omega⟩,by simp,by simp⟩
 | cons a l=>grind
def idsL(x:Nd):List Int:=(dR x).getD []
theorem ids_eq'(x:Nd):dR x=some (idsL x)/\IdsOk (idsL x) 6/\1<=(idsL x).length/\(idsL x).length<=6:=by
 obtain⟨l,h1,h2⟩:=NX x;unfold idsL
 grind
def InitP(k:Int)(x:Nd)(key:Prop)(v:ab):Prop:=
 v.Keys=[]/\v.Items=[]/\v.Rest=[]/\
 (k=1/\v.Kind=1/\v.Int_=0/\v.Str=[]/\v.ID=0\/
  k=2/\v.Kind=2/\v.Bool_=false/\v.Str=[]/\v.ID=0/\x.A % 7 - 3<=v.Int_/\v.Int_<=x.A % 7 - 3+x.B % 6\/
  k=3/\v.Kind=3/\v.Bool_=false/\v.Int_=0/\v.ID=0/\(v.Str.length:Int)<=x.A % 4\/
  k=4/\v.Kind=4/\v.Bool_=false/\v.Int_=0/\v.Str=[]/\v.ID∈idsL x\/
  7<=k/\v.Bool_=false/\v.Int_=0/\v.Str=[]/\v.ID=0/\(v.Kind=k/\(k=8->key)\/k=8/\v.Kind=7/\¬key))
def Init(ns:List Nd)(t:Int)(v:ab):Prop:=InitP (kd ns t) (ns.getD t.toNat dNd) (∃w,KeyT ns w) v
include hN h5 in
theorem HS(h1:1<=ns.length){t code:Int}(ht:0<=t/\t < ns.length)(hc:U8 code):∃r,kY ((⟨ns⟩:aU),t,code)=some r/\(r.2=false->r.1=ag)/\(r.2=true->Init ns t r.1):=by
 obtain⟨j,rfl⟩:∃j:Nat,t=(j:Int):=⟨t.toNat,by omega⟩
 have hj:j < ns.length:=by omega
 have hx:=hN _ (aB hj dNd);obtain⟨e,k1,k9⟩:=kd_eq hN h5 ht.1 ht.2;obtain⟨u,hu,hu2⟩:=BY hN h5 (code:=0) ⟨by omega,by omega⟩ h1;obtain⟨c1,c2⟩:=hc;rw[kY,if_pos (au hj)];simp only[oZ4,oZ3,aw];rw[e];simp only[oZ3];unfold Init;simp only[aw];have hids:=ids_eq' (ns.getD j dNd);generalize kd ns (j:Int)=k at*
 generalize ns.getD j dNd=x at*;have ha:=hx.a;have hb:=hx.b;unfold U8 at ha hb;have hc9:k=1\/k=2\/k=3\/k=4\/k=5\/k=6\/k=7\/k=8\/k=9:=by omega
 rcases hc9 with rfl | rfl | rfl | rfl | rfl | rfl | rfl | rfl | rfl
 . exact⟨_,rfl,fun h=>(by cases h),fun _=>by unfold InitP;simp⟩
 . have el:=tm hx;have eh:=Ah hx;have e1:addI .i64 (subI .i64 (x.A % 7 - 3+x.B % 6) (x.A % 7 - 3)) 1=x.B % 6+1:=by rw[bP (by omega) (by omega),gV (by omega) (by omega)];omega
   have e2:remI (wrp .i64 code) (x.B % 6+1)=code % (x.B % 6+1):=by rw[fX ⟨by omega,by omega⟩,cA c1 (by omega)]
   have r0:0<=code % (x.B % 6+1):=Int.emod_nonneg _ (by omega);have r1:code % (x.B % 6+1) < x.B % 6+1:=Int.emod_lt_of_pos _ (by omega);have e3:addI .i64 (x.A % 7 - 3) (code % (x.B % 6+1))=x.A % 7 - 3+code % (x.B % 6+1):=gV (by omega) (by omega)
   simp only[Int.reduceEq,decide_false,decide_true,Bool.false_eq_true,if_false,if_true,oZ3,cond_false,cond_true];rw[el];simp only[oZ4,oZ3];rw[eh];simp only[oZ3];rw[e1,if_pos (by simp;omega),e2,e3];exact⟨_,rfl,fun h=>(by cases h),fun _=>by unfold InitP;simp;omega⟩
 . simp only[Int.reduceEq,decide_false,decide_true,Bool.false_eq_true,if_false,if_true,oZ3,cond_false,cond_true];rw[cA ha.1 (by omega),cA c1 (by omega)];by_cases g:0 < x.A % 4
   . by_cases g2:code % 2=1
     . rw[if_pos (by simp[g,g2])];exact⟨_,rfl,fun h=>(by cases h),fun _=>by unfold InitP;simp;omega⟩
     . rw[if_neg (by simp[g2])];exact⟨_,rfl,fun h=>(by cases h),fun _=>by unfold InitP;simp;omega⟩
   . rw[if_neg (by simp[g])];exact⟨_,rfl,fun h=>(by cases h),fun _=>by unfold InitP;simp;omega⟩
 . obtain⟨i1,i2,i3,i4⟩:=hids;simp only[Int.reduceEq,decide_false,decide_true,Bool.false_eq_true,if_false,if_true,oZ3,cond_false,cond_true];rw[i1];simp only[oZ4,oZ3];have r0:0<=code % ((idsL x).length:Int):=Int.emod_nonneg _ (by omega)
   have r1:code % ((idsL x).length:Int) < ((idsL x).length:Int):=Int.emod_lt_of_pos _ (by omega);rw[if_pos (nz (by omega)),fX ⟨by omega,by omega⟩,cA c1 (by omega)];obtain⟨q,hq⟩:∃q:Nat,code % ((idsL x).length:Int)=(q:Int):=⟨(code % ((idsL x).length:Int)).toNat,by omega⟩
   rw[hq,if_pos (au (by omega)),aw];exact⟨_,rfl,fun h=>(by cases h),fun _=>by unfold InitP;simp;rw[<-List.getD_eq_getElem?_getD];exact aB (by omega) 0⟩
 . exact⟨_,rfl,fun _=>rfl,fun h=>by cases h⟩
 . exact⟨_,rfl,fun _=>rfl,fun h=>by cases h⟩
 . exact⟨_,rfl,fun h=>(by cases h),fun _=>by unfold InitP;simp⟩
 . simp only[Int.reduceEq,decide_false,decide_true,Bool.false_eq_true,if_false,if_true,oZ3,cond_false,cond_true];rw[hu];rcases hu2 with⟨rfl,a⟩ | a
   . exact⟨_,rfl,fun h=>(by cases h),fun _=>by unfold InitP;simp;exact fun w hw=>a w hw⟩
   . have hge:¬u < 0:=by have:=a.1;omega
     simp only[oZ4,oZ3];rw[if_neg (by simp[hge])];exact⟨_,rfl,fun h=>(by cases h),fun _=>by unfold InitP;simp;exact⟨u,a⟩⟩
 . exact⟨_,rfl,fun h=>(by cases h),fun _=>by unfold InitP;simp⟩
end
section
variable {ns:List Nd} (hN:∀x,x∈ns->NOk x) (h5:ns.length<=5)
structure MemP (ns:List Nd) (i:Int) (record:Bool) (m:aj):Prop where
 id:1<=m.ID/\m.ID<=12
 name:m.Name=[UInt8.ofNat 109,UInt8.ofNat (97+m.ID.toNat)]
 tgt:Tgt ns i m.Type_
 crit:m.Critical=true->m.HasDefault=false
 un:record=false->m.Critical=false/\m.HasDefault=false
 nod:m.HasDefault=false->m.Default=ag
 dfl:m.HasDefault=true->Init ns m.Type_ m.Default
include hN h5 in
theorem y8 (h1 : 1 <= ns.length) {i : Int} (hi : 0 <= i /\ i < ns.length) {x : Nd} (hx : NOk x) (record : Bool) {id : Int} (hid : 1 <= id /\ id <= 12) {acc : List aj} (ha : acc.length <= 12):
 ∀(k j:Nat),j+k=x.Parts.length->∃l,gf (i,record,id,(j:Int),ns,x,acc)=some (i,record,id,ns,x,acc++l)/\l.length<=1/\∀m,m∈l->m.ID=id/\MemP ns i record m
 | 0,j,hj=>⟨[],by rw[gf,if_neg (by simp;omega)];simp,by simp,fun m hm=>by cases hm⟩
 | k+1,j,hj=>by
  have hlt:j < x.Parts.length:=by omega
  have hr:=aT hx.l;obtain⟨q1,q2,q3⟩:=hx.p _ (aB hlt dPt);obtain⟨u,hu,hu2⟩:=IP hN h5 h1 hi q2;rw[gf,if_pos (by simp;omega),if_pos (au hlt)];simp only[oZ4,oZ3,aw];have hu':lg ((⟨ns⟩:aU),i,(x.Parts.getD j lr).Type_)=some u:=hu;rw[hu'];simp only[oZ3];generalize hp:x.Parts.getD j lr=p
  have q1':U8 p.ID:=by rw[<-hp];exact q1
  have q3':U8 p.Flag:=by rw[<-hp];exact q3
  obtain⟨f1,f2⟩:=q3';have e1:remI p.Flag 4=p.Flag % 4:=cA f1 (by omega);have e2:quoI .u8 p.Flag 4=p.Flag / 4:=NU f1 f2;have rec':=y8 h1 hi hx record hid ha k (j+1) (by omega);by_cases hskip:(bif (!(decide (addI .i64 1 (wrp .i64 (remI p.ID 12))=id)))then true else decide (u < 0))=true
  . rw[if_pos hskip,aA (by omega)];exact rec'
  . rw[if_neg hskip];have hu0:Tgt ns i u:=by grind
    have hrune:=BV (k:=id) ⟨by omega,by omega⟩;rw[hrune];have hname:([109]++[UInt8.ofNat (97+id.toNat)]:List UInt8)=[UInt8.ofNat 109,UInt8.ofNat (97+id.toNat)]:=rfl;rw[if_pos (bR (by simp)),hname,e1,e2];obtain⟨r,r1,r2,r3⟩:=HS hN h5 h1 ⟨hu0.1,hu0.2.1⟩ (code:=p.Flag / 4) ⟨by omega,by omega⟩
    have hroom:∀m:aj,room 160 (acc++[m]).length=true:=fun m=>bk (by omega) (by simp;omega)
    have done:∀m:aj,m.ID=id->MemP ns i record m->∃l,(some (i,record,id,ns,x,acc++[m]):Option (Int×Bool×Int×List Nd×Nd×List aj))=some (i,record,id,ns,x,acc++l)/\l.length<=1/\∀m,m∈l->m.ID=id/\MemP ns i record m:=fun m a b=>⟨[m],rfl,by simp,fun y hy=>by grind⟩
    cases record with
    | false=>
     simp only[cond_false,Bool.false_eq_true,if_false];rw[if_pos (hroom _)];exact done _ rfl ⟨hid,rfl,hu0,fun h=>(by cases h),fun _=>⟨rfl,rfl⟩,fun _=>rfl,fun h=>by cases h⟩
    | true=>
     simp only[cond_true];by_cases g1:p.Flag % 4=1
     . rw[if_pos (by simpa using g1),if_neg (by simp;omega),if_pos (hroom _)];exact done _ rfl ⟨hid,rfl,hu0,fun _=>rfl,fun h=>(by cases h),fun _=>rfl,fun h=>by cases h⟩
     . rw[if_neg (by simpa using g1)];by_cases g2:2<=p.Flag % 4
       . rw[if_pos (by simpa using g2),r1];simp only[oZ3,ab.aD];rw[if_pos (hroom _)];exact done _ rfl ⟨hid,rfl,hu0,fun h=>(by cases h),fun h=>(by cases h),r2,r3⟩
       . rw[if_neg (by simpa using g2),if_pos (hroom _)];exact done _ rfl ⟨hid,rfl,hu0,fun h=>(by cases h),fun h=>(by cases h),fun _=>rfl,fun h=>by cases h⟩
def MemsP(ns:List Nd)(i:Int)(record:Bool)(l:List aj):Prop:=l.Pairwise (fun a b=>a.ID < b.ID)/\(∀m,m∈l->MemP ns i record m)/\l.length<=12
include hN h5 in
theorem y9 (h1 : 1 <= ns.length) {i : Int} (hi : 0 <= i /\ i < ns.length) {x : Nd} (hx : NOk x) (record : Bool): ∀ (k id : Nat) (acc : List aj), id + k = 13 -> 1 <= id ->
 acc.Pairwise (fun a b=>a.ID < b.ID)->(∀m,m∈acc->MemP ns i record m/\m.ID < id)->acc.length < id->∃l,gj (i,record,(id:Int),ns,x,acc)=some l/\MemsP ns i record l
 | 0,id,acc,hk,h0,ha,hb,hl=>⟨acc,by rw[gj,if_neg (by simp;omega)],ha,fun m hm=>(hb m hm).1,by omega⟩
 | k+1,id,acc,hk,h0,ha,hb,hl=>by
  rw[gj,if_pos (by simp;omega)];obtain⟨l,l1,l2,l3⟩:=y8 hN h5 h1 hi hx record (id:=(id:Int)) ⟨by omega,by omega⟩ (acc:=acc) (by omega) x.Parts.length 0 (by omega);have l1':gf (i,record,(id:Int),0,ns,x,acc)=_:=l1;rw[l1'];simp only[oZ4,oZ3];rw[aA (by omega)]
  refine y9 h1 hi hx record k (id+1) _ (by omega) (by omega) ?_ (fun m hm=>?_) (by simp;omega)
  . rw[List.pairwise_append];refine⟨ha,?_,fun a h2 b h3=>?_⟩
    . match l,l2 with
      | [],_=>exact .nil
      | [a],_=>simp
      | a::b::c,h=>simp at h
    grind
  grind
include hN h5 in
theorem za(h1:1<=ns.length){i:Int}(hi:0<=i/\i < ns.length)(record:Bool):∃l,il ((⟨ns⟩:aU),i,record)=some l/\MemsP ns i record l:=by
 obtain⟨j,rfl⟩:∃j:Nat,i=(j:Int):=⟨i.toNat,by omega⟩
 have hj:j < ns.length:=by omega
 have hx:=hN _ (aB hj dNd);obtain⟨l,l1,l2⟩:=y9 hN h5 h1 hi hx record 12 1 [] (by omega) (by omega) .nil (fun m hm=>by cases hm) (by simp);refine⟨l,?_,l2⟩;have l1':gj ((j:Int),record,1,ns,ns.getD j dNd,[])=some l:=l1;rw[il,if_pos (au hj),aw]
 grind
def symsL(l:List Int):List aC:=l.map fun j=>⟨j,[UInt8.ofNat 115,UInt8.ofNat (97+j.toNat)]⟩
theorem Ai {l : List Int} (hl : l.length <= 6) (hr : ∀ x, x ∈ l -> 1 <= x /\ x <= 6) (n i : Int) (b : List Nd) (b1 : Int) (b2 : List UInt8) (b3 b4 b5 b6 b7 : Int) (b8 : Bool) (b9 : List ae): ∀ (k j : Nat) (acc : List aC), j + k = l.length -> acc.length <= j ->
 fc (n,i,l,(j:Int),b,b1,b2,b3,b4,b5,b6,b7,b8,b9,acc)=some (n,i,b,b1,b2,b3,b4,b5,b6,b7,b8,b9,acc++symsL (l.drop j))
 | 0,j,acc,hj,ha=>by
  rw[fc,if_neg (by simp;omega),List.drop_eq_nil_of_le (by omega:l.length<=j)];simp[symsL]
 | k+1,j,acc,hj,ha=>by
  have hlt:j < l.length:=by omega
  have hx:=hr _ (aB hlt 0);rw[fc,if_pos (by simp;omega),if_pos (au hlt),if_pos (au hlt)];simp only[oZ4,oZ3,aw];rw[BV ⟨by omega,by omega⟩,if_pos (bR (by simp)),if_pos (bk (by omega) (by simp;omega)),aA (by omega),Ai hl hr n i b b1 b2 b3 b4 b5 b6 b7 b8 b9 k (j+1) _ (by omega) (by simp;omega),br hlt 0];simp[symsL]
def TyP(ns:List Nd)(i:Int)(t:ae):Prop:=
 let x:=ns.getD i.toNat dNd
 let n:=(ns.length:Int)
 let nameL:=[UInt8.ofNat (65+i.toNat)]
 (kd ns i=1/\t=⟨1,[],0,0,0,[],[],0,0,false⟩)\/
 (kd ns i=2/\t=⟨2,[],x.A % 7 - 3,x.A % 7 - 3+x.B % 6,0,[],[],0,0,false⟩)\/
 (kd ns i=3/\t=⟨3,[],0,0,x.A % 4,[],[],0,0,false⟩)\/
 (kd ns i=4/\∃o,t=⟨4,nameL,0,0,0,symsL (idsL x),[],0,0,o⟩)\/
 (kd ns i=5/\∃l,MemsP ns i true l/\t=⟨5,nameL,0,0,0,[],l,0,0,false⟩)\/
 (kd ns i=6/\t=⟨5,nameL,0,0,0,[],[],0,0,false⟩)\/
 (kd ns i=6/\∃l o,MemsP ns i false l/\0 < l.length/\t=⟨6,nameL,0,0,0,[],l,0,0,o⟩)\/
 (kd ns i=7/\t=⟨7,[],0,0,x.A % 4,[],[],0,x.C % n,false⟩)\/
 (kd ns i=8/\(∀w,¬KeyT ns w)/\t=⟨7,[],0,0,x.A % 4,[],[],0,x.C % n,false⟩)\/
 (kd ns i=8/\∃k,KeyT ns k/\t=⟨8,[],0,0,x.A % 4,[],[],k,x.C % n,false⟩)\/
 (kd ns i=9/\t=⟨9,[],0,0,0,[],[],0,x.C % n,false⟩)
include hN h5 in
theorem of_l0 (h1 : 1 <= ns.length): ∀ (k i : Nat) (acc : List ae), i + k = ns.length -> acc.length = i -> (∀ j, j < i -> TyP ns (j : Int) (acc.getD j af)) ->
 ∃l,bh ((ns.length:Int),(i:Int),ns,acc)=some l/\l.length=ns.length/\∀j,j < ns.length->TyP ns (j:Int) (l.getD j af)
 | 0,i,acc,hi,hl,ha=>⟨acc,by rw[bh,if_neg (by simp;omega)],by omega,fun j hj=>ha j (by omega)⟩
 | k+1,i,acc,hi,hl,ha=>by
  have hlt:i < ns.length:=by omega
  have hx:=hN _ (aB hlt dNd);obtain⟨e,k1,k9⟩:=kd_eq hN h5 (i:=(i:Int)) (by omega) (by omega);have next:∀t:ae,TyP ns (i:Int) t->∃l,(if room 120 (acc++[t]).length=true then bh ((ns.length:Int),addI .i64 (i:Int) 1,ns,acc++[t])else none)=some l/\l.length=ns.length/\∀j,j < ns.length->TyP ns (j:Int) (l.getD j af):=by
   intro t ht;rw[if_pos (bk (by omega) (by simp;omega)),aA (by omega)];refine of_l0 h1 k (i+1) _ (by omega) (by simp;omega) fun j hj=>?_
   grind
  rw[bh,if_pos (by simp;omega),if_pos (au hlt)];simp only[oZ4,oZ3,aw];rw[e];simp only[oZ3,ct];have hrune:=NV (k:=(i:Int)) ⟨by omega,by omega⟩;have hT:∀t,TyP ns (i:Int) t->TyP ns (i:Int) t:=fun t h=>h
  have⟨ga,gb,gc⟩:U8 (ns.getD i dNd).A/\U8 (ns.getD i dNd).B/\U8 (ns.getD i dNd).C:=⟨hx.a,hx.b,hx.c⟩
  have g0:(!(decide ((ns.length:Int)=0)))=true:=nz (by omega);have gA:wrp .i64 (remI (ns.getD i dNd).A 4)=(ns.getD i dNd).A % 4:=by
   unfold U8 at ga;rw[cA ga.1 (by omega),fX ⟨by omega,by omega⟩]
  have gC:remI (wrp .i64 (ns.getD i dNd).C) (ns.length:Int)=(ns.getD i dNd).C % (ns.length:Int):=by
   unfold U8 at gc;rw[fX ⟨by omega,by omega⟩,cA gc.1 (by omega)]
  have hc9:kd ns (i:Int)=1\/kd ns (i:Int)=2\/kd ns (i:Int)=3\/kd ns (i:Int)=4\/kd ns (i:Int)=5\/kd ns (i:Int)=6\/kd ns (i:Int)=7\/kd ns (i:Int)=8\/kd ns (i:Int)=9:=by omega
  rcases hc9 with hk | hk | hk | hk | hk | hk | hk | hk | hk <;> rw[hk] <;>
   simp only[Int.reduceEq,decide_false,decide_true,Bool.false_eq_true,if_false,if_true,oZ3,cond_false,cond_true]
  . exact next _ (by unfold TyP;simp[hk])
  . have el:=tm hx;have eh:=Ah hx;have el':fp (ns.getD i cf)=_:=el;have eh':io (ns.getD i cf)=_:=eh;rw[el'];simp only[oZ3];rw[eh'];simp only[oZ3];exact next _ (by unfold TyP;simp only[aw];exact .inr (.inl ⟨hk,by first | trivial | rfl⟩))
  . have gA':wrp .i64 (remI (ns.getD i cf).A 4)=_:=gA;rw[gA'];exact next _ (by unfold TyP;simp only[aw];exact .inr (.inr (.inl ⟨hk,by first | trivial | rfl⟩)))
  . obtain⟨i1,i2,i3,i4⟩:=ids_eq' (ns.getD i dNd);have i1':dR (ns.getD i cf)=_:=i1;rw[i1'];simp only[oZ3];have hs:=Ai (l:=idsL (ns.getD i dNd)) i4 i2.2 (ns.length:Int) (i:Int) ns 4 (ei (wrp .i32 (addI .i64 65 (i:Int)))) 0 0 0 0 0 (decide (remI (ns.getD i dNd).B 2=1)) acc (idsL (ns.getD i dNd)).length 0 [] (by omega) (by simp)
    have hs':fc ((ns.length:Int),(i:Int),idsL (ns.getD i dNd),0,ns,4,ei (wrp .i32 (addI .i64 65 (i:Int))),0,0,0,0,0,decide (remI (ns.getD i cf).B 2=1),acc,[])=_:=hs;rw[hs'];simp only[oZ3,List.drop_zero,List.nil_append];rw[hrune];exact next _ (by unfold TyP;simp only[aw];exact .inr (.inr (.inr (.inl ⟨hk,_,rfl⟩))))
  . obtain⟨l,l1,l2⟩:=za hN h5 h1 (i:=(i:Int)) ⟨by omega,by omega⟩ true;rw[l1];simp only[oZ3];rw[hrune];exact next _ (by unfold TyP;simp only[aw];exact .inr (.inr (.inr (.inr (.inl ⟨hk,l,l2,rfl⟩)))))
  . obtain⟨l,l1,l2⟩:=za hN h5 h1 (i:=(i:Int)) ⟨by omega,by omega⟩ false;rw[l1];simp only[oZ3];rw[hrune];by_cases h0:l.length=0
    . rw[if_pos (by simp[h0])];exact next _ (by unfold TyP;simp only[aw];exact .inr (.inr (.inr (.inr (.inr (.inl ⟨hk,by first | trivial | rfl⟩))))))
    . rw[if_neg (by simp;intro h;rw[h]at h0;simp at h0)];exact next _ (by unfold TyP;simp only[aw];exact .inr (.inr (.inr (.inr (.inr (.inr (.inl ⟨hk,l,_,l2,by omega,rfl⟩)))))))
  . have gA':wrp .i64 (remI (ns.getD i cf).A 4)=_:=gA;have gC':remI (wrp .i64 (ns.getD i cf).C) (ns.length:Int)=_:=gC;rw[if_pos g0,gA',gC'];exact next _ (by unfold TyP;simp only[aw];exact .inr (.inr (.inr (.inr (.inr (.inr (.inr (.inl ⟨hk,by first | trivial | rfl⟩))))))))
  . have gA':wrp .i64 (remI (ns.getD i cf).A 4)=_:=gA;have gC':remI (wrp .i64 (ns.getD i cf).C) (ns.length:Int)=_:=gC;obtain⟨u,u1,u2⟩:=BY hN h5 gb h1;have u1':iv ((⟨ns⟩:aU),(ns.getD i cf).B)=some u:=u1;rw[u1'];simp only[oZ3];rw[if_pos g0,gA',gC'];rcases u2 with⟨rfl,a⟩ | a
    . rw[if_pos (by simp)];exact next _ (by unfold TyP;simp only[aw];exact .inr (.inr (.inr (.inr (.inr (.inr (.inr (.inr (.inl ⟨hk,a,by first | trivial | rfl⟩)))))))))
    . rw[if_neg (by have:=a.1;simp;omega)];exact next _ (by unfold TyP;simp only[aw];exact .inr (.inr (.inr (.inr (.inr (.inr (.inr (.inr (.inr (.inl ⟨hk,u,a,rfl⟩))))))))))
  . have gC':remI (wrp .i64 (ns.getD i cf).C) (ns.length:Int)=_:=gC;rw[if_pos g0,gC'];exact next _ (by unfold TyP;simp only[aw];exact .inr (.inr (.inr (.inr (.inr (.inr (.inr (.inr (.inr (.inr ⟨hk,by first | trivial | rfl⟩))))))))))
end
def DOk(d:aU):Prop:=d.Nodes.length<=reachBytes/\∀x,x∈d.Nodes->NOk x
theorem of_eq{d:aU}(hd:DOk d):iz d=some (⟨[]⟩,false)\/∃l,iz d=some (⟨l⟩,true)/\1<=d.Nodes.length/\d.Nodes.length<=5/\l.length=d.Nodes.length/\∀j,j < d.Nodes.length->TyP d.Nodes (j:Int) (l.getD j af):=by
 rw[iz];simp only[oZ4,oZ3];by_cases h:1<=d.Nodes.length/\d.Nodes.length<=5
 . obtain⟨l,l1,l2,l3⟩:=of_l0 hd.2 h.2 h.1 d.Nodes.length 0 [] (by omega) rfl (fun j hj=>by omega)
   grind
 grind
structure DrOk (ts:List ae):Prop where
 n1:1<=ts.length
 n5:ts.length<=5
 T:∀t,t∈ts->OkT t
 V:VOk ts
 D:∀t,t∈ts->NS ts t.Members
 R:∀i:Nat,i < ts.length->∀m,m∈(ts.getD i af).Members->0<=m.Type_/\m.Type_ < ts.length/\(7<=(ts.getD m.Type_.toNat af).Kind\/m.Type_ < i)
 L:∀t,t∈ts->t.Kind=2->-3<=t.Low/\t.High<=8
 M:∀t,t∈ts->t.Max<=3
 I:∀t,t∈ts->(∀m,m∈t.Members->m.ID<=12)/\(∀y,y∈t.Symbols->y.ID<=6)/\t.Members.length<=12
 W:∀t,t∈ts->∀m,m∈t.Members->m.HasDefault=true->wt m.Default<=13
theorem zb{v:ab}(hk:v.Keys=[])(hi:v.Items=[])(hr:v.Rest=[])(hs:v.Str.length<=1000)(n1:I64 v.Kind)(n2:I64 v.Int_)(n3:I64 v.ID):OkV v:=by
 refine .mk v (by unfold reachBytes;omega) (by rw[hk];simp) (by rw[hi];simp) (by rw[hr];simp) (fun x hx=>?_) (fun x hx=>?_) (fun x hx=>?_) n1 n2 n3 (fun x hx=>?_)
 . grind
 . grind
 . grind
 grind
theorem okV_d :OkV ag:=zb rfl rfl rfl (by simp[ag]) (by unfold I64 ag;simp) (by unfold I64 ag;simp) (by unfold I64 ag;simp)
theorem LB{v:ab}(hk:v.Keys=[])(hi:v.Items=[])(hr:v.Rest=[]):wt v=10+v.Str.length:=by
 rw[wt_eq,hk,hi,hr,fO];simp
section
variable {ns:List Nd} (hN:∀x,x∈ns->NOk x) (h5:ns.length<=5) (h1:1<=ns.length) {l:List ae} (hl:l.length=ns.length) (hT:∀j,j < ns.length->TyP ns (j:Int) (l.getD j af))
include hN h5 in
theorem Aj{t:Int}(ht:0<=t/\t < ns.length){v:ab}(h:Init ns t v):OkV v/\wt v<=13:=by
 obtain⟨a,b,c,h⟩:=h;obtain⟨j,rfl⟩:∃j:Nat,t=(j:Int):=⟨t.toNat,by omega⟩
 have hx:=hN _ (aB (by omega:j < ns.length) dNd);obtain⟨_,k1,k9⟩:=kd_eq hN h5 ht.1 ht.2;rw[aw]at h;have ha:=hx.a;have hb:=hx.b;have hids:=(ids_eq' (ns.getD j dNd)).2.1.2;unfold U8 at ha hb;rw[LB a b c];have hs:v.Str.length<=3:=by grind
 refine⟨zb a b c (by omega) ?_ ?_ ?_,by omega⟩
 . unfold I64;rcases h with h | h | h | h | h <;> omega
 . unfold I64;rcases h with⟨_,_,e,_⟩ | ⟨_,_,_,_,_,e⟩ | ⟨_,_,_,e,_⟩ | ⟨_,_,_,e,_⟩ | ⟨_,_,e,_⟩ <;> omega
 . unfold I64
   grind
include hN h5 in
theorem w5{i:Int}{r:Bool}{Ms:List aj}(h:MemsP ns i r Ms):fW (!r) Ms\/(r=false/\Ms=[]):=by
 obtain⟨a,b,c⟩:=h;by_cases h0:r=false/\Ms=[]
 . grind
 left;refine⟨fun m hm=>?_,?_,⟨a,fun m hm=>?_⟩,fun m hm=>?_,?_,by omega⟩
 . have q:=b m hm;unfold badM;have hz:m.HasDefault=false->fU m.Default=true:=fun h=>by
    rw[q.nod h];have h3:Says (di (ag,ag)) ag ag:=oI okV_d ag;obtain⟨w,w1,w2⟩:=h3;unfold fU
    grind
   have hc:=q.crit;have hu:=q.un
   grind
 . grind
 . have:=(b m hm).id;exact⟨by omega,by omega⟩
 . have q:=b m hm;have:=q.id;rw[q.name];exact BW (by omega) (by omega)
 . unfold List.Nodup;rw[List.pairwise_map];refine a.imp_of_mem fun {x y} hx hy hlt=>?_
   have qx:=b x hx;have qy:=b y hy;have ix:=qx.id;have iy:=qy.id;rw[qx.name,qy.name];intro e;simp only[List.cons.injEq,and_true,true_and]at e;have e2:=congrArg UInt8.toNat e;rw[cu (by omega),cu (by omega)]at e2;omega
theorem w6{l:List Int}(h:IdsOk l 6)(h1:1<=l.length)(h6:l.length<=6):nl (symsL l)/\(∀y,y∈symsL l->y.ID<=6):=by
 unfold symsL;refine⟨⟨by simp;omega,⟨?_,fun y hy=>?_⟩,fun y hy=>?_,?_,by simp;omega⟩,fun y hy=>?_⟩
 . rw[List.pairwise_map];exact h.1
 . obtain⟨x,hx,rfl⟩:=List.mem_map.1 hy;have:=h.2 x hx;exact⟨this.1,by show x<=1000;omega⟩
 . obtain⟨x,hx,rfl⟩:=List.mem_map.1 hy;have:=h.2 x hx;exact BW (by omega) (by omega)
 . unfold List.Nodup;rw[List.pairwise_map,List.pairwise_map];refine h.1.imp_of_mem fun {x y} hx hy hlt=>?_
   have ix:=h.2 x hx;have iy:=h.2 y hy;intro e;simp only[List.cons.injEq,and_true,true_and]at e;have e2:=congrArg UInt8.toNat e;rw[cu (by omega),cu (by omega)]at e2;omega
 . obtain⟨x,hx,rfl⟩:=List.mem_map.1 hy;exact(h.2 x hx).2
theorem Ak{i:Int}{t:ae}(h:TyP ns i t):(kd ns i<=5\/kd ns i=7\/kd ns i=9->t.Kind=kd ns i)/\(kd ns i=6->t.Kind=5\/t.Kind=6)/\(kd ns i=8->(t.Kind=8/\∃w,KeyT ns w)\/(t.Kind=7/\¬∃w,KeyT ns w)):=by
 unfold TyP at h;rcases h with⟨k,rfl⟩ | ⟨k,rfl⟩ | ⟨k,rfl⟩ | ⟨k,_,rfl⟩ | ⟨k,_,_,rfl⟩ | ⟨k,rfl⟩ | ⟨k,_,_,_,_,rfl⟩ | ⟨k,rfl⟩ | ⟨k,a,rfl⟩ | ⟨k,w,a,rfl⟩ | ⟨k,rfl⟩ <;> simp[k]
 . omega
 grind
theorem rP{i:Int}{t:ae}(h:TyP ns i t):t.Members=[]\/∃r,MemsP ns i r t.Members:=by
 unfold TyP at h;rcases h with⟨k,rfl⟩ | ⟨k,rfl⟩ | ⟨k,rfl⟩ | ⟨k,_,rfl⟩ | ⟨k,_,a,rfl⟩ | ⟨k,rfl⟩ | ⟨k,_,_,a,_,rfl⟩ | ⟨k,rfl⟩ | ⟨k,a,rfl⟩ | ⟨k,w,a,rfl⟩ | ⟨k,rfl⟩
 . grind
 . grind
 . grind
 . grind
 . grind
 . grind
 . grind
 . grind
 . grind
 . grind
 grind
include hN h5 h1 hl hT in
theorem KI :DrOk l:=by
 have lift:∀{P:ae->Prop},(∀j,j < ns.length->P (l.getD j af))->∀t,t∈l->P t:=fun hp t ht=>by
  obtain⟨i,hi,rfl⟩:=List.getElem_of_mem ht
  grind
 have hx:∀j,j < ns.length->NOk (ns.getD j dNd):=fun j hj=>hN _ (aB hj dNd)
 have mem:∀j,j < ns.length->∀m,m∈(l.getD j af).Members->∃r,MemP ns (j:Int) r m:=fun j hj m hm=>by
  rcases rP (hT j hj)with h | ⟨r,_,h,_⟩
  . grind
  grind
 have okT:∀t,t∈l->OkT t:=lift fun j hj=>by
  have hm:=mem j hj;have ht:=hT j hj;have hlm:(l.getD j af).Members.length<=12:=by
   rcases rP ht with h | ⟨r,_,_,h⟩
   . rw[h];simp
   . exact h
  have hls:(l.getD j af).Symbols.length<=6:=by
   have hi:=(ids_eq' (ns.getD j dNd)).2.2.2;unfold TyP at ht;rcases ht with⟨k,e⟩ | ⟨k,e⟩ | ⟨k,e⟩ | ⟨k,_,e⟩ | ⟨k,_,_,e⟩ | ⟨k,e⟩ | ⟨k,_,_,_,_,e⟩ | ⟨k,e⟩ | ⟨k,_,e⟩ | ⟨k,_,_,e⟩ | ⟨k,e⟩ <;> rw[e]
   case inr.inr.inr.inl=>simp only[aw,symsL,List.length_map];exact hi
   all_goals simp
  refine⟨by unfold reachBytes;omega,by unfold reachBytes;omega,fun m hm'=>?_⟩;obtain⟨r,q⟩:=hm m hm';by_cases hd:m.HasDefault=true
  . exact(Aj hN h5 ⟨q.tgt.1,q.tgt.2.1⟩ (q.dfl hd)).1
  . rw[q.nod (by simpa using hd)];exact okV_d
 have kind7:∀u:Int,0<=u->u < ns.length->7<=kd ns u->7<=(l.getD u.toNat af).Kind:=fun u h0 hu h7=>by
  obtain⟨j,rfl⟩:∃j:Nat,u=(j:Int):=⟨u.toNat,by omega⟩
  rw[aw];obtain⟨_,_,k9⟩:=kd_eq hN h5 h0 hu;obtain⟨a,b,c⟩:=Ak (hT j (by omega));omega
 have vok:VOk l:=by
  refine⟨by omega,lift fun j hj=>?_,fun j hj=>?_,lift fun j hj=>?_,lift fun j hj h8=>?_⟩
  . have ht:=hT j hj;have hid:=ids_eq' (ns.getD j dNd);have ha:=(hx j hj).a;have hb:=(hx j hj).b;have hnm:nm [UInt8.ofNat (65+j)]=true:=NW (by omega);unfold U8 at ha hb;unfold TyP at ht;simp only[aw]at ht;generalize [UInt8.ofNat (65+j)]=nmL at hnm ht;unfold FormP
    rcases ht with⟨k,e⟩ | ⟨k,e⟩ | ⟨k,e⟩ | ⟨k,_,e⟩ | ⟨k,Ms,a,e⟩ | ⟨k,e⟩ | ⟨k,Ms,_,a,a0,e⟩ | ⟨k,e⟩ | ⟨k,_,e⟩ | ⟨k,_,_,e⟩ | ⟨k,e⟩ <;> rw[e]
    . simp
    . simp;omega
    . simp;omega
    . simp;exact⟨hnm,(w6 hid.2.1 hid.2.2.1 hid.2.2.2).1⟩
    . simp;refine⟨hnm,?_⟩;rcases w5 hN h5 a with h | ⟨h,_⟩
      . exact h
      . cases h
    . simp;exact⟨hnm,fun m hm=>(by cases hm),.inl rfl,⟨.nil,fun m hm=>by cases hm⟩,fun m hm=>(by cases hm),by simp,by simp⟩
    . simp;refine⟨hnm,?_⟩;rcases w5 hN h5 a with h | ⟨_,h⟩
      . exact h
      grind
    . simp;omega
    . simp;omega
    . simp;omega
    . simp
  ·
   have nameOf:∀k,k < ns.length->(l.getD k af).Name=[]\/(l.getD k af).Name=[UInt8.ofNat (65+k)]:=fun k hk=>by
    have ht:=hT k hk;unfold TyP at ht;simp only[aw]at ht;rcases ht with⟨k,e⟩ | ⟨k,e⟩ | ⟨k,e⟩ | ⟨k,_,e⟩ | ⟨k,Ms,a,e⟩ | ⟨k,e⟩ | ⟨k,Ms,_,a,a0,e⟩ | ⟨k,e⟩ | ⟨k,_,e⟩ | ⟨k,_,_,e⟩ | ⟨k,e⟩ <;> rw[e] <;> simp
   rcases nameOf j (by omega)with h | h
   . rw[h];simp
   . rw[h];simp only[Bool.and_eq_false_iff];right;apply Bool.eq_false_iff.2;intro hc;obtain⟨k,hk,he⟩:=(fx (by simp;omega)).1 hc;have hg:(l.map (·.Name)).getD k []=(l.getD k af).Name:=bM (·.Name) l k af [] (by omega);rw[hg]at he;rcases nameOf k (by omega)with h' | h'
     . grind
     . rw[h']at he;simp only[List.cons.injEq,and_true]at he;have e2:=congrArg UInt8.toNat he;rw[cu (by omega),cu (by omega)]at e2;omega
  . intro u hu;have hm:=mem j hj;have hc:=(hx j hj).c;unfold U8 at hc;have c0:0<=(ns.getD j dNd).C % (ns.length:Int):=Int.emod_nonneg _ (by omega);have c1:(ns.getD j dNd).C % (ns.length:Int) < ns.length:=Int.emod_lt_of_pos _ (by omega);have ht:=hT j hj;unfold TyP at ht;simp only[aw]at ht;generalize (ns.getD j dNd).C % (ns.length:Int)=cc at c0 c1 ht;unfold usesL at hu
    simp only[List.mem_append,List.mem_map]at hu;rcases hu with(⟨m,h,rfl⟩ | h) | h
    . obtain⟨r,q⟩:=hm m h;have:=q.tgt.1;have:=q.tgt.2.1;omega
    . split at h
      . rename_i h8;have:u=(l.getD j af).Key:=by simpa using h
        rw[this];rcases ht with⟨k,e⟩ | ⟨k,e⟩ | ⟨k,e⟩ | ⟨k,_,e⟩ | ⟨k,Ms,a,e⟩ | ⟨k,e⟩ | ⟨k,Ms,_,a,a0,e⟩ | ⟨k,e⟩ | ⟨k,_,e⟩ | ⟨k,w,a,e⟩ | ⟨k,e⟩ <;> rw[e]at h8 ⊢ <;> simp at h8 ⊢
        obtain⟨w0,w1,_⟩:=a;omega
      . cases h
    . split at h
      . rename_i h7;have:u=(l.getD j af).Elem:=by simpa using h
        rw[this];rcases ht with⟨k,e⟩ | ⟨k,e⟩ | ⟨k,e⟩ | ⟨k,_,e⟩ | ⟨k,Ms,a,e⟩ | ⟨k,e⟩ | ⟨k,Ms,_,a,a0,e⟩ | ⟨k,e⟩ | ⟨k,_,e⟩ | ⟨k,w,a,e⟩ | ⟨k,e⟩ <;> rw[e]at h7 ⊢ <;> simp at h7 ⊢ <;> omega
      . cases h
  . have ht:=hT j hj;unfold TyP at ht;simp only[aw]at ht;rcases ht with⟨k,e⟩ | ⟨k,e⟩ | ⟨k,e⟩ | ⟨k,_,e⟩ | ⟨k,Ms,a,e⟩ | ⟨k,e⟩ | ⟨k,Ms,_,a,a0,e⟩ | ⟨k,e⟩ | ⟨k,_,e⟩ | ⟨k,w,a,e⟩ | ⟨k,e⟩ <;> rw[e]at h8 ⊢ <;> simp at h8 ⊢
    obtain⟨w0,w1,w2,w3⟩:=a;obtain⟨q,rfl⟩:∃q:Nat,w=(q:Int):=⟨w.toNat,by omega⟩
    obtain⟨a,_,_⟩:=Ak (hT q (by omega));have:=a (.inl (by omega));simp_all
 refine⟨by omega,by omega,okT,vok,lift fun j hj m hm hd=>?_,fun j hj m hm=>?_,lift fun j hj h2=>?_,lift fun j hj=>?_,lift fun j hj=>⟨fun m hm=>?_,fun y hy=>?_,?_⟩,lift fun j hj m hm hd=>?_⟩
 . obtain⟨r,q⟩:=mem j hj m hm;have hi:=q.dfl hd;obtain⟨u0,u1,_⟩:=q.tgt;generalize m.Default=v at hi;obtain⟨u,hu⟩:∃u:Nat,m.Type_=(u:Int):=⟨m.Type_.toNat,by omega⟩
   rw[hu]at hi u0 u1 ⊢;have ht:=hT u (by omega);obtain⟨a,b,c,hi⟩:=hi;rw[cZ];simp only[aw]at hi ⊢;unfold TyP at ht;simp only[aw]at ht;have hlen:((l.length:Nat):Int)=ns.length:=by omega
   rw[hlen];generalize l.getD u af=x at ht ⊢;rw[a,b,c];have vn:∀t,vfits l true t []:=fun t=>by rw[vfits];trivial
   have ka:ew []:=fun i hi=>by simp at hi
   have hxu:=hx u (by omega);generalize ns.getD u dNd=nd at ht hi hxu;rcases hi with⟨k,e1,e2,e3,e4⟩ | ⟨k,e1,e2,e3,e4,e5,e6⟩ | ⟨k,e1,e2,e3,e4,e5⟩ | ⟨k,e1,e2,e3,e4,e5⟩ | ⟨k,e1,e2,e3,e4,e5⟩
   . rw[k]at ht
     grind
   . rw[k]at ht
     grind
   . rw[k]at ht
     grind
   . rw[k]at ht;simp only[Int.reduceEq,false_and,true_and,or_false,false_or]at ht;obtain⟨o,rfl⟩:=ht;rw[e1,e2,e3,e4];simp;refine⟨by omega,⟨v.ID,[UInt8.ofNat 115,UInt8.ofNat (97+v.ID.toNat)]⟩,?_,rfl⟩;unfold symsL
     grind
   . rw[e1,e2,e3,e4];have k9:kd ns (u:Int)<=9:=(kd_eq hN h5 u0 u1).2.2;have hcc:kd ns (u:Int)=7\/kd ns (u:Int)=8\/kd ns (u:Int)=9:=by omega
     have ha:=hxu.a;unfold U8 at ha;rcases hcc with k' | k' | k'
     . rw[k']at ht e5
       grind
     . rw[k']at ht e5
       grind
     . rw[k']at ht e5
       grind
 . obtain⟨r,q⟩:=mem j (by omega) m hm;obtain⟨u0,u1,u2⟩:=q.tgt
   grind
 . have ht:=hT j hj;have ha:=(hx j hj).a;have hb:=(hx j hj).b;unfold U8 at ha hb;unfold TyP at ht;simp only[aw]at ht;rcases ht with⟨k,e⟩ | ⟨k,e⟩ | ⟨k,e⟩ | ⟨k,_,e⟩ | ⟨k,Ms,a,e⟩ | ⟨k,e⟩ | ⟨k,Ms,_,a,a0,e⟩ | ⟨k,e⟩ | ⟨k,_,e⟩ | ⟨k,w,a,e⟩ | ⟨k,e⟩ <;> rw[e]at h2 ⊢ <;> simp at h2 ⊢
   omega
 . have ht:=hT j hj;have ha:=(hx j hj).a;unfold U8 at ha;unfold TyP at ht;simp only[aw]at ht;rcases ht with⟨k,e⟩ | ⟨k,e⟩ | ⟨k,e⟩ | ⟨k,_,e⟩ | ⟨k,Ms,a,e⟩ | ⟨k,e⟩ | ⟨k,Ms,_,a,a0,e⟩ | ⟨k,e⟩ | ⟨k,_,e⟩ | ⟨k,w,a,e⟩ | ⟨k,e⟩ <;> rw[e] <;> simp <;> omega
 . obtain⟨r,q⟩:=mem j hj m hm;exact q.id.2
 . have ht:=hT j hj;have hid:=ids_eq' (ns.getD j dNd);unfold TyP at ht;simp only[aw]at ht;rcases ht with⟨k,e⟩ | ⟨k,e⟩ | ⟨k,e⟩ | ⟨k,_,e⟩ | ⟨k,Ms,a,e⟩ | ⟨k,e⟩ | ⟨k,Ms,_,a,a0,e⟩ | ⟨k,e⟩ | ⟨k,_,e⟩ | ⟨k,w,a,e⟩ | ⟨k,e⟩ <;> rw[e]at hy <;> simp at hy
   exact(w6 hid.2.1 hid.2.2.1 hid.2.2.2).2 y hy
 . rcases rP (hT j hj)with h | ⟨r,_,_,h⟩
   . rw[h];simp
   . exact h
 . obtain⟨r,q⟩:=mem j hj m hm;exact(Aj hN h5 ⟨q.tgt.1,q.tgt.2.1⟩ (q.dfl hd)).2
end
theorem of_ok{d:aU}(hd:DOk d):iz d=some (⟨[]⟩,false)\/∃l,iz d=some (⟨l⟩,true)/\DrOk l:=by
 rcases of_eq hd with h | ⟨l,a,b,c,e,f⟩
 . exact .inl h
 . exact .inr ⟨l,a,KI hd.2 c b e f⟩
def Suf(C' C:List Int):Prop:=C'.length<=C.length/\∀c,c∈C'->c∈C
theorem Suf.refl(C:List Int):Suf C C:=⟨Nat.le_refl _,fun _ h=>h⟩
theorem Suf.trans{A B C:List Int}(h:Suf A B)(k:Suf B C):Suf A C:=⟨Nat.le_trans h.1 k.1,fun c hc=>k.2 c (h.2 c hc)⟩
def CU8(C:List Int):Prop:=∀c,c∈C->U8 c
theorem um :∀a b:List UInt8,Op.bytesLess a b=false->a≠b->Op.bytesLess b a=true
 | [],[],_,h=>absurd rfl h
 | [],y::b,h,_=>by simp[Op.bytesLess]at h
 | x::a,[],h,_=>by simp[Op.bytesLess]
 | x::a,y::b,h,hne=>by
  simp only[Op.bytesLess]at h ⊢;by_cases h1:x < y
  . grind
  . by_cases h2:y < x
    . simp[h2]
    . have e:x=y:=by grind
      subst e;have hr:Op.bytesLess a b=false:=by simpa using h
      have:=um a b hr (fun e=>hne (by rw[e]));simp[this]
theorem pB{a b:ab}(ha:I64 a.Int_)(hb:I64 b.Int_):gp (a,b)=some (vcmp a b):=by
 obtain⟨r,h1,h2⟩:=od ha hb;unfold vcmp
 grind
theorem IQ{a b:ab}(ha:I64 a.Int_)(hb:I64 b.Int_)(h:0 < vcmp a b):vcmp b a < 0:=by
 have h1:=pB ha hb;have h2:=pB hb ha;generalize vcmp a b=r at h h1;generalize vcmp b a=q at h2;rw[gp]at h1 h2;by_cases hk:a.Kind=b.Kind
 . rw[if_neg (by simp[hk])]at h1 h2;by_cases k1:a.Kind=1
   . have k1':b.Kind=1:=by omega
     rw[if_pos (by simp[k1])]at h1;rw[if_pos (by simp[k1'])]at h2;simp only[ce,eqB]at h1 h2
     grind
   . have k1':¬b.Kind=1:=by omega
     rw[if_neg (by simp[k1])]at h1;rw[if_neg (by simp[k1'])]at h2;by_cases k2:a.Kind=2
     . have k2':b.Kind=2:=by omega
       rw[if_pos (by simp[k2]),fV ha,fV hb]at h1;rw[if_pos (by simp[k2']),fV ha,fV hb]at h2;simp only[oZ4,oZ3,ce]at h1 h2;by_cases e:a.Int_=b.Int_
       . grind
       . have hz:zig a.Int_≠zig b.Int_:=fun h=>e (sW h)
         grind
     . have k2':¬b.Kind=2:=by omega
       rw[if_neg (by simp[k2])]at h1;rw[if_neg (by simp[k2'])]at h2;by_cases k3:a.Kind=3
       . have k3':b.Kind=3:=by omega
         rw[if_pos (by simp[k3])]at h1;rw[if_pos (by simp[k3'])]at h2;simp only[oZ4,oZ3,ce]at h1 h2;by_cases hl:a.Str.length=b.Str.length
         . rw[if_neg (by simp[hl])]at h1 h2;by_cases e:a.Str=b.Str
           . grind
           . have e':¬b.Str=a.Str:=fun h=>e h.symm
             cases hb':Op.bytesLess a.Str b.Str with
             | true=>simp[e,hb']at h1;omega
             | false=>
              have:=um _ _ hb' e
              grind
         grind
       . have k3':¬b.Kind=3:=by omega
         rw[if_neg (by simp[k3])]at h1;rw[if_neg (by simp[k3'])]at h2;by_cases k4:a.Kind=4
         . have k4':b.Kind=4:=by omega
           rw[if_pos (by simp[k4])]at h1;rw[if_pos (by simp[k4'])]at h2;simp only[oZ4,oZ3,ce]at h1 h2
           grind
         grind
 grind
section
variable {ts:List ae}
mutual
theorem vfit_weak :∀(v:ab) (t:Int),vfit ts true t v->vfit ts false t v
 | ⟨k,b,i,s,id,ks,is,r⟩,t,h=>by
  rw[vfit]at h ⊢;obtain⟨⟨h1,h2,h3,h4⟩,h5⟩:=h;have w:=vfits_weak is;have wk:=vfits_weak ks;have wm:=vfitm_weak is;refine⟨⟨h1,h2,h3,fun h=>by cases h⟩,?_⟩
  have c6:(match findM (ts.getD t.toNat af).Members id with
   | some m=>r=[]/\is.length=1/\vfits ts true m.Type_ is
   | none=>(ts.getD t.toNat af).Open=true/\true=false/\I1000 id/\is=[]/\∃d,r=[⟨id,d⟩])->(match findM (ts.getD t.toNat af).Members id with
   | some m=>r=[]/\is.length=1/\vfits ts false m.Type_ is
   | none=>(ts.getD t.toNat af).Open=true/\false=false/\I1000 id/\is=[]/\∃d,r=[⟨id,d⟩]):=by
   split
   . rintro ⟨a,b,c⟩;exact⟨a,b,w _ c⟩
   . rintro ⟨_,b,_⟩;cases b
  rcases h5 with h | h | h | ⟨a1,a2,a3,a4,a5,a6,a7,a8⟩ | ⟨a1,a2,a3,a4,a5,a6,a7,a8⟩ | ⟨a1,a2,a3,a4,a5,a6⟩ | ⟨a1,a2,a3,a4,a5,a6,a7,a8,a9⟩ | ⟨a1,a2,a3,a4,a5,a6,a7,a8,a9,a10,a11⟩ | ⟨a1,a2,a3,a4,a5,a6,a7,a8,a9⟩
  . exact .inl h
  . grind
  . grind
  . grind
  . grind
  . grind
  . grind
  . grind
  grind
theorem vfits_weak :∀(l:List ab) (t:Int),vfits ts true t l->vfits ts false t l
 | [],t,h=>by rw[vfits];trivial
 | v::l,t,h=>by
  rw[vfits]at h ⊢;exact⟨vfit_weak v t h.1,vfits_weak l t h.2⟩
theorem vfitm_weak :∀(l:List ab) (ms:List aj),vfitm ts true ms l->vfitm ts false ms l
 | [],[],h=>by rw[vfitm];trivial
 | [],m::ms,h=>by
  have:vfitm ts true (m::ms) []=False:=by rw[vfitm] <;> (intros;simp_all)
  grind
 | v::l,[],h=>by
  have:vfitm ts true [] (v::l)=False:=by rw[vfitm] <;> (intros;simp_all)
  grind
 | v::l,m::ms,h=>by
  rw[vfitm]at h ⊢;exact⟨vfit_weak v m.Type_ h.1,vfitm_weak l ms h.2⟩
end
theorem KL{v:ab}{t:Int}(h:vfit ts true t v)(pl:Bool):vfit ts pl t v:=by
 cases pl with
 | true=>exact h
 | false=>exact vfit_weak v t h
def rk(ts:List ae)(t:Nat):Nat:=if 7<=(ts.getD t af).Kind then 0 else t+1
end
structure DrIn (d:gu):Prop where
 s:DOk d.S
 t:U8 d.T
 c:CU8 d.C
 l:d.C.length<=reachBytes
theorem zc{ts:List ae}(H:SOk ts){v:ab}(hv:OkV v)(t:Int)(pl:Bool):SaysP (cv ((⟨ts⟩:av),t,v,pl)) (vfit ts pl t v):=by
 obtain⟨r,h1,h2⟩:=KH (by have:=H.n;omega) H.T H.K hv t pl;obtain⟨q,q1,q2⟩:=xP (by have:=H.n;omega) H.T H.K hv t pl;rw[h1]at q2;have:r=q:=Option.some.inj q2;subst this;exact⟨r,q1,h2⟩
theorem HT{ts:List ae}(hT:∀t,t∈ts->OkT t)(hV:VOk ts){v:ab}(hv:OkV v){t:Int}(hf:vfit ts false t v):ft ((⟨ts⟩:av),t,v)=some 0/\qu ((⟨ts⟩:av),t,v)=some 0:=by
 have H:=hV.sok hT;obtain⟨v1,v2⟩:=se hT hV;obtain⟨⟨g1,g2,_⟩,_⟩:=(cZ _ _ _).1 hf;obtain⟨e,e1,e2,_⟩:=HM (s:=⟨ts⟩) (by have:=hV.n;unfold reachBytes;show ts.length<=_;omega) hT hv t;obtain⟨r,r1,r2⟩:=zc H hv t false;have hr:=r2.2 hf;subst hr;have hout:¬((bif decide (t < 0)then true else decide (((⟨ts⟩:av).Types.length:Int)<=t))=true):=by grind
 have key:ft ((⟨ts⟩:av),t,v)=some 0:=by
  rw[ft,jD];simp only[md,ab.aD];rw[v1];show((if(bif decide (t < 0)then true else decide (((⟨ts⟩:av).Types.length:Int)<=t))=true then some (4:Int)else some 0) >>=_)=_;rw[if_neg hout];show(fC ((⟨ts⟩:av),t,v) >>=_)=_;rw[fC];simp only[ab.aD];rw[r1];rfl
 grind
theorem zd{l:List Fd}(hp:cB ltF l=true)(hn:l.Pairwise (fun a b=>a.id≠b.id)):(isoB ltF l).Pairwise (fun a b=>a.id < b.id):=by
 have h1:=ot Ad l;have h2:(isoB ltF l).Pairwise (fun a b=>a.id≠b.id):=(cX ltF l).symm.pairwise hn (fun {a b} h=>fun e=>h e.symm);refine(h1.and h2).imp fun {a b} h=>?_
 have:=h.1;have:=h.2;simp only[ltF,decide_eq_false_iff_not]at*;omega
theorem xZ{ts:List ae}{ms:List aj}{l:List ab}{r:List aH}(h:MAsc ms)(hr:cb ms r):(aZ ts ms l r).Pairwise (fun a b=>a.id≠b.id):=by
 have:=lN (ts:=ts) (l:=l) h hr;have key:∀q:List Fd,cB ltF q=true->q.Pairwise (fun a b=>a.id≠b.id):=by
  intro q
  induction q with
  | nil=>intro _;exact .nil
  | cons a q ih=>
   intro h;simp only[cB,Bool.and_eq_true,List.all_eq_true,Bool.or_eq_true,ltF,decide_eq_true_eq]at h;rw[List.pairwise_cons]
   grind
 grind
def fdS(f:Fd):aF:=⟨(f.id:Int),f.c,f.p⟩
theorem x2 : ∀ (l : List Fd) (last : Nat) (b : List aF), l.Pairwise (fun a b => a.id < b.id) -> (∀ f, f ∈ l -> last < f.id /\ f.id <= 1000) -> (l.flatMap Fd.text).length <= 100000 -> b.length + l.length <= 90000 ->
 bw ((last:Int),l.flatMap Fd.text,b)=some (.inr (b++l.map fdS))
 | [],last,b,_,_,_,_=>by
  rw[bw,if_neg (by simp)];simp
 | f::l,last,b,hp,hr,hl,hb=>by
  rw[List.pairwise_cons]at hp;obtain⟨h1,h2⟩:=hr f (.head _);rw[List.flatMap_cons]at hl ⊢;have ht:f.text=bq f.id f.c f.p:=rfl;rw[ht]at hl ⊢;rw[Gv h1 h2 hl (by simp at hb;omega)];have hl2:(l.flatMap Fd.text).length<=100000:=by rw[List.length_append]at hl;omega
  rw[x2 l f.id _ hp.2 (fun g hg=>⟨hp.1 g hg,(hr g (.tail _ hg)).2⟩) hl2 (by simp at hb ⊢;omega)];simp[fdS]
theorem HU{p rest:List UInt8}{b:List (List UInt8)}(h:(aP p++rest).length<=100000)(hb:b.length<=90000):bT (aP p++rest,b)=bT (rest,b++[p]):=by
 have hpl:p.length<=100000:=by simp only[aP,List.length_append]at h;omega
 have hne:aP p++rest≠[]:=by
  intro hc;have h2:=congrArg List.length hc;have:=fL p.length;simp only[aP,List.length_append,List.length_nil]at h2;omega
 rw[bT,if_pos (by simp only[Bool.not_eq_true',decide_eq_false_iff_not];exact hne),eu (by omega),vU hpl];simp only[oZ4,oZ3];have hnn:¬((!(encP (some (p,rest))).2.2)=true):=by simp[encP]
 have hr:room 16 (b++[(encP (some (p,rest))).1]).length=true:=bk (by omega) (by simp;omega);rw[if_neg hnn,if_pos hr];rfl
theorem zf :∀(l:List (List UInt8)) (b:List (List UInt8)),(l.flatMap aP).length<=100000->b.length+l.length<=90000->bT (l.flatMap aP,b)=some (.inr (b++l))
 | [],b,_,_=>by
  rw[bT,if_neg (by simp)];simp
 | p::l,b,hl,hb=>by
  rw[List.flatMap_cons]at hl ⊢;rw[HU hl (by simp at hb;omega),zf l _ (by rw[List.length_append]at hl;omega) (by simp at hb ⊢;omega)];simp
def weave :List (List UInt8)->List (List UInt8)->List (List UInt8)
 | k::ks,v::vs=>k::v::weave ks vs
 | _,_=>[]
theorem x3 :∀a b,ilv a b=(weave a b).flatMap aP
 | [],b=>by simp[ilv,weave]
 | k::ks,[]=>by simp[ilv,weave]
 | k::ks,v::vs=>by simp[ilv,weave,x3 ks vs]
theorem x4 :∀a b:List (List UInt8),a.length=b.length->(weave a b).length=a.length+b.length
 | [],[],_=>rfl
 | k::ks,v::vs,h=>by
  simp only[weave,List.length_cons];have:=x4 ks vs (by simpa using h);omega
theorem me(p:List UInt8):1<=(aP p).length:=by
 have:=fL p.length;unfold aP;rw[List.length_append];omega
theorem vX :∀l:List (List UInt8),l.length<=(l.flatMap aP).length
 | []=>by simp
 | p::l=>by
  have:=vX l;have:=me p
  grind
theorem sD(f:Fd):1<=f.text.length:=by
 have:=fL (2*f.id+(if f.c then 1 else 0));unfold Fd.text bq;rw[List.length_append];omega
theorem vY :∀l:List Fd,l.length<=(l.flatMap Fd.text).length
 | []=>by simp
 | p::l=>by
  have:=vY l;have:=sD p
  grind
theorem x5{f:Fd}:∀{l:List Fd},f∈l->f.p.length<=(l.flatMap Fd.text).length
 | g::l,h=>by
  rw[List.flatMap_cons,List.length_append];rcases List.mem_cons.1 h with rfl | h
  . have:f.p.length<=f.text.length:=by unfold Fd.text bq aP;simp only[List.length_append];omega
    omega
  . have:=x5 h;omega
theorem LE{d:aU}(h:WF Un ⟨.slice (.nm qo),d.Nodes⟩):DOk d:=by
 obtain⟨a,_,c⟩:=yV (t:= .nm qo) h;refine⟨a,fun x hx=>?_⟩;have hc:=c x hx;have u8:∀{n:Int},WF Un ⟨.int .u8,n⟩->U8 n:=fun {n} h=>by
  cases h with
  | int k n h=>
   simp[Lit.wf,IntKind.min,IntKind.max,IntKind.bits,IntKind.signed]at h;unfold U8;omega
 have c1:=hc ⟨.int .u8,x.Kind⟩ (.head _);have c2:=hc ⟨.int .u8,x.A⟩ (.tail _ (.head _));have c3:=hc ⟨.int .u8,x.B⟩ (.tail _ (.tail _ (.head _)));have c4:=hc ⟨.int .u8,x.C⟩ (.tail _ (.tail _ (.tail _ (.head _))));have c5:=hc ⟨.slice (.nm tR),x.Parts⟩ (.tail _ (.tail _ (.tail _ (.tail _ (.head _)))));obtain⟨p1,_,p3⟩:=yV (t:= .nm tR) c5
 refine⟨u8 c1,u8 c2,u8 c3,u8 c4,fun q hq=>?_,p1⟩;have hq':=p3 q hq;exact⟨u8 (hq' ⟨.int .u8,q.ID⟩ (.head _)),u8 (hq' ⟨.int .u8,q.Type_⟩ (.tail _ (.head _))),u8 (hq' ⟨.int .u8,q.Flag⟩ (.tail _ (.tail _ (.head _))))⟩
def fb(n:Nat):List UInt8->Nat
 | []=>n
 | c::s=>fb (n*256+c.toNat) s
theorem fb_lt :∀(s:List UInt8) (n k:Nat),n < 256 ^ k->fb n s < 256 ^ (k+s.length)
 | [],n,k,h=>by simpa[fb]using h
 | c::s,n,k,h=>by
  have hc:c.toNat < 256:=UInt8.toNat_lt c;have h1:n*256+c.toNat < 256 ^ (k+1):=by rw[Nat.pow_succ];omega
  have:=fb_lt s _ (k+1) h1;simp only[fb,List.length_cons]
  grind
theorem shl8{n:Nat}(h:n < 72057594037927936):shlI .u64 (n:Int) 8=((n*256:Nat):Int):=by
 unfold shlI;have e:((2:Int) ^ min (8:Int).toNat IntKind.u64.bits)=256:=by decide
 rw[e];have:(n:Int)*256=((n*256:Nat):Int):=by push_cast;rfl
 rw[this];exact wrapu (by omega) (by omega)
theorem LF{a b:Nat}(ha:a < 72057594037927936)(hb:b < 256):orI .u64 ((a*256:Nat):Int) (b:Int)=((a*256+b:Nat):Int):=by
 have e:(BitVec.ofInt 64 ((a*256:Nat):Int) ||| BitVec.ofInt 64 (b:Int)).toNat=a*256+b:=by
  rw[BitVec.ofInt_natCast,BitVec.ofInt_natCast,BitVec.toNat_or,BitVec.toNat_ofNat,BitVec.toNat_ofNat,two64,Nat.mod_eq_of_lt (by omega),Nat.mod_eq_of_lt (by omega)];have h:=Nat.shiftLeft_add_eq_or_of_lt (show b < 2 ^ 8 by omega) a;rw[Nat.shiftLeft_eq]at h;exact h.symm
 show IntKind.u64.wrap (((BitVec.ofInt 64 ((a*256:Nat):Int) ||| BitVec.ofInt 64 (b:Int)).toNat:Nat):Int)=_;rw[e];exact wrapu (by omega) (by omega)
theorem NY :(256:Nat) ^ 8=18446744073709551616:=by decide
theorem sE{s:List UInt8}(hs:s.length<=8):∀(k i n:Nat),i+k=s.length->n < 256 ^ i->fk (s,(n:Int),(s.length:Int),(i:Int))=some ((fb n (s.drop i):Nat):Int)
 | 0,i,n,hi,hn=>by
  rw[fk,if_neg (by simp;omega),List.drop_eq_nil_of_le (by omega:s.length<=i)];rfl
 | k+1,i,n,hi,hn=>by
  have hlt:i < s.length:=by omega
  have hb:=mi s i;have hn7:n < 72057594037927936:=by
   have:(256:Nat) ^ i<=256 ^ 7:=Nat.pow_le_pow_right (by omega) (by omega);omega
  rw[fk,if_pos (by simp;omega),if_pos (au hlt),shl8 hn7,dV,wrpn (by omega),LF hn7 hb,aA (by omega),sE hs k (i+1) _ (by omega) (by rw[Nat.pow_succ];omega),br hlt 0];rfl
theorem sF{s:List UInt8}(hs:s.length<=8):∀(k i n:Nat),i+k=s.length->n < 256 ^ i->eU (s,(n:Int),(i:Int))=some ((fb n (s.drop i):Nat):Int)
 | 0,i,n,hi,hn=>by
  rw[eU,if_neg (by simp;omega),List.drop_eq_nil_of_le (by omega:s.length<=i)];rfl
 | k+1,i,n,hi,hn=>by
  have hlt:i < s.length:=by omega
  have hb:=mi s i;have hn7:n < 72057594037927936:=by
   have:(256:Nat) ^ i<=256 ^ 7:=Nat.pow_le_pow_right (by omega) (by omega);omega
  have e1:mulI .u64 (n:Int) 256=((n*256:Nat):Int):=mulIn (b:=256) (by omega);rw[eU,if_pos (by simp;omega),if_pos (au hlt),e1,dV,wrpn (by omega),addIn (by omega),aA (by omega),sF hs k (i+1) _ (by omega) (by rw[Nat.pow_succ];omega),br hlt 0];rfl
def vub(s:List UInt8):Option Nat:=if s.head?=some 0\/8 < s.length then none else some (fb 0 s)
theorem nn{s:List UInt8}{n:Nat}(h:vub s=some n):n < 18446744073709551616:=by
 unfold vub at h;split at h
 . cases h
 . rename_i hh;cases h;have:=fb_lt s 0 0 (by simp);have h2:(256:Nat) ^ (0+s.length)<=256 ^ 8:=Nat.pow_le_pow_right (by omega) (by omega);omega
theorem x6{s:List UInt8}(h:s≠[]):(aY s 0=0)↔s.head?=some 0:=by
 cases s with
 | nil=>exact absurd rfl h
 | cons c s=>
  have:aY (c::s) 0=(c.toNat:Int):=dV (c::s) 0;rw[this];simp only[List.head?_cons,Option.some.injEq];constructor
  . intro h;exact UInt8.toNat_inj.1 (by simpa using h)
  simp_all
theorem oL(s:List UInt8):∃r,jC s=some r/\jk s=some r/\(r.2=0->∃n,vub s=some n/\r.1=(n:Int))/\(r.2≠0->vub s=none):=by
 rw[jC,jk];simp only[oZ4,oZ3];by_cases h0:s=[]
 . subst h0;have e1:fk ([],0,((([]:List UInt8)).length:Int),0)=some ((fb 0 []:Nat):Int):=sE (s:=[]) (by simp) 0 0 0 rfl (by simp);have e2:eU ([],0,0)=some ((fb 0 []:Nat):Int):=sF (s:=[]) (by simp) 0 0 0 rfl (by simp);refine⟨(((fb 0 []:Nat):Int),0),?_,?_,fun _=>⟨0,rfl,rfl⟩,fun h=>absurd rfl h⟩
   . grind
   grind
 . have hpos:0 < s.length:=List.length_pos_iff.2 h0;have hin:inR 0 s.length=true:=au (k:=0) hpos;have hd:decide ((0:Int) < (s.length:Int))=true:=by simp;omega
   have hd2:(!(decide (s=[])))=true:=by simp[h0]
   rw[hd,hd2,hin];simp only[Bool.true_or,if_true,cond_true];by_cases hz:aY s 0=0
   . have hzc:decide (aY s 0=0)=true:=by simp[hz]
     rw[if_pos hzc,if_pos hzc];refine⟨_,rfl,rfl,fun h=>(by cases h),fun _=>?_⟩;unfold vub;rw[if_pos (.inl ((x6 h0).1 hz))]
   . have hzc:¬(decide (aY s 0=0)=true):=by simp[hz]
     rw[if_neg hzc,if_neg hzc];by_cases h8:8 < s.length
     . have:decide ((8:Int) < (s.length:Int))=true:=by simp;omega
       rw[if_pos this,if_pos this];refine⟨_,rfl,rfl,fun h=>(by cases h),fun _=>?_⟩;unfold vub;rw[if_pos (.inr h8)]
     . have:¬(decide ((8:Int) < (s.length:Int))=true):=by simp;omega
       rw[if_neg this,if_neg this];have e1:fk (s,0,(s.length:Int),0)=some ((fb 0 s:Nat):Int):=sE (by omega) s.length 0 0 (by omega) (by simp);have e2:eU (s,0,0)=some ((fb 0 s:Nat):Int):=sF (by omega) s.length 0 0 (by omega) (by simp);rw[e1,e2];refine⟨_,rfl,rfl,fun _=>⟨fb 0 s,?_,rfl⟩,fun h=>absurd rfl h⟩;unfold vub;rw[if_neg]
       rintro (h | h)
       . exact hz ((x6 h0).2 h)
       omega
def unz(n:Nat):Int:=if n % 2=0 then((n / 2:Nat):Int)else -((n / 2:Nat):Int) - 1
theorem Al{n:Int}(h:I64 n):unz (zig n).toNat=n:=by
 unfold unz zig I64 at*;omega
theorem NZ{n:Nat}(h:n < 18446744073709551616):ji (n:Int)=some (unz n):=by
 rw[ji];have e1:remI (n:Int) 2=((n % 2:Nat):Int):=remIn (b:=2);have e2:quoI .u64 (n:Int) 2=((n / 2:Nat):Int):=quoI2 h;rw[e1,e2,wrp64 (by omega) (by omega)];unfold unz;by_cases h0:n % 2=0
 . grind
 . have e3:subI .i64 0 ((n / 2:Nat):Int)= -((n / 2:Nat):Int):=by rw[bP (by omega) (by omega)];omega
   rw[if_neg (by simp;omega),if_neg h0,e3,bP (by omega) (by omega)]
theorem and1{n:Nat}(h:n < 18446744073709551616):andI .u64 (n:Int) 1=((n % 2:Nat):Int):=by
 have e:(BitVec.ofInt 64 (n:Int) &&& BitVec.ofInt 64 (1:Int)).toNat=n % 2:=by grind
 show IntKind.u64.wrap (((BitVec.ofInt 64 (n:Int) &&& BitVec.ofInt 64 (1:Int)).toNat:Nat):Int)=_;rw[e];exact wrapu (by omega) (by omega)
theorem shr1{n:Nat}:shrI .u64 (n:Int) 1=((n / 2:Nat):Int):=by
 unfold shrI;have:((2:Int) ^ min (1:Int).toNat IntKind.u64.bits)=2:=by decide
 grind
theorem IR{a:Nat}(h:a < 9223372036854775808):xorI .i64 (a:Int) 0=(a:Int):=by
 have e:(BitVec.ofInt 64 (a:Int) ^^^ BitVec.ofInt 64 (0:Int)).toNat=a:=by grind
 show IntKind.i64.wrap (((BitVec.ofInt 64 (a:Int) ^^^ BitVec.ofInt 64 (0:Int)).toNat:Nat):Int)=_;rw[e,IntKind.wrap_i64];omega
theorem IS{a:Nat}(h:a < 9223372036854775808):xorI .i64 (a:Int) (-1)= -(a:Int) - 1:=by
 have e:(BitVec.ofInt 64 (a:Int) ^^^ BitVec.ofInt 64 (-1:Int)).toNat=18446744073709551615 - a:=by
  have h1:BitVec.ofInt 64 (-1:Int)=BitVec.allOnes 64:=by decide
  rw[h1,BitVec.ofInt_natCast,BitVec.xor_allOnes,BitVec.toNat_not,BitVec.toNat_ofNat,two64,Nat.mod_eq_of_lt (by omega)]
 all_goals (try omega)
 show IntKind.i64.wrap (((BitVec.ofInt 64 (a:Int) ^^^ BitVec.ofInt 64 (-1:Int)).toNat:Nat):Int)=_;rw[e,IntKind.wrap_i64];omega
theorem BZ{n:Nat}(h:n < 18446744073709551616):lx (n:Int)=some (unz n):=by
 rw[lx,shr1,and1 h,wrp64 (by omega) (by omega),wrp64 (by omega) (by omega),bP (by omega) (by omega)];unfold unz;by_cases h0:n % 2=0
 . rw[if_pos h0,h0];have:(0:Int) - ((0:Nat):Int)=0:=rfl;rw[this,IR (by omega)]
 . have h1:n % 2=1:=by omega
   rw[if_neg h0,h1];have:(0:Int) - ((1:Nat):Int)= -1:=rfl;rw[this,IS (by omega)]
def vI(p:List UInt8):Option (List (List UInt8)):=match cV p with
 | some (l,e)=>if e=0 then some l else none
 | none=>none
def vFl(p:List UInt8):Option (List aF):=match dT p with
 | some (l,e)=>if e=0 then some l else none
 | none=>none
def vA(p:List UInt8):Option (Int×List UInt8):=match dy p with
 | some (id,q,e)=>if e=0 then some (id,q)else none
 | none=>none
theorem x7 :∀(n:Nat) (s:List UInt8) (b l:List (List UInt8)),s.length<=n->s.length+b.length<=100000->bT (s,b)=some (.inr l)->∀q,q∈l->q∈b\/q.length<=s.length
 | n,s,b,l,hn,hb,h=>by
  rw[bT]at h;by_cases h0:s=[]
  . grind
  . rw[if_pos (by simp[h0]),eu (by omega)]at h;simp only[oZ4,oZ3]at h;cases hv:vpart s with
    | none=>
     rw[hv]at h;simp[encP]at h
    | some r=>
     obtain⟨x,rest⟩:=r;rw[hv]at h;have hl:=gL hv;have hnn:¬((!(encP (some (x,rest))).2.2)=true):=by simp[encP]
     have hr:room 16 (b++[(encP (some (x,rest))).1]).length=true:=bk (by omega) (by simp;omega);rw[if_neg hnn,if_pos hr]at h;intro q hq
     match n,hn with
     | 0,hn=>omega
     | n+1,hn=>
      have:=x7 n rest _ l (by omega) (by simp;omega) h q hq;rcases this with h | h
      . rcases List.mem_append.1 h with h | h
        . exact .inl h
        . right;have:q=x:=by simpa[encP]using h
          grind
      omega
theorem w7 : ∀ (n : Nat) (s : List UInt8) (last : Nat) (b l : List aF), s.length <= n -> s.length + b.length <= 100000 -> bw ((last : Int), s, b) = some (.inr l) ->
 ∃l',l=b++l'/\(∀f,f∈l'->f.Data.length<=s.length/\(last:Int) < f.ID/\f.ID<=1000)/\l'.Pairwise (fun a b=>a.ID < b.ID)
 | n,s,last,b,l,hn,hb,h=>by
  rw[bw]at h;by_cases h0:s=[]
  . simp_all
  . rw[if_pos (by simp[h0])]at h;rcases vg0 s with⟨e,he,hg⟩ | ⟨m,k,hg,hk0,hk,hm⟩
    . rw[gQ he hg]at h;simp at h
    . rw[eo hg hk]at h;simp only[oZ4,oZ3,quoI2 hm]at h;by_cases hc:((m / 2:Nat):Int)<=(last:Int)\/1000 < ((m / 2:Nat):Int)
      . grind
      . have:¬((bif bif (!true)then true else decide (((m / 2:Nat):Int)<=(last:Int))then true else decide (1000 < ((m / 2:Nat):Int)))=true):=by grind
        rw[if_neg this,eu (by rw[List.length_drop];omega)]at h;simp only[oZ3]at h;cases hv:vpart (s.drop k)with
        | none=>
         rw[hv]at h;simp[encP]at h
        | some r=>
         obtain⟨x,rest⟩:=r;rw[hv]at h;have hl:=gL hv;rw[List.length_drop]at hl;have hnn:¬((!(encP (some (x,rest))).2.2)=true):=by simp[encP]
         have hw:wrp .i64 ((m / 2:Nat):Int)=((m / 2:Nat):Int):=wrp64 (by omega) (by omega);rw[if_neg hnn,hw]at h;have hr:room 32 (b++[(⟨((m / 2:Nat):Int),decide (remI (m:Int) 2=1),(encP (some (x,rest))).1⟩:aF)]).length=true:=bk (by omega) (by simp;omega);rw[if_pos hr]at h
         match n,hn with
         | 0,hn=>omega
         | n+1,hn=>
          obtain⟨l',e,h1,h2⟩:=w7 n rest (m / 2) _ l (by omega) (by simp;omega) h;refine⟨⟨((m / 2:Nat):Int),decide (remI (m:Int) 2=1),(encP (some (x,rest))).1⟩::l',by rw[e];simp,fun f hf=>?_,?_⟩
          . rcases List.mem_cons.1 hf with rfl | hf
            . refine⟨by show x.length<=_;omega,by show(last:Int) < ((m / 2:Nat):Int);omega,by show((m / 2:Nat):Int)<=1000;omega⟩
            grind
          grind
theorem dW{p:List UInt8}(hp:p.length<=90000):∃o,cV p=some o/\gr p=some o/\(o.2=0->vI p=some o.1/\(∀q,q∈o.1->q.length<=p.length)/\o.1.length<=p.length)/\(o.2≠0->vI p=none):=by
 obtain⟨o,h1,h2,h3⟩:=Kw hp;refine⟨o,h1,h2,fun h0=>⟨?_,?_,h3⟩,fun h0=>?_⟩
 . unfold vI;rw[h1]
   grind
 . obtain⟨o',a1,_,_⟩:=po p.length p [] (by omega) (by simp;omega);rw[cV,a1]at h1;cases o' with
   | inl e=>grind
   | inr l=>
    have:o=(l,0):=(Option.some.inj h1).symm;subst this;intro q hq;rcases x7 p.length p [] l (by omega) (by simp;omega) a1 q hq with h | h
    . cases h
    . exact h
 . unfold vI;rw[h1]
   grind
theorem lZ{p:List UInt8}(hp:p.length<=90000):∃o,dT p=some o/\jq p=some o/\(o.2=0->vFl p=some o.1/\(∀f,f∈o.1->f.Data.length<=p.length/\I1000 f.ID)/\o.1.Pairwise (fun a b=>a.ID < b.ID)/\o.1.length<=p.length)/\(o.2≠0->vFl p=none):=by
 obtain⟨o,h1,h2,h3⟩:=IA hp;obtain⟨o',a1,_,_⟩:=xH p.length p 0 [] (by omega) (by simp;omega);have key:o.2=0->(∀f,f∈o.1->f.Data.length<=p.length/\I1000 f.ID)/\o.1.Pairwise (fun a b=>a.ID < b.ID):=by
  intro h0;have h1':=h1;have a1':bw (0,p,[])=some o':=a1;rw[dT,a1']at h1';cases o' with
  | inl e=>
   have:o=([],e):=(Option.some.inj h1').symm;simp_all
  | inr l=>
   have:o=(l,0):=(Option.some.inj h1').symm;subst this;obtain⟨l',e,b1,b2⟩:=w7 p.length p 0 [] l (by omega) (by simp;omega) a1;have:l=l':=by simpa using e
   subst this;exact⟨fun f hf=>by have:=b1 f hf;exact⟨this.1,by omega,this.2.2⟩,b2⟩
 refine⟨o,h1,h2,fun h0=>⟨?_,(key h0).1,(key h0).2,h3⟩,fun h0=>?_⟩
 . unfold vFl;rw[h1]
   grind
 . unfold vFl;rw[h1]
   grind
theorem pC(p:List UInt8):∃o,dy p=some o/\jy p=some o/\(o.2.2=0->vA p=some (o.1,o.2.1)/\o.2.1.length<=p.length/\I1000 o.1)/\(o.2.2≠0->vA p=none):=by
 obtain⟨o,h1,h2⟩:=NL p;have key:o.2.2=0->o.2.1.length<=p.length/\I1000 o.1:=by
  intro h0;have h1':=h1;rw[dy]at h1';rcases vg0 p with⟨e,he,hg⟩ | ⟨m,k,hg,hk0,hk,hm⟩
  . rw[gQ he hg]at h1'
    grind
  . rw[eo hg hk]at h1';simp only[oZ4,oZ3]at h1';by_cases hc:(m:Int) < 1\/1000 < (m:Int)
    . grind
    . have hcc:¬((bif bif (!true)then true else decide ((m:Int) < 1)then true else decide (1000 < (m:Int)))=true):=by grind
      rw[if_neg hcc,wrp64 (by omega) (by omega)]at h1';have:o=((m:Int),p.drop k,0):=(Option.some.inj h1').symm;subst this;exact⟨by show(p.drop k).length<=_;rw[List.length_drop];omega,by omega,by show(m:Int)<=1000;omega⟩
 refine⟨o,h1,h2,fun h0=>⟨?_,(key h0).1,(key h0).2⟩,fun h0=>?_⟩
 . unfold vA;rw[h1]
   grind
 . unfold vA;rw[h1]
   grind
def bQ(a b:List UInt8):Bool:=bif decide ((a.length:Int) < (b.length:Int))then true else bif decide ((a.length:Int)=(b.length:Int))then Op.bytesLess a b else false
def vcan(ts:List ae):Nat->Int->List UInt8->Prop
 | 0,_,_=>False
 | r+1,t,p=>
  let x:=ts.getD t.toNat af
  (x.Kind=1/\(p=[]\/p=[1]))\/
  (x.Kind=2/\∃n,vub p=some n/\x.Low<=unz n/\unz n<=x.High)\/
  (x.Kind=3/\(p.length:Int)<=x.Max)\/
  (x.Kind=4/\∃n,vub p=some n/\(1<=n/\n<=1000)/\((∃y,y∈x.Symbols/\y.ID=(n:Int))\/x.Open=true))\/
  (x.Kind=5/\∃l,vFl p=some l/\(∀f,f∈l->(findM x.Members f.ID=none->f.Critical=false)/\∀m,findM x.Members f.ID=some m->f.Critical=m.Critical/\vcan ts r m.Type_ f.Data/\(m.HasDefault=true->f.Data≠vpay ts m.Type_ m.Default))/\∀m,m∈x.Members->m.HasDefault=false->∃f,f∈l/\f.ID=m.ID)\/
  (x.Kind=6/\∃id q,vA p=some (id,q)/\(findM x.Members id=none->x.Open=true)/\∀m,findM x.Members id=some m->vcan ts r m.Type_ q)\/
  (x.Kind=7/\∃l,vI p=some l/\(l.length:Int)<=x.Max/\∀q,q∈l->vcan ts r x.Elem q)\/
  (x.Kind=8/\∃l,vI p=some l/\l.length % 2=0/\((l.length / 2:Nat):Int)<=x.Max/\∀i,2*i+1 < l.length->vcan ts r x.Key (l.getD (2*i) [])/\vcan ts r x.Elem (l.getD (2*i+1) [])/\(0 < i->bQ (l.getD (2*i - 2) []) (l.getD (2*i) [])=true))\/
  (x.Kind=9/\(p=[]\/∃q,p=1::q/\vcan ts r x.Elem q))
theorem o5 :∀{A B:List Int},A.Nodup->(∀a,a∈A->a∈B)->A.length<=B.length
 | [],B,_,_=>by simp
 | a::A,B,hn,hs=>by
  have hn':=List.nodup_cons.1 hn;have h1:=o5 (A:=A) (B:=B.erase a) hn'.2 (fun b hb=>by grind)
  grind
theorem IT{A B:List Int}(hn:A.Nodup)(hs:∀a,a∈A->a∈B)(hB:B.Nodup):A.length=B.length↔∀b,b∈B->b∈A:=by
 constructor
 . intro h b hb;apply Classical.byContradiction;intro hc;have h1:=o5 (A:=A) (B:=B.erase b) hn (fun a ha=>by grind)
   grind
 . intro h;have h1:=o5 hn hs;have h2:=o5 hB h;omega
section
variable {ts:List ae}
abbrev rdr(ts:List ae):bj:=⟨⟨ts⟩⟩
def Ce(ts:List ae)(r:Nat)(L:Nat):Prop:=∀(t:Int) (p:List UInt8),0<=t->t < ts.length->p.length<=4096->SaysP (ba (rdr ts,t,p,(L:Int))) (vcan ts r t p)
theorem IU(a b:List UInt8):nU (a,b)=some (bQ a b):=rfl
theorem KM(a b:List UInt8):nH (a,b)=some (bQ a b):=rfl
theorem GB {x : ae} (hs : x.Symbols.length < 9223372036854775807) (p : List UInt8) (hk : x.Kind = 1 \/ x.Kind = 2 \/ x.Kind = 3 \/ x.Kind = 4): SaysP (jG (x, p)) ((x.Kind = 1 /\ (p = [] \/ p = [1])) \/
 (x.Kind=2/\∃n,vub p=some n/\x.Low<=unz n/\unz n<=x.High)\/
 (x.Kind=3/\(p.length:Int)<=x.Max)\/
 (x.Kind=4/\∃n,vub p=some n/\(1<=n/\n<=1000)/\((∃y,y∈x.Symbols/\y.ID=(n:Int))\/x.Open=true))):=by
 rw[jG];have hk4:¬x.Kind=1->¬x.Kind=3->¬x.Kind=2->x.Kind=4:=by omega
 by_cases k1:x.Kind=1
 . rw[if_pos (by simp[k1])];refine .of ?_;by_cases h:p=[] <;> simp[h,k1]
 by_cases k3:x.Kind=3
 . rw[if_neg (by simp[k1]),if_pos (by simp[k3])];refine .of ?_;simp[k3]
 rw[if_neg (by simp[k1]),if_neg (by simp[k3])];obtain⟨r,r1,_,r3,r4⟩:=oL p;rw[r1];simp only[oZ4,oZ3];by_cases h0:r.2=0
 . obtain⟨n,n1,n2⟩:=r3 h0;have hn:=nn n1;rw[if_neg (by simp[h0]),n2,n1];by_cases k2:x.Kind=2
   . rw[if_pos (by simp[k2]),BZ hn];refine .of ?_;by_cases g:x.Low<=unz n <;> simp[g,k2]
   . have k4:x.Kind=4:=hk4 k1 k3 k2;rw[if_neg (by simp[k2])];by_cases hr:1<=n/\n<=1000
     . have a:¬(n:Int) < 1:=by omega
       have b:¬(1000:Int) < (n:Int):=by omega
       obtain⟨q,q1,_,qf⟩:=lX (t:=x) (n:Int) hs;rw[if_neg (by simp only[a,b,decide_false,cond_false,Bool.false_eq_true,not_false_eq_true]),wrp64 (by omega) (by omega),q1];refine⟨_,rfl,?_⟩;have:=oK qf;cases hq:q.2 with
       | true=>
        have h1:=this.1 hq;simp[k4,hr,h1]
       | false=>
        have h1:¬∃y,y∈x.Symbols/\y.ID=(n:Int):=fun h=>by rw[this.2 h]at hq;cases hq
        simp only[cond_false];constructor
        . intro h;exact .inr (.inr (.inr ⟨k4,n,rfl,hr,.inr h⟩))
        . rintro (⟨h,_⟩ | ⟨h,_⟩ | ⟨h,_⟩ | ⟨_,m,hm,_,h⟩)
          . exact absurd h k1
          . exact absurd h k2
          . exact absurd h k3
          . cases hm;rcases h with h | h
            . exact absurd h h1
            . exact h
     . have hc:(bif decide ((n:Int) < 1)then true else decide (1000 < (n:Int)))=true:=by grind
       rw[if_pos hc];refine⟨false,rfl,?_⟩;constructor
       . intro h;cases h
       . rintro (⟨h,_⟩ | ⟨h,_⟩ | ⟨h,_⟩ | ⟨_,m,hm,h,_⟩)
         . exact absurd h k1
         . exact absurd h k2
         . exact absurd h k3
         . cases hm;exact absurd h hr
 . have hv:=r4 h0;rw[if_pos (by simp[h0]),hv];refine⟨false,rfl,?_⟩;constructor
   . intro h;cases h
   . rintro (⟨h,_⟩ | ⟨_,m,hm,_⟩ | ⟨h,_⟩ | ⟨_,m,hm,_⟩)
     . exact absurd h k1
     . cases hm
     . exact absurd h k3
     . cases hm
def okF(ts:List ae)(r:Nat)(Ms:List aj)(f:aF):Prop:=(findM Ms f.ID=none->f.Critical=false)/\∀m,findM Ms f.ID=some m->f.Critical=m.Critical/\vcan ts r m.Type_ f.Data/\(m.HasDefault=true->f.Data≠vpay ts m.Type_ m.Default)
def needF(Ms:List aj)(l:List aF):List aF:=l.filter fun f=>match findM Ms f.ID with
 | some m=>!m.HasDefault
 | none=>false
theorem Am (H : DrOk ts) {r L : Nat} (hL : L <= 300) (ih : Ce ts r (L + 1)) {x : ae} (hx : x ∈ ts) (hMt : ∀ m, m ∈ x.Members -> 0 <= m.Type_ /\ m.Type_ < ts.length) {l : List aF} (hl : l.length <= 100000) (hd : ∀ f, f ∈ l -> f.Data.length <= 4096):
 ∀(k i seen:Nat),i+k=l.length->seen<=i->(cC ((L:Int),(seen:Int),l,(l.length:Int),(i:Int),ts,x)=some (.inr (((seen+(needF x.Members (l.drop i)).length:Nat):Int),x))/\∀f,f∈l.drop i->okF ts r x.Members f)\/
  (cC ((L:Int),(seen:Int),l,(l.length:Int),(i:Int),ts,x)=some (.inl false)/\¬∀f,f∈l.drop i->okF ts r x.Members f)
 | 0,i,seen,hi,hs=>by
  left;rw[cC,if_neg (by simp;omega),List.drop_eq_nil_of_le (by omega:l.length<=i)];exact⟨rfl,fun f hf=>by cases hf⟩
 | k+1,i,seen,hi,hs=>by
  have hlt:i < l.length:=by omega
  have hm7:x.Members.length < 9223372036854775807:=aT (bN (H.T _ hx).mems);have hmem:=aB hlt aN;obtain⟨q,q1,_,qf⟩:=cW (t:=x) (l.getD i aN).ID hm7;have ih':=Am H hL ih hx hMt hl hd k (i+1);rw[br hlt aN];have hall:∀P:aF->Prop,(∀f,f∈l.getD i aN::l.drop (i+1)->P f)↔P (l.getD i aN)/\∀f,f∈l.drop (i+1)->P f:=fun P=>by grind
  rw[hall];rw[cC,if_pos (by simp;omega),if_pos (au hlt)];simp only[oZ4,oZ3,aw];rw[q1];simp only[oZ3];generalize hf:l.getD i aN=f at*;rcases fy qf with⟨e,j,j1,j2,j3,j4⟩ | ⟨e,j3⟩
  . rw[if_neg (by simp[e]),j2,if_pos (au j1)];simp only[aw,ab.aD];have hmm:=aB j1 ap;obtain⟨m0,m1⟩:=hMt _ hmm;have hdef:=H.D _ hx _ hmm;have hdo:=(H.T _ hx).dv _ hmm;have hdw:=H.W _ hx _ hmm;generalize x.Members.getD j ap=m at*
    have hok:okF ts r x.Members f↔f.Critical=m.Critical/\vcan ts r m.Type_ f.Data/\(m.HasDefault=true->f.Data≠vpay ts m.Type_ m.Default):=by
     unfold okF
     grind
    have hneed:needF x.Members (f::l.drop (i+1))=if m.HasDefault=true then needF x.Members (l.drop (i+1))else f::needF x.Members (l.drop (i+1)):=by
     unfold needF
     grind
    obtain⟨w,w1,w2⟩:=ih m.Type_ f.Data m0 m1 (hd _ hmem);have e1:addI .i64 (L:Int) 1=((L+1:Nat):Int):=aA (by omega);rw[hok,hneed];by_cases hcr:f.Critical=m.Critical
    . have hq:(!(eqB f.Critical m.Critical))=false:=by rw[hcr];cases m.Critical <;> rfl
      have w1':ba ((⟨(⟨ts⟩:av)⟩:bj),m.Type_,f.Data,((L+1:Nat):Int))=some w:=w1;rw[hq,if_pos (by simp),e1,w1'];simp only[oZ3,cond_false];cases w with
      | false=>grind
      | true=>
       have hw:=w2.1 rfl;rw[if_neg (by simp)];cases hdf:m.HasDefault with
       | true=>
        have hfit:=hdef hdf;obtain⟨z,z1,z2⟩:=zc (H.V.sok H.T) hdo m.Type_ false;have hz:=z2.2 (vfit_weak _ _ hfit);subst hz;have hF:fC ((⟨ts⟩:av),m.Type_,m.Default)=some true:=by
         rw[fC];simp only[ab.aD];rw[z1];rfl
        have hE:=Ag (H.V.sok H.T) hdo (by have:=hdw hdf;omega) (vfit_weak _ _ hfit);rw[if_pos rfl,hF];simp only[oZ3];rw[if_pos trivial,hE];simp only[oZ3,cond_true];by_cases hp:vpay ts m.Type_ m.Default=f.Data
        . right;rw[if_pos (by simpa using hp)];exact⟨rfl,fun h=>h.1.2.2 trivial hp.symm⟩
        . rw[if_neg (by simpa using hp),aA (by omega)];rcases ih' seen (by omega) (by omega)with⟨a,b⟩ | ⟨a,b⟩
          . left;rw[if_pos trivial];exact⟨a,⟨hcr,hw,fun _=>fun e=>hp e.symm⟩,b⟩
          . right;exact⟨a,fun h=>b h.2⟩
       | false=>
        have e2:addI .i64 (seen:Int) 1=((seen+1:Nat):Int):=aA (by omega);rw[if_neg (by simp),e2,aA (by omega)];rcases ih' (seen+1) (by omega) (by omega)with⟨a,b⟩ | ⟨a,b⟩
        . grind
        grind
    . right;have hq:(!(eqB f.Critical m.Critical))=true:=by cases h1:f.Critical <;> cases h2:m.Critical <;> rw[h1,h2]at hcr <;> first | rfl | exact absurd rfl hcr
      grind
  . have hok:okF ts r x.Members f↔f.Critical=false:=by
     unfold okF
     grind
    have hneed:needF x.Members (f::l.drop (i+1))=needF x.Members (l.drop (i+1)):=by
     unfold needF
     grind
    rw[hok,hneed,if_pos (by simp[e])];cases hcr:f.Critical with
    | true=>grind
    | false=>
     rw[if_neg (by simp),aA (by omega)]
     grind
theorem sY{Ms:List aj}(hl:Ms.length<=1000):∀(k i:Nat) (seen:Int),i+k=Ms.length->-100000<=seen - k->seen<=200000->eR (seen,Ms,(Ms.length:Int),(i:Int))=some (seen - (((Ms.drop i).filter fun m=>!m.HasDefault).length:Int))
 | 0,i,seen,hi,h1,h2=>by
  rw[eR,if_neg (by simp;omega),List.drop_eq_nil_of_le (by omega:Ms.length<=i)];simp
 | k+1,i,seen,hi,h1,h2=>by
  have hlt:i < Ms.length:=by omega
  rw[eR,if_pos (by simp;omega),if_pos (au hlt),br hlt ap];simp only[aw];rw[List.filter_cons,aA (by omega)];cases (Ms.getD i ap).HasDefault with
  | true=>
   simp only[Bool.not_true,Bool.false_eq_true,if_false];exact sY hl k (i+1) seen (by omega) (by omega) h2
  | false=>
   simp only[Bool.not_false,if_true,List.length_cons];rw[bP (by omega) (by omega),sY hl k (i+1) _ (by omega) (by omega) (by omega)]
   grind
theorem KN{Ms:List aj}(hM:MAsc Ms){l:List aF}(hl:l.Pairwise (fun a b=>a.ID < b.ID)):(needF Ms l).length=(Ms.filter fun m=>!m.HasDefault).length↔∀m,m∈Ms->m.HasDefault=false->∃f,f∈l/\f.ID=m.ID:=by
 have hA:((needF Ms l).map (·.ID)).Nodup:=by
  unfold List.Nodup;rw[List.pairwise_map]
  have:=hl.sublist (List.filter_sublist (l:=l) (p:=fun f=>match findM Ms f.ID with
   | some m=>!m.HasDefault
   | none=>false))
  exact this.imp fun {a b} h=>by omega
 have hB:((Ms.filter fun m=>!m.HasDefault).map (·.ID)).Nodup:=by
  unfold List.Nodup;rw[List.pairwise_map];exact(hM.1.sublist List.filter_sublist).imp fun {a b} h=>by omega
 have hsub:∀a,a∈(needF Ms l).map (·.ID)->a∈(Ms.filter fun m=>!m.HasDefault).map (·.ID):=by
  intro a ha;obtain⟨f,hf,rfl⟩:=List.mem_map.1 ha;unfold needF at hf;rw[List.mem_filter]at hf;obtain⟨h1,h2⟩:=hf;cases hm:findM Ms f.ID with
  | none=>rw[hm]at h2;cases h2
  | some m=>
   rw[hm]at h2;have e1:=List.mem_of_find?_eq_some hm;have e2:=List.find?_some hm
   grind
 have:=IT hA hsub hB;simp only[List.length_map]at this;rw[this];constructor
 . intro h m hm hd;obtain⟨f,hf,e⟩:=List.mem_map.1 (h m.ID (List.mem_map.2 ⟨m,List.mem_filter.2 ⟨hm,by simp[hd]⟩,rfl⟩));unfold needF at hf
   grind
 . intro h b hb;obtain⟨m,hm,rfl⟩:=List.mem_map.1 hb;obtain⟨h1,h2⟩:=List.mem_filter.1 hm;obtain⟨f,f1,f2⟩:=h m h1 (by simpa using h2);refine List.mem_map.2 ⟨f,?_,f2⟩;unfold needF;refine List.mem_filter.2 ⟨f1,?_⟩;have hfind:findM Ms f.ID=some m:=by
    obtain⟨j,hj,hjm⟩:=List.getElem_of_mem h1;unfold findM;rw[List.find?_eq_some_iff_getElem];refine⟨by simp[f2],j,hj,hjm,fun i hi=>?_⟩;have hp:=List.pairwise_iff_getElem.1 hM.1 i j (by omega) hj hi
    grind
   grind
end
section
variable {ts:List ae}
theorem F7 {r L : Nat} (hL : L <= 300) {x : ae} {l : List (List UInt8)} (hl : l.length <= 100000) (ih : ∀ q, q ∈ l -> SaysP (ba (rdr ts, x.Elem, q, ((L + 1 : Nat): Int))) (vcan ts r x.Elem q)):
 ∃b,kO (l,ts,x.Kind,x.Name,x.Low,x.High,x.Max,x.Symbols,x.Members,x.Key,x.Elem,x.Open,(L:Int))=some (b,ts,x.Kind,x.Name,x.Low,x.High,x.Max,x.Symbols,x.Members,x.Key,x.Elem,x.Open,(L:Int))/\(b=false↔∀q,q∈l->vcan ts r x.Elem q):=by
 let p:Nat->Bool:=fun i=>(ba (rdr ts,x.Elem,l.getD i [],((L+1:Nat):Int))).getD false
 have hp:∀i,i < l.length->ba (rdr ts,x.Elem,l.getD i [],((L+1:Nat):Int))=some (p i)/\(p i=true↔vcan ts r x.Elem (l.getD i [])):=by
  intro i hi;obtain⟨w,h1,h2⟩:=ih _ (aB hi [])
  grind
 have e1:addI .i64 (L:Int) 1=((L+1:Nat):Int):=aA (by omega)
 have hf:=iS (fun i=>fZ (l,(l.length:Int),(i:Int),ts,x.Kind,x.Name,x.Low,x.High,x.Max,x.Symbols,x.Members,x.Key,x.Elem,x.Open,(L:Int))) l.length (fun i=>!(p i)) (fun i=>.inl ((i:Int),ts,x.Kind,x.Name,x.Low,x.High,x.Max,x.Symbols,x.Members,x.Key,x.Elem,x.Open,(L:Int))) (.inr (ts,x.Kind,x.Name,x.Low,x.High,x.Max,x.Symbols,x.Members,x.Key,x.Elem,x.Open,(L:Int)))
  (fun i hi=>by
   have h1:ba ((⟨(⟨ts⟩:av)⟩:bj),x.Elem,l.getD i [],((L+1:Nat):Int))=some (p i):=(hp i hi).1;rw[fZ,if_pos (by simp;omega),if_pos (au hi),qc];simp only[aw];rw[e1,h1,aA (by omega)]
   rfl)
  (by rw[fZ,if_neg (by simp)])
 have e0:fZ (l,(l.length:Int),((0:Nat):Int),ts,x.Kind,x.Name,x.Low,x.High,x.Max,x.Symbols,x.Members,x.Key,x.Elem,x.Open,(L:Int))=fZ (l,(l.length:Int),0,ts,x.Kind,x.Name,x.Low,x.High,x.Max,x.Symbols,x.Members,x.Key,x.Elem,x.Open,(L:Int)):=rfl;simp only[e0]at hf;rw[kO,p8];rcases hf with⟨j,h1,h2,h3,h4⟩ | ⟨h1,h4⟩
 . rw[h4];refine⟨true,?_,?_⟩
   . have e:decide ((0:Int)<=(j:Int))=true:=by simp
     simp only[oZ4,oZ3,e]
   . constructor
     . intro h;cases h
     . intro h;have:=(hp j h1).2.2 (h _ (aB h1 []));simp[this]at h2
 . rw[h4];refine⟨false,rfl,?_⟩;simp only[true_iff];intro q hq;obtain⟨i,hi,rfl⟩:=List.getElem_of_mem hq;have:=(hp i hi).2.1 (by simpa using h1 i hi);rw[bl hi]at this;exact this
theorem An {γ : Type} (a e Z sh I0 I2 : Bool) (sI iI : Int) (J : Int -> Bool) (I1 : Int -> Bool) (E : Int -> Option Bool) (B : Int -> Option Bool) (X Y : Option γ) (hE : E iI = some e) (hJ : J iI = true) (hI2 : I2 = true) (h1 : Z = true -> I1 sI = true /\ B sI = some sh):
 (some a >>=fun r_18=>some (!r_18) >>=fun t61=>some iI >>=fun t68=>if(J t68 || (!(!t61)))=true then(if(!t61)=true then E t68 else some false) >>=fun r_19=>some (bif t61 then true else(!r_19)) >>=fun t75=>some Z >>=fun t78=>some sI >>=fun t82=>
  if(I1 t82 || (!((!t75) && t78)))=true then if(I2 || (!((!t75) && t78)))=true then(if((!t75) && t78)=true then B t82 else some false) >>=fun r_20=>if(bif t75 then true else bif t78 then(!r_20)else false)=true then X else Y else none else none else none)=if(a && e && (!Z || sh))=true then Y else X:=by
 subst hI2;simp only[oZ4,oZ3];rw[hE,hJ];cases Z with
 | true=>
  obtain⟨h2,h3⟩:=h1 rfl;rw[h2,h3];cases a <;> cases e <;> cases sh <;> rfl
 | false=>
  generalize I1 sI=d;cases a <;> cases e <;> cases d <;> cases sh <;> rfl
theorem LG {r L : Nat} (hL : L <= 300) {x : ae} {l : List (List UInt8)} (hl : l.length <= 100000) (he : l.length % 2 = 0) (ihk : ∀ q, q ∈ l -> SaysP (ba (rdr ts, x.Key, q, ((L + 1 : Nat): Int))) (vcan ts r x.Key q)) (ihe : ∀ q, q ∈ l -> SaysP (ba (rdr ts, x.Elem, q, ((L + 1 : Nat): Int))) (vcan ts r x.Elem q)):
 SaysP (dN (l,0,ts,x.Kind,x.Name,x.Low,x.High,x.Max,x.Symbols,x.Members,x.Key,x.Elem,x.Open,(L:Int)) >>=fun o=>match o with | .inl x=>some x | .inr _=>some true)
  (∀i,2*i+1 < l.length->vcan ts r x.Key (l.getD (2*i) [])/\vcan ts r x.Elem (l.getD (2*i+1) [])/\(0 < i->bQ (l.getD (2*i - 2) []) (l.getD (2*i) [])=true)):=by
 let a:Nat->Bool:=fun i=>(ba (rdr ts,x.Key,l.getD (2*i) [],((L+1:Nat):Int))).getD false
 let e:Nat->Bool:=fun i=>(ba (rdr ts,x.Elem,l.getD (2*i+1) [],((L+1:Nat):Int))).getD false
 have ha:∀i,2*i < l.length->ba (rdr ts,x.Key,l.getD (2*i) [],((L+1:Nat):Int))=some (a i)/\(a i=true↔vcan ts r x.Key (l.getD (2*i) [])):=by
  intro i hi;obtain⟨w,h1,h2⟩:=ihk _ (aB hi [])
  grind
 have hee:∀i,2*i+1 < l.length->ba (rdr ts,x.Elem,l.getD (2*i+1) [],((L+1:Nat):Int))=some (e i)/\(e i=true↔vcan ts r x.Elem (l.getD (2*i+1) [])):=by
  intro i hi;obtain⟨w,h1,h2⟩:=ihe _ (aB hi [])
  grind
 have e1:addI .i64 (L:Int) 1=((L+1:Nat):Int):=aA (by omega)
 refine(SaysP.loop (L:=fun i=>dN (l,((2*i:Nat):Int),ts,x.Kind,x.Name,x.Low,x.High,x.Max,x.Symbols,x.Members,x.Key,x.Elem,x.Open,(L:Int))) (n:=l.length / 2) (p:=fun i=>a i && e i && (!(decide ((0:Int) < ((2*i:Nat):Int))) || bQ (l.getD (2*i - 2) []) (l.getD (2*i) []))) (g:=()) rfl (fun i hi=>?_) ?_).imp ?_
 . show dN (l,((2*i:Nat):Int),ts,x.Kind,x.Name,x.Low,x.High,x.Max,x.Symbols,x.Members,x.Key,x.Elem,x.Open,(L:Int))=if _ then dN (l,((2*(i+1):Nat):Int),ts,x.Kind,x.Name,x.Low,x.High,x.Max,x.Symbols,x.Members,x.Key,x.Elem,x.Open,(L:Int))else _
   have h2:2*i < l.length:=by omega
   have h3:2*i+1 < l.length:=by omega
   have ha':ba ((⟨(⟨ts⟩:av)⟩:bj),x.Key,l.getD (2*i) [],((L+1:Nat):Int))=some (a i):=(ha i h2).1;have hst:addI .i64 ((2*i:Nat):Int) 2=((2*(i+1):Nat):Int):=by
    have:=pK (a:=2*i) (b:=2) (by omega);omega
   have hs1:addI .i64 ((2*i:Nat):Int) 1=((2*i+1:Nat):Int):=aA (by omega);rw[dN,if_pos (by simp;omega),if_pos (au h2)];simp only[aw];rw[e1,ha',hst,hs1]
   refine An (a i) (e i) (decide ((0:Int) < ((2*i:Nat):Int))) (bQ (l.getD (2*i - 2) []) (l.getD (2*i) [])) true (inR ((2*i:Nat):Int) l.length) (subI .i64 ((2*i:Nat):Int) 2) ((2*i+1:Nat):Int) (fun j=>inR j l.length) (fun j=>inR j l.length) (fun j=>ba ((⟨(⟨ts⟩:av)⟩:bj),x.Elem,l.getD j.toNat [],((L+1:Nat):Int))) (fun j=>nU (l.getD j.toNat [],l.getD (2*i) [])) _ _ ?_ (au h3) (au h2) (fun hz=>?_)
   . show ba _=_;rw[aw];exact(hee i h3).1
   . have:0 < i:=by simp at hz;omega
     have hsub:subI .i64 ((2*i:Nat):Int) 2=((2*i - 2:Nat):Int):=by rw[bP (by omega) (by omega)];omega
     rw[hsub,aw];exact⟨au (by omega),IU _ _⟩
 . show dN (l,((2*(l.length / 2):Nat):Int),ts,x.Kind,x.Name,x.Low,x.High,x.Max,x.Symbols,x.Members,x.Key,x.Elem,x.Open,(L:Int))=_;have:2*(l.length / 2)=l.length:=by omega
   rw[this,dN,if_neg (by simp)]
 . constructor
   . intro h i hi;have:=h i (by omega);simp only[Bool.and_eq_true,Bool.or_eq_true]at this;refine⟨(ha i (by omega)).2.1 this.1.1,(hee i hi).2.1 this.1.2,fun h0=>?_⟩;rcases this.2 with h | h
     . exfalso
       have hd:decide ((0:Int) < ((2*i:Nat):Int))=true:=by simp;omega
       rw[hd]at h;cases h
     . exact h
   . intro h i hi;obtain⟨h1,h2,h3⟩:=h i (by omega);simp only[Bool.and_eq_true,Bool.or_eq_true];refine⟨⟨(ha i (by omega)).2.2 h1,(hee i (by omega)).2.2 h2⟩,?_⟩;by_cases h0:0 < i
     . exact .inr (h3 h0)
     . left;have:i=0:=by omega
       subst this;rfl
theorem sZ (r : Nat) (t : Int) (p : List UInt8): vcan ts (r + 1) t p ↔
 (((ts.getD t.toNat af).Kind=1/\(p=[]\/p=[1]))\/
 ((ts.getD t.toNat af).Kind=2/\∃n,vub p=some n/\(ts.getD t.toNat af).Low<=unz n/\unz n<=(ts.getD t.toNat af).High)\/
 ((ts.getD t.toNat af).Kind=3/\(p.length:Int)<=(ts.getD t.toNat af).Max)\/
 ((ts.getD t.toNat af).Kind=4/\∃n,vub p=some n/\(1<=n/\n<=1000)/\((∃y,y∈(ts.getD t.toNat af).Symbols/\y.ID=(n:Int))\/(ts.getD t.toNat af).Open=true)))\/
 ((ts.getD t.toNat af).Kind=5/\∃l,vFl p=some l/\(∀f,f∈l->okF ts r (ts.getD t.toNat af).Members f)/\∀m,m∈(ts.getD t.toNat af).Members->m.HasDefault=false->∃f,f∈l/\f.ID=m.ID)\/
 ((ts.getD t.toNat af).Kind=6/\∃id q,vA p=some (id,q)/\(findM (ts.getD t.toNat af).Members id=none->(ts.getD t.toNat af).Open=true)/\∀m,findM (ts.getD t.toNat af).Members id=some m->vcan ts r m.Type_ q)\/
 ((ts.getD t.toNat af).Kind=7/\∃l,vI p=some l/\(l.length:Int)<=(ts.getD t.toNat af).Max/\∀q,q∈l->vcan ts r (ts.getD t.toNat af).Elem q)\/
 ((ts.getD t.toNat af).Kind=8/\∃l,vI p=some l/\l.length % 2=0/\((l.length / 2:Nat):Int)<=(ts.getD t.toNat af).Max/\∀i,2*i+1 < l.length->vcan ts r (ts.getD t.toNat af).Key (l.getD (2*i) [])/\vcan ts r (ts.getD t.toNat af).Elem (l.getD (2*i+1) [])/\(0 < i->bQ (l.getD (2*i - 2) []) (l.getD (2*i) [])=true))\/
 ((ts.getD t.toNat af).Kind=9/\(p=[]\/∃q,p=1::q/\vcan ts r (ts.getD t.toNat af).Elem q)):=by
 rw[vcan];simp only[or_assoc];exact Iff.rfl
theorem Ao(H:DrOk ts):∀(r L:Nat),L+r=201->1<=L->Ce ts r L
 | 0,L,hr,h1=>by
  intro t p ht0 ht1 hp;obtain⟨j,rfl⟩:∃j:Nat,t=(j:Int):=⟨t.toNat,by omega⟩
  rw[ba,if_pos (au (by omega:j < ts.length))];simp only[oZ4,oZ3];rw[if_pos (by simp;omega)];refine⟨false,rfl,?_⟩;constructor
  . grind
  . intro h;exact h.elim
 | r+1,L,hr,h1=>by
  intro t p ht0 ht1 hp;have ih:=Ao H r (L+1) (by omega) (by omega);obtain⟨j,rfl⟩:∃j:Nat,t=(j:Int):=⟨t.toNat,by omega⟩
  have hj:j < ts.length:=by omega
  have hxm:=aB hj af;have hS:=H.V.sok H.T;have hU:=H.V.U _ hxm;have hK:=hS.K _ hxm;have hm7:(ts.getD j af).Members.length < 9223372036854775807:=aT (bN (H.T _ hxm).mems);have hs7:(ts.getD j af).Symbols.length < 9223372036854775807:=aT (bN (H.T _ hxm).syms)
  have hMt:∀m,m∈(ts.getD j af).Members->0<=m.Type_/\m.Type_ < ts.length:=fun m hm=>hU m.Type_ (List.mem_append.2 (.inl (List.mem_append.2 (.inl (List.mem_map.2 ⟨m,hm,rfl⟩)))))
  have e1:addI .i64 (L:Int) 1=((L+1:Nat):Int):=aA (by omega);rw[ba,if_pos (au hj)];simp only[oZ4,oZ3,aw];rw[if_neg (by simp;omega)];have hv:=sZ (ts:=ts) r (j:Int) p;rw[aw]at hv;have hA:=hS.A _ hxm;generalize hxx:ts.getD j af=x at*;have hM12:=(H.I _ hxm).2.2;unfold dF at hK
  have hc9:x.Kind=1\/x.Kind=2\/x.Kind=3\/x.Kind=4\/x.Kind=5\/x.Kind=6\/x.Kind=7\/x.Kind=8\/x.Kind=9:=by omega
  have simple:x.Kind=1\/x.Kind=2\/x.Kind=3\/x.Kind=4->SaysP (jG (x,p) >>=fun r_12=>some r_12) (vcan ts (r+1) (j:Int) p):=by
   intro hk;have:=kL (GB hs7 p hk);refine this.imp ?_
   grind
  rcases hc9 with k | k | k | k | k | k | k | k | k
  . grind
  . grind
  . grind
  . grind
  . rw[if_pos (by simp[k])];obtain⟨o,o1,_,o3,o4⟩:=lZ (p:=p) (by omega);have hv5:vcan ts (r+1) (j:Int) p↔∃l,vFl p=some l/\(∀f,f∈l->okF ts r x.Members f)/\∀m,m∈x.Members->m.HasDefault=false->∃f,f∈l/\f.ID=m.ID:=by grind
    have hR:∀{q:Option Bool} {P:Prop},SaysP q P->SaysP (q >>=fun r_1=>some r_1) P:=fun h=>kL h
    refine hR ?_;show SaysP (nB (rdr ts,x,p,(L:Int))) _;rw[nB,o1];simp only[oZ4,oZ3];by_cases h0:o.2=0
    . obtain⟨f1,f2,f3,f4⟩:=o3 h0;rw[if_neg (by simp[h0])];obtain⟨hma,_⟩:=hA (.inl k);have hrc:=Am H (by omega:L<=300) ih hxm hMt (l:=o.1) (by omega) (fun f hf=>by have:=(f2 f hf).1;omega) o.1.length 0 0 (by omega) (by omega)
      have e0:cC ((L:Int),((0:Nat):Int),o.1,(o.1.length:Int),((0:Nat):Int),ts,x)=cC ((L:Int),0,o.1,(o.1.length:Int),0,ts,x):=rfl;simp only[e0,List.drop_zero,Nat.zero_add]at hrc;rcases hrc with⟨a,b⟩ | ⟨a,b⟩
      . have hnl:(needF x.Members o.1).length<=o.1.length:=List.length_filter_le _ _;have hcnt:=sY (Ms:=x.Members) (by omega) x.Members.length 0 (((needF x.Members o.1).length:Nat):Int) (by omega) (by omega) (by omega);have hcnt':eR ((((needF x.Members o.1).length:Nat):Int),x.Members,(x.Members.length:Int),0)=_:=hcnt
        have ha':cC ((L:Int),0,o.1,(o.1.length:Int),0,(rdr ts).s.Types,x)=_:=a;rw[ha'];simp only[oZ3];rw[hcnt'];refine⟨_,rfl,?_⟩;rw[hv5];have hn:=KN (l:=o.1) hma f3
        grind
      . have ha':cC ((L:Int),0,o.1,(o.1.length:Int),0,(rdr ts).s.Types,x)=_:=a;rw[ha'];refine⟨false,rfl,?_⟩
        grind
    . rw[if_pos (by simp[h0])];refine⟨false,rfl,?_⟩
      grind
  . have hv6:vcan ts (r+1) (j:Int) p↔∃id q,vA p=some (id,q)/\(findM x.Members id=none->x.Open=true)/\∀m,findM x.Members id=some m->vcan ts r m.Type_ q:=by grind
    rw[if_neg (by simp[k])];have e7:decide (x.Kind=7)=false:=by simp[k]
    rw[e7,if_neg (by simp),if_neg (by simp[k]),if_neg (by simp[k]),if_pos (by simp[k])];obtain⟨o,o1,_,o3,o4⟩:=pC p;rw[o1];simp only[oZ3];by_cases h0:o.2.2=0
    . obtain⟨f1,f2,f3⟩:=o3 h0;rw[if_neg (by simp[h0])];obtain⟨q,q1,_,qf⟩:=cW (t:=x) o.1 hm7;rw[q1];simp only[oZ3];rcases fy qf with⟨e,i,i1,i2,i3,i4⟩ | ⟨e,i3⟩
      . have hmm:=aB i1 ap;obtain⟨m0,m1⟩:=hMt _ hmm;obtain⟨w,w1,w2⟩:=ih (x.Members.getD i ap).Type_ o.2.1 m0 m1 (by omega);have w1':ba ((⟨(⟨ts⟩:av)⟩:bj),(x.Members.getD i ap).Type_,o.2.1,((L+1:Nat):Int))=some w:=w1;rw[e];simp only[Bool.not_true,cond_false,Bool.not_false,Bool.and_self,if_true,Bool.or_false,cond_true]
        rw[i2,if_pos (au i1),aw,e1,w1'];refine⟨w,rfl,?_⟩
        grind
      . rw[e];simp only[Bool.not_false,cond_true,Bool.and_false,Bool.not_false,Bool.or_true,if_true,Bool.false_eq_true,if_false,oZ3,cond_false];refine⟨_,rfl,?_⟩
        grind
    . rw[if_pos (by simp[h0])];refine⟨false,rfl,?_⟩
      grind
  . have hv7:vcan ts (r+1) (j:Int) p↔∃l,vI p=some l/\(l.length:Int)<=x.Max/\∀q,q∈l->vcan ts r x.Elem q:=by grind
    obtain⟨el0,el1⟩:=hU x.Elem (by unfold usesL;simp[k]);obtain⟨o,o1,_,o3,o4⟩:=dW (p:=p) (by omega);have e7:decide (x.Kind=7)=true:=by simp[k]
    rw[if_neg (by simp[k]),e7,if_pos rfl,if_pos rfl];show SaysP (hY (rdr ts,x,p,(L:Int)) >>=fun r_2=>some r_2) _;refine kL ?_;rw[hY,o1];simp only[oZ4,oZ3];by_cases h0:o.2=0
    . obtain⟨f1,f2,f3⟩:=o3 h0;rw[if_neg (by simp[h0]),e7,if_pos rfl];obtain⟨b,b1,b2⟩:=F7 (ts:=ts) (r:=r) (L:=L) (by omega) (x:=x) (l:=o.1) (by omega) (fun q hq=>ih x.Elem q el0 el1 (by have:=f2 q hq;omega));by_cases hmx:(o.1.length:Int)<=x.Max
      . have hd:decide ((o.1.length:Int)<=x.Max)=true:=by simpa using hmx
        have b1':kO (o.1,(rdr ts).s.Types,x.Kind,x.Name,x.Low,x.High,x.Max,x.Symbols,x.Members,x.Key,x.Elem,x.Open,(L:Int))=_:=b1;rw[hd,if_pos rfl,b1'];refine⟨!b,rfl,?_⟩
        grind
      . have hd:decide ((o.1.length:Int)<=x.Max)=false:=by simpa using hmx
        rw[hd,if_neg (by simp)];refine⟨false,rfl,?_⟩
        grind
    . rw[if_pos (by simp[h0])];refine⟨false,rfl,?_⟩
      grind
  . have hv8:vcan ts (r+1) (j:Int) p↔∃l,vI p=some l/\l.length % 2=0/\((l.length / 2:Nat):Int)<=x.Max/\∀i,2*i+1 < l.length->vcan ts r x.Key (l.getD (2*i) [])/\vcan ts r x.Elem (l.getD (2*i+1) [])/\(0 < i->bQ (l.getD (2*i - 2) []) (l.getD (2*i) [])=true):=by grind
    obtain⟨el0,el1⟩:=hU x.Elem (by unfold usesL;simp[k]);obtain⟨kl0,kl1⟩:=hU x.Key (by unfold usesL;simp[k]);obtain⟨o,o1,_,o3,o4⟩:=dW (p:=p) (by omega);have e7:decide (x.Kind=7)=false:=by simp[k]
    rw[if_neg (by simp[k]),e7,if_neg (by simp),if_pos (by simp[k])];show SaysP (hY (rdr ts,x,p,(L:Int)) >>=fun r_2=>some r_2) _;refine kL ?_;rw[hY,o1];simp only[oZ4,oZ3];by_cases h0:o.2=0
    . obtain⟨f1,f2,f3⟩:=o3 h0;have hr2:remI (o.1.length:Int) 2=((o.1.length % 2:Nat):Int):=remIn (b:=2);have hq2:quoI .i64 (o.1.length:Int) 2=((o.1.length / 2:Nat):Int):=by
       unfold quoI;have e:(o.1.length:Int).tdiv 2=((o.1.length / 2:Nat):Int):=by rw[Int.tdiv_eq_ediv_of_nonneg (by omega)];omega
       rw[e,IntKind.wrap_i64];omega
      rw[if_neg (by simp[h0]),e7,if_neg (by simp),hr2,hq2];by_cases hev:o.1.length % 2=0
      . by_cases hmx:((o.1.length / 2:Nat):Int)<=x.Max
        . have hcc:¬((bif decide (((o.1.length % 2:Nat):Int)=1)then true else decide (x.Max < ((o.1.length / 2:Nat):Int)))=true):=by grind
          rw[if_neg hcc];have:=LG (ts:=ts) (r:=r) (L:=L) (by omega) (x:=x) (l:=o.1) (by omega) hev (fun q hq=>ih x.Key q kl0 kl1 (by have:=f2 q hq;omega)) (fun q hq=>ih x.Elem q el0 el1 (by have:=f2 q hq;omega));refine this.imp ?_
          grind
        . have hcc:(bif decide (((o.1.length % 2:Nat):Int)=1)then true else decide (x.Max < ((o.1.length / 2:Nat):Int)))=true:=by grind
          rw[if_pos hcc];refine⟨false,rfl,?_⟩
          grind
      . have hcc:(bif decide (((o.1.length % 2:Nat):Int)=1)then true else decide (x.Max < ((o.1.length / 2:Nat):Int)))=true:=by grind
        rw[if_pos hcc];refine⟨false,rfl,?_⟩
        grind
    . rw[if_pos (by simp[h0])];refine⟨false,rfl,?_⟩
      grind
  . have hv9:vcan ts (r+1) (j:Int) p↔(p=[]\/∃q,p=1::q/\vcan ts r x.Elem q):=by grind
    obtain⟨el0,el1⟩:=hU x.Elem (by unfold usesL;simp[k]);have e7:decide (x.Kind=7)=false:=by simp[k]
    rw[if_neg (by simp[k]),e7,if_neg (by simp),if_neg (by simp[k]),if_pos (by simp[k])];cases p with
    | nil=>
     refine⟨true,rfl,?_⟩
     grind
    | cons c q=>
     have hin:inR 0 (c::q).length=true:=au (k:=0) (by simp);have hsl:slR 1 ((c::q).length:Int) (c::q).length=true:=dA (a:=1) (by simp) (by simp);have hcut:cutL (c::q) 1 ((c::q).length:Int)=q:=by
      have:=iW (c::q) 1
      grind
     have hne:decide (c::q=[])=false:=by simp
     have hby:aY (c::q) 0=(c.toNat:Int):=dV (c::q) 0;rw[hne,hin,hsl,hby,hcut];simp only[Bool.not_false,Bool.true_or,if_true,Bool.true_and,cond_false];by_cases hc1:c=1
     . subst hc1;obtain⟨w,w1,w2⟩:=ih x.Elem q el0 el1 (by simp at hp;omega);have w1':ba ((⟨(⟨ts⟩:av)⟩:bj),x.Elem,q,((L+1:Nat):Int))=some w:=w1;have hd:decide (((1:UInt8).toNat:Int)=1)=true:=by decide
       rw[hd,if_pos rfl,e1,w1'];refine⟨w,rfl,?_⟩
       grind
     . have hd:decide ((c.toNat:Int)=1)=false:=by
        rw[decide_eq_false_iff_not];intro h;exact hc1 (UInt8.toNat_inj.1 (by grind))
       rw[hd];refine⟨false,rfl,?_⟩
       grind
end
section
variable {ts:List ae}
def Cr(ts:List ae)(r:Nat):Prop:=∀(t:Int) (p:List UInt8),0<=t->t < ts.length->p.length<=4096->SaysP (bu ((⟨ts⟩:av),t,p,(r:Int))) (vcan ts r t p)
theorem tp {l : List aF} (hl : l.length <= 100000) {x : ae} {m : aj} (lv i : Int): ∀ (k j : Nat) (a : Int), j + k = l.length -> (a = -1 /\ (∀ q, q < j -> (l.getD q aN).ID ≠ m.ID) \/ ∃ q : Nat, q < l.length /\ a = (q : Int) /\ (l.getD q aN).ID = m.ID) ->
 ∃a',eL (lv,l,i,a,(j:Int),ts,x.Kind,x.Name,x.Low,x.High,x.Max,x.Symbols,x.Members,x.Key,x.Elem,x.Open,m)=some (lv,l,i,a',ts,x.Kind,x.Name,x.Low,x.High,x.Max,x.Symbols,x.Members,x.Key,x.Elem,x.Open,m)/\(a'= -1/\(∀q,q < l.length->(l.getD q aN).ID≠m.ID)\/∃q:Nat,q < l.length/\a'=(q:Int)/\(l.getD q aN).ID=m.ID)
 | 0,j,a,hj,ha=>by
  refine⟨a,by rw[eL,if_neg (by simp;omega),cw],?_⟩
  grind
 | k+1,j,a,hj,ha=>by
  have hlt:j < l.length:=by omega
  rw[eL,if_pos (by simp;omega),if_pos (au hlt)];simp only[aw,cw];by_cases e:(l.getD j aN).ID=m.ID
  . rw[if_pos (by simpa using e),aA (by omega)];exact tp hl lv i k (j+1) (j:Int) (by omega) (.inr ⟨j,hlt,rfl,e⟩)
  . rw[if_neg (by simpa using e),aA (by omega)];refine tp hl lv i k (j+1) a (by omega) ?_
    grind
def okM(ts:List ae)(r:Nat)(l:List aF)(m:aj):Prop:=((∀f,f∈l->f.ID≠m.ID)->m.HasDefault=true)/\∀f,f∈l->f.ID=m.ID->f.Critical=m.Critical/\vcan ts r m.Type_ f.Data/\(m.HasDefault=true->f.Data≠vpay ts m.Type_ m.Default)
theorem N4 {γ : Type} (I : Bool) (A : Int -> Bool) (cq w hd pe : Bool) (W : Option Bool) (P : Option (List UInt8)) (D q : List UInt8) (X Y : Option γ) (hI : I = true) (hW : cq = true -> W = some w) (hP : cq = true -> w = true -> hd = true -> P = some q) (hq : pe = decide (D = q)):
 (if(I || (!true))=true then some (!cq) >>=fun t316=>if(I || (!(true && (!t316))))=true then(if(true && (!t316))=true then W else some false) >>=fun r_33=>some (bif t316 then true else(!r_33)) >>=fun t330=>
  if(I || (!(true && (!t330) && hd)))=true then(if(true && (!t330) && hd)=true then P else some []) >>=fun r_34=>if(bif true then bif t330 then true else bif hd then decide (D=r_34)else false else false)=true then X else Y else none else none else none)=if(cq && w && (!hd || !pe))=true then Y else X:=by
 subst hI;cases cq with
 | false=>rfl
 | true=>
  rw[hW rfl];cases w with
  | false=>rfl
  | true=>
   cases hd with
   | false=>rfl
   | true=>
    rw[hP rfl rfl rfl,hq];simp only[oZ4,oZ3,Bool.not_true,Bool.not_false,Bool.and_self,Bool.and_true,Bool.true_or,if_true,cond_true,cond_false,Bool.false_or];cases decide (D=q) <;> rfl
theorem zg (H : DrOk ts) {r : Nat} (hr : r <= 300) (ih : Cr ts r) {x : ae} (hx : x ∈ ts) (hMt : ∀ m, m ∈ x.Members -> 0 <= m.Type_ /\ m.Type_ < ts.length) {l : List aF} (hl : l.length <= 100000) (hasc : l.Pairwise (fun a b => a.ID < b.ID)) (hd : ∀ f, f ∈ l -> f.Data.length <= 4096):
 ∀(k i:Nat),i+k=x.Members.length->(dL (((r+1:Nat):Int),l,(i:Int),ts,x.Kind,x.Name,x.Low,x.High,x.Max,x.Symbols,x.Members,x.Key,x.Elem,x.Open)=some (.inr (l,x.Kind,x.Name,x.Low,x.High,x.Max,x.Symbols,x.Members,x.Key,x.Elem,x.Open))/\∀m,m∈x.Members.drop i->okM ts r l m)\/
  (dL (((r+1:Nat):Int),l,(i:Int),ts,x.Kind,x.Name,x.Low,x.High,x.Max,x.Symbols,x.Members,x.Key,x.Elem,x.Open)=some (.inl false)/\¬∀m,m∈x.Members.drop i->okM ts r l m)
 | 0,i,hi=>by
  left;rw[dL,if_neg (by simp;omega),List.drop_eq_nil_of_le (by omega:x.Members.length<=i)]
  grind
 | k+1,i,hi=>by
  have hlt:i < x.Members.length:=by omega
  have hm12:=(H.I _ hx).2.2;have ih':=zg H hr ih hx hMt hl hasc hd k (i+1) (by omega);have hmm:=aB hlt ap;obtain⟨m0,m1⟩:=hMt _ hmm;have hdef:=H.D _ hx _ hmm;have hdo:=(H.T _ hx).dv _ hmm;have hdw:=H.W _ hx _ hmm
  obtain⟨a,a1,a2⟩:=tp (ts:=ts) hl (x:=x) (m:=x.Members.getD i ap) (((r+1:Nat):Int)) (i:Int) l.length 0 (-1) (by omega) (.inl ⟨rfl,fun q hq=>by omega⟩);have a1':eL (((r+1:Nat):Int),l,(i:Int),-1,0,ts,x.Kind,x.Name,x.Low,x.High,x.Max,x.Symbols,x.Members,x.Key,x.Elem,x.Open,x.Members.getD i ap)=_:=a1
  have hall:∀P:aj->Prop,(∀m,m∈x.Members.getD i ap::x.Members.drop (i+1)->P m)↔P (x.Members.getD i ap)/\∀m,m∈x.Members.drop (i+1)->P m:=fun P=>by grind
  rw[br hlt ap,hall,dL,if_pos (by simp;omega),if_pos (au hlt)];simp only[oZ4,oZ3,aw,cw,ab.aD];rw[a1'];simp only[oZ3];have e1:subI .i64 ((r+1:Nat):Int) 1=(r:Int):=by rw[bP (by omega) (by omega)];omega
  rw[e1,aA (by omega)];generalize x.Members.getD i ap=m at*;rcases a2 with⟨rfl,hno⟩ | ⟨q,hq,rfl,he⟩
  . have hno':∀f,f∈l->f.ID≠m.ID:=fun f hf=>by
     obtain⟨q,hq,rfl⟩:=List.getElem_of_mem hf
     grind
    cases hdf:m.HasDefault with
    | true=>
     have hok:okM ts r l m:=⟨fun _=>hdf,fun f hf e=>absurd e (hno' f hf)⟩
     grind
    | false=>
     right;rw[if_pos (by simp)];refine⟨rfl,fun h=>?_⟩;have:=h.1.1 hno'
     grind
  . have hf:=aB hq aN;have huniq:∀f,f∈l->f.ID=m.ID->f=l.getD q aN:=fun f hf' e=>by
     obtain⟨q',hq',rfl⟩:=List.getElem_of_mem hf';rw[bl hq]at he ⊢;have hp:=List.pairwise_iff_getElem.1 hasc
     grind
    have hok:okM ts r l m↔(l.getD q aN).Critical=m.Critical/\vcan ts r m.Type_ (l.getD q aN).Data/\(m.HasDefault=true->(l.getD q aN).Data≠vpay ts m.Type_ m.Default):=by
     constructor
     . rintro ⟨_,h⟩;exact h _ hf he
     . intro h;refine⟨fun h'=>absurd he (h' _ hf),fun f hf' e=>?_⟩
       grind
    obtain⟨w,w1,w2⟩:=ih m.Type_ (l.getD q aN).Data m0 m1 (hd _ hf);have hd0:decide ((0:Int)<=(q:Int))=true:=by simp
    have hneg:¬((bif decide ((q:Int) < 0)then(!m.HasDefault)else false)=true):=by grind
    rw[if_neg hneg,hd0];simp only[aw]
    have hst:=N4 (γ:=Bool ⊕ (List aF×Int×List UInt8×Int×Int×Int×List aC×List aj×Int×Int×Bool)) (inR (q:Int) l.length) (fun _=>true) (eqB (l.getD q aN).Critical m.Critical) w m.HasDefault (decide ((l.getD q aN).Data=vpay ts m.Type_ m.Default)) (bu ((⟨ts⟩:av),m.Type_,(l.getD q aN).Data,(r:Int))) (cR ((⟨ts⟩:av),m.Type_,m.Default)) (l.getD q aN).Data (vpay ts m.Type_ m.Default) (some (.inl false)) (dL (((r+1:Nat):Int),l,((i+1:Nat):Int),ts,x.Kind,x.Name,x.Low,x.High,x.Max,x.Symbols,x.Members,x.Key,x.Elem,x.Open)) (au hq) (fun _=>w1) (fun _ _ hdf=>Lz (H.V.sok H.T) hdo (by have:=hdw hdf;omega) _ (vfit_weak _ _ (hdef hdf))) rfl
    have hgoal:=hst;simp only[oZ4]at hgoal;have hcond:(eqB (l.getD q aN).Critical m.Critical && w && (!m.HasDefault || !(decide ((l.getD q aN).Data=vpay ts m.Type_ m.Default))))=true↔okM ts r l m:=by
     rw[hok,<-w2];have hc:eqB (l.getD q aN).Critical m.Critical=true↔(l.getD q aN).Critical=m.Critical:=by cases (l.getD q aN).Critical <;> cases m.Critical <;> simp[eqB]
     grind
    by_cases hyes:okM ts r l m
    . have hE:=hgoal.trans (if_pos (hcond.2 hyes));rcases ih' with⟨b1,b2⟩ | ⟨b1,b2⟩
      . grind
      grind
    grind
theorem GC{x:ae}(hm:x.Members.length < 9223372036854775807){l:List aF}(hl:l.length<=100000):SaysP (dn (l,0,x.Kind,x.Name,x.Low,x.High,x.Max,x.Symbols,x.Members,x.Key,x.Elem,x.Open) >>=fun o_9=>match o_9 with | .inl o_10=>some o_10 | .inr _=>some true) (∀f,f∈l->findM x.Members f.ID=none->f.Critical=false):=by
 let u:Nat->Bool:=fun i=>!((cj (x,(l.getD i aN).ID)).getD (0,false)).2
 have hu:∀i,i < l.length->∃q,cj (x,(l.getD i aN).ID)=some q/\u i=!q.2/\(q.2=false↔findM x.Members (l.getD i aN).ID=none):=by
  intro i hi;obtain⟨q,_,q2,qf⟩:=cW (t:=x) (l.getD i aN).ID hm;refine⟨q,q2,by simp only[u,q2,Option.getD_some],?_⟩;rcases fy qf with⟨e,j,j1,j2,j3,j4⟩ | ⟨e,j3⟩
  . grind
  grind
 refine(SaysP.loop (L:=fun i=>dn (l,(i:Int),x.Kind,x.Name,x.Low,x.High,x.Max,x.Symbols,x.Members,x.Key,x.Elem,x.Open)) (n:=l.length) (p:=fun i=>!(bif u i then(l.getD i aN).Critical else false)) (g:=()) rfl (fun i hi=>?_) ?_).imp ?_
 . show dn (l,(i:Int),x.Kind,x.Name,x.Low,x.High,x.Max,x.Symbols,x.Members,x.Key,x.Elem,x.Open)=if(!(bif u i then(l.getD i aN).Critical else false))=true then dn (l,((i+1:Nat):Int),x.Kind,x.Name,x.Low,x.High,x.Max,x.Symbols,x.Members,x.Key,x.Elem,x.Open)else _
   obtain⟨q,q1,q2,_⟩:=hu i hi;rw[dn,if_pos (by simp;omega),if_pos (au hi)];simp only[aw,pw];rw[q1,q2];simp only[oZ4,oZ3];rw[if_pos (by rw[au hi];rfl),aA (by omega)]
   grind
 . show dn (l,(l.length:Int),x.Kind,x.Name,x.Low,x.High,x.Max,x.Symbols,x.Members,x.Key,x.Elem,x.Open)=_;rw[dn,if_neg (by simp)]
 . constructor
   . intro h f hf hn;obtain⟨i,hi,rfl⟩:=List.getElem_of_mem hf
     grind
   grind
theorem GD{r:Nat}{Ms:List aj}(hM:MAsc Ms){l:List aF}:((∀m,m∈Ms->okM ts r l m)/\∀f,f∈l->findM Ms f.ID=none->f.Critical=false)↔(∀f,f∈l->okF ts r Ms f)/\∀m,m∈Ms->m.HasDefault=false->∃f,f∈l/\f.ID=m.ID:=by
 have hfind:∀m,m∈Ms->findM Ms m.ID=some m:=fun m hm=>by
  obtain⟨j,hj,hjm⟩:=List.getElem_of_mem hm;unfold findM;rw[List.find?_eq_some_iff_getElem];refine⟨by simp,j,hj,hjm,fun i hi=>?_⟩;have hp:=List.pairwise_iff_getElem.1 hM.1 i j (by omega) hj hi
  grind
 constructor
 . rintro ⟨h1,h2⟩
   refine⟨fun f hf=>⟨h2 f hf,fun m hm=>?_⟩,fun m hm hd=>?_⟩
   . have e1:=List.mem_of_find?_eq_some hm;have e2:=List.find?_some hm
     exact (h1 m e1).2 f hf (by have : m.ID = f.ID := by simpa using e2
                                omega)
   . apply Classical.byContradiction;intro hc;have:=(h1 m hm).1 (fun f hf e=>hc ⟨f,hf,e⟩)
     grind
 . rintro ⟨h1,h2⟩
   refine⟨fun m hm=>⟨fun hno=>?_,fun f hf e=>?_⟩,fun f hf=>(h1 f hf).1⟩
   . grind
   . exact(h1 f hf).2 m (by rw[e];exact hfind m hm)
end
theorem IV{p:List UInt8}(hp:p.length<=90000){o:List (List UInt8)×Int}(h:cV p=some o)(h0:¬o.2=0):o.1=[]:=by
 obtain⟨o',a1,_,_⟩:=po p.length p [] (by omega) (by simp;omega);rw[cV,a1]at h
 grind
section
variable {ts:List ae}
theorem ve {r : Nat} (hr : r <= 300) {x : ae} {l : List (List UInt8)} (e : Int) (hl : l.length <= 100000) (ih : ∀ q, q ∈ l -> SaysP (bu ((⟨ts⟩ : av), x.Elem, q, (r : Int))) (vcan ts r x.Elem q)):
 ∀(k i:Nat),i+k=l.length->(eN (((r+1:Nat):Int),l,e,(i:Int),ts,x.Kind,x.Name,x.Low,x.High,x.Max,x.Symbols,x.Members,x.Key,x.Elem,x.Open)=some (.inr (l,e,x.Kind,x.Name,x.Low,x.High,x.Max,x.Symbols,x.Members,x.Key,x.Elem,x.Open))/\∀q,q∈l.drop i->vcan ts r x.Elem q)\/
  (eN (((r+1:Nat):Int),l,e,(i:Int),ts,x.Kind,x.Name,x.Low,x.High,x.Max,x.Symbols,x.Members,x.Key,x.Elem,x.Open)=some (.inl false)/\¬∀q,q∈l.drop i->vcan ts r x.Elem q)
 | 0,i,hi=>by
  left;rw[eN,if_neg (by simp;omega),List.drop_eq_nil_of_le (by omega:l.length<=i)]
  grind
 | k+1,i,hi=>by
  have hlt:i < l.length:=by omega
  obtain⟨w,w1,w2⟩:=ih _ (aB hlt []);have e1:subI .i64 ((r+1:Nat):Int) 1=(r:Int):=by rw[bP (by omega) (by omega)];omega
  have ih':=ve hr e hl ih k (i+1) (by omega);rw[br hlt [],eN,if_pos (by simp;omega),if_pos (au hlt)];simp only[oZ4,oZ3,aw];rw[e1,w1];simp only[oZ3];cases w with
  | false=>grind
  | true=>
   rw[if_neg (by simp),aA (by omega)]
   grind
theorem GE {r : Nat} (hr : r <= 300) {x : ae} {l : List (List UInt8)} (hl : l.length <= 100000) (he : l.length % 2 = 0) (ihk : ∀ q, q ∈ l -> SaysP (bu ((⟨ts⟩ : av), x.Key, q, (r : Int))) (vcan ts r x.Key q)) (ihe : ∀ q, q ∈ l -> SaysP (bu ((⟨ts⟩ : av), x.Elem, q, (r : Int))) (vcan ts r x.Elem q)):
 SaysP (dK (((r+1:Nat):Int),l,0,ts,x.Kind,x.Name,x.Low,x.High,x.Max,x.Symbols,x.Members,x.Key,x.Elem,x.Open) >>=fun o=>match o with | .inl x=>some x | .inr _=>some true)
  (∀i,2*i+1 < l.length->vcan ts r x.Key (l.getD (2*i) [])/\vcan ts r x.Elem (l.getD (2*i+1) [])/\(0 < i->bQ (l.getD (2*i - 2) []) (l.getD (2*i) [])=true)):=by
 let a:Nat->Bool:=fun i=>(bu ((⟨ts⟩:av),x.Key,l.getD (2*i) [],(r:Int))).getD false
 let e:Nat->Bool:=fun i=>(bu ((⟨ts⟩:av),x.Elem,l.getD (2*i+1) [],(r:Int))).getD false
 have ha:∀i,2*i < l.length->bu ((⟨ts⟩:av),x.Key,l.getD (2*i) [],(r:Int))=some (a i)/\(a i=true↔vcan ts r x.Key (l.getD (2*i) [])):=by
  intro i hi;obtain⟨w,h1,h2⟩:=ihk _ (aB hi [])
  grind
 have hee:∀i,2*i+1 < l.length->bu ((⟨ts⟩:av),x.Elem,l.getD (2*i+1) [],(r:Int))=some (e i)/\(e i=true↔vcan ts r x.Elem (l.getD (2*i+1) [])):=by
  intro i hi;obtain⟨w,h1,h2⟩:=ihe _ (aB hi [])
  grind
 have e1:subI .i64 ((r+1:Nat):Int) 1=(r:Int):=by rw[bP (by omega) (by omega)];omega
 refine(SaysP.loop (L:=fun i=>dK (((r+1:Nat):Int),l,((2*i:Nat):Int),ts,x.Kind,x.Name,x.Low,x.High,x.Max,x.Symbols,x.Members,x.Key,x.Elem,x.Open)) (n:=l.length / 2) (p:=fun i=>a i && e i && (!(decide ((0:Int) < ((2*i:Nat):Int))) || bQ (l.getD (2*i - 2) []) (l.getD (2*i) []))) (g:=()) rfl (fun i hi=>?_) ?_).imp ?_
 . show dK (((r+1:Nat):Int),l,((2*i:Nat):Int),ts,x.Kind,x.Name,x.Low,x.High,x.Max,x.Symbols,x.Members,x.Key,x.Elem,x.Open)=if _ then dK (((r+1:Nat):Int),l,((2*(i+1):Nat):Int),ts,x.Kind,x.Name,x.Low,x.High,x.Max,x.Symbols,x.Members,x.Key,x.Elem,x.Open)else _
   have h2:2*i < l.length:=by omega
   have h3:2*i+1 < l.length:=by omega
   have hst:addI .i64 ((2*i:Nat):Int) 2=((2*(i+1):Nat):Int):=by
    have:=pK (a:=2*i) (b:=2) (by omega);omega
   have hs1:addI .i64 ((2*i:Nat):Int) 1=((2*i+1:Nat):Int):=aA (by omega);rw[dK,if_pos (by simp;omega),if_pos (au h2)];simp only[aw];rw[e1,(ha i h2).1,hst,hs1]
   refine An (a i) (e i) (decide ((0:Int) < ((2*i:Nat):Int))) (bQ (l.getD (2*i - 2) []) (l.getD (2*i) [])) true (inR ((2*i:Nat):Int) l.length) (subI .i64 ((2*i:Nat):Int) 2) ((2*i+1:Nat):Int) (fun j=>inR j l.length) (fun j=>inR j l.length) (fun j=>bu ((⟨ts⟩:av),x.Elem,l.getD j.toNat [],(r:Int))) (fun j=>nH (l.getD j.toNat [],l.getD (2*i) [])) _ _ ?_ (au h3) (au h2) (fun hz=>?_)
   . show bu _=_;rw[aw];exact(hee i h3).1
   . have:0 < i:=by simp at hz;omega
     have hsub:subI .i64 ((2*i:Nat):Int) 2=((2*i - 2:Nat):Int):=by rw[bP (by omega) (by omega)];omega
     rw[hsub,aw];exact⟨au (by omega),KM _ _⟩
 . show dK (((r+1:Nat):Int),l,((2*(l.length / 2):Nat):Int),ts,x.Kind,x.Name,x.Low,x.High,x.Max,x.Symbols,x.Members,x.Key,x.Elem,x.Open)=_;have:2*(l.length / 2)=l.length:=by omega
   rw[this,dK,if_neg (by simp)]
 . constructor
   . intro h i hi;have:=h i (by omega);simp only[Bool.and_eq_true,Bool.or_eq_true]at this;refine⟨(ha i (by omega)).2.1 this.1.1,(hee i hi).2.1 this.1.2,fun h0=>?_⟩;rcases this.2 with h | h
     . exfalso
       have hd:decide ((0:Int) < ((2*i:Nat):Int))=true:=by simp;omega
       rw[hd]at h;cases h
     . exact h
   . intro h i hi;obtain⟨h1,h2,h3⟩:=h i (by omega);simp only[Bool.and_eq_true,Bool.or_eq_true];refine⟨⟨(ha i (by omega)).2.2 h1,(hee i (by omega)).2.2 h2⟩,?_⟩;by_cases h0:0 < i
     . exact .inr (h3 h0)
     . left;have:i=0:=by omega
       subst this;rfl
theorem B0 {r : Nat} {j : Nat} {p : List UInt8} {x : ae} (hx : ts.getD j af = x):
 (x.Kind=1->(vcan ts (r+1) (j:Int) p↔(p=[]\/p=[1])))/\
 (x.Kind=2->(vcan ts (r+1) (j:Int) p↔∃n,vub p=some n/\x.Low<=unz n/\unz n<=x.High))/\
 (x.Kind=3->(vcan ts (r+1) (j:Int) p↔(p.length:Int)<=x.Max))/\
 (x.Kind=4->(vcan ts (r+1) (j:Int) p↔∃n,vub p=some n/\(1<=n/\n<=1000)/\((∃y,y∈x.Symbols/\y.ID=(n:Int))\/x.Open=true)))/\
 (x.Kind=5->(vcan ts (r+1) (j:Int) p↔∃l,vFl p=some l/\(∀f,f∈l->okF ts r x.Members f)/\∀m,m∈x.Members->m.HasDefault=false->∃f,f∈l/\f.ID=m.ID))/\
 (x.Kind=6->(vcan ts (r+1) (j:Int) p↔∃id q,vA p=some (id,q)/\(findM x.Members id=none->x.Open=true)/\∀m,findM x.Members id=some m->vcan ts r m.Type_ q))/\
 (x.Kind=7->(vcan ts (r+1) (j:Int) p↔∃l,vI p=some l/\(l.length:Int)<=x.Max/\∀q,q∈l->vcan ts r x.Elem q))/\
 (x.Kind=8->(vcan ts (r+1) (j:Int) p↔∃l,vI p=some l/\l.length % 2=0/\((l.length / 2:Nat):Int)<=x.Max/\∀i,2*i+1 < l.length->vcan ts r x.Key (l.getD (2*i) [])/\vcan ts r x.Elem (l.getD (2*i+1) [])/\(0 < i->bQ (l.getD (2*i - 2) []) (l.getD (2*i) [])=true)))/\
 (x.Kind=9->(vcan ts (r+1) (j:Int) p↔(p=[]\/∃q,p=1::q/\vcan ts r x.Elem q))):=by
 have hv:=sZ (ts:=ts) r (j:Int) p;rw[aw,hx]at hv;refine⟨fun k=>?_,fun k=>?_,fun k=>?_,fun k=>?_,fun k=>?_,fun k=>?_,fun k=>?_,fun k=>?_,fun k=>?_⟩ <;> rw[hv] <;> simp[k]
theorem Ap(H:DrOk ts):∀(r:Nat),r<=200->Cr ts r
 | 0,hr=>by
  intro t p ht0 ht1 hp;obtain⟨j,rfl⟩:∃j:Nat,t=(j:Int):=⟨t.toNat,by omega⟩
  rw[bu,if_pos (au (by omega:j < ts.length))];simp only[oZ4,oZ3];rw[if_pos (by simp)];refine⟨false,rfl,?_⟩;constructor
  . grind
  . intro h;exact h.elim
 | r+1,hr=>by
  intro t p ht0 ht1 hp;have ih:=Ap H r (by omega);obtain⟨j,rfl⟩:∃j:Nat,t=(j:Int):=⟨t.toNat,by omega⟩
  have hj:j < ts.length:=by omega
  have hxm:=aB hj af;have hS:=H.V.sok H.T;have hU:=H.V.U _ hxm;have hK:=hS.K _ hxm;have hm7:(ts.getD j af).Members.length < 9223372036854775807:=aT (bN (H.T _ hxm).mems);have hs7:(ts.getD j af).Symbols.length < 9223372036854775807:=aT (bN (H.T _ hxm).syms)
  have hMt:∀m,m∈(ts.getD j af).Members->0<=m.Type_/\m.Type_ < ts.length:=fun m hm=>hU m.Type_ (List.mem_append.2 (.inl (List.mem_append.2 (.inl (List.mem_map.2 ⟨m,hm,rfl⟩)))))
  have e1:subI .i64 ((r+1:Nat):Int) 1=(r:Int):=by rw[bP (by omega) (by omega)];omega
  rw[bu,if_pos (au hj)];simp only[oZ4,oZ3,aw];rw[if_neg (by simp;omega)];have hA:=hS.A _ hxm;generalize hxx:ts.getD j af=x at*;obtain⟨v1,v2,v3,v4,v5,v6,v7,v8,v9⟩:=B0 (ts:=ts) (r:=r) (p:=p) hxx;unfold dF at hK
  have hc9:x.Kind=1\/x.Kind=2\/x.Kind=3\/x.Kind=4\/x.Kind=5\/x.Kind=6\/x.Kind=7\/x.Kind=8\/x.Kind=9:=by omega
  rcases hc9 with k | k | k | k | k | k | k | k | k
  . rw[if_pos (by simp[k])];refine(SaysP.of ?_).imp (v1 k).symm
    grind
  . rw[if_neg (by simp[k]),if_pos (by simp[k])];obtain⟨o,_,o2,o3,o4⟩:=oL p;rw[o2];simp only[oZ3];by_cases h0:o.2=0
    . obtain⟨n,n1,n2⟩:=o3 h0;have hn:=nn n1;have hd:decide (o.2=0)=true:=by simp[h0]
      rw[hd,if_pos rfl,n2,NZ hn];simp only[oZ3,cond_true];by_cases g:x.Low<=unz n
      . have hg:decide (x.Low<=unz n)=true:=by simpa using g
        rw[hg,if_pos rfl];refine⟨_,rfl,?_⟩
        grind
      . have hg:decide (x.Low<=unz n)=false:=by simpa using g
        rw[hg,if_neg (by simp)];refine⟨false,rfl,?_⟩
        grind
    . have hd:decide (o.2=0)=false:=by simp[h0]
      rw[hd];refine⟨false,rfl,?_⟩
      grind
  . rw[if_neg (by simp[k]),if_neg (by simp[k]),if_pos (by simp[k])];exact(SaysP.of (by simp)).imp (v3 k).symm
  . rw[if_neg (by simp[k]),if_neg (by simp[k]),if_neg (by simp[k]),if_pos (by simp[k])];obtain⟨o,_,o2,o3,o4⟩:=oL p;rw[o2];simp only[oZ3];by_cases h0:o.2=0
    . obtain⟨n,n1,n2⟩:=o3 h0;rw[n2,h0];by_cases hrn:1<=n/\n<=1000
      . have a:¬(n:Int) < 1:=by omega
        have b:¬(1000:Int) < (n:Int):=by omega
        obtain⟨q,_,q2,qf⟩:=lX (t:=x) (n:Int) hs7;rw[if_neg (by simp only[a,b,decide_false,decide_true,Bool.not_true,cond_false,Bool.false_eq_true,not_false_eq_true]),wrp64 (by omega) (by omega),q2];refine⟨_,rfl,?_⟩;rw[v4 k,n1];have:=oK qf
        grind
      . have hc:(bif bif (!(decide ((0:Int)=0)))then true else decide ((n:Int) < 1)then true else decide (1000 < (n:Int)))=true:=by grind
        rw[if_pos hc];refine⟨false,rfl,?_⟩
        grind
    . have hc:(bif bif (!(decide (o.2=0)))then true else decide (o.1 < 1)then true else decide (1000 < o.1))=true:=by simp[h0]
      rw[if_pos hc];refine⟨false,rfl,?_⟩
      grind
  . rw[if_neg (by simp[k]),if_neg (by simp[k]),if_neg (by simp[k]),if_neg (by simp[k]),if_neg (by simp[k]),if_neg (by simp[k]),if_neg (by simp[k]),if_neg (by simp[k])];obtain⟨o,_,o2,o3,o4⟩:=lZ (p:=p) (by omega);rw[o2];simp only[oZ3];by_cases h0:o.2=0
    . obtain⟨f1,f2,f3,f4⟩:=o3 h0;obtain⟨hma,_⟩:=hA (.inl k);rw[if_neg (by simp[h0])];have hm':=zg H (by omega:r<=300) ih hxm hMt (l:=o.1) (by omega) f3 (fun f hf=>by have:=(f2 f hf).1;omega) x.Members.length 0 (by omega)
      have e0:dL (((r+1:Nat):Int),o.1,((0:Nat):Int),ts,x.Kind,x.Name,x.Low,x.High,x.Max,x.Symbols,x.Members,x.Key,x.Elem,x.Open)=dL (((r+1:Nat):Int),o.1,0,ts,x.Kind,x.Name,x.Low,x.High,x.Max,x.Symbols,x.Members,x.Key,x.Elem,x.Open):=rfl;simp only[e0,List.drop_zero]at hm';have hb:=GD (ts:=ts) (r:=r) hma (l:=o.1)
      rcases hm' with⟨a,b⟩ | ⟨a,b⟩
      . rw[a];simp only[oZ3];refine(GC hm7 (l:=o.1) (by omega)).imp ?_;simp_all
      . rw[a];refine⟨false,rfl,?_⟩;simp_all
    . rw[if_pos (by simp[h0])];refine⟨false,rfl,?_⟩
      grind
  . rw[if_neg (by simp[k]),if_neg (by simp[k]),if_neg (by simp[k]),if_neg (by simp[k]),if_neg (by simp[k]),if_pos (by simp[k])];obtain⟨o,_,o2,o3,o4⟩:=pC p;rw[o2];simp only[oZ3];by_cases h0:o.2.2=0
    . obtain⟨f1,f2,f3⟩:=o3 h0;rw[if_neg (by simp[h0])];obtain⟨q,_,q2,qf⟩:=cW (t:=x) o.1 hm7;rw[q2];simp only[oZ3];rcases fy qf with⟨e,i,i1,i2,i3,i4⟩ | ⟨e,i3⟩
      . have hmm:=aB i1 ap;obtain⟨m0,m1⟩:=hMt _ hmm;obtain⟨w,w1,w2⟩:=ih (x.Members.getD i ap).Type_ o.2.1 m0 m1 (by omega);rw[if_pos e,i2,if_pos (au i1),aw,e1,w1];refine⟨w,rfl,?_⟩
        grind
      . rw[if_neg (by simp[e])];refine⟨_,rfl,?_⟩
        grind
    . rw[if_pos (by simp[h0])];refine⟨false,rfl,?_⟩
      grind
  . rw[if_neg (by simp[k]),if_neg (by simp[k]),if_neg (by simp[k]),if_neg (by simp[k]),if_neg (by simp[k]),if_neg (by simp[k]),if_pos (by simp[k])];obtain⟨el0,el1⟩:=hU x.Elem (by unfold usesL;simp[k]);obtain⟨o,o1,o2,o3,o4⟩:=dW (p:=p) (by omega);rw[o2];simp only[oZ3];have hlen:o.1.length<=100000/\∀q,q∈o.1->q.length<=4096:=by
     by_cases h0:o.2=0
     . grind
     . have:=IV (by omega) o1 h0
       grind
    have hls:=ve (ts:=ts) (r:=r) (by omega) (x:=x) (l:=o.1) o.2 hlen.1 (fun q hq=>ih x.Elem q el0 el1 (hlen.2 q hq)) o.1.length 0 (by omega)
    have e0:eN (((r+1:Nat):Int),o.1,o.2,((0:Nat):Int),ts,x.Kind,x.Name,x.Low,x.High,x.Max,x.Symbols,x.Members,x.Key,x.Elem,x.Open)=eN (((r+1:Nat):Int),o.1,o.2,0,ts,x.Kind,x.Name,x.Low,x.High,x.Max,x.Symbols,x.Members,x.Key,x.Elem,x.Open):=rfl;simp only[e0,List.drop_zero]at hls;rcases hls with⟨a,b⟩ | ⟨a,b⟩
    . rw[a];simp only[oZ3];refine⟨_,rfl,?_⟩;rw[v7 k];by_cases h0:o.2=0
      . simp_all
      grind
    . rw[a];refine⟨false,rfl,?_⟩
      grind
  . rw[if_neg (by simp[k]),if_neg (by simp[k]),if_neg (by simp[k]),if_neg (by simp[k]),if_neg (by simp[k]),if_neg (by simp[k]),if_neg (by simp[k]),if_pos (by simp[k])];obtain⟨el0,el1⟩:=hU x.Elem (by unfold usesL;simp[k]);obtain⟨kl0,kl1⟩:=hU x.Key (by unfold usesL;simp[k]);obtain⟨o,o1,o2,o3,o4⟩:=dW (p:=p) (by omega);rw[o2];simp only[oZ3]
    by_cases h0:o.2=0
    . obtain⟨f1,f2,f3⟩:=o3 h0;have hr2:remI (o.1.length:Int) 2=((o.1.length % 2:Nat):Int):=remIn (b:=2);have hq2:quoI .i64 (o.1.length:Int) 2=((o.1.length / 2:Nat):Int):=by
       unfold quoI;have e:(o.1.length:Int).tdiv 2=((o.1.length / 2:Nat):Int):=by rw[Int.tdiv_eq_ediv_of_nonneg (by omega)];omega
       rw[e,IntKind.wrap_i64];omega
      rw[hr2,hq2,h0];by_cases hev:o.1.length % 2=0
      . have ev:((o.1.length % 2:Nat):Int)=0:=by omega
        rw[ev];by_cases hmx:((o.1.length / 2:Nat):Int)<=x.Max
        . have b:¬x.Max < ((o.1.length / 2:Nat):Int):=by omega
          rw[if_neg (by simp only[b,decide_true,decide_false,Bool.not_true,cond_false,Bool.false_eq_true,not_false_eq_true])];refine(GE (ts:=ts) (r:=r) (by omega) (x:=x) (l:=o.1) (by omega) hev (fun q hq=>ih x.Key q kl0 kl1 (by have:=f2 q hq;omega)) (fun q hq=>ih x.Elem q el0 el1 (by have:=f2 q hq;omega))).imp ?_;rw[v8 k];constructor
          . grind
          grind
        . have b:x.Max < ((o.1.length / 2:Nat):Int):=by omega
          rw[if_pos (by simp only[b,decide_true,Bool.not_true,cond_false])];refine⟨false,rfl,?_⟩
          grind
      . have ev:((o.1.length % 2:Nat):Int)=1:=by omega
        rw[ev,if_pos (by rfl)];refine⟨false,rfl,?_⟩
        grind
    . rw[if_pos (by simp[h0])];refine⟨false,rfl,?_⟩
      grind
  . rw[if_neg (by simp[k]),if_neg (by simp[k]),if_neg (by simp[k]),if_neg (by simp[k]),if_pos (by simp[k])];obtain⟨el0,el1⟩:=hU x.Elem (by unfold usesL;simp[k]);cases p with
    | nil=>
     refine⟨true,rfl,?_⟩
     grind
    | cons c q=>
     have hin:inR 0 (c::q).length=true:=au (k:=0) (by simp);have hsl:slR 1 ((c::q).length:Int) (c::q).length=true:=dA (a:=1) (by simp) (by simp);have hcut:cutL (c::q) 1 ((c::q).length:Int)=q:=by
      have:=iW (c::q) 1
      grind
     have hne:decide (c::q=[])=false:=by simp
     have hby:aY (c::q) 0=(c.toNat:Int):=dV (c::q) 0;rw[hne,hin,hsl,hby,hcut];simp only[Bool.not_false,Bool.true_or,if_true,Bool.true_and,cond_false];by_cases hc1:c=1
     . subst hc1;obtain⟨w,w1,w2⟩:=ih x.Elem q el0 el1 (by simp at hp;omega);have hd:decide (((1:UInt8).toNat:Int)=1)=true:=by decide
       rw[hd,if_pos rfl,e1,w1];refine⟨w,rfl,?_⟩
       grind
     . have hd:decide ((c.toNat:Int)=1)=false:=by
        rw[decide_eq_false_iff_not];intro h;exact hc1 (UInt8.toNat_inj.1 (by grind))
       rw[hd];refine⟨false,rfl,?_⟩
       grind
theorem Fa(H:DrOk ts)(t:Int)(m:List UInt8):∃b,nK ((⟨ts⟩:av),t,m)=some b/\kU ((⟨ts⟩:av),t,m)=some b/\(b=true↔0<=t/\t < ts.length/\m.length<=4096/\vcan ts 200 t m):=by
 obtain⟨v1,v2⟩:=se H.T H.V;rw[nK,kU,jD];simp only[md];rw[v1,v2];by_cases hin:0<=t/\t < ts.length
 . have a:¬t < 0:=by omega
   have b:¬((ts.length:Nat):Int)<=t:=by omega
   have hc:¬((bif decide (t < 0)then true else decide (((⟨ts⟩:av).Types.length:Int)<=t))=true):=by grind
   have hE:∀{γ:Type} (K:Int->Option γ),((some (0:Int) >>=fun r=>if(!(decide (r=0)))=true then some r else if(bif decide (t < 0)then true else decide (((⟨ts⟩:av).Types.length:Int)<=t))=true then some (4:Int)else some 0) >>=K)=K 0:=fun K=>by grind
   by_cases hl:m.length<=4096
   . obtain⟨w,w1,w2⟩:=Ao H 200 1 (by omega) (by omega) t m hin.1 hin.2 hl;obtain⟨z,z1,z2⟩:=Ap H 200 (by omega) t m hin.1 hin.2 hl;have hwz:w=z:=by rw[Bool.eq_iff_iff,w2,z2]
     subst hwz;have w1':ba ((⟨(⟨ts⟩:av)⟩:bj),t,m,1)=some w:=w1;have z1':bu ((⟨ts⟩:av),t,m,200)=some w:=z1;have hd:decide ((m.length:Int)<=4096)=true:=by simp;omega
     simp_all
   . have hd:decide ((m.length:Int)<=4096)=false:=by simp;omega
     refine⟨false,?_,?_,by simp;omega⟩
     . grind
     . simp only[oZ4,oZ3]
       grind
 . have hc:(bif decide (t < 0)then true else decide (((⟨ts⟩:av).Types.length:Int)<=t))=true:=by grind
   refine⟨false,?_,?_,by grind⟩
   . grind
   grind
end
theorem sG{n m:Nat}(hn:n < 18446744073709551616)(hm:m < 18446744073709551616){r s:List UInt8}(h:vput n++r=vput m++s):n=m/\r=s:=by
 have h1:=mF hn r;rw[h,mF hm s]at h1;have e:((m:Nat):Int)=(n:Int):=congrArg Prod.fst h1;have e:m=n:=by omega
 simp_all
theorem oM{p q r s:List UInt8}(hp:p.length < 18446744073709551616)(hq:q.length < 18446744073709551616)(h:aP p++r=aP q++s):p=q/\r=s:=by
 unfold aP at h;rw[List.append_assoc,List.append_assoc]at h;obtain⟨h1,h2⟩:=sG hp hq h;exact List.append_inj h2 h1
theorem zh :∀{a b:List (List UInt8)},(∀x,x∈a->x.length < 18446744073709551616)->(∀x,x∈b->x.length < 18446744073709551616)->a.flatMap aP=b.flatMap aP->a=b
 | [],[],_,_,_=>rfl
 | [],q::b,_,_,h=>by
  have h2:=congrArg List.length h;have:=me q
  grind
 | p::a,[],_,_,h=>by
  have h2:=congrArg List.length h;have:=me p
  grind
 | p::a,q::b,ha,hb,h=>by
  rw[List.flatMap_cons,List.flatMap_cons]at h;obtain⟨e,h2⟩:=oM (ha _ (.head _)) (hb _ (.head _)) h;rw[e,zh (fun x hx=>ha x (.tail _ hx)) (fun x hx=>hb x (.tail _ hx)) h2]
def FdOk(f:Fd):Prop:=f.id<=1000/\f.p.length < 18446744073709551616
theorem zi :∀{a b:List Fd},(∀x,x∈a->FdOk x)->(∀x,x∈b->FdOk x)->a.flatMap Fd.text=b.flatMap Fd.text->a=b
 | [],[],_,_,_=>rfl
 | [],q::b,_,_,h=>by
  have h2:=congrArg List.length h;have:=sD q
  grind
 | p::a,[],_,_,h=>by
  have h2:=congrArg List.length h;have:=sD p
  grind
 | ⟨i,c,p⟩::a,⟨j,d,q⟩::b,ha,hb,h=>by
  have h1:=ha _ (.head _);have h2:=hb _ (.head _);unfold FdOk at h1 h2;simp only at h1 h2;rw[List.flatMap_cons,List.flatMap_cons]at h;simp only[Fd.text,bq,List.append_assoc]at h;obtain⟨e1,h3⟩:=sG (by split <;> omega) (by split <;> omega) h;obtain⟨e2,h4⟩:=oM h1.2 h2.2 h3;have e3:=zi (fun x hx=>ha x (.tail _ hx)) (fun x hx=>hb x (.tail _ hx)) h4
  grind
theorem s4 :∀(s:List UInt8) (n:Nat) (b:UInt8),fb n (s++[b])=fb n s*256+b.toNat
 | [],n,b=>by simp[fb]
 | a::s,n,b=>by
  simp only[List.cons_append,fb];exact s4 s _ b
theorem s5(n:Nat):fb 0 (vbig n)=n:=by
 induction n using Nat.strongRecOn with
 | ind n ih=>
  rw[vbig];split
  . rename_i h;subst h;rfl
  . rw[s4,ih (n / 256) (by omega),cu (by omega)];omega
theorem zj{n m:Nat}(h:vbig n=vbig m):n=m:=by rw[<-s5 n,<-s5 m,h]
theorem IW :∀(n:Nat),¬(vbig n).head?=some 0:=by
 intro n
 induction n using Nat.strongRecOn with
 | ind n ih=>
  rw[vbig];split
  . simp
  . rename_i h;have:=ih (n / 256) (by omega);by_cases h2:n < 256
    . have:n / 256=0:=by omega
      rw[this,vbig,if_pos rfl];simp only[List.nil_append,List.head?_cons,Option.some.injEq];intro hc;have h3:=congrArg UInt8.toNat hc;rw[cu (by omega)]at h3
      grind
    . have hne:vbig (n / 256)≠[]:=by rw[vbig,if_neg (by omega)];simp
      cases hv:vbig (n / 256)with
      | nil=>exact absurd hv hne
      | cons a l=>rw[hv]at this;simpa using this
theorem zk{n:Nat}(h:n < 18446744073709551616):vub (vbig n)=some n:=by
 unfold vub;have h1:=IW n;have h2:=pA 8 n (by rw[NY];exact h)
 rw [if_neg (by rintro (h | h)
                . exact h1 h
                . omega),s5]
theorem LL{a b:List aH}(ha:a.Pairwise (fun x y=>x.ID < y.ID))(hb:b.Pairwise (fun x y=>x.ID < y.ID))(h:∀x,x∈a↔x∈b):a=b:=by
 have na:a.Nodup:=ha.imp fun {x y} h e=>by subst e;omega
 have nb:b.Nodup:=hb.imp fun {x y} h e=>by subst e;omega
 have hp:a.Perm b:=(List.perm_ext_iff_of_nodup na nb).2 h;exact List.Perm.eq_of_pairwise (le:=fun x y:aH=>x.ID < y.ID) (fun x y _ _ h1 h2=>by omega) ha hb hp
theorem Aq :∀{a b c d:List (List UInt8)},(∀x,x∈a->x.length < 18446744073709551616)->(∀x,x∈b->x.length < 18446744073709551616)->(∀x,x∈c->x.length < 18446744073709551616)->(∀x,x∈d->x.length < 18446744073709551616)->a.length=b.length->c.length=d.length->ilv a b=ilv c d->a=c/\b=d
 | [],[],[],[],_,_,_,_,_,_,_=>⟨rfl,rfl⟩
 | [],[],p::c,q::d,_,_,_,_,_,_,h=>by
  have h2:=congrArg List.length h;have:=me p;simp only[ilv,List.length_append,List.length_nil]at h2;omega
 | p::a,q::b,[],[],_,_,_,_,_,_,h=>by
  have h2:=congrArg List.length h;have:=me p;simp only[ilv,List.length_append,List.length_nil]at h2;omega
 | p::a,q::b,r::c,s::d,ha,hb,hc,hd,h1,h2,h=>by
  simp only[ilv]at h;obtain⟨e1,h3⟩:=oM (ha _ (.head _)) (hc _ (.head _)) h;obtain⟨e2,h4⟩:=oM (hb _ (.head _)) (hd _ (.head _)) h3;obtain⟨e3,e4⟩:=Aq (fun x hx=>ha x (.tail _ hx)) (fun x hx=>hb x (.tail _ hx)) (fun x hx=>hc x (.tail _ hx)) (fun x hx=>hd x (.tail _ hx)) (by simpa using h1) (by simpa using h2) h4
  grind
theorem o6{ts:List ae}{t:Int}:∀{l m:List ab},(∀x,x∈l->∀y,y∈m->vpay ts t x=vpay ts t y->x=y)->vpays ts t l=vpays ts t m->l=m
 | [],[],_,_=>rfl
 | [],y::m,_,h=>by rw[vpays,vpays]at h;cases h
 | x::l,[],_,h=>by rw[vpays,vpays]at h;cases h
 | x::l,y::m,hi,h=>by
  rw[vpays,vpays]at h;injection h with h1 h2;rw[hi x (.head _) y (.head _) h1,o6 (fun a ha b hb=>hi a (.tail _ ha) b (.tail _ hb)) h2]
theorem KO{l m:List ab}(hl:l.length=m.length)(h:∀i,i < l.length->l.getD i ag=m.getD i ag):l=m:=by
 apply List.ext_getElem hl
 grind
theorem rQ{ts:List ae}{n:Nat}:∀{ms:List aj} {l:List ab},(∀x,x∈l->∀t,(vpay ts t x).length < n)->∀f,f∈vents ts ms l->f.p.length < n
 | [],l,_,f,hf=>by rw[vents]at hf;cases hf;intros;simp_all
 | m::ms,[],_,f,hf=>by rw[vents]at hf;cases hf;intros;simp_all
 | m::ms,v::l,h,f,hf=>by
  rw[vents]at hf;split at hf
  . exact rQ (fun x hx=>h x (.tail _ hx)) f hf
  . rcases List.mem_cons.1 hf with rfl | hf
    . grind
    . exact rQ (fun x hx=>h x (.tail _ hx)) f hf
theorem LM {ts : List ae} {ms : List aj} {a b : List ab} {ra rb : List aH} (hm : MAsc ms) (hra : cb ms ra) (hrb : cb ms rb) (hla : a.length = ms.length) (hlb : b.length = ms.length)
 (da:∀f,f∈aZ ts ms a ra->FdOk f) (db:∀f,f∈aZ ts ms b rb->FdOk f)
 (ih:∀i,i < ms.length->vpay ts (ms.getD i ap).Type_ (a.getD i ag)=vpay ts (ms.getD i ap).Type_ (b.getD i ag)->a.getD i ag=b.getD i ag)
 (h:(isoB ltF (aZ ts ms a ra)).flatMap Fd.text=(isoB ltF (aZ ts ms b rb)).flatMap Fd.text):a=b/\ra=rb:=by
 have e:=zi (fun f hf=>da f ((cX ltF _).mem_iff.1 hf)) (fun f hf=>db f ((cX ltF _).mem_iff.1 hf)) h;have hp:(aZ ts ms a ra).Perm (aZ ts ms b rb):=(cX ltF _).symm.trans (e▸cX ltF _);have rawmem:∀{l:List ab} {r:List aH},cb ms r->∀x,I1000 x.ID->findM ms x.ID=none->rawF x∈aZ ts ms l r->x∈r:=by
  intro l r hr x hx hn hmem;rcases List.mem_append.1 hmem with h1 | h1
  . obtain⟨m,h2,h3⟩:=iU h1;have:=fD hn m h2;have:=hm.2 m h2;have h3:x.ID.toNat=m.ID.toNat:=h3;unfold I1000 at*;omega
  . obtain⟨q,h2,h3⟩:=List.mem_map.1 h1;have hq:=(hr.2 q h2).1;have:q=x:=by
     cases q;cases x;simp only[rawF,Fd.mk.injEq]at h3;unfold I1000 at*
     grind
    grind
 refine⟨KO (by omega) fun i hi=>?_,LL hra.1 hrb.1 fun x=>⟨fun hx=>?_,fun hx=>?_⟩⟩
 . have hi':i < ms.length:=by omega
   have hmi:=aB hi' ap;have hid:=hm.2 _ hmi;have hf:=hp.filter fun x=>decide (x.id=(ms.getD i ap).ID.toNat)
   have noraw:∀{r:List aH},cb ms r->((r.map rawF).filter fun x=>decide (x.id=(ms.getD i ap).ID.toNat))=[]:=by
    intro r hr;rw[List.filter_eq_nil_iff];intro f hf;obtain⟨q,h2,rfl⟩:=List.mem_map.1 hf;have h3:=hr.2 q h2;have:=fD h3.2 _ hmi;have:=h3.1;have:¬q.ID.toNat=(ms.getD i ap).ID.toNat:=by unfold I1000 at*;omega
    simpa[rawF]using this
   unfold aZ at hf;rw[List.filter_append,List.filter_append,noraw hra,noraw hrb,List.append_nil,List.append_nil,lY (mG hm) hla hi' rfl,lY (mG hm) hlb hi' rfl]at hf;by_cases oa:om (ms.getD i ap) (a.getD i ag)=true
   . by_cases ob:om (ms.getD i ap) (b.getD i ag)=true
     . unfold om at oa ob;simp only[Bool.and_eq_true,decide_eq_true_eq]at oa ob;rw[<-oa.2,<-ob.2]
     . rw[if_pos oa,if_neg ob]at hf;have:=hf.length_eq;simp at this
   . by_cases ob:om (ms.getD i ap) (b.getD i ag)=true
     . rw[if_neg oa,if_pos ob]at hf;have:=hf.length_eq;simp at this
     . rw[if_neg oa,if_neg ob]at hf;have:=List.perm_singleton.1 hf.symm;simp only[List.cons.injEq,Fd.mk.injEq,and_true,true_and]at this;exact ih i hi' this.symm
 . obtain⟨h1,h2⟩:=hra.2 x hx;exact rawmem hrb x h1 h2 (hp.mem_iff.1 (List.mem_append_right _ (List.mem_map_of_mem hx)))
 . obtain⟨h1,h2⟩:=hrb.2 x hx;exact rawmem hra x h1 h2 (hp.mem_iff.2 (List.mem_append_right _ (List.mem_map_of_mem hx)))
theorem KP{ts:List ae}(H:SOk ts){a:ab}(ha:OkV a):∀{t:Int} {b:ab},OkV b->wt a<=1099511627776->wt b<=1099511627776->vfit ts false t a->vfit ts false t b->vpay ts t a=vpay ts t b->a=b:=by
 induction ha with
 | mk a hs h1 h2 h3 hk hi hrd n1 n2 n3 n4 ihk ihi=>
  intro t b hb wa wb fa fb e;have hwa:=wt_eq a;have hwb:=wt_eq b;have hOb:=hb;cases hb with
  | mk _ gs g1 g2 g3 gk gi grd m1 m2 m3 m4=>
  have lI:∀x,x∈a.Items->∀t,(vpay ts t x).length < 18446744073709551616:=fun x hx t=>by have:=ez H (hi x hx) (by have:=bd hx;omega) t;omega
  have lK:∀x,x∈a.Keys->∀t,(vpay ts t x).length < 18446744073709551616:=fun x hx t=>by have:=ez H (hk x hx) (by have:=bd hx;omega) t;omega
  have kI:∀x,x∈b.Items->∀t,(vpay ts t x).length < 18446744073709551616:=fun x hx t=>by have:=ez H (gi x hx) (by have:=bd hx;omega) t;omega
  have kK:∀x,x∈b.Keys->∀t,(vpay ts t x).length < 18446744073709551616:=fun x hx t=>by have:=ez H (gk x hx) (by have:=bd hx;omega) t;omega
  have IHI:∀{t:Int} x,x∈a.Items->∀y,y∈b.Items->vfit ts false t x->vfit ts false t y->vpay ts t x=vpay ts t y->x=y:=fun x hx y hy f g=>ihi x hx (gi y hy) (by have:=bd hx;omega) (by have:=bd hy;omega) f g
  have IHK:∀{t:Int} x,x∈a.Keys->∀y,y∈b.Keys->vfit ts false t x->vfit ts false t y->vpay ts t x=vpay ts t y->x=y:=fun x hx y hy f g=>ihk x hx (gk y hy) (by have:=bd hx;omega) (by have:=bd hy;omega) f g
  obtain⟨⟨p1,p2,p3,_⟩,fa⟩:=(cZ _ _ _).1 fa;obtain⟨⟨_,_,q3,_⟩,fb⟩:=(cZ _ _ _).1 fb;have hj:t.toNat < ts.length:=by omega
  have hxm:=aB hj af;have hv1:=fun v=>@vpay1 ts t v
  have hv2:=fun v=>@vpay2 ts t v
  have hv3:=fun v=>@vpay3 ts t v
  have hv4:=fun v=>@vpay4 ts t v
  have hv5:=fun v=>@vpay5 ts t v
  have hv6:=fun v=>@vpay6 ts t v
  have hv7:=fun v=>@vpay7 ts t v
  have hv8:=fun v=>@vpay8 ts t v
  have hv9:=fun v=>@vpay9 ts t v
  have hA:=H.A _ hxm;have hS:=H.S _ hxm;have hT:=H.T _ hxm;generalize ts.getD t.toNat af=x at*;have fin:a.Kind=b.Kind->a.Bool_=b.Bool_->a.Int_=b.Int_->a.Str=b.Str->a.ID=b.ID->a.Keys=b.Keys->a.Items=b.Items->a.Rest=b.Rest->a=b:=by
   intro e1 e2 e3 e4 e5 e6 e7 e8;cases a;cases b;simp_all
  have ek:a.Kind=b.Kind:=p3.trans q3.symm;rcases fa with⟨k,c1,c2,c3,c4,c5,c6⟩ | ⟨k,c1,c2,c3,c4,c5,c6,c7,c8⟩ | ⟨k,c1,c2,c3,c4,c5,c6,c7⟩ | ⟨k,c1,c2,c3,c4,c5,c6,c7⟩ | ⟨k,c1,c2,c3,c4,c5,c6,c7⟩ | ⟨k,c1,c2,c3,c4,c5⟩ | ⟨k,c1,c2,c3,c4,c5,c6,c7,c8⟩ | ⟨k,c1,c2,c3,c4,c5,c6,c7,c8,c9,c10⟩ | ⟨k,c1,c2,c3,c4,c5,c6,c7,c8⟩ <;>
  rcases fb with⟨l,d1,d2,d3,d4,d5,d6⟩ | ⟨l,d1,d2,d3,d4,d5,d6,d7,d8⟩ | ⟨l,d1,d2,d3,d4,d5,d6,d7⟩ | ⟨l,d1,d2,d3,d4,d5,d6,d7⟩ | ⟨l,d1,d2,d3,d4,d5,d6,d7⟩ | ⟨l,d1,d2,d3,d4,d5⟩ | ⟨l,d1,d2,d3,d4,d5,d6,d7,d8⟩ | ⟨l,d1,d2,d3,d4,d5,d6,d7,d8,d9,d10⟩ | ⟨l,d1,d2,d3,d4,d5,d6,d7,d8⟩ <;>
  (first | (exfalso;omega) | skip) <;> have kx:=p3.symm.trans k
  . rw[hv1 _ kx,hv1 _ kx]at e
    grind
  . rw[hv2 _ kx,hv2 _ kx]at e;have:=zj e;refine fin ek (c1.trans d1.symm) (sW ?_) (c2.trans d2.symm) (c3.trans d3.symm) (c4.trans d4.symm) (c5.trans d5.symm) (c6.trans d6.symm);have z1:0<=zig a.Int_:=by unfold zig;split <;> omega
    have z2:0<=zig b.Int_:=by unfold zig;split <;> omega
    omega
  . grind
  . rw[hv4 _ kx,hv4 _ kx]at e;have:=zj e;refine fin ek (c1.trans d1.symm) (c2.trans d2.symm) (c3.trans d3.symm) ?_ (c4.trans d4.symm) (c5.trans d5.symm) (c6.trans d6.symm);have key:∀{v:ab},((∃y,y∈x.Symbols/\y.ID=v.ID)\/x.Open=true/\false=false/\I1000 v.ID)->I1000 v.ID:=by grind
    have i1:=key c7;have i2:=key d7;unfold I1000 at i1 i2;omega
  . rw[hv5 _ kx,hv5 _ kx]at e;obtain⟨hma,hm16⟩:=hA (.inl kx);obtain⟨hil,hip⟩:=fH.1 c7;obtain⟨hjl,hjp⟩:=fH.1 d7;have ok:∀{l:List ab} {r:List aH},(∀y,y∈l->∀t,(vpay ts t y).length < 18446744073709551616)->cb x.Members r->(∀y,y∈r->y.Data.length<=reachBytes)->∀f,f∈aZ ts x.Members l r->FdOk f:=by
     intro l r hl hr hd f hf;refine⟨(q0 hma hr hf).2,?_⟩;rcases List.mem_append.1 hf with h | h
     . exact rQ hl f h
     . obtain⟨q,h2,rfl⟩:=List.mem_map.1 h;have:=hd q h2;show q.Data.length < _;unfold reachBytes at this;omega
    obtain⟨e1,e2⟩:=LM hma c6 d6 hil hjl (ok lI c6 hrd) (ok kI d6 grd) (fun i hi=>IHI _ (aB (by omega) _) _ (aB (by omega) _) (hip i hi) (hjp i hi)) e
    grind
  . rw[hv6 _ kx,hv6 _ kx]at e;obtain⟨hma,hm16⟩:=hA (.inr kx)
    have key : ∀ {v : ab}, (match findM x.Members v.ID with
     | some m=>v.Rest=[]/\v.Items.length=1/\vfits ts false m.Type_ v.Items
     | none=>x.Open=true/\false=false/\I1000 v.ID/\v.Items=[]/\∃d,v.Rest=[⟨v.ID,d⟩])->I1000 v.ID:=by
     intro v h;split at h
     . rename_i m hf;have h1:=List.mem_of_find?_eq_some hf;have h2:=List.find?_some hf;simp only[decide_eq_true_eq]at h2;rw[<-h2];exact hma.2 m h1
     . exact h.2.2.1
    have i1:=key c5;have i2:=key d5;have j1:=i1;have j2:=i2;unfold I1000 at j1 j2;obtain⟨e1,e2⟩:=sG (by omega) (by omega) e;have eid:a.ID=b.ID:=by omega
    rw[eid]at c5 e2;cases hf:findM x.Members b.ID with
    | some m=>
     simp only[hf]at c5 d5 e2;obtain⟨r1,r2,r3⟩:=c5;obtain⟨s1,s2,s3⟩:=d5;obtain⟨y,hy⟩:∃y,a.Items=[y]:=List.length_eq_one_iff.1 r2;obtain⟨z,hz⟩:∃y,b.Items=[y]:=List.length_eq_one_iff.1 s2;rw[hy,hz,vpays,vpays]at e2
     have:=IHI y (by rw[hy];exact .head _) z (by rw[hz];exact .head _) (aW.1 r3 y (by rw[hy];exact .head _)) (aW.1 s3 z (by rw[hz];exact .head _)) e2
     grind
    | none=>grind
  . rw[hv7 _ kx,hv7 _ kx]at e;have hf:=aW.1 c8;have hg:=aW.1 d8;have e1:=zh (fun y hy=>by rw[iT]at hy;obtain⟨z,hz,rfl⟩:=List.mem_map.1 hy;exact lI z hz _) (fun y hy=>by rw[iT]at hy;obtain⟨z,hz,rfl⟩:=List.mem_map.1 hy;exact kI z hz _) e
    exact fin ek (c1.trans d1.symm) (c2.trans d2.symm) (c3.trans d3.symm) (c4.trans d4.symm) (c5.trans d5.symm) (o6 (fun y hy z hz=>IHI y hy z hz (hf y hy) (hg z hz)) e1) (c6.trans d6.symm)
  . rw[hv8 _ kx,hv8 _ kx]at e;have hf:=aW.1 c9;have hg:=aW.1 d9;have hfk:=aW.1 c8;have hgk:=aW.1 d8;have lp:∀{l:List ab} {t:Int},(∀y,y∈l->∀t,(vpay ts t y).length < 18446744073709551616)->∀y,y∈vpays ts t l->y.length < 18446744073709551616:=fun hl y hy=>by rw[iT]at hy;obtain⟨z,hz,rfl⟩:=List.mem_map.1 hy;exact hl z hz _
    obtain⟨e1,e2⟩:=Aq (lp lK) (lp lI) (lp kK) (lp kI) (by rw[dw,dw];omega) (by rw[dw,dw];omega) e;exact fin ek (c1.trans d1.symm) (c2.trans d2.symm) (c3.trans d3.symm) (c4.trans d4.symm) (o6 (fun y hy z hz=>IHK y hy z hz (hfk y hy) (hgk z hz)) e1) (o6 (fun y hy z hz=>IHI y hy z hz (hf y hy) (hg z hz)) e2) (c5.trans d5.symm)
  . rw[hv9 _ kx,hv9 _ kx]at e;have hf:=aW.1 c8;have hg:=aW.1 d8;refine fin ek (c1.trans d1.symm) (c2.trans d2.symm) (c3.trans d3.symm) (c4.trans d4.symm) (c5.trans d5.symm) ?_ (c6.trans d6.symm)
    match hI:a.Items,hJ:b.Items,c7,d7 with
    | [],[],_,_=>rfl
    | [],z::_,_,_=>rw[hI,hJ,vpays,vpays]at e;cases e
    | y::_,[],_,_=>rw[hI,hJ,vpays,vpays]at e;cases e
    | [y],[z],_,_=>
     rw[hI,hJ,vpays,vpays]at e;injection e with _ e
     grind
    | _::_::_,_,h,_=>simp at h
    | [_],_::_::_,_,h=>simp at h
theorem GF(p:List UInt8):p.length<=(aP p).length:=by unfold aP;rw[List.length_append];omega
theorem oe{p:List UInt8}:∀{l:List (List UInt8)},p∈l->p.length<=(l.flatMap aP).length
 | q::l,h=>by
  rw[List.flatMap_cons,List.length_append];rcases List.mem_cons.1 h with rfl | h
  . have:=GF p;omega
  . have:=oe h;omega
theorem vZ :∀{a b:List UInt8} {x y:UInt8},a.length=b.length->Op.bytesLess a b=true->Op.bytesLess (a++[x]) (b++[y])=true
 | [],[],_,_,_,h=>by simp[Op.bytesLess]at h
 | p::a,q::b,x,y,hl,h=>by
  simp only[List.cons_append,Op.bytesLess,Bool.or_eq_true,Bool.and_eq_true]at h ⊢;rcases h with h | ⟨h1,h2⟩
  . exact .inl h
  . exact .inr ⟨h1,vZ (by simpa using hl) h2⟩
theorem x8 :∀(a:List UInt8) {x y:UInt8},x < y->Op.bytesLess (a++[x]) (a++[y])=true
 | [],x,y,h=>by simp[Op.bytesLess,h]
 | p::a,x,y,h=>by simp[Op.bytesLess,x8 a h]
theorem oN{a b:List UInt8}:bQ a b=true↔a.length < b.length\/a.length=b.length/\Op.bytesLess a b=true:=by
 unfold bQ
 grind
theorem x9 :∀(m n:Nat),n < m->bQ (vbig n) (vbig m)=true:=by
 intro m
 induction m using Nat.strongRecOn with
 | ind m ih=>
  intro n h;rw[oN];have em:vbig m=vbig (m / 256)++[UInt8.ofNat (m % 256)]:=by rw[vbig,if_neg (by omega)]
  by_cases h0:n=0
  . subst h0;have:vbig 0=[]:=by rw[vbig,if_pos rfl]
    grind
  . have en:vbig n=vbig (n / 256)++[UInt8.ofNat (n % 256)]:=by rw[vbig,if_neg h0]
    rw[em,en];simp only[List.length_append,List.length_cons,List.length_nil];by_cases hq:n / 256 < m / 256
    . rcases oN.1 (ih (m / 256) (by omega) _ hq)with h1 | ⟨h1,h2⟩
      . left;omega
      . right;exact⟨by omega,vZ h1 h2⟩
    . have:n / 256=m / 256:=by omega
      rw[this];right;refine⟨rfl,x8 _ ?_⟩;rw[UInt8.lt_iff_toNat_lt,cu (by omega),cu (by omega)];omega
theorem cmpN(p q:Prop)[Decidable p][Decidable q](h:(if p then(-1:Int)else if q then 1 else 0) < 0):p:=by grind
theorem ya {ts : List ae} {t : Int} {a b : ab} (hk : 1 <= (ts.getD t.toNat af).Kind /\ (ts.getD t.toNat af).Kind <= 4) (ha : OkV a) (hb : OkV b) (ka : a.Kind = (ts.getD t.toNat af).Kind) (kb : b.Kind = (ts.getD t.toNat af).Kind)
 (na:0<=a.ID\/a.Kind≠4) (nb:0<=b.ID\/b.Kind≠4) (h:vcmp a b < 0):bQ (vpay ts t a) (vpay ts t b)=true:=by
 cases ha with | mk _ _ _ _ _ _ _ _ _ n2 _ _=>
 cases hb with | mk _ _ _ _ _ _ _ _ _ m2 _ _=>
 have hv1:=fun v=>@vpay1 ts t v
 have hv2:=fun v=>@vpay2 ts t v
 have hv3:=fun v=>@vpay3 ts t v
 have hv4:=fun v=>@vpay4 ts t v
 generalize (ts.getD t.toNat af).Kind=k at*;unfold vcmp at h;rw[dS]at h;rw[if_neg (by simp[ka,kb])]at h;by_cases k1:k=1
 . rw[if_pos (by simp[ka,k1])]at h;rw[hv1 _ k1,hv1 _ k1];cases hA:a.Bool_ <;> cases hB:b.Bool_ <;> rw[hA,hB]at h <;> first | (exfalso;revert h;decide) | decide
 . rw[if_neg (by simp[ka,k1])]at h;by_cases k2:k=2
   . rw[if_pos (by simp[ka,k2]),nk n2,nk m2]at h;simp only[oZ4,oZ3,cmp1,Option.getD_some]at h;have h:=cmpN _ _ h;rw[hv2 _ k2,hv2 _ k2];have z1:0<=zig a.Int_:=by unfold zig;split <;> omega
     exact x9 _ _ (by omega)
   . rw[if_neg (by simp[ka,k2])]at h;by_cases k3:k=3
     . rw[if_pos (by simp[ka,k3])]at h;simp only[oZ4,oZ3,cmp2,cmp3,or2,Option.getD_some]at h;rw[hv3 _ k3,hv3 _ k3,oN];by_cases h1:a.Str.length < b.Str.length
       . exact .inl h1
       . by_cases h2:b.Str.length < a.Str.length
         . have i1:¬(a.Str.length:Int) < (b.Str.length:Int):=by omega
           have i2:(b.Str.length:Int) < (a.Str.length:Int):=by omega
           rw[if_neg i1,if_pos i2]at h;simp at h
         . have i1:¬(a.Str.length:Int) < (b.Str.length:Int):=by omega
           have i2:¬(b.Str.length:Int) < (a.Str.length:Int):=by omega
           rw[if_neg i1,if_neg i2]at h;simp only[ne_eq,not_true_eq_false,if_false]at h;refine .inr ⟨by omega,?_⟩;cases hl:Op.bytesLess a.Str b.Str with
           | true=>rfl
           | false=>
            rw[hl]at h;by_cases he:a.Str=b.Str <;> simp[he]at h
     . have k4:k=4:=by omega
       rw[if_neg (by simp[ka,k3]),if_pos (by simp[ka,k4])]at h;simp only[oZ4,oZ3,cmp2,Option.getD_some]at h;have h:=cmpN _ _ h;rw[hv4 _ k4,hv4 _ k4];have:=na.resolve_right (by simp[ka,k4]);have:=nb.resolve_right (by simp[kb,k4]);exact x9 _ _ (by omega)
theorem oO{ts:List ae}:∀{ms:List aj} {l:List ab} {x:Fd},x∈vents ts ms l->∃j,j < ms.length/\j < l.length/\om (ms.getD j ap) (l.getD j ag)=false/\x=⟨(ms.getD j ap).ID.toNat,(ms.getD j ap).Critical,vpay ts (ms.getD j ap).Type_ (l.getD j ag)⟩
 | [],l,x,h=>by
  rw[vents]at h
  . cases h
  grind
 | m::ms,[],x,h=>by
  rw[vents]at h
  . cases h
  grind
 | m::ms,v::l,x,h=>by
  rw[vents]at h;split at h
  . obtain⟨j,h1,h2,h3,h4⟩:=oO h;exact⟨j+1,by simpa using h1,by simpa using h2,by simpa using h3,by simpa using h4⟩
  . rename_i ho;rcases List.mem_cons.1 h with rfl | h
    . exact⟨0,by simp,by simp,by simpa using ho,rfl⟩
    . obtain⟨j,h1,h2,h3,h4⟩:=oO h;exact⟨j+1,by simpa using h1,by simpa using h2,by simpa using h3,by simpa using h4⟩
theorem sH{ms:List aj}(h:MAsc ms){a b:aj}(ha:a∈ms)(hb:b∈ms)(e:a.ID=b.ID):a=b:=by
 obtain⟨i,hi,rfl⟩:=List.getElem_of_mem ha;obtain⟨j,hj,rfl⟩:=List.getElem_of_mem hb;have key:=List.pairwise_iff_getElem.1 h.1
 grind
theorem gN{ms:List aj}{id:Int}{m:aj}(h:findM ms id=some m):m∈ms/\m.ID=id:=
 ⟨List.mem_of_find?_eq_some h,by simpa using List.find?_some h⟩
theorem zl{ms:List aj}(hm:MAsc ms){m:aj}(h:m∈ms):findM ms m.ID=some m:=by
 cases hf:findM ms m.ID with
 | none=>exact absurd rfl (fD hf m h)
 | some q=>
  obtain⟨h1,h2⟩:=gN hf;rw[sH hm h1 h h2]
theorem mf{ts:List ae}{t:Int}:∀{l:List ab} {x:ab},x∈l->vlev ts t x<=vlevs ts t l
 | v::l,x,h=>by
  rw[vlevs];rcases List.mem_cons.1 h with rfl | h
  . omega
  . have:=mf (ts:=ts) (t:=t) h;omega
theorem yc{ts:List ae}:∀{ms:List aj} {l:List ab} {j:Nat},j < ms.length->j < l.length->om (ms.getD j ap) (l.getD j ag)=false->vlev ts (ms.getD j ap).Type_ (l.getD j ag)<=vlevm ts ms l
 | m::ms,v::l,0,_,_,ho=>by
  simp only[List.getD_cons_zero]at ho ⊢;rw[vlevm,if_neg (by rw[ho];simp)];omega
 | m::ms,v::l,j+1,h1,h2,ho=>by
  simp only[List.getD_cons_succ]at ho ⊢;have:=yc (ts:=ts) (by simpa using h1) (by simpa using h2) ho;rw[vlevm]
  grind
theorem sf :∀{a b:List (List UInt8)} {i:Nat},a.length=b.length->i < a.length->(weave a b).getD (2*i) []=a.getD i []/\(weave a b).getD (2*i+1) []=b.getD i []
 | p::a,q::b,0,_,_=>by simp[weave]
 | p::a,q::b,i+1,hl,hi=>by
  have:=sf (a:=a) (b:=b) (i:=i) (by simpa using hl) (by simpa using hi);simp only[weave,List.getD_cons_succ,show 2*(i+1)=2*i+1+1 by omega];exact this
theorem Ar{l:List (List UInt8)}(h:(l.flatMap aP).length<=90000):vI (l.flatMap aP)=some l:=by
 have hl:=vX l;have:=zf l [] (by omega) (by simp;omega);unfold vI;rw[cV,this];rfl
theorem KQ{l:List Fd}(ha:l.Pairwise (fun a b=>a.id < b.id))(hr:∀f,f∈l->1<=f.id/\f.id<=1000)(h:(l.flatMap Fd.text).length<=90000):vFl (l.flatMap Fd.text)=some (l.map fdS):=by
 have hl:=vY l;have hF:=x2 l 0 [] ha (fun f h=>⟨by have:=hr f h;omega,(hr f h).2⟩) (by omega) (by simp;omega);have hF':bw (0,l.flatMap Fd.text,[])=some (.inr (l.map fdS)):=by simpa using hF
 unfold vFl;rw[dT,hF'];rfl
theorem B3{n:Nat}(h:1<=n/\n<=1000)(rest:List UInt8):vA (vput n++rest)=some ((n:Int),rest):=by
 unfold vA;have hnx:=eo (mF (n:=n) (by omega) rest) (by simp);rw[dy,hnx];simp only[oZ4,oZ3];have a:¬(n:Int) < 1:=by omega
 have b:¬(1000:Int) < (n:Int):=by omega
 rw[if_neg (by simp only[a,b,Bool.not_true,decide_false,cond_false,Bool.false_eq_true,not_false_eq_true]),wrp64 (by omega) (by omega)];simp
theorem jS{ts:List ae}{t:Int}{l:List ab}{i:Nat}(h:i < l.length):(vpays ts t l).getD i []=vpay ts t (l.getD i ag):=by
 rw[iT,bM (vpay ts t) l i ag [] h]
theorem np{a b c n r:Nat}(h:a=1+max n b)(hr:a<=r+1)(hc:c<=b):c<=r:=by omega
theorem LN{a b c r:Nat}(h:a=1+max 1 b)(hr:a<=r+1)(hc:c=1):c<=r:=by omega
theorem KR{a b n:Nat}(h:n=a+b)(e:a=b):n % 2=0/\n / 2=a:=by omega
theorem LO{i n a:Nat}(h:2*i+1 < n)(e:n / 2=a):i < a:=by omega
theorem KS {ts : List ae} {r : Nat} {x : ae} {Ks Is : List (List UInt8)} (hl : Ks.length = Is.length) (hm : (Ks.length : Int) <= x.Max) (hlen : ((weave Ks Is).flatMap aP).length <= 90000)
 (hK:∀i,i < Ks.length->(Ks.getD i []).length<=90000->vcan ts r x.Key (Ks.getD i [])) (hI:∀i,i < Ks.length->(Is.getD i []).length<=90000->vcan ts r x.Elem (Is.getD i [])) (hS:∀i,i+1 < Ks.length->bQ (Ks.getD i []) (Ks.getD (i+1) [])=true):
 ∃l,vI ((weave Ks Is).flatMap aP)=some l/\l.length % 2=0/\((l.length / 2:Nat):Int)<=x.Max/\∀i,2*i+1 < l.length->vcan ts r x.Key (l.getD (2*i) [])/\vcan ts r x.Elem (l.getD (2*i+1) [])/\(0 < i->bQ (l.getD (2*i - 2) []) (l.getD (2*i) [])=true):=by
 obtain⟨e1,e2⟩:=KR (x4 Ks Is hl) hl;refine⟨_,Ar hlen,e1,by rw[e2];exact hm,fun i hi=>?_⟩;have hik:=LO hi e2;obtain⟨w1,w2⟩:=sf (i:=i) hl hik;have l1:=Nat.le_trans (oe (aB (Nat.lt_of_succ_lt hi) [])) hlen;have l2:=Nat.le_trans (oe (aB hi [])) hlen;rw[w1]at l1;rw[w2]at l2;rw[w1,w2];refine⟨hK i hik l1,hI i hik l2,fun h0=>?_⟩
 obtain⟨k,rfl⟩:∃k,i=k+1:=⟨i - 1,by clear hlen l1 l2 w1 w2;omega⟩
 obtain⟨w3,_⟩:=sf (i:=k) hl (Nat.lt_of_succ_lt hik);rw[show 2*(k+1) - 2=2*k from rfl,w3];exact hS k hik
set_option maxHeartbeats 1000000 in
theorem HV{ts:List ae}(H:DrOk ts){v:ab}(hv:OkV v):∀{t:Int} {r:Nat},wt v<=1099511627776->(vpay ts t v).length<=90000->vfit ts false t v->vlev ts t v<=r->vcan ts r t (vpay ts t v):=by
 have hS:=H.V.sok H.T
 induction hv with
 | mk v hs h1 h2 h3 hk hi hrd n1 n2 n3 n4 ihk ihi=>
  intro t r hw hlen hf hr;have hwt:=wt_eq v;have hOk:OkV v:= .mk v hs h1 h2 h3 hk hi hrd n1 n2 n3 n4;have hlp:=iX (ts:=ts) t v;obtain⟨r,rfl⟩:∃q,r=q+1:=⟨r - 1,by omega⟩
  obtain⟨⟨g1,g2,g3,_⟩,hf⟩:=(cZ _ _ _).1 hf;obtain⟨j,rfl⟩:∃j:Nat,t=(j:Int):=⟨t.toNat,by omega⟩
  have hj:j < ts.length:=by omega
  have hxm:=aB hj af;have hlev:=gS (ts:=ts) (j:Int) v;have hv1:=@vpay1 ts (j:Int) v;have hv2:=@vpay2 ts (j:Int) v;have hv3:=@vpay3 ts (j:Int) v;have hv4:=@vpay4 ts (j:Int) v;have hv5:=@vpay5 ts (j:Int) v;have hv6:=@vpay6 ts (j:Int) v;have hv7:=@vpay7 ts (j:Int) v;have hv8:=@vpay8 ts (j:Int) v;have hv9:=@vpay9 ts (j:Int) v
  simp only[aw]at hf g3 hlev hv1 hv2 hv3 hv4 hv5 hv6 hv7 hv8 hv9;have hA:=hS.A _ hxm;have hKy:=hS.Ky _ hxm;have hSy:=hS.S _ hxm;have hDf:=H.D _ hxm;have hW:=H.W _ hxm;have hT:=H.T _ hxm;obtain⟨c1,c2,c3,c4,c5,c6,c7,c8,c9⟩:=B0 (ts:=ts) (r:=r) (j:=j) (p:=vpay ts (j:Int) v) rfl;generalize ts.getD j af=x at*
  have IHI:∀{t:Int} x,x∈v.Items->(vpay ts t x).length<=90000->vfit ts false t x->vlev ts t x<=r->vcan ts r t (vpay ts t x):=fun x hx a b c=>ihi x hx (by have:=bd hx;omega) a b c
  have IHK:∀{t:Int} x,x∈v.Keys->(vpay ts t x).length<=90000->vfit ts false t x->vlev ts t x<=r->vcan ts r t (vpay ts t x):=fun x hx a b c=>ihk x hx (by have:=bd hx;omega) a b c
  rcases hf with⟨k,d1,d2,d3,d4,d5,d6⟩ | ⟨k,d1,d2,d3,d4,d5,d6,d7,d8⟩ | ⟨k,d1,d2,d3,d4,d5,d6,d7⟩ | ⟨k,d1,d2,d3,d4,d5,d6,d7⟩ | ⟨k,d1,d2,d3,d4,d5,d6,d7⟩ | ⟨k,d1,d2,d3,d4,d5⟩ | ⟨k,d1,d2,d3,d4,d5,d6,d7,d8⟩ | ⟨k,d1,d2,d3,d4,d5,d6,d7,d8,d9,d10⟩ | ⟨k,d1,d2,d3,d4,d5,d6,d7,d8⟩ <;> rw[k]at g3 <;> have kx:=g3.symm
  . rw[c1 kx,hv1 kx];cases v.Bool_
    . grind
    grind
  . rw[c2 kx,hv2 kx];have hz:=pX n2;exact⟨_,zk hz,by rw[Al n2];exact d7,by rw[Al n2];exact d8⟩
  . grind
  . rw[c4 kx,hv4 kx];have hid:I1000 v.ID:=by grind
    unfold I1000 at hid;refine⟨_,zk (by omega),by omega,?_⟩
    grind
  . rw[c5 kx];rw[hv5 kx]at hlen ⊢;obtain⟨hma,_⟩:=hA (.inl kx);obtain⟨hil,hip⟩:=fH.1 d7;rw[if_pos kx,if_pos d5]at hlev;have hasc:=zd (lN (ts:=ts) (l:=v.Items) hma d6) (xZ hma d6);have hrg:∀f,f∈isoB ltF (aZ ts x.Members v.Items v.Rest)->1<=f.id/\f.id<=1000:=fun f h=>q0 hma d6 ((cX ltF _).mem_iff.1 h)
    have hin:∀f,f∈isoB ltF (aZ ts x.Members v.Items v.Rest)↔f∈aZ ts x.Members v.Items v.Rest:=fun f=>(cX ltF _).mem_iff
    generalize isoB ltF (aZ ts x.Members v.Items v.Rest)=l at*;refine⟨_,KQ hasc hrg hlen,fun f hf=>?_,fun m hm hd=>?_⟩
    . obtain⟨g,hg,rfl⟩:=List.mem_map.1 hf;have hgl:=x5 hg;rcases List.mem_append.1 ((hin g).1 hg)with h | h
      . obtain⟨i,i1,i2,i3,rfl⟩:=oO h;have hmi:=aB i1 ap;have hvi:=aB i2 ag;have hid:=hma.2 _ hmi;have eid:(((x.Members.getD i ap).ID.toNat:Nat):Int)=(x.Members.getD i ap).ID:=by unfold I1000 at hid;omega
        have hlv:=yc (ts:=ts) i1 i2 i3;refine⟨fun hn=>?_,fun m hm=>?_⟩
        . have hn:findM x.Members (((x.Members.getD i ap).ID.toNat:Nat):Int)=none:=hn;rw[eid,zl hma hmi]at hn;cases hn
        . have hm:findM x.Members (((x.Members.getD i ap).ID.toNat:Nat):Int)=some m:=hm;rw[eid,zl hma hmi]at hm;cases hm;have hvr:vlev ts (x.Members.getD i ap).Type_ (v.Items.getD i ag)<=r:=by exact np hlev hr hlv
          have h5:=IHI (t:=(x.Members.getD i ap).Type_) _ hvi (Nat.le_trans hgl hlen) (hip i i1) hvr;refine⟨rfl,h5,fun hd he=>?_⟩;have he:vpay ts (x.Members.getD i ap).Type_ (v.Items.getD i ag)=vpay ts (x.Members.getD i ap).Type_ (x.Members.getD i ap).Default:=he
          have:=KP hS (hi _ hvi) (hT.dv _ hmi) (by have:=bd hvi;omega) (by have:=hW _ hmi hd;omega) (hip i i1) (KL (hDf _ hmi hd) false) he;unfold om at i3;rw[hd,this]at i3;simp at i3
      . obtain⟨q,h2,rfl⟩:=List.mem_map.1 h;obtain⟨q1,q2⟩:=d6.2 q h2;have eid:((q.ID.toNat:Nat):Int)=q.ID:=by unfold I1000 at q1;omega
        refine⟨fun _=>rfl,fun m hm=>?_⟩;have hm:findM x.Members ((q.ID.toNat:Nat):Int)=some m:=hm;rw[eid,q2]at hm;cases hm
    . obtain⟨i,hi',he⟩:=List.getElem_of_mem hm;have em:x.Members.getD i ap=m:=by rw[List.getD_eq_getElem?_getD,List.getElem?_eq_getElem hi',he];rfl
      have hid:=hma.2 _ hm;have hfo:=lY (ts:=ts) (l:=v.Items) (n:=m.ID.toNat) (mG hma) hil hi' (by rw[em]);rw[em,if_neg (by unfold om;simp[hd])]at hfo;have hmem:(⟨m.ID.toNat,m.Critical,vpay ts m.Type_ (v.Items.getD i ag)⟩:Fd)∈vents ts x.Members v.Items:=by
       have:(⟨m.ID.toNat,m.Critical,vpay ts m.Type_ (v.Items.getD i ag)⟩:Fd)∈(vents ts x.Members v.Items).filter fun x=>decide (x.id=m.ID.toNat):=by rw[hfo];exact .head _
       exact(List.mem_filter.1 this).1
      refine⟨fdS _,List.mem_map_of_mem ((hin _).2 (List.mem_append_left _ hmem)),?_⟩;show((m.ID.toNat:Nat):Int)=m.ID;unfold I1000 at hid;omega
  . rw[c6 kx];rw[hv6 kx]at hlen ⊢;obtain⟨hma,_⟩:=hA (.inr kx);rw[if_neg (show ¬x.Kind=5 by rw[kx];decide),if_pos kx,if_pos d4]at hlev;cases hfm:findM x.Members v.ID with
    | some m=>
     simp only[hfm]at d5 hlen hlev ⊢;obtain⟨e1,e2,e3⟩:=d5;obtain⟨f1,f2⟩:=gN hfm;have hid:=hma.2 _ f1;rw[f2]at hid;unfold I1000 at hid;have eid:((v.ID.toNat:Nat):Int)=v.ID:=by omega
     obtain⟨y,hy⟩:∃y,v.Items=[y]:=List.length_eq_one_iff.1 e2;have hym:y∈v.Items:=by rw[hy];exact .head _
     have hlv:=mf (ts:=ts) (t:=m.Type_) hym;rw[hy,vpays]at hlen ⊢;rw[List.length_append]at hlen;refine⟨_,_,B3 (by omega) _,fun hn=>?_,fun q hq=>?_⟩
     . rw[eid,hfm]at hn;cases hn
     . rw[eid,hfm]at hq;cases hq;exact IHI y hym (by show(vpay ts m.Type_ y).length<=_;have hlen:(vput v.ID.toNat).length+(vpay ts m.Type_ y).length<=90000:=hlen;omega) (aW.1 e3 y hym) (np hlev hr hlv)
    | none=>
     simp only[hfm]at d5 ⊢;obtain⟨e1,_,e3,e4,d,e5⟩:=d5;unfold I1000 at e3;have eid:((v.ID.toNat:Nat):Int)=v.ID:=by omega
     refine⟨_,_,B3 (by omega) _,fun _=>e1,fun q hq=>?_⟩;rw[eid,hfm]at hq;cases hq
  . rw[c7 kx];rw[hv7 kx]at hlen ⊢;rw[if_neg (show ¬x.Kind=5 by rw[kx];decide),if_neg (show ¬x.Kind=6 by rw[kx];decide),if_pos d5]at hlev;refine⟨_,Ar hlen,by rw[dw];exact d7,fun q hq=>?_⟩;have hql:=oe hq;rw[iT]at hq;obtain⟨y,hy,rfl⟩:=List.mem_map.1 hq;have:=mf (ts:=ts) (t:=x.Elem) hy
    exact IHI y hy (Nat.le_trans hql hlen) (aW.1 d8 y hy) (np hlev hr this)
  . rw[c8 kx];rw[hv8 kx,x3]at hlen ⊢;have hll:(vpays ts x.Key v.Keys).length=(vpays ts x.Elem v.Items).length:=by rw[dw,dw];exact d7.symm
    have hkl:=dw (ts:=ts) (l:=v.Keys) (t:=x.Key);rw[if_neg (show ¬x.Kind=5 by rw[kx];decide),if_neg (show ¬x.Kind=6 by rw[kx];decide)]at hlev;obtain⟨ky1,ky2⟩:=hKy kx;have hfk:=aW.1 d8;have leaf:∀y,y∈v.Keys->vlev ts x.Key y=1/\y.Kind=(ts.getD x.Key.toNat af).Kind/\(0<=y.ID\/y.Kind≠4):=fun y hy=>by
     obtain⟨⟨b1,b2,b3,_⟩,b⟩:=(cZ _ _ _).1 (hfk y hy);refine⟨by apply fI <;> grind,b3,?_⟩;have hS4:=hS.S _ (aB (show x.Key.toNat < ts.length by clear hlen;omega) af);by_cases k4:y.Kind=4
     . left;have hb:(∃z,z∈(ts.getD x.Key.toNat af).Symbols/\z.ID=y.ID)\/(ts.getD x.Key.toNat af).Open=true/\false=false/\I1000 y.ID:=by grind
       rcases hb with⟨z,hz,he⟩ | ⟨_,_,he⟩
       . have:=hS4 (b3.symm.trans k4) z hz;unfold I1000 at this;clear hlen;omega
       . unfold I1000 at he;clear hlen;omega
     . exact .inr k4
    refine KS hll (by rw[hkl];exact d6) hlen (fun i hi' hl=>?_) (fun i hi' hl=>?_) (fun i hi'=>?_)
    . have hik:i < v.Keys.length:=hkl▸hi';have hym:=aB hik ag;rw[jS hik]at hl ⊢;obtain⟨q1,_⟩:=leaf _ hym;have hne:v.Keys≠[]:=by intro h;rw[h]at hik;cases hik
      rw[if_neg hne]at hlev;exact IHK _ hym hl (hfk _ hym) (LN hlev hr q1)
    . have hik:i < v.Items.length:=by rw[d7];exact hkl▸hi'
      have him:=aB hik ag;rw[jS hik]at hl ⊢;have hlv:=mf (ts:=ts) (t:=x.Elem) him;exact IHI _ him hl (aW.1 d9 _ him) (np hlev hr hlv)
    . have hik:i+1 < v.Keys.length:=hkl▸hi';have hik2:i < v.Keys.length:=Nat.lt_of_succ_lt hik;rw[jS hik,jS hik2];have hym:=aB hik ag;have hym2:=aB hik2 ag;obtain⟨_,p1,p2⟩:=leaf _ hym2;obtain⟨_,p3,p4⟩:=leaf _ hym;exact ya ⟨ky1,ky2⟩ (hk _ hym2) (hk _ hym) p1 p3 p2 p4 (d10 i hik)
  . rw[c9 kx];rw[hv9 kx]at hlen ⊢;rw[if_neg (show ¬x.Kind=5 by rw[kx];decide),if_neg (show ¬x.Kind=6 by rw[kx];decide),if_pos d5]at hlev
    match hI:v.Items with
    | []=>rw[vpays];exact .inl rfl
    | y::l=>
     have hym:y∈v.Items:=by rw[hI];exact .head _
     rw[hI,vpays]at hlen;rw[vpays];have:=mf (ts:=ts) (t:=x.Elem) hym;refine .inr ⟨_,rfl,IHI y hym ?_ (aW.1 d8 y hym) (np hlev hr this)⟩;have hlen:(vpay ts x.Elem y).length+1<=90000:=hlen;omega
def FitW(ts:List ae)(t:Int)(v:ab):Prop:=vfit ts false t v/\OkV v/\wt v<=2147483648
def seqO{α β:Type}(f:α->Option β):List α->Option (List β)
 | []=>some []
 | a::l=>match f a,seqO f l with
  | some b,some m=>some (b::m)
  | _,_=>none
def evens{α:Type}:List α->List α
 | a::_::l=>a::evens l
 | _=>[]
def odds{α:Type}:List α->List α
 | _::b::l=>b::odds l
 | _=>[]
def ascB(ks:List ab):Bool:=(List.range (ks.length - 1)).all fun i=>decide (vcmp (ks.getD i ag) (ks.getD (i+1) ag) < 0)
theorem pD{ks:List ab}:ascB ks=true↔ew ks:=by
 unfold ascB ew
 grind
def vdec(ts:List ae):Nat->Int->List UInt8->Option ab
 | 0,_,_=>none
 | n+1,t,p=>
  let x:=ts.getD t.toNat af
  if x.Kind=1 then(if p=[]then some ⟨1,false,0,[],0,[],[],[]⟩else if p=[1]then some ⟨1,true,0,[],0,[],[],[]⟩else none)
  else if x.Kind=2 then(match vub p with
   | some m=>if x.Low<=unz m/\unz m<=x.High then some ⟨2,false,unz m,[],0,[],[],[]⟩else none
   | none=>none)
  else if x.Kind=3 then(if(p.length:Int)<=x.Max then some ⟨3,false,0,p,0,[],[],[]⟩else none)
  else if x.Kind=4 then(match vub p with
   | some m=>if 1<=m/\m<=1000/\((x.Symbols.any fun y=>decide (y.ID=(m:Int))) || x.Open)=true then some ⟨4,false,0,[],(m:Int),[],[],[]⟩else none
   | none=>none)
  else if x.Kind=9 then(match p with
   | []=>some ⟨9,false,0,[],0,[],[],[]⟩
   | c::q=>if c=1 then(vdec ts n x.Elem q).map fun v=>⟨9,false,0,[],0,[],[v],[]⟩else none)
  else if x.Kind=6 then(match vA p with
   | some (id,q)=>(match findM x.Members id with
    | some m=>(vdec ts n m.Type_ q).map fun v=>⟨6,false,0,[],id,[],[v],[]⟩
    | none=>if x.Open=true then some ⟨6,false,0,[],id,[],[],[⟨id,q⟩]⟩else none)
   | none=>none)
  else if x.Kind=7 then(match vI p with
   | some l=>if(l.length:Int)<=x.Max then(seqO (vdec ts n x.Elem) l).map fun is=>⟨7,false,0,[],0,[],is,[]⟩else none
   | none=>none)
  else if x.Kind=8 then(match vI p with
   | some l => if l.length % 2 = 0 /\ ((l.length / 2 : Nat): Int) <= x.Max then (match seqO (vdec ts n x.Key) (evens l) with
    | some ks=>if ascB ks=true then(seqO (vdec ts n x.Elem) (odds l)).map fun is=>⟨8,false,0,[],0,ks,is,[]⟩else none
    | none=>none)else none
   | none=>none)
  else(match vFl p with
   | some l => (match seqO (fun m : aj => match l.find? (fun f => decide (f.ID = m.ID)) with
    | some f=>vdec ts n m.Type_ f.Data
    | none=>if m.HasDefault=true then some m.Default else none) x.Members with
    | some is=>if(l.all fun f=>(findM x.Members f.ID).isSome || !f.Critical)=true then some ⟨5,false,0,[],0,[],is,(l.filter fun f=>!(findM x.Members f.ID).isSome).map fun f=>⟨f.ID,f.Data⟩⟩else none
    | none=>none)
   | none=>none)
section
variable {ts:List ae}
def DOut(ts:List ae)(b1:List Int)(b2:Int)(path:List Int)(o:Option ab)(r:Option (ab×Bool×List ae×List Int×Int×List Int)):Prop:=
 (∀v,o=some v->r=some (v,true,ts,b1,b2,path))/\(o=none->∃w f1 f2,r=some (w,false,ts,f1,f2,path))
theorem mw{path:List Int}(hp:path.length<=1000)(reason:Int)(b1:List Int)(b2:Int):bD (reason,ts,b1,b2,path)=some ((⟨0,false,0,[],0,[],[],[]⟩:ab),false,ts,reason,path,path):=by
 rw[bD];unfold tg cr;rw[if_pos (bk (by omega) (by omega))];simp
theorem j9 {b1 : List Int} {b2 step t : Int} {p : List UInt8} {path : List Int} {o : Option ab} (hp : path.length <= 1000) (h : DOut ts b1 b2 (path ++ [step]) o (eW (t, p, ts, b1, b2, path ++ [step]))):
 DOut ts b1 b2 path o (bW (step,t,p,ts,b1,b2,path)):=by
 have key:∀w ok f1 f2,eW (t,p,ts,b1,b2,path++[step])=some (w,ok,ts,f1,f2,path++[step])->bW (step,t,p,ts,b1,b2,path)=some (w,ok,ts,f1,f2,path):=by
  intro w ok f1 f2 hw;rw[bW];simp only[oZ4,oZ3];rw[if_pos (bk (by omega) (by simp;omega)),hw];simp only[oZ3,ab.aD];have e1:subI .i64 ((path++[step]).length:Int) 1=(path.length:Int):=by rw[bP (by simp <;> omega) (by simp <;> omega)];simp
  rw[e1];have e2:slR 0 (path.length:Int) (path++[step]).length=true:=dk.2 (by simp;omega);simp_all
 refine⟨fun v hv=>key _ _ _ _ (h.1 v hv),fun hn=>?_⟩;obtain⟨w,f1,f2,hw⟩:=h.2 hn;exact⟨w,f1,f2,key _ _ _ _ hw⟩
theorem dX{α β:Type}{f:α->Option β}:∀{l:List α} {m:List β},seqO f l=some m->m.length=l.length
 | [],m,h=>by rw[seqO]at h;cases h;rfl
 | a::l,m,h=>by
  rw[seqO]at h;split at h
  . rename_i b m' h1 h2;cases h;rw[List.length_cons,List.length_cons,dX h2]
  . cases h
theorem zm {x : ae} {path : List Int} {f : List UInt8 -> Option ab} {l : List (List UInt8)} (hl : l.length <= 90000) (h : ∀ q, q ∈ l -> ∀ step b1 b2, DOut ts b1 b2 path (f q) (bW (step, x.Elem, q, ts, b1, b2, path)))
 {z0 z2 z4 a0 a2 a4:Int} {z1 a1:Bool} {z3 a3:List UInt8} {b1:List Int} {b2:Int}:∀(k i:Nat) (acc:List ab),i+k=l.length->acc.length=i->
 (∀m,seqO f (l.drop i)=some m->g7 (l,(l.length:Int),(i:Int),ts,b1,b2,x,z0,z1,z2,z3,z4,a0,a1,a2,a3,a4,path,acc)=some (.inr (ts,b1,b2,z0,z1,z2,z3,z4,a0,a1,a2,a3,a4,path,acc++m)))/\
 (seqO f (l.drop i)=none->∃w f1 f2,g7 (l,(l.length:Int),(i:Int),ts,b1,b2,x,z0,z1,z2,z3,z4,a0,a1,a2,a3,a4,path,acc)=some (.inl (false,ts,f1,f2,w,path)))
 | 0,i,acc,hi,ha=>by
  rw[g7,if_neg (by simp;omega),List.drop_eq_nil_of_le (by omega),seqO]
  grind
 | k+1,i,acc,hi,ha=>by
  have hlt:i < l.length:=by omega
  have hd:=h _ (aB hlt []) (i:Int) b1 b2;have e:l.drop i=l.getD i []::l.drop (i+1):=by rw[bl hlt];exact List.drop_eq_getElem_cons hlt
  rw[g7,if_pos (by simp;omega),if_pos (au hlt),aw,e,seqO];cases hf:f (l.getD i [])with
  | none=>
   obtain⟨w,f1,f2,hw⟩:=hd.2 hf;simp_all
  | some v=>
   rw[hd.1 v hf];simp only[oZ4,oZ3,ab.aD,Bool.not_true];rw[if_neg (by simp),if_pos (bk (by omega) (by simp;omega)),aA (by omega)];obtain⟨i1,i2⟩:=zm hl h (z0:=z0) (z1:=z1) (z2:=z2) (z3:=z3) (z4:=z4) (a0:=a0) (a1:=a1) (a2:=a2) (a3:=a3) (a4:=a4) (b1:=b1) (b2:=b2) k (i+1) (acc++[v]) (by omega) (by simp;omega)
   cases hs:seqO f (l.drop (i+1))with
   | none=>exact⟨fun m hm=>by simp at hm,fun _=>i2 hs⟩
   | some m'=>grind
end
theorem zn{l:List ab}{i:Nat}(hi:i < l.length):l.set i (l.getD i ag)=l:=by simp_all
theorem yd {a0 a2 a4 z0 z2 z4 : Int} {a1 z1 : Bool} {a3 z3 : List UInt8} {l l2 : List ab} {r : List aH} (hl : l.length <= 1000000000) (h : ∀ y, y ∈ l -> cE y = some y): ∀ (k i : Nat), i + k = l.length ->
 ip ((l.length:Int),(i:Int),a0,a1,a2,a3,a4,z0,z1,z2,z3,z4,l,l2,r)=some (a0,a1,a2,a3,a4,z0,z1,z2,z3,z4,l,l2,r)
 | 0,i,hi=>by rw[ip,if_neg (by simp;omega)]
 | k+1,i,hi=>by
  have hlt:i < l.length:=by omega
  rw[ip,if_pos (by simp;omega),if_pos (au hlt),aw,if_pos (by simp;omega)];simp only[ab.aD];rw[h _ (aB hlt ag)];simp only[oZ4,oZ3,ab.aD];rw[if_pos (au hlt),if_pos (by simp;omega),aA (by omega),zn hlt];exact yd hl h k (i+1) (by omega)
theorem yf {a0 a2 a4 z0 z2 z4 : Int} {a1 z1 : Bool} {a3 z3 : List UInt8} {l l2 : List ab} {r : List aH} (hl : l.length <= 1000000000) (h : ∀ y, y ∈ l -> cE y = some y): ∀ (k i : Nat), i + k = l.length ->
 iq ((l.length:Int),(i:Int),a0,a1,a2,a3,a4,z0,z1,z2,z3,z4,l,l2,r)=some (a0,a1,a2,a3,a4,z0,z1,z2,z3,z4,l2,l,r)
 | 0,i,hi=>by rw[iq,if_neg (by simp;omega)]
 | k+1,i,hi=>by
  have hlt:i < l.length:=by omega
  rw[iq,if_pos (by simp;omega),if_pos (au hlt),aw,if_pos (by simp;omega)];simp only[ab.aD];rw[h _ (aB hlt ag)];simp only[oZ4,oZ3,ab.aD];rw[if_pos (au hlt),if_pos (by simp;omega),aA (by omega),zn hlt];exact yf hl h k (i+1) (by omega)
theorem wts_len' :∀l:List ab,l.length<=wts l
 | []=>by simp
 | v::l=>by
  rw[gR,wt_eq,List.length_cons];have:=wts_len' l;omega
theorem KT(l:List aH):l.length<=(l.map fun x=>x.Data.length+1).sum:=by
 induction l with
 | nil=>simp
 | cons a l ih=>simp only[List.map_cons,List.sum_cons,List.length_cons];omega
theorem tq{k n:Nat}(hk:k<=1000)(h:n<=1000000000):room k n=true:=by
 unfold room bZ aV;simp only[Bool.and_eq_true,decide_eq_true_eq];refine⟨?_,by omega⟩;have:(2*n+192)*k<=2000000192*1000:=Nat.mul_le_mul (by omega) hk;omega
theorem IX{v:ab}(hv:OkV v):wt v<=1000000000->cE v=some v:=by
 induction hv with
 | mk v hs h1 h2 h3 hk hi hrd n1 n2 n3 n4 ihk ihi=>
  intro hw;have hwt:=wt_eq v;have l1:=wts_len' v.Keys;have l2:=wts_len' v.Items;have l3:=KT v.Rest;have kk:∀y,y∈v.Keys->cE y=some y:=fun y hy=>ihk y hy (by have:=bd hy;omega)
  have ki:∀y,y∈v.Items->cE y=some y:=fun y hy=>ihi y hy (by have:=bd hy;omega)
  have c1:cr 120 v.Keys=some v.Keys:=by unfold cr;rw[if_pos (tq (by omega) (by omega))]
  have c2:cr 120 v.Items=some v.Items:=by unfold cr;rw[if_pos (tq (by omega) (by omega))]
  have c3:cr 24 v.Rest=some v.Rest:=by unfold cr;rw[if_pos (tq (by omega) (by omega))]
  have L0:=yd (a0:=v.Kind) (a1:=v.Bool_) (a2:=v.Int_) (a3:=v.Str) (a4:=v.ID) (z0:=0) (z1:=false) (z2:=0) (z3:=[]) (z4:=0) (l:=v.Keys) (l2:=v.Items) (r:=v.Rest) (by omega) kk v.Keys.length 0 (by omega)
  have L1:=yf (a0:=v.Kind) (a1:=v.Bool_) (a2:=v.Int_) (a3:=v.Str) (a4:=v.ID) (z0:=0) (z1:=false) (z2:=0) (z3:=[]) (z4:=0) (l:=v.Items) (l2:=v.Keys) (r:=v.Rest) (by omega) ki v.Items.length 0 (by omega);have L0':ip ((v.Keys.length:Int),0,v.Kind,v.Bool_,v.Int_,v.Str,v.ID,0,false,0,[],0,v.Keys,v.Items,v.Rest)=_:=L0
  have L1':iq ((v.Items.length:Int),0,v.Kind,v.Bool_,v.Int_,v.Str,v.ID,0,false,0,[],0,v.Items,v.Keys,v.Rest)=_:=L1;rw[cE,c1,c2,c3];simp only[oZ4,oZ3];rw[L0'];simp only[oZ3];rw[L1'];simp only[oZ3];cases v;rfl
section
variable {ts:List ae}
def DecR(ts:List ae)(n:Nat):Prop:=∀(t:Int) (p:List UInt8) (b1:List Int) (b2:Int) (path:List Int),0<=t->t < ts.length->p.length<=4096->path.length+n=200->
 DOut ts b1 b2 path (vdec ts n t p) (eW (t,p,ts,b1,b2,path))
theorem co{path:List Int}(hp:path.length<=1000)(reason:Int)(b1:List Int)(b2:Int):DOut ts b1 b2 path none (bD (reason,ts,b1,b2,path) >>=fun r=>some (ab.eta r.1,r.2.1,r.2.2.1,r.2.2.2.2.2,r.2.2.2.1,r.2.2.2.2.1)):=by
 refine⟨fun v h=>(by cases h),fun _=>?_⟩;rw[mw hp];simp_all
theorem member_find'{x:ae}(hm:MAsc x.Members)(hl:x.Members.length<=1000){id:Int}{m:aj}(hF:findM x.Members id=some m):∃j,j < x.Members.length/\bY (x,id)=some ((j:Int),true)/\x.Members.getD j ap=m:=by
 obtain⟨m1,m2⟩:=gN hF;obtain⟨r,r1,r2⟩:=nM (t:=x) (id:=id) (by omega);rcases r2 with⟨j,j1,j2,_,rfl⟩ | ⟨q,_⟩
 . exact⟨j,j1,r1,sH hm (aB j1 ap) m1 (by rw[j2,m2])⟩
 . obtain⟨i,hi,rfl⟩:=List.getElem_of_mem m1
   grind
theorem IY (H : SOk ts) {n : Nat} (ih : DecR ts n) {x : ae} (hx : x ∈ ts) (k6 : x.Kind = 6) (hT : ∀ m, m ∈ x.Members -> 0 <= m.Type_ /\ m.Type_ < ts.length) {p : List UInt8} (hp : p.length <= 4096) {b1 : List Int} {b2 : Int} {path : List Int} (hpa : path.length + (n + 1) = 200):
 DOut ts b1 b2 path (match vA p with
  | some (id,q)=>(match findM x.Members id with
   | some m=>(vdec ts n m.Type_ q).map fun v=>⟨6,false,0,[],id,[],[v],[]⟩
   | none=>if x.Open=true then some ⟨6,false,0,[],id,[],[],[⟨id,q⟩]⟩else none)
  | none=>none) (nC (x,p,ts,b1,b2,path)):=by
 obtain⟨o,o1,_,o2,o3⟩:=pC p;rw[nC,o1];simp only[oZ4,oZ3];by_cases h0:o.2.2=0
 . obtain⟨v1,v2,v3⟩:=o2 h0;rw[if_neg (by simp[h0]),v1];dsimp only;obtain⟨hA1,hA2⟩:=H.A x hx (.inr k6);cases hF:findM x.Members o.1 with
   | some m=>
    obtain⟨j,j1,j2,j3⟩:=member_find' hA1 (by omega) hF;rw[j2];simp only[oZ3];rw[if_pos trivial,if_pos (au j1),aw,j3];obtain⟨t1,t2⟩:=hT m (gN hF).1;have hd:=j9 (step:=o.1) (path:=path) (by omega) (ih m.Type_ o.2.1 b1 b2 (path++[o.1]) t1 t2 (by omega) (by simp;omega));cases hv:vdec ts n m.Type_ o.2.1 with
    | none=>
     obtain⟨w,f1,f2,hw⟩:=hd.2 hv;rw[hw];exact⟨fun v h=>by simp at h,fun _=>⟨_,_,_,rfl⟩⟩
    | some v=>
     rw[hd.1 v hv]
     exact⟨fun v' h=>by
      have:v'=⟨6,false,0,[],o.1,[],[v],[]⟩:=by simpa using h.symm
      rw[this]
      simp[ab.aD,k6],fun h=>by simp at h⟩
   | none=>
    obtain⟨r,r1,r2⟩:=nM (t:=x) (id:=o.1) (by omega);have hr:r=(0,false):=by
     rcases r2 with⟨j,j1,j2,_,_⟩ | ⟨_,q⟩
     . exact absurd j2 (fD hF _ (aB j1 ap))
     . exact q
    rw[r1,hr];cases hO:x.Open with
    | false=>
     simp only[oZ3,Bool.false_eq_true,if_false,Bool.not_false,if_true,eq_self];exact co (by omega) _ _ _
    | true=>
     simp only[oZ3,Bool.false_eq_true,if_false,Bool.not_true,if_true,eq_self];exact⟨fun v' h=>(by cases h;rw[k6]),fun h=>(by cases h)⟩
 . rw[if_pos (by simp[h0]),o3 h0];exact co (by omega) _ _ _
end
theorem HX{α:Type}{l:List α}{j:Nat}(h:2*j+1 < l.length)(d:α):evens (l.drop (2*j))=l.getD (2*j) d::evens (l.drop (2*(j+1))):=by
 rw[List.drop_eq_getElem_cons (by omega:2*j < l.length),List.drop_eq_getElem_cons h,evens,bl (by omega)];rfl
theorem IZ{α:Type}{l:List α}{j:Nat}(h:2*j+1 < l.length)(d:α):odds (l.drop (2*j))=l.getD (2*j+1) d::odds (l.drop (2*(j+1))):=by
 rw[List.drop_eq_getElem_cons (by omega:2*j < l.length),List.drop_eq_getElem_cons h,odds,bl h];rfl
theorem add2{i:Nat}(h:i < 1000000):addI .i64 (i:Int) 2=((i+2:Nat):Int):=by
 have:=pK (a:=i) (b:=2) (by omega);exact this
section
variable {ts:List ae}
theorem zo {x : ae} {path : List Int} {f : List UInt8 -> Option ab} {l : List (List UInt8)} (hl : l.length <= 90000) (he : l.length % 2 = 0) (h : ∀ q, q ∈ l -> ∀ step b1 b2, DOut ts b1 b2 path (f q) (bW (step, x.Key, q, ts, b1, b2, path)))
 {z0 z2 z4 a0 a2 a4:Int} {z1 a1:Bool} {z3 a3:List UInt8} {b1:List Int} {b2:Int}:∀(k j:Nat) (acc:List ab),2*(j+k)=l.length->acc.length=j->
 (∀m,seqO f (evens (l.drop (2*j)))=some m->gX (l,((2*j:Nat):Int),ts,b1,b2,x,z0,z1,z2,z3,z4,a0,a1,a2,a3,a4,path,acc)=some (.inr (l,ts,b1,b2,x,z0,z1,z2,z3,z4,a0,a1,a2,a3,a4,path,acc++m)))/\
 (seqO f (evens (l.drop (2*j)))=none->∃w f1 f2,gX (l,((2*j:Nat):Int),ts,b1,b2,x,z0,z1,z2,z3,z4,a0,a1,a2,a3,a4,path,acc)=some (.inl (false,ts,f1,f2,w,path)))
 | 0,j,acc,hi,ha=>by
  rw[gX,if_neg (by simp;omega),List.drop_eq_nil_of_le (by omega),show evens ([]:List (List UInt8))=[]from rfl,seqO]
  grind
 | k+1,j,acc,hi,ha=>by
  have hlt:2*j < l.length:=by omega
  have hd:=h _ (aB hlt []) (quoI .i64 ((2*j:Nat):Int) 2) b1 b2;rw[gX,if_pos (by simp;omega),if_pos (au hlt),aw,HX (by omega) [],seqO];cases hf:f (l.getD (2*j) [])with
  | none=>
   obtain⟨w,f1,f2,hw⟩:=hd.2 hf;simp_all
  | some v=>
   rw[hd.1 v hf];simp only[oZ4,oZ3,ab.aD,Bool.not_true];rw[if_neg (by simp),if_pos (bk (by omega) (by simp;omega)),add2 (by omega)];obtain⟨i1,i2⟩:=zo hl he h (z0:=z0) (z1:=z1) (z2:=z2) (z3:=z3) (z4:=z4) (a0:=a0) (a1:=a1) (a2:=a2) (a3:=a3) (a4:=a4) (b1:=b1) (b2:=b2) k (j+1) (acc++[v]) (by omega) (by simp;omega)
   have ej:2*j+2=2*(j+1):=by omega
   rw[ej];cases hs:seqO f (evens (l.drop (2*(j+1))))with
   | none=>exact⟨fun m hm=>by simp at hm,fun _=>i2 hs⟩
   | some m'=>grind
theorem yg {x : ae} {path : List Int} {f : List UInt8 -> Option ab} {l : List (List UInt8)} (hl : l.length <= 90000) (he : l.length % 2 = 0) (h : ∀ q, q ∈ l -> ∀ step b1 b2, DOut ts b1 b2 path (f q) (bW (step, x.Elem, q, ts, b1, b2, path)))
 {z0 z2 z4 a0 a2 a4:Int} {z1 a1:Bool} {z3 a3:List UInt8} {b1:List Int} {b2:Int} {ks:List ab}:∀(k j:Nat) (acc:List ab),2*(j+k)=l.length->acc.length=j->
 (∀m,seqO f (odds (l.drop (2*j)))=some m->gY (l,((2*j+1:Nat):Int),ts,b1,b2,x,z0,z1,z2,z3,z4,a0,a1,a2,a3,a4,path,ks,acc)=some (.inr (ts,b1,b2,z0,z1,z2,z3,z4,a0,a1,a2,a3,a4,path,ks,acc++m)))/\
 (seqO f (odds (l.drop (2*j)))=none->∃w f1 f2,gY (l,((2*j+1:Nat):Int),ts,b1,b2,x,z0,z1,z2,z3,z4,a0,a1,a2,a3,a4,path,ks,acc)=some (.inl (false,ts,f1,f2,w,path)))
 | 0,j,acc,hi,ha=>by
  rw[gY,if_neg (by simp;omega),List.drop_eq_nil_of_le (by omega),show odds ([]:List (List UInt8))=[]from rfl,seqO]
  grind
 | k+1,j,acc,hi,ha=>by
  have hlt:2*j+1 < l.length:=by omega
  have hd:=h _ (aB hlt []) (quoI .i64 ((2*j+1:Nat):Int) 2) b1 b2;rw[gY,if_pos (by simp;omega),if_pos (au hlt),aw,IZ hlt [],seqO];cases hf:f (l.getD (2*j+1) [])with
  | none=>
   obtain⟨w,f1,f2,hw⟩:=hd.2 hf;simp_all
  | some v=>
   rw[hd.1 v hf];simp only[oZ4,oZ3,ab.aD,Bool.not_true];rw[if_neg (by simp),if_pos (bk (by omega) (by simp;omega)),add2 (by omega)];obtain⟨i1,i2⟩:=yg hl he h (z0:=z0) (z1:=z1) (z2:=z2) (z3:=z3) (z4:=z4) (a0:=a0) (a1:=a1) (a2:=a2) (a3:=a3) (a4:=a4) (b1:=b1) (b2:=b2) (ks:=ks) k (j+1) (acc++[v]) (by omega) (by simp;omega)
   have ej:2*j+1+2=2*(j+1)+1:=by omega
   rw[ej];cases hs:seqO f (odds (l.drop (2*(j+1))))with
   | none=>exact⟨fun m hm=>by simp at hm,fun _=>i2 hs⟩
   | some m'=>grind
end
section
variable {ts:List ae}
theorem LP{a b:ab}(ha:I64 a.Int_)(hb:I64 b.Int_):dS (a,b)=some (vcmp a b):=by
 obtain⟨r,r1,r2⟩:=od ha hb;have:=pB ha hb
 grind
theorem As {x : ae} {path : List Int} (hp : path.length <= 1000) {l : List (List UInt8)} {ks : List ab} (hk : ∀ y, y ∈ ks -> I64 y.Int_) (hl : ks.length <= 90000)
 {z0 z2 z4 a0 a2 a4:Int} {z1 a1:Bool} {z3 a3:List UInt8} {b1:List Int} {b2:Int}:∀(k i:Nat),ks.length - (i+1)=k->
 ((∀m,i<=m->m+1 < ks.length->vcmp (ks.getD m ag) (ks.getD (m+1) ag) < 0)/\f0 (l,((i+1:Nat):Int),ts,b1,b2,x,z0,z1,z2,z3,z4,a0,a1,a2,a3,a4,path,ks)=some (.inr (l,ts,b1,b2,x,z0,z1,z2,z3,z4,a0,a1,a2,a3,a4,path,ks)))\/
 ((∃m,m+1 < ks.length/\¬vcmp (ks.getD m ag) (ks.getD (m+1) ag) < 0)/\∃w f1 f2,f0 (l,((i+1:Nat):Int),ts,b1,b2,x,z0,z1,z2,z3,z4,a0,a1,a2,a3,a4,path,ks)=some (.inl (false,ts,f2,w,path,f1)))
 | 0,i,hi=>by
  rw[f0,if_neg (by simp;omega)]
  grind
 | k+1,i,hi=>by
  have hlt:i+1 < ks.length:=by omega
  have e1:subI .i64 ((i+1:Nat):Int) 1=(i:Int):=by rw[bP (by omega) (by omega)];omega
  rw[f0,if_pos (by simp;omega),e1];simp only[oZ4,oZ3];rw[if_pos (au (by omega)),if_pos (by simp;omega),if_pos (au hlt),if_pos (by simp;omega),aw,aw];simp only[ab.aD];rw[LP (hk _ (aB (by omega) ag)) (hk _ (aB hlt ag))];simp only[oZ3];by_cases hc:vcmp (ks.getD i ag) (ks.getD (i+1) ag) < 0
  . rw[if_neg (by simpa using hc),aA (by omega)];rcases As hp hk hl (x:=x) (l:=l) (z0:=z0) (z1:=z1) (z2:=z2) (z3:=z3) (z4:=z4) (a0:=a0) (a1:=a1) (a2:=a2) (a3:=a3) (a4:=a4) (b1:=b1) (b2:=b2) k (i+1) (by omega)with⟨h1,h2⟩ | h
    . grind
    grind
  . rw[if_pos (by simpa using hc),mw hp]
    grind
theorem Au{m:Nat}(h:m < 18446744073709551616):I64 (unz m):=by
 unfold unz I64;omega
theorem i64_0 :I64 0:=by unfold I64;omega
def AllI(o:Option ab):Prop:=∀v,o=some v->I64 v.Int_
theorem AllI.ite{c:Prop}[Decidable c]{a b:Option ab}(ha:c->AllI a)(hb:¬c->AllI b):AllI (if c then a else b):=by grind
theorem AllI.no :AllI none:=fun v h=>(by cases h)
theorem AllI.zero{k i:Int}{b:Bool}{s:List UInt8}{ks is:List ab}{r:List aH}:AllI (some ⟨k,b,0,s,i,ks,is,r⟩):=fun v h=>(by cases h;exact i64_0)
theorem AllI.map{α:Type}{o:Option α}{k i:Int}{b:Bool}{s:List UInt8}{ks is:α->List ab}{r:List aH}:AllI (o.map fun v=>⟨k,b,0,s,i,ks v,is v,r⟩):=fun v h=>by obtain⟨_,_,rfl⟩:=Option.map_eq_some_iff.1 h;exact i64_0
theorem KU{n:Nat}{t:Int}{p:List UInt8}{v:ab}(h:vdec ts n t p=some v):I64 v.Int_:=by
 have key:AllI (vdec ts n t p):=by
  cases n with
  | zero=>unfold vdec;exact .no
  | succ n=>
   unfold vdec;refine .ite (fun _=>.ite (fun _=>.zero) fun _=>.ite (fun _=>.zero) fun _=>.no) fun _=>?_
   refine .ite (fun _=>?_) fun _=>?_
   . cases hm:vub p with
     | none=>exact .no
     | some m=>exact .ite (fun _=>fun v h=>(by cases h;exact Au (nn hm))) fun _=>.no
   refine .ite (fun _=>.ite (fun _=>.zero) fun _=>.no) fun _=>?_
   refine .ite (fun _=>?_) fun _=>?_
   . cases hm:vub p with
     | none=>exact .no
     | some m=>exact .ite (fun _=>.zero) fun _=>.no
   refine .ite (fun _=>?_) fun _=>?_
   . cases p with
     | nil=>exact .zero
     | cons c q=>exact .ite (fun _=>.map) fun _=>.no
   refine .ite (fun _=>?_) fun _=>?_
   . cases vA p with
     | none=>exact .no
     | some a=>
      obtain⟨id,q⟩:=a;dsimp only;cases findM (ts.getD t.toNat af).Members id with
      | none=>exact .ite (fun _=>.zero) fun _=>.no
      | some m=>exact .map
   refine .ite (fun _=>?_) fun _=>?_
   . cases vI p with
     | none=>exact .no
     | some l=>exact .ite (fun _=>.map) fun _=>.no
   refine .ite (fun _=>?_) fun _=>?_
   . cases vI p with
     | none=>exact .no
     | some l=>
      refine .ite (fun _=>?_) fun _=>.no
      cases seqO (vdec ts n (ts.getD t.toNat af).Key) (evens l)with
      | none=>exact .no
      | some ks=>exact .ite (fun _=>.map) fun _=>.no
   . cases vFl p with
     | none=>exact .no
     | some l=>
      dsimp only;split
      . exact .ite (fun _=>.zero) fun _=>.no
      . exact .no
 exact key v h
theorem my{α β:Type}{f:α->Option β}:∀{l:List α} {m:List β},seqO f l=some m->∀y,y∈m->∃a,a∈l/\f a=some y
 | [],m,h,y,hy=>by rw[seqO]at h;cases h;cases hy
 | a::l,m,h,y,hy=>by
  rw[seqO]at h;split at h
  . rename_i b m' h1 h2;cases h;rcases List.mem_cons.1 hy with rfl | hy
    . grind
    . obtain⟨a',k1,k2⟩:=my h2 y hy
      grind
  . cases h
theorem o7{α:Type}:∀{l:List α} {y:α},y∈evens l->y∈l
 | [],y,h=>by cases h
 | [_],y,h=>by cases h
 | a::b::l,y,h=>by
  rcases List.mem_cons.1 h with rfl | h
  . grind
  . exact .tail _ (.tail _ (o7 h))
theorem yh{α:Type}:∀(l:List α),(evens l).length<=l.length
 | []=>Nat.le_refl _
 | [_]=>Nat.zero_le _
 | a::b::l=>by
  show(evens l).length+1<=l.length+1+1;have:=yh l;omega
theorem quo2{a:Nat}(h:a < 1000000):quoI .i64 (a:Int) 2=((a / 2:Nat):Int):=by
 unfold quoI;have e:(a:Int).tdiv 2=((a / 2:Nat):Int):=by rw[Int.tdiv_eq_ediv_of_nonneg (by omega)];omega
 rw[e];exact wrp64 (by omega) (by omega)
theorem LR {n : Nat} (ih : DecR ts n) {x : ae} (k8 : x.Kind = 8) (hK : 0 <= x.Key /\ x.Key < ts.length) (hE : 0 <= x.Elem /\ x.Elem < ts.length) {p : List UInt8} (hp : p.length <= 4096) {b1 : List Int} {b2 : Int} {path : List Int} (hpa : path.length + (n + 1) = 200):
 DOut ts b1 b2 path (match vI p with
  | some l => if l.length % 2 = 0 /\ ((l.length / 2 : Nat): Int) <= x.Max then (match seqO (vdec ts n x.Key) (evens l) with
   | some ks=>if ascB ks=true then(seqO (vdec ts n x.Elem) (odds l)).map fun is=>(⟨8,false,0,[],0,ks,is,[]⟩:ab)else none
   | none=>none)else none
  | none=>none) (kT (x,p,ts,b1,b2,path)):=by
 obtain⟨o,o1,_,o2,o3⟩:=dW (p:=p) (by omega);rw[kT,o1];simp only[oZ4,oZ3];by_cases h0:o.2=0
 . obtain⟨v1,v2,v3⟩:=o2 h0;rw[v1];dsimp only;have hrem:remI (o.1.length:Int) 2=((o.1.length % 2:Nat):Int):=by rw[cA (by omega) (by omega)];omega
   rw[hrem,quo2 (by omega)];by_cases he:o.1.length % 2=0
   . have hb:¬(bif (!(decide (o.2=0)))then true else(!(decide (((o.1.length % 2:Nat):Int)=0))))=true:=by grind
     rw[if_neg hb];by_cases hm:((o.1.length / 2:Nat):Int)<=x.Max
     . rw[if_pos (show o.1.length % 2=0/\((o.1.length / 2:Nat):Int)<=x.Max from⟨he,hm⟩),if_neg (show ¬decide (x.Max < ((o.1.length / 2:Nat):Int))=true by simp only[decide_eq_true_eq];omega)];have hk:∀q,q∈o.1->∀step b1 b2,DOut ts b1 b2 path (vdec ts n x.Key q) (bW (step,x.Key,q,ts,b1,b2,path)):=fun q hq step b1 b2=>
        j9 (by omega) (ih x.Key q b1 b2 (path++[step]) hK.1 hK.2 (by have:=v2 q hq;omega) (by simp;omega))
       have hi:∀q,q∈o.1->∀step b1 b2,DOut ts b1 b2 path (vdec ts n x.Elem q) (bW (step,x.Elem,q,ts,b1,b2,path)):=fun q hq step b1 b2=>
        j9 (by omega) (ih x.Elem q b1 b2 (path++[step]) hE.1 hE.2 (by have:=v2 q hq;omega) (by simp;omega))
       obtain⟨A1,A2⟩:=zo (x:=x) (l:=o.1) (by omega) he hk (z0:=0) (z1:=false) (z2:=0) (z3:=[]) (z4:=0) (a0:=x.Kind) (a1:=false) (a2:=0) (a3:=[]) (a4:=0) (b1:=b1) (b2:=b2) (o.1.length / 2) 0 [] (by omega) rfl;have d0:o.1.drop (2*0)=o.1:=rfl;rw[d0]at A1 A2;have z0:((2*0:Nat):Int)=0:=rfl;rw[z0]at A1 A2
       cases hs:seqO (vdec ts n x.Key) (evens o.1)with
       | none=>
        obtain⟨w,f1,f2,hw⟩:=A2 hs;rw[hw];exact⟨fun v h=>(by cases h),fun _=>⟨_,_,_,rfl⟩⟩
       | some ks=>
        rw[A1 ks hs];simp only[oZ3,List.nil_append];have hki:∀y,y∈ks->I64 y.Int_:=fun y hy=>by
         obtain⟨a,_,ha⟩:=my hs y hy;exact KU ha
        have hkl:ks.length<=90000:=by
         have:=dX hs;have:=yh o.1;omega
        have B:=As (ts:=ts) (x:=x) (path:=path) (by omega) (l:=o.1) hki hkl (z0:=0) (z1:=false) (z2:=0) (z3:=[]) (z4:=0) (a0:=x.Kind) (a1:=false) (a2:=0) (a3:=[]) (a4:=0) (b1:=b1) (b2:=b2) _ 0 rfl;have z1:((0+1:Nat):Int)=1:=rfl;rw[z1]at B;rcases B with⟨B1,B2⟩ | ⟨⟨m,m1,m2⟩,w,f1,f2,B2⟩
        . have hasc:ascB ks=true:=pD.2 fun i hi=>B1 i (Nat.zero_le _) hi
          rw[if_pos hasc,B2];simp only[oZ3];obtain⟨C1,C2⟩:=yg (x:=x) (l:=o.1) (by omega) he hi (z0:=0) (z1:=false) (z2:=0) (z3:=[]) (z4:=0) (a0:=x.Kind) (a1:=false) (a2:=0) (a3:=[]) (a4:=0) (b1:=b1) (b2:=b2) (ks:=ks) (o.1.length / 2) 0 [] (by omega) rfl;rw[d0]at C1 C2;have z2:((2*0+1:Nat):Int)=1:=rfl;rw[z2]at C1 C2
          cases hs2:seqO (vdec ts n x.Elem) (odds o.1)with
          | none=>
           obtain⟨w,f1,f2,hw⟩:=C2 hs2;rw[hw];exact⟨fun v h=>(by cases h),fun _=>⟨_,_,_,rfl⟩⟩
          | some is=>
           rw[C1 is hs2];exact⟨fun v h=>(by cases h;simp[k8]),fun h=>(by cases h)⟩
        . have hasc:¬ascB ks=true:=fun h=>m2 (pD.1 h m m1)
          rw[if_neg hasc,B2];exact⟨fun v h=>(by cases h),fun _=>⟨ab.eta w,f1,f2,rfl⟩⟩
     . rw[if_neg (show ¬(o.1.length % 2=0/\((o.1.length / 2:Nat):Int)<=x.Max)from fun h=>hm h.2),if_pos (show decide (x.Max < ((o.1.length / 2:Nat):Int))=true by simp only[decide_eq_true_eq];omega)];exact co (by omega) _ _ _
   . have hb:(bif (!(decide (o.2=0)))then true else(!(decide (((o.1.length % 2:Nat):Int)=0))))=true:=by grind
     rw[if_neg (show ¬(o.1.length % 2=0/\((o.1.length / 2:Nat):Int)<=x.Max)from fun h=>he h.1),if_pos hb];exact co (by omega) _ _ _
 . have hb:(bif (!(decide (o.2=0)))then true else(!(decide (remI (o.1.length:Int) 2=0))))=true:=by simp[h0]
   rw[if_pos hb,o3 h0];exact co (by omega) _ _ _
end
section
variable {ts:List ae}
theorem I3 {l : List aF} (m : aj) (hl : l.length <= 90000): (∃ j, j < l.length /\ l.find? (fun f => decide (f.ID = m.ID)) = some (l.getD j aN) /\ kN (l, m) = some ((j : Int), m)) \/
 (l.find? (fun f=>decide (f.ID=m.ID))=none/\kN (l,m)=some (-1,m)):=by
 have h:=iS (fun i=>eG (l,(l.length:Int),(i:Int),m)) l.length (fun i=>decide ((l.getD i aN).ID=m.ID)) (fun i=>.inl ((i:Int),m)) (.inr m)
  (fun i hi=>by
   rw[eG,if_pos (by simp;omega),if_pos (au hi)];simp only[oZ4,oZ3,aw,ab.aD,qd]
   rw[aA (by omega)])
  (by rw[eG,if_neg (by simp)];simp only[cw])
 have e0:eG (l,(l.length:Int),((0:Nat):Int),m)=eG (l,(l.length:Int),0,m):=rfl;simp only[e0]at h;rw[kN];simp only[cw];rcases h with⟨j,h1,h2,h3,h4⟩ | ⟨h1,h4⟩
 . left;refine⟨j,h1,?_,by rw[h4];simp only[oZ4,oZ3,cw]⟩;rw[bl h1]at h2 ⊢;rw[List.find?_eq_some_iff_getElem];refine⟨h2,j,h1,rfl,fun k hk=>?_⟩;have:=h3 k hk;rw[bl (by omega)]at this
   simpa using this
 . right;refine⟨?_,by rw[h4];simp only[oZ4,oZ3,cw]⟩;rw[List.find?_eq_none];intro f hf;obtain⟨i,hi,rfl⟩:=List.getElem_of_mem hf;have:=h1 i hi;rw[bl hi]at this
   simpa using this
def consO{β:Type}:Option β->Option (List β)->Option (List β)
 | some b,some m=>some (b::m)
 | _,_=>none
theorem I4{α β:Type}(f:α->Option β)(a:α)(l:List α):seqO f (a::l)=consO (f a) (seqO f l):=by rfl
def vmem(f:Int->List UInt8->Option ab)(l:List aF)(m:aj):Option ab:=match l.find? (fun f=>decide (f.ID=m.ID))with
 | some g=>f m.Type_ g.Data
 | none=>if m.HasDefault=true then some m.Default else none
theorem zp {x : ae} {path : List Int} (hpath : path.length <= 900) {f : Int -> List UInt8 -> Option ab} {l : List aF} (hl : l.length <= 90000) (hM : x.Members.length <= 16)
 (hD:∀m,m∈x.Members->m.HasDefault=true->cE m.Default=some m.Default)
 (h:∀m,m∈x.Members->∀q,q∈l->∀step b1 b2,DOut ts b1 b2 path (f m.Type_ q.Data) (bW (step,m.Type_,q.Data,ts,b1,b2,path)))
 {z0 z2 z4 a0 a2 a4:Int} {z1 a1:Bool} {z3 a3:List UInt8} {b1:List Int} {b2:Int}:∀(k i:Nat) (acc:List ab),i+k=x.Members.length->acc.length=i->
 (∀m,seqO (vmem f l) (x.Members.drop i)=some m->dp (l,x.Members,(x.Members.length:Int),(i:Int),ts,b1,b2,x,z0,z1,z2,z3,z4,a0,a1,a2,a3,a4,path,acc)=some (.inr (l,ts,b1,b2,x,z0,z1,z2,z3,z4,a0,a1,a2,a3,a4,path,acc++m)))/\
 (seqO (vmem f l) (x.Members.drop i)=none->∃w f1 f2,dp (l,x.Members,(x.Members.length:Int),(i:Int),ts,b1,b2,x,z0,z1,z2,z3,z4,a0,a1,a2,a3,a4,path,acc)=some (.inl (false,ts,f1,f2,w,path)))
 | 0,i,acc,hi,ha=>by
  rw[dp,if_neg (by simp;omega),List.drop_eq_nil_of_le (by omega),seqO]
  grind
 | k+1,i,acc,hi,ha=>by
  have hlt:i < x.Members.length:=by omega
  have hmem:=aB hlt ap;have e:x.Members.drop i=x.Members.getD i ap::x.Members.drop (i+1):=by rw[bl hlt];exact List.drop_eq_getElem_cons hlt
  have go:∀v,(∀m',seqO (vmem f l) (x.Members.drop (i+1))=some m'->dp (l,x.Members,(x.Members.length:Int),((i+1:Nat):Int),ts,b1,b2,x,z0,z1,z2,z3,z4,a0,a1,a2,a3,a4,path,acc++[v])=some (.inr (l,ts,b1,b2,x,z0,z1,z2,z3,z4,a0,a1,a2,a3,a4,path,acc++[v]++m')))/\(seqO (vmem f l) (x.Members.drop (i+1))=none->∃w f1 f2,dp (l,x.Members,(x.Members.length:Int),((i+1:Nat):Int),ts,b1,b2,x,z0,z1,z2,z3,z4,a0,a1,a2,a3,a4,path,acc++[v])=some (.inl (false,ts,f1,f2,w,path))):=fun v=>
   zp hpath hl hM hD h k (i+1) (acc++[v]) (by omega) (by simp;omega)
  rw [dp, if_pos (by simp; omega), if_pos (au hlt), aw, e, I4];simp only [oZ4, oZ3, cw];generalize x.Members.getD i ap = m0 at *;have fin : ∀ (v : ab) (X : Option _), vmem f l m0 = some v -> X = dp (l, x.Members, (x.Members.length : Int), ((i + 1 : Nat): Int), ts, b1, b2, x, z0, z1, z2, z3, z4, a0, a1, a2, a3, a4, path, acc ++ [v]) ->
   (∀m,consO (vmem f l m0) (seqO (vmem f l) (x.Members.drop (i+1)))=some m->X=some (.inr (l,ts,b1,b2,x,z0,z1,z2,z3,z4,a0,a1,a2,a3,a4,path,acc++m)))/\
   (consO (vmem f l m0) (seqO (vmem f l) (x.Members.drop (i+1)))=none->∃w f1 f2,X=some (.inl (false,ts,f1,f2,w,path))):=by
   intro v X hv hX;obtain⟨g1,g2⟩:=go v;rw[hv,hX];cases hs:seqO (vmem f l) (x.Members.drop (i+1))with
   | none=>exact⟨fun m hm=>(by cases hm),fun _=>g2 hs⟩
   | some m'=>
    refine⟨fun m hm=>?_,fun h=>(by cases h)⟩;have:m=v::m':=(by cases hm;rfl)
    grind
  rcases I3 m0 hl with⟨j,j1,j2,j3⟩ | ⟨j2,j3⟩
  . rw[j3];simp only[oZ3];rw[if_pos (by simp),if_pos (au j1),aw];have hd:=h m0 hmem _ (aB j1 aN) m0.ID b1 b2;have hvm:vmem f l m0=f m0.Type_ (l.getD j aN).Data:=by unfold vmem;rw[j2]
    cases hv:f m0.Type_ (l.getD j aN).Data with
    | none=>
     obtain⟨w,f1,f2,hw⟩:=hd.2 hv;rw[hw,hvm,hv];exact⟨fun m hm=>(by cases hm),fun _=>⟨w,f1,f2,by simp[ab.aD]⟩⟩
    | some v=>
     rw[hd.1 v hv];simp only[oZ3,ab.aD,Bool.not_true];rw[if_neg (by simp),if_pos (bk (by omega) (by simp;omega)),aA (by omega)]
     grind
  . rw[j3];simp only[oZ3];rw[if_neg (by simp)];cases hdf:m0.HasDefault with
    | true=>
     rw[if_pos rfl];simp only[ab.aD];rw[hD m0 hmem hdf];simp only[oZ3,ab.aD];rw[if_pos (bk (by omega) (by simp;omega)),aA (by omega)];exact fin m0.Default _ (by unfold vmem;rw[j2];simp[hdf]) rfl
    | false=>
     have hvm:vmem f l m0=none:=by unfold vmem;rw[j2];simp[hdf]
     rw[if_neg (by simp),if_pos (bk (by omega) (by simp;omega)),mw (by simp;omega),hvm];simp only[oZ3,ab.aD];have e1:subI .i64 ((path++[m0.ID]).length:Int) 1=(path.length:Int):=by rw[bP (by simp <;> omega) (by simp <;> omega)];simp
     rw[e1,if_pos (dk.2 (by simp;omega)),if_pos (by simp),aw];exact⟨fun m hm=>(by cases hm),fun _=>⟨_,_,_,by simp;exact⟨rfl,rfl,rfl⟩⟩⟩
end
section
variable {ts:List ae}
theorem memF{x:ae}(hM:x.Members.length<=1000)(hA:MAsc x.Members)(id:Int):∃r,bY (x,id)=some r/\r.2=(findM x.Members id).isSome:=by
 cases hF:findM x.Members id with
 | some m=>
  obtain⟨j,j1,j2,j3⟩:=member_find' hA hM hF
  grind
 | none=>
  obtain⟨r,r1,r2⟩:=nM (t:=x) (id:=id) (by omega);refine⟨r,r1,?_⟩;rcases r2 with⟨j,j1,j2,_,_⟩ | ⟨_,q⟩
  . exact absurd j2 (fD hF _ (aB j1 ap))
  grind
def okU(x:ae)(f:aF):Bool:=(findM x.Members f.ID).isSome || !f.Critical
def restU(x:ae)(l:List aF):List aH:=(l.filter fun f=>!(findM x.Members f.ID).isSome).map fun f=>⟨f.ID,f.Data⟩
theorem sK {x : ae} {path : List Int} (hpath : path.length <= 900) (hM : x.Members.length <= 1000) (hA : MAsc x.Members) {l : List aF} (hl : l.length <= 90000)
 {z0 z2 z4 a0 a2 a4:Int} {z1 a1:Bool} {z3 a3:List UInt8} {b1:List Int} {b2:Int} {its:List ab}:∀(k i:Nat) (acc:List aH),i+k=l.length->acc.length<=i->
 ((l.drop i).all (okU x)=true->eO (l,(l.length:Int),(i:Int),ts,b1,b2,x,z0,z1,z2,z3,z4,a0,a1,a2,a3,a4,path,its,acc)=some (.inr (ts,b1,b2,z0,z1,z2,z3,z4,a0,a1,a2,a3,a4,path,its,acc++restU x (l.drop i))))/\
 ((l.drop i).all (okU x)=false->∃w f1 f2,eO (l,(l.length:Int),(i:Int),ts,b1,b2,x,z0,z1,z2,z3,z4,a0,a1,a2,a3,a4,path,its,acc)=some (.inl (false,ts,f2,w,path,f1)))
 | 0,i,acc,hi,ha=>by
  rw[eO,if_neg (by simp;omega),List.drop_eq_nil_of_le (by omega)];exact⟨fun _=>by simp[restU],fun h=>by simp at h⟩
 | k+1,i,acc,hi,ha=>by
  have hlt:i < l.length:=by omega
  have e:l.drop i=l.getD i aN::l.drop (i+1):=by rw[bl hlt];exact List.drop_eq_getElem_cons hlt
  obtain⟨r,r1,r2⟩:=memF hM hA (l.getD i aN).ID;rw[eO,if_pos (by simp;omega),if_pos (au hlt),aw,e];simp only[oZ4,oZ3];generalize l.getD i aN=f at*;rw[r1];simp only[oZ3];have hall:(f::l.drop (i+1)).all (okU x)=(okU x f && (l.drop (i+1)).all (okU x)):=rfl;rw[hall];cases hs:(findM x.Members f.ID).isSome with
  | true=>
   have ho:okU x f=true:=by unfold okU;rw[hs];rfl
   have hr:restU x (f::l.drop (i+1))=restU x (l.drop (i+1)):=by unfold restU;rw[List.filter_cons_of_neg (by rw[hs];simp)]
   rw[r2,hs,if_pos rfl,ho,hr,aA (by omega),Bool.true_and];exact sK hpath hM hA hl k (i+1) acc (by omega) (by omega)
  | false=>
   rw[r2,hs,if_neg (by simp)];cases hc:f.Critical with
   | true=>
    have ho:okU x f=false:=by unfold okU;rw[hs,hc];rfl
    rw[if_pos rfl,if_pos (bk (by omega) (by simp;omega)),mw (by simp;omega),ho];simp only[oZ3,ab.aD];have e1:subI .i64 ((path++[f.ID]).length:Int) 1=(path.length:Int):=by rw[bP (by simp <;> omega) (by simp <;> omega)];simp
    rw[e1,if_pos (dk.2 (by simp;omega)),if_pos (by simp),aw];simp_all
   | false=>
    have ho:okU x f=true:=by unfold okU;rw[hs,hc];rfl
    have hr:restU x (f::l.drop (i+1))=⟨f.ID,f.Data⟩::restU x (l.drop (i+1)):=by unfold restU;rw[List.filter_cons_of_pos (by rw[hs];rfl)];rfl
    rw[if_neg (by simp),if_pos (bk (by omega) (by simp;omega)),ho,hr,aA (by omega),Bool.true_and];have:=sK hpath hM hA hl (z0:=z0) (z1:=z1) (z2:=z2) (z3:=z3) (z4:=z4) (a0:=a0) (a1:=a1) (a2:=a2) (a3:=a3) (a4:=a4) (b1:=b1) (b2:=b2) (its:=its) k (i+1) (acc++[⟨f.ID,f.Data⟩]) (by omega) (by simp;omega)
    grind
end
section
variable {ts:List ae}
theorem HY (H : SOk ts) (HW : ∀ x, x ∈ ts -> ∀ m, m ∈ x.Members -> m.HasDefault = true -> wt m.Default <= 1000000) {n : Nat} (ih : DecR ts n) {x : ae} (hx : x ∈ ts) (k5 : x.Kind = 5) (hT : ∀ m, m ∈ x.Members -> 0 <= m.Type_ /\ m.Type_ < ts.length) {p : List UInt8} (hp : p.length <= 4096) {b1 : List Int} {b2 : Int} {path : List Int} (hpa : path.length + (n + 1) = 200):
 (∀l,vFl p=some l->∀is,seqO (vmem (vdec ts n) l) x.Members=some is->l.all (okU x)=true->kV (x,p,ts,b1,b2,path)=some (⟨5,false,0,[],0,[],is,restU x l⟩,true,ts,b1,b2,path))/\
 ((vFl p=none\/(∃l,vFl p=some l/\(seqO (vmem (vdec ts n) l) x.Members=none\/l.all (okU x)=false)))->∃w f1 f2,kV (x,p,ts,b1,b2,path)=some (w,false,ts,f1,f2,path)):=by
 obtain⟨hA1,hA2⟩:=H.A x hx (.inl k5);obtain⟨o,o1,_,o2,o3⟩:=lZ (p:=p) (by omega);rw[kV,o1];simp only[oZ4,oZ3];by_cases h0:o.2=0
 . obtain⟨v1,v2,v3,v4⟩:=o2 h0;rw[if_neg (by simp[h0]),v1];have hOk:=H.T x hx;have hD:∀m,m∈x.Members->m.HasDefault=true->cE m.Default=some m.Default:=fun m hm hd=>IX (hOk.3 m hm) (by have:=HW x hx m hm hd;omega)
   have hP:∀m,m∈x.Members->∀q,q∈o.1->∀step b1 b2,DOut ts b1 b2 path (vdec ts n m.Type_ q.Data) (bW (step,m.Type_,q.Data,ts,b1,b2,path)):=fun m hm q hq step b1 b2=>
    j9 (by omega) (ih m.Type_ q.Data b1 b2 (path++[step]) (hT m hm).1 (hT m hm).2 (by have:=(v2 q hq).1;omega) (by simp;omega))
   obtain⟨A1,A2⟩:=zp (x:=x) (path:=path) (by omega) (f:=vdec ts n) (l:=o.1) (by omega) (by omega) hD hP (z0:=0) (z1:=false) (z2:=0) (z3:=[]) (z4:=0) (a0:=x.Kind) (a1:=false) (a2:=0) (a3:=[]) (a4:=0) (b1:=b1) (b2:=b2) x.Members.length 0 [] (by omega) rfl;rw[List.drop_zero]at A1 A2;have z0:((0:Nat):Int)=0:=rfl;rw[z0]at A1 A2
   have B:=fun its=>sK (ts:=ts) (x:=x) (path:=path) (by omega) (by omega) hA1 (l:=o.1) (by omega) (z0:=0) (z1:=false) (z2:=0) (z3:=[]) (z4:=0) (a0:=x.Kind) (a1:=false) (a2:=0) (a3:=[]) (a4:=0) (b1:=b1) (b2:=b2) (its:=its) o.1.length 0 [] (by omega) (Nat.le_refl _)
   rw[List.drop_zero,z0]at B;constructor
   . intro l hl is his hall;cases hl;rw[A1 is his];simp only[oZ3,List.nil_append];rw[(B is).1 hall];simp[k5]
   . intro h;rcases h with h | ⟨l,hl,h⟩
     . cases h
     . cases hl;cases hs:seqO (vmem (vdec ts n) o.1) x.Members with
       | none=>
        obtain⟨w,f1,f2,hw⟩:=A2 hs;rw[hw];exact⟨_,_,_,rfl⟩
       | some is=>
        rcases h with h | h
        . rw[hs]at h;cases h
        . obtain⟨w,f1,f2,hw⟩:=(B is).2 h;rw[A1 is hs];simp only[oZ3,List.nil_append];rw[hw];exact⟨ab.eta w,f1,f2,rfl⟩
 . rw[if_pos (by simp[h0]),o3 h0];constructor
   . intro l hl;cases hl
   . intro _;rw[mw (by omega)];exact⟨_,_,_,rfl⟩
end
structure DcOk (ts:List ae):Prop where
 S:SOk ts
 V:VOk ts
 W:∀x,x∈ts->∀m,m∈x.Members->m.HasDefault=true->wt m.Default<=1000000
theorem DrOk.dc{ts:List ae}(H:DrOk ts):DcOk ts:=⟨H.V.sok H.T,H.V,fun x hx m hm hd=>by have:=H.W x hx m hm hd;omega⟩
section
variable {ts:List ae}
theorem DcOk.mem(H:DcOk ts){x:ae}(hx:x∈ts){m:aj}(hm:m∈x.Members):0<=m.Type_/\m.Type_ < ts.length:=
 H.V.U x hx m.Type_ (by unfold usesL;simp;exact .inl ⟨m,hm,rfl⟩)
theorem DcOk.elem(H:DcOk ts){x:ae}(hx:x∈ts)(hk:7<=x.Kind):0<=x.Elem/\x.Elem < ts.length:=
 H.V.U x hx x.Elem (by unfold usesL;simp[hk])
theorem DcOk.key(H:DcOk ts){x:ae}(hx:x∈ts)(hk:x.Kind=8):0<=x.Key/\x.Key < ts.length:=
 H.V.U x hx x.Key (by unfold usesL;simp[hk])
abbrev Dec :=Int->List UInt8->Option ab
def vd1(p:List UInt8):Option ab:=if p=[]then some ⟨1,false,0,[],0,[],[],[]⟩else if p=[1]then some ⟨1,true,0,[],0,[],[],[]⟩else none
def vd2(x:ae)(p:List UInt8):Option ab:=match vub p with
 | some m=>if x.Low<=unz m/\unz m<=x.High then some ⟨2,false,unz m,[],0,[],[],[]⟩else none
 | none=>none
def vd3(x:ae)(p:List UInt8):Option ab:=if(p.length:Int)<=x.Max then some ⟨3,false,0,p,0,[],[],[]⟩else none
def vd4(x:ae)(p:List UInt8):Option ab:=match vub p with
 | some m=>if 1<=m/\m<=1000/\((x.Symbols.any fun y=>decide (y.ID=(m:Int))) || x.Open)=true then some ⟨4,false,0,[],(m:Int),[],[],[]⟩else none
 | none=>none
def vd9(f:Dec)(x:ae):List UInt8->Option ab
 | []=>some ⟨9,false,0,[],0,[],[],[]⟩
 | c::q=>if c=1 then(f x.Elem q).map fun v=>⟨9,false,0,[],0,[],[v],[]⟩else none
def vd6(f:Dec)(x:ae)(p:List UInt8):Option ab:=match vA p with
 | some (id,q)=>(match findM x.Members id with
  | some m=>(f m.Type_ q).map fun v=>⟨6,false,0,[],id,[],[v],[]⟩
  | none=>if x.Open=true then some ⟨6,false,0,[],id,[],[],[⟨id,q⟩]⟩else none)
 | none=>none
def vd7(f:Dec)(x:ae)(p:List UInt8):Option ab:=match vI p with
 | some l=>if(l.length:Int)<=x.Max then(seqO (f x.Elem) l).map fun is=>⟨7,false,0,[],0,[],is,[]⟩else none
 | none=>none
def vd8(f:Dec)(x:ae)(p:List UInt8):Option ab:=match vI p with
 | some l => if l.length % 2 = 0 /\ ((l.length / 2 : Nat): Int) <= x.Max then (match seqO (f x.Key) (evens l) with
  | some ks=>if ascB ks=true then(seqO (f x.Elem) (odds l)).map fun is=>⟨8,false,0,[],0,ks,is,[]⟩else none
  | none=>none)else none
 | none=>none
def vd5(f:Dec)(x:ae)(p:List UInt8):Option ab:=match vFl p with
 | some l=>(match seqO (vmem f l) x.Members with
  | some is=>if l.all (okU x)=true then some ⟨5,false,0,[],0,[],is,restU x l⟩else none
  | none=>none)
 | none=>none
def vdK(f:Dec)(x:ae)(p:List UInt8):Option ab:=
 if x.Kind=1 then vd1 p else if x.Kind=2 then vd2 x p else if x.Kind=3 then vd3 x p else if x.Kind=4 then vd4 x p
 else if x.Kind=9 then vd9 f x p else if x.Kind=6 then vd6 f x p else if x.Kind=7 then vd7 f x p else if x.Kind=8 then vd8 f x p else vd5 f x p
theorem yi(t:Int)(p:List UInt8):vdec ts 0 t p=none:=by rw[vdec.eq_def]
theorem sg(n:Nat)(t:Int)(p:List UInt8):vdec ts (n+1) t p=vdK (vdec ts n) (ts.getD t.toNat af) p:=by rfl
theorem DOut.eta {b1 : List Int} {b2 : Int} {path : List Int} {o : Option ab} {X : Option (ab×Bool×List ae×List Int×Int×List Int)} (h : DOut ts b1 b2 path o X):
 DOut ts b1 b2 path o (X >>=fun r=>some (ab.eta r.1,r.2.1,r.2.2.1,r.2.2.2.1,r.2.2.2.2.1,r.2.2.2.2.2)):=by
 refine⟨fun v hv=>?_,fun hn=>?_⟩
 . rw[h.1 v hv];simp[ab.aD]
 . obtain⟨w,f1,f2,hw⟩:=h.2 hn;exact⟨w,f1,f2,by rw[hw];simp[ab.aD]⟩
theorem DOut.one{b1:List Int}{b2:Int}{path:List Int}(v:ab):DOut ts b1 b2 path (some v) (some (v,true,ts,b1,b2,path)):=⟨fun v' h=>by cases h;rfl,fun h=>by cases h⟩
theorem DOut.cast{b1:List Int}{b2:Int}{path:List Int}{o o':Option ab}{X:Option (ab×Bool×List ae×List Int×Int×List Int)}(e:o=o')(h:DOut ts b1 b2 path o X):DOut ts b1 b2 path o' X:=e▸h
theorem LS{l:List aC}{m:Nat}:(∃y,y∈l/\y.ID=(m:Int))↔(l.any fun y=>decide (y.ID=(m:Int)))=true:=by grind
theorem I5 (H : DcOk ts) {n : Nat} (ih : DecR ts n) {x : ae} (hx : x ∈ ts) (k7 : x.Kind = 7) {p : List UInt8} (hp : p.length <= 4096) {b1 : List Int} {b2 : Int} {path : List Int} (hpa : path.length + (n + 1) = 200):
 DOut ts b1 b2 path (vd7 (vdec ts n) x p) (nD (x,p,ts,b1,b2,path)):=by
 obtain⟨o,o1,_,o2,o3⟩:=dW (p:=p) (by omega);obtain⟨e1,e2⟩:=H.elem hx (by omega);rw[nD,o1];unfold vd7;simp only[oZ4,oZ3];by_cases h0:o.2=0
 . obtain⟨v1,v2,v3⟩:=o2 h0;rw[if_neg (by simp[h0]),v1];dsimp only;by_cases hm:(o.1.length:Int)<=x.Max
   . rw[if_pos hm,if_neg (by simp;omega)];have hi:∀q,q∈o.1->∀step b1 b2,DOut ts b1 b2 path (vdec ts n x.Elem q) (bW (step,x.Elem,q,ts,b1,b2,path)):=fun q hq step b1 b2=>
      j9 (by omega) (ih x.Elem q b1 b2 (path++[step]) e1 e2 (by have:=v2 q hq;omega) (by simp;omega))
     obtain⟨A1,A2⟩:=zm (x:=x) (l:=o.1) (by omega) hi (z0:=0) (z1:=false) (z2:=0) (z3:=[]) (z4:=0) (a0:=x.Kind) (a1:=false) (a2:=0) (a3:=[]) (a4:=0) (b1:=b1) (b2:=b2) o.1.length 0 [] (by omega) rfl;rw[List.drop_zero]at A1 A2;have z0:((0:Nat):Int)=0:=rfl;rw[z0]at A1 A2;cases hs:seqO (vdec ts n x.Elem) o.1 with
     | none=>
      obtain⟨w,f1,f2,hw⟩:=A2 hs;rw[hw];exact⟨fun v h=>by simp at h,fun _=>⟨_,_,_,rfl⟩⟩
     | some is=>
      rw[A1 is hs];exact⟨fun v' h=>by grind,fun h=>by simp at h⟩
   . rw[if_neg hm,if_pos (by simp;omega)];exact co (by omega) _ _ _
 . rw[if_pos (by simp[h0]),o3 h0];exact co (by omega) _ _ _
theorem Av(H:DcOk ts):∀n,n<=200->DecR ts n
 | 0,_=>fun t p b1 b2 path t0 t1 hp hpa=>by
  rw[eW,if_pos (by simp;omega),yi];exact co (by omega) _ _ _
 | n+1,hn=>fun t p b1 b2 path t0 t1 hp hpa=>by
  have ih:=Av H n (by omega);obtain⟨j,rfl⟩:=Int.eq_ofNat_of_zero_le t0;have hj:j < ts.length:=by omega
  rw[eW,if_neg (by simp;omega),if_pos (au hj),sg,aw];have hx:=aB hj af;generalize ts.getD j af=x at*;obtain⟨K1,K9⟩:=H.S.K x hx;have hs7:x.Symbols.length < 9223372036854775807:=aT (bN (H.S.T x hx).1);unfold vdK;simp only[oZ4,oZ3];obtain⟨u,u1,u2,u3,u4⟩:=oL p;by_cases k1:x.Kind=1
  . rw[if_pos k1,if_pos (show decide (x.Kind=1)=true by simpa using k1)];unfold vd1;by_cases h0:p=[]
    . rw[if_pos h0,if_neg (by simp[h0]),k1,h0];exact .one _
    . by_cases h1:p=[1]
      . rw[if_neg h0,if_pos h1,if_neg (by simp[h1]),k1,h1];exact .one _
      . rw[if_neg h0,if_neg h1,if_pos (by simp[h0,h1])];exact co (by omega) _ _ _
  rw[if_neg k1,if_neg (show ¬decide (x.Kind=1)=true by simpa using k1)];by_cases k2:x.Kind=2
  . rw[if_pos k2,if_pos (show decide (x.Kind=2)=true by simpa using k2),u1];unfold vd2;simp only[oZ3];by_cases h0:u.2=0
    . obtain⟨m,m1,m2⟩:=u3 h0;rw[m1,m2,BZ (nn m1),if_neg (by simp[h0])];simp only[oZ3];by_cases hr:x.Low<=unz m/\unz m<=x.High
      . rw[if_pos hr,if_neg (by simp;omega),k2];exact .one _
      . rw[if_neg hr,if_pos (by simp;omega)];exact co (by omega) _ _ _
    . rw[u4 h0,if_pos (by simp[h0])];exact co (by omega) _ _ _
  rw[if_neg k2,if_neg (show ¬decide (x.Kind=2)=true by simpa using k2)];by_cases k3:x.Kind=3
  . rw[if_pos k3,if_pos (show decide (x.Kind=3)=true by simpa using k3)];unfold vd3;by_cases hr:(p.length:Int)<=x.Max
    . rw[if_pos hr,if_neg (by simp;omega),k3];exact .one _
    . rw[if_neg hr,if_pos (by simp;omega)];exact co (by omega) _ _ _
  rw[if_neg k3,if_neg (show ¬decide (x.Kind=3)=true by simpa using k3)];by_cases k4:x.Kind=4
  . rw[if_pos k4,if_pos (show decide (x.Kind=4)=true by simpa using k4),u1];unfold vd4;simp only[oZ3];by_cases h0:u.2=0
    . obtain⟨m,m1,m2⟩:=u3 h0;rw[m1,m2];dsimp only;by_cases hr:1<=m/\m<=1000
      . obtain⟨q,q1,_,q3⟩:=lX (t:=x) (m:Int) hs7;have e:wrp .i64 (m:Int)=(m:Int):=wrp64 (by omega) (by omega);rw[if_neg (show ¬(bif bif !decide (u.2=0)then true else decide ((m:Int) < 1)then true else decide (1000 < (m:Int)))=true by simp[h0];omega),e,q1];simp only[oZ3]
        have hq:q.2=(x.Symbols.any fun y=>decide (y.ID=(m:Int))):=by
         have:=(oK q3).trans LS
         grind
        rw[hq,k4];by_cases hb:((x.Symbols.any fun y=>decide (y.ID=(m:Int))) || x.Open)=true
        . rw[if_pos (show 1<=m/\m<=1000/\((x.Symbols.any fun y=>decide (y.ID=(m:Int))) || x.Open)=true from⟨hr.1,hr.2,hb⟩),if_neg]
          . exact .one _
          grind
        . rw[if_neg (show ¬(1<=m/\m<=1000/\((x.Symbols.any fun y=>decide (y.ID=(m:Int))) || x.Open)=true)from fun h=>hb h.2.2),if_pos]
          . exact co (by omega) _ _ _
          grind
      . rw[if_neg (show ¬(1<=m/\m<=1000/\((x.Symbols.any fun y=>decide (y.ID=(m:Int))) || x.Open)=true)from fun h=>hr ⟨h.1,h.2.1⟩),if_pos (by simp[h0];omega)];exact co (by omega) _ _ _
    . rw[u4 h0,if_pos (by simp[h0])];exact co (by omega) _ _ _
  rw[if_neg k4,if_neg (show ¬decide (x.Kind=4)=true by simpa using k4)];by_cases k9:x.Kind=9
  . rw[if_pos k9,if_pos (show decide (x.Kind=9)=true by simpa using k9)];obtain⟨e1,e2⟩:=H.elem hx (by omega);cases p with
    | nil=>
     rw[if_pos (by simp),vd9,k9];exact .one _
    | cons c q=>
     have hl:(c::q).length=q.length+1:=rfl;have i0:inR 0 (c::q).length=true:=au (k:=0) (by simp);have b0:aY (c::q) 0=(c.toNat:Int):=rfl;have s0:slR 1 ((c::q).length:Int) (c::q).length=true:=dk.2 (by simp <;> omega);have c0:cutL (c::q) 1 ((c::q).length:Int)=q:=by
      unfold cutL;simp
     rw[if_neg (by simp),if_pos i0,b0,vd9];by_cases hc:c=1
     . subst hc;rw[if_pos rfl,if_neg (by simp),if_pos s0,c0];have hd:=j9 (step:=0) (path:=path) (by omega) (ih x.Elem q b1 b2 (path++[0]) e1 e2 (by simp at hp;omega) (by simp;omega));cases hv:vdec ts n x.Elem q with
       | none=>
        obtain⟨w,f1,f2,hw⟩:=hd.2 hv;rw[hw];exact⟨fun v h=>by simp at h,fun _=>⟨_,_,_,rfl⟩⟩
       | some v=>
        rw[hd.1 v hv]
        exact⟨fun v' h=>by
         have:v'=⟨9,false,0,[],0,[],[v],[]⟩:=by simpa using h.symm
         rw[this]
         simp[ab.aD,k9],fun h=>by simp at h⟩
     . have hc':¬((c.toNat:Int)=1):=fun h=>hc (UInt8.toNat.inj (by show c.toNat=1;omega))
       rw[if_neg hc,if_pos (by simpa using hc')];exact co (by omega) _ _ _
  rw[if_neg k9,if_neg (show ¬decide (x.Kind=9)=true by simpa using k9)];by_cases k6:x.Kind=6
  . rw[if_pos k6,if_pos (show decide (x.Kind=6)=true by simpa using k6)];refine DOut.eta (DOut.cast ?_ (IY H.S ih hx k6 (fun m hm=>H.mem hx hm) hp hpa));rfl
  rw[if_neg k6,if_neg (show ¬decide (x.Kind=6)=true by simpa using k6)];by_cases k7:x.Kind=7
  . rw[if_pos k7,if_pos (show decide (x.Kind=7)=true by simpa using k7)];exact DOut.eta (I5 H ih hx k7 hp hpa)
  rw[if_neg k7,if_neg (show ¬decide (x.Kind=7)=true by simpa using k7)];by_cases k8:x.Kind=8
  . rw[if_pos k8,if_pos (show decide (x.Kind=8)=true by simpa using k8)];refine DOut.eta (DOut.cast ?_ (LR ih k8 (H.key hx k8) (H.elem hx (by omega)) hp hpa));rfl
  rw[if_neg k8,if_neg (show ¬decide (x.Kind=8)=true by simpa using k8)];have k5:x.Kind=5:=by omega
  obtain⟨R1,R2⟩:=HY H.S H.W ih hx k5 (fun m hm=>H.mem hx hm) hp (b1:=b1) (b2:=b2) hpa;refine DOut.eta ?_;unfold vd5;cases hl:vFl p with
  | none=>exact⟨fun v h=>(by cases h),fun _=>R2 (.inl hl)⟩
  | some l=>
   dsimp only;cases hs:seqO (vmem (vdec ts n) l) x.Members with
   | none=>exact⟨fun v h=>(by cases h),fun _=>R2 (.inr ⟨l,hl,.inl hs⟩)⟩
   | some is=>
    dsimp only;cases ha:l.all (okU x)with
    | true=>exact⟨fun v h=>(by cases h;exact R1 l hl is hs ha),fun h=>(by cases h)⟩
    | false=>exact⟨fun v h=>(by cases h),fun _=>R2 (.inr ⟨l,hl,.inr ha⟩)⟩
end
def vz :ab:=⟨0,false,0,[],0,[],[],[]⟩
def ROut(o:Option ab)(r:Option aK):Prop:=(∀v,o=some v->∃F,r=some ⟨v,F,true⟩)/\(o=none->∃F,r=some ⟨vz,F,false⟩)
theorem rto{path:List Int}(hp:path.length<=1000)(step:Int):dr (path,step)=some (path++[step]):=by
 rw[dr,if_pos (bk (by omega) (by simp;omega))];simp only[oZ4,oZ3,List.nil_append];rw[if_pos (bk (by omega) (by simp;omega))]
theorem ROut.eta{o:Option ab}{X:Option aK}(h:ROut o X):ROut o (X >>=fun r=>some (⟨ab.eta r.Value,r.Failure,r.OK⟩:aK)):=by
 refine⟨fun v hv=>?_,fun hn=>?_⟩
 . obtain⟨F,hF⟩:=h.1 v hv;exact⟨F,by rw[hF];simp[ab.aD]⟩
 . obtain⟨F,hF⟩:=h.2 hn;exact⟨F,by rw[hF];rfl⟩
theorem rseen(v:ab):fl v=some ⟨v,⟨[],0⟩,true⟩:=by rw[fl,ab.aD]
theorem ROut.one(v:ab):ROut (some v) (fl v >>=fun r=>some (⟨ab.eta r.Value,r.Failure,r.OK⟩:aK)):=by
 rw[rseen];exact⟨fun v' h=>(by cases h;exact⟨_,by simp[ab.aD];rfl⟩),fun h=>(by cases h)⟩
section
variable {ts:List ae}
def RPart(ts:List ae)(o:Option ab)(L:Int)(path:List Int)(t:Int)(q:List UInt8)(step:Int):Prop:=
 ROut o (dr (path,step) >>=fun r=>fe ((⟨ts⟩:av),t,q,addI .i64 L 1,r))
theorem RPart.no{o:Option ab}{L:Int}{path:List Int}{t:Int}{q:List UInt8}{step:Int}(h:RPart ts o L path t q step)(hp:path.length<=1000)(hv:o=none):∃F,fe ((⟨ts⟩:av),t,q,addI .i64 L 1,path++[step])=some ⟨vz,F,false⟩:=by
 unfold RPart at h;rw[rto hp]at h;exact h.2 hv
end
section
variable {ts:List ae}
def DecQ(ts:List ae)(n:Nat):Prop:=∀(t:Int) (p:List UInt8) (path:List Int),0<=t->t < ts.length->p.length<=4096->path.length+n<=200->
 ROut (vdec ts n t p) (fe ((⟨ts⟩:av),t,p,((201 - n:Nat):Int),path))
theorem DecQ.part {n : Nat} (ih : DecQ ts n) (hn : n + 1 <= 200) {t : Int} {q : List UInt8} {path : List Int} (t0 : 0 <= t /\ t < ts.length) (hq : q.length <= 4096) (hp : path.length + (n + 1) <= 200) (step : Int):
 RPart ts (vdec ts n t q) ((201 - (n+1):Nat):Int) path t q step:=by
 unfold RPart;rw[rto (by omega)];have e:addI .i64 ((201 - (n+1):Nat):Int) 1=((201 - n:Nat):Int):=by rw[aA (by omega)];omega
 rw[e];exact ih t q (path++[step]) t0.1 t0.2 hq (by simp;omega)
theorem ROut.cast{o o':Option ab}{X:Option aK}(e:o=o')(h:ROut o X):ROut o' X:=e▸h
end
theorem LU(n:Nat):(zig (unz n)).toNat=n:=by
 unfold unz zig;omega
theorem Aw :∀(k:Nat) (s:List UInt8),s.length=k->s.head?≠some 0->vbig (fb 0 s)=s
 | 0,s,hk,h=>by
  have:s=[]:=List.eq_nil_of_length_eq_zero hk;subst this;rw[fb,vbig,if_pos rfl]
 | k+1,s,hk,h=>by
  have hne:s≠[]:=fun h0=>by rw[h0]at hk;cases hk
  have es:=List.dropLast_concat_getLast hne;generalize s.getLast hne=b at es;have hl:s.dropLast.length=k:=by simp[hk]
  generalize s.dropLast=s' at es hl;subst es;have hb:b.toNat < 256:=UInt8.toNat_lt b;rw[s4];by_cases h0:s'=[]
  . subst h0;have hb0:b≠0:=fun e=>h (by rw[e];rfl)
    have:b.toNat≠0:=fun e=>hb0 (UInt8.toNat.inj e)
    show vbig (0*256+b.toNat)=[b];rw[vbig,if_neg (by omega),show(0*256+b.toNat) / 256=0 by omega,vbig,if_pos rfl,show(0*256+b.toNat) % 256=b.toNat by omega];simp
  . have ih:=Aw k s' hl (fun e=>h (by cases s' with | nil=>exact absurd rfl h0 | cons a l=>simpa using e));have hm:fb 0 s'≠0:=fun e=>by rw[e,vbig,if_pos rfl]at ih;exact h0 ih.symm
    rw[vbig,if_neg (by omega),show(fb 0 s'*256+b.toNat) / 256=fb 0 s' by omega,ih,show(fb 0 s'*256+b.toNat) % 256=b.toNat by omega];simp
theorem zq{s:List UInt8}{n:Nat}(h:vub s=some n):vbig n=s:=by
 unfold vub at h;split at h
 . cases h
 . rename_i hh;cases h;exact Aw _ s rfl (fun e=>hh (.inl e))
theorem B4(s:List UInt8):∀(f i n m k:Nat),vg s f i n=((m:Int),(k:Int),0)->∃q,m=n+q*2 ^ (7*i)/\s.drop i=vput q++s.drop k/\(0 < i->0 < q)
 | 0,i,n,m,k,h=>by rw[vg]at h;simp at h
 | f+1,i,n,m,k,h=>by
  rw[vg]at h;split at h
  . rename_i hi;have ed:s.drop i=s.getD i 0::s.drop (i+1):=by rw[bl hi];exact List.drop_eq_getElem_cons hi
    have hb:(s.getD i 0).toNat < 256:=UInt8.toNat_lt _;generalize s.getD i 0=c at*;split at h
    . simp at h
    . split at h
      . rename_i h128;obtain⟨q,q1,q2,q3⟩:=B4 s f (i+1) _ m k h;have hq:=q3 (by omega);refine⟨c.toNat % 128+128*q,?_,?_,fun _=>by omega⟩
        . grind
        . rw[j7 (by omega),show(c.toNat % 128+128*q) / 128=q by omega,show(c.toNat % 128+128*q) % 128+128=c.toNat by omega,ed,q2];simp
      . rename_i h128;split at h
        . simp at h
        . rename_i h0;simp only[Prod.mk.injEq,and_true]at h;have hm:m=n+c.toNat*2 ^ (7*i):=by have:=h.1;exact_mod_cast this.symm
          have hk:k=i+1:=by have:=h.2;exact_mod_cast this.symm
          refine⟨c.toNat,hm,?_,fun hi0=>?_⟩
          . rw[jR (by omega),ed,hk];simp
          omega
  . simp at h
theorem s6{s:List UInt8}{m k:Nat}(h:vg s 10 0 0=((m:Int),(k:Int),0)):s=vput m++s.drop k:=by
 obtain⟨q,q1,q2,_⟩:=B4 s 10 0 0 m k h
 grind
theorem yj{s a b:List UInt8}(h:vpart s=some (a,b)):s=aP a++b:=by
 unfold vpart at h;rcases vg0 s with⟨e,he,hv⟩ | ⟨m,k,hv,hk0,hk,hm⟩
 . grind
 . have e0:=s6 hv;rw[hv]at h;dsimp only at h;split at h
   . rename_i hc;simp only[Option.some.injEq,Prod.mk.injEq]at h;obtain⟨h1,h2⟩:=h;have hlen:a.length=m:=by
      rw[<-h1,List.length_take,List.length_drop];omega
     unfold aP;rw[hlen,List.append_assoc,<-h1,<-h2,List.take_append_drop]
     simpa using e0
   . cases h
theorem yk :∀(n:Nat) (s:List UInt8) (b l:List (List UInt8)),s.length<=n->s.length+b.length<=100000->bT (s,b)=some (.inr l)->∃l',l=b++l'/\l'.flatMap aP=s
 | n,s,b,l,hn,hb,h=>by
  rw[bT]at h;by_cases h0:s=[]
  . simp_all
  . rw[if_pos (by simp[h0]),eu (by omega)]at h;simp only[oZ4,oZ3]at h;cases hv:vpart s with
    | none=>
     rw[hv]at h;simp[encP]at h
    | some r=>
     obtain⟨x,rest⟩:=r;rw[hv]at h;have hl:=gL hv;have hnn:¬((!(encP (some (x,rest))).2.2)=true):=by simp[encP]
     have hr:room 16 (b++[(encP (some (x,rest))).1]).length=true:=bk (by omega) (by simp;omega);rw[if_neg hnn,if_pos hr]at h
     match n,hn with
     | 0,hn=>omega
     | n+1,hn=>
      obtain⟨l',e1,e2⟩:=yk n rest _ l (by omega) (by simp;omega) h;refine⟨x::l',by rw[e1];simp[encP],?_⟩;rw[List.flatMap_cons,e2];exact(yj hv).symm
theorem yl :∀(n:Nat) (s:List UInt8) (b:List (List UInt8)),s.length<=n->s.length+b.length<=100000->bT (s,b)=some (.inl 0)->False
 | n,s,b,hn,hb,h=>by
  rw[bT]at h;by_cases h0:s=[]
  . grind
  . rw[if_pos (by simp[h0]),eu (by omega)]at h;simp only[oZ4,oZ3]at h;cases hv:vpart s with
    | none=>
     rw[hv]at h;simp[encP]at h
    | some r=>
     obtain⟨x,rest⟩:=r;rw[hv]at h;have hl:=gL hv;have hnn:¬((!(encP (some (x,rest))).2.2)=true):=by simp[encP]
     have hr:room 16 (b++[(encP (some (x,rest))).1]).length=true:=bk (by omega) (by simp;omega);rw[if_neg hnn,if_pos hr]at h
     match n,hn with
     | 0,hn=>omega
     | n+1,hn=>exact yl n rest _ (by omega) (by simp;omega) h
theorem w8 :∀(n:Nat) (s:List UInt8) (last:Nat) (b:List aF),s.length<=n->s.length+b.length<=100000->bw ((last:Int),s,b)=some (.inl 0)->False
 | n,s,last,b,hn,hb,h=>by
  rw[bw]at h;by_cases h0:s=[]
  . grind
  . rw[if_pos (by simp[h0])]at h;rcases vg0 s with⟨e,he,hg⟩ | ⟨m,k,hg,hk0,hk,hm⟩
    . rw[gQ he hg]at h;simp at h
    . rw[eo hg hk]at h;simp only[oZ4,oZ3,quoI2 hm]at h;split at h
      . cases h
      . rw[eu (by rw[List.length_drop];omega)]at h;simp only[oZ3]at h;cases hv:vpart (s.drop k)with
        | none=>
         rw[hv]at h;simp[encP]at h
        | some r=>
         obtain⟨x,rest⟩:=r;rw[hv]at h;have hl:=gL hv;rw[List.length_drop]at hl;have hnn:¬((!(encP (some (x,rest))).2.2)=true):=by simp[encP]
         rw[if_neg hnn]at h;split at h
         . match n,hn with
           | 0,hn=>omega
           | n+1,hn=>exact w8 n rest (m / 2) _ (by omega) (by simp;omega) h
         . cases h
theorem pY{p:List UInt8}(hp:p.length<=90000){l:List (List UInt8)}(h:vI p=some l):l.flatMap aP=p:=by
 unfold vI at h;rw[cV]at h;cases hi:bT (p,[])with
 | none=>rw[hi]at h;simp at h
 | some o=>
  rw[hi]at h;cases o with
  | inl e=>
   by_cases he:e=0
   . simp[he]at h
     exfalso
     obtain⟨o',a1,_,_⟩:=po p.length p [] (by omega) (by simp;omega);exact yl p.length p [] (by omega) (by simp;omega) (by rw[hi,he])
   grind
  | inr l2=>
   have e:l2=l:=by simpa using h
   obtain⟨l',e1,e2⟩:=yk p.length p [] l2 (by omega) (by simp;omega) hi
   grind
def fText(f:aF):List UInt8:=bq f.ID.toNat f.Critical f.Data
theorem w9 : ∀ (n : Nat) (s : List UInt8) (last : Nat) (b l : List aF), s.length <= n -> s.length + b.length <= 100000 -> bw ((last : Int), s, b) = some (.inr l) ->
 ∃l',l=b++l'/\l'.flatMap fText=s
 | n,s,last,b,l,hn,hb,h=>by
  rw[bw]at h;by_cases h0:s=[]
  . simp_all
  . rw[if_pos (by simp[h0])]at h;rcases vg0 s with⟨e,he,hg⟩ | ⟨m,k,hg,hk0,hk,hm⟩
    . rw[gQ he hg]at h;simp at h
    . have es:=s6 hg;rw[eo hg hk]at h;simp only[oZ4,oZ3,quoI2 hm]at h;by_cases hc:((m / 2:Nat):Int)<=(last:Int)\/1000 < ((m / 2:Nat):Int)
      . grind
      . have:¬((bif bif (!true)then true else decide (((m / 2:Nat):Int)<=(last:Int))then true else decide (1000 < ((m / 2:Nat):Int)))=true):=by grind
        rw[if_neg this,eu (by rw[List.length_drop];omega)]at h;simp only[oZ3]at h;cases hv:vpart (s.drop k)with
        | none=>
         rw[hv]at h;simp[encP]at h
        | some r=>
         obtain⟨x,rest⟩:=r;rw[hv]at h;have hl:=gL hv;have ex:=yj hv;rw[List.length_drop]at hl;have hnn:¬((!(encP (some (x,rest))).2.2)=true):=by simp[encP]
         have hw:wrp .i64 ((m / 2:Nat):Int)=((m / 2:Nat):Int):=wrp64 (by omega) (by omega);rw[if_neg hnn,hw]at h;have hr:room 32 (b++[(⟨((m / 2:Nat):Int),decide (remI (m:Int) 2=1),(encP (some (x,rest))).1⟩:aF)]).length=true:=bk (by omega) (by simp;omega);rw[if_pos hr]at h
         match n,hn with
         | 0,hn=>omega
         | n+1,hn=>
          obtain⟨l',e1,e2⟩:=w9 n rest (m / 2) _ l (by omega) (by simp;omega) h;refine⟨⟨((m / 2:Nat):Int),decide (remI (m:Int) 2=1),x⟩::l',by rw[e1];simp[encP],?_⟩;rw[List.flatMap_cons,e2];unfold fText bq;have hm2:2*(((m / 2:Nat):Int)).toNat+(if decide (remI (m:Int) 2=1)=true then 1 else 0)=m:=by
           rw[cA (by omega) (by omega)]
           grind
          grind
theorem Ax{p:List UInt8}(hp:p.length<=90000){l:List aF}(h:vFl p=some l):l.flatMap fText=p:=by
 unfold vFl at h;rw[dT]at h;have e0:bw (0,p,[])=bw (((0:Nat):Int),p,[]):=rfl;rw[e0]at h;cases hi:bw (((0:Nat):Int),p,[])with
 | none=>rw[hi]at h;simp at h
 | some o=>
  rw[hi]at h;cases o with
  | inl e=>
   by_cases he:e=0
   . exfalso
     exact w8 p.length p 0 [] (by omega) (by simp;omega) (by rw[hi,he])
   grind
  | inr l2=>
   have e:l2=l:=by simpa using h
   obtain⟨l',e1,e2⟩:=w9 p.length p 0 [] l2 (by omega) (by simp;omega) hi
   grind
theorem B5{p:List UInt8}{id:Int}{q:List UInt8}(h:vA p=some (id,q)):p=vput id.toNat++q:=by
 unfold vA at h;rw[dy]at h;rcases vg0 p with⟨e,he,hg⟩ | ⟨m,k,hg,hk0,hk,hm⟩
 . rw[gQ he hg]at h;simp at h
 . have es:=s6 hg;rw[eo hg hk]at h;simp only[oZ4,oZ3]at h;by_cases hc:(m:Int) < 1\/1000 < (m:Int)
   . grind
   . have:¬((bif bif (!true)then true else decide ((m:Int) < 1)then true else decide (1000 < (m:Int)))=true):=by grind
     have hw:wrp .i64 (m:Int)=(m:Int):=wrp64 (by omega) (by omega);rw[if_neg this,hw]at h;simp only[if_true,Option.some.injEq,Prod.mk.injEq]at h;rw[<-h.1,<-h.2]
     simpa using es
theorem zr{α β:Type}{f:α->Option β}(d1:α)(d2:β):∀{l:List α} {m:List β},seqO f l=some m->∀i,i < l.length->f (l.getD i d1)=some (m.getD i d2)
 | [],m,h,i,hi=>by simp at hi
 | a::l,m,h,i,hi=>by
  rw[seqO]at h;split at h
  . rename_i b m' h1 h2;cases h;cases i with
    | zero=>exact h1
    | succ i=>exact zr d1 d2 h2 i (by simpa using hi)
  . cases h
theorem mz{α β:Type}{f:α->Option β}{P:α->β->Prop}(d1:α)(d2:β):∀{l:List α},(∀a,a∈l->∃b,f a=some b/\P a b)->∃m,seqO f l=some m/\∀i,i < l.length->P (l.getD i d1) (m.getD i d2)
 | [],_=>⟨[],by rw[seqO],fun i hi=>by simp at hi⟩
 | a::l,h=>by
  obtain⟨b,b1,b2⟩:=h a (.head _);obtain⟨m,m1,m2⟩:=mz d1 d2 (fun a ha=>h a (.tail _ ha));refine⟨b::m,by rw[seqO,b1,m1],fun i hi=>?_⟩
  grind
theorem tr{α:Type}:∀{l:List α},l.length % 2=0->(evens l).length=l.length / 2/\(odds l).length=l.length / 2
 | [],_=>⟨by simp[evens],by simp[odds]⟩
 | [a],h=>by simp at h
 | a::b::l,h=>by
  obtain⟨h1,h2⟩:=tr (l:=l) (by simp at h;omega);show(evens l).length+1=(l.length+1+1) / 2/\(odds l).length+1=(l.length+1+1) / 2;omega
theorem pE{α:Type}:∀{l:List α} {y:α},y∈odds l->y∈l
 | [],y,h=>by cases h
 | [_],y,h=>by cases h
 | a::b::l,y,h=>by
  rcases List.mem_cons.1 h with rfl | h
  . grind
  . exact .tail _ (.tail _ (pE h))
def wS(l:List (List UInt8)):Nat:=(l.map fun q=>q.length+1).sum
theorem kr(q:List UInt8)(l:List (List UInt8)):wS (q::l)=q.length+1+wS l:=by unfold wS;simp
theorem s7 :∀(l:List (List UInt8)),wS l<=(l.flatMap aP).length
 | []=>by simp[wS]
 | q::l=>by
  have:=s7 l;have:=fL q.length;have e:(aP q).length=(vput q.length).length+q.length:=by unfold aP;rw[List.length_append]
  rw[kr,List.flatMap_cons,List.length_append];omega
theorem zu :∀(l:List (List UInt8)),wS (evens l)+wS (odds l)<=wS l
 | []=>by simp[evens,odds,wS]
 | [a]=>by simp[evens,odds,wS]
 | a::b::l=>by
  have:=zu l;rw[evens,odds,kr,kr,kr,kr];omega
theorem pZ{C:Nat}{f:List UInt8->Option ab}:∀{l:List (List UInt8)} {m:List ab},seqO f l=some m->(∀q,q∈l->∀v,f q=some v->wt v<=C*(q.length+1))->wts m<=C*wS l
 | [],m,h,_=>by rw[seqO]at h;cases h;rw[fO];exact Nat.zero_le _
 | q::l,m,h,k=>by
  rw[seqO]at h;split at h
  . rename_i b m' h1 h2;cases h;have a:=k q (.head _) b h1;have c:=pZ h2 (fun q hq=>k q (.tail _ hq));rw[gR,kr,Nat.mul_add];omega
  . cases h
def fS(l:List aF):Nat:=(l.map fun f=>f.Data.length+1).sum
theorem Ay(f:aF)(l:List aF):fS (f::l)=f.Data.length+1+fS l:=by unfold fS;simp
theorem Az :∀(l:List aF),fS l<=(l.flatMap fText).length
 | []=>by simp[fS]
 | f::l=>by
  have:=Az l;have:=fL f.Data.length;have e:(fText f).length=(vput (2*f.ID.toNat+(if f.Critical=true then 1 else 0))).length+((vput f.Data.length).length+f.Data.length):=by unfold fText bq aP;rw[List.length_append,List.length_append]
  rw[Ay,List.flatMap_cons,List.length_append];omega
def hW(C d:Nat)(l:List aF)(m:aj):Nat:=match l.find? (fun f=>decide (f.ID=m.ID))with
 | some f=>C*(f.Data.length+1)
 | none=>d
def hS(C d:Nat)(l:List aF)(ms:List aj):Nat:=(ms.map (hW C d l)).sum
def sel1(id:Int)(A:Nat)(ms:List aj):Nat:=(ms.map fun m=>if m.ID=id then A else 0).sum
theorem sL{id:Int}{A:Nat}:∀{ms:List aj},(∀m,m∈ms->m.ID≠id)->sel1 id A ms=0
 | [],_=>rfl
 | m::ms,h=>by
  have:=sL (A:=A) (fun m hm=>h m (.tail _ hm));unfold sel1 at this ⊢
  grind
theorem B6{id:Int}{A:Nat}:∀{ms:List aj},ms.Pairwise (fun a b=>a.ID < b.ID)->sel1 id A ms<=A
 | [],_=>Nat.zero_le _
 | m::ms,h=>by
  rw[List.pairwise_cons]at h;by_cases e:m.ID=id
  . have:sel1 id A ms=0:=sL fun x hx=>by have:=h.1 x hx;omega
    unfold sel1 at this ⊢
    grind
  . have:=B6 (id:=id) (A:=A) h.2;unfold sel1 at this ⊢
    grind
theorem LV(C d:Nat)(f:aF)(l:List aF)(m:aj):hW C d (f::l) m<=(if m.ID=f.ID then C*(f.Data.length+1)else 0)+hW C d l m:=by
 unfold hW
 grind
theorem AA(C d:Nat)(f:aF)(l:List aF):∀(ms:List aj),hS C d (f::l) ms<=sel1 f.ID (C*(f.Data.length+1)) ms+hS C d l ms
 | []=>by simp[hS,sel1]
 | m::ms=>by
  have a:=AA C d f l ms;have b:=LV C d f l m;unfold hS sel1 at*
  grind
theorem B7(C d:Nat):∀(ms:List aj),hS C d [] ms=d*ms.length
 | []=>by simp[hS]
 | m::ms=>by
  have:=B7 C d ms;unfold hS at*;simp only[List.map_cons,List.sum_cons,List.length_cons];rw[this,Nat.mul_succ];have:hW C d [] m=d:=rfl;omega
theorem B8{C d:Nat}(hC:1<=C){x:ae}(hA:MAsc x.Members):∀(l:List aF),hS C d l x.Members+((restU x l).map fun r=>r.Data.length+1).sum<=d*x.Members.length+C*fS l
 | []=>by rw[B7];simp[restU]
 | f::l=>by
  have ih:=B8 (d:=d) hC hA l;have a:=AA C d f l x.Members;rw[Ay,Nat.mul_add];cases hF:findM x.Members f.ID with
  | some m=>
   have hr:restU x (f::l)=restU x l:=by unfold restU;rw[List.filter_cons_of_neg (by rw[hF];simp)]
   rw[hr];have:=B6 (id:=f.ID) (A:=C*(f.Data.length+1)) hA.1;omega
  | none=>
   have hr:restU x (f::l)=⟨f.ID,f.Data⟩::restU x l:=by unfold restU;rw[List.filter_cons_of_pos (by rw[hF];rfl)];rfl
   have:sel1 f.ID (C*(f.Data.length+1)) x.Members=0:=sL (fD hF);rw[hr,List.map_cons,List.sum_cons];have:f.Data.length+1<=C*(f.Data.length+1):=Nat.le_mul_of_pos_left _ hC
   grind
theorem AB{C d:Nat}{f:Int->List UInt8->Option ab}{l:List aF}(hd:∀(m:aj),m.HasDefault=true->True):∀{ms:List aj} {is:List ab},(∀m,m∈ms->(m.HasDefault=true->wt m.Default<=d)/\∀g,g∈l->∀v,f m.Type_ g.Data=some v->wt v<=C*(g.Data.length+1))->seqO (vmem f l) ms=some is->wts is<=hS C d l ms
 | [],is,_,h=>by rw[seqO]at h;cases h;rw[fO];exact Nat.zero_le _
 | m::ms,is,k,h=>by
  rw[seqO]at h;split at h
  . rename_i b m' h1 h2;cases h;have ih:=AB (C:=C) (d:=d) hd (fun m hm=>k m (.tail _ hm)) h2;have hb:wt b<=hW C d l m:=by
     unfold vmem at h1;unfold hW;cases hf:l.find? (fun f=>decide (f.ID=m.ID))with
     | some g=>
      rw[hf]at h1;exact(k m (.head _)).2 g (List.mem_of_find?_eq_some hf) b h1
     | none=>grind
    unfold hS at*;rw[gR,List.map_cons,List.sum_cons];omega
  . cases h
theorem si{x:ae}{l:List aF}{r:aH}(h:r∈restU x l):∃f,f∈l/\findM x.Members f.ID=none/\r=⟨f.ID,f.Data⟩:=by
 unfold restU at h;obtain⟨f,hf,rfl⟩:=List.mem_map.1 h;obtain⟨h1,h2⟩:=List.mem_filter.1 hf;refine⟨f,h1,?_,rfl⟩;simp_all
theorem zw{x:ae}{l:List aF}(ha:l.Pairwise (fun a b=>a.ID < b.ID))(hi:∀f,f∈l->I1000 f.ID):cb x.Members (restU x l):=by
 refine⟨?_,fun r hr=>?_⟩
 . unfold restU
   grind
 . obtain⟨f,f1,f2,rfl⟩:=si hr
   grind
section
variable {ts:List ae}
def FitN(ts:List ae)(t:Int)(p:List UInt8)(v:ab):Prop:=vfit ts false t v/\OkV v/\wt v<=300*(p.length+1)
theorem dC {k : Int} {b : Bool} {i : Int} {s : List UInt8} {id : Int} {ks is : List ab} {r : List aH} (h0 : 0 <= k /\ k <= 9) (h1 : I64 i) (h2 : 0 <= id /\ id <= 1000) (hs : s.length <= 90000) (hk : ks.length <= 90000) (hi : is.length <= 90000) (hr : r.length <= 90000)
 (k1:∀x,x∈ks->OkV x) (k2:∀x,x∈is->OkV x) (k3:∀x,x∈r->x.Data.length<=90000/\I1000 x.ID):OkV ⟨k,b,i,s,id,ks,is,r⟩:=by
 refine .mk _ (by unfold reachBytes;show s.length<=_;omega) (by unfold reachBytes;show ks.length<=_;omega) (by unfold reachBytes;show is.length<=_;omega) (by unfold reachBytes;show r.length<=_;omega) k1 k2 (fun x hx=>by have:=(k3 x hx).1;unfold reachBytes;omega) ?_ h1 ?_ (fun x hx=>by have:=(k3 x hx).2;unfold I1000 at this;omega)
 . show -9223372036854775808<=k/\k<=9223372036854775807;omega
 . show -9223372036854775808<=id/\id<=9223372036854775807;omega
theorem KV(H:DrOk ts){n:Nat}(ih:∀(t:Int) (p:List UInt8) (v:ab),p.length<=90000->0<=t->t < ts.length->vdec ts n t p=some v->FitN ts t p v){t:Int}{p:List UInt8}{v:ab}(hp:p.length<=90000)(t0:0<=t)(t1:t < ts.length)(h:vdec ts (n+1) t p=some v):FitN ts t p v:=by
 rw[sg]at h;have hj:t.toNat < ts.length:=by omega
 have hx:=aB hj af;have hC:=H.dc;unfold FitN;rw[cZ];generalize ts.getD t.toNat af=x at*;unfold vdK at h;have w0:∀(k i id:Int) (b:Bool) (s:List UInt8),wt ⟨k,b,i,s,id,[],[],[]⟩=10+s.length:=fun k i id b s=>by rw[wt_eq,fO];simp
 by_cases k1:x.Kind=1
 . rw[if_pos k1]at h;have:∃b,v=⟨1,b,0,[],0,[],[],[]⟩:=by
    unfold vd1 at h
    grind
   obtain⟨b,rfl⟩:=this;exact⟨⟨⟨t0,t1,k1.symm,fun h=>by cases h⟩,.inl ⟨rfl,rfl,rfl,rfl,rfl,rfl,rfl⟩⟩,dC (by omega) i64_0 (by omega) (by simp) (by simp) (by simp) (by simp) (by simp) (by simp) (by simp),by rw[w0];simp;omega⟩
 rw[if_neg k1]at h;by_cases k2:x.Kind=2
 . rw[if_pos k2]at h;unfold vd2 at h;cases hm:vub p with
   | none=>rw[hm]at h;cases h
   | some m=>
    rw[hm]at h;dsimp only at h;split at h
    . rename_i hr;cases h;exact⟨⟨⟨t0,t1,k2.symm,fun h=>by cases h⟩,.inr (.inl ⟨rfl,rfl,rfl,rfl,rfl,rfl,rfl,hr.1,hr.2⟩)⟩,dC (by omega) (Au (nn hm)) (by omega) (by simp) (by simp) (by simp) (by simp) (by simp) (by simp) (by simp),by rw[w0];simp;omega⟩
    . cases h
 rw[if_neg k2]at h;by_cases k3:x.Kind=3
 . rw[if_pos k3]at h;unfold vd3 at h;split at h
   . rename_i hr;cases h;exact⟨⟨⟨t0,t1,k3.symm,fun h=>by cases h⟩,.inr (.inr (.inl ⟨rfl,rfl,rfl,rfl,rfl,rfl,rfl,hr⟩))⟩,dC (by omega) i64_0 (by omega) (by omega) (by simp) (by simp) (by simp) (by simp) (by simp) (by simp),by rw[w0];omega⟩
   . cases h
 rw[if_neg k3]at h;by_cases k4:x.Kind=4
 . rw[if_pos k4]at h;unfold vd4 at h;cases hm:vub p with
   | none=>rw[hm]at h;cases h
   | some m=>
    rw[hm]at h;dsimp only at h;split at h
    . rename_i hr;cases h;refine⟨⟨⟨t0,t1,k4.symm,fun h=>by cases h⟩,.inr (.inr (.inr (.inl ⟨rfl,rfl,rfl,rfl,rfl,rfl,rfl,?_⟩)))⟩,dC (by omega) i64_0 (by omega) (by simp) (by simp) (by simp) (by simp) (by simp) (by simp) (by simp),by rw[w0];simp;omega⟩;have h2:=hr.2.2;rw[Bool.or_eq_true]at h2;rcases h2 with h2 | h2
      . grind
      . exact .inr ⟨h2,rfl,by unfold I1000;show 1<=(m:Int)/\(m:Int)<=1000;omega⟩
    . cases h
 rw[if_neg k4]at h;by_cases k9:x.Kind=9
 . rw[if_pos k9]at h;obtain⟨e1,e2⟩:=hC.elem hx (by omega);cases p with
   | nil=>
    rw[vd9]at h;cases h;exact⟨⟨⟨t0,t1,k9.symm,fun h=>by cases h⟩,.inr (.inr (.inr (.inr (.inr (.inr (.inr (.inr ⟨rfl,rfl,rfl,rfl,rfl,rfl,rfl,by simp,aW.2 (by simp)⟩)))))))⟩,dC (by omega) i64_0 (by omega) (by simp) (by simp) (by simp) (by simp) (by simp) (by simp) (by simp),by rw[w0];simp⟩
   | cons c q=>
    rw[vd9]at h;split at h
    . obtain⟨w,w1,rfl⟩:=Option.map_eq_some_iff.1 h;obtain⟨f1,f2,f3⟩:=ih _ _ _ (by simp at hp;omega) e1 e2 w1;refine⟨⟨⟨t0,t1,k9.symm,fun h=>by cases h⟩,.inr (.inr (.inr (.inr (.inr (.inr (.inr (.inr ⟨rfl,rfl,rfl,rfl,rfl,rfl,rfl,by simp,aW.2 ?_⟩)))))))⟩,dC (by omega) i64_0 (by omega) (by simp) (by simp) (by simp) (by simp) (by simp) ?_ (by simp),?_⟩
      . grind
      . grind
      . rw[wt_eq];show 10+0+0+wts []+wts [w]<=_;rw[gR,fO,List.length_cons];omega
    . cases h
 rw[if_neg k9]at h;by_cases k6:x.Kind=6
 . rw[if_pos k6]at h;unfold vd6 at h;cases hA:vA p with
   | none=>rw[hA]at h;cases h
   | some a=>
    obtain⟨id,q⟩:=a;rw[hA]at h;dsimp only at h;have einv:=B5 hA;have hpos:=fL id.toNat;have hql:q.length+1<=p.length:=by rw[einv,List.length_append];omega
    obtain⟨o,o1,_,o2,o3⟩:=pC p;have hid:I1000 id:=by grind
    unfold I1000 at hid;cases hF:findM x.Members id with
    | some m=>
     rw[hF]at h;obtain⟨w,w1,rfl⟩:=Option.map_eq_some_iff.1 h;obtain⟨m1,m2⟩:=gN hF;obtain⟨f1,f2,f3⟩:=ih _ _ _ (by omega) (hC.mem hx m1).1 (hC.mem hx m1).2 w1
     refine⟨⟨⟨t0,t1,k6.symm,fun h=>by cases h⟩,.inr (.inr (.inr (.inr (.inr (.inl ⟨rfl,rfl,rfl,rfl,rfl,?_⟩)))))⟩,dC (by omega) i64_0 (by omega) (by simp) (by simp) (by simp) (by simp) (by simp) ?_ (by simp),?_⟩
     . show(match findM x.Members id with
        | some m=>_
        | none=>_)
       rw[hF];refine⟨rfl,rfl,aW.2 ?_⟩
       grind
     . grind
     . rw[wt_eq];show 10+0+0+wts []+wts [w]<=_;rw[gR,fO];omega
    | none=>
     rw[hF]at h;dsimp only at h;split at h
     . rename_i hO;cases h;refine⟨⟨⟨t0,t1,k6.symm,fun h=>by cases h⟩,.inr (.inr (.inr (.inr (.inr (.inl ⟨rfl,rfl,rfl,rfl,rfl,?_⟩)))))⟩,dC (by omega) i64_0 (by omega) (by simp) (by simp) (by simp) (by simp) (by simp) (by simp) ?_,?_⟩
       . grind
       . grind
       . rw[wt_eq];show 10+0+((q.length+1)+0)+wts []+wts []<=_;rw[fO];omega
     . cases h
 rw[if_neg k6]at h;by_cases k7:x.Kind=7
 . rw[if_pos k7]at h;unfold vd7 at h;obtain⟨e1,e2⟩:=hC.elem hx (by omega);cases hI:vI p with
   | none=>rw[hI]at h;cases h
   | some l=>
    rw[hI]at h;dsimp only at h;obtain⟨o,o1,_,o2,o3⟩:=dW hp;have hl:(∀q,q∈l->q.length<=p.length)/\l.length<=p.length:=by grind
    have hw:=s7 l;rw[pY hp hI]at hw;split at h
    . rename_i hM;obtain⟨m,m1,rfl⟩:=Option.map_eq_some_iff.1 h;have hlen:=dX m1;have hmem:∀y,y∈m->∃q,q∈l/\FitN ts x.Elem q y:=fun y hy=>by
       obtain⟨q,q1,q2⟩:=my m1 y hy
       grind
      have hwt:=pZ (C:=300) m1 (fun q hq v hv=>(ih _ _ _ (by have:=hl.1 q hq;omega) e1 e2 hv).2.2);refine⟨⟨⟨t0,t1,k7.symm,fun h=>by cases h⟩,.inr (.inr (.inr (.inr (.inr (.inr (.inl ⟨rfl,rfl,rfl,rfl,rfl,rfl,rfl,?_,aW.2 ?_⟩))))))⟩,dC (by omega) i64_0 (by omega) (by simp) (by simp) (by omega) (by simp) (by simp) ?_ (by simp),?_⟩
      . grind
      . intro y hy;obtain⟨q,_,q2⟩:=hmem y hy;exact q2.1
      . intro y hy;obtain⟨q,_,q2⟩:=hmem y hy;exact q2.2.1
      . rw[wt_eq];show 10+0+0+wts []+wts m<=_;rw[fO];omega
    . cases h
 rw[if_neg k7]at h;by_cases k8:x.Kind=8
 . rw[if_pos k8]at h;unfold vd8 at h;obtain⟨e1,e2⟩:=hC.elem hx (by omega);obtain⟨d1,d2⟩:=hC.key hx k8;cases hI:vI p with
   | none=>rw[hI]at h;cases h
   | some l=>
    rw[hI]at h;dsimp only at h;obtain⟨o,o1,_,o2,o3⟩:=dW hp;have hl:(∀q,q∈l->q.length<=p.length)/\l.length<=p.length:=by grind
    have hw:=s7 l;rw[pY hp hI]at hw;have hws:=zu l;split at h
    . rename_i hM;cases hs:seqO (vdec ts n x.Key) (evens l)with
      | none=>rw[hs]at h;cases h
      | some ks=>
       rw[hs]at h;dsimp only at h;split at h
       . rename_i ha;obtain⟨m,m1,rfl⟩:=Option.map_eq_some_iff.1 h;have hlenk:=dX hs;have hlen:=dX m1;obtain⟨g1,g2⟩:=tr hM.1;have hmemk:∀y,y∈ks->∃q,q∈evens l/\FitN ts x.Key q y:=fun y hy=>by
          obtain⟨q,q1,q2⟩:=my hs y hy;exact⟨q,q1,ih _ _ _ (by have:=hl.1 q (o7 q1);omega) d1 d2 q2⟩
         have hmem:∀y,y∈m->∃q,q∈odds l/\FitN ts x.Elem q y:=fun y hy=>by
          obtain⟨q,q1,q2⟩:=my m1 y hy;exact⟨q,q1,ih _ _ _ (by have:=hl.1 q (pE q1);omega) e1 e2 q2⟩
         have hwtk:=pZ (C:=300) hs (fun q hq v hv=>(ih _ _ _ (by have:=hl.1 q (o7 hq);omega) d1 d2 hv).2.2);have hwt:=pZ (C:=300) m1 (fun q hq v hv=>(ih _ _ _ (by have:=hl.1 q (pE hq);omega) e1 e2 hv).2.2)
         refine⟨⟨⟨t0,t1,k8.symm,fun h=>by cases h⟩,.inr (.inr (.inr (.inr (.inr (.inr (.inr (.inl ⟨rfl,rfl,rfl,rfl,rfl,rfl,?_,?_,aW.2 ?_,aW.2 ?_,pD.1 ha⟩)))))))⟩,dC (by omega) i64_0 (by omega) (by simp) (by omega) (by omega) (by simp) ?_ ?_ (by simp),?_⟩
         . grind
         . grind
         . intro y hy;obtain⟨q,_,q2⟩:=hmemk y hy;exact q2.1
         . intro y hy;obtain⟨q,_,q2⟩:=hmem y hy;exact q2.1
         . intro y hy;obtain⟨q,_,q2⟩:=hmemk y hy;exact q2.2.1
         . intro y hy;obtain⟨q,_,q2⟩:=hmem y hy;exact q2.2.1
         . rw[wt_eq]
           grind
       . cases h
    . cases h
 rw[if_neg k8]at h;have k5:x.Kind=5:=by obtain⟨K1,K9⟩:=hC.S.K x hx;omega
 unfold vd5 at h;obtain⟨hA1,hA2⟩:=hC.S.A x hx (.inl k5);cases hI:vFl p with
 | none=>rw[hI]at h;cases h
 | some l=>
  rw[hI]at h;dsimp only at h;obtain⟨o,o1,_,o2,o3⟩:=lZ hp;have hl:(∀f,f∈l->f.Data.length<=p.length/\I1000 f.ID)/\l.Pairwise (fun a b=>a.ID < b.ID)/\l.length<=p.length:=by grind
  have hw:=Az l;rw[Ax hp hI]at hw;cases hs:seqO (vmem (vdec ts n) l) x.Members with
  | none=>rw[hs]at h;cases h
  | some is=>
   rw[hs]at h;dsimp only at h;split at h
   . rename_i ha;cases h;have hlen:=dX hs;have hfit:∀i,i < x.Members.length->vfit ts false (x.Members.getD i ap).Type_ (is.getD i ag)/\OkV (is.getD i ag):=fun i hi=>by
      have hm:=aB hi ap;have:=zr ap ag hs i hi;unfold vmem at this;cases hf:l.find? (fun f=>decide (f.ID=(x.Members.getD i ap).ID))with
      | some g=>
       rw[hf]at this;have:=ih _ _ _ (by have:=(hl.1 g (List.mem_of_find?_eq_some hf)).1;omega) (hC.mem hx hm).1 (hC.mem hx hm).2 this;exact⟨this.1,this.2.1⟩
      | none=>
       rw[hf]at this;dsimp only at this;split at this
       . rename_i hd;have e:=(Option.some.inj this)
         rw[<-e];exact⟨vfit_weak _ _ (H.D x hx _ hm hd),(H.T x hx).3 _ hm⟩
       . cases this
     have hwt:=AB (C:=300) (d:=13) (fun _ _=>trivial) (fun m hm=>⟨fun hd=>H.W x hx m hm hd,fun g hg v hv=>(ih _ _ _ (by have:=(hl.1 g hg).1;omega) (hC.mem hx hm).1 (hC.mem hx hm).2 hv).2.2⟩) hs;have hrw:=B8 (C:=300) (d:=13) (by omega) hA1 l
     refine⟨⟨⟨t0,t1,k5.symm,fun h=>by cases h⟩,.inr (.inr (.inr (.inr (.inl ⟨rfl,rfl,rfl,rfl,rfl,rfl,zw hl.2.1 (fun f hf=>(hl.1 f hf).2),fH.2 ⟨hlen,fun i hi=>(hfit i hi).1⟩⟩))))⟩,dC (by omega) i64_0 (by omega) (by simp) (by simp) (by omega) ?_ (by simp) ?_ ?_,?_⟩
     . unfold restU
       grind
     . intro y hy;obtain⟨i,hi,rfl⟩:=List.getElem_of_mem hy
       grind
     . intro r hr;obtain⟨f,f1,_,rfl⟩:=si hr
       grind
     . rw[wt_eq];show 10+0+((restU x l).map fun r=>r.Data.length+1).sum+wts []+wts is<=_;rw[fO];omega
   . cases h
theorem sM(H:DrOk ts):∀(n:Nat) (t:Int) (p:List UInt8) (v:ab),p.length<=90000->0<=t->t < ts.length->vdec ts n t p=some v->FitN ts t p v
 | 0,t,p,v,_,_,_,h=>by rw[yi]at h;cases h
 | n+1,t,p,v,hp,t0,t1,h=>KV H (sM H n) hp t0 t1 h
end
end
end Go.Proofs.YtijpinendaoleaaGreat
