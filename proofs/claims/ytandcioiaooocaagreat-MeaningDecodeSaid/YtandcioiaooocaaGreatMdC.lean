/- The functions of the program as functions of Lean, that its code does what they say, and what they answer; part C. -/
import Derived.Test.YtandcioiaooocaaGreatMdB

namespace Go.Proofs.YtandcioiaooocaaGreat
set_option linter.all false
section
open Go Go.Proofs.YtandcioiaooocaaGreat.Shv Go.Sort
set_option maxRecDepth 100000
def rsum(l:List aG):Nat:=(l.map fun x=>x.Data.length).sum
theorem KE(l:List aG):(l.map fun x=>x.Data.length+1).sum=rsum l+l.length:=by
 unfold rsum
 induction l with
 | nil=>rfl
 | cons a l ih=>simp only[List.map_cons,List.sum_cons,List.length_cons];omega
def Left(n:Int)(w:Nat)(m:Int):Prop:=m<=n/\-1000000000000000<=m/\(0<=m->(w:Int)+m<=n)
theorem yN{v:ab}(hl:v.Rest.length<=reachBytes)(hd:∀x,x∈v.Rest->x.Data.length<=reachBytes):∀(k i:Nat) (n:Int),i+k=v.Rest.length->n<=3000->-1000000000000000<=n->∃m,gh (n,(i:Int),v)=some (m,v)/\Left n (rsum (v.Rest.drop i)) m
 | 0, i, n, hi, h3, hm => ⟨n, by
  rw[gh,if_neg,ab.aA];intro h;have g:¬(i:Int) < (v.Rest.length:Int):=by omega
  simp[g]at h,by
  rw[List.drop_eq_nil_of_le (by omega:v.Rest.length<=i)]
  exact⟨by omega,hm,fun _=>by simp[rsum]⟩⟩
 | k+1,i,n,hi,h3,hm=>by
  have hlt:i < v.Rest.length:=by omega
  have hr:=aQ hl;have hdd:=hd _ (aB hlt aC);unfold reachBytes at hdd;have g:(i:Int) < (v.Rest.length:Int):=by omega
  rw[gh];by_cases h0:0<=n
  . rw[if_pos (by simp[g,h0]),if_pos (au hlt)];simp only[av,ab.aA];rw[cb (by omega) (by omega),aD (by omega)];obtain⟨m,m1,m2,m3,m4⟩:=yN hl hd k (i+1) (n - ((v.Rest.getD i aC).Data.length:Int)) (by omega) (by omega) (by omega);refine⟨m,m1,by omega,m3,fun h=>?_⟩;have:=m4 h;rw[bm hlt aC]
    have e:rsum (v.Rest.getD i aC::v.Rest.drop (i+1))=(v.Rest.getD i aC).Data.length+rsum (v.Rest.drop (i+1)):=by unfold rsum;simp only[List.map_cons,List.sum_cons]
    rw[e];omega
  . refine⟨n,?_,by omega,hm,fun h=>absurd h h0⟩;rw[if_neg (by simp[g,h0]),ab.aA]
theorem yO{v:ab}(hl:v.Keys.length<=reachBytes)(ih:∀x,x∈v.Keys->∀n,0<=n->n<=3000->∃m,d9 (x,n)=some m/\Left n (wt x) m):∀(k i:Nat) (n:Int),i+k=v.Keys.length->n<=3000->-1000000000000000<=n->∃m,gZ (n,(i:Int),v)=some (m,v)/\Left n (wts (v.Keys.drop i)) m
 | 0, i, n, hi, h3, hm => ⟨n, by
  rw[gZ,if_neg,ab.aA];intro h;have g:¬(i:Int) < (v.Keys.length:Int):=by omega
  simp[g]at h,by
  rw[List.drop_eq_nil_of_le (by omega:v.Keys.length<=i),ck]
  exact⟨by omega,hm,fun _=>by simp⟩⟩
 | k+1,i,n,hi,h3,hm=>by
  have hlt:i < v.Keys.length:=by omega
  have hr:=aQ hl;have g:(i:Int) < (v.Keys.length:Int):=by omega
  rw[gZ];by_cases h0:0<=n
  . obtain⟨a,a1,a2,a3,a4⟩:=ih _ (aB hlt af) n h0 h3;rw[if_pos (by simp[g,h0]),if_pos (au hlt)];simp only[av,ab.aA];rw[a1];simp only[oZ4,oZ3];rw[aD (by omega)];obtain⟨m,m1,m2,m3,m4⟩:=yO hl ih k (i+1) a (by omega) (by omega) (by omega);refine⟨m,m1,by omega,m3,fun h=>?_⟩;have:=m4 h;have:=a4 (by omega);rw[bm hlt af,ci];omega
  . refine⟨n,?_,by omega,hm,fun h=>absurd h h0⟩;rw[if_neg (by simp[g,h0]),ab.aA]
theorem yP{v:ab}(hl:v.Items.length<=reachBytes)(ih:∀x,x∈v.Items->∀n,0<=n->n<=3000->∃m,d9 (x,n)=some m/\Left n (wt x) m):∀(k i:Nat) (n:Int),i+k=v.Items.length->n<=3000->-1000000000000000<=n->∃m,g6 (n,(i:Int),v)=some m/\Left n (wts (v.Items.drop i)) m
 | 0, i, n, hi, h3, hm => ⟨n, by
  rw[g6,if_neg];intro h;have g:¬(i:Int) < (v.Items.length:Int):=by omega
  simp[g]at h,by
  rw[List.drop_eq_nil_of_le (by omega:v.Items.length<=i),ck]
  exact⟨by omega,hm,fun _=>by simp⟩⟩
 | k+1,i,n,hi,h3,hm=>by
  have hlt:i < v.Items.length:=by omega
  have hr:=aQ hl;have g:(i:Int) < (v.Items.length:Int):=by omega
  rw[g6];by_cases h0:0<=n
  . obtain⟨a,a1,a2,a3,a4⟩:=ih _ (aB hlt af) n h0 h3;rw[if_pos (by simp[g,h0]),if_pos (au hlt)];simp only[av,ab.aA];rw[a1];simp only[oZ4,oZ3];rw[aD (by omega)];obtain⟨m,m1,m2,m3,m4⟩:=yP hl ih k (i+1) a (by omega) (by omega) (by omega);refine⟨m,m1,by omega,m3,fun h=>?_⟩;have:=m4 h;have:=a4 (by omega);rw[bm hlt af,ci];omega
  . refine⟨n,?_,by omega,hm,fun h=>absurd h h0⟩;rw[if_neg (by simp[g,h0])]
theorem size8{v:ab}(hv:OkV v):∀n:Int,0<=n->n<=3000->∃m,d9 (v,n)=some m/\Left n (wt v) m:=by
 induction hv with
 | mk v hs h1 h2 h3 hk hi hrd n1 n2 n3 n4 ihk ihi=>
  intro n h0 hn;have e1:addI .i64 (addI .i64 10 (v.Str.length:Int)) (v.Rest.length:Int)=((10+v.Str.length+v.Rest.length:Nat):Int):=by
   have a1:=aQ hs;have a2:=aQ h3;unfold reachBytes at hs h3;have:addI .i64 10 (v.Str.length:Int)=((10+v.Str.length:Nat):Int):=mr (a:=10) (by omega);rw[this,mr (by omega)]
  unfold reachBytes at hs;have h3':=h3;unfold reachBytes at h3';have e2:subI .i64 n ((10+v.Str.length+v.Rest.length:Nat):Int)=n - ((10+v.Str.length+v.Rest.length:Nat):Int):=cb (by omega) (by omega);obtain⟨a,a1,a2,a3,a4⟩:=yN h3 hrd v.Rest.length 0 (n - ((10+v.Str.length+v.Rest.length:Nat):Int)) (by omega) (by omega) (by omega)
  obtain⟨b,b1,b2,b3,b4⟩:=yO h1 ihk v.Keys.length 0 a (by omega) (by omega) (by omega);obtain⟨c,c1,c2,c3,c4⟩:=yP h2 ihi v.Items.length 0 b (by omega) (by omega) (by omega);have a1':gh (n - ((10+v.Str.length+v.Rest.length:Nat):Int),0,v)=_:=a1;have b1':gZ (a,0,v)=_:=b1;have c1':g6 (b,0,v)=_:=c1;refine⟨c,?_,by omega,c3,fun h=>?_⟩
  . rw[d9];simp only[ab.aA];rw[e1,e2,a1'];simp only[oZ4,oZ3,ab.aA];rw[b1'];simp only[oZ3,ab.aA];rw[c1'];rfl
  . have:=c4 h;have:=b4 (by omega);have:=a4 (by omega);rw[wt_eq,KE]
    grind
theorem Gl{v:ab}(hv:OkV v):∃b,nE v=some b/\(b=true->wt v<=3000):=by
 obtain⟨m,m1,m2,m3,m4⟩:=size8 hv 3000 (by omega) (by omega);rw[nE];simp only[ab.aA];rw[m1];refine⟨decide (0<=m),rfl,fun h=>?_⟩;have h0:0<=m:=of_decide_eq_true h;have:=m4 h0;omega
def NP(ts:List ae)(ms:List aj):Prop:=∀m,m∈ms->m.HasDefault=true->vfit ts true m.Type_ m.Default
theorem okOne{t:Ty}{x:t.den Un.D}(h:Ok Un [t] x):∀d,d∈t.row Un x->WF Un d:=fun d hd=>h ⟨t,x⟩ (List.mem_cons_self ..) d hd
noncomputable def encA (ts:List ae) (t:Int) (v:ab):List UInt8×Int:=
 if 4096 < (vpay ts t v).length\/200 < vlev ts t v then([],3)else(vpay ts t v,0)
abbrev Nd :=aM
abbrev dNd :=aw
abbrev dPt :=bV
theorem nz{a:Int}(h:¬a=0):(!(decide (a=0)))=true:=by simp[h]
theorem bM{x m:Int}(h:0<=x)(hm:0<=m):remI x m=x % m:=by unfold remI;rw[Int.tmod_eq_emod_of_nonneg h]
theorem NQ{x:Int}(h:0<=x)(h2:x<=255):quoI .u8 x 4=x / 4:=by
 unfold quoI;rw[Int.tdiv_eq_ediv_of_nonneg h,IntKind.wrap_u8];omega
theorem dm{x:Int}(h:I64 x):wrp .i64 x=x:=by
 unfold wrp I64 at*;rw[IntKind.wrap_i64];omega
theorem tk{k:Int}(h:0<=k/\k<=25):dO (wrp .i32 (addI .i64 97 k))=[UInt8.ofNat (97+k.toNat)]:=by
 have key:∀k:Nat,k < 26->dO (wrp .i32 (addI .i64 97 (k:Int)))=[UInt8.ofNat (97+k)]:=by decide+kernel
 grind
theorem NR{k:Int}(h:0<=k/\k<=25):dO (wrp .i32 (addI .i64 65 k))=[UInt8.ofNat (65+k.toNat)]:=by
 have key:∀k:Nat,k < 26->dO (wrp .i32 (addI .i64 65 (k:Int)))=[UInt8.ofNat (65+k)]:=by decide+kernel
 grind
theorem w4{s:List UInt8}(h0:s≠[])(hl:s.length<=24)(h:∀i:Nat,i < s.length->dP (bu s i)=true):nm s=true:=by
 have key:∀k i:Nat,i+k=s.length->cV (s,(s.length:Int),(i:Int))=some (.inr ()):=by
  intro k
  induction k with
  | zero=>intro i hi;rw[cV,if_neg (by simp;omega)]
  | succ k ih=>
   intro i hi;rw[cV,if_pos (by simp;omega),if_pos (au (by omega)),oY,h i (by omega)];simp only[oZ4,oZ3,Bool.not_true];rw[if_pos (by rw[au (by omega)];rfl),aD (by omega)];exact ih (i+1) (by omega)
 have hpos:0 < s.length:=List.length_pos_iff.2 h0;have h00:=h 0 hpos;have hin:inR 0 s.length=true:=au (k:=0) hpos;have ht:(bif decide (s=[])then true else decide (24 < (s.length:Int)))=false:=by grind
 have hk:cV (s,(s.length:Int),0)=some (.inr ()):=key s.length 0 (by omega);have h00':dP (bu s 0)=true:=h00;unfold nm;rw[cK];simp only[oZ4,oZ3];rw[ht,hin,oY,h00']
 grind
theorem NS{c:Nat}(h:65<=c/\c<=90\/97<=c/\c<=122):nm [UInt8.ofNat c]=true:=by
 refine w4 (by simp) (by simp) fun i hi=>?_
 have:i=0:=by simp at hi;omega
 subst this;have e:bu [UInt8.ofNat c] ((0:Nat):Int)=(c:Int):=by
  rw[jM];simp only[List.getD_cons_zero];rw[cY (by omega)]
 rw[e];unfold dP;simp;omega
theorem Bo{b c:Nat}(hb:97<=b/\b<=122)(h:97<=c/\c<=122):nm [UInt8.ofNat b,UInt8.ofNat c]=true:=by
 refine w4 (by simp) (by simp) fun i hi=>?_
 have:i=0\/i=1:=by simp at hi;omega
 rcases this with rfl | rfl
 . rw[jM];simp only[List.getD_cons_zero];rw[cY (by omega)];unfold dP;simp;omega
 . rw[jM];simp only[List.getD_cons_succ,List.getD_cons_zero];rw[cY (by omega)];unfold dP;simp;omega
def U8(x:Int):Prop:=0<=x/\x<=255
structure NOk (x:Nd):Prop where
 k:U8 x.Kind
 a:U8 x.A
 b:U8 x.B
 c:U8 x.C
 p:∀q,q∈x.Parts->U8 q.ID/\U8 q.Type_/\U8 q.Flag
 l:x.Parts.length<=reachBytes
def kd(ns:List Nd)(i:Int):Int:=1+(ns.getD i.toNat dNd).Kind % 9
section
variable {ns:List Nd} (hN:∀x,x∈ns->NOk x) (h5:ns.length<=5)
include hN h5 in
theorem kd_eq{i:Int}(h0:0<=i)(h1:i < ns.length):gp ((⟨ns⟩:aT),i)=some (kd ns i)/\1<=kd ns i/\kd ns i<=9:=by
 obtain⟨j,rfl⟩:∃j:Nat,i=(j:Int):=⟨i.toNat,by omega⟩
 have hx:=(hN _ (aB (by omega:j < ns.length) dNd)).k;unfold kd;rw[av];obtain⟨a,b⟩:=hx;refine⟨?_,by omega,by omega⟩;rw[gp,if_pos (au (by omega:j < ns.length)),av,bM a (by omega),dm ⟨by omega,by omega⟩,cC (by omega) (by omega)]
def Tgt(ns:List Nd)(i u:Int):Prop:=0<=u/\u < ns.length/\(7<=kd ns u\/u < i)
include hN h5 in
theorem xW :∀(k i:Nat),i+k=ns.length->dY ((ns.length:Int),(i:Int),ns)=some (.inr ())\/∃u:Int,dY ((ns.length:Int),(i:Int),ns)=some (.inl u)/\0<=u/\u < ns.length/\7<=kd ns u
 | 0,i,hi=>.inl (by rw[dY,if_neg (by simp;omega)])
 | k+1,i,hi=>by
  obtain⟨e,_,_⟩:=kd_eq hN h5 (i:=(i:Int)) (by omega) (by omega);rw[dY,if_pos (by simp;omega),e];simp only[oZ4,oZ3,kT];by_cases h7:7<=kd ns i
  . grind
  . rw[if_neg (by simpa using h7),aD (by omega)];exact xW k (i+1) (by omega)
include hN h5 in
theorem IE(h1:1<=ns.length){i code:Int}(hi:0<=i/\i < ns.length)(hc:U8 code):∃u,kU ((⟨ns⟩:aT),i,code)=some u/\(u < 0\/Tgt ns i u):=by
 have hm:wrp .i64 code=code:=dm ⟨by unfold U8 at hc;omega,by unfold U8 at hc;omega⟩;obtain⟨c1,c2⟩:=hc;have hr0:0<=code % (ns.length:Int):=Int.emod_nonneg _ (by omega);have hr1:code % (ns.length:Int) < ns.length:=Int.emod_lt_of_pos _ (by omega);rw[kU];simp only[oZ4,oZ3];rw[if_pos (nz (by omega)),hm,bM c1 (by omega)]
 obtain⟨e,_,_⟩:=kd_eq hN h5 hr0 hr1;rw[e];simp only[oZ3,kT];by_cases h7:7<=kd ns (code % (ns.length:Int))
 . rw[if_pos (by simp[h7])];exact⟨_,rfl,.inr ⟨hr0,hr1,.inl h7⟩⟩
 . by_cases hlt:code % (ns.length:Int) < i
   . rw[if_pos (by simp[hlt])];exact⟨_,rfl,.inr ⟨hr0,hr1,.inr hlt⟩⟩
   . rw[if_neg (by simp[h7,hlt])];by_cases hp:0 < i
     . rw[if_pos (by simpa using hp),if_pos (by simp;omega),bM hr0 (by omega)];have a0:0<=code % (ns.length:Int) % i:=Int.emod_nonneg _ (by omega);have a1:code % (ns.length:Int) % i < i:=Int.emod_lt_of_pos _ (by omega);exact⟨_,rfl,.inr ⟨a0,by omega,.inr a1⟩⟩
     . rw[if_neg (by simpa using hp)];have h0:=xW hN h5 ns.length 0 (by omega);have e0:dY ((ns.length:Int),((0:Nat):Int),ns)=dY ((ns.length:Int),0,ns):=rfl;rw[e0]at h0;rcases h0 with h | ⟨u,h,a,b,c⟩
       . grind
       . rw[h];exact⟨u,rfl,.inr ⟨a,b,.inl c⟩⟩
def KeyT(ns:List Nd)(u:Int):Prop:=0<=u/\u < ns.length/\1<=kd ns u/\kd ns u<=4
include hN h5 in
theorem Bp{code:Int}(hc:U8 code)(h1:1<=ns.length):∀(k i:Nat),i+k=ns.length->(d7 (code,(ns.length:Int),(i:Int),ns)=some (.inr ())/\∀m:Nat,i<=m->m < ns.length->¬KeyT ns ((code+m) % (ns.length:Int)))\/∃u:Int,d7 (code,(ns.length:Int),(i:Int),ns)=some (.inl u)/\KeyT ns u
 | 0,i,hi=>.inl ⟨by rw[d7,if_neg (by simp;omega)],fun m a b=>by omega⟩
 | k+1,i,hi=>by
  obtain⟨c1,c2⟩:=hc;have hr0:0<=(code+i) % (ns.length:Int):=Int.emod_nonneg _ (by omega);have hr1:(code+i) % (ns.length:Int) < ns.length:=Int.emod_lt_of_pos _ (by omega);obtain⟨e,e1,e9⟩:=kd_eq hN h5 hr0 hr1;rw[d7,if_pos (by simp;omega),if_pos (nz (by omega)),dm ⟨by omega,by omega⟩,cC (by omega) (by omega),bM (by omega) (by omega)]
  simp only[oZ4,oZ3];rw[e];simp only[oZ3,kM];by_cases h4:kd ns ((code+i) % (ns.length:Int))<=4
  . rw[if_pos (by simp[e1,h4])];exact .inr ⟨_,rfl,hr0,hr1,e1,h4⟩
  . rw[if_neg (by simp[h4]),aD (by omega)];rcases Bp ⟨c1,c2⟩ h1 k (i+1) (by omega)with⟨a,b⟩ | h
    . refine .inl ⟨a,fun m hm1 hm2=>?_⟩;by_cases hm:m=i
      . subst hm;rintro ⟨_,_,_,h⟩;exact h4 h
      grind
    grind
include hN h5 in
theorem Bq{code:Int}(hc:U8 code)(h1:1<=ns.length):∃u,iq ((⟨ns⟩:aT),code)=some u/\((u= -1/\∀w,¬KeyT ns w)\/KeyT ns u):=by
 rw[iq];have h0:=Bp hN h5 hc h1 ns.length 0 (by omega);have e0:d7 (code,(ns.length:Int),((0:Nat):Int),ns)=d7 (code,(ns.length:Int),0,ns):=rfl;rw[e0]at h0;rcases h0 with⟨h,a⟩ | ⟨u,h,a⟩
 . rw[h];refine⟨-1,rfl,.inl ⟨rfl,fun w hw=>?_⟩⟩;have hw':=hw;obtain⟨w0,w1,_⟩:=hw';have hr0:0<=(w - code) % (ns.length:Int):=Int.emod_nonneg _ (by omega);have hr1:(w - code) % (ns.length:Int) < ns.length:=Int.emod_lt_of_pos _ (by omega);refine a ((w - code) % (ns.length:Int)).toNat (by omega) (by omega) ?_
   have e:(code+(((w - code) % (ns.length:Int)).toNat:Int)) % (ns.length:Int)=w:=by
    rw[Int.toNat_of_nonneg hr0,Int.add_emod_emod];have:code+(w - code)=w:=by omega
    rw[this];exact Int.emod_eq_of_lt w0 w1
   grind
 grind
theorem tl{x:Nd}(h:NOk x):fk x=some (x.A % 7 - 3):=by
 have:=h.a;unfold U8 at this;rw[fk,bM this.1 (by omega),dm ⟨by omega,by omega⟩,cb (by omega) (by omega)]
theorem zY{x:Nd}(h:NOk x):il x=some (x.A % 7 - 3+x.B % 6):=by
 have ha:=h.a;have hb:=h.b;unfold U8 at ha hb;rw[il,tl h];simp only[oZ4,oZ3];rw[bM hb.1 (by omega),dm ⟨by omega,by omega⟩,cC (by omega) (by omega)]
def IdsOk(l:List Int)(n:Int):Prop:=l.Pairwise (· < ·)/\∀x,x∈l->1<=x/\x<=n
theorem tm{x:Nd}:∀(k i:Nat) (acc:List Int),i+k=6->IdsOk acc i->acc.length<=i->∃l,fg ((i:Int),x,acc)=some l/\IdsOk l 6/\l.length<=6
 | 0,i,acc,hi,ha,hl=>⟨acc,by rw[fg,if_neg (by simp;omega)],⟨ha.1,fun y hy=>by have:=ha.2 y hy;omega⟩,by omega⟩
 | k+1,i,acc,hi,ha,hl=>by
  have hacc:IdsOk acc ((i+1:Nat):Int):=⟨ha.1,fun y hy=>by have:=ha.2 y hy;omega⟩
  rw[fg,if_pos (by simp;omega),if_pos (by simp)];simp only[oZ4,oZ3];rw[aD (by omega)];split
  . rw[if_pos (aR (by omega) (by simp;omega))];refine tm k (i+1) _ (by omega) ⟨?_,fun y hy=>?_⟩ (by simp;omega)
    . rw[List.pairwise_append];refine⟨ha.1,by simp,fun a h1 b h2=>?_⟩;have:=ha.2 a h1
      grind
    . rcases List.mem_append.1 hy with h | h
      . have:=ha.2 y h;omega
      grind
  . exact tm k (i+1) acc (by omega) hacc (by omega)
theorem NT(x:Nd):∃l,ed x=some l/\IdsOk l 6/\1<=l.length/\l.length<=6:=by
 obtain⟨l,h1,h2,h3⟩:=tm (x:=x) 6 0 [] (by omega) ⟨.nil,fun y hy=>by cases hy⟩ (by simp);have h1':fg (0,x,[])=some l:=h1;rw[ed,h1'];simp only[oZ4,oZ3];cases l with
 | nil=>
  rw[if_pos (by simp),if_pos (aR (by omega) (by simp))];exact⟨_,rfl,⟨by simp,fun y hy=>by simp at hy;omega⟩,by simp,by simp⟩
 | cons a l=>grind
def idsL(x:Nd):List Int:=(ed x).getD []
theorem ids_eq'(x:Nd):ed x=some (idsL x)/\IdsOk (idsL x) 6/\1<=(idsL x).length/\(idsL x).length<=6:=by
 obtain⟨l,h1,h2⟩:=NT x;unfold idsL
 grind
def InitP(k:Int)(x:Nd)(key:Prop)(v:ab):Prop:=
 v.Keys=[]/\v.Items=[]/\v.Rest=[]/\
 (k=1/\v.Kind=1/\v.Int_=0/\v.Str=[]/\v.ID=0\/
  k=2/\v.Kind=2/\v.Bool_=false/\v.Str=[]/\v.ID=0/\x.A % 7 - 3<=v.Int_/\v.Int_<=x.A % 7 - 3+x.B % 6\/
  k=3/\v.Kind=3/\v.Bool_=false/\v.Int_=0/\v.ID=0/\(v.Str.length:Int)<=x.A % 4\/
  k=4/\v.Kind=4/\v.Bool_=false/\v.Int_=0/\v.Str=[]/\v.ID∈idsL x\/
  7<=k/\v.Bool_=false/\v.Int_=0/\v.Str=[]/\v.ID=0/\(v.Kind=k/\(k=8->key)\/k=8/\v.Kind=7/\¬key))
def Init(ns:List Nd)(t:Int)(v:ab):Prop:=InitP (kd ns t) (ns.getD t.toNat dNd) (∃w,KeyT ns w) v
include hN h5 in
theorem Hu(h1:1<=ns.length){t code:Int}(ht:0<=t/\t < ns.length)(hc:U8 code):∃r,kN ((⟨ns⟩:aT),t,code)=some r/\(r.2=false->r.1=af)/\(r.2=true->Init ns t r.1):=by
 obtain⟨j,rfl⟩:∃j:Nat,t=(j:Int):=⟨t.toNat,by omega⟩
 have hj:j < ns.length:=by omega
 have hx:=hN _ (aB hj dNd);obtain⟨e,k1,k9⟩:=kd_eq hN h5 ht.1 ht.2;obtain⟨u,hu,hu2⟩:=Bq hN h5 (code:=0) ⟨by omega,by omega⟩ h1;obtain⟨c1,c2⟩:=hc;rw[kN,if_pos (au hj)];simp only[oZ4,oZ3,av];rw[e];simp only[oZ3];unfold Init;simp only[av];have hids:=ids_eq' (ns.getD j dNd);generalize kd ns (j:Int)=k at*
 generalize ns.getD j dNd=x at*;have ha:=hx.a;have hb:=hx.b;unfold U8 at ha hb;have hc9:k=1\/k=2\/k=3\/k=4\/k=5\/k=6\/k=7\/k=8\/k=9:=by omega
 rcases hc9 with rfl | rfl | rfl | rfl | rfl | rfl | rfl | rfl | rfl
 . exact⟨_,rfl,fun h=>(by cases h),fun _=>by unfold InitP;simp⟩
 . have el:=tl hx;have eh:=zY hx;have e1:addI .i64 (subI .i64 (x.A % 7 - 3+x.B % 6) (x.A % 7 - 3)) 1=x.B % 6+1:=by rw[cb (by omega) (by omega),cC (by omega) (by omega)];omega
   have e2:remI (wrp .i64 code) (x.B % 6+1)=code % (x.B % 6+1):=by rw[dm ⟨by omega,by omega⟩,bM c1 (by omega)]
   have r0:0<=code % (x.B % 6+1):=Int.emod_nonneg _ (by omega);have r1:code % (x.B % 6+1) < x.B % 6+1:=Int.emod_lt_of_pos _ (by omega);have e3:addI .i64 (x.A % 7 - 3) (code % (x.B % 6+1))=x.A % 7 - 3+code % (x.B % 6+1):=cC (by omega) (by omega)
   simp only[Int.reduceEq,decide_false,decide_true,Bool.false_eq_true,if_false,if_true,oZ3,cond_false,cond_true];rw[el];simp only[oZ4,oZ3];rw[eh];simp only[oZ3];rw[e1,if_pos (by simp;omega),e2,e3];exact⟨_,rfl,fun h=>(by cases h),fun _=>by unfold InitP;simp;omega⟩
 . simp only[Int.reduceEq,decide_false,decide_true,Bool.false_eq_true,if_false,if_true,oZ3,cond_false,cond_true];rw[bM ha.1 (by omega),bM c1 (by omega)];by_cases g:0 < x.A % 4
   . by_cases g2:code % 2=1
     . rw[if_pos (by simp[g,g2])];exact⟨_,rfl,fun h=>(by cases h),fun _=>by unfold InitP;simp;omega⟩
     . rw[if_neg (by simp[g2])];exact⟨_,rfl,fun h=>(by cases h),fun _=>by unfold InitP;simp;omega⟩
   . rw[if_neg (by simp[g])];exact⟨_,rfl,fun h=>(by cases h),fun _=>by unfold InitP;simp;omega⟩
 . obtain⟨i1,i2,i3,i4⟩:=hids;simp only[Int.reduceEq,decide_false,decide_true,Bool.false_eq_true,if_false,if_true,oZ3,cond_false,cond_true];rw[i1];simp only[oZ4,oZ3];have r0:0<=code % ((idsL x).length:Int):=Int.emod_nonneg _ (by omega)
   have r1:code % ((idsL x).length:Int) < ((idsL x).length:Int):=Int.emod_lt_of_pos _ (by omega);rw[if_pos (nz (by omega)),dm ⟨by omega,by omega⟩,bM c1 (by omega)];obtain⟨q,hq⟩:∃q:Nat,code % ((idsL x).length:Int)=(q:Int):=⟨(code % ((idsL x).length:Int)).toNat,by omega⟩
   rw[hq,if_pos (au (by omega)),av];exact⟨_,rfl,fun h=>(by cases h),fun _=>by unfold InitP;simp;rw[<-List.getD_eq_getElem?_getD];exact aB (by omega) 0⟩
 . exact⟨_,rfl,fun _=>rfl,fun h=>by cases h⟩
 . exact⟨_,rfl,fun _=>rfl,fun h=>by cases h⟩
 . exact⟨_,rfl,fun h=>(by cases h),fun _=>by unfold InitP;simp⟩
 . simp only[Int.reduceEq,decide_false,decide_true,Bool.false_eq_true,if_false,if_true,oZ3,cond_false,cond_true];rw[hu];rcases hu2 with⟨rfl,a⟩ | a
   . exact⟨_,rfl,fun h=>(by cases h),fun _=>by unfold InitP;simp;exact fun w hw=>a w hw⟩
   . have hge:¬u < 0:=by have:=a.1;omega
     simp only[oZ4,oZ3];rw[if_neg (by simp[hge])];exact⟨_,rfl,fun h=>(by cases h),fun _=>by unfold InitP;simp;exact⟨u,a⟩⟩
 . exact⟨_,rfl,fun h=>(by cases h),fun _=>by unfold InitP;simp⟩
end
section
variable {ns:List Nd} (hN:∀x,x∈ns->NOk x) (h5:ns.length<=5)
structure MemP (ns:List Nd) (i:Int) (record:Bool) (m:aj):Prop where
 id:1<=m.ID/\m.ID<=12
 name:m.Name=[UInt8.ofNat 109,UInt8.ofNat (97+m.ID.toNat)]
 tgt:Tgt ns i m.Type_
 crit:m.Critical=true->m.HasDefault=false
 un:record=false->m.Critical=false/\m.HasDefault=false
 nod:m.HasDefault=false->m.Default=af
 dfl:m.HasDefault=true->Init ns m.Type_ m.Default
include hN h5 in
theorem yQ (h1 : 1 <= ns.length) {i : Int} (hi : 0 <= i /\ i < ns.length) {x : Nd} (hx : NOk x) (record : Bool) {id : Int} (hid : 1 <= id /\ id <= 12) {acc : List aj} (ha : acc.length <= 12):
 ∀(k j:Nat),j+k=x.Parts.length->∃l,f7 (i,record,id,(j:Int),ns,x,acc)=some (i,record,id,ns,x,acc++l)/\l.length<=1/\∀m,m∈l->m.ID=id/\MemP ns i record m
 | 0,j,hj=>⟨[],by rw[f7,if_neg (by simp;omega)];simp,by simp,fun m hm=>by cases hm⟩
 | k+1,j,hj=>by
  have hlt:j < x.Parts.length:=by omega
  have hr:=aQ hx.l;obtain⟨q1,q2,q3⟩:=hx.p _ (aB hlt dPt);obtain⟨u,hu,hu2⟩:=IE hN h5 h1 hi q2;rw[f7,if_pos (by simp;omega),if_pos (au hlt)];simp only[oZ4,oZ3,av];have hu':kU ((⟨ns⟩:aT),i,(x.Parts.getD j bV).Type_)=some u:=hu;rw[hu'];simp only[oZ3];generalize hp:x.Parts.getD j bV=p
  have q1':U8 p.ID:=by rw[<-hp];exact q1
  have q3':U8 p.Flag:=by rw[<-hp];exact q3
  obtain⟨f1,f2⟩:=q3';have e1:remI p.Flag 4=p.Flag % 4:=bM f1 (by omega);have e2:quoI .u8 p.Flag 4=p.Flag / 4:=NQ f1 f2;have rec':=yQ h1 hi hx record hid ha k (j+1) (by omega);by_cases hskip:(bif (!(decide (addI .i64 1 (wrp .i64 (remI p.ID 12))=id)))then true else decide (u < 0))=true
  . rw[if_pos hskip,aD (by omega)];exact rec'
  . rw[if_neg hskip];have hu0:Tgt ns i u:=by grind
    have hrune:=tk (k:=id) ⟨by omega,by omega⟩;rw[hrune];have hname:([109]++[UInt8.ofNat (97+id.toNat)]:List UInt8)=[UInt8.ofNat 109,UInt8.ofNat (97+id.toNat)]:=rfl;rw[if_pos (bn (by simp)),hname,e1,e2];obtain⟨r,r1,r2,r3⟩:=Hu hN h5 h1 ⟨hu0.1,hu0.2.1⟩ (code:=p.Flag / 4) ⟨by omega,by omega⟩
    have hroom:∀m:aj,room 160 (acc++[m]).length=true:=fun m=>aR (by omega) (by simp;omega)
    have done:∀m:aj,m.ID=id->MemP ns i record m->∃l,(some (i,record,id,ns,x,acc++[m]):Option (Int×Bool×Int×List Nd×Nd×List aj))=some (i,record,id,ns,x,acc++l)/\l.length<=1/\∀m,m∈l->m.ID=id/\MemP ns i record m:=fun m a b=>⟨[m],rfl,by simp,fun y hy=>by grind⟩
    cases record with
    | false=>
     simp only[cond_false,Bool.false_eq_true,if_false];rw[if_pos (hroom _)];exact done _ rfl ⟨hid,rfl,hu0,fun h=>(by cases h),fun _=>⟨rfl,rfl⟩,fun _=>rfl,fun h=>by cases h⟩
    | true=>
     simp only[cond_true];by_cases g1:p.Flag % 4=1
     . rw[if_pos (by simpa using g1),if_neg (by simp;omega),if_pos (hroom _)];exact done _ rfl ⟨hid,rfl,hu0,fun _=>rfl,fun h=>(by cases h),fun _=>rfl,fun h=>by cases h⟩
     . rw[if_neg (by simpa using g1)];by_cases g2:2<=p.Flag % 4
       . rw[if_pos (by simpa using g2),r1];simp only[oZ3,ab.aA];rw[if_pos (hroom _)];exact done _ rfl ⟨hid,rfl,hu0,fun h=>(by cases h),fun h=>(by cases h),r2,r3⟩
       . rw[if_neg (by simpa using g2),if_pos (hroom _)];exact done _ rfl ⟨hid,rfl,hu0,fun h=>(by cases h),fun h=>(by cases h),fun _=>rfl,fun h=>by cases h⟩
def MemsP(ns:List Nd)(i:Int)(record:Bool)(l:List aj):Prop:=l.Pairwise (fun a b=>a.ID < b.ID)/\(∀m,m∈l->MemP ns i record m)/\l.length<=12
include hN h5 in
theorem yR (h1 : 1 <= ns.length) {i : Int} (hi : 0 <= i /\ i < ns.length) {x : Nd} (hx : NOk x) (record : Bool): ∀ (k id : Nat) (acc : List aj), id + k = 13 -> 1 <= id ->
 acc.Pairwise (fun a b=>a.ID < b.ID)->(∀m,m∈acc->MemP ns i record m/\m.ID < id)->acc.length < id->∃l,gf (i,record,(id:Int),ns,x,acc)=some l/\MemsP ns i record l
 | 0,id,acc,hk,h0,ha,hb,hl=>⟨acc,by rw[gf,if_neg (by simp;omega)],ha,fun m hm=>(hb m hm).1,by omega⟩
 | k+1,id,acc,hk,h0,ha,hb,hl=>by
  rw[gf,if_pos (by simp;omega)];obtain⟨l,l1,l2,l3⟩:=yQ hN h5 h1 hi hx record (id:=(id:Int)) ⟨by omega,by omega⟩ (acc:=acc) (by omega) x.Parts.length 0 (by omega);have l1':f7 (i,record,(id:Int),0,ns,x,acc)=_:=l1;rw[l1'];simp only[oZ4,oZ3];rw[aD (by omega)]
  refine yR h1 hi hx record k (id+1) _ (by omega) (by omega) ?_ (fun m hm=>?_) (by simp;omega)
  . rw[List.pairwise_append];refine⟨ha,?_,fun a h2 b h3=>?_⟩
    . match l,l2 with
      | [],_=>exact .nil
      | [a],_=>simp
      | a::b::c,h=>simp at h
    grind
  grind
include hN h5 in
theorem yS(h1:1<=ns.length){i:Int}(hi:0<=i/\i < ns.length)(record:Bool):∃l,ia ((⟨ns⟩:aT),i,record)=some l/\MemsP ns i record l:=by
 obtain⟨j,rfl⟩:∃j:Nat,i=(j:Int):=⟨i.toNat,by omega⟩
 have hj:j < ns.length:=by omega
 have hx:=hN _ (aB hj dNd);obtain⟨l,l1,l2⟩:=yR hN h5 h1 hi hx record 12 1 [] (by omega) (by omega) .nil (fun m hm=>by cases hm) (by simp);refine⟨l,?_,l2⟩;have l1':gf ((j:Int),record,1,ns,ns.getD j dNd,[])=some l:=l1;rw[ia,if_pos (au hj),av]
 grind
def symsL(l:List Int):List aK:=l.map fun j=>⟨j,[UInt8.ofNat 115,UInt8.ofNat (97+j.toNat)]⟩
theorem zZ {l : List Int} (hl : l.length <= 6) (hr : ∀ x, x ∈ l -> 1 <= x /\ x <= 6) (n i : Int) (b : List Nd) (b1 : Int) (b2 : List UInt8) (b3 b4 b5 b6 b7 : Int) (b8 : Bool) (b9 : List ae): ∀ (k j : Nat) (acc : List aK), j + k = l.length -> acc.length <= j ->
 fc (n,i,l,(j:Int),b,b1,b2,b3,b4,b5,b6,b7,b8,b9,acc)=some (n,i,b,b1,b2,b3,b4,b5,b6,b7,b8,b9,acc++symsL (l.drop j))
 | 0,j,acc,hj,ha=>by
  rw[fc,if_neg (by simp;omega),List.drop_eq_nil_of_le (by omega:l.length<=j)];simp[symsL]
 | k+1,j,acc,hj,ha=>by
  have hlt:j < l.length:=by omega
  have hx:=hr _ (aB hlt 0);rw[fc,if_pos (by simp;omega),if_pos (au hlt),if_pos (au hlt)];simp only[oZ4,oZ3,av];rw[tk ⟨by omega,by omega⟩,if_pos (bn (by simp)),if_pos (aR (by omega) (by simp;omega)),aD (by omega),zZ hl hr n i b b1 b2 b3 b4 b5 b6 b7 b8 b9 k (j+1) _ (by omega) (by simp;omega),bm hlt 0];simp[symsL]
def TyP(ns:List Nd)(i:Int)(t:ae):Prop:=
 let x:=ns.getD i.toNat dNd
 let n:=(ns.length:Int)
 let nameL:=[UInt8.ofNat (65+i.toNat)]
 (kd ns i=1/\t=⟨1,[],0,0,0,[],[],0,0,false⟩)\/
 (kd ns i=2/\t=⟨2,[],x.A % 7 - 3,x.A % 7 - 3+x.B % 6,0,[],[],0,0,false⟩)\/
 (kd ns i=3/\t=⟨3,[],0,0,x.A % 4,[],[],0,0,false⟩)\/
 (kd ns i=4/\∃o,t=⟨4,nameL,0,0,0,symsL (idsL x),[],0,0,o⟩)\/
 (kd ns i=5/\∃l,MemsP ns i true l/\t=⟨5,nameL,0,0,0,[],l,0,0,false⟩)\/
 (kd ns i=6/\t=⟨5,nameL,0,0,0,[],[],0,0,false⟩)\/
 (kd ns i=6/\∃l o,MemsP ns i false l/\0 < l.length/\t=⟨6,nameL,0,0,0,[],l,0,0,o⟩)\/
 (kd ns i=7/\t=⟨7,[],0,0,x.A % 4,[],[],0,x.C % n,false⟩)\/
 (kd ns i=8/\(∀w,¬KeyT ns w)/\t=⟨7,[],0,0,x.A % 4,[],[],0,x.C % n,false⟩)\/
 (kd ns i=8/\∃k,KeyT ns k/\t=⟨8,[],0,0,x.A % 4,[],[],k,x.C % n,false⟩)\/
 (kd ns i=9/\t=⟨9,[],0,0,0,[],[],0,x.C % n,false⟩)
include hN h5 in
theorem of_l0 (h1 : 1 <= ns.length): ∀ (k i : Nat) (acc : List ae), i + k = ns.length -> acc.length = i -> (∀ j, j < i -> TyP ns (j : Int) (acc.getD j ap)) ->
 ∃l,bf ((ns.length:Int),(i:Int),ns,acc)=some l/\l.length=ns.length/\∀j,j < ns.length->TyP ns (j:Int) (l.getD j ap)
 | 0,i,acc,hi,hl,ha=>⟨acc,by rw[bf,if_neg (by simp;omega)],by omega,fun j hj=>ha j (by omega)⟩
 | k+1,i,acc,hi,hl,ha=>by
  have hlt:i < ns.length:=by omega
  have hx:=hN _ (aB hlt dNd);obtain⟨e,k1,k9⟩:=kd_eq hN h5 (i:=(i:Int)) (by omega) (by omega);have next:∀t:ae,TyP ns (i:Int) t->∃l,(if room 120 (acc++[t]).length=true then bf ((ns.length:Int),addI .i64 (i:Int) 1,ns,acc++[t])else none)=some l/\l.length=ns.length/\∀j,j < ns.length->TyP ns (j:Int) (l.getD j ap):=by
   intro t ht;rw[if_pos (aR (by omega) (by simp;omega)),aD (by omega)];refine of_l0 h1 k (i+1) _ (by omega) (by simp;omega) fun j hj=>?_
   grind
  rw[bf,if_pos (by simp;omega),if_pos (au hlt)];simp only[oZ4,oZ3,av];rw[e];simp only[oZ3,cw];have hrune:=NR (k:=(i:Int)) ⟨by omega,by omega⟩;have hT:∀t,TyP ns (i:Int) t->TyP ns (i:Int) t:=fun t h=>h
  have⟨ga,gb,gc⟩:U8 (ns.getD i dNd).A/\U8 (ns.getD i dNd).B/\U8 (ns.getD i dNd).C:=⟨hx.a,hx.b,hx.c⟩
  have g0:(!(decide ((ns.length:Int)=0)))=true:=nz (by omega);have gA:wrp .i64 (remI (ns.getD i dNd).A 4)=(ns.getD i dNd).A % 4:=by
   unfold U8 at ga;rw[bM ga.1 (by omega),dm ⟨by omega,by omega⟩]
  have gC:remI (wrp .i64 (ns.getD i dNd).C) (ns.length:Int)=(ns.getD i dNd).C % (ns.length:Int):=by
   unfold U8 at gc;rw[dm ⟨by omega,by omega⟩,bM gc.1 (by omega)]
  have hc9:kd ns (i:Int)=1\/kd ns (i:Int)=2\/kd ns (i:Int)=3\/kd ns (i:Int)=4\/kd ns (i:Int)=5\/kd ns (i:Int)=6\/kd ns (i:Int)=7\/kd ns (i:Int)=8\/kd ns (i:Int)=9:=by omega
  rcases hc9 with hk | hk | hk | hk | hk | hk | hk | hk | hk <;> rw[hk] <;>
   simp only[Int.reduceEq,decide_false,decide_true,Bool.false_eq_true,if_false,if_true,oZ3,cond_false,cond_true]
  . exact next _ (by unfold TyP;simp[hk])
  . have el:=tl hx;have eh:=zY hx;have el':fk (ns.getD i aw)=_:=el;have eh':il (ns.getD i aw)=_:=eh;rw[el'];simp only[oZ3];rw[eh'];simp only[oZ3];exact next _ (by unfold TyP;simp only[av];exact .inr (.inl ⟨hk,by first | trivial | rfl⟩))
  . have gA':wrp .i64 (remI (ns.getD i aw).A 4)=_:=gA;rw[gA'];exact next _ (by unfold TyP;simp only[av];exact .inr (.inr (.inl ⟨hk,by first | trivial | rfl⟩)))
  . obtain⟨i1,i2,i3,i4⟩:=ids_eq' (ns.getD i dNd);have i1':ed (ns.getD i aw)=_:=i1;rw[i1'];simp only[oZ3];have hs:=zZ (l:=idsL (ns.getD i dNd)) i4 i2.2 (ns.length:Int) (i:Int) ns 4 (dO (wrp .i32 (addI .i64 65 (i:Int)))) 0 0 0 0 0 (decide (remI (ns.getD i dNd).B 2=1)) acc (idsL (ns.getD i dNd)).length 0 [] (by omega) (by simp)
    have hs':fc ((ns.length:Int),(i:Int),idsL (ns.getD i dNd),0,ns,4,dO (wrp .i32 (addI .i64 65 (i:Int))),0,0,0,0,0,decide (remI (ns.getD i aw).B 2=1),acc,[])=_:=hs;rw[hs'];simp only[oZ3,List.drop_zero,List.nil_append];rw[hrune];exact next _ (by unfold TyP;simp only[av];exact .inr (.inr (.inr (.inl ⟨hk,_,rfl⟩))))
  . obtain⟨l,l1,l2⟩:=yS hN h5 h1 (i:=(i:Int)) ⟨by omega,by omega⟩ true;rw[l1];simp only[oZ3];rw[hrune];exact next _ (by unfold TyP;simp only[av];exact .inr (.inr (.inr (.inr (.inl ⟨hk,l,l2,rfl⟩)))))
  . obtain⟨l,l1,l2⟩:=yS hN h5 h1 (i:=(i:Int)) ⟨by omega,by omega⟩ false;rw[l1];simp only[oZ3];rw[hrune];by_cases h0:l.length=0
    . rw[if_pos (by simp[h0])];exact next _ (by unfold TyP;simp only[av];exact .inr (.inr (.inr (.inr (.inr (.inl ⟨hk,by first | trivial | rfl⟩))))))
    . rw[if_neg (by simp;intro h;rw[h]at h0;simp at h0)];exact next _ (by unfold TyP;simp only[av];exact .inr (.inr (.inr (.inr (.inr (.inr (.inl ⟨hk,l,_,l2,by omega,rfl⟩)))))))
  . have gA':wrp .i64 (remI (ns.getD i aw).A 4)=_:=gA;have gC':remI (wrp .i64 (ns.getD i aw).C) (ns.length:Int)=_:=gC;rw[if_pos g0,gA',gC'];exact next _ (by unfold TyP;simp only[av];exact .inr (.inr (.inr (.inr (.inr (.inr (.inr (.inl ⟨hk,by first | trivial | rfl⟩))))))))
  . have gA':wrp .i64 (remI (ns.getD i aw).A 4)=_:=gA;have gC':remI (wrp .i64 (ns.getD i aw).C) (ns.length:Int)=_:=gC;obtain⟨u,u1,u2⟩:=Bq hN h5 gb h1;have u1':iq ((⟨ns⟩:aT),(ns.getD i aw).B)=some u:=u1;rw[u1'];simp only[oZ3];rw[if_pos g0,gA',gC'];rcases u2 with⟨rfl,a⟩ | a
    . rw[if_pos (by simp)];exact next _ (by unfold TyP;simp only[av];exact .inr (.inr (.inr (.inr (.inr (.inr (.inr (.inr (.inl ⟨hk,a,by first | trivial | rfl⟩)))))))))
    . rw[if_neg (by have:=a.1;simp;omega)];exact next _ (by unfold TyP;simp only[av];exact .inr (.inr (.inr (.inr (.inr (.inr (.inr (.inr (.inr (.inl ⟨hk,u,a,rfl⟩))))))))))
  . have gC':remI (wrp .i64 (ns.getD i aw).C) (ns.length:Int)=_:=gC;rw[if_pos g0,gC'];exact next _ (by unfold TyP;simp only[av];exact .inr (.inr (.inr (.inr (.inr (.inr (.inr (.inr (.inr (.inr ⟨hk,by first | trivial | rfl⟩))))))))))
end
def DOk(d:aT):Prop:=d.Nodes.length<=reachBytes/\∀x,x∈d.Nodes->NOk x
theorem of_eq{d:aT}(hd:DOk d):gw d=some (⟨[]⟩,false)\/∃l,gw d=some (⟨l⟩,true)/\1<=d.Nodes.length/\d.Nodes.length<=5/\l.length=d.Nodes.length/\∀j,j < d.Nodes.length->TyP d.Nodes (j:Int) (l.getD j ap):=by
 rw[gw];simp only[oZ4,oZ3];by_cases h:1<=d.Nodes.length/\d.Nodes.length<=5
 . obtain⟨l,l1,l2,l3⟩:=of_l0 hd.2 h.2 h.1 d.Nodes.length 0 [] (by omega) rfl (fun j hj=>by omega)
   grind
 grind
structure DrOk (ts:List ae):Prop where
 n1:1<=ts.length
 n5:ts.length<=5
 T:∀t,t∈ts->OkT t
 V:VOk ts
 D:∀t,t∈ts->NP ts t.Members
 R:∀i:Nat,i < ts.length->∀m,m∈(ts.getD i ap).Members->0<=m.Type_/\m.Type_ < ts.length/\(7<=(ts.getD m.Type_.toNat ap).Kind\/m.Type_ < i)
 L:∀t,t∈ts->t.Kind=2->-3<=t.Low/\t.High<=8
 M:∀t,t∈ts->t.Max<=3
 I:∀t,t∈ts->(∀m,m∈t.Members->m.ID<=12)/\(∀y,y∈t.Symbols->y.ID<=6)/\t.Members.length<=12
 W:∀t,t∈ts->∀m,m∈t.Members->m.HasDefault=true->wt m.Default<=13
theorem fL{v:ab}(hk:v.Keys=[])(hi:v.Items=[])(hr:v.Rest=[])(hs:v.Str.length<=1000)(n1:I64 v.Kind)(n2:I64 v.Int_)(n3:I64 v.ID):OkV v:=by
 refine .mk v (by unfold reachBytes;omega) (by rw[hk];simp) (by rw[hi];simp) (by rw[hr];simp) (fun x hx=>?_) (fun x hx=>?_) (fun x hx=>?_) n1 n2 n3 (fun x hx=>?_)
 . grind
 . grind
 . grind
 grind
theorem okV_d :OkV af:=fL rfl rfl rfl (by simp[af]) (by unfold I64 af;simp) (by unfold I64 af;simp) (by unfold I64 af;simp)
theorem z6{v:ab}(hk:v.Keys=[])(hi:v.Items=[])(hr:v.Rest=[]):wt v=10+v.Str.length:=by
 rw[wt_eq,hk,hi,hr,ck];simp
section
variable {ns:List Nd} (hN:∀x,x∈ns->NOk x) (h5:ns.length<=5) (h1:1<=ns.length) {l:List ae} (hl:l.length=ns.length) (hT:∀j,j < ns.length->TyP ns (j:Int) (l.getD j ap))
include hN h5 in
theorem z7{t:Int}(ht:0<=t/\t < ns.length){v:ab}(h:Init ns t v):OkV v/\wt v<=13:=by
 obtain⟨a,b,c,h⟩:=h;obtain⟨j,rfl⟩:∃j:Nat,t=(j:Int):=⟨t.toNat,by omega⟩
 have hx:=hN _ (aB (by omega:j < ns.length) dNd);obtain⟨_,k1,k9⟩:=kd_eq hN h5 ht.1 ht.2;rw[av]at h;have ha:=hx.a;have hb:=hx.b;have hids:=(ids_eq' (ns.getD j dNd)).2.1.2;unfold U8 at ha hb;rw[z6 a b c];have hs:v.Str.length<=3:=by grind
 refine⟨fL a b c (by omega) ?_ ?_ ?_,by omega⟩
 . unfold I64;rcases h with h | h | h | h | h <;> omega
 . unfold I64;rcases h with⟨_,_,e,_⟩ | ⟨_,_,_,_,_,e⟩ | ⟨_,_,_,e,_⟩ | ⟨_,_,_,e,_⟩ | ⟨_,_,e,_⟩ <;> omega
 . unfold I64
   grind
include hN h5 in
theorem w5{i:Int}{r:Bool}{Ms:List aj}(h:MemsP ns i r Ms):fT (!r) Ms\/(r=false/\Ms=[]):=by
 obtain⟨a,b,c⟩:=h;by_cases h0:r=false/\Ms=[]
 . grind
 left;refine⟨fun m hm=>?_,?_,⟨a,fun m hm=>?_⟩,fun m hm=>?_,?_,by omega⟩
 . have q:=b m hm;unfold badM;have hz:m.HasDefault=false->fR m.Default=true:=fun h=>by
    rw[q.nod h];have h3:Says (du (af,af)) af af:=oL okV_d af;obtain⟨w,w1,w2⟩:=h3;unfold fR
    grind
   have hc:=q.crit;have hu:=q.un
   grind
 . grind
 . have:=(b m hm).id;exact⟨by omega,by omega⟩
 . have q:=b m hm;have:=q.id;rw[q.name];exact Bo (by omega) (by omega)
 . unfold List.Nodup;rw[List.pairwise_map];refine a.imp_of_mem fun {x y} hx hy hlt=>?_
   have qx:=b x hx;have qy:=b y hy;have ix:=qx.id;have iy:=qy.id;rw[qx.name,qy.name];intro e;simp only[List.cons.injEq,and_true,true_and]at e;have e2:=congrArg UInt8.toNat e;rw[cY (by omega),cY (by omega)]at e2;omega
theorem w6{l:List Int}(h:IdsOk l 6)(h1:1<=l.length)(h6:l.length<=6):m7 (symsL l)/\(∀y,y∈symsL l->y.ID<=6):=by
 unfold symsL;refine⟨⟨by simp;omega,⟨?_,fun y hy=>?_⟩,fun y hy=>?_,?_,by simp;omega⟩,fun y hy=>?_⟩
 . rw[List.pairwise_map];exact h.1
 . obtain⟨x,hx,rfl⟩:=List.mem_map.1 hy;have:=h.2 x hx;exact⟨this.1,by show x<=1000;omega⟩
 . obtain⟨x,hx,rfl⟩:=List.mem_map.1 hy;have:=h.2 x hx;exact Bo (by omega) (by omega)
 . unfold List.Nodup;rw[List.pairwise_map,List.pairwise_map];refine h.1.imp_of_mem fun {x y} hx hy hlt=>?_
   have ix:=h.2 x hx;have iy:=h.2 y hy;intro e;simp only[List.cons.injEq,and_true,true_and]at e;have e2:=congrArg UInt8.toNat e;rw[cY (by omega),cY (by omega)]at e2;omega
 . obtain⟨x,hx,rfl⟩:=List.mem_map.1 hy;exact(h.2 x hx).2
theorem z8{i:Int}{t:ae}(h:TyP ns i t):(kd ns i<=5\/kd ns i=7\/kd ns i=9->t.Kind=kd ns i)/\(kd ns i=6->t.Kind=5\/t.Kind=6)/\(kd ns i=8->(t.Kind=8/\∃w,KeyT ns w)\/(t.Kind=7/\¬∃w,KeyT ns w)):=by
 unfold TyP at h;rcases h with⟨k,rfl⟩ | ⟨k,rfl⟩ | ⟨k,rfl⟩ | ⟨k,_,rfl⟩ | ⟨k,_,_,rfl⟩ | ⟨k,rfl⟩ | ⟨k,_,_,_,_,rfl⟩ | ⟨k,rfl⟩ | ⟨k,a,rfl⟩ | ⟨k,w,a,rfl⟩ | ⟨k,rfl⟩ <;> simp[k]
 . omega
 grind
theorem rP{i:Int}{t:ae}(h:TyP ns i t):t.Members=[]\/∃r,MemsP ns i r t.Members:=by
 unfold TyP at h;rcases h with⟨k,rfl⟩ | ⟨k,rfl⟩ | ⟨k,rfl⟩ | ⟨k,_,rfl⟩ | ⟨k,_,a,rfl⟩ | ⟨k,rfl⟩ | ⟨k,_,_,a,_,rfl⟩ | ⟨k,rfl⟩ | ⟨k,a,rfl⟩ | ⟨k,w,a,rfl⟩ | ⟨k,rfl⟩
 . grind
 . grind
 . grind
 . grind
 . grind
 . grind
 . grind
 . grind
 . grind
 . grind
 grind
include hN h5 h1 hl hT in
theorem KF :DrOk l:=by
 have lift:∀{P:ae->Prop},(∀j,j < ns.length->P (l.getD j ap))->∀t,t∈l->P t:=fun hp t ht=>by
  obtain⟨i,hi,rfl⟩:=List.getElem_of_mem ht
  grind
 have hx:∀j,j < ns.length->NOk (ns.getD j dNd):=fun j hj=>hN _ (aB hj dNd)
 have mem:∀j,j < ns.length->∀m,m∈(l.getD j ap).Members->∃r,MemP ns (j:Int) r m:=fun j hj m hm=>by
  rcases rP (hT j hj)with h | ⟨r,_,h,_⟩
  . grind
  grind
 have okT:∀t,t∈l->OkT t:=lift fun j hj=>by
  have hm:=mem j hj;have ht:=hT j hj;have hlm:(l.getD j ap).Members.length<=12:=by
   rcases rP ht with h | ⟨r,_,_,h⟩
   . rw[h];simp
   . exact h
  have hls:(l.getD j ap).Symbols.length<=6:=by
   have hi:=(ids_eq' (ns.getD j dNd)).2.2.2;unfold TyP at ht;rcases ht with⟨k,e⟩ | ⟨k,e⟩ | ⟨k,e⟩ | ⟨k,_,e⟩ | ⟨k,_,_,e⟩ | ⟨k,e⟩ | ⟨k,_,_,_,_,e⟩ | ⟨k,e⟩ | ⟨k,_,e⟩ | ⟨k,_,_,e⟩ | ⟨k,e⟩ <;> rw[e]
   case inr.inr.inr.inl=>simp only[av,symsL,List.length_map];exact hi
   all_goals simp
  refine⟨by unfold reachBytes;omega,by unfold reachBytes;omega,fun m hm'=>?_⟩;obtain⟨r,q⟩:=hm m hm';by_cases hd:m.HasDefault=true
  . exact(z7 hN h5 ⟨q.tgt.1,q.tgt.2.1⟩ (q.dfl hd)).1
  . rw[q.nod (by simpa using hd)];exact okV_d
 have kind7:∀u:Int,0<=u->u < ns.length->7<=kd ns u->7<=(l.getD u.toNat ap).Kind:=fun u h0 hu h7=>by
  obtain⟨j,rfl⟩:∃j:Nat,u=(j:Int):=⟨u.toNat,by omega⟩
  rw[av];obtain⟨_,_,k9⟩:=kd_eq hN h5 h0 hu;obtain⟨a,b,c⟩:=z8 (hT j (by omega));omega
 have vok:VOk l:=by
  refine⟨by omega,lift fun j hj=>?_,fun j hj=>?_,lift fun j hj=>?_,lift fun j hj h8=>?_⟩
  . have ht:=hT j hj;have hid:=ids_eq' (ns.getD j dNd);have ha:=(hx j hj).a;have hb:=(hx j hj).b;have hnm:nm [UInt8.ofNat (65+j)]=true:=NS (by omega);unfold U8 at ha hb;unfold TyP at ht;simp only[av]at ht;generalize [UInt8.ofNat (65+j)]=nmL at hnm ht;unfold FormP
    rcases ht with⟨k,e⟩ | ⟨k,e⟩ | ⟨k,e⟩ | ⟨k,_,e⟩ | ⟨k,Ms,a,e⟩ | ⟨k,e⟩ | ⟨k,Ms,_,a,a0,e⟩ | ⟨k,e⟩ | ⟨k,_,e⟩ | ⟨k,_,_,e⟩ | ⟨k,e⟩ <;> rw[e]
    . simp
    . simp;omega
    . simp;omega
    . simp;exact⟨hnm,(w6 hid.2.1 hid.2.2.1 hid.2.2.2).1⟩
    . simp;refine⟨hnm,?_⟩;rcases w5 hN h5 a with h | ⟨h,_⟩
      . exact h
      . cases h
    . simp;exact⟨hnm,fun m hm=>(by cases hm),.inl rfl,⟨.nil,fun m hm=>by cases hm⟩,fun m hm=>(by cases hm),by simp,by simp⟩
    . simp;refine⟨hnm,?_⟩;rcases w5 hN h5 a with h | ⟨_,h⟩
      . exact h
      grind
    . simp;omega
    . simp;omega
    . simp;omega
    . simp
  ·
   have nameOf:∀k,k < ns.length->(l.getD k ap).Name=[]\/(l.getD k ap).Name=[UInt8.ofNat (65+k)]:=fun k hk=>by
    have ht:=hT k hk;unfold TyP at ht;simp only[av]at ht;rcases ht with⟨k,e⟩ | ⟨k,e⟩ | ⟨k,e⟩ | ⟨k,_,e⟩ | ⟨k,Ms,a,e⟩ | ⟨k,e⟩ | ⟨k,Ms,_,a,a0,e⟩ | ⟨k,e⟩ | ⟨k,_,e⟩ | ⟨k,_,_,e⟩ | ⟨k,e⟩ <;> rw[e] <;> simp
   rcases nameOf j (by omega)with h | h
   . rw[h];simp
   . rw[h];simp only[Bool.and_eq_false_iff];right;apply Bool.eq_false_iff.2;intro hc;obtain⟨k,hk,he⟩:=(ft (by simp;omega)).1 hc;have hg:(l.map (·.Name)).getD k []=(l.getD k ap).Name:=bQ (·.Name) l k ap [] (by omega);rw[hg]at he;rcases nameOf k (by omega)with h' | h'
     . grind
     . rw[h']at he;simp only[List.cons.injEq,and_true]at he;have e2:=congrArg UInt8.toNat he;rw[cY (by omega),cY (by omega)]at e2;omega
  . intro u hu;have hm:=mem j hj;have hc:=(hx j hj).c;unfold U8 at hc;have c0:0<=(ns.getD j dNd).C % (ns.length:Int):=Int.emod_nonneg _ (by omega);have c1:(ns.getD j dNd).C % (ns.length:Int) < ns.length:=Int.emod_lt_of_pos _ (by omega);have ht:=hT j hj;unfold TyP at ht;simp only[av]at ht;generalize (ns.getD j dNd).C % (ns.length:Int)=cc at c0 c1 ht;unfold usesL at hu
    simp only[List.mem_append,List.mem_map]at hu;rcases hu with(⟨m,h,rfl⟩ | h) | h
    . obtain⟨r,q⟩:=hm m h;have:=q.tgt.1;have:=q.tgt.2.1;omega
    . split at h
      . rename_i h8;have:u=(l.getD j ap).Key:=by simpa using h
        rw[this];rcases ht with⟨k,e⟩ | ⟨k,e⟩ | ⟨k,e⟩ | ⟨k,_,e⟩ | ⟨k,Ms,a,e⟩ | ⟨k,e⟩ | ⟨k,Ms,_,a,a0,e⟩ | ⟨k,e⟩ | ⟨k,_,e⟩ | ⟨k,w,a,e⟩ | ⟨k,e⟩ <;> rw[e]at h8 ⊢ <;> simp at h8 ⊢
        obtain⟨w0,w1,_⟩:=a;omega
      . cases h
    . split at h
      . rename_i h7;have:u=(l.getD j ap).Elem:=by simpa using h
        rw[this];rcases ht with⟨k,e⟩ | ⟨k,e⟩ | ⟨k,e⟩ | ⟨k,_,e⟩ | ⟨k,Ms,a,e⟩ | ⟨k,e⟩ | ⟨k,Ms,_,a,a0,e⟩ | ⟨k,e⟩ | ⟨k,_,e⟩ | ⟨k,w,a,e⟩ | ⟨k,e⟩ <;> rw[e]at h7 ⊢ <;> simp at h7 ⊢ <;> omega
      . cases h
  . have ht:=hT j hj;unfold TyP at ht;simp only[av]at ht;rcases ht with⟨k,e⟩ | ⟨k,e⟩ | ⟨k,e⟩ | ⟨k,_,e⟩ | ⟨k,Ms,a,e⟩ | ⟨k,e⟩ | ⟨k,Ms,_,a,a0,e⟩ | ⟨k,e⟩ | ⟨k,_,e⟩ | ⟨k,w,a,e⟩ | ⟨k,e⟩ <;> rw[e]at h8 ⊢ <;> simp at h8 ⊢
    obtain⟨w0,w1,w2,w3⟩:=a;obtain⟨q,rfl⟩:∃q:Nat,w=(q:Int):=⟨w.toNat,by omega⟩
    obtain⟨a,_,_⟩:=z8 (hT q (by omega));have:=a (.inl (by omega));simp_all
 refine⟨by omega,by omega,okT,vok,lift fun j hj m hm hd=>?_,fun j hj m hm=>?_,lift fun j hj h2=>?_,lift fun j hj=>?_,lift fun j hj=>⟨fun m hm=>?_,fun y hy=>?_,?_⟩,lift fun j hj m hm hd=>?_⟩
 . obtain⟨r,q⟩:=mem j hj m hm;have hi:=q.dfl hd;obtain⟨u0,u1,_⟩:=q.tgt;generalize m.Default=v at hi;obtain⟨u,hu⟩:∃u:Nat,m.Type_=(u:Int):=⟨m.Type_.toNat,by omega⟩
   rw[hu]at hi u0 u1 ⊢;have ht:=hT u (by omega);obtain⟨a,b,c,hi⟩:=hi;rw[cn];simp only[av]at hi ⊢;unfold TyP at ht;simp only[av]at ht;have hlen:((l.length:Nat):Int)=ns.length:=by omega
   rw[hlen];generalize l.getD u ap=x at ht ⊢;rw[a,b,c];have vn:∀t,vfits l true t []:=fun t=>by rw[vfits];trivial
   have ka:cr []:=fun i hi=>by simp at hi
   have hxu:=hx u (by omega);generalize ns.getD u dNd=nd at ht hi hxu;rcases hi with⟨k,e1,e2,e3,e4⟩ | ⟨k,e1,e2,e3,e4,e5,e6⟩ | ⟨k,e1,e2,e3,e4,e5⟩ | ⟨k,e1,e2,e3,e4,e5⟩ | ⟨k,e1,e2,e3,e4,e5⟩
   . rw[k]at ht
     grind
   . rw[k]at ht
     grind
   . rw[k]at ht
     grind
   . rw[k]at ht;simp only[Int.reduceEq,false_and,true_and,or_false,false_or]at ht;obtain⟨o,rfl⟩:=ht;rw[e1,e2,e3,e4];simp;refine⟨by omega,⟨v.ID,[UInt8.ofNat 115,UInt8.ofNat (97+v.ID.toNat)]⟩,?_,rfl⟩;unfold symsL
     grind
   . rw[e1,e2,e3,e4];have k9:kd ns (u:Int)<=9:=(kd_eq hN h5 u0 u1).2.2;have hcc:kd ns (u:Int)=7\/kd ns (u:Int)=8\/kd ns (u:Int)=9:=by omega
     have ha:=hxu.a;unfold U8 at ha;rcases hcc with k' | k' | k'
     . rw[k']at ht e5
       grind
     . rw[k']at ht e5
       grind
     . rw[k']at ht e5
       grind
 . obtain⟨r,q⟩:=mem j (by omega) m hm;obtain⟨u0,u1,u2⟩:=q.tgt
   grind
 . have ht:=hT j hj;have ha:=(hx j hj).a;have hb:=(hx j hj).b;unfold U8 at ha hb;unfold TyP at ht;simp only[av]at ht;rcases ht with⟨k,e⟩ | ⟨k,e⟩ | ⟨k,e⟩ | ⟨k,_,e⟩ | ⟨k,Ms,a,e⟩ | ⟨k,e⟩ | ⟨k,Ms,_,a,a0,e⟩ | ⟨k,e⟩ | ⟨k,_,e⟩ | ⟨k,w,a,e⟩ | ⟨k,e⟩ <;> rw[e]at h2 ⊢ <;> simp at h2 ⊢
   omega
 . have ht:=hT j hj;have ha:=(hx j hj).a;unfold U8 at ha;unfold TyP at ht;simp only[av]at ht;rcases ht with⟨k,e⟩ | ⟨k,e⟩ | ⟨k,e⟩ | ⟨k,_,e⟩ | ⟨k,Ms,a,e⟩ | ⟨k,e⟩ | ⟨k,Ms,_,a,a0,e⟩ | ⟨k,e⟩ | ⟨k,_,e⟩ | ⟨k,w,a,e⟩ | ⟨k,e⟩ <;> rw[e] <;> simp <;> omega
 . obtain⟨r,q⟩:=mem j hj m hm;exact q.id.2
 . have ht:=hT j hj;have hid:=ids_eq' (ns.getD j dNd);unfold TyP at ht;simp only[av]at ht;rcases ht with⟨k,e⟩ | ⟨k,e⟩ | ⟨k,e⟩ | ⟨k,_,e⟩ | ⟨k,Ms,a,e⟩ | ⟨k,e⟩ | ⟨k,Ms,_,a,a0,e⟩ | ⟨k,e⟩ | ⟨k,_,e⟩ | ⟨k,w,a,e⟩ | ⟨k,e⟩ <;> rw[e]at hy <;> simp at hy
   exact(w6 hid.2.1 hid.2.2.1 hid.2.2.2).2 y hy
 . rcases rP (hT j hj)with h | ⟨r,_,_,h⟩
   . rw[h];simp
   . exact h
 . obtain⟨r,q⟩:=mem j hj m hm;exact(z7 hN h5 ⟨q.tgt.1,q.tgt.2.1⟩ (q.dfl hd)).2
end
theorem of_ok{d:aT}(hd:DOk d):gw d=some (⟨[]⟩,false)\/∃l,gw d=some (⟨l⟩,true)/\DrOk l:=by
 rcases of_eq hd with h | ⟨l,a,b,c,e,f⟩
 . exact .inl h
 . exact .inr ⟨l,a,KF hd.2 c b e f⟩
def Suf(C' C:List Int):Prop:=C'.length<=C.length/\∀c,c∈C'->c∈C
theorem Suf.refl(C:List Int):Suf C C:=⟨Nat.le_refl _,fun _ h=>h⟩
theorem Suf.trans{A B C:List Int}(h:Suf A B)(k:Suf B C):Suf A C:=⟨Nat.le_trans h.1 k.1,fun c hc=>k.2 c (h.2 c hc)⟩
def CU8(C:List Int):Prop:=∀c,c∈C->U8 c
theorem CU8.suf{A B:List Int}(h:CU8 B)(k:Suf A B):CU8 A:=fun c hc=>h c (k.2 c hc)
section
variable {ts:List ae}
theorem de {n : Int} (hn : 1 <= n /\ n <= 1000) {C : List Int} (hC : CU8 C) (hl : C.length <= 1000) (odd : Bool):
 ∃r C',bS (n,ts,C,odd)=some (r,ts,C',odd)/\0<=r/\r < n/\Suf C' C/\(r=0/\C'=[]/\C=[]\/C'.length+1=C.length):=by
 rw[bS];cases C with
 | nil=>
  rw[if_pos (by simp)];exact⟨0,[],rfl,by omega,by omega,Suf.refl _,.inl ⟨rfl,rfl,rfl⟩⟩
 | cons c C=>
  have hc:=hC c (.head _);unfold U8 at hc;have h0:inR 0 (c::C).length=true:=au (k:=0) (by simp);have h1:slR 1 ((c::C).length:Int) (c::C).length=true:=dB (a:=1) (by simp) (by simp);have h2:cutL (c::C) 1 ((c::C).length:Int)=C:=by
   have:=iR (c::C) 1
   grind
  rw[if_neg (by simp;omega),if_pos h0,if_pos (nz (by omega)),if_pos h1,h2];simp only[Int.toNat_zero,List.getD_cons_zero];rw[dm ⟨by omega,by omega⟩,bM hc.1 (by omega)];exact⟨_,C,rfl,Int.emod_nonneg _ (by omega),Int.emod_lt_of_pos _ (by omega),⟨by simp,fun x hx=>.tail _ hx⟩,.inr (by simp)⟩
theorem tn {C : List Int} (hC : CU8 C) (hl : C.length <= 1000) (odd : Bool):
 ∃o C',jk (ts,C,odd)=some (o,ts,C',odd)/\(odd=false->o=false)/\Suf C' C:=by
 rw[jk];cases odd with
 | false=>exact⟨false,C,rfl,fun _=>rfl,Suf.refl _⟩
 | true=>
  obtain⟨r,C',h1,_,_,h4,_⟩:=de (ts:=ts) (n:=4) ⟨by omega,by omega⟩ hC hl true;rw[if_pos rfl,h1];exact⟨_,C',rfl,fun h=>(by cases h),h4⟩
theorem Ls{x:ae}(hm:x.Members.length < 9223372036854775807)(hs:x.Symbols.length < 9223372036854775807)(n:Int):SaysP (nH (x,n)) ((∃m,m∈x.Members/\m.ID=n)\/∃y,y∈x.Symbols/\y.ID=n):=by
 obtain⟨r,_,r2,hf⟩:=eu (t:=x) n hm;obtain⟨s,_,s2,hg⟩:=lN (t:=x) n hs;rw[nH,r2];simp only[oZ4,oZ3];rw[s2];refine⟨_,rfl,?_⟩;have h1:=rN hg;have h2:r.2=true↔∃m,m∈x.Members/\m.ID=n:=by
  rcases jH hf with⟨e,j,q1,_,_,q4⟩ | ⟨e,q⟩
  . grind
  . rw[e];have:=iI q
    grind
 grind
theorem w7 {x : ae} (hm : x.Members.length < 9223372036854775807) (hs : x.Symbols.length < 9223372036854775807) (h12 : ∀ m, m ∈ x.Members -> m.ID <= 12) (h6 : ∀ y, y ∈ x.Symbols -> y.ID <= 6) (C : List Int) (odd : Bool):
 ∀(k:Nat) (n:Int),1<=n->n<=14->13<=n+k->∃n',ji (n,ts,C,odd,x)=some (n',ts,C,odd)/\1<=n'/\n'<=14/\(∀m,m∈x.Members->m.ID≠n')/\(∀y,y∈x.Symbols->y.ID≠n')
 | k,n,h1,h14,hk=>by
  obtain⟨r,r1,r2⟩:=Ls hm hs n;rw[ji,r1];simp only[oZ4,oZ3];cases r with
  | false=>grind
  | true=>
   have hle:n<=12:=by grind
   rw[if_pos rfl,cC (by omega) (by omega)]
   match k,hk with
   | 0,hk=>omega
   | k+1,hk=>exact w7 hm hs h12 h6 C odd k (n+1) (by omega) (by omega) (by omega)
theorem rQ {x : ae} (hm : x.Members.length < 9223372036854775807) (hs : x.Symbols.length < 9223372036854775807) (h12 : ∀ m, m ∈ x.Members -> m.ID <= 12) (h6 : ∀ y, y ∈ x.Symbols -> y.ID <= 6) {C : List Int} (hC : CU8 C) (hl : C.length <= 1000) (odd : Bool):
 ∃n C',fY (x,ts,C,odd)=some (n,ts,C',odd)/\I1000 n/\findM x.Members n=none/\Suf C' C:=by
 obtain⟨r,C',h1,h2,h3,h4,_⟩:=de (ts:=ts) (n:=14) ⟨by omega,by omega⟩ hC hl odd;obtain⟨n,n1,n2,n3,n4,_⟩:=w7 (ts:=ts) hm hs h12 h6 C' odd 12 (1+r) (by omega) (by omega) (by omega);refine⟨n,C',?_,⟨by omega,by omega⟩,?_,h4⟩
 . rw[fY,h1];simp only[oZ4,oZ3];rw[cC (by omega) (by omega),n1];rfl
 . unfold findM;rw[List.find?_eq_none];intro m hm'
   simpa using n4 m hm'
theorem yT{n:Int}{C:List Int}(hC:CU8 C)(hl:C.length<=1000)(odd:Bool):∃d C',jl (n,ts,C,odd)=some (⟨n,d⟩,ts,C',odd)/\d.length<=3/\Suf C' C:=by
 obtain⟨r,C',h1,h2,h3,h4,_⟩:=de (ts:=ts) (n:=4) ⟨by omega,by omega⟩ hC hl odd;obtain⟨k,rfl⟩:∃k:Nat,r=(k:Int):=⟨r.toNat,by omega⟩
 rw[jl];simp only[oZ4,oZ3];rw[h1];simp only[oZ3];rw[if_pos (au (by simp;omega)),av]
 grind
theorem Aa(odd:Bool):∀(k:Nat) (s:List UInt8) (C:List Int),k<=100->CU8 C->C.length<=1000->s.length+k<=100->∃s' C',gR (s,(k:Int),ts,C,odd)=some (s',ts,C',odd)/\s'.length<=s.length+k/\Suf C' C
 | 0,s,C,hk,hC,hl,hs=>⟨s,C,by rw[gR,if_neg (by simp)],by omega,Suf.refl _⟩
 | k+1,s,C,hk,hC,hl,hs=>by
  obtain⟨r,C',h1,h2,h3,h4,_⟩:=de (ts:=ts) (n:=3) ⟨by omega,by omega⟩ hC hl odd;have hpos:decide ((0:Int) < ((k+1:Nat):Int))=true:=by rw[decide_eq_true_eq];omega
  have e:subI .i64 ((k+1:Nat):Int) 1=(k:Int):=by rw[cb (by omega) (by omega)];omega
  rw[gR,if_pos hpos,h1];simp only[oZ4,oZ3];rw[tk ⟨h2,by omega⟩,if_pos (bn (by simp;omega)),e];obtain⟨s',C'',a1,a2,a3⟩:=Aa odd k (s++[UInt8.ofNat (97+r.toNat)]) C' (by omega) (hC.suf h4) (by have:=h4.1;omega) (by simp;omega);exact⟨s',C'',a1,by simp at a2;omega,a3.trans h4⟩
theorem Lt{most:Int}(hm:0<=most/\most<=1000){C:List Int}(hC:CU8 C)(hl:C.length<=1000)(odd:Bool):∃s C',nn (most,ts,C,odd)=some (s,ts,C',odd)/\(s.length:Int)<=most/\s.length<=3/\Suf C' C:=by
 have em:addI .i64 (minI most 3) 1=min most 3+1:=by
  have:minI most 3=min most 3:=rfl;rw[this,cC (by omega) (by omega)]
 obtain⟨r,C',h1,h2,h3,h4,_⟩:=de (ts:=ts) (n:=min most 3+1) ⟨by omega,by omega⟩ hC hl odd;obtain⟨k,rfl⟩:∃k:Nat,r=(k:Int):=⟨r.toNat,by omega⟩
 obtain⟨s,C'',a1,a2,a3⟩:=Aa (ts:=ts) odd k [] C' (by omega) (hC.suf h4) (by have:=h4.1;omega) (by simp;omega);refine⟨s,C'',?_,by simp at a2;omega,by simp at a2;omega,a3.trans h4⟩;rw[nn,em,h1]
 grind
end
theorem um :∀a b:List UInt8,Op.bytesLess a b=false->a≠b->Op.bytesLess b a=true
 | [],[],_,h=>absurd rfl h
 | [],y::b,h,_=>by simp[Op.bytesLess]at h
 | x::a,[],h,_=>by simp[Op.bytesLess]
 | x::a,y::b,h,hne=>by
  simp only[Op.bytesLess]at h ⊢;by_cases h1:x < y
  . grind
  . by_cases h2:y < x
    . simp[h2]
    . have e:x=y:=by grind
      subst e;have hr:Op.bytesLess a b=false:=by simpa using h
      have:=um a b hr (fun e=>hne (by rw[e]));simp[this]
theorem mf{a b:ab}(ha:I64 a.Int_)(hb:I64 b.Int_):fe (a,b)=some (vcmp a b):=by
 obtain⟨r,h1,h2⟩:=og ha hb;unfold vcmp
 grind
theorem IF{a b:ab}(ha:I64 a.Int_)(hb:I64 b.Int_)(h:0 < vcmp a b):vcmp b a < 0:=by
 have h1:=mf ha hb;have h2:=mf hb ha;generalize vcmp a b=r at h h1;generalize vcmp b a=q at h2;rw[fe]at h1 h2;by_cases hk:a.Kind=b.Kind
 . rw[if_neg (by simp[hk])]at h1 h2;by_cases k1:a.Kind=1
   . have k1':b.Kind=1:=by omega
     rw[if_pos (by simp[k1])]at h1;rw[if_pos (by simp[k1'])]at h2;simp only[cF,eqB]at h1 h2
     grind
   . have k1':¬b.Kind=1:=by omega
     rw[if_neg (by simp[k1])]at h1;rw[if_neg (by simp[k1'])]at h2;by_cases k2:a.Kind=2
     . have k2':b.Kind=2:=by omega
       rw[if_pos (by simp[k2]),jd ha,jd hb]at h1;rw[if_pos (by simp[k2']),jd ha,jd hb]at h2;simp only[oZ4,oZ3,cF]at h1 h2;by_cases e:a.Int_=b.Int_
       . grind
       . have hz:zig a.Int_≠zig b.Int_:=fun h=>e (zP h)
         grind
     . have k2':¬b.Kind=2:=by omega
       rw[if_neg (by simp[k2])]at h1;rw[if_neg (by simp[k2'])]at h2;by_cases k3:a.Kind=3
       . have k3':b.Kind=3:=by omega
         rw[if_pos (by simp[k3])]at h1;rw[if_pos (by simp[k3'])]at h2;simp only[oZ4,oZ3,cF]at h1 h2;by_cases hl:a.Str.length=b.Str.length
         . rw[if_neg (by simp[hl])]at h1 h2;by_cases e:a.Str=b.Str
           . grind
           . have e':¬b.Str=a.Str:=fun h=>e h.symm
             cases hb':Op.bytesLess a.Str b.Str with
             | true=>simp[e,hb']at h1;omega
             | false=>
              have:=um _ _ hb' e
              grind
         grind
       . have k3':¬b.Kind=3:=by omega
         rw[if_neg (by simp[k3])]at h1;rw[if_neg (by simp[k3'])]at h2;by_cases k4:a.Kind=4
         . have k4':b.Kind=4:=by omega
           rw[if_pos (by simp[k4])]at h1;rw[if_pos (by simp[k4'])]at h2;simp only[oZ4,oZ3,cF]at h1 h2
           grind
         grind
 grind
theorem put_l0' {v key item : ab} (hl : v.Keys.length < 1000000) (hk : ∀ x, x ∈ v.Keys -> I64 x.Int_) (hkey : I64 key.Int_) (a : Int) (b : Bool) (c : Int) (d : List UInt8) (e : Int): ∀ (k i : Nat), i + k = v.Keys.length ->
 (∀j,j < i->vcmp (v.Keys.getD j af) key < 0)->∃m:Nat,m<=v.Keys.length/\gj ((i:Int),v,key,item,a,b,c,d,e)=some ((m:Int),v,key,item,a,b,c,d,e)/\(∀j,j < m->vcmp (v.Keys.getD j af) key < 0)/\(m < v.Keys.length->0<=vcmp (v.Keys.getD m af) key)
 | 0,i,hi,hj=>by
  have hd:decide ((i:Int) < (v.Keys.length:Int))=false:=by simp;omega
  refine⟨i,by omega,?_,hj,fun h=>by omega⟩;rw[gj];simp only[oZ4,oZ3,hd,Bool.not_false,Bool.or_true,if_true,Bool.false_eq_true,if_false,cond_false,ab.aA]
 | k+1,i,hi,hj=>by
  have hlt:i < v.Keys.length:=by omega
  have hd:decide ((i:Int) < (v.Keys.length:Int))=true:=by simp;omega
  have hc:=mf (hk _ (aB hlt af)) hkey;rw[gj];simp only[oZ4,oZ3,hd,Bool.not_true,Bool.or_false,if_true,cond_true,ab.aA,av];rw[if_pos (au hlt),hc];simp only[oZ3];by_cases hneg:vcmp (v.Keys.getD i af) key < 0
  . rw[if_pos (by simpa using hneg),aD (by omega)];refine put_l0' hl hk hkey a b c d e k (i+1) (by omega) fun j hj'=>?_
    grind
  grind
theorem iK :∀(a b:List ab),wts (a++b)=wts a+wts b
 | [],b=>by rw[ck];simp
 | x::a,b=>by rw[List.cons_append,ci,ci,iK a b];omega
theorem yU{α:Type}{l:List α}{m:Nat}{x d:α}(hm:m<=l.length)(i:Nat):(l.take m++(x::l.drop m)).getD i d=if i < m then l.getD i d else if i=m then x else l.getD (i - 1) d:=by grind
theorem NU {v key item : ab} (hl : v.Keys.length < 1000) (hl2 : v.Items.length = v.Keys.length) (hk : ∀ x, x ∈ v.Keys -> I64 x.Int_) (hkey : I64 key.Int_) (ha : cr v.Keys):
 ∃ks is,nM (v,key,item)=some ⟨v.Kind,v.Bool_,v.Int_,v.Str,v.ID,ks,is,v.Rest⟩/\is.length=ks.length/\ks.length<=v.Keys.length+1/\cr ks/\(∀x,x∈ks->x∈v.Keys\/x=key)/\(∀x,x∈is->x∈v.Items\/x=item)/\wts ks+wts is<=wts v.Keys+wts v.Items+wt key+wt item:=by
 obtain⟨m,m1,m2,m3,m4⟩:=put_l0' (item:=item) (by omega) hk hkey 0 false 0 [] 0 v.Keys.length 0 (by omega) (fun j hj=>by omega);have m2':gj (0,v,key,item,0,false,0,[],0)=_:=m2;rw[nM];simp only[ab.aA];rw[m2'];simp only[oZ4,oZ3,ab.aA]
 have ins:∀(hne:m < v.Keys.length->0 < vcmp (v.Keys.getD m af) key),∃ks is,(some (⟨v.Kind,v.Bool_,v.Int_,v.Str,v.ID,v.Keys.take m++(key::v.Keys.drop m),v.Items.take m++(item::v.Items.drop m),v.Rest⟩:ab):Option ab)=some ⟨v.Kind,v.Bool_,v.Int_,v.Str,v.ID,ks,is,v.Rest⟩/\is.length=ks.length/\ks.length<=v.Keys.length+1/\cr ks/\(∀x,x∈ks->x∈v.Keys\/x=key)/\(∀x,x∈is->x∈v.Items\/x=item)/\wts ks+wts is<=wts v.Keys+wts v.Items+wt key+wt item:=by
  intro hne;refine⟨_,_,rfl,by simp;omega,by simp;omega,fun i hi=>?_,fun x hx=>?_,fun x hx=>?_,?_⟩
  . rw[yU m1,yU m1];have hlen:(v.Keys.take m++(key::v.Keys.drop m)).length=v.Keys.length+1:=by simp;omega
    rw[hlen]at hi;by_cases h1:i+1 < m
    . rw[if_pos (by omega),if_pos h1];exact ha i (by omega)
    . by_cases h2:i+1=m
      . grind
      . by_cases h3:i=m
        . rw[if_neg (by omega),if_pos h3,if_neg h1,if_neg h2];have e:i+1 - 1=m:=by omega
          rw[e];exact IF (hk _ (aB (by omega) af)) hkey (hne (by omega))
        . rw[if_neg (by omega),if_neg h3,if_neg h1,if_neg h2];have:=ha (i - 1) (by omega)
          grind
  . grind
  . grind
  . rw[iK,iK,ci,ci];have e1:wts v.Keys=wts (v.Keys.take m)+wts (v.Keys.drop m):=by rw[<-iK,List.take_append_drop]
    have e2:wts v.Items=wts (v.Items.take m)+wts (v.Items.drop m):=by rw[<-iK,List.take_append_drop]
    omega
 have s1:slR 0 (m:Int) v.Keys.length=true:=dB (a:=0) (by omega) m1;have s2:slR (m:Int) (v.Keys.length:Int) v.Keys.length=true:=dB m1 (by omega);have s3:slR 0 (m:Int) v.Items.length=true:=dB (a:=0) (by omega) (by omega);have s4:slR (m:Int) (v.Items.length:Int) v.Items.length=true:=dB (by omega) (by omega)
 have build:∀{o:Option ab->Prop},o (some (⟨v.Kind,v.Bool_,v.Int_,v.Str,v.ID,v.Keys.take m++(key::v.Keys.drop m),v.Items.take m++(item::v.Items.drop m),v.Rest⟩:ab))->o (some (⟨v.Kind,v.Bool_,v.Int_,v.Str,v.ID,v.Keys.take m++(key::v.Keys.drop m),v.Items.take m++(item::v.Items.drop m),v.Rest⟩:ab)):=fun h=>h
 by_cases hin:m < v.Keys.length
 . have hd:decide ((m:Int) < (v.Keys.length:Int))=true:=by simp;omega
   have hc:=mf (hk _ (aB hin af)) hkey;simp only[hd,Bool.not_true,Bool.or_false,if_true,cond_true,av];rw[if_pos (au hin),hc];simp only[oZ3];by_cases h0:vcmp (v.Keys.getD m af) key=0
   . rw[if_pos (by simpa using h0)];refine⟨v.Keys,v.Items,by cases v;rfl,hl2,by omega,ha,fun x hx=>.inl hx,fun x hx=>.inl hx,by omega⟩
   . rw[if_neg (by simpa using h0),if_pos s1,if_pos (aR (by omega) (by simp[cutL];omega))];rw[if_pos (aR (by omega) (by simp[cutL];omega)),if_pos s2,if_pos (aR (by omega) (by simp[cutL];omega)),if_pos s3,if_pos (aR (by omega) (by simp[cutL];omega)),if_pos (aR (by omega) (by simp[cutL];omega)),if_pos s4,if_pos (aR (by omega) (by simp[cutL];omega))];rw[iH,iH,iR,iR]
     simp only[List.nil_append,List.append_assoc,List.singleton_append];exact ins fun _=>by have:=m4 hin;omega
 . have hd:decide ((m:Int) < (v.Keys.length:Int))=false:=by simp;omega
   simp only[hd,Bool.not_false,Bool.or_true,if_true,Bool.false_eq_true,if_false,cond_false,oZ3];rw[if_pos s1,if_pos (aR (by omega) (by simp[cutL];omega))]
   rw[if_pos (aR (by omega) (by simp[cutL];omega)),if_pos s2,if_pos (aR (by omega) (by simp[cutL];omega)),if_pos s3,if_pos (aR (by omega) (by simp[cutL];omega)),if_pos (aR (by omega) (by simp[cutL];omega)),if_pos s4,if_pos (aR (by omega) (by simp[cutL];omega))];rw[iH,iH,iR,iR];simp only[List.nil_append,List.append_assoc,List.singleton_append]
   exact ins fun h=>absurd h hin
section
variable {ts:List ae}
mutual
theorem vfit_weak :∀(v:ab) (t:Int),vfit ts true t v->vfit ts false t v
 | ⟨k,b,i,s,id,ks,is,r⟩,t,h=>by
  rw[vfit]at h ⊢;obtain⟨⟨h1,h2,h3,h4⟩,h5⟩:=h;have w:=vfits_weak is;have wk:=vfits_weak ks;have wm:=vfitm_weak is;refine⟨⟨h1,h2,h3,fun h=>by cases h⟩,?_⟩
  have c6:(match findM (ts.getD t.toNat ap).Members id with
   | some m=>r=[]/\is.length=1/\vfits ts true m.Type_ is
   | none=>(ts.getD t.toNat ap).Open=true/\true=false/\I1000 id/\is=[]/\∃d,r=[⟨id,d⟩])->(match findM (ts.getD t.toNat ap).Members id with
   | some m=>r=[]/\is.length=1/\vfits ts false m.Type_ is
   | none=>(ts.getD t.toNat ap).Open=true/\false=false/\I1000 id/\is=[]/\∃d,r=[⟨id,d⟩]):=by
   split
   . rintro ⟨a,b,c⟩;exact⟨a,b,w _ c⟩
   . rintro ⟨_,b,_⟩;cases b
  rcases h5 with h | h | h | ⟨a1,a2,a3,a4,a5,a6,a7,a8⟩ | ⟨a1,a2,a3,a4,a5,a6,a7,a8⟩ | ⟨a1,a2,a3,a4,a5,a6⟩ | ⟨a1,a2,a3,a4,a5,a6,a7,a8,a9⟩ | ⟨a1,a2,a3,a4,a5,a6,a7,a8,a9,a10,a11⟩ | ⟨a1,a2,a3,a4,a5,a6,a7,a8,a9⟩
  . exact .inl h
  . grind
  . grind
  . grind
  . grind
  . grind
  . grind
  . grind
  grind
theorem vfits_weak :∀(l:List ab) (t:Int),vfits ts true t l->vfits ts false t l
 | [],t,h=>by rw[vfits];trivial
 | v::l,t,h=>by
  rw[vfits]at h ⊢;exact⟨vfit_weak v t h.1,vfits_weak l t h.2⟩
theorem vfitm_weak :∀(l:List ab) (ms:List aj),vfitm ts true ms l->vfitm ts false ms l
 | [],[],h=>by rw[vfitm];trivial
 | [],m::ms,h=>by
  have:vfitm ts true (m::ms) []=False:=by rw[vfitm] <;> (intros;simp_all)
  grind
 | v::l,[],h=>by
  have:vfitm ts true [] (v::l)=False:=by rw[vfitm] <;> (intros;simp_all)
  grind
 | v::l,m::ms,h=>by
  rw[vfitm]at h ⊢;exact⟨vfit_weak v m.Type_ h.1,vfitm_weak l ms h.2⟩
end
theorem KG{v:ab}{t:Int}(h:vfit ts true t v)(pl:Bool):vfit ts pl t v:=by
 cases pl with
 | true=>exact h
 | false=>exact vfit_weak v t h
def rk(ts:List ae)(t:Nat):Nat:=if 7<=(ts.getD t ap).Kind then 0 else t+1
def Aw :Nat->Nat
 | 0=>20
 | n+1=>12*Aw n+20
theorem Aw_le{a:Nat}:∀{b:Nat},a<=b->Aw a<=Aw b
 | 0, h => by have : a = 0 := by omega
              subst this;omega
 | b+1,h=>by
  by_cases e:a=b+1
  . grind
  . have:=Aw_le (a:=a) (b:=b) (by omega);simp only[Aw];omega
theorem Aw_20(r:Nat):20<=Aw r:=Aw_le (a:=0) (Nat.zero_le _)
theorem Aw_5 :Aw 5=5429060:=rfl
def Mk(ts:List ae)(odd:Bool)(C:List Int)(r:Nat)(t:Int):Prop:=∃v C',co (t,ts,C,odd)=some (v,ts,C',odd)/\vfit ts (!odd) t v/\OkV v/\Suf C' C/\wt v+32574360*C'.length<=Aw r+32574360*C.length
theorem Br {odd : Bool} {c r : Nat} (hc : c <= 1000) {x : ae} (h12 : x.Members.length <= 12) (hm : ∀ m, m ∈ x.Members -> (∀ C, CU8 C -> C.length <= c -> Mk ts odd C r m.Type_) /\ (m.HasDefault = true -> vfit ts true m.Type_ m.Default /\ OkV m.Default /\ wt m.Default <= 13))
 (a0:Int) (a1:Bool) (a2:Int) (a3:List UInt8) (a4:Int) (v0:Int) (v1:Bool) (v2:Int) (v3:List UInt8) (v4:Int):
 ∀(k i:Nat) (C:List Int) (acc:List ab),i+k=x.Members.length->CU8 C->C.length<=c->acc.length=i->(∀j,j < i->vfit ts (!odd) (x.Members.getD j ag).Type_ (acc.getD j af))->(∀y,y∈acc->OkV y)->
 ∃acc' C',dD ((i:Int),ts,C,odd,a0,a1,a2,a3,a4,x.Kind,x.Name,x.Low,x.High,x.Max,x.Symbols,x.Members,x.Key,x.Elem,x.Open,v0,v1,v2,v3,v4,acc)=some (ts,C',odd,a0,a1,a2,a3,a4,x.Kind,x.Name,x.Low,x.High,x.Max,x.Symbols,x.Members,x.Key,x.Elem,x.Open,v0,v1,v2,v3,v4,acc')/\
  acc'.length=x.Members.length/\(∀j,j < x.Members.length->vfit ts (!odd) (x.Members.getD j ag).Type_ (acc'.getD j af))/\(∀y,y∈acc'->OkV y)/\Suf C' C/\wts acc'+32574360*C'.length<=wts acc+k*Aw r+32574360*C.length
 | 0,i,C,acc,hi,hC,hl,ha,hf,ho=>⟨acc,C,by rw[dD,if_neg (by simp;omega)],by omega,fun j hj=>hf j (by omega),ho,Suf.refl _,by omega⟩
 | k+1,i,C,acc,hi,hC,hl,ha,hf,ho=>by
  have hlt:i < x.Members.length:=by omega
  obtain⟨hmk,hdf⟩:=hm _ (aB hlt ag)
  have next : ∀ (w : ab) (C1 : List Int), vfit ts (!odd) (x.Members.getD i ag).Type_ w -> OkV w -> Suf C1 C -> wt w + 32574360 * C1.length <= Aw r + 32574360 * C.length ->
   ∃acc' C',(if room 120 (acc++[w]).length=true then dD (addI .i64 (i:Int) 1,ts,C1,odd,a0,a1,a2,a3,a4,x.Kind,x.Name,x.Low,x.High,x.Max,x.Symbols,x.Members,x.Key,x.Elem,x.Open,v0,v1,v2,v3,v4,acc++[w])else none)=some (ts,C',odd,a0,a1,a2,a3,a4,x.Kind,x.Name,x.Low,x.High,x.Max,x.Symbols,x.Members,x.Key,x.Elem,x.Open,v0,v1,v2,v3,v4,acc')/\
    acc'.length=x.Members.length/\(∀j,j < x.Members.length->vfit ts (!odd) (x.Members.getD j ag).Type_ (acc'.getD j af))/\(∀y,y∈acc'->OkV y)/\Suf C' C/\wts acc'+32574360*C'.length<=wts acc+(k+1)*Aw r+32574360*C.length:=by
   intro w C1 hw hok hs hwt;rw[if_pos (aR (by omega) (by simp;omega)),aD (by omega)]
   obtain⟨acc',C',b1,b2,b3,b4,b5,b6⟩:=Br hc h12 hm a0 a1 a2 a3 a4 v0 v1 v2 v3 v4 k (i+1) C1 (acc++[w]) (by omega) (hC.suf hs) (by have:=hs.1;omega) (by simp;omega) (fun j hj=>by
    grind) (fun y hy=>by
    rcases List.mem_append.1 hy with h | h
    . exact ho y h
    . have:y=w:=by simpa using h
      subst this;exact hok)
   refine⟨acc',C',b1,b2,b3,b4,b5.trans hs,?_⟩;rw[iK,ci,ck]at b6;have e:(k+1)*Aw r=k*Aw r+Aw r:=Nat.succ_mul _ _;omega
  rw[dD,if_pos (by simp;omega),if_pos (au hlt)];simp only[oZ4,oZ3,av,ab.aA];cases hd:(x.Members.getD i ag).HasDefault with
  | true=>
   obtain⟨f1,f2,f3⟩:=hdf hd;obtain⟨q,C1,n1,n2,n3,n4,n5⟩:=de (ts:=ts) (n:=3) ⟨by omega,by omega⟩ hC (by omega) odd;rw[if_pos rfl,n1];simp only[oZ3,cond_true];by_cases h0:q=0
   . rw[if_pos (by simpa using h0)];have:=n4.1;have:=Aw_20 r;rw[if_pos (au hlt)];exact next _ C1 (KG f1 _) f2 n4 (by omega)
   . rw[if_neg (by simpa using h0),if_pos (au hlt)];obtain⟨w,C2,m1,m2,m3,m4,m5⟩:=hmk C1 (hC.suf n4) (by have:=n4.1;omega);rw[m1];simp only[oZ3,ab.aA];have:=n4.1;exact next w C2 m2 m3 (m4.trans n4) (by omega)
  | false=>
   rw[if_neg (by simp),if_neg (by simp),if_pos (au hlt)];obtain⟨w,C2,m1,m2,m3,m4,m5⟩:=hmk C hC hl
   grind
theorem Ab {odd : Bool} {c r : Nat} (hc : c <= 1000) {x : ae} (hE : ∀ C, CU8 C -> C.length <= c -> Mk ts odd C r x.Elem)
 (a0:Int) (a1:Bool) (a2:Int) (a3:List UInt8) (a4:Int) (v0:Int) (v1:Bool) (v2:Int) (v3:List UInt8) (v4:Int):
 ∀(k:Nat) (C:List Int) (acc:List ab),acc.length+k<=100->CU8 C->C.length<=c->(∀y,y∈acc->vfit ts (!odd) x.Elem y/\OkV y)->
 ∃acc' C',fW ((k:Int),ts,C,odd,a0,a1,a2,a3,a4,x.Kind,x.Name,x.Low,x.High,x.Max,x.Symbols,x.Members,x.Key,x.Elem,x.Open,v0,v1,v2,v3,v4,acc)=some (ts,C',odd,a0,a1,a2,a3,a4,v0,v1,v2,v3,v4,acc')/\
  acc'.length=acc.length+k/\(∀y,y∈acc'->vfit ts (!odd) x.Elem y/\OkV y)/\Suf C' C/\wts acc'+32574360*C'.length<=wts acc+k*Aw r+32574360*C.length
 | 0,C,acc,ha,hC,hl,hf=>⟨acc,C,by rw[fW,if_neg (by simp)],by omega,hf,Suf.refl _,by omega⟩
 | k+1,C,acc,ha,hC,hl,hf=>by
  have hpos:decide ((0:Int) < ((k+1:Nat):Int))=true:=by rw[decide_eq_true_eq];omega
  have e:subI .i64 ((k+1:Nat):Int) 1=(k:Int):=by rw[cb (by omega) (by omega)];omega
  obtain⟨w,C2,m1,m2,m3,m4,m5⟩:=hE C hC hl;rw[fW,if_pos hpos,m1];simp only[oZ4,oZ3,ab.aA];rw[if_pos (aR (by omega) (by simp;omega)),e];obtain⟨acc',C',b1,b2,b3,b4,b5⟩:=Ab hc hE a0 a1 a2 a3 a4 v0 v1 v2 v3 v4 k C2 (acc++[w]) (by simp;omega) (hC.suf m4) (by have:=m4.1;omega) (fun y hy=>by grind)
  refine⟨acc',C',b1,by simp at b2;omega,b3,b4.trans m4,?_⟩;rw[iK,ci,ck]at b5
  grind
theorem Bs {odd : Bool} {c r : Nat} (hc : c <= 1000) {x : ae} (hK : ∀ C, CU8 C -> C.length <= c -> Mk ts odd C r x.Key) (hE : ∀ C, CU8 C -> C.length <= c -> Mk ts odd C r x.Elem)
 (a0:Int) (a1:Bool) (a2:Int) (a3:List UInt8) (a4:Int) (v0:Int) (v1:Bool) (v2:Int) (v3:List UInt8) (v4:Int) (R:List aG):
 ∀(k:Nat) (C:List Int) (ks is:List ab),ks.length+k<=100->is.length=ks.length->CU8 C->C.length<=c->(∀y,y∈ks->vfit ts (!odd) x.Key y/\OkV y)->(∀y,y∈is->vfit ts (!odd) x.Elem y/\OkV y)->cr ks->
 ∃ks' is' C',fX ((k:Int),ts,C,odd,a0,a1,a2,a3,a4,x.Kind,x.Name,x.Low,x.High,x.Max,x.Symbols,x.Members,x.Key,x.Elem,x.Open,v0,v1,v2,v3,v4,ks,is,R)=some (ts,C',odd,a0,a1,a2,a3,a4,v0,v1,v2,v3,v4,ks',is',R)/\
  ks'.length<=ks.length+k/\is'.length=ks'.length/\(∀y,y∈ks'->vfit ts (!odd) x.Key y/\OkV y)/\(∀y,y∈is'->vfit ts (!odd) x.Elem y/\OkV y)/\cr ks'/\Suf C' C/\wts ks'+wts is'+32574360*C'.length<=wts ks+wts is+2*(k*Aw r)+32574360*C.length
 | 0,C,ks,is,ha,hli,hC,hl,hf,hg,hasc=>⟨ks,is,C,by rw[fX,if_neg (by simp)],by omega,hli,hf,hg,hasc,Suf.refl _,by omega⟩
 | k+1,C,ks,is,ha,hli,hC,hl,hf,hg,hasc=>by
  have hpos:decide ((0:Int) < ((k+1:Nat):Int))=true:=by rw[decide_eq_true_eq];omega
  have e:subI .i64 ((k+1:Nat):Int) 1=(k:Int):=by rw[cb (by omega) (by omega)];omega
  obtain⟨w,C2,m1,m2,m3,m4,m5⟩:=hK C hC hl;have hl2:=m4.1;obtain⟨z,C3,n1,n2,n3,n4,n5⟩:=hE C2 (hC.suf m4) (by omega);have hl3:=n4.1;obtain⟨ks1,is1,p1,p2,p3,p4,p5,p6,p7⟩:=NU (v:=⟨v0,v1,v2,v3,v4,ks,is,R⟩) (key:=w) (item:=z) (by show ks.length < 1000;omega) hli (fun y hy=>kg (hf y hy).2) (kg m3) hasc;simp only at p1 p3 p5 p6 p7
  rw[fX,if_pos hpos,m1];simp only[oZ4,oZ3,ab.aA];rw[n1];simp only[oZ3,ab.aA];rw[p1];simp only[oZ3];rw[e]
  obtain⟨ks',is',C',b1,b2,b3,b4,b5,b6,b7,b8⟩:=Bs hc hK hE a0 a1 a2 a3 a4 v0 v1 v2 v3 v4 R k C3 ks1 is1 (by omega) p2 ((hC.suf m4).suf n4) (by omega) (fun y hy=>by
   grind) (fun y hy=>by
   rcases p6 y hy with h | h
   . exact hg y h
   . subst h;exact⟨n2,n3⟩) p4
  refine⟨ks',is',C',b1,by omega,b3,b4,b5,b6,b7.trans (n4.trans m4),?_⟩
  grind
end
section
variable {ts:List ae}
theorem je{v:ab}(hs:v.Str.length<=1000)(hk:∀x,x∈v.Keys->OkV x)(hi:∀x,x∈v.Items->OkV x)(h1:v.Keys.length<=1000)(h2:v.Items.length<=1000)(h3:v.Rest.length<=1000)(hr:∀x,x∈v.Rest->x.Data.length<=1000/\I64 x.ID)(n1:I64 v.Kind)(n2:I64 v.Int_)(n3:I64 v.ID):OkV v:=
 .mk v (by unfold reachBytes;omega) (by unfold reachBytes;omega) (by unfold reachBytes;omega) (by unfold reachBytes;omega) hk hi (fun x hx=>by have:=(hr x hx).1;unfold reachBytes;omega) n1 n2 n3 (fun x hx=>(hr x hx).2)
theorem iS{n:Int}(h:I1000 n):I64 n:=by unfold I1000 at h;unfold I64;omega
def Gd(ts:List ae)(odd:Bool)(c r:Nat):Prop:=∀t:Nat,t < ts.length->rk ts t<=r->∀C,CU8 C->C.length<=c->Mk ts odd C r (t:Int)
theorem tp(H:DrOk ts){t:Nat}(ht:t < ts.length):rk ts t<=5:=by
 unfold rk;have:=H.n5
 grind
theorem Mk.up{odd:Bool}{C:List Int}{r r':Nat}{t:Int}(h:Mk ts odd C r t)(hr:r<=r'):Mk ts odd C r' t:=by
 obtain⟨v,C',h1,h2,h3,h4,h5⟩:=h;exact⟨v,C',h1,h2,h3,h4,by have:=Aw_le hr;omega⟩
theorem Lu(H:DrOk ts){odd:Bool}{c r:Nat}(hc:c<=60)(Hc:∀c',c' < c->Gd ts odd c' 5)(Hr:∀r',r' < r->Gd ts odd c r'):Gd ts odd c r:=by
 intro t ht hrk C hC hl;have hxm:=aB ht ap;have hF:=H.V.F _ hxm;have hT:=H.T _ hxm;have hmx:=H.M _ hxm;obtain⟨hI12,hI6,hM12⟩:=H.I _ hxm;have hR:=H.R t ht;have hL:=H.L _ hxm;have hU:=H.V.U _ hxm;have hD:=H.D _ hxm;have hW:=H.W _ hxm;have hkd:rk ts t=if 7<=(ts.getD t ap).Kind then 0 else t+1:=rfl
 unfold Mk;rw[co,if_pos (au ht)];simp only[oZ4,oZ3,av];have fitI:=fun v=>cn (ts:=ts) (!odd) (t:Int) v
 simp only[av]at fitI;generalize hx:ts.getD t ap=x at*;have hA20:=Aw_20 r;have hin:(0:Int)<=t/\(t:Int) < ts.length:=by omega
 have leaf:∀(v:ab) (C':List Int),v.Keys=[]->v.Items=[]->v.Rest=[]->v.Str.length<=3->Suf C' C->wt v+32574360*C'.length<=Aw r+32574360*C.length:=fun v C' a b c d e=>by rw[z6 a b c];have:=e.1;omega
 have below:∀C1:List Int,C1.length+1=C.length->∀u:Int,0<=u->u < ts.length->∀C2,CU8 C2->C2.length<=C1.length->Mk ts odd C2 5 u:=fun C1 h1 u hu0 hu1 C2 hC2 hl2=>by
  obtain⟨k,rfl⟩:∃k:Nat,u=(k:Int):=⟨u.toNat,by omega⟩
  exact Hc C1.length (by omega) k (by omega) (tp H (by omega)) C2 hC2 hl2
 have member:x.Kind=5\/x.Kind=6->1<=r/\∀m,m∈x.Members->∀C2,CU8 C2->C2.length<=c->Mk ts odd C2 (r - 1) m.Type_:=fun hk=>by
  have hrt:rk ts t=t+1:=by rw[hkd,if_neg (by omega)]
  refine⟨by omega,fun m hm C2 hC2 hl2=>?_⟩;obtain⟨a,b,cc⟩:=hR m hm;obtain⟨k,hk'⟩:∃k:Nat,m.Type_=(k:Int):=⟨m.Type_.toNat,by omega⟩
  rw[hk']at cc ⊢;refine Hr (r - 1) (by omega) k (by omega) ?_ C2 hC2 hl2;have:rk ts k<=t:=by
   unfold rk
   grind
  omega
 have hs7:x.Symbols.length < 9223372036854775807:=aQ (bY hT.syms);have hm7:x.Members.length < 9223372036854775807:=aQ (bY hT.mems);unfold FormP at hF;rcases hF with⟨k,_⟩ | ⟨k,f1,f2,_⟩ | ⟨k,f1,f2,f3,f4,_⟩ | ⟨k,f1,f2,f3,f4,f5,_⟩ | ⟨k,f1,f2,f3,f4,f5,f6,_⟩ | ⟨k,f1,f2,f3,f4,f5,f6,_⟩ | ⟨k,f1,f2,f3,f4,_⟩ | ⟨k,f1,f2,f3,f4,_⟩ | ⟨k,_⟩
 . obtain⟨q,C1,n1,n2,n3,n4,n5⟩:=de (ts:=ts) (n:=2) ⟨by omega,by omega⟩ hC (by omega) odd;rw[if_pos (by simp[k]),n1];refine⟨_,C1,rfl,?_,fL rfl rfl rfl (by simp) (by simp[I64,k]) (by simp[I64]) (by simp[I64]),n4,leaf _ _ rfl rfl rfl (by simp) n4⟩
   grind
 . obtain⟨q,C1,n1,n2,n3,n4,n5⟩:=de (ts:=ts) (n:=256) ⟨by omega,by omega⟩ hC (by omega) odd;have hLk:=hL k;have e1:addI .i64 (subI .i64 x.High x.Low) 1=x.High - x.Low+1:=by rw[cb (by omega) (by omega),cC (by omega) (by omega)]
   have r0:0<=q % (x.High - x.Low+1):=Int.emod_nonneg _ (by omega);have r1:q % (x.High - x.Low+1) < x.High - x.Low+1:=Int.emod_lt_of_pos _ (by omega);rw[if_neg (by simp[k]),if_pos (by simp[k]),n1];simp only[oZ3];rw[e1,if_pos (nz (by omega)),bM n2 (by omega),cC (by omega) (by omega)]
   refine⟨_,C1,rfl,?_,fL rfl rfl rfl (by simp) (by simp[I64,k]) (by simp only[I64];omega) (by simp[I64]),n4,leaf _ _ rfl rfl rfl (by simp) n4⟩
   grind
 . obtain⟨s,C1,n1,n2,n3,n4⟩:=Lt (ts:=ts) (most:=x.Max) ⟨f4.1,by omega⟩ hC (by omega) odd;rw[if_neg (by simp[k]),if_neg (by simp[k]),if_pos (by simp[k]),n1];refine⟨_,C1,rfl,?_,fL rfl rfl rfl (by show s.length<=1000;omega) (by simp[I64,k]) (by simp[I64]) (by simp[I64]),n4,leaf _ _ rfl rfl rfl n3 n4⟩
   grind
 . have hsl:=f5.1;have hs16:=f5.2.2.2.2;have hsid:=f5.2.1.2;obtain⟨q,C1,n1,n2,n3,n4,n5⟩:=de (ts:=ts) (n:=(x.Symbols.length:Int)) ⟨by omega,by omega⟩ hC (by omega) odd;obtain⟨j,rfl⟩:∃j:Nat,q=(j:Int):=⟨q.toNat,by omega⟩
   have hlc:=n4.1;have hj:j < x.Symbols.length:=by omega
   have hy:=aB hj aP;rw[if_neg (by simp[k]),if_neg (by simp[k]),if_neg (by simp[k]),if_pos (by simp[k]),n1];simp only[oZ3];rw[if_pos (au hj)];simp only[av];cases ho:x.Open with
   | false=>
    rw[if_neg (by simp),if_neg (by simp)];refine⟨_,C1,rfl,?_,fL rfl rfl rfl (by simp) (by simp[I64,k]) (by simp[I64]) (iS (hsid _ hy)),n4,leaf _ _ rfl rfl rfl (by simp) n4⟩
    grind
   | true=>
    obtain⟨o,C2,o1,o2,o3⟩:=tn (ts:=ts) (hC.suf n4) (by omega) odd;have hlc2:=o3.1;rw[if_pos rfl,o1];simp only[oZ3,cond_true];cases o with
    | false=>
     rw[if_neg (by simp)];refine⟨_,C2,rfl,?_,fL rfl rfl rfl (by simp) (by simp[I64,k]) (by simp[I64]) (iS (hsid _ hy)),(o3.trans n4),leaf _ _ rfl rfl rfl (by simp) (o3.trans n4)⟩
     grind
    | true=>
     have hodd:odd=true:=by grind
     obtain⟨n,C3,u1,u2,u3,u4⟩:=rQ (ts:=ts) hm7 hs7 hI12 hI6 ((hC.suf n4).suf o3) (by omega) odd;rw[if_pos rfl,u1];refine⟨_,C3,rfl,?_,fL rfl rfl rfl (by simp) (by simp[I64,k]) (by simp[I64]) (iS u2),u4.trans (o3.trans n4),leaf _ _ rfl rfl rfl (by simp) (u4.trans (o3.trans n4))⟩
     grind
 . obtain⟨hr1,hmem⟩:=member (.inl k);obtain⟨acc,C1,b1,b2,b3,b4,b5,b6⟩:=Br (ts:=ts) (odd:=odd) (c:=c) (r:=r - 1) (by omega) (x:=x) hM12 (fun m hm=>⟨hmem m hm,fun hd=>⟨hD m hm hd,hT.dv m hm,hW m hm hd⟩⟩) 0 false 0 [] 0 x.Kind false 0 [] 0 x.Members.length 0 C [] (by omega) hC hl rfl (fun j hj=>by omega) (fun y hy=>by cases hy)
   have b1':dD (0,ts,C,odd,0,false,0,[],0,x.Kind,x.Name,x.Low,x.High,x.Max,x.Symbols,x.Members,x.Key,x.Elem,x.Open,x.Kind,false,0,[],0,[])=_:=b1;have hlc:=b5.1;have hAr:Aw r=12*Aw (r - 1)+20:=by
    obtain⟨r',rfl⟩:∃r',r=r'+1:=⟨r - 1,by omega⟩
    rfl
   have hmul:x.Members.length*Aw (r - 1)<=12*Aw (r - 1):=Nat.mul_le_mul_right _ hM12;rw[ck]at b6;have hfm:vfitm ts (!odd) x.Members acc:=dy.2 ⟨b2,b3⟩;rw[if_neg (by simp[k]),if_neg (by simp[k]),if_neg (by simp[k]),if_neg (by simp[k]),if_pos (by simp[k]),b1'];simp only[oZ3];obtain⟨o,C2,o1,o2,o3⟩:=tn (ts:=ts) (hC.suf b5) (by omega) odd
   have hlc2:=o3.1;rw[o1];simp only[oZ3];cases o with
   | false=>
    rw[if_neg (by simp)];refine⟨_,C2,rfl,?_,je (by simp) (fun y hy=>by cases hy) b4 (by simp) (by show acc.length<=1000;omega) (by simp) (fun y hy=>by cases hy) (by simp[I64,k]) (by simp[I64]) (by simp[I64]),o3.trans b5,?_⟩
    . exact(fitI _).2 ⟨⟨hin.1,hin.2,rfl,fun _=>rfl⟩,.inr (.inr (.inr (.inr (.inl ⟨k,rfl,rfl,rfl,rfl,rfl,⟨.nil,fun y hy=>by cases hy⟩,hfm⟩))))⟩
    . rw[wt_eq];simp only[ck,List.length_nil,List.map_nil,List.sum_nil];omega
   | true=>
    have hodd:odd=true:=by grind
    obtain⟨n,C3,u1,u2,u3,u4⟩:=rQ (ts:=ts) hm7 hs7 hI12 hI6 ((hC.suf b5).suf o3) (by omega) odd;have hlc3:=u4.1;obtain⟨d,C4,d1,d2,d3⟩:=yT (ts:=ts) (n:=n) (((hC.suf b5).suf o3).suf u4) (by omega) odd;have hlc4:=d3.1;rw[if_pos rfl,pg,u1];simp only[oZ3];rw[d1];simp only[oZ3]
    refine⟨_,C4,rfl,?_,je (by simp) (fun y hy=>by cases hy) b4 (by simp) (by show acc.length<=1000;omega) (by simp) (fun y hy=>?_) (by simp[I64,k]) (by simp[I64]) (by simp[I64]),d3.trans (u4.trans (o3.trans b5)),?_⟩
    . refine(fitI _).2 ⟨⟨hin.1,hin.2,rfl,fun h=>by simp[hodd]at h⟩,.inr (.inr (.inr (.inr (.inl ⟨k,rfl,rfl,rfl,rfl,rfl,⟨by simp,fun y hy=>?_⟩,hfm⟩))))⟩
      grind
    . have:y=⟨n,d⟩:=by simpa using hy
      subst this;exact⟨by show d.length<=1000;omega,iS u2⟩
    . rw[wt_eq];simp only[ck,List.length_nil,List.map_cons,List.map_nil,List.sum_cons,List.sum_nil];omega
 . obtain⟨hr1,hmem⟩:=member (.inr k);have hMp:0 < x.Members.length:=by
    rcases f6.2.1 with h | h
    . cases h
    . exact h
   have hA1:Aw (r - 1)+20<=Aw r:=by
    obtain⟨r',rfl⟩:∃r',r=r'+1:=⟨r - 1,by omega⟩
    have:=Aw_20 r';show Aw r'+20<=12*Aw r'+20;omega
   have arm : ∀ C0, Suf C0 C -> ∃ v C', (Option.bind (bS ((x.Members.length : Int), ts, C0, odd)) fun r_65 => if inR r_65.1 x.Members.length = true then
    (co ((x.Members.getD r_65.1.toNat ag).Type_,r_65.2.1,r_65.2.2.1,r_65.2.2.2)).bind fun r_70=>
     some ((⟨x.Kind,false,0,[],(x.Members.getD r_65.1.toNat ag).ID,[],[r_70.1],[]⟩:ab),r_70.2.1,r_70.2.2.1,r_70.2.2.2)
    else none)=some (v,ts,C',odd)/\vfit ts (!odd) (t:Int) v/\OkV v/\Suf C' C/\wt v+32574360*C'.length<=Aw r+32574360*C.length:=by
    intro C0 hs0;have hlc0:=hs0.1;obtain⟨q,C1,n1,n2,n3,n4,n5⟩:=de (ts:=ts) (n:=(x.Members.length:Int)) ⟨by omega,by omega⟩ (hC.suf hs0) (by omega) odd;obtain⟨j,rfl⟩:∃j:Nat,q=(j:Int):=⟨q.toNat,by omega⟩
    have hlc:=n4.1;have hj:j < x.Members.length:=by omega
    have hm:=aB hj ag;obtain⟨w,C2,m1,m2,m3,m4,m5⟩:=hmem _ hm C1 ((hC.suf hs0).suf n4) (by omega);have hlc2:=m4.1;rw[n1];simp only[oZ3];rw[if_pos (au hj)];simp only[av];rw[m1];simp only[oZ3];have hI:=f6.2.2.1.2 _ hm
    refine⟨_,C2,rfl,?_,je (by simp) (fun y hy=>by cases hy) (fun y hy=>?_) (by simp) (by simp) (by simp) (fun y hy=>by cases hy) (by simp[I64,k]) (by simp[I64]) (iS hI),m4.trans (n4.trans hs0),?_⟩
    . refine(fitI _).2 ⟨⟨hin.1,hin.2,rfl,fun _=>rfl⟩,.inr (.inr (.inr (.inr (.inr (.inl ⟨k,rfl,rfl,rfl,rfl,?_⟩)))))⟩;have hfind:findM x.Members (x.Members.getD j ag).ID=some (x.Members.getD j ag):=by
       unfold findM;rw[List.find?_eq_some_iff_getElem];refine⟨by simp,j,hj,(bc hj _).symm,fun i hi=>?_⟩;have hp:=List.pairwise_iff_getElem.1 f6.2.2.1.1 i j (by omega) hj hi;rw[bc hj];simp;omega
      simp only[hfind];refine⟨by first | rfl | trivial,by first | rfl | trivial,?_⟩;rw[aU];intro y hy;have:y=w:=by simpa using hy
      subst this;exact m2
    . have:y=w:=by simpa using hy
      subst this;exact m3
    . rw[wt_eq];simp only[ci,ck,List.length_nil,List.map_nil,List.sum_nil];omega
   rw[if_neg (by simp[k]),if_neg (by simp[k]),if_neg (by simp[k]),if_neg (by simp[k]),if_neg (by simp[k]),if_pos (by simp[k])];simp only[ab.aA];cases ho:x.Open with
   | false=>
    rw[if_neg (by simp),if_neg (by simp)];obtain⟨v,C',a1,a2,a3,a4,a5⟩:=arm C (Suf.refl _)
    grind
   | true=>
    obtain⟨o,C2,o1,o2,o3⟩:=tn (ts:=ts) hC (by omega) odd;have hlc2:=o3.1;rw[if_pos rfl,o1];simp only[oZ3,cond_true];cases o with
    | false=>grind
    | true=>
     have hodd:odd=true:=by grind
     obtain⟨n,C3,u1,u2,u3,u4⟩:=rQ (ts:=ts) hm7 hs7 hI12 hI6 (hC.suf o3) (by omega) odd;have hlc3:=u4.1;obtain⟨d,C4,d1,d2,d3⟩:=yT (ts:=ts) (n:=n) ((hC.suf o3).suf u4) (by omega) odd;have hlc4:=d3.1;rw[if_pos rfl,u1];simp only[oZ3];rw[d1];simp only[oZ3]
     refine⟨_,C4,rfl,?_,je (by simp) (fun y hy=>by cases hy) (fun y hy=>by cases hy) (by simp) (by simp) (by simp) (fun y hy=>?_) (by simp[I64,k]) (by simp[I64]) (iS u2),d3.trans (u4.trans o3),?_⟩
     . grind
     . have:y=⟨n,d⟩:=by simpa using hy
       subst this;exact⟨by show d.length<=1000;omega,iS u2⟩
     . rw[wt_eq];simp only[ck,List.length_nil,List.map_cons,List.map_nil,List.sum_cons,List.sum_nil];omega
 . have em:addI .i64 (minI x.Max 3) 1=min x.Max 3+1:=by
    have:minI x.Max 3=min x.Max 3:=rfl;rw[this,cC (by omega) (by omega)]
   have hel:0<=x.Elem/\x.Elem < ts.length:=hU x.Elem (by unfold usesL;simp[k]);obtain⟨q,C1,n1,n2,n3,n4,n5⟩:=de (ts:=ts) (n:=min x.Max 3+1) ⟨by omega,by omega⟩ hC (by omega) odd;obtain⟨j,rfl⟩:∃j:Nat,q=(j:Int):=⟨q.toNat,by omega⟩
   have hlc:=n4.1
   have loop:∃acc C',fW ((j:Int),ts,C1,odd,0,false,0,[],0,x.Kind,x.Name,x.Low,x.High,x.Max,x.Symbols,x.Members,x.Key,x.Elem,x.Open,x.Kind,false,0,[],0,[])=some (ts,C',odd,0,false,0,[],0,x.Kind,false,0,[],0,acc)/\acc.length=j/\(∀y,y∈acc->vfit ts (!odd) x.Elem y/\OkV y)/\Suf C' C/\10+wts acc+32574360*C'.length<=Aw r+32574360*C.length:=by
    rcases n5 with⟨h0,h1,h2⟩ | h1
    . have:j=0:=by omega
      subst this;refine⟨[],C1,by rw[fW,if_neg (by simp)],rfl,fun y hy=>(by cases hy),n4,?_⟩;rw[ck];omega
    . obtain⟨acc,C',b1,b2,b3,b4,b5⟩:=Ab (ts:=ts) (odd:=odd) (c:=C1.length) (r:=5) (by omega) (x:=x) (fun C2 hC2 hl2=>below C1 h1 x.Elem hel.1 hel.2 C2 hC2 hl2) 0 false 0 [] 0 x.Kind false 0 [] 0 j C1 [] (by simp;omega) (hC.suf n4) (by omega) (fun y hy=>by cases hy);refine⟨acc,C',b1,by simpa using b2,b3,b4.trans n4,?_⟩;rw[ck,Aw_5]at b5;omega
   obtain⟨acc,C',b1,b2,b3,b4,b5⟩:=loop;rw[if_neg (by simp[k]),if_neg (by simp[k]),if_neg (by simp[k]),if_neg (by simp[k]),if_neg (by simp[k]),if_neg (by simp[k]),if_pos (by simp[k]),em,n1];simp only[oZ3];rw[b1];simp only[oZ3]
   refine⟨_,C',rfl,?_,je (by simp) (fun y hy=>by cases hy) (fun y hy=>(b3 y hy).2) (by simp) (by show acc.length<=1000;omega) (by simp) (fun y hy=>by cases hy) (by simp[I64,k]) (by simp[I64]) (by simp[I64]),b4,?_⟩
   . exact(fitI _).2 ⟨⟨hin.1,hin.2,rfl,fun _=>rfl⟩,.inr (.inr (.inr (.inr (.inr (.inr (.inl ⟨k,rfl,rfl,rfl,rfl,rfl,rfl,by show(acc.length:Int)<=x.Max;omega,aU.2 fun y hy=>(b3 y hy).1⟩))))))⟩
   . rw[wt_eq];simp only[ck,List.length_nil,List.map_nil,List.sum_nil];omega
 . have em:addI .i64 (minI x.Max 3) 1=min x.Max 3+1:=by
    have:minI x.Max 3=min x.Max 3:=rfl;rw[this,cC (by omega) (by omega)]
   have hel:0<=x.Elem/\x.Elem < ts.length:=hU x.Elem (by unfold usesL;simp[k]);have hkl:0<=x.Key/\x.Key < ts.length:=hU x.Key (by unfold usesL;simp[k]);obtain⟨q,C1,n1,n2,n3,n4,n5⟩:=de (ts:=ts) (n:=min x.Max 3+1) ⟨by omega,by omega⟩ hC (by omega) odd;obtain⟨j,rfl⟩:∃j:Nat,q=(j:Int):=⟨q.toNat,by omega⟩
   have hlc:=n4.1;have hasc0:cr []:=fun i hi=>by simp at hi
   have loop:∃ks is C',fX ((j:Int),ts,C1,odd,0,false,0,[],0,x.Kind,x.Name,x.Low,x.High,x.Max,x.Symbols,x.Members,x.Key,x.Elem,x.Open,x.Kind,false,0,[],0,[],[],[])=some (ts,C',odd,0,false,0,[],0,x.Kind,false,0,[],0,ks,is,[])/\ks.length<=j/\is.length=ks.length/\(∀y,y∈ks->vfit ts (!odd) x.Key y/\OkV y)/\(∀y,y∈is->vfit ts (!odd) x.Elem y/\OkV y)/\cr ks/\Suf C' C/\10+wts ks+wts is+32574360*C'.length<=Aw r+32574360*C.length:=by
    rcases n5 with⟨h0,h1,h2⟩ | h1
    . have:j=0:=by omega
      subst this;refine⟨[],[],C1,by rw[fX,if_neg (by simp)],by simp,rfl,fun y hy=>(by cases hy),fun y hy=>(by cases hy),hasc0,n4,?_⟩;rw[ck];omega
    . obtain⟨ks,is,C',b1,b2,b3,b4,b5,b6,b7,b8⟩:=Bs (ts:=ts) (odd:=odd) (c:=C1.length) (r:=5) (by omega) (x:=x) (fun C2 hC2 hl2=>below C1 h1 x.Key hkl.1 hkl.2 C2 hC2 hl2) (fun C2 hC2 hl2=>below C1 h1 x.Elem hel.1 hel.2 C2 hC2 hl2) 0 false 0 [] 0 x.Kind false 0 [] 0 [] j C1 [] [] (by simp;omega) rfl (hC.suf n4) (by omega) (fun y hy=>by cases hy) (fun y hy=>by cases hy) hasc0
      refine⟨ks,is,C',b1,by simpa using b2,b3,b4,b5,b6,b7.trans n4,?_⟩;rw[ck,Aw_5]at b8;omega
   obtain⟨ks,is,C',b1,b2,b3,b4,b5,b6,b7,b8⟩:=loop;rw[if_neg (by simp[k]),if_neg (by simp[k]),if_neg (by simp[k]),if_neg (by simp[k]),if_neg (by simp[k]),if_neg (by simp[k]),if_neg (by simp[k]),if_pos (by simp[k]),em,n1];simp only[oZ3];rw[b1];simp only[oZ3]
   refine⟨_,C',rfl,?_,je (by simp) (fun y hy=>(b4 y hy).2) (fun y hy=>(b5 y hy).2) (by show ks.length<=1000;omega) (by show is.length<=1000;omega) (by simp) (fun y hy=>by cases hy) (by simp[I64,k]) (by simp[I64]) (by simp[I64]),b7,?_⟩
   . exact(fitI _).2 ⟨⟨hin.1,hin.2,rfl,fun _=>rfl⟩,.inr (.inr (.inr (.inr (.inr (.inr (.inr (.inl ⟨k,rfl,rfl,rfl,rfl,rfl,by show(ks.length:Int)<=x.Max;omega,b3,aU.2 fun y hy=>(b4 y hy).1,aU.2 fun y hy=>(b5 y hy).1,b6⟩)))))))⟩
   . rw[wt_eq]
     grind
 . have hel:0<=x.Elem/\x.Elem < ts.length:=hU x.Elem (by unfold usesL;simp[k]);obtain⟨q,C1,n1,n2,n3,n4,n5⟩:=de (ts:=ts) (n:=2) ⟨by omega,by omega⟩ hC (by omega) odd;have hlc:=n4.1;rw[if_neg (by simp[k]),if_neg (by simp[k]),if_neg (by simp[k]),if_neg (by simp[k]),if_neg (by simp[k]),if_neg (by simp[k]),if_neg (by simp[k]),if_neg (by simp[k]),n1]
   simp only[oZ3,ab.aA];by_cases h1:q=1
   . have hc1:C1.length+1=C.length:=by omega
     obtain⟨w,C2,m1,m2,m3,m4,m5⟩:=below C1 hc1 x.Elem hel.1 hel.2 C1 (hC.suf n4) (by omega);have hlc2:=m4.1;rw[Aw_5]at m5;rw[if_pos (by simpa using h1),m1];simp only[oZ3]
     refine⟨_,C2,rfl,?_,je (by simp) (fun y hy=>by cases hy) (fun y hy=>?_) (by simp) (by simp) (by simp) (fun y hy=>by cases hy) (by simp[I64,k]) (by simp[I64]) (by simp[I64]),m4.trans n4,?_⟩
     . refine(fitI _).2 ⟨⟨hin.1,hin.2,rfl,fun _=>rfl⟩,.inr (.inr (.inr (.inr (.inr (.inr (.inr (.inr ⟨k,rfl,rfl,rfl,rfl,rfl,rfl,by simp,aU.2 fun y hy=>?_⟩)))))))⟩
       grind
     . grind
     . rw[wt_eq];simp only[ci,ck,List.length_nil,List.map_nil,List.sum_nil];omega
   . rw[if_neg (by simpa using h1)];refine⟨_,C1,rfl,?_,fL rfl rfl rfl (by simp) (by simp[I64,k]) (by simp[I64]) (by simp[I64]),n4,leaf _ _ rfl rfl rfl (by simp) n4⟩;exact(fitI _).2 ⟨⟨hin.1,hin.2,rfl,fun _=>rfl⟩,.inr (.inr (.inr (.inr (.inr (.inr (.inr (.inr ⟨k,rfl,rfl,rfl,rfl,rfl,rfl,by simp,aU.2 fun y hy=>by cases hy⟩)))))))⟩
theorem Bt(H:DrOk ts){odd:Bool}:∀(c:Nat),c<=60->∀r,Gd ts odd c r:=by
 intro c
 induction c using Nat.strongRecOn with
 | ind c ihc=>
  intro hc r
  induction r using Nat.strongRecOn with
  | ind r ihr=>exact Lu H hc (fun c' h=>ihc c' h (by omega) 5) (fun r' h=>ihr r' h)
theorem Lv(H:DrOk ts){t:Int}(ht:0<=t/\t < ts.length){C:List Int}(hC:CU8 C)(hl:C.length<=reachBytes):∃v,lj ((⟨ts⟩:az),t,C)=some v/\vfit ts true t v/\OkV v/\wt v<=2147483648:=by
 obtain⟨j,rfl⟩:∃j:Nat,t=(j:Int):=⟨t.toNat,by omega⟩
 have hr:=aQ hl;have hm:minI 60 (C.length:Int)=((min 60 C.length:Nat):Int):=sC 60 C.length;have hs:CU8 (C.take (min 60 C.length)):=fun c hc=>hC c (List.mem_of_mem_take hc)
 have hlen:(C.take (min 60 C.length)).length<=60:=by rw[List.length_take];omega
 have hsl:slR 0 ((min 60 C.length:Nat):Int) C.length=true:=dB (a:=0) (by omega) (by omega);obtain⟨v,C',h1,h2,h3,h4,h5⟩:=Bt H (odd:=false) 60 (by omega) 5 j (by omega) (tp H (by omega)) _ hs hlen;rw[lj];simp only[oZ4,oZ3];rw[hm,if_pos hsl,iH,h1];refine⟨v,by simp only[oZ3,ab.aA],h2,h3,?_⟩;rw[Aw_5]at h5;omega
theorem Hv(H:DrOk ts){t:Int}(ht:0<=t/\t < ts.length){C:List Int}(hC:CU8 C)(hl:C.length<=reachBytes):∃v,kO ((⟨ts⟩:az),t,C)=some v/\vfit ts false t v/\OkV v/\wt v<=2147483648:=by
 obtain⟨j,rfl⟩:∃j:Nat,t=(j:Int):=⟨t.toNat,by omega⟩
 have hr:=aQ hl;have hm:minI 60 (C.length:Int)=((min 60 C.length:Nat):Int):=sC 60 C.length;have hs:CU8 (C.take (min 60 C.length)):=fun c hc=>hC c (List.mem_of_mem_take hc)
 have hlen:(C.take (min 60 C.length)).length<=60:=by rw[List.length_take];omega
 have hsl:slR 0 ((min 60 C.length:Nat):Int) C.length=true:=dB (a:=0) (by omega) (by omega);obtain⟨v,C',h1,h2,h3,h4,h5⟩:=Bt H (odd:=true) 60 (by omega) 5 j (by omega) (tp H (by omega)) _ hs hlen;rw[kO];simp only[oZ4,oZ3];rw[hm,if_pos hsl,iH,h1];refine⟨v,by simp only[oZ3,ab.aA],h2,h3,?_⟩;rw[Aw_5]at h5;omega
end
structure DrIn (d:dq):Prop where
 s:DOk d.S
 t:U8 d.T
 c:CU8 d.C
 l:d.C.length<=reachBytes
theorem of8 {d : dq} (hd : DrIn d): (∃ s t v w, ir d = some (s, t, v, w, false)) \/
 ∃ts t v w,ir d=some (⟨ts⟩,t,v,w,true)/\DrOk ts/\(0<=t/\t < ts.length)/\(vfit ts true t v/\OkV v/\wt v<=2147483648)/\(vfit ts false t w/\OkV w/\wt w<=2147483648):=by
 rw[ir];rcases of_ok hd.s with h | ⟨l,h,H⟩
 . rw[h];exact .inl ⟨_,_,_,_,rfl⟩
 . right;have hn1:=H.n1;have hn5:=H.n5;have ht:=hd.t;unfold U8 at ht;have r0:0<=d.T % (l.length:Int):=Int.emod_nonneg _ (by omega);have r1:d.T % (l.length:Int) < l.length:=Int.emod_lt_of_pos _ (by omega);obtain⟨v,v1,v2⟩:=Lv H ⟨r0,r1⟩ hd.c hd.l;obtain⟨w,w1,w2⟩:=Hv H ⟨r0,r1⟩ hd.c hd.l;rw[h];simp only[oZ4,oZ3]
   rw[if_neg (by simp),if_pos (nz (by omega)),dm ⟨by omega,by omega⟩,bM ht.1 (by omega),v1];simp only[oZ3];rw[w1];exact⟨l,_,v,w,by simp only[oZ3,ab.aA],H,⟨r0,r1⟩,v2,w2⟩
theorem yV{ts:List ae}(H:SOk ts){v:ab}(hv:OkV v)(t:Int)(pl:Bool):SaysP (cA ((⟨ts⟩:az),t,v,pl)) (vfit ts pl t v):=by
 obtain⟨r,h1,h2⟩:=yK (by have:=H.n;omega) H.T H.K hv t pl;obtain⟨q,q1,q2⟩:=Iv (by have:=H.n;omega) H.T H.K hv t pl;rw[h1]at q2;have:r=q:=Option.some.inj q2;subst this;exact⟨r,q1,h2⟩
theorem KH{l:List Fd}(hp:di ltF l=true)(hn:l.Pairwise (fun a b=>a.id≠b.id)):(isoB ltF l).Pairwise (fun a b=>a.id < b.id):=by
 have h1:=ou zS l;have h2:(isoB ltF l).Pairwise (fun a b=>a.id≠b.id):=(iL ltF l).symm.pairwise hn (fun {a b} h=>fun e=>h e.symm);refine(h1.and h2).imp fun {a b} h=>?_
 have:=h.1;have:=h.2;simp only[ltF,decide_eq_false_iff_not]at*;omega
theorem IG{ts:List ae}{ms:List aj}{l:List ab}{r:List aG}(h:MAsc ms)(hr:dS ms r):(dj ts ms l r).Pairwise (fun a b=>a.id≠b.id):=by
 have:=qO (ts:=ts) (l:=l) h hr;have key:∀q:List Fd,di ltF q=true->q.Pairwise (fun a b=>a.id≠b.id):=by
  intro q
  induction q with
  | nil=>intro _;exact .nil
  | cons a q ih=>
   intro h;simp only[di,Bool.and_eq_true,List.all_eq_true,Bool.or_eq_true,ltF,decide_eq_true_eq]at h;rw[List.pairwise_cons]
   grind
 grind
def fdS(f:Fd):aY:=⟨(f.id:Int),f.c,f.p⟩
theorem xX : ∀ (l : List Fd) (last : Nat) (b : List aY), l.Pairwise (fun a b => a.id < b.id) -> (∀ f, f ∈ l -> last < f.id /\ f.id <= 1000) -> (l.flatMap Fd.text).length <= 100000 -> b.length + l.length <= 90000 ->
 cd ((last:Int),l.flatMap Fd.text,b)=some (.inr (b++l.map fdS))
 | [],last,b,_,_,_,_=>by
  rw[cd,if_neg (by simp)];simp
 | f::l,last,b,hp,hr,hl,hb=>by
  rw[List.pairwise_cons]at hp;obtain⟨h1,h2⟩:=hr f (.head _);rw[List.flatMap_cons]at hl ⊢;have ht:f.text=bz f.id f.c f.p:=rfl;rw[ht]at hl ⊢;rw[Gg h1 h2 hl (by simp at hb;omega)];have hl2:(l.flatMap Fd.text).length<=100000:=by rw[List.length_append]at hl;omega
  rw[xX l f.id _ hp.2 (fun g hg=>⟨hp.1 g hg,(hr g (.tail _ hg)).2⟩) hl2 (by simp at hb ⊢;omega)];simp[fdS]
theorem Hw{p rest:List UInt8}{b:List (List UInt8)}(h:(aW p++rest).length<=100000)(hb:b.length<=90000):cG (aW p++rest,b)=cG (rest,b++[p]):=by
 have hpl:p.length<=100000:=by simp only[aW,List.length_append]at h;omega
 have hne:aW p++rest≠[]:=by
  intro hc;have h2:=congrArg List.length hc;have:=me p.length;simp only[aW,List.length_append,List.length_nil]at h2;omega
 rw[cG,if_pos (by simp only[Bool.not_eq_true',decide_eq_false_iff_not];exact hne),kf (by omega),vX hpl];simp only[oZ4,oZ3];have hnn:¬((!(encP (some (p,rest))).2.2)=true):=by simp[encP]
 have hr:room 16 (b++[(encP (some (p,rest))).1]).length=true:=aR (by omega) (by simp;omega);rw[if_neg hnn,if_pos hr];rfl
theorem yW :∀(l:List (List UInt8)) (b:List (List UInt8)),(l.flatMap aW).length<=100000->b.length+l.length<=90000->cG (l.flatMap aW,b)=some (.inr (b++l))
 | [],b,_,_=>by
  rw[cG,if_neg (by simp)];simp
 | p::l,b,hl,hb=>by
  rw[List.flatMap_cons]at hl ⊢;rw[Hw hl (by simp at hb;omega),yW l _ (by rw[List.length_append]at hl;omega) (by simp at hb ⊢;omega)];simp
def weave :List (List UInt8)->List (List UInt8)->List (List UInt8)
 | k::ks,v::vs=>k::v::weave ks vs
 | _,_=>[]
theorem sd :∀a b,ilv a b=(weave a b).flatMap aW
 | [],b=>by simp[ilv,weave]
 | k::ks,[]=>by simp[ilv,weave]
 | k::ks,v::vs=>by simp[ilv,weave,sd ks vs]
theorem xY :∀a b:List (List UInt8),a.length=b.length->(weave a b).length=a.length+b.length
 | [],[],_=>rfl
 | k::ks,v::vs,h=>by
  simp only[weave,List.length_cons];have:=xY ks vs (by simpa using h);omega
theorem Hx(p:List UInt8):1<=(aW p).length:=by
 have:=me p.length;unfold aW;rw[List.length_append];omega
theorem v8 :∀l:List (List UInt8),l.length<=(l.flatMap aW).length
 | []=>by simp
 | p::l=>by
  have:=v8 l;have:=Hx p
  grind
theorem KI(f:Fd):1<=f.text.length:=by
 have:=me (2*f.id+(if f.c then 1 else 0));unfold Fd.text bz;rw[List.length_append];omega
theorem wa :∀l:List Fd,l.length<=(l.flatMap Fd.text).length
 | []=>by simp
 | p::l=>by
  have:=wa l;have:=KI p
  grind
theorem Ac{d:aT}(h:WF Un ⟨.slice (.nm jx),d.Nodes⟩):DOk d:=by
 obtain⟨a,_,c⟩:=jY (t:= .nm jx) h;refine⟨a,fun x hx=>?_⟩;have hc:=c x hx;have u8:∀{n:Int},WF Un ⟨.int .u8,n⟩->U8 n:=fun {n} h=>by
  cases h with
  | int k n h=>
   simp[Lit.wf,IntKind.min,IntKind.max,IntKind.bits,IntKind.signed]at h;unfold U8;omega
 have c1:=hc ⟨.int .u8,x.Kind⟩ (.head _);have c2:=hc ⟨.int .u8,x.A⟩ (.tail _ (.head _));have c3:=hc ⟨.int .u8,x.B⟩ (.tail _ (.tail _ (.head _)));have c4:=hc ⟨.int .u8,x.C⟩ (.tail _ (.tail _ (.tail _ (.head _))));have c5:=hc ⟨.slice (.nm nD),x.Parts⟩ (.tail _ (.tail _ (.tail _ (.tail _ (.head _)))));obtain⟨p1,_,p3⟩:=jY (t:= .nm nD) c5
 refine⟨u8 c1,u8 c2,u8 c3,u8 c4,fun q hq=>?_,p1⟩;have hq':=p3 q hq;exact⟨u8 (hq' ⟨.int .u8,q.ID⟩ (.head _)),u8 (hq' ⟨.int .u8,q.Type_⟩ (.tail _ (.head _))),u8 (hq' ⟨.int .u8,q.Flag⟩ (.tail _ (.tail _ (.head _))))⟩
theorem KL{d:dq}(h:∀c,c∈Un.flds Dx d->WF Un c):DrIn d:=by
 have c1:=h ⟨.slice (.nm jx),d.S.Nodes⟩ (.head _);have c2:=h ⟨.int .u8,d.T⟩ (.tail _ (.head _));have c3:=h ⟨.slice (.int .u8),d.C⟩ (.tail _ (.tail _ (.head _)));obtain⟨a,_,c⟩:=jY (t:= .int .u8) c3;have u8:∀{n:Int},WF Un ⟨.int .u8,n⟩->U8 n:=fun {n} h=>by
  cases h with
  | int k n h=>
   simp[Lit.wf,IntKind.min,IntKind.max,IntKind.bits,IntKind.signed]at h;unfold U8;omega
 exact⟨Ac c1,u8 c2,fun n hn=>u8 (c n hn ⟨.int .u8,n⟩ (.head _)),a⟩
def fb(n:Nat):List UInt8->Nat
 | []=>n
 | c::s=>fb (n*256+c.toNat) s
theorem fb_lt :∀(s:List UInt8) (n k:Nat),n < 256 ^ k->fb n s < 256 ^ (k+s.length)
 | [],n,k,h=>by simpa[fb]using h
 | c::s,n,k,h=>by
  have hc:c.toNat < 256:=UInt8.toNat_lt c;have h1:n*256+c.toNat < 256 ^ (k+1):=by rw[Nat.pow_succ];omega
  have:=fb_lt s _ (k+1) h1;simp only[fb,List.length_cons]
  grind
theorem shl8{n:Nat}(h:n < 72057594037927936):shlI .u64 (n:Int) 8=((n*256:Nat):Int):=by
 unfold shlI;have e:((2:Int) ^ min (8:Int).toNat IntKind.u64.bits)=256:=by decide
 rw[e];have:(n:Int)*256=((n*256:Nat):Int):=by push_cast;rfl
 rw[this];exact wrapu (by omega) (by omega)
theorem Lw{a b:Nat}(ha:a < 72057594037927936)(hb:b < 256):orI .u64 ((a*256:Nat):Int) (b:Int)=((a*256+b:Nat):Int):=by
 have e:(BitVec.ofInt 64 ((a*256:Nat):Int) ||| BitVec.ofInt 64 (b:Int)).toNat=a*256+b:=by
  rw[BitVec.ofInt_natCast,BitVec.ofInt_natCast,BitVec.toNat_or,BitVec.toNat_ofNat,BitVec.toNat_ofNat,two64,Nat.mod_eq_of_lt (by omega),Nat.mod_eq_of_lt (by omega)];have h:=Nat.shiftLeft_add_eq_or_of_lt (show b < 2 ^ 8 by omega) a;rw[Nat.shiftLeft_eq]at h;exact h.symm
 show IntKind.u64.wrap (((BitVec.ofInt 64 ((a*256:Nat):Int) ||| BitVec.ofInt 64 (b:Int)).toNat:Nat):Int)=_;rw[e];exact wrapu (by omega) (by omega)
theorem NV :(256:Nat) ^ 8=18446744073709551616:=by decide
theorem sG{s:List UInt8}(hs:s.length<=8):∀(k i n:Nat),i+k=s.length->n < 256 ^ i->fj (s,(n:Int),(s.length:Int),(i:Int))=some ((fb n (s.drop i):Nat):Int)
 | 0,i,n,hi,hn=>by
  rw[fj,if_neg (by simp;omega),List.drop_eq_nil_of_le (by omega:s.length<=i)];rfl
 | k+1,i,n,hi,hn=>by
  have hlt:i < s.length:=by omega
  have hb:=r4 s i;have hn7:n < 72057594037927936:=by
   have:(256:Nat) ^ i<=256 ^ 7:=Nat.pow_le_pow_right (by omega) (by omega);omega
  rw[fj,if_pos (by simp;omega),if_pos (au hlt),shl8 hn7,jM,wrpn (by omega),Lw hn7 hb,aD (by omega),sG hs k (i+1) _ (by omega) (by rw[Nat.pow_succ];omega),bm hlt 0];rfl
def vub(s:List UInt8):Option Nat:=if s.head?=some 0\/8 < s.length then none else some (fb 0 s)
theorem Bu{s:List UInt8}{n:Nat}(h:vub s=some n):n < 18446744073709551616:=by
 unfold vub at h;split at h
 . cases h
 . rename_i hh;cases h;have:=fb_lt s 0 0 (by simp);have h2:(256:Nat) ^ (0+s.length)<=256 ^ 8:=Nat.pow_le_pow_right (by omega) (by omega);omega
theorem xZ{s:List UInt8}(h:s≠[]):(bu s 0=0)↔s.head?=some 0:=by
 cases s with
 | nil=>exact absurd rfl h
 | cons c s=>
  have:bu (c::s) 0=(c.toNat:Int):=jM (c::s) 0;rw[this];simp only[List.head?_cons,Option.some.injEq];constructor
  . intro h;exact UInt8.toNat_inj.1 (by simpa using h)
  simp_all
theorem Lx(s:List UInt8):∃r,lz s=some r/\(r.2=0->∃n,vub s=some n/\r.1=(n:Int))/\(r.2≠0->vub s=none):=by
 rw[lz];simp only[oZ4,oZ3];by_cases h0:s=[]
 . subst h0;have e1:fj ([],0,((([]:List UInt8)).length:Int),0)=some ((fb 0 []:Nat):Int):=sG (s:=[]) (by simp) 0 0 0 rfl (by simp);refine⟨(((fb 0 []:Nat):Int),0),?_,fun _=>⟨0,rfl,rfl⟩,fun h=>absurd rfl h⟩
   grind
 . have hpos:0 < s.length:=List.length_pos_iff.2 h0;have hin:inR 0 s.length=true:=au (k:=0) hpos;have hd:(!(decide (s=[])))=true:=by simp[h0]
   rw[hd,hin];simp only[Bool.true_or,if_true,cond_true];by_cases hz:bu s 0=0
   . rw[if_pos (by simp[hz])];refine⟨_,rfl,fun h=>(by cases h),fun _=>?_⟩;unfold vub;rw[if_pos (.inl ((xZ h0).1 hz))]
   . rw[if_neg (by simp[hz])];by_cases h8:8 < s.length
     . rw[if_pos (by simp;omega)];refine⟨_,rfl,fun h=>(by cases h),fun _=>?_⟩;unfold vub;rw[if_pos (.inr h8)]
     . have e1:fj (s,0,(s.length:Int),0)=some ((fb 0 s:Nat):Int):=sG (by omega) s.length 0 0 (by omega) (by simp);rw[if_neg (by simp;omega),e1];refine⟨_,rfl,fun _=>⟨fb 0 s,?_,rfl⟩,fun h=>absurd rfl h⟩;unfold vub;rw[if_neg]
       rintro (h | h)
       . exact hz ((xZ h0).2 h)
       omega
def unz(n:Nat):Int:=if n % 2=0 then((n / 2:Nat):Int)else -((n / 2:Nat):Int) - 1
theorem Ly{n:Int}(h:I64 n):unz (zig n).toNat=n:=by
 unfold unz zig I64 at*;omega
theorem and1{n:Nat}(h:n < 18446744073709551616):andI .u64 (n:Int) 1=((n % 2:Nat):Int):=by
 have e:(BitVec.ofInt 64 (n:Int) &&& BitVec.ofInt 64 (1:Int)).toNat=n % 2:=by grind
 show IntKind.u64.wrap (((BitVec.ofInt 64 (n:Int) &&& BitVec.ofInt 64 (1:Int)).toNat:Nat):Int)=_;rw[e];exact wrapu (by omega) (by omega)
theorem shr1{n:Nat}:shrI .u64 (n:Int) 1=((n / 2:Nat):Int):=by
 unfold shrI;have:((2:Int) ^ min (1:Int).toNat IntKind.u64.bits)=2:=by decide
 grind
theorem IH{a:Nat}(h:a < 9223372036854775808):xorI .i64 (a:Int) 0=(a:Int):=by
 have e:(BitVec.ofInt 64 (a:Int) ^^^ BitVec.ofInt 64 (0:Int)).toNat=a:=by grind
 show IntKind.i64.wrap (((BitVec.ofInt 64 (a:Int) ^^^ BitVec.ofInt 64 (0:Int)).toNat:Nat):Int)=_;rw[e,IntKind.wrap_i64];omega
theorem II{a:Nat}(h:a < 9223372036854775808):xorI .i64 (a:Int) (-1)= -(a:Int) - 1:=by
 have e:(BitVec.ofInt 64 (a:Int) ^^^ BitVec.ofInt 64 (-1:Int)).toNat=18446744073709551615 - a:=by
  have h1:BitVec.ofInt 64 (-1:Int)=BitVec.allOnes 64:=by decide
  rw[h1,BitVec.ofInt_natCast,BitVec.xor_allOnes,BitVec.toNat_not,BitVec.toNat_ofNat,two64,Nat.mod_eq_of_lt (by omega)]
 all_goals (try omega)
 show IntKind.i64.wrap (((BitVec.ofInt 64 (a:Int) ^^^ BitVec.ofInt 64 (-1:Int)).toNat:Nat):Int)=_;rw[e,IntKind.wrap_i64];omega
theorem NW{n:Nat}(h:n < 18446744073709551616):nN (n:Int)=some (unz n):=by
 rw[nN,shr1,and1 h,wrp64 (by omega) (by omega),wrp64 (by omega) (by omega),cb (by omega) (by omega)];unfold unz;by_cases h0:n % 2=0
 . rw[if_pos h0,h0];have:(0:Int) - ((0:Nat):Int)=0:=rfl;rw[this,IH (by omega)]
 . have h1:n % 2=1:=by omega
   rw[if_neg h0,h1];have:(0:Int) - ((1:Nat):Int)= -1:=rfl;rw[this,II (by omega)]
def vI(p:List UInt8):Option (List (List UInt8)):=match fA p with
 | some (l,e)=>if e=0 then some l else none
 | none=>none
def vFl(p:List UInt8):Option (List aY):=match gz p with
 | some (l,e)=>if e=0 then some l else none
 | none=>none
def vA(p:List UInt8):Option (Int×List UInt8):=match gI p with
 | some (id,q,e)=>if e=0 then some (id,q)else none
 | none=>none
theorem x2 :∀(n:Nat) (s:List UInt8) (b l:List (List UInt8)),s.length<=n->s.length+b.length<=100000->cG (s,b)=some (.inr l)->∀q,q∈l->q∈b\/q.length<=s.length
 | n,s,b,l,hn,hb,h=>by
  rw[cG]at h;by_cases h0:s=[]
  . grind
  . rw[if_pos (by simp[h0]),kf (by omega)]at h;simp only[oZ4,oZ3]at h;cases hv:vpart s with
    | none=>
     rw[hv]at h;simp[encP]at h
    | some r=>
     obtain⟨x,rest⟩:=r;rw[hv]at h;have hl:=oV hv;have hnn:¬((!(encP (some (x,rest))).2.2)=true):=by simp[encP]
     have hr:room 16 (b++[(encP (some (x,rest))).1]).length=true:=aR (by omega) (by simp;omega);rw[if_neg hnn,if_pos hr]at h;intro q hq
     match n,hn with
     | 0,hn=>omega
     | n+1,hn=>
      have:=x2 n rest _ l (by omega) (by simp;omega) h q hq;rcases this with h | h
      . rcases List.mem_append.1 h with h | h
        . exact .inl h
        . right;have:q=x:=by simpa[encP]using h
          grind
      omega
theorem w8 : ∀ (n : Nat) (s : List UInt8) (last : Nat) (b l : List aY), s.length <= n -> s.length + b.length <= 100000 -> cd ((last : Int), s, b) = some (.inr l) ->
 ∃l',l=b++l'/\(∀f,f∈l'->f.Data.length<=s.length/\(last:Int) < f.ID/\f.ID<=1000)/\l'.Pairwise (fun a b=>a.ID < b.ID)
 | n,s,last,b,l,hn,hb,h=>by
  rw[cd]at h;by_cases h0:s=[]
  . simp_all
  . rw[if_pos (by simp[h0])]at h;rcases vg0 s with⟨e,he,hg⟩ | ⟨m,k,hg,hk0,hk,hm⟩
    . rw[mc he hg]at h;simp at h
    . rw[iW hg hk]at h;simp only[oZ4,oZ3,quoI2 hm]at h;by_cases hc:((m / 2:Nat):Int)<=(last:Int)\/1000 < ((m / 2:Nat):Int)
      . grind
      . have:¬((bif bif (!true)then true else decide (((m / 2:Nat):Int)<=(last:Int))then true else decide (1000 < ((m / 2:Nat):Int)))=true):=by grind
        rw[if_neg this,kf (by rw[List.length_drop];omega)]at h;simp only[oZ3]at h;cases hv:vpart (s.drop k)with
        | none=>
         rw[hv]at h;simp[encP]at h
        | some r=>
         obtain⟨x,rest⟩:=r;rw[hv]at h;have hl:=oV hv;rw[List.length_drop]at hl;have hnn:¬((!(encP (some (x,rest))).2.2)=true):=by simp[encP]
         have hw:wrp .i64 ((m / 2:Nat):Int)=((m / 2:Nat):Int):=wrp64 (by omega) (by omega);rw[if_neg hnn,hw]at h;have hr:room 32 (b++[(⟨((m / 2:Nat):Int),decide (remI (m:Int) 2=1),(encP (some (x,rest))).1⟩:aY)]).length=true:=aR (by omega) (by simp;omega);rw[if_pos hr]at h
         match n,hn with
         | 0,hn=>omega
         | n+1,hn=>
          obtain⟨l',e,h1,h2⟩:=w8 n rest (m / 2) _ l (by omega) (by simp;omega) h;refine⟨⟨((m / 2:Nat):Int),decide (remI (m:Int) 2=1),(encP (some (x,rest))).1⟩::l',by rw[e];simp,fun f hf=>?_,?_⟩
          . rcases List.mem_cons.1 hf with rfl | hf
            . refine⟨by show x.length<=_;omega,by show(last:Int) < ((m / 2:Nat):Int);omega,by show((m / 2:Nat):Int)<=1000;omega⟩
            grind
          grind
theorem yX{p:List UInt8}(hp:p.length<=90000):∃o,fA p=some o/\(o.2=0->vI p=some o.1/\(∀q,q∈o.1->q.length<=p.length)/\o.1.length<=p.length)/\(o.2≠0->vI p=none):=by
 obtain⟨o,h1,h3⟩:=Kp hp;refine⟨o,h1,fun h0=>⟨?_,?_,h3⟩,fun h0=>?_⟩
 . unfold vI;rw[h1]
   grind
 . obtain⟨o',a1,_⟩:=yA p.length p [] (by omega) (by simp;omega);rw[fA,a1]at h1;cases o' with
   | inl e=>grind
   | inr l=>
    have:o=(l,0):=(Option.some.inj h1).symm;subst this;intro q hq;rcases x2 p.length p [] l (by omega) (by simp;omega) a1 q hq with h | h
    . cases h
    . exact h
 . unfold vI;rw[h1]
   grind
theorem IK{p:List UInt8}(hp:p.length<=90000):∃o,gz p=some o/\(o.2=0->vFl p=some o.1/\(∀f,f∈o.1->f.Data.length<=p.length/\I1000 f.ID)/\o.1.Pairwise (fun a b=>a.ID < b.ID)/\o.1.length<=p.length)/\(o.2≠0->vFl p=none):=by
 obtain⟨o,h1,h3⟩:=Ip hp;obtain⟨o',a1,_⟩:=xH p.length p 0 [] (by omega) (by simp;omega);have key:o.2=0->(∀f,f∈o.1->f.Data.length<=p.length/\I1000 f.ID)/\o.1.Pairwise (fun a b=>a.ID < b.ID):=by
  intro h0;have h1':=h1;have a1':cd (0,p,[])=some o':=a1;rw[gz,a1']at h1';cases o' with
  | inl e=>
   have:o=([],e):=(Option.some.inj h1').symm;simp_all
  | inr l=>
   have:o=(l,0):=(Option.some.inj h1').symm;subst this;obtain⟨l',e,b1,b2⟩:=w8 p.length p 0 [] l (by omega) (by simp;omega) a1;have:l=l':=by simpa using e
   subst this;exact⟨fun f hf=>by have:=b1 f hf;exact⟨this.1,by omega,this.2.2⟩,b2⟩
 refine⟨o,h1,fun h0=>⟨?_,(key h0).1,(key h0).2,h3⟩,fun h0=>?_⟩
 . unfold vFl;rw[h1]
   grind
 . unfold vFl;rw[h1]
   grind
theorem NX(p:List UInt8):∃o,gI p=some o/\(o.2.2=0->vA p=some (o.1,o.2.1)/\o.2.1.length<=p.length/\I1000 o.1)/\(o.2.2≠0->vA p=none):=by
 obtain⟨o,h1⟩:=NE p;have key:o.2.2=0->o.2.1.length<=p.length/\I1000 o.1:=by
  intro h0;have h1':=h1;rw[gI]at h1';rcases vg0 p with⟨e,he,hg⟩ | ⟨m,k,hg,hk0,hk,hm⟩
  . rw[mc he hg]at h1'
    grind
  . rw[iW hg hk]at h1';simp only[oZ4,oZ3]at h1';by_cases hc:(m:Int) < 1\/1000 < (m:Int)
    . grind
    . have hcc:¬((bif bif (!true)then true else decide ((m:Int) < 1)then true else decide (1000 < (m:Int)))=true):=by grind
      rw[if_neg hcc,wrp64 (by omega) (by omega)]at h1';have:o=((m:Int),p.drop k,0):=(Option.some.inj h1').symm;subst this;exact⟨by show(p.drop k).length<=_;rw[List.length_drop];omega,by omega,by show(m:Int)<=1000;omega⟩
 refine⟨o,h1,fun h0=>⟨?_,(key h0).1,(key h0).2⟩,fun h0=>?_⟩
 . unfold vA;rw[h1]
   grind
 . unfold vA;rw[h1]
   grind
theorem Ad :∀(s:List UInt8) (n:Nat) (b:UInt8),fb n (s++[b])=fb n s*256+b.toNat
 | [],n,b=>by simp[fb]
 | a::s,n,b=>by
  simp only[List.cons_append,fb];exact Ad s _ b
theorem Lz(n:Nat):fb 0 (vbig n)=n:=by
 induction n using Nat.strongRecOn with
 | ind n ih=>
  rw[vbig];split
  . rename_i h;subst h;rfl
  . rw[Ad,ih (n / 256) (by omega),cY (by omega)];omega
theorem IL :∀(n:Nat),¬(vbig n).head?=some 0:=by
 intro n
 induction n using Nat.strongRecOn with
 | ind n ih=>
  rw[vbig];split
  . simp
  . rename_i h;have:=ih (n / 256) (by omega);by_cases h2:n < 256
    . have:n / 256=0:=by omega
      rw[this,vbig,if_pos rfl];simp only[List.nil_append,List.head?_cons,Option.some.injEq];intro hc;have h3:=congrArg UInt8.toNat hc;rw[cY (by omega)]at h3
      grind
    . have hne:vbig (n / 256)≠[]:=by rw[vbig,if_neg (by omega)];simp
      cases hv:vbig (n / 256)with
      | nil=>exact absurd hv hne
      | cons a l=>rw[hv]at this;simpa using this
theorem yY{n:Nat}(h:n < 18446744073709551616):vub (vbig n)=some n:=by
 unfold vub;have h1:=IL n;have h2:=jZ 8 n (by rw[NV];exact h)
 rw [if_neg (by rintro (h | h)
                . exact h1 h
                . omega),Lz]
theorem KM{l m:List ab}(hl:l.length=m.length)(h:∀i,i < l.length->l.getD i af=m.getD i af):l=m:=by
 apply List.ext_getElem hl
 grind
theorem mg{ms:List aj}(h:MAsc ms){a b:aj}(ha:a∈ms)(hb:b∈ms)(e:a.ID=b.ID):a=b:=by
 obtain⟨i,hi,rfl⟩:=List.getElem_of_mem ha;obtain⟨j,hj,rfl⟩:=List.getElem_of_mem hb;have key:=List.pairwise_iff_getElem.1 h.1
 grind
theorem fH{ms:List aj}{id:Int}{m:aj}(h:findM ms id=some m):m∈ms/\m.ID=id:=
 ⟨List.mem_of_find?_eq_some h,by simpa using List.find?_some h⟩
theorem yZ{ms:List aj}(hm:MAsc ms){m:aj}(h:m∈ms):findM ms m.ID=some m:=by
 cases hf:findM ms m.ID with
 | none=>exact absurd rfl (iI hf m h)
 | some q=>
  obtain⟨h1,h2⟩:=fH hf;rw[mg hm h1 h h2]
theorem lX{ts:List ae}{t:Int}:∀{l:List ab} {x:ab},x∈l->vlev ts t x<=vlevs ts t l
 | v::l,x,h=>by
  rw[vlevs];rcases List.mem_cons.1 h with rfl | h
  . omega
  . have:=lX (ts:=ts) (t:=t) h;omega
theorem x3{ts:List ae}:∀{ms:List aj} {l:List ab} {j:Nat},j < ms.length->j < l.length->om (ms.getD j ag) (l.getD j af)=false->vlev ts (ms.getD j ag).Type_ (l.getD j af)<=vlevm ts ms l
 | m::ms,v::l,0,_,_,ho=>by
  simp only[List.getD_cons_zero]at ho ⊢;rw[vlevm,if_neg (by rw[ho];simp)];omega
 | m::ms,v::l,j+1,h1,h2,ho=>by
  simp only[List.getD_cons_succ]at ho ⊢;have:=x3 (ts:=ts) (by simpa using h1) (by simpa using h2) ho;rw[vlevm]
  grind
theorem Ae{l:List (List UInt8)}(h:(l.flatMap aW).length<=90000):vI (l.flatMap aW)=some l:=by
 have hl:=v8 l;have:=yW l [] (by omega) (by simp;omega);unfold vI;rw[fA,this];rfl
theorem KN{l:List Fd}(ha:l.Pairwise (fun a b=>a.id < b.id))(hr:∀f,f∈l->1<=f.id/\f.id<=1000)(h:(l.flatMap Fd.text).length<=90000):vFl (l.flatMap Fd.text)=some (l.map fdS):=by
 have hl:=wa l;have hF:=xX l 0 [] ha (fun f h=>⟨by have:=hr f h;omega,(hr f h).2⟩) (by omega) (by simp;omega);have hF':cd (0,l.flatMap Fd.text,[])=some (.inr (l.map fdS)):=by simpa using hF
 unfold vFl;rw[gz,hF'];rfl
theorem NY{n:Nat}(h:1<=n/\n<=1000)(rest:List UInt8):vA (vput n++rest)=some ((n:Int),rest):=by
 unfold vA;have hnx:=iW (sV (n:=n) (by omega) rest) (by simp);rw[gI,hnx];simp only[oZ4,oZ3];have a:¬(n:Int) < 1:=by omega
 have b:¬(1000:Int) < (n:Int):=by omega
 rw[if_neg (by simp only[a,b,Bool.not_true,decide_false,cond_false,Bool.false_eq_true,not_false_eq_true]),wrp64 (by omega) (by omega)];simp
theorem Hy{ts:List ae}{t:Int}{l:List ab}{i:Nat}(h:i < l.length):(vpays ts t l).getD i []=vpay ts t (l.getD i af):=by
 rw[r8,bQ (vpay ts t) l i af [] h]
theorem tq{a b c n r:Nat}(h:a=1+max n b)(hr:a<=r+1)(hc:c<=b):c<=r:=by omega
theorem LB{a b c r:Nat}(h:a=1+max 1 b)(hr:a<=r+1)(hc:c=1):c<=r:=by omega
end
section
open Go Go.Proofs.YtandcioiaooocaaGreat.Shv Go.Sort
set_option maxRecDepth 100000
theorem KO{a:ab}(h:OkV a)(b:ab):Says (nF (a,b)) a b:=by
 obtain⟨r,h1,h2⟩:=pz h b;refine⟨r,?_,h2⟩;rw[nF];simp only[ab.aA];rw[h1];rfl
theorem y3{a:ab}(h:OkV a)(b:ab):Says (eo (a,b)) a b:=Hg h b
def seqO{α β:Type}(f:α->Option β):List α->Option (List β)
 | []=>some []
 | a::l=>match f a,seqO f l with
  | some b,some m=>some (b::m)
  | _,_=>none
def evens{α:Type}:List α->List α
 | a::_::l=>a::evens l
 | _=>[]
def odds{α:Type}:List α->List α
 | _::b::l=>b::odds l
 | _=>[]
def ascB(ks:List ab):Bool:=(List.range (ks.length - 1)).all fun i=>decide (vcmp (ks.getD i af) (ks.getD (i+1) af) < 0)
theorem sH{ks:List ab}:ascB ks=true↔cr ks:=by
 unfold ascB cr
 grind
def vdec(ts:List ae):Nat->Int->List UInt8->Option ab
 | 0,_,_=>none
 | n+1,t,p=>
  let x:=ts.getD t.toNat ap
  if x.Kind=1 then(if p=[]then some ⟨1,false,0,[],0,[],[],[]⟩else if p=[1]then some ⟨1,true,0,[],0,[],[],[]⟩else none)
  else if x.Kind=2 then(match vub p with
   | some m=>if x.Low<=unz m/\unz m<=x.High then some ⟨2,false,unz m,[],0,[],[],[]⟩else none
   | none=>none)
  else if x.Kind=3 then(if(p.length:Int)<=x.Max then some ⟨3,false,0,p,0,[],[],[]⟩else none)
  else if x.Kind=4 then(match vub p with
   | some m=>if 1<=m/\m<=1000/\((x.Symbols.any fun y=>decide (y.ID=(m:Int))) || x.Open)=true then some ⟨4,false,0,[],(m:Int),[],[],[]⟩else none
   | none=>none)
  else if x.Kind=9 then(match p with
   | []=>some ⟨9,false,0,[],0,[],[],[]⟩
   | c::q=>if c=1 then(vdec ts n x.Elem q).map fun v=>⟨9,false,0,[],0,[],[v],[]⟩else none)
  else if x.Kind=6 then(match vA p with
   | some (id,q)=>(match findM x.Members id with
    | some m=>(vdec ts n m.Type_ q).map fun v=>⟨6,false,0,[],id,[],[v],[]⟩
    | none=>if x.Open=true then some ⟨6,false,0,[],id,[],[],[⟨id,q⟩]⟩else none)
   | none=>none)
  else if x.Kind=7 then(match vI p with
   | some l=>if(l.length:Int)<=x.Max then(seqO (vdec ts n x.Elem) l).map fun is=>⟨7,false,0,[],0,[],is,[]⟩else none
   | none=>none)
  else if x.Kind=8 then(match vI p with
   | some l => if l.length % 2 = 0 /\ ((l.length / 2 : Nat): Int) <= x.Max then (match seqO (vdec ts n x.Key) (evens l) with
    | some ks=>if ascB ks=true then(seqO (vdec ts n x.Elem) (odds l)).map fun is=>⟨8,false,0,[],0,ks,is,[]⟩else none
    | none=>none)else none
   | none=>none)
  else(match vFl p with
   | some l => (match seqO (fun m : aj => match l.find? (fun f => decide (f.ID = m.ID)) with
    | some f=>vdec ts n m.Type_ f.Data
    | none=>if m.HasDefault=true then some m.Default else none) x.Members with
    | some is=>if(l.all fun f=>(findM x.Members f.ID).isSome || !f.Critical)=true then some ⟨5,false,0,[],0,[],is,(l.filter fun f=>!(findM x.Members f.ID).isSome).map fun f=>⟨f.ID,f.Data⟩⟩else none
    | none=>none)
   | none=>none)
section
variable {ts:List ae}
def DOut(ts:List ae)(b1:List Int)(b2:Int)(path:List Int)(o:Option ab)(r:Option (ab×Bool×List ae×List Int×Int×List Int)):Prop:=
 (∀v,o=some v->r=some (v,true,ts,b1,b2,path))/\(o=none->∃w f1 f2,r=some (w,false,ts,f1,f2,path))
theorem mh{path:List Int}(hp:path.length<=1000)(reason:Int)(b1:List Int)(b2:Int):bB (reason,ts,b1,b2,path)=some ((⟨0,false,0,[],0,[],[],[]⟩:ab),false,ts,reason,path,path):=by
 rw[bB];unfold i8 bk;rw[if_pos (aR (by omega) (by omega))];simp
theorem j4 {b1 : List Int} {b2 step t : Int} {p : List UInt8} {path : List Int} {o : Option ab} (hp : path.length <= 1000) (h : DOut ts b1 b2 (path ++ [step]) o (eZ (t, p, ts, b1, b2, path ++ [step]))):
 DOut ts b1 b2 path o (bU (step,t,p,ts,b1,b2,path)):=by
 have key:∀w ok f1 f2,eZ (t,p,ts,b1,b2,path++[step])=some (w,ok,ts,f1,f2,path++[step])->bU (step,t,p,ts,b1,b2,path)=some (w,ok,ts,f1,f2,path):=by
  intro w ok f1 f2 hw;rw[bU];simp only[oZ4,oZ3];rw[if_pos (aR (by omega) (by simp;omega)),hw];simp only[oZ3,ab.aA];have e1:subI .i64 ((path++[step]).length:Int) 1=(path.length:Int):=by rw[cb (by simp <;> omega) (by simp <;> omega)];simp
  rw[e1];have e2:slR 0 (path.length:Int) (path++[step]).length=true:=bZ.2 (by simp;omega);simp_all
 refine⟨fun v hv=>key _ _ _ _ (h.1 v hv),fun hn=>?_⟩;obtain⟨w,f1,f2,hw⟩:=h.2 hn;exact⟨w,f1,f2,key _ _ _ _ hw⟩
theorem x4{α β:Type}{f:α->Option β}:∀{l:List α} {m:List β},seqO f l=some m->m.length=l.length
 | [],m,h=>by rw[seqO]at h;cases h;rfl
 | a::l,m,h=>by
  rw[seqO]at h;split at h
  . rename_i b m' h1 h2;cases h;rw[List.length_cons,List.length_cons,x4 h2]
  . cases h
theorem y4 {x : ae} {path : List Int} {f : List UInt8 -> Option ab} {l : List (List UInt8)} (hl : l.length <= 90000) (h : ∀ q, q ∈ l -> ∀ step b1 b2, DOut ts b1 b2 path (f q) (bU (step, x.Elem, q, ts, b1, b2, path)))
 {z0 z2 z4 a0 a2 a4:Int} {z1 a1:Bool} {z3 a3:List UInt8} {b1:List Int} {b2:Int}:∀(k i:Nat) (acc:List ab),i+k=l.length->acc.length=i->
 (∀m,seqO f (l.drop i)=some m->gY (l,(l.length:Int),(i:Int),ts,b1,b2,x,z0,z1,z2,z3,z4,a0,a1,a2,a3,a4,path,acc)=some (.inr (ts,b1,b2,z0,z1,z2,z3,z4,a0,a1,a2,a3,a4,path,acc++m)))/\
 (seqO f (l.drop i)=none->∃w f1 f2,gY (l,(l.length:Int),(i:Int),ts,b1,b2,x,z0,z1,z2,z3,z4,a0,a1,a2,a3,a4,path,acc)=some (.inl (false,ts,f1,f2,w,path)))
 | 0,i,acc,hi,ha=>by
  rw[gY,if_neg (by simp;omega),List.drop_eq_nil_of_le (by omega),seqO]
  grind
 | k+1,i,acc,hi,ha=>by
  have hlt:i < l.length:=by omega
  have hd:=h _ (aB hlt []) (i:Int) b1 b2;have e:l.drop i=l.getD i []::l.drop (i+1):=by rw[bc hlt];exact List.drop_eq_getElem_cons hlt
  rw[gY,if_pos (by simp;omega),if_pos (au hlt),av,e,seqO];cases hf:f (l.getD i [])with
  | none=>
   obtain⟨w,f1,f2,hw⟩:=hd.2 hf;simp_all
  | some v=>
   rw[hd.1 v hf];simp only[oZ4,oZ3,ab.aA,Bool.not_true];rw[if_neg (by simp),if_pos (aR (by omega) (by simp;omega)),aD (by omega)];obtain⟨i1,i2⟩:=y4 hl h (z0:=z0) (z1:=z1) (z2:=z2) (z3:=z3) (z4:=z4) (a0:=a0) (a1:=a1) (a2:=a2) (a3:=a3) (a4:=a4) (b1:=b1) (b2:=b2) k (i+1) (acc++[v]) (by omega) (by simp;omega)
   cases hs:seqO f (l.drop (i+1))with
   | none=>exact⟨fun m hm=>by simp at hm,fun _=>i2 hs⟩
   | some m'=>grind
end
theorem pj{l:List ab}{i:Nat}(hi:i < l.length):l.set i (l.getD i af)=l:=by simp_all
theorem x5 {a0 a2 a4 z0 z2 z4 : Int} {a1 z1 : Bool} {a3 z3 : List UInt8} {l l2 : List ab} {r : List aG} (hl : l.length <= 1000000000) (h : ∀ y, y ∈ l -> cI y = some y): ∀ (k i : Nat), i + k = l.length ->
 io ((l.length:Int),(i:Int),a0,a1,a2,a3,a4,z0,z1,z2,z3,z4,l,l2,r)=some (a0,a1,a2,a3,a4,z0,z1,z2,z3,z4,l,l2,r)
 | 0,i,hi=>by rw[io,if_neg (by simp;omega)]
 | k+1,i,hi=>by
  have hlt:i < l.length:=by omega
  rw[io,if_pos (by simp;omega),if_pos (au hlt),av,if_pos (by simp;omega)];simp only[ab.aA];rw[h _ (aB hlt af)];simp only[oZ4,oZ3,ab.aA];rw[if_pos (au hlt),if_pos (by simp;omega),aD (by omega),pj hlt];exact x5 hl h k (i+1) (by omega)
theorem x6 {a0 a2 a4 z0 z2 z4 : Int} {a1 z1 : Bool} {a3 z3 : List UInt8} {l l2 : List ab} {r : List aG} (hl : l.length <= 1000000000) (h : ∀ y, y ∈ l -> cI y = some y): ∀ (k i : Nat), i + k = l.length ->
 ip ((l.length:Int),(i:Int),a0,a1,a2,a3,a4,z0,z1,z2,z3,z4,l,l2,r)=some (a0,a1,a2,a3,a4,z0,z1,z2,z3,z4,l2,l,r)
 | 0,i,hi=>by rw[ip,if_neg (by simp;omega)]
 | k+1,i,hi=>by
  have hlt:i < l.length:=by omega
  rw[ip,if_pos (by simp;omega),if_pos (au hlt),av,if_pos (by simp;omega)];simp only[ab.aA];rw[h _ (aB hlt af)];simp only[oZ4,oZ3,ab.aA];rw[if_pos (au hlt),if_pos (by simp;omega),aD (by omega),pj hlt];exact x6 hl h k (i+1) (by omega)
theorem wts_len' :∀l:List ab,l.length<=wts l
 | []=>by simp
 | v::l=>by
  rw[ci,wt_eq,List.length_cons];have:=wts_len' l;omega
theorem y5(l:List aG):l.length<=(l.map fun x=>x.Data.length+1).sum:=by
 induction l with
 | nil=>simp
 | cons a l ih=>simp only[List.map_cons,List.sum_cons,List.length_cons];omega
theorem kB{k n:Nat}(hk:k<=1000)(h:n<=1000000000):room k n=true:=by
 unfold room bX aX;simp only[Bool.and_eq_true,decide_eq_true_eq];refine⟨?_,by omega⟩;have:(2*n+192)*k<=2000000192*1000:=Nat.mul_le_mul (by omega) hk;omega
theorem IM{v:ab}(hv:OkV v):wt v<=1000000000->cI v=some v:=by
 induction hv with
 | mk v hs h1 h2 h3 hk hi hrd n1 n2 n3 n4 ihk ihi=>
  intro hw;have hwt:=wt_eq v;have l1:=wts_len' v.Keys;have l2:=wts_len' v.Items;have l3:=y5 v.Rest;have kk:∀y,y∈v.Keys->cI y=some y:=fun y hy=>ihk y hy (by have:=bp hy;omega)
  have ki:∀y,y∈v.Items->cI y=some y:=fun y hy=>ihi y hy (by have:=bp hy;omega)
  have c1:bk 120 v.Keys=some v.Keys:=by unfold bk;rw[if_pos (kB (by omega) (by omega))]
  have c2:bk 120 v.Items=some v.Items:=by unfold bk;rw[if_pos (kB (by omega) (by omega))]
  have c3:bk 24 v.Rest=some v.Rest:=by unfold bk;rw[if_pos (kB (by omega) (by omega))]
  have L0:=x5 (a0:=v.Kind) (a1:=v.Bool_) (a2:=v.Int_) (a3:=v.Str) (a4:=v.ID) (z0:=0) (z1:=false) (z2:=0) (z3:=[]) (z4:=0) (l:=v.Keys) (l2:=v.Items) (r:=v.Rest) (by omega) kk v.Keys.length 0 (by omega)
  have L1:=x6 (a0:=v.Kind) (a1:=v.Bool_) (a2:=v.Int_) (a3:=v.Str) (a4:=v.ID) (z0:=0) (z1:=false) (z2:=0) (z3:=[]) (z4:=0) (l:=v.Items) (l2:=v.Keys) (r:=v.Rest) (by omega) ki v.Items.length 0 (by omega);have L0':io ((v.Keys.length:Int),0,v.Kind,v.Bool_,v.Int_,v.Str,v.ID,0,false,0,[],0,v.Keys,v.Items,v.Rest)=_:=L0
  have L1':ip ((v.Items.length:Int),0,v.Kind,v.Bool_,v.Int_,v.Str,v.ID,0,false,0,[],0,v.Items,v.Keys,v.Rest)=_:=L1;rw[cI,c1,c2,c3];simp only[oZ4,oZ3];rw[L0'];simp only[oZ3];rw[L1'];simp only[oZ3];cases v;rfl
section
variable {ts:List ae}
def DecR(ts:List ae)(n:Nat):Prop:=∀(t:Int) (p:List UInt8) (b1:List Int) (b2:Int) (path:List Int),0<=t->t < ts.length->p.length<=4096->path.length+n=200->
 DOut ts b1 b2 path (vdec ts n t p) (eZ (t,p,ts,b1,b2,path))
theorem cq{path:List Int}(hp:path.length<=1000)(reason:Int)(b1:List Int)(b2:Int):DOut ts b1 b2 path none (bB (reason,ts,b1,b2,path) >>=fun r=>some (ab.eta r.1,r.2.1,r.2.2.1,r.2.2.2.2.2,r.2.2.2.1,r.2.2.2.2.1)):=by
 refine⟨fun v h=>(by cases h),fun _=>?_⟩;rw[mh hp];simp_all
theorem member_find'{x:ae}(hm:MAsc x.Members)(hl:x.Members.length<=1000){id:Int}{m:aj}(hF:findM x.Members id=some m):∃j,j < x.Members.length/\bG (x,id)=some ((j:Int),true)/\x.Members.getD j ag=m:=by
 obtain⟨m1,m2⟩:=fH hF;obtain⟨r,r1,r2⟩:=lA (t:=x) (id:=id) (by omega);rcases r2 with⟨j,j1,j2,_,rfl⟩ | ⟨q,_⟩
 . exact⟨j,j1,r1,mg hm (aB j1 ag) m1 (by rw[j2,m2])⟩
 . obtain⟨i,hi,rfl⟩:=List.getElem_of_mem m1
   grind
theorem IN (H : SOk ts) {n : Nat} (ih : DecR ts n) {x : ae} (hx : x ∈ ts) (k6 : x.Kind = 6) (hT : ∀ m, m ∈ x.Members -> 0 <= m.Type_ /\ m.Type_ < ts.length) {p : List UInt8} (hp : p.length <= 4096) {b1 : List Int} {b2 : Int} {path : List Int} (hpa : path.length + (n + 1) = 200):
 DOut ts b1 b2 path (match vA p with
  | some (id,q)=>(match findM x.Members id with
   | some m=>(vdec ts n m.Type_ q).map fun v=>⟨6,false,0,[],id,[],[v],[]⟩
   | none=>if x.Open=true then some ⟨6,false,0,[],id,[],[],[⟨id,q⟩]⟩else none)
  | none=>none) (nr (x,p,ts,b1,b2,path)):=by
 obtain⟨o,o1,o2,o3⟩:=NX p;rw[nr,o1];simp only[oZ4,oZ3];by_cases h0:o.2.2=0
 . obtain⟨v1,v2,v3⟩:=o2 h0;rw[if_neg (by simp[h0]),v1];dsimp only;obtain⟨hA1,hA2⟩:=H.A x hx (.inr k6);cases hF:findM x.Members o.1 with
   | some m=>
    obtain⟨j,j1,j2,j3⟩:=member_find' hA1 (by omega) hF;rw[j2];simp only[oZ3];rw[if_pos trivial,if_pos (au j1),av,j3];obtain⟨t1,t2⟩:=hT m (fH hF).1;have hd:=j4 (step:=o.1) (path:=path) (by omega) (ih m.Type_ o.2.1 b1 b2 (path++[o.1]) t1 t2 (by omega) (by simp;omega));cases hv:vdec ts n m.Type_ o.2.1 with
    | none=>
     obtain⟨w,f1,f2,hw⟩:=hd.2 hv;rw[hw];exact⟨fun v h=>by simp at h,fun _=>⟨_,_,_,rfl⟩⟩
    | some v=>
     rw[hd.1 v hv]
     exact⟨fun v' h=>by
      have:v'=⟨6,false,0,[],o.1,[],[v],[]⟩:=by simpa using h.symm
      rw[this]
      simp[ab.aA,k6],fun h=>by simp at h⟩
   | none=>
    obtain⟨r,r1,r2⟩:=lA (t:=x) (id:=o.1) (by omega);have hr:r=(0,false):=by
     rcases r2 with⟨j,j1,j2,_,_⟩ | ⟨_,q⟩
     . exact absurd j2 (iI hF _ (aB j1 ag))
     . exact q
    rw[r1,hr];cases hO:x.Open with
    | false=>
     simp only[oZ3,Bool.false_eq_true,if_false,Bool.not_false,if_true,eq_self];exact cq (by omega) _ _ _
    | true=>
     simp only[oZ3,Bool.false_eq_true,if_false,Bool.not_true,if_true,eq_self];exact⟨fun v' h=>(by cases h;rw[k6]),fun h=>(by cases h)⟩
 . rw[if_pos (by simp[h0]),o3 h0];exact cq (by omega) _ _ _
end
theorem Hz{α:Type}{l:List α}{j:Nat}(h:2*j+1 < l.length)(d:α):evens (l.drop (2*j))=l.getD (2*j) d::evens (l.drop (2*(j+1))):=by
 rw[List.drop_eq_getElem_cons (by omega:2*j < l.length),List.drop_eq_getElem_cons h,evens,bc (by omega)];rfl
theorem IO{α:Type}{l:List α}{j:Nat}(h:2*j+1 < l.length)(d:α):odds (l.drop (2*j))=l.getD (2*j+1) d::odds (l.drop (2*(j+1))):=by
 rw[List.drop_eq_getElem_cons (by omega:2*j < l.length),List.drop_eq_getElem_cons h,odds,bc h];rfl
theorem add2{i:Nat}(h:i < 1000000):addI .i64 (i:Int) 2=((i+2:Nat):Int):=by
 have:=mr (a:=i) (b:=2) (by omega);exact this
section
variable {ts:List ae}
theorem y6 {x : ae} {path : List Int} {f : List UInt8 -> Option ab} {l : List (List UInt8)} (hl : l.length <= 90000) (he : l.length % 2 = 0) (h : ∀ q, q ∈ l -> ∀ step b1 b2, DOut ts b1 b2 path (f q) (bU (step, x.Key, q, ts, b1, b2, path)))
 {z0 z2 z4 a0 a2 a4:Int} {z1 a1:Bool} {z3 a3:List UInt8} {b1:List Int} {b2:Int}:∀(k j:Nat) (acc:List ab),2*(j+k)=l.length->acc.length=j->
 (∀m,seqO f (evens (l.drop (2*j)))=some m->gT (l,((2*j:Nat):Int),ts,b1,b2,x,z0,z1,z2,z3,z4,a0,a1,a2,a3,a4,path,acc)=some (.inr (l,ts,b1,b2,x,z0,z1,z2,z3,z4,a0,a1,a2,a3,a4,path,acc++m)))/\
 (seqO f (evens (l.drop (2*j)))=none->∃w f1 f2,gT (l,((2*j:Nat):Int),ts,b1,b2,x,z0,z1,z2,z3,z4,a0,a1,a2,a3,a4,path,acc)=some (.inl (false,ts,f1,f2,w,path)))
 | 0,j,acc,hi,ha=>by
  rw[gT,if_neg (by simp;omega),List.drop_eq_nil_of_le (by omega),show evens ([]:List (List UInt8))=[]from rfl,seqO]
  grind
 | k+1,j,acc,hi,ha=>by
  have hlt:2*j < l.length:=by omega
  have hd:=h _ (aB hlt []) (quoI .i64 ((2*j:Nat):Int) 2) b1 b2;rw[gT,if_pos (by simp;omega),if_pos (au hlt),av,Hz (by omega) [],seqO];cases hf:f (l.getD (2*j) [])with
  | none=>
   obtain⟨w,f1,f2,hw⟩:=hd.2 hf;simp_all
  | some v=>
   rw[hd.1 v hf];simp only[oZ4,oZ3,ab.aA,Bool.not_true];rw[if_neg (by simp),if_pos (aR (by omega) (by simp;omega)),add2 (by omega)];obtain⟨i1,i2⟩:=y6 hl he h (z0:=z0) (z1:=z1) (z2:=z2) (z3:=z3) (z4:=z4) (a0:=a0) (a1:=a1) (a2:=a2) (a3:=a3) (a4:=a4) (b1:=b1) (b2:=b2) k (j+1) (acc++[v]) (by omega) (by simp;omega)
   have ej:2*j+2=2*(j+1):=by omega
   rw[ej];cases hs:seqO f (evens (l.drop (2*(j+1))))with
   | none=>exact⟨fun m hm=>by simp at hm,fun _=>i2 hs⟩
   | some m'=>grind
theorem x7 {x : ae} {path : List Int} {f : List UInt8 -> Option ab} {l : List (List UInt8)} (hl : l.length <= 90000) (he : l.length % 2 = 0) (h : ∀ q, q ∈ l -> ∀ step b1 b2, DOut ts b1 b2 path (f q) (bU (step, x.Elem, q, ts, b1, b2, path)))
 {z0 z2 z4 a0 a2 a4:Int} {z1 a1:Bool} {z3 a3:List UInt8} {b1:List Int} {b2:Int} {ks:List ab}:∀(k j:Nat) (acc:List ab),2*(j+k)=l.length->acc.length=j->
 (∀m,seqO f (odds (l.drop (2*j)))=some m->gU (l,((2*j+1:Nat):Int),ts,b1,b2,x,z0,z1,z2,z3,z4,a0,a1,a2,a3,a4,path,ks,acc)=some (.inr (ts,b1,b2,z0,z1,z2,z3,z4,a0,a1,a2,a3,a4,path,ks,acc++m)))/\
 (seqO f (odds (l.drop (2*j)))=none->∃w f1 f2,gU (l,((2*j+1:Nat):Int),ts,b1,b2,x,z0,z1,z2,z3,z4,a0,a1,a2,a3,a4,path,ks,acc)=some (.inl (false,ts,f1,f2,w,path)))
 | 0,j,acc,hi,ha=>by
  rw[gU,if_neg (by simp;omega),List.drop_eq_nil_of_le (by omega),show odds ([]:List (List UInt8))=[]from rfl,seqO]
  grind
 | k+1,j,acc,hi,ha=>by
  have hlt:2*j+1 < l.length:=by omega
  have hd:=h _ (aB hlt []) (quoI .i64 ((2*j+1:Nat):Int) 2) b1 b2;rw[gU,if_pos (by simp;omega),if_pos (au hlt),av,IO hlt [],seqO];cases hf:f (l.getD (2*j+1) [])with
  | none=>
   obtain⟨w,f1,f2,hw⟩:=hd.2 hf;simp_all
  | some v=>
   rw[hd.1 v hf];simp only[oZ4,oZ3,ab.aA,Bool.not_true];rw[if_neg (by simp),if_pos (aR (by omega) (by simp;omega)),add2 (by omega)];obtain⟨i1,i2⟩:=x7 hl he h (z0:=z0) (z1:=z1) (z2:=z2) (z3:=z3) (z4:=z4) (a0:=a0) (a1:=a1) (a2:=a2) (a3:=a3) (a4:=a4) (b1:=b1) (b2:=b2) (ks:=ks) k (j+1) (acc++[v]) (by omega) (by simp;omega)
   have ej:2*j+1+2=2*(j+1)+1:=by omega
   rw[ej];cases hs:seqO f (odds (l.drop (2*(j+1))))with
   | none=>exact⟨fun m hm=>by simp at hm,fun _=>i2 hs⟩
   | some m'=>grind
end
section
variable {ts:List ae}
theorem LE{a b:ab}(ha:I64 a.Int_)(hb:I64 b.Int_):fq (a,b)=some (vcmp a b):=by
 obtain⟨r,r1,r2⟩:=og ha hb;have:=mf ha hb
 grind
theorem Af {x : ae} {path : List Int} (hp : path.length <= 1000) {l : List (List UInt8)} {ks : List ab} (hk : ∀ y, y ∈ ks -> I64 y.Int_) (hl : ks.length <= 90000)
 {z0 z2 z4 a0 a2 a4:Int} {z1 a1:Bool} {z3 a3:List UInt8} {b1:List Int} {b2:Int}:∀(k i:Nat),ks.length - (i+1)=k->
 ((∀m,i<=m->m+1 < ks.length->vcmp (ks.getD m af) (ks.getD (m+1) af) < 0)/\fZ (l,((i+1:Nat):Int),ts,b1,b2,x,z0,z1,z2,z3,z4,a0,a1,a2,a3,a4,path,ks)=some (.inr (l,ts,b1,b2,x,z0,z1,z2,z3,z4,a0,a1,a2,a3,a4,path,ks)))\/
 ((∃m,m+1 < ks.length/\¬vcmp (ks.getD m af) (ks.getD (m+1) af) < 0)/\∃w f1 f2,fZ (l,((i+1:Nat):Int),ts,b1,b2,x,z0,z1,z2,z3,z4,a0,a1,a2,a3,a4,path,ks)=some (.inl (false,ts,f2,w,path,f1)))
 | 0,i,hi=>by
  rw[fZ,if_neg (by simp;omega)]
  grind
 | k+1,i,hi=>by
  have hlt:i+1 < ks.length:=by omega
  have e1:subI .i64 ((i+1:Nat):Int) 1=(i:Int):=by rw[cb (by omega) (by omega)];omega
  rw[fZ,if_pos (by simp;omega),e1];simp only[oZ4,oZ3];rw[if_pos (au (by omega)),if_pos (by simp;omega),if_pos (au hlt),if_pos (by simp;omega),av,av];simp only[ab.aA];rw[LE (hk _ (aB (by omega) af)) (hk _ (aB hlt af))];simp only[oZ3];by_cases hc:vcmp (ks.getD i af) (ks.getD (i+1) af) < 0
  . rw[if_neg (by simpa using hc),aD (by omega)];rcases Af hp hk hl (x:=x) (l:=l) (z0:=z0) (z1:=z1) (z2:=z2) (z3:=z3) (z4:=z4) (a0:=a0) (a1:=a1) (a2:=a2) (a3:=a3) (a4:=a4) (b1:=b1) (b2:=b2) k (i+1) (by omega)with⟨h1,h2⟩ | h
    . grind
    grind
  . rw[if_pos (by simpa using hc),mh hp]
    grind
theorem LF{m:Nat}(h:m < 18446744073709551616):I64 (unz m):=by
 unfold unz I64;omega
theorem i64_0 :I64 0:=by unfold I64;omega
def AllI(o:Option ab):Prop:=∀v,o=some v->I64 v.Int_
theorem AllI.ite{c:Prop}[Decidable c]{a b:Option ab}(ha:c->AllI a)(hb:¬c->AllI b):AllI (if c then a else b):=by grind
theorem AllI.no :AllI none:=fun v h=>(by cases h)
theorem AllI.zero{k i:Int}{b:Bool}{s:List UInt8}{ks is:List ab}{r:List aG}:AllI (some ⟨k,b,0,s,i,ks,is,r⟩):=fun v h=>(by cases h;exact i64_0)
theorem AllI.map{α:Type}{o:Option α}{k i:Int}{b:Bool}{s:List UInt8}{ks is:α->List ab}{r:List aG}:AllI (o.map fun v=>⟨k,b,0,s,i,ks v,is v,r⟩):=fun v h=>by obtain⟨_,_,rfl⟩:=Option.map_eq_some_iff.1 h;exact i64_0
theorem KP{n:Nat}{t:Int}{p:List UInt8}{v:ab}(h:vdec ts n t p=some v):I64 v.Int_:=by
 have key:AllI (vdec ts n t p):=by
  cases n with
  | zero=>unfold vdec;exact .no
  | succ n=>
   unfold vdec;refine .ite (fun _=>.ite (fun _=>.zero) fun _=>.ite (fun _=>.zero) fun _=>.no) fun _=>?_
   refine .ite (fun _=>?_) fun _=>?_
   . cases hm:vub p with
     | none=>exact .no
     | some m=>exact .ite (fun _=>fun v h=>(by cases h;exact LF (Bu hm))) fun _=>.no
   refine .ite (fun _=>.ite (fun _=>.zero) fun _=>.no) fun _=>?_
   refine .ite (fun _=>?_) fun _=>?_
   . cases hm:vub p with
     | none=>exact .no
     | some m=>exact .ite (fun _=>.zero) fun _=>.no
   refine .ite (fun _=>?_) fun _=>?_
   . cases p with
     | nil=>exact .zero
     | cons c q=>exact .ite (fun _=>.map) fun _=>.no
   refine .ite (fun _=>?_) fun _=>?_
   . cases vA p with
     | none=>exact .no
     | some a=>
      obtain⟨id,q⟩:=a;dsimp only;cases findM (ts.getD t.toNat ap).Members id with
      | none=>exact .ite (fun _=>.zero) fun _=>.no
      | some m=>exact .map
   refine .ite (fun _=>?_) fun _=>?_
   . cases vI p with
     | none=>exact .no
     | some l=>exact .ite (fun _=>.map) fun _=>.no
   refine .ite (fun _=>?_) fun _=>?_
   . cases vI p with
     | none=>exact .no
     | some l=>
      refine .ite (fun _=>?_) fun _=>.no
      cases seqO (vdec ts n (ts.getD t.toNat ap).Key) (evens l)with
      | none=>exact .no
      | some ks=>exact .ite (fun _=>.map) fun _=>.no
   . cases vFl p with
     | none=>exact .no
     | some l=>
      dsimp only;split
      . exact .ite (fun _=>.zero) fun _=>.no
      . exact .no
 exact key v h
theorem y7{α β:Type}{f:α->Option β}:∀{l:List α} {m:List β},seqO f l=some m->∀y,y∈m->∃a,a∈l/\f a=some y
 | [],m,h,y,hy=>by rw[seqO]at h;cases h;cases hy
 | a::l,m,h,y,hy=>by
  rw[seqO]at h;split at h
  . rename_i b m' h1 h2;cases h;rcases List.mem_cons.1 hy with rfl | hy
    . grind
    . obtain⟨a',k1,k2⟩:=y7 h2 y hy
      grind
  . cases h
theorem x8{α:Type}:∀(l:List α),(evens l).length<=l.length
 | []=>Nat.le_refl _
 | [_]=>Nat.zero_le _
 | a::b::l=>by
  show(evens l).length+1<=l.length+1+1;have:=x8 l;omega
theorem quo2{a:Nat}(h:a < 1000000):quoI .i64 (a:Int) 2=((a / 2:Nat):Int):=by
 unfold quoI;have e:(a:Int).tdiv 2=((a / 2:Nat):Int):=by rw[Int.tdiv_eq_ediv_of_nonneg (by omega)];omega
 rw[e];exact wrp64 (by omega) (by omega)
theorem LG {n : Nat} (ih : DecR ts n) {x : ae} (k8 : x.Kind = 8) (hK : 0 <= x.Key /\ x.Key < ts.length) (hE : 0 <= x.Elem /\ x.Elem < ts.length) {p : List UInt8} (hp : p.length <= 4096) {b1 : List Int} {b2 : Int} {path : List Int} (hpa : path.length + (n + 1) = 200):
 DOut ts b1 b2 path (match vI p with
  | some l => if l.length % 2 = 0 /\ ((l.length / 2 : Nat): Int) <= x.Max then (match seqO (vdec ts n x.Key) (evens l) with
   | some ks=>if ascB ks=true then(seqO (vdec ts n x.Elem) (odds l)).map fun is=>(⟨8,false,0,[],0,ks,is,[]⟩:ab)else none
   | none=>none)else none
  | none=>none) (kI (x,p,ts,b1,b2,path)):=by
 obtain⟨o,o1,o2,o3⟩:=yX (p:=p) (by omega);rw[kI,o1];simp only[oZ4,oZ3];by_cases h0:o.2=0
 . obtain⟨v1,v2,v3⟩:=o2 h0;rw[v1];dsimp only;have hrem:remI (o.1.length:Int) 2=((o.1.length % 2:Nat):Int):=by rw[bM (by omega) (by omega)];omega
   rw[hrem,quo2 (by omega)];by_cases he:o.1.length % 2=0
   . have hb:¬(bif (!(decide (o.2=0)))then true else(!(decide (((o.1.length % 2:Nat):Int)=0))))=true:=by grind
     rw[if_neg hb];by_cases hm:((o.1.length / 2:Nat):Int)<=x.Max
     . rw[if_pos (show o.1.length % 2=0/\((o.1.length / 2:Nat):Int)<=x.Max from⟨he,hm⟩),if_neg (show ¬decide (x.Max < ((o.1.length / 2:Nat):Int))=true by simp only[decide_eq_true_eq];omega)];have hk:∀q,q∈o.1->∀step b1 b2,DOut ts b1 b2 path (vdec ts n x.Key q) (bU (step,x.Key,q,ts,b1,b2,path)):=fun q hq step b1 b2=>
        j4 (by omega) (ih x.Key q b1 b2 (path++[step]) hK.1 hK.2 (by have:=v2 q hq;omega) (by simp;omega))
       have hi:∀q,q∈o.1->∀step b1 b2,DOut ts b1 b2 path (vdec ts n x.Elem q) (bU (step,x.Elem,q,ts,b1,b2,path)):=fun q hq step b1 b2=>
        j4 (by omega) (ih x.Elem q b1 b2 (path++[step]) hE.1 hE.2 (by have:=v2 q hq;omega) (by simp;omega))
       obtain⟨A1,A2⟩:=y6 (x:=x) (l:=o.1) (by omega) he hk (z0:=0) (z1:=false) (z2:=0) (z3:=[]) (z4:=0) (a0:=x.Kind) (a1:=false) (a2:=0) (a3:=[]) (a4:=0) (b1:=b1) (b2:=b2) (o.1.length / 2) 0 [] (by omega) rfl;have d0:o.1.drop (2*0)=o.1:=rfl;rw[d0]at A1 A2;have z0:((2*0:Nat):Int)=0:=rfl;rw[z0]at A1 A2
       cases hs:seqO (vdec ts n x.Key) (evens o.1)with
       | none=>
        obtain⟨w,f1,f2,hw⟩:=A2 hs;rw[hw];exact⟨fun v h=>(by cases h),fun _=>⟨_,_,_,rfl⟩⟩
       | some ks=>
        rw[A1 ks hs];simp only[oZ3,List.nil_append];have hki:∀y,y∈ks->I64 y.Int_:=fun y hy=>by
         obtain⟨a,_,ha⟩:=y7 hs y hy;exact KP ha
        have hkl:ks.length<=90000:=by
         have:=x4 hs;have:=x8 o.1;omega
        have B:=Af (ts:=ts) (x:=x) (path:=path) (by omega) (l:=o.1) hki hkl (z0:=0) (z1:=false) (z2:=0) (z3:=[]) (z4:=0) (a0:=x.Kind) (a1:=false) (a2:=0) (a3:=[]) (a4:=0) (b1:=b1) (b2:=b2) _ 0 rfl;have z1:((0+1:Nat):Int)=1:=rfl;rw[z1]at B;rcases B with⟨B1,B2⟩ | ⟨⟨m,m1,m2⟩,w,f1,f2,B2⟩
        . have hasc:ascB ks=true:=sH.2 fun i hi=>B1 i (Nat.zero_le _) hi
          rw[if_pos hasc,B2];simp only[oZ3];obtain⟨C1,C2⟩:=x7 (x:=x) (l:=o.1) (by omega) he hi (z0:=0) (z1:=false) (z2:=0) (z3:=[]) (z4:=0) (a0:=x.Kind) (a1:=false) (a2:=0) (a3:=[]) (a4:=0) (b1:=b1) (b2:=b2) (ks:=ks) (o.1.length / 2) 0 [] (by omega) rfl;rw[d0]at C1 C2;have z2:((2*0+1:Nat):Int)=1:=rfl;rw[z2]at C1 C2
          cases hs2:seqO (vdec ts n x.Elem) (odds o.1)with
          | none=>
           obtain⟨w,f1,f2,hw⟩:=C2 hs2;rw[hw];exact⟨fun v h=>(by cases h),fun _=>⟨_,_,_,rfl⟩⟩
          | some is=>
           rw[C1 is hs2];exact⟨fun v h=>(by cases h;simp[k8]),fun h=>(by cases h)⟩
        . have hasc:¬ascB ks=true:=fun h=>m2 (sH.1 h m m1)
          rw[if_neg hasc,B2];exact⟨fun v h=>(by cases h),fun _=>⟨ab.eta w,f1,f2,rfl⟩⟩
     . rw[if_neg (show ¬(o.1.length % 2=0/\((o.1.length / 2:Nat):Int)<=x.Max)from fun h=>hm h.2),if_pos (show decide (x.Max < ((o.1.length / 2:Nat):Int))=true by simp only[decide_eq_true_eq];omega)];exact cq (by omega) _ _ _
   . have hb:(bif (!(decide (o.2=0)))then true else(!(decide (((o.1.length % 2:Nat):Int)=0))))=true:=by grind
     rw[if_neg (show ¬(o.1.length % 2=0/\((o.1.length / 2:Nat):Int)<=x.Max)from fun h=>he h.1),if_pos hb];exact cq (by omega) _ _ _
 . have hb:(bif (!(decide (o.2=0)))then true else(!(decide (remI (o.1.length:Int) 2=0))))=true:=by simp[h0]
   rw[if_pos hb,o3 h0];exact cq (by omega) _ _ _
end
section
variable {ts:List ae}
theorem IP {l : List aY} (m : aj) (hl : l.length <= 90000): (∃ j, j < l.length /\ l.find? (fun f => decide (f.ID = m.ID)) = some (l.getD j dC) /\ kD (l, m) = some ((j : Int), m)) \/
 (l.find? (fun f=>decide (f.ID=m.ID))=none/\kD (l,m)=some (-1,m)):=by
 have h:=jP (fun i=>eN (l,(l.length:Int),(i:Int),m)) l.length (fun i=>decide ((l.getD i dC).ID=m.ID)) (fun i=>.inl ((i:Int),m)) (.inr m)
  (fun i hi=>by
   rw[eN,if_pos (by simp;omega),if_pos (au hi)];simp only[oZ4,oZ3,av,ab.aA,p9]
   rw[aD (by omega)])
  (by rw[eN,if_neg (by simp)];simp only[cM])
 have e0:eN (l,(l.length:Int),((0:Nat):Int),m)=eN (l,(l.length:Int),0,m):=rfl;simp only[e0]at h;rw[kD];simp only[cM];rcases h with⟨j,h1,h2,h3,h4⟩ | ⟨h1,h4⟩
 . left;refine⟨j,h1,?_,by rw[h4];simp only[oZ4,oZ3,cM]⟩;rw[bc h1]at h2 ⊢;rw[List.find?_eq_some_iff_getElem];refine⟨h2,j,h1,rfl,fun k hk=>?_⟩;have:=h3 k hk;rw[bc (by omega)]at this
   simpa using this
 . right;refine⟨?_,by rw[h4];simp only[oZ4,oZ3,cM]⟩;rw[List.find?_eq_none];intro f hf;obtain⟨i,hi,rfl⟩:=List.getElem_of_mem hf;have:=h1 i hi;rw[bc hi]at this
   simpa using this
def consO{β:Type}:Option β->Option (List β)->Option (List β)
 | some b,some m=>some (b::m)
 | _,_=>none
theorem se{α β:Type}(f:α->Option β)(a:α)(l:List α):seqO f (a::l)=consO (f a) (seqO f l):=by rfl
def vmem(f:Int->List UInt8->Option ab)(l:List aY)(m:aj):Option ab:=match l.find? (fun f=>decide (f.ID=m.ID))with
 | some g=>f m.Type_ g.Data
 | none=>if m.HasDefault=true then some m.Default else none
theorem y8 {x : ae} {path : List Int} (hpath : path.length <= 900) {f : Int -> List UInt8 -> Option ab} {l : List aY} (hl : l.length <= 90000) (hM : x.Members.length <= 16)
 (hD:∀m,m∈x.Members->m.HasDefault=true->cI m.Default=some m.Default)
 (h:∀m,m∈x.Members->∀q,q∈l->∀step b1 b2,DOut ts b1 b2 path (f m.Type_ q.Data) (bU (step,m.Type_,q.Data,ts,b1,b2,path)))
 {z0 z2 z4 a0 a2 a4:Int} {z1 a1:Bool} {z3 a3:List UInt8} {b1:List Int} {b2:Int}:∀(k i:Nat) (acc:List ab),i+k=x.Members.length->acc.length=i->
 (∀m,seqO (vmem f l) (x.Members.drop i)=some m->dF (l,x.Members,(x.Members.length:Int),(i:Int),ts,b1,b2,x,z0,z1,z2,z3,z4,a0,a1,a2,a3,a4,path,acc)=some (.inr (l,ts,b1,b2,x,z0,z1,z2,z3,z4,a0,a1,a2,a3,a4,path,acc++m)))/\
 (seqO (vmem f l) (x.Members.drop i)=none->∃w f1 f2,dF (l,x.Members,(x.Members.length:Int),(i:Int),ts,b1,b2,x,z0,z1,z2,z3,z4,a0,a1,a2,a3,a4,path,acc)=some (.inl (false,ts,f1,f2,w,path)))
 | 0,i,acc,hi,ha=>by
  rw[dF,if_neg (by simp;omega),List.drop_eq_nil_of_le (by omega),seqO]
  grind
 | k+1,i,acc,hi,ha=>by
  have hlt:i < x.Members.length:=by omega
  have hmem:=aB hlt ag;have e:x.Members.drop i=x.Members.getD i ag::x.Members.drop (i+1):=by rw[bc hlt];exact List.drop_eq_getElem_cons hlt
  have go:∀v,(∀m',seqO (vmem f l) (x.Members.drop (i+1))=some m'->dF (l,x.Members,(x.Members.length:Int),((i+1:Nat):Int),ts,b1,b2,x,z0,z1,z2,z3,z4,a0,a1,a2,a3,a4,path,acc++[v])=some (.inr (l,ts,b1,b2,x,z0,z1,z2,z3,z4,a0,a1,a2,a3,a4,path,acc++[v]++m')))/\(seqO (vmem f l) (x.Members.drop (i+1))=none->∃w f1 f2,dF (l,x.Members,(x.Members.length:Int),((i+1:Nat):Int),ts,b1,b2,x,z0,z1,z2,z3,z4,a0,a1,a2,a3,a4,path,acc++[v])=some (.inl (false,ts,f1,f2,w,path))):=fun v=>
   y8 hpath hl hM hD h k (i+1) (acc++[v]) (by omega) (by simp;omega)
  rw [dF, if_pos (by simp; omega), if_pos (au hlt), av, e, se];simp only [oZ4, oZ3, cM];generalize x.Members.getD i ag = m0 at *;have fin : ∀ (v : ab) (X : Option _), vmem f l m0 = some v -> X = dF (l, x.Members, (x.Members.length : Int), ((i + 1 : Nat): Int), ts, b1, b2, x, z0, z1, z2, z3, z4, a0, a1, a2, a3, a4, path, acc ++ [v]) ->
   (∀m,consO (vmem f l m0) (seqO (vmem f l) (x.Members.drop (i+1)))=some m->X=some (.inr (l,ts,b1,b2,x,z0,z1,z2,z3,z4,a0,a1,a2,a3,a4,path,acc++m)))/\
   (consO (vmem f l m0) (seqO (vmem f l) (x.Members.drop (i+1)))=none->∃w f1 f2,X=some (.inl (false,ts,f1,f2,w,path))):=by
   intro v X hv hX;obtain⟨g1,g2⟩:=go v;rw[hv,hX];cases hs:seqO (vmem f l) (x.Members.drop (i+1))with
   | none=>exact⟨fun m hm=>(by cases hm),fun _=>g2 hs⟩
   | some m'=>
    refine⟨fun m hm=>?_,fun h=>(by cases h)⟩;have:m=v::m':=(by cases hm;rfl)
    grind
  rcases IP m0 hl with⟨j,j1,j2,j3⟩ | ⟨j2,j3⟩
  . rw[j3];simp only[oZ3];rw[if_pos (by simp),if_pos (au j1),av];have hd:=h m0 hmem _ (aB j1 dC) m0.ID b1 b2;have hvm:vmem f l m0=f m0.Type_ (l.getD j dC).Data:=by unfold vmem;rw[j2]
    cases hv:f m0.Type_ (l.getD j dC).Data with
    | none=>
     obtain⟨w,f1,f2,hw⟩:=hd.2 hv;rw[hw,hvm,hv];exact⟨fun m hm=>(by cases hm),fun _=>⟨w,f1,f2,by simp[ab.aA]⟩⟩
    | some v=>
     rw[hd.1 v hv];simp only[oZ3,ab.aA,Bool.not_true];rw[if_neg (by simp),if_pos (aR (by omega) (by simp;omega)),aD (by omega)]
     grind
  . rw[j3];simp only[oZ3];rw[if_neg (by simp)];cases hdf:m0.HasDefault with
    | true=>
     rw[if_pos rfl];simp only[ab.aA];rw[hD m0 hmem hdf];simp only[oZ3,ab.aA];rw[if_pos (aR (by omega) (by simp;omega)),aD (by omega)];exact fin m0.Default _ (by unfold vmem;rw[j2];simp[hdf]) rfl
    | false=>
     have hvm:vmem f l m0=none:=by unfold vmem;rw[j2];simp[hdf]
     rw[if_neg (by simp),if_pos (aR (by omega) (by simp;omega)),mh (by simp;omega),hvm];simp only[oZ3,ab.aA];have e1:subI .i64 ((path++[m0.ID]).length:Int) 1=(path.length:Int):=by rw[cb (by simp <;> omega) (by simp <;> omega)];simp
     rw[e1,if_pos (bZ.2 (by simp;omega)),if_pos (by simp),av];exact⟨fun m hm=>(by cases hm),fun _=>⟨_,_,_,by simp;exact⟨rfl,rfl,rfl⟩⟩⟩
end
section
variable {ts:List ae}
theorem memF{x:ae}(hM:x.Members.length<=1000)(hA:MAsc x.Members)(id:Int):∃r,bG (x,id)=some r/\r.2=(findM x.Members id).isSome:=by
 cases hF:findM x.Members id with
 | some m=>
  obtain⟨j,j1,j2,j3⟩:=member_find' hA hM hF
  grind
 | none=>
  obtain⟨r,r1,r2⟩:=lA (t:=x) (id:=id) (by omega);refine⟨r,r1,?_⟩;rcases r2 with⟨j,j1,j2,_,_⟩ | ⟨_,q⟩
  . exact absurd j2 (iI hF _ (aB j1 ag))
  grind
def okU(x:ae)(f:aY):Bool:=(findM x.Members f.ID).isSome || !f.Critical
def restU(x:ae)(l:List aY):List aG:=(l.filter fun f=>!(findM x.Members f.ID).isSome).map fun f=>⟨f.ID,f.Data⟩
theorem sL {x : ae} {path : List Int} (hpath : path.length <= 900) (hM : x.Members.length <= 1000) (hA : MAsc x.Members) {l : List aY} (hl : l.length <= 90000)
 {z0 z2 z4 a0 a2 a4:Int} {z1 a1:Bool} {z3 a3:List UInt8} {b1:List Int} {b2:Int} {its:List ab}:∀(k i:Nat) (acc:List aG),i+k=l.length->acc.length<=i->
 ((l.drop i).all (okU x)=true->eS (l,(l.length:Int),(i:Int),ts,b1,b2,x,z0,z1,z2,z3,z4,a0,a1,a2,a3,a4,path,its,acc)=some (.inr (ts,b1,b2,z0,z1,z2,z3,z4,a0,a1,a2,a3,a4,path,its,acc++restU x (l.drop i))))/\
 ((l.drop i).all (okU x)=false->∃w f1 f2,eS (l,(l.length:Int),(i:Int),ts,b1,b2,x,z0,z1,z2,z3,z4,a0,a1,a2,a3,a4,path,its,acc)=some (.inl (false,ts,f2,w,path,f1)))
 | 0,i,acc,hi,ha=>by
  rw[eS,if_neg (by simp;omega),List.drop_eq_nil_of_le (by omega)];exact⟨fun _=>by simp[restU],fun h=>by simp at h⟩
 | k+1,i,acc,hi,ha=>by
  have hlt:i < l.length:=by omega
  have e:l.drop i=l.getD i dC::l.drop (i+1):=by rw[bc hlt];exact List.drop_eq_getElem_cons hlt
  obtain⟨r,r1,r2⟩:=memF hM hA (l.getD i dC).ID;rw[eS,if_pos (by simp;omega),if_pos (au hlt),av,e];simp only[oZ4,oZ3];generalize l.getD i dC=f at*;rw[r1];simp only[oZ3];have hall:(f::l.drop (i+1)).all (okU x)=(okU x f && (l.drop (i+1)).all (okU x)):=rfl;rw[hall];cases hs:(findM x.Members f.ID).isSome with
  | true=>
   have ho:okU x f=true:=by unfold okU;rw[hs];rfl
   have hr:restU x (f::l.drop (i+1))=restU x (l.drop (i+1)):=by unfold restU;rw[List.filter_cons_of_neg (by rw[hs];simp)]
   rw[r2,hs,if_pos rfl,ho,hr,aD (by omega),Bool.true_and];exact sL hpath hM hA hl k (i+1) acc (by omega) (by omega)
  | false=>
   rw[r2,hs,if_neg (by simp)];cases hc:f.Critical with
   | true=>
    have ho:okU x f=false:=by unfold okU;rw[hs,hc];rfl
    rw[if_pos rfl,if_pos (aR (by omega) (by simp;omega)),mh (by simp;omega),ho];simp only[oZ3,ab.aA];have e1:subI .i64 ((path++[f.ID]).length:Int) 1=(path.length:Int):=by rw[cb (by simp <;> omega) (by simp <;> omega)];simp
    rw[e1,if_pos (bZ.2 (by simp;omega)),if_pos (by simp),av];simp_all
   | false=>
    have ho:okU x f=true:=by unfold okU;rw[hs,hc];rfl
    have hr:restU x (f::l.drop (i+1))=⟨f.ID,f.Data⟩::restU x (l.drop (i+1)):=by unfold restU;rw[List.filter_cons_of_pos (by rw[hs];rfl)];rfl
    rw[if_neg (by simp),if_pos (aR (by omega) (by simp;omega)),ho,hr,aD (by omega),Bool.true_and];have:=sL hpath hM hA hl (z0:=z0) (z1:=z1) (z2:=z2) (z3:=z3) (z4:=z4) (a0:=a0) (a1:=a1) (a2:=a2) (a3:=a3) (a4:=a4) (b1:=b1) (b2:=b2) (its:=its) k (i+1) (acc++[⟨f.ID,f.Data⟩]) (by omega) (by simp;omega)
    grind
end
section
variable {ts:List ae}
theorem HA (H : SOk ts) (HW : ∀ x, x ∈ ts -> ∀ m, m ∈ x.Members -> m.HasDefault = true -> wt m.Default <= 1000000) {n : Nat} (ih : DecR ts n) {x : ae} (hx : x ∈ ts) (k5 : x.Kind = 5) (hT : ∀ m, m ∈ x.Members -> 0 <= m.Type_ /\ m.Type_ < ts.length) {p : List UInt8} (hp : p.length <= 4096) {b1 : List Int} {b2 : Int} {path : List Int} (hpa : path.length + (n + 1) = 200):
 (∀l,vFl p=some l->∀is,seqO (vmem (vdec ts n) l) x.Members=some is->l.all (okU x)=true->kK (x,p,ts,b1,b2,path)=some (⟨5,false,0,[],0,[],is,restU x l⟩,true,ts,b1,b2,path))/\
 ((vFl p=none\/(∃l,vFl p=some l/\(seqO (vmem (vdec ts n) l) x.Members=none\/l.all (okU x)=false)))->∃w f1 f2,kK (x,p,ts,b1,b2,path)=some (w,false,ts,f1,f2,path)):=by
 obtain⟨hA1,hA2⟩:=H.A x hx (.inl k5);obtain⟨o,o1,o2,o3⟩:=IK (p:=p) (by omega);rw[kK,o1];simp only[oZ4,oZ3];by_cases h0:o.2=0
 . obtain⟨v1,v2,v3,v4⟩:=o2 h0;rw[if_neg (by simp[h0]),v1];have hOk:=H.T x hx;have hD:∀m,m∈x.Members->m.HasDefault=true->cI m.Default=some m.Default:=fun m hm hd=>IM (hOk.3 m hm) (by have:=HW x hx m hm hd;omega)
   have hP:∀m,m∈x.Members->∀q,q∈o.1->∀step b1 b2,DOut ts b1 b2 path (vdec ts n m.Type_ q.Data) (bU (step,m.Type_,q.Data,ts,b1,b2,path)):=fun m hm q hq step b1 b2=>
    j4 (by omega) (ih m.Type_ q.Data b1 b2 (path++[step]) (hT m hm).1 (hT m hm).2 (by have:=(v2 q hq).1;omega) (by simp;omega))
   obtain⟨A1,A2⟩:=y8 (x:=x) (path:=path) (by omega) (f:=vdec ts n) (l:=o.1) (by omega) (by omega) hD hP (z0:=0) (z1:=false) (z2:=0) (z3:=[]) (z4:=0) (a0:=x.Kind) (a1:=false) (a2:=0) (a3:=[]) (a4:=0) (b1:=b1) (b2:=b2) x.Members.length 0 [] (by omega) rfl;rw[List.drop_zero]at A1 A2;have z0:((0:Nat):Int)=0:=rfl;rw[z0]at A1 A2
   have B:=fun its=>sL (ts:=ts) (x:=x) (path:=path) (by omega) (by omega) hA1 (l:=o.1) (by omega) (z0:=0) (z1:=false) (z2:=0) (z3:=[]) (z4:=0) (a0:=x.Kind) (a1:=false) (a2:=0) (a3:=[]) (a4:=0) (b1:=b1) (b2:=b2) (its:=its) o.1.length 0 [] (by omega) (Nat.le_refl _)
   rw[List.drop_zero,z0]at B;constructor
   . intro l hl is his hall;cases hl;rw[A1 is his];simp only[oZ3,List.nil_append];rw[(B is).1 hall];simp[k5]
   . intro h;rcases h with h | ⟨l,hl,h⟩
     . cases h
     . cases hl;cases hs:seqO (vmem (vdec ts n) o.1) x.Members with
       | none=>
        obtain⟨w,f1,f2,hw⟩:=A2 hs;rw[hw];exact⟨_,_,_,rfl⟩
       | some is=>
        rcases h with h | h
        . rw[hs]at h;cases h
        . obtain⟨w,f1,f2,hw⟩:=(B is).2 h;rw[A1 is hs];simp only[oZ3,List.nil_append];rw[hw];exact⟨ab.eta w,f1,f2,rfl⟩
 . rw[if_pos (by simp[h0]),o3 h0];constructor
   . intro l hl;cases hl
   . intro _;rw[mh (by omega)];exact⟨_,_,_,rfl⟩
end
structure DcOk (ts:List ae):Prop where
 S:SOk ts
 V:VOk ts
 W:∀x,x∈ts->∀m,m∈x.Members->m.HasDefault=true->wt m.Default<=1000000
theorem DrOk.dc{ts:List ae}(H:DrOk ts):DcOk ts:=⟨H.V.sok H.T,H.V,fun x hx m hm hd=>by have:=H.W x hx m hm hd;omega⟩
section
variable {ts:List ae}
theorem DcOk.mem(H:DcOk ts){x:ae}(hx:x∈ts){m:aj}(hm:m∈x.Members):0<=m.Type_/\m.Type_ < ts.length:=
 H.V.U x hx m.Type_ (by unfold usesL;simp;exact .inl ⟨m,hm,rfl⟩)
theorem DcOk.elem(H:DcOk ts){x:ae}(hx:x∈ts)(hk:7<=x.Kind):0<=x.Elem/\x.Elem < ts.length:=
 H.V.U x hx x.Elem (by unfold usesL;simp[hk])
theorem DcOk.key(H:DcOk ts){x:ae}(hx:x∈ts)(hk:x.Kind=8):0<=x.Key/\x.Key < ts.length:=
 H.V.U x hx x.Key (by unfold usesL;simp[hk])
def vz :ab:=⟨0,false,0,[],0,[],[],[]⟩
abbrev Dec :=Int->List UInt8->Option ab
def vd1(p:List UInt8):Option ab:=if p=[]then some ⟨1,false,0,[],0,[],[],[]⟩else if p=[1]then some ⟨1,true,0,[],0,[],[],[]⟩else none
def vd2(x:ae)(p:List UInt8):Option ab:=match vub p with
 | some m=>if x.Low<=unz m/\unz m<=x.High then some ⟨2,false,unz m,[],0,[],[],[]⟩else none
 | none=>none
def vd3(x:ae)(p:List UInt8):Option ab:=if(p.length:Int)<=x.Max then some ⟨3,false,0,p,0,[],[],[]⟩else none
def vd4(x:ae)(p:List UInt8):Option ab:=match vub p with
 | some m=>if 1<=m/\m<=1000/\((x.Symbols.any fun y=>decide (y.ID=(m:Int))) || x.Open)=true then some ⟨4,false,0,[],(m:Int),[],[],[]⟩else none
 | none=>none
def vd9(f:Dec)(x:ae):List UInt8->Option ab
 | []=>some ⟨9,false,0,[],0,[],[],[]⟩
 | c::q=>if c=1 then(f x.Elem q).map fun v=>⟨9,false,0,[],0,[],[v],[]⟩else none
def vd6(f:Dec)(x:ae)(p:List UInt8):Option ab:=match vA p with
 | some (id,q)=>(match findM x.Members id with
  | some m=>(f m.Type_ q).map fun v=>⟨6,false,0,[],id,[],[v],[]⟩
  | none=>if x.Open=true then some ⟨6,false,0,[],id,[],[],[⟨id,q⟩]⟩else none)
 | none=>none
def vd7(f:Dec)(x:ae)(p:List UInt8):Option ab:=match vI p with
 | some l=>if(l.length:Int)<=x.Max then(seqO (f x.Elem) l).map fun is=>⟨7,false,0,[],0,[],is,[]⟩else none
 | none=>none
def vd8(f:Dec)(x:ae)(p:List UInt8):Option ab:=match vI p with
 | some l => if l.length % 2 = 0 /\ ((l.length / 2 : Nat): Int) <= x.Max then (match seqO (f x.Key) (evens l) with
  | some ks=>if ascB ks=true then(seqO (f x.Elem) (odds l)).map fun is=>⟨8,false,0,[],0,ks,is,[]⟩else none
  | none=>none)else none
 | none=>none
def vd5(f:Dec)(x:ae)(p:List UInt8):Option ab:=match vFl p with
 | some l=>(match seqO (vmem f l) x.Members with
  | some is=>if l.all (okU x)=true then some ⟨5,false,0,[],0,[],is,restU x l⟩else none
  | none=>none)
 | none=>none
def vdK(f:Dec)(x:ae)(p:List UInt8):Option ab:=
 if x.Kind=1 then vd1 p else if x.Kind=2 then vd2 x p else if x.Kind=3 then vd3 x p else if x.Kind=4 then vd4 x p
 else if x.Kind=9 then vd9 f x p else if x.Kind=6 then vd6 f x p else if x.Kind=7 then vd7 f x p else if x.Kind=8 then vd8 f x p else vd5 f x p
theorem IQ(t:Int)(p:List UInt8):vdec ts 0 t p=none:=by rw[vdec.eq_def]
theorem x9(n:Nat)(t:Int)(p:List UInt8):vdec ts (n+1) t p=vdK (vdec ts n) (ts.getD t.toNat ap) p:=by rfl
theorem DOut.eta {b1 : List Int} {b2 : Int} {path : List Int} {o : Option ab} {X : Option (ab×Bool×List ae×List Int×Int×List Int)} (h : DOut ts b1 b2 path o X):
 DOut ts b1 b2 path o (X >>=fun r=>some (ab.eta r.1,r.2.1,r.2.2.1,r.2.2.2.1,r.2.2.2.2.1,r.2.2.2.2.2)):=by
 refine⟨fun v hv=>?_,fun hn=>?_⟩
 . rw[h.1 v hv];simp[ab.aA]
 . obtain⟨w,f1,f2,hw⟩:=h.2 hn;exact⟨w,f1,f2,by rw[hw];simp[ab.aA]⟩
theorem DOut.one{b1:List Int}{b2:Int}{path:List Int}(v:ab):DOut ts b1 b2 path (some v) (some (v,true,ts,b1,b2,path)):=⟨fun v' h=>by cases h;rfl,fun h=>by cases h⟩
theorem DOut.cast{b1:List Int}{b2:Int}{path:List Int}{o o':Option ab}{X:Option (ab×Bool×List ae×List Int×Int×List Int)}(e:o=o')(h:DOut ts b1 b2 path o X):DOut ts b1 b2 path o' X:=e▸h
theorem Ag{l:List aK}{m:Nat}:(∃y,y∈l/\y.ID=(m:Int))↔(l.any fun y=>decide (y.ID=(m:Int)))=true:=by grind
theorem IR (H : DcOk ts) {n : Nat} (ih : DecR ts n) {x : ae} (hx : x ∈ ts) (k7 : x.Kind = 7) {p : List UInt8} (hp : p.length <= 4096) {b1 : List Int} {b2 : Int} {path : List Int} (hpa : path.length + (n + 1) = 200):
 DOut ts b1 b2 path (vd7 (vdec ts n) x p) (nC (x,p,ts,b1,b2,path)):=by
 obtain⟨o,o1,o2,o3⟩:=yX (p:=p) (by omega);obtain⟨e1,e2⟩:=H.elem hx (by omega);rw[nC,o1];unfold vd7;simp only[oZ4,oZ3];by_cases h0:o.2=0
 . obtain⟨v1,v2,v3⟩:=o2 h0;rw[if_neg (by simp[h0]),v1];dsimp only;by_cases hm:(o.1.length:Int)<=x.Max
   . rw[if_pos hm,if_neg (by simp;omega)];have hi:∀q,q∈o.1->∀step b1 b2,DOut ts b1 b2 path (vdec ts n x.Elem q) (bU (step,x.Elem,q,ts,b1,b2,path)):=fun q hq step b1 b2=>
      j4 (by omega) (ih x.Elem q b1 b2 (path++[step]) e1 e2 (by have:=v2 q hq;omega) (by simp;omega))
     obtain⟨A1,A2⟩:=y4 (x:=x) (l:=o.1) (by omega) hi (z0:=0) (z1:=false) (z2:=0) (z3:=[]) (z4:=0) (a0:=x.Kind) (a1:=false) (a2:=0) (a3:=[]) (a4:=0) (b1:=b1) (b2:=b2) o.1.length 0 [] (by omega) rfl;rw[List.drop_zero]at A1 A2;have z0:((0:Nat):Int)=0:=rfl;rw[z0]at A1 A2;cases hs:seqO (vdec ts n x.Elem) o.1 with
     | none=>
      obtain⟨w,f1,f2,hw⟩:=A2 hs;rw[hw];exact⟨fun v h=>by simp at h,fun _=>⟨_,_,_,rfl⟩⟩
     | some is=>
      rw[A1 is hs];exact⟨fun v' h=>by grind,fun h=>by simp at h⟩
   . rw[if_neg hm,if_pos (by simp;omega)];exact cq (by omega) _ _ _
 . rw[if_pos (by simp[h0]),o3 h0];exact cq (by omega) _ _ _
theorem Ah(H:DcOk ts):∀n,n<=200->DecR ts n
 | 0,_=>fun t p b1 b2 path t0 t1 hp hpa=>by
  rw[eZ,if_pos (by simp;omega),IQ];exact cq (by omega) _ _ _
 | n+1,hn=>fun t p b1 b2 path t0 t1 hp hpa=>by
  have ih:=Ah H n (by omega);obtain⟨j,rfl⟩:=Int.eq_ofNat_of_zero_le t0;have hj:j < ts.length:=by omega
  rw[eZ,if_neg (by simp;omega),if_pos (au hj),x9,av];have hx:=aB hj ap;generalize ts.getD j ap=x at*;obtain⟨K1,K9⟩:=H.S.K x hx;have hs7:x.Symbols.length < 9223372036854775807:=aQ (bY (H.S.T x hx).1);unfold vdK;simp only[oZ4,oZ3];obtain⟨u,u1,u3,u4⟩:=Lx p;by_cases k1:x.Kind=1
  . rw[if_pos k1,if_pos (show decide (x.Kind=1)=true by simpa using k1)];unfold vd1;by_cases h0:p=[]
    . rw[if_pos h0,if_neg (by simp[h0]),k1,h0];exact .one _
    . by_cases h1:p=[1]
      . rw[if_neg h0,if_pos h1,if_neg (by simp[h1]),k1,h1];exact .one _
      . rw[if_neg h0,if_neg h1,if_pos (by simp[h0,h1])];exact cq (by omega) _ _ _
  rw[if_neg k1,if_neg (show ¬decide (x.Kind=1)=true by simpa using k1)];by_cases k2:x.Kind=2
  . rw[if_pos k2,if_pos (show decide (x.Kind=2)=true by simpa using k2),u1];unfold vd2;simp only[oZ3];by_cases h0:u.2=0
    . obtain⟨m,m1,m2⟩:=u3 h0;rw[m1,m2,NW (Bu m1),if_neg (by simp[h0])];simp only[oZ3];by_cases hr:x.Low<=unz m/\unz m<=x.High
      . rw[if_pos hr,if_neg (by simp;omega),k2];exact .one _
      . rw[if_neg hr,if_pos (by simp;omega)];exact cq (by omega) _ _ _
    . rw[u4 h0,if_pos (by simp[h0])];exact cq (by omega) _ _ _
  rw[if_neg k2,if_neg (show ¬decide (x.Kind=2)=true by simpa using k2)];by_cases k3:x.Kind=3
  . rw[if_pos k3,if_pos (show decide (x.Kind=3)=true by simpa using k3)];unfold vd3;by_cases hr:(p.length:Int)<=x.Max
    . rw[if_pos hr,if_neg (by simp;omega),k3];exact .one _
    . rw[if_neg hr,if_pos (by simp;omega)];exact cq (by omega) _ _ _
  rw[if_neg k3,if_neg (show ¬decide (x.Kind=3)=true by simpa using k3)];by_cases k4:x.Kind=4
  . rw[if_pos k4,if_pos (show decide (x.Kind=4)=true by simpa using k4),u1];unfold vd4;simp only[oZ3];by_cases h0:u.2=0
    . obtain⟨m,m1,m2⟩:=u3 h0;rw[m1,m2];dsimp only;by_cases hr:1<=m/\m<=1000
      . obtain⟨q,q1,_,q3⟩:=lN (t:=x) (m:Int) hs7;have e:wrp .i64 (m:Int)=(m:Int):=wrp64 (by omega) (by omega);rw[if_neg (show ¬(bif bif !decide (u.2=0)then true else decide ((m:Int) < 1)then true else decide (1000 < (m:Int)))=true by simp[h0];omega),e,q1];simp only[oZ3]
        have hq:q.2=(x.Symbols.any fun y=>decide (y.ID=(m:Int))):=by
         have:=(rN q3).trans Ag
         grind
        rw[hq,k4];by_cases hb:((x.Symbols.any fun y=>decide (y.ID=(m:Int))) || x.Open)=true
        . rw[if_pos (show 1<=m/\m<=1000/\((x.Symbols.any fun y=>decide (y.ID=(m:Int))) || x.Open)=true from⟨hr.1,hr.2,hb⟩),if_neg]
          . exact .one _
          grind
        . rw[if_neg (show ¬(1<=m/\m<=1000/\((x.Symbols.any fun y=>decide (y.ID=(m:Int))) || x.Open)=true)from fun h=>hb h.2.2),if_pos]
          . exact cq (by omega) _ _ _
          grind
      . rw[if_neg (show ¬(1<=m/\m<=1000/\((x.Symbols.any fun y=>decide (y.ID=(m:Int))) || x.Open)=true)from fun h=>hr ⟨h.1,h.2.1⟩),if_pos (by simp[h0];omega)];exact cq (by omega) _ _ _
    . rw[u4 h0,if_pos (by simp[h0])];exact cq (by omega) _ _ _
  rw[if_neg k4,if_neg (show ¬decide (x.Kind=4)=true by simpa using k4)];by_cases k9:x.Kind=9
  . rw[if_pos k9,if_pos (show decide (x.Kind=9)=true by simpa using k9)];obtain⟨e1,e2⟩:=H.elem hx (by omega);cases p with
    | nil=>
     rw[if_pos (by simp),vd9,k9];exact .one _
    | cons c q=>
     have hl:(c::q).length=q.length+1:=rfl;have i0:inR 0 (c::q).length=true:=au (k:=0) (by simp);have b0:bu (c::q) 0=(c.toNat:Int):=rfl;have s0:slR 1 ((c::q).length:Int) (c::q).length=true:=bZ.2 (by simp <;> omega);have c0:cutL (c::q) 1 ((c::q).length:Int)=q:=by
      unfold cutL;simp
     rw[if_neg (by simp),if_pos i0,b0,vd9];by_cases hc:c=1
     . subst hc;rw[if_pos rfl,if_neg (by simp),if_pos s0,c0];have hd:=j4 (step:=0) (path:=path) (by omega) (ih x.Elem q b1 b2 (path++[0]) e1 e2 (by simp at hp;omega) (by simp;omega));cases hv:vdec ts n x.Elem q with
       | none=>
        obtain⟨w,f1,f2,hw⟩:=hd.2 hv;rw[hw];exact⟨fun v h=>by simp at h,fun _=>⟨_,_,_,rfl⟩⟩
       | some v=>
        rw[hd.1 v hv]
        exact⟨fun v' h=>by
         have:v'=⟨9,false,0,[],0,[],[v],[]⟩:=by simpa using h.symm
         rw[this]
         simp[ab.aA,k9],fun h=>by simp at h⟩
     . have hc':¬((c.toNat:Int)=1):=fun h=>hc (UInt8.toNat.inj (by show c.toNat=1;omega))
       rw[if_neg hc,if_pos (by simpa using hc')];exact cq (by omega) _ _ _
  rw[if_neg k9,if_neg (show ¬decide (x.Kind=9)=true by simpa using k9)];by_cases k6:x.Kind=6
  . rw[if_pos k6,if_pos (show decide (x.Kind=6)=true by simpa using k6)];refine DOut.eta (DOut.cast ?_ (IN H.S ih hx k6 (fun m hm=>H.mem hx hm) hp hpa));rfl
  rw[if_neg k6,if_neg (show ¬decide (x.Kind=6)=true by simpa using k6)];by_cases k7:x.Kind=7
  . rw[if_pos k7,if_pos (show decide (x.Kind=7)=true by simpa using k7)];exact DOut.eta (IR H ih hx k7 hp hpa)
  rw[if_neg k7,if_neg (show ¬decide (x.Kind=7)=true by simpa using k7)];by_cases k8:x.Kind=8
  . rw[if_pos k8,if_pos (show decide (x.Kind=8)=true by simpa using k8)];refine DOut.eta (DOut.cast ?_ (LG ih k8 (H.key hx k8) (H.elem hx (by omega)) hp hpa));rfl
  rw[if_neg k8,if_neg (show ¬decide (x.Kind=8)=true by simpa using k8)];have k5:x.Kind=5:=by omega
  obtain⟨R1,R2⟩:=HA H.S H.W ih hx k5 (fun m hm=>H.mem hx hm) hp (b1:=b1) (b2:=b2) hpa;refine DOut.eta ?_;unfold vd5;cases hl:vFl p with
  | none=>exact⟨fun v h=>(by cases h),fun _=>R2 (.inl hl)⟩
  | some l=>
   dsimp only;cases hs:seqO (vmem (vdec ts n) l) x.Members with
   | none=>exact⟨fun v h=>(by cases h),fun _=>R2 (.inr ⟨l,hl,.inl hs⟩)⟩
   | some is=>
    dsimp only;cases ha:l.all (okU x)with
    | true=>exact⟨fun v h=>(by cases h;exact R1 l hl is hs ha),fun h=>(by cases h)⟩
    | false=>exact⟨fun v h=>(by cases h),fun _=>R2 (.inr ⟨l,hl,.inr ha⟩)⟩
end
end
section
open Go Go.Proofs.YtandcioiaooocaaGreat.Shv Go.Sort
set_option maxRecDepth 100000
def hW(C d:Nat)(l:List aY)(m:aj):Nat:=match l.find? (fun f=>decide (f.ID=m.ID))with
 | some f=>C*(f.Data.length+1)
 | none=>d
def hS(C d:Nat)(l:List aY)(ms:List aj):Nat:=(ms.map (hW C d l)).sum
theorem y9 :∀{A B:List Fd},A.Pairwise (fun a b=>a.id < b.id)->B.Pairwise (fun a b=>a.id < b.id)->(∀x,x∈A↔x∈B)->A=B
 | [],[],_,_,_=>rfl
 | [],b::B,_,_,h=>by have:=(h b).2 (.head _);cases this
 | a::A,[],_,_,h=>by have:=(h a).1 (.head _);cases this
 | a::A,b::B,hA,hB,h=>by
  rw[List.pairwise_cons]at hA hB;have e:a=b:=by grind
  subst e;rw[y9 hA.2 hB.2 fun x=>?_]
  grind
theorem s5{α:Type}{l:List α}{y:α}(d:α)(h:y∈l):∃i,i < l.length/\l.getD i d=y:=by
 obtain⟨i,hi,rfl⟩:=List.getElem_of_mem h;exact⟨i,hi,bc hi d⟩
abbrev Rdr :=Int->ab->Int->List Int->ab ⊕ List Int
def consR{α:Type}:α ⊕ List Int->List α ⊕ List Int->List α ⊕ List Int
 | .inr p,_=>.inr p
 | .inl _,.inr p=>.inr p
 | .inl u,.inl l=>.inl (u::l)
def mapR{α β:Type}(g:α->β):α ⊕ List Int->β ⊕ List Int
 | .inr p=>.inr p
 | .inl u=>.inl (g u)
def bindR{α β:Type}(g:α->β ⊕ List Int):α ⊕ List Int->β ⊕ List Int
 | .inr p=>.inr p
 | .inl u=>g u
def fI(l:List aj)(id:Int):Option Nat:=l.findIdx? fun m=>decide (m.ID=id)
def fIr(l:List aj)(id:Int):Int×Bool:=match fI l id with
 | some j=>((j:Int),true)
 | none=>(0,false)
def bO(f:Rdr)(path:List Int)(t rt:Int):Nat->List ab->List ab ⊕ List Int
 | _,[]=>.inl []
 | i,v::l=>consR (f t v rt (path++[(i:Int)])) (bO f path t rt (i+1) l)
noncomputable def rdef (m:aj) (w:ab) (n:aj) (here:List Int):ab ⊕ List Int->ab ⊕ List Int
 | .inr p=>if om m w=true then .inr here else .inr p
 | .inl u=>if om m w=true/\om n u=false then .inr here else .inl u
noncomputable def rmem (f:Rdr) (x:ae) (v:ab) (path:List Int) (n:aj):ab ⊕ List Int:=match fI x.Members n.ID with
 | none=>if n.HasDefault=true then .inl n.Default else .inr (path++[n.ID])
 | some i=>rdef (x.Members.getD i ag) (v.Items.getD i af) n (path++[n.ID]) (f (x.Members.getD i ag).Type_ (v.Items.getD i af) n.Type_ (path++[n.ID]))
noncomputable def rmems (f:Rdr) (x:ae) (v:ab) (path:List Int):List aj->List ab ⊕ List Int
 | []=>.inl []
 | n::l=>consR (rmem f x v path n) (rmems f x v path l)
noncomputable def rrest (tw:List ae) (y:ae) (path:List Int):List aj->List ab->List aG ⊕ List Int
 | m::ms,v::l=>if(findM y.Members m.ID).isSome=true then rrest tw y path ms l
  else if m.Critical=true then .inr (path++[m.ID])
  else if om m v=true then rrest tw y path ms l
  else consR (.inl ⟨m.ID,vpay tw m.Type_ v⟩) (rrest tw y path ms l)
 | _,_=>.inl []
def rleaf(x y:ae)(v:ab):Prop:=(x.Kind=2->y.Low<=v.Int_/\v.Int_<=y.High)/\(x.Kind=3->(v.Str.length:Int)<=y.Max)/\(x.Kind=4->(∃s,s∈y.Symbols/\s.ID=v.ID)\/y.Open=true)
noncomputable def rd5 (tw:List ae) (f:Rdr) (x y:ae) (v:ab) (path:List Int):ab ⊕ List Int:=
 bindR (fun is=>mapR (fun r=>⟨5,false,0,[],0,[],is,r⟩) (rrest tw y path x.Members v.Items)) (rmems f x v path y.Members)
noncomputable def rd6 (tw:List ae) (f:Rdr) (x y:ae) (v:ab) (path:List Int):ab ⊕ List Int:=match fI x.Members v.ID with
 | none=>.inr path
 | some i=>match fI y.Members v.ID with
  | some k=>mapR (fun u=>⟨6,false,0,[],v.ID,[],[u],[]⟩) (f (x.Members.getD i ag).Type_ (v.Items.getD 0 af) (y.Members.getD k ag).Type_ (path++[v.ID]))
  | none=>if y.Open=true then .inl ⟨6,false,0,[],v.ID,[],[],[⟨v.ID,vpay tw (x.Members.getD i ag).Type_ (v.Items.getD 0 af)⟩]⟩else .inr path
def rd7(f:Rdr)(x y:ae)(v:ab)(path:List Int):ab ⊕ List Int:=
 if(v.Items.length:Int)<=y.Max then mapR (fun is=>⟨7,false,0,[],0,[],is,[]⟩) (bO f path x.Elem y.Elem 0 v.Items)else .inr path
def rd8(f:Rdr)(x y:ae)(v:ab)(path:List Int):ab ⊕ List Int:=
 if(v.Items.length:Int)<=y.Max then bindR (fun ks=>mapR (fun is=>⟨8,false,0,[],0,ks,is,[]⟩) (bO f path x.Elem y.Elem 0 v.Items)) (bO f path x.Key y.Key 0 v.Keys)else .inr path
def rd9(f:Rdr)(x y:ae)(v:ab)(path:List Int):ab ⊕ List Int:=
 mapR (fun is=>⟨9,false,0,[],0,[],is,[]⟩) (bO f path x.Elem y.Elem 0 v.Items)
open Classical in
noncomputable def rdK (tw:List ae) (f:Rdr) (x y:ae) (v:ab) (path:List Int):ab ⊕ List Int:=
 if ¬x.Kind=y.Kind then .inr path
 else if x.Kind=5 then rd5 tw f x y v path
 else if x.Kind=6 then rd6 tw f x y v path
 else if x.Kind=7 then rd7 f x y v path
 else if x.Kind=8 then rd8 f x y v path
 else if x.Kind=9 then rd9 f x y v path
 else if rleaf x y v then .inl v else .inr path
noncomputable def vread (tw tr:List ae):Nat->Rdr
 | 0=>fun _ _ _ path=>.inr path
 | n+1=>fun t v rt path=>rdK tw (vread tw tr n) (tw.getD t.toNat ap) (tr.getD rt.toNat ap) v path
theorem oM{tw tr:List ae}(n:Nat)(t:Int)(v:ab)(rt:Int)(path:List Int):vread tw tr (n+1) t v rt path=rdK tw (vread tw tr n) (tw.getD t.toNat ap) (tr.getD rt.toNat ap) v path:=rfl
section
variable {tw:List ae} {f:Rdr} {x y:ae} {v:ab} {path:List Int}
theorem Bv(hK:¬x.Kind=y.Kind):rdK tw f x y v path= .inr path:=by unfold rdK;rw[if_pos hK]
theorem rdK5(hK:x.Kind=y.Kind)(h:x.Kind=5):rdK tw f x y v path=rd5 tw f x y v path:=by unfold rdK;rw[if_neg (fun h=>h hK),if_pos h]
theorem rdK6(hK:x.Kind=y.Kind)(h:x.Kind=6):rdK tw f x y v path=rd6 tw f x y v path:=by unfold rdK;rw[if_neg (fun h=>h hK),if_neg (by omega),if_pos h]
theorem rdK7(hK:x.Kind=y.Kind)(h:x.Kind=7):rdK tw f x y v path=rd7 f x y v path:=by unfold rdK;rw[if_neg (fun h=>h hK),if_neg (by omega),if_neg (by omega),if_pos h]
theorem rdK8(hK:x.Kind=y.Kind)(h:x.Kind=8):rdK tw f x y v path=rd8 f x y v path:=by unfold rdK;rw[if_neg (fun h=>h hK),if_neg (by omega),if_neg (by omega),if_neg (by omega),if_pos h]
theorem rdK9(hK:x.Kind=y.Kind)(h:x.Kind=9):rdK tw f x y v path=rd9 f x y v path:=by unfold rdK;rw[if_neg (fun h=>h hK),if_neg (by omega),if_neg (by omega),if_neg (by omega),if_neg (by omega),if_pos h]
theorem my(hK:x.Kind=y.Kind)(h:x.Kind<=4)(hl:rleaf x y v):rdK tw f x y v path= .inl v:=by unfold rdK;rw[if_neg (fun h=>h hK),if_neg (by omega),if_neg (by omega),if_neg (by omega),if_neg (by omega),if_neg (by omega),if_pos hl]
theorem pU(hK:x.Kind=y.Kind)(h:x.Kind<=4)(hl:¬rleaf x y v):rdK tw f x y v path= .inr path:=by unfold rdK;rw[if_neg (fun h=>h hK),if_neg (by omega),if_neg (by omega),if_neg (by omega),if_neg (by omega),if_neg (by omega),if_neg hl]
end
theorem KQ{m:aj}{w:ab}{n:aj}{here p:List Int}:rdef m w n here (.inr p)=if om m w=true then .inr here else .inr p:=rfl
theorem KR{m:aj}{w:ab}{n:aj}{here:List Int}{u:ab}:rdef m w n here (.inl u)=if om m w=true/\om n u=false then .inr here else .inl u:=rfl
theorem cB{l:List aj}{id:Int}{j:Nat}(h:fI l id=some j):j < l.length/\(l.getD j ag).ID=id/\∀k,k < j->(l.getD k ag).ID≠id:=by
 obtain⟨h1,h2,h3⟩:=List.findIdx?_eq_some_iff_getElem.1 h;refine⟨h1,?_,fun k hk=>?_⟩
 . rw[bc h1];simpa using h2
 . rw[bc (by omega)]
   simpa using h3 k hk
theorem Ai{l:List aj}{id:Int}(h:fI l id=none):∀k,k < l.length->(l.getD k ag).ID≠id:=fun k hk=>by
 have:=List.findIdx?_eq_none_iff.1 h _ (aB hk ag)
 simpa using this
theorem IS(l:List aj)(id:Int):jc l id (fIr l id):=by
 unfold fIr;cases h:fI l id with
 | some j=>exact .inl ⟨j,(cB h).1,(cB h).2.1,(cB h).2.2,rfl⟩
 | none=>exact .inr ⟨Ai h,rfl⟩
theorem kh(l:List aj)(id:Int):(fI l id).isSome=(findM l id).isSome:=by
 cases h:fI l id with
 | some j=>
  obtain⟨h1,h2,_⟩:=cB h;cases g:findM l id with
  | some _=>rfl
  | none=>exact absurd h2 (iI g _ (aB h1 ag))
 | none=>
  cases g:findM l id with
  | none=>rfl
  | some m=>
   obtain⟨m1,m2⟩:=fH g;obtain⟨i,hi,rfl⟩:=List.getElem_of_mem m1;exact absurd m2 (by rw[<-bc hi ag];exact Ai h i hi)
theorem o0{α:Type}{a:α ⊕ List Int}{b:List α ⊕ List Int}{l:List α}(h:consR a b= .inl l):∃u us,a= .inl u/\b= .inl us/\l=u::us:=by
 cases a with
 | inr p=>simp[consR]at h
 | inl u=>cases b with
  | inr p=>simp[consR]at h
  | inl us=>exact⟨u,us,rfl,rfl,by simpa[consR]using h.symm⟩
theorem eB{α β:Type}{g:α->β}{a:α ⊕ List Int}{b:β}(h:mapR g a= .inl b):∃u,a= .inl u/\b=g u:=by
 cases a with
 | inr p=>simp[mapR]at h
 | inl u=>exact⟨u,rfl,by simpa[mapR]using h.symm⟩
theorem o4{α β:Type}{g:α->β ⊕ List Int}{a:α ⊕ List Int}{b:β}(h:bindR g a= .inl b):∃u,a= .inl u/\g u= .inl b:=by
 cases a with
 | inr p=>simp[bindR]at h
 | inl u=>exact⟨u,rfl,by simpa[bindR]using h⟩
theorem lY{f:Rdr}{path:List Int}{t rt:Int}:∀{l:List ab} {i:Nat} {us:List ab},bO f path t rt i l= .inl us->us.length=l.length/\∀j,j < l.length->f t (l.getD j af) rt (path++[((i+j:Nat):Int)])= .inl (us.getD j af)
 | [],i,us,h=>by
  simp only[bO,Sum.inl.injEq]at h;subst h;exact⟨rfl,fun j hj=>by simp at hj⟩
 | v::l,i,us,h=>by
  obtain⟨u,us',h1,h2,rfl⟩:=o0 h;obtain⟨a,b⟩:=lY h2;refine⟨by simp[a],fun j hj=>?_⟩;cases j with
  | zero=>exact h1
  | succ j=>
   have:=b j (by simpa using hj);rw[show i+1+j=i+(j+1) by omega]at this;exact this
theorem sf{f:Rdr}{x:ae}{v:ab}{path:List Int}:∀{l:List aj} {us:List ab},rmems f x v path l= .inl us->us.length=l.length/\∀j,j < l.length->rmem f x v path (l.getD j ag)= .inl (us.getD j af)
 | [],us,h=>by
  simp only[rmems,Sum.inl.injEq]at h;subst h;exact⟨rfl,fun j hj=>by simp at hj⟩
 | n::l,us,h=>by
  obtain⟨u,us',h1,h2,rfl⟩:=o0 h;obtain⟨a,b⟩:=sf h2;refine⟨by simp[a],fun j hj=>?_⟩;cases j with
  | zero=>exact h1
  | succ j=>exact b j (by simpa using hj)
theorem za {f : Rdr} {x : ae} {v : ab} {path : List Int} {n : aj} {u : ab} (h : rmem f x v path n = .inl u):
 (fI x.Members n.ID=none/\n.HasDefault=true/\u=n.Default)\/∃i,fI x.Members n.ID=some i/\f (x.Members.getD i ag).Type_ (v.Items.getD i af) n.Type_ (path++[n.ID])= .inl u/\(om (x.Members.getD i ag) (v.Items.getD i af)=true->om n u=true):=by
 unfold rmem at h;cases hf:fI x.Members n.ID with
 | none=>
  simp only[hf]at h;by_cases hd:n.HasDefault=true
  . rw[if_pos hd]at h;exact .inl ⟨rfl,hd,by simpa using h.symm⟩
  . rw[if_neg hd]at h;cases h
 | some i=>
  simp only[hf]at h;refine .inr ⟨i,rfl,?_⟩;revert h;cases f (x.Members.getD i ag).Type_ (v.Items.getD i af) n.Type_ (path++[n.ID])with
  | inr p=>intro h;unfold rdef at h;grind
  | inl w=>intro h;unfold rdef at h;grind
theorem o5 {tw : List ae} {y : ae} {path : List Int}: ∀ {ms : List aj} {l : List ab} {r : List aG}, rrest tw y path ms l = .inl r ->
 r.length<=ms.length/\(r.map fun a=>a.ID).Sublist (ms.map fun m=>m.ID)/\∀a,a∈r->findM y.Members a.ID=none/\∃j,j < ms.length/\j < l.length/\a=⟨(ms.getD j ag).ID,vpay tw (ms.getD j ag).Type_ (l.getD j af)⟩
 | [],l,r,h=>by
  rw[rrest]at h
  . cases h;simp
  . intros;simp_all
 | m::ms,[],r,h=>by
  rw[rrest]at h
  . cases h;simp
  . intros;simp_all
 | m::ms,v::l,r,h=>by
  have up:∀{r},rrest tw y path ms l= .inl r->r.length<=(m::ms).length/\(r.map fun a=>a.ID).Sublist ((m::ms).map fun m=>m.ID)/\∀a,a∈r->findM y.Members a.ID=none/\∃j,j < (m::ms).length/\j < (v::l).length/\a=⟨((m::ms).getD j ag).ID,vpay tw ((m::ms).getD j ag).Type_ ((v::l).getD j af)⟩:=fun {r} h=>by
   obtain⟨a,b,c⟩:=o5 h;refine⟨by simp;omega,by rw[List.map_cons];exact b.cons _,fun q hq=>?_⟩;obtain⟨c1,j,j1,j2,e⟩:=c q hq;exact⟨c1,j+1,by simp;omega,by simp;omega,e⟩
  rw[rrest]at h;by_cases c1:(findM y.Members m.ID).isSome=true
  . rw[if_pos c1]at h;exact up h
  rw[if_neg c1]at h;by_cases c2:m.Critical=true
  . rw[if_pos c2]at h;cases h
  rw[if_neg c2]at h;by_cases c3:om m v=true
  . rw[if_pos c3]at h;exact up h
  rw[if_neg c3]at h;obtain⟨u,us,e1,e2,rfl⟩:=o0 h;cases e1;obtain⟨a,b,c⟩:=o5 e2;refine⟨by simp;omega,by rw[List.map_cons,List.map_cons];exact b.cons₂ _,fun q hq=>?_⟩;rcases List.mem_cons.1 hq with rfl | hq
  . exact⟨by simpa using c1,0,by simp,by simp,rfl⟩
  . exact(up e2).2.2 q hq
section
variable {ts:List ae}
theorem vput2{n:Nat}(h:n < 16384):(vput n).length<=2:=sE 1 n (by simpa using h)
theorem kj{p:List UInt8}(h:p.length < 16384):(aW p).length<=p.length+2:=by
 have:=vput2 h;unfold aW;simp;omega
def Sm(ts:List ae)(t:Int)(v:ab):Prop:=(vpay ts t v).length+4<=wt v
theorem pD{t:Int}:∀{l:List ab},wts l<=3000->(∀y,y∈l->Sm ts t y)->((vpays ts t l).flatMap aW).length<=wts l
 | [],_,_=>by rw[vpays];simp
 | v::l,hw,h=>by
  rw[vpays,List.flatMap_cons,List.length_append];rw[ci]at hw ⊢;have h1:=h v (.head _);unfold Sm at h1;have h2:=pD (t:=t) (l:=l) (by omega) fun x hx=>h x (.tail _ hx)
  have h3:=kj (p:=vpay ts t v) (by omega);omega
theorem Aj{t:Int}{l:List ab}(h:∀y,y∈l->Sm ts t y):((vpays ts t l).headD []).length+4<=wts l\/l=[]:=by
 cases l with
 | nil=>exact .inr rfl
 | cons v l=>
  refine .inl ?_;have h1:=h v (.head _);unfold Sm at h1;rw[vpays,ci]
  grind
theorem zb :∀{ms:List aj} {l:List ab},wts l<=3000->(∀m,m∈ms->m.ID<=1000)->l.length=ms.length->(∀i,i < ms.length->Sm ts (ms.getD i ag).Type_ (l.getD i af))->((vents ts ms l).flatMap Fd.text).length<=wts l
 | [],l,_,_,_,_=>by rw[vents] <;> simp
 | m::ms,[],_,_,hl,_=>by simp at hl
 | m::ms,v::l,hw,hm,hl,h=>by
  rw[ci]at hw ⊢;rw[vents];have h1:Sm ts m.Type_ v:=h 0 (by simp);unfold Sm at h1;have h2:=zb (ms:=ms) (l:=l) (by omega) (fun x hx=>hm x (.tail _ hx)) (by simpa using hl) fun i hi=>h (i+1) (by simpa using hi)
  have h4:=hm m (.head _);split
  . omega
  . rw[List.flatMap_cons,List.length_append];have a1:=kj (p:=vpay ts m.Type_ v) (by omega);have a2:=vput2 (n:=2*m.ID.toNat+(if m.Critical then 1 else 0)) (by split <;> omega);have h3:(Fd.text ⟨m.ID.toNat,m.Critical,vpay ts m.Type_ v⟩).length<=(vpay ts m.Type_ v).length+4:=by
     show(bz m.ID.toNat m.Critical (vpay ts m.Type_ v)).length<=_;unfold bz
     grind
    omega
theorem iM(H:DrOk ts){v:ab}(hv:OkV v):∀t,vfit ts true t v->wt v<=3000->Sm ts t v:=by
 have HS:=H.V.sok H.T
 induction hv with
 | mk v hs h1 h2 h3 hk hi hrd n1 n2 n3 n4 ihk ihi=>
  intro t hf hw;obtain⟨⟨g1,g2,g3,g4⟩,hc⟩:=(cn _ _ _).1 hf;have hj:t.toNat < ts.length:=by omega
  have hmem:=aB hj ap;have hR:=g4 rfl;have hwt:=wt_eq v;have lk:∀y,y∈v.Keys->wt y+10<=wt v:=fun y hy=>by have:=bp hy;omega
  have li:∀y,y∈v.Items->wt y+10<=wt v:=fun y hy=>by have:=bp hy;omega
  have ik:∀t,vfits ts true t v.Keys->∀y,y∈v.Keys->Sm ts t y:=fun t ht y hy=>ihk y hy t (aU.1 ht y hy) (by have:=lk y hy;omega)
  have ii:∀t,vfits ts true t v.Items->∀y,y∈v.Items->Sm ts t y:=fun t ht y hy=>ihi y hy t (aU.1 ht y hy) (by have:=li y hy;omega)
  unfold Sm;rcases hc with h | h | h | h | h | h | h | h | h
  . rw[vpay1 (by omega)]
    grind
  . have hL:=H.L _ hmem (by omega);rw[vpay2 (by omega)];have:=jZ 1 (zig v.Int_).toNat (by unfold zig;split <;> omega);omega
  . rw[vpay3 (by omega)];omega
  . rw[vpay4 (by omega)];have hid:v.ID.toNat < 256 ^ 2:=by
     rcases h.2.2.2.2.2.2.2 with⟨y,y1,y2⟩ | ⟨_,h,_⟩
     . have:=HS.S _ hmem (by omega) y y1;unfold I1000 at this;omega
     . cases h
    have:=jZ 2 _ hid;omega
  . obtain⟨a1,a2,a3,a4,a5,a6,a7,a8⟩:=h;obtain⟨m1,m2⟩:=HS.A _ hmem (.inl (by omega));obtain⟨f1,f2⟩:=dy.1 a8;rw[vpay5 (by omega),uR (iL _ _)];unfold dj;rw[hR,List.map_nil,List.append_nil];have:=zb (ts:=ts) (l:=v.Items) (by omega) (HS.M _ hmem) f1 fun i hi'=>by grind
    omega
  . obtain⟨a1,a2,a3,a4,a5,a6⟩:=h;rw[vpay6 (by omega)];cases hF:findM (ts.getD t.toNat ap).Members v.ID with
    | none=>rw[hF]at a6;cases a6.2.1
    | some m=>
     rw[hF]at a6;obtain⟨b1,b2,b3⟩:=a6;obtain⟨m1,m2⟩:=fH hF;have hid:=HS.M _ hmem m m1;have:=vput2 (n:=v.ID.toNat) (by omega);rw[List.length_append];rcases Aj (ii _ b3)with q | q
     . grind
     grind
  . obtain⟨a1,a2,a3,a4,a5,a6,a7,a8,a9⟩:=h;rw[vpay7 (by omega)];have:=pD (l:=v.Items) (by omega) (ii _ a9);omega
  . obtain⟨a1,a2,a3,a4,a5,a6,a7,a8,a9,a10,a11⟩:=h;rw[vpay8 (by omega)];have e1:=pD (l:=v.Items) (by omega) (ii _ a10);have e2:=pD (l:=v.Keys) (by omega) (ik _ a9);have:=sW (vpays ts (ts.getD t.toNat ap).Key v.Keys) (vpays ts (ts.getD t.toNat ap).Elem v.Items);omega
  . obtain⟨a1,a2,a3,a4,a5,a6,a7,a8,a9⟩:=h;rw[vpay9 (by omega)];rcases Aj (ii _ a9)with q | q
    . grind
    . rw[q,vpays];simp;omega
end
section
variable {tw tr:List ae}
theorem ya{n:Nat}{t:Int}{v:ab}{rt:Int}{path:List Int}{u:ab}(hk:(tw.getD t.toNat ap).Kind<=4)(h:vread tw tr n t v rt path= .inl u):u=v:=by
 cases n with
 | zero=>cases h
 | succ n=>
  rw[oM]at h;unfold rdK at h
  grind
theorem yc{f:Rdr}{path:List Int}{t rt:Int}(hf:∀v rt path u,f t v rt path= .inl u->u=v){i:Nat}{l us:List ab}(h:bO f path t rt i l= .inl us):us=l:=by
 obtain⟨a,b⟩:=lY h;exact KM a fun j hj=>hf _ _ _ _ (b j (by omega))
theorem KS{y:ae}{path:List Int}{ms:List aj}{l:List ab}{r:List aG}(hm:MAsc ms)(h:rrest tw y path ms l= .inl r):dS y.Members r:=by
 obtain⟨_,b,c⟩:=o5 h;refine⟨?_,fun a ha=>?_⟩
 . have h1:(ms.map fun m=>m.ID).Pairwise (· < ·):=List.pairwise_map.2 hm.1
   grind
 . obtain⟨c1,j,j1,j2,e⟩:=c a ha;refine⟨?_,c1⟩;rw[e];exact hm.2 _ (aB j1 ag)
theorem I1000.i64{n:Int}(h:I1000 n): -9223372036854775808<=n/\n<=9223372036854775807:=by unfold I1000 at h;omega
def pV(tr:List ae)(rt:Int)(u:ab):Prop:=OkV u/\vfit tr false rt u
def RdOut(tw tr:List ae)(n:Nat):Prop:=∀{v:ab},OkV v->wt v<=3000->∀{t rt:Int} {path:List Int} {u:ab},vfit tw true t v->0<=rt->rt < tr.length->vread tw tr n t v rt path= .inl u->pV tr rt u
theorem HB (HW : DrOk tw) (HR : DrOk tr) {n : Nat} (ih : RdOut tw tr n): RdOut tw tr (n + 1):= by
 intro v hv hw t rt path u hf r0 r1 h;have SW:=HW.V.sok HW.T;have SR:=HR.V.sok HR.T;have hv':=hv;have hwt:=wt_eq v;obtain⟨⟨g1,g2,g3,g4⟩,hc⟩:=(cn _ _ _).1 hf;have hj:t.toNat < tw.length:=by omega
 have hjr:rt.toNat < tr.length:=by omega
 have hmem:=aB hj ap;have hmr:=aB hjr ap;have hfo:=fun u=>(cn (ts:=tr) false rt u).2
 rw[oM]at h;generalize hx:tw.getD t.toNat ap=x at*;generalize hy:tr.getD rt.toNat ap=y at*;cases hv with
 | mk _ hs h1 h2 h3 hk hi hrd n1 n2 n3 n4=>
 have sI:∀y,y∈v.Items->wt y<=3000:=fun y hy=>by have:=bp hy;omega
 have sK:∀y,y∈v.Keys->wt y<=3000:=fun y hy=>by have:=bp hy;omega
 have par:∀{t rt:Int} {i:Nat} {us:List ab},vfits tw true t v.Items->0<=rt->rt < tr.length->bO (vread tw tr n) path t rt i v.Items= .inl us->us.length=v.Items.length/\(∀q,q∈us->OkV q)/\vfits tr false rt us:=fun {t rt i us} hfs a0 a1 hp=>by
  obtain⟨a,b⟩:=lY hp;have key:∀q,q∈us->pV tr rt q:=fun q hq=>by
   obtain⟨j,j1,rfl⟩:=s5 af hq;have hm:=aB (by omega:j < v.Items.length) af;exact ih (hi _ hm) (sI _ hm) (aU.1 hfs _ hm) a0 a1 (b j (by omega))
  exact⟨a,fun q hq=>(key q hq).1,aU.2 fun q hq=>(key q hq).2⟩
 have hkk:∀t,vfits tw true t v.Keys->(tw.getD t.toNat ap).Kind<=4->∀{rt:Int} {i:Nat} {us:List ab},0<=rt->rt < tr.length->bO (vread tw tr n) path t rt i v.Keys= .inl us->us=v.Keys/\vfits tr false rt v.Keys:=fun t hfs hk4 rt i us a0 a1 hp=>by
  have e:=yc (fun v rt path u h=>ya hk4 h) hp;subst e;obtain⟨a,b⟩:=lY hp;refine⟨rfl,aU.2 fun q hq=>?_⟩;obtain⟨j,j1,rfl⟩:=s5 af hq;exact(ih (hk _ hq) (sK _ hq) (aU.1 hfs _ hq) a0 a1 (b j j1)).2
 unfold rdK at h;by_cases hK:x.Kind=y.Kind
 . rw[if_neg (by simpa using hK)]at h;rcases hc with h' | h' | h' | h' | h' | h' | h' | h' | h'
   . rw[if_neg (by omega),if_neg (by omega),if_neg (by omega),if_neg (by omega),if_neg (by omega)]at h;split at h <;> cases h
     exact⟨hv',hfo _ ⟨⟨r0,r1,by omega,by simp⟩,.inl h'⟩⟩
   . rw[if_neg (by omega),if_neg (by omega),if_neg (by omega),if_neg (by omega),if_neg (by omega)]at h;split at h <;> cases h
     rename_i hl;exact⟨hv',hfo _ ⟨⟨r0,r1,by omega,by simp⟩,.inr (.inl (by have:=hl.1 (by omega);simp_all))⟩⟩
   . rw[if_neg (by omega),if_neg (by omega),if_neg (by omega),if_neg (by omega),if_neg (by omega)]at h;split at h <;> cases h
     rename_i hl;exact⟨hv',hfo _ ⟨⟨r0,r1,by omega,by simp⟩,.inr (.inr (.inl (by have:=hl.2.1 (by omega);simp_all)))⟩⟩
   . rw[if_neg (by omega),if_neg (by omega),if_neg (by omega),if_neg (by omega),if_neg (by omega)]at h;split at h <;> cases h
     rename_i hl;have hI:I1000 v.ID:=by
      rcases h'.2.2.2.2.2.2.2 with⟨y,y1,y2⟩ | ⟨_,h,_⟩
      . rw[<-y2];exact SW.S _ hmem (by omega) y y1
      . cases h
     refine⟨hv',hfo _ ⟨⟨r0,r1,by omega,by simp⟩,.inr (.inr (.inr (.inl ⟨h'.1,h'.2.1,h'.2.2.1,h'.2.2.2.1,h'.2.2.2.2.1,h'.2.2.2.2.2.1,h'.2.2.2.2.2.2.1,?_⟩)))⟩⟩;rcases hl.2.2 (by omega)with q | q
     . exact .inl q
     grind
   . obtain⟨a1,a2,a3,a4,a5,a6,a7,a8⟩:=h';obtain⟨m1,m2⟩:=SW.A _ hmem (.inl (by omega));obtain⟨m3,m4⟩:=SR.A _ hmr (.inl (by omega));obtain⟨f1,f2⟩:=dy.1 a8;rw[if_pos (by omega)]at h;obtain⟨is,e1,h⟩:=o4 h;obtain⟨r,e2,rfl⟩:=eB h;obtain⟨b1,b2⟩:=sf e1;have key:∀j,j < y.Members.length->pV tr (y.Members.getD j ag).Type_ (is.getD j af):=fun j hj'=>by
      have hmy:=aB hj' ag;rcases za (b2 j hj')with⟨_,c2,c3⟩ | ⟨i,c1,c2,_⟩
      . rw[c3];exact⟨(HR.T _ hmr).dv _ hmy,vfit_weak _ _ (HR.D _ hmr _ hmy c2)⟩
      . obtain⟨d1,_,_⟩:=cB c1;have hm:=aB (by omega:i < v.Items.length) af;obtain⟨q0,q1⟩:=HR.dc.mem hmr hmy;exact ih (hi _ hm) (sI _ hm) (f2 i d1) q0 q1 c2
     have hro:=KS m1 e2;obtain⟨c1,_,c3⟩:=o5 e2
     refine⟨.mk _ (by simp) (by simp) (by show is.length<=_;unfold reachBytes;omega) (by show r.length<=_;unfold reachBytes;omega) (fun q hq=>by cases hq) (fun q hq=>?_) (fun q hq=>?_) (by simp) (by simp) (by simp) (fun q hq=>(hro.2 q hq).1.i64),hfo _ ⟨⟨r0,r1,by show(5:Int)=_;omega,by simp⟩,.inr (.inr (.inr (.inr (.inl ⟨rfl,rfl,rfl,rfl,rfl,rfl,hro,dy.2 ⟨b1,fun j hj'=>(key j hj').2⟩⟩))))⟩⟩
     . obtain⟨j,j1,rfl⟩:=s5 af hq;exact(key j (by have:is.length=_:=b1;have j1':j < is.length:=j1;omega)).1
     . obtain⟨_,j,j1,j2,e⟩:=c3 q hq;have hm:=aB j2 af;have:=iM HW (hi _ hm) _ (f2 j j1) (sI _ hm);unfold Sm at this;have:=sI _ hm;rw[e];unfold reachBytes
       grind
   . obtain⟨a1,a2,a3,a4,a5,a6⟩:=h';rw[if_neg (by omega),if_pos (by omega)]at h;unfold rd6 at h;obtain⟨m1,m2⟩:=SW.A _ hmem (.inr (by omega));cases hF:findM x.Members v.ID with
     | none=>rw[hF]at a6;cases a6.2.1
     | some m=>
      rw[hF]at a6;obtain⟨b1,b2,b3⟩:=a6;have hsome:=kh x.Members v.ID;rw[hF]at hsome;cases hI:fI x.Members v.ID with
      | none=>rw[hI]at hsome;cases hsome
      | some i=>
      obtain⟨d1,d2,_⟩:=cB hI;obtain⟨d3,d4⟩:=fH hF;have em:x.Members.getD i ag=m:=mg m1 (aB d1 ag) d3 (by rw[d2,d4]);have hid:I1000 v.ID:=by rw[<-d4];exact m1.2 m d3
      simp only[hI,em]at h;have hm:=aB (by omega:0 < v.Items.length) af;cases hY:fI y.Members v.ID with
      | some k=>
       simp only[hY]at h;obtain⟨w,e1,rfl⟩:=eB h;obtain⟨k1,k2,_⟩:=cB hY;have hmy:=aB k1 ag;obtain⟨q0,q1⟩:=HR.dc.mem hmr hmy;obtain⟨z1,z2⟩:=ih (hi _ hm) (sI _ hm) (aU.1 b3 _ hm) q0 q1 e1;have hFy:findM y.Members v.ID=some (y.Members.getD k ag):=by rw[<-k2];exact yZ (SR.A _ hmr (.inr (by omega))).1 hmy
       refine⟨.mk _ (by simp) (by simp) (by show[w].length<=_;unfold reachBytes;simp) (by simp) (fun q hq=>by cases hq) (fun q hq=>?_) (fun q hq=>by cases hq) (by simp) (by simp) hid.i64 (fun q hq=>by cases hq),hfo _ ⟨⟨r0,r1,by show(6:Int)=_;omega,by simp⟩,.inr (.inr (.inr (.inr (.inr (.inl ⟨rfl,rfl,rfl,rfl,rfl,?_⟩)))))⟩⟩
       . grind
       . show match findM y.Members v.ID with | some m=>_ | none=>_
         rw[hFy];exact⟨rfl,rfl,z2,trivial⟩
      | none=>
       simp only[hY]at h;split at h
       . cases h;rename_i ho;have hFy:findM y.Members v.ID=none:=by
          have:=kh y.Members v.ID;rw[hY]at this;cases hq:findM y.Members v.ID with
          | none=>rfl
          | some _=>rw[hq]at this;cases this
         have:=iM HW (hi _ hm) _ (aU.1 b3 _ hm) (sI _ hm);unfold Sm at this;have:=sI _ hm
         refine⟨.mk _ (by simp) (by simp) (by simp) (by show[_].length<=_;unfold reachBytes;simp) (fun q hq=>by cases hq) (fun q hq=>by cases hq) (fun q hq=>?_) (by simp) (by simp) hid.i64 (fun q hq=>?_),hfo _ ⟨⟨r0,r1,by show(6:Int)=_;omega,by simp⟩,.inr (.inr (.inr (.inr (.inr (.inl ⟨rfl,rfl,rfl,rfl,rfl,?_⟩)))))⟩⟩
         . rw[List.mem_singleton.1 hq];show(vpay tw _ _).length<=_;unfold reachBytes;omega
         . grind
         grind
       . cases h
   . obtain⟨a1,a2,a3,a4,a5,a6,a7,a8,a9⟩:=h';rw[if_neg (by omega),if_neg (by omega),if_pos (by omega)]at h;unfold rd7 at h;split at h
     . rename_i hM;obtain⟨is,e1,rfl⟩:=eB h;obtain⟨q0,q1⟩:=HR.dc.elem hmr (by omega);obtain⟨p1,p2,p3⟩:=par a9 q0 q1 e1
       exact⟨.mk _ (by simp) (by simp) (by show is.length<=_;omega) (by simp) (fun q hq=>by cases hq) p2 (fun q hq=>by cases hq) (by simp) (by simp) (by simp) (fun q hq=>by cases hq),hfo _ ⟨⟨r0,r1,by show(7:Int)=_;omega,by simp⟩,.inr (.inr (.inr (.inr (.inr (.inr (.inl ⟨rfl,rfl,rfl,rfl,rfl,rfl,rfl,by show(is.length:Int)<=_;omega,p3⟩))))))⟩⟩
     . cases h
   . obtain⟨a1,a2,a3,a4,a5,a6,a7,a8,a9,a10,a11⟩:=h';rw[if_neg (by omega),if_neg (by omega),if_neg (by omega),if_pos (by omega)]at h;unfold rd8 at h;split at h
     . rename_i hM;obtain⟨ks,e0,h⟩:=o4 h;obtain⟨is,e1,rfl⟩:=eB h;obtain⟨q0,q1⟩:=HR.dc.elem hmr (by omega);obtain⟨q2,q3⟩:=HR.dc.key hmr (by omega);obtain⟨p1,p2,p3⟩:=par a10 q0 q1 e1;obtain⟨rfl,p4⟩:=hkk _ a9 (SW.Ky _ hmem (by omega)).2 q2 q3 e0
       exact⟨.mk _ (by simp) (by show v.Keys.length<=_;omega) (by show is.length<=_;omega) (by simp) hk p2 (fun q hq=>by cases hq) (by simp) (by simp) (by simp) (fun q hq=>by cases hq),hfo _ ⟨⟨r0,r1,by show(8:Int)=_;omega,by simp⟩,.inr (.inr (.inr (.inr (.inr (.inr (.inr (.inl ⟨rfl,rfl,rfl,rfl,rfl,rfl,by show(v.Keys.length:Int)<=_;omega,by show is.length=v.Keys.length;omega,p4,p3,a11⟩)))))))⟩⟩
     . cases h
   . obtain⟨a1,a2,a3,a4,a5,a6,a7,a8,a9⟩:=h';rw[if_neg (by omega),if_neg (by omega),if_neg (by omega),if_neg (by omega),if_pos (by omega)]at h;obtain⟨is,e1,rfl⟩:=eB h;obtain⟨q0,q1⟩:=HR.dc.elem hmr (by omega);obtain⟨p1,p2,p3⟩:=par a9 q0 q1 e1
     exact⟨.mk _ (by simp) (by simp) (by show is.length<=_;omega) (by simp) (fun q hq=>by cases hq) p2 (fun q hq=>by cases hq) (by simp) (by simp) (by simp) (fun q hq=>by cases hq),hfo _ ⟨⟨r0,r1,by show(9:Int)=_;omega,by simp⟩,.inr (.inr (.inr (.inr (.inr (.inr (.inr (.inr ⟨rfl,rfl,rfl,rfl,rfl,rfl,rfl,by show is.length<=1;omega,p3⟩)))))))⟩⟩
 grind
theorem sg(HW:DrOk tw)(HR:DrOk tr):∀n,RdOut tw tr n
 | 0=>fun _ _ _ _ _ _ _ _ _ h=>by cases h
 | n+1=>HB HW HR (sg HW HR n)
end
theorem HC {s : az} (H : SOk s.Types) {v : ab} (hv : OkV v) (hw : wt v <= 1099511627776) {t : Int} (hf : vfit s.Types false t v) (hr : lg (s, t, v) = some 0):
 nB (s,t,v)=some (encA s.Types t v):=by
 have h2':cT (s,t,v)=some (vpay s.Types t v):=Lr H hv hw t hf;have h3':dG (s,t,v)=_:=Lq H hv hw t hf;rw[nB];simp only[ab.aA];rw[hr];simp only[oZ4,oZ3];rw[if_neg (by simp),h2'];simp only[oZ3];rw[h3'];unfold encA;generalize vpay s.Types t v=p;generalize vlev s.Types t v=l;by_cases g:4096 < p.length
 . have:decide ((4096:Int) < p.length)=true:=by simp;omega
   rw[this,if_neg (by simp)];simp only[oZ3,cond_true];rw[if_pos trivial,if_pos (.inl g)]
 . have:decide ((4096:Int) < p.length)=false:=by simp;omega
   rw[this,if_pos (by simp)];simp only[oZ3,cond_false];by_cases g2:200 < l
   . rw[if_pos (by simp;omega),if_pos (.inr g2)]
   . rw[if_neg (by simp;omega),if_neg (by omega)]
noncomputable def decA (ts:List ae) (t:Int) (m:List UInt8):ab×Int:=
 if t < 0\/(ts.length:Int)<=t then(vz,4)else if 4096 < m.length then(vz,12)else match vdec ts 200 t m with
  | some v=>(v,0)
  | none=>(vz,12)
section
variable {ts:List ae}
theorem HD(H:DcOk ts)(t:Int)(m:List UInt8):lE ((⟨ts⟩:az),t,m)=some (decA ts t m):=by
 rw[lE,rr,(oZ H.S.T H.V).1];simp only[oZ4,oZ3];unfold decA;by_cases h1:t < 0\/(ts.length:Int)<=t
 . have c:(bif decide (t < 0)then true else decide ((ts.length:Int)<=t))=true:=by rcases h1 with h1 | h1 <;> simp[h1]
   rw[if_neg (by simp),if_pos c,if_pos h1];rfl
 . have c:¬(bif decide (t < 0)then true else decide ((ts.length:Int)<=t))=true:=by
    have a:¬t < 0:=fun h=>h1 (.inl h)
    have b:¬(ts.length:Int)<=t:=fun h=>h1 (.inr h)
    simp[a,b]
   by_cases h2:4096 < m.length
   . rw[if_neg (by simp),if_neg c,if_pos (by simp;omega),if_neg h1,if_pos h2];rfl
   . have d1:=Ah H 200 (by omega) t m [] 0 [] (by omega) (by omega) (by omega) rfl;rw[if_neg (by simp),if_neg c,if_neg (by simp;omega),if_neg h1,if_neg h2];cases hv:vdec ts 200 t m with
     | none=>
      obtain⟨w,f1,f2,hw⟩:=d1.2 hv;rw[hw];rfl
     | some v=>
      rw[d1.1 v hv];simp[ab.aA]
end
theorem pm{m:aj}{v:ab}(hv:OkV v):ig (m,v)=some (om m v):=by
 rw[ig];simp only[ab.aA];unfold om;cases hd:m.HasDefault with
 | false=>rfl
 | true=>
  obtain⟨r,r1,r2⟩:=y3 hv m.Default
  grind
theorem FS{ts:List ae}(hT:∀t,t∈ts->OkT t)(hV:VOk ts){v:ab}(hv:OkV v){t:Int}(hf:vfit ts false t v):nO ((⟨ts⟩:az),t,v)=some 0:=by
 have H:=hV.sok hT;obtain⟨v1,_⟩:=oZ hT hV;obtain⟨⟨g1,g2,_⟩,_⟩:=(cn _ _ _).1 hf;obtain⟨r,r1,r2⟩:=yV H hv t false;have hr:=r2.2 hf;subst hr;have hout:¬((bif decide (t < 0)then true else decide (((⟨ts⟩:az).Types.length:Int)<=t))=true):=by grind
 rw[nO,qG];simp only[Hn,ab.aA];rw[v1];show((if(bif decide (t < 0)then true else decide (((⟨ts⟩:az).Types.length:Int)<=t))=true then some (4:Int)else some 0) >>=_)=_;rw[if_neg hout];show(oI ((⟨ts⟩:az),t,v) >>=_)=_;rw[oI];simp only[ab.aA];rw[r1];rfl
theorem si{p:List UInt8}(h:p.length<=100000):jB p=some (aW p):=by
 rw[jB,wrpn (by omega),mZ (by omega)];have:=cZ (n:=p.length) (by omega);simp only[oZ4,oZ3];rw[if_pos (bn (by omega))];rfl
theorem IT{id:Int}{c:Bool}{p:List UInt8}(hid:I1000 id)(h:p.length<=4096):od (id,c,p)=some (bz id.toNat c p,0):=by
 unfold I1000 at hid;obtain⟨n,rfl⟩:=Int.eq_ofNat_of_zero_le (by omega:0<=id);have a:¬(n:Int) < 1:=by omega
 have b:¬(1000:Int) < n:=by omega
 rw[od,if_neg (by simp[a,b]),if_neg (by simp;omega),Kr (by omega) (by omega),av];rfl
section
variable {ts:List ae}
theorem rR :∀{ms:List aj} {l:List ab},((vents ts ms l).map fun f=>f.id).Sublist (ms.map fun m=>m.ID.toNat)
 | [],l=>by rw[vents] <;> simp
 | m::ms,[]=>by rw[vents] <;> simp
 | m::ms,v::l=>by
  rw[vents];split
  . exact(rR (ms:=ms) (l:=l)).cons _
  . exact(rR (ms:=ms) (l:=l)).cons₂ _
theorem yd{ms:List aj}{l:List ab}(hm:MAsc ms):(vents ts ms l).Pairwise (fun a b=>a.id < b.id):=by
 have h1:(ms.map fun m=>m.ID.toNat).Pairwise (· < ·):=List.pairwise_map.2 (hm.1.imp_of_mem fun {a b} ha hb h=>by
  have:=hm.2 a ha;unfold I1000 at this
  omega)
 exact List.pairwise_map.1 (h1.sublist rR)
theorem w9{t:Int}{v:ab}(h:(ts.getD t.toNat ap).Kind=5)(hr:v.Rest=[])(hm:MAsc (ts.getD t.toNat ap).Members):vpay ts t v=(vents ts (ts.getD t.toNat ap).Members v.Items).flatMap Fd.text:=by
 rw[vpay5 h];have hro:dS (ts.getD t.toNat ap).Members v.Rest:=by rw[hr];exact⟨.nil,fun x hx=>by cases hx⟩
 congr 1
 have e:dj ts (ts.getD t.toNat ap).Members v.Items v.Rest=vents ts (ts.getD t.toNat ap).Members v.Items:=by
  unfold dj
  grind
 rw[<-e];refine y9 (KH (qO hm hro) (IG hm hro)) ?_ fun y=>(iL ltF _).mem_iff
 rw[e];exact yd hm
def Mp(ts:List ae)(t:Int)(v:ab):Prop:=cW ((⟨ts⟩:az),t,v)=some (vpay ts t v)
theorem mp_l0 {ms : List aj} {v : ab} (hm : ∀ m, m ∈ ms -> I1000 m.ID) (hl : v.Items.length = ms.length) (hM : ms.length <= 1000) (hv : ∀ y, y ∈ v.Items -> OkV y) (hs : ∀ i, i < ms.length -> Sm ts (ms.getD i ag).Type_ (v.Items.getD i af) /\ Mp ts (ms.getD i ag).Type_ (v.Items.getD i af)) (hw : ∀ y, y ∈ v.Items -> wt y <= 3000):
 ∀(k i:Nat) (acc:List UInt8),i+k=ms.length->acc.length<=i*4000->
 gk (acc,ms,(ms.length:Int),(i:Int),ts,v)=some (acc++(vents ts (ms.drop i) (v.Items.drop i)).flatMap Fd.text)
 | 0,i,acc,hi,ha=>by
  rw[gk,if_neg (by simp;omega),List.drop_eq_nil_of_le (by omega:ms.length<=i),vents]
  . simp
  grind
 | k+1,i,acc,hi,ha=>by
  have hlt:i < ms.length:=by omega
  have hlt2:i < v.Items.length:=by omega
  have hmem:=aB hlt2 af;rw[gk,if_pos (by simp;omega),if_pos (au hlt)];simp only[oZ4,oZ3,av,ab.aA,cM];rw[if_pos (au hlt2),pm (hv _ hmem),bm hlt ag,bm hlt2 af,vents];obtain⟨h1,h2⟩:=hs i hlt;have hww:=hw _ hmem;unfold Sm at h1;unfold Mp at h2;have rc:=fun acc=>mp_l0 hm hl hM hv hs hw k (i+1) acc (by omega)
  cases ho:om (ms.getD i ag) (v.Items.getD i af)with
  | true=>
   simp only[oZ3,Bool.not_true,Bool.false_eq_true,if_false,if_true];rw[aD (by omega),rc acc (by omega)]
  | false=>
   simp only[oZ3,Bool.not_false,if_true,Bool.false_eq_true,if_false];rw[if_pos (au hlt2),h2];simp only[oZ3];rw[IT (hm _ (aB hlt ag)) (by omega)];simp only[oZ3];have hid:=hm _ (aB hlt ag);unfold I1000 at hid;have a1:=kj (p:=vpay ts (ms.getD i ag).Type_ (v.Items.getD i af)) (by omega)
   have a2:=vput2 (n:=2*(ms.getD i ag).ID.toNat+(if(ms.getD i ag).Critical then 1 else 0)) (by split <;> omega);have hlen:(bz (ms.getD i ag).ID.toNat (ms.getD i ag).Critical (vpay ts (ms.getD i ag).Type_ (v.Items.getD i af))).length<=4000:=by
    unfold bz
    grind
   rw[if_pos (bn (by omega)),aD (by omega),rc _ (by rw[List.length_append];omega),List.append_assoc];rfl
theorem mp_l2 {x : ae} {v : ab} (h8 : ¬ x.Kind = 8) (hl : v.Items.length <= 3000) (hs : ∀ y, y ∈ v.Items -> (vpay ts x.Elem y).length <= 3000 /\ Mp ts x.Elem y):
 ∀(k i:Nat) (acc:List UInt8),i+k=v.Items.length->acc.length<=i*4000->
 cU (acc,v.Items,(v.Items.length:Int),(i:Int),ts,v,x)=some (acc++(vpays ts x.Elem (v.Items.drop i)).flatMap aW)
 | 0,i,acc,hi,ha=>by
  rw[cU,if_neg (by simp;omega),List.drop_eq_nil_of_le (by omega:v.Items.length<=i),vpays];simp
 | k+1,i,acc,hi,ha=>by
  have hlt:i < v.Items.length:=by omega
  obtain⟨h1,h2⟩:=hs _ (aB hlt af);unfold Mp at h2;rw[cU,if_pos (by simp;omega),if_pos (au hlt)];simp only[oZ4,oZ3,av,ab.aA];have a1:=kj (p:=vpay ts x.Elem (v.Items.getD i af)) (by omega);rw[if_neg (by simp[h8]),h2];simp only[oZ3];rw[si (by omega)];simp only[oZ3]
  rw[if_pos (bn (by omega)),aD (by omega),mp_l2 h8 hl hs k (i+1) _ (by omega) (by rw[List.length_append];omega),bm hlt af,vpays,List.flatMap_cons,List.append_assoc]
theorem Bw {x : ae} {v : ab} (h8 : x.Kind = 8) (hkl : v.Items.length = v.Keys.length) (hl : v.Items.length <= 3000) (hs : ∀ y, y ∈ v.Items -> (vpay ts x.Elem y).length <= 3000 /\ Mp ts x.Elem y) (hk : ∀ y, y ∈ v.Keys -> (vpay ts x.Key y).length <= 3000 /\ Mp ts x.Key y):
 ∀(k i:Nat) (acc:List UInt8),i+k=v.Items.length->acc.length<=i*8000->
 cU (acc,v.Items,(v.Items.length:Int),(i:Int),ts,v,x)=some (acc++ilv (vpays ts x.Key (v.Keys.drop i)) (vpays ts x.Elem (v.Items.drop i)))
 | 0,i,acc,hi,ha=>by
  rw[cU,if_neg (by simp;omega),List.drop_eq_nil_of_le (by omega:v.Items.length<=i),List.drop_eq_nil_of_le (by omega:v.Keys.length<=i),vpays,vpays,ilv]
  . simp
  grind
 | k+1,i,acc,hi,ha=>by
  have hlt:i < v.Items.length:=by omega
  have hlt2:i < v.Keys.length:=by omega
  obtain⟨h1,h2⟩:=hs _ (aB hlt af);obtain⟨h3,h4⟩:=hk _ (aB hlt2 af);unfold Mp at h2 h4;rw[cU,if_pos (by simp;omega),if_pos (au hlt)];simp only[oZ4,oZ3,av,ab.aA];have a1:=kj (p:=vpay ts x.Elem (v.Items.getD i af)) (by omega);have a2:=kj (p:=vpay ts x.Key (v.Keys.getD i af)) (by omega);rw[if_pos (by simp[h8]),if_pos (au hlt2),h4]
  simp only[oZ3];rw[si (by omega)];simp only[oZ3];rw[if_pos (bn (by omega)),h2];simp only[oZ3];rw[si (by omega)];simp only[oZ3]
  rw[if_pos (bn (by rw[List.length_append];omega)),aD (by omega),Bw h8 hkl hl hs hk k (i+1) _ (by omega) (by rw[List.length_append,List.length_append];omega),bm hlt af,bm hlt2 af,vpays,vpays,ilv,List.append_assoc,List.append_assoc]
theorem KT(H:SOk ts){v:ab}(hv:OkV v){t:Int}(hf:vfit ts true t v)(k4:v.Kind<=4):dn (t,v,1,ts,0)=some (vpay ts t v,ts,1):=by
 obtain⟨⟨g1,g2,g3,_⟩,hc⟩:=(cn _ _ _).1 hf;have n2:I64 v.Int_:=by cases hv with | mk _ _ _ _ _ _ _ _ _ n2 _ _=>exact n2
 obtain⟨j,rfl⟩:∃j:Nat,t=(j:Int):=⟨t.toNat,by omega⟩
 have hj:j < ts.length:=by omega
 have hmem:=aB hj ap;have hv1:=@vpay1 ts (j:Int) v;have hv2:=@vpay2 ts (j:Int) v;have hv3:=@vpay3 ts (j:Int) v;have hv4:=@vpay4 ts (j:Int) v;rw[dn];simp only[oZ4,oZ3];rw[if_pos (au hj),show maxI 0 1=1 by decide];simp only[av,ab.aA]at g3 hc hv1 hv2 hv3 hv4 ⊢;generalize ts.getD j ap=x at*;rcases hc with h | h | h | h | h | h | h | h | h
 . grind
 . rw[if_neg (mt of_decide_eq_true (by omega)),if_pos (decide_eq_true (by omega)),hv2 (by omega),tj n2];simp only[oZ3];have hz:=pT n2;obtain⟨n,hn⟩:∃n:Nat,zig v.Int_=(n:Int):=⟨(zig v.Int_).toNat,by unfold zig;split <;> omega⟩
   rw[hn,av]at hz;rw[hn,Bm hz];rfl
 . grind
 . obtain⟨n,hn,hl⟩:∃n:Nat,v.ID=(n:Int)/\n<=1000:=by
    rcases h.2.2.2.2.2.2.2 with⟨y,y1,y2⟩ | ⟨_,h,_⟩
    . have:=H.S x hmem (by omega) y y1;unfold I1000 at this
      grind
    . cases h
   rw[if_neg (mt of_decide_eq_true (by omega)),if_neg (mt of_decide_eq_true (by omega)),if_neg (mt of_decide_eq_true (by omega)),if_pos (decide_eq_true (by omega)),hv4 (by omega),hn,wrpn (by omega),Bm (by omega),av];rfl
 all_goals omega
theorem LL(H:DrOk ts){t:Int}{v:ab}(hv:OkV v)(hf:vfit ts true t v)(hs:Sm ts t v)(hw:wt v<=3000)(k4:v.Kind<=4):lD ((⟨ts⟩:az),t,v)=some (vpay ts t v,0):=by
 unfold Sm at hs;rw[lD];simp only[ab.aA];rw[FS H.T H.V hv (vfit_weak _ _ hf)];simp only[oZ4,oZ3];rw[if_neg (by simp),KT (H.V.sok H.T) hv hf k4]
 grind
theorem By(H:DrOk ts){v:ab}(hv:OkV v):∀t,vfit ts true t v->wt v<=3000->Mp ts t v:=by
 have HS:=H.V.sok H.T;have hv':=hv
 induction hv with
 | mk v hs h1 h2 h3 hk hi hrd n1 n2 n3 n4 ihk ihi=>
  intro t hf hw;have hsm:=iM H hv' t hf hw;obtain⟨⟨g1,g2,g3,g4⟩,hc⟩:=(cn _ _ _).1 hf;obtain⟨j,rfl⟩:∃j:Nat,t=(j:Int):=⟨t.toNat,by omega⟩
  have hj:j < ts.length:=by omega
  have hmem:=aB hj ap;have hR:=g4 rfl;have hwt:=wt_eq v;have lk:∀y,y∈v.Keys->wt y<=3000:=fun y hy=>by have:=bp hy;omega
  have li:∀y,y∈v.Items->wt y<=3000:=fun y hy=>by have:=bp hy;omega
  have both:∀t y,y∈v.Items->vfit ts true t y->Sm ts t y/\Mp ts t y:=fun t y hy hf=>⟨iM H (hi y hy) t hf (li y hy),ihi y hy (hi y hy) t hf (li y hy)⟩
  have bot:∀t y,y∈v.Keys->vfit ts true t y->(vpay ts t y).length<=3000/\Mp ts t y:=fun t y hy hf=>⟨by have:=iM H (hk y hy) t hf (lk y hy);unfold Sm at this;have:=lk y hy;omega,ihk y hy (hk y hy) t hf (lk y hy)⟩
  have boi:∀t y,y∈v.Items->vfit ts true t y->(vpay ts t y).length<=3000/\Mp ts t y:=fun t y hy hf=>⟨by have:=(both t y hy hf).1;unfold Sm at this;have:=li y hy;omega,(both t y hy hf).2⟩
  have nk:=wts_len' v.Keys;have ni:=wts_len' v.Items;have leaf:=LL H hv' hf hsm hw;unfold Mp;rw[cW,if_pos (au hj)];simp only[oZ4,oZ3,ab.aA];rw[av]at*;rcases hc with h | h | h | h | h | h | h | h | h
  . grind
  . grind
  . grind
  . grind
  . obtain⟨a1,a2,a3,a4,a5,a6,a7,a8⟩:=h;obtain⟨m1,m2⟩:=HS.A _ hmem (.inl (by omega));obtain⟨f1,f2⟩:=dy.1 a8;have h0:=mp_l0 (ts:=ts) (ms:=(ts.getD j ap).Members) (v:=v) m1.2 f1 (by omega) hi (fun i hi'=>both _ _ (aB (by omega) af) (f2 i hi')) li (ts.getD j ap).Members.length 0 [] (by omega) (by simp)
    have h0':gk ([],(ts.getD j ap).Members,((ts.getD j ap).Members.length:Int),0,ts,v)=_:=h0;rw[if_pos (decide_eq_true (by omega)),h0'];rw[w9 (by rw[av];omega) hR (by rw[av];exact m1),av];rfl
  . obtain⟨a1,a2,a3,a4,a5,a6⟩:=h;obtain⟨m1,m2⟩:=HS.A _ hmem (.inr (by omega));cases hF:findM (ts.getD j ap).Members v.ID with
    | none=>rw[hF]at a6;cases a6.2.1
    | some m=>
     rw[hF]at a6;obtain⟨b1,b2,b3⟩:=a6;obtain⟨d3,d4⟩:=fH hF;obtain⟨q,q1,q2,q3⟩:=member_find' m1 (by omega) hF;have hid:=m1.2 m d3;unfold I1000 at hid;have hy:=aB (by omega:0 < v.Items.length) af;obtain⟨z1,z2⟩:=boi m.Type_ _ hy (aU.1 b3 _ hy);unfold Mp at z2;obtain⟨n,hn⟩:∃n:Nat,v.ID=(n:Int):=⟨v.ID.toNat,by omega⟩
     have:=vput2 (n:=n) (by omega);rw[if_neg (mt of_decide_eq_true (by omega)),if_pos (decide_eq_true (by omega)),q2];simp only[oZ3];rw[hn,wrpn (by omega),mZ (by omega)];simp only[oZ3];rw[if_pos (au q1),if_pos (by rw[b2];rfl),av,q3,show(0:Int).toNat=0 from rfl,z2];simp only[oZ3]
     rw[if_pos (bn (by omega)),vpay6 (t:=(j:Int)) (v:=v) (by rw[av];omega),av,hF,hn,av];have hq:vpays ts m.Type_ v.Items=[vpay ts m.Type_ (v.Items.getD 0 af)]:=by
      match hv:v.Items,b2 with
      | [a],_=>rw[vpays,vpays];rfl
     grind
  . obtain⟨a1,a2,a3,a4,a5,a6,a7,a8,a9⟩:=h;have h0:=mp_l2 (ts:=ts) (x:=ts.getD j ap) (v:=v) (by omega) (by omega) (fun y hy=>boi _ y hy (aU.1 a9 y hy)) v.Items.length 0 [] (by omega) (by simp);have h0':cU ([],v.Items,(v.Items.length:Int),0,ts,v,ts.getD j ap)=_:=h0
    rw[if_neg (mt of_decide_eq_true (by omega)),if_neg (mt of_decide_eq_true (by omega)),if_neg (mt of_decide_eq_true (by omega)),if_pos (decide_eq_true (by omega)),if_pos (decide_eq_true (by omega)),h0',vpay7 (by rw[av];omega),av];rfl
  . obtain⟨a1,a2,a3,a4,a5,a6,a7,a8,a9,a10,a11⟩:=h;have h0:=Bw (ts:=ts) (x:=ts.getD j ap) (v:=v) (by omega) a8 (by omega) (fun y hy=>boi _ y hy (aU.1 a10 y hy)) (fun y hy=>bot _ y hy (aU.1 a9 y hy)) v.Items.length 0 [] (by omega) (by simp);have h0':cU ([],v.Items,(v.Items.length:Int),0,ts,v,ts.getD j ap)=_:=h0
    rw[if_neg (mt of_decide_eq_true (by omega)),if_neg (mt of_decide_eq_true (by omega)),if_neg (mt of_decide_eq_true (by omega)),if_neg (mt of_decide_eq_true (by omega)),if_pos (decide_eq_true (by omega)),h0',vpay8 (by rw[av];omega),av];rfl
  . obtain⟨a1,a2,a3,a4,a5,a6,a7,a8,a9⟩:=h;rw[if_neg (mt of_decide_eq_true (by omega)),if_neg (mt of_decide_eq_true (by omega)),if_pos (decide_eq_true (by omega)),vpay9 (by rw[av];omega),av]
    match hI:v.Items,a8 with
    | [],_=>
     rw[ju,if_neg (by simp),vpays];rfl
    | [a],_=>
     obtain⟨z1,z2⟩:=boi (ts.getD j ap).Elem a (by rw[hI];exact .head _) (aU.1 a9 a (by rw[hI];exact .head _));unfold Mp at z2;rw[ju,if_pos (by simp),if_pos (show inR 0 [a].length=true from rfl)];simp only[ab.aA];rw[show[a].getD (Int.toNat 0) af=a from rfl,z2];simp only[oZ4,oZ3]
     rw[if_pos (bn (by show 1+(vpay ts (ts.getD j ap).Elem a).length<=_;omega)),show addI .i64 0 1=1 from by decide,ju,if_neg (show ¬decide ((1:Int) < ([a].length:Int))=true from by simp),vpays,vpays];rfl
end
theorem xa {a0 a2 a4 z0 z2 z4 : Int} {a1 z1 : Bool} {a3 z3 : List UInt8} {l l2 : List ab} {r : List aG} (hl : l.length <= 1000000000) (h : ∀ y, y ∈ l -> cz y = some y): ∀ (k i : Nat), i + k = l.length ->
 ic ((l.length:Int),(i:Int),a0,a1,a2,a3,a4,z0,z1,z2,z3,z4,l,l2,r)=some (a0,a1,a2,a3,a4,z0,z1,z2,z3,z4,l,l2,r)
 | 0,i,hi=>by rw[ic,if_neg (by simp;omega)]
 | k+1,i,hi=>by
  have hlt:i < l.length:=by omega
  rw[ic,if_pos (by simp;omega),if_pos (au hlt),av,if_pos (by simp;omega)];simp only[ab.aA];rw[h _ (aB hlt af)];simp only[oZ4,oZ3,ab.aA];rw[if_pos (au hlt),if_pos (by simp;omega),aD (by omega),pj hlt];exact xa hl h k (i+1) (by omega)
theorem xc {a0 a2 a4 z0 z2 z4 : Int} {a1 z1 : Bool} {a3 z3 : List UInt8} {l l2 : List ab} {r : List aG} (hl : l.length <= 1000000000) (h : ∀ y, y ∈ l -> cz y = some y): ∀ (k i : Nat), i + k = l.length ->
 ie ((l.length:Int),(i:Int),a0,a1,a2,a3,a4,z0,z1,z2,z3,z4,l,l2,r)=some (a0,a1,a2,a3,a4,z0,z1,z2,z3,z4,l2,l,r)
 | 0,i,hi=>by rw[ie,if_neg (by simp;omega)]
 | k+1,i,hi=>by
  have hlt:i < l.length:=by omega
  rw[ie,if_pos (by simp;omega),if_pos (au hlt),av,if_pos (by simp;omega)];simp only[ab.aA];rw[h _ (aB hlt af)];simp only[oZ4,oZ3,ab.aA];rw[if_pos (au hlt),if_pos (by simp;omega),aD (by omega),pj hlt];exact xc hl h k (i+1) (by omega)
theorem HE{v:ab}(hv:OkV v):wt v<=1000000000->cz v=some v:=by
 induction hv with
 | mk v hs h1 h2 h3 hk hi hrd n1 n2 n3 n4 ihk ihi=>
  intro hw;have hwt:=wt_eq v;have l1:=wts_len' v.Keys;have l2:=wts_len' v.Items;have l3:=y5 v.Rest;have kk:∀y,y∈v.Keys->cz y=some y:=fun y hy=>ihk y hy (by have:=bp hy;omega)
  have ki:∀y,y∈v.Items->cz y=some y:=fun y hy=>ihi y hy (by have:=bp hy;omega)
  have c1:bk 120 v.Keys=some v.Keys:=by unfold bk;rw[if_pos (kB (by omega) (by omega))]
  have c2:bk 120 v.Items=some v.Items:=by unfold bk;rw[if_pos (kB (by omega) (by omega))]
  have c3:bk 24 v.Rest=some v.Rest:=by unfold bk;rw[if_pos (kB (by omega) (by omega))]
  have L0:=xa (a0:=v.Kind) (a1:=v.Bool_) (a2:=v.Int_) (a3:=v.Str) (a4:=v.ID) (z0:=0) (z1:=false) (z2:=0) (z3:=[]) (z4:=0) (l:=v.Keys) (l2:=v.Items) (r:=v.Rest) (by omega) kk v.Keys.length 0 (by omega)
  have L1:=xc (a0:=v.Kind) (a1:=v.Bool_) (a2:=v.Int_) (a3:=v.Str) (a4:=v.ID) (z0:=0) (z1:=false) (z2:=0) (z3:=[]) (z4:=0) (l:=v.Items) (l2:=v.Keys) (r:=v.Rest) (by omega) ki v.Items.length 0 (by omega);have L0':ic ((v.Keys.length:Int),0,v.Kind,v.Bool_,v.Int_,v.Str,v.ID,0,false,0,[],0,v.Keys,v.Items,v.Rest)=_:=L0
  have L1':ie ((v.Items.length:Int),0,v.Kind,v.Bool_,v.Int_,v.Str,v.ID,0,false,0,[],0,v.Items,v.Keys,v.Rest)=_:=L1;rw[cz,c1,c2,c3];simp only[oZ4,oZ3];rw[L0'];simp only[oZ3];rw[L1'];simp only[oZ3];cases v;rfl
theorem pfail{tw tr:List ae}{path:List Int}(hp:path.length<=90000)(mis:List Int):ib (tw,tr,mis,path)=some ((⟨0,false,0,[],0,[],[],[]⟩:ab),false,tw,tr,path,path):=by
 rw[ib];unfold i8 bk;rw[if_pos (aR (by omega) (by omega))];simp
theorem pE{tw tr:List ae}{path:List Int}(hp:path.length<=90000)(id:Int)(mis:List Int):jp (id,tw,tr,mis,path)=some ((⟨0,false,0,[],0,[],[],[]⟩:ab),false,tw,tr,path,path++[id]):=by
 rw[jp];unfold i8 bk;rw[if_pos (aR (by omega) (by omega))];simp only[Option.map_some,oZ4,oZ3];rw[if_pos (by simp),if_pos (aR (by omega) (by simp;omega))]
theorem pF{x:ae}(hl:x.Members.length<=1000)(id:Int):bG (x,id)=some (fIr x.Members id):=by
 obtain⟨r,r1,r2⟩:=lA (t:=x) (id:=id) (by omega);rw[r1,vZ r2 (IS _ _)]
section
variable {tw tr:List ae}
def RI(tw tr:List ae)(mis path:List Int):ab ⊕ List Int->ab×Bool×List ae×List ae×List Int×List Int
 | .inl u=>(u,true,tw,tr,mis,path)
 | .inr p=>(⟨0,false,0,[],0,[],[],[]⟩,false,tw,tr,p,path)
def PL(tw tr:List ae)(mis path:List Int)(acc:List ab):List ab ⊕ List Int->(Bool×List ae×List ae×List Int×List Int) ⊕ (List ae×List ae×List Int×List ab×List Int)
 | .inl us=>.inr (tw,tr,mis,acc++us,path)
 | .inr p=>.inl (false,tw,tr,p,path)
def PI(tw tr:List ae)(mis path:List Int):List ab ⊕ List Int->List ab×Bool×List ae×List ae×List Int×List Int
 | .inl us=>(us,true,tw,tr,mis,path)
 | .inr p=>([],false,tw,tr,p,path)
def Part(tw tr:List ae)(f:Rdr)(path:List Int)(t rt:Int)(v:ab):Prop:=∀(step:Int) (mis:List Int),gn (step,t,v,rt,tw,tr,mis,path)=some (RI tw tr mis path (f t v rt (path++[step])))
theorem zc{t rt step:Int}{v:ab}{mis path:List Int}{o:ab ⊕ List Int}(hp:path.length<=90000)(h:ij (t,v,rt,tw,tr,mis,path++[step])=some (RI tw tr mis (path++[step]) o)):gn (step,t,v,rt,tw,tr,mis,path)=some (RI tw tr mis path o):=by
 rw[gn];simp only[oZ4,oZ3,ab.aA];rw[if_pos (aR (by omega) (by simp;omega)),h];have e1:subI .i64 ((path++[step]).length:Int) 1=(path.length:Int):=by rw[cb (by simp <;> omega) (by simp <;> omega)];simp
 have e2:slR 0 (path.length:Int) (path++[step]).length=true:=bZ.2 (by simp;omega);cases o with
 | inl u=>
  simp only[oZ3,ab.aA,RI];simp_all
 | inr p=>
  simp only[oZ3,ab.aA,RI];simp_all
theorem vj {f : Rdr} {path : List Int} {t rt : Int} {l : List ab} (hl : l.length <= 50000) (h : ∀ y, y ∈ l -> Part tw tr f path t rt y): ∀ (k i : Nat) (acc : List ab) (mis : List Int), i + k = l.length -> acc.length <= i ->
 gX (t,rt,l,(l.length:Int),(i:Int),tw,tr,mis,acc,path)=some (PL tw tr mis path acc (bO f path t rt i (l.drop i)))
 | 0,i,acc,mis,hi,ha=>by
  rw[gX,if_neg (by simp;omega),List.drop_eq_nil_of_le (by omega:l.length<=i)];simp[bO,PL]
 | k+1,i,acc,mis,hi,ha=>by
  have hlt:i < l.length:=by omega
  rw[gX,if_pos (by simp;omega),if_pos (au hlt),av];simp only[ab.aA];rw[h _ (aB hlt af),bm hlt af,bO];cases f t (l.getD i af) rt (path++[(i:Int)])with
  | inr p=>rfl
  | inl u=>
   simp only[oZ4,oZ3,RI,Bool.not_true,ab.aA];rw[if_neg (by simp),if_pos (aR (by omega) (by simp;omega)),aD (by omega),vj hl h k (i+1) _ mis (by omega) (by simp;omega)];cases bO f path t rt (i+1) (l.drop (i+1))with
   | inr p=>rfl
   | inl us=>simp[PL,consR]
theorem l8 {f : Rdr} {path : List Int} {t rt : Int} {l : List ab} (hl : l.length <= 50000) (h : ∀ y, y ∈ l -> Part tw tr f path t rt y) (mis : List Int):
 d8 (t,l,rt,tw,tr,mis,path)=some (PI tw tr mis path (bO f path t rt 0 l)):=by
 have h0:=vj hl h l.length 0 [] mis (by omega) (by simp);have h0':gX (t,rt,l,(l.length:Int),0,tw,tr,mis,[],path)=_:=h0;rw[d8,h0',List.drop_zero];cases bO f path t rt 0 l with
 | inr p=>rfl
 | inl us=>rfl
def RL(tw tr:List ae)(mis path:List Int)(x:ae)(v:ab)(y:ae)(acc:List ab):List ab ⊕ List Int->(Bool×List ae×List ae×List Int×ab×List Int) ⊕ (List ae×List ae×List Int×ae×ab×ae×Int×Bool×Int×List UInt8×Int×Int×Bool×Int×List UInt8×Int×List Int×List ab)
 | .inl us=>.inr (tw,tr,mis,x,v,y,0,false,0,[],0,v.Kind,false,0,[],0,path,acc++us)
 | .inr p=>.inl (false,tw,tr,p,⟨0,false,0,[],0,[],[],[]⟩,path)
theorem zd {f : Rdr} {path : List Int} (hp : path.length <= 90000) {x y : ae} {v : ab} (hx : x.Members.length <= 1000) (hy : y.Members.length <= 1000) (hl : v.Items.length = x.Members.length) (hv : ∀ q, q ∈ v.Items -> OkV q)
 (hd:∀n,n∈y.Members->n.HasDefault=true->cz n.Default=some n.Default)
 (h:∀i,i < x.Members.length->∀n,n∈y.Members->Part tw tr f path (x.Members.getD i ag).Type_ n.Type_ (v.Items.getD i af)/\∀p u,f (x.Members.getD i ag).Type_ (v.Items.getD i af) n.Type_ p= .inl u->OkV u):∀(k j:Nat) (acc:List ab) (mis:List Int),j+k=y.Members.length->acc.length<=j->
 eT (y.Members,(y.Members.length:Int),(j:Int),tw,tr,mis,x,v,y,0,false,0,[],0,v.Kind,false,0,[],0,path,acc)=some (RL tw tr mis path x v y acc (rmems f x v path (y.Members.drop j)))
 | 0,j,acc,mis,hj,ha=>by
  rw[eT,if_neg (by simp;omega),List.drop_eq_nil_of_le (by omega:y.Members.length<=j)];simp[rmems,RL,ab.aA]
 | k+1,j,acc,mis,hj,ha=>by
  have hlt:j < y.Members.length:=by omega
  have hmy:=aB hlt ag;have rc:=fun acc mis=>zd hp hx hy hl hv hd h k (j+1) acc mis (by omega)
  rw[eT,if_pos (by simp;omega),if_pos (au hlt),av];simp only[oZ4,oZ3,ab.aA,cM];rw[pF hx,bm hlt ag,rmems];unfold rmem fIr;generalize hn:y.Members.getD j ag=n at*;cases hF:fI x.Members n.ID with
  | none=>
   simp only[oZ3,Bool.not_false];rw[if_pos trivial];cases hdn:n.HasDefault with
   | false=>
    simp only[Bool.not_false];rw[if_pos trivial,pE hp];rfl
   | true=>
    simp only[Bool.not_true];rw[if_neg (by simp),hd n hmy hdn];simp only[oZ3];rw[if_pos (aR (by omega) (by simp;omega)),aD (by omega),rc _ _ (by simp;omega),if_pos trivial];cases rmems f x v path (y.Members.drop (j+1))with
    | inr p=>rfl
    | inl us=>simp[RL,consR]
  | some i=>
   obtain⟨i1,_,_⟩:=cB hF;have i2:i < v.Items.length:=by omega
   obtain⟨p1,p2⟩:=h i i1 n hmy;simp only[oZ3,Bool.not_true];rw[if_neg (by simp),if_pos (au i1),if_pos (au i2),av,p1 n.ID mis];have hom:=pm (m:=x.Members.getD i ag) (hv _ (aB i2 af));cases hc:f (x.Members.getD i ag).Type_ (v.Items.getD i af) n.Type_ (path++[n.ID])with
   | inr p=>
    simp only[oZ3,RI,ab.aA,Bool.not_false,Bool.not_true,Bool.and_false];rw[if_pos (au i1),if_pos (au i2),hom];simp only[oZ3,Bool.false_eq_true,if_false];rw[KQ];generalize om (x.Members.getD i ag) (v.Items.getD i af)=b at*;cases b with
    | false=>rfl
    | true=>
     simp only[cond_true];rw[if_pos trivial,pE hp];rfl
   | inl u=>
    have hu:=pm (m:=n) (p2 _ u hc);simp only[oZ3,RI,ab.aA,Bool.not_false,Bool.not_true,Bool.and_true];rw[if_pos (au i1),if_pos (au i2),hom];simp only[oZ3,Bool.false_eq_true,if_false];rw[KR];generalize om (x.Members.getD i ag) (v.Items.getD i af)=b at*
    have tail:(some [u] >>=fun t110=>if room 120 (acc++t110).length=true then eT (y.Members,(y.Members.length:Int),addI .i64 (j:Int) 1,tw,tr,mis,x,v,y,0,false,0,[],0,v.Kind,false,0,[],0,path,acc++t110)else none)=some (RL tw tr mis path x v y acc (consR (.inl u) (rmems f x v path (y.Members.drop (j+1))))):=by
     simp only[oZ4,oZ3];rw[if_pos (aR (by omega) (by simp;omega)),aD (by omega),rc _ _ (by simp;omega)];cases rmems f x v path (y.Members.drop (j+1))with
     | inr p=>rfl
     | inl us=>simp[RL,consR]
    cases b with
    | false=>grind
    | true=>
     rw[if_pos rfl,hu];cases hb:om n u with
     | true=>grind
     | false=>
      simp only[oZ3,cond_true,cond_false,Bool.not_false,and_self,if_true];rw[pE hp];rfl
def RL1(tw tr:List ae)(mis path:List Int)(v:ab)(its:List ab)(acc:List aG):List aG ⊕ List Int->(Bool×List ae×List ae×ab×List Int×List Int) ⊕ (List ae×List ae×List Int×Int×Bool×Int×List UInt8×Int×Int×Bool×Int×List UInt8×Int×List Int×List ab×List aG)
 | .inl rs=>.inr (tw,tr,mis,0,false,0,[],0,v.Kind,false,0,[],0,path,its,acc++rs)
 | .inr p=>.inl (false,tw,tr,⟨0,false,0,[],0,[],[],[]⟩,path,p)
theorem zf {path : List Int} (hp : path.length <= 90000) {x y : ae} {v : ab} (hx : x.Members.length <= 1000) (hy : y.Members.length <= 1000) (hl : v.Items.length = x.Members.length) (hv : ∀ q, q ∈ v.Items -> OkV q)
 (h:∀i,i < x.Members.length->Mp tw (x.Members.getD i ag).Type_ (v.Items.getD i af)) {its:List ab} (mis:List Int):∀(k i:Nat) (acc:List aG),i+k=x.Members.length->acc.length<=i->
 dW (x.Members,(x.Members.length:Int),(i:Int),tw,tr,mis,v,y,0,false,0,[],0,v.Kind,false,0,[],0,path,its,acc)=some (RL1 tw tr mis path v its acc (rrest tw y path (x.Members.drop i) (v.Items.drop i)))
 | 0,i,acc,hi,ha=>by
  rw[dW,if_neg (by simp;omega),List.drop_eq_nil_of_le (by omega:x.Members.length<=i),rrest]
  . simp[RL1]
  grind
 | k+1,i,acc,hi,ha=>by
  have hlt:i < x.Members.length:=by omega
  have hlt2:i < v.Items.length:=by omega
  have rc:=fun acc=>zf hp hx hy hl hv h (its:=its) mis k (i+1) acc (by omega)
  rw[dW,if_pos (by simp;omega),if_pos (au hlt),av];simp only[oZ4,oZ3,ab.aA,cM];rw[pF hy,bm hlt ag,bm hlt2 af,rrest];have hs:=kh y.Members (x.Members.getD i ag).ID;have hk:(fIr y.Members (x.Members.getD i ag).ID).2=(findM y.Members (x.Members.getD i ag).ID).isSome:=by
   rw[<-hs];unfold fIr
   grind
  simp only[oZ3];rw[hk];by_cases c1:(findM y.Members (x.Members.getD i ag).ID).isSome=true
  . rw[if_pos c1,if_pos c1,aD (by omega),rc _ (by omega)]
  rw[if_neg c1,if_neg c1];by_cases c2:(x.Members.getD i ag).Critical=true
  . rw[if_pos c2,if_pos c2,pE hp];rfl
  rw[if_neg c2,if_neg c2,if_pos (au hlt2),pm (hv _ (aB hlt2 af))];simp only[oZ3];cases om (x.Members.getD i ag) (v.Items.getD i af)with
  | true=>rw[if_neg (by simp),if_pos rfl,aD (by omega),rc _ (by omega)]
  | false=>
   have hM:=h i hlt;unfold Mp at hM;rw[if_pos (show(!false)=true from rfl),if_neg (show ¬false=true by simp),if_pos (au hlt2),hM];simp only[oZ3];rw[if_pos (aR (by omega) (by simp;omega)),aD (by omega),rc _ (by simp;omega)];cases rrest tw y path (x.Members.drop (i+1)) (v.Items.drop (i+1))with
   | inr p=>rfl
   | inl us=>simp[RL1,consR]
end
section
variable {tw tr:List ae}
theorem HF {f : Rdr} {path : List Int} (hp : path.length <= 90000) {x y : ae} {v : ab} (k5 : v.Kind = 5) (hx : x.Members.length <= 1000) (hy : y.Members.length <= 1000) (hl : v.Items.length = x.Members.length) (hv : ∀ q, q ∈ v.Items -> OkV q)
 (hd:∀n,n∈y.Members->n.HasDefault=true->cz n.Default=some n.Default)
 (h:∀i,i < x.Members.length->∀n,n∈y.Members->Part tw tr f path (x.Members.getD i ag).Type_ n.Type_ (v.Items.getD i af)/\∀p u,f (x.Members.getD i ag).Type_ (v.Items.getD i af) n.Type_ p= .inl u->OkV u)
 (hm:∀i,i < x.Members.length->Mp tw (x.Members.getD i ag).Type_ (v.Items.getD i af)) (mis:List Int):
 kP (x,v,y,tw,tr,mis,path)=some (RI tw tr mis path (rd5 tw f x y v path)):=by
 have h0:=zd hp hx hy hl hv hd h y.Members.length 0 [] mis (by omega) (by simp);have h0':eT (y.Members,(y.Members.length:Int),0,tw,tr,mis,x,v,y,0,false,0,[],0,v.Kind,false,0,[],0,path,[])=_:=h0;rw[kP];simp only[ab.aA];rw[h0',List.drop_zero];unfold rd5;cases rmems f x v path y.Members with
 | inr p=>rfl
 | inl its=>
  have h1:=zf (tr:=tr) hp hx hy hl hv hm (its:=its) mis x.Members.length 0 [] (by omega) (by simp);have h1':dW (x.Members,(x.Members.length:Int),0,tw,tr,mis,v,y,0,false,0,[],0,v.Kind,false,0,[],0,path,its,[])=_:=h1;simp only[oZ4,oZ3,RL,List.nil_append,ab.aA];rw[h1',List.drop_zero,List.drop_zero]
  cases rrest tw y path x.Members v.Items with
  | inr p=>rfl
  | inl r=>simp only[oZ3,RL1,List.nil_append,k5,bindR,mapR,RI]
theorem IU {f : Rdr} {path : List Int} (hp : path.length <= 90000) {x y : ae} {v : ab} (k6 : v.Kind = 6) (hx : x.Members.length <= 1000) (hy : y.Members.length <= 1000) (h1 : v.Items.length = 1) {i : Nat} (hi : fI x.Members v.ID = some i)
 (h:∀n,n∈y.Members->Part tw tr f path (x.Members.getD i ag).Type_ n.Type_ (v.Items.getD 0 af))
 (hm:Mp tw (x.Members.getD i ag).Type_ (v.Items.getD 0 af)) (mis:List Int):
 kW (x,v,y,tw,tr,mis,path)=some (RI tw tr mis path (rd6 tw f x y v path)):=by
 obtain⟨i1,_,_⟩:=cB hi;have hin:inR 0 v.Items.length=true:=by rw[h1];rfl
 rw[kW,pF hx,pF hy];unfold rd6 fIr;simp only[oZ4,oZ3,ab.aA,hi];cases hF:fI y.Members v.ID with
 | some k=>
  obtain⟨k1,_,_⟩:=cB hF;simp only;rw[if_pos trivial,if_pos (au i1),if_pos hin,if_pos (au k1),av,av,show(0:Int).toNat=0 from rfl,h _ (aB k1 ag)];cases f (x.Members.getD i ag).Type_ (v.Items.getD 0 af) (y.Members.getD k ag).Type_ (path++[v.ID])with
  | inr p=>
   simp only[oZ3,RI,Bool.not_false,mapR];rw[if_pos trivial]
  | inl u=>
   simp only[oZ3,RI,Bool.not_true,mapR,ab.aA,k6];rw[if_neg (by simp)]
 | none=>
  simp only;rw[if_neg (by simp)];cases y.Open with
  | false=>
   simp only[Bool.not_false];rw[if_pos trivial,pfail hp];simp only[oZ3,ab.aA,Bool.false_eq_true,if_false,RI]
  | true=>
   unfold Mp at hm;simp only[Bool.not_true];rw[if_neg (by simp),if_pos (au i1),if_pos hin,av,show(0:Int).toNat=0 from rfl,hm];simp only[oZ3,if_true,RI,k6]
def RdI(tw tr:List ae)(n:Nat):Prop:=∀{v:ab},OkV v->wt v<=3000->wt v<=n->∀{t rt:Int} {path:List Int} (mis:List Int),vfit tw true t v->0<=rt->rt < tr.length->path.length+n<=50000->
 ij (t,v,rt,tw,tr,mis,path)=some (RI tw tr mis path (vread tw tr n t v rt path))
theorem IV(HW:DrOk tw)(HR:DrOk tr){n:Nat}(ih:RdI tw tr n):RdI tw tr (n+1):=by
 intro v hv hw hn t rt path mis hf r0 r1 hp;have SW:=HW.V.sok HW.T;have SR:=HR.V.sok HR.T;have hwt:=wt_eq v;obtain⟨⟨g1,g2,g3,g4⟩,hc⟩:=(cn _ _ _).1 hf;obtain⟨j,rfl⟩:∃j:Nat,t=(j:Int):=⟨t.toNat,by omega⟩
 obtain⟨k,rfl⟩:∃k:Nat,rt=(k:Int):=⟨rt.toNat,by omega⟩
 have hj:j < tw.length:=by omega
 have hk':k < tr.length:=by omega
 have hmem:=aB hj ap;have hmr:=aB hk' ap;have hR:=g4 rfl;cases hv with
 | mk _ hs h1 h2 h3 hk hi hrd n1 n2 n3 n4=>
 rw[ij,if_pos (au hj),oM];simp only[oZ4,oZ3,av,ab.aA];rw[av]at g3 hc;rw[if_pos (au hk')];have cm:∀q,q∈(tr.getD k ap).Members->q.HasDefault=true->cz q.Default=some q.Default:=fun q hq hd=>HE ((HR.T _ hmr).dv _ hq) (by have:=HR.W _ hmr q hq hd;omega)
 generalize hx:tw.getD j ap=x at*;generalize hy:tr.getD k ap=y at*;have sI:∀y,y∈v.Items->wt y<=3000/\wt y<=n:=fun y hy=>by have:=bp hy;omega
 have sK:∀y,y∈v.Keys->wt y<=3000/\wt y<=n:=fun y hy=>by have:=bp hy;omega
 have pI:∀{t rt:Int} {q:ab},q∈v.Items->vfit tw true t q->0<=rt->rt < tr.length->Part tw tr (vread tw tr n) path t rt q:=fun {t rt q} hq hf a0 a1 step mis=>zc (by omega) (ih (hi q hq) (sI q hq).1 (sI q hq).2 mis hf a0 a1 (by simp;omega))
 have pK:∀{t rt:Int} {q:ab},q∈v.Keys->vfit tw true t q->0<=rt->rt < tr.length->Part tw tr (vread tw tr n) path t rt q:=fun {t rt q} hq hf a0 a1 step mis=>zc (by omega) (ih (hk q hq) (sK q hq).1 (sK q hq).2 mis hf a0 a1 (by simp;omega))
 have nk:=wts_len' v.Keys;have ni:=wts_len' v.Items;have F:=pfail (tw:=tw) (tr:=tr) (path:=path) (by omega) mis;by_cases hK:x.Kind=y.Kind
 . rw[if_neg (show ¬(!(decide (x.Kind=y.Kind)))=true by simp[hK])];have p0:∀{t rt:Int},v.Items=[]->d8 (t,v.Items,rt,tw,tr,mis,path)=some ([],true,tw,tr,mis,path):=fun {t rt} he=>by
    have:=l8 (tw:=tw) (tr:=tr) (f:=vread tw tr n) (path:=path) (t:=t) (rt:=rt) (l:=v.Items) (by omega) (fun q hq=>by rw[he]at hq;cases hq) mis;rw[this,he];rfl
   rcases hc with h | h | h | h | h | h | h | h | h
   . obtain⟨a1,a2,a3,a4,a5,a6,a7⟩:=h;have a1':x.Kind=1:=by omega
     have hl:rleaf x y v:=⟨fun h=>by omega,fun h=>by omega,fun h=>by omega⟩
     rw[my hK (by omega) hl];simp only[a1'];simp only[p0 a6,oZ3,decide_false,Bool.false_eq_true,if_false,Int.reduceEq,Bool.not_true,RI];cases v;simp_all
   . obtain⟨a1,a2,a3,a4,a5,a6,a7,a8,a9⟩:=h;have a1':x.Kind=2:=by omega
     by_cases hl:y.Low<=v.Int_/\v.Int_<=y.High
     . rw[my hK (by omega) (show rleaf x y v from⟨fun _=>hl,fun h=>by omega,fun h=>by omega⟩)];simp only[a1'];simp only[p0 a6,hl.1,hl.2,oZ3,decide_false,decide_true,Bool.false_eq_true,if_false,if_true,Int.reduceEq,Bool.not_true,cond_true,RI];cases v;simp_all
     . rw[pU hK (by omega) (show ¬rleaf x y v from fun h=>hl (h.1 a1'))];have hb:(bif decide (y.Low<=v.Int_)then decide (v.Int_<=y.High)else false)=false:=by
        by_cases c:y.Low<=v.Int_ <;> simp[c]
        omega
       simp only[a1',hb];simp only[F,oZ3,decide_true,if_true,Bool.not_false,RI,ab.aA]
   . obtain⟨a1,a2,a3,a4,a5,a6,a7,a8⟩:=h;have a1':x.Kind=3:=by omega
     by_cases hl:(v.Str.length:Int)<=y.Max
     . rw[my hK (by omega) (show rleaf x y v from⟨fun h=>by omega,fun _=>hl,fun h=>by omega⟩)];simp only[a1'];simp only[p0 a6,hl,oZ3,decide_false,decide_true,Bool.false_eq_true,if_false,if_true,Int.reduceEq,Bool.not_true,cond_true,RI];cases v;simp_all
     . rw[pU hK (by omega) (show ¬rleaf x y v from fun h=>hl (h.2.1 a1'))];simp only[a1'];simp only[F,hl,oZ3,decide_true,decide_false,if_true,if_false,Int.reduceEq,Bool.false_eq_true,Bool.not_false,RI,ab.aA]
   . obtain⟨a1,a2,a3,a4,a5,a6,a7,a8⟩:=h;have a1':x.Kind=4:=by omega
     obtain⟨r,r1,_,r2⟩:=lN (t:=y) v.ID (by have:=(HR.T _ hmr).1;have:=aQ (Nat.le_refl reachBytes);omega);have hr:r.2=true↔∃s,s∈y.Symbols/\s.ID=v.ID:=by
      rcases r2 with⟨q,q1,q2,_,rfl⟩ | ⟨q,rfl⟩
      . exact⟨fun _=>⟨_,aB q1 aP,q2⟩,fun _=>rfl⟩
      . constructor
        . intro h;simp at h
        intro hq;obtain⟨s,s1,s2⟩:=hq;obtain⟨i,hi,rfl⟩:=List.getElem_of_mem s1;exact absurd s2 (by have:=q i hi;rwa [bc hi]at this)
     by_cases hl:(∃s,s∈y.Symbols/\s.ID=v.ID)\/y.Open=true
     . rw[my hK (by omega) (show rleaf x y v from⟨fun h=>by omega,fun h=>by omega,fun _=>hl⟩)];have hb:(bif r.2 then true else y.Open)=true:=by
        rcases hl with hl | hl
        . rw[hr.2 hl];rfl
        . rw[hl];cases r.2 <;> rfl
       simp only[a1',r1];simp only[p0 a6,hb,oZ3,decide_false,decide_true,Bool.false_eq_true,if_false,if_true,Int.reduceEq,Bool.not_true,RI];cases v;simp_all
     . rw[pU hK (by omega) (show ¬rleaf x y v from fun h=>hl (h.2.2 a1'))];have hb:(bif r.2 then true else y.Open)=false:=by
        cases hr2:r.2 with
        | true=>exact absurd (.inl (hr.1 hr2)) hl
        | false=>
         cases ho:y.Open with
         | true=>exact absurd (.inr ho) hl
         | false=>rfl
       simp only[a1',r1];simp only[F,hb,oZ3,decide_true,decide_false,if_true,if_false,Int.reduceEq,Bool.false_eq_true,Bool.not_false,RI,ab.aA]
   . obtain⟨a1,a2,a3,a4,a5,a6,a7,a8⟩:=h;have a1':x.Kind=5:=by omega
     obtain⟨m1,m2⟩:=SW.A _ hmem (.inl (by omega));obtain⟨m3,m4⟩:=SR.A _ hmr (.inl (by omega));obtain⟨f1,f2⟩:=dy.1 a8
     have hr:=HF (tw:=tw) (tr:=tr) (f:=vread tw tr n) (path:=path) (by omega) (x:=x) (y:=y) a1 (by omega) (by omega) f1 hi cm (fun i hi' q hq=>by
      have hm:=aB (by omega:i < v.Items.length) af;obtain⟨q0,q1⟩:=HR.dc.mem hmr hq;exact⟨pI hm (f2 i hi') q0 q1,fun p u hu=>(sg HW HR n (hi _ hm) (sI _ hm).1 (f2 i hi') q0 q1 hu).1⟩) (fun i hi'=>by
      have hm:=aB (by omega:i < v.Items.length) af
      exact By HW (hi _ hm) _ (f2 i hi') (sI _ hm).1) mis
     rw[rdK5 hK a1'];simp only[a1',hr,oZ3,decide_false,decide_true,Bool.false_eq_true,if_false,if_true,Int.reduceEq,ab.aA]
   . obtain⟨a1,a2,a3,a4,a5,a6⟩:=h;have a1':x.Kind=6:=by omega
     obtain⟨m1,m2⟩:=SW.A _ hmem (.inr (by omega));obtain⟨m3,m4⟩:=SR.A _ hmr (.inr (by omega));cases hF:findM x.Members v.ID with
     | none=>rw[hF]at a6;cases a6.2.1
     | some m=>
      rw[hF]at a6;obtain⟨b1,b2,b3⟩:=a6;have hsome:=kh x.Members v.ID;rw[hF]at hsome;cases hI:fI x.Members v.ID with
      | none=>rw[hI]at hsome;cases hsome
      | some i=>
      obtain⟨d1,d2,_⟩:=cB hI;obtain⟨d3,d4⟩:=fH hF;have em:x.Members.getD i ag=m:=mg m1 (aB d1 ag) d3 (by rw[d2,d4]);have hm:=aB (by omega:0 < v.Items.length) af;have hfit:=aU.1 b3 _ hm
      have hr:=IU (tw:=tw) (tr:=tr) (f:=vread tw tr n) (path:=path) (by omega) (x:=x) (y:=y) a1 (by omega) (by omega) b2 hI (fun q hq=>by
       obtain⟨q0,q1⟩:=HR.dc.mem hmr hq;rw[em]
       exact pI hm hfit q0 q1) (by rw[em];exact By HW (hi _ hm) _ hfit (sI _ hm).1) mis
      rw[rdK6 hK a1'];simp only[a1',hr,oZ3,decide_false,decide_true,Bool.false_eq_true,if_false,if_true,Int.reduceEq,ab.aA]
   . obtain⟨a1,a2,a3,a4,a5,a6,a7,a8,a9⟩:=h;have a1':x.Kind=7:=by omega
     obtain⟨q0,q1⟩:=HR.dc.elem hmr (by omega);have hq:=l8 (tw:=tw) (tr:=tr) (f:=vread tw tr n) (path:=path) (t:=x.Elem) (rt:=y.Elem) (l:=v.Items) (by omega) (fun q hq=>pI hq (aU.1 a9 q hq) q0 q1) mis;rw[rdK7 hK a1'];unfold rd7;by_cases hl:(v.Items.length:Int)<=y.Max
     . rw[if_pos hl];simp only[a1',hq,hl,oZ3,decide_false,decide_true,Bool.false_eq_true,if_false,if_true,Int.reduceEq,Bool.not_true];cases bO (vread tw tr n) path x.Elem y.Elem 0 v.Items with
       | inr p=>rfl
       | inl us=>simp only[PI,mapR,RI,Bool.not_true,Bool.false_eq_true,if_false,a1,a2,a3,a4,a5]
     . rw[if_neg hl];simp only[a1'];simp only[F,hl,oZ3,decide_true,decide_false,if_true,if_false,Int.reduceEq,Bool.false_eq_true,Bool.not_false,RI,ab.aA]
   . obtain⟨a1,a2,a3,a4,a5,a6,a7,a8,a9,a10,a11⟩:=h;have a1':x.Kind=8:=by omega
     obtain⟨q0,q1⟩:=HR.dc.elem hmr (by omega);obtain⟨q2,q3⟩:=HR.dc.key hmr (by omega);have hq:=l8 (tw:=tw) (tr:=tr) (f:=vread tw tr n) (path:=path) (t:=x.Elem) (rt:=y.Elem) (l:=v.Items) (by omega) (fun q hq=>pI hq (aU.1 a10 q hq) q0 q1) mis
     have hqk:=l8 (tw:=tw) (tr:=tr) (f:=vread tw tr n) (path:=path) (t:=x.Key) (rt:=y.Key) (l:=v.Keys) (by omega) (fun q hq=>pK hq (aU.1 a9 q hq) q2 q3) mis;rw[rdK8 hK a1'];unfold rd8;by_cases hl:(v.Items.length:Int)<=y.Max
     . rw[if_pos hl];simp only[a1',hqk,hl,oZ3,decide_false,decide_true,Bool.false_eq_true,if_false,if_true,Int.reduceEq,Bool.not_true];cases bO (vread tw tr n) path x.Key y.Key 0 v.Keys with
       | inr p=>rfl
       | inl ks=>
        simp only[PI,bindR,Bool.not_true,Bool.false_eq_true,if_false,hq,oZ3];cases bO (vread tw tr n) path x.Elem y.Elem 0 v.Items with
        | inr p=>rfl
        | inl us=>simp only[PI,mapR,RI,Bool.not_true,Bool.false_eq_true,if_false,a1,a2,a3,a4,a5]
     . rw[if_neg hl];simp only[a1'];simp only[F,hl,oZ3,decide_true,decide_false,if_true,if_false,Int.reduceEq,Bool.false_eq_true,Bool.not_false,RI,ab.aA]
   . obtain⟨a1,a2,a3,a4,a5,a6,a7,a8,a9⟩:=h;have a1':x.Kind=9:=by omega
     obtain⟨q0,q1⟩:=HR.dc.elem hmr (by omega);have hq:=l8 (tw:=tw) (tr:=tr) (f:=vread tw tr n) (path:=path) (t:=x.Elem) (rt:=y.Elem) (l:=v.Items) (by omega) (fun q hq=>pI hq (aU.1 a9 q hq) q0 q1) mis;rw[rdK9 hK a1'];unfold rd9;simp only[a1',hq,oZ3,decide_false,decide_true,Bool.false_eq_true,if_false,if_true,Int.reduceEq,Bool.not_true]
     cases bO (vread tw tr n) path x.Elem y.Elem 0 v.Items with
     | inr p=>rfl
     | inl us=>simp only[PI,mapR,RI,Bool.not_true,Bool.false_eq_true,if_false,a1,a2,a3,a4,a5]
 . rw[if_pos (show(!(decide (x.Kind=y.Kind)))=true by simp[hK]),Bv hK,F];simp only[oZ3,ab.aA,RI]
theorem IW :RdI tw tr 0:=by
 unfold RdI;intro v _ _ hn;have:=NN v;omega
theorem zg(HW:DrOk tw)(HR:DrOk tr):∀n,RdI tw tr n
 | 0=>IW
 | n+1=>IV HW HR (zg HW HR n)
end
def NdOk(x:Nd):Prop:=NOk x/\x.Parts.length*3<=reachBytes
def NsOk(ns:List Nd):Prop:=ns.length*32<=reachBytes/\∀x,x∈ns->NdOk x
def ChOk(c:dp):Prop:=U8 c.Kind/\U8 c.Node/\U8 c.A/\U8 c.B
theorem NsOk.set{ns:List Nd}(h:NsOk ns)(j:Nat){x:Nd}(hx:NdOk x):NsOk (ns.set j x):=by
 refine⟨by rw[List.length_set];exact h.1,fun y hy=>?_⟩;rcases List.mem_or_eq_of_mem_set hy with hy | rfl
 . exact h.2 y hy
 . exact hx
theorem dQ(a:Int):U8 (IntKind.wrap .u8 a):=by
 have:IntKind.wrap .u8 a=a % 256:=by rfl
 unfold U8;omega
theorem room3{n:Nat}(h:n*3<=reachBytes):room 3 n=true:=by
 unfold reachBytes at h;unfold room bX aX;simp only[Bool.and_eq_true,decide_eq_true_eq];omega
theorem room32'{n:Nat}(h:n*32<=reachBytes):room 32 n=true:=by
 unfold reachBytes at h;unfold room bX aX;simp only[Bool.and_eq_true,decide_eq_true_eq];omega
theorem LM {L : List dp} (hLl : L.length <= reachBytes) (hc : ∀ c, c ∈ L -> ChOk c) {i : Nat} (hi : i < L.length) {ns : List Nd} (h : NsOk ns) (hn : 0 < ns.length):
 ∃ns',NsOk ns'/\ns'.length=ns.length/\bA (L,(i:Int),ns)=bA (L,((i+1:Nat):Int),ns'):=by
 obtain⟨c1,c2,c3,c4⟩:=hc _ (aB hi d6);have hr:=aQ hLl;unfold U8 at c1 c2 c3 c4;have hns:ns.length < 9223372036854775807:=by have:=h.1;unfold reachBytes at this;omega
 obtain⟨j,hj,hjl⟩:∃j:Nat,remI (wrp .i64 (L.getD i d6).Node) (ns.length:Int)=(j:Int)/\j < ns.length:=by
  have e:remI (wrp .i64 (L.getD i d6).Node) (ns.length:Int)=(L.getD i d6).Node % (ns.length:Int):=by
   rw[dm ⟨by omega,by omega⟩,bM c2.1 (by omega)]
  have h0:=Int.emod_nonneg (L.getD i d6).Node (by omega:(ns.length:Int)≠0);have h1:=Int.emod_lt_of_pos (L.getD i d6).Node (by omega:(0:Int) < ns.length);exact⟨((L.getD i d6).Node % (ns.length:Int)).toNat,by rw[e];omega,by omega⟩
 obtain⟨⟨n1,n2,n3,n4,n5,n6⟩,n7⟩:=h.2 _ (aB hjl dNd);have hd:∀z:Nat,z < (ns.getD j dNd).Parts.length->U8 ((ns.getD j dNd).Parts.getD z bV).ID/\U8 ((ns.getD j dNd).Parts.getD z bV).Type_/\U8 ((ns.getD j dNd).Parts.getD z bV).Flag:=fun z hz=>n5 _ (aB hz _)
 rw[bA,if_pos (by
  have a:(i:Int) < (L.length:Int):=by omega
  simp[a,hn]),if_pos (au hi),av]
 simp only[oZ4,oZ3];rw[if_pos (show(!(decide ((ns.length:Int)=0)))=true from by rw[Bool.not_eq_true'];exact decide_eq_false (by omega)),hj,if_pos (au hjl),av,if_pos (decide_eq_true hjl),List.nil_append,if_pos (room3 n7),if_pos (decide_eq_true hjl)];simp only[decide_true,if_true,hjl]
 have e1:addI .i64 (i:Int) 1=((i+1:Nat):Int):=aD (by omega);rw[e1];generalize hp:ns.getD j dNd=p at*;generalize hcc:L.getD i d6=c at*
 have okp:∀{a b cc:Int} {l:List dr},U8 a->U8 b->U8 cc->(∀q,q∈l->U8 q.ID/\U8 q.Type_/\U8 q.Flag)->l.length<=p.Parts.length+8/\(l.length<=p.Parts.length\/l.length<=8)->NdOk ⟨p.Kind,a,b,cc,l⟩:=fun {a b cc l} ha hb hc hl hn=>⟨⟨n1,ha,hb,hc,hl,by show l.length<=_;unfold reachBytes at*;omega⟩,by show l.length*3<=_;unfold reachBytes at*;omega⟩
 have gs:∀q:Nd,(ns.set j q).getD j aw=q:=fun q=>by rw[bc (by rw[List.length_set];exact hjl)];simp
 have u8c:∀{a:Int},0<=a/\a<=255->U8 a:=fun h=>h
 have lp:(p.Parts.length:Int) < 9223372036854775807:=by unfold reachBytes at n7;omega
 have par:∀{l:List dr},(∀q,q∈l->U8 q.ID/\U8 q.Type_/\U8 q.Flag)->l.length<=p.Parts.length+8/\(l.length<=p.Parts.length\/l.length<=8)->NdOk ⟨p.Kind,p.A,p.B,p.C,l⟩:=fun {l} h1 h2=>okp n2 n3 n4 h1 h2
 have self:p.Parts.length<=p.Parts.length+8/\(p.Parts.length<=p.Parts.length\/p.Parts.length<=8):=by omega
 by_cases hl:0 < p.Parts.length
 . have hl':(0:Int) < (p.Parts.length:Int):=by omega
   obtain⟨z,hz,hzl⟩:∃z:Nat,remI (wrp .i64 c.A) (p.Parts.length:Int)=(z:Int)/\z < p.Parts.length:=by
    have e:remI (wrp .i64 c.A) (p.Parts.length:Int)=c.A % (p.Parts.length:Int):=by
     rw[dm ⟨by omega,by omega⟩,bM c3.1 (by omega)]
    have h0:=Int.emod_nonneg c.A (by omega:(p.Parts.length:Int)≠0);have h1:=Int.emod_lt_of_pos c.A hl';exact⟨(c.A % (p.Parts.length:Int)).toNat,by rw[e];omega,by omega⟩
   simp only[hl',hz,decide_true,if_true,gs,List.set_set];rw[if_pos (show(!(decide ((p.Parts.length:Int)=0)))=true from by rw[Bool.not_eq_true'];exact decide_eq_false (by omega))];by_cases k0:remI c.Kind 8=0
   . simp only[k0,decide_true,if_true];exact⟨_,h.set j (okp (dQ _) n3 n4 n5 self),List.length_set,rfl⟩
   by_cases k1:remI c.Kind 8=1
   . simp only[k1,decide_true,decide_false,Int.reduceEq,Bool.false_eq_true,if_true,if_false];exact⟨_,h.set j (okp n2 (dQ _) n4 n5 self),List.length_set,rfl⟩
   by_cases k2:remI c.Kind 8=2
   . have k2':0<=remI c.A 6:=by rw[bM c3.1 (by omega)];omega
     simp only[k2,k2',decide_true,decide_false,Int.reduceEq,Bool.false_eq_true,if_true,if_false];exact⟨_,h.set j (okp (dQ _) n3 n4 n5 self),List.length_set,rfl⟩
   by_cases k3:remI c.Kind 8=3
   . simp only[k3,decide_true,decide_false,Int.reduceEq,Bool.false_eq_true,if_true,if_false];exact⟨_,h.set j (okp n2 n3 (dQ _) n5 self),List.length_set,rfl⟩
   by_cases k4:remI c.Kind 8=4
   . by_cases k8:(p.Parts.length:Int) < 8
     . simp only[k4,k8,decide_true,decide_false,Int.reduceEq,Bool.false_eq_true,if_true,if_false];rw[if_pos (room3 (by rw[List.length_append];unfold reachBytes;simp;omega))];refine⟨_,h.set j (par (fun q hq=>?_) (by rw[List.length_append];simp;omega)),List.length_set,rfl⟩;rcases List.mem_append.1 hq with hq | hq
       . exact n5 q hq
       . rw[List.mem_singleton.1 hq];exact⟨u8c c3,u8c c4,dQ _⟩
     . simp only[k4,k8,decide_true,decide_false,Int.reduceEq,Bool.false_eq_true,if_true,if_false];exact⟨_,h.set j (par n5 self),List.length_set,rfl⟩
   by_cases k5:remI c.Kind 8=5
   . simp only[k5,decide_true,decide_false,Int.reduceEq,Bool.false_eq_true,if_true,if_false];have ez:addI .i64 (z:Int) 1=((z+1:Nat):Int):=aD (by omega);rw[ez,if_pos (bZ.2 (by omega)),if_pos (bZ.2 (by omega)),av,av,av,if_pos (by simp;omega)]
     refine⟨_,h.set j (par (fun q hq=>?_) (by rw[List.length_append,List.length_take,List.length_take,List.length_drop];omega)),List.length_set,rfl⟩;rcases List.mem_append.1 hq with hq | hq
     . exact n5 q (List.mem_of_mem_take hq)
     . exact n5 q (List.mem_of_mem_drop (List.mem_of_mem_take hq))
   have setP:∀{w:dr},U8 w.ID/\U8 w.Type_/\U8 w.Flag->NdOk ⟨p.Kind,p.A,p.B,p.C,p.Parts.set z w⟩:=fun {w} hw=>par (fun q hq=>by
    rcases List.mem_or_eq_of_mem_set hq with hq | rfl
    . exact n5 q hq
    . exact hw) (by rw[List.length_set];exact self)
   by_cases k6:remI c.Kind 8=6
   . simp only[k6,decide_true,decide_false,Int.reduceEq,Bool.false_eq_true,if_true,if_false];rw[if_pos (au hzl),av,if_pos (decide_eq_true hzl)];exact⟨_,h.set j (setP (w:=⟨(p.Parts.getD z bV).ID,(p.Parts.getD z bV).Type_,c.B⟩) ⟨(hd z hzl).1,(hd z hzl).2.1,u8c c4⟩),List.length_set,rfl⟩
   . simp only[k0,k1,k2,k3,k4,k5,k6,decide_false,Bool.false_eq_true,if_false];rw[if_pos (au hzl),av,if_pos (decide_eq_true hzl),if_pos (au hzl),if_pos (decide_eq_true hzl)];exact⟨_,h.set j (setP (w:=⟨(p.Parts.getD z bV).ID,addI .u8 (p.Parts.getD z bV).Type_ c.B,(p.Parts.getD z bV).Flag⟩) ⟨(hd z hzl).1,dQ _,(hd z hzl).2.2⟩),List.length_set,rfl⟩
 . have hl':¬(0:Int) < (p.Parts.length:Int):=by omega
   simp only[hl',decide_false,Bool.false_eq_true,if_false,gs,List.set_set];by_cases k0:remI c.Kind 8=0
   . simp only[k0,decide_true,if_true];exact⟨_,h.set j (okp (dQ _) n3 n4 n5 self),List.length_set,rfl⟩
   by_cases k1:remI c.Kind 8=1
   . simp only[k1,decide_true,decide_false,Int.reduceEq,Bool.false_eq_true,if_true,if_false];exact⟨_,h.set j (okp n2 (dQ _) n4 n5 self),List.length_set,rfl⟩
   by_cases k2:remI c.Kind 8=2
   . have k2':0<=remI c.A 6:=by rw[bM c3.1 (by omega)];omega
     simp only[k2,k2',decide_true,decide_false,Int.reduceEq,Bool.false_eq_true,if_true,if_false];exact⟨_,h.set j (okp (dQ _) n3 n4 n5 self),List.length_set,rfl⟩
   by_cases k3:remI c.Kind 8=3
   . simp only[k3,decide_true,decide_false,Int.reduceEq,Bool.false_eq_true,if_true,if_false];exact⟨_,h.set j (okp n2 n3 (dQ _) n5 self),List.length_set,rfl⟩
   by_cases k4:remI c.Kind 8=4
   . have k8:(p.Parts.length:Int) < 8:=by omega
     simp only[k4,k8,decide_true,decide_false,Int.reduceEq,Bool.false_eq_true,if_true,if_false];rw[if_pos (room3 (by rw[List.length_append];unfold reachBytes;simp;omega))];refine⟨_,h.set j (par (fun q hq=>?_) (by rw[List.length_append];simp;omega)),List.length_set,rfl⟩;rcases List.mem_append.1 hq with hq | hq
     . exact n5 q hq
     . rw[List.mem_singleton.1 hq];exact⟨u8c c3,u8c c4,dQ _⟩
   have fin:=h.set j (par n5 self);by_cases k5:remI c.Kind 8=5
   . simp only[k5,decide_true,decide_false,Int.reduceEq,Bool.false_eq_true,if_true,if_false];exact⟨_,fin,List.length_set,rfl⟩
   by_cases k6:remI c.Kind 8=6
   . simp only[k6,decide_true,decide_false,Int.reduceEq,Bool.false_eq_true,if_true,if_false];exact⟨_,fin,List.length_set,rfl⟩
   . simp only[k0,k1,k2,k3,k4,k5,k6,decide_false,Bool.false_eq_true,if_false];exact⟨_,fin,List.length_set,rfl⟩
theorem Bz{L:List dp}(hLl:L.length<=reachBytes)(hc:∀c,c∈L->ChOk c):∀(k i:Nat) {ns:List Nd},i+k=L.length->NsOk ns->∃ns',NsOk ns'/\ns'.length=ns.length/\bA (L,(i:Int),ns)=some ns'
 | 0,i,ns,hi,h=>⟨ns,h,rfl,by
  have a:¬(i:Int) < (L.length:Int):=by omega
  rw[bA,if_neg (by simp[a])]⟩
 | k+1,i,ns,hi,h=>by
  by_cases hn:0 < ns.length
  . obtain⟨ns',h1,h3,h2⟩:=LM hLl hc (by omega:i < L.length) h hn;rw[h2,<-h3];exact Bz hLl hc k (i+1) (by omega) h1
  . refine⟨ns,h,rfl,?_⟩;have b:decide ((0:Int) < (ns.length:Int))=false:=decide_eq_false (by omega);rw[bA,b,if_neg];cases decide ((i:Int) < (L.length:Int)) <;> simp
theorem NsOk.dok{d:aT}(h:NsOk d.Nodes):DOk d:=⟨by have:=h.1;unfold reachBytes at*;omega,fun x hx=>(h.2 x hx).1⟩
theorem HH{d:aT}(h:NsOk d.Nodes){L:List dp}(hLl:L.length<=reachBytes)(hc:∀c,c∈L->ChOk c):∃d',NsOk d'.Nodes/\d'.Nodes.length=d.Nodes.length/\nq (d,L)=some d':=by
 obtain⟨ns',h1,h3,h2⟩:=Bz hLl hc L.length 0 (by omega) h;have h2':bA (L,0,d.Nodes)=some ns':=h2;refine⟨⟨ns'⟩,h1,h3,?_⟩;rw[nq,List.nil_append,if_pos (room32' h.1),h2'];rfl
theorem LN{ns:List Nd}(h:WF Un ⟨.slice (.nm jx),ns⟩):NsOk ns:=by
 obtain⟨a,b,c⟩:=jY (t:= .nm jx) h;have D:=Ac (d:=⟨ns⟩) h;refine⟨b,fun x hx=>⟨D.2 x hx,?_⟩⟩;exact(jY (t:= .nm nD) (c x hx ⟨.slice (.nm nD),x.Parts⟩ (.tail _ (.tail _ (.tail _ (.tail _ (.head _))))))).2.1
theorem wfU8{n:Int}(h:WF Un ⟨.int .u8,n⟩):U8 n:=by
 cases h with
 | int k n h=>
  simp[Lit.wf,IntKind.min,IntKind.max,IntKind.bits,IntKind.signed]at h;unfold U8;omega
theorem LO{d:dq}{ts:List ae}{t:Int}{v w:ab}(hd:DOk d.S)(h:ir d=some (⟨ts⟩,t,v,w,true)):ts.length=d.S.Nodes.length:=by
 rw[ir]at h;rcases of_eq hd with e | ⟨l,e,_,_,e2,_⟩
 . rw[e]at h;simp at h
 . rw[e]at h;simp only[oZ4,oZ3,Bool.not_true,Bool.false_eq_true,if_false]at h;split at h
   . cases a:lj ((⟨l⟩:az),remI (wrp .i64 d.T) (l.length:Int),d.C)with
     | none=>rw[a]at h;cases h
     | some x=>
      rw[a]at h;simp only[oZ3]at h;cases b:kO ((⟨l⟩:az),remI (wrp .i64 d.T) (l.length:Int),d.C)with
      | none=>rw[b]at h;cases h
      | some y=>
       rw[b]at h;simp only[oZ3,Option.some.injEq,Prod.mk.injEq,az.mk.injEq]at h;rw[<-h.1,e2]
   . cases h
structure CaseIn (c:dI):Prop where
 d:DrIn c.D
 n:NsOk c.D.S.Nodes
 l:c.L.length<=reachBytes
 c:∀x,x∈c.L->ChOk x
structure CaseOut (tw tr:List ae) (t:Int) (v:ab):Prop where
 W:DrOk tw
 R:DrOk tr
 t0:0<=t
 t1:t < tw.length
 t2:t < tr.length
 f:vfit tw true t v
 o:OkV v
 w:wt v<=3000
theorem LP{c:dI}(h:CaseIn c):(∃w r t v,ly c=some (w,r,t,v,false))\/∃tw tr t v,ly c=some (⟨tw⟩,⟨tr⟩,t,v,true)/\CaseOut tw tr t v:=by
 obtain⟨d',d1,d3,d2⟩:=HH h.n h.l h.c;rw[ly];rcases of8 h.d with⟨s,t,v,w,e⟩ | ⟨ts,t,v,w,e,H,ht,⟨v1,v2,v3⟩,_⟩
 . rw[e];simp only[oZ4,oZ3];rw[d2];simp only[oZ3];rcases of_ok d1.dok with e' | ⟨l,e',_⟩ <;> rw[e'] <;> exact .inl ⟨_,_,_,_,rfl⟩
 . have hl:=LO h.d.s e;rw[e];simp only[oZ4,oZ3];rw[d2];simp only[oZ3];rcases of_eq d1.dok with e' | ⟨l,e',_,_,l2,_⟩
   . rw[e'];exact .inl ⟨_,_,_,_,rfl⟩
   . rcases of_ok d1.dok with e2 | ⟨l',e2,HR⟩
     . rw[e']at e2;cases e2
     . rw[e']at e2;have:l=l':=by injection e2 with q;injection q with q _;injection q
       subst this;rw[e'];simp only[oZ3,Bool.not_true,cond_false];cases h4:decide (4 < (c.L.length:Int))with
       | true=>exact .inl ⟨_,_,_,_,rfl⟩
       | false=>
        obtain⟨b,b1,b2⟩:=Gl v2;simp only[Bool.not_false,if_true,cond_false,ab.aA];rw[b1];cases b with
        | false=>exact .inl ⟨_,_,_,_,rfl⟩
        | true=>exact .inr ⟨ts,l,t,v,rfl,H,HR,ht.1,ht.2,by omega,v1,v2,b2 rfl⟩
section
variable {tw tr:List ae} {t rt:Int} {v:ab}
theorem IX(HW:DrOk tw)(HR:DrOk tr)(hv:OkV v)(hf:vfit tw true t v)(r0:0<=rt)(r1:rt < tr.length):nU ((⟨tw⟩:az),t,v,(⟨tr⟩:az),rt)=some 0:=by
 obtain⟨⟨g1,g2,_⟩,_⟩:=(cn _ _ _).1 hf;have ex:∀{ts:List ae} {t:Int},DrOk ts->0<=t->t < ts.length->lw ((⟨ts⟩:az),t)=some 0:=fun {ts t} H a b=>by
  rw[lw,(oZ H.T H.V).1];simp only[oZ4,oZ3];have c1:¬t < 0:=by omega
  have c2:¬(ts.length:Int)<=t:=by omega
  rw[if_neg (by simp),if_neg (by simp[c1,c2])]
 obtain⟨r,q1,q2⟩:=yV (HW.V.sok HW.T) hv t true;have hr:=q2.2 hf;subst hr;rw[nU];simp only[ab.aA];rw[ex HW g1 g2];simp only[oZ4,oZ3];rw[if_neg (by simp),ex HR r0 r1];simp only[oZ3];rw[if_neg (by simp),rq];simp only[ab.aA];rw[q1];rfl
def RA :ab ⊕ List Int->ab×Int
 | .inl u=>(u,0)
 | .inr _=>(⟨0,false,0,[],0,[],[],[]⟩,12)
noncomputable def vrd (tw tr:List ae) (t:Int) (v:ab) (rt:Int):ab ⊕ List Int:=vread tw tr 3000 t v rt []
theorem wb(HW:DrOk tw)(HR:DrOk tr)(hv:OkV v)(hw:wt v<=3000)(hf:vfit tw true t v)(r0:0<=rt)(r1:rt < tr.length):lm ((⟨tw⟩:az),t,v,(⟨tr⟩:az),rt)=some (RA (vrd tw tr t v rt)):=by
 have h:=zg HW HR 3000 hv hw hw [] hf r0 r1 (path:=[]) (by simp);rw[lm];simp only[ab.aA];rw[IX HW HR hv hf r0 r1];simp only[oZ4,oZ3];rw[if_neg (by simp),h];unfold vrd;cases vread tw tr 3000 t v rt [] <;> rfl
theorem zh(HW:DrOk tw)(HR:DrOk tr)(hv:OkV v)(hw:wt v<=3000)(hf:vfit tw true t v)(r0:0<=rt)(r1:rt < tr.length){u:ab}(h:vrd tw tr t v rt= .inl u):pV tr rt u:=sg HW HR 3000 hv hw hf r0 r1 h
end
theorem law_in{c:dI}(h:∀d,d∈Un.flds ql c->WF Un d):CaseIn c:=by
 have c1:=h ⟨.slice (.nm jx),c.D.S.Nodes⟩ (.head _);have c4:=h ⟨.slice (.nm tK),c.L⟩ (.tail _ (.tail _ (.tail _ (.head _))));obtain⟨a,_,e⟩:=jY (t:= .nm tK) c4;have u8:∀{n:Int},WF Un ⟨.int .u8,n⟩->U8 n:=wfU8;refine⟨KL fun d hd=>?_,LN c1,a,fun x hx=>?_⟩
 . refine h d ?_;cases hd with
   | head=>exact .head _
   | tail _ hd=>cases hd with
    | head=>exact .tail _ (.head _)
    | tail _ hd=>cases hd with
     | head=>exact .tail _ (.tail _ (.head _))
     | tail _ hd=>cases hd
 . have hq:=e x hx;exact⟨u8 (hq ⟨.int .u8,x.Kind⟩ (.head _)),u8 (hq ⟨.int .u8,x.Node⟩ (.tail _ (.head _))),u8 (hq ⟨.int .u8,x.A⟩ (.tail _ (.tail _ (.head _)))),u8 (hq ⟨.int .u8,x.B⟩ (.tail _ (.tail _ (.tail _ (.head _)))))⟩
theorem IY{tw tr:List ae}{t rt:Int}{v:ab}(HW:DrOk tw)(HR:DrOk tr)(hv:OkV v)(hw:wt v<=3000)(hf:vfit tw true t v)(r0:0<=rt)(r1:rt < tr.length)(u:ab):SaysP (nV ((⟨tw⟩:az),t,v,(⟨tr⟩:az),rt,u)) (vrd tw tr t v rt= .inl u):=by
 rw[nV];simp only[ab.aA];rw[wb HW HR hv hw hf r0 r1];simp only[oZ4,oZ3];cases h:vrd tw tr t v rt with
 | inr p=>exact⟨false,rfl,by simp⟩
 | inl x=>
  obtain⟨b,b1,b2⟩:=y3 (zh HW HR hv hw hf r0 r1 h).1 u;simp only[RA,decide_true,if_true,cond_true];rw[b1];exact⟨b,rfl,b2.trans (by simp)⟩
end
end Go.Proofs.YtandcioiaooocaaGreat
