/- The functions of the program as functions of Lean, that its code does what they say, and what they answer; part D. -/
import Derived.Test.YthnmepafpikaiaaGreatEdC

namespace Go.Proofs.YthnmepafpikaiaaGreat
set_option linter.all false
section
open Go Go.Proofs.YthnmepafpikaiaaGreat.Shv Go.Sort
set_option maxRecDepth 100000
theorem g1j9{ts:List SType}(H:SOk ts){v:SValue}(hv:OkV v)(t:Int)(pl:Bool) :SaysP (g4h ((⟨ts⟩:SSchema),t,v,pl)) (vfit ts pl t v):=by
 obtain⟨r,h1,h2⟩:=g1j6 (by have:=H.n;omega) H.T H.K hv t pl;obtain⟨q,q1,q2⟩:=g17k (by have:=H.n;omega) H.T H.K hv t pl;rw[h1]at q2;have:r=q:=Option.some.inj q2;subst this;exact⟨r,q1,h2⟩
theorem g1eh{ts:List SType}(hT:∀t,t∈ts→OkT t)(hV:VOk ts){v:SValue}(hv:OkV v){t:Int}(hf:vfit ts false t v) :g4z ((⟨ts⟩:SSchema),t,v)=some 0∧g8l ((⟨ts⟩:SSchema),t,v)=some 0:=by
 have H:=hV.sok hT;obtain⟨v1,v2⟩:=g1gn hT hV;obtain⟨⟨g1,g2,_⟩,_⟩:=(gfw _ _ _).1 hf;obtain⟨e,e1,e2,_⟩:=g1e9 (s:=⟨ts⟩) (by have:=hV.n;unfold reachBytes;show ts.length≤_;omega) hT hv t;obtain⟨r,r1,r2⟩:=g1j9 H hv t false;have hr:=r2.2 hf;subst hr;have hout:¬((bif decide (t < 0)then true else decide (((⟨ts⟩:SSchema).Types.length:Int)≤t))=true):=by
   have a:¬t < 0:=by omega
   have b:¬((ts.length:Nat):Int)≤t:=by omega
   simp only[a,b,decide_false,cond_false,Bool.false_eq_true,not_false_eq_true]
 have key:g4z ((⟨ts⟩:SSchema),t,v)=some 0:=by
   rw[g4z,gb1];simp only[gqn,SValue.g14];rw[v1];show((if(bif decide (t < 0)then true else decide (((⟨ts⟩:SSchema).Types.length:Int)≤t))=true then some (4:Int)else some 0) >>=_)=_;rw[if_neg hout];show(gcc ((⟨ts⟩:SSchema),t,v) >>=_)=_;rw[gcc];simp only[SValue.g14];rw[r1];rfl
 rw[key]at e1;have:e=0:=(Option.some.inj e1).symm;subst this;exact⟨key,e2⟩
theorem g1ja{l:List Fd}(hp:gb8 ltF l=true)(hn:l.Pairwise (fun a b=>a.id≠b.id)) :(isoB ltF l).Pairwise (fun a b=>a.id < b.id):=by
 have h1:=go0 g1cb l;have h2:(isoB ltF l).Pairwise (fun a b=>a.id≠b.id):=(gh7 ltF l).symm.pairwise hn (fun {a b} h=>fun e=>h e.symm);refine(h1.and h2).imp fun {a b} h=>?_
 have:=h.1;have:=h.2;simp only[ltF,decide_eq_false_iff_not]at*;omega
theorem g1gx{ts:List SType}{ms:List SMember}{l:List SValue}{r:List SRaw}(h:MAsc ms)(hr:gi2 ms r) :(g74 ts ms l r).Pairwise (fun a b=>a.id≠b.id):=by
 have:=gjr (ts:=ts) (l:=l) h hr;have key:∀q:List Fd,gb8 ltF q=true→q.Pairwise (fun a b=>a.id≠b.id):=by
   intro q
   induction q with
   | nil=>intro _;exact .nil
   | cons a q ih=>
     intro h;simp only[gb8,Bool.and_eq_true,List.all_eq_true,Bool.or_eq_true,ltF,decide_eq_true_eq]at h;rw[List.pairwise_cons];exact⟨fun b hb=>by have:=h.1 b hb;omega,ih h.2⟩
 exact key _ this
def fdS(f:Fd) :SField:=⟨(f.id:Int),f.c,f.p⟩
theorem g17w : ∀ (l : List Fd) (last : Nat) (b : List SField), l.Pairwise (fun a b => a.id < b.id) → (∀ f, f ∈ l → last < f.id ∧ f.id ≤ 1000) → (l.flatMap Fd.text).length ≤ 100000 → b.length + l.length ≤ 90000 →
   g2x ((last:Int),l.flatMap Fd.text,b)=some (.inr (b++l.map fdS))
 | [],last,b,_,_,_,_=>by
   rw[g2x,if_neg (by simp)];simp
 | f::l,last,b,hp,hr,hl,hb=>by
   rw[List.pairwise_cons]at hp;obtain⟨h1,h2⟩:=hr f (.head _);rw[List.flatMap_cons]at hl ⊢;have ht:f.text=g6b f.id f.c f.p:=rfl;rw[ht]at hl ⊢;rw[g1bh h1 h2 hl (by simp at hb;omega)];have hl2:(l.flatMap Fd.text).length≤100000:=by rw[List.length_append]at hl;omega
   rw[g17w l f.id _ hp.2 (fun g hg=>⟨hp.1 g hg,(hr g (.tail _ hg)).2⟩) hl2 (by simp at hb ⊢;omega)];simp[fdS]
theorem g1ei{p rest:List UInt8}{b:List (List UInt8)}(h:(g2z p++rest).length≤100000)(hb:b.length≤90000) :g3r (g2z p++rest,b)=g3r (rest,b++[p]):=by
 have hpl:p.length≤100000:=by
   simp only[g2z,List.length_append]at h;omega
 have hne:g2z p++rest≠[]:=by
   intro hc;have h2:=congrArg List.length hc;have:=gsj p.length;simp only[g2z,List.length_append,List.length_nil]at h2;omega
 rw[g3r,if_pos (by simp only[Bool.not_eq_true',decide_eq_false_iff_not];exact hne),g1c0 (by omega),g125 hpl];simp only[oZ4,oZ3];have hnn:¬((!(encP (some (p,rest))).2.2)=true):=by simp[encP]
 have hr:room 16 (b++[(encP (some (p,rest))).1]).length=true:=g66 (by omega) (by simp;omega);rw[if_neg hnn,if_pos hr];rfl
theorem g13j :∀(l:List (List UInt8)) (b:List (List UInt8)),(l.flatMap g2z).length≤100000→b.length+l.length≤90000→g3r (l.flatMap g2z,b)=some (.inr (b++l))
 | [],b,_,_=>by
   rw[g3r,if_neg (by simp)];simp
 | p::l,b,hl,hb=>by
   rw[List.flatMap_cons]at hl ⊢;rw[g1ei hl (by simp at hb;omega),g13j l _ (by rw[List.length_append]at hl;omega) (by simp at hb ⊢;omega)];simp
def weave :List (List UInt8)→List (List UInt8)→List (List UInt8)
 | k::ks,v::vs=>k::v::weave ks vs
 | _,_=>[]
theorem g17x :∀a b,ilv a b=(weave a b).flatMap g2z
 | [],b=>by simp[ilv,weave]
 | k::ks,[]=>by simp[ilv,weave]
 | k::ks,v::vs=>by simp[ilv,weave,g17x ks vs]
theorem g17y :∀a b:List (List UInt8),a.length=b.length→(weave a b).length=a.length+b.length
 | [],[],_=>rfl
 | k::ks,v::vs,h=>by
   simp only[weave,List.length_cons];have:=g17y ks vs (by simpa using h);omega
theorem g1ej(p:List UInt8) :1≤(g2z p).length:=by
 have:=gsj p.length;unfold g2z;rw[List.length_append];omega
theorem gun :∀l:List (List UInt8),l.length≤(l.flatMap g2z).length
 | []=>by simp
 | p::l=>by
   have:=gun l;have:=g1ej p;rw[List.flatMap_cons,List.length_append,List.length_cons];omega
theorem g1jb(f:Fd) :1≤f.text.length:=by
 have:=gsj (2*f.id+(if f.c then 1 else 0));unfold Fd.text g6b;rw[List.length_append];omega
theorem g129 :∀l:List Fd,l.length≤(l.flatMap Fd.text).length
 | []=>by simp
 | p::l=>by
   have:=g129 l;have:=g1jb p;rw[List.flatMap_cons,List.length_append,List.length_cons];omega
theorem g17z{f:Fd} :∀{l:List Fd},f∈l→f.p.length≤(l.flatMap Fd.text).length
 | g::l,h=>by
   rw[List.flatMap_cons,List.length_append];rcases List.mem_cons.1 h with rfl | h
   · have:f.p.length≤f.text.length:=by unfold Fd.text g6b g2z;simp only[List.length_append];omega
     omega
   · have:=g17z h;omega
theorem g1au {m : List UInt8} {fe : Int} {l : List Fd} (hr : ∀ f, f ∈ l → 1 ≤ f.id ∧ f.id ≤ 1000 ∧ f.p.length ≤ 4096) : ∀ (k i : Nat) (again : List UInt8), i + k = l.length → again.length + ((l.drop i).flatMap Fd.text).length ≤ 1000000 → l.length ≤ 100000 →
   g1t (m,fe,again,l.map fdS,((l.map fdS).length:Int),(i:Int))=some (.inr (m,fe,again++(l.drop i).flatMap Fd.text))
 | 0,i,again,hi,hl,hll=>by
   rw[g1t,if_neg (by simp;omega),List.drop_eq_nil_of_le (by omega:l.length≤i)];simp
 | k+1,i,again,hi,hl,hll=>by
   have hlt:i < l.length:=by omega
   have hlt2:i < (l.map fdS).length:=by simp;omega
   obtain⟨h1,h2,h3⟩:=hr _ (gt hlt default);rw[g2r hlt default,List.flatMap_cons,List.length_append]at hl;have hg:(l.map fdS).getD i dSField=fdS (l.getD i default):=g2y fdS l i default dSField hlt;have hF:ghw ((fdS (l.getD i default)).ID,(fdS (l.getD i default)).Critical,(fdS (l.getD i default)).Data)=some ((l.getD i default).text,0):=by
     show ghw (((l.getD i default).id:Int),(l.getD i default).c,(l.getD i default).p)=_;rw[ghw,if_neg (by
       have a:¬((l.getD i default).id:Int) < 1:=by omega
       have b:¬(1000:Int) < ((l.getD i default).id:Int):=by omega
       simp only[a,b,decide_false,cond_false,Bool.false_eq_true,not_false_eq_true]),if_neg (by
       have a:¬(4096:Int) < ((l.getD i default).p.length:Int):=by omega
       simp only[a,decide_false,Bool.false_eq_true,not_false_eq_true]),g13g (by omega) (by omega)]
     rfl
   rw[g1t,if_pos (by simp;omega),if_pos (g8 hlt2)];simp only[oZ4,oZ3,g9];rw[hg,hF];simp only[oZ3];rw[if_neg (by simp),if_pos (g3c (by omega)),gu (by omega),g1au hr k (i+1) _ (by omega) (by rw[List.length_append];omega) hll,g2r hlt default,List.flatMap_cons,List.append_assoc]
theorem g1n8 {ts : List SType} (H : DrOk ts) {t : Int} {v : SValue} (hf : vfit ts false t v) (hok : OkV v) (hlen : (vpay ts t v).length ≤ 4096) :
   (if decide (v.Kind = 5) = true then
       gc4 (vpay ts t v) >>=fun r_11=>
       g1t (vpay ts t v,r_11.2,[],r_11.1,(r_11.1.length:Int),0) >>=fun o=>
       match o with
       | .inl o_1=>
         some o_1
       | .inr o_2=>
         some (bif decide (o_2.2.1=0)then decide (o_2.2.2=o_2.1)else false)
     else
       if decide (v.Kind=6)=true then
         gew (vpay ts t v) >>=fun r_14=>
         some (bif decide (r_14.2.2=0)then decide (r_14.1=v.ID)else false)
       else
         some (decide (v.Kind=7)) >>=fun t103=>
         if t103=true then
           if t103=true then
             g5i (vpay ts t v) >>=fun r_18=>
             some (bif decide (r_18.2=0)then decide ((r_18.1.length:Int)=addI .i64 (v.Items.length:Int) (v.Keys.length:Int))else false)
           else
             some true
         else
           if decide (v.Kind=8)=true then
             g5i (vpay ts t v) >>=fun r_21=>
             some (bif decide (r_21.2=0)then decide ((r_21.1.length:Int)=addI .i64 (v.Items.length:Int) (v.Keys.length:Int))else false)
           else
             some true)=some true:=by
 have hS:=H.V.sok H.T;obtain⟨⟨g1,g2,g3,_⟩,hc⟩:=(gfw _ _ _).1 hf;obtain⟨j,rfl⟩:∃j:Nat,t=(j:Int):=⟨t.toNat,by omega⟩
 have hj:j < ts.length:=by omega
 have hxm:=gt hj dSType;have hv5:=@vpay5 ts (j:Int) v;have hv6:=@vpay6 ts (j:Int) v;have hv7:=@vpay7 ts (j:Int) v;have hv8:=@vpay8 ts (j:Int) v;simp only[g9]at hc g3 hv5 hv6 hv7 hv8;have hA:=hS.A _ hxm;generalize ts.getD j dSType=x at*
 rcases hc with⟨k,_⟩ | ⟨k,_⟩ | ⟨k,_⟩ | ⟨k,_⟩ | ⟨k,c1,c2,c3,c4,c5,c6,c7⟩ | ⟨k,c1,c2,c3,c4,c5⟩ | ⟨k,c1,c2,c3,c4,c5,c6,c7,c8⟩ | ⟨k,c1,c2,c3,c4,c5,c6,c7,c8,c9,c10⟩ | ⟨k,_⟩ <;> rw[k]at g3 <;> rw[k]
 · rfl
 · rfl
 · rfl
 · rfl
 · rw[hv5 g3.symm]at hlen ⊢;obtain⟨hma,_⟩:=hA (.inl g3.symm);have hasc:=g1ja (gjr (ts:=ts) (l:=v.Items) hma c6) (g1gx hma c6);have hrg:∀f,f∈isoB ltF (g74 ts x.Members v.Items v.Rest)→1≤f.id∧f.id≤1000:=fun f h=>g10e hma c6 ((gh7 ltF _).mem_iff.1 h)
   generalize isoB ltF (g74 ts x.Members v.Items v.Rest)=l at*;have hll:=g129 l;have hF:=g17w l 0 [] hasc (fun f h=>⟨by have:=hrg f h;omega,(hrg f h).2⟩) (by omega) (by simp;omega);have hF':g2x (0,l.flatMap Fd.text,[])=some (.inr (l.map fdS)):=by simpa using hF
   have hD:=g1au (m:=l.flatMap Fd.text) (fe:=0) (l:=l) (fun f h=>⟨(hrg f h).1,(hrg f h).2,by have:=g17z h;omega⟩) l.length 0 [] (by omega) (by simp only[List.drop_zero,List.length_nil];omega) (by omega);have hD':g1t (l.flatMap Fd.text,0,[],l.map fdS,((l.map fdS).length:Int),0)=some (.inr (l.flatMap Fd.text,0,l.flatMap Fd.text)):=by simpa using hD
   rw[if_pos (by simp),gc4,hF'];simp only[oZ4,oZ3];rw[hD'];simp
 · obtain⟨rest,hrest⟩:∃rest,vpay ts (j:Int) v=vput v.ID.toNat++rest:=⟨_,hv6 g3.symm⟩
   rw[hrest]at hlen ⊢;obtain⟨hma,_⟩:=hA (.inr g3.symm);have hid:I1000 v.ID:=by
     cases hfm:findM x.Members v.ID with
     | none=>rw[hfm]at c5;exact c5.2.2.1
     | some m=>
       have h1:=List.mem_of_find?_eq_some hfm;have h2:=List.find?_some hfm;have:=hma.2 m h1;have e:m.ID=v.ID:=by simpa using h2
       rw[e]at this;exact this
   obtain⟨n,hn⟩:∃n:Nat,v.ID=(n:Int):=⟨v.ID.toNat,by unfold I1000 at hid;omega⟩
   have hn1:1≤n∧n≤1000:=by unfold I1000 at hid;omega
   rw[if_neg (by simp),if_pos (by simp),hn,Int.toNat_natCast];have hnx:=g16l (g16m (n:=n) (by omega) rest) (by simp);rw[gew,hnx];simp only[oZ4,oZ3];have a:¬(n:Int) < 1:=by omega
   have b:¬(1000:Int) < (n:Int):=by omega
   rw[if_neg (by simp only[a,b,Bool.not_true,decide_false,cond_false,Bool.false_eq_true,not_false_eq_true]),wrp64 (by omega) (by omega)];simp
 · rw[hv7 g3.symm]at hlen ⊢;have hl:=gun (vpays ts x.Elem v.Items);have hI:=g13j (vpays ts x.Elem v.Items) [] (by omega) (by simp;omega);have hvl:=gmj (ts:=ts) (l:=v.Items) (t:=x.Elem);rw[if_neg (by simp),if_neg (by simp)];show(g5i ((vpays ts x.Elem v.Items).flatMap g2z) >>=_)=_;rw[g5i,hI];simp only[oZ4,oZ3,List.nil_append]
   have e:addI .i64 (v.Items.length:Int) (v.Keys.length:Int)=((v.Items.length+v.Keys.length:Nat):Int):=g10j (by rw[c5,List.length_nil];omega);rw[e,hvl,c5];simp
 · rw[hv8 g3.symm,g17x]at hlen ⊢;have hl:=gun (weave (vpays ts x.Key v.Keys) (vpays ts x.Elem v.Items));have hI:=g13j (weave (vpays ts x.Key v.Keys) (vpays ts x.Elem v.Items)) [] (by omega) (by simp;omega);have hvl:=gmj (ts:=ts) (l:=v.Items) (t:=x.Elem);have hkl:=gmj (ts:=ts) (l:=v.Keys) (t:=x.Key)
   have hwl:=g17y (vpays ts x.Key v.Keys) (vpays ts x.Elem v.Items) (by omega);rw[if_neg (by simp),if_neg (by simp)];show(g5i ((weave (vpays ts x.Key v.Keys) (vpays ts x.Elem v.Items)).flatMap g2z) >>=_)=_;rw[g5i,hI];simp only[oZ4,oZ3,List.nil_append]
   have e:addI .i64 (v.Items.length:Int) (v.Keys.length:Int)=((v.Items.length+v.Keys.length:Nat):Int):=g10j (by omega);rw[e,hwl,hkl,hvl];simp;omega
 · rfl
theorem g1bn{d:Sheaveref08Draft}(hd:DrIn d) :g7t d=some true:=by
 rw[g7t];rcases of8 hd with⟨s,t,v,w,h⟩ | ⟨ts,t,v,w,h,H,ht,_,hw1,hw2,hw3⟩
 · rw[h,gkv];rfl
 · rw[h,gkv];simp only[oZ4,oZ3,SValue.g14];rw[if_neg (by simp)];obtain⟨e1,e2⟩:=g1eh H.T H.V hw2 hw1;obtain⟨a1,_⟩:=g1go (s:=⟨ts⟩) (H.V.sok H.T) hw2 (by omega) hw1 e1 e2;rw[a1];unfold encA;by_cases hbig:4096 < (vpay ts t w).length∨200 < vlev ts t w
   · rw[if_pos hbig];rfl
   · rw[if_neg hbig];simp only[oZ3];rw[if_neg (by simp)];exact g1n8 H hw1 hw2 (by omega)
theorem g1n9{d:Sheaveref07Draft}(h:WF Un ⟨.slice (.nm ixSheaveref07Node),d.Nodes⟩) :DOk d:=by
 obtain⟨a,_,c⟩:=g13h (t:= .nm ixSheaveref07Node) h;refine⟨a,fun x hx=>?_⟩;have hc:=c x hx;have u8:∀{n:Int},WF Un ⟨.int .u8,n⟩→U8 n:=fun {n} h=>by
   cases h with
   | int k n h=>
     simp[Lit.wf,IntKind.min,IntKind.max,IntKind.bits,IntKind.signed]at h;unfold U8;omega
 have c1:=hc ⟨.int .u8,x.Kind⟩ (.head _);have c2:=hc ⟨.int .u8,x.A⟩ (.tail _ (.head _));have c3:=hc ⟨.int .u8,x.B⟩ (.tail _ (.tail _ (.head _)));have c4:=hc ⟨.int .u8,x.C⟩ (.tail _ (.tail _ (.tail _ (.head _))));have c5:=hc ⟨.slice (.nm ixSheaveref07Part),x.Parts⟩ (.tail _ (.tail _ (.tail _ (.tail _ (.head _)))));obtain⟨p1,_,p3⟩:=g13h (t:= .nm ixSheaveref07Part) c5
 refine⟨u8 c1,u8 c2,u8 c3,u8 c4,fun q hq=>?_,p1⟩;have hq':=p3 q hq;exact⟨u8 (hq' ⟨.int .u8,q.ID⟩ (.head _)),u8 (hq' ⟨.int .u8,q.Type_⟩ (.tail _ (.head _))),u8 (hq' ⟨.int .u8,q.Flag⟩ (.tail _ (.tail _ (.head _))))⟩
theorem g1jc{d:Sheaveref08Draft}(h:∀c,c∈Un.flds ixSheaveref08Draft d→WF Un c) :DrIn d:=by
 have c1:=h ⟨.slice (.nm ixSheaveref07Node),d.S.Nodes⟩ (.head _);have c2:=h ⟨.int .u8,d.T⟩ (.tail _ (.head _));have c3:=h ⟨.slice (.int .u8),d.C⟩ (.tail _ (.tail _ (.head _)));obtain⟨a,_,c⟩:=g13h (t:= .int .u8) c3;have u8:∀{n:Int},WF Un ⟨.int .u8,n⟩→U8 n:=fun {n} h=>by
   cases h with
   | int k n h=>
     simp[Lit.wf,IntKind.min,IntKind.max,IntKind.bits,IntKind.signed]at h;unfold U8;omega
 exact⟨g1n9 c1,u8 c2,fun n hn=>u8 (c n hn ⟨.int .u8,n⟩ (.head _)),a⟩
theorem law_EncodeDivided(h:Hs Un.D [.nm ixSheaveref08Draft])(hk:Ok Un [.nm ixSheaveref08Draft] h) :g7t h=some true:=g1bn (g1jc (okOne hk))
end
end Go.Proofs.YthnmepafpikaiaaGreat
