/- The functions of the program as functions of Lean, that its code does what they say, and what they answer; part C. -/
import Derived.Test.YtandcioiaooocaaGreatMsB

namespace Go.Proofs.YtandcioiaooocaaGreat
set_option linter.all false
section
open Go Go.Proofs.YtandcioiaooocaaGreat.Shv Go.Sort
set_option maxRecDepth 100000
section
variable {ts:List SType}
theorem go1 :∀l:List SValue,l.length≤wts l
 | []=>by simp
 | v::l=>by
   rw[g5t,wt_eq,List.length_cons];have:=go1 l;omega
def SelfR(ts:List SType)(t:Int)(v:SValue)(n:Nat) :Prop:=∀mis path:List Int,path.length+n≤50000→g46 (t,v,t,ts,ts,mis,path)=some (v,true,ts,ts,mis,path)
theorem gjo{t step:Int}{v:SValue}{n:Nat}(h:SelfR ts t v n){mis path:List Int}(hp:path.length+n+1≤50000) :g45 (step,t,v,t,ts,ts,mis,path)=some (v,true,ts,ts,mis,path):=by
 rw[g45];simp only[oZ4,oZ3,SValue.gk];rw[if_pos (g40 (by omega) (by simp;omega)),h mis (path++[step]) (by simp;omega)];simp only[oZ3,SValue.gk];have e1:subI .i64 ((path++[step]).length:Int) 1=(path.length:Int):=by
   rw[g7w (by simp <;> omega) (by simp <;> omega)];simp
 rw[e1];have e2:slR 0 (path.length:Int) (path++[step]).length=true:=g8z.2 (by simp;omega);rw[if_pos e2,if_pos (by simp),g6];simp
theorem ghn {t : Int} {l : List SValue} {n : Nat} (h : ∀ x, x ∈ l → SelfR ts t x n) (hl : l.length ≤ 50000) {mis path : List Int} (hp : path.length + n + 1 ≤ 50000) : ∀ (k i : Nat), i + k = l.length →
   g37 (t,t,l,(l.length:Int),(i:Int),ts,ts,mis,l.take i,path)=some (.inr (ts,ts,mis,l,path))
 | 0,i,hi=>by
   rw[g37,if_neg (by simp;omega),List.take_of_length_le (by omega)]
 | k+1,i,hi=>by
   have hlt:i < l.length:=by omega
   rw[g37,if_pos (by simp;omega),if_pos (g7 hlt),g6];simp only[SValue.gk];rw[gjo (h _ (gp hlt dSValue)) hp];simp only[oZ4,oZ3,Bool.not_true,SValue.gk];rw[if_neg (by simp),if_pos (g40 (by omega) (by simp;omega)),gq (by omega)];have e:l.take i++[l.getD i dSValue]=l.take (i+1):=by
     rw[List.take_add_one,g11 hlt];simp[hlt]
   rw[e];exact ghn h hl hp k (i+1) (by omega)
theorem gar {t : Int} {l : List SValue} {n : Nat} (h : ∀ x, x ∈ l → SelfR ts t x n) (hl : l.length ≤ 50000) {mis path : List Int} (hp : path.length + n + 1 ≤ 50000) :
   gm (t,l,t,ts,ts,mis,path)=some (l,true,ts,ts,mis,path):=by
 rw[gm];have:=ghn h hl hp (mis:=mis) l.length 0 (by omega);rw[List.take_zero]at this;have h0:g37 (t,t,l,(l.length:Int),0,ts,ts,mis,[],path)=_:=this;rw[h0];rfl
theorem guo{ms:List SMember}(hm:MAsc ms){i:Nat}(hi:i < ms.length){r:Int × Bool}(h:gdo ms (ms.getD i dSMember).ID r) :r=((i:Int),true):=by
 rcases h with⟨j,h1,h2,h3,rfl⟩ | ⟨h1,_⟩
 · have:j=i:=by
     rw[g11 h1,g11 hi]at h2;rcases Nat.lt_trichotomy j i with h | h | h
     · have:=List.pairwise_iff_getElem.1 hm.1 j i h1 hi h;omega
     · exact h
     · exact absurd rfl (h3 i h)
   rw[this]
 · exact absurd rfl (h1 i hi)
theorem gey{x:SType}(hm:MAsc x.Members)(hl:x.Members.length≤16){i:Nat}(hi:i < x.Members.length) :g1r (x,(x.Members.getD i dSMember).ID)=some ((i:Int),true):=by
 obtain⟨r,r1,r2⟩:=gg7 (t:=x) (id:=(x.Members.getD i dSMember).ID) (by omega);rw[r1,guo hm hi r2]
theorem gs0(m:SMember){v:SValue}(hv:OkV v) :∃b,g44 (m,v)=some b:=by
 rw[g44];simp only[SValue.gk];cases m.HasDefault with
 | false=>exact⟨false,rfl⟩
 | true=>
   obtain⟨r,r1,_⟩:=gxx hv m.Default;rw[if_pos rfl,r1];exact⟨r,rfl⟩
theorem gkw {x : SType} (hm : MAsc x.Members) (hl : x.Members.length ≤ 16) {v : SValue} {n : Nat} (hv : ∀ y, y ∈ v.Items → OkV y) (hi' : v.Items.length = x.Members.length) (h : ∀ i, i < x.Members.length → SelfR ts (x.Members.getD i dSMember).Type_ (v.Items.getD i dSValue) n)
   {mis path:List Int} (hp:path.length+n+1≤50000) {a0 a2 a4 b0 b2 b4:Int} {a1 b1:Bool} {a3 b3:List UInt8}:∀(k i:Nat),i+k=x.Members.length→
   g2b (x.Members,(x.Members.length:Int),(i:Int),ts,ts,mis,x,v,x,a0,a1,a2,a3,a4,b0,b1,b2,b3,b4,path,v.Items.take i)=some (.inr (ts,ts,mis,x,v,x,a0,a1,a2,a3,a4,b0,b1,b2,b3,b4,path,v.Items))
 | 0,i,hi=>by
   rw[g2b,if_neg (by simp;omega),List.take_of_length_le (by omega)];simp only[SValue.gk]
 | k+1,i,hi=>by
   have hlt:i < x.Members.length:=by omega
   have hlt2:i < v.Items.length:=by omega
   rw[g2b,if_pos (by simp;omega),if_pos (g7 hlt),g6];simp only[oZ4,oZ3,SValue.gk,g6w];rw[gey hm hl hlt];simp only[oZ3,Bool.not_true];rw[if_neg (by simp),if_pos (g7 hlt),if_pos (g7 hlt2),g6,gjo (h i hlt) hp];simp only[oZ3,SValue.gk,Bool.not_true];rw[if_pos (g7 hlt),if_pos (g7 hlt2)]
   obtain⟨b,hb⟩:=gs0 (x.Members.getD i dSMember) (hv _ (gp hlt2 dSValue));rw[hb];simp only[oZ3,Bool.not_false,Bool.and_true];have hq:(if b=true then some b else some false)=some b:=by cases b <;> rfl
   rw[hq];simp only[oZ3];rw[if_neg (by cases b <;> simp),if_neg (by simp),if_pos (g40 (by omega) (by simp;omega)),gq (by omega)];have e:v.Items.take i++[v.Items.getD i dSValue]=v.Items.take (i+1):=by
     rw[List.take_add_one,g11 hlt2];simp[hlt2]
   rw[e];exact gkw hm hl hv hi' h hp k (i+1) (by omega)
theorem gkx {x : SType} (hm : MAsc x.Members) (hl : x.Members.length ≤ 16) {v : SValue} {mis path : List Int} {a0 a2 a4 b0 b2 b4 : Int} {a1 b1 : Bool} {a3 b3 : List UInt8} {its : List SValue} : ∀ (k i : Nat), i + k = x.Members.length →
   g1n (x.Members,(x.Members.length:Int),(i:Int),ts,ts,mis,v,x,a0,a1,a2,a3,a4,b0,b1,b2,b3,b4,path,its,[])=some (.inr (ts,ts,mis,a0,a1,a2,a3,a4,b0,b1,b2,b3,b4,path,its,[]))
 | 0,i,hi=>by
   rw[g1n,if_neg (by simp;omega)]
 | k+1,i,hi=>by
   have hlt:i < x.Members.length:=by omega
   rw[g1n,if_pos (by simp;omega),if_pos (g7 hlt),g6];simp only[oZ4,oZ3,SValue.gk,g6w];rw[gey hm hl hlt];simp only[oZ3];rw[if_pos trivial,gq (by omega)];exact gkx hm hl k (i+1) (by omega)
theorem gxy {x : SType} (hm : MAsc x.Members) (hl : x.Members.length ≤ 16) {v : SValue} {n : Nat} (hv : ∀ y, y ∈ v.Items → OkV y) (hi' : v.Items.length = x.Members.length) (h : ∀ i, i < x.Members.length → SelfR ts (x.Members.getD i dSMember).Type_ (v.Items.getD i dSValue) n)
   {mis path:List Int} (hp:path.length+n+1≤50000):g22 (x,v,x,ts,ts,mis,path)=some (⟨v.Kind,false,0,[],0,[],v.Items,[]⟩,true,ts,ts,mis,path):=by
 rw[g22];have h0:=gkw hm hl hv hi' h hp (mis:=mis) (a0:=0) (a1:=false) (a2:=0) (a3:=[]) (a4:=0) (b0:=v.Kind) (b1:=false) (b2:=0) (b3:=[]) (b4:=0) x.Members.length 0 (by omega);rw[List.take_zero]at h0;have h0':g2b (x.Members,(x.Members.length:Int),0,ts,ts,mis,x,v,x,0,false,0,[],0,v.Kind,false,0,[],0,path,[])=_:=h0;simp only[SValue.gk]
 rw[h0'];simp only[oZ4,oZ3];have h1:=gkx (ts:=ts) hm hl (v:=v) (mis:=mis) (path:=path) (its:=v.Items) (a0:=0) (a1:=false) (a2:=0) (a3:=[]) (a4:=0) (b0:=v.Kind) (b1:=false) (b2:=0) (b3:=[]) (b4:=0) x.Members.length 0 (by omega)
 have h1':g1n (x.Members,(x.Members.length:Int),0,ts,ts,mis,v,x,0,false,0,[],0,v.Kind,false,0,[],0,path,v.Items,[])=_:=h1;rw[h1'];rfl
theorem gup {x : SType} (hm : MAsc x.Members) (hl : x.Members.length ≤ 16) {v : SValue} {n : Nat} {m : SMember} (hf : findM x.Members v.ID = some m) (h1 : v.Items.length = 1) (h : SelfR ts m.Type_ (v.Items.getD 0 dSValue) n)
   {mis path:List Int} (hp:path.length+n+1≤50000):g2a (x,v,x,ts,ts,mis,path)=some (⟨v.Kind,false,0,[],v.ID,[],v.Items,[]⟩,true,ts,ts,mis,path):=by
 obtain⟨m1,m2⟩:=gx2 hf;obtain⟨i,hi,e⟩:=List.getElem_of_mem m1;have e':x.Members.getD i dSMember=m:=by rw[g11 hi,e]
 have hM:=gey hm hl hi;rw[e',m2]at hM;rw[g2a,hM];simp only[oZ4,oZ3,SValue.gk];rw[if_pos trivial,if_pos (g7 hi),if_pos (by rw[h1];rfl),if_pos (g7 hi),g6,e',show(0:Int).toNat=0 from rfl,gjo h hp];simp only[oZ3,Bool.not_true,SValue.gk];rw[if_neg (by simp)];have:[v.Items.getD 0 dSValue]=v.Items:=by
   match hv:v.Items,h1 with
   | [a],_=>rfl
 rw[this]
theorem gxz(H:SOk ts){v:SValue}(hv:OkV v) :∀t,wt v≤20000→vfit ts true t v→SelfR ts t v (wt v):=by
 induction hv with
 | mk v hs h1 h2 h3 hk hi hrd n1 n2 n3 n4 ihk ihi=>
   intro t hw hf mis path hp;obtain⟨⟨g1,g2,g3,g4⟩,hc⟩:=(gcv _ _ _).1 hf;obtain⟨j,rfl⟩:∃j:Nat,t=(j:Int):=⟨t.toNat,by omega⟩
   have hj:j < ts.length:=by omega
   rw[g6]at g3 hc;have hmem:=gp hj dSType;generalize hx:ts.getD j dSType=x at*;have hR:=g4 rfl;have hwt:=wt_eq v;have lk:∀y,y∈v.Keys→wt y+10≤wt v:=fun y hy=>by have:=go0 hy;omega
   have li:∀y,y∈v.Items→wt y+10≤wt v:=fun y hy=>by have:=go0 hy;omega
   have ik:∀t,vfits ts true t v.Keys→∀y,y∈v.Keys→SelfR ts t y (wt v - 10):=fun t ht y hy mis path hp=>ihk y hy t (by have:=lk y hy;omega) (g5o.1 ht y hy) mis path (by have:=lk y hy;omega)
   have ii:∀t,vfits ts true t v.Items→∀y,y∈v.Items→SelfR ts t y (wt v - 10):=fun t ht y hy mis path hp=>ihi y hy t (by have:=li y hy;omega) (g5o.1 ht y hy) mis path (by have:=li y hy;omega)
   have nk:v.Keys.length≤wts v.Keys:=go1 _;have ni:v.Items.length≤wts v.Items:=go1 _;rw[g46,if_pos (g7 hj)];simp only[oZ4,oZ3,g6,hx,SValue.gk];rw[if_pos (g7 hj),if_neg (by simp)];have hp2:path.length+(wt v - 10)+1≤50000:=by omega
   have p0:∀{t:Int},v.Items=[]→gm (t,v.Items,t,ts,ts,mis,path)=some (v.Items,true,ts,ts,mis,path):=fun {t} he=>gar (n:=0) (fun y hy=>by rw[he]at hy;cases hy) (by rw[he];simp) (by omega)
   rcases hc with h | h | h | h | h | h | h | h | h
   · obtain⟨a1,a2,a3,a4,a5,a6,a7⟩:=h;have a1':x.Kind=1:=by omega
     simp only[a1'];simp only[p0 a6,oZ3,decide_false,Bool.false_eq_true,if_false,Int.reduceEq,Bool.not_true];cases v;simp_all
   · obtain⟨a1,a2,a3,a4,a5,a6,a7,a8,a9⟩:=h;have a1':x.Kind=2:=by omega
     simp only[a1'];simp only[p0 a6,a8,a9,oZ3,decide_false,decide_true,Bool.false_eq_true,if_false,if_true,Int.reduceEq,Bool.not_true,cond_true];cases v;simp_all
   · obtain⟨a1,a2,a3,a4,a5,a6,a7,a8⟩:=h;have a1':x.Kind=3:=by omega
     simp only[a1'];simp only[p0 a6,a8,oZ3,decide_false,decide_true,Bool.false_eq_true,if_false,if_true,Int.reduceEq,Bool.not_true,cond_true];cases v;simp_all
   · obtain⟨a1,a2,a3,a4,a5,a6,a7,a8⟩:=h;have a1':x.Kind=4:=by omega
     obtain⟨r,r1,_,r2⟩:=gbm (t:=x) v.ID (by have:=(H.T _ hmem).1;have:=g17 (Nat.le_refl reachBytes);omega);have hr:r.2=true:=by
       rcases r2 with⟨_,_,_,_,rfl⟩ | ⟨q,_⟩
       · rfl
       · rcases a8 with⟨y,y1,y2⟩ | ⟨_,h,_⟩
         · obtain⟨i,hi,rfl⟩:=List.getElem_of_mem y1;exact absurd y2 (by have:=q i hi;rwa [g11 hi]at this)
         · cases h
     simp only[a1',r1,hr];simp only[p0 a6,oZ3,decide_false,decide_true,Bool.false_eq_true,if_false,if_true,Int.reduceEq,Bool.not_true,cond_true];cases v;simp_all
   · obtain⟨a1,a2,a3,a4,a5,a6,a7,a8⟩:=h;have a1':x.Kind=5:=by omega
     obtain⟨m1,m2⟩:=H.A x hmem (.inl a1');obtain⟨f1,f2⟩:=gbx.1 a8
     have hr:=gxy (ts:=ts) m1 m2 hi f1 (fun i hi' mis path hp=>by
       have hy:=gp (by omega:i < v.Items.length) dSValue
       exact ihi _ hy _ (by have:=li _ hy;omega) (f2 i hi') mis path (by have:=li _ hy;omega)) (mis:=mis) (path:=path) (n:=wt v - 10) hp2
     simp only[a1',hr,oZ3,decide_false,decide_true,Bool.false_eq_true,if_false,if_true,Int.reduceEq,Bool.not_true,cond_true];cases v;simp_all [SValue.gk]
   · obtain⟨a1,a2,a3,a4,a5,a6⟩:=h;have a1':x.Kind=6:=by omega
     obtain⟨m1,m2⟩:=H.A x hmem (.inr a1');cases hF:findM x.Members v.ID with
     | none=>rw[hF]at a6;cases a6.2.1
     | some m=>
       rw[hF]at a6;obtain⟨b1,b2,b3⟩:=a6;have hy:=gp (by omega:0 < v.Items.length) dSValue;have hr:=gup (ts:=ts) m1 m2 hF b2 (ii _ b3 _ hy) (mis:=mis) (path:=path) hp2;simp only[a1',hr,oZ3,decide_false,decide_true,Bool.false_eq_true,if_false,if_true,Int.reduceEq,Bool.not_true,cond_true];cases v;simp_all [SValue.gk]
   · obtain⟨a1,a2,a3,a4,a5,a6,a7,a8,a9⟩:=h;have a1':x.Kind=7:=by omega
     have hq:=gar (ii _ a9) (by omega) (mis:=mis) hp2;simp only[a1',hq,a8,oZ3,decide_false,decide_true,Bool.false_eq_true,if_false,if_true,Int.reduceEq,Bool.not_true,cond_true];cases v;simp_all
   · obtain⟨a1,a2,a3,a4,a5,a6,a7,a8,a9,a10,a11⟩:=h;have a1':x.Kind=8:=by omega
     have hq:=gar (ii _ a10) (by omega) (mis:=mis) hp2;have hqk:=gar (ik _ a9) (by omega) (mis:=mis) hp2;have a7':(v.Items.length:Int)≤x.Max:=by omega
     simp only[a1',hq,hqk,a7',oZ3,decide_false,decide_true,Bool.false_eq_true,if_false,if_true,Int.reduceEq,Bool.not_true,cond_true];cases v;simp_all
   · obtain⟨a1,a2,a3,a4,a5,a6,a7,a8,a9⟩:=h;have a1':x.Kind=9:=by omega
     have hq:=gar (ii _ a9) (by omega) (mis:=mis) hp2;simp only[a1',hq,oZ3,decide_false,decide_true,Bool.false_eq_true,if_false,if_true,Int.reduceEq,Bool.not_true,cond_true];cases v;simp_all
end
theorem gr8 {ts : List SType} (H : DrOk ts) {t : Int} {v : SValue} (hv : OkV v) (hf : vfit ts true t v) (hw : wt v ≤ 20000) :
   g8c ((⟨ts⟩:SSchema),t,v,(⟨ts⟩:SSchema),t)=some (v,0)∧g8d ((⟨ts⟩:SSchema),t,v,(⟨ts⟩:SSchema),t)=some ([],15):=by
 have hs:(⟨ts⟩:SSchema).Types.length≤reachBytes:=by have:=H.n5;show ts.length≤reachBytes;unfold reachBytes;omega
 obtain⟨e,e1,e2,_⟩:=gun (w:=⟨ts⟩) (r:=⟨ts⟩) hs H.T hs H.T hv t t;obtain⟨q1,q2⟩:=gwt H.T H.V;obtain⟨⟨g1,g2,_⟩,_⟩:=(gcv _ _ _).1 hf;have ho:¬(bif decide (t < 0)then true else decide ((ts.length:Int)≤t))=true:=by
   have h1:¬t < 0:=by omega
   have h2:¬(ts.length:Int)≤t:=by omega
   simp[h1,h2]
 have hx:g5d ((⟨ts⟩:SSchema),t)=some 0:=by
   rw[g5d,q1];simp only[oZ4,oZ3];rw[if_neg (by simp),if_neg ho]
 have S:=H.V.sok H.T;have hc:g5s ((⟨ts⟩:SSchema),t,v,(⟨ts⟩:SSchema),t)=some 0:=by
   obtain⟨q,p1,p2⟩:=gox (by have:=S.n;omega) H.T S.K hv t true;obtain⟨x,x1,x2⟩:=gqu (by have:=S.n;omega) H.T S.K hv t true;have ex:x=q:=by rw[p2]at x1;exact(Option.some.inj x1).symm
   have hq:q=true:=by rw[←ex];exact x2.2 hf
   have hp:g85 ((⟨ts⟩:SSchema),t,v)=some true:=by
     rw[g85];simp only[SValue.gk];rw[p1,hq];rfl
   rw[g5s];simp only[SValue.gk];rw[hx,hp];simp
 have hr:=gxz S hv t hw hf [] [] (by simp;omega);constructor
 · rw[g8c];simp only[SValue.gk];rw[hc];simp only[oZ4,oZ3];rw[if_neg (by simp),hr];simp
 · rw[g8d];simp only[SValue.gk];rw[hc];simp only[oZ4,oZ3];rw[if_neg (by simp),hr];simp
theorem gy0{d:Sheaveref08Draft}(hd:DrIn d) :g55 d=some true:=by
 rw[g55,gfs];rcases of8 hd with⟨s,t,v,w,h⟩ | ⟨ts,t,v,w,h,H,_,⟨hf,hv,_⟩,_⟩
 · rw[h];rfl
 · obtain⟨c,hc,hc2⟩:=grz hv;rw[h];simp only[oZ4,oZ3,SValue.gk,Bool.not_true,cond_false,Bool.not_false,if_true];rw[hc];cases c with
   | false=>rfl
   | true=>
     obtain⟨r1,r2⟩:=gr8 H hv hf (by have:=hc2 rfl;omega);simp only[oZ3,Bool.not_true,Bool.not_false,cond_false,Bool.false_eq_true,if_false,if_true,eq_self];rw[r1,r2];obtain⟨q,q1,q2⟩:=gxw hv v;have:q=true:=q2.2 rfl;subst this;simp[q1]
theorem law_MeaningSelf(h:Hs Un.D [.nm ixSheaveref08Draft])(hk:Ok Un [.nm ixSheaveref08Draft] h) :g55 h=some true:=gy0 (gxv (okOne hk))
end
end Go.Proofs.YtandcioiaooocaaGreat
