/- The functions of the program as functions of Lean, that its code does what they say, and what they answer; part C. -/
import Derived.Test.YtijpinendaoleaaGreatRcB

namespace Go.Proofs.YtijpinendaoleaaGreat
set_option linter.all false
section
open Go Go.Proofs.YtijpinendaoleaaGreat.Shv Go.Sort
set_option maxRecDepth 100000
section
variable {ts:List SType}
theorem gmc{x:SType}(hm:MAsc x.Members)(hl:x.Members.length≤1000){id:Int}{m:SMember}(hF:findM x.Members id=some m) :∃j,j < x.Members.length∧g3b (x,id)=some ((j:Int),true)∧x.Members.getD j dSMember=m:=by
 obtain⟨m1,m2⟩:=gz9 hF;obtain⟨r,r1,r2⟩:=ghc (t:=x) (id:=id) (by omega);rcases r2 with⟨j,j1,j2,_,rfl⟩ | ⟨q,_⟩
 · exact⟨j,j1,r1,g10m hm (gg j1 dSMember) m1 (by rw[j2,m2])⟩
 · obtain⟨i,hi,rfl⟩:=List.getElem_of_mem m1;exact absurd m2 (by have:=q i hi;rwa [gk hi]at this)
def stL(x:SType)(v:SValue)(i:Nat) :List RelayStep:=(List.range i).map fun j=>(⟨stT x v j,stN x v j⟩:RelayStep)
theorem g10p(x:SType)(v:SValue)(i:Nat) :stL x v i++[(⟨stT x v i,stN x v i⟩:RelayStep)]=stL x v (i+1):=by
 unfold stL;rw[List.range_succ,List.map_append];rfl
theorem g5y(x:SType)(v:SValue)(i:Nat) :(stL x v i).length=i:=by unfold stL;simp
theorem gl5(x:SType)(v:SValue){i n:Nat}(h:i < n) :(stL x v n).getD i dRelayStep=⟨stT x v i,stN x v i⟩:=by
 rw[gk (by rw[g5y];exact h)];unfold stL;simp
theorem gsy {x : SType} {v : SValue} (hl : v.Items.length ≤ 1000) (h5 : x.Kind = 5 → v.Items.length ≤ x.Members.length) (h6 : x.Kind = 6 → 0 < v.Items.length → ∃ m, findM x.Members v.ID = some m) (hA : x.Kind = 6 → MAsc x.Members ∧ x.Members.length ≤ 16) : ∀ (k i : Nat), i + k = v.Items.length →
   g3p ((v.Items.length:Int),(i:Int),x,v,stL x v i)=some (stL x v v.Items.length)
 | 0,i,hi=>by
   rw[g3p,if_neg (by simp;omega)];have:i=v.Items.length:=by omega
   rw[this]
 | k+1,i,hi=>by
   have ih:=gsy hl h5 h6 hA k (i+1) (by omega);have hs:=g10p x v i;have hr:∀s:RelayStep,room 16 (stL x v i++[s]).length=true:=fun s=>g2h (by omega) (by simp[g5y];omega)
   rw[g3p,if_pos (by simp;omega),gp (by omega)];simp only[oZ4,oZ3,SValue.ge];by_cases k5:x.Kind=5
   · have hlt:i < x.Members.length:=by have:=h5 k5;omega
     rw[if_pos (by simp[k5]),if_pos (g6 hlt),if_pos (g6 hlt),if_pos (hr _),g7];have e:(⟨(x.Members.getD i dSMember).Type_,(x.Members.getD i dSMember).ID⟩:RelayStep)=⟨stT x v i,stN x v i⟩:=by unfold stT stN;rw[if_pos k5,if_pos k5]
     rw[e,hs];exact ih
   · rw[if_neg (by simp[k5])];by_cases k6:x.Kind=6
     · obtain⟨m,hF⟩:=h6 k6 (by omega);obtain⟨j,j1,j2,j3⟩:=gmc (hA k6).1 (by have:=(hA k6).2;omega) hF;rw[if_pos (by simp[k6]),j2];simp only[oZ3];rw[if_pos (g6 j1),if_pos (hr _),g7,j3];have e:(⟨m.Type_,v.ID⟩:RelayStep)=⟨stT x v i,stN x v i⟩:=by unfold stT stN;rw[if_neg k5,if_pos k6,if_neg k5,if_pos k6,hF];rfl
       rw[e,hs];exact ih
     · rw[if_neg (by simp[k6]),if_pos (hr _)];have e:(⟨x.Elem,(i:Int)⟩:RelayStep)=⟨stT x v i,stN x v i⟩:=by unfold stT stN;rw[if_neg k5,if_neg k6,if_neg k5,if_neg k6]
       rw[e,hs];exact ih
theorem gcp(H:SOk ts){pl:Bool}{t:Int}{v:SValue}(hf:vfit ts pl t v)(hl:v.Items.length≤1000) :g4z (ts.getD t.toNat dSType,v)=some (stL (ts.getD t.toNat dSType) v v.Items.length):=by
 obtain⟨⟨g1,g2,g3,g4⟩,hc⟩:=(g10 _ _ _).1 hf;have hmem:=gg (by omega:t.toNat < ts.length) dSType;generalize hx:ts.getD t.toNat dSType=x at*;rw[g4z];simp only[SValue.ge]
 have := gsy (x := x) (v := v) hl (fun k5 => by
     rcases hc with h | h | h | h | h | h | h | h | h
     case inr.inr.inr.inr.inl=>have:=(g4d.1 h.2.2.2.2.2.2.2).1;omega
     all_goals (have:=h.1;omega)) (fun k6 hpos=>by
     rcases hc with h | h | h | h | h | h | h | h | h
     case inr.inr.inr.inr.inr.inl=>
       obtain⟨a1,a2,a3,a4,a5,a6⟩:=h;split at a6
       · rename_i m hm;exact⟨m,hm⟩
       · rw[a6.2.2.2.1]at hpos;cases hpos
     all_goals (have:=h.1;omega)) (fun k6=>H.A x hmem (.inr k6)) v.Items.length 0 (by omega)
 have h0:g3p ((v.Items.length:Int),0,x,v,[])=_:=this;rw[h0];rfl
def zeroV :SValue:=⟨0,false,0,[],0,[],[],[]⟩
def got(ts:List SType)(t:Int)(v:SValue) :Prop:=∃b,(b=true↔vfit ts true t (vstrip v))∧g4f ((⟨ts⟩:SSchema),t,v)=some (if b=true then(vstrip v,true)else(zeroV,false))
theorem gsz {x : SType} {v : SValue} (hl : v.Items.length ≤ 1000) (h : ∀ i, i < v.Items.length → got ts (stT x v i) (v.Items.getD i dSValue)) {z0 z2 z4 a0 a2 a4 : Int} {z1 a1 : Bool} {z3 a3 : List UInt8} {ks : List SValue} : ∀ (k i : Nat), i + k = v.Items.length →
   (g5c (stL x v v.Items.length,(v.Items.length:Int),(i:Int),ts,v,z0,z1,z2,z3,z4,a0,a1,a2,a3,a4,ks,(v.Items.take i).map vstrip)=some (.inr (z0,z1,z2,z3,z4,a0,a1,a2,a3,a4,ks,v.Items.map vstrip))∧∀j,i≤j→j < v.Items.length→vfit ts true (stT x v j) (vstrip (v.Items.getD j dSValue)))∨
   (g5c (stL x v v.Items.length,(v.Items.length:Int),(i:Int),ts,v,z0,z1,z2,z3,z4,a0,a1,a2,a3,a4,ks,(v.Items.take i).map vstrip)=some (.inl (false,0,false,0,[],0))∧∃j,j < v.Items.length∧¬vfit ts true (stT x v j) (vstrip (v.Items.getD j dSValue)))
 | 0,i,hi=>.inl ⟨by rw[g5c,if_neg (by simp;omega),List.take_of_length_le (by omega)],fun j h1 h2=>by omega⟩
 | k+1,i,hi=>by
   have hlt:i < v.Items.length:=by omega
   obtain⟨b,b1,b2⟩:=h i hlt;rw[g5c,if_pos (by simp;omega),if_pos (g6 (by rw[g5y];exact hlt)),if_pos (g6 hlt),g7,gl5 x v hlt];simp only[SValue.ge];rw[b2];cases b with
   | false=>exact .inr ⟨rfl,i,hlt,fun q=>by have:=b1.2 q;cases this⟩
   | true=>
     have e:(v.Items.take i).map vstrip++[vstrip (v.Items.getD i dSValue)]=(v.Items.take (i+1)).map vstrip:=by
       rw[List.take_add_one,List.map_append,List.getElem?_eq_getElem hlt,gk hlt];rfl
     simp only[oZ4,oZ3,if_true,Bool.not_true,SValue.ge];rw[if_neg (by simp),if_pos (g2h (by omega) (by simp;omega)),gp (by omega),e];rcases gsz hl h (z0:=z0) (z1:=z1) (z2:=z2) (z3:=z3) (z4:=z4) (a0:=a0) (a1:=a1) (a2:=a2) (a3:=a3) (a4:=a4) (ks:=ks) k (i+1) (by omega)with⟨c1,c2⟩ | ⟨c1,c2⟩
     · refine .inl ⟨c1,fun j h1 h2=>?_⟩;by_cases hj:j=i
       · subst hj;exact b1.1 rfl
       · exact c2 j (by omega) h2
     · exact .inr ⟨c1,c2⟩
theorem g10q{t:Int}{k:SValue}(hf:vfit ts false t k)(h1:1≤(ts.getD t.toNat dSType).Kind∧(ts.getD t.toNat dSType).Kind≤4)(hk:Known (ts.getD t.toNat dSType) k) :vfit ts true t k:=by
 obtain⟨⟨g1,g2,g3,g4⟩,hc⟩:=(g10 _ _ _).1 hf;rw[g10];rcases hc with h | h | h | h | h | h | h | h | h
 · exact⟨⟨g1,g2,g3,fun _=>h.2.2.2.2.2.2⟩,.inl h⟩
 · exact⟨⟨g1,g2,g3,fun _=>h.2.2.2.2.2.2.1⟩,.inr (.inl h)⟩
 · exact⟨⟨g1,g2,g3,fun _=>h.2.2.2.2.2.2.1⟩,.inr (.inr (.inl h))⟩
 · obtain⟨a1,a2,a3,a4,a5,a6,a7,a8⟩:=h;exact⟨⟨g1,g2,g3,fun _=>a7⟩,.inr (.inr (.inr (.inl ⟨a1,a2,a3,a4,a5,a6,a7,.inl (hk (by omega))⟩)))⟩
 all_goals (have:=h.1;omega)
theorem gfl{t:Int}{k:SValue}(hf:vfit ts true t k) :Known (ts.getD t.toNat dSType) k:=by
 obtain⟨⟨g1,g2,g3,g4⟩,hc⟩:=(g10 _ _ _).1 hf;intro h4;rcases hc with h | h | h | h | h | h | h | h | h
 case inr.inr.inr.inl=>
   rcases h.2.2.2.2.2.2.2 with h | h
   · exact h
   · cases h.2.1
 all_goals (have:=h.1;omega)
theorem gzb(x:SType)(v:SValue)(j:Nat) :stT x (vstrip v) j=stT x v j:=by
 unfold stT;rw[g6n]
theorem gou{l:List SValue}{j:Nat}(h:j < l.length) :(l.map vstrip).getD j dSValue=vstrip (l.getD j dSValue):=by
 rw[gk h,gk (by simpa using h)];simp
theorem gzc (H : SOk ts) {t : Int} {v : SValue} (hf : vfit ts false t v) : vfit ts true t (vstrip v) ↔
   Known (ts.getD t.toNat dSType) v∧(∀k,k∈v.Keys→Known (ts.getD (ts.getD t.toNat dSType).Key.toNat dSType) k)∧¬((ts.getD t.toNat dSType).Kind=6∧v.Items.length=0)∧∀j,j < v.Items.length→vfit ts true (stT (ts.getD t.toNat dSType) v j) (vstrip (v.Items.getD j dSValue)):=by
 obtain⟨⟨g1,g2,g3,g4⟩,hc⟩:=(g10 _ _ _).1 hf;have hmem:=gg (by omega:t.toNat < ts.length) dSType;constructor
 · intro h;have hkids:=g72 h;have hkn:=gfl h;have hID:(vstrip v).ID=v.ID:=by rw[g6n]
   have hKe:(vstrip v).Keys=v.Keys:=by rw[g6n]
   have hIt:(vstrip v).Items=v.Items.map vstrip:=by rw[g6n]
   obtain⟨⟨_,_,f3,f4⟩,fc⟩:=(g10 _ _ _).1 h;refine⟨fun h4=>by have:=hkn h4;rwa [hID]at this,fun k hk=>?_,?_,fun j hj=>?_⟩
   · rcases fc with h | h | h | h | h | h | h | h | h
     case inr.inr.inr.inr.inr.inr.inr.inl=>
       have:=h.2.2.2.2.2.2.2.2.1;rw[hKe]at this;exact gfl (g1q.1 this _ hk)
     case inr.inr.inr.inr.inr.inl=>have:=h.2.2.2.2.1;rw[hKe]at this;rw[this]at hk;cases hk
     case inl=>have:=h.2.2.2.2.1;rw[hKe]at this;rw[this]at hk;cases hk
     case inr.inl=>have:=h.2.2.2.2.1;rw[hKe]at this;rw[this]at hk;cases hk
     case inr.inr.inl=>have:=h.2.2.2.2.1;rw[hKe]at this;rw[this]at hk;cases hk
     case inr.inr.inr.inl=>have:=h.2.2.2.2.1;rw[hKe]at this;rw[this]at hk;cases hk
     all_goals (have:=h.2.2.2.2.2.1;rw[hKe]at this;rw[this]at hk;cases hk)
   · intro⟨k6,hz⟩;rcases fc with h | h | h | h | h | h | h | h | h
     case inr.inr.inr.inr.inr.inl=>
       obtain⟨a1,a2,a3,a4,a5,a6⟩:=h;split at a6
       · have:=a6.2.1;rw[hIt,List.length_map]at this;omega
       · cases a6.2.1
     all_goals (have:=h.1;omega)
   · have:=hkids j (by rw[hIt,List.length_map];exact hj)
     rwa [gzb,hIt,gou hj]at this
 · intro⟨hk,hks,hu,hj⟩;rw[g6n,g10];dsimp only;generalize hx:ts.getD t.toNat dSType=x at*;rcases hc with h | h | h | h | h | h | h | h | h
   · obtain⟨a1,a2,a3,a4,a5,a6,a7⟩:=h;rw[if_neg (by omega),a6,a7];exact⟨⟨g1,g2,g3,fun _=>rfl⟩,.inl ⟨a1,a2,a3,a4,a5,rfl,rfl⟩⟩
   · obtain⟨a1,a2,a3,a4,a5,a6,a7,a8⟩:=h;rw[if_neg (by omega),a6,a7];exact⟨⟨g1,g2,g3,fun _=>rfl⟩,.inr (.inl ⟨a1,a2,a3,a4,a5,rfl,rfl,a8⟩)⟩
   · obtain⟨a1,a2,a3,a4,a5,a6,a7,a8⟩:=h;rw[if_neg (by omega),a6,a7];exact⟨⟨g1,g2,g3,fun _=>rfl⟩,.inr (.inr (.inl ⟨a1,a2,a3,a4,a5,rfl,rfl,a8⟩))⟩
   · obtain⟨a1,a2,a3,a4,a5,a6,a7,a8⟩:=h;rw[if_neg (by omega),a6,a7];exact⟨⟨g1,g2,g3,fun _=>rfl⟩,.inr (.inr (.inr (.inl ⟨a1,a2,a3,a4,a5,rfl,rfl,.inl (hk (by omega))⟩)))⟩
   · obtain⟨a1,a2,a3,a4,a5,a6,a7,a8⟩:=h;rw[if_pos a1];obtain⟨b1,b2⟩:=g4d.1 a8;refine⟨⟨g1,g2,g3,fun _=>rfl⟩,.inr (.inr (.inr (.inr (.inl ⟨a1,a2,a3,a4,a5,a6,⟨List.Pairwise.nil,fun y hy=>(by cases hy)⟩,g4d.2 ⟨by rw[List.length_map];exact b1,fun i hi=>?_⟩⟩))))⟩;have:=hj i (by omega);unfold stT at this;rw[if_pos (by omega)]at this;rw[gou (by omega)]
     exact this
   · obtain⟨a1,a2,a3,a4,a5,a6⟩:=h;rw[if_neg (by omega)];cases hF:findM x.Members v.ID with
     | none=>
       rw[hF]at a6;exact absurd ⟨by omega,by rw[a6.2.2.2.1];rfl⟩ hu
     | some m=>
       rw[hF]at a6;obtain⟨b1,b2,b3⟩:=a6;refine⟨⟨g1,g2,g3,fun _=>b1⟩,.inr (.inr (.inr (.inr (.inr (.inl ⟨a1,a2,a3,a4,a5,b1,by rw[List.length_map];exact b2,g1q.2 fun y hy=>?_⟩)))))⟩;obtain⟨w,hw,rfl⟩:=List.mem_map.1 hy;obtain⟨i,hi,rfl⟩:=List.getElem_of_mem hw;have:=hj i hi;unfold stT at this;rw[if_neg (by omega),if_pos (by omega),hF,gk hi]at this
       exact this
   · obtain⟨a1,a2,a3,a4,a5,a6,a7,a8,a9⟩:=h;rw[if_neg (by omega)];refine⟨⟨g1,g2,g3,fun _=>a7⟩,.inr (.inr (.inr (.inr (.inr (.inr (.inl ⟨a1,a2,a3,a4,a5,a6,a7,by rw[List.length_map];exact a8,g1q.2 fun y hy=>?_⟩))))))⟩;obtain⟨w,hw,rfl⟩:=List.mem_map.1 hy;obtain⟨i,hi,rfl⟩:=List.getElem_of_mem hw;have:=hj i hi;unfold stT at this
     rw[if_neg (by omega),if_neg (by omega),gk hi]at this;exact this
   · obtain⟨a1,a2,a3,a4,a5,a6,a7,a8,a9,a10,a11⟩:=h;rw[if_neg (by omega)];refine⟨⟨g1,g2,g3,fun _=>a6⟩,.inr (.inr (.inr (.inr (.inr (.inr (.inr (.inl ⟨a1,a2,a3,a4,a5,a6,a7,by rw[List.length_map];exact a8,g1q.2 fun y hy=>g10q (g1q.1 a9 y hy) (H.Ky x hmem (by omega)) (hks y hy),g1q.2 fun y hy=>?_,a11⟩)))))))⟩;obtain⟨w,hw,rfl⟩:=List.mem_map.1 hy
     obtain⟨i,hi,rfl⟩:=List.getElem_of_mem hw;have:=hj i hi;unfold stT at this;rw[if_neg (by omega),if_neg (by omega),gk hi]at this;exact this
   · obtain⟨a1,a2,a3,a4,a5,a6,a7,a8,a9⟩:=h;rw[if_neg (by omega)];refine⟨⟨g1,g2,g3,fun _=>a7⟩,.inr (.inr (.inr (.inr (.inr (.inr (.inr (.inr ⟨a1,a2,a3,a4,a5,a6,a7,by rw[List.length_map];exact a8,g1q.2 fun y hy=>?_⟩)))))))⟩;obtain⟨w,hw,rfl⟩:=List.mem_map.1 hy;obtain⟨i,hi,rfl⟩:=List.getElem_of_mem hw;have:=hj i hi;unfold stT at this
     rw[if_neg (by omega),if_neg (by omega),gk hi]at this;exact this
theorem gkw{t:Int}{v:SValue}{pl:Bool}(hf:vfit ts pl t v) :v.Keys≠[]→0≤(ts.getD t.toNat dSType).Key∧(ts.getD t.toNat dSType).Key < ts.length:=by
 obtain⟨_,hc⟩:=(g10 _ _ _).1 hf;intro hn;rcases hc with h | h | h | h | h | h | h | h | h
 case inr.inr.inr.inr.inr.inr.inr.inl=>
   obtain⟨a1,a2,a3,a4,a5,a6,a7,a8,a9,_⟩:=h;cases hk:v.Keys with
   | nil=>exact absurd hk hn
   | cons k l=>
     have:=g1q.1 a9 k (by rw[hk];exact .head _);obtain⟨⟨q1,q2,_⟩,_⟩:=(g10 _ _ _).1 this;exact⟨q1,q2⟩
 case inl=>exact absurd h.2.2.2.2.1 hn
 case inr.inl=>exact absurd h.2.2.2.2.1 hn
 case inr.inr.inl=>exact absurd h.2.2.2.2.1 hn
 case inr.inr.inr.inl=>exact absurd h.2.2.2.2.1 hn
 case inr.inr.inr.inr.inr.inl=>exact absurd h.2.2.2.2.1 hn
 all_goals exact absurd h.2.2.2.2.2.1 hn
theorem gzd(H:DrOk ts){v:SValue}(hv:OkV v) :∀t,vfit ts false t v→got ts t v:=by
 have S:=H.V.sok H.T
 induction hv with
 | mk v hs h1 h2 h3 hk hi hrd n1 n2 n3 n4 ihk ihi=>
   intro t hf;obtain⟨l1,l2,l3⟩:=g87 H hf;obtain⟨⟨g1,g2,g3,g4⟩,_⟩:=(g10 _ _ _).1 hf;have hj:t.toNat < ts.length:=by omega
   have hmem:=gg hj dSType;have hiff:=gzc S hf;have hst:=gcp S hf (by omega);have hkids:∀i,i < v.Items.length→got ts (stT (ts.getD t.toNat dSType) v i) (v.Items.getD i dSValue):=fun i hi'=>ihi _ (gg hi' dSValue) _ (g72 hf i hi')
   obtain⟨sb,s1,s2⟩:=gcb (H.T _ hmem) v;obtain⟨kb,k1,k2⟩:=gkv H.T (x:=ts.getD t.toNat dSType) (v:=v) (by omega) (gkw hf);generalize hx:ts.getD t.toNat dSType=x at*;have hbad:∀(P:Prop),¬vfit ts true t (vstrip v)→g4f ((⟨ts⟩:SSchema),t,v)=some (zeroV,false)→got ts t v:=fun _ h1 h2=>⟨false,by simp[h1],by rw[h2];rfl⟩
   have hin:inR t ts.length=true:=by simp[inR];omega
   have hun:∀b,(bif decide (x.Kind=6)then decide ((v.Items.length:Int)=0)else false)=b→(b=true↔x.Kind=6∧v.Items.length=0):=by
     intro b hb;rw[←hb];by_cases h6:x.Kind=6 <;> simp[h6]
   obtain⟨ub,hub⟩:∃b,(bif decide (x.Kind=6)then decide ((v.Items.length:Int)=0)else false)=b:=⟨_,rfl⟩
   have hu:=hun ub hub;cases sb with
   | true=>
     refine hbad True (fun h=>?_) ?_
     · have:=s2.2 (hiff.1 h).1;cases this
     · rw[g4f,if_pos hin];simp only[oZ4,oZ3,SValue.ge,hx];rw[s1];rfl
   | false=>
     cases kb with
     | true=>
       refine hbad True (fun h=>?_) ?_
       · have:=k2.2 (hiff.1 h).2.1;cases this
       · rw[g4f,if_pos hin];simp only[oZ4,oZ3,SValue.ge,hx];rw[s1];simp only[oZ3,Bool.not_false,if_true];rw[k1];rfl
     | false=>
       cases ub with
       | true=>
         refine hbad True (fun h=>(hiff.1 h).2.2.1 (hu.1 rfl)) ?_;rw[g4f,if_pos hin];simp only[oZ4,oZ3,SValue.ge,hx];rw[s1];simp only[oZ3,Bool.not_false,if_true];rw[k1,hub];rfl
       | false=>
         have hL:=gsz (x:=x) (v:=v) (by omega) hkids (z0:=0) (z1:=false) (z2:=0) (z3:=[]) (z4:=0) (a0:=v.Kind) (a1:=v.Bool_) (a2:=v.Int_) (a3:=v.Str) (a4:=v.ID) (ks:=v.Keys) v.Items.length 0 (by omega)
         have hgo : ∀ X, g5c (stL x v v.Items.length, (v.Items.length : Int), 0, ts, v, 0, false, 0, [], 0, v.Kind, v.Bool_, v.Int_, v.Str, v.ID, v.Keys, []) = some X → g4f ((⟨ts⟩ : SSchema), t, v) = (match X with
             | .inl o_1=>some ((⟨o_1.2.1,o_1.2.2.1,o_1.2.2.2.1,o_1.2.2.2.2.1,o_1.2.2.2.2.2,[],[],[]⟩:SValue),o_1.1)
             | .inr o_2=>some ((⟨o_2.2.2.2.2.2.1,o_2.2.2.2.2.2.2.1,o_2.2.2.2.2.2.2.2.1,o_2.2.2.2.2.2.2.2.2.1,o_2.2.2.2.2.2.2.2.2.2.1,o_2.2.2.2.2.2.2.2.2.2.2.1,o_2.2.2.2.2.2.2.2.2.2.2.2,[]⟩:SValue),true)):=by
           intro X hX;rw[g4f,if_pos hin];simp only[oZ4,oZ3,SValue.ge,hx];rw[s1];simp only[oZ3,Bool.not_false,if_true];rw[k1,hub];simp only[oZ3,cond_false];have hcl:g43 120 v.Keys=some v.Keys:=by unfold g43;rw[if_pos (g2h (by omega) (by omega))]
           rw[if_neg (by simp),hcl];simp only[oZ3];rw[hst];simp only[oZ3,g5y];rw[hX];cases X <;> rfl
         rcases hL with⟨c1,c2⟩ | ⟨c1,j,j1,j2⟩
         · have hyes:vfit ts true t (vstrip v):=hiff.2 ⟨s2.1 rfl,k2.1 rfl,fun h=>(by have:=hu.2 h;cases this),fun j hj=>c2 j (Nat.zero_le _) hj⟩;refine⟨true,by simp[hyes],?_⟩;rw[hgo _ c1,if_pos rfl];have hr:(vstrip v).Rest=[]:=by
             obtain⟨⟨_,_,_,q⟩,_⟩:=(g10 _ _ _).1 hyes;exact q rfl
           have:(⟨v.Kind,v.Bool_,v.Int_,v.Str,v.ID,v.Keys,v.Items.map vstrip,[]⟩:SValue)=vstrip v:=by
             rw[g6n]at hr ⊢;dsimp only at hr;rw[hr]
           show some ((⟨v.Kind,v.Bool_,v.Int_,v.Str,v.ID,v.Keys,v.Items.map vstrip,[]⟩:SValue),true)=_;rw[this]
         · refine hbad True (fun h=>j2 ((hiff.1 h).2.2.2 j j1)) ?_;rw[hgo _ c1];rfl
end
end
section
open Go Go.Proofs.YtijpinendaoleaaGreat.Shv Go.Sort
set_option maxRecDepth 100000
theorem gze{v:SValue}(hv:OkV v) :OkV (vstrip v):=by
 induction hv with
 | mk v hs h1 h2 h3 hk hi hrd n1 n2 n3 n4 ihk ihi=>
   rw[g6n];have hr:∀x,x∈(if v.Kind=5 then[]else v.Rest)→x∈v.Rest:=fun x hx=>by
     by_cases h5:v.Kind=5
     · rw[if_pos h5]at hx;cases hx
     · rwa [if_neg h5]at hx
   refine .mk _ hs h1 (by show(v.Items.map vstrip).length≤_;rw[List.length_map];exact h2) ?_ hk (fun x hx=>?_) (fun x hx=>hrd x (hr x hx)) n1 n2 n3 (fun x hx=>n4 x (hr x hx))
   · show(if v.Kind=5 then[]else v.Rest).length≤_;by_cases h5:v.Kind=5
     · rw[if_pos h5];exact Nat.zero_le _
     · rw[if_neg h5];exact h3
   · obtain⟨w,hw,rfl⟩:=List.mem_map.1 hx;exact ihi w hw
theorem gty{ts:List SType}{v:SValue}(hv:OkV v) :∀t,vfit ts true t v→vstrip v=v:=by
 induction hv with
 | mk v hs h1 h2 h3 hk hi hrd n1 n2 n3 n4 ihk ihi=>
   intro t hf;obtain⟨⟨_,_,_,hr⟩,_⟩:=(g10 _ _ _).1 hf;have hr:=hr rfl;have hm:v.Items.map vstrip=v.Items:=by
     refine List.ext_getElem (by simp) fun i a1 a2=>?_
     have:=g72 hf i a2;rw[gk a2]at this;rw[List.getElem_map];exact ihi _ (List.getElem_mem a2) _ this
   rw[g6n,hm,hr];cases v;simp at hr;simp[hr]
theorem gws {ts : List SType} (H : DrOk ts) {t : Int} {v : SValue} (hv : OkV v) (hf : vfit ts false t v) :
   ∃b,(b=true↔vfit ts true t (vstrip v))∧gca ((⟨ts⟩:SSchema),t,v)=some (if b=true then(vstrip v,0)else(zeroV,12))∧gd1 ((⟨ts⟩:SSchema),t,v)=some (if b=true then(vstrip v,0)else(zeroV,12)):=by
 have S:=H.V.sok H.T;obtain⟨b,b1,b2⟩:=gzd H hv t hf;obtain⟨_,e2⟩:=gim H.T H.V hv hf;obtain⟨v1,_⟩:=gkt H.T H.V;obtain⟨⟨g1,g2,_⟩,_⟩:=(g10 _ _ _).1 hf;have ho:¬(bif decide (t < 0)then true else decide ((ts.length:Int)≤t))=true:=by
   have h1:¬t < 0:=by omega
   have h2:¬(ts.length:Int)≤t:=by omega
   simp[h1,h2]
 have hx:g77 ((⟨ts⟩:SSchema),t)=some 0:=by
   rw[g77];simp only[g9q];rw[v1];simp only[oZ4,oZ3];rw[if_neg (by simp),if_neg ho]
 have hF:g5i ((⟨ts⟩:SSchema),t,v)=some true:=by
   obtain⟨q,p1,p2⟩:=gco (by have:=S.n;omega) H.T S.K hv t false;obtain⟨x,x1,x2⟩:=gad (by have:=S.n;omega) H.T S.K hv t false;have ex:x=q:=by rw[p2]at x1;exact(Option.some.inj x1).symm
   have hq:q=true:=by rw[←ex];exact x2.2 hf
   rw[g5i];simp only[SValue.ge];rw[p1,hq];rfl
 have hc:g5o ((⟨ts⟩:SSchema),t,v)=some 0:=by
   rw[g5o];simp only[SValue.ge];rw[hx];simp only[oZ4,oZ3];rw[if_neg (by simp),hF];rfl
 refine⟨b,b1,?_,?_⟩
 · rw[gca];simp only[SValue.ge];rw[hc];simp only[oZ4,oZ3];rw[if_neg (by simp),b2];cases b <;> simp[zeroV,SValue.ge]
 · rw[gd1];simp only[SValue.ge];rw[e2];simp only[oZ4,oZ3];rw[if_neg (by simp),gza H hv t hf];simp only[oZ3,SValue.ge];obtain⟨q,q1,q2⟩:=gtx (by have:=S.n;omega) H.T S.K (gze hv) t;rw[q1];have:q=b:=by
     cases q <;> cases b <;> simp_all
   subst this;cases q <;> simp[zeroV]
end
section
open Go Go.Proofs.YtijpinendaoleaaGreat.Shv Go.Sort
set_option maxRecDepth 100000
theorem g9c{k n:Nat}(hk:k≤1000)(h:n≤100000000000) :room k n=true:=by
 unfold room g4l g1f;simp only[Bool.and_eq_true,decide_eq_true_eq];refine⟨?_,by omega⟩;have:(2*n+192)*k≤200000000192*1000:=Nat.mul_le_mul (by omega) hk;omega
def stTi(x:SType)(id:Int)(i:Nat) :Int:=if x.Kind=5 then(x.Members.getD i dSMember).Type_ else if x.Kind=6 then((findM x.Members id).getD dSMember).Type_ else x.Elem
def stNi(x:SType)(id:Int)(i:Nat) :Int:=if x.Kind=5 then(x.Members.getD i dSMember).ID else if x.Kind=6 then id else i
theorem stT_i(x:SType)(v:SValue)(i:Nat) :stT x v i=stTi x v.ID i:=rfl
theorem stN_i(x:SType)(v:SValue)(i:Nat) :stN x v i=stNi x v.ID i:=rfl
abbrev Prt :=List Int × Int × SValue
mutual
def vall(ts:List SType)(t:Int) :SValue→List Prt
 | ⟨k,b,i,s,id,ks,is,r⟩=>([],t,⟨k,b,i,s,id,ks,is,r⟩)::valls ts (ts.getD t.toNat dSType) id 0 is
def valls(ts:List SType)(x:SType)(id:Int)(i:Nat) :List SValue→List Prt
 | []=>[]
 | v::l=>(vall ts (stTi x id i) v).map (fun q=>(stNi x id i::q.1,q.2))++valls ts x id (i+1) l
end
section
variable {ts:List SType}
theorem gak(t:Int)(v:SValue) :vall ts t v=([],t,v)::valls ts (ts.getD t.toNat dSType) v.ID 0 v.Items:=by
 cases v;rw[vall]
theorem gin(x:SType)(v:SValue){i:Nat}(hi:i < v.Items.length) :valls ts x v.ID i (v.Items.drop i)=(vall ts (stT x v i) (v.Items.getD i dSValue)).map (fun q=>(stN x v i::q.1,q.2))++valls ts x v.ID (i+1) (v.Items.drop (i+1)):=by
 rw[List.drop_eq_getElem_cons hi,valls,gk hi];rfl
mutual
theorem vall_len(t:Int) :∀v:SValue,(vall ts t v).length≤wt v
 | ⟨k,b,i,s,id,ks,is,r⟩=>by
   rw[vall,List.length_cons,wt];have:=valls_len (ts.getD t.toNat dSType) id 0 is;omega
theorem valls_len(x:SType)(id:Int)(i:Nat) :∀l:List SValue,(valls ts x id i l).length≤wts l
 | []=>by rw[valls];exact Nat.zero_le _
 | v::l=>by
   rw[valls,wts,List.length_append,List.length_map];have:=vall_len (stTi x id i) v;have:=valls_len x id (i+1) l;omega
end
def Unk(ts:List SType)(x:SType)(v:SValue) :Prop:=v.Rest≠[]∨¬Known x v∨¬∀k,k∈v.Keys→Known (ts.getD x.Key.toNat dSType) k
noncomputable def unkB (ts:List SType) (x:SType) (v:SValue):Bool:=@decide (Unk ts x v) (Classical.propDecidable _)
theorem gbz{x:SType}{v:SValue} :unkB ts x v=true↔Unk ts x v:=by
 unfold unkB;exact @decide_eq_true_iff _ (Classical.propDecidable _)
noncomputable def sel (ts:List SType) (p:List Int) (q:Prt):Option (List Int):=if unkB ts (ts.getD q.2.1.toNat dSType) q.2.2=true then some (p++q.1)else none
theorem gph(p:List Int)(l:List Prt) :(l.filterMap (sel ts p)).length≤l.length:=List.length_filterMap_le _ _
theorem gux(p:List Int)(n:Int)(l:List Prt) :(l.map (fun q=>((n::q.1,q.2):Prt))).filterMap (sel ts p)=l.filterMap (sel ts (p++[n])):=by
 rw[List.filterMap_map]
 congr 1
 funext q
 unfold sel;simp
theorem gmx{l:List SValue}{i:Nat}(hi:i < l.length) :wts (l.drop i)=wt (l.getD i dSValue)+wts (l.drop (i+1)):=by
 rw[List.drop_eq_getElem_cons hi,g5k,gk hi]
theorem gg4(l:List SValue)(i:Nat) :wts (l.drop i)≤wts l:=by
 induction l generalizing i with
 | nil=>simp
 | cons v l ih=>
   cases i with
   | zero=>simp
   | succ i=>rw[List.drop_succ_cons,g5k];have:=ih i;omega
def gkx(ts:List SType)(t:Int)(v:SValue) :Prop:=∀p:List Int,p.length+wt v≤10000000000→g5p ((⟨ts⟩:SSchema),t,v,p)=some ((vall ts t v).filterMap (sel ts p))
theorem gev {x : SType} {v : SValue} {p : List Int} (hl : v.Items.length ≤ 1000) (h : ∀ i, i < v.Items.length → gkx ts (stT x v i) (v.Items.getD i dSValue)) (hp : p.length + wts v.Items + 1 ≤ 10000000000) : ∀ (k i : Nat) (acc : List (List Int)), i + k = v.Items.length → acc.length + wts (v.Items.drop i) ≤ 20000000000 →
   g49 (p,stL x v v.Items.length,(v.Items.length:Int),(i:Int),ts,v,acc)=some (acc++(valls ts x v.ID i (v.Items.drop i)).filterMap (sel ts p))
 | 0,i,acc,hi,ha=>by
   rw[g49.eq_1,if_neg (by simp;omega),List.drop_eq_nil_of_le (by omega),valls];simp
 | k+1,i,acc,hi,ha=>by
   have hlt:i < v.Items.length:=by omega
   have hw:=gmx hlt;have hle:=gg4 v.Items i;have hkid:=h i hlt (p++[stN x v i]) (by rw[List.length_append];show p.length+1+_≤_;omega);have hlen:((vall ts (stT x v i) (v.Items.getD i dSValue)).filterMap (sel ts (p++[stN x v i]))).length≤wt (v.Items.getD i dSValue):=Nat.le_trans (gph _ _) (vall_len _ _)
   rw[g49.eq_1,if_pos (by simp;omega),if_pos (g6 (by rw[g5y];exact hlt)),g7,gl5 x v hlt];have hcl:g43 8 p=some p:=by unfold g43;rw[if_pos (g9c (by omega) (by omega))]
   simp only[oZ4,oZ3,SValue.ge];rw[if_pos (g6 hlt),hcl];simp only[oZ3];rw[if_pos (g9c (by omega) (by rw[List.length_append];show p.length+1≤_;omega)),hkid];simp only[oZ3];rw[if_pos (g9c (by omega) (by rw[List.length_append];omega)),gp (by omega)]
   have ih:=gev hl h hp k (i+1) (acc++(vall ts (stT x v i) (v.Items.getD i dSValue)).filterMap (sel ts (p++[stN x v i]))) (by omega) (by rw[List.length_append];omega);rw[ih,gin x v hlt,List.filterMap_append,gux,List.append_assoc]
theorem gli(H:DrOk ts){t:Int}{v:SValue}(hf:vfit ts false t v)(hk:∀i,i < v.Items.length→gkx ts (stT (ts.getD t.toNat dSType) v i) (v.Items.getD i dSValue)) :∀p:List Int,p.length+wt v≤10000000000→g5p ((⟨ts⟩:SSchema),t,v,p)=some ((vall ts t v).filterMap (sel ts p)):=by
 intro p hp;have S:=H.V.sok H.T;obtain⟨l1,l2,l3⟩:=g87 H hf;obtain⟨⟨g1,g2,g3,g4⟩,_⟩:=(g10 _ _ _).1 hf;have hj:t.toNat < ts.length:=by omega
 have hmem:=gg hj dSType;have hst:=gcp S hf (by omega);have hwt:=wt_eq v;obtain⟨sb,s1,s2⟩:=gcb (H.T _ hmem) v;obtain⟨kb,k1,k2⟩:=gkv H.T (x:=ts.getD t.toNat dSType) (v:=v) (by omega) (gkw hf);rw[gak,List.filterMap_cons];generalize hx:ts.getD t.toNat dSType=x at*;have hin:inR t ts.length=true:=by simp[inR];omega
 have hsel:sel ts p (([],t,v):Prt)=if unkB ts x v=true then some p else none:=by
   unfold sel;simp only[hx,List.append_nil]
 have L:=fun acc (ha:acc.length≤1)=>gev (x:=x) (v:=v) (p:=p) (by omega) hk (by omega) v.Items.length 0 acc (by omega) (by rw[List.drop_zero];omega)
 have L':∀acc:List (List Int),acc.length≤1→g49 (p,stL x v v.Items.length,(v.Items.length:Int),0,ts,v,acc)=some (acc++(valls ts x v.ID 0 v.Items).filterMap (sel ts p)):=fun acc ha=>by
   have:=L acc ha;rw[List.drop_zero]at this;exact this
 have hr:decide (0 < (v.Rest.length:Int))=decide (v.Rest≠[]):=by
   cases v.Rest with
   | nil=>rfl
   | cons a l=>simp
 have hb:unkB ts x v=(decide (v.Rest≠[]) || sb || kb):=by
   rw[Bool.eq_iff_iff,gbz];unfold Unk;rw[←s2,←k2];cases sb <;> cases kb <;> simp
 rw[g5p,if_pos hin];simp only[oZ4,oZ3,SValue.ge,hx];rw[hr,hsel,hb,s1,k1];have e1:(if(!decide (v.Rest≠[]))=true then some sb else some false)=some (!decide (v.Rest≠[]) && sb):=by cases decide (v.Rest≠[]) <;> rfl
 rw[e1];simp only[oZ3];have e2:(if(!(bif decide (v.Rest≠[])then true else !decide (v.Rest≠[]) && sb))=true then some kb else some false)=some (!(decide (v.Rest≠[]) || sb) && kb):=by cases decide (v.Rest≠[]) <;> cases sb <;> rfl
 rw[e2];simp only[oZ3];have e3:(bif bif decide (v.Rest≠[])then true else !decide (v.Rest≠[]) && sb then true else !(decide (v.Rest≠[]) || sb) && kb)=(decide (v.Rest≠[]) || sb || kb):=by cases decide (v.Rest≠[]) <;> cases sb <;> cases kb <;> rfl
 rw[e3];cases hc:(decide (v.Rest≠[]) || sb || kb)with
 | true=>
   rw[if_pos rfl,if_pos (g9c (by omega) (by simp)),hst];simp only[oZ3,g5y];rw[L' [p] (by simp)];rfl
 | false=>
   rw[if_neg (by simp),hst];simp only[oZ3,g5y];rw[L' [] (by simp)];rfl
theorem ghh {x : SType} {v : SValue} {p : List Int} (hl : v.Items.length ≤ 1000) (h : ∀ i, i < v.Items.length → gkx ts (stT x v i) (v.Items.getD i dSValue)) (hp : p.length + wts v.Items + 1 ≤ 10000000000) : ∀ (k i : Nat) (acc : List (List Int)), i + k = v.Items.length → acc.length + wts (v.Items.drop i) ≤ 20000000000 →
   g4i (p,stL x v v.Items.length,(v.Items.length:Int),(i:Int),ts,v,acc)=some (acc++(valls ts x v.ID i (v.Items.drop i)).filterMap (sel ts p))
 | 0,i,acc,hi,ha=>by
   rw[g4i.eq_1,if_neg (by simp;omega),List.drop_eq_nil_of_le (by omega),valls];simp
 | k+1,i,acc,hi,ha=>by
   have hlt:i < v.Items.length:=by omega
   have hw:=gmx hlt;have hle:=gg4 v.Items i;have hkid:=h i hlt (p++[stN x v i]) (by rw[List.length_append];show p.length+1+_≤_;omega);have hlen:((vall ts (stT x v i) (v.Items.getD i dSValue)).filterMap (sel ts (p++[stN x v i]))).length≤wt (v.Items.getD i dSValue):=Nat.le_trans (gph _ _) (vall_len _ _)
   rw[g4i.eq_1,if_pos (by simp;omega),if_pos (g6 (by rw[g5y];exact hlt)),g7,gl5 x v hlt];have hcl:g43 8 p=some p:=by unfold g43;rw[if_pos (g9c (by omega) (by omega))]
   simp only[oZ4,oZ3,SValue.ge];rw[if_pos (g6 hlt),hcl];simp only[oZ3];rw[if_pos (g9c (by omega) (by rw[List.length_append];show p.length+1≤_;omega)),hkid];simp only[oZ3];rw[if_pos (g9c (by omega) (by rw[List.length_append];omega)),gp (by omega)]
   have ih:=ghh hl h hp k (i+1) (acc++(vall ts (stT x v i) (v.Items.getD i dSValue)).filterMap (sel ts (p++[stN x v i]))) (by omega) (by rw[List.length_append];omega);rw[ih,gin x v hlt,List.filterMap_append,gux,List.append_assoc]
theorem gov(H:DrOk ts){t:Int}{v:SValue}(hf:vfit ts false t v)(hk:∀i,i < v.Items.length→gkx ts (stT (ts.getD t.toNat dSType) v i) (v.Items.getD i dSValue)) :∀p:List Int,p.length+wt v≤10000000000→g9z ((⟨ts⟩:SSchema),t,v,p)=some ((vall ts t v).filterMap (sel ts p)):=by
 intro p hp;have S:=H.V.sok H.T;obtain⟨l1,l2,l3⟩:=g87 H hf;obtain⟨⟨g1,g2,g3,g4⟩,_⟩:=(g10 _ _ _).1 hf;have hj:t.toNat < ts.length:=by omega
 have hmem:=gg hj dSType;have hst:=gcp S hf (by omega);have hwt:=wt_eq v;obtain⟨sb,s1,s2⟩:=gcb (H.T _ hmem) v;obtain⟨kb,k1,k2⟩:=gkv H.T (x:=ts.getD t.toNat dSType) (v:=v) (by omega) (gkw hf);rw[gak,List.filterMap_cons];generalize hx:ts.getD t.toNat dSType=x at*;have hin:inR t ts.length=true:=by simp[inR];omega
 have hsel:sel ts p (([],t,v):Prt)=if unkB ts x v=true then some p else none:=by
   unfold sel;simp only[hx,List.append_nil]
 have L:=fun acc (ha:acc.length≤1)=>ghh (x:=x) (v:=v) (p:=p) (by omega) hk (by omega) v.Items.length 0 acc (by omega) (by rw[List.drop_zero];omega)
 have L':∀acc:List (List Int),acc.length≤1→g4i (p,stL x v v.Items.length,(v.Items.length:Int),0,ts,v,acc)=some (acc++(valls ts x v.ID 0 v.Items).filterMap (sel ts p)):=fun acc ha=>by
   have:=L acc ha;rw[List.drop_zero]at this;exact this
 have hr:decide (0 < (v.Rest.length:Int))=decide (v.Rest≠[]):=by
   cases v.Rest with
   | nil=>rfl
   | cons a l=>simp
 have hb:unkB ts x v=(decide (v.Rest≠[]) || sb || kb):=by
   rw[Bool.eq_iff_iff,gbz];unfold Unk;rw[←s2,←k2];cases sb <;> cases kb <;> simp
 rw[g9z,if_pos hin];simp only[oZ4,oZ3,SValue.ge,hx];rw[hr,hsel,hb,s1,k1];have e1:(if(!decide (v.Rest≠[]))=true then some sb else some false)=some (!decide (v.Rest≠[]) && sb):=by cases decide (v.Rest≠[]) <;> rfl
 rw[e1];simp only[oZ3];have e2:(if(!(bif decide (v.Rest≠[])then true else !decide (v.Rest≠[]) && sb))=true then some kb else some false)=some (!(decide (v.Rest≠[]) || sb) && kb):=by cases decide (v.Rest≠[]) <;> cases sb <;> rfl
 rw[e2];simp only[oZ3];have e3:(bif bif decide (v.Rest≠[])then true else !decide (v.Rest≠[]) && sb then true else !(decide (v.Rest≠[]) || sb) && kb)=(decide (v.Rest≠[]) || sb || kb):=by cases decide (v.Rest≠[]) <;> cases sb <;> cases kb <;> rfl
 rw[e3];cases hc:(decide (v.Rest≠[]) || sb || kb)with
 | true=>
   rw[if_pos rfl,if_pos (g9c (by omega) (by simp)),hst];simp only[oZ3,g5y];rw[L' [p] (by simp)];rfl
 | false=>
   rw[if_neg (by simp),hst];simp only[oZ3,g5y];rw[L' [] (by simp)];rfl
theorem gzf(H:DrOk ts){v:SValue}(hv:OkV v) :∀t,vfit ts false t v→gkx ts t v:=by
 induction hv with
 | mk v hs h1 h2 h3 hk hi hrd n1 n2 n3 n4 ihk ihi=>
   intro t hf;exact gli H hf fun i hi'=>ihi _ (gg hi' dSValue) _ (g72 hf i hi')
theorem gzg(H:DrOk ts){t:Int}{v:SValue}(hv:OkV v)(hf:vfit ts false t v)(hw:wt v≤10000000000) :g9z ((⟨ts⟩:SSchema),t,v,[])=some ((vall ts t v).filterMap (sel ts [])):=by
 cases hv with
 | mk v hs h1 h2 h3 hk hi hrd n1 n2 n3 n4=>
 exact gov H hf (fun i hi'=>gzf H (hi _ (gg hi' dSValue)) _ (g72 hf i hi')) [] (by simpa using hw)
end
end
section
open Go Go.Proofs.YtijpinendaoleaaGreat.Shv Go.Sort
set_option maxRecDepth 100000
section
variable {ts:List SType}
theorem gt0{x:SType}(hm:MAsc x.Members)(hl:x.Members.length≤1000){id:Int}{m:SMember}(hF:findM x.Members id=some m) :∃j,j < x.Members.length∧g1c (x,id)=some ((j:Int),true)∧x.Members.getD j dSMember=m:=by
 obtain⟨j,j1,j2,j3⟩:=gmc hm hl hF;obtain⟨r,r1,r2,_⟩:=g6m (t:=x) id (by omega);refine⟨j,j1,?_,j3⟩;rw[r2,←r1,j2]
theorem g10r{x:SType}(hm:MAsc x.Members)(hl:x.Members.length≤1000){i:Nat}(hi:i < x.Members.length) :g1c (x,(x.Members.getD i dSMember).ID)=some ((i:Int),true):=by
 have hM:=gg hi dSMember;obtain⟨r,r1,r2⟩:=ghd (t:=x) (id:=(x.Members.getD i dSMember).ID) (by omega);rw[r1];rcases r2 with⟨j,h1,h2,h3,rfl⟩ | ⟨h1,_⟩
 · have:j=i:=by
     rw[gk h1,gk hi]at h2;rcases Nat.lt_trichotomy j i with h | h | h
     · have:=List.pairwise_iff_getElem.1 hm.1 j i h1 hi h;omega
     · exact h
     · exact absurd rfl (h3 i h)
   rw[this]
 · exact absurd rfl (h1 i hi)
mutual
theorem vall_path(t:Int) :∀(v:SValue) (q:Prt),q∈vall ts t v→q.1.length≤wt v
 | ⟨k,b,i,s,id,ks,is,r⟩,q,hq=>by
   rw[vall]at hq;rw[wt];rcases List.mem_cons.1 hq with rfl | hq
   · exact Nat.zero_le _
   · have:=valls_path _ _ _ is q hq;omega
theorem valls_path(x:SType)(id:Int)(i:Nat) :∀(l:List SValue) (q:Prt),q∈valls ts x id i l→q.1.length≤wts l
 | [],q,hq=>by rw[valls]at hq;cases hq
 | v::l,q,hq=>by
   rw[valls]at hq;rw[wts];rcases List.mem_append.1 hq with hq | hq
   · obtain⟨w,hw,rfl⟩:=List.mem_map.1 hq;have h1:=vall_path' _ v w hw;show w.1.length+1≤_;omega
   · have:=valls_path x id (i+1) l q hq;omega
theorem vall_path'(t:Int) :∀(v:SValue) (q:Prt),q∈vall ts t v→q.1.length+1≤wt v
 | ⟨k,b,i,s,id,ks,is,r⟩,q,hq=>by
   rw[vall]at hq;rw[wt];rcases List.mem_cons.1 hq with rfl | hq
   · show 0+1≤_;omega
   · have:=valls_path _ _ _ is q hq;omega
end
theorem gfm{x:SType}{id:Int} :∀{l:List SValue} {i:Nat} {q:Prt},q∈valls ts x id i l→∃j,j < l.length∧∃w,w∈vall ts (stTi x id (i+j)) (l.getD j dSValue)∧q=(stNi x id (i+j)::w.1,w.2)
 | [],i,q,hq=>by rw[valls]at hq;cases hq
 | v::l,i,q,hq=>by
   rw[valls]at hq;rcases List.mem_append.1 hq with hq | hq
   · obtain⟨w,hw,rfl⟩:=List.mem_map.1 hq;exact⟨0,by simp,w,hw,rfl⟩
   · obtain⟨j,j1,w,w1,w2⟩:=gfm hq;refine⟨j+1,by simp;omega,w,?_,?_⟩
     · rw[show i+(j+1)=i+1+j from by omega];exact w1
     · rw[show i+(j+1)=i+1+j from by omega];exact w2
theorem gqf{x:SType}{id:Int} :∀{l:List SValue} {i j:Nat} {w:Prt},j < l.length→w∈vall ts (stTi x id (i+j)) (l.getD j dSValue)→(stNi x id (i+j)::w.1,w.2)∈valls ts x id i l
 | v::l,i,0,w,_,hw=>by
   rw[valls];exact List.mem_append_left _ (List.mem_map.2 ⟨w,hw,rfl⟩)
 | v::l,i,j+1,w,hj,hw=>by
   rw[valls];have e:i+(j+1)=i+1+j:=by omega
   rw[e]at hw ⊢;exact List.mem_append_right _ (gqf (by simpa using hj) hw)
theorem gt1{pl:Bool}{v:SValue}(hv:OkV v) :∀t,vfit ts pl t v→∀q,q∈vall ts t v→vfit ts pl q.2.1 q.2.2∧OkV q.2.2:=by
 induction hv with
 | mk v hs h1 h2 h3 hk hi hrd n1 n2 n3 n4 ihk ihi=>
   intro t hf q hq;rw[gak]at hq;rcases List.mem_cons.1 hq with rfl | hq
   · exact⟨hf,.mk v hs h1 h2 h3 hk hi hrd n1 n2 n3 n4⟩
   · obtain⟨j,j1,w,w1,rfl⟩:=gfm hq;rw[Nat.zero_add]at w1;exact ihi _ (gg j1 dSValue) _ (g72 hf j j1) w w1
theorem gt2 {n i5 : Int} {v : SValue} {x : SType} {l : List (List Int)} (hq : ∀ q, q ∈ l → q.length ≤ 10000000000) (hL : l.length ≤ 50000000000) : ∀ (k i : Nat) (acc : List (List Int)), i + k = l.length → acc.length + k ≤ 50000000000 →
   g1s (i5,n,l,(i:Int),ts,v,acc,x)=some (i5,ts,v,acc++(l.drop i).map (fun q=>n::q),x)
 | 0,i,acc,hi,ha=>by
   rw[g1s,if_neg (by simp;omega),List.drop_eq_nil_of_le (by omega)];simp[SValue.ge]
 | k+1,i,acc,hi,ha=>by
   have hlt:i < l.length:=by omega
   have h1:=hq _ (gg hlt []);rw[g1s,if_pos (by simp;omega),if_pos (g6 hlt),g7];simp only[oZ4,oZ3,SValue.ge];rw[if_pos (g9c (by omega) (by rw[List.length_append];show 1+_≤_;omega)),if_pos (g9c (by omega) (by rw[List.length_append];show acc.length+1≤_;omega)),gp (by omega)]
   have ih:=gt2 (n:=n) (i5:=i5) (v:=v) (x:=x) hq hL k (i+1) (acc++[n::l.getD i []]) (by omega) (by rw[List.length_append];show acc.length+1+k≤_;omega);have e:([n]++l.getD i []:List Int)=n::l.getD i []:=rfl;rw[e,ih,List.drop_eq_getElem_cons hlt,List.map_cons,gk hlt,List.append_assoc];rfl
def ghi(ts:List SType)(t:Int)(v:SValue) :Prop:=g3s ((⟨ts⟩:SSchema),t,v)=some ((vall ts t v).map Prod.fst)
theorem gt3 {x : SType} {v : SValue} (hl : v.Items.length ≤ 1000) (h5 : x.Kind = 5 → v.Items.length ≤ x.Members.length) (h6 : x.Kind = 6 → 0 < v.Items.length → ∃ m, findM x.Members v.ID = some m) (hA : x.Kind = 6 → MAsc x.Members ∧ x.Members.length ≤ 16)
   (h:∀i,i < v.Items.length→ghi ts (stT x v i) (v.Items.getD i dSValue)) (hw:wts v.Items≤5000000000):∀(k i:Nat) (acc:List (List Int)),i+k=v.Items.length→acc.length+wts (v.Items.drop i)≤20000000000→
   g26 ((i:Int),ts,v,acc,x)=some (acc++(valls ts x v.ID i (v.Items.drop i)).map Prod.fst)
 | 0,i,acc,hi,ha=>by
   rw[g26,if_neg (by simp;omega),List.drop_eq_nil_of_le (by omega),valls];simp
 | k+1,i,acc,hi,ha=>by
   have hlt:i < v.Items.length:=by omega
   have hwd:=gmx hlt;have hle:=gg4 v.Items i;have hkid:=h i hlt;unfold ghi at hkid;have hlen:((vall ts (stT x v i) (v.Items.getD i dSValue)).map Prod.fst).length≤wt (v.Items.getD i dSValue):=by rw[List.length_map];exact vall_len _ _
   have hin:=fun(n:Int)=>gt2 (ts:=ts) (n:=n) (i5:=(i:Int)) (v:=v) (x:=x) (l:=(vall ts (stT x v i) (v.Items.getD i dSValue)).map Prod.fst) (fun q hq=>by
     obtain⟨w,hw',rfl⟩:=List.mem_map.1 hq;have:=vall_path _ _ _ hw'
     omega) (by omega) _ 0 acc (Nat.zero_add _) (by omega)
   have ih:=gt3 hl h5 h6 hA h hw k (i+1) (acc++((vall ts (stT x v i) (v.Items.getD i dSValue)).map Prod.fst).map (fun q=>stN x v i::q)) (by omega) (by rw[List.length_append,List.length_map];omega)
   have hgo:∀T N,T=stT x v i→N=stN x v i→(g3s ((⟨ts⟩:SSchema),T,v.Items.getD i dSValue) >>=fun r=>g1s ((i:Int),N,r,0,ts,v,acc,x) >>=fun o=>g26 (addI .i64 o.1 1,o.2.1,o.2.2.1,o.2.2.2.1,o.2.2.2.2))=some (acc++(valls ts x v.ID i (v.Items.drop i)).map Prod.fst):=by
     intro T N hT hN;rw[hT,hN,hkid];simp only[oZ4,oZ3];have h0:=hin (stN x v i);rw[List.drop_zero]at h0;have h0':g1s ((i:Int),stN x v i,(vall ts (stT x v i) (v.Items.getD i dSValue)).map Prod.fst,0,ts,v,acc,x)=_:=h0;rw[h0'];simp only[oZ3];rw[gp (by omega),ih,gin x v hlt,List.map_append,List.append_assoc]
     simp[List.map_map,Function.comp_def]
   rw[g26,if_pos (by simp;omega)];simp only[SValue.ge];by_cases k5:x.Kind=5
   · have hlm:i < x.Members.length:=by have:=h5 k5;omega
     rw[if_pos (by simp[k5]),if_pos (g6 hlm),if_pos (g6 hlm),if_neg (by simp[k5]),if_pos (g6 hlt),g7];exact hgo _ _ (by unfold stT;rw[if_pos k5]) (by unfold stN;rw[if_pos k5])
   · rw[if_neg (by simp[k5])];by_cases k6:x.Kind=6
     · obtain⟨m,hF⟩:=h6 k6 (by omega);obtain⟨j,j1,j2,j3⟩:=gt0 (hA k6).1 (by have:=(hA k6).2;omega) hF;rw[if_pos (by simp[k6]),j2];simp only[oZ4,oZ3];rw[if_pos (g6 j1),if_pos (g6 hlt),g7,g7,j3];exact hgo _ _ (by unfold stT;rw[if_neg k5,if_pos k6,hF];rfl) (by unfold stN;rw[if_neg k5,if_pos k6])
     · rw[if_neg (by simp[k6]),if_pos (g6 hlt),g7];exact hgo _ _ (by unfold stT;rw[if_neg k5,if_neg k6]) (by unfold stN;rw[if_neg k5,if_neg k6])
end
end
section
open Go Go.Proofs.YtijpinendaoleaaGreat.Shv Go.Sort
set_option maxRecDepth 100000
section
variable {ts:List SType}
theorem gzh(H:DrOk ts){v:SValue}(hv:OkV v) :∀t,vfit ts false t v→wt v≤5000000000→ghi ts t v:=by
 have S:=H.V.sok H.T
 induction hv with
 | mk v hs h1 h2 h3 hk hi hrd n1 n2 n3 n4 ihk ihi=>
   intro t hf hw;obtain⟨l1,l2,l3⟩:=g87 H hf;obtain⟨⟨g1,g2,g3,g4⟩,hc⟩:=(g10 _ _ _).1 hf;have hmem:=gg (by omega:t.toNat < ts.length) dSType;have hwt:=wt_eq v;have hkids:∀i,i < v.Items.length→ghi ts (stT (ts.getD t.toNat dSType) v i) (v.Items.getD i dSValue):=fun i hi'=>by
     have hm:=gg hi' dSValue;exact ihi _ hm _ (g72 hf i hi') (by have:=gun hm;omega)
   have hin:inR t ts.length=true:=by simp[inR];omega
   unfold ghi;rw[g3s,if_pos hin,gak];generalize hx:ts.getD t.toNat dSType=x at*;simp only[SValue.ge]
   have:=gt3 (x:=x) (v:=v) (by omega) (fun k5=>by
     rcases hc with h | h | h | h | h | h | h | h | h
     case inr.inr.inr.inr.inl=>have:=(g4d.1 h.2.2.2.2.2.2.2).1;omega
     all_goals (have:=h.1;omega)) (fun k6 hpos=>by
     rcases hc with h | h | h | h | h | h | h | h | h
     case inr.inr.inr.inr.inr.inl=>
       obtain⟨a1,a2,a3,a4,a5,a6⟩:=h;split at a6
       · rename_i m hm;exact⟨m,hm⟩
       · rw[a6.2.2.2.1]at hpos;cases hpos
     all_goals (have:=h.1;omega)) (fun k6=>S.A x hmem (.inr k6)) hkids (by omega) v.Items.length 0 [[]] (by omega) (by rw[List.drop_zero];show 1+_≤_;omega)
   rw[List.drop_zero]at this;have h0:g26 (0,ts,v,[[]],x)=_:=this;rw[h0];rfl
theorem at_l0 (S : SOk ts) {z0 z2 z4 : Int} {z1 : Bool} {z3 : List UInt8} {v : SValue} (hv : OkV v) : ∀ t, vfit ts false t v → ∀ q, q ∈ vall ts t v → ∀ pre : List Int, pre.length + q.1.length ≤ 100000000000 →
   g2t (t,pre++q.1,(pre.length:Int),ts,v,z0,z1,z2,z3,z4)=some (.inr (q.2.1,q.2.2,z0,z1,z2,z3,z4)):=by
 induction hv with
 | mk v hs h1 h2 h3 hk hi hrd n1 n2 n3 n4 ihk ihi=>
   intro t hf q hq pre hp;rw[gak]at hq;rcases List.mem_cons.1 hq with rfl | hq
   · rw[g2t,if_neg (by simp)];simp only[SValue.ge]
   · obtain⟨j,j1,w,w1,rfl⟩:=gfm hq;rw[Nat.zero_add]at w1;have hkid:=g72 hf j j1;obtain⟨⟨g1,g2,g3,g4⟩,hc⟩:=(g10 _ _ _).1 hf;have hmem:=gg (by omega:t.toNat < ts.length) dSType;have hin:inR t ts.length=true:=by simp[inR];omega
     generalize hx:ts.getD t.toNat dSType=x at*;rw[Nat.zero_add];generalize hn:stNi x v.ID j=n at*;have hp':pre.length+(w.1.length+1)≤100000000000:=by simpa[Nat.zero_add]using hp
     have ih:=ihi _ (gg j1 dSValue) _ hkid w w1 (pre++[n]) (by rw[List.length_append];show pre.length+1+_≤_;omega);have e1:(pre++[n]:List Int)++w.1=pre++n::w.1:=by simp
     have e2:((pre++[n]:List Int).length:Int)=((pre.length+1:Nat):Int):=by simp
     rw[e1,e2]at ih;have e3:(pre++n::w.1:List Int).getD pre.length 0=n:=by
       rw[List.getD_eq_getElem?_getD,List.getElem?_append_right (Nat.le_refl _),Nat.sub_self];rfl
     rw[g2t,if_pos (by simp;omega),if_pos hin];simp only[oZ4,oZ3,hx,SValue.ge];rw[if_pos (g6 (by simp)),g7,e3,gp (by omega)];have hsN:n=stN x v j:=by rw[stN_i];exact hn.symm
     by_cases k5:x.Kind=5
     · have hA:=S.A x hmem (.inl k5);have hlm:j < x.Members.length:=by
         rcases hc with h | h | h | h | h | h | h | h | h
         case inr.inr.inr.inr.inl=>have:=(g4d.1 h.2.2.2.2.2.2.2).1;omega
         all_goals (have:=h.1;omega)
       have hN:n=(x.Members.getD j dSMember).ID:=by rw[hsN];unfold stN;rw[if_pos k5]
       have hT:(x.Members.getD j dSMember).Type_=stT x v j:=by unfold stT;rw[if_pos k5]
       have hM:=g10r hA.1 (by have:=hA.2;omega) hlm;rw[←hN]at hM;rw[if_pos (by simp[k5]),hM];simp only[oZ3];rw[if_pos trivial,if_pos (g6 hlm),if_neg (by simp),if_pos (g6 j1),g7,hT];exact ih
     · rw[if_neg (by simp[k5])];by_cases k6:x.Kind=6
       · have hA:=S.A x hmem (.inr k6);have hj0:j=0∧∃m,findM x.Members v.ID=some m:=by
           rcases hc with h | h | h | h | h | h | h | h | h
           case inr.inr.inr.inr.inr.inl=>
             obtain⟨a1,a2,a3,a4,a5,a6⟩:=h;split at a6
             · rename_i m hm;exact⟨by have:=a6.2.1;omega,m,hm⟩
             · rw[a6.2.2.2.1]at j1;cases j1
           all_goals (have:=h.1;omega)
         obtain⟨rfl,m,hF⟩:=hj0;obtain⟨j',q1,q2,q3⟩:=gt0 hA.1 (by have:=hA.2;omega) hF;have hN:n=v.ID:=by rw[hsN];unfold stN;rw[if_neg k5,if_pos k6]
         have hT:m.Type_=stT x v 0:=by unfold stT;rw[if_neg k5,if_pos k6,hF];rfl
         have hin0:inR 0 v.Items.length=true:=g6 j1;rw[if_pos (by simp[k6]),hN,q2];simp only[oZ3];rw[if_pos (by simp),if_pos (g6 q1),if_pos hin0,g7,q3,hT,show(0:Int).toNat=0 from rfl,←hN];exact ih
       · rw[if_neg (by simp[k6])];have hN:n=(j:Int):=by rw[hsN];unfold stN;rw[if_neg k5,if_neg k6]
         have hT:x.Elem=stT x v j:=by unfold stT;rw[if_neg k5,if_neg k6]
         have hk:x.Kind=7∨x.Kind=8∨x.Kind=9:=by
           rcases hc with h | h | h | h | h | h | h | h | h
           · rw[h.2.2.2.2.2.1]at j1;cases j1
           · rw[h.2.2.2.2.2.1]at j1;cases j1
           · rw[h.2.2.2.2.2.1]at j1;cases j1
           · rw[h.2.2.2.2.2.1]at j1;cases j1
           all_goals (have:=h.1;omega)
         rw[hN]at ih ⊢;have hb:(bif decide ((0:Int)≤(j:Int))then decide ((j:Int) < (v.Items.length:Int))else false)=true:=by
           have:(j:Int) < (v.Items.length:Int):=by omega
           simp[this]
         rcases hk with hk | hk | hk
         · rw[hk];simp only[Int.reduceEq,decide_true,decide_false,if_true,eq_self,Bool.false_eq_true,if_false];rw[if_pos hb,if_neg (by simp),if_pos (g6 j1),g7,hT];exact ih
         · rw[hk];simp only[Int.reduceEq,decide_true,decide_false,if_true,eq_self,Bool.false_eq_true,if_false];rw[if_pos hb,if_neg (by simp),if_pos (g6 j1),g7,hT];exact ih
         · rw[hk];simp only[Int.reduceEq,decide_true,decide_false,if_true,eq_self,Bool.false_eq_true,if_false];rw[if_pos hb,if_neg (by simp),if_pos (g6 j1),g7,hT];exact ih
theorem g14u(S:SOk ts){t:Int}{v:SValue}(hv:OkV v)(hf:vfit ts false t v){q:Prt}(hq:q∈vall ts t v)(hn:q.1.length≤100000000000) :gbv ((⟨ts⟩:SSchema),t,v,q.1)=some (q.2.2,q.2.1,0):=by
 obtain⟨x,x1,x2⟩:=gad (by have:=S.n;omega) S.T S.K hv t false;have hx:x=true:=x2.2 hf;have hF:g33 ((⟨ts⟩:SSchema),t,v)=some true:=by
   rw[g33];simp only[SValue.ge];rw[x1,hx];rfl
 rw[gbv];simp only[SValue.ge];rw[hF];simp only[oZ4,oZ3];rw[if_neg (by simp)];have:=at_l0 S hv t hf q hq [] (z0:=0) (z1:=false) (z2:=0) (z3:=[]) (z4:=0) (by simpa using hn);have h0:g2t (t,q.1,0,ts,v,0,false,0,[],0)=_:=this;rw[h0];rfl
theorem gdp{x:SType}{v:SValue}{b:Bool}(h:b=true↔Unk ts x v) :unkB ts x v=b:=by
 rw[Bool.eq_iff_iff,gbz];exact h.symm
theorem gwt{x:SType}(hx:OkT x)(v:SValue) :∃r,g3j (x,v.ID)=some r∧((!r.2)=true↔¬(∃y,y∈x.Symbols∧y.ID=v.ID)):=by
 obtain⟨r,_,r1,r2⟩:=ga2 (t:=x) v.ID (by have:=hx.1;have:=g1e (Nat.le_refl reachBytes);omega);refine⟨r,r1,?_⟩;rcases r2 with⟨j,j1,j2,j3,rfl⟩ | ⟨q,rfl⟩
 · simp only[Bool.not_true,Bool.false_eq_true,false_iff];exact fun h=>h ⟨_,gg j1 dSSymbol,j2⟩
 · simp only[Bool.not_false,true_iff];intro⟨y,y1,y2⟩;obtain⟨i,hi,rfl⟩:=List.getElem_of_mem y1;exact absurd y2 (by have:=q i hi;rwa [gk hi]at this)
theorem gt4(S:SOk ts){t:Int}{v:SValue}(hf:vfit ts false t v)(h8:(ts.getD t.toNat dSType).Kind≠8) :g4v ((⟨ts⟩:SSchema),t,v)=some (unkB ts (ts.getD t.toNat dSType) v):=by
 obtain⟨⟨g1,g2,g3,g4⟩,hc⟩:=(g10 _ _ _).1 hf;have hmem:=gg (by omega:t.toNat < ts.length) dSType;have hin:inR t ts.length=true:=by simp[inR];omega
 generalize hx:ts.getD t.toNat dSType=x at*;have hk:v.Keys=[]:=by
   rcases hc with h | h | h | h | h | h | h | h | h
   · exact h.2.2.2.2.1
   · exact h.2.2.2.2.1
   · exact h.2.2.2.2.1
   · exact h.2.2.2.2.1
   · exact h.2.2.2.2.2.1
   · exact h.2.2.2.2.1
   · exact h.2.2.2.2.2.1
   · exact absurd h.1 (by omega)
   · exact h.2.2.2.2.2.1
 have hkk:∀k,k∈v.Keys→Known (ts.getD x.Key.toNat dSType) k:=by rw[hk];intro k h;cases h
 have hr:decide (0 < (v.Rest.length:Int))=true↔v.Rest≠[]:=by
   cases v.Rest with
   | nil=>simp
   | cons a l=>simp
 rw[g4v,if_pos hin];simp only[oZ4,oZ3,hx,SValue.ge];by_cases k5:x.Kind=5
 · rw[k5];simp only[Int.reduceEq,decide_true,decide_false,if_true,eq_self,Bool.false_eq_true,if_false];rw[gdp (b:=decide (0 < (v.Rest.length:Int)))];unfold Unk Known;rw[hr];exact⟨.inl,fun h=>h.elim id fun h=>h.elim (fun h=>absurd (fun k=>absurd k (by omega)) h) fun h=>absurd hkk h⟩
 · by_cases k6:x.Kind=6
   · rw[k6];simp only[Int.reduceEq,decide_true,decide_false,if_true,eq_self,Bool.false_eq_true,if_false];rw[gdp (b:=decide (0 < (v.Rest.length:Int)))];unfold Unk Known;rw[hr];exact⟨.inl,fun h=>h.elim id fun h=>h.elim (fun h=>absurd (fun k=>absurd k (by omega)) h) fun h=>absurd hkk h⟩
   · have hrest:v.Rest=[]:=by
       rcases hc with h | h | h | h | h | h | h | h | h
       · exact h.2.2.2.2.2.2
       · exact h.2.2.2.2.2.2.1
       · exact h.2.2.2.2.2.2.1
       · exact h.2.2.2.2.2.2.1
       · exact absurd h.1 (by omega)
       · exact absurd h.1 (by omega)
       · exact h.2.2.2.2.2.2.1
       · exact absurd h.1 (by omega)
       · exact h.2.2.2.2.2.2.1
     have n5:decide (x.Kind=5)=false:=by simp[k5]
     have n6:decide (x.Kind=6)=false:=by simp[k6]
     have n8:decide (x.Kind=8)=false:=by simp[h8]
     simp only[n5,n6,n8,Bool.false_eq_true,if_false];by_cases k4:x.Kind=4
     · obtain⟨r,r1,r2⟩:=gwt (S.T x hmem) v;rw[if_pos (by simp[k4]),r1];simp only[oZ3];rw[gdp (b:=!r.2)];rw[r2];unfold Unk Known;exact⟨fun h=>.inr (.inl fun k=>h (k k4)),fun h=>h.elim (fun h=>absurd hrest h) fun h=>h.elim (fun h h'=>h fun _=>h') fun h=>absurd hkk h⟩
     · rw[if_neg (by simp[k4])];rw[gdp (b:=false)];unfold Unk Known;simp only[Bool.false_eq_true,false_iff];exact fun h=>h.elim (fun h=>absurd hrest h) fun h=>h.elim (fun h=>absurd (fun k=>absurd k k4) h) fun h=>absurd hkk h
theorem guy{x:SType}{k:SValue}{t:Int}(hf:vfit ts false t k)(h1:1≤(ts.getD t.toNat dSType).Kind∧(ts.getD t.toNat dSType).Kind≤4) :unkB ts (ts.getD t.toNat dSType) k=true↔¬Known (ts.getD t.toNat dSType) k:=by
 obtain⟨⟨g1,g2,g3,g4⟩,hc⟩:=(g10 _ _ _).1 hf;rw[gbz];unfold Unk;have hr:k.Rest=[]∧k.Keys=[]:=by
   rcases hc with h | h | h | h | h | h | h | h | h
   · exact⟨h.2.2.2.2.2.2,h.2.2.2.2.1⟩
   · exact⟨h.2.2.2.2.2.2.1,h.2.2.2.2.1⟩
   · exact⟨h.2.2.2.2.2.2.1,h.2.2.2.2.1⟩
   · exact⟨h.2.2.2.2.2.2.1,h.2.2.2.2.1⟩
   all_goals (have:=h.1;omega)
 rw[hr.1,hr.2];simp
theorem g11p(S:SOk ts){t:Int}{v:SValue}(hv:OkV v)(hf:vfit ts false t v) :g4v ((⟨ts⟩:SSchema),t,v)=some (unkB ts (ts.getD t.toNat dSType) v):=by
 by_cases h8:(ts.getD t.toNat dSType).Kind=8
 · obtain⟨⟨g1,g2,g3,g4⟩,hc⟩:=(g10 _ _ _).1 hf;have hmem:=gg (by omega:t.toNat < ts.length) dSType;have hin:inR t ts.length=true:=by simp[inR];omega
   have hKy:=S.Ky _ hmem h8;generalize hx:ts.getD t.toNat dSType=x at*;have hfacts:v.Rest=[]∧vfits ts false x.Key v.Keys:=by
     rcases hc with h | h | h | h | h | h | h | h | h
     case inr.inr.inr.inr.inr.inr.inr.inl=>exact⟨h.2.2.2.2.2.1,h.2.2.2.2.2.2.2.2.1⟩
     all_goals (have:=h.1;omega)
   obtain⟨hrest,hks⟩:=hfacts;have hlen:v.Keys.length < 9223372036854775807:=by
     cases hv with
     | mk v hs h1=>exact g1e h1
   have h:=g89 (fun i=>g2l ((i:Int),ts,v,x)) v.Keys.length (fun i=>unkB ts (ts.getD x.Key.toNat dSType) (v.Keys.getD i dSValue)) (fun _=>.inl true) (.inr ())
     (fun i hi=>by
       have hki:=g1q.1 hks _ (gg hi dSValue);rw[g2l,if_pos (by simp;omega),if_pos (g6 hi),g7,gp (by omega)];simp only[SValue.ge];rw[gt4 S hki (by omega)]
       rfl)
     (by rw[g2l,if_neg (by simp)])
   have e0:g2l (((0:Nat):Int),ts,v,x)=g2l (0,ts,v,x):=rfl;simp only[e0]at h;rw[g4v,if_pos hin];simp only[oZ4,oZ3,hx,SValue.ge];rw[h8];simp only[Int.reduceEq,decide_true,decide_false,if_true,eq_self,Bool.false_eq_true,if_false];rcases h with⟨j,j1,j2,_,j4⟩ | ⟨j1,j4⟩
   · rw[j4,gdp (b:=true)]
     · rfl
     · simp only[true_iff];have hkj:=g1q.1 hks _ (gg j1 dSValue);exact .inr (.inr fun hall=>(guy (x:=x) hkj hKy).1 j2 (hall _ (gg j1 dSValue)))
   · rw[j4,gdp (b:=false)]
     · rfl
     · simp only[Bool.false_eq_true,false_iff];intro h;rcases h with h | h | h
       · exact h hrest
       · exact h fun k4=>absurd k4 (by omega)
       · refine h fun k hk=>?_
         obtain⟨i,hi,rfl⟩:=List.getElem_of_mem hk;have hki:=g1q.1 hks _ hk;have:=j1 i hi;rw[gk hi]at this;exact Classical.byContradiction fun hn=>by
           have:=(guy (x:=x) hki hKy).2 hn;simp_all
 · exact gt4 S hf h8
theorem gew (S : SOk ts) {t : Int} {v : SValue} (hv : OkV v) (hf : vfit ts false t v) (hw : wt v ≤ 5000000000) : ∀ (k i : Nat) (acc : List (List Int)), i + k = (vall ts t v).length → acc.length + k ≤ 50000000000 →
   g3o (t,(vall ts t v).map Prod.fst,(i:Int),ts,v,acc)=some (acc++((vall ts t v).drop i).filterMap (sel ts []))
 | 0,i,acc,hi,ha=>by
   rw[g3o,if_neg (by simp;omega),List.drop_eq_nil_of_le (by omega)];simp
 | k+1,i,acc,hi,ha=>by
   have hlt:i < (vall ts t v).length:=by omega
   have hltm:i < ((vall ts t v).map Prod.fst).length:=by rw[List.length_map];exact hlt
   have hlen:=vall_len (ts:=ts) t v;have hq:(vall ts t v)[i]∈vall ts t v:=List.getElem_mem hlt;obtain⟨f1,f2⟩:=gt1 hv t hf _ hq;have hpath:=vall_path t v _ hq;have e1:((vall ts t v).map Prod.fst).getD i []=(vall ts t v)[i].1:=by rw[gk hltm];simp
   rw[g3o,if_pos (by rw[List.length_map];simp;omega),if_pos (g6 hltm),g7,e1];simp only[SValue.ge];rw[g14u S hv hf hq (by omega)];simp only[oZ4,oZ3,SValue.ge];rw[g11p S f2 f1];simp only[oZ3];rw[gp (by omega),List.drop_eq_getElem_cons hlt,List.filterMap_cons]
   have hs:sel ts [] (vall ts t v)[i]=if unkB ts (ts.getD (vall ts t v)[i].2.1.toNat dSType) (vall ts t v)[i].2.2=true then some (vall ts t v)[i].1 else none:=by unfold sel;rfl
   rw[hs];cases hb:unkB ts (ts.getD (vall ts t v)[i].2.1.toNat dSType) (vall ts t v)[i].2.2 with
   | true=>
     rw[if_pos rfl,if_pos (g6 hltm),if_pos (g9c (by omega) (by rw[List.length_append];show acc.length+1≤_;omega)),if_pos rfl];rw[gew S hv hf hw k (i+1) (acc++[(vall ts t v)[i].1]) (by omega) (by rw[List.length_append];show acc.length+1+k≤_;omega),List.append_assoc];rfl
   | false=>
     rw[if_neg (by simp),if_neg (by simp)];exact gew S hv hf hw k (i+1) acc (by omega) (by omega)
theorem gzi{v:SValue}{t:Int}(hv:OkV v)(hf:vfit ts true t v) :∀q,q∈vall ts t v→¬Unk ts (ts.getD q.2.1.toNat dSType) q.2.2:=by
 intro q hq h;obtain⟨f1,_⟩:=gt1 hv t hf q hq;obtain⟨⟨_,_,_,g4⟩,hc⟩:=(g10 _ _ _).1 f1;rcases h with h | h | h
 · exact h (g4 rfl)
 · exact h (gfl f1)
 · refine h fun k hk=>?_
   rcases hc with h | h | h | h | h | h | h | h | h
   · have:=h.2.2.2.2.1;rw[this]at hk;cases hk
   · have:=h.2.2.2.2.1;rw[this]at hk;cases hk
   · have:=h.2.2.2.2.1;rw[this]at hk;cases hk
   · have:=h.2.2.2.2.1;rw[this]at hk;cases hk
   · have:=h.2.2.2.2.2.1;rw[this]at hk;cases hk
   · have:=h.2.2.2.2.1;rw[this]at hk;cases hk
   · have:=h.2.2.2.2.2.1;rw[this]at hk;cases hk
   · exact gfl (g1q.1 h.2.2.2.2.2.2.2.2.1 _ hk)
   · have:=h.2.2.2.2.2.1;rw[this]at hk;cases hk
end
theorem gky{ts:List SType}(H:DrOk ts){t:Int}{v:SValue}(hv:OkV v)(hf:vfit ts false t v) :g5o ((⟨ts⟩:SSchema),t,v)=some 0:=by
 have S:=H.V.sok H.T;obtain⟨v1,_⟩:=gkt H.T H.V;obtain⟨⟨g1,g2,_⟩,_⟩:=(g10 _ _ _).1 hf;have ho:¬(bif decide (t < 0)then true else decide ((ts.length:Int)≤t))=true:=by
   have h1:¬t < 0:=by omega
   have h2:¬(ts.length:Int)≤t:=by omega
   simp[h1,h2]
 have hx:g77 ((⟨ts⟩:SSchema),t)=some 0:=by
   rw[g77];simp only[g9q];rw[v1];simp only[oZ4,oZ3];rw[if_neg (by simp),if_neg ho]
 have hF:g5i ((⟨ts⟩:SSchema),t,v)=some true:=by
   obtain⟨q,p1,p2⟩:=gco (by have:=S.n;omega) H.T S.K hv t false;obtain⟨x,x1,x2⟩:=gad (by have:=S.n;omega) H.T S.K hv t false;have ex:x=q:=by rw[p2]at x1;exact(Option.some.inj x1).symm
   have hq:q=true:=by rw[←ex];exact x2.2 hf
   rw[g5i];simp only[SValue.ge];rw[p1,hq];rfl
 rw[g5o];simp only[SValue.ge];rw[hx];simp only[oZ4,oZ3];rw[if_neg (by simp),hF];rfl
noncomputable def prtA (ts:List SType) (t:Int) (v:SValue):List (List Int):=(vall ts t v).filterMap (sel ts [])
theorem gow {ts : List SType} (H : DrOk ts) {t : Int} {v : SValue} (hv : OkV v) (hf : vfit ts false t v) (hw : wt v ≤ 5000000000) :
   ga0 ((⟨ts⟩:SSchema),t,v)=some (prtA ts t v,0)∧gd2 ((⟨ts⟩:SSchema),t,v)=some (prtA ts t v,0):=by
 have S:=H.V.sok H.T;obtain⟨_,e2⟩:=gim H.T H.V hv hf;constructor
 · rw[ga0];simp only[SValue.ge];rw[gky H hv hf];simp only[oZ4,oZ3];rw[if_neg (by simp),gzg H hv hf (by omega)];rfl
 · rw[gd2];simp only[SValue.ge];rw[e2];simp only[oZ4,oZ3];have hp:=gzh H hv t hf hw;unfold ghi at hp;have hl:=vall_len (ts:=ts) t v;have hr:=gew S hv hf hw _ 0 [] (Nat.zero_add _) (by rw[List.length_nil];omega);rw[List.drop_zero,List.nil_append]at hr;have hr':g3o (t,(vall ts t v).map Prod.fst,0,ts,v,[])=_:=hr;rw[if_neg (by simp),hp]
   simp only[oZ3];rw[hr'];rfl
end
section
open Go Go.Proofs.YtijpinendaoleaaGreat.Shv Go.Sort
set_option maxRecDepth 100000
mutual
def vcarry(o:SValue) :SValue→SValue
 | ⟨k,b,i,s,id,ks,is,r⟩=>
   if k=5 then⟨k,b,i,s,id,ks,vcarrys o.Items is,o.Rest⟩
   else if(k=6∨k=9)∧o.ID=id∧o.Items.length=1∧is.length=1 then⟨k,b,i,s,id,ks,vcarrys o.Items is,r⟩
   else⟨k,b,i,s,id,ks,is,r⟩
def vcarrys(os:List SValue) :List SValue→List SValue
 | []=>[]
 | v::l=>vcarry (os.getD 0 dSValue) v::vcarrys os.tail l
end
theorem g3a :∀(os is:List SValue),(vcarrys os is).length=is.length
 | os,[]=>by rw[vcarrys]
 | os,v::l=>by rw[vcarrys,List.length_cons,g3a os.tail l,List.length_cons]
theorem g6j :∀(os is:List SValue) (j:Nat),j < is.length→(vcarrys os is).getD j dSValue=vcarry (os.getD j dSValue) (is.getD j dSValue)
 | os,v::l,0,_=>by rw[vcarrys];rfl
 | os,v::l,j+1,h=>by
   rw[vcarrys,List.getD_cons_succ,List.getD_cons_succ,g6j os.tail l j (by simpa using h)];cases os with
   | nil=>rfl
   | cons a tl=>rfl
def CM(x:SType)(o v:SValue) :Prop:=x.Kind=5∨((x.Kind=6∨x.Kind=9)∧o.ID=v.ID∧o.Items.length=1∧v.Items.length=1)
theorem g9d{x:SType}{o v:SValue}(hk:v.Kind=x.Kind)(h:CM x o v) :vcarry o v=⟨v.Kind,v.Bool_,v.Int_,v.Str,v.ID,v.Keys,vcarrys o.Items v.Items,if v.Kind=5 then o.Rest else v.Rest⟩:=by
 cases v with
 | mk k b i s id ks is r=>
   have hk:k=x.Kind:=hk;rw[vcarry];rcases h with h | h
   · have h5:k=5:=by omega
     rw[if_pos h5,if_pos h5]
   · have h5:¬k=5:=by omega
     rw[if_neg h5,if_pos ⟨by omega,h.2⟩,if_neg h5]
theorem gaf{x:SType}{o v:SValue}(hk:v.Kind=x.Kind)(h:¬CM x o v) :vcarry o v=v:=by
 cases v with
 | mk k b i s id ks is r=>
   have hk:k=x.Kind:=hk;rw[vcarry,if_neg (fun h5=>h (.inl (by omega))),if_neg (fun h6=>h (.inr ⟨by omega,h6.2⟩))]
section
variable {ts:List SType}
theorem g9e {P : Int → SValue → SValue → Prop}
   (base:∀t o v,vfit ts false t o→OkV o→vfit ts true t v→OkV v→¬CM (ts.getD t.toNat dSType) o v→P t o v)
   (step:∀t o v,vfit ts false t o→OkV o→vfit ts true t v→OkV v→CM (ts.getD t.toNat dSType) o v→o.Items.length=v.Items.length→(∀i,stT (ts.getD t.toNat dSType) o i=stT (ts.getD t.toNat dSType) v i∧stN (ts.getD t.toNat dSType) o i=stN (ts.getD t.toNat dSType) v i)→(∀i,i < v.Items.length→P (stT (ts.getD t.toNat dSType) v i) (o.Items.getD i dSValue) (v.Items.getD i dSValue))→P t o v)
   {v:SValue} (hv:OkV v):∀t o,vfit ts false t o→OkV o→vfit ts true t v→P t o v:=by
 induction hv with
 | mk v hs h1 h2 h3 hk hi hrd n1 n2 n3 n4 ihk ihi=>
   intro t o hfo hvo hfv;have hvv:OkV v:= .mk v hs h1 h2 h3 hk hi hrd n1 n2 n3 n4;by_cases hc:CM (ts.getD t.toNat dSType) o v
   · obtain⟨⟨_,_,ok,_⟩,oc⟩:=(g10 _ _ _).1 hfo;obtain⟨⟨_,_,vk,_⟩,vc⟩:=(g10 _ _ _).1 hfv;have hlen:o.Items.length=v.Items.length:=by
       rcases hc with hc | hc
       · have h1:o.Items.length=(ts.getD t.toNat dSType).Members.length:=by
           rcases oc with h | h | h | h | h | h | h | h | h
           case inr.inr.inr.inr.inl=>exact(g4d.1 h.2.2.2.2.2.2.2).1
           all_goals (have:=h.1;omega)
         have h2:v.Items.length=(ts.getD t.toNat dSType).Members.length:=by
           rcases vc with h | h | h | h | h | h | h | h | h
           case inr.inr.inr.inr.inl=>exact(g4d.1 h.2.2.2.2.2.2.2).1
           all_goals (have:=h.1;omega)
         omega
       · omega
     have hst:∀i,stT (ts.getD t.toNat dSType) o i=stT (ts.getD t.toNat dSType) v i∧stN (ts.getD t.toNat dSType) o i=stN (ts.getD t.toNat dSType) v i:=by
       intro i;unfold stT stN;rcases hc with hc | hc
       · rw[if_pos hc,if_pos hc,if_pos hc,if_pos hc];exact⟨rfl,rfl⟩
       · rw[hc.2.1];exact⟨rfl,rfl⟩
     refine step t o v hfo hvo hfv hvv hc hlen hst fun i hi'=>?_
     have ho:i < o.Items.length:=by omega
     have k1:=g72 hfo i ho;rw[(hst i).1]at k1;have hoi:OkV (o.Items.getD i dSValue):=by
       cases hvo with
       | mk o _ _ _ _ _ hoi=>exact hoi _ (gg ho dSValue)
     exact ihi _ (gg hi' dSValue) _ _ k1 hoi (g72 hfv i hi')
   · exact base t o v hfo hvo hfv hvv hc
theorem gzj{v:SValue}(hv:OkV v) :∀t o,vfit ts false t o→OkV o→vfit ts true t v→OkV (vcarry o v):=by
 refine g9e (P:=fun _ o v=>OkV (vcarry o v)) (fun t o v hfo hvo hfv hvv hc=>?_) (fun t o v hfo hvo hfv hvv hc hlen hst ih=>?_) hv
 · obtain⟨⟨_,_,vk,_⟩,_⟩:=(g10 _ _ _).1 hfv;rw[gaf vk hc];exact hvv
 · obtain⟨⟨_,_,vk,_⟩,_⟩:=(g10 _ _ _).1 hfv;rw[g9d vk hc];cases hvv with
   | mk v hs h1 h2 h3 hk hi hrd n1 n2 n3 n4=>
     cases hvo with
     | mk o os o1 o2 o3 ok oi ord on1 on2 on3 on4=>
       have hr:∀y,y∈(if v.Kind=5 then o.Rest else v.Rest)→y∈o.Rest∨y∈v.Rest:=fun y hy=>by
         by_cases h5:v.Kind=5
         · rw[if_pos h5]at hy;exact .inl hy
         · rw[if_neg h5]at hy;exact .inr hy
       refine .mk _ hs h1 (by show(vcarrys o.Items v.Items).length≤_;rw[g3a];exact h2) ?_ hk (fun y hy=>?_) (fun y hy=>(hr y hy).elim (ord y) (hrd y)) n1 n2 n3 (fun y hy=>(hr y hy).elim (on4 y) (n4 y))
       · show(if v.Kind=5 then o.Rest else v.Rest).length≤_;by_cases h5:v.Kind=5
         · rw[if_pos h5];exact o3
         · rw[if_neg h5];exact h3
       · obtain⟨i,hi',rfl⟩:=List.getElem_of_mem hy;have hi2:i < v.Items.length:=by rw[←g3a o.Items v.Items];exact hi'
         have:=g6j o.Items v.Items i hi2;rw[gk hi']at this;rw[this];exact ih i hi2
theorem gwu{a b c:List SValue}(h1:b.length=a.length)(h2:c.length=a.length)(h:∀i,i < a.length→wt (a.getD i dSValue)≤wt (b.getD i dSValue)+wt (c.getD i dSValue)) :wts a≤wts b+wts c:=by
 induction a generalizing b c with
 | nil=>rw[g5m];omega
 | cons x a ih=>
   match b,c,h1,h2 with
   | y::b,z::c,h1,h2=>
     rw[g5k,g5k,g5k];have h0:=h 0 (by simp)
     have:=ih (b:=b) (c:=c) (by simpa using h1) (by simpa using h2) (fun i hi=>by
       have:=h (i+1) (by simpa using hi)
       simpa using this)
     have h0':wt x≤wt y+wt z:=h0;omega
theorem g10s{v:SValue}(hv:OkV v) :∀t o,vfit ts false t o→OkV o→vfit ts true t v→wt (vcarry o v)≤wt o+wt v:=by
 refine g9e (P:=fun _ o v=>wt (vcarry o v)≤wt o+wt v) (fun t o v hfo hvo hfv hvv hc=>?_) (fun t o v hfo hvo hfv hvv hc hlen hst ih=>?_) hv
 · obtain⟨⟨_,_,vk,_⟩,_⟩:=(g10 _ _ _).1 hfv;rw[gaf vk hc];omega
 · obtain⟨⟨_,_,vk,vr⟩,_⟩:=(g10 _ _ _).1 hfv;rw[g9d vk hc,wt_eq,wt_eq o,wt_eq v];dsimp only
   have h:=gwu (a:=vcarrys o.Items v.Items) (b:=o.Items) (c:=v.Items) (by rw[g3a];exact hlen) (by rw[g3a]) (fun i hi'=>by
     have hi2:i < v.Items.length:=by rw[←g3a o.Items v.Items];exact hi'
     rw[g6j o.Items v.Items i hi2]
     exact ih i hi2)
   rw[vr rfl];by_cases h5:v.Kind=5
   · rw[if_pos h5];simp only[List.map_nil,List.sum_nil];omega
   · rw[if_neg h5];simp only[List.map_nil,List.sum_nil];omega
theorem gzk{v:SValue}(hv:OkV v) :∀t o,vfit ts false t o→OkV o→vfit ts true t v→vfit ts false t (vcarry o v):=by
 refine g9e (P:=fun t o v=>vfit ts false t (vcarry o v)) (fun t o v hfo hvo hfv hvv hc=>?_) (fun t o v hfo hvo hfv hvv hc hlen hst ih=>?_) hv
 · obtain⟨⟨_,_,vk,_⟩,_⟩:=(g10 _ _ _).1 hfv;rw[gaf vk hc];exact vfit_weak _ _ hfv
 · obtain⟨⟨g1,g2,vk,vr⟩,vc⟩:=(g10 _ _ _).1 hfv;obtain⟨⟨_,_,ok,_⟩,oc⟩:=(g10 _ _ _).1 hfo;rw[g9d vk hc,g10];dsimp only;have hr:=vr rfl;have hall:∀T,(∀i,stT (ts.getD t.toNat dSType) v i=T)→vfits ts false T (vcarrys o.Items v.Items):=fun T hT=>g1q.2 fun y hy=>by
     obtain⟨i,hi',rfl⟩:=List.getElem_of_mem hy;have hi2:i < v.Items.length:=by rw[←g3a o.Items v.Items];exact hi'
     have:=g6j o.Items v.Items i hi2;rw[gk hi']at this;rw[this,←hT i];exact ih i hi2
   generalize hx:ts.getD t.toNat dSType=x at*;refine⟨⟨g1,g2,vk,fun h=>by cases h⟩,?_⟩;rcases vc with h | h | h | h | h | h | h | h | h
   case inr.inr.inr.inr.inl=>
     obtain⟨a1,a2,a3,a4,a5,a6,a7,a8⟩:=h;have hRO:ghg x.Members o.Rest:=by
       rcases oc with h | h | h | h | h | h | h | h | h
       case inr.inr.inr.inr.inl=>exact h.2.2.2.2.2.2.1
       all_goals (have:=h.1;omega)
     have b1:=(g4d.1 a8).1;rw[if_pos a1];refine .inr (.inr (.inr (.inr (.inl ⟨a1,a2,a3,a4,a5,a6,hRO,g4d.2 ⟨by rw[g3a];exact b1,fun i hi'=>?_⟩⟩))));rw[g6j o.Items v.Items i (by omega)];have:=ih i (by omega);unfold stT at this
     rwa [if_pos (by omega)]at this
   case inr.inr.inr.inr.inr.inl=>
     obtain⟨a1,a2,a3,a4,a5,a6⟩:=h;rw[if_neg (by omega)];refine .inr (.inr (.inr (.inr (.inr (.inl ⟨a1,a2,a3,a4,a5,?_⟩)))));cases hF:findM x.Members v.ID with
     | none=>rw[hF]at a6;cases a6.2.1
     | some m=>
       rw[hF]at a6;refine⟨hr,by rw[g3a];exact a6.2.1,hall _ fun i=>?_⟩;unfold stT;rw[if_neg (by omega),if_pos (by omega),hF];rfl
   case inr.inr.inr.inr.inr.inr.inr.inr=>
     obtain⟨a1,a2,a3,a4,a5,a6,a7,a8,a9⟩:=h;rw[if_neg (by omega)];refine .inr (.inr (.inr (.inr (.inr (.inr (.inr (.inr ⟨a1,a2,a3,a4,a5,a6,hr,by rw[g3a];exact a8,hall _ fun i=>?_⟩)))))));unfold stT;rw[if_neg (by omega),if_neg (by omega)]
   all_goals (exfalso;have h1:=h.1;rcases hc with hc | ⟨hc | hc,_⟩ <;> omega)
theorem gtz{v:SValue}(hv:OkV v) :∀t o,vfit ts false t o→OkV o→vfit ts true t v→vstrip (vcarry o v)=v:=by
 refine g9e (P:=fun t o v=>vstrip (vcarry o v)=v) (fun t o v hfo hvo hfv hvv hc=>?_) (fun t o v hfo hvo hfv hvv hc hlen hst ih=>?_) hv
 · obtain⟨⟨_,_,vk,_⟩,_⟩:=(g10 _ _ _).1 hfv;rw[gaf vk hc];exact gty hvv t hfv
 · obtain⟨⟨g1,g2,vk,vr⟩,vc⟩:=(g10 _ _ _).1 hfv;have hr:=vr rfl;have hm:(vcarrys o.Items v.Items).map vstrip=v.Items:=by
     refine List.ext_getElem (by rw[List.length_map,g3a]) fun i a1 a2=>?_
     have h1:=g6j o.Items v.Items i a2;rw[List.length_map]at a1;rw[gk a1]at h1;have h2:=ih i a2;rw[←h1,gk a2]at h2;rw[List.getElem_map];exact h2
   rw[g9d vk hc,g6n];dsimp only;rw[hm];cases v with
   | mk k b i s id ks is r=>
     have hr:r=[]:=hr;subst hr;by_cases h5:k=5
     · simp[h5]
     · simp[h5]
theorem gzl{v:SValue}(hv:OkV v) :∀t o,vfit ts false t o→OkV o→vfit ts true t v→∀q,q∈vall ts t (vcarry o v)→Unk ts (ts.getD q.2.1.toNat dSType) q.2.2→∃q',q'∈vall ts t o∧q'.1=q.1∧Unk ts (ts.getD q'.2.1.toNat dSType) q'.2.2:=by
 refine g9e (P:=fun t o v=>∀q,q∈vall ts t (vcarry o v)→Unk ts (ts.getD q.2.1.toNat dSType) q.2.2→∃q',q'∈vall ts t o∧q'.1=q.1∧Unk ts (ts.getD q'.2.1.toNat dSType) q'.2.2) (fun t o v hfo hvo hfv hvv hc q hq hu=>?_) (fun t o v hfo hvo hfv hvv hc hlen hst ih q hq hu=>?_) hv
 · obtain⟨⟨_,_,vk,_⟩,_⟩:=(g10 _ _ _).1 hfv;rw[gaf vk hc]at hq;exact absurd hu (gzi hvv hfv q hq)
 · obtain⟨⟨g1,g2,vk,vr⟩,vc⟩:=(g10 _ _ _).1 hfv;rw[g9d vk hc,gak]at hq;dsimp only at hq;rcases List.mem_cons.1 hq with rfl | hq
   · refine⟨([],t,o),by rw[gak];exact .head _,rfl,?_⟩;dsimp only at hu;rcases hu with hu | hu | hu
     · dsimp only at hu;by_cases h5:v.Kind=5
       · rw[if_pos h5]at hu;exact .inl hu
       · rw[if_neg h5]at hu;exact absurd (vr rfl) hu
     · refine absurd (fun k4=>?_) hu;rcases hc with hc | ⟨hc | hc,_⟩ <;> omega
     · refine absurd (fun k hk=>?_) hu;dsimp only at hk;have hke:v.Keys=[]:=by
         rcases vc with h | h | h | h | h | h | h | h | h
         · exact h.2.2.2.2.1
         · exact h.2.2.2.2.1
         · exact h.2.2.2.2.1
         · exact h.2.2.2.2.1
         · exact h.2.2.2.2.2.1
         · exact h.2.2.2.2.1
         · exact h.2.2.2.2.2.1
         · exfalso;have h1:=h.1;rcases hc with hc | ⟨hc | hc,_⟩ <;> omega
         · exact h.2.2.2.2.2.1
       rw[hke]at hk;cases hk
   · obtain⟨j,j1,w,w1,rfl⟩:=gfm hq;rw[g3a]at j1;rw[Nat.zero_add]at w1;rw[g6j o.Items v.Items j j1]at w1;obtain⟨w',e1,e2,e3⟩:=ih j j1 w w1 hu;refine⟨(stNi (ts.getD t.toNat dSType) o.ID (0+j)::w'.1,w'.2),?_,?_,e3⟩
     · rw[gak];refine .tail _ (gqf (by omega) ?_);rw[Nat.zero_add,←stT_i,(hst j).1];exact e1
     · have:=(hst j).2;rw[stN_i,stN_i]at this;rw[Nat.zero_add,e2,this]
end
end
section
open Go Go.Proofs.YtijpinendaoleaaGreat.Shv Go.Sort
set_option maxRecDepth 100000
theorem guz{a b:List SValue}(h:a.length=b.length){i:Nat}(hi:i < b.length) :(a.take i++b.drop i).set i (a.getD i dSValue)=a.take (i+1)++b.drop (i+1):=by
 have hia:i < a.length:=by omega
 have h1:(a.take i).length=i:=by simp;omega
 rw[List.set_append_right _ _ (by omega),h1,Nat.sub_self,List.drop_eq_getElem_cons hi,List.set_cons_zero,List.take_add_one,List.getElem?_eq_getElem hia,gk hia,List.append_assoc];rfl
theorem gpi{a b:List SValue}(h:a.length=b.length)(i:Nat) :(a.take i++b.drop i).length=b.length:=by simp;omega
section
variable {ts:List SType}
theorem gkz {o v : SValue} (hl : v.Items.length ≤ 1000) (hlen : o.Items.length = v.Items.length) (h : ∀ i, i < v.Items.length → g1p (o.Items.getD i dSValue, v.Items.getD i dSValue) = some (vcarry (o.Items.getD i dSValue) (v.Items.getD i dSValue))) {z0 z2 z4 a0 a2 a4 : Int} {z1 a1 : Bool} {z3 a3 : List UInt8} {ks : List SValue} {r : List SRaw} : ∀ (k i : Nat), i + k = v.Items.length →
   g34 ((i:Int),o,v,z0,z1,z2,z3,z4,a0,a1,a2,a3,a4,ks,(vcarrys o.Items v.Items).take i++v.Items.drop i,r)=some (z0,z1,z2,z3,z4,a0,a1,a2,a3,a4,ks,vcarrys o.Items v.Items,r)
 | 0,i,hi=>by
   have hc:=g3a o.Items v.Items;rw[g34,gpi hc,if_neg (by simp;omega),List.take_of_length_le (by omega),List.drop_eq_nil_of_le (by omega),List.append_nil]
 | k+1,i,hi=>by
   have hlt:i < v.Items.length:=by omega
   have hc:=g3a o.Items v.Items;rw[g34,gpi hc,if_pos (by simp;omega),if_pos (g6 (by omega)),if_pos (g6 hlt),g7];simp only[SValue.ge];rw[h i hlt];simp only[oZ4,oZ3,SValue.ge];rw[if_pos (g6 hlt),if_pos (by simp;omega),gp (by omega),←g6j o.Items v.Items i hlt,guz hc hlt];exact gkz hl hlen h k (i+1) (by omega)
theorem gox(H:DrOk ts){t:Int}{v:SValue}{pl:Bool}(hf:vfit ts pl t v) :g4c v=some (v.Kind,v.Bool_,v.Int_,v.Str,v.ID,v.Keys,v.Items,v.Rest):=by
 obtain⟨l1,l2,l3⟩:=g87 H hf;rw[g4c];simp only[List.nil_append];rw[if_pos (g2h (by omega) (by omega)),if_pos (g2h (by omega) (by omega)),if_pos (g2h (by omega) (by omega))]
theorem goy{o v:SValue}(h2:v.Items.length=1) :vcarrys o.Items v.Items=v.Items.set 0 (vcarry (o.Items.getD 0 dSValue) (v.Items.getD 0 dSValue)):=by
 match hv:v.Items,h2 with
 | [a],_=>rw[vcarrys,vcarrys];rfl
theorem value_eta'(v:SValue) :(⟨v.Kind,v.Bool_,v.Int_,v.Str,v.ID,v.Keys,v.Items,v.Rest⟩:SValue)=v:=by cases v;rfl
theorem gzm(H:DrOk ts){v:SValue}(hv:OkV v) :∀t o,vfit ts false t o→OkV o→vfit ts true t v→g1p (o,v)=some (vcarry o v):=by
 refine g9e (P:=fun t o v=>g1p (o,v)=some (vcarry o v)) (fun t o v hfo hvo hfv hvv hc=>?_) (fun t o v hfo hvo hfv hvv hc hlen hst ih=>?_) hv
 · obtain⟨⟨_,_,vk,_⟩,_⟩:=(g10 _ _ _).1 hfv;rw[gaf vk hc,g1p];simp only[SValue.ge];rw[gox H hfv];simp only[oZ4,oZ3];have h5:¬v.Kind=5:=fun h=>hc (.inl (by omega))
   rw[if_neg (by simp[h5])];by_cases h6:v.Kind=6∨v.Kind=9
   · have hn:¬(bif bif decide (o.ID=v.ID)then decide ((o.Items.length:Int)=1)else false then decide ((v.Items.length:Int)=1)else false)=true:=by
       intro h;refine hc (.inr ⟨by omega,?_⟩);by_cases i1:o.ID=v.ID <;> by_cases i2:(o.Items.length:Int)=1 <;> by_cases i3:(v.Items.length:Int)=1 <;> simp[i1,i2,i3]at h
       exact⟨i1,by omega,by omega⟩
     by_cases h66:v.Kind=6
     · have e:decide (v.Kind=6)=true:=by simp[h66]
       simp only[e,if_true];rw[if_neg hn,value_eta']
     · have e:decide (v.Kind=6)=false:=by simp[h66]
       have e9:decide (v.Kind=9)=true:=by simp;omega
       simp only[e,e9,if_true,Bool.false_eq_true,if_false];rw[if_neg hn,value_eta']
   · have e:decide (v.Kind=6)=false:=by simp;omega
     have e9:decide (v.Kind=9)=false:=by simp;omega
     simp only[e,e9,Bool.false_eq_true,if_false];rw[value_eta']
 · obtain⟨⟨_,_,vk,_⟩,_⟩:=(g10 _ _ _).1 hfv;obtain⟨l1,l2,l3⟩:=g87 H hfv;obtain⟨_,_,m3⟩:=g87 H hfo;rw[g9d vk hc,g1p];simp only[SValue.ge];rw[gox H hfv];simp only[oZ4,oZ3];by_cases h5:v.Kind=5
   · rw[if_pos (by simp[h5]),if_pos (g2h (by omega) (by simp;omega)),if_pos h5];have L:=gkz (o:=o) (v:=v) (by omega) hlen ih (z0:=0) (z1:=false) (z2:=0) (z3:=[]) (z4:=0) (a0:=v.Kind) (a1:=v.Bool_) (a2:=v.Int_) (a3:=v.Str) (a4:=v.ID) (ks:=v.Keys) (r:=o.Rest) v.Items.length 0 (by omega)
     have L':g34 (0,o,v,0,false,0,[],0,v.Kind,v.Bool_,v.Int_,v.Str,v.ID,v.Keys,v.Items,[]++o.Rest)=_:=L;rw[L'];rfl
   · rw[if_neg (by simp[h5]),if_neg h5];have hcc:(v.Kind=6∨v.Kind=9)∧o.ID=v.ID∧o.Items.length=1∧v.Items.length=1:=by
       rcases hc with hc | hc
       · omega
       · exact⟨by omega,hc.2⟩
     obtain⟨hk,i1,i2,i3⟩:=hcc;have hy:(bif bif decide (o.ID=v.ID)then decide ((o.Items.length:Int)=1)else false then decide ((v.Items.length:Int)=1)else false)=true:=by
       have i2':(o.Items.length:Int)=1:=by omega
       have i3':(v.Items.length:Int)=1:=by omega
       simp[i1,i2',i3']
     have ho:inR 0 o.Items.length=true:=g6 (k:=0) (by omega);have hv0:inR 0 v.Items.length=true:=g6 (k:=0) (by omega);have ih0:=ih 0 (by omega);have hs:decide (0 < v.Items.length)=true:=by rw[i3];rfl
     by_cases h66:v.Kind=6
     · have e:decide (v.Kind=6)=true:=by simp[h66]
       simp only[e,if_true];rw[if_pos hy,if_pos ho,if_pos hv0,show(0:Int).toNat=0 from rfl,ih0];simp only[oZ3,SValue.ge];rw[if_pos hv0,if_pos hs,goy i3]
     · have e:decide (v.Kind=6)=false:=by simp[h66]
       have e9:decide (v.Kind=9)=true:=by simp;omega
       simp only[e,e9,if_true,Bool.false_eq_true,if_false];rw[if_pos hy,if_pos ho,if_pos hv0,show(0:Int).toNat=0 from rfl,ih0];simp only[oZ3,SValue.ge];rw[if_pos hv0,if_pos hs,goy i3]
theorem gex {x : SType} {o v : SValue} (hl : v.Items.length ≤ 1000) (hlen : v.Items.length ≤ o.Items.length) (h : ∀ i, i < v.Items.length → g5e ((⟨ts⟩ : SSchema), stT x v i, o.Items.getD i dSValue, v.Items.getD i dSValue) = some (vcarry (o.Items.getD i dSValue) (v.Items.getD i dSValue))) {z0 z2 z4 a0 a2 a4 : Int} {z1 a1 : Bool} {z3 a3 : List UInt8} {ks : List SValue} {r : List SRaw} : ∀ (k i : Nat), i + k = v.Items.length →
   g3q (stL x v v.Items.length,(v.Items.length:Int),(i:Int),ts,o,v,z0,z1,z2,z3,z4,a0,a1,a2,a3,a4,ks,r,(vcarrys o.Items v.Items).take i++v.Items.drop i)=some (z0,z1,z2,z3,z4,a0,a1,a2,a3,a4,ks,r,vcarrys o.Items v.Items)
 | 0,i,hi=>by
   have hc:=g3a o.Items v.Items;rw[g3q,if_neg (by simp;omega),List.take_of_length_le (by omega),List.drop_eq_nil_of_le (by omega),List.append_nil]
 | k+1,i,hi=>by
   have hlt:i < v.Items.length:=by omega
   have hc:=g3a o.Items v.Items;rw[g3q,if_pos (by simp;omega),if_pos (g6 (by rw[g5y];exact hlt)),if_pos (g6 (by omega)),if_pos (g6 hlt),g7,gl5 x v hlt];simp only[SValue.ge];rw[h i hlt];simp only[oZ4,oZ3,SValue.ge];rw[gpi hc,if_pos (g6 hlt),if_pos (by simp;omega),gp (by omega),←g6j o.Items v.Items i hlt,guz hc hlt]
   exact gex hl hlen h k (i+1) (by omega)
theorem gzn(H:DrOk ts){v:SValue}(hv:OkV v) :∀t o,vfit ts false t o→OkV o→vfit ts true t v→g5e ((⟨ts⟩:SSchema),t,o,v)=some (vcarry o v):=by
 have S:=H.V.sok H.T;refine g9e (P:=fun t o v=>g5e ((⟨ts⟩:SSchema),t,o,v)=some (vcarry o v)) (fun t o v hfo hvo hfv hvv hc=>?_) (fun t o v hfo hvo hfv hvv hc hlen hst ih=>?_) hv
 · obtain⟨⟨g1,g2,vk,vr⟩,vc⟩:=(g10 _ _ _).1 hfv;obtain⟨⟨_,_,ok,_⟩,oc⟩:=(g10 _ _ _).1 hfo;obtain⟨l1,l2,l3⟩:=g87 H hfv;have hin:inR t ts.length=true:=by simp[inR];omega
   have hsteps:=gcp S hfv (by omega);generalize hx:ts.getD t.toNat dSType=x at*;have hcl:g43 120 v.Items=some v.Items:=by unfold g43;rw[if_pos (g2h (by omega) (by omega))]
   rw[gaf vk hc,g5e,if_pos hin];simp only[oZ4,oZ3,SValue.ge,hx];rw[hcl];simp only[oZ3];have h5:¬x.Kind=5:=fun h=>hc (.inl h)
   rw[if_neg (by simp[h5])];by_cases h6:x.Kind=6
   · have hid:¬o.ID=v.ID∨o.Items.length=0:=by
       by_cases hid:o.ID=v.ID
       · right;have hv1:v.Items.length=1:=by
           rcases vc with h | h | h | h | h | h | h | h | h
           case inr.inr.inr.inr.inr.inl=>
             obtain⟨a1,a2,a3,a4,a5,a6⟩:=h;split at a6
             · exact a6.2.1
             · cases a6.2.1
           all_goals (have:=h.1;omega)
         have ho1:o.Items.length=1∨o.Items.length=0:=by
           rcases oc with h | h | h | h | h | h | h | h | h
           case inr.inr.inr.inr.inr.inl=>
             obtain⟨a1,a2,a3,a4,a5,a6⟩:=h;split at a6
             · exact .inl a6.2.1
             · exact .inr (by rw[a6.2.2.2.1];rfl)
           all_goals (have:=h.1;omega)
         rcases ho1 with ho1 | ho1
         · exact absurd (.inr ⟨.inl h6,hid,ho1,hv1⟩) hc
         · exact ho1
       · exact .inl hid
     have hb:(bif (!(decide (o.ID=v.ID)))then true else decide ((o.Items.length:Int)=0))=true:=by
       rcases hid with h | h
       · simp[h]
       · simp[h]
     rw[if_pos (by simp[h6]),if_pos hb,value_eta']
   · rw[if_neg (by simp[h6])];by_cases h9:x.Kind=9
     · rw[if_pos (by simp[h9])];by_cases ho0:o.Items.length=0
       · rw[if_pos (by simp[ho0]),value_eta']
       · have hid:o.ID=v.ID:=by
           have e1:v.ID=0:=by
             rcases vc with h | h | h | h | h | h | h | h | h
             case inr.inr.inr.inr.inr.inr.inr.inr=>exact h.2.2.2.2.1
             all_goals (have:=h.1;omega)
           have e2:o.ID=0:=by
             rcases oc with h | h | h | h | h | h | h | h | h
             case inr.inr.inr.inr.inr.inr.inr.inr=>exact h.2.2.2.2.1
             all_goals (have:=h.1;omega)
           omega
         have ho1:o.Items.length=1:=by
           rcases oc with h | h | h | h | h | h | h | h | h
           case inr.inr.inr.inr.inr.inr.inr.inr=>have:=h.2.2.2.2.2.2.2.1;omega
           all_goals (have:=h.1;omega)
         have hv0:v.Items.length=0:=by
           have:v.Items.length≤1:=by
             rcases vc with h | h | h | h | h | h | h | h | h
             case inr.inr.inr.inr.inr.inr.inr.inr=>exact h.2.2.2.2.2.2.2.1
             all_goals (have:=h.1;omega)
           by_cases h1:v.Items.length=1
           · exact absurd (.inr ⟨.inr h9,hid,ho1,h1⟩) hc
           · omega
         have hve:v.Items=[]:=List.eq_nil_of_length_eq_zero hv0;rw[if_neg (by simp;intro h;rw[h]at ho0;exact ho0 rfl),hsteps];simp only[oZ3,g5y]
         have L:=gex (ts:=ts) (x:=x) (o:=o) (v:=v) (by omega) (by omega) (fun i hi=>by omega) (z0:=0) (z1:=false) (z2:=0) (z3:=[]) (z4:=0) (a0:=v.Kind) (a1:=v.Bool_) (a2:=v.Int_) (a3:=v.Str) (a4:=v.ID) (ks:=v.Keys) (r:=v.Rest) v.Items.length 0 (by omega)
         have L':g3q (stL x v v.Items.length,(v.Items.length:Int),0,ts,o,v,0,false,0,[],0,v.Kind,v.Bool_,v.Int_,v.Str,v.ID,v.Keys,v.Rest,v.Items)=_:=L;rw[L'];simp only[oZ3];have hve2:vcarrys o.Items v.Items=v.Items:=by rw[hve,vcarrys]
         rw[hve2,value_eta']
     · rw[if_neg (by simp[h9]),value_eta']
 · obtain⟨⟨g1,g2,vk,vr⟩,vc⟩:=(g10 _ _ _).1 hfv;obtain⟨l1,l2,l3⟩:=g87 H hfv;obtain⟨_,_,m3⟩:=g87 H hfo;have hin:inR t ts.length=true:=by simp[inR];omega
   have hsteps:=gcp S hfv (by omega);generalize hx:ts.getD t.toNat dSType=x at*;have hcl:g43 120 v.Items=some v.Items:=by unfold g43;rw[if_pos (g2h (by omega) (by omega))]
   have hcr:g43 24 o.Rest=some o.Rest:=by unfold g43;rw[if_pos (g2h (by omega) (by omega))]
   have L:=fun r=>gex (ts:=ts) (x:=x) (o:=o) (v:=v) (by omega) (by omega) ih (z0:=0) (z1:=false) (z2:=0) (z3:=[]) (z4:=0) (a0:=v.Kind) (a1:=v.Bool_) (a2:=v.Int_) (a3:=v.Str) (a4:=v.ID) (ks:=v.Keys) (r:=r) v.Items.length 0 (by omega)
   have L':∀r,g3q (stL x v v.Items.length,(v.Items.length:Int),0,ts,o,v,0,false,0,[],0,v.Kind,v.Bool_,v.Int_,v.Str,v.ID,v.Keys,r,v.Items)=some (0,false,0,[],0,v.Kind,v.Bool_,v.Int_,v.Str,v.ID,v.Keys,r,vcarrys o.Items v.Items):=L;rw[g9d vk hc,g5e,if_pos hin];simp only[oZ4,oZ3,SValue.ge,hx];rw[hcl]
   simp only[oZ3];by_cases h5:x.Kind=5
   · rw[if_pos (by simp[h5]),hcr,hsteps];simp only[oZ3,g5y];rw[L',if_pos (by omega)];rfl
   · have hcc:(x.Kind=6∨x.Kind=9)∧o.ID=v.ID∧o.Items.length=1∧v.Items.length=1:=by
       rcases hc with hc | hc
       · exact absurd hc h5
       · exact hc
     obtain⟨hk,i1,i2,i3⟩:=hcc;rw[if_neg (by simp[h5]),if_neg (show ¬v.Kind=5 by omega)];by_cases h6:x.Kind=6
     · have hb:¬(bif (!(decide (o.ID=v.ID)))then true else decide ((o.Items.length:Int)=0))=true:=by
         simp[i1,i2]
       rw[if_pos (by simp[h6]),if_neg hb,hsteps];simp only[oZ3,g5y];rw[L'];rfl
     · rw[if_neg (by simp[h6]),if_pos (by simp;omega),if_neg (by rw[i2];simp),hsteps];simp only[oZ3,g5y];rw[L'];rfl
end
theorem gwv {ts : List SType} (H : DrOk ts) {t : Int} {o v : SValue} (hvo : OkV o) (hfo : vfit ts false t o) (hv : OkV v) (hfv : vfit ts true t v) :
   gc9 ((⟨ts⟩:SSchema),t,o,v)=some (vcarry o v,0)∧g7p ((⟨ts⟩:SSchema),t,o,v)=some (vcarry o v,0):=by
 have S:=H.V.sok H.T;obtain⟨_,e2⟩:=gim H.T H.V hvo hfo;obtain⟨q,p1,p2⟩:=gco (by have:=S.n;omega) H.T S.K hv t true;obtain⟨x,x1,x2⟩:=gad (by have:=S.n;omega) H.T S.K hv t true;have ex:x=q:=by rw[p2]at x1;exact(Option.some.inj x1).symm
 have hq:q=true:=by rw[←ex];exact x2.2 hfv
 have hP:gc8 ((⟨ts⟩:SSchema),t,v)=some true:=by
   rw[gc8];simp only[SValue.ge];rw[p1,hq];rfl
 have hR:g4q ((⟨ts⟩:SSchema),t,v)=some true:=by
   rw[g4q];simp only[SValue.ge];rw[p2,hq];rfl
 constructor
 · rw[gc9];simp only[SValue.ge];rw[gky H hvo hfo];simp only[oZ4,oZ3];rw[if_neg (by simp),hP];simp only[oZ3];rw[if_neg (by simp),gzn H hv t o hfo hvo hfv];rfl
 · rw[g7p];simp only[SValue.ge];rw[e2];simp only[oZ4,oZ3];rw[if_neg (by simp),hR];simp only[oZ3];rw[if_neg (by simp),gzm H hv t o hfo hvo hfv];rfl
theorem gzo{a b:List Int}(ha:a.length < 9223372036854775807) :Says (g5u (a,b)) a b:=by
 rw[g5u];by_cases hl:a.length=b.length
 · rw[if_neg (by simp;omega)];have:=scan (fun i=>g27 (a,b,(a.length:Int),(i:Int))) a.length (fun i=>decide (a.getD i 0=b.getD i 0)) (.inl false) (.inr ())
     (fun i hi=>by
       rw[g27,if_pos (by simp;omega),if_pos (g6 hi),if_pos (g6 (by omega)),g7,gp (by omega)];by_cases h:a.getD i 0=b.getD i 0
       · have e:decide (a.getD i 0=b.getD i 0)=true:=decide_eq_true h;rw[e];rfl
       · have e:decide (a.getD i 0=b.getD i 0)=false:=decide_eq_false h
         rw[e];rfl)
     (by rw[g27,if_neg (by simp)])
   have h0:g27 (a,b,(a.length:Int),((0:Nat):Int))=g27 (a,b,(a.length:Int),0):=rfl;simp only[h0]at this;refine Says.of_scan (p:=fun i=>decide (a.getD i 0=b.getD i 0)) hl (fun i h1 h2=>by simp only[gk h1,gk h2,decide_eq_true_eq]) ?_;rcases this with⟨h1,h2⟩ | ⟨h1,h2⟩
   · exact .inl ⟨by rw[h1];rfl,h2⟩
   · exact .inr ⟨by rw[h1];rfl,h2⟩
 · rw[if_pos (by simp;omega)];exact gby hl
theorem gt5{m:List (List Int)}{p:List Int}(hp:p.length < 9223372036854775807)(hm:m.length < 9223372036854775807)(h:p∈m) :g53 (m,p)=some (true,p):=by
 have hs:∀q,∃r,g5u (p,q)=some r∧(r=true↔p=q):=fun q=>gzo hp
 have h1:=g89 (fun i=>g1m (m,(m.length:Int),(i:Int),p)) m.length (fun i=>decide (p=m.getD i [])) (fun i=>.inl ((i:Int),p)) (.inr p)
   (fun i hi=>by
     obtain⟨r,r1,r2⟩:=hs (m.getD i []);rw[g1m,if_pos (by simp;omega),if_pos (g6 hi),g7,g70,r1];simp only[oZ4,oZ3];rw[gp (by omega)];cases r with
     | true=>rw[if_pos rfl,if_pos (by simpa using r2.1 rfl)]
     | false=>
       have:¬p=m.getD i []:=fun h=>by have:=r2.2 h;cases this
       rw[if_neg (by simp),if_neg (by simpa using this)])
   (by rw[g1m,if_neg (by simp)])
 have e0:g1m (m,(m.length:Int),((0:Nat):Int),p)=g1m (m,(m.length:Int),0,p):=rfl;simp only[e0]at h1;rw[g53,g75];rcases h1 with⟨j,_,_,_,h4⟩ | ⟨h1,_⟩
 · rw[h4];have:decide ((0:Int)≤(j:Int))=true:=by simp
   simp only[oZ4,oZ3,this]
 · obtain⟨i,hi,rfl⟩:=List.getElem_of_mem h;have:=h1 i hi;rw[gk hi]at this;simp at this
theorem gqg{m l:List (List Int)}(hm:m.length < 9223372036854775807)(hl:l.length < 9223372036854775807)(h:∀p,p∈l→p∈m∧p.length < 9223372036854775807) :∀(k i:Nat),i+k=l.length→g22 (m,l,(l.length:Int),(i:Int))=some (.inr ())
 | 0,i,hi=>by rw[g22,if_neg (by simp;omega)]
 | k+1,i,hi=>by
   have hlt:i < l.length:=by omega
   obtain⟨h1,h2⟩:=h _ (gg hlt []);rw[g22,if_pos (by simp;omega),if_pos (g6 hlt),g7,gt5 h2 hm h1];simp only[oZ4,oZ3];rw[if_neg (by simp),gp (by omega)];exact gqg hm hl h k (i+1) (by omega)
theorem gv0{ts:List SType}{t:Int}{v:SValue}{p:List Int} :p∈prtA ts t v↔∃q,q∈vall ts t v∧q.1=p∧Unk ts (ts.getD q.2.1.toNat dSType) q.2.2:=by
 unfold prtA;rw[List.mem_filterMap];constructor
 · intro⟨q,h1,h2⟩;unfold sel at h2;split at h2
   · rename_i hu;exact⟨q,h1,by simpa using h2,gbz.1 hu⟩
   · cases h2
 · intro⟨q,h1,h2,h3⟩;refine⟨q,h1,?_⟩;unfold sel;rw[if_pos (gbz.2 h3),←h2];rfl
theorem gzp{x:Sheavelaw13Two}(hd:DrIn x.D)(hC:CU8 x.C)(hCl:x.C.length≤reachBytes) :g60 x=some true:=by
 rw[g60,gh0];rcases of8 hd with⟨s,t,v,w,h⟩ | ⟨ts,t,v,o,h,H,ht,_,⟨hg,hw,hww⟩⟩
 · rw[h];rfl
 · have S:=H.V.sok H.T;obtain⟨n,hn,hnf,hnv,hnw⟩:=guw H ht hC hCl;obtain⟨c1,c2⟩:=gwv H hw hg hnv hnf;have fa:=gzk hnv t o hg hw hnf;have va:=gzj hnv t o hg hw hnf;have sa:=gtz hnv t o hg hw hnf;have wa:=g10s hnv t o hg hw hnf;have ua:=gzl hnv t o hg hw hnf;generalize vcarry o n=a at*;obtain⟨q1,e1,e1'⟩:=gqe va a;have:q1=true:=e1'.2 rfl;subst this
   obtain⟨f,f1,f2⟩:=gad (by have:=S.n;omega) H.T S.K va t false;have hF:g33 ((⟨ts⟩:SSchema),t,a)=some true:=by
     rw[g33];simp only[SValue.ge];rw[f1,f2.2 fa];rfl
   obtain⟨b,b1,b2,_⟩:=gws H va fa;have hb:b=true:=b1.2 (by rw[sa];exact hnf);subst hb;rw[if_pos rfl,sa]at b2;obtain⟨p1,_⟩:=gow H va fa (by omega);obtain⟨p2,_⟩:=gow H hw hg (by omega);obtain⟨q2,e2,e2'⟩:=gqe hnv n;have:q2=true:=e2'.2 rfl;subst this;have len:∀{v:SValue},wt v≤5000000000→(prtA ts t v).length < 9223372036854775807:=fun {v} hv=>by
     have h1:=gph (ts:=ts) [] (vall ts t v);have h2:=vall_len (ts:=ts) t v;unfold prtA;omega
   have hsub:=gqg (m:=prtA ts t o) (l:=prtA ts t a) (len (by omega)) (len (by omega)) (fun p hp=>by
     obtain⟨q,h1,h2,h3⟩:=gv0.1 hp;obtain⟨q',k1,k2,k3⟩:=ua q h1 h3;refine⟨gv0.2 ⟨q',k1,by rw[k2,h2],k3⟩,?_⟩;have:=vall_path t a q h1
     rw[←h2];omega) _ 0 (Nat.zero_add _)
   have hsub':g22 (prtA ts t o,prtA ts t a,((prtA ts t a).length:Int),0)=_:=hsub;rw[h];simp only[oZ4,oZ3,SValue.ge,Bool.not_true,cond_false,Bool.not_false,if_true];rw[if_neg (by simp),hn];simp only[oZ3,SValue.ge];rw[c1,c2]
   simp only[oZ3,SValue.ge,decide_true,Bool.not_true,cond_false,Bool.not_false,if_true,eq_self];rw[e1];simp only[oZ3,Bool.not_true,cond_false,Bool.not_false,if_true,eq_self];rw[hF];simp only[oZ3,Bool.not_true,cond_false];rw[if_neg (by simp),b2,p1,p2]
   simp only[oZ3,SValue.ge,decide_true,Bool.not_true,cond_false,Bool.not_false,if_true,eq_self];rw[e2];simp only[oZ3,Bool.not_true,cond_false];rw[if_neg (by simp),hsub'];rfl
theorem law_RelayCarry(h:Hs Un.D [.nm ixSheavelaw13Two])(hk:Ok Un [.nm ixSheavelaw13Two] h) :g60 h=some true:=by
 have hj:∀d,d∈Un.flds ixSheavelaw13Two h→WF Un d:=okOne hk;have hc:=hj ⟨.slice (.int .u8),h.C⟩ (.tail _ (.tail _ (.tail _ (.head _))));obtain⟨a,_,c⟩:=gii (t:= .int .u8) hc;have u8:∀{n:Int},WF Un ⟨.int .u8,n⟩→U8 n:=fun {n} h=>by
   cases h with
   | int k n h=>
     simp[Lit.wf,IntKind.min,IntKind.max,IntKind.bits,IntKind.signed]at h;unfold U8;omega
 exact gzp (g10l fun d hd=>hj d (by
   rcases hd with _ | ⟨_,hd⟩
   · exact .head _
   · rcases hd with _ | ⟨_,hd⟩
     · exact .tail _ (.head _)
     · rcases hd with _ | ⟨_,hd⟩
       · exact .tail _ (.tail _ (.head _))
       · cases hd)) (fun n hn=>u8 (c n hn ⟨.int .u8,n⟩ (.head _))) a
end
end Go.Proofs.YtijpinendaoleaaGreat
