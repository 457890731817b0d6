/- The functions of the program as functions of Lean, that its code does what they say, and what they answer; part C. -/
import Derived.Test.YtijpinendaoleaaGreatRpB

namespace Go.Proofs.YtijpinendaoleaaGreat
set_option linter.all false
section
open Go Go.Proofs.YtijpinendaoleaaGreat.Shv Go.Sort
set_option maxRecDepth 100000
theorem g8r{k n:Nat}(hk:k≤1000)(h:n≤100000000000) :room k n=true:=by
 unfold room g48 g1f;simp only[Bool.and_eq_true,decide_eq_true_eq];refine⟨?_,by omega⟩;have:(2*n+192)*k≤200000000192*1000:=Nat.mul_le_mul (by omega) hk;omega
def stTi(x:SType)(id:Int)(i:Nat) :Int:=if x.Kind=5 then(x.Members.getD i dSMember).Type_ else if x.Kind=6 then((findM x.Members id).getD dSMember).Type_ else x.Elem
def stNi(x:SType)(id:Int)(i:Nat) :Int:=if x.Kind=5 then(x.Members.getD i dSMember).ID else if x.Kind=6 then id else i
theorem stN_i(x:SType)(v:SValue)(i:Nat) :stN x v i=stNi x v.ID i:=rfl
abbrev Prt :=List Int × Int × SValue
mutual
def vall(ts:List SType)(t:Int) :SValue→List Prt
 | ⟨k,b,i,s,id,ks,is,r⟩=>([],t,⟨k,b,i,s,id,ks,is,r⟩)::valls ts (ts.getD t.toNat dSType) id 0 is
def valls(ts:List SType)(x:SType)(id:Int)(i:Nat) :List SValue→List Prt
 | []=>[]
 | v::l=>(vall ts (stTi x id i) v).map (fun q=>(stNi x id i::q.1,q.2))++valls ts x id (i+1) l
end
section
variable {ts:List SType}
theorem gb9(t:Int)(v:SValue) :vall ts t v=([],t,v)::valls ts (ts.getD t.toNat dSType) v.ID 0 v.Items:=by
 cases v;rw[vall]
theorem ghl(x:SType)(v:SValue){i:Nat}(hi:i < v.Items.length) :valls ts x v.ID i (v.Items.drop i)=(vall ts (stT x v i) (v.Items.getD i dSValue)).map (fun q=>(stN x v i::q.1,q.2))++valls ts x v.ID (i+1) (v.Items.drop (i+1)):=by
 rw[List.drop_eq_getElem_cons hi,valls,gm hi];rfl
mutual
theorem vall_len(t:Int) :∀v:SValue,(vall ts t v).length≤wt v
 | ⟨k,b,i,s,id,ks,is,r⟩=>by
   rw[vall,List.length_cons,wt];have:=valls_len (ts.getD t.toNat dSType) id 0 is;omega
theorem valls_len(x:SType)(id:Int)(i:Nat) :∀l:List SValue,(valls ts x id i l).length≤wts l
 | []=>by rw[valls];exact Nat.zero_le _
 | v::l=>by
   rw[valls,wts,List.length_append,List.length_map];have:=vall_len (stTi x id i) v;have:=valls_len x id (i+1) l;omega
end
def Unk(ts:List SType)(x:SType)(v:SValue) :Prop:=v.Rest≠[]∨¬Known x v∨¬∀k,k∈v.Keys→Known (ts.getD x.Key.toNat dSType) k
noncomputable def unkB (ts:List SType) (x:SType) (v:SValue):Bool:=@decide (Unk ts x v) (Classical.propDecidable _)
theorem gba{x:SType}{v:SValue} :unkB ts x v=true↔Unk ts x v:=by
 unfold unkB;exact @decide_eq_true_iff _ (Classical.propDecidable _)
noncomputable def sel (ts:List SType) (p:List Int) (q:Prt):Option (List Int):=if unkB ts (ts.getD q.2.1.toNat dSType) q.2.2=true then some (p++q.1)else none
theorem goe(p:List Int)(l:List Prt) :(l.filterMap (sel ts p)).length≤l.length:=List.length_filterMap_le _ _
theorem gts(p:List Int)(n:Int)(l:List Prt) :(l.map (fun q=>((n::q.1,q.2):Prt))).filterMap (sel ts p)=l.filterMap (sel ts (p++[n])):=by
 rw[List.filterMap_map]
 congr 1
 funext q
 unfold sel;simp
theorem gly{l:List SValue}{i:Nat}(hi:i < l.length) :wts (l.drop i)=wt (l.getD i dSValue)+wts (l.drop (i+1)):=by
 rw[List.drop_eq_getElem_cons hi,g6f,gm hi]
theorem gf4(l:List SValue)(i:Nat) :wts (l.drop i)≤wts l:=by
 induction l generalizing i with
 | nil=>simp
 | cons v l ih=>
   cases i with
   | zero=>simp
   | succ i=>rw[List.drop_succ_cons,g6f];have:=ih i;omega
def gjy(ts:List SType)(t:Int)(v:SValue) :Prop:=∀p:List Int,p.length+wt v≤10000000000→g53 ((⟨ts⟩:SSchema),t,v,p)=some ((vall ts t v).filterMap (sel ts p))
theorem gds {x : SType} {v : SValue} {p : List Int} (hl : v.Items.length ≤ 1000) (h : ∀ i, i < v.Items.length → gjy ts (stT x v i) (v.Items.getD i dSValue)) (hp : p.length + wts v.Items + 1 ≤ 10000000000) : ∀ (k i : Nat) (acc : List (List Int)), i + k = v.Items.length → acc.length + wts (v.Items.drop i) ≤ 20000000000 →
   g40 (p,stL x v v.Items.length,(v.Items.length:Int),(i:Int),ts,v,acc)=some (acc++(valls ts x v.ID i (v.Items.drop i)).filterMap (sel ts p))
 | 0,i,acc,hi,ha=>by
   rw[g40.eq_1,if_neg (by simp;omega),List.drop_eq_nil_of_le (by omega),valls];simp
 | k+1,i,acc,hi,ha=>by
   have hlt:i < v.Items.length:=by omega
   have hw:=gly hlt;have hle:=gf4 v.Items i;have hkid:=h i hlt (p++[stN x v i]) (by rw[List.length_append];show p.length+1+_≤_;omega);have hlen:((vall ts (stT x v i) (v.Items.getD i dSValue)).filterMap (sel ts (p++[stN x v i]))).length≤wt (v.Items.getD i dSValue):=Nat.le_trans (goe _ _) (vall_len _ _)
   rw[g40.eq_1,if_pos (by simp;omega),if_pos (g6 (by rw[g9x];exact hlt)),g7,gtq x v hlt];have hcl:g7x 8 p=some p:=by unfold g7x;rw[if_pos (g8r (by omega) (by omega))]
   simp only[oZ4,oZ3,SValue.gn];rw[if_pos (g6 hlt),hcl];simp only[oZ3];rw[if_pos (g8r (by omega) (by rw[List.length_append];show p.length+1≤_;omega)),hkid];simp only[oZ3];rw[if_pos (g8r (by omega) (by rw[List.length_append];omega)),gp (by omega)]
   have ih:=gds hl h hp k (i+1) (acc++(vall ts (stT x v i) (v.Items.getD i dSValue)).filterMap (sel ts (p++[stN x v i]))) (by omega) (by rw[List.length_append];omega);rw[ih,ghl x v hlt,List.filterMap_append,gts,List.append_assoc]
theorem gkg(H:DrOk ts){t:Int}{v:SValue}(hf:vfit ts false t v)(hk:∀i,i < v.Items.length→gjy ts (stT (ts.getD t.toNat dSType) v i) (v.Items.getD i dSValue)) :∀p:List Int,p.length+wt v≤10000000000→g53 ((⟨ts⟩:SSchema),t,v,p)=some ((vall ts t v).filterMap (sel ts p)):=by
 intro p hp;have S:=H.V.sok H.T;obtain⟨l1,l2,l3⟩:=god H hf;obtain⟨⟨g1,g2,g3,g4⟩,_⟩:=(g2r _ _ _).1 hf;have hj:t.toNat < ts.length:=by omega
 have hmem:=gi hj dSType;have hst:=gpd S hf (by omega);have hwt:=wt_eq v;obtain⟨sb,s1,s2⟩:=gf3 (H.T _ hmem) v;obtain⟨kb,k1,k2⟩:=gpc H.T (x:=ts.getD t.toNat dSType) (v:=v) (by omega) (gpe hf);rw[gb9,List.filterMap_cons];generalize hx:ts.getD t.toNat dSType=x at*;have hin:inR t ts.length=true:=by simp[inR];omega
 have hsel:sel ts p (([],t,v):Prt)=if unkB ts x v=true then some p else none:=by
   unfold sel;simp only[hx,List.append_nil]
 have L:=fun acc (ha:acc.length≤1)=>gds (x:=x) (v:=v) (p:=p) (by omega) hk (by omega) v.Items.length 0 acc (by omega) (by rw[List.drop_zero];omega)
 have L':∀acc:List (List Int),acc.length≤1→g40 (p,stL x v v.Items.length,(v.Items.length:Int),0,ts,v,acc)=some (acc++(valls ts x v.ID 0 v.Items).filterMap (sel ts p)):=fun acc ha=>by
   have:=L acc ha;rw[List.drop_zero]at this;exact this
 have hr:decide (0 < (v.Rest.length:Int))=decide (v.Rest≠[]):=by
   cases v.Rest with
   | nil=>rfl
   | cons a l=>simp
 have hb:unkB ts x v=(decide (v.Rest≠[]) || sb || kb):=by
   rw[Bool.eq_iff_iff,gba];unfold Unk;rw[←s2,←k2];cases sb <;> cases kb <;> simp
 rw[g53,if_pos hin];simp only[oZ4,oZ3,SValue.gn,hx];rw[hr,hsel,hb,s1,k1];have e1:(if(!decide (v.Rest≠[]))=true then some sb else some false)=some (!decide (v.Rest≠[]) && sb):=by cases decide (v.Rest≠[]) <;> rfl
 rw[e1];simp only[oZ3];have e2:(if(!(bif decide (v.Rest≠[])then true else !decide (v.Rest≠[]) && sb))=true then some kb else some false)=some (!(decide (v.Rest≠[]) || sb) && kb):=by cases decide (v.Rest≠[]) <;> cases sb <;> rfl
 rw[e2];simp only[oZ3];have e3:(bif bif decide (v.Rest≠[])then true else !decide (v.Rest≠[]) && sb then true else !(decide (v.Rest≠[]) || sb) && kb)=(decide (v.Rest≠[]) || sb || kb):=by cases decide (v.Rest≠[]) <;> cases sb <;> cases kb <;> rfl
 rw[e3];cases hc:(decide (v.Rest≠[]) || sb || kb)with
 | true=>
   rw[if_pos rfl,if_pos (g8r (by omega) (by simp)),hst];simp only[oZ3,g9x];rw[L' [p] (by simp)];rfl
 | false=>
   rw[if_neg (by simp),hst];simp only[oZ3,g9x];rw[L' [] (by simp)];rfl
theorem ggh {x : SType} {v : SValue} {p : List Int} (hl : v.Items.length ≤ 1000) (h : ∀ i, i < v.Items.length → gjy ts (stT x v i) (v.Items.getD i dSValue)) (hp : p.length + wts v.Items + 1 ≤ 10000000000) : ∀ (k i : Nat) (acc : List (List Int)), i + k = v.Items.length → acc.length + wts (v.Items.drop i) ≤ 20000000000 →
   g46 (p,stL x v v.Items.length,(v.Items.length:Int),(i:Int),ts,v,acc)=some (acc++(valls ts x v.ID i (v.Items.drop i)).filterMap (sel ts p))
 | 0,i,acc,hi,ha=>by
   rw[g46.eq_1,if_neg (by simp;omega),List.drop_eq_nil_of_le (by omega),valls];simp
 | k+1,i,acc,hi,ha=>by
   have hlt:i < v.Items.length:=by omega
   have hw:=gly hlt;have hle:=gf4 v.Items i;have hkid:=h i hlt (p++[stN x v i]) (by rw[List.length_append];show p.length+1+_≤_;omega);have hlen:((vall ts (stT x v i) (v.Items.getD i dSValue)).filterMap (sel ts (p++[stN x v i]))).length≤wt (v.Items.getD i dSValue):=Nat.le_trans (goe _ _) (vall_len _ _)
   rw[g46.eq_1,if_pos (by simp;omega),if_pos (g6 (by rw[g9x];exact hlt)),g7,gtq x v hlt];have hcl:g7x 8 p=some p:=by unfold g7x;rw[if_pos (g8r (by omega) (by omega))]
   simp only[oZ4,oZ3,SValue.gn];rw[if_pos (g6 hlt),hcl];simp only[oZ3];rw[if_pos (g8r (by omega) (by rw[List.length_append];show p.length+1≤_;omega)),hkid];simp only[oZ3];rw[if_pos (g8r (by omega) (by rw[List.length_append];omega)),gp (by omega)]
   have ih:=ggh hl h hp k (i+1) (acc++(vall ts (stT x v i) (v.Items.getD i dSValue)).filterMap (sel ts (p++[stN x v i]))) (by omega) (by rw[List.length_append];omega);rw[ih,ghl x v hlt,List.filterMap_append,gts,List.append_assoc]
theorem gnu(H:DrOk ts){t:Int}{v:SValue}(hf:vfit ts false t v)(hk:∀i,i < v.Items.length→gjy ts (stT (ts.getD t.toNat dSType) v i) (v.Items.getD i dSValue)) :∀p:List Int,p.length+wt v≤10000000000→g9b ((⟨ts⟩:SSchema),t,v,p)=some ((vall ts t v).filterMap (sel ts p)):=by
 intro p hp;have S:=H.V.sok H.T;obtain⟨l1,l2,l3⟩:=god H hf;obtain⟨⟨g1,g2,g3,g4⟩,_⟩:=(g2r _ _ _).1 hf;have hj:t.toNat < ts.length:=by omega
 have hmem:=gi hj dSType;have hst:=gpd S hf (by omega);have hwt:=wt_eq v;obtain⟨sb,s1,s2⟩:=gf3 (H.T _ hmem) v;obtain⟨kb,k1,k2⟩:=gpc H.T (x:=ts.getD t.toNat dSType) (v:=v) (by omega) (gpe hf);rw[gb9,List.filterMap_cons];generalize hx:ts.getD t.toNat dSType=x at*;have hin:inR t ts.length=true:=by simp[inR];omega
 have hsel:sel ts p (([],t,v):Prt)=if unkB ts x v=true then some p else none:=by
   unfold sel;simp only[hx,List.append_nil]
 have L:=fun acc (ha:acc.length≤1)=>ggh (x:=x) (v:=v) (p:=p) (by omega) hk (by omega) v.Items.length 0 acc (by omega) (by rw[List.drop_zero];omega)
 have L':∀acc:List (List Int),acc.length≤1→g46 (p,stL x v v.Items.length,(v.Items.length:Int),0,ts,v,acc)=some (acc++(valls ts x v.ID 0 v.Items).filterMap (sel ts p)):=fun acc ha=>by
   have:=L acc ha;rw[List.drop_zero]at this;exact this
 have hr:decide (0 < (v.Rest.length:Int))=decide (v.Rest≠[]):=by
   cases v.Rest with
   | nil=>rfl
   | cons a l=>simp
 have hb:unkB ts x v=(decide (v.Rest≠[]) || sb || kb):=by
   rw[Bool.eq_iff_iff,gba];unfold Unk;rw[←s2,←k2];cases sb <;> cases kb <;> simp
 rw[g9b,if_pos hin];simp only[oZ4,oZ3,SValue.gn,hx];rw[hr,hsel,hb,s1,k1];have e1:(if(!decide (v.Rest≠[]))=true then some sb else some false)=some (!decide (v.Rest≠[]) && sb):=by cases decide (v.Rest≠[]) <;> rfl
 rw[e1];simp only[oZ3];have e2:(if(!(bif decide (v.Rest≠[])then true else !decide (v.Rest≠[]) && sb))=true then some kb else some false)=some (!(decide (v.Rest≠[]) || sb) && kb):=by cases decide (v.Rest≠[]) <;> cases sb <;> rfl
 rw[e2];simp only[oZ3];have e3:(bif bif decide (v.Rest≠[])then true else !decide (v.Rest≠[]) && sb then true else !(decide (v.Rest≠[]) || sb) && kb)=(decide (v.Rest≠[]) || sb || kb):=by cases decide (v.Rest≠[]) <;> cases sb <;> cases kb <;> rfl
 rw[e3];cases hc:(decide (v.Rest≠[]) || sb || kb)with
 | true=>
   rw[if_pos rfl,if_pos (g8r (by omega) (by simp)),hst];simp only[oZ3,g9x];rw[L' [p] (by simp)];rfl
 | false=>
   rw[if_neg (by simp),hst];simp only[oZ3,g9x];rw[L' [] (by simp)];rfl
theorem gy4(H:DrOk ts){v:SValue}(hv:OkV v) :∀t,vfit ts false t v→gjy ts t v:=by
 induction hv with
 | mk v hs h1 h2 h3 hk hi hrd n1 n2 n3 n4 ihk ihi=>
   intro t hf;exact gkg H hf fun i hi'=>ihi _ (gi hi' dSValue) _ (g9r hf i hi')
theorem gy5(H:DrOk ts){t:Int}{v:SValue}(hv:OkV v)(hf:vfit ts false t v)(hw:wt v≤10000000000) :g9b ((⟨ts⟩:SSchema),t,v,[])=some ((vall ts t v).filterMap (sel ts [])):=by
 cases hv with
 | mk v hs h1 h2 h3 hk hi hrd n1 n2 n3 n4=>
 exact gnu H hf (fun i hi'=>gy4 H (hi _ (gi hi' dSValue)) _ (g9r hf i hi')) [] (by simpa using hw)
end
end
section
open Go Go.Proofs.YtijpinendaoleaaGreat.Shv Go.Sort
set_option maxRecDepth 100000
section
variable {ts:List SType}
theorem grv{x:SType}(hm:MAsc x.Members)(hl:x.Members.length≤1000){id:Int}{m:SMember}(hF:findM x.Members id=some m) :∃j,j < x.Members.length∧g1b (x,id)=some ((j:Int),true)∧x.Members.getD j dSMember=m:=by
 obtain⟨j,j1,j2,j3⟩:=glb hm hl hF;obtain⟨r,r1,r2,_⟩:=g62 (t:=x) id (by omega);refine⟨j,j1,?_,j3⟩;rw[r2,←r1,j2]
theorem gz8{x:SType}(hm:MAsc x.Members)(hl:x.Members.length≤1000){i:Nat}(hi:i < x.Members.length) :g1b (x,(x.Members.getD i dSMember).ID)=some ((i:Int),true):=by
 have hM:=gi hi dSMember;obtain⟨r,r1,r2⟩:=gge (t:=x) (id:=(x.Members.getD i dSMember).ID) (by omega);rw[r1];rcases r2 with⟨j,h1,h2,h3,rfl⟩ | ⟨h1,_⟩
 · have:j=i:=by
     rw[gm h1,gm hi]at h2;rcases Nat.lt_trichotomy j i with h | h | h
     · have:=List.pairwise_iff_getElem.1 hm.1 j i h1 hi h;omega
     · exact h
     · exact absurd rfl (h3 i h)
   rw[this]
 · exact absurd rfl (h1 i hi)
mutual
theorem vall_path(t:Int) :∀(v:SValue) (q:Prt),q∈vall ts t v→q.1.length≤wt v
 | ⟨k,b,i,s,id,ks,is,r⟩,q,hq=>by
   rw[vall]at hq;rw[wt];rcases List.mem_cons.1 hq with rfl | hq
   · exact Nat.zero_le _
   · have:=valls_path _ _ _ is q hq;omega
theorem valls_path(x:SType)(id:Int)(i:Nat) :∀(l:List SValue) (q:Prt),q∈valls ts x id i l→q.1.length≤wts l
 | [],q,hq=>by rw[valls]at hq;cases hq
 | v::l,q,hq=>by
   rw[valls]at hq;rw[wts];rcases List.mem_append.1 hq with hq | hq
   · obtain⟨w,hw,rfl⟩:=List.mem_map.1 hq;have h1:=vall_path' _ v w hw;show w.1.length+1≤_;omega
   · have:=valls_path x id (i+1) l q hq;omega
theorem vall_path'(t:Int) :∀(v:SValue) (q:Prt),q∈vall ts t v→q.1.length+1≤wt v
 | ⟨k,b,i,s,id,ks,is,r⟩,q,hq=>by
   rw[vall]at hq;rw[wt];rcases List.mem_cons.1 hq with rfl | hq
   · show 0+1≤_;omega
   · have:=valls_path _ _ _ is q hq;omega
end
theorem gjz{x:SType}{id:Int} :∀{l:List SValue} {i:Nat} {q:Prt},q∈valls ts x id i l→∃j,j < l.length∧∃w,w∈vall ts (stTi x id (i+j)) (l.getD j dSValue)∧q=(stNi x id (i+j)::w.1,w.2)
 | [],i,q,hq=>by rw[valls]at hq;cases hq
 | v::l,i,q,hq=>by
   rw[valls]at hq;rcases List.mem_append.1 hq with hq | hq
   · obtain⟨w,hw,rfl⟩:=List.mem_map.1 hq;exact⟨0,by simp,w,hw,rfl⟩
   · obtain⟨j,j1,w,w1,w2⟩:=gjz hq;refine⟨j+1,by simp;omega,w,?_,?_⟩
     · rw[show i+(j+1)=i+1+j from by omega];exact w1
     · rw[show i+(j+1)=i+1+j from by omega];exact w2
theorem gpf{x:SType}{id:Int} :∀{l:List SValue} {i j:Nat} {w:Prt},j < l.length→w∈vall ts (stTi x id (i+j)) (l.getD j dSValue)→(stNi x id (i+j)::w.1,w.2)∈valls ts x id i l
 | v::l,i,0,w,_,hw=>by
   rw[valls];exact List.mem_append_left _ (List.mem_map.2 ⟨w,hw,rfl⟩)
 | v::l,i,j+1,w,hj,hw=>by
   rw[valls];have e:i+(j+1)=i+1+j:=by omega
   rw[e]at hw ⊢;exact List.mem_append_right _ (gpf (by simpa using hj) hw)
theorem grw{pl:Bool}{v:SValue}(hv:OkV v) :∀t,vfit ts pl t v→∀q,q∈vall ts t v→vfit ts pl q.2.1 q.2.2∧OkV q.2.2:=by
 induction hv with
 | mk v hs h1 h2 h3 hk hi hrd n1 n2 n3 n4 ihk ihi=>
   intro t hf q hq;rw[gb9]at hq;rcases List.mem_cons.1 hq with rfl | hq
   · exact⟨hf,.mk v hs h1 h2 h3 hk hi hrd n1 n2 n3 n4⟩
   · obtain⟨j,j1,w,w1,rfl⟩:=gjz hq;rw[Nat.zero_add]at w1;exact ihi _ (gi j1 dSValue) _ (g9r hf j j1) w w1
theorem grx {n i5 : Int} {v : SValue} {x : SType} {l : List (List Int)} (hq : ∀ q, q ∈ l → q.length ≤ 10000000000) (hL : l.length ≤ 50000000000) : ∀ (k i : Nat) (acc : List (List Int)), i + k = l.length → acc.length + k ≤ 50000000000 →
   g1c (i5,n,l,(i:Int),ts,v,acc,x)=some (i5,ts,v,acc++(l.drop i).map (fun q=>n::q),x)
 | 0,i,acc,hi,ha=>by
   rw[g1c,if_neg (by simp;omega),List.drop_eq_nil_of_le (by omega)];simp[SValue.gn]
 | k+1,i,acc,hi,ha=>by
   have hlt:i < l.length:=by omega
   have h1:=hq _ (gi hlt []);rw[g1c,if_pos (by simp;omega),if_pos (g6 hlt),g7];simp only[oZ4,oZ3,SValue.gn];rw[if_pos (g8r (by omega) (by rw[List.length_append];show 1+_≤_;omega)),if_pos (g8r (by omega) (by rw[List.length_append];show acc.length+1≤_;omega)),gp (by omega)]
   have ih:=grx (n:=n) (i5:=i5) (v:=v) (x:=x) hq hL k (i+1) (acc++[n::l.getD i []]) (by omega) (by rw[List.length_append];show acc.length+1+k≤_;omega);have e:([n]++l.getD i []:List Int)=n::l.getD i []:=rfl;rw[e,ih,List.drop_eq_getElem_cons hlt,List.map_cons,gm hlt,List.append_assoc];rfl
def ggi(ts:List SType)(t:Int)(v:SValue) :Prop:=g2b ((⟨ts⟩:SSchema),t,v)=some ((vall ts t v).map Prod.fst)
theorem gry {x : SType} {v : SValue} (hl : v.Items.length ≤ 1000) (h5 : x.Kind = 5 → v.Items.length ≤ x.Members.length) (h6 : x.Kind = 6 → 0 < v.Items.length → ∃ m, findM x.Members v.ID = some m) (hA : x.Kind = 6 → MAsc x.Members ∧ x.Members.length ≤ 16)
   (h:∀i,i < v.Items.length→ggi ts (stT x v i) (v.Items.getD i dSValue)) (hw:wts v.Items≤5000000000):∀(k i:Nat) (acc:List (List Int)),i+k=v.Items.length→acc.length+wts (v.Items.drop i)≤20000000000→
   g1p ((i:Int),ts,v,acc,x)=some (acc++(valls ts x v.ID i (v.Items.drop i)).map Prod.fst)
 | 0,i,acc,hi,ha=>by
   rw[g1p,if_neg (by simp;omega),List.drop_eq_nil_of_le (by omega),valls];simp
 | k+1,i,acc,hi,ha=>by
   have hlt:i < v.Items.length:=by omega
   have hwd:=gly hlt;have hle:=gf4 v.Items i;have hkid:=h i hlt;unfold ggi at hkid;have hlen:((vall ts (stT x v i) (v.Items.getD i dSValue)).map Prod.fst).length≤wt (v.Items.getD i dSValue):=by rw[List.length_map];exact vall_len _ _
   have hin:=fun(n:Int)=>grx (ts:=ts) (n:=n) (i5:=(i:Int)) (v:=v) (x:=x) (l:=(vall ts (stT x v i) (v.Items.getD i dSValue)).map Prod.fst) (fun q hq=>by
     obtain⟨w,hw',rfl⟩:=List.mem_map.1 hq;have:=vall_path _ _ _ hw'
     omega) (by omega) _ 0 acc (Nat.zero_add _) (by omega)
   have ih:=gry hl h5 h6 hA h hw k (i+1) (acc++((vall ts (stT x v i) (v.Items.getD i dSValue)).map Prod.fst).map (fun q=>stN x v i::q)) (by omega) (by rw[List.length_append,List.length_map];omega)
   have hgo:∀T N,T=stT x v i→N=stN x v i→(g2b ((⟨ts⟩:SSchema),T,v.Items.getD i dSValue) >>=fun r=>g1c ((i:Int),N,r,0,ts,v,acc,x) >>=fun o=>g1p (addI .i64 o.1 1,o.2.1,o.2.2.1,o.2.2.2.1,o.2.2.2.2))=some (acc++(valls ts x v.ID i (v.Items.drop i)).map Prod.fst):=by
     intro T N hT hN;rw[hT,hN,hkid];simp only[oZ4,oZ3];have h0:=hin (stN x v i);rw[List.drop_zero]at h0;have h0':g1c ((i:Int),stN x v i,(vall ts (stT x v i) (v.Items.getD i dSValue)).map Prod.fst,0,ts,v,acc,x)=_:=h0;rw[h0'];simp only[oZ3];rw[gp (by omega),ih,ghl x v hlt,List.map_append,List.append_assoc]
     simp[List.map_map,Function.comp_def]
   rw[g1p,if_pos (by simp;omega)];simp only[SValue.gn];by_cases k5:x.Kind=5
   · have hlm:i < x.Members.length:=by have:=h5 k5;omega
     rw[if_pos (by simp[k5]),if_pos (g6 hlm),if_pos (g6 hlm),if_neg (by simp[k5]),if_pos (g6 hlt),g7];exact hgo _ _ (by unfold stT;rw[if_pos k5]) (by unfold stN;rw[if_pos k5])
   · rw[if_neg (by simp[k5])];by_cases k6:x.Kind=6
     · obtain⟨m,hF⟩:=h6 k6 (by omega);obtain⟨j,j1,j2,j3⟩:=grv (hA k6).1 (by have:=(hA k6).2;omega) hF;rw[if_pos (by simp[k6]),j2];simp only[oZ4,oZ3];rw[if_pos (g6 j1),if_pos (g6 hlt),g7,g7,j3];exact hgo _ _ (by unfold stT;rw[if_neg k5,if_pos k6,hF];rfl) (by unfold stN;rw[if_neg k5,if_pos k6])
     · rw[if_neg (by simp[k6]),if_pos (g6 hlt),g7];exact hgo _ _ (by unfold stT;rw[if_neg k5,if_neg k6]) (by unfold stN;rw[if_neg k5,if_neg k6])
end
end
section
open Go Go.Proofs.YtijpinendaoleaaGreat.Shv Go.Sort
set_option maxRecDepth 100000
section
variable {ts:List SType}
theorem gy6(H:DrOk ts){v:SValue}(hv:OkV v) :∀t,vfit ts false t v→wt v≤5000000000→ggi ts t v:=by
 have S:=H.V.sok H.T
 induction hv with
 | mk v hs h1 h2 h3 hk hi hrd n1 n2 n3 n4 ihk ihi=>
   intro t hf hw;obtain⟨l1,l2,l3⟩:=god H hf;obtain⟨⟨g1,g2,g3,g4⟩,hc⟩:=(g2r _ _ _).1 hf;have hmem:=gi (by omega:t.toNat < ts.length) dSType;have hwt:=wt_eq v;have hkids:∀i,i < v.Items.length→ggi ts (stT (ts.getD t.toNat dSType) v i) (v.Items.getD i dSValue):=fun i hi'=>by
     have hm:=gi hi' dSValue;exact ihi _ hm _ (g9r hf i hi') (by have:=gth hm;omega)
   have hin:inR t ts.length=true:=by simp[inR];omega
   unfold ggi;rw[g2b,if_pos hin,gb9];generalize hx:ts.getD t.toNat dSType=x at*;simp only[SValue.gn]
   have:=gry (x:=x) (v:=v) (by omega) (fun k5=>by
     rcases hc with h | h | h | h | h | h | h | h | h
     case inr.inr.inr.inr.inl=>have:=(g5n.1 h.2.2.2.2.2.2.2).1;omega
     all_goals (have:=h.1;omega)) (fun k6 hpos=>by
     rcases hc with h | h | h | h | h | h | h | h | h
     case inr.inr.inr.inr.inr.inl=>
       obtain⟨a1,a2,a3,a4,a5,a6⟩:=h;split at a6
       · rename_i m hm;exact⟨m,hm⟩
       · rw[a6.2.2.2.1]at hpos;cases hpos
     all_goals (have:=h.1;omega)) (fun k6=>S.A x hmem (.inr k6)) hkids (by omega) v.Items.length 0 [[]] (by omega) (by rw[List.drop_zero];show 1+_≤_;omega)
   rw[List.drop_zero]at this;have h0:g1p (0,ts,v,[[]],x)=_:=this;rw[h0];rfl
theorem at_l0 (S : SOk ts) {z0 z2 z4 : Int} {z1 : Bool} {z3 : List UInt8} {v : SValue} (hv : OkV v) : ∀ t, vfit ts false t v → ∀ q, q ∈ vall ts t v → ∀ pre : List Int, pre.length + q.1.length ≤ 100000000000 →
   g20 (t,pre++q.1,(pre.length:Int),ts,v,z0,z1,z2,z3,z4)=some (.inr (q.2.1,q.2.2,z0,z1,z2,z3,z4)):=by
 induction hv with
 | mk v hs h1 h2 h3 hk hi hrd n1 n2 n3 n4 ihk ihi=>
   intro t hf q hq pre hp;rw[gb9]at hq;rcases List.mem_cons.1 hq with rfl | hq
   · rw[g20,if_neg (by simp)];simp only[SValue.gn]
   · obtain⟨j,j1,w,w1,rfl⟩:=gjz hq;rw[Nat.zero_add]at w1;have hkid:=g9r hf j j1;obtain⟨⟨g1,g2,g3,g4⟩,hc⟩:=(g2r _ _ _).1 hf;have hmem:=gi (by omega:t.toNat < ts.length) dSType;have hin:inR t ts.length=true:=by simp[inR];omega
     generalize hx:ts.getD t.toNat dSType=x at*;rw[Nat.zero_add];generalize hn:stNi x v.ID j=n at*;have hp':pre.length+(w.1.length+1)≤100000000000:=by simpa[Nat.zero_add]using hp
     have ih:=ihi _ (gi j1 dSValue) _ hkid w w1 (pre++[n]) (by rw[List.length_append];show pre.length+1+_≤_;omega);have e1:(pre++[n]:List Int)++w.1=pre++n::w.1:=by simp
     have e2:((pre++[n]:List Int).length:Int)=((pre.length+1:Nat):Int):=by simp
     rw[e1,e2]at ih;have e3:(pre++n::w.1:List Int).getD pre.length 0=n:=by
       rw[List.getD_eq_getElem?_getD,List.getElem?_append_right (Nat.le_refl _),Nat.sub_self];rfl
     rw[g20,if_pos (by simp;omega),if_pos hin];simp only[oZ4,oZ3,hx,SValue.gn];rw[if_pos (g6 (by simp)),g7,e3,gp (by omega)];have hsN:n=stN x v j:=by rw[stN_i];exact hn.symm
     by_cases k5:x.Kind=5
     · have hA:=S.A x hmem (.inl k5);have hlm:j < x.Members.length:=by
         rcases hc with h | h | h | h | h | h | h | h | h
         case inr.inr.inr.inr.inl=>have:=(g5n.1 h.2.2.2.2.2.2.2).1;omega
         all_goals (have:=h.1;omega)
       have hN:n=(x.Members.getD j dSMember).ID:=by rw[hsN];unfold stN;rw[if_pos k5]
       have hT:(x.Members.getD j dSMember).Type_=stT x v j:=by unfold stT;rw[if_pos k5]
       have hM:=gz8 hA.1 (by have:=hA.2;omega) hlm;rw[←hN]at hM;rw[if_pos (by simp[k5]),hM];simp only[oZ3];rw[if_pos trivial,if_pos (g6 hlm),if_neg (by simp),if_pos (g6 j1),g7,hT];exact ih
     · rw[if_neg (by simp[k5])];by_cases k6:x.Kind=6
       · have hA:=S.A x hmem (.inr k6);have hj0:j=0∧∃m,findM x.Members v.ID=some m:=by
           rcases hc with h | h | h | h | h | h | h | h | h
           case inr.inr.inr.inr.inr.inl=>
             obtain⟨a1,a2,a3,a4,a5,a6⟩:=h;split at a6
             · rename_i m hm;exact⟨by have:=a6.2.1;omega,m,hm⟩
             · rw[a6.2.2.2.1]at j1;cases j1
           all_goals (have:=h.1;omega)
         obtain⟨rfl,m,hF⟩:=hj0;obtain⟨j',q1,q2,q3⟩:=grv hA.1 (by have:=hA.2;omega) hF;have hN:n=v.ID:=by rw[hsN];unfold stN;rw[if_neg k5,if_pos k6]
         have hT:m.Type_=stT x v 0:=by unfold stT;rw[if_neg k5,if_pos k6,hF];rfl
         have hin0:inR 0 v.Items.length=true:=g6 j1;rw[if_pos (by simp[k6]),hN,q2];simp only[oZ3];rw[if_pos (by simp),if_pos (g6 q1),if_pos hin0,g7,q3,hT,show(0:Int).toNat=0 from rfl,←hN];exact ih
       · rw[if_neg (by simp[k6])];have hN:n=(j:Int):=by rw[hsN];unfold stN;rw[if_neg k5,if_neg k6]
         have hT:x.Elem=stT x v j:=by unfold stT;rw[if_neg k5,if_neg k6]
         have hk:x.Kind=7∨x.Kind=8∨x.Kind=9:=by
           rcases hc with h | h | h | h | h | h | h | h | h
           · rw[h.2.2.2.2.2.1]at j1;cases j1
           · rw[h.2.2.2.2.2.1]at j1;cases j1
           · rw[h.2.2.2.2.2.1]at j1;cases j1
           · rw[h.2.2.2.2.2.1]at j1;cases j1
           all_goals (have:=h.1;omega)
         rw[hN]at ih ⊢;have hb:(bif decide ((0:Int)≤(j:Int))then decide ((j:Int) < (v.Items.length:Int))else false)=true:=by
           have:(j:Int) < (v.Items.length:Int):=by omega
           simp[this]
         rcases hk with hk | hk | hk
         · rw[hk];simp only[Int.reduceEq,decide_true,decide_false,if_true,eq_self,Bool.false_eq_true,if_false];rw[if_pos hb,if_neg (by simp),if_pos (g6 j1),g7,hT];exact ih
         · rw[hk];simp only[Int.reduceEq,decide_true,decide_false,if_true,eq_self,Bool.false_eq_true,if_false];rw[if_pos hb,if_neg (by simp),if_pos (g6 j1),g7,hT];exact ih
         · rw[hk];simp only[Int.reduceEq,decide_true,decide_false,if_true,eq_self,Bool.false_eq_true,if_false];rw[if_pos hb,if_neg (by simp),if_pos (g6 j1),g7,hT];exact ih
theorem g13a(S:SOk ts){t:Int}{v:SValue}(hv:OkV v)(hf:vfit ts false t v){q:Prt}(hq:q∈vall ts t v)(hn:q.1.length≤100000000000) :g8z ((⟨ts⟩:SSchema),t,v,q.1)=some (q.2.2,q.2.1,0):=by
 obtain⟨x,x1,x2⟩:=ghh (by have:=S.n;omega) S.T S.K hv t false;have hx:x=true:=x2.2 hf;have hF:g4q ((⟨ts⟩:SSchema),t,v)=some true:=by
   rw[g4q];simp only[SValue.gn];rw[x1,hx];rfl
 rw[g8z];simp only[SValue.gn];rw[hF];simp only[oZ4,oZ3];rw[if_neg (by simp)];have:=at_l0 S hv t hf q hq [] (z0:=0) (z1:=false) (z2:=0) (z3:=[]) (z4:=0) (by simpa using hn);have h0:g20 (t,q.1,0,ts,v,0,false,0,[],0)=_:=this;rw[h0];rfl
theorem gco{x:SType}{v:SValue}{b:Bool}(h:b=true↔Unk ts x v) :unkB ts x v=b:=by
 rw[Bool.eq_iff_iff,gba];exact h.symm
theorem gvm{x:SType}(hx:OkT x)(v:SValue) :∃r,g3d (x,v.ID)=some r∧((!r.2)=true↔¬(∃y,y∈x.Symbols∧y.ID=v.ID)):=by
 obtain⟨r,_,r1,r2⟩:=g9e (t:=x) v.ID (by have:=hx.1;have:=g1e (Nat.le_refl reachBytes);omega);refine⟨r,r1,?_⟩;rcases r2 with⟨j,j1,j2,j3,rfl⟩ | ⟨q,rfl⟩
 · simp only[Bool.not_true,Bool.false_eq_true,false_iff];exact fun h=>h ⟨_,gi j1 dSSymbol,j2⟩
 · simp only[Bool.not_false,true_iff];intro⟨y,y1,y2⟩;obtain⟨i,hi,rfl⟩:=List.getElem_of_mem y1;exact absurd y2 (by have:=q i hi;rwa [gm hi]at this)
theorem grz(S:SOk ts){t:Int}{v:SValue}(hf:vfit ts false t v)(h8:(ts.getD t.toNat dSType).Kind≠8) :g2q ((⟨ts⟩:SSchema),t,v)=some (unkB ts (ts.getD t.toNat dSType) v):=by
 obtain⟨⟨g1,g2,g3,g4⟩,hc⟩:=(g2r _ _ _).1 hf;have hmem:=gi (by omega:t.toNat < ts.length) dSType;have hin:inR t ts.length=true:=by simp[inR];omega
 generalize hx:ts.getD t.toNat dSType=x at*;have hk:v.Keys=[]:=by
   rcases hc with h | h | h | h | h | h | h | h | h
   · exact h.2.2.2.2.1
   · exact h.2.2.2.2.1
   · exact h.2.2.2.2.1
   · exact h.2.2.2.2.1
   · exact h.2.2.2.2.2.1
   · exact h.2.2.2.2.1
   · exact h.2.2.2.2.2.1
   · exact absurd h.1 (by omega)
   · exact h.2.2.2.2.2.1
 have hkk:∀k,k∈v.Keys→Known (ts.getD x.Key.toNat dSType) k:=by rw[hk];intro k h;cases h
 have hr:decide (0 < (v.Rest.length:Int))=true↔v.Rest≠[]:=by
   cases v.Rest with
   | nil=>simp
   | cons a l=>simp
 rw[g2q,if_pos hin];simp only[oZ4,oZ3,hx,SValue.gn];by_cases k5:x.Kind=5
 · rw[k5];simp only[Int.reduceEq,decide_true,decide_false,if_true,eq_self,Bool.false_eq_true,if_false];rw[gco (b:=decide (0 < (v.Rest.length:Int)))];unfold Unk Known;rw[hr];exact⟨.inl,fun h=>h.elim id fun h=>h.elim (fun h=>absurd (fun k=>absurd k (by omega)) h) fun h=>absurd hkk h⟩
 · by_cases k6:x.Kind=6
   · rw[k6];simp only[Int.reduceEq,decide_true,decide_false,if_true,eq_self,Bool.false_eq_true,if_false];rw[gco (b:=decide (0 < (v.Rest.length:Int)))];unfold Unk Known;rw[hr];exact⟨.inl,fun h=>h.elim id fun h=>h.elim (fun h=>absurd (fun k=>absurd k (by omega)) h) fun h=>absurd hkk h⟩
   · have hrest:v.Rest=[]:=by
       rcases hc with h | h | h | h | h | h | h | h | h
       · exact h.2.2.2.2.2.2
       · exact h.2.2.2.2.2.2.1
       · exact h.2.2.2.2.2.2.1
       · exact h.2.2.2.2.2.2.1
       · exact absurd h.1 (by omega)
       · exact absurd h.1 (by omega)
       · exact h.2.2.2.2.2.2.1
       · exact absurd h.1 (by omega)
       · exact h.2.2.2.2.2.2.1
     have n5:decide (x.Kind=5)=false:=by simp[k5]
     have n6:decide (x.Kind=6)=false:=by simp[k6]
     have n8:decide (x.Kind=8)=false:=by simp[h8]
     simp only[n5,n6,n8,Bool.false_eq_true,if_false];by_cases k4:x.Kind=4
     · obtain⟨r,r1,r2⟩:=gvm (S.T x hmem) v;rw[if_pos (by simp[k4]),r1];simp only[oZ3];rw[gco (b:=!r.2)];rw[r2];unfold Unk Known;exact⟨fun h=>.inr (.inl fun k=>h (k k4)),fun h=>h.elim (fun h=>absurd hrest h) fun h=>h.elim (fun h h'=>h fun _=>h') fun h=>absurd hkk h⟩
     · rw[if_neg (by simp[k4])];rw[gco (b:=false)];unfold Unk Known;simp only[Bool.false_eq_true,false_iff];exact fun h=>h.elim (fun h=>absurd hrest h) fun h=>h.elim (fun h=>absurd (fun k=>absurd k k4) h) fun h=>absurd hkk h
theorem gtt{x:SType}{k:SValue}{t:Int}(hf:vfit ts false t k)(h1:1≤(ts.getD t.toNat dSType).Kind∧(ts.getD t.toNat dSType).Kind≤4) :unkB ts (ts.getD t.toNat dSType) k=true↔¬Known (ts.getD t.toNat dSType) k:=by
 obtain⟨⟨g1,g2,g3,g4⟩,hc⟩:=(g2r _ _ _).1 hf;rw[gba];unfold Unk;have hr:k.Rest=[]∧k.Keys=[]:=by
   rcases hc with h | h | h | h | h | h | h | h | h
   · exact⟨h.2.2.2.2.2.2,h.2.2.2.2.1⟩
   · exact⟨h.2.2.2.2.2.2.1,h.2.2.2.2.1⟩
   · exact⟨h.2.2.2.2.2.2.1,h.2.2.2.2.1⟩
   · exact⟨h.2.2.2.2.2.2.1,h.2.2.2.2.1⟩
   all_goals (have:=h.1;omega)
 rw[hr.1,hr.2];simp
theorem g106(S:SOk ts){t:Int}{v:SValue}(hv:OkV v)(hf:vfit ts false t v) :g2q ((⟨ts⟩:SSchema),t,v)=some (unkB ts (ts.getD t.toNat dSType) v):=by
 by_cases h8:(ts.getD t.toNat dSType).Kind=8
 · obtain⟨⟨g1,g2,g3,g4⟩,hc⟩:=(g2r _ _ _).1 hf;have hmem:=gi (by omega:t.toNat < ts.length) dSType;have hin:inR t ts.length=true:=by simp[inR];omega
   have hKy:=S.Ky _ hmem h8;generalize hx:ts.getD t.toNat dSType=x at*;have hfacts:v.Rest=[]∧vfits ts false x.Key v.Keys:=by
     rcases hc with h | h | h | h | h | h | h | h | h
     case inr.inr.inr.inr.inr.inr.inr.inl=>exact⟨h.2.2.2.2.2.1,h.2.2.2.2.2.2.2.2.1⟩
     all_goals (have:=h.1;omega)
   obtain⟨hrest,hks⟩:=hfacts;have hlen:v.Keys.length < 9223372036854775807:=by
     cases hv with
     | mk v hs h1=>exact g1e h1
   have h:=g8p (fun i=>g24 ((i:Int),ts,v,x)) v.Keys.length (fun i=>unkB ts (ts.getD x.Key.toNat dSType) (v.Keys.getD i dSValue)) (fun _=>.inl true) (.inr ())
     (fun i hi=>by
       have hki:=g1s.1 hks _ (gi hi dSValue);rw[g24,if_pos (by simp;omega),if_pos (g6 hi),g7,gp (by omega)];simp only[SValue.gn];rw[grz S hki (by omega)]
       rfl)
     (by rw[g24,if_neg (by simp)])
   have e0:g24 (((0:Nat):Int),ts,v,x)=g24 (0,ts,v,x):=rfl;simp only[e0]at h;rw[g2q,if_pos hin];simp only[oZ4,oZ3,hx,SValue.gn];rw[h8];simp only[Int.reduceEq,decide_true,decide_false,if_true,eq_self,Bool.false_eq_true,if_false];rcases h with⟨j,j1,j2,_,j4⟩ | ⟨j1,j4⟩
   · rw[j4,gco (b:=true)]
     · rfl
     · simp only[true_iff];have hkj:=g1s.1 hks _ (gi j1 dSValue);exact .inr (.inr fun hall=>(gtt (x:=x) hkj hKy).1 j2 (hall _ (gi j1 dSValue)))
   · rw[j4,gco (b:=false)]
     · rfl
     · simp only[Bool.false_eq_true,false_iff];intro h;rcases h with h | h | h
       · exact h hrest
       · exact h fun k4=>absurd k4 (by omega)
       · refine h fun k hk=>?_
         obtain⟨i,hi,rfl⟩:=List.getElem_of_mem hk;have hki:=g1s.1 hks _ hk;have:=j1 i hi;rw[gm hi]at this;exact Classical.byContradiction fun hn=>by
           have:=(gtt (x:=x) hki hKy).2 hn;simp_all
 · exact grz S hf h8
theorem gdt (S : SOk ts) {t : Int} {v : SValue} (hv : OkV v) (hf : vfit ts false t v) (hw : wt v ≤ 5000000000) : ∀ (k i : Nat) (acc : List (List Int)), i + k = (vall ts t v).length → acc.length + k ≤ 50000000000 →
   g2f (t,(vall ts t v).map Prod.fst,(i:Int),ts,v,acc)=some (acc++((vall ts t v).drop i).filterMap (sel ts []))
 | 0,i,acc,hi,ha=>by
   rw[g2f,if_neg (by simp;omega),List.drop_eq_nil_of_le (by omega)];simp
 | k+1,i,acc,hi,ha=>by
   have hlt:i < (vall ts t v).length:=by omega
   have hltm:i < ((vall ts t v).map Prod.fst).length:=by rw[List.length_map];exact hlt
   have hlen:=vall_len (ts:=ts) t v;have hq:(vall ts t v)[i]∈vall ts t v:=List.getElem_mem hlt;obtain⟨f1,f2⟩:=grw hv t hf _ hq;have hpath:=vall_path t v _ hq;have e1:((vall ts t v).map Prod.fst).getD i []=(vall ts t v)[i].1:=by rw[gm hltm];simp
   rw[g2f,if_pos (by rw[List.length_map];simp;omega),if_pos (g6 hltm),g7,e1];simp only[SValue.gn];rw[g13a S hv hf hq (by omega)];simp only[oZ4,oZ3,SValue.gn];rw[g106 S f2 f1];simp only[oZ3];rw[gp (by omega),List.drop_eq_getElem_cons hlt,List.filterMap_cons]
   have hs:sel ts [] (vall ts t v)[i]=if unkB ts (ts.getD (vall ts t v)[i].2.1.toNat dSType) (vall ts t v)[i].2.2=true then some (vall ts t v)[i].1 else none:=by unfold sel;rfl
   rw[hs];cases hb:unkB ts (ts.getD (vall ts t v)[i].2.1.toNat dSType) (vall ts t v)[i].2.2 with
   | true=>
     rw[if_pos rfl,if_pos (g6 hltm),if_pos (g8r (by omega) (by rw[List.length_append];show acc.length+1≤_;omega)),if_pos rfl];rw[gdt S hv hf hw k (i+1) (acc++[(vall ts t v)[i].1]) (by omega) (by rw[List.length_append];show acc.length+1+k≤_;omega),List.append_assoc];rfl
   | false=>
     rw[if_neg (by simp),if_neg (by simp)];exact gdt S hv hf hw k (i+1) acc (by omega) (by omega)
theorem nounk(S:SOk ts){v:SValue}(hv:OkV v) :∀t,vfit ts false t v→(∀q,q∈vall ts t v→¬Unk ts (ts.getD q.2.1.toNat dSType) q.2.2)→vstrip v=v∧vfit ts true t (vstrip v):=by
 induction hv with
 | mk v hs h1 h2 h3 hk hi hrd n1 n2 n3 n4 ihk ihi=>
   intro t hf hq;have hself:=hq ([],t,v) (by rw[gb9];exact .head _);unfold Unk at hself;have hself1:v.Rest=[]:=Classical.byContradiction fun h=>hself (.inl h)
   have hself2:Known (ts.getD t.toNat dSType) v:=Classical.byContradiction fun h=>hself (.inr (.inl h))
   have hself3:∀k,k∈v.Keys→Known (ts.getD (ts.getD t.toNat dSType).Key.toNat dSType) k:=Classical.byContradiction fun h=>hself (.inr (.inr h))
   have hkid:∀j,j < v.Items.length→vstrip (v.Items.getD j dSValue)=v.Items.getD j dSValue∧vfit ts true (stT (ts.getD t.toNat dSType) v j) (vstrip (v.Items.getD j dSValue)):=fun j hj=>
     ihi _ (gi hj dSValue) _ (g9r hf j hj) fun q hq'=>by
       have hm:(stNi (ts.getD t.toNat dSType) v.ID (0+j)::q.1,q.2)∈vall ts t v:=by
         rw[gb9];exact .tail _ (gpf hj (by rw[Nat.zero_add];exact hq'))
       have:=hq _ hm;exact this
   have hm:v.Items.map vstrip=v.Items:=by
     refine List.ext_getElem (by simp) fun i a1 a2=>?_
     have:=(hkid i a2).1;rw[gm a2]at this;rw[List.getElem_map];exact this
   constructor
   · rw[g9w,hm,hself1];cases v;simp at hself1;simp[hself1]
   · refine(gy3 S hf).2 ⟨hself2,hself3,fun⟨k6,hz⟩=>?_,fun j hj=>(hkid j hj).2⟩;obtain⟨⟨g1,g2,g3,g4⟩,hc⟩:=(g2r _ _ _).1 hf;rcases hc with h | h | h | h | h | h | h | h | h
     case inr.inr.inr.inr.inr.inl=>
       obtain⟨a1,a2,a3,a4,a5,a6⟩:=h;split at a6
       · have:=a6.2.1;omega
       · obtain⟨d,hd⟩:=a6.2.2.2.2;rw[hd]at hself1;cases hself1
     all_goals (have:=h.1;omega)
theorem gpg{v:SValue}{t:Int}(hv:OkV v)(hf:vfit ts true t v) :∀q,q∈vall ts t v→¬Unk ts (ts.getD q.2.1.toNat dSType) q.2.2:=by
 intro q hq h;obtain⟨f1,_⟩:=grw hv t hf q hq;obtain⟨⟨_,_,_,g4⟩,hc⟩:=(g2r _ _ _).1 f1;rcases h with h | h | h
 · exact h (g4 rfl)
 · exact h (geh f1)
 · refine h fun k hk=>?_
   rcases hc with h | h | h | h | h | h | h | h | h
   · have:=h.2.2.2.2.1;rw[this]at hk;cases hk
   · have:=h.2.2.2.2.1;rw[this]at hk;cases hk
   · have:=h.2.2.2.2.1;rw[this]at hk;cases hk
   · have:=h.2.2.2.2.1;rw[this]at hk;cases hk
   · have:=h.2.2.2.2.2.1;rw[this]at hk;cases hk
   · have:=h.2.2.2.2.1;rw[this]at hk;cases hk
   · have:=h.2.2.2.2.2.1;rw[this]at hk;cases hk
   · exact geh (g1s.1 h.2.2.2.2.2.2.2.2.1 _ hk)
   · have:=h.2.2.2.2.2.1;rw[this]at hk;cases hk
theorem gof{l:List Prt}{p:List Int} :l.filterMap (sel ts p)=[]↔∀q,q∈l→¬Unk ts (ts.getD q.2.1.toNat dSType) q.2.2:=by
 rw[List.filterMap_eq_nil_iff];refine⟨fun h q hq hu=>?_,fun h q hq=>?_⟩
 · have:=h q hq;unfold sel at this;rw[if_pos (gba.2 hu)]at this;cases this
 · unfold sel;rw[if_neg fun hu=>h q hq (gba.1 hu)]
end
theorem gy7(l:List Int)(hl:l.length < 9223372036854775807) :g7t (l,l)=some true:=by
 have key:∀k i,i+k=l.length→g33 (l,l,(i:Int))=some (.inr ()):=by
   intro k
   induction k with
   | zero=>intro i hi;rw[g33,if_neg (by simp;omega)]
   | succ k ih=>
     intro i hi;have hlt:i < l.length:=by omega
     rw[g33,if_pos (by simp;omega),if_pos (g6 hlt),if_pos (g6 hlt),if_neg (by simp),gp (by omega)];exact ih (i+1) (by omega)
 have h0:g33 (l,l,0)=_:=key l.length 0 (by omega);rw[g7t,if_neg (by simp),h0];rfl
theorem gvn(l:List (List Int))(hl:l.length < 9223372036854775807)(h:∀x,x∈l→x.length < 9223372036854775807) :g72 (l,l)=some true:=by
 have key:∀k i,i+k=l.length→g2z (l,l,(i:Int))=some (.inr ()):=by
   intro k
   induction k with
   | zero=>intro i hi;rw[g2z,if_neg (by simp;omega)]
   | succ k ih=>
     intro i hi;have hlt:i < l.length:=by omega
     rw[g2z,if_pos (by simp;omega),if_pos (g6 hlt),if_pos (g6 hlt),g7,gy7 _ (h _ (gi hlt []))];simp only[oZ4,oZ3];rw[if_neg (by simp),gp (by omega)];exact ih (i+1) (by omega)
 have h0:g2z (l,l,0)=_:=key l.length 0 (by omega);rw[g72,if_neg (by simp),h0];rfl
theorem gs0{ts:List SType}(H:DrOk ts){t:Int}{v:SValue}(hv:OkV v)(hf:vfit ts false t v) :g9m ((⟨ts⟩:SSchema),t,v)=some 0:=by
 have S:=H.V.sok H.T;obtain⟨v1,_⟩:=gpa H.T H.V;obtain⟨⟨g1,g2,_⟩,_⟩:=(g2r _ _ _).1 hf;have ho:¬(bif decide (t < 0)then true else decide ((ts.length:Int)≤t))=true:=by
   have h1:¬t < 0:=by omega
   have h2:¬(ts.length:Int)≤t:=by omega
   simp[h1,h2]
 have hx:g9l ((⟨ts⟩:SSchema),t)=some 0:=by
   rw[g9l];simp only[gap];rw[v1];simp only[oZ4,oZ3];rw[if_neg (by simp),if_neg ho]
 have hF:g5y ((⟨ts⟩:SSchema),t,v)=some true:=by
   obtain⟨q,p1,p2⟩:=gjv (by have:=S.n;omega) H.T S.K hv t false;obtain⟨x,x1,x2⟩:=ghh (by have:=S.n;omega) H.T S.K hv t false;have ex:x=q:=by rw[p2]at x1;exact(Option.some.inj x1).symm
   have hq:q=true:=by rw[←ex];exact x2.2 hf
   rw[g5y];simp only[SValue.gn];rw[p1,hq];rfl
 rw[g9m];simp only[SValue.gn];rw[hx];simp only[oZ4,oZ3];rw[if_neg (by simp),hF];rfl
noncomputable def prtA (ts:List SType) (t:Int) (v:SValue):List (List Int):=(vall ts t v).filterMap (sel ts [])
theorem gnv {ts : List SType} (H : DrOk ts) {t : Int} {v : SValue} (hv : OkV v) (hf : vfit ts false t v) (hw : wt v ≤ 5000000000) :
   g9c ((⟨ts⟩:SSchema),t,v)=some (prtA ts t v,0)∧g71 ((⟨ts⟩:SSchema),t,v)=some (prtA ts t v,0):=by
 have S:=H.V.sok H.T;obtain⟨_,e2⟩:=gvl H.T H.V hv hf;constructor
 · rw[g9c];simp only[SValue.gn];rw[gs0 H hv hf];simp only[oZ4,oZ3];rw[if_neg (by simp),gy5 H hv hf (by omega)];rfl
 · rw[g71];simp only[SValue.gn];rw[e2];simp only[oZ4,oZ3];have hp:=gy6 H hv t hf hw;unfold ggi at hp;have hl:=vall_len (ts:=ts) t v;have hr:=gdt S hv hf hw _ 0 [] (Nat.zero_add _) (by rw[List.length_nil];omega);rw[List.drop_zero,List.nil_append]at hr;have hr':g2f (t,(vall ts t v).map Prod.fst,0,ts,v,[])=_:=hr;rw[if_neg (by simp),hp]
   simp only[oZ3];rw[hr'];rfl
theorem gy8{d:Sheaveref08Draft}(hd:DrIn d) :g5d d=some true:=by
 rw[g5d,gg0];rcases of8 hd with⟨s,t,v,w,h⟩ | ⟨ts,t,v,w,h,H,_,⟨hf,hv,hvw⟩,⟨hg,hw,hww⟩⟩
 · rw[h];rfl
 · have S:=H.V.sok H.T;obtain⟨a1,a2⟩:=gnv H hw hg (by omega);obtain⟨c1,_⟩:=gnv H hv (vfit_weak _ _ hf) (by omega);have hc:prtA ts t v=[]:=gof.2 (gpg hv hf);rw[h];simp only[oZ4,oZ3,SValue.gn,Bool.not_true,cond_false,Bool.not_false,if_true];rw[if_neg (by simp),a1,a2,c1,hc];have hlen:(prtA ts t w).length < 9223372036854775807:=by
     have h1:=goe (ts:=ts) [] (vall ts t w);have h2:=vall_len (ts:=ts) t w;unfold prtA;omega
   have hl:=gvn (prtA ts t w) hlen fun x hx=>by
     unfold prtA at hx;obtain⟨q,hq,hs⟩:=List.mem_filterMap.1 hx;have hq':=vall_path t w q hq;unfold sel at hs;split at hs
     · cases hs;rw[List.nil_append];omega
     · cases hs
   obtain⟨p,p1,p2⟩:=gsr (by have:=S.n;omega) H.T S.K hw t;have hP:p=true↔prtA ts t w=[]:=by
     rw[p2];constructor
     · intro h;exact gof.2 (gpg hw h)
     · intro h;obtain⟨n1,n2⟩:=nounk S hw t hg (gof.1 h)
       rwa [n1]at n2
   have hB:decide (((prtA ts t w).length:Int)=0)=p:=by
     rw[Bool.eq_iff_iff,hP];cases prtA ts t w with
     | nil=>simp
     | cons a l=>simp;omega
   simp[hl,p1,hB,eqB];rw[Bool.eq_iff_iff,hP];simp
theorem law_RelayParts(h:Hs Un.D [.nm ixSheaveref08Draft])(hk:Ok Un [.nm ixSheaveref08Draft] h) :g5d h=some true:=gy8 (gz4 (okOne hk))
end
end Go.Proofs.YtijpinendaoleaaGreat
