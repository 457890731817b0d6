/- The functions of the program as functions of Lean, that its code does what they say, and what they answer; part C. -/
import Derived.Test.YthnmepafpikaiaaGreatEcB

namespace Go.Proofs.YthnmepafpikaiaaGreat
set_option linter.all false
section
open Go Go.Proofs.YthnmepafpikaiaaGreat.Shv Go.Sort
set_option maxRecDepth 100000
structure DrOk (ts:List SType):Prop where
 n1:1≤ts.length
 n5:ts.length≤5
 T:∀t,t∈ts→OkT t
 V:VOk ts
 D:∀t,t∈ts→g13e ts t.Members
 R:∀i:Nat,i < ts.length→∀m,m∈(ts.getD i dSType).Members→0≤m.Type_∧m.Type_ < ts.length∧(7≤(ts.getD m.Type_.toNat dSType).Kind∨m.Type_ < i)
 L:∀t,t∈ts→t.Kind=2→-3≤t.Low∧t.High≤8
 M:∀t,t∈ts→t.Max≤3
 I:∀t,t∈ts→(∀m,m∈t.Members→m.ID≤12)∧(∀y,y∈t.Symbols→y.ID≤6)∧t.Members.length≤12
 W:∀t,t∈ts→∀m,m∈t.Members→m.HasDefault=true→wt m.Default≤13
theorem gs9{v:SValue}(hk:v.Keys=[])(hi:v.Items=[])(hr:v.Rest=[])(hs:v.Str.length≤1000)(n1:I64 v.Kind)(n2:I64 v.Int_)(n3:I64 v.ID) :OkV v:=by
 refine .mk v (by unfold reachBytes;omega) (by rw[hk];simp) (by rw[hi];simp) (by rw[hr];simp) (fun x hx=>?_) (fun x hx=>?_) (fun x hx=>?_) n1 n2 n3 (fun x hx=>?_)
 · rw[hk]at hx;cases hx
 · rw[hi]at hx;cases hx
 · rw[hr]at hx;cases hx
 · rw[hr]at hx;cases hx
theorem okV_d :OkV dSValue:=gs9 rfl rfl rfl (by simp[dSValue]) (by unfold I64 dSValue;simp) (by unfold I64 dSValue;simp) (by unfold I64 dSValue;simp)
theorem g111{v:SValue}(hk:v.Keys=[])(hi:v.Items=[])(hr:v.Rest=[]) :wt v=10+v.Str.length:=by
 rw[wt_eq,hk,hi,hr,g10v];simp
section
variable {ns:List Nd} (hN:∀x,x∈ns→NOk x) (h5:ns.length≤5) (h1:1≤ns.length) {l:List SType} (hl:l.length=ns.length) (hT:∀j,j < ns.length→TyP ns (j:Int) (l.getD j dSType))
include hN h5 in
theorem gub{t:Int}(ht:0≤t∧t < ns.length){v:SValue}(h:Init ns t v) :OkV v∧wt v≤13:=by
 obtain⟨a,b,c,h⟩:=h;obtain⟨j,rfl⟩:∃j:Nat,t=(j:Int):=⟨t.toNat,by omega⟩
 have hx:=hN _ (gh (by omega:j < ns.length) dNd);obtain⟨_,k1,k9⟩:=kd_eq hN h5 ht.1 ht.2;rw[g7]at h;have ha:=hx.a;have hb:=hx.b;have hids:=(ids_eq' (ns.getD j dNd)).2.1.2;unfold U8 at ha hb;rw[g111 a b c];have hs:v.Str.length≤3:=by
   rcases h with⟨_,_,_,e,_⟩ | ⟨_,_,_,e,_⟩ | ⟨_,_,_,_,_,e⟩ | ⟨_,_,_,_,e,_⟩ | ⟨_,_,_,e,_⟩
   · rw[e];simp
   · rw[e];simp
   · omega
   · rw[e];simp
   · rw[e];simp
 refine⟨gs9 a b c (by omega) ?_ ?_ ?_,by omega⟩
 · unfold I64;rcases h with h | h | h | h | h <;> omega
 · unfold I64;rcases h with⟨_,_,e,_⟩ | ⟨_,_,_,_,_,e⟩ | ⟨_,_,_,e,_⟩ | ⟨_,_,_,e,_⟩ | ⟨_,_,e,_⟩ <;> omega
 · unfold I64;rcases h with⟨_,_,_,_,e⟩ | ⟨_,_,_,_,e,_⟩ | ⟨_,_,_,_,e,_⟩ | ⟨_,_,_,_,_,e⟩ | ⟨_,_,_,_,e,_⟩
   · omega
   · omega
   · omega
   · have:=hids _ e;omega
   · omega
include hN h5 in
theorem gnh{i:Int}{r:Bool}{Ms:List SMember}(h:MemsP ns i r Ms) :gak (!r) Ms∨(r=false∧Ms=[]):=by
 obtain⟨a,b,c⟩:=h;by_cases h0:r=false∧Ms=[]
 · exact .inr h0
 left;refine⟨fun m hm=>?_,?_,⟨a,fun m hm=>?_⟩,fun m hm=>?_,?_,by omega⟩
 · have q:=b m hm;unfold badM;have hz:m.HasDefault=false→g9h m.Default=true:=fun h=>by
     rw[q.nod h];have h3:Says (g49 (dSValue,dSValue)) dSValue dSValue:=gcn okV_d dSValue;obtain⟨w,w1,w2⟩:=h3;unfold g9h;rw[w1];exact w2.2 rfl
   have hc:=q.crit;have hu:=q.un;cases r <;> cases hcr:m.Critical <;> cases hdf:m.HasDefault <;> simp_all
 · cases r with
   | true=>exact .inl rfl
   | false=>
     right;have:Ms≠[]:=fun e=>h0 ⟨rfl,e⟩
     exact List.length_pos_iff.2 this
 · have:=(b m hm).id;exact⟨by omega,by omega⟩
 · have q:=b m hm;have:=q.id;rw[q.name];exact gyu (by omega) (by omega)
 · unfold List.Nodup;rw[List.pairwise_map];refine a.imp_of_mem fun {x y} hx hy hlt=>?_
   have qx:=b x hx;have qy:=b y hy;have ix:=qx.id;have iy:=qy.id;rw[qx.name,qy.name];intro e;simp only[List.cons.injEq,and_true,true_and]at e;have e2:=congrArg UInt8.toNat e;rw[g5c (by omega),g5c (by omega)]at e2;omega
theorem gni{l:List Int}(h:IdsOk l 6)(h1:1≤l.length)(h6:l.length≤6) :gjl (symsL l)∧(∀y,y∈symsL l→y.ID≤6):=by
 unfold symsL;refine⟨⟨by simp;omega,⟨?_,fun y hy=>?_⟩,fun y hy=>?_,?_,by simp;omega⟩,fun y hy=>?_⟩
 · rw[List.pairwise_map];exact h.1
 · obtain⟨x,hx,rfl⟩:=List.mem_map.1 hy;have:=h.2 x hx;exact⟨this.1,by show x≤1000;omega⟩
 · obtain⟨x,hx,rfl⟩:=List.mem_map.1 hy;have:=h.2 x hx;exact gyu (by omega) (by omega)
 · unfold List.Nodup;rw[List.pairwise_map,List.pairwise_map];refine h.1.imp_of_mem fun {x y} hx hy hlt=>?_
   have ix:=h.2 x hx;have iy:=h.2 y hy;intro e;simp only[List.cons.injEq,and_true,true_and]at e;have e2:=congrArg UInt8.toNat e;rw[g5c (by omega),g5c (by omega)]at e2;omega
 · obtain⟨x,hx,rfl⟩:=List.mem_map.1 hy;exact(h.2 x hx).2
theorem guc{i:Int}{t:SType}(h:TyP ns i t) :(kd ns i≤5∨kd ns i=7∨kd ns i=9→t.Kind=kd ns i)∧(kd ns i=6→t.Kind=5∨t.Kind=6)∧(kd ns i=8→(t.Kind=8∧∃w,KeyT ns w)∨(t.Kind=7∧¬∃w,KeyT ns w)):=by
 unfold TyP at h;rcases h with⟨k,rfl⟩ | ⟨k,rfl⟩ | ⟨k,rfl⟩ | ⟨k,_,rfl⟩ | ⟨k,_,_,rfl⟩ | ⟨k,rfl⟩ | ⟨k,_,_,_,_,rfl⟩ | ⟨k,rfl⟩ | ⟨k,a,rfl⟩ | ⟨k,w,a,rfl⟩ | ⟨k,rfl⟩ <;> simp[k]
 · exact fun w hw=>a w hw
 · exact⟨w,a⟩
theorem ghk{i:Int}{t:SType}(h:TyP ns i t) :t.Members=[]∨∃r,MemsP ns i r t.Members:=by
 unfold TyP at h;rcases h with⟨k,rfl⟩ | ⟨k,rfl⟩ | ⟨k,rfl⟩ | ⟨k,_,rfl⟩ | ⟨k,_,a,rfl⟩ | ⟨k,rfl⟩ | ⟨k,_,_,a,_,rfl⟩ | ⟨k,rfl⟩ | ⟨k,a,rfl⟩ | ⟨k,w,a,rfl⟩ | ⟨k,rfl⟩
 · exact .inl rfl
 · exact .inl rfl
 · exact .inl rfl
 · exact .inl rfl
 · exact .inr ⟨_,a⟩
 · exact .inl rfl
 · exact .inr ⟨_,a⟩
 · exact .inl rfl
 · exact .inl rfl
 · exact .inl rfl
 · exact .inl rfl
include hN h5 h1 hl hT in
theorem gzz :DrOk l:=by
 have lift:∀{P:SType→Prop},(∀j,j < ns.length→P (l.getD j dSType))→∀t,t∈l→P t:=fun hp t ht=>by
   obtain⟨i,hi,rfl⟩:=List.getElem_of_mem ht;have:=hp i (by omega);rw[g16 hi]at this;exact this
 have hx:∀j,j < ns.length→NOk (ns.getD j dNd):=fun j hj=>hN _ (gh hj dNd)
 have mem:∀j,j < ns.length→∀m,m∈(l.getD j dSType).Members→∃r,MemP ns (j:Int) r m:=fun j hj m hm=>by
   rcases ghk (hT j hj)with h | ⟨r,_,h,_⟩
   · rw[h]at hm;cases hm
   · exact⟨r,h m hm⟩
 have okT:∀t,t∈l→OkT t:=lift fun j hj=>by
   have hm:=mem j hj;have ht:=hT j hj;have hlm:(l.getD j dSType).Members.length≤12:=by
     rcases ghk ht with h | ⟨r,_,_,h⟩
     · rw[h];simp
     · exact h
   have hls:(l.getD j dSType).Symbols.length≤6:=by
     have hi:=(ids_eq' (ns.getD j dNd)).2.2.2;unfold TyP at ht;rcases ht with⟨k,e⟩ | ⟨k,e⟩ | ⟨k,e⟩ | ⟨k,_,e⟩ | ⟨k,_,_,e⟩ | ⟨k,e⟩ | ⟨k,_,_,_,_,e⟩ | ⟨k,e⟩ | ⟨k,_,e⟩ | ⟨k,_,_,e⟩ | ⟨k,e⟩ <;> rw[e]
     case inr.inr.inr.inl=>simp only[g7,symsL,List.length_map];exact hi
     all_goals simp
   refine⟨by unfold reachBytes;omega,by unfold reachBytes;omega,fun m hm'=>?_⟩;obtain⟨r,q⟩:=hm m hm';by_cases hd:m.HasDefault=true
   · exact(gub hN h5 ⟨q.tgt.1,q.tgt.2.1⟩ (q.dfl hd)).1
   · rw[q.nod (by simpa using hd)];exact okV_d
 have kind7:∀u:Int,0≤u→u < ns.length→7≤kd ns u→7≤(l.getD u.toNat dSType).Kind:=fun u h0 hu h7=>by
   obtain⟨j,rfl⟩:∃j:Nat,u=(j:Int):=⟨u.toNat,by omega⟩
   rw[g7];obtain⟨_,_,k9⟩:=kd_eq hN h5 h0 hu;obtain⟨a,b,c⟩:=guc (hT j (by omega));have:kd ns (j:Int)=7∨kd ns (j:Int)=8∨kd ns (j:Int)=9:=by omega
   rcases this with h | h | h
   · have:=a (.inr (.inl h));omega
   · rcases c h with h | h <;> omega
   · have:=a (.inr (.inr h));omega
 have vok:VOk l:=by
   refine⟨by omega,lift fun j hj=>?_,fun j hj=>?_,lift fun j hj=>?_,lift fun j hj h8=>?_⟩
   · have ht:=hT j hj;have hid:=ids_eq' (ns.getD j dNd);have ha:=(hx j hj).a;have hb:=(hx j hj).b;have hnm:nm [UInt8.ofNat (65+j)]=true:=g13i (by omega);unfold U8 at ha hb;unfold TyP at ht;simp only[g7]at ht;generalize [UInt8.ofNat (65+j)]=nmL at hnm ht;unfold FormP
     rcases ht with⟨k,e⟩ | ⟨k,e⟩ | ⟨k,e⟩ | ⟨k,_,e⟩ | ⟨k,Ms,a,e⟩ | ⟨k,e⟩ | ⟨k,Ms,_,a,a0,e⟩ | ⟨k,e⟩ | ⟨k,_,e⟩ | ⟨k,_,_,e⟩ | ⟨k,e⟩ <;> rw[e]
     · simp
     · simp;omega
     · simp;omega
     · simp;exact⟨hnm,(gni hid.2.1 hid.2.2.1 hid.2.2.2).1⟩
     · simp;refine⟨hnm,?_⟩;rcases gnh hN h5 a with h | ⟨h,_⟩
       · exact h
       · cases h
     · simp;exact⟨hnm,fun m hm=>(by cases hm),.inl rfl,⟨.nil,fun m hm=>by cases hm⟩,fun m hm=>(by cases hm),by simp,by simp⟩
     · simp;refine⟨hnm,?_⟩;rcases gnh hN h5 a with h | ⟨_,h⟩
       · exact h
       · rw[h]at a0;simp at a0
     · simp;omega
     · simp;omega
     · simp;omega
     · simp
   ·
     have nameOf:∀k,k < ns.length→(l.getD k dSType).Name=[]∨(l.getD k dSType).Name=[UInt8.ofNat (65+k)]:=fun k hk=>by
       have ht:=hT k hk;unfold TyP at ht;simp only[g7]at ht;rcases ht with⟨k,e⟩ | ⟨k,e⟩ | ⟨k,e⟩ | ⟨k,_,e⟩ | ⟨k,Ms,a,e⟩ | ⟨k,e⟩ | ⟨k,Ms,_,a,a0,e⟩ | ⟨k,e⟩ | ⟨k,_,e⟩ | ⟨k,_,_,e⟩ | ⟨k,e⟩ <;> rw[e] <;> simp
     rcases nameOf j (by omega)with h | h
     · rw[h];simp
     · rw[h];simp only[Bool.and_eq_false_iff];right;apply Bool.eq_false_iff.2;intro hc;obtain⟨k,hk,he⟩:=(g4s (by simp;omega)).1 hc;have hg:(l.map (·.Name)).getD k []=(l.getD k dSType).Name:=g2c (·.Name) l k dSType [] (by omega);rw[hg]at he;rcases nameOf k (by omega)with h' | h'
       · rw[h']at he;cases he
       · rw[h']at he;simp only[List.cons.injEq,and_true]at he;have e2:=congrArg UInt8.toNat he;rw[g5c (by omega),g5c (by omega)]at e2;omega
   · intro u hu;have hm:=mem j hj;have hc:=(hx j hj).c;unfold U8 at hc;have c0:0≤(ns.getD j dNd).C % (ns.length:Int):=Int.emod_nonneg _ (by omega);have c1:(ns.getD j dNd).C % (ns.length:Int) < ns.length:=Int.emod_lt_of_pos _ (by omega);have ht:=hT j hj;unfold TyP at ht;simp only[g7]at ht;generalize (ns.getD j dNd).C % (ns.length:Int)=cc at c0 c1 ht;unfold usesL at hu
     simp only[List.mem_append,List.mem_map]at hu;rcases hu with(⟨m,h,rfl⟩ | h) | h
     · obtain⟨r,q⟩:=hm m h;have:=q.tgt.1;have:=q.tgt.2.1;omega
     · split at h
       · rename_i h8;have:u=(l.getD j dSType).Key:=by simpa using h
         rw[this];rcases ht with⟨k,e⟩ | ⟨k,e⟩ | ⟨k,e⟩ | ⟨k,_,e⟩ | ⟨k,Ms,a,e⟩ | ⟨k,e⟩ | ⟨k,Ms,_,a,a0,e⟩ | ⟨k,e⟩ | ⟨k,_,e⟩ | ⟨k,w,a,e⟩ | ⟨k,e⟩ <;> rw[e]at h8 ⊢ <;> simp at h8 ⊢
         obtain⟨w0,w1,_⟩:=a;omega
       · cases h
     · split at h
       · rename_i h7;have:u=(l.getD j dSType).Elem:=by simpa using h
         rw[this];rcases ht with⟨k,e⟩ | ⟨k,e⟩ | ⟨k,e⟩ | ⟨k,_,e⟩ | ⟨k,Ms,a,e⟩ | ⟨k,e⟩ | ⟨k,Ms,_,a,a0,e⟩ | ⟨k,e⟩ | ⟨k,_,e⟩ | ⟨k,w,a,e⟩ | ⟨k,e⟩ <;> rw[e]at h7 ⊢ <;> simp at h7 ⊢ <;> omega
       · cases h
   · have ht:=hT j hj;unfold TyP at ht;simp only[g7]at ht;rcases ht with⟨k,e⟩ | ⟨k,e⟩ | ⟨k,e⟩ | ⟨k,_,e⟩ | ⟨k,Ms,a,e⟩ | ⟨k,e⟩ | ⟨k,Ms,_,a,a0,e⟩ | ⟨k,e⟩ | ⟨k,_,e⟩ | ⟨k,w,a,e⟩ | ⟨k,e⟩ <;> rw[e]at h8 ⊢ <;> simp at h8 ⊢
     obtain⟨w0,w1,w2,w3⟩:=a;obtain⟨q,rfl⟩:∃q:Nat,w=(q:Int):=⟨w.toNat,by omega⟩
     obtain⟨a,_,_⟩:=guc (hT q (by omega));have:=a (.inl (by omega));simp only[g7];rw[←List.getD_eq_getElem?_getD];omega
 refine⟨by omega,by omega,okT,vok,lift fun j hj m hm hd=>?_,fun j hj m hm=>?_,lift fun j hj h2=>?_,lift fun j hj=>?_,lift fun j hj=>⟨fun m hm=>?_,fun y hy=>?_,?_⟩,lift fun j hj m hm hd=>?_⟩
 · obtain⟨r,q⟩:=mem j hj m hm;have hi:=q.dfl hd;obtain⟨u0,u1,_⟩:=q.tgt;generalize m.Default=v at hi;obtain⟨u,hu⟩:∃u:Nat,m.Type_=(u:Int):=⟨m.Type_.toNat,by omega⟩
   rw[hu]at hi u0 u1 ⊢;have ht:=hT u (by omega);obtain⟨a,b,c,hi⟩:=hi;rw[gb2];simp only[g7]at hi ⊢;unfold TyP at ht;simp only[g7]at ht;have hlen:((l.length:Nat):Int)=ns.length:=by omega
   rw[hlen];generalize l.getD u dSType=x at ht ⊢;rw[a,b,c];have vn:∀t,vfits l true t []:=fun t=>by rw[vfits];trivial
   have ka:gb1 []:=fun i hi=>by simp at hi
   have hxu:=hx u (by omega);generalize ns.getD u dNd=nd at ht hi hxu;rcases hi with⟨k,e1,e2,e3,e4⟩ | ⟨k,e1,e2,e3,e4,e5,e6⟩ | ⟨k,e1,e2,e3,e4,e5⟩ | ⟨k,e1,e2,e3,e4,e5⟩ | ⟨k,e1,e2,e3,e4,e5⟩
   · rw[k]at ht;simp only[Int.reduceEq,false_and,true_and,or_false,false_or]at ht;rw[ht,e1,e2,e3,e4];simp <;> omega
   · rw[k]at ht;simp only[Int.reduceEq,false_and,true_and,or_false,false_or]at ht;rw[ht,e1,e2,e3,e4];simp <;> omega
   · rw[k]at ht;simp only[Int.reduceEq,false_and,true_and,or_false,false_or]at ht;rw[ht,e1,e2,e3,e4];simp <;> omega
   · rw[k]at ht;simp only[Int.reduceEq,false_and,true_and,or_false,false_or]at ht;obtain⟨o,rfl⟩:=ht;rw[e1,e2,e3,e4];simp;refine⟨by omega,⟨v.ID,[UInt8.ofNat 115,UInt8.ofNat (97+v.ID.toNat)]⟩,?_,rfl⟩;unfold symsL;refine List.mem_map.2 ⟨v.ID,?_,rfl⟩;exact e5
   · rw[e1,e2,e3,e4];have k9:kd ns (u:Int)≤9:=(kd_eq hN h5 u0 u1).2.2;have hcc:kd ns (u:Int)=7∨kd ns (u:Int)=8∨kd ns (u:Int)=9:=by omega
     have ha:=hxu.a;unfold U8 at ha;rcases hcc with k' | k' | k'
     · rw[k']at ht e5;simp only[Int.reduceEq,false_and,true_and,or_false,false_or]at ht;have e5':v.Kind=7:=by simpa using e5
       rw[ht,e5'];simp[vn];omega
     · rw[k']at ht e5;simp at e5;rcases e5 with⟨e5,w,hw⟩ | ⟨e5,e6⟩
       · simp at ht;rcases ht with⟨hno,_⟩ | ⟨w',hw',rfl⟩
         · exact absurd hw (hno w)
         · rw[e5];simp[vn,ka];omega
       · simp at ht;rcases ht with⟨hno,rfl⟩ | ⟨w',hw',rfl⟩
         · rw[e5];simp[vn];omega
         · exact absurd hw' (e6 w')
     · rw[k']at ht e5;simp only[Int.reduceEq,false_and,true_and,or_false,false_or]at ht;have e5':v.Kind=9:=by simpa using e5
       rw[ht,e5'];simp[vn];omega
 · obtain⟨r,q⟩:=mem j (by omega) m hm;obtain⟨u0,u1,u2⟩:=q.tgt;refine⟨u0,by omega,?_⟩;rcases u2 with h | h
   · exact .inl (kind7 _ u0 u1 h)
   · exact .inr h
 · have ht:=hT j hj;have ha:=(hx j hj).a;have hb:=(hx j hj).b;unfold U8 at ha hb;unfold TyP at ht;simp only[g7]at ht;rcases ht with⟨k,e⟩ | ⟨k,e⟩ | ⟨k,e⟩ | ⟨k,_,e⟩ | ⟨k,Ms,a,e⟩ | ⟨k,e⟩ | ⟨k,Ms,_,a,a0,e⟩ | ⟨k,e⟩ | ⟨k,_,e⟩ | ⟨k,w,a,e⟩ | ⟨k,e⟩ <;> rw[e]at h2 ⊢ <;> simp at h2 ⊢
   omega
 · have ht:=hT j hj;have ha:=(hx j hj).a;unfold U8 at ha;unfold TyP at ht;simp only[g7]at ht;rcases ht with⟨k,e⟩ | ⟨k,e⟩ | ⟨k,e⟩ | ⟨k,_,e⟩ | ⟨k,Ms,a,e⟩ | ⟨k,e⟩ | ⟨k,Ms,_,a,a0,e⟩ | ⟨k,e⟩ | ⟨k,_,e⟩ | ⟨k,w,a,e⟩ | ⟨k,e⟩ <;> rw[e] <;> simp <;> omega
 · obtain⟨r,q⟩:=mem j hj m hm;exact q.id.2
 · have ht:=hT j hj;have hid:=ids_eq' (ns.getD j dNd);unfold TyP at ht;simp only[g7]at ht;rcases ht with⟨k,e⟩ | ⟨k,e⟩ | ⟨k,e⟩ | ⟨k,_,e⟩ | ⟨k,Ms,a,e⟩ | ⟨k,e⟩ | ⟨k,Ms,_,a,a0,e⟩ | ⟨k,e⟩ | ⟨k,_,e⟩ | ⟨k,w,a,e⟩ | ⟨k,e⟩ <;> rw[e]at hy <;> simp at hy
   exact(gni hid.2.1 hid.2.2.1 hid.2.2.2).2 y hy
 · rcases ghk (hT j hj)with h | ⟨r,_,_,h⟩
   · rw[h];simp
   · exact h
 · obtain⟨r,q⟩:=mem j hj m hm;exact(gub hN h5 ⟨q.tgt.1,q.tgt.2.1⟩ (q.dfl hd)).2
end
theorem of_ok{d:Sheaveref07Draft}(hd:DOk d) :g5o d=some (⟨[]⟩,false)∨∃l,g5o d=some (⟨l⟩,true)∧DrOk l:=by
 rcases of_eq hd with h | ⟨l,a,b,c,e,f⟩
 · exact .inl h
 · exact .inr ⟨l,a,gzz hd.2 c b e f⟩
end
section
open Go Go.Proofs.YthnmepafpikaiaaGreat.Shv Go.Sort
set_option maxRecDepth 100000
def Suf(C' C:List Int) :Prop:=C'.length≤C.length∧∀c,c∈C'→c∈C
theorem Suf.refl(C:List Int) :Suf C C:=⟨Nat.le_refl _,fun _ h=>h⟩
theorem Suf.trans{A B C:List Int}(h:Suf A B)(k:Suf B C) :Suf A C:=⟨Nat.le_trans h.1 k.1,fun c hc=>k.2 c (h.2 c hc)⟩
def CU8(C:List Int) :Prop:=∀c,c∈C→U8 c
section
variable {ts:List SType}
end
end
section
open Go Go.Proofs.YthnmepafpikaiaaGreat.Shv Go.Sort
set_option maxRecDepth 100000
section
variable {ts:List SType}
mutual
theorem vfit_weak :∀(v:SValue) (t:Int),vfit ts true t v→vfit ts false t v
 | ⟨k,b,i,s,id,ks,is,r⟩,t,h=>by
   rw[vfit]at h ⊢;obtain⟨⟨h1,h2,h3,h4⟩,h5⟩:=h;have w:=vfits_weak is;have wk:=vfits_weak ks;have wm:=vfitm_weak is;refine⟨⟨h1,h2,h3,fun h=>by cases h⟩,?_⟩;have c6:(match findM (ts.getD t.toNat dSType).Members id with
     | some m=>r=[]∧is.length=1∧vfits ts true m.Type_ is
     | none=>(ts.getD t.toNat dSType).Open=true∧true=false∧I1000 id∧is=[]∧∃d,r=[⟨id,d⟩])→(match findM (ts.getD t.toNat dSType).Members id with
     | some m=>r=[]∧is.length=1∧vfits ts false m.Type_ is
     | none=>(ts.getD t.toNat dSType).Open=true∧false=false∧I1000 id∧is=[]∧∃d,r=[⟨id,d⟩]):=by
     split
     · rintro ⟨a,b,c⟩;exact⟨a,b,w _ c⟩
     · rintro ⟨_,b,_⟩;cases b
   rcases h5 with h | h | h | ⟨a1,a2,a3,a4,a5,a6,a7,a8⟩ | ⟨a1,a2,a3,a4,a5,a6,a7,a8⟩ | ⟨a1,a2,a3,a4,a5,a6⟩ | ⟨a1,a2,a3,a4,a5,a6,a7,a8,a9⟩ | ⟨a1,a2,a3,a4,a5,a6,a7,a8,a9,a10,a11⟩ | ⟨a1,a2,a3,a4,a5,a6,a7,a8,a9⟩
   · exact .inl h
   · exact .inr (.inl h)
   · exact .inr (.inr (.inl h))
   · refine .inr (.inr (.inr (.inl ⟨a1,a2,a3,a4,a5,a6,a7,?_⟩)));rcases a8 with h | ⟨_,h,_⟩
     · exact .inl h
     · cases h
   · exact .inr (.inr (.inr (.inr (.inl ⟨a1,a2,a3,a4,a5,a6,a7,wm _ a8⟩))))
   · exact .inr (.inr (.inr (.inr (.inr (.inl ⟨a1,a2,a3,a4,a5,c6 a6⟩)))))
   · exact .inr (.inr (.inr (.inr (.inr (.inr (.inl ⟨a1,a2,a3,a4,a5,a6,a7,a8,w _ a9⟩))))))
   · exact .inr (.inr (.inr (.inr (.inr (.inr (.inr (.inl ⟨a1,a2,a3,a4,a5,a6,a7,a8,wk _ a9,w _ a10,a11⟩)))))))
   · exact .inr (.inr (.inr (.inr (.inr (.inr (.inr (.inr ⟨a1,a2,a3,a4,a5,a6,a7,a8,w _ a9⟩)))))))
theorem vfits_weak :∀(l:List SValue) (t:Int),vfits ts true t l→vfits ts false t l
 | [],t,h=>by rw[vfits];trivial
 | v::l,t,h=>by
   rw[vfits]at h ⊢;exact⟨vfit_weak v t h.1,vfits_weak l t h.2⟩
theorem vfitm_weak :∀(l:List SValue) (ms:List SMember),vfitm ts true ms l→vfitm ts false ms l
 | [],[],h=>by rw[vfitm];trivial
 | [],m::ms,h=>by
   have:vfitm ts true (m::ms) []=False:=by rw[vfitm] <;> (intros;simp_all)
   rw[this]at h;exact h.elim
 | v::l,[],h=>by
   have:vfitm ts true [] (v::l)=False:=by rw[vfitm] <;> (intros;simp_all)
   rw[this]at h;exact h.elim
 | v::l,m::ms,h=>by
   rw[vfitm]at h ⊢;exact⟨vfit_weak v m.Type_ h.1,vfitm_weak l ms h.2⟩
end
def rk(ts:List SType)(t:Nat) :Nat:=if 7≤(ts.getD t dSType).Kind then 0 else t+1
end
end
section
open Go Go.Proofs.YthnmepafpikaiaaGreat.Shv Go.Sort
set_option maxRecDepth 100000
section
variable {ts:List SType}
end
structure DrIn (d:Sheaveref08Draft):Prop where
 s:DOk d.S
 t:U8 d.T
 c:CU8 d.C
 l:d.C.length≤reachBytes
end
section
open Go Go.Proofs.YthnmepafpikaiaaGreat.Shv Go.Sort
set_option maxRecDepth 100000
theorem g100{ts:List SType}(H:SOk ts){v:SValue}(hv:OkV v)(t:Int)(pl:Bool) :SaysP (g3w ((⟨ts⟩:SSchema),t,v,pl)) (vfit ts pl t v):=by
 obtain⟨r,h1,h2⟩:=gzy (by have:=H.n;omega) H.T H.K hv t pl;obtain⟨q,q1,q2⟩:=gyd (by have:=H.n;omega) H.T H.K hv t pl;rw[h1]at q2;have:r=q:=Option.some.inj q2;subst this;exact⟨r,q1,h2⟩
theorem g112{d:Sheaveref07Draft}(h:WF Un ⟨.slice (.nm ixSheaveref07Node),d.Nodes⟩) :DOk d:=by
 obtain⟨a,_,c⟩:=grr (t:= .nm ixSheaveref07Node) h;refine⟨a,fun x hx=>?_⟩;have hc:=c x hx;have u8:∀{n:Int},WF Un ⟨.int .u8,n⟩→U8 n:=fun {n} h=>by
   cases h with
   | int k n h=>
     simp[Lit.wf,IntKind.min,IntKind.max,IntKind.bits,IntKind.signed]at h;unfold U8;omega
 have c1:=hc ⟨.int .u8,x.Kind⟩ (.head _);have c2:=hc ⟨.int .u8,x.A⟩ (.tail _ (.head _));have c3:=hc ⟨.int .u8,x.B⟩ (.tail _ (.tail _ (.head _)));have c4:=hc ⟨.int .u8,x.C⟩ (.tail _ (.tail _ (.tail _ (.head _))));have c5:=hc ⟨.slice (.nm ixSheaveref07Part),x.Parts⟩ (.tail _ (.tail _ (.tail _ (.tail _ (.head _)))));obtain⟨p1,_,p3⟩:=grr (t:= .nm ixSheaveref07Part) c5
 refine⟨u8 c1,u8 c2,u8 c3,u8 c4,fun q hq=>?_,p1⟩;have hq':=p3 q hq;exact⟨u8 (hq' ⟨.int .u8,q.ID⟩ (.head _)),u8 (hq' ⟨.int .u8,q.Type_⟩ (.tail _ (.head _))),u8 (hq' ⟨.int .u8,q.Flag⟩ (.tail _ (.tail _ (.head _))))⟩
end
section
open Go Go.Proofs.YthnmepafpikaiaaGreat.Shv Go.Sort
set_option maxRecDepth 100000
def fb(n:Nat) :List UInt8→Nat
 | []=>n
 | c::s=>fb (n*256+c.toNat) s
theorem fb_lt :∀(s:List UInt8) (n k:Nat),n < 256 ^ k→fb n s < 256 ^ (k+s.length)
 | [],n,k,h=>by simpa[fb]using h
 | c::s,n,k,h=>by
   have hc:c.toNat < 256:=UInt8.toNat_lt c;have h1:n*256+c.toNat < 256 ^ (k+1):=by rw[Nat.pow_succ];omega
   have:=fb_lt s _ (k+1) h1;simp only[fb,List.length_cons];have e:k+(s.length+1)=k+1+s.length:=by omega
   rw[e];exact this
theorem shl8{n:Nat}(h:n < 72057594037927936) :shlI .u64 (n:Int) 8=((n*256:Nat):Int):=by
 unfold shlI;have e:((2:Int) ^ min (8:Int).toNat IntKind.u64.bits)=256:=by decide
 rw[e];have:(n:Int)*256=((n*256:Nat):Int):=by push_cast;rfl
 rw[this];exact wrapu (by omega) (by omega)
theorem g113{a b:Nat}(ha:a < 72057594037927936)(hb:b < 256) :orI .u64 ((a*256:Nat):Int) (b:Int)=((a*256+b:Nat):Int):=by
 have e:(BitVec.ofInt 64 ((a*256:Nat):Int) ||| BitVec.ofInt 64 (b:Int)).toNat=a*256+b:=by
   rw[BitVec.ofInt_natCast,BitVec.ofInt_natCast,BitVec.toNat_or,BitVec.toNat_ofNat,BitVec.toNat_ofNat,two64,Nat.mod_eq_of_lt (by omega),Nat.mod_eq_of_lt (by omega)];have h:=Nat.shiftLeft_add_eq_or_of_lt (show b < 2 ^ 8 by omega) a;rw[Nat.shiftLeft_eq]at h;exact h.symm
 show IntKind.u64.wrap (((BitVec.ofInt 64 ((a*256:Nat):Int) ||| BitVec.ofInt 64 (b:Int)).toNat:Nat):Int)=_;rw[e];exact wrapu (by omega) (by omega)
theorem g13k :(256:Nat) ^ 8=18446744073709551616:=by decide
theorem glm{s:List UInt8}(hs:s.length≤8) :∀(k i n:Nat),i+k=s.length→n < 256 ^ i→g31 (s,(n:Int),(s.length:Int),(i:Int))=some ((fb n (s.drop i):Nat):Int)
 | 0,i,n,hi,hn=>by
   rw[g31,if_neg (by simp;omega),List.drop_eq_nil_of_le (by omega:s.length≤i)];rfl
 | k+1,i,n,hi,hn=>by
   have hlt:i < s.length:=by omega
   have hb:=gbk s i;have hn7:n < 72057594037927936:=by
     have:(256:Nat) ^ i≤256 ^ 7:=Nat.pow_le_pow_right (by omega) (by omega);have e:(256:Nat) ^ 7=72057594037927936:=by decide
     omega
   rw[g31,if_pos (by simp;omega),if_pos (g6 hlt),shl8 hn7,g5q,wrpn (by omega),g113 hn7 hb,g9 (by omega),glm hs k (i+1) _ (by omega) (by rw[Nat.pow_succ];omega),g1m hlt 0];rfl
theorem gln{s:List UInt8}(hs:s.length≤8) :∀(k i n:Nat),i+k=s.length→n < 256 ^ i→g1y (s,(n:Int),(i:Int))=some ((fb n (s.drop i):Nat):Int)
 | 0,i,n,hi,hn=>by
   rw[g1y,if_neg (by simp;omega),List.drop_eq_nil_of_le (by omega:s.length≤i)];rfl
 | k+1,i,n,hi,hn=>by
   have hlt:i < s.length:=by omega
   have hb:=gbk s i;have hn7:n < 72057594037927936:=by
     have:(256:Nat) ^ i≤256 ^ 7:=Nat.pow_le_pow_right (by omega) (by omega);have e:(256:Nat) ^ 7=72057594037927936:=by decide
     omega
   have e1:mulI .u64 (n:Int) 256=((n*256:Nat):Int):=mulIn (b:=256) (by omega);rw[g1y,if_pos (by simp;omega),if_pos (g6 hlt),e1,g5q,wrpn (by omega),addIn (by omega),g9 (by omega),gln hs k (i+1) _ (by omega) (by rw[Nat.pow_succ];omega),g1m hlt 0];rfl
def vub(s:List UInt8) :Option Nat:=if s.head?=some 0∨8 < s.length then none else some (fb 0 s)
theorem gyy{s:List UInt8}{n:Nat}(h:vub s=some n) :n < 18446744073709551616:=by
 unfold vub at h;split at h
 · cases h
 · rename_i hh;cases h;have:=fb_lt s 0 0 (by simp);have h2:(256:Nat) ^ (0+s.length)≤256 ^ 8:=Nat.pow_le_pow_right (by omega) (by omega);rw[g13k]at h2;omega
theorem gpf{s:List UInt8}(h:s≠[]) :(g2u s 0=0)↔s.head?=some 0:=by
 cases s with
 | nil=>exact absurd rfl h
 | cons c s=>
   have:g2u (c::s) 0=(c.toNat:Int):=g5q (c::s) 0;rw[this];simp only[List.head?_cons,Option.some.injEq];constructor
   · intro h;exact UInt8.toNat_inj.1 (by simpa using h)
   · rintro rfl;rfl
theorem ghl(s:List UInt8) :∃r,g95 s=some r∧g5j s=some r∧(r.2=0→∃n,vub s=some n∧r.1=(n:Int))∧(r.2≠0→vub s=none):=by
 rw[g95,g5j];simp only[oZ4,oZ3];by_cases h0:s=[]
 · subst h0;have e1:g31 ([],0,((([]:List UInt8)).length:Int),0)=some ((fb 0 []:Nat):Int):=glm (s:=[]) (by simp) 0 0 0 rfl (by simp);have e2:g1y ([],0,0)=some ((fb 0 []:Nat):Int):=gln (s:=[]) (by simp) 0 0 0 rfl (by simp);refine⟨(((fb 0 []:Nat):Int),0),?_,?_,fun _=>⟨0,rfl,rfl⟩,fun h=>absurd rfl h⟩
   · show(g31 ([],0,((([]:List UInt8)).length:Int),0) >>=_)=_;rw[e1];rfl
   · show(g1y ([],0,0) >>=_)=_;rw[e2];rfl
 · have hpos:0 < s.length:=List.length_pos_iff.2 h0;have hin:inR 0 s.length=true:=g6 (k:=0) hpos;have hd:decide ((0:Int) < (s.length:Int))=true:=by simp;omega
   have hd2:(!(decide (s=[])))=true:=by simp[h0]
   rw[hd,hd2,hin];simp only[Bool.true_or,if_true,cond_true];by_cases hz:g2u s 0=0
   · have hzc:decide (g2u s 0=0)=true:=by simp[hz]
     rw[if_pos hzc,if_pos hzc];refine⟨_,rfl,rfl,fun h=>(by cases h),fun _=>?_⟩;unfold vub;rw[if_pos (.inl ((gpf h0).1 hz))]
   · have hzc:¬(decide (g2u s 0=0)=true):=by simp[hz]
     rw[if_neg hzc,if_neg hzc];by_cases h8:8 < s.length
     · have:decide ((8:Int) < (s.length:Int))=true:=by simp;omega
       rw[if_pos this,if_pos this];refine⟨_,rfl,rfl,fun h=>(by cases h),fun _=>?_⟩;unfold vub;rw[if_pos (.inr h8)]
     · have:¬(decide ((8:Int) < (s.length:Int))=true):=by simp;omega
       rw[if_neg this,if_neg this];have e1:g31 (s,0,(s.length:Int),0)=some ((fb 0 s:Nat):Int):=glm (by omega) s.length 0 0 (by omega) (by simp);have e2:g1y (s,0,0)=some ((fb 0 s:Nat):Int):=gln (by omega) s.length 0 0 (by omega) (by simp);rw[e1,e2];refine⟨_,rfl,rfl,fun _=>⟨fb 0 s,?_,rfl⟩,fun h=>absurd rfl h⟩;unfold vub;rw[if_neg]
       rintro (h | h)
       · exact hz ((gpf h0).2 h)
       · exact h8 h
def unz(n:Nat) :Int:=if n % 2=0 then((n / 2:Nat):Int)else -((n / 2:Nat):Int) - 1
theorem g13l{n:Nat}(h:n < 18446744073709551616) :g5b (n:Int)=some (unz n):=by
 rw[g5b];have e1:remI (n:Int) 2=((n % 2:Nat):Int):=remIn (b:=2);have e2:quoI .u64 (n:Int) 2=((n / 2:Nat):Int):=quoI2 h;rw[e1,e2,wrp64 (by omega) (by omega)];unfold unz;by_cases h0:n % 2=0
 · rw[if_pos (by simp;omega),if_pos h0]
 · have e3:subI .i64 0 ((n / 2:Nat):Int)= -((n / 2:Nat):Int):=by rw[g5s (by omega) (by omega)];omega
   rw[if_neg (by simp;omega),if_neg h0,e3,g5s (by omega) (by omega)]
theorem and1{n:Nat}(h:n < 18446744073709551616) :andI .u64 (n:Int) 1=((n % 2:Nat):Int):=by
 have e:(BitVec.ofInt 64 (n:Int) &&& BitVec.ofInt 64 (1:Int)).toNat=n % 2:=by
   have h1:BitVec.ofInt 64 (1:Int)=BitVec.ofNat 64 1:=by decide
   rw[h1,BitVec.ofInt_natCast,BitVec.toNat_and,BitVec.toNat_ofNat,BitVec.toNat_ofNat,two64,Nat.mod_eq_of_lt h];exact Nat.and_one_is_mod n
 show IntKind.u64.wrap (((BitVec.ofInt 64 (n:Int) &&& BitVec.ofInt 64 (1:Int)).toNat:Nat):Int)=_;rw[e];exact wrapu (by omega) (by omega)
theorem shr1{n:Nat} :shrI .u64 (n:Int) 1=((n / 2:Nat):Int):=by
 unfold shrI;have:((2:Int) ^ min (1:Int).toNat IntKind.u64.bits)=2:=by decide
 rw[this,Int.fdiv_eq_ediv_of_nonneg _ (by omega)];omega
theorem gyz{a:Nat}(h:a < 9223372036854775808) :xorI .i64 (a:Int) 0=(a:Int):=by
 have e:(BitVec.ofInt 64 (a:Int) ^^^ BitVec.ofInt 64 (0:Int)).toNat=a:=by
   have:BitVec.ofInt 64 (0:Int)=BitVec.ofNat 64 0:=by decide
   rw[this,BitVec.ofInt_natCast,BitVec.toNat_xor,BitVec.toNat_ofNat,BitVec.toNat_ofNat,two64,Nat.mod_eq_of_lt (by omega)];simp
 show IntKind.i64.wrap (((BitVec.ofInt 64 (a:Int) ^^^ BitVec.ofInt 64 (0:Int)).toNat:Nat):Int)=_;rw[e,IntKind.wrap_i64];omega
theorem gz0{a:Nat}(h:a < 9223372036854775808) :xorI .i64 (a:Int) (-1)= -(a:Int) - 1:=by
 have e:(BitVec.ofInt 64 (a:Int) ^^^ BitVec.ofInt 64 (-1:Int)).toNat=18446744073709551615 - a:=by
   have h1:BitVec.ofInt 64 (-1:Int)=BitVec.allOnes 64:=by decide
   rw[h1,BitVec.ofInt_natCast,BitVec.xor_allOnes,BitVec.toNat_not,BitVec.toNat_ofNat,two64,Nat.mod_eq_of_lt (by omega)]
 all_goals (try omega)
 show IntKind.i64.wrap (((BitVec.ofInt 64 (a:Int) ^^^ BitVec.ofInt 64 (-1:Int)).toNat:Nat):Int)=_;rw[e,IntKind.wrap_i64];omega
theorem g13m{n:Nat}(h:n < 18446744073709551616) :g8j (n:Int)=some (unz n):=by
 rw[g8j,shr1,and1 h,wrp64 (by omega) (by omega),wrp64 (by omega) (by omega),g5s (by omega) (by omega)];unfold unz;by_cases h0:n % 2=0
 · rw[if_pos h0,h0];have:(0:Int) - ((0:Nat):Int)=0:=rfl;rw[this,gyz (by omega)]
 · have h1:n % 2=1:=by omega
   rw[if_neg h0,h1];have:(0:Int) - ((1:Nat):Int)= -1:=rfl;rw[this,gz0 (by omega)]
end
section
open Go Go.Proofs.YthnmepafpikaiaaGreat.Shv Go.Sort
set_option maxRecDepth 100000
def vI(p:List UInt8) :Option (List (List UInt8)):=match g59 p with
 | some (l,e)=>if e=0 then some l else none
 | none=>none
def vFl(p:List UInt8) :Option (List SField):=match g66 p with
 | some (l,e)=>if e=0 then some l else none
 | none=>none
def vA(p:List UInt8) :Option (Int × List UInt8):=match g75 p with
 | some (id,q,e)=>if e=0 then some (id,q)else none
 | none=>none
theorem gpg :∀(n:Nat) (s:List UInt8) (b l:List (List UInt8)),s.length≤n→s.length+b.length≤100000→g3x (s,b)=some (.inr l)→∀q,q∈l→q∈b∨q.length≤s.length
 | n,s,b,l,hn,hb,h=>by
   rw[g3x]at h;by_cases h0:s=[]
   · rw[if_neg (by simp[h0])]at h;cases h;exact fun q hq=>.inl hq
   · rw[if_pos (by simp[h0]),gjq (by omega)]at h;simp only[oZ4,oZ3]at h;cases hv:vpart s with
     | none=>
       rw[hv]at h;simp[encP]at h
     | some r=>
       obtain⟨x,rest⟩:=r;rw[hv]at h;have hl:=gel hv;have hnn:¬((!(encP (some (x,rest))).2.2)=true):=by simp[encP]
       have hr:room 16 (b++[(encP (some (x,rest))).1]).length=true:=g8r (by omega) (by simp;omega);rw[if_neg hnn,if_pos hr]at h;intro q hq
       match n,hn with
       | 0,hn=>omega
       | n+1,hn=>
         have:=gpg n rest _ l (by omega) (by simp;omega) h q hq;rcases this with h | h
         · rcases List.mem_append.1 h with h | h
           · exact .inl h
           · right;have:q=x:=by simpa[encP]using h
             subst this;omega
         · right;omega
theorem gnj : ∀ (n : Nat) (s : List UInt8) (last : Nat) (b l : List SField), s.length ≤ n → s.length + b.length ≤ 100000 → g2v ((last : Int), s, b) = some (.inr l) →
   ∃l',l=b++l'∧(∀f,f∈l'→f.Data.length≤s.length∧(last:Int) < f.ID∧f.ID≤1000)∧l'.Pairwise (fun a b=>a.ID < b.ID)
 | n,s,last,b,l,hn,hb,h=>by
   rw[g2v]at h;by_cases h0:s=[]
   · rw[if_neg (by simp[h0])]at h;cases h;exact⟨[],by simp,fun f hf=>(by cases hf),.nil⟩
   · rw[if_pos (by simp[h0])]at h;rcases vg0 s with⟨e,he,hg⟩ | ⟨m,k,hg,hk0,hk,hm⟩
     · rw[gdw he hg]at h;simp at h
     · rw[gge hg hk]at h;simp only[oZ4,oZ3,quoI2 hm]at h;by_cases hc:((m / 2:Nat):Int)≤(last:Int)∨1000 < ((m / 2:Nat):Int)
       · exfalso
         have:(bif bif (!true)then true else decide (((m / 2:Nat):Int)≤(last:Int))then true else decide (1000 < ((m / 2:Nat):Int)))=true:=by
           generalize ((m / 2:Nat):Int)=d at hc;rcases hc with h1 | h1
           · simp[h1]
           · by_cases h2:d≤(last:Int) <;> simp[h2,h1]
         rw[if_pos this]at h;cases h
       · have:¬((bif bif (!true)then true else decide (((m / 2:Nat):Int)≤(last:Int))then true else decide (1000 < ((m / 2:Nat):Int)))=true):=by
           have a:¬((m / 2:Nat):Int)≤(last:Int):=fun h=>hc (.inl h)
           have b:¬1000 < ((m / 2:Nat):Int):=fun h=>hc (.inr h)
           simp only[a,b,Bool.not_true,decide_false,cond_false,Bool.false_eq_true,not_false_eq_true]
         rw[if_neg this,gjq (by rw[List.length_drop];omega)]at h;simp only[oZ3]at h;cases hv:vpart (s.drop k)with
         | none=>
           rw[hv]at h;simp[encP]at h
         | some r=>
           obtain⟨x,rest⟩:=r;rw[hv]at h;have hl:=gel hv;rw[List.length_drop]at hl;have hnn:¬((!(encP (some (x,rest))).2.2)=true):=by simp[encP]
           have hw:wrp .i64 ((m / 2:Nat):Int)=((m / 2:Nat):Int):=wrp64 (by omega) (by omega);rw[if_neg hnn,hw]at h;have hr:room 32 (b++[(⟨((m / 2:Nat):Int),decide (remI (m:Int) 2=1),(encP (some (x,rest))).1⟩:SField)]).length=true:=g8r (by omega) (by simp;omega);rw[if_pos hr]at h
           match n,hn with
           | 0,hn=>omega
           | n+1,hn=>
             obtain⟨l',e,h1,h2⟩:=gnj n rest (m / 2) _ l (by omega) (by simp;omega) h;refine⟨⟨((m / 2:Nat):Int),decide (remI (m:Int) 2=1),(encP (some (x,rest))).1⟩::l',by rw[e];simp,fun f hf=>?_,?_⟩
             · rcases List.mem_cons.1 hf with rfl | hf
               · refine⟨by show x.length≤_;omega,by show(last:Int) < ((m / 2:Nat):Int);omega,by show((m / 2:Nat):Int)≤1000;omega⟩
               · have:=h1 f hf;exact⟨by omega,by omega,this.2.2⟩
             · rw[List.pairwise_cons];exact⟨fun f hf=>(h1 f hf).2.1,h2⟩
theorem gco{p:List UInt8}(hp:p.length≤90000) :∃o,g59 p=some o∧g5d p=some o∧(o.2=0→vI p=some o.1∧(∀q,q∈o.1→q.length≤p.length)∧o.1.length≤p.length)∧(o.2≠0→vI p=none):=by
 obtain⟨o,h1,h2,h3⟩:=gzp hp;refine⟨o,h1,h2,fun h0=>⟨?_,?_,h3⟩,fun h0=>?_⟩
 · unfold vI;rw[h1];obtain⟨l,e⟩:=o;simp only at h0;simp[h0]
 · obtain⟨o',a1,_,_⟩:=glh p.length p [] (by omega) (by simp;omega);rw[g59,a1]at h1;cases o' with
   | inl e=>
     have:o=([],e):=(Option.some.inj h1).symm;subst this;intro q hq;cases hq
   | inr l=>
     have:o=(l,0):=(Option.some.inj h1).symm;subst this;intro q hq;rcases gpg p.length p [] l (by omega) (by simp;omega) a1 q hq with h | h
     · cases h
     · exact h
 · unfold vI;rw[h1];obtain⟨l,e⟩:=o;simp only at h0;simp[h0]
theorem gku{p:List UInt8}(hp:p.length≤90000) :∃o,g66 p=some o∧g5u p=some o∧(o.2=0→vFl p=some o.1∧(∀f,f∈o.1→f.Data.length≤p.length∧I1000 f.ID)∧o.1.Pairwise (fun a b=>a.ID < b.ID)∧o.1.length≤p.length)∧(o.2≠0→vFl p=none):=by
 obtain⟨o,h1,h2,h3⟩:=gy2 hp;obtain⟨o',a1,_,_⟩:=gox p.length p 0 [] (by omega) (by simp;omega);have key:o.2=0→(∀f,f∈o.1→f.Data.length≤p.length∧I1000 f.ID)∧o.1.Pairwise (fun a b=>a.ID < b.ID):=by
   intro h0;have h1':=h1;have a1':g2v (0,p,[])=some o':=a1;rw[g66,a1']at h1';cases o' with
   | inl e=>
     have:o=([],e):=(Option.some.inj h1').symm;subst this;exact⟨fun f hf=>(by cases hf),.nil⟩
   | inr l=>
     have:o=(l,0):=(Option.some.inj h1').symm;subst this;obtain⟨l',e,b1,b2⟩:=gnj p.length p 0 [] l (by omega) (by simp;omega) a1;have:l=l':=by simpa using e
     subst this;exact⟨fun f hf=>by have:=b1 f hf;exact⟨this.1,by omega,this.2.2⟩,b2⟩
 refine⟨o,h1,h2,fun h0=>⟨?_,(key h0).1,(key h0).2,h3⟩,fun h0=>?_⟩
 · unfold vFl;rw[h1];obtain⟨l,e⟩:=o;simp only at h0;simp[h0]
 · unfold vFl;rw[h1];obtain⟨l,e⟩:=o;simp only at h0;simp[h0]
theorem gsa(p:List UInt8) :∃o,g75 p=some o∧g77 p=some o∧(o.2.2=0→vA p=some (o.1,o.2.1)∧o.2.1.length≤p.length∧I1000 o.1)∧(o.2.2≠0→vA p=none):=by
 obtain⟨o,h1,h2⟩:=g136 p;have key:o.2.2=0→o.2.1.length≤p.length∧I1000 o.1:=by
   intro h0;have h1':=h1;rw[g75]at h1';rcases vg0 p with⟨e,he,hg⟩ | ⟨m,k,hg,hk0,hk,hm⟩
   · rw[gdw he hg]at h1';have:o=(0,[],12):=by simpa using h1'.symm
     subst this;cases h0
   · rw[gge hg hk]at h1';simp only[oZ4,oZ3]at h1';by_cases hc:(m:Int) < 1∨1000 < (m:Int)
     · have hcc:(bif bif (!true)then true else decide ((m:Int) < 1)then true else decide (1000 < (m:Int)))=true:=by
         rcases hc with h | h
         · simp only[h,Bool.not_true,decide_true,cond_true,cond_false]
         · have:¬(m:Int) < 1:=by omega
           simp only[h,this,Bool.not_true,decide_true,decide_false,cond_false]
       rw[if_pos hcc]at h1';have:o=(0,[],12):=(Option.some.inj h1').symm;subst this;cases h0
     · have hcc:¬((bif bif (!true)then true else decide ((m:Int) < 1)then true else decide (1000 < (m:Int)))=true):=by
         have a:¬(m:Int) < 1:=fun h=>hc (.inl h)
         have b:¬1000 < (m:Int):=fun h=>hc (.inr h)
         simp only[a,b,Bool.not_true,decide_false,cond_false,Bool.false_eq_true,not_false_eq_true]
       rw[if_neg hcc,wrp64 (by omega) (by omega)]at h1';have:o=((m:Int),p.drop k,0):=(Option.some.inj h1').symm;subst this;exact⟨by show(p.drop k).length≤_;rw[List.length_drop];omega,by omega,by show(m:Int)≤1000;omega⟩
 refine⟨o,h1,h2,fun h0=>⟨?_,(key h0).1,(key h0).2⟩,fun h0=>?_⟩
 · unfold vA;rw[h1];obtain⟨l,q,e⟩:=o;simp only at h0;simp[h0]
 · unfold vA;rw[h1];obtain⟨l,q,e⟩:=o;simp only at h0;simp[h0]
def g8b(a b:List UInt8) :Bool:=bif decide ((a.length:Int) < (b.length:Int))then true else bif decide ((a.length:Int)=(b.length:Int))then Op.bytesLess a b else false
def vcan(ts:List SType) :Nat→Int→List UInt8→Prop
 | 0,_,_=>False
 | r+1,t,p=>
   let x:=ts.getD t.toNat dSType
   (x.Kind=1∧(p=[]∨p=[1]))∨
   (x.Kind=2∧∃n,vub p=some n∧x.Low≤unz n∧unz n≤x.High)∨
   (x.Kind=3∧(p.length:Int)≤x.Max)∨
   (x.Kind=4∧∃n,vub p=some n∧(1≤n∧n≤1000)∧((∃y,y∈x.Symbols∧y.ID=(n:Int))∨x.Open=true))∨
   (x.Kind=5∧∃l,vFl p=some l∧(∀f,f∈l→(findM x.Members f.ID=none→f.Critical=false)∧∀m,findM x.Members f.ID=some m→f.Critical=m.Critical∧vcan ts r m.Type_ f.Data∧(m.HasDefault=true→f.Data≠vpay ts m.Type_ m.Default))∧∀m,m∈x.Members→m.HasDefault=false→∃f,f∈l∧f.ID=m.ID)∨
   (x.Kind=6∧∃id q,vA p=some (id,q)∧(findM x.Members id=none→x.Open=true)∧∀m,findM x.Members id=some m→vcan ts r m.Type_ q)∨
   (x.Kind=7∧∃l,vI p=some l∧(l.length:Int)≤x.Max∧∀q,q∈l→vcan ts r x.Elem q)∨
   (x.Kind=8∧∃l,vI p=some l∧l.length % 2=0∧((l.length / 2:Nat):Int)≤x.Max∧∀i,2*i+1 < l.length→vcan ts r x.Key (l.getD (2*i) [])∧vcan ts r x.Elem (l.getD (2*i+1) [])∧(0 < i→g8b (l.getD (2*i - 2) []) (l.getD (2*i) [])=true))∨
   (x.Kind=9∧(p=[]∨∃q,p=1::q∧vcan ts r x.Elem q))
theorem gep :∀{A B:List Int},A.Nodup→(∀a,a∈A→a∈B)→A.length≤B.length
 | [],B,_,_=>by simp
 | a::A,B,hn,hs=>by
   have hn':=List.nodup_cons.1 hn;have h1:=gep (A:=A) (B:=B.erase a) hn'.2 (fun b hb=>by
     have hne:b≠a:=fun e=>hn'.1 (e▸hb)
     exact(List.mem_erase_of_ne hne).2 (hs b (.tail _ hb)))
   have h2:=List.length_erase_of_mem (hs a (.head _));have h3:=List.length_pos_of_mem (hs a (.head _));simp only[List.length_cons];omega
theorem gz1{A B:List Int}(hn:A.Nodup)(hs:∀a,a∈A→a∈B)(hB:B.Nodup) :A.length=B.length↔∀b,b∈B→b∈A:=by
 constructor
 · intro h b hb;apply Classical.byContradiction;intro hc;have h1:=gep (A:=A) (B:=B.erase b) hn (fun a ha=>by
     have hne:a≠b:=fun e=>hc (e▸ha)
     exact(List.mem_erase_of_ne hne).2 (hs a ha))
   have h2:=List.length_erase_of_mem hb;have h3:=List.length_pos_of_mem hb;omega
 · intro h;have h1:=gep hn hs;have h2:=gep hB h;omega
end
section
open Go Go.Proofs.YthnmepafpikaiaaGreat.Shv Go.Sort
set_option maxRecDepth 100000
section
variable {ts:List SType}
abbrev rdr(ts:List SType) :EncodeReader:=⟨⟨ts⟩⟩
def Ce(ts:List SType)(r:Nat)(L:Nat) :Prop:=∀(t:Int) (p:List UInt8),0≤t→t < ts.length→p.length≤4096→SaysP (g8 (rdr ts,t,p,(L:Int))) (vcan ts r t p)
theorem gz2(a b:List UInt8) :g9o (a,b)=some (g8b a b):=rfl
theorem g101(a b:List UInt8) :g7j (a,b)=some (g8b a b):=rfl
theorem gt5 {x : SType} (hs : x.Symbols.length < 9223372036854775807) (p : List UInt8) (hk : x.Kind = 1 ∨ x.Kind = 2 ∨ x.Kind = 3 ∨ x.Kind = 4) : SaysP (g6w (x, p)) ((x.Kind = 1 ∧ (p = [] ∨ p = [1])) ∨
   (x.Kind=2∧∃n,vub p=some n∧x.Low≤unz n∧unz n≤x.High)∨
   (x.Kind=3∧(p.length:Int)≤x.Max)∨
   (x.Kind=4∧∃n,vub p=some n∧(1≤n∧n≤1000)∧((∃y,y∈x.Symbols∧y.ID=(n:Int))∨x.Open=true))):=by
 rw[g6w];have hk4:¬x.Kind=1→¬x.Kind=3→¬x.Kind=2→x.Kind=4:=by omega
 by_cases k1:x.Kind=1
 · rw[if_pos (by simp[k1])];refine .of ?_;by_cases h:p=[] <;> simp[h,k1]
 by_cases k3:x.Kind=3
 · rw[if_neg (by simp[k1]),if_pos (by simp[k3])];refine .of ?_;simp[k3]
 rw[if_neg (by simp[k1]),if_neg (by simp[k3])];obtain⟨r,r1,_,r3,r4⟩:=ghl p;rw[r1];simp only[oZ4,oZ3];by_cases h0:r.2=0
 · obtain⟨n,n1,n2⟩:=r3 h0;have hn:=gyy n1;rw[if_neg (by simp[h0]),n2,n1];by_cases k2:x.Kind=2
   · rw[if_pos (by simp[k2]),g13m hn];refine .of ?_;by_cases g:x.Low≤unz n <;> simp[g,k2]
   · have k4:x.Kind=4:=hk4 k1 k3 k2;rw[if_neg (by simp[k2])];by_cases hr:1≤n∧n≤1000
     · have a:¬(n:Int) < 1:=by omega
       have b:¬(1000:Int) < (n:Int):=by omega
       obtain⟨q,q1,_,qf⟩:=gbd (t:=x) (n:Int) hs;rw[if_neg (by simp only[a,b,decide_false,cond_false,Bool.false_eq_true,not_false_eq_true]),wrp64 (by omega) (by omega),q1];refine⟨_,rfl,?_⟩;have:=ghi qf;cases hq:q.2 with
       | true=>
         have h1:=this.1 hq;simp[k4,hr,h1]
       | false=>
         have h1:¬∃y,y∈x.Symbols∧y.ID=(n:Int):=fun h=>by rw[this.2 h]at hq;cases hq
         simp only[cond_false];constructor
         · intro h;exact .inr (.inr (.inr ⟨k4,n,rfl,hr,.inr h⟩))
         · rintro (⟨h,_⟩ | ⟨h,_⟩ | ⟨h,_⟩ | ⟨_,m,hm,_,h⟩)
           · exact absurd h k1
           · exact absurd h k2
           · exact absurd h k3
           · cases hm;rcases h with h | h
             · exact absurd h h1
             · exact h
     · have hc:(bif decide ((n:Int) < 1)then true else decide (1000 < (n:Int)))=true:=by
         by_cases a:(n:Int) < 1
         · simp only[a,decide_true,cond_true]
         · have b:(1000:Int) < (n:Int):=by omega
           simp only[a,b,decide_true,decide_false,cond_false]
       rw[if_pos hc];refine⟨false,rfl,?_⟩;constructor
       · intro h;cases h
       · rintro (⟨h,_⟩ | ⟨h,_⟩ | ⟨h,_⟩ | ⟨_,m,hm,h,_⟩)
         · exact absurd h k1
         · exact absurd h k2
         · exact absurd h k3
         · cases hm;exact absurd h hr
 · have hv:=r4 h0;rw[if_pos (by simp[h0]),hv];refine⟨false,rfl,?_⟩;constructor
   · intro h;cases h
   · rintro (⟨h,_⟩ | ⟨_,m,hm,_⟩ | ⟨h,_⟩ | ⟨_,m,hm,_⟩)
     · exact absurd h k1
     · cases hm
     · exact absurd h k3
     · cases hm
def okF(ts:List SType)(r:Nat)(Ms:List SMember)(f:SField) :Prop:=(findM Ms f.ID=none→f.Critical=false)∧∀m,findM Ms f.ID=some m→f.Critical=m.Critical∧vcan ts r m.Type_ f.Data∧(m.HasDefault=true→f.Data≠vpay ts m.Type_ m.Default)
def needF(Ms:List SMember)(l:List SField) :List SField:=l.filter fun f=>match findM Ms f.ID with
 | some m=>!m.HasDefault
 | none=>false
theorem gud (H : DrOk ts) {r L : Nat} (hL : L ≤ 300) (ih : Ce ts r (L + 1)) {x : SType} (hx : x ∈ ts) (hMt : ∀ m, m ∈ x.Members → 0 ≤ m.Type_ ∧ m.Type_ < ts.length) {l : List SField} (hl : l.length ≤ 100000) (hd : ∀ f, f ∈ l → f.Data.length ≤ 4096) :
   ∀(k i seen:Nat),i+k=l.length→seen≤i→(g10 ((L:Int),(seen:Int),l,(l.length:Int),(i:Int),ts,x)=some (.inr (((seen+(needF x.Members (l.drop i)).length:Nat):Int),x))∧∀f,f∈l.drop i→okF ts r x.Members f)∨
     (g10 ((L:Int),(seen:Int),l,(l.length:Int),(i:Int),ts,x)=some (.inl false)∧¬∀f,f∈l.drop i→okF ts r x.Members f)
 | 0,i,seen,hi,hs=>by
   left;rw[g10,if_neg (by simp;omega),List.drop_eq_nil_of_le (by omega:l.length≤i)];exact⟨rfl,fun f hf=>by cases hf⟩
 | k+1,i,seen,hi,hs=>by
   have hlt:i < l.length:=by omega
   have hm7:x.Members.length < 9223372036854775807:=gz (g3c (H.T _ hx).mems);have hmem:=gh hlt dSField;obtain⟨q,q1,_,qf⟩:=g3n (t:=x) (l.getD i dSField).ID hm7;have ih':=gud H hL ih hx hMt hl hd k (i+1);rw[g1m hlt dSField];have hall:∀P:SField→Prop,(∀f,f∈l.getD i dSField::l.drop (i+1)→P f)↔P (l.getD i dSField)∧∀f,f∈l.drop (i+1)→P f:=fun P=>by
     constructor
     · intro h;exact⟨h _ (.head _),fun f hf=>h f (.tail _ hf)⟩
     · rintro ⟨h1,h2⟩ f hf
       rcases List.mem_cons.1 hf with rfl | hf
       · exact h1
       · exact h2 f hf
   rw[hall];rw[g10,if_pos (by simp;omega),if_pos (g6 hlt)];simp only[oZ4,oZ3,g7];rw[q1];simp only[oZ3];generalize hf:l.getD i dSField=f at*;rcases g57 qf with⟨e,j,j1,j2,j3,j4⟩ | ⟨e,j3⟩
   · rw[if_neg (by simp[e]),j2,if_pos (g6 j1)];simp only[g7,SValue.g13];have hmm:=gh j1 dSMember;obtain⟨m0,m1⟩:=hMt _ hmm;have hdef:=H.D _ hx _ hmm;have hdo:=(H.T _ hx).dv _ hmm;have hdw:=H.W _ hx _ hmm;generalize x.Members.getD j dSMember=m at*
     have hok:okF ts r x.Members f↔f.Critical=m.Critical∧vcan ts r m.Type_ f.Data∧(m.HasDefault=true→f.Data≠vpay ts m.Type_ m.Default):=by
       unfold okF;rw[j3];constructor
       · rintro ⟨_,h⟩;exact h m rfl
       · intro h;exact⟨fun h=>(by cases h),fun m' hm'=>(by cases hm';exact h)⟩
     have hneed:needF x.Members (f::l.drop (i+1))=if m.HasDefault=true then needF x.Members (l.drop (i+1))else f::needF x.Members (l.drop (i+1)):=by
       unfold needF;rw[List.filter_cons,j3];cases hdd:m.HasDefault <;> simp only[hdd,Bool.not_true,Bool.not_false,if_true,if_false,Bool.false_eq_true]
     obtain⟨w,w1,w2⟩:=ih m.Type_ f.Data m0 m1 (hd _ hmem);have e1:addI .i64 (L:Int) 1=((L+1:Nat):Int):=g9 (by omega);rw[hok,hneed];by_cases hcr:f.Critical=m.Critical
     · have hq:(!(eqB f.Critical m.Critical))=false:=by rw[hcr];cases m.Critical <;> rfl
       have w1':g8 ((⟨(⟨ts⟩:SSchema)⟩:EncodeReader),m.Type_,f.Data,((L+1:Nat):Int))=some w:=w1;rw[hq,if_pos (by simp),e1,w1'];simp only[oZ3,cond_false];cases w with
       | false=>
         right;rw[if_pos (by simp)];refine⟨rfl,fun h=>?_⟩;have:=w2.2 h.1.2.1;cases this
       | true=>
         have hw:=w2.1 rfl;rw[if_neg (by simp)];cases hdf:m.HasDefault with
         | true=>
           have hfit:=hdef hdf;obtain⟨z,z1,z2⟩:=g100 (H.V.sok H.T) hdo m.Type_ false;have hz:=z2.2 (vfit_weak _ _ hfit);subst hz;have hF:gcc ((⟨ts⟩:SSchema),m.Type_,m.Default)=some true:=by
             rw[gcc];simp only[SValue.g13];rw[z1];rfl
           have hE:=(g110 (H.V.sok H.T) hdo (by have:=hdw hdf;omega) (vfit_weak _ _ hfit)).1;rw[if_pos rfl,hF];simp only[oZ3];rw[if_pos trivial,hE];simp only[oZ3,cond_true];by_cases hp:vpay ts m.Type_ m.Default=f.Data
           · right;rw[if_pos (by simpa using hp)];exact⟨rfl,fun h=>h.1.2.2 trivial hp.symm⟩
           · rw[if_neg (by simpa using hp),g9 (by omega)];rcases ih' seen (by omega) (by omega)with⟨a,b⟩ | ⟨a,b⟩
             · left;rw[if_pos trivial];exact⟨a,⟨hcr,hw,fun _=>fun e=>hp e.symm⟩,b⟩
             · right;exact⟨a,fun h=>b h.2⟩
         | false=>
           have e2:addI .i64 (seen:Int) 1=((seen+1:Nat):Int):=g9 (by omega);rw[if_neg (by simp),e2,g9 (by omega)];rcases ih' (seen+1) (by omega) (by omega)with⟨a,b⟩ | ⟨a,b⟩
           · left;rw[if_neg (by simp),List.length_cons];have e3:seen+((needF x.Members (l.drop (i+1))).length+1)=seen+1+(needF x.Members (l.drop (i+1))).length:=by omega
             rw[e3];exact⟨a,⟨hcr,hw,fun h=>by cases h⟩,b⟩
           · right;exact⟨a,fun h=>b h.2⟩
     · right;have hq:(!(eqB f.Critical m.Critical))=true:=by
         cases h1:f.Critical <;> cases h2:m.Critical <;> rw[h1,h2]at hcr <;> first | rfl | exact absurd rfl hcr
       rw[hq];simp only[Bool.not_true,Bool.false_eq_true,if_false,oZ3,cond_true,if_true];exact⟨by first | rfl | trivial,fun h=>hcr h.1.1⟩
   · have hok:okF ts r x.Members f↔f.Critical=false:=by
       unfold okF;rw[j3];constructor
       · rintro ⟨h,_⟩;exact h rfl
       · intro h;exact⟨fun _=>h,fun m' hm'=>by cases hm'⟩
     have hneed:needF x.Members (f::l.drop (i+1))=needF x.Members (l.drop (i+1)):=by
       unfold needF;rw[List.filter_cons,j3];rfl
     rw[hok,hneed,if_pos (by simp[e])];cases hcr:f.Critical with
     | true=>
       right;rw[if_pos rfl];exact⟨rfl,fun h=>by have:=h.1;cases this⟩
     | false=>
       rw[if_neg (by simp),g9 (by omega)];rcases ih' seen (by omega) (by omega)with⟨a,b⟩ | ⟨a,b⟩
       · exact .inl ⟨a,by first | rfl | trivial,b⟩
       · exact .inr ⟨a,fun h=>b h.2⟩
theorem go7{Ms:List SMember}(hl:Ms.length≤1000) :∀(k i:Nat) (seen:Int),i+k=Ms.length→-100000≤seen - k→seen≤200000→g25 (seen,Ms,(Ms.length:Int),(i:Int))=some (seen - (((Ms.drop i).filter fun m=>!m.HasDefault).length:Int))
 | 0,i,seen,hi,h1,h2=>by
   rw[g25,if_neg (by simp;omega),List.drop_eq_nil_of_le (by omega:Ms.length≤i)];simp
 | k+1,i,seen,hi,h1,h2=>by
   have hlt:i < Ms.length:=by omega
   rw[g25,if_pos (by simp;omega),if_pos (g6 hlt),g1m hlt dSMember];simp only[g7];rw[List.filter_cons,g9 (by omega)];cases (Ms.getD i dSMember).HasDefault with
   | true=>
     simp only[Bool.not_true,Bool.false_eq_true,if_false];exact go7 hl k (i+1) seen (by omega) (by omega) h2
   | false=>
     simp only[Bool.not_false,if_true,List.length_cons];rw[g5s (by omega) (by omega),go7 hl k (i+1) _ (by omega) (by omega) (by omega)]
     congr 1;omega
theorem g102{Ms:List SMember}(hM:MAsc Ms){l:List SField}(hl:l.Pairwise (fun a b=>a.ID < b.ID)) :(needF Ms l).length=(Ms.filter fun m=>!m.HasDefault).length↔∀m,m∈Ms→m.HasDefault=false→∃f,f∈l∧f.ID=m.ID:=by
 have hA:((needF Ms l).map (·.ID)).Nodup:=by
   unfold List.Nodup;rw[List.pairwise_map];have:=hl.sublist (List.filter_sublist (l:=l) (p:=fun f=>match findM Ms f.ID with
     | some m=>!m.HasDefault
     | none=>false))
   exact this.imp fun {a b} h=>by omega
 have hB:((Ms.filter fun m=>!m.HasDefault).map (·.ID)).Nodup:=by
   unfold List.Nodup;rw[List.pairwise_map];exact(hM.1.sublist List.filter_sublist).imp fun {a b} h=>by omega
 have hsub:∀a,a∈(needF Ms l).map (·.ID)→a∈(Ms.filter fun m=>!m.HasDefault).map (·.ID):=by
   intro a ha;obtain⟨f,hf,rfl⟩:=List.mem_map.1 ha;unfold needF at hf;rw[List.mem_filter]at hf;obtain⟨h1,h2⟩:=hf;cases hm:findM Ms f.ID with
   | none=>rw[hm]at h2;cases h2
   | some m=>
     rw[hm]at h2;have e1:=List.mem_of_find?_eq_some hm;have e2:=List.find?_some hm;exact List.mem_map.2 ⟨m,List.mem_filter.2 ⟨e1,h2⟩,by simpa using e2⟩
 have:=gz1 hA hsub hB;simp only[List.length_map]at this;rw[this];constructor
 · intro h m hm hd;obtain⟨f,hf,e⟩:=List.mem_map.1 (h m.ID (List.mem_map.2 ⟨m,List.mem_filter.2 ⟨hm,by simp[hd]⟩,rfl⟩));unfold needF at hf;exact⟨f,(List.mem_filter.1 hf).1,e⟩
 · intro h b hb;obtain⟨m,hm,rfl⟩:=List.mem_map.1 hb;obtain⟨h1,h2⟩:=List.mem_filter.1 hm;obtain⟨f,f1,f2⟩:=h m h1 (by simpa using h2);refine List.mem_map.2 ⟨f,?_,f2⟩;unfold needF;refine List.mem_filter.2 ⟨f1,?_⟩;have hfind:findM Ms f.ID=some m:=by
     obtain⟨j,hj,hjm⟩:=List.getElem_of_mem h1;unfold findM;rw[List.find?_eq_some_iff_getElem];refine⟨by simp[f2],j,hj,hjm,fun i hi=>?_⟩;have hp:=List.pairwise_iff_getElem.1 hM.1 i j (by omega) hj hi;rw[hjm]at hp;simp;omega
   rw[hfind];exact h2
end
end
section
open Go Go.Proofs.YthnmepafpikaiaaGreat.Shv Go.Sort
set_option maxRecDepth 100000
section
variable {ts:List SType}
theorem gsb {r L : Nat} (hL : L ≤ 300) {x : SType} {l : List (List UInt8)} (hl : l.length ≤ 100000) (ih : ∀ q, q ∈ l → SaysP (g8 (rdr ts, x.Elem, q, ((L + 1 : Nat) : Int))) (vcan ts r x.Elem q)) :
   ∃b,g2k (l,ts,x.Kind,x.Name,x.Low,x.High,x.Max,x.Symbols,x.Members,x.Key,x.Elem,x.Open,(L:Int))=some (b,ts,x.Kind,x.Name,x.Low,x.High,x.Max,x.Symbols,x.Members,x.Key,x.Elem,x.Open,(L:Int))∧(b=false↔∀q,q∈l→vcan ts r x.Elem q):=by
 let p:Nat→Bool:=fun i=>(g8 (rdr ts,x.Elem,l.getD i [],((L+1:Nat):Int))).getD false
 have hp:∀i,i < l.length→g8 (rdr ts,x.Elem,l.getD i [],((L+1:Nat):Int))=some (p i)∧(p i=true↔vcan ts r x.Elem (l.getD i [])):=by
   intro i hi;obtain⟨w,h1,h2⟩:=ih _ (gh hi []);refine⟨by simp only[p,h1,Option.getD_some],?_⟩;simp only[p,h1,Option.getD_some];exact h2
 have e1:addI .i64 (L:Int) 1=((L+1:Nat):Int):=g9 (by omega)
 have hf:=g9w (fun i=>g1a (l,(l.length:Int),(i:Int),ts,x.Kind,x.Name,x.Low,x.High,x.Max,x.Symbols,x.Members,x.Key,x.Elem,x.Open,(L:Int))) l.length (fun i=>!(p i)) (fun i=>.inl ((i:Int),ts,x.Kind,x.Name,x.Low,x.High,x.Max,x.Symbols,x.Members,x.Key,x.Elem,x.Open,(L:Int))) (.inr (ts,x.Kind,x.Name,x.Low,x.High,x.Max,x.Symbols,x.Members,x.Key,x.Elem,x.Open,(L:Int)))
   (fun i hi=>by
     have h1:g8 ((⟨(⟨ts⟩:SSchema)⟩:EncodeReader),x.Elem,l.getD i [],((L+1:Nat):Int))=some (p i):=(hp i hi).1;rw[g1a,if_pos (by simp;omega),if_pos (g6 hi),g6s];simp only[g7];rw[e1,h1,g9 (by omega)];rfl)
   (by rw[g1a,if_neg (by simp)])
 have e0:g1a (l,(l.length:Int),((0:Nat):Int),ts,x.Kind,x.Name,x.Low,x.High,x.Max,x.Symbols,x.Members,x.Key,x.Elem,x.Open,(L:Int))=g1a (l,(l.length:Int),0,ts,x.Kind,x.Name,x.Low,x.High,x.Max,x.Symbols,x.Members,x.Key,x.Elem,x.Open,(L:Int)):=rfl;simp only[e0]at hf;rw[g2k,g54];rcases hf with⟨j,h1,h2,h3,h4⟩ | ⟨h1,h4⟩
 · rw[h4];refine⟨true,?_,?_⟩
   · have e:decide ((0:Int)≤(j:Int))=true:=by simp
     simp only[oZ4,oZ3,e]
   · constructor
     · intro h;cases h
     · intro h;have:=(hp j h1).2.2 (h _ (gh h1 []));simp[this]at h2
 · rw[h4];refine⟨false,rfl,?_⟩;simp only[true_iff];intro q hq;obtain⟨i,hi,rfl⟩:=List.getElem_of_mem hq;have:=(hp i hi).2.1 (by simpa using h1 i hi);rw[g16 hi]at this;exact this
theorem gue {γ : Type} (a e Z sh I0 I2 : Bool) (sI iI : Int) (J : Int → Bool) (I1 : Int → Bool) (E : Int → Option Bool) (B : Int → Option Bool) (X Y : Option γ) (hE : E iI = some e) (hJ : J iI = true) (hI2 : I2 = true) (h1 : Z = true → I1 sI = true ∧ B sI = some sh) :
   (some a >>=fun r_18=>some (!r_18) >>=fun t61=>some iI >>=fun t68=>if(J t68 || (!(!t61)))=true then(if(!t61)=true then E t68 else some false) >>=fun r_19=>some (bif t61 then true else(!r_19)) >>=fun t75=>some Z >>=fun t78=>some sI >>=fun t82=>
     if(I1 t82 || (!((!t75) && t78)))=true then if(I2 || (!((!t75) && t78)))=true then(if((!t75) && t78)=true then B t82 else some false) >>=fun r_20=>if(bif t75 then true else bif t78 then(!r_20)else false)=true then X else Y else none else none else none)=if(a && e && (!Z || sh))=true then Y else X:=by
 subst hI2;simp only[oZ4,oZ3];rw[hE,hJ];cases Z with
 | true=>
   obtain⟨h2,h3⟩:=h1 rfl;rw[h2,h3];cases a <;> cases e <;> cases sh <;> rfl
 | false=>
   generalize I1 sI=d;cases a <;> cases e <;> cases d <;> cases sh <;> rfl
theorem g114 {r L : Nat} (hL : L ≤ 300) {x : SType} {l : List (List UInt8)} (hl : l.length ≤ 100000) (he : l.length % 2 = 0) (ihk : ∀ q, q ∈ l → SaysP (g8 (rdr ts, x.Key, q, ((L + 1 : Nat) : Int))) (vcan ts r x.Key q)) (ihe : ∀ q, q ∈ l → SaysP (g8 (rdr ts, x.Elem, q, ((L + 1 : Nat) : Int))) (vcan ts r x.Elem q)) :
   SaysP (g1w (l,0,ts,x.Kind,x.Name,x.Low,x.High,x.Max,x.Symbols,x.Members,x.Key,x.Elem,x.Open,(L:Int)) >>=fun o=>match o with | .inl x=>some x | .inr _=>some true)
     (∀i,2*i+1 < l.length→vcan ts r x.Key (l.getD (2*i) [])∧vcan ts r x.Elem (l.getD (2*i+1) [])∧(0 < i→g8b (l.getD (2*i - 2) []) (l.getD (2*i) [])=true)):=by
 let a:Nat→Bool:=fun i=>(g8 (rdr ts,x.Key,l.getD (2*i) [],((L+1:Nat):Int))).getD false
 let e:Nat→Bool:=fun i=>(g8 (rdr ts,x.Elem,l.getD (2*i+1) [],((L+1:Nat):Int))).getD false
 have ha:∀i,2*i < l.length→g8 (rdr ts,x.Key,l.getD (2*i) [],((L+1:Nat):Int))=some (a i)∧(a i=true↔vcan ts r x.Key (l.getD (2*i) [])):=by
   intro i hi;obtain⟨w,h1,h2⟩:=ihk _ (gh hi []);refine⟨by simp only[a,h1,Option.getD_some],?_⟩;simp only[a,h1,Option.getD_some];exact h2
 have hee:∀i,2*i+1 < l.length→g8 (rdr ts,x.Elem,l.getD (2*i+1) [],((L+1:Nat):Int))=some (e i)∧(e i=true↔vcan ts r x.Elem (l.getD (2*i+1) [])):=by
   intro i hi;obtain⟨w,h1,h2⟩:=ihe _ (gh hi []);refine⟨by simp only[e,h1,Option.getD_some],?_⟩;simp only[e,h1,Option.getD_some];exact h2
 have e1:addI .i64 (L:Int) 1=((L+1:Nat):Int):=g9 (by omega)
 refine(SaysP.loop (L:=fun i=>g1w (l,((2*i:Nat):Int),ts,x.Kind,x.Name,x.Low,x.High,x.Max,x.Symbols,x.Members,x.Key,x.Elem,x.Open,(L:Int))) (n:=l.length / 2) (p:=fun i=>a i && e i && (!(decide ((0:Int) < ((2*i:Nat):Int))) || g8b (l.getD (2*i - 2) []) (l.getD (2*i) []))) (g:=()) rfl (fun i hi=>?_) ?_).imp ?_
 · show g1w (l,((2*i:Nat):Int),ts,x.Kind,x.Name,x.Low,x.High,x.Max,x.Symbols,x.Members,x.Key,x.Elem,x.Open,(L:Int))=if _ then g1w (l,((2*(i+1):Nat):Int),ts,x.Kind,x.Name,x.Low,x.High,x.Max,x.Symbols,x.Members,x.Key,x.Elem,x.Open,(L:Int))else _
   have h2:2*i < l.length:=by omega
   have h3:2*i+1 < l.length:=by omega
   have ha':g8 ((⟨(⟨ts⟩:SSchema)⟩:EncodeReader),x.Key,l.getD (2*i) [],((L+1:Nat):Int))=some (a i):=(ha i h2).1;have hst:addI .i64 ((2*i:Nat):Int) 2=((2*(i+1):Nat):Int):=by
     have:=gfy (a:=2*i) (b:=2) (by omega);have e:2*i+2=2*(i+1):=by omega
     rw[e]at this;exact this
   have hs1:addI .i64 ((2*i:Nat):Int) 1=((2*i+1:Nat):Int):=g9 (by omega);rw[g1w,if_pos (by simp;omega),if_pos (g6 h2)];simp only[g7];rw[e1,ha',hst,hs1]
   refine gue (a i) (e i) (decide ((0:Int) < ((2*i:Nat):Int))) (g8b (l.getD (2*i - 2) []) (l.getD (2*i) [])) true (inR ((2*i:Nat):Int) l.length) (subI .i64 ((2*i:Nat):Int) 2) ((2*i+1:Nat):Int) (fun j=>inR j l.length) (fun j=>inR j l.length) (fun j=>g8 ((⟨(⟨ts⟩:SSchema)⟩:EncodeReader),x.Elem,l.getD j.toNat [],((L+1:Nat):Int))) (fun j=>g9o (l.getD j.toNat [],l.getD (2*i) [])) _ _ ?_ (g6 h3) (g6 h2) (fun hz=>?_)
   · show g8 _=_;rw[g7];exact(hee i h3).1
   · have:0 < i:=by simp at hz;omega
     have hsub:subI .i64 ((2*i:Nat):Int) 2=((2*i - 2:Nat):Int):=by rw[g5s (by omega) (by omega)];omega
     rw[hsub,g7];exact⟨g6 (by omega),gz2 _ _⟩
 · show g1w (l,((2*(l.length / 2):Nat):Int),ts,x.Kind,x.Name,x.Low,x.High,x.Max,x.Symbols,x.Members,x.Key,x.Elem,x.Open,(L:Int))=_;have:2*(l.length / 2)=l.length:=by omega
   rw[this,g1w,if_neg (by simp)]
 · constructor
   · intro h i hi;have:=h i (by omega);simp only[Bool.and_eq_true,Bool.or_eq_true]at this;refine⟨(ha i (by omega)).2.1 this.1.1,(hee i hi).2.1 this.1.2,fun h0=>?_⟩;rcases this.2 with h | h
     · exfalso
       have hd:decide ((0:Int) < ((2*i:Nat):Int))=true:=by simp;omega
       rw[hd]at h;cases h
     · exact h
   · intro h i hi;obtain⟨h1,h2,h3⟩:=h i (by omega);simp only[Bool.and_eq_true,Bool.or_eq_true];refine⟨⟨(ha i (by omega)).2.2 h1,(hee i (by omega)).2.2 h2⟩,?_⟩;by_cases h0:0 < i
     · exact .inr (h3 h0)
     · left;have:i=0:=by omega
       subst this;rfl
theorem guf (r : Nat) (t : Int) (p : List UInt8) : vcan ts (r + 1) t p ↔
   (((ts.getD t.toNat dSType).Kind=1∧(p=[]∨p=[1]))∨
   ((ts.getD t.toNat dSType).Kind=2∧∃n,vub p=some n∧(ts.getD t.toNat dSType).Low≤unz n∧unz n≤(ts.getD t.toNat dSType).High)∨
   ((ts.getD t.toNat dSType).Kind=3∧(p.length:Int)≤(ts.getD t.toNat dSType).Max)∨
   ((ts.getD t.toNat dSType).Kind=4∧∃n,vub p=some n∧(1≤n∧n≤1000)∧((∃y,y∈(ts.getD t.toNat dSType).Symbols∧y.ID=(n:Int))∨(ts.getD t.toNat dSType).Open=true)))∨
   ((ts.getD t.toNat dSType).Kind=5∧∃l,vFl p=some l∧(∀f,f∈l→okF ts r (ts.getD t.toNat dSType).Members f)∧∀m,m∈(ts.getD t.toNat dSType).Members→m.HasDefault=false→∃f,f∈l∧f.ID=m.ID)∨
   ((ts.getD t.toNat dSType).Kind=6∧∃id q,vA p=some (id,q)∧(findM (ts.getD t.toNat dSType).Members id=none→(ts.getD t.toNat dSType).Open=true)∧∀m,findM (ts.getD t.toNat dSType).Members id=some m→vcan ts r m.Type_ q)∨
   ((ts.getD t.toNat dSType).Kind=7∧∃l,vI p=some l∧(l.length:Int)≤(ts.getD t.toNat dSType).Max∧∀q,q∈l→vcan ts r (ts.getD t.toNat dSType).Elem q)∨
   ((ts.getD t.toNat dSType).Kind=8∧∃l,vI p=some l∧l.length % 2=0∧((l.length / 2:Nat):Int)≤(ts.getD t.toNat dSType).Max∧∀i,2*i+1 < l.length→vcan ts r (ts.getD t.toNat dSType).Key (l.getD (2*i) [])∧vcan ts r (ts.getD t.toNat dSType).Elem (l.getD (2*i+1) [])∧(0 < i→g8b (l.getD (2*i - 2) []) (l.getD (2*i) [])=true))∨
   ((ts.getD t.toNat dSType).Kind=9∧(p=[]∨∃q,p=1::q∧vcan ts r (ts.getD t.toNat dSType).Elem q)):=by
 rw[vcan];simp only[or_assoc];exact Iff.rfl
theorem gug(H:DrOk ts) :∀(r L:Nat),L+r=201→1≤L→Ce ts r L
 | 0,L,hr,h1=>by
   intro t p ht0 ht1 hp;obtain⟨j,rfl⟩:∃j:Nat,t=(j:Int):=⟨t.toNat,by omega⟩
   rw[g8,if_pos (g6 (by omega:j < ts.length))];simp only[oZ4,oZ3];rw[if_pos (by simp;omega)];refine⟨false,rfl,?_⟩;constructor
   · intro h;cases h
   · intro h;exact h.elim
 | r+1,L,hr,h1=>by
   intro t p ht0 ht1 hp;have ih:=gug H r (L+1) (by omega) (by omega);obtain⟨j,rfl⟩:∃j:Nat,t=(j:Int):=⟨t.toNat,by omega⟩
   have hj:j < ts.length:=by omega
   have hxm:=gh hj dSType;have hS:=H.V.sok H.T;have hU:=H.V.U _ hxm;have hK:=hS.K _ hxm;have hm7:(ts.getD j dSType).Members.length < 9223372036854775807:=gz (g3c (H.T _ hxm).mems);have hs7:(ts.getD j dSType).Symbols.length < 9223372036854775807:=gz (g3c (H.T _ hxm).syms)
   have hMt:∀m,m∈(ts.getD j dSType).Members→0≤m.Type_∧m.Type_ < ts.length:=fun m hm=>hU m.Type_ (List.mem_append.2 (.inl (List.mem_append.2 (.inl (List.mem_map.2 ⟨m,hm,rfl⟩)))))
   have e1:addI .i64 (L:Int) 1=((L+1:Nat):Int):=g9 (by omega);rw[g8,if_pos (g6 hj)];simp only[oZ4,oZ3,g7];rw[if_neg (by simp;omega)];have hv:=guf (ts:=ts) r (j:Int) p;rw[g7]at hv;have hA:=hS.A _ hxm;generalize hxx:ts.getD j dSType=x at*;have hM12:=(H.I _ hxm).2.2;unfold g8w at hK
   have hc9:x.Kind=1∨x.Kind=2∨x.Kind=3∨x.Kind=4∨x.Kind=5∨x.Kind=6∨x.Kind=7∨x.Kind=8∨x.Kind=9:=by omega
   have simple:x.Kind=1∨x.Kind=2∨x.Kind=3∨x.Kind=4→SaysP (g6w (x,p) >>=fun r_12=>some r_12) (vcan ts (r+1) (j:Int) p):=by
     intro hk;have:=ggi (gt5 hs7 p hk);refine this.imp ?_;rw[hv];constructor
     · intro h;exact .inl h
     · rintro (h | ⟨k,_⟩ | ⟨k,_⟩ | ⟨k,_⟩ | ⟨k,_⟩ | ⟨k,_⟩)
       · exact h
       all_goals (exfalso;omega)
   rcases hc9 with k | k | k | k | k | k | k | k | k
   · rw[if_neg (by simp[k])];have e7:decide (x.Kind=7)=false:=by simp[k]
     rw[e7,if_neg (by simp),if_neg (by simp[k]),if_neg (by simp[k]),if_neg (by simp[k])];exact simple (.inl k)
   · rw[if_neg (by simp[k])];have e7:decide (x.Kind=7)=false:=by simp[k]
     rw[e7,if_neg (by simp),if_neg (by simp[k]),if_neg (by simp[k]),if_neg (by simp[k])];exact simple (.inr (.inl k))
   · rw[if_neg (by simp[k])];have e7:decide (x.Kind=7)=false:=by simp[k]
     rw[e7,if_neg (by simp),if_neg (by simp[k]),if_neg (by simp[k]),if_neg (by simp[k])];exact simple (.inr (.inr (.inl k)))
   · rw[if_neg (by simp[k])];have e7:decide (x.Kind=7)=false:=by simp[k]
     rw[e7,if_neg (by simp),if_neg (by simp[k]),if_neg (by simp[k]),if_neg (by simp[k])];exact simple (.inr (.inr (.inr k)))
   · rw[if_pos (by simp[k])];obtain⟨o,o1,_,o3,o4⟩:=gku (p:=p) (by omega);have hv5:vcan ts (r+1) (j:Int) p↔∃l,vFl p=some l∧(∀f,f∈l→okF ts r x.Members f)∧∀m,m∈x.Members→m.HasDefault=false→∃f,f∈l∧f.ID=m.ID:=by
       rw[hv];constructor
       · intro h;rcases h with h | ⟨k',h⟩ | ⟨k',h⟩ | ⟨k',h⟩ | ⟨k',h⟩ | ⟨k',h⟩
         · exfalso;rcases h with⟨k',_⟩ | ⟨k',_⟩ | ⟨k',_⟩ | ⟨k',_⟩ <;> omega
         all_goals first | exact h | (exfalso;omega)
       · intro h;exact .inr (.inl ⟨k,h⟩)
     have hR:∀{q:Option Bool} {P:Prop},SaysP q P→SaysP (q >>=fun r_1=>some r_1) P:=fun h=>ggi h
     refine hR ?_;show SaysP (g6e (rdr ts,x,p,(L:Int))) _;rw[g6e,o1];simp only[oZ4,oZ3];by_cases h0:o.2=0
     · obtain⟨f1,f2,f3,f4⟩:=o3 h0;rw[if_neg (by simp[h0])];obtain⟨hma,_⟩:=hA (.inl k);have hrc:=gud H (by omega:L≤300) ih hxm hMt (l:=o.1) (by omega) (fun f hf=>by have:=(f2 f hf).1;omega) o.1.length 0 0 (by omega) (by omega)
       have e0:g10 ((L:Int),((0:Nat):Int),o.1,(o.1.length:Int),((0:Nat):Int),ts,x)=g10 ((L:Int),0,o.1,(o.1.length:Int),0,ts,x):=rfl;simp only[e0,List.drop_zero,Nat.zero_add]at hrc;rcases hrc with⟨a,b⟩ | ⟨a,b⟩
       · have hnl:(needF x.Members o.1).length≤o.1.length:=List.length_filter_le _ _;have hcnt:=go7 (Ms:=x.Members) (by omega) x.Members.length 0 (((needF x.Members o.1).length:Nat):Int) (by omega) (by omega) (by omega);have hcnt':g25 ((((needF x.Members o.1).length:Nat):Int),x.Members,(x.Members.length:Int),0)=_:=hcnt
         have ha':g10 ((L:Int),0,o.1,(o.1.length:Int),0,(rdr ts).s.Types,x)=_:=a;rw[ha'];simp only[oZ3];rw[hcnt'];refine⟨_,rfl,?_⟩;rw[hv5];have hn:=g102 (l:=o.1) hma f3;constructor
         · intro h;have h':(((needF x.Members o.1).length:Nat):Int) - ((x.Members.filter fun m=>!m.HasDefault).length:Int)=0:=by simpa using h
           exact⟨o.1,f1,b,hn.1 (by omega)⟩
         · rintro ⟨l,h1,h2,h3⟩
           rw[f1]at h1;cases h1;have:=hn.2 h3;simp only[List.drop_zero];rw[decide_eq_true_eq];omega
       · have ha':g10 ((L:Int),0,o.1,(o.1.length:Int),0,(rdr ts).s.Types,x)=_:=a;rw[ha'];refine⟨false,rfl,?_⟩;rw[hv5];constructor
         · intro h;cases h
         · rintro ⟨l,h1,h2,_⟩
           rw[f1]at h1;cases h1;exact absurd h2 b
     · rw[if_pos (by simp[h0])];refine⟨false,rfl,?_⟩;rw[hv5,o4 h0];constructor
       · intro h;cases h
       · rintro ⟨l,h,_⟩;cases h
   · have hv6:vcan ts (r+1) (j:Int) p↔∃id q,vA p=some (id,q)∧(findM x.Members id=none→x.Open=true)∧∀m,findM x.Members id=some m→vcan ts r m.Type_ q:=by
       rw[hv];constructor
       · intro h;rcases h with h | ⟨k',h⟩ | ⟨k',h⟩ | ⟨k',h⟩ | ⟨k',h⟩ | ⟨k',h⟩
         · exfalso;rcases h with⟨k',_⟩ | ⟨k',_⟩ | ⟨k',_⟩ | ⟨k',_⟩ <;> omega
         all_goals first | exact h | (exfalso;omega)
       · intro h;exact .inr (.inr (.inl ⟨k,h⟩))
     rw[if_neg (by simp[k])];have e7:decide (x.Kind=7)=false:=by simp[k]
     rw[e7,if_neg (by simp),if_neg (by simp[k]),if_neg (by simp[k]),if_pos (by simp[k])];obtain⟨o,o1,_,o3,o4⟩:=gsa p;rw[o1];simp only[oZ3];by_cases h0:o.2.2=0
     · obtain⟨f1,f2,f3⟩:=o3 h0;rw[if_neg (by simp[h0])];obtain⟨q,q1,_,qf⟩:=g3n (t:=x) o.1 hm7;rw[q1];simp only[oZ3];rcases g57 qf with⟨e,i,i1,i2,i3,i4⟩ | ⟨e,i3⟩
       · have hmm:=gh i1 dSMember;obtain⟨m0,m1⟩:=hMt _ hmm;obtain⟨w,w1,w2⟩:=ih (x.Members.getD i dSMember).Type_ o.2.1 m0 m1 (by omega);have w1':g8 ((⟨(⟨ts⟩:SSchema)⟩:EncodeReader),(x.Members.getD i dSMember).Type_,o.2.1,((L+1:Nat):Int))=some w:=w1;rw[e];simp only[Bool.not_true,cond_false,Bool.not_false,Bool.and_self,if_true,Bool.or_false,cond_true]
         rw[i2,if_pos (g6 i1),g7,e1,w1'];refine⟨w,rfl,?_⟩;rw[hv6,w2];constructor
         · intro h;refine⟨_,_,f1,fun h'=>?_,fun m hm=>?_⟩
           · rw[i3]at h';cases h'
           · rw[i3]at hm;cases hm;exact h
         · rintro ⟨id,q',h1,_,h3⟩
           rw[f1]at h1;cases h1;exact h3 _ i3
       · rw[e];simp only[Bool.not_false,cond_true,Bool.and_false,Bool.not_false,Bool.or_true,if_true,Bool.false_eq_true,if_false,oZ3,cond_false];refine⟨_,rfl,?_⟩;rw[hv6];constructor
         · intro h;refine⟨_,_,f1,fun _=>?_,fun m hm=>?_⟩
           · cases ho:x.Open with
             | true=>rfl
             | false=>rw[ho]at h;cases h
           · rw[i3]at hm;cases hm
         · rintro ⟨id,q',h1,h2,_⟩
           rw[f1]at h1;cases h1;rw[h2 i3];rfl
     · rw[if_pos (by simp[h0])];refine⟨false,rfl,?_⟩;rw[hv6,o4 h0];constructor
       · intro h;cases h
       · rintro ⟨id,q,h,_⟩;cases h
   · have hv7:vcan ts (r+1) (j:Int) p↔∃l,vI p=some l∧(l.length:Int)≤x.Max∧∀q,q∈l→vcan ts r x.Elem q:=by
       rw[hv];constructor
       · intro h;rcases h with h | ⟨k',h⟩ | ⟨k',h⟩ | ⟨k',h⟩ | ⟨k',h⟩ | ⟨k',h⟩
         · exfalso;rcases h with⟨k',_⟩ | ⟨k',_⟩ | ⟨k',_⟩ | ⟨k',_⟩ <;> omega
         all_goals first | exact h | (exfalso;omega)
       · intro h;exact .inr (.inr (.inr (.inl ⟨k,h⟩)))
     obtain⟨el0,el1⟩:=hU x.Elem (by unfold usesL;simp[k]);obtain⟨o,o1,_,o3,o4⟩:=gco (p:=p) (by omega);have e7:decide (x.Kind=7)=true:=by simp[k]
     rw[if_neg (by simp[k]),e7,if_pos rfl,if_pos rfl];show SaysP (g3v (rdr ts,x,p,(L:Int)) >>=fun r_2=>some r_2) _;refine ggi ?_;rw[g3v,o1];simp only[oZ4,oZ3];by_cases h0:o.2=0
     · obtain⟨f1,f2,f3⟩:=o3 h0;rw[if_neg (by simp[h0]),e7,if_pos rfl];obtain⟨b,b1,b2⟩:=gsb (ts:=ts) (r:=r) (L:=L) (by omega) (x:=x) (l:=o.1) (by omega) (fun q hq=>ih x.Elem q el0 el1 (by have:=f2 q hq;omega));by_cases hmx:(o.1.length:Int)≤x.Max
       · have hd:decide ((o.1.length:Int)≤x.Max)=true:=by simpa using hmx
         have b1':g2k (o.1,(rdr ts).s.Types,x.Kind,x.Name,x.Low,x.High,x.Max,x.Symbols,x.Members,x.Key,x.Elem,x.Open,(L:Int))=_:=b1;rw[hd,if_pos rfl,b1'];refine⟨!b,rfl,?_⟩;rw[hv7];have:(!b)=true↔b=false:=by cases b <;> simp
         rw[this,b2];constructor
         · intro h;exact⟨_,f1,hmx,h⟩
         · rintro ⟨l,h1,_,h3⟩
           rw[f1]at h1;cases h1;exact h3
       · have hd:decide ((o.1.length:Int)≤x.Max)=false:=by simpa using hmx
         rw[hd,if_neg (by simp)];refine⟨false,rfl,?_⟩;rw[hv7];constructor
         · intro h;cases h
         · rintro ⟨l,h1,h2,_⟩
           rw[f1]at h1;cases h1;exact absurd h2 hmx
     · rw[if_pos (by simp[h0])];refine⟨false,rfl,?_⟩;rw[hv7,o4 h0];constructor
       · intro h;cases h
       · rintro ⟨l,h,_⟩;cases h
   · have hv8:vcan ts (r+1) (j:Int) p↔∃l,vI p=some l∧l.length % 2=0∧((l.length / 2:Nat):Int)≤x.Max∧∀i,2*i+1 < l.length→vcan ts r x.Key (l.getD (2*i) [])∧vcan ts r x.Elem (l.getD (2*i+1) [])∧(0 < i→g8b (l.getD (2*i - 2) []) (l.getD (2*i) [])=true):=by
       rw[hv];constructor
       · intro h;rcases h with h | ⟨k',h⟩ | ⟨k',h⟩ | ⟨k',h⟩ | ⟨k',h⟩ | ⟨k',h⟩
         · exfalso;rcases h with⟨k',_⟩ | ⟨k',_⟩ | ⟨k',_⟩ | ⟨k',_⟩ <;> omega
         all_goals first | exact h | (exfalso;omega)
       · intro h;exact .inr (.inr (.inr (.inr (.inl ⟨k,h⟩))))
     obtain⟨el0,el1⟩:=hU x.Elem (by unfold usesL;simp[k]);obtain⟨kl0,kl1⟩:=hU x.Key (by unfold usesL;simp[k]);obtain⟨o,o1,_,o3,o4⟩:=gco (p:=p) (by omega);have e7:decide (x.Kind=7)=false:=by simp[k]
     rw[if_neg (by simp[k]),e7,if_neg (by simp),if_pos (by simp[k])];show SaysP (g3v (rdr ts,x,p,(L:Int)) >>=fun r_2=>some r_2) _;refine ggi ?_;rw[g3v,o1];simp only[oZ4,oZ3];by_cases h0:o.2=0
     · obtain⟨f1,f2,f3⟩:=o3 h0;have hr2:remI (o.1.length:Int) 2=((o.1.length % 2:Nat):Int):=remIn (b:=2);have hq2:quoI .i64 (o.1.length:Int) 2=((o.1.length / 2:Nat):Int):=by
         unfold quoI;have e:(o.1.length:Int).tdiv 2=((o.1.length / 2:Nat):Int):=by rw[Int.tdiv_eq_ediv_of_nonneg (by omega)];omega
         rw[e,IntKind.wrap_i64];omega
       rw[if_neg (by simp[h0]),e7,if_neg (by simp),hr2,hq2];by_cases hev:o.1.length % 2=0
       · by_cases hmx:((o.1.length / 2:Nat):Int)≤x.Max
         · have hcc:¬((bif decide (((o.1.length % 2:Nat):Int)=1)then true else decide (x.Max < ((o.1.length / 2:Nat):Int)))=true):=by
             have a:¬((o.1.length % 2:Nat):Int)=1:=by omega
             have b:¬x.Max < ((o.1.length / 2:Nat):Int):=by omega
             simp only[a,b,decide_false,cond_false,Bool.false_eq_true,not_false_eq_true]
           rw[if_neg hcc];have:=g114 (ts:=ts) (r:=r) (L:=L) (by omega) (x:=x) (l:=o.1) (by omega) hev (fun q hq=>ih x.Key q kl0 kl1 (by have:=f2 q hq;omega)) (fun q hq=>ih x.Elem q el0 el1 (by have:=f2 q hq;omega));refine this.imp ?_;rw[hv8];constructor
           · intro h;exact⟨_,f1,hev,hmx,h⟩
           · rintro ⟨l,h1,_,_,h4⟩
             rw[f1]at h1;cases h1;exact h4
         · have hcc:(bif decide (((o.1.length % 2:Nat):Int)=1)then true else decide (x.Max < ((o.1.length / 2:Nat):Int)))=true:=by
             have a:¬((o.1.length % 2:Nat):Int)=1:=by omega
             have b:x.Max < ((o.1.length / 2:Nat):Int):=by omega
             simp only[a,b,decide_false,decide_true,cond_false]
           rw[if_pos hcc];refine⟨false,rfl,?_⟩;rw[hv8];constructor
           · intro h;cases h
           · rintro ⟨l,h1,_,h3,_⟩
             rw[f1]at h1;cases h1;exact absurd h3 hmx
       · have hcc:(bif decide (((o.1.length % 2:Nat):Int)=1)then true else decide (x.Max < ((o.1.length / 2:Nat):Int)))=true:=by
           have a:((o.1.length % 2:Nat):Int)=1:=by omega
           simp only[a,decide_true,cond_true]
         rw[if_pos hcc];refine⟨false,rfl,?_⟩;rw[hv8];constructor
         · intro h;cases h
         · rintro ⟨l,h1,h2,_⟩
           rw[f1]at h1;cases h1;exact absurd h2 hev
     · rw[if_pos (by simp[h0])];refine⟨false,rfl,?_⟩;rw[hv8,o4 h0];constructor
       · intro h;cases h
       · rintro ⟨l,h,_⟩;cases h
   · have hv9:vcan ts (r+1) (j:Int) p↔(p=[]∨∃q,p=1::q∧vcan ts r x.Elem q):=by
       rw[hv];constructor
       · intro h;rcases h with h | ⟨k',h⟩ | ⟨k',h⟩ | ⟨k',h⟩ | ⟨k',h⟩ | ⟨k',h⟩
         · exfalso;rcases h with⟨k',_⟩ | ⟨k',_⟩ | ⟨k',_⟩ | ⟨k',_⟩ <;> omega
         all_goals first | exact h | (exfalso;omega)
       · intro h;exact .inr (.inr (.inr (.inr (.inr ⟨k,h⟩))))
     obtain⟨el0,el1⟩:=hU x.Elem (by unfold usesL;simp[k]);have e7:decide (x.Kind=7)=false:=by simp[k]
     rw[if_neg (by simp[k]),e7,if_neg (by simp),if_neg (by simp[k]),if_pos (by simp[k])];cases p with
     | nil=>
       refine⟨true,rfl,?_⟩;rw[hv9];simp
     | cons c q=>
       have hin:inR 0 (c::q).length=true:=g6 (k:=0) (by simp);have hsl:slR 1 ((c::q).length:Int) (c::q).length=true:=g7o (a:=1) (by simp) (by simp);have hcut:cutL (c::q) 1 ((c::q).length:Int)=q:=by
         have:=g9r (c::q) 1
         simpa using this
       have hne:decide (c::q=[])=false:=by simp
       have hby:g2u (c::q) 0=(c.toNat:Int):=g5q (c::q) 0;rw[hne,hin,hsl,hby,hcut];simp only[Bool.not_false,Bool.true_or,if_true,Bool.true_and,cond_false];by_cases hc1:c=1
       · subst hc1;obtain⟨w,w1,w2⟩:=ih x.Elem q el0 el1 (by simp at hp;omega);have w1':g8 ((⟨(⟨ts⟩:SSchema)⟩:EncodeReader),x.Elem,q,((L+1:Nat):Int))=some w:=w1;have hd:decide (((1:UInt8).toNat:Int)=1)=true:=by decide
         rw[hd,if_pos rfl,e1,w1'];refine⟨w,rfl,?_⟩;rw[hv9,w2];simp
       · have hd:decide ((c.toNat:Int)=1)=false:=by
           rw[decide_eq_false_iff_not];intro h;exact hc1 (UInt8.toNat_inj.1 (by
             have:(1:UInt8).toNat=1:=rfl;omega))
         rw[hd];refine⟨false,rfl,?_⟩;rw[hv9];constructor
         · intro h;cases h
         · rintro (h | ⟨q',h,_⟩)
           · cases h
           · cases h;exact absurd rfl hc1
end
end
section
open Go Go.Proofs.YthnmepafpikaiaaGreat.Shv Go.Sort
set_option maxRecDepth 100000
section
variable {ts:List SType}
def Cr(ts:List SType)(r:Nat) :Prop:=∀(t:Int) (p:List UInt8),0≤t→t < ts.length→p.length≤4096→SaysP (gm ((⟨ts⟩:SSchema),t,p,(r:Int))) (vcan ts r t p)
theorem gsc {l : List SField} (hl : l.length ≤ 100000) {x : SType} {m : SMember} (lv i : Int) : ∀ (k j : Nat) (a : Int), j + k = l.length → (a = -1 ∧ (∀ q, q < j → (l.getD q dSField).ID ≠ m.ID) ∨ ∃ q : Nat, q < l.length ∧ a = (q : Int) ∧ (l.getD q dSField).ID = m.ID) →
   ∃a',g1t (lv,l,i,a,(j:Int),ts,x.Kind,x.Name,x.Low,x.High,x.Max,x.Symbols,x.Members,x.Key,x.Elem,x.Open,m)=some (lv,l,i,a',ts,x.Kind,x.Name,x.Low,x.High,x.Max,x.Symbols,x.Members,x.Key,x.Elem,x.Open,m)∧(a'= -1∧(∀q,q < l.length→(l.getD q dSField).ID≠m.ID)∨∃q:Nat,q < l.length∧a'=(q:Int)∧(l.getD q dSField).ID=m.ID)
 | 0,j,a,hj,ha=>by
   refine⟨a,by rw[g1t,if_neg (by simp;omega),g5r],?_⟩;rcases ha with⟨h1,h2⟩ | h
   · exact .inl ⟨h1,fun q hq=>h2 q (by omega)⟩
   · exact .inr h
 | k+1,j,a,hj,ha=>by
   have hlt:j < l.length:=by omega
   rw[g1t,if_pos (by simp;omega),if_pos (g6 hlt)];simp only[g7,g5r];by_cases e:(l.getD j dSField).ID=m.ID
   · rw[if_pos (by simpa using e),g9 (by omega)];exact gsc hl lv i k (j+1) (j:Int) (by omega) (.inr ⟨j,hlt,rfl,e⟩)
   · rw[if_neg (by simpa using e),g9 (by omega)];refine gsc hl lv i k (j+1) a (by omega) ?_;rcases ha with⟨h1,h2⟩ | h
     · refine .inl ⟨h1,fun q hq=>?_⟩;by_cases h3:q < j
       · exact h2 q h3
       · have:q=j:=by omega
         subst this;exact e
     · exact .inr h
def okM(ts:List SType)(r:Nat)(l:List SField)(m:SMember) :Prop:=((∀f,f∈l→f.ID≠m.ID)→m.HasDefault=true)∧∀f,f∈l→f.ID=m.ID→f.Critical=m.Critical∧vcan ts r m.Type_ f.Data∧(m.HasDefault=true→f.Data≠vpay ts m.Type_ m.Default)
theorem g13n {γ : Type} (I : Bool) (A : Int → Bool) (cq w hd pe : Bool) (W : Option Bool) (P : Option (List UInt8)) (D q : List UInt8) (X Y : Option γ) (hI : I = true) (hW : cq = true → W = some w) (hP : cq = true → w = true → hd = true → P = some q) (hq : pe = decide (D = q)) :
   (if(I || (!true))=true then some (!cq) >>=fun t316=>if(I || (!(true && (!t316))))=true then(if(true && (!t316))=true then W else some false) >>=fun r_33=>some (bif t316 then true else(!r_33)) >>=fun t330=>
     if(I || (!(true && (!t330) && hd)))=true then(if(true && (!t330) && hd)=true then P else some []) >>=fun r_34=>if(bif true then bif t330 then true else bif hd then decide (D=r_34)else false else false)=true then X else Y else none else none else none)=if(cq && w && (!hd || !pe))=true then Y else X:=by
 subst hI;cases cq with
 | false=>rfl
 | true=>
   rw[hW rfl];cases w with
   | false=>rfl
   | true=>
     cases hd with
     | false=>rfl
     | true=>
       rw[hP rfl rfl rfl,hq];simp only[oZ4,oZ3,Bool.not_true,Bool.not_false,Bool.and_self,Bool.and_true,Bool.true_or,if_true,cond_true,cond_false,Bool.false_or];cases decide (D=q) <;> rfl
theorem gsd (H : DrOk ts) {r : Nat} (hr : r ≤ 300) (ih : Cr ts r) {x : SType} (hx : x ∈ ts) (hMt : ∀ m, m ∈ x.Members → 0 ≤ m.Type_ ∧ m.Type_ < ts.length) {l : List SField} (hl : l.length ≤ 100000) (hasc : l.Pairwise (fun a b => a.ID < b.ID)) (hd : ∀ f, f ∈ l → f.Data.length ≤ 4096) :
   ∀(k i:Nat),i+k=x.Members.length→(g1s (((r+1:Nat):Int),l,(i:Int),ts,x.Kind,x.Name,x.Low,x.High,x.Max,x.Symbols,x.Members,x.Key,x.Elem,x.Open)=some (.inr (l,x.Kind,x.Name,x.Low,x.High,x.Max,x.Symbols,x.Members,x.Key,x.Elem,x.Open))∧∀m,m∈x.Members.drop i→okM ts r l m)∨
     (g1s (((r+1:Nat):Int),l,(i:Int),ts,x.Kind,x.Name,x.Low,x.High,x.Max,x.Symbols,x.Members,x.Key,x.Elem,x.Open)=some (.inl false)∧¬∀m,m∈x.Members.drop i→okM ts r l m)
 | 0,i,hi=>by
   left;rw[g1s,if_neg (by simp;omega),List.drop_eq_nil_of_le (by omega:x.Members.length≤i)];exact⟨rfl,fun m hm=>by cases hm⟩
 | k+1,i,hi=>by
   have hlt:i < x.Members.length:=by omega
   have hm12:=(H.I _ hx).2.2;have ih':=gsd H hr ih hx hMt hl hasc hd k (i+1) (by omega);have hmm:=gh hlt dSMember;obtain⟨m0,m1⟩:=hMt _ hmm;have hdef:=H.D _ hx _ hmm;have hdo:=(H.T _ hx).dv _ hmm;have hdw:=H.W _ hx _ hmm
   obtain⟨a,a1,a2⟩:=gsc (ts:=ts) hl (x:=x) (m:=x.Members.getD i dSMember) (((r+1:Nat):Int)) (i:Int) l.length 0 (-1) (by omega) (.inl ⟨rfl,fun q hq=>by omega⟩);have a1':g1t (((r+1:Nat):Int),l,(i:Int),-1,0,ts,x.Kind,x.Name,x.Low,x.High,x.Max,x.Symbols,x.Members,x.Key,x.Elem,x.Open,x.Members.getD i dSMember)=_:=a1
   have hall:∀P:SMember→Prop,(∀m,m∈x.Members.getD i dSMember::x.Members.drop (i+1)→P m)↔P (x.Members.getD i dSMember)∧∀m,m∈x.Members.drop (i+1)→P m:=fun P=>by
     constructor
     · intro h;exact⟨h _ (.head _),fun f hf=>h f (.tail _ hf)⟩
     · rintro ⟨h1,h2⟩ f hf
       rcases List.mem_cons.1 hf with rfl | hf
       · exact h1
       · exact h2 f hf
   rw[g1m hlt dSMember,hall,g1s,if_pos (by simp;omega),if_pos (g6 hlt)];simp only[oZ4,oZ3,g7,g5r,SValue.g13];rw[a1'];simp only[oZ3];have e1:subI .i64 ((r+1:Nat):Int) 1=(r:Int):=by rw[g5s (by omega) (by omega)];omega
   rw[e1,g9 (by omega)];generalize x.Members.getD i dSMember=m at*;rcases a2 with⟨rfl,hno⟩ | ⟨q,hq,rfl,he⟩
   · have hno':∀f,f∈l→f.ID≠m.ID:=fun f hf=>by
       obtain⟨q,hq,rfl⟩:=List.getElem_of_mem hf;have:=hno q hq;rw[g16 hq]at this;exact this
     cases hdf:m.HasDefault with
     | true=>
       have hok:okM ts r l m:=⟨fun _=>hdf,fun f hf e=>absurd e (hno' f hf)⟩
       have hd0:decide ((0:Int)≤-1)=false:=by decide
       rw[if_neg (by simp),hd0];simp only[Bool.not_false,Bool.or_true,if_true,Bool.false_and,Bool.false_eq_true,if_false,cond_false,oZ3];rcases ih' with⟨b1,b2⟩ | ⟨b1,b2⟩
       · exact .inl ⟨b1,hok,b2⟩
       · exact .inr ⟨b1,fun h=>b2 h.2⟩
     | false=>
       right;rw[if_pos (by simp)];refine⟨rfl,fun h=>?_⟩;have:=h.1.1 hno';rw[hdf]at this;cases this
   · have hf:=gh hq dSField;have huniq:∀f,f∈l→f.ID=m.ID→f=l.getD q dSField:=fun f hf' e=>by
       obtain⟨q',hq',rfl⟩:=List.getElem_of_mem hf';rw[g16 hq]at he ⊢;have hp:=List.pairwise_iff_getElem.1 hasc;rcases Nat.lt_trichotomy q q' with h | h | h
       · have:=hp q q' hq hq' h;omega
       · subst h;rfl
       · have:=hp q' q hq' hq h;omega
     have hok:okM ts r l m↔(l.getD q dSField).Critical=m.Critical∧vcan ts r m.Type_ (l.getD q dSField).Data∧(m.HasDefault=true→(l.getD q dSField).Data≠vpay ts m.Type_ m.Default):=by
       constructor
       · rintro ⟨_,h⟩;exact h _ hf he
       · intro h;refine⟨fun h'=>absurd he (h' _ hf),fun f hf' e=>?_⟩;rw[huniq f hf' e];exact h
     obtain⟨w,w1,w2⟩:=ih m.Type_ (l.getD q dSField).Data m0 m1 (hd _ hf);have hd0:decide ((0:Int)≤(q:Int))=true:=by simp
     have hneg:¬((bif decide ((q:Int) < 0)then(!m.HasDefault)else false)=true):=by
       have:¬(q:Int) < 0:=by omega
       simp only[this,decide_false,cond_false,Bool.false_eq_true,not_false_eq_true]
     rw[if_neg hneg,hd0];simp only[g7]
     have hst:=g13n (γ:=Bool ⊕ (List SField × Int × List UInt8 × Int × Int × Int × List SSymbol × List SMember × Int × Int × Bool)) (inR (q:Int) l.length) (fun _=>true) (eqB (l.getD q dSField).Critical m.Critical) w m.HasDefault (decide ((l.getD q dSField).Data=vpay ts m.Type_ m.Default)) (gm ((⟨ts⟩:SSchema),m.Type_,(l.getD q dSField).Data,(r:Int))) (g1i ((⟨ts⟩:SSchema),m.Type_,m.Default)) (l.getD q dSField).Data (vpay ts m.Type_ m.Default) (some (.inl false)) (g1s (((r+1:Nat):Int),l,((i+1:Nat):Int),ts,x.Kind,x.Name,x.Low,x.High,x.Max,x.Symbols,x.Members,x.Key,x.Elem,x.Open)) (g6 hq) (fun _=>w1) (fun _ _ hdf=>gu7 (H.V.sok H.T) hdo (by have:=hdw hdf;omega) _ (vfit_weak _ _ (hdef hdf))) rfl
     have hgoal:=hst;simp only[oZ4]at hgoal;have hcond:(eqB (l.getD q dSField).Critical m.Critical && w && (!m.HasDefault || !(decide ((l.getD q dSField).Data=vpay ts m.Type_ m.Default))))=true↔okM ts r l m:=by
       rw[hok,←w2];have hc:eqB (l.getD q dSField).Critical m.Critical=true↔(l.getD q dSField).Critical=m.Critical:=by
         cases (l.getD q dSField).Critical <;> cases m.Critical <;> simp[eqB]
       simp only[Bool.and_eq_true,Bool.or_eq_true,hc];cases m.HasDefault <;> simp[and_assoc]
     by_cases hyes:okM ts r l m
     · have hE:=hgoal.trans (if_pos (hcond.2 hyes));rcases ih' with⟨b1,b2⟩ | ⟨b1,b2⟩
       · exact .inl ⟨hE.trans b1,hyes,b2⟩
       · exact .inr ⟨hE.trans b1,fun h=>b2 h.2⟩
     · have hE:=hgoal.trans (if_neg (fun h=>hyes (hcond.1 h)));exact .inr ⟨hE,fun h=>hyes h.1⟩
theorem gt6{x:SType}(hm:x.Members.length < 9223372036854775807){l:List SField}(hl:l.length≤100000) :SaysP (g1h (l,0,x.Kind,x.Name,x.Low,x.High,x.Max,x.Symbols,x.Members,x.Key,x.Elem,x.Open) >>=fun o_9=>match o_9 with | .inl o_10=>some o_10 | .inr _=>some true) (∀f,f∈l→findM x.Members f.ID=none→f.Critical=false):=by
 let u:Nat→Bool:=fun i=>!((g17 (x,(l.getD i dSField).ID)).getD (0,false)).2
 have hu:∀i,i < l.length→∃q,g17 (x,(l.getD i dSField).ID)=some q∧u i=!q.2∧(q.2=false↔findM x.Members (l.getD i dSField).ID=none):=by
   intro i hi;obtain⟨q,_,q2,qf⟩:=g3n (t:=x) (l.getD i dSField).ID hm;refine⟨q,q2,by simp only[u,q2,Option.getD_some],?_⟩;rcases g57 qf with⟨e,j,j1,j2,j3,j4⟩ | ⟨e,j3⟩
   · rw[e,j3];simp
   · rw[e,j3];simp
 refine(SaysP.loop (L:=fun i=>g1h (l,(i:Int),x.Kind,x.Name,x.Low,x.High,x.Max,x.Symbols,x.Members,x.Key,x.Elem,x.Open)) (n:=l.length) (p:=fun i=>!(bif u i then(l.getD i dSField).Critical else false)) (g:=()) rfl (fun i hi=>?_) ?_).imp ?_
 · show g1h (l,(i:Int),x.Kind,x.Name,x.Low,x.High,x.Max,x.Symbols,x.Members,x.Key,x.Elem,x.Open)=if(!(bif u i then(l.getD i dSField).Critical else false))=true then g1h (l,((i+1:Nat):Int),x.Kind,x.Name,x.Low,x.High,x.Max,x.Symbols,x.Members,x.Key,x.Elem,x.Open)else _
   obtain⟨q,q1,q2,_⟩:=hu i hi;rw[g1h,if_pos (by simp;omega),if_pos (g6 hi)];simp only[g7,ghh];rw[q1,q2];simp only[oZ4,oZ3];rw[if_pos (by rw[g6 hi];rfl),g9 (by omega)];cases (bif (!q.2)then(l.getD i dSField).Critical else false) <;> rfl
 · show g1h (l,(l.length:Int),x.Kind,x.Name,x.Low,x.High,x.Max,x.Symbols,x.Members,x.Key,x.Elem,x.Open)=_;rw[g1h,if_neg (by simp)]
 · constructor
   · intro h f hf hn;obtain⟨i,hi,rfl⟩:=List.getElem_of_mem hf;obtain⟨q,q1,q2,q3⟩:=hu i hi;rw[g16 hi]at q3;have:=h i hi;rw[q2,q3.2 hn,g16 hi]at this
     simpa using this
   · intro h i hi;obtain⟨q,q1,q2,q3⟩:=hu i hi;rw[q2];cases hq:q.2 with
     | true=>rfl
     | false=>
       have:=h _ (gh hi dSField) (q3.1 hq);rw[this];rfl
theorem gt7{r:Nat}{Ms:List SMember}(hM:MAsc Ms){l:List SField} :((∀m,m∈Ms→okM ts r l m)∧∀f,f∈l→findM Ms f.ID=none→f.Critical=false)↔(∀f,f∈l→okF ts r Ms f)∧∀m,m∈Ms→m.HasDefault=false→∃f,f∈l∧f.ID=m.ID:=by
 have hfind:∀m,m∈Ms→findM Ms m.ID=some m:=fun m hm=>by
   obtain⟨j,hj,hjm⟩:=List.getElem_of_mem hm;unfold findM;rw[List.find?_eq_some_iff_getElem];refine⟨by simp,j,hj,hjm,fun i hi=>?_⟩;have hp:=List.pairwise_iff_getElem.1 hM.1 i j (by omega) hj hi;rw[hjm]at hp;simp;omega
 constructor
 · rintro ⟨h1,h2⟩
   refine⟨fun f hf=>⟨h2 f hf,fun m hm=>?_⟩,fun m hm hd=>?_⟩
   · have e1 := List.mem_of_find?_eq_some hm;have e2 := List.find?_some hm
     exact (h1 m e1).2 f hf (by
       have : m.ID = f.ID := by simpa using e2
       omega)
   · apply Classical.byContradiction;intro hc;have:=(h1 m hm).1 (fun f hf e=>hc ⟨f,hf,e⟩);rw[hd]at this;cases this
 · rintro ⟨h1,h2⟩
   refine⟨fun m hm=>⟨fun hno=>?_,fun f hf e=>?_⟩,fun f hf=>(h1 f hf).1⟩
   · cases hd:m.HasDefault with
     | true=>rfl
     | false=>
       obtain⟨f,hf,e⟩:=h2 m hm hd;exact absurd e (hno f hf)
   · exact(h1 f hf).2 m (by rw[e];exact hfind m hm)
end
end
section
open Go Go.Proofs.YthnmepafpikaiaaGreat.Shv Go.Sort
set_option maxRecDepth 100000
theorem gz3{p:List UInt8}(hp:p.length≤90000){o:List (List UInt8) × Int}(h:g59 p=some o)(h0:¬o.2=0) :o.1=[]:=by
 obtain⟨o',a1,_,_⟩:=glh p.length p [] (by omega) (by simp;omega);rw[g59,a1]at h;cases o' with
 | inl e=>
   have:o=([],e):=(Option.some.inj h).symm;subst this;rfl
 | inr l=>
   have:o=(l,0):=(Option.some.inj h).symm;subst this;exact absurd rfl h0
section
variable {ts:List SType}
theorem gjm {r : Nat} (hr : r ≤ 300) {x : SType} {l : List (List UInt8)} (e : Int) (hl : l.length ≤ 100000) (ih : ∀ q, q ∈ l → SaysP (gm ((⟨ts⟩ : SSchema), x.Elem, q, (r : Int))) (vcan ts r x.Elem q)) :
   ∀(k i:Nat),i+k=l.length→(g21 (((r+1:Nat):Int),l,e,(i:Int),ts,x.Kind,x.Name,x.Low,x.High,x.Max,x.Symbols,x.Members,x.Key,x.Elem,x.Open)=some (.inr (l,e,x.Kind,x.Name,x.Low,x.High,x.Max,x.Symbols,x.Members,x.Key,x.Elem,x.Open))∧∀q,q∈l.drop i→vcan ts r x.Elem q)∨
     (g21 (((r+1:Nat):Int),l,e,(i:Int),ts,x.Kind,x.Name,x.Low,x.High,x.Max,x.Symbols,x.Members,x.Key,x.Elem,x.Open)=some (.inl false)∧¬∀q,q∈l.drop i→vcan ts r x.Elem q)
 | 0,i,hi=>by
   left;rw[g21,if_neg (by simp;omega),List.drop_eq_nil_of_le (by omega:l.length≤i)];exact⟨rfl,fun q hq=>by cases hq⟩
 | k+1,i,hi=>by
   have hlt:i < l.length:=by omega
   obtain⟨w,w1,w2⟩:=ih _ (gh hlt []);have e1:subI .i64 ((r+1:Nat):Int) 1=(r:Int):=by rw[g5s (by omega) (by omega)];omega
   have ih':=gjm hr e hl ih k (i+1) (by omega);rw[g1m hlt [],g21,if_pos (by simp;omega),if_pos (g6 hlt)];simp only[oZ4,oZ3,g7];rw[e1,w1];simp only[oZ3];cases w with
   | false=>
     right;rw[if_pos (by simp)];refine⟨rfl,fun h=>?_⟩;have:=w2.2 (h _ (.head _));cases this
   | true=>
     rw[if_neg (by simp),g9 (by omega)];rcases ih' with⟨a,b⟩ | ⟨a,b⟩
     · refine .inl ⟨a,fun q hq=>?_⟩;rcases List.mem_cons.1 hq with rfl | hq
       · exact w2.1 rfl
       · exact b q hq
     · exact .inr ⟨a,fun h=>b fun q hq=>h q (.tail _ hq)⟩
theorem gt8 {r : Nat} (hr : r ≤ 300) {x : SType} {l : List (List UInt8)} (hl : l.length ≤ 100000) (he : l.length % 2 = 0) (ihk : ∀ q, q ∈ l → SaysP (gm ((⟨ts⟩ : SSchema), x.Key, q, (r : Int))) (vcan ts r x.Key q)) (ihe : ∀ q, q ∈ l → SaysP (gm ((⟨ts⟩ : SSchema), x.Elem, q, (r : Int))) (vcan ts r x.Elem q)) :
   SaysP (g1r (((r+1:Nat):Int),l,0,ts,x.Kind,x.Name,x.Low,x.High,x.Max,x.Symbols,x.Members,x.Key,x.Elem,x.Open) >>=fun o=>match o with | .inl x=>some x | .inr _=>some true)
     (∀i,2*i+1 < l.length→vcan ts r x.Key (l.getD (2*i) [])∧vcan ts r x.Elem (l.getD (2*i+1) [])∧(0 < i→g8b (l.getD (2*i - 2) []) (l.getD (2*i) [])=true)):=by
 let a:Nat→Bool:=fun i=>(gm ((⟨ts⟩:SSchema),x.Key,l.getD (2*i) [],(r:Int))).getD false
 let e:Nat→Bool:=fun i=>(gm ((⟨ts⟩:SSchema),x.Elem,l.getD (2*i+1) [],(r:Int))).getD false
 have ha:∀i,2*i < l.length→gm ((⟨ts⟩:SSchema),x.Key,l.getD (2*i) [],(r:Int))=some (a i)∧(a i=true↔vcan ts r x.Key (l.getD (2*i) [])):=by
   intro i hi;obtain⟨w,h1,h2⟩:=ihk _ (gh hi []);refine⟨by simp only[a,h1,Option.getD_some],?_⟩;simp only[a,h1,Option.getD_some];exact h2
 have hee:∀i,2*i+1 < l.length→gm ((⟨ts⟩:SSchema),x.Elem,l.getD (2*i+1) [],(r:Int))=some (e i)∧(e i=true↔vcan ts r x.Elem (l.getD (2*i+1) [])):=by
   intro i hi;obtain⟨w,h1,h2⟩:=ihe _ (gh hi []);refine⟨by simp only[e,h1,Option.getD_some],?_⟩;simp only[e,h1,Option.getD_some];exact h2
 have e1:subI .i64 ((r+1:Nat):Int) 1=(r:Int):=by rw[g5s (by omega) (by omega)];omega
 refine(SaysP.loop (L:=fun i=>g1r (((r+1:Nat):Int),l,((2*i:Nat):Int),ts,x.Kind,x.Name,x.Low,x.High,x.Max,x.Symbols,x.Members,x.Key,x.Elem,x.Open)) (n:=l.length / 2) (p:=fun i=>a i && e i && (!(decide ((0:Int) < ((2*i:Nat):Int))) || g8b (l.getD (2*i - 2) []) (l.getD (2*i) []))) (g:=()) rfl (fun i hi=>?_) ?_).imp ?_
 · show g1r (((r+1:Nat):Int),l,((2*i:Nat):Int),ts,x.Kind,x.Name,x.Low,x.High,x.Max,x.Symbols,x.Members,x.Key,x.Elem,x.Open)=if _ then g1r (((r+1:Nat):Int),l,((2*(i+1):Nat):Int),ts,x.Kind,x.Name,x.Low,x.High,x.Max,x.Symbols,x.Members,x.Key,x.Elem,x.Open)else _
   have h2:2*i < l.length:=by omega
   have h3:2*i+1 < l.length:=by omega
   have hst:addI .i64 ((2*i:Nat):Int) 2=((2*(i+1):Nat):Int):=by
     have:=gfy (a:=2*i) (b:=2) (by omega);have e:2*i+2=2*(i+1):=by omega
     rw[e]at this;exact this
   have hs1:addI .i64 ((2*i:Nat):Int) 1=((2*i+1:Nat):Int):=g9 (by omega);rw[g1r,if_pos (by simp;omega),if_pos (g6 h2)];simp only[g7];rw[e1,(ha i h2).1,hst,hs1]
   refine gue (a i) (e i) (decide ((0:Int) < ((2*i:Nat):Int))) (g8b (l.getD (2*i - 2) []) (l.getD (2*i) [])) true (inR ((2*i:Nat):Int) l.length) (subI .i64 ((2*i:Nat):Int) 2) ((2*i+1:Nat):Int) (fun j=>inR j l.length) (fun j=>inR j l.length) (fun j=>gm ((⟨ts⟩:SSchema),x.Elem,l.getD j.toNat [],(r:Int))) (fun j=>g7j (l.getD j.toNat [],l.getD (2*i) [])) _ _ ?_ (g6 h3) (g6 h2) (fun hz=>?_)
   · show gm _=_;rw[g7];exact(hee i h3).1
   · have:0 < i:=by simp at hz;omega
     have hsub:subI .i64 ((2*i:Nat):Int) 2=((2*i - 2:Nat):Int):=by rw[g5s (by omega) (by omega)];omega
     rw[hsub,g7];exact⟨g6 (by omega),g101 _ _⟩
 · show g1r (((r+1:Nat):Int),l,((2*(l.length / 2):Nat):Int),ts,x.Kind,x.Name,x.Low,x.High,x.Max,x.Symbols,x.Members,x.Key,x.Elem,x.Open)=_;have:2*(l.length / 2)=l.length:=by omega
   rw[this,g1r,if_neg (by simp)]
 · constructor
   · intro h i hi;have:=h i (by omega);simp only[Bool.and_eq_true,Bool.or_eq_true]at this;refine⟨(ha i (by omega)).2.1 this.1.1,(hee i hi).2.1 this.1.2,fun h0=>?_⟩;rcases this.2 with h | h
     · exfalso
       have hd:decide ((0:Int) < ((2*i:Nat):Int))=true:=by simp;omega
       rw[hd]at h;cases h
     · exact h
   · intro h i hi;obtain⟨h1,h2,h3⟩:=h i (by omega);simp only[Bool.and_eq_true,Bool.or_eq_true];refine⟨⟨(ha i (by omega)).2.2 h1,(hee i (by omega)).2.2 h2⟩,?_⟩;by_cases h0:0 < i
     · exact .inr (h3 h0)
     · left;have:i=0:=by omega
       subst this;rfl
theorem g13o {r : Nat} {j : Nat} {p : List UInt8} {x : SType} (hx : ts.getD j dSType = x) :
   (x.Kind=1→(vcan ts (r+1) (j:Int) p↔(p=[]∨p=[1])))∧
   (x.Kind=2→(vcan ts (r+1) (j:Int) p↔∃n,vub p=some n∧x.Low≤unz n∧unz n≤x.High))∧
   (x.Kind=3→(vcan ts (r+1) (j:Int) p↔(p.length:Int)≤x.Max))∧
   (x.Kind=4→(vcan ts (r+1) (j:Int) p↔∃n,vub p=some n∧(1≤n∧n≤1000)∧((∃y,y∈x.Symbols∧y.ID=(n:Int))∨x.Open=true)))∧
   (x.Kind=5→(vcan ts (r+1) (j:Int) p↔∃l,vFl p=some l∧(∀f,f∈l→okF ts r x.Members f)∧∀m,m∈x.Members→m.HasDefault=false→∃f,f∈l∧f.ID=m.ID))∧
   (x.Kind=6→(vcan ts (r+1) (j:Int) p↔∃id q,vA p=some (id,q)∧(findM x.Members id=none→x.Open=true)∧∀m,findM x.Members id=some m→vcan ts r m.Type_ q))∧
   (x.Kind=7→(vcan ts (r+1) (j:Int) p↔∃l,vI p=some l∧(l.length:Int)≤x.Max∧∀q,q∈l→vcan ts r x.Elem q))∧
   (x.Kind=8→(vcan ts (r+1) (j:Int) p↔∃l,vI p=some l∧l.length % 2=0∧((l.length / 2:Nat):Int)≤x.Max∧∀i,2*i+1 < l.length→vcan ts r x.Key (l.getD (2*i) [])∧vcan ts r x.Elem (l.getD (2*i+1) [])∧(0 < i→g8b (l.getD (2*i - 2) []) (l.getD (2*i) [])=true)))∧
   (x.Kind=9→(vcan ts (r+1) (j:Int) p↔(p=[]∨∃q,p=1::q∧vcan ts r x.Elem q))):=by
 have hv:=guf (ts:=ts) r (j:Int) p;rw[g7,hx]at hv;refine⟨fun k=>?_,fun k=>?_,fun k=>?_,fun k=>?_,fun k=>?_,fun k=>?_,fun k=>?_,fun k=>?_,fun k=>?_⟩ <;> rw[hv] <;> simp[k]
theorem guh(H:DrOk ts) :∀(r:Nat),r≤200→Cr ts r
 | 0,hr=>by
   intro t p ht0 ht1 hp;obtain⟨j,rfl⟩:∃j:Nat,t=(j:Int):=⟨t.toNat,by omega⟩
   rw[gm,if_pos (g6 (by omega:j < ts.length))];simp only[oZ4,oZ3];rw[if_pos (by simp)];refine⟨false,rfl,?_⟩;constructor
   · intro h;cases h
   · intro h;exact h.elim
 | r+1,hr=>by
   intro t p ht0 ht1 hp;have ih:=guh H r (by omega);obtain⟨j,rfl⟩:∃j:Nat,t=(j:Int):=⟨t.toNat,by omega⟩
   have hj:j < ts.length:=by omega
   have hxm:=gh hj dSType;have hS:=H.V.sok H.T;have hU:=H.V.U _ hxm;have hK:=hS.K _ hxm;have hm7:(ts.getD j dSType).Members.length < 9223372036854775807:=gz (g3c (H.T _ hxm).mems);have hs7:(ts.getD j dSType).Symbols.length < 9223372036854775807:=gz (g3c (H.T _ hxm).syms)
   have hMt:∀m,m∈(ts.getD j dSType).Members→0≤m.Type_∧m.Type_ < ts.length:=fun m hm=>hU m.Type_ (List.mem_append.2 (.inl (List.mem_append.2 (.inl (List.mem_map.2 ⟨m,hm,rfl⟩)))))
   have e1:subI .i64 ((r+1:Nat):Int) 1=(r:Int):=by rw[g5s (by omega) (by omega)];omega
   rw[gm,if_pos (g6 hj)];simp only[oZ4,oZ3,g7];rw[if_neg (by simp;omega)];have hA:=hS.A _ hxm;generalize hxx:ts.getD j dSType=x at*;obtain⟨v1,v2,v3,v4,v5,v6,v7,v8,v9⟩:=g13o (ts:=ts) (r:=r) (p:=p) hxx;unfold g8w at hK
   have hc9:x.Kind=1∨x.Kind=2∨x.Kind=3∨x.Kind=4∨x.Kind=5∨x.Kind=6∨x.Kind=7∨x.Kind=8∨x.Kind=9:=by omega
   rcases hc9 with k | k | k | k | k | k | k | k | k
   · rw[if_pos (by simp[k])];refine(SaysP.of ?_).imp (v1 k).symm;by_cases h:p=[] <;> simp[h]
   · rw[if_neg (by simp[k]),if_pos (by simp[k])];obtain⟨o,_,o2,o3,o4⟩:=ghl p;rw[o2];simp only[oZ3];by_cases h0:o.2=0
     · obtain⟨n,n1,n2⟩:=o3 h0;have hn:=gyy n1;have hd:decide (o.2=0)=true:=by simp[h0]
       rw[hd,if_pos rfl,n2,g13l hn];simp only[oZ3,cond_true];by_cases g:x.Low≤unz n
       · have hg:decide (x.Low≤unz n)=true:=by simpa using g
         rw[hg,if_pos rfl];refine⟨_,rfl,?_⟩;rw[v2 k,n1];constructor
         · intro h;exact⟨n,rfl,g,by simpa using h⟩
         · rintro ⟨m,hm,_,h⟩
           cases hm
           simpa using h
       · have hg:decide (x.Low≤unz n)=false:=by simpa using g
         rw[hg,if_neg (by simp)];refine⟨false,rfl,?_⟩;rw[v2 k,n1];constructor
         · intro h;cases h
         · rintro ⟨m,hm,h,_⟩
           cases hm;exact absurd h g
     · have hd:decide (o.2=0)=false:=by simp[h0]
       rw[hd];refine⟨false,rfl,?_⟩;rw[v2 k,o4 h0];constructor
       · intro h;cases h
       · rintro ⟨m,hm,_⟩;cases hm
   · rw[if_neg (by simp[k]),if_neg (by simp[k]),if_pos (by simp[k])];exact(SaysP.of (by simp)).imp (v3 k).symm
   · rw[if_neg (by simp[k]),if_neg (by simp[k]),if_neg (by simp[k]),if_pos (by simp[k])];obtain⟨o,_,o2,o3,o4⟩:=ghl p;rw[o2];simp only[oZ3];by_cases h0:o.2=0
     · obtain⟨n,n1,n2⟩:=o3 h0;rw[n2,h0];by_cases hrn:1≤n∧n≤1000
       · have a:¬(n:Int) < 1:=by omega
         have b:¬(1000:Int) < (n:Int):=by omega
         obtain⟨q,_,q2,qf⟩:=gbd (t:=x) (n:Int) hs7;rw[if_neg (by simp only[a,b,decide_false,decide_true,Bool.not_true,cond_false,Bool.false_eq_true,not_false_eq_true]),wrp64 (by omega) (by omega),q2];refine⟨_,rfl,?_⟩;rw[v4 k,n1];have:=ghi qf;cases hq:q.2 with
         | true=>
           simp only[cond_true,true_iff];exact⟨n,rfl,hrn,.inl (this.1 hq)⟩
         | false=>
           have h1:¬∃y,y∈x.Symbols∧y.ID=(n:Int):=fun h=>by rw[this.2 h]at hq;cases hq
           simp only[cond_false];constructor
           · intro h;exact⟨n,rfl,hrn,.inr h⟩
           · rintro ⟨m,hm,_,h⟩
             cases hm;rcases h with h | h
             · exact absurd h h1
             · exact h
       · have hc:(bif bif (!(decide ((0:Int)=0)))then true else decide ((n:Int) < 1)then true else decide (1000 < (n:Int)))=true:=by
           by_cases a:(n:Int) < 1
           · simp only[a,decide_true,Bool.not_true,cond_true,cond_false]
           · have b:(1000:Int) < (n:Int):=by omega
             simp only[a,b,decide_true,decide_false,Bool.not_true,cond_false]
         rw[if_pos hc];refine⟨false,rfl,?_⟩;rw[v4 k,n1];constructor
         · intro h;cases h
         · rintro ⟨m,hm,h,_⟩
           cases hm;exact absurd h hrn
     · have hc:(bif bif (!(decide (o.2=0)))then true else decide (o.1 < 1)then true else decide (1000 < o.1))=true:=by simp[h0]
       rw[if_pos hc];refine⟨false,rfl,?_⟩;rw[v4 k,o4 h0];constructor
       · intro h;cases h
       · rintro ⟨m,hm,_⟩;cases hm
   · rw[if_neg (by simp[k]),if_neg (by simp[k]),if_neg (by simp[k]),if_neg (by simp[k]),if_neg (by simp[k]),if_neg (by simp[k]),if_neg (by simp[k]),if_neg (by simp[k])];obtain⟨o,_,o2,o3,o4⟩:=gku (p:=p) (by omega);rw[o2];simp only[oZ3];by_cases h0:o.2=0
     · obtain⟨f1,f2,f3,f4⟩:=o3 h0;obtain⟨hma,_⟩:=hA (.inl k);rw[if_neg (by simp[h0])];have hm':=gsd H (by omega:r≤300) ih hxm hMt (l:=o.1) (by omega) f3 (fun f hf=>by have:=(f2 f hf).1;omega) x.Members.length 0 (by omega)
       have e0:g1s (((r+1:Nat):Int),o.1,((0:Nat):Int),ts,x.Kind,x.Name,x.Low,x.High,x.Max,x.Symbols,x.Members,x.Key,x.Elem,x.Open)=g1s (((r+1:Nat):Int),o.1,0,ts,x.Kind,x.Name,x.Low,x.High,x.Max,x.Symbols,x.Members,x.Key,x.Elem,x.Open):=rfl;simp only[e0,List.drop_zero]at hm';have hb:=gt7 (ts:=ts) (r:=r) hma (l:=o.1)
       rcases hm' with⟨a,b⟩ | ⟨a,b⟩
       · rw[a];simp only[oZ3];refine(gt6 hm7 (l:=o.1) (by omega)).imp ?_;rw[v5 k];constructor
         · intro h;exact⟨o.1,f1,hb.1 ⟨b,h⟩⟩
         · rintro ⟨l,h1,h2⟩
           rw[f1]at h1;cases h1;exact(hb.2 h2).2
       · rw[a];refine⟨false,rfl,?_⟩;rw[v5 k];constructor
         · intro h;cases h
         · rintro ⟨l,h1,h2⟩
           rw[f1]at h1;cases h1;exact absurd (hb.2 h2).1 b
     · rw[if_pos (by simp[h0])];refine⟨false,rfl,?_⟩;rw[v5 k,o4 h0];constructor
       · intro h;cases h
       · rintro ⟨l,h,_⟩;cases h
   · rw[if_neg (by simp[k]),if_neg (by simp[k]),if_neg (by simp[k]),if_neg (by simp[k]),if_neg (by simp[k]),if_pos (by simp[k])];obtain⟨o,_,o2,o3,o4⟩:=gsa p;rw[o2];simp only[oZ3];by_cases h0:o.2.2=0
     · obtain⟨f1,f2,f3⟩:=o3 h0;rw[if_neg (by simp[h0])];obtain⟨q,_,q2,qf⟩:=g3n (t:=x) o.1 hm7;rw[q2];simp only[oZ3];rcases g57 qf with⟨e,i,i1,i2,i3,i4⟩ | ⟨e,i3⟩
       · have hmm:=gh i1 dSMember;obtain⟨m0,m1⟩:=hMt _ hmm;obtain⟨w,w1,w2⟩:=ih (x.Members.getD i dSMember).Type_ o.2.1 m0 m1 (by omega);rw[if_pos e,i2,if_pos (g6 i1),g7,e1,w1];refine⟨w,rfl,?_⟩;rw[v6 k,w2];constructor
         · intro h;refine⟨_,_,f1,fun h'=>?_,fun m hm=>?_⟩
           · rw[i3]at h';cases h'
           · rw[i3]at hm;cases hm;exact h
         · rintro ⟨id,q',h1,_,h3⟩
           rw[f1]at h1;cases h1;exact h3 _ i3
       · rw[if_neg (by simp[e])];refine⟨_,rfl,?_⟩;rw[v6 k];constructor
         · intro h;refine⟨_,_,f1,fun _=>h,fun m hm=>?_⟩;rw[i3]at hm;cases hm
         · rintro ⟨id,q',h1,h2,_⟩
           rw[f1]at h1;cases h1;exact h2 i3
     · rw[if_pos (by simp[h0])];refine⟨false,rfl,?_⟩;rw[v6 k,o4 h0];constructor
       · intro h;cases h
       · rintro ⟨id,q,h,_⟩;cases h
   · rw[if_neg (by simp[k]),if_neg (by simp[k]),if_neg (by simp[k]),if_neg (by simp[k]),if_neg (by simp[k]),if_neg (by simp[k]),if_pos (by simp[k])];obtain⟨el0,el1⟩:=hU x.Elem (by unfold usesL;simp[k]);obtain⟨o,o1,o2,o3,o4⟩:=gco (p:=p) (by omega);rw[o2];simp only[oZ3];have hlen:o.1.length≤100000∧∀q,q∈o.1→q.length≤4096:=by
       by_cases h0:o.2=0
       · obtain⟨_,f2,f3⟩:=o3 h0;exact⟨by omega,fun q hq=>by have:=f2 q hq;omega⟩
       · have:=gz3 (by omega) o1 h0;rw[this];exact⟨by simp,fun q hq=>by cases hq⟩
     have hls:=gjm (ts:=ts) (r:=r) (by omega) (x:=x) (l:=o.1) o.2 hlen.1 (fun q hq=>ih x.Elem q el0 el1 (hlen.2 q hq)) o.1.length 0 (by omega)
     have e0:g21 (((r+1:Nat):Int),o.1,o.2,((0:Nat):Int),ts,x.Kind,x.Name,x.Low,x.High,x.Max,x.Symbols,x.Members,x.Key,x.Elem,x.Open)=g21 (((r+1:Nat):Int),o.1,o.2,0,ts,x.Kind,x.Name,x.Low,x.High,x.Max,x.Symbols,x.Members,x.Key,x.Elem,x.Open):=rfl;simp only[e0,List.drop_zero]at hls;rcases hls with⟨a,b⟩ | ⟨a,b⟩
     · rw[a];simp only[oZ3];refine⟨_,rfl,?_⟩;rw[v7 k];by_cases h0:o.2=0
       · have f1:=(o3 h0).1;have hd:decide (o.2=0)=true:=by simp[h0]
         rw[hd];simp only[cond_true,decide_eq_true_eq];constructor
         · intro h;exact⟨_,f1,h,b⟩
         · rintro ⟨l,h1,h2,_⟩
           rw[f1]at h1;cases h1;exact h2
       · have hd:decide (o.2=0)=false:=by simp[h0]
         rw[hd,o4 h0];simp
     · rw[a];refine⟨false,rfl,?_⟩;rw[v7 k];by_cases h0:o.2=0
       · have f1:=(o3 h0).1;constructor
         · intro h;cases h
         · rintro ⟨l,h1,_,h3⟩
           rw[f1]at h1;cases h1;exact absurd h3 b
       · rw[o4 h0];simp
   · rw[if_neg (by simp[k]),if_neg (by simp[k]),if_neg (by simp[k]),if_neg (by simp[k]),if_neg (by simp[k]),if_neg (by simp[k]),if_neg (by simp[k]),if_pos (by simp[k])];obtain⟨el0,el1⟩:=hU x.Elem (by unfold usesL;simp[k]);obtain⟨kl0,kl1⟩:=hU x.Key (by unfold usesL;simp[k]);obtain⟨o,o1,o2,o3,o4⟩:=gco (p:=p) (by omega);rw[o2];simp only[oZ3]
     by_cases h0:o.2=0
     · obtain⟨f1,f2,f3⟩:=o3 h0;have hr2:remI (o.1.length:Int) 2=((o.1.length % 2:Nat):Int):=remIn (b:=2);have hq2:quoI .i64 (o.1.length:Int) 2=((o.1.length / 2:Nat):Int):=by
         unfold quoI;have e:(o.1.length:Int).tdiv 2=((o.1.length / 2:Nat):Int):=by rw[Int.tdiv_eq_ediv_of_nonneg (by omega)];omega
         rw[e,IntKind.wrap_i64];omega
       rw[hr2,hq2,h0];by_cases hev:o.1.length % 2=0
       · have ev:((o.1.length % 2:Nat):Int)=0:=by omega
         rw[ev];by_cases hmx:((o.1.length / 2:Nat):Int)≤x.Max
         · have b:¬x.Max < ((o.1.length / 2:Nat):Int):=by omega
           rw[if_neg (by simp only[b,decide_true,decide_false,Bool.not_true,cond_false,Bool.false_eq_true,not_false_eq_true])];refine(gt8 (ts:=ts) (r:=r) (by omega) (x:=x) (l:=o.1) (by omega) hev (fun q hq=>ih x.Key q kl0 kl1 (by have:=f2 q hq;omega)) (fun q hq=>ih x.Elem q el0 el1 (by have:=f2 q hq;omega))).imp ?_;rw[v8 k];constructor
           · intro h;exact⟨_,f1,hev,hmx,h⟩
           · rintro ⟨l,h1,_,_,h4⟩
             rw[f1]at h1;cases h1;exact h4
         · have b:x.Max < ((o.1.length / 2:Nat):Int):=by omega
           rw[if_pos (by simp only[b,decide_true,Bool.not_true,cond_false])];refine⟨false,rfl,?_⟩;rw[v8 k];constructor
           · intro h;cases h
           · rintro ⟨l,h1,_,h3,_⟩
             rw[f1]at h1;cases h1;exact absurd h3 hmx
       · have ev:((o.1.length % 2:Nat):Int)=1:=by omega
         rw[ev,if_pos (by rfl)];refine⟨false,rfl,?_⟩;rw[v8 k];constructor
         · intro h;cases h
         · rintro ⟨l,h1,h2,_⟩
           rw[f1]at h1;cases h1;exact absurd h2 hev
     · rw[if_pos (by simp[h0])];refine⟨false,rfl,?_⟩;rw[v8 k,o4 h0];constructor
       · intro h;cases h
       · rintro ⟨l,h,_⟩;cases h
   · rw[if_neg (by simp[k]),if_neg (by simp[k]),if_neg (by simp[k]),if_neg (by simp[k]),if_pos (by simp[k])];obtain⟨el0,el1⟩:=hU x.Elem (by unfold usesL;simp[k]);cases p with
     | nil=>
       refine⟨true,rfl,?_⟩;rw[v9 k];simp
     | cons c q=>
       have hin:inR 0 (c::q).length=true:=g6 (k:=0) (by simp);have hsl:slR 1 ((c::q).length:Int) (c::q).length=true:=g7o (a:=1) (by simp) (by simp);have hcut:cutL (c::q) 1 ((c::q).length:Int)=q:=by
         have:=g9r (c::q) 1
         simpa using this
       have hne:decide (c::q=[])=false:=by simp
       have hby:g2u (c::q) 0=(c.toNat:Int):=g5q (c::q) 0;rw[hne,hin,hsl,hby,hcut];simp only[Bool.not_false,Bool.true_or,if_true,Bool.true_and,cond_false];by_cases hc1:c=1
       · subst hc1;obtain⟨w,w1,w2⟩:=ih x.Elem q el0 el1 (by simp at hp;omega);have hd:decide (((1:UInt8).toNat:Int)=1)=true:=by decide
         rw[hd,if_pos rfl,e1,w1];refine⟨w,rfl,?_⟩;rw[v9 k,w2];simp
       · have hd:decide ((c.toNat:Int)=1)=false:=by
           rw[decide_eq_false_iff_not];intro h;exact hc1 (UInt8.toNat_inj.1 (by
             have:(1:UInt8).toNat=1:=rfl;omega))
         rw[hd];refine⟨false,rfl,?_⟩;rw[v9 k];constructor
         · intro h;cases h
         · rintro (h | ⟨q',h,_⟩)
           · cases h
           · cases h;exact absurd rfl hc1
theorem go8(H:DrOk ts)(t:Int)(m:List UInt8) :∃b,g82 ((⟨ts⟩:SSchema),t,m)=some b∧g61 ((⟨ts⟩:SSchema),t,m)=some b∧(b=true↔0≤t∧t < ts.length∧m.length≤4096∧vcan ts 200 t m):=by
 obtain⟨v1,v2⟩:=gys H.T H.V;rw[g82,g61,gay];simp only[gw2];rw[v1,v2];by_cases hin:0≤t∧t < ts.length
 · have a:¬t < 0:=by omega
   have b:¬((ts.length:Nat):Int)≤t:=by omega
   have hc:¬((bif decide (t < 0)then true else decide (((⟨ts⟩:SSchema).Types.length:Int)≤t))=true):=by
     simp only[a,b,decide_false,cond_false,Bool.false_eq_true,not_false_eq_true]
   have hE:∀{γ:Type} (K:Int→Option γ),((some (0:Int) >>=fun r=>if(!(decide (r=0)))=true then some r else if(bif decide (t < 0)then true else decide (((⟨ts⟩:SSchema).Types.length:Int)≤t))=true then some (4:Int)else some 0) >>=K)=K 0:=fun K=>by
     show((if(bif decide (t < 0)then true else decide (((⟨ts⟩:SSchema).Types.length:Int)≤t))=true then some (4:Int)else some 0) >>=K)=_;rw[if_neg hc];rfl
   by_cases hl:m.length≤4096
   · obtain⟨w,w1,w2⟩:=gug H 200 1 (by omega) (by omega) t m hin.1 hin.2 hl;obtain⟨z,z1,z2⟩:=guh H 200 (by omega) t m hin.1 hin.2 hl;have hwz:w=z:=by rw[Bool.eq_iff_iff,w2,z2]
     subst hwz;have w1':g8 ((⟨(⟨ts⟩:SSchema)⟩:EncodeReader),t,m,1)=some w:=w1;have z1':gm ((⟨ts⟩:SSchema),t,m,200)=some w:=z1;have hd:decide ((m.length:Int)≤4096)=true:=by simp;omega
     refine⟨w,?_,?_,by rw[w2];simp[hin,hl]⟩
     · refine(hE _).trans ?_;show(some (decide ((m.length:Int)≤4096)) >>=_)=_;rw[hd];show(g8 ((⟨(⟨ts⟩:SSchema)⟩:EncodeReader),t,m,1) >>=_)=_;rw[w1'];rfl
     · have hb:(bif bif bif decide True then decide (0≤t)else false then decide (t < (ts.length:Int))else false then decide ((m.length:Int)≤4096)else false)=true:=by
         have h1:decide (0≤t)=true:=by simp;omega
         have h2:decide (t < (ts.length:Int))=true:=by simp;omega
         rw[h1,h2,hd];simp
       simp only[oZ4,oZ3];rw[hb,if_pos rfl,z1'];rfl
   · have hd:decide ((m.length:Int)≤4096)=false:=by simp;omega
     refine⟨false,?_,?_,by simp;omega⟩
     · refine(hE _).trans ?_;show(some (decide ((m.length:Int)≤4096)) >>=_)=_;rw[hd];rfl
     · simp only[oZ4,oZ3];rw[hd];cases (bif bif decide True then decide (0≤t)else false then decide (t < (ts.length:Int))else false) <;> rfl
 · have hc:(bif decide (t < 0)then true else decide (((⟨ts⟩:SSchema).Types.length:Int)≤t))=true:=by
     by_cases a:t < 0
     · simp only[a,decide_true,cond_true]
     · have b:((ts.length:Nat):Int)≤t:=by omega
       simp only[a,b,decide_true,decide_false,cond_false]
   refine⟨false,?_,?_,by
     constructor
     · intro h;cases h
     · rintro ⟨h1,h2,_⟩;exact absurd ⟨h1,h2⟩ hin⟩
   · show((if(bif decide (t < 0)then true else decide (((⟨ts⟩:SSchema).Types.length:Int)≤t))=true then some (4:Int)else some 0) >>=_)=_;rw[if_pos hc];rfl
   · have hb:(bif bif bif decide True then decide (0≤t)else false then decide (t < (ts.length:Int))else false then decide ((m.length:Int)≤4096)else false)=false:=by
       by_cases a:0≤t
       · have b:¬t < ((ts.length:Nat):Int):=by omega
         have h1:decide (t < (ts.length:Int))=false:=by simpa using b
         rw[h1];cases (bif decide True then decide (0≤t)else false) <;> rfl
       · have h1:decide (0≤t)=false:=by simpa using a
         rw[h1];rfl
     simp only[oZ4,oZ3];rw[hb];rfl
end
theorem gpv{d:Sheaveref07Draft}(hd:DOk d)(t:Int)(m:List UInt8) :g4i (d,t,m)=some true:=by
 rw[g4i];rcases of_ok hd with h | ⟨l,h,H⟩
 · rw[h,g9t];rfl
 · rw[h,g9t];simp only[oZ4,oZ3];split
   · rfl
   · obtain⟨b,b1,b2,_⟩:=go8 H t m;rw[b1,b2];simp only[oZ3];cases b <;> rfl
theorem law_EncodeCanonical(h:Hs Un.D [.nm ixSheaveref07Draft,.int .i64,.str])(hk:Ok Un [.nm ixSheaveref07Draft,.int .i64,.str] h) :g4i h=some true:=by
 obtain⟨d,t,m⟩:=h;exact gpv (g112 (g13f hk ⟨.slice (.nm ixSheaveref07Node),d.Nodes⟩ (.head _))) t m
end
end Go.Proofs.YthnmepafpikaiaaGreat
