/- The functions of the program as functions of Lean, that its code does what they say, and what they answer; part C. -/
import Derived.Test.YtandcioiaooocaaGreatMtB

namespace Go.Proofs.YtandcioiaooocaaGreat
set_option linter.all false
section
open Go Go.Proofs.YtandcioiaooocaaGreat.Shv Go.Sort
set_option maxRecDepth 100000
structure DrOk (ts:List ae):Prop where
 n1:1<=ts.length
 n5:ts.length<=5
 T:∀t,t∈ts->OkT t
 V:VOk ts
 D:∀t,t∈ts->KG ts t.Members
 R:∀i:Nat,i < ts.length->∀m,m∈(ts.getD i ap).Members->0<=m.Type_/\m.Type_ < ts.length/\(7<=(ts.getD m.Type_.toNat ap).Kind\/m.Type_ < i)
 L:∀t,t∈ts->t.Kind=2->-3<=t.Low/\t.High<=8
 M:∀t,t∈ts->t.Max<=3
 I:∀t,t∈ts->(∀m,m∈t.Members->m.ID<=12)/\(∀y,y∈t.Symbols->y.ID<=6)/\t.Members.length<=12
 W:∀t,t∈ts->∀m,m∈t.Members->m.HasDefault=true->wt m.Default<=13
theorem fq{v:ab}(hk:v.Keys=[])(hi:v.Items=[])(hr:v.Rest=[])(hs:v.Str.length<=1000)(n1:I64 v.Kind)(n2:I64 v.Int_)(n3:I64 v.ID):OkV v:=by
 refine .mk v (by unfold reachBytes;omega) (by rw[hk];simp) (by rw[hi];simp) (by rw[hr];simp) (fun x hx=>?_) (fun x hx=>?_) (fun x hx=>?_) n1 n2 n3 (fun x hx=>?_)
 . grind
 . grind
 . grind
 grind
theorem okV_d :OkV af:=fq rfl rfl rfl (by simp[af]) (by unfold I64 af;simp) (by unfold I64 af;simp) (by unfold I64 af;simp)
theorem yw{v:ab}(hk:v.Keys=[])(hi:v.Items=[])(hr:v.Rest=[]):wt v=10+v.Str.length:=by
 rw[wt_eq,hk,hi,hr,bZ];simp
section
variable {ns:List Nd} (hN:∀x,x∈ns->NOk x) (h5:ns.length<=5) (h1:1<=ns.length) {l:List ae} (hl:l.length=ns.length) (hT:∀j,j < ns.length->TyP ns (j:Int) (l.getD j ap))
include hN h5 in
theorem yx{t:Int}(ht:0<=t/\t < ns.length){v:ab}(h:Init ns t v):OkV v/\wt v<=13:=by
 obtain⟨a,b,c,h⟩:=h;obtain⟨j,rfl⟩:∃j:Nat,t=(j:Int):=⟨t.toNat,by omega⟩
 have hx:=hN _ (aB (by omega:j < ns.length) dNd);obtain⟨_,k1,k9⟩:=kd_eq hN h5 ht.1 ht.2;rw[az]at h;have ha:=hx.a;have hb:=hx.b;have hids:=(ids_eq' (ns.getD j dNd)).2.1.2;unfold U8 at ha hb;rw[yw a b c];have hs:v.Str.length<=3:=by grind
 refine⟨fq a b c (by omega) ?_ ?_ ?_,by omega⟩
 . unfold I64;rcases h with h | h | h | h | h <;> omega
 . unfold I64;rcases h with⟨_,_,e,_⟩ | ⟨_,_,_,_,_,e⟩ | ⟨_,_,_,e,_⟩ | ⟨_,_,_,e,_⟩ | ⟨_,_,e,_⟩ <;> omega
 . unfold I64
   grind
include hN h5 in
theorem vO{i:Int}{r:Bool}{Ms:List aj}(h:MemsP ns i r Ms):fE (!r) Ms\/(r=false/\Ms=[]):=by
 obtain⟨a,b,c⟩:=h;by_cases h0:r=false/\Ms=[]
 . grind
 left;refine⟨fun m hm=>?_,?_,⟨a,fun m hm=>?_⟩,fun m hm=>?_,?_,by omega⟩
 . have q:=b m hm;unfold badM;have hz:m.HasDefault=false->fC m.Default=true:=fun h=>by
    rw[q.nod h];have h3:Says (dh (af,af)) af af:=nC okV_d af;obtain⟨w,w1,w2⟩:=h3;unfold fC
    grind
   have hc:=q.crit;have hu:=q.un
   grind
 . grind
 . have:=(b m hm).id;exact⟨by omega,by omega⟩
 . have q:=b m hm;have:=q.id;rw[q.name];exact zp (by omega) (by omega)
 . unfold List.Nodup;rw[List.pairwise_map];refine a.imp_of_mem fun {x y} hx hy hlt=>?_
   have qx:=b x hx;have qy:=b y hy;have ix:=qx.id;have iy:=qy.id;rw[qx.name,qy.name];intro e;simp only[List.cons.injEq,and_true,true_and]at e;have e2:=congrArg UInt8.toNat e;rw[fc (by omega),fc (by omega)]at e2;omega
theorem vP{l:List Int}(h:IdsOk l 6)(h1:1<=l.length)(h6:l.length<=6):ma (symsL l)/\(∀y,y∈symsL l->y.ID<=6):=by
 unfold symsL;refine⟨⟨by simp;omega,⟨?_,fun y hy=>?_⟩,fun y hy=>?_,?_,by simp;omega⟩,fun y hy=>?_⟩
 . rw[List.pairwise_map];exact h.1
 . obtain⟨x,hx,rfl⟩:=List.mem_map.1 hy;have:=h.2 x hx;exact⟨this.1,by show x<=1000;omega⟩
 . obtain⟨x,hx,rfl⟩:=List.mem_map.1 hy;have:=h.2 x hx;exact zp (by omega) (by omega)
 . unfold List.Nodup;rw[List.pairwise_map,List.pairwise_map];refine h.1.imp_of_mem fun {x y} hx hy hlt=>?_
   have ix:=h.2 x hx;have iy:=h.2 y hy;intro e;simp only[List.cons.injEq,and_true,true_and]at e;have e2:=congrArg UInt8.toNat e;rw[fc (by omega),fc (by omega)]at e2;omega
 . obtain⟨x,hx,rfl⟩:=List.mem_map.1 hy;exact(h.2 x hx).2
theorem yy{i:Int}{t:ae}(h:TyP ns i t):(kd ns i<=5\/kd ns i=7\/kd ns i=9->t.Kind=kd ns i)/\(kd ns i=6->t.Kind=5\/t.Kind=6)/\(kd ns i=8->(t.Kind=8/\∃w,KeyT ns w)\/(t.Kind=7/\¬∃w,KeyT ns w)):=by
 unfold TyP at h;rcases h with⟨k,rfl⟩ | ⟨k,rfl⟩ | ⟨k,rfl⟩ | ⟨k,_,rfl⟩ | ⟨k,_,_,rfl⟩ | ⟨k,rfl⟩ | ⟨k,_,_,_,_,rfl⟩ | ⟨k,rfl⟩ | ⟨k,a,rfl⟩ | ⟨k,w,a,rfl⟩ | ⟨k,rfl⟩ <;> simp[k]
 . omega
 grind
theorem qz{i:Int}{t:ae}(h:TyP ns i t):t.Members=[]\/∃r,MemsP ns i r t.Members:=by
 unfold TyP at h;rcases h with⟨k,rfl⟩ | ⟨k,rfl⟩ | ⟨k,rfl⟩ | ⟨k,_,rfl⟩ | ⟨k,_,a,rfl⟩ | ⟨k,rfl⟩ | ⟨k,_,_,a,_,rfl⟩ | ⟨k,rfl⟩ | ⟨k,a,rfl⟩ | ⟨k,w,a,rfl⟩ | ⟨k,rfl⟩
 . grind
 . grind
 . grind
 . grind
 . grind
 . grind
 . grind
 . grind
 . grind
 . grind
 grind
include hN h5 h1 hl hT in
theorem GX :DrOk l:=by
 have lift:∀{P:ae->Prop},(∀j,j < ns.length->P (l.getD j ap))->∀t,t∈l->P t:=fun hp t ht=>by
  obtain⟨i,hi,rfl⟩:=List.getElem_of_mem ht
  grind
 have hx:∀j,j < ns.length->NOk (ns.getD j dNd):=fun j hj=>hN _ (aB hj dNd)
 have mem:∀j,j < ns.length->∀m,m∈(l.getD j ap).Members->∃r,MemP ns (j:Int) r m:=fun j hj m hm=>by
  rcases qz (hT j hj)with h | ⟨r,_,h,_⟩
  . grind
  grind
 have okT:∀t,t∈l->OkT t:=lift fun j hj=>by
  have hm:=mem j hj;have ht:=hT j hj;have hlm:(l.getD j ap).Members.length<=12:=by
   rcases qz ht with h | ⟨r,_,_,h⟩
   . rw[h];simp
   . exact h
  have hls:(l.getD j ap).Symbols.length<=6:=by
   have hi:=(ids_eq' (ns.getD j dNd)).2.2.2;unfold TyP at ht;rcases ht with⟨k,e⟩ | ⟨k,e⟩ | ⟨k,e⟩ | ⟨k,_,e⟩ | ⟨k,_,_,e⟩ | ⟨k,e⟩ | ⟨k,_,_,_,_,e⟩ | ⟨k,e⟩ | ⟨k,_,e⟩ | ⟨k,_,_,e⟩ | ⟨k,e⟩ <;> rw[e]
   case inr.inr.inr.inl=>simp only[az,symsL,List.length_map];exact hi
   all_goals simp
  refine⟨by unfold reachBytes;omega,by unfold reachBytes;omega,fun m hm'=>?_⟩;obtain⟨r,q⟩:=hm m hm';by_cases hd:m.HasDefault=true
  . exact(yx hN h5 ⟨q.tgt.1,q.tgt.2.1⟩ (q.dfl hd)).1
  . rw[q.nod (by simpa using hd)];exact okV_d
 have kind7:∀u:Int,0<=u->u < ns.length->7<=kd ns u->7<=(l.getD u.toNat ap).Kind:=fun u h0 hu h7=>by
  obtain⟨j,rfl⟩:∃j:Nat,u=(j:Int):=⟨u.toNat,by omega⟩
  rw[az];obtain⟨_,_,k9⟩:=kd_eq hN h5 h0 hu;obtain⟨a,b,c⟩:=yy (hT j (by omega));omega
 have vok:VOk l:=by
  refine⟨by omega,lift fun j hj=>?_,fun j hj=>?_,lift fun j hj=>?_,lift fun j hj h8=>?_⟩
  . have ht:=hT j hj;have hid:=ids_eq' (ns.getD j dNd);have ha:=(hx j hj).a;have hb:=(hx j hj).b;have hnm:nm [UInt8.ofNat (65+j)]=true:=KO (by omega);unfold U8 at ha hb;unfold TyP at ht;simp only[az]at ht;generalize [UInt8.ofNat (65+j)]=nmL at hnm ht;unfold FormP
    rcases ht with⟨k,e⟩ | ⟨k,e⟩ | ⟨k,e⟩ | ⟨k,_,e⟩ | ⟨k,Ms,a,e⟩ | ⟨k,e⟩ | ⟨k,Ms,_,a,a0,e⟩ | ⟨k,e⟩ | ⟨k,_,e⟩ | ⟨k,_,_,e⟩ | ⟨k,e⟩ <;> rw[e]
    . simp
    . simp;omega
    . simp;omega
    . simp;exact⟨hnm,(vP hid.2.1 hid.2.2.1 hid.2.2.2).1⟩
    . simp;refine⟨hnm,?_⟩;rcases vO hN h5 a with h | ⟨h,_⟩
      . exact h
      . cases h
    . simp;exact⟨hnm,fun m hm=>(by cases hm),.inl rfl,⟨.nil,fun m hm=>by cases hm⟩,fun m hm=>(by cases hm),by simp,by simp⟩
    . simp;refine⟨hnm,?_⟩;rcases vO hN h5 a with h | ⟨_,h⟩
      . exact h
      grind
    . simp;omega
    . simp;omega
    . simp;omega
    . simp
  ·
   have nameOf:∀k,k < ns.length->(l.getD k ap).Name=[]\/(l.getD k ap).Name=[UInt8.ofNat (65+k)]:=fun k hk=>by
    have ht:=hT k hk;unfold TyP at ht;simp only[az]at ht;rcases ht with⟨k,e⟩ | ⟨k,e⟩ | ⟨k,e⟩ | ⟨k,_,e⟩ | ⟨k,Ms,a,e⟩ | ⟨k,e⟩ | ⟨k,Ms,_,a,a0,e⟩ | ⟨k,e⟩ | ⟨k,_,e⟩ | ⟨k,_,_,e⟩ | ⟨k,e⟩ <;> rw[e] <;> simp
   rcases nameOf j (by omega)with h | h
   . rw[h];simp
   . rw[h];simp only[Bool.and_eq_false_iff];right;apply Bool.eq_false_iff.2;intro hc;obtain⟨k,hk,he⟩:=(eY (by simp;omega)).1 hc;have hg:(l.map (·.Name)).getD k []=(l.getD k ap).Name:=bM (·.Name) l k ap [] (by omega);rw[hg]at he;rcases nameOf k (by omega)with h' | h'
     . grind
     . rw[h']at he;simp only[List.cons.injEq,and_true]at he;have e2:=congrArg UInt8.toNat he;rw[fc (by omega),fc (by omega)]at e2;omega
  . intro u hu;have hm:=mem j hj;have hc:=(hx j hj).c;unfold U8 at hc;have c0:0<=(ns.getD j dNd).C % (ns.length:Int):=Int.emod_nonneg _ (by omega);have c1:(ns.getD j dNd).C % (ns.length:Int) < ns.length:=Int.emod_lt_of_pos _ (by omega);have ht:=hT j hj;unfold TyP at ht;simp only[az]at ht;generalize (ns.getD j dNd).C % (ns.length:Int)=cc at c0 c1 ht;unfold usesL at hu
    simp only[List.mem_append,List.mem_map]at hu;rcases hu with(⟨m,h,rfl⟩ | h) | h
    . obtain⟨r,q⟩:=hm m h;have:=q.tgt.1;have:=q.tgt.2.1;omega
    . split at h
      . rename_i h8;have:u=(l.getD j ap).Key:=by simpa using h
        rw[this];rcases ht with⟨k,e⟩ | ⟨k,e⟩ | ⟨k,e⟩ | ⟨k,_,e⟩ | ⟨k,Ms,a,e⟩ | ⟨k,e⟩ | ⟨k,Ms,_,a,a0,e⟩ | ⟨k,e⟩ | ⟨k,_,e⟩ | ⟨k,w,a,e⟩ | ⟨k,e⟩ <;> rw[e]at h8 ⊢ <;> simp at h8 ⊢
        obtain⟨w0,w1,_⟩:=a;omega
      . cases h
    . split at h
      . rename_i h7;have:u=(l.getD j ap).Elem:=by simpa using h
        rw[this];rcases ht with⟨k,e⟩ | ⟨k,e⟩ | ⟨k,e⟩ | ⟨k,_,e⟩ | ⟨k,Ms,a,e⟩ | ⟨k,e⟩ | ⟨k,Ms,_,a,a0,e⟩ | ⟨k,e⟩ | ⟨k,_,e⟩ | ⟨k,w,a,e⟩ | ⟨k,e⟩ <;> rw[e]at h7 ⊢ <;> simp at h7 ⊢ <;> omega
      . cases h
  . have ht:=hT j hj;unfold TyP at ht;simp only[az]at ht;rcases ht with⟨k,e⟩ | ⟨k,e⟩ | ⟨k,e⟩ | ⟨k,_,e⟩ | ⟨k,Ms,a,e⟩ | ⟨k,e⟩ | ⟨k,Ms,_,a,a0,e⟩ | ⟨k,e⟩ | ⟨k,_,e⟩ | ⟨k,w,a,e⟩ | ⟨k,e⟩ <;> rw[e]at h8 ⊢ <;> simp at h8 ⊢
    obtain⟨w0,w1,w2,w3⟩:=a;obtain⟨q,rfl⟩:∃q:Nat,w=(q:Int):=⟨w.toNat,by omega⟩
    obtain⟨a,_,_⟩:=yy (hT q (by omega));have:=a (.inl (by omega));simp_all
 refine⟨by omega,by omega,okT,vok,lift fun j hj m hm hd=>?_,fun j hj m hm=>?_,lift fun j hj h2=>?_,lift fun j hj=>?_,lift fun j hj=>⟨fun m hm=>?_,fun y hy=>?_,?_⟩,lift fun j hj m hm hd=>?_⟩
 . obtain⟨r,q⟩:=mem j hj m hm;have hi:=q.dfl hd;obtain⟨u0,u1,_⟩:=q.tgt;generalize m.Default=v at hi;obtain⟨u,hu⟩:∃u:Nat,m.Type_=(u:Int):=⟨m.Type_.toNat,by omega⟩
   rw[hu]at hi u0 u1 ⊢;have ht:=hT u (by omega);obtain⟨a,b,c,hi⟩:=hi;rw[cn];simp only[az]at hi ⊢;unfold TyP at ht;simp only[az]at ht;have hlen:((l.length:Nat):Int)=ns.length:=by omega
   rw[hlen];generalize l.getD u ap=x at ht ⊢;rw[a,b,c];have vn:∀t,vfits l true t []:=fun t=>by rw[vfits];trivial
   have ka:cE []:=fun i hi=>by simp at hi
   have hxu:=hx u (by omega);generalize ns.getD u dNd=nd at ht hi hxu;rcases hi with⟨k,e1,e2,e3,e4⟩ | ⟨k,e1,e2,e3,e4,e5,e6⟩ | ⟨k,e1,e2,e3,e4,e5⟩ | ⟨k,e1,e2,e3,e4,e5⟩ | ⟨k,e1,e2,e3,e4,e5⟩
   . rw[k]at ht
     grind
   . rw[k]at ht
     grind
   . rw[k]at ht
     grind
   . rw[k]at ht;simp only[Int.reduceEq,false_and,true_and,or_false,false_or]at ht;obtain⟨o,rfl⟩:=ht;rw[e1,e2,e3,e4];simp;refine⟨by omega,⟨v.ID,[UInt8.ofNat 115,UInt8.ofNat (97+v.ID.toNat)]⟩,?_,rfl⟩;unfold symsL
     grind
   . rw[e1,e2,e3,e4];have k9:kd ns (u:Int)<=9:=(kd_eq hN h5 u0 u1).2.2;have hcc:kd ns (u:Int)=7\/kd ns (u:Int)=8\/kd ns (u:Int)=9:=by omega
     have ha:=hxu.a;unfold U8 at ha;rcases hcc with k' | k' | k'
     . rw[k']at ht e5
       grind
     . rw[k']at ht e5
       grind
     . rw[k']at ht e5
       grind
 . obtain⟨r,q⟩:=mem j (by omega) m hm;obtain⟨u0,u1,u2⟩:=q.tgt
   grind
 . have ht:=hT j hj;have ha:=(hx j hj).a;have hb:=(hx j hj).b;unfold U8 at ha hb;unfold TyP at ht;simp only[az]at ht;rcases ht with⟨k,e⟩ | ⟨k,e⟩ | ⟨k,e⟩ | ⟨k,_,e⟩ | ⟨k,Ms,a,e⟩ | ⟨k,e⟩ | ⟨k,Ms,_,a,a0,e⟩ | ⟨k,e⟩ | ⟨k,_,e⟩ | ⟨k,w,a,e⟩ | ⟨k,e⟩ <;> rw[e]at h2 ⊢ <;> simp at h2 ⊢
   omega
 . have ht:=hT j hj;have ha:=(hx j hj).a;unfold U8 at ha;unfold TyP at ht;simp only[az]at ht;rcases ht with⟨k,e⟩ | ⟨k,e⟩ | ⟨k,e⟩ | ⟨k,_,e⟩ | ⟨k,Ms,a,e⟩ | ⟨k,e⟩ | ⟨k,Ms,_,a,a0,e⟩ | ⟨k,e⟩ | ⟨k,_,e⟩ | ⟨k,w,a,e⟩ | ⟨k,e⟩ <;> rw[e] <;> simp <;> omega
 . obtain⟨r,q⟩:=mem j hj m hm;exact q.id.2
 . have ht:=hT j hj;have hid:=ids_eq' (ns.getD j dNd);unfold TyP at ht;simp only[az]at ht;rcases ht with⟨k,e⟩ | ⟨k,e⟩ | ⟨k,e⟩ | ⟨k,_,e⟩ | ⟨k,Ms,a,e⟩ | ⟨k,e⟩ | ⟨k,Ms,_,a,a0,e⟩ | ⟨k,e⟩ | ⟨k,_,e⟩ | ⟨k,w,a,e⟩ | ⟨k,e⟩ <;> rw[e]at hy <;> simp at hy
   exact(vP hid.2.1 hid.2.2.1 hid.2.2.2).2 y hy
 . rcases qz (hT j hj)with h | ⟨r,_,_,h⟩
   . rw[h];simp
   . exact h
 . obtain⟨r,q⟩:=mem j hj m hm;exact(yx hN h5 ⟨q.tgt.1,q.tgt.2.1⟩ (q.dfl hd)).2
end
theorem of_ok{d:aT}(hd:DOk d):f9 d=some (⟨[]⟩,false)\/∃l,f9 d=some (⟨l⟩,true)/\DrOk l:=by
 rcases of_eq hd with h | ⟨l,a,b,c,e,f⟩
 . exact .inl h
 . exact .inr ⟨l,a,GX hd.2 c b e f⟩
def Suf(C' C:List Int):Prop:=C'.length<=C.length/\∀c,c∈C'->c∈C
theorem Suf.refl(C:List Int):Suf C C:=⟨Nat.le_refl _,fun _ h=>h⟩
theorem Suf.trans{A B C:List Int}(h:Suf A B)(k:Suf B C):Suf A C:=⟨Nat.le_trans h.1 k.1,fun c hc=>k.2 c (h.2 c hc)⟩
def CU8(C:List Int):Prop:=∀c,c∈C->U8 c
theorem CU8.suf{A B:List Int}(h:CU8 B)(k:Suf A B):CU8 A:=fun c hc=>h c (k.2 c hc)
section
variable {ts:List ae}
theorem cU {n : Int} (hn : 1 <= n /\ n <= 1000) {C : List Int} (hC : CU8 C) (hl : C.length <= 1000) (odd : Bool):
 ∃r C',bN (n,ts,C,odd)=some (r,ts,C',odd)/\0<=r/\r < n/\Suf C' C/\(r=0/\C'=[]/\C=[]\/C'.length+1=C.length):=by
 rw[bN];cases C with
 | nil=>
  rw[if_pos (by simp)];exact⟨0,[],rfl,by omega,by omega,Suf.refl _,.inl ⟨rfl,rfl,rfl⟩⟩
 | cons c C=>
  have hc:=hC c (.head _);unfold U8 at hc;have h0:inR 0 (c::C).length=true:=au (k:=0) (by simp);have h1:slR 1 ((c::C).length:Int) (c::C).length=true:=fw (a:=1) (by simp) (by simp);have h2:cutL (c::C) 1 ((c::C).length:Int)=C:=by
   have:=lv (c::C) 1
   grind
  rw[if_neg (by simp;omega),if_pos h0,if_pos (nz (by omega)),if_pos h1,h2];simp only[Int.toNat_zero,List.getD_cons_zero];rw[cK ⟨by omega,by omega⟩,bF hc.1 (by omega)];exact⟨_,C,rfl,Int.emod_nonneg _ (by omega),Int.emod_lt_of_pos _ (by omega),⟨by simp,fun x hx=>.tail _ hx⟩,.inr (by simp)⟩
theorem r4 {C : List Int} (hC : CU8 C) (hl : C.length <= 1000) (odd : Bool):
 ∃o C',iM (ts,C,odd)=some (o,ts,C',odd)/\(odd=false->o=false)/\Suf C' C:=by
 rw[iM];cases odd with
 | false=>exact⟨false,C,rfl,fun _=>rfl,Suf.refl _⟩
 | true=>
  obtain⟨r,C',h1,_,_,h4,_⟩:=cU (ts:=ts) (n:=4) ⟨by omega,by omega⟩ hC hl true;rw[if_pos rfl,h1];exact⟨_,C',rfl,fun h=>(by cases h),h4⟩
theorem HI{x:ae}(hm:x.Members.length < 9223372036854775807)(hs:x.Symbols.length < 9223372036854775807)(n:Int):SaysP (mE (x,n)) ((∃m,m∈x.Members/\m.ID=n)\/∃y,y∈x.Symbols/\y.ID=n):=by
 obtain⟨r,_,r2,hf⟩:=fg (t:=x) n hm;obtain⟨s,_,s2,hg⟩:=kO (t:=x) n hs;rw[mE,r2];simp only[oZ4,oZ3];rw[s2];refine⟨_,rfl,?_⟩;have h1:=vM hg;have h2:r.2=true↔∃m,m∈x.Members/\m.ID=n:=by
  rcases kP hf with⟨e,j,q1,_,_,q4⟩ | ⟨e,q⟩
  . grind
  . rw[e];have:=kY q
    grind
 grind
theorem vQ {x : ae} (hm : x.Members.length < 9223372036854775807) (hs : x.Symbols.length < 9223372036854775807) (h12 : ∀ m, m ∈ x.Members -> m.ID <= 12) (h6 : ∀ y, y ∈ x.Symbols -> y.ID <= 6) (C : List Int) (odd : Bool):
 ∀(k:Nat) (n:Int),1<=n->n<=14->13<=n+k->∃n',iK (n,ts,C,odd,x)=some (n',ts,C,odd)/\1<=n'/\n'<=14/\(∀m,m∈x.Members->m.ID≠n')/\(∀y,y∈x.Symbols->y.ID≠n')
 | k,n,h1,h14,hk=>by
  obtain⟨r,r1,r2⟩:=HI hm hs n;rw[iK,r1];simp only[oZ4,oZ3];cases r with
  | false=>grind
  | true=>
   have hle:n<=12:=by grind
   rw[if_pos rfl,cq (by omega) (by omega)]
   match k,hk with
   | 0,hk=>omega
   | k+1,hk=>exact vQ hm hs h12 h6 C odd k (n+1) (by omega) (by omega) (by omega)
theorem qA {x : ae} (hm : x.Members.length < 9223372036854775807) (hs : x.Symbols.length < 9223372036854775807) (h12 : ∀ m, m ∈ x.Members -> m.ID <= 12) (h6 : ∀ y, y ∈ x.Symbols -> y.ID <= 6) {C : List Int} (hC : CU8 C) (hl : C.length <= 1000) (odd : Bool):
 ∃n C',fL (x,ts,C,odd)=some (n,ts,C',odd)/\I1000 n/\findM x.Members n=none/\Suf C' C:=by
 obtain⟨r,C',h1,h2,h3,h4,_⟩:=cU (ts:=ts) (n:=14) ⟨by omega,by omega⟩ hC hl odd;obtain⟨n,n1,n2,n3,n4,_⟩:=vQ (ts:=ts) hm hs h12 h6 C' odd 12 (1+r) (by omega) (by omega) (by omega);refine⟨n,C',?_,⟨by omega,by omega⟩,?_,h4⟩
 . rw[fL,h1];simp only[oZ4,oZ3];rw[cq (by omega) (by omega),n1];rfl
 . unfold findM;rw[List.find?_eq_none];intro m hm'
   simpa using n4 m hm'
theorem xA{n:Int}{C:List Int}(hC:CU8 C)(hl:C.length<=1000)(odd:Bool):∃d C',iN (n,ts,C,odd)=some (⟨n,d⟩,ts,C',odd)/\d.length<=3/\Suf C' C:=by
 obtain⟨r,C',h1,h2,h3,h4,_⟩:=cU (ts:=ts) (n:=4) ⟨by omega,by omega⟩ hC hl odd;obtain⟨k,rfl⟩:∃k:Nat,r=(k:Int):=⟨r.toNat,by omega⟩
 rw[iN];simp only[oZ4,oZ3];rw[h1];simp only[oZ3];rw[if_pos (au (by simp;omega)),az]
 grind
theorem yz(odd:Bool):∀(k:Nat) (s:List UInt8) (C:List Int),k<=100->CU8 C->C.length<=1000->s.length+k<=100->∃s' C',gz (s,(k:Int),ts,C,odd)=some (s',ts,C',odd)/\s'.length<=s.length+k/\Suf C' C
 | 0,s,C,hk,hC,hl,hs=>⟨s,C,by rw[gz,if_neg (by simp)],by omega,Suf.refl _⟩
 | k+1,s,C,hk,hC,hl,hs=>by
  obtain⟨r,C',h1,h2,h3,h4,_⟩:=cU (ts:=ts) (n:=3) ⟨by omega,by omega⟩ hC hl odd;have hpos:decide ((0:Int) < ((k+1:Nat):Int))=true:=by rw[decide_eq_true_eq];omega
  have e:subI .i64 ((k+1:Nat):Int) 1=(k:Int):=by rw[cX (by omega) (by omega)];omega
  rw[gz,if_pos hpos,h1];simp only[oZ4,oZ3];rw[rX ⟨h2,by omega⟩,if_pos (bm (by simp;omega)),e];obtain⟨s',C'',a1,a2,a3⟩:=yz odd k (s++[UInt8.ofNat (97+r.toNat)]) C' (by omega) (hC.suf h4) (by have:=h4.1;omega) (by simp;omega);exact⟨s',C'',a1,by simp at a2;omega,a3.trans h4⟩
theorem HK{most:Int}(hm:0<=most/\most<=1000){C:List Int}(hC:CU8 C)(hl:C.length<=1000)(odd:Bool):∃s C',mm (most,ts,C,odd)=some (s,ts,C',odd)/\(s.length:Int)<=most/\s.length<=3/\Suf C' C:=by
 have em:addI .i64 (minI most 3) 1=min most 3+1:=by
  have:minI most 3=min most 3:=rfl;rw[this,cq (by omega) (by omega)]
 obtain⟨r,C',h1,h2,h3,h4,_⟩:=cU (ts:=ts) (n:=min most 3+1) ⟨by omega,by omega⟩ hC hl odd;obtain⟨k,rfl⟩:∃k:Nat,r=(k:Int):=⟨r.toNat,by omega⟩
 obtain⟨s,C'',a1,a2,a3⟩:=yz (ts:=ts) odd k [] C' (by omega) (hC.suf h4) (by have:=h4.1;omega) (by simp;omega);refine⟨s,C'',?_,by simp at a2;omega,by simp at a2;omega,a3.trans h4⟩;rw[mm,em,h1]
 grind
end
theorem ta :∀a b:List UInt8,Op.bytesLess a b=false->a≠b->Op.bytesLess b a=true
 | [],[],_,h=>absurd rfl h
 | [],y::b,h,_=>by simp[Op.bytesLess]at h
 | x::a,[],h,_=>by simp[Op.bytesLess]
 | x::a,y::b,h,hne=>by
  simp only[Op.bytesLess]at h ⊢;by_cases h1:x < y
  . grind
  . by_cases h2:y < x
    . simp[h2]
    . have e:x=y:=by grind
      subst e;have hr:Op.bytesLess a b=false:=by simpa using h
      have:=ta a b hr (fun e=>hne (by rw[e]));simp[this]
theorem nZ{a b:ab}(ha:I64 a.Int_)(hb:I64 b.Int_):eR (a,b)=some (vcmp a b):=by
 obtain⟨r,h1,h2⟩:=pN ha hb;unfold vcmp
 grind
theorem Gf{a b:ab}(ha:I64 a.Int_)(hb:I64 b.Int_)(h:0 < vcmp a b):vcmp b a < 0:=by
 have h1:=nZ ha hb;have h2:=nZ hb ha;generalize vcmp a b=r at h h1;generalize vcmp b a=q at h2;rw[eR]at h1 h2;by_cases hk:a.Kind=b.Kind
 . rw[if_neg (by simp[hk])]at h1 h2;by_cases k1:a.Kind=1
   . have k1':b.Kind=1:=by omega
     rw[if_pos (by simp[k1])]at h1;rw[if_pos (by simp[k1'])]at h2;simp only[cw,eqB]at h1 h2
     grind
   . have k1':¬b.Kind=1:=by omega
     rw[if_neg (by simp[k1])]at h1;rw[if_neg (by simp[k1'])]at h2;by_cases k2:a.Kind=2
     . have k2':b.Kind=2:=by omega
       rw[if_pos (by simp[k2]),iD ha,iD hb]at h1;rw[if_pos (by simp[k2']),iD ha,iD hb]at h2;simp only[oZ4,oZ3,cw]at h1 h2;by_cases e:a.Int_=b.Int_
       . grind
       . have hz:zig a.Int_≠zig b.Int_:=fun h=>e (yk h)
         grind
     . have k2':¬b.Kind=2:=by omega
       rw[if_neg (by simp[k2])]at h1;rw[if_neg (by simp[k2'])]at h2;by_cases k3:a.Kind=3
       . have k3':b.Kind=3:=by omega
         rw[if_pos (by simp[k3])]at h1;rw[if_pos (by simp[k3'])]at h2;simp only[oZ4,oZ3,cw]at h1 h2;by_cases hl:a.Str.length=b.Str.length
         . rw[if_neg (by simp[hl])]at h1 h2;by_cases e:a.Str=b.Str
           . grind
           . have e':¬b.Str=a.Str:=fun h=>e h.symm
             cases hb':Op.bytesLess a.Str b.Str with
             | true=>simp[e,hb']at h1;omega
             | false=>
              have:=ta _ _ hb' e
              grind
         grind
       . have k3':¬b.Kind=3:=by omega
         rw[if_neg (by simp[k3])]at h1;rw[if_neg (by simp[k3'])]at h2;by_cases k4:a.Kind=4
         . have k4':b.Kind=4:=by omega
           rw[if_pos (by simp[k4])]at h1;rw[if_pos (by simp[k4'])]at h2;simp only[oZ4,oZ3,cw]at h1 h2
           grind
         grind
 grind
theorem put_l0' {v key item : ab} (hl : v.Keys.length < 1000000) (hk : ∀ x, x ∈ v.Keys -> I64 x.Int_) (hkey : I64 key.Int_) (a : Int) (b : Bool) (c : Int) (d : List UInt8) (e : Int): ∀ (k i : Nat), i + k = v.Keys.length ->
 (∀j,j < i->vcmp (v.Keys.getD j af) key < 0)->∃m:Nat,m<=v.Keys.length/\fT ((i:Int),v,key,item,a,b,c,d,e)=some ((m:Int),v,key,item,a,b,c,d,e)/\(∀j,j < m->vcmp (v.Keys.getD j af) key < 0)/\(m < v.Keys.length->0<=vcmp (v.Keys.getD m af) key)
 | 0,i,hi,hj=>by
  have hd:decide ((i:Int) < (v.Keys.length:Int))=false:=by simp;omega
  refine⟨i,by omega,?_,hj,fun h=>by omega⟩;rw[fT];simp only[oZ4,oZ3,hd,Bool.not_false,Bool.or_true,if_true,Bool.false_eq_true,if_false,cond_false,ab.aA]
 | k+1,i,hi,hj=>by
  have hlt:i < v.Keys.length:=by omega
  have hd:decide ((i:Int) < (v.Keys.length:Int))=true:=by simp;omega
  have hc:=nZ (hk _ (aB hlt af)) hkey;rw[fT];simp only[oZ4,oZ3,hd,Bool.not_true,Bool.or_false,if_true,cond_true,ab.aA,az];rw[if_pos (au hlt),hc];simp only[oZ3];by_cases hneg:vcmp (v.Keys.getD i af) key < 0
  . rw[if_pos (by simpa using hneg),aE (by omega)];refine put_l0' hl hk hkey a b c d e k (i+1) (by omega) fun j hj'=>?_
    grind
  grind
theorem ia :∀(a b:List ab),wts (a++b)=wts a+wts b
 | [],b=>by rw[bZ];simp
 | x::a,b=>by rw[List.cons_append,bX,bX,ia a b];omega
theorem xB{α:Type}{l:List α}{m:Nat}{x d:α}(hm:m<=l.length)(i:Nat):(l.take m++(x::l.drop m)).getD i d=if i < m then l.getD i d else if i=m then x else l.getD (i - 1) d:=by grind
theorem KQ {v key item : ab} (hl : v.Keys.length < 1000) (hl2 : v.Items.length = v.Keys.length) (hk : ∀ x, x ∈ v.Keys -> I64 x.Int_) (hkey : I64 key.Int_) (ha : cE v.Keys):
 ∃ks is,mI (v,key,item)=some ⟨v.Kind,v.Bool_,v.Int_,v.Str,v.ID,ks,is,v.Rest⟩/\is.length=ks.length/\ks.length<=v.Keys.length+1/\cE ks/\(∀x,x∈ks->x∈v.Keys\/x=key)/\(∀x,x∈is->x∈v.Items\/x=item)/\wts ks+wts is<=wts v.Keys+wts v.Items+wt key+wt item:=by
 obtain⟨m,m1,m2,m3,m4⟩:=put_l0' (item:=item) (by omega) hk hkey 0 false 0 [] 0 v.Keys.length 0 (by omega) (fun j hj=>by omega);have m2':fT (0,v,key,item,0,false,0,[],0)=_:=m2;rw[mI];simp only[ab.aA];rw[m2'];simp only[oZ4,oZ3,ab.aA]
 have ins:∀(hne:m < v.Keys.length->0 < vcmp (v.Keys.getD m af) key),∃ks is,(some (⟨v.Kind,v.Bool_,v.Int_,v.Str,v.ID,v.Keys.take m++(key::v.Keys.drop m),v.Items.take m++(item::v.Items.drop m),v.Rest⟩:ab):Option ab)=some ⟨v.Kind,v.Bool_,v.Int_,v.Str,v.ID,ks,is,v.Rest⟩/\is.length=ks.length/\ks.length<=v.Keys.length+1/\cE ks/\(∀x,x∈ks->x∈v.Keys\/x=key)/\(∀x,x∈is->x∈v.Items\/x=item)/\wts ks+wts is<=wts v.Keys+wts v.Items+wt key+wt item:=by
  intro hne;refine⟨_,_,rfl,by simp;omega,by simp;omega,fun i hi=>?_,fun x hx=>?_,fun x hx=>?_,?_⟩
  . rw[xB m1,xB m1];have hlen:(v.Keys.take m++(key::v.Keys.drop m)).length=v.Keys.length+1:=by simp;omega
    rw[hlen]at hi;by_cases h1:i+1 < m
    . rw[if_pos (by omega),if_pos h1];exact ha i (by omega)
    . by_cases h2:i+1=m
      . grind
      . by_cases h3:i=m
        . rw[if_neg (by omega),if_pos h3,if_neg h1,if_neg h2];have e:i+1 - 1=m:=by omega
          rw[e];exact Gf (hk _ (aB (by omega) af)) hkey (hne (by omega))
        . rw[if_neg (by omega),if_neg h3,if_neg h1,if_neg h2];have:=ha (i - 1) (by omega)
          grind
  . grind
  . grind
  . rw[ia,ia,bX,bX];have e1:wts v.Keys=wts (v.Keys.take m)+wts (v.Keys.drop m):=by rw[<-ia,List.take_append_drop]
    have e2:wts v.Items=wts (v.Items.take m)+wts (v.Items.drop m):=by rw[<-ia,List.take_append_drop]
    omega
 have s1:slR 0 (m:Int) v.Keys.length=true:=fw (a:=0) (by omega) m1;have s2:slR (m:Int) (v.Keys.length:Int) v.Keys.length=true:=fw m1 (by omega);have s3:slR 0 (m:Int) v.Items.length=true:=fw (a:=0) (by omega) (by omega);have s4:slR (m:Int) (v.Items.length:Int) v.Items.length=true:=fw (by omega) (by omega)
 have build:∀{o:Option ab->Prop},o (some (⟨v.Kind,v.Bool_,v.Int_,v.Str,v.ID,v.Keys.take m++(key::v.Keys.drop m),v.Items.take m++(item::v.Items.drop m),v.Rest⟩:ab))->o (some (⟨v.Kind,v.Bool_,v.Int_,v.Str,v.ID,v.Keys.take m++(key::v.Keys.drop m),v.Items.take m++(item::v.Items.drop m),v.Rest⟩:ab)):=fun h=>h
 by_cases hin:m < v.Keys.length
 . have hd:decide ((m:Int) < (v.Keys.length:Int))=true:=by simp;omega
   have hc:=nZ (hk _ (aB hin af)) hkey;simp only[hd,Bool.not_true,Bool.or_false,if_true,cond_true,az];rw[if_pos (au hin),hc];simp only[oZ3];by_cases h0:vcmp (v.Keys.getD m af) key=0
   . rw[if_pos (by simpa using h0)];refine⟨v.Keys,v.Items,by cases v;rfl,hl2,by omega,ha,fun x hx=>.inl hx,fun x hx=>.inl hx,by omega⟩
   . rw[if_neg (by simpa using h0),if_pos s1,if_pos (aX (by omega) (by simp[cutL];omega))];rw[if_pos (aX (by omega) (by simp[cutL];omega)),if_pos s2,if_pos (aX (by omega) (by simp[cutL];omega)),if_pos s3,if_pos (aX (by omega) (by simp[cutL];omega)),if_pos (aX (by omega) (by simp[cutL];omega)),if_pos s4,if_pos (aX (by omega) (by simp[cutL];omega))];rw[ji,ji,lv,lv]
     simp only[List.nil_append,List.append_assoc,List.singleton_append];exact ins fun _=>by have:=m4 hin;omega
 . have hd:decide ((m:Int) < (v.Keys.length:Int))=false:=by simp;omega
   simp only[hd,Bool.not_false,Bool.or_true,if_true,Bool.false_eq_true,if_false,cond_false,oZ3];rw[if_pos s1,if_pos (aX (by omega) (by simp[cutL];omega))]
   rw[if_pos (aX (by omega) (by simp[cutL];omega)),if_pos s2,if_pos (aX (by omega) (by simp[cutL];omega)),if_pos s3,if_pos (aX (by omega) (by simp[cutL];omega)),if_pos (aX (by omega) (by simp[cutL];omega)),if_pos s4,if_pos (aX (by omega) (by simp[cutL];omega))];rw[ji,ji,lv,lv];simp only[List.nil_append,List.append_assoc,List.singleton_append]
   exact ins fun h=>absurd h hin
section
variable {ts:List ae}
mutual
theorem vfit_weak :∀(v:ab) (t:Int),vfit ts true t v->vfit ts false t v
 | ⟨k,b,i,s,id,ks,is,r⟩,t,h=>by
  rw[vfit]at h ⊢;obtain⟨⟨h1,h2,h3,h4⟩,h5⟩:=h;have w:=vfits_weak is;have wk:=vfits_weak ks;have wm:=vfitm_weak is;refine⟨⟨h1,h2,h3,fun h=>by cases h⟩,?_⟩
  have c6:(match findM (ts.getD t.toNat ap).Members id with
   | some m=>r=[]/\is.length=1/\vfits ts true m.Type_ is
   | none=>(ts.getD t.toNat ap).Open=true/\true=false/\I1000 id/\is=[]/\∃d,r=[⟨id,d⟩])->(match findM (ts.getD t.toNat ap).Members id with
   | some m=>r=[]/\is.length=1/\vfits ts false m.Type_ is
   | none=>(ts.getD t.toNat ap).Open=true/\false=false/\I1000 id/\is=[]/\∃d,r=[⟨id,d⟩]):=by
   split
   . rintro ⟨a,b,c⟩;exact⟨a,b,w _ c⟩
   . rintro ⟨_,b,_⟩;cases b
  rcases h5 with h | h | h | ⟨a1,a2,a3,a4,a5,a6,a7,a8⟩ | ⟨a1,a2,a3,a4,a5,a6,a7,a8⟩ | ⟨a1,a2,a3,a4,a5,a6⟩ | ⟨a1,a2,a3,a4,a5,a6,a7,a8,a9⟩ | ⟨a1,a2,a3,a4,a5,a6,a7,a8,a9,a10,a11⟩ | ⟨a1,a2,a3,a4,a5,a6,a7,a8,a9⟩
  . exact .inl h
  . grind
  . grind
  . grind
  . grind
  . grind
  . grind
  . grind
  grind
theorem vfits_weak :∀(l:List ab) (t:Int),vfits ts true t l->vfits ts false t l
 | [],t,h=>by rw[vfits];trivial
 | v::l,t,h=>by
  rw[vfits]at h ⊢;exact⟨vfit_weak v t h.1,vfits_weak l t h.2⟩
theorem vfitm_weak :∀(l:List ab) (ms:List aj),vfitm ts true ms l->vfitm ts false ms l
 | [],[],h=>by rw[vfitm];trivial
 | [],m::ms,h=>by
  have:vfitm ts true (m::ms) []=False:=by rw[vfitm] <;> (intros;simp_all)
  grind
 | v::l,[],h=>by
  have:vfitm ts true [] (v::l)=False:=by rw[vfitm] <;> (intros;simp_all)
  grind
 | v::l,m::ms,h=>by
  rw[vfitm]at h ⊢;exact⟨vfit_weak v m.Type_ h.1,vfitm_weak l ms h.2⟩
end
theorem GY{v:ab}{t:Int}(h:vfit ts true t v)(pl:Bool):vfit ts pl t v:=by
 cases pl with
 | true=>exact h
 | false=>exact vfit_weak v t h
def rk(ts:List ae)(t:Nat):Nat:=if 7<=(ts.getD t ap).Kind then 0 else t+1
def Aw :Nat->Nat
 | 0=>20
 | n+1=>12*Aw n+20
theorem Aw_le{a:Nat}:∀{b:Nat},a<=b->Aw a<=Aw b
 | 0, h => by have : a = 0 := by omega
              subst this;omega
 | b+1,h=>by
  by_cases e:a=b+1
  . grind
  . have:=Aw_le (a:=a) (b:=b) (by omega);simp only[Aw];omega
theorem Aw_20(r:Nat):20<=Aw r:=Aw_le (a:=0) (Nat.zero_le _)
theorem Aw_5 :Aw 5=5429060:=rfl
def Mk(ts:List ae)(odd:Bool)(C:List Int)(r:Nat)(t:Int):Prop:=∃v C',cb (t,ts,C,odd)=some (v,ts,C',odd)/\vfit ts (!odd) t v/\OkV v/\Suf C' C/\wt v+32574360*C'.length<=Aw r+32574360*C.length
theorem zu {odd : Bool} {c r : Nat} (hc : c <= 1000) {x : ae} (h12 : x.Members.length <= 12) (hm : ∀ m, m ∈ x.Members -> (∀ C, CU8 C -> C.length <= c -> Mk ts odd C r m.Type_) /\ (m.HasDefault = true -> vfit ts true m.Type_ m.Default /\ OkV m.Default /\ wt m.Default <= 13))
 (a0:Int) (a1:Bool) (a2:Int) (a3:List UInt8) (a4:Int) (v0:Int) (v1:Bool) (v2:Int) (v3:List UInt8) (v4:Int):
 ∀(k i:Nat) (C:List Int) (acc:List ab),i+k=x.Members.length->CU8 C->C.length<=c->acc.length=i->(∀j,j < i->vfit ts (!odd) (x.Members.getD j ag).Type_ (acc.getD j af))->(∀y,y∈acc->OkV y)->
 ∃acc' C',dn ((i:Int),ts,C,odd,a0,a1,a2,a3,a4,x.Kind,x.Name,x.Low,x.High,x.Max,x.Symbols,x.Members,x.Key,x.Elem,x.Open,v0,v1,v2,v3,v4,acc)=some (ts,C',odd,a0,a1,a2,a3,a4,x.Kind,x.Name,x.Low,x.High,x.Max,x.Symbols,x.Members,x.Key,x.Elem,x.Open,v0,v1,v2,v3,v4,acc')/\
  acc'.length=x.Members.length/\(∀j,j < x.Members.length->vfit ts (!odd) (x.Members.getD j ag).Type_ (acc'.getD j af))/\(∀y,y∈acc'->OkV y)/\Suf C' C/\wts acc'+32574360*C'.length<=wts acc+k*Aw r+32574360*C.length
 | 0,i,C,acc,hi,hC,hl,ha,hf,ho=>⟨acc,C,by rw[dn,if_neg (by simp;omega)],by omega,fun j hj=>hf j (by omega),ho,Suf.refl _,by omega⟩
 | k+1,i,C,acc,hi,hC,hl,ha,hf,ho=>by
  have hlt:i < x.Members.length:=by omega
  obtain⟨hmk,hdf⟩:=hm _ (aB hlt ag)
  have next : ∀ (w : ab) (C1 : List Int), vfit ts (!odd) (x.Members.getD i ag).Type_ w -> OkV w -> Suf C1 C -> wt w + 32574360 * C1.length <= Aw r + 32574360 * C.length ->
   ∃acc' C',(if room 120 (acc++[w]).length=true then dn (addI .i64 (i:Int) 1,ts,C1,odd,a0,a1,a2,a3,a4,x.Kind,x.Name,x.Low,x.High,x.Max,x.Symbols,x.Members,x.Key,x.Elem,x.Open,v0,v1,v2,v3,v4,acc++[w])else none)=some (ts,C',odd,a0,a1,a2,a3,a4,x.Kind,x.Name,x.Low,x.High,x.Max,x.Symbols,x.Members,x.Key,x.Elem,x.Open,v0,v1,v2,v3,v4,acc')/\
    acc'.length=x.Members.length/\(∀j,j < x.Members.length->vfit ts (!odd) (x.Members.getD j ag).Type_ (acc'.getD j af))/\(∀y,y∈acc'->OkV y)/\Suf C' C/\wts acc'+32574360*C'.length<=wts acc+(k+1)*Aw r+32574360*C.length:=by
   intro w C1 hw hok hs hwt;rw[if_pos (aX (by omega) (by simp;omega)),aE (by omega)]
   obtain⟨acc',C',b1,b2,b3,b4,b5,b6⟩:=zu hc h12 hm a0 a1 a2 a3 a4 v0 v1 v2 v3 v4 k (i+1) C1 (acc++[w]) (by omega) (hC.suf hs) (by have:=hs.1;omega) (by simp;omega) (fun j hj=>by
    grind) (fun y hy=>by
    rcases List.mem_append.1 hy with h | h
    . exact ho y h
    . have:y=w:=by simpa using h
      subst this;exact hok)
   refine⟨acc',C',b1,b2,b3,b4,b5.trans hs,?_⟩;rw[ia,bX,bZ]at b6;have e:(k+1)*Aw r=k*Aw r+Aw r:=Nat.succ_mul _ _;omega
  rw[dn,if_pos (by simp;omega),if_pos (au hlt)];simp only[oZ4,oZ3,az,ab.aA];cases hd:(x.Members.getD i ag).HasDefault with
  | true=>
   obtain⟨f1,f2,f3⟩:=hdf hd;obtain⟨q,C1,n1,n2,n3,n4,n5⟩:=cU (ts:=ts) (n:=3) ⟨by omega,by omega⟩ hC (by omega) odd;rw[if_pos rfl,n1];simp only[oZ3,cond_true];by_cases h0:q=0
   . rw[if_pos (by simpa using h0)];have:=n4.1;have:=Aw_20 r;rw[if_pos (au hlt)];exact next _ C1 (GY f1 _) f2 n4 (by omega)
   . rw[if_neg (by simpa using h0),if_pos (au hlt)];obtain⟨w,C2,m1,m2,m3,m4,m5⟩:=hmk C1 (hC.suf n4) (by have:=n4.1;omega);rw[m1];simp only[oZ3,ab.aA];have:=n4.1;exact next w C2 m2 m3 (m4.trans n4) (by omega)
  | false=>
   rw[if_neg (by simp),if_neg (by simp),if_pos (au hlt)];obtain⟨w,C2,m1,m2,m3,m4,m5⟩:=hmk C hC hl
   grind
theorem yA {odd : Bool} {c r : Nat} (hc : c <= 1000) {x : ae} (hE : ∀ C, CU8 C -> C.length <= c -> Mk ts odd C r x.Elem)
 (a0:Int) (a1:Bool) (a2:Int) (a3:List UInt8) (a4:Int) (v0:Int) (v1:Bool) (v2:Int) (v3:List UInt8) (v4:Int):
 ∀(k:Nat) (C:List Int) (acc:List ab),acc.length+k<=100->CU8 C->C.length<=c->(∀y,y∈acc->vfit ts (!odd) x.Elem y/\OkV y)->
 ∃acc' C',fH ((k:Int),ts,C,odd,a0,a1,a2,a3,a4,x.Kind,x.Name,x.Low,x.High,x.Max,x.Symbols,x.Members,x.Key,x.Elem,x.Open,v0,v1,v2,v3,v4,acc)=some (ts,C',odd,a0,a1,a2,a3,a4,v0,v1,v2,v3,v4,acc')/\
  acc'.length=acc.length+k/\(∀y,y∈acc'->vfit ts (!odd) x.Elem y/\OkV y)/\Suf C' C/\wts acc'+32574360*C'.length<=wts acc+k*Aw r+32574360*C.length
 | 0,C,acc,ha,hC,hl,hf=>⟨acc,C,by rw[fH,if_neg (by simp)],by omega,hf,Suf.refl _,by omega⟩
 | k+1,C,acc,ha,hC,hl,hf=>by
  have hpos:decide ((0:Int) < ((k+1:Nat):Int))=true:=by rw[decide_eq_true_eq];omega
  have e:subI .i64 ((k+1:Nat):Int) 1=(k:Int):=by rw[cX (by omega) (by omega)];omega
  obtain⟨w,C2,m1,m2,m3,m4,m5⟩:=hE C hC hl;rw[fH,if_pos hpos,m1];simp only[oZ4,oZ3,ab.aA];rw[if_pos (aX (by omega) (by simp;omega)),e];obtain⟨acc',C',b1,b2,b3,b4,b5⟩:=yA hc hE a0 a1 a2 a3 a4 v0 v1 v2 v3 v4 k C2 (acc++[w]) (by simp;omega) (hC.suf m4) (by have:=m4.1;omega) (fun y hy=>by grind)
  refine⟨acc',C',b1,by simp at b2;omega,b3,b4.trans m4,?_⟩;rw[ia,bX,bZ]at b5
  grind
theorem zw {odd : Bool} {c r : Nat} (hc : c <= 1000) {x : ae} (hK : ∀ C, CU8 C -> C.length <= c -> Mk ts odd C r x.Key) (hE : ∀ C, CU8 C -> C.length <= c -> Mk ts odd C r x.Elem)
 (a0:Int) (a1:Bool) (a2:Int) (a3:List UInt8) (a4:Int) (v0:Int) (v1:Bool) (v2:Int) (v3:List UInt8) (v4:Int) (R:List aG):
 ∀(k:Nat) (C:List Int) (ks is:List ab),ks.length+k<=100->is.length=ks.length->CU8 C->C.length<=c->(∀y,y∈ks->vfit ts (!odd) x.Key y/\OkV y)->(∀y,y∈is->vfit ts (!odd) x.Elem y/\OkV y)->cE ks->
 ∃ks' is' C',fK ((k:Int),ts,C,odd,a0,a1,a2,a3,a4,x.Kind,x.Name,x.Low,x.High,x.Max,x.Symbols,x.Members,x.Key,x.Elem,x.Open,v0,v1,v2,v3,v4,ks,is,R)=some (ts,C',odd,a0,a1,a2,a3,a4,v0,v1,v2,v3,v4,ks',is',R)/\
  ks'.length<=ks.length+k/\is'.length=ks'.length/\(∀y,y∈ks'->vfit ts (!odd) x.Key y/\OkV y)/\(∀y,y∈is'->vfit ts (!odd) x.Elem y/\OkV y)/\cE ks'/\Suf C' C/\wts ks'+wts is'+32574360*C'.length<=wts ks+wts is+2*(k*Aw r)+32574360*C.length
 | 0,C,ks,is,ha,hli,hC,hl,hf,hg,hasc=>⟨ks,is,C,by rw[fK,if_neg (by simp)],by omega,hli,hf,hg,hasc,Suf.refl _,by omega⟩
 | k+1,C,ks,is,ha,hli,hC,hl,hf,hg,hasc=>by
  have hpos:decide ((0:Int) < ((k+1:Nat):Int))=true:=by rw[decide_eq_true_eq];omega
  have e:subI .i64 ((k+1:Nat):Int) 1=(k:Int):=by rw[cX (by omega) (by omega)];omega
  obtain⟨w,C2,m1,m2,m3,m4,m5⟩:=hK C hC hl;have hl2:=m4.1;obtain⟨z,C3,n1,n2,n3,n4,n5⟩:=hE C2 (hC.suf m4) (by omega);have hl3:=n4.1;obtain⟨ks1,is1,p1,p2,p3,p4,p5,p6,p7⟩:=KQ (v:=⟨v0,v1,v2,v3,v4,ks,is,R⟩) (key:=w) (item:=z) (by show ks.length < 1000;omega) hli (fun y hy=>jC (hf y hy).2) (jC m3) hasc;simp only at p1 p3 p5 p6 p7
  rw[fK,if_pos hpos,m1];simp only[oZ4,oZ3,ab.aA];rw[n1];simp only[oZ3,ab.aA];rw[p1];simp only[oZ3];rw[e]
  obtain⟨ks',is',C',b1,b2,b3,b4,b5,b6,b7,b8⟩:=zw hc hK hE a0 a1 a2 a3 a4 v0 v1 v2 v3 v4 R k C3 ks1 is1 (by omega) p2 ((hC.suf m4).suf n4) (by omega) (fun y hy=>by
   grind) (fun y hy=>by
   rcases p6 y hy with h | h
   . exact hg y h
   . subst h;exact⟨n2,n3⟩) p4
  refine⟨ks',is',C',b1,by omega,b3,b4,b5,b6,b7.trans (n4.trans m4),?_⟩
  grind
end
section
variable {ts:List ae}
theorem iE{v:ab}(hs:v.Str.length<=1000)(hk:∀x,x∈v.Keys->OkV x)(hi:∀x,x∈v.Items->OkV x)(h1:v.Keys.length<=1000)(h2:v.Items.length<=1000)(h3:v.Rest.length<=1000)(hr:∀x,x∈v.Rest->x.Data.length<=1000/\I64 x.ID)(n1:I64 v.Kind)(n2:I64 v.Int_)(n3:I64 v.ID):OkV v:=
 .mk v (by unfold reachBytes;omega) (by unfold reachBytes;omega) (by unfold reachBytes;omega) (by unfold reachBytes;omega) hk hi (fun x hx=>by have:=(hr x hx).1;unfold reachBytes;omega) n1 n2 n3 (fun x hx=>(hr x hx).2)
theorem il{n:Int}(h:I1000 n):I64 n:=by unfold I1000 at h;unfold I64;omega
def Gd(ts:List ae)(odd:Bool)(c r:Nat):Prop:=∀t:Nat,t < ts.length->rk ts t<=r->∀C,CU8 C->C.length<=c->Mk ts odd C r (t:Int)
theorem r5(H:DrOk ts){t:Nat}(ht:t < ts.length):rk ts t<=5:=by
 unfold rk;have:=H.n5
 grind
theorem Mk.up{odd:Bool}{C:List Int}{r r':Nat}{t:Int}(h:Mk ts odd C r t)(hr:r<=r'):Mk ts odd C r' t:=by
 obtain⟨v,C',h1,h2,h3,h4,h5⟩:=h;exact⟨v,C',h1,h2,h3,h4,by have:=Aw_le hr;omega⟩
theorem HL(H:DrOk ts){odd:Bool}{c r:Nat}(hc:c<=60)(Hc:∀c',c' < c->Gd ts odd c' 5)(Hr:∀r',r' < r->Gd ts odd c r'):Gd ts odd c r:=by
 intro t ht hrk C hC hl;have hxm:=aB ht ap;have hF:=H.V.F _ hxm;have hT:=H.T _ hxm;have hmx:=H.M _ hxm;obtain⟨hI12,hI6,hM12⟩:=H.I _ hxm;have hR:=H.R t ht;have hL:=H.L _ hxm;have hU:=H.V.U _ hxm;have hD:=H.D _ hxm;have hW:=H.W _ hxm;have hkd:rk ts t=if 7<=(ts.getD t ap).Kind then 0 else t+1:=rfl
 unfold Mk;rw[cb,if_pos (au ht)];simp only[oZ4,oZ3,az];have fitI:=fun v=>cn (ts:=ts) (!odd) (t:Int) v
 simp only[az]at fitI;generalize hx:ts.getD t ap=x at*;have hA20:=Aw_20 r;have hin:(0:Int)<=t/\(t:Int) < ts.length:=by omega
 have leaf:∀(v:ab) (C':List Int),v.Keys=[]->v.Items=[]->v.Rest=[]->v.Str.length<=3->Suf C' C->wt v+32574360*C'.length<=Aw r+32574360*C.length:=fun v C' a b c d e=>by rw[yw a b c];have:=e.1;omega
 have below:∀C1:List Int,C1.length+1=C.length->∀u:Int,0<=u->u < ts.length->∀C2,CU8 C2->C2.length<=C1.length->Mk ts odd C2 5 u:=fun C1 h1 u hu0 hu1 C2 hC2 hl2=>by
  obtain⟨k,rfl⟩:∃k:Nat,u=(k:Int):=⟨u.toNat,by omega⟩
  exact Hc C1.length (by omega) k (by omega) (r5 H (by omega)) C2 hC2 hl2
 have member:x.Kind=5\/x.Kind=6->1<=r/\∀m,m∈x.Members->∀C2,CU8 C2->C2.length<=c->Mk ts odd C2 (r - 1) m.Type_:=fun hk=>by
  have hrt:rk ts t=t+1:=by rw[hkd,if_neg (by omega)]
  refine⟨by omega,fun m hm C2 hC2 hl2=>?_⟩;obtain⟨a,b,cc⟩:=hR m hm;obtain⟨k,hk'⟩:∃k:Nat,m.Type_=(k:Int):=⟨m.Type_.toNat,by omega⟩
  rw[hk']at cc ⊢;refine Hr (r - 1) (by omega) k (by omega) ?_ C2 hC2 hl2;have:rk ts k<=t:=by
   unfold rk
   grind
  omega
 have hs7:x.Symbols.length < 9223372036854775807:=aR (ce hT.syms);have hm7:x.Members.length < 9223372036854775807:=aR (ce hT.mems);unfold FormP at hF;rcases hF with⟨k,_⟩ | ⟨k,f1,f2,_⟩ | ⟨k,f1,f2,f3,f4,_⟩ | ⟨k,f1,f2,f3,f4,f5,_⟩ | ⟨k,f1,f2,f3,f4,f5,f6,_⟩ | ⟨k,f1,f2,f3,f4,f5,f6,_⟩ | ⟨k,f1,f2,f3,f4,_⟩ | ⟨k,f1,f2,f3,f4,_⟩ | ⟨k,_⟩
 . obtain⟨q,C1,n1,n2,n3,n4,n5⟩:=cU (ts:=ts) (n:=2) ⟨by omega,by omega⟩ hC (by omega) odd;rw[if_pos (by simp[k]),n1];refine⟨_,C1,rfl,?_,fq rfl rfl rfl (by simp) (by simp[I64,k]) (by simp[I64]) (by simp[I64]),n4,leaf _ _ rfl rfl rfl (by simp) n4⟩
   grind
 . obtain⟨q,C1,n1,n2,n3,n4,n5⟩:=cU (ts:=ts) (n:=256) ⟨by omega,by omega⟩ hC (by omega) odd;have hLk:=hL k;have e1:addI .i64 (subI .i64 x.High x.Low) 1=x.High - x.Low+1:=by rw[cX (by omega) (by omega),cq (by omega) (by omega)]
   have r0:0<=q % (x.High - x.Low+1):=Int.emod_nonneg _ (by omega);have r1:q % (x.High - x.Low+1) < x.High - x.Low+1:=Int.emod_lt_of_pos _ (by omega);rw[if_neg (by simp[k]),if_pos (by simp[k]),n1];simp only[oZ3];rw[e1,if_pos (nz (by omega)),bF n2 (by omega),cq (by omega) (by omega)]
   refine⟨_,C1,rfl,?_,fq rfl rfl rfl (by simp) (by simp[I64,k]) (by simp only[I64];omega) (by simp[I64]),n4,leaf _ _ rfl rfl rfl (by simp) n4⟩
   grind
 . obtain⟨s,C1,n1,n2,n3,n4⟩:=HK (ts:=ts) (most:=x.Max) ⟨f4.1,by omega⟩ hC (by omega) odd;rw[if_neg (by simp[k]),if_neg (by simp[k]),if_pos (by simp[k]),n1];refine⟨_,C1,rfl,?_,fq rfl rfl rfl (by show s.length<=1000;omega) (by simp[I64,k]) (by simp[I64]) (by simp[I64]),n4,leaf _ _ rfl rfl rfl n3 n4⟩
   grind
 . have hsl:=f5.1;have hs16:=f5.2.2.2.2;have hsid:=f5.2.1.2;obtain⟨q,C1,n1,n2,n3,n4,n5⟩:=cU (ts:=ts) (n:=(x.Symbols.length:Int)) ⟨by omega,by omega⟩ hC (by omega) odd;obtain⟨j,rfl⟩:∃j:Nat,q=(j:Int):=⟨q.toNat,by omega⟩
   have hlc:=n4.1;have hj:j < x.Symbols.length:=by omega
   have hy:=aB hj aQ;rw[if_neg (by simp[k]),if_neg (by simp[k]),if_neg (by simp[k]),if_pos (by simp[k]),n1];simp only[oZ3];rw[if_pos (au hj)];simp only[az];cases ho:x.Open with
   | false=>
    rw[if_neg (by simp),if_neg (by simp)];refine⟨_,C1,rfl,?_,fq rfl rfl rfl (by simp) (by simp[I64,k]) (by simp[I64]) (il (hsid _ hy)),n4,leaf _ _ rfl rfl rfl (by simp) n4⟩
    grind
   | true=>
    obtain⟨o,C2,o1,o2,o3⟩:=r4 (ts:=ts) (hC.suf n4) (by omega) odd;have hlc2:=o3.1;rw[if_pos rfl,o1];simp only[oZ3,cond_true];cases o with
    | false=>
     rw[if_neg (by simp)];refine⟨_,C2,rfl,?_,fq rfl rfl rfl (by simp) (by simp[I64,k]) (by simp[I64]) (il (hsid _ hy)),(o3.trans n4),leaf _ _ rfl rfl rfl (by simp) (o3.trans n4)⟩
     grind
    | true=>
     have hodd:odd=true:=by grind
     obtain⟨n,C3,u1,u2,u3,u4⟩:=qA (ts:=ts) hm7 hs7 hI12 hI6 ((hC.suf n4).suf o3) (by omega) odd;rw[if_pos rfl,u1];refine⟨_,C3,rfl,?_,fq rfl rfl rfl (by simp) (by simp[I64,k]) (by simp[I64]) (il u2),u4.trans (o3.trans n4),leaf _ _ rfl rfl rfl (by simp) (u4.trans (o3.trans n4))⟩
     grind
 . obtain⟨hr1,hmem⟩:=member (.inl k);obtain⟨acc,C1,b1,b2,b3,b4,b5,b6⟩:=zu (ts:=ts) (odd:=odd) (c:=c) (r:=r - 1) (by omega) (x:=x) hM12 (fun m hm=>⟨hmem m hm,fun hd=>⟨hD m hm hd,hT.dv m hm,hW m hm hd⟩⟩) 0 false 0 [] 0 x.Kind false 0 [] 0 x.Members.length 0 C [] (by omega) hC hl rfl (fun j hj=>by omega) (fun y hy=>by cases hy)
   have b1':dn (0,ts,C,odd,0,false,0,[],0,x.Kind,x.Name,x.Low,x.High,x.Max,x.Symbols,x.Members,x.Key,x.Elem,x.Open,x.Kind,false,0,[],0,[])=_:=b1;have hlc:=b5.1;have hAr:Aw r=12*Aw (r - 1)+20:=by
    obtain⟨r',rfl⟩:∃r',r=r'+1:=⟨r - 1,by omega⟩
    rfl
   have hmul:x.Members.length*Aw (r - 1)<=12*Aw (r - 1):=Nat.mul_le_mul_right _ hM12;rw[bZ]at b6;have hfm:vfitm ts (!odd) x.Members acc:=dB.2 ⟨b2,b3⟩;rw[if_neg (by simp[k]),if_neg (by simp[k]),if_neg (by simp[k]),if_neg (by simp[k]),if_pos (by simp[k]),b1'];simp only[oZ3];obtain⟨o,C2,o1,o2,o3⟩:=r4 (ts:=ts) (hC.suf b5) (by omega) odd
   have hlc2:=o3.1;rw[o1];simp only[oZ3];cases o with
   | false=>
    rw[if_neg (by simp)];refine⟨_,C2,rfl,?_,iE (by simp) (fun y hy=>by cases hy) b4 (by simp) (by show acc.length<=1000;omega) (by simp) (fun y hy=>by cases hy) (by simp[I64,k]) (by simp[I64]) (by simp[I64]),o3.trans b5,?_⟩
    . exact(fitI _).2 ⟨⟨hin.1,hin.2,rfl,fun _=>rfl⟩,.inr (.inr (.inr (.inr (.inl ⟨k,rfl,rfl,rfl,rfl,rfl,⟨.nil,fun y hy=>by cases hy⟩,hfm⟩))))⟩
    . rw[wt_eq];simp only[bZ,List.length_nil,List.map_nil,List.sum_nil];omega
   | true=>
    have hodd:odd=true:=by grind
    obtain⟨n,C3,u1,u2,u3,u4⟩:=qA (ts:=ts) hm7 hs7 hI12 hI6 ((hC.suf b5).suf o3) (by omega) odd;have hlc3:=u4.1;obtain⟨d,C4,d1,d2,d3⟩:=xA (ts:=ts) (n:=n) (((hC.suf b5).suf o3).suf u4) (by omega) odd;have hlc4:=d3.1;rw[if_pos rfl,nY,u1];simp only[oZ3];rw[d1];simp only[oZ3]
    refine⟨_,C4,rfl,?_,iE (by simp) (fun y hy=>by cases hy) b4 (by simp) (by show acc.length<=1000;omega) (by simp) (fun y hy=>?_) (by simp[I64,k]) (by simp[I64]) (by simp[I64]),d3.trans (u4.trans (o3.trans b5)),?_⟩
    . refine(fitI _).2 ⟨⟨hin.1,hin.2,rfl,fun h=>by simp[hodd]at h⟩,.inr (.inr (.inr (.inr (.inl ⟨k,rfl,rfl,rfl,rfl,rfl,⟨by simp,fun y hy=>?_⟩,hfm⟩))))⟩
      grind
    . have:y=⟨n,d⟩:=by simpa using hy
      subst this;exact⟨by show d.length<=1000;omega,il u2⟩
    . rw[wt_eq];simp only[bZ,List.length_nil,List.map_cons,List.map_nil,List.sum_cons,List.sum_nil];omega
 . obtain⟨hr1,hmem⟩:=member (.inr k);have hMp:0 < x.Members.length:=by
    rcases f6.2.1 with h | h
    . cases h
    . exact h
   have hA1:Aw (r - 1)+20<=Aw r:=by
    obtain⟨r',rfl⟩:∃r',r=r'+1:=⟨r - 1,by omega⟩
    have:=Aw_20 r';show Aw r'+20<=12*Aw r'+20;omega
   have arm : ∀ C0, Suf C0 C -> ∃ v C', (Option.bind (bN ((x.Members.length : Int), ts, C0, odd)) fun r_65 => if inR r_65.1 x.Members.length = true then
    (cb ((x.Members.getD r_65.1.toNat ag).Type_,r_65.2.1,r_65.2.2.1,r_65.2.2.2)).bind fun r_70=>
     some ((⟨x.Kind,false,0,[],(x.Members.getD r_65.1.toNat ag).ID,[],[r_70.1],[]⟩:ab),r_70.2.1,r_70.2.2.1,r_70.2.2.2)
    else none)=some (v,ts,C',odd)/\vfit ts (!odd) (t:Int) v/\OkV v/\Suf C' C/\wt v+32574360*C'.length<=Aw r+32574360*C.length:=by
    intro C0 hs0;have hlc0:=hs0.1;obtain⟨q,C1,n1,n2,n3,n4,n5⟩:=cU (ts:=ts) (n:=(x.Members.length:Int)) ⟨by omega,by omega⟩ (hC.suf hs0) (by omega) odd;obtain⟨j,rfl⟩:∃j:Nat,q=(j:Int):=⟨q.toNat,by omega⟩
    have hlc:=n4.1;have hj:j < x.Members.length:=by omega
    have hm:=aB hj ag;obtain⟨w,C2,m1,m2,m3,m4,m5⟩:=hmem _ hm C1 ((hC.suf hs0).suf n4) (by omega);have hlc2:=m4.1;rw[n1];simp only[oZ3];rw[if_pos (au hj)];simp only[az];rw[m1];simp only[oZ3];have hI:=f6.2.2.1.2 _ hm
    refine⟨_,C2,rfl,?_,iE (by simp) (fun y hy=>by cases hy) (fun y hy=>?_) (by simp) (by simp) (by simp) (fun y hy=>by cases hy) (by simp[I64,k]) (by simp[I64]) (il hI),m4.trans (n4.trans hs0),?_⟩
    . refine(fitI _).2 ⟨⟨hin.1,hin.2,rfl,fun _=>rfl⟩,.inr (.inr (.inr (.inr (.inr (.inl ⟨k,rfl,rfl,rfl,rfl,?_⟩)))))⟩;have hfind:findM x.Members (x.Members.getD j ag).ID=some (x.Members.getD j ag):=by
       unfold findM;rw[List.find?_eq_some_iff_getElem];refine⟨by simp,j,hj,(bn hj _).symm,fun i hi=>?_⟩;have hp:=List.pairwise_iff_getElem.1 f6.2.2.1.1 i j (by omega) hj hi;rw[bn hj];simp;omega
      simp only[hfind];refine⟨by first | rfl | trivial,by first | rfl | trivial,?_⟩;rw[aW];intro y hy;have:y=w:=by simpa using hy
      subst this;exact m2
    . have:y=w:=by simpa using hy
      subst this;exact m3
    . rw[wt_eq];simp only[bX,bZ,List.length_nil,List.map_nil,List.sum_nil];omega
   rw[if_neg (by simp[k]),if_neg (by simp[k]),if_neg (by simp[k]),if_neg (by simp[k]),if_neg (by simp[k]),if_pos (by simp[k])];simp only[ab.aA];cases ho:x.Open with
   | false=>
    rw[if_neg (by simp),if_neg (by simp)];obtain⟨v,C',a1,a2,a3,a4,a5⟩:=arm C (Suf.refl _)
    grind
   | true=>
    obtain⟨o,C2,o1,o2,o3⟩:=r4 (ts:=ts) hC (by omega) odd;have hlc2:=o3.1;rw[if_pos rfl,o1];simp only[oZ3,cond_true];cases o with
    | false=>grind
    | true=>
     have hodd:odd=true:=by grind
     obtain⟨n,C3,u1,u2,u3,u4⟩:=qA (ts:=ts) hm7 hs7 hI12 hI6 (hC.suf o3) (by omega) odd;have hlc3:=u4.1;obtain⟨d,C4,d1,d2,d3⟩:=xA (ts:=ts) (n:=n) ((hC.suf o3).suf u4) (by omega) odd;have hlc4:=d3.1;rw[if_pos rfl,u1];simp only[oZ3];rw[d1];simp only[oZ3]
     refine⟨_,C4,rfl,?_,iE (by simp) (fun y hy=>by cases hy) (fun y hy=>by cases hy) (by simp) (by simp) (by simp) (fun y hy=>?_) (by simp[I64,k]) (by simp[I64]) (il u2),d3.trans (u4.trans o3),?_⟩
     . grind
     . have:y=⟨n,d⟩:=by simpa using hy
       subst this;exact⟨by show d.length<=1000;omega,il u2⟩
     . rw[wt_eq];simp only[bZ,List.length_nil,List.map_cons,List.map_nil,List.sum_cons,List.sum_nil];omega
 . have em:addI .i64 (minI x.Max 3) 1=min x.Max 3+1:=by
    have:minI x.Max 3=min x.Max 3:=rfl;rw[this,cq (by omega) (by omega)]
   have hel:0<=x.Elem/\x.Elem < ts.length:=hU x.Elem (by unfold usesL;simp[k]);obtain⟨q,C1,n1,n2,n3,n4,n5⟩:=cU (ts:=ts) (n:=min x.Max 3+1) ⟨by omega,by omega⟩ hC (by omega) odd;obtain⟨j,rfl⟩:∃j:Nat,q=(j:Int):=⟨q.toNat,by omega⟩
   have hlc:=n4.1
   have loop:∃acc C',fH ((j:Int),ts,C1,odd,0,false,0,[],0,x.Kind,x.Name,x.Low,x.High,x.Max,x.Symbols,x.Members,x.Key,x.Elem,x.Open,x.Kind,false,0,[],0,[])=some (ts,C',odd,0,false,0,[],0,x.Kind,false,0,[],0,acc)/\acc.length=j/\(∀y,y∈acc->vfit ts (!odd) x.Elem y/\OkV y)/\Suf C' C/\10+wts acc+32574360*C'.length<=Aw r+32574360*C.length:=by
    rcases n5 with⟨h0,h1,h2⟩ | h1
    . have:j=0:=by omega
      subst this;refine⟨[],C1,by rw[fH,if_neg (by simp)],rfl,fun y hy=>(by cases hy),n4,?_⟩;rw[bZ];omega
    . obtain⟨acc,C',b1,b2,b3,b4,b5⟩:=yA (ts:=ts) (odd:=odd) (c:=C1.length) (r:=5) (by omega) (x:=x) (fun C2 hC2 hl2=>below C1 h1 x.Elem hel.1 hel.2 C2 hC2 hl2) 0 false 0 [] 0 x.Kind false 0 [] 0 j C1 [] (by simp;omega) (hC.suf n4) (by omega) (fun y hy=>by cases hy);refine⟨acc,C',b1,by simpa using b2,b3,b4.trans n4,?_⟩;rw[bZ,Aw_5]at b5;omega
   obtain⟨acc,C',b1,b2,b3,b4,b5⟩:=loop;rw[if_neg (by simp[k]),if_neg (by simp[k]),if_neg (by simp[k]),if_neg (by simp[k]),if_neg (by simp[k]),if_neg (by simp[k]),if_pos (by simp[k]),em,n1];simp only[oZ3];rw[b1];simp only[oZ3]
   refine⟨_,C',rfl,?_,iE (by simp) (fun y hy=>by cases hy) (fun y hy=>(b3 y hy).2) (by simp) (by show acc.length<=1000;omega) (by simp) (fun y hy=>by cases hy) (by simp[I64,k]) (by simp[I64]) (by simp[I64]),b4,?_⟩
   . exact(fitI _).2 ⟨⟨hin.1,hin.2,rfl,fun _=>rfl⟩,.inr (.inr (.inr (.inr (.inr (.inr (.inl ⟨k,rfl,rfl,rfl,rfl,rfl,rfl,by show(acc.length:Int)<=x.Max;omega,aW.2 fun y hy=>(b3 y hy).1⟩))))))⟩
   . rw[wt_eq];simp only[bZ,List.length_nil,List.map_nil,List.sum_nil];omega
 . have em:addI .i64 (minI x.Max 3) 1=min x.Max 3+1:=by
    have:minI x.Max 3=min x.Max 3:=rfl;rw[this,cq (by omega) (by omega)]
   have hel:0<=x.Elem/\x.Elem < ts.length:=hU x.Elem (by unfold usesL;simp[k]);have hkl:0<=x.Key/\x.Key < ts.length:=hU x.Key (by unfold usesL;simp[k]);obtain⟨q,C1,n1,n2,n3,n4,n5⟩:=cU (ts:=ts) (n:=min x.Max 3+1) ⟨by omega,by omega⟩ hC (by omega) odd;obtain⟨j,rfl⟩:∃j:Nat,q=(j:Int):=⟨q.toNat,by omega⟩
   have hlc:=n4.1;have hasc0:cE []:=fun i hi=>by simp at hi
   have loop:∃ks is C',fK ((j:Int),ts,C1,odd,0,false,0,[],0,x.Kind,x.Name,x.Low,x.High,x.Max,x.Symbols,x.Members,x.Key,x.Elem,x.Open,x.Kind,false,0,[],0,[],[],[])=some (ts,C',odd,0,false,0,[],0,x.Kind,false,0,[],0,ks,is,[])/\ks.length<=j/\is.length=ks.length/\(∀y,y∈ks->vfit ts (!odd) x.Key y/\OkV y)/\(∀y,y∈is->vfit ts (!odd) x.Elem y/\OkV y)/\cE ks/\Suf C' C/\10+wts ks+wts is+32574360*C'.length<=Aw r+32574360*C.length:=by
    rcases n5 with⟨h0,h1,h2⟩ | h1
    . have:j=0:=by omega
      subst this;refine⟨[],[],C1,by rw[fK,if_neg (by simp)],by simp,rfl,fun y hy=>(by cases hy),fun y hy=>(by cases hy),hasc0,n4,?_⟩;rw[bZ];omega
    . obtain⟨ks,is,C',b1,b2,b3,b4,b5,b6,b7,b8⟩:=zw (ts:=ts) (odd:=odd) (c:=C1.length) (r:=5) (by omega) (x:=x) (fun C2 hC2 hl2=>below C1 h1 x.Key hkl.1 hkl.2 C2 hC2 hl2) (fun C2 hC2 hl2=>below C1 h1 x.Elem hel.1 hel.2 C2 hC2 hl2) 0 false 0 [] 0 x.Kind false 0 [] 0 [] j C1 [] [] (by simp;omega) rfl (hC.suf n4) (by omega) (fun y hy=>by cases hy) (fun y hy=>by cases hy) hasc0
      refine⟨ks,is,C',b1,by simpa using b2,b3,b4,b5,b6,b7.trans n4,?_⟩;rw[bZ,Aw_5]at b8;omega
   obtain⟨ks,is,C',b1,b2,b3,b4,b5,b6,b7,b8⟩:=loop;rw[if_neg (by simp[k]),if_neg (by simp[k]),if_neg (by simp[k]),if_neg (by simp[k]),if_neg (by simp[k]),if_neg (by simp[k]),if_neg (by simp[k]),if_pos (by simp[k]),em,n1];simp only[oZ3];rw[b1];simp only[oZ3]
   refine⟨_,C',rfl,?_,iE (by simp) (fun y hy=>(b4 y hy).2) (fun y hy=>(b5 y hy).2) (by show ks.length<=1000;omega) (by show is.length<=1000;omega) (by simp) (fun y hy=>by cases hy) (by simp[I64,k]) (by simp[I64]) (by simp[I64]),b7,?_⟩
   . exact(fitI _).2 ⟨⟨hin.1,hin.2,rfl,fun _=>rfl⟩,.inr (.inr (.inr (.inr (.inr (.inr (.inr (.inl ⟨k,rfl,rfl,rfl,rfl,rfl,by show(ks.length:Int)<=x.Max;omega,b3,aW.2 fun y hy=>(b4 y hy).1,aW.2 fun y hy=>(b5 y hy).1,b6⟩)))))))⟩
   . rw[wt_eq]
     grind
 . have hel:0<=x.Elem/\x.Elem < ts.length:=hU x.Elem (by unfold usesL;simp[k]);obtain⟨q,C1,n1,n2,n3,n4,n5⟩:=cU (ts:=ts) (n:=2) ⟨by omega,by omega⟩ hC (by omega) odd;have hlc:=n4.1;rw[if_neg (by simp[k]),if_neg (by simp[k]),if_neg (by simp[k]),if_neg (by simp[k]),if_neg (by simp[k]),if_neg (by simp[k]),if_neg (by simp[k]),if_neg (by simp[k]),n1]
   simp only[oZ3,ab.aA];by_cases h1:q=1
   . have hc1:C1.length+1=C.length:=by omega
     obtain⟨w,C2,m1,m2,m3,m4,m5⟩:=below C1 hc1 x.Elem hel.1 hel.2 C1 (hC.suf n4) (by omega);have hlc2:=m4.1;rw[Aw_5]at m5;rw[if_pos (by simpa using h1),m1];simp only[oZ3]
     refine⟨_,C2,rfl,?_,iE (by simp) (fun y hy=>by cases hy) (fun y hy=>?_) (by simp) (by simp) (by simp) (fun y hy=>by cases hy) (by simp[I64,k]) (by simp[I64]) (by simp[I64]),m4.trans n4,?_⟩
     . refine(fitI _).2 ⟨⟨hin.1,hin.2,rfl,fun _=>rfl⟩,.inr (.inr (.inr (.inr (.inr (.inr (.inr (.inr ⟨k,rfl,rfl,rfl,rfl,rfl,rfl,by simp,aW.2 fun y hy=>?_⟩)))))))⟩
       grind
     . grind
     . rw[wt_eq];simp only[bX,bZ,List.length_nil,List.map_nil,List.sum_nil];omega
   . rw[if_neg (by simpa using h1)];refine⟨_,C1,rfl,?_,fq rfl rfl rfl (by simp) (by simp[I64,k]) (by simp[I64]) (by simp[I64]),n4,leaf _ _ rfl rfl rfl (by simp) n4⟩;exact(fitI _).2 ⟨⟨hin.1,hin.2,rfl,fun _=>rfl⟩,.inr (.inr (.inr (.inr (.inr (.inr (.inr (.inr ⟨k,rfl,rfl,rfl,rfl,rfl,rfl,by simp,aW.2 fun y hy=>by cases hy⟩)))))))⟩
theorem zx(H:DrOk ts){odd:Bool}:∀(c:Nat),c<=60->∀r,Gd ts odd c r:=by
 intro c
 induction c using Nat.strongRecOn with
 | ind c ihc=>
  intro hc r
  induction r using Nat.strongRecOn with
  | ind r ihr=>exact HL H hc (fun c' h=>ihc c' h (by omega) 5) (fun r' h=>ihr r' h)
theorem HM(H:DrOk ts){t:Int}(ht:0<=t/\t < ts.length){C:List Int}(hC:CU8 C)(hl:C.length<=reachBytes):∃v,kl ((⟨ts⟩:av),t,C)=some v/\vfit ts true t v/\OkV v/\wt v<=2147483648:=by
 obtain⟨j,rfl⟩:∃j:Nat,t=(j:Int):=⟨t.toNat,by omega⟩
 have hr:=aR hl;have hm:minI 60 (C.length:Int)=((min 60 C.length:Nat):Int):=xa 60 C.length;have hs:CU8 (C.take (min 60 C.length)):=fun c hc=>hC c (List.mem_of_mem_take hc)
 have hlen:(C.take (min 60 C.length)).length<=60:=by rw[List.length_take];omega
 have hsl:slR 0 ((min 60 C.length:Nat):Int) C.length=true:=fw (a:=0) (by omega) (by omega);obtain⟨v,C',h1,h2,h3,h4,h5⟩:=zx H (odd:=false) 60 (by omega) 5 j (by omega) (r5 H (by omega)) _ hs hlen;rw[kl];simp only[oZ4,oZ3];rw[hm,if_pos hsl,ji,h1];refine⟨v,by simp only[oZ3,ab.aA],h2,h3,?_⟩;rw[Aw_5]at h5;omega
theorem E5(H:DrOk ts){t:Int}(ht:0<=t/\t < ts.length){C:List Int}(hC:CU8 C)(hl:C.length<=reachBytes):∃v,jX ((⟨ts⟩:av),t,C)=some v/\vfit ts false t v/\OkV v/\wt v<=2147483648:=by
 obtain⟨j,rfl⟩:∃j:Nat,t=(j:Int):=⟨t.toNat,by omega⟩
 have hr:=aR hl;have hm:minI 60 (C.length:Int)=((min 60 C.length:Nat):Int):=xa 60 C.length;have hs:CU8 (C.take (min 60 C.length)):=fun c hc=>hC c (List.mem_of_mem_take hc)
 have hlen:(C.take (min 60 C.length)).length<=60:=by rw[List.length_take];omega
 have hsl:slR 0 ((min 60 C.length:Nat):Int) C.length=true:=fw (a:=0) (by omega) (by omega);obtain⟨v,C',h1,h2,h3,h4,h5⟩:=zx H (odd:=true) 60 (by omega) 5 j (by omega) (r5 H (by omega)) _ hs hlen;rw[jX];simp only[oZ4,oZ3];rw[hm,if_pos hsl,ji,h1];refine⟨v,by simp only[oZ3,ab.aA],h2,h3,?_⟩;rw[Aw_5]at h5;omega
end
structure DrIn (d:dd):Prop where
 s:DOk d.S
 t:U8 d.T
 c:CU8 d.C
 l:d.C.length<=reachBytes
theorem of8 {d : dd} (hd : DrIn d): (∃ s t v w, gU d = some (s, t, v, w, false)) \/
 ∃ts t v w,gU d=some (⟨ts⟩,t,v,w,true)/\DrOk ts/\(0<=t/\t < ts.length)/\(vfit ts true t v/\OkV v/\wt v<=2147483648)/\(vfit ts false t w/\OkV w/\wt w<=2147483648):=by
 rw[gU];rcases of_ok hd.s with h | ⟨l,h,H⟩
 . rw[h];exact .inl ⟨_,_,_,_,rfl⟩
 . right;have hn1:=H.n1;have hn5:=H.n5;have ht:=hd.t;unfold U8 at ht;have r0:0<=d.T % (l.length:Int):=Int.emod_nonneg _ (by omega);have r1:d.T % (l.length:Int) < l.length:=Int.emod_lt_of_pos _ (by omega);obtain⟨v,v1,v2⟩:=HM H ⟨r0,r1⟩ hd.c hd.l;obtain⟨w,w1,w2⟩:=E5 H ⟨r0,r1⟩ hd.c hd.l;rw[h];simp only[oZ4,oZ3]
   rw[if_neg (by simp),if_pos (nz (by omega)),cK ⟨by omega,by omega⟩,bF ht.1 (by omega),v1];simp only[oZ3];rw[w1];exact⟨l,_,v,w,by simp only[oZ3,ab.aA],H,⟨r0,r1⟩,v2,w2⟩
theorem xC{ts:List ae}(H:SOk ts){v:ab}(hv:OkV v)(t:Int)(pl:Bool):SaysP (ck ((⟨ts⟩:av),t,v,pl)) (vfit ts pl t v):=by
 obtain⟨r,h1,h2⟩:=xq (by have:=H.n;omega) H.T H.K hv t pl;obtain⟨q,q1,q2⟩:=F6 (by have:=H.n;omega) H.T H.K hv t pl;rw[h1]at q2;have:r=q:=Option.some.inj q2;subst this;exact⟨r,q1,h2⟩
theorem GZ{l:List Fd}(hp:cY ltF l=true)(hn:l.Pairwise (fun a b=>a.id≠b.id)):(isoB ltF l).Pairwise (fun a b=>a.id < b.id):=by
 have h1:=nb yn l;have h2:(isoB ltF l).Pairwise (fun a b=>a.id≠b.id):=(ib ltF l).symm.pairwise hn (fun {a b} h=>fun e=>h e.symm);refine(h1.and h2).imp fun {a b} h=>?_
 have:=h.1;have:=h.2;simp only[ltF,decide_eq_false_iff_not]at*;omega
theorem Gg{ts:List ae}{ms:List aj}{l:List ab}{r:List aG}(h:MAsc ms)(hr:dH ms r):(dm ts ms l r).Pairwise (fun a b=>a.id≠b.id):=by
 have:=pA (ts:=ts) (l:=l) h hr;have key:∀q:List Fd,cY ltF q=true->q.Pairwise (fun a b=>a.id≠b.id):=by
  intro q
  induction q with
  | nil=>intro _;exact .nil
  | cons a q ih=>
   intro h;simp only[cY,Bool.and_eq_true,List.all_eq_true,Bool.or_eq_true,ltF,decide_eq_true_eq]at h;rw[List.pairwise_cons]
   grind
 grind
theorem yB{d:aT}(h:WF Un ⟨.slice (.nm iZ),d.Nodes⟩):DOk d:=by
 obtain⟨a,_,c⟩:=ju (t:= .nm iZ) h;refine⟨a,fun x hx=>?_⟩;have hc:=c x hx;have u8:∀{n:Int},WF Un ⟨.int .u8,n⟩->U8 n:=fun {n} h=>by
  cases h with
  | int k n h=>
   simp[Lit.wf,IntKind.min,IntKind.max,IntKind.bits,IntKind.signed]at h;unfold U8;omega
 have c1:=hc ⟨.int .u8,x.Kind⟩ (.head _);have c2:=hc ⟨.int .u8,x.A⟩ (.tail _ (.head _));have c3:=hc ⟨.int .u8,x.B⟩ (.tail _ (.tail _ (.head _)));have c4:=hc ⟨.int .u8,x.C⟩ (.tail _ (.tail _ (.tail _ (.head _))));have c5:=hc ⟨.slice (.nm mB),x.Parts⟩ (.tail _ (.tail _ (.tail _ (.tail _ (.head _)))));obtain⟨p1,_,p3⟩:=ju (t:= .nm mB) c5
 refine⟨u8 c1,u8 c2,u8 c3,u8 c4,fun q hq=>?_,p1⟩;have hq':=p3 q hq;exact⟨u8 (hq' ⟨.int .u8,q.ID⟩ (.head _)),u8 (hq' ⟨.int .u8,q.Type_⟩ (.tail _ (.head _))),u8 (hq' ⟨.int .u8,q.Flag⟩ (.tail _ (.tail _ (.head _))))⟩
theorem G0{d:dd}(h:∀c,c∈Un.flds Bn d->WF Un c):DrIn d:=by
 have c1:=h ⟨.slice (.nm iZ),d.S.Nodes⟩ (.head _);have c2:=h ⟨.int .u8,d.T⟩ (.tail _ (.head _));have c3:=h ⟨.slice (.int .u8),d.C⟩ (.tail _ (.tail _ (.head _)));obtain⟨a,_,c⟩:=ju (t:= .int .u8) c3;have u8:∀{n:Int},WF Un ⟨.int .u8,n⟩->U8 n:=fun {n} h=>by
  cases h with
  | int k n h=>
   simp[Lit.wf,IntKind.min,IntKind.max,IntKind.bits,IntKind.signed]at h;unfold U8;omega
 exact⟨yB c1,u8 c2,fun n hn=>u8 (c n hn ⟨.int .u8,n⟩ (.head _)),a⟩
end
section
open Go Go.Proofs.YtandcioiaooocaaGreat.Shv Go.Sort
set_option maxRecDepth 100000
set_option linter.all false

end
section
open Go Go.Proofs.YtandcioiaooocaaGreat.Shv Go.Sort
set_option maxRecDepth 100000
theorem G1{l m:List ab}(hl:l.length=m.length)(h:∀i,i < l.length->l.getD i af=m.getD i af):l=m:=by
 apply List.ext_getElem hl
 grind
theorem ly{ms:List aj}(h:MAsc ms){a b:aj}(ha:a∈ms)(hb:b∈ms)(e:a.ID=b.ID):a=b:=by
 obtain⟨i,hi,rfl⟩:=List.getElem_of_mem ha;obtain⟨j,hj,rfl⟩:=List.getElem_of_mem hb;have key:=List.pairwise_iff_getElem.1 h.1
 grind
theorem gr{ms:List aj}{id:Int}{m:aj}(h:findM ms id=some m):m∈ms/\m.ID=id:=
 ⟨List.mem_of_find?_eq_some h,by simpa using List.find?_some h⟩
theorem G3{ms:List aj}(hm:MAsc ms){m:aj}(h:m∈ms):findM ms m.ID=some m:=by
 cases hf:findM ms m.ID with
 | none=>exact absurd rfl (kY hf m h)
 | some q=>
  obtain⟨h1,h2⟩:=gr hf;rw[ly hm h1 h h2]
end
section
open Go Go.Proofs.YtandcioiaooocaaGreat.Shv Go.Sort
set_option maxRecDepth 100000
theorem xD{a:ab}(h:OkV a)(b:ab):Says (j9 (a,b)) a b:=by
 obtain⟨r,h1,h2⟩:=og h b;refine⟨r,?_,h2⟩;rw[j9];simp only[ab.aA];rw[h1];rfl
theorem G4{a:ab}(h:OkV a)(b:ab):Says (fe (a,b)) a b:=EP h b
theorem G5 :OkV (⟨0,false,0,[],0,[],[],[]⟩:ab):= .mk _ (by simp) (by simp) (by simp) (by simp) (fun x h=>by cases h) (fun x h=>by cases h) (fun x h=>by cases h) (by simp) (by simp) (by simp) (fun x h=>by cases h)
end
section
open Go Go.Proofs.YtandcioiaooocaaGreat.Shv Go.Sort
set_option maxRecDepth 100000
theorem xE{l:List ab}{i:Nat}(hi:i < l.length):l.set i (l.getD i af)=l:=by simp_all
theorem wts_len' :∀l:List ab,l.length<=wts l
 | []=>by simp
 | v::l=>by
  rw[bX,wt_eq,List.length_cons];have:=wts_len' l;omega
theorem G6(l:List aG):l.length<=(l.map fun x=>x.Data.length+1).sum:=by
 induction l with
 | nil=>simp
 | cons a l ih=>simp only[List.map_cons,List.sum_cons,List.length_cons];omega
theorem r6{k n:Nat}(hk:k<=1000)(h:n<=1000000000):room k n=true:=by
 unfold room bS aY;simp only[Bool.and_eq_true,decide_eq_true_eq];refine⟨?_,by omega⟩;have:(2*n+192)*k<=2000000192*1000:=Nat.mul_le_mul (by omega) hk;omega
section
variable {ts:List ae}
theorem member_find'{x:ae}(hm:MAsc x.Members)(hl:x.Members.length<=1000){id:Int}{m:aj}(hF:findM x.Members id=some m):∃j,j < x.Members.length/\bR (x,id)=some ((j:Int),true)/\x.Members.getD j ag=m:=by
 obtain⟨m1,m2⟩:=gr hF;obtain⟨r,r1,r2⟩:=po (t:=x) (id:=id) (by omega);rcases r2 with⟨j,j1,j2,_,rfl⟩ | ⟨q,_⟩
 . exact⟨j,j1,r1,ly hm (aB j1 ag) m1 (by rw[j2,m2])⟩
 . obtain⟨i,hi,rfl⟩:=List.getElem_of_mem m1
   grind
end
structure DcOk (ts:List ae):Prop where
 S:SOk ts
 V:VOk ts
 W:∀x,x∈ts->∀m,m∈x.Members->m.HasDefault=true->wt m.Default<=1000000
theorem DrOk.dc{ts:List ae}(H:DrOk ts):DcOk ts:=⟨H.V.sok H.T,H.V,fun x hx m hm hd=>by have:=H.W x hx m hm hd;omega⟩
section
variable {ts:List ae}
theorem DcOk.mem(H:DcOk ts){x:ae}(hx:x∈ts){m:aj}(hm:m∈x.Members):0<=m.Type_/\m.Type_ < ts.length:=
 H.V.U x hx m.Type_ (by unfold usesL;simp;exact .inl ⟨m,hm,rfl⟩)
theorem DcOk.elem(H:DcOk ts){x:ae}(hx:x∈ts)(hk:7<=x.Kind):0<=x.Elem/\x.Elem < ts.length:=
 H.V.U x hx x.Elem (by unfold usesL;simp[hk])
theorem DcOk.key(H:DcOk ts){x:ae}(hx:x∈ts)(hk:x.Kind=8):0<=x.Key/\x.Key < ts.length:=
 H.V.U x hx x.Key (by unfold usesL;simp[hk])
end
end
section
open Go Go.Proofs.YtandcioiaooocaaGreat.Shv Go.Sort
set_option maxRecDepth 100000
def hW(C d:Nat)(l:List iB)(m:aj):Nat:=match l.find? (fun f=>decide (f.ID=m.ID))with
 | some f=>C*(f.Data.length+1)
 | none=>d
def hS(C d:Nat)(l:List iB)(ms:List aj):Nat:=(ms.map (hW C d l)).sum
theorem xF :∀{A B:List Fd},A.Pairwise (fun a b=>a.id < b.id)->B.Pairwise (fun a b=>a.id < b.id)->(∀x,x∈A↔x∈B)->A=B
 | [],[],_,_,_=>rfl
 | [],b::B,_,_,h=>by have:=(h b).2 (.head _);cases this
 | a::A,[],_,_,h=>by have:=(h a).1 (.head _);cases this
 | a::A,b::B,hA,hB,h=>by
  rw[List.pairwise_cons]at hA hB;have e:a=b:=by grind
  subst e;rw[xF hA.2 hB.2 fun x=>?_]
  grind
theorem rK{α:Type}{l:List α}{y:α}(d:α)(h:y∈l):∃i,i < l.length/\l.getD i d=y:=by
 obtain⟨i,hi,rfl⟩:=List.getElem_of_mem h;exact⟨i,hi,bn hi d⟩
abbrev Rdr :=Int->ab->Int->List Int->ab ⊕ List Int
def consR{α:Type}:α ⊕ List Int->List α ⊕ List Int->List α ⊕ List Int
 | .inr p,_=>.inr p
 | .inl _,.inr p=>.inr p
 | .inl u,.inl l=>.inl (u::l)
def mapR{α β:Type}(g:α->β):α ⊕ List Int->β ⊕ List Int
 | .inr p=>.inr p
 | .inl u=>.inl (g u)
def bindR{α β:Type}(g:α->β ⊕ List Int):α ⊕ List Int->β ⊕ List Int
 | .inr p=>.inr p
 | .inl u=>g u
def fI(l:List aj)(id:Int):Option Nat:=l.findIdx? fun m=>decide (m.ID=id)
def fIr(l:List aj)(id:Int):Int×Bool:=match fI l id with
 | some j=>((j:Int),true)
 | none=>(0,false)
def aV(f:Rdr)(path:List Int)(t rt:Int):Nat->List ab->List ab ⊕ List Int
 | _,[]=>.inl []
 | i,v::l=>consR (f t v rt (path++[(i:Int)])) (aV f path t rt (i+1) l)
noncomputable def rdef (m:aj) (w:ab) (n:aj) (here:List Int):ab ⊕ List Int->ab ⊕ List Int
 | .inr p=>if om m w=true then .inr here else .inr p
 | .inl u=>if om m w=true/\om n u=false then .inr here else .inl u
noncomputable def rmem (f:Rdr) (x:ae) (v:ab) (path:List Int) (n:aj):ab ⊕ List Int:=match fI x.Members n.ID with
 | none=>if n.HasDefault=true then .inl n.Default else .inr (path++[n.ID])
 | some i=>rdef (x.Members.getD i ag) (v.Items.getD i af) n (path++[n.ID]) (f (x.Members.getD i ag).Type_ (v.Items.getD i af) n.Type_ (path++[n.ID]))
noncomputable def rmems (f:Rdr) (x:ae) (v:ab) (path:List Int):List aj->List ab ⊕ List Int
 | []=>.inl []
 | n::l=>consR (rmem f x v path n) (rmems f x v path l)
noncomputable def rrest (tw:List ae) (y:ae) (path:List Int):List aj->List ab->List aG ⊕ List Int
 | m::ms,v::l=>if(findM y.Members m.ID).isSome=true then rrest tw y path ms l
  else if m.Critical=true then .inr (path++[m.ID])
  else if om m v=true then rrest tw y path ms l
  else consR (.inl ⟨m.ID,vpay tw m.Type_ v⟩) (rrest tw y path ms l)
 | _,_=>.inl []
def rleaf(x y:ae)(v:ab):Prop:=(x.Kind=2->y.Low<=v.Int_/\v.Int_<=y.High)/\(x.Kind=3->(v.Str.length:Int)<=y.Max)/\(x.Kind=4->(∃s,s∈y.Symbols/\s.ID=v.ID)\/y.Open=true)
noncomputable def rd5 (tw:List ae) (f:Rdr) (x y:ae) (v:ab) (path:List Int):ab ⊕ List Int:=
 bindR (fun is=>mapR (fun r=>⟨5,false,0,[],0,[],is,r⟩) (rrest tw y path x.Members v.Items)) (rmems f x v path y.Members)
noncomputable def rd6 (tw:List ae) (f:Rdr) (x y:ae) (v:ab) (path:List Int):ab ⊕ List Int:=match fI x.Members v.ID with
 | none=>.inr path
 | some i=>match fI y.Members v.ID with
  | some k=>mapR (fun u=>⟨6,false,0,[],v.ID,[],[u],[]⟩) (f (x.Members.getD i ag).Type_ (v.Items.getD 0 af) (y.Members.getD k ag).Type_ (path++[v.ID]))
  | none=>if y.Open=true then .inl ⟨6,false,0,[],v.ID,[],[],[⟨v.ID,vpay tw (x.Members.getD i ag).Type_ (v.Items.getD 0 af)⟩]⟩else .inr path
def rd7(f:Rdr)(x y:ae)(v:ab)(path:List Int):ab ⊕ List Int:=
 if(v.Items.length:Int)<=y.Max then mapR (fun is=>⟨7,false,0,[],0,[],is,[]⟩) (aV f path x.Elem y.Elem 0 v.Items)else .inr path
def rd8(f:Rdr)(x y:ae)(v:ab)(path:List Int):ab ⊕ List Int:=
 if(v.Items.length:Int)<=y.Max then bindR (fun ks=>mapR (fun is=>⟨8,false,0,[],0,ks,is,[]⟩) (aV f path x.Elem y.Elem 0 v.Items)) (aV f path x.Key y.Key 0 v.Keys)else .inr path
def rd9(f:Rdr)(x y:ae)(v:ab)(path:List Int):ab ⊕ List Int:=
 mapR (fun is=>⟨9,false,0,[],0,[],is,[]⟩) (aV f path x.Elem y.Elem 0 v.Items)
open Classical in
noncomputable def rdK (tw:List ae) (f:Rdr) (x y:ae) (v:ab) (path:List Int):ab ⊕ List Int:=
 if ¬x.Kind=y.Kind then .inr path
 else if x.Kind=5 then rd5 tw f x y v path
 else if x.Kind=6 then rd6 tw f x y v path
 else if x.Kind=7 then rd7 f x y v path
 else if x.Kind=8 then rd8 f x y v path
 else if x.Kind=9 then rd9 f x y v path
 else if rleaf x y v then .inl v else .inr path
noncomputable def vread (tw tr:List ae):Nat->Rdr
 | 0=>fun _ _ _ path=>.inr path
 | n+1=>fun t v rt path=>rdK tw (vread tw tr n) (tw.getD t.toNat ap) (tr.getD rt.toNat ap) v path
theorem kZ{tw tr:List ae}(n:Nat)(t:Int)(v:ab)(rt:Int)(path:List Int):vread tw tr (n+1) t v rt path=rdK tw (vread tw tr n) (tw.getD t.toNat ap) (tr.getD rt.toNat ap) v path:=rfl
section
variable {tw:List ae} {f:Rdr} {x y:ae} {v:ab} {path:List Int}
theorem zy(hK:¬x.Kind=y.Kind):rdK tw f x y v path= .inr path:=by unfold rdK;rw[if_pos hK]
theorem rdK5(hK:x.Kind=y.Kind)(h:x.Kind=5):rdK tw f x y v path=rd5 tw f x y v path:=by unfold rdK;rw[if_neg (fun h=>h hK),if_pos h]
theorem rdK6(hK:x.Kind=y.Kind)(h:x.Kind=6):rdK tw f x y v path=rd6 tw f x y v path:=by unfold rdK;rw[if_neg (fun h=>h hK),if_neg (by omega),if_pos h]
theorem rdK7(hK:x.Kind=y.Kind)(h:x.Kind=7):rdK tw f x y v path=rd7 f x y v path:=by unfold rdK;rw[if_neg (fun h=>h hK),if_neg (by omega),if_neg (by omega),if_pos h]
theorem rdK8(hK:x.Kind=y.Kind)(h:x.Kind=8):rdK tw f x y v path=rd8 f x y v path:=by unfold rdK;rw[if_neg (fun h=>h hK),if_neg (by omega),if_neg (by omega),if_neg (by omega),if_pos h]
theorem rdK9(hK:x.Kind=y.Kind)(h:x.Kind=9):rdK tw f x y v path=rd9 f x y v path:=by unfold rdK;rw[if_neg (fun h=>h hK),if_neg (by omega),if_neg (by omega),if_neg (by omega),if_neg (by omega),if_pos h]
theorem gw(hK:x.Kind=y.Kind)(h:x.Kind<=4)(hl:rleaf x y v):rdK tw f x y v path= .inl v:=by unfold rdK;rw[if_neg (fun h=>h hK),if_neg (by omega),if_neg (by omega),if_neg (by omega),if_neg (by omega),if_neg (by omega),if_pos hl]
theorem jQ(hK:x.Kind=y.Kind)(h:x.Kind<=4)(hl:¬rleaf x y v):rdK tw f x y v path= .inr path:=by unfold rdK;rw[if_neg (fun h=>h hK),if_neg (by omega),if_neg (by omega),if_neg (by omega),if_neg (by omega),if_neg (by omega),if_neg hl]
end
theorem rl{m:aj}{w:ab}{n:aj}{here p:List Int}:rdef m w n here (.inr p)=if om m w=true then .inr here else .inr p:=rfl
theorem rn{m:aj}{w:ab}{n:aj}{here:List Int}{u:ab}:rdef m w n here (.inl u)=if om m w=true/\om n u=false then .inr here else .inl u:=rfl
theorem co{l:List aj}{id:Int}{j:Nat}(h:fI l id=some j):j < l.length/\(l.getD j ag).ID=id/\∀k,k < j->(l.getD k ag).ID≠id:=by
 obtain⟨h1,h2,h3⟩:=List.findIdx?_eq_some_iff_getElem.1 h;refine⟨h1,?_,fun k hk=>?_⟩
 . rw[bn h1];simpa using h2
 . rw[bn (by omega)]
   simpa using h3 k hk
theorem yC{l:List aj}{id:Int}(h:fI l id=none):∀k,k < l.length->(l.getD k ag).ID≠id:=fun k hk=>by
 have:=List.findIdx?_eq_none_iff.1 h _ (aB hk ag)
 simpa using this
theorem wK(l:List aj)(id:Int):iC l id (fIr l id):=by
 unfold fIr;cases h:fI l id with
 | some j=>exact .inl ⟨j,(co h).1,(co h).2.1,(co h).2.2,rfl⟩
 | none=>exact .inr ⟨yC h,rfl⟩
theorem jD(l:List aj)(id:Int):(fI l id).isSome=(findM l id).isSome:=by
 cases h:fI l id with
 | some j=>
  obtain⟨h1,h2,_⟩:=co h;cases g:findM l id with
  | some _=>rfl
  | none=>exact absurd h2 (kY g _ (aB h1 ag))
 | none=>
  cases g:findM l id with
  | none=>rfl
  | some m=>
   obtain⟨m1,m2⟩:=gr g;obtain⟨i,hi,rfl⟩:=List.getElem_of_mem m1;exact absurd m2 (by rw[<-bn hi ag];exact yC h i hi)
theorem qQ{α:Type}{a:α ⊕ List Int}{b:List α ⊕ List Int}{l:List α}(h:consR a b= .inl l):∃u us,a= .inl u/\b= .inl us/\l=u::us:=by
 cases a with
 | inr p=>simp[consR]at h
 | inl u=>cases b with
  | inr p=>simp[consR]at h
  | inl us=>exact⟨u,us,rfl,rfl,by simpa[consR]using h.symm⟩
theorem lz{α β:Type}{g:α->β}{a:α ⊕ List Int}{b:β}(h:mapR g a= .inl b):∃u,a= .inl u/\b=g u:=by
 cases a with
 | inr p=>simp[mapR]at h
 | inl u=>exact⟨u,rfl,by simpa[mapR]using h.symm⟩
theorem wL{α β:Type}{g:α->β ⊕ List Int}{a:α ⊕ List Int}{b:β}(h:bindR g a= .inl b):∃u,a= .inl u/\g u= .inl b:=by
 cases a with
 | inr p=>simp[bindR]at h
 | inl u=>exact⟨u,rfl,by simpa[bindR]using h⟩
theorem nD{f:Rdr}{path:List Int}{t rt:Int}:∀{l:List ab} {i:Nat} {us:List ab},aV f path t rt i l= .inl us->us.length=l.length/\∀j,j < l.length->f t (l.getD j af) rt (path++[((i+j:Nat):Int)])= .inl (us.getD j af)
 | [],i,us,h=>by
  simp only[aV,Sum.inl.injEq]at h;subst h;exact⟨rfl,fun j hj=>by simp at hj⟩
 | v::l,i,us,h=>by
  obtain⟨u,us',h1,h2,rfl⟩:=qQ h;obtain⟨a,b⟩:=nD h2;refine⟨by simp[a],fun j hj=>?_⟩;cases j with
  | zero=>exact h1
  | succ j=>
   have:=b j (by simpa using hj);rw[show i+1+j=i+(j+1) by omega]at this;exact this
theorem wM{f:Rdr}{x:ae}{v:ab}{path:List Int}:∀{l:List aj} {us:List ab},rmems f x v path l= .inl us->us.length=l.length/\∀j,j < l.length->rmem f x v path (l.getD j ag)= .inl (us.getD j af)
 | [],us,h=>by
  simp only[rmems,Sum.inl.injEq]at h;subst h;exact⟨rfl,fun j hj=>by simp at hj⟩
 | n::l,us,h=>by
  obtain⟨u,us',h1,h2,rfl⟩:=qQ h;obtain⟨a,b⟩:=wM h2;refine⟨by simp[a],fun j hj=>?_⟩;cases j with
  | zero=>exact h1
  | succ j=>exact b j (by simpa using hj)
theorem G7 {f : Rdr} {x : ae} {v : ab} {path : List Int} {n : aj} {u : ab} (h : rmem f x v path n = .inl u):
 (fI x.Members n.ID=none/\n.HasDefault=true/\u=n.Default)\/∃i,fI x.Members n.ID=some i/\f (x.Members.getD i ag).Type_ (v.Items.getD i af) n.Type_ (path++[n.ID])= .inl u/\(om (x.Members.getD i ag) (v.Items.getD i af)=true->om n u=true):=by
 unfold rmem at h;cases hf:fI x.Members n.ID with
 | none=>
  simp only[hf]at h;by_cases hd:n.HasDefault=true
  . rw[if_pos hd]at h;exact .inl ⟨rfl,hd,by simpa using h.symm⟩
  . rw[if_neg hd]at h;cases h
 | some i=>
  simp only[hf]at h;refine .inr ⟨i,rfl,?_⟩;revert h;cases f (x.Members.getD i ag).Type_ (v.Items.getD i af) n.Type_ (path++[n.ID])with
  | inr p=>intro h;unfold rdef at h;grind
  | inl w=>intro h;unfold rdef at h;grind
theorem nO {tw : List ae} {y : ae} {path : List Int}: ∀ {ms : List aj} {l : List ab} {r : List aG}, rrest tw y path ms l = .inl r ->
 r.length<=ms.length/\(r.map fun a=>a.ID).Sublist (ms.map fun m=>m.ID)/\∀a,a∈r->findM y.Members a.ID=none/\∃j,j < ms.length/\j < l.length/\a=⟨(ms.getD j ag).ID,vpay tw (ms.getD j ag).Type_ (l.getD j af)⟩
 | [],l,r,h=>by
  rw[rrest]at h
  . cases h;simp
  . intros;simp_all
 | m::ms,[],r,h=>by
  rw[rrest]at h
  . cases h;simp
  . intros;simp_all
 | m::ms,v::l,r,h=>by
  have up:∀{r},rrest tw y path ms l= .inl r->r.length<=(m::ms).length/\(r.map fun a=>a.ID).Sublist ((m::ms).map fun m=>m.ID)/\∀a,a∈r->findM y.Members a.ID=none/\∃j,j < (m::ms).length/\j < (v::l).length/\a=⟨((m::ms).getD j ag).ID,vpay tw ((m::ms).getD j ag).Type_ ((v::l).getD j af)⟩:=fun {r} h=>by
   obtain⟨a,b,c⟩:=nO h;refine⟨by simp;omega,by rw[List.map_cons];exact b.cons _,fun q hq=>?_⟩;obtain⟨c1,j,j1,j2,e⟩:=c q hq;exact⟨c1,j+1,by simp;omega,by simp;omega,e⟩
  rw[rrest]at h;by_cases c1:(findM y.Members m.ID).isSome=true
  . rw[if_pos c1]at h;exact up h
  rw[if_neg c1]at h;by_cases c2:m.Critical=true
  . rw[if_pos c2]at h;cases h
  rw[if_neg c2]at h;by_cases c3:om m v=true
  . rw[if_pos c3]at h;exact up h
  rw[if_neg c3]at h;obtain⟨u,us,e1,e2,rfl⟩:=qQ h;cases e1;obtain⟨a,b,c⟩:=nO e2;refine⟨by simp;omega,by rw[List.map_cons,List.map_cons];exact b.cons₂ _,fun q hq=>?_⟩;rcases List.mem_cons.1 hq with rfl | hq
  . exact⟨by simpa using c1,0,by simp,by simp,rfl⟩
  . exact(up e2).2.2 q hq
section
variable {ts:List ae}
theorem vput2{n:Nat}(h:n < 16384):(vput n).length<=2:=rh 1 n (by simpa using h)
theorem jE{p:List UInt8}(h:p.length < 16384):(bH p).length<=p.length+2:=by
 have:=vput2 h;unfold bH;simp;omega
def Sm(ts:List ae)(t:Int)(v:ab):Prop:=(vpay ts t v).length+4<=wt v
theorem ol{t:Int}:∀{l:List ab},wts l<=3000->(∀y,y∈l->Sm ts t y)->((vpays ts t l).flatMap bH).length<=wts l
 | [],_,_=>by rw[vpays];simp
 | v::l,hw,h=>by
  rw[vpays,List.flatMap_cons,List.length_append];rw[bX]at hw ⊢;have h1:=h v (.head _);unfold Sm at h1;have h2:=ol (t:=t) (l:=l) (by omega) fun x hx=>h x (.tail _ hx)
  have h3:=jE (p:=vpay ts t v) (by omega);omega
theorem yD{t:Int}{l:List ab}(h:∀y,y∈l->Sm ts t y):((vpays ts t l).headD []).length+4<=wts l\/l=[]:=by
 cases l with
 | nil=>exact .inr rfl
 | cons v l=>
  refine .inl ?_;have h1:=h v (.head _);unfold Sm at h1;rw[vpays,bX];show(vpay ts t v).length+4<=_;omega
theorem xG :∀{ms:List aj} {l:List ab},wts l<=3000->(∀m,m∈ms->m.ID<=1000)->l.length=ms.length->(∀i,i < ms.length->Sm ts (ms.getD i ag).Type_ (l.getD i af))->((vents ts ms l).flatMap Fd.text).length<=wts l
 | [],l,_,_,_,_=>by rw[vents] <;> simp
 | m::ms,[],_,_,hl,_=>by simp at hl
 | m::ms,v::l,hw,hm,hl,h=>by
  rw[bX]at hw ⊢;rw[vents];have h1:Sm ts m.Type_ v:=h 0 (by simp);unfold Sm at h1;have h2:=xG (ms:=ms) (l:=l) (by omega) (fun x hx=>hm x (.tail _ hx)) (by simpa using hl) fun i hi=>h (i+1) (by simpa using hi)
  have h4:=hm m (.head _);split
  . omega
  . rw[List.flatMap_cons,List.length_append];have a1:=jE (p:=vpay ts m.Type_ v) (by omega);have a2:=vput2 (n:=2*m.ID.toNat+(if m.Critical then 1 else 0)) (by split <;> omega);have h3:(Fd.text ⟨m.ID.toNat,m.Critical,vpay ts m.Type_ v⟩).length<=(vpay ts m.Type_ v).length+4:=by
     show(dG m.ID.toNat m.Critical (vpay ts m.Type_ v)).length<=_;unfold dG;rw[List.length_append];omega
    omega
theorem lm(H:DrOk ts){v:ab}(hv:OkV v):∀t,vfit ts true t v->wt v<=3000->Sm ts t v:=by
 have HS:=H.V.sok H.T
 induction hv with
 | mk v hs h1 h2 h3 hk hi hrd n1 n2 n3 n4 ihk ihi=>
  intro t hf hw;obtain⟨⟨g1,g2,g3,g4⟩,hc⟩:=(cn _ _ _).1 hf;have hj:t.toNat < ts.length:=by omega
  have hmem:=aB hj ap;have hR:=g4 rfl;have hwt:=wt_eq v;have lk:∀y,y∈v.Keys->wt y+10<=wt v:=fun y hy=>by have:=bK hy;omega
  have li:∀y,y∈v.Items->wt y+10<=wt v:=fun y hy=>by have:=bK hy;omega
  have ik:∀t,vfits ts true t v.Keys->∀y,y∈v.Keys->Sm ts t y:=fun t ht y hy=>ihk y hy t (aW.1 ht y hy) (by have:=lk y hy;omega)
  have ii:∀t,vfits ts true t v.Items->∀y,y∈v.Items->Sm ts t y:=fun t ht y hy=>ihi y hy t (aW.1 ht y hy) (by have:=li y hy;omega)
  unfold Sm;rcases hc with h | h | h | h | h | h | h | h | h
  . rw[vpay1 (by omega)];split <;> simp <;> omega
  . have hL:=H.L _ hmem (by omega);rw[vpay2 (by omega)];have:=lx 1 (zig v.Int_).toNat (by unfold zig;split <;> omega);omega
  . rw[vpay3 (by omega)];omega
  . rw[vpay4 (by omega)];have hid:v.ID.toNat < 256 ^ 2:=by
     rcases h.2.2.2.2.2.2.2 with⟨y,y1,y2⟩ | ⟨_,h,_⟩
     . have:=HS.S _ hmem (by omega) y y1;unfold I1000 at this;omega
     . cases h
    have:=lx 2 _ hid;omega
  . obtain⟨a1,a2,a3,a4,a5,a6,a7,a8⟩:=h;obtain⟨m1,m2⟩:=HS.A _ hmem (.inl (by omega));obtain⟨f1,f2⟩:=dB.1 a8;rw[vpay5 (by omega),tN (ib _ _)];unfold dm;rw[hR,List.map_nil,List.append_nil];have:=xG (ts:=ts) (l:=v.Items) (by omega) (HS.M _ hmem) f1 fun i hi'=>by
     have hy:=aB (by omega:i < v.Items.length) af;exact ihi _ hy _ (f2 i hi') (by have:=li _ hy;omega)
    omega
  . obtain⟨a1,a2,a3,a4,a5,a6⟩:=h;rw[vpay6 (by omega)];cases hF:findM (ts.getD t.toNat ap).Members v.ID with
    | none=>rw[hF]at a6;cases a6.2.1
    | some m=>
     rw[hF]at a6;obtain⟨b1,b2,b3⟩:=a6;obtain⟨m1,m2⟩:=gr hF;have hid:=HS.M _ hmem m m1;have:=vput2 (n:=v.ID.toNat) (by omega);rw[List.length_append];rcases yD (ii _ b3)with q | q
     . show _+((vpays ts m.Type_ v.Items).headD []).length+4<=_;omega
     . rw[q]at b2;cases b2
  . obtain⟨a1,a2,a3,a4,a5,a6,a7,a8,a9⟩:=h;rw[vpay7 (by omega)];have:=ol (l:=v.Items) (by omega) (ii _ a9);omega
  . obtain⟨a1,a2,a3,a4,a5,a6,a7,a8,a9,a10,a11⟩:=h;rw[vpay8 (by omega)];have e1:=ol (l:=v.Items) (by omega) (ii _ a10);have e2:=ol (l:=v.Keys) (by omega) (ik _ a9);have:=rG (vpays ts (ts.getD t.toNat ap).Key v.Keys) (vpays ts (ts.getD t.toNat ap).Elem v.Items);omega
  . obtain⟨a1,a2,a3,a4,a5,a6,a7,a8,a9⟩:=h;rw[vpay9 (by omega)];rcases yD (ii _ a9)with q | q
    . generalize vpays ts (ts.getD t.toNat ap).Elem v.Items=l at*;cases l with
      | nil=>simp;omega
      | cons p l=>
       simp only[List.headD_cons,List.length_cons]at q ⊢;omega
    . rw[q,vpays];simp;omega
end
section
variable {tw tr:List ae}
theorem Gh{n:Nat}{t:Int}{v:ab}{rt:Int}{path:List Int}{u:ab}(hk:(tw.getD t.toNat ap).Kind<=4)(h:vread tw tr n t v rt path= .inl u):u=v:=by
 cases n with
 | zero=>cases h
 | succ n=>
  rw[kZ]at h;unfold rdK at h;split at h
  . cases h
  . rw[if_neg (by omega),if_neg (by omega),if_neg (by omega),if_neg (by omega),if_neg (by omega)]at h;split at h <;> cases h
    rfl
theorem Gi{f:Rdr}{path:List Int}{t rt:Int}(hf:∀v rt path u,f t v rt path= .inl u->u=v){i:Nat}{l us:List ab}(h:aV f path t rt i l= .inl us):us=l:=by
 obtain⟨a,b⟩:=nD h;exact G1 a fun j hj=>hf _ _ _ _ (b j (by omega))
theorem G8{y:ae}{path:List Int}{ms:List aj}{l:List ab}{r:List aG}(hm:MAsc ms)(h:rrest tw y path ms l= .inl r):dH y.Members r:=by
 obtain⟨_,b,c⟩:=nO h;refine⟨?_,fun a ha=>?_⟩
 . have h1:(ms.map fun m=>m.ID).Pairwise (· < ·):=List.pairwise_map.2 hm.1;exact List.pairwise_map.1 (h1.sublist b)
 . obtain⟨c1,j,j1,j2,e⟩:=c a ha;refine⟨?_,c1⟩;rw[e];exact hm.2 _ (aB j1 ag)
theorem I1000.i64{n:Int}(h:I1000 n): -9223372036854775808<=n/\n<=9223372036854775807:=by unfold I1000 at h;omega
def oE(tr:List ae)(rt:Int)(u:ab):Prop:=OkV u/\vfit tr false rt u
def RdOut(tw tr:List ae)(n:Nat):Prop:=∀{v:ab},OkV v->wt v<=3000->∀{t rt:Int} {path:List Int} {u:ab},vfit tw true t v->0<=rt->rt < tr.length->vread tw tr n t v rt path= .inl u->oE tr rt u
theorem E6 (HW : DrOk tw) (HR : DrOk tr) {n : Nat} (ih : RdOut tw tr n): RdOut tw tr (n + 1):= by
 intro v hv hw t rt path u hf r0 r1 h;have SW:=HW.V.sok HW.T;have SR:=HR.V.sok HR.T;have hv':=hv;have hwt:=wt_eq v;obtain⟨⟨g1,g2,g3,g4⟩,hc⟩:=(cn _ _ _).1 hf;have hj:t.toNat < tw.length:=by omega
 have hjr:rt.toNat < tr.length:=by omega
 have hmem:=aB hj ap;have hmr:=aB hjr ap;have hfo:=fun u=>(cn (ts:=tr) false rt u).2
 rw[kZ]at h;generalize hx:tw.getD t.toNat ap=x at*;generalize hy:tr.getD rt.toNat ap=y at*;cases hv with
 | mk _ hs h1 h2 h3 hk hi hrd n1 n2 n3 n4=>
 have sI:∀y,y∈v.Items->wt y<=3000:=fun y hy=>by have:=bK hy;omega
 have sK:∀y,y∈v.Keys->wt y<=3000:=fun y hy=>by have:=bK hy;omega
 have par:∀{t rt:Int} {i:Nat} {us:List ab},vfits tw true t v.Items->0<=rt->rt < tr.length->aV (vread tw tr n) path t rt i v.Items= .inl us->us.length=v.Items.length/\(∀q,q∈us->OkV q)/\vfits tr false rt us:=fun {t rt i us} hfs a0 a1 hp=>by
  obtain⟨a,b⟩:=nD hp;have key:∀q,q∈us->oE tr rt q:=fun q hq=>by
   obtain⟨j,j1,rfl⟩:=rK af hq;have hm:=aB (by omega:j < v.Items.length) af;exact ih (hi _ hm) (sI _ hm) (aW.1 hfs _ hm) a0 a1 (b j (by omega))
  exact⟨a,fun q hq=>(key q hq).1,aW.2 fun q hq=>(key q hq).2⟩
 have hkk:∀t,vfits tw true t v.Keys->(tw.getD t.toNat ap).Kind<=4->∀{rt:Int} {i:Nat} {us:List ab},0<=rt->rt < tr.length->aV (vread tw tr n) path t rt i v.Keys= .inl us->us=v.Keys/\vfits tr false rt v.Keys:=fun t hfs hk4 rt i us a0 a1 hp=>by
  have e:=Gi (fun v rt path u h=>Gh hk4 h) hp;subst e;obtain⟨a,b⟩:=nD hp;refine⟨rfl,aW.2 fun q hq=>?_⟩;obtain⟨j,j1,rfl⟩:=rK af hq;exact(ih (hk _ hq) (sK _ hq) (aW.1 hfs _ hq) a0 a1 (b j j1)).2
 unfold rdK at h;by_cases hK:x.Kind=y.Kind
 . rw[if_neg (by simpa using hK)]at h;rcases hc with h' | h' | h' | h' | h' | h' | h' | h' | h'
   . rw[if_neg (by omega),if_neg (by omega),if_neg (by omega),if_neg (by omega),if_neg (by omega)]at h;split at h <;> cases h
     exact⟨hv',hfo _ ⟨⟨r0,r1,by omega,by simp⟩,.inl h'⟩⟩
   . rw[if_neg (by omega),if_neg (by omega),if_neg (by omega),if_neg (by omega),if_neg (by omega)]at h;split at h <;> cases h
     rename_i hl;exact⟨hv',hfo _ ⟨⟨r0,r1,by omega,by simp⟩,.inr (.inl (by have:=hl.1 (by omega);simp_all))⟩⟩
   . rw[if_neg (by omega),if_neg (by omega),if_neg (by omega),if_neg (by omega),if_neg (by omega)]at h;split at h <;> cases h
     rename_i hl;exact⟨hv',hfo _ ⟨⟨r0,r1,by omega,by simp⟩,.inr (.inr (.inl (by have:=hl.2.1 (by omega);simp_all)))⟩⟩
   . rw[if_neg (by omega),if_neg (by omega),if_neg (by omega),if_neg (by omega),if_neg (by omega)]at h;split at h <;> cases h
     rename_i hl;have hI:I1000 v.ID:=by
      rcases h'.2.2.2.2.2.2.2 with⟨y,y1,y2⟩ | ⟨_,h,_⟩
      . rw[<-y2];exact SW.S _ hmem (by omega) y y1
      . cases h
     refine⟨hv',hfo _ ⟨⟨r0,r1,by omega,by simp⟩,.inr (.inr (.inr (.inl ⟨h'.1,h'.2.1,h'.2.2.1,h'.2.2.2.1,h'.2.2.2.2.1,h'.2.2.2.2.2.1,h'.2.2.2.2.2.2.1,?_⟩)))⟩⟩;rcases hl.2.2 (by omega)with q | q
     . exact .inl q
     . exact .inr ⟨q,rfl,hI⟩
   . obtain⟨a1,a2,a3,a4,a5,a6,a7,a8⟩:=h';obtain⟨m1,m2⟩:=SW.A _ hmem (.inl (by omega));obtain⟨m3,m4⟩:=SR.A _ hmr (.inl (by omega));obtain⟨f1,f2⟩:=dB.1 a8;rw[if_pos (by omega)]at h;obtain⟨is,e1,h⟩:=wL h;obtain⟨r,e2,rfl⟩:=lz h;obtain⟨b1,b2⟩:=wM e1;have key:∀j,j < y.Members.length->oE tr (y.Members.getD j ag).Type_ (is.getD j af):=fun j hj'=>by
      have hmy:=aB hj' ag;rcases G7 (b2 j hj')with⟨_,c2,c3⟩ | ⟨i,c1,c2,_⟩
      . rw[c3];exact⟨(HR.T _ hmr).dv _ hmy,vfit_weak _ _ (HR.D _ hmr _ hmy c2)⟩
      . obtain⟨d1,_,_⟩:=co c1;have hm:=aB (by omega:i < v.Items.length) af;obtain⟨q0,q1⟩:=HR.dc.mem hmr hmy;exact ih (hi _ hm) (sI _ hm) (f2 i d1) q0 q1 c2
     have hro:=G8 m1 e2;obtain⟨c1,_,c3⟩:=nO e2
     refine⟨.mk _ (by simp) (by simp) (by show is.length<=_;unfold reachBytes;omega) (by show r.length<=_;unfold reachBytes;omega) (fun q hq=>by cases hq) (fun q hq=>?_) (fun q hq=>?_) (by simp) (by simp) (by simp) (fun q hq=>(hro.2 q hq).1.i64),hfo _ ⟨⟨r0,r1,by show(5:Int)=_;omega,by simp⟩,.inr (.inr (.inr (.inr (.inl ⟨rfl,rfl,rfl,rfl,rfl,rfl,hro,dB.2 ⟨b1,fun j hj'=>(key j hj').2⟩⟩))))⟩⟩
     . obtain⟨j,j1,rfl⟩:=rK af hq;exact(key j (by have:is.length=_:=b1;have j1':j < is.length:=j1;omega)).1
     . obtain⟨_,j,j1,j2,e⟩:=c3 q hq;have hm:=aB j2 af;have:=lm HW (hi _ hm) _ (f2 j j1) (sI _ hm);unfold Sm at this;have:=sI _ hm;rw[e];unfold reachBytes;show(vpay tw _ _).length<=_;omega
   . obtain⟨a1,a2,a3,a4,a5,a6⟩:=h';rw[if_neg (by omega),if_pos (by omega)]at h;unfold rd6 at h;obtain⟨m1,m2⟩:=SW.A _ hmem (.inr (by omega));cases hF:findM x.Members v.ID with
     | none=>rw[hF]at a6;cases a6.2.1
     | some m=>
      rw[hF]at a6;obtain⟨b1,b2,b3⟩:=a6;have hsome:=jD x.Members v.ID;rw[hF]at hsome;cases hI:fI x.Members v.ID with
      | none=>rw[hI]at hsome;cases hsome
      | some i=>
      obtain⟨d1,d2,_⟩:=co hI;obtain⟨d3,d4⟩:=gr hF;have em:x.Members.getD i ag=m:=ly m1 (aB d1 ag) d3 (by rw[d2,d4]);have hid:I1000 v.ID:=by rw[<-d4];exact m1.2 m d3
      simp only[hI,em]at h;have hm:=aB (by omega:0 < v.Items.length) af;cases hY:fI y.Members v.ID with
      | some k=>
       simp only[hY]at h;obtain⟨w,e1,rfl⟩:=lz h;obtain⟨k1,k2,_⟩:=co hY;have hmy:=aB k1 ag;obtain⟨q0,q1⟩:=HR.dc.mem hmr hmy;obtain⟨z1,z2⟩:=ih (hi _ hm) (sI _ hm) (aW.1 b3 _ hm) q0 q1 e1;have hFy:findM y.Members v.ID=some (y.Members.getD k ag):=by rw[<-k2];exact G3 (SR.A _ hmr (.inr (by omega))).1 hmy
       refine⟨.mk _ (by simp) (by simp) (by show[w].length<=_;unfold reachBytes;simp) (by simp) (fun q hq=>by cases hq) (fun q hq=>?_) (fun q hq=>by cases hq) (by simp) (by simp) hid.i64 (fun q hq=>by cases hq),hfo _ ⟨⟨r0,r1,by show(6:Int)=_;omega,by simp⟩,.inr (.inr (.inr (.inr (.inr (.inl ⟨rfl,rfl,rfl,rfl,rfl,?_⟩)))))⟩⟩
       . rw[List.mem_singleton.1 hq];exact z1
       . show match findM y.Members v.ID with | some m=>_ | none=>_
         rw[hFy];exact⟨rfl,rfl,z2,trivial⟩
      | none=>
       simp only[hY]at h;split at h
       . cases h;rename_i ho;have hFy:findM y.Members v.ID=none:=by
          have:=jD y.Members v.ID;rw[hY]at this;cases hq:findM y.Members v.ID with
          | none=>rfl
          | some _=>rw[hq]at this;cases this
         have:=lm HW (hi _ hm) _ (aW.1 b3 _ hm) (sI _ hm);unfold Sm at this;have:=sI _ hm
         refine⟨.mk _ (by simp) (by simp) (by simp) (by show[_].length<=_;unfold reachBytes;simp) (fun q hq=>by cases hq) (fun q hq=>by cases hq) (fun q hq=>?_) (by simp) (by simp) hid.i64 (fun q hq=>?_),hfo _ ⟨⟨r0,r1,by show(6:Int)=_;omega,by simp⟩,.inr (.inr (.inr (.inr (.inr (.inl ⟨rfl,rfl,rfl,rfl,rfl,?_⟩)))))⟩⟩
         . rw[List.mem_singleton.1 hq];show(vpay tw _ _).length<=_;unfold reachBytes;omega
         . rw[List.mem_singleton.1 hq];exact hid.i64
         . show match findM y.Members v.ID with | some m=>_ | none=>_
           rw[hFy];exact⟨ho,rfl,hid,rfl,_,rfl⟩
       . cases h
   . obtain⟨a1,a2,a3,a4,a5,a6,a7,a8,a9⟩:=h';rw[if_neg (by omega),if_neg (by omega),if_pos (by omega)]at h;unfold rd7 at h;split at h
     . rename_i hM;obtain⟨is,e1,rfl⟩:=lz h;obtain⟨q0,q1⟩:=HR.dc.elem hmr (by omega);obtain⟨p1,p2,p3⟩:=par a9 q0 q1 e1
       exact⟨.mk _ (by simp) (by simp) (by show is.length<=_;omega) (by simp) (fun q hq=>by cases hq) p2 (fun q hq=>by cases hq) (by simp) (by simp) (by simp) (fun q hq=>by cases hq),hfo _ ⟨⟨r0,r1,by show(7:Int)=_;omega,by simp⟩,.inr (.inr (.inr (.inr (.inr (.inr (.inl ⟨rfl,rfl,rfl,rfl,rfl,rfl,rfl,by show(is.length:Int)<=_;omega,p3⟩))))))⟩⟩
     . cases h
   . obtain⟨a1,a2,a3,a4,a5,a6,a7,a8,a9,a10,a11⟩:=h';rw[if_neg (by omega),if_neg (by omega),if_neg (by omega),if_pos (by omega)]at h;unfold rd8 at h;split at h
     . rename_i hM;obtain⟨ks,e0,h⟩:=wL h;obtain⟨is,e1,rfl⟩:=lz h;obtain⟨q0,q1⟩:=HR.dc.elem hmr (by omega);obtain⟨q2,q3⟩:=HR.dc.key hmr (by omega);obtain⟨p1,p2,p3⟩:=par a10 q0 q1 e1;obtain⟨rfl,p4⟩:=hkk _ a9 (SW.Ky _ hmem (by omega)).2 q2 q3 e0
       exact⟨.mk _ (by simp) (by show v.Keys.length<=_;omega) (by show is.length<=_;omega) (by simp) hk p2 (fun q hq=>by cases hq) (by simp) (by simp) (by simp) (fun q hq=>by cases hq),hfo _ ⟨⟨r0,r1,by show(8:Int)=_;omega,by simp⟩,.inr (.inr (.inr (.inr (.inr (.inr (.inr (.inl ⟨rfl,rfl,rfl,rfl,rfl,rfl,by show(v.Keys.length:Int)<=_;omega,by show is.length=v.Keys.length;omega,p4,p3,a11⟩)))))))⟩⟩
     . cases h
   . obtain⟨a1,a2,a3,a4,a5,a6,a7,a8,a9⟩:=h';rw[if_neg (by omega),if_neg (by omega),if_neg (by omega),if_neg (by omega),if_pos (by omega)]at h;obtain⟨is,e1,rfl⟩:=lz h;obtain⟨q0,q1⟩:=HR.dc.elem hmr (by omega);obtain⟨p1,p2,p3⟩:=par a9 q0 q1 e1
     exact⟨.mk _ (by simp) (by simp) (by show is.length<=_;omega) (by simp) (fun q hq=>by cases hq) p2 (fun q hq=>by cases hq) (by simp) (by simp) (by simp) (fun q hq=>by cases hq),hfo _ ⟨⟨r0,r1,by show(9:Int)=_;omega,by simp⟩,.inr (.inr (.inr (.inr (.inr (.inr (.inr (.inr ⟨rfl,rfl,rfl,rfl,rfl,rfl,rfl,by show is.length<=1;omega,p3⟩)))))))⟩⟩
 . rw[if_pos (by simpa using hK)]at h;cases h
theorem qR(HW:DrOk tw)(HR:DrOk tr):∀n,RdOut tw tr n
 | 0=>fun _ _ _ _ _ _ _ _ _ h=>by cases h
 | n+1=>E6 HW HR (qR HW HR n)
end
theorem n0{m:aj}{v:ab}(hv:OkV v):gP (m,v)=some (om m v):=by
 rw[gP];simp only[ab.aA];unfold om;cases hd:m.HasDefault with
 | false=>rfl
 | true=>
  obtain⟨r,r1,r2⟩:=G4 hv m.Default;rw[if_pos rfl,r1];by_cases e:m.Default=v
  . have:=r2.2 e.symm;subst this;simp[e]
  . have:r=false:=by
     cases r with
     | false=>rfl
     | true=>exact absurd (r2.1 rfl).symm e
    subst this;simp[e]
theorem Di{ts:List ae}(hT:∀t,t∈ts->OkT t)(hV:VOk ts){v:ab}(hv:OkV v){t:Int}(hf:vfit ts false t v):mM ((⟨ts⟩:av),t,v)=some 0:=by
 have H:=hV.sok hT;obtain⟨v1,_⟩:=qP hT hV;obtain⟨⟨g1,g2,_⟩,_⟩:=(cn _ _ _).1 hf;obtain⟨r,r1,r2⟩:=xC H hv t false;have hr:=r2.2 hf;subst hr;have hout:¬((bif decide (t < 0)then true else decide (((⟨ts⟩:av).Types.length:Int)<=t))=true):=by grind
 rw[mM,pm];simp only[EY,ab.aA];rw[v1];show((if(bif decide (t < 0)then true else decide (((⟨ts⟩:av).Types.length:Int)<=t))=true then some (4:Int)else some 0) >>=_)=_;rw[if_neg hout];show(nB ((⟨ts⟩:av),t,v) >>=_)=_;rw[nB];simp only[ab.aA];rw[r1];rfl
theorem qS{p:List UInt8}(h:p.length<=100000):i7 p=some (bH p):=by
 rw[i7,wrpn (by omega),l8 (by omega)];have:=cS (n:=p.length) (by omega);simp only[oZ4,oZ3];rw[if_pos (bm (by omega))];rfl
theorem Gj{id:Int}{c:Bool}{p:List UInt8}(hid:I1000 id)(h:p.length<=4096):mZ (id,c,p)=some (dG id.toNat c p,0):=by
 unfold I1000 at hid;obtain⟨n,rfl⟩:=Int.eq_ofNat_of_zero_le (by omega:0<=id);have a:¬(n:Int) < 1:=by omega
 have b:¬(1000:Int) < n:=by omega
 rw[mZ,if_neg (by simp[a,b]),if_neg (by simp;omega),GM (by omega) (by omega),az];rfl
section
variable {ts:List ae}
theorem qB :∀{ms:List aj} {l:List ab},((vents ts ms l).map fun f=>f.id).Sublist (ms.map fun m=>m.ID.toNat)
 | [],l=>by rw[vents] <;> simp
 | m::ms,[]=>by rw[vents] <;> simp
 | m::ms,v::l=>by
  rw[vents];split
  . exact(qB (ms:=ms) (l:=l)).cons _
  . exact(qB (ms:=ms) (l:=l)).cons₂ _
theorem Gk{ms:List aj}{l:List ab}(hm:MAsc ms):(vents ts ms l).Pairwise (fun a b=>a.id < b.id):=by
 have h1:(ms.map fun m=>m.ID.toNat).Pairwise (· < ·):=List.pairwise_map.2 (hm.1.imp_of_mem fun {a b} ha hb h=>by
  have:=hm.2 a ha;unfold I1000 at this
  omega)
 exact List.pairwise_map.1 (h1.sublist qB)
theorem E7{t:Int}{v:ab}(h:(ts.getD t.toNat ap).Kind=5)(hr:v.Rest=[])(hm:MAsc (ts.getD t.toNat ap).Members):vpay ts t v=(vents ts (ts.getD t.toNat ap).Members v.Items).flatMap Fd.text:=by
 rw[vpay5 h];have hro:dH (ts.getD t.toNat ap).Members v.Rest:=by rw[hr];exact⟨.nil,fun x hx=>by cases hx⟩
 congr 1
 have e:dm ts (ts.getD t.toNat ap).Members v.Items v.Rest=vents ts (ts.getD t.toNat ap).Members v.Items:=by
  unfold dm;rw[hr,List.map_nil,List.append_nil]
 rw[<-e];refine xF (GZ (pA hm hro) (Gg hm hro)) ?_ fun y=>(ib ltF _).mem_iff
 rw[e];exact Gk hm
def Mp(ts:List ae)(t:Int)(v:ab):Prop:=cQ ((⟨ts⟩:av),t,v)=some (vpay ts t v)
theorem mp_l0 {ms : List aj} {v : ab} (hm : ∀ m, m ∈ ms -> I1000 m.ID) (hl : v.Items.length = ms.length) (hM : ms.length <= 1000) (hv : ∀ y, y ∈ v.Items -> OkV y) (hs : ∀ i, i < ms.length -> Sm ts (ms.getD i ag).Type_ (v.Items.getD i af) /\ Mp ts (ms.getD i ag).Type_ (v.Items.getD i af)) (hw : ∀ y, y ∈ v.Items -> wt y <= 3000):
 ∀(k i:Nat) (acc:List UInt8),i+k=ms.length->acc.length<=i*4000->
 fU (acc,ms,(ms.length:Int),(i:Int),ts,v)=some (acc++(vents ts (ms.drop i) (v.Items.drop i)).flatMap Fd.text)
 | 0,i,acc,hi,ha=>by
  rw[fU,if_neg (by simp;omega),List.drop_eq_nil_of_le (by omega:ms.length<=i),vents]
  . simp
  . intros;simp_all
 | k+1,i,acc,hi,ha=>by
  have hlt:i < ms.length:=by omega
  have hlt2:i < v.Items.length:=by omega
  have hmem:=aB hlt2 af;rw[fU,if_pos (by simp;omega),if_pos (au hlt)];simp only[oZ4,oZ3,az,ab.aA,dz];rw[if_pos (au hlt2),n0 (hv _ hmem),bk hlt ag,bk hlt2 af,vents];obtain⟨h1,h2⟩:=hs i hlt;have hww:=hw _ hmem;unfold Sm at h1;unfold Mp at h2;have rc:=fun acc=>mp_l0 hm hl hM hv hs hw k (i+1) acc (by omega)
  cases ho:om (ms.getD i ag) (v.Items.getD i af)with
  | true=>
   simp only[oZ3,Bool.not_true,Bool.false_eq_true,if_false,if_true];rw[aE (by omega),rc acc (by omega)]
  | false=>
   simp only[oZ3,Bool.not_false,if_true,Bool.false_eq_true,if_false];rw[if_pos (au hlt2),h2];simp only[oZ3];rw[Gj (hm _ (aB hlt ag)) (by omega)];simp only[oZ3];have hid:=hm _ (aB hlt ag);unfold I1000 at hid;have a1:=jE (p:=vpay ts (ms.getD i ag).Type_ (v.Items.getD i af)) (by omega)
   have a2:=vput2 (n:=2*(ms.getD i ag).ID.toNat+(if(ms.getD i ag).Critical then 1 else 0)) (by split <;> omega);have hlen:(dG (ms.getD i ag).ID.toNat (ms.getD i ag).Critical (vpay ts (ms.getD i ag).Type_ (v.Items.getD i af))).length<=4000:=by
    unfold dG;rw[List.length_append];omega
   rw[if_pos (bm (by omega)),aE (by omega),rc _ (by rw[List.length_append];omega),List.append_assoc];rfl
theorem mp_l2 {x : ae} {v : ab} (h8 : ¬ x.Kind = 8) (hl : v.Items.length <= 3000) (hs : ∀ y, y ∈ v.Items -> (vpay ts x.Elem y).length <= 3000 /\ Mp ts x.Elem y):
 ∀(k i:Nat) (acc:List UInt8),i+k=v.Items.length->acc.length<=i*4000->
 cO (acc,v.Items,(v.Items.length:Int),(i:Int),ts,v,x)=some (acc++(vpays ts x.Elem (v.Items.drop i)).flatMap bH)
 | 0,i,acc,hi,ha=>by
  rw[cO,if_neg (by simp;omega),List.drop_eq_nil_of_le (by omega:v.Items.length<=i),vpays];simp
 | k+1,i,acc,hi,ha=>by
  have hlt:i < v.Items.length:=by omega
  obtain⟨h1,h2⟩:=hs _ (aB hlt af);unfold Mp at h2;rw[cO,if_pos (by simp;omega),if_pos (au hlt)];simp only[oZ4,oZ3,az,ab.aA];have a1:=jE (p:=vpay ts x.Elem (v.Items.getD i af)) (by omega);rw[if_neg (by simp[h8]),h2];simp only[oZ3];rw[qS (by omega)];simp only[oZ3]
  rw[if_pos (bm (by omega)),aE (by omega),mp_l2 h8 hl hs k (i+1) _ (by omega) (by rw[List.length_append];omega),bk hlt af,vpays,List.flatMap_cons,List.append_assoc]
theorem zz {x : ae} {v : ab} (h8 : x.Kind = 8) (hkl : v.Items.length = v.Keys.length) (hl : v.Items.length <= 3000) (hs : ∀ y, y ∈ v.Items -> (vpay ts x.Elem y).length <= 3000 /\ Mp ts x.Elem y) (hk : ∀ y, y ∈ v.Keys -> (vpay ts x.Key y).length <= 3000 /\ Mp ts x.Key y):
 ∀(k i:Nat) (acc:List UInt8),i+k=v.Items.length->acc.length<=i*8000->
 cO (acc,v.Items,(v.Items.length:Int),(i:Int),ts,v,x)=some (acc++ilv (vpays ts x.Key (v.Keys.drop i)) (vpays ts x.Elem (v.Items.drop i)))
 | 0,i,acc,hi,ha=>by
  rw[cO,if_neg (by simp;omega),List.drop_eq_nil_of_le (by omega:v.Items.length<=i),List.drop_eq_nil_of_le (by omega:v.Keys.length<=i),vpays,vpays,ilv]
  . simp
  . intros;simp_all
 | k+1,i,acc,hi,ha=>by
  have hlt:i < v.Items.length:=by omega
  have hlt2:i < v.Keys.length:=by omega
  obtain⟨h1,h2⟩:=hs _ (aB hlt af);obtain⟨h3,h4⟩:=hk _ (aB hlt2 af);unfold Mp at h2 h4;rw[cO,if_pos (by simp;omega),if_pos (au hlt)];simp only[oZ4,oZ3,az,ab.aA];have a1:=jE (p:=vpay ts x.Elem (v.Items.getD i af)) (by omega);have a2:=jE (p:=vpay ts x.Key (v.Keys.getD i af)) (by omega);rw[if_pos (by simp[h8]),if_pos (au hlt2),h4]
  simp only[oZ3];rw[qS (by omega)];simp only[oZ3];rw[if_pos (bm (by omega)),h2];simp only[oZ3];rw[qS (by omega)];simp only[oZ3]
  rw[if_pos (bm (by rw[List.length_append];omega)),aE (by omega),zz h8 hkl hl hs hk k (i+1) _ (by omega) (by rw[List.length_append,List.length_append];omega),bk hlt af,bk hlt2 af,vpays,vpays,ilv,List.append_assoc,List.append_assoc]
theorem G9(H:SOk ts){v:ab}(hv:OkV v){t:Int}(hf:vfit ts true t v)(k4:v.Kind<=4):da (t,v,1,ts,0)=some (vpay ts t v,ts,1):=by
 obtain⟨⟨g1,g2,g3,_⟩,hc⟩:=(cn _ _ _).1 hf;have n2:I64 v.Int_:=by cases hv with | mk _ _ _ _ _ _ _ _ _ n2 _ _=>exact n2
 obtain⟨j,rfl⟩:∃j:Nat,t=(j:Int):=⟨t.toNat,by omega⟩
 have hj:j < ts.length:=by omega
 have hmem:=aB hj ap;have hv1:=@vpay1 ts (j:Int) v;have hv2:=@vpay2 ts (j:Int) v;have hv3:=@vpay3 ts (j:Int) v;have hv4:=@vpay4 ts (j:Int) v;rw[da];simp only[oZ4,oZ3];rw[if_pos (au hj),show maxI 0 1=1 by decide];simp only[az,ab.aA]at g3 hc hv1 hv2 hv3 hv4 ⊢;generalize ts.getD j ap=x at*;rcases hc with h | h | h | h | h | h | h | h | h
 . rw[if_pos (decide_eq_true (by omega)),hv1 (by omega)];cases v.Bool_ <;> rfl
 . rw[if_neg (mt of_decide_eq_true (by omega)),if_pos (decide_eq_true (by omega)),hv2 (by omega),rV n2];simp only[oZ3];have hz:=rW n2;obtain⟨n,hn⟩:∃n:Nat,zig v.Int_=(n:Int):=⟨(zig v.Int_).toNat,by unfold zig;split <;> omega⟩
   rw[hn,az]at hz;rw[hn,zm hz];rfl
 . rw[if_neg (mt of_decide_eq_true (by omega)),if_neg (mt of_decide_eq_true (by omega)),if_pos (decide_eq_true (by omega)),hv3 (by omega)]
 . obtain⟨n,hn,hl⟩:∃n:Nat,v.ID=(n:Int)/\n<=1000:=by
    rcases h.2.2.2.2.2.2.2 with⟨y,y1,y2⟩ | ⟨_,h,_⟩
    . have:=H.S x hmem (by omega) y y1;unfold I1000 at this;exact⟨v.ID.toNat,by omega,by omega⟩
    . cases h
   rw[if_neg (mt of_decide_eq_true (by omega)),if_neg (mt of_decide_eq_true (by omega)),if_neg (mt of_decide_eq_true (by omega)),if_pos (decide_eq_true (by omega)),hv4 (by omega),hn,wrpn (by omega),zm (by omega),az];rfl
 all_goals omega
theorem HN(H:DrOk ts){t:Int}{v:ab}(hv:OkV v)(hf:vfit ts true t v)(hs:Sm ts t v)(hw:wt v<=3000)(k4:v.Kind<=4):kG ((⟨ts⟩:av),t,v)=some (vpay ts t v,0):=by
 unfold Sm at hs;rw[kG];simp only[ab.aA];rw[Di H.T H.V hv (vfit_weak _ _ hf)];simp only[oZ4,oZ3];rw[if_neg (by simp),G9 (H.V.sok H.T) hv hf k4];simp only[oZ3];have c1:¬(4096:Int) < ((vpay ts t v).length:Int):=by omega
 rw[if_neg (by simp[c1])]
theorem zA(H:DrOk ts){v:ab}(hv:OkV v):∀t,vfit ts true t v->wt v<=3000->Mp ts t v:=by
 have HS:=H.V.sok H.T;have hv':=hv
 induction hv with
 | mk v hs h1 h2 h3 hk hi hrd n1 n2 n3 n4 ihk ihi=>
  intro t hf hw;have hsm:=lm H hv' t hf hw;obtain⟨⟨g1,g2,g3,g4⟩,hc⟩:=(cn _ _ _).1 hf;obtain⟨j,rfl⟩:∃j:Nat,t=(j:Int):=⟨t.toNat,by omega⟩
  have hj:j < ts.length:=by omega
  have hmem:=aB hj ap;have hR:=g4 rfl;have hwt:=wt_eq v;have lk:∀y,y∈v.Keys->wt y<=3000:=fun y hy=>by have:=bK hy;omega
  have li:∀y,y∈v.Items->wt y<=3000:=fun y hy=>by have:=bK hy;omega
  have both:∀t y,y∈v.Items->vfit ts true t y->Sm ts t y/\Mp ts t y:=fun t y hy hf=>⟨lm H (hi y hy) t hf (li y hy),ihi y hy (hi y hy) t hf (li y hy)⟩
  have bot:∀t y,y∈v.Keys->vfit ts true t y->(vpay ts t y).length<=3000/\Mp ts t y:=fun t y hy hf=>⟨by have:=lm H (hk y hy) t hf (lk y hy);unfold Sm at this;have:=lk y hy;omega,ihk y hy (hk y hy) t hf (lk y hy)⟩
  have boi:∀t y,y∈v.Items->vfit ts true t y->(vpay ts t y).length<=3000/\Mp ts t y:=fun t y hy hf=>⟨by have:=(both t y hy hf).1;unfold Sm at this;have:=li y hy;omega,(both t y hy hf).2⟩
  have nk:=wts_len' v.Keys;have ni:=wts_len' v.Items;have leaf:=HN H hv' hf hsm hw;unfold Mp;rw[cQ,if_pos (au hj)];simp only[oZ4,oZ3,ab.aA];rw[az]at*;rcases hc with h | h | h | h | h | h | h | h | h
  . rw[if_neg (mt of_decide_eq_true (by omega)),if_neg (mt of_decide_eq_true (by omega)),if_neg (mt of_decide_eq_true (by omega)),if_neg (mt of_decide_eq_true (by omega)),if_neg (mt of_decide_eq_true (by omega)),leaf (by omega)];rfl
  . rw[if_neg (mt of_decide_eq_true (by omega)),if_neg (mt of_decide_eq_true (by omega)),if_neg (mt of_decide_eq_true (by omega)),if_neg (mt of_decide_eq_true (by omega)),if_neg (mt of_decide_eq_true (by omega)),leaf (by omega)];rfl
  . rw[if_neg (mt of_decide_eq_true (by omega)),if_neg (mt of_decide_eq_true (by omega)),if_neg (mt of_decide_eq_true (by omega)),if_neg (mt of_decide_eq_true (by omega)),if_neg (mt of_decide_eq_true (by omega)),leaf (by omega)];rfl
  . rw[if_neg (mt of_decide_eq_true (by omega)),if_neg (mt of_decide_eq_true (by omega)),if_neg (mt of_decide_eq_true (by omega)),if_neg (mt of_decide_eq_true (by omega)),if_neg (mt of_decide_eq_true (by omega)),leaf (by omega)];rfl
  . obtain⟨a1,a2,a3,a4,a5,a6,a7,a8⟩:=h;obtain⟨m1,m2⟩:=HS.A _ hmem (.inl (by omega));obtain⟨f1,f2⟩:=dB.1 a8;have h0:=mp_l0 (ts:=ts) (ms:=(ts.getD j ap).Members) (v:=v) m1.2 f1 (by omega) hi (fun i hi'=>both _ _ (aB (by omega) af) (f2 i hi')) li (ts.getD j ap).Members.length 0 [] (by omega) (by simp)
    have h0':fU ([],(ts.getD j ap).Members,((ts.getD j ap).Members.length:Int),0,ts,v)=_:=h0;rw[if_pos (decide_eq_true (by omega)),h0'];rw[E7 (by rw[az];omega) hR (by rw[az];exact m1),az];rfl
  . obtain⟨a1,a2,a3,a4,a5,a6⟩:=h;obtain⟨m1,m2⟩:=HS.A _ hmem (.inr (by omega));cases hF:findM (ts.getD j ap).Members v.ID with
    | none=>rw[hF]at a6;cases a6.2.1
    | some m=>
     rw[hF]at a6;obtain⟨b1,b2,b3⟩:=a6;obtain⟨d3,d4⟩:=gr hF;obtain⟨q,q1,q2,q3⟩:=member_find' m1 (by omega) hF;have hid:=m1.2 m d3;unfold I1000 at hid;have hy:=aB (by omega:0 < v.Items.length) af;obtain⟨z1,z2⟩:=boi m.Type_ _ hy (aW.1 b3 _ hy);unfold Mp at z2;obtain⟨n,hn⟩:∃n:Nat,v.ID=(n:Int):=⟨v.ID.toNat,by omega⟩
     have:=vput2 (n:=n) (by omega);rw[if_neg (mt of_decide_eq_true (by omega)),if_pos (decide_eq_true (by omega)),q2];simp only[oZ3];rw[hn,wrpn (by omega),l8 (by omega)];simp only[oZ3];rw[if_pos (au q1),if_pos (by rw[b2];rfl),az,q3,show(0:Int).toNat=0 from rfl,z2];simp only[oZ3]
     rw[if_pos (bm (by omega)),vpay6 (t:=(j:Int)) (v:=v) (by rw[az];omega),az,hF,hn,az];have hq:vpays ts m.Type_ v.Items=[vpay ts m.Type_ (v.Items.getD 0 af)]:=by
      match hv:v.Items,b2 with
      | [a],_=>rw[vpays,vpays];rfl
     show _=some (_++(vpays ts m.Type_ v.Items).headD []);rw[hq];rfl
  . obtain⟨a1,a2,a3,a4,a5,a6,a7,a8,a9⟩:=h;have h0:=mp_l2 (ts:=ts) (x:=ts.getD j ap) (v:=v) (by omega) (by omega) (fun y hy=>boi _ y hy (aW.1 a9 y hy)) v.Items.length 0 [] (by omega) (by simp);have h0':cO ([],v.Items,(v.Items.length:Int),0,ts,v,ts.getD j ap)=_:=h0
    rw[if_neg (mt of_decide_eq_true (by omega)),if_neg (mt of_decide_eq_true (by omega)),if_neg (mt of_decide_eq_true (by omega)),if_pos (decide_eq_true (by omega)),if_pos (decide_eq_true (by omega)),h0',vpay7 (by rw[az];omega),az];rfl
  . obtain⟨a1,a2,a3,a4,a5,a6,a7,a8,a9,a10,a11⟩:=h;have h0:=zz (ts:=ts) (x:=ts.getD j ap) (v:=v) (by omega) a8 (by omega) (fun y hy=>boi _ y hy (aW.1 a10 y hy)) (fun y hy=>bot _ y hy (aW.1 a9 y hy)) v.Items.length 0 [] (by omega) (by simp);have h0':cO ([],v.Items,(v.Items.length:Int),0,ts,v,ts.getD j ap)=_:=h0
    rw[if_neg (mt of_decide_eq_true (by omega)),if_neg (mt of_decide_eq_true (by omega)),if_neg (mt of_decide_eq_true (by omega)),if_neg (mt of_decide_eq_true (by omega)),if_pos (decide_eq_true (by omega)),h0',vpay8 (by rw[az];omega),az];rfl
  . obtain⟨a1,a2,a3,a4,a5,a6,a7,a8,a9⟩:=h;rw[if_neg (mt of_decide_eq_true (by omega)),if_neg (mt of_decide_eq_true (by omega)),if_pos (decide_eq_true (by omega)),vpay9 (by rw[az];omega),az]
    match hI:v.Items,a8 with
    | [],_=>
     rw[iW,if_neg (by simp),vpays];rfl
    | [a],_=>
     obtain⟨z1,z2⟩:=boi (ts.getD j ap).Elem a (by rw[hI];exact .head _) (aW.1 a9 a (by rw[hI];exact .head _));unfold Mp at z2;rw[iW,if_pos (by simp),if_pos (show inR 0 [a].length=true from rfl)];simp only[ab.aA];rw[show[a].getD (Int.toNat 0) af=a from rfl,z2];simp only[oZ4,oZ3]
     rw[if_pos (bm (by show 1+(vpay ts (ts.getD j ap).Elem a).length<=_;omega)),show addI .i64 0 1=1 from by decide,iW,if_neg (show ¬decide ((1:Int) < ([a].length:Int))=true from by simp),vpays,vpays];rfl
end
theorem vR {a0 a2 a4 z0 z2 z4 : Int} {a1 z1 : Bool} {a3 z3 : List UInt8} {l l2 : List ab} {r : List aG} (hl : l.length <= 1000000000) (h : ∀ y, y ∈ l -> cj y = some y): ∀ (k i : Nat), i + k = l.length ->
 gN ((l.length:Int),(i:Int),a0,a1,a2,a3,a4,z0,z1,z2,z3,z4,l,l2,r)=some (a0,a1,a2,a3,a4,z0,z1,z2,z3,z4,l,l2,r)
 | 0,i,hi=>by rw[gN,if_neg (by simp;omega)]
 | k+1,i,hi=>by
  have hlt:i < l.length:=by omega
  rw[gN,if_pos (by simp;omega),if_pos (au hlt),az,if_pos (by simp;omega)];simp only[ab.aA];rw[h _ (aB hlt af)];simp only[oZ4,oZ3,ab.aA];rw[if_pos (au hlt),if_pos (by simp;omega),aE (by omega),xE hlt];exact vR hl h k (i+1) (by omega)
theorem vS {a0 a2 a4 z0 z2 z4 : Int} {a1 z1 : Bool} {a3 z3 : List UInt8} {l l2 : List ab} {r : List aG} (hl : l.length <= 1000000000) (h : ∀ y, y ∈ l -> cj y = some y): ∀ (k i : Nat), i + k = l.length ->
 gO ((l.length:Int),(i:Int),a0,a1,a2,a3,a4,z0,z1,z2,z3,z4,l,l2,r)=some (a0,a1,a2,a3,a4,z0,z1,z2,z3,z4,l2,l,r)
 | 0,i,hi=>by rw[gO,if_neg (by simp;omega)]
 | k+1,i,hi=>by
  have hlt:i < l.length:=by omega
  rw[gO,if_pos (by simp;omega),if_pos (au hlt),az,if_pos (by simp;omega)];simp only[ab.aA];rw[h _ (aB hlt af)];simp only[oZ4,oZ3,ab.aA];rw[if_pos (au hlt),if_pos (by simp;omega),aE (by omega),xE hlt];exact vS hl h k (i+1) (by omega)
theorem E9{v:ab}(hv:OkV v):wt v<=1000000000->cj v=some v:=by
 induction hv with
 | mk v hs h1 h2 h3 hk hi hrd n1 n2 n3 n4 ihk ihi=>
  intro hw;have hwt:=wt_eq v;have l1:=wts_len' v.Keys;have l2:=wts_len' v.Items;have l3:=G6 v.Rest;have kk:∀y,y∈v.Keys->cj y=some y:=fun y hy=>ihk y hy (by have:=bK hy;omega)
  have ki:∀y,y∈v.Items->cj y=some y:=fun y hy=>ihi y hy (by have:=bK hy;omega)
  have c1:ca 120 v.Keys=some v.Keys:=by unfold ca;rw[if_pos (r6 (by omega) (by omega))]
  have c2:ca 120 v.Items=some v.Items:=by unfold ca;rw[if_pos (r6 (by omega) (by omega))]
  have c3:ca 24 v.Rest=some v.Rest:=by unfold ca;rw[if_pos (r6 (by omega) (by omega))]
  have L0:=vR (a0:=v.Kind) (a1:=v.Bool_) (a2:=v.Int_) (a3:=v.Str) (a4:=v.ID) (z0:=0) (z1:=false) (z2:=0) (z3:=[]) (z4:=0) (l:=v.Keys) (l2:=v.Items) (r:=v.Rest) (by omega) kk v.Keys.length 0 (by omega)
  have L1:=vS (a0:=v.Kind) (a1:=v.Bool_) (a2:=v.Int_) (a3:=v.Str) (a4:=v.ID) (z0:=0) (z1:=false) (z2:=0) (z3:=[]) (z4:=0) (l:=v.Items) (l2:=v.Keys) (r:=v.Rest) (by omega) ki v.Items.length 0 (by omega);have L0':gN ((v.Keys.length:Int),0,v.Kind,v.Bool_,v.Int_,v.Str,v.ID,0,false,0,[],0,v.Keys,v.Items,v.Rest)=_:=L0
  have L1':gO ((v.Items.length:Int),0,v.Kind,v.Bool_,v.Int_,v.Str,v.ID,0,false,0,[],0,v.Items,v.Keys,v.Rest)=_:=L1;rw[cj,c1,c2,c3];simp only[oZ4,oZ3];rw[L0'];simp only[oZ3];rw[L1'];simp only[oZ3];cases v;rfl
theorem pfail{tw tr:List ae}{path:List Int}(hp:path.length<=90000)(mis:List Int):dX (tw,tr,mis,path)=some ((⟨0,false,0,[],0,[],[],[]⟩:ab),false,tw,tr,path,path):=by
 rw[dX];unfold lS ca;rw[if_pos (aX (by omega) (by omega))];simp
theorem oq{tw tr:List ae}{path:List Int}(hp:path.length<=90000)(id:Int)(mis:List Int):iR (id,tw,tr,mis,path)=some ((⟨0,false,0,[],0,[],[],[]⟩:ab),false,tw,tr,path,path++[id]):=by
 rw[iR];unfold lS ca;rw[if_pos (aX (by omega) (by omega))];simp only[Option.map_some,oZ4,oZ3];rw[if_pos (by simp),if_pos (aX (by omega) (by simp;omega))]
theorem ot{x:ae}(hl:x.Members.length<=1000)(id:Int):bR (x,id)=some (fIr x.Members id):=by
 obtain⟨r,r1,r2⟩:=po (t:=x) (id:=id) (by omega);rw[r1,qc r2 (wK _ _)]
section
variable {tw tr:List ae}
def RI(tw tr:List ae)(mis path:List Int):ab ⊕ List Int->ab×Bool×List ae×List ae×List Int×List Int
 | .inl u=>(u,true,tw,tr,mis,path)
 | .inr p=>(⟨0,false,0,[],0,[],[],[]⟩,false,tw,tr,p,path)
def PL(tw tr:List ae)(mis path:List Int)(acc:List ab):List ab ⊕ List Int->(Bool×List ae×List ae×List Int×List Int) ⊕ (List ae×List ae×List Int×List ab×List Int)
 | .inl us=>.inr (tw,tr,mis,acc++us,path)
 | .inr p=>.inl (false,tw,tr,p,path)
def PI(tw tr:List ae)(mis path:List Int):List ab ⊕ List Int->List ab×Bool×List ae×List ae×List Int×List Int
 | .inl us=>(us,true,tw,tr,mis,path)
 | .inr p=>([],false,tw,tr,p,path)
def Part(tw tr:List ae)(f:Rdr)(path:List Int)(t rt:Int)(v:ab):Prop:=∀(step:Int) (mis:List Int),fW (step,t,v,rt,tw,tr,mis,path)=some (RI tw tr mis path (f t v rt (path++[step])))
theorem xH{t rt step:Int}{v:ab}{mis path:List Int}{o:ab ⊕ List Int}(hp:path.length<=90000)(h:fX (t,v,rt,tw,tr,mis,path++[step])=some (RI tw tr mis (path++[step]) o)):fW (step,t,v,rt,tw,tr,mis,path)=some (RI tw tr mis path o):=by
 rw[fW];simp only[oZ4,oZ3,ab.aA];rw[if_pos (aX (by omega) (by simp;omega)),h];have e1:subI .i64 ((path++[step]).length:Int) 1=(path.length:Int):=by
  rw[cX (by simp <;> omega) (by simp <;> omega)];simp
 have e2:slR 0 (path.length:Int) (path++[step]).length=true:=cD.2 (by simp;omega);cases o with
 | inl u=>
  simp only[oZ3,ab.aA,RI];rw[e1,if_pos e2,if_pos (by simp),az];simp
 | inr p=>
  simp only[oZ3,ab.aA,RI];rw[e1,if_pos e2,if_pos (by simp),az];simp
theorem uf {f : Rdr} {path : List Int} {t rt : Int} {l : List ab} (hl : l.length <= 50000) (h : ∀ y, y ∈ l -> Part tw tr f path t rt y): ∀ (k i : Nat) (acc : List ab) (mis : List Int), i + k = l.length -> acc.length <= i ->
 gF (t,rt,l,(l.length:Int),(i:Int),tw,tr,mis,acc,path)=some (PL tw tr mis path acc (aV f path t rt i (l.drop i)))
 | 0,i,acc,mis,hi,ha=>by
  rw[gF,if_neg (by simp;omega),List.drop_eq_nil_of_le (by omega:l.length<=i)];simp[aV,PL]
 | k+1,i,acc,mis,hi,ha=>by
  have hlt:i < l.length:=by omega
  rw[gF,if_pos (by simp;omega),if_pos (au hlt),az];simp only[ab.aA];rw[h _ (aB hlt af),bk hlt af,aV];cases f t (l.getD i af) rt (path++[(i:Int)])with
  | inr p=>rfl
  | inl u=>
   simp only[oZ4,oZ3,RI,Bool.not_true,ab.aA];rw[if_neg (by simp),if_pos (aX (by omega) (by simp;omega)),aE (by omega),uf hl h k (i+1) _ mis (by omega) (by simp;omega)];cases aV f path t rt (i+1) (l.drop (i+1))with
   | inr p=>rfl
   | inl us=>simp[PL,consR]
theorem lq {f : Rdr} {path : List Int} {t rt : Int} {l : List ab} (hl : l.length <= 50000) (h : ∀ y, y ∈ l -> Part tw tr f path t rt y) (mis : List Int):
 bl (t,l,rt,tw,tr,mis,path)=some (PI tw tr mis path (aV f path t rt 0 l)):=by
 have h0:=uf hl h l.length 0 [] mis (by omega) (by simp);have h0':gF (t,rt,l,(l.length:Int),0,tw,tr,mis,[],path)=_:=h0;rw[bl,h0',List.drop_zero];cases aV f path t rt 0 l with
 | inr p=>rfl
 | inl us=>rfl
def RL(tw tr:List ae)(mis path:List Int)(x:ae)(v:ab)(y:ae)(acc:List ab):List ab ⊕ List Int->(Bool×List ae×List ae×List Int×ab×List Int) ⊕ (List ae×List ae×List Int×ae×ab×ae×Int×Bool×Int×List UInt8×Int×Int×Bool×Int×List UInt8×Int×List Int×List ab)
 | .inl us=>.inr (tw,tr,mis,x,v,y,0,false,0,[],0,v.Kind,false,0,[],0,path,acc++us)
 | .inr p=>.inl (false,tw,tr,p,⟨0,false,0,[],0,[],[],[]⟩,path)
theorem xI {f : Rdr} {path : List Int} (hp : path.length <= 90000) {x y : ae} {v : ab} (hx : x.Members.length <= 1000) (hy : y.Members.length <= 1000) (hl : v.Items.length = x.Members.length) (hv : ∀ q, q ∈ v.Items -> OkV q)
 (hd:∀n,n∈y.Members->n.HasDefault=true->cj n.Default=some n.Default)
 (h:∀i,i < x.Members.length->∀n,n∈y.Members->Part tw tr f path (x.Members.getD i ag).Type_ n.Type_ (v.Items.getD i af)/\∀p u,f (x.Members.getD i ag).Type_ (v.Items.getD i af) n.Type_ p= .inl u->OkV u):∀(k j:Nat) (acc:List ab) (mis:List Int),j+k=y.Members.length->acc.length<=j->
 eG (y.Members,(y.Members.length:Int),(j:Int),tw,tr,mis,x,v,y,0,false,0,[],0,v.Kind,false,0,[],0,path,acc)=some (RL tw tr mis path x v y acc (rmems f x v path (y.Members.drop j)))
 | 0,j,acc,mis,hj,ha=>by
  rw[eG,if_neg (by simp;omega),List.drop_eq_nil_of_le (by omega:y.Members.length<=j)];simp[rmems,RL,ab.aA]
 | k+1,j,acc,mis,hj,ha=>by
  have hlt:j < y.Members.length:=by omega
  have hmy:=aB hlt ag;have rc:=fun acc mis=>xI hp hx hy hl hv hd h k (j+1) acc mis (by omega)
  rw[eG,if_pos (by simp;omega),if_pos (au hlt),az];simp only[oZ4,oZ3,ab.aA,dz];rw[ot hx,bk hlt ag,rmems];unfold rmem fIr;generalize hn:y.Members.getD j ag=n at*;cases hF:fI x.Members n.ID with
  | none=>
   simp only[oZ3,Bool.not_false];rw[if_pos trivial];cases hdn:n.HasDefault with
   | false=>
    simp only[Bool.not_false];rw[if_pos trivial,oq hp];simp only[oZ3,ab.aA];rw[if_neg (by simp)];rfl
   | true=>
    simp only[Bool.not_true];rw[if_neg (by simp),hd n hmy hdn];simp only[oZ3];rw[if_pos (aX (by omega) (by simp;omega)),aE (by omega),rc _ _ (by simp;omega),if_pos trivial];cases rmems f x v path (y.Members.drop (j+1))with
    | inr p=>rfl
    | inl us=>simp[RL,consR]
  | some i=>
   obtain⟨i1,_,_⟩:=co hF;have i2:i < v.Items.length:=by omega
   obtain⟨p1,p2⟩:=h i i1 n hmy;simp only[oZ3,Bool.not_true];rw[if_neg (by simp),if_pos (au i1),if_pos (au i2),az,p1 n.ID mis];have hom:=n0 (m:=x.Members.getD i ag) (hv _ (aB i2 af));cases hc:f (x.Members.getD i ag).Type_ (v.Items.getD i af) n.Type_ (path++[n.ID])with
   | inr p=>
    simp only[oZ3,RI,ab.aA,Bool.not_false,Bool.not_true,Bool.and_false];rw[if_pos (au i1),if_pos (au i2),hom];simp only[oZ3,Bool.false_eq_true,if_false];rw[rl];generalize om (x.Members.getD i ag) (v.Items.getD i af)=b at*;cases b with
    | false=>rfl
    | true=>
     simp only[cond_true];rw[if_pos trivial,oq hp];rfl
   | inl u=>
    have hu:=n0 (m:=n) (p2 _ u hc);simp only[oZ3,RI,ab.aA,Bool.not_false,Bool.not_true,Bool.and_true];rw[if_pos (au i1),if_pos (au i2),hom];simp only[oZ3,Bool.false_eq_true,if_false];rw[rn];generalize om (x.Members.getD i ag) (v.Items.getD i af)=b at*
    have tail:(some [u] >>=fun t110=>if room 120 (acc++t110).length=true then eG (y.Members,(y.Members.length:Int),addI .i64 (j:Int) 1,tw,tr,mis,x,v,y,0,false,0,[],0,v.Kind,false,0,[],0,path,acc++t110)else none)=some (RL tw tr mis path x v y acc (consR (.inl u) (rmems f x v path (y.Members.drop (j+1))))):=by
     simp only[oZ4,oZ3];rw[if_pos (aX (by omega) (by simp;omega)),aE (by omega),rc _ _ (by simp;omega)];cases rmems f x v path (y.Members.drop (j+1))with
     | inr p=>rfl
     | inl us=>simp[RL,consR]
    cases b with
    | false=>
     simp only[Bool.false_eq_true,if_false,oZ3,cond_false,false_and];exact tail
    | true=>
     rw[if_pos rfl,hu];cases hb:om n u with
     | true=>
      simp only[Bool.false_eq_true,if_false,oZ3,cond_false,cond_true,Bool.not_true,and_false,Bool.true_eq_false];exact tail
     | false=>
      simp only[oZ3,cond_true,cond_false,Bool.not_false,and_self,if_true];rw[oq hp];rfl
def RL1(tw tr:List ae)(mis path:List Int)(v:ab)(its:List ab)(acc:List aG):List aG ⊕ List Int->(Bool×List ae×List ae×ab×List Int×List Int) ⊕ (List ae×List ae×List Int×Int×Bool×Int×List UInt8×Int×Int×Bool×Int×List UInt8×Int×List Int×List ab×List aG)
 | .inl rs=>.inr (tw,tr,mis,0,false,0,[],0,v.Kind,false,0,[],0,path,its,acc++rs)
 | .inr p=>.inl (false,tw,tr,⟨0,false,0,[],0,[],[],[]⟩,path,p)
theorem xK {path : List Int} (hp : path.length <= 90000) {x y : ae} {v : ab} (hx : x.Members.length <= 1000) (hy : y.Members.length <= 1000) (hl : v.Items.length = x.Members.length) (hv : ∀ q, q ∈ v.Items -> OkV q)
 (h:∀i,i < x.Members.length->Mp tw (x.Members.getD i ag).Type_ (v.Items.getD i af)) {its:List ab} (mis:List Int):∀(k i:Nat) (acc:List aG),i+k=x.Members.length->acc.length<=i->
 dM (x.Members,(x.Members.length:Int),(i:Int),tw,tr,mis,v,y,0,false,0,[],0,v.Kind,false,0,[],0,path,its,acc)=some (RL1 tw tr mis path v its acc (rrest tw y path (x.Members.drop i) (v.Items.drop i)))
 | 0,i,acc,hi,ha=>by
  rw[dM,if_neg (by simp;omega),List.drop_eq_nil_of_le (by omega:x.Members.length<=i),rrest]
  . simp[RL1]
  . intros;simp_all
 | k+1,i,acc,hi,ha=>by
  have hlt:i < x.Members.length:=by omega
  have hlt2:i < v.Items.length:=by omega
  have rc:=fun acc=>xK hp hx hy hl hv h (its:=its) mis k (i+1) acc (by omega)
  rw[dM,if_pos (by simp;omega),if_pos (au hlt),az];simp only[oZ4,oZ3,ab.aA,dz];rw[ot hy,bk hlt ag,bk hlt2 af,rrest];have hs:=jD y.Members (x.Members.getD i ag).ID;have hk:(fIr y.Members (x.Members.getD i ag).ID).2=(findM y.Members (x.Members.getD i ag).ID).isSome:=by
   rw[<-hs];unfold fIr;cases fI y.Members (x.Members.getD i ag).ID <;> rfl
  simp only[oZ3];rw[hk];by_cases c1:(findM y.Members (x.Members.getD i ag).ID).isSome=true
  . rw[if_pos c1,if_pos c1,aE (by omega),rc _ (by omega)]
  rw[if_neg c1,if_neg c1];by_cases c2:(x.Members.getD i ag).Critical=true
  . rw[if_pos c2,if_pos c2,oq hp];rfl
  rw[if_neg c2,if_neg c2,if_pos (au hlt2),n0 (hv _ (aB hlt2 af))];simp only[oZ3];cases om (x.Members.getD i ag) (v.Items.getD i af)with
  | true=>
   rw[if_neg (by simp),if_pos rfl,aE (by omega),rc _ (by omega)]
  | false=>
   have hM:=h i hlt;unfold Mp at hM;rw[if_pos (show(!false)=true from rfl),if_neg (show ¬false=true by simp),if_pos (au hlt2),hM];simp only[oZ3];rw[if_pos (aX (by omega) (by simp;omega)),aE (by omega),rc _ (by simp;omega)];cases rrest tw y path (x.Members.drop (i+1)) (v.Items.drop (i+1))with
   | inr p=>rfl
   | inl us=>simp[RL1,consR]
end
section
variable {tw tr:List ae}
theorem Fa {f : Rdr} {path : List Int} (hp : path.length <= 90000) {x y : ae} {v : ab} (k5 : v.Kind = 5) (hx : x.Members.length <= 1000) (hy : y.Members.length <= 1000) (hl : v.Items.length = x.Members.length) (hv : ∀ q, q ∈ v.Items -> OkV q)
 (hd:∀n,n∈y.Members->n.HasDefault=true->cj n.Default=some n.Default)
 (h:∀i,i < x.Members.length->∀n,n∈y.Members->Part tw tr f path (x.Members.getD i ag).Type_ n.Type_ (v.Items.getD i af)/\∀p u,f (x.Members.getD i ag).Type_ (v.Items.getD i af) n.Type_ p= .inl u->OkV u)
 (hm:∀i,i < x.Members.length->Mp tw (x.Members.getD i ag).Type_ (v.Items.getD i af)) (mis:List Int):
 dR (x,v,y,tw,tr,mis,path)=some (RI tw tr mis path (rd5 tw f x y v path)):=by
 have h0:=xI hp hx hy hl hv hd h y.Members.length 0 [] mis (by omega) (by simp);have h0':eG (y.Members,(y.Members.length:Int),0,tw,tr,mis,x,v,y,0,false,0,[],0,v.Kind,false,0,[],0,path,[])=_:=h0;rw[dR];simp only[ab.aA];rw[h0',List.drop_zero];unfold rd5;cases rmems f x v path y.Members with
 | inr p=>rfl
 | inl its=>
  have h1:=xK (tr:=tr) hp hx hy hl hv hm (its:=its) mis x.Members.length 0 [] (by omega) (by simp);have h1':dM (x.Members,(x.Members.length:Int),0,tw,tr,mis,v,y,0,false,0,[],0,v.Kind,false,0,[],0,path,its,[])=_:=h1;simp only[oZ4,oZ3,RL,List.nil_append,ab.aA];rw[h1',List.drop_zero,List.drop_zero]
  cases rrest tw y path x.Members v.Items with
  | inr p=>rfl
  | inl r=>simp only[oZ3,RL1,List.nil_append,k5,bindR,mapR,RI]
theorem Gl {f : Rdr} {path : List Int} (hp : path.length <= 90000) {x y : ae} {v : ab} (k6 : v.Kind = 6) (hx : x.Members.length <= 1000) (hy : y.Members.length <= 1000) (h1 : v.Items.length = 1) {i : Nat} (hi : fI x.Members v.ID = some i)
 (h:∀n,n∈y.Members->Part tw tr f path (x.Members.getD i ag).Type_ n.Type_ (v.Items.getD 0 af))
 (hm:Mp tw (x.Members.getD i ag).Type_ (v.Items.getD 0 af)) (mis:List Int):
 dW (x,v,y,tw,tr,mis,path)=some (RI tw tr mis path (rd6 tw f x y v path)):=by
 obtain⟨i1,_,_⟩:=co hi;have hin:inR 0 v.Items.length=true:=by rw[h1];rfl
 rw[dW,ot hx,ot hy];unfold rd6 fIr;simp only[oZ4,oZ3,ab.aA,hi];cases hF:fI y.Members v.ID with
 | some k=>
  obtain⟨k1,_,_⟩:=co hF;simp only;rw[if_pos trivial,if_pos (au i1),if_pos hin,if_pos (au k1),az,az,show(0:Int).toNat=0 from rfl,h _ (aB k1 ag)];cases f (x.Members.getD i ag).Type_ (v.Items.getD 0 af) (y.Members.getD k ag).Type_ (path++[v.ID])with
  | inr p=>
   simp only[oZ3,RI,Bool.not_false,mapR];rw[if_pos trivial]
  | inl u=>
   simp only[oZ3,RI,Bool.not_true,mapR,ab.aA,k6];rw[if_neg (by simp)]
 | none=>
  simp only;rw[if_neg (by simp)];cases y.Open with
  | false=>
   simp only[Bool.not_false];rw[if_pos trivial,pfail hp];simp only[oZ3,ab.aA,Bool.false_eq_true,if_false,RI]
  | true=>
   unfold Mp at hm;simp only[Bool.not_true];rw[if_neg (by simp),if_pos (au i1),if_pos hin,az,show(0:Int).toNat=0 from rfl,hm];simp only[oZ3,if_true,RI,k6]
def RdI(tw tr:List ae)(n:Nat):Prop:=∀{v:ab},OkV v->wt v<=3000->wt v<=n->∀{t rt:Int} {path:List Int} (mis:List Int),vfit tw true t v->0<=rt->rt < tr.length->path.length+n<=50000->
 fX (t,v,rt,tw,tr,mis,path)=some (RI tw tr mis path (vread tw tr n t v rt path))
theorem Gm(HW:DrOk tw)(HR:DrOk tr){n:Nat}(ih:RdI tw tr n):RdI tw tr (n+1):=by
 intro v hv hw hn t rt path mis hf r0 r1 hp;have SW:=HW.V.sok HW.T;have SR:=HR.V.sok HR.T;have hwt:=wt_eq v;obtain⟨⟨g1,g2,g3,g4⟩,hc⟩:=(cn _ _ _).1 hf;obtain⟨j,rfl⟩:∃j:Nat,t=(j:Int):=⟨t.toNat,by omega⟩
 obtain⟨k,rfl⟩:∃k:Nat,rt=(k:Int):=⟨rt.toNat,by omega⟩
 have hj:j < tw.length:=by omega
 have hk':k < tr.length:=by omega
 have hmem:=aB hj ap;have hmr:=aB hk' ap;have hR:=g4 rfl;cases hv with
 | mk _ hs h1 h2 h3 hk hi hrd n1 n2 n3 n4=>
 rw[fX,if_pos (au hj),kZ];simp only[oZ4,oZ3,az,ab.aA];rw[az]at g3 hc;rw[if_pos (au hk')];have cm:∀q,q∈(tr.getD k ap).Members->q.HasDefault=true->cj q.Default=some q.Default:=fun q hq hd=>E9 ((HR.T _ hmr).dv _ hq) (by have:=HR.W _ hmr q hq hd;omega)
 generalize hx:tw.getD j ap=x at*;generalize hy:tr.getD k ap=y at*;have sI:∀y,y∈v.Items->wt y<=3000/\wt y<=n:=fun y hy=>by have:=bK hy;omega
 have sK:∀y,y∈v.Keys->wt y<=3000/\wt y<=n:=fun y hy=>by have:=bK hy;omega
 have pI:∀{t rt:Int} {q:ab},q∈v.Items->vfit tw true t q->0<=rt->rt < tr.length->Part tw tr (vread tw tr n) path t rt q:=fun {t rt q} hq hf a0 a1 step mis=>xH (by omega) (ih (hi q hq) (sI q hq).1 (sI q hq).2 mis hf a0 a1 (by simp;omega))
 have pK:∀{t rt:Int} {q:ab},q∈v.Keys->vfit tw true t q->0<=rt->rt < tr.length->Part tw tr (vread tw tr n) path t rt q:=fun {t rt q} hq hf a0 a1 step mis=>xH (by omega) (ih (hk q hq) (sK q hq).1 (sK q hq).2 mis hf a0 a1 (by simp;omega))
 have nk:=wts_len' v.Keys;have ni:=wts_len' v.Items;have F:=pfail (tw:=tw) (tr:=tr) (path:=path) (by omega) mis;by_cases hK:x.Kind=y.Kind
 . rw[if_neg (show ¬(!(decide (x.Kind=y.Kind)))=true by simp[hK])];have p0:∀{t rt:Int},v.Items=[]->bl (t,v.Items,rt,tw,tr,mis,path)=some ([],true,tw,tr,mis,path):=fun {t rt} he=>by
    have:=lq (tw:=tw) (tr:=tr) (f:=vread tw tr n) (path:=path) (t:=t) (rt:=rt) (l:=v.Items) (by omega) (fun q hq=>by rw[he]at hq;cases hq) mis;rw[this,he];rfl
   rcases hc with h | h | h | h | h | h | h | h | h
   . obtain⟨a1,a2,a3,a4,a5,a6,a7⟩:=h;have a1':x.Kind=1:=by omega
     have hl:rleaf x y v:=⟨fun h=>by omega,fun h=>by omega,fun h=>by omega⟩
     rw[gw hK (by omega) hl];simp only[a1'];simp only[p0 a6,oZ3,decide_false,Bool.false_eq_true,if_false,Int.reduceEq,Bool.not_true,RI];cases v;simp_all
   . obtain⟨a1,a2,a3,a4,a5,a6,a7,a8,a9⟩:=h;have a1':x.Kind=2:=by omega
     by_cases hl:y.Low<=v.Int_/\v.Int_<=y.High
     . rw[gw hK (by omega) (show rleaf x y v from⟨fun _=>hl,fun h=>by omega,fun h=>by omega⟩)];simp only[a1'];simp only[p0 a6,hl.1,hl.2,oZ3,decide_false,decide_true,Bool.false_eq_true,if_false,if_true,Int.reduceEq,Bool.not_true,cond_true,RI];cases v;simp_all
     . rw[jQ hK (by omega) (show ¬rleaf x y v from fun h=>hl (h.1 a1'))];have hb:(bif decide (y.Low<=v.Int_)then decide (v.Int_<=y.High)else false)=false:=by
        by_cases c:y.Low<=v.Int_ <;> simp[c]
        omega
       simp only[a1',hb];simp only[F,oZ3,decide_true,if_true,Bool.not_false,RI,ab.aA]
   . obtain⟨a1,a2,a3,a4,a5,a6,a7,a8⟩:=h;have a1':x.Kind=3:=by omega
     by_cases hl:(v.Str.length:Int)<=y.Max
     . rw[gw hK (by omega) (show rleaf x y v from⟨fun h=>by omega,fun _=>hl,fun h=>by omega⟩)];simp only[a1'];simp only[p0 a6,hl,oZ3,decide_false,decide_true,Bool.false_eq_true,if_false,if_true,Int.reduceEq,Bool.not_true,cond_true,RI];cases v;simp_all
     . rw[jQ hK (by omega) (show ¬rleaf x y v from fun h=>hl (h.2.1 a1'))];simp only[a1'];simp only[F,hl,oZ3,decide_true,decide_false,if_true,if_false,Int.reduceEq,Bool.false_eq_true,Bool.not_false,RI,ab.aA]
   . obtain⟨a1,a2,a3,a4,a5,a6,a7,a8⟩:=h;have a1':x.Kind=4:=by omega
     obtain⟨r,r1,_,r2⟩:=kO (t:=y) v.ID (by have:=(HR.T _ hmr).1;have:=aR (Nat.le_refl reachBytes);omega);have hr:r.2=true↔∃s,s∈y.Symbols/\s.ID=v.ID:=by
      rcases r2 with⟨q,q1,q2,_,rfl⟩ | ⟨q,rfl⟩
      . exact⟨fun _=>⟨_,aB q1 aQ,q2⟩,fun _=>rfl⟩
      . constructor
        . intro h;simp at h
        intro hq;obtain⟨s,s1,s2⟩:=hq;obtain⟨i,hi,rfl⟩:=List.getElem_of_mem s1;exact absurd s2 (by have:=q i hi;rwa [bn hi]at this)
     by_cases hl:(∃s,s∈y.Symbols/\s.ID=v.ID)\/y.Open=true
     . rw[gw hK (by omega) (show rleaf x y v from⟨fun h=>by omega,fun h=>by omega,fun _=>hl⟩)];have hb:(bif r.2 then true else y.Open)=true:=by
        rcases hl with hl | hl
        . rw[hr.2 hl];rfl
        . rw[hl];cases r.2 <;> rfl
       simp only[a1',r1];simp only[p0 a6,hb,oZ3,decide_false,decide_true,Bool.false_eq_true,if_false,if_true,Int.reduceEq,Bool.not_true,RI];cases v;simp_all
     . rw[jQ hK (by omega) (show ¬rleaf x y v from fun h=>hl (h.2.2 a1'))];have hb:(bif r.2 then true else y.Open)=false:=by
        cases hr2:r.2 with
        | true=>exact absurd (.inl (hr.1 hr2)) hl
        | false=>
         cases ho:y.Open with
         | true=>exact absurd (.inr ho) hl
         | false=>rfl
       simp only[a1',r1];simp only[F,hb,oZ3,decide_true,decide_false,if_true,if_false,Int.reduceEq,Bool.false_eq_true,Bool.not_false,RI,ab.aA]
   . obtain⟨a1,a2,a3,a4,a5,a6,a7,a8⟩:=h;have a1':x.Kind=5:=by omega
     obtain⟨m1,m2⟩:=SW.A _ hmem (.inl (by omega));obtain⟨m3,m4⟩:=SR.A _ hmr (.inl (by omega));obtain⟨f1,f2⟩:=dB.1 a8
     have hr:=Fa (tw:=tw) (tr:=tr) (f:=vread tw tr n) (path:=path) (by omega) (x:=x) (y:=y) a1 (by omega) (by omega) f1 hi cm (fun i hi' q hq=>by
      have hm:=aB (by omega:i < v.Items.length) af;obtain⟨q0,q1⟩:=HR.dc.mem hmr hq;exact⟨pI hm (f2 i hi') q0 q1,fun p u hu=>(qR HW HR n (hi _ hm) (sI _ hm).1 (f2 i hi') q0 q1 hu).1⟩) (fun i hi'=>by
      have hm:=aB (by omega:i < v.Items.length) af
      exact zA HW (hi _ hm) _ (f2 i hi') (sI _ hm).1) mis
     rw[rdK5 hK a1'];simp only[a1',hr,oZ3,decide_false,decide_true,Bool.false_eq_true,if_false,if_true,Int.reduceEq,ab.aA]
   . obtain⟨a1,a2,a3,a4,a5,a6⟩:=h;have a1':x.Kind=6:=by omega
     obtain⟨m1,m2⟩:=SW.A _ hmem (.inr (by omega));obtain⟨m3,m4⟩:=SR.A _ hmr (.inr (by omega));cases hF:findM x.Members v.ID with
     | none=>rw[hF]at a6;cases a6.2.1
     | some m=>
      rw[hF]at a6;obtain⟨b1,b2,b3⟩:=a6;have hsome:=jD x.Members v.ID;rw[hF]at hsome;cases hI:fI x.Members v.ID with
      | none=>rw[hI]at hsome;cases hsome
      | some i=>
      obtain⟨d1,d2,_⟩:=co hI;obtain⟨d3,d4⟩:=gr hF;have em:x.Members.getD i ag=m:=ly m1 (aB d1 ag) d3 (by rw[d2,d4]);have hm:=aB (by omega:0 < v.Items.length) af;have hfit:=aW.1 b3 _ hm
      have hr:=Gl (tw:=tw) (tr:=tr) (f:=vread tw tr n) (path:=path) (by omega) (x:=x) (y:=y) a1 (by omega) (by omega) b2 hI (fun q hq=>by
       obtain⟨q0,q1⟩:=HR.dc.mem hmr hq;rw[em]
       exact pI hm hfit q0 q1) (by rw[em];exact zA HW (hi _ hm) _ hfit (sI _ hm).1) mis
      rw[rdK6 hK a1'];simp only[a1',hr,oZ3,decide_false,decide_true,Bool.false_eq_true,if_false,if_true,Int.reduceEq,ab.aA]
   . obtain⟨a1,a2,a3,a4,a5,a6,a7,a8,a9⟩:=h;have a1':x.Kind=7:=by omega
     obtain⟨q0,q1⟩:=HR.dc.elem hmr (by omega);have hq:=lq (tw:=tw) (tr:=tr) (f:=vread tw tr n) (path:=path) (t:=x.Elem) (rt:=y.Elem) (l:=v.Items) (by omega) (fun q hq=>pI hq (aW.1 a9 q hq) q0 q1) mis;rw[rdK7 hK a1'];unfold rd7;by_cases hl:(v.Items.length:Int)<=y.Max
     . rw[if_pos hl];simp only[a1',hq,hl,oZ3,decide_false,decide_true,Bool.false_eq_true,if_false,if_true,Int.reduceEq,Bool.not_true];cases aV (vread tw tr n) path x.Elem y.Elem 0 v.Items with
       | inr p=>rfl
       | inl us=>simp only[PI,mapR,RI,Bool.not_true,Bool.false_eq_true,if_false,a1,a2,a3,a4,a5]
     . rw[if_neg hl];simp only[a1'];simp only[F,hl,oZ3,decide_true,decide_false,if_true,if_false,Int.reduceEq,Bool.false_eq_true,Bool.not_false,RI,ab.aA]
   . obtain⟨a1,a2,a3,a4,a5,a6,a7,a8,a9,a10,a11⟩:=h;have a1':x.Kind=8:=by omega
     obtain⟨q0,q1⟩:=HR.dc.elem hmr (by omega);obtain⟨q2,q3⟩:=HR.dc.key hmr (by omega);have hq:=lq (tw:=tw) (tr:=tr) (f:=vread tw tr n) (path:=path) (t:=x.Elem) (rt:=y.Elem) (l:=v.Items) (by omega) (fun q hq=>pI hq (aW.1 a10 q hq) q0 q1) mis
     have hqk:=lq (tw:=tw) (tr:=tr) (f:=vread tw tr n) (path:=path) (t:=x.Key) (rt:=y.Key) (l:=v.Keys) (by omega) (fun q hq=>pK hq (aW.1 a9 q hq) q2 q3) mis;rw[rdK8 hK a1'];unfold rd8;by_cases hl:(v.Items.length:Int)<=y.Max
     . rw[if_pos hl];simp only[a1',hqk,hl,oZ3,decide_false,decide_true,Bool.false_eq_true,if_false,if_true,Int.reduceEq,Bool.not_true];cases aV (vread tw tr n) path x.Key y.Key 0 v.Keys with
       | inr p=>rfl
       | inl ks=>
        simp only[PI,bindR,Bool.not_true,Bool.false_eq_true,if_false,hq,oZ3];cases aV (vread tw tr n) path x.Elem y.Elem 0 v.Items with
        | inr p=>rfl
        | inl us=>simp only[PI,mapR,RI,Bool.not_true,Bool.false_eq_true,if_false,a1,a2,a3,a4,a5]
     . rw[if_neg hl];simp only[a1'];simp only[F,hl,oZ3,decide_true,decide_false,if_true,if_false,Int.reduceEq,Bool.false_eq_true,Bool.not_false,RI,ab.aA]
   . obtain⟨a1,a2,a3,a4,a5,a6,a7,a8,a9⟩:=h;have a1':x.Kind=9:=by omega
     obtain⟨q0,q1⟩:=HR.dc.elem hmr (by omega);have hq:=lq (tw:=tw) (tr:=tr) (f:=vread tw tr n) (path:=path) (t:=x.Elem) (rt:=y.Elem) (l:=v.Items) (by omega) (fun q hq=>pI hq (aW.1 a9 q hq) q0 q1) mis;rw[rdK9 hK a1'];unfold rd9;simp only[a1',hq,oZ3,decide_false,decide_true,Bool.false_eq_true,if_false,if_true,Int.reduceEq,Bool.not_true]
     cases aV (vread tw tr n) path x.Elem y.Elem 0 v.Items with
     | inr p=>rfl
     | inl us=>simp only[PI,mapR,RI,Bool.not_true,Bool.false_eq_true,if_false,a1,a2,a3,a4,a5]
 . rw[if_pos (show(!(decide (x.Kind=y.Kind)))=true by simp[hK]),zy hK,F];simp only[oZ3,ab.aA,RI]
theorem Gn :RdI tw tr 0:=by
 unfold RdI;intro v _ _ hn;have:=zn v;omega
theorem rp(HW:DrOk tw)(HR:DrOk tr):∀n,RdI tw tr n
 | 0=>Gn
 | n+1=>Gm HW HR (rp HW HR n)
end
def RRes :ab ⊕ List Int->aP
 | .inl u=>⟨u,[],true⟩
 | .inr p=>⟨⟨0,false,0,[],0,[],[],[]⟩,p,false⟩
theorem rmis{path:List Int}(hp:path.length<=90000):ct path=some (RRes (.inr path)):=by
 rw[ct,if_pos (aX (by omega) (by simp;omega)),List.nil_append];rfl
theorem r14to{path:List Int}(hp:path.length<=90000)(step:Int):gg (path,step)=some (path++[step]):=by
 rw[gg,if_pos (aX (by omega) (by simp;omega)),List.nil_append];simp only[oZ4,oZ3];rw[if_pos (aX (by omega) (by simp;omega))]
theorem r14om{m:aj}(hm:OkV m.Default)(v:ab):iO (m,v)=some (om m v):=by
 rw[iO];simp only[ab.aA];unfold om;cases hd:m.HasDefault with
 | false=>rfl
 | true=>
  obtain⟨r,r1,r2⟩:=xD hm v;rw[if_pos rfl,r1];by_cases e:m.Default=v
  . have:=r2.2 e;subst this;simp[e]
  . have:r=false:=by
     cases r with
     | false=>rfl
     | true=>exact absurd (r2.1 rfl) e
    subst this;simp[e]
theorem ou{x:ae}(hl:x.Members.length<=1000)(id:Int):cd (x,id)=some (fIr x.Members id):=by
 obtain⟨r,r1,r2⟩:=tB (t:=x) (id:=id) (by omega);rw[r1,qc r2 (wK _ _)]
section
variable {tw tr:List ae}
def PartR(tw tr:List ae)(f:Rdr)(path:List Int)(t rt:Int)(v:ab):Prop:=∀step:Int,de ((⟨tw⟩:av),t,v,(⟨tr⟩:av),rt,path++[step])=some (RRes (f t v rt (path++[step])))
def KL(tw tr:List ae)(path:List Int)(x y:ae)(v:ab)(acc:List ab):List ab ⊕ List Int->aP ⊕ (List Int×List ae×ab×List ae×Int×Bool×Int×List UInt8×Int×Bool×ae×ae×Int×Bool×Int×List UInt8×Int×List aG×List ab)
 | .inl us=>.inr (path,tw,v,tr,0,false,0,[],0,false,x,y,v.Kind,v.Bool_,v.Int_,v.Str,v.ID,v.Rest,acc++us)
 | .inr p=>.inl (RRes (.inr p))
theorem xL {f : Rdr} {path : List Int} (hp : path.length <= 90000) {x y : ae} {v : ab} (hl : v.Keys.length <= 50000) (h : ∀ q, q ∈ v.Keys -> PartR tw tr f path x.Key y.Key q): ∀ (k i : Nat) (acc : List ab), i + k = v.Keys.length -> acc.length <= i ->
 dS (path,(i:Int),tw,v,tr,0,false,0,[],0,false,x,y,v.Kind,v.Bool_,v.Int_,v.Str,v.ID,v.Rest,acc)=some (KL tw tr path x y v acc (aV f path x.Key y.Key i (v.Keys.drop i)))
 | 0,i,acc,hi,ha=>by
  rw[dS,if_neg (by simp;omega),List.drop_eq_nil_of_le (by omega:v.Keys.length<=i)];simp[aV,KL,ab.aA]
 | k+1,i,acc,hi,ha=>by
  have hlt:i < v.Keys.length:=by omega
  rw[dS,if_pos (by simp;omega),if_pos (au hlt),az,r14to hp];simp only[ab.aA,oZ4,oZ3];rw[h _ (aB hlt af),bk hlt af,aV];cases f x.Key (v.Keys.getD i af) y.Key (path++[(i:Int)])with
  | inr p=>rfl
  | inl u=>
   simp only[oZ3,RRes,Bool.not_true];rw[if_neg (by simp),if_pos (aX (by omega) (by simp;omega)),aE (by omega),xL hp hl h k (i+1) _ (by omega) (by simp;omega)];cases aV f path x.Key y.Key (i+1) (v.Keys.drop (i+1))with
   | inr p=>rfl
   | inl us=>simp[KL,consR]
def IL(v:ab)(ks acc:List ab):List ab ⊕ List Int->aP ⊕ (Int×Bool×Int×List UInt8×Int×Bool×Int×Bool×Int×List UInt8×Int×List aG×List ab×List ab)
 | .inl us=>.inr (0,false,0,[],0,false,v.Kind,v.Bool_,v.Int_,v.Str,v.ID,v.Rest,ks,acc++us)
 | .inr p=>.inl (RRes (.inr p))
theorem wN {f : Rdr} {path : List Int} (hp : path.length <= 90000) {x y : ae} {v : ab} (hl : v.Items.length <= 50000) (h : ∀ q, q ∈ v.Items -> PartR tw tr f path x.Elem y.Elem q) {ks : List ab}: ∀ (k i : Nat) (acc : List ab), i + k = v.Items.length -> acc.length <= i ->
 dT (path,(i:Int),tw,v,tr,0,false,0,[],0,false,x,y,v.Kind,v.Bool_,v.Int_,v.Str,v.ID,v.Rest,ks,acc)=some (IL v ks acc (aV f path x.Elem y.Elem i (v.Items.drop i)))
 | 0,i,acc,hi,ha=>by
  rw[dT,if_neg (by simp;omega),List.drop_eq_nil_of_le (by omega:v.Items.length<=i)];simp[aV,IL]
 | k+1,i,acc,hi,ha=>by
  have hlt:i < v.Items.length:=by omega
  rw[dT,if_pos (by simp;omega),if_pos (au hlt),az,r14to hp];simp only[ab.aA,oZ4,oZ3];rw[h _ (aB hlt af),bk hlt af,aV];cases f x.Elem (v.Items.getD i af) y.Elem (path++[(i:Int)])with
  | inr p=>rfl
  | inl u=>
   simp only[oZ3,RRes,Bool.not_true];rw[if_neg (by simp),if_pos (aX (by omega) (by simp;omega)),aE (by omega),wN hp hl h k (i+1) _ (by omega) (by simp;omega)];cases aV f path x.Elem y.Elem (i+1) (v.Items.drop (i+1))with
   | inr p=>rfl
   | inl us=>simp[IL,consR]
def rkv(f:Rdr)(x y:ae)(v:ab)(path:List Int):ab ⊕ List Int:=
 bindR (fun ks=>mapR (fun is=>⟨v.Kind,v.Bool_,v.Int_,v.Str,v.ID,ks,is,v.Rest⟩) (aV f path x.Elem y.Elem 0 v.Items)) (aV f path x.Key y.Key 0 v.Keys)
theorem iF {f : Rdr} {path : List Int} (hp : path.length <= 90000) {x y : ae} {v : ab} (hlk : v.Keys.length <= 50000) (hl : v.Items.length <= 50000) (hk : ∀ q, q ∈ v.Keys -> PartR tw tr f path x.Key y.Key q) (h : ∀ q, q ∈ v.Items -> PartR tw tr f path x.Elem y.Elem q):
 (∃p,rkv f x y v path= .inr p/\dS (path,0,tw,v,tr,0,false,0,[],0,false,x,y,v.Kind,v.Bool_,v.Int_,v.Str,v.ID,v.Rest,[])=some (.inl (RRes (.inr p))))\/
 ∃ks,dS (path,0,tw,v,tr,0,false,0,[],0,false,x,y,v.Kind,v.Bool_,v.Int_,v.Str,v.ID,v.Rest,[])=some (.inr (path,tw,v,tr,0,false,0,[],0,false,x,y,v.Kind,v.Bool_,v.Int_,v.Str,v.ID,v.Rest,ks))/\
  ((∃p,rkv f x y v path= .inr p/\dT (path,0,tw,v,tr,0,false,0,[],0,false,x,y,v.Kind,v.Bool_,v.Int_,v.Str,v.ID,v.Rest,ks,[])=some (.inl (RRes (.inr p))))\/
  ∃us,rkv f x y v path= .inl ⟨v.Kind,v.Bool_,v.Int_,v.Str,v.ID,ks,us,v.Rest⟩/\dT (path,0,tw,v,tr,0,false,0,[],0,false,x,y,v.Kind,v.Bool_,v.Int_,v.Str,v.ID,v.Rest,ks,[])=some (.inr (0,false,0,[],0,false,v.Kind,v.Bool_,v.Int_,v.Str,v.ID,v.Rest,ks,us))):=by
 have h0:=xL hp hlk hk v.Keys.length 0 [] (by omega) (by simp);have h0':dS (path,0,tw,v,tr,0,false,0,[],0,false,x,y,v.Kind,v.Bool_,v.Int_,v.Str,v.ID,v.Rest,[])=_:=h0;rw[h0',List.drop_zero];unfold rkv;cases aV f path x.Key y.Key 0 v.Keys with
 | inr p=>exact .inl ⟨p,rfl,rfl⟩
 | inl ks=>
  have h1:=wN (tw:=tw) (tr:=tr) hp hl h (ks:=ks) v.Items.length 0 [] (by omega) (by simp);have h1':dT (path,0,tw,v,tr,0,false,0,[],0,false,x,y,v.Kind,v.Bool_,v.Int_,v.Str,v.ID,v.Rest,ks,[])=_:=h1;refine .inr ⟨ks,by simp[KL],?_⟩;rw[h1',List.drop_zero];cases aV f path x.Elem y.Elem 0 v.Items with
  | inr p=>exact .inl ⟨p,rfl,rfl⟩
  | inl us=>exact .inr ⟨us,rfl,by simp[IL]⟩
def RL0(tw:List ae)(path:List Int)(x y:ae)(v:ab)(acc:List ab):List ab ⊕ List Int->aP ⊕ (List Int×List ae×ae×ab×ae×Int×Bool×Int×List UInt8×Int×Bool×Int×Bool×Int×List UInt8×Int×List ab)
 | .inl us=>.inr (path,tw,x,v,y,0,false,0,[],0,false,v.Kind,false,0,[],0,acc++us)
 | .inr p=>.inl (RRes (.inr p))
theorem xM {f : Rdr} {path : List Int} (hp : path.length <= 80000) {x y : ae} {v : ab} (hx : x.Members.length <= 1000) (hy : y.Members.length <= 1000) (hl : v.Items.length = x.Members.length)
 (dx:∀n,n∈x.Members->OkV n.Default) (dy:∀n,n∈y.Members->OkV n.Default)
 (h:∀i,i < x.Members.length->∀n,n∈y.Members->PartR tw tr f path (x.Members.getD i ag).Type_ n.Type_ (v.Items.getD i af)):∀(k j:Nat) (acc:List ab),j+k=y.Members.length->acc.length<=j->
 eO (path,(j:Int),tw,x,v,tr,y,0,false,0,[],0,false,v.Kind,false,0,[],0,acc)=some (RL0 tw path x y v acc (rmems f x v path (y.Members.drop j)))
 | 0,j,acc,hj,ha=>by
  rw[eO,if_neg (by simp;omega),List.drop_eq_nil_of_le (by omega:y.Members.length<=j)];simp[rmems,RL0,ab.aA]
 | k+1,j,acc,hj,ha=>by
  have hlt:j < y.Members.length:=by omega
  have hmy:=aB hlt ag;have rc:=fun acc=>xM hp hx hy hl dx dy h k (j+1) acc (by omega)
  rw[eO,if_pos (by simp;omega),if_pos (au hlt),az];simp only[oZ4,oZ3,ab.aA,dz];rw[r14to (by omega),ou hx,bk hlt ag,rmems];unfold rmem fIr;have hdy:=dy _ hmy;generalize hn:y.Members.getD j ag=n at*;have M:=rmis (path:=path++[n.ID]) (by simp;omega);cases hF:fI x.Members n.ID with
  | none=>
   simp only[oZ3,Bool.not_false,cond_true];cases hdn:n.HasDefault with
   | false=>
    rw[if_pos (show(!false)=true from rfl),M,if_neg (show ¬false=true by simp)];rfl
   | true=>
    rw[if_neg (show ¬(!true)=true by simp),if_pos trivial,if_pos (aX (by omega) (by simp;omega)),aE (by omega),rc _ (by simp;omega),if_pos (show true=true from rfl)];cases rmems f x v path (y.Members.drop (j+1))with
    | inr p=>rfl
    | inl us=>simp[RL0,consR]
  | some i=>
   obtain⟨i1,_,_⟩:=co hF;have i2:i < v.Items.length:=by omega
   have p1:=h i i1 n hmy;simp only[oZ3,Bool.not_true,cond_false];rw[if_neg (by simp),if_neg (by simp),if_pos (au i1),if_pos (au i2),az,p1 n.ID];have hom:=r14om (dx _ (aB i1 ag)) (v.Items.getD i af);cases hc:f (x.Members.getD i ag).Type_ (v.Items.getD i af) n.Type_ (path++[n.ID])with
   | inr p=>
    simp only[oZ3,RRes,ab.aA,Bool.not_false,Bool.not_true,Bool.and_false];rw[if_pos (au i1),if_pos (au i2),hom];simp only[oZ3,Bool.false_eq_true,if_false];rw[rl];generalize om (x.Members.getD i ag) (v.Items.getD i af)=b at*;cases b with
    | false=>rfl
    | true=>
     simp only[cond_true];rw[if_pos trivial,M];rfl
   | inl u=>
    have hu:=r14om hdy u;simp only[oZ3,RRes,ab.aA,Bool.not_false,Bool.not_true,Bool.and_true];rw[if_pos (au i1),if_pos (au i2),hom];simp only[oZ3,Bool.false_eq_true,if_false];rw[rn];generalize om (x.Members.getD i ag) (v.Items.getD i af)=b at*
    have tail:(some [u] >>=fun t110=>if room 120 (acc++t110).length=true then eO (path,addI .i64 (j:Int) 1,tw,x,v,tr,y,0,false,0,[],0,false,v.Kind,false,0,[],0,acc++t110)else none)=some (RL0 tw path x y v acc (consR (.inl u) (rmems f x v path (y.Members.drop (j+1))))):=by
     simp only[oZ4,oZ3];rw[if_pos (aX (by omega) (by simp;omega)),aE (by omega),rc _ (by simp;omega)];cases rmems f x v path (y.Members.drop (j+1))with
     | inr p=>rfl
     | inl us=>simp[RL0,consR]
    cases b with
    | false=>
     simp only[Bool.false_eq_true,if_false,oZ3,cond_false,false_and];exact tail
    | true=>
     rw[if_pos rfl,hu];cases hb:om n u with
     | true=>
      simp only[Bool.false_eq_true,if_false,oZ3,cond_false,cond_true,Bool.not_true,and_false,Bool.true_eq_false];exact tail
     | false=>
      simp only[oZ3,cond_true,cond_false,Bool.not_false,and_self,if_true];rw[M];rfl
def RR1(v:ab)(its:List ab)(acc:List aG):List aG ⊕ List Int->aP ⊕ (Int×Bool×Int×List UInt8×Int×Bool×Int×Bool×Int×List UInt8×Int×List ab×List aG)
 | .inl rs=>.inr (0,false,0,[],0,false,v.Kind,false,0,[],0,its,acc++rs)
 | .inr p=>.inl (RRes (.inr p))
theorem xN {path : List Int} (hp : path.length <= 80000) {x y : ae} {v : ab} (hx : x.Members.length <= 1000) (hy : y.Members.length <= 1000) (hl : v.Items.length = x.Members.length) (dx : ∀ n, n ∈ x.Members -> OkV n.Default)
 (h:∀i,i < x.Members.length->Rp tw (v.Items.getD i af) (x.Members.getD i ag).Type_) {its:List ab}:∀(k i:Nat) (acc:List aG),i+k=x.Members.length->acc.length<=i->
 dQ (path,(i:Int),tw,x,v,y,0,false,0,[],0,false,v.Kind,false,0,[],0,its,acc)=some (RR1 v its acc (rrest tw y path (x.Members.drop i) (v.Items.drop i)))
 | 0,i,acc,hi,ha=>by
  rw[dQ,if_neg (by simp;omega),List.drop_eq_nil_of_le (by omega:x.Members.length<=i),rrest]
  . simp[RR1]
  . intros;simp_all
 | k+1,i,acc,hi,ha=>by
  have hlt:i < x.Members.length:=by omega
  have hlt2:i < v.Items.length:=by omega
  have rc:=fun acc=>xN hp hx hy hl dx h (its:=its) k (i+1) acc (by omega)
  rw[dQ,if_pos (by simp;omega),if_pos (au hlt),az];simp only[oZ4,oZ3,ab.aA,dz];rw[ou hy,bk hlt ag,bk hlt2 af,rrest];have hs:=jD y.Members (x.Members.getD i ag).ID;have hk:(fIr y.Members (x.Members.getD i ag).ID).2=(findM y.Members (x.Members.getD i ag).ID).isSome:=by
   rw[<-hs];unfold fIr;cases fI y.Members (x.Members.getD i ag).ID <;> rfl
  simp only[oZ3];rw[hk];by_cases c1:(findM y.Members (x.Members.getD i ag).ID).isSome=true
  . rw[if_pos c1,if_pos c1,aE (by omega),rc _ (by omega)]
  rw[if_neg c1,if_neg c1];by_cases c2:(x.Members.getD i ag).Critical=true
  . rw[if_pos c2,if_pos c2,r14to (by omega)];simp only[oZ3];rw[rmis (by simp;omega)];rfl
  rw[if_neg c2,if_neg c2,if_pos (au hlt2),r14om (dx _ (aB hlt ag))];simp only[oZ3];cases om (x.Members.getD i ag) (v.Items.getD i af)with
  | true=>
   rw[if_neg (by simp),if_pos rfl,aE (by omega),rc _ (by omega)]
  | false=>
   have hM:=h i hlt;unfold Rp at hM;rw[if_pos (show(!false)=true from rfl),if_neg (show ¬false=true by simp),if_pos (au hlt2),hM];simp only[oZ3];rw[if_pos (aX (by omega) (by simp;omega)),aE (by omega),rc _ (by simp;omega)];cases rrest tw y path (x.Members.drop (i+1)) (v.Items.drop (i+1))with
   | inr p=>rfl
   | inl us=>simp[RR1,consR]
theorem Fb {f : Rdr} {path : List Int} (hp : path.length <= 80000) {x y : ae} {v : ab} (k5 : v.Kind = 5) (hx : x.Members.length <= 1000) (hy : y.Members.length <= 1000) (hl : v.Items.length = x.Members.length)
 (dx:∀n,n∈x.Members->OkV n.Default) (dy:∀n,n∈y.Members->OkV n.Default)
 (h:∀i,i < x.Members.length->∀n,n∈y.Members->PartR tw tr f path (x.Members.getD i ag).Type_ n.Type_ (v.Items.getD i af))
 (hm:∀i,i < x.Members.length->Rp tw (v.Items.getD i af) (x.Members.getD i ag).Type_):
 j6 ((⟨tw⟩:av),x,v,(⟨tr⟩:av),y,path)=some (RRes (rd5 tw f x y v path)):=by
 have h0:=xM hp hx hy hl dx dy h y.Members.length 0 [] (by omega) (by simp);have h0':eO (path,0,tw,x,v,tr,y,0,false,0,[],0,false,v.Kind,false,0,[],0,[])=_:=h0;rw[j6];simp only[ab.aA];rw[h0',List.drop_zero];unfold rd5;cases rmems f x v path y.Members with
 | inr p=>rfl
 | inl its=>
  have h1:=xN (tw:=tw) hp hx hy hl dx hm (its:=its) x.Members.length 0 [] (by omega) (by simp);have h1':dQ (path,0,tw,x,v,y,0,false,0,[],0,false,v.Kind,false,0,[],0,its,[])=_:=h1;simp only[oZ4,oZ3,RL0,List.nil_append,ab.aA];rw[h1',List.drop_zero,List.drop_zero];cases rrest tw y path x.Members v.Items with
  | inr p=>rfl
  | inl r=>simp only[oZ3,RR1,List.nil_append,k5,bindR,mapR,RRes,dZ,ab.aA]
theorem Gp {f : Rdr} {path : List Int} (hp : path.length <= 80000) {x y : ae} {v : ab} (k6 : v.Kind = 6) (hx : x.Members.length <= 1000) (hy : y.Members.length <= 1000) (h1 : v.Items.length = 1) {i : Nat} (hi : fI x.Members v.ID = some i)
 (h:∀n,n∈y.Members->PartR tw tr f path (x.Members.getD i ag).Type_ n.Type_ (v.Items.getD 0 af))
 (hm:Rp tw (v.Items.getD 0 af) (x.Members.getD i ag).Type_):
 kh ((⟨tw⟩:av),x,v,(⟨tr⟩:av),y,path)=some (RRes (rd6 tw f x y v path)):=by
 obtain⟨i1,_,_⟩:=co hi;have hin:inR 0 v.Items.length=true:=by rw[h1];rfl
 rw[kh,ou hx,ou hy];unfold rd6 fIr;simp only[oZ4,oZ3,ab.aA,hi];cases hF:fI y.Members v.ID with
 | some k=>
  obtain⟨k1,_,_⟩:=co hF;simp only[Bool.not_true,cond_false];rw[if_neg (by simp),if_neg (by simp),if_pos (au i1),if_pos hin,if_pos (au k1),az,az,show(0:Int).toNat=0 from rfl,r14to (by omega)];simp only[oZ3];rw[h _ (aB k1 ag)];cases f (x.Members.getD i ag).Type_ (v.Items.getD 0 af) (y.Members.getD k ag).Type_ (path++[v.ID])with
  | inr p=>
   simp only[oZ3,RRes,Bool.not_false,mapR,ab.aA];rw[if_pos trivial]
  | inl u=>
   simp only[oZ3,RRes,Bool.not_true,mapR,ab.aA,k6,dZ];rw[if_neg (by simp)]
 | none=>
  simp only[Bool.not_false,cond_true];cases y.Open with
  | false=>
   rw[if_pos (show(!false)=true from rfl),rmis (by omega)];simp only[oZ3,ab.aA,Bool.false_eq_true,if_false,RRes]
  | true=>
   unfold Rp at hm;rw[if_neg (show ¬(!true)=true by simp),if_pos trivial,if_pos (au i1),if_pos hin,az,show(0:Int).toNat=0 from rfl,hm];simp only[oZ3,if_true,RRes,k6,dZ,ab.aA]
def RdR(tw tr:List ae)(n:Nat):Prop:=∀{v:ab},OkV v->wt v<=3000->wt v<=n->∀{t rt:Int} {path:List Int},vfit tw true t v->0<=rt->rt < tr.length->path.length+n<=50000->
 de ((⟨tw⟩:av),t,v,(⟨tr⟩:av),rt,path)=some (RRes (vread tw tr n t v rt path))
theorem Fc(HW:DrOk tw)(HR:DrOk tr){n:Nat}(ih:RdR tw tr n):RdR tw tr (n+1):=by
 intro v hv hw hn t rt path hf r0 r1 hp;have SW:=HW.V.sok HW.T;have SR:=HR.V.sok HR.T;have hwt:=wt_eq v;obtain⟨⟨g1,g2,g3,g4⟩,hc⟩:=(cn _ _ _).1 hf;obtain⟨j,rfl⟩:∃j:Nat,t=(j:Int):=⟨t.toNat,by omega⟩
 obtain⟨k,rfl⟩:∃k:Nat,rt=(k:Int):=⟨rt.toNat,by omega⟩
 have hj:j < tw.length:=by omega
 have hk':k < tr.length:=by omega
 have hmem:=aB hj ap;have hmr:=aB hk' ap;have hR:=g4 rfl;cases hv with
 | mk _ hs h1 h2 h3 hk hi hrd n1 n2 n3 n4=>
 rw[de,if_pos (au hj),kZ];simp only[oZ4,oZ3,az,ab.aA];rw[az]at g3 hc;rw[if_pos (au hk')];have dx:=(HW.T _ hmem).dv;have dy:=(HR.T _ hmr).dv;generalize hx:tw.getD j ap=x at*;generalize hy:tr.getD k ap=y at*;have sI:∀y,y∈v.Items->wt y<=3000/\wt y<=n:=fun y hy=>by have:=bK hy;omega
 have sK:∀y,y∈v.Keys->wt y<=3000/\wt y<=n:=fun y hy=>by have:=bK hy;omega
 have pI:∀{t rt:Int} {q:ab},q∈v.Items->vfit tw true t q->0<=rt->rt < tr.length->PartR tw tr (vread tw tr n) path t rt q:=fun {t rt q} hq hf a0 a1 step=>ih (hi q hq) (sI q hq).1 (sI q hq).2 hf a0 a1 (by simp;omega)
 have pK:∀{t rt:Int} {q:ab},q∈v.Keys->vfit tw true t q->0<=rt->rt < tr.length->PartR tw tr (vread tw tr n) path t rt q:=fun {t rt q} hq hf a0 a1 step=>ih (hk q hq) (sK q hq).1 (sK q hq).2 hf a0 a1 (by simp;omega)
 have nk:=wts_len' v.Keys;have ni:=wts_len' v.Items;have F:=rmis (path:=path) (by omega);have FF:(ct path).bind (fun r=>some (⟨r.Value,r.Path,r.OK⟩:aP))=some (RRes (.inr path)):=by rw[F];rfl
 by_cases hK:x.Kind=y.Kind
 . rw[if_neg (show ¬(!(decide (x.Kind=y.Kind)))=true by simp[hK])];have leaf:v.Keys=[]->v.Items=[]->rkv (vread tw tr n) x y v path= .inl v:=fun e1 e2=>by
    unfold rkv;cases v;simp_all [aV,bindR,mapR]
   rcases hc with h | h | h | h | h | h | h | h | h
   case' inl=>
    obtain⟨a1,a2,a3,a4,a5,a6,a7⟩:=h;have a1':x.Kind=1:=by omega
    have hl:rleaf x y v:=⟨fun h=>by omega,fun h=>by omega,fun h=>by omega⟩
    have kv:=iF (tw:=tw) (tr:=tr) (f:=vread tw tr n) (path:=path) (by omega) (x:=x) (y:=y) (v:=v) (by omega) (by omega) (fun q hq=>by rw[a5]at hq;cases hq) (fun q hq=>by rw[a6]at hq;cases hq);rw[gw hK (by omega) hl,<-leaf a5 a6];simp only[a1',Int.reduceEq,decide_false,decide_true,cond_false,cond_true,Bool.false_eq_true,if_false,if_true]
   case' inr.inl=>
    obtain⟨a1,a2,a3,a4,a5,a6,a7,a8,a9⟩:=h;have a1':x.Kind=2:=by omega
    by_cases hl:y.Low<=v.Int_/\v.Int_<=y.High
    case' neg=>
     have hb:(bif decide (v.Int_ < y.Low)then true else decide (y.High < v.Int_))=true:=by
      by_cases c:v.Int_ < y.Low <;> simp[c]
      omega
     rw[jQ hK (by omega) (show ¬rleaf x y v from fun h=>hl (h.1 a1'))];simp only[a1',hb,Int.reduceEq,decide_false,decide_true,cond_false,cond_true,Bool.false_eq_true,if_false,if_true];exact FF
    case' pos=>
     have hb:(bif decide (v.Int_ < y.Low)then true else decide (y.High < v.Int_))=false:=by
      have c1:¬v.Int_ < y.Low:=by omega
      have c2:¬y.High < v.Int_:=by omega
      simp[c1,c2]
     have kv:=iF (tw:=tw) (tr:=tr) (f:=vread tw tr n) (path:=path) (by omega) (x:=x) (y:=y) (v:=v) (by omega) (by omega) (fun q hq=>by rw[a5]at hq;cases hq) (fun q hq=>by rw[a6]at hq;cases hq);rw[gw hK (by omega) (show rleaf x y v from⟨fun _=>hl,fun h=>by omega,fun h=>by omega⟩),<-leaf a5 a6]
     simp only[a1',hb,Int.reduceEq,decide_false,decide_true,cond_false,cond_true,Bool.false_eq_true,if_false,if_true]
   case' inr.inr.inl=>
    obtain⟨a1,a2,a3,a4,a5,a6,a7,a8⟩:=h;have a1':x.Kind=3:=by omega
    by_cases hl:(v.Str.length:Int)<=y.Max
    case' neg=>
     have hb:decide (y.Max < (v.Str.length:Int))=true:=decide_eq_true (by omega);rw[jQ hK (by omega) (show ¬rleaf x y v from fun h=>hl (h.2.1 a1'))];simp only[a1',hb,Int.reduceEq,decide_false,decide_true,cond_false,cond_true,Bool.false_eq_true,if_false,if_true];exact FF
    case' pos=>
     have hb:decide (y.Max < (v.Str.length:Int))=false:=decide_eq_false (by omega);have kv:=iF (tw:=tw) (tr:=tr) (f:=vread tw tr n) (path:=path) (by omega) (x:=x) (y:=y) (v:=v) (by omega) (by omega) (fun q hq=>by rw[a5]at hq;cases hq) (fun q hq=>by rw[a6]at hq;cases hq)
     rw[gw hK (by omega) (show rleaf x y v from⟨fun h=>by omega,fun _=>hl,fun h=>by omega⟩),<-leaf a5 a6];simp only[a1',hb,Int.reduceEq,decide_false,decide_true,cond_false,cond_true,Bool.false_eq_true,if_false,if_true]
   case' inr.inr.inr.inl=>
    obtain⟨a1,a2,a3,a4,a5,a6,a7,a8⟩:=h;have a1':x.Kind=4:=by omega
    obtain⟨r,_,r1,r2⟩:=kO (t:=y) v.ID (by have:=(HR.T _ hmr).1;have:=aR (Nat.le_refl reachBytes);omega);have hr:r.2=true↔∃s,s∈y.Symbols/\s.ID=v.ID:=by
     rcases r2 with⟨q,q1,q2,_,rfl⟩ | ⟨q,rfl⟩
     . exact⟨fun _=>⟨_,aB q1 aQ,q2⟩,fun _=>rfl⟩
     . constructor
       . intro h;simp at h
       intro hq;obtain⟨s,s1,s2⟩:=hq;obtain⟨i,hi,rfl⟩:=List.getElem_of_mem s1;exact absurd s2 (by have:=q i hi;rwa [bn hi]at this)
    by_cases hl:(∃s,s∈y.Symbols/\s.ID=v.ID)\/y.Open=true
    case' neg=>
     have hb:(bif (!r.2)then(!y.Open)else false)=true:=by
      cases hr2:r.2 with
      | true=>exact absurd (.inl (hr.1 hr2)) hl
      | false=>
       cases ho:y.Open with
       | true=>exact absurd (.inr ho) hl
       | false=>rfl
     rw[jQ hK (by omega) (show ¬rleaf x y v from fun h=>hl (h.2.2 a1'))];simp only[a1',r1,hb,oZ3,Int.reduceEq,decide_false,decide_true,cond_false,cond_true,Bool.false_eq_true,if_false,if_true];exact FF
    case' pos=>
     have hb:(bif (!r.2)then(!y.Open)else false)=false:=by
      rcases hl with hl | hl
      . rw[hr.2 hl];rfl
      . rw[hl];cases r.2 <;> rfl
     have kv:=iF (tw:=tw) (tr:=tr) (f:=vread tw tr n) (path:=path) (by omega) (x:=x) (y:=y) (v:=v) (by omega) (by omega) (fun q hq=>by rw[a5]at hq;cases hq) (fun q hq=>by rw[a6]at hq;cases hq);rw[gw hK (by omega) (show rleaf x y v from⟨fun h=>by omega,fun h=>by omega,fun _=>hl⟩),<-leaf a5 a6]
     simp only[a1',r1,hb,oZ3,Int.reduceEq,decide_false,decide_true,cond_false,cond_true,Bool.false_eq_true,if_false,if_true]
   case' inr.inr.inr.inr.inl=>
    obtain⟨a1,a2,a3,a4,a5,a6,a7,a8⟩:=h;have a1':x.Kind=5:=by omega
    obtain⟨m1,m2⟩:=SW.A _ hmem (.inl (by omega));obtain⟨m3,m4⟩:=SR.A _ hmr (.inl (by omega));obtain⟨f1,f2⟩:=dB.1 a8
    have hr:=Fb (tw:=tw) (tr:=tr) (f:=vread tw tr n) (path:=path) (by omega) (x:=x) (y:=y) a1 (by omega) (by omega) f1 dx dy (fun i hi' q hq=>by
     have hm:=aB (by omega:i < v.Items.length) af;obtain⟨q0,q1⟩:=HR.dc.mem hmr hq;exact pI hm (f2 i hi') q0 q1) (fun i hi'=>by
     have hm:=aB (by omega:i < v.Items.length) af
     exact yp SW (hi _ hm) (by have:=(sI _ hm).1;omega) _ (vfit_weak _ _ (f2 i hi')))
    rw[rdK5 hK a1'];simp only[a1',hr,oZ3,Int.reduceEq,decide_false,decide_true,cond_false,cond_true,Bool.false_eq_true,if_false,if_true]
    done
   case' inr.inr.inr.inr.inr.inl=>
    obtain⟨a1,a2,a3,a4,a5,a6⟩:=h;have a1':x.Kind=6:=by omega
    obtain⟨m1,m2⟩:=SW.A _ hmem (.inr (by omega));obtain⟨m3,m4⟩:=SR.A _ hmr (.inr (by omega));cases hF:findM x.Members v.ID with
    | none=>rw[hF]at a6;cases a6.2.1
    | some m=>
     rw[hF]at a6;obtain⟨b1,b2,b3⟩:=a6;have hsome:=jD x.Members v.ID;rw[hF]at hsome;cases hI:fI x.Members v.ID with
     | none=>rw[hI]at hsome;cases hsome
     | some i=>
     obtain⟨d1,d2,_⟩:=co hI;obtain⟨d3,d4⟩:=gr hF;have em:x.Members.getD i ag=m:=ly m1 (aB d1 ag) d3 (by rw[d2,d4]);have hm:=aB (by omega:0 < v.Items.length) af;have hfit:=aW.1 b3 _ hm
     have hr:=Gp (tw:=tw) (tr:=tr) (f:=vread tw tr n) (path:=path) (by omega) (x:=x) (y:=y) a1 (by omega) (by omega) b2 hI (fun q hq=>by
      obtain⟨q0,q1⟩:=HR.dc.mem hmr hq;rw[em]
      exact pI hm hfit q0 q1) (by rw[em];exact yp SW (hi _ hm) (by have:=(sI _ hm).1;omega) _ (vfit_weak _ _ hfit))
     rw[rdK6 hK a1'];simp only[a1',hr,oZ3,Int.reduceEq,decide_false,decide_true,cond_false,cond_true,Bool.false_eq_true,if_false,if_true]
    done
   case' inr.inr.inr.inr.inr.inr.inl=>
    obtain⟨a1,a2,a3,a4,a5,a6,a7,a8,a9⟩:=h;have a1':x.Kind=7:=by omega
    obtain⟨q0,q1⟩:=HR.dc.elem hmr (by omega);rw[rdK7 hK a1'];unfold rd7;by_cases hl:(v.Items.length:Int)<=y.Max
    case' neg=>
     have hb:decide (y.Max < (v.Items.length:Int))=true:=decide_eq_true (by omega);rw[if_neg hl];simp only[a1',hb,Int.reduceEq,decide_false,decide_true,cond_false,cond_true,Bool.false_eq_true,if_false,if_true];exact FF
    case' pos=>
     have hb:decide (y.Max < (v.Items.length:Int))=false:=decide_eq_false (by omega);have kv:=iF (tw:=tw) (tr:=tr) (f:=vread tw tr n) (path:=path) (by omega) (x:=x) (y:=y) (v:=v) (by omega) (by omega) (fun q hq=>by rw[a6]at hq;cases hq) (fun q hq=>pI hq (aW.1 a9 q hq) q0 q1)
     have e:(if(v.Items.length:Int)<=y.Max then mapR (fun is=>(⟨7,false,0,[],0,[],is,[]⟩:ab)) (aV (vread tw tr n) path x.Elem y.Elem 0 v.Items)else .inr path)=rkv (vread tw tr n) x y v path:=by
      unfold rkv;rw[if_pos hl,a1,a2,a3,a4,a5,a6,a7];rfl
     rw[e];simp only[a1',hb,Int.reduceEq,decide_false,decide_true,cond_false,cond_true,Bool.false_eq_true,if_false,if_true]
   case' inr.inr.inr.inr.inr.inr.inr.inl=>
    obtain⟨a1,a2,a3,a4,a5,a6,a7,a8,a9,a10,a11⟩:=h;have a1':x.Kind=8:=by omega
    obtain⟨q0,q1⟩:=HR.dc.elem hmr (by omega);obtain⟨q2,q3⟩:=HR.dc.key hmr (by omega);rw[rdK8 hK a1'];unfold rd8;by_cases hl:(v.Items.length:Int)<=y.Max
    case' neg=>
     have hb:decide (y.Max < (v.Items.length:Int))=true:=decide_eq_true (by omega);rw[if_neg hl];simp only[a1',hb,Int.reduceEq,decide_false,decide_true,cond_false,cond_true,Bool.false_eq_true,if_false,if_true];exact FF
    case' pos=>
     have hb:decide (y.Max < (v.Items.length:Int))=false:=decide_eq_false (by omega);have kv:=iF (tw:=tw) (tr:=tr) (f:=vread tw tr n) (path:=path) (by omega) (x:=x) (y:=y) (v:=v) (by omega) (by omega) (fun q hq=>pK hq (aW.1 a9 q hq) q2 q3) (fun q hq=>pI hq (aW.1 a10 q hq) q0 q1)
     have e:(if(v.Items.length:Int)<=y.Max then bindR (fun ks=>mapR (fun is=>(⟨8,false,0,[],0,ks,is,[]⟩:ab)) (aV (vread tw tr n) path x.Elem y.Elem 0 v.Items)) (aV (vread tw tr n) path x.Key y.Key 0 v.Keys)else .inr path)=rkv (vread tw tr n) x y v path:=by
      unfold rkv;rw[if_pos hl,a1,a2,a3,a4,a5,a6]
     rw[e];simp only[a1',hb,Int.reduceEq,decide_false,decide_true,cond_false,cond_true,Bool.false_eq_true,if_false,if_true]
   case' inr.inr.inr.inr.inr.inr.inr.inr=>
    obtain⟨a1,a2,a3,a4,a5,a6,a7,a8,a9⟩:=h;have a1':x.Kind=9:=by omega
    obtain⟨q0,q1⟩:=HR.dc.elem hmr (by omega);have kv:=iF (tw:=tw) (tr:=tr) (f:=vread tw tr n) (path:=path) (by omega) (x:=x) (y:=y) (v:=v) (by omega) (by omega) (fun q hq=>by rw[a6]at hq;cases hq) (fun q hq=>pI hq (aW.1 a9 q hq) q0 q1);have e:rd9 (vread tw tr n) x y v path=rkv (vread tw tr n) x y v path:=by
     unfold rkv rd9;rw[a1,a2,a3,a4,a5,a6,a7];rfl
    rw[rdK9 hK a1',e];simp only[a1',Int.reduceEq,decide_false,decide_true,cond_false,cond_true,Bool.false_eq_true,if_false,if_true]
   all_goals
    rcases kv with⟨p,e1,e2⟩ | ⟨ks,e2,⟨p,e1,e3⟩ | ⟨us,e1,e3⟩⟩
    . rw[e1,e2];rfl
    . rw[e1,e2];simp only[oZ3];rw[e3];rfl
    . rw[e1,e2];simp only[oZ3];rw[e3];simp only[oZ3,RRes,dZ,ab.aA]
 . rw[if_pos (show(!(decide (x.Kind=y.Kind)))=true by simp[hK]),zy hK,FF]
theorem Fe :RdR tw tr 0:=by
 unfold RdR;intro v _ _ hn;have:=zn v;omega
theorem rq(HW:DrOk tw)(HR:DrOk tr):∀n,RdR tw tr n
 | 0=>Fe
 | n+1=>Fc HW HR (rq HW HR n)
end
def NdOk(x:Nd):Prop:=NOk x/\x.Parts.length*3<=reachBytes
def NsOk(ns:List Nd):Prop:=ns.length*32<=reachBytes/\∀x,x∈ns->NdOk x
def ChOk(c:db):Prop:=U8 c.Kind/\U8 c.Node/\U8 c.A/\U8 c.B
theorem NsOk.set{ns:List Nd}(h:NsOk ns)(j:Nat){x:Nd}(hx:NdOk x):NsOk (ns.set j x):=by
 refine⟨by rw[List.length_set];exact h.1,fun y hy=>?_⟩;rcases List.mem_or_eq_of_mem_set hy with hy | rfl
 . exact h.2 y hy
 . exact hx
theorem dE(a:Int):U8 (IntKind.wrap .u8 a):=by
 have:IntKind.wrap .u8 a=a % 256:=by rfl
 unfold U8;omega
theorem room3{n:Nat}(h:n*3<=reachBytes):room 3 n=true:=by
 unfold reachBytes at h;unfold room bS aY;simp only[Bool.and_eq_true,decide_eq_true_eq];omega
theorem room32'{n:Nat}(h:n*32<=reachBytes):room 32 n=true:=by
 unfold reachBytes at h;unfold room bS aY;simp only[Bool.and_eq_true,decide_eq_true_eq];omega
theorem HO {L : List db} (hLl : L.length <= reachBytes) (hc : ∀ c, c ∈ L -> ChOk c) {i : Nat} (hi : i < L.length) {ns : List Nd} (h : NsOk ns) (hn : 0 < ns.length):
 ∃ns',NsOk ns'/\ns'.length=ns.length/\bu (L,(i:Int),ns)=bu (L,((i+1:Nat):Int),ns'):=by
 obtain⟨c1,c2,c3,c4⟩:=hc _ (aB hi dU);have hr:=aR hLl;unfold U8 at c1 c2 c3 c4;have hns:ns.length < 9223372036854775807:=by have:=h.1;unfold reachBytes at this;omega
 obtain⟨j,hj,hjl⟩:∃j:Nat,remI (wrp .i64 (L.getD i dU).Node) (ns.length:Int)=(j:Int)/\j < ns.length:=by
  have e:remI (wrp .i64 (L.getD i dU).Node) (ns.length:Int)=(L.getD i dU).Node % (ns.length:Int):=by
   rw[cK ⟨by omega,by omega⟩,bF c2.1 (by omega)]
  have h0:=Int.emod_nonneg (L.getD i dU).Node (by omega:(ns.length:Int)≠0);have h1:=Int.emod_lt_of_pos (L.getD i dU).Node (by omega:(0:Int) < ns.length);exact⟨((L.getD i dU).Node % (ns.length:Int)).toNat,by rw[e];omega,by omega⟩
 obtain⟨⟨n1,n2,n3,n4,n5,n6⟩,n7⟩:=h.2 _ (aB hjl dNd);have hd:∀z:Nat,z < (ns.getD j dNd).Parts.length->U8 ((ns.getD j dNd).Parts.getD z bP).ID/\U8 ((ns.getD j dNd).Parts.getD z bP).Type_/\U8 ((ns.getD j dNd).Parts.getD z bP).Flag:=fun z hz=>n5 _ (aB hz _)
 rw[bu,if_pos (by
  have a:(i:Int) < (L.length:Int):=by omega
  simp[a,hn]),if_pos (au hi),az]
 simp only[oZ4,oZ3];rw[if_pos (show(!(decide ((ns.length:Int)=0)))=true from by rw[Bool.not_eq_true'];exact decide_eq_false (by omega)),hj,if_pos (au hjl),az,if_pos (decide_eq_true hjl),List.nil_append,if_pos (room3 n7),if_pos (decide_eq_true hjl)];simp only[decide_true,if_true,hjl]
 have e1:addI .i64 (i:Int) 1=((i+1:Nat):Int):=aE (by omega);rw[e1];generalize hp:ns.getD j dNd=p at*;generalize hcc:L.getD i dU=c at*
 have okp:∀{a b cc:Int} {l:List df},U8 a->U8 b->U8 cc->(∀q,q∈l->U8 q.ID/\U8 q.Type_/\U8 q.Flag)->l.length<=p.Parts.length+8/\(l.length<=p.Parts.length\/l.length<=8)->NdOk ⟨p.Kind,a,b,cc,l⟩:=fun {a b cc l} ha hb hc hl hn=>⟨⟨n1,ha,hb,hc,hl,by show l.length<=_;unfold reachBytes at*;omega⟩,by show l.length*3<=_;unfold reachBytes at*;omega⟩
 have gs:∀q:Nd,(ns.set j q).getD j aw=q:=fun q=>by rw[bn (by rw[List.length_set];exact hjl)];simp
 have u8c:∀{a:Int},0<=a/\a<=255->U8 a:=fun h=>h
 have lp:(p.Parts.length:Int) < 9223372036854775807:=by unfold reachBytes at n7;omega
 have par:∀{l:List df},(∀q,q∈l->U8 q.ID/\U8 q.Type_/\U8 q.Flag)->l.length<=p.Parts.length+8/\(l.length<=p.Parts.length\/l.length<=8)->NdOk ⟨p.Kind,p.A,p.B,p.C,l⟩:=fun {l} h1 h2=>okp n2 n3 n4 h1 h2
 have self:p.Parts.length<=p.Parts.length+8/\(p.Parts.length<=p.Parts.length\/p.Parts.length<=8):=by omega
 by_cases hl:0 < p.Parts.length
 . have hl':(0:Int) < (p.Parts.length:Int):=by omega
   obtain⟨z,hz,hzl⟩:∃z:Nat,remI (wrp .i64 c.A) (p.Parts.length:Int)=(z:Int)/\z < p.Parts.length:=by
    have e:remI (wrp .i64 c.A) (p.Parts.length:Int)=c.A % (p.Parts.length:Int):=by
     rw[cK ⟨by omega,by omega⟩,bF c3.1 (by omega)]
    have h0:=Int.emod_nonneg c.A (by omega:(p.Parts.length:Int)≠0);have h1:=Int.emod_lt_of_pos c.A hl';exact⟨(c.A % (p.Parts.length:Int)).toNat,by rw[e];omega,by omega⟩
   simp only[hl',hz,decide_true,if_true,gs,List.set_set];rw[if_pos (show(!(decide ((p.Parts.length:Int)=0)))=true from by rw[Bool.not_eq_true'];exact decide_eq_false (by omega))];by_cases k0:remI c.Kind 8=0
   . simp only[k0,decide_true,if_true];exact⟨_,h.set j (okp (dE _) n3 n4 n5 self),List.length_set,rfl⟩
   by_cases k1:remI c.Kind 8=1
   . simp only[k1,decide_true,decide_false,Int.reduceEq,Bool.false_eq_true,if_true,if_false];exact⟨_,h.set j (okp n2 (dE _) n4 n5 self),List.length_set,rfl⟩
   by_cases k2:remI c.Kind 8=2
   . have k2':0<=remI c.A 6:=by rw[bF c3.1 (by omega)];omega
     simp only[k2,k2',decide_true,decide_false,Int.reduceEq,Bool.false_eq_true,if_true,if_false];exact⟨_,h.set j (okp (dE _) n3 n4 n5 self),List.length_set,rfl⟩
   by_cases k3:remI c.Kind 8=3
   . simp only[k3,decide_true,decide_false,Int.reduceEq,Bool.false_eq_true,if_true,if_false];exact⟨_,h.set j (okp n2 n3 (dE _) n5 self),List.length_set,rfl⟩
   by_cases k4:remI c.Kind 8=4
   . by_cases k8:(p.Parts.length:Int) < 8
     . simp only[k4,k8,decide_true,decide_false,Int.reduceEq,Bool.false_eq_true,if_true,if_false];rw[if_pos (room3 (by rw[List.length_append];unfold reachBytes;simp;omega))];refine⟨_,h.set j (par (fun q hq=>?_) (by rw[List.length_append];simp;omega)),List.length_set,rfl⟩;rcases List.mem_append.1 hq with hq | hq
       . exact n5 q hq
       . rw[List.mem_singleton.1 hq];exact⟨u8c c3,u8c c4,dE _⟩
     . simp only[k4,k8,decide_true,decide_false,Int.reduceEq,Bool.false_eq_true,if_true,if_false];exact⟨_,h.set j (par n5 self),List.length_set,rfl⟩
   by_cases k5:remI c.Kind 8=5
   . simp only[k5,decide_true,decide_false,Int.reduceEq,Bool.false_eq_true,if_true,if_false];have ez:addI .i64 (z:Int) 1=((z+1:Nat):Int):=aE (by omega);rw[ez,if_pos (cD.2 (by omega)),if_pos (cD.2 (by omega)),az,az,az,if_pos (by simp;omega)]
     refine⟨_,h.set j (par (fun q hq=>?_) (by rw[List.length_append,List.length_take,List.length_take,List.length_drop];omega)),List.length_set,rfl⟩;rcases List.mem_append.1 hq with hq | hq
     . exact n5 q (List.mem_of_mem_take hq)
     . exact n5 q (List.mem_of_mem_drop (List.mem_of_mem_take hq))
   have setP:∀{w:df},U8 w.ID/\U8 w.Type_/\U8 w.Flag->NdOk ⟨p.Kind,p.A,p.B,p.C,p.Parts.set z w⟩:=fun {w} hw=>par (fun q hq=>by
    rcases List.mem_or_eq_of_mem_set hq with hq | rfl
    . exact n5 q hq
    . exact hw) (by rw[List.length_set];exact self)
   by_cases k6:remI c.Kind 8=6
   . simp only[k6,decide_true,decide_false,Int.reduceEq,Bool.false_eq_true,if_true,if_false];rw[if_pos (au hzl),az,if_pos (decide_eq_true hzl)];exact⟨_,h.set j (setP (w:=⟨(p.Parts.getD z bP).ID,(p.Parts.getD z bP).Type_,c.B⟩) ⟨(hd z hzl).1,(hd z hzl).2.1,u8c c4⟩),List.length_set,rfl⟩
   . simp only[k0,k1,k2,k3,k4,k5,k6,decide_false,Bool.false_eq_true,if_false];rw[if_pos (au hzl),az,if_pos (decide_eq_true hzl),if_pos (au hzl),if_pos (decide_eq_true hzl)];exact⟨_,h.set j (setP (w:=⟨(p.Parts.getD z bP).ID,addI .u8 (p.Parts.getD z bP).Type_ c.B,(p.Parts.getD z bP).Flag⟩) ⟨(hd z hzl).1,dE _,(hd z hzl).2.2⟩),List.length_set,rfl⟩
 . have hl':¬(0:Int) < (p.Parts.length:Int):=by omega
   simp only[hl',decide_false,Bool.false_eq_true,if_false,gs,List.set_set];by_cases k0:remI c.Kind 8=0
   . simp only[k0,decide_true,if_true];exact⟨_,h.set j (okp (dE _) n3 n4 n5 self),List.length_set,rfl⟩
   by_cases k1:remI c.Kind 8=1
   . simp only[k1,decide_true,decide_false,Int.reduceEq,Bool.false_eq_true,if_true,if_false];exact⟨_,h.set j (okp n2 (dE _) n4 n5 self),List.length_set,rfl⟩
   by_cases k2:remI c.Kind 8=2
   . have k2':0<=remI c.A 6:=by rw[bF c3.1 (by omega)];omega
     simp only[k2,k2',decide_true,decide_false,Int.reduceEq,Bool.false_eq_true,if_true,if_false];exact⟨_,h.set j (okp (dE _) n3 n4 n5 self),List.length_set,rfl⟩
   by_cases k3:remI c.Kind 8=3
   . simp only[k3,decide_true,decide_false,Int.reduceEq,Bool.false_eq_true,if_true,if_false];exact⟨_,h.set j (okp n2 n3 (dE _) n5 self),List.length_set,rfl⟩
   by_cases k4:remI c.Kind 8=4
   . have k8:(p.Parts.length:Int) < 8:=by omega
     simp only[k4,k8,decide_true,decide_false,Int.reduceEq,Bool.false_eq_true,if_true,if_false];rw[if_pos (room3 (by rw[List.length_append];unfold reachBytes;simp;omega))];refine⟨_,h.set j (par (fun q hq=>?_) (by rw[List.length_append];simp;omega)),List.length_set,rfl⟩;rcases List.mem_append.1 hq with hq | hq
     . exact n5 q hq
     . rw[List.mem_singleton.1 hq];exact⟨u8c c3,u8c c4,dE _⟩
   have fin:=h.set j (par n5 self);by_cases k5:remI c.Kind 8=5
   . simp only[k5,decide_true,decide_false,Int.reduceEq,Bool.false_eq_true,if_true,if_false];exact⟨_,fin,List.length_set,rfl⟩
   by_cases k6:remI c.Kind 8=6
   . simp only[k6,decide_true,decide_false,Int.reduceEq,Bool.false_eq_true,if_true,if_false];exact⟨_,fin,List.length_set,rfl⟩
   . simp only[k0,k1,k2,k3,k4,k5,k6,decide_false,Bool.false_eq_true,if_false];exact⟨_,fin,List.length_set,rfl⟩
theorem zB{L:List db}(hLl:L.length<=reachBytes)(hc:∀c,c∈L->ChOk c):∀(k i:Nat) {ns:List Nd},i+k=L.length->NsOk ns->∃ns',NsOk ns'/\ns'.length=ns.length/\bu (L,(i:Int),ns)=some ns'
 | 0,i,ns,hi,h=>⟨ns,h,rfl,by
  have a:¬(i:Int) < (L.length:Int):=by omega
  rw[bu,if_neg (by simp[a])]⟩
 | k+1,i,ns,hi,h=>by
  by_cases hn:0 < ns.length
  . obtain⟨ns',h1,h3,h2⟩:=HO hLl hc (by omega:i < L.length) h hn;rw[h2,<-h3];exact zB hLl hc k (i+1) (by omega) h1
  . refine⟨ns,h,rfl,?_⟩;have b:decide ((0:Int) < (ns.length:Int))=false:=decide_eq_false (by omega);rw[bu,b,if_neg];cases decide ((i:Int) < (L.length:Int)) <;> simp
theorem NsOk.dok{d:aT}(h:NsOk d.Nodes):DOk d:=⟨by have:=h.1;unfold reachBytes at*;omega,fun x hx=>(h.2 x hx).1⟩
theorem Ff{d:aT}(h:NsOk d.Nodes){L:List db}(hLl:L.length<=reachBytes)(hc:∀c,c∈L->ChOk c):∃d',NsOk d'.Nodes/\d'.Nodes.length=d.Nodes.length/\mq (d,L)=some d':=by
 obtain⟨ns',h1,h3,h2⟩:=zB hLl hc L.length 0 (by omega) h;have h2':bu (L,0,d.Nodes)=some ns':=h2;refine⟨⟨ns'⟩,h1,h3,?_⟩;rw[mq,List.nil_append,if_pos (room32' h.1),h2'];rfl
theorem HP{d:dd}{ts:List ae}{t:Int}{v w:ab}(hd:DOk d.S)(h:gU d=some (⟨ts⟩,t,v,w,true)):ts.length=d.S.Nodes.length:=by
 rw[gU]at h;rcases of_eq hd with e | ⟨l,e,_,_,e2,_⟩
 . rw[e]at h;simp at h
 . rw[e]at h;simp only[oZ4,oZ3,Bool.not_true,Bool.false_eq_true,if_false]at h;split at h
   . cases a:kl ((⟨l⟩:av),remI (wrp .i64 d.T) (l.length:Int),d.C)with
     | none=>rw[a]at h;cases h
     | some x=>
      rw[a]at h;simp only[oZ3]at h;cases b:jX ((⟨l⟩:av),remI (wrp .i64 d.T) (l.length:Int),d.C)with
      | none=>rw[b]at h;cases h
      | some y=>
       rw[b]at h;simp only[oZ3,Option.some.injEq,Prod.mk.injEq,av.mk.injEq]at h;rw[<-h.1,e2]
   . cases h
structure CaseIn (c:dr):Prop where
 d:DrIn c.D
 n:NsOk c.D.S.Nodes
 l:c.L.length<=reachBytes
 c:∀x,x∈c.L->ChOk x
structure CaseOut (tw tr:List ae) (t:Int) (v:ab):Prop where
 W:DrOk tw
 R:DrOk tr
 t0:0<=t
 t1:t < tw.length
 t2:t < tr.length
 f:vfit tw true t v
 o:OkV v
 w:wt v<=3000
theorem HQ{c:dr}(h:CaseIn c):(∃w r t v,kB c=some (w,r,t,v,false))\/∃tw tr t v,kB c=some (⟨tw⟩,⟨tr⟩,t,v,true)/\CaseOut tw tr t v:=by
 obtain⟨d',d1,d3,d2⟩:=Ff h.n h.l h.c;rw[kB];rcases of8 h.d with⟨s,t,v,w,e⟩ | ⟨ts,t,v,w,e,H,ht,⟨v1,v2,v3⟩,_⟩
 . rw[e];simp only[oZ4,oZ3];rw[d2];simp only[oZ3];rcases of_ok d1.dok with e' | ⟨l,e',_⟩ <;> rw[e'] <;> exact .inl ⟨_,_,_,_,rfl⟩
 . have hl:=HP h.d.s e;rw[e];simp only[oZ4,oZ3];rw[d2];simp only[oZ3];rcases of_eq d1.dok with e' | ⟨l,e',_,_,l2,_⟩
   . rw[e'];exact .inl ⟨_,_,_,_,rfl⟩
   . rcases of_ok d1.dok with e2 | ⟨l',e2,HR⟩
     . rw[e']at e2;cases e2
     . rw[e']at e2;have:l=l':=by injection e2 with q;injection q with q _;injection q
       subst this;rw[e'];simp only[oZ3,Bool.not_true,cond_false];cases h4:decide (4 < (c.L.length:Int))with
       | true=>exact .inl ⟨_,_,_,_,rfl⟩
       | false=>
        obtain⟨b,b1,b2⟩:=DT v2;simp only[Bool.not_false,if_true,cond_false,ab.aA];rw[b1];cases b with
        | false=>exact .inl ⟨_,_,_,_,rfl⟩
        | true=>exact .inr ⟨ts,l,t,v,rfl,H,HR,ht.1,ht.2,by omega,v1,v2,b2 rfl⟩
section
variable {tw tr:List ae} {t rt:Int} {v:ab}
theorem wO(HW:DrOk tw)(HR:DrOk tr)(hv:OkV v)(hf:vfit tw true t v)(r0:0<=rt)(r1:rt < tr.length):kF ((⟨tw⟩:av),t,v,(⟨tr⟩:av),rt)=some 0:=by
 obtain⟨⟨g1,g2,_⟩,_⟩:=(cn _ _ _).1 hf;have ex:∀{ts:List ae} {t:Int},DrOk ts->0<=t->t < ts.length->kz ((⟨ts⟩:av),t)=some 0:=fun {ts t} H a b=>by
  rw[kz,(qP H.T H.V).1];simp only[oZ4,oZ3];have c1:¬t < 0:=by omega
  have c2:¬(ts.length:Int)<=t:=by omega
  rw[if_neg (by simp),if_neg (by simp[c1,c2])]
 obtain⟨r,q1,q2⟩:=xC (HW.V.sok HW.T) hv t true;have hr:=q2.2 hf;subst hr;rw[kF];simp only[ab.aA];rw[ex HW g1 g2];simp only[oZ4,oZ3];rw[if_neg (by simp),ex HR r0 r1];simp only[oZ3];rw[if_neg (by simp),p9];simp only[ab.aA];rw[q1];rfl
theorem wP(HW:DrOk tw)(HR:DrOk tr)(hv:OkV v)(hf:vfit tw true t v)(r0:0<=rt)(r1:rt < tr.length):kf ((⟨tw⟩:av),t,v,(⟨tr⟩:av),rt)=some 0:=by
 obtain⟨⟨g1,g2,_⟩,_⟩:=(cn _ _ _).1 hf;have ex:∀{ts:List ae} {t:Int},DrOk ts->0<=t->t < ts.length->ke ((⟨ts⟩:av),t)=some 0:=fun {ts t} H a b=>by
  rw[ke,(qP H.T H.V).2];simp only[oZ4,oZ3];have c1:¬t < 0:=by omega
  have c2:¬(ts.length:Int)<=t:=by omega
  rw[if_neg (by simp),if_neg (by simp[c1,c2])]
 have HS:=HW.V.sok HW.T;obtain⟨q,q1,q2⟩:=xq (by have:=HS.n;omega) HW.T HS.K hv t true;have hr:=q2.2 hf;subst hr;rw[kf];simp only[ab.aA];rw[ex HW g1 g2];simp only[oZ4,oZ3];rw[if_neg (by simp),ex HR r0 r1];simp only[oZ3];rw[if_neg (by simp),o0];simp only[ab.aA];rw[q1];rfl
theorem qT{α:Type}{a:α ⊕ List Int}{b:List α ⊕ List Int}{p:List Int}(h:consR a b= .inr p):a= .inr p\/b= .inr p:=by
 cases a with
 | inr q=>left;simpa[consR]using h
 | inl u=>cases b with
  | inr q=>right;simpa[consR]using h
  | inl us=>simp[consR]at h
theorem lA{α β:Type}{g:α->β}{a:α ⊕ List Int}{p:List Int}(h:mapR g a= .inr p):a= .inr p:=by
 cases a with
 | inr q=>simpa[mapR]using h
 | inl u=>simp[mapR]at h
theorem wQ{α β:Type}{g:α->β ⊕ List Int}{a:α ⊕ List Int}{p:List Int}(h:bindR g a= .inr p):a= .inr p\/∃u,g u= .inr p:=by
 cases a with
 | inr q=>left;simpa[bindR]using h
 | inl u=>right;exact⟨u,by simpa[bindR]using h⟩
def Short(f:Rdr)(n:Nat):Prop:=∀t v rt path p,f t v rt path= .inr p->p.length<=path.length+n
theorem lb{f:Rdr}{n:Nat}(hf:Short f n){path:List Int}{t rt:Int}:∀{l:List ab} {i:Nat} {p:List Int},aV f path t rt i l= .inr p->p.length<=path.length+n+1
 | [],i,p,h=>by simp[aV]at h
 | v::l,i,p,h=>by
  rcases qT h with h | h
  . have:=hf _ _ _ _ _ h;simp at this;omega
  . exact lb hf h
theorem wR{f:Rdr}{n:Nat}(hf:Short f n){x:ae}{v:ab}{path:List Int}:∀{l:List aj} {p:List Int},rmems f x v path l= .inr p->p.length<=path.length+n+1
 | [],p,h=>by simp[rmems]at h
 | m::l,p,h=>by
  rcases qT h with h | h
  . unfold rmem at h;split at h
    . split at h
      . cases h
      . cases h;simp <;> omega
    . rename_i i _;cases hc:f (x.Members.getD i ag).Type_ (v.Items.getD i af) m.Type_ (path++[m.ID])with
      | inr q=>
       have:=hf _ _ _ _ _ hc;rw[hc,rl]at h;simp at this;split at h <;> cases h
       . simp <;> omega
       . omega
      | inl u=>
       rw[hc,rn]at h;split at h <;> cases h
       simp <;> omega
  . exact wR hf h
theorem nP{tw:List ae}{y:ae}{path:List Int}:∀{ms:List aj} {l:List ab} {p:List Int},rrest tw y path ms l= .inr p->p.length<=path.length+1
 | [],l,p,h=>by
  rw[rrest]at h
  . cases h
  . intros;simp_all
 | m::ms,[],p,h=>by
  rw[rrest]at h
  . cases h
  . intros;simp_all
 | m::ms,v::l,p,h=>by
  rw[rrest]at h;split at h
  . exact nP h
  split at h
  . cases h;simp
  split at h
  . exact nP h
  rcases qT h with h | h
  . cases h
  . exact nP h
theorem wS{tw tr:List ae}:∀n,Short (vread tw tr n) n
 | 0=>fun t v rt path p h=>by cases h;omega
 | n+1=>fun t v rt path p h=>by
  have ih:=wS (tw:=tw) (tr:=tr) n;rw[kZ]at h;unfold rdK at h;split at h
  . cases h;omega
  split at h
  . rcases wQ h with h | ⟨u,h⟩
    . exact wR ih h
    . have:=nP (lA h);omega
  split at h
  . unfold rd6 at h;split at h
    . cases h;omega
    . split at h
      . have:=ih _ _ _ _ _ (lA h);simp at this;omega
      . split at h <;> cases h
        omega
  split at h
  . unfold rd7 at h;split at h
    . exact lb ih (lA h)
    . cases h;omega
  split at h
  . unfold rd8 at h;split at h
    . rcases wQ h with h | ⟨u,h⟩
      . exact lb ih h
      . exact lb ih (lA h)
    . cases h;omega
  split at h
  . exact lb ih (lA h)
  split at h <;> cases h
  omega
theorem KR{a b:List Int}(ha:a.length < 9223372036854775807):Says (fQ (a,b)) a b:=by
 rw[fQ];by_cases hl:a.length=b.length
 . rw[if_neg (by simp;omega)];have:=scan (fun i=>cM (a,b,(a.length:Int),(i:Int))) a.length (fun i=>decide (a.getD i 0=b.getD i 0)) (.inl false) (.inr ())
    (fun i hi=>by
     rw[cM,if_pos (by simp;omega),if_pos (au hi),if_pos (au (by omega)),az,aE (by omega)];by_cases h:a.getD i 0=b.getD i 0
     . have e:decide (a.getD i 0=b.getD i 0)=true:=decide_eq_true h;rw[e];rfl
     . have e:decide (a.getD i 0=b.getD i 0)=false:=decide_eq_false h
       rw[e];rfl)
    (by rw[cM,if_neg (by simp)])
   have h0:cM (a,b,(a.length:Int),((0:Nat):Int))=cM (a,b,(a.length:Int),0):=rfl;simp only[h0]at this;refine Says.of_scan (p:=fun i=>decide (a.getD i 0=b.getD i 0)) hl (fun i h1 h2=>by simp only[bn h1,bn h2,decide_eq_true_eq]) ?_;rcases this with⟨h1,h2⟩ | ⟨h1,h2⟩
   . exact .inl ⟨by rw[h1];rfl,h2⟩
   . exact .inr ⟨by rw[h1];rfl,h2⟩
 . rw[if_pos (by simp;omega)];exact⟨false,rfl,by simp;rintro rfl;exact hl rfl⟩
def RA :ab ⊕ List Int->ab×Int
 | .inl u=>(u,0)
 | .inr _=>(⟨0,false,0,[],0,[],[],[]⟩,12)
def MA :ab ⊕ List Int->List Int×Int
 | .inl _=>([],15)
 | .inr p=>(p,0)
noncomputable def vrd (tw tr:List ae) (t:Int) (v:ab) (rt:Int):ab ⊕ List Int:=vread tw tr 3000 t v rt []
theorem DU(HW:DrOk tw)(HR:DrOk tr)(hv:OkV v)(hw:wt v<=3000)(hf:vfit tw true t v)(r0:0<=rt)(r1:rt < tr.length):mK ((⟨tw⟩:av),t,v,(⟨tr⟩:av),rt)=some (RA (vrd tw tr t v rt)):=by
 have h:=rp HW HR 3000 hv hw hw [] hf r0 r1 (path:=[]) (by simp);rw[mK];simp only[ab.aA];rw[wO HW HR hv hf r0 r1];simp only[oZ4,oZ3];rw[if_neg (by simp),h];unfold vrd;cases vread tw tr 3000 t v rt [] <;> rfl
theorem DV(HW:DrOk tw)(HR:DrOk tr)(hv:OkV v)(hw:wt v<=3000)(hf:vfit tw true t v)(r0:0<=rt)(r1:rt < tr.length):mL ((⟨tw⟩:av),t,v,(⟨tr⟩:av),rt)=some (MA (vrd tw tr t v rt)):=by
 have h:=rp HW HR 3000 hv hw hw [] hf r0 r1 (path:=[]) (by simp);rw[mL];simp only[ab.aA];rw[wO HW HR hv hf r0 r1];simp only[oZ4,oZ3];rw[if_neg (by simp),h];unfold vrd;cases vread tw tr 3000 t v rt [] <;> rfl
theorem DW(HW:DrOk tw)(HR:DrOk tr)(hv:OkV v)(hw:wt v<=3000)(hf:vfit tw true t v)(r0:0<=rt)(r1:rt < tr.length):mr ((⟨tw⟩:av),t,v,(⟨tr⟩:av),rt)=some (RA (vrd tw tr t v rt)):=by
 have h:=rq HW HR 3000 hv hw hw hf r0 r1 (path:=[]) (by simp);rw[mr];simp only[ab.aA];rw[wP HW HR hv hf r0 r1];simp only[oZ4,oZ3];rw[if_neg (by simp),h];unfold vrd;cases vread tw tr 3000 t v rt [] <;> rfl
theorem DX(HW:DrOk tw)(HR:DrOk tr)(hv:OkV v)(hw:wt v<=3000)(hf:vfit tw true t v)(r0:0<=rt)(r1:rt < tr.length):mu ((⟨tw⟩:av),t,v,(⟨tr⟩:av),rt)=some (MA (vrd tw tr t v rt)):=by
 have h:=rq HW HR 3000 hv hw hw hf r0 r1 (path:=[]) (by simp);rw[mu];simp only[ab.aA];rw[wP HW HR hv hf r0 r1];simp only[oZ4,oZ3];rw[if_neg (by simp),h];unfold vrd;cases vread tw tr 3000 t v rt [] <;> rfl
theorem Ha(HW:DrOk tw)(HR:DrOk tr)(hv:OkV v)(hw:wt v<=3000)(hf:vfit tw true t v)(r0:0<=rt)(r1:rt < tr.length){u:ab}(h:vrd tw tr t v rt= .inl u):oE tr rt u:=qR HW HR 3000 hv hw hf r0 r1 h
theorem rA_ok(HW:DrOk tw)(HR:DrOk tr)(hv:OkV v)(hw:wt v<=3000)(hf:vfit tw true t v)(r0:0<=rt)(r1:rt < tr.length):OkV (RA (vrd tw tr t v rt)).1:=by
 cases h:vrd tw tr t v rt with
 | inl u=>exact(Ha HW HR hv hw hf r0 r1 h).1
 | inr p=>exact G5
end
theorem HT{ns:List Nd}(h:WF Un ⟨.slice (.nm iZ),ns⟩):NsOk ns:=by
 obtain⟨a,b,c⟩:=ju (t:= .nm iZ) h;have D:=yB (d:=⟨ns⟩) h;refine⟨b,fun x hx=>⟨D.2 x hx,?_⟩⟩;exact(ju (t:= .nm mB) (c x hx ⟨.slice (.nm mB),x.Parts⟩ (.tail _ (.tail _ (.tail _ (.tail _ (.head _))))))).2.1
theorem wfU8{n:Int}(h:WF Un ⟨.int .u8,n⟩):U8 n:=by
 cases h with
 | int k n h=>
  simp[Lit.wf,IntKind.min,IntKind.max,IntKind.bits,IntKind.signed]at h;unfold U8;omega
theorem law_in{c:dr}(h:∀d,d∈Un.flds oY c->WF Un d):CaseIn c:=by
 have c1:=h ⟨.slice (.nm iZ),c.D.S.Nodes⟩ (.head _);have c4:=h ⟨.slice (.nm sw),c.L⟩ (.tail _ (.tail _ (.tail _ (.head _))));obtain⟨a,_,e⟩:=ju (t:= .nm sw) c4;have u8:∀{n:Int},WF Un ⟨.int .u8,n⟩->U8 n:=wfU8;refine⟨G0 fun d hd=>?_,HT c1,a,fun x hx=>?_⟩
 . refine h d ?_;cases hd with
   | head=>exact .head _
   | tail _ hd=>cases hd with
    | head=>exact .tail _ (.head _)
    | tail _ hd=>cases hd with
     | head=>exact .tail _ (.tail _ (.head _))
     | tail _ hd=>cases hd
 . have hq:=e x hx;exact⟨u8 (hq ⟨.int .u8,x.Kind⟩ (.head _)),u8 (hq ⟨.int .u8,x.Node⟩ (.tail _ (.head _))),u8 (hq ⟨.int .u8,x.A⟩ (.tail _ (.tail _ (.head _)))),u8 (hq ⟨.int .u8,x.B⟩ (.tail _ (.tail _ (.tail _ (.head _)))))⟩
theorem KS{tw tr:List ae}(t:Int)(v:ab)(rt:Int):(MA (vrd tw tr t v rt)).1.length < 9223372036854775807:=by
 cases h:vrd tw tr t v rt with
 | inl u=>simp[MA]
 | inr p=>
  have:=wS 3000 _ _ _ _ _ h;simp at this;show p.length < _;omega
theorem Fg{c:dr}(hc:CaseIn c){k:Int}(hk:U8 k):mg (c,k)=some true:=by
 rw[mg];rcases HQ hc with⟨w,r,t,v,e⟩ | ⟨tw,tr,t,v,e,C⟩
 . rw[e];simp only[oZ4,oZ3,sf];rfl
 . rw[e];simp only[oZ4,oZ3,sf,Bool.not_true,cond_false,ab.aA];have hn1:=C.R.n1;have hn5:=C.R.n5;unfold U8 at hk;have er:remI (wrp .i64 k) (tr.length:Int)=k % (tr.length:Int):=by rw[cK ⟨by omega,by omega⟩,bF hk.1 (by omega)]
   have r0:0<=k % (tr.length:Int):=Int.emod_nonneg _ (by omega);have r1:k % (tr.length:Int) < tr.length:=Int.emod_lt_of_pos _ (by omega);rw[if_neg (by simp),if_pos (nz (by omega)),er];generalize k % (tr.length:Int)=i at*;rw[DU C.W C.R C.o C.w C.f r0 r1];simp only[oZ3];rw[DW C.W C.R C.o C.w C.f r0 r1];simp only[oZ3]
   rw[DV C.W C.R C.o C.w C.f r0 r1];simp only[oZ3];rw[DX C.W C.R C.o C.w C.f r0 r1];have hq:=rA_ok C.W C.R C.o C.w C.f r0 r1;obtain⟨a,a1,a2⟩:=xD hq (RA (vrd tw tr t v i)).1;have ha:=a2.2 rfl;subst ha;obtain⟨b,b1,b2⟩:=KR (b:=(MA (vrd tw tr t v i)).1) (KS (tw:=tw) (tr:=tr) t v i);have hb:=b2.2 rfl;subst hb
   simp only[oZ3,decide_true,if_true,cond_true];rw[a1];simp only[oZ3,cond_true,if_true];rw[b1];rfl
theorem law_MeaningTypes(h:Hs Un.D [.nm oY,.int .u8])(hk:Ok Un [.nm oY,.int .u8] h):mg h=some true:=Fg (law_in (KH hk)) (wfU8 (okOne (KI hk) ⟨.int .u8,h.2⟩ (.head _)))
end
end Go.Proofs.YtandcioiaooocaaGreat
