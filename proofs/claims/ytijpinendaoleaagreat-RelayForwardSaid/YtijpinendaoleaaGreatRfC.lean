/- The functions of the program as functions of Lean, that its code does what they say, and what they answer; part C. -/
import Derived.Test.YtijpinendaoleaaGreatRfB

namespace Go.Proofs.YtijpinendaoleaaGreat
set_option linter.all false
section
open Go Go.Proofs.YtijpinendaoleaaGreat.Shv Go.Sort
set_option maxRecDepth 100000
section
variable {ns:List Nd} (hN:∀x,x∈ns->NOk x) (h5:ns.length<=5)
structure MemP (ns:List Nd) (i:Int) (record:Bool) (m:ap):Prop where
 id:1<=m.ID/\m.ID<=12
 name:m.Name=[UInt8.ofNat 109,UInt8.ofNat (97+m.ID.toNat)]
 tgt:Tgt ns i m.Type_
 crit:m.Critical=true->m.HasDefault=false
 un:record=false->m.Critical=false/\m.HasDefault=false
 nod:m.HasDefault=false->m.Default=af
 dfl:m.HasDefault=true->Init ns m.Type_ m.Default
include hN h5 in
theorem yL (h1 : 1 <= ns.length) {i : Int} (hi : 0 <= i /\ i < ns.length) {x : Nd} (hx : NOk x) (record : Bool) {id : Int} (hid : 1 <= id /\ id <= 12) {acc : List ap} (ha : acc.length <= 12):
 ∀(k j:Nat),j+k=x.Parts.length->∃l,fZ (i,record,id,(j:Int),ns,x,acc)=some (i,record,id,ns,x,acc++l)/\l.length<=1/\∀m,m∈l->m.ID=id/\MemP ns i record m
 | 0,j,hj=>⟨[],by rw[fZ,if_neg (by simp;omega)];simp,by simp,fun m hm=>by cases hm⟩
 | k+1,j,hj=>by
  have hlt:j < x.Parts.length:=by omega
  have hr:=aS hx.l;obtain⟨q1,q2,q3⟩:=hx.p _ (aC hlt dPt);obtain⟨u,hu,hu2⟩:=IA hN h5 h1 hi q2;rw[fZ,if_pos (by simp;omega),if_pos (au hlt)];simp only[oZ4,oZ3,aw];have hu':kN ((⟨ns⟩:aT),i,(x.Parts.getD j lb).Type_)=some u:=hu;rw[hu'];simp only[oZ3];generalize hp:x.Parts.getD j lb=p
  have q1':U8 p.ID:=by rw[<-hp];exact q1
  have q3':U8 p.Flag:=by rw[<-hp];exact q3
  obtain⟨f1,f2⟩:=q3';have e1:remI p.Flag 4=p.Flag % 4:=cn f1 (by omega);have e2:quoI .u8 p.Flag 4=p.Flag / 4:=NE f1 f2;have rec':=yL h1 hi hx record hid ha k (j+1) (by omega);by_cases hskip:(bif (!(decide (addI .i64 1 (wrp .i64 (remI p.ID 12))=id)))then true else decide (u < 0))=true
  . rw[if_pos hskip,aB (by omega)];exact rec'
  . rw[if_neg hskip];have hu0:Tgt ns i u:=by grind
    have hrune:=BF (k:=id) ⟨by omega,by omega⟩;rw[hrune];have hname:([109]++[UInt8.ofNat (97+id.toNat)]:List UInt8)=[UInt8.ofNat 109,UInt8.ofNat (97+id.toNat)]:=rfl;rw[if_pos (bO (by simp)),hname,e1,e2];obtain⟨r,r1,r2,r3⟩:=HD hN h5 h1 ⟨hu0.1,hu0.2.1⟩ (code:=p.Flag / 4) ⟨by omega,by omega⟩
    have hroom:∀m:ap,room 160 (acc++[m]).length=true:=fun m=>aW (by omega) (by simp;omega)
    have done:∀m:ap,m.ID=id->MemP ns i record m->∃l,(some (i,record,id,ns,x,acc++[m]):Option (Int×Bool×Int×List Nd×Nd×List ap))=some (i,record,id,ns,x,acc++l)/\l.length<=1/\∀m,m∈l->m.ID=id/\MemP ns i record m:=fun m a b=>⟨[m],rfl,by simp,fun y hy=>by grind⟩
    cases record with
    | false=>
     simp only[cond_false,Bool.false_eq_true,if_false];rw[if_pos (hroom _)];exact done _ rfl ⟨hid,rfl,hu0,fun h=>(by cases h),fun _=>⟨rfl,rfl⟩,fun _=>rfl,fun h=>by cases h⟩
    | true=>
     simp only[cond_true];by_cases g1:p.Flag % 4=1
     . rw[if_pos (by simpa using g1),if_neg (by simp;omega),if_pos (hroom _)];exact done _ rfl ⟨hid,rfl,hu0,fun _=>rfl,fun h=>(by cases h),fun _=>rfl,fun h=>by cases h⟩
     . rw[if_neg (by simpa using g1)];by_cases g2:2<=p.Flag % 4
       . rw[if_pos (by simpa using g2),r1];simp only[oZ3,ab.aA];rw[if_pos (hroom _)];exact done _ rfl ⟨hid,rfl,hu0,fun h=>(by cases h),fun h=>(by cases h),r2,r3⟩
       . rw[if_neg (by simpa using g2),if_pos (hroom _)];exact done _ rfl ⟨hid,rfl,hu0,fun h=>(by cases h),fun h=>(by cases h),fun _=>rfl,fun h=>by cases h⟩
def MemsP(ns:List Nd)(i:Int)(record:Bool)(l:List ap):Prop:=l.Pairwise (fun a b=>a.ID < b.ID)/\(∀m,m∈l->MemP ns i record m)/\l.length<=12
include hN h5 in
theorem yM (h1 : 1 <= ns.length) {i : Int} (hi : 0 <= i /\ i < ns.length) {x : Nd} (hx : NOk x) (record : Bool): ∀ (k id : Nat) (acc : List ap), id + k = 13 -> 1 <= id ->
 acc.Pairwise (fun a b=>a.ID < b.ID)->(∀m,m∈acc->MemP ns i record m/\m.ID < id)->acc.length < id->∃l,f5 (i,record,(id:Int),ns,x,acc)=some l/\MemsP ns i record l
 | 0,id,acc,hk,h0,ha,hb,hl=>⟨acc,by rw[f5,if_neg (by simp;omega)],ha,fun m hm=>(hb m hm).1,by omega⟩
 | k+1,id,acc,hk,h0,ha,hb,hl=>by
  rw[f5,if_pos (by simp;omega)];obtain⟨l,l1,l2,l3⟩:=yL hN h5 h1 hi hx record (id:=(id:Int)) ⟨by omega,by omega⟩ (acc:=acc) (by omega) x.Parts.length 0 (by omega);have l1':fZ (i,record,(id:Int),0,ns,x,acc)=_:=l1;rw[l1'];simp only[oZ4,oZ3];rw[aB (by omega)]
  refine yM h1 hi hx record k (id+1) _ (by omega) (by omega) ?_ (fun m hm=>?_) (by simp;omega)
  . rw[List.pairwise_append];refine⟨ha,?_,fun a h2 b h3=>?_⟩
    . match l,l2 with
      | [],_=>exact .nil
      | [a],_=>simp
      | a::b::c,h=>simp at h
    grind
  grind
include hN h5 in
theorem yN(h1:1<=ns.length){i:Int}(hi:0<=i/\i < ns.length)(record:Bool):∃l,ic ((⟨ns⟩:aT),i,record)=some l/\MemsP ns i record l:=by
 obtain⟨j,rfl⟩:∃j:Nat,i=(j:Int):=⟨i.toNat,by omega⟩
 have hj:j < ns.length:=by omega
 have hx:=hN _ (aC hj dNd);obtain⟨l,l1,l2⟩:=yM hN h5 h1 hi hx record 12 1 [] (by omega) (by omega) .nil (fun m hm=>by cases hm) (by simp);refine⟨l,?_,l2⟩;have l1':f5 ((j:Int),record,1,ns,ns.getD j dNd,[])=some l:=l1;rw[ic,if_pos (au hj),aw]
 grind
def symsL(l:List Int):List aL:=l.map fun j=>⟨j,[UInt8.ofNat 115,UInt8.ofNat (97+j.toNat)]⟩
theorem zS {l : List Int} (hl : l.length <= 6) (hr : ∀ x, x ∈ l -> 1 <= x /\ x <= 6) (n i : Int) (b : List Nd) (b1 : Int) (b2 : List UInt8) (b3 b4 b5 b6 b7 : Int) (b8 : Bool) (b9 : List ae): ∀ (k j : Nat) (acc : List aL), j + k = l.length -> acc.length <= j ->
 eV (n,i,l,(j:Int),b,b1,b2,b3,b4,b5,b6,b7,b8,b9,acc)=some (n,i,b,b1,b2,b3,b4,b5,b6,b7,b8,b9,acc++symsL (l.drop j))
 | 0,j,acc,hj,ha=>by
  rw[eV,if_neg (by simp;omega),List.drop_eq_nil_of_le (by omega:l.length<=j)];simp[symsL]
 | k+1,j,acc,hj,ha=>by
  have hlt:j < l.length:=by omega
  have hx:=hr _ (aC hlt 0);rw[eV,if_pos (by simp;omega),if_pos (au hlt),if_pos (au hlt)];simp only[oZ4,oZ3,aw];rw[BF ⟨by omega,by omega⟩,if_pos (bO (by simp)),if_pos (aW (by omega) (by simp;omega)),aB (by omega),zS hl hr n i b b1 b2 b3 b4 b5 b6 b7 b8 b9 k (j+1) _ (by omega) (by simp;omega),bp hlt 0];simp[symsL]
def TyP(ns:List Nd)(i:Int)(t:ae):Prop:=
 let x:=ns.getD i.toNat dNd
 let n:=(ns.length:Int)
 let nameL:=[UInt8.ofNat (65+i.toNat)]
 (kd ns i=1/\t=⟨1,[],0,0,0,[],[],0,0,false⟩)\/
 (kd ns i=2/\t=⟨2,[],x.A % 7 - 3,x.A % 7 - 3+x.B % 6,0,[],[],0,0,false⟩)\/
 (kd ns i=3/\t=⟨3,[],0,0,x.A % 4,[],[],0,0,false⟩)\/
 (kd ns i=4/\∃o,t=⟨4,nameL,0,0,0,symsL (idsL x),[],0,0,o⟩)\/
 (kd ns i=5/\∃l,MemsP ns i true l/\t=⟨5,nameL,0,0,0,[],l,0,0,false⟩)\/
 (kd ns i=6/\t=⟨5,nameL,0,0,0,[],[],0,0,false⟩)\/
 (kd ns i=6/\∃l o,MemsP ns i false l/\0 < l.length/\t=⟨6,nameL,0,0,0,[],l,0,0,o⟩)\/
 (kd ns i=7/\t=⟨7,[],0,0,x.A % 4,[],[],0,x.C % n,false⟩)\/
 (kd ns i=8/\(∀w,¬KeyT ns w)/\t=⟨7,[],0,0,x.A % 4,[],[],0,x.C % n,false⟩)\/
 (kd ns i=8/\∃k,KeyT ns k/\t=⟨8,[],0,0,x.A % 4,[],[],k,x.C % n,false⟩)\/
 (kd ns i=9/\t=⟨9,[],0,0,0,[],[],0,x.C % n,false⟩)
include hN h5 in
theorem of_l0 (h1 : 1 <= ns.length): ∀ (k i : Nat) (acc : List ae), i + k = ns.length -> acc.length = i -> (∀ j, j < i -> TyP ns (j : Int) (acc.getD j ag)) ->
 ∃l,bh ((ns.length:Int),(i:Int),ns,acc)=some l/\l.length=ns.length/\∀j,j < ns.length->TyP ns (j:Int) (l.getD j ag)
 | 0,i,acc,hi,hl,ha=>⟨acc,by rw[bh,if_neg (by simp;omega)],by omega,fun j hj=>ha j (by omega)⟩
 | k+1,i,acc,hi,hl,ha=>by
  have hlt:i < ns.length:=by omega
  have hx:=hN _ (aC hlt dNd);obtain⟨e,k1,k9⟩:=kd_eq hN h5 (i:=(i:Int)) (by omega) (by omega);have next:∀t:ae,TyP ns (i:Int) t->∃l,(if room 120 (acc++[t]).length=true then bh ((ns.length:Int),addI .i64 (i:Int) 1,ns,acc++[t])else none)=some l/\l.length=ns.length/\∀j,j < ns.length->TyP ns (j:Int) (l.getD j ag):=by
   intro t ht;rw[if_pos (aW (by omega) (by simp;omega)),aB (by omega)];refine of_l0 h1 k (i+1) _ (by omega) (by simp;omega) fun j hj=>?_
   grind
  rw[bh,if_pos (by simp;omega),if_pos (au hlt)];simp only[oZ4,oZ3,aw];rw[e];simp only[oZ3,ct];have hrune:=NG (k:=(i:Int)) ⟨by omega,by omega⟩;have hT:∀t,TyP ns (i:Int) t->TyP ns (i:Int) t:=fun t h=>h
  have⟨ga,gb,gc⟩:U8 (ns.getD i dNd).A/\U8 (ns.getD i dNd).B/\U8 (ns.getD i dNd).C:=⟨hx.a,hx.b,hx.c⟩
  have g0:(!(decide ((ns.length:Int)=0)))=true:=nz (by omega);have gA:wrp .i64 (remI (ns.getD i dNd).A 4)=(ns.getD i dNd).A % 4:=by
   unfold U8 at ga;rw[cn ga.1 (by omega),fR ⟨by omega,by omega⟩]
  have gC:remI (wrp .i64 (ns.getD i dNd).C) (ns.length:Int)=(ns.getD i dNd).C % (ns.length:Int):=by
   unfold U8 at gc;rw[fR ⟨by omega,by omega⟩,cn gc.1 (by omega)]
  have hc9:kd ns (i:Int)=1\/kd ns (i:Int)=2\/kd ns (i:Int)=3\/kd ns (i:Int)=4\/kd ns (i:Int)=5\/kd ns (i:Int)=6\/kd ns (i:Int)=7\/kd ns (i:Int)=8\/kd ns (i:Int)=9:=by omega
  rcases hc9 with hk | hk | hk | hk | hk | hk | hk | hk | hk <;> rw[hk] <;>
   simp only[Int.reduceEq,decide_false,decide_true,Bool.false_eq_true,if_false,if_true,oZ3,cond_false,cond_true]
  . exact next _ (by unfold TyP;simp[hk])
  . have el:=tc hx;have eh:=zR hx;have el':fe (ns.getD i cb)=_:=el;have eh':ig (ns.getD i cb)=_:=eh;rw[el'];simp only[oZ3];rw[eh'];simp only[oZ3];exact next _ (by unfold TyP;simp only[aw];exact .inr (.inl ⟨hk,by first | trivial | rfl⟩))
  . have gA':wrp .i64 (remI (ns.getD i cb).A 4)=_:=gA;rw[gA'];exact next _ (by unfold TyP;simp only[aw];exact .inr (.inr (.inl ⟨hk,by first | trivial | rfl⟩)))
  . obtain⟨i1,i2,i3,i4⟩:=ids_eq' (ns.getD i dNd);have i1':dL (ns.getD i cb)=_:=i1;rw[i1'];simp only[oZ3];have hs:=zS (l:=idsL (ns.getD i dNd)) i4 i2.2 (ns.length:Int) (i:Int) ns 4 (dW (wrp .i32 (addI .i64 65 (i:Int)))) 0 0 0 0 0 (decide (remI (ns.getD i dNd).B 2=1)) acc (idsL (ns.getD i dNd)).length 0 [] (by omega) (by simp)
    have hs':eV ((ns.length:Int),(i:Int),idsL (ns.getD i dNd),0,ns,4,dW (wrp .i32 (addI .i64 65 (i:Int))),0,0,0,0,0,decide (remI (ns.getD i cb).B 2=1),acc,[])=_:=hs;rw[hs'];simp only[oZ3,List.drop_zero,List.nil_append];rw[hrune];exact next _ (by unfold TyP;simp only[aw];exact .inr (.inr (.inr (.inl ⟨hk,_,rfl⟩))))
  . obtain⟨l,l1,l2⟩:=yN hN h5 h1 (i:=(i:Int)) ⟨by omega,by omega⟩ true;rw[l1];simp only[oZ3];rw[hrune];exact next _ (by unfold TyP;simp only[aw];exact .inr (.inr (.inr (.inr (.inl ⟨hk,l,l2,rfl⟩)))))
  . obtain⟨l,l1,l2⟩:=yN hN h5 h1 (i:=(i:Int)) ⟨by omega,by omega⟩ false;rw[l1];simp only[oZ3];rw[hrune];by_cases h0:l.length=0
    . rw[if_pos (by simp[h0])];exact next _ (by unfold TyP;simp only[aw];exact .inr (.inr (.inr (.inr (.inr (.inl ⟨hk,by first | trivial | rfl⟩))))))
    . rw[if_neg (by simp;intro h;rw[h]at h0;simp at h0)];exact next _ (by unfold TyP;simp only[aw];exact .inr (.inr (.inr (.inr (.inr (.inr (.inl ⟨hk,l,_,l2,by omega,rfl⟩)))))))
  . have gA':wrp .i64 (remI (ns.getD i cb).A 4)=_:=gA;have gC':remI (wrp .i64 (ns.getD i cb).C) (ns.length:Int)=_:=gC;rw[if_pos g0,gA',gC'];exact next _ (by unfold TyP;simp only[aw];exact .inr (.inr (.inr (.inr (.inr (.inr (.inr (.inl ⟨hk,by first | trivial | rfl⟩))))))))
  . have gA':wrp .i64 (remI (ns.getD i cb).A 4)=_:=gA;have gC':remI (wrp .i64 (ns.getD i cb).C) (ns.length:Int)=_:=gC;obtain⟨u,u1,u2⟩:=BI hN h5 gb h1;have u1':io ((⟨ns⟩:aT),(ns.getD i cb).B)=some u:=u1;rw[u1'];simp only[oZ3];rw[if_pos g0,gA',gC'];rcases u2 with⟨rfl,a⟩ | a
    . rw[if_pos (by simp)];exact next _ (by unfold TyP;simp only[aw];exact .inr (.inr (.inr (.inr (.inr (.inr (.inr (.inr (.inl ⟨hk,a,by first | trivial | rfl⟩)))))))))
    . rw[if_neg (by have:=a.1;simp;omega)];exact next _ (by unfold TyP;simp only[aw];exact .inr (.inr (.inr (.inr (.inr (.inr (.inr (.inr (.inr (.inl ⟨hk,u,a,rfl⟩))))))))))
  . have gC':remI (wrp .i64 (ns.getD i cb).C) (ns.length:Int)=_:=gC;rw[if_pos g0,gC'];exact next _ (by unfold TyP;simp only[aw];exact .inr (.inr (.inr (.inr (.inr (.inr (.inr (.inr (.inr (.inr ⟨hk,by first | trivial | rfl⟩))))))))))
end
def DOk(d:aT):Prop:=d.Nodes.length<=reachBytes/\∀x,x∈d.Nodes->NOk x
theorem of_eq{d:aT}(hd:DOk d):ip d=some (⟨[]⟩,false)\/∃l,ip d=some (⟨l⟩,true)/\1<=d.Nodes.length/\d.Nodes.length<=5/\l.length=d.Nodes.length/\∀j,j < d.Nodes.length->TyP d.Nodes (j:Int) (l.getD j ag):=by
 rw[ip];simp only[oZ4,oZ3];by_cases h:1<=d.Nodes.length/\d.Nodes.length<=5
 . obtain⟨l,l1,l2,l3⟩:=of_l0 hd.2 h.2 h.1 d.Nodes.length 0 [] (by omega) rfl (fun j hj=>by omega)
   grind
 grind
structure DrOk (ts:List ae):Prop where
 n1:1<=ts.length
 n5:ts.length<=5
 T:∀t,t∈ts->OkT t
 V:VOk ts
 D:∀t,t∈ts->NC ts t.Members
 R:∀i:Nat,i < ts.length->∀m,m∈(ts.getD i ag).Members->0<=m.Type_/\m.Type_ < ts.length/\(7<=(ts.getD m.Type_.toNat ag).Kind\/m.Type_ < i)
 L:∀t,t∈ts->t.Kind=2->-3<=t.Low/\t.High<=8
 M:∀t,t∈ts->t.Max<=3
 I:∀t,t∈ts->(∀m,m∈t.Members->m.ID<=12)/\(∀y,y∈t.Symbols->y.ID<=6)/\t.Members.length<=12
 W:∀t,t∈ts->∀m,m∈t.Members->m.HasDefault=true->wt m.Default<=13
theorem yO{v:ab}(hk:v.Keys=[])(hi:v.Items=[])(hr:v.Rest=[])(hs:v.Str.length<=1000)(n1:I64 v.Kind)(n2:I64 v.Int_)(n3:I64 v.ID):OkV v:=by
 refine .mk v (by unfold reachBytes;omega) (by rw[hk];simp) (by rw[hi];simp) (by rw[hr];simp) (fun x hx=>?_) (fun x hx=>?_) (fun x hx=>?_) n1 n2 n3 (fun x hx=>?_)
 . grind
 . grind
 . grind
 grind
theorem okV_d :OkV af:=yO rfl rfl rfl (by simp[af]) (by unfold I64 af;simp) (by unfold I64 af;simp) (by unfold I64 af;simp)
theorem Lh{v:ab}(hk:v.Keys=[])(hi:v.Items=[])(hr:v.Rest=[]):wt v=10+v.Str.length:=by
 rw[wt_eq,hk,hi,hr,fG];simp
section
variable {ns:List Nd} (hN:∀x,x∈ns->NOk x) (h5:ns.length<=5) (h1:1<=ns.length) {l:List ae} (hl:l.length=ns.length) (hT:∀j,j < ns.length->TyP ns (j:Int) (l.getD j ag))
include hN h5 in
theorem zT{t:Int}(ht:0<=t/\t < ns.length){v:ab}(h:Init ns t v):OkV v/\wt v<=13:=by
 obtain⟨a,b,c,h⟩:=h;obtain⟨j,rfl⟩:∃j:Nat,t=(j:Int):=⟨t.toNat,by omega⟩
 have hx:=hN _ (aC (by omega:j < ns.length) dNd);obtain⟨_,k1,k9⟩:=kd_eq hN h5 ht.1 ht.2;rw[aw]at h;have ha:=hx.a;have hb:=hx.b;have hids:=(ids_eq' (ns.getD j dNd)).2.1.2;unfold U8 at ha hb;rw[Lh a b c];have hs:v.Str.length<=3:=by grind
 refine⟨yO a b c (by omega) ?_ ?_ ?_,by omega⟩
 . unfold I64;rcases h with h | h | h | h | h <;> omega
 . unfold I64;rcases h with⟨_,_,e,_⟩ | ⟨_,_,_,_,_,e⟩ | ⟨_,_,_,e,_⟩ | ⟨_,_,_,e,_⟩ | ⟨_,_,e,_⟩ <;> omega
 . unfold I64
   grind
include hN h5 in
theorem wH{i:Int}{r:Bool}{Ms:List ap}(h:MemsP ns i r Ms):fQ (!r) Ms\/(r=false/\Ms=[]):=by
 obtain⟨a,b,c⟩:=h;by_cases h0:r=false/\Ms=[]
 . grind
 left;refine⟨fun m hm=>?_,?_,⟨a,fun m hm=>?_⟩,fun m hm=>?_,?_,by omega⟩
 . have q:=b m hm;unfold badM;have hz:m.HasDefault=false->fN m.Default=true:=fun h=>by
    rw[q.nod h];have h3:Says (dd (af,af)) af af:=oK okV_d af;obtain⟨w,w1,w2⟩:=h3;unfold fN
    grind
   have hc:=q.crit;have hu:=q.un
   grind
 . grind
 . have:=(b m hm).id;exact⟨by omega,by omega⟩
 . have q:=b m hm;have:=q.id;rw[q.name];exact BG (by omega) (by omega)
 . unfold List.Nodup;rw[List.pairwise_map];refine a.imp_of_mem fun {x y} hx hy hlt=>?_
   have qx:=b x hx;have qy:=b y hy;have ix:=qx.id;have iy:=qy.id;rw[qx.name,qy.name];intro e;simp only[List.cons.injEq,and_true,true_and]at e;have e2:=congrArg UInt8.toNat e;rw[cv (by omega),cv (by omega)]at e2;omega
theorem wI{l:List Int}(h:IdsOk l 6)(h1:1<=l.length)(h6:l.length<=6):m9 (symsL l)/\(∀y,y∈symsL l->y.ID<=6):=by
 unfold symsL;refine⟨⟨by simp;omega,⟨?_,fun y hy=>?_⟩,fun y hy=>?_,?_,by simp;omega⟩,fun y hy=>?_⟩
 . rw[List.pairwise_map];exact h.1
 . obtain⟨x,hx,rfl⟩:=List.mem_map.1 hy;have:=h.2 x hx;exact⟨this.1,by show x<=1000;omega⟩
 . obtain⟨x,hx,rfl⟩:=List.mem_map.1 hy;have:=h.2 x hx;exact BG (by omega) (by omega)
 . unfold List.Nodup;rw[List.pairwise_map,List.pairwise_map];refine h.1.imp_of_mem fun {x y} hx hy hlt=>?_
   have ix:=h.2 x hx;have iy:=h.2 y hy;intro e;simp only[List.cons.injEq,and_true,true_and]at e;have e2:=congrArg UInt8.toNat e;rw[cv (by omega),cv (by omega)]at e2;omega
 . obtain⟨x,hx,rfl⟩:=List.mem_map.1 hy;exact(h.2 x hx).2
theorem zU{i:Int}{t:ae}(h:TyP ns i t):(kd ns i<=5\/kd ns i=7\/kd ns i=9->t.Kind=kd ns i)/\(kd ns i=6->t.Kind=5\/t.Kind=6)/\(kd ns i=8->(t.Kind=8/\∃w,KeyT ns w)\/(t.Kind=7/\¬∃w,KeyT ns w)):=by
 unfold TyP at h;rcases h with⟨k,rfl⟩ | ⟨k,rfl⟩ | ⟨k,rfl⟩ | ⟨k,_,rfl⟩ | ⟨k,_,_,rfl⟩ | ⟨k,rfl⟩ | ⟨k,_,_,_,_,rfl⟩ | ⟨k,rfl⟩ | ⟨k,a,rfl⟩ | ⟨k,w,a,rfl⟩ | ⟨k,rfl⟩ <;> simp[k]
 . omega
 grind
theorem rD{i:Int}{t:ae}(h:TyP ns i t):t.Members=[]\/∃r,MemsP ns i r t.Members:=by
 unfold TyP at h;rcases h with⟨k,rfl⟩ | ⟨k,rfl⟩ | ⟨k,rfl⟩ | ⟨k,_,rfl⟩ | ⟨k,_,a,rfl⟩ | ⟨k,rfl⟩ | ⟨k,_,_,a,_,rfl⟩ | ⟨k,rfl⟩ | ⟨k,a,rfl⟩ | ⟨k,w,a,rfl⟩ | ⟨k,rfl⟩
 . grind
 . grind
 . grind
 . grind
 . grind
 . grind
 . grind
 . grind
 . grind
 . grind
 grind
include hN h5 h1 hl hT in
theorem Ko :DrOk l:=by
 have lift:∀{P:ae->Prop},(∀j,j < ns.length->P (l.getD j ag))->∀t,t∈l->P t:=fun hp t ht=>by
  obtain⟨i,hi,rfl⟩:=List.getElem_of_mem ht
  grind
 have hx:∀j,j < ns.length->NOk (ns.getD j dNd):=fun j hj=>hN _ (aC hj dNd)
 have mem:∀j,j < ns.length->∀m,m∈(l.getD j ag).Members->∃r,MemP ns (j:Int) r m:=fun j hj m hm=>by
  rcases rD (hT j hj)with h | ⟨r,_,h,_⟩
  . grind
  grind
 have okT:∀t,t∈l->OkT t:=lift fun j hj=>by
  have hm:=mem j hj;have ht:=hT j hj;have hlm:(l.getD j ag).Members.length<=12:=by
   rcases rD ht with h | ⟨r,_,_,h⟩
   . rw[h];simp
   . exact h
  have hls:(l.getD j ag).Symbols.length<=6:=by
   have hi:=(ids_eq' (ns.getD j dNd)).2.2.2;unfold TyP at ht;rcases ht with⟨k,e⟩ | ⟨k,e⟩ | ⟨k,e⟩ | ⟨k,_,e⟩ | ⟨k,_,_,e⟩ | ⟨k,e⟩ | ⟨k,_,_,_,_,e⟩ | ⟨k,e⟩ | ⟨k,_,e⟩ | ⟨k,_,_,e⟩ | ⟨k,e⟩ <;> rw[e]
   case inr.inr.inr.inl=>simp only[aw,symsL,List.length_map];exact hi
   all_goals simp
  refine⟨by unfold reachBytes;omega,by unfold reachBytes;omega,fun m hm'=>?_⟩;obtain⟨r,q⟩:=hm m hm';by_cases hd:m.HasDefault=true
  . exact(zT hN h5 ⟨q.tgt.1,q.tgt.2.1⟩ (q.dfl hd)).1
  . rw[q.nod (by simpa using hd)];exact okV_d
 have kind7:∀u:Int,0<=u->u < ns.length->7<=kd ns u->7<=(l.getD u.toNat ag).Kind:=fun u h0 hu h7=>by
  obtain⟨j,rfl⟩:∃j:Nat,u=(j:Int):=⟨u.toNat,by omega⟩
  rw[aw];obtain⟨_,_,k9⟩:=kd_eq hN h5 h0 hu;obtain⟨a,b,c⟩:=zU (hT j (by omega));omega
 have vok:VOk l:=by
  refine⟨by omega,lift fun j hj=>?_,fun j hj=>?_,lift fun j hj=>?_,lift fun j hj h8=>?_⟩
  . have ht:=hT j hj;have hid:=ids_eq' (ns.getD j dNd);have ha:=(hx j hj).a;have hb:=(hx j hj).b;have hnm:nm [UInt8.ofNat (65+j)]=true:=NH (by omega);unfold U8 at ha hb;unfold TyP at ht;simp only[aw]at ht;generalize [UInt8.ofNat (65+j)]=nmL at hnm ht;unfold FormP
    rcases ht with⟨k,e⟩ | ⟨k,e⟩ | ⟨k,e⟩ | ⟨k,_,e⟩ | ⟨k,Ms,a,e⟩ | ⟨k,e⟩ | ⟨k,Ms,_,a,a0,e⟩ | ⟨k,e⟩ | ⟨k,_,e⟩ | ⟨k,_,_,e⟩ | ⟨k,e⟩ <;> rw[e]
    . simp
    . simp;omega
    . simp;omega
    . simp;exact⟨hnm,(wI hid.2.1 hid.2.2.1 hid.2.2.2).1⟩
    . simp;refine⟨hnm,?_⟩;rcases wH hN h5 a with h | ⟨h,_⟩
      . exact h
      . cases h
    . simp;exact⟨hnm,fun m hm=>(by cases hm),.inl rfl,⟨.nil,fun m hm=>by cases hm⟩,fun m hm=>(by cases hm),by simp,by simp⟩
    . simp;refine⟨hnm,?_⟩;rcases wH hN h5 a with h | ⟨_,h⟩
      . exact h
      grind
    . simp;omega
    . simp;omega
    . simp;omega
    . simp
  ·
   have nameOf:∀k,k < ns.length->(l.getD k ag).Name=[]\/(l.getD k ag).Name=[UInt8.ofNat (65+k)]:=fun k hk=>by
    have ht:=hT k hk;unfold TyP at ht;simp only[aw]at ht;rcases ht with⟨k,e⟩ | ⟨k,e⟩ | ⟨k,e⟩ | ⟨k,_,e⟩ | ⟨k,Ms,a,e⟩ | ⟨k,e⟩ | ⟨k,Ms,_,a,a0,e⟩ | ⟨k,e⟩ | ⟨k,_,e⟩ | ⟨k,_,_,e⟩ | ⟨k,e⟩ <;> rw[e] <;> simp
   rcases nameOf j (by omega)with h | h
   . rw[h];simp
   . rw[h];simp only[Bool.and_eq_false_iff];right;apply Bool.eq_false_iff.2;intro hc;obtain⟨k,hk,he⟩:=(fl (by simp;omega)).1 hc;have hg:(l.map (·.Name)).getD k []=(l.getD k ag).Name:=bM (·.Name) l k ag [] (by omega);rw[hg]at he;rcases nameOf k (by omega)with h' | h'
     . grind
     . rw[h']at he;simp only[List.cons.injEq,and_true]at he;have e2:=congrArg UInt8.toNat he;rw[cv (by omega),cv (by omega)]at e2;omega
  . intro u hu;have hm:=mem j hj;have hc:=(hx j hj).c;unfold U8 at hc;have c0:0<=(ns.getD j dNd).C % (ns.length:Int):=Int.emod_nonneg _ (by omega);have c1:(ns.getD j dNd).C % (ns.length:Int) < ns.length:=Int.emod_lt_of_pos _ (by omega);have ht:=hT j hj;unfold TyP at ht;simp only[aw]at ht;generalize (ns.getD j dNd).C % (ns.length:Int)=cc at c0 c1 ht;unfold usesL at hu
    simp only[List.mem_append,List.mem_map]at hu;rcases hu with(⟨m,h,rfl⟩ | h) | h
    . obtain⟨r,q⟩:=hm m h;have:=q.tgt.1;have:=q.tgt.2.1;omega
    . split at h
      . rename_i h8;have:u=(l.getD j ag).Key:=by simpa using h
        rw[this];rcases ht with⟨k,e⟩ | ⟨k,e⟩ | ⟨k,e⟩ | ⟨k,_,e⟩ | ⟨k,Ms,a,e⟩ | ⟨k,e⟩ | ⟨k,Ms,_,a,a0,e⟩ | ⟨k,e⟩ | ⟨k,_,e⟩ | ⟨k,w,a,e⟩ | ⟨k,e⟩ <;> rw[e]at h8 ⊢ <;> simp at h8 ⊢
        obtain⟨w0,w1,_⟩:=a;omega
      . cases h
    . split at h
      . rename_i h7;have:u=(l.getD j ag).Elem:=by simpa using h
        rw[this];rcases ht with⟨k,e⟩ | ⟨k,e⟩ | ⟨k,e⟩ | ⟨k,_,e⟩ | ⟨k,Ms,a,e⟩ | ⟨k,e⟩ | ⟨k,Ms,_,a,a0,e⟩ | ⟨k,e⟩ | ⟨k,_,e⟩ | ⟨k,w,a,e⟩ | ⟨k,e⟩ <;> rw[e]at h7 ⊢ <;> simp at h7 ⊢ <;> omega
      . cases h
  . have ht:=hT j hj;unfold TyP at ht;simp only[aw]at ht;rcases ht with⟨k,e⟩ | ⟨k,e⟩ | ⟨k,e⟩ | ⟨k,_,e⟩ | ⟨k,Ms,a,e⟩ | ⟨k,e⟩ | ⟨k,Ms,_,a,a0,e⟩ | ⟨k,e⟩ | ⟨k,_,e⟩ | ⟨k,w,a,e⟩ | ⟨k,e⟩ <;> rw[e]at h8 ⊢ <;> simp at h8 ⊢
    obtain⟨w0,w1,w2,w3⟩:=a;obtain⟨q,rfl⟩:∃q:Nat,w=(q:Int):=⟨w.toNat,by omega⟩
    obtain⟨a,_,_⟩:=zU (hT q (by omega));have:=a (.inl (by omega));simp_all
 refine⟨by omega,by omega,okT,vok,lift fun j hj m hm hd=>?_,fun j hj m hm=>?_,lift fun j hj h2=>?_,lift fun j hj=>?_,lift fun j hj=>⟨fun m hm=>?_,fun y hy=>?_,?_⟩,lift fun j hj m hm hd=>?_⟩
 . obtain⟨r,q⟩:=mem j hj m hm;have hi:=q.dfl hd;obtain⟨u0,u1,_⟩:=q.tgt;generalize m.Default=v at hi;obtain⟨u,hu⟩:∃u:Nat,m.Type_=(u:Int):=⟨m.Type_.toNat,by omega⟩
   rw[hu]at hi u0 u1 ⊢;have ht:=hT u (by omega);obtain⟨a,b,c,hi⟩:=hi;rw[cK];simp only[aw]at hi ⊢;unfold TyP at ht;simp only[aw]at ht;have hlen:((l.length:Nat):Int)=ns.length:=by omega
   rw[hlen];generalize l.getD u ag=x at ht ⊢;rw[a,b,c];have vn:∀t,vfits l true t []:=fun t=>by rw[vfits];trivial
   have ka:dZ []:=fun i hi=>by simp at hi
   have hxu:=hx u (by omega);generalize ns.getD u dNd=nd at ht hi hxu;rcases hi with⟨k,e1,e2,e3,e4⟩ | ⟨k,e1,e2,e3,e4,e5,e6⟩ | ⟨k,e1,e2,e3,e4,e5⟩ | ⟨k,e1,e2,e3,e4,e5⟩ | ⟨k,e1,e2,e3,e4,e5⟩
   . rw[k]at ht
     grind
   . rw[k]at ht
     grind
   . rw[k]at ht
     grind
   . rw[k]at ht;simp only[Int.reduceEq,false_and,true_and,or_false,false_or]at ht;obtain⟨o,rfl⟩:=ht;rw[e1,e2,e3,e4];simp;refine⟨by omega,⟨v.ID,[UInt8.ofNat 115,UInt8.ofNat (97+v.ID.toNat)]⟩,?_,rfl⟩;unfold symsL
     grind
   . rw[e1,e2,e3,e4];have k9:kd ns (u:Int)<=9:=(kd_eq hN h5 u0 u1).2.2;have hcc:kd ns (u:Int)=7\/kd ns (u:Int)=8\/kd ns (u:Int)=9:=by omega
     have ha:=hxu.a;unfold U8 at ha;rcases hcc with k' | k' | k'
     . rw[k']at ht e5
       grind
     . rw[k']at ht e5
       grind
     . rw[k']at ht e5
       grind
 . obtain⟨r,q⟩:=mem j (by omega) m hm;obtain⟨u0,u1,u2⟩:=q.tgt
   grind
 . have ht:=hT j hj;have ha:=(hx j hj).a;have hb:=(hx j hj).b;unfold U8 at ha hb;unfold TyP at ht;simp only[aw]at ht;rcases ht with⟨k,e⟩ | ⟨k,e⟩ | ⟨k,e⟩ | ⟨k,_,e⟩ | ⟨k,Ms,a,e⟩ | ⟨k,e⟩ | ⟨k,Ms,_,a,a0,e⟩ | ⟨k,e⟩ | ⟨k,_,e⟩ | ⟨k,w,a,e⟩ | ⟨k,e⟩ <;> rw[e]at h2 ⊢ <;> simp at h2 ⊢
   omega
 . have ht:=hT j hj;have ha:=(hx j hj).a;unfold U8 at ha;unfold TyP at ht;simp only[aw]at ht;rcases ht with⟨k,e⟩ | ⟨k,e⟩ | ⟨k,e⟩ | ⟨k,_,e⟩ | ⟨k,Ms,a,e⟩ | ⟨k,e⟩ | ⟨k,Ms,_,a,a0,e⟩ | ⟨k,e⟩ | ⟨k,_,e⟩ | ⟨k,w,a,e⟩ | ⟨k,e⟩ <;> rw[e] <;> simp <;> omega
 . obtain⟨r,q⟩:=mem j hj m hm;exact q.id.2
 . have ht:=hT j hj;have hid:=ids_eq' (ns.getD j dNd);unfold TyP at ht;simp only[aw]at ht;rcases ht with⟨k,e⟩ | ⟨k,e⟩ | ⟨k,e⟩ | ⟨k,_,e⟩ | ⟨k,Ms,a,e⟩ | ⟨k,e⟩ | ⟨k,Ms,_,a,a0,e⟩ | ⟨k,e⟩ | ⟨k,_,e⟩ | ⟨k,w,a,e⟩ | ⟨k,e⟩ <;> rw[e]at hy <;> simp at hy
   exact(wI hid.2.1 hid.2.2.1 hid.2.2.2).2 y hy
 . rcases rD (hT j hj)with h | ⟨r,_,_,h⟩
   . rw[h];simp
   . exact h
 . obtain⟨r,q⟩:=mem j hj m hm;exact(zT hN h5 ⟨q.tgt.1,q.tgt.2.1⟩ (q.dfl hd)).2
end
theorem of_ok{d:aT}(hd:DOk d):ip d=some (⟨[]⟩,false)\/∃l,ip d=some (⟨l⟩,true)/\DrOk l:=by
 rcases of_eq hd with h | ⟨l,a,b,c,e,f⟩
 . exact .inl h
 . exact .inr ⟨l,a,Ko hd.2 c b e f⟩
def Suf(C' C:List Int):Prop:=C'.length<=C.length/\∀c,c∈C'->c∈C
theorem Suf.refl(C:List Int):Suf C C:=⟨Nat.le_refl _,fun _ h=>h⟩
theorem Suf.trans{A B C:List Int}(h:Suf A B)(k:Suf B C):Suf A C:=⟨Nat.le_trans h.1 k.1,fun c hc=>k.2 c (h.2 c hc)⟩
def CU8(C:List Int):Prop:=∀c,c∈C->U8 c
theorem tY :∀a b:List UInt8,Op.bytesLess a b=false->a≠b->Op.bytesLess b a=true
 | [],[],_,h=>absurd rfl h
 | [],y::b,h,_=>by simp[Op.bytesLess]at h
 | x::a,[],h,_=>by simp[Op.bytesLess]
 | x::a,y::b,h,hne=>by
  simp only[Op.bytesLess]at h ⊢;by_cases h1:x < y
  . grind
  . by_cases h2:y < x
    . simp[h2]
    . have e:x=y:=by grind
      subst e;have hr:Op.bytesLess a b=false:=by simpa using h
      have:=tY a b hr (fun e=>hne (by rw[e]));simp[this]
theorem mm{a b:ab}(ha:I64 a.Int_)(hb:I64 b.Int_):eW (a,b)=some (vcmp a b):=by
 obtain⟨r,h1,h2⟩:=oc ha hb;unfold vcmp
 grind
theorem IB{a b:ab}(ha:I64 a.Int_)(hb:I64 b.Int_)(h:0 < vcmp a b):vcmp b a < 0:=by
 have h1:=mm ha hb;have h2:=mm hb ha;generalize vcmp a b=r at h h1;generalize vcmp b a=q at h2;rw[eW]at h1 h2;by_cases hk:a.Kind=b.Kind
 . rw[if_neg (by simp[hk])]at h1 h2;by_cases k1:a.Kind=1
   . have k1':b.Kind=1:=by omega
     rw[if_pos (by simp[k1])]at h1;rw[if_pos (by simp[k1'])]at h2;simp only[bU,eqB]at h1 h2
     grind
   . have k1':¬b.Kind=1:=by omega
     rw[if_neg (by simp[k1])]at h1;rw[if_neg (by simp[k1'])]at h2;by_cases k2:a.Kind=2
     . have k2':b.Kind=2:=by omega
       rw[if_pos (by simp[k2]),fO ha,fO hb]at h1;rw[if_pos (by simp[k2']),fO ha,fO hb]at h2;simp only[oZ4,oZ3,bU]at h1 h2;by_cases e:a.Int_=b.Int_
       . grind
       . have hz:zig a.Int_≠zig b.Int_:=fun h=>e (sP h)
         grind
     . have k2':¬b.Kind=2:=by omega
       rw[if_neg (by simp[k2])]at h1;rw[if_neg (by simp[k2'])]at h2;by_cases k3:a.Kind=3
       . have k3':b.Kind=3:=by omega
         rw[if_pos (by simp[k3])]at h1;rw[if_pos (by simp[k3'])]at h2;simp only[oZ4,oZ3,bU]at h1 h2;by_cases hl:a.Str.length=b.Str.length
         . rw[if_neg (by simp[hl])]at h1 h2;by_cases e:a.Str=b.Str
           . grind
           . have e':¬b.Str=a.Str:=fun h=>e h.symm
             cases hb':Op.bytesLess a.Str b.Str with
             | true=>simp[e,hb']at h1;omega
             | false=>
              have:=tY _ _ hb' e
              grind
         grind
       . have k3':¬b.Kind=3:=by omega
         rw[if_neg (by simp[k3])]at h1;rw[if_neg (by simp[k3'])]at h2;by_cases k4:a.Kind=4
         . have k4':b.Kind=4:=by omega
           rw[if_pos (by simp[k4])]at h1;rw[if_pos (by simp[k4'])]at h2;simp only[oZ4,oZ3,bU]at h1 h2
           grind
         grind
 grind
section
variable {ts:List ae}
mutual
theorem vfit_weak :∀(v:ab) (t:Int),vfit ts true t v->vfit ts false t v
 | ⟨k,b,i,s,id,ks,is,r⟩,t,h=>by
  rw[vfit]at h ⊢;obtain⟨⟨h1,h2,h3,h4⟩,h5⟩:=h;have w:=vfits_weak is;have wk:=vfits_weak ks;have wm:=vfitm_weak is;refine⟨⟨h1,h2,h3,fun h=>by cases h⟩,?_⟩
  have c6:(match findM (ts.getD t.toNat ag).Members id with
   | some m=>r=[]/\is.length=1/\vfits ts true m.Type_ is
   | none=>(ts.getD t.toNat ag).Open=true/\true=false/\I1000 id/\is=[]/\∃d,r=[⟨id,d⟩])->(match findM (ts.getD t.toNat ag).Members id with
   | some m=>r=[]/\is.length=1/\vfits ts false m.Type_ is
   | none=>(ts.getD t.toNat ag).Open=true/\false=false/\I1000 id/\is=[]/\∃d,r=[⟨id,d⟩]):=by
   split
   . rintro ⟨a,b,c⟩;exact⟨a,b,w _ c⟩
   . rintro ⟨_,b,_⟩;cases b
  rcases h5 with h | h | h | ⟨a1,a2,a3,a4,a5,a6,a7,a8⟩ | ⟨a1,a2,a3,a4,a5,a6,a7,a8⟩ | ⟨a1,a2,a3,a4,a5,a6⟩ | ⟨a1,a2,a3,a4,a5,a6,a7,a8,a9⟩ | ⟨a1,a2,a3,a4,a5,a6,a7,a8,a9,a10,a11⟩ | ⟨a1,a2,a3,a4,a5,a6,a7,a8,a9⟩
  . exact .inl h
  . grind
  . grind
  . grind
  . grind
  . grind
  . grind
  . grind
  grind
theorem vfits_weak :∀(l:List ab) (t:Int),vfits ts true t l->vfits ts false t l
 | [],t,h=>by rw[vfits];trivial
 | v::l,t,h=>by
  rw[vfits]at h ⊢;exact⟨vfit_weak v t h.1,vfits_weak l t h.2⟩
theorem vfitm_weak :∀(l:List ab) (ms:List ap),vfitm ts true ms l->vfitm ts false ms l
 | [],[],h=>by rw[vfitm];trivial
 | [],m::ms,h=>by
  have:vfitm ts true (m::ms) []=False:=by rw[vfitm] <;> (intros;simp_all)
  grind
 | v::l,[],h=>by
  have:vfitm ts true [] (v::l)=False:=by rw[vfitm] <;> (intros;simp_all)
  grind
 | v::l,m::ms,h=>by
  rw[vfitm]at h ⊢;exact⟨vfit_weak v m.Type_ h.1,vfitm_weak l ms h.2⟩
end
theorem Kp{v:ab}{t:Int}(h:vfit ts true t v)(pl:Bool):vfit ts pl t v:=by
 cases pl with
 | true=>exact h
 | false=>exact vfit_weak v t h
def rk(ts:List ae)(t:Nat):Nat:=if 7<=(ts.getD t ag).Kind then 0 else t+1
end
structure DrIn (d:gf):Prop where
 s:DOk d.S
 t:U8 d.T
 c:CU8 d.C
 l:d.C.length<=reachBytes
theorem Kq{ts:List ae}(H:SOk ts){v:ab}(hv:OkV v)(t:Int)(pl:Bool):SaysP (cw ((⟨ts⟩:av),t,v,pl)) (vfit ts pl t v):=by
 obtain⟨r,h1,h2⟩:=Kn (by have:=H.n;omega) H.T H.K hv t pl;obtain⟨q,q1,q2⟩:=xy (by have:=H.n;omega) H.T H.K hv t pl;rw[h1]at q2;have:r=q:=Option.some.inj q2;subst this;exact⟨r,q1,h2⟩
theorem wK{ts:List ae}(hT:∀t,t∈ts->OkT t)(hV:VOk ts){v:ab}(hv:OkV v){t:Int}(hf:vfit ts false t v):fh ((⟨ts⟩:av),t,v)=some 0/\ji ((⟨ts⟩:av),t,v)=some 0:=by
 have H:=hV.sok hT;obtain⟨v1,v2⟩:=rW hT hV;obtain⟨⟨g1,g2,_⟩,_⟩:=(cK _ _ _).1 hf;obtain⟨e,e1,e2,_⟩:=Hx (s:=⟨ts⟩) (by have:=hV.n;unfold reachBytes;show ts.length<=_;omega) hT hv t;obtain⟨r,r1,r2⟩:=Kq H hv t false;have hr:=r2.2 hf;subst hr;have hout:¬((bif decide (t < 0)then true else decide (((⟨ts⟩:av).Types.length:Int)<=t))=true):=by grind
 have key:fh ((⟨ts⟩:av),t,v)=some 0:=by
  rw[fh,nL];simp only[oL,ab.aA];rw[v1];show((if(bif decide (t < 0)then true else decide (((⟨ts⟩:av).Types.length:Int)<=t))=true then some (4:Int)else some 0) >>=_)=_;rw[if_neg hout];show(jB ((⟨ts⟩:av),t,v) >>=_)=_;rw[jB];simp only[ab.aA];rw[r1];rfl
 grind
theorem yP{l:List Fd}(hp:cA ltF l=true)(hn:l.Pairwise (fun a b=>a.id≠b.id)):(isoB ltF l).Pairwise (fun a b=>a.id < b.id):=by
 have h1:=oq zL l;have h2:(isoB ltF l).Pairwise (fun a b=>a.id≠b.id):=(cS ltF l).symm.pairwise hn (fun {a b} h=>fun e=>h e.symm);refine(h1.and h2).imp fun {a b} h=>?_
 have:=h.1;have:=h.2;simp only[ltF,decide_eq_false_iff_not]at*;omega
theorem xI{ts:List ae}{ms:List ap}{l:List ab}{r:List aE}(h:MAsc ms)(hr:ca ms r):(aY ts ms l r).Pairwise (fun a b=>a.id≠b.id):=by
 have:=lE (ts:=ts) (l:=l) h hr;have key:∀q:List Fd,cA ltF q=true->q.Pairwise (fun a b=>a.id≠b.id):=by
  intro q
  induction q with
  | nil=>intro _;exact .nil
  | cons a q ih=>
   intro h;simp only[cA,Bool.and_eq_true,List.all_eq_true,Bool.or_eq_true,ltF,decide_eq_true_eq]at h;rw[List.pairwise_cons]
   grind
 grind
def fdS(f:Fd):aM:=⟨(f.id:Int),f.c,f.p⟩
theorem xK : ∀ (l : List Fd) (last : Nat) (b : List aM), l.Pairwise (fun a b => a.id < b.id) -> (∀ f, f ∈ l -> last < f.id /\ f.id <= 1000) -> (l.flatMap Fd.text).length <= 100000 -> b.length + l.length <= 90000 ->
 bq ((last:Int),l.flatMap Fd.text,b)=some (.inr (b++l.map fdS))
 | [],last,b,_,_,_,_=>by
  rw[bq,if_neg (by simp)];simp
 | f::l,last,b,hp,hr,hl,hb=>by
  rw[List.pairwise_cons]at hp;obtain⟨h1,h2⟩:=hr f (.head _);rw[List.flatMap_cons]at hl ⊢;have ht:f.text=bn f.id f.c f.p:=rfl;rw[ht]at hl ⊢;rw[Gj h1 h2 hl (by simp at hb;omega)];have hl2:(l.flatMap Fd.text).length<=100000:=by rw[List.length_append]at hl;omega
  rw[xK l f.id _ hp.2 (fun g hg=>⟨hp.1 g hg,(hr g (.tail _ hg)).2⟩) hl2 (by simp at hb ⊢;omega)];simp[fdS]
theorem HE{p rest:List UInt8}{b:List (List UInt8)}(h:(aO p++rest).length<=100000)(hb:b.length<=90000):bP (aO p++rest,b)=bP (rest,b++[p]):=by
 have hpl:p.length<=100000:=by simp only[aO,List.length_append]at h;omega
 have hne:aO p++rest≠[]:=by
  intro hc;have h2:=congrArg List.length hc;have:=fC p.length;simp only[aO,List.length_append,List.length_nil]at h2;omega
 rw[bP,if_pos (by simp only[Bool.not_eq_true',decide_eq_false_iff_not];exact hne),dY (by omega),vB hpl];simp only[oZ4,oZ3];have hnn:¬((!(encP (some (p,rest))).2.2)=true):=by simp[encP]
 have hr:room 16 (b++[(encP (some (p,rest))).1]).length=true:=aW (by omega) (by simp;omega);rw[if_neg hnn,if_pos hr];rfl
theorem yQ :∀(l:List (List UInt8)) (b:List (List UInt8)),(l.flatMap aO).length<=100000->b.length+l.length<=90000->bP (l.flatMap aO,b)=some (.inr (b++l))
 | [],b,_,_=>by
  rw[bP,if_neg (by simp)];simp
 | p::l,b,hl,hb=>by
  rw[List.flatMap_cons]at hl ⊢;rw[HE hl (by simp at hb;omega),yQ l _ (by rw[List.length_append]at hl;omega) (by simp at hb ⊢;omega)];simp
def weave :List (List UInt8)->List (List UInt8)->List (List UInt8)
 | k::ks,v::vs=>k::v::weave ks vs
 | _,_=>[]
theorem xL :∀a b,ilv a b=(weave a b).flatMap aO
 | [],b=>by simp[ilv,weave]
 | k::ks,[]=>by simp[ilv,weave]
 | k::ks,v::vs=>by simp[ilv,weave,xL ks vs]
theorem xM :∀a b:List (List UInt8),a.length=b.length->(weave a b).length=a.length+b.length
 | [],[],_=>rfl
 | k::ks,v::vs,h=>by
  simp only[weave,List.length_cons];have:=xM ks vs (by simpa using h);omega
theorem l5(p:List UInt8):1<=(aO p).length:=by
 have:=fC p.length;unfold aO;rw[List.length_append];omega
theorem vE :∀l:List (List UInt8),l.length<=(l.flatMap aO).length
 | []=>by simp
 | p::l=>by
  have:=vE l;have:=l5 p
  grind
theorem sq(f:Fd):1<=f.text.length:=by
 have:=fC (2*f.id+(if f.c then 1 else 0));unfold Fd.text bn;rw[List.length_append];omega
theorem vF :∀l:List Fd,l.length<=(l.flatMap Fd.text).length
 | []=>by simp
 | p::l=>by
  have:=vF l;have:=sq p
  grind
theorem xN{f:Fd}:∀{l:List Fd},f∈l->f.p.length<=(l.flatMap Fd.text).length
 | g::l,h=>by
  rw[List.flatMap_cons,List.length_append];rcases List.mem_cons.1 h with rfl | h
  . have:f.p.length<=f.text.length:=by unfold Fd.text bn aO;simp only[List.length_append];omega
    omega
  . have:=xN h;omega
theorem Li{d:aT}(h:WF Un ⟨.slice (.nm qc),d.Nodes⟩):DOk d:=by
 obtain⟨a,_,c⟩:=yA (t:= .nm qc) h;refine⟨a,fun x hx=>?_⟩;have hc:=c x hx;have u8:∀{n:Int},WF Un ⟨.int .u8,n⟩->U8 n:=fun {n} h=>by
  cases h with
  | int k n h=>
   simp[Lit.wf,IntKind.min,IntKind.max,IntKind.bits,IntKind.signed]at h;unfold U8;omega
 have c1:=hc ⟨.int .u8,x.Kind⟩ (.head _);have c2:=hc ⟨.int .u8,x.A⟩ (.tail _ (.head _));have c3:=hc ⟨.int .u8,x.B⟩ (.tail _ (.tail _ (.head _)));have c4:=hc ⟨.int .u8,x.C⟩ (.tail _ (.tail _ (.tail _ (.head _))));have c5:=hc ⟨.slice (.nm tC),x.Parts⟩ (.tail _ (.tail _ (.tail _ (.tail _ (.head _)))));obtain⟨p1,_,p3⟩:=yA (t:= .nm tC) c5
 refine⟨u8 c1,u8 c2,u8 c3,u8 c4,fun q hq=>?_,p1⟩;have hq':=p3 q hq;exact⟨u8 (hq' ⟨.int .u8,q.ID⟩ (.head _)),u8 (hq' ⟨.int .u8,q.Type_⟩ (.tail _ (.head _))),u8 (hq' ⟨.int .u8,q.Flag⟩ (.tail _ (.tail _ (.head _))))⟩
def fb(n:Nat):List UInt8->Nat
 | []=>n
 | c::s=>fb (n*256+c.toNat) s
theorem fb_lt :∀(s:List UInt8) (n k:Nat),n < 256 ^ k->fb n s < 256 ^ (k+s.length)
 | [],n,k,h=>by simpa[fb]using h
 | c::s,n,k,h=>by
  have hc:c.toNat < 256:=UInt8.toNat_lt c;have h1:n*256+c.toNat < 256 ^ (k+1):=by rw[Nat.pow_succ];omega
  have:=fb_lt s _ (k+1) h1;simp only[fb,List.length_cons]
  grind
theorem shl8{n:Nat}(h:n < 72057594037927936):shlI .u64 (n:Int) 8=((n*256:Nat):Int):=by
 unfold shlI;have e:((2:Int) ^ min (8:Int).toNat IntKind.u64.bits)=256:=by decide
 rw[e];have:(n:Int)*256=((n*256:Nat):Int):=by push_cast;rfl
 rw[this];exact wrapu (by omega) (by omega)
theorem Lj{a b:Nat}(ha:a < 72057594037927936)(hb:b < 256):orI .u64 ((a*256:Nat):Int) (b:Int)=((a*256+b:Nat):Int):=by
 have e:(BitVec.ofInt 64 ((a*256:Nat):Int) ||| BitVec.ofInt 64 (b:Int)).toNat=a*256+b:=by
  rw[BitVec.ofInt_natCast,BitVec.ofInt_natCast,BitVec.toNat_or,BitVec.toNat_ofNat,BitVec.toNat_ofNat,two64,Nat.mod_eq_of_lt (by omega),Nat.mod_eq_of_lt (by omega)];have h:=Nat.shiftLeft_add_eq_or_of_lt (show b < 2 ^ 8 by omega) a;rw[Nat.shiftLeft_eq]at h;exact h.symm
 show IntKind.u64.wrap (((BitVec.ofInt 64 ((a*256:Nat):Int) ||| BitVec.ofInt 64 (b:Int)).toNat:Nat):Int)=_;rw[e];exact wrapu (by omega) (by omega)
theorem NK :(256:Nat) ^ 8=18446744073709551616:=by decide
theorem su{s:List UInt8}(hs:s.length<=8):∀(k i n:Nat),i+k=s.length->n < 256 ^ i->fc (s,(n:Int),(s.length:Int),(i:Int))=some ((fb n (s.drop i):Nat):Int)
 | 0,i,n,hi,hn=>by
  rw[fc,if_neg (by simp;omega),List.drop_eq_nil_of_le (by omega:s.length<=i)];rfl
 | k+1,i,n,hi,hn=>by
  have hlt:i < s.length:=by omega
  have hb:=l9 s i;have hn7:n < 72057594037927936:=by
   have:(256:Nat) ^ i<=256 ^ 7:=Nat.pow_le_pow_right (by omega) (by omega);omega
  rw[fc,if_pos (by simp;omega),if_pos (au hlt),shl8 hn7,gw,wrpn (by omega),Lj hn7 hb,aB (by omega),su hs k (i+1) _ (by omega) (by rw[Nat.pow_succ];omega),bp hlt 0];rfl
theorem sw{s:List UInt8}(hs:s.length<=8):∀(k i n:Nat),i+k=s.length->n < 256 ^ i->eM (s,(n:Int),(i:Int))=some ((fb n (s.drop i):Nat):Int)
 | 0,i,n,hi,hn=>by
  rw[eM,if_neg (by simp;omega),List.drop_eq_nil_of_le (by omega:s.length<=i)];rfl
 | k+1,i,n,hi,hn=>by
  have hlt:i < s.length:=by omega
  have hb:=l9 s i;have hn7:n < 72057594037927936:=by
   have:(256:Nat) ^ i<=256 ^ 7:=Nat.pow_le_pow_right (by omega) (by omega);omega
  have e1:mulI .u64 (n:Int) 256=((n*256:Nat):Int):=mulIn (b:=256) (by omega);rw[eM,if_pos (by simp;omega),if_pos (au hlt),e1,gw,wrpn (by omega),addIn (by omega),aB (by omega),sw hs k (i+1) _ (by omega) (by rw[Nat.pow_succ];omega),bp hlt 0];rfl
def vub(s:List UInt8):Option Nat:=if s.head?=some 0\/8 < s.length then none else some (fb 0 s)
theorem pT{s:List UInt8}{n:Nat}(h:vub s=some n):n < 18446744073709551616:=by
 unfold vub at h;split at h
 . cases h
 . rename_i hh;cases h;have:=fb_lt s 0 0 (by simp);have h2:(256:Nat) ^ (0+s.length)<=256 ^ 8:=Nat.pow_le_pow_right (by omega) (by omega);omega
theorem xO{s:List UInt8}(h:s≠[]):(bf s 0=0)↔s.head?=some 0:=by
 cases s with
 | nil=>exact absurd rfl h
 | cons c s=>
  have:bf (c::s) 0=(c.toNat:Int):=gw (c::s) 0;rw[this];simp only[List.head?_cons,Option.some.injEq];constructor
  . intro h;exact UInt8.toNat_inj.1 (by simpa using h)
  simp_all
theorem wL(s:List UInt8):∃r,lu s=some r/\nv s=some r/\(r.2=0->∃n,vub s=some n/\r.1=(n:Int))/\(r.2≠0->vub s=none):=by
 rw[lu,nv];simp only[oZ4,oZ3];by_cases h0:s=[]
 . subst h0;have e1:fc ([],0,((([]:List UInt8)).length:Int),0)=some ((fb 0 []:Nat):Int):=su (s:=[]) (by simp) 0 0 0 rfl (by simp);have e2:eM ([],0,0)=some ((fb 0 []:Nat):Int):=sw (s:=[]) (by simp) 0 0 0 rfl (by simp);refine⟨(((fb 0 []:Nat):Int),0),?_,?_,fun _=>⟨0,rfl,rfl⟩,fun h=>absurd rfl h⟩
   . grind
   grind
 . have hpos:0 < s.length:=List.length_pos_iff.2 h0;have hin:inR 0 s.length=true:=au (k:=0) hpos;have hd:decide ((0:Int) < (s.length:Int))=true:=by simp;omega
   have hd2:(!(decide (s=[])))=true:=by simp[h0]
   rw[hd,hd2,hin];simp only[Bool.true_or,if_true,cond_true];by_cases hz:bf s 0=0
   . have hzc:decide (bf s 0=0)=true:=by simp[hz]
     rw[if_pos hzc,if_pos hzc];refine⟨_,rfl,rfl,fun h=>(by cases h),fun _=>?_⟩;unfold vub;rw[if_pos (.inl ((xO h0).1 hz))]
   . have hzc:¬(decide (bf s 0=0)=true):=by simp[hz]
     rw[if_neg hzc,if_neg hzc];by_cases h8:8 < s.length
     . have:decide ((8:Int) < (s.length:Int))=true:=by simp;omega
       rw[if_pos this,if_pos this];refine⟨_,rfl,rfl,fun h=>(by cases h),fun _=>?_⟩;unfold vub;rw[if_pos (.inr h8)]
     . have:¬(decide ((8:Int) < (s.length:Int))=true):=by simp;omega
       rw[if_neg this,if_neg this];have e1:fc (s,0,(s.length:Int),0)=some ((fb 0 s:Nat):Int):=su (by omega) s.length 0 0 (by omega) (by simp);have e2:eM (s,0,0)=some ((fb 0 s:Nat):Int):=sw (by omega) s.length 0 0 (by omega) (by simp);rw[e1,e2];refine⟨_,rfl,rfl,fun _=>⟨fb 0 s,?_,rfl⟩,fun h=>absurd rfl h⟩;unfold vub;rw[if_neg]
       rintro (h | h)
       . exact hz ((xO h0).2 h)
       omega
def unz(n:Nat):Int:=if n % 2=0 then((n / 2:Nat):Int)else -((n / 2:Nat):Int) - 1
theorem zV{n:Int}(h:I64 n):unz (zig n).toNat=n:=by
 unfold unz zig I64 at*;omega
theorem NL{n:Nat}(h:n < 18446744073709551616):nr (n:Int)=some (unz n):=by
 rw[nr];have e1:remI (n:Int) 2=((n % 2:Nat):Int):=remIn (b:=2);have e2:quoI .u64 (n:Int) 2=((n / 2:Nat):Int):=quoI2 h;rw[e1,e2,wrp64 (by omega) (by omega)];unfold unz;by_cases h0:n % 2=0
 . grind
 . have e3:subI .i64 0 ((n / 2:Nat):Int)= -((n / 2:Nat):Int):=by rw[cz (by omega) (by omega)];omega
   rw[if_neg (by simp;omega),if_neg h0,e3,cz (by omega) (by omega)]
theorem and1{n:Nat}(h:n < 18446744073709551616):andI .u64 (n:Int) 1=((n % 2:Nat):Int):=by
 have e:(BitVec.ofInt 64 (n:Int) &&& BitVec.ofInt 64 (1:Int)).toNat=n % 2:=by grind
 show IntKind.u64.wrap (((BitVec.ofInt 64 (n:Int) &&& BitVec.ofInt 64 (1:Int)).toNat:Nat):Int)=_;rw[e];exact wrapu (by omega) (by omega)
theorem shr1{n:Nat}:shrI .u64 (n:Int) 1=((n / 2:Nat):Int):=by
 unfold shrI;have:((2:Int) ^ min (1:Int).toNat IntKind.u64.bits)=2:=by decide
 grind
theorem IC{a:Nat}(h:a < 9223372036854775808):xorI .i64 (a:Int) 0=(a:Int):=by
 have e:(BitVec.ofInt 64 (a:Int) ^^^ BitVec.ofInt 64 (0:Int)).toNat=a:=by grind
 show IntKind.i64.wrap (((BitVec.ofInt 64 (a:Int) ^^^ BitVec.ofInt 64 (0:Int)).toNat:Nat):Int)=_;rw[e,IntKind.wrap_i64];omega
theorem IE{a:Nat}(h:a < 9223372036854775808):xorI .i64 (a:Int) (-1)= -(a:Int) - 1:=by
 have e:(BitVec.ofInt 64 (a:Int) ^^^ BitVec.ofInt 64 (-1:Int)).toNat=18446744073709551615 - a:=by
  have h1:BitVec.ofInt 64 (-1:Int)=BitVec.allOnes 64:=by decide
  rw[h1,BitVec.ofInt_natCast,BitVec.xor_allOnes,BitVec.toNat_not,BitVec.toNat_ofNat,two64,Nat.mod_eq_of_lt (by omega)]
 all_goals (try omega)
 show IntKind.i64.wrap (((BitVec.ofInt 64 (a:Int) ^^^ BitVec.ofInt 64 (-1:Int)).toNat:Nat):Int)=_;rw[e,IntKind.wrap_i64];omega
theorem NM{n:Nat}(h:n < 18446744073709551616):nK (n:Int)=some (unz n):=by
 rw[nK,shr1,and1 h,wrp64 (by omega) (by omega),wrp64 (by omega) (by omega),cz (by omega) (by omega)];unfold unz;by_cases h0:n % 2=0
 . rw[if_pos h0,h0];have:(0:Int) - ((0:Nat):Int)=0:=rfl;rw[this,IC (by omega)]
 . have h1:n % 2=1:=by omega
   rw[if_neg h0,h1];have:(0:Int) - ((1:Nat):Int)= -1:=rfl;rw[this,IE (by omega)]
def vI(p:List UInt8):Option (List (List UInt8)):=match dO p with
 | some (l,e)=>if e=0 then some l else none
 | none=>none
def vFl(p:List UInt8):Option (List aM):=match fk p with
 | some (l,e)=>if e=0 then some l else none
 | none=>none
def vA(p:List UInt8):Option (Int×List UInt8):=match ft p with
 | some (id,q,e)=>if e=0 then some (id,q)else none
 | none=>none
theorem xP :∀(n:Nat) (s:List UInt8) (b l:List (List UInt8)),s.length<=n->s.length+b.length<=100000->bP (s,b)=some (.inr l)->∀q,q∈l->q∈b\/q.length<=s.length
 | n,s,b,l,hn,hb,h=>by
  rw[bP]at h;by_cases h0:s=[]
  . grind
  . rw[if_pos (by simp[h0]),dY (by omega)]at h;simp only[oZ4,oZ3]at h;cases hv:vpart s with
    | none=>
     rw[hv]at h;simp[encP]at h
    | some r=>
     obtain⟨x,rest⟩:=r;rw[hv]at h;have hl:=gD hv;have hnn:¬((!(encP (some (x,rest))).2.2)=true):=by simp[encP]
     have hr:room 16 (b++[(encP (some (x,rest))).1]).length=true:=aW (by omega) (by simp;omega);rw[if_neg hnn,if_pos hr]at h;intro q hq
     match n,hn with
     | 0,hn=>omega
     | n+1,hn=>
      have:=xP n rest _ l (by omega) (by simp;omega) h q hq;rcases this with h | h
      . rcases List.mem_append.1 h with h | h
        . exact .inl h
        . right;have:q=x:=by simpa[encP]using h
          grind
      omega
theorem wM : ∀ (n : Nat) (s : List UInt8) (last : Nat) (b l : List aM), s.length <= n -> s.length + b.length <= 100000 -> bq ((last : Int), s, b) = some (.inr l) ->
 ∃l',l=b++l'/\(∀f,f∈l'->f.Data.length<=s.length/\(last:Int) < f.ID/\f.ID<=1000)/\l'.Pairwise (fun a b=>a.ID < b.ID)
 | n,s,last,b,l,hn,hb,h=>by
  rw[bq]at h;by_cases h0:s=[]
  . simp_all
  . rw[if_pos (by simp[h0])]at h;rcases vg0 s with⟨e,he,hg⟩ | ⟨m,k,hg,hk0,hk,hm⟩
    . rw[gH he hg]at h;simp at h
    . rw[dX hg hk]at h;simp only[oZ4,oZ3,quoI2 hm]at h;by_cases hc:((m / 2:Nat):Int)<=(last:Int)\/1000 < ((m / 2:Nat):Int)
      . grind
      . have:¬((bif bif (!true)then true else decide (((m / 2:Nat):Int)<=(last:Int))then true else decide (1000 < ((m / 2:Nat):Int)))=true):=by grind
        rw[if_neg this,dY (by rw[List.length_drop];omega)]at h;simp only[oZ3]at h;cases hv:vpart (s.drop k)with
        | none=>
         rw[hv]at h;simp[encP]at h
        | some r=>
         obtain⟨x,rest⟩:=r;rw[hv]at h;have hl:=gD hv;rw[List.length_drop]at hl;have hnn:¬((!(encP (some (x,rest))).2.2)=true):=by simp[encP]
         have hw:wrp .i64 ((m / 2:Nat):Int)=((m / 2:Nat):Int):=wrp64 (by omega) (by omega);rw[if_neg hnn,hw]at h;have hr:room 32 (b++[(⟨((m / 2:Nat):Int),decide (remI (m:Int) 2=1),(encP (some (x,rest))).1⟩:aM)]).length=true:=aW (by omega) (by simp;omega);rw[if_pos hr]at h
         match n,hn with
         | 0,hn=>omega
         | n+1,hn=>
          obtain⟨l',e,h1,h2⟩:=wM n rest (m / 2) _ l (by omega) (by simp;omega) h;refine⟨⟨((m / 2:Nat):Int),decide (remI (m:Int) 2=1),(encP (some (x,rest))).1⟩::l',by rw[e];simp,fun f hf=>?_,?_⟩
          . rcases List.mem_cons.1 hf with rfl | hf
            . refine⟨by show x.length<=_;omega,by show(last:Int) < ((m / 2:Nat):Int);omega,by show((m / 2:Nat):Int)<=1000;omega⟩
            grind
          grind
theorem gy{p:List UInt8}(hp:p.length<=90000):∃o,dO p=some o/\jh p=some o/\(o.2=0->vI p=some o.1/\(∀q,q∈o.1->q.length<=p.length)/\o.1.length<=p.length)/\(o.2≠0->vI p=none):=by
 obtain⟨o,h1,h2,h3⟩:=Kc hp;refine⟨o,h1,h2,fun h0=>⟨?_,?_,h3⟩,fun h0=>?_⟩
 . unfold vI;rw[h1]
   grind
 . obtain⟨o',a1,_,_⟩:=sk p.length p [] (by omega) (by simp;omega);rw[dO,a1]at h1;cases o' with
   | inl e=>grind
   | inr l=>
    have:o=(l,0):=(Option.some.inj h1).symm;subst this;intro q hq;rcases xP p.length p [] l (by omega) (by simp;omega) a1 q hq with h | h
    . cases h
    . exact h
 . unfold vI;rw[h1]
   grind
theorem oz{p:List UInt8}(hp:p.length<=90000):∃o,fk p=some o/\kS p=some o/\(o.2=0->vFl p=some o.1/\(∀f,f∈o.1->f.Data.length<=p.length/\I1000 f.ID)/\o.1.Pairwise (fun a b=>a.ID < b.ID)/\o.1.length<=p.length)/\(o.2≠0->vFl p=none):=by
 obtain⟨o,h1,h2,h3⟩:=Il hp;obtain⟨o',a1,_,_⟩:=xp p.length p 0 [] (by omega) (by simp;omega);have key:o.2=0->(∀f,f∈o.1->f.Data.length<=p.length/\I1000 f.ID)/\o.1.Pairwise (fun a b=>a.ID < b.ID):=by
  intro h0;have h1':=h1;have a1':bq (0,p,[])=some o':=a1;rw[fk,a1']at h1';cases o' with
  | inl e=>
   have:o=([],e):=(Option.some.inj h1').symm;simp_all
  | inr l=>
   have:o=(l,0):=(Option.some.inj h1').symm;subst this;obtain⟨l',e,b1,b2⟩:=wM p.length p 0 [] l (by omega) (by simp;omega) a1;have:l=l':=by simpa using e
   subst this;exact⟨fun f hf=>by have:=b1 f hf;exact⟨this.1,by omega,this.2.2⟩,b2⟩
 refine⟨o,h1,h2,fun h0=>⟨?_,(key h0).1,(key h0).2,h3⟩,fun h0=>?_⟩
 . unfold vFl;rw[h1]
   grind
 . unfold vFl;rw[h1]
   grind
theorem sx(p:List UInt8):∃o,ft p=some o/\lh p=some o/\(o.2.2=0->vA p=some (o.1,o.2.1)/\o.2.1.length<=p.length/\I1000 o.1)/\(o.2.2≠0->vA p=none):=by
 obtain⟨o,h1,h2⟩:=Nu p;have key:o.2.2=0->o.2.1.length<=p.length/\I1000 o.1:=by
  intro h0;have h1':=h1;rw[ft]at h1';rcases vg0 p with⟨e,he,hg⟩ | ⟨m,k,hg,hk0,hk,hm⟩
  . rw[gH he hg]at h1'
    grind
  . rw[dX hg hk]at h1';simp only[oZ4,oZ3]at h1';by_cases hc:(m:Int) < 1\/1000 < (m:Int)
    . grind
    . have hcc:¬((bif bif (!true)then true else decide ((m:Int) < 1)then true else decide (1000 < (m:Int)))=true):=by grind
      rw[if_neg hcc,wrp64 (by omega) (by omega)]at h1';have:o=((m:Int),p.drop k,0):=(Option.some.inj h1').symm;subst this;exact⟨by show(p.drop k).length<=_;rw[List.length_drop];omega,by omega,by show(m:Int)<=1000;omega⟩
 refine⟨o,h1,h2,fun h0=>⟨?_,(key h0).1,(key h0).2⟩,fun h0=>?_⟩
 . unfold vA;rw[h1]
   grind
 . unfold vA;rw[h1]
   grind
def dh(a b:List UInt8):Bool:=bif decide ((a.length:Int) < (b.length:Int))then true else bif decide ((a.length:Int)=(b.length:Int))then Op.bytesLess a b else false
def vcan(ts:List ae):Nat->Int->List UInt8->Prop
 | 0,_,_=>False
 | r+1,t,p=>
  let x:=ts.getD t.toNat ag
  (x.Kind=1/\(p=[]\/p=[1]))\/
  (x.Kind=2/\∃n,vub p=some n/\x.Low<=unz n/\unz n<=x.High)\/
  (x.Kind=3/\(p.length:Int)<=x.Max)\/
  (x.Kind=4/\∃n,vub p=some n/\(1<=n/\n<=1000)/\((∃y,y∈x.Symbols/\y.ID=(n:Int))\/x.Open=true))\/
  (x.Kind=5/\∃l,vFl p=some l/\(∀f,f∈l->(findM x.Members f.ID=none->f.Critical=false)/\∀m,findM x.Members f.ID=some m->f.Critical=m.Critical/\vcan ts r m.Type_ f.Data/\(m.HasDefault=true->f.Data≠vpay ts m.Type_ m.Default))/\∀m,m∈x.Members->m.HasDefault=false->∃f,f∈l/\f.ID=m.ID)\/
  (x.Kind=6/\∃id q,vA p=some (id,q)/\(findM x.Members id=none->x.Open=true)/\∀m,findM x.Members id=some m->vcan ts r m.Type_ q)\/
  (x.Kind=7/\∃l,vI p=some l/\(l.length:Int)<=x.Max/\∀q,q∈l->vcan ts r x.Elem q)\/
  (x.Kind=8/\∃l,vI p=some l/\l.length % 2=0/\((l.length / 2:Nat):Int)<=x.Max/\∀i,2*i+1 < l.length->vcan ts r x.Key (l.getD (2*i) [])/\vcan ts r x.Elem (l.getD (2*i+1) [])/\(0 < i->dh (l.getD (2*i - 2) []) (l.getD (2*i) [])=true))\/
  (x.Kind=9/\(p=[]\/∃q,p=1::q/\vcan ts r x.Elem q))
section
variable {ts:List ae}
def okF(ts:List ae)(r:Nat)(Ms:List ap)(f:aM):Prop:=(findM Ms f.ID=none->f.Critical=false)/\∀m,findM Ms f.ID=some m->f.Critical=m.Critical/\vcan ts r m.Type_ f.Data/\(m.HasDefault=true->f.Data≠vpay ts m.Type_ m.Default)
end
section
variable {ts:List ae}
theorem zW (r : Nat) (t : Int) (p : List UInt8): vcan ts (r + 1) t p ↔
 (((ts.getD t.toNat ag).Kind=1/\(p=[]\/p=[1]))\/
 ((ts.getD t.toNat ag).Kind=2/\∃n,vub p=some n/\(ts.getD t.toNat ag).Low<=unz n/\unz n<=(ts.getD t.toNat ag).High)\/
 ((ts.getD t.toNat ag).Kind=3/\(p.length:Int)<=(ts.getD t.toNat ag).Max)\/
 ((ts.getD t.toNat ag).Kind=4/\∃n,vub p=some n/\(1<=n/\n<=1000)/\((∃y,y∈(ts.getD t.toNat ag).Symbols/\y.ID=(n:Int))\/(ts.getD t.toNat ag).Open=true)))\/
 ((ts.getD t.toNat ag).Kind=5/\∃l,vFl p=some l/\(∀f,f∈l->okF ts r (ts.getD t.toNat ag).Members f)/\∀m,m∈(ts.getD t.toNat ag).Members->m.HasDefault=false->∃f,f∈l/\f.ID=m.ID)\/
 ((ts.getD t.toNat ag).Kind=6/\∃id q,vA p=some (id,q)/\(findM (ts.getD t.toNat ag).Members id=none->(ts.getD t.toNat ag).Open=true)/\∀m,findM (ts.getD t.toNat ag).Members id=some m->vcan ts r m.Type_ q)\/
 ((ts.getD t.toNat ag).Kind=7/\∃l,vI p=some l/\(l.length:Int)<=(ts.getD t.toNat ag).Max/\∀q,q∈l->vcan ts r (ts.getD t.toNat ag).Elem q)\/
 ((ts.getD t.toNat ag).Kind=8/\∃l,vI p=some l/\l.length % 2=0/\((l.length / 2:Nat):Int)<=(ts.getD t.toNat ag).Max/\∀i,2*i+1 < l.length->vcan ts r (ts.getD t.toNat ag).Key (l.getD (2*i) [])/\vcan ts r (ts.getD t.toNat ag).Elem (l.getD (2*i+1) [])/\(0 < i->dh (l.getD (2*i - 2) []) (l.getD (2*i) [])=true))\/
 ((ts.getD t.toNat ag).Kind=9/\(p=[]\/∃q,p=1::q/\vcan ts r (ts.getD t.toNat ag).Elem q)):=by
 rw[vcan];simp only[or_assoc];exact Iff.rfl
end
section
variable {ts:List ae}
theorem NN {r : Nat} {j : Nat} {p : List UInt8} {x : ae} (hx : ts.getD j ag = x):
 (x.Kind=1->(vcan ts (r+1) (j:Int) p↔(p=[]\/p=[1])))/\
 (x.Kind=2->(vcan ts (r+1) (j:Int) p↔∃n,vub p=some n/\x.Low<=unz n/\unz n<=x.High))/\
 (x.Kind=3->(vcan ts (r+1) (j:Int) p↔(p.length:Int)<=x.Max))/\
 (x.Kind=4->(vcan ts (r+1) (j:Int) p↔∃n,vub p=some n/\(1<=n/\n<=1000)/\((∃y,y∈x.Symbols/\y.ID=(n:Int))\/x.Open=true)))/\
 (x.Kind=5->(vcan ts (r+1) (j:Int) p↔∃l,vFl p=some l/\(∀f,f∈l->okF ts r x.Members f)/\∀m,m∈x.Members->m.HasDefault=false->∃f,f∈l/\f.ID=m.ID))/\
 (x.Kind=6->(vcan ts (r+1) (j:Int) p↔∃id q,vA p=some (id,q)/\(findM x.Members id=none->x.Open=true)/\∀m,findM x.Members id=some m->vcan ts r m.Type_ q))/\
 (x.Kind=7->(vcan ts (r+1) (j:Int) p↔∃l,vI p=some l/\(l.length:Int)<=x.Max/\∀q,q∈l->vcan ts r x.Elem q))/\
 (x.Kind=8->(vcan ts (r+1) (j:Int) p↔∃l,vI p=some l/\l.length % 2=0/\((l.length / 2:Nat):Int)<=x.Max/\∀i,2*i+1 < l.length->vcan ts r x.Key (l.getD (2*i) [])/\vcan ts r x.Elem (l.getD (2*i+1) [])/\(0 < i->dh (l.getD (2*i - 2) []) (l.getD (2*i) [])=true)))/\
 (x.Kind=9->(vcan ts (r+1) (j:Int) p↔(p=[]\/∃q,p=1::q/\vcan ts r x.Elem q))):=by
 have hv:=zW (ts:=ts) r (j:Int) p;rw[aw,hx]at hv;refine⟨fun k=>?_,fun k=>?_,fun k=>?_,fun k=>?_,fun k=>?_,fun k=>?_,fun k=>?_,fun k=>?_,fun k=>?_⟩ <;> rw[hv] <;> simp[k]
end
theorem sy{n m:Nat}(hn:n < 18446744073709551616)(hm:m < 18446744073709551616){r s:List UInt8}(h:vput n++r=vput m++s):n=m/\r=s:=by
 have h1:=my hn r;rw[h,my hm s]at h1;have e:((m:Nat):Int)=(n:Int):=congrArg Prod.fst h1;have e:m=n:=by omega
 simp_all
theorem oM{p q r s:List UInt8}(hp:p.length < 18446744073709551616)(hq:q.length < 18446744073709551616)(h:aO p++r=aO q++s):p=q/\r=s:=by
 unfold aO at h;rw[List.append_assoc,List.append_assoc]at h;obtain⟨h1,h2⟩:=sy hp hq h;exact List.append_inj h2 h1
theorem yR :∀{a b:List (List UInt8)},(∀x,x∈a->x.length < 18446744073709551616)->(∀x,x∈b->x.length < 18446744073709551616)->a.flatMap aO=b.flatMap aO->a=b
 | [],[],_,_,_=>rfl
 | [],q::b,_,_,h=>by
  have h2:=congrArg List.length h;have:=l5 q
  grind
 | p::a,[],_,_,h=>by
  have h2:=congrArg List.length h;have:=l5 p
  grind
 | p::a,q::b,ha,hb,h=>by
  rw[List.flatMap_cons,List.flatMap_cons]at h;obtain⟨e,h2⟩:=oM (ha _ (.head _)) (hb _ (.head _)) h;rw[e,yR (fun x hx=>ha x (.tail _ hx)) (fun x hx=>hb x (.tail _ hx)) h2]
def FdOk(f:Fd):Prop:=f.id<=1000/\f.p.length < 18446744073709551616
theorem yS :∀{a b:List Fd},(∀x,x∈a->FdOk x)->(∀x,x∈b->FdOk x)->a.flatMap Fd.text=b.flatMap Fd.text->a=b
 | [],[],_,_,_=>rfl
 | [],q::b,_,_,h=>by
  have h2:=congrArg List.length h;have:=sq q
  grind
 | p::a,[],_,_,h=>by
  have h2:=congrArg List.length h;have:=sq p
  grind
 | ⟨i,c,p⟩::a,⟨j,d,q⟩::b,ha,hb,h=>by
  have h1:=ha _ (.head _);have h2:=hb _ (.head _);unfold FdOk at h1 h2;simp only at h1 h2;rw[List.flatMap_cons,List.flatMap_cons]at h;simp only[Fd.text,bn,List.append_assoc]at h;obtain⟨e1,h3⟩:=sy (by split <;> omega) (by split <;> omega) h;obtain⟨e2,h4⟩:=oM h1.2 h2.2 h3;have e3:=yS (fun x hx=>ha x (.tail _ hx)) (fun x hx=>hb x (.tail _ hx)) h4
  grind
theorem sR :∀(s:List UInt8) (n:Nat) (b:UInt8),fb n (s++[b])=fb n s*256+b.toNat
 | [],n,b=>by simp[fb]
 | a::s,n,b=>by
  simp only[List.cons_append,fb];exact sR s _ b
theorem sS(n:Nat):fb 0 (vbig n)=n:=by
 induction n using Nat.strongRecOn with
 | ind n ih=>
  rw[vbig];split
  . rename_i h;subst h;rfl
  . rw[sR,ih (n / 256) (by omega),cv (by omega)];omega
theorem yT{n m:Nat}(h:vbig n=vbig m):n=m:=by rw[<-sS n,<-sS m,h]
theorem IF :∀(n:Nat),¬(vbig n).head?=some 0:=by
 intro n
 induction n using Nat.strongRecOn with
 | ind n ih=>
  rw[vbig];split
  . simp
  . rename_i h;have:=ih (n / 256) (by omega);by_cases h2:n < 256
    . have:n / 256=0:=by omega
      rw[this,vbig,if_pos rfl];simp only[List.nil_append,List.head?_cons,Option.some.injEq];intro hc;have h3:=congrArg UInt8.toNat hc;rw[cv (by omega)]at h3
      grind
    . have hne:vbig (n / 256)≠[]:=by rw[vbig,if_neg (by omega)];simp
      cases hv:vbig (n / 256)with
      | nil=>exact absurd hv hne
      | cons a l=>rw[hv]at this;simpa using this
theorem yU{n:Nat}(h:n < 18446744073709551616):vub (vbig n)=some n:=by
 unfold vub;have h1:=IF n;have h2:=po 8 n (by rw[NK];exact h)
 rw [if_neg (by rintro (h | h)
                . exact h1 h
                . omega),sS]
theorem Lk{a b:List aE}(ha:a.Pairwise (fun x y=>x.ID < y.ID))(hb:b.Pairwise (fun x y=>x.ID < y.ID))(h:∀x,x∈a↔x∈b):a=b:=by
 have na:a.Nodup:=ha.imp fun {x y} h e=>by subst e;omega
 have nb:b.Nodup:=hb.imp fun {x y} h e=>by subst e;omega
 have hp:a.Perm b:=(List.perm_ext_iff_of_nodup na nb).2 h;exact List.Perm.eq_of_pairwise (le:=fun x y:aE=>x.ID < y.ID) (fun x y _ _ h1 h2=>by omega) ha hb hp
theorem zX :∀{a b c d:List (List UInt8)},(∀x,x∈a->x.length < 18446744073709551616)->(∀x,x∈b->x.length < 18446744073709551616)->(∀x,x∈c->x.length < 18446744073709551616)->(∀x,x∈d->x.length < 18446744073709551616)->a.length=b.length->c.length=d.length->ilv a b=ilv c d->a=c/\b=d
 | [],[],[],[],_,_,_,_,_,_,_=>⟨rfl,rfl⟩
 | [],[],p::c,q::d,_,_,_,_,_,_,h=>by
  have h2:=congrArg List.length h;have:=l5 p;simp only[ilv,List.length_append,List.length_nil]at h2;omega
 | p::a,q::b,[],[],_,_,_,_,_,_,h=>by
  have h2:=congrArg List.length h;have:=l5 p;simp only[ilv,List.length_append,List.length_nil]at h2;omega
 | p::a,q::b,r::c,s::d,ha,hb,hc,hd,h1,h2,h=>by
  simp only[ilv]at h;obtain⟨e1,h3⟩:=oM (ha _ (.head _)) (hc _ (.head _)) h;obtain⟨e2,h4⟩:=oM (hb _ (.head _)) (hd _ (.head _)) h3;obtain⟨e3,e4⟩:=zX (fun x hx=>ha x (.tail _ hx)) (fun x hx=>hb x (.tail _ hx)) (fun x hx=>hc x (.tail _ hx)) (fun x hx=>hd x (.tail _ hx)) (by simpa using h1) (by simpa using h2) h4
  grind
theorem o4{ts:List ae}{t:Int}:∀{l m:List ab},(∀x,x∈l->∀y,y∈m->vpay ts t x=vpay ts t y->x=y)->vpays ts t l=vpays ts t m->l=m
 | [],[],_,_=>rfl
 | [],y::m,_,h=>by rw[vpays,vpays]at h;cases h
 | x::l,[],_,h=>by rw[vpays,vpays]at h;cases h
 | x::l,y::m,hi,h=>by
  rw[vpays,vpays]at h;injection h with h1 h2;rw[hi x (.head _) y (.head _) h1,o4 (fun a ha b hb=>hi a (.tail _ ha) b (.tail _ hb)) h2]
theorem Kr{l m:List ab}(hl:l.length=m.length)(h:∀i,i < l.length->l.getD i af=m.getD i af):l=m:=by
 apply List.ext_getElem hl
 grind
theorem rE{ts:List ae}{n:Nat}:∀{ms:List ap} {l:List ab},(∀x,x∈l->∀t,(vpay ts t x).length < n)->∀f,f∈vents ts ms l->f.p.length < n
 | [],l,_,f,hf=>by rw[vents]at hf;cases hf;intros;simp_all
 | m::ms,[],_,f,hf=>by rw[vents]at hf;cases hf;intros;simp_all
 | m::ms,v::l,h,f,hf=>by
  rw[vents]at hf;split at hf
  . exact rE (fun x hx=>h x (.tail _ hx)) f hf
  . rcases List.mem_cons.1 hf with rfl | hf
    . grind
    . exact rE (fun x hx=>h x (.tail _ hx)) f hf
theorem Ll {ts : List ae} {ms : List ap} {a b : List ab} {ra rb : List aE} (hm : MAsc ms) (hra : ca ms ra) (hrb : ca ms rb) (hla : a.length = ms.length) (hlb : b.length = ms.length)
 (da:∀f,f∈aY ts ms a ra->FdOk f) (db:∀f,f∈aY ts ms b rb->FdOk f)
 (ih:∀i,i < ms.length->vpay ts (ms.getD i aj).Type_ (a.getD i af)=vpay ts (ms.getD i aj).Type_ (b.getD i af)->a.getD i af=b.getD i af)
 (h:(isoB ltF (aY ts ms a ra)).flatMap Fd.text=(isoB ltF (aY ts ms b rb)).flatMap Fd.text):a=b/\ra=rb:=by
 have e:=yS (fun f hf=>da f ((cS ltF _).mem_iff.1 hf)) (fun f hf=>db f ((cS ltF _).mem_iff.1 hf)) h;have hp:(aY ts ms a ra).Perm (aY ts ms b rb):=(cS ltF _).symm.trans (e▸cS ltF _);have rawmem:∀{l:List ab} {r:List aE},ca ms r->∀x,I1000 x.ID->findM ms x.ID=none->rawF x∈aY ts ms l r->x∈r:=by
  intro l r hr x hx hn hmem;rcases List.mem_append.1 hmem with h1 | h1
  . obtain⟨m,h2,h3⟩:=iN h1;have:=du hn m h2;have:=hm.2 m h2;have h3:x.ID.toNat=m.ID.toNat:=h3;unfold I1000 at*;omega
  . obtain⟨q,h2,h3⟩:=List.mem_map.1 h1;have hq:=(hr.2 q h2).1;have:q=x:=by
     cases q;cases x;simp only[rawF,Fd.mk.injEq]at h3;unfold I1000 at*
     grind
    grind
 refine⟨Kr (by omega) fun i hi=>?_,Lk hra.1 hrb.1 fun x=>⟨fun hx=>?_,fun hx=>?_⟩⟩
 . have hi':i < ms.length:=by omega
   have hmi:=aC hi' aj;have hid:=hm.2 _ hmi;have hf:=hp.filter fun x=>decide (x.id=(ms.getD i aj).ID.toNat)
   have noraw:∀{r:List aE},ca ms r->((r.map rawF).filter fun x=>decide (x.id=(ms.getD i aj).ID.toNat))=[]:=by
    intro r hr;rw[List.filter_eq_nil_iff];intro f hf;obtain⟨q,h2,rfl⟩:=List.mem_map.1 hf;have h3:=hr.2 q h2;have:=du h3.2 _ hmi;have:=h3.1;have:¬q.ID.toNat=(ms.getD i aj).ID.toNat:=by unfold I1000 at*;omega
    simpa[rawF]using this
   unfold aY at hf;rw[List.filter_append,List.filter_append,noraw hra,noraw hrb,List.append_nil,List.append_nil,lS (mz hm) hla hi' rfl,lS (mz hm) hlb hi' rfl]at hf;by_cases oa:om (ms.getD i aj) (a.getD i af)=true
   . by_cases ob:om (ms.getD i aj) (b.getD i af)=true
     . unfold om at oa ob;simp only[Bool.and_eq_true,decide_eq_true_eq]at oa ob;rw[<-oa.2,<-ob.2]
     . rw[if_pos oa,if_neg ob]at hf;have:=hf.length_eq;simp at this
   . by_cases ob:om (ms.getD i aj) (b.getD i af)=true
     . rw[if_neg oa,if_pos ob]at hf;have:=hf.length_eq;simp at this
     . rw[if_neg oa,if_neg ob]at hf;have:=List.perm_singleton.1 hf.symm;simp only[List.cons.injEq,Fd.mk.injEq,and_true,true_and]at this;exact ih i hi' this.symm
 . obtain⟨h1,h2⟩:=hra.2 x hx;exact rawmem hrb x h1 h2 (hp.mem_iff.1 (List.mem_append_right _ (List.mem_map_of_mem hx)))
 . obtain⟨h1,h2⟩:=hrb.2 x hx;exact rawmem hra x h1 h2 (hp.mem_iff.2 (List.mem_append_right _ (List.mem_map_of_mem hx)))
theorem Kt{ts:List ae}(H:SOk ts){a:ab}(ha:OkV a):∀{t:Int} {b:ab},OkV b->wt a<=1099511627776->wt b<=1099511627776->vfit ts false t a->vfit ts false t b->vpay ts t a=vpay ts t b->a=b:=by
 induction ha with
 | mk a hs h1 h2 h3 hk hi hrd n1 n2 n3 n4 ihk ihi=>
  intro t b hb wa wb fa fb e;have hwa:=wt_eq a;have hwb:=wt_eq b;have hOb:=hb;cases hb with
  | mk _ gs g1 g2 g3 gk gi grd m1 m2 m3 m4=>
  have lI:∀x,x∈a.Items->∀t,(vpay ts t x).length < 18446744073709551616:=fun x hx t=>by have:=ef H (hi x hx) (by have:=bc hx;omega) t;omega
  have lK:∀x,x∈a.Keys->∀t,(vpay ts t x).length < 18446744073709551616:=fun x hx t=>by have:=ef H (hk x hx) (by have:=bc hx;omega) t;omega
  have kI:∀x,x∈b.Items->∀t,(vpay ts t x).length < 18446744073709551616:=fun x hx t=>by have:=ef H (gi x hx) (by have:=bc hx;omega) t;omega
  have kK:∀x,x∈b.Keys->∀t,(vpay ts t x).length < 18446744073709551616:=fun x hx t=>by have:=ef H (gk x hx) (by have:=bc hx;omega) t;omega
  have IHI:∀{t:Int} x,x∈a.Items->∀y,y∈b.Items->vfit ts false t x->vfit ts false t y->vpay ts t x=vpay ts t y->x=y:=fun x hx y hy f g=>ihi x hx (gi y hy) (by have:=bc hx;omega) (by have:=bc hy;omega) f g
  have IHK:∀{t:Int} x,x∈a.Keys->∀y,y∈b.Keys->vfit ts false t x->vfit ts false t y->vpay ts t x=vpay ts t y->x=y:=fun x hx y hy f g=>ihk x hx (gk y hy) (by have:=bc hx;omega) (by have:=bc hy;omega) f g
  obtain⟨⟨p1,p2,p3,_⟩,fa⟩:=(cK _ _ _).1 fa;obtain⟨⟨_,_,q3,_⟩,fb⟩:=(cK _ _ _).1 fb;have hj:t.toNat < ts.length:=by omega
  have hxm:=aC hj ag;have hv1:=fun v=>@vpay1 ts t v
  have hv2:=fun v=>@vpay2 ts t v
  have hv3:=fun v=>@vpay3 ts t v
  have hv4:=fun v=>@vpay4 ts t v
  have hv5:=fun v=>@vpay5 ts t v
  have hv6:=fun v=>@vpay6 ts t v
  have hv7:=fun v=>@vpay7 ts t v
  have hv8:=fun v=>@vpay8 ts t v
  have hv9:=fun v=>@vpay9 ts t v
  have hA:=H.A _ hxm;have hS:=H.S _ hxm;have hT:=H.T _ hxm;generalize ts.getD t.toNat ag=x at*;have fin:a.Kind=b.Kind->a.Bool_=b.Bool_->a.Int_=b.Int_->a.Str=b.Str->a.ID=b.ID->a.Keys=b.Keys->a.Items=b.Items->a.Rest=b.Rest->a=b:=by
   intro e1 e2 e3 e4 e5 e6 e7 e8;cases a;cases b;simp_all
  have ek:a.Kind=b.Kind:=p3.trans q3.symm;rcases fa with⟨k,c1,c2,c3,c4,c5,c6⟩ | ⟨k,c1,c2,c3,c4,c5,c6,c7,c8⟩ | ⟨k,c1,c2,c3,c4,c5,c6,c7⟩ | ⟨k,c1,c2,c3,c4,c5,c6,c7⟩ | ⟨k,c1,c2,c3,c4,c5,c6,c7⟩ | ⟨k,c1,c2,c3,c4,c5⟩ | ⟨k,c1,c2,c3,c4,c5,c6,c7,c8⟩ | ⟨k,c1,c2,c3,c4,c5,c6,c7,c8,c9,c10⟩ | ⟨k,c1,c2,c3,c4,c5,c6,c7,c8⟩ <;>
  rcases fb with⟨l,d1,d2,d3,d4,d5,d6⟩ | ⟨l,d1,d2,d3,d4,d5,d6,d7,d8⟩ | ⟨l,d1,d2,d3,d4,d5,d6,d7⟩ | ⟨l,d1,d2,d3,d4,d5,d6,d7⟩ | ⟨l,d1,d2,d3,d4,d5,d6,d7⟩ | ⟨l,d1,d2,d3,d4,d5⟩ | ⟨l,d1,d2,d3,d4,d5,d6,d7,d8⟩ | ⟨l,d1,d2,d3,d4,d5,d6,d7,d8,d9,d10⟩ | ⟨l,d1,d2,d3,d4,d5,d6,d7,d8⟩ <;>
  (first | (exfalso;omega) | skip) <;> have kx:=p3.symm.trans k
  . rw[hv1 _ kx,hv1 _ kx]at e
    grind
  . rw[hv2 _ kx,hv2 _ kx]at e;have:=yT e;refine fin ek (c1.trans d1.symm) (sP ?_) (c2.trans d2.symm) (c3.trans d3.symm) (c4.trans d4.symm) (c5.trans d5.symm) (c6.trans d6.symm);have z1:0<=zig a.Int_:=by unfold zig;split <;> omega
    have z2:0<=zig b.Int_:=by unfold zig;split <;> omega
    omega
  . grind
  . rw[hv4 _ kx,hv4 _ kx]at e;have:=yT e;refine fin ek (c1.trans d1.symm) (c2.trans d2.symm) (c3.trans d3.symm) ?_ (c4.trans d4.symm) (c5.trans d5.symm) (c6.trans d6.symm);have key:∀{v:ab},((∃y,y∈x.Symbols/\y.ID=v.ID)\/x.Open=true/\false=false/\I1000 v.ID)->I1000 v.ID:=by grind
    have i1:=key c7;have i2:=key d7;unfold I1000 at i1 i2;omega
  . rw[hv5 _ kx,hv5 _ kx]at e;obtain⟨hma,hm16⟩:=hA (.inl kx);obtain⟨hil,hip⟩:=dR.1 c7;obtain⟨hjl,hjp⟩:=dR.1 d7;have ok:∀{l:List ab} {r:List aE},(∀y,y∈l->∀t,(vpay ts t y).length < 18446744073709551616)->ca x.Members r->(∀y,y∈r->y.Data.length<=reachBytes)->∀f,f∈aY ts x.Members l r->FdOk f:=by
     intro l r hl hr hd f hf;refine⟨(qO hma hr hf).2,?_⟩;rcases List.mem_append.1 hf with h | h
     . exact rE hl f h
     . obtain⟨q,h2,rfl⟩:=List.mem_map.1 h;have:=hd q h2;show q.Data.length < _;unfold reachBytes at this;omega
    obtain⟨e1,e2⟩:=Ll hma c6 d6 hil hjl (ok lI c6 hrd) (ok kI d6 grd) (fun i hi=>IHI _ (aC (by omega) _) _ (aC (by omega) _) (hip i hi) (hjp i hi)) e
    grind
  . rw[hv6 _ kx,hv6 _ kx]at e;obtain⟨hma,hm16⟩:=hA (.inr kx)
    have key : ∀ {v : ab}, (match findM x.Members v.ID with
     | some m=>v.Rest=[]/\v.Items.length=1/\vfits ts false m.Type_ v.Items
     | none=>x.Open=true/\false=false/\I1000 v.ID/\v.Items=[]/\∃d,v.Rest=[⟨v.ID,d⟩])->I1000 v.ID:=by
     intro v h;split at h
     . rename_i m hf;have h1:=List.mem_of_find?_eq_some hf;have h2:=List.find?_some hf;simp only[decide_eq_true_eq]at h2;rw[<-h2];exact hma.2 m h1
     . exact h.2.2.1
    have i1:=key c5;have i2:=key d5;have j1:=i1;have j2:=i2;unfold I1000 at j1 j2;obtain⟨e1,e2⟩:=sy (by omega) (by omega) e;have eid:a.ID=b.ID:=by omega
    rw[eid]at c5 e2;cases hf:findM x.Members b.ID with
    | some m=>
     simp only[hf]at c5 d5 e2;obtain⟨r1,r2,r3⟩:=c5;obtain⟨s1,s2,s3⟩:=d5;obtain⟨y,hy⟩:∃y,a.Items=[y]:=List.length_eq_one_iff.1 r2;obtain⟨z,hz⟩:∃y,b.Items=[y]:=List.length_eq_one_iff.1 s2;rw[hy,hz,vpays,vpays]at e2
     have:=IHI y (by rw[hy];exact .head _) z (by rw[hz];exact .head _) (aU.1 r3 y (by rw[hy];exact .head _)) (aU.1 s3 z (by rw[hz];exact .head _)) e2
     grind
    | none=>grind
  . rw[hv7 _ kx,hv7 _ kx]at e;have hf:=aU.1 c8;have hg:=aU.1 d8;have e1:=yR (fun y hy=>by rw[iM]at hy;obtain⟨z,hz,rfl⟩:=List.mem_map.1 hy;exact lI z hz _) (fun y hy=>by rw[iM]at hy;obtain⟨z,hz,rfl⟩:=List.mem_map.1 hy;exact kI z hz _) e
    exact fin ek (c1.trans d1.symm) (c2.trans d2.symm) (c3.trans d3.symm) (c4.trans d4.symm) (c5.trans d5.symm) (o4 (fun y hy z hz=>IHI y hy z hz (hf y hy) (hg z hz)) e1) (c6.trans d6.symm)
  . rw[hv8 _ kx,hv8 _ kx]at e;have hf:=aU.1 c9;have hg:=aU.1 d9;have hfk:=aU.1 c8;have hgk:=aU.1 d8;have lp:∀{l:List ab} {t:Int},(∀y,y∈l->∀t,(vpay ts t y).length < 18446744073709551616)->∀y,y∈vpays ts t l->y.length < 18446744073709551616:=fun hl y hy=>by rw[iM]at hy;obtain⟨z,hz,rfl⟩:=List.mem_map.1 hy;exact hl z hz _
    obtain⟨e1,e2⟩:=zX (lp lK) (lp lI) (lp kK) (lp kI) (by rw[dq,dq];omega) (by rw[dq,dq];omega) e;exact fin ek (c1.trans d1.symm) (c2.trans d2.symm) (c3.trans d3.symm) (c4.trans d4.symm) (o4 (fun y hy z hz=>IHK y hy z hz (hfk y hy) (hgk z hz)) e1) (o4 (fun y hy z hz=>IHI y hy z hz (hf y hy) (hg z hz)) e2) (c5.trans d5.symm)
  . rw[hv9 _ kx,hv9 _ kx]at e;have hf:=aU.1 c8;have hg:=aU.1 d8;refine fin ek (c1.trans d1.symm) (c2.trans d2.symm) (c3.trans d3.symm) (c4.trans d4.symm) (c5.trans d5.symm) ?_ (c6.trans d6.symm)
    match hI:a.Items,hJ:b.Items,c7,d7 with
    | [],[],_,_=>rfl
    | [],z::_,_,_=>rw[hI,hJ,vpays,vpays]at e;cases e
    | y::_,[],_,_=>rw[hI,hJ,vpays,vpays]at e;cases e
    | [y],[z],_,_=>
     rw[hI,hJ,vpays,vpays]at e;injection e with _ e
     grind
    | _::_::_,_,h,_=>simp at h
    | [_],_::_::_,_,h=>simp at h
theorem Gq(p:List UInt8):p.length<=(aO p).length:=by unfold aO;rw[List.length_append];omega
theorem od{p:List UInt8}:∀{l:List (List UInt8)},p∈l->p.length<=(l.flatMap aO).length
 | q::l,h=>by
  rw[List.flatMap_cons,List.length_append];rcases List.mem_cons.1 h with rfl | h
  . have:=Gq p;omega
  . have:=od h;omega
theorem vG :∀{a b:List UInt8} {x y:UInt8},a.length=b.length->Op.bytesLess a b=true->Op.bytesLess (a++[x]) (b++[y])=true
 | [],[],_,_,_,h=>by simp[Op.bytesLess]at h
 | p::a,q::b,x,y,hl,h=>by
  simp only[List.cons_append,Op.bytesLess,Bool.or_eq_true,Bool.and_eq_true]at h ⊢;rcases h with h | ⟨h1,h2⟩
  . exact .inl h
  . exact .inr ⟨h1,vG (by simpa using hl) h2⟩
theorem xQ :∀(a:List UInt8) {x y:UInt8},x < y->Op.bytesLess (a++[x]) (a++[y])=true
 | [],x,y,h=>by simp[Op.bytesLess,h]
 | p::a,x,y,h=>by simp[Op.bytesLess,xQ a h]
theorem oN{a b:List UInt8}:dh a b=true↔a.length < b.length\/a.length=b.length/\Op.bytesLess a b=true:=by
 unfold dh
 grind
theorem xR :∀(m n:Nat),n < m->dh (vbig n) (vbig m)=true:=by
 intro m
 induction m using Nat.strongRecOn with
 | ind m ih=>
  intro n h;rw[oN];have em:vbig m=vbig (m / 256)++[UInt8.ofNat (m % 256)]:=by rw[vbig,if_neg (by omega)]
  by_cases h0:n=0
  . subst h0;have:vbig 0=[]:=by rw[vbig,if_pos rfl]
    grind
  . have en:vbig n=vbig (n / 256)++[UInt8.ofNat (n % 256)]:=by rw[vbig,if_neg h0]
    rw[em,en];simp only[List.length_append,List.length_cons,List.length_nil];by_cases hq:n / 256 < m / 256
    . rcases oN.1 (ih (m / 256) (by omega) _ hq)with h1 | ⟨h1,h2⟩
      . left;omega
      . right;exact⟨by omega,vG h1 h2⟩
    . have:n / 256=m / 256:=by omega
      rw[this];right;refine⟨rfl,xQ _ ?_⟩;rw[UInt8.lt_iff_toNat_lt,cv (by omega),cv (by omega)];omega
theorem cmpN(p q:Prop)[Decidable p][Decidable q](h:(if p then(-1:Int)else if q then 1 else 0) < 0):p:=by grind
theorem xS {ts : List ae} {t : Int} {a b : ab} (hk : 1 <= (ts.getD t.toNat ag).Kind /\ (ts.getD t.toNat ag).Kind <= 4) (ha : OkV a) (hb : OkV b) (ka : a.Kind = (ts.getD t.toNat ag).Kind) (kb : b.Kind = (ts.getD t.toNat ag).Kind)
 (na:0<=a.ID\/a.Kind≠4) (nb:0<=b.ID\/b.Kind≠4) (h:vcmp a b < 0):dh (vpay ts t a) (vpay ts t b)=true:=by
 cases ha with | mk _ _ _ _ _ _ _ _ _ n2 _ _=>
 cases hb with | mk _ _ _ _ _ _ _ _ _ m2 _ _=>
 have hv1:=fun v=>@vpay1 ts t v
 have hv2:=fun v=>@vpay2 ts t v
 have hv3:=fun v=>@vpay3 ts t v
 have hv4:=fun v=>@vpay4 ts t v
 generalize (ts.getD t.toNat ag).Kind=k at*;unfold vcmp at h;rw[dN]at h;rw[if_neg (by simp[ka,kb])]at h;by_cases k1:k=1
 . rw[if_pos (by simp[ka,k1])]at h;rw[hv1 _ k1,hv1 _ k1];cases hA:a.Bool_ <;> cases hB:b.Bool_ <;> rw[hA,hB]at h <;> first | (exfalso;revert h;decide) | decide
 . rw[if_neg (by simp[ka,k1])]at h;by_cases k2:k=2
   . rw[if_pos (by simp[ka,k2]),m8 n2,m8 m2]at h;simp only[oZ4,oZ3,cmp1,Option.getD_some]at h;have h:=cmpN _ _ h;rw[hv2 _ k2,hv2 _ k2];have z1:0<=zig a.Int_:=by unfold zig;split <;> omega
     exact xR _ _ (by omega)
   . rw[if_neg (by simp[ka,k2])]at h;by_cases k3:k=3
     . rw[if_pos (by simp[ka,k3])]at h;simp only[oZ4,oZ3,cmp2,cmp3,or2,Option.getD_some]at h;rw[hv3 _ k3,hv3 _ k3,oN];by_cases h1:a.Str.length < b.Str.length
       . exact .inl h1
       . by_cases h2:b.Str.length < a.Str.length
         . have i1:¬(a.Str.length:Int) < (b.Str.length:Int):=by omega
           have i2:(b.Str.length:Int) < (a.Str.length:Int):=by omega
           rw[if_neg i1,if_pos i2]at h;simp at h
         . have i1:¬(a.Str.length:Int) < (b.Str.length:Int):=by omega
           have i2:¬(b.Str.length:Int) < (a.Str.length:Int):=by omega
           rw[if_neg i1,if_neg i2]at h;simp only[ne_eq,not_true_eq_false,if_false]at h;refine .inr ⟨by omega,?_⟩;cases hl:Op.bytesLess a.Str b.Str with
           | true=>rfl
           | false=>
            rw[hl]at h;by_cases he:a.Str=b.Str <;> simp[he]at h
     . have k4:k=4:=by omega
       rw[if_neg (by simp[ka,k3]),if_pos (by simp[ka,k4])]at h;simp only[oZ4,oZ3,cmp2,Option.getD_some]at h;have h:=cmpN _ _ h;rw[hv4 _ k4,hv4 _ k4];have:=na.resolve_right (by simp[ka,k4]);have:=nb.resolve_right (by simp[kb,k4]);exact xR _ _ (by omega)
theorem oO{ts:List ae}:∀{ms:List ap} {l:List ab} {x:Fd},x∈vents ts ms l->∃j,j < ms.length/\j < l.length/\om (ms.getD j aj) (l.getD j af)=false/\x=⟨(ms.getD j aj).ID.toNat,(ms.getD j aj).Critical,vpay ts (ms.getD j aj).Type_ (l.getD j af)⟩
 | [],l,x,h=>by
  rw[vents]at h
  . cases h
  grind
 | m::ms,[],x,h=>by
  rw[vents]at h
  . cases h
  grind
 | m::ms,v::l,x,h=>by
  rw[vents]at h;split at h
  . obtain⟨j,h1,h2,h3,h4⟩:=oO h;exact⟨j+1,by simpa using h1,by simpa using h2,by simpa using h3,by simpa using h4⟩
  . rename_i ho;rcases List.mem_cons.1 h with rfl | h
    . exact⟨0,by simp,by simp,by simpa using ho,rfl⟩
    . obtain⟨j,h1,h2,h3,h4⟩:=oO h;exact⟨j+1,by simpa using h1,by simpa using h2,by simpa using h3,by simpa using h4⟩
theorem pu{ms:List ap}(h:MAsc ms){a b:ap}(ha:a∈ms)(hb:b∈ms)(e:a.ID=b.ID):a=b:=by
 obtain⟨i,hi,rfl⟩:=List.getElem_of_mem ha;obtain⟨j,hj,rfl⟩:=List.getElem_of_mem hb;have key:=List.pairwise_iff_getElem.1 h.1
 grind
theorem dS{ms:List ap}{id:Int}{m:ap}(h:findM ms id=some m):m∈ms/\m.ID=id:=
 ⟨List.mem_of_find?_eq_some h,by simpa using List.find?_some h⟩
theorem yV{ms:List ap}(hm:MAsc ms){m:ap}(h:m∈ms):findM ms m.ID=some m:=by
 cases hf:findM ms m.ID with
 | none=>exact absurd rfl (du hf m h)
 | some q=>
  obtain⟨h1,h2⟩:=dS hf;rw[pu hm h1 h h2]
theorem l6{ts:List ae}{t:Int}:∀{l:List ab} {x:ab},x∈l->vlev ts t x<=vlevs ts t l
 | v::l,x,h=>by
  rw[vlevs];rcases List.mem_cons.1 h with rfl | h
  . omega
  . have:=l6 (ts:=ts) (t:=t) h;omega
theorem xT{ts:List ae}:∀{ms:List ap} {l:List ab} {j:Nat},j < ms.length->j < l.length->om (ms.getD j aj) (l.getD j af)=false->vlev ts (ms.getD j aj).Type_ (l.getD j af)<=vlevm ts ms l
 | m::ms,v::l,0,_,_,ho=>by
  simp only[List.getD_cons_zero]at ho ⊢;rw[vlevm,if_neg (by rw[ho];simp)];omega
 | m::ms,v::l,j+1,h1,h2,ho=>by
  simp only[List.getD_cons_succ]at ho ⊢;have:=xT (ts:=ts) (by simpa using h1) (by simpa using h2) ho;rw[vlevm]
  grind
theorem rX :∀{a b:List (List UInt8)} {i:Nat},a.length=b.length->i < a.length->(weave a b).getD (2*i) []=a.getD i []/\(weave a b).getD (2*i+1) []=b.getD i []
 | p::a,q::b,0,_,_=>by simp[weave]
 | p::a,q::b,i+1,hl,hi=>by
  have:=rX (a:=a) (b:=b) (i:=i) (by simpa using hl) (by simpa using hi);simp only[weave,List.getD_cons_succ,show 2*(i+1)=2*i+1+1 by omega];exact this
theorem zY{l:List (List UInt8)}(h:(l.flatMap aO).length<=90000):vI (l.flatMap aO)=some l:=by
 have hl:=vE l;have:=yQ l [] (by omega) (by simp;omega);unfold vI;rw[dO,this];rfl
theorem Ku{l:List Fd}(ha:l.Pairwise (fun a b=>a.id < b.id))(hr:∀f,f∈l->1<=f.id/\f.id<=1000)(h:(l.flatMap Fd.text).length<=90000):vFl (l.flatMap Fd.text)=some (l.map fdS):=by
 have hl:=vF l;have hF:=xK l 0 [] ha (fun f h=>⟨by have:=hr f h;omega,(hr f h).2⟩) (by omega) (by simp;omega);have hF':bq (0,l.flatMap Fd.text,[])=some (.inr (l.map fdS)):=by simpa using hF
 unfold vFl;rw[fk,hF'];rfl
theorem BK{n:Nat}(h:1<=n/\n<=1000)(rest:List UInt8):vA (vput n++rest)=some ((n:Int),rest):=by
 unfold vA;have hnx:=dX (my (n:=n) (by omega) rest) (by simp);rw[ft,hnx];simp only[oZ4,oZ3];have a:¬(n:Int) < 1:=by omega
 have b:¬(1000:Int) < (n:Int):=by omega
 rw[if_neg (by simp only[a,b,Bool.not_true,decide_false,cond_false,Bool.false_eq_true,not_false_eq_true]),wrp64 (by omega) (by omega)];simp
theorem jD{ts:List ae}{t:Int}{l:List ab}{i:Nat}(h:i < l.length):(vpays ts t l).getD i []=vpay ts t (l.getD i af):=by
 rw[iM,bM (vpay ts t) l i af [] h]
theorem ng{a b c n r:Nat}(h:a=1+max n b)(hr:a<=r+1)(hc:c<=b):c<=r:=by omega
theorem Lm{a b c r:Nat}(h:a=1+max 1 b)(hr:a<=r+1)(hc:c=1):c<=r:=by omega
theorem Kv{a b n:Nat}(h:n=a+b)(e:a=b):n % 2=0/\n / 2=a:=by omega
theorem Ln{i n a:Nat}(h:2*i+1 < n)(e:n / 2=a):i < a:=by omega
theorem Kw {ts : List ae} {r : Nat} {x : ae} {Ks Is : List (List UInt8)} (hl : Ks.length = Is.length) (hm : (Ks.length : Int) <= x.Max) (hlen : ((weave Ks Is).flatMap aO).length <= 90000)
 (hK:∀i,i < Ks.length->(Ks.getD i []).length<=90000->vcan ts r x.Key (Ks.getD i [])) (hI:∀i,i < Ks.length->(Is.getD i []).length<=90000->vcan ts r x.Elem (Is.getD i [])) (hS:∀i,i+1 < Ks.length->dh (Ks.getD i []) (Ks.getD (i+1) [])=true):
 ∃l,vI ((weave Ks Is).flatMap aO)=some l/\l.length % 2=0/\((l.length / 2:Nat):Int)<=x.Max/\∀i,2*i+1 < l.length->vcan ts r x.Key (l.getD (2*i) [])/\vcan ts r x.Elem (l.getD (2*i+1) [])/\(0 < i->dh (l.getD (2*i - 2) []) (l.getD (2*i) [])=true):=by
 obtain⟨e1,e2⟩:=Kv (xM Ks Is hl) hl;refine⟨_,zY hlen,e1,by rw[e2];exact hm,fun i hi=>?_⟩;have hik:=Ln hi e2;obtain⟨w1,w2⟩:=rX (i:=i) hl hik;have l1:=Nat.le_trans (od (aC (Nat.lt_of_succ_lt hi) [])) hlen;have l2:=Nat.le_trans (od (aC hi [])) hlen;rw[w1]at l1;rw[w2]at l2;rw[w1,w2];refine⟨hK i hik l1,hI i hik l2,fun h0=>?_⟩
 obtain⟨k,rfl⟩:∃k,i=k+1:=⟨i - 1,by clear hlen l1 l2 w1 w2;omega⟩
 obtain⟨w3,_⟩:=rX (i:=k) hl (Nat.lt_of_succ_lt hik);rw[show 2*(k+1) - 2=2*k from rfl,w3];exact hS k hik
set_option maxHeartbeats 1000000 in
theorem HF{ts:List ae}(H:DrOk ts){v:ab}(hv:OkV v):∀{t:Int} {r:Nat},wt v<=1099511627776->(vpay ts t v).length<=90000->vfit ts false t v->vlev ts t v<=r->vcan ts r t (vpay ts t v):=by
 have hS:=H.V.sok H.T
 induction hv with
 | mk v hs h1 h2 h3 hk hi hrd n1 n2 n3 n4 ihk ihi=>
  intro t r hw hlen hf hr;have hwt:=wt_eq v;have hOk:OkV v:= .mk v hs h1 h2 h3 hk hi hrd n1 n2 n3 n4;have hlp:=iP (ts:=ts) t v;obtain⟨r,rfl⟩:∃q,r=q+1:=⟨r - 1,by omega⟩
  obtain⟨⟨g1,g2,g3,_⟩,hf⟩:=(cK _ _ _).1 hf;obtain⟨j,rfl⟩:∃j:Nat,t=(j:Int):=⟨t.toNat,by omega⟩
  have hj:j < ts.length:=by omega
  have hxm:=aC hj ag;have hlev:=fH (ts:=ts) (j:Int) v;have hv1:=@vpay1 ts (j:Int) v;have hv2:=@vpay2 ts (j:Int) v;have hv3:=@vpay3 ts (j:Int) v;have hv4:=@vpay4 ts (j:Int) v;have hv5:=@vpay5 ts (j:Int) v;have hv6:=@vpay6 ts (j:Int) v;have hv7:=@vpay7 ts (j:Int) v;have hv8:=@vpay8 ts (j:Int) v;have hv9:=@vpay9 ts (j:Int) v
  simp only[aw]at hf g3 hlev hv1 hv2 hv3 hv4 hv5 hv6 hv7 hv8 hv9;have hA:=hS.A _ hxm;have hKy:=hS.Ky _ hxm;have hSy:=hS.S _ hxm;have hDf:=H.D _ hxm;have hW:=H.W _ hxm;have hT:=H.T _ hxm;obtain⟨c1,c2,c3,c4,c5,c6,c7,c8,c9⟩:=NN (ts:=ts) (r:=r) (j:=j) (p:=vpay ts (j:Int) v) rfl;generalize ts.getD j ag=x at*
  have IHI:∀{t:Int} x,x∈v.Items->(vpay ts t x).length<=90000->vfit ts false t x->vlev ts t x<=r->vcan ts r t (vpay ts t x):=fun x hx a b c=>ihi x hx (by have:=bc hx;omega) a b c
  have IHK:∀{t:Int} x,x∈v.Keys->(vpay ts t x).length<=90000->vfit ts false t x->vlev ts t x<=r->vcan ts r t (vpay ts t x):=fun x hx a b c=>ihk x hx (by have:=bc hx;omega) a b c
  rcases hf with⟨k,d1,d2,d3,d4,d5,d6⟩ | ⟨k,d1,d2,d3,d4,d5,d6,d7,d8⟩ | ⟨k,d1,d2,d3,d4,d5,d6,d7⟩ | ⟨k,d1,d2,d3,d4,d5,d6,d7⟩ | ⟨k,d1,d2,d3,d4,d5,d6,d7⟩ | ⟨k,d1,d2,d3,d4,d5⟩ | ⟨k,d1,d2,d3,d4,d5,d6,d7,d8⟩ | ⟨k,d1,d2,d3,d4,d5,d6,d7,d8,d9,d10⟩ | ⟨k,d1,d2,d3,d4,d5,d6,d7,d8⟩ <;> rw[k]at g3 <;> have kx:=g3.symm
  . rw[c1 kx,hv1 kx];cases v.Bool_
    . grind
    grind
  . rw[c2 kx,hv2 kx];have hz:=pS n2;exact⟨_,yU hz,by rw[zV n2];exact d7,by rw[zV n2];exact d8⟩
  . grind
  . rw[c4 kx,hv4 kx];have hid:I1000 v.ID:=by grind
    unfold I1000 at hid;refine⟨_,yU (by omega),by omega,?_⟩
    grind
  . rw[c5 kx];rw[hv5 kx]at hlen ⊢;obtain⟨hma,_⟩:=hA (.inl kx);obtain⟨hil,hip⟩:=dR.1 d7;rw[if_pos kx,if_pos d5]at hlev;have hasc:=yP (lE (ts:=ts) (l:=v.Items) hma d6) (xI hma d6);have hrg:∀f,f∈isoB ltF (aY ts x.Members v.Items v.Rest)->1<=f.id/\f.id<=1000:=fun f h=>qO hma d6 ((cS ltF _).mem_iff.1 h)
    have hin:∀f,f∈isoB ltF (aY ts x.Members v.Items v.Rest)↔f∈aY ts x.Members v.Items v.Rest:=fun f=>(cS ltF _).mem_iff
    generalize isoB ltF (aY ts x.Members v.Items v.Rest)=l at*;refine⟨_,Ku hasc hrg hlen,fun f hf=>?_,fun m hm hd=>?_⟩
    . obtain⟨g,hg,rfl⟩:=List.mem_map.1 hf;have hgl:=xN hg;rcases List.mem_append.1 ((hin g).1 hg)with h | h
      . obtain⟨i,i1,i2,i3,rfl⟩:=oO h;have hmi:=aC i1 aj;have hvi:=aC i2 af;have hid:=hma.2 _ hmi;have eid:(((x.Members.getD i aj).ID.toNat:Nat):Int)=(x.Members.getD i aj).ID:=by unfold I1000 at hid;omega
        have hlv:=xT (ts:=ts) i1 i2 i3;refine⟨fun hn=>?_,fun m hm=>?_⟩
        . have hn:findM x.Members (((x.Members.getD i aj).ID.toNat:Nat):Int)=none:=hn;rw[eid,yV hma hmi]at hn;cases hn
        . have hm:findM x.Members (((x.Members.getD i aj).ID.toNat:Nat):Int)=some m:=hm;rw[eid,yV hma hmi]at hm;cases hm;have hvr:vlev ts (x.Members.getD i aj).Type_ (v.Items.getD i af)<=r:=by exact ng hlev hr hlv
          have h5:=IHI (t:=(x.Members.getD i aj).Type_) _ hvi (Nat.le_trans hgl hlen) (hip i i1) hvr;refine⟨rfl,h5,fun hd he=>?_⟩;have he:vpay ts (x.Members.getD i aj).Type_ (v.Items.getD i af)=vpay ts (x.Members.getD i aj).Type_ (x.Members.getD i aj).Default:=he
          have:=Kt hS (hi _ hvi) (hT.dv _ hmi) (by have:=bc hvi;omega) (by have:=hW _ hmi hd;omega) (hip i i1) (Kp (hDf _ hmi hd) false) he;unfold om at i3;rw[hd,this]at i3;simp at i3
      . obtain⟨q,h2,rfl⟩:=List.mem_map.1 h;obtain⟨q1,q2⟩:=d6.2 q h2;have eid:((q.ID.toNat:Nat):Int)=q.ID:=by unfold I1000 at q1;omega
        refine⟨fun _=>rfl,fun m hm=>?_⟩;have hm:findM x.Members ((q.ID.toNat:Nat):Int)=some m:=hm;rw[eid,q2]at hm;cases hm
    . obtain⟨i,hi',he⟩:=List.getElem_of_mem hm;have em:x.Members.getD i aj=m:=by rw[List.getD_eq_getElem?_getD,List.getElem?_eq_getElem hi',he];rfl
      have hid:=hma.2 _ hm;have hfo:=lS (ts:=ts) (l:=v.Items) (n:=m.ID.toNat) (mz hma) hil hi' (by rw[em]);rw[em,if_neg (by unfold om;simp[hd])]at hfo;have hmem:(⟨m.ID.toNat,m.Critical,vpay ts m.Type_ (v.Items.getD i af)⟩:Fd)∈vents ts x.Members v.Items:=by
       have:(⟨m.ID.toNat,m.Critical,vpay ts m.Type_ (v.Items.getD i af)⟩:Fd)∈(vents ts x.Members v.Items).filter fun x=>decide (x.id=m.ID.toNat):=by rw[hfo];exact .head _
       exact(List.mem_filter.1 this).1
      refine⟨fdS _,List.mem_map_of_mem ((hin _).2 (List.mem_append_left _ hmem)),?_⟩;show((m.ID.toNat:Nat):Int)=m.ID;unfold I1000 at hid;omega
  . rw[c6 kx];rw[hv6 kx]at hlen ⊢;obtain⟨hma,_⟩:=hA (.inr kx);rw[if_neg (show ¬x.Kind=5 by rw[kx];decide),if_pos kx,if_pos d4]at hlev;cases hfm:findM x.Members v.ID with
    | some m=>
     simp only[hfm]at d5 hlen hlev ⊢;obtain⟨e1,e2,e3⟩:=d5;obtain⟨f1,f2⟩:=dS hfm;have hid:=hma.2 _ f1;rw[f2]at hid;unfold I1000 at hid;have eid:((v.ID.toNat:Nat):Int)=v.ID:=by omega
     obtain⟨y,hy⟩:∃y,v.Items=[y]:=List.length_eq_one_iff.1 e2;have hym:y∈v.Items:=by rw[hy];exact .head _
     have hlv:=l6 (ts:=ts) (t:=m.Type_) hym;rw[hy,vpays]at hlen ⊢;rw[List.length_append]at hlen;refine⟨_,_,BK (by omega) _,fun hn=>?_,fun q hq=>?_⟩
     . rw[eid,hfm]at hn;cases hn
     . rw[eid,hfm]at hq;cases hq;exact IHI y hym (by show(vpay ts m.Type_ y).length<=_;have hlen:(vput v.ID.toNat).length+(vpay ts m.Type_ y).length<=90000:=hlen;omega) (aU.1 e3 y hym) (ng hlev hr hlv)
    | none=>
     simp only[hfm]at d5 ⊢;obtain⟨e1,_,e3,e4,d,e5⟩:=d5;unfold I1000 at e3;have eid:((v.ID.toNat:Nat):Int)=v.ID:=by omega
     refine⟨_,_,BK (by omega) _,fun _=>e1,fun q hq=>?_⟩;rw[eid,hfm]at hq;cases hq
  . rw[c7 kx];rw[hv7 kx]at hlen ⊢;rw[if_neg (show ¬x.Kind=5 by rw[kx];decide),if_neg (show ¬x.Kind=6 by rw[kx];decide),if_pos d5]at hlev;refine⟨_,zY hlen,by rw[dq];exact d7,fun q hq=>?_⟩;have hql:=od hq;rw[iM]at hq;obtain⟨y,hy,rfl⟩:=List.mem_map.1 hq;have:=l6 (ts:=ts) (t:=x.Elem) hy
    exact IHI y hy (Nat.le_trans hql hlen) (aU.1 d8 y hy) (ng hlev hr this)
  . rw[c8 kx];rw[hv8 kx,xL]at hlen ⊢;have hll:(vpays ts x.Key v.Keys).length=(vpays ts x.Elem v.Items).length:=by rw[dq,dq];exact d7.symm
    have hkl:=dq (ts:=ts) (l:=v.Keys) (t:=x.Key);rw[if_neg (show ¬x.Kind=5 by rw[kx];decide),if_neg (show ¬x.Kind=6 by rw[kx];decide)]at hlev;obtain⟨ky1,ky2⟩:=hKy kx;have hfk:=aU.1 d8;have leaf:∀y,y∈v.Keys->vlev ts x.Key y=1/\y.Kind=(ts.getD x.Key.toNat ag).Kind/\(0<=y.ID\/y.Kind≠4):=fun y hy=>by
     obtain⟨⟨b1,b2,b3,_⟩,b⟩:=(cK _ _ _).1 (hfk y hy);refine⟨by apply fA <;> grind,b3,?_⟩;have hS4:=hS.S _ (aC (show x.Key.toNat < ts.length by clear hlen;omega) ag);by_cases k4:y.Kind=4
     . left;have hb:(∃z,z∈(ts.getD x.Key.toNat ag).Symbols/\z.ID=y.ID)\/(ts.getD x.Key.toNat ag).Open=true/\false=false/\I1000 y.ID:=by grind
       rcases hb with⟨z,hz,he⟩ | ⟨_,_,he⟩
       . have:=hS4 (b3.symm.trans k4) z hz;unfold I1000 at this;clear hlen;omega
       . unfold I1000 at he;clear hlen;omega
     . exact .inr k4
    refine Kw hll (by rw[hkl];exact d6) hlen (fun i hi' hl=>?_) (fun i hi' hl=>?_) (fun i hi'=>?_)
    . have hik:i < v.Keys.length:=hkl▸hi';have hym:=aC hik af;rw[jD hik]at hl ⊢;obtain⟨q1,_⟩:=leaf _ hym;have hne:v.Keys≠[]:=by intro h;rw[h]at hik;cases hik
      rw[if_neg hne]at hlev;exact IHK _ hym hl (hfk _ hym) (Lm hlev hr q1)
    . have hik:i < v.Items.length:=by rw[d7];exact hkl▸hi'
      have him:=aC hik af;rw[jD hik]at hl ⊢;have hlv:=l6 (ts:=ts) (t:=x.Elem) him;exact IHI _ him hl (aU.1 d9 _ him) (ng hlev hr hlv)
    . have hik:i+1 < v.Keys.length:=hkl▸hi';have hik2:i < v.Keys.length:=Nat.lt_of_succ_lt hik;rw[jD hik,jD hik2];have hym:=aC hik af;have hym2:=aC hik2 af;obtain⟨_,p1,p2⟩:=leaf _ hym2;obtain⟨_,p3,p4⟩:=leaf _ hym;exact xS ⟨ky1,ky2⟩ (hk _ hym2) (hk _ hym) p1 p3 p2 p4 (d10 i hik)
  . rw[c9 kx];rw[hv9 kx]at hlen ⊢;rw[if_neg (show ¬x.Kind=5 by rw[kx];decide),if_neg (show ¬x.Kind=6 by rw[kx];decide),if_pos d5]at hlev
    match hI:v.Items with
    | []=>rw[vpays];exact .inl rfl
    | y::l=>
     have hym:y∈v.Items:=by rw[hI];exact .head _
     rw[hI,vpays]at hlen;rw[vpays];have:=l6 (ts:=ts) (t:=x.Elem) hym;refine .inr ⟨_,rfl,IHI y hym ?_ (aU.1 d8 y hym) (ng hlev hr this)⟩;have hlen:(vpay ts x.Elem y).length+1<=90000:=hlen;omega
def FitW(ts:List ae)(t:Int)(v:ab):Prop:=vfit ts false t v/\OkV v/\wt v<=2147483648
def seqO{α β:Type}(f:α->Option β):List α->Option (List β)
 | []=>some []
 | a::l=>match f a,seqO f l with
  | some b,some m=>some (b::m)
  | _,_=>none
def evens{α:Type}:List α->List α
 | a::_::l=>a::evens l
 | _=>[]
def odds{α:Type}:List α->List α
 | _::b::l=>b::odds l
 | _=>[]
def ascB(ks:List ab):Bool:=(List.range (ks.length - 1)).all fun i=>decide (vcmp (ks.getD i af) (ks.getD (i+1) af) < 0)
theorem jQ{ks:List ab}:ascB ks=true↔dZ ks:=by
 unfold ascB dZ
 grind
def vdec(ts:List ae):Nat->Int->List UInt8->Option ab
 | 0,_,_=>none
 | n+1,t,p=>
  let x:=ts.getD t.toNat ag
  if x.Kind=1 then(if p=[]then some ⟨1,false,0,[],0,[],[],[]⟩else if p=[1]then some ⟨1,true,0,[],0,[],[],[]⟩else none)
  else if x.Kind=2 then(match vub p with
   | some m=>if x.Low<=unz m/\unz m<=x.High then some ⟨2,false,unz m,[],0,[],[],[]⟩else none
   | none=>none)
  else if x.Kind=3 then(if(p.length:Int)<=x.Max then some ⟨3,false,0,p,0,[],[],[]⟩else none)
  else if x.Kind=4 then(match vub p with
   | some m=>if 1<=m/\m<=1000/\((x.Symbols.any fun y=>decide (y.ID=(m:Int))) || x.Open)=true then some ⟨4,false,0,[],(m:Int),[],[],[]⟩else none
   | none=>none)
  else if x.Kind=9 then(match p with
   | []=>some ⟨9,false,0,[],0,[],[],[]⟩
   | c::q=>if c=1 then(vdec ts n x.Elem q).map fun v=>⟨9,false,0,[],0,[],[v],[]⟩else none)
  else if x.Kind=6 then(match vA p with
   | some (id,q)=>(match findM x.Members id with
    | some m=>(vdec ts n m.Type_ q).map fun v=>⟨6,false,0,[],id,[],[v],[]⟩
    | none=>if x.Open=true then some ⟨6,false,0,[],id,[],[],[⟨id,q⟩]⟩else none)
   | none=>none)
  else if x.Kind=7 then(match vI p with
   | some l=>if(l.length:Int)<=x.Max then(seqO (vdec ts n x.Elem) l).map fun is=>⟨7,false,0,[],0,[],is,[]⟩else none
   | none=>none)
  else if x.Kind=8 then(match vI p with
   | some l => if l.length % 2 = 0 /\ ((l.length / 2 : Nat): Int) <= x.Max then (match seqO (vdec ts n x.Key) (evens l) with
    | some ks=>if ascB ks=true then(seqO (vdec ts n x.Elem) (odds l)).map fun is=>⟨8,false,0,[],0,ks,is,[]⟩else none
    | none=>none)else none
   | none=>none)
  else(match vFl p with
   | some l => (match seqO (fun m : ap => match l.find? (fun f => decide (f.ID = m.ID)) with
    | some f=>vdec ts n m.Type_ f.Data
    | none=>if m.HasDefault=true then some m.Default else none) x.Members with
    | some is=>if(l.all fun f=>(findM x.Members f.ID).isSome || !f.Critical)=true then some ⟨5,false,0,[],0,[],is,(l.filter fun f=>!(findM x.Members f.ID).isSome).map fun f=>⟨f.ID,f.Data⟩⟩else none
    | none=>none)
   | none=>none)
section
variable {ts:List ae}
def DOut(ts:List ae)(b1:List Int)(b2:Int)(path:List Int)(o:Option ab)(r:Option (ab×Bool×List ae×List Int×Int×List Int)):Prop:=
 (∀v,o=some v->r=some (v,true,ts,b1,b2,path))/\(o=none->∃w f1 f2,r=some (w,false,ts,f1,f2,path))
theorem mn{path:List Int}(hp:path.length<=1000)(reason:Int)(b1:List Int)(b2:Int):bB (reason,ts,b1,b2,path)=some ((⟨0,false,0,[],0,[],[],[]⟩:ab),false,ts,reason,path,path):=by
 rw[bB];unfold s6 cp;rw[if_pos (aW (by omega) (by omega))];simp
theorem jR {b1 : List Int} {b2 step t : Int} {p : List UInt8} {path : List Int} {o : Option ab} (hp : path.length <= 1000) (h : DOut ts b1 b2 (path ++ [step]) o (eO (t, p, ts, b1, b2, path ++ [step]))):
 DOut ts b1 b2 path o (bS (step,t,p,ts,b1,b2,path)):=by
 have key:∀w ok f1 f2,eO (t,p,ts,b1,b2,path++[step])=some (w,ok,ts,f1,f2,path++[step])->bS (step,t,p,ts,b1,b2,path)=some (w,ok,ts,f1,f2,path):=by
  intro w ok f1 f2 hw;rw[bS];simp only[oZ4,oZ3];rw[if_pos (aW (by omega) (by simp;omega)),hw];simp only[oZ3,ab.aA];have e1:subI .i64 ((path++[step]).length:Int) 1=(path.length:Int):=by rw[cz (by simp <;> omega) (by simp <;> omega)];simp
  rw[e1];have e2:slR 0 (path.length:Int) (path++[step]).length=true:=cU.2 (by simp;omega);simp_all
 refine⟨fun v hv=>key _ _ _ _ (h.1 v hv),fun hn=>?_⟩;obtain⟨w,f1,f2,hw⟩:=h.2 hn;exact⟨w,f1,f2,key _ _ _ _ hw⟩
theorem dw{α β:Type}{f:α->Option β}:∀{l:List α} {m:List β},seqO f l=some m->m.length=l.length
 | [],m,h=>by rw[seqO]at h;cases h;rfl
 | a::l,m,h=>by
  rw[seqO]at h;split at h
  . rename_i b m' h1 h2;cases h;rw[List.length_cons,List.length_cons,dw h2]
  . cases h
theorem yW {x : ae} {path : List Int} {f : List UInt8 -> Option ab} {l : List (List UInt8)} (hl : l.length <= 90000) (h : ∀ q, q ∈ l -> ∀ step b1 b2, DOut ts b1 b2 path (f q) (bS (step, x.Elem, q, ts, b1, b2, path)))
 {z0 z2 z4 a0 a2 a4:Int} {z1 a1:Bool} {z3 a3:List UInt8} {b1:List Int} {b2:Int}:∀(k i:Nat) (acc:List ab),i+k=l.length->acc.length=i->
 (∀m,seqO f (l.drop i)=some m->gV (l,(l.length:Int),(i:Int),ts,b1,b2,x,z0,z1,z2,z3,z4,a0,a1,a2,a3,a4,path,acc)=some (.inr (ts,b1,b2,z0,z1,z2,z3,z4,a0,a1,a2,a3,a4,path,acc++m)))/\
 (seqO f (l.drop i)=none->∃w f1 f2,gV (l,(l.length:Int),(i:Int),ts,b1,b2,x,z0,z1,z2,z3,z4,a0,a1,a2,a3,a4,path,acc)=some (.inl (false,ts,f1,f2,w,path)))
 | 0,i,acc,hi,ha=>by
  rw[gV,if_neg (by simp;omega),List.drop_eq_nil_of_le (by omega),seqO]
  grind
 | k+1,i,acc,hi,ha=>by
  have hlt:i < l.length:=by omega
  have hd:=h _ (aC hlt []) (i:Int) b1 b2;have e:l.drop i=l.getD i []::l.drop (i+1):=by rw[ba hlt];exact List.drop_eq_getElem_cons hlt
  rw[gV,if_pos (by simp;omega),if_pos (au hlt),aw,e,seqO];cases hf:f (l.getD i [])with
  | none=>
   obtain⟨w,f1,f2,hw⟩:=hd.2 hf;simp_all
  | some v=>
   rw[hd.1 v hf];simp only[oZ4,oZ3,ab.aA,Bool.not_true];rw[if_neg (by simp),if_pos (aW (by omega) (by simp;omega)),aB (by omega)];obtain⟨i1,i2⟩:=yW hl h (z0:=z0) (z1:=z1) (z2:=z2) (z3:=z3) (z4:=z4) (a0:=a0) (a1:=a1) (a2:=a2) (a3:=a3) (a4:=a4) (b1:=b1) (b2:=b2) k (i+1) (acc++[v]) (by omega) (by simp;omega)
   cases hs:seqO f (l.drop (i+1))with
   | none=>exact⟨fun m hm=>by simp at hm,fun _=>i2 hs⟩
   | some m'=>grind
end
theorem yX{l:List ab}{i:Nat}(hi:i < l.length):l.set i (l.getD i af)=l:=by simp_all
theorem xU {a0 a2 a4 z0 z2 z4 : Int} {a1 z1 : Bool} {a3 z3 : List UInt8} {l l2 : List ab} {r : List aE} (hl : l.length <= 1000000000) (h : ∀ y, y ∈ l -> cC y = some y): ∀ (k i : Nat), i + k = l.length ->
 ii ((l.length:Int),(i:Int),a0,a1,a2,a3,a4,z0,z1,z2,z3,z4,l,l2,r)=some (a0,a1,a2,a3,a4,z0,z1,z2,z3,z4,l,l2,r)
 | 0,i,hi=>by rw[ii,if_neg (by simp;omega)]
 | k+1,i,hi=>by
  have hlt:i < l.length:=by omega
  rw[ii,if_pos (by simp;omega),if_pos (au hlt),aw,if_pos (by simp;omega)];simp only[ab.aA];rw[h _ (aC hlt af)];simp only[oZ4,oZ3,ab.aA];rw[if_pos (au hlt),if_pos (by simp;omega),aB (by omega),yX hlt];exact xU hl h k (i+1) (by omega)
theorem xV {a0 a2 a4 z0 z2 z4 : Int} {a1 z1 : Bool} {a3 z3 : List UInt8} {l l2 : List ab} {r : List aE} (hl : l.length <= 1000000000) (h : ∀ y, y ∈ l -> cC y = some y): ∀ (k i : Nat), i + k = l.length ->
 ij ((l.length:Int),(i:Int),a0,a1,a2,a3,a4,z0,z1,z2,z3,z4,l,l2,r)=some (a0,a1,a2,a3,a4,z0,z1,z2,z3,z4,l2,l,r)
 | 0,i,hi=>by rw[ij,if_neg (by simp;omega)]
 | k+1,i,hi=>by
  have hlt:i < l.length:=by omega
  rw[ij,if_pos (by simp;omega),if_pos (au hlt),aw,if_pos (by simp;omega)];simp only[ab.aA];rw[h _ (aC hlt af)];simp only[oZ4,oZ3,ab.aA];rw[if_pos (au hlt),if_pos (by simp;omega),aB (by omega),yX hlt];exact xV hl h k (i+1) (by omega)
theorem wts_len' :∀l:List ab,l.length<=wts l
 | []=>by simp
 | v::l=>by
  rw[gI,wt_eq,List.length_cons];have:=wts_len' l;omega
theorem Kx(l:List aE):l.length<=(l.map fun x=>x.Data.length+1).sum:=by
 induction l with
 | nil=>simp
 | cons a l ih=>simp only[List.map_cons,List.sum_cons,List.length_cons];omega
theorem te{k n:Nat}(hk:k<=1000)(h:n<=1000000000):room k n=true:=by
 unfold room bW aV;simp only[Bool.and_eq_true,decide_eq_true_eq];refine⟨?_,by omega⟩;have:(2*n+192)*k<=2000000192*1000:=Nat.mul_le_mul (by omega) hk;omega
theorem IG{v:ab}(hv:OkV v):wt v<=1000000000->cC v=some v:=by
 induction hv with
 | mk v hs h1 h2 h3 hk hi hrd n1 n2 n3 n4 ihk ihi=>
  intro hw;have hwt:=wt_eq v;have l1:=wts_len' v.Keys;have l2:=wts_len' v.Items;have l3:=Kx v.Rest;have kk:∀y,y∈v.Keys->cC y=some y:=fun y hy=>ihk y hy (by have:=bc hy;omega)
  have ki:∀y,y∈v.Items->cC y=some y:=fun y hy=>ihi y hy (by have:=bc hy;omega)
  have c1:cp 120 v.Keys=some v.Keys:=by unfold cp;rw[if_pos (te (by omega) (by omega))]
  have c2:cp 120 v.Items=some v.Items:=by unfold cp;rw[if_pos (te (by omega) (by omega))]
  have c3:cp 24 v.Rest=some v.Rest:=by unfold cp;rw[if_pos (te (by omega) (by omega))]
  have L0:=xU (a0:=v.Kind) (a1:=v.Bool_) (a2:=v.Int_) (a3:=v.Str) (a4:=v.ID) (z0:=0) (z1:=false) (z2:=0) (z3:=[]) (z4:=0) (l:=v.Keys) (l2:=v.Items) (r:=v.Rest) (by omega) kk v.Keys.length 0 (by omega)
  have L1:=xV (a0:=v.Kind) (a1:=v.Bool_) (a2:=v.Int_) (a3:=v.Str) (a4:=v.ID) (z0:=0) (z1:=false) (z2:=0) (z3:=[]) (z4:=0) (l:=v.Items) (l2:=v.Keys) (r:=v.Rest) (by omega) ki v.Items.length 0 (by omega);have L0':ii ((v.Keys.length:Int),0,v.Kind,v.Bool_,v.Int_,v.Str,v.ID,0,false,0,[],0,v.Keys,v.Items,v.Rest)=_:=L0
  have L1':ij ((v.Items.length:Int),0,v.Kind,v.Bool_,v.Int_,v.Str,v.ID,0,false,0,[],0,v.Items,v.Keys,v.Rest)=_:=L1;rw[cC,c1,c2,c3];simp only[oZ4,oZ3];rw[L0'];simp only[oZ3];rw[L1'];simp only[oZ3];cases v;rfl
section
variable {ts:List ae}
def DecR(ts:List ae)(n:Nat):Prop:=∀(t:Int) (p:List UInt8) (b1:List Int) (b2:Int) (path:List Int),0<=t->t < ts.length->p.length<=4096->path.length+n=200->
 DOut ts b1 b2 path (vdec ts n t p) (eO (t,p,ts,b1,b2,path))
theorem ck{path:List Int}(hp:path.length<=1000)(reason:Int)(b1:List Int)(b2:Int):DOut ts b1 b2 path none (bB (reason,ts,b1,b2,path) >>=fun r=>some (ab.eta r.1,r.2.1,r.2.2.1,r.2.2.2.2.2,r.2.2.2.1,r.2.2.2.2.1)):=by
 refine⟨fun v h=>(by cases h),fun _=>?_⟩;rw[mn hp];simp_all
theorem member_find'{x:ae}(hm:MAsc x.Members)(hl:x.Members.length<=1000){id:Int}{m:ap}(hF:findM x.Members id=some m):∃j,j < x.Members.length/\cu (x,id)=some ((j:Int),true)/\x.Members.getD j aj=m:=by
 obtain⟨m1,m2⟩:=dS hF;obtain⟨r,r1,r2⟩:=nN (t:=x) (id:=id) (by omega);rcases r2 with⟨j,j1,j2,_,rfl⟩ | ⟨q,_⟩
 . exact⟨j,j1,r1,pu hm (aC j1 aj) m1 (by rw[j2,m2])⟩
 . obtain⟨i,hi,rfl⟩:=List.getElem_of_mem m1
   grind
theorem IH (H : SOk ts) {n : Nat} (ih : DecR ts n) {x : ae} (hx : x ∈ ts) (k6 : x.Kind = 6) (hT : ∀ m, m ∈ x.Members -> 0 <= m.Type_ /\ m.Type_ < ts.length) {p : List UInt8} (hp : p.length <= 4096) {b1 : List Int} {b2 : Int} {path : List Int} (hpa : path.length + (n + 1) = 200):
 DOut ts b1 b2 path (match vA p with
  | some (id,q)=>(match findM x.Members id with
   | some m=>(vdec ts n m.Type_ q).map fun v=>⟨6,false,0,[],id,[],[v],[]⟩
   | none=>if x.Open=true then some ⟨6,false,0,[],id,[],[],[⟨id,q⟩]⟩else none)
  | none=>none) (nu (x,p,ts,b1,b2,path)):=by
 obtain⟨o,o1,_,o2,o3⟩:=sx p;rw[nu,o1];simp only[oZ4,oZ3];by_cases h0:o.2.2=0
 . obtain⟨v1,v2,v3⟩:=o2 h0;rw[if_neg (by simp[h0]),v1];dsimp only;obtain⟨hA1,hA2⟩:=H.A x hx (.inr k6);cases hF:findM x.Members o.1 with
   | some m=>
    obtain⟨j,j1,j2,j3⟩:=member_find' hA1 (by omega) hF;rw[j2];simp only[oZ3];rw[if_pos trivial,if_pos (au j1),aw,j3];obtain⟨t1,t2⟩:=hT m (dS hF).1;have hd:=jR (step:=o.1) (path:=path) (by omega) (ih m.Type_ o.2.1 b1 b2 (path++[o.1]) t1 t2 (by omega) (by simp;omega));cases hv:vdec ts n m.Type_ o.2.1 with
    | none=>
     obtain⟨w,f1,f2,hw⟩:=hd.2 hv;rw[hw];exact⟨fun v h=>by simp at h,fun _=>⟨_,_,_,rfl⟩⟩
    | some v=>
     rw[hd.1 v hv]
     exact⟨fun v' h=>by
      have:v'=⟨6,false,0,[],o.1,[],[v],[]⟩:=by simpa using h.symm
      rw[this]
      simp[ab.aA,k6],fun h=>by simp at h⟩
   | none=>
    obtain⟨r,r1,r2⟩:=nN (t:=x) (id:=o.1) (by omega);have hr:r=(0,false):=by
     rcases r2 with⟨j,j1,j2,_,_⟩ | ⟨_,q⟩
     . exact absurd j2 (du hF _ (aC j1 aj))
     . exact q
    rw[r1,hr];cases hO:x.Open with
    | false=>
     simp only[oZ3,Bool.false_eq_true,if_false,Bool.not_false,if_true,eq_self];exact ck (by omega) _ _ _
    | true=>
     simp only[oZ3,Bool.false_eq_true,if_false,Bool.not_true,if_true,eq_self];exact⟨fun v' h=>(by cases h;rw[k6]),fun h=>(by cases h)⟩
 . rw[if_pos (by simp[h0]),o3 h0];exact ck (by omega) _ _ _
end
theorem wN{α:Type}{l:List α}{j:Nat}(h:2*j+1 < l.length)(d:α):evens (l.drop (2*j))=l.getD (2*j) d::evens (l.drop (2*(j+1))):=by
 rw[List.drop_eq_getElem_cons (by omega:2*j < l.length),List.drop_eq_getElem_cons h,evens,ba (by omega)];rfl
theorem xW{α:Type}{l:List α}{j:Nat}(h:2*j+1 < l.length)(d:α):odds (l.drop (2*j))=l.getD (2*j+1) d::odds (l.drop (2*(j+1))):=by
 rw[List.drop_eq_getElem_cons (by omega:2*j < l.length),List.drop_eq_getElem_cons h,odds,ba h];rfl
theorem add2{i:Nat}(h:i < 1000000):addI .i64 (i:Int) 2=((i+2:Nat):Int):=by
 have:=pD (a:=i) (b:=2) (by omega);exact this
section
variable {ts:List ae}
theorem yY {x : ae} {path : List Int} {f : List UInt8 -> Option ab} {l : List (List UInt8)} (hl : l.length <= 90000) (he : l.length % 2 = 0) (h : ∀ q, q ∈ l -> ∀ step b1 b2, DOut ts b1 b2 path (f q) (bS (step, x.Key, q, ts, b1, b2, path)))
 {z0 z2 z4 a0 a2 a4:Int} {z1 a1:Bool} {z3 a3:List UInt8} {b1:List Int} {b2:Int}:∀(k j:Nat) (acc:List ab),2*(j+k)=l.length->acc.length=j->
 (∀m,seqO f (evens (l.drop (2*j)))=some m->gR (l,((2*j:Nat):Int),ts,b1,b2,x,z0,z1,z2,z3,z4,a0,a1,a2,a3,a4,path,acc)=some (.inr (l,ts,b1,b2,x,z0,z1,z2,z3,z4,a0,a1,a2,a3,a4,path,acc++m)))/\
 (seqO f (evens (l.drop (2*j)))=none->∃w f1 f2,gR (l,((2*j:Nat):Int),ts,b1,b2,x,z0,z1,z2,z3,z4,a0,a1,a2,a3,a4,path,acc)=some (.inl (false,ts,f1,f2,w,path)))
 | 0,j,acc,hi,ha=>by
  rw[gR,if_neg (by simp;omega),List.drop_eq_nil_of_le (by omega),show evens ([]:List (List UInt8))=[]from rfl,seqO]
  grind
 | k+1,j,acc,hi,ha=>by
  have hlt:2*j < l.length:=by omega
  have hd:=h _ (aC hlt []) (quoI .i64 ((2*j:Nat):Int) 2) b1 b2;rw[gR,if_pos (by simp;omega),if_pos (au hlt),aw,wN (by omega) [],seqO];cases hf:f (l.getD (2*j) [])with
  | none=>
   obtain⟨w,f1,f2,hw⟩:=hd.2 hf;simp_all
  | some v=>
   rw[hd.1 v hf];simp only[oZ4,oZ3,ab.aA,Bool.not_true];rw[if_neg (by simp),if_pos (aW (by omega) (by simp;omega)),add2 (by omega)];obtain⟨i1,i2⟩:=yY hl he h (z0:=z0) (z1:=z1) (z2:=z2) (z3:=z3) (z4:=z4) (a0:=a0) (a1:=a1) (a2:=a2) (a3:=a3) (a4:=a4) (b1:=b1) (b2:=b2) k (j+1) (acc++[v]) (by omega) (by simp;omega)
   have ej:2*j+2=2*(j+1):=by omega
   rw[ej];cases hs:seqO f (evens (l.drop (2*(j+1))))with
   | none=>exact⟨fun m hm=>by simp at hm,fun _=>i2 hs⟩
   | some m'=>grind
theorem xX {x : ae} {path : List Int} {f : List UInt8 -> Option ab} {l : List (List UInt8)} (hl : l.length <= 90000) (he : l.length % 2 = 0) (h : ∀ q, q ∈ l -> ∀ step b1 b2, DOut ts b1 b2 path (f q) (bS (step, x.Elem, q, ts, b1, b2, path)))
 {z0 z2 z4 a0 a2 a4:Int} {z1 a1:Bool} {z3 a3:List UInt8} {b1:List Int} {b2:Int} {ks:List ab}:∀(k j:Nat) (acc:List ab),2*(j+k)=l.length->acc.length=j->
 (∀m,seqO f (odds (l.drop (2*j)))=some m->gS (l,((2*j+1:Nat):Int),ts,b1,b2,x,z0,z1,z2,z3,z4,a0,a1,a2,a3,a4,path,ks,acc)=some (.inr (ts,b1,b2,z0,z1,z2,z3,z4,a0,a1,a2,a3,a4,path,ks,acc++m)))/\
 (seqO f (odds (l.drop (2*j)))=none->∃w f1 f2,gS (l,((2*j+1:Nat):Int),ts,b1,b2,x,z0,z1,z2,z3,z4,a0,a1,a2,a3,a4,path,ks,acc)=some (.inl (false,ts,f1,f2,w,path)))
 | 0,j,acc,hi,ha=>by
  rw[gS,if_neg (by simp;omega),List.drop_eq_nil_of_le (by omega),show odds ([]:List (List UInt8))=[]from rfl,seqO]
  grind
 | k+1,j,acc,hi,ha=>by
  have hlt:2*j+1 < l.length:=by omega
  have hd:=h _ (aC hlt []) (quoI .i64 ((2*j+1:Nat):Int) 2) b1 b2;rw[gS,if_pos (by simp;omega),if_pos (au hlt),aw,xW hlt [],seqO];cases hf:f (l.getD (2*j+1) [])with
  | none=>
   obtain⟨w,f1,f2,hw⟩:=hd.2 hf;simp_all
  | some v=>
   rw[hd.1 v hf];simp only[oZ4,oZ3,ab.aA,Bool.not_true];rw[if_neg (by simp),if_pos (aW (by omega) (by simp;omega)),add2 (by omega)];obtain⟨i1,i2⟩:=xX hl he h (z0:=z0) (z1:=z1) (z2:=z2) (z3:=z3) (z4:=z4) (a0:=a0) (a1:=a1) (a2:=a2) (a3:=a3) (a4:=a4) (b1:=b1) (b2:=b2) (ks:=ks) k (j+1) (acc++[v]) (by omega) (by simp;omega)
   have ej:2*j+1+2=2*(j+1)+1:=by omega
   rw[ej];cases hs:seqO f (odds (l.drop (2*(j+1))))with
   | none=>exact⟨fun m hm=>by simp at hm,fun _=>i2 hs⟩
   | some m'=>grind
end
section
variable {ts:List ae}
theorem Lp{a b:ab}(ha:I64 a.Int_)(hb:I64 b.Int_):dN (a,b)=some (vcmp a b):=by
 obtain⟨r,r1,r2⟩:=oc ha hb;have:=mm ha hb
 grind
theorem zZ {x : ae} {path : List Int} (hp : path.length <= 1000) {l : List (List UInt8)} {ks : List ab} (hk : ∀ y, y ∈ ks -> I64 y.Int_) (hl : ks.length <= 90000)
 {z0 z2 z4 a0 a2 a4:Int} {z1 a1:Bool} {z3 a3:List UInt8} {b1:List Int} {b2:Int}:∀(k i:Nat),ks.length - (i+1)=k->
 ((∀m,i<=m->m+1 < ks.length->vcmp (ks.getD m af) (ks.getD (m+1) af) < 0)/\fV (l,((i+1:Nat):Int),ts,b1,b2,x,z0,z1,z2,z3,z4,a0,a1,a2,a3,a4,path,ks)=some (.inr (l,ts,b1,b2,x,z0,z1,z2,z3,z4,a0,a1,a2,a3,a4,path,ks)))\/
 ((∃m,m+1 < ks.length/\¬vcmp (ks.getD m af) (ks.getD (m+1) af) < 0)/\∃w f1 f2,fV (l,((i+1:Nat):Int),ts,b1,b2,x,z0,z1,z2,z3,z4,a0,a1,a2,a3,a4,path,ks)=some (.inl (false,ts,f2,w,path,f1)))
 | 0,i,hi=>by
  rw[fV,if_neg (by simp;omega)]
  grind
 | k+1,i,hi=>by
  have hlt:i+1 < ks.length:=by omega
  have e1:subI .i64 ((i+1:Nat):Int) 1=(i:Int):=by rw[cz (by omega) (by omega)];omega
  rw[fV,if_pos (by simp;omega),e1];simp only[oZ4,oZ3];rw[if_pos (au (by omega)),if_pos (by simp;omega),if_pos (au hlt),if_pos (by simp;omega),aw,aw];simp only[ab.aA];rw[Lp (hk _ (aC (by omega) af)) (hk _ (aC hlt af))];simp only[oZ3];by_cases hc:vcmp (ks.getD i af) (ks.getD (i+1) af) < 0
  . rw[if_neg (by simpa using hc),aB (by omega)];rcases zZ hp hk hl (x:=x) (l:=l) (z0:=z0) (z1:=z1) (z2:=z2) (z3:=z3) (z4:=z4) (a0:=a0) (a1:=a1) (a2:=a2) (a3:=a3) (a4:=a4) (b1:=b1) (b2:=b2) k (i+1) (by omega)with⟨h1,h2⟩ | h
    . grind
    grind
  . rw[if_pos (by simpa using hc),mn hp]
    grind
theorem Aa{m:Nat}(h:m < 18446744073709551616):I64 (unz m):=by
 unfold unz I64;omega
theorem i64_0 :I64 0:=by unfold I64;omega
def AllI(o:Option ab):Prop:=∀v,o=some v->I64 v.Int_
theorem AllI.ite{c:Prop}[Decidable c]{a b:Option ab}(ha:c->AllI a)(hb:¬c->AllI b):AllI (if c then a else b):=by grind
theorem AllI.no :AllI none:=fun v h=>(by cases h)
theorem AllI.zero{k i:Int}{b:Bool}{s:List UInt8}{ks is:List ab}{r:List aE}:AllI (some ⟨k,b,0,s,i,ks,is,r⟩):=fun v h=>(by cases h;exact i64_0)
theorem AllI.map{α:Type}{o:Option α}{k i:Int}{b:Bool}{s:List UInt8}{ks is:α->List ab}{r:List aE}:AllI (o.map fun v=>⟨k,b,0,s,i,ks v,is v,r⟩):=fun v h=>by obtain⟨_,_,rfl⟩:=Option.map_eq_some_iff.1 h;exact i64_0
theorem yZ{n:Nat}{t:Int}{p:List UInt8}{v:ab}(h:vdec ts n t p=some v):I64 v.Int_:=by
 have key:AllI (vdec ts n t p):=by
  cases n with
  | zero=>unfold vdec;exact .no
  | succ n=>
   unfold vdec;refine .ite (fun _=>.ite (fun _=>.zero) fun _=>.ite (fun _=>.zero) fun _=>.no) fun _=>?_
   refine .ite (fun _=>?_) fun _=>?_
   . cases hm:vub p with
     | none=>exact .no
     | some m=>exact .ite (fun _=>fun v h=>(by cases h;exact Aa (pT hm))) fun _=>.no
   refine .ite (fun _=>.ite (fun _=>.zero) fun _=>.no) fun _=>?_
   refine .ite (fun _=>?_) fun _=>?_
   . cases hm:vub p with
     | none=>exact .no
     | some m=>exact .ite (fun _=>.zero) fun _=>.no
   refine .ite (fun _=>?_) fun _=>?_
   . cases p with
     | nil=>exact .zero
     | cons c q=>exact .ite (fun _=>.map) fun _=>.no
   refine .ite (fun _=>?_) fun _=>?_
   . cases vA p with
     | none=>exact .no
     | some a=>
      obtain⟨id,q⟩:=a;dsimp only;cases findM (ts.getD t.toNat ag).Members id with
      | none=>exact .ite (fun _=>.zero) fun _=>.no
      | some m=>exact .map
   refine .ite (fun _=>?_) fun _=>?_
   . cases vI p with
     | none=>exact .no
     | some l=>exact .ite (fun _=>.map) fun _=>.no
   refine .ite (fun _=>?_) fun _=>?_
   . cases vI p with
     | none=>exact .no
     | some l=>
      refine .ite (fun _=>?_) fun _=>.no
      cases seqO (vdec ts n (ts.getD t.toNat ag).Key) (evens l)with
      | none=>exact .no
      | some ks=>exact .ite (fun _=>.map) fun _=>.no
   . cases vFl p with
     | none=>exact .no
     | some l=>
      dsimp only;split
      . exact .ite (fun _=>.zero) fun _=>.no
      . exact .no
 exact key v h
theorem jS{α β:Type}{f:α->Option β}:∀{l:List α} {m:List β},seqO f l=some m->∀y,y∈m->∃a,a∈l/\f a=some y
 | [],m,h,y,hy=>by rw[seqO]at h;cases h;cases hy
 | a::l,m,h,y,hy=>by
  rw[seqO]at h;split at h
  . rename_i b m' h1 h2;cases h;rcases List.mem_cons.1 hy with rfl | hy
    . grind
    . obtain⟨a',k1,k2⟩:=jS h2 y hy
      grind
  . cases h
theorem o5{α:Type}:∀{l:List α} {y:α},y∈evens l->y∈l
 | [],y,h=>by cases h
 | [_],y,h=>by cases h
 | a::b::l,y,h=>by
  rcases List.mem_cons.1 h with rfl | h
  . grind
  . exact .tail _ (.tail _ (o5 h))
theorem rY{α:Type}:∀(l:List α),(evens l).length<=l.length
 | []=>Nat.le_refl _
 | [_]=>Nat.zero_le _
 | a::b::l=>by
  show(evens l).length+1<=l.length+1+1;have:=rY l;omega
theorem quo2{a:Nat}(h:a < 1000000):quoI .i64 (a:Int) 2=((a / 2:Nat):Int):=by
 unfold quoI;have e:(a:Int).tdiv 2=((a / 2:Nat):Int):=by rw[Int.tdiv_eq_ediv_of_nonneg (by omega)];omega
 rw[e];exact wrp64 (by omega) (by omega)
theorem Lq {n : Nat} (ih : DecR ts n) {x : ae} (k8 : x.Kind = 8) (hK : 0 <= x.Key /\ x.Key < ts.length) (hE : 0 <= x.Elem /\ x.Elem < ts.length) {p : List UInt8} (hp : p.length <= 4096) {b1 : List Int} {b2 : Int} {path : List Int} (hpa : path.length + (n + 1) = 200):
 DOut ts b1 b2 path (match vI p with
  | some l => if l.length % 2 = 0 /\ ((l.length / 2 : Nat): Int) <= x.Max then (match seqO (vdec ts n x.Key) (evens l) with
   | some ks=>if ascB ks=true then(seqO (vdec ts n x.Elem) (odds l)).map fun is=>(⟨8,false,0,[],0,ks,is,[]⟩:ab)else none
   | none=>none)else none
  | none=>none) (kB (x,p,ts,b1,b2,path)):=by
 obtain⟨o,o1,_,o2,o3⟩:=gy (p:=p) (by omega);rw[kB,o1];simp only[oZ4,oZ3];by_cases h0:o.2=0
 . obtain⟨v1,v2,v3⟩:=o2 h0;rw[v1];dsimp only;have hrem:remI (o.1.length:Int) 2=((o.1.length % 2:Nat):Int):=by rw[cn (by omega) (by omega)];omega
   rw[hrem,quo2 (by omega)];by_cases he:o.1.length % 2=0
   . have hb:¬(bif (!(decide (o.2=0)))then true else(!(decide (((o.1.length % 2:Nat):Int)=0))))=true:=by grind
     rw[if_neg hb];by_cases hm:((o.1.length / 2:Nat):Int)<=x.Max
     . rw[if_pos (show o.1.length % 2=0/\((o.1.length / 2:Nat):Int)<=x.Max from⟨he,hm⟩),if_neg (show ¬decide (x.Max < ((o.1.length / 2:Nat):Int))=true by simp only[decide_eq_true_eq];omega)];have hk:∀q,q∈o.1->∀step b1 b2,DOut ts b1 b2 path (vdec ts n x.Key q) (bS (step,x.Key,q,ts,b1,b2,path)):=fun q hq step b1 b2=>
        jR (by omega) (ih x.Key q b1 b2 (path++[step]) hK.1 hK.2 (by have:=v2 q hq;omega) (by simp;omega))
       have hi:∀q,q∈o.1->∀step b1 b2,DOut ts b1 b2 path (vdec ts n x.Elem q) (bS (step,x.Elem,q,ts,b1,b2,path)):=fun q hq step b1 b2=>
        jR (by omega) (ih x.Elem q b1 b2 (path++[step]) hE.1 hE.2 (by have:=v2 q hq;omega) (by simp;omega))
       obtain⟨A1,A2⟩:=yY (x:=x) (l:=o.1) (by omega) he hk (z0:=0) (z1:=false) (z2:=0) (z3:=[]) (z4:=0) (a0:=x.Kind) (a1:=false) (a2:=0) (a3:=[]) (a4:=0) (b1:=b1) (b2:=b2) (o.1.length / 2) 0 [] (by omega) rfl;have d0:o.1.drop (2*0)=o.1:=rfl;rw[d0]at A1 A2;have z0:((2*0:Nat):Int)=0:=rfl;rw[z0]at A1 A2
       cases hs:seqO (vdec ts n x.Key) (evens o.1)with
       | none=>
        obtain⟨w,f1,f2,hw⟩:=A2 hs;rw[hw];exact⟨fun v h=>(by cases h),fun _=>⟨_,_,_,rfl⟩⟩
       | some ks=>
        rw[A1 ks hs];simp only[oZ3,List.nil_append];have hki:∀y,y∈ks->I64 y.Int_:=fun y hy=>by
         obtain⟨a,_,ha⟩:=jS hs y hy;exact yZ ha
        have hkl:ks.length<=90000:=by
         have:=dw hs;have:=rY o.1;omega
        have B:=zZ (ts:=ts) (x:=x) (path:=path) (by omega) (l:=o.1) hki hkl (z0:=0) (z1:=false) (z2:=0) (z3:=[]) (z4:=0) (a0:=x.Kind) (a1:=false) (a2:=0) (a3:=[]) (a4:=0) (b1:=b1) (b2:=b2) _ 0 rfl;have z1:((0+1:Nat):Int)=1:=rfl;rw[z1]at B;rcases B with⟨B1,B2⟩ | ⟨⟨m,m1,m2⟩,w,f1,f2,B2⟩
        . have hasc:ascB ks=true:=jQ.2 fun i hi=>B1 i (Nat.zero_le _) hi
          rw[if_pos hasc,B2];simp only[oZ3];obtain⟨C1,C2⟩:=xX (x:=x) (l:=o.1) (by omega) he hi (z0:=0) (z1:=false) (z2:=0) (z3:=[]) (z4:=0) (a0:=x.Kind) (a1:=false) (a2:=0) (a3:=[]) (a4:=0) (b1:=b1) (b2:=b2) (ks:=ks) (o.1.length / 2) 0 [] (by omega) rfl;rw[d0]at C1 C2;have z2:((2*0+1:Nat):Int)=1:=rfl;rw[z2]at C1 C2
          cases hs2:seqO (vdec ts n x.Elem) (odds o.1)with
          | none=>
           obtain⟨w,f1,f2,hw⟩:=C2 hs2;rw[hw];exact⟨fun v h=>(by cases h),fun _=>⟨_,_,_,rfl⟩⟩
          | some is=>
           rw[C1 is hs2];exact⟨fun v h=>(by cases h;simp[k8]),fun h=>(by cases h)⟩
        . have hasc:¬ascB ks=true:=fun h=>m2 (jQ.1 h m m1)
          rw[if_neg hasc,B2];exact⟨fun v h=>(by cases h),fun _=>⟨ab.eta w,f1,f2,rfl⟩⟩
     . rw[if_neg (show ¬(o.1.length % 2=0/\((o.1.length / 2:Nat):Int)<=x.Max)from fun h=>hm h.2),if_pos (show decide (x.Max < ((o.1.length / 2:Nat):Int))=true by simp only[decide_eq_true_eq];omega)];exact ck (by omega) _ _ _
   . have hb:(bif (!(decide (o.2=0)))then true else(!(decide (((o.1.length % 2:Nat):Int)=0))))=true:=by grind
     rw[if_neg (show ¬(o.1.length % 2=0/\((o.1.length / 2:Nat):Int)<=x.Max)from fun h=>he h.1),if_pos hb];exact ck (by omega) _ _ _
 . have hb:(bif (!(decide (o.2=0)))then true else(!(decide (remI (o.1.length:Int) 2=0))))=true:=by simp[h0]
   rw[if_pos hb,o3 h0];exact ck (by omega) _ _ _
end
section
variable {ts:List ae}
theorem II {l : List aM} (m : ap) (hl : l.length <= 90000): (∃ j, j < l.length /\ l.find? (fun f => decide (f.ID = m.ID)) = some (l.getD j bj) /\ kv (l, m) = some ((j : Int), m)) \/
 (l.find? (fun f=>decide (f.ID=m.ID))=none/\kv (l,m)=some (-1,m)):=by
 have h:=iL (fun i=>eB (l,(l.length:Int),(i:Int),m)) l.length (fun i=>decide ((l.getD i bj).ID=m.ID)) (fun i=>.inl ((i:Int),m)) (.inr m)
  (fun i hi=>by
   rw[eB,if_pos (by simp;omega),if_pos (au hi)];simp only[oZ4,oZ3,aw,ab.aA,pZ]
   rw[aB (by omega)])
  (by rw[eB,if_neg (by simp)];simp only[de])
 have e0:eB (l,(l.length:Int),((0:Nat):Int),m)=eB (l,(l.length:Int),0,m):=rfl;simp only[e0]at h;rw[kv];simp only[de];rcases h with⟨j,h1,h2,h3,h4⟩ | ⟨h1,h4⟩
 . left;refine⟨j,h1,?_,by rw[h4];simp only[oZ4,oZ3,de]⟩;rw[ba h1]at h2 ⊢;rw[List.find?_eq_some_iff_getElem];refine⟨h2,j,h1,rfl,fun k hk=>?_⟩;have:=h3 k hk;rw[ba (by omega)]at this
   simpa using this
 . right;refine⟨?_,by rw[h4];simp only[oZ4,oZ3,de]⟩;rw[List.find?_eq_none];intro f hf;obtain⟨i,hi,rfl⟩:=List.getElem_of_mem hf;have:=h1 i hi;rw[ba hi]at this
   simpa using this
def consO{β:Type}:Option β->Option (List β)->Option (List β)
 | some b,some m=>some (b::m)
 | _,_=>none
theorem md{α β:Type}(f:α->Option β)(a:α)(l:List α):seqO f (a::l)=consO (f a) (seqO f l):=by rfl
def vmem(f:Int->List UInt8->Option ab)(l:List aM)(m:ap):Option ab:=match l.find? (fun f=>decide (f.ID=m.ID))with
 | some g=>f m.Type_ g.Data
 | none=>if m.HasDefault=true then some m.Default else none
theorem y4 {x : ae} {path : List Int} (hpath : path.length <= 900) {f : Int -> List UInt8 -> Option ab} {l : List aM} (hl : l.length <= 90000) (hM : x.Members.length <= 16)
 (hD:∀m,m∈x.Members->m.HasDefault=true->cC m.Default=some m.Default)
 (h:∀m,m∈x.Members->∀q,q∈l->∀step b1 b2,DOut ts b1 b2 path (f m.Type_ q.Data) (bS (step,m.Type_,q.Data,ts,b1,b2,path)))
 {z0 z2 z4 a0 a2 a4:Int} {z1 a1:Bool} {z3 a3:List UInt8} {b1:List Int} {b2:Int}:∀(k i:Nat) (acc:List ab),i+k=x.Members.length->acc.length=i->
 (∀m,seqO (vmem f l) (x.Members.drop i)=some m->dj (l,x.Members,(x.Members.length:Int),(i:Int),ts,b1,b2,x,z0,z1,z2,z3,z4,a0,a1,a2,a3,a4,path,acc)=some (.inr (l,ts,b1,b2,x,z0,z1,z2,z3,z4,a0,a1,a2,a3,a4,path,acc++m)))/\
 (seqO (vmem f l) (x.Members.drop i)=none->∃w f1 f2,dj (l,x.Members,(x.Members.length:Int),(i:Int),ts,b1,b2,x,z0,z1,z2,z3,z4,a0,a1,a2,a3,a4,path,acc)=some (.inl (false,ts,f1,f2,w,path)))
 | 0,i,acc,hi,ha=>by
  rw[dj,if_neg (by simp;omega),List.drop_eq_nil_of_le (by omega),seqO]
  grind
 | k+1,i,acc,hi,ha=>by
  have hlt:i < x.Members.length:=by omega
  have hmem:=aC hlt aj;have e:x.Members.drop i=x.Members.getD i aj::x.Members.drop (i+1):=by rw[ba hlt];exact List.drop_eq_getElem_cons hlt
  have go:∀v,(∀m',seqO (vmem f l) (x.Members.drop (i+1))=some m'->dj (l,x.Members,(x.Members.length:Int),((i+1:Nat):Int),ts,b1,b2,x,z0,z1,z2,z3,z4,a0,a1,a2,a3,a4,path,acc++[v])=some (.inr (l,ts,b1,b2,x,z0,z1,z2,z3,z4,a0,a1,a2,a3,a4,path,acc++[v]++m')))/\(seqO (vmem f l) (x.Members.drop (i+1))=none->∃w f1 f2,dj (l,x.Members,(x.Members.length:Int),((i+1:Nat):Int),ts,b1,b2,x,z0,z1,z2,z3,z4,a0,a1,a2,a3,a4,path,acc++[v])=some (.inl (false,ts,f1,f2,w,path))):=fun v=>
   y4 hpath hl hM hD h k (i+1) (acc++[v]) (by omega) (by simp;omega)
  rw [dj, if_pos (by simp; omega), if_pos (au hlt), aw, e, md];simp only [oZ4, oZ3, de];generalize x.Members.getD i aj = m0 at *;have fin : ∀ (v : ab) (X : Option _), vmem f l m0 = some v -> X = dj (l, x.Members, (x.Members.length : Int), ((i + 1 : Nat): Int), ts, b1, b2, x, z0, z1, z2, z3, z4, a0, a1, a2, a3, a4, path, acc ++ [v]) ->
   (∀m,consO (vmem f l m0) (seqO (vmem f l) (x.Members.drop (i+1)))=some m->X=some (.inr (l,ts,b1,b2,x,z0,z1,z2,z3,z4,a0,a1,a2,a3,a4,path,acc++m)))/\
   (consO (vmem f l m0) (seqO (vmem f l) (x.Members.drop (i+1)))=none->∃w f1 f2,X=some (.inl (false,ts,f1,f2,w,path))):=by
   intro v X hv hX;obtain⟨g1,g2⟩:=go v;rw[hv,hX];cases hs:seqO (vmem f l) (x.Members.drop (i+1))with
   | none=>exact⟨fun m hm=>(by cases hm),fun _=>g2 hs⟩
   | some m'=>
    refine⟨fun m hm=>?_,fun h=>(by cases h)⟩;have:m=v::m':=(by cases hm;rfl)
    grind
  rcases II m0 hl with⟨j,j1,j2,j3⟩ | ⟨j2,j3⟩
  . rw[j3];simp only[oZ3];rw[if_pos (by simp),if_pos (au j1),aw];have hd:=h m0 hmem _ (aC j1 bj) m0.ID b1 b2;have hvm:vmem f l m0=f m0.Type_ (l.getD j bj).Data:=by unfold vmem;rw[j2]
    cases hv:f m0.Type_ (l.getD j bj).Data with
    | none=>
     obtain⟨w,f1,f2,hw⟩:=hd.2 hv;rw[hw,hvm,hv];exact⟨fun m hm=>(by cases hm),fun _=>⟨w,f1,f2,by simp[ab.aA]⟩⟩
    | some v=>
     rw[hd.1 v hv];simp only[oZ3,ab.aA,Bool.not_true];rw[if_neg (by simp),if_pos (aW (by omega) (by simp;omega)),aB (by omega)]
     grind
  . rw[j3];simp only[oZ3];rw[if_neg (by simp)];cases hdf:m0.HasDefault with
    | true=>
     rw[if_pos rfl];simp only[ab.aA];rw[hD m0 hmem hdf];simp only[oZ3,ab.aA];rw[if_pos (aW (by omega) (by simp;omega)),aB (by omega)];exact fin m0.Default _ (by unfold vmem;rw[j2];simp[hdf]) rfl
    | false=>
     have hvm:vmem f l m0=none:=by unfold vmem;rw[j2];simp[hdf]
     rw[if_neg (by simp),if_pos (aW (by omega) (by simp;omega)),mn (by simp;omega),hvm];simp only[oZ3,ab.aA];have e1:subI .i64 ((path++[m0.ID]).length:Int) 1=(path.length:Int):=by rw[cz (by simp <;> omega) (by simp <;> omega)];simp
     rw[e1,if_pos (cU.2 (by simp;omega)),if_pos (by simp),aw];exact⟨fun m hm=>(by cases hm),fun _=>⟨_,_,_,by simp;exact⟨rfl,rfl,rfl⟩⟩⟩
end
section
variable {ts:List ae}
theorem memF{x:ae}(hM:x.Members.length<=1000)(hA:MAsc x.Members)(id:Int):∃r,cu (x,id)=some r/\r.2=(findM x.Members id).isSome:=by
 cases hF:findM x.Members id with
 | some m=>
  obtain⟨j,j1,j2,j3⟩:=member_find' hA hM hF
  grind
 | none=>
  obtain⟨r,r1,r2⟩:=nN (t:=x) (id:=id) (by omega);refine⟨r,r1,?_⟩;rcases r2 with⟨j,j1,j2,_,_⟩ | ⟨_,q⟩
  . exact absurd j2 (du hF _ (aC j1 aj))
  grind
def okU(x:ae)(f:aM):Bool:=(findM x.Members f.ID).isSome || !f.Critical
def restU(x:ae)(l:List aM):List aE:=(l.filter fun f=>!(findM x.Members f.ID).isSome).map fun f=>⟨f.ID,f.Data⟩
theorem sA {x : ae} {path : List Int} (hpath : path.length <= 900) (hM : x.Members.length <= 1000) (hA : MAsc x.Members) {l : List aM} (hl : l.length <= 90000)
 {z0 z2 z4 a0 a2 a4:Int} {z1 a1:Bool} {z3 a3:List UInt8} {b1:List Int} {b2:Int} {its:List ab}:∀(k i:Nat) (acc:List aE),i+k=l.length->acc.length<=i->
 ((l.drop i).all (okU x)=true->eF (l,(l.length:Int),(i:Int),ts,b1,b2,x,z0,z1,z2,z3,z4,a0,a1,a2,a3,a4,path,its,acc)=some (.inr (ts,b1,b2,z0,z1,z2,z3,z4,a0,a1,a2,a3,a4,path,its,acc++restU x (l.drop i))))/\
 ((l.drop i).all (okU x)=false->∃w f1 f2,eF (l,(l.length:Int),(i:Int),ts,b1,b2,x,z0,z1,z2,z3,z4,a0,a1,a2,a3,a4,path,its,acc)=some (.inl (false,ts,f2,w,path,f1)))
 | 0,i,acc,hi,ha=>by
  rw[eF,if_neg (by simp;omega),List.drop_eq_nil_of_le (by omega)];exact⟨fun _=>by simp[restU],fun h=>by simp at h⟩
 | k+1,i,acc,hi,ha=>by
  have hlt:i < l.length:=by omega
  have e:l.drop i=l.getD i bj::l.drop (i+1):=by rw[ba hlt];exact List.drop_eq_getElem_cons hlt
  obtain⟨r,r1,r2⟩:=memF hM hA (l.getD i bj).ID;rw[eF,if_pos (by simp;omega),if_pos (au hlt),aw,e];simp only[oZ4,oZ3];generalize l.getD i bj=f at*;rw[r1];simp only[oZ3];have hall:(f::l.drop (i+1)).all (okU x)=(okU x f && (l.drop (i+1)).all (okU x)):=rfl;rw[hall];cases hs:(findM x.Members f.ID).isSome with
  | true=>
   have ho:okU x f=true:=by unfold okU;rw[hs];rfl
   have hr:restU x (f::l.drop (i+1))=restU x (l.drop (i+1)):=by unfold restU;rw[List.filter_cons_of_neg (by rw[hs];simp)]
   rw[r2,hs,if_pos rfl,ho,hr,aB (by omega),Bool.true_and];exact sA hpath hM hA hl k (i+1) acc (by omega) (by omega)
  | false=>
   rw[r2,hs,if_neg (by simp)];cases hc:f.Critical with
   | true=>
    have ho:okU x f=false:=by unfold okU;rw[hs,hc];rfl
    rw[if_pos rfl,if_pos (aW (by omega) (by simp;omega)),mn (by simp;omega),ho];simp only[oZ3,ab.aA];have e1:subI .i64 ((path++[f.ID]).length:Int) 1=(path.length:Int):=by rw[cz (by simp <;> omega) (by simp <;> omega)];simp
    rw[e1,if_pos (cU.2 (by simp;omega)),if_pos (by simp),aw];simp_all
   | false=>
    have ho:okU x f=true:=by unfold okU;rw[hs,hc];rfl
    have hr:restU x (f::l.drop (i+1))=⟨f.ID,f.Data⟩::restU x (l.drop (i+1)):=by unfold restU;rw[List.filter_cons_of_pos (by rw[hs];rfl)];rfl
    rw[if_neg (by simp),if_pos (aW (by omega) (by simp;omega)),ho,hr,aB (by omega),Bool.true_and];have:=sA hpath hM hA hl (z0:=z0) (z1:=z1) (z2:=z2) (z3:=z3) (z4:=z4) (a0:=a0) (a1:=a1) (a2:=a2) (a3:=a3) (a4:=a4) (b1:=b1) (b2:=b2) (its:=its) k (i+1) (acc++[⟨f.ID,f.Data⟩]) (by omega) (by simp;omega)
    grind
end
section
variable {ts:List ae}
theorem HH (H : SOk ts) (HW : ∀ x, x ∈ ts -> ∀ m, m ∈ x.Members -> m.HasDefault = true -> wt m.Default <= 1000000) {n : Nat} (ih : DecR ts n) {x : ae} (hx : x ∈ ts) (k5 : x.Kind = 5) (hT : ∀ m, m ∈ x.Members -> 0 <= m.Type_ /\ m.Type_ < ts.length) {p : List UInt8} (hp : p.length <= 4096) {b1 : List Int} {b2 : Int} {path : List Int} (hpa : path.length + (n + 1) = 200):
 (∀l,vFl p=some l->∀is,seqO (vmem (vdec ts n) l) x.Members=some is->l.all (okU x)=true->kC (x,p,ts,b1,b2,path)=some (⟨5,false,0,[],0,[],is,restU x l⟩,true,ts,b1,b2,path))/\
 ((vFl p=none\/(∃l,vFl p=some l/\(seqO (vmem (vdec ts n) l) x.Members=none\/l.all (okU x)=false)))->∃w f1 f2,kC (x,p,ts,b1,b2,path)=some (w,false,ts,f1,f2,path)):=by
 obtain⟨hA1,hA2⟩:=H.A x hx (.inl k5);obtain⟨o,o1,_,o2,o3⟩:=oz (p:=p) (by omega);rw[kC,o1];simp only[oZ4,oZ3];by_cases h0:o.2=0
 . obtain⟨v1,v2,v3,v4⟩:=o2 h0;rw[if_neg (by simp[h0]),v1];have hOk:=H.T x hx;have hD:∀m,m∈x.Members->m.HasDefault=true->cC m.Default=some m.Default:=fun m hm hd=>IG (hOk.3 m hm) (by have:=HW x hx m hm hd;omega)
   have hP:∀m,m∈x.Members->∀q,q∈o.1->∀step b1 b2,DOut ts b1 b2 path (vdec ts n m.Type_ q.Data) (bS (step,m.Type_,q.Data,ts,b1,b2,path)):=fun m hm q hq step b1 b2=>
    jR (by omega) (ih m.Type_ q.Data b1 b2 (path++[step]) (hT m hm).1 (hT m hm).2 (by have:=(v2 q hq).1;omega) (by simp;omega))
   obtain⟨A1,A2⟩:=y4 (x:=x) (path:=path) (by omega) (f:=vdec ts n) (l:=o.1) (by omega) (by omega) hD hP (z0:=0) (z1:=false) (z2:=0) (z3:=[]) (z4:=0) (a0:=x.Kind) (a1:=false) (a2:=0) (a3:=[]) (a4:=0) (b1:=b1) (b2:=b2) x.Members.length 0 [] (by omega) rfl;rw[List.drop_zero]at A1 A2;have z0:((0:Nat):Int)=0:=rfl;rw[z0]at A1 A2
   have B:=fun its=>sA (ts:=ts) (x:=x) (path:=path) (by omega) (by omega) hA1 (l:=o.1) (by omega) (z0:=0) (z1:=false) (z2:=0) (z3:=[]) (z4:=0) (a0:=x.Kind) (a1:=false) (a2:=0) (a3:=[]) (a4:=0) (b1:=b1) (b2:=b2) (its:=its) o.1.length 0 [] (by omega) (Nat.le_refl _)
   rw[List.drop_zero,z0]at B;constructor
   . intro l hl is his hall;cases hl;rw[A1 is his];simp only[oZ3,List.nil_append];rw[(B is).1 hall];simp[k5]
   . intro h;rcases h with h | ⟨l,hl,h⟩
     . cases h
     . cases hl;cases hs:seqO (vmem (vdec ts n) o.1) x.Members with
       | none=>
        obtain⟨w,f1,f2,hw⟩:=A2 hs;rw[hw];exact⟨_,_,_,rfl⟩
       | some is=>
        rcases h with h | h
        . rw[hs]at h;cases h
        . obtain⟨w,f1,f2,hw⟩:=(B is).2 h;rw[A1 is hs];simp only[oZ3,List.nil_append];rw[hw];exact⟨ab.eta w,f1,f2,rfl⟩
 . rw[if_pos (by simp[h0]),o3 h0];constructor
   . intro l hl;cases hl
   . intro _;rw[mn (by omega)];exact⟨_,_,_,rfl⟩
end
structure DcOk (ts:List ae):Prop where
 S:SOk ts
 V:VOk ts
 W:∀x,x∈ts->∀m,m∈x.Members->m.HasDefault=true->wt m.Default<=1000000
theorem DrOk.dc{ts:List ae}(H:DrOk ts):DcOk ts:=⟨H.V.sok H.T,H.V,fun x hx m hm hd=>by have:=H.W x hx m hm hd;omega⟩
section
variable {ts:List ae}
theorem DcOk.mem(H:DcOk ts){x:ae}(hx:x∈ts){m:ap}(hm:m∈x.Members):0<=m.Type_/\m.Type_ < ts.length:=
 H.V.U x hx m.Type_ (by unfold usesL;simp;exact .inl ⟨m,hm,rfl⟩)
theorem DcOk.elem(H:DcOk ts){x:ae}(hx:x∈ts)(hk:7<=x.Kind):0<=x.Elem/\x.Elem < ts.length:=
 H.V.U x hx x.Elem (by unfold usesL;simp[hk])
theorem DcOk.key(H:DcOk ts){x:ae}(hx:x∈ts)(hk:x.Kind=8):0<=x.Key/\x.Key < ts.length:=
 H.V.U x hx x.Key (by unfold usesL;simp[hk])
abbrev Dec :=Int->List UInt8->Option ab
def vd1(p:List UInt8):Option ab:=if p=[]then some ⟨1,false,0,[],0,[],[],[]⟩else if p=[1]then some ⟨1,true,0,[],0,[],[],[]⟩else none
def vd2(x:ae)(p:List UInt8):Option ab:=match vub p with
 | some m=>if x.Low<=unz m/\unz m<=x.High then some ⟨2,false,unz m,[],0,[],[],[]⟩else none
 | none=>none
def vd3(x:ae)(p:List UInt8):Option ab:=if(p.length:Int)<=x.Max then some ⟨3,false,0,p,0,[],[],[]⟩else none
def vd4(x:ae)(p:List UInt8):Option ab:=match vub p with
 | some m=>if 1<=m/\m<=1000/\((x.Symbols.any fun y=>decide (y.ID=(m:Int))) || x.Open)=true then some ⟨4,false,0,[],(m:Int),[],[],[]⟩else none
 | none=>none
def vd9(f:Dec)(x:ae):List UInt8->Option ab
 | []=>some ⟨9,false,0,[],0,[],[],[]⟩
 | c::q=>if c=1 then(f x.Elem q).map fun v=>⟨9,false,0,[],0,[],[v],[]⟩else none
def vd6(f:Dec)(x:ae)(p:List UInt8):Option ab:=match vA p with
 | some (id,q)=>(match findM x.Members id with
  | some m=>(f m.Type_ q).map fun v=>⟨6,false,0,[],id,[],[v],[]⟩
  | none=>if x.Open=true then some ⟨6,false,0,[],id,[],[],[⟨id,q⟩]⟩else none)
 | none=>none
def vd7(f:Dec)(x:ae)(p:List UInt8):Option ab:=match vI p with
 | some l=>if(l.length:Int)<=x.Max then(seqO (f x.Elem) l).map fun is=>⟨7,false,0,[],0,[],is,[]⟩else none
 | none=>none
def vd8(f:Dec)(x:ae)(p:List UInt8):Option ab:=match vI p with
 | some l => if l.length % 2 = 0 /\ ((l.length / 2 : Nat): Int) <= x.Max then (match seqO (f x.Key) (evens l) with
  | some ks=>if ascB ks=true then(seqO (f x.Elem) (odds l)).map fun is=>⟨8,false,0,[],0,ks,is,[]⟩else none
  | none=>none)else none
 | none=>none
def vd5(f:Dec)(x:ae)(p:List UInt8):Option ab:=match vFl p with
 | some l=>(match seqO (vmem f l) x.Members with
  | some is=>if l.all (okU x)=true then some ⟨5,false,0,[],0,[],is,restU x l⟩else none
  | none=>none)
 | none=>none
def vdK(f:Dec)(x:ae)(p:List UInt8):Option ab:=
 if x.Kind=1 then vd1 p else if x.Kind=2 then vd2 x p else if x.Kind=3 then vd3 x p else if x.Kind=4 then vd4 x p
 else if x.Kind=9 then vd9 f x p else if x.Kind=6 then vd6 f x p else if x.Kind=7 then vd7 f x p else if x.Kind=8 then vd8 f x p else vd5 f x p
theorem rZ(t:Int)(p:List UInt8):vdec ts 0 t p=none:=by rw[vdec.eq_def]
theorem o6(n:Nat)(t:Int)(p:List UInt8):vdec ts (n+1) t p=vdK (vdec ts n) (ts.getD t.toNat ag) p:=by rfl
theorem DOut.eta {b1 : List Int} {b2 : Int} {path : List Int} {o : Option ab} {X : Option (ab×Bool×List ae×List Int×Int×List Int)} (h : DOut ts b1 b2 path o X):
 DOut ts b1 b2 path o (X >>=fun r=>some (ab.eta r.1,r.2.1,r.2.2.1,r.2.2.2.1,r.2.2.2.2.1,r.2.2.2.2.2)):=by
 refine⟨fun v hv=>?_,fun hn=>?_⟩
 . rw[h.1 v hv];simp[ab.aA]
 . obtain⟨w,f1,f2,hw⟩:=h.2 hn;exact⟨w,f1,f2,by rw[hw];simp[ab.aA]⟩
theorem DOut.one{b1:List Int}{b2:Int}{path:List Int}(v:ab):DOut ts b1 b2 path (some v) (some (v,true,ts,b1,b2,path)):=⟨fun v' h=>by cases h;rfl,fun h=>by cases h⟩
theorem DOut.cast{b1:List Int}{b2:Int}{path:List Int}{o o':Option ab}{X:Option (ab×Bool×List ae×List Int×Int×List Int)}(e:o=o')(h:DOut ts b1 b2 path o X):DOut ts b1 b2 path o' X:=e▸h
theorem Ab{l:List aL}{m:Nat}:(∃y,y∈l/\y.ID=(m:Int))↔(l.any fun y=>decide (y.ID=(m:Int)))=true:=by grind
theorem IK (H : DcOk ts) {n : Nat} (ih : DecR ts n) {x : ae} (hx : x ∈ ts) (k7 : x.Kind = 7) {p : List UInt8} (hp : p.length <= 4096) {b1 : List Int} {b2 : Int} {path : List Int} (hpa : path.length + (n + 1) = 200):
 DOut ts b1 b2 path (vd7 (vdec ts n) x p) (nx (x,p,ts,b1,b2,path)):=by
 obtain⟨o,o1,_,o2,o3⟩:=gy (p:=p) (by omega);obtain⟨e1,e2⟩:=H.elem hx (by omega);rw[nx,o1];unfold vd7;simp only[oZ4,oZ3];by_cases h0:o.2=0
 . obtain⟨v1,v2,v3⟩:=o2 h0;rw[if_neg (by simp[h0]),v1];dsimp only;by_cases hm:(o.1.length:Int)<=x.Max
   . rw[if_pos hm,if_neg (by simp;omega)];have hi:∀q,q∈o.1->∀step b1 b2,DOut ts b1 b2 path (vdec ts n x.Elem q) (bS (step,x.Elem,q,ts,b1,b2,path)):=fun q hq step b1 b2=>
      jR (by omega) (ih x.Elem q b1 b2 (path++[step]) e1 e2 (by have:=v2 q hq;omega) (by simp;omega))
     obtain⟨A1,A2⟩:=yW (x:=x) (l:=o.1) (by omega) hi (z0:=0) (z1:=false) (z2:=0) (z3:=[]) (z4:=0) (a0:=x.Kind) (a1:=false) (a2:=0) (a3:=[]) (a4:=0) (b1:=b1) (b2:=b2) o.1.length 0 [] (by omega) rfl;rw[List.drop_zero]at A1 A2;have z0:((0:Nat):Int)=0:=rfl;rw[z0]at A1 A2;cases hs:seqO (vdec ts n x.Elem) o.1 with
     | none=>
      obtain⟨w,f1,f2,hw⟩:=A2 hs;rw[hw];exact⟨fun v h=>by simp at h,fun _=>⟨_,_,_,rfl⟩⟩
     | some is=>
      rw[A1 is hs];exact⟨fun v' h=>by grind,fun h=>by simp at h⟩
   . rw[if_neg hm,if_pos (by simp;omega)];exact ck (by omega) _ _ _
 . rw[if_pos (by simp[h0]),o3 h0];exact ck (by omega) _ _ _
theorem Ac(H:DcOk ts):∀n,n<=200->DecR ts n
 | 0,_=>fun t p b1 b2 path t0 t1 hp hpa=>by
  rw[eO,if_pos (by simp;omega),rZ];exact ck (by omega) _ _ _
 | n+1,hn=>fun t p b1 b2 path t0 t1 hp hpa=>by
  have ih:=Ac H n (by omega);obtain⟨j,rfl⟩:=Int.eq_ofNat_of_zero_le t0;have hj:j < ts.length:=by omega
  rw[eO,if_neg (by simp;omega),if_pos (au hj),o6,aw];have hx:=aC hj ag;generalize ts.getD j ag=x at*;obtain⟨K1,K9⟩:=H.S.K x hx;have hs7:x.Symbols.length < 9223372036854775807:=aS (bY (H.S.T x hx).1);unfold vdK;simp only[oZ4,oZ3];obtain⟨u,u1,u2,u3,u4⟩:=wL p;by_cases k1:x.Kind=1
  . rw[if_pos k1,if_pos (show decide (x.Kind=1)=true by simpa using k1)];unfold vd1;by_cases h0:p=[]
    . rw[if_pos h0,if_neg (by simp[h0]),k1,h0];exact .one _
    . by_cases h1:p=[1]
      . rw[if_neg h0,if_pos h1,if_neg (by simp[h1]),k1,h1];exact .one _
      . rw[if_neg h0,if_neg h1,if_pos (by simp[h0,h1])];exact ck (by omega) _ _ _
  rw[if_neg k1,if_neg (show ¬decide (x.Kind=1)=true by simpa using k1)];by_cases k2:x.Kind=2
  . rw[if_pos k2,if_pos (show decide (x.Kind=2)=true by simpa using k2),u1];unfold vd2;simp only[oZ3];by_cases h0:u.2=0
    . obtain⟨m,m1,m2⟩:=u3 h0;rw[m1,m2,NM (pT m1),if_neg (by simp[h0])];simp only[oZ3];by_cases hr:x.Low<=unz m/\unz m<=x.High
      . rw[if_pos hr,if_neg (by simp;omega),k2];exact .one _
      . rw[if_neg hr,if_pos (by simp;omega)];exact ck (by omega) _ _ _
    . rw[u4 h0,if_pos (by simp[h0])];exact ck (by omega) _ _ _
  rw[if_neg k2,if_neg (show ¬decide (x.Kind=2)=true by simpa using k2)];by_cases k3:x.Kind=3
  . rw[if_pos k3,if_pos (show decide (x.Kind=3)=true by simpa using k3)];unfold vd3;by_cases hr:(p.length:Int)<=x.Max
    . rw[if_pos hr,if_neg (by simp;omega),k3];exact .one _
    . rw[if_neg hr,if_pos (by simp;omega)];exact ck (by omega) _ _ _
  rw[if_neg k3,if_neg (show ¬decide (x.Kind=3)=true by simpa using k3)];by_cases k4:x.Kind=4
  . rw[if_pos k4,if_pos (show decide (x.Kind=4)=true by simpa using k4),u1];unfold vd4;simp only[oZ3];by_cases h0:u.2=0
    . obtain⟨m,m1,m2⟩:=u3 h0;rw[m1,m2];dsimp only;by_cases hr:1<=m/\m<=1000
      . obtain⟨q,q1,_,q3⟩:=oy (t:=x) (m:Int) hs7;have e:wrp .i64 (m:Int)=(m:Int):=wrp64 (by omega) (by omega);rw[if_neg (show ¬(bif bif !decide (u.2=0)then true else decide ((m:Int) < 1)then true else decide (1000 < (m:Int)))=true by simp[h0];omega),e,q1];simp only[oZ3]
        have hq:q.2=(x.Symbols.any fun y=>decide (y.ID=(m:Int))):=by
         have:=(rB q3).trans Ab
         grind
        rw[hq,k4];by_cases hb:((x.Symbols.any fun y=>decide (y.ID=(m:Int))) || x.Open)=true
        . rw[if_pos (show 1<=m/\m<=1000/\((x.Symbols.any fun y=>decide (y.ID=(m:Int))) || x.Open)=true from⟨hr.1,hr.2,hb⟩),if_neg]
          . exact .one _
          grind
        . rw[if_neg (show ¬(1<=m/\m<=1000/\((x.Symbols.any fun y=>decide (y.ID=(m:Int))) || x.Open)=true)from fun h=>hb h.2.2),if_pos]
          . exact ck (by omega) _ _ _
          grind
      . rw[if_neg (show ¬(1<=m/\m<=1000/\((x.Symbols.any fun y=>decide (y.ID=(m:Int))) || x.Open)=true)from fun h=>hr ⟨h.1,h.2.1⟩),if_pos (by simp[h0];omega)];exact ck (by omega) _ _ _
    . rw[u4 h0,if_pos (by simp[h0])];exact ck (by omega) _ _ _
  rw[if_neg k4,if_neg (show ¬decide (x.Kind=4)=true by simpa using k4)];by_cases k9:x.Kind=9
  . rw[if_pos k9,if_pos (show decide (x.Kind=9)=true by simpa using k9)];obtain⟨e1,e2⟩:=H.elem hx (by omega);cases p with
    | nil=>
     rw[if_pos (by simp),vd9,k9];exact .one _
    | cons c q=>
     have hl:(c::q).length=q.length+1:=rfl;have i0:inR 0 (c::q).length=true:=au (k:=0) (by simp);have b0:bf (c::q) 0=(c.toNat:Int):=rfl;have s0:slR 1 ((c::q).length:Int) (c::q).length=true:=cU.2 (by simp <;> omega);have c0:cutL (c::q) 1 ((c::q).length:Int)=q:=by
      unfold cutL;simp
     rw[if_neg (by simp),if_pos i0,b0,vd9];by_cases hc:c=1
     . subst hc;rw[if_pos rfl,if_neg (by simp),if_pos s0,c0];have hd:=jR (step:=0) (path:=path) (by omega) (ih x.Elem q b1 b2 (path++[0]) e1 e2 (by simp at hp;omega) (by simp;omega));cases hv:vdec ts n x.Elem q with
       | none=>
        obtain⟨w,f1,f2,hw⟩:=hd.2 hv;rw[hw];exact⟨fun v h=>by simp at h,fun _=>⟨_,_,_,rfl⟩⟩
       | some v=>
        rw[hd.1 v hv]
        exact⟨fun v' h=>by
         have:v'=⟨9,false,0,[],0,[],[v],[]⟩:=by simpa using h.symm
         rw[this]
         simp[ab.aA,k9],fun h=>by simp at h⟩
     . have hc':¬((c.toNat:Int)=1):=fun h=>hc (UInt8.toNat.inj (by show c.toNat=1;omega))
       rw[if_neg hc,if_pos (by simpa using hc')];exact ck (by omega) _ _ _
  rw[if_neg k9,if_neg (show ¬decide (x.Kind=9)=true by simpa using k9)];by_cases k6:x.Kind=6
  . rw[if_pos k6,if_pos (show decide (x.Kind=6)=true by simpa using k6)];refine DOut.eta (DOut.cast ?_ (IH H.S ih hx k6 (fun m hm=>H.mem hx hm) hp hpa));rfl
  rw[if_neg k6,if_neg (show ¬decide (x.Kind=6)=true by simpa using k6)];by_cases k7:x.Kind=7
  . rw[if_pos k7,if_pos (show decide (x.Kind=7)=true by simpa using k7)];exact DOut.eta (IK H ih hx k7 hp hpa)
  rw[if_neg k7,if_neg (show ¬decide (x.Kind=7)=true by simpa using k7)];by_cases k8:x.Kind=8
  . rw[if_pos k8,if_pos (show decide (x.Kind=8)=true by simpa using k8)];refine DOut.eta (DOut.cast ?_ (Lq ih k8 (H.key hx k8) (H.elem hx (by omega)) hp hpa));rfl
  rw[if_neg k8,if_neg (show ¬decide (x.Kind=8)=true by simpa using k8)];have k5:x.Kind=5:=by omega
  obtain⟨R1,R2⟩:=HH H.S H.W ih hx k5 (fun m hm=>H.mem hx hm) hp (b1:=b1) (b2:=b2) hpa;refine DOut.eta ?_;unfold vd5;cases hl:vFl p with
  | none=>exact⟨fun v h=>(by cases h),fun _=>R2 (.inl hl)⟩
  | some l=>
   dsimp only;cases hs:seqO (vmem (vdec ts n) l) x.Members with
   | none=>exact⟨fun v h=>(by cases h),fun _=>R2 (.inr ⟨l,hl,.inl hs⟩)⟩
   | some is=>
    dsimp only;cases ha:l.all (okU x)with
    | true=>exact⟨fun v h=>(by cases h;exact R1 l hl is hs ha),fun h=>(by cases h)⟩
    | false=>exact⟨fun v h=>(by cases h),fun _=>R2 (.inr ⟨l,hl,.inr ha⟩)⟩
end
def vz :ab:=⟨0,false,0,[],0,[],[],[]⟩
def ROut(o:Option ab)(r:Option aG):Prop:=(∀v,o=some v->∃F,r=some ⟨v,F,true⟩)/\(o=none->∃F,r=some ⟨vz,F,false⟩)
theorem mB{path:List Int}(hp:path.length<=1000)(reason:Int):bu (path,reason)=some ⟨vz,⟨path,reason⟩,false⟩:=by rw[bu,if_pos (aW (by omega) (by simp;omega)),List.nil_append];rfl
theorem rto{path:List Int}(hp:path.length<=1000)(step:Int):cZ (path,step)=some (path++[step]):=by
 rw[cZ,if_pos (aW (by omega) (by simp;omega))];simp only[oZ4,oZ3,List.nil_append];rw[if_pos (aW (by omega) (by simp;omega))]
theorem cf{path:List Int}(hp:path.length<=1000)(reason:Int):ROut none (bu (path,reason) >>=fun r=>some (⟨ab.eta r.Value,r.Failure,r.OK⟩:aG)):=by
 rw[mB hp];exact⟨fun v h=>(by cases h),fun _=>⟨_,rfl⟩⟩
theorem ROut.eta{o:Option ab}{X:Option aG}(h:ROut o X):ROut o (X >>=fun r=>some (⟨ab.eta r.Value,r.Failure,r.OK⟩:aG)):=by
 refine⟨fun v hv=>?_,fun hn=>?_⟩
 . obtain⟨F,hF⟩:=h.1 v hv;exact⟨F,by rw[hF];simp[ab.aA]⟩
 . obtain⟨F,hF⟩:=h.2 hn;exact⟨F,by rw[hF];rfl⟩
theorem rseen(v:ab):dK v=some ⟨v,⟨[],0⟩,true⟩:=by rw[dK,ab.aA]
theorem ROut.one(v:ab):ROut (some v) (dK v >>=fun r=>some (⟨ab.eta r.Value,r.Failure,r.OK⟩:aG)):=by
 rw[rseen];exact⟨fun v' h=>(by cases h;exact⟨_,by simp[ab.aA];rfl⟩),fun h=>(by cases h)⟩
section
variable {ts:List ae}
def RPart(ts:List ae)(o:Option ab)(L:Int)(path:List Int)(t:Int)(q:List UInt8)(step:Int):Prop:=
 ROut o (cZ (path,step) >>=fun r=>ci ((⟨ts⟩:av),t,q,addI .i64 L 1,r))
theorem RPart.yes{o:Option ab}{L:Int}{path:List Int}{t:Int}{q:List UInt8}{step:Int}(h:RPart ts o L path t q step)(hp:path.length<=1000){v:ab}(hv:o=some v):∃F,ci ((⟨ts⟩:av),t,q,addI .i64 L 1,path++[step])=some ⟨v,F,true⟩:=by
 unfold RPart at h;rw[rto hp]at h;exact h.1 v hv
theorem RPart.no{o:Option ab}{L:Int}{path:List Int}{t:Int}{q:List UInt8}{step:Int}(h:RPart ts o L path t q step)(hp:path.length<=1000)(hv:o=none):∃F,ci ((⟨ts⟩:av),t,q,addI .i64 L 1,path++[step])=some ⟨vz,F,false⟩:=by
 unfold RPart at h;rw[rto hp]at h;exact h.2 hv
theorem rlist {x : ae} {path : List Int} (hpath : path.length <= 900) {f : List UInt8 -> Option ab} {l : List (List UInt8)} (hl : l.length <= 90000) {L : Int} (h : ∀ q, q ∈ l -> ∀ step, RPart ts (f q) L path x.Elem q step)
 {z0 z2 z4 z5 z7 z9 z11:Int} {z1 z6 z8:Bool} {z3 z10:List UInt8}:∀(k i:Nat) (acc:List ab),i+k=l.length->acc.length=i->
 (∀m,seqO f (l.drop i)=some m->gZ (L,path,l,(i:Int),ts,x,z0,z1,z2,z3,z4,z5,z6,z7,z8,z9,z10,z11,acc)=some (.inr (z0,z1,z2,z3,z4,z5,z6,z7,z8,z9,z10,z11,acc++m)))/\
 (seqO f (l.drop i)=none->∃F,gZ (L,path,l,(i:Int),ts,x,z0,z1,z2,z3,z4,z5,z6,z7,z8,z9,z10,z11,acc)=some (.inl ⟨vz,F,false⟩))
 | 0,i,acc,hi,ha=>by
  rw[gZ,if_neg (by simp;omega),List.drop_eq_nil_of_le (by omega),seqO]
  grind
 | k+1,i,acc,hi,ha=>by
  have hlt:i < l.length:=by omega
  have hd:=h _ (aC hlt []) (i:Int);have e:l.drop i=l.getD i []::l.drop (i+1):=by rw[ba hlt];exact List.drop_eq_getElem_cons hlt
  rw[gZ,if_pos (by simp;omega),if_pos (au hlt),aw,e,md,rto (by omega)];simp only[oZ4,oZ3];cases hf:f (l.getD i [])with
  | none=>
   obtain⟨F,hw⟩:=hd.no (by omega) hf;rw[hw];exact⟨fun m hm=>(by cases hm),fun _=>⟨F,by simp[ab.aA]⟩⟩
  | some v=>
   obtain⟨F,hw⟩:=hd.yes (by omega) hf;rw[hw];simp only[oZ3,ab.aA,Bool.not_true];rw[if_neg (by simp),if_pos (aW (by omega) (by simp;omega)),aB (by omega)]
   obtain⟨i1,i2⟩:=rlist hpath hl h (z0:=z0) (z1:=z1) (z2:=z2) (z3:=z3) (z4:=z4) (z5:=z5) (z6:=z6) (z7:=z7) (z8:=z8) (z9:=z9) (z10:=z10) (z11:=z11) k (i+1) (acc++[v]) (by omega) (by simp;omega);cases hs:seqO f (l.drop (i+1))with
   | none=>exact⟨fun m hm=>(by cases hm),fun _=>i2 hs⟩
   | some m'=>
    refine⟨fun m hm=>?_,fun h=>(by cases h)⟩;have:m=v::m':=(by cases hm;rfl)
    grind
theorem mul2{i:Nat}(h:i < 1000000):mulI .i64 2 (i:Int)=((2*i:Nat):Int):=by
 unfold mulI;have e:(2:Int)*(i:Int)=((2*i:Nat):Int):=by omega
 rw[e];exact wrp64 (by omega) (by omega)
theorem rkeys {x : ae} {path : List Int} (hpath : path.length <= 900) {f : List UInt8 -> Option ab} {l : List (List UInt8)} (hl : l.length <= 90000) {L : Int} (h : ∀ q, q ∈ l -> ∀ step, RPart ts (f q) L path x.Key q step)
 {z0 z2 z4 z5 z7 z9 z11:Int} {z1 z6 z8:Bool} {z3 z10:List UInt8}:∀(k j:Nat) (acc:List ab),2*(j+k)=l.length->acc.length=j->
 (∀m,seqO f (evens (l.drop (2*j)))=some m->gP (L,path,l,(j:Int),ts,x,z0,z1,z2,z3,z4,z5,z6,z7,z8,z9,z10,z11,acc)=some (.inr (L,path,l,ts,x,z0,z1,z2,z3,z4,z5,z6,z7,z8,z9,z10,z11,acc++m)))/\
 (seqO f (evens (l.drop (2*j)))=none->∃F,gP (L,path,l,(j:Int),ts,x,z0,z1,z2,z3,z4,z5,z6,z7,z8,z9,z10,z11,acc)=some (.inl ⟨vz,F,false⟩))
 | 0,j,acc,hi,ha=>by
  rw[gP,mul2 (by omega),if_neg (by simp;omega),List.drop_eq_nil_of_le (by omega),show evens ([]:List (List UInt8))=[]from rfl,seqO]
  grind
 | k+1,j,acc,hi,ha=>by
  have hlt:2*j < l.length:=by omega
  have hd:=h _ (aC hlt []) (j:Int);rw[gP,mul2 (by omega),if_pos (by simp;omega)];simp only[oZ4,oZ3];rw[if_pos (au hlt),aw,wN (by omega) [],md,rto (by omega)];simp only[oZ3];cases hf:f (l.getD (2*j) [])with
  | none=>
   obtain⟨F,hw⟩:=hd.no (by omega) hf;rw[hw];exact⟨fun m hm=>(by cases hm),fun _=>⟨F,by simp[ab.aA]⟩⟩
  | some v=>
   obtain⟨F,hw⟩:=hd.yes (by omega) hf;rw[hw];simp only[oZ3,ab.aA,Bool.not_true];rw[if_neg (by simp),if_pos (aW (by omega) (by simp;omega)),aB (by omega)]
   obtain⟨i1,i2⟩:=rkeys hpath hl h (z0:=z0) (z1:=z1) (z2:=z2) (z3:=z3) (z4:=z4) (z5:=z5) (z6:=z6) (z7:=z7) (z8:=z8) (z9:=z9) (z10:=z10) (z11:=z11) k (j+1) (acc++[v]) (by omega) (by simp;omega);cases hs:seqO f (evens (l.drop (2*(j+1))))with
   | none=>exact⟨fun m hm=>(by cases hm),fun _=>i2 hs⟩
   | some m'=>
    refine⟨fun m hm=>?_,fun h=>(by cases h)⟩;have:m=v::m':=(by cases hm;rfl)
    grind
theorem BL {x : ae} {path : List Int} (hpath : path.length <= 900) {f : List UInt8 -> Option ab} {l : List (List UInt8)} (hl : l.length <= 90000) {L : Int} (h : ∀ q, q ∈ l -> ∀ step, RPart ts (f q) L path x.Elem q step)
 {z0 z2 z4 z5 z7 z9 z11:Int} {z1 z6 z8:Bool} {z3 z10:List UInt8} {ks:List ab}:∀(k j:Nat) (acc:List ab),2*(j+k)=l.length->acc.length=j->
 (∀m,seqO f (odds (l.drop (2*j)))=some m->gQ (L,path,l,(j:Int),ts,x,z0,z1,z2,z3,z4,z5,z6,z7,z8,z9,z10,z11,ks,acc)=some (.inr (z0,z1,z2,z3,z4,z5,z6,z7,z8,z9,z10,z11,ks,acc++m)))/\
 (seqO f (odds (l.drop (2*j)))=none->∃F,gQ (L,path,l,(j:Int),ts,x,z0,z1,z2,z3,z4,z5,z6,z7,z8,z9,z10,z11,ks,acc)=some (.inl ⟨vz,F,false⟩))
 | 0,j,acc,hi,ha=>by
  rw[gQ,mul2 (by omega),if_neg (by simp;omega),List.drop_eq_nil_of_le (by omega),show odds ([]:List (List UInt8))=[]from rfl,seqO]
  grind
 | k+1,j,acc,hi,ha=>by
  have hlt:2*j+1 < l.length:=by omega
  have hd:=h _ (aC hlt []) (j:Int);have e1:addI .i64 ((2*j:Nat):Int) 1=((2*j+1:Nat):Int):=aB (by omega);rw[gQ,mul2 (by omega),if_pos (by simp;omega),e1];simp only[oZ4,oZ3];rw[if_pos (au hlt),aw,xW hlt [],md,rto (by omega)];simp only[oZ3];cases hf:f (l.getD (2*j+1) [])with
  | none=>
   obtain⟨F,hw⟩:=hd.no (by omega) hf;rw[hw];exact⟨fun m hm=>(by cases hm),fun _=>⟨F,by simp[ab.aA]⟩⟩
  | some v=>
   obtain⟨F,hw⟩:=hd.yes (by omega) hf;rw[hw];simp only[oZ3,ab.aA,Bool.not_true];rw[if_neg (by simp),if_pos (aW (by omega) (by simp;omega)),aB (by omega)]
   obtain⟨i1,i2⟩:=BL hpath hl h (z0:=z0) (z1:=z1) (z2:=z2) (z3:=z3) (z4:=z4) (z5:=z5) (z6:=z6) (z7:=z7) (z8:=z8) (z9:=z9) (z10:=z10) (z11:=z11) (ks:=ks) k (j+1) (acc++[v]) (by omega) (by simp;omega);cases hs:seqO f (odds (l.drop (2*(j+1))))with
   | none=>exact⟨fun m hm=>(by cases hm),fun _=>i2 hs⟩
   | some m'=>
    refine⟨fun m hm=>?_,fun h=>(by cases h)⟩;have:m=v::m':=(by cases hm;rfl)
    grind
theorem rasc {x : ae} {path : List Int} (hp : path.length <= 1000) {l : List (List UInt8)} {ks : List ab} (hk : ∀ y, y ∈ ks -> I64 y.Int_) (hl : ks.length <= 90000) {L : Int}
 {z0 z2 z4 z5 z7 z9 z11:Int} {z1 z6 z8:Bool} {z3 z10:List UInt8}:∀(k i:Nat),ks.length - (i+1)=k->
 ((∀m,i<=m->m+1 < ks.length->vcmp (ks.getD m af) (ks.getD (m+1) af) < 0)/\fU (L,path,l,((i+1:Nat):Int),ts,x,z0,z1,z2,z3,z4,z5,z6,z7,z8,z9,z10,z11,ks)=some (.inr (L,path,l,ts,x,z0,z1,z2,z3,z4,z5,z6,z7,z8,z9,z10,z11,ks)))\/
 ((∃m,m+1 < ks.length/\¬vcmp (ks.getD m af) (ks.getD (m+1) af) < 0)/\∃F,fU (L,path,l,((i+1:Nat):Int),ts,x,z0,z1,z2,z3,z4,z5,z6,z7,z8,z9,z10,z11,ks)=some (.inl ⟨vz,F,false⟩))
 | 0,i,hi=>by
  rw[fU,if_neg (by simp;omega)]
  grind
 | k+1,i,hi=>by
  have hlt:i+1 < ks.length:=by omega
  have e1:subI .i64 ((i+1:Nat):Int) 1=(i:Int):=by rw[cz (by omega) (by omega)];omega
  rw[fU,if_pos (by simp;omega),e1];simp only[oZ4,oZ3];rw[if_pos (au (by omega)),if_pos (by simp;omega),if_pos (au hlt),if_pos (by simp;omega),aw,aw];simp only[ab.aA];rw[mm (hk _ (aC (by omega) af)) (hk _ (aC hlt af))];simp only[oZ3];by_cases hc:vcmp (ks.getD i af) (ks.getD (i+1) af) < 0
  . rw[if_neg (by simpa using hc),aB (by omega)];rcases rasc hp hk hl (x:=x) (l:=l) (L:=L) (z0:=z0) (z1:=z1) (z2:=z2) (z3:=z3) (z4:=z4) (z5:=z5) (z6:=z6) (z7:=z7) (z8:=z8) (z9:=z9) (z10:=z10) (z11:=z11) k (i+1) (by omega)with⟨h1,h2⟩ | h
    . grind
    grind
  . rw[if_pos (by simpa using hc),mB hp]
    grind
theorem NO {l : List aM} (id : Int) (hl : l.length <= 90000): (∃ j, j < l.length /\ l.find? (fun f => decide (f.ID = id)) = some (l.getD j bj) /\ kX (l, id) = some (j : Int)) \/
 (l.find? (fun f=>decide (f.ID=id))=none/\kX (l,id)=some (-1)):=by
 have h:=iL (fun i=>eU (l,id,(i:Int))) l.length (fun i=>decide ((l.getD i bj).ID=id)) (fun i=>.inl (i:Int)) (.inr ())
  (fun i hi=>by
   rw[eU,if_pos (by simp;omega),if_pos (au hi),aB (by omega)]
   grind)
  (by rw[eU,if_neg (by simp)])
 have e0:eU (l,id,((0:Nat):Int))=eU (l,id,0):=rfl;simp only[e0]at h;rw[kX];rcases h with⟨j,h1,h2,h3,h4⟩ | ⟨h1,h4⟩
 . left;refine⟨j,h1,?_,by rw[h4];rfl⟩;rw[ba h1]at h2 ⊢;rw[List.find?_eq_some_iff_getElem];refine⟨h2,j,h1,rfl,fun k hk=>?_⟩;have:=h3 k hk;rw[ba (by omega)]at this
   simpa using this
 . right;refine⟨?_,by rw[h4];rfl⟩;rw[List.find?_eq_none];intro f hf;obtain⟨i,hi,rfl⟩:=List.getElem_of_mem hf;have:=h1 i hi;rw[ba hi]at this
   simpa using this
theorem rrec0 {x : ae} {path : List Int} (hpath : path.length <= 900) {f : Int -> List UInt8 -> Option ab} {l : List aM} (hl : l.length <= 90000) (hM : x.Members.length <= 16) {L : Int}
 (h:∀m,m∈x.Members->∀q,q∈l->∀step,RPart ts (f m.Type_ q.Data) L path m.Type_ q.Data step)
 {z0 z2 z4 z5 z7 z9 z11:Int} {z1 z6 z8:Bool} {z3 z10:List UInt8}:∀(k i:Nat) (acc:List ab),i+k=x.Members.length->acc.length=i->
 (∀m,seqO (vmem f l) (x.Members.drop i)=some m->dk (L,path,l,(i:Int),ts,x,z0,z1,z2,z3,z4,z5,z6,z7,z8,z9,z10,z11,acc)=some (.inr (path,l,x,z0,z1,z2,z3,z4,z5,z6,z7,z8,z9,z10,z11,acc++m)))/\
 (seqO (vmem f l) (x.Members.drop i)=none->∃F,dk (L,path,l,(i:Int),ts,x,z0,z1,z2,z3,z4,z5,z6,z7,z8,z9,z10,z11,acc)=some (.inl ⟨vz,F,false⟩))
 | 0,i,acc,hi,ha=>by
  rw[dk,if_neg (by simp;omega),List.drop_eq_nil_of_le (by omega),seqO]
  grind
 | k+1,i,acc,hi,ha=>by
  have hlt:i < x.Members.length:=by omega
  have hmem:=aC hlt aj;have e:x.Members.drop i=x.Members.getD i aj::x.Members.drop (i+1):=by rw[ba hlt];exact List.drop_eq_getElem_cons hlt
  have go:∀v,(∀m',seqO (vmem f l) (x.Members.drop (i+1))=some m'->dk (L,path,l,((i+1:Nat):Int),ts,x,z0,z1,z2,z3,z4,z5,z6,z7,z8,z9,z10,z11,acc++[v])=some (.inr (path,l,x,z0,z1,z2,z3,z4,z5,z6,z7,z8,z9,z10,z11,acc++[v]++m')))/\(seqO (vmem f l) (x.Members.drop (i+1))=none->∃F,dk (L,path,l,((i+1:Nat):Int),ts,x,z0,z1,z2,z3,z4,z5,z6,z7,z8,z9,z10,z11,acc++[v])=some (.inl ⟨vz,F,false⟩)):=fun v=>
   rrec0 hpath hl hM h k (i+1) (acc++[v]) (by omega) (by simp;omega)
  rw [dk, if_pos (by simp; omega), if_pos (au hlt), aw, e, md];simp only [oZ4, oZ3];generalize x.Members.getD i aj = m0 at *;have fin : ∀ (v : ab) (X : Option _), vmem f l m0 = some v -> X = dk (L, path, l, ((i + 1 : Nat): Int), ts, x, z0, z1, z2, z3, z4, z5, z6, z7, z8, z9, z10, z11, acc ++ [v]) ->
   (∀m,consO (vmem f l m0) (seqO (vmem f l) (x.Members.drop (i+1)))=some m->X=some (.inr (path,l,x,z0,z1,z2,z3,z4,z5,z6,z7,z8,z9,z10,z11,acc++m)))/\
   (consO (vmem f l m0) (seqO (vmem f l) (x.Members.drop (i+1)))=none->∃F,X=some (.inl ⟨vz,F,false⟩)):=by
   intro v X hv hX;obtain⟨g1,g2⟩:=go v;rw[hv,hX];cases hs:seqO (vmem f l) (x.Members.drop (i+1))with
   | none=>exact⟨fun m hm=>(by cases hm),fun _=>g2 hs⟩
   | some m'=>
    refine⟨fun m hm=>?_,fun h=>(by cases h)⟩;have:m=v::m':=(by cases hm;rfl)
    grind
  rcases NO m0.ID hl with⟨j,j1,j2,j3⟩ | ⟨j2,j3⟩
  . rw[j3];simp only[oZ3];rw[if_neg (by simp),if_pos (au j1),aw,rto (by omega)];have hd:=h m0 hmem _ (aC j1 bj) m0.ID;have hvm:vmem f l m0=f m0.Type_ (l.getD j bj).Data:=by unfold vmem;rw[j2]
    simp only[oZ3];cases hv:f m0.Type_ (l.getD j bj).Data with
    | none=>
     obtain⟨F,hw⟩:=hd.no (by omega) hv;rw[hw,hvm,hv];exact⟨fun m hm=>(by cases hm),fun _=>⟨F,by simp[ab.aA]⟩⟩
    | some v=>
     obtain⟨F,hw⟩:=hd.yes (by omega) hv;rw[hw];simp only[oZ3,ab.aA,Bool.not_true];rw[if_neg (by simp),if_pos (aW (by omega) (by simp;omega)),aB (by omega)]
     grind
  . rw[j3];simp only[oZ3];rw[if_pos (by simp)];cases hdf:m0.HasDefault with
    | true=>
     rw[if_neg (by simp)];simp only[ab.aA];rw[if_pos (aW (by omega) (by simp;omega)),aB (by omega)];exact fin m0.Default _ (by unfold vmem;rw[j2];simp[hdf]) rfl
    | false=>
     have hvm:vmem f l m0=none:=by unfold vmem;rw[j2];simp[hdf]
     rw[if_pos (by simp),rto (by omega),hvm];simp only[oZ3];rw[mB (by simp;omega)];simp only[oZ3,ab.aA];exact⟨fun m hm=>(by cases hm),fun _=>⟨_,rfl⟩⟩
theorem rmemF{x:ae}(hM:x.Members.length<=1000)(id:Int):∃r,cj (x,id)=some r/\r.2=(findM x.Members id).isSome:=by
 obtain⟨r,r1,r2⟩:=qw (t:=x) (id:=id) (by omega);refine⟨r,r1,?_⟩;cases hF:findM x.Members id with
 | some m=>
  obtain⟨m1,m2⟩:=dS hF;rcases r2 with⟨j,j1,j2,_,rfl⟩ | ⟨q,_⟩
  . rfl
  . obtain⟨i,hi,rfl⟩:=List.getElem_of_mem m1
    grind
 | none=>
  rcases r2 with⟨j,j1,j2,_,_⟩ | ⟨_,q⟩
  . exact absurd j2 (du hF _ (aC j1 aj))
  grind
theorem rrec1 {x : ae} {path : List Int} (hpath : path.length <= 900) (hM : x.Members.length <= 1000) {l : List aM} (hl : l.length <= 90000)
 {z0 z2 z4 z5 z7 z9 z11:Int} {z1 z6 z8:Bool} {z3 z10:List UInt8} {its:List ab}:∀(k i:Nat) (acc:List aE),i+k=l.length->acc.length<=i->
 ((l.drop i).all (okU x)=true->eR (path,l,(i:Int),x,z0,z1,z2,z3,z4,z5,z6,z7,z8,z9,z10,z11,its,acc)=some (.inr (z0,z1,z2,z3,z4,z5,z6,z7,z8,z9,z10,z11,its,acc++restU x (l.drop i))))/\
 ((l.drop i).all (okU x)=false->∃F,eR (path,l,(i:Int),x,z0,z1,z2,z3,z4,z5,z6,z7,z8,z9,z10,z11,its,acc)=some (.inl ⟨vz,F,false⟩))
 | 0,i,acc,hi,ha=>by
  rw[eR,if_neg (by simp;omega),List.drop_eq_nil_of_le (by omega)];exact⟨fun _=>by simp[restU],fun h=>by simp at h⟩
 | k+1,i,acc,hi,ha=>by
  have hlt:i < l.length:=by omega
  have e:l.drop i=l.getD i bj::l.drop (i+1):=by rw[ba hlt];exact List.drop_eq_getElem_cons hlt
  obtain⟨r,r1,r2⟩:=rmemF hM (l.getD i bj).ID;rw[eR,if_pos (by simp;omega),if_pos (au hlt),aw,e];simp only[oZ4,oZ3];generalize l.getD i bj=f at*;rw[r1];simp only[oZ3];have hall:(f::l.drop (i+1)).all (okU x)=(okU x f && (l.drop (i+1)).all (okU x)):=rfl;rw[hall];cases hs:(findM x.Members f.ID).isSome with
  | true=>
   have ho:okU x f=true:=by unfold okU;rw[hs];rfl
   have hr:restU x (f::l.drop (i+1))=restU x (l.drop (i+1)):=by unfold restU;rw[List.filter_cons_of_neg (by rw[hs];simp)]
   rw[r2,hs,if_pos rfl,ho,hr,aB (by omega),Bool.true_and];exact rrec1 hpath hM hl k (i+1) acc (by omega) (by omega)
  | false=>
   rw[r2,hs,if_neg (by simp),if_pos (au hlt)];cases hc:f.Critical with
   | true=>
    have ho:okU x f=false:=by unfold okU;rw[hs,hc];rfl
    rw[if_pos rfl,if_pos (au hlt),rto (by omega),ho];simp only[oZ3];rw[mB (by simp;omega)];exact⟨fun h=>(by cases h),fun _=>⟨_,rfl⟩⟩
   | false=>
    have ho:okU x f=true:=by unfold okU;rw[hs,hc];rfl
    have hr:restU x (f::l.drop (i+1))=⟨f.ID,f.Data⟩::restU x (l.drop (i+1)):=by unfold restU;rw[List.filter_cons_of_pos (by rw[hs];rfl)];rfl
    rw[if_neg (by simp),if_pos (au hlt),if_pos (au hlt),if_pos (aW (by omega) (by simp;omega)),ho,hr,aB (by omega),Bool.true_and];have:=rrec1 hpath hM hl (z0:=z0) (z1:=z1) (z2:=z2) (z3:=z3) (z4:=z4) (z5:=z5) (z6:=z6) (z7:=z7) (z8:=z8) (z9:=z9) (z10:=z10) (z11:=z11) (its:=its) k (i+1) (acc++[⟨f.ID,f.Data⟩]) (by omega) (by simp;omega)
    grind
end
section
variable {ts:List ae}
def DecQ(ts:List ae)(n:Nat):Prop:=∀(t:Int) (p:List UInt8) (path:List Int),0<=t->t < ts.length->p.length<=4096->path.length+n<=200->
 ROut (vdec ts n t p) (ci ((⟨ts⟩:av),t,p,((201 - n:Nat):Int),path))
theorem DecQ.part {n : Nat} (ih : DecQ ts n) (hn : n + 1 <= 200) {t : Int} {q : List UInt8} {path : List Int} (t0 : 0 <= t /\ t < ts.length) (hq : q.length <= 4096) (hp : path.length + (n + 1) <= 200) (step : Int):
 RPart ts (vdec ts n t q) ((201 - (n+1):Nat):Int) path t q step:=by
 unfold RPart;rw[rto (by omega)];have e:addI .i64 ((201 - (n+1):Nat):Int) 1=((201 - n:Nat):Int):=by rw[aB (by omega)];omega
 rw[e];exact ih t q (path++[step]) t0.1 t0.2 hq (by simp;omega)
theorem ROut.cast{o o':Option ab}{X:Option aG}(e:o=o')(h:ROut o X):ROut o' X:=e▸h
theorem ROut.none'{X:Option aG}{F:bX}(h:X=some ⟨vz,F,false⟩):ROut none X:=⟨fun v h=>(by cases h),fun _=>⟨F,h⟩⟩
theorem ROut.some'{X:Option aG}{v:ab}{F:bX}(h:X=some ⟨v,F,true⟩):ROut (some v) X:=⟨fun v' h'=>(by cases h';exact⟨F,h⟩),fun h=>(by cases h)⟩
theorem NP (H : DcOk ts) {n : Nat} (hn : n + 1 <= 200) (ih : DecQ ts n) {x : ae} (hx : x ∈ ts) (k6 : x.Kind = 6) {p : List UInt8} (hp : p.length <= 4096) {path : List Int} (hpa : path.length + (n + 1) <= 200):
 ROut (vd6 (vdec ts n) x p) (nF ((⟨ts⟩:av),x,p,((201 - (n+1):Nat):Int),path)):=by
 obtain⟨o,_,o1,o2,o3⟩:=sx p;rw[nF,o1];simp only[oZ4,oZ3];unfold vd6;by_cases h0:o.2.2=0
 . obtain⟨v1,v2,v3⟩:=o2 h0;obtain⟨hA1,hA2⟩:=H.S.A x hx (.inr k6);rw[if_neg (by simp[h0]),v1];dsimp only;obtain⟨r,r1,r2⟩:=qw (t:=x) (id:=o.1) (by omega);rw[r1];simp only[oZ3];cases hF:findM x.Members o.1 with
   | some m=>
    dsimp only;obtain⟨m1,m2⟩:=dS hF;rcases r2 with⟨j,j1,j2,_,rfl⟩ | ⟨q,_⟩
    . have j3:x.Members.getD j aj=m:=pu hA1 (aC j1 aj) m1 (by rw[j2,m2]);rw[if_neg (by simp),if_neg (by simp),if_pos (au j1),aw,j3];have hd:=ih.part hn (t:=m.Type_) (q:=o.2.1) (path:=path) (H.mem hx m1) (by omega) hpa o.1;rw[rto (by omega)];simp only[oZ3];cases hv:vdec ts n m.Type_ o.2.1 with
      | none=>
       obtain⟨F,hw⟩:=hd.no (by omega) hv;rw[hw];exact .none' rfl
      | some v=>
       obtain⟨F,hw⟩:=hd.yes (by omega) hv;rw[hw];simp only[oZ3];rw[if_neg (by simp),rseen];refine ROut.cast rfl (ROut.some' (F:=⟨[],0⟩) ?_);simp[ab.aA,k6]
    . obtain⟨i,hi,rfl⟩:=List.getElem_of_mem m1;exact absurd m2 (by have:=q i hi;rwa [ba hi]at this)
   | none=>
    dsimp only;have hr:r=(0,false):=by
     rcases r2 with⟨j,j1,j2,_,_⟩ | ⟨_,q⟩
     . exact absurd j2 (du hF _ (aC j1 aj))
     . exact q
    rw[hr];cases hO:x.Open with
    | false=>
     rw[if_neg (by simp),if_pos (by simp)];exact cf (by omega) _
    | true=>
     rw[if_pos (by simp),if_neg (by simp),if_pos (by simp),rseen,k6];refine ROut.some' (F:=⟨[],0⟩) ?_;simp[ab.aA]
 . rw[if_pos (by simp[h0]),o3 h0];exact cf (by omega) _
theorem NQ (H : DcOk ts) {n : Nat} (hn : n + 1 <= 200) (ih : DecQ ts n) {x : ae} (hx : x ∈ ts) (k7 : x.Kind = 7) {p : List UInt8} (hp : p.length <= 4096) {path : List Int} (hpa : path.length + (n + 1) <= 200):
 ROut (vd7 (vdec ts n) x p) (nH ((⟨ts⟩:av),x,p,((201 - (n+1):Nat):Int),path)):=by
 obtain⟨o,_,o1,o2,o3⟩:=gy (p:=p) (by omega);rw[nH,o1];unfold vd7;simp only[oZ4,oZ3];by_cases h0:o.2=0
 . obtain⟨v1,v2,v3⟩:=o2 h0;rw[v1];dsimp only;by_cases hm:(o.1.length:Int)<=x.Max
   . rw[if_pos hm,if_neg (by simp[h0]),if_neg (by simp;omega)];obtain⟨A1,A2⟩:=rlist (ts:=ts) (x:=x) (path:=path) (by omega) (f:=vdec ts n x.Elem) (l:=o.1) (by omega) (L:=((201 - (n+1):Nat):Int)) (fun q hq step=>ih.part hn (H.elem hx (by omega)) (by have:=v2 q hq;omega) hpa step)
      (z0:=0) (z1:=false) (z2:=0) (z3:=[]) (z4:=0) (z5:=0) (z6:=false) (z7:=x.Kind) (z8:=false) (z9:=0) (z10:=[]) (z11:=0) o.1.length 0 [] (by omega) rfl
     rw[List.drop_zero]at A1 A2;have z0:((0:Nat):Int)=0:=rfl;rw[z0]at A1 A2;cases hs:seqO (vdec ts n x.Elem) o.1 with
     | none=>
      obtain⟨F,hw⟩:=A2 hs;rw[hw];exact .none' rfl
     | some is=>
      rw[A1 is hs];simp only[oZ3];rw[rseen];refine ROut.cast rfl (ROut.some' (F:=⟨[],0⟩) ?_);simp[ab.aA,k7]
   . rw[if_neg hm,if_neg (by simp[h0]),if_pos (by simp;omega)];exact cf (by omega) _
 . rw[if_pos (by simp[h0]),o3 h0];exact cf (by omega) _
theorem rdict (H : DcOk ts) {n : Nat} (hn : n + 1 <= 200) (ih : DecQ ts n) {x : ae} (hx : x ∈ ts) (k8 : x.Kind = 8) {p : List UInt8} (hp : p.length <= 4096) {path : List Int} (hpa : path.length + (n + 1) <= 200):
 ROut (vd8 (vdec ts n) x p) (nn ((⟨ts⟩:av),x,p,((201 - (n+1):Nat):Int),path)):=by
 obtain⟨o,_,o1,o2,o3⟩:=gy (p:=p) (by omega);rw[nn,o1];unfold vd8;simp only[oZ4,oZ3];by_cases h0:o.2=0
 . obtain⟨v1,v2,v3⟩:=o2 h0;rw[v1];dsimp only;have hrem:remI (o.1.length:Int) 2=((o.1.length % 2:Nat):Int):=by rw[cn (by omega) (by omega)];omega
   rw[hrem,quo2 (by omega)];by_cases he:o.1.length % 2=0
   . by_cases hm:((o.1.length / 2:Nat):Int)<=x.Max
     . rw[if_pos (show o.1.length % 2=0/\((o.1.length / 2:Nat):Int)<=x.Max from⟨he,hm⟩),if_neg (show ¬(bif !decide (o.2=0)then true else decide (((o.1.length % 2:Nat):Int)=1))=true by rw[he,h0];simp),if_neg (show ¬decide (x.Max < ((o.1.length / 2:Nat):Int))=true by simp only[decide_eq_true_eq];omega)];have z0:((0:Nat):Int)=0:=rfl
       obtain⟨A1,A2⟩:=rkeys (ts:=ts) (x:=x) (path:=path) (by omega) (f:=vdec ts n x.Key) (l:=o.1) (by omega) (L:=((201 - (n+1):Nat):Int)) (fun q hq step=>ih.part hn (H.key hx k8) (by have:=v2 q hq;omega) hpa step)
        (z0:=0) (z1:=false) (z2:=0) (z3:=[]) (z4:=0) (z5:=0) (z6:=false) (z7:=x.Kind) (z8:=false) (z9:=0) (z10:=[]) (z11:=0) (o.1.length / 2) 0 [] (by omega) rfl
       rw[Nat.mul_zero,List.drop_zero,z0]at A1 A2;cases hs:seqO (vdec ts n x.Key) (evens o.1)with
       | none=>
        obtain⟨F,hw⟩:=A2 hs;rw[hw];exact .none' rfl
       | some ks=>
        have hkl:=dw hs;have hel:=rY o.1;rw[A1 ks hs];simp only[oZ3,List.nil_append];have hki:∀y,y∈ks->I64 y.Int_:=fun y hy=>by
         obtain⟨a,_,a2⟩:=jS hs y hy;exact yZ a2
        have one:((0+1:Nat):Int)=1:=rfl;rcases rasc (ts:=ts) (x:=x) (path:=path) (by omega) (l:=o.1) (ks:=ks) hki (by omega) (L:=((201 - (n+1):Nat):Int))
         (z0:=0) (z1:=false) (z2:=0) (z3:=[]) (z4:=0) (z5:=0) (z6:=false) (z7:=x.Kind) (z8:=false) (z9:=0) (z10:=[]) (z11:=0) (ks.length - (0+1)) 0 rfl with⟨h1,h2⟩ | ⟨⟨m,m1,m2⟩,F,h2⟩
        . have ha:ascB ks=true:=jQ.2 fun i hi=>h1 i (by omega) hi
          rw[one]at h2;rw[h2,if_pos ha];simp only[oZ3];obtain⟨B1,B2⟩:=BL (ts:=ts) (x:=x) (path:=path) (by omega) (f:=vdec ts n x.Elem) (l:=o.1) (by omega) (L:=((201 - (n+1):Nat):Int)) (fun q hq step=>ih.part hn (H.elem hx (by omega)) (by have:=v2 q hq;omega) hpa step)
           (z0:=0) (z1:=false) (z2:=0) (z3:=[]) (z4:=0) (z5:=0) (z6:=false) (z7:=x.Kind) (z8:=false) (z9:=0) (z10:=[]) (z11:=0) (ks:=ks) (o.1.length / 2) 0 [] (by omega) rfl
          rw[Nat.mul_zero,List.drop_zero,z0]at B1 B2;cases hs2:seqO (vdec ts n x.Elem) (odds o.1)with
          | none=>
           obtain⟨F,hw⟩:=B2 hs2;rw[hw];exact .none' rfl
          | some is=>
           rw[B1 is hs2];simp only[oZ3];rw[rseen];refine ROut.cast rfl (ROut.some' (F:=⟨[],0⟩) ?_);simp[ab.aA,k8]
        . have ha:¬ascB ks=true:=fun h=>m2 (jQ.1 h m m1)
          rw[one]at h2;rw[h2,if_neg ha];exact .none' rfl
     . rw[if_neg (show ¬(o.1.length % 2=0/\((o.1.length / 2:Nat):Int)<=x.Max)from fun h=>hm h.2),if_neg (show ¬(bif !decide (o.2=0)then true else decide (((o.1.length % 2:Nat):Int)=1))=true by rw[he,h0];simp),if_pos (show decide (x.Max < ((o.1.length / 2:Nat):Int))=true by simp only[decide_eq_true_eq];omega)];exact cf (by omega) _
   . have h1:o.1.length % 2=1:=by omega
     rw[if_neg (show ¬(o.1.length % 2=0/\((o.1.length / 2:Nat):Int)<=x.Max)from fun h=>he h.1),if_pos (show(bif !decide (o.2=0)then true else decide (((o.1.length % 2:Nat):Int)=1))=true by rw[h1,h0];simp)];exact cf (by omega) _
 . rw[o3 h0,if_pos (by simp[h0])];exact cf (by omega) _
theorem Lr (H : DcOk ts) {n : Nat} (hn : n + 1 <= 200) (ih : DecQ ts n) {x : ae} (hx : x ∈ ts) (k5 : x.Kind = 5) {p : List UInt8} (hp : p.length <= 4096) {path : List Int} (hpa : path.length + (n + 1) <= 200):
 ROut (vd5 (vdec ts n) x p) (nA ((⟨ts⟩:av),x,p,((201 - (n+1):Nat):Int),path)):=by
 obtain⟨hA1,hA2⟩:=H.S.A x hx (.inl k5);obtain⟨o,_,o1,o2,o3⟩:=oz (p:=p) (by omega);rw[nA,o1];unfold vd5;simp only[oZ4,oZ3];by_cases h0:o.2=0
 . obtain⟨v1,v2,v3,v4⟩:=o2 h0;rw[if_neg (by simp[h0]),v1];dsimp only;obtain⟨A1,A2⟩:=rrec0 (ts:=ts) (x:=x) (path:=path) (by omega) (f:=vdec ts n) (l:=o.1) (by omega) (by omega) (L:=((201 - (n+1):Nat):Int)) (fun m hm q hq step=>ih.part hn (H.mem hx hm) (by have:=(v2 q hq).1;omega) hpa step)
    (z0:=0) (z1:=false) (z2:=0) (z3:=[]) (z4:=0) (z5:=0) (z6:=false) (z7:=x.Kind) (z8:=false) (z9:=0) (z10:=[]) (z11:=0) x.Members.length 0 [] (by omega) rfl
   have z0:((0:Nat):Int)=0:=rfl;rw[List.drop_zero,z0]at A1 A2;have B:=fun its=>rrec1 (x:=x) (path:=path) (by omega) (by omega) (l:=o.1) (by omega) (z0:=0) (z1:=false) (z2:=0) (z3:=[]) (z4:=0) (z5:=0) (z6:=false) (z7:=x.Kind) (z8:=false) (z9:=0) (z10:=[]) (z11:=0) (its:=its) o.1.length 0 [] (by omega) (Nat.le_refl _)
   rw[List.drop_zero,z0]at B;cases hs:seqO (vmem (vdec ts n) o.1) x.Members with
   | none=>
    obtain⟨F,hw⟩:=A2 hs;rw[hw];exact .none' rfl
   | some is=>
    rw[A1 is hs];simp only[oZ3,List.nil_append];cases ha:o.1.all (okU x)with
    | true=>
     rw[(B is).1 ha,if_pos rfl];simp only[oZ3];rw[rseen];refine ROut.cast rfl (ROut.some' (F:=⟨[],0⟩) ?_);simp[ab.aA,k5]
    | false=>
     obtain⟨F,hw⟩:=(B is).2 ha;rw[hw,if_neg (by simp)];exact .none' rfl
 . rw[if_pos (by simp[h0]),o3 h0];exact cf (by omega) _
theorem IL (H : DcOk ts) {n : Nat} (hn : n + 1 <= 200) (ih : DecQ ts n): DecQ ts (n + 1):= fun t p path t0 t1 hp hpa => by
 obtain⟨j,rfl⟩:=Int.eq_ofNat_of_zero_le t0;have hj:j < ts.length:=by omega
 have hlv:¬(200:Int) < ((201 - (n+1):Nat):Int):=by omega
 rw[ci,if_pos (au hj),o6,aw];have hx:=aC hj ag;generalize ts.getD j ag=x at*;obtain⟨K1,K9⟩:=H.S.K x hx;have hs7:x.Symbols.length < 9223372036854775807:=aS (bY (H.S.T x hx).1);unfold vdK;obtain⟨u,_,u2,u3,u4⟩:=wL p;have hnum:kP p=some (u.1,decide (u.2=0)):=by rw[kP,u2];rfl
 by_cases k1:x.Kind=1
 . simp only[k1,hlv,decide_eq_true_eq,↓reduceIte,Int.reduceEq,decide_false,cond_false,Bool.false_eq_true,oZ4,oZ3];unfold vd1;by_cases h0:p=[]
   . rw[if_pos h0,if_neg (by simp[h0])];simp only[h0,decide_true,Bool.not_true];exact .one _
   . by_cases h1:p=[1]
     . rw[if_neg h0,if_pos h1,if_neg (by simp[h1])];simp only[h0,decide_false,Bool.not_false];exact .one _
     . rw[if_neg h0,if_neg h1,if_pos (by simp[h0,h1])];exact cf (by omega) _
 by_cases k2:x.Kind=2
 . simp only[k2,hlv,decide_eq_true_eq,↓reduceIte,Int.reduceEq,decide_false,cond_false,Bool.false_eq_true,oZ4,oZ3,hnum];unfold vd2;by_cases h0:u.2=0
   . obtain⟨m,m1,m2⟩:=u3 h0;rw[m1,m2,NL (pT m1),if_neg (by simp[h0])];simp only[oZ3];by_cases hr:x.Low<=unz m/\unz m<=x.High
     . rw[if_pos hr,if_neg (by simp;omega)];exact .one _
     . rw[if_neg hr,if_pos (by simp;omega)];exact cf (by omega) _
   . rw[u4 h0,if_pos (by simp[h0])];exact cf (by omega) _
 by_cases k3:x.Kind=3
 . simp only[k3,hlv,decide_eq_true_eq,↓reduceIte,Int.reduceEq,decide_false,cond_false,Bool.false_eq_true,oZ4,oZ3];unfold vd3;by_cases hr:(p.length:Int)<=x.Max
   . rw[if_pos hr,if_neg (by omega)];exact .one _
   . rw[if_neg hr,if_pos (by omega)];exact cf (by omega) _
 by_cases k4:x.Kind=4
 . simp only[k4,hlv,decide_eq_true_eq,↓reduceIte,Int.reduceEq,decide_false,cond_false,Bool.false_eq_true,oZ4,oZ3,hnum];unfold vd4;by_cases h0:u.2=0
   . obtain⟨m,m1,m2⟩:=u3 h0;rw[m1,m2];dsimp only;by_cases hr:1<=m/\m<=1000
     . obtain⟨q,_,q1,q3⟩:=oy (t:=x) (m:Int) hs7;have e:wrp .i64 (m:Int)=(m:Int):=wrp64 (by omega) (by omega);rw[if_neg (show ¬(bif bif !decide (u.2=0)then true else decide ((m:Int) < 1)then true else decide (1000 < (m:Int)))=true by simp[h0];omega),e,q1];simp only[oZ3]
       have hq:q.2=(x.Symbols.any fun y=>decide (y.ID=(m:Int))):=by
        have:=(rB q3).trans Ab
        grind
       rw[hq];by_cases hb:((x.Symbols.any fun y=>decide (y.ID=(m:Int))) || x.Open)=true
       . rw[if_pos (show 1<=m/\m<=1000/\((x.Symbols.any fun y=>decide (y.ID=(m:Int))) || x.Open)=true from⟨hr.1,hr.2,hb⟩),if_neg]
         . exact .one _
         grind
       . rw[if_neg (show ¬(1<=m/\m<=1000/\((x.Symbols.any fun y=>decide (y.ID=(m:Int))) || x.Open)=true)from fun h=>hb h.2.2),if_pos]
         . exact cf (by omega) _
         grind
     . rw[if_neg (show ¬(1<=m/\m<=1000/\((x.Symbols.any fun y=>decide (y.ID=(m:Int))) || x.Open)=true)from fun h=>hr ⟨h.1,h.2.1⟩),if_pos (by simp[h0];omega)];exact cf (by omega) _
   . rw[u4 h0,if_pos (by simp[h0])];exact cf (by omega) _
 by_cases k9:x.Kind=9
 . obtain⟨e1,e2⟩:=H.elem hx (by omega);simp only[k9,hlv,decide_eq_true_eq,↓reduceIte,Int.reduceEq,decide_false,decide_true,cond_false,cond_true,Bool.false_eq_true,oZ4,oZ3];cases p with
   | nil=>
    rw[if_neg (by simp),vd9];exact .one _
   | cons c q=>
    have i0:inR 0 (c::q).length=true:=au (k:=0) (by simp);have b0:bf (c::q) 0=(c.toNat:Int):=rfl;have s0:slR 1 ((c::q).length:Int) (c::q).length=true:=cU.2 (by simp <;> omega);have c0:cutL (c::q) 1 ((c::q).length:Int)=q:=by
     unfold cutL;simp
    rw[if_pos (by simp),if_pos i0,b0,vd9];by_cases hc:c=1
    . subst hc;rw[if_pos rfl,if_neg (by simp),if_pos s0,c0];have hd:=ih.part hn (t:=x.Elem) (q:=q) (path:=path) ⟨e1,e2⟩ (by simp at hp;omega) hpa 0;rw[rto (by omega)];simp only[oZ3];cases hv:vdec ts n x.Elem q with
      | none=>
       obtain⟨F,hw⟩:=hd.no (by omega) hv;rw[hw];exact .none' rfl
      | some v=>
       obtain⟨F,hw⟩:=hd.yes (by omega) hv;rw[hw];simp only[oZ3];rw[if_neg (by simp),rseen];refine ROut.cast rfl (ROut.some' (F:=⟨[],0⟩) ?_);simp[ab.aA]
    . have hc':¬((c.toNat:Int)=1):=fun h=>hc (UInt8.toNat.inj (by show c.toNat=1;omega))
      rw[if_neg hc,if_pos (by simpa using hc')];exact cf (by omega) _
 by_cases k6:x.Kind=6
 . have:=(NP H hn ih hx k6 hp (path:=path) hpa).eta;simp only[k6,hlv,decide_eq_true_eq,↓reduceIte,Int.reduceEq,decide_false,cond_false,Bool.false_eq_true,oZ4,oZ3];exact this
 by_cases k7:x.Kind=7
 . have:=(NQ H hn ih hx k7 hp (path:=path) hpa).eta;simp only[k7,hlv,decide_eq_true_eq,↓reduceIte,Int.reduceEq,decide_false,cond_false,Bool.false_eq_true,oZ4,oZ3];exact this
 by_cases k8:x.Kind=8
 . have:=(rdict H hn ih hx k8 hp (path:=path) hpa).eta;simp only[k8,hlv,decide_eq_true_eq,↓reduceIte,Int.reduceEq,decide_false,cond_false,Bool.false_eq_true,oZ4,oZ3];exact this
 have k5:x.Kind=5:=by omega
 have:=(Lr H hn ih hx k5 hp (path:=path) hpa).eta;simp only[k5,hlv,decide_eq_true_eq,↓reduceIte,Int.reduceEq,decide_false,cond_false,Bool.false_eq_true,oZ4,oZ3];exact this
theorem y5(H:DcOk ts):∀n,n<=200->DecQ ts n
 | 0,_=>fun t p path t0 t1 hp hpa=>by
  obtain⟨j,rfl⟩:=Int.eq_ofNat_of_zero_le t0;have hj:j < ts.length:=by omega
  rw[ci,if_pos (au hj)];simp only[oZ4,oZ3];rw[if_pos (by simp),rZ];exact cf (by omega) _
 | n+1,hn=>IL H hn (y5 H n (by omega))
end
theorem Ls(n:Nat):(zig (unz n)).toNat=n:=by
 unfold unz zig;omega
theorem Ad :∀(k:Nat) (s:List UInt8),s.length=k->s.head?≠some 0->vbig (fb 0 s)=s
 | 0,s,hk,h=>by
  have:s=[]:=List.eq_nil_of_length_eq_zero hk;subst this;rw[fb,vbig,if_pos rfl]
 | k+1,s,hk,h=>by
  have hne:s≠[]:=fun h0=>by rw[h0]at hk;cases hk
  have es:=List.dropLast_concat_getLast hne;generalize s.getLast hne=b at es;have hl:s.dropLast.length=k:=by simp[hk]
  generalize s.dropLast=s' at es hl;subst es;have hb:b.toNat < 256:=UInt8.toNat_lt b;rw[sR];by_cases h0:s'=[]
  . subst h0;have hb0:b≠0:=fun e=>h (by rw[e];rfl)
    have:b.toNat≠0:=fun e=>hb0 (UInt8.toNat.inj e)
    show vbig (0*256+b.toNat)=[b];rw[vbig,if_neg (by omega),show(0*256+b.toNat) / 256=0 by omega,vbig,if_pos rfl,show(0*256+b.toNat) % 256=b.toNat by omega];simp
  . have ih:=Ad k s' hl (fun e=>h (by cases s' with | nil=>exact absurd rfl h0 | cons a l=>simpa using e));have hm:fb 0 s'≠0:=fun e=>by rw[e,vbig,if_pos rfl]at ih;exact h0 ih.symm
    rw[vbig,if_neg (by omega),show(fb 0 s'*256+b.toNat) / 256=fb 0 s' by omega,ih,show(fb 0 s'*256+b.toNat) % 256=b.toNat by omega];simp
theorem y6{s:List UInt8}{n:Nat}(h:vub s=some n):vbig n=s:=by
 unfold vub at h;split at h
 . cases h
 . rename_i hh;cases h;exact Ad _ s rfl (fun e=>hh (.inl e))
theorem BM(s:List UInt8):∀(f i n m k:Nat),vg s f i n=((m:Int),(k:Int),0)->∃q,m=n+q*2 ^ (7*i)/\s.drop i=vput q++s.drop k/\(0 < i->0 < q)
 | 0,i,n,m,k,h=>by rw[vg]at h;simp at h
 | f+1,i,n,m,k,h=>by
  rw[vg]at h;split at h
  . rename_i hi;have ed:s.drop i=s.getD i 0::s.drop (i+1):=by rw[ba hi];exact List.drop_eq_getElem_cons hi
    have hb:(s.getD i 0).toNat < 256:=UInt8.toNat_lt _;generalize s.getD i 0=c at*;split at h
    . simp at h
    . split at h
      . rename_i h128;obtain⟨q,q1,q2,q3⟩:=BM s f (i+1) _ m k h;have hq:=q3 (by omega);refine⟨c.toNat % 128+128*q,?_,?_,fun _=>by omega⟩
        . grind
        . rw[jO (by omega),show(c.toNat % 128+128*q) / 128=q by omega,show(c.toNat % 128+128*q) % 128+128=c.toNat by omega,ed,q2];simp
      . rename_i h128;split at h
        . simp at h
        . rename_i h0;simp only[Prod.mk.injEq,and_true]at h;have hm:m=n+c.toNat*2 ^ (7*i):=by have:=h.1;exact_mod_cast this.symm
          have hk:k=i+1:=by have:=h.2;exact_mod_cast this.symm
          refine⟨c.toNat,hm,?_,fun hi0=>?_⟩
          . rw[jC (by omega),ed,hk];simp
          omega
  . simp at h
theorem sT{s:List UInt8}{m k:Nat}(h:vg s 10 0 0=((m:Int),(k:Int),0)):s=vput m++s.drop k:=by
 obtain⟨q,q1,q2,_⟩:=BM s 10 0 0 m k h
 grind
theorem xY{s a b:List UInt8}(h:vpart s=some (a,b)):s=aO a++b:=by
 unfold vpart at h;rcases vg0 s with⟨e,he,hv⟩ | ⟨m,k,hv,hk0,hk,hm⟩
 . grind
 . have e0:=sT hv;rw[hv]at h;dsimp only at h;split at h
   . rename_i hc;simp only[Option.some.injEq,Prod.mk.injEq]at h;obtain⟨h1,h2⟩:=h;have hlen:a.length=m:=by
      rw[<-h1,List.length_take,List.length_drop];omega
     unfold aO;rw[hlen,List.append_assoc,<-h1,<-h2,List.take_append_drop]
     simpa using e0
   . cases h
theorem xZ :∀(n:Nat) (s:List UInt8) (b l:List (List UInt8)),s.length<=n->s.length+b.length<=100000->bP (s,b)=some (.inr l)->∃l',l=b++l'/\l'.flatMap aO=s
 | n,s,b,l,hn,hb,h=>by
  rw[bP]at h;by_cases h0:s=[]
  . simp_all
  . rw[if_pos (by simp[h0]),dY (by omega)]at h;simp only[oZ4,oZ3]at h;cases hv:vpart s with
    | none=>
     rw[hv]at h;simp[encP]at h
    | some r=>
     obtain⟨x,rest⟩:=r;rw[hv]at h;have hl:=gD hv;have hnn:¬((!(encP (some (x,rest))).2.2)=true):=by simp[encP]
     have hr:room 16 (b++[(encP (some (x,rest))).1]).length=true:=aW (by omega) (by simp;omega);rw[if_neg hnn,if_pos hr]at h
     match n,hn with
     | 0,hn=>omega
     | n+1,hn=>
      obtain⟨l',e1,e2⟩:=xZ n rest _ l (by omega) (by simp;omega) h;refine⟨x::l',by rw[e1];simp[encP],?_⟩;rw[List.flatMap_cons,e2];exact(xY hv).symm
theorem x2 :∀(n:Nat) (s:List UInt8) (b:List (List UInt8)),s.length<=n->s.length+b.length<=100000->bP (s,b)=some (.inl 0)->False
 | n,s,b,hn,hb,h=>by
  rw[bP]at h;by_cases h0:s=[]
  . grind
  . rw[if_pos (by simp[h0]),dY (by omega)]at h;simp only[oZ4,oZ3]at h;cases hv:vpart s with
    | none=>
     rw[hv]at h;simp[encP]at h
    | some r=>
     obtain⟨x,rest⟩:=r;rw[hv]at h;have hl:=gD hv;have hnn:¬((!(encP (some (x,rest))).2.2)=true):=by simp[encP]
     have hr:room 16 (b++[(encP (some (x,rest))).1]).length=true:=aW (by omega) (by simp;omega);rw[if_neg hnn,if_pos hr]at h
     match n,hn with
     | 0,hn=>omega
     | n+1,hn=>exact x2 n rest _ (by omega) (by simp;omega) h
theorem wO :∀(n:Nat) (s:List UInt8) (last:Nat) (b:List aM),s.length<=n->s.length+b.length<=100000->bq ((last:Int),s,b)=some (.inl 0)->False
 | n,s,last,b,hn,hb,h=>by
  rw[bq]at h;by_cases h0:s=[]
  . grind
  . rw[if_pos (by simp[h0])]at h;rcases vg0 s with⟨e,he,hg⟩ | ⟨m,k,hg,hk0,hk,hm⟩
    . rw[gH he hg]at h;simp at h
    . rw[dX hg hk]at h;simp only[oZ4,oZ3,quoI2 hm]at h;split at h
      . cases h
      . rw[dY (by rw[List.length_drop];omega)]at h;simp only[oZ3]at h;cases hv:vpart (s.drop k)with
        | none=>
         rw[hv]at h;simp[encP]at h
        | some r=>
         obtain⟨x,rest⟩:=r;rw[hv]at h;have hl:=gD hv;rw[List.length_drop]at hl;have hnn:¬((!(encP (some (x,rest))).2.2)=true):=by simp[encP]
         rw[if_neg hnn]at h;split at h
         . match n,hn with
           | 0,hn=>omega
           | n+1,hn=>exact wO n rest (m / 2) _ (by omega) (by simp;omega) h
         . cases h
theorem pU{p:List UInt8}(hp:p.length<=90000){l:List (List UInt8)}(h:vI p=some l):l.flatMap aO=p:=by
 unfold vI at h;rw[dO]at h;cases hi:bP (p,[])with
 | none=>rw[hi]at h;simp at h
 | some o=>
  rw[hi]at h;cases o with
  | inl e=>
   by_cases he:e=0
   . simp[he]at h
     exfalso
     obtain⟨o',a1,_,_⟩:=sk p.length p [] (by omega) (by simp;omega);exact x2 p.length p [] (by omega) (by simp;omega) (by rw[hi,he])
   grind
  | inr l2=>
   have e:l2=l:=by simpa using h
   obtain⟨l',e1,e2⟩:=xZ p.length p [] l2 (by omega) (by simp;omega) hi
   grind
def fText(f:aM):List UInt8:=bn f.ID.toNat f.Critical f.Data
theorem wP : ∀ (n : Nat) (s : List UInt8) (last : Nat) (b l : List aM), s.length <= n -> s.length + b.length <= 100000 -> bq ((last : Int), s, b) = some (.inr l) ->
 ∃l',l=b++l'/\l'.flatMap fText=s
 | n,s,last,b,l,hn,hb,h=>by
  rw[bq]at h;by_cases h0:s=[]
  . simp_all
  . rw[if_pos (by simp[h0])]at h;rcases vg0 s with⟨e,he,hg⟩ | ⟨m,k,hg,hk0,hk,hm⟩
    . rw[gH he hg]at h;simp at h
    . have es:=sT hg;rw[dX hg hk]at h;simp only[oZ4,oZ3,quoI2 hm]at h;by_cases hc:((m / 2:Nat):Int)<=(last:Int)\/1000 < ((m / 2:Nat):Int)
      . grind
      . have:¬((bif bif (!true)then true else decide (((m / 2:Nat):Int)<=(last:Int))then true else decide (1000 < ((m / 2:Nat):Int)))=true):=by grind
        rw[if_neg this,dY (by rw[List.length_drop];omega)]at h;simp only[oZ3]at h;cases hv:vpart (s.drop k)with
        | none=>
         rw[hv]at h;simp[encP]at h
        | some r=>
         obtain⟨x,rest⟩:=r;rw[hv]at h;have hl:=gD hv;have ex:=xY hv;rw[List.length_drop]at hl;have hnn:¬((!(encP (some (x,rest))).2.2)=true):=by simp[encP]
         have hw:wrp .i64 ((m / 2:Nat):Int)=((m / 2:Nat):Int):=wrp64 (by omega) (by omega);rw[if_neg hnn,hw]at h;have hr:room 32 (b++[(⟨((m / 2:Nat):Int),decide (remI (m:Int) 2=1),(encP (some (x,rest))).1⟩:aM)]).length=true:=aW (by omega) (by simp;omega);rw[if_pos hr]at h
         match n,hn with
         | 0,hn=>omega
         | n+1,hn=>
          obtain⟨l',e1,e2⟩:=wP n rest (m / 2) _ l (by omega) (by simp;omega) h;refine⟨⟨((m / 2:Nat):Int),decide (remI (m:Int) 2=1),x⟩::l',by rw[e1];simp[encP],?_⟩;rw[List.flatMap_cons,e2];unfold fText bn;have hm2:2*(((m / 2:Nat):Int)).toNat+(if decide (remI (m:Int) 2=1)=true then 1 else 0)=m:=by
           rw[cn (by omega) (by omega)]
           grind
          grind
theorem Ae{p:List UInt8}(hp:p.length<=90000){l:List aM}(h:vFl p=some l):l.flatMap fText=p:=by
 unfold vFl at h;rw[fk]at h;have e0:bq (0,p,[])=bq (((0:Nat):Int),p,[]):=rfl;rw[e0]at h;cases hi:bq (((0:Nat):Int),p,[])with
 | none=>rw[hi]at h;simp at h
 | some o=>
  rw[hi]at h;cases o with
  | inl e=>
   by_cases he:e=0
   . exfalso
     exact wO p.length p 0 [] (by omega) (by simp;omega) (by rw[hi,he])
   grind
  | inr l2=>
   have e:l2=l:=by simpa using h
   obtain⟨l',e1,e2⟩:=wP p.length p 0 [] l2 (by omega) (by simp;omega) hi
   grind
theorem BN{p:List UInt8}{id:Int}{q:List UInt8}(h:vA p=some (id,q)):p=vput id.toNat++q:=by
 unfold vA at h;rw[ft]at h;rcases vg0 p with⟨e,he,hg⟩ | ⟨m,k,hg,hk0,hk,hm⟩
 . rw[gH he hg]at h;simp at h
 . have es:=sT hg;rw[dX hg hk]at h;simp only[oZ4,oZ3]at h;by_cases hc:(m:Int) < 1\/1000 < (m:Int)
   . grind
   . have:¬((bif bif (!true)then true else decide ((m:Int) < 1)then true else decide (1000 < (m:Int)))=true):=by grind
     have hw:wrp .i64 (m:Int)=(m:Int):=wrp64 (by omega) (by omega);rw[if_neg this,hw]at h;simp only[if_true,Option.some.injEq,Prod.mk.injEq]at h;rw[<-h.1,<-h.2]
     simpa using es
theorem y7{α β:Type}{f:α->Option β}(d1:α)(d2:β):∀{l:List α} {m:List β},seqO f l=some m->∀i,i < l.length->f (l.getD i d1)=some (m.getD i d2)
 | [],m,h,i,hi=>by simp at hi
 | a::l,m,h,i,hi=>by
  rw[seqO]at h;split at h
  . rename_i b m' h1 h2;cases h;cases i with
    | zero=>exact h1
    | succ i=>exact y7 d1 d2 h2 i (by simpa using hi)
  . cases h
theorem mo{α β:Type}{f:α->Option β}{P:α->β->Prop}(d1:α)(d2:β):∀{l:List α},(∀a,a∈l->∃b,f a=some b/\P a b)->∃m,seqO f l=some m/\∀i,i < l.length->P (l.getD i d1) (m.getD i d2)
 | [],_=>⟨[],by rw[seqO],fun i hi=>by simp at hi⟩
 | a::l,h=>by
  obtain⟨b,b1,b2⟩:=h a (.head _);obtain⟨m,m1,m2⟩:=mo d1 d2 (fun a ha=>h a (.tail _ ha));refine⟨b::m,by rw[seqO,b1,m1],fun i hi=>?_⟩
  grind
theorem tf{α:Type}:∀{l:List α},l.length % 2=0->(evens l).length=l.length / 2/\(odds l).length=l.length / 2
 | [],_=>⟨by simp[evens],by simp[odds]⟩
 | [a],h=>by simp at h
 | a::b::l,h=>by
  obtain⟨h1,h2⟩:=tf (l:=l) (by simp at h;omega);show(evens l).length+1=(l.length+1+1) / 2/\(odds l).length+1=(l.length+1+1) / 2;omega
theorem pw{α:Type}:∀{l:List α} {y:α},y∈odds l->y∈l
 | [],y,h=>by cases h
 | [_],y,h=>by cases h
 | a::b::l,y,h=>by
  rcases List.mem_cons.1 h with rfl | h
  . grind
  . exact .tail _ (.tail _ (pw h))
def wS(l:List (List UInt8)):Nat:=(l.map fun q=>q.length+1).sum
theorem j5(q:List UInt8)(l:List (List UInt8)):wS (q::l)=q.length+1+wS l:=by unfold wS;simp
theorem sU :∀(l:List (List UInt8)),wS l<=(l.flatMap aO).length
 | []=>by simp[wS]
 | q::l=>by
  have:=sU l;have:=fC q.length;have e:(aO q).length=(vput q.length).length+q.length:=by unfold aO;rw[List.length_append]
  rw[j5,List.flatMap_cons,List.length_append];omega
theorem y8 :∀(l:List (List UInt8)),wS (evens l)+wS (odds l)<=wS l
 | []=>by simp[evens,odds,wS]
 | [a]=>by simp[evens,odds,wS]
 | a::b::l=>by
  have:=y8 l;rw[evens,odds,j5,j5,j5,j5];omega
theorem pV{C:Nat}{f:List UInt8->Option ab}:∀{l:List (List UInt8)} {m:List ab},seqO f l=some m->(∀q,q∈l->∀v,f q=some v->wt v<=C*(q.length+1))->wts m<=C*wS l
 | [],m,h,_=>by rw[seqO]at h;cases h;rw[fG];exact Nat.zero_le _
 | q::l,m,h,k=>by
  rw[seqO]at h;split at h
  . rename_i b m' h1 h2;cases h;have a:=k q (.head _) b h1;have c:=pV h2 (fun q hq=>k q (.tail _ hq));rw[gI,j5,Nat.mul_add];omega
  . cases h
def fS(l:List aM):Nat:=(l.map fun f=>f.Data.length+1).sum
theorem Af(f:aM)(l:List aM):fS (f::l)=f.Data.length+1+fS l:=by unfold fS;simp
theorem Ag :∀(l:List aM),fS l<=(l.flatMap fText).length
 | []=>by simp[fS]
 | f::l=>by
  have:=Ag l;have:=fC f.Data.length;have e:(fText f).length=(vput (2*f.ID.toNat+(if f.Critical=true then 1 else 0))).length+((vput f.Data.length).length+f.Data.length):=by unfold fText bn aO;rw[List.length_append,List.length_append]
  rw[Af,List.flatMap_cons,List.length_append];omega
def hW(C d:Nat)(l:List aM)(m:ap):Nat:=match l.find? (fun f=>decide (f.ID=m.ID))with
 | some f=>C*(f.Data.length+1)
 | none=>d
def hS(C d:Nat)(l:List aM)(ms:List ap):Nat:=(ms.map (hW C d l)).sum
def sel1(id:Int)(A:Nat)(ms:List ap):Nat:=(ms.map fun m=>if m.ID=id then A else 0).sum
theorem sB{id:Int}{A:Nat}:∀{ms:List ap},(∀m,m∈ms->m.ID≠id)->sel1 id A ms=0
 | [],_=>rfl
 | m::ms,h=>by
  have:=sB (A:=A) (fun m hm=>h m (.tail _ hm));unfold sel1 at this ⊢
  grind
theorem BO{id:Int}{A:Nat}:∀{ms:List ap},ms.Pairwise (fun a b=>a.ID < b.ID)->sel1 id A ms<=A
 | [],_=>Nat.zero_le _
 | m::ms,h=>by
  rw[List.pairwise_cons]at h;by_cases e:m.ID=id
  . have:sel1 id A ms=0:=sB fun x hx=>by have:=h.1 x hx;omega
    unfold sel1 at this ⊢
    grind
  . have:=BO (id:=id) (A:=A) h.2;unfold sel1 at this ⊢
    grind
theorem Lt(C d:Nat)(f:aM)(l:List aM)(m:ap):hW C d (f::l) m<=(if m.ID=f.ID then C*(f.Data.length+1)else 0)+hW C d l m:=by
 unfold hW
 grind
theorem Ah(C d:Nat)(f:aM)(l:List aM):∀(ms:List ap),hS C d (f::l) ms<=sel1 f.ID (C*(f.Data.length+1)) ms+hS C d l ms
 | []=>by simp[hS,sel1]
 | m::ms=>by
  have a:=Ah C d f l ms;have b:=Lt C d f l m;unfold hS sel1 at*
  grind
theorem BP(C d:Nat):∀(ms:List ap),hS C d [] ms=d*ms.length
 | []=>by simp[hS]
 | m::ms=>by
  have:=BP C d ms;unfold hS at*;simp only[List.map_cons,List.sum_cons,List.length_cons];rw[this,Nat.mul_succ];have:hW C d [] m=d:=rfl;omega
theorem BQ{C d:Nat}(hC:1<=C){x:ae}(hA:MAsc x.Members):∀(l:List aM),hS C d l x.Members+((restU x l).map fun r=>r.Data.length+1).sum<=d*x.Members.length+C*fS l
 | []=>by rw[BP];simp[restU]
 | f::l=>by
  have ih:=BQ (d:=d) hC hA l;have a:=Ah C d f l x.Members;rw[Af,Nat.mul_add];cases hF:findM x.Members f.ID with
  | some m=>
   have hr:restU x (f::l)=restU x l:=by unfold restU;rw[List.filter_cons_of_neg (by rw[hF];simp)]
   rw[hr];have:=BO (id:=f.ID) (A:=C*(f.Data.length+1)) hA.1;omega
  | none=>
   have hr:restU x (f::l)=⟨f.ID,f.Data⟩::restU x l:=by unfold restU;rw[List.filter_cons_of_pos (by rw[hF];rfl)];rfl
   have:sel1 f.ID (C*(f.Data.length+1)) x.Members=0:=sB (du hF);rw[hr,List.map_cons,List.sum_cons];have:f.Data.length+1<=C*(f.Data.length+1):=Nat.le_mul_of_pos_left _ hC
   grind
theorem Ai{C d:Nat}{f:Int->List UInt8->Option ab}{l:List aM}(hd:∀(m:ap),m.HasDefault=true->True):∀{ms:List ap} {is:List ab},(∀m,m∈ms->(m.HasDefault=true->wt m.Default<=d)/\∀g,g∈l->∀v,f m.Type_ g.Data=some v->wt v<=C*(g.Data.length+1))->seqO (vmem f l) ms=some is->wts is<=hS C d l ms
 | [],is,_,h=>by rw[seqO]at h;cases h;rw[fG];exact Nat.zero_le _
 | m::ms,is,k,h=>by
  rw[seqO]at h;split at h
  . rename_i b m' h1 h2;cases h;have ih:=Ai (C:=C) (d:=d) hd (fun m hm=>k m (.tail _ hm)) h2;have hb:wt b<=hW C d l m:=by
     unfold vmem at h1;unfold hW;cases hf:l.find? (fun f=>decide (f.ID=m.ID))with
     | some g=>
      rw[hf]at h1;exact(k m (.head _)).2 g (List.mem_of_find?_eq_some hf) b h1
     | none=>grind
    unfold hS at*;rw[gI,List.map_cons,List.sum_cons];omega
  . cases h
theorem r4{x:ae}{l:List aM}{r:aE}(h:r∈restU x l):∃f,f∈l/\findM x.Members f.ID=none/\r=⟨f.ID,f.Data⟩:=by
 unfold restU at h;obtain⟨f,hf,rfl⟩:=List.mem_map.1 h;obtain⟨h1,h2⟩:=List.mem_filter.1 hf;refine⟨f,h1,?_,rfl⟩;simp_all
theorem y9{x:ae}{l:List aM}(ha:l.Pairwise (fun a b=>a.ID < b.ID))(hi:∀f,f∈l->I1000 f.ID):ca x.Members (restU x l):=by
 refine⟨?_,fun r hr=>?_⟩
 . unfold restU
   grind
 . obtain⟨f,f1,f2,rfl⟩:=r4 hr
   grind
section
variable {ts:List ae}
def FitN(ts:List ae)(t:Int)(p:List UInt8)(v:ab):Prop:=vfit ts false t v/\OkV v/\wt v<=300*(p.length+1)
theorem dz {k : Int} {b : Bool} {i : Int} {s : List UInt8} {id : Int} {ks is : List ab} {r : List aE} (h0 : 0 <= k /\ k <= 9) (h1 : I64 i) (h2 : 0 <= id /\ id <= 1000) (hs : s.length <= 90000) (hk : ks.length <= 90000) (hi : is.length <= 90000) (hr : r.length <= 90000)
 (k1:∀x,x∈ks->OkV x) (k2:∀x,x∈is->OkV x) (k3:∀x,x∈r->x.Data.length<=90000/\I1000 x.ID):OkV ⟨k,b,i,s,id,ks,is,r⟩:=by
 refine .mk _ (by unfold reachBytes;show s.length<=_;omega) (by unfold reachBytes;show ks.length<=_;omega) (by unfold reachBytes;show is.length<=_;omega) (by unfold reachBytes;show r.length<=_;omega) k1 k2 (fun x hx=>by have:=(k3 x hx).1;unfold reachBytes;omega) ?_ h1 ?_ (fun x hx=>by have:=(k3 x hx).2;unfold I1000 at this;omega)
 . show -9223372036854775808<=k/\k<=9223372036854775807;omega
 . show -9223372036854775808<=id/\id<=9223372036854775807;omega
theorem Kz(H:DrOk ts){n:Nat}(ih:∀(t:Int) (p:List UInt8) (v:ab),p.length<=90000->0<=t->t < ts.length->vdec ts n t p=some v->FitN ts t p v){t:Int}{p:List UInt8}{v:ab}(hp:p.length<=90000)(t0:0<=t)(t1:t < ts.length)(h:vdec ts (n+1) t p=some v):FitN ts t p v:=by
 rw[o6]at h;have hj:t.toNat < ts.length:=by omega
 have hx:=aC hj ag;have hC:=H.dc;unfold FitN;rw[cK];generalize ts.getD t.toNat ag=x at*;unfold vdK at h;have w0:∀(k i id:Int) (b:Bool) (s:List UInt8),wt ⟨k,b,i,s,id,[],[],[]⟩=10+s.length:=fun k i id b s=>by rw[wt_eq,fG];simp
 by_cases k1:x.Kind=1
 . rw[if_pos k1]at h;have:∃b,v=⟨1,b,0,[],0,[],[],[]⟩:=by
    unfold vd1 at h
    grind
   obtain⟨b,rfl⟩:=this;exact⟨⟨⟨t0,t1,k1.symm,fun h=>by cases h⟩,.inl ⟨rfl,rfl,rfl,rfl,rfl,rfl,rfl⟩⟩,dz (by omega) i64_0 (by omega) (by simp) (by simp) (by simp) (by simp) (by simp) (by simp) (by simp),by rw[w0];simp;omega⟩
 rw[if_neg k1]at h;by_cases k2:x.Kind=2
 . rw[if_pos k2]at h;unfold vd2 at h;cases hm:vub p with
   | none=>rw[hm]at h;cases h
   | some m=>
    rw[hm]at h;dsimp only at h;split at h
    . rename_i hr;cases h;exact⟨⟨⟨t0,t1,k2.symm,fun h=>by cases h⟩,.inr (.inl ⟨rfl,rfl,rfl,rfl,rfl,rfl,rfl,hr.1,hr.2⟩)⟩,dz (by omega) (Aa (pT hm)) (by omega) (by simp) (by simp) (by simp) (by simp) (by simp) (by simp) (by simp),by rw[w0];simp;omega⟩
    . cases h
 rw[if_neg k2]at h;by_cases k3:x.Kind=3
 . rw[if_pos k3]at h;unfold vd3 at h;split at h
   . rename_i hr;cases h;exact⟨⟨⟨t0,t1,k3.symm,fun h=>by cases h⟩,.inr (.inr (.inl ⟨rfl,rfl,rfl,rfl,rfl,rfl,rfl,hr⟩))⟩,dz (by omega) i64_0 (by omega) (by omega) (by simp) (by simp) (by simp) (by simp) (by simp) (by simp),by rw[w0];omega⟩
   . cases h
 rw[if_neg k3]at h;by_cases k4:x.Kind=4
 . rw[if_pos k4]at h;unfold vd4 at h;cases hm:vub p with
   | none=>rw[hm]at h;cases h
   | some m=>
    rw[hm]at h;dsimp only at h;split at h
    . rename_i hr;cases h;refine⟨⟨⟨t0,t1,k4.symm,fun h=>by cases h⟩,.inr (.inr (.inr (.inl ⟨rfl,rfl,rfl,rfl,rfl,rfl,rfl,?_⟩)))⟩,dz (by omega) i64_0 (by omega) (by simp) (by simp) (by simp) (by simp) (by simp) (by simp) (by simp),by rw[w0];simp;omega⟩;have h2:=hr.2.2;rw[Bool.or_eq_true]at h2;rcases h2 with h2 | h2
      . grind
      . exact .inr ⟨h2,rfl,by unfold I1000;show 1<=(m:Int)/\(m:Int)<=1000;omega⟩
    . cases h
 rw[if_neg k4]at h;by_cases k9:x.Kind=9
 . rw[if_pos k9]at h;obtain⟨e1,e2⟩:=hC.elem hx (by omega);cases p with
   | nil=>
    rw[vd9]at h;cases h;exact⟨⟨⟨t0,t1,k9.symm,fun h=>by cases h⟩,.inr (.inr (.inr (.inr (.inr (.inr (.inr (.inr ⟨rfl,rfl,rfl,rfl,rfl,rfl,rfl,by simp,aU.2 (by simp)⟩)))))))⟩,dz (by omega) i64_0 (by omega) (by simp) (by simp) (by simp) (by simp) (by simp) (by simp) (by simp),by rw[w0];simp⟩
   | cons c q=>
    rw[vd9]at h;split at h
    . obtain⟨w,w1,rfl⟩:=Option.map_eq_some_iff.1 h;obtain⟨f1,f2,f3⟩:=ih _ _ _ (by simp at hp;omega) e1 e2 w1;refine⟨⟨⟨t0,t1,k9.symm,fun h=>by cases h⟩,.inr (.inr (.inr (.inr (.inr (.inr (.inr (.inr ⟨rfl,rfl,rfl,rfl,rfl,rfl,rfl,by simp,aU.2 ?_⟩)))))))⟩,dz (by omega) i64_0 (by omega) (by simp) (by simp) (by simp) (by simp) (by simp) ?_ (by simp),?_⟩
      . grind
      . grind
      . rw[wt_eq];show 10+0+0+wts []+wts [w]<=_;rw[gI,fG,List.length_cons];omega
    . cases h
 rw[if_neg k9]at h;by_cases k6:x.Kind=6
 . rw[if_pos k6]at h;unfold vd6 at h;cases hA:vA p with
   | none=>rw[hA]at h;cases h
   | some a=>
    obtain⟨id,q⟩:=a;rw[hA]at h;dsimp only at h;have einv:=BN hA;have hpos:=fC id.toNat;have hql:q.length+1<=p.length:=by rw[einv,List.length_append];omega
    obtain⟨o,o1,_,o2,o3⟩:=sx p;have hid:I1000 id:=by grind
    unfold I1000 at hid;cases hF:findM x.Members id with
    | some m=>
     rw[hF]at h;obtain⟨w,w1,rfl⟩:=Option.map_eq_some_iff.1 h;obtain⟨m1,m2⟩:=dS hF;obtain⟨f1,f2,f3⟩:=ih _ _ _ (by omega) (hC.mem hx m1).1 (hC.mem hx m1).2 w1
     refine⟨⟨⟨t0,t1,k6.symm,fun h=>by cases h⟩,.inr (.inr (.inr (.inr (.inr (.inl ⟨rfl,rfl,rfl,rfl,rfl,?_⟩)))))⟩,dz (by omega) i64_0 (by omega) (by simp) (by simp) (by simp) (by simp) (by simp) ?_ (by simp),?_⟩
     . show(match findM x.Members id with
        | some m=>_
        | none=>_)
       rw[hF];refine⟨rfl,rfl,aU.2 ?_⟩
       grind
     . grind
     . rw[wt_eq];show 10+0+0+wts []+wts [w]<=_;rw[gI,fG];omega
    | none=>
     rw[hF]at h;dsimp only at h;split at h
     . rename_i hO;cases h;refine⟨⟨⟨t0,t1,k6.symm,fun h=>by cases h⟩,.inr (.inr (.inr (.inr (.inr (.inl ⟨rfl,rfl,rfl,rfl,rfl,?_⟩)))))⟩,dz (by omega) i64_0 (by omega) (by simp) (by simp) (by simp) (by simp) (by simp) (by simp) ?_,?_⟩
       . grind
       . grind
       . rw[wt_eq];show 10+0+((q.length+1)+0)+wts []+wts []<=_;rw[fG];omega
     . cases h
 rw[if_neg k6]at h;by_cases k7:x.Kind=7
 . rw[if_pos k7]at h;unfold vd7 at h;obtain⟨e1,e2⟩:=hC.elem hx (by omega);cases hI:vI p with
   | none=>rw[hI]at h;cases h
   | some l=>
    rw[hI]at h;dsimp only at h;obtain⟨o,o1,_,o2,o3⟩:=gy hp;have hl:(∀q,q∈l->q.length<=p.length)/\l.length<=p.length:=by grind
    have hw:=sU l;rw[pU hp hI]at hw;split at h
    . rename_i hM;obtain⟨m,m1,rfl⟩:=Option.map_eq_some_iff.1 h;have hlen:=dw m1;have hmem:∀y,y∈m->∃q,q∈l/\FitN ts x.Elem q y:=fun y hy=>by
       obtain⟨q,q1,q2⟩:=jS m1 y hy
       grind
      have hwt:=pV (C:=300) m1 (fun q hq v hv=>(ih _ _ _ (by have:=hl.1 q hq;omega) e1 e2 hv).2.2);refine⟨⟨⟨t0,t1,k7.symm,fun h=>by cases h⟩,.inr (.inr (.inr (.inr (.inr (.inr (.inl ⟨rfl,rfl,rfl,rfl,rfl,rfl,rfl,?_,aU.2 ?_⟩))))))⟩,dz (by omega) i64_0 (by omega) (by simp) (by simp) (by omega) (by simp) (by simp) ?_ (by simp),?_⟩
      . grind
      . intro y hy;obtain⟨q,_,q2⟩:=hmem y hy;exact q2.1
      . intro y hy;obtain⟨q,_,q2⟩:=hmem y hy;exact q2.2.1
      . rw[wt_eq];show 10+0+0+wts []+wts m<=_;rw[fG];omega
    . cases h
 rw[if_neg k7]at h;by_cases k8:x.Kind=8
 . rw[if_pos k8]at h;unfold vd8 at h;obtain⟨e1,e2⟩:=hC.elem hx (by omega);obtain⟨d1,d2⟩:=hC.key hx k8;cases hI:vI p with
   | none=>rw[hI]at h;cases h
   | some l=>
    rw[hI]at h;dsimp only at h;obtain⟨o,o1,_,o2,o3⟩:=gy hp;have hl:(∀q,q∈l->q.length<=p.length)/\l.length<=p.length:=by grind
    have hw:=sU l;rw[pU hp hI]at hw;have hws:=y8 l;split at h
    . rename_i hM;cases hs:seqO (vdec ts n x.Key) (evens l)with
      | none=>rw[hs]at h;cases h
      | some ks=>
       rw[hs]at h;dsimp only at h;split at h
       . rename_i ha;obtain⟨m,m1,rfl⟩:=Option.map_eq_some_iff.1 h;have hlenk:=dw hs;have hlen:=dw m1;obtain⟨g1,g2⟩:=tf hM.1;have hmemk:∀y,y∈ks->∃q,q∈evens l/\FitN ts x.Key q y:=fun y hy=>by
          obtain⟨q,q1,q2⟩:=jS hs y hy;exact⟨q,q1,ih _ _ _ (by have:=hl.1 q (o5 q1);omega) d1 d2 q2⟩
         have hmem:∀y,y∈m->∃q,q∈odds l/\FitN ts x.Elem q y:=fun y hy=>by
          obtain⟨q,q1,q2⟩:=jS m1 y hy;exact⟨q,q1,ih _ _ _ (by have:=hl.1 q (pw q1);omega) e1 e2 q2⟩
         have hwtk:=pV (C:=300) hs (fun q hq v hv=>(ih _ _ _ (by have:=hl.1 q (o5 hq);omega) d1 d2 hv).2.2);have hwt:=pV (C:=300) m1 (fun q hq v hv=>(ih _ _ _ (by have:=hl.1 q (pw hq);omega) e1 e2 hv).2.2)
         refine⟨⟨⟨t0,t1,k8.symm,fun h=>by cases h⟩,.inr (.inr (.inr (.inr (.inr (.inr (.inr (.inl ⟨rfl,rfl,rfl,rfl,rfl,rfl,?_,?_,aU.2 ?_,aU.2 ?_,jQ.1 ha⟩)))))))⟩,dz (by omega) i64_0 (by omega) (by simp) (by omega) (by omega) (by simp) ?_ ?_ (by simp),?_⟩
         . grind
         . grind
         . intro y hy;obtain⟨q,_,q2⟩:=hmemk y hy;exact q2.1
         . intro y hy;obtain⟨q,_,q2⟩:=hmem y hy;exact q2.1
         . intro y hy;obtain⟨q,_,q2⟩:=hmemk y hy;exact q2.2.1
         . intro y hy;obtain⟨q,_,q2⟩:=hmem y hy;exact q2.2.1
         . rw[wt_eq]
           grind
       . cases h
    . cases h
 rw[if_neg k8]at h;have k5:x.Kind=5:=by obtain⟨K1,K9⟩:=hC.S.K x hx;omega
 unfold vd5 at h;obtain⟨hA1,hA2⟩:=hC.S.A x hx (.inl k5);cases hI:vFl p with
 | none=>rw[hI]at h;cases h
 | some l=>
  rw[hI]at h;dsimp only at h;obtain⟨o,o1,_,o2,o3⟩:=oz hp;have hl:(∀f,f∈l->f.Data.length<=p.length/\I1000 f.ID)/\l.Pairwise (fun a b=>a.ID < b.ID)/\l.length<=p.length:=by grind
  have hw:=Ag l;rw[Ae hp hI]at hw;cases hs:seqO (vmem (vdec ts n) l) x.Members with
  | none=>rw[hs]at h;cases h
  | some is=>
   rw[hs]at h;dsimp only at h;split at h
   . rename_i ha;cases h;have hlen:=dw hs;have hfit:∀i,i < x.Members.length->vfit ts false (x.Members.getD i aj).Type_ (is.getD i af)/\OkV (is.getD i af):=fun i hi=>by
      have hm:=aC hi aj;have:=y7 aj af hs i hi;unfold vmem at this;cases hf:l.find? (fun f=>decide (f.ID=(x.Members.getD i aj).ID))with
      | some g=>
       rw[hf]at this;have:=ih _ _ _ (by have:=(hl.1 g (List.mem_of_find?_eq_some hf)).1;omega) (hC.mem hx hm).1 (hC.mem hx hm).2 this;exact⟨this.1,this.2.1⟩
      | none=>
       rw[hf]at this;dsimp only at this;split at this
       . rename_i hd;have e:=(Option.some.inj this)
         rw[<-e];exact⟨vfit_weak _ _ (H.D x hx _ hm hd),(H.T x hx).3 _ hm⟩
       . cases this
     have hwt:=Ai (C:=300) (d:=13) (fun _ _=>trivial) (fun m hm=>⟨fun hd=>H.W x hx m hm hd,fun g hg v hv=>(ih _ _ _ (by have:=(hl.1 g hg).1;omega) (hC.mem hx hm).1 (hC.mem hx hm).2 hv).2.2⟩) hs;have hrw:=BQ (C:=300) (d:=13) (by omega) hA1 l
     refine⟨⟨⟨t0,t1,k5.symm,fun h=>by cases h⟩,.inr (.inr (.inr (.inr (.inl ⟨rfl,rfl,rfl,rfl,rfl,rfl,y9 hl.2.1 (fun f hf=>(hl.1 f hf).2),dR.2 ⟨hlen,fun i hi=>(hfit i hi).1⟩⟩))))⟩,dz (by omega) i64_0 (by omega) (by simp) (by simp) (by omega) ?_ (by simp) ?_ ?_,?_⟩
     . unfold restU
       grind
     . intro y hy;obtain⟨i,hi,rfl⟩:=List.getElem_of_mem hy
       grind
     . intro r hr;obtain⟨f,f1,_,rfl⟩:=r4 hr
       grind
     . rw[wt_eq];show 10+0+((restU x l).map fun r=>r.Data.length+1).sum+wts []+wts is<=_;rw[fG];omega
   . cases h
theorem sC(H:DrOk ts):∀(n:Nat) (t:Int) (p:List UInt8) (v:ab),p.length<=90000->0<=t->t < ts.length->vdec ts n t p=some v->FitN ts t p v
 | 0,t,p,v,_,_,_,h=>by rw[rZ]at h;cases h
 | n+1,t,p,v,hp,t0,t1,h=>Kz H (sC H n) hp t0 t1 h
end
theorem za :∀{A B:List Fd},A.Pairwise (fun a b=>a.id < b.id)->B.Pairwise (fun a b=>a.id < b.id)->(∀x,x∈A↔x∈B)->A=B
 | [],[],_,_,_=>rfl
 | [],b::B,_,_,h=>by have:=(h b).2 (.head _);cases this
 | a::A,[],_,_,h=>by have:=(h a).1 (.head _);cases this
 | a::A,b::B,hA,hB,h=>by
  rw[List.pairwise_cons]at hA hB;have e:a=b:=by grind
  subst e;rw[za hA.2 hB.2 fun x=>?_]
  grind
theorem EW :∀(a b:List UInt8),Op.bytesLess a b=true->Op.bytesLess b a=true->False:=by
 intro a b h1 h2;rw[bytesLess_eq,decide_eq_true_eq]at h1 h2
 grind
theorem vH{a b:List UInt8}(h1:dh a b=true)(h2:dh b a=true):False:=by
 rw[oN]at h1 h2;rcases h1 with h1 | h1 <;> rcases h2 with h2 | h2
 . omega
 . omega
 . omega
 . exact EW _ _ h1.2 h2.2
theorem IM {ts : List ae} {t : Int} {a b : ab} (hk : 1 <= (ts.getD t.toNat ag).Kind /\ (ts.getD t.toNat ag).Kind <= 4) (ha : I64 a.Int_) (hb : I64 b.Int_) (ka : a.Kind = (ts.getD t.toNat ag).Kind) (kb : b.Kind = (ts.getD t.toNat ag).Kind)
 (h:vcmp a b=0):vpay ts t a=vpay ts t b:=by
 have h1:=mm ha hb;rw[h]at h1;have hv1:=fun v=>@vpay1 ts t v
 have hv2:=fun v=>@vpay2 ts t v
 have hv3:=fun v=>@vpay3 ts t v
 have hv4:=fun v=>@vpay4 ts t v
 generalize (ts.getD t.toNat ag).Kind=k at*;rw[eW]at h1;rw[if_neg (by simp[ka,kb])]at h1;by_cases k1:k=1
 . rw[if_pos (by simp[ka,k1])]at h1;rw[hv1 _ k1,hv1 _ k1];simp only[bU,eqB]at h1;cases hA:a.Bool_ <;> cases hB:b.Bool_ <;> simp[hA,hB]at h1 <;> rfl
 rw[if_neg (by simp[ka,k1])]at h1;by_cases k2:k=2
 . rw[if_pos (by simp[ka,k2]),fO ha,fO hb]at h1;rw[hv2 _ k2,hv2 _ k2];simp only[oZ4,oZ3,bU]at h1;by_cases e:a.Int_=b.Int_
   . rw[e]
   . by_cases hl:zig a.Int_ < zig b.Int_
     . simp[e,hl]at h1
     . simp[e,hl]at h1
 rw[if_neg (by simp[ka,k2])]at h1;by_cases k3:k=3
 . rw[if_pos (by simp[ka,k3])]at h1;rw[hv3 _ k3,hv3 _ k3];simp only[oZ4,oZ3,bU]at h1;by_cases hl:a.Str.length=b.Str.length
   . rw[if_neg (by simp[hl])]at h1;by_cases e:a.Str=b.Str
     . exact e
     . cases hb':Op.bytesLess a.Str b.Str <;> simp[e,hb']at h1
   . have hl1:¬(a.Str.length:Int)=(b.Str.length:Int):=by omega
     rw[if_pos (by simp[hl1])]at h1;by_cases hlt:(a.Str.length:Int) < (b.Str.length:Int) <;> simp[hlt]at h1
 . have k4:k=4:=by omega
   rw[if_neg (by simp[ka,k3]),if_pos (by simp[ka,k4])]at h1;rw[hv4 _ k4,hv4 _ k4];simp only[oZ4,oZ3,bU]at h1;by_cases e:a.ID=b.ID
   . rw[e]
   . by_cases hl:a.ID < b.ID <;> simp[e,hl]at h1
theorem IN {ts : List ae} {t : Int} {a b : ab} (hk : 1 <= (ts.getD t.toNat ag).Kind /\ (ts.getD t.toNat ag).Kind <= 4) (ha : OkV a) (hb : OkV b) (ka : a.Kind = (ts.getD t.toNat ag).Kind) (kb : b.Kind = (ts.getD t.toNat ag).Kind)
 (na:0<=a.ID\/a.Kind≠4) (nb:0<=b.ID\/b.Kind≠4) (h:dh (vpay ts t a) (vpay ts t b)=true):vcmp a b < 0:=by
 have ia:I64 a.Int_:=by cases ha with | mk _ _ _ _ _ _ _ _ _ n2 _ _=>exact n2
 have ib:I64 b.Int_:=by cases hb with | mk _ _ _ _ _ _ _ _ _ n2 _ _=>exact n2
 by_cases h1:vcmp a b < 0
 . exact h1
 . exfalso
   by_cases h2:vcmp a b=0
   . rw[IM hk ia ib ka kb h2]at h;exact vH h h
   . have:=IB ia ib (by omega);exact vH h (xS hk hb ha kb ka nb na this)
theorem BS :∀(l:List (List UInt8)),l.length % 2=0->ilv (evens l) (odds l)=l.flatMap aO
 | [],_=>by rw[show evens ([]:List (List UInt8))=[]from rfl,ilv] <;> first | rfl | simp
 | [a],h=>by simp at h
 | a::b::l,h=>by rw[evens,odds,ilv,BS l (by simp at h;omega),List.flatMap_cons,List.flatMap_cons]
theorem r5{α:Type}(d:α):∀{l:List α} {i:Nat},2*i+1 < l.length->(evens l).getD i d=l.getD (2*i) d
 | [],i,h=>by simp at h
 | [a],i,h=>by simp at h
 | a::b::l,0,h=>rfl
 | a::b::l,i+1,h=>by rw[evens,List.getD_cons_succ,r5 d (by simp at h;omega),show 2*(i+1)=2*i+1+1 by omega,List.getD_cons_succ,List.getD_cons_succ]
theorem zb{α:Type}(d:α):∀{l:List α} {i:Nat},2*i+1 < l.length->(odds l).getD i d=l.getD (2*i+1) d
 | [],i,h=>by simp at h
 | [a],i,h=>by simp at h
 | a::b::l,0,h=>rfl
 | a::b::l,i+1,h=>by rw[odds,List.getD_cons_succ,zb d (by simp at h;omega),show 2*(i+1)+1=2*i+1+1+1 by omega,List.getD_cons_succ,List.getD_cons_succ]
theorem pH{α:Type}{l:List α}{y:α}(d:α)(h:y∈l):∃i,i < l.length/\l.getD i d=y:=by
 obtain⟨i,hi,rfl⟩:=List.getElem_of_mem h;exact⟨i,hi,ba hi d⟩
section
variable {ts:List ae}
theorem zc : ∀ {ms : List ap} {l : List ab} {j : Nat}, j < ms.length -> j < l.length -> om (ms.getD j aj) (l.getD j af) = false ->
 (⟨(ms.getD j aj).ID.toNat,(ms.getD j aj).Critical,vpay ts (ms.getD j aj).Type_ (l.getD j af)⟩:Fd)∈vents ts ms l
 | [],l,j,h,_,_=>by simp at h
 | m::ms,[],j,_,h,_=>by simp at h
 | m::ms,v::l,0,_,_,h=>by
  rw[vents]
  grind
 | m::ms,v::l,j+1,h1,h2,h=>by
  rw[vents];have:=zc (ms:=ms) (l:=l) (j:=j) (by simpa using h1) (by simpa using h2) h
  grind
theorem zd{r:Nat}:∀{ms:List ap} {l:List ab},(∀j,j < ms.length->j < l.length->om (ms.getD j aj) (l.getD j af)=false->vlev ts (ms.getD j aj).Type_ (l.getD j af)<=r)->vlevm ts ms l<=r
 | [],l,_=>by
  have:vlevm ts [] l=0:=by rw[vlevm] <;> simp
  omega
 | m::ms,[],_=>by
  have:vlevm ts (m::ms) []=0:=by rw[vlevm] <;> simp
  omega
 | m::ms,v::l,h=>by
  have ih:=zd (ms:=ms) (l:=l) fun j h1 h2 h3=>h (j+1) (by simpa using h1) (by simpa using h2) h3
  rw[vlevm];split
  . exact ih
  . rename_i ho;have:=h 0 (by simp) (by simp) (by simpa using ho)
    grind
theorem pz{t:Int}{r:Nat}:∀{l:List ab},(∀y,y∈l->vlev ts t y<=r)->vlevs ts t l<=r
 | [],_=>by rw[vlevs];exact Nat.zero_le _
 | v::l,h=>by
  rw[vlevs];exact Nat.max_le.2 ⟨h v (.head _),pz fun y hy=>h y (.tail _ hy)⟩
def CanD(ts:List ae)(r:Nat)(t:Int)(p:List UInt8):Prop:=∃v,vdec ts r t p=some v/\vpay ts t v=p/\vlev ts t v<=r
theorem zf{t:Int}{r:Nat}{l:List (List UInt8)}{m:List ab}(hl:m.length=l.length)(h:∀i,i < l.length->vpay ts t (m.getD i af)=l.getD i []/\vlev ts t (m.getD i af)<=r):vpays ts t m=l/\vlevs ts t m<=r:=by
 constructor
 . refine List.ext_getElem (by rw[dq,hl]) fun i h1 h2=>?_
   have:=(h i h2).1;have hm:i < m.length:=by omega
   have e:=jD (ts:=ts) (t:=t) hm
   grind
 . refine pz fun y hy=>?_
   obtain⟨i,hi,rfl⟩:=pH af hy
   grind
theorem KA(H:DrOk ts){r:Nat}(ih:∀(t:Int) (p:List UInt8),p.length<=90000->0<=t->t < ts.length->vcan ts r t p->CanD ts r t p){t:Int}{p:List UInt8}(hp:p.length<=90000)(t0:0<=t)(t1:t < ts.length)(h:vcan ts (r+1) t p):CanD ts (r+1) t p:=by
 rw[zW]at h;have hj:t.toNat < ts.length:=by omega
 have hx:=aC hj ag;have hC:=H.dc;obtain⟨K1,K9⟩:=hC.S.K _ hx;unfold CanD;rw[o6];rcases h with(⟨k,h⟩ | ⟨k,h⟩ | ⟨k,h⟩ | ⟨k,h⟩) | ⟨k,h⟩ | ⟨k,h⟩ | ⟨k,h⟩ | ⟨k,h⟩ | ⟨k,h⟩
 . unfold vdK;rw[if_pos k];unfold vd1;rcases h with h | h
   . subst h;exact⟨_,if_pos rfl,by rw[vpay1 k];rfl,by rw[fA rfl rfl];omega⟩
   . subst h;exact⟨_,by rw[if_neg (by simp),if_pos rfl],by rw[vpay1 k];rfl,by rw[fA rfl rfl];omega⟩
 . unfold vdK;rw[if_neg (by omega),if_pos k];obtain⟨n,n1,n2⟩:=h;unfold vd2;rw[n1];refine⟨_,if_pos n2,?_,by rw[fA rfl rfl];omega⟩;rw[vpay2 k];show vbig (zig (unz n)).toNat=p;rw[Ls,y6 n1]
 . unfold vdK;rw[if_neg (by omega),if_neg (by omega),if_pos k];unfold vd3;exact⟨_,if_pos h,by rw[vpay3 k],by rw[fA rfl rfl];omega⟩
 . unfold vdK;rw[if_neg (by omega),if_neg (by omega),if_neg (by omega),if_pos k];obtain⟨n,n1,n2,n3⟩:=h;unfold vd4;rw[n1];refine⟨_,if_pos ⟨n2.1,n2.2,?_⟩,?_,by rw[fA rfl rfl];omega⟩
   . rw[vpay4 k];show vbig (n:Int).toNat=p;rw[aw,y6 n1]
   grind
 ·
  unfold vdK;rw[if_neg (by omega),if_neg (by omega),if_neg (by omega),if_neg (by omega),if_neg (by omega),if_neg (by omega),if_neg (by omega),if_neg (by omega)];obtain⟨l,hl,hf,hm⟩:=h;obtain⟨hA1,hA2⟩:=hC.S.A _ hx (.inl k);obtain⟨o,o1,_,o2,o3⟩:=oz hp
  have hl2:(∀f,f∈l->f.Data.length<=p.length/\I1000 f.ID)/\l.Pairwise (fun a b=>a.ID < b.ID)/\l.length<=p.length:=by grind
  have e5:=fun v=>@vpay5 ts t v k
  have lv:=fun v=>fH (ts:=ts) t v
  generalize ts.getD t.toNat ag=x at*
  obtain⟨is,is1,is2⟩:=mo (f:=vmem (vdec ts r) l) (P:=fun m w=>(∃f,f∈l/\f.ID=m.ID/\om m w=false/\vpay ts m.Type_ w=f.Data/\f.Critical=m.Critical/\vlev ts m.Type_ w<=r)\/((∀f,f∈l->f.ID≠m.ID)/\om m w=true)) aj af (l:=x.Members) (fun m hmm=>by
   unfold vmem;cases hfd:l.find? (fun f=>decide (f.ID=m.ID))with
   | some f=>
    have fm:=List.mem_of_find?_eq_some hfd;have fi:f.ID=m.ID:=by have:=List.find?_some hfd;simpa using this
    have hF:findM x.Members f.ID=some m:=by
     cases hF:findM x.Members f.ID with
     | none=>exact absurd fi.symm (du hF m hmm)
     | some m'=>
      obtain⟨q1,q2⟩:=dS hF;rw[pu hA1 q1 hmm (by rw[q2,fi])]
    obtain⟨c1,c2,c3⟩:=(hf f fm).2 m hF;obtain⟨v,v1,v2,v3⟩:=ih _ _ (by have:=(hl2.1 f fm).1;omega) (hC.mem hx hmm).1 (hC.mem hx hmm).2 c2;refine⟨v,v1,.inl ⟨f,fm,fi,?_,v2,c1,v3⟩⟩;unfold om
    grind
   | none=>
    have hno:∀f,f∈l->f.ID≠m.ID:=fun f hf=>by grind
    cases hd:m.HasDefault with
    | false=>grind
    | true=>
     dsimp only;rw[if_pos rfl]
     exact⟨_,rfl,.inr ⟨hno,by unfold om;simp[hd]⟩⟩)
  have hlen:=dw is1;have hall:l.all (okU x)=true:=by
   rw[List.all_eq_true];intro f hfm;unfold okU;cases hF:findM x.Members f.ID with
   | some m=>rfl
   | none=>rw[(hf f hfm).1 hF];rfl
  have hro:ca x.Members (restU x l):=y9 hl2.2.1 (fun f hf=>(hl2.1 f hf).2);refine⟨⟨5,false,0,[],0,[],is,restU x l⟩,?_,?_,?_⟩
  . unfold vd5
    grind
  . rw[e5];dsimp only;have hiso:isoB ltF (aY ts x.Members is (restU x l))=l.map fun f=>(⟨f.ID.toNat,f.Critical,f.Data⟩:Fd):=by
     refine za (yP (lE hA1 hro) (xI hA1 hro)) ?_ fun y=>?_
     . rw[List.pairwise_map];refine hl2.2.1.imp_of_mem fun {a b} ha hb hlt=>?_
       have i1:=(hl2.1 a ha).2;have i2:=(hl2.1 b hb).2;unfold I1000 at i1 i2
       grind
     . rw[(cS ltF _).mem_iff];unfold aY;rw[List.mem_append,List.mem_map,List.mem_map];constructor
       . rintro (hy | ⟨a,a1,rfl⟩)
         . obtain⟨j,j1,j2,j3,rfl⟩:=oO hy
           grind
         . obtain⟨f,f1,f2,rfl⟩:=r4 a1;refine⟨f,f1,?_⟩;have:=(hf f f1).1 f2;unfold rawF;rw[this]
       . rintro ⟨f,f1,rfl⟩
         cases hF:findM x.Members f.ID with
         | some m=>
          left;obtain⟨m1,m2⟩:=dS hF;obtain⟨j,j1,rfl⟩:=pH aj m1;rcases is2 j j1 with⟨g,g1,g2,g3,g4,g5,_⟩ | ⟨q,_⟩
          . have:g=f:=by
             obtain⟨a,a1,a2⟩:=List.getElem_of_mem g1;obtain⟨b,b1,b2⟩:=List.getElem_of_mem f1;rcases Nat.lt_trichotomy a b with hab | hab | hab
             . have:=List.pairwise_iff_getElem.1 hl2.2.1 a b a1 b1 hab
               grind
             . grind
             . have:=List.pairwise_iff_getElem.1 hl2.2.1 b a b1 a1 hab
               grind
            subst this;have:=zc (ts:=ts) (ms:=x.Members) (l:=is) j1 (by omega) g3
            grind
          grind
         | none=>
          right;refine⟨⟨f.ID,f.Data⟩,?_,?_⟩
          . unfold restU
            grind
          . unfold rawF;rw[(hf f f1).1 hF]
    rw[hiso,List.flatMap_map];exact Ae hp hl
  . rw[lv,if_pos rfl,if_pos k];have:=zd (ts:=ts) (r:=r) (ms:=x.Members) (l:=is) fun j j1 j2 j3=>by grind
    grind
 ·
  unfold vdK;rw[if_neg (by omega),if_neg (by omega),if_neg (by omega),if_neg (by omega),if_neg (by omega),if_pos k];obtain⟨id,q,q1,q2,q3⟩:=h;have einv:=BN q1;have hpos:=fC id.toNat;have hql:q.length+1<=p.length:=by rw[einv,List.length_append];omega
  have e6:=fun v=>@vpay6 ts t v k
  have lv:=fun v=>fH (ts:=ts) t v
  unfold vd6;rw[q1];dsimp only;generalize ts.getD t.toNat ag=x at*;cases hF:findM x.Members id with
  | some m=>
   obtain⟨m1,m2⟩:=dS hF;obtain⟨v,v1,v2,v3⟩:=ih _ _ (by omega) (hC.mem hx m1).1 (hC.mem hx m1).2 (q3 m hF);refine⟨_,by dsimp only;rw[v1];rfl,?_,?_⟩
   . rw[e6];dsimp only;rw[hF];dsimp only;rw[vpays,v2]
     grind
   . rw[lv,if_pos rfl,if_neg (by omega),if_pos k];dsimp only;rw[hF];dsimp only;have:vlevs ts m.Type_ [v]<=r:=pz fun y hy=>by rcases List.mem_cons.1 hy with rfl | hy;exact v3;cases hy
     omega
  | none=>simp_all
 ·
  unfold vdK;rw[if_neg (by omega),if_neg (by omega),if_neg (by omega),if_neg (by omega),if_neg (by omega),if_neg (by omega),if_pos k];obtain⟨l,l1,l2,l3⟩:=h;obtain⟨e1,e2⟩:=hC.elem hx (by omega);obtain⟨o,o1,_,o2,o3⟩:=gy hp;have hl:(∀q,q∈l->q.length<=p.length)/\l.length<=p.length:=by grind
  have e7:=fun v=>@vpay7 ts t v k
  have lv:=fun v=>fH (ts:=ts) t v
  unfold vd7;rw[l1];dsimp only;generalize ts.getD t.toNat ag=x at*
  obtain⟨m,m1,m2⟩:=mo (f:=vdec ts r x.Elem) (P:=fun q w=>vpay ts x.Elem w=q/\vlev ts x.Elem w<=r) ([]:List UInt8) af (l:=l) (fun q hq=>by
   obtain⟨v,v1,v2,v3⟩:=ih _ _ (by have:=hl.1 q hq;omega) e1 e2 (l3 q hq)
   grind)
  obtain⟨f1,f2⟩:=zf (dw m1) m2;refine⟨⟨7,false,0,[],0,[],m,[]⟩,by rw[if_pos l2,m1];rfl,?_,?_⟩
  . rw[e7];dsimp only;rw[f1];exact pU hp l1
  grind
 ·
  unfold vdK;rw[if_neg (by omega),if_neg (by omega),if_neg (by omega),if_neg (by omega),if_neg (by omega),if_neg (by omega),if_neg (by omega),if_pos k];obtain⟨l,l1,l0,l2,l3⟩:=h;obtain⟨e1,e2⟩:=hC.elem hx (by omega);obtain⟨d1,d2⟩:=hC.key hx k;have hky:=hC.S.Ky _ hx k;obtain⟨o,o1,_,o2,o3⟩:=gy hp
  have hl:(∀q,q∈l->q.length<=p.length)/\l.length<=p.length:=by grind
  obtain⟨g1,g2⟩:=tf l0;have e8:=fun v=>@vpay8 ts t v k
  have lv:=fun v=>fH (ts:=ts) t v
  unfold vd8;rw[l1];dsimp only;generalize ts.getD t.toNat ag=x at*
  obtain⟨ks,ks1,ks2⟩:=mo (f:=vdec ts r x.Key) (P:=fun q w=>vdec ts r x.Key q=some w/\vpay ts x.Key w=q/\q.length<=90000) ([]:List UInt8) af (l:=evens l) (fun q hq=>by
   obtain⟨i,i1,i2⟩:=pH ([]:List UInt8) hq;have hql:=hl.1 q (o5 hq);rw[r5 [] (by omega)]at i2;have hc:=(l3 i (by omega)).1;rw[i2]at hc;obtain⟨v,v1,v2,v3⟩:=ih _ _ (by omega) d1 d2 hc
   grind)
  obtain⟨m,m1,m2⟩:=mo (f:=vdec ts r x.Elem) (P:=fun q w=>vpay ts x.Elem w=q/\vlev ts x.Elem w<=r) ([]:List UInt8) af (l:=odds l) (fun q hq=>by
   obtain⟨i,i1,i2⟩:=pH ([]:List UInt8) hq;have hql:=hl.1 q (pw hq);rw[zb [] (by omega)]at i2;have hc:=(l3 i (by omega)).2.1;rw[i2]at hc;obtain⟨v,v1,v2,v3⟩:=ih _ _ (by omega) e1 e2 hc
   grind)
  have hlk:=dw ks1;have hfk:∀i,i < ks.length->FitN ts x.Key ((evens l).getD i []) (ks.getD i af)/\vpay ts x.Key (ks.getD i af)=(evens l).getD i []:=fun i hi=>by
   obtain⟨q1,q2,q3⟩:=ks2 i (by omega);exact⟨sC H r _ _ _ q3 d1 d2 q1,q2⟩
  have hkp:vpays ts x.Key ks=evens l:=by
   refine List.ext_getElem (by rw[dq,hlk]) fun i h1 h2=>?_
   have hm:i < ks.length:=by omega
   have e:=jD (ts:=ts) (t:=x.Key) hm
   grind
  have hid:∀i,i < ks.length->(ks.getD i af).Kind=(ts.getD x.Key.toNat ag).Kind/\(0<=(ks.getD i af).ID\/(ks.getD i af).Kind≠4):=fun i hi=>by
   have hfit:=(hfk i hi).1.1;rw[cK]at hfit;obtain⟨⟨_,_,q3,_⟩,q⟩:=hfit;refine⟨q3,?_⟩;have hS:=hC.S.S _ (aC (by omega:x.Key.toNat < ts.length) ag);rcases q with q | q | q | q | q | q | q | q | q
   . right;omega
   . right;omega
   . right;omega
   . left;obtain⟨a1,_,_,_,_,_,_,a8⟩:=q;rcases a8 with⟨y,y1,y2⟩ | ⟨_,_,y3⟩
     . have:=hS (by omega) y y1;unfold I1000 at this;omega
     . unfold I1000 at y3;omega
   . right;omega
   . right;omega
   . right;omega
   . right;omega
   omega
  have hasc:dZ ks:=by
   intro i hi;have hs:=(l3 (i+1) (by omega)).2.2 (by omega);rw[show 2*(i+1) - 2=2*i by omega]at hs;have p1:=(hfk i (by omega)).2;have p2:=(hfk (i+1) (by omega)).2;rw[r5 [] (by omega)]at p1 p2;rw[<-p1,<-p2]at hs
   exact IN hky (hfk i (by omega)).1.2.1 (hfk (i+1) (by omega)).1.2.1 (hid i (by omega)).1 (hid (i+1) (by omega)).1 (hid i (by omega)).2 (hid (i+1) (by omega)).2 hs
  obtain⟨f1,f2⟩:=zf (dw m1) m2;refine⟨⟨8,false,0,[],0,ks,m,[]⟩,by rw[if_pos ⟨l0,l2⟩,ks1];dsimp only;rw[if_pos (jQ.2 hasc),m1];rfl,?_,?_⟩
  . rw[e8];dsimp only;rw[f1,hkp,BS l l0];exact pU hp l1
  . rw[lv,if_neg (show ¬x.Kind=5 by omega),if_neg (show ¬x.Kind=6 by omega)];dsimp only;have hr:(if ks=[]then 0 else 1)<=r:=by
     by_cases he:ks=[]
     . grind
     . have:0 < ks.length:=List.length_pos_iff.2 he;have hc:=(l3 0 (by omega)).1;cases r with
       | zero=>exact absurd hc (by simp[vcan])
       | succ r=>rw[if_neg he];omega
    omega
 ·
  unfold vdK;rw[if_neg (by omega),if_neg (by omega),if_neg (by omega),if_neg (by omega),if_pos k];obtain⟨e1,e2⟩:=hC.elem hx (by omega);have e9:=fun v=>@vpay9 ts t v k
  have lv:=fun v=>fH (ts:=ts) t v
  generalize ts.getD t.toNat ag=x at*;rcases h with h | ⟨q,h,hc⟩
  . subst h;refine⟨_,rfl,?_,by rw[fA rfl rfl];omega⟩;rw[e9];dsimp only;rw[vpays]
  . subst h;obtain⟨v,v1,v2,v3⟩:=ih _ _ (by simp at hp;omega) e1 e2 hc;refine⟨⟨9,false,0,[],0,[],[v],[]⟩,by rw[vd9,if_pos rfl,v1];rfl,?_,?_⟩
    . rw[e9];dsimp only;rw[vpays,v2]
    . rw[lv,if_pos rfl,if_neg (by omega),if_neg (by omega)];dsimp only;have:vlevs ts x.Elem [v]<=r:=pz fun y hy=>by rcases List.mem_cons.1 hy with rfl | hy;exact v3;cases hy
      omega
theorem Aj(H:DrOk ts):∀(r:Nat) (t:Int) (p:List UInt8),p.length<=90000->0<=t->t < ts.length->vcan ts r t p->CanD ts r t p
 | 0,t,p,_,_,_,h=>by rw[vcan]at h;exact absurd h id
 | r+1,t,p,hp,t0,t1,h=>KA H (Aj H r) hp t0 t1 h
end
theorem HI {s : av} (H : SOk s.Types) {v : ab} (hv : OkV v) (hw : wt v <= 1099511627776) {t : Int} (hf : vfit s.Types false t v) (hc : fh (s, t, v) = some 0):
 lC (s,t,v)=some (encA s.Types t v):=by
 have h1:=Lg H hv hw hf;have hc':fh ((⟨s.Types⟩:av),t,v)=some 0:=hc;rw[lC];simp only[ab.aA];rw[hc',h1];simp only[oZ4,oZ3];rw[if_neg (by simp)];unfold encA;generalize vpay s.Types t v=p;generalize vlev s.Types t v=l;by_cases g:4096 < p.length
 . rw [if_pos (by have : (4096 : Int) < p.length := by omega
                  simp[this]),if_pos (.inl g)]
 . by_cases g2:200 < l
   . rw [if_pos (by have : ¬ (4096 : Int) < p.length := by omega
                    have h2:(200:Int) < l:=by omega
                    simp[this,h2]),if_pos (.inr g2)]
   . rw [if_neg (by have : ¬ (4096 : Int) < p.length := by omega
                    have h2:¬(200:Int) < l:=by omega
                    simp[this,h2]),if_neg (by omega)]
theorem HK {s : av} (H : SOk s.Types) {v : ab} (hv : OkV v) (hw : wt v <= 1099511627776) {t : Int} (hf : vfit s.Types false t v) (hr : ji (s, t, v) = some 0):
 kT (s,t,v)=some (encA s.Types t v):=by
 have h2':cP (s,t,v)=some (vpay s.Types t v):=Lf H hv hw t hf;have h3':dm (s,t,v)=_:=Ld H hv hw t hf;rw[kT];simp only[ab.aA];rw[hr];simp only[oZ4,oZ3];rw[if_neg (by simp),h2'];simp only[oZ3];rw[h3'];unfold encA;generalize vpay s.Types t v=p;generalize vlev s.Types t v=l;by_cases g:4096 < p.length
 . have:decide ((4096:Int) < p.length)=true:=by simp;omega
   rw[this,if_neg (by simp)];simp only[oZ3,cond_true];rw[if_pos trivial,if_pos (.inl g)]
 . have:decide ((4096:Int) < p.length)=false:=by simp;omega
   rw[this,if_pos (by simp)];simp only[oZ3,cond_false];by_cases g2:200 < l
   . rw[if_pos (by simp;omega),if_pos (.inr g2)]
   . rw[if_neg (by simp;omega),if_neg (by omega)]
theorem KB{ts:List ae}(H:DrOk ts){t:Int}{v:ab}(hv:FitW ts t v):lC ((⟨ts⟩:av),t,v)=some (encA ts t v):=
 HI (s:=⟨ts⟩) (H.V.sok H.T) hv.2.1 (Nat.le_trans hv.2.2 (by decide)) hv.1 (wK H.T H.V hv.2.1 hv.1).1
theorem KD{ts:List ae}(H:DrOk ts){t:Int}{v:ab}(hv:FitW ts t v):kT ((⟨ts⟩:av),t,v)=some (encA ts t v):=
 HK (s:=⟨ts⟩) (H.V.sok H.T) hv.2.1 (Nat.le_trans hv.2.2 (by decide)) hv.1 (wK H.T H.V hv.2.1 hv.1).2
noncomputable def decA (ts:List ae) (t:Int) (m:List UInt8):ab×Int:=
 if t < 0\/(ts.length:Int)<=t then(vz,4)else if 4096 < m.length then(vz,12)else match vdec ts 200 t m with
  | some v=>(v,0)
  | none=>(vz,12)
theorem rF(ts:List ae)(t:Int)(m:List UInt8):(∃e,e≠0/\decA ts t m=(vz,e))\/∃v,decA ts t m=(v,0)/\(0<=t/\t < ts.length)/\m.length<=4096/\vdec ts 200 t m=some v:=by
 unfold decA;by_cases h1:t < 0\/(ts.length:Int)<=t
 . rw[if_pos h1];exact .inl ⟨4,by omega,rfl⟩
 . rw[if_neg h1];by_cases h2:4096 < m.length
   . rw[if_pos h2];exact .inl ⟨12,by omega,rfl⟩
   . rw[if_neg h2];cases hv:vdec ts 200 t m with
     | none=>exact .inl ⟨12,by omega,rfl⟩
     | some v=>exact .inr ⟨v,rfl,by omega,by omega,rfl⟩
section
variable {ts:List ae}
theorem HL(H:DcOk ts)(t:Int)(m:List UInt8):nT ((⟨ts⟩:av),t,m)=some (decA ts t m):=by
 rw[nT,q8,(rW H.S.T H.V).1];simp only[oZ4,oZ3];unfold decA;by_cases h1:t < 0\/(ts.length:Int)<=t
 . have c:(bif decide (t < 0)then true else decide ((ts.length:Int)<=t))=true:=by rcases h1 with h1 | h1 <;> simp[h1]
   rw[if_neg (by simp),if_pos c,if_pos h1];rfl
 . have c:¬(bif decide (t < 0)then true else decide ((ts.length:Int)<=t))=true:=by
    have a:¬t < 0:=fun h=>h1 (.inl h)
    have b:¬(ts.length:Int)<=t:=fun h=>h1 (.inr h)
    simp[a,b]
   by_cases h2:4096 < m.length
   . rw[if_neg (by simp),if_neg c,if_pos (by simp;omega),if_neg h1,if_pos h2];rfl
   . have d1:=Ac H 200 (by omega) t m [] 0 [] (by omega) (by omega) (by omega) rfl;rw[if_neg (by simp),if_neg c,if_neg (by simp;omega),if_neg h1,if_neg h2];cases hv:vdec ts 200 t m with
     | none=>
      obtain⟨w,f1,f2,hw⟩:=d1.2 hv;rw[hw];rfl
     | some v=>
      rw[d1.1 v hv];simp[ab.aA]
theorem HM(H:DcOk ts)(t:Int)(m:List UInt8):nB ((⟨ts⟩:av),t,m)=some (decA ts t m):=by
 have hr:nE ((⟨ts⟩:av),t)=some (if t < 0\/(ts.length:Int)<=t then 4 else 0):=by
  rw[nE,(rW H.S.T H.V).2];simp only[oZ4,oZ3];rw[if_neg (by simp)];by_cases h1:t < 0\/(ts.length:Int)<=t
  . rw[if_pos h1,if_pos];rcases h1 with h1 | h1 <;> simp[h1]
  . rw[if_neg h1,if_neg];have a:¬t < 0:=fun h=>h1 (.inl h)
    have b:¬(ts.length:Int)<=t:=fun h=>h1 (.inr h)
    simp[a,b]
 rw[nB,qk,hr];simp only[oZ4,oZ3];unfold decA;by_cases h1:t < 0\/(ts.length:Int)<=t
 . simp only[if_pos h1];rfl
 . by_cases h2:4096 < m.length
   . simp only[if_neg h1];rw[if_neg (by simp),if_pos (by simp;omega),if_pos h2,mB (by simp)];rfl
   . have d2:=y5 H 200 (by omega) t m [] (by omega) (by omega) (by omega) (by simp);rw[show((201 - 200:Nat):Int)=1 from rfl]at d2;simp only[if_neg h1];rw[if_neg (by simp),if_neg (by simp;omega),if_neg h2];cases hv:vdec ts 200 t m with
     | none=>
      obtain⟨F,hw⟩:=d2.2 hv;rw[hw];rfl
     | some v=>
      obtain⟨F,hw⟩:=d2.1 v hv;rw[hw];simp[ab.aA]
noncomputable def fwdA (ts:List ae) (t:Int) (m:List UInt8):List UInt8×Int:=if(decA ts t m).2=0 then encA ts t (decA ts t m).1 else([],(decA ts t m).2)
theorem sD(H:DrOk ts){t:Int}{m:List UInt8}(ht:0<=t/\t < ts.length)(hm:m.length<=4096){v:ab}(h:vdec ts 200 t m=some v):FitW ts t v:=by
 obtain⟨a,b,c⟩:=sC H 200 t m v (by omega) ht.1 ht.2 h;exact⟨a,b,by omega⟩
theorem vL(H:DrOk ts)(t:Int)(m:List UInt8):lD ((⟨ts⟩:av),t,m)=some (fwdA ts t m):=by
 rw[lD,HL H.dc];unfold fwdA;rcases rF ts t m with⟨e,he,hd⟩ | ⟨v,hd,ht,hm,hv⟩
 . rw[hd];simp[he]
 . rw[hd];simp only[oZ4,oZ3,ab.aA];rw[KB H (sD H ht hm hv)];simp
theorem Gr(H:DrOk ts)(t:Int)(m:List UInt8):nw ((⟨ts⟩:av),t,m)=some (fwdA ts t m):=by
 rw[nw,HM H.dc];unfold fwdA;rcases rF ts t m with⟨e,he,hd⟩ | ⟨v,hd,ht,hm,hv⟩
 . rw[hd];simp[he]
 . rw[hd];simp only[oZ4,oZ3,ab.aA];rw[KD H (sD H ht hm hv)];simp
theorem Lu(H:DrOk ts){t:Int}{m:List UInt8}(ht:0<=t/\t < ts.length)(hm:m.length<=4096)(h:vcan ts 200 t m):fwdA ts t m=(m,0):=by
 obtain⟨v,v1,v2,v3⟩:=Aj H 200 t m (by omega) ht.1 ht.2 h;have hd:decA ts t m=(v,0):=by
  unfold decA;rw[if_neg (by omega),if_neg (by omega),v1]
 unfold fwdA;rw[hd,if_pos rfl];unfold encA;rw[v2,if_neg]
 rintro (h | h)
 . omega
 . have:vlev ts t v > 200:=h;omega
theorem Lv(H:DrOk ts){t:Int}{m a:List UInt8}(h:fwdA ts t m=(a,0)):(0<=t/\t < ts.length)/\a.length<=4096/\vcan ts 200 t a:=by
 unfold fwdA at h;rcases rF ts t m with⟨e,he,hd⟩ | ⟨v,hd,ht,hm,hv⟩
 . rw[hd,if_neg he]at h;have:e=0:=by simpa using congrArg Prod.snd h
   exact absurd this he
 . rw[hd,if_pos rfl]at h;unfold encA at h;obtain⟨f1,f2,f3⟩:=sD H ht hm hv;split at h
   . have:=congrArg Prod.snd h;simp at this
   . rename_i hc;have e:vpay ts t v=a:=congrArg Prod.fst h;have hl:¬4096 < (vpay ts t v).length:=fun h=>hc (.inl h)
     have hv2:¬200 < vlev ts t v:=fun h=>hc (.inr h)
     refine⟨ht,by rw[<-e];exact Nat.le_of_not_lt hl,?_⟩;rw[<-e];exact HF H f2 (Nat.le_trans f3 (by decide)) (Nat.le_trans (Nat.le_of_not_lt hl) (by decide)) f1 (Nat.le_of_not_lt hv2)
theorem Gs{d:aT}(hd:DOk d)(t:Int)(m:List UInt8):nk (d,t,m)=some true:=by
 rw[nk];rcases of_ok hd with h | ⟨l,h,H⟩
 . rw[h,tk];rfl
 . rw[h,tk];simp only[oZ4,oZ3];split
   . rfl
   . have F1:=vL H t m;have F2:=Gr H t m;rw[F1,F2];simp only[oZ3];by_cases h0:(fwdA l t m).2=0
     . rw[if_neg (by simp[h0])];obtain⟨a,b,c⟩:=Lv H (m:=m) (a:=(fwdA l t m).1) (show fwdA l t m=((fwdA l t m).1,0) by rw[<-h0]);have G1:=vL H t (fwdA l t m).1;rw[G1,Lu H a b c];simp
     . rw[if_pos (by simp[h0])];simp
theorem law_RelayForward(h:Hs Un.D [.nm tx,.int .i64,.str])(hk:Ok Un [.nm tx,.int .i64,.str] h):nk h=some true:=by
 obtain⟨d,t,m⟩:=h;exact Gs (Li (ND hk ⟨.slice (.nm qc),d.Nodes⟩ (.head _))) t m
end
end
end Go.Proofs.YtijpinendaoleaaGreat
