/- The functions of the program as functions of Lean, that its code does what they say, and what they answer; part C. -/
import Derived.Test.YtkbmjabicjpmjaaGreatDoorCbB

namespace Go.Proofs.YtkbmjabicjpmjaaGreatDoor
set_option linter.all false
section
open Go Go.Proofs.YtkbmjabicjpmjaaGreatDoor.Shv Go.Sort
set_option maxRecDepth 100000
section
variable {ns:List Nd} (hN:∀x,x∈ns->NOk x) (h5:ns.length<=5)
structure MemP (ns:List Nd) (i:Int) (record:Bool) (m:av):Prop where
 id:1<=m.ID/\m.ID<=12
 name:m.Name=[UInt8.ofNat 109,UInt8.ofNat (97+m.ID.toNat)]
 tgt:Tgt ns i m.Type_
 crit:m.Critical=true->m.HasDefault=false
 un:record=false->m.Critical=false/\m.HasDefault=false
 nod:m.HasDefault=false->m.Default=aj
 dfl:m.HasDefault=true->Init ns m.Type_ m.Default
include hN h5 in
theorem A8 (h1:1<=ns.length) {i:Int} (hi:0<=i/\i<ns.length) {x:Nd} (hx:NOk x) (record:Bool) {id:Int} (hid:1<=id/\id<=12) {acc:List av} (ha:acc.length<=12):
 ∀(k j:Nat),j+k=x.Parts.length->∃l,gq (i,record,id,(j:Int),ns,x,acc)=some (i,record,id,ns,x,acc++l)/\l.length<=1/\∀m,m∈l->m.ID=id/\MemP ns i record m
 |0,j,hj=>⟨[],by rw[gq,if_neg (by simp;omega)];simp,by simp,λm hm=>by cases hm⟩
 |k+1,j,hj=>by
  have hlt:j<x.Parts.length:=by omega
  have hr:=aZ hx.l;obtain⟨q1,q2,q3⟩:=hx.p _ (aB hlt dPt);obtain⟨u,hu,hu2⟩:=M1 hN h5 h1 hi q2;rw[gq,if_pos (by simp;omega),if_pos (aq hlt)];simp only[oZ4,oZ3,aA];have hu':l7 ((⟨ns⟩:aW),i,(x.Parts.getD j bW).Type_)=some u:=hu;rw[hu'];simp only[oZ3];generalize hp:x.Parts.getD j bW=p
  have q1':U8 p.ID:=by rw[<-hp];exact q1
  have q3':U8 p.Flag:=by rw[<-hp];exact q3
  obtain⟨f1,f2⟩:=q3';have e1:remI p.Flag 4=p.Flag%4:=bV f1 (by omega);have e2:quoI .u8 p.Flag 4=p.Flag/4:=Qc f1 f2;have rec':=A8 h1 hi hx record hid ha k (j+1) (by omega);by_cases hskip:(bif (!(decide (addI .i64 1 (wrp .i64 (remI p.ID 12))=id)))then true else decide (u<0))=true
  . rw[if_pos hskip,aC (by omega)];exact rec'
  . rw[if_neg hskip];have hu0:Tgt ns i u:=by grind
    have hrune:=DK (k:=id) ⟨by omega,by omega⟩;rw[hrune];have hname:([109]++[UInt8.ofNat (97+id.toNat)]:List UInt8)=[UInt8.ofNat 109,UInt8.ofNat (97+id.toNat)]:=rfl;rw[if_pos (bz (by simp)),hname,e1,e2];obtain⟨r,r1,r2,r3⟩:=LV hN h5 h1 ⟨hu0.1,hu0.2.1⟩ (code:=p.Flag/4) ⟨by omega,by omega⟩
    have hroom:∀m:av,room 160 (acc++[m]).length=true:=λm=>bl (by omega) (by simp;omega)
    have done:∀m:av,m.ID=id->MemP ns i record m->∃l,(some (i,record,id,ns,x,acc++[m]):Option (Int×Bool×Int×List Nd×Nd×List av))=some (i,record,id,ns,x,acc++l)/\l.length<=1/\∀m,m∈l->m.ID=id/\MemP ns i record m:=λm a b=>⟨[m],rfl,by simp,λy hy=>by grind⟩
    cases record with
    |false=>
     simp only[cond_false,Bool.false_eq_true,if_false];rw[if_pos (hroom _)];exact done _ rfl ⟨hid,rfl,hu0,λh=>(by cases h),λ_=>⟨rfl,rfl⟩,λ_=>rfl,λh=>by cases h⟩
    |true=>
     simp only[cond_true];by_cases g1:p.Flag%4=1
     . rw[if_pos (by simpa using g1),if_neg (by simp;omega),if_pos (hroom _)];exact done _ rfl ⟨hid,rfl,hu0,λ_=>rfl,λh=>(by cases h),λ_=>rfl,λh=>by cases h⟩
     . rw[if_neg (by simpa using g1)];by_cases g2:2<=p.Flag%4
       . rw[if_pos (by simpa using g2),r1];simp only[oZ3,ab.aD];rw[if_pos (hroom _)];exact done _ rfl ⟨hid,rfl,hu0,λh=>(by cases h),λh=>(by cases h),r2,r3⟩
       . rw[if_neg (by simpa using g2),if_pos (hroom _)];exact done _ rfl ⟨hid,rfl,hu0,λh=>(by cases h),λh=>(by cases h),λ_=>rfl,λh=>by cases h⟩
def MemsP(ns:List Nd)(i:Int)(record:Bool)(l:List av):Prop:=l.Pairwise (λa b=>a.ID<b.ID)/\(∀m,m∈l->MemP ns i record m)/\l.length<=12
include hN h5 in
theorem A9 (h1:1<=ns.length) {i:Int} (hi:0<=i/\i<ns.length) {x:Nd} (hx:NOk x) (record:Bool):∀ (k id:Nat) (acc:List av),id+k = 13->1<=id->
 acc.Pairwise (λa b=>a.ID<b.ID)->(∀m,m∈acc->MemP ns i record m/\m.ID<id)->acc.length<id->∃l,gz (i,record,(id:Int),ns,x,acc)=some l/\MemsP ns i record l
 |0,id,acc,hk,h0,ha,hb,hl=>⟨acc,by rw[gz,if_neg (by simp;omega)],ha,λm hm=>(hb m hm).1,by omega⟩
 |k+1,id,acc,hk,h0,ha,hb,hl=>by
  rw[gz,if_pos (by simp;omega)];obtain⟨l,l1,l2,l3⟩:=A8 hN h5 h1 hi hx record (id:=(id:Int)) ⟨by omega,by omega⟩ (acc:=acc) (by omega) x.Parts.length 0 (by omega);have l1':gq (i,record,(id:Int),0,ns,x,acc)=_:=l1;rw[l1'];simp only[oZ4,oZ3];rw[aC (by omega)]
  refine A9 h1 hi hx record k (id+1) _ (by omega) (by omega) ?_ (λm hm=>?_) (by simp;omega)
  . rw[List.pairwise_append];refine⟨ha,?_,λa h2 b h3=>?_⟩
    . match l,l2 with
      |[],_=>exact .nil
      |[a],_=>simp
      |a::b::c,h=>simp at h
    grind
  grind
include hN h5 in
theorem Ba(h1:1<=ns.length){i:Int}(hi:0<=i/\i<ns.length)(record:Bool):∃l,jd ((⟨ns⟩:aW),i,record)=some l/\MemsP ns i record l:=by
 obtain⟨j,rfl⟩:∃j:Nat,i=(j:Int):=⟨i.toNat,by omega⟩
 have hj:j<ns.length:=by omega
 have hx:=hN _ (aB hj dNd);obtain⟨l,l1,l2⟩:=A9 hN h5 h1 hi hx record 12 1 [] (by omega) (by omega) .nil (λm hm=>by cases hm) (by simp);refine⟨l,?_,l2⟩;have l1':gz ((j:Int),record,1,ns,ns.getD j dNd,[])=some l:=l1;rw[jd,if_pos (aq hj),aA]
 grind
def symsL(l:List Int):List aO:=l.map λj=>⟨j,[UInt8.ofNat 115,UInt8.ofNat (97+j.toNat)]⟩
theorem Cc {l:List Int} (hl:l.length<=6) (hr:∀ x,x∈l->1<=x/\x<=6) (n i:Int) (b:List Nd) (b1:Int) (b2:List UInt8) (b3 b4 b5 b6 b7:Int) (b8:Bool) (b9:List ae):∀ (k j:Nat) (acc:List aO),j+k = l.length->acc.length<=j->
 fy (n,i,l,(j:Int),b,b1,b2,b3,b4,b5,b6,b7,b8,b9,acc)=some (n,i,b,b1,b2,b3,b4,b5,b6,b7,b8,b9,acc++symsL (l.drop j))
 |0,j,acc,hj,ha=>by
  rw[fy,if_neg (by simp;omega),List.drop_eq_nil_of_le (by omega:l.length<=j)];simp[symsL]
 |k+1,j,acc,hj,ha=>by
  have hlt:j<l.length:=by omega
  have hx:=hr _ (aB hlt 0);rw[fy,if_pos (by simp;omega),if_pos (aq hlt),if_pos (aq hlt)];simp only[oZ4,oZ3,aA];rw[DK ⟨by omega,by omega⟩,if_pos (bz (by simp)),if_pos (bl (by omega) (by simp;omega)),aC (by omega),Cc hl hr n i b b1 b2 b3 b4 b5 b6 b7 b8 b9 k (j+1) _ (by omega) (by simp;omega),bu hlt 0];simp[symsL]
def TyP(ns:List Nd)(i:Int)(t:ae):Prop:=
 let x:=ns.getD i.toNat dNd
 let n:=(ns.length:Int)
 let nameL:=[UInt8.ofNat (65+i.toNat)]
 (kd ns i=1/\t=⟨1,[],0,0,0,[],[],0,0,false⟩)\/
 (kd ns i=2/\t=⟨2,[],x.A%7-3,x.A%7-3+x.B%6,0,[],[],0,0,false⟩)\/
 (kd ns i=3/\t=⟨3,[],0,0,x.A%4,[],[],0,0,false⟩)\/
 (kd ns i=4/\∃o,t=⟨4,nameL,0,0,0,symsL (idsL x),[],0,0,o⟩)\/
 (kd ns i=5/\∃l,MemsP ns i true l/\t=⟨5,nameL,0,0,0,[],l,0,0,false⟩)\/
 (kd ns i=6/\t=⟨5,nameL,0,0,0,[],[],0,0,false⟩)\/
 (kd ns i=6/\∃l o,MemsP ns i false l/\0<l.length/\t=⟨6,nameL,0,0,0,[],l,0,0,o⟩)\/
 (kd ns i=7/\t=⟨7,[],0,0,x.A%4,[],[],0,x.C%n,false⟩)\/
 (kd ns i=8/\(∀w,¬KeyT ns w)/\t=⟨7,[],0,0,x.A%4,[],[],0,x.C%n,false⟩)\/
 (kd ns i=8/\∃k,KeyT ns k/\t=⟨8,[],0,0,x.A%4,[],[],k,x.C%n,false⟩)\/
 (kd ns i=9/\t=⟨9,[],0,0,0,[],[],0,x.C%n,false⟩)
include hN h5 in
theorem of_l0 (h1:1<=ns.length):∀ (k i:Nat) (acc:List ae),i+k = ns.length->acc.length = i->(∀ j,j<i->TyP ns (j:Int) (acc.getD j ag))->
 ∃l,bm ((ns.length:Int),(i:Int),ns,acc)=some l/\l.length=ns.length/\∀j,j<ns.length->TyP ns (j:Int) (l.getD j ag)
 |0,i,acc,hi,hl,ha=>⟨acc,by rw[bm,if_neg (by simp;omega)],by omega,λj hj=>ha j (by omega)⟩
 |k+1,i,acc,hi,hl,ha=>by
  have hlt:i<ns.length:=by omega
  have hx:=hN _ (aB hlt dNd);obtain⟨e,k1,k9⟩:=kd_eq hN h5 (i:=(i:Int)) (by omega) (by omega);have next:∀t:ae,TyP ns (i:Int) t->∃l,(if room 120 (acc++[t]).length=true then bm ((ns.length:Int),addI .i64 (i:Int) 1,ns,acc++[t])else none)=some l/\l.length=ns.length/\∀j,j<ns.length->TyP ns (j:Int) (l.getD j ag):=by
   intro t ht;rw[if_pos (bl (by omega) (by simp;omega)),aC (by omega)];refine of_l0 h1 k (i+1) _ (by omega) (by simp;omega) λj hj=>?_
   grind
  rw[bm,if_pos (by simp;omega),if_pos (aq hlt)];simp only[oZ4,oZ3,aA];rw[e];simp only[oZ3,cn];have hrune:=Qd (k:=(i:Int)) ⟨by omega,by omega⟩;have hT:∀t,TyP ns (i:Int) t->TyP ns (i:Int) t:=λt h=>h
  have⟨ga,gb,gc⟩:U8 (ns.getD i dNd).A/\U8 (ns.getD i dNd).B/\U8 (ns.getD i dNd).C:=⟨hx.a,hx.b,hx.c⟩
  have g0:(!(decide ((ns.length:Int)=0)))=true:=nz (by omega);have gA:wrp .i64 (remI (ns.getD i dNd).A 4)=(ns.getD i dNd).A%4:=by
   unfold U8 at ga;rw[bV ga.1 (by omega),cX ⟨by omega,by omega⟩]
  have gC:remI (wrp .i64 (ns.getD i dNd).C) (ns.length:Int)=(ns.getD i dNd).C%(ns.length:Int):=by
   unfold U8 at gc;rw[cX ⟨by omega,by omega⟩,bV gc.1 (by omega)]
  have hc9:kd ns (i:Int)=1\/kd ns (i:Int)=2\/kd ns (i:Int)=3\/kd ns (i:Int)=4\/kd ns (i:Int)=5\/kd ns (i:Int)=6\/kd ns (i:Int)=7\/kd ns (i:Int)=8\/kd ns (i:Int)=9:=by omega
  rcases hc9 with hk|hk|hk|hk|hk|hk|hk|hk|hk<;>rw[hk] <;>
   simp only[Int.reduceEq,decide_false,decide_true,Bool.false_eq_true,if_false,if_true,oZ3,cond_false,cond_true]
  . exact next _ (by unfold TyP;simp[hk])
  . have el:=vz hx;have eh:=Cb hx;have el':fF (ns.getD i az)=_:=el;have eh':jl (ns.getD i az)=_:=eh;rw[el'];simp only[oZ3];rw[eh'];simp only[oZ3];exact next _ (by unfold TyP;simp only[aA];exact .inr (.inl ⟨hk,by first|trivial|rfl⟩))
  . have gA':wrp .i64 (remI (ns.getD i az).A 4)=_:=gA;rw[gA'];exact next _ (by unfold TyP;simp only[aA];exact .inr (.inr (.inl ⟨hk,by first|trivial|rfl⟩)))
  . obtain⟨i1,i2,i3,i4⟩:=ids_eq' (ns.getD i dNd);have i1':eL (ns.getD i az)=_:=i1;rw[i1'];simp only[oZ3];have hs:=Cc (l:=idsL (ns.getD i dNd)) i4 i2.2 (ns.length:Int) (i:Int) ns 4 (eV (wrp .i32 (addI .i64 65 (i:Int)))) 0 0 0 0 0 (decide (remI (ns.getD i dNd).B 2=1)) acc (idsL (ns.getD i dNd)).length 0 [] (by omega) (by simp)
    have hs':fy ((ns.length:Int),(i:Int),idsL (ns.getD i dNd),0,ns,4,eV (wrp .i32 (addI .i64 65 (i:Int))),0,0,0,0,0,decide (remI (ns.getD i az).B 2=1),acc,[])=_:=hs;rw[hs'];simp only[oZ3,List.drop_zero,List.nil_append];rw[hrune];exact next _ (by unfold TyP;simp only[aA];exact .inr (.inr (.inr (.inl ⟨hk,_,rfl⟩))))
  . obtain⟨l,l1,l2⟩:=Ba hN h5 h1 (i:=(i:Int)) ⟨by omega,by omega⟩ true;rw[l1];simp only[oZ3];rw[hrune];exact next _ (by unfold TyP;simp only[aA];exact .inr (.inr (.inr (.inr (.inl ⟨hk,l,l2,rfl⟩)))))
  . obtain⟨l,l1,l2⟩:=Ba hN h5 h1 (i:=(i:Int)) ⟨by omega,by omega⟩ false;rw[l1];simp only[oZ3];rw[hrune];by_cases h0:l.length=0
    . rw[if_pos (by simp[h0])];exact next _ (by unfold TyP;simp only[aA];exact .inr (.inr (.inr (.inr (.inr (.inl ⟨hk,by first|trivial|rfl⟩))))))
    . rw[if_neg (by simp;intro h;rw[h]at h0;simp at h0)];exact next _ (by unfold TyP;simp only[aA];exact .inr (.inr (.inr (.inr (.inr (.inr (.inl ⟨hk,l,_,l2,by omega,rfl⟩)))))))
  . have gA':wrp .i64 (remI (ns.getD i az).A 4)=_:=gA;have gC':remI (wrp .i64 (ns.getD i az).C) (ns.length:Int)=_:=gC;rw[if_pos g0,gA',gC'];exact next _ (by unfold TyP;simp only[aA];exact .inr (.inr (.inr (.inr (.inr (.inr (.inr (.inl ⟨hk,by first|trivial|rfl⟩))))))))
  . have gA':wrp .i64 (remI (ns.getD i az).A 4)=_:=gA;have gC':remI (wrp .i64 (ns.getD i az).C) (ns.length:Int)=_:=gC;obtain⟨u,u1,u2⟩:=DN hN h5 gb h1;have u1':jo ((⟨ns⟩:aW),(ns.getD i az).B)=some u:=u1;rw[u1'];simp only[oZ3];rw[if_pos g0,gA',gC'];rcases u2 with⟨rfl,a⟩|a
    . rw[if_pos (by simp)];exact next _ (by unfold TyP;simp only[aA];exact .inr (.inr (.inr (.inr (.inr (.inr (.inr (.inr (.inl ⟨hk,a,by first|trivial|rfl⟩)))))))))
    . rw[if_neg (by have:=a.1;simp;omega)];exact next _ (by unfold TyP;simp only[aA];exact .inr (.inr (.inr (.inr (.inr (.inr (.inr (.inr (.inr (.inl ⟨hk,u,a,rfl⟩))))))))))
  . have gC':remI (wrp .i64 (ns.getD i az).C) (ns.length:Int)=_:=gC;rw[if_pos g0,gC'];exact next _ (by unfold TyP;simp only[aA];exact .inr (.inr (.inr (.inr (.inr (.inr (.inr (.inr (.inr (.inr ⟨hk,by first|trivial|rfl⟩))))))))))
end
def DOk(d:aW):Prop:=d.Nodes.length<=reachBytes/\∀x,x∈d.Nodes->NOk x
theorem of_eq{d:aW}(hd:DOk d):ie d=some (⟨[]⟩,false)\/∃l,ie d=some (⟨l⟩,true)/\1<=d.Nodes.length/\d.Nodes.length<=5/\l.length=d.Nodes.length/\∀j,j<d.Nodes.length->TyP d.Nodes (j:Int) (l.getD j ag):=by
 rw[ie];simp only[oZ4,oZ3];by_cases h:1<=d.Nodes.length/\d.Nodes.length<=5
 . obtain⟨l,l1,l2,l3⟩:=of_l0 hd.2 h.2 h.1 d.Nodes.length 0 [] (by omega) rfl (λj hj=>by omega)
   grind
 grind
structure DrOk (ts:List ae):Prop where
 n1:1<=ts.length
 n5:ts.length<=5
 T:∀t,t∈ts->OkT t
 V:VOk ts
 D:∀t,t∈ts->gi ts t.Members
 R:∀i:Nat,i<ts.length->∀m,m∈(ts.getD i ag).Members->0<=m.Type_/\m.Type_<ts.length/\(7<=(ts.getD m.Type_.toNat ag).Kind\/m.Type_<i)
 L:∀t,t∈ts->t.Kind=2->-3<=t.Low/\t.High<=8
 M:∀t,t∈ts->t.Max<=3
 I:∀t,t∈ts->(∀m,m∈t.Members->m.ID<=12)/\(∀y,y∈t.Symbols->y.ID<=6)/\t.Members.length<=12
 W:∀t,t∈ts->∀m,m∈t.Members->m.HasDefault=true->wt m.Default<=13
theorem Bb{v:ab}(hk:v.Keys=[])(hi:v.Items=[])(hr:v.Rest=[])(hs:v.Str.length<=1000)(n1:I64 v.Kind)(n2:I64 v.Int_)(n3:I64 v.ID):OkV v:=by
 refine .mk v (by grind[reachBytes]) (by grind) (by grind) (by grind) (λx hx=>?_) (λx hx=>?_) (λx hx=>?_) n1 n2 n3 (λx hx=>?_)
 all_goals grind
theorem okV_d:OkV aj:=Bb rfl rfl rfl (by simp[aj]) (by grind[I64,aj]) (by grind[I64,aj]) (by grind[I64,aj])
theorem OY{v:ab}(hk:v.Keys=[])(hi:v.Items=[])(hr:v.Rest=[]):wt v=10+v.Str.length:=by
 grind[wt_eq,OW]
section
variable {ns:List Nd} (hN:∀x,x∈ns->NOk x) (h5:ns.length<=5) (h1:1<=ns.length) {l:List ae} (hl:l.length=ns.length) (hT:∀j,j<ns.length->TyP ns (j:Int) (l.getD j ag))
include hN h5 in
theorem Cd{t:Int}(ht:0<=t/\t<ns.length){v:ab}(h:Init ns t v):OkV v/\wt v<=13:=by
 obtain⟨a,b,c,h⟩:=h;obtain⟨j,rfl⟩:∃j:Nat,t=j:=⟨t.toNat,by omega⟩
 obtain⟨_,k1,k9⟩:=kd_eq hN h5 ht.1 ht.2;rw[aA]at h;have hids:=(ids_eq' (ns.getD j dNd)).2.1.2;rw[OY a b c];have hs:v.Str.length<=3:=by grind
 refine⟨Bb a b c (by omega) ?_ ?_ ?_,by omega⟩
 . unfold I64;rcases h with h|h|h|h|h<;>omega
 . unfold I64;rcases h with⟨_,_,e,_⟩|⟨_,_,_,_,_,e⟩|⟨_,_,_,e,_⟩|⟨_,_,_,e,_⟩|⟨_,_,e,_⟩<;>omega
 . unfold I64
   grind
include hN h5 in
theorem zg{i:Int}{r:Bool}{Ms:List av}(h:MemsP ns i r Ms):gh (!r) Ms\/(r=false/\Ms=[]):=by
 obtain⟨a,b,c⟩:=h;by_cases h0:r=false/\Ms=[]
 . grind
 left;refine⟨λm hm=>?_,?_,⟨a,λm hm=>?_⟩,λm hm=>?_,?_,by omega⟩
 . have q:=b m hm;unfold badM;have hz:m.HasDefault=false->gg m.Default=true:=λh=>by
    rw[q.nod h];have h3:=qM okV_d aj;obtain⟨w,w1,w2⟩:=h3
    grind[gg]
   have hc:=q.crit;have hu:=q.un
   grind
 . grind
 . have:=(b m hm).id;exact⟨by omega,by omega⟩
 . have q:=b m hm;have:=q.id;rw[q.name];exact DL (by simp) (by omega)
 . unfold List.Nodup;rw[List.pairwise_map];refine a.imp_of_mem λ{x y} hx hy hlt=>?_
   have qx:=b x hx;have qy:=b y hy;have iy:=qy.id;rw[qx.name,qy.name]
   grind[kG]
theorem zh{l:List Int}(h:IdsOk l 6)(h1:1<=l.length)(h6:l.length<=6):oQ (symsL l)/\(∀y,y∈symsL l->y.ID<=6):=by
 unfold symsL;refine⟨⟨by grind,⟨?_,λy hy=>?_⟩,λy hy=>?_,?_,by grind⟩,λy hy=>?_⟩
 . rw[List.pairwise_map];exact h.1
 . obtain⟨x,hx,rfl⟩:=List.mem_map.1 hy;have:=h.2 x hx;exact⟨this.1,by grind⟩
 . obtain⟨x,hx,rfl⟩:=List.mem_map.1 hy;have:=h.2 x hx;exact DL (by simp) (by omega)
 . unfold List.Nodup;rw[List.pairwise_map,List.pairwise_map];refine h.1.imp_of_mem λ{x y} hx hy hlt=>?_
   have iy:=h.2 y hy
   grind[kG]
 . obtain⟨x,hx,rfl⟩:=List.mem_map.1 hy;exact(h.2 x hx).2
theorem Ce{i:Int}{t:ae}(h:TyP ns i t):(kd ns i<=5\/kd ns i=7\/kd ns i=9->t.Kind=kd ns i)/\(kd ns i=6->t.Kind=5\/t.Kind=6)/\(kd ns i=8->(t.Kind=8/\∃w,KeyT ns w)\/(t.Kind=7/\¬∃w,KeyT ns w)):=by
 rcases h with⟨k,rfl⟩|⟨k,rfl⟩|⟨k,rfl⟩|⟨k,_,rfl⟩|⟨k,_,_,rfl⟩|⟨k,rfl⟩|⟨k,_,_,_,_,rfl⟩|⟨k,rfl⟩|⟨k,a,rfl⟩|⟨k,w,a,rfl⟩|⟨k,rfl⟩<;>simp[k]
 . omega
 grind
theorem ub{i:Int}{t:ae}(h:TyP ns i t):t.Members=[]\/∃r,MemsP ns i r t.Members:=by
 rcases h with⟨k,rfl⟩|⟨k,rfl⟩|⟨k,rfl⟩|⟨k,_,rfl⟩|⟨k,_,a,rfl⟩|⟨k,rfl⟩|⟨k,_,_,a,_,rfl⟩|⟨k,rfl⟩|⟨k,a,rfl⟩|⟨k,w,a,rfl⟩|⟨k,rfl⟩
 all_goals grind
include hN h5 h1 hl hT in
theorem N7:DrOk l:=by
 have lift:∀{P:ae->Prop},(∀j,j<ns.length->P (l.getD j ag))->∀t,t∈l->P t:=λhp t ht=>by
  obtain⟨i,hi,rfl⟩:=List.getElem_of_mem ht
  grind
 have hx:∀j,j<ns.length->NOk (ns.getD j dNd):=λj hj=>hN _ (aB hj dNd)
 have mem:∀j,j<ns.length->∀m,m∈(l.getD j ag).Members->∃r,MemP ns (j:Int) r m:=λj hj m hm=>by
  rcases ub (hT j hj)with h|⟨r,_,h,_⟩
  . grind
  grind
 have okT:∀t,t∈l->OkT t:=lift λj hj=>by
  have hm:=mem j hj;have ht:=hT j hj;have hlm:(l.getD j ag).Members.length<=12:=by
   rcases ub ht with h|⟨r,_,_,h⟩
   . rw[h];simp
   . exact h
  have hls:(l.getD j ag).Symbols.length<=6:=by
   have hi:=(ids_eq' (ns.getD j dNd)).2.2.2;unfold TyP at ht;rcases ht with⟨k,e⟩|⟨k,e⟩|⟨k,e⟩|⟨k,_,e⟩|⟨k,_,_,e⟩|⟨k,e⟩|⟨k,_,_,_,_,e⟩|⟨k,e⟩|⟨k,_,e⟩|⟨k,_,_,e⟩|⟨k,e⟩<;>rw[e]
   case inr.inr.inr.inl=>simp only[aA,symsL,List.length_map];exact hi
   all_goals simp
  refine⟨by unfold reachBytes;omega,by unfold reachBytes;omega,λm hm'=>?_⟩;obtain⟨r,q⟩:=hm m hm';by_cases hd:m.HasDefault=true
  . exact(Cd hN h5 ⟨q.tgt.1,q.tgt.2.1⟩ (q.dfl hd)).1
  . rw[q.nod (by simpa using hd)];exact okV_d
 have kind7:∀u:Int,0<=u->u<ns.length->7<=kd ns u->7<=(l.getD u.toNat ag).Kind:=λu h0 hu h7=>by
  obtain⟨j,rfl⟩:∃j:Nat,u=(j:Int):=⟨u.toNat,by omega⟩
  rw[aA];obtain⟨_,_,k9⟩:=kd_eq hN h5 h0 hu;obtain⟨a,b,c⟩:=Ce (hT j (by omega));omega
 have vok:VOk l:=by
  refine⟨by omega,lift λj hj=>?_,λj hj=>?_,lift λj hj=>?_,lift λj hj h8=>?_⟩
  . have ht:=hT j hj;have hid:=ids_eq' (ns.getD j dNd);have ha:=(hx j hj).a;have hb:=(hx j hj).b;have hnm:nm [UInt8.ofNat (65+j)]=true:=Qe (by omega);unfold U8 at ha hb;unfold TyP at ht;simp only[aA]at ht;generalize [UInt8.ofNat (65+j)]=nmL at hnm ht;unfold FormP
    rcases ht with⟨k,e⟩|⟨k,e⟩|⟨k,e⟩|⟨k,_,e⟩|⟨k,Ms,a,e⟩|⟨k,e⟩|⟨k,Ms,_,a,a0,e⟩|⟨k,e⟩|⟨k,_,e⟩|⟨k,_,_,e⟩|⟨k,e⟩<;>rw[e]
    . simp
    . simp;omega
    . simp;omega
    . simp;exact⟨hnm,(zh hid.2.1 hid.2.2.1 hid.2.2.2).1⟩
    . simp;refine⟨hnm,?_⟩;rcases zg hN h5 a with h|⟨h,_⟩
      . exact h
      . cases h
    . simp;exact⟨hnm,λm hm=>(by cases hm),.inl rfl,⟨.nil,λm hm=>by cases hm⟩,λm hm=>(by cases hm),by simp,by simp⟩
    . simp;refine⟨hnm,?_⟩;rcases zg hN h5 a with h|⟨_,h⟩
      . exact h
      grind
    . simp;omega
    . simp;omega
    . simp;omega
    . simp
  ·
   have nameOf:∀k,k<ns.length->(l.getD k ag).Name=[]\/(l.getD k ag).Name=[UInt8.ofNat (65+k)]:=λk hk=>by
    have ht:=hT k hk;unfold TyP at ht;simp only[aA]at ht;rcases ht with⟨k,e⟩|⟨k,e⟩|⟨k,e⟩|⟨k,_,e⟩|⟨k,Ms,a,e⟩|⟨k,e⟩|⟨k,Ms,_,a,a0,e⟩|⟨k,e⟩|⟨k,_,e⟩|⟨k,_,_,e⟩|⟨k,e⟩<;>rw[e]<;>simp
   rcases nameOf j (by omega)with h|h
   . rw[h];simp
   . rw[h];simp only[Bool.and_eq_false_iff];right;apply Bool.eq_false_iff.2;intro hc;obtain⟨k,hk,he⟩:=(il (by simp;omega)).1 hc;have hg:(l.map (·.Name)).getD k []=(l.getD k ag).Name:=cf (·.Name) l k ag [] (by omega);rw[hg]at he;rcases nameOf k (by omega)with h'|h'
     . grind
     . rw[h']at he;simp only[List.cons.injEq,and_true]at he;have e2:=congrArg UInt8.toNat he;rw[kG (by omega),kG (by omega)]at e2;omega
  . intro u hu;have hm:=mem j hj;have hc:=(hx j hj).c;unfold U8 at hc;have c0:0<=(ns.getD j dNd).C%(ns.length:Int):=Int.emod_nonneg _ (by omega);have c1:(ns.getD j dNd).C%(ns.length:Int)<ns.length:=Int.emod_lt_of_pos _ (by omega);have ht:=hT j hj;unfold TyP at ht;simp only[aA]at ht;generalize (ns.getD j dNd).C%(ns.length:Int)=cc at c0 c1 ht;unfold usesL at hu
    simp only[List.mem_append,List.mem_map]at hu;rcases hu with(⟨m,h,rfl⟩|h)|h
    . obtain⟨r,q⟩:=hm m h;have:=q.tgt.1;have:=q.tgt.2.1;omega
    . split at h
      . rename_i h8;have:u=(l.getD j ag).Key:=by simpa using h
        rw[this];rcases ht with⟨k,e⟩|⟨k,e⟩|⟨k,e⟩|⟨k,_,e⟩|⟨k,Ms,a,e⟩|⟨k,e⟩|⟨k,Ms,_,a,a0,e⟩|⟨k,e⟩|⟨k,_,e⟩|⟨k,w,a,e⟩|⟨k,e⟩<;>rw[e]at h8⊢<;>simp at h8⊢
        obtain⟨w0,w1,_⟩:=a;omega
      . cases h
    . split at h
      . rename_i h7;have:u=(l.getD j ag).Elem:=by simpa using h
        rw[this];rcases ht with⟨k,e⟩|⟨k,e⟩|⟨k,e⟩|⟨k,_,e⟩|⟨k,Ms,a,e⟩|⟨k,e⟩|⟨k,Ms,_,a,a0,e⟩|⟨k,e⟩|⟨k,_,e⟩|⟨k,w,a,e⟩|⟨k,e⟩<;>rw[e]at h7⊢<;>simp at h7⊢<;>omega
      . cases h
  . have ht:=hT j hj;unfold TyP at ht;simp only[aA]at ht;rcases ht with⟨k,e⟩|⟨k,e⟩|⟨k,e⟩|⟨k,_,e⟩|⟨k,Ms,a,e⟩|⟨k,e⟩|⟨k,Ms,_,a,a0,e⟩|⟨k,e⟩|⟨k,_,e⟩|⟨k,w,a,e⟩|⟨k,e⟩<;>rw[e]at h8⊢<;>simp at h8⊢
    obtain⟨w0,w1,w2,w3⟩:=a;obtain⟨q,rfl⟩:∃q:Nat,w=(q:Int):=⟨w.toNat,by omega⟩
    obtain⟨a,_,_⟩:=Ce (hT q (by omega));have:=a (.inl (by omega));simp_all
 refine⟨by omega,by omega,okT,vok,lift λj hj m hm hd=>?_,λj hj m hm=>?_,lift λj hj h2=>?_,lift λj hj=>?_,lift λj hj=>⟨λm hm=>?_,λy hy=>?_,?_⟩,lift λj hj m hm hd=>?_⟩
 . obtain⟨r,q⟩:=mem j hj m hm;have hi:=q.dfl hd;obtain⟨u0,u1,_⟩:=q.tgt;generalize m.Default=v at hi;obtain⟨u,hu⟩:∃u:Nat,m.Type_=(u:Int):=⟨m.Type_.toNat,by omega⟩
   rw[hu]at hi u0 u1⊢;have ht:=hT u (by omega);obtain⟨a,b,c,hi⟩:=hi;rw[ck];simp only[aA]at hi⊢;unfold TyP at ht;simp only[aA]at ht;have hlen:((l.length:Nat):Int)=ns.length:=by omega
   rw[hlen];generalize l.getD u ag=x at ht⊢;rw[a,b,c];have vn:∀t,vfits l true t []:=λt=>by rw[vfits];trivial
   have ka:jN []:=λi hi=>by simp at hi
   have hxu:=hx u (by omega);generalize ns.getD u dNd=nd at ht hi hxu;rcases hi with⟨k,e1,e2,e3,e4⟩|⟨k,e1,e2,e3,e4,e5,e6⟩|⟨k,e1,e2,e3,e4,e5⟩|⟨k,e1,e2,e3,e4,e5⟩|⟨k,e1,e2,e3,e4,e5⟩
   . rw[k]at ht
     grind
   . rw[k]at ht
     grind
   . rw[k]at ht
     grind
   . rw[k]at ht;simp only[Int.reduceEq,false_and,true_and,or_false,false_or]at ht;obtain⟨o,rfl⟩:=ht;rw[e1,e2,e3,e4];simp;refine⟨by omega,⟨v.ID,[UInt8.ofNat 115,UInt8.ofNat (97+v.ID.toNat)]⟩,?_,rfl⟩;unfold symsL
     grind
   . rw[e1,e2,e3,e4];have k9:kd ns (u:Int)<=9:=(kd_eq hN h5 u0 u1).2.2;have hcc:kd ns (u:Int)=7\/kd ns (u:Int)=8\/kd ns (u:Int)=9:=by omega
     have ha:=hxu.a;unfold U8 at ha;rcases hcc with k'|k'|k'
     . rw[k']at ht e5
       grind
     . rw[k']at ht e5
       grind
     . rw[k']at ht e5
       grind
 . obtain⟨r,q⟩:=mem j (by omega) m hm;obtain⟨u0,u1,u2⟩:=q.tgt
   grind
 . have ht:=hT j hj;have ha:=(hx j hj).a;have hb:=(hx j hj).b;unfold U8 at ha hb;unfold TyP at ht;simp only[aA]at ht;rcases ht with⟨k,e⟩|⟨k,e⟩|⟨k,e⟩|⟨k,_,e⟩|⟨k,Ms,a,e⟩|⟨k,e⟩|⟨k,Ms,_,a,a0,e⟩|⟨k,e⟩|⟨k,_,e⟩|⟨k,w,a,e⟩|⟨k,e⟩<;>rw[e]at h2⊢<;>simp at h2⊢
   omega
 . have ht:=hT j hj;have ha:=(hx j hj).a;unfold U8 at ha;unfold TyP at ht;simp only[aA]at ht;rcases ht with⟨k,e⟩|⟨k,e⟩|⟨k,e⟩|⟨k,_,e⟩|⟨k,Ms,a,e⟩|⟨k,e⟩|⟨k,Ms,_,a,a0,e⟩|⟨k,e⟩|⟨k,_,e⟩|⟨k,w,a,e⟩|⟨k,e⟩<;>rw[e]<;>simp<;>omega
 . obtain⟨r,q⟩:=mem j hj m hm;exact q.id.2
 . have ht:=hT j hj;have hid:=ids_eq' (ns.getD j dNd);unfold TyP at ht;simp only[aA]at ht;rcases ht with⟨k,e⟩|⟨k,e⟩|⟨k,e⟩|⟨k,_,e⟩|⟨k,Ms,a,e⟩|⟨k,e⟩|⟨k,Ms,_,a,a0,e⟩|⟨k,e⟩|⟨k,_,e⟩|⟨k,w,a,e⟩|⟨k,e⟩<;>rw[e]at hy<;>simp at hy
   exact(zh hid.2.1 hid.2.2.1 hid.2.2.2).2 y hy
 . rcases ub (hT j hj)with h|⟨r,_,_,h⟩
   . rw[h];simp
   . exact h
 . obtain⟨r,q⟩:=mem j hj m hm;exact(Cd hN h5 ⟨q.tgt.1,q.tgt.2.1⟩ (q.dfl hd)).2
end
theorem of_ok{d:aW}(hd:DOk d):ie d=some (⟨[]⟩,false)\/∃l,ie d=some (⟨l⟩,true)/\DrOk l:=by
 rcases of_eq hd with h|⟨l,a,b,c,e,f⟩
 . grind
 . exact .inr ⟨l,a,N7 hd.2 c b e f⟩
def Suf(C' C:List Int):Prop:=C'.length<=C.length/\∀c,c∈C'->c∈C
theorem Suf.refl(C:List Int):Suf C C:=⟨Nat.le_refl _,λ_ h=>h⟩
theorem Suf.trans{A B C:List Int}(h:Suf A B)(k:Suf B C):Suf A C:=⟨Nat.le_trans h.1 k.1,λc hc=>k.2 c (h.2 c hc)⟩
def CU8(C:List Int):Prop:=∀c,c∈C->U8 c
theorem CU8.suf{A B:List Int}(h:CU8 B)(k:Suf A B):CU8 A:=λc hc=>h c (k.2 c hc)
section
variable {ts:List ae}
mutual
theorem vfit_weak:∀(v:ab) (t:Int),vfit ts true t v->vfit ts false t v
 |⟨k,b,i,s,id,ks,is,r⟩,t,h=>by
  rw[vfit]at h⊢;obtain⟨⟨h1,h2,h3,h4⟩,h5⟩:=h;have w:=vfits_weak is;have wk:=vfits_weak ks;have wm:=vfitm_weak is;refine⟨⟨h1,h2,h3,λh=>by cases h⟩,?_⟩
  have c6:(match findM (ts.getD t.toNat ag).Members id with
   |some m=>r=[]/\is.length=1/\vfits ts true m.Type_ is
   |none=>(ts.getD t.toNat ag).Open=true/\true=false/\I1000 id/\is=[]/\∃d,r=[⟨id,d⟩])->(match findM (ts.getD t.toNat ag).Members id with
   |some m=>r=[]/\is.length=1/\vfits ts false m.Type_ is
   |none=>(ts.getD t.toNat ag).Open=true/\false=false/\I1000 id/\is=[]/\∃d,r=[⟨id,d⟩]):=by
   split
   . rintro ⟨a,b,c⟩;exact⟨a,b,w _ c⟩
   . rintro ⟨_,b,_⟩;cases b
  rcases h5 with h|h|h|⟨a1,a2,a3,a4,a5,a6,a7,a8⟩|⟨a1,a2,a3,a4,a5,a6,a7,a8⟩|⟨a1,a2,a3,a4,a5,a6⟩|⟨a1,a2,a3,a4,a5,a6,a7,a8,a9⟩|⟨a1,a2,a3,a4,a5,a6,a7,a8,a9,a10,a11⟩|⟨a1,a2,a3,a4,a5,a6,a7,a8,a9⟩
  . exact .inl h
  . grind
  . grind
  . grind
  . grind
  . grind
  . grind
  . grind
  grind
theorem vfits_weak:∀(l:List ab) (t:Int),vfits ts true t l->vfits ts false t l
 |[],t,h=>by rw[vfits];trivial
 |v::l,t,h=>by
  rw[vfits]at h⊢;exact⟨vfit_weak v t h.1,vfits_weak l t h.2⟩
theorem vfitm_weak:∀(l:List ab) (ms:List av),vfitm ts true ms l->vfitm ts false ms l
 |[],[],h=>by rw[vfitm];trivial
 |[],m::ms,h=>by
  have:vfitm ts true (m::ms) []=False:=by rw[vfitm]<;>(intros;simp_all)
  grind
 |v::l,[],h=>by
  have:vfitm ts true [] (v::l)=False:=by rw[vfitm]<;>(intros;simp_all)
  grind
 |v::l,m::ms,h=>by
  rw[vfitm]at h⊢;exact⟨vfit_weak v m.Type_ h.1,vfitm_weak l ms h.2⟩
end
def rk(ts:List ae)(t:Nat):Nat:=if 7<=(ts.getD t ag).Kind then 0 else t+1
end
structure DrIn (d:gW):Prop where
 s:DOk d.S
 t:U8 d.T
 c:CU8 d.C
 l:d.C.length<=reachBytes
theorem uO{ts:List ae}(H:SOk ts){v:ab}(hv:OkV v)(t:Int)(pl:Bool):SaysP (cq ((⟨ts⟩:au),t,v,pl)) (vfit ts pl t v):=by
 obtain⟨r,h1,h2⟩:=uN (by have:=H.n;omega) H.T H.K hv t pl;obtain⟨q,q1,q2⟩:=MT (by have:=H.n;omega) H.T H.K hv t pl;rw[h1]at q2;have:r=q:=Option.some.inj q2;subst this;exact⟨r,q1,h2⟩
theorem IY{ts:List ae}(hT:∀t,t∈ts->OkT t)(hV:VOk ts){v:ab}(hv:OkV v){t:Int}(hf:vfit ts false t v):pU ((⟨ts⟩:au),t,v)=some 0:=by
 have H:=hV.sok hT;obtain⟨v1,_⟩:=kX hT hV;obtain⟨⟨g1,g2,_⟩,_⟩:=(ck _ _ _).1 hf;obtain⟨r,r1,r2⟩:=uO H hv t false;have hr:=r2.2 hf;subst hr;have hout:¬((bif decide (t<0)then true else decide (((⟨ts⟩:au).Types.length:Int)<=t))=true):=by grind
 rw[pU,sS];simp only[LM,ab.aD];rw[v1];show((if(bif decide (t<0)then true else decide (((⟨ts⟩:au).Types.length:Int)<=t))=true then some (4:Int)else some 0)>>=_)=_;rw[if_neg hout];show(qL ((⟨ts⟩:au),t,v)>>=_)=_;rw[qL];simp only[ab.aD];rw[r1];rfl
theorem N8{l:List Fd}(hp:cT ltF l=true)(hn:l.Pairwise (λa b=>a.id≠b.id)):(isoB ltF l).Pairwise (λa b=>a.id<b.id):=by
 have h1:=qp B4 l;have h2:(isoB ltF l).Pairwise (λa b=>a.id≠b.id):=(iE ltF l).symm.pairwise hn (λ{a b} h=>λe=>h e.symm);refine(h1.and h2).imp λ{a b} h=>?_
 have:=h.1;have:=h.2;simp only[ltF,decide_eq_false_iff_not]at*;omega
theorem M3{ts:List ae}{ms:List av}{l:List ab}{r:List aK}(h:MAsc ms)(hr:dT ms r):(cV ts ms l r).Pairwise (λa b=>a.id≠b.id):=by
 have:=s5 (ts:=ts) (l:=l) h hr;have key:∀q:List Fd,cT ltF q=true->q.Pairwise (λa b=>a.id≠b.id):=by
  intro q
  induction q with
  |nil=>intro _;exact .nil
  |cons a q ih=>
   intro h;simp only[cT,Bool.and_eq_true,List.all_eq_true,Bool.or_eq_true,ltF,decide_eq_true_eq]at h;rw[List.pairwise_cons]
   grind
 grind
theorem Cf{d:aW}(h:WF Un ⟨.slice (.nm mh),d.Nodes⟩):DOk d:=by
 obtain⟨a,_,c⟩:=nO (t:= .nm mh) h;refine⟨a,λx hx=>?_⟩;have hc:=c x hx;have u8:∀{n:Int},WF Un ⟨.int .u8,n⟩->U8 n:=λ{n} h=>by
  cases h with
  |int k n h=>
   simp[Lit.wf,IntKind.min,IntKind.max,IntKind.bits,IntKind.signed]at h;unfold U8;omega
 have c1:=hc ⟨.int .u8,x.Kind⟩ (.head _);have c2:=hc ⟨.int .u8,x.A⟩ (.tail _ (.head _));have c3:=hc ⟨.int .u8,x.B⟩ (.tail _ (.tail _ (.head _)));have c4:=hc ⟨.int .u8,x.C⟩ (.tail _ (.tail _ (.tail _ (.head _))));have c5:=hc ⟨.slice (.nm pC),x.Parts⟩ (.tail _ (.tail _ (.tail _ (.tail _ (.head _)))));obtain⟨p1,_,p3⟩:=nO (t:= .nm pC) c5
 refine⟨u8 c1,u8 c2,u8 c3,u8 c4,λq hq=>?_,p1⟩;have hq':=p3 q hq;exact⟨u8 (hq' ⟨.int .u8,q.ID⟩ (.head _)),u8 (hq' ⟨.int .u8,q.Type_⟩ (.tail _ (.head _))),u8 (hq' ⟨.int .u8,q.Flag⟩ (.tail _ (.tail _ (.head _))))⟩
end
section
open Go Go.Proofs.YtkbmjabicjpmjaaGreatDoor.Shv Go.Sort
set_option maxRecDepth 100000
set_option linter.all false

end
section
open Go Go.Proofs.YtkbmjabicjpmjaaGreatDoor.Shv Go.Sort
set_option maxRecDepth 100000
theorem N9{l m:List ab}(hl:l.length=m.length)(h:∀i,i<l.length->l.getD i aj=m.getD i aj):l=m:=by
 apply List.ext_getElem hl
 grind
theorem nQ{ms:List av}(h:MAsc ms){a b:av}(ha:a∈ms)(hb:b∈ms)(e:a.ID=b.ID):a=b:=by
 obtain⟨i,hi,rfl⟩:=List.getElem_of_mem ha;obtain⟨j,hj,rfl⟩:=List.getElem_of_mem hb;have key:=List.pairwise_iff_getElem.1 h.1
 grind
theorem iH{ms:List av}{id:Int}{m:av}(h:findM ms id=some m):m∈ms/\m.ID=id:=
 ⟨List.mem_of_find?_eq_some h,by simpa using List.find?_some h⟩
theorem Oa{ms:List av}(hm:MAsc ms){m:av}(h:m∈ms):findM ms m.ID=some m:=by
 cases hf:findM ms m.ID with
 |none=>exact absurd rfl (qN hf m h)
 |some q=>
  obtain⟨h1,h2⟩:=iH hf;rw[nQ hm h1 h h2]
theorem uc{ts:List ae}{t:Int}:∀{l:List ab} {x:ab},x∈l->vlev ts t x<=vlevs ts t l
 |v::l,x,h=>by
  rw[vlevs];rcases List.mem_cons.1 h with rfl|h
  . omega
  . have:=uc (ts:=ts) (t:=t) h;omega
theorem Ag{ts:List ae}:∀{ms:List av} {l:List ab} {j:Nat},j<ms.length->j<l.length->om (ms.getD j af) (l.getD j aj)=false->vlev ts (ms.getD j af).Type_ (l.getD j aj)<=vlevm ts ms l
 |m::ms,v::l,0,_,_,ho=>by
  simp only[List.getD_cons_zero]at ho⊢;rw[vlevm,if_neg (by rw[ho];simp)];omega
 |m::ms,v::l,j+1,h1,h2,ho=>by
  simp only[List.getD_cons_succ]at ho⊢;have:=Ag (ts:=ts) (by simpa using h1) (by simpa using h2) ho;rw[vlevm]
  grind
end
section
open Go Go.Proofs.YtkbmjabicjpmjaaGreatDoor.Shv Go.Sort
set_option maxRecDepth 100000
theorem Bc{a:ab}(h:OkV a)(b:ab):Says (ko (a,b)) a b:=by
 obtain⟨r,h1,h2⟩:=rB h b;refine⟨r,?_,h2⟩;rw[ko];simp only[ab.aD];rw[h1];rfl
theorem Bd{a:ab}(h:OkV a)(b:ab):Says (dL (a,b)) a b:=Lx h b
theorem Ob:OkV (⟨0,false,0,[],0,[],[],[]⟩:ab):= .mk _ (by simp) (by simp) (by simp) (by simp) (λx h=>by cases h) (λx h=>by cases h) (λx h=>by cases h) (by simp) (by simp) (by simp) (λx h=>by cases h)
end
section
open Go Go.Proofs.YtkbmjabicjpmjaaGreatDoor.Shv Go.Sort
set_option maxRecDepth 100000
theorem rh{l:List ab}{i:Nat}(hi:i<l.length):l.set i (l.getD i aj)=l:=by simp_all
theorem Ah {a0 a2 a4 z0 z2 z4:Int} {a1 z1:Bool} {a3 z3:List UInt8} {l l2:List ab} {r:List aK} (hl:l.length<=5000000000000) (h:∀ y,y∈l->fK y = some y):∀ (k i:Nat),i+k = l.length->
 kq ((l.length:Int),(i:Int),a0,a1,a2,a3,a4,z0,z1,z2,z3,z4,l,l2,r)=some (a0,a1,a2,a3,a4,z0,z1,z2,z3,z4,l,l2,r)
 |0,i,hi=>by rw[kq,if_neg (by simp;omega)]
 |k+1,i,hi=>by
  have hlt:i<l.length:=by omega
  rw[kq,if_pos (by simp;omega),if_pos (aq hlt),aA,if_pos (by simp;omega)];simp only[ab.aD];rw[h _ (aB hlt aj)];simp only[oZ4,oZ3,ab.aD];rw[if_pos (aq hlt),if_pos (by simp;omega),aC (by omega),rh hlt];exact Ah hl h k (i+1) (by omega)
theorem Ai {a0 a2 a4 z0 z2 z4:Int} {a1 z1:Bool} {a3 z3:List UInt8} {l l2:List ab} {r:List aK} (hl:l.length<=5000000000000) (h:∀ y,y∈l->fK y = some y):∀ (k i:Nat),i+k = l.length->
 kr ((l.length:Int),(i:Int),a0,a1,a2,a3,a4,z0,z1,z2,z3,z4,l,l2,r)=some (a0,a1,a2,a3,a4,z0,z1,z2,z3,z4,l2,l,r)
 |0,i,hi=>by rw[kr,if_neg (by simp;omega)]
 |k+1,i,hi=>by
  have hlt:i<l.length:=by omega
  rw[kr,if_pos (by simp;omega),if_pos (aq hlt),aA,if_pos (by simp;omega)];simp only[ab.aD];rw[h _ (aB hlt aj)];simp only[oZ4,oZ3,ab.aD];rw[if_pos (aq hlt),if_pos (by simp;omega),aC (by omega),rh hlt];exact Ai hl h k (i+1) (by omega)
theorem wts_len':∀l:List ab,l.length<=wts l
 |[]=>by simp
 |v::l=>by
  rw[jK,wt_eq,List.length_cons];have:=wts_len' l;omega
theorem Be(l:List aK):l.length<=(l.map λx=>x.Data.length+1).sum:=by
 induction l with
 |nil=>simp
 |cons a l ih=>simp only[List.map_cons,List.sum_cons,List.length_cons];omega
theorem lM{k n:Nat}(hk:k<=1000)(h:n<=1000000000):room k n=true:=by
 unfold room bM aS;simp only[Bool.and_eq_true,decide_eq_true_eq];refine⟨?_,by omega⟩;have:(2*n+192)*k<=2000000192*1000:=Nat.mul_le_mul (by omega) hk;omega
theorem M4{v:ab}(hv:OkV v):wt v<=1000000000->fK v=some v:=by
 induction hv with
 |mk v hs h1 h2 h3 hk hi hrd n1 n2 n3 n4 ihk ihi=>
  intro hw;have hwt:=wt_eq v;have l1:=wts_len' v.Keys;have l2:=wts_len' v.Items;have l3:=Be v.Rest;have kk:∀y,y∈v.Keys->fK y=some y:=λy hy=>ihk y hy (by have:=bR hy;omega)
  have ki:∀y,y∈v.Items->fK y=some y:=λy hy=>ihi y hy (by have:=bR hy;omega)
  have c1:bg 120 v.Keys=some v.Keys:=by unfold bg;rw[if_pos (fS (lM (by omega) (by omega)))]
  have c2:bg 120 v.Items=some v.Items:=by unfold bg;rw[if_pos (fS (lM (by omega) (by omega)))]
  have c3:bg 24 v.Rest=some v.Rest:=by unfold bg;rw[if_pos (fS (lM (by omega) (by omega)))]
  have L0:=Ah (a0:=v.Kind) (a1:=v.Bool_) (a2:=v.Int_) (a3:=v.Str) (a4:=v.ID) (z0:=0) (z1:=false) (z2:=0) (z3:=[]) (z4:=0) (l:=v.Keys) (l2:=v.Items) (r:=v.Rest) (by omega) kk v.Keys.length 0 (by omega)
  have L1:=Ai (a0:=v.Kind) (a1:=v.Bool_) (a2:=v.Int_) (a3:=v.Str) (a4:=v.ID) (z0:=0) (z1:=false) (z2:=0) (z3:=[]) (z4:=0) (l:=v.Items) (l2:=v.Keys) (r:=v.Rest) (by omega) ki v.Items.length 0 (by omega);have L0':kq ((v.Keys.length:Int),0,v.Kind,v.Bool_,v.Int_,v.Str,v.ID,0,false,0,[],0,v.Keys,v.Items,v.Rest)=_:=L0
  have L1':kr ((v.Items.length:Int),0,v.Kind,v.Bool_,v.Int_,v.Str,v.ID,0,false,0,[],0,v.Items,v.Keys,v.Rest)=_:=L1;rw[fK,c1,c2,c3];simp only[oZ4,oZ3];rw[L0'];simp only[oZ3];rw[L1'];simp only[oZ3];cases v;rfl
section
variable {ts:List ae}
theorem member_find'{x:ae}(hm:MAsc x.Members)(hl:x.Members.length<=1000){id:Int}{m:av}(hF:findM x.Members id=some m):∃j,j<x.Members.length/\bC (x,id)=some ((j:Int),true)/\x.Members.getD j af=m:=by
 obtain⟨m1,m2⟩:=iH hF;obtain⟨r,r1,r2⟩:=sU (t:=x) (id:=id) (by omega);rcases r2 with⟨j,j1,j2,_,rfl⟩|⟨q,_⟩
 . exact⟨j,j1,r1,nQ hm (aB j1 af) m1 (by rw[j2,m2])⟩
 . obtain⟨i,hi,rfl⟩:=List.getElem_of_mem m1
   grind
end
structure DcOk (ts:List ae):Prop where
 S:SOk ts
 V:VOk ts
 W:∀x,x∈ts->∀m,m∈x.Members->m.HasDefault=true->fK m.Default=some m.Default
theorem DrOk.dc{ts:List ae}(H:DrOk ts):DcOk ts:=⟨H.V.sok H.T,H.V,λx hx m hm hd=>M4 ((H.T x hx).3 m hm) (by have:=H.W x hx m hm hd;omega)⟩
section
variable {ts:List ae}
theorem DcOk.mem(H:DcOk ts){x:ae}(hx:x∈ts){m:av}(hm:m∈x.Members):0<=m.Type_/\m.Type_<ts.length:=
 H.V.U x hx m.Type_ (by unfold usesL;simp;exact .inl ⟨m,hm,rfl⟩)
theorem DcOk.elem(H:DcOk ts){x:ae}(hx:x∈ts)(hk:7<=x.Kind):0<=x.Elem/\x.Elem<ts.length:=
 H.V.U x hx x.Elem (by unfold usesL;simp[hk])
theorem DcOk.key(H:DcOk ts){x:ae}(hx:x∈ts)(hk:x.Kind=8):0<=x.Key/\x.Key<ts.length:=
 H.V.U x hx x.Key (by unfold usesL;simp[hk])
end
end
section
open Go Go.Proofs.YtkbmjabicjpmjaaGreatDoor.Shv Go.Sort
set_option maxRecDepth 100000
def hW(C d:Nat)(l:List jX)(m:av):Nat:=match l.find? (λf=>decide (f.ID=m.ID))with
 |some f=>C*(f.Data.length+1)
 |none=>d
def hS(C d:Nat)(l:List jX)(ms:List av):Nat:=(ms.map (hW C d l)).sum
theorem Bf:∀{A B:List Fd},A.Pairwise (λa b=>a.id<b.id)->B.Pairwise (λa b=>a.id<b.id)->(∀x,x∈A↔x∈B)->A=B
 |[],[],_,_,_=>rfl
 |[],b::B,_,_,h=>by have:=(h b).2 (.head _);grind
 |a::A,[],_,_,h=>by have:=(h a).1 (.head _);grind
 |a::A,b::B,hA,hB,h=>by
  rw[List.pairwise_cons]at hA hB;have e:a=b:=by grind
  subst e;rw[Bf hA.2 hB.2 _]
  grind
theorem va{α:Type}{l:List α}{y:α}(d:α)(h:y∈l):∃i,i<l.length/\l.getD i d=y:=by
 obtain⟨i,hi,rfl⟩:=List.getElem_of_mem h;exact⟨i,hi,bZ hi d⟩
abbrev Rdr:=Int->ab->Int->List Int->ab ⊕ List Int
def consR{α:Type}:α ⊕ List Int->List α ⊕ List Int->List α ⊕ List Int
 |.inr p,_=>.inr p
 |.inl _,.inr p=>.inr p
 |.inl u,.inl l=>.inl (u::l)
def mapR{α β:Type}(g:α->β):α ⊕ List Int->β ⊕ List Int
 |.inr p=>.inr p
 |.inl u=>.inl (g u)
def bindR{α β:Type}(g:α->β ⊕ List Int):α ⊕ List Int->β ⊕ List Int
 |.inr p=>.inr p
 |.inl u=>g u
def fI(l:List av)(id:Int):Option Nat:=l.findIdx? λm=>decide (m.ID=id)
def fIr(l:List av)(id:Int):Int×Bool:=match fI l id with
 |some j=>((j:Int),true)
 |none=>(0,false)
def ba(f:Rdr)(path:List Int)(t rt:Int):Nat->List ab->List ab ⊕ List Int
 |_,[]=>.inl []
 |i,v::l=>consR (f t v rt (path++[(i:Int)])) (ba f path t rt (i+1) l)
noncomputable def rdef (m:av) (w:ab) (n:av) (here:List Int):ab ⊕ List Int->ab ⊕ List Int
 |.inr p=>if om m w=true then .inr here else .inr p
 |.inl u=>if om m w=true/\om n u=false then .inr here else .inl u
noncomputable def rmem (f:Rdr) (x:ae) (v:ab) (path:List Int) (n:av):ab ⊕ List Int:=match fI x.Members n.ID with
 |none=>if n.HasDefault=true then .inl n.Default else .inr (path++[n.ID])
 |some i=>rdef (x.Members.getD i af) (v.Items.getD i aj) n (path++[n.ID]) (f (x.Members.getD i af).Type_ (v.Items.getD i aj) n.Type_ (path++[n.ID]))
noncomputable def rmems (f:Rdr) (x:ae) (v:ab) (path:List Int):List av->List ab ⊕ List Int
 |[]=>.inl []
 |n::l=>consR (rmem f x v path n) (rmems f x v path l)
noncomputable def rrest (tw:List ae) (y:ae) (path:List Int):List av->List ab->List aK ⊕ List Int
 |m::ms,v::l=>if(findM y.Members m.ID).isSome=true then rrest tw y path ms l
  else if m.Critical=true then .inr (path++[m.ID])
  else if om m v=true then rrest tw y path ms l
  else consR (.inl ⟨m.ID,vpay tw m.Type_ v⟩) (rrest tw y path ms l)
 |_,_=>.inl []
def rleaf(x y:ae)(v:ab):Prop:=(x.Kind=2->y.Low<=v.Int_/\v.Int_<=y.High)/\(x.Kind=3->(v.Str.length:Int)<=y.Max)/\(x.Kind=4->(∃s,s∈y.Symbols/\s.ID=v.ID)\/y.Open=true)
noncomputable def rd5 (tw:List ae) (f:Rdr) (x y:ae) (v:ab) (path:List Int):ab ⊕ List Int:=
 bindR (λis=>mapR (λr=>⟨5,false,0,[],0,[],is,r⟩) (rrest tw y path x.Members v.Items)) (rmems f x v path y.Members)
noncomputable def rd6 (tw:List ae) (f:Rdr) (x y:ae) (v:ab) (path:List Int):ab ⊕ List Int:=match fI x.Members v.ID with
 |none=>.inr path
 |some i=>match fI y.Members v.ID with
  |some k=>mapR (λu=>⟨6,false,0,[],v.ID,[],[u],[]⟩) (f (x.Members.getD i af).Type_ (v.Items.getD 0 aj) (y.Members.getD k af).Type_ (path++[v.ID]))
  |none=>if y.Open=true then .inl ⟨6,false,0,[],v.ID,[],[],[⟨v.ID,vpay tw (x.Members.getD i af).Type_ (v.Items.getD 0 aj)⟩]⟩else .inr path
def rd7(f:Rdr)(x y:ae)(v:ab)(path:List Int):ab ⊕ List Int:=
 if(v.Items.length:Int)<=y.Max then mapR (λis=>⟨7,false,0,[],0,[],is,[]⟩) (ba f path x.Elem y.Elem 0 v.Items)else .inr path
def rd8(f:Rdr)(x y:ae)(v:ab)(path:List Int):ab ⊕ List Int:=
 if(v.Items.length:Int)<=y.Max then bindR (λks=>mapR (λis=>⟨8,false,0,[],0,ks,is,[]⟩) (ba f path x.Elem y.Elem 0 v.Items)) (ba f path x.Key y.Key 0 v.Keys)else .inr path
def rd9(f:Rdr)(x y:ae)(v:ab)(path:List Int):ab ⊕ List Int:=
 mapR (λis=>⟨9,false,0,[],0,[],is,[]⟩) (ba f path x.Elem y.Elem 0 v.Items)
open Classical in
noncomputable def rdK (tw:List ae) (f:Rdr) (x y:ae) (v:ab) (path:List Int):ab ⊕ List Int:=
 if ¬x.Kind=y.Kind then .inr path
 else if x.Kind=5 then rd5 tw f x y v path
 else if x.Kind=6 then rd6 tw f x y v path
 else if x.Kind=7 then rd7 f x y v path
 else if x.Kind=8 then rd8 f x y v path
 else if x.Kind=9 then rd9 f x y v path
 else if rleaf x y v then .inl v else .inr path
noncomputable def vread (tw tr:List ae):Nat->Rdr
 |0=>λ_ _ _ path=>.inr path
 |n+1=>λt v rt path=>rdK tw (vread tw tr n) (tw.getD t.toNat ag) (tr.getD rt.toNat ag) v path
theorem qO{tw tr:List ae}(n:Nat)(t:Int)(v:ab)(rt:Int)(path:List Int):vread tw tr (n+1) t v rt path=rdK tw (vread tw tr n) (tw.getD t.toNat ag) (tr.getD rt.toNat ag) v path:=rfl
section
variable {tw:List ae} {f:Rdr} {x y:ae} {v:ab} {path:List Int}
theorem DO(hK:¬x.Kind=y.Kind):rdK tw f x y v path= .inr path:=by unfold rdK;rw[if_pos hK]
theorem rdK5(hK:x.Kind=y.Kind)(h:x.Kind=5):rdK tw f x y v path=rd5 tw f x y v path:=by unfold rdK;rw[if_neg (λh=>h hK),if_pos h]
theorem rdK6(hK:x.Kind=y.Kind)(h:x.Kind=6):rdK tw f x y v path=rd6 tw f x y v path:=by unfold rdK;rw[if_neg (λh=>h hK),if_neg (by omega),if_pos h]
theorem rdK7(hK:x.Kind=y.Kind)(h:x.Kind=7):rdK tw f x y v path=rd7 f x y v path:=by unfold rdK;rw[if_neg (λh=>h hK),if_neg (by omega),if_neg (by omega),if_pos h]
theorem rdK8(hK:x.Kind=y.Kind)(h:x.Kind=8):rdK tw f x y v path=rd8 f x y v path:=by unfold rdK;rw[if_neg (λh=>h hK),if_neg (by omega),if_neg (by omega),if_neg (by omega),if_pos h]
theorem rdK9(hK:x.Kind=y.Kind)(h:x.Kind=9):rdK tw f x y v path=rd9 f x y v path:=by unfold rdK;rw[if_neg (λh=>h hK),if_neg (by omega),if_neg (by omega),if_neg (by omega),if_neg (by omega),if_pos h]
theorem iN(hK:x.Kind=y.Kind)(h:x.Kind<=4)(hl:rleaf x y v):rdK tw f x y v path= .inl v:=by unfold rdK;rw[if_neg (λh=>h hK),if_neg (by omega),if_neg (by omega),if_neg (by omega),if_neg (by omega),if_neg (by omega),if_pos hl]
theorem lN(hK:x.Kind=y.Kind)(h:x.Kind<=4)(hl:¬rleaf x y v):rdK tw f x y v path= .inr path:=by unfold rdK;rw[if_neg (λh=>h hK),if_neg (by omega),if_neg (by omega),if_neg (by omega),if_neg (by omega),if_neg (by omega),if_neg hl]
end
theorem Bg{m:av}{w:ab}{n:av}{here p:List Int}:rdef m w n here (.inr p)=if om m w=true then .inr here else .inr p:=rfl
theorem Bh{m:av}{w:ab}{n:av}{here:List Int}{u:ab}:rdef m w n here (.inl u)=if om m w=true/\om n u=false then .inr here else .inl u:=rfl
theorem bS{l:List av}{id:Int}{j:Nat}(h:fI l id=some j):j<l.length/\(l.getD j af).ID=id/\∀k,k<j->(l.getD k af).ID≠id:=by
 obtain⟨h1,h2,h3⟩:=List.findIdx?_eq_some_iff_getElem.1 h;refine⟨h1,?_,λk hk=>?_⟩
 . rw[bZ h1];simpa using h2
 . rw[bZ (by omega)]
   simpa using h3 k hk
theorem Cg{l:List av}{id:Int}(h:fI l id=none):∀k,k<l.length->(l.getD k af).ID≠id:=λk hk=>by
 have:=List.findIdx?_eq_none_iff.1 h _ (aB hk af)
 simpa using this
theorem Aj(l:List av)(id:Int):jY l id (fIr l id):=by
 unfold fIr;cases h:fI l id with
 |some j=>exact .inl ⟨j,(bS h).1,(bS h).2.1,(bS h).2.2,rfl⟩
 |none=>exact .inr ⟨Cg h,rfl⟩
theorem lz(l:List av)(id:Int):(fI l id).isSome=(findM l id).isSome:=by
 cases h:fI l id with
 |some j=>
  obtain⟨h1,h2,_⟩:=bS h;cases g:findM l id with
  |some _=>rfl
  |none=>exact absurd h2 (qN g _ (aB h1 af))
 |none=>
  cases g:findM l id with
  |none=>rfl
  |some m=>
   obtain⟨m1,m2⟩:=iH g;obtain⟨i,hi,rfl⟩:=List.getElem_of_mem m1;exact absurd m2 (by rw[<-bZ hi af];exact Cg h i hi)
theorem uv{α:Type}{a:α ⊕ List Int}{b:List α ⊕ List Int}{l:List α}(h:consR a b= .inl l):∃u us,a= .inl u/\b= .inl us/\l=u::us:=by
 cases a with
 |inr p=>simp[consR]at h
 |inl u=>cases b with
  |inr p=>simp[consR]at h
  |inl us=>exact⟨u,us,rfl,rfl,by simpa[consR]using h.symm⟩
theorem nR{α β:Type}{g:α->β}{a:α ⊕ List Int}{b:β}(h:mapR g a= .inl b):∃u,a= .inl u/\b=g u:=by
 cases a with
 |inr p=>simp[mapR]at h
 |inl u=>exact⟨u,rfl,by simpa[mapR]using h.symm⟩
theorem Ak{α β:Type}{g:α->β ⊕ List Int}{a:α ⊕ List Int}{b:β}(h:bindR g a= .inl b):∃u,a= .inl u/\g u= .inl b:=by
 cases a with
 |inr p=>simp[bindR]at h
 |inl u=>exact⟨u,rfl,by simpa[bindR]using h⟩
theorem qP{f:Rdr}{path:List Int}{t rt:Int}:∀{l:List ab} {i:Nat} {us:List ab},ba f path t rt i l= .inl us->us.length=l.length/\∀j,j<l.length->f t (l.getD j aj) rt (path++[((i+j:Nat):Int)])= .inl (us.getD j aj)
 |[],i,us,h=>by
  simp only[ba,Sum.inl.injEq]at h;subst h;exact⟨rfl,λj hj=>by simp at hj⟩
 |v::l,i,us,h=>by
  obtain⟨u,us',h1,h2,rfl⟩:=uv h;obtain⟨a,b⟩:=qP h2;refine⟨by simp[a],λj hj=>?_⟩;cases j with
  |zero=>exact h1
  |succ j=>
   have:=b j (by simpa using hj);rw[show i+1+j=i+(j+1) by omega]at this;exact this
theorem Al{f:Rdr}{x:ae}{v:ab}{path:List Int}:∀{l:List av} {us:List ab},rmems f x v path l= .inl us->us.length=l.length/\∀j,j<l.length->rmem f x v path (l.getD j af)= .inl (us.getD j aj)
 |[],us,h=>by
  simp only[rmems,Sum.inl.injEq]at h;subst h;exact⟨rfl,λj hj=>by simp at hj⟩
 |n::l,us,h=>by
  obtain⟨u,us',h1,h2,rfl⟩:=uv h;obtain⟨a,b⟩:=Al h2;refine⟨by simp[a],λj hj=>?_⟩;cases j with
  |zero=>exact h1
  |succ j=>exact b j (by simpa using hj)
theorem Oc {f:Rdr} {x:ae} {v:ab} {path:List Int} {n:av} {u:ab} (h:rmem f x v path n = .inl u):
 (fI x.Members n.ID=none/\n.HasDefault=true/\u=n.Default)\/∃i,fI x.Members n.ID=some i/\f (x.Members.getD i af).Type_ (v.Items.getD i aj) n.Type_ (path++[n.ID])= .inl u/\(om (x.Members.getD i af) (v.Items.getD i aj)=true->om n u=true):=by
 unfold rmem at h;cases hf:fI x.Members n.ID with
 |none=>
  simp only[hf]at h;by_cases hd:n.HasDefault=true
  . rw[if_pos hd]at h;exact .inl ⟨rfl,hd,by simpa using h.symm⟩
  . rw[if_neg hd]at h;cases h
 |some i=>
  simp only[hf]at h;refine .inr ⟨i,rfl,?_⟩;revert h;cases f (x.Members.getD i af).Type_ (v.Items.getD i aj) n.Type_ (path++[n.ID])with
  |inr p=>intro h;unfold rdef at h;grind
  |inl w=>intro h;unfold rdef at h;grind
theorem qX {tw:List ae} {y:ae} {path:List Int}:∀ {ms:List av} {l:List ab} {r:List aK},rrest tw y path ms l = .inl r->
 r.length<=ms.length/\(r.map λa=>a.ID).Sublist (ms.map λm=>m.ID)/\∀a,a∈r->findM y.Members a.ID=none/\∃j,j<ms.length/\j<l.length/\a=⟨(ms.getD j af).ID,vpay tw (ms.getD j af).Type_ (l.getD j aj)⟩
 |[],l,r,h=>by
  rw[rrest]at h
  . cases h;simp
  . intros;simp_all
 |m::ms,[],r,h=>by
  rw[rrest]at h
  . cases h;simp
  . intros;simp_all
 |m::ms,v::l,r,h=>by
  have up:∀{r},rrest tw y path ms l= .inl r->r.length<=(m::ms).length/\(r.map λa=>a.ID).Sublist ((m::ms).map λm=>m.ID)/\∀a,a∈r->findM y.Members a.ID=none/\∃j,j<(m::ms).length/\j<(v::l).length/\a=⟨((m::ms).getD j af).ID,vpay tw ((m::ms).getD j af).Type_ ((v::l).getD j aj)⟩:=λ{r} h=>by
   obtain⟨a,b,c⟩:=qX h;refine⟨by simp;omega,by rw[List.map_cons];exact b.cons _,λq hq=>?_⟩;obtain⟨c1,j,j1,j2,e⟩:=c q hq;exact⟨c1,j+1,by simp;omega,by simp;omega,e⟩
  rw[rrest]at h;by_cases c1:(findM y.Members m.ID).isSome=true
  . rw[if_pos c1]at h;exact up h
  rw[if_neg c1]at h;by_cases c2:m.Critical=true
  . rw[if_pos c2]at h;cases h
  rw[if_neg c2]at h;by_cases c3:om m v=true
  . rw[if_pos c3]at h;exact up h
  rw[if_neg c3]at h;obtain⟨u,us,e1,e2,rfl⟩:=uv h;cases e1;obtain⟨a,b,c⟩:=qX e2;refine⟨by simp;omega,by rw[List.map_cons,List.map_cons];exact b.cons₂ _,λq hq=>?_⟩;rcases List.mem_cons.1 hq with rfl|hq
  . exact⟨by simpa using c1,0,by simp,by simp,rfl⟩
  . exact(up e2).2.2 q hq
section
variable {ts:List ae}
theorem vput2{n:Nat}(h:n<16384):(vput n).length<=2:=uK 1 n (by simpa using h)
theorem lA{p:List UInt8}(h:p.length<16384):(bB p).length<=p.length+2:=by
 have:=vput2 h;unfold bB;simp;omega
def Sm(ts:List ae)(t:Int)(v:ab):Prop:=(vpay ts t v).length+4<=wt v
theorem rF{t:Int}:∀{l:List ab},wts l<=3000->(∀y,y∈l->Sm ts t y)->((vpays ts t l).flatMap bB).length<=wts l
 |[],_,_=>by rw[vpays];simp
 |v::l,hw,h=>by
  rw[vpays,List.flatMap_cons,List.length_append];rw[jK]at hw⊢;have h1:=h v (.head _);unfold Sm at h1;have h2:=rF (t:=t) (l:=l) (by omega) λx hx=>h x (.tail _ hx)
  have h3:=lA (p:=vpay ts t v) (by omega);omega
theorem Ch{t:Int}{l:List ab}(h:∀y,y∈l->Sm ts t y):((vpays ts t l).headD []).length+4<=wts l\/l=[]:=by
 cases l with
 |nil=>exact .inr rfl
 |cons v l=>
  refine .inl ?_;have h1:=h v (.head _);unfold Sm at h1;rw[vpays,jK]
  grind
theorem Bi:∀{ms:List av} {l:List ab},wts l<=3000->(∀m,m∈ms->m.ID<=1000)->l.length=ms.length->(∀i,i<ms.length->Sm ts (ms.getD i af).Type_ (l.getD i aj))->((vents ts ms l).flatMap Fd.text).length<=wts l
 |[],l,_,_,_,_=>by rw[vents]<;>simp
 |m::ms,[],_,_,hl,_=>by simp at hl
 |m::ms,v::l,hw,hm,hl,h=>by
  rw[jK]at hw⊢;rw[vents];have h1:Sm ts m.Type_ v:=h 0 (by simp);unfold Sm at h1;have h2:=Bi (ms:=ms) (l:=l) (by omega) (λx hx=>hm x (.tail _ hx)) (by simpa using hl) λi hi=>h (i+1) (by simpa using hi)
  have h4:=hm m (.head _);split
  . omega
  . rw[List.flatMap_cons,List.length_append];have a1:=lA (p:=vpay ts m.Type_ v) (by omega);have a2:=vput2 (n:=2*m.ID.toNat+(if m.Critical then 1 else 0)) (by split<;>omega);have h3:(Fd.text ⟨m.ID.toNat,m.Critical,vpay ts m.Type_ v⟩).length<=(vpay ts m.Type_ v).length+4:=by
     show(cU m.ID.toNat m.Critical (vpay ts m.Type_ v)).length<=_;unfold cU
     grind
    omega
theorem M5(H:DrOk ts){v:ab}(hv:OkV v):∀t,vfit ts true t v->wt v<=3000->Sm ts t v:=by
 have HS:=H.V.sok H.T
 induction hv with
 |mk v hs h1 h2 h3 hk hi hrd n1 n2 n3 n4 ihk ihi=>
  intro t hf hw;obtain⟨⟨g1,g2,g3,g4⟩,hc⟩:=(ck _ _ _).1 hf;have hj:t.toNat<ts.length:=by omega
  have hmem:=aB hj ag;have hR:=g4 rfl;have hwt:=wt_eq v;have lk:∀y,y∈v.Keys->wt y+10<=wt v:=λy hy=>by have:=bR hy;omega
  have li:∀y,y∈v.Items->wt y+10<=wt v:=λy hy=>by have:=bR hy;omega
  have ik:∀t,vfits ts true t v.Keys->∀y,y∈v.Keys->Sm ts t y:=λt ht y hy=>ihk y hy t (aY.1 ht y hy) (by have:=lk y hy;omega)
  have ii:∀t,vfits ts true t v.Items->∀y,y∈v.Items->Sm ts t y:=λt ht y hy=>ihi y hy t (aY.1 ht y hy) (by have:=li y hy;omega)
  unfold Sm;rcases hc with h|h|h|h|h|h|h|h|h
  . rw[vpay1 (by omega)]
    grind
  . have hL:=H.L _ hmem (by omega);rw[vpay2 (by omega)];have:=nP 1 (zig v.Int_).toNat (by unfold zig;split<;>omega);omega
  . rw[vpay3 (by omega)];omega
  . rw[vpay4 (by omega)];have hid:v.ID.toNat<256^2:=by
     rcases h.2.2.2.2.2.2.2 with⟨y,y1,y2⟩|⟨_,h,_⟩
     . have:=HS.S _ hmem (by omega) y y1;unfold I1000 at this;omega
     . cases h
    have:=nP 2 _ hid;omega
  . obtain⟨a1,a2,a3,a4,a5,a6,a7,a8⟩:=h;obtain⟨m1,m2⟩:=HS.A _ hmem (.inl (by omega));obtain⟨f1,f2⟩:=dO.1 a8;rw[vpay5 (by omega),sZ (iE _ _)];unfold cV;rw[hR,List.map_nil,List.append_nil];have:=Bi (ts:=ts) (l:=v.Items) (by omega) (HS.M _ hmem) f1 λi hi'=>by grind
    omega
  . obtain⟨a1,a2,a3,a4,a5,a6⟩:=h;rw[vpay6 (by omega)];cases hF:findM (ts.getD t.toNat ag).Members v.ID with
    |none=>rw[hF]at a6;cases a6.2.1
    |some m=>
     rw[hF]at a6;obtain⟨b1,b2,b3⟩:=a6;obtain⟨m1,m2⟩:=iH hF;have hid:=HS.M _ hmem m m1;have:=vput2 (n:=v.ID.toNat) (by omega);rw[List.length_append];rcases Ch (ii _ b3)with q|q
     . grind
     grind
  . obtain⟨a1,a2,a3,a4,a5,a6,a7,a8,a9⟩:=h;rw[vpay7 (by omega)];have:=rF (l:=v.Items) (by omega) (ii _ a9);omega
  . obtain⟨a1,a2,a3,a4,a5,a6,a7,a8,a9,a10,a11⟩:=h;rw[vpay8 (by omega)];have e1:=rF (l:=v.Items) (by omega) (ii _ a10);have e2:=rF (l:=v.Keys) (by omega) (ik _ a9);have:=rD (vpays ts (ts.getD t.toNat ag).Key v.Keys) (vpays ts (ts.getD t.toNat ag).Elem v.Items);omega
  . obtain⟨a1,a2,a3,a4,a5,a6,a7,a8,a9⟩:=h;rw[vpay9 (by omega)];rcases Ch (ii _ a9)with q|q
    . grind
    . rw[q,vpays];simp;omega
end
def Pz(ts:List ae):Nat->Int->ab->Prop
 |0,_,_=>False
 |n+1,t,v=>((vpay ts t v).length<=4096/\v.Items.length<=1000/\v.Keys.length<=1000)/\
  ((ts.getD t.toNat ag).Kind=5->∀i,i<(ts.getD t.toNat ag).Members.length->Pz ts n ((ts.getD t.toNat ag).Members.getD i af).Type_ (v.Items.getD i aj))/\
  ((ts.getD t.toNat ag).Kind=6->∀m,findM (ts.getD t.toNat ag).Members v.ID=some m->∀y,y∈v.Items->Pz ts n m.Type_ y)/\
  (7<=(ts.getD t.toNat ag).Kind->(∀y,y∈v.Items->Pz ts n (ts.getD t.toNat ag).Elem y)/\∀y,y∈v.Keys->Pz ts n (ts.getD t.toNat ag).Key y)
section
variable {ts:List ae}
theorem Pz.len{n:Nat}{t:Int}{v:ab}(h:Pz ts n t v):(vpay ts t v).length<=4096:=by
 cases n with
 |zero=>cases h
 |succ n=>exact h.1.1
theorem qY(p:List UInt8):p.length<=(bB p).length:=by unfold bB;simp
theorem vb{t:Int}:∀{l:List ab} {y:ab},y∈l->(vpay ts t y).length<=((vpays ts t l).flatMap bB).length
 |v::l,y,h=>by
  rw[vpays,List.flatMap_cons,List.length_append];rcases List.mem_cons.1 h with rfl|h
  . have:=qY (vpay ts t y);omega
  . have:=vb (t:=t) h;omega
theorem uP:∀{ms:List av} {l:List ab} (i:Nat),i<ms.length->i<l.length->om (ms.getD i af) (l.getD i aj)=false->(vpay ts (ms.getD i af).Type_ (l.getD i aj)).length<=((vents ts ms l).flatMap Fd.text).length
 |m::ms,v::l,0,_,_,ho=>by
  rw[vents];simp only[List.getD_cons_zero]at ho⊢;rw[if_neg (by simp[ho]),List.flatMap_cons,List.length_append];have h3:(vpay ts m.Type_ v).length<=(Fd.text ⟨m.ID.toNat,m.Critical,vpay ts m.Type_ v⟩).length:=by
   show _<=(cU m.ID.toNat m.Critical (vpay ts m.Type_ v)).length;have:=qY (vpay ts m.Type_ v);unfold cU;simp only[List.length_append];omega
  omega
 |m::ms,v::l,i+1,h1,h2,ho=>by
  have:=uP (ms:=ms) (l:=l) i (by simpa using h1) (by simpa using h2) (by simpa using ho);rw[vents];simp only[List.getD_cons_succ];split
  . exact this
  . rw[List.flatMap_cons,List.length_append];omega
theorem om_eq{m:av}{v:ab}(h:om m v=true):m.HasDefault=true/\v=m.Default:=by
 unfold om at h
 grind
theorem rT:∀{a b:List (List UInt8)} {p:List UInt8},a.length=b.length->p∈a\/p∈b->p.length<=(ilv a b).length
 |[],[],p,_,h=>by simp at h
 |k::ks,v::vs,p,hl,h=>by
  have e1:=qY k;have e2:=qY v;have ih:=@rT ks vs p (by simpa using hl);simp only[ilv,List.length_append];simp only[List.mem_cons]at h
  grind
theorem nE{t:Int}:∀{l:List ab} {y:ab},y∈l->vpay ts t y∈vpays ts t l
 |v::l,y,h=>by
  rw[vpays];rcases List.mem_cons.1 h with rfl|h
  . simp
  . exact .tail _ (nE h)
theorem OZ{t:Int}{v:ab}(hk:(ts.getD t.toNat ag).Kind<=4)(hf:vfit ts true t v):vlev ts t v=1:=by
 obtain⟨⟨_,_,k3,_⟩,kc⟩:=(ck _ _ _).1 hf;refine MX ?_ ?_
 . rcases kc with k|k|k|k|k|k|k|k|k
   . exact k.2.2.2.2.1
   . exact k.2.2.2.2.1
   . exact k.2.2.2.2.1
   . exact k.2.2.2.2.1
   all_goals omega
 . rcases kc with k|k|k|k|k|k|k|k|k
   . exact k.2.2.2.2.2.1
   . exact k.2.2.2.2.2.1
   . exact k.2.2.2.2.2.1
   . exact k.2.2.2.2.2.1
   all_goals omega
theorem pz_of(H:DrOk ts):∀(n:Nat) {v:ab} {t:Int},OkV v->vfit ts true t v->(vpay ts t v).length<=4096\/wt v<=3000->vlev ts t v+13<=n\/wt v<=n->Pz ts n t v
 |0,v,t,_,_,_,hd=>by have:=Qa v;omega
 |n+1,v,t,hv,hf,hw,hd=>by
  have HS:=H.V.sok H.T;have hl:(vpay ts t v).length<=4096:=by
   rcases hw with h|h
   . exact h
   . have:=M5 H hv t hf h;unfold Sm at this;omega
  have hwt:=wt_eq v;obtain⟨⟨g1,g2,g3,g4⟩,hc⟩:=(ck _ _ _).1 hf;have hj:t.toNat<ts.length:=by omega
  have hmem:=aB hj ag;have hM:=H.M _ hmem;have hI:=(H.I _ hmem).2.2;have hR:=g4 rfl;cases hv with
  |mk _ hs h1 h2 h3 hk hi hrd n1 n2 n3 n4=>
  have wI:wt v<=3000->∀y,y∈v.Items->wt y<=3000:=λh y hy=>by have:=bR hy;omega
  have wK:wt v<=3000->∀y,y∈v.Keys->wt y<=3000:=λh y hy=>by have:=bR hy;omega
  have mI:wt v<=n+1->∀y,y∈v.Items->wt y<=n:=λh y hy=>by have:=bR hy;omega
  have mK:wt v<=n+1->∀y,y∈v.Keys->wt y<=n:=λh y hy=>by have:=bR hy;omega
  have hle:=B5 (ts:=ts) t v
  have lE:7<=(ts.getD t.toNat ag).Kind->∀y,y∈v.Items->vlev ts (ts.getD t.toNat ag).Elem y+13<=n\/wt y<=n:=λh7 y hy=>hd.imp (λhd=>by
   rw[if_neg (show ¬(ts.getD t.toNat ag).Kind=5 by omega),if_neg (show ¬(ts.getD t.toNat ag).Kind=6 by omega)]at hle;have:=uc (ts:=ts) (t:=(ts.getD t.toNat ag).Elem) hy
   omega) λhd=>mI hd _ hy
  have leaf:v.Items=[]->v.Keys=[]->v.Items.length<=1000/\v.Keys.length<=1000:=λa b=>by rw[a,b];simp
  unfold Pz;rcases hc with h|h|h|h|h|h|h|h|h
  . obtain⟨a1,a2,a3,a4,a5,a6,a7⟩:=h;exact⟨⟨hl,leaf a6 a5⟩,by omega,by omega,by omega⟩
  . obtain⟨a1,a2,a3,a4,a5,a6,a7,_⟩:=h;exact⟨⟨hl,leaf a6 a5⟩,by omega,by omega,by omega⟩
  . obtain⟨a1,a2,a3,a4,a5,a6,a7,_⟩:=h;exact⟨⟨hl,leaf a6 a5⟩,by omega,by omega,by omega⟩
  . obtain⟨a1,a2,a3,a4,a5,a6,a7,_⟩:=h;exact⟨⟨hl,leaf a6 a5⟩,by omega,by omega,by omega⟩
  . obtain⟨a1,a2,a3,a4,a5,a6,a7,a8⟩:=h;obtain⟨f1,f2⟩:=dO.1 a8;refine⟨⟨hl,by omega,by rw[a6];simp⟩,λ_ i hi'=>?_,by omega,by omega⟩;have hm:=aB (by omega:i<v.Items.length) aj;cases ho:om ((ts.getD t.toNat ag).Members.getD i af) (v.Items.getD i aj)with
    |true=>
     obtain⟨o1,o2⟩:=om_eq ho;have hW:=H.W _ hmem _ (aB hi' af) o1;rw[<-o2]at hW;refine pz_of H n (hi _ hm) (f2 i hi') (.inr (by omega)) (.inr ?_);rcases hd with hd|hd
     . omega
     . exact mI hd _ hm
    |false=>
     refine pz_of H n (hi _ hm) (f2 i hi') ?_ (hd.imp (λhd=>by
      rw[if_pos (show(ts.getD t.toNat ag).Kind=5 by omega)]at hle;have:=Ag (ts:=ts) hi' (by omega:i<v.Items.length) ho
      omega) λhd=>mI hd _ hm)
     rcases hw with hw|hw
     . left;have h0:=uP (ts:=ts) i hi' (by omega:i<v.Items.length) ho;rw[vpay5 (by omega),sZ (iE _ _)]at hl;unfold cV at hl;rw[hR,List.map_nil,List.append_nil]at hl;omega
     . exact .inr (wI hw _ hm)
  . obtain⟨a1,a2,a3,a4,a5,a6⟩:=h;cases hF:findM (ts.getD t.toNat ag).Members v.ID with
    |none=>rw[hF]at a6;cases a6.2.1
    |some m=>
     rw[hF]at a6;obtain⟨b1,b2,b3⟩:=a6;refine⟨⟨hl,by omega,by rw[a5];simp⟩,by omega,λ_ m' hm' y hy=>?_,by omega⟩;cases hm'
     refine pz_of H n (hi _ hy) (aY.1 b3 _ hy) ?_ (hd.imp (λhd=>by
      rw[if_neg (show ¬(ts.getD t.toNat ag).Kind=5 by omega),if_pos (show(ts.getD t.toNat ag).Kind=6 by omega),hF]at hle;have:=uc (ts:=ts) (t:=m.Type_) hy;dsimp only at hle
      omega) λhd=>mI hd _ hy)
     rcases hw with hw|hw
     . left;rw[vpay6 (by omega),hF,List.length_append]at hl;have hq:(vpays ts m.Type_ v.Items).headD []=vpay ts m.Type_ y:=by
        match hv:v.Items,b2 with
        |[a],_=>rw[hv]at hy;rw[List.mem_singleton.1 hy,vpays,vpays];rfl
       simp only[hq]at hl;omega
     . exact .inr (wI hw _ hy)
  . obtain⟨a1,a2,a3,a4,a5,a6,a7,a8,a9⟩:=h;have lI:=lE (by omega);refine⟨⟨hl,by omega,by simp_all⟩,by omega,by omega,λ_=>⟨λy hy=>pz_of H n (hi _ hy) (aY.1 a9 _ hy) ?_ (lI _ hy),λy hy=>by simp_all⟩⟩;rcases hw with hw|hw
    . left;rw[vpay7 (by omega)]at hl;have:=vb (ts:=ts) (t:=(ts.getD t.toNat ag).Elem) hy;omega
    . exact .inr (wI hw _ hy)
  . obtain⟨a1,a2,a3,a4,a5,a6,a7,a8,a9,a10,a11⟩:=h;have hi8:=rD (vpays ts (ts.getD t.toNat ag).Key v.Keys) (vpays ts (ts.getD t.toNat ag).Elem v.Items)
    refine⟨⟨hl,by omega,by omega⟩,by omega,by omega,λ_=>⟨λy hy=>pz_of H n (hi _ hy) (aY.1 a10 _ hy) ?_ (lE (by omega) _ hy),λy hy=>pz_of H n (hk _ hy) (aY.1 a9 _ hy) ?_ (hd.imp (λhd=>by
     have hne:v.Keys≠[]:=λe=>by rw[e]at hy;cases hy
     rw[if_neg hne]at hle;have:=OZ (HS.Ky _ hmem (by omega)).2 (aY.1 a9 _ hy)
     omega) λhd=>mK hd _ hy)⟩⟩
    all_goals
     rcases hw with hw|hw
     case inr=>first|exact .inr (wI hw _ hy)|exact .inr (wK hw _ hy)
     left;rw[vpay8 (by omega)]at hl;have e:(vpays ts (ts.getD t.toNat ag).Key v.Keys).length=(vpays ts (ts.getD t.toNat ag).Elem v.Items).length:=by rw[mY,mY];omega
     have:=rT (p:=vpay ts _ y) e (by first|exact .inr (nE hy)|exact .inl (nE hy));omega
  . obtain⟨a1,a2,a3,a4,a5,a6,a7,a8,a9⟩:=h;have lI:=lE (by omega);refine⟨⟨hl,by omega,by simp_all⟩,by omega,by omega,λ_=>⟨λy hy=>pz_of H n (hi _ hy) (aY.1 a9 _ hy) ?_ (lI _ hy),λy hy=>by simp_all⟩⟩;rcases hw with hw|hw
    . left;rw[vpay9 (by omega)]at hl;have hq:vpays ts (ts.getD t.toNat ag).Elem v.Items=[vpay ts (ts.getD t.toNat ag).Elem y]:=by
       match hv:v.Items,a8 with
       |[a],_=>rw[hv]at hy;rw[List.mem_singleton.1 hy,vpays,vpays]
       |[],_=>rw[hv]at hy;cases hy
      rw[hq]at hl;rw[List.length_cons]at hl;omega
    . exact .inr (wI hw _ hy)
end
section
variable {tw tr:List ae}
theorem M6{n:Nat}{t:Int}{v:ab}{rt:Int}{path:List Int}{u:ab}(hk:(tw.getD t.toNat ag).Kind<=4)(h:vread tw tr n t v rt path= .inl u):u=v:=by
 cases n with
 |zero=>cases h
 |succ n=>
  rw[qO]at h;unfold rdK at h
  grind
theorem M7{f:Rdr}{path:List Int}{t rt:Int}(hf:∀v rt path u,f t v rt path= .inl u->u=v){i:Nat}{l us:List ab}(h:ba f path t rt i l= .inl us):us=l:=by
 obtain⟨a,b⟩:=qP h;exact N9 a λj hj=>hf _ _ _ _ (b j (by omega))
theorem Od{y:ae}{path:List Int}{ms:List av}{l:List ab}{r:List aK}(hm:MAsc ms)(h:rrest tw y path ms l= .inl r):dT y.Members r:=by
 obtain⟨_,b,c⟩:=qX h;refine⟨?_,λa ha=>?_⟩
 . have h1:(ms.map λm=>m.ID).Pairwise (· < ·):=List.pairwise_map.2 hm.1
   grind
 . obtain⟨c1,j,j1,j2,e⟩:=c a ha;refine⟨?_,c1⟩;rw[e];exact hm.2 _ (aB j1 af)
theorem I1000.i64{n:Int}(h:I1000 n): -9223372036854775808<=n/\n<=9223372036854775807:=by unfold I1000 at h;omega
def rU(tr:List ae)(rt:Int)(u:ab):Prop:=OkV u/\vfit tr false rt u
def RdOut(tw tr:List ae)(n:Nat):Prop:=∀{v:ab},OkV v->∀{t rt:Int} {path:List Int} {u:ab},vfit tw true t v->Pz tw n t v->0<=rt->rt<tr.length->vread tw tr n t v rt path= .inl u->rU tr rt u
theorem LW (HW:DrOk tw) (HR:DrOk tr) {n:Nat} (ih:RdOut tw tr n):RdOut tw tr (n+1):= by
 intro v hv t rt path u hf hP r0 r1 h;unfold Pz at hP;obtain⟨⟨z1,z2,z3⟩,P5,P6,P7⟩:=hP;have SW:=HW.V.sok HW.T;have SR:=HR.V.sok HR.T;have hv':=hv;have hwt:=wt_eq v;obtain⟨⟨g1,g2,g3,g4⟩,hc⟩:=(ck _ _ _).1 hf;have hj:t.toNat<tw.length:=by omega
 have hjr:rt.toNat<tr.length:=by omega
 have hmem:=aB hj ag;have hmr:=aB hjr ag;have hfo:=λu=>(ck (ts:=tr) false rt u).2
 rw[qO]at h;generalize hx:tw.getD t.toNat ag=x at*;generalize hy:tr.getD rt.toNat ag=y at*;cases hv with
 |mk _ hs h1 h2 h3 hk hi hrd n1 n2 n3 n4=>
 have par:∀{t rt:Int} {i:Nat} {us:List ab},vfits tw true t v.Items->(∀y,y∈v.Items->Pz tw n t y)->0<=rt->rt<tr.length->ba (vread tw tr n) path t rt i v.Items= .inl us->us.length=v.Items.length/\(∀q,q∈us->OkV q)/\vfits tr false rt us:=λ{t rt i us} hfs hq a0 a1 hp=>by
  obtain⟨a,b⟩:=qP hp;have key:∀q,q∈us->rU tr rt q:=λq hq'=>by
   obtain⟨j,j1,rfl⟩:=va aj hq';have hm:=aB (by omega:j<v.Items.length) aj;exact ih (hi _ hm) (aY.1 hfs _ hm) (hq _ hm) a0 a1 (b j (by omega))
  exact⟨a,λq hq=>(key q hq).1,aY.2 λq hq=>(key q hq).2⟩
 have hkk:∀t,vfits tw true t v.Keys->(∀y,y∈v.Keys->Pz tw n t y)->(tw.getD t.toNat ag).Kind<=4->∀{rt:Int} {i:Nat} {us:List ab},0<=rt->rt<tr.length->ba (vread tw tr n) path t rt i v.Keys= .inl us->us=v.Keys/\vfits tr false rt v.Keys:=λt hfs hq' hk4 rt i us a0 a1 hp=>by
  have e:=M7 (λv rt path u h=>M6 hk4 h) hp;subst e;obtain⟨a,b⟩:=qP hp;refine⟨rfl,aY.2 λq hq=>?_⟩;obtain⟨j,j1,rfl⟩:=va aj hq;exact(ih (hk _ hq) (aY.1 hfs _ hq) (hq' _ hq) a0 a1 (b j j1)).2
 unfold rdK at h;by_cases hK:x.Kind=y.Kind
 . rw[if_neg (by simpa using hK)]at h;rcases hc with h'|h'|h'|h'|h'|h'|h'|h'|h'
   . rw[if_neg (by omega),if_neg (by omega),if_neg (by omega),if_neg (by omega),if_neg (by omega)]at h;split at h<;>cases h
     exact⟨hv',hfo _ ⟨⟨r0,r1,by omega,by simp⟩,.inl h'⟩⟩
   . rw[if_neg (by omega),if_neg (by omega),if_neg (by omega),if_neg (by omega),if_neg (by omega)]at h;split at h<;>cases h
     rename_i hl;exact⟨hv',hfo _ ⟨⟨r0,r1,by omega,by simp⟩,.inr (.inl (by have:=hl.1 (by omega);simp_all))⟩⟩
   . rw[if_neg (by omega),if_neg (by omega),if_neg (by omega),if_neg (by omega),if_neg (by omega)]at h;split at h<;>cases h
     rename_i hl;exact⟨hv',hfo _ ⟨⟨r0,r1,by omega,by simp⟩,.inr (.inr (.inl (by have:=hl.2.1 (by omega);simp_all)))⟩⟩
   . rw[if_neg (by omega),if_neg (by omega),if_neg (by omega),if_neg (by omega),if_neg (by omega)]at h;split at h<;>cases h
     rename_i hl;have hI:I1000 v.ID:=by
      rcases h'.2.2.2.2.2.2.2 with⟨y,y1,y2⟩|⟨_,h,_⟩
      . rw[<-y2];exact SW.S _ hmem (by omega) y y1
      . cases h
     refine⟨hv',hfo _ ⟨⟨r0,r1,by omega,by simp⟩,.inr (.inr (.inr (.inl ⟨h'.1,h'.2.1,h'.2.2.1,h'.2.2.2.1,h'.2.2.2.2.1,h'.2.2.2.2.2.1,h'.2.2.2.2.2.2.1,?_⟩)))⟩⟩;rcases hl.2.2 (by omega)with q|q
     . exact .inl q
     grind
   . obtain⟨a1,a2,a3,a4,a5,a6,a7,a8⟩:=h';obtain⟨m1,m2⟩:=SW.A _ hmem (.inl (by omega));obtain⟨m3,m4⟩:=SR.A _ hmr (.inl (by omega));obtain⟨f1,f2⟩:=dO.1 a8;rw[if_pos (by omega)]at h;obtain⟨is,e1,h⟩:=Ak h;obtain⟨r,e2,rfl⟩:=nR h;obtain⟨b1,b2⟩:=Al e1;have key:∀j,j<y.Members.length->rU tr (y.Members.getD j af).Type_ (is.getD j aj):=λj hj'=>by
      have hmy:=aB hj' af;rcases Oc (b2 j hj')with⟨_,c2,c3⟩|⟨i,c1,c2,_⟩
      . rw[c3];exact⟨(HR.T _ hmr).dv _ hmy,vfit_weak _ _ (HR.D _ hmr _ hmy c2)⟩
      . obtain⟨d1,_,_⟩:=bS c1;have hm:=aB (by omega:i<v.Items.length) aj;obtain⟨q0,q1⟩:=HR.dc.mem hmr hmy;exact ih (hi _ hm) (f2 i d1) (P5 (by omega) i d1) q0 q1 c2
     have hro:=Od m1 e2;obtain⟨c1,_,c3⟩:=qX e2
     refine⟨.mk _ (by simp) (by simp) (by show is.length<=_;unfold reachBytes;omega) (by show r.length<=_;unfold reachBytes;omega) (λq hq=>by cases hq) (λq hq=>?_) (λq hq=>?_) (by simp) (by simp) (by simp) (λq hq=>(hro.2 q hq).1.i64),hfo _ ⟨⟨r0,r1,by show(5:Int)=_;omega,by simp⟩,.inr (.inr (.inr (.inr (.inl ⟨rfl,rfl,rfl,rfl,rfl,rfl,hro,dO.2 ⟨b1,λj hj'=>(key j hj').2⟩⟩))))⟩⟩
     . obtain⟨j,j1,rfl⟩:=va aj hq;exact(key j (by have:is.length=_:=b1;have j1':j<is.length:=j1;omega)).1
     . obtain⟨_,j,j1,j2,e⟩:=c3 q hq;have hm:=aB j2 aj;have:=(P5 (by omega) j j1).len;rw[e];unfold reachBytes
       grind
   . obtain⟨a1,a2,a3,a4,a5,a6⟩:=h';rw[if_neg (by omega),if_pos (by omega)]at h;unfold rd6 at h;obtain⟨m1,m2⟩:=SW.A _ hmem (.inr (by omega));cases hF:findM x.Members v.ID with
     |none=>rw[hF]at a6;cases a6.2.1
     |some m=>
      rw[hF]at a6;obtain⟨b1,b2,b3⟩:=a6;have hsome:=lz x.Members v.ID;rw[hF]at hsome;cases hI:fI x.Members v.ID with
      |none=>rw[hI]at hsome;cases hsome
      |some i=>
      obtain⟨d1,d2,_⟩:=bS hI;obtain⟨d3,d4⟩:=iH hF;have em:x.Members.getD i af=m:=nQ m1 (aB d1 af) d3 (by rw[d2,d4]);have hid:I1000 v.ID:=by rw[<-d4];exact m1.2 m d3
      simp only[hI,em]at h;have hm:=aB (by omega:0<v.Items.length) aj;cases hY:fI y.Members v.ID with
      |some k=>
       simp only[hY]at h;obtain⟨w,e1,rfl⟩:=nR h;obtain⟨k1,k2,_⟩:=bS hY;have hmy:=aB k1 af;obtain⟨q0,q1⟩:=HR.dc.mem hmr hmy;obtain⟨z1,z2⟩:=ih (hi _ hm) (aY.1 b3 _ hm) (P6 (by omega) _ hF _ hm) q0 q1 e1;have hFy:findM y.Members v.ID=some (y.Members.getD k af):=by rw[<-k2];exact Oa (SR.A _ hmr (.inr (by omega))).1 hmy
       refine⟨.mk _ (by simp) (by simp) (by show[w].length<=_;unfold reachBytes;simp) (by simp) (λq hq=>by cases hq) (λq hq=>?_) (λq hq=>by cases hq) (by simp) (by simp) hid.i64 (λq hq=>by cases hq),hfo _ ⟨⟨r0,r1,by show(6:Int)=_;omega,by simp⟩,.inr (.inr (.inr (.inr (.inr (.inl ⟨rfl,rfl,rfl,rfl,rfl,?_⟩)))))⟩⟩
       . grind
       . show match findM y.Members v.ID with|some m=>_|none=>_
         rw[hFy];exact⟨rfl,rfl,z2,trivial⟩
      |none=>
       simp only[hY]at h;split at h
       . cases h;rename_i ho;have hFy:findM y.Members v.ID=none:=by
          have:=lz y.Members v.ID;rw[hY]at this;cases hq:findM y.Members v.ID with
          |none=>rfl
          |some _=>rw[hq]at this;cases this
         have:=(P6 (by omega) _ hF _ hm).len;refine⟨.mk _ (by simp) (by simp) (by simp) (by show[_].length<=_;unfold reachBytes;simp) (λq hq=>by cases hq) (λq hq=>by cases hq) (λq hq=>?_) (by simp) (by simp) hid.i64 (λq hq=>?_),hfo _ ⟨⟨r0,r1,by show(6:Int)=_;omega,by simp⟩,.inr (.inr (.inr (.inr (.inr (.inl ⟨rfl,rfl,rfl,rfl,rfl,?_⟩)))))⟩⟩
         . rw[List.mem_singleton.1 hq];show(vpay tw _ _).length<=_;unfold reachBytes;omega
         . grind
         grind
       . cases h
   . obtain⟨a1,a2,a3,a4,a5,a6,a7,a8,a9⟩:=h';rw[if_neg (by omega),if_neg (by omega),if_pos (by omega)]at h;unfold rd7 at h;split at h
     . rename_i hM;obtain⟨is,e1,rfl⟩:=nR h;obtain⟨q0,q1⟩:=HR.dc.elem hmr (by omega);obtain⟨p1,p2,p3⟩:=par a9 (P7 (by omega)).1 q0 q1 e1
       exact⟨.mk _ (by simp) (by simp) (by show is.length<=_;omega) (by simp) (λq hq=>by cases hq) p2 (λq hq=>by cases hq) (by simp) (by simp) (by simp) (λq hq=>by cases hq),hfo _ ⟨⟨r0,r1,by show(7:Int)=_;omega,by simp⟩,.inr (.inr (.inr (.inr (.inr (.inr (.inl ⟨rfl,rfl,rfl,rfl,rfl,rfl,rfl,by show(is.length:Int)<=_;omega,p3⟩))))))⟩⟩
     . cases h
   . obtain⟨a1,a2,a3,a4,a5,a6,a7,a8,a9,a10,a11⟩:=h';rw[if_neg (by omega),if_neg (by omega),if_neg (by omega),if_pos (by omega)]at h;unfold rd8 at h;split at h
     . rename_i hM;obtain⟨ks,e0,h⟩:=Ak h;obtain⟨is,e1,rfl⟩:=nR h;obtain⟨q0,q1⟩:=HR.dc.elem hmr (by omega);obtain⟨q2,q3⟩:=HR.dc.key hmr (by omega);obtain⟨p1,p2,p3⟩:=par a10 (P7 (by omega)).1 q0 q1 e1;obtain⟨rfl,p4⟩:=hkk _ a9 (P7 (by omega)).2 (SW.Ky _ hmem (by omega)).2 q2 q3 e0
       exact⟨.mk _ (by simp) (by show v.Keys.length<=_;omega) (by show is.length<=_;omega) (by simp) hk p2 (λq hq=>by cases hq) (by simp) (by simp) (by simp) (λq hq=>by cases hq),hfo _ ⟨⟨r0,r1,by show(8:Int)=_;omega,by simp⟩,.inr (.inr (.inr (.inr (.inr (.inr (.inr (.inl ⟨rfl,rfl,rfl,rfl,rfl,rfl,by show(v.Keys.length:Int)<=_;omega,by show is.length=v.Keys.length;omega,p4,p3,a11⟩)))))))⟩⟩
     . cases h
   . obtain⟨a1,a2,a3,a4,a5,a6,a7,a8,a9⟩:=h';rw[if_neg (by omega),if_neg (by omega),if_neg (by omega),if_neg (by omega),if_pos (by omega)]at h;obtain⟨is,e1,rfl⟩:=nR h;obtain⟨q0,q1⟩:=HR.dc.elem hmr (by omega);obtain⟨p1,p2,p3⟩:=par a9 (P7 (by omega)).1 q0 q1 e1
     exact⟨.mk _ (by simp) (by simp) (by show is.length<=_;omega) (by simp) (λq hq=>by cases hq) p2 (λq hq=>by cases hq) (by simp) (by simp) (by simp) (λq hq=>by cases hq),hfo _ ⟨⟨r0,r1,by show(9:Int)=_;omega,by simp⟩,.inr (.inr (.inr (.inr (.inr (.inr (.inr (.inr ⟨rfl,rfl,rfl,rfl,rfl,rfl,rfl,by show is.length<=1;omega,p3⟩)))))))⟩⟩
 grind
theorem uw(HW:DrOk tw)(HR:DrOk tr):∀n,RdOut tw tr n
 |0=>λ_ _ _ _ _ _ _ _ _ h=>by cases h
 |n+1=>LW HW HR (uw HW HR n)
end
theorem rj{m:av}{v:ab}(hv:OkV v):ji (m,v)=some (om m v):=by
 rw[ji];simp only[ab.aD];unfold om;cases hd:m.HasDefault with
 |false=>rfl
 |true=>
  obtain⟨r,r1,r2⟩:=Bd hv m.Default
  grind
theorem ux{p:List UInt8}(h:p.length<=100000):kD p=some (bB p):=by
 rw[kD,wrpn (by omega),jW (by omega)];have:=cP (n:=p.length) (by omega);simp only[oZ4,oZ3];rw[if_pos (bz (by omega))];rfl
theorem M8{id:Int}{c:Bool}{p:List UInt8}(hid:I1000 id)(h:p.length<=4096):qk (id,c,p)=some (cU id.toNat c p,0):=by
 unfold I1000 at hid;obtain⟨n,rfl⟩:=Int.eq_ofNat_of_zero_le (by omega:0<=id);have a:¬(n:Int)<1:=by omega
 have b:¬(1000:Int)<n:=by omega
 rw[qk,if_neg (by simp[a,b]),if_neg (by simp;omega),NU (by omega) (by omega),aA];rfl
section
variable {ts:List ae}
theorem ud:∀{ms:List av} {l:List ab},((vents ts ms l).map λf=>f.id).Sublist (ms.map λm=>m.ID.toNat)
 |[],l=>by rw[vents]<;>simp
 |m::ms,[]=>by rw[vents]<;>simp
 |m::ms,v::l=>by
  rw[vents];split
  . exact(ud (ms:=ms) (l:=l)).cons _
  . exact(ud (ms:=ms) (l:=l)).cons₂ _
theorem M9{ms:List av}{l:List ab}(hm:MAsc ms):(vents ts ms l).Pairwise (λa b=>a.id<b.id):=by
 have h1:(ms.map λm=>m.ID.toNat).Pairwise (· < ·):=List.pairwise_map.2 (hm.1.imp_of_mem λ{a b} ha hb h=>by
  have:=hm.2 a ha;unfold I1000 at this
  omega)
 exact List.pairwise_map.1 (h1.sublist ud)
theorem zi{t:Int}{v:ab}(h:(ts.getD t.toNat ag).Kind=5)(hr:v.Rest=[])(hm:MAsc (ts.getD t.toNat ag).Members):vpay ts t v=(vents ts (ts.getD t.toNat ag).Members v.Items).flatMap Fd.text:=by
 rw[vpay5 h];have hro:dT (ts.getD t.toNat ag).Members v.Rest:=by rw[hr];exact⟨.nil,λx hx=>by cases hx⟩
 congr 1
 have e:cV ts (ts.getD t.toNat ag).Members v.Items v.Rest=vents ts (ts.getD t.toNat ag).Members v.Items:=by
  unfold cV
  grind
 rw[<-e];refine Bf (N8 (s5 hm hro) (M3 hm hro)) ?_ λy=>(iE ltF _).mem_iff
 rw[e];exact M9 hm
def Mp(ts:List ae)(t:Int)(v:ab):Prop:=cM ((⟨ts⟩:au),t,v)=some (vpay ts t v)
theorem mp_l0 {ms:List av} {v:ab} (hm:∀ m,m∈ms->I1000 m.ID) (hl:v.Items.length = ms.length) (hM:ms.length<=1000) (hv:∀ y,y∈v.Items->OkV y) (hs:∀ i,i<ms.length->om (ms.getD i af) (v.Items.getD i aj) = false->(vpay ts (ms.getD i af).Type_ (v.Items.getD i aj)).length<=4096/\Mp ts (ms.getD i af).Type_ (v.Items.getD i aj)):
 ∀(k i:Nat) (acc:List UInt8),i+k=ms.length->acc.length<=i*5000->
 gO (acc,ms,(ms.length:Int),(i:Int),ts,v)=some (acc++(vents ts (ms.drop i) (v.Items.drop i)).flatMap Fd.text)
 |0,i,acc,hi,ha=>by
  rw[gO,if_neg (by simp;omega),List.drop_eq_nil_of_le (by omega:ms.length<=i),vents]
  . simp
  grind
 |k+1,i,acc,hi,ha=>by
  have hlt:i<ms.length:=by omega
  have hlt2:i<v.Items.length:=by omega
  have hmem:=aB hlt2 aj;rw[gO,if_pos (by simp;omega),if_pos (aq hlt)];simp only[oZ4,oZ3,aA,ab.aD,dM];rw[if_pos (aq hlt2),rj (hv _ hmem),bu hlt af,bu hlt2 aj,vents];have rc:=λacc=>mp_l0 hm hl hM hv hs k (i+1) acc (by omega)
  cases ho:om (ms.getD i af) (v.Items.getD i aj)with
  |true=>
   simp only[oZ3,Bool.not_true,Bool.false_eq_true,if_false,if_true];rw[aC (by omega),rc acc (by omega)]
  |false=>
   obtain⟨h1,h2⟩:=hs i hlt ho;unfold Mp at h2;simp only[oZ3,Bool.not_false,if_true,Bool.false_eq_true,if_false];rw[if_pos (aq hlt2),h2];simp only[oZ3];rw[M8 (hm _ (aB hlt af)) (by omega)];simp only[oZ3];have hid:=hm _ (aB hlt af);unfold I1000 at hid;have a1:=lA (p:=vpay ts (ms.getD i af).Type_ (v.Items.getD i aj)) (by omega)
   have a2:=vput2 (n:=2*(ms.getD i af).ID.toNat+(if(ms.getD i af).Critical then 1 else 0)) (by split<;>omega);have hlen:(cU (ms.getD i af).ID.toNat (ms.getD i af).Critical (vpay ts (ms.getD i af).Type_ (v.Items.getD i aj))).length<=5000:=by
    unfold cU
    grind
   rw[if_pos (bz (by omega)),aC (by omega),rc _ (by rw[List.length_append];omega),List.append_assoc];rfl
theorem mp_l2 {x:ae} {v:ab} (h8:¬ x.Kind = 8) (hl:v.Items.length<=3000) (hs:∀ y,y∈v.Items->(vpay ts x.Elem y).length<=4096/\Mp ts x.Elem y):
 ∀(k i:Nat) (acc:List UInt8),i+k=v.Items.length->acc.length<=i*5000->
 cI (acc,v.Items,(v.Items.length:Int),(i:Int),ts,v,x)=some (acc++(vpays ts x.Elem (v.Items.drop i)).flatMap bB)
 |0,i,acc,hi,ha=>by
  rw[cI,if_neg (by simp;omega),List.drop_eq_nil_of_le (by omega:v.Items.length<=i),vpays];simp
 |k+1,i,acc,hi,ha=>by
  have hlt:i<v.Items.length:=by omega
  obtain⟨h1,h2⟩:=hs _ (aB hlt aj);unfold Mp at h2;rw[cI,if_pos (by simp;omega),if_pos (aq hlt)];simp only[oZ4,oZ3,aA,ab.aD];have a1:=lA (p:=vpay ts x.Elem (v.Items.getD i aj)) (by omega);rw[if_neg (by simp[h8]),h2];simp only[oZ3];rw[ux (by omega)];simp only[oZ3]
  rw[if_pos (bz (by omega)),aC (by omega),mp_l2 h8 hl hs k (i+1) _ (by omega) (by rw[List.length_append];omega),bu hlt aj,vpays,List.flatMap_cons,List.append_assoc]
theorem DP {x:ae} {v:ab} (h8:x.Kind = 8) (hkl:v.Items.length = v.Keys.length) (hl:v.Items.length<=3000) (hs:∀ y,y∈v.Items->(vpay ts x.Elem y).length<=4096/\Mp ts x.Elem y) (hk:∀ y,y∈v.Keys->(vpay ts x.Key y).length<=4096/\Mp ts x.Key y):
 ∀(k i:Nat) (acc:List UInt8),i+k=v.Items.length->acc.length<=i*9000->
 cI (acc,v.Items,(v.Items.length:Int),(i:Int),ts,v,x)=some (acc++ilv (vpays ts x.Key (v.Keys.drop i)) (vpays ts x.Elem (v.Items.drop i)))
 |0,i,acc,hi,ha=>by
  rw[cI,if_neg (by simp;omega),List.drop_eq_nil_of_le (by omega:v.Items.length<=i),List.drop_eq_nil_of_le (by omega:v.Keys.length<=i),vpays,vpays,ilv]
  . simp
  grind
 |k+1,i,acc,hi,ha=>by
  have hlt:i<v.Items.length:=by omega
  have hlt2:i<v.Keys.length:=by omega
  obtain⟨h1,h2⟩:=hs _ (aB hlt aj);obtain⟨h3,h4⟩:=hk _ (aB hlt2 aj);unfold Mp at h2 h4;rw[cI,if_pos (by simp;omega),if_pos (aq hlt)];simp only[oZ4,oZ3,aA,ab.aD];have a1:=lA (p:=vpay ts x.Elem (v.Items.getD i aj)) (by omega);have a2:=lA (p:=vpay ts x.Key (v.Keys.getD i aj)) (by omega);rw[if_pos (by simp[h8]),if_pos (aq hlt2),h4]
  simp only[oZ3];rw[ux (by omega)];simp only[oZ3];rw[if_pos (bz (by omega)),h2];simp only[oZ3];rw[ux (by omega)];simp only[oZ3]
  rw[if_pos (bz (by rw[List.length_append];omega)),aC (by omega),DP h8 hkl hl hs hk k (i+1) _ (by omega) (by rw[List.length_append,List.length_append];omega),bu hlt aj,bu hlt2 aj,vpays,vpays,ilv,List.append_assoc,List.append_assoc]
theorem Oe(H:SOk ts){v:ab}(hv:OkV v){t:Int}(hf:vfit ts true t v)(k4:v.Kind<=4):cY (t,v,1,ts,0)=some (vpay ts t v,ts,1):=by
 obtain⟨⟨g1,g2,g3,_⟩,hc⟩:=(ck _ _ _).1 hf;have n2:I64 v.Int_:=by cases hv with|mk _ _ _ _ _ _ _ _ _ n2 _ _=>exact n2
 obtain⟨j,rfl⟩:∃j:Nat,t=(j:Int):=⟨t.toNat,by omega⟩
 have hj:j<ts.length:=by omega
 have hmem:=aB hj ag;have hv1:=@vpay1 ts (j:Int) v;have hv2:=@vpay2 ts (j:Int) v;have hv3:=@vpay3 ts (j:Int) v;have hv4:=@vpay4 ts (j:Int) v;rw[cY];simp only[oZ4,oZ3];rw[if_pos (aq hj),show maxI 0 1=1 by decide];simp only[aA,ab.aD]at g3 hc hv1 hv2 hv3 hv4⊢;generalize ts.getD j ag=x at*;rcases hc with h|h|h|h|h|h|h|h|h
 . grind
 . rw[if_neg (mt of_decide_eq_true (by omega)),if_pos (decide_eq_true (by omega)),hv2 (by omega),vu n2];simp only[oZ3];have hz:=vw n2;obtain⟨n,hn⟩:∃n:Nat,zig v.Int_=(n:Int):=⟨(zig v.Int_).toNat,by unfold zig;split<;>omega⟩
   rw[hn,aA]at hz;rw[hn,DG hz];rfl
 . grind
 . obtain⟨n,hn,hl⟩:∃n:Nat,v.ID=(n:Int)/\n<=1000:=by
    rcases h.2.2.2.2.2.2.2 with⟨y,y1,y2⟩|⟨_,h,_⟩
    . have:=H.S x hmem (by omega) y y1;unfold I1000 at this
      grind
    . cases h
   rw[if_neg (mt of_decide_eq_true (by omega)),if_neg (mt of_decide_eq_true (by omega)),if_neg (mt of_decide_eq_true (by omega)),if_pos (decide_eq_true (by omega)),hv4 (by omega),hn,wrpn (by omega),DG (by omega),aA];rfl
 all_goals omega
theorem O0(H:DrOk ts){t:Int}{v:ab}(hv:OkV v)(hf:vfit ts true t v)(hs:(vpay ts t v).length<=4096)(k4:v.Kind<=4):mU ((⟨ts⟩:au),t,v)=some (vpay ts t v,0):=by
 rw[mU];simp only[ab.aD];rw[IY H.T H.V hv (vfit_weak _ _ hf)];simp only[oZ4,oZ3];rw[if_neg (by simp),Oe (H.V.sok H.T) hv hf k4]
 grind
theorem DQ(H:DrOk ts){v:ab}(hv:OkV v):∀t,vfit ts true t v->(vpay ts t v).length<=4096->Mp ts t v:=by
 have HS:=H.V.sok H.T;have hv':=hv
 induction hv with
 |mk v hs h1 h2 h3 hk hi hrd n1 n2 n3 n4 ihk ihi=>
  intro t hf hw;obtain⟨⟨g1,g2,g3,g4⟩,hc⟩:=(ck _ _ _).1 hf;obtain⟨j,rfl⟩:∃j:Nat,t=(j:Int):=⟨t.toNat,by omega⟩
  have hj:j<ts.length:=by omega
  have hmem:=aB hj ag;have hR:=g4 rfl;have leaf:=O0 H hv' hf hw;have hM:=H.M _ hmem;have hI:=(H.I _ hmem).2.2;unfold Mp;rw[cM,if_pos (aq hj)];simp only[oZ4,oZ3,ab.aD];rw[aA]at*;rcases hc with h|h|h|h|h|h|h|h|h
  . grind
  . grind
  . grind
  . grind
  . obtain⟨a1,a2,a3,a4,a5,a6,a7,a8⟩:=h;obtain⟨m1,m2⟩:=HS.A _ hmem (.inl (by omega));obtain⟨f1,f2⟩:=dO.1 a8;rw[zi (by rw[aA];omega) hR (by rw[aA];exact m1),aA]at hw
    have h0:=mp_l0 (ts:=ts) (ms:=(ts.getD j ag).Members) (v:=v) m1.2 f1 (by omega) hi (λi hi' ho=>by
     have hm:=aB (by omega:i<v.Items.length) aj;have hl:=Nat.le_trans (uP (ts:=ts) i hi' (by omega) ho) hw
     exact⟨hl,ihi _ hm (hi _ hm) _ (f2 i hi') hl⟩) (ts.getD j ag).Members.length 0 [] (by omega) (by simp)
    have h0':gO ([],(ts.getD j ag).Members,((ts.getD j ag).Members.length:Int),0,ts,v)=_:=h0;rw[if_pos (decide_eq_true (by omega)),h0'];rw[zi (by rw[aA];omega) hR (by rw[aA];exact m1),aA];rfl
  . obtain⟨a1,a2,a3,a4,a5,a6⟩:=h;obtain⟨m1,m2⟩:=HS.A _ hmem (.inr (by omega));cases hF:findM (ts.getD j ag).Members v.ID with
    |none=>rw[hF]at a6;cases a6.2.1
    |some m=>
     rw[hF]at a6;obtain⟨b1,b2,b3⟩:=a6;obtain⟨d3,d4⟩:=iH hF;obtain⟨q,q1,q2,q3⟩:=member_find' m1 (by omega) hF;have hid:=m1.2 m d3;unfold I1000 at hid;have hy:=aB (by omega:0<v.Items.length) aj;have hq:vpays ts m.Type_ v.Items=[vpay ts m.Type_ (v.Items.getD 0 aj)]:=by
      match hv:v.Items,b2 with
      |[a],_=>rw[vpays,vpays];rfl
     have z1:(vpay ts m.Type_ (v.Items.getD 0 aj)).length<=4096:=by
      rw[vpay6 (t:=(j:Int)) (v:=v) (by rw[aA];omega),aA,hF,List.length_append]at hw;simp only[hq,List.headD_cons]at hw;omega
     have z2:=ihi _ hy (hi _ hy) m.Type_ (aY.1 b3 _ hy) z1;unfold Mp at z2;obtain⟨n,hn⟩:∃n:Nat,v.ID=(n:Int):=⟨v.ID.toNat,by omega⟩
     have:=vput2 (n:=n) (by omega);rw[if_neg (mt of_decide_eq_true (by omega)),if_pos (decide_eq_true (by omega)),q2];simp only[oZ3];rw[hn,wrpn (by omega),jW (by omega)];simp only[oZ3];rw[if_pos (aq q1),if_pos (by rw[b2];rfl),aA,q3,show(0:Int).toNat=0 from rfl,z2];simp only[oZ3]
     rw[if_pos (bz (by omega)),vpay6 (t:=(j:Int)) (v:=v) (by rw[aA];omega),aA,hF,hn,aA]
     grind
  . obtain⟨a1,a2,a3,a4,a5,a6,a7,a8,a9⟩:=h
    have h0:=mp_l2 (ts:=ts) (x:=ts.getD j ag) (v:=v) (by omega) (by omega) (λy hy=>by
     rw[vpay7 (by rw[aA];omega),aA]at hw;have hl:=Nat.le_trans (vb (ts:=ts) (t:=(ts.getD j ag).Elem) hy) hw
     exact⟨hl,ihi _ hy (hi _ hy) _ (aY.1 a9 y hy) hl⟩) v.Items.length 0 [] (by omega) (by simp)
    have h0':cI ([],v.Items,(v.Items.length:Int),0,ts,v,ts.getD j ag)=_:=h0;rw[if_neg (mt of_decide_eq_true (by omega)),if_neg (mt of_decide_eq_true (by omega)),if_neg (mt of_decide_eq_true (by omega)),if_pos (decide_eq_true (by omega)),if_pos (decide_eq_true (by omega)),h0',vpay7 (by rw[aA];omega),aA];rfl
  . obtain⟨a1,a2,a3,a4,a5,a6,a7,a8,a9,a10,a11⟩:=h;rw[vpay8 (by rw[aA];omega),aA]at hw;have e:(vpays ts (ts.getD j ag).Key v.Keys).length=(vpays ts (ts.getD j ag).Elem v.Items).length:=by rw[mY,mY];omega
    have h0:=DP (ts:=ts) (x:=ts.getD j ag) (v:=v) (by omega) a8 (by omega) (λy hy=>by
     have hl:=Nat.le_trans (rT e (.inr (nE hy))) hw;exact⟨hl,ihi _ hy (hi _ hy) _ (aY.1 a10 y hy) hl⟩) (λy hy=>by
     have hl:=Nat.le_trans (rT e (.inl (nE hy))) hw
     exact⟨hl,ihk _ hy (hk _ hy) _ (aY.1 a9 y hy) hl⟩) v.Items.length 0 [] (by omega) (by simp)
    have h0':cI ([],v.Items,(v.Items.length:Int),0,ts,v,ts.getD j ag)=_:=h0;rw[if_neg (mt of_decide_eq_true (by omega)),if_neg (mt of_decide_eq_true (by omega)),if_neg (mt of_decide_eq_true (by omega)),if_neg (mt of_decide_eq_true (by omega)),if_pos (decide_eq_true (by omega)),h0',vpay8 (by rw[aA];omega),aA];rfl
  . obtain⟨a1,a2,a3,a4,a5,a6,a7,a8,a9⟩:=h;rw[if_neg (mt of_decide_eq_true (by omega)),if_neg (mt of_decide_eq_true (by omega)),if_pos (decide_eq_true (by omega)),vpay9 (by rw[aA];omega),aA]
    match hI:v.Items,a8 with
    |[],_=>
     rw[kf,if_neg (by simp),vpays];rfl
    |[a],_=>
     have ha:a∈v.Items:=by rw[hI];exact .head _
     have z1:(vpay ts (ts.getD j ag).Elem a).length<=4096:=by
      rw[vpay9 (by rw[aA];omega),aA,hI,vpays,vpays,List.length_cons]at hw;omega
     have z2:=ihi _ ha (hi _ ha) _ (aY.1 a9 a ha) z1;unfold Mp at z2;rw[kf,if_pos (by simp),if_pos (show inR 0 [a].length=true from rfl)];simp only[ab.aD];rw[show[a].getD (Int.toNat 0) aj=a from rfl,z2];simp only[oZ4,oZ3]
     rw[if_pos (bz (by show 1+(vpay ts (ts.getD j ag).Elem a).length<=_;omega)),show addI .i64 0 1=1 from by decide,kf,if_neg (show ¬decide ((1:Int)<([a].length:Int))=true from by simp),vpays,vpays];rfl
end
theorem zj {a0 a2 a4 z0 z2 z4:Int} {a1 z1:Bool} {a3 z3:List UInt8} {l l2:List ab} {r:List aK} (hl:l.length<=1000000000) (h:∀ y,y∈l->cp y = some y):∀ (k i:Nat),i+k = l.length->
 jg ((l.length:Int),(i:Int),a0,a1,a2,a3,a4,z0,z1,z2,z3,z4,l,l2,r)=some (a0,a1,a2,a3,a4,z0,z1,z2,z3,z4,l,l2,r)
 |0,i,hi=>by rw[jg,if_neg (by simp;omega)]
 |k+1,i,hi=>by
  have hlt:i<l.length:=by omega
  rw[jg,if_pos (by simp;omega),if_pos (aq hlt),aA,if_pos (by simp;omega)];simp only[ab.aD];rw[h _ (aB hlt aj)];simp only[oZ4,oZ3,ab.aD];rw[if_pos (aq hlt),if_pos (by simp;omega),aC (by omega),rh hlt];exact zj hl h k (i+1) (by omega)
theorem zk {a0 a2 a4 z0 z2 z4:Int} {a1 z1:Bool} {a3 z3:List UInt8} {l l2:List ab} {r:List aK} (hl:l.length<=1000000000) (h:∀ y,y∈l->cp y = some y):∀ (k i:Nat),i+k = l.length->
 jh ((l.length:Int),(i:Int),a0,a1,a2,a3,a4,z0,z1,z2,z3,z4,l,l2,r)=some (a0,a1,a2,a3,a4,z0,z1,z2,z3,z4,l2,l,r)
 |0,i,hi=>by rw[jh,if_neg (by simp;omega)]
 |k+1,i,hi=>by
  have hlt:i<l.length:=by omega
  rw[jh,if_pos (by simp;omega),if_pos (aq hlt),aA,if_pos (by simp;omega)];simp only[ab.aD];rw[h _ (aB hlt aj)];simp only[oZ4,oZ3,ab.aD];rw[if_pos (aq hlt),if_pos (by simp;omega),aC (by omega),rh hlt];exact zk hl h k (i+1) (by omega)
theorem LX{v:ab}(hv:OkV v):wt v<=1000000000->cp v=some v:=by
 induction hv with
 |mk v hs h1 h2 h3 hk hi hrd n1 n2 n3 n4 ihk ihi=>
  intro hw;have hwt:=wt_eq v;have l1:=wts_len' v.Keys;have l2:=wts_len' v.Items;have l3:=Be v.Rest;have kk:∀y,y∈v.Keys->cp y=some y:=λy hy=>ihk y hy (by have:=bR hy;omega)
  have ki:∀y,y∈v.Items->cp y=some y:=λy hy=>ihi y hy (by have:=bR hy;omega)
  have c1:bg 120 v.Keys=some v.Keys:=by unfold bg;rw[if_pos (fS (lM (by omega) (by omega)))]
  have c2:bg 120 v.Items=some v.Items:=by unfold bg;rw[if_pos (fS (lM (by omega) (by omega)))]
  have c3:bg 24 v.Rest=some v.Rest:=by unfold bg;rw[if_pos (fS (lM (by omega) (by omega)))]
  have L0:=zj (a0:=v.Kind) (a1:=v.Bool_) (a2:=v.Int_) (a3:=v.Str) (a4:=v.ID) (z0:=0) (z1:=false) (z2:=0) (z3:=[]) (z4:=0) (l:=v.Keys) (l2:=v.Items) (r:=v.Rest) (by omega) kk v.Keys.length 0 (by omega)
  have L1:=zk (a0:=v.Kind) (a1:=v.Bool_) (a2:=v.Int_) (a3:=v.Str) (a4:=v.ID) (z0:=0) (z1:=false) (z2:=0) (z3:=[]) (z4:=0) (l:=v.Items) (l2:=v.Keys) (r:=v.Rest) (by omega) ki v.Items.length 0 (by omega);have L0':jg ((v.Keys.length:Int),0,v.Kind,v.Bool_,v.Int_,v.Str,v.ID,0,false,0,[],0,v.Keys,v.Items,v.Rest)=_:=L0
  have L1':jh ((v.Items.length:Int),0,v.Kind,v.Bool_,v.Int_,v.Str,v.ID,0,false,0,[],0,v.Items,v.Keys,v.Rest)=_:=L1;rw[cp,c1,c2,c3];simp only[oZ4,oZ3];rw[L0'];simp only[oZ3];rw[L1'];simp only[oZ3];cases v;rfl
theorem pfail{tw tr:List ae}{path:List Int}(hp:path.length<=90000)(mis:List Int):jf (tw,tr,mis,path)=some ((⟨0,false,0,[],0,[],[],[]⟩:ab),false,tw,tr,path,path):=by
 rw[jf];unfold ou bg;rw[if_pos (fS (bl (by omega) (by omega)))];simp
theorem rG{tw tr:List ae}{path:List Int}(hp:path.length<=90000)(id:Int)(mis:List Int):j8 (id,tw,tr,mis,path)=some ((⟨0,false,0,[],0,[],[],[]⟩:ab),false,tw,tr,path,path++[id]):=by
 rw[j8];unfold ou bg;rw[if_pos (fS (bl (by omega) (by omega)))];simp only[Option.map_some,oZ4,oZ3];rw[if_pos (by simp),if_pos (bl (by omega) (by simp;omega))]
theorem nZ{x:ae}(hl:x.Members.length<=1000)(id:Int):bC (x,id)=some (fIr x.Members id):=by
 obtain⟨r,r1,r2⟩:=sU (t:=x) (id:=id) (by omega);rw[r1,tH r2 (Aj _ _)]
section
variable {tw tr:List ae}
def RI(tw tr:List ae)(mis path:List Int):ab ⊕ List Int->ab×Bool×List ae×List ae×List Int×List Int
 |.inl u=>(u,true,tw,tr,mis,path)
 |.inr p=>(⟨0,false,0,[],0,[],[],[]⟩,false,tw,tr,p,path)
def PL(tw tr:List ae)(mis path:List Int)(acc:List ab):List ab ⊕ List Int->(Bool×List ae×List ae×List Int×List Int) ⊕ (List ae×List ae×List Int×List ab×List Int)
 |.inl us=>.inr (tw,tr,mis,acc++us,path)
 |.inr p=>.inl (false,tw,tr,p,path)
def PI(tw tr:List ae)(mis path:List Int):List ab ⊕ List Int->List ab×Bool×List ae×List ae×List Int×List Int
 |.inl us=>(us,true,tw,tr,mis,path)
 |.inr p=>([],false,tw,tr,p,path)
def Part(tw tr:List ae)(f:Rdr)(path:List Int)(t rt:Int)(v:ab):Prop:=∀(step:Int) (mis:List Int),gU (step,t,v,rt,tw,tr,mis,path)=some (RI tw tr mis path (f t v rt (path++[step])))
theorem Bj{t rt step:Int}{v:ab}{mis path:List Int}{o:ab ⊕ List Int}(hp:path.length<=90000)(h:jj (t,v,rt,tw,tr,mis,path++[step])=some (RI tw tr mis (path++[step]) o)):gU (step,t,v,rt,tw,tr,mis,path)=some (RI tw tr mis path o):=by
 rw[gU];simp only[oZ4,oZ3,ab.aD];rw[if_pos (bl (by omega) (by simp;omega)),h];have e1:subI .i64 ((path++[step]).length:Int) 1=(path.length:Int):=by rw[jV (by simp<;>omega) (by simp<;>omega)];simp
 have e2:slR 0 (path.length:Int) (path++[step]).length=true:=cC.2 (by simp;omega);cases o with
 |inl u=>
  simp only[oZ3,ab.aD,RI];simp_all
 |inr p=>
  simp only[oZ3,ab.aD,RI];simp_all
theorem xH {f:Rdr} {path:List Int} {t rt:Int} {l:List ab} (hl:l.length<=50000) (h:∀ y,y∈l->Part tw tr f path t rt y):∀ (k i:Nat) (acc:List ab) (mis:List Int),i+k = l.length->acc.length<=i->
 iW (t,rt,l,(l.length:Int),(i:Int),tw,tr,mis,acc,path)=some (PL tw tr mis path acc (ba f path t rt i (l.drop i)))
 |0,i,acc,mis,hi,ha=>by
  rw[iW,if_neg (by simp;omega),List.drop_eq_nil_of_le (by omega:l.length<=i)];simp[ba,PL]
 |k+1,i,acc,mis,hi,ha=>by
  have hlt:i<l.length:=by omega
  rw[iW,if_pos (by simp;omega),if_pos (aq hlt),aA];simp only[ab.aD];rw[h _ (aB hlt aj),bu hlt aj,ba];cases f t (l.getD i aj) rt (path++[(i:Int)])with
  |inr p=>rfl
  |inl u=>
   simp only[oZ4,oZ3,RI,Bool.not_true,ab.aD];rw[if_neg (by simp),if_pos (bl (by omega) (by simp;omega)),aC (by omega),xH hl h k (i+1) _ mis (by omega) (by simp;omega)];cases ba f path t rt (i+1) (l.drop (i+1))with
   |inr p=>rfl
   |inl us=>simp[PL,consR]
theorem nF {f:Rdr} {path:List Int} {t rt:Int} {l:List ab} (hl:l.length<=50000) (h:∀ y,y∈l->Part tw tr f path t rt y) (mis:List Int):
 eE (t,l,rt,tw,tr,mis,path)=some (PI tw tr mis path (ba f path t rt 0 l)):=by
 have h0:=xH hl h l.length 0 [] mis (by omega) (by simp);have h0':iW (t,rt,l,(l.length:Int),0,tw,tr,mis,[],path)=_:=h0;rw[eE,h0',List.drop_zero];cases ba f path t rt 0 l with
 |inr p=>rfl
 |inl us=>rfl
def RL(tw tr:List ae)(mis path:List Int)(x:ae)(v:ab)(y:ae)(acc:List ab):List ab ⊕ List Int->(Bool×List ae×List ae×List Int×ab×List Int) ⊕ (List ae×List ae×List Int×ae×ab×ae×Int×Bool×Int×List UInt8×Int×Int×Bool×Int×List UInt8×Int×List Int×List ab)
 |.inl us=>.inr (tw,tr,mis,x,v,y,0,false,0,[],0,v.Kind,false,0,[],0,path,acc++us)
 |.inr p=>.inl (false,tw,tr,p,⟨0,false,0,[],0,[],[],[]⟩,path)
theorem Bk {f:Rdr} {path:List Int} (hp:path.length<=90000) {x y:ae} {v:ab} (hx:x.Members.length<=1000) (hy:y.Members.length<=1000) (hl:v.Items.length = x.Members.length) (hv:∀ q,q∈v.Items->OkV q)
 (hd:∀n,n∈y.Members->n.HasDefault=true->cp n.Default=some n.Default)
 (h:∀i,i<x.Members.length->∀n,n∈y.Members->Part tw tr f path (x.Members.getD i af).Type_ n.Type_ (v.Items.getD i aj)/\∀p u,f (x.Members.getD i af).Type_ (v.Items.getD i aj) n.Type_ p= .inl u->OkV u):∀(k j:Nat) (acc:List ab) (mis:List Int),j+k=y.Members.length->acc.length<=j->
 fk (y.Members,(y.Members.length:Int),(j:Int),tw,tr,mis,x,v,y,0,false,0,[],0,v.Kind,false,0,[],0,path,acc)=some (RL tw tr mis path x v y acc (rmems f x v path (y.Members.drop j)))
 |0,j,acc,mis,hj,ha=>by
  rw[fk,if_neg (by simp;omega),List.drop_eq_nil_of_le (by omega:y.Members.length<=j)];simp[rmems,RL,ab.aD]
 |k+1,j,acc,mis,hj,ha=>by
  have hlt:j<y.Members.length:=by omega
  have hmy:=aB hlt af;have rc:=λacc mis=>Bk hp hx hy hl hv hd h k (j+1) acc mis (by omega)
  rw[fk,if_pos (by simp;omega),if_pos (aq hlt),aA];simp only[oZ4,oZ3,ab.aD,dM];rw[nZ hx,bu hlt af,rmems];unfold rmem fIr;generalize hn:y.Members.getD j af=n at*;cases hF:fI x.Members n.ID with
  |none=>
   simp only[oZ3,Bool.not_false];rw[if_pos trivial];cases hdn:n.HasDefault with
   |false=>
    simp only[Bool.not_false];rw[if_pos trivial,rG hp];rfl
   |true=>
    simp only[Bool.not_true];rw[if_neg (by simp),hd n hmy hdn];simp only[oZ3];rw[if_pos (bl (by omega) (by simp;omega)),aC (by omega),rc _ _ (by simp;omega),if_pos trivial];cases rmems f x v path (y.Members.drop (j+1))with
    |inr p=>rfl
    |inl us=>simp[RL,consR]
  |some i=>
   obtain⟨i1,_,_⟩:=bS hF;have i2:i<v.Items.length:=by omega
   obtain⟨p1,p2⟩:=h i i1 n hmy;simp only[oZ3,Bool.not_true];rw[if_neg (by simp),if_pos (aq i1),if_pos (aq i2),aA,p1 n.ID mis];have hom:=rj (m:=x.Members.getD i af) (hv _ (aB i2 aj));cases hc:f (x.Members.getD i af).Type_ (v.Items.getD i aj) n.Type_ (path++[n.ID])with
   |inr p=>
    simp only[oZ3,RI,ab.aD,Bool.not_false,Bool.not_true,Bool.and_false];rw[if_pos (aq i1),if_pos (aq i2),hom];simp only[oZ3,Bool.false_eq_true,if_false];rw[Bg];generalize om (x.Members.getD i af) (v.Items.getD i aj)=b at*;cases b with
    |false=>rfl
    |true=>
     simp only[cond_true];rw[if_pos trivial,rG hp];rfl
   |inl u=>
    have hu:=rj (m:=n) (p2 _ u hc);simp only[oZ3,RI,ab.aD,Bool.not_false,Bool.not_true,Bool.and_true];rw[if_pos (aq i1),if_pos (aq i2),hom];simp only[oZ3,Bool.false_eq_true,if_false];rw[Bh];generalize om (x.Members.getD i af) (v.Items.getD i aj)=b at*
    have tail:(some [u]>>=λt110=>if room 120 (acc++t110).length=true then fk (y.Members,(y.Members.length:Int),addI .i64 (j:Int) 1,tw,tr,mis,x,v,y,0,false,0,[],0,v.Kind,false,0,[],0,path,acc++t110)else none)=some (RL tw tr mis path x v y acc (consR (.inl u) (rmems f x v path (y.Members.drop (j+1))))):=by
     simp only[oZ4,oZ3];rw[if_pos (bl (by omega) (by simp;omega)),aC (by omega),rc _ _ (by simp;omega)];cases rmems f x v path (y.Members.drop (j+1))with
     |inr p=>rfl
     |inl us=>simp[RL,consR]
    cases b with
    |false=>grind
    |true=>
     rw[if_pos rfl,hu];cases hb:om n u with
     |true=>grind
     |false=>
      simp only[oZ3,cond_true,cond_false,Bool.not_false,and_self,if_true];rw[rG hp];rfl
def RL1(tw tr:List ae)(mis path:List Int)(v:ab)(its:List ab)(acc:List aK):List aK ⊕ List Int->(Bool×List ae×List ae×ab×List Int×List Int) ⊕ (List ae×List ae×List Int×Int×Bool×Int×List UInt8×Int×Int×Bool×Int×List UInt8×Int×List Int×List ab×List aK)
 |.inl rs=>.inr (tw,tr,mis,0,false,0,[],0,v.Kind,false,0,[],0,path,its,acc++rs)
 |.inr p=>.inl (false,tw,tr,⟨0,false,0,[],0,[],[],[]⟩,path,p)
theorem Bl {path:List Int} (hp:path.length<=90000) {x y:ae} {v:ab} (hx:x.Members.length<=1000) (hy:y.Members.length<=1000) (hl:v.Items.length = x.Members.length) (hv:∀ q,q∈v.Items->OkV q)
 (h:∀i,i<x.Members.length->Mp tw (x.Members.getD i af).Type_ (v.Items.getD i aj)) {its:List ab} (mis:List Int):∀(k i:Nat) (acc:List aK),i+k=x.Members.length->acc.length<=i->
 ef (x.Members,(x.Members.length:Int),(i:Int),tw,tr,mis,v,y,0,false,0,[],0,v.Kind,false,0,[],0,path,its,acc)=some (RL1 tw tr mis path v its acc (rrest tw y path (x.Members.drop i) (v.Items.drop i)))
 |0,i,acc,hi,ha=>by
  rw[ef,if_neg (by simp;omega),List.drop_eq_nil_of_le (by omega:x.Members.length<=i),rrest]
  . simp[RL1]
  grind
 |k+1,i,acc,hi,ha=>by
  have hlt:i<x.Members.length:=by omega
  have hlt2:i<v.Items.length:=by omega
  have rc:=λacc=>Bl hp hx hy hl hv h (its:=its) mis k (i+1) acc (by omega)
  rw[ef,if_pos (by simp;omega),if_pos (aq hlt),aA];simp only[oZ4,oZ3,ab.aD,dM];rw[nZ hy,bu hlt af,bu hlt2 aj,rrest];have hs:=lz y.Members (x.Members.getD i af).ID;have hk:(fIr y.Members (x.Members.getD i af).ID).2=(findM y.Members (x.Members.getD i af).ID).isSome:=by
   rw[<-hs];unfold fIr
   grind
  simp only[oZ3];rw[hk];by_cases c1:(findM y.Members (x.Members.getD i af).ID).isSome=true
  . rw[if_pos c1,if_pos c1,aC (by omega),rc _ (by omega)]
  rw[if_neg c1,if_neg c1];by_cases c2:(x.Members.getD i af).Critical=true
  . rw[if_pos c2,if_pos c2,rG hp];rfl
  rw[if_neg c2,if_neg c2,if_pos (aq hlt2),rj (hv _ (aB hlt2 aj))];simp only[oZ3];cases om (x.Members.getD i af) (v.Items.getD i aj)with
  |true=>rw[if_neg (by simp),if_pos rfl,aC (by omega),rc _ (by omega)]
  |false=>
   have hM:=h i hlt;unfold Mp at hM;rw[if_pos (show(!false)=true from rfl),if_neg (show ¬false=true by simp),if_pos (aq hlt2),hM];simp only[oZ3];rw[if_pos (bl (by omega) (by simp;omega)),aC (by omega),rc _ (by simp;omega)];cases rrest tw y path (x.Members.drop (i+1)) (v.Items.drop (i+1))with
   |inr p=>rfl
   |inl us=>simp[RL1,consR]
end
section
variable {tw tr:List ae}
theorem LY {f:Rdr} {path:List Int} (hp:path.length<=90000) {x y:ae} {v:ab} (k5:v.Kind = 5) (hx:x.Members.length<=1000) (hy:y.Members.length<=1000) (hl:v.Items.length = x.Members.length) (hv:∀ q,q∈v.Items->OkV q)
 (hd:∀n,n∈y.Members->n.HasDefault=true->cp n.Default=some n.Default)
 (h:∀i,i<x.Members.length->∀n,n∈y.Members->Part tw tr f path (x.Members.getD i af).Type_ n.Type_ (v.Items.getD i aj)/\∀p u,f (x.Members.getD i af).Type_ (v.Items.getD i aj) n.Type_ p= .inl u->OkV u)
 (hm:∀i,i<x.Members.length->Mp tw (x.Members.getD i af).Type_ (v.Items.getD i aj)) (mis:List Int):
 lX (x,v,y,tw,tr,mis,path)=some (RI tw tr mis path (rd5 tw f x y v path)):=by
 have h0:=Bk hp hx hy hl hv hd h y.Members.length 0 [] mis (by simp) (by simp);have h0':fk (y.Members,y.Members.length,0,tw,tr,mis,x,v,y,0,false,0,[],0,v.Kind,false,0,[],0,path,[])=_:=h0;rw[lX];simp[ab.aD];rw[h0',List.drop_zero];unfold rd5;cases rmems f x v path _ with
 |inr p=>rfl
 |inl its=>
  have h1:=Bl (tr:=tr) hp hx hy hl hv hm (its:=its) mis x.Members.length 0 [] (by simp) (by simp);have h1':ef (x.Members,x.Members.length,0,tw,tr,mis,v,y,0,false,0,[],0,v.Kind,false,0,[],0,path,its,[])=_:=h1;simp only[oZ4,oZ3,RL,List.nil_append];rw[h1',List.drop_zero,List.drop_zero];cases rrest tw y path _ v.Items with
  |inr p=>rfl
  |inl r=>simp_all[RL1,bindR,mapR,RI]
theorem Na {f:Rdr} {path:List Int} (hp:path.length<=90000) {x y:ae} {v:ab} (k6:v.Kind = 6) (hx:x.Members.length<=1000) (hy:y.Members.length<=1000) (h1:v.Items.length = 1) {i:Nat} (hi:fI x.Members v.ID = some i)
 (h:∀n,n∈y.Members->Part tw tr f path (x.Members.getD i af).Type_ n.Type_ (v.Items.getD 0 aj))
 (hm:Mp tw (x.Members.getD i af).Type_ (v.Items.getD 0 aj)) (mis:List Int):
 l8 (x,v,y,tw,tr,mis,path)=some (RI tw tr mis path (rd6 tw f x y v path)):=by
 obtain⟨i1,_,_⟩:=bS hi;have hin:inR 0 v.Items.length=true:=by rw[h1];rfl
 rw[l8,nZ hx,nZ hy];unfold rd6 fIr;simp only[oZ4,oZ3,ab.aD,hi];cases hF:fI y.Members v.ID with
 |some k=>
  obtain⟨k1,_,_⟩:=bS hF;simp only;rw[if_pos trivial,if_pos (aq i1),if_pos hin,if_pos (aq k1),aA,aA,show(0:Int).toNat=0 from rfl,h _ (aB k1 af)];cases f _ (v.Items.getD 0 aj) (y.Members.getD k af).Type_ _ with
  |inr p=>
   rfl
  |inl u=>
   simp_all[RI,Bool.not_true,mapR,ab.aD,if_neg]
 |none=>
  cases y.Open with
  |false=>
   simp_all[if_pos,pfail,Bool.false_eq_true,if_false,RI]
  |true=>
   simp_all[Mp,Bool.not_true,if_neg,if_pos,aq,aA,oZ3,if_true,RI]
def RdI(tw tr:List ae)(n:Nat):Prop:=∀{v:ab},OkV v->∀{t rt:Int} {path:List Int} (mis:List Int),vfit tw true t v->Pz tw n t v->0<=rt->rt<tr.length->path.length+n<=50000->
 jj (t,v,rt,tw,tr,mis,path)=some (RI tw tr mis path (vread tw tr n t v rt path))
theorem Nb(HW:DrOk tw)(HR:DrOk tr){n:Nat}(ih:RdI tw tr n):RdI tw tr (n+1):=by
 intro v hv t rt path mis hf hP r0 r1 hp;unfold Pz at hP;obtain⟨⟨z1,nI,nK⟩,P5,P6,P7⟩:=hP;have SW:=HW.V.sok HW.T;have SR:=HR.V.sok HR.T;have hwt:=wt_eq v;obtain⟨⟨g1,g2,g3,g4⟩,hc⟩:=(ck _ _ _).1 hf;obtain⟨j,rfl⟩:∃j:Nat,t=(j:Int):=⟨t.toNat,by omega⟩
 obtain⟨k,rfl⟩:∃k:Nat,rt=(k:Int):=⟨rt.toNat,by omega⟩
 have hj:j<tw.length:=by omega
 have hk':k<tr.length:=by omega
 have hmem:=aB hj ag;have hmr:=aB hk' ag;have hR:=g4 rfl;cases hv with
 |mk _ hs h1 h2 h3 hk hi hrd n1 n2 n3 n4=>
 rw[jj,if_pos (aq hj),qO];simp only[oZ4,oZ3,aA,ab.aD];rw[aA]at g3 hc P5 P6 P7;rw[if_pos (aq hk')];have cm:∀q,q∈(tr.getD k ag).Members->q.HasDefault=true->cp q.Default=some q.Default:=λq hq hd=>LX ((HR.T _ hmr).dv _ hq) (by have:=HR.W _ hmr q hq hd;omega)
 generalize hx:tw.getD j ag=x at*;generalize hy:tr.getD k ag=y at*;have pI:∀{t rt:Int} {q:ab},q∈v.Items->vfit tw true t q->Pz tw n t q->0<=rt->rt<tr.length->Part tw tr (vread tw tr n) path t rt q:=λ{t rt q} hq hf hz a0 a1 step mis=>Bj (by omega) (ih (hi q hq) mis hf hz a0 a1 (by simp;omega))
 have pK:∀{t rt:Int} {q:ab},q∈v.Keys->vfit tw true t q->Pz tw n t q->0<=rt->rt<tr.length->Part tw tr (vread tw tr n) path t rt q:=λ{t rt q} hq hf hz a0 a1 step mis=>Bj (by omega) (ih (hk q hq) mis hf hz a0 a1 (by simp;omega))
 have F:=pfail (tw:=tw) (tr:=tr) (path:=path) (by omega) mis;by_cases hK:x.Kind=y.Kind
 . rw[if_neg (show ¬(!(decide (x.Kind=y.Kind)))=true by simp[hK])];have p0:∀{t rt:Int},v.Items=[]->eE (t,v.Items,rt,tw,tr,mis,path)=some ([],true,tw,tr,mis,path):=λ{t rt} he=>by
    have:=nF (tw:=tw) (tr:=tr) (f:=vread tw tr n) (path:=path) (t:=t) (rt:=rt) (l:=v.Items) (by omega) (λq hq=>by rw[he]at hq;cases hq) mis;rw[this,he];rfl
   rcases hc with h|h|h|h|h|h|h|h|h
   . obtain⟨a1,a2,a3,a4,a5,a6,a7⟩:=h;have a1':x.Kind=1:=by omega
     have hl:rleaf x y v:=⟨λh=>by omega,λh=>by omega,λh=>by omega⟩
     rw[iN hK (by omega) hl];simp only[a1'];simp only[p0 a6,oZ3,decide_false,Bool.false_eq_true,if_false,Int.reduceEq,Bool.not_true,RI];cases v;simp_all
   . obtain⟨a1,a2,a3,a4,a5,a6,a7,a8,a9⟩:=h;have a1':x.Kind=2:=by omega
     by_cases hl:y.Low<=v.Int_/\v.Int_<=y.High
     . rw[iN hK (by omega) (show rleaf x y v from⟨λ_=>hl,λh=>by omega,λh=>by omega⟩)];simp only[a1'];simp only[p0 a6,hl.1,hl.2,oZ3,decide_false,decide_true,Bool.false_eq_true,if_false,if_true,Int.reduceEq,Bool.not_true,cond_true,RI];cases v;simp_all
     . rw[lN hK (by omega) (show ¬rleaf x y v fromλh=>hl (h.1 a1'))];have hb:(bif decide (y.Low<=v.Int_)then decide (v.Int_<=y.High)else false)=false:=by
        by_cases c:y.Low<=v.Int_<;>simp[c]
        omega
       simp only[a1',hb];simp only[F,oZ3,decide_true,if_true,Bool.not_false,RI,ab.aD]
   . obtain⟨a1,a2,a3,a4,a5,a6,a7,a8⟩:=h;have a1':x.Kind=3:=by omega
     by_cases hl:(v.Str.length:Int)<=y.Max
     . rw[iN hK (by omega) (show rleaf x y v from⟨λh=>by omega,λ_=>hl,λh=>by omega⟩)];simp only[a1'];simp only[p0 a6,hl,oZ3,decide_false,decide_true,Bool.false_eq_true,if_false,if_true,Int.reduceEq,Bool.not_true,cond_true,RI];cases v;simp_all
     . rw[lN hK (by omega) (show ¬rleaf x y v fromλh=>hl (h.2.1 a1'))];simp only[a1'];simp only[F,hl,oZ3,decide_true,decide_false,if_true,if_false,Int.reduceEq,Bool.false_eq_true,Bool.not_false,RI,ab.aD]
   . obtain⟨a1,a2,a3,a4,a5,a6,a7,a8⟩:=h;have a1':x.Kind=4:=by omega
     obtain⟨r,r1,_,r2⟩:=nh (t:=y) v.ID (by have:=(HR.T _ hmr).1;have:=aZ (Nat.le_refl reachBytes);omega);have hr:r.2=true↔∃s,s∈y.Symbols/\s.ID=v.ID:=by
      rcases r2 with⟨q,q1,q2,_,rfl⟩|⟨q,rfl⟩
      . exact⟨λ_=>⟨_,aB q1 aT,q2⟩,λ_=>rfl⟩
      . constructor
        . intro h;simp at h
        intro hq;obtain⟨s,s1,s2⟩:=hq;obtain⟨i,hi,rfl⟩:=List.getElem_of_mem s1;exact absurd s2 (by have:=q i hi;rwa [bZ hi]at this)
     by_cases hl:(∃s,s∈y.Symbols/\s.ID=v.ID)\/y.Open=true
     . rw[iN hK (by omega) (show rleaf x y v from⟨λh=>by omega,λh=>by omega,λ_=>hl⟩)];have hb:(bif r.2 then true else y.Open)=true:=by
        rcases hl with hl|hl
        . rw[hr.2 hl];rfl
        . rw[hl];cases r.2<;>rfl
       simp only[a1',r1];simp only[p0 a6,hb,oZ3,decide_false,decide_true,Bool.false_eq_true,if_false,if_true,Int.reduceEq,Bool.not_true,RI];cases v;simp_all
     . rw[lN hK (by omega) (show ¬rleaf x y v fromλh=>hl (h.2.2 a1'))];have hb:(bif r.2 then true else y.Open)=false:=by
        cases hr2:r.2 with
        |true=>exact absurd (.inl (hr.1 hr2)) hl
        |false=>
         cases ho:y.Open with
         |true=>exact absurd (.inr ho) hl
         |false=>rfl
       simp only[a1',r1];simp only[F,hb,oZ3,decide_true,decide_false,if_true,if_false,Int.reduceEq,Bool.false_eq_true,Bool.not_false,RI,ab.aD]
   . obtain⟨a1,a2,a3,a4,a5,a6,a7,a8⟩:=h;have a1':x.Kind=5:=by omega
     obtain⟨m1,m2⟩:=SW.A _ hmem (.inl (by omega));obtain⟨m3,m4⟩:=SR.A _ hmr (.inl (by omega));obtain⟨f1,f2⟩:=dO.1 a8
     have hr:=LY (tw:=tw) (tr:=tr) (f:=vread tw tr n) (path:=path) (by omega) (x:=x) (y:=y) a1 (by omega) (by omega) f1 hi cm (λi hi' q hq=>by
      have hm:=aB (by omega:i<v.Items.length) aj;obtain⟨q0,q1⟩:=HR.dc.mem hmr hq;exact⟨pI hm (f2 i hi') (P5 a1' i hi') q0 q1,λp u hu=>(uw HW HR n (hi _ hm) (f2 i hi') (P5 a1' i hi') q0 q1 hu).1⟩) (λi hi'=>by
      have hm:=aB (by omega:i<v.Items.length) aj
      exact DQ HW (hi _ hm) _ (f2 i hi') (P5 a1' i hi').len) mis
     rw[rdK5 hK a1'];simp only[a1',hr,oZ3,decide_false,decide_true,Bool.false_eq_true,if_false,if_true,Int.reduceEq,ab.aD]
   . obtain⟨a1,a2,a3,a4,a5,a6⟩:=h;have a1':x.Kind=6:=by omega
     obtain⟨m1,m2⟩:=SW.A _ hmem (.inr (by omega));obtain⟨m3,m4⟩:=SR.A _ hmr (.inr (by omega));cases hF:findM x.Members v.ID with
     |none=>rw[hF]at a6;cases a6.2.1
     |some m=>
      rw[hF]at a6;obtain⟨b1,b2,b3⟩:=a6;have hsome:=lz x.Members v.ID;rw[hF]at hsome;cases hI:fI x.Members v.ID with
      |none=>rw[hI]at hsome;cases hsome
      |some i=>
      obtain⟨d1,d2,_⟩:=bS hI;obtain⟨d3,d4⟩:=iH hF;have em:x.Members.getD i af=m:=nQ m1 (aB d1 af) d3 (by rw[d2,d4]);have hm:=aB (by omega:0<v.Items.length) aj;have hfit:=aY.1 b3 _ hm
      have hr:=Na (tw:=tw) (tr:=tr) (f:=vread tw tr n) (path:=path) (by omega) (x:=x) (y:=y) a1 (by omega) (by omega) b2 hI (λq hq=>by
       obtain⟨q0,q1⟩:=HR.dc.mem hmr hq;rw[em]
       exact pI hm hfit (P6 a1' _ hF _ hm) q0 q1) (by rw[em];exact DQ HW (hi _ hm) _ hfit (P6 a1' _ hF _ hm).len) mis
      rw[rdK6 hK a1'];simp only[a1',hr,oZ3,decide_false,decide_true,Bool.false_eq_true,if_false,if_true,Int.reduceEq,ab.aD]
   . obtain⟨a1,a2,a3,a4,a5,a6,a7,a8,a9⟩:=h;have a1':x.Kind=7:=by omega
     obtain⟨q0,q1⟩:=HR.dc.elem hmr (by omega);have hq:=nF (tw:=tw) (tr:=tr) (f:=vread tw tr n) (path:=path) (t:=x.Elem) (rt:=y.Elem) (l:=v.Items) (by omega) (λq hq=>pI hq (aY.1 a9 q hq) ((P7 (by omega)).1 q hq) q0 q1) mis;rw[rdK7 hK a1'];unfold rd7;by_cases hl:(v.Items.length:Int)<=y.Max
     . rw[if_pos hl];simp only[a1',hq,hl,oZ3,decide_false,decide_true,Bool.false_eq_true,if_false,if_true,Int.reduceEq,Bool.not_true];cases ba (vread tw tr n) path x.Elem y.Elem 0 v.Items with
       |inr p=>rfl
       |inl us=>simp only[PI,mapR,RI,Bool.not_true,Bool.false_eq_true,if_false,a1,a2,a3,a4,a5]
     . rw[if_neg hl];simp only[a1'];simp only[F,hl,oZ3,decide_true,decide_false,if_true,if_false,Int.reduceEq,Bool.false_eq_true,Bool.not_false,RI,ab.aD]
   . obtain⟨a1,a2,a3,a4,a5,a6,a7,a8,a9,a10,a11⟩:=h;have a1':x.Kind=8:=by omega
     obtain⟨q0,q1⟩:=HR.dc.elem hmr (by omega);obtain⟨q2,q3⟩:=HR.dc.key hmr (by omega);have hq:=nF (tw:=tw) (tr:=tr) (f:=vread tw tr n) (path:=path) (t:=x.Elem) (rt:=y.Elem) (l:=v.Items) (by omega) (λq hq=>pI hq (aY.1 a10 q hq) ((P7 (by omega)).1 q hq) q0 q1) mis
     have hqk:=nF (tw:=tw) (tr:=tr) (f:=vread tw tr n) (path:=path) (t:=x.Key) (rt:=y.Key) (l:=v.Keys) (by omega) (λq hq=>pK hq (aY.1 a9 q hq) ((P7 (by omega)).2 q hq) q2 q3) mis;rw[rdK8 hK a1'];unfold rd8;by_cases hl:(v.Items.length:Int)<=y.Max
     . rw[if_pos hl];simp only[a1',hqk,hl,oZ3,decide_false,decide_true,Bool.false_eq_true,if_false,if_true,Int.reduceEq,Bool.not_true];cases ba (vread tw tr n) path x.Key y.Key 0 v.Keys with
       |inr p=>rfl
       |inl ks=>
        simp only[PI,bindR,Bool.not_true,Bool.false_eq_true,if_false,hq,oZ3];cases ba (vread tw tr n) path x.Elem y.Elem 0 v.Items with
        |inr p=>rfl
        |inl us=>simp only[PI,mapR,RI,Bool.not_true,Bool.false_eq_true,if_false,a1,a2,a3,a4,a5]
     . rw[if_neg hl];simp only[a1'];simp only[F,hl,oZ3,decide_true,decide_false,if_true,if_false,Int.reduceEq,Bool.false_eq_true,Bool.not_false,RI,ab.aD]
   . obtain⟨a1,a2,a3,a4,a5,a6,a7,a8,a9⟩:=h;have a1':x.Kind=9:=by omega
     obtain⟨q0,q1⟩:=HR.dc.elem hmr (by omega);have hq:=nF (tw:=tw) (tr:=tr) (f:=vread tw tr n) (path:=path) (t:=x.Elem) (rt:=y.Elem) (l:=v.Items) (by omega) (λq hq=>pI hq (aY.1 a9 q hq) ((P7 (by omega)).1 q hq) q0 q1) mis;rw[rdK9 hK a1'];unfold rd9
     simp only[a1',hq,oZ3,decide_false,decide_true,Bool.false_eq_true,if_false,if_true,Int.reduceEq,Bool.not_true];cases ba (vread tw tr n) path x.Elem y.Elem 0 v.Items with
     |inr p=>rfl
     |inl us=>simp only[PI,mapR,RI,Bool.not_true,Bool.false_eq_true,if_false,a1,a2,a3,a4,a5]
 . rw[if_pos (show(!(decide (x.Kind=y.Kind)))=true by simp[hK]),DO hK,F];simp only[oZ3,ab.aD,RI]
theorem Nc:RdI tw tr 0:=by
 intro v _ _ _ _ _ _ h;cases h
theorem Bm(HW:DrOk tw)(HR:DrOk tr):∀n,RdI tw tr n
 |0=>Nc
 |n+1=>Nb HW HR (Bm HW HR n)
end
def RRes:ab ⊕ List Int->aU
 |.inl u=>⟨u,[],true⟩
 |.inr p=>⟨⟨0,false,0,[],0,[],[],[]⟩,p,false⟩
theorem rmis{path:List Int}(hp:path.length<=90000):cw path=some (RRes (.inr path)):=by
 rw[cw,if_pos (bl (by simp) (by grind))];rfl
theorem r14to{path:List Int}(hp:path.length<=90000)(step:Int):ig (path,step)=some (path++[step]):=by
 rw[ig,if_pos (bl (by simp) (by grind)),List.nil_append];simp only[oZ4,oZ3];rw[if_pos (bl (by simp) (by grind))]
theorem r14om{m:av}(hm:OkV m.Default)(v:ab):j7 (m,v)=some (om m v):=by
 rw[j7];simp[ab.aD];unfold om;cases hd:m.HasDefault with
 |false=>rfl
 |true=>
  obtain⟨r,r1,r2⟩:=Bc hm v
  grind
theorem oa{x:ae}(hl:x.Members.length<=1000)(id:Int):bO (x,id)=some (fIr x.Members id):=by
 obtain⟨r,r1,r2⟩:=wX (t:=x) (id:=id) (by omega)
 grind[tH,Aj]
section
variable {tw tr:List ae}
def PartR(tw tr:List ae)(f:Rdr)(path:List Int)(t rt:Int)(v:ab):Prop:=∀step:Int,dC ((⟨tw⟩:au),t,v,(⟨tr⟩:au),rt,path++[step])=some (RRes (f t v rt (path++[step])))
def KL(tw tr:List ae)(path:List Int)(x y:ae)(v:ab)(acc:List ab):List ab ⊕ List Int->aU ⊕ (List Int×List ae×ab×List ae×Int×Bool×Int×List UInt8×Int×Bool×ae×ae×Int×Bool×Int×List UInt8×Int×List aK×List ab)
 |.inl us=>.inr (path,tw,v,tr,0,false,0,[],0,false,x,y,v.Kind,v.Bool_,v.Int_,v.Str,v.ID,v.Rest,acc++us)
 |.inr p=>.inl (RRes (.inr p))
theorem Bn {f:Rdr} {path:List Int} (hp:path.length<=90000) {x y:ae} {v:ab} (hl:v.Keys.length<=50000) (h:∀ q,q∈v.Keys->PartR tw tr f path x.Key y.Key q):∀ (k i:Nat) (acc:List ab),i+k = v.Keys.length->acc.length<=i->
 ew (path,(i:Int),tw,v,tr,0,false,0,[],0,false,x,y,v.Kind,v.Bool_,v.Int_,v.Str,v.ID,v.Rest,acc)=some (KL tw tr path x y v acc (ba f path x.Key y.Key i (v.Keys.drop i)))
 |0,i,acc,hi,ha=>by
  simp_all[ew,if_neg,List.drop_eq_nil_of_le,ba,KL,ab.aD]
 |k+1,i,acc,hi,ha=>by
  have hlt:i<v.Keys.length:=by omega
  rw[ew,if_pos (by grind),if_pos (aq hlt),aA,r14to hp];simp only[ab.aD,oZ4,oZ3];rw[h _ (aB hlt aj),bu hlt aj,ba];cases f x.Key (v.Keys.getD i aj) y.Key (path++[(i:Int)])with
  |inr p=>rfl
  |inl u=>
   simp only[oZ3,RRes];rw[if_pos (bl (by simp) (by grind)),aC (by omega),Bn hp hl h k (i+1) _ (by omega) (by grind)];cases ba f path x.Key y.Key (i+1) (v.Keys.drop (i+1))with
   |inr p=>rfl
   |inl us=>simp[KL,consR]
def IL(v:ab)(ks acc:List ab):List ab ⊕ List Int->aU ⊕ (Int×Bool×Int×List UInt8×Int×Bool×Int×Bool×Int×List UInt8×Int×List aK×List ab×List ab)
 |.inl us=>.inr (0,false,0,[],0,false,v.Kind,v.Bool_,v.Int_,v.Str,v.ID,v.Rest,ks,acc++us)
 |.inr p=>.inl (RRes (.inr p))
theorem Am {f:Rdr} {path:List Int} (hp:path.length<=90000) {x y:ae} {v:ab} (hl:v.Items.length<=50000) (h:∀ q,q∈v.Items->PartR tw tr f path x.Elem y.Elem q) {ks:List ab}:∀ (k i:Nat) (acc:List ab),i+k = v.Items.length->acc.length<=i->
 eA (path,(i:Int),tw,v,tr,0,false,0,[],0,false,x,y,v.Kind,v.Bool_,v.Int_,v.Str,v.ID,v.Rest,ks,acc)=some (IL v ks acc (ba f path x.Elem y.Elem i (v.Items.drop i)))
 |0,i,acc,hi,ha=>by
  simp_all[eA,if_neg,ba,IL]
 |k+1,i,acc,hi,ha=>by
  have hlt:i<v.Items.length:=by omega
  rw[eA,if_pos (by grind),if_pos (aq hlt),aA,r14to hp];simp only[ab.aD,oZ4,oZ3];rw[h _ (aB hlt _),bu hlt aj,ba];cases f _ _ _ _ with
  |inr p=>rfl
  |inl u=>
   simp only[oZ3,RRes];rw[if_pos (bl (by simp) (by grind)),aC (by omega),Am hp hl h k (i+1) _ (by omega) (by grind)];cases ba f path x.Elem y.Elem (i+1) _ with
   |inr p=>rfl
   |inl us=>simp[IL,consR]
def rkv(f:Rdr)(x y:ae)(v:ab)(path:List Int):ab ⊕ List Int:=
 bindR (λks=>mapR (λis=>⟨v.Kind,v.Bool_,v.Int_,v.Str,v.ID,ks,is,v.Rest⟩) (ba f path x.Elem y.Elem 0 v.Items)) (ba f path x.Key y.Key 0 v.Keys)
theorem jZ {f:Rdr} {path:List Int} (hp:path.length<=90000) {x y:ae} {v:ab} (hlk:v.Keys.length<=50000) (hl:v.Items.length<=50000) (hk:∀ q,q∈v.Keys->PartR tw tr f path x.Key y.Key q) (h:∀ q,q∈v.Items->PartR tw tr f path x.Elem y.Elem q):
 (∃p,rkv f x y v path= .inr p/\ew (path,0,tw,v,tr,0,false,0,[],0,false,x,y,v.Kind,v.Bool_,v.Int_,v.Str,v.ID,v.Rest,[])=some (.inl (RRes (.inr p))))\/
 ∃ks,ew (path,0,tw,v,tr,0,false,0,[],0,false,x,y,v.Kind,v.Bool_,v.Int_,v.Str,v.ID,v.Rest,[])=some (.inr (path,tw,v,tr,0,false,0,[],0,false,x,y,v.Kind,v.Bool_,v.Int_,v.Str,v.ID,v.Rest,ks))/\
  ((∃p,rkv f x y v path= .inr p/\eA (path,0,tw,v,tr,0,false,0,[],0,false,x,y,v.Kind,v.Bool_,v.Int_,v.Str,v.ID,v.Rest,ks,[])=some (.inl (RRes (.inr p))))\/
  ∃us,rkv f x y v path= .inl ⟨v.Kind,v.Bool_,v.Int_,v.Str,v.ID,ks,us,v.Rest⟩/\eA (path,0,tw,v,tr,0,false,0,[],0,false,x,y,v.Kind,v.Bool_,v.Int_,v.Str,v.ID,v.Rest,ks,[])=some (.inr (0,false,0,[],0,false,v.Kind,v.Bool_,v.Int_,v.Str,v.ID,v.Rest,ks,us))):=by
 have h0:=Bn hp hlk hk v.Keys.length 0 [] (by simp) (by simp);have h0':ew (path,0,tw,v,tr,0,false,0,[],0,false,x,y,v.Kind,v.Bool_,v.Int_,v.Str,v.ID,v.Rest,[])=_:=h0;rw[h0',List.drop_zero];unfold rkv;cases ba f _ _ _ 0 v.Keys with
 |inr p=>exact .inl ⟨p,rfl,rfl⟩
 |inl ks=>
  have h1:=Am hp hl h (ks:=ks) v.Items.length 0 [] (by simp) (by simp);have h1':eA (path,0,tw,v,tr,0,false,0,[],0,false,x,y,v.Kind,v.Bool_,v.Int_,v.Str,v.ID,v.Rest,ks,[])=_:=h1;refine .inr ⟨ks,by rfl,?_⟩;rw[h1',List.drop_zero];cases ba f _ _ _ 0 _ with
  |inr p=>exact .inl ⟨p,rfl,rfl⟩
  |inl us=>exact .inr ⟨us,rfl,by rfl⟩
def RL0(tw:List ae)(path:List Int)(x y:ae)(v:ab)(acc:List ab):List ab ⊕ List Int->aU ⊕ (List Int×List ae×ae×ab×ae×Int×Bool×Int×List UInt8×Int×Bool×Int×Bool×Int×List UInt8×Int×List ab)
 |.inl us=>.inr (path,tw,x,v,y,0,false,0,[],0,false,v.Kind,false,0,[],0,acc++us)
 |.inr p=>.inl (RRes (.inr p))
theorem Bo {f:Rdr} {path:List Int} (hp:path.length<=80000) {x y:ae} {v:ab} (hx:x.Members.length<=1000) (hy:y.Members.length<=1000) (hl:v.Items.length = x.Members.length)
 (dx:∀n,n∈x.Members->OkV n.Default) (dy:∀n,n∈y.Members->OkV n.Default)
 (h:∀i,i<x.Members.length->∀n,n∈y.Members->PartR tw tr f path (x.Members.getD i af).Type_ n.Type_ (v.Items.getD i aj)):∀(k j:Nat) (acc:List ab),j+k=y.Members.length->acc.length<=j->
 fw (path,(j:Int),tw,x,v,tr,y,0,false,0,[],0,false,v.Kind,false,0,[],0,acc)=some (RL0 tw path x y v acc (rmems f x v path (y.Members.drop j)))
 |0,j,acc,hj,ha=>by
  simp_all[fw,if_neg,List.drop_eq_nil_of_le,rmems,RL0,ab.aD]
 |k+1,j,acc,hj,ha=>by
  have hlt:j<y.Members.length:=by omega
  have hmy:=aB hlt af;have rc:=λacc=>Bo hp hx hy hl dx dy h k (j+1) acc (by omega)
  rw[fw,if_pos (by grind),if_pos (aq hlt),aA];simp only[oZ4,oZ3,ab.aD,dM];rw[r14to (by omega),oa hx,bu hlt af,rmems];unfold rmem fIr;have hdy:=dy _ hmy;generalize hn:y.Members.getD j af=n at*;have M:=rmis (path:=path++[n.ID]) (by grind);cases hF:fI x.Members n.ID with
  |none=>
   simp only[oZ3,Bool.not_false,cond_true];cases hdn:n.HasDefault with
   |false=>
    rw[M,if_neg (show ¬false=true by simp)];rfl
   |true=>
    rw[if_pos trivial,if_pos (bl (by simp) (by grind)),aC (by omega),rc _ (by grind),if_pos (show true=true from rfl)];cases rmems f x v path (y.Members.drop (j+1))with
    |inr p=>rfl
    |inl us=>simp[RL0,consR]
  |some i=>
   obtain⟨i1,_,_⟩:=bS hF;have i2:i<v.Items.length:=by omega
   have p1:=h i i1 n hmy;simp only[oZ3,Bool.not_true,cond_false];rw[if_neg (by simp),if_neg (by simp),if_pos (aq i1),if_pos (aq i2),aA,p1 n.ID];have hom:=r14om (dx _ (aB i1 af)) (v.Items.getD i aj);cases hc:f (x.Members.getD i af).Type_ (v.Items.getD i aj) n.Type_ (path++[n.ID])with
   |inr p=>
    simp only[oZ3,RRes,ab.aD,Bool.not_false,Bool.not_true,Bool.and_false];rw[if_pos (aq i1),if_pos (aq i2),hom];rw[Bg];generalize om (x.Members.getD i af) (v.Items.getD i aj)=b at*;cases b with
    |false=>rfl
    |true=>
     simp only[cond_true];rw[if_pos trivial,M];rfl
   |inl u=>
    have hu:=r14om hdy u;simp only[oZ3,RRes,ab.aD,Bool.not_false,Bool.not_true,Bool.and_true];rw[if_pos (aq i1),if_pos (aq i2),hom];simp only[oZ3,Bool.false_eq_true,if_false];rw[Bh];generalize om (x.Members.getD i af) (v.Items.getD i aj)=b at*
    have tail:(some [u]>>=λt110=>if room 120 (acc++t110).length=true then fw (path,addI .i64 (j:Int) 1,tw,x,v,tr,y,0,false,0,[],0,false,v.Kind,false,0,[],0,acc++t110)else none)=some (RL0 tw path x y v acc (consR (.inl u) (rmems f x v path (y.Members.drop (j+1))))):=by
     simp only[oZ4,oZ3];rw[if_pos (bl (by simp) (by grind)),aC (by omega),rc _ (by grind)];cases rmems f x v path (y.Members.drop (j+1))with
     |inr p=>rfl
     |inl us=>simp[RL0,consR]
    cases b with
    |false=>
     grind
    |true=>
     rw[if_pos rfl,hu];cases hb:om n u with
     |true=>
      grind
     |false=>
      rw[M];rfl
def RR1(v:ab)(its:List ab)(acc:List aK):List aK ⊕ List Int->aU ⊕ (Int×Bool×Int×List UInt8×Int×Bool×Int×Bool×Int×List UInt8×Int×List ab×List aK)
 |.inl rs=>.inr (0,false,0,[],0,false,v.Kind,false,0,[],0,its,acc++rs)
 |.inr p=>.inl (RRes (.inr p))
theorem Bp {path:List Int} (hp:path.length<=80000) {x y:ae} {v:ab} (hx:x.Members.length<=1000) (hy:y.Members.length<=1000) (hl:v.Items.length = x.Members.length) (dx:∀ n,n∈x.Members->OkV n.Default)
 (h:∀i,i<x.Members.length->Rp tw (v.Items.getD i aj) (x.Members.getD i af).Type_) {its:List ab}:∀(k i:Nat) (acc:List aK),i+k=x.Members.length->acc.length<=i->
 en (path,(i:Int),tw,x,v,y,0,false,0,[],0,false,v.Kind,false,0,[],0,its,acc)=some (RR1 v its acc (rrest tw y path (x.Members.drop i) (v.Items.drop i)))
 |0,i,acc,hi,ha=>by
  simp_all[en,if_neg,List.drop_eq_nil_of_le,rrest,RR1]
 |k+1,i,acc,hi,ha=>by
  have hlt:i<x.Members.length:=by omega
  have hlt2:i<v.Items.length:=by omega
  have rc:=λacc=>Bp hp hx hy hl dx h (its:=its) k (i+1) acc (by omega)
  rw[en,if_pos (by grind),if_pos (aq hlt),aA];simp only[oZ4,oZ3,ab.aD,dM];rw[oa hy,bu hlt af,bu hlt2 aj,rrest];have hs:=lz y.Members (x.Members.getD i af).ID;have hk:(fIr y.Members (x.Members.getD i af).ID).2=(findM y.Members (x.Members.getD i af).ID).isSome:=by
   grind[fIr]
  simp only[oZ3];rw[hk];by_cases c1:(findM y.Members (x.Members.getD i af).ID).isSome=true
  . rw[if_pos c1,if_pos c1,aC (by omega),rc _ (by omega)]
  rw[if_neg c1,if_neg c1];by_cases c2:(x.Members.getD i af).Critical=true
  . rw[if_pos c2,if_pos c2,r14to (by omega)];simp only[oZ3];rw[rmis (by grind)];rfl
  rw[if_neg c2,if_neg c2,if_pos (aq hlt2),r14om (dx _ (aB hlt af))];simp only[oZ3];cases om (x.Members.getD i af) (v.Items.getD i aj)with
  |true=>
   rw[if_neg (by simp),if_pos rfl,aC (by omega),rc _ (by omega)]
  |false=>
   have hM:=h i hlt;rw[if_pos (aq hlt2),hM];simp only[oZ3];rw[if_pos (bl (by simp) (by simp;omega)),aC (by omega),rc _ (by simp;omega)];cases rrest tw y path _ _ with
   |inr p=>rfl
   |inl us=>simp[RR1,consR]
theorem L2 {f:Rdr} {path:List Int} (hp:path.length<=80000) {x y:ae} {v:ab} (k5:v.Kind = 5) (hx:x.Members.length<=1000) (hy:y.Members.length<=1000) (hl:v.Items.length = x.Members.length)
 (dx:∀n,n∈x.Members->OkV n.Default) (dy:∀n,n∈y.Members->OkV n.Default)
 (h:∀i,i<x.Members.length->∀n,n∈y.Members->PartR tw tr f path (x.Members.getD i af).Type_ n.Type_ (v.Items.getD i aj))
 (hm:∀i,i<x.Members.length->Rp tw (v.Items.getD i aj) (x.Members.getD i af).Type_):
 ma ((⟨tw⟩:au),x,v,(⟨tr⟩:au),y,path)=some (RRes (rd5 tw f x y v path)):=by
 have h0:=Bo hp hx hy hl dx dy h y.Members.length 0 [] (by simp) (by simp);have h0':fw (path,0,tw,x,v,tr,y,0,false,0,[],0,false,v.Kind,false,0,[],0,[])=_:=h0;rw[ma];simp only[ab.aD];rw[h0',List.drop_zero];unfold rd5;cases rmems f x v path _ with
 |inr p=>rfl
 |inl its=>
  have h1:=Bp hp hx hy hl dx hm (its:=its) x.Members.length 0 [] (by simp) (by simp);have h1':en (path,0,tw,x,v,y,0,false,0,[],0,false,v.Kind,false,0,[],0,its,[])=_:=h1;simp[oZ4,oZ3,RL0,List.nil_append,ab.aD];rw[h1',List.drop_zero,List.drop_zero];cases rrest tw y path _ v.Items with
  |inr p=>rfl
  |inl r=>simp_all[RR1,bindR,mapR,RRes,eK,ab.aD]
theorem Nf {f:Rdr} {path:List Int} (hp:path.length<=80000) {x y:ae} {v:ab} (k6:v.Kind = 6) (hx:x.Members.length<=1000) (hy:y.Members.length<=1000) (h1:v.Items.length = 1) {i:Nat} (hi:fI x.Members v.ID = some i)
 (h:∀n,n∈y.Members->PartR tw tr f path (x.Members.getD i af).Type_ n.Type_ (v.Items.getD 0 aj))
 (hm:Rp tw (v.Items.getD 0 aj) (x.Members.getD i af).Type_):
 mq ((⟨tw⟩:au),x,v,(⟨tr⟩:au),y,path)=some (RRes (rd6 tw f x y v path)):=by
 obtain⟨i1,_,_⟩:=bS hi;have hin:inR 0 v.Items.length=true:=by rw[h1];rfl
 rw[mq,oa hx,oa hy];unfold rd6 fIr;simp only[oZ4,oZ3,ab.aD,hi];cases hF:fI y.Members v.ID with
 |some k=>
  obtain⟨k1,_,_⟩:=bS hF;rw[if_neg (by simp),if_neg (by simp),if_pos (aq i1),if_pos hin,if_pos (aq k1),aA,aA,show(0:Int).toNat=0 from rfl,r14to (by omega)];simp only[oZ3];rw[h _ (aB k1 af)];cases f _ _ _ _ with
  |inr p=>
   rfl
  |inl u=>
   simp_all[oZ3,RRes,Bool.not_true,mapR,ab.aD,eK,if_neg]
 |none=>
  simp only[Bool.not_false,cond_true];cases y.Open with
  |false=>
   rw[rmis (by omega)];rfl
  |true=>
   rw[if_pos trivial,if_pos (aq i1),if_pos hin,aA,show(0:Int).toNat=0 from rfl,hm];simp_all[oZ3,if_true,RRes,eK,ab.aD]
def RdR(tw tr:List ae)(n:Nat):Prop:=∀{v:ab},OkV v->wt v<=2147483648->∀{t rt:Int} {path:List Int},vfit tw true t v->Pz tw n t v->0<=rt->rt<tr.length->path.length+n<=50000->
 dC ((⟨tw⟩:au),t,v,(⟨tr⟩:au),rt,path)=some (RRes (vread tw tr n t v rt path))
theorem L3(HW:DrOk tw)(HR:DrOk tr){n:Nat}(ih:RdR tw tr n):RdR tw tr (n+1):=by
 intro v hv hw t rt path hf hP r0 r1 hp;unfold Pz at hP;obtain⟨⟨z1,nI,nK⟩,P5,P6,P7⟩:=hP;have SW:=HW.V.sok HW.T;have SR:=HR.V.sok HR.T;have hwt:=wt_eq v;obtain⟨⟨g1,g2,g3,g4⟩,hc⟩:=(ck _ _ _).1 hf;obtain⟨j,rfl⟩:∃j:Nat,t=(j:Int):=⟨t.toNat,by omega⟩
 obtain⟨k,rfl⟩:∃k:Nat,rt=(k:Int):=⟨rt.toNat,by omega⟩
 have hj:j<tw.length:=by omega
 have hk':k<tr.length:=by omega
 have hmem:=aB hj ag;have hmr:=aB hk' ag;have hR:=g4 rfl;cases hv with
 |mk _ hs h1 h2 h3 hk hi hrd n1 n2 n3 n4=>
 rw[dC,if_pos (aq hj),qO];simp only[oZ4,oZ3,aA,ab.aD];rw[aA]at g3 hc P5 P6 P7;rw[if_pos (aq hk')];have dx:=(HW.T _ hmem).dv;have dy:=(HR.T _ hmr).dv;generalize hx:tw.getD j ag=x at*;generalize hy:tr.getD k ag=y at*;have sI:∀y,y∈v.Items->wt y<=2147483648:=λy hy=>by have:=bR hy;omega
 have sK:∀y,y∈v.Keys->wt y<=2147483648:=λy hy=>by have:=bR hy;omega
 have pI:∀{t rt:Int} {q:ab},q∈v.Items->vfit tw true t q->Pz tw n t q->0<=rt->rt<tr.length->PartR tw tr (vread tw tr n) path t rt q:=λ{t rt q} hq hf hz a0 a1 step=>ih (hi q hq) (sI q hq) hf hz a0 a1 (by simp;omega)
 have pK:∀{t rt:Int} {q:ab},q∈v.Keys->vfit tw true t q->Pz tw n t q->0<=rt->rt<tr.length->PartR tw tr (vread tw tr n) path t rt q:=λ{t rt q} hq hf hz a0 a1 step=>ih (hk q hq) (sK q hq) hf hz a0 a1 (by grind)
 have F:=rmis (path:=path) (by omega);have FF:(cw path).bind (λr=>some (⟨r.Value,r.Path,r.OK⟩:aU))=some (RRes (.inr path)):=by rw[F];rfl
 by_cases hK:x.Kind=y.Kind
 . rw[if_neg (show ¬(!(decide (x.Kind=y.Kind)))=true by simp[hK])];have leaf:v.Keys=[]->v.Items=[]->rkv (vread tw tr n) x y v path= .inl v:=λe1 e2=>by
    unfold rkv;cases v;simp_all [ba,bindR,mapR]
   rcases hc with h|h|h|h|h|h|h|h|h
   case' inl=>
    obtain⟨a1,a2,a3,a4,a5,a6,a7⟩:=h;have a1':x.Kind=1:=by omega
    have hl:rleaf x y v:=⟨λh=>by omega,λh=>by omega,λh=>by omega⟩
    have kv:=jZ (tw:=tw) (tr:=tr) (f:=vread tw tr n) (path:=path) (by omega) (x:=x) (y:=y) (v:=v) (by omega) (by omega) (λq hq=>by rw[a5]at hq;cases hq) (λq hq=>by rw[a6]at hq;cases hq);rw[iN hK (by omega) hl,<-leaf a5 a6];simp only[a1',Int.reduceEq,decide_false,decide_true,cond_false,cond_true,Bool.false_eq_true,if_false,if_true]
   case' inr.inl=>
    obtain⟨a1,a2,a3,a4,a5,a6,a7,a8,a9⟩:=h;have a1':x.Kind=2:=by omega
    by_cases hl:y.Low<=v.Int_/\v.Int_<=y.High
    case' neg=>
     have hb:(bif decide (v.Int_<y.Low)then true else decide (y.High<v.Int_))=true:=by
      by_cases c:v.Int_<y.Low<;>simp[c]
      omega
     rw[lN hK (by omega) (show ¬rleaf x y v fromλh=>hl (h.1 a1'))];simp only[a1',hb,Int.reduceEq,decide_false,decide_true,cond_false,cond_true,Bool.false_eq_true,if_false,if_true];exact FF
    case' pos=>
     have hb:(bif decide (v.Int_<y.Low)then true else decide (y.High<v.Int_))=false:=by
      have c1:¬v.Int_<y.Low:=by omega
      have c2:¬y.High<v.Int_:=by omega
      simp[c1,c2]
     have kv:=jZ (tw:=tw) (tr:=tr) (f:=vread tw tr n) (path:=path) (by omega) (x:=x) (y:=y) (v:=v) (by omega) (by omega) (λq hq=>by rw[a5]at hq;cases hq) (λq hq=>by rw[a6]at hq;cases hq);rw[iN hK (by omega) (show rleaf x y v from⟨λ_=>hl,λh=>by omega,λh=>by omega⟩),<-leaf a5 a6]
     simp only[a1',hb,Int.reduceEq,decide_false,decide_true,cond_false,cond_true,Bool.false_eq_true,if_false,if_true]
   case' inr.inr.inl=>
    obtain⟨a1,a2,a3,a4,a5,a6,a7,a8⟩:=h;have a1':x.Kind=3:=by omega
    by_cases hl:(v.Str.length:Int)<=y.Max
    case' neg=>
     have hb:decide (y.Max<(v.Str.length:Int))=true:=decide_eq_true (by omega);rw[lN hK (by omega) (show ¬rleaf x y v fromλh=>hl (h.2.1 a1'))];simp only[a1',hb,Int.reduceEq,decide_false,decide_true,cond_false,cond_true,Bool.false_eq_true,if_false,if_true];exact FF
    case' pos=>
     have hb:decide (y.Max<(v.Str.length:Int))=false:=decide_eq_false (by omega);have kv:=jZ (tw:=tw) (tr:=tr) (f:=vread tw tr n) (path:=path) (by omega) (x:=x) (y:=y) (v:=v) (by omega) (by omega) (λq hq=>by rw[a5]at hq;cases hq) (λq hq=>by rw[a6]at hq;cases hq)
     rw[iN hK (by omega) (show rleaf x y v from⟨λh=>by omega,λ_=>hl,λh=>by omega⟩),<-leaf a5 a6];simp only[a1',hb,Int.reduceEq,decide_false,decide_true,cond_false,cond_true,Bool.false_eq_true,if_false,if_true]
   case' inr.inr.inr.inl=>
    obtain⟨a1,a2,a3,a4,a5,a6,a7,a8⟩:=h;have a1':x.Kind=4:=by omega
    obtain⟨r,_,r1,r2⟩:=nh (t:=y) v.ID (by have:=(HR.T _ hmr).1;have:=aZ (Nat.le_refl reachBytes);omega);have hr:r.2=true↔∃s,s∈y.Symbols/\s.ID=v.ID:=by
     rcases r2 with⟨q,q1,q2,_,rfl⟩|⟨q,rfl⟩
     . exact⟨λ_=>⟨_,aB q1 aT,q2⟩,λ_=>rfl⟩
     . constructor
       . intro h;simp at h
       intro hq;obtain⟨s,s1,s2⟩:=hq;obtain⟨i,hi,rfl⟩:=List.getElem_of_mem s1;exact absurd s2 (by have:=q i hi;rwa [bZ hi]at this)
    by_cases hl:(∃s,s∈y.Symbols/\s.ID=v.ID)\/y.Open=true
    case' neg=>
     have hb:(bif (!r.2)then(!y.Open)else false)=true:=by
      cases hr2:r.2 with
      |true=>exact absurd (.inl (hr.1 hr2)) hl
      |false=>
       cases ho:y.Open with
       |true=>exact absurd (.inr ho) hl
       |false=>rfl
     rw[lN hK (by omega) (show ¬rleaf x y v fromλh=>hl (h.2.2 a1'))];simp only[a1',r1,hb,oZ3,Int.reduceEq,decide_false,decide_true,cond_false,cond_true,Bool.false_eq_true,if_false,if_true];exact FF
    case' pos=>
     have hb:(bif (!r.2)then(!y.Open)else false)=false:=by
      rcases hl with hl|hl
      . rw[hr.2 hl];rfl
      . rw[hl];cases r.2<;>rfl
     have kv:=jZ (tw:=tw) (tr:=tr) (f:=vread tw tr n) (path:=path) (by omega) (x:=x) (y:=y) (v:=v) (by omega) (by omega) (λq hq=>by rw[a5]at hq;cases hq) (λq hq=>by rw[a6]at hq;cases hq);rw[iN hK (by omega) (show rleaf x y v from⟨λh=>by omega,λh=>by omega,λ_=>hl⟩),<-leaf a5 a6]
     simp only[a1',r1,hb,oZ3,Int.reduceEq,decide_false,decide_true,cond_false,cond_true,Bool.false_eq_true,if_false,if_true]
   case' inr.inr.inr.inr.inl=>
    obtain⟨a1,a2,a3,a4,a5,a6,a7,a8⟩:=h;have a1':x.Kind=5:=by omega
    obtain⟨m1,m2⟩:=SW.A _ hmem (.inl (by omega));obtain⟨m3,m4⟩:=SR.A _ hmr (.inl (by omega));obtain⟨f1,f2⟩:=dO.1 a8
    have hr:=L2 (tw:=tw) (tr:=tr) (f:=vread tw tr n) (path:=path) (by omega) (x:=x) (y:=y) a1 (by omega) (by omega) f1 dx dy (λi hi' q hq=>by
     have hm:=aB (by omega:i<v.Items.length) aj;obtain⟨q0,q1⟩:=HR.dc.mem hmr hq;exact pI hm (f2 i hi') (P5 a1' i hi') q0 q1) (λi hi'=>by
     have hm:=aB (by omega:i<v.Items.length) aj
     exact B7 SW (hi _ hm) (by have:=sI _ hm;omega) _ (vfit_weak _ _ (f2 i hi')))
    rw[rdK5 hK a1'];simp only[a1',hr,oZ3,Int.reduceEq,decide_false,decide_true,cond_false,cond_true,Bool.false_eq_true,if_false,if_true]
    done
   case' inr.inr.inr.inr.inr.inl=>
    obtain⟨a1,a2,a3,a4,a5,a6⟩:=h;have a1':x.Kind=6:=by omega
    obtain⟨m1,m2⟩:=SW.A _ hmem (.inr (by omega));obtain⟨m3,m4⟩:=SR.A _ hmr (.inr (by omega));cases hF:findM x.Members v.ID with
    |none=>rw[hF]at a6;cases a6.2.1
    |some m=>
     rw[hF]at a6;obtain⟨b1,b2,b3⟩:=a6;have hsome:=lz x.Members v.ID;rw[hF]at hsome;cases hI:fI x.Members v.ID with
     |none=>rw[hI]at hsome;cases hsome
     |some i=>
     obtain⟨d1,d2,_⟩:=bS hI;obtain⟨d3,d4⟩:=iH hF;have em:x.Members.getD i af=m:=nQ m1 (aB d1 af) d3 (by rw[d2,d4]);have hm:=aB (by omega:0<v.Items.length) aj;have hfit:=aY.1 b3 _ hm
     have hr:=Nf (tw:=tw) (tr:=tr) (f:=vread tw tr n) (path:=path) (by omega) (x:=x) (y:=y) a1 (by omega) (by omega) b2 hI (λq hq=>by
      obtain⟨q0,q1⟩:=HR.dc.mem hmr hq;rw[em]
      exact pI hm hfit (P6 a1' _ hF _ hm) q0 q1) (by rw[em];exact B7 SW (hi _ hm) (by have:=sI _ hm;omega) _ (vfit_weak _ _ hfit))
     rw[rdK6 hK a1'];simp only[a1',hr,oZ3,Int.reduceEq,decide_false,decide_true,cond_false,cond_true,Bool.false_eq_true,if_false,if_true]
    done
   case' inr.inr.inr.inr.inr.inr.inl=>
    obtain⟨a1,a2,a3,a4,a5,a6,a7,a8,a9⟩:=h;have a1':x.Kind=7:=by omega
    obtain⟨q0,q1⟩:=HR.dc.elem hmr (by omega);rw[rdK7 hK a1'];unfold rd7;by_cases hl:(v.Items.length:Int)<=y.Max
    case' neg=>
     have hb:decide (y.Max<(v.Items.length:Int))=true:=decide_eq_true (by omega);rw[if_neg hl];simp only[a1',hb,Int.reduceEq,decide_false,decide_true,cond_false,cond_true,Bool.false_eq_true,if_false,if_true];exact FF
    case' pos=>
     have hb:decide (y.Max<(v.Items.length:Int))=false:=decide_eq_false (by omega);have kv:=jZ (tw:=tw) (tr:=tr) (f:=vread tw tr n) (path:=path) (by omega) (x:=x) (y:=y) (v:=v) (by omega) (by omega) (λq hq=>by rw[a6]at hq;cases hq) (λq hq=>pI hq (aY.1 a9 q hq) ((P7 (by omega)).1 q hq) q0 q1)
     have e:(if(v.Items.length:Int)<=y.Max then mapR (λis=>(⟨7,false,0,[],0,[],is,[]⟩:ab)) (ba (vread tw tr n) path x.Elem y.Elem 0 v.Items)else .inr path)=rkv (vread tw tr n) x y v path:=by
      unfold rkv;rw[if_pos hl,a1,a2,a3,a4,a5,a6,a7];rfl
     rw[e];simp only[a1',hb,Int.reduceEq,decide_false,decide_true,cond_false,cond_true,Bool.false_eq_true,if_false,if_true]
   case' inr.inr.inr.inr.inr.inr.inr.inl=>
    obtain⟨a1,a2,a3,a4,a5,a6,a7,a8,a9,a10,a11⟩:=h;have a1':x.Kind=8:=by omega
    obtain⟨q0,q1⟩:=HR.dc.elem hmr (by omega);obtain⟨q2,q3⟩:=HR.dc.key hmr (by omega);rw[rdK8 hK a1'];unfold rd8;by_cases hl:(v.Items.length:Int)<=y.Max
    case' neg=>
     have hb:decide (y.Max<(v.Items.length:Int))=true:=decide_eq_true (by omega);rw[if_neg hl];simp only[a1',hb,Int.reduceEq,decide_false,decide_true,cond_false,cond_true,Bool.false_eq_true,if_false,if_true];exact FF
    case' pos=>
     have hb:decide (y.Max<(v.Items.length:Int))=false:=decide_eq_false (by omega);have kv:=jZ (tw:=tw) (tr:=tr) (f:=vread tw tr n) (path:=path) (by omega) (x:=x) (y:=y) (v:=v) (by omega) (by omega) (λq hq=>pK hq (aY.1 a9 q hq) ((P7 (by omega)).2 q hq) q2 q3) (λq hq=>pI hq (aY.1 a10 q hq) ((P7 (by omega)).1 q hq) q0 q1)
     have e:(if(v.Items.length:Int)<=y.Max then bindR (λks=>mapR (λis=>(⟨8,false,0,[],0,ks,is,[]⟩:ab)) (ba (vread tw tr n) path x.Elem y.Elem 0 v.Items)) (ba (vread tw tr n) path x.Key y.Key 0 v.Keys)else .inr path)=rkv (vread tw tr n) x y v path:=by
      unfold rkv;rw[if_pos hl,a1,a2,a3,a4,a5,a6]
     rw[e];simp only[a1',hb,Int.reduceEq,decide_false,decide_true,cond_false,cond_true,Bool.false_eq_true,if_false,if_true]
   case' inr.inr.inr.inr.inr.inr.inr.inr=>
    obtain⟨a1,a2,a3,a4,a5,a6,a7,a8,a9⟩:=h;have a1':x.Kind=9:=by omega
    obtain⟨q0,q1⟩:=HR.dc.elem hmr (by omega);have kv:=jZ (tw:=tw) (tr:=tr) (f:=vread tw tr n) (path:=path) (by omega) (x:=x) (y:=y) (v:=v) (by omega) (by omega) (λq hq=>by rw[a6]at hq;cases hq) (λq hq=>pI hq (aY.1 a9 q hq) ((P7 (by omega)).1 q hq) q0 q1);have e:rd9 (vread tw tr n) x y v path=rkv (vread tw tr n) x y v path:=by
     unfold rkv rd9;rw[a1,a2,a3,a4,a5,a6,a7];rfl
    rw[rdK9 hK a1',e];simp only[a1',Int.reduceEq,decide_false,decide_true,cond_false,cond_true,Bool.false_eq_true,if_false,if_true]
   all_goals
    rcases kv with⟨p,e1,e2⟩|⟨ks,e2,⟨p,e1,e3⟩|⟨us,e1,e3⟩⟩
    . rw[e1,e2];rfl
    . rw[e1,e2];simp only[oZ3];rw[e3];rfl
    . rw[e1,e2];simp only[oZ3];rw[e3];simp only[oZ3,RRes,eK,ab.aD]
 . rw[if_pos (show(!(decide (x.Kind=y.Kind)))=true by simp[hK]),DO hK,FF]
theorem L4:RdR tw tr 0:=by
 intro v _ _ _ _ _ _ h;cases h
theorem Bq(HW:DrOk tw)(HR:DrOk tr):∀n,RdR tw tr n
 |0=>L4
 |n+1=>L3 HW HR (Bq HW HR n)
end
def NdOk(x:Nd):Prop:=NOk x/\x.Parts.length*3<=reachBytes
def NsOk(ns:List Nd):Prop:=ns.length*32<=reachBytes/\∀x,x∈ns->NdOk x
def ChOk(c:cL):Prop:=U8 c.Kind/\U8 c.Node/\U8 c.A/\U8 c.B
theorem NsOk.set{ns:List Nd}(h:NsOk ns)(j:Nat){x:Nd}(hx:NdOk x):NsOk (ns.set j x):=by
 refine⟨by rw[List.length_set];exact h.1,λy hy=>?_⟩;rcases List.mem_or_eq_of_mem_set hy with hy|rfl
 . exact h.2 y hy
 . exact hx
theorem dQ(a:Int):U8 (IntKind.wrap .u8 a):=by
 have:IntKind.wrap .u8 a=a%256:=by rfl
 unfold U8;omega
theorem room3{n:Nat}(h:n*3<=reachBytes):room 3 n=true:=by
 unfold reachBytes at h;unfold room bM aS;simp only[Bool.and_eq_true,decide_eq_true_eq];omega
theorem room32'{n:Nat}(h:n*32<=reachBytes):room 32 n=true:=by
 unfold reachBytes at h;unfold room bM aS;simp only[Bool.and_eq_true,decide_eq_true_eq];omega
theorem O1 {L:List cL} (hLl:L.length<=reachBytes) (hc:∀ c,c∈L->ChOk c) {i:Nat} (hi:i<L.length) {ns:List Nd} (h:NsOk ns) (hn:0<ns.length):
 ∃ns',NsOk ns'/\ns'.length=ns.length/\bF (L,(i:Int),ns)=bF (L,((i+1:Nat):Int),ns'):=by
 obtain⟨c1,c2,c3,c4⟩:=hc _ (aB hi eC);have hr:=aZ hLl;unfold U8 at c1 c2 c3 c4;have hns:ns.length<9223372036854775807:=by have:=h.1;unfold reachBytes at this;omega
 obtain⟨j,hj,hjl⟩:∃j:Nat,remI (wrp .i64 (L.getD i eC).Node) (ns.length:Int)=(j:Int)/\j<ns.length:=by
  have e:remI (wrp .i64 (L.getD i eC).Node) (ns.length:Int)=(L.getD i eC).Node%(ns.length:Int):=by
   rw[cX ⟨by omega,by omega⟩,bV c2.1 (by omega)]
  have h0:=Int.emod_nonneg (L.getD i eC).Node (by omega:(ns.length:Int)≠0);have h1:=Int.emod_lt_of_pos (L.getD i eC).Node (by omega:(0:Int)<ns.length);exact⟨((L.getD i eC).Node%(ns.length:Int)).toNat,by rw[e];omega,by omega⟩
 obtain⟨⟨n1,n2,n3,n4,n5,n6⟩,n7⟩:=h.2 _ (aB hjl dNd);have hd:∀z:Nat,z<(ns.getD j dNd).Parts.length->U8 ((ns.getD j dNd).Parts.getD z bW).ID/\U8 ((ns.getD j dNd).Parts.getD z bW).Type_/\U8 ((ns.getD j dNd).Parts.getD z bW).Flag:=λz hz=>n5 _ (aB hz _)
 rw[bF,if_pos (by
  have a:(i:Int)<(L.length:Int):=by omega
  simp[a,hn]),if_pos (aq hi),aA]
 simp only[oZ4,oZ3];rw[if_pos (show(!(decide ((ns.length:Int)=0)))=true from by rw[Bool.not_eq_true'];exact decide_eq_false (by omega)),hj,if_pos (aq hjl),aA,if_pos (decide_eq_true hjl),List.nil_append,if_pos (room3 n7),if_pos (decide_eq_true hjl)];simp only[decide_true,if_true,hjl]
 have e1:addI .i64 (i:Int) 1=((i+1:Nat):Int):=aC (by omega);rw[e1];generalize hp:ns.getD j dNd=p at*;generalize hcc:L.getD i eC=c at*
 have okp:∀{a b cc:Int} {l:List di},U8 a->U8 b->U8 cc->(∀q,q∈l->U8 q.ID/\U8 q.Type_/\U8 q.Flag)->l.length<=p.Parts.length+8/\(l.length<=p.Parts.length\/l.length<=8)->NdOk ⟨p.Kind,a,b,cc,l⟩:=λ{a b cc l} ha hb hc hl hn=>⟨⟨n1,ha,hb,hc,hl,by show l.length<=_;unfold reachBytes at*;omega⟩,by show l.length*3<=_;unfold reachBytes at*;omega⟩
 have gs:∀q:Nd,(ns.set j q).getD j az=q:=λq=>by rw[bZ (by rw[List.length_set];exact hjl)];simp
 have u8c:∀{a:Int},0<=a/\a<=255->U8 a:=λh=>h
 have lp:(p.Parts.length:Int)<9223372036854775807:=by unfold reachBytes at n7;omega
 have par:∀{l:List di},(∀q,q∈l->U8 q.ID/\U8 q.Type_/\U8 q.Flag)->l.length<=p.Parts.length+8/\(l.length<=p.Parts.length\/l.length<=8)->NdOk ⟨p.Kind,p.A,p.B,p.C,l⟩:=λ{l} h1 h2=>okp n2 n3 n4 h1 h2
 have self:p.Parts.length<=p.Parts.length+8/\(p.Parts.length<=p.Parts.length\/p.Parts.length<=8):=by omega
 by_cases hl:0<p.Parts.length
 . have hl':(0:Int)<(p.Parts.length:Int):=by omega
   obtain⟨z,hz,hzl⟩:∃z:Nat,remI (wrp .i64 c.A) (p.Parts.length:Int)=(z:Int)/\z<p.Parts.length:=by
    have e:remI (wrp .i64 c.A) (p.Parts.length:Int)=c.A%(p.Parts.length:Int):=by
     rw[cX ⟨by omega,by omega⟩,bV c3.1 (by omega)]
    have h0:=Int.emod_nonneg c.A (by omega:(p.Parts.length:Int)≠0);have h1:=Int.emod_lt_of_pos c.A hl';exact⟨(c.A%(p.Parts.length:Int)).toNat,by rw[e];omega,by omega⟩
   simp only[hl',hz,decide_true,if_true,gs,List.set_set];rw[if_pos (show(!(decide ((p.Parts.length:Int)=0)))=true from by rw[Bool.not_eq_true'];exact decide_eq_false (by omega))];by_cases k0:remI c.Kind 8=0
   . simp only[k0,decide_true,if_true];exact⟨_,h.set j (okp (dQ _) n3 n4 n5 self),List.length_set,rfl⟩
   by_cases k1:remI c.Kind 8=1
   . simp only[k1,decide_true,decide_false,Int.reduceEq,Bool.false_eq_true,if_true,if_false];exact⟨_,h.set j (okp n2 (dQ _) n4 n5 self),List.length_set,rfl⟩
   by_cases k2:remI c.Kind 8=2
   . have k2':0<=remI c.A 6:=by rw[bV c3.1 (by omega)];omega
     simp only[k2,k2',decide_true,decide_false,Int.reduceEq,Bool.false_eq_true,if_true,if_false];exact⟨_,h.set j (okp (dQ _) n3 n4 n5 self),List.length_set,rfl⟩
   by_cases k3:remI c.Kind 8=3
   . simp only[k3,decide_true,decide_false,Int.reduceEq,Bool.false_eq_true,if_true,if_false];exact⟨_,h.set j (okp n2 n3 (dQ _) n5 self),List.length_set,rfl⟩
   by_cases k4:remI c.Kind 8=4
   . by_cases k8:(p.Parts.length:Int)<8
     . simp only[k4,k8,decide_true,decide_false,Int.reduceEq,Bool.false_eq_true,if_true,if_false];rw[if_pos (room3 (by rw[List.length_append];unfold reachBytes;simp;omega))];refine⟨_,h.set j (par (λq hq=>?_) (by rw[List.length_append];simp;omega)),List.length_set,rfl⟩;rcases List.mem_append.1 hq with hq|hq
       . exact n5 q hq
       . rw[List.mem_singleton.1 hq];exact⟨u8c c3,u8c c4,dQ _⟩
     . simp only[k4,k8,decide_true,decide_false,Int.reduceEq,Bool.false_eq_true,if_true,if_false];exact⟨_,h.set j (par n5 self),List.length_set,rfl⟩
   by_cases k5:remI c.Kind 8=5
   . simp only[k5,decide_true,decide_false,Int.reduceEq,Bool.false_eq_true,if_true,if_false];have ez:addI .i64 (z:Int) 1=((z+1:Nat):Int):=aC (by omega);rw[ez,if_pos (cC.2 (by omega)),if_pos (cC.2 (by omega)),aA,aA,aA,if_pos (by simp;omega)]
     refine⟨_,h.set j (par (λq hq=>?_) (by rw[List.length_append,List.length_take,List.length_take,List.length_drop];omega)),List.length_set,rfl⟩;rcases List.mem_append.1 hq with hq|hq
     . exact n5 q (List.mem_of_mem_take hq)
     . exact n5 q (List.mem_of_mem_drop (List.mem_of_mem_take hq))
   have setP:∀{w:di},U8 w.ID/\U8 w.Type_/\U8 w.Flag->NdOk ⟨p.Kind,p.A,p.B,p.C,p.Parts.set z w⟩:=λ{w} hw=>par (λq hq=>by
    rcases List.mem_or_eq_of_mem_set hq with hq|rfl
    . exact n5 q hq
    . exact hw) (by rw[List.length_set];exact self)
   by_cases k6:remI c.Kind 8=6
   . simp only[k6,decide_true,decide_false,Int.reduceEq,Bool.false_eq_true,if_true,if_false];rw[if_pos (aq hzl),aA,if_pos (decide_eq_true hzl)];exact⟨_,h.set j (setP (w:=⟨(p.Parts.getD z bW).ID,(p.Parts.getD z bW).Type_,c.B⟩) ⟨(hd z hzl).1,(hd z hzl).2.1,u8c c4⟩),List.length_set,rfl⟩
   . simp only[k0,k1,k2,k3,k4,k5,k6,decide_false,Bool.false_eq_true,if_false];rw[if_pos (aq hzl),aA,if_pos (decide_eq_true hzl),if_pos (aq hzl),if_pos (decide_eq_true hzl)];exact⟨_,h.set j (setP (w:=⟨(p.Parts.getD z bW).ID,addI .u8 (p.Parts.getD z bW).Type_ c.B,(p.Parts.getD z bW).Flag⟩) ⟨(hd z hzl).1,dQ _,(hd z hzl).2.2⟩),List.length_set,rfl⟩
 . have hl':¬(0:Int)<(p.Parts.length:Int):=by omega
   simp only[hl',decide_false,Bool.false_eq_true,if_false,gs,List.set_set];by_cases k0:remI c.Kind 8=0
   . simp only[k0,decide_true,if_true];exact⟨_,h.set j (okp (dQ _) n3 n4 n5 self),List.length_set,rfl⟩
   by_cases k1:remI c.Kind 8=1
   . simp only[k1,decide_true,decide_false,Int.reduceEq,Bool.false_eq_true,if_true,if_false];exact⟨_,h.set j (okp n2 (dQ _) n4 n5 self),List.length_set,rfl⟩
   by_cases k2:remI c.Kind 8=2
   . have k2':0<=remI c.A 6:=by rw[bV c3.1 (by omega)];omega
     simp only[k2,k2',decide_true,decide_false,Int.reduceEq,Bool.false_eq_true,if_true,if_false];exact⟨_,h.set j (okp (dQ _) n3 n4 n5 self),List.length_set,rfl⟩
   by_cases k3:remI c.Kind 8=3
   . simp only[k3,decide_true,decide_false,Int.reduceEq,Bool.false_eq_true,if_true,if_false];exact⟨_,h.set j (okp n2 n3 (dQ _) n5 self),List.length_set,rfl⟩
   by_cases k4:remI c.Kind 8=4
   . have k8:(p.Parts.length:Int)<8:=by omega
     simp only[k4,k8,decide_true,decide_false,Int.reduceEq,Bool.false_eq_true,if_true,if_false];rw[if_pos (room3 (by rw[List.length_append];unfold reachBytes;simp;omega))];refine⟨_,h.set j (par (λq hq=>?_) (by rw[List.length_append];simp;omega)),List.length_set,rfl⟩;rcases List.mem_append.1 hq with hq|hq
     . exact n5 q hq
     . rw[List.mem_singleton.1 hq];exact⟨u8c c3,u8c c4,dQ _⟩
   have fin:=h.set j (par n5 self);by_cases k5:remI c.Kind 8=5
   . simp only[k5,decide_true,decide_false,Int.reduceEq,Bool.false_eq_true,if_true,if_false];exact⟨_,fin,List.length_set,rfl⟩
   by_cases k6:remI c.Kind 8=6
   . simp only[k6,decide_true,decide_false,Int.reduceEq,Bool.false_eq_true,if_true,if_false];exact⟨_,fin,List.length_set,rfl⟩
   . simp only[k0,k1,k2,k3,k4,k5,k6,decide_false,Bool.false_eq_true,if_false];exact⟨_,fin,List.length_set,rfl⟩
theorem DR{L:List cL}(hLl:L.length<=reachBytes)(hc:∀c,c∈L->ChOk c):∀(k i:Nat) {ns:List Nd},i+k=L.length->NsOk ns->∃ns',NsOk ns'/\ns'.length=ns.length/\bF (L,(i:Int),ns)=some ns'
 |0,i,ns,hi,h=>⟨ns,h,rfl,by
  have a:¬(i:Int)<(L.length:Int):=by omega
  rw[bF,if_neg (by simp[a])]⟩
 |k+1,i,ns,hi,h=>by
  by_cases hn:0<ns.length
  . obtain⟨ns',h1,h3,h2⟩:=O1 hLl hc (by omega:i<L.length) h hn;rw[h2,<-h3];exact DR hLl hc k (i+1) (by omega) h1
  . refine⟨ns,h,rfl,?_⟩;have b:decide ((0:Int)<(ns.length:Int))=false:=decide_eq_false (by omega);rw[bF,b,if_neg];cases decide ((i:Int)<(L.length:Int))<;>simp
theorem NsOk.dok{d:aW}(h:NsOk d.Nodes):DOk d:=⟨by have:=h.1;unfold reachBytes at*;omega,λx hx=>(h.2 x hx).1⟩
theorem L5{d:aW}(h:NsOk d.Nodes){L:List cL}(hLl:L.length<=reachBytes)(hc:∀c,c∈L->ChOk c):∃d',NsOk d'.Nodes/\d'.Nodes.length=d.Nodes.length/\pg (d,L)=some d':=by
 obtain⟨ns',h1,h3,h2⟩:=DR hLl hc L.length 0 (by omega) h;have h2':bF (L,0,d.Nodes)=some ns':=h2;refine⟨⟨ns'⟩,h1,h3,?_⟩;rw[pg,List.nil_append,if_pos (room32' h.1),h2'];rfl
theorem O2{ns:List Nd}(h:WF Un ⟨.slice (.nm mh),ns⟩):NsOk ns:=by
 obtain⟨a,b,c⟩:=nO (t:= .nm mh) h;have D:=Cf (d:=⟨ns⟩) h;refine⟨b,λx hx=>⟨D.2 x hx,?_⟩⟩;exact(nO (t:= .nm pC) (c x hx ⟨.slice (.nm pC),x.Parts⟩ (.tail _ (.tail _ (.tail _ (.tail _ (.head _))))))).2.1
theorem wfU8{n:Int}(h:WF Un ⟨.int .u8,n⟩):U8 n:=by
 cases h with
 |int k n h=>
  simp[Lit.wf,IntKind.min,IntKind.max,IntKind.bits,IntKind.signed]at h;unfold U8;omega
structure CaseIn (c:kz):Prop where
 d:DrIn c.D
 n:NsOk c.D.S.Nodes
 l:c.L.length<=reachBytes
 c:∀x,x∈c.L->ChOk x
structure CaseOut (tw tr:List ae) (t:Int) (v:ab):Prop where
 W:DrOk tw
 R:DrOk tr
 t0:0<=t
 t1:t<tw.length
 t2:t<tr.length
 f:vfit tw true t v
 o:OkV v
 w:wt v<=3000
theorem CaseOut.z{tw tr:List ae}{t:Int}{v:ab}(C:CaseOut tw tr t v):Pz tw 3000 t v:=pz_of C.W 3000 C.o C.f (.inr C.w) (.inr C.w)
theorem CaseOut.u{tw tr:List ae}{t:Int}{v:ab}(C:CaseOut tw tr t v):wt v<=2147483648:=Nat.le_trans C.w (by decide)
section
variable {tw tr:List ae} {t rt:Int} {v:ab}
theorem Ng(HW:DrOk tw)(HR:DrOk tr)(hv:OkV v)(hf:vfit tw true t v)(r0:0<=rt)(r1:rt<tr.length):p8 ((⟨tw⟩:au),t,v,(⟨tr⟩:au),rt)=some 0:=by
 obtain⟨⟨g1,g2,_⟩,_⟩:=(ck _ _ _).1 hf;have ex:∀{ts:List ae} {t:Int},DrOk ts->0<=t->t<ts.length->mL ((⟨ts⟩:au),t)=some 0:=λ{ts t} H a b=>by
  rw[mL,(kX H.T H.V).1];simp only[oZ4,oZ3];have c1:¬t<0:=by omega
  have c2:¬(ts.length:Int)<=t:=by omega
  rw[if_neg (by simp),if_neg (by simp[c1,c2])]
 obtain⟨r,q1,q2⟩:=uO (HW.V.sok HW.T) hv t true;have hr:=q2.2 hf;subst hr;rw[p8];simp only[ab.aD];rw[ex HW g1 g2];simp only[oZ4,oZ3];rw[if_neg (by simp),ex HR r0 r1];simp only[oZ3];rw[if_neg (by simp),kM];simp only[ab.aD];rw[q1];rfl
theorem Nh(HW:DrOk tw)(HR:DrOk tr)(hv:OkV v)(hf:vfit tw true t v)(r0:0<=rt)(r1:rt<tr.length):pL ((⟨tw⟩:au),t,v,(⟨tr⟩:au),rt)=some 0:=by
 obtain⟨⟨g1,g2,_⟩,_⟩:=(ck _ _ _).1 hf;have ex:∀{ts:List ae} {t:Int},DrOk ts->0<=t->t<ts.length->mn ((⟨ts⟩:au),t)=some 0:=λ{ts t} H a b=>by
  rw[mn,(kX H.T H.V).2];simp only[oZ4,oZ3];have c1:¬t<0:=by omega
  have c2:¬(ts.length:Int)<=t:=by omega
  rw[if_neg (by simp),if_neg (by simp[c1,c2])]
 have HS:=HW.V.sok HW.T;obtain⟨q,q1,q2⟩:=uN (by have:=HS.n;omega) HW.T HS.K hv t true;have hr:=q2.2 hf;subst hr;rw[pL];simp only[ab.aD];rw[ex HW g1 g2];simp only[oZ4,oZ3];rw[if_neg (by simp),ex HR r0 r1];simp only[oZ3];rw[if_neg (by simp),kl];simp only[ab.aD];rw[q1];rfl
def RA:ab ⊕ List Int->ab×Int
 |.inl u=>(u,0)
 |.inr _=>(⟨0,false,0,[],0,[],[],[]⟩,12)
noncomputable def vrd (tw tr:List ae) (t:Int) (v:ab) (rt:Int):ab ⊕ List Int:=vread tw tr 3000 t v rt []
theorem Kz(HW:DrOk tw)(HR:DrOk tr)(hv:OkV v)(hf:vfit tw true t v)(hz:Pz tw 3000 t v)(r0:0<=rt)(r1:rt<tr.length):mA ((⟨tw⟩:au),t,v,(⟨tr⟩:au),rt)=some (RA (vrd tw tr t v rt)):=by
 have h:=Bm HW HR 3000 hv [] hf hz r0 r1 (path:=[]) (by simp);rw[mA];simp only[ab.aD];rw[Ng HW HR hv hf r0 r1];simp only[oZ4,oZ3];rw[if_neg (by simp),h];unfold vrd;cases vread tw tr 3000 t v rt []<;>rfl
theorem KA(HW:DrOk tw)(HR:DrOk tr)(hv:OkV v)(hw:wt v<=2147483648)(hf:vfit tw true t v)(hz:Pz tw 3000 t v)(r0:0<=rt)(r1:rt<tr.length):pw ((⟨tw⟩:au),t,v,(⟨tr⟩:au),rt)=some (RA (vrd tw tr t v rt)):=by
 have h:=Bq HW HR 3000 hv hw hf hz r0 r1 (path:=[]) (by simp);rw[pw];simp only[ab.aD];rw[Nh HW HR hv hf r0 r1];simp only[oZ4,oZ3];rw[if_neg (by simp),h];unfold vrd;cases vread tw tr 3000 t v rt []<;>rfl
theorem Of(HW:DrOk tw)(HR:DrOk tr)(hv:OkV v)(hf:vfit tw true t v)(hz:Pz tw 3000 t v)(r0:0<=rt)(r1:rt<tr.length){u:ab}(h:vrd tw tr t v rt= .inl u):rU tr rt u:=uw HW HR 3000 hv hf hz r0 r1 h
theorem rA_ok(HW:DrOk tw)(HR:DrOk tr)(hv:OkV v)(hf:vfit tw true t v)(hz:Pz tw 3000 t v)(r0:0<=rt)(r1:rt<tr.length):OkV (RA (vrd tw tr t v rt)).1:=by
 cases h:vrd tw tr t v rt with
 |inl u=>exact(Of HW HR hv hf hz r0 r1 h).1
 |inr p=>exact Ob
end
def NOk2(n:List Int):Prop:=∀i:Nat,0<=n.getD i 0/\n.getD i 0<=2
def LeN(n n':List Int):Prop:=n.length=n'.length/\∀i:Nat,n.getD i 0<=n'.getD i 0
def at0(n:List Int)(t:Int):Int:=n.getD t.toNat 0
def pM(n:List Int):List av->Int->Int
 |[],c=>c
 |m::r,c=>pM n r (minI 2 (c*at0 n m.Type_))
def sM(n:List Int):List av->Int->Int
 |[],c=>c
 |m::r,c=>sM n r (c+at0 n m.Type_)
def cnt(x:ae)(n:List Int):Int:=
 if x.Kind=2 then(if x.Low=x.High then 1 else 2)
 else if x.Kind=3 then(if x.Max=0 then 1 else 2)
 else if x.Kind=4 then x.Symbols.length
 else if x.Kind=5 then pM n x.Members 1
 else if x.Kind=6 then sM n x.Members 0
 else if x.Kind=7 then(if x.Max=0\/at0 n x.Elem=0 then 1 else 2)
 else if x.Kind=8 then(if x.Max=0\/at0 n x.Elem=0\/at0 n x.Key=0 then 1 else 2)
 else if x.Kind=9 then 1+at0 n x.Elem
 else 2
theorem min2(c:Int):minI 2 c<=2/\minI 2 c<=c/\(minI 2 c=2\/minI 2 c=c):=by simp only[minI];omega
theorem bQ{n:List Int}{i j:Nat}{c:Int}:(n.set i c).getD j 0=if i=j/\i<n.length then c else n.getD j 0:=by
 simp only[List.getD_eq_getElem?_getD,List.getElem?_set]
 grind
section
variable {n n':List Int} (h0:NOk2 n) (h1:LeN n n')
include h0
theorem at_ok(t:Int):0<=at0 n t/\at0 n t<=2:=h0 _
theorem pM_ok:∀(l:List av) (c:Int),0<=c/\c<=2->0<=pM n l c/\pM n l c<=2
 |[],c,h=>h
 |m::r,c,h=>pM_ok r _ (by
  obtain⟨a,b⟩:=at_ok h0 m.Type_;have:0<=c*at0 n m.Type_:=Int.mul_nonneg h.1 a
  simp only[minI];omega)
theorem sM_ok:∀(l:List av) (c:Int),c<=sM n l c/\sM n l c<=c+2*l.length
 |[],c=>⟨Int.le_refl _,by simp[sM]⟩
 |m::r,c=>by
  obtain⟨a,b⟩:=at_ok h0 m.Type_;obtain⟨e,f⟩:=sM_ok r (c+at0 n m.Type_);simp only[sM,List.length_cons];omega
include h1
theorem at_le(t:Int):at0 n t<=at0 n' t:=h1.2 _
theorem pM_le:∀(l:List av) (c c':Int),0<=c->c<=c'->pM n l c<=pM n' l c'
 |[],c,c',_,h=>h
 |m::r,c,c',hc,h=>pM_le r _ _ (by
  have:=Int.mul_nonneg hc (at_ok h0 m.Type_).1;simp only[minI];omega) (by
  have e:c*at0 n m.Type_<=c'*at0 n' m.Type_:=Int.mul_le_mul h (at_le h0 h1 _) (at_ok h0 _).1 (by omega)
  simp only[minI];omega)
theorem sM_le:∀(l:List av) (c c':Int),c<=c'->sM n l c<=sM n' l c'
 |[],c,c',h=>h
 |m::r,c,c',h=>sM_le r _ _ (by have:=at_le h0 h1 m.Type_;omega)
theorem Qh(x:ae):cnt x n<=cnt x n':=by
 have e:=at_le h0 h1 x.Elem;have k:=at_le h0 h1 x.Key;have e0:=(at_ok h0 x.Elem).1;have k0:=(at_ok h0 x.Key).1;have p:=pM_le h0 h1 x.Members 1 1 (by omega) (Int.le_refl _);have s:=sM_le h0 h1 x.Members 0 0 (Int.le_refl _);unfold cnt
 (repeat' split)<;>omega
end
theorem DS{n:List Int}:∀(l:List av) (c:Int),1<=c->(∀m,m∈l->1<=at0 n m.Type_)->1<=pM n l c
 |[],c,h,_=>h
 |m::r,c,h,hm=>DS r _ (by
  have e:1*1<=c*at0 n m.Type_:=Int.mul_le_mul h (hm m (by simp)) (by omega) (by omega)
  simp only[minI];omega) λx hx=>hm x (by simp[hx])
section
variable {ts:List ae} (H:DrOk ts) {n:List Int} (hn:n.length=ts.length) (h0:NOk2 n)
include H hn
theorem at_in{u:Int}(h:0<=u/\u<ts.length):inR u n.length=true/\decide (u.toNat<n.length)=true:=by
 simp only[inR,Bool.and_eq_true,decide_eq_true_eq];omega
include h0
theorem DT{l:List av}(hl:l.length<=1000)(hm:∀m,m∈l->0<=m.Type_/\m.Type_<ts.length):∀(k i:Nat) (c:Int),i+k=l.length->0<=c/\c<=2->gY (c,l,(l.length:Int),(i:Int),n)=some (pM n (l.drop i) c,n)
 |0,i,c,hi,hc=>by
  rw[gY,if_neg (by simp;omega),List.drop_of_length_le (by omega)];rfl
 |k+1,i,c,hi,hc=>by
  have hlt:i<l.length:=by omega
  obtain⟨a,b⟩:=at_in H hn (hm _ (aB hlt af));obtain⟨e1,e2⟩:=at_ok h0 (l.getD i af).Type_;rw[gY,if_pos (by simp;omega),if_pos (aq hlt)];simp only[oZ4,oZ3,Int.toNat_natCast];rw[if_pos a,if_pos b];have m1:mulI .i64 c (n.getD (l.getD i af).Type_.toNat 0)=c*at0 n (l.getD i af).Type_:=by
   have:0<=c*at0 n (l.getD i af).Type_:=Int.mul_nonneg hc.1 e1;have:c*at0 n (l.getD i af).Type_<=2*2:=Int.mul_le_mul hc.2 e2 e1 (by omega);show IntKind.wrap .i64 (c*at0 n (l.getD i af).Type_)=_;rw[IntKind.wrap_i64];omega
  rw[m1,aC (by omega),DT hl hm k (i+1) _ (by omega) (by
   have:0<=c*at0 n (l.getD i af).Type_:=Int.mul_nonneg hc.1 e1
   simp only[minI];omega)]
  rw[List.drop_eq_getElem_cons hlt];have:l.getD i af=l[i]:=by simp[List.getD,List.getElem?_eq_getElem hlt]
  rw[this];rfl
theorem DU{l:List av}(hl:l.length<=1000)(hm:∀m,m∈l->0<=m.Type_/\m.Type_<ts.length):∀(k i:Nat) (c:Int),i+k=l.length->0<=c/\c<=2*i->gZ (c,l,(l.length:Int),(i:Int),n)=some (sM n (l.drop i) c,n)
 |0,i,c,hi,hc=>by
  rw[gZ,if_neg (by simp;omega),List.drop_of_length_le (by omega)];rfl
 |k+1,i,c,hi,hc=>by
  have hlt:i<l.length:=by omega
  obtain⟨a,b⟩:=at_in H hn (hm _ (aB hlt af));obtain⟨e1,e2⟩:=at_ok h0 (l.getD i af).Type_;unfold at0 at e1 e2;rw[gZ,if_pos (by simp;omega),if_pos (aq hlt)];simp only[oZ4,oZ3,Int.toNat_natCast];rw[if_pos a,if_pos b,ct (by omega) (by omega),aC (by omega),DU hl hm k (i+1) _ (by omega) (by omega)];rw[List.drop_eq_getElem_cons hlt]
  have:l.getD i af=l[i]:=by simp[List.getD,List.getElem?_eq_getElem hlt]
  rw[this];rfl
theorem Og{x:ae}(hx:x∈ts):p7 (x,n)=some (cnt x n,n):=by
 have hu:=H.V.U x hx;have hm:∀m,m∈x.Members->0<=m.Type_/\m.Type_<ts.length:=by
  obtain⟨i,hi,rfl⟩:=List.mem_iff_getElem.1 hx;intro m hm;have:=H.R i hi m (by simpa[List.getD,List.getElem?_eq_getElem hi]using hm);exact⟨this.1,this.2.1⟩
 have hl:=(H.I x hx).2.2;rw[p7];unfold cnt;by_cases k2:x.Kind=2
 . rw[if_pos (by simpa using k2),if_pos k2];split<;>simp_all
 rw[if_neg (by simpa using k2),if_neg k2];by_cases k3:x.Kind=3
 . rw[if_pos (by simpa using k3),if_pos k3];split<;>simp_all
 rw[if_neg (by simpa using k3),if_neg k3];by_cases k4:x.Kind=4
 . rw[if_pos (by simpa using k4),if_pos k4]
 rw[if_neg (by simpa using k4),if_neg k4];by_cases k5:x.Kind=5
 . rw[if_pos (by simpa using k5),if_pos k5];have:=DT H hn h0 (by omega) hm x.Members.length 0 1 (by omega) (by omega);simp only[Int.natCast_zero,List.drop_zero]at this;show(gY (1,x.Members,(x.Members.length:Int),0,n)>>=_)=_;rw[this];rfl
 rw[if_neg (by simpa using k5),if_neg k5];by_cases k6:x.Kind=6
 . rw[if_pos (by simpa using k6),if_pos k6];have:=DU H hn h0 (by omega) hm x.Members.length 0 0 (by omega) (by omega);simp only[Int.natCast_zero,List.drop_zero]at this;show(gZ (0,x.Members,(x.Members.length:Int),0,n)>>=_)=_;rw[this];rfl
 rw[if_neg (by simpa using k6),if_neg k6];have he:7<=x.Kind->inR x.Elem n.length=true/\decide (x.Elem.toNat<n.length)=true:=λh=>at_in H hn (hu _ (by unfold usesL;simp[h]))
 by_cases k7:x.Kind=7
 . obtain⟨a,b⟩:=he (by omega);rw[if_pos (by simpa using k7),if_pos k7];simp only[oZ4,oZ3,a,b,Bool.true_or,if_true];unfold at0;generalize n.getD x.Elem.toNat 0=e;by_cases hM:x.Max=0<;>by_cases hE:e=0<;>simp[hM,hE]
 rw[if_neg (by simpa using k7),if_neg k7];by_cases k8:x.Kind=8
 . obtain⟨a,b⟩:=he (by omega);obtain⟨a',b'⟩:=at_in H hn (hu x.Key (by unfold usesL;simp[k8]));rw[if_pos (by simpa using k8),if_pos k8];simp only[oZ4,oZ3,a,b,a',b',Bool.true_or,if_true];unfold at0;generalize n.getD x.Elem.toNat 0=e;generalize n.getD x.Key.toNat 0=k
   by_cases hM:x.Max=0<;>by_cases hE:e=0<;>by_cases hK:k=0<;>simp[hM,hE,hK]
 rw[if_neg (by simpa using k8),if_neg k8];by_cases k9:x.Kind=9
 . obtain⟨a,b⟩:=he (by omega);obtain⟨e1,e2⟩:=at_ok h0 x.Elem;unfold at0 at e1 e2;rw[if_pos (by simpa using k9),if_pos k9,if_pos a,if_pos b,ct (by omega) (by omega)];rfl
 rw[if_neg (by simpa using k9),if_neg k9]
end
structure Cn (ts:List ae) (n:List Int):Prop where
 l:n.length=ts.length
 ok:NOk2 n
 le:∀i:Nat,i<ts.length->n.getD i 0<=cnt (ts.getD i ag) n
section
variable {ts:List ae} (H:DrOk ts)
include H
theorem Ci{x:ae}(hx:x∈ts):1<=x.Kind/\x.Kind<=9:=by
 rcases H.V.F x hx with h|h|h|h|h|h|h|h|h<;>omega
theorem Cj{n:List Int}(h0:NOk2 n){i:Nat}(hi:i<ts.length)(hh:∀j:Nat,j<ts.length->7<=(ts.getD j ag).Kind->1<=n.getD j 0)(hp:∀j:Nat,j<i->1<=n.getD j 0):1<=cnt (ts.getD i ag) n:=by
 have hx:=aB hi ag;have hm:∀m,m∈(ts.getD i ag).Members->1<=at0 n m.Type_:=λm hm=>by
  obtain⟨a,b,c⟩:=H.R i hi m hm;rcases c with c|c
  . exact hh _ (by omega) c
  . exact hp _ (by omega)
 have he:=(at_ok h0 (ts.getD i ag).Elem).1;have p:=DS _ 1 (by omega) hm;have s6:(ts.getD i ag).Kind=6->1<=sM n (ts.getD i ag).Members 0:=λk=>by
  have hl:0<(ts.getD i ag).Members.length:=by
   rcases H.V.F _ hx with h|h|h|h|h|h|h|h|h<;>try omega
   exact h.2.2.2.2.2.2.1.2.1.resolve_left (by simp)
  obtain⟨m,r,hr⟩:∃m r,(ts.getD i ag).Members=m::r:=by
   cases hM:(ts.getD i ag).Members with
   |nil=>rw[hM]at hl;simp at hl
   |cons m r=>exact⟨m,r,rfl⟩
  rw[hr]at hm⊢;have:=(sM_ok h0 r (0+at0 n m.Type_)).1;have:=hm m (by simp);simp only[sM];omega
 have s4:(ts.getD i ag).Kind=4->1<=((ts.getD i ag).Symbols.length:Int):=λk=>by
  rcases H.V.F _ hx with h|h|h|h|h|h|h|h|h<;>try omega
  exact Int.ofNat_lt.2 h.2.2.2.2.2.1.1
 unfold cnt
 (repeat' split)<;>first|omega|exact s4 (by assumption)|exact s6 (by assumption)
theorem rV{n:List Int}(h0:NOk2 n)(x:ae):0<=cnt x n/\(x.Members.length<=12->x.Symbols.length<=16->cnt x n<=40):=by
 have p:=pM_ok h0 x.Members 1 (by omega);have s:=sM_ok h0 x.Members 0;have e:=at_ok h0 x.Elem;unfold cnt;refine⟨?_,λh1 h2=>?_⟩<;>(repeat' split)<;>omega
theorem Cn.set{n:List Int}(C:Cn ts n){i:Nat}(hi:i<ts.length):Cn ts (n.set i (minI 2 (cnt (ts.getD i ag) n)))/\LeN n (n.set i (minI 2 (cnt (ts.getD i ag) n))):=by
 have c0:=(rV H C.ok (ts.getD i ag)).1;have ci:=C.le i hi;have hl:=C.l;have m:=min2 (cnt (ts.getD i ag) n);generalize minI 2 (cnt (ts.getD i ag) n)=c at*;have ok:NOk2 (n.set i c):=λj=>by
  have:=C.ok j;rw[bQ];split<;>omega
 have le:LeN n (n.set i c):=⟨by simp,λj=>by
  rw[bQ];split
  . rename_i h;rw[<-h.1];have:=C.ok i;omega
  . exact Int.le_refl _⟩
 refine⟨⟨by simp[hl],ok,λj hj=>?_⟩,le⟩;have:=Qh C.ok le (ts.getD j ag);rw[bQ];split
 . rename_i h;rw[<-h.1]at this⊢;omega
 . have:=C.le j hj;omega
def sumN:List Int->Int
 |[]=>0
 |a::r=>a+sumN r
omit H in
theorem Oh{n:List Int}:∀{i:Nat} {c:Int},i<n.length->sumN (n.set i c)=sumN n-n.getD i 0+c:=by
 induction n with
 |nil=>intro i c h;simp at h
 |cons a r ih=>
  intro i c h;cases i with
  |zero=>simp[sumN];omega
  |succ i=>simp[sumN];have:=ih (i:=i) (c:=c) (by simpa using h);simp at this;omega
omit H in
theorem Ck{n:List Int}(h:∀i:Nat,0<=n.getD i 0/\n.getD i 0<=2):0<=sumN n/\sumN n<=2*n.length:=by
 induction n with
 |nil=>simp[sumN]
 |cons a r ih=>
  have:=ih λi=>by simpa using h (i+1)
  have:=h 0;simp[sumN]at*;omega
theorem tj:∀ (k i:Nat) (ch:Bool) {n:List Int},i+k = ts.length->Cn ts n->(∀ j,j<i->7<=(ts.getD j ag).Kind->1<=n.getD j 0)->(ch = false->∀ j,j<i->n.getD j 0 = minI 2 (cnt (ts.getD j ag) n))->
 ∃n' ch',fA (ch,ts,(ts.length:Int),(i:Int),ts,n)=some (ch',ts,n')/\Cn ts n'/\(∀j,j<ts.length->7<=(ts.getD j ag).Kind->1<=n'.getD j 0)/\(ch'=false->∀j,j<ts.length->n'.getD j 0=minI 2 (cnt (ts.getD j ag) n'))/\(ch=true->ch'=true)/\(ch'=true->ch=true\/sumN n+1<=sumN n')/\sumN n<=sumN n'
 |0,i,ch,n,hi,C,hh,hf=>⟨n,ch,by rw[fA,if_neg (by simp;omega)],C,λj hj=>hh j (by omega),λh j hj=>hf h j (by omega),λh=>h,.inl,Int.le_refl _⟩
 |k+1,i,ch,n,hi,C,hh,hf=>by
  have hlt:i<ts.length:=by omega
  have hln:=C.l;have h5:=H.n5;have hx:=aB hlt ag;have c0:=(rV H C.ok (ts.getD i ag)).1;have cle:=C.le i hlt;have cok:=C.ok i;obtain⟨C',L'⟩:=C.set H hlt;have hpos:7<=(ts.getD i ag).Kind->1<=cnt (ts.getD i ag) n:=λh7=>by
   have he:=(at_ok C.ok (ts.getD i ag).Elem).1;unfold cnt
   (repeat' split)<;>omega
  have m:=min2 (cnt (ts.getD i ag) n);rw[fA,if_pos (by simp;omega),if_pos (aq hlt)];simp only[Int.toNat_natCast];rw[Og H C.l C.ok hx];simp only[oZ4,oZ3];rw[if_pos (by simp),if_pos (aq (by omega)),if_pos (by simp;omega)];by_cases he:minI 2 (cnt (ts.getD i ag) n)=n.getD i 0
  . rw[if_neg (by simpa using he),aC (by omega)];refine tj k (i+1) ch (by omega) C (λj hj h7=>?_) λh j hj=>?_
    . by_cases hji:j<i
      . exact hh j hji h7
      . have:j=i:=by omega
        subst this;have:=hpos h7;rw[<-he];omega
    . by_cases hji:j<i
      . exact hf h j hji
      . have:j=i:=by omega
        subst this;exact he.symm
  . rw[if_pos (by simpa using he),if_pos (aq (by omega)),if_pos (by simp;omega),aC (by omega)];have hs:=Oh (n:=n) (i:=i) (c:=minI 2 (cnt (ts.getD i ag) n)) (by omega)
    obtain⟨n',ch',e1,e2,e3,e4,e5,e6,e7⟩:=tj k (i+1) true (n:=n.set i (minI 2 (cnt (ts.getD i ag) n))) (by omega) C' (λj hj h7=>by
     rw[bQ];split
     . rename_i h;rw[<-h.1]at h7;have:=hpos h7;omega
     . rename_i h
       exact hh j (by omega) h7) (λh=>by cases h)
    exact⟨n',ch',e1,e2,e3,e4,λ_=>e5 rfl,λ_=>.inr (by omega),by omega⟩
theorem zl:∀(f:Nat) {n:List Int},Cn ts n->(2*ts.length:Int)-sumN n<f->∃n',je (true,ts,n)=some n'/\n'.length=ts.length/\∀i:Nat,i<ts.length->1<=n'.getD i 0
 |0,n,C,hf=>by
  have:=(Ck C.ok).2;have:=C.l;omega
 |f+1,n,C,hf=>by
  obtain⟨n',ch',e1,e2,e3,e4,e5,e6,e7⟩:=tj H ts.length 0 false (n:=n) (by omega) C (λj hj=>absurd hj (Nat.not_lt_zero _)) (λ_ j hj=>absurd hj (Nat.not_lt_zero _));have e1:fA (false,ts,(ts.length:Int),0,ts,n)=_:=e1;rw[je,if_pos rfl,e1];simp only[oZ4,oZ3];cases ch' with
  |true=>
   have:=(e6 rfl).resolve_left (by simp);exact zl f e2 (by omega)
  |false=>
   refine⟨n',by rw[je,if_neg (by simp)],e2.l,λi=>?_⟩
   induction i using Nat.strongRecOn with
   |_ i ih=>
   intro hi;have:=Cj H e2.ok hi e3 (λj hj=>ih j hj (by omega));rw[e4 rfl i hi];have:=min2 (cnt (ts.getD i ag) n');omega
omit H in
theorem An{n:List Int}(hl:n.length<=5)(h:∀i:Nat,i<n.length->1<=n.getD i 0):∀(k i:Nat),i+k=n.length->gT (n,(n.length:Int),(i:Int),List.replicate i true)=some (List.replicate n.length true)
 |0,i,hi=>by rw[gT,if_neg (by simp;omega),show i=n.length by omega]
 |k+1,i,hi=>by
  have:=h i (by omega);have e:List.replicate i true++[decide (0<n.getD i 0)]=List.replicate (i+1) true:=by
   rw[decide_eq_true (by omega),List.replicate_succ']
  rw[gT,if_pos (by simp;omega),if_pos (aq (by omega))];simp only[oZ4,oZ3,Int.toNat_natCast];rw[e,if_pos (bl (by omega) (by simp;omega)),aC (by omega)];exact An hl h k (i+1) (by omega)
omit H in
theorem Br{m:Nat}(hm:m<=5):∀(k i:Nat),i+k=m->hU (List.replicate m true,(m:Int),(i:Int))=some (.inr ())
 |0,i,hi=>by rw[hU,if_neg (by simp;omega)]
 |k+1,i,hi=>by
  rw[hU,if_pos (by simp;omega),if_pos (aq (by simp;omega)),if_neg (by rw[Int.toNat_natCast,List.getD_eq_getElem?_getD,List.getElem?_replicate,if_pos (by omega)];simp),aC (by omega)];exact Br hm k (i+1) (by omega)
theorem defP(t:ae)(ht:t∈ts){m:av}(hm:m∈t.Members)(hd:m.HasDefault=true):kM ((⟨ts⟩:au),m.Type_,ab.eta m.Default)=some true:=by
 have hv:=(H.T t ht).dv m hm;have hf:=H.D t ht m hm hd;obtain⟨q,h1,h2⟩:=uO (H.V.sok H.T) hv m.Type_ true;rw[kM];simp only[ab.aD];rw[h1,h2.2 hf];rfl
theorem s7{i:Nat}{t:ae}(ht:t∈ts):∀(k j:Nat),j+k=t.Members.length->gG ((i:Int),ts,(ts.length:Int),(i:Int),t.Members,(t.Members.length:Int),(j:Int),ts)=some (.inr (ts,(ts.length:Int),(i:Int),ts))
 |0,j,hj=>by rw[gG,if_neg (by simp;omega)]
 |k+1,j,hj=>by
  have hlt:j<t.Members.length:=by omega
  have hl:=(H.I t ht).2.2;rw[gG,if_pos (by simp;omega),if_pos (aq hlt)];simp only[oZ4,oZ3,Int.toNat_natCast];cases hd:(t.Members.getD j af).HasDefault with
  |false=>
   simp only[Bool.false_eq_true,if_false,oZ3,cond_false];rw[aC (by omega)];exact s7 ht k (j+1) (by omega)
  |true=>
   rw[if_pos rfl,defP H t ht (aB hlt af) hd];simp only[oZ3,Bool.not_true,cond_true,Bool.false_eq_true,if_false];rw[aC (by omega)];exact s7 ht k (j+1) (by omega)
theorem yk:∀(k i:Nat),i+k=ts.length->gS (ts,(ts.length:Int),(i:Int),ts)=some (.inr ())
 |0,i,hi=>by rw[gS,if_neg (by simp;omega)]
 |k+1,i,hi=>by
  have hlt:i<ts.length:=by omega
  have h5:=H.n5;have e:gG ((i:Int),ts,(ts.length:Int),(i:Int),(ts.getD i ag).Members,((ts.getD i ag).Members.length:Int),0,ts)=_:=s7 H (i:=i) (aB hlt ag) (ts.getD i ag).Members.length 0 (by omega);rw[gS,if_pos (by simp;omega),if_pos (aq hlt)];simp only[oZ4,oZ3,Int.toNat_natCast];rw[e];simp only[oZ3];rw[aC (by omega)]
  exact yk k (i+1) (by omega)
theorem Cl:Cn ts (List.replicate ts.length 0):=by
 have hz:∀i:Nat,(List.replicate ts.length (0:Int)).getD i 0=0:=λi=>by
  simp only[List.getD_eq_getElem?_getD,List.getElem?_replicate];split<;>rfl
 refine⟨by simp,λi=>by rw[hz];omega,λi hi=>?_⟩;rw[hz];exact(rV H (λi=>by rw[hz];omega) _).1
theorem Ao:mQ (⟨ts⟩:au)=some 0:=by
 have h5:=H.n5;have hr:p6 (⟨ts⟩:au)=some 0:=by
  have e:gS (ts,(ts.length:Int),0,ts)=_:=yk H ts.length 0 (by omega);rw[p6,(kX H.T H.V).1];simp only[oZ4,oZ3];rw[if_neg (by simp),sQ,(kX H.T H.V).1];simp only[oZ4,oZ3];rw[if_neg (by simp),e];rfl
 obtain⟨n,c1,c2,c3⟩:=zl H (2*ts.length+1) (Cl H) (by
  have:=(Ck (Cl H).ok).1;omega)
 have hc:pT (⟨ts⟩:au)=some n:=by
  rw[pT];simp only[oZ4,oZ3,Int.toNat_natCast];rw[if_pos (uX.2 ⟨by omega,by unfold bM;omega,by unfold aS;omega⟩),c1];rfl
 have f1:gT (n,(n.length:Int),0,[])=_:=An (n:=n) (by omega) (λi hi=>c3 i (by omega)) n.length 0 (by omega);have f2:hU (List.replicate n.length true,(n.length:Int),0)=_:=Br (m:=n.length) (by omega) n.length 0 (by omega);rw[mQ,sR,hr];simp only[oZ4,oZ3];rw[if_neg (by simp),hc];simp only[oZ3];rw[f1]
 simp only[oZ3];rw[if_neg (by simp),List.length_replicate,f2];rfl
theorem Cm{n:List Int}(hn:n.length=ts.length)(h0:NOk2 n){x:ae}(hx:x∈ts)(hm:∀m,m∈x.Members->0<=m.Type_/\m.Type_<ts.length):∀(k i:Nat) (c:Int),i+k=x.Members.length->0<=c/\c<=2->gD (c,(i:Int),n,x)=some (pM n (x.Members.drop i) c,n)
 |0,i,c,hi,hc=>by
  rw[gD,if_neg (by simp;omega),List.drop_of_length_le (by omega)];rfl
 |k+1,i,c,hi,hc=>by
  have hlt:i<x.Members.length:=by omega
  have hl:=(H.I x hx).2.2;obtain⟨a,b⟩:=at_in H hn (hm _ (aB hlt af));obtain⟨e1,e2⟩:=at_ok h0 (x.Members.getD i af).Type_;rw[gD,if_pos (by simp;omega),if_pos (aq hlt)];simp only[oZ4,oZ3,Int.toNat_natCast];rw[if_pos a,if_pos b];have m1:mulI .i64 c (n.getD (x.Members.getD i af).Type_.toNat 0)=c*at0 n (x.Members.getD i af).Type_:=by
   have:0<=c*at0 n (x.Members.getD i af).Type_:=Int.mul_nonneg hc.1 e1;have:c*at0 n (x.Members.getD i af).Type_<=2*2:=Int.mul_le_mul hc.2 e2 e1 (by omega);show IntKind.wrap .i64 (c*at0 n (x.Members.getD i af).Type_)=_;rw[IntKind.wrap_i64];omega
  rw[m1,aC (by omega),Cm hn h0 hx hm k (i+1) _ (by omega) (by
   have:0<=c*at0 n (x.Members.getD i af).Type_:=Int.mul_nonneg hc.1 e1
   simp only[minI];omega)]
  rw[List.drop_eq_getElem_cons hlt];have:x.Members.getD i af=x.Members[i]:=by simp[List.getD,List.getElem?_eq_getElem hlt]
  rw[this];rfl
theorem Cp{n:List Int}(hn:n.length=ts.length)(h0:NOk2 n){x:ae}(hx:x∈ts)(hm:∀m,m∈x.Members->0<=m.Type_/\m.Type_<ts.length):∀(k i:Nat) (c:Int),i+k=x.Members.length->0<=c/\c<=2->gE (c,(i:Int),n,x)=some (minI 2 (sM n (x.Members.drop i) c),n)
 |0,i,c,hi,hc=>by
  rw[gE,if_neg (by simp;omega),List.drop_of_length_le (by omega)];have:minI 2 c=c:=by simp only[minI];omega
  simp only[sM,this]
 |k+1,i,c,hi,hc=>by
  have hlt:i<x.Members.length:=by omega
  have hl:=(H.I x hx).2.2;obtain⟨a,b⟩:=at_in H hn (hm _ (aB hlt af));obtain⟨e1,e2⟩:=at_ok h0 (x.Members.getD i af).Type_;unfold at0 at e1 e2;rw[gE,if_pos (by simp;omega),if_pos (aq hlt)];simp only[oZ4,oZ3,Int.toNat_natCast];have m:=min2 (c+n.getD (x.Members.getD i af).Type_.toNat 0)
  rw[if_pos a,if_pos b,ct (by omega) (by omega),aC (by omega),Cp hn h0 hx hm k (i+1) _ (by omega) (by omega)];rw[List.drop_eq_getElem_cons hlt];have:x.Members.getD i af=x.Members[i]:=by simp[List.getD,List.getElem?_eq_getElem hlt]
  rw[this];have s1:=(sM_ok h0 (x.Members.drop (i+1)) (minI 2 (c+at0 n x.Members[i].Type_))).1;have s2:=(sM_ok h0 (x.Members.drop (i+1)) (c+at0 n x.Members[i].Type_)).1;rw[this]at m
  change _/\_/\(minI 2 (c+at0 n x.Members[i].Type_)=2\/minI 2 (c+at0 n x.Members[i].Type_)=c+at0 n x.Members[i].Type_)at m
  show some (minI 2 (sM n (x.Members.drop (i+1)) (minI 2 (c+at0 n x.Members[i].Type_))),n)=some (minI 2 (sM n (x.Members.drop (i+1)) (c+at0 n x.Members[i].Type_)),n);rcases m.2.2 with m|m
  . have a1:=min2 (sM n (x.Members.drop (i+1)) (minI 2 (c+at0 n x.Members[i].Type_)));have a2:=min2 (sM n (x.Members.drop (i+1)) (c+at0 n x.Members[i].Type_));have hge:=min2 (c+at0 n x.Members[i].Type_);have:minI 2 (sM n (x.Members.drop (i+1)) (minI 2 (c+at0 n x.Members[i].Type_)))=minI 2 (sM n (x.Members.drop (i+1)) (c+at0 n x.Members[i].Type_)):=by
     simp only[minI]at*;omega
    rw[this]
  . rw[m]
def rcv(x:ae)(n:List Int):Int:=if x.Kind=8 then(if x.Max=0\/at0 n x.Elem=0 then 1 else 2)else minI 2 (cnt x n)
theorem Ni{n:List Int}(hn:n.length=ts.length)(h0:NOk2 n){x:ae}(hx:x∈ts):pG (x,n)=some (rcv x n,n):=by
 have hu:=H.V.U x hx;have hm:∀m,m∈x.Members->0<=m.Type_/\m.Type_<ts.length:=by
  obtain⟨i,hi,rfl⟩:=List.mem_iff_getElem.1 hx;intro m hm;have:=H.R i hi m (by simpa[List.getD,List.getElem?_eq_getElem hi]using hm);exact⟨this.1,this.2.1⟩
 have q1:minI 2 1=1:=rfl;have q2:minI 2 2=2:=rfl;rw[pG];unfold rcv cnt;by_cases k2:x.Kind=2
 . rw[if_pos (by simpa using k2),if_neg (show ¬x.Kind=8 by omega),if_pos k2];by_cases e:x.Low=x.High<;>simp[e,q1,q2]
 rw[if_neg (by simpa using k2),if_neg k2];by_cases k3:x.Kind=3
 . rw[if_pos (by simpa using k3),if_neg (show ¬x.Kind=8 by omega),if_pos k3];by_cases e:x.Max=0<;>simp[e,q1,q2]
 rw[if_neg (by simpa using k3),if_neg k3];by_cases k4:x.Kind=4
 . rw[if_pos (by simpa using k4),if_neg (show ¬x.Kind=8 by omega),if_pos k4]
 rw[if_neg (by simpa using k4),if_neg k4];by_cases k5:x.Kind=5
 . rw[if_pos (by simpa using k5),if_neg (show ¬x.Kind=8 by omega),if_pos k5];have e:gD (1,0,n,x)=_:=Cm H hn h0 hx hm x.Members.length 0 1 (by omega) (by omega);have p:=pM_ok h0 x.Members 1 (by omega);have:minI 2 (pM n x.Members 1)=pM n x.Members 1:=by simp only[minI];omega
   rw[e,List.drop_zero,this];rfl
 rw[if_neg (by simpa using k5),if_neg k5];by_cases k6:x.Kind=6
 . rw[if_pos (by simpa using k6),if_neg (show ¬x.Kind=8 by omega),if_pos k6];have e:gE (0,0,n,x)=_:=Cp H hn h0 hx hm x.Members.length 0 0 (by omega) (by omega);rw[e,List.drop_zero];rfl
 rw[if_neg (by simpa using k6),if_neg k6];have he:7<=x.Kind->inR x.Elem n.length=true/\decide (x.Elem.toNat<n.length)=true:=λh=>at_in H hn (hu _ (by unfold usesL;simp[h]))
 simp only[oZ4,oZ3];by_cases k7:x.Kind=7
 . obtain⟨a,b⟩:=he (by omega);rw[if_pos (by simpa using k7),if_pos (by simpa using k7),if_neg (show ¬x.Kind=8 by omega),if_pos k7];simp only[a,b,Bool.true_or,if_true];unfold at0;generalize n.getD x.Elem.toNat 0=e;by_cases hM:x.Max=0<;>by_cases hE:e=0<;>simp[hM,hE,q1,q2]
 rw[if_neg (by simpa using k7),if_neg k7];by_cases k8:x.Kind=8
 . obtain⟨a,b⟩:=he (by omega);rw[if_pos (by simpa using k8),if_pos k8];simp only[a,b,Bool.true_or,if_true];unfold at0;generalize n.getD x.Elem.toNat 0=e;by_cases hM:x.Max=0<;>by_cases hE:e=0<;>simp[hM,hE]
 rw[if_neg (by simpa using k8),if_neg k8,if_neg k8];by_cases k9:x.Kind=9
 . obtain⟨a,b⟩:=he (by omega);obtain⟨e1,e2⟩:=at_ok h0 x.Elem;unfold at0 at e1 e2;rw[if_pos (by simpa using k9),if_pos k9,if_pos a,if_pos b,ct (by omega) (by omega)];rfl
 rw[if_neg (by simpa using k9),if_neg k9];rfl
theorem Qi{n:List Int}(h0:NOk2 n)(x:ae):0<=rcv x n/\rcv x n<=2/\(7<=x.Kind->1<=rcv x n)/\(1<=cnt x n->1<=rcv x n):=by
 have c:=(rV H h0 x).1;have m:=min2 (cnt x n);have he:=(at_ok h0 x.Elem).1;have hk:7<=x.Kind->1<=cnt x n:=λh7=>by
  unfold cnt
  (repeat' split)<;>omega
 unfold rcv
 (repeat' split)<;>refine⟨by omega,by omega,λh7=>?_,λh=>by omega⟩<;>(try have:=hk h7)<;>omega
theorem xk (rd:Int) (P:Prop):∀ (k i:Nat) {n:List Int},i+k = ts.length->n.length = ts.length->NOk2 n->(∀ j,j<i->7<=(ts.getD j ag).Kind->1<=n.getD j 0)->(P->∀ j,j<ts.length->7<=(ts.getD j ag).Kind->1<=n.getD j 0)->(P->∀ j,j<i->1<=n.getD j 0)->
 ∃n',gp (rd,(i:Int),ts,n)=some (rd,ts,n')/\n'.length=ts.length/\NOk2 n'/\(∀j,j<ts.length->7<=(ts.getD j ag).Kind->1<=n'.getD j 0)/\(P->∀j,j<ts.length->1<=n'.getD j 0)
 |0,i,n,hi,hl,h0,hh,hP,hp=>⟨n,by rw[gp,if_neg (by simp;omega)],hl,h0,λj hj=>hh j (by omega),λh j hj=>hp h j (by omega)⟩
 |k+1,i,n,hi,hl,h0,hh,hP,hp=>by
  have hlt:i<ts.length:=by omega
  have h5:=H.n5;have hx:=aB hlt ag;obtain⟨r0,r2,r7,rc⟩:=Qi H h0 (ts.getD i ag);rw[gp,if_pos (by simp;omega),if_pos (aq hlt)];simp only[Int.toNat_natCast];rw[Ni H hl h0 hx];simp only[oZ4,oZ3];rw[if_pos (by simp),if_pos (aq (by omega)),if_pos (by simp;omega),aC (by omega)]
  refine xk rd P k (i+1) (by omega) (by simp[hl]) (λj=>?_) (λj hj h7=>?_) (λh j hj h7=>?_) λh j hj=>?_
  . have:=h0 j;rw[bQ];split<;>omega
  . rw[bQ];split
    . rename_i e;rw[<-e.1]at h7;exact r7 h7
    . exact hh j (by omega) h7
  . rw[bQ];split
    . rename_i e;rw[<-e.1]at h7;exact r7 h7
    . exact hP h j hj h7
  . rw[bQ];split
    . exact rc (Cj H h0 hlt (hP h) (hp h))
    . exact hp h j (by omega)
theorem yl:∀ (k r:Nat) {n:List Int},r+k = 2*ts.length+1->n.length = ts.length->NOk2 n->(1<=r->∀ j,j<ts.length->7<=(ts.getD j ag).Kind->1<=n.getD j 0)->(2<=r->∀ j,j<ts.length->1<=n.getD j 0)->
 ∃n',gv ((r:Int),ts,n)=some n'/\n'.length=ts.length/\∀j,j<ts.length->1<=n'.getD j 0
 |0,r,n,hr,hl,h0,h1,h2=>by
  have h5:=H.n5;have hn1:=H.n1;have m1:mulI .i64 2 (ts.length:Int)=2*ts.length:=by
   show IntKind.wrap .i64 (2*(ts.length:Int))=_;rw[IntKind.wrap_i64];omega
  exact⟨n,by rw[gv,m1,if_neg (by simp;omega)],hl,h2 (by omega)⟩
 |k+1,r,n,hr,hl,h0,h1,h2=>by
  have h5:=H.n5;have m1:mulI .i64 2 (ts.length:Int)=2*ts.length:=by
   show IntKind.wrap .i64 (2*(ts.length:Int))=_;rw[IntKind.wrap_i64];omega
  obtain⟨n',e1,e2,e3,e4,e5⟩:=xk H (r:Int) (1<=r) ts.length 0 (n:=n) (by omega) hl h0 (λj hj=>absurd hj (Nat.not_lt_zero _)) h1 (λ_ j hj=>absurd hj (Nat.not_lt_zero _));have e1:gp ((r:Int),0,ts,n)=_:=e1;rw[gv,m1,if_pos (by simp;omega),e1];simp only[oZ4,oZ3];rw[aC (by omega)]
  exact yl k (r+1) (by omega) e2 e3 (λ_=>e4) (λh=>e5 (by omega))
omit H in
theorem zm{n:List Int}(hl:n.length<=5)(h:∀i:Nat,i<n.length->1<=n.getD i 0):∀(k i:Nat),i+k=n.length->gw (n,(i:Int),List.replicate i true)=some (List.replicate n.length true)
 |0,i,hi=>by rw[gw,if_neg (by simp;omega),show i=n.length by omega]
 |k+1,i,hi=>by
  have:=h i (by omega);have e:List.replicate i true++[decide (0<n.getD i 0)]=List.replicate (i+1) true:=by
   rw[decide_eq_true (by omega),List.replicate_succ']
  rw[gw,if_pos (by simp;omega),if_pos (aq (by omega))];simp only[oZ4,oZ3,Int.toNat_natCast];rw[e,if_pos (bl (by omega) (by simp;omega)),aC (by omega)];exact zm hl h k (i+1) (by omega)
omit H in
theorem Ap{m:Nat}(hm:m<=5):∀(k i:Nat),i+k=m->gF (List.replicate m true,(i:Int))=some (.inr ())
 |0,i,hi=>by rw[gF,if_neg (by simp;omega)]
 |k+1,i,hi=>by
  rw[gF,if_pos (by simp;omega),if_pos (aq (by simp;omega)),if_neg (by rw[Int.toNat_natCast,List.getD_eq_getElem?_getD,List.getElem?_replicate,if_pos (by omega)];simp),aC (by omega)];exact Ap hm k (i+1) (by omega)
theorem Nj:pH (⟨ts⟩:au)=some 0:=by
 have h5:=H.n5;have hr:pF (⟨ts⟩:au)=some 0:=by
  have hV:=(kX H.T H.V).2;obtain⟨r,e1,e2⟩:=LU (s:=(⟨ts⟩:au)) (by show ts.length<=_;unfold reachBytes;omega) H.T hV (λ_=>H.V);rw[pF,hV];simp only[oZ4,oZ3];rw[if_neg (by simp),e1];simp only[oZ3];rw[(e2 rfl).2 H.D]
 have hz:∀i:Nat,(List.replicate ts.length (0:Int)).getD i 0=0:=λi=>by
  simp only[List.getD_eq_getElem?_getD,List.getElem?_replicate];split<;>rfl
 obtain⟨n,c1,c2,c3⟩:=yl H (2*ts.length+1) 0 (n:=List.replicate ts.length 0) (by omega) (by simp) (λi=>by rw[hz];omega) (λh=>by omega) (λh=>by omega);have c1:gv (0,ts,List.replicate ts.length 0)=_:=c1;have hc:pB (⟨ts⟩:au)=some n:=by
  rw[pB];simp only[oZ4,oZ3,Int.toNat_natCast];rw[if_pos (uX.2 ⟨by omega,by unfold bM;omega,by unfold aS;omega⟩),c1];rfl
 have f1:gw (n,0,[])=_:=zm (n:=n) (by omega) (λi hi=>c3 i (by omega)) n.length 0 (by omega);have f2:gF (List.replicate n.length true,0)=_:=Ap (m:=n.length) (by omega) n.length 0 (by omega);rw[pH,sj,hr];simp only[oZ4,oZ3];rw[if_neg (by simp),hc];simp only[oZ3];rw[f1];simp only[oZ3];rw[if_neg (by simp),f2]
 rfl
end
abbrev ty(ts:List ae)(t:Int):ae:=ts.getD t.toNat ag
def hasS(y:ae)(id:Int):Bool:=y.Symbols.any λs=>decide (s.ID=id)
theorem symb{y:ae}(h:y.Symbols.length<=1000)(id:Int):∃a,ju (y,id)=some (a,hasS y id)/\jc (y,id)=some (a,hasS y id):=by
 obtain⟨r,h1,h2,h3⟩:=nh (t:=y) id (by omega);have:r.2=hasS y id:=by
  unfold hasS;rcases h3 with⟨j,a1,a2,a3,rfl⟩|⟨a1,rfl⟩
  . exact(List.any_eq_true.2 ⟨_,aB a1 aT,by rw[a2];simp⟩).symm
  . refine(List.any_eq_false.2 λx hx=>?_).symm;obtain⟨k,hk,rfl⟩:=List.mem_iff_getElem.1 hx;have:=a1 k hk
    simpa[List.getD,List.getElem?_eq_getElem hk]using this
 obtain⟨a,b⟩:=r;subst this;exact⟨a,h1,h2⟩
theorem memb{y:ae}(h:y.Members.length<=1000)(id:Int):bC (y,id)=some (fIr y.Members id)/\bO (y,id)=some (fIr y.Members id):=⟨nZ h id,oa h id⟩
theorem oS (l:List av) (id:Int):fIr l id = match fI l id with
 |some j=>((j:Int),true)
 |none=>(0,false):=rfl
def cov(x y:ae):Bool:=(x.Symbols.all λs=>hasS y s.ID)&&(x.Members.all λm=>(fI y.Members m.ID).isSome)
section
variable {x y:ae} (hx:x.Symbols.length<=1000/\x.Members.length<=1000) (hy:y.Symbols.length<=1000/\y.Members.length<=1000)
include hx hy
theorem vB:∀ (k i:Nat),i+k = x.Symbols.length->((x.Symbols.drop i).all λs=>hasS y s.ID) = true/\gH (x.Symbols,(x.Symbols.length:Int),(i:Int),x,y) = some (.inr (x,y))/\gP ((i:Int),x,y) = some (.inr (x,y))\/
 ((x.Symbols.drop i).all λs=>hasS y s.ID)=false/\gH (x.Symbols,(x.Symbols.length:Int),(i:Int),x,y)=some (.inl false)/\gP ((i:Int),x,y)=some (.inl false)
 |0,i,hi=>.inl ⟨by rw[List.drop_of_length_le (by omega)];rfl,by rw[gH,if_neg (by simp;omega)],by rw[gP,if_neg (by simp;omega)]⟩
 |k+1,i,hi=>by
  have hlt:i<x.Symbols.length:=by omega
  obtain⟨a,s1,s2⟩:=symb hy.1 (x.Symbols.getD i aT).ID;have e:x.Symbols.drop i=x.Symbols.getD i aT::x.Symbols.drop (i+1):=by
   rw[List.drop_eq_getElem_cons hlt];simp[List.getD,List.getElem?_eq_getElem hlt]
  rw[gH,if_pos (by simp;omega),if_pos (aq hlt),gP,if_pos (by simp;omega),if_pos (aq hlt)];simp only[oZ4,Int.toNat_natCast];rw[s1,s2,e,List.all_cons];simp only[oZ3];cases hb:hasS y (x.Symbols.getD i aT).ID with
  |false=>exact .inr ⟨rfl,rfl,rfl⟩
  |true=>
   simp only[Bool.not_true,Bool.false_eq_true,if_false,Bool.true_and];rw[aC (by omega)];exact vB k (i+1) (by omega)
theorem vC:∀ (k i:Nat),i+k = x.Members.length->((x.Members.drop i).all λm=>(fI y.Members m.ID).isSome) = true/\gI (x.Members,(x.Members.length:Int),(i:Int),y) = some (.inr ())/\gQ ((i:Int),x,y) = some (.inr ())\/
 ((x.Members.drop i).all λm=>(fI y.Members m.ID).isSome)=false/\gI (x.Members,(x.Members.length:Int),(i:Int),y)=some (.inl false)/\gQ ((i:Int),x,y)=some (.inl false)
 |0,i,hi=>.inl ⟨by rw[List.drop_of_length_le (by omega)];rfl,by rw[gI,if_neg (by simp;omega)],by rw[gQ,if_neg (by simp;omega)]⟩
 |k+1,i,hi=>by
  have hlt:i<x.Members.length:=by omega
  obtain⟨s1,s2⟩:=memb hy.2 (x.Members.getD i af).ID;have e:x.Members.drop i=x.Members.getD i af::x.Members.drop (i+1):=by
   rw[List.drop_eq_getElem_cons hlt];simp[List.getD,List.getElem?_eq_getElem hlt]
  rw[gI,if_pos (by simp;omega),if_pos (aq hlt),gQ,if_pos (by simp;omega),if_pos (aq hlt)];simp only[oZ4,Int.toNat_natCast];rw[s1,s2,e,List.all_cons,oS];cases hb:fI y.Members (x.Members.getD i af).ID with
  |none=>exact .inr ⟨rfl,rfl,rfl⟩
  |some j=>
   simp only[oZ3,Bool.not_true,Bool.false_eq_true,if_false,Option.isSome_some,Bool.true_and];rw[aC (by omega)];exact vC k (i+1) (by omega)
theorem O3:jq (x,y)=some (cov x y):=by
 have a:=vB hx hy x.Symbols.length 0 (by omega);have b:=vC hx hy x.Members.length 0 (by omega);simp only[Int.natCast_zero,List.drop_zero]at a b;rw[jq];unfold cov;rcases a with⟨a1,a2,a3⟩|⟨a1,a2,a3⟩
 . rw[a3,a1];simp only[oZ4,oZ3];rcases b with⟨b1,b2,b3⟩|⟨b1,b2,b3⟩<;>rw[b3,b1]<;>rfl
 . rw[a3,a1];rfl
theorem O4:mu (x,y)=some (y.Open||cov x y):=by
 have a:=vB hx hy x.Symbols.length 0 (by omega);have b:=vC hx hy x.Members.length 0 (by omega);simp only[Int.natCast_zero,List.drop_zero]at a b;rw[mu];cases y.Open with
 |true=>rfl
 |false=>
 unfold cov;rw[if_neg (by simp)];rcases a with⟨a1,a2,a3⟩|⟨a1,a2,a3⟩
 . rw[a2,a1];simp only[oZ4,oZ3];rcases b with⟨b1,b2,b3⟩|⟨b1,b2,b3⟩<;>rw[b2,b1]<;>rfl
 . rw[a2,a1];rfl
end
noncomputable def dfR (tw tr:List ae) (f g:av):ab×Int:=RA (vrd tw tr f.Type_ f.Default g.Type_)
noncomputable def mmbF (tw tr:List ae) (f g:av):Int:=if f.HasDefault=true then(if g.HasDefault=true then(if(dfR tw tr f g).2=0/\om g (dfR tw tr f g).1=true then 0 else 10)else 7)else 0
noncomputable def memR (tw tr:List ae) (x:ae) (g:av):Int:=match fI x.Members g.ID with
 |none=>if g.HasDefault=true then 0 else 7
 |some i=>mmbF tw tr (x.Members.getD i af) g
def bc{α:Type}(f:α->Int):List α->Int
 |[]=>0
 |a::l=>if f a=0 then bc f l else f a
theorem Nk{α:Type}{f:α->Int}{a:α}{l:List α}{c:Int}(h:f a=c)(hc:c≠0):bc f (a::l)=c:=by
 subst h;exact if_neg hc
theorem Aq{α:Type}{f:α->Int}{a:α}{l:List α}(h:f a=0):bc f (a::l)=bc f l:=if_pos h
def crit(y:ae)(f:av):Int:=if(fI y.Members f.ID).isNone=true/\f.Critical=true then 6 else 0
section
variable {tw tr:List ae} (HW:DrOk tw) (HR:DrOk tr)
include HW HR
theorem O5 {x y:ae} (hx:x∈tw) (hy:y∈tr) {f g:av} (hf:f∈x.Members) (hg:g∈y.Members) (hd:f.HasDefault = true) (he:g.HasDefault = true):
 mA ((⟨tw⟩:au),f.Type_,f.Default,(⟨tr⟩:au),g.Type_)=some (dfR tw tr f g)/\(∃b,dL ((dfR tw tr f g).1,g.Default)=some b/\b=om g (dfR tw tr f g).1)/\pN ((⟨tw⟩:au),f.Type_,f.Default,(⟨tr⟩:au),g.Type_,g.Default)=some (decide ((dfR tw tr f g).2=0)&&om g (dfR tw tr f g).1):=by
 have hv:=(HW.T x hx).dv f hf;have hfit:=HW.D x hx f hf hd;have hw:=HW.W x hx f hf hd;have hz:Pz tw 3000 f.Type_ f.Default:=pz_of HW 3000 hv hfit (.inr (by omega)) (.inr (by omega));obtain⟨j,hj,rfl⟩:=List.mem_iff_getElem.1 hy;have hr:=HR.R j hj g (by simpa[List.getD,List.getElem?_eq_getElem hj]using hg);have ok:OkV (dfR tw tr f g).1:=rA_ok HW HR hv hfit hz hr.1 hr.2.1
 have hom:om g (dfR tw tr f g).1=true↔(dfR tw tr f g).1=g.Default:=by
  unfold om;simp[he];exact⟨λh=>h.symm,λh=>h.symm⟩
 obtain⟨b,b1,b2⟩:=Bd ok g.Default;obtain⟨c,c1,c2⟩:=Bc ok g.Default;have hb:b=om g (dfR tw tr f g).1:=by rw[Bool.eq_iff_iff];exact b2.trans hom.symm
 have hc:c=om g (dfR tw tr f g).1:=by rw[Bool.eq_iff_iff];exact c2.trans hom.symm
 refine⟨Kz HW HR hv hfit hz hr.1 hr.2.1,⟨b,b1,hb⟩,?_⟩;rw[pN];simp only[ab.aD];rw[KA HW HR hv (by omega) hfit hz hr.1 hr.2.1];simp only[oZ4,oZ3];show((if decide ((dfR tw tr f g).2=0)=true then ko ((dfR tw tr f g).1,g.Default)else some false)>>=λr_4=>some (bif decide ((dfR tw tr f g).2=0)then r_4 else false))=_
 by_cases h0:(dfR tw tr f g).2=0
 . rw[if_pos (by simpa using h0),c1,hc];simp[h0]
 . rw[if_neg (by simpa using h0)];simp[h0]
theorem fI_lt{l:List av}{id:Int}{j:Nat}(h:fI l id=some j):inR (j:Int) l.length=true:=aq (bS h).1
theorem Cq {x y:ae} (hx:x∈tw) (hy:y∈tr):∀ (k i:Nat),i+k = y.Members.length->
 (bc (memR tw tr x) (y.Members.drop i)=0/\eo (y.Members,(y.Members.length:Int),(i:Int),tw,x,tr,y)=some (.inr (x,y))/\gx ((i:Int),tw,x,tr,y)=some (.inr (x,y)))\/
 (¬bc (memR tw tr x) (y.Members.drop i)=0/\eo (y.Members,(y.Members.length:Int),(i:Int),tw,x,tr,y)=some (.inl (bc (memR tw tr x) (y.Members.drop i)))/\gx ((i:Int),tw,x,tr,y)=some (.inl (bc (memR tw tr x) (y.Members.drop i))))
 |0,i,hi=>.inl ⟨by rw[List.drop_of_length_le (by omega)];rfl,by rw[eo,if_neg (by simp;omega)],by rw[gx,if_neg (by simp;omega)]⟩
 |k+1,i,hi=>by
  have hlt:i<y.Members.length:=by omega
  have hlx:=(HW.I x hx).2.2;have hly:=(HR.I y hy).2.2;have e:y.Members.drop i=y.Members.getD i af::y.Members.drop (i+1):=by
   rw[List.drop_eq_getElem_cons hlt];simp[List.getD,List.getElem?_eq_getElem hlt]
  have hg:=aB hlt af;have ih:=Cq hx hy k (i+1) (by omega);rw[eo,if_pos (by simp;omega),if_pos (aq hlt),gx,if_pos (by simp;omega),if_pos (aq hlt)];simp only[oZ4,oZ3,Int.toNat_natCast,ab.aD];generalize y.Members.getD i af=g at*;obtain⟨s1,s2⟩:=memb (y:=x) (by omega) g.ID;rw[s1,s2,e,oS,aC (by omega)]
  have hm:memR tw tr x g=match fI x.Members g.ID with
   |none=>if g.HasDefault=true then 0 else 7
   |some i=>mmbF tw tr (x.Members.getD i af) g:=rfl
  cases hF:fI x.Members g.ID with
  |none=>
   rw[hF]at hm;simp only[oZ3,Bool.not_false,if_true];cases hd:g.HasDefault with
   |false=>
    simp only[hd]at hm;have h7:memR tw tr x g=7:=hm;have e7:bc (memR tw tr x) (g::y.Members.drop (i+1))=7:=by simp[bc,h7]
    refine .inr ⟨by rw[e7];decide,by rw[e7];rfl,by rw[e7];simp⟩
   |true=>
    simp only[hd]at hm;have h0:memR tw tr x g=0:=hm;have e0:bc (memR tw tr x) (g::y.Members.drop (i+1))=bc (memR tw tr x) (y.Members.drop (i+1)):=by simp[bc,h0]
    rw[e0]
    simpa using ih
  |some j=>
   rw[hF]at hm;have hj:=fI_lt (HW:=HW) (HR:=HR) hF;have hf:=aB (bS hF).1 af;simp only[oZ3,Bool.not_true,Bool.false_eq_true,if_false,Int.toNat_natCast,hj,if_true,Bool.true_or,cond_true];simp only at hm;unfold mmbF at hm;rcases Bool.eq_false_or_eq_true (x.Members.getD j af).HasDefault with hdf|hdf
   . rcases Bool.eq_false_or_eq_true g.HasDefault with hdg|hdg
     . obtain⟨d1,⟨b,d2,d3⟩,d4⟩:=O5 HW HR hx hy hf hg hdf hdg;rw[if_pos hdf,if_pos hdg]at hm;simp only[hdf,hdg,Bool.not_true,Bool.false_eq_true,if_false,cond_false,if_true];rw[d1,d4];simp only[oZ3];by_cases h0:(dfR tw tr (x.Members.getD j af) g).2=0/\om g (dfR tw tr (x.Members.getD j af) g).1=true
       . rw[if_pos h0]at hm;have e0:bc (memR tw tr x) (g::y.Members.drop (i+1))=bc (memR tw tr x) (y.Members.drop (i+1)):=by simp[bc,hm]
         rw[e0];simp only[h0.1,h0.2,decide_true,Bool.not_true,Bool.not_false,if_true,Bool.and_self,cond_false,cond_true,Bool.false_eq_true,if_false];rw[d2,d3,h0.2]
         simpa using ih
       . rw[if_neg h0]at hm;have e10:bc (memR tw tr x) (g::y.Members.drop (i+1))=10:=by simp[bc,hm]
         refine .inr ⟨by rw[e10];decide,?_,?_⟩
         . rw[e10];by_cases h1:(dfR tw tr (x.Members.getD j af) g).2=0
           . have h2:om g (dfR tw tr (x.Members.getD j af) g).1=false:=by
              cases ho:om g (dfR tw tr (x.Members.getD j af) g).1 with
              |false=>rfl
              |true=>exact absurd ⟨h1,ho⟩ h0
             simp only[h1,decide_true,Bool.not_true,Bool.not_false,if_true,cond_false];rw[d2,d3,h2];rfl
           . have e1:decide ((dfR tw tr (x.Members.getD j af) g).2=0)=false:=decide_eq_false h1;simp only[e1,Bool.not_false,Bool.not_true,Bool.false_eq_true,if_false,oZ3,cond_true,if_true]
         . rw[e10];have:(decide ((dfR tw tr (x.Members.getD j af) g).2=0)&&om g (dfR tw tr (x.Members.getD j af) g).1)=false:=by
            rw[Bool.eq_false_iff];intro h;simp at h;exact h0 h
           rw[this];rfl
     . rw[if_pos hdf,if_neg (by rw[hdg];simp)]at hm;have e7:bc (memR tw tr x) (g::y.Members.drop (i+1))=7:=by simp[bc,hm]
       rw[e7];refine .inr ⟨by decide,?_,?_⟩<;>simp only[hdf,hdg,Bool.not_true,Bool.not_false,Bool.false_eq_true,if_false,if_true,cond_true,cond_false]
   . rw[if_neg (by rw[hdf];simp)]at hm;have e0:bc (memR tw tr x) (g::y.Members.drop (i+1))=bc (memR tw tr x) (y.Members.drop (i+1)):=by simp[bc,hm]
     rw[e0];rcases Bool.eq_false_or_eq_true g.HasDefault with hdg|hdg<;>simp only[hdf,hdg,Bool.not_false,Bool.not_true,if_true,Bool.false_eq_true,if_false,cond_true,cond_false,oZ3]<;>exact ih
theorem Cr {x y:ae} (hx:x∈tw) (hy:y∈tr):∀ (k i:Nat),i+k = x.Members.length->
 (bc (crit y) (x.Members.drop i)=0/\gK (x.Members,(x.Members.length:Int),(i:Int),y)=some (.inr ())/\gy ((i:Int),x,y)=some (.inr ()))\/
 (¬bc (crit y) (x.Members.drop i)=0/\gK (x.Members,(x.Members.length:Int),(i:Int),y)=some (.inl (bc (crit y) (x.Members.drop i)))/\gy ((i:Int),x,y)=some (.inl (bc (crit y) (x.Members.drop i))))
 |0,i,hi=>.inl ⟨by rw[List.drop_of_length_le (by omega)];rfl,by rw[gK,if_neg (by simp;omega)],by rw[gy,if_neg (by simp;omega)]⟩
 |k+1,i,hi=>by
  have hlt:i<x.Members.length:=by omega
  have hlx:=(HW.I x hx).2.2;have hly:=(HR.I y hy).2.2;have e:x.Members.drop i=x.Members.getD i af::x.Members.drop (i+1):=by
   rw[List.drop_eq_getElem_cons hlt];simp[List.getD,List.getElem?_eq_getElem hlt]
  have ih:=Cr hx hy k (i+1) (by omega);obtain⟨s1,s2⟩:=memb (y:=y) (by omega) (x.Members.getD i af).ID;rw[gK,if_pos (by simp;omega),if_pos (aq hlt),gy,if_pos (by simp;omega),if_pos (aq hlt)];simp only[oZ4,oZ3,Int.toNat_natCast];rw[s1,s2,e,aC (by omega)];simp only[oZ3,aq hlt,Bool.true_or,if_true]
  have hc:crit y (x.Members.getD i af)=if(fI y.Members (x.Members.getD i af).ID).isNone=true/\(x.Members.getD i af).Critical=true then 6 else 0:=rfl
  rw[oS];rcases Bool.eq_false_or_eq_true (x.Members.getD i af).Critical with hcr|hcr
  . cases hF:fI y.Members (x.Members.getD i af).ID with
    |none=>
     rw[if_pos ⟨by rw[hF];rfl,hcr⟩]at hc;have e6:bc (crit y) ((x.Members.getD i af)::x.Members.drop (i+1))=6:=Nk hc (by decide);rw[e6];refine .inr ⟨by decide,?_,?_⟩<;>simp only[hcr,Bool.not_false,cond_true,if_true]
    |some j=>
     rw[if_neg (by rw[hF];simp)]at hc;have e0:bc (crit y) ((x.Members.getD i af)::x.Members.drop (i+1))=bc (crit y) (x.Members.drop (i+1)):=Aq hc;rw[e0];simp only[Bool.not_true,cond_false,Bool.false_eq_true,if_false];exact ih
  . rw[if_neg (by rw[hcr];simp)]at hc;have e0:bc (crit y) ((x.Members.getD i af)::x.Members.drop (i+1))=bc (crit y) (x.Members.drop (i+1)):=Aq hc;rw[e0];cases hF:fI y.Members (x.Members.getD i af).ID<;>simp only[hcr,Bool.not_false,Bool.not_true,cond_true,cond_false,Bool.false_eq_true,if_false]<;>exact ih
noncomputable def recR (tw tr:List ae) (x y:ae):Int:=if bc (memR tw tr x) y.Members=0 then bc (crit y) x.Members else bc (memR tw tr x) y.Members
theorem Oi{x y:ae}(hx:x∈tw)(hy:y∈tr):pO ((⟨tw⟩:au),x,(⟨tr⟩:au),y)=some (recR tw tr x y)/\mc ((⟨tw⟩:au),x,(⟨tr⟩:au),y)=some (recR tw tr x y):=by
 have a:=Cq HW HR hx hy y.Members.length 0 (by omega);have b:=Cr HW HR hx hy x.Members.length 0 (by omega);simp only[Int.natCast_zero,List.drop_zero]at a b;rw[pO,mc];unfold recR;rcases a with⟨a1,a2,a3⟩|⟨a1,a2,a3⟩
 . rw[a2,a3,if_pos a1];simp only[oZ4,oZ3];rcases b with⟨b1,b2,b3⟩|⟨b1,b2,b3⟩
   . rw[b2,b3,b1];exact⟨rfl,rfl⟩
   . rw[b2,b3];exact⟨rfl,rfl⟩
 . rw[a2,a3,if_neg a1];exact⟨rfl,rfl⟩
def kys(k:ae):Int:=if k.Kind=1 then 2 else if k.Kind=2 then k.High-k.Low+1 else if k.Kind=4 then k.Symbols.length else if k.Max=0 then 1 else 100
omit HW HR in
theorem Ct{b:ae}(h: -100<=b.Low/\b.High<=100):∀(k:Nat) (n v:Int),b.High-v=k->b.Low<=v->1<=n->n+k<=100->gM (n,v,b)=some (n+k)
 |0,n,v,hk,hl,h1,h2=>by
  rw[gM,if_neg (by simp;omega)];simp
 |k+1,n,v,hk,hl,h1,h2=>by
  rw[gM,if_pos (by simp;omega),ct (by omega) (by omega),ct (by omega) (by omega),Ct h k (n+1) (v+1) (by omega) (by omega) (by omega) (by omega)]
  congr 1;omega
omit HR in
theorem Nl{k:ae}(hk:k∈tw)(h4:k.Kind<=4):(∃q,mT k=some q/\∀m,m<=3->minI m q=minI m (kys k))/\ku k=some (kys k):=by
 have h1:=(Ci HW hk).1;have hL:=HW.L k hk;have hF:=HW.V.F k hk;rw[mT,ku];by_cases k1:k.Kind=1
 . simp[k1,kys]
 by_cases k2:k.Kind=2
 . obtain⟨l1,l2⟩:=hL k2;have hlh:k.Low<=k.High:=by rcases hF with h|h|h|h|h|h|h|h|h<;>omega
   have hky:kys k=k.High-k.Low+1:=by simp[kys,k2]
   have e:gM (1,k.Low,k)=some (1+((k.High-k.Low).toNat:Int)):=Ct (by omega) _ 1 k.Low (by omega) (by omega) (by omega) (by omega);have w1:subI .u64 (wrp .u64 k.High) (wrp .u64 k.Low)=k.High-k.Low:=by
    show IntKind.wrap .u64 (IntKind.wrap .u64 k.High-IntKind.wrap .u64 k.Low)=_;rw[IntKind.wrap_u64,IntKind.wrap_u64,IntKind.wrap_u64];omega
   have w2:wrp .i64 (k.High-k.Low)=k.High-k.Low:=by
    show IntKind.wrap .i64 _=_;rw[IntKind.wrap_i64];omega
   refine⟨?_,?_⟩
   . rw[if_neg (by simp[k2]),if_pos (by simp[k2]),w1];simp only[oZ4,oZ3];rw[if_pos (by simp;omega),w2,ct (by omega) (by omega)];exact⟨_,rfl,λm _=>by rw[hky]⟩
   . rw[if_neg (by simp[k2]),if_pos (by simp[k2]),e,hky];show some (1+((k.High-k.Low).toNat:Int))=_
     congr 1;omega
 by_cases k4:k.Kind=4
 . simp[k4,kys]
 . have k3:k.Kind=3:=by omega
   by_cases hM:k.Max=0
   . simp[k3,hM,kys]
   . simp[k3,hM,kys];intro m hm;simp only[minI];omega
noncomputable def rsn (tw tr:List ae) (t u:Int):Int:=
 if ¬(ty tw t).Kind=(ty tr u).Kind then 9
 else if(ty tw t).Kind=2 then(if(ty tw t).Low<(ty tr u).Low\/(ty tr u).High<(ty tw t).High then 2 else 0)
 else if(ty tw t).Kind=3\/(ty tw t).Kind=7 then(if(ty tr u).Max<(ty tw t).Max then 3 else 0)
 else if(ty tw t).Kind=8 then(if(ty tr u).Max<minI (ty tw t).Max (kys (ty tw (ty tw t).Key))then 3 else 0)
 else if(ty tw t).Kind=4 then(if((ty tr u).Open||cov (ty tw t) (ty tr u))=true then 0 else 4)
 else if(ty tw t).Kind=6 then(if((ty tr u).Open||cov (ty tw t) (ty tr u))=true then 0 else 5)
 else if(ty tw t).Kind=5 then recR tw tr (ty tw t) (ty tr u)
 else 0
omit HW HR in
theorem vd{x:ae}(h:x.Kind=8):x.Key∈usesL x:=by unfold usesL;simp[h]
omit HW HR in
theorem Bs{x:ae}(h:7<=x.Kind):x.Elem∈usesL x:=by unfold usesL;simp[h]
def In2(ts:List ae)(t:Int):Prop:=0<=t/\t<ts.length
omit HW HR in
theorem oc{ts:List ae}{t:Int}(h:In2 ts t):inR t ts.length=true:=by
 unfold In2 at h;simp only[inR,Bool.and_eq_true,decide_eq_true_eq];omega
omit HW HR in
theorem eX{ts:List ae}{t:Int}(h:In2 ts t):ty ts t∈ts:=aB (by unfold In2 at h;omega) ag
theorem lens{t u:Int}(ht:In2 tw t)(hu:In2 tr u):((ty tw t).Symbols.length<=1000/\(ty tw t).Members.length<=1000)/\((ty tr u).Symbols.length<=1000/\(ty tr u).Members.length<=1000):=by
 have hx:=eX ht;have hy:=eX hu;have a:=(HW.I _ hx).2.2;have b:=(HR.I _ hy).2.2;have c:∀{x:ae} {ts:List ae},FormP x->x.Symbols.length<=1000:=λ{x ts} h=>by
  rcases h with h|h|h|h|h|h|h|h|h
  all_goals first
   |(have:=h.2.2.2.2.2.1.2.2.2.2;omega)
   |(have q:x.Symbols=[]:=(by first|exact h.2.2.2.2.2.1|exact h.2.2.2.2.1);rw[q];simp)
 exact⟨⟨c (ts:=tw) (HW.V.F _ hx),by omega⟩,⟨c (ts:=tr) (HR.V.F _ hy),by omega⟩⟩
theorem uQ{t u:Int}(ht:In2 tw t)(hu:In2 tr u):pR ((⟨tw⟩:au),t,(⟨tr⟩:au),u)=some (rsn tw tr t u)/\me ((⟨tw⟩:au),t,(⟨tr⟩:au),u)=some (rsn tw tr t u):=by
 have hx:=eX ht;have hy:=eX hu;obtain⟨l1,l2⟩:=lens HW HR ht hu;have hc:=O4 l1 l2;have hc':=O3 l1 l2;have hr:=Oi HW HR hx hy;have hM:=HW.M _ hx
 have hkey:(ty tw t).Kind=8->inR (ty tw t).Key tw.length=true/\(∃q,mT (ty tw (ty tw t).Key)=some q/\minI (ty tw t).Max q=minI (ty tw t).Max (kys (ty tw (ty tw t).Key)))/\ku (ty tw (ty tw t).Key)=some (kys (ty tw (ty tw t).Key)):=λk8=>by
  have hk:In2 tw (ty tw t).Key:=HW.V.U _ hx _ (vd k8);obtain⟨⟨q,q1,q2⟩,q3⟩:=Nl HW (eX hk) (HW.V.Ky _ hx k8).2;exact⟨oc hk,⟨q,q1,q2 _ hM⟩,q3⟩
 have hk:=Ci HW hx;rw[pR,me];show(if inR t tw.length=true then _ else none)=_/\(if inR t tw.length=true then _ else none)=_;rw[oc ht,if_pos rfl,if_pos rfl];simp only[oZ4,oZ3];rw[oc hu,if_pos rfl,if_pos rfl];unfold rsn;obtain⟨x,hX⟩:∃x,ty tw t=x:=⟨_,rfl⟩
 obtain⟨y,hY⟩:∃y,ty tr u=y:=⟨_,rfl⟩
 have hX':tw.getD t.toNat ag=x:=hX;have hY':tr.getD u.toNat ag=y:=hY;simp only[hX',hY',hX,hY]at*;have tyd:∀k:Int,tw.getD k.toNat ag=ty tw k:=λ_=>rfl
 by_cases hK:x.Kind=y.Kind
 . have hk9:x.Kind=1\/x.Kind=2\/x.Kind=3\/x.Kind=4\/x.Kind=5\/x.Kind=6\/x.Kind=7\/x.Kind=8\/x.Kind=9:=by omega
   rcases hk9 with k|k|k|k|k|k|k|k|k<;>have kY:y.Kind=_:=hK.symm.trans k
   all_goals simp only[k,kY,Int.reduceEq,Int.reduceLT,decide_true,decide_false,Bool.not_true,Bool.not_false,Bool.or_true,Bool.or_false,cond_true,cond_false,Bool.false_eq_true,if_false,if_true,oZ3,not_true_eq_false,or_false,false_or,or_true,true_or,and_self]
   . by_cases a:x.Low<y.Low<;>by_cases b:y.High<x.High<;>simp[a,b]
   . by_cases a:y.Max<x.Max<;>simp[a]
   . rw[hc,hc'];cases y.Open<;>cases cov x y<;>simp
   . rw[hr.1,hr.2];simp
   . rw[hc,hc'];cases y.Open<;>cases cov x y<;>simp
   . by_cases a:y.Max<x.Max<;>simp[a]
   . obtain⟨a1,⟨q,a2,a3⟩,a4⟩:=hkey k;rw[tyd,a2,a4,a1];simp only[oZ3,Bool.true_or,if_true,a3];by_cases a:y.Max<minI x.Max (kys (ty tw x.Key))<;>simp only[a,decide_true,decide_false,if_true,if_false,Bool.false_eq_true,and_self]
 . simp[hK]
end
theorem ve{a b:aw}:a=b↔a.A0=b.A0/\a.A1=b.A1:=by cases a;cases b;simp
instance arrDec:DecidableEq aw:=λa b=>decidable_of_iff (a.A0=b.A0/\a.A1=b.A1) ve.symm
theorem eqA{a b:aw}:(eqI a.A0 b.A0&&(eqI a.A1 b.A1&&true))=decide (a=b):=by
 rw[Bool.eq_iff_iff];simp[eqI,ve]
def addA(l:List aw)(p:aw):List aw:=if p∈l then l else l++[p]
theorem uR(l:List aw)(p:aw):(addA l p).length<=l.length+1:=by unfold addA;split<;>simp
theorem Oj{l:List aw}{p q:aw}:q∈addA l p↔q∈l\/q=p:=by
 unfold addA;by_cases h:p∈l
 . rw[if_pos h];exact⟨.inl,λh'=>h'.elim id (λe=>e▸h)⟩
 . rw[if_neg h];simp
theorem nS{m:List aw}:∀{l:List aw} {q:aw},q∈m.foldl addA l↔q∈l\/q∈m:=by
 induction m with
 |nil=>intro l q;simp
 |cons a m ih=>intro l q;rw[List.foldl_cons,ih,Oj];simp[or_assoc]
theorem Bt{m:List aw}:∀{l:List aw},(m.foldl addA l).length<=l.length+m.length:=by
 induction m with
 |nil=>intro l;simp
 |cons a m ih=>intro l;rw[List.foldl_cons,List.length_cons];have:=@ih (addA l a);have:=uR l a;omega
theorem L6{l:List aw}(h:l.Nodup)(p:aw):(addA l p).Nodup:=by
 unfold addA;by_cases hp:p∈l
 . rwa [if_pos hp]
 . rw[if_neg hp];rw[List.nodup_append];exact⟨h,by simp,λa ha b hb=>by simp at hb;subst hb;exactλe=>hp (e▸ha)⟩
theorem L7{m:List aw}:∀{l:List aw},l.Nodup->(m.foldl addA l).Nodup:=by
 induction m with
 |nil=>intro l h;exact h
 |cons a m ih=>intro l h;rw[List.foldl_cons];exact ih (L6 h a)
theorem rl{l:List aw}{i:Nat}(h:i<l.length):l.drop i=l.getD i aG::l.drop (i+1):=by
 rw[List.drop_eq_getElem_cons h];simp[List.getD,List.getElem?_eq_getElem h]
section
variable {l:List aw} (p:aw) (hl:l.length<=1000000)
include hl
theorem inl0:∀ (k i:Nat),i+k = l.length->(p∈l.drop i/\eH (l,(i:Int),p) = some (.inl true)/\eu ((i:Int),l,p) = some (.inl (true,l))/\∃ j:Nat,ed (l,(l.length:Int),(i:Int),p) = some (.inl (j:Int))/\dW ((l.length:Int),(i:Int),l,p) = some (.inl ((j:Int),l)))\/
 (p ∉ l.drop i/\eH (l,(i:Int),p)=some (.inr ())/\eu ((i:Int),l,p)=some (.inr l)/\ed (l,(l.length:Int),(i:Int),p)=some (.inr ())/\dW ((l.length:Int),(i:Int),l,p)=some (.inr l))
 |0,i,hi=>.inr ⟨by rw[List.drop_of_length_le (by omega)];simp,by rw[eH,if_neg (by simp;omega)],by rw[eu,if_neg (by simp;omega)],by rw[ed,if_neg (by simp;omega)],by rw[dW,if_neg (by simp;omega)]⟩
 |k+1,i,hi=>by
  have hlt:i<l.length:=by omega
  have ih:=inl0 k (i+1) (by omega);rw[rl hlt];have e1:eH (l,(i:Int),p)=if l.getD i aG=p then some (.inl true)else eH (l,((i+1:Nat):Int),p):=by
   rw[eH,if_pos (by simp;omega),if_pos (aq hlt)];simp only[oZ4,oZ3,Int.toNat_natCast,eqA];rw[aC (by omega)];by_cases h:l.getD i aG=p<;>simp only[h,decide_true,decide_false,if_true,if_false,Bool.false_eq_true]
  have e2:eu ((i:Int),l,p)=if l.getD i aG=p then some (.inl (true,l))else eu (((i+1:Nat):Int),l,p):=by
   rw[eu,if_pos (by simp;omega),if_pos (aq hlt)];simp only[Int.toNat_natCast,eqA,hlt,decide_true,if_true];rw[aC (by omega)];by_cases h:l.getD i aG=p<;>simp only[h,decide_true,decide_false,if_true,if_false,Bool.false_eq_true]
  have e3:ed (l,(l.length:Int),(i:Int),p)=if l.getD i aG=p then some (.inl (i:Int))else ed (l,(l.length:Int),((i+1:Nat):Int),p):=by
   rw[ed,if_pos (by simp;omega),if_pos (aq hlt)];simp only[oZ4,oZ3,Int.toNat_natCast,eqA];rw[aC (by omega)];by_cases h:l.getD i aG=p
   . simp only[h,decide_true,if_true]
   . have h':¬p=l.getD i aG:=λe=>h e.symm
     simp only[h,h',decide_false,if_false,Bool.false_eq_true]
  have e4:dW ((l.length:Int),(i:Int),l,p)=if l.getD i aG=p then some (.inl ((i:Int),l))else dW ((l.length:Int),((i+1:Nat):Int),l,p):=by
   rw[dW,if_pos (by simp;omega),if_pos (aq hlt)];simp only[Int.toNat_natCast,eqA,hlt,decide_true,if_true];rw[aC (by omega)];by_cases h:l.getD i aG=p
   . simp only[h,decide_true,if_true]
   . have h':¬p=l.getD i aG:=λe=>h e.symm
     simp only[h,h',decide_false,if_false,Bool.false_eq_true]
  rw[e1,e2,e3,e4];by_cases h:l.getD i aG=p
  . rw[if_pos h,if_pos h];exact .inl ⟨by rw[h];exact List.mem_cons_self ..,rfl,rfl,i,by rw[if_pos h],by rw[if_pos h]⟩
  . have h':¬p=l.getD i aG:=λe=>h e.symm
    simp only[if_neg h,List.mem_cons,h',false_or];exact ih
theorem in_is:mN (l,p)=some (decide (p∈l))/\mv (p,l)=some (decide (p∈l),l)/\lS (l,p)=some (decide (p∈l))/\oY (p,l)=some (decide (p∈l),l):=by
 have h:=inl0 p hl l.length 0 (by omega);simp only[Int.natCast_zero,List.drop_zero]at h;rw[mN,mv,lS,oY,r9,r4];rcases h with⟨h1,h2,h3,j,h4,h5⟩|⟨h1,h2,h3,h4,h5⟩
 . rw[h2,h3,h4,h5];simp[h1]
 . rw[h2,h3,h4,h5];simp[h1]
end
def rawL(x y:ae)(l:List av):List aw:=l.filterMap λf=>match fI y.Members f.ID with
 |none=>none
 |some j=>some ⟨f.Type_,(y.Members.getD j af).Type_⟩
def kyL(x y:ae):List aw:=if x.Kind=8/\0<x.Max then[⟨x.Key,y.Key⟩]else[]
def elL(x y:ae):List aw:=if x.Kind=9\/(x.Kind=7\/x.Kind=8)/\0<x.Max then[⟨x.Elem,y.Elem⟩]else[]
def vraw(x y:ae):List aw:=rawL x y x.Members++kyL x y++elL x y
def vnx(x y:ae):List aw:=if x.Kind=y.Kind then(vraw x y).foldl addA []else[]
theorem Bu(x y:ae)(l:List av):(rawL x y l).length<=l.length:=by unfold rawL;exact List.length_filterMap_le ..
theorem suc1(a b:Int){l:List aw}(hl:l.length<=1000):iX (a,b,l)=some (addA l ⟨a,b⟩):=by
 rw[iX,(in_is (⟨a,b⟩:aw) (by omega)).2.2.2];simp only[oZ4,oZ3,decide_true,Bool.and_true,if_true];unfold addA;by_cases h:(⟨a,b⟩:aw)∈l
 . rw[if_pos h,if_neg (by simp[h])]
 . rw[if_neg h,if_pos (by simp[h]),if_pos (bl (by omega) (by simp;omega))]
section
variable {x y:ae} (hx:x.Members.length<=100) (hy:y.Members.length<=100)
include hx hy
theorem vD:∀(k i:Nat) (acc:List aw),i+k=x.Members.length->acc.length+k<=500->gr (x.Members,(x.Members.length:Int),(i:Int),x,y,acc)=some (x,y,(rawL x y (x.Members.drop i)).foldl addA acc)
 |0,i,acc,hi,ha=>by rw[List.drop_of_length_le (by omega),gr,if_neg (by simp;omega)];rfl
 |k+1,i,acc,hi,ha=>by
  have hlt:i<x.Members.length:=by omega
  have e:x.Members.drop i=x.Members.getD i af::x.Members.drop (i+1):=by
   rw[List.drop_eq_getElem_cons hlt];simp[List.getD,List.getElem?_eq_getElem hlt]
  rw[gr,if_pos (by simp;omega),if_pos (aq hlt)];simp only[oZ4,oZ3,Int.toNat_natCast];rw[(memb (y:=y) (by omega) _).1,oS,e,aC (by omega)];unfold rawL;rw[List.filterMap_cons];cases hF:fI y.Members (x.Members.getD i af).ID with
  |none=>
   simp only[oZ3,Bool.false_eq_true,if_false];exact vD k (i+1) acc (by omega) (by omega)
  |some j=>
   simp only[oZ3,if_true,aq (bS hF).1,Int.toNat_natCast,List.foldl_cons];rw[suc1 _ _ (by omega)];simp only[oZ3];exact vD k (i+1) _ (by omega) (by have:=uR acc ⟨(x.Members.getD i af).Type_,(y.Members.getD j af).Type_⟩;omega)
theorem vE:∀(k i:Nat) (acc:List aw),i+k=x.Members.length->acc.length+k<=500->gL ((i:Int),x,y,acc)=some (x,y,acc++rawL x y (x.Members.drop i))
 |0,i,acc,hi,ha=>by rw[List.drop_of_length_le (by omega),gL,if_neg (by simp;omega)];simp[rawL]
 |k+1,i,acc,hi,ha=>by
  have hlt:i<x.Members.length:=by omega
  have e:x.Members.drop i=x.Members.getD i af::x.Members.drop (i+1):=by
   rw[List.drop_eq_getElem_cons hlt];simp[List.getD,List.getElem?_eq_getElem hlt]
  rw[gL,if_pos (by simp;omega),if_pos (aq hlt)];simp only[oZ4,oZ3,Int.toNat_natCast];rw[(memb (y:=y) (by omega) _).2,oS,e,aC (by omega)];unfold rawL;rw[List.filterMap_cons];cases hF:fI y.Members (x.Members.getD i af).ID with
  |none=>
   simp only[oZ3,Bool.false_eq_true,if_false];exact vE k (i+1) acc (by omega) (by omega)
  |some j=>
   simp only[oZ3,if_true,aq (bS hF).1,aq hlt,Int.toNat_natCast];rw[if_pos (bl (by omega) (by simp;omega)),vE k (i+1) _ (by omega) (by simp;omega),List.append_assoc];rfl
end
theorem vF{l:List aw}(hl:l.length<=500):∀(k i:Nat) (acc:List aw),i+k=l.length->acc.length+k<=500->dd ((i:Int),l,acc)=some ((l.drop i).foldl addA acc)
 |0,i,acc,hi,ha=>by rw[List.drop_of_length_le (by omega),dd,if_neg (by simp;omega)];rfl
 |k+1,i,acc,hi,ha=>by
  have hlt:i<l.length:=by omega
  rw[rl hlt,dd,if_pos (by simp;omega),if_pos (aq hlt)];simp only[Int.toNat_natCast];rw[if_pos (decide_eq_true hlt),(in_is _ (by omega)).2.1,aC (by omega)];simp only[oZ4,oZ3,decide_true,Bool.and_true,if_true,List.foldl_cons];by_cases h:l.getD i aG∈acc
  . rw[show addA acc (l.getD i aG)=acc from if_pos h,decide_eq_true h,if_neg (by simp)];exact vF hl k (i+1) acc (by omega) (by omega)
  . rw[show addA acc (l.getD i aG)=acc++[l.getD i aG]from if_neg h,decide_eq_false h,if_pos (show(!false)=true from rfl),if_pos (aq hlt),if_pos (decide_eq_true hlt),if_pos (bl (by omega) (by simp;omega))];exact vF hl k (i+1) _ (by omega) (by simp;omega)
theorem Bv{x y:ae}(hx:x.Members.length<=100):(vraw x y).length<=102:=by
 have:=Bu x y x.Members;have h1:(kyL x y).length<=1:=by unfold kyL;split<;>simp
 have h2:(elL x y).length<=1:=by unfold elL;split<;>simp
 unfold vraw;simp only[List.length_append];omega
section
variable {tw tr:List ae} (HW:DrOk tw) (HR:DrOk tr)
include HW HR
theorem uS{t u:Int}(ht:In2 tw t)(hu:In2 tr u):pj ((⟨tw⟩:au),t,(⟨tr⟩:au),u)=some (vnx (ty tw t) (ty tr u))/\mw ((⟨tw⟩:au),t,(⟨tr⟩:au),u)=some (vnx (ty tw t) (ty tr u)):=by
 have hx:=(HW.I _ (eX ht)).2.2;have hy:=(HR.I _ (eX hu)).2.2;have s0:=vD (x:=ty tw t) (y:=ty tr u) (by omega) (by omega) (ty tw t).Members.length 0 [] (by omega) (by show 0+_<=500;omega);have n0:=vE (x:=ty tw t) (y:=ty tr u) (by omega) (by omega) (ty tw t).Members.length 0 [] (by omega) (by show 0+_<=500;omega);have hv:=Bv (x:=ty tw t) (y:=ty tr u) (by omega)
 have hr:=Bu (ty tw t) (ty tr u) (ty tw t).Members;have n1:∀l:List aw,l.length<=500->dd (0,l,[])=some (l.foldl addA []):=λl hl=>by
  have:=vF hl l.length 0 [] (by omega) (by simp;omega)
  simpa using this
 have rm:∀l:List aw,l.length<=500->room 16 l.length=true:=λl hl=>bl (by omega) (by omega)
 simp only[Int.natCast_zero,List.drop_zero,List.nil_append]at s0 n0;have al:=@Bt (rawL (ty tw t) (ty tr u) (ty tw t).Members) [];simp only[List.length_nil]at al;rw[pj,mw];show(if inR t tw.length=true then _ else none)=_/\(if inR t tw.length=true then _ else none)=_;rw[oc ht,if_pos rfl,if_pos rfl];simp only[oZ4,oZ3]
 rw[oc hu,if_pos rfl,if_pos rfl];unfold vnx vraw;obtain⟨x,hX⟩:∃x,ty tw t=x:=⟨_,rfl⟩
 obtain⟨y,hY⟩:∃y,ty tr u=y:=⟨_,rfl⟩
 have hX':tw.getD t.toNat ag=x:=hX;have hY':tr.getD u.toNat ag=y:=hY;simp only[hX',hY',hX,hY]at*;by_cases hK:x.Kind=y.Kind
 . have ke:(bif decide (x.Kind=8)then decide (0<x.Max)else false)=decide (x.Kind=8/\0<x.Max):=by
    by_cases a:x.Kind=8<;>simp[a]
   have ee:(bif decide (x.Kind=9)then true else bif bif decide (x.Kind=7)then true else decide (x.Kind=8)then decide (0<x.Max)else false)=decide (x.Kind=9\/(x.Kind=7\/x.Kind=8)/\0<x.Max):=by
    by_cases a:x.Kind=9<;>by_cases b:x.Kind=7<;>by_cases c:x.Kind=8<;>simp[a,b,c]
   have hb:¬(!(decide (x.Kind=y.Kind)))=true:=by simp[hK]
   rw[if_pos hK,if_neg hb,if_neg hb,s0,n0];simp only[oZ3,List.foldl_append,ke,ee];have a2:=uR (List.foldl addA [] (rawL x y x.Members)) ⟨x.Key,y.Key⟩;unfold kyL elL;by_cases k1:x.Kind=8/\0<x.Max
   . have k2:x.Kind=9\/(x.Kind=7\/x.Kind=8)/\0<x.Max:= .inr ⟨.inr k1.1,k1.2⟩;rw[if_pos k1,if_pos k2];simp only[k1,k2,decide_true,if_true,and_self,List.foldl_cons,List.foldl_nil];rw[suc1 _ _ (by omega),rm _ (by simp;omega),rm _ (by simp;omega),n1 _ (by simp;omega)];simp only[oZ3];rw[suc1 _ _ (by omega)];simp[List.foldl_append]
   . rw[if_neg k1];by_cases k2:x.Kind=9\/(x.Kind=7\/x.Kind=8)/\0<x.Max
     . rw[if_pos k2];simp only[k1,k2,decide_true,decide_false,if_true,if_false,Bool.false_eq_true,List.foldl_cons,List.foldl_nil];rw[suc1 _ _ (by omega),rm _ (by simp;omega),n1 _ (by simp;omega)];simp[List.foldl_append]
     . rw[if_neg k2];simp only[k1,k2,decide_false,if_false,Bool.false_eq_true,List.foldl_nil];rw[n1 _ (by omega)];simp
 . simp[hK]
end
abbrev In22(tw tr:List ae)(p:aw):Prop:=In2 tw p.A0/\In2 tr p.A1
abbrev nxP(tw tr:List ae)(p:aw):List aw:=vnx (ty tw p.A0) (ty tr p.A1)
theorem DV{ts:List ae}(H:DrOk ts){x:ae}(hx:x∈ts){m:av}(hm:m∈x.Members):In2 ts m.Type_:=by
 obtain⟨j,hj,rfl⟩:=List.mem_iff_getElem.1 hx;have:=H.R j hj m (by simpa[List.getD,List.getElem?_eq_getElem hj]using hm);exact⟨this.1,this.2.1⟩
theorem O6{x y:ae}{l:List av}{q:aw}(h:q∈rawL x y l):∃f∈l,∃j,fI y.Members f.ID=some j/\q=⟨f.Type_,(y.Members.getD j af).Type_⟩:=by
 unfold rawL at h;obtain⟨f,hf,h⟩:=List.mem_filterMap.1 h;cases hF:fI y.Members f.ID with
 |none=>rw[hF]at h;cases h
 |some j=>rw[hF]at h;injection h with h;exact⟨f,hf,j,hF,h.symm⟩
section
variable {tw tr:List ae} (HW:DrOk tw) (HR:DrOk tr)
include HW HR
theorem Qj{p q:aw}(hp:In22 tw tr p)(h:q∈nxP tw tr p):In22 tw tr q:=by
 have hx:=eX hp.1;have hy:=eX hp.2;unfold nxP vnx at h;generalize ty tw p.A0=x at*;generalize ty tr p.A1=y at*;by_cases hK:x.Kind=y.Kind
 . rw[if_pos hK]at h;rcases nS.1 h with h|h
   . cases h
   unfold vraw at h;rcases List.mem_append.1 h with h|h
   . rcases List.mem_append.1 h with h|h
     . obtain⟨f,hf,j,hj,rfl⟩:=O6 h;exact⟨DV HW hx hf,DV HR hy (aB (bS hj).1 af)⟩
     . unfold kyL at h;by_cases k:x.Kind=8/\0<x.Max
       . rw[if_pos k]at h;simp only[List.mem_singleton]at h;subst h;exact⟨HW.V.U _ hx _ (vd k.1),HR.V.U _ hy _ (vd (hK.symm.trans k.1))⟩
       . rw[if_neg k]at h;cases h
   . unfold elL at h;by_cases k:x.Kind=9\/(x.Kind=7\/x.Kind=8)/\0<x.Max
     . rw[if_pos k]at h;simp only[List.mem_singleton]at h;subst h;exact⟨HW.V.U _ hx _ (Bs (by omega)),HR.V.U _ hy _ (Bs (by omega))⟩
     . rw[if_neg k]at h;cases h
 . rw[if_neg hK]at h;cases h
end
theorem pig:∀(n:Nat) (l:List Nat),l.Nodup->(∀x∈l,x<n)->l.length<=n
 |0,l,_,h=>by
  cases l with
  |nil=>simp
  |cons a l=>exact absurd (h a (List.mem_cons_self ..)) (by omega)
 |n+1,l,hn,h=>by
  have h1:=pig n (l.erase n) (hn.erase n) (λx hx=>by
   have a:=h x (List.mem_of_mem_erase hx);have b:x≠n:=λe=>by subst e;exact(hn.not_mem_erase) hx
   omega)
  have h2:=@List.length_erase _ _ _ n l;rw[h2]at h1;split at h1<;>omega
theorem Cu{tw tr:List ae}(hw:tw.length<=5)(hr:tr.length<=5){l:List aw}(hn:l.Nodup)(h:∀p∈l,In22 tw tr p):l.length<=25:=by
 have:=pig 25 (l.map λp=>p.A0.toNat*5+p.A1.toNat) ?_ ?_
 . simpa using this
 . unfold List.Nodup;rw[List.pairwise_map];refine List.Pairwise.imp_of_mem (λ{a b} ha hb hne e=>hne ?_) hn;have h1:=h a ha;have h2:=h b hb;unfold In22 In2 at h1 h2;rw[ve];constructor<;>omega
 . intro x hx;obtain⟨p,hp,rfl⟩:=List.mem_map.1 hx;have h1:=h p hp;unfold In22 In2 at h1;omega
inductive Rch (tw tr:List ae) (r:aw):aw->Prop
 |root:Rch tw tr r r
 |step {p q:aw}:Rch tw tr r p->q∈nxP tw tr p->Rch tw tr r q
section
variable {tw tr:List ae} (HW:DrOk tw) (HR:DrOk tr)
include HW HR
theorem lO{r p:aw}(hr:In22 tw tr r)(h:Rch tw tr r p):In22 tw tr p:=by
 induction h with
 |root=>exact hr
 |step _ hq ih=>exact Qj HW HR ih hq
omit HW HR in
theorem vG{l:List aw}(hl:l.length<=500)(i:Int):∀(n k:Nat) (acc:List aw),k+n=l.length->acc.length+n<=1000->gn (i,l,(k:Int),tw,tr,acc)=some (i,tw,tr,(l.drop k).foldl addA acc)
 |0,k,acc,hi,ha=>by rw[List.drop_of_length_le (by omega),gn,if_neg (by simp;omega)];rfl
 |n+1,k,acc,hi,ha=>by
  have hlt:k<l.length:=by omega
  rw[rl hlt,gn,if_pos (by simp;omega),if_pos (aq hlt)];simp only[Int.toNat_natCast];rw[(in_is _ (by omega)).2.1,aC (by omega)];simp only[oZ4,oZ3,decide_true,Bool.and_true,if_true,List.foldl_cons];by_cases h:l.getD k aG∈acc
  . rw[show addA acc (l.getD k aG)=acc from if_pos h,decide_eq_true h,if_neg (by simp)];exact vG hl i n (k+1) acc (by omega) (by omega)
  . rw[show addA acc (l.getD k aG)=acc++[l.getD k aG]from if_neg h,decide_eq_false h,if_pos (show(!false)=true from rfl),if_pos (aq hlt),if_pos (bl (by omega) (by simp;omega))];exact vG hl i n (k+1) _ (by omega) (by simp;omega)
theorem Cv{p:aw}(hp:In22 tw tr p):(nxP tw tr p).length<=102:=by
 unfold nxP vnx;split
 . have:=@Bt (vraw (ty tw p.A0) (ty tr p.A1)) [];have:=Bv (x:=ty tw p.A0) (y:=ty tr p.A1) (by have:=(HW.I _ (eX hp.1)).2.2;omega);simp only[List.length_nil]at*;omega
 . simp
theorem Cw {r:aw} (hr:In22 tw tr r):∀ (k i:Nat) (acc:List aw),i+k = 26->i<=acc.length->acc.Nodup->(∀ p∈acc,Rch tw tr r p)->r∈acc->(∀ j,j<i->∀ q∈nxP tw tr (acc.getD j aG),q∈acc)->
 ∃L,iT ((i:Int),tw,tr,acc)=some L/\L.length<=25/\∀p,p∈L↔Rch tw tr r p
 |0,i,acc,hi,h1,h2,h3,h4,h5=>by
  have:=Cu HW.n5 HR.n5 h2 λp hp=>lO HW HR hr (h3 p hp)
  omega
 |k+1,i,acc,hi,h1,h2,h3,h4,h5=>by
  have h25:=Cu HW.n5 HR.n5 h2 λp hp=>lO HW HR hr (h3 p hp)
  rw[iT];by_cases hlt:i<acc.length
  . have hm:=aB hlt aG;have hp:=lO HW HR hr (h3 _ hm);have hv:=Cv HW HR hp;rw[if_pos (by simp;omega),if_pos (aq hlt)];simp only[Int.toNat_natCast];rw[if_pos (decide_eq_true hlt),if_pos (aq hlt),if_pos (decide_eq_true hlt),(uS HW HR hp.1 hp.2).2];simp only[oZ4,oZ3]
    have:=vG (tw:=tw) (tr:=tr) (l:=nxP tw tr (acc.getD i aG)) (by omega) (i:Int) _ 0 acc (Nat.zero_add _) (by omega);simp only[Int.natCast_zero,List.drop_zero]at this;rw[this];simp only[oZ3];rw[aC (by omega)];have hpre:∀(m l:List aw) (j:Nat),j<l.length->(m.foldl addA l).getD j aG=l.getD j aG/\l.length<=(m.foldl addA l).length:=by
     intro m
     induction m with
     |nil=>intro l j _;simp
     |cons a m ih=>
      intro l j hj;rw[List.foldl_cons];by_cases ha:a∈l
      . rw[show addA l a=l from if_pos ha];exact ih l j hj
      . rw[show addA l a=l++[a]from if_neg ha];have:=ih (l++[a]) j (by simp;omega);refine⟨this.1.trans ?_,by have:=this.2;simp at this;omega⟩;simp[List.getD,List.getElem?_append_left hj]
    have hpi:=hpre (nxP tw tr (acc.getD i aG)) acc i hlt;refine Cw hr k (i+1) _ (by omega) (by have:=hpi.2;omega) (L7 h2) (λp hp=>?_) (nS.2 (.inl h4)) (λj hj q hq=>?_)
    . rcases nS.1 hp with h|h
      . exact h3 p h
      . exact .step (h3 _ hm) h
    . rw[(hpre _ acc j (by omega)).1]at hq;by_cases e:j=i
      . subst e;exact nS.2 (.inr hq)
      . exact nS.2 (.inl (h5 j (by omega) q hq))
  . rw[if_neg (by simp;omega)];refine⟨acc,rfl,h25,λp=>⟨h3 p,λh=>?_⟩⟩
    induction h with
    |root=>exact h4
    |step _ hq ih=>
     obtain⟨j,hj,e⟩:=List.mem_iff_getElem.1 ih;exact h5 j (by omega) _ (by simpa[List.getD,List.getElem?_eq_getElem hj,e]using hq)
theorem L8{r:aw}(hr:In22 tw tr r):∃L,po ((⟨tw⟩:au),r.A0,(⟨tr⟩:au),r.A1)=some L/\L.length<=25/\∀p,p∈L↔Rch tw tr r p:=by
 obtain⟨L,h1,h2⟩:=Cw HW HR hr 26 0 [r] (by omega) (by simp) (by simp) (by simp;exact .root) (by simp) (λj hj=>by omega);refine⟨L,?_,h2⟩;rw[po];have h1':iT (0,tw,tr,[(⟨r.A0,r.A1⟩:aw)])=some L:=h1;simp only[h1'];rfl
noncomputable abbrev rsP (tw tr:List ae) (p:aw):Int:=rsn tw tr p.A0 p.A1
theorem Cx{l:List aw}(hl:l.length<=1000)(hin:∀p∈l,In22 tw tr p):∀(k i:Nat),i+k=l.length->((∀p∈l.drop i,rsP tw tr p=0)/\gN (l,(i:Int),tw,tr)=some (.inr ()))\/(¬(∀p∈l.drop i,rsP tw tr p=0)/\gN (l,(i:Int),tw,tr)=some (.inl false))
 |0,i,hi=>.inl ⟨by rw[List.drop_of_length_le (by omega)];simp,by rw[gN,if_neg (by simp;omega)]⟩
 |k+1,i,hi=>by
  have hlt:i<l.length:=by omega
  have hp:=hin _ (aB hlt aG);have ih:=Cx hl hin k (i+1) (by omega);rw[rl hlt,gN,if_pos (by simp;omega),if_pos (aq hlt),if_pos (aq hlt)];simp only[Int.toNat_natCast];rw[(uQ HW HR hp.1 hp.2).2,aC (by omega)];simp only[oZ4,oZ3,List.forall_mem_cons];by_cases h:rsP tw tr (l.getD i aG)=0
  . have h':rsn tw tr (l.getD i aG).A0 (l.getD i aG).A1=0:=h;rw[if_neg (by rw[decide_eq_true h'];simp)]
    simpa only[h,true_and]using ih
  . have h':¬rsn tw tr (l.getD i aG).A0 (l.getD i aG).A1=0:=h;rw[if_pos (by rw[decide_eq_false h'];rfl)];exact .inr ⟨λx=>h x.1,rfl⟩
omit HR in
theorem Cy{t:Int}(ht:In2 tw t):mH ((⟨tw⟩:au),t)=some 0:=by
 rw[mH,Ao HW];unfold In2 at ht;have c1:¬t<0:=by omega
 have c2:¬(tw.length:Int)<=t:=by omega
 simp[c1,c2]
omit HR in
theorem Cz{t:Int}(ht:In2 tw t):mB ((⟨tw⟩:au),t)=some 0:=by
 rw[mB,Nj HW];unfold In2 at ht;have c1:¬t<0:=by omega
 have c2:¬(tw.length:Int)<=t:=by omega
 simp[c1,c2]
omit HR in
theorem Bw{t:Int}(ht:In2 tw t):mR (⟨⟨tw⟩,t⟩:aI)=some true:=by
 rw[mR,Ao HW];unfold In2 at ht;simp[ht.1,ht.2]
theorem CA{p:aw}(hp:In22 tw tr p):mS ((⟨⟨tw⟩,p.A0⟩:aI),(⟨⟨tr⟩,p.A1⟩:aI))=some 0:=by
 rw[mS];simp only[Cy HW hp.1,Cy HR hp.2];rfl
theorem Bx{p:aw}(hp:In22 tw tr p):ml ((⟨⟨tw⟩,p.A0⟩:aI),(⟨⟨tr⟩,p.A1⟩:aI))=some 0:=by
 rw[ml];simp only[Cz HW hp.1,Cz HR hp.2];rfl
theorem Qk{r:aw}(hr:In22 tw tr r):∃b,pb ((⟨⟨tw⟩,r.A0⟩:aI),(⟨⟨tr⟩,r.A1⟩:aI))=some (b,0)/\(b=true↔∀p,Rch tw tr r p->rsP tw tr p=0):=by
 obtain⟨L,h1,h2,h3⟩:=L8 HW HR hr;have hin:∀p∈L,In22 tw tr p:=λp hp=>lO HW HR hr ((h3 p).1 hp)
 have hf:=Cx HW HR (by omega) hin L.length 0 (by omega);simp only[Int.natCast_zero,List.drop_zero]at hf;rw[pb];simp only[Bx HW HR hr,oZ4,oZ3];rw[if_neg (by simp),sA];simp only[h1,oZ4,oZ3];rcases hf with⟨f1,f2⟩|⟨f1,f2⟩
 . rw[f2];exact⟨true,rfl,by simp only[true_iff];exactλp hp=>f1 p ((h3 p).2 hp)⟩
 . rw[f2];exact⟨false,rfl,by simp only[Bool.false_eq_true,false_iff];exactλh=>f1 λp hp=>h p ((h3 p).1 hp)⟩
end
section
variable {tw tr:List ae} (HW:DrOk tw) (HR:DrOk tr)
include HW HR
abbrev rtW(ts:List ae)(t:Int):aI:=⟨⟨ts⟩,t⟩
theorem O7{r x:aw}(hx:In22 tw tr x):pz ((⟨rtW tw r.A0,rtW tr r.A1⟩:bp),x)=some (decide (rsP tw tr x=0)):=by
 rw[pz];show(pV ((⟨tw⟩:au),x.A0,(⟨tr⟩:au),x.A1)>>=_)=_;rw[pV];simp only[CA HW HR hx,(uQ HW HR hx.1 hx.2).1,oZ4,oZ3];simp
theorem O8{r x:aw}(hx:In22 tw tr x):pA ((⟨rtW tw r.A0,rtW tr r.A1⟩:bp),x)=some (nxP tw tr x):=by
 rw[pA];show(pn ((⟨tw⟩:au),x.A0,(⟨tr⟩:au),x.A1)>>=_)=_;rw[pn];simp only[CA HW HR hx,(uS HW HR hx.1 hx.2).1,oZ4,oZ3,decide_true,Bool.not_true,Bool.false_eq_true,if_false]
end
structure Case20In (c:dD):Prop where
 d:DOk c.S
 n:NsOk c.S.Nodes
 l:c.L.length<=reachBytes
 ch:∀x,x∈c.L->ChOk x
 t:U8 c.T
 u:U8 c.U
theorem of20{c:dD}(h:Case20In c):(∃w r,mE c=some (w,r,false))\/∃tw tr r,mE c=some (rtW tw r.A0,rtW tr r.A1,true)/\DrOk tw/\DrOk tr/\In22 tw tr r:=by
 obtain⟨d',d1,d3,d2⟩:=L5 h.n h.l h.ch;rw[mE];rcases of_ok h.d with e|⟨tw,e,HW⟩
 . rw[e];simp only[oZ4,oZ3];rw[d2];simp only[oZ3];rcases of_ok d1.dok with e'|⟨l,e',_⟩<;>rw[e']<;>exact .inl ⟨_,_,rfl⟩
 . rw[e];simp only[oZ4,oZ3];rw[d2];simp only[oZ3];rcases of_ok d1.dok with e'|⟨tr,e',HR⟩
   . rw[e'];exact .inl ⟨_,_,rfl⟩
   . rw[e'];simp only[oZ3,Bool.not_true,cond_false];by_cases h5:5<(c.L.length:Int)
     . rw[if_pos (decide_eq_true h5)];exact .inl ⟨_,_,rfl⟩
     rw[if_neg (by simpa using h5)];have n1:=HW.n1;have n2:=HR.n1;have n3:=HW.n5;have n4:=HR.n5;have t8:=h.t;have u8:=h.u;unfold U8 at t8 u8;have z1:¬(tw.length:Int)=0:=by omega
     have z2:¬(tr.length:Int)=0:=by omega
     have m1:=Int.emod_nonneg c.T z1;have m2:=Int.emod_lt_of_pos c.T (show(0:Int)<tw.length by omega);have e1:remI (wrp .i64 c.T) (tw.length:Int)=c.T%(tw.length:Int):=by rw[cX ⟨by omega,by omega⟩,bV t8.1 (by omega)]
     generalize c.T%(tw.length:Int)=t at*;have e2:remI (addI .i64 t (wrp .i64 c.U)) (tr.length:Int)=(t+c.U)%(tr.length:Int):=by rw[cX ⟨by omega,by omega⟩,ct (by omega) (by omega),bV (by omega) (by omega)]
     have m3:=Int.emod_nonneg (t+c.U) z2;have m4:=Int.emod_lt_of_pos (t+c.U) (show(0:Int)<tr.length by omega);refine .inr ⟨tw,tr,⟨t,(t+c.U)%(tr.length:Int)⟩,?_,HW,HR,⟨⟨m1,m2⟩,⟨m3,m4⟩⟩⟩;rw[if_pos (by rw[decide_eq_false z1];rfl),e1,if_pos (by rw[decide_eq_false z2];rfl),e2]
theorem Ol{c:dD}(h:∀d,d∈Un.flds sq c->WF Un d):Case20In c:=by
 have c1:=h ⟨.slice (.nm mh),c.S.Nodes⟩ (.head _);have c2:=h ⟨.slice (.nm vX),c.L⟩ (.tail _ (.head _));obtain⟨a,_,e⟩:=nO (t:= .nm vX) c2;have u8:∀{n:Int},WF Un ⟨.int .u8,n⟩->U8 n:=wfU8;refine⟨Cf c1,O2 c1,a,λx hx=>?_,u8 (h ⟨.int .u8,c.T⟩ (.tail _ (.tail _ (.head _)))),u8 (h ⟨.int .u8,c.U⟩ (.tail _ (.tail _ (.tail _ (.head _)))))⟩;have hq:=e x hx
 exact⟨u8 (hq ⟨.int .u8,x.Kind⟩ (.head _)),u8 (hq ⟨.int .u8,x.Node⟩ (.tail _ (.head _))),u8 (hq ⟨.int .u8,x.A⟩ (.tail _ (.tail _ (.head _)))),u8 (hq ⟨.int .u8,x.B⟩ (.tail _ (.tail _ (.tail _ (.head _)))))⟩
theorem Ql{l:List aw}(hl:l.length<=1000):bg 16 l=some l:=by unfold bg;rw[if_pos (fS (bl (by omega) (by omega)))]
section
variable {tw tr:List ae} (HW:DrOk tw) (HR:DrOk tr)
include HW HR
theorem CB {r:aw} (hr:In22 tw tr r) {l:List aw} (hl:l.length<=100000):∀ (k i:Nat),1<=i->i+k = l.length->Rch tw tr r (l.getD (i-1) aG)->
 (eM (l,(i:Int),tw,r.A0,tr,r.A1)=some (.inl false)/\eB (l,(i:Int),rtW tw r.A0,rtW tr r.A1)=some (.inl false))\/
 (eM (l,(i:Int),tw,r.A0,tr,r.A1)=some (.inr (l,tw,r.A0,tr,r.A1))/\eB (l,(i:Int),rtW tw r.A0,rtW tr r.A1)=some (.inr (l,rtW tw r.A0,rtW tr r.A1))/\Rch tw tr r (l.getD (l.length-1) aG))
 |0,i,h1,hi,hq=>.inr ⟨by rw[eM,if_neg (by simp;omega)],by rw[eB,if_neg (by simp;omega)],by rw[show l.length-1=i-1 by omega];exact hq⟩
 |k+1,i,h1,hi,hq=>by
  have hlt:i<l.length:=by omega
  have hx:=lO HW HR hr hq;have e1:subI .i64 (i:Int) 1=((i-1:Nat):Int):=by
   show IntKind.wrap .i64 _=_;rw[IntKind.wrap_i64];omega
  have n1:=O8 HW HR (r:=r) hx;have n2:=(uS HW HR hx.1 hx.2).2;have hv:=Cv HW HR hx;have c1:=in_is (l:=nxP tw tr (l.getD (i-1) aG)) (l.getD i aG) (by omega);rw[eM,if_pos (by simp;omega),eB,if_pos (by simp;omega),e1];simp only[oZ4,oZ3,aq hlt,aq (show i-1<l.length by omega),if_true,Int.toNat_natCast];rw[n1,n2]
  simp only[oZ3];have c1':mN (vnx (ty tw (l.getD (i-1) aG).A0) (ty tr (l.getD (i-1) aG).A1),l.getD i aG)=_:=c1.1;have c2':lS (vnx (ty tw (l.getD (i-1) aG).A0) (ty tr (l.getD (i-1) aG).A1),l.getD i aG)=_:=c1.2.2.1;rw[c1',c2',aC (by omega)];by_cases h:l.getD i aG∈nxP tw tr (l.getD (i-1) aG)
  . rw[decide_eq_true h];have:=CB hr hl k (i+1) (by omega) (by omega) (.step hq h)
    simpa only[oZ3,Bool.not_true,Bool.false_eq_true,if_false]using this
  . rw[decide_eq_false h];exact .inl ⟨rfl,rfl⟩
theorem Nn{r:aw}(hr:In22 tw tr r){l:List aw}(hl:l.length<=100000):∃b,ql (rtW tw r.A0,rtW tr r.A1,l)=some b/\pQ (rtW tw r.A0,rtW tr r.A1,l)=some b/\(b=true->∃p,Rch tw tr r p/\¬rsP tw tr p=0):=by
 rw[ql,pQ];simp only[Bw HW hr.1,Bw HR hr.2,Bx HW HR hr,si,oZ4,oZ3,Bool.not_true,Bool.not_false,if_true,cond_false,decide_true];by_cases h0:l.length=0
 . have e0:decide ((l.length:Int)=0)=true:=by simp[h0]
   simp only[e0,Bool.not_true,Bool.not_false,Bool.or_true,if_true,cond_true,Bool.false_eq_true,if_false,oZ3];exact⟨false,rfl,rfl,λh=>by cases h⟩
 . have e0:decide ((l.length:Int)=0)=false:=decide_eq_false (by omega);have hz:inR 0 l.length=true:=aq (k:=0) (by omega);simp only[e0,hz,Bool.not_true,Bool.not_false,Bool.true_or,if_true,cond_false,Bool.false_eq_true,if_false,oZ3]
   show ∃b,(if(!(eqI (l.getD 0 aG).A0 r.A0&&(eqI (l.getD 0 aG).A1 r.A1&&true)))=true then _ else _)=some b/\(if(!(eqI (l.getD 0 aG).A0 r.A0&&(eqI (l.getD 0 aG).A1 r.A1&&true)))=true then _ else _)=some b/\_;by_cases hq:l.getD 0 aG=r
   . have he:(!(eqI (l.getD 0 aG).A0 r.A0&&(eqI (l.getD 0 aG).A1 r.A1&&true)))=false:=by rw[eqA,decide_eq_true hq];rfl
     rw[if_neg (by rw[he];simp),if_neg (by rw[he];simp)];have:=CB HW HR hr hl (l.length-1) 1 (Nat.le_refl 1) (by omega) (by show Rch tw tr r (l.getD 0 aG);rw[hq];exact .root);rcases this with⟨a1,a2⟩|⟨a1,a2,a3⟩
     . have a1':eM (l,1,tw,r.A0,tr,r.A1)=_:=a1;have a2':eB (l,1,rtW tw r.A0,rtW tr r.A1)=_:=a2;rw[a1',a2'];exact⟨false,rfl,rfl,λh=>by cases h⟩
     . have a1':eM (l,1,tw,r.A0,tr,r.A1)=_:=a1;have a2':eB (l,1,rtW tw r.A0,rtW tr r.A1)=_:=a2;have hx:=lO HW HR hr a3;have e1:subI .i64 (l.length:Int) 1=((l.length-1:Nat):Int):=by
        show IntKind.wrap .i64 _=_;rw[IntKind.wrap_i64];omega
       rw[a1',a2'];simp only[oZ3,e1,aq (show l.length-1<l.length by omega),if_true,Int.toNat_natCast];rw[O7 HW HR (r:=r) hx,(uQ HW HR hx.1 hx.2).2];exact⟨!decide (rsP tw tr (l.getD (l.length-1) aG)=0),rfl,rfl,λh=>⟨_,a3,by simpa using h⟩⟩
   . have he:(!(eqI (l.getD 0 aG).A0 r.A0&&(eqI (l.getD 0 aG).A1 r.A1&&true)))=true:=by rw[eqA,decide_eq_false hq];rfl
     rw[if_pos he,if_pos he];exact⟨false,rfl,rfl,λh=>by cases h⟩
end
theorem No{c:dD}(hc:Case20In c)(l:List aw):o9 (c,l)=some true:=by
 rw[o9];rcases of20 hc with⟨w,r,e⟩|⟨tw,tr,r,e,HW,HR,hr⟩
 . rw[e];simp only[oZ4,oZ3,vO];rfl
 . rw[e];simp only[oZ4,oZ3,vO,Bool.not_true,cond_false];by_cases h:40<(l.length:Int)
   . rw[if_pos (by simpa using h)]
   rw[if_neg (by simpa using h)];obtain⟨b,b1,b2⟩:=Qk HW HR hr;obtain⟨a,a1,a2,a3⟩:=Nn HW HR hr (l:=l) (by omega);simp only[Ql (l:=l) (by omega),a1,a2,b1,oZ3];cases a with
   |false=>rfl
   |true=>
    obtain⟨p,p1,p2⟩:=a3 rfl;have hb:b=false:=by
     cases b with
     |false=>rfl
     |true=>exact absurd (b2.1 rfl p p1) p2
    rw[hb];rfl
theorem law_CertifyPath(h:Hs Un.D [.nm sq,.slice (.nm zQ)])(hk:Ok Un [.nm sq,.slice (.nm zQ)] h):o9 h=some true:=match h,hk with
 |(c,L),hk=>No (Ol (Qb hk)) L
end
end Go.Proofs.YtkbmjabicjpmjaaGreatDoor
