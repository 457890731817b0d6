/- The library of this proof, part B: an abstract machine for the code of the program, and its soundness. -/
import Derived.Lib.UnsafeStr
import Derived.ChangeKeysEq
import Derived.Orders
import Derived.LoopN
import Derived.Test.YtkbmjabicjpmjaaGreatDoorCuLA

namespace Go.Proofs.YtkbmjabicjpmjaaGreatDoor.Shv
set_option linter.all false
section
open Go
variable [GV]
theorem C.bnd_true(c:C):c.bnd (fun _=>true)=true:=by cases c <;> simp[C.bnd]
section
variable {P:Program} {Γ:Ctx} {nt kk:Nat} {φ:Phi} {S S':Stab} {env:Env} {J:Store} {N key:Nat} {n:Nat->Bool} {a:Act} {w w':World}
theorem Rel.extend(R:Rel Γ nt φ S env J n a w)(e:Ext (fun _=>False) S S' w w')(hst:∀b j,S' b j->b < w'.heap.size):Rel Γ nt φ S' env J n a w':=by
 have hh:=fun b hb=>e.block b hb (fun h=>h)
 have hns:∀b x,sget J b=some x->(φ b).2≠0->∀j,¬S' (φ b).1 j:=by
  intro b x hx h0 j hj;have hB:=R.sim.blk b x hx;rcases e.snew _ _ hj with h | h | h
  . exact hB.notS h0 j h
  . grind
  . have:=hB.real_lt h0;omega
 refine⟨⟨fun b x hx=>?_,R.sim.inj,hst⟩,fun k g v hl hg=>?_,R.envn,R.ebnd,R.sbnd,R.size,R.defers,?_,R.own,R.fix,R.kn⟩
 . have hB:=R.sim.blk b x hx;cases x with
   | box cs=>
    obtain⟨h0,vs,E,h1,h2,h3⟩:=hB;refine⟨h0,vs,E,(hh _ (cg h1)).trans h1,h2.imp fun c v hc hr=>RC.mono e.mono (fun _ _=>rfl) (C.bnd_true _) hr,hns b _ hx h0⟩
   | arr sz es=>
    obtain⟨h1,h2,h3,h4,h5⟩:=hB;refine⟨h1,h2,h3,h4,fun h0=>?_⟩;obtain⟨vs,E,k1,k2,k3,k4⟩:=h5 h0;exact⟨vs,E,(hh _ (cg k1)).trans k1,k2,fun i j e' t he ht=>let⟨v,hv,hr⟩:=k3 i j e' t he ht;⟨v,hv,RT.mono e.mono hr⟩,hns b _ hx h0⟩
   | set ks=>
    obtain⟨h0,⟨es,c,h1,h2⟩,h3⟩:=hB;exact⟨h0,⟨es,c,(hh _ (cg h1)).trans h1,h2⟩,hns b _ hx h0⟩
   | buf E s=>
    obtain⟨h1,h2,h3⟩:=hB;refine⟨h1,h2,fun h0=>?_⟩
    grind
   | bld E c=>
    obtain⟨h0,⟨p,v,h1,h2,h3⟩,h4⟩:=hB;exact⟨h0,⟨p,v,(hh _ (cg h1)).trans h1,h2,RC.mono e.mono (fun _ _=>rfl) (C.bnd_true _) h3⟩,hns b _ hx h0⟩
   | arro sz es i o c=>
    obtain⟨⟨h1,h2,h3,h4,h5,h6⟩,⟨vs,E,k1,k2,k3,v,k4,k5⟩,k6⟩:=hB;exact⟨⟨h1,h2,h3,h4,h5,h6⟩,⟨vs,E,(hh _ (cg k1)).trans k1,k2,fun i j e' t he ht hn=>let⟨v,hv,hr⟩:=k3 i j e' t he ht hn;⟨v,hv,RT.mono e.mono hr⟩,v,k4,RC.mono (n:=fun _=>true) e.mono (fun _ _=>rfl) (C.bnd_true _) k5⟩,hns b _ hx (by omega)⟩
 . obtain⟨x,hx,hr⟩:=R.envs k g v hl hg;exact⟨x,hx,RV.mono e.mono (fun _ _=>rfl) (R.ebnd k g v hl hg) hr⟩
 . refine⟨e.os.trans R.ext.os,e.tape.trans R.ext.tape,e.output.trans R.ext.output,Nat.le_trans R.ext.size e.size,fun b hlt hB=>?_,R.ext.mono.trans e.mono,fun b j hj=>?_⟩
   . exact(hh b (Nat.lt_of_lt_of_le hlt R.ext.size)).trans (R.ext.block b hlt hB)
   . rcases e.snew _ _ hj with h | h | h
     . exact R.ext.snew b j h
     . grind
     . exact .inr (.inr (Nat.le_trans R.ext.size h))
theorem rH (R : Rel Γ nt φ S env J n a w) {o : Oper} {ty : TypeId} {len : Nat} {parts : Array (Nat×Operand)} (ho : o.op = .buildSlice ty len parts) {e : TypeId} (hty : P.underlying ty = some (.slice e)) {sz : Nat} (hsz : sizeT P e = some sz)
 {z:List C} (hz:zeroC P e=some z) {ps:List (Nat×AO)} (hps:cM parts.toList=some ps) (h0:sz≠0) (hzl:z.length=sz) (hle:len*sz<=2 ^ 24)
 {p v J'} (hk:n key=false) (h:aval (.bsliceT e sz len z ps) env J key=some (p,v,J')) (hp:p):Good P Γ nt env J' (ins n key) a v ((execOp a.eval o).run P w):=by
 simp only[aval,oZ2,oZ1,Prod.mk.injEq]at h;obtain⟨zt,hzt,⟨q,ds⟩,hb,rfl,rfl,rfl⟩:=h;obtain⟨i,zv,hi,hzv,hall,hbn⟩:=dC (φ:=φ) (w:=w) (S:=S) (n:=n) hz;have hzr:=c8 hzt hall;have hzl':zv.cells.size=sz:=by rw[<-Array.length_toList,<-hall.length,hzl]
 have hz0:0 < sz:=by omega
 have hztl:zt.length=sz:=by grind[ei]
 obtain ⟨us, h1, h2, h3, h4, h5, _⟩ := ji R hz0 hps hb hp (es := List.replicate len zt) (vs := ((Array.range (len * sz)).map (zv.cells[· % zv.cells.size]!)).toList) (by
  grind) (by simp) (by
  intro i j e t he ht;have:e=zt:=by
   grind
  subst this;obtain⟨x,hx,hr⟩:=hzr.get ht
  grind[jy])
 simp at h3;have hlen:len<=az:=by
  have:len<=len*sz:=Nat.le_mul_of_pos_right len hz0
  grind[az]
 have hst:=R.sim.st;have m0:Mono w S (w.alloc (.cells us.toArray e)) (fun b j=>S b j\/b=w.heap.size):=⟨fun _ _ h=>.inl h,fun b j h=>cd (heap_alloc_lt (hst b j h)) j⟩
 have E1:Ext (fun _=>False) S _ w (w.alloc (.cells us.toArray e)):=
  ⟨rfl,rfl,rfl,by simp,fun b hb _=>heap_alloc_lt hb,m0,fun b j h=>by grind⟩
 have R1:=R.extend E1 (fun b j h=>by
  rcases h with h | h
  . have:=hst b j h;simp;omega
  simp_all)
 refine⟨.slice (some ⟨w.heap.size,0,none⟩) len len,φ,_,_,.inl ?_,?_,rfl,R1.more fun _ h=>bq h⟩
 . have h1':Instr.fill (fun i=>some (i*sz,sz)) ((Array.range (len*sz)).map (zv.cells[· % zv.cells.size]!)) ((parts.map fun(i,x)=>(i,a.eval x)).toList)=some us.toArray:=by
    rw[Array.toList_map];omega
   simp_all[lB,execOp,Sem.run_bind,Result.andThen_ok]
 . refine .c ?_;have hds:ds.length=len:=h3;rw[<-hds]at hlen ⊢;have hget:∀j,(w.alloc (.cells us.toArray e)).cell? _=us[j]?:=fun j=>bc heap_alloc_new j
   refine RT.slice ds _ _ sz w.heap.size 0 (fun i j=>(us[i*sz+j]?).getD undef) (Nat.le_refl _) hlen h2 (fun _=>rfl) (fun i j hi hj=>⟨.inr rfl,?_⟩) (fun i j e' t he ht=>?_)
   . rw[Nat.zero_add,hget];have hlt:i*sz+j < us.length:=by
      have:=Nat.mul_le_mul_right sz (show i+1<=ds.length from hi)
      grind
     grind
   . obtain⟨v,hv,hr⟩:=h5 i j e' t he ht
     grind[RT.mono]
theorem q8{ty:TypeId}{e8:Nat}(h:fB P ty=some e8):∃i z,P.info? ty=some i/\i.zero=some z/\z.cells=#[.pointer none,.slice none 0 0]:=by
 grind[fB,pf,oZ2,mh]
theorem r0 (R : Rel Γ nt φ S env J n a w) {o : Oper} {ty : TypeId} (ho : o.op = .alloc ty) {e8 : Nat} (hb8 : fB P ty = some e8)
 {p v J'} (hk:n key=false) (hk1:n (key+1)=false) (h:aval (.allocS ty e8) env J key=some (p,v,J')) (hp:p):Good P Γ nt env J' (ins (ins n (key+1)) key) a v ((execOp a.eval o).run P w):=by
 obtain⟨rfl,rfl,rfl⟩:=h;obtain⟨i,z,hi,hz,hzc⟩:=q8 hb8;have hnotS:∀j,¬S w.heap.size j:=fun j h=>by have:=R.sim.st _ _ h;omega
 have R1:=(R.alloc (.cells #[.pointer none,.slice none 0 0] ty)).newkey hk1 (x:= .buf e8 []) (0,0) rfl (by simp[RB,aw]) (by simp);have hk':ins n (key+1) key=false:=by grind[ins]
 have R2:=R1.newkey hk' (x:= .bld ty (.bufc (key+1) 0)) (w.heap.size,1) (by simp[Blk.bnd,C.bnd,ins]) (by
  grind[RB,heap_alloc_new,RC,upd]) (fun _=>⟨fun k y hy h0=>by
   rw[ag]at hy;split at hy
   . grind[aw]
   . rename_i hne;have h0':(φ k).2≠0:=by simp_all[upd,Ne.symm]
     have:=(R.sim.blk k y hy).real_lt h0';simp[upd,Ne.symm hne]
     omega,.inr R.ext.size⟩)
 refine⟨.pointer (some ⟨w.heap.size,0,none⟩),_,S,_,.inl ?_,.c ?_,by simp[V.bnd,C.bnd,ins],R2⟩
 . simp_all[execOp,Instr.alloc,zeroValue,typeInfo,newVar,newRow]
 grind[RC,aw]
theorem lZ{t:TypeId}(h:dG P t=true):∃k v i,P.underlying t=some (.map k v)/\P.underlying k=some .string/\P.info? v=some i/\i.zero=some (.bool false):=by
 grind[dG,oZ2]
theorem sG (R : Rel Γ nt φ S env J n a w) {o : Oper} {t : TypeId} (ho : o.op = .makeMap t none)
 {p v J'} (hk:n key=false) (h:aval .mkset env J key=some (p,v,J')) (hp:p):Good P Γ nt env J' (ins n key) a v ((execOp a.eval o).run P w):=by
 obtain⟨rfl,rfl,rfl⟩:=h;have hnotS:∀j,¬S w.heap.size j:=fun j h=>by have:=R.sim.st _ _ h;omega
 have R2:=(R.alloc _).newkey hk (x:= .set []) (w.heap.size,1) rfl (by
  simp only[RB,aw]
  exact⟨by simp,⟨[],0,heap_alloc_new,.nil⟩,hnotS⟩) (fun _=>⟨fun k y hy h0=>by
   have:=(R.sim.blk k y hy).real_lt h0
   omega,.inr R.ext.size⟩)
 refine⟨.map (some w.heap.size),_,S,_,.inl ?_,.c ?_,by simp[V.bnd,C.bnd,ins],R2⟩
 . simp[execOp,ho,Instr.makeMap]
 grind[RC,aw]
theorem r4{s:ByteArray}{k:List UInt8}:(s==(⟨k.toArray⟩:ByteArray))=decide (k=s.data.toList):=by
 grind[beq_toListBytes,ByteArray.toList_eq]
theorem jz (s : ByteArray): ∀ {ks : List (List UInt8)} {es : List MapEntry} (i : Nat), setEs ks es ->
 (hasS ks s.data.toList=false/\Instr.findNow .string (.string s) es i=some none)\/
 (hasS ks s.data.toList=true/\∃j e,Instr.findNow .string (.string s) es i=some (some (i+j,.bool true))/\es[j]?=some e/\e.key= .string s/\e.val= .bool true)
 | _,_,i,.nil=>.inl ⟨rfl,rfl⟩
 | k::ks,e::es,i,.cons h hr=>by
  obtain⟨h1,h2⟩:=h;have hb:(s==⟨k.toArray⟩)=decide _:=r4;by_cases hks:k=s.data.toList
  . refine .inr ⟨by grind[hasS],0,e,?_,rfl,?_,h2⟩
    . simp_all[Instr.findNow,Instr.sameNow]
    simp_all
  . rcases jz s (i+1) hr with⟨g1,g2⟩ | ⟨g1,j,e',g2,g3,g4,g5⟩
    . grind[hasS,Instr.findNow,Instr.sameNow]
    . refine .inr ⟨by grind[hasS],j+1,e',?_,by grind,g4,g5⟩
      grind[Instr.findNow,Instr.sameNow]
theorem gL{kt:TypeId}(hk:P.underlying kt=some .string){s:ByteArray}{es:List MapEntry}{r:Option (Nat×Value)}(h:Instr.findNow .string (.string s) es 0=some r)(w:World):(Instr.findKey kt (.string s) es).run P w= .ok r w:=by
 simp_all[Instr.findKey,run_underlying]
theorem gG{kt:TypeId}(hk:P.underlying kt=some .string){s:ByteArray}(b:Bool)(w:World):(Instr.checkKey b 10000 kt (.string s)).run P w= .ok () w:=by
 unfold Instr.checkKey;simp[run_underlying hk]
theorem da{b:Nat}{es:Array MapEntry}{c:Nat}(h:w.heap[b]?=some (.map es c)):(getObj b).run P w= .ok (.map es c) w:=by grind[getObj,Sem.run]
theorem gP{b:Nat}{es:Array MapEntry}{c:Nat}(o:Obj)(h:w.heap[b]?=some (.map es c)):(setObj b o).run P w= .ok () {w with heap:=w.heap.setIfInBounds b o}:=by
 grind[setObj,Sem.run]
theorem sH (R : Rel Γ nt φ S env J n a w) {o : Oper} {t : TypeId} {x k : Operand} (ho : o.op = .lookup t x k false) (ht : dG P t = true) {ax ak : AO} (hx : opd x = some ax) (hkk : opd k = some ak)
 {p v J'} (hk:n key=false) (h:aval (.lkset ax ak) env J key=some (p,v,J')) (hp:p):Good P Γ nt env J' (ins n key) a v ((execOp a.eval o).run P w):=by
 simp only[aval,oZ2]at h;obtain⟨⟨px,vx⟩,hgx,⟨pk,vk⟩,hgk,he⟩:=h;simp at he;obtain⟨kt,vt,i,hu,hku,hi,hz⟩:=lZ ht;split at he
 . split at he
   . rename_i ks hJ;obtain⟨rfl,rfl,rfl⟩:=he;have h1:a.eval x= .map _:=(ae R hx hgx hp.1).1.c_inv;obtain⟨bs,h2,rfl,_⟩:=RV.str_inv (ae R hkk hgk hp.2).1;obtain⟨h0,⟨es,clk,hh,hes⟩,hns⟩:=R.sim.blk _ _ hJ;refine Good.pure R ?_ (.boolI _) rfl;have hzr:(zeroValue vt).run P w= .ok (.bool false) w:=by simp_all[zeroValue,typeInfo]
     have hf:=jz bs 0 hes;rcases hf with⟨g1,g2⟩ | ⟨g1,j,e,g2,_⟩
     . simp[execOp,ho,h1,h2,Instr.lookup,run_underlying hu,da hh,gG hku,gL hku g2,hzr,g1]
     . simp[execOp,ho,h1,h2,Instr.lookup,run_underlying hu,da hh,gG hku,gL hku g2,g1]
   grind
 grind
theorem tB{ks:List (List UInt8)}{es:List MapEntry}(h:setEs ks es)(s:ByteArray)(clk:Nat):setEs (ks++[s.data.toList]) (es++[{key:= .string s,val:= .bool true,born:=clk}]):=
 h.append (.cons ⟨by rfl,rfl⟩ .nil)
theorem All2.modify{α β:Type}{R:α->β->Prop}{f:β->β}:∀{l:List α} {m:List β} {j:Nat},All2 R l m->(∀a b,R a b->m[j]?=some b->R a (f b))->All2 R l (m.modify j f)
 | _,_,_,.nil,_=>by simpa using All2.nil
 | _,_,0,.cons h hr,k=>.cons (k _ _ h rfl) hr
 | _,_,j+1,.cons h hr,k=>by
  exact .cons h (All2.modify hr fun a b hab hb=>k a b hab (by grind))
theorem sI (R : Rel Γ nt φ S env J n a w) {o : Oper} {t : TypeId} {x k v0 : Operand} (ho : o.op = .mapUpdate t x k v0) (ht : dG P t = true) (hv0 : jw v0 = true) {ax ak : AO} (hx : opd x = some ax) (hkk : opd k = some ak)
 {p v J'} (hk:n key=false) (h:aval (.upset ax ak) env J key=some (p,v,J')) (hp:p):Good P Γ nt env J' (ins n key) a v ((execOp a.eval o).run P w):=by
 simp only[aval,oZ2]at h;obtain⟨⟨px,vx⟩,hgx,⟨pk,vk⟩,hgk,he⟩:=h;simp only at he;obtain⟨kt,vt,i,hu,hku,hi,hz⟩:=lZ ht;have hv1:a.eval v0= .bool true:=by
  unfold jw at hv0;split at hv0
  . rfl
  grind
 split at he
 . rename_i b s;split at he
   . rename_i ks hJ;obtain⟨rfl,rfl,rfl⟩:=he;have h1:a.eval x= .map _:=(ae R hx hgx hp.1).1.c_inv;obtain⟨bs,h2,rfl,_⟩:=RV.str_inv (ae R hkk hgk hp.2).1;obtain⟨h0,⟨es,clk,hh,hes⟩,hns⟩:=R.sim.blk _ _ hJ;have hlt:=cg hh
     have key_:∃es' clk',(execOp a.eval o).run P w= .ok .skip {w with heap:=w.heap.setIfInBounds (φ b).1 (.map es' clk')}/\setEs (addS ks bs.data.toList) es'.toList:=by
      have hf:=jz bs 0 hes;rcases hf with⟨g1,g2⟩ | ⟨g1,j,e,g2,g3,g4,g5⟩
      . refine⟨es.toArray.push {key:= .string bs,val:= .bool true,born:=clk},clk+1,?_,?_⟩
        . simp[execOp,ho,h1,h2,hv1,Instr.mapUpdate,run_underlying hu,da hh,gG hku,gL hku g2,gP _ hh]
        . simp only[addS,g1,if_false]
          simpa using tB hes bs clk
      . refine⟨es.toArray.modify j fun e=>{e with key:= .string bs,val:= .bool true},clk,?_,?_⟩
        . have hsb:Instr.sameBits 10000 (Value.string bs) (Value.string bs)=true:=by
           simp only[Instr.sameBits];rw[beq_toListBytes];simp
          have hks:∀w,(Instr.keyThatStays (Value.string bs) (Value.string bs)).run P w= .ok (Value.string bs) w:=by intro w;unfold Instr.keyThatStays;rw[hsb];rfl
          simp[execOp,ho,h1,h2,hv1,Instr.mapUpdate,run_underlying hu,da hh,gG hku,gL hku g2,gP _ hh,g3,g4,hks]
        . simp only[addS,g1,if_true];rw[Array.toList_modify];refine All2.modify hes fun k' e' hke he'=>?_
          grind
     obtain⟨es',clk',hrun,hes'⟩:=key_;refine⟨undef,φ,S,_,.inr ⟨hrun,rfl⟩,.undef,rfl,Rel.more ?_ fun _ h=>bq h⟩;refine R.rewrite hJ h0 rfl rfl rfl rfl (by simp) (fun b' hb'=>by simp[Ne.symm hb']) (fun m=>?_);exact⟨h0,⟨es'.toList,clk',by simp[hlt],hes'⟩,hns⟩
   grind
 grind
theorem rm {st yt e : TypeId} {i : TypeInfo} {zv : Value} (hst : P.underlying st = some (.slice e)) (hyt : P.underlying yt = some .string) (hi : P.info? e = some i) (hz : i.zero = some zv) (hzs : zv.cells.size = i.size)
 {base:Option Addr} {sl sc ny:Nat} {y:Value} {xs zs:List Value} (hyl:(Builtin.lenOf y).run P w= .ok ny w)
 (hx:(Builtin.firstCells i.size sl (.slice base sl sc)).run P w.drew= .ok xs.toArray w.drew) (hy:(Builtin.firstCells i.size ny y).run P w.drew= .ok zs.toArray w.drew)
 (hroom:sc < sl+ny) (hcap:capOk (sl+ny) i.bytes) (hmax:sl+ny<=az) {tt:TypeId}:
 ∃(nc:Nat) (r:List Value),sl+ny<=nc/\r.length=(nc - (sl+ny))*i.size/\
  (Builtin.append_ #[st,yt] tt #[.slice base sl sc,y]).run P w= .ok (.slice (some ⟨w.heap.size,0,none⟩) (sl+ny) nc) (w.drew.alloc (.cells (xs++zs++r).toArray e)):=by
 have hsize:∀w,(sizeOf e).run P w= .ok i.size w:=fun w=>by simp[sizeOf,typeInfo,hi]
 have hinfo:∀w,(typeInfo e).run P w= .ok i w:=fun w=>by simp[typeInfo,hi]
 have hzero:∀w,(zeroValue e).run P w= .ok zv w:=fun w=>by simp_all[zeroValue]
 generalize hnc:(Question.appendCap (sl+ny) sc e).cut (w.tape w.drawn (Question.appendCap (sl+ny) sc e))=nc;have hncle:sl+ny<=nc:=by grind[Question.cut]
 have h1:¬(sl+ny<=sc):=by omega
 have h2:¬(sl+ny > IntKind.i64.max/\(False\/i.bytes=0)):=by grind[IntKind.max,IntKind.bits,az]
 have h3:=by
  exact hcap.not hroom
 refine⟨nc,(Builtin.zeroCells zv.cells (nc - (sl+ny))).toList,hncle,by grind[lC],?_⟩;have hch:(choose (.appendCap (sl+ny) sc e)).run P w= .ok nc w.drew:=by simp_all[Question.forced]
 have e1:(xs++zs++(Builtin.zeroCells zv.cells (nc - (sl+ny))).toList).toArray=xs.toArray++zs.toArray++Builtin.zeroCells zv.cells (nc - (sl+ny)):=by simp
 rw[e1];unfold Builtin.append_;simp only[List.getElem?_toArray,List.getElem?_cons_zero,List.getElem?_cons_succ,Sem.run_bind,run_underlying hst,run_underlying hyt,Result.andThen_ok,hsize,Sem.run_pure,Bool.false_eq_true,if_false,hyl,if_neg h1,hinfo];rw[if_neg (by grind)];simp only[Sem.run_bind,Result.andThen_ok,hinfo];rw[if_neg h3]
 simp only[Sem.run_bind,Result.andThen_ok,hinfo,hch,run_askRoom,hx,hy,hzero,Bool.not_false,if_true];rfl
theorem q9 {st yt e : TypeId} {i : TypeInfo} (hst : P.underlying st = some (.slice e)) (hyt : P.underlying yt = some .string) (hi : P.info? e = some i)
 {base:Option Addr} {sl sc ny:Nat} {y:Value} {zs:List Value} (hyl:(Builtin.lenOf y).run P w= .ok ny w) (hy:(Builtin.firstCells i.size ny y).run P w= .ok zs.toArray w) (hroom:sl+ny<=sc) {w':World}
 (hs:∀ad,base=some ad->(storeCells (ad.add (sl*i.size)) zs 0).run P w= .ok () w') (hb:base=none->w'=w) {tt:TypeId}:
  (Builtin.append_ #[st,yt] tt #[.slice base sl sc,y]).run P w= .ok (.slice base (sl+ny) sc) w':=by
 have hsize:∀w,(sizeOf e).run P w= .ok i.size w:=fun w=>by simp[sizeOf,typeInfo,hi]
 unfold Builtin.append_;simp only[List.getElem?_toArray,List.getElem?_cons_zero,List.getElem?_cons_succ,Sem.run_bind,run_underlying hst,run_underlying hyt,Result.andThen_ok,hsize,Sem.run_pure,Bool.false_eq_true,if_false,hyl];cases base <;>simp_all
theorem rD(w:World)(bs:ByteArray):(Builtin.firstCells 1 bs.size (.string bs)).run P w= .ok (bs.data.toList.map fun b=>Value.int .u8 b.toNat).toArray w:=by
 simp[Builtin.firstCells]
 grind
theorem r5(l:List UInt8):∀x,x∈(l.map fun b=>Value.int .u8 b.toNat)->x.oneCell'=true:=by
 intro x hx;simp at hx;obtain⟨b,_,rfl⟩:=hx;rfl
theorem na (R : Rel Γ nt φ S env J n a w) {o : Oper} {x : Operand} {yv : Value} {st yt : TypeId} {ax : AO} (hx : opd x = some ax) {px : Prop} {b e' bytes : Nat} {es s : List UInt8} (hgx : ax.get env = some (px, .c (.bufc b es.length))) (hp1 : px)
 (hJ:sget J b=some (.buf e' es)) (hk:n key=false) (hcap:capOk (es.length+s.length) bytes) (hmax:es.length+s.length<=az)
 (hrun:∀r w',(Builtin.append_ #[st,yt] o.type #[a.eval x,yv]).run P w= .ok r w'->(execOp a.eval o).run P w= .ok (.value r) w')
 (hR:∀base sl sc w',sl+s.length<=sc->(∀ad,base=some ad->(storeCells (ad.add (sl*1)) (s.map fun b=>Value.int .u8 b.toNat) 0).run P w= .ok () w')->(base=none->w'=w)->(Builtin.append_ #[st,yt] o.type #[.slice base sl sc,yv]).run P w= .ok (.slice base (sl+s.length) sc) w')
 (hN:∀base sl sc (xs:List Value),(Builtin.firstCells 1 sl (.slice base sl sc)).run P w.drew= .ok xs.toArray w.drew->sc < sl+s.length->capOk (sl+s.length) bytes->sl+s.length<=az->
  ∃(nc:Nat) (r:List Value),sl+s.length<=nc/\r.length=(nc - (sl+s.length))*1/\(Builtin.append_ #[st,yt] o.type #[.slice base sl sc,yv]).run P w= .ok (.slice (some ⟨w.heap.size,0,none⟩) (sl+s.length) nc) (w.drew.alloc (.cells (xs++(s.map fun b=>Value.int .u8 b.toNat)++r).toArray e'))):
 Good P Γ nt env (sput (sdel J b) key (.buf e' (es++s))) (ins n key) a (.c (.bufc key (es.length+s.length))) ((execOp a.eval o).run P w):=by
 have hnotS:∀b,w.heap.size<=b->∀j,¬S b j:=fun b hb j hS=>by have:=R.sim.st _ _ hS;omega
 obtain⟨hle,k0,k1⟩:=(ae R hx hgx hp1).1.c_inv;have hRB:=R.sim.blk _ _ hJ;obtain⟨g1,g2,g3⟩:=hRB;by_cases hroom:es.length+s.length<=(φ b).2
 . by_cases hv0:(φ b).2=0
   . have he0:es=[]:=List.eq_nil_of_length_eq_zero (by omega);have hb0:s=[]:=List.eq_nil_of_length_eq_zero (by omega);have hxv:=k0 hv0;have hr:=hR none 0 0 w (by omega) (fun ad had=>by grind) (fun _=>rfl);rw[<-hxv]at hr;have R':=(R.del b).newkey hk (x:= .buf e' (es++s)) (0,0) rfl (by grind[RB,aw]) (by simp)
     refine⟨_,_,S,w,.inl (hrun _ _ hr),.c ?_,by simp[V.bnd,C.bnd,ins],R'⟩;rw[hb0,he0];refine⟨by simp,fun _=>?_,fun h=>?_⟩
     . rfl
     . simp[aw]at h
   . obtain⟨⟨vs,hh,hvl,hvr⟩,hns⟩:=g3 hv0;have hxv:=k1 hv0;have hfit:es.length+(s.map fun b=>Value.int .u8 b.toNat).length<=vs.length:=by grind
     obtain⟨w',hr1,q1,q2,q3,q4,q5,q6⟩:=bL (P:=P) _ es.length 0 vs w hh (by omega) (r5 _)
     have hr:=hR (some ⟨(φ b).1,0,none⟩) es.length (φ b).2 w' hroom (fun ad had=>by
      cases had;have hadd:Addr.add ⟨(φ b).1,0,none⟩ (es.length*1)=⟨(φ b).1,es.length,none⟩:=by rw[Nat.mul_one];unfold Addr.add;split <;> simp_all
      grind) (fun hb=>by cases hb)
     rw[<-hxv]at hr
     have R1:=(R.del b).world (w':=w') (fun k=>k=(φ b).1) q1 q2 q3 (Nat.le_of_eq q4.symm) (fun k _ hk=>q6 k hk) (fun k hk=>by
      subst hk;refine⟨hns,fun k y hy hk=>?_,R.own b _ hJ hv0⟩;rw[aC]at hy;split at hy
      . cases hy
      . rename_i hne
        exact fun e=>R.sim.inj k b y _ hy hJ (Ne.symm hne) hk hv0 e)
     have R2:=R1.newkey hk (x:= .buf e' (es++s)) (φ b) rfl (by
      simp only[RB,aw]
      grind[List.length_append,cG,cp]) (fun _=>⟨fun k y hy hk=>by
       rw[aC]at hy;split at hy
       . cases hy
       . rename_i hne
         exact R.sim.inj k b y _ hy hJ (Ne.symm hne) hk hv0,R.own b _ hJ hv0⟩)
     refine⟨_,_,S,w',.inl (hrun _ _ hr),.c ?_,by simp[V.bnd,C.bnd,ins],R2⟩;refine⟨by simp[aw];omega,fun h=>?_,fun _=>?_⟩
     . simp[aw,hv0]at h
     . simp[aw]
 . have R1:=R.drew;have hbase:∃base,a.eval x= .slice base es.length (φ b).2/\∃xs:List Value,(Builtin.firstCells 1 es.length (.slice base es.length (φ b).2)).run P w.drew= .ok xs.toArray w.drew/\xs.length=es.length/\∀(i:Nat) c,es[i]?=some c->xs[i]?=some (.int .u8 (UInt8.toNat c)):=by
    by_cases hv0:(φ b).2=0
    . have he0:es=[]:=List.eq_nil_of_length_eq_zero (by omega);simp_all[Builtin.firstCells]
    . obtain⟨⟨vs,hh,hvl,hvr⟩,hns⟩:=g3 hv0;refine⟨_,k1 hv0,vs.take es.length,?_,by simp;omega,fun j c hc=>?_⟩
      . show(loadCells ⟨(φ b).1,0,none⟩ (es.length*1)).run P w.drew=_;rw[Nat.mul_one];refine fN (by simp;omega) (fun j hj=>?_);rw[Nat.zero_add,List.getElem?_take,if_pos hj];exact bc (w:=w.drew) hh j
      grind
   obtain⟨base,hxv,xs,hxf,hxl,hxr⟩:=hbase;obtain⟨nc,r,h1,h2,hr⟩:=hN base es.length (φ b).2 xs hxf (by omega) hcap hmax;rw[<-hxv]at hr;have R2:=(R1.del b).alloc (.cells (xs++(s.map fun b=>Value.int .u8 b.toNat)++r).toArray e')
   have R3:=R2.newkey hk (x:= .buf e' (es++s)) (w.heap.size,nc) rfl (by
    simp only[RB,aw];refine⟨by simp[];omega,by rw[List.length_append];exact hmax,fun _=>⟨⟨_,heap_alloc_new,?_,?_⟩,hnotS _ (Nat.le_refl _)⟩⟩
    . grind
    grind) (fun _ => ⟨fun k y hy h0 => by
     rw[aC]at hy;split at hy
     . cases hy
     . have:=(R.sim.blk k y hy).real_lt h0
       simp;omega,.inr R.ext.size⟩)
   refine⟨_,_,S,_,.inl (hrun _ _ hr),.c ?_,by simp[V.bnd,C.bnd,ins],R3⟩;refine⟨by simp[aw];omega,fun h=>?_,fun _=>?_⟩
   . simp[aw]at h;omega
   . simp[aw]
theorem rI (R : Rel Γ nt φ S env J n a w) {o : Oper} {x y : Operand} {st yt e : TypeId} (ho : o.op = .call { callee := .builtin .append, args := #[x, y], argTypes := #[st, yt] })
 (hst:P.underlying st=some (.slice e)) (hyt:P.underlying yt=some .string) {i:TypeInfo} (hi:P.info? e=some i) (hs0:i.size=1) (hz:(i.zero.map (·.cells.size))=some 1)
 {ax ay:AO} (hx:opd x=some ax) (hy:opd y=some ay)
 {p v J'} (hk:n key=false) (h:aval (.appendB e i.bytes ax ay) env J key=some (p,v,J')) (hp:p):Good P Γ nt env J' (ins n key) a v ((execOp a.eval o).run P w):=by
 simp only[aval,oZ2]at h;obtain⟨⟨px,vx⟩,hgx,⟨py,vy⟩,hgy,he⟩:=h;simp only at he;simp only[oZ1]at hz;obtain⟨zv,hzv,hzs⟩:=hz;split at he
 . rename_i b len s;split at he
   . rename_i e' es hJ;obtain⟨rfl,rfl,rfl⟩:=he;obtain⟨hp1,hp2,rfl,rfl,hcap,hmax⟩:=hp;obtain⟨bs,hbs,rfl,_⟩:=RV.str_inv (ae R hy hgy hp2).1;have hbl:bs.data.toList.length=bs.size:=by rw[<-ep]
     have hyl:∀w,(Builtin.lenOf (a.eval y)).run P w= .ok bs.data.toList.length w:=by intro w;simp[hbs,hbl,Builtin.lenOf]
     have hzf:∀w,(Builtin.firstCells i.size bs.data.toList.length (a.eval y)).run P w= .ok (bs.data.toList.map fun b=>Value.int .u8 b.toNat).toArray w:=by intro w;rw[hbs,hs0,hbl];exact rD w bs
     refine na R hx hgx hp1 hJ hk hcap hmax (st:=st) (yt:=yt) (yv:=a.eval y) (fun r w' hr=>by simp[execOp,ho,Go.resolve,invoke,builtin,hr]) (fun base sl sc w' h1 h2 h3=>?_) (fun base sl sc xs h1 h2 h3 h4=>?_)
     . exact q9 hst hyt hi (hyl w) (hzf w) h1 (by rw[hs0];exact h2) h3
     . have:=rm (P:=P) (w:=w) (tt:=o.type) hst hyt hi hzv (by rw[hzs,hs0]) (hyl w) (by rw[hs0];exact h1) (hzf w.drew) h2 h3 h4;rw[hs0]at this;exact this
   grind
 grind
theorem sK(s:List UInt8):∀(i:Nat) c,s[i]?=some c->(s.map fun c=>([.int .u8 c.toNat]:List T))[i]?=some [.int .u8 c.toNat]:=by simp_all
theorem mq{s:List UInt8}{zs:List Value}(hl:zs.length=s.length)(h:RRow w S 1 (s.map fun c=>[.int .u8 c.toNat]) zs):zs=s.map fun b=>Value.int .u8 b.toNat:=by
 refine List.ext_getElem? fun i=>?_
 by_cases hi:i < s.length
 . obtain⟨v,hv,hr⟩:=h i 0 _ _ (sK s i _ (List.getElem?_eq_getElem hi)) rfl;cases hr;simp only[Nat.mul_one,Nat.add_zero]at hv;rw[hv];simp[hi]
 . simp[List.getElem?_eq_none (Nat.le_of_not_lt (hl▸hi)),List.getElem?_eq_none (Nat.le_of_not_lt hi)]
theorem rK (R : Rel Γ nt φ S env J n a w) {o : Oper} {x y : Operand} {st yt e ye : TypeId} (ho : o.op = .call { callee := .builtin .append, args := #[x, y], argTypes := #[st, yt] })
 (hst:P.underlying st=some (.slice e)) (hyt:P.underlying yt=some (.slice ye)) {i:TypeInfo} (hi:P.info? e=some i) (hs0:i.size≠0) (hz:(i.zero.map (·.cells.size))=some i.size)
 {ax ay:AO} (hx:opd x=some ax) (hy:opd y=some ay)
 {p v J'} (hk:n key=false) (h:aval (.append e i.size i.bytes ax ay) env J key=some (p,v,J')) (hp:p):Good P Γ nt env J' (ins n key) a v ((execOp a.eval o).run P w):=by
 by_cases hnb:∃q b l,ax.get env=some (q,.c (.bufc b l))
 case neg=>exact rX R ho hst hyt hi hs0 hz hx hy hk h (fun q b l e=>hnb ⟨q,b,l,e⟩) hp
 obtain⟨px,b,len,hgx⟩:=hnb;simp only[aval,hgx,oZ3,oZ2]at h;obtain⟨⟨py,vy⟩,hgy,h⟩:=h;rw[show winOf (.c (.bufc b len)) vy=none from rfl]at h;simp only[oZ2]at h;obtain⟨ys,hys,he⟩:=h;split at he
 . rename_i e' es hJ;obtain⟨s,hs,he⟩:=Option.map_eq_some_iff.1 he;cases he;obtain⟨hp1,hp2,rfl,hsz,rfl,hys1,hcap,hmax⟩:=hp;simp only[oZ1]at hz;obtain⟨zv,hzv,hzs⟩:=hz;have hsz1:∀e,e∈ys.1->e.length=1:=by rw[hys1];simp
   obtain⟨hyl,zs,hzf,hzl,hzr,_⟩:=eD (P:=P) R hy hgy hp2 (by decide:0 < 1) hys hsz1;obtain⟨_,zs',hzf',hzl',hzr',_⟩:=eD (P:=P) R.drew hy hgy hp2 (by decide:0 < 1) hys hsz1;have hyn:ys.1.length=s.length:=by rw[hys1];simp
   rw[hys1]at hzr hzr';have hzs1:=mq (by rw[hzl,hyn,Nat.mul_one]) hzr;have hzs2:=mq (by rw[hzl',hyn,Nat.mul_one]) hzr';subst hzs1;subst hzs2;rw[hyn]at hyl hzf hzf';rw[<-hsz]at hzf hzf'
   refine na R hx hgx hp1 hJ hk hcap hmax (st:=st) (yt:=yt) (yv:=a.eval y) (fun r w' hr=>by simp[execOp,ho,Go.resolve,invoke,builtin,hr]) (fun base sl sc w' h1 h2 h3=>?_) (fun base sl sc xs h1 h2 h3 h4=>?_)
   . exact ed hst hyt hi hyl hzf h1 (by rw[hsz];exact h2) h3
   . have:=iV (P:=P) (w:=w) (tt:=o.type) hst hyt hi hzv hzs hyl (by rw[hsz];exact h1) hzf' h2 h3 h4;rw[hsz]at this;exact this
 . cases he
theorem sL (R : Rel Γ nt φ S env J n a w) {o : Oper} {x : Operand} {t : TypeId} (ho : o.op = .call { callee := .builtin .unsafeSliceData, args := #[x], argTypes := #[t] }) {ax : AO} (hx : opd x = some ax)
 {p v J'} (hk:n key=false) (h:aval (.sdata ax) env J key=some (p,v,J')) (hp:p):Good P Γ nt env J' (ins n key) a v ((execOp a.eval o).run P w):=by
 simp only[aval,oZ2]at h;obtain⟨⟨px,vx⟩,hgx,he⟩:=h;simp at he;split at he
 . rename_i b len;obtain⟨rfl,rfl,rfl⟩:=he;have hg:=ae R hx hgx hp;obtain⟨hle,k0,k1⟩:=hg.1.c_inv;by_cases h0:(φ b).2=0
   . refine Good.pure R ?_ (.c ⟨none,rfl,fun h=>absurd h0 h⟩) (by grind[V.bnd,C.bnd]);simp[execOp,ho,Go.resolve,invoke,builtin,k0 h0,Go.Lib.run_unsafeSliceData_nil]
   . refine Good.pure R ?_ (.c ⟨_,rfl,fun _=>rfl⟩) (by grind[V.bnd,C.bnd]);simp[execOp,ho,Go.resolve,invoke,builtin,k1 h0,Go.Lib.run_unsafeSliceData_row _ _ _ _ _ _ h0]
 grind
theorem sM{b m:Nat}{ad:Addr}(hb:b≠ad.block):(w.freeze ad m).heap[b]?=w.heap[b]?:=by
 grind[World.freeze]
theorem r6(ad:Addr)(m:Nat):(w.freeze ad m).os=w.os/\(w.freeze ad m).tape=w.tape/\(w.freeze ad m).output=w.output/\(w.freeze ad m).heap.size=w.heap.size:=by
 grind[World.freeze]
theorem tC (R : Rel Γ nt φ S env J n a w) {o : Oper} {x y : Operand} {pt it e : TypeId} (ho : o.op = .call { callee := .builtin .unsafeString, args := #[x, y], argTypes := #[pt, it] })
 (hpt:P.underlying pt=some (.pointer e)) (hce:P.cellsOf e=1) {ax ay:AO} (hx:opd x=some ax) (hy:opd y=some ay)
 {p v J'} (hk:n key=false) (h:aval (.ustr e ax ay) env J key=some (p,v,J')) (hp:p):Good P Γ nt env J' (ins n key) a v ((execOp a.eval o).run P w):=by
 simp only[aval,oZ2]at h;obtain⟨⟨px,vx⟩,hgx,⟨py,vy⟩,hgy,he⟩:=h;simp only at he;split at he
 . rename_i b m;split at he
   . rename_i e' es hJ;obtain⟨rfl,rfl,rfl⟩:=he;obtain⟨hp1,hp2,rfl,rfl⟩:=hp;obtain⟨pp,h1,hpp⟩:=(ae R hx hgx hp1).1.c_inv;have h2:=(ae R hy hgy hp2).1.int_inv;have hRB:=R.sim.blk _ _ hJ;obtain⟨g1,g2,g3⟩:=hRB;have hstr:∀w',RT w' S (.str es) (.string ⟨es.toArray⟩):=by
      intro w';have:=RT.str (w:=w') (S:=S) (⟨es.toArray⟩:ByteArray) (by rw[<-ep];grind[az,aD]);omega
     have hrun:∀r w',(Builtin.unsafeString_ #[pt,it] o.type #[a.eval x,a.eval y]).run P w= .ok r w'->(execOp a.eval o).run P w= .ok (.value r) w':=by
      intro r w' hr;simp[execOp,ho,Go.resolve,invoke,builtin,hr]
     by_cases hne:es=[]
     . subst hne;refine⟨.string ⟨#[]⟩,φ,S,w,.inl (hrun _ _ ?_),.c (hstr w),rfl,(R.del b).more fun _ h=>bq h⟩;rw[h1,h2];exact Go.Lib.run_unsafeString_none w pt it o.type pp
     . have hpos:=List.length_pos_iff.2 hne;have hv0:(φ b).2≠0:=by omega
       obtain⟨⟨vs,hh,hvl,hvr⟩,hns⟩:=g3 hv0;have hsh:w.shape? (φ b).1=some (e',vs.length):=by grind[World.shape?]
       have hr:=Go.Lib.run_unsafeString_row (P:=P) w pt it o.type e' hpt hce _ vs.length hsh es hne (by omega) (by grind[az]) (fun j c hc=>by
        grind[Addr.add,bc])
       obtain⟨q1,q2,q3,q4⟩:=r6 (w:=w) ⟨(φ b).1,0,none⟩ es.length
       have R1:=(R.del b).world _ q1 q2 q3 (Nat.le_of_eq q4.symm) (fun k _ hk=>sM hk) (fun k hk=>by
        subst hk;refine⟨hns,fun k y hy hk=>?_,R.own b _ hJ hv0⟩;rw[aC]at hy;split at hy
        . grind
        . rename_i hne
          exact fun e=>R.sim.inj k b y _ hy hJ (Ne.symm hne) hk hv0 e)
       refine⟨.string _,φ,S,_,.inl (hrun _ _ ?_),.c (hstr _),rfl,R1.more fun _ h=>bq h⟩
       grind
   grind
 grind
end
end
section
open Go
variable [GV]
section
variable {P:Program} {Γ:Ctx} {nt:Nat} {φ:Phi} {S:Stab} {env:Env} {J:Store} {n:Nat->Bool} {key:Nat} {a:Act} {w:World}
theorem jd {d : Nat} {e : TypeId} {k : Nat} (hk : kindT P e = some k) {xs ys : Array Value}: ∀ {m i : Nat} {ps qs : List C} {us vs : List Value} {r : Bool},
 eqCs (List.replicate m k) ps qs=some r->All2 (RC φ w S) ps us->All2 (RC φ w S) qs vs->xs.toList.drop i=us->ys.toList.drop i=vs->(Op.eqItems (d+1) e 1 xs ys (List.range' i m)).run P w= .ok r w
 | 0,i,ps,qs,us,vs,r,hr,_,_,_,_=>by
  cases ps <;> cases qs <;> simp[eqCs]at hr
  subst hr;simp[Op.eqItems]
 | m+1,i,ps,qs,us,vs,r,hr,hu,hv,e1,e2=>by
  have hag:=nR hk;have pa:∀(l:Array Value) (z:Value) (zs:List Value),l.toList.drop i=z::zs->(part e l (i*1)).run P w= .ok z w:=fun l z zs hx=>by
   have:l[i]?=some z:=by
    have:=congrArg (·[0]?) hx
    simpa using this
   simp[part,dD hag,this]
  rw[List.replicate_succ]at hr;cases ps with
  | nil=>simp[eqCs]at hr
  | cons p ps=>cases qs with
   | nil=>cases p <;> simp[eqCs]at hr
   | cons q qs=>
    cases p <;> cases q <;> simp only[eqCs,oZ2,oZ1]at hr <;> try cases hr
    rename_i x y b h;obtain⟨hb,r',hr',rfl⟩:=h;cases hu with
    | cons h1 h1'=>cases hv with
     | cons h2 h2'=>
      rename_i u us v vs;have f1:xs.toList.drop (i+1)=us:=by rw[<-List.drop_drop,e1];rfl
      have f2:ys.toList.drop (i+1)=vs:=by rw[<-List.drop_drop,e2];rfl
      have ih:=jd (d:=d) hk (m:=m) (i:=i+1) hr' h1' h2' f1 f2;rw[List.range'_succ];simp only[Op.eqItems,Sem.run_bind,pa xs u us e1,pa ys v vs e2,Result.andThen_ok,nQ hb hk h1 h2 d];cases b with
      | true=>simpa using ih
      | false=>simp
theorem sN (R : Rel Γ nt φ S env J n a w) {o : Oper} {op : BinOp} {ty yt : TypeId} {x y : Operand} (ho : o.op = .binOp op ty x y yt) (hop : op = .eql \/ op = .neq) {ks : List Nat} (hty : kC P ty = some ks)
 {ax ay:AO} (hx:opd x=some ax) (hy:opd y=some ay)
 {p v J'} (hk:n key=false) (h:aval (.eqAgg (op== .neq) ks ax ay) env J key=some (p,v,J')) (hp:p):Good P Γ nt env J' (ins n key) a v ((execOp a.eval o).run P w):=by
 simp only[aval,oZ2]at h;obtain⟨⟨px,vx⟩,hgx,⟨py,vy⟩,hgy,he⟩:=h;simp only at he;split at he
 . rename_i ps qs;simp only[oZ1,Prod.mk.injEq]at he;obtain⟨r,hr,rfl,rfl,rfl⟩:=he;obtain⟨us,hu,hall1⟩:=(ae R hx hgx hp.1).1.agg_inv;obtain⟨vs,hv,hall2⟩:=(ae R hy hgy hp.2).1.agg_inv;unfold kC at hty;split at hty
   . rename_i m e hfs;simp only[Option.ite_none_right_eq_some,oZ1]at hty;obtain⟨⟨hs,hg⟩,k,hkk,rfl⟩:=hty;unfold sizeT at hs;simp only[oZ1]at hs;obtain⟨i,hi,hs⟩:=hs;have hc:P.cellsOf e=1:=by simp[Program.cellsOf,hi,hs]
     have eg:(eqGuard op ty x y (a.eval x) (a.eval y)).run P w= .ok () w:=by rcases hop with rfl | rfl <;> simp[eqGuard,hu,hv,hg]
     have ee:(Op.equal ty (.agg us.toArray) (.agg vs.toArray)).run P w= .ok r w:=by
      obtain⟨d,hd⟩:∃d,Op.maxDepth=d+2:=⟨9998,rfl⟩
      unfold Op.equal;rw[hd,run_equalIn_array w (d+1) _ _ hfs hi,hc,List.range_eq_range'];exact jd hkk hr hall1 hall2 (by simp) (by simp)
     have ev:(binOp op ty (a.eval x) (a.eval y)).run P w= .ok (.bool (if(op== .neq)then !r else r)) w:=by
      rcases hop with rfl | rfl
      . rw[hu,hv];simp only[binOp,Sem.run_bind,ee];rfl
      . rw[hu,hv];simp only[binOp,Sem.run_bind,ee];rfl
     refine Good.pure R (x:= .bool (if(op== .neq)then !r else r)) ?_ (.boolI _) rfl;simp[execOp,ho,eg,ev]
   . cases hty
 . cases he
theorem tD (R : Rel Γ nt φ S env J n a w) {o : Oper} {ty : TypeId} {x i : Operand} (ho : o.op = .index ty x i) {k : Nat} {e : TypeId} (hty : P.underlying ty = some (.array k e)) (hl : bT P e = some (false, 1))
 {ax ai:AO} (hx:opd x=some ax) (hi:opd i=some ai)
 {p v J'} (hk:n key=false) (h:aval (.idxV k ax ai) env J key=some (p,v,J')) (hp:p):Good P Γ nt env J' (ins n key) a v ((execOp a.eval o).run P w):=by
 simp only[aval,oZ2]at h;obtain⟨⟨px,vx⟩,hgx,⟨pi,vi⟩,hgi,he⟩:=h;simp only at he;split at he
 . rename_i cs kk m;simp only[Option.ite_none_right_eq_some,Option.some.injEq,Prod.mk.injEq]at he;obtain⟨hcs,rfl,rfl,rfl⟩:=he;obtain⟨hp1,hp2,hm0,hm1⟩:=hp;have g1:=ae R hx hgx hp1;obtain⟨us,hu,hall⟩:=g1.1.agg_inv;have h2:=(ae R hi hgi hp2).1.int_inv;unfold bT at hl;simp only[oZ2]at hl;obtain⟨g,hg,z,hz,hl⟩:=hl;split at hl
   . cases hl;have hlt:m.toNat < cs.length:=by omega
     obtain⟨u,hu1,hu2⟩:=hall.get (show cs[m.toNat]?=some (cs.getD m.toNat .dead) by rw[List.getD,List.getElem?_eq_getElem hlt];rfl);refine Good.pure R (x:=u) ?_ (.c hu2) ?_
     . have hb:us.toArray[m.toNat*1]?=some u:=by simpa using hu1
       simp only[execOp,ho,Sem.run_bind,hu,h2,Instr.index,asIntOf,run_underlying hty,Result.andThen_ok,Sem.run_pure];rw[if_pos ⟨hm0,by omega⟩];simp only[Sem.run_bind,bd hz,Result.andThen_ok,part,dD hg,hb];rfl
     . have:=g1.2;simp only[V.bnd,List.all_eq_true]at this ⊢;refine this _ ?_;rw[List.getD,List.getElem?_eq_getElem hlt];exact List.getElem_mem hlt
   . cases hl
 . cases he
theorem rL {ty e : TypeId} (hty : P.underlying ty = some (.slice e)) {i : TypeInfo} {zv : Value} (hi : P.info? e = some i) (hzv : i.zero = some zv) {k : IntKind} {m : Int} (h0 : 0 <= m) (hb : m.toNat * i.bytes <= bh) (hm : m.toNat <= az):
 (Instr.makeSlice ty (.int k m) (.int k m)).run P w= .ok (.slice (some ⟨w.heap.size,0,none⟩) m.toNat m.toNat) (w.alloc (.cells ((Array.range (m.toNat*i.size)).map (zv.cells[· % zv.cells.size]!)) e)):=by
 obtain⟨c,rfl⟩:∃c:Nat,m=(c:Int):=⟨m.toNat,by omega⟩
 simp only[Int.toNat_natCast]at*;unfold az at hm;have hw:IntKind.i64.wrap (c:Int)=(c:Int):=by
  simp[IntKind.wrap,IntKind.signed,IntKind.bits];omega
 have hty':∀w,(typeInfo e).run P w= .ok i w:=fun w=>by simp[typeInfo,hi]
 have hsz:∀w,(sizeOf e).run P w= .ok i.size w:=fun w=>by simp[sizeOf,typeInfo,hi]
 have hzr:∀w,(zeroValue e).run P w= .ok zv w:=fun w=>by simp[zeroValue,typeInfo,hi,hzv]
 have hbz:¬((i.bytes:Int)*(c:Int) > 2 ^ 48):=by
  unfold bh at hb;rw[<-Int.natCast_mul,Nat.mul_comm];omega
 unfold Instr.makeSlice;simp only[asInt,asIntOf,Sem.run_bind,run_underlying hty,Result.andThen_ok,Sem.run_pure,hty',hw];rw[if_neg (by simp;omega)];simp only[Sem.run_bind,run_askRoom,Result.andThen_ok,Int.toNat_natCast,hsz];by_cases h:c*i.size=0
 . simp only[h,if_true,Sem.run_bind,Sem.run_pure,Result.andThen_ok,show Array.range 0=#[]from rfl,List.map_toArray,Array.map_empty];rfl
 . simp only[h,if_false,Sem.run_bind,hzr,Sem.run_pure,Result.andThen_ok];rfl
theorem r7 (R : Rel Γ nt φ S env J n a w) {o : Oper} {ty : TypeId} {x y : Operand} (ho : o.op = .makeSlice ty x y) {e : TypeId} (hty : P.underlying ty = some (.slice e)) (hxy : sameO x y = true) {i : TypeInfo} (hi : P.info? e = some i)
 {z:List C} (hz:zeroC P e=some z) (h0:i.size≠0) (hzl:z.length=i.size) {ax:AO} (hx:opd x=some ax)
 {p v J'} (hk:n key=false) (h:aval (.mslice i.size i.bytes z ax) env J key=some (p,v,J')) (hp:p):Good P Γ nt env J' (ins n key) a v ((execOp a.eval o).run P w):=by
 have hs:x=y:=by
  unfold sameO at hxy;split at hxy
  . rw[of_decide_eq_true hxy]
  . cases hxy
 subst hs;simp only[aval,oZ2]at h;obtain⟨⟨px,vx⟩,hgx,zt,hzt,he⟩:=h;simp only at he;split at he
 . rename_i kk m;simp only[Option.some.injEq,Prod.mk.injEq]at he;obtain⟨rfl,rfl,rfl⟩:=he;obtain⟨hp1,hm0,hmb,hms⟩:=hp;have h2:=(ae R hx hgx hp1).1.int_inv;obtain⟨i',zv,hi',hzv,hall,hbn⟩:=dC (φ:=φ) (w:=w) (S:=S) (n:=n) hz;rw[hi]at hi';cases hi';have hzr:=c8 hzt hall;have hzl':zv.cells.size=i.size:=by rw[<-Array.length_toList,<-hall.length,hzl]
   have hz0:0 < i.size:=by omega
   have hztl:zt.length=i.size:=by rw[ei hzt,hzl]
   generalize hlen:m.toNat=len at*;have R1:=R.alloc (.cells ((Array.range (len*i.size)).map (zv.cells[· % zv.cells.size]!)) e);have mm:=R.mono_alloc (.cells ((Array.range (len*i.size)).map (zv.cells[· % zv.cells.size]!)) e)
   have R2:=R1.newkey hk (x:= .arr i.size (List.replicate len zt)) (w.heap.size,len) rfl (by
    simp only[RB,aw];refine⟨by simp,by simpa using hms,fun e he=>by rw[List.eq_of_mem_replicate he];exact hztl,hz0,fun _=>⟨((Array.range (len*i.size)).map (zv.cells[· % zv.cells.size]!)).toList,e,by rw[Array.toArray_toList];exact heap_alloc_new,by simp,fun a j q t he ht=>?_,fun j h=>?_⟩⟩
    . have hia:=(List.getElem?_eq_some_iff.1 he).1;simp at hia;have:q=zt:=List.eq_of_mem_replicate (List.mem_of_getElem? he);subst this;have hj:=(List.getElem?_eq_some_iff.1 ht).1;obtain⟨x,hx,hr⟩:=hzr.get ht;refine⟨x,?_,RT.mono mm hr⟩;rw[Array.getElem?_toList,jy hzl' hz0 a j hia (by omega)]
      simpa using hx
    . have:=R.sim.st _ _ h
      omega) (fun _=>⟨fun k y hy h0=>by
       have:=(R.sim.blk k y hy).real_lt h0
       simp;omega,.inr R.ext.size⟩)
   refine⟨.slice (some ⟨w.heap.size,0,none⟩) len len,_,S,_,.inl ?_,.c ⟨some ⟨w.heap.size,0,none⟩,by simp[aw],by simp[aw],by simp[aw]⟩,by simp[V.bnd,C.bnd,ins],R2⟩;have hr:=rL (P:=P) (w:=w) hty hi hzv (k:=kk) hm0 (by rw[hlen];exact hmb) (by rw[hlen];exact hms);rw[hlen]at hr;simp only[execOp,ho,Sem.run_bind,h2,hr,Result.andThen_ok];rfl
 . cases he
end
end
section
open Go
variable [GV]
theorem All2.map_left{α β γ:Type}{R:α->β->Prop}{R':γ->β->Prop}{f:α->γ}{l:List α}{m:List β}(h:All2 R l m)(k:∀a b,R a b->R' (f a) b):All2 R' (l.map f) m:=by
 induction h with
 | nil=>exact .nil
 | cons hab _ ih=>exact .cons (k _ _ hab) ih
def cut(es:List (List T))(off len:Nat):List (List T):=if off=0/\len=es.length then es else(es.drop off).take len
def C.frz(b0 sz0:Nat)(es:List (List T)):C->C
 | .arr b sz off len=>if b=b0 then(if sz=sz0/\off+len<=es.length then .t (.slice (cut es off len))else .dead)else .arr b sz off len
 | .eptr b sz i o=>if b=b0 then .dead else .eptr b sz i o
 | c=>c
def V.frz(b0 sz0:Nat)(es:List (List T)):V->V
 | .c x=>.c (x.frz b0 sz0 es)
 | .agg cs=>.agg (cs.map (C.frz b0 sz0 es))
 | .tup vs=>.tup (go b0 sz0 es vs)
where go (b0 sz0:Nat) (es:List (List T)):List V->List V
 | []=>[]
 | v::vs=>v.frz b0 sz0 es::go b0 sz0 es vs
def Blk.frz(b0 sz0:Nat)(es:List (List T)):Blk->Blk
 | .box cs=>.box (cs.map (C.frz b0 sz0 es))
 | .arr sz l=>.arr sz l
 | .set ks=>.set ks
 | .buf E s=>.buf E s
 | .bld E c=>.bld E (c.frz b0 sz0 es)
 | .arro sz l i o c=>.arro sz l i o (c.frz b0 sz0 es)
def df(b0 sz0:Nat)(es:List (List T)):Env->Env
 | []=>[]
 | (k,g,v)::r=>(k,g,v.frz b0 sz0 es)::df b0 sz0 es r
def frzSt(b0 sz0:Nat)(es:List (List T)):Store->Store
 | []=>[]
 | (k,x)::r=>if k=b0 then frzSt b0 sz0 es r else(k,x.frz b0 sz0 es)::frzSt b0 sz0 es r
section
variable {P:Program} {Γ:Ctx} {nt kk:Nat} {φ:Phi} {S:Stab} {env:Env} {J:Store} {N:Nat} {n:Nat->Bool} {a:Act} {w:World}
theorem fS{b0 sz0:Nat}{es:List (List T)}:∀{env:Env} {k:Nat},look (df b0 sz0 es env) k=(look env k).map fun x=>(x.1,x.2.frz b0 sz0 es)
 | [],k=>rfl
 | (i,g,v)::r,k=>by
  simp[df,look];split
  . rfl
  . exact fS
theorem ia{b0 sz0:Nat}{es:List (List T)}:∀{J:Store} {k:Nat},sget (frzSt b0 sz0 es J) k=if k=b0 then none else(sget J k).map (Blk.frz b0 sz0 es)
 | [],k=>by simp[frzSt,sget]
 | (i,x)::r,k=>by
  simp[frzSt,sget];by_cases h:i=b0
  . rw[if_pos h,ia]
    grind
  . rw[if_neg h];simp[sget];by_cases h2:i=k
    . grind
    . rw[if_neg h2,if_neg h2,ia]
def bU(S:Stab)(q:Nat×Nat):Stab:=fun b j=>S b j\/(q.2≠0/\b=q.1)
theorem wb{es:List (List T)}{off len:Nat}{e:List T}(h:e∈cut es off len):e∈es:=by
 grind[cut]
theorem wc{es:List (List T)}{off len i:Nat}{e:List T}(hle:off+len<=es.length)(h:(cut es off len)[i]?=some e):es[off+i]?=some e/\i < len:=by
 grind[cut]
theorem tE{es:List (List T)}{off len:Nat}(hle:off+len<=es.length):(cut es off len).length=len:=by
 grind[cut]
theorem RC.frz{b0 sz0:Nat}{es:List (List T)}(hB:RB φ w S b0 (.arr sz0 es)){c:C}{v:Value}(h:RC φ w S c v):RC φ w (bU S (φ b0)) (c.frz b0 sz0 es) v:=by
 have m:Mono w S w (bU S (φ b0)):=⟨fun _ _ h=>.inl h,fun _ _ _=>rfl⟩
 have ho:=RC.oneCell h;cases c with
 | arr b sz off len=>
  simp[C.frz];by_cases hb:b=b0
  . subst hb;rw[if_pos rfl];split
    . rename_i hc;obtain⟨rfl,hle⟩:=hc;obtain⟨h1,h2,h3,h4,h5⟩:=hB;obtain⟨ad,rfl,ha,hle2⟩:=RC.arr_inv h;have hl:=tE hle;have e1:Value.slice ad len ((φ b).2 - off)=Value.slice ad (cut es off len).length ((φ b).2 - off):=by grind
      rw[e1];by_cases h0:(φ b).2=0
      . have:cut es off len=[]:=List.eq_nil_of_length_eq_zero (by omega);rw[this];exact RT.slice [] _ _ 0 0 0 (fun _ _=>undef) (by simp) (by simp) (by simp) (by simp) (by simp) (by simp)
      . obtain⟨vs,E,hh,hvl,hr,hs⟩:=h5 h0;refine RT.slice _ _ _ sz _ _ (fun i j=>(vs.getD ((off+i)*sz+j) undef)) (by omega) (by omega) (fun e he=>h3 e (wb he)) (fun _=>ha h0) ?_ ?_
        . intro i j hi hj;refine⟨.inr ⟨h0,rfl⟩,?_⟩;rw[bc hh];have hlt:(off+i)*sz+j < vs.length:=by
           have:=Nat.mul_le_mul_right sz (show off+i+1<=(φ b).2 by omega)
           grind
          grind
        . intro i j e t he ht;obtain⟨hei,hi⟩:=wc hle he;obtain⟨v,hv,hrt⟩:=hr _ _ _ _ hei ht;simp[List.getD,hv];exact RT.mono m hrt
    . exact ho
  . rw[if_neg hb];exact RC.mono m (fun _ _=>rfl) (C.bnd_true _) h
 | eptr b sz i o=>
  simp[C.frz];split
  . exact ho
  . exact h
 | _=>exact RC.mono m (fun _ _=>rfl) (C.bnd_true _) h
theorem jQ{b0 sz0:Nat}{es:List (List T)}:∀{vs:List V} {i:Nat},(V.frz.go b0 sz0 es vs)[i]?=(vs[i]?).map (V.frz b0 sz0 es)
 | [],i=>by rfl
 | v::vs,0=>by rfl
 | v::vs,i+1=>by simp[V.frz.go,jQ]
theorem je{b0 sz0:Nat}{es:List (List T)}:∀{vs:List V},(V.frz.go b0 sz0 es vs).length=vs.length
 | []=>rfl
 | v::vs=>by simp[V.frz.go,je]
theorem RV.frz{b0 sz0:Nat}{es:List (List T)}(hB:RB φ w S b0 (.arr sz0 es)){v:V}{x:Value}(h:RV φ w S v x):RV φ w (bU S (φ b0)) (v.frz b0 sz0 es) x:=by
 induction h with
 | c h=>exact .c (RC.frz hB h)
 | agg h=>exact .agg (h.map_left fun _ _=>RC.frz hB)
 | tup vs xs hl h ih=>
  refine .tup _ xs (by grind[je]) ?_
  grind[jQ]
theorem C.frz_bnd{b0 sz0:Nat}{es:List (List T)}{c:C}(h:c.bnd n=true):(c.frz b0 sz0 es).bnd n=true:=by
 cases c with
 | arr b sz off len=>simp[C.frz];split;split;rfl;rfl;grind
 | eptr b sz i o=>simp[C.frz];split;rfl;grind
 | _=>exact h
theorem V.frz_bnd{b0 sz0:Nat}{es:List (List T)}:∀{v:V},v.bnd n=true->(v.frz b0 sz0 es).bnd n=true
 | .c x,h=>by grind[V.frz,V.bnd,C.frz_bnd]
 | .agg cs,h=>by grind[V.frz,V.bnd,C.frz_bnd]
 | .tup vs,h=>by exact go vs h
where go:∀vs,V.bnd.V.bnds n vs=true->V.bnd.V.bnds n (V.frz.go b0 sz0 es vs)=true
 | [],_=>rfl
 | v::vs,h=>by simp[V.frz.go,V.bnd.V.bnds,Bool.and_eq_true]at h ⊢;exact⟨V.frz_bnd h.1,go vs h.2⟩
theorem Rel.freeze (R : Rel Γ nt φ S env J n a w) {b0 sz0 : Nat} {es : List (List T)} (hJ : sget J b0 = some (.arr sz0 es)):
 Rel Γ nt φ (bU S (φ b0)) (df b0 sz0 es env) (frzSt b0 sz0 es J) n a w:=by
 have hB:=R.sim.blk b0 _ hJ;have m:Mono w S w (bU S (φ b0)):=⟨fun _ _ h=>.inl h,fun _ _ _=>rfl⟩
 have hsub:∀b x,sget (frzSt b0 sz0 es J) b=some x->b≠b0/\∃x0,sget J b=some x0/\x=x0.frz b0 sz0 es:=by
  grind[ia,oZ1]
 have hnS:∀b x,b≠b0->sget J b=some x->(φ b).2≠0->∀j,¬bU S (φ b0) (φ b).1 j:=by
  intro b x hne hx h0 j hj;rcases hj with hj | ⟨hj0,hj⟩
  . exact(R.sim.blk b x hx).notS h0 j hj
  . exact R.sim.inj b b0 x _ hx hJ hne h0 hj0 hj
 refine⟨⟨fun b x hx=>?_,fun b b' x y hx hy hne h0 h0'=>?_,fun b j hj=>?_⟩,fun k g v hl hg=>?_,fun k g v hl hg=>?_,fun k g v hl hg=>?_,fun b x hx=>?_,R.size,R.defers,?_,fun b x hx h0=>?_,R.fix,R.kn⟩
 . obtain⟨hne,x0,hx0,rfl⟩:=hsub b x hx;have hR:=R.sim.blk b x0 hx0;cases x0 with
   | box cs=>
    obtain⟨h0,vs,E,h1,h2,h3⟩:=hR;exact⟨h0,vs,E,h1,h2.map_left fun _ _=>RC.frz hB,hnS b _ hne hx0 h0⟩
   | arr sz l=>
    obtain⟨h1,h2,h3,h4,h5⟩:=hR;refine⟨h1,h2,h3,h4,fun h0=>?_⟩
    grind[RT.mono]
   | set ks=>exact⟨hR.1,hR.2.1,hnS b _ hne hx0 hR.1⟩
   | buf E s=>exact⟨hR.1,hR.2.1,fun h0=>⟨(hR.2.2 h0).1,hnS b _ hne hx0 h0⟩⟩
   | bld E c=>
    obtain⟨h0,⟨p,v,h1,h2,h3⟩,h4⟩:=hR;exact⟨h0,⟨p,v,h1,h2,RC.frz hB h3⟩,hnS b _ hne hx0 h0⟩
   | arro sz l i o c=>
    obtain⟨⟨h1,h2,h3,h4,h5,h6⟩,⟨vs,E,k1,k2,k3,v,k4,k5⟩,k6⟩:=hR;exact⟨⟨h1,h2,h3,h4,h5,h6⟩,⟨vs,E,k1,k2,fun i j e t he ht hn=>let⟨v,hv,hr⟩:=k3 i j e t he ht hn;⟨v,hv,RT.mono m hr⟩,v,k4,RC.frz hB k5⟩,hnS b _ hne hx0 (by omega)⟩
 . obtain⟨_,x0,hx0,rfl⟩:=hsub b x hx;obtain⟨_,y0,hy0,rfl⟩:=hsub b' y hy;exact R.sim.inj b b' x0 y0 hx0 hy0 hne h0 h0'
 . rcases hj with hj | ⟨hj0,rfl⟩
   . exact R.sim.st b j hj
   . exact hB.real_lt hj0
 . rw[fS,oZ1]at hl;obtain⟨⟨g0,v0⟩,hl0,he⟩:=hl;cases he;obtain⟨x,hx,hr⟩:=R.envs k g0 v0 hl0 hg
   grind[RV.frz]
 . rw[fS,oZ1]at hl;obtain⟨⟨g0,v0⟩,hl0,he⟩:=hl;cases he;exact R.envn k g0 v0 hl0 hg
 . rw[fS,oZ1]at hl;obtain⟨⟨g0,v0⟩,hl0,he⟩:=hl;cases he;exact V.frz_bnd (R.ebnd k g0 v0 hl0 hg)
 . obtain⟨_,x0,hx0,rfl⟩:=hsub b x hx;refine⟨(R.sbnd b x0 hx0).1,?_⟩;have:=(R.sbnd b x0 hx0).2;cases x0 with
   | box cs=>grind[Blk.frz,Blk.bnd,List.all_map,List.all_eq_true,C.frz_bnd]
   | arr sz l=>rfl
   | set ks=>rfl
   | buf E s=>rfl
   | bld E c=>grind[Blk.frz,Blk.bnd,C.frz_bnd]
   | arro sz l i o c=>grind[Blk.frz,Blk.bnd,C.frz_bnd]
 . refine⟨R.ext.os,R.ext.tape,R.ext.output,R.ext.size,R.ext.block,R.ext.mono.trans m,fun b j hj=>?_⟩;rcases hj with hj | ⟨hj0,rfl⟩
   . exact R.ext.snew b j hj
   . rcases R.own b0 _ hJ hj0 with h | h
     all_goals grind
 . obtain⟨_,x0,hx0,rfl⟩:=hsub b x hx;exact R.own b x0 hx0 h0
theorem V.bnd_tt :∀v:V,v.bnd (fun _=>true)=true
 | .c x=>by grind[V.bnd,C.bnd_true]
 | .agg cs=>by grind[V.bnd,C.bnd_true]
 | .tup vs=>go vs
where go:∀vs,V.bnd.V.bnds (fun _=>true) vs=true
 | []=>rfl
 | v::vs=>by simp[V.bnd.V.bnds,V.bnd_tt v,go vs]
theorem Rel.giveup(R:Rel Γ nt φ S env J n a w){b0 sz0:Nat}{es:List (List T)}(hJ:sget J b0=some (.arr sz0 es)):Rel Γ nt φ (bU S (φ b0)) env (sdel J b0) n a w:=by
 have hB:=R.sim.blk b0 _ hJ;have m:Mono w S w (bU S (φ b0)):=⟨fun _ _ h=>.inl h,fun _ _ _=>rfl⟩
 have D:=R.del b0;have hsub:∀b x,sget (sdel J b0) b=some x->b≠b0/\sget J b=some x:=by
  grind[aC]
 have hnS:∀b x,b≠b0->sget J b=some x->(φ b).2≠0->∀j,¬bU S (φ b0) (φ b).1 j:=by
  intro b x hne hx h0 j hj;rcases hj with hj | ⟨hj0,hj⟩
  . exact(R.sim.blk b x hx).notS h0 j hj
  . exact R.sim.inj b b0 x _ hx hJ hne h0 hj0 hj
 have mc:∀{c:C} {v:Value},RC φ w S c v->RC φ w (bU S (φ b0)) c v:=fun h=>RC.mono m (fun _ _=>rfl) (C.bnd_true _) h
 refine⟨⟨fun b x hx=>?_,D.sim.inj,fun b j hj=>?_⟩,fun k g v hl hg=>?_,R.envn,R.ebnd,D.sbnd,R.size,R.defers,?_,D.own,R.fix,R.kn⟩
 . obtain⟨hne,hx0⟩:=hsub b x hx;have hR:=R.sim.blk b x hx0;cases x with
   | box cs=>
    obtain⟨h0,vs,E,h1,h2,h3⟩:=hR;exact⟨h0,vs,E,h1,h2.imp fun _ _ _=>mc,hnS b _ hne hx0 h0⟩
   | arr sz l=>
    obtain⟨h1,h2,h3,h4,h5⟩:=hR;refine⟨h1,h2,h3,h4,fun h0=>?_⟩
    grind[RT.mono]
   | set ks=>exact⟨hR.1,hR.2.1,hnS b _ hne hx0 hR.1⟩
   | buf E s=>exact⟨hR.1,hR.2.1,fun h0=>⟨(hR.2.2 h0).1,hnS b _ hne hx0 h0⟩⟩
   | bld E c=>
    obtain⟨h0,⟨p,v,h1,h2,h3⟩,h4⟩:=hR;exact⟨h0,⟨p,v,h1,h2,mc h3⟩,hnS b _ hne hx0 h0⟩
   | arro sz l i o c=>
    obtain⟨⟨h1,h2,h3,h4,h5,h6⟩,⟨vs,E,k1,k2,k3,v,k4,k5⟩,k6⟩:=hR;exact⟨⟨h1,h2,h3,h4,h5,h6⟩,⟨vs,E,k1,k2,fun i j e t he ht hn=>let⟨v,hv,hr⟩:=k3 i j e t he ht hn;⟨v,hv,RT.mono m hr⟩,v,k4,mc k5⟩,hnS b _ hne hx0 (by omega)⟩
 . rcases hj with hj | ⟨hj0,rfl⟩
   . exact R.sim.st b j hj
   . exact hB.real_lt hj0
 . obtain⟨x,hx,hr⟩:=R.envs k g v hl hg;exact⟨x,hx,RV.mono m (n:=fun _=>true) (fun _ _=>rfl) (V.bnd_tt _) hr⟩
 . refine⟨R.ext.os,R.ext.tape,R.ext.output,R.ext.size,R.ext.block,R.ext.mono.trans m,fun b j hj=>?_⟩;rcases hj with hj | ⟨hj0,rfl⟩
   . exact R.ext.snew b j hj
   . rcases R.own b0 _ hJ hj0 with h | h
     all_goals grind
theorem rM {te sz bytes : Nat} {x y : AO} {key : Nat} {r : Result Next} (hA : ∀ {p v J'}, aval (.append te sz bytes x y) env J key = some (p, v, J') -> p -> Good P Γ nt env J' (ins n key) a v r)
 {p v J'} (h:aval (.appendT te sz bytes x y) env J key=some (p,v,J')) (hk:∀z,sget J key≠some z) (hp:p):Good P Γ nt env J' (ins n key) a v r:=by
 simp only[aval,oZ2]at h;obtain⟨⟨p0,v0⟩,h1,⟨d1,d2⟩,h2,h⟩:=h;dsimp only at h;split at h
 . cases h
 . rename_i hwo;rw[oZ2]at h;obtain⟨ys,hys,h⟩:=h;split at h
   . rename_i b sz' off len;split at h
     . rename_i sz'' es hes;split at h
       . cases h
       . rename_i hnb;simp only[Option.some.injEq,Prod.mk.injEq]at h;obtain⟨rfl,rfl,rfl⟩:=h;obtain⟨hp1,hp2,rfl,rfl,rfl,rfl,hp3⟩:=hp
         obtain⟨X,φ',S',w',hrun,hv,hb,R'⟩:=hA (p:=p0/\d1/\sz''=sz''/\sz''=sz''/\0=0/\es.length=es.length/\_) (v:= .c (.arr key sz'' 0 (es.length+ys.1.length))) (J':=sput (sdel J b) key (.arr sz'' (es++ys.1))) (by simp only[aval,h1,h2,oZ3,hwo,hys,hes,if_neg hnb]) ⟨hp1,hp2,rfl,rfl,rfl,rfl,hp3⟩
         have hs:sget (sput (sdel J b) key (.arr sz'' (es++ys.1))) key=some (.arr sz'' (es++ys.1)):=by rw[ag,if_pos rfl]
         have hB:=R'.sim.blk key _ hs;cases hv with
         | c hv=>
         have hf:=RC.frz hB hv;have hf':RC φ' w' (bU S' (φ' key)) (.t (.slice (es++ys.1))) X:=by simpa[C.frz,cut]using hf
         refine⟨X,φ',_,w',hrun,.c hf',rfl,(R'.giveup hs).congr fun b'=>?_⟩;simp only[aC,ag];have hk':sget J key=none:=by cases hq:sget J key with | none=>rfl | some z=>exact absurd hq (hk z)
         by_cases e:key=b'
         . subst e;simp[hk']
         . simp[e]
     . cases h
   . cases h
end
end
section
open Go
variable [GV]
section
variable {P:Program} {Γ:Ctx} {nt:Nat} {φ:Phi} {S:Stab} {env:Env} {J:Store} {n:Nat->Bool} {key:Nat} {a:Act} {w:World}
theorem eK{α:Type}{x:Array α}{a b:α}(h:x.toList=[a,b]):x=#[a,b]:=by grind
theorem kE{α:Type}{x:Array α}{a:α}(h:x.toList=[a]):x=#[a]:=by grind
theorem tF (R : Rel Γ nt φ S env J n a w) {o : Oper} {c : Call} (ho : o.op = .call c) {ao : AOp} (hr : bE P c = some ao)
 {p v J'} (hk:n key=false) (h:aval ao env J key=some (p,v,J')) (hp:p):Good P Γ nt env J' (ins n key) a v ((execOp a.eval o).run P w):=by
 obtain⟨callee,args,argTypes⟩:=c;unfold bE at hr;split at hr
 . grind[kE,oZ1,uE]
 . rename_i hc;split at hr
   . rename_i x y t u hx ht;have hx:=eK hx;have ht:=eK ht;subst hc;subst hx;subst ht;split at hr
     . rename_i e hu hu';simp only[oZ2,Option.ite_none_right_eq_some,Option.some.injEq]at hr;obtain⟨i,hi,ax,hax,ay,hay,⟨h1,h2,h3⟩,rfl⟩:=hr;exact rI R ho hu hu' hi h1 h2 hax hay hk h hp
     . rename_i e e' hu hu';simp only[oZ2,Option.ite_none_right_eq_some,Option.some.injEq]at hr;obtain⟨i,hi,ax,hax,ay,hay,⟨h1,h2⟩,rfl⟩:=hr;exact rK R ho hu hu' hi h1 h2 hax hay hk h hp
     . cases hr
   grind
 . grind[eK,oZ2,oZ1,tf]
 . grind[eK,oZ2,oZ1,tg]
 . split at hr
   . rename_i x t hx ht;have hx:=kE hx;have ht:=kE ht;subst hx;subst ht;split at hr
     . simp only[Option.ite_none_right_eq_some,oZ1]at hr
       grind[sL]
     . cases hr
   grind
 . rename_i hc;split at hr
   . rename_i x y t u hx ht;have hx:=eK hx;have ht:=eK ht;subst hc;subst hx;subst ht;split at hr
     . rename_i e hu;simp only[Option.ite_none_right_eq_some,oZ2,oZ1]at hr;obtain⟨⟨_,_,h3⟩,ax,hax,ay,hay,rfl⟩:=hr;exact tC R ho hu h3 hax hay hk h hp
     grind
   grind
 . grind[oZ1,aval]
 . grind[oZ1,aval]
 grind
theorem Good.mono{v:V}{J':Store}{n1 n2:Nat->Bool}(h:∀b,n1 b=true->n2 b=true){r:Result Next}(g:Good P Γ nt env J' n1 a v r):Good P Γ nt env J' n2 a v r:=by
 obtain⟨x,φ',S',w',h1,h2,h3,R'⟩:=g;exact⟨x,φ',S',w',h1,h2,V.bnd_mono h h3,R'.more h⟩
theorem mr (R : Rel Γ nt φ S env J n a w) {o : Oper} {ao : AOp} (hr : au P o.op = some ao)
 (hns:∀e e8,ao≠.allocS e e8) {p v J'} (hk:n key=false) (h:aval ao env J key=some (p,v,J')) (hp:p):Good P Γ nt env J' (ins n key) a v ((execOp a.eval o).run P w):=by
 generalize hop:o.op=op at hr;cases op with
 | move x=>simp only[au,oZ1]at hr;obtain⟨ax,hx,rfl⟩:=hr;exact nO R (.inl hop) hx hk h hp
 | assign x=>simp only[au,oZ1]at hr;obtain⟨ax,hx,rfl⟩:=hr;exact nO R (.inr hop) hx hk h hp
 | pick c x y=>
  simp only[au,oZ2,oZ1]at hr;obtain⟨ac,hc,ax,hx,ay,hy,rfl⟩:=hr;exact s9 R hop hc hx hy hk h hp
 | alloc e=>
  simp only[au]at hr;split at hr
  . cases hr;exact absurd rfl (hns _ _)
  . simp only[oZ2]at hr;obtain⟨cs,hcs,hr⟩:=hr;split at hr
    . split at hr
      . rename_i hc;cases hr;exact rZ R hop hcs (by omega) (by omega) hk h hp
      . cases hr;exact mn R hop hcs hk h hp
    . cases hr;exact mn R hop hcs hk h hp
 | box e x=>simp only[au,oZ1]at hr;obtain⟨ax,hx,rfl⟩:=hr;exact uG R hop hx hk h hp
 | build t parts=>
  simp only[au]at hr;split at hr
  . rename_i fs hfs;simp only[Option.ite_none_right_eq_some,oZ2,oZ1]at hr;obtain⟨h1,z,hz,ps,hps,rfl⟩:=hr;exact sE R hop hfs h1 hz hps hk h hp
  . simp only[oZ2,oZ1]at hr;rename_i len e hu;obtain⟨z,hz,m,hm,ps,hps,rfl⟩:=hr;exact rC R hop hu hm hz hps hk h hp
  . cases hr
 | buildSlice t len parts=>
  simp only[au]at hr;split at hr
  . rename_i e hu;simp only[oZ2,Option.ite_none_right_eq_some,Option.some.injEq]at hr;obtain⟨m,hm,z,hz,ps,hps,⟨h1,h2,h3⟩,rfl⟩:=hr;exact rW R hop hu hm hz hps h1 h2 h3 hk h hp
  . cases hr
 | load t x=>
  simp only[au,oZ2,oZ1]at hr;obtain⟨g,hg,ax,hx,rfl⟩:=hr;exact tm R hop hg hx hk h hp
 | store t x y=>
  simp only[au,oZ2,oZ1]at hr;obtain⟨m,hm,ax,hx,ay,hy,rfl⟩:=hr;exact sD R hop hm hx hy hk h hp
 | nilCheck x=>simp only[au,oZ1]at hr;obtain⟨ax,hx,rfl⟩:=hr;exact rB R hop hx hk h hp
 | binOp op t x y yt=>
  simp only[au]at hr;split at hr
  . rename_i hop';split at hr
    . simp only[oZ2,oZ1]at hr;obtain⟨ks,hks,ax,hx,ay,hy,rfl⟩:=hr;exact sN R hop hop' hks hx hy hk h hp
    . simp only[oZ2,oZ1]at hr;obtain⟨ks,hks,ax,hx,ay,hy,rfl⟩:=hr;exact sC R hop hop' hks hx hy hk h hp
    . simp only[Option.ite_none_right_eq_some,oZ1]at hr
      grind[aval]
    . rename_i hu;simp only[oZ2,oZ1]at hr;obtain⟨ax,hx,ay,hy,rfl⟩:=hr;exact rU R hop hop' hu hx hy hk h hp
    . simp only[oZ2,oZ1]at hr;obtain⟨ax,hx,ay,hy,rfl⟩:=hr;exact j4 R hop hx hy hk h hp
    . simp only[oZ2,oZ1]at hr;obtain⟨ax,hx,ay,hy,rfl⟩:=hr;exact j4 R hop hx hy hk h hp
    . cases hr
  . simp only[oZ2,oZ1]at hr;obtain⟨ax,hx,ay,hy,rfl⟩:=hr;exact j4 R hop hx hy hk h hp
 | unOp u t x=>
  cases u <;> simp only[au,oZ1,reduceCtorEq]at hr
  . split at hr
    . simp only[oZ1]at hr;obtain⟨ax,hx,rfl⟩:=hr;exact ux R hop hx hk h hp
    . cases hr
  . split at hr
    . simp only[oZ1]at hr;obtain⟨ax,hx,rfl⟩:=hr;exact uy R hop hx hk h hp
    . cases hr
  . obtain⟨ax,hx,rfl⟩:=hr;exact uw R hop hx hk h hp
 | convert s d x=>
  simp only[au]at hr;split at hr
  . rename_i hs hd;simp only[oZ1]at hr;obtain⟨ax,hx,rfl⟩:=hr;exact tc R hop hs hd hx hk h hp
  . rename_i hs hd;simp only[oZ1]at hr;obtain⟨ax,hx,rfl⟩:=hr;exact uz R hop hs hd hx hk h hp
  . rename_i hs hd;simp only[oZ1]at hr;obtain⟨ax,hx,rfl⟩:=hr;exact uA R hop hs hd hx hk h hp
  . rename_i e hs hd;simp only[Option.ite_none_right_eq_some,oZ1]at hr;obtain⟨⟨he,hsz⟩,ax,hx,rfl⟩:=hr;have he':P.underlying e=some (.int .u8):=by grind
    exact uI R hop hs he' hd hx hk h hp
  . cases hr
 | fieldAddr t x f=>
  simp only[au]at hr;split at hr
  . rename_i fs hfs;simp only[oZ2,Option.ite_none_left_eq_some,oZ1]at hr;obtain⟨fd,hf,m,hm,hm0,ax,hx,rfl⟩:=hr;exact td R hop hfs hf hm hm0 hx hk h hp
  . cases hr
 | field t x f=>
  simp only[au]at hr;split at hr
  . rename_i fs hfs;simp only[oZ2,oZ1]at hr;obtain⟨fd,hf,g,hg,ax,hx,rfl⟩:=hr;obtain⟨h1,h2,h3⟩:=jP hg;exact uB R hop hfs hf h2 h1 h3 hx hk h hp
  . cases hr
 | indexAddr t x i=>
  simp only[au]at hr;split at hr
  . rename_i e hu;simp only[oZ2,Option.ite_none_left_eq_some,oZ1]at hr;obtain⟨m,hm,hm0,ax,hx,ai,hi,rfl⟩:=hr;exact th R hop hu hm hm0 hx hi hk h hp
  . rename_i k e hu;split at hr
    . simp only[Option.ite_none_right_eq_some,oZ2,oZ1]at hr;obtain⟨h0,s,hs,ax,hx,rfl⟩:=hr;exact tv R hop hu h0 hs hx hk h hp
    . simp only[Option.ite_none_right_eq_some,oZ2,oZ1]at hr;obtain⟨hsz,ax,hx,ai,hi,rfl⟩:=hr;exact tu R hop hu hsz hx hi hk h hp
  . cases hr
 | index t x i=>
  simp only[au]at hr;split at hr
  . rename_i hu;simp only[oZ2,oZ1]at hr;obtain⟨ax,hx,ai,hi,rfl⟩:=hr;exact ti R hop hu hx hi hk h hp
  . rename_i hu;simp only[Option.ite_none_right_eq_some,oZ2,oZ1]at hr;obtain⟨hl,ax,hx,ai,hi,rfl⟩:=hr;exact tD R hop hu hl hx hi hk h hp
  . cases hr
 | slice t x lo hi mx=>
  simp only[au]at hr;split at hr
  . rename_i hu;simp only[Option.ite_none_right_eq_some,oZ2,oZ1,Option.isNone_iff_eq_none]at hr;obtain⟨rfl,ax,hx,al,hl,ah,hh,rfl⟩:=hr;exact tk R hop hu hx hl hh hk h hp
  . rename_i e hu;split at hr
    . simp only[oZ2,Option.ite_none_left_eq_some,oZ1]at hr;obtain⟨m,hm,hm0,ax,hx,al,hl,ah,hh,rfl⟩:=hr;exact uF R hop hu hm hx hl hh hk h hp
    . split at hr
      . simp only[Option.ite_none_right_eq_some,oZ1]at hr
        grind[Option.isSome_iff_exists,tl]
      . cases hr
    . cases hr
  . simp only[Option.ite_none_right_eq_some,oZ2,oZ1,Option.isNone_iff_eq_none]at hr
    grind[tw]
  grind
 | makeFunc fn first caps=>
  cases fn <;> simp only[au,Option.ite_none_right_eq_some,oZ1,reduceCtorEq]at hr
  grind[tj]
 | extract x i=>grind[au,oZ1,uC]
 | makeSlice t x y=>
  simp only[au]at hr;split at hr
  . rename_i hu;simp only[Option.ite_none_right_eq_some,oZ2,oZ1]at hr;obtain⟨hxy,i,hi,z,hz,⟨h0,hl⟩,ax,hx,rfl⟩:=hr;exact r7 R hop hu hxy hi hz h0 hl hx hk h hp
  . cases hr
 | makeMap t r=>
  cases r with
  | some _=>simp[au]at hr
  | none=>
   simp only[au,Option.ite_none_right_eq_some,Option.some.injEq]at hr
   grind[sG]
 | lookup t x i c=>
  cases c with
  | true=>simp[au]at hr
  | false=>
   simp only[au,Option.ite_none_right_eq_some,oZ2,oZ1]at hr
   grind[sH]
 | mapUpdate t m k v0=>
  simp only[au,Option.ite_none_right_eq_some,oZ2,oZ1]at hr
  grind[sI]
 | call c=>grind[au,tF]
 | _=>simp[au]at hr
def insR(n:Nat->Bool)(k:Nat):Nat->Bool:=fun b=>n b || (decide (k<=b) && decide (b < k+16))
theorem bH{b:Nat}(h:n b=true):insR n key b=true:=by grind[insR]
theorem kj{b:Nat}(h:ins n key b=true):insR n key b=true:=by
 grind[ins,insR]
theorem sO{b:Bool}{o ao:AOp}(h:frzA b o=ao):o=ao\/∃te sz bytes x y,o= .append te sz bytes x y/\ao= .appendT te sz bytes x y:=by
 unfold frzA at h;split at h
 . cases b
   . exact .inl h
   . exact .inr ⟨_,_,_,_,_,rfl,h.symm⟩
 . exact .inl h
theorem lD{fz:Bool×Bool}{op:Op}{ao:AOp}(h:eo P fz op=some ao):(au P op=some ao\/∃te sz bytes x y,au P op=some (.append te sz bytes x y)/\ao= .appendT te sz bytes x y)\/∃t len parts e m z ps,op= .buildSlice t len parts/\P.underlying t=some (.slice e)/\sizeT P e=some m/\zeroC P e=some z/\cM parts.toList=some ps/\m≠0/\z.length=m/\len*m<=2 ^ 24/\ao= .bsliceT e m len z ps:=by
 unfold eo at h;split at h
 . right
   grind[oZ2]
 . rename_i c _;obtain⟨o,h1,h2⟩:=Option.map_eq_some_iff.1 h;rcases sO h2 with rfl | ⟨te,sz,bytes,x,y,rfl,rfl⟩
   . exact .inl (.inl h1)
   . exact .inl (.inr ⟨te,sz,bytes,x,y,h1,rfl⟩)
 . exact .inl (.inl h)
theorem ra{op:Op}{e e8:Nat}(h:au P op=some (.allocS e e8)):op= .alloc e/\fB P e=some e8:=by
 cases op with
 | alloc e'=>
  grind[au,oZ2]
 | buildSlice t len parts=>
  simp[au]at h;split at h
  . simp_all[oZ2]
  grind
 | build t parts=>
  simp[au]at h;split at h
  . simp_all[oZ2]
  . grind[oZ2,oZ1]
  grind
 | call c=>
  simp[au]at h;unfold bE at h
  repeat' (first | (split at h) | (done))
  all_goals simp only[oZ2,oZ1,Option.ite_none_right_eq_some,Option.some.injEq,reduceCtorEq,and_false,exists_false,exists_const]at h
 | binOp op t x y yt=>
  simp only[au]at h
  repeat' (first | (split at h) | (cases h;done))
  all_goals simp only[oZ2,oZ1,Option.ite_none_right_eq_some,Option.some.injEq,reduceCtorEq,and_false,exists_false,exists_const]at h
 | unOp u t x=>
  cases u <;> simp only[au]at h
  all_goals repeat' (first | (split at h) | (cases h;done))
  all_goals simp_all
 | makeMap t r=>cases r <;> simp only[au,reduceCtorEq,Option.ite_none_right_eq_some,Option.some.injEq,and_false]at h
 | lookup t x i c=>cases c <;> simp only[au,reduceCtorEq,Option.ite_none_right_eq_some,oZ2,oZ1,and_false,exists_false]at h
 | makeFunc fn first caps=>cases fn <;> simp only[au,Option.ite_none_right_eq_some,oZ1,reduceCtorEq,and_false,exists_false]at h
 | convert s d x=>
  simp only[au]at h
  repeat' (first | (split at h) | (cases h;done))
  all_goals simp_all
 | _=>
  simp only[au]at h
  try repeat' (first | (split at h) | (cases h;done))
  all_goals simp only[oZ2,oZ1,Option.ite_none_right_eq_some,Option.ite_none_left_eq_some,reduceCtorEq,and_false,exists_false,exists_const]at h
theorem tG (R : Rel Γ nt φ S env J n a w) {o : Oper} {ao : AOp} {fz : Bool×Bool} (hr : eo P fz o.op = some ao)
 {p v J'} (hn:∀b,key<=b->b < key+16->n b=false) (h:aval ao env J key=some (p,v,J')) (hp:p):Good P Γ nt env J' (insR n key) a v ((execOp a.eval o).run P w):=by
 have hk:=hn _ (Nat.le_refl _) (by simp);rcases lD hr with(hr | ⟨te,sz,bytes,x,y,hr2,rfl⟩) | ⟨t,len,parts,e,m,z,ps,hop,hu,hm,hz,hps,h1,h2,h3,rfl⟩
 . by_cases hs:∃e e8,ao= .allocS e e8
   . obtain⟨e,e8,rfl⟩:=hs;obtain⟨hop,hb8⟩:=ra hr;refine(r0 R hop hb8 hk (hn _ (by simp) (by simp)) h hp).mono fun b hb=>?_
     grind[ins,insR]
   . exact(mr R hr (fun e e8 he=>hs ⟨e,e8,he⟩) hk h hp).mono fun b hb=>kj hb
 . refine(rM (fun h' hp'=>mr R hr2 (fun e e8 he=>by cases he) hk h' hp') h (fun z hz=>?_) hp).mono fun b hb=>kj hb
   have:=(R.sbnd _ _ hz).1;rw[hk]at this;cases this
 . exact(rH R hop hu hm hz hps h1 h2 h3 hk h hp).mono fun b hb=>kj hb
end
end
section
open Go
variable [GV]
def ACall(P:Program)(f:Nat)(args:List V)(J:Store)(key:Nat)(K:V->Store->Prop):Prop:=
 ∀Γ nt φ S env n a w,Rel Γ nt φ S env J n a w->(∀b,key<=b->b < key+16->n b=false)->V.bnd.V.bnds n args=true->∀vs:List Value,All2 (RV φ w S) args vs->
  Calls P f vs.toArray w fun e w'=>∃v r φ' S' J',e= .returned v/\K r J'/\RV φ' w' S' r v/\r.bnd (insR n key)=true/\Rel Γ nt φ' S' env J' (insR n key) a w'
theorem ACall.mono{P:Program}{f:Nat}{args:List V}{J:Store}{key:Nat}{K K':V->Store->Prop}(h:ACall P f args J key K)(hk:∀r J',K r J'->K' r J'):ACall P f args J key K':=
 fun Γ nt φ S env n a w R hn hb vs hv=>(h Γ nt φ S _ n a w R hn hb vs hv).mono fun e w' ⟨v,r,φ',S',J',h1,h2,h3⟩=>⟨v,r,φ',S',J',h1,hk _ _ h2,h3⟩
def aI(env:Env):Option (Nat×Bool)->Option Bool
 | none=>some true
 | some (t,b)=>match look env t with
  | some (g,.c (.t (.bool x)))=>some (g && (x==b))
  | _=>none
def aA(env:Env)(dst:Option Nat)(g:Bool)(v:V):Env:=
 match dst with
 | none=>env
 | some d=>(d,g,v)::env
def boolV(b:Bool):V:= .c (.t (.bool b))
def astep(P:Program)(o:AOper)(key:Nat)(env:Env)(J:Store)(K:Env->Store->Prop):Prop:=
 match aI env o.guard with
 | none=>False
 | some g=>(g=false/\∃v,K (aA env o.dst g v) J)\/
  match o.op with
  | .call f args=>match gets env args with
   | some (p,vs)=>match o.guard with
    | none=>p/\ACall P f vs J key (fun r J'=>K (aA env o.dst true r) J')
    | some _=>(g=true/\p/\ACall P f vs J key (fun r J'=>K (aA env o.dst true r) J'))\/∃r,(g=true->p/\ACall P f vs J key (fun r' J'=>r'=r/\J'=J))/\K (aA env o.dst g r) J
   | none=>False
  | .callv x args=>match x.get env,gets env args with
   | some (q,.c (.fn f caps)),some (p,vs)=>o.guard=none/\aH P f=true/\q/\p/\ACall P f (vs++caps.map (fun b=>V.c (.ptr b 0))) J key (fun r J'=>K (aA env o.dst true r) J')
   | _,_=>False
  | .eqNil neg x=>match x.get env with
   | some (p,.c (.t (.slice es)))=>o.guard=none/\p/\∀b:Bool,(es≠[]->b=false)->K (aA env o.dst true (boolV (if neg then !b else b))) J
   | some (p,.c .cap0)=>o.guard=none/\p/\∀b:Bool,K (aA env o.dst true (boolV (if neg then !b else b))) J
   | some (p,.c (.arr _ _ _ l))=>o.guard=none/\p/\∀b:Bool,(l≠0->b=false)->K (aA env o.dst true (boolV (if neg then !b else b))) J
   | _=>False
  | op=>match aval op env J key with
   | some (p,v,J')=>(g=true->p)/\(op.neutral=true\/g=true)/\K (aA env o.dst g v) (if op.neutral then J else J')
   | none=>False
def aops(P:Program):List AOper->Nat->Env->Store->(Env->Store->Prop)->Prop
 | [],_,env,J,K=>K env J
 | o::r,key,env,J,K=>astep P o key env J fun env' J'=>aops P r (key+16) env' J' K
section
variable {P:Program} {Γ:Ctx} {nt:Nat} {φ:Phi} {S:Stab} {env:Env} {J:Store} {n:Nat->Bool} {key:Nat} {a:Act} {w:World}
theorem bO{dst:Option Nat}{g:Bool}{v:V}{k:Nat}:look (aA env dst g v) k=if dst=some k then some (g,v)else look env k:=by
 unfold aA
 grind[look]
theorem Rel.bindv (R : Rel Γ nt φ S env J n a w) {dst : Option Nat} (hd : ∀ d, dst = some d -> d < nt) {g : Bool} {x : Value} {v : V} (hx : g = true -> RV φ w S v x) (hu : g = false -> x = undef) (hb : g = true -> v.bnd n = true):
 Rel Γ nt φ S (aA env dst g v) J n (a.put dst x) w:=by
 have hput:∀k,(a.put dst x).tmps[k]?=if dst=some k then some x else a.tmps[k]?:=by
  cases dst with
  | none=>simp[Act.put]
  | some d=>
   have hlt:d < a.tmps.size:=by rw[R.size];grind
   grind[Act.put]
 refine⟨R.sim,fun k g' v' hl hg=>?_,fun k g' v' hl hg=>?_,fun k g' v' hl hg=>?_,R.sbnd,?_,?_,R.ext,R.own,R.fix,R.kn⟩
 . rw[bO]at hl;rw[hput];split at hl
   . grind
   . rename_i h;rw[if_neg h];exact R.envs k g' v' hl hg
 . rw[bO]at hl;rw[hput];split at hl
   . grind
   . rename_i h;rw[if_neg h];exact R.envn k g' v' hl hg
 . rw[bO]at hl;split at hl
   . grind
   . exact R.ebnd k g' v' hl hg
 . cases dst <;> simp[Act.put,R.size]
 . cases dst <;> simp[Act.put,R.defers]
theorem mu(R:Rel Γ nt φ S env J n a w){ops:Array Oper}{o:Oper}{gd:Option (Nat×Bool)}(hr:dA ops o.guard=some gd){g:Bool}(hg:aI env gd=some g):Region.wanted o (yielded ops a.tmps)=g:=by
 unfold Region.wanted;cases hog:o.guard with
 | none=>
  grind[dA,aI]
 | some jb=>
  rw[hog]at hr;simp only[dA,oZ1]at hr;obtain⟨d,hd,rfl⟩:=hr;simp[aI]at hg;split at hg
  . rename_i g' x hl;simp at hg;subst hg;simp[yielded,hd];cases hg':g' with
    | true=>
     obtain⟨y,hy,hr⟩:=R.envs d g' _ hl hg';have:=hr.bool_inv
     grind
    | false=>
     have:=R.envn d g' _ hl hg';simp only[this];rfl
  grind
def Post(Γ:Ctx)(nt:Nat)(n:Nat->Bool)(K:Env->Store->Prop)(a:Act)(w:World):Prop:=∃φ S env J,K env J/\Rel Γ nt φ S env J n a w
theorem sP {f : Nat} (h : aH P f = true): ∃ fn, P.funcs[f]? = some fn /\ fn.body.isSome = true /\ (fn.name == "runtime.NumGoroutine") = false := by
 grind[aH]
theorem r8{f:Nat}(h:aH P f=true)(args:Array Value)(w:World):(callFunc f args).run P w= .ok (.enter f args) w:=by
 obtain⟨fn,h1,h2,h3⟩:=sP h;obtain⟨c,hc⟩:=Option.isSome_iff_exists.1 h2;simp only[callFunc,Sem.run_bind,run_program,Result.andThen_ok,h1,h3,hc,Bool.false_eq_true,if_false,Option.isNone_some,Sem.run_pure]
theorem fy{o:AOp}(h:o.neutral=true){p v J'}(ha:aval o env J key=some (p,v,J')):J'=J:=by
 cases o <;> simp[AOp.neutral]at h <;> simp only[aval,oZ2,oZ1]at ha
 all_goals
  (try (obtain⟨a1,h1,ha⟩:=ha))
  (try (obtain⟨a2,h2,ha⟩:=ha))
  (try (obtain⟨a3,h3,ha⟩:=ha))
  (try split at ha)
  (try (simp_all;done))
 all_goals repeat' (first | (cases ha;done) | (cases ha;rfl) | (simp only[oZ1]at ha;obtain⟨_,_,_,_,rfl⟩:=ha;rfl) | split at ha)
theorem lx {ops : Array Oper} {o : Oper} {ao : AOper} (h : eh P nt ops o = some ao):
 eo P (mU ops o) o.op=some ao.op/\dA ops o.guard=some ao.guard/\ao.dst=o.dst/\∀d,ao.dst=some d->d < nt:=by
 grind[eh,oZ2]
theorem fk{fz:Bool×Bool}{op:Op}{ao:AOp}(h:eo P fz op=some ao)(hb:∀e m l z ps,ao≠.bsliceT e m l z ps)(ha:∀e m l x y,ao≠.appendT e m l x y):au P op=some ao:=by
 grind[lD]
theorem jR{ops:Array Oper}{o:Oper}{g:Option (Nat×Bool)}(h:dA ops o.guard=some g)(hg:g=none):o.guard=none:=by
 cases ho:o.guard with
 | none=>rfl
 | some x=>
  grind[dA,oZ1]
theorem j6{e:TypeId}{ao:AOp}(h:au P (.alloc e)=some ao)(h1:∀cs,ao≠.alloc cs)(h2:∀cs,ao≠.allocA cs)(h3:∀e e8,ao≠.allocS e e8):False:=by
 grind[au,oZ2]
theorem lr{op:Op}{f:Nat}{args:List AO}(h:au P op=some (.call f args)):∃c,op= .call c/\bE P c=some (.call f args):=by
 cases op with
 | call c=>exact⟨c,rfl,h⟩
 | alloc e=>exfalso;exact j6 h (by simp) (by simp) (by simp)
 | makeMap t r=>cases r <;> simp[au]at h
 | lookup t x i c=>cases c <;> simp[au,oZ2]at h
 | unOp u t x=>
  cases u <;> simp[au]at h
  all_goals (repeat' split at h) <;> (first | (done) | simp at h)
 | makeFunc fn b c=>cases fn <;> simp[au]at h
 | _=>
  simp only[au]at h
  (repeat' split at h) <;> (first | (cases h) | simp[oZ2,oZ1]at h)
theorem lp{op:Op}{x:AO}{args:List AO}(h:au P op=some (.callv x args)):∃c,op= .call c/\bE P c=some (.callv x args):=by
 cases op with
 | call c=>exact⟨c,rfl,h⟩
 | alloc e=>exfalso;exact j6 h (by simp) (by simp) (by simp)
 | makeMap t r=>cases r <;> simp[au]at h
 | lookup t x i c=>cases c <;> simp[au,oZ2]at h
 | unOp u t x=>
  cases u <;> simp[au]at h
  all_goals (repeat' split at h) <;> (first | (done) | simp at h)
 | makeFunc fn b c=>cases fn <;> simp[au]at h
 | _=>
  simp only[au]at h
  (repeat' split at h) <;> (first | (cases h) | simp[oZ2,oZ1]at h)
theorem lu{c:Call}{f:Nat}{args:List AO}(h:bE P c=some (.call f args)):c.callee= .value (.func f)/\aH P f=true/\opds c.args.toList=some args:=by
 unfold bE at h
 (repeat' split at h) <;> simp[oZ2]at h
 grind
theorem lq{c:Call}{x:AO}{args:List AO}(h:bE P c=some (.callv x args)):∃t,x= .tmp t/\c.callee= .value (.tmp t)/\opds c.args.toList=some args:=by
 unfold bE at h
 (repeat' split at h) <;> simp[oZ2]at h
 grind
theorem qX {op : Op} {neg : Bool} {x : AO} (h : au P op = some (.eqNil neg x)):
 ∃bo t y z yt e,op= .binOp bo t y z yt/\(bo= .eql\/bo= .neq)/\neg=(bo== .neq)/\P.underlying t=some (.slice e)/\jO z=true/\opd y=some x:=by
 cases op with
 | binOp bo t y z yt=>
  simp[au]at h
  (repeat' split at h) <;> (try (done)) <;> simp[oZ2,oZ1,reduceCtorEq,and_false]at h
  grind
 | call c=>
  simp[au]at h;unfold bE at h
  (repeat' split at h) <;> (first | (done) | simp[oZ2]at h)
 | alloc e=>exfalso;exact j6 h (by simp) (by simp) (by simp)
 | makeMap t r=>cases r <;> simp[au]at h
 | lookup t x i c=>cases c <;> simp[au,oZ2]at h
 | unOp u t x=>
  cases u <;> simp[au]at h
  all_goals (repeat' split at h) <;> (first | (cases h;done) | simp at h)
 | makeFunc fn b c=>cases fn <;> simp[au]at h
 | _=>
  simp only[au]at h
  (repeat' split at h) <;> (first | (cases h;done) | simp[oZ2,oZ1]at h)
theorem dI {o : Oper} {c : Call} (ho : o.op = .call c) {x : Operand} (hc : c.callee = .value x) {f : Nat} {caps : List Value} (hx : a.eval x = .func (.func f) #[] caps.toArray) (hb : aH P f = true):
 (execOp a.eval o).run P w= .ok (.enter f (c.args.toList.map a.eval++caps).toArray) w:=by
 have e:(c.args.map a.eval++caps.toArray)=(c.args.toList.map a.eval++caps).toArray:=by simp
 grind[execOp,Go.resolve,Deferred.ofValue,invoke,r8]
theorem Calls.next {f : Nat} {args : Array Value} {key : Nat} {K : Env -> Store -> Prop} {dst : Option Nat} {Q : Exit -> Act -> World -> Prop} {o : Oper} (hdst : dst = o.dst) (hd : ∀ d, dst = some d -> d < nt) {g : Bool} (hg : g = true) {K2 : V -> Store -> Prop}
 (hK:∀r s,K2 r s->K (aA env dst g r) s)
 (h:Calls P f args w fun e w'=>∃v r φ' S' J',e= .returned v/\K2 r J'/\RV φ' w' S' r v/\r.bnd (insR n key)=true/\Rel Γ nt φ' S' env J' (insR n key) a w')
 (hrun:(execOp a.eval o).run P w= .ok (.enter f args) w):o.wp P a w (Post Γ nt (insR n key) K) Q:=by
 unfold Oper.wp;rw[hrun];refine h.mono ?_
 rintro e w' ⟨v,r,φ',S',J',rfl,h1,h2,h3,h4⟩
 subst hdst;exact⟨φ',S',_,J',hK _ _ h1,h4.bindv hd (fun _=>h2) (fun h=>by grind) (fun _=>h3)⟩
theorem gQ (R : Rel Γ nt φ S env J n a w) (hn : ∀ b, key <= b -> b < key + 16 -> n b = false) {ops : Array Oper} {o : Oper} {ao : AOper} (hr : eh P nt ops o = some ao) {K : Env -> Store -> Prop} (h : astep P ao key env J K) {Q : Exit -> Act -> World -> Prop}:
 if Region.wanted o (yielded ops a.tmps)then o.wp P a w (Post Γ nt (insR n key) K) Q else Post Γ nt (insR n key) K (a.put o.dst undef) w:=by
 obtain⟨h1,h2,h3,h4⟩:=lx hr;unfold astep at h;split at h
 . grind
 . rename_i g hg;have hw:=mu R h2 hg;rw[hw];have Runw:∀{v:V} {s:Store},K (aA env ao.dst g v) s->s=J->g=false->Post Γ nt (insR n key) K (a.put o.dst undef) w:=by
    intro v s hK hs hgf;subst hs;rw[<-h3];exact⟨φ,S,_,_,hK,(R.more fun _ h=>bH h).bindv h4 (fun h=>by grind) (fun _=>rfl) (fun h=>by grind)⟩
   rcases h with⟨hgf,v,hK⟩ | h
   . grind
   split at h
   ·
    rename_i f args hop;rw[hop]at h1;have hcall:∃c,o.op= .call c/\c.callee= .value (.func f)/\aH P f=true/\opds c.args.toList=some args:=by
     obtain⟨c,hc,hr⟩:=lr (fk h1 (by simp) (by simp))
     grind[lu]
    obtain⟨c,hc1,hc2,hb,hargs⟩:=hcall;split at h
    . rename_i p vs hgs;have hrun:∀w':World,(execOp a.eval o).run P w= .ok (.enter f (c.args.toList.map a.eval).toArray) w:=by
       have:=dI (P:=P) (w:=w) (a:=a) hc1 hc2 (f:=f) (caps:=[]) rfl hb
       grind
      split at h
      . have hgt:g=true:=by grind[aI]
        subst hgt;obtain⟨hp,hA⟩:=h;obtain⟨g1,g2⟩:=c6 R hargs hgs hp;exact Calls.next h3 h4 rfl (fun _ _ h=>h) (hA Γ nt φ S env n a w R hn g2 _ g1) (hrun w)
      . rcases h with⟨hgt,hp,hA⟩ | ⟨r,hA,hK⟩
        . subst hgt;obtain⟨g1,g2⟩:=c6 R hargs hgs hp;exact Calls.next h3 h4 rfl (fun _ _ h=>h) (hA Γ nt φ S env n a w R hn g2 _ g1) (hrun w)
        cases hgv:g with
        | true=>
         obtain⟨hp,hA⟩:=hA hgv;obtain⟨g1,g2⟩:=c6 R hargs hgs hp;refine Calls.next (K2:=fun r' J'=>r'=r/\J'=J) h3 h4 hgv (fun r' s hh=>?_) (hA Γ nt φ S env n a w R hn g2 _ g1) (hrun w)
         grind
        | false=>
         grind
    grind
   . rename_i x args hop;rw[hop]at h1;obtain⟨c,hc1,hr⟩:=lp (fk h1 (by simp) (by simp));obtain⟨t,rfl,hc2,hargs⟩:=lq hr;split at h
     . rename_i q f caps p vs hgx hgs;obtain⟨hgn,hb,hq,hp,hA⟩:=h;have hgt:g=true:=by grind[aI]
       subst hgt;obtain⟨g1,g2⟩:=c6 R hargs hgs hp;have hx:=ae (x:= .tmp t) R rfl hgx hq;have hxe:=hx.1.c_inv;have hcaps:All2 (RV φ w S) (caps.map fun b=>V.c (.ptr b 0)) (caps.map fun b=>Value.pointer (some ⟨(φ b).1,0,none⟩)):=by
        refine All2.of_get (by simp) ?_;intro i v x h1 h2;simp only[List.getElem?_map,oZ1]at h1 h2;obtain⟨b,hb1,rfl⟩:=h1;obtain⟨b',hb2,rfl⟩:=h2;rw[hb1]at hb2;cases hb2;exact .c rfl
       have hcb:V.bnd.V.bnds n (vs++caps.map fun b=>V.c (.ptr b 0))=true:=by
        grind[dB,List.getElem?_append_left,bQ,List.getElem?_append_right,oZ1,V.bnd,C.bnd,List.all_eq_true]
       exact Calls.next h3 h4 rfl (fun _ _ h=>h) (hA Γ nt φ S env n a w R hn hcb _ (g1.append hcaps)) (dI hc1 hc2 hxe hb)
     grind
   . rename_i neg x hop;rw[hop]at h1;obtain⟨bo,ty,y,z,yt,e,hoo,hbo,rfl,hu,hz,hy⟩:=qX (fk h1 (by simp) (by simp));have key0:∀(b:Bool) (ad:Option Addr) (l c:Nat),a.eval y= .slice ad l c->ad.isNone=b->(execOp a.eval o).run P w= .ok (.value (.bool (if(bo== .neq)then !b else b))) w:=by
      intro b ad l c hv hb;subst hb;obtain⟨z',hz',hz2⟩:∃z':Value,a.eval z=z'/\z'= .slice none 0 0:=by
       unfold jO at hz;split at hz
       . exact⟨_,rfl,rfl⟩
       grind
      subst hz2;have eg:(eqGuard bo ty y z (a.eval y) (a.eval z)).run P w= .ok () w:=jx (by grind) (by grind);have ee:(Op.equal ty (.slice ad l c) (.slice none 0 0)).run P w= .ok ad.isNone w:=by
       obtain⟨d,hd⟩:∃d,Op.maxDepth=d+1:=⟨9999,rfl⟩
       unfold Op.equal;rw[hd];unfold Op.equalIn;cases ad with
       | none=>simp only[Sem.run_bind,run_underlying hu,Result.andThen_ok];rfl
       | some ad=>simp only[Sem.run_bind,run_underlying hu,Result.andThen_ok];rfl
      have ev:(binOp bo ty (a.eval y) (a.eval z)).run P w= .ok (.bool (if(bo== .neq)then !ad.isNone else ad.isNone)) w:=by
       rcases hbo with rfl | rfl
       . rw[hv,hz'];simp only[binOp,Sem.run_bind,ee];rfl
       . rw[hv,hz'];simp only[binOp,Sem.run_bind,ee];rfl
      simp[execOp,hoo,eg,ev]
     have fin : ∀ (b : Bool) (ad : Option Addr) (l c : Nat), o.guard = none -> a.eval y = .slice ad l c -> ad.isNone = b -> K (aA env ao.dst true (boolV (if (bo == .neq) then !b else b))) J ->
      (if g=true then o.wp P a w (Post Γ nt (insR n key) K) Q else Post Γ nt (insR n key) K (a.put o.dst undef) w):=by
      intro b ad l c hgn hv hb hK;have hgt:g=true:=by
       have:Region.wanted o (yielded ops a.tmps)=true:=by simp[Region.wanted,hgn]
       grind
      rw[if_pos hgt];unfold Oper.wp;rw[key0 b ad l c hv hb];show Post Γ nt (insR n key) K (a.put o.dst _) w;rw[<-h3];exact⟨φ,S,_,_,hK,(R.more fun _ h=>bH h).bindv h4 (fun _=>.boolI _) (fun h=>by cases h) (fun _=>rfl)⟩
     split at h
     . rename_i p es hgx;obtain⟨hgn,hp,hK⟩:=h;obtain⟨ad,cap,sz,b,off,f,hv,_,_,_,hne,_⟩:=RT.slice_inv (ae R hy hgx hp).1.c_inv;exact fin ad.isNone ad _ _ (jR h2 hgn) hv rfl (hK _ fun h=>by rw[hne h];rfl)
     . rename_i p hgx;obtain⟨hgn,hp,hK⟩:=h;obtain⟨ad,hv⟩:=(ae R hy hgx hp).1.c_inv;exact fin ad.isNone ad _ _ (jR h2 hgn) hv rfl (hK _)
     . rename_i p b sz off l hgx;obtain⟨hgn,hp,hK⟩:=h;obtain⟨ad,hv,ha,hle⟩:=RC.arr_inv (ae R hy hgx hp).1.c_inv;exact fin ad.isNone ad _ _ (jR h2 hgn) hv rfl (hK _ fun h=>by rw[ha (by omega)];rfl)
     . exact h.elim
   . rename_i hc1 hc2 hc3;split at h
     . rename_i p v J' ha;obtain⟨hp,hne,hK⟩:=h;cases hgv:g with
       | true=>
        simp only[if_true];obtain⟨x,φ',S',w',hres,hrv,hbn,R'⟩:=tG R h1 hn ha (hp hgv);have hJ:(if ao.op.neutral=true then J else J')=J':=by
         split
         . rename_i hneu;exact(fy hneu ha).symm
         . rfl
        rw[hJ]at hK;have fin:Post Γ nt (insR n key) K (a.put o.dst x) w':=by
         rw[<-h3];exact⟨φ',S',_,_,hK,R'.bindv h4 (fun _=>hrv) (fun h=>by rw[hgv]at h;cases h) (fun _=>hbn)⟩
        unfold Oper.wp;rcases hres with hres | ⟨hres,rfl⟩
        . rw[hres];exact fin
        . rw[hres];exact fin
       | false=>
        simp only[Bool.false_eq_true,if_false];rcases hne with hne | hne
        . rw[if_pos hne]at hK;exact Runw hK rfl hgv
        . rw[hgv]at hne;cases hne
     . exact h.elim
end
end
section
open Go
variable [GV]
def lt(N:Nat):Nat->Bool:=fun b=>decide (b < N)
theorem iu{N b:Nat}(h:insR (lt N) N b=true):lt (N+16) b=true:=by
 grind[insR,lt]
theorem fT{N b:Nat}(h:N<=b):lt N b=false:=by grind[lt]
theorem ij{N M b:Nat}(h:N<=M)(hb:lt N b=true):lt M b=true:=by grind[lt]
section
variable {P:Program} {Γ:Ctx} {nt kk:Nat} {φ:Phi} {S:Stab} {env:Env} {J:Store} {N:Nat} {a:Act} {w:World}
theorem nU {ops : Array Oper} {Q : Exit -> Act -> World -> Prop} {K : Env -> Store -> Nat -> Prop}: ∀ {l : List Oper} {aos : List AOper} {k N : Nat} {env : Env} {J : Store} {φ : Phi} {S : Stab} {a : Act} {w : World}, aP P nt ops l = some aos -> (∀ i : Nat, i < l.length -> l[i]? = ops[k + i]?) ->
 Rel Γ nt φ S env J (lt N) a w->aops P aos N env J (fun e s=>K e s (N+16*aos.length))->(∀φ S e s N a w,K e s N->Rel Γ nt φ S e s (lt N) a w->Q .normal a w)->wpOps P ops Q (List.range' k l.length) a w
 | [],aos,k,N,env,J,φ,S,a,w,hr,hi,R,h,hQ=>by
  simp[aP]at hr;subst hr;exact hQ _ _ _ _ _ _ _ h R
 | o::l,aos,k,N,env,J,φ,S,a,w,hr,hi,R,h,hQ=>by
  simp[aP,oZ2,oZ1]at hr;obtain⟨ao,hao,aos',haos,rfl⟩:=hr;have ho:ops[k]?=some o:=by have:=hi 0 (by simp);grind
  rw[List.length_cons,List.range'_succ,wpOps_cons];unfold wpOp;have hs:=gQ R (fun b h1 _=>fT h1) hao (K:=fun e s=>aops P aos' (N+16) e s fun e s=>K e s (N+16*(aos'.length+1))) (by grind[aops]) (Q:=Q)
  have next:∀a' w',Post Γ nt (insR (lt N) N) (fun e s=>aops P aos' (N+16) e s fun e s=>K e s (N+16*(aos'.length+1))) a' w'->wpOps P ops Q (List.range' (k+1) l.length) a' w':=by
   rintro a' w' ⟨φ',S',e,s,hK,R'⟩
   refine nU haos (fun i hlt=>?_) (R'.more fun _ h=>iu h) ?_ hQ
   . have:=hi (i+1) (by grind)
     grind
   grind
  split at hs
  . grind[Oper.wp_mono]
  grind
def AWP(P:Program)(nt kk:Nat)(c:Code)(env:Env)(J:Store)(N:Nat)(Q:Exit->Env->Store->Nat->Prop):Prop:=
 ∀Γ φ S a w,Γ.k=kk->Rel Γ nt φ S env J (lt N) a w->c.wp P (fun e a' w'=>∃φ' S' env' J' N',Q e env' J' N'/\Rel Γ nt φ' S' env' J' (lt N') a' w') a w
def AW(P:Program)(nt kk:Nat)(c:ACode)(env:Env)(J:Store)(N:Nat)(Q:Exit->Env->Store->Nat->Prop):Prop:=
 ∀code,resolve P nt code=some c->AWP P nt kk code env J N Q
variable {Q Q':Exit->Env->Store->Nat->Prop}
theorem AW.mono{c:ACode}(h:AW P nt kk c env J N Q)(hq:∀e env J N,Q e env J N->Q' e env J N):AW P nt kk c env J N Q':=
 fun code hc Γ φ S a w hkk R=>wp_mono (h _ hc Γ φ S a w hkk R) fun e a w ⟨φ',S',env',J',N',h1,h2⟩=>⟨φ',S',env',J',N',hq _ _ _ _ h1,h2⟩
theorem AW.skip(h:Q .normal env J N):AW P nt kk .skip env J N Q:=by
 intro code hc Γ φ S a w hkk R;cases code <;> simp[resolve,oZ2]at hc <;> (try (first | (cases hc;done) | (obtain⟨l,_,hc⟩:=hc;(repeat' split at hc) <;> cases hc)))
 grind[wp_skip]
theorem AW.ret(h:Q .ret env J N):AW P nt kk .ret env J N Q:=by
 intro code hc Γ φ S a w hkk R;cases code <;> simp[resolve,oZ2]at hc <;> (try (first | (cases hc;done) | (obtain⟨l,_,hc⟩:=hc;(repeat' split at hc) <;> cases hc)))
 grind[wp_ret]
theorem AW.exit{id:Nat}(h:Q (.exit id) env J N):AW P nt kk (.exit id) env J N Q:=by
 intro code hc Γ φ S a w hkk R;cases code <;> simp[resolve,oZ2]at hc <;> (try (first | (cases hc;done) | (obtain⟨l,_,hc⟩:=hc;(repeat' split at hc) <;> cases hc)))
 grind[wp_exit]
def andThen(next:Env->Store->Nat->Prop)(Q:Exit->Env->Store->Nat->Prop):Exit->Env->Store->Nat->Prop
 | .normal,env,J,N=>next env J N
 | e,env,J,N=>Q e env J N
theorem sQ{code:Code}{x y:ACode}(h:resolve P nt code=some (.seq x y)):∃a b,code= .seq a b/\resolve P nt a=some x/\resolve P nt b=some y:=by
 cases code with
 | seq a b=>
  simp[resolve,oZ2,oZ1]at h
  grind
 | region id ops draw=>
  grind[resolve,oZ2]
 | _=>simp[resolve,oZ2,oZ1]at h
theorem r9{code:Code}{c:AO}{x y:ACode}(h:resolve P nt code=some (.cond c x y)):∃o a b,code= .cond o a b/\opd o=some c/\resolve P nt a=some x/\resolve P nt b=some y:=by
 cases code with
 | cond o a b=>
  simp[resolve,oZ2,oZ1]at h
  grind
 | region id ops draw=>
  grind[resolve,oZ2]
 | _=>simp[resolve,oZ2,oZ1]at h
theorem rN{code:Code}{id:Nat}{x:ACode}(h:resolve P nt code=some (.block id x)):∃b,code= .block id b/\resolve P nt b=some x:=by
 cases code with
 | block i b=>
  grind[resolve,oZ1]
 | region id ops draw=>
  grind[resolve,oZ2]
 | _=>simp[resolve,oZ2]at h
theorem sd{code:Code}{x:ACode}(h:resolve P nt code=some (.loop x)):∃b,code= .loop b/\resolve P nt b=some x:=by
 cases code with
 | loop b=>
  grind[resolve,oZ1]
 | region id ops draw=>
  grind[resolve,oZ2]
 | _=>simp[resolve,oZ2]at h
theorem lF{code:Code}{aos:List AOper}(h:resolve P nt code=some (.region aos)):∃id ops,code= .region id ops false/\aP P nt ops ops.toList=some aos:=by
 cases code with
 | region id ops draw=>
  grind[resolve,oZ2]
 | _=>grind[resolve,oZ2,oZ1]
theorem ly {code : Code} {aos : List AOper} {crit : List (Nat×Nat)} (h : resolve P nt code = some (.regionD aos crit)):
 ∃id ops,code= .region id ops true/\aP P nt ops ops.toList=some aos/\dP (aE ops aos)=true/\P.follows .mixedOrders=true/\crit=critL (aE ops aos):=by
 cases code with
 | region id ops draw=>
  grind[resolve,oZ2]
 | _=>grind[resolve,oZ2,oZ1]
theorem AW.seq{x y:ACode}(h:AW P nt kk x env J N (andThen (fun env J N=>AW P nt kk y env J N Q) Q)):AW P nt kk (.seq x y) env J N Q:=by
 intro code hc Γ φ S a w hkk R;obtain⟨cx,cy,rfl,hx,hy⟩:=sQ hc;refine wp_seq (wp_mono (h _ hx Γ φ S a w hkk R) ?_)
 rintro e a' w' ⟨φ',S',env',J',N',hq,R'⟩
 cases e with
 | normal=>exact hq _ hy Γ _ S' a' w' hkk R'
 | _=>exact⟨φ',S',env',J',N',hq,R'⟩
theorem AW.cond{c:AO}{x y:ACode}{p:Prop}{b:Bool}(hc:c.get env=some (p,boolV b))(hp:p)(hx:b=true->AW P nt kk x env J N Q)(hy:b=false->AW P nt kk y env J N Q):AW P nt kk (.cond c x y) env J N Q:=by
 intro code hcode Γ φ S a w hkk R;obtain⟨o,cx,cy,rfl,ho,hx',hy'⟩:=r9 hcode;have hb:=(ae R ho hc hp).1.bool_inv;refine wp_cond hb ?_;cases b with
 | true=>exact hx rfl _ hx' Γ φ S a w hkk R
 | false=>exact hy rfl _ hy' Γ φ S a w hkk R
def inBlock(id:Nat)(Q:Exit->Env->Store->Nat->Prop):Exit->Env->Store->Nat->Prop
 | .exit i,env,J,N=>if i=id then Q .normal env J N else Q (.exit i) env J N
 | e,env,J,N=>Q e env J N
theorem AW.block{id:Nat}{x:ACode}(h:AW P nt kk x env J N (inBlock id Q)):AW P nt kk (.block id x) env J N Q:=by
 intro code hc Γ φ S a w hkk R;obtain⟨b,rfl,hb⟩:=rN hc;refine wp_block (wp_mono (h _ hb Γ φ S a w hkk R) ?_)
 rintro e a' w' ⟨φ',S',env',J',N',hq,R'⟩
 cases e with
 | exit i=>
  grind[inBlock,Exit.inBlock]
 | _=>exact⟨φ',S',env',J',N',hq,R'⟩
theorem AW.region{aos:List AOper}(h:aops P aos N env J (fun e s=>Q .normal e s (N+16*aos.length))):AW P nt kk (.region aos) env J N Q:=by
 intro code hc Γ φ S a w hkk R;obtain⟨id,ops,rfl,hr⟩:=lF hc;refine wp_region ?_;have:=nU (Q:=fun e a' w'=>∃φ' S' env' J' N',Q e env' J' N'/\Rel Γ nt φ' S' env' J' (lt N') a' w') (k:=0) hr (fun i hi=>by simp) R h
  (fun φ S e s N a w hK hR=>⟨φ,S,e,s,N,hK,hR⟩)
 grind[List.range_eq_range']
end
end
section
open Go
variable [GV]
def pos :List Nat->Nat->Option Nat
 | [],_=>none
 | x::r,b=>if x=b then some 0 else(pos r b).map (· +1)
theorem cr :∀{bs:List Nat} {b i:Nat},pos bs b=some i->bs[i]?=some b
 | [],b,i,h=>by grind[pos]
 | x::r,b,i,h=>by
  unfold pos at h;split at h
  . grind
  . simp at h;obtain⟨j,hj,rfl⟩:=h
    simpa using cr hj
def cR(bs:List Nat):List Nat->Option (List Nat)
 | []=>some []
 | c::r=>match pos bs c,cR bs r with
  | some i,some l=>some (i::l)
  | _,_=>none
def C.ren(bs:List Nat):C->C
 | .t x=>.t x
 | .ptr b o=>match pos bs b with | some i=>.ptr i o | none=>.dead
 | .eptr b sz i o=>match pos bs b with | some j=>.eptr j sz i o | none=>.dead
 | .iptr ts o=>.iptr ts o
 | .arr b sz off len=>match pos bs b with | some i=>.arr i sz off len | none=>.dead
 | .win b sz off len=>match pos bs b with | some i=>.win i sz off len | none=>.dead
 | .mp b=>match pos bs b with | some i=>.mp i | none=>.dead
 | .sptr b=>match pos bs b with | some i=>.sptr i | none=>.dead
 | .bufc b len=>match pos bs b with | some i=>.bufc i len | none=>.dead
 | .cap0=>.cap0
 | .nilp=>.nilp
 | .nilfn=>.nilfn
 | .fn f caps=>match cR bs caps with | some l=>.fn f l | none=>.dead
 | .dead=>.dead
def V.ren(bs:List Nat):V->V
 | .c x=>.c (x.ren bs)
 | .agg cs=>.agg (cs.map (C.ren bs))
 | .tup vs=>.tup (go bs vs)
where go (bs:List Nat):List V->List V
 | []=>[]
 | v::vs=>v.ren bs::go bs vs
def Blk.ren(bs:List Nat):Blk->Blk
 | .box cs=>.box (cs.map (C.ren bs))
 | .arr sz es=>.arr sz es
 | .set ks=>.set ks
 | .buf E s=>.buf E s
 | .bld E c=>.bld E (c.ren bs)
 | .arro sz es i o c=>.arro sz es i o (c.ren bs)
def ct(bs:List Nat)(env:Env):List Nat->Env
 | []=>[]
 | k::ks=>match look env k with
  | some (g,v)=>(k,g,v.ren bs)::ct bs env ks
  | none=>ct bs env ks
def aF(bs:List Nat)(J:Store):Nat->List Nat->Store
 | _,[]=>[]
 | i,b::r=>match sget J b with
  | some x=>(i,x.ren bs)::aF bs J (i+1) r
  | none=>aF bs J (i+1) r
def keeps(k:Nat)(bs:List Nat):Bool:=(List.range k).all fun i=>bs[i]?==some i
section
variable {P:Program} {Γ:Ctx} {nt kk:Nat} {φ:Phi} {S:Stab} {env:Env} {J:Store} {N:Nat} {n:Nat->Bool} {a:Act} {w:World}
theorem jS :∀{bs caps l:List Nat},cR bs caps=some l->caps.length=l.length/\∀(i b j:Nat),caps[i]?=some b->l[i]?=some j->bs[j]?=some b
 | bs,[],l,h=>by grind[cR]
 | bs,c::r,l,h=>by
  unfold cR at h;split at h
  . rename_i j l' hj hl;obtain⟨h1,h2⟩:=jS hl
    grind[cr]
  grind
theorem RC.ren{φ':Phi}{bs:List Nat}(hφ:∀(i:Nat) b,bs[i]?=some b->φ' i=φ b){c:C}{v:Value}(h:RC φ w S c v):RC φ' w S (c.ren bs) v:=by
 have ho:=RC.oneCell h;cases c with
 | ptr b o=>
  grind[C.ren,RC,cr]
 | eptr b sz i o=>
  grind[C.ren,RC,cr]
 | arr b sz off len=>
  grind[C.ren,RC,cr]
 | win b sz off len=>
  grind[C.ren,RC,cr]
 | mp b=>
  grind[C.ren,RC,cr]
 | sptr b=>
  grind[C.ren,RC,cr]
 | bufc b len=>
  grind[C.ren,RC,cr]
 | fn f caps=>
  simp[C.ren];split
  . rename_i l hl;obtain⟨h1,h2⟩:=jS hl;rw[h]
    congr 2
    apply List.ext_getElem (by grind);intro i hi1 hi2;simp at hi1 hi2;simp;rw[hφ _ _ (h2 i _ _ (List.getElem?_eq_getElem hi1) (List.getElem?_eq_getElem hi2))]
  . exact ho
 | _=>exact h
theorem gR{bs:List Nat}:∀{vs:List V} {i:Nat},(V.ren.go bs vs)[i]?=(vs[i]?).map (V.ren bs)
 | [],i=>by rfl
 | v::vs,0=>by rfl
 | v::vs,i+1=>by simp[V.ren.go,gR]
theorem gB{bs:List Nat}:∀{vs:List V},(V.ren.go bs vs).length=vs.length
 | []=>rfl
 | v::vs=>by simp[V.ren.go,gB]
theorem RV.ren{φ':Phi}{bs:List Nat}(hφ:∀(i:Nat) b,bs[i]?=some b->φ' i=φ b){v:V}{x:Value}(h:RV φ w S v x):RV φ' w S (v.ren bs) x:=by
 induction h with
 | c h=>exact .c (RC.ren hφ h)
 | agg h=>exact .agg (h.map_left fun _ _=>RC.ren hφ)
 | tup vs xs hl h ih=>
  refine .tup _ xs (by grind[gB]) ?_
  grind[gR]
theorem dR{bs:List Nat}{b i:Nat}(h:pos bs b=some i):i < bs.length:=(List.getElem?_eq_some_iff.1 (cr h)).1
theorem C.ren_bnd{bs:List Nat}(c:C):(c.ren bs).bnd (lt bs.length)=true:=by
 cases c with
 | ptr b o=>grind[C.ren,C.bnd,lt,dR]
 | eptr b sz i o=>grind[C.ren,C.bnd,lt,dR]
 | arr b sz off len=>grind[C.ren,C.bnd,lt,dR]
 | win b sz off len=>grind[C.ren,C.bnd,lt,dR]
 | mp b=>grind[C.ren,C.bnd,lt,dR]
 | sptr b=>grind[C.ren,C.bnd,lt,dR]
 | bufc b len=>grind[C.ren,C.bnd,lt,dR]
 | fn f caps=>
  simp[C.ren];split
  . rename_i l hl;obtain⟨h1,h2⟩:=jS hl;simp[C.bnd,lt];intro j hj;obtain⟨i,hi,rfl⟩:=List.getElem_of_mem hj;exact(List.getElem?_eq_some_iff.1 (h2 i _ _ (List.getElem?_eq_getElem (by omega)) (List.getElem?_eq_getElem hi))).1
  rfl
 | _=>rfl
theorem V.ren_bnd{bs:List Nat}:∀(v:V),(v.ren bs).bnd (lt bs.length)=true
 | .c x=>by grind[V.ren,V.bnd,C.ren_bnd]
 | .agg cs=>by grind[V.ren,V.bnd,C.ren_bnd]
 | .tup vs=>by exact go vs
where go:∀vs,V.bnd.V.bnds _ (V.ren.go bs vs)=true
 | []=>rfl
 | v::vs=>by simp[V.ren.go,V.bnd.V.bnds,Bool.and_eq_true];exact⟨V.ren_bnd v,go vs⟩
theorem fO{bs:List Nat}:∀{ks:List Nat} {k:Nat} {g:Bool} {v:V},look (ct bs env ks) k=some (g,v)->∃v0,look env k=some (g,v0)/\v=v0.ren bs
 | [],k,g,v,h=>by grind[ct,look]
 | x::ks,k,g,v,h=>by
  unfold ct at h;split at h
  . unfold look at h;split at h
    . grind
    . exact fO h
  . exact fO h
theorem cL{bs:List Nat}:∀{r:List Nat} {i:Nat} {b:Nat} {x:Blk},sget (aF bs J i r) b=some x->∃j c x0,b=i+j/\r[j]?=some c/\sget J c=some x0/\x=x0.ren bs
 | [],i,b,x,h=>by grind[aF,sget]
 | c::r,i,b,x,h=>by
  unfold aF at h;split at h
  . unfold sget at h;split at h
    . simp_all
    . obtain⟨j,c',x0',h1,h2,h3,h4⟩:=cL h;exact⟨j+1,c',x0',by omega,by grind,h3,h4⟩
  . obtain⟨j,c',x0',h1,h2,h3,h4⟩:=cL h;exact⟨j+1,c',x0',by omega,by grind,h3,h4⟩
theorem RB.ren{φ':Phi}{bs:List Nat}(hφ:∀(i:Nat) b,bs[i]?=some b->φ' i=φ b){i b:Nat}(hi:bs[i]?=some b){x:Blk}(h:RB φ w S b x):RB φ' w S i (x.ren bs):=by
 cases x with
 | box cs=>
  obtain⟨h0,vs,E,h1,h2,h3⟩:=h;simp only[RB,hφ i b hi];exact⟨h0,vs,E,h1,h2.map_left fun _ _=>RC.ren hφ,h3⟩
 | arr sz es=>simp only[RB,hφ i b hi];exact h
 | set ks=>simp only[RB,hφ i b hi];exact h
 | buf E s=>grind[Blk.ren,RB]
 | bld E c=>
  grind[Blk.ren,RB,RC.ren]
 | arro sz es i o c=>
  grind[Blk.ren,RB,RC.ren]
theorem Rel.tidy (R : Rel Γ nt φ S env J (lt N) a w) (ks bs : List Nat) (hnd : bs.Nodup) (hk : keeps Γ.k bs = true):
 ∃φ',Rel Γ nt φ' S (ct bs env ks) (aF bs J 0 bs) (lt bs.length) a w:=by
 have hφ:∀(i:Nat) b,bs[i]?=some b->(fun i=>φ ((bs[i]?).getD 0)) i=φ b:=by grind
 have hkeep:∀i:Nat,i < Γ.k->bs[i]?=some i:=by
  simp_all[keeps,List.all_eq_true,List.mem_range,beq_iff_eq]
 refine⟨fun i=>φ ((bs[i]?).getD 0),⟨⟨fun b x hx=>?_,fun b b' x y hx hy hne h0 h0'=>?_,R.sim.st⟩,fun k g v hl hg=>?_,fun k g v hl hg=>?_,fun k g v hl hg=>?_,fun b x hx=>?_,R.size,R.defers,R.ext,fun b x hx h0=>?_,fun b hb=>?_,fun b hb=>?_⟩⟩
 . obtain⟨j,c,x0,rfl,h2,h3,rfl⟩:=cL hx;rw[Nat.zero_add];exact RB.ren hφ h2 (R.sim.blk c x0 h3)
 . obtain⟨j,c,x0,rfl,h2,h3,rfl⟩:=cL hx;obtain⟨j',c',x0',rfl,h2',h3',rfl⟩:=cL hy;simp only[Nat.zero_add,h2,h2']at h0 h0' ⊢;refine R.sim.inj c c' x0 x0' h3 h3' ?_ h0 h0'
   grind[List.getElem?_eq_some_iff,List.pairwise_iff_getElem,Nat.lt_trichotomy]
 . obtain⟨v0,h1,rfl⟩:=fO hl;obtain⟨x,hx,hr⟩:=R.envs k g v0 h1 hg
   grind[RV.ren]
 . obtain⟨v0,h1,rfl⟩:=fO hl;exact R.envn k g v0 h1 hg
 . grind[fO,V.ren_bnd]
 . obtain⟨j,c,x0,rfl,h2,h3,rfl⟩:=cL hx;refine⟨by grind[lt,List.getElem?_eq_some_iff],?_⟩;cases x0 with
   | box cs=>grind[Blk.ren,Blk.bnd,List.all_map,List.all_eq_true,C.ren_bnd]
   | arr sz es=>rfl
   | set ks=>rfl
   | buf E s=>rfl
   | bld E c=>exact C.ren_bnd c
   | arro sz es i o c=>exact C.ren_bnd c
 . obtain⟨j,c,x0,rfl,h2,h3,rfl⟩:=cL hx;simp only[Nat.zero_add,h2]at h0 ⊢;exact R.own c x0 h3 h0
 . simp only[hkeep b hb,Option.getD_some];exact R.fix b hb
 . simp only[lt,decide_eq_true_eq];grind
theorem AW.tidy{c:ACode}{Q:Exit->Env->Store->Nat->Prop}(ks bs:List Nat)(hnd:bs.Nodup)(hk:keeps kk bs=true)(h:AW P nt kk c (ct bs env ks) (aF bs J 0 bs) bs.length Q):AW P nt kk c env J N Q:=by
 intro code hc Γ φ S a w hkk R;subst hkk;obtain⟨φ',R'⟩:=R.tidy ks bs hnd hk;exact h _ hc Γ _ S a w rfl R'
end
end
section
open Go
variable [GV]
section
variable {P:Program} {Γ:Ctx} {nt kk:Nat} {φ:Phi} {S:Stab} {env:Env} {J:Store} {N:Nat} {n:Nat->Bool} {a:Act} {w:World}
theorem AW.freeze{c:ACode}{Q:Exit->Env->Store->Nat->Prop}(b0:Nat){sz0:Nat}{es:List (List T)}(hJ:sget J b0=some (.arr sz0 es))(h:AW P nt kk c (df b0 sz0 es env) (frzSt b0 sz0 es J) N Q):AW P nt kk c env J N Q:=by
 intro code hc Γ φ S a w hkk R;exact h _ hc Γ φ _ a w hkk (R.freeze hJ)
inductive AR where
 | tmp (t:Nat)
 | cell (t:Nat) (agg:Bool) (n:Nat)
def aX(P:Program):List ResultVar->Option (List AR)
 | []=>some []
 | .tmp t::r=>(aX P r).map (.tmp t::·)
 | .cell a ty::r=>(bT P ty).bind fun g=>(aX P r).map (.cell a g.1 g.2::·)
def dS(env:Env)(J:Store):AR->Option (Prop×V)
 | .tmp t=>(look env t).map fun x=>(x.1=true,x.2)
 | .cell t g k=>match look env t with
  | some (g0,.c (.ptr b o))=>match sget J b with
   | some (.box cs)=>(loadC g k cs o).map fun v=>(g0=true,v)
   | _=>none
  | _=>none
def cS(env:Env)(J:Store):List AR->Option (Prop×List V)
 | []=>some (True,[])
 | r::rs=>(dS env J r).bind fun x=>(cS env J rs).map fun y=>(x.1/\y.1,x.2::y.2)
def resV :List V->V
 | [v]=>v
 | vs=>.tup vs
def Con(P:Program)(f:Nat)(args:List V)(J:Store)(k:Nat)(Q:V->Store->Nat->Prop):Prop:=
 ∀(φ:Phi) (S:Stab) (w:World) (B:Nat->Prop),Sim φ w S J->(∀(b:Nat) x,sget J b=some x->b < k/\x.bnd (lt k)=true)->(∀(b:Nat) x,sget J b=some x->(φ b).2≠0->B (φ b).1)->GS w B->
  V.bnd.V.bnds (lt k) args=true->∀vs:List Value,All2 (RV φ w S) args vs->
  Calls P f vs.toArray w fun e w'=>∃v r φ' S' J' N',e= .returned v/\Q r J' N'/\RV φ' w' S' r v/\r.bnd (lt N')=true/\Sim φ' w' S' J'/\(∀(b:Nat) x,sget J' b=some x->b < N'/\x.bnd (lt N')=true)/\Ext B S S' w w'/\
   (∀(b:Nat) x,sget J' b=some x->(φ' b).2≠0->B (φ' b).1\/w.heap.size<=(φ' b).1)/\∀b,b < k->φ' b=φ b
theorem Ext.refl{B:Nat->Prop}:Ext B S S w w:=⟨rfl,rfl,rfl,Nat.le_refl _,fun _ _ _=>rfl,Mono.refl _ _,fun _ _ h=>.inl h⟩
def env0 :Nat->List V->Env
 | _,[]=>[]
 | i,v::vs=>(i,true,v)::env0 (i+1) vs
theorem dF :∀{vs:List V} {i k:Nat} {g:Bool} {v:V},look (env0 i vs) k=some (g,v)->g=true/\∃j,k=i+j/\vs[j]?=some v
 | [],i,k,g,v,h=>by grind[env0,look]
 | x::vs,i,k,g,v,h=>by
  simp[env0,look]at h;split at h
  . simp_all
  . obtain⟨h1,j,h2,h3⟩:=dF h;exact⟨h1,j+1,by omega,by grind⟩
def rvSem(a:Act):ResultVar->Sem Value
 | .tmp t=>Pure.pure (a.tmps.getD t undef)
 | .cell ad ty=>do loadVar ty (<-asAddr (a.tmps.getD ad undef))
theorem nb(fn:Func)(a:Act):results fn a.tmps=(fn.results.mapM (rvSem a) >>=fun vs=>Pure.pure (if h:vs.size=1 then vs[0]else .tuple vs)):=by rfl
theorem se (R : Rel Γ nt φ S env J n a w) {rv : ResultVar} {ar : AR} (hr : aX P [rv] = some [ar]) {p : Prop} {v : V} (h : dS env J ar = some (p, v)) (hp : p):
 ∃x,(rvSem a rv).run P w= .ok x w/\RV φ w S v x/\v.bnd n=true:=by
 cases rv with
 | tmp t=>
  simp[aX]at hr;subst hr;simp only[dS,oZ1]at h;obtain⟨⟨g,v0⟩,hl,rfl,rfl⟩:=h;obtain⟨x,hx,hrv⟩:=R.envs t g v0 hl hp;refine⟨x,?_,hrv,R.ebnd t g v0 hl hp⟩;simp[rvSem,hx]
 | cell ad ty=>
  simp only[aX,oZ2,oZ1]at hr;obtain⟨g,hg,l,hl,he⟩:=hr;simp at hl;subst hl;simp at he;subst he;simp[dS]at h;split at h
  . rename_i g0 b o hl;split at h
    . rename_i cs hJ;simp only[oZ1]at h;obtain⟨v0,hv0,rfl,rfl⟩:=h;obtain⟨x,hx,hrv⟩:=R.envs ad g0 _ hl hp;have:=hrv.ptr_inv;obtain⟨_,vs,E,hh,hall,_⟩:=R.sim.blk _ _ hJ;obtain⟨y,hy,h1,h2⟩:=dH hg hall (R.sbnd _ _ hJ).2 (fun j _=>by rw[bc hh,Nat.zero_add]) hv0;simp_all[rvSem,asAddr]
    grind
  grind
theorem l3 (R : Rel Γ nt φ S env J n a w): ∀ {rvs : List ResultVar} {ars : List AR} {p : Prop} {vs : List V}, aX P rvs = some ars -> cS env J ars = some (p, vs) -> p ->
 ∃xs:List Value,(rvs.mapM (rvSem a)).run P w= .ok xs w/\All2 (RV φ w S) vs xs/\V.bnd.V.bnds n vs=true
 | [],ars,p,vs,hr,h,hp=>by
  simp[aX]at hr;subst hr;obtain⟨_,rfl⟩:=h;exact⟨[],by rfl,.nil,rfl⟩
 | rv::rvs,ars,p,vs,hr,h,hp=>by
  have hsplit:∃ar ars',ars=ar::ars'/\aX P [rv]=some [ar]/\aX P rvs=some ars':=by
   cases rv with
   | tmp t=>
    grind[aX,oZ1]
   | cell ad ty=>
    grind[aX,oZ2,oZ1]
  obtain⟨ar,ars',rfl,h1,h2⟩:=hsplit;simp only[cS,oZ2,oZ1]at h;obtain⟨⟨q,v⟩,hq,⟨q',vs'⟩,hq',he⟩:=h;obtain⟨rfl,rfl⟩:=he;obtain⟨x,hx,hv,hb⟩:=se R h1 hq hp.1;obtain⟨xs,hxs,hvs,hbs⟩:=l3 R h2 hq' hp.2;refine⟨x::xs,?_,.cons hv hvs,by grind[V.bnd.V.bnds]⟩;simp_all
theorem RV.resV{vs:List V}{xs:List Value}(h:All2 (RV φ w S) vs xs):RV φ w S (resV vs) (if h:xs.toArray.size=1 then xs.toArray[0]else .tuple xs.toArray):=by
 cases h with
 | nil=>exact .tup [] [] rfl (by simp)
 | cons h1 h2=>
  cases h2 with
  | nil=>grind[Shv.resV]
  | cons h2 h3=>
   refine .tup _ _ (by simp[h3.length]) ?_;intro i v x hv hx;have:=(All2.cons h1 (.cons h2 h3)).get hv
   grind
theorem vp{vs:List V}(h:V.bnd.V.bnds n vs=true):(resV vs).bnd n=true:=by
 unfold resV
 grind[V.bnd.V.bnds,V.bnd]
def Done(ars:List AR)(Q:V->Store->Nat->Prop):Exit->Env->Store->Nat->Prop
 | .normal,env,J,N=>∃p vs,cS env J ars=some (p,vs)/\p/\Q (resV vs) J N
 | .ret,env,J,N=>∃p vs,cS env J ars=some (p,vs)/\p/\Q (resV vs) J N
 | _,_,_,_=>False
theorem Con.of_body {f : Nat} {fn : Func} {code : Code} {c : ACode} {ars : List AR} (hf : P.funcs[f]? = some fn) (hb : fn.body = some code) (hc : resolve P fn.ntmps code = some c) (hr : aX P fn.results.toList = some ars)
 {args:List V} (hn:args.length<=fn.ntmps) {k:Nat} {Q:V->Store->Nat->Prop} (h:AW P fn.ntmps k c (env0 0 args) J k (Done ars Q)):Con P f args J k Q:=by
 intro φ S w B hsim hsb hown hG hab vs hvs;have hl:=hvs.length;refine calls_of_wp hf hb ?_;have R:Rel ⟨w,S,B,φ,k,hG⟩ fn.ntmps φ S (env0 0 args) J (lt k) {tmps:=vs.toArray++Array.replicate (fn.ntmps - vs.toArray.size) undef,defers:=[]} w:=by
  refine⟨hsim,fun i g v hlk hg=>?_,fun i g v hlk hg=>?_,fun i g v hlk hg=>?_,fun b x hx=>?_,?_,rfl,Ext.refl,fun b x hx h0=>.inl (hown b x hx h0),fun _ _=>rfl,fun b hb=>by grind[lt]⟩
  . obtain⟨_,j,rfl,hj⟩:=dF hlk;obtain⟨x,hx,hr⟩:=hvs.get hj
    grind
  . grind[dF]
  . grind[dF,bQ]
  . grind[lt]
  grind
 refine wp_mono (h _ hc _ φ S _ w rfl R) ?_
 rintro e a' w' ⟨φ',S',env',J',N',hq,R'⟩
 have fin : (∃ p vs, cS env' J' ars = some (p, vs) /\ p /\ Q (resV vs) J' N') -> a'.defers = [] /\ ∃ v, (results fn a'.tmps).run P w' = .ok v w' /\ (∃ v' r φ'' S'' J'' N'', Ending.returned v = .returned v' /\ Q r J'' N'' /\ RV φ'' w' S'' r v' /\ r.bnd (lt N'') = true /\ Sim φ'' w' S'' J'' /\ (∀ (b : Nat) x, sget J'' b = some x -> b < N'' /\ x.bnd (lt N'') = true) /\ Ext B S S'' w w' /\
  (∀(b:Nat) x,sget J'' b=some x->(φ'' b).2≠0->B (φ'' b).1\/w.heap.size<=(φ'' b).1)/\∀b,b < k->φ'' b=φ b):=by
  rintro ⟨p,rs,h1,h2,h3⟩
  obtain⟨xs,hxs,hrv,hbn⟩:=l3 R' hr h1 h2;refine⟨R'.defers,_,?_,_,resV rs,φ',S',J',N',rfl,h3,RV.resV hrv,vp hbn,R'.sim,fun b x hx=>?_,R'.ext,R'.own,R'.fix⟩
  . simp_all[Array.mapM_eq_mapM_toList,nb]
  . obtain⟨h1,h2⟩:=R'.sbnd b x hx
    grind[lt]
 cases e with
 | normal=>exact fin hq
 | ret=>exact fin hq
 | exit id=>exact hq.elim
 | goto l=>exact hq.elim
 | panic ch=>exact hq.elim
 | outgrown=>exact hq.elim
end
end
end Go.Proofs.YtkbmjabicjpmjaaGreatDoor.Shv
namespace Go.Proofs.YtkbmjabicjpmjaaGreatDoor.Shv
set_option linter.all false
open Go
variable [GV]
def C.sh(k:Nat):C->C
 | .ptr b o=>.ptr (k+b) o
 | .eptr b sz i o=>.eptr (k+b) sz i o
 | .arr b sz off len=>.arr (k+b) sz off len
 | .win b sz off len=>.win (k+b) sz off len
 | .mp b=>.mp (k+b)
 | .sptr b=>.sptr (k+b)
 | .bufc b len=>.bufc (k+b) len
 | .fn f caps=>.fn f (caps.map (k+·))
 | c=>c
def V.sh(k:Nat):V->V
 | .c x=>.c (x.sh k)
 | .agg cs=>.agg (cs.map (C.sh k))
 | .tup vs=>.tup (go k vs)
where go (k:Nat):List V->List V
 | []=>[]
 | v::vs=>v.sh k::go k vs
def Blk.sh(k:Nat):Blk->Blk
 | .box cs=>.box (cs.map (C.sh k))
 | .arr sz es=>.arr sz es
 | .set ks=>.set ks
 | .buf E s=>.buf E s
 | .bld E c=>.bld E (c.sh k)
 | .arro sz es i o c=>.arro sz es i o (c.sh k)
def adopt(J:Store)(k:Nat):Store->Store
 | []=>J
 | (b,x)::r=>sput (adopt J k r) (k+b) (x.sh k)
theorem fI{J:Store}{k:Nat}:∀{J0:Store} {b:Nat},sget (adopt J k J0) b=match (if k<=b then sget J0 (b - k)else none)with | some x=>some (x.sh k) | none=>sget J b
 | [],b=>by simp[adopt,sget]
 | (c,x)::r,b=>by
  simp[adopt,ag,fI,sget]
  grind
section
variable {P:Program} {Γ:Ctx} {nt kk:Nat} {φ:Phi} {S S':Stab} {env:Env} {J:Store} {N key:Nat} {n:Nat->Bool} {a:Act} {w w':World}
theorem ACall.of_pure{f:Nat}{args:List V}{r:V}(h:Con P f args [] 0 (fun r' _ _=>r'=r))(hb:V.bnd.V.bnds (lt 0) args=true)(hr:r.bnd (lt 0)=true){K:V->Store->Prop}(hK:K r J):ACall P f args J key K:=by
 intro Γ nt φ S env n a w R hn hb' vs hvs;refine(h φ S w (fun _=>False) ⟨fun b x hx=>by grind[sget],fun b b' x y hx=>by grind[sget],R.sim.st⟩ (fun b x hx=>by grind[sget]) (fun b x hx=>by grind[sget]) (R.glob fun _ h=>h.elim) hb vs hvs).mono ?_
 rintro e w' ⟨v,r',φ',S',J',N',rfl,rfl,h1,h2,h3,h4,h5,h6,h7⟩
 refine⟨v,r',φ,S',J,rfl,hK,?_,V.bnd_mono (fun b h=>by grind[lt]) hr,(R.extend h5 h3.st).more fun _ h=>bH h⟩;exact RV.mono (Mono.refl _ _) (fun b h=>by grind[lt]) hr h1
theorem RC.sh{φ':Phi}{k:Nat}{n:Nat->Bool}(hφ:∀b,n b=true->φ' (k+b)=φ b){c:C}{v:Value}(hb:c.bnd n=true)(h:RC φ w S c v):RC φ' w S (c.sh k) v:=by
 cases c with
 | ptr b o=>grind[C.bnd,C.sh,RC]
 | eptr b sz i o=>grind[C.bnd,C.sh,RC]
 | arr b sz off len=>grind[C.bnd,C.sh,RC]
 | win b sz off len=>grind[C.bnd,C.sh,RC]
 | mp b=>grind[C.bnd,C.sh,RC]
 | sptr b=>grind[C.bnd,C.sh,RC]
 | bufc b len=>grind[C.bnd,C.sh,RC]
 | fn f caps=>
  simp_all[C.bnd,C.sh,RC]
 | _=>exact h
theorem nV{k:Nat}:∀{vs:List V} {i:Nat},(V.sh.go k vs)[i]?=(vs[i]?).map (V.sh k)
 | [],i=>by rfl
 | v::vs,0=>by rfl
 | v::vs,i+1=>by simp[V.sh.go,nV]
theorem l4{k:Nat}:∀{vs:List V},(V.sh.go k vs).length=vs.length
 | []=>rfl
 | v::vs=>by simp[V.sh.go,l4]
theorem RV.sh{φ':Phi}{k:Nat}{n:Nat->Bool}(hφ:∀b,n b=true->φ' (k+b)=φ b){v:V}{x:Value}(hb:v.bnd n=true)(h:RV φ w S v x):RV φ' w S (v.sh k) x:=by
 induction h with
 | c h=>exact .c (RC.sh hφ (by grind[V.bnd]) h)
 | @agg cs vs h=>
  simp[V.bnd]at hb;refine .agg ?_;have:=h.imp fun c v hc hr=>RC.sh hφ (hb c hc) hr
  exact this.map_left fun _ _ h=>h
 | tup vs xs hl h ih=>
  refine .tup _ xs (by grind[l4]) ?_
  grind[nV,bQ,V.bnd]
theorem C.sh_bnd{m:Nat}(hm:m<=16){c:C}(h:c.bnd (lt m)=true):(c.sh key).bnd (insR n key)=true:=by
 cases c <;> simp[C.sh,C.bnd,lt,insR]at h ⊢
 all_goals grind
theorem V.sh_bnd{m:Nat}(hm:m<=16):∀{v:V},v.bnd (lt m)=true->(v.sh key).bnd (insR n key)=true
 | .c x,h=>by grind[V.sh,V.bnd,C.sh_bnd]
 | .agg cs,h=>by grind[V.sh,V.bnd,C.sh_bnd]
 | .tup vs,h=>by exact go vs h
where go:∀vs,V.bnd.V.bnds (lt m) vs=true->V.bnd.V.bnds _ (V.sh.go _ vs)=true
 | [],_=>rfl
 | v::vs,h=>by simp[V.sh.go,V.bnd.V.bnds,Bool.and_eq_true]at h ⊢;exact⟨V.sh_bnd hm h.1,go vs h.2⟩
theorem ACall.of_own {f : Nat} {args : List V} {Q : V -> Store -> Nat -> Prop} (h : Con P f args [] 0 Q) (hb : V.bnd.V.bnds (lt 0) args = true) {K : V -> Store -> Prop}
 (hK:∀r J' N',Q r J' N'->N'<=16/\K (r.sh key) (adopt J key J')):ACall P f args J key K:=by
 intro Γ nt φ S env n a w R hn hb' vs hvs;refine(h φ S w (fun _=>False) ⟨fun b x hx=>by grind[sget],fun b b' x y hx=>by grind[sget],R.sim.st⟩ (fun b x hx=>by grind[sget]) (fun b x hx=>by grind[sget]) (R.glob fun _ h=>h.elim) hb vs hvs).mono ?_
 rintro e w' ⟨v,r',φ',S',J',N',rfl,hQ,h1,h2,h3,h4,h5,h6,h7⟩
 obtain⟨hN,hK⟩:=hK _ _ _ hQ;have R1:=R.extend h5 h3.st
 let ψ:Phi:=fun b=>if key<=b/\b < key+16 then φ' (b - key)else φ b
 have hψn:∀b,n b=true->ψ b=φ b:=by grind
 have hψk:∀b,lt N' b=true->ψ (key+b)=φ' b:=by
  intro b hb;simp only[lt,decide_eq_true_eq]at hb
  grind
 have R2:=R1.phi hψn;have hget:∀b x,sget (adopt J key J') b=some x->(∃c x0,b=key+c/\sget J' c=some x0/\x=x0.sh key)\/sget J b=some x:=by
  grind[fI]
 have hnew:∀c x0,sget J' c=some x0->(ψ (key+c)).2≠0->w.heap.size<=(ψ (key+c)).1:=by grind
 have hold:∀b x,sget J b=some x->(ψ b).2≠0->(ψ b).1 < w.heap.size:=by
  intro b x hx h0;rw[hψn b (R.sbnd b x hx).1]at h0 ⊢;exact(R.sim.blk b x hx).real_lt h0
 refine⟨v,r'.sh key,ψ,S',adopt J key J',rfl,hK,RV.sh hψk h2 h1,V.sh_bnd hN h2,⟨⟨fun b x hx=>?_,fun b b' x y hx hy hne h0 h0'=>?_,h3.st⟩,R2.envs,R2.envn,fun k g v hl hg=>V.bnd_mono (fun _ h=>bH h) (R2.ebnd k g v hl hg),fun b x hx=>?_,R2.size,R2.defers,R2.ext,fun b x hx h0=>?_,R2.fix,fun b hb=>bH (R2.kn b hb)⟩⟩
 . rcases hget b x hx with⟨c,x0,rfl,hc,rfl⟩ | hx
   . have hB:=h3.blk c x0 hc;have hcb:=h4 c x0 hc;have e1:=hψk c (by grind[lt]);cases x0 with
     | box cs=>
      obtain⟨k0,vs,E,k1,k2,k3⟩:=hB;simp only[Blk.sh,RB,e1];refine⟨k0,vs,E,k1,?_,k3⟩;have hcs:=hcb.2;simp only[Blk.bnd,List.all_eq_true]at hcs;have:=k2.imp fun c v hc hr=>RC.sh hψk (hcs c hc) hr
      exact this.map_left fun _ _ h=>h
     | arr sz es=>simp only[Blk.sh,RB,e1];exact hB
     | set ks=>simp only[Blk.sh,RB,e1];exact hB
     | buf E s=>simp only[Blk.sh,RB,e1];exact hB
     | bld E c=>
      obtain⟨k0,⟨p,v,k1,k2,k3⟩,k4⟩:=hB;simp only[Blk.sh,RB,e1];exact⟨k0,⟨p,v,k1,k2,RC.sh hψk (by simpa[Blk.bnd]using hcb.2) k3⟩,k4⟩
     | arro sz es i o c=>
      obtain⟨h1,⟨vs,E,k1,k2,k3,v,k4,k5⟩,k6⟩:=hB;simp only[Blk.sh,RB,e1];exact⟨h1,⟨vs,E,k1,k2,k3,v,k4,RC.sh hψk (by simpa[Blk.bnd]using hcb.2) k5⟩,k6⟩
   . exact R2.sim.blk b x hx
 . rcases hget b x hx with⟨c,x0,rfl,hc,rfl⟩ | hx <;> rcases hget b' y hy with⟨c',x0',rfl,hc',rfl⟩ | hy
   . have e1:=hψk c (by simp[lt];exact(h4 c x0 hc).1);have e2:=hψk c' (by simp[lt];exact(h4 c' x0' hc').1);rw[e1]at h0 ⊢;rw[e2]at h0' ⊢;exact h3.inj c c' x0 x0' hc hc' (by omega) h0 h0'
   . have:=hnew c x0 hc h0;have:=hold b' y hy h0';omega
   . have:=hnew c' x0' hc' h0';have:=hold b x hx h0;omega
   . exact R2.sim.inj b b' x y hx hy hne h0 h0'
 . rcases hget b x hx with⟨c,x0,rfl,hc,rfl⟩ | hx
   . obtain⟨k1,k2⟩:=h4 c x0 hc;refine⟨by simp[insR];right;omega,?_⟩;cases x0 with
     | box cs=>
      simp only[Blk.sh,Blk.bnd,List.all_map,List.all_eq_true]at k2 ⊢;intro c hc;exact C.sh_bnd hN (k2 c hc)
     | arr sz es=>rfl
     | set ks=>rfl
     | buf E s=>rfl
     | bld E c=>exact C.sh_bnd hN k2
     | arro sz es i o c=>simp only[Blk.sh,Blk.bnd]at k2 ⊢;exact C.sh_bnd hN k2
   . obtain⟨k1,k2⟩:=R2.sbnd b x hx;exact⟨bH k1,Blk.bnd_mono (fun _ h=>bH h) k2⟩
 . rcases hget b x hx with⟨c,x0,rfl,hc,rfl⟩ | hx
   . exact .inr (Nat.le_trans R.ext.size (hnew c x0 hc h0))
   . exact R2.own b x hx h0
end
end Go.Proofs.YtkbmjabicjpmjaaGreatDoor.Shv
namespace Go.Proofs.YtkbmjabicjpmjaaGreatDoor.Shv
variable [GV]
theorem Con.mk {P : Program} {f : Nat} {fn : Func} {c : ACode} {ars : List AR} {J : Store} (hf : P.funcs[f]? = some fn) (hc : fn.body.bind (resolve P fn.ntmps) = some c) (hr : aX P fn.results.toList = some ars)
 {args:List V} {nt:Nat} (hnt:fn.ntmps=nt) (hn:args.length<=nt) {k:Nat} {Q:V->Store->Nat->Prop} (h:AW P nt k c (env0 0 args) J k (Done ars Q)):Con P f args J k Q:=by
 grind[oZ2,Con.of_body]
end Go.Proofs.YtkbmjabicjpmjaaGreatDoor.Shv
namespace Go.Proofs.YtkbmjabicjpmjaaGreatDoor.Shv
set_option linter.all false
section
open Go
variable [GV]
def C.mb(f:Nat->Nat):C->C
 | .ptr b o=>.ptr (f b) o
 | .eptr b sz i o=>.eptr (f b) sz i o
 | .arr b sz off len=>.arr (f b) sz off len
 | .win b sz off len=>.win (f b) sz off len
 | .mp b=>.mp (f b)
 | .sptr b=>.sptr (f b)
 | .bufc b len=>.bufc (f b) len
 | .fn g caps=>.fn g (caps.map f)
 | c=>c
def V.mb(f:Nat->Nat):V->V
 | .c x=>.c (x.mb f)
 | .agg cs=>.agg (cs.map (C.mb f))
 | .tup vs=>.tup (go f vs)
where go (f:Nat->Nat):List V->List V
 | []=>[]
 | v::vs=>v.mb f::go f vs
def Blk.mb(f:Nat->Nat):Blk->Blk
 | .box cs=>.box (cs.map (C.mb f))
 | .arr sz es=>.arr sz es
 | .set ks=>.set ks
 | .buf E s=>.buf E s
 | .bld E c=>.bld E (c.mb f)
 | .arro sz es i o c=>.arro sz es i o (c.mb f)
def dels(J:Store):List Nat->Store
 | []=>J
 | b::r=>sdel (dels J r) b
theorem db{J:Store}:∀{bs:List Nat} {b:Nat},sget (dels J bs) b=if b∈bs then none else sget J b
 | [],b=>by rfl
 | c::r,b=>by
  simp[dels,aC,db]
  grind
def back(bs:List Nat)(key:Nat)(b:Nat):Nat:=(bs[b]?).getD (key+(b - bs.length))
def aS(J:Store)(bs:List Nat)(f:Nat->Nat):Store->Store
 | []=>dels J bs
 | (b,x)::r=>sput (aS J bs f r) (f b) (x.mb f)
theorem nW{J:Store}{bs:List Nat}{f:Nat->Nat}:∀{J0:Store} {c:Nat} {x:Blk},sget (aS J bs f J0) c=some x->(∃b x0,c=f b/\sget J0 b=some x0/\x=x0.mb f)\/(c ∉ bs/\sget J c=some x)
 | [],c,x,h=>by
  grind[aS,db]
 | (b,y)::r,c,x,h=>by
  simp[aS,ag]at h;split at h
  . grind[sget]
  . rcases nW h with⟨b',x0,h1,h2,h3⟩ | h
    . grind[sget]
    grind
section
variable {P:Program} {Γ:Ctx} {nt kk:Nat} {φ:Phi} {S S':Stab} {env:Env} {J:Store} {N key:Nat} {n:Nat->Bool} {a:Act} {w w':World} {f:Nat->Nat}
theorem RC.mb{φ':Phi}{n:Nat->Bool}(hφ:∀b,n b=true->φ' (f b)=φ b){c:C}{v:Value}(hb:c.bnd n=true)(h:RC φ w S c v):RC φ' w S (c.mb f) v:=by
 cases c with
 | ptr b o=>grind[C.bnd,C.mb,RC]
 | eptr b sz i o=>grind[C.bnd,C.mb,RC]
 | arr b sz off len=>grind[C.bnd,C.mb,RC]
 | win b sz off len=>grind[C.bnd,C.mb,RC]
 | mp b=>grind[C.bnd,C.mb,RC]
 | sptr b=>grind[C.bnd,C.mb,RC]
 | bufc b len=>grind[C.bnd,C.mb,RC]
 | fn g caps=>
  simp_all[C.bnd,C.mb,RC]
 | _=>exact h
theorem j7 :∀{vs:List V} {i:Nat},(V.mb.go f vs)[i]?=(vs[i]?).map (V.mb f)
 | [],i=>by rfl
 | v::vs,0=>by rfl
 | v::vs,i+1=>by simp[V.mb.go,j7]
theorem jj :∀{vs:List V},(V.mb.go f vs).length=vs.length
 | []=>rfl
 | v::vs=>by simp[V.mb.go,jj]
theorem RV.mb{φ':Phi}{n:Nat->Bool}(hφ:∀b,n b=true->φ' (f b)=φ b){v:V}{x:Value}(hb:v.bnd n=true)(h:RV φ w S v x):RV φ' w S (v.mb f) x:=by
 induction h with
 | c h=>exact .c (RC.mb hφ (by grind[V.bnd]) h)
 | @agg cs vs h=>
  simp[V.bnd]at hb;refine .agg ?_;have:=h.imp fun c v hc hr=>RC.mb hφ (hb c hc) hr
  exact this.map_left fun _ _ h=>h
 | tup vs xs hl h ih=>
  refine .tup _ xs (by grind[jj]) ?_
  grind[j7,bQ,V.bnd]
theorem C.mb_bnd{n m:Nat->Bool}(hf:∀b,m b=true->n (f b)=true){c:C}(h:c.bnd m=true):(c.mb f).bnd n=true:=by
 cases c <;> simp[C.mb,C.bnd]at h ⊢
 all_goals grind
theorem V.mb_bnd{n m:Nat->Bool}(hf:∀b,m b=true->n (f b)=true):∀{v:V},v.bnd m=true->(v.mb f).bnd n=true
 | .c x,h=>by grind[V.mb,V.bnd,C.mb_bnd]
 | .agg cs,h=>by grind[V.mb,V.bnd,C.mb_bnd]
 | .tup vs,h=>by exact go vs h
where go:∀vs,V.bnd.V.bnds m vs=true->V.bnd.V.bnds n (V.mb.go f vs)=true
 | [],_=>rfl
 | v::vs,h=>by simp[V.mb.go,V.bnd.V.bnds,Bool.and_eq_true]at h ⊢;exact⟨V.mb_bnd hf h.1,go vs h.2⟩
theorem Rel.extendB{B:Nat->Prop}(R:Rel Γ nt φ S env J n a w)(e:Ext B S S' w w')(hst:∀b j,S' b j->b < w'.heap.size)(hnB:∀b x,sget J b=some x->(φ b).2≠0->¬B (φ b).1)(hB:∀b,B b->Γ.B b\/Γ.w0.heap.size<=b):Rel Γ nt φ S' env J n a w':=by
 have hh:=fun b x hx h0=>e.block _ ((R.sim.blk b x hx).real_lt h0) (hnB b x hx h0)
 have hns:∀b x,sget J b=some x->(φ b).2≠0->∀j,¬S' (φ b).1 j:=by
  intro b x hx h0 j hj;have hb:=R.sim.blk b x hx;rcases e.snew _ _ hj with h | h | h
  . exact hb.notS h0 j h
  . grind
  grind
 refine⟨⟨fun b x hx=>?_,R.sim.inj,hst⟩,fun k g v hl hg=>?_,R.envn,R.ebnd,R.sbnd,R.size,R.defers,?_,R.own,R.fix,R.kn⟩
 . have hb:=R.sim.blk b x hx;cases x with
   | box cs=>
    obtain⟨h0,vs,E,h1,h2,h3⟩:=hb;refine⟨h0,vs,E,(hh _ _ hx h0).trans h1,h2.imp fun c v hc hr=>RC.mono e.mono (fun _ _=>rfl) (C.bnd_true _) hr,hns b _ hx h0⟩
   | arr sz es=>
    obtain⟨h1,h2,h3,h4,h5⟩:=hb;refine⟨h1,h2,h3,h4,fun h0=>?_⟩;obtain⟨vs,E,k1,k2,k3,k4⟩:=h5 h0;exact⟨vs,E,(hh _ _ hx h0).trans k1,k2,fun i j e' t he ht=>let⟨v,hv,hr⟩:=k3 i j e' t he ht;⟨v,hv,RT.mono e.mono hr⟩,hns b _ hx h0⟩
   | set ks=>
    obtain⟨h0,⟨es,c,h1,h2⟩,h3⟩:=hb;exact⟨h0,⟨es,c,(hh _ _ hx h0).trans h1,h2⟩,hns b _ hx h0⟩
   | buf E s=>
    obtain⟨h1,h2,h3⟩:=hb;refine⟨h1,h2,fun h0=>?_⟩
    grind
   | bld E c=>
    obtain⟨h0,⟨p,v,h1,h2,h3⟩,h4⟩:=hb;exact⟨h0,⟨p,v,(hh _ _ hx h0).trans h1,h2,RC.mono e.mono (fun _ _=>rfl) (C.bnd_true _) h3⟩,hns b _ hx h0⟩
   | arro sz es i o c=>
    obtain⟨⟨h1,h2,h3,h4,h5,h6⟩,⟨vs,E,k1,k2,k3,v,k4,k5⟩,k6⟩:=hb;exact⟨⟨h1,h2,h3,h4,h5,h6⟩,⟨vs,E,(hh _ _ hx (by omega)).trans k1,k2,fun i j e' t he ht hn=>let⟨v,hv,hr⟩:=k3 i j e' t he ht hn;⟨v,hv,RT.mono e.mono hr⟩,v,k4,RC.mono e.mono (fun _ _=>rfl) (C.bnd_true _) k5⟩,hns b _ hx (by omega)⟩
 . obtain⟨x,hx,hr⟩:=R.envs k g v hl hg;exact⟨x,hx,RV.mono e.mono (fun _ _=>rfl) (R.ebnd k g v hl hg) hr⟩
 . refine⟨e.os.trans R.ext.os,e.tape.trans R.ext.tape,e.output.trans R.ext.output,Nat.le_trans R.ext.size e.size,fun b hlt hb=>?_,R.ext.mono.trans e.mono,fun b j hj=>?_⟩
   . refine(e.block b (Nat.lt_of_lt_of_le hlt R.ext.size) fun h=>?_).trans (R.ext.block b hlt hb)
     grind
   . rcases e.snew _ _ hj with h | h | h
     . exact R.ext.snew b j h
     . grind
     . exact .inr (.inr (Nat.le_trans R.ext.size h))
theorem ACall.raw {fn : Nat} {args : List V} {bs : List Nat} {Q : V -> Store -> Nat -> Prop} (hnd : bs.Nodup) (hlt : ∀ b, b ∈ bs -> b < key) (h : Con P fn (args.map (V.ren bs)) (aF bs J 0 bs) bs.length Q) {K : V -> Store -> Prop}
 (hK:∀r J' N',Q r J' N'->N'<=bs.length+16/\K (r.mb (back bs key)) (aS J bs (back bs key) J')):(∀b,b∈bs->n b=true)->∀Γ nt φ S env a w,Rel Γ nt φ S env J n a w->(∀b,key<=b->b < key+16->n b=false)->V.bnd.V.bnds n args=true->∀vs:List Value,All2 (RV φ w S) args vs->
 Calls P fn vs.toArray w fun e w'=>∃v r φ' S' J',e= .returned v/\K r J'/\RV φ' w' S' r v/\r.bnd (insR n key)=true/\Rel Γ nt φ' S' env J' (insR n key) a w':=by
 intro hnb Γ nt φ S env a w R hn hb' vs hvs
 let φ0:Phi:=fun i=>φ ((bs[i]?).getD 0)
 have hφ0:∀(i:Nat) b,bs[i]?=some b->φ0 i=φ b:=by grind
 let B:Nat->Prop:=fun β=>∃b x,b∈bs/\sget J b=some x/\(φ b).2≠0/\β=(φ b).1
 have hs0:∀b x,sget (aF bs J 0 bs) b=some x->∃c x0,bs[b]?=some c/\sget J c=some x0/\x=x0.ren bs:=by
  grind[cL]
 have hsim:Sim φ0 w S (aF bs J 0 bs):=by
  refine⟨fun b x hx=>?_,fun b b' x y hx hy hne h0 h0'=>?_,R.sim.st⟩
  . obtain⟨c,x0,h2,h3,rfl⟩:=hs0 b x hx;exact RB.ren hφ0 h2 (R.sim.blk c x0 h3)
  . obtain⟨c,x0,h2,h3,rfl⟩:=hs0 b x hx;obtain⟨c',x0',h2',h3',rfl⟩:=hs0 b' y hy;rw[hφ0 b c h2]at h0 ⊢;rw[hφ0 b' c' h2']at h0' ⊢;refine R.sim.inj c c' x0 x0' h3 h3' ?_ h0 h0'
    grind[List.getElem?_eq_some_iff,List.pairwise_iff_getElem]
 have hargs:All2 (RV φ0 w S) (args.map (V.ren bs)) vs:=hvs.map_left fun _ _=>RV.ren hφ0
 have hbn:V.bnd.V.bnds (lt bs.length) (args.map (V.ren bs))=true:=by
  simp_all[dB,List.getElem?_map,oZ1,V.ren_bnd]
 refine(h φ0 S w B hsim (fun b x hx=>?_) (fun b x hx h0=>?_) (R.glob fun β ⟨b,x,_,hx,h0,e⟩=>e▸R.own b x hx h0) hbn vs hargs).mono ?_
 . obtain⟨c,x0,h2,h3,rfl⟩:=hs0 b x hx;refine⟨(List.getElem?_eq_some_iff.1 h2).1,?_⟩;cases x0 with
   | box cs=>grind[Blk.ren,Blk.bnd,List.all_map,List.all_eq_true,C.ren_bnd]
   | arr sz es=>rfl
   | set ks=>rfl
   | buf E s=>rfl
   | bld E c=>exact C.ren_bnd c
   | arro sz es i o c=>exact C.ren_bnd c
 . grind
 rintro e w' ⟨v,r',φ',S',J',N',rfl,hQ,h1,h2,h3,h4,h5,h6,h7⟩
 obtain⟨hN,hK⟩:=hK _ _ _ hQ
 have hBown:∀b,B b->Γ.B b\/Γ.w0.heap.size<=b:=by
  rintro β ⟨b,x,_,hx,h0,rfl⟩
  exact R.own b x hx h0
 have R0:Rel Γ nt φ S env (dels J bs) n a w:=by
  have hsub:∀b x,sget (dels J bs) b=some x->b ∉ bs/\sget J b=some x:=by
   grind[db]
  exact⟨⟨fun b x hx=>R.sim.blk b x (hsub b x hx).2,fun b b' x y hx hy=>R.sim.inj b b' x y (hsub b x hx).2 (hsub b' y hy).2,R.sim.st⟩,R.envs,R.envn,R.ebnd,fun b x hx=>R.sbnd b x (hsub b x hx).2,R.size,R.defers,R.ext,fun b x hx=>R.own b x (hsub b x hx).2,R.fix,R.kn⟩
 have hnB:∀b x,b ∉ bs->sget J b=some x->(φ b).2≠0->¬B (φ b).1:=by
  rintro b x hnb hx h0 ⟨c,y,hc,hy,h0',he⟩
  exact R.sim.inj b c x y hx hy (fun e=>hnb (e▸hc)) h0 h0' he
 have R1:=R0.extendB h5 h3.st (fun b x hx h0=>by
  grind[db]) hBown
 let ψ:Phi:=fun b=>if key<=b/\b < key+16 then φ' (bs.length+(b - key))else φ b
 have hψn:∀b,n b=true->ψ b=φ b:=by grind
 have hψk:∀b,lt N' b=true->ψ (back bs key b)=φ' b:=by
  intro b hb;simp only[lt,decide_eq_true_eq]at hb;unfold back
  grind
 have hins:∀b,lt N' b=true->insR n key (back bs key b)=true:=by
  intro b hb;simp only[lt,decide_eq_true_eq]at hb;unfold back;cases hg:bs[b]? with
  | some c=>exact bH (hnb c (List.mem_of_getElem? hg))
  | none=>
   simp only[Option.getD_none,insR,Bool.or_eq_true,Bool.and_eq_true,decide_eq_true_eq];right;omega
 have R2:=R1.phi hψn;have hget:∀b x,sget (aS J bs (back bs key) J') b=some x->(∃c x0,b=back bs key c/\sget J' c=some x0/\x=x0.mb (back bs key))\/(b ∉ bs/\sget J b=some x):=fun b x hx=>nW hx
 have hdel:∀b x,b ∉ bs->sget J b=some x->sget (dels J bs) b=some x:=by simp_all[db,if_neg]
 have hnew:∀c x0,sget J' c=some x0->(ψ (back bs key c)).2≠0->B (ψ (back bs key c)).1\/w.heap.size<=(ψ (back bs key c)).1:=by
  intro c x0 hc h0;rw[hψk c (by simp[lt];exact(h4 c x0 hc).1)]at h0 ⊢
  grind
 have hold:∀b x,b ∉ bs->sget J b=some x->(ψ b).2≠0->(ψ b).1 < w.heap.size/\¬B (ψ b).1:=by
  intro b x hnb hx h0;rw[hψn b (R.sbnd b x hx).1]at h0 ⊢;exact⟨(R.sim.blk b x hx).real_lt h0,hnB b x hnb hx h0⟩
 refine⟨v,r'.mb (back bs key),ψ,S',aS J bs (back bs key) J',rfl,hK,RV.mb hψk h2 h1,V.mb_bnd hins h2,⟨⟨fun b x hx=>?_,fun b b' x y hx hy hne h0 h0'=>?_,h3.st⟩,R2.envs,R2.envn,fun k g v hl hg=>V.bnd_mono (fun _ h=>bH h) (R2.ebnd k g v hl hg),fun b x hx=>?_,R2.size,R2.defers,R2.ext,fun b x hx h0=>?_,R2.fix,fun b hb=>bH (R2.kn b hb)⟩⟩
 . rcases hget b x hx with⟨c,x0,rfl,hc,rfl⟩ | ⟨hnb,hx⟩
   . have hB:=h3.blk c x0 hc;have hcb:=h4 c x0 hc;have e1:=hψk c (by simp[lt];exact hcb.1);cases x0 with
     | box cs=>
      obtain⟨k0,vs,E,k1,k2,k3⟩:=hB;simp only[Blk.mb,RB,e1];refine⟨k0,vs,E,k1,?_,k3⟩;have hcs:=hcb.2;simp only[Blk.bnd,List.all_eq_true]at hcs;have:=k2.imp (R':=fun c v=>RC ψ w' S' (C.mb (back bs key) c) v) fun c v hc hr=>RC.mb hψk (hcs c hc) hr
      exact this.map_left fun _ _ h=>h
     | arr sz es=>simp only[Blk.mb,RB,e1];exact hB
     | set ks=>simp only[Blk.mb,RB,e1];exact hB
     | buf E s=>simp only[Blk.mb,RB,e1];exact hB
     | bld E c=>
      obtain⟨k0,⟨p,v,k1,k2,k3⟩,k4⟩:=hB;simp only[Blk.mb,RB,e1];exact⟨k0,⟨p,v,k1,k2,RC.mb hψk (by simpa[Blk.bnd]using hcb.2) k3⟩,k4⟩
     | arro sz es i o c=>
      obtain⟨h1,⟨vs,E,k1,k2,k3,v,k4,k5⟩,k6⟩:=hB;simp only[Blk.mb,RB,e1];exact⟨h1,⟨vs,E,k1,k2,k3,v,k4,RC.mb hψk (by simpa[Blk.bnd]using hcb.2) k5⟩,k6⟩
   . exact R2.sim.blk b x (hdel b x hnb hx)
 . rcases hget b x hx with⟨c,x0,rfl,hc,rfl⟩ | ⟨hnb,hx⟩ <;> rcases hget b' y hy with⟨c',x0',rfl,hc',rfl⟩ | ⟨hnb',hy⟩
   . have e1:=hψk c (by simp[lt];exact(h4 c x0 hc).1);have e2:=hψk c' (by simp[lt];exact(h4 c' x0' hc').1);rw[e1]at h0 ⊢;rw[e2]at h0' ⊢;exact h3.inj c c' x0 x0' hc hc' (by rintro rfl;exact hne rfl) h0 h0'
   . obtain⟨k1,k2⟩:=hold b' y hnb' hy h0';rcases hnew c x0 hc h0 with h | h
     . intro e;rw[e]at h;exact k2 h
     . omega
   . obtain⟨k1,k2⟩:=hold b x hnb hx h0;rcases hnew c' x0' hc' h0' with h | h
     . intro e;rw[<-e]at h;exact k2 h
     . omega
   . exact R2.sim.inj b b' x y (hdel b x hnb hx) (hdel b' y hnb' hy) hne h0 h0'
 . rcases hget b x hx with⟨c,x0,rfl,hc,rfl⟩ | ⟨hnb,hx⟩
   . obtain⟨k1,k2⟩:=h4 c x0 hc;refine⟨hins c (by simp[lt];exact k1),?_⟩;cases x0 with
     | box cs=>
      simp only[Blk.mb,Blk.bnd,List.all_map,List.all_eq_true]at k2 ⊢;intro c hc;exact C.mb_bnd hins (k2 c hc)
     | arr sz es=>rfl
     | set ks=>rfl
     | buf E s=>rfl
     | bld E c=>simp only[Blk.mb,Blk.bnd]at k2 ⊢;exact C.mb_bnd hins k2
     | arro sz es i o c=>simp only[Blk.mb,Blk.bnd]at k2 ⊢;exact C.mb_bnd hins k2
   . obtain⟨k1,k2⟩:=R2.sbnd b x (hdel b x hnb hx);exact⟨bH k1,Blk.bnd_mono (fun _ h=>bH h) k2⟩
 . rcases hget b x hx with⟨c,x0,rfl,hc,rfl⟩ | ⟨hnb,hx⟩
   . rcases hnew c x0 hc h0 with h | h
     . exact hBown _ h
     . exact .inr (Nat.le_trans R.ext.size h)
   . exact R2.own b x (hdel b x hnb hx) h0
theorem ACall.of_raw {fn : Nat} {args : List V} {bs : List Nat} {Q : V -> Store -> Nat -> Prop} (hnd : bs.Nodup) (hlt : ∀ b, b ∈ bs -> b < key) (hin : ∀ b, b ∈ bs -> ∃ x, sget J b = some x) (h : Con P fn (args.map (V.ren bs)) (aF bs J 0 bs) bs.length Q) {K : V -> Store -> Prop}
 (hK:∀r J' N',Q r J' N'->N'<=bs.length+16/\K (r.mb (back bs key)) (aS J bs (back bs key) J')):ACall P fn args J key K:=by
 intro Γ nt φ S env n a w R hn hb vs hvs;exact ACall.raw hnd hlt h hK (fun b hb=>let⟨x,hx⟩:=hin b hb;(R.sbnd b x hx).1) Γ nt φ S _ a w R hn hb vs hvs
theorem l5{bs:List Nat}:∀{l:List Nat} {i:Nat} {J J':Store},(∀b,b∈l->sget J' b=sget J b)->aF bs J' i l=aF bs J i l
 | [],i,J,J',h=>rfl
 | b::r,i,J,J',h=>by
  simp[aF];rw[h b (by simp),l5 fun c hc=>h c (by grind)]
theorem l6{bs:List Nat}{f:Nat->Nat}:∀{J0:Store} {J J':Store} {c:Nat},(sget (dels J' bs) c=sget (dels J bs) c)->sget (aS J' bs f J0) c=sget (aS J bs f J0) c
 | [],J,J',c,h=>h
 | (b,x)::r,J,J',c,h=>by
  simp[aS,ag];split
  . rfl
  . exact l6 h
theorem iX{bs:List Nat}{key:Nat}:∀{J0:Store} {J:Store} {c:Nat},J0.all (fun x=>decide (x.1 < bs.length+16))=true->c ∉ bs->¬(key<=c/\c < key+16)->sget (aS J bs (back bs key) J0) c=sget J c
 | [],J,c,hk,hc,hr=>by grind[aS,db]
 | (b,x)::r,J,c,hk,hc,hr=>by
  simp only[List.all_cons,Bool.and_eq_true]at hk;simp[aS,ag];rw[if_neg ?_]
  . exact iX hk.2 hc hr
  grind[back]
end
end
section
open Go
variable [GV]
variable {xb:List Nat}
section
variable {P:Program} {Γ:Ctx} {nt kk:Nat} {φ:Phi} {S:Stab} {env env':Env} {J J' J1:Store} {N key:Nat} {n:Nat->Bool} {a:Act} {w:World}
theorem av{x:AO}(h:∀t,t∈x.tmps->look env' t=look env t):x.get env'=x.get env:=by
 cases x with
 | const v=>rfl
 | tmp t=>grind[AO.get,AO.tmps]
theorem fK{xs:List AO}(h:∀t,t∈xs.flatMap AO.tmps->look env' t=look env t):gets env' xs=gets env xs:=by
 induction xs with
 | nil=>rfl
 | cons x xs ih=>
  grind[gets,av]
theorem fL{x:Option AO}(h:∀t,t∈oTmps x->look env' t=look env t):getO env' x=getO env x:=by
 cases x with
 | none=>rfl
 | some x=>simp[getO];rw[av h]
theorem l7 :∀{ps:List (Nat×Nat×AO)} {cs:List C},(∀t,t∈(ps.flatMap fun p=>p.2.2.tmps)->look env' t=look env t)->bx env' cs ps=bx env cs ps
 | [],cs,h=>rfl
 | (o,k,x)::r,cs,h=>by
  simp[bx];rw[av (fun t ht=>h t (by grind))]
  congr 1;funext a;congr 1;funext c
  split
  . rw[l7 (fun t ht=>h t (by grind))]
  rfl
theorem jk{sz:Nat}:∀{ps:List (Nat×AO)} {es:List (List T)},(∀t,t∈(ps.flatMap fun p=>p.2.tmps)->look env' t=look env t)->bf env' sz es ps=bf env sz es ps
 | [],cs,h=>rfl
 | (i,x)::r,es,h=>by
  simp[bf];rw[av (fun t ht=>h t (by grind))]
  congr 1;funext a;congr 1;funext c;congr 1;funext ts
  split
  . rw[jk (fun t ht=>h t (by grind))]
  rfl
theorem vq{o:AOp}(h:∀t,t∈o.reads->look env' t=look env t):aval o env' J key=aval o env J key:=by
 cases o <;> simp only[AOp.reads,List.mem_append]at h
 case mov x=>simp only[aval];rw[av h]
 case pick c x y=>grind[aval,av]
 case alloc=>rfl
 case box x=>simp only[aval];rw[av h]
 case allocA=>rfl
 case b2s x=>simp only[aval];rw[av h]
 case allocS=>rfl
 case mkset=>rfl
 case bsliceT e sz len z ps=>simp only[aval];congr 1;funext zt;rw[jk h]
 case lkset x y=>simp only[aval];rw[av fun t ht=>h t (.inl ht),av fun t ht=>h t (.inr ht)]
 case upset x y=>simp only[aval];rw[av fun t ht=>h t (.inl ht),av fun t ht=>h t (.inr ht)]
 case appendB e k x y=>simp only[aval];rw[av fun t ht=>h t (.inl ht),av fun t ht=>h t (.inr ht)]
 case sdata x=>simp only[aval];rw[av h]
 case ustr e x y=>simp only[aval];rw[av fun t ht=>h t (.inl ht),av fun t ht=>h t (.inr ht)]
 case idxP k x y=>simp only[aval];rw[av fun t ht=>h t (.inl ht),av fun t ht=>h t (.inr ht)]
 case slcP k x l i=>simp only[aval];rw[av fun t ht=>h t (.inl (.inl ht)),fL fun t ht=>h t (.inl (.inr ht)),fL fun t ht=>h t (.inr ht)]
 case build z ps=>simp only[aval];rw[l7 h]
 case bslice sz len z ps=>simp only[aval];congr 1;funext zt;rw[jk h]
 case load g k x=>simp only[aval];rw[av h]
 case store k x v=>simp only[aval];rw[av fun t ht=>h t (.inl ht),av fun t ht=>h t (.inr ht)]
 case nilCheck x=>simp only[aval];rw[av h]
 case bin op x y=>simp only[aval];rw[av fun t ht=>h t (.inl ht),av fun t ht=>h t (.inr ht)]
 case eqAgg op ks x y=>simp only[aval];rw[av fun t ht=>h t (.inl ht),av fun t ht=>h t (.inr ht)]
 case eqBool op x y=>simp only[aval];rw[av fun t ht=>h t (.inl ht),av fun t ht=>h t (.inr ht)]
 case eqNil=>rfl
 case not x=>simp only[aval];rw[av h]
 case conv k x=>simp only[aval];rw[av h]
 case i2s x=>simp only[aval];rw[av h]
 case s2s x=>simp only[aval];rw[av h]
 case fldA k x=>simp only[aval];rw[av h]
 case fld g k m x=>simp only[aval];rw[av h]
 case idxA op x y=>simp only[aval];rw[av fun t ht=>h t (.inl ht),av fun t ht=>h t (.inr ht)]
 case idxV op x y=>simp only[aval];rw[av fun t ht=>h t (.inl ht),av fun t ht=>h t (.inr ht)]
 case mslice op _ z x=>simp only[aval];rw[av h]
 case idxS x y=>simp only[aval];rw[av fun t ht=>h t (.inl ht),av fun t ht=>h t (.inr ht)]
 case slcS x l i=>simp only[aval];rw[av fun t ht=>h t (.inl (.inl ht)),fL fun t ht=>h t (.inl (.inr ht)),fL fun t ht=>h t (.inr ht)]
 case slc k x l i=>grind[aval,av,fL]
 case slc0 x=>simp only[aval];rw[av h]
 case mkfn f xs=>simp only[aval];rw[fK h]
 case ext x i=>simp only[aval];rw[av h]
 case len s x=>grind[aval,av]
 case append te sz by' x y=>simp only[aval];rw[av fun t ht=>h t (.inl ht),av fun t ht=>h t (.inr ht)]
 case appendT te sz by' x y=>simp only[aval];rw[av fun t ht=>h t (.inl ht),av fun t ht=>h t (.inr ht)]
 case max2 x y=>simp only[aval];rw[av fun t ht=>h t (.inl ht),av fun t ht=>h t (.inr ht)]
 case min2 x y=>grind[aval,av]
 case call=>rfl
 rfl
def blkOf(env:Env)(x:AO):List Nat:=
 match x.get env with
 | some (_,.c (.ptr b _))=>[b]
 | some (_,.c (.eptr b _ _ _))=>[b]
 | some (_,.c (.arr b _ _ _))=>[b]
 | some (_,.c (.win b _ _ _))=>[b]
 | some (_,.c (.mp b))=>[b]
 | some (_,.c (.sptr b))=>[b]
 | some (_,.c (.bufc b _))=>[b]
 | _=>[]
def C.blks :C->List Nat
 | .ptr b _ | .eptr b _ _ _ | .arr b _ _ _ | .win b _ _ _ | .mp b | .sptr b | .bufc b _=>[b]
 | .fn _ caps=>caps
 | _=>[]
def V.blks :V->List Nat
 | .c x=>x.blks
 | .agg cs=>cs.flatMap C.blks
 | .tup _=>[]
def argBs(env:Env)(args:List AO):List Nat:=
 args.flatMap fun x=>match x.get env with
  | some (_,v)=>v.blks
  | none=>[]
def tch(xb:List Nat)(o:AOp)(env:Env)(key:Nat):List Nat:=
 match o with
 | .alloc _ | .allocA _ | .box _ | .bslice .. | .mslice .. | .mkset=>[key]
 | .allocS .. =>[key,key+1]
 | .lkset x _=>blkOf env x
 | .upset x _=>blkOf env x
 | .appendB _ _ x _=>key::blkOf env x
 | .ustr _ x _=>blkOf env x
 | .call _ args=>(List.range 16).map (key+·)++(argBs env args++xb)
 | .load _ _ x=>blkOf env x
 | .b2s x=>blkOf env x
 | .store _ x _=>blkOf env x
 | .append _ _ _ x y=>key::(blkOf env x++blkOf env y)
 | .appendT _ _ _ x y=>blkOf env x++blkOf env y
 | _=>[]
def wrB(xb:List Nat)(o:AOp)(env:Env)(key b:Nat):Bool:=
 match o with
 | .alloc _ | .allocA _ | .box _ | .bslice .. | .mslice .. | .mkset=>b==key
 | .allocS .. =>b==key || b==key+1
 | .upset x _=>(blkOf env x).contains b
 | .appendB _ _ x _=>b==key || (blkOf env x).contains b
 | .ustr _ x _=>(blkOf env x).contains b
 | .store _ x _=>(blkOf env x).contains b
 | .append _ _ _ x _=>b==key || (blkOf env x).contains b
 | .appendT _ _ _ x _=>(blkOf env x).contains b
 | .call _ args=>(decide (key<=b) && decide (b < key+16)) || (argBs env args++xb).contains b
 | _=>false
theorem sf{o:AOp}(hn:o.neutral=true)(ht:o.touches=false){p v J1}(ha:aval o env J key=some (p,v,J1)):aval o env J' key=some (p,v,J'):=by
 cases o <;> simp only[AOp.neutral,AOp.touches,reduceCtorEq]at hn ht <;> simp only[aval,oZ2,oZ1]at ha ⊢
 all_goals
  (try (obtain⟨a1,h1,ha⟩:=ha;refine⟨a1,h1,?_⟩))
  (try (obtain⟨a2,h2,ha⟩:=ha;refine⟨a2,h2,?_⟩))
  (try (obtain⟨a3,h3,ha⟩:=ha;refine⟨a3,h3,?_⟩))
  (try split at ha)
  (try (done))
 all_goals first
  | (cases ha;rfl)
  | (cases ha;done)
  | (exact⟨x,h1,h2,h3,rfl⟩)
  | (simp only[oZ1]at ha ⊢;obtain⟨x,h1,h2⟩:=ha;simp only[Prod.mk.injEq]at h2 ⊢;exact⟨x,h1,h2.1,h2.2.1,trivial⟩)
  | (simp only[Option.ite_none_right_eq_some,Option.some.injEq,Prod.mk.injEq]at ha ⊢;exact⟨ha.1,ha.2.1,ha.2.2.1,trivial⟩)
theorem oG{x:AO}{p:Prop}{b:Nat}(h:x.get env=some (p,.c (.mp b))):blkOf env x=[b]:=by grind[blkOf]
theorem tH{x:AO}{p:Prop}{b:Nat}(h:x.get env=some (p,.c (.sptr b))):blkOf env x=[b]:=by grind[blkOf]
theorem nd{x:AO}{p:Prop}{b l:Nat}(h:x.get env=some (p,.c (.bufc b l))):blkOf env x=[b]:=by grind[blkOf]
theorem nX{x:AO}{p:Prop}{b o:Nat}(h:x.get env=some (p,.c (.ptr b o))):blkOf env x=[b]:=by grind[blkOf]
theorem ng{x:AO}{p:Prop}{b sz i o:Nat}(h:x.get env=some (p,.c (.eptr b sz i o))):blkOf env x=[b]:=by grind[blkOf]
theorem uK{x:AO}{p:Prop}{b sz i o:Nat}(h:x.get env=some (p,.c (.win b sz i o))):blkOf env x=[b]:=by grind[blkOf]
theorem eu{x:AO}{p:Prop}{b sz i o:Nat}(h:x.get env=some (p,.c (.arr b sz i o))):blkOf env x=[b]:=by grind[blkOf]
theorem tK {o : AOp} {p v} (ha : aval o env J key = some (p, v, J1)) (ht : ∀ b, b ∈ tch xb o env key -> sget J' b = sget J b):
 (∃J1',aval o env J' key=some (p,v,J1')/\∀b,sget J1' b=if wrB xb o env key b then sget J1 b else sget J' b)/\∀b,wrB xb o env key b=false->sget J1 b=sget J b:=by
 by_cases hnt:o.neutral=true/\o.touches=false
 . have hw:∀b,wrB xb o env key b=false:=by intro b;cases o <;> simp only[AOp.neutral,AOp.touches,reduceCtorEq,Bool.false_eq_true,false_and,and_false,and_self]at hnt <;> rfl
   have:=fy hnt.1 ha;subst this;exact⟨⟨J',sf hnt.1 hnt.2 ha,fun b=>by grind⟩,fun b _=>rfl⟩
 . cases o <;> simp only[AOp.neutral,AOp.touches,reduceCtorEq,Bool.false_eq_true,false_and,and_false,and_self,not_true,not_false_eq_true]at hnt
   case alloc cs=>
    simp only[aval,Option.some.injEq,Prod.mk.injEq]at ha ⊢;obtain⟨rfl,rfl,rfl⟩:=ha;refine⟨⟨_,⟨rfl,rfl,rfl⟩,fun b=>?_⟩,fun b hb=>?_⟩
    . simp only[ag,wrB,beq_iff_eq]
      grind
    simp_all[wrB,beq_eq_false_iff_ne,ag,if_neg,Ne.symm]
   case allocA cs=>
    simp only[aval,oZ1,Prod.mk.injEq]at ha ⊢;obtain⟨ts,hts,rfl,rfl,rfl⟩:=ha;refine⟨⟨_,⟨ts,hts,rfl,rfl,rfl⟩,fun b=>?_⟩,fun b hb=>?_⟩
    . simp only[ag,wrB,beq_iff_eq]
      grind
    simp_all[wrB,beq_eq_false_iff_ne,ag,if_neg,Ne.symm]
   case b2s x=>
    simp only[aval,oZ2,oZ1,Prod.mk.injEq]at ha ⊢;obtain⟨⟨p0,v0⟩,h1,⟨q,s⟩,h2,rfl,rfl,rfl⟩:=ha;refine⟨⟨J',⟨(p0,v0),h1,(q,s),?_,rfl,rfl,rfl⟩,fun b=>rfl⟩,fun b _=>rfl⟩;dsimp only at h2 ⊢;unfold b2sOf at h2 ⊢;split at h2
    . grind
    . grind
    . rename_i b off len;rw[ht b (by simp[tch,eu h1])]
      grind
    . rename_i b off len;rw[ht b (by simp[tch,uK h1])]
      grind
    grind
   case box x=>
    simp only[aval,oZ2,oZ1,Prod.mk.injEq]at ha ⊢;obtain⟨x1,h1,cs,h2,rfl,rfl,rfl⟩:=ha;refine⟨⟨_,⟨x1,h1,cs,h2,rfl,rfl,rfl⟩,fun b=>?_⟩,fun b hb=>?_⟩
    . simp only[ag,wrB,beq_iff_eq]
      grind
    simp_all[wrB,beq_eq_false_iff_ne,ag,if_neg,Ne.symm]
   case bslice sz len z ps=>
    simp only[aval,oZ2,oZ1,Prod.mk.injEq]at ha ⊢;obtain⟨x1,h1,cs,h2,rfl,rfl,rfl⟩:=ha;refine⟨⟨_,⟨x1,h1,cs,h2,rfl,rfl,rfl⟩,fun b=>?_⟩,fun b hb=>?_⟩
    . simp only[ag,wrB,beq_iff_eq]
      grind
    simp_all[wrB,beq_eq_false_iff_ne,ag,if_neg,Ne.symm]
   case mslice sz by' z x=>
    simp only[aval,oZ2]at ha ⊢;obtain⟨x1,h1,cs,h2,ha⟩:=ha;split at ha
    . rename_i he;simp only[Option.some.injEq,Prod.mk.injEq]at ha;obtain⟨rfl,rfl,rfl⟩:=ha;refine⟨⟨_,⟨x1,h1,cs,h2,by rw[he]⟩,fun b=>?_⟩,fun b hb=>?_⟩
      . simp only[ag,wrB,beq_iff_eq]
        grind
      simp_all[wrB,beq_eq_false_iff_ne,ag,if_neg,Ne.symm]
    . cases ha
   case load g k x=>
    have:=fy rfl ha;subst this;refine⟨⟨J',?_,fun b=>rfl⟩,fun b _=>rfl⟩;simp only[aval,oZ2]at ha ⊢;obtain⟨⟨p0,v0⟩,h1,ha⟩:=ha;refine⟨(p0,v0),h1,?_⟩;dsimp only at ha ⊢;split at ha
    . rename_i b o;rw[ht b (by simp[tch,nX h1])];split at ha
      all_goals simp_all
    . rename_i b sz i o;rw[ht b (by simp[tch,ng h1])];split at ha
      . simp_all
      . split at ha
        . grind
        . rename_i hg;split at ha
          all_goals simp_all
      grind
    all_goals simp_all
   case store k x y=>
    simp only[aval,oZ2,Option.ite_none_right_eq_some]at ha ⊢;obtain⟨⟨p0,v0⟩,h1,d,h2,cs,h3,h4,ha⟩:=ha;have fin:∀(b:Nat) (x0:Blk),blkOf env x=[b]->J1=sput J b x0->(∀c,sget (sput J' b x0) c=if wrB xb (.store k x y) env key c then sget J1 c else sget J' c)/\∀c,wrB xb (.store k x y) env key c=false->sget J1 c=sget J c:=by
     intro b x0 hb hs;subst hs;refine⟨fun c=>?_,fun c hc=>?_⟩
     . simp only[wrB,hb,List.contains_cons,List.contains_nil,Bool.or_false,beq_iff_eq,ag]
       grind
     . simp only[wrB,hb,List.contains_cons,List.contains_nil,Bool.or_false,beq_eq_false_iff_ne]at hc;rw[ag,if_neg (Ne.symm hc)]
    dsimp only at ha ⊢;split at ha
    . rename_i b o;have hb:=nX h1;split at ha
      . rename_i ds hds;simp only[Option.ite_none_right_eq_some,Option.some.injEq,Prod.mk.injEq]at ha;obtain⟨h5,rfl,rfl,h6⟩:=ha;obtain⟨f1,f2⟩:=fin b _ hb h6.symm;refine⟨⟨_,⟨(p0,.c (.ptr b o)),h1,d,h2,cs,h3,h4,?_⟩,f1⟩,f2⟩;dsimp only;rw[ht b (by simp[tch,hb]),hds];dsimp only;rw[if_pos h5]
      . rename_i E c0 hds;split at ha
        . rename_i c;simp only[Option.some.injEq,Prod.mk.injEq]at ha;obtain⟨rfl,rfl,h6⟩:=ha;obtain⟨f1,f2⟩:=fin b _ hb h6.symm;refine⟨⟨_,⟨(p0,.c (.ptr b 1)),h1,d,h2,_,h3,h4,?_⟩,f1⟩,f2⟩;dsimp only;rw[ht b (by simp[tch,hb]),hds];rfl
        . cases ha
      . cases ha
    . rename_i b sz i o;have hb:=ng h1;split at ha
      . rename_i sz' es hes;split at ha
        . rename_i c hc;simp only[Option.some.injEq,Prod.mk.injEq]at ha;obtain⟨rfl,rfl,h6⟩:=ha;obtain⟨f1,f2⟩:=fin b _ hb h6.symm;refine⟨⟨_,⟨(p0,.c (.eptr b sz i o)),h1,d,h2,cs,h3,h4,?_⟩,f1⟩,f2⟩;dsimp only;rw[ht b (by simp[tch,hb]),hes];dsimp only;rw[hc]
        rename_i hc;simp only[oZ2,Option.some.injEq,Prod.mk.injEq]at ha;obtain⟨ts,h5,rfl,rfl,h6⟩:=ha;obtain⟨f1,f2⟩:=fin b _ hb h6.symm;refine⟨⟨_,⟨(p0,.c (.eptr b sz i o)),h1,d,h2,cs,h3,h4,?_⟩,f1⟩,f2⟩;dsimp only;rw[ht b (by simp[tch,hb]),hes];dsimp only;rw[hc];dsimp only;rw[h5];rfl
      . rename_i sz' es i2 o2 c0 hes;split at ha
        . rename_i c;split at ha
          . rename_i hoo;simp only[Option.some.injEq,Prod.mk.injEq]at ha;obtain⟨rfl,rfl,h6⟩:=ha;obtain⟨f1,f2⟩:=fin b _ hb h6.symm;refine⟨⟨_,⟨(p0,.c (.eptr b sz i o)),h1,d,h2,_,h3,h4,?_⟩,f1⟩,f2⟩;dsimp only;rw[ht b (by simp[tch,hb]),hes];dsimp only;rw[if_pos hoo]
          . rename_i hoo;simp only[oZ2,Option.some.injEq,Prod.mk.injEq]at ha;obtain⟨t,h5,rfl,rfl,h6⟩:=ha;obtain⟨f1,f2⟩:=fin b _ hb h6.symm;refine⟨⟨_,⟨(p0,.c (.eptr b sz i o)),h1,d,h2,_,h3,h4,?_⟩,f1⟩,f2⟩;dsimp only;rw[ht b (by simp[tch,hb]),hes];dsimp only;rw[if_neg hoo,h5];rfl
        . cases ha
      . cases ha
    . cases ha
   case appendT te sz by' x y=>
    simp only[aval,oZ2]at ha ⊢;obtain⟨⟨p0,v0⟩,h1,⟨d1,d2⟩,h2,ha⟩:=ha;dsimp only at ha;split at ha
    . cases ha
    . rename_i hwo;rw[oZ2]at ha;obtain⟨ys,h3,ha⟩:=ha;have hys:ysOf J' d2=some ys:=by
       unfold ysOf at h3 ⊢;split at h3
       . exact h3
       . exact h3
       . rename_i b sz' off len;rw[ht b (by simp[tch,eu h2])];exact h3
       . cases h3
      split at ha
      . rename_i b sz' off len;have hbx:=eu h1;split at ha
        . rename_i sz'' es hes;split at ha
          . cases ha
          . rename_i hnb;simp only[Option.some.injEq,Prod.mk.injEq]at ha;obtain⟨rfl,rfl,rfl⟩:=ha
            refine⟨⟨_,⟨(p0,.c (.arr b sz' off len)),h1,(d1,d2),h2,by
             dsimp only;rw[hwo];simp only[oZ2];refine⟨ys,hys,?_⟩;rw[ht b (by simp[tch,hbx]),hes];dsimp only
             rw[if_neg hnb]⟩,fun c=>?_⟩,fun c hc=>?_⟩
            . simp only[aC,wrB,hbx,List.contains_cons,List.contains_nil,Bool.or_false,beq_iff_eq];by_cases h':c=b
              . subst h';simp
              . rw[if_neg (Ne.symm h'),if_neg h']
            . simp only[wrB,hbx,List.contains_cons,List.contains_nil,Bool.or_false,beq_eq_false_iff_ne]at hc;rw[aC,if_neg (Ne.symm hc)]
        . cases ha
      . cases ha
   case append te sz by' x y=>
    simp only[aval,oZ2]at ha ⊢;obtain⟨⟨p0,v0⟩,h1,⟨d1,d2⟩,h2,ha⟩:=ha;dsimp only at ha;cases hwo:winOf v0 d2 with
    | some r=>
     rw[hwo]at ha;have hwo':=hwo;unfold winOf at hwo';split at hwo'
     . rename_i b s1 off len b' s2 off' len';split at hwo'
       . cases hwo';have hbx:=eu h1;dsimp only at ha;unfold appW at ha;dsimp only at ha;split at ha
         . rename_i s3 es hes;simp only[Option.some.injEq,Prod.mk.injEq]at ha;obtain⟨rfl,rfl,rfl⟩:=ha;refine⟨⟨sput (sdel J' b) key (.arr sz (es.take len++(es.drop off').take len')),⟨(p0,.c (.arr b s1 off len)),h1,(d1,.c (.win b' s2 off' len')),h2,?_⟩,fun c=>?_⟩,fun c hc=>?_⟩
           . dsimp only;rw[hwo];dsimp only;unfold appW;dsimp only;rw[ht b (by simp[tch,hbx]),hes]
           . simp only[ag,aC,wrB,hbx,List.contains_cons,List.contains_nil,Bool.or_false,Bool.or_eq_true,beq_iff_eq];by_cases h:c=key
             . subst h;simp
             . rw[if_neg (Ne.symm h)];by_cases h':c=b
               . subst h';simp[h,Ne.symm h]
               . rw[if_neg (Ne.symm h'),if_neg (by simp[h,h'])]
           . simp only[wrB,hbx,List.contains_cons,List.contains_nil,Bool.or_false,Bool.or_eq_false_iff,beq_eq_false_iff_ne]at hc;rw[ag,aC,if_neg (Ne.symm hc.1),if_neg (Ne.symm hc.2)]
         . cases ha
       . cases hwo'
     . cases hwo'
    | none=>
    rw[hwo]at ha;simp only[oZ2]at ha;obtain⟨ys,h3,ha⟩:=ha;have hys:ysOf J' d2=some ys:=by
     unfold ysOf at h3 ⊢;split at h3
     . exact h3
     . exact h3
     . rename_i b sz' off len;rw[ht b (by simp[tch,eu h2])];exact h3
     . cases h3
    split at ha
    . have hbx:blkOf env x=[]:=by simp[blkOf,h1]
      simp only[Option.some.injEq,Prod.mk.injEq]at ha;obtain⟨rfl,rfl,rfl⟩:=ha;refine⟨⟨_,⟨(p0,.c .cap0),h1,(d1,d2),h2,by dsimp only;rw[hwo];simp only[oZ2];exact⟨ys,hys,rfl⟩⟩,fun b=>?_⟩,fun b hb=>?_⟩
      . simp only[ag,wrB,hbx,List.contains_nil,Bool.or_false,beq_iff_eq];by_cases h:b=key
        . subst h;simp
        . rw[if_neg (Ne.symm h),if_neg h]
      . simp only[wrB,hbx,List.contains_nil,Bool.or_false,beq_eq_false_iff_ne]at hb;rw[ag,if_neg (Ne.symm hb)]
    . rename_i b sz' off len;have hbx:=eu h1;split at ha
      . rename_i sz'' es hes;split at ha
        . cases ha
        . rename_i hnb;simp only[Option.some.injEq,Prod.mk.injEq]at ha;obtain⟨rfl,rfl,rfl⟩:=ha
          refine⟨⟨_,⟨(p0,.c (.arr b sz' off len)),h1,(d1,d2),h2,by
           dsimp only;rw[hwo];simp only[oZ2];refine⟨ys,hys,?_⟩;rw[ht b (by simp[tch,hbx]),hes];dsimp only
           rw[if_neg hnb]⟩,fun c=>?_⟩,fun c hc=>?_⟩
          . simp only[ag,aC,wrB,hbx,List.contains_cons,List.contains_nil,Bool.or_false,Bool.or_eq_true,beq_iff_eq];by_cases h:c=key
            . subst h;simp
            . rw[if_neg (Ne.symm h)];by_cases h':c=b
              . subst h';simp[h,Ne.symm h]
              . rw[if_neg (Ne.symm h'),if_neg (by simp[h,h'])]
          . simp only[wrB,hbx,List.contains_cons,List.contains_nil,Bool.or_false,Bool.or_eq_false_iff,beq_eq_false_iff_ne]at hc;rw[ag,aC,if_neg (Ne.symm hc.1),if_neg (Ne.symm hc.2)]
      . cases ha
    . rename_i b len;have hbx:=nd h1;split at ha
      . rename_i e' es hes;obtain⟨s,hs,ha⟩:=Option.map_eq_some_iff.1 ha;cases ha
        refine⟨⟨_,⟨(p0,.c (.bufc b len)),h1,(d1,d2),h2,by
         dsimp only;rw[hwo];simp only[oZ2];refine⟨ys,hys,?_⟩;rw[ht b (by simp[tch,hbx]),hes];dsimp only;rw[hs]
         rfl⟩,fun c=>?_⟩,fun c hc=>?_⟩
        . simp only[ag,aC,wrB,hbx,List.contains_cons,List.contains_nil,Bool.or_false,Bool.or_eq_true,beq_iff_eq];by_cases h:c=key
          . subst h;simp
          . rw[if_neg (Ne.symm h)];by_cases h':c=b
            . subst h';simp[h,Ne.symm h]
            . rw[if_neg (Ne.symm h'),if_neg (by simp[h,h'])]
        . simp only[wrB,hbx,List.contains_cons,List.contains_nil,Bool.or_false,Bool.or_eq_false_iff,beq_eq_false_iff_ne]at hc;rw[ag,aC,if_neg (Ne.symm hc.1),if_neg (Ne.symm hc.2)]
      . cases ha
    . cases ha
   case allocS e e8=>
    simp only[aval,Option.some.injEq,Prod.mk.injEq]at ha ⊢;obtain⟨rfl,rfl,rfl⟩:=ha;refine⟨⟨_,⟨rfl,rfl,rfl⟩,fun b=>?_⟩,fun b hb=>?_⟩
    . simp only[ag,wrB,Bool.or_eq_true,beq_iff_eq];by_cases h:key=b
      . rw[if_pos h,if_pos (.inl h.symm),if_pos h]
      . rw[if_neg h];by_cases h':key+1=b
        . rw[if_pos h',if_pos (.inr h'.symm),if_neg h,if_pos h']
        . rw[if_neg h',if_neg (by omega)]
    . simp only[wrB,Bool.or_eq_false_iff,beq_eq_false_iff_ne]at hb;rw[ag,if_neg (Ne.symm hb.1),ag,if_neg (Ne.symm hb.2)]
   case mkset=>
    simp only[aval,Option.some.injEq,Prod.mk.injEq]at ha ⊢;obtain⟨rfl,rfl,rfl⟩:=ha;refine⟨⟨_,⟨rfl,rfl,rfl⟩,fun b=>?_⟩,fun b hb=>?_⟩
    . simp only[ag,wrB,beq_iff_eq];by_cases h:b=key
      . subst h;simp
      . rw[if_neg (Ne.symm h),if_neg h]
    . simp only[wrB,beq_eq_false_iff_ne]at hb;rw[ag,if_neg (Ne.symm hb)]
   case lkset x y=>
    have:=fy rfl ha;subst this;refine⟨⟨J',?_,fun b=>rfl⟩,fun b _=>rfl⟩;simp only[aval,oZ2]at ha ⊢;obtain⟨⟨p0,v0⟩,h1,⟨d1,d2⟩,h2,ha⟩:=ha;refine⟨(p0,v0),h1,(d1,d2),h2,?_⟩;dsimp only at ha ⊢;split at ha
    . rename_i b s;rw[ht b (by simp[tch,oG h1])];split at ha
      . simp only[Option.some.injEq,Prod.mk.injEq]at ha ⊢;exact⟨ha.1,ha.2.1,trivial⟩
      . cases ha
    . cases ha
   case upset x y=>
    simp only[aval,oZ2]at ha ⊢;obtain⟨⟨p0,v0⟩,h1,⟨d1,d2⟩,h2,ha⟩:=ha;dsimp only at ha ⊢;split at ha
    . rename_i b s;have hb:=oG h1;split at ha
      . rename_i ks hks;simp only[Option.some.injEq,Prod.mk.injEq]at ha;obtain⟨rfl,rfl,rfl⟩:=ha
        refine⟨⟨_,⟨(p0,.c (.mp b)),h1,(d1,.c (.t (.str s))),h2,by
         dsimp only
         rw[ht b (by simp[tch,hb]),hks]⟩,fun c=>?_⟩,fun c hc=>?_⟩
        . simp only[wrB,hb,List.contains_cons,List.contains_nil,Bool.or_false,beq_iff_eq,ag];by_cases h:c=b
          . subst h;simp
          . rw[if_neg (Ne.symm h),if_neg h]
        . simp only[wrB,hb,List.contains_cons,List.contains_nil,Bool.or_false,beq_eq_false_iff_ne]at hc;rw[ag,if_neg (Ne.symm hc)]
      . cases ha
    . cases ha
   case appendB e by' x y=>
    simp only[aval,oZ2]at ha ⊢;obtain⟨⟨p0,v0⟩,h1,⟨d1,d2⟩,h2,ha⟩:=ha;dsimp only at ha ⊢;split at ha
    . rename_i b len s;have hb:=nd h1;split at ha
      . rename_i e' es hes;simp only[Option.some.injEq,Prod.mk.injEq]at ha;obtain⟨rfl,rfl,rfl⟩:=ha
        refine⟨⟨_,⟨(p0,.c (.bufc b len)),h1,(d1,.c (.t (.str s))),h2,by
         dsimp only
         rw[ht b (by simp[tch,hb]),hes]⟩,fun c=>?_⟩,fun c hc=>?_⟩
        . simp only[ag,aC,wrB,hb,List.contains_cons,List.contains_nil,Bool.or_false,Bool.or_eq_true,beq_iff_eq];by_cases h:c=key
          . subst h;simp
          . rw[if_neg (Ne.symm h)];by_cases h':c=b
            . subst h';simp[h,Ne.symm h]
            . rw[if_neg (Ne.symm h'),if_neg (by simp[h,h'])]
        . simp only[wrB,hb,List.contains_cons,List.contains_nil,Bool.or_false,Bool.or_eq_false_iff,beq_eq_false_iff_ne]at hc;rw[ag,aC,if_neg (Ne.symm hc.1),if_neg (Ne.symm hc.2)]
      . cases ha
    . cases ha
   case ustr e x y=>
    simp only[aval,oZ2]at ha ⊢;obtain⟨⟨p0,v0⟩,h1,⟨d1,d2⟩,h2,ha⟩:=ha;dsimp only at ha ⊢;split at ha
    . rename_i b m;have hb:=tH h1;split at ha
      . rename_i e' es hes;simp only[Option.some.injEq,Prod.mk.injEq]at ha;obtain⟨rfl,rfl,rfl⟩:=ha
        refine⟨⟨_,⟨(p0,.c (.sptr b)),h1,(d1,.c (.t (.int .i64 m))),h2,by
         dsimp only
         rw[ht b (by simp[tch,hb]),hes]⟩,fun c=>?_⟩,fun c hc=>?_⟩
        . simp only[aC,wrB,hb,List.contains_cons,List.contains_nil,Bool.or_false,beq_iff_eq];by_cases h:c=b
          . subst h;simp
          . rw[if_neg (Ne.symm h),if_neg h]
        . simp only[wrB,hb,List.contains_cons,List.contains_nil,Bool.or_false,beq_eq_false_iff_ne]at hc;rw[aC,if_neg (Ne.symm hc)]
      . cases ha
    . cases ha
   all_goals simp[aval]at ha
inductive DStep (xb:List Nat) (P:Program) (o:AOper) (key:Nat) (env:Env) (J:Store) (g:Bool) (v:V):Store->Prop
 | op {p : Prop} {J2 : Store} (hg : aI env o.guard = some g) (hd : o.op.drawn = true) (ha : aval o.op env J key = some (p, v, J2)) (hp : g = true -> p) (hne : o.op.neutral = true \/ g = true):
  DStep xb P o key env J g v (if o.op.neutral then J else J2)
 | skip (hg:aI env o.guard=some g) (hf:g=false):DStep xb P o key env J g v J
 | call {p : Prop} {f : Nat} {args : List AO} {vs : List V} (ho : o.op = .call f args) (hg : aI env o.guard = some g) (ha : gets env args = some (p, vs)) (hp : g = true -> p /\ V.bnd.V.bnds (lt 0) vs = true /\ v.bnd (lt 0) = true /\ Con P f vs [] 0 (fun r' _ _ => r' = v)):
  DStep xb P o key env J g v J
 | callv {p q : Prop} {f : Nat} {x : AO} {args : List AO} {vs : List V} (ho : o.op = .callv x args) (hn : o.guard = none) (hgt : g = true) (hx : x.get env = some (q, .c (.fn f []))) (hq : q) (hb : aH P f = true) (ha : gets env args = some (p, vs))
  (hp:p/\V.bnd.V.bnds (lt 0) vs=true/\v.bnd (lt 0)=true/\Con P f vs [] 0 (fun r' _ _=>r'=v)):DStep xb P o key env J g v J
 | own {p : Prop} {f : Nat} {args : List AO} {vs : List V} {r : V} {s : Store} {M : Nat} (ho : o.op = .call f args) (hg : aI env o.guard = some g) (hn : o.guard = none) (ha : gets env args = some (p, vs)) (hp : p) (hb : V.bnd.V.bnds (lt 0) vs = true) (hM : M <= 16) (hk : s.all (fun x => x.1 < 16) = true)
  (hc:Con P f vs [] 0 (fun r' s' M'=>r'=r/\s'=s/\M'=M)) (hv:v=r.sh key):DStep xb P o key env J g v (adopt J key s)
 | raw {p : Prop} {f : Nat} {args : List AO} {vs : List V} {bs : List Nat} {r : V} {s : Store} {M : Nat} (ho : o.op = .call f args) (hg : aI env o.guard = some g) (hgt : g = true) (ha : gets env args = some (p, vs)) (hp : p)
  (hnd:bs.Nodup) (hlt:∀b,b∈bs->b < key) (hin:∀b,b∈bs->∃x,sget J b=some x) (hsub:∀b,b∈bs->b∈argBs env args++xb) (hM:M<=bs.length+16) (hk:s.all (fun x=>decide (x.1 < bs.length+16))=true)
  (hc:Con P f (vs.map (V.ren bs)) (aF bs J 0 bs) bs.length (fun r' s' M'=>r'=r/\s'=s/\M'=M)) (hv:v=r.mb (back bs key)):DStep xb P o key env J g v (aS J bs (back bs key) s)
theorem DStep.astep{o:AOper}{g:Bool}{v:V}(h:DStep xb P o key env J g v J1){K:Env->Store->Prop}(hK:K (aA env o.dst g v) J1):astep P o key env J K:=by
 cases h with
 | @op p J2 hg hd ha hp hne=>
  grind[Shv.astep,aval]
 | skip hg hf=>
  grind[Shv.astep]
 | @call p f args vs ho hg ha hp=>
  unfold Shv.astep
  grind[ACall.of_pure]
 | @callv p q f x args vs ho hn hgt hx hq hb ha hp=>
  grind[Shv.astep,aI,ACall.of_pure]
 | @raw p f args vs bs r s M ho hg hgt ha hp hnd hlt hin hsub hM hk hc hv=>
  unfold Shv.astep;rw[ho];dsimp;have hA:ACall P f vs J key (fun r' J'=>K (aA env o.dst true r') J'):=by
   refine ACall.of_raw hnd hlt hin hc ?_
   grind
  grind
 | @own p f args vs r s M ho hg hn ha hp hb hM hk hc hv=>
  unfold Shv.astep;rw[hg];rw[ho]
  grind[aI,ACall.of_own]
theorem oH{o:AOper}{t:Nat}(h:t∈o.op.reads):t∈o.rd:=by grind[AOper.rd]
theorem fC{o:AOper}(h:∀t,t∈o.rd->look env' t=look env t):aI env' o.guard=aI env o.guard:=by
 grind[aI,AOper.rd]
theorem iT{s:Store}(hk:s.all (fun x=>x.1 < 16)=true){b:Nat}(hb:¬(key<=b/\b < key+16))(J:Store):sget (adopt J key s) b=sget J b:=by
 rw[fI];by_cases h:key<=b
 . have:sget s (b - key)=none:=by
    cases hs:sget s _ with
    | none=>rfl
    | some x=>
     have:∀{s:Store} {c:Nat} {x:Blk},sget s c=some x->s.all (fun x=>x.1 < 16)=true->c < 16:=by
      induction s with
      | nil=>grind[sget]
      | cons y r ih=>
       grind[sget]
     grind
   grind
 grind
theorem bg{x:AO}(h:∀t,t∈x.tmps->look env' t=look env t):blkOf env' x=blkOf env x:=by
 unfold blkOf;rw[av h]
theorem jA{args:List AO}(h:∀t,t∈args.flatMap AO.tmps->look env' t=look env t):argBs env' args=argBs env args:=by
 induction args with
 | nil=>rfl
 | cons x r ih=>
  grind[argBs,av]
theorem uL{o:AOp}(h:∀t,t∈o.reads->look env' t=look env t)(b:Nat):wrB xb o env' key b=wrB xb o env key b:=by
 cases o <;> try rfl
 case store k x v=>grind[wrB,bg,AOp.reads]
 case append te sz by' x y=>grind[wrB,bg,AOp.reads]
 case appendT te sz by' x y=>grind[wrB,bg,AOp.reads]
 case upset x y=>grind[wrB,bg,AOp.reads]
 case appendB e k x y=>grind[wrB,bg,AOp.reads]
 case ustr e x y=>grind[wrB,bg,AOp.reads]
 case call f args=>simp[wrB];rw[jA h]
theorem uM{o:AOp}(h:∀t,t∈o.reads->look env' t=look env t):tch xb o env' key=tch xb o env key:=by
 cases o <;> try rfl
 case b2s x=>grind[tch,bg,AOp.reads]
 case load g k x=>grind[tch,bg,AOp.reads]
 case store k x v=>grind[tch,bg,AOp.reads]
 case lkset x y=>grind[tch,bg,AOp.reads]
 case upset x y=>grind[tch,bg,AOp.reads]
 case appendB e k x y=>grind[tch,bg,AOp.reads]
 case ustr e x y=>grind[tch,bg,AOp.reads]
 case appendT te sz by' x y=>grind[tch,bg,AOp.reads]
 case call f args=>simp[tch];rw[jA h]
 grind[tch,bg,AOp.reads]
theorem DStep.local {o : AOper} {g : Bool} {v : V} (h : DStep xb P o key env J g v J1) (he : ∀ t, t ∈ o.rd -> look env' t = look env t) (ht : ∀ b, b ∈ tch xb o.op env key \/ wrB xb o.op env key b = true -> sget J' b = sget J b):
 (∃J1',DStep xb P o key env' J' g v J1'/\∀b,sget J1' b=if wrB xb o.op env key b then sget J1 b else sget J' b)/\∀b,wrB xb o.op env key b=false->sget J1 b=sget J b:=by
 have her:=fun t h=>he t (oH h)
 cases h with
 | @op p J2 hg hd ha hp hne=>
  obtain⟨⟨J1',h1,h2⟩,h3⟩:=tK (J':=J') ha (fun b hb=>ht b (.inl hb));have hn:o.op.neutral=true->∀b,wrB xb o.op env key b=false:=by intro hn b;generalize o.op=oo at hn;cases oo <;> simp[AOp.neutral]at hn <;> rfl
  refine⟨⟨_,DStep.op (J2:=J1') (p:=p) (by rw[fC he];exact hg) hd (by rw[vq her];exact h1) hp hne,fun b=>?_⟩,fun b hb=>?_⟩
  . by_cases hneu:o.op.neutral=true
    . rw[if_pos hneu,hn hneu b];rfl
    . rw[if_neg hneu,if_neg hneu];exact h2 b
  . by_cases hneu:o.op.neutral=true
    . rw[if_pos hneu]
    . rw[if_neg hneu];exact h3 b hb
 | skip hg hf=>
  refine⟨⟨J',DStep.skip (by rw[fC he];exact hg) hf,fun b=>?_⟩,fun b _=>rfl⟩;split
  . rename_i hw;exact ht b (.inr hw)
  . rfl
 | @call p f args vs ho hg ha hp=>
  refine⟨⟨J',DStep.call ho (by rw[fC he];exact hg) (by rw[fK fun t h=>her t (by rw[ho];exact h)];exact ha) hp,fun b=>?_⟩,fun b _=>rfl⟩;split
  . rename_i hw;exact ht b (.inr hw)
  . rfl
 | @callv p q f x args vs ho hn hgt hx hq hb ha hp=>
  refine⟨⟨J',DStep.callv ho hn hgt (by rw[av fun t h=>her t (by rw[ho];simp[AOp.reads,h])];exact hx) hq hb (by rw[fK fun t h=>her t (by rw[ho];simp only[AOp.reads,List.mem_append];exact .inr h)];exact ha) hp,fun b=>?_⟩,fun b _=>rfl⟩;split
  . rename_i hw;exact ht b (.inr hw)
  . rfl
 | @own p f args vs r s M ho hg hn ha hp hb hM hk hc hv=>
  refine⟨⟨_,DStep.own ho (by rw[fC he];exact hg) hn (by rw[fK fun t h=>her t (by rw[ho];exact h)];grind) hp hb hM hk hc hv,fun b=>?_⟩,fun b hb'=>?_⟩
  . by_cases hr:key<=b/\b < key+16
    . have hw:wrB xb o.op env key b=true:=by rw[ho];simp[wrB,hr.1,hr.2]
      rw[if_pos hw];have e:=ht b (.inr hw);rw[fI,fI,e]
    . rw[iT hk hr];split
      . rename_i hw;rw[iT hk hr];exact ht b (.inr hw)
      . rfl
  grind[wrB,iT]
 | @raw p f args vs bs r s M ho hg hgt ha hp hnd hlt hin hsub hM hk hc hv=>
  have htch:∀b,b∈argBs env args++xb->b∈tch xb o.op env key:=by intro b hb;rw[ho];simp only[tch,List.mem_append];exact .inr (List.mem_append.1 hb)
  have her':∀t,t∈args.flatMap AO.tmps->look env' t=look env t:=fun t h=>her t (by rw[ho];exact h)
  refine⟨⟨_,DStep.raw (bs:=bs) ho (by rw[fC he];exact hg) hgt (by rw[fK her'];omega) hp hnd hlt (fun b hb=>by grind) (fun b hb=>by grind[jA]) hM hk
   (by grind[l5]) hv,fun b=>?_⟩,fun b hb'=>?_⟩
  . by_cases hw:wrB xb o.op env key b=true
    . grind[l6,db]
    . grind[wrB,Bool.or_eq_false_iff,Bool.and_eq_false_iff,decide_eq_false_iff_not,iX]
  grind[wrB,Bool.or_eq_false_iff,Bool.and_eq_false_iff,decide_eq_false_iff_not,iX]
def dops(xb:List Nat)(P:Program):List AOper->Nat->Env->Store->(Env->Store->Prop)->Prop
 | [],_,env,J,K=>K env J
 | o::r,key,env,J,K=>∃g v J1,DStep xb P o key env J g v J1/\dops xb P r (key+16) (aA env o.dst g v) J1 K
structure DRun (xb:List Nat) (P:Program) (aos:List AOper) (N:Nat) (E:Nat->Env) (T:Nat->Store) (G:Nat->Bool) (W:Nat->V):Prop where
 step:∀(i:Nat) o,aos[i]?=some o->DStep xb P o (N+16*i) (E i) (T i) (G i) (W i) (T (i+1))/\E (i+1)=aA (E i) o.dst (G i) (W i)
theorem kl :∀{aos:List AOper} {key:Nat} {env:Env} {J:Store} {K:Env->Store->Prop},dops xb P aos key env J K->∃E T G W,DRun xb P aos key E T G W/\E 0=env/\T 0=J/\K (E aos.length) (T aos.length)
 | [],key,env,J,K,h=>⟨fun _=>env,fun _=>J,fun _=>true,fun _=>.tup [],⟨fun i o h=>by grind⟩,rfl,rfl,h⟩
 | o::r,key,env,J,K,h=>by
  obtain⟨g,v,J1,h1,h2⟩:=h;obtain⟨E,T,G,W,hr,e1,e2,hK⟩:=kl h2;refine⟨fun i=>if i=0 then env else E (i - 1),fun i=>if i=0 then J else T (i - 1),fun i=>if i=0 then g else G (i - 1),fun i=>if i=0 then v else W (i - 1),⟨fun i o' ho=>?_⟩,rfl,rfl,by grind⟩;cases i with
  | zero=>grind
  | succ i=>
   have:=hr.step i o' (by grind)
   grind
end
end
section
open Go
variable [GV]
variable {xb:List Nat}
theorem kT{p:Nat->Bool}:∀{m:Nat},(∃i,i < m/\p i=true)->∃i,i < m/\p i=true/\∀j,j < m->p j=true->j<=i
 | 0,⟨i,h,_⟩=>by omega
 | m+1,⟨i,h1,h2⟩=>by
  cases hm:p m with
  | true=>grind
  | false=>
   have:i < m:=by grind
   obtain⟨k,h3,h4,h5⟩:=kT ⟨i,this,h2⟩
   grind
theorem fe{P:Program}{nt:Nat}{ops:Array Oper}:∀{l:List Oper} {aos:List AOper},aP P nt ops l=some aos->aos.length=l.length
 | [],aos,h=>by grind[aP]
 | o::l,aos,h=>by
  simp[aP,oZ2,oZ1]at h;obtain⟨ao,hao,r,hr,rfl⟩:=h;simp[fe hr]
theorem iY{P:Program}{nt:Nat}{ops:Array Oper}:∀{l:List Oper} {aos:List AOper} {i:Nat} {o:Oper},aP P nt ops l=some aos->l[i]?=some o->∃ao,aos[i]?=some ao/\eh P nt ops o=some ao
 | [],aos,i,o,h,ho=>by grind
 | x::l,aos,i,o,h,ho=>by
  simp[aP,oZ2,oZ1]at h;obtain⟨ao,hao,r,hr,rfl⟩:=h;cases i with
  | zero=>grind
  | succ i=>simpa using iY hr (by grind)
theorem jl :∀{l:List (AOper×List Nat)} {k i:Nat} {x:AOper×List Nat},hU k l=true->l[i]?=some x->∀d,d∈x.2->d < k+i
 | [],k,i,x,h,hx,d,hd=>by grind
 | y::r,k,i,x,h,hx,d,hd=>by
  simp[hU]at h;cases i with
  | zero=>grind
  | succ i=>
   have:=jl h.2 (by simpa using hx) d hd;omega
theorem uN{L:List (AOper×List Nat)}{j i:Nat}(h:ahead L j i=true):j < i/\∃x,L[i]?=some x/\j∈x.2:=by
 grind[ahead]
theorem nh{o:AOp}{env:Env}{key b:Nat}(ht:o.touches=true)(hw:wrB xb o env key b=true):b∈tch xb o env key:=by
 cases o
 case call f args=>
  simp[wrB]at hw;simp[tch];rcases hw with h | h
  . exact .inl ⟨b - key,by omega,by omega⟩
  grind
 case appendT te sz by' x y=>simp only[wrB,List.contains_iff_mem]at hw;simp only[tch,List.mem_append];exact .inl hw
 all_goals simp[AOp.touches]at ht <;> simp[wrB,tch]at hw ⊢ <;> first | exact hw | (rcases hw with h | h;exact .inl h;exact .inr (.inl h))
theorem sR{o:AOp}{env:Env}{key:Nat}(ht:o.touches=false):tch xb o env key=[]:=by
 cases o <;> simp[AOp.touches]at ht <;> rfl
theorem nY{o:AOp}{env:Env}{key b:Nat}(hw:wrB xb o env key b=true):o.neutral=false:=by
 cases o <;> simp[wrB]at hw <;> rfl
theorem pg{o:AOp}{env:Env}{key b:Nat}(ht:o.touches=false)(hw:wrB xb o env key b=true):key<=b/\b < key+16:=by
 cases o <;> simp[AOp.touches]at ht <;> simp[wrB]at hw
section
variable {P:Program} {Γ:Ctx} {nt kk:Nat} {N:Nat} {ops:Array Oper} {aos:List AOper} {E:Nat->Env} {T:Nat->Store} {G:Nat->Bool} {W:Nat->V}
theorem Rel.env_congr{φ:Phi}{S:Stab}{env env':Env}{J:Store}{n:Nat->Bool}{a:Act}{w:World}(R:Rel Γ nt φ S env J n a w)(h:∀t,look env' t=look env t):Rel Γ nt φ S env' J n a w:=
 ⟨R.sim,fun k g v hl=>R.envs k g v (h k▸hl),fun k g v hl=>R.envn k g v (h k▸hl),fun k g v hl=>R.ebnd k g v (h k▸hl),R.sbnd,R.size,R.defers,R.ext,R.own,R.fix,R.kn⟩
def wrAt(xb:List Nat)(aos:List AOper)(E:Nat->Env)(N i b:Nat):Bool:=match aos[i]? with | some o=>wrB xb o.op (E i) (N+16*i) b | none=>false
theorem eE(hr:DRun xb P aos N E T G W){t:Nat}{i:Nat}:∀{k:Nat},i<=k->k<=aos.length->(∀(j:Nat) (o:AOper),i<=j->j < k->aos[j]?=some o->o.dst≠some t)->look (E k) t=look (E i) t:=by
 intro k
 induction k with
 | zero=>grind
 | succ k ih=>
  intro h1 h2 h3;by_cases hik:i=k+1
  . grind
  . have hk:k < aos.length:=by omega
    have ho:=List.getElem?_eq_getElem hk;rw[(hr.step k _ ho).2,bO]
    grind
theorem ib(hr:DRun xb P aos N E T G W){b:Nat}{i:Nat}:∀{k:Nat},i<=k->k<=aos.length->(∀j:Nat,i<=j->j < k->wrAt xb aos E N j b=false)->sget (T k) b=sget (T i) b:=by
 intro k
 induction k with
 | zero=>grind
 | succ k ih=>
  intro h1 h2 h3;by_cases hik:i=k+1
  . grind
  . have hk:k < aos.length:=by omega
    have ho:=List.getElem?_eq_getElem hk;have hw:=h3 k (by omega) (by simp);unfold wrAt at hw;rw[ho]at hw;have:=((hr.step k _ ho).1.local (fun _ _=>rfl) (fun _ _=>rfl)).2 b hw
    grind
inductive AheadR (D:Nat->List Nat) (j:Nat):Nat->Prop
 | one {i:Nat} (h:j∈D i):AheadR D j i
 | step {e i:Nat} (h:AheadR D j e) (he:e∈D i):AheadR D j i
theorem AheadR.ready{D:Nat->List Nat}{n:Nat}{p:Nat->Bool}(hb:∀i d,i < n->d∈D i->d < i)(hdown:∀e,e < n->p e=true->∀d,d∈D e->p d=true){j i:Nat}(h:AheadR D j i)(hi:i < n)(hd:∀d,d∈D i->p d=true):p j=true:=by
 induction h <;>grind
theorem AheadR.congr{D D':Nat->List Nat}{n:Nat}(hb:∀i d,i < n->d∈D i->d < i)(hD:∀i,i < n->D i=D' i){j i:Nat}(h:AheadR D j i)(hi:i < n):AheadR D' j i:=by
 induction h with
 | one h=>exact .one (by grind)
 | step h he ih=>
  have:=hb _ _ hi he;exact .step (ih (by omega)) (by grind)
theorem mv{D:Nat->List Nat}:∀{l:List (AOper×List Nat)} {acc:List (List Nat)},(∀(k:Nat) x,l[k]?=some x->D (acc.length+k)=x.2)->(∀i j,j∈acc.getD i []->AheadR D j i)->∀i j,j∈(closD l acc).getD i []->AheadR D j i
 | [],acc,_,ha,i,j,h=>ha i j h
 | x::r,acc,hD,ha,i,j,h=>by
  refine mv (acc:=acc++[(x.2++x.2.flatMap _).eraseDups]) (fun k y hy=>?_) (fun i j hj=>?_) i j h
  . have:=hD (k+1) y (by grind)
    grind
  . rw[List.getD_eq_getElem?_getD,List.getElem?_append]at hj;split at hj
    . grind
    . cases hk:i - acc.length with
      | succ k=>grind
      | zero=>
       rw[hk]at hj;have hil:i=acc.length:=by omega
       have hx:=by simpa using hD 0 x rfl
       simp[Option.getD_some]at hj;rcases hj with hj | ⟨e,he,hj⟩
       . exact .one (by grind)
       . exact .step (ha e j hj) (by grind)
structure Stat (xb:List Nat) (aos:List AOper) (D:Nat->List Nat) (E:Nat->Env) (N:Nat):Prop where
 back:∀i d,i < aos.length->d∈D i->d < i
 ssa:∀(i j:Nat) (x y:AOper) (d:Nat),aos[i]?=some x->aos[j]?=some y->y.dst=some d->(d∈x.rd->(j < i/\j∈D i)\/(x.op.neutral=true/\x.op.touches=false/\i < j/\i∈D j))/\(i=j\/x.dst≠some d)
 ord:∀i j b,i≠j->i < aos.length->j < aos.length->wrAt xb aos E N i b=true->((∃y:AOper,aos[j]?=some y/\b∈tch xb y.op (E j) (N+16*j))\/wrAt xb aos E N j b=true)->(i < j/\AheadR D i j)\/(j < i/\AheadR D j i)
def used(N m:Nat)(listed:Array Bool):Nat->Bool:=fun b=>lt N b || (List.range m).any fun i=>listed.getD i false && (decide (N+16*i<=b) && decide (b < N+16*i+16))
structure Inv (xb:List Nat) (Γ:Ctx) (nt:Nat) (aos:List AOper) (D:Nat->List Nat) (N:Nat) (E:Nat->Env) (T:Nat->Store) (G:Nat->Bool) (W:Nat->V) (listed:Array Bool) (φ:Phi) (S:Stab) (env:Env) (J:Store) (a:Act) (w:World):Prop where
 rel:Rel Γ nt φ S env J (used N aos.length listed) a w
 size:listed.size=aos.length
 down:∀i,i < aos.length->listed.getD i false=true->∀d,d∈D i->listed.getD d false=true
 e0:∀t,(∀(i:Nat) (o:AOper),aos[i]?=some o->listed.getD i false=true->o.dst≠some t)->look env t=look (E 0) t
 e1:∀t (i:Nat) (o:AOper),aos[i]?=some o->listed.getD i false=true->o.dst=some t->look env t=some (G i,W i)
 s0:∀b,(∀i,i < aos.length->listed.getD i false=true->wrAt xb aos E N i b=false)->sget J b=sget (T 0) b
 s1:∀b i,i < aos.length->listed.getD i false=true->wrAt xb aos E N i b=true->(∀j,j < aos.length->listed.getD j false=true->wrAt xb aos E N j b=true->j<=i)->sget J b=sget (T (i+1)) b
theorem bR{listed:Array Bool}{i j:Nat}(hi:i < listed.size):(listed.setIfInBounds i true).getD j false=if j=i then true else listed.getD j false:=by
 by_cases h:j=i
 . simp_all
 simp_all[Ne.symm]
theorem Inv.agree {listed : Array Bool} {D : Nat -> List Nat} {φ : Phi} {S : Stab} {env : Env} {J : Store} {a : Act} {w : World} (I : Inv xb Γ nt aos D N E T G W listed φ S env J a w) (st : Stat xb aos D E N) (hr : DRun xb P aos N E T G W)
 {i:Nat} {o:AOper} (ho:aos[i]?=some o) (hn:listed.getD i false=false) (hd:∀d,d∈D i->listed.getD d false=true):
 (∀t,t∈o.rd->look env t=look (E i) t)/\∀b,b∈tch xb o.op (E i) (N+16*i)\/wrB xb o.op (E i) (N+16*i) b=true->sget J b=sget (T i) b:=by
 have hi:i < aos.length:=(List.getElem?_eq_some_iff.1 ho).1;refine⟨fun t ht=>?_,fun b hb=>?_⟩
 . by_cases hw:∃(j:Nat) (y:AOper),aos[j]?=some y/\y.dst=some t
   . obtain⟨j,y,hy,hyt⟩:=hw;rcases (st.ssa i j o y t ho hy hyt).1 ht with⟨h1,h2⟩ | ⟨_,_,h1,h2⟩
     . rw[I.e1 t j y hy (hd j h2) hyt];have:look (E (j+1)) t=some (G j,W j):=by rw[(hr.step j y hy).2,bO,if_pos hyt]
       rw[<-this]
       symm
       refine eE hr (by omega) (by omega) fun k z hk1 hk2 hz hzt=>?_
       rcases (st.ssa k j z y t hz hy hyt).2 with h | h
       all_goals grind
     . have hj:j < aos.length:=(List.getElem?_eq_some_iff.1 hy).1;have hone:∀(k:Nat) (z:AOper),aos[k]?=some z->z.dst=some t->k=j:=by
        intro k z hz hzt;rcases (st.ssa k j z y t hz hy hyt).2 with h | h
        . grind
        grind
       rw[I.e0 t fun k z hz hl hzt=>by
        have:=hone k z hz hzt;subst this;have:=I.down k hj hl i h2
        grind]
       symm
       refine eE hr (Nat.zero_le _) (by omega) fun k z _ hk hz hzt=>?_
       grind
   . have hno:=fun j y hy h=>hw ⟨j,y,hy,h⟩
     rw[I.e0 t fun j y hy _=>hno j y hy]
     symm
     exact eE hr (Nat.zero_le _) (by omega) fun j y _ _ hy=>hno j y hy
 . have hwi:∀j,j≠i->j < aos.length->wrAt xb aos E N j b=true->(j < i/\AheadR D j i)\/(i < j/\AheadR D i j):=by
    intro j hj hjl hjw;refine st.ord j i b hj hjl hi hjw ?_
    grind[wrAt]
   have hl:∀j,j < aos.length->listed.getD j false=true->wrAt xb aos E N j b=true->j < i:=by
    intro j hjl hlj hjw;have hne:j≠i:=by grind
    rcases hwi j hne hjl hjw with h | h
    . grind
    . have:=h.2.ready st.back I.down hjl (I.down j hjl hlj)
      grind
   have hl2:∀j,j < i->wrAt xb aos E N j b=true->listed.getD j false=true:=by
    intro j hji hjw;rcases hwi j (by omega) (by omega) hjw with h | h
    . exact h.2.ready (p:=fun k=>listed.getD k false) st.back I.down hi hd
    grind
   by_cases hex:∃j,j < i/\wrAt xb aos E N j b=true
   . obtain⟨j,hj1,hj2,hj3⟩:=kT hex;rw[I.s1 b j (by omega) (hl2 j hj1 hj2) hj2 (fun k hk1 hk2 hk3=>hj3 k (hl k hk1 hk2 hk3) hk3)]
     grind[ib]
   . have hno:∀j,j < i->wrAt xb aos E N j b=false:=by grind
     rw[I.s0 b fun j hjl hlj=>by grind]
     symm
     exact ib hr (Nat.zero_le _) (by omega) fun j _ hj=>hno j hj
theorem vr{m:Nat}{listed:Array Bool}{i b:Nat}(hi:i < listed.size)(h:insR (used N m listed) (N+16*i) b=true)(him:i < m):used N m (listed.setIfInBounds i true) b=true:=by
 simp only[insR,used,Bool.or_eq_true]at h ⊢
 grind[bR]
theorem ni{m:Nat}{listed:Array Bool}{i:Nat}(hn:listed.getD i false=false){b:Nat}(h1:N+16*i<=b)(h2:b < N+16*i+16):used N m listed b=false:=by
 simp only[used]
 grind[lt]
theorem Inv.step {listed : Array Bool} {D : Nat -> List Nat} {φ φ' : Phi} {S S' : Stab} {env : Env} {J J1' : Store} {a a' : Act} {w w' : World} (I : Inv xb Γ nt aos D N E T G W listed φ S env J a w) (st : Stat xb aos D E N) (hr : DRun xb P aos N E T G W)
 {i:Nat} {o:AOper} (ho:aos[i]?=some o) (hn:listed.getD i false=false) (hd:∀d,d∈D i->listed.getD d false=true)
 (hJ:∀b,sget J1' b=if wrB xb o.op (E i) (N+16*i) b then sget (T (i+1)) b else sget J b)
 (R:Rel Γ nt φ' S' (aA env o.dst (G i) (W i)) J1' (insR (used N aos.length listed) (N+16*i)) a' w'):
 Inv xb Γ nt aos D N E T G W (listed.setIfInBounds i true) φ' S' (aA env o.dst (G i) (W i)) J1' a' w':=by
 have hi:i < aos.length:=(List.getElem?_eq_some_iff.1 ho).1;have his:i < listed.size:=by rw[I.size];exact hi
 have hww:∀b,wrAt xb aos E N i b=wrB xb o.op (E i) (N+16*i) b:=fun b=>by unfold wrAt;rw[ho]
 refine⟨R.more fun b hb=>vr his hb hi,by simp[I.size],fun j hj hl d hdd=>?_,fun t ht=>?_,fun t j y hy hl hyt=>?_,fun b hb=>?_,fun b j hj hl hw hmax=>?_⟩
 . rw[bR his]at hl ⊢;split
   . rfl
   . split at hl
     . rename_i e;subst e;exact hd d hdd
     . exact I.down j hj hl d hdd
 . rw[bO,if_neg (ht i o ho (by rw[bR his,if_pos rfl]))];exact I.e0 t fun j y hy hl=>ht j y hy (by rw[bR his];split;rfl;exact hl)
 . rw[bO];rw[bR his]at hl;by_cases hji:j=i
   . grind
   . rw[if_neg hji]at hl;rw[if_neg (fun h=>?_)]
     . exact I.e1 t j y hy hl hyt
     . rcases (st.ssa i j o y t ho hy hyt).2 with h' | h'
       all_goals grind
 . rw[hJ b];have hwi:=hb i hi (by rw[bR his,if_pos rfl]);rw[hww]at hwi;rw[hwi];exact I.s0 b fun j hj hl=>hb j hj (by grind[bR])
 . rw[hJ b];rw[bR his]at hl;by_cases hwi:wrB xb o.op (E i) (N+16*i) b=true
   . have hij:i<=j:=hmax i hi (by simp_all) (by grind);by_cases hji:j=i
     . grind
     ·
      rw[if_neg hji]at hl;rcases st.ord i j b (Ne.symm hji) hi hj (by rw[hww];exact hwi) (.inr hw)with h | h
      . have:=h.2.ready st.back I.down hj (I.down j hj hl);rw[hn]at this;cases this
      . omega
   . rw[if_neg hwi];by_cases hji:j=i
     . grind
     . rw[if_neg hji]at hl;exact I.s1 b j hj hl hw fun k hk hlk hwk=>hmax k hk (by grind[bR]) hwk
theorem Inv.done {listed : Array Bool} {D : Nat -> List Nat} {φ : Phi} {S : Stab} {env : Env} {J : Store} {a : Act} {w : World} (I : Inv xb Γ nt aos D N E T G W listed φ S env J a w) (st : Stat xb aos D E N) (hr : DRun xb P aos N E T G W)
 (hall:∀i,i < aos.length->listed.getD i false=true):Rel Γ nt φ S (E aos.length) (T aos.length) (lt (N+16*aos.length)) a w:=by
 refine((I.rel.env_congr fun t=>?_).congr fun b=>?_).more fun b hb=>?_
 . by_cases hw:∃(j:Nat) (y:AOper),aos[j]?=some y/\y.dst=some t
   . obtain⟨j,y,hy,hyt⟩:=hw;have hj:=(List.getElem?_eq_some_iff.1 hy).1;rw[I.e1 t j y hy _ _];have:look (E (j+1)) t=some (G j,W j):=by rw[(hr.step j y hy).2,bO,if_pos hyt]
     rw[<-this];refine eE hr (by omega) (Nat.le_refl _) fun k z hk1 hk2 hz hzt=>?_
     rcases (st.ssa k j z y t hz hy hyt).2 with h | h
     all_goals grind
   . have hno:=fun j y hy h=>hw ⟨j,y,hy,h⟩
     rw[I.e0 t fun j y hy _=>hno j y hy];exact eE hr (Nat.zero_le _) (Nat.le_refl _) fun j y _ _ hy=>hno j y hy
 . by_cases hex:∃j,j < aos.length/\wrAt xb aos E N j b=true
   . obtain⟨j,hj1,hj2,hj3⟩:=kT hex;rw[I.s1 b j hj1 (hall j hj1) hj2 (fun k hk1 _ hk3=>hj3 k hk1 hk3)];refine ib hr (by omega) (Nat.le_refl _) fun k hk1 hk2=>?_
     grind
   . have hno:∀j,j < aos.length->wrAt xb aos E N j b=false:=by grind
     rw[I.s0 b fun j hjl _=>hno j hjl];exact ib hr (Nat.zero_le _) (Nat.le_refl _) fun j _ hj=>hno j hj
 . simp[used,lt]at hb ⊢
   grind
theorem sg {D : Nat -> List Nat} (st : Stat xb aos D E N) (hr : DRun xb P aos N E T G W) (hres : aP P nt ops ops.toList = some aos) (hD : ∀ (i : Nat) o, ops[i]? = some o -> D i = aR o) {Q : Exit -> Act -> World -> Prop}
 (hQ:∀φ S a w,Rel Γ nt φ S (E aos.length) (T aos.length) (lt (N+16*aos.length)) a w->Q .normal a w):
 ∀(fuel:Nat) (listed:Array Bool) φ S env J a w,listed.toList.countP (· ==false)<=fuel->Inv xb Γ nt aos D N E T G W listed φ S env J a w->wpAny P .any ops Q fuel listed a w:=by
 have hlen:=fe hres;simp at hlen;have hready:∀(listed:Array Bool) (φ:Phi) (S:Stab) (env:Env) (J:Store) (a:Act) (w:World),Inv xb Γ nt aos D N E T G W listed φ S env J a w->Region.ready .any ops listed=[]->∀i,i < aos.length->listed.getD i false=true:=by
  intro listed φ S env J a w I hnil i
  induction i using Nat.strongRecOn with
  | _ i ih=>
   intro hi;cases hl:listed.getD i false with
   | true=>rfl
   | false=>
    have hio:i < ops.size:=by omega
    have ho:ops[i]?=some ops[i]:=Array.getElem?_eq_getElem hio;have:i∈Region.ready .any ops listed:=by
     rw[mem_ready];refine⟨?_,ops[i],ho,fun e he hb=>?_⟩
     . have his:i < listed.size:=by rw[I.size];grind
       grind
     . have hd:e.on∈D i:=by
        rw[hD i _ ho];simp only[aR,List.mem_map,List.mem_filter]
        grind
       exact ih e.on (st.back i _ hi hd) (by have:=st.back i _ hi hd;omega)
    grind
 have hdone:∀(listed:Array Bool) (φ:Phi) (S:Stab) (env:Env) (J:Store) (a:Act) (w:World),Inv xb Γ nt aos D N E T G W listed φ S env J a w->Region.ready .any ops listed=[]->Q .normal a w:=by
  intro listed φ S env J a w I hnil;exact hQ φ S a w (I.done st hr (hready listed φ S env J a w I hnil))
 intro fuel
 induction fuel with
 | zero=>
  intro listed φ S env J a w hc I;have hall:∀i,i < aos.length->listed.getD i false=true:=by
   intro i hi;have his:i < listed.size:=by rw[I.size];grind
   cases hl:listed.getD i false with
   | true=>rfl
   | false=>
    exfalso
    have h0:listed.toList.countP (· ==false)=0:=by omega
    rw[List.countP_eq_zero]at h0;simp[his]at hl;exact h0 listed[i] (by simp) (by grind)
  have hnil:Region.ready .any ops listed=[]:=by
   rw[List.eq_nil_iff_forall_not_mem]
   grind[mem_ready]
  exact⟨hnil,hdone listed φ S env J a w I hnil⟩
 | succ fuel ih=>
  intro listed φ S env J a w hc I;refine⟨hdone listed φ S env J a w I,fun i hi=>?_⟩;rw[mem_ready]at hi;obtain⟨h1,o,ho,hdeps⟩:=hi;have his:i < listed.size:=by grind
  have hn:listed.getD i false=false:=by grind
  obtain⟨ao,hao,hro⟩:=iY hres (i:=i) (o:=o) (by simpa using ho);have hd:∀d,d∈D i->listed.getD d false=true:=by
   intro d hd;rw[hD i o ho]at hd;simp only[aR,List.mem_map,List.mem_filter]at hd
   grind
  obtain⟨ha1,ha2⟩:=I.agree st hr hao hn hd;obtain⟨⟨J1',hs,hJ⟩,_⟩:=(hr.step i ao hao).1.local (env':=env) (J':=J) ha1 ha2;have hstep:=gQ I.rel (key:=N+16*i) (fun b hb1 hb2=>ni hn hb1 hb2) hro (K:=fun e s=>e=aA env ao.dst (G i) (W i)/\s=J1') (hs.astep ⟨rfl,rfl⟩) (Q:=Q)
  have next:∀a' w',Post Γ nt (insR (used N aos.length listed) (N+16*i)) (fun e s=>e=aA env ao.dst (G i) (W i)/\s=J1') a' w'->wpAny P .any ops Q fuel (listed.setIfInBounds i true) a' w':=by
   rintro a' w' ⟨φ',S',e,s,⟨rfl,rfl⟩,R'⟩
   refine ih _ φ' S' _ _ a' w' ?_ (I.step st hr hao hn hd hJ R');have:listed.toList[i]?=some false:=by simp[his]at hn ⊢;exact hn
   grind
  unfold wpOp;rw[ho];dsimp only;split at hstep
  . rename_i hw;rw[if_pos hw];exact .inl (Oper.wp_mono next hstep)
  grind
end
end
end Go.Proofs.YtkbmjabicjpmjaaGreatDoor.Shv
