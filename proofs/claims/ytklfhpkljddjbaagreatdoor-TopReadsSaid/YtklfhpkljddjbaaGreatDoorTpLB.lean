/- The library of this proof, part B: an abstract machine for the code of the program, and its soundness. -/
import Derived.Lib.UnsafeStr
import Derived.ChangeKeysEq
import Derived.Orders
import Derived.LoopN
import Derived.Test.YtklfhpkljddjbaaGreatDoorTpLA

namespace Go.Proofs.YtklfhpkljddjbaaGreatDoor.Shv
set_option linter.all false
section
open Go
theorem C.ux(c:C):c.aP (λ_=>true)=true:=by cases c<;>simp[C.aP]
section
variable {P:Program}{aG:Ctx}{nt kk:Nat}{φ:ea}{S bC:dV}{env:Env}{J:br}{N key:Nat}{n:Nat->Bool}{a:Act}{w w':World}
theorem Rel.extend(R:Rel aG nt φ S env J n a w)(e:Ext (λ_=>False) S bC w w')(ec:∀b j,bC b j->b<w'.heap.size):Rel aG nt φ bC env J n a w':=by
 have ab:=λb ag=>e.block b ag (λh=>h)
 have gv:∀b x,bf J b=some x->(φ b).2≠0->∀j,¬bC (φ b).1 j:=by
  intro b x I h0 j aM;have eF:=R.b'.blk b x I;rcases e.rO _ _ aM with h|h|h
  . exact eF.za h0 j h
  . grind
  . have:=eF.pg h0;omega
 refine⟨⟨λb x I=>?_,R.b'.inj,ec⟩,λk g v aj az=>?_,R.kQ,R.jD,R.eX,R.size,R.defers,?_,R.own,R.fix,R.j4⟩
 . have eF:=R.b'.blk b x I;cases x with
   |box cs=>
    obtain⟨h0,vs,E,h1,aa,aA⟩:=eF;refine⟨h0,vs,E,(ab _ (wu h1)).trans h1,aa.imp λc v ay ai=>bP.mono e.mono (λ_ _=>rfl) (C.ux _) ai,gv b _ I h0⟩
   |arr sz es=>
    obtain⟨h1,aa,aA,aU,bN⟩:=eF;refine⟨h1,aa,aA,aU,λh0=>?_⟩;obtain⟨vs,E,k1,k2,k3,k4⟩:=bN h0;exact⟨vs,E,(ab _ (wu k1)).trans k1,k2,λi j c7 t he ht=>let⟨v,aF,ai⟩:=k3 i j c7 t he ht;⟨v,aF,cl.mono e.mono ai⟩,gv b _ I h0⟩
   |set ks=>
    obtain⟨h0,⟨es,c,h1,aa⟩,aA⟩:=eF;exact⟨h0,⟨es,c,(ab _ (wu h1)).trans h1,aa⟩,gv b _ I h0⟩
   |buf E s=>
    obtain⟨h1,aa,aA⟩:=eF;refine⟨h1,aa,λh0=>?_⟩
    grind
   |cL E c=>
    obtain⟨h0,⟨p,v,h1,aa,aA⟩,aU⟩:=eF;exact⟨h0,⟨p,v,(ab _ (wu h1)).trans h1,aa,bP.mono e.mono (λ_ _=>rfl) (C.ux _) aA⟩,gv b _ I h0⟩
   |dr sz es i o c=>
    obtain⟨⟨h1,aa,aA,aU,bN,dO⟩,⟨vs,E,k1,k2,k3,v,k4,k5⟩,k6⟩:=eF;exact⟨⟨h1,aa,aA,aU,bN,dO⟩,⟨vs,E,(ab _ (wu k1)).trans k1,k2,λi j c7 t he ht a'=>let⟨v,aF,ai⟩:=k3 i j c7 t he ht a';⟨v,aF,cl.mono e.mono ai⟩,v,k4,bP.mono (n:=λ_=>true) e.mono (λ_ _=>rfl) (C.ux _) k5⟩,gv b _ I (by omega)⟩
 . obtain⟨x,I,ai⟩:=R.jE k g v aj az;exact⟨x,I,cy.mono e.mono (λ_ _=>rfl) (R.jD k g v aj az) ai⟩
 . refine⟨e.os.trans R.ext.os,e.tape.trans R.ext.tape,e.output.trans R.ext.output,jJ R.ext.size e.size,λb aV eF=>?_,R.ext.mono.trans e.mono,λb j aM=>?_⟩
   . exact(ab b (pd aV R.ext.size)).trans (R.ext.block b aV eF)
   . rcases e.rO _ _ aM with h|h|h
     . exact R.ext.rO b j h
     . grind
     . exact .inr (.inr (jJ R.ext.size h))
theorem apG (R:Rel aG nt φ S env J n a w){o:Oper}{ty:TypeId}{len:Nat}{parts:Array (Nat×Operand)}(aO:o.op= .buildSlice ty len parts){e:TypeId}(dI:P.underlying ty=some (.slice e)){sz:Nat}(b8:fZ P e=some sz)
 {z:List C}(bq:qe P e=some z){ps:List (Nat×ba)}(iC:yz parts.toList=some ps)(h0:sz≠0)(gT:z.length=sz)(hle:len*sz<=2^24)
 {p v J'}(hk:n key=false)(h:a7 (.bsliceT e sz len z ps) env J key=some (p,v,J'))(ar:p):Good P aG nt env J' (ins n key) a v ((execOp a.eval o).run P w):=by
 simp only[a7,bK,bV,fu]at h;obtain⟨j9,tA,⟨q,bc⟩,ag,rfl,rfl,rfl⟩:=h;obtain⟨i,fi,ak,pZ,c8,iV⟩:=Df (φ:=φ) (w:=w) (S:=S) (n:=n) bq;have jI:=AU tA c8;have CV:fi.cells.size=sz:=by rw[<-LX,<-c8.length,gT]
 have va:0<sz:=by omega
 have Wu:j9.length=sz:=by grind[G0]
 obtain ⟨us,h1,aa,aA,aU,bN,_⟩:= Yk R va iC ag ar (es:= List.replicate len j9) (vs:= ((Array.range (len*sz)).map (fi.cells[· % fi.cells.size]!)).toList) (by
  grind) (by simp) (by
  intro i j e t he ht;have:e=j9:=by
   grind
  subst this;obtain⟨x,I,ai⟩:=jI.get ht
  grind[R9])
 simp at aA;have hlen:len<=en:=by
  have:len<=len*sz:=WQ len va
  grind[en]
 have ec:=R.b'.st;have m0:jV w S (w.alloc (.cells us.toArray e)) (λb j=>S b j\/b=w.heap.size):=⟨λ_ _ h=>.inl h,λb j h=>Bq (Ay (ec b j h)) j⟩
 have anh:Ext (λ_=>False) S _ w (w.alloc (.cells us.toArray e)):=
  ⟨rfl,rfl,rfl,by simp,λb ag _=>Ay ag,m0,λb j h=>by grind⟩
 have cS:=R.extend anh (λb j h=>by
  rcases h with h|h
  . have:=ec b j h;simp;omega
  simp_all)
 refine⟨.slice (some ⟨w.heap.size,0,none⟩) len len,φ,_,_,.inl ?_,?_,rfl,cS.more λ_ h=>qz h⟩
 . have jm:Instr.fill (λi=>some (i*sz,sz)) ((Array.range (len*sz)).map (fi.cells[· % fi.cells.size]!)) ((parts.map λ(i,x)=>(i,a.eval x)).toList)=some us.toArray:=by
    rw[Array.toList_map];omega
   simp_all[alb,execOp,Sem.run_bind,Result.andThen_ok]
 . refine .c ?_;have l7:bc.length=len:=aA;rw[<-l7]at hlen⊢;have eU:∀j,(w.alloc (.cells us.toArray e)).cell? _=us[j]?:=λj=>nB heap_alloc_new j
   refine cl.slice bc _ _ sz w.heap.size 0 (λi j=>(us[i*sz+j]?).getD undef) (gP _) hlen aa (λ_=>rfl) (λi j ak aM=>⟨.inr rfl,?_⟩) (λi j c7 t he ht=>?_)
   . rw[kt,eU];have aV:i*sz+j<us.length:=by
      have:=hj sz (show i+1<=bc.length from ak)
      grind
     grind
   . obtain⟨v,aF,ai⟩:=bN i j c7 t he ht
     grind[cl.mono]
theorem ao7{ty:TypeId}{e8:Nat}(h:Lm P ty=some e8):∃i z,P.info? ty=some i/\i.zero=some z/\z.cells=#[.pointer none,.slice none 0 0]:=by
 grind[Lm,aem,bK,alW]
theorem aqx (R:Rel aG nt φ S env J n a w){o:Oper}{ty:TypeId}(aO:o.op= .alloc ty){e8:Nat}(Vl:Lm P ty=some e8)
 {p v J'}(hk:n key=false)(nN:n (key+1)=false)(h:a7 (.allocS ty e8) env J key=some (p,v,J'))(ar:p):Good P aG nt env J' (ins (ins n (key+1)) key) a v ((execOp a.eval o).run P w):=by
 obtain⟨rfl,rfl,rfl⟩:=h;obtain⟨i,z,ak,bq,Ke⟩:=ao7 Vl;have CM:∀j,¬S w.heap.size j:=λj h=>by have:=R.b'.st _ _ h;omega
 have cS:=(R.alloc (.cells #[.pointer none,.slice none 0 0] ty)).pc nN (x:= .buf e8 []) (0,0) rfl (by simp[dU,eP]) (by simp);have pX:ins n (key+1) key=false:=by grind[ins]
 have eI:=cS.pc pX (x:= .cL ty (.df (key+1) 0)) (w.heap.size,1) (by simp[ck.aP,C.aP,ins]) (by
  grind[dU,heap_alloc_new,bP,ga]) (λ_=>⟨λk y ao h0=>by
   rw[dX]at ao;split at ao
   . grind[eP]
   . rename_i b4;have fF:(φ k).2≠0:=by simp_all[ga,eW]
     have:=(R.b'.blk k y ao).pg fF;simp[ga,eW b4]
     omega,.inr R.ext.size⟩)
 refine⟨.pointer (some ⟨w.heap.size,0,none⟩),_,S,_,.inl ?_,.c ?_,by simp[V.aP,C.aP,ins],eI⟩
 . simp_all[execOp,Instr.alloc,zeroValue,typeInfo,newVar,newRow]
 grind[bP,eP]
theorem amj{t:TypeId}(h:CW P t=true):∃k v i,P.underlying t=some (.map k v)/\P.underlying k=some .string/\P.info? v=some i/\i.zero=some (.bool false):=by
 grind[CW,bK]
theorem aqu (R:Rel aG nt φ S env J n a w){o:Oper}{t:TypeId}(aO:o.op= .makeMap t none)
 {p v J'}(hk:n key=false)(h:a7 .mkset env J key=some (p,v,J'))(ar:p):Good P aG nt env J' (ins n key) a v ((execOp a.eval o).run P w):=by
 obtain⟨rfl,rfl,rfl⟩:=h;have CM:∀j,¬S w.heap.size j:=λj h=>by have:=R.b'.st _ _ h;omega
 have eI:=(R.alloc _).pc hk (x:= .set []) (w.heap.size,1) rfl (by
  simp only[dU,eP]
  exact⟨by simp,⟨[],0,heap_alloc_new,.nil⟩,CM⟩) (λ_=>⟨λk y ao h0=>by
   have:=(R.b'.blk k y ao).pg h0
   omega,.inr R.ext.size⟩)
 refine⟨.map (some w.heap.size),_,S,_,.inl ?_,.c ?_,by simp[V.aP,C.aP,ins],eI⟩
 . simp[execOp,aO,Instr.makeMap]
 grind[bP,eP]
theorem aqy{s:ByteArray}{k:List UInt8}:(s==(⟨k.toArray⟩:ByteArray))=decide (k=s.data.toList):=by
 grind[beq_toListBytes,ByteArray.toList_eq]
theorem Zj(s:ByteArray):∀{ks:List (List UInt8)} {es:List MapEntry} (i:Nat),MN ks es->
 (ki ks s.data.toList=false/\Instr.findNow .string (.string s) es i=some none)\/
 (ki ks s.data.toList=true/\∃j e,Instr.findNow .string (.string s) es i=some (some (i+j,.bool true))/\es[j]?=some e/\e.key= .string s/\e.val= .bool true)
 |_,_,i,.nil=>.inl ⟨rfl,rfl⟩
 |k::ks,e::es,i,.cons h ai=>by
  obtain⟨h1,aa⟩:=h;have ag:(s==⟨k.toArray⟩)=decide _:=aqy;by_cases jo:k=s.data.toList
  . refine .inr ⟨by grind[ki],0,e,?_,rfl,?_,aa⟩
    . simp_all[Instr.findNow,Instr.sameNow]
    simp_all
  . rcases Zj s (i+1) ai with⟨g1,g2⟩|⟨g1,j,c7,g2,g3,g4,g5⟩
    . grind[ki,Instr.findNow,Instr.sameNow]
    . refine .inr ⟨by grind[ki],j+1,c7,?_,by grind,g4,g5⟩
      grind[Instr.findNow,Instr.sameNow]
theorem Sa{gV:TypeId}(hk:P.underlying gV=some .string){s:ByteArray}{es:List MapEntry}{r:Option (Nat×Value)}(h:Instr.findNow .string (.string s) es 0=some r)(w:World):(Instr.findKey gV (.string s) es).run P w= .ok r w:=by
 simp_all[Instr.findKey,run_underlying]
theorem R1{gV:TypeId}(hk:P.underlying gV=some .string){s:ByteArray}(b:Bool)(w:World):(Instr.checkKey b 10000 gV (.string s)).run P w= .ok () w:=by
 unfold Instr.checkKey;simp[run_underlying hk]
theorem AV{b:Nat}{es:Array MapEntry}{c:Nat}(h:w.heap[b]?=some (.map es c)):(getObj b).run P w= .ok (.map es c) w:=by grind[getObj,Sem.run]
theorem RG{b:Nat}{es:Array MapEntry}{c:Nat}(o:Obj)(h:w.heap[b]?=some (.map es c)):(setObj b o).run P w= .ok () {w with heap:=w.heap.setIfInBounds b o}:=by
 grind[setObj,Sem.run]
theorem arF (R:Rel aG nt φ S env J n a w){o:Oper}{t:TypeId}{x k:Operand}(aO:o.op= .lookup t x k false)(ht:CW P t=true){bO Iy:ba}(I:b7 x=some bO)(ct:b7 k=some Iy)
 {p v J'}(hk:n key=false)(h:a7 (.lkset bO Iy) env J key=some (p,v,J'))(ar:p):Good P aG nt env J' (ins n key) a v ((execOp a.eval o).run P w):=by
 simp only[a7,bK]at h;obtain⟨⟨fY,gR⟩,cv,⟨fR,aDK⟩,VI,he⟩:=h;simp at he;obtain⟨gV,tT,i,hu,yW,ak,bq⟩:=amj ht;split at he
 . split at he
   . rename_i ks cQ;obtain⟨rfl,rfl,rfl⟩:=he;have h1:a.eval x= .map _:=(c4 R I cv ar.1).1.fy;obtain⟨bs,aa,rfl,_⟩:=cy.qR (c4 R ct VI ar.2).1;obtain⟨h0,⟨es,cZ,ab,fO⟩,gv⟩:=R.b'.blk _ _ cQ;refine Good.pure R ?_ (.xL _) rfl;have jI:(zeroValue tT).run P w= .ok (.bool false) w:=by simp_all[zeroValue,typeInfo]
     have aJ:=Zj bs 0 fO;rcases aJ with⟨g1,g2⟩|⟨g1,j,e,g2,_⟩
     . simp[execOp,aO,h1,aa,Instr.lookup,run_underlying hu,AV ab,R1 yW,Sa yW g2,jI,g1]
     . simp[execOp,aO,h1,aa,Instr.lookup,run_underlying hu,AV ab,R1 yW,Sa yW g2,g1]
   grind
 grind
theorem asD{ks:List (List UInt8)}{es:List MapEntry}(h:MN ks es)(s:ByteArray)(cZ:Nat):MN (ks++[s.data.toList]) (es++[{key:= .string s,val:= .bool true,born:=cZ}]):=
 h.append (.cons ⟨by rfl,rfl⟩ .nil)
theorem bk.modify{α β:Type}{R:α->β->Prop}{f:β->β}:∀{l:List α} {m:List β} {j:Nat},bk R l m->(∀a b,R a b->m[j]?=some b->R a (f b))->bk R l (m.modify j f)
 |_,_,_,.nil,_=>by simpa using bk.nil
 |_,_,0,.cons h ai,k=>.cons (k _ _ h rfl) ai
 |_,_,j+1,.cons h ai,k=>by
  exact .cons h (bk.modify ai λa b j0 ag=>k a b j0 (by grind))
theorem arG (R:Rel aG nt φ S env J n a w){o:Oper}{t:TypeId}{x k v0:Operand}(aO:o.op= .mapUpdate t x k v0)(ht:CW P t=true)(eK:Zh v0=true){bO Iy:ba}(I:b7 x=some bO)(ct:b7 k=some Iy)
 {p v J'}(hk:n key=false)(h:a7 (.upset bO Iy) env J key=some (p,v,J'))(ar:p):Good P aG nt env J' (ins n key) a v ((execOp a.eval o).run P w):=by
 simp only[a7,bK]at h;obtain⟨⟨fY,gR⟩,cv,⟨fR,aDK⟩,VI,he⟩:=h;simp only at he;obtain⟨gV,tT,i,hu,yW,ak,bq⟩:=amj ht;have u7:a.eval v0= .bool true:=by
  unfold Zh at eK;split at eK
  . rfl
  grind
 split at he
 . rename_i b s;split at he
   . rename_i ks cQ;obtain⟨rfl,rfl,rfl⟩:=he;have h1:a.eval x= .map _:=(c4 R I cv ar.1).1.fy;obtain⟨bs,aa,rfl,_⟩:=cy.qR (c4 R ct VI ar.2).1;obtain⟨h0,⟨es,cZ,ab,fO⟩,gv⟩:=R.b'.blk _ _ cQ;have aV:=wu ab
     have aBi:∃gJ jZ,(execOp a.eval o).run P w= .ok .skip {w with heap:=w.heap.setIfInBounds (φ b).1 (.map gJ jZ)}/\MN (n2 ks bs.data.toList) gJ.toList:=by
      have aJ:=Zj bs 0 fO;rcases aJ with⟨g1,g2⟩|⟨g1,j,e,g2,g3,g4,g5⟩
      . refine⟨es.toArray.push {key:= .string bs,val:= .bool true,born:=cZ},cZ+1,?_,?_⟩
        . simp[execOp,aO,h1,aa,u7,Instr.mapUpdate,run_underlying hu,AV ab,R1 yW,Sa yW g2,RG _ ab]
        . simp only[n2,g1,dB]
          simpa using asD fO bs cZ
      . refine⟨es.toArray.modify j λe=>{e with key:= .string bs,val:= .bool true},cZ,?_,?_⟩
        . have fH:Instr.sameBits 10000 (Value.string bs) (Value.string bs)=true:=by
           simp only[Instr.sameBits];rw[beq_toListBytes];simp
          have jo:∀w,(Instr.keyThatStays (Value.string bs) (Value.string bs)).run P w= .ok (Value.string bs) w:=by intro w;unfold Instr.keyThatStays;rw[fH];rfl
          simp[execOp,aO,h1,aa,u7,Instr.mapUpdate,run_underlying hu,AV ab,R1 yW,Sa yW g2,RG _ ab,g3,g4,jo]
        . simp only[n2,g1,dc];rw[QA];refine bk.modify fO λcI c7 azT jF=>?_
          grind
     obtain⟨gJ,jZ,eQ,azA⟩:=aBi;refine⟨undef,φ,S,_,.inr ⟨eQ,rfl⟩,.undef,rfl,Rel.more ?_ λ_ h=>qz h⟩;refine R.rewrite cQ h0 rfl rfl rfl rfl (by simp) (λbI m'=>by simp[eW m']) (λm=>?_);exact⟨h0,⟨gJ.toList,jZ,by simp[aV],azA⟩,gv⟩
   grind
 grind
theorem aqf {st yt e:TypeId}{i:TypeInfo}{fi:Value}(ec:P.underlying st=some (.slice e))(hh:P.underlying yt=some .string)(ak:P.info? e=some i)(bq:i.zero=some fi)(AO:fi.cells.size=i.size)
 {base:Option Addr}{sl sc fX:Nat}{y:Value}{xs dW:List Value}(hL:(Builtin.lenOf y).run P w= .ok fX w)
 (I:(Builtin.firstCells i.size sl (.slice base sl sc)).run P w.drew= .ok xs.toArray w.drew)(ao:(Builtin.firstCells i.size fX y).run P w.drew= .ok dW.toArray w.drew)
 (kZ:sc<sl+fX)(na:pK (sl+fX) i.bytes)(kn:sl+fX<=en){tt:TypeId}:
 ∃(iD:Nat) (r:List Value),sl+fX<=iD/\r.length=(iD-(sl+fX))*i.size/\
  (Builtin.append_ #[st,yt] tt #[.slice base sl sc,y]).run P w= .ok (.slice (some ⟨w.heap.size,0,none⟩) (sl+fX) iD) (w.drew.alloc (.cells (xs++dW++r).toArray e)):=by
 have CP:∀w,(sizeOf e).run P w= .ok i.size w:=λw=>by simp[sizeOf,typeInfo,ak]
 have CJ:∀w,(typeInfo e).run P w= .ok i w:=λw=>by simp[typeInfo,ak]
 have hzero:∀w,(zeroValue e).run P w= .ok fi w:=λw=>by simp_all[zeroValue]
 generalize aAc:(Question.appendCap (sl+fX) sc e).cut (w.tape w.drawn (Question.appendCap (sl+fX) sc e))=iD;have V2:sl+fX<=iD:=by grind[Question.cut]
 have h1:¬(sl+fX<=sc):=by omega
 have aa:¬(sl+fX>IntKind.i64.max/\(False\/i.bytes=0)):=by grind[IntKind.max,IntKind.bits,en]
 have aA:=by
  exact na.not kZ
 refine⟨iD,(Builtin.zeroCells fi.cells (iD-(sl+fX))).toList,V2,by grind[alc],?_⟩;have Vx:(choose (.appendCap (sl+fX) sc e)).run P w= .ok iD w.drew:=by simp_all[Question.forced]
 have aR:(xs++dW++(Builtin.zeroCells fi.cells (iD-(sl+fX))).toList).toArray=xs.toArray++dW.toArray++Builtin.zeroCells fi.cells (iD-(sl+fX)):=by simp
 rw[aR];unfold Builtin.append_;simp only[Qw,Qu,Qv,Sem.run_bind,run_underlying ec,run_underlying hh,Result.andThen_ok,CP,Sem.run_pure,dK,dB,hL,ah h1,CJ];rw[ah (by grind)];simp only[Sem.run_bind,Result.andThen_ok,CJ];rw[ah aA]
 simp only[Sem.run_bind,Result.andThen_ok,CJ,Vx,run_askRoom,I,ao,hzero,j7,dc];rfl
theorem ao8 {st yt e:TypeId}{i:TypeInfo}(ec:P.underlying st=some (.slice e))(hh:P.underlying yt=some .string)(ak:P.info? e=some i)
 {base:Option Addr}{sl sc fX:Nat}{y:Value}{dW:List Value}(hL:(Builtin.lenOf y).run P w= .ok fX w)(ao:(Builtin.firstCells i.size fX y).run P w= .ok dW.toArray w)(kZ:sl+fX<=sc){w':World}
 (hs:∀cK,base=some cK->(storeCells (cK.add (sl*i.size)) dW 0).run P w= .ok () w') (ag:base=none->w'=w) {tt:TypeId}:
  (Builtin.append_ #[st,yt] tt #[.slice base sl sc,y]).run P w= .ok (.slice base (sl+fX) sc) w':=by
 have CP:∀w,(sizeOf e).run P w= .ok i.size w:=λw=>by simp[sizeOf,typeInfo,ak]
 unfold Builtin.append_;simp only[Qw,Qu,Qv,Sem.run_bind,run_underlying ec,run_underlying hh,Result.andThen_ok,CP,Sem.run_pure,dK,dB,hL];cases base<;>simp_all
theorem apy(w:World)(bs:ByteArray):(Builtin.firstCells 1 bs.size (.string bs)).run P w= .ok (bs.data.toList.map λb=>Value.int .u8 b.toNat).toArray w:=by
 simp[Builtin.firstCells]
 grind
theorem aqz(l:List UInt8):∀x,x∈(l.map λb=>Value.int .u8 b.toNat)->x.oneCell'=true:=by
 intro x I;simp at I;obtain⟨b,_,rfl⟩:=I;rfl
theorem amv (R:Rel aG nt φ S env J n a w){o:Oper}{x:Operand}{yv:Value}{st yt:TypeId}{bO:ba}(I:b7 x=some bO){fY:Prop}{b c7 bytes:Nat}{es s:List UInt8}(cv:bO.get env=some (fY,.c (.df b es.length)))(eV:fY)
 (cQ:bf J b=some (.buf c7 es))(hk:n key=false)(na:pK (es.length+s.length) bytes)(kn:es.length+s.length<=en)
 (eQ:∀r w',(Builtin.append_ #[st,yt] o.type #[a.eval x,yv]).run P w= .ok r w'->(execOp a.eval o).run P w= .ok (.value r) w')
 (fG:∀base sl sc w',sl+s.length<=sc->(∀cK,base=some cK->(storeCells (cK.add (sl*1)) (s.map λb=>Value.int .u8 b.toNat) 0).run P w= .ok () w')->(base=none->w'=w)->(Builtin.append_ #[st,yt] o.type #[.slice base sl sc,yv]).run P w= .ok (.slice base (sl+s.length) sc) w')
 (dh:∀base sl sc (xs:List Value),(Builtin.firstCells 1 sl (.slice base sl sc)).run P w.drew= .ok xs.toArray w.drew->sc<sl+s.length->pK (sl+s.length) bytes->sl+s.length<=en->
  ∃(iD:Nat) (r:List Value),sl+s.length<=iD/\r.length=(iD-(sl+s.length))*1/\(Builtin.append_ #[st,yt] o.type #[.slice base sl sc,yv]).run P w= .ok (.slice (some ⟨w.heap.size,0,none⟩) (sl+s.length) iD) (w.drew.alloc (.cells (xs++(s.map λb=>Value.int .u8 b.toNat)++r).toArray c7))):
 Good P aG nt env (ee (lh J b) key (.buf c7 (es++s))) (ins n key) a (.c (.df key (es.length+s.length))) ((execOp a.eval o).run P w):=by
 have CM:∀b,w.heap.size<=b->∀j,¬S b j:=λb ag j aN=>by have:=R.b'.st _ _ aN;omega
 obtain⟨hle,js,k1⟩:=(c4 R I cv eV).1.fy;have nJ:=R.b'.blk _ _ cQ;obtain⟨g1,g2,g3⟩:=nJ;by_cases kZ:es.length+s.length<=(φ b).2
 . by_cases eK:(φ b).2=0
   . have pW:es=[]:=rF (by omega);have wN:s=[]:=rF (by omega);have h2:=js eK;have ai:=fG none 0 0 w (by omega) (λcK yO=>by grind) (λ_=>rfl);rw[<-h2]at ai;have R':=(R.del b).pc hk (x:= .buf c7 (es++s)) (0,0) rfl (by grind[dU,eP]) (by simp)
     refine⟨_,_,S,w,.inl (eQ _ _ ai),.c ?_,by simp[V.aP,C.aP,ins],R'⟩;rw[wN,pW];refine⟨by simp,λ_=>?_,λh=>?_⟩
     . rfl
     . simp[eP]at h
   . obtain⟨⟨vs,ab,ou,FY⟩,gv⟩:=g3 eK;have h2:=k1 eK;have qF:es.length+(s.map λb=>Value.int .u8 b.toNat).length<=vs.length:=by grind
     obtain⟨w',nd,c3,dE,hl,w7,Xl,aCm⟩:=tb (P:=P) _ es.length 0 vs w ab (by omega) (aqz _)
     have ai:=fG (some ⟨(φ b).1,0,none⟩) es.length (φ b).2 w' kZ (λcK yO=>by
      cases yO;have iU:Addr.add ⟨(φ b).1,0,none⟩ (es.length*1)=⟨(φ b).1,es.length,none⟩:=by rw[D6];unfold Addr.add;split<;>simp_all
      grind) (λag=>by cases ag)
     rw[<-h2]at ai
     have cS:=(R.del b).world (w':=w') (λk=>k=(φ b).1) c3 dE hl (D5 w7.symm) (λk _ hk=>aCm k hk) (λk hk=>by
      subst hk;refine⟨gv,λk y ao hk=>?_,R.own b _ cQ eK⟩;rw[ib]at ao;split at ao
      . cases ao
      . rename_i b4
        exactλe=>R.b'.inj k b y _ ao cQ (eW b4) hk eK e)
     have eI:=cS.pc hk (x:= .buf c7 (es++s)) (φ b) rfl (by
      simp only[dU,eP]
      grind[List.length_append,yg,wx]) (λ_=>⟨λk y ao hk=>by
       rw[ib]at ao;split at ao
       . cases ao
       . rename_i b4
         exact R.b'.inj k b y _ ao cQ (eW b4) hk eK,R.own b _ cQ eK⟩)
     refine⟨_,_,S,w',.inl (eQ _ _ ai),.c ?_,by simp[V.aP,C.aP,ins],eI⟩;refine⟨by simp[eP];omega,λh=>?_,λ_=>?_⟩
     . simp[eP,eK]at h
     . simp[eP]
 . have cS:=R.drew;have yP:∃base,a.eval x= .slice base es.length (φ b).2/\∃xs:List Value,(Builtin.firstCells 1 es.length (.slice base es.length (φ b).2)).run P w.drew= .ok xs.toArray w.drew/\xs.length=es.length/\∀(i:Nat) c,es[i]?=some c->xs[i]?=some (.int .u8 (UInt8.toNat c)):=by
    by_cases eK:(φ b).2=0
    . have pW:es=[]:=rF (by omega);simp_all[Builtin.firstCells]
    . obtain⟨⟨vs,ab,ou,FY⟩,gv⟩:=g3 eK;refine⟨_,k1 eK,vs.take es.length,?_,by simp;omega,λj c ay=>?_⟩
      . show(loadCells ⟨(φ b).1,0,none⟩ (es.length*1)).run P w.drew=_;rw[D6];refine K7 (by simp;omega) (λj aM=>?_);rw[kt,LY,af aM];exact nB (w:=w.drew) ab j
      grind
   obtain⟨base,h2,xs,F1,mD,sC⟩:=yP;obtain⟨iD,r,h1,aa,ai⟩:=dh base es.length (φ b).2 xs F1 (by omega) na kn;rw[<-h2]at ai;have eI:=(cS.del b).alloc (.cells (xs++(s.map λb=>Value.int .u8 b.toNat)++r).toArray c7)
   have Iv:=eI.pc hk (x:= .buf c7 (es++s)) (w.heap.size,iD) rfl (by
    simp only[dU,eP];refine⟨by simp[];omega,by rw[fp];exact kn,λ_=>⟨⟨_,heap_alloc_new,?_,?_⟩,CM _ (gP _)⟩⟩
    . grind
    grind) (λ_=>⟨λk y ao h0=>by
     rw[ib]at ao;split at ao
     . cases ao
     . have:=(R.b'.blk k y ao).pg h0
       simp;omega,.inr R.ext.size⟩)
   refine⟨_,_,S,_,.inl (eQ _ _ ai),.c ?_,by simp[V.aP,C.aP,ins],Iv⟩;refine⟨by simp[eP];omega,λh=>?_,λ_=>?_⟩
   . simp[eP]at h;omega
   . simp[eP]
theorem aqT (R:Rel aG nt φ S env J n a w){o:Oper}{x y:Operand}{st yt e:TypeId}(aO:o.op= .call {callee:= .builtin .append,args:=#[x,y],argTypes:=#[st,yt]})
 (ec:P.underlying st=some (.slice e))(hh:P.underlying yt=some .string){i:TypeInfo}(ak:P.info? e=some i)(l9:i.size=1)(bq:(i.zero.map (·.cells.size))=some 1)
 {bO fc:ba}(I:b7 x=some bO)(ao:b7 y=some fc)
 {p v J'}(hk:n key=false)(h:a7 (.appendB e i.bytes bO fc) env J key=some (p,v,J'))(ar:p):Good P aG nt env J' (ins n key) a v ((execOp a.eval o).run P w):=by
 simp only[a7,bK]at h;obtain⟨⟨fY,gR⟩,cv,⟨rM,qT⟩,hA,he⟩:=h;simp only at he;simp only[bV]at bq;obtain⟨fi,pZ,AO⟩:=bq;split at he
 . rename_i b len s;split at he
   . rename_i c7 es cQ;obtain⟨rfl,rfl,rfl⟩:=he;obtain⟨eV,e5,rfl,rfl,na,kn⟩:=ar;obtain⟨bs,pT,rfl,_⟩:=cy.qR (c4 R ao hA e5).1;have PK:bs.data.toList.length=bs.size:=by rw[<-G8]
     have hL:∀w,(Builtin.lenOf (a.eval y)).run P w= .ok bs.data.toList.length w:=by intro w;simp[pT,PK,Builtin.lenOf]
     have mE:∀w,(Builtin.firstCells i.size bs.data.toList.length (a.eval y)).run P w= .ok (bs.data.toList.map λb=>Value.int .u8 b.toNat).toArray w:=by intro w;rw[pT,l9,PK];exact apy w bs
     refine amv R I cv eV cQ hk na kn (st:=st) (yt:=yt) (yv:=a.eval y) (λr w' ai=>by simp[execOp,aO,Go.resolve,invoke,builtin,ai]) (λbase sl sc w' h1 aa aA=>?_) (λbase sl sc xs h1 aa aA aU=>?_)
     . exact ao8 ec hh ak (hL w) (mE w) h1 (by rw[l9];exact aa) aA
     . have:=aqf (P:=P) (w:=w) (tt:=o.type) ec hh ak pZ (by rw[AO,l9]) (hL w) (by rw[l9];exact h1) (mE w.drew) aa aA aU;rw[l9]at this;exact this
   grind
 grind
theorem arH(s:List UInt8):∀(i:Nat) c,s[i]?=some c->(s.map λc=>([.int .u8 c.toNat]:List T))[i]?=some [.int .u8 c.toNat]:=by simp_all
theorem al2{s:List UInt8}{dW:List Value}(aj:dW.length=s.length)(h:nw w S 1 (s.map λc=>[.int .u8 c.toNat]) dW):dW=s.map λb=>Value.int .u8 b.toNat:=by
 refine Hz λi=>?_
 by_cases ak:i<s.length
 . obtain⟨v,aF,ai⟩:=h i 0 _ _ (arH s i _ (gQ ak)) rfl;cases ai;simp only[D6,By]at aF;rw[aF];simp[ak]
 . simp[List.getElem?_eq_none (QD (aj▸ak)),List.getElem?_eq_none (QD ak)]
theorem aqU (R:Rel aG nt φ S env J n a w){o:Oper}{x y:Operand}{st yt e qd:TypeId}(aO:o.op= .call {callee:= .builtin .append,args:=#[x,y],argTypes:=#[st,yt]})
 (ec:P.underlying st=some (.slice e))(hh:P.underlying yt=some (.slice qd)){i:TypeInfo}(ak:P.info? e=some i)(l9:i.size≠0)(bq:(i.zero.map (·.cells.size))=some i.size)
 {bO fc:ba}(I:b7 x=some bO)(ao:b7 y=some fc)
 {p v J'}(hk:n key=false)(h:a7 (.append e i.size i.bytes bO fc) env J key=some (p,v,J'))(ar:p):Good P aG nt env J' (ins n key) a v ((execOp a.eval o).run P w):=by
 by_cases mz:∃q b l,bO.get env=some (q,.c (.df b l))
 case neg=>exact ard R aO ec hh ak l9 bq I ao hk h (λq b l e=>mz ⟨q,b,l,e⟩) ar
 obtain⟨fY,b,len,cv⟩:=mz;simp only[a7,cv,aK,bK]at h;obtain⟨⟨rM,qT⟩,hA,h⟩:=h;rw[show tV (.c (.df b len)) qT=none from rfl]at h;simp only[bK]at h;obtain⟨bG,sD,he⟩:=h;split at he
 . rename_i c7 es cQ;obtain⟨s,hs,he⟩:=rG.1 he;cases he;obtain⟨eV,e5,rfl,b8,rfl,Ws,na,kn⟩:=ar;simp only[bV]at bq;obtain⟨fi,pZ,AO⟩:=bq;have P6:∀e,e∈bG.1->e.length=1:=by rw[Ws];simp
   obtain⟨hL,dW,mE,gT,jI,_⟩:=GF (P:=P) R ao hA e5 (by decide:0<1) sD P6;obtain⟨_,aFP,Wt,CV,aiN,_⟩:=GF (P:=P) R.drew ao hA e5 (by decide:0<1) sD P6;have Kd:bG.1.length=s.length:=by rw[Ws];simp
   rw[Ws]at jI aiN;have aA2:=al2 (by rw[gT,Kd,D6]) jI;have aA3:=al2 (by rw[CV,Kd,D6]) aiN;subst aA2;subst aA3;rw[Kd]at hL mE Wt;rw[<-b8]at mE Wt
   refine amv R I cv eV cQ hk na kn (st:=st) (yt:=yt) (yv:=a.eval y) (λr w' ai=>by simp[execOp,aO,Go.resolve,invoke,builtin,ai]) (λbase sl sc w' h1 aa aA=>?_) (λbase sl sc xs h1 aa aA aU=>?_)
   . exact Gj ec hh ak hL mE h1 (by rw[b8];exact aa) aA
   . have:=YA (P:=P) (w:=w) (tt:=o.type) ec hh ak pZ AO hL (by rw[b8];exact h1) Wt aa aA aU;rw[b8]at this;exact this
 . cases he
theorem arI (R:Rel aG nt φ S env J n a w){o:Oper}{x:Operand}{t:TypeId}(aO:o.op= .call {callee:= .builtin .unsafeSliceData,args:=#[x],argTypes:=#[t]}){bO:ba}(I:b7 x=some bO)
 {p v J'}(hk:n key=false)(h:a7 (.sdata bO) env J key=some (p,v,J'))(ar:p):Good P aG nt env J' (ins n key) a v ((execOp a.eval o).run P w):=by
 simp only[a7,bK]at h;obtain⟨⟨fY,gR⟩,cv,he⟩:=h;simp at he;split at he
 . rename_i b len;obtain⟨rfl,rfl,rfl⟩:=he;have az:=c4 R I cv ar;obtain⟨hle,js,k1⟩:=az.1.fy;by_cases h0:(φ b).2=0
   . refine Good.pure R ?_ (.c ⟨none,rfl,λh=>absurd h0 h⟩) (by grind[V.aP,C.aP]);simp[execOp,aO,Go.resolve,invoke,builtin,js h0,Go.Lib.run_unsafeSliceData_nil]
   . refine Good.pure R ?_ (.c ⟨_,rfl,λ_=>rfl⟩) (by grind[V.aP,C.aP]);simp[execOp,aO,Go.resolve,invoke,builtin,k1 h0,Go.Lib.run_unsafeSliceData_row _ _ _ _ _ _ h0]
 grind
theorem arJ{b m:Nat}{cK:Addr}(ag:b≠cK.block):(w.freeze cK m).heap[b]?=w.heap[b]?:=by
 grind[World.freeze]
theorem aqA(cK:Addr)(m:Nat):(w.freeze cK m).os=w.os/\(w.freeze cK m).tape=w.tape/\(w.freeze cK m).output=w.output/\(w.freeze cK m).heap.size=w.heap.size:=by
 grind[World.freeze]
theorem asE (R:Rel aG nt φ S env J n a w){o:Oper}{x y:Operand}{dd it e:TypeId}(aO:o.op= .call {callee:= .builtin .unsafeString,args:=#[x,y],argTypes:=#[dd,it]})
 (aAr:P.underlying dd=some (.pointer e))(azm:P.cellsOf e=1){bO fc:ba}(I:b7 x=some bO)(ao:b7 y=some fc)
 {p v J'}(hk:n key=false)(h:a7 (.ustr e bO fc) env J key=some (p,v,J'))(ar:p):Good P aG nt env J' (ins n key) a v ((execOp a.eval o).run P w):=by
 simp only[a7,bK]at h;obtain⟨⟨fY,gR⟩,cv,⟨rM,qT⟩,hA,he⟩:=h;simp only at he;split at he
 . rename_i b m;split at he
   . rename_i c7 es cQ;obtain⟨rfl,rfl,rfl⟩:=he;obtain⟨eV,e5,rfl,rfl⟩:=ar;obtain⟨pp,h1,aE0⟩:=(c4 R I cv eV).1.fy;have aa:=(c4 R ao hA e5).1.hM;have nJ:=R.b'.blk _ _ cQ;obtain⟨g1,g2,g3⟩:=nJ;have aiy:∀w',cl w' S (.str es) (.string ⟨es.toArray⟩):=by
      intro w';have:=cl.str (w:=w') (S:=S) (⟨es.toArray⟩:ByteArray) (by rw[<-G8];grind[en,iQ]);omega
     have eQ:∀r w',(Builtin.unsafeString_ #[dd,it] o.type #[a.eval x,a.eval y]).run P w= .ok r w'->(execOp a.eval o).run P w= .ok (.value r) w':=by
      intro r w' ai;simp[execOp,aO,Go.resolve,invoke,builtin,ai]
     by_cases b4:es=[]
     . subst b4;refine⟨.string ⟨#[]⟩,φ,S,w,.inl (eQ _ _ ?_),.c (aiy w),rfl,(R.del b).more λ_ h=>qz h⟩;rw[h1,aa];exact Go.Lib.run_unsafeString_none w dd it o.type pp
     . have mA:=Eb.2 b4;have eK:(φ b).2≠0:=by omega
       obtain⟨⟨vs,ab,ou,FY⟩,gv⟩:=g3 eK;have We:w.shape? (φ b).1=some (c7,vs.length):=by grind[World.shape?]
       have ai:=Go.Lib.run_unsafeString_row (P:=P) w dd it o.type c7 aAr azm _ vs.length We es b4 (by omega) (by grind[en]) (λj c ay=>by
        grind[Addr.add,nB])
       obtain⟨c3,dE,hl,w7⟩:=aqA (w:=w) ⟨(φ b).1,0,none⟩ es.length
       have cS:=(R.del b).world _ c3 dE hl (D5 w7.symm) (λk _ hk=>arJ hk) (λk hk=>by
        subst hk;refine⟨gv,λk y ao hk=>?_,R.own b _ cQ eK⟩;rw[ib]at ao;split at ao
        . grind
        . rename_i b4
          exactλe=>R.b'.inj k b y _ ao cQ (eW b4) hk eK e)
       refine⟨.string _,φ,S,_,.inl (eQ _ _ ?_),.c (aiy _),rfl,cS.more λ_ h=>qz h⟩
       grind
   grind
 grind
end
section
variable {P:Program}{aG:Ctx}{nt:Nat}{φ:ea}{S:dV}{env:Env}{J:br}{n:Nat->Bool}{key:Nat}{a:Act}{w:World}
theorem X8{d:Nat}{e:TypeId}{k:Nat}(hk:y6 P e=some k){xs bG:Array Value}:∀{m i:Nat} {ps qs:List C} {us vs:List Value} {r:Bool},
 sr (List.replicate m k) ps qs=some r->bk (bP φ w S) ps us->bk (bP φ w S) qs vs->xs.toList.drop i=us->bG.toList.drop i=vs->(Op.eqItems (d+1) e 1 xs bG (List.range' i m)).run P w= .ok r w
 |0,i,ps,qs,us,vs,r,ai,_,_,_,_=>by
  cases ps<;>cases qs<;>simp[sr]at ai
  subst ai;simp[Op.eqItems]
 |m+1,i,ps,qs,us,vs,r,ai,hu,aF,aR,bw=>by
  have qD:=abi hk;have Mw:∀(l:Array Value) (z:Value) (dW:List Value),l.toList.drop i=z::dW->(part e l (i*1)).run P w= .ok z w:=λl z dW I=>by
   have:l[i]?=some z:=by
    have:=eL (·[0]?) I
    simpa using this
   simp[part,Dg qD,this]
  rw[List.replicate_succ]at ai;cases ps with
  |nil=>simp[sr]at ai
  |cons p ps=>cases qs with
   |nil=>cases p<;>simp[sr]at ai
   |cons q qs=>
    cases p<;>cases q<;>simp only[sr,bK,bV]at ai<;>try cases ai
    rename_i x y b h;obtain⟨ag,fw,y2,rfl⟩:=h;cases hu with
    |cons h1 jm=>cases aF with
     |cons aa tv=>
      rename_i u us v vs;have f1:xs.toList.drop (i+1)=us:=by rw[<-Hn,aR];rfl
      have f2:bG.toList.drop (i+1)=vs:=by rw[<-Hn,bw];rfl
      have ih:=X8 (d:=d) hk (m:=m) (i:=i+1) y2 jm tv f1 f2;rw[QE];simp only[Op.eqItems,Sem.run_bind,Mw xs u us aR,Mw bG v vs bw,Result.andThen_ok,abh ag hk h1 aa d];cases b with
      |true=>simpa using ih
      |false=>simp
theorem arK (R:Rel aG nt φ S env J n a w){o:Oper}{op:BinOp}{ty yt:TypeId}{x y:Operand}(aO:o.op= .binOp op ty x y yt)(eb:op= .eql\/op= .neq){ks:List Nat}(dI:aaH P ty=some ks)
 {bO fc:ba}(I:b7 x=some bO)(ao:b7 y=some fc)
 {p v J'}(hk:n key=false)(h:a7 (.eqAgg (op== .neq) ks bO fc) env J key=some (p,v,J'))(ar:p):Good P aG nt env J' (ins n key) a v ((execOp a.eval o).run P w):=by
 simp only[a7,bK]at h;obtain⟨⟨fY,gR⟩,cv,⟨rM,qT⟩,hA,he⟩:=h;simp only at he;split at he
 . rename_i ps qs;simp only[bV,fu]at he;obtain⟨r,ai,rfl,rfl,rfl⟩:=he;obtain⟨us,hu,CF⟩:=(c4 R I cv ar.1).1.s0;obtain⟨vs,aF,FD⟩:=(c4 R ao hA ar.2).1.s0;unfold aaH at dI;split at dI
   . rename_i m e o5;simp only[gn,bV]at dI;obtain⟨⟨hs,az⟩,k,ct,rfl⟩:=dI;unfold fZ at hs;simp only[bV]at hs;obtain⟨i,ak,hs⟩:=hs;have ay:P.cellsOf e=1:=by simp[Program.cellsOf,ak,hs]
     have wA:(eqGuard op ty x y (a.eval x) (a.eval y)).run P w= .ok () w:=by rcases eb with rfl|rfl<;>simp[eqGuard,hu,aF,az]
     have zY:(Op.equal ty (.agg us.toArray) (.agg vs.toArray)).run P w= .ok r w:=by
      obtain⟨d,av⟩:∃d,Op.maxDepth=d+2:=⟨9998,rfl⟩
      unfold Op.equal;rw[av,run_equalIn_array w (d+1) _ _ o5 ak,ay,List.range_eq_range'];exact X8 ct ai CF FD (by simp) (by simp)
     have CD:(binOp op ty (a.eval x) (a.eval y)).run P w= .ok (.bool (if(op== .neq)then !r else r)) w:=by
      rcases eb with rfl|rfl
      . rw[hu,aF];simp only[binOp,Sem.run_bind,zY];rfl
      . rw[hu,aF];simp only[binOp,Sem.run_bind,zY];rfl
     refine Good.pure R (x:= .bool (if(op== .neq)then !r else r)) ?_ (.xL _) rfl;simp[execOp,aO,wA,CD]
   . cases dI
 . cases he
theorem asF (R:Rel aG nt φ S env J n a w){o:Oper}{ty:TypeId}{x i:Operand}(aO:o.op= .index ty x i){k:Nat}{e:TypeId}(dI:P.underlying ty=some (.array k e))(aj:uY P e=some (false,1))
 {bO qh:ba}(I:b7 x=some bO)(ak:b7 i=some qh)
 {p v J'}(hk:n key=false)(h:a7 (.idxV k bO qh) env J key=some (p,v,J'))(ar:p):Good P aG nt env J' (ins n key) a v ((execOp a.eval o).run P w):=by
 simp only[a7,bK]at h;obtain⟨⟨fY,gR⟩,cv,⟨pi,tS⟩,ry,he⟩:=h;simp only at he;split at he
 . rename_i cs kk m;simp only[gn,fa,fu]at he;obtain⟨eJ,rfl,rfl,rfl⟩:=he;obtain⟨eV,e5,o7,u3⟩:=ar;have g1:=c4 R I cv eV;obtain⟨us,hu,c8⟩:=g1.1.s0;have aa:=(c4 R ak ry e5).1.hM;unfold uY at aj;simp only[bK]at aj;obtain⟨g,az,z,bq,aj⟩:=aj;split at aj
   . cases aj;have aV:m.toNat<cs.length:=by omega
     obtain⟨u,aiD,P8⟩:=c8.get (show cs[m.toNat]?=some (cs.getD m.toNat .dead) by rw[List.getD,gQ aV];rfl);refine Good.pure R (x:=u) ?_ (.c P8) ?_
     . have ag:us.toArray[m.toNat*1]?=some u:=by simpa using aiD
       simp only[execOp,aO,Sem.run_bind,hu,aa,Instr.index,asIntOf,run_underlying dI,Result.andThen_ok,Sem.run_pure];rw[af ⟨o7,by omega⟩];simp only[Sem.run_bind,oY bq,Result.andThen_ok,part,Dg az,ag];rfl
     . have:=g1.2;simp only[V.aP,ik]at this⊢;refine this _ ?_;rw[List.getD,gQ aV];exact Hm aV
   . cases aj
 . cases he
theorem aqV{ty e:TypeId}(dI:P.underlying ty=some (.slice e)){i:TypeInfo}{fi:Value}(ak:P.info? e=some i)(pZ:i.zero=some fi){k:IntKind}{m:Int}(h0:0<=m)(ag:m.toNat*i.bytes<=kJ)(hm:m.toNat<=en):
 (Instr.makeSlice ty (.int k m) (.int k m)).run P w= .ok (.slice (some ⟨w.heap.size,0,none⟩) m.toNat m.toNat) (w.alloc (.cells ((Array.range (m.toNat*i.size)).map (fi.cells[· % fi.cells.size]!)) e)):=by
 obtain⟨c,rfl⟩:∃c:Nat,m=(c:Int):=⟨m.toNat,by omega⟩
 simp only[lb]at*;unfold en at hm;have hw:IntKind.i64.wrap (c:Int)=(c:Int):=by
  simp[IntKind.wrap,IntKind.signed,IntKind.bits];omega
 have aAO:∀w,(typeInfo e).run P w= .ok i w:=λw=>by simp[typeInfo,ak]
 have b8:∀w,(sizeOf e).run P w= .ok i.size w:=λw=>by simp[sizeOf,typeInfo,ak]
 have jI:∀w,(zeroValue e).run P w= .ok fi w:=λw=>by simp[zeroValue,typeInfo,ak,pZ]
 have Vr:¬((i.bytes:Int)*(c:Int)>2^48):=by
  unfold kJ at ag;rw[<-Int.natCast_mul,Nat.mul_comm];omega
 unfold Instr.makeSlice;simp only[asInt,asIntOf,Sem.run_bind,run_underlying dI,Result.andThen_ok,Sem.run_pure,aAO,hw];rw[ah (by simp;omega)];simp only[Sem.run_bind,run_askRoom,Result.andThen_ok,lb,b8];by_cases h:c*i.size=0
 . simp only[h,dc,Sem.run_bind,Sem.run_pure,Result.andThen_ok,show Array.range 0=#[]from rfl,List.map_toArray,Array.map_empty];rfl
 . simp only[h,dB,Sem.run_bind,jI,Sem.run_pure,Result.andThen_ok];rfl
theorem aqB (R:Rel aG nt φ S env J n a w){o:Oper}{ty:TypeId}{x y:Operand}(aO:o.op= .makeSlice ty x y){e:TypeId}(dI:P.underlying ty=some (.slice e))(u':XT x y=true){i:TypeInfo}(ak:P.info? e=some i)
 {z:List C}(bq:qe P e=some z)(h0:i.size≠0)(gT:z.length=i.size){bO:ba}(I:b7 x=some bO)
 {p v J'}(hk:n key=false)(h:a7 (.mslice i.size i.bytes z bO) env J key=some (p,v,J'))(ar:p):Good P aG nt env J' (ins n key) a v ((execOp a.eval o).run P w):=by
 have hs:x=y:=by
  unfold XT at u';split at u'
  . rw[lK u']
  . cases u'
 subst hs;simp only[a7,bK]at h;obtain⟨⟨fY,gR⟩,cv,j9,tA,he⟩:=h;simp only at he;split at he
 . rename_i kk m;simp only[fa,fu]at he;obtain⟨rfl,rfl,rfl⟩:=he;obtain⟨eV,o7,FP,aie,az'⟩:=ar;have aa:=(c4 R I cv eV).1.hM;obtain⟨dk,fi,hY,pZ,c8,iV⟩:=Df (φ:=φ) (w:=w) (S:=S) (n:=n) bq;rw[ak]at hY;cases hY;have jI:=AU tA c8;have CV:fi.cells.size=i.size:=by rw[<-LX,<-c8.length,gT]
   have va:0<i.size:=by omega
   have Wu:j9.length=i.size:=by rw[G0 tA,gT]
   generalize hlen:m.toNat=len at*;have cS:=R.alloc (.cells ((Array.range (len*i.size)).map (fi.cells[· % fi.cells.size]!)) e);have kr:=R.Hk (.cells ((Array.range (len*i.size)).map (fi.cells[· % fi.cells.size]!)) e)
   have eI:=cS.pc hk (x:=if vS z=true then .box (List.replicate len .aT)else .arr i.size (List.replicate len j9)) (w.heap.size,len) (by split<;>simp[ck.aP,C.aP]) (by
    split
    . rename_i Aw;simp only[dU,eP];refine⟨az' Aw,((Array.range (len*i.size)).map (fi.cells[· % fi.cells.size]!)).toList,e,by rw[Array.toArray_toList];exact heap_alloc_new,?_,λj h=>?_⟩
      . have nQ:z=[.aT]:=by unfold vS at Aw;grind
        subst nQ;simp at gT;rw[<-gT,D6];refine bk.rK (by simp) λq c v ay aF=>?_
        have aE:=(fv.1 aF).1;simp at aE;have:c= .aT:=L9 (hp ay);subst this;have CF:=c8;cases Ke:fi.cells.toList with
        |nil=>rw[Ke]at CF;cases CF
        |cons v0 r=>
         rw[Ke]at CF;cases CF with|cons wU nd=>
         cases nd;obtain⟨axw,azd⟩:=wU;have ayP:fi.cells[0]?=some v0:=by rw[<-Mb,Ke];rfl
         have P6:fi.cells.size=1:=by rw[<-LX,Ke];rfl
         rw[Mb]at aF;have:=R9 CV va q 0 (by omega) (by omega);rw[<-gT]at this;simp only[D6,By]at this;rw[this,ayP]at aF;cases aF;exact⟨axw,azd⟩
      . have:=R.b'.st _ _ h;omega
    simp only[dU,eP];refine⟨by simp,by simpa using aie,λe he=>by rw[L9 he];exact Wu,va,λ_=>⟨((Array.range (len*i.size)).map (fi.cells[· % fi.cells.size]!)).toList,e,by rw[Array.toArray_toList];exact heap_alloc_new,by simp,λa j q t he ht=>?_,λj h=>?_⟩⟩
    . have PS:=(fv.1 he).1;simp at PS;have:q=j9:=L9 (hp he);subst this;have aM:=(fv.1 ht).1;obtain⟨x,I,ai⟩:=jI.get ht;refine⟨x,?_,cl.mono kr ai⟩;rw[Mb,R9 CV va a j PS (by omega)]
      simpa using I
    . have:=R.b'.st _ _ h
      omega) (λ_=>⟨λk y ao h0=>by
       have:=(R.b'.blk k y ao).pg h0
       simp;omega,.inr R.ext.size⟩)
   refine⟨.slice (some ⟨w.heap.size,0,none⟩) len len,_,S,_,.inl ?_,.c ⟨some ⟨w.heap.size,0,none⟩,by simp[eP],by simp[eP],by simp[eP]⟩,by simp[V.aP,C.aP,ins],eI⟩;have ai:=aqV (P:=P) (w:=w) dI ak pZ (k:=kk) o7 (by rw[hlen];exact FP) (by rw[hlen];exact aie);rw[hlen]at ai;simp only[execOp,aO,Sem.run_bind,aa,ai,Result.andThen_ok];rfl
 . cases he
theorem GO{α:Type}{x:Array α}{a b:α}(h:x.toList=[a,b]):x=#[a,b]:=by grind
theorem aaI{α:Type}{x:Array α}{a:α}(h:x.toList=[a]):x=#[a]:=by grind
theorem asG (R:Rel aG nt φ S env J n a w){o:Oper}{c:Call}(aO:o.op= .call c){eo:dG}(ai:uH P c=some eo)
 {p v J'}(hk:n key=false)(h:a7 eo env J key=some (p,v,J'))(ar:p):Good P aG nt env J' (ins n key) a v ((execOp a.eval o).run P w):=by
 obtain⟨callee,args,argTypes⟩:=c;unfold uH at ai;split at ai
 . grind[aaI,bV,att]
 . rename_i ay;split at ai
   . rename_i x y t u I ht;have I:=GO I;have ht:=GO ht;subst ay;subst I;subst ht;split at ai
     . rename_i e hu J6;simp only[bK,gn,fa]at ai;obtain⟨i,ak,bO,JB,fc,JC,⟨h1,aa,aA⟩,rfl⟩:=ai;exact aqT R aO hu J6 ak h1 aa JB JC hk h ar
     . rename_i e c7 hu J6;simp only[bK,gn,fa]at ai;obtain⟨i,ak,bO,JB,fc,JC,⟨h1,aa⟩,rfl⟩:=ai;exact aqU R aO hu J6 ak h1 aa JB JC hk h ar
     . cases ai
   grind
 . grind[GO,bK,bV,arx]
 . grind[GO,bK,bV,ary]
 . split at ai
   . rename_i x t I ht;have I:=aaI I;have ht:=aaI ht;subst I;subst ht;split at ai
     . simp only[gn,bV]at ai
       grind[arI]
     . cases ai
   grind
 . rename_i ay;split at ai
   . rename_i x y t u I ht;have I:=GO I;have ht:=GO ht;subst ay;subst I;subst ht;split at ai
     . rename_i e hu;simp only[gn,bK,bV]at ai;obtain⟨⟨_,_,aA⟩,bO,JB,fc,JC,rfl⟩:=ai;exact asE R aO hu aA JB JC hk h ar
     grind
   grind
 . grind[bV,a7]
 . grind[bV,a7]
 grind
theorem Good.mono{v:V}{J':br}{dJ dn:Nat->Bool}(h:∀b,dJ b=true->dn b=true){r:Result Next}(g:Good P aG nt env J' dJ a v r):Good P aG nt env J' dn a v r:=by
 obtain⟨x,bB,bC,w',h1,aa,aA,R'⟩:=g;exact⟨x,bB,bC,w',h1,aa,V.lB h aA,R'.more h⟩
theorem arL (R:Rel aG nt φ S env J n a w){o:Oper}{eo:dG}(ai:eh P o.op=some eo)
 (gv:∀e e8,eo≠.allocS e e8){p v J'}(hk:n key=false)(h:a7 eo env J key=some (p,v,J'))(ar:p):Good P aG nt env J' (ins n key) a v ((execOp a.eval o).run P w):=by
 generalize eb:o.op=op at ai;cases op with
 |move x=>simp only[eh,bV]at ai;obtain⟨bO,I,rfl⟩:=ai;exact abZ R (.inl eb) I hk h ar
 |assign x=>simp only[eh,bV]at ai;obtain⟨bO,I,rfl⟩:=ai;exact abZ R (.inr eb) I hk h ar
 |pick c x y=>
  simp only[eh,bK,bV]at ai;obtain⟨ac,ay,bO,I,fc,ao,rfl⟩:=ai;exact art R eb ay I ao hk h ar
 |alloc e=>
  simp only[eh]at ai;split at ai
  . cases ai;exact absurd rfl (gv _ _)
  . simp only[bK]at ai;obtain⟨cs,eJ,ai⟩:=ai;split at ai
    . split at ai
      . rename_i ay;cases ai;exact aqw R eb eJ (by omega) (by omega) hk h ar
      . cases ai;exact al0 R eb eJ hk h ar
    . cases ai;exact al0 R eb eJ hk h ar
 |box e x=>simp only[eh,bV]at ai;obtain⟨bO,I,rfl⟩:=ai;exact atv R eb I hk h ar
 |build t parts=>
  simp only[eh]at ai;split at ai
  . rename_i fs o5;simp only[gn,bK,bV]at ai;obtain⟨h1,z,bq,ps,iC,rfl⟩:=ai;exact aqs R eb o5 h1 bq iC hk h ar
  . simp only[bK,bV]at ai;rename_i len e hu;obtain⟨z,bq,m,hm,ps,iC,rfl⟩:=ai;exact ap2 R eb hu hm bq iC hk h ar
  . cases ai
 |buildSlice t len parts=>
  simp only[eh]at ai;split at ai
  . rename_i e hu;simp only[bK,gn,fa]at ai;obtain⟨m,hm,z,bq,ps,iC,⟨h1,aa,aA⟩,rfl⟩:=ai;exact arc R eb hu hm bq iC h1 aa aA hk h ar
  . cases ai
 |load t x=>
  simp only[eh,bK,bV]at ai;obtain⟨g,az,bO,I,rfl⟩:=ai;exact arE R eb az I hk h ar
 |store t x y=>
  simp only[eh,bK,bV]at ai;obtain⟨m,hm,bO,I,fc,ao,rfl⟩:=ai;exact aqr R eb hm I ao hk h ar
 |nilCheck x=>simp only[eh,bV]at ai;obtain⟨bO,I,rfl⟩:=ai;exact ap1 R eb I hk h ar
 |binOp op t x y yt=>
  simp only[eh]at ai;split at ai
  . rename_i V6;split at ai
    . simp only[bK,bV]at ai;obtain⟨ks,jo,bO,I,fc,ao,rfl⟩:=ai;exact arK R eb V6 jo I ao hk h ar
    . simp only[bK,bV]at ai;obtain⟨ks,jo,bO,I,fc,ao,rfl⟩:=ai;exact aqq R eb V6 jo I ao hk h ar
    . simp only[gn,bV]at ai
      grind[a7]
    . rename_i hu;simp only[bK,bV]at ai;obtain⟨bO,I,fc,ao,rfl⟩:=ai;exact ara R eb V6 hu I ao hk h ar
    . simp only[bK,bV]at ai;obtain⟨bO,I,fc,ao,rfl⟩:=ai;exact YP R eb I ao hk h ar
    . simp only[bK,bV]at ai;obtain⟨bO,I,fc,ao,rfl⟩:=ai;exact YP R eb I ao hk h ar
    . cases ai
  . simp only[bK,bV]at ai;obtain⟨bO,I,fc,ao,rfl⟩:=ai;exact YP R eb I ao hk h ar
 |unOp u t x=>
  cases u<;>simp only[eh,bV,reduceCtorEq]at ai
  . split at ai
    . simp only[bV]at ai;obtain⟨bO,I,rfl⟩:=ai;exact ar9 R eb I hk h ar
    . cases ai
  . split at ai
    . simp only[bV]at ai;obtain⟨bO,I,rfl⟩:=ai;exact ar' R eb I hk h ar
    . cases ai
  . obtain⟨bO,I,rfl⟩:=ai;exact ar8 R eb I hk h ar
 |convert s d x=>
  simp only[eh]at ai;split at ai
  . rename_i hs av;simp only[bV]at ai;obtain⟨bO,I,rfl⟩:=ai;exact arv R eb hs av I hk h ar
  . rename_i hs av;simp only[bV]at ai;obtain⟨bO,I,rfl⟩:=ai;exact asa R eb hs av I hk h ar
  . rename_i hs av;simp only[bV]at ai;obtain⟨bO,I,rfl⟩:=ai;exact atq R eb hs av I hk h ar
  . rename_i e hs av;simp only[gn,bV]at ai;obtain⟨⟨he,b8⟩,bO,I,rfl⟩:=ai;have jF:P.underlying e=some (.int .u8):=by grind
    exact atx R eb hs jF av I hk h ar
  . cases ai
 |fieldAddr t x f=>
  simp only[eh]at ai;split at ai
  . rename_i fs o5;simp only[bK,QL,bV]at ai;obtain⟨fd,aJ,m,hm,o7,bO,I,rfl⟩:=ai;exact arw R eb o5 aJ hm o7 I hk h ar
  . cases ai
 |field t x f=>
  simp only[eh]at ai;split at ai
  . rename_i fs o5;simp only[bK,bV]at ai;obtain⟨fd,aJ,g,az,bO,I,rfl⟩:=ai;obtain⟨h1,aa,aA⟩:=YT az;exact atr R eb o5 aJ aa h1 aA I hk h ar
  . cases ai
 |indexAddr t x i=>
  simp only[eh]at ai;split at ai
  . rename_i e hu;simp only[bK,QL,bV]at ai;obtain⟨m,hm,o7,bO,I,qh,ak,rfl⟩:=ai;exact arz R eb hu hm o7 I ak hk h ar
  . rename_i k e hu;split at ai
    . simp only[gn,bK,bV]at ai;obtain⟨h0,s,hs,bO,I,rfl⟩:=ai;exact arl R eb hu h0 hs I hk h ar
    . simp only[gn,bK,bV]at ai;obtain⟨b8,bO,I,qh,ak,rfl⟩:=ai;exact ark R eb hu b8 I ak hk h ar
  . cases ai
 |index t x i=>
  simp only[eh]at ai;split at ai
  . rename_i hu;simp only[bK,bV]at ai;obtain⟨bO,I,qh,ak,rfl⟩:=ai;exact arA R eb hu I ak hk h ar
  . rename_i hu;simp only[gn,bK,bV]at ai;obtain⟨aj,bO,I,qh,ak,rfl⟩:=ai;exact asF R eb hu aj I ak hk h ar
  . cases ai
 |slice t x bE ak Qp=>
  simp only[eh]at ai;split at ai
  . rename_i hu;simp only[gn,bK,bV,Option.isNone_iff_eq_none]at ai;obtain⟨rfl,bO,I,n3,aj,vI,ab,rfl⟩:=ai;exact arC R eb hu I aj ab hk h ar
  . rename_i e hu;split at ai
    . simp only[bK,QL,bV]at ai;obtain⟨m,hm,o7,bO,I,n3,aj,vI,ab,rfl⟩:=ai;exact atu R eb hu hm I aj ab hk h ar
    . split at ai
      . simp only[gn,bV]at ai
        grind[Option.isSome_iff_exists,arD]
      . cases ai
    . cases ai
  . simp only[gn,bK,bV,Option.isNone_iff_eq_none]at ai
    grind[arn]
  grind
 |makeFunc fn first caps=>
  cases fn<;>simp only[eh,gn,bV,reduceCtorEq]at ai
  grind[arB]
 |extract x i=>grind[eh,bV,ats]
 |makeSlice t x y=>
  simp only[eh]at ai;split at ai
  . rename_i hu;simp only[gn,bK,bV]at ai;obtain⟨u',i,ak,z,bq,⟨h0,aj⟩,bO,I,rfl⟩:=ai;exact aqB R eb hu u' ak bq h0 aj I hk h ar
  . cases ai
 |makeMap t r=>
  cases r with
  |some _=>simp[eh]at ai
  |none=>
   simp only[eh,gn,fa]at ai
   grind[aqu]
 |lookup t x i c=>
  cases c with
  |true=>simp[eh]at ai
  |false=>
   simp only[eh,gn,bK,bV]at ai
   grind[arF]
 |mapUpdate t m k v0=>
  simp only[eh,gn,bK,bV]at ai
  grind[arG]
 |call c=>grind[eh,asG]
 |_=>simp[eh]at ai
def gC(n:Nat->Bool)(k:Nat):Nat->Bool:=λb=>n b||(decide (k<=b)&&decide (b<k+16))
theorem ti{b:Nat}(h:n b=true):gC n key b=true:=by grind[gC]
theorem aci{b:Nat}(h:ins n key b=true):gC n key b=true:=by
 grind[ins,gC]
theorem ald{o3:Bool}{op:Op}{eo:dG}(h:G5 P o3 op=some eo):eh P op=some eo\/∃t len parts e m z ps,op= .buildSlice t len parts/\P.underlying t=some (.slice e)/\fZ P e=some m/\qe P e=some z/\yz parts.toList=some ps/\m≠0/\z.length=m/\len*m<=2^24/\eo= .bsliceT e m len z ps:=by
 unfold G5 at h
 grind[bK]
theorem aoF{op:Op}{e e8:Nat}(h:eh P op=some (.allocS e e8)):op= .alloc e/\Lm P e=some e8:=by
 cases op with
 |alloc c7=>
  grind[eh,bK]
 |buildSlice t len parts=>
  simp[eh]at h;split at h
  . simp_all[bK]
  grind
 |build t parts=>
  simp[eh]at h;split at h
  . simp_all[bK]
  . grind[bK,bV]
  grind
 |call c=>
  simp[eh]at h;unfold uH at h
  repeat' (first|(split at h)|(done))
  all_goals simp only[bK,bV,gn,fa,reduceCtorEq,zb,L5,exists_const]at h
 |binOp op t x y yt=>
  simp only[eh]at h
  repeat' (first|(split at h)|(cases h;done))
  all_goals simp only[bK,bV,gn,fa,reduceCtorEq,zb,L5,exists_const]at h
 |unOp u t x=>
  cases u<;>simp only[eh]at h
  all_goals repeat' (first|(split at h)|(cases h;done))
  all_goals simp_all
 |makeMap t r=>cases r<;>simp only[eh,reduceCtorEq,gn,fa,zb]at h
 |lookup t x i c=>cases c<;>simp only[eh,reduceCtorEq,gn,bK,bV,zb,L5]at h
 |makeFunc fn first caps=>cases fn<;>simp only[eh,gn,bV,reduceCtorEq,zb,L5]at h
 |convert s d x=>
  simp only[eh]at h
  repeat' (first|(split at h)|(cases h;done))
  all_goals simp_all
 |_=>
  simp only[eh]at h
  try repeat' (first|(split at h)|(cases h;done))
  all_goals simp only[bK,bV,gn,QL,reduceCtorEq,zb,L5,exists_const]at h
theorem asH (R:Rel aG nt φ S env J n a w){o:Oper}{eo:dG}{o3:Bool}(ai:G5 P o3 o.op=some eo)
 {p v J'}(a':∀b,key<=b->b<key+16->n b=false)(h:a7 eo env J key=some (p,v,J'))(ar:p):Good P aG nt env J' (gC n key) a v ((execOp a.eval o).run P w):=by
 have hk:=a' _ (gP _) (by simp);rcases ald ai with ai|⟨t,len,parts,e,m,z,ps,eb,hu,hm,bq,iC,h1,aa,aA,rfl⟩
 . by_cases hs:∃e e8,eo= .allocS e e8
   . obtain⟨e,e8,rfl⟩:=hs;obtain⟨eb,Vl⟩:=aoF ai;refine(aqx R eb Vl hk (a' _ (by simp) (by simp)) h ar).mono λb ag=>?_
     grind[ins,gC]
   . exact(arL R ai (λe e8 he=>hs ⟨e,e8,he⟩) hk h ar).mono λb ag=>aci ag
 . exact(apG R eb hu hm bq iC h1 aa aA hk h ar).mono λb ag=>aci ag
end
def mj(P:Program)(f:Nat)(args:List V)(J:br)(key:Nat)(K:V->br->Prop):Prop:=
 ∀aG nt φ S env n a w,Rel aG nt φ S env J n a w->(∀b,key<=b->b<key+16->n b=false)->V.aP.V.e3 n args=true->∀vs:List Value,bk (cy φ w S) args vs->
  Calls P f vs.toArray w λe w'=>∃v r bB bC J',e= .returned v/\K r J'/\cy bB w' bC r v/\r.aP (gC n key)=true/\Rel aG nt bB bC env J' (gC n key) a w'
theorem mj.mono{P:Program}{f:Nat}{args:List V}{J:br}{key:Nat}{K afY:V->br->Prop}(h:mj P f args J key K)(hk:∀r J',K r J'->afY r J'):mj P f args J key afY:=
 λaG nt φ S env n a w R a' ag vs aF=>(h aG nt φ S _ n a w R a' ag vs aF).mono λe w' ⟨v,r,bB,bC,J',h1,aa,aA⟩=>⟨v,r,bB,bC,J',h1,hk _ _ aa,aA⟩
def jB(env:Env):Option (Nat×Bool)->Option Bool
 |none=>some true
 |some (t,b)=>match look env t with
  |some (g,.c (.t (.bool x)))=>some (g&&(x==b))
  |_=>none
def gh(env:Env)(dst:Option Nat)(g:Bool)(v:V):Env:=
 match dst with
 |none=>env
 |some d=>(d,g,v)::env
def Co(b:Bool):V:= .c (.t (.bool b))
def lu(P:Program)(o:cF)(key:Nat)(env:Env)(J:br)(K:Env->br->Prop):Prop:=
 match jB env o.guard with
 |none=>False
 |some g=>(g=false/\∃v,K (gh env o.dst g v) J)\/
  match o.op with
  |.call f args=>match l4 env args with
   |some (p,vs)=>match o.guard with
    |none=>p/\mj P f vs J key (λr J'=>K (gh env o.dst true r) J')
    |some _=>(g=true/\p/\mj P f vs J key (λr J'=>K (gh env o.dst true r) J'))\/∃r,(g=true->p/\mj P f vs J key (λfw J'=>fw=r/\J'=J))/\K (gh env o.dst g r) J
   |none=>False
  |.mV x args=>match x.get env,l4 env args with
   |some (q,.c (.fn f caps)),some (p,vs)=>o.guard=none/\kL P f=true/\q/\p/\mj P f (vs++caps.map (λb=>V.c (.ptr b 0))) J key (λr J'=>K (gh env o.dst true r) J')
   |_,_=>False
  |.eqNil neg x=>match x.get env with
   |some (p,.c (.t (.slice es)))=>o.guard=none/\p/\∀b:Bool,(es≠[]->b=false)->K (gh env o.dst true (Co (if neg then !b else b))) J
   |some (p,.c .aT)=>o.guard=none/\p/\∀b:Bool,K (gh env o.dst true (Co (if neg then !b else b))) J
   |some (p,.c (.arr _ _ _ l))=>o.guard=none/\p/\∀b:Bool,(l≠0->b=false)->K (gh env o.dst true (Co (if neg then !b else b))) J
   |_=>False
  |op=>match a7 op env J key with
   |some (p,v,J')=>(g=true->p)/\(op.neutral=true\/g=true)/\K (gh env o.dst g v) (if op.neutral then J else J')
   |none=>False
def q2(P:Program):List cF->Nat->Env->br->(Env->br->Prop)->Prop
 |[],_,env,J,K=>K env J
 |o::r,key,env,J,K=>lu P o key env J λenv' J'=>q2 P r (key+16) env' J' K
section
variable {P:Program}{aG:Ctx}{nt:Nat}{φ:ea}{S:dV}{env:Env}{J:br}{n:Nat->Bool}{key:Nat}{a:Act}{w:World}
theorem uL{dst:Option Nat}{g:Bool}{v:V}{k:Nat}:look (gh env dst g v) k=if dst=some k then some (g,v)else look env k:=by
 unfold gh
 grind[look]
theorem Rel.IY(R:Rel aG nt φ S env J n a w){dst:Option Nat}(av:∀d,dst=some d->d<nt){g:Bool}{x:Value}{v:V}(I:g=true->cy φ w S v x)(hu:g=false->x=undef)(ag:g=true->v.aP n=true):
 Rel aG nt φ S (gh env dst g v) J n (a.put dst x) w:=by
 have ain:∀k,(a.put dst x).tmps[k]?=if dst=some k then some x else a.tmps[k]?:=by
  cases dst with
  |none=>simp[Act.put]
  |some d=>
   have aV:d<a.tmps.size:=by rw[R.size];grind
   grind[Act.put]
 refine⟨R.b',λk mZ iI aj az=>?_,λk mZ iI aj az=>?_,λk mZ iI aj az=>?_,R.eX,?_,?_,R.ext,R.own,R.fix,R.j4⟩
 . rw[uL]at aj;rw[ain];split at aj
   . grind
   . rename_i h;rw[ah h];exact R.jE k mZ iI aj az
 . rw[uL]at aj;rw[ain];split at aj
   . grind
   . rename_i h;rw[ah h];exact R.kQ k mZ iI aj az
 . rw[uL]at aj;split at aj
   . grind
   . exact R.jD k mZ iI aj az
 . cases dst<;>simp[Act.put,R.size]
 . cases dst<;>simp[Act.put,R.defers]
theorem al3(R:Rel aG nt φ S env J n a w){ops:Array Oper}{o:Oper}{gd:Option (Nat×Bool)}(ai:Dc ops o.guard=some gd){g:Bool}(az:jB env gd=some g):Region.wanted o (yielded ops a.tmps)=g:=by
 unfold Region.wanted;cases aAj:o.guard with
 |none=>
  grind[Dc,jB]
 |some aFj=>
  rw[aAj]at ai;simp only[Dc,bV]at ai;obtain⟨d,av,rfl⟩:=ai;simp[jB]at az;split at az
  . rename_i mZ x aj;simp at az;subst az;simp[yielded,av];cases JL:mZ with
    |true=>
     obtain⟨y,ao,ai⟩:=R.jE d mZ _ aj JL;have:=ai.oX
     grind
    |false=>
     have:=R.kQ d mZ _ aj JL;simp only[this];rfl
  grind
def pz(aG:Ctx)(nt:Nat)(n:Nat->Bool)(K:Env->br->Prop)(a:Act)(w:World):Prop:=∃φ S env J,K env J/\Rel aG nt φ S env J n a w
theorem arM {f:Nat} (h:kL P f = true):∃ fn,P.funcs[f]? = some fn/\fn.body.isSome = true/\(fn.name == "runtime.NumGoroutine") = false:= by
 grind[kL]
theorem aqC{f:Nat}(h:kL P f=true)(args:Array Value)(w:World):(callFunc f args).run P w= .ok (.enter f args) w:=by
 obtain⟨fn,h1,aa,aA⟩:=arM h;obtain⟨c,ay⟩:=L'.1 aa;simp only[callFunc,Sem.run_bind,run_program,Result.andThen_ok,h1,aA,ay,dK,dB,Option.isNone_some,Sem.run_pure]
theorem KK{o:dG}(h:o.neutral=true){p v J'}(aC:a7 o env J key=some (p,v,J')):J'=J:=by
 cases o<;>simp[dG.neutral]at h<;>simp only[a7,bK,bV]at aC
 all_goals
  (try (obtain⟨a1,h1,aC⟩:=aC))
  (try (obtain⟨a2,aa,aC⟩:=aC))
  (try (obtain⟨a3,aA,aC⟩:=aC))
  (try split at aC)
  (try (simp_all;done))
 all_goals repeat' (first|(cases aC;done)|(cases aC;rfl)|(simp only[bV]at aC;obtain⟨_,_,_,_,rfl⟩:=aC;rfl)|split at aC)
theorem ak4{ops:Array Oper}{o:Oper}{eo:cF}(h:GZ P nt ops o=some eo):
 G5 P (am' ops o) o.op=some eo.op/\Dc ops o.guard=some eo.guard/\eo.dst=o.dst/\∀d,eo.dst=some d->d<nt:=by
 grind[GZ,bK]
theorem KA{o3:Bool}{op:Op}{eo:dG}(h:G5 P o3 op=some eo)(ag:∀e m l z ps,eo≠.bsliceT e m l z ps):eh P op=some eo:=by
 grind[ald]
theorem YU{ops:Array Oper}{o:Oper}{g:Option (Nat×Bool)}(h:Dc ops o.guard=some g)(az:g=none):o.guard=none:=by
 cases aO:o.guard with
 |none=>rfl
 |some x=>
  grind[Dc,bV]
theorem ZX{e:TypeId}{eo:dG}(h:eh P (.alloc e)=some eo)(h1:∀cs,eo≠.alloc cs)(aa:∀cs,eo≠.allocA cs)(aA:∀e e8,eo≠.allocS e e8):False:=by
 grind[eh,bK]
theorem ak0{op:Op}{f:Nat}{args:List ba}(h:eh P op=some (.call f args)):∃c,op= .call c/\uH P c=some (.call f args):=by
 cases op with
 |call c=>exact⟨c,rfl,h⟩
 |alloc e=>exfalso;exact ZX h (by simp) (by simp) (by simp)
 |makeMap t r=>cases r<;>simp[eh]at h
 |lookup t x i c=>cases c<;>simp[eh,bK]at h
 |unOp u t x=>
  cases u<;>simp[eh]at h
  all_goals (repeat' split at h)<;>(first|(done)|simp at h)
 |makeFunc fn b c=>cases fn<;>simp[eh]at h
 |_=>
  simp only[eh]at h
  (repeat' split at h)<;>(first|(cases h)|simp[bK,bV]at h)
theorem akT{op:Op}{x:ba}{args:List ba}(h:eh P op=some (.mV x args)):∃c,op= .call c/\uH P c=some (.mV x args):=by
 cases op with
 |call c=>exact⟨c,rfl,h⟩
 |alloc e=>exfalso;exact ZX h (by simp) (by simp) (by simp)
 |makeMap t r=>cases r<;>simp[eh]at h
 |lookup t x i c=>cases c<;>simp[eh,bK]at h
 |unOp u t x=>
  cases u<;>simp[eh]at h
  all_goals (repeat' split at h)<;>(first|(done)|simp at h)
 |makeFunc fn b c=>cases fn<;>simp[eh]at h
 |_=>
  simp only[eh]at h
  (repeat' split at h)<;>(first|(cases h)|simp[bK,bV]at h)
theorem ak1{c:Call}{f:Nat}{args:List ba}(h:uH P c=some (.call f args)):c.callee= .value (.func f)/\kL P f=true/\vf c.args.toList=some args:=by
 unfold uH at h
 (repeat' split at h)<;>simp[bK]at h
 grind
theorem akU{c:Call}{x:ba}{args:List ba}(h:uH P c=some (.mV x args)):∃t,x= .tmp t/\c.callee= .value (.tmp t)/\vf c.args.toList=some args:=by
 unfold uH at h
 (repeat' split at h)<;>simp[bK]at h
 grind
theorem aoS{op:Op}{neg:Bool}{x:ba}(h:eh P op=some (.eqNil neg x)):
 ∃uy t y z yt e,op= .binOp uy t y z yt/\(uy= .eql\/uy= .neq)/\neg=(uy== .neq)/\P.underlying t=some (.slice e)/\YS z=true/\b7 y=some x:=by
 cases op with
 |binOp uy t y z yt=>
  simp[eh]at h
  (repeat' split at h)<;>(try (done))<;>simp[bK,bV,reduceCtorEq,zb]at h
  grind
 |call c=>
  simp[eh]at h;unfold uH at h
  (repeat' split at h)<;>(first|(done)|simp[bK]at h)
 |alloc e=>exfalso;exact ZX h (by simp) (by simp) (by simp)
 |makeMap t r=>cases r<;>simp[eh]at h
 |lookup t x i c=>cases c<;>simp[eh,bK]at h
 |unOp u t x=>
  cases u<;>simp[eh]at h
  all_goals (repeat' split at h)<;>(first|(cases h;done)|simp at h)
 |makeFunc fn b c=>cases fn<;>simp[eh]at h
 |_=>
  simp only[eh]at h
  (repeat' split at h)<;>(first|(cases h;done)|simp[bK,bV]at h)
theorem CX{o:Oper}{c:Call}(aO:o.op= .call c){x:Operand}(ay:c.callee= .value x){f:Nat}{caps:List Value}(I:a.eval x= .func (.func f) #[] caps.toArray)(ag:kL P f=true):
 (execOp a.eval o).run P w= .ok (.enter f (c.args.toList.map a.eval++caps).toArray) w:=by
 have e:(c.args.map a.eval++caps.toArray)=(c.args.toList.map a.eval++caps).toArray:=by simp
 grind[execOp,Go.resolve,Deferred.ofValue,invoke,aqC]
theorem Calls.next {f:Nat}{args:Array Value}{key:Nat}{K:Env->br->Prop}{dst:Option Nat}{Q:Exit->Act->World->Prop}{o:Oper}(azv:dst=o.dst)(av:∀d,dst=some d->d<nt){g:Bool}(az:g=true){K2:V->br->Prop}
 (cq:∀r s,K2 r s->K (gh env dst g r) s)
 (h:Calls P f args w λe w'=>∃v r bB bC J',e= .returned v/\K2 r J'/\cy bB w' bC r v/\r.aP (gC n key)=true/\Rel aG nt bB bC env J' (gC n key) a w')
 (eQ:(execOp a.eval o).run P w= .ok (.enter f args) w):o.wp P a w (pz aG nt (gC n key) K) Q:=by
 unfold Oper.wp;rw[eQ];refine h.mono ?_
 rintro e w' ⟨v,r,bB,bC,J',rfl,h1,aa,aA,aU⟩
 subst azv;exact⟨bB,bC,_,J',cq _ _ h1,aU.IY av (λ_=>aa) (λh=>by grind) (λ_=>aA)⟩
theorem RH(R:Rel aG nt φ S env J n a w)(a':∀b,key<=b->b<key+16->n b=false){ops:Array Oper}{o:Oper}{eo:cF}(ai:GZ P nt ops o=some eo){K:Env->br->Prop}(h:lu P eo key env J K){Q:Exit->Act->World->Prop}:
 if Region.wanted o (yielded ops a.tmps)then o.wp P a w (pz aG nt (gC n key) K) Q else pz aG nt (gC n key) K (a.put o.dst undef) w:=by
 obtain⟨h1,aa,aA,aU⟩:=ak4 ai;unfold lu at h;split at h
 . grind
 . rename_i g az;have hw:=al3 R aa az;rw[hw];have aw0:∀{v:V} {s:br},K (gh env eo.dst g v) s->s=J->g=false->pz aG nt (gC n key) K (a.put o.dst undef) w:=by
    intro v s cq hs JM;subst hs;rw[<-aA];exact⟨φ,S,_,_,cq,(R.more λ_ h=>ti h).IY aU (λh=>by grind) (λ_=>rfl) (λh=>by grind)⟩
   rcases h with⟨JM,v,cq⟩|h
   . grind
   split at h
   ·
    rename_i f args eb;rw[eb]at h1;have azl:∃c,o.op= .call c/\c.callee= .value (.func f)/\kL P f=true/\vf c.args.toList=some args:=by
     obtain⟨c,ay,ai⟩:=ak0 (KA h1 (by simp))
     grind[ak1]
    obtain⟨c,pU,wP,ag,l5⟩:=azl;split at h
    . rename_i p vs hX;have eQ:∀w':World,(execOp a.eval o).run P w= .ok (.enter f (c.args.toList.map a.eval).toArray) w:=by
       have:=CX (P:=P) (w:=w) (a:=a) pU wP (f:=f) (caps:=[]) rfl ag
       grind
      split at h
      . have jG:g=true:=by grind[jB]
        subst jG;obtain⟨ar,fr⟩:=h;obtain⟨g1,g2⟩:=AS R l5 hX ar;exact Calls.next aA aU rfl (λ_ _ h=>h) (fr aG nt φ S env n a w R a' g2 _ g1) (eQ w)
      . rcases h with⟨jG,ar,fr⟩|⟨r,fr,cq⟩
        . subst jG;obtain⟨g1,g2⟩:=AS R l5 hX ar;exact Calls.next aA aU rfl (λ_ _ h=>h) (fr aG nt φ S env n a w R a' g2 _ g1) (eQ w)
        cases qG:g with
        |true=>
         obtain⟨ar,fr⟩:=fr qG;obtain⟨g1,g2⟩:=AS R l5 hX ar;refine Calls.next (K2:=λfw J'=>fw=r/\J'=J) aA aU qG (λfw s ab=>?_) (fr aG nt φ S env n a w R a' g2 _ g1) (eQ w)
         grind
        |false=>
         grind
    grind
   . rename_i x args eb;rw[eb]at h1;obtain⟨c,pU,ai⟩:=akT (KA h1 (by simp));obtain⟨t,rfl,wP,l5⟩:=akU ai;split at h
     . rename_i q f caps p vs cv hX;obtain⟨e',ag,aE,ar,fr⟩:=h;have jG:g=true:=by grind[jB]
       subst jG;obtain⟨g1,g2⟩:=AS R l5 hX ar;have I:=c4 (x:= .tmp t) R rfl cv aE;have Ka:=I.1.fy;have Vv:bk (cy φ w S) (caps.map λb=>V.c (.ptr b 0)) (caps.map λb=>Value.pointer (some ⟨(φ b).1,0,none⟩)):=by
        refine bk.rK (by simp) ?_;intro i v x h1 aa;simp only[BB,bV]at h1 aa;obtain⟨b,kU,rfl⟩:=h1;obtain⟨bI,jn,rfl⟩:=aa;rw[kU]at jn;cases jn;exact .c rfl
       have kl:V.aP.V.e3 n (vs++caps.map λb=>V.c (.ptr b 0))=true:=by
        grind[De,List.getElem?_append_left,uN,List.getElem?_append_right,bV,V.aP,C.aP,List.all_eq_true]
       exact Calls.next aA aU rfl (λ_ _ h=>h) (fr aG nt φ S env n a w R a' kl _ (g1.append Vv)) (CX pU wP Ka ag)
     grind
   . rename_i neg x eb;rw[eb]at h1;obtain⟨uy,ty,y,z,yt,e,jq,azk,rfl,hu,bq,ao⟩:=aoS (KA h1 (by simp));have aBh:∀(b:Bool) (cK:Option Addr) (l c:Nat),a.eval y= .slice cK l c->cK.isNone=b->(execOp a.eval o).run P w= .ok (.value (.bool (if(uy== .neq)then !b else b))) w:=by
      intro b cK l c aF ag;subst ag;obtain⟨aa6,aiM,AN⟩:∃aa6:Value,a.eval z=aa6/\aa6= .slice none 0 0:=by
       unfold YS at bq;split at bq
       . exact⟨_,rfl,rfl⟩
       grind
      subst AN;have wA:(eqGuard uy ty y z (a.eval y) (a.eval z)).run P w= .ok () w:=Zi (by grind) (by grind);have zY:(Op.equal ty (.slice cK l c) (.slice none 0 0)).run P w= .ok cK.isNone w:=by
       obtain⟨d,av⟩:∃d,Op.maxDepth=d+1:=⟨9999,rfl⟩
       unfold Op.equal;rw[av];unfold Op.equalIn;cases cK with
       |none=>simp only[Sem.run_bind,run_underlying hu,Result.andThen_ok];rfl
       |some cK=>simp only[Sem.run_bind,run_underlying hu,Result.andThen_ok];rfl
      have CD:(binOp uy ty (a.eval y) (a.eval z)).run P w= .ok (.bool (if(uy== .neq)then !cK.isNone else cK.isNone)) w:=by
       rcases azk with rfl|rfl
       . rw[aF,aiM];simp only[binOp,Sem.run_bind,zY];rfl
       . rw[aF,aiM];simp only[binOp,Sem.run_bind,zY];rfl
      simp[execOp,jq,wA,CD]
     have fin:∀ (b:Bool) (cK:Option Addr) (l c:Nat),o.guard = none->a.eval y = .slice cK l c->cK.isNone = b->K (gh env eo.dst true (Co (if (uy == .neq) then !b else b))) J->
      (if g=true then o.wp P a w (pz aG nt (gC n key) K) Q else pz aG nt (gC n key) K (a.put o.dst undef) w):=by
      intro b cK l c e' aF ag cq;have jG:g=true:=by
       have:Region.wanted o (yielded ops a.tmps)=true:=by simp[Region.wanted,e']
       grind
      rw[af jG];unfold Oper.wp;rw[aBh b cK l c aF ag];show pz aG nt (gC n key) K (a.put o.dst _) w;rw[<-aA];exact⟨φ,S,_,_,cq,(R.more λ_ h=>ti h).IY aU (λ_=>.xL _) (λh=>by cases h) (λ_=>rfl)⟩
     split at h
     . rename_i p es cv;obtain⟨e',ar,cq⟩:=h;obtain⟨cK,cap,sz,b,off,f,aF,_,_,_,b4,_⟩:=cl.pj (c4 R ao cv ar).1.fy;exact fin cK.isNone cK _ _ (YU aa e') aF rfl (cq _ λh=>by rw[b4 h];rfl)
     . rename_i p cv;obtain⟨e',ar,cq⟩:=h;obtain⟨cK,aF⟩:=(c4 R ao cv ar).1.fy;exact fin cK.isNone cK _ _ (YU aa e') aF rfl (cq _)
     . rename_i p b sz off l cv;obtain⟨e',ar,cq⟩:=h;obtain⟨cK,aF,aC,hle⟩:=bP.kd (c4 R ao cv ar).1.fy;exact fin cK.isNone cK _ _ (YU aa e') aF rfl (cq _ λh=>by rw[aC (by omega)];rfl)
     . exact h.elim
   . rename_i pU wP aEH;split at h
     . rename_i p v J' aC;obtain⟨ar,b4,cq⟩:=h;cases qG:g with
       |true=>
        simp only[dc];obtain⟨x,bB,bC,w',hres,k',iV,R'⟩:=asH R h1 a' aC (ar qG);have cQ:(if eo.op.neutral=true then J else J')=J':=by
         split
         . rename_i rA;exact(KK rA aC).symm
         . rfl
        rw[cQ]at cq;have fin:pz aG nt (gC n key) K (a.put o.dst x) w':=by
         rw[<-aA];exact⟨bB,bC,_,_,cq,R'.IY aU (λ_=>k') (λh=>by rw[qG]at h;cases h) (λ_=>iV)⟩
        unfold Oper.wp;rcases hres with hres|⟨hres,rfl⟩
        . rw[hres];exact fin
        . rw[hres];exact fin
       |false=>
        simp only[dK,dB];rcases b4 with b4|b4
        . rw[af b4]at cq;exact aw0 cq rfl qG
        . rw[qG]at b4;cases b4
     . exact h.elim
end
def lt(N:Nat):Nat->Bool:=λb=>decide (b<N)
theorem Tk{N b:Nat}(h:gC (lt N) N b=true):lt (N+16) b=true:=by
 grind[gC,lt]
theorem Lh{N b:Nat}(h:N<=b):lt N b=false:=by grind[lt]
theorem Sz{N M b:Nat}(h:N<=M)(ag:lt N b=true):lt M b=true:=by grind[lt]
section
variable {P:Program}{aG:Ctx}{nt kk:Nat}{φ:ea}{S:dV}{env:Env}{J:br}{N:Nat}{a:Act}{w:World}
theorem abl{ops:Array Oper}{Q:Exit->Act->World->Prop}{K:Env->br->Nat->Prop}:∀{l:List Oper} {bp:List cF} {k N:Nat} {env:Env} {J:br} {φ:ea} {S:dV} {a:Act} {w:World},kH P nt ops l=some bp->(∀i:Nat,i<l.length->l[i]?=ops[k+i]?)->
 Rel aG nt φ S env J (lt N) a w->q2 P bp N env J (λe s=>K e s (N+16*bp.length))->(∀φ S e s N a w,K e s N->Rel aG nt φ S e s (lt N) a w->Q .normal a w)->wpOps P ops Q (List.range' k l.length) a w
 |[],bp,k,N,env,J,φ,S,a,w,ai,ak,R,h,e1=>by
  simp[kH]at ai;subst ai;exact e1 _ _ _ _ _ _ _ h R
 |o::l,bp,k,N,env,J,φ,S,a,w,ai,ak,R,h,e1=>by
  simp[kH,bK,bV]at ai;obtain⟨eo,oq,q3,CG,rfl⟩:=ai;have aO:ops[k]?=some o:=by have:=ak 0 (by simp);grind
  rw[lf,QE,wpOps_cons];unfold wpOp;have hs:=RH R (λb h1 _=>Lh h1) oq (K:=λe s=>q2 P q3 (N+16) e s λe s=>K e s (N+16*(q3.length+1))) (by grind[q2]) (Q:=Q)
  have next:∀cx w',pz aG nt (gC (lt N) N) (λe s=>q2 P q3 (N+16) e s λe s=>K e s (N+16*(q3.length+1))) cx w'->wpOps P ops Q (List.range' (k+1) l.length) cx w':=by
   rintro cx w' ⟨bB,bC,e,s,cq,R'⟩
   refine abl CG (λi aV=>?_) (R'.more λ_ h=>Tk h) ?_ e1
   . have:=ak (i+1) (by grind)
     grind
   grind
  split at hs
  . grind[Oper.wp_mono]
  grind
def anf(P:Program)(nt kk:Nat)(c:Code)(env:Env)(J:br)(N:Nat)(Q:Exit->Env->br->Nat->Prop):Prop:=
 ∀aG φ S a w,aG.k=kk->Rel aG nt φ S env J (lt N) a w->c.wp P (λe cx w'=>∃bB bC env' J' N',Q e env' J' N'/\Rel aG nt bB bC env' J' (lt N') cx w') a w
def c9(P:Program)(nt kk:Nat)(c:eY)(env:Env)(J:br)(N:Nat)(Q:Exit->Env->br->Nat->Prop):Prop:=
 ∀code,resolve P nt code=some c->anf P nt kk code env J N Q
variable {Q vE:Exit->Env->br->Nat->Prop}
theorem c9.mono{c:eY}(h:c9 P nt kk c env J N Q)(aE:∀e env J N,Q e env J N->vE e env J N):c9 P nt kk c env J N vE:=
 λcode ay aG φ S a w ct R=>wp_mono (h _ ay aG φ S a w ct R) λe a w ⟨bB,bC,env',J',N',h1,aa⟩=>⟨bB,bC,env',J',N',aE _ _ _ _ h1,aa⟩
theorem c9.skip(h:Q .normal env J N):c9 P nt kk .skip env J N Q:=by
 intro code ay aG φ S a w ct R;cases code<;>simp[resolve,bK]at ay<;>(try (first|(cases ay;done)|(obtain⟨l,_,ay⟩:=ay;(repeat' split at ay)<;>cases ay)))
 grind[wp_skip]
theorem c9.ret(h:Q .ret env J N):c9 P nt kk .ret env J N Q:=by
 intro code ay aG φ S a w ct R;cases code<;>simp[resolve,bK]at ay<;>(try (first|(cases ay;done)|(obtain⟨l,_,ay⟩:=ay;(repeat' split at ay)<;>cases ay)))
 grind[wp_ret]
theorem c9.exit{id:Nat}(h:Q (.exit id) env J N):c9 P nt kk (.exit id) env J N Q:=by
 intro code ay aG φ S a w ct R;cases code<;>simp[resolve,bK]at ay<;>(try (first|(cases ay;done)|(obtain⟨l,_,ay⟩:=ay;(repeat' split at ay)<;>cases ay)))
 grind[wp_exit]
def andThen(next:Env->br->Nat->Prop)(Q:Exit->Env->br->Nat->Prop):Exit->Env->br->Nat->Prop
 |.normal,env,J,N=>next env J N
 |e,env,J,N=>Q e env J N
theorem arN{code:Code}{x y:eY}(h:resolve P nt code=some (.seq x y)):∃a b,code= .seq a b/\resolve P nt a=some x/\resolve P nt b=some y:=by
 cases code with
 |seq a b=>
  simp[resolve,bK,bV]at h
  grind
 |region id ops draw=>
  grind[resolve,bK]
 |_=>simp[resolve,bK,bV]at h
theorem aqD{code:Code}{c:ba}{x y:eY}(h:resolve P nt code=some (.cond c x y)):∃o a b,code= .cond o a b/\b7 o=some c/\resolve P nt a=some x/\resolve P nt b=some y:=by
 cases code with
 |cond o a b=>
  simp[resolve,bK,bV]at h
  grind
 |region id ops draw=>
  grind[resolve,bK]
 |_=>simp[resolve,bK,bV]at h
theorem aqW{code:Code}{id:Nat}{x:eY}(h:resolve P nt code=some (.block id x)):∃b,code= .block id b/\resolve P nt b=some x:=by
 cases code with
 |block i b=>
  grind[resolve,bV]
 |region id ops draw=>
  grind[resolve,bK]
 |_=>simp[resolve,bK]at h
theorem aqE{code:Code}{x:eY}(h:resolve P nt code=some (.loop x)):∃b,code= .loop b/\resolve P nt b=some x:=by
 cases code with
 |loop b=>
  grind[resolve,bV]
 |region id ops draw=>
  grind[resolve,bK]
 |_=>simp[resolve,bK]at h
theorem ale{code:Code}{bp:List cF}(h:resolve P nt code=some (.region bp)):∃id ops,code= .region id ops false/\kH P nt ops ops.toList=some bp:=by
 cases code with
 |region id ops draw=>
  grind[resolve,bK]
 |_=>grind[resolve,bK,bV]
theorem ak5{code:Code}{bp:List cF}{hg:List (Nat×Nat)}(h:resolve P nt code=some (.xc bp hg)):
 ∃id ops,code= .region id ops true/\kH P nt ops ops.toList=some bp/\DU (iz ops bp)=true/\P.follows .mixedOrders=true/\hg=Cs (iz ops bp):=by
 cases code with
 |region id ops draw=>
  grind[resolve,bK]
 |_=>grind[resolve,bK,bV]
theorem c9.seq{x y:eY}(h:c9 P nt kk x env J N (andThen (λenv J N=>c9 P nt kk y env J N Q) Q)):c9 P nt kk (.seq x y) env J N Q:=by
 intro code ay aG φ S a w ct R;obtain⟨E8,axF,rfl,I,ao⟩:=arN ay;refine wp_seq (wp_mono (h _ I aG φ S a w ct R) ?_)
 rintro e cx w' ⟨bB,bC,env',J',N',aE,R'⟩
 cases e with
 |normal=>exact aE _ ao aG _ bC cx w' ct R'
 |_=>exact⟨bB,bC,env',J',N',aE,R'⟩
theorem c9.cond{c:ba}{x y:eY}{p:Prop}{b:Bool}(ay:c.get env=some (p,Co b))(ar:p)(I:b=true->c9 P nt kk x env J N Q)(ao:b=false->c9 P nt kk y env J N Q):c9 P nt kk (.cond c x y) env J N Q:=by
 intro code JG aG φ S a w ct R;obtain⟨o,E8,axF,rfl,aO,hB,l'⟩:=aqD JG;have ag:=(c4 R aO ay ar).1.oX;refine wp_cond ag ?_;cases b with
 |true=>exact I rfl _ hB aG φ S a w ct R
 |false=>exact ao rfl _ l' aG φ S a w ct R
def inBlock(id:Nat)(Q:Exit->Env->br->Nat->Prop):Exit->Env->br->Nat->Prop
 |.exit i,env,J,N=>if i=id then Q .normal env J N else Q (.exit i) env J N
 |e,env,J,N=>Q e env J N
theorem c9.block{id:Nat}{x:eY}(h:c9 P nt kk x env J N (inBlock id Q)):c9 P nt kk (.block id x) env J N Q:=by
 intro code ay aG φ S a w ct R;obtain⟨b,rfl,ag⟩:=aqW ay;refine wp_block (wp_mono (h _ ag aG φ S a w ct R) ?_)
 rintro e cx w' ⟨bB,bC,env',J',N',aE,R'⟩
 cases e with
 |exit i=>
  grind[inBlock,Exit.inBlock]
 |_=>exact⟨bB,bC,env',J',N',aE,R'⟩
theorem c9.region{bp:List cF}(h:q2 P bp N env J (λe s=>Q .normal e s (N+16*bp.length))):c9 P nt kk (.region bp) env J N Q:=by
 intro code ay aG φ S a w ct R;obtain⟨id,ops,rfl,ai⟩:=ale ay;refine wp_region ?_;have:=abl (Q:=λe cx w'=>∃bB bC env' J' N',Q e env' J' N'/\Rel aG nt bB bC env' J' (lt N') cx w') (k:=0) ai (λi ak=>by simp) R h
  (λφ S e s N a w cq fG=>⟨φ,S,e,s,N,cq,fG⟩)
 grind[List.range_eq_range']
end
def pos:List Nat->Nat->Option Nat
 |[],_=>none
 |x::r,b=>if x=b then some 0 else(pos r b).map (· +1)
theorem wz:∀{bs:List Nat} {b i:Nat},pos bs b=some i->bs[i]?=some b
 |[],b,i,h=>by grind[pos]
 |x::r,b,i,h=>by
  unfold pos at h;split at h
  . grind
  . simp at h;obtain⟨j,aM,rfl⟩:=h
    simpa using wz aM
def yl(bs:List Nat):List Nat->Option (List Nat)
 |[]=>some []
 |c::r=>match pos bs c,yl bs r with
  |some i,some l=>some (i::l)
  |_,_=>none
def C.cu(bs:List Nat):C->C
 |.t x=>.t x
 |.ptr b o=>match pos bs b with|some i=>.ptr i o|none=>.dead
 |.dw b sz i o=>match pos bs b with|some j=>.dw j sz i o|none=>.dead
 |.ft ts o=>.ft ts o
 |.arr b sz off len=>match pos bs b with|some i=>.arr i sz off len|none=>.dead
 |.je b sz off len=>match pos bs b with|some i=>.je i sz off len|none=>.dead
 |.mp b=>match pos bs b with|some i=>.mp i|none=>.dead
 |.gw b=>match pos bs b with|some i=>.gw i|none=>.dead
 |.df b len=>match pos bs b with|some i=>.df i len|none=>.dead
 |.aT=>.aT
 |.hE=>.hE
 |.hD=>.hD
 |.fn f caps=>match yl bs caps with|some l=>.fn f l|none=>.dead
 |.dead=>.dead
def V.cu(bs:List Nat):V->V
 |.c x=>.c (x.cu bs)
 |.agg cs=>.agg (cs.map (C.cu bs))
 |.bn vs=>.bn (go bs vs)
where go (bs:List Nat):List V->List V
 |[]=>[]
 |v::vs=>v.cu bs::go bs vs
def ck.cu(bs:List Nat):ck->ck
 |.box cs=>.box (cs.map (C.cu bs))
 |.arr sz es=>.arr sz es
 |.set ks=>.set ks
 |.buf E s=>.buf E s
 |.cL E c=>.cL E (c.cu bs)
 |.dr sz es i o c=>.dr sz es i o (c.cu bs)
def wC(bs:List Nat)(env:Env):List Nat->Env
 |[]=>[]
 |k::ks=>match look env k with
  |some (g,v)=>(k,g,v.cu bs)::wC bs env ks
  |none=>wC bs env ks
def iR(bs:List Nat)(J:br):Nat->List Nat->br
 |_,[]=>[]
 |i,b::r=>match bf J b with
  |some x=>(i,x.cu bs)::iR bs J (i+1) r
  |none=>iR bs J (i+1) r
def keeps(k:Nat)(bs:List Nat):Bool:=(List.range k).all λi=>bs[i]?==some i
section
variable {P:Program}{aG:Ctx}{nt kk:Nat}{φ:ea}{S:dV}{env:Env}{J:br}{N:Nat}{n:Nat->Bool}{a:Act}{w:World}
theorem YV:∀{bs caps l:List Nat},yl bs caps=some l->caps.length=l.length/\∀(i b j:Nat),caps[i]?=some b->l[i]?=some j->bs[j]?=some b
 |bs,[],l,h=>by grind[yl]
 |bs,c::r,l,h=>by
  unfold yl at h;split at h
  . rename_i j fm aM aj;obtain⟨h1,aa⟩:=YV aj
    grind[wz]
  grind
theorem bP.cu{bB:ea}{bs:List Nat}(fQ:∀(i:Nat) b,bs[i]?=some b->bB i=φ b){c:C}{v:Value}(h:bP φ w S c v):bP bB w S (c.cu bs) v:=by
 have aO:=bP.oy h;cases c with
 |ptr b o=>
  grind[C.cu,bP,wz]
 |dw b sz i o=>
  grind[C.cu,bP,wz]
 |arr b sz off len=>
  grind[C.cu,bP,wz]
 |je b sz off len=>
  grind[C.cu,bP,wz]
 |mp b=>
  grind[C.cu,bP,wz]
 |gw b=>
  grind[C.cu,bP,wz]
 |df b len=>
  grind[C.cu,bP,wz]
 |fn f caps=>
  simp[C.cu];split
  . rename_i l aj;obtain⟨h1,aa⟩:=YV aj;rw[h]
    congr 2
    apply W2 (by grind);intro i PR AB;simp at PR AB;simp;rw[fQ _ _ (aa i _ _ (gQ PR) (gQ AB))]
  . exact aO
 |_=>exact h
theorem RI{bs:List Nat}:∀{vs:List V} {i:Nat},(V.cu.go bs vs)[i]?=(vs[i]?).map (V.cu bs)
 |[],i=>by rfl
 |v::vs,0=>by rfl
 |v::vs,i+1=>by simp[V.cu.go,RI]
theorem Rc{bs:List Nat}:∀{vs:List V},(V.cu.go bs vs).length=vs.length
 |[]=>rfl
 |v::vs=>by simp[V.cu.go,Rc]
theorem bk.y'{α β jL:Type}{R:α->β->Prop}{R':jL->β->Prop}{f:α->jL}{l:List α}{m:List β}(h:bk R l m)(k:∀a b,R a b->R' (f a) b):bk R' (l.map f) m:=by
 induction h with
 |nil=>exact .nil
 |cons j0 _ ih=>exact .cons (k _ _ j0) ih
theorem cy.cu{bB:ea}{bs:List Nat}(fQ:∀(i:Nat) b,bs[i]?=some b->bB i=φ b){v:V}{x:Value}(h:cy φ w S v x):cy bB w S (v.cu bs) x:=by
 induction h with
 |c h=>exact .c (bP.cu fQ h)
 |agg h=>exact .agg (h.y' λ_ _=>bP.cu fQ)
 |bn vs xs aj h ih=>
  refine .bn _ xs (by grind[Rc]) ?_
  grind[RI]
theorem DW{bs:List Nat}{b i:Nat}(h:pos bs b=some i):i<bs.length:=(fv.1 (wz h)).1
theorem C.p7{bs:List Nat}(c:C):(c.cu bs).aP (lt bs.length)=true:=by
 cases c with
 |ptr b o=>grind[C.cu,C.aP,lt,DW]
 |dw b sz i o=>grind[C.cu,C.aP,lt,DW]
 |arr b sz off len=>grind[C.cu,C.aP,lt,DW]
 |je b sz off len=>grind[C.cu,C.aP,lt,DW]
 |mp b=>grind[C.cu,C.aP,lt,DW]
 |gw b=>grind[C.cu,C.aP,lt,DW]
 |df b len=>grind[C.cu,C.aP,lt,DW]
 |fn f caps=>
  simp[C.cu];split
  . rename_i l aj;obtain⟨h1,aa⟩:=YV aj;simp[C.aP,lt];intro j aM;obtain⟨i,ak,rfl⟩:=la aM;exact(fv.1 (aa i _ _ (gQ (by omega)) (gQ ak))).1
  rfl
 |_=>rfl
theorem V.p7{bs:List Nat}:∀(v:V),(v.cu bs).aP (lt bs.length)=true
 |.c x=>by grind[V.cu,V.aP,C.p7]
 |.agg cs=>by grind[V.cu,V.aP,C.p7]
 |.bn vs=>by exact go vs
where go:∀vs,V.aP.V.e3 _ (V.cu.go bs vs)=true
 |[]=>rfl
 |v::vs=>by simp[V.cu.go,V.aP.V.e3,dM];exact⟨V.p7 v,go vs⟩
theorem K8{bs:List Nat}:∀{ks:List Nat} {k:Nat} {g:Bool} {v:V},look (wC bs env ks) k=some (g,v)->∃v0,look env k=some (g,v0)/\v=v0.cu bs
 |[],k,g,v,h=>by grind[wC,look]
 |x::ks,k,g,v,h=>by
  unfold wC at h;split at h
  . unfold look at h;split at h
    . grind
    . exact K8 h
  . exact K8 h
theorem yx{bs:List Nat}:∀{r:List Nat} {i:Nat} {b:Nat} {x:ck},bf (iR bs J i r) b=some x->∃j c aw,b=i+j/\r[j]?=some c/\bf J c=some aw/\x=aw.cu bs
 |[],i,b,x,h=>by grind[iR,bf]
 |c::r,i,b,x,h=>by
  unfold iR at h;split at h
  . unfold bf at h;split at h
    . simp_all
    . obtain⟨j,eE,pq,h1,aa,aA,aU⟩:=yx h;exact⟨j+1,eE,pq,by omega,by grind,aA,aU⟩
  . obtain⟨j,eE,pq,h1,aa,aA,aU⟩:=yx h;exact⟨j+1,eE,pq,by omega,by grind,aA,aU⟩
theorem dU.cu{bB:ea}{bs:List Nat}(fQ:∀(i:Nat) b,bs[i]?=some b->bB i=φ b){i b:Nat}(ak:bs[i]?=some b){x:ck}(h:dU φ w S b x):dU bB w S i (x.cu bs):=by
 cases x with
 |box cs=>
  obtain⟨h0,vs,E,h1,aa,aA⟩:=h;simp only[dU,fQ i b ak];exact⟨h0,vs,E,h1,aa.y' λ_ _=>bP.cu fQ,aA⟩
 |arr sz es=>simp only[dU,fQ i b ak];exact h
 |set ks=>simp only[dU,fQ i b ak];exact h
 |buf E s=>grind[ck.cu,dU]
 |cL E c=>
  grind[ck.cu,dU,bP.cu]
 |dr sz es i o c=>
  grind[ck.cu,dU,bP.cu]
theorem Rel.tidy(R:Rel aG nt φ S env J (lt N) a w)(ks bs:List Nat)(cC:bs.Nodup)(hk:keeps aG.k bs=true):
 ∃bB,Rel aG nt bB S (wC bs env ks) (iR bs J 0 bs) (lt bs.length) a w:=by
 have fQ:∀(i:Nat) b,bs[i]?=some b->(λi=>φ ((bs[i]?).getD 0)) i=φ b:=by grind
 have ah0:∀i:Nat,i<aG.k->bs[i]?=some i:=by
  simp_all[keeps,ik,List.mem_range,nV]
 refine⟨λi=>φ ((bs[i]?).getD 0),⟨⟨λb x I=>?_,λb bI x y I ao b4 h0 fF=>?_,R.b'.st⟩,λk g v aj az=>?_,λk g v aj az=>?_,λk g v aj az=>?_,λb x I=>?_,R.size,R.defers,R.ext,λb x I h0=>?_,λb ag=>?_,λb ag=>?_⟩⟩
 . obtain⟨j,c,aw,rfl,aa,aA,rfl⟩:=yx I;rw[kt];exact dU.cu fQ aa (R.b'.blk c aw aA)
 . obtain⟨j,c,aw,rfl,aa,aA,rfl⟩:=yx I;obtain⟨Bt,eE,pq,rfl,tv,Fx,rfl⟩:=yx ao;simp only[kt,aa,tv]at h0 fF⊢;refine R.b'.inj c eE aw pq aA Fx ?_ h0 fF
   grind[List.getElem?_eq_some_iff,List.pairwise_iff_getElem,Nat.lt_trichotomy]
 . obtain⟨v0,h1,rfl⟩:=K8 aj;obtain⟨x,I,ai⟩:=R.jE k g v0 h1 az
   grind[cy.cu]
 . obtain⟨v0,h1,rfl⟩:=K8 aj;exact R.kQ k g v0 h1 az
 . grind[K8,V.p7]
 . obtain⟨j,c,aw,rfl,aa,aA,rfl⟩:=yx I;refine⟨by grind[lt,List.getElem?_eq_some_iff],?_⟩;cases aw with
   |box cs=>grind[ck.cu,ck.aP,List.all_map,List.all_eq_true,C.p7]
   |arr sz es=>rfl
   |set ks=>rfl
   |buf E s=>rfl
   |cL E c=>exact C.p7 c
   |dr sz es i o c=>exact C.p7 c
 . obtain⟨j,c,aw,rfl,aa,aA,rfl⟩:=yx I;simp only[kt,aa]at h0⊢;exact R.own c aw aA h0
 . simp only[ah0 b ag,QF];exact R.fix b ag
 . simp only[lt,ij];grind
theorem c9.tidy{c:eY}{Q:Exit->Env->br->Nat->Prop}(ks bs:List Nat)(cC:bs.Nodup)(hk:keeps kk bs=true)(h:c9 P nt kk c (wC bs env ks) (iR bs J 0 bs) bs.length Q):c9 P nt kk c env J N Q:=by
 intro code ay aG φ S a w ct R;subst ct;obtain⟨bB,R'⟩:=R.tidy ks bs cC hk;exact h _ ay aG _ S a w rfl R'
end
def cut(es:List (List T))(off len:Nat):List (List T):=if off=0/\len=es.length then es else(es.drop off).take len
def C.c2(b0 e2:Nat)(es:List (List T)):C->C
 |.arr b sz off len=>if b=b0 then(if sz=e2/\off+len<=es.length then .t (.slice (cut es off len))else .dead)else .arr b sz off len
 |.dw b sz i o=>if b=b0 then .dead else .dw b sz i o
 |c=>c
def V.c2(b0 e2:Nat)(es:List (List T)):V->V
 |.c x=>.c (x.c2 b0 e2 es)
 |.agg cs=>.agg (cs.map (C.c2 b0 e2 es))
 |.bn vs=>.bn (go b0 e2 es vs)
where go (b0 e2:Nat) (es:List (List T)):List V->List V
 |[]=>[]
 |v::vs=>v.c2 b0 e2 es::go b0 e2 es vs
def ck.c2(b0 e2:Nat)(es:List (List T)):ck->ck
 |.box cs=>.box (cs.map (C.c2 b0 e2 es))
 |.arr sz l=>.arr sz l
 |.set ks=>.set ks
 |.buf E s=>.buf E s
 |.cL E c=>.cL E (c.c2 b0 e2 es)
 |.dr sz l i o c=>.dr sz l i o (c.c2 b0 e2 es)
def A'(b0 e2:Nat)(es:List (List T)):Env->Env
 |[]=>[]
 |(k,g,v)::r=>(k,g,v.c2 b0 e2 es)::A' b0 e2 es r
def uZ(b0 e2:Nat)(es:List (List T)):br->br
 |[]=>[]
 |(k,x)::r=>if k=b0 then uZ b0 e2 es r else(k,x.c2 b0 e2 es)::uZ b0 e2 es r
section
variable {P:Program}{aG:Ctx}{nt kk:Nat}{φ:ea}{S:dV}{env:Env}{J:br}{N:Nat}{n:Nat->Bool}{a:Act}{w:World}
theorem Li{b0 e2:Nat}{es:List (List T)}:∀{env:Env} {k:Nat},look (A' b0 e2 es env) k=(look env k).map λx=>(x.1,x.2.c2 b0 e2 es)
 |[],k=>rfl
 |(i,g,v)::r,k=>by
  simp[A',look];split
  . rfl
  . exact Li
theorem Sj{b0 e2:Nat}{es:List (List T)}:∀{J:br} {k:Nat},bf (uZ b0 e2 es J) k=if k=b0 then none else(bf J k).map (ck.c2 b0 e2 es)
 |[],k=>by simp[uZ,bf]
 |(i,x)::r,k=>by
  simp[uZ,bf];by_cases h:i=b0
  . rw[af h,Sj]
    grind
  . rw[ah h];simp[bf];by_cases aa:i=k
    . grind
    . rw[ah aa,ah aa,Sj]
def Gt(S:dV)(q:Nat×Nat):dV:=λb j=>S b j\/(q.2≠0/\b=q.1)
theorem auN{es:List (List T)}{off len:Nat}{e:List T}(h:e∈cut es off len):e∈es:=by
 grind[cut]
theorem auO{es:List (List T)}{off len i:Nat}{e:List T}(hle:off+len<=es.length)(h:(cut es off len)[i]?=some e):es[off+i]?=some e/\i<len:=by
 grind[cut]
theorem asI{es:List (List T)}{off len:Nat}(hle:off+len<=es.length):(cut es off len).length=len:=by
 grind[cut]
theorem bP.c2{b0 e2:Nat}{es:List (List T)}(eF:dU φ w S b0 (.arr e2 es)){c:C}{v:Value}(h:bP φ w S c v):bP φ w (Gt S (φ b0)) (c.c2 b0 e2 es) v:=by
 have m:jV w S w (Gt S (φ b0)):=⟨λ_ _ h=>.inl h,λ_ _ _=>rfl⟩
 have aO:=bP.oy h;cases c with
 |arr b sz off len=>
  simp[C.c2];by_cases ag:b=b0
  . subst ag;rw[af rfl];split
    . rename_i ay;obtain⟨rfl,hle⟩:=ay;obtain⟨h1,aa,aA,aU,bN⟩:=eF;obtain⟨cK,rfl,aC,aEO⟩:=bP.kd h;have aj:=asI hle;have aR:Value.slice cK len ((φ b).2-off)=Value.slice cK (cut es off len).length ((φ b).2-off):=by grind
      rw[aR];by_cases h0:(φ b).2=0
      . have:cut es off len=[]:=rF (by omega);rw[this];exact cl.slice [] _ _ 0 0 0 (λ_ _=>undef) (by simp) (by simp) (by simp) (by simp) (by simp) (by simp)
      . obtain⟨vs,E,ab,ou,ai,hs⟩:=bN h0;refine cl.slice _ _ _ sz _ _ (λi j=>(vs.getD ((off+i)*sz+j) undef)) (by omega) (by omega) (λe he=>aA e (auN he)) (λ_=>aC h0) ?_ ?_
        . intro i j ak aM;refine⟨.inr ⟨h0,rfl⟩,?_⟩;rw[nB ab];have aV:(off+i)*sz+j<vs.length:=by
           have:=hj sz (show off+i+1<=(φ b).2 by omega)
           grind
          grind
        . intro i j e t he ht;obtain⟨VC,ak⟩:=auO hle he;obtain⟨v,aF,u6⟩:=ai _ _ _ _ VC ht;simp[List.getD,aF];exact cl.mono m u6
    . exact aO
  . rw[ah ag];exact bP.mono m (λ_ _=>rfl) (C.ux _) h
 |dw b sz i o=>
  simp[C.c2];split
  . exact aO
  . exact h
 |_=>exact bP.mono m (λ_ _=>rfl) (C.ux _) h
theorem YW{b0 e2:Nat}{es:List (List T)}:∀{vs:List V} {i:Nat},(V.c2.go b0 e2 es vs)[i]?=(vs[i]?).map (V.c2 b0 e2 es)
 |[],i=>by rfl
 |v::vs,0=>by rfl
 |v::vs,i+1=>by simp[V.c2.go,YW]
theorem X9{b0 e2:Nat}{es:List (List T)}:∀{vs:List V},(V.c2.go b0 e2 es vs).length=vs.length
 |[]=>rfl
 |v::vs=>by simp[V.c2.go,X9]
theorem cy.c2{b0 e2:Nat}{es:List (List T)}(eF:dU φ w S b0 (.arr e2 es)){v:V}{x:Value}(h:cy φ w S v x):cy φ w (Gt S (φ b0)) (v.c2 b0 e2 es) x:=by
 induction h with
 |c h=>exact .c (bP.c2 eF h)
 |agg h=>exact .agg (h.y' λ_ _=>bP.c2 eF)
 |bn vs xs aj h ih=>
  refine .bn _ xs (by grind[X9]) ?_
  grind[YW]
theorem C.z8{b0 e2:Nat}{es:List (List T)}{c:C}(h:c.aP n=true):(c.c2 b0 e2 es).aP n=true:=by
 cases c with
 |arr b sz off len=>simp[C.c2];split;split;rfl;rfl;grind
 |dw b sz i o=>simp[C.c2];split;rfl;grind
 |_=>exact h
theorem V.z8{b0 e2:Nat}{es:List (List T)}:∀{v:V},v.aP n=true->(v.c2 b0 e2 es).aP n=true
 |.c x,h=>by grind[V.c2,V.aP,C.z8]
 |.agg cs,h=>by grind[V.c2,V.aP,C.z8]
 |.bn vs,h=>by exact go vs h
where go:∀vs,V.aP.V.e3 n vs=true->V.aP.V.e3 n (V.c2.go b0 e2 es vs)=true
 |[],_=>rfl
 |v::vs,h=>by simp[V.c2.go,V.aP.V.e3,dM]at h⊢;exact⟨V.z8 h.1,go vs h.2⟩
theorem Rel.freeze(R:Rel aG nt φ S env J n a w){b0 e2:Nat}{es:List (List T)}(cQ:bf J b0=some (.arr e2 es)):
 Rel aG nt φ (Gt S (φ b0)) (A' b0 e2 es env) (uZ b0 e2 es J) n a w:=by
 have eF:=R.b'.blk b0 _ cQ;have m:jV w S w (Gt S (φ b0)):=⟨λ_ _ h=>.inl h,λ_ _ _=>rfl⟩
 have j3:∀b x,bf (uZ b0 e2 es J) b=some x->b≠b0/\∃aw,bf J b=some aw/\x=aw.c2 b0 e2 es:=by
  grind[Sj,bV]
 have JW:∀b x,b≠b0->bf J b=some x->(φ b).2≠0->∀j,¬Gt S (φ b0) (φ b).1 j:=by
  intro b x b4 I h0 j aM;rcases aM with aM|⟨JP,aM⟩
  . exact(R.b'.blk b x I).za h0 j aM
  . exact R.b'.inj b b0 x _ I cQ b4 h0 JP aM
 refine⟨⟨λb x I=>?_,λb bI x y I ao b4 h0 fF=>?_,λb j aM=>?_⟩,λk g v aj az=>?_,λk g v aj az=>?_,λk g v aj az=>?_,λb x I=>?_,R.size,R.defers,?_,λb x I h0=>?_,R.fix,R.j4⟩
 . obtain⟨b4,aw,jr,rfl⟩:=j3 b x I;have fG:=R.b'.blk b aw jr;cases aw with
   |box cs=>
    obtain⟨h0,vs,E,h1,aa,aA⟩:=fG;exact⟨h0,vs,E,h1,aa.y' λ_ _=>bP.c2 eF,JW b _ b4 jr h0⟩
   |arr sz l=>
    obtain⟨h1,aa,aA,aU,bN⟩:=fG;refine⟨h1,aa,aA,aU,λh0=>?_⟩
    grind[cl.mono]
   |set ks=>exact⟨fG.1,fG.2.1,JW b _ b4 jr fG.1⟩
   |buf E s=>exact⟨fG.1,fG.2.1,λh0=>⟨(fG.2.2 h0).1,JW b _ b4 jr h0⟩⟩
   |cL E c=>
    obtain⟨h0,⟨p,v,h1,aa,aA⟩,aU⟩:=fG;exact⟨h0,⟨p,v,h1,aa,bP.c2 eF aA⟩,JW b _ b4 jr h0⟩
   |dr sz l i o c=>
    obtain⟨⟨h1,aa,aA,aU,bN,dO⟩,⟨vs,E,k1,k2,k3,v,k4,k5⟩,k6⟩:=fG;exact⟨⟨h1,aa,aA,aU,bN,dO⟩,⟨vs,E,k1,k2,λi j e t he ht a'=>let⟨v,aF,ai⟩:=k3 i j e t he ht a';⟨v,aF,cl.mono m ai⟩,v,k4,bP.c2 eF k5⟩,JW b _ b4 jr (by omega)⟩
 . obtain⟨_,aw,jr,rfl⟩:=j3 b x I;obtain⟨_,pt,AM,rfl⟩:=j3 bI y ao;exact R.b'.inj b bI aw pt jr AM b4 h0 fF
 . rcases aM with aM|⟨JP,rfl⟩
   . exact R.b'.st b j aM
   . exact eF.pg JP
 . rw[Li,bV]at aj;obtain⟨⟨g0,v0⟩,l8,he⟩:=aj;cases he;obtain⟨x,I,ai⟩:=R.jE k g0 v0 l8 az
   grind[cy.c2]
 . rw[Li,bV]at aj;obtain⟨⟨g0,v0⟩,l8,he⟩:=aj;cases he;exact R.kQ k g0 v0 l8 az
 . rw[Li,bV]at aj;obtain⟨⟨g0,v0⟩,l8,he⟩:=aj;cases he;exact V.z8 (R.jD k g0 v0 l8 az)
 . obtain⟨_,aw,jr,rfl⟩:=j3 b x I;refine⟨(R.eX b aw jr).1,?_⟩;have:=(R.eX b aw jr).2;cases aw with
   |box cs=>grind[ck.c2,ck.aP,List.all_map,List.all_eq_true,C.z8]
   |arr sz l=>rfl
   |set ks=>rfl
   |buf E s=>rfl
   |cL E c=>grind[ck.c2,ck.aP,C.z8]
   |dr sz l i o c=>grind[ck.c2,ck.aP,C.z8]
 . refine⟨R.ext.os,R.ext.tape,R.ext.output,R.ext.size,R.ext.block,R.ext.mono.trans m,λb j aM=>?_⟩;rcases aM with aM|⟨JP,rfl⟩
   . exact R.ext.rO b j aM
   . rcases R.own b0 _ cQ JP with h|h
     all_goals grind
 . obtain⟨_,aw,jr,rfl⟩:=j3 b x I;exact R.own b aw jr h0
theorem c9.freeze{c:eY}{Q:Exit->Env->br->Nat->Prop}(b0:Nat){e2:Nat}{es:List (List T)}(cQ:bf J b0=some (.arr e2 es))(h:c9 P nt kk c (A' b0 e2 es env) (uZ b0 e2 es J) N Q):c9 P nt kk c env J N Q:=by
 intro code ay aG φ S a w ct R;exact h _ ay aG φ _ a w ct (R.freeze cQ)
inductive oI where
 |tmp (t:Nat)
 |cell (t:Nat)(agg:Bool)(n:Nat)
def mP(P:Program):List ResultVar->Option (List oI)
 |[]=>some []
 |.tmp t::r=>(mP P r).map (.tmp t::·)
 |.cell a ty::r=>(uY P ty).bind λg=>(mP P r).map (.cell a g.1 g.2::·)
def DX(env:Env)(J:br):oI->Option (Prop×V)
 |.tmp t=>(look env t).map λx=>(x.1=true,x.2)
 |.cell t g k=>match look env t with
  |some (g0,.c (.ptr b o))=>match bf J b with
   |some (.box cs)=>(pb g k cs o).map λv=>(g0=true,v)
   |_=>none
  |_=>none
def ym(env:Env)(J:br):List oI->Option (Prop×List V)
 |[]=>some (True,[])
 |r::rs=>(DX env J r).bind λx=>(ym env J rs).map λy=>(x.1/\y.1,x.2::y.2)
def tQ:List V->V
 |[v]=>v
 |vs=>.bn vs
def gf(P:Program)(f:Nat)(args:List V)(J:br)(k:Nat)(Q:V->br->Nat->Prop):Prop:=
 ∀(φ:ea) (S:dV) (w:World) (B:Nat->Prop),xA φ w S J->(∀(b:Nat) x,bf J b=some x->b<k/\x.aP (lt k)=true)->(∀(b:Nat) x,bf J b=some x->(φ b).2≠0->B (φ b).1)->
  V.aP.V.e3 (lt k) args=true->∀vs:List Value,bk (cy φ w S) args vs->
  Calls P f vs.toArray w λe w'=>∃v r bB bC J' N',e= .returned v/\Q r J' N'/\cy bB w' bC r v/\r.aP (lt N')=true/\xA bB w' bC J'/\(∀(b:Nat) x,bf J' b=some x->b<N'/\x.aP (lt N')=true)/\Ext B S bC w w'/\
   (∀(b:Nat) x,bf J' b=some x->(bB b).2≠0->B (bB b).1\/w.heap.size<=(bB b).1)/\∀b,b<k->bB b=φ b
theorem Ext.refl{B:Nat->Prop}:Ext B S S w w:=⟨rfl,rfl,rfl,gP _,λ_ _ _=>rfl,jV.refl _ _,λ_ _ h=>.inl h⟩
def ie:Nat->List V->Env
 |_,[]=>[]
 |i,v::vs=>(i,true,v)::ie (i+1) vs
theorem Dm:∀{vs:List V} {i k:Nat} {g:Bool} {v:V},look (ie i vs) k=some (g,v)->g=true/\∃j,k=i+j/\vs[j]?=some v
 |[],i,k,g,v,h=>by grind[ie,look]
 |x::vs,i,k,g,v,h=>by
  simp[ie,look]at h;split at h
  . simp_all
  . obtain⟨h1,j,aa,aA⟩:=Dm h;exact⟨h1,j+1,by omega,by grind⟩
def En(a:Act):ResultVar->Sem Value
 |.tmp t=>Pure.pure (a.tmps.getD t undef)
 |.cell cK ty=>do loadVar ty (<-asAddr (a.tmps.getD cK undef))
theorem YX(fn:Func)(a:Act):results fn a.tmps=(fn.results.mapM (En a)>>=λvs=>Pure.pure (if h:vs.size=1 then vs[0]else .tuple vs)):=by rfl
theorem aqF(R:Rel aG nt φ S env J n a w){xe:ResultVar}{vK:oI}(ai:mP P [xe]=some [vK]){p:Prop}{v:V}(h:DX env J vK=some (p,v))(ar:p):
 ∃x,(En a xe).run P w= .ok x w/\cy φ w S v x/\v.aP n=true:=by
 cases xe with
 |tmp t=>
  simp[mP]at ai;subst ai;simp only[DX,bV]at h;obtain⟨⟨g,v0⟩,aj,rfl,rfl⟩:=h;obtain⟨x,I,k'⟩:=R.jE t g v0 aj ar;refine⟨x,?_,k',R.jD t g v0 aj ar⟩;simp[En,I]
 |cell cK ty=>
  simp only[mP,bK,bV]at ai;obtain⟨g,az,l,aj,he⟩:=ai;simp at aj;subst aj;simp at he;subst he;simp[DX]at h;split at h
  . rename_i g0 b o aj;split at h
    . rename_i cs cQ;simp only[bV]at h;obtain⟨v0,eK,rfl,rfl⟩:=h;obtain⟨x,I,k'⟩:=R.jE cK g0 _ aj ar;have:=k'.lg;obtain⟨_,vs,E,ab,c8,_⟩:=R.b'.blk _ _ cQ;obtain⟨y,ao,h1,aa⟩:=A2 az c8 (R.eX _ _ cQ).2 (λj _=>by rw[nB ab,kt]) eK;simp_all[En,asAddr]
    grind
  grind
theorem amk(R:Rel aG nt φ S env J n a w):∀{S6:List ResultVar} {hS:List oI} {p:Prop} {vs:List V},mP P S6=some hS->ym env J hS=some (p,vs)->p->
 ∃xs:List Value,(S6.mapM (En a)).run P w= .ok xs w/\bk (cy φ w S) vs xs/\V.aP.V.e3 n vs=true
 |[],hS,p,vs,ai,h,ar=>by
  simp[mP]at ai;subst ai;obtain⟨_,rfl⟩:=h;exact⟨[],by rfl,.nil,rfl⟩
 |xe::S6,hS,p,vs,ai,h,ar=>by
  have aAF:∃vK Un,hS=vK::Un/\mP P [xe]=some [vK]/\mP P S6=some Un:=by
   cases xe with
   |tmp t=>
    grind[mP,bV]
   |cell cK ty=>
    grind[mP,bK,bV]
  obtain⟨vK,Un,rfl,h1,aa⟩:=aAF;simp only[ym,bK,bV]at h;obtain⟨⟨q,v⟩,aE,⟨w6,sQ⟩,qI,he⟩:=h;obtain⟨rfl,rfl⟩:=he;obtain⟨x,I,aF,ag⟩:=aqF R h1 aE ar.1;obtain⟨xs,ov,fP,pT⟩:=amk R aa qI ar.2;refine⟨x::xs,?_,.cons aF fP,by grind[V.aP.V.e3]⟩;simp_all
theorem cy.tQ{vs:List V}{xs:List Value}(h:bk (cy φ w S) vs xs):cy φ w S (tQ vs) (if h:xs.toArray.size=1 then xs.toArray[0]else .tuple xs.toArray):=by
 cases h with
 |nil=>exact .bn [] [] rfl (by simp)
 |cons h1 aa=>
  cases aa with
  |nil=>grind[Shv.tQ]
  |cons aa aA=>
   refine .bn _ _ (by simp[aA.length]) ?_;intro i v x aF I;have:=(bk.cons h1 (.cons aa aA)).get aF
   grind
theorem atX{vs:List V}(h:V.aP.V.e3 n vs=true):(tQ vs).aP n=true:=by
 unfold tQ
 grind[V.aP.V.e3,V.aP]
def TZ(hS:List oI)(Q:V->br->Nat->Prop):Exit->Env->br->Nat->Prop
 |.normal,env,J,N=>∃p vs,ym env J hS=some (p,vs)/\p/\Q (tQ vs) J N
 |.ret,env,J,N=>∃p vs,ym env J hS=some (p,vs)/\p/\Q (tQ vs) J N
 |_,_,_,_=>False
theorem gf.W6 {f:Nat}{fn:Func}{code:Code}{c:eY}{hS:List oI}(aJ:P.funcs[f]?=some fn)(ag:fn.body=some code)(ay:resolve P fn.ntmps code=some c)(ai:mP P fn.results.toList=some hS)
 {args:List V}(a':args.length<=fn.ntmps){k:Nat}{Q:V->br->Nat->Prop}(h:c9 P fn.ntmps k c (ie 0 args) J k (TZ hS Q)):gf P f args J k Q:=by
 intro φ S w B iX fH wT j0 vs fP;have aj:=fP.length;refine calls_of_wp aJ ag ?_;have R:Rel ⟨w,S,B,φ,k⟩ fn.ntmps φ S (ie 0 args) J (lt k) {tmps:=vs.toArray++Array.replicate (fn.ntmps-vs.toArray.size) undef,defers:=[]} w:=by
  refine⟨iX,λi g v hZ az=>?_,λi g v hZ az=>?_,λi g v hZ az=>?_,λb x I=>?_,?_,rfl,Ext.refl,λb x I h0=>.inl (wT b x I h0),λ_ _=>rfl,λb ag=>by grind[lt]⟩
  . obtain⟨_,j,rfl,aM⟩:=Dm hZ;obtain⟨x,I,ai⟩:=fP.get aM
    grind
  . grind[Dm]
  . grind[Dm,uN]
  . grind[lt]
  grind
 refine wp_mono (h _ ay _ φ S _ w rfl R) ?_
 rintro e cx w' ⟨bB,bC,env',J',N',aE,R'⟩
 have fin:(∃ p vs,ym env' J' hS = some (p,vs)/\p/\Q (tQ vs) J' N')->cx.defers = []/\∃ v,(results fn cx.tmps).run P w' = .ok v w'/\(∃ iI r Im EP Nz NB,Ending.returned v = .returned iI/\Q r Nz NB/\cy Im w' EP r iI/\r.aP (lt NB) = true/\xA Im w' EP Nz/\(∀ (b:Nat) x,bf Nz b = some x->b<NB/\x.aP (lt NB) = true)/\Ext B S EP w w'/\
  (∀(b:Nat) x,bf Nz b=some x->(Im b).2≠0->B (Im b).1\/w.heap.size<=(Im b).1)/\∀b,b<k->Im b=φ b):=by
  rintro ⟨p,rs,h1,aa,aA⟩
  obtain⟨xs,ov,k',iV⟩:=amk R' ai h1 aa;refine⟨R'.defers,_,?_,_,tQ rs,bB,bC,J',N',rfl,aA,cy.tQ k',atX iV,R'.b',λb x I=>?_,R'.ext,R'.own,R'.fix⟩
  . simp_all[Array.mapM_eq_mapM_toList,YX]
  . obtain⟨h1,aa⟩:=R'.eX b x I
    grind[lt]
 cases e with
 |normal=>exact fin aE
 |ret=>exact fin aE
 |exit id=>exact aE.elim
 |goto l=>exact aE.elim
 |panic r9=>exact aE.elim
 |outgrown=>exact aE.elim
end
end
open Go
def C.sh(k:Nat):C->C
 |.ptr b o=>.ptr (k+b) o
 |.dw b sz i o=>.dw (k+b) sz i o
 |.arr b sz off len=>.arr (k+b) sz off len
 |.je b sz off len=>.je (k+b) sz off len
 |.mp b=>.mp (k+b)
 |.gw b=>.gw (k+b)
 |.df b len=>.df (k+b) len
 |.fn f caps=>.fn f (caps.map (k+·))
 |c=>c
def V.sh(k:Nat):V->V
 |.c x=>.c (x.sh k)
 |.agg cs=>.agg (cs.map (C.sh k))
 |.bn vs=>.bn (go k vs)
where go (k:Nat):List V->List V
 |[]=>[]
 |v::vs=>v.sh k::go k vs
def ck.sh(k:Nat):ck->ck
 |.box cs=>.box (cs.map (C.sh k))
 |.arr sz es=>.arr sz es
 |.set ks=>.set ks
 |.buf E s=>.buf E s
 |.cL E c=>.cL E (c.sh k)
 |.dr sz es i o c=>.dr sz es i o (c.sh k)
def um(J:br)(k:Nat):br->br
 |[]=>J
 |(b,x)::r=>ee (um J k r) (k+b) (x.sh k)
theorem KY{J:br}{k:Nat}:∀{cO:br} {b:Nat},bf (um J k cO) b=match (if k<=b then bf cO (b-k)else none)with|some x=>some (x.sh k)|none=>bf J b
 |[],b=>by simp[um,bf]
 |(c,x)::r,b=>by
  simp[um,dX,KY,bf]
  grind
section
variable {P:Program}{aG:Ctx}{nt kk:Nat}{φ:ea}{S bC:dV}{env:Env}{J:br}{N key:Nat}{n:Nat->Bool}{a:Act}{w w':World}
theorem mj.aji{f:Nat}{args:List V}{r:V}(h:gf P f args [] 0 (λfw _ _=>fw=r))(ag:V.aP.V.e3 (lt 0) args=true)(ai:r.aP (lt 0)=true){K:V->br->Prop}(cq:K r J):mj P f args J key K:=by
 intro aG nt φ S env n a w R a' m' vs fP;refine(h φ S w (λ_=>False) ⟨λb x I=>by grind[bf],λb bI x y I=>by grind[bf],R.b'.st⟩ (λb x I=>by grind[bf]) (λb x I=>by grind[bf]) ag vs fP).mono ?_
 rintro e w' ⟨v,fw,bB,bC,J',N',rfl,rfl,h1,aa,aA,aU,bN,dO,hV⟩
 refine⟨v,fw,φ,bC,J,rfl,cq,?_,V.lB (λb h=>by grind[lt]) ai,(R.extend bN aA.st).more λ_ h=>ti h⟩;exact cy.mono (jV.refl _ _) (λb h=>by grind[lt]) ai h1
theorem bP.sh{bB:ea}{k:Nat}{n:Nat->Bool}(fQ:∀b,n b=true->bB (k+b)=φ b){c:C}{v:Value}(ag:c.aP n=true)(h:bP φ w S c v):bP bB w S (c.sh k) v:=by
 cases c with
 |ptr b o=>grind[C.aP,C.sh,bP]
 |dw b sz i o=>grind[C.aP,C.sh,bP]
 |arr b sz off len=>grind[C.aP,C.sh,bP]
 |je b sz off len=>grind[C.aP,C.sh,bP]
 |mp b=>grind[C.aP,C.sh,bP]
 |gw b=>grind[C.aP,C.sh,bP]
 |df b len=>grind[C.aP,C.sh,bP]
 |fn f caps=>
  simp_all[C.aP,C.sh,bP]
 |_=>exact h
theorem abm{k:Nat}:∀{vs:List V} {i:Nat},(V.sh.go k vs)[i]?=(vs[i]?).map (V.sh k)
 |[],i=>by rfl
 |v::vs,0=>by rfl
 |v::vs,i+1=>by simp[V.sh.go,abm]
theorem aml{k:Nat}:∀{vs:List V},(V.sh.go k vs).length=vs.length
 |[]=>rfl
 |v::vs=>by simp[V.sh.go,aml]
theorem cy.sh{bB:ea}{k:Nat}{n:Nat->Bool}(fQ:∀b,n b=true->bB (k+b)=φ b){v:V}{x:Value}(ag:v.aP n=true)(h:cy φ w S v x):cy bB w S (v.sh k) x:=by
 induction h with
 |c h=>exact .c (bP.sh fQ (by grind[V.aP]) h)
 | @agg cs vs h=>
  simp[V.aP]at ag;refine .agg ?_;have:=h.imp λc v ay ai=>bP.sh fQ (ag c ay) ai
  exact this.y' λ_ _ h=>h
 |bn vs xs aj h ih=>
  refine .bn _ xs (by grind[aml]) ?_
  grind[abm,uN,V.aP]
theorem C.BP{m:Nat}(hm:m<=16){c:C}(h:c.aP (lt m)=true):(c.sh key).aP (gC n key)=true:=by
 cases c<;>simp[C.sh,C.aP,lt,gC]at h⊢
 all_goals grind
theorem V.BP{m:Nat}(hm:m<=16):∀{v:V},v.aP (lt m)=true->(v.sh key).aP (gC n key)=true
 |.c x,h=>by grind[V.sh,V.aP,C.BP]
 |.agg cs,h=>by grind[V.sh,V.aP,C.BP]
 |.bn vs,h=>by exact go vs h
where go:∀vs,V.aP.V.e3 (lt m) vs=true->V.aP.V.e3 _ (V.sh.go _ vs)=true
 |[],_=>rfl
 |v::vs,h=>by simp[V.sh.go,V.aP.V.e3,dM]at h⊢;exact⟨V.BP hm h.1,go vs h.2⟩
theorem mj.aB' {f:Nat}{args:List V}{Q:V->br->Nat->Prop}(h:gf P f args [] 0 Q)(ag:V.aP.V.e3 (lt 0) args=true){K:V->br->Prop}
 (cq:∀r J' N',Q r J' N'->N'<=16/\K (r.sh key) (um J key J')):mj P f args J key K:=by
 intro aG nt φ S env n a w R a' m' vs fP;refine(h φ S w (λ_=>False) ⟨λb x I=>by grind[bf],λb bI x y I=>by grind[bf],R.b'.st⟩ (λb x I=>by grind[bf]) (λb x I=>by grind[bf]) ag vs fP).mono ?_
 rintro e w' ⟨v,fw,bB,bC,J',N',rfl,e1,h1,aa,aA,aU,bN,dO,hV⟩
 obtain⟨dh,cq⟩:=cq _ _ _ e1;have cS:=R.extend bN aA.st
 let mi:ea:=λb=>if key<=b/\b<key+16 then bB (b-key)else φ b
 have Kg:∀b,n b=true->mi b=φ b:=by grind
 have p0:∀b,lt N' b=true->mi (key+b)=bB b:=by
  intro b ag;simp only[lt,ij]at ag
  grind
 have eI:=cS.Ee Kg;have eU:∀b x,bf (um J key J') b=some x->(∃c aw,b=key+c/\bf J' c=some aw/\x=aw.sh key)\/bf J b=some x:=by
  grind[KY]
 have yY:∀c aw,bf J' c=some aw->(mi (key+c)).2≠0->w.heap.size<=(mi (key+c)).1:=by grind
 have hold:∀b x,bf J b=some x->(mi b).2≠0->(mi b).1<w.heap.size:=by
  intro b x I h0;rw[Kg b (R.eX b x I).1]at h0⊢;exact(R.b'.blk b x I).pg h0
 refine⟨v,fw.sh key,mi,bC,um J key J',rfl,cq,cy.sh p0 aa h1,V.BP dh aa,⟨⟨λb x I=>?_,λb bI x y I ao b4 h0 fF=>?_,aA.st⟩,eI.jE,eI.kQ,λk g v aj az=>V.lB (λ_ h=>ti h) (eI.jD k g v aj az),λb x I=>?_,eI.size,eI.defers,eI.ext,λb x I h0=>?_,eI.fix,λb ag=>ti (eI.j4 b ag)⟩⟩
 . rcases eU b x I with⟨c,aw,rfl,ay,rfl⟩|I
   . have eF:=aA.blk c aw ay;have kl:=aU c aw ay;have aR:=p0 c (by grind[lt]);cases aw with
     |box cs=>
      obtain⟨js,vs,E,k1,k2,k3⟩:=eF;simp only[ck.sh,dU,aR];refine⟨js,vs,E,k1,?_,k3⟩;have eJ:=kl.2;simp only[ck.aP,ik]at eJ;have:=k2.imp λc v ay ai=>bP.sh p0 (eJ c ay) ai
      exact this.y' λ_ _ h=>h
     |arr sz es=>simp only[ck.sh,dU,aR];exact eF
     |set ks=>simp only[ck.sh,dU,aR];exact eF
     |buf E s=>simp only[ck.sh,dU,aR];exact eF
     |cL E c=>
      obtain⟨js,⟨p,v,k1,k2,k3⟩,k4⟩:=eF;simp only[ck.sh,dU,aR];exact⟨js,⟨p,v,k1,k2,bP.sh p0 (by simpa[ck.aP]using kl.2) k3⟩,k4⟩
     |dr sz es i o c=>
      obtain⟨h1,⟨vs,E,k1,k2,k3,v,k4,k5⟩,k6⟩:=eF;simp only[ck.sh,dU,aR];exact⟨h1,⟨vs,E,k1,k2,k3,v,k4,bP.sh p0 (by simpa[ck.aP]using kl.2) k5⟩,k6⟩
   . exact eI.b'.blk b x I
 . rcases eU b x I with⟨c,aw,rfl,ay,rfl⟩|I<;>rcases eU bI y ao with⟨eE,pq,rfl,nL,rfl⟩|ao
   . have aR:=p0 c (by simp[lt];exact(aU c aw ay).1);have bw:=p0 eE (by simp[lt];exact(aU eE pq nL).1);rw[aR]at h0⊢;rw[bw]at fF⊢;exact aA.inj c eE aw pq ay nL (by omega) h0 fF
   . have:=yY c aw ay h0;have:=hold bI y ao fF;omega
   . have:=yY eE pq nL fF;have:=hold b x I h0;omega
   . exact eI.b'.inj b bI x y I ao b4 h0 fF
 . rcases eU b x I with⟨c,aw,rfl,ay,rfl⟩|I
   . obtain⟨k1,k2⟩:=aU c aw ay;refine⟨by simp[gC];right;omega,?_⟩;cases aw with
     |box cs=>
      simp only[ck.sh,ck.aP,List.all_map,ik]at k2⊢;intro c ay;exact C.BP dh (k2 c ay)
     |arr sz es=>rfl
     |set ks=>rfl
     |buf E s=>rfl
     |cL E c=>exact C.BP dh k2
     |dr sz es i o c=>simp only[ck.sh,ck.aP]at k2⊢;exact C.BP dh k2
   . obtain⟨k1,k2⟩:=eI.eX b x I;exact⟨ti k1,ck.lB (λ_ h=>ti h) k2⟩
 . rcases eU b x I with⟨c,aw,rfl,ay,rfl⟩|I
   . exact .inr (jJ R.ext.size (yY c aw ay h0))
   . exact eI.own b x I h0
end
theorem gf.mk {P:Program}{f:Nat}{fn:Func}{c:eY}{hS:List oI}{J:br}(aJ:P.funcs[f]?=some fn)(ay:fn.body.bind (resolve P fn.ntmps)=some c)(ai:mP P fn.results.toList=some hS)
 {args:List V}{nt:Nat}(FR:fn.ntmps=nt)(a':args.length<=nt){k:Nat}{Q:V->br->Nat->Prop}(h:c9 P nt k c (ie 0 args) J k (TZ hS Q)):gf P f args J k Q:=by
 grind[bK,gf.W6]
section
open Go
def C.cW(f:Nat->Nat):C->C
 |.ptr b o=>.ptr (f b) o
 |.dw b sz i o=>.dw (f b) sz i o
 |.arr b sz off len=>.arr (f b) sz off len
 |.je b sz off len=>.je (f b) sz off len
 |.mp b=>.mp (f b)
 |.gw b=>.gw (f b)
 |.df b len=>.df (f b) len
 |.fn g caps=>.fn g (caps.map f)
 |c=>c
def V.cW(f:Nat->Nat):V->V
 |.c x=>.c (x.cW f)
 |.agg cs=>.agg (cs.map (C.cW f))
 |.bn vs=>.bn (go f vs)
where go (f:Nat->Nat):List V->List V
 |[]=>[]
 |v::vs=>v.cW f::go f vs
def ck.cW(f:Nat->Nat):ck->ck
 |.box cs=>.box (cs.map (C.cW f))
 |.arr sz es=>.arr sz es
 |.set ks=>.set ks
 |.buf E s=>.buf E s
 |.cL E c=>.cL E (c.cW f)
 |.dr sz es i o c=>.dr sz es i o (c.cW f)
def xS(J:br):List Nat->br
 |[]=>J
 |b::r=>lh (xS J r) b
theorem AZ{J:br}:∀{bs:List Nat} {b:Nat},bf (xS J bs) b=if b∈bs then none else bf J b
 |[],b=>by rfl
 |c::r,b=>by
  simp[xS,ib,AZ]
  grind
def back(bs:List Nat)(key:Nat)(b:Nat):Nat:=(bs[b]?).getD (key+(b-bs.length))
def lz(J:br)(bs:List Nat)(f:Nat->Nat):br->br
 |[]=>xS J bs
 |(b,x)::r=>ee (lz J bs f r) (f b) (x.cW f)
theorem abn{J:br}{bs:List Nat}{f:Nat->Nat}:∀{cO:br} {c:Nat} {x:ck},bf (lz J bs f cO) c=some x->(∃b aw,c=f b/\bf cO b=some aw/\x=aw.cW f)\/(c ∉ bs/\bf J c=some x)
 |[],c,x,h=>by
  grind[lz,AZ]
 |(b,y)::r,c,x,h=>by
  simp[lz,dX]at h;split at h
  . grind[bf]
  . rcases abn h with⟨bI,aw,h1,aa,aA⟩|h
    . grind[bf]
    grind
section
variable {P:Program}{aG:Ctx}{nt kk:Nat}{φ:ea}{S bC:dV}{env:Env}{J:br}{N key:Nat}{n:Nat->Bool}{a:Act}{w w':World}{f:Nat->Nat}
theorem bP.cW{bB:ea}{n:Nat->Bool}(fQ:∀b,n b=true->bB (f b)=φ b){c:C}{v:Value}(ag:c.aP n=true)(h:bP φ w S c v):bP bB w S (c.cW f) v:=by
 cases c with
 |ptr b o=>grind[C.aP,C.cW,bP]
 |dw b sz i o=>grind[C.aP,C.cW,bP]
 |arr b sz off len=>grind[C.aP,C.cW,bP]
 |je b sz off len=>grind[C.aP,C.cW,bP]
 |mp b=>grind[C.aP,C.cW,bP]
 |gw b=>grind[C.aP,C.cW,bP]
 |df b len=>grind[C.aP,C.cW,bP]
 |fn g caps=>
  simp_all[C.aP,C.cW,bP]
 |_=>exact h
theorem ZY:∀{vs:List V} {i:Nat},(V.cW.go f vs)[i]?=(vs[i]?).map (V.cW f)
 |[],i=>by rfl
 |v::vs,0=>by rfl
 |v::vs,i+1=>by simp[V.cW.go,ZY]
theorem Yl:∀{vs:List V},(V.cW.go f vs).length=vs.length
 |[]=>rfl
 |v::vs=>by simp[V.cW.go,Yl]
theorem cy.cW{bB:ea}{n:Nat->Bool}(fQ:∀b,n b=true->bB (f b)=φ b){v:V}{x:Value}(ag:v.aP n=true)(h:cy φ w S v x):cy bB w S (v.cW f) x:=by
 induction h with
 |c h=>exact .c (bP.cW fQ (by grind[V.aP]) h)
 | @agg cs vs h=>
  simp[V.aP]at ag;refine .agg ?_;have:=h.imp λc v ay ai=>bP.cW fQ (ag c ay) ai
  exact this.y' λ_ _ h=>h
 |bn vs xs aj h ih=>
  refine .bn _ xs (by grind[Yl]) ?_
  grind[ZY,uN,V.aP]
theorem C.Bw{n m:Nat->Bool}(aJ:∀b,m b=true->n (f b)=true){c:C}(h:c.aP m=true):(c.cW f).aP n=true:=by
 cases c<;>simp[C.cW,C.aP]at h⊢
 all_goals grind
theorem V.Bw{n m:Nat->Bool}(aJ:∀b,m b=true->n (f b)=true):∀{v:V},v.aP m=true->(v.cW f).aP n=true
 |.c x,h=>by grind[V.cW,V.aP,C.Bw]
 |.agg cs,h=>by grind[V.cW,V.aP,C.Bw]
 |.bn vs,h=>by exact go vs h
where go:∀vs,V.aP.V.e3 m vs=true->V.aP.V.e3 n (V.cW.go f vs)=true
 |[],_=>rfl
 |v::vs,h=>by simp[V.cW.go,V.aP.V.e3,dM]at h⊢;exact⟨V.Bw aJ h.1,go vs h.2⟩
theorem Rel.ayH{B:Nat->Prop}(R:Rel aG nt φ S env J n a w)(e:Ext B S bC w w')(ec:∀b j,bC b j->b<w'.heap.size)(V1:∀b x,bf J b=some x->(φ b).2≠0->¬B (φ b).1)(eF:∀b,B b->aG.B b\/aG.oE.heap.size<=b):Rel aG nt φ bC env J n a w':=by
 have ab:=λb x I h0=>e.block _ ((R.b'.blk b x I).pg h0) (V1 b x I h0)
 have gv:∀b x,bf J b=some x->(φ b).2≠0->∀j,¬bC (φ b).1 j:=by
  intro b x I h0 j aM;have ag:=R.b'.blk b x I;rcases e.rO _ _ aM with h|h|h
  . exact ag.za h0 j h
  . grind
  grind
 refine⟨⟨λb x I=>?_,R.b'.inj,ec⟩,λk g v aj az=>?_,R.kQ,R.jD,R.eX,R.size,R.defers,?_,R.own,R.fix,R.j4⟩
 . have ag:=R.b'.blk b x I;cases x with
   |box cs=>
    obtain⟨h0,vs,E,h1,aa,aA⟩:=ag;refine⟨h0,vs,E,(ab _ _ I h0).trans h1,aa.imp λc v ay ai=>bP.mono e.mono (λ_ _=>rfl) (C.ux _) ai,gv b _ I h0⟩
   |arr sz es=>
    obtain⟨h1,aa,aA,aU,bN⟩:=ag;refine⟨h1,aa,aA,aU,λh0=>?_⟩;obtain⟨vs,E,k1,k2,k3,k4⟩:=bN h0;exact⟨vs,E,(ab _ _ I h0).trans k1,k2,λi j c7 t he ht=>let⟨v,aF,ai⟩:=k3 i j c7 t he ht;⟨v,aF,cl.mono e.mono ai⟩,gv b _ I h0⟩
   |set ks=>
    obtain⟨h0,⟨es,c,h1,aa⟩,aA⟩:=ag;exact⟨h0,⟨es,c,(ab _ _ I h0).trans h1,aa⟩,gv b _ I h0⟩
   |buf E s=>
    obtain⟨h1,aa,aA⟩:=ag;refine⟨h1,aa,λh0=>?_⟩
    grind
   |cL E c=>
    obtain⟨h0,⟨p,v,h1,aa,aA⟩,aU⟩:=ag;exact⟨h0,⟨p,v,(ab _ _ I h0).trans h1,aa,bP.mono e.mono (λ_ _=>rfl) (C.ux _) aA⟩,gv b _ I h0⟩
   |dr sz es i o c=>
    obtain⟨⟨h1,aa,aA,aU,bN,dO⟩,⟨vs,E,k1,k2,k3,v,k4,k5⟩,k6⟩:=ag;exact⟨⟨h1,aa,aA,aU,bN,dO⟩,⟨vs,E,(ab _ _ I (by omega)).trans k1,k2,λi j c7 t he ht a'=>let⟨v,aF,ai⟩:=k3 i j c7 t he ht a';⟨v,aF,cl.mono e.mono ai⟩,v,k4,bP.mono e.mono (λ_ _=>rfl) (C.ux _) k5⟩,gv b _ I (by omega)⟩
 . obtain⟨x,I,ai⟩:=R.jE k g v aj az;exact⟨x,I,cy.mono e.mono (λ_ _=>rfl) (R.jD k g v aj az) ai⟩
 . refine⟨e.os.trans R.ext.os,e.tape.trans R.ext.tape,e.output.trans R.ext.output,jJ R.ext.size e.size,λb aV ag=>?_,R.ext.mono.trans e.mono,λb j aM=>?_⟩
   . refine(e.block b (pd aV R.ext.size) λh=>?_).trans (R.ext.block b aV ag)
     grind
   . rcases e.rO _ _ aM with h|h|h
     . exact R.ext.rO b j h
     . grind
     . exact .inr (.inr (jJ R.ext.size h))
theorem mj.raw {fn:Nat}{args:List V}{bs:List Nat}{Q:V->br->Nat->Prop}(cC:bs.Nodup)(aV:∀b,b∈bs->b<key)(h:gf P fn (args.map (V.cu bs)) (iR bs J 0 bs) bs.length Q){K:V->br->Prop}
 (cq:∀r J' N',Q r J' N'->N'<=bs.length+16/\K (r.cW (back bs key)) (lz J bs (back bs key) J')):(∀b,b∈bs->n b=true)->∀aG nt φ S env a w,Rel aG nt φ S env J n a w->(∀b,key<=b->b<key+16->n b=false)->V.aP.V.e3 n args=true->∀vs:List Value,bk (cy φ w S) args vs->
 Calls P fn vs.toArray w λe w'=>∃v r bB bC J',e= .returned v/\K r J'/\cy bB w' bC r v/\r.aP (gC n key)=true/\Rel aG nt bB bC env J' (gC n key) a w':=by
 intro mz aG nt φ S env a w R a' m' vs fP
 let sW:ea:=λi=>φ ((bs[i]?).getD 0)
 have Qg:∀(i:Nat) b,bs[i]?=some b->sW i=φ b:=by grind
 let B:Nat->Prop:=λβ=>∃b x,b∈bs/\bf J b=some x/\(φ b).2≠0/\β=(φ b).1
 have l9:∀b x,bf (iR bs J 0 bs) b=some x->∃c aw,bs[b]?=some c/\bf J c=some aw/\x=aw.cu bs:=by
  grind[yx]
 have iX:xA sW w S (iR bs J 0 bs):=by
  refine⟨λb x I=>?_,λb bI x y I ao b4 h0 fF=>?_,R.b'.st⟩
  . obtain⟨c,aw,aa,aA,rfl⟩:=l9 b x I;exact dU.cu Qg aa (R.b'.blk c aw aA)
  . obtain⟨c,aw,aa,aA,rfl⟩:=l9 b x I;obtain⟨eE,pq,tv,Fx,rfl⟩:=l9 bI y ao;rw[Qg b c aa]at h0⊢;rw[Qg bI eE tv]at fF⊢;refine R.b'.inj c eE aw pq aA Fx ?_ h0 fF
    grind[List.getElem?_eq_some_iff,List.pairwise_iff_getElem]
 have l5:bk (cy sW w S) (args.map (V.cu bs)) vs:=fP.y' λ_ _=>cy.cu Qg
 have iV:V.aP.V.e3 (lt bs.length) (args.map (V.cu bs))=true:=by
  simp_all[De,BB,bV,V.p7]
 refine(h sW S w B iX (λb x I=>?_) (λb x I h0=>?_) iV vs l5).mono ?_
 . obtain⟨c,aw,aa,aA,rfl⟩:=l9 b x I;refine⟨(fv.1 aa).1,?_⟩;cases aw with
   |box cs=>grind[ck.cu,ck.aP,List.all_map,List.all_eq_true,C.p7]
   |arr sz es=>rfl
   |set ks=>rfl
   |buf E s=>rfl
   |cL E c=>exact C.p7 c
   |dr sz es i o c=>exact C.p7 c
 . grind
 rintro e w' ⟨v,fw,bB,bC,J',N',rfl,e1,h1,aa,aA,aU,bN,dO,hV⟩
 obtain⟨dh,cq⟩:=cq _ _ _ e1
 have ahn:∀b,B b->aG.B b\/aG.oE.heap.size<=b:=by
  rintro β ⟨b,x,_,I,h0,rfl⟩
  exact R.own b x I h0
 have Ci:Rel aG nt φ S env (xS J bs) n a w:=by
  have j3:∀b x,bf (xS J bs) b=some x->b ∉ bs/\bf J b=some x:=by
   grind[AZ]
  exact⟨⟨λb x I=>R.b'.blk b x (j3 b x I).2,λb bI x y I ao=>R.b'.inj b bI x y (j3 b x I).2 (j3 bI y ao).2,R.b'.st⟩,R.jE,R.kQ,R.jD,λb x I=>R.eX b x (j3 b x I).2,R.size,R.defers,R.ext,λb x I=>R.own b x (j3 b x I).2,R.fix,R.j4⟩
 have V1:∀b x,b ∉ bs->bf J b=some x->(φ b).2≠0->¬B (φ b).1:=by
  rintro b x mz I h0 ⟨c,y,ay,ao,fF,he⟩
  exact R.b'.inj b c x y I ao (λe=>mz (e▸ay)) h0 fF he
 have cS:=Ci.ayH bN aA.st (λb x I h0=>by
  grind[AZ]) ahn
 let mi:ea:=λb=>if key<=b/\b<key+16 then bB (bs.length+(b-key))else φ b
 have Kg:∀b,n b=true->mi b=φ b:=by grind
 have p0:∀b,lt N' b=true->mi (back bs key b)=bB b:=by
  intro b ag;simp only[lt,ij]at ag;unfold back
  grind
 have JO:∀b,lt N' b=true->gC n key (back bs key b)=true:=by
  intro b ag;simp only[lt,ij]at ag;unfold back;cases az:bs[b]? with
  |some c=>exact ti (mz c (hp az))
  |none=>
   simp only[Option.getD_none,gC,tK,dM,ij];right;omega
 have eI:=cS.Ee Kg;have eU:∀b x,bf (lz J bs (back bs key) J') b=some x->(∃c aw,b=back bs key c/\bf J' c=some aw/\x=aw.cW (back bs key))\/(b ∉ bs/\bf J b=some x):=λb x I=>abn I
 have JJ:∀b x,b ∉ bs->bf J b=some x->bf (xS J bs) b=some x:=by simp_all[AZ,ah]
 have yY:∀c aw,bf J' c=some aw->(mi (back bs key c)).2≠0->B (mi (back bs key c)).1\/w.heap.size<=(mi (back bs key c)).1:=by
  intro c aw ay h0;rw[p0 c (by simp[lt];exact(aU c aw ay).1)]at h0⊢
  grind
 have hold:∀b x,b ∉ bs->bf J b=some x->(mi b).2≠0->(mi b).1<w.heap.size/\¬B (mi b).1:=by
  intro b x mz I h0;rw[Kg b (R.eX b x I).1]at h0⊢;exact⟨(R.b'.blk b x I).pg h0,V1 b x mz I h0⟩
 refine⟨v,fw.cW (back bs key),mi,bC,lz J bs (back bs key) J',rfl,cq,cy.cW p0 aa h1,V.Bw JO aa,⟨⟨λb x I=>?_,λb bI x y I ao b4 h0 fF=>?_,aA.st⟩,eI.jE,eI.kQ,λk g v aj az=>V.lB (λ_ h=>ti h) (eI.jD k g v aj az),λb x I=>?_,eI.size,eI.defers,eI.ext,λb x I h0=>?_,eI.fix,λb ag=>ti (eI.j4 b ag)⟩⟩
 . rcases eU b x I with⟨c,aw,rfl,ay,rfl⟩|⟨mz,I⟩
   . have eF:=aA.blk c aw ay;have kl:=aU c aw ay;have aR:=p0 c (by simp[lt];exact kl.1);cases aw with
     |box cs=>
      obtain⟨js,vs,E,k1,k2,k3⟩:=eF;simp only[ck.cW,dU,aR];refine⟨js,vs,E,k1,?_,k3⟩;have eJ:=kl.2;simp only[ck.aP,ik]at eJ;have:=k2.imp (R':=λc v=>bP mi w' bC (C.cW (back bs key) c) v) λc v ay ai=>bP.cW p0 (eJ c ay) ai
      exact this.y' λ_ _ h=>h
     |arr sz es=>simp only[ck.cW,dU,aR];exact eF
     |set ks=>simp only[ck.cW,dU,aR];exact eF
     |buf E s=>simp only[ck.cW,dU,aR];exact eF
     |cL E c=>
      obtain⟨js,⟨p,v,k1,k2,k3⟩,k4⟩:=eF;simp only[ck.cW,dU,aR];exact⟨js,⟨p,v,k1,k2,bP.cW p0 (by simpa[ck.aP]using kl.2) k3⟩,k4⟩
     |dr sz es i o c=>
      obtain⟨h1,⟨vs,E,k1,k2,k3,v,k4,k5⟩,k6⟩:=eF;simp only[ck.cW,dU,aR];exact⟨h1,⟨vs,E,k1,k2,k3,v,k4,bP.cW p0 (by simpa[ck.aP]using kl.2) k5⟩,k6⟩
   . exact eI.b'.blk b x (JJ b x mz I)
 . rcases eU b x I with⟨c,aw,rfl,ay,rfl⟩|⟨mz,I⟩<;>rcases eU bI y ao with⟨eE,pq,rfl,nL,rfl⟩|⟨aii,ao⟩
   . have aR:=p0 c (by simp[lt];exact(aU c aw ay).1);have bw:=p0 eE (by simp[lt];exact(aU eE pq nL).1);rw[aR]at h0⊢;rw[bw]at fF⊢;exact aA.inj c eE aw pq ay nL (by rintro rfl;exact b4 rfl) h0 fF
   . obtain⟨k1,k2⟩:=hold bI y aii ao fF;rcases yY c aw ay h0 with h|h
     . intro e;rw[e]at h;exact k2 h
     . omega
   . obtain⟨k1,k2⟩:=hold b x mz I h0;rcases yY eE pq nL fF with h|h
     . intro e;rw[<-e]at h;exact k2 h
     . omega
   . exact eI.b'.inj b bI x y (JJ b x mz I) (JJ bI y aii ao) b4 h0 fF
 . rcases eU b x I with⟨c,aw,rfl,ay,rfl⟩|⟨mz,I⟩
   . obtain⟨k1,k2⟩:=aU c aw ay;refine⟨JO c (by simp[lt];exact k1),?_⟩;cases aw with
     |box cs=>
      simp only[ck.cW,ck.aP,List.all_map,ik]at k2⊢;intro c ay;exact C.Bw JO (k2 c ay)
     |arr sz es=>rfl
     |set ks=>rfl
     |buf E s=>rfl
     |cL E c=>simp only[ck.cW,ck.aP]at k2⊢;exact C.Bw JO k2
     |dr sz es i o c=>simp only[ck.cW,ck.aP]at k2⊢;exact C.Bw JO k2
   . obtain⟨k1,k2⟩:=eI.eX b x (JJ b x mz I);exact⟨ti k1,ck.lB (λ_ h=>ti h) k2⟩
 . rcases eU b x I with⟨c,aw,rfl,ay,rfl⟩|⟨mz,I⟩
   . rcases yY c aw ay h0 with h|h
     . exact ahn _ h
     . exact .inr (jJ R.ext.size h)
   . exact eI.own b x (JJ b x mz I) h0
theorem mj.aCa {fn:Nat}{args:List V}{bs:List Nat}{Q:V->br->Nat->Prop}(cC:bs.Nodup)(aV:∀b,b∈bs->b<key)(et:∀b,b∈bs->∃x,bf J b=some x)(h:gf P fn (args.map (V.cu bs)) (iR bs J 0 bs) bs.length Q){K:V->br->Prop}
 (cq:∀r J' N',Q r J' N'->N'<=bs.length+16/\K (r.cW (back bs key)) (lz J bs (back bs key) J')):mj P fn args J key K:=by
 intro aG nt φ S env n a w R a' ag vs fP;exact mj.raw cC aV h cq (λb ag=>let⟨x,I⟩:=et b ag;(R.eX b x I).1) aG nt φ S _ a w R a' ag vs fP
theorem amm{bs:List Nat}:∀{l:List Nat} {i:Nat} {J J':br},(∀b,b∈l->bf J' b=bf J b)->iR bs J' i l=iR bs J i l
 |[],i,J,J',h=>rfl
 |b::r,i,J,J',h=>by
  simp[iR];rw[h b (by simp),amm λc ay=>h c (by grind)]
theorem amn{bs:List Nat}{f:Nat->Nat}:∀{cO:br} {J J':br} {c:Nat},(bf (xS J' bs) c=bf (xS J bs) c)->bf (lz J' bs f cO) c=bf (lz J bs f cO) c
 |[],J,J',c,h=>h
 |(b,x)::r,J,J',c,h=>by
  simp[lz,dX];split
  . rfl
  . exact amn h
theorem YC{bs:List Nat}{key:Nat}:∀{cO:br} {J:br} {c:Nat},cO.all (λx=>decide (x.1<bs.length+16))=true->c ∉ bs->¬(key<=c/\c<key+16)->bf (lz J bs (back bs key) cO) c=bf J c
 |[],J,c,hk,ay,ai=>by grind[lz,AZ]
 |(b,x)::r,J,c,hk,ay,ai=>by
  simp only[sJ,dM]at hk;simp[lz,dX];rw[ah ?_]
  . exact YC hk.2 ay ai
  grind[back]
end
variable {xb:List Nat}
section
variable {P:Program}{aG:Ctx}{nt kk:Nat}{φ:ea}{S:dV}{env env':Env}{J J' J1:br}{N key:Nat}{n:Nat->Bool}{a:Act}{w:World}
theorem eT{x:ba}(h:∀t,t∈x.tmps->look env' t=look env t):x.get env'=x.get env:=by
 cases x with
 |const v=>rfl
 |tmp t=>grind[ba.get,ba.tmps]
theorem KZ{xs:List ba}(h:∀t,t∈xs.flatMap ba.tmps->look env' t=look env t):l4 env' xs=l4 env xs:=by
 induction xs with
 |nil=>rfl
 |cons x xs ih=>
  grind[l4,eT]
theorem K0{x:Option ba}(h:∀t,t∈D4 x->look env' t=look env t):pQ env' x=pQ env x:=by
 cases x with
 |none=>rfl
 |some x=>simp[pQ];rw[eT h]
theorem alG:∀{ps:List (Nat×Nat×ba)} {cs:List C},(∀t,t∈(ps.flatMap λp=>p.2.2.tmps)->look env' t=look env t)->sj env' cs ps=sj env cs ps
 |[],cs,h=>rfl
 |(o,k,x)::r,cs,h=>by
  simp[sj];rw[eT (λt ht=>h t (by grind))]
  congr 1;funext a;congr 1;funext c
  split
  . rw[alG (λt ht=>h t (by grind))]
  rfl
theorem Ym{sz:Nat}:∀{ps:List (Nat×ba)} {es:List (List T)},(∀t,t∈(ps.flatMap λp=>p.2.tmps)->look env' t=look env t)->pJ env' sz es ps=pJ env sz es ps
 |[],cs,h=>rfl
 |(i,x)::r,es,h=>by
  simp[pJ];rw[eT (λt ht=>h t (by grind))]
  congr 1;funext a;congr 1;funext c;congr 1;funext ts
  split
  . rw[Ym (λt ht=>h t (by grind))]
  rfl
theorem atY{o:dG}(h:∀t,t∈o.reads->look env' t=look env t):a7 o env' J key=a7 o env J key:=by
 cases o<;>simp only[dG.reads,ju]at h
 case mov x=>simp only[a7];rw[eT h]
 case pick c x y=>grind[a7,eT]
 case alloc=>rfl
 case box x=>simp only[a7];rw[eT h]
 case allocA=>rfl
 case b2s x=>simp only[a7];rw[eT h]
 case allocS=>rfl
 case mkset=>rfl
 case bsliceT e sz len z ps=>simp only[a7];congr 1;funext j9;rw[Ym h]
 case lkset x y=>simp only[a7];rw[eT λt ht=>h t (.inl ht),eT λt ht=>h t (.inr ht)]
 case upset x y=>simp only[a7];rw[eT λt ht=>h t (.inl ht),eT λt ht=>h t (.inr ht)]
 case appendB e k x y=>simp only[a7];rw[eT λt ht=>h t (.inl ht),eT λt ht=>h t (.inr ht)]
 case sdata x=>simp only[a7];rw[eT h]
 case ustr e x y=>simp only[a7];rw[eT λt ht=>h t (.inl ht),eT λt ht=>h t (.inr ht)]
 case idxP k x y=>simp only[a7];rw[eT λt ht=>h t (.inl ht),eT λt ht=>h t (.inr ht)]
 case slcP k x l i=>simp only[a7];rw[eT λt ht=>h t (.inl (.inl ht)),K0 λt ht=>h t (.inl (.inr ht)),K0 λt ht=>h t (.inr ht)]
 case build z ps=>simp only[a7];rw[alG h]
 case bslice sz len z ps=>simp only[a7];congr 1;funext j9;rw[Ym h]
 case load g k x=>simp only[a7];rw[eT h]
 case store k x v=>simp only[a7];rw[eT λt ht=>h t (.inl ht),eT λt ht=>h t (.inr ht)]
 case nilCheck x=>simp only[a7];rw[eT h]
 case bin op x y=>simp only[a7];rw[eT λt ht=>h t (.inl ht),eT λt ht=>h t (.inr ht)]
 case eqAgg op ks x y=>simp only[a7];rw[eT λt ht=>h t (.inl ht),eT λt ht=>h t (.inr ht)]
 case eqBool op x y=>simp only[a7];rw[eT λt ht=>h t (.inl ht),eT λt ht=>h t (.inr ht)]
 case eqNil=>rfl
 case not x=>simp only[a7];rw[eT h]
 case conv k x=>simp only[a7];rw[eT h]
 case i2s x=>simp only[a7];rw[eT h]
 case s2s x=>simp only[a7];rw[eT h]
 case fldA k x=>simp only[a7];rw[eT h]
 case fld g k m x=>simp only[a7];rw[eT h]
 case idxA op x y=>simp only[a7];rw[eT λt ht=>h t (.inl ht),eT λt ht=>h t (.inr ht)]
 case idxV op x y=>simp only[a7];rw[eT λt ht=>h t (.inl ht),eT λt ht=>h t (.inr ht)]
 case mslice op _ z x=>simp only[a7];rw[eT h]
 case idxS x y=>simp only[a7];rw[eT λt ht=>h t (.inl ht),eT λt ht=>h t (.inr ht)]
 case slcS x l i=>simp only[a7];rw[eT λt ht=>h t (.inl (.inl ht)),K0 λt ht=>h t (.inl (.inr ht)),K0 λt ht=>h t (.inr ht)]
 case slc k x l i=>grind[a7,eT,K0]
 case slc0 x=>simp only[a7];rw[eT h]
 case mkfn f xs=>simp only[a7];rw[KZ h]
 case ext x i=>simp only[a7];rw[eT h]
 case len s x=>grind[a7,eT]
 case append te sz by' x y=>simp only[a7];rw[eT λt ht=>h t (.inl ht),eT λt ht=>h t (.inr ht)]
 case max2 x y=>simp only[a7];rw[eT λt ht=>h t (.inl ht),eT λt ht=>h t (.inr ht)]
 case min2 x y=>grind[a7,eT]
 case call=>rfl
 rfl
def fU(env:Env)(x:ba):List Nat:=
 match x.get env with
 |some (_,.c (.ptr b _))=>[b]
 |some (_,.c (.dw b _ _ _))=>[b]
 |some (_,.c (.arr b _ _ _))=>[b]
 |some (_,.c (.je b _ _ _))=>[b]
 |some (_,.c (.mp b))=>[b]
 |some (_,.c (.gw b))=>[b]
 |some (_,.c (.df b _))=>[b]
 |_=>[]
def C.ic:C->List Nat
 |.ptr b _|.dw b _ _ _|.arr b _ _ _|.je b _ _ _|.mp b|.gw b|.df b _=>[b]
 |.fn _ caps=>caps
 |_=>[]
def V.ic:V->List Nat
 |.c x=>x.ic
 |.agg cs=>cs.flatMap C.ic
 |.bn _=>[]
def r1(env:Env)(args:List ba):List Nat:=
 args.flatMap λx=>match x.get env with
  |some (_,v)=>v.ic
  |none=>[]
def fS(xb:List Nat)(o:dG)(env:Env)(key:Nat):List Nat:=
 match o with
 |.alloc _|.allocA _|.box _|.bslice .. |.mslice .. |.mkset=>[key]
 |.allocS .. =>[key,key+1]
 |.lkset x _=>fU env x
 |.upset x _=>fU env x
 |.appendB _ _ x _=>key::fU env x
 |.ustr _ x _=>fU env x
 |.call _ args=>(List.range 16).map (key+·)++(r1 env args++xb)
 |.load _ _ x=>fU env x
 |.b2s x=>fU env x
 |.store _ x _=>fU env x
 |.append _ _ _ x y=>key::(fU env x++fU env y)
 |_=>[]
def du(xb:List Nat)(o:dG)(env:Env)(key b:Nat):Bool:=
 match o with
 |.alloc _|.allocA _|.box _|.bslice .. |.mslice .. |.mkset=>b==key
 |.allocS .. =>b==key||b==key+1
 |.upset x _=>(fU env x).contains b
 |.appendB _ _ x _=>b==key||(fU env x).contains b
 |.ustr _ x _=>(fU env x).contains b
 |.store _ x _=>(fU env x).contains b
 |.append _ _ _ x _=>b==key||(fU env x).contains b
 |.call _ args=>(decide (key<=b)&&decide (b<key+16))||(r1 env args++xb).contains b
 |_=>false
theorem aqG{o:dG}(a':o.neutral=true)(ht:o.ns=false){p v J1}(aC:a7 o env J key=some (p,v,J1)):a7 o env J' key=some (p,v,J'):=by
 cases o<;>simp only[dG.neutral,dG.ns,reduceCtorEq]at a' ht<;>simp only[a7,bK,bV]at aC⊢
 all_goals
  (try (obtain⟨a1,h1,aC⟩:=aC;refine⟨a1,h1,?_⟩))
  (try (obtain⟨a2,aa,aC⟩:=aC;refine⟨a2,aa,?_⟩))
  (try (obtain⟨a3,aA,aC⟩:=aC;refine⟨a3,aA,?_⟩))
  (try split at aC)
  (try (done))
 all_goals first
  |(cases aC;rfl)
  |(cases aC;done)
  |(exact⟨x,h1,aa,aA,rfl⟩)
  |(simp only[bV]at aC⊢;obtain⟨x,h1,aa⟩:=aC;simp only[fu]at aa⊢;exact⟨x,h1,aa.1,aa.2.1,trivial⟩)
  |(simp only[gn,fa,fu]at aC⊢;exact⟨aC.1,aC.2.1,aC.2.2.1,trivial⟩)
theorem acj{x:ba}{p:Prop}{b:Nat}(h:x.get env=some (p,.c (.mp b))):fU env x=[b]:=by grind[fU]
theorem asJ{x:ba}{p:Prop}{b:Nat}(h:x.get env=some (p,.c (.gw b))):fU env x=[b]:=by grind[fU]
theorem amw{x:ba}{p:Prop}{b l:Nat}(h:x.get env=some (p,.c (.df b l))):fU env x=[b]:=by grind[fU]
theorem abo{x:ba}{p:Prop}{b o:Nat}(h:x.get env=some (p,.c (.ptr b o))):fU env x=[b]:=by grind[fU]
theorem amx{x:ba}{p:Prop}{b sz i o:Nat}(h:x.get env=some (p,.c (.dw b sz i o))):fU env x=[b]:=by grind[fU]
theorem aty{x:ba}{p:Prop}{b sz i o:Nat}(h:x.get env=some (p,.c (.je b sz i o))):fU env x=[b]:=by grind[fU]
theorem RQ{x:ba}{p:Prop}{b sz i o:Nat}(h:x.get env=some (p,.c (.arr b sz i o))):fU env x=[b]:=by grind[fU]
theorem asK{o:dG}{p v}(aC:a7 o env J key=some (p,v,J1))(ht:∀b,b∈fS xb o env key->bf J' b=bf J b):
 (∃bM,a7 o env J' key=some (p,v,bM)/\∀b,bf bM b=if du xb o env key b then bf J1 b else bf J' b)/\∀b,du xb o env key b=false->bf J1 b=bf J b:=by
 by_cases FR:o.neutral=true/\o.ns=false
 . have hw:∀b,du xb o env key b=false:=by intro b;cases o<;>simp only[dG.neutral,dG.ns,reduceCtorEq,dK,false_and,zb,and_self]at FR<;>rfl
   have:=KK FR.1 aC;subst this;exact⟨⟨J',aqG FR.1 FR.2 aC,λb=>by grind⟩,λb _=>rfl⟩
 . cases o<;>simp only[dG.neutral,dG.ns,reduceCtorEq,dK,false_and,zb,and_self,not_true,not_false_eq_true]at FR
   case alloc cs=>
    simp only[a7,fa,fu]at aC⊢;obtain⟨rfl,rfl,rfl⟩:=aC;refine⟨⟨_,⟨rfl,rfl,rfl⟩,λb=>?_⟩,λb ag=>?_⟩
    . simp only[dX,du,nV]
      grind
    simp_all[du,qL,dX,ah,eW]
   case allocA cs=>
    simp only[a7,bV,fu]at aC⊢;obtain⟨ts,hK,rfl,rfl,rfl⟩:=aC;refine⟨⟨_,⟨ts,hK,rfl,rfl,rfl⟩,λb=>?_⟩,λb ag=>?_⟩
    . simp only[dX,du,nV]
      grind
    simp_all[du,qL,dX,ah,eW]
   case b2s x=>
    simp only[a7,bK,bV,fu]at aC⊢;obtain⟨⟨i',v0⟩,h1,⟨q,s⟩,aa,rfl,rfl,rfl⟩:=aC;refine⟨⟨J',⟨(i',v0),h1,(q,s),?_,rfl,rfl,rfl⟩,λb=>rfl⟩,λb _=>rfl⟩;dsimp only at aa⊢;unfold vL at aa⊢;split at aa
    . grind
    . grind
    . rename_i b off len;rw[ht b (by simp[fS,RQ h1])]
      grind
    . rename_i b off len;rw[ht b (by simp[fS,aty h1])]
      grind
    grind
   case box x=>
    simp only[a7,bK,bV,fu]at aC⊢;obtain⟨oH,h1,cs,aa,rfl,rfl,rfl⟩:=aC;refine⟨⟨_,⟨oH,h1,cs,aa,rfl,rfl,rfl⟩,λb=>?_⟩,λb ag=>?_⟩
    . simp only[dX,du,nV]
      grind
    simp_all[du,qL,dX,ah,eW]
   case bslice sz len z ps=>
    simp only[a7,bK,bV,fu]at aC⊢;obtain⟨oH,h1,cs,aa,rfl,rfl,rfl⟩:=aC;refine⟨⟨_,⟨oH,h1,cs,aa,rfl,rfl,rfl⟩,λb=>?_⟩,λb ag=>?_⟩
    . simp only[dX,du,nV]
      grind
    simp_all[du,qL,dX,ah,eW]
   case mslice sz by' z x=>
    simp only[a7,bK]at aC⊢;obtain⟨oH,h1,cs,aa,aC⟩:=aC;split at aC
    . rename_i he;simp only[fa,fu]at aC;obtain⟨rfl,rfl,rfl⟩:=aC;refine⟨⟨_,⟨oH,h1,cs,aa,by rw[he]⟩,λb=>?_⟩,λb ag=>?_⟩
      . simp only[dX,du,nV]
        grind
      simp_all[du,qL,dX,ah,eW]
    . cases aC
   case load g k x=>
    have:=KK rfl aC;subst this;refine⟨⟨J',?_,λb=>rfl⟩,λb _=>rfl⟩;simp only[a7,bK]at aC⊢;obtain⟨⟨i',v0⟩,h1,aC⟩:=aC;refine⟨(i',v0),h1,?_⟩;dsimp only at aC⊢;split at aC
    . rename_i b o;rw[ht b (by simp[fS,abo h1])];split at aC
      all_goals simp_all
    . rename_i b sz i o;rw[ht b (by simp[fS,amx h1])];split at aC
      . simp_all
      . simp_all
      . split at aC
        . grind
        . rename_i az;split at aC
          all_goals simp_all
      grind
    all_goals simp_all
   case store k x y=>
    simp only[a7,bK,gn]at aC⊢;obtain⟨⟨i',v0⟩,h1,d,aa,cs,aA,aU,aC⟩:=aC;have fin:∀(b:Nat) (aw:ck),fU env x=[b]->J1=ee J b aw->(∀c,bf (ee J' b aw) c=if du xb (.store k x y) env key c then bf J1 c else bf J' c)/\∀c,du xb (.store k x y) env key c=false->bf J1 c=bf J c:=by
     intro b aw ag hs;subst hs;refine⟨λc=>?_,λc ay=>?_⟩
     . simp only[du,ag,rH,p2,nU,nV,dX]
       grind
     . simp only[du,ag,rH,p2,nU,qL]at ay;rw[dX,ah (eW ay)]
    dsimp only at aC⊢;split at aC
    . rename_i b o;have ag:=abo h1;split at aC
      . rename_i bc l7;simp only[gn,fa,fu]at aC;obtain⟨bN,rfl,rfl,dO⟩:=aC;obtain⟨f1,f2⟩:=fin b _ ag dO.symm;refine⟨⟨_,⟨(i',.c (.ptr b o)),h1,d,aa,cs,aA,aU,?_⟩,f1⟩,f2⟩;dsimp only;rw[ht b (by simp[fS,ag]),l7];dsimp only;rw[af bN]
      . rename_i E gA l7;split at aC
        . rename_i c;simp only[fa,fu]at aC;obtain⟨rfl,rfl,dO⟩:=aC;obtain⟨f1,f2⟩:=fin b _ ag dO.symm;refine⟨⟨_,⟨(i',.c (.ptr b 1)),h1,d,aa,_,aA,aU,?_⟩,f1⟩,f2⟩;dsimp only;rw[ht b (by simp[fS,ag]),l7];rfl
        . cases aC
      . cases aC
    . rename_i b sz i o;have ag:=amx h1;split at aC
      . rename_i dp es fO;split at aC
        . rename_i c ay;simp only[fa,fu]at aC;obtain⟨rfl,rfl,dO⟩:=aC;obtain⟨f1,f2⟩:=fin b _ ag dO.symm;refine⟨⟨_,⟨(i',.c (.dw b sz i o)),h1,d,aa,cs,aA,aU,?_⟩,f1⟩,f2⟩;dsimp only;rw[ht b (by simp[fS,ag]),fO];dsimp only;rw[ay]
        rename_i ay;simp only[bK,fa,fu]at aC;obtain⟨ts,bN,rfl,rfl,dO⟩:=aC;obtain⟨f1,f2⟩:=fin b _ ag dO.symm;refine⟨⟨_,⟨(i',.c (.dw b sz i o)),h1,d,aa,cs,aA,aU,?_⟩,f1⟩,f2⟩;dsimp only;rw[ht b (by simp[fS,ag]),fO];dsimp only;rw[ay];dsimp only;rw[bN];rfl
      . rename_i bc l7;simp only[gn,fa,fu]at aC;obtain⟨bN,rfl,rfl,dO⟩:=aC;obtain⟨f1,f2⟩:=fin b _ ag dO.symm;refine⟨⟨_,⟨(i',.c (.dw b sz i o)),h1,d,aa,cs,aA,aU,?_⟩,f1⟩,f2⟩;dsimp only;rw[ht b (by simp[fS,ag]),l7];dsimp only;rw[af bN]
      . rename_i dp es i2 iF gA fO;split at aC
        . rename_i c;split at aC
          . rename_i jq;simp only[fa,fu]at aC;obtain⟨rfl,rfl,dO⟩:=aC;obtain⟨f1,f2⟩:=fin b _ ag dO.symm;refine⟨⟨_,⟨(i',.c (.dw b sz i o)),h1,d,aa,_,aA,aU,?_⟩,f1⟩,f2⟩;dsimp only;rw[ht b (by simp[fS,ag]),fO];dsimp only;rw[af jq]
          . rename_i jq;simp only[bK,fa,fu]at aC;obtain⟨t,bN,rfl,rfl,dO⟩:=aC;obtain⟨f1,f2⟩:=fin b _ ag dO.symm;refine⟨⟨_,⟨(i',.c (.dw b sz i o)),h1,d,aa,_,aA,aU,?_⟩,f1⟩,f2⟩;dsimp only;rw[ht b (by simp[fS,ag]),fO];dsimp only;rw[ah jq,bN];rfl
        . cases aC
      . cases aC
    . cases aC
   case append te sz by' x y=>
    simp only[a7,bK]at aC⊢;obtain⟨⟨i',v0⟩,h1,⟨d1,d2⟩,aa,aC⟩:=aC;dsimp only at aC;cases CU:tV v0 d2 with
    |some r=>
     rw[CU]at aC;have F0:=CU;unfold tV at F0;split at F0
     . rename_i b s1 off len bI s2 tL nS;split at F0
       . cases F0;have rv:=RQ h1;dsimp only at aC;unfold EW at aC;dsimp only at aC;split at aC
         . rename_i p8 es fO;simp only[fa,fu]at aC;obtain⟨rfl,rfl,rfl⟩:=aC;refine⟨⟨ee (lh J' b) key (.arr sz (es.take len++(es.drop tL).take nS)),⟨(i',.c (.arr b s1 off len)),h1,(d1,.c (.je bI s2 tL nS)),aa,?_⟩,λc=>?_⟩,λc ay=>?_⟩
           . dsimp only;rw[CU];dsimp only;unfold EW;dsimp only;rw[ht b (by simp[fS,rv]),fO]
           . simp only[dX,ib,du,rv,rH,p2,nU,tK,nV];by_cases h:c=key
             . subst h;simp
             . rw[ah (eW h)];by_cases bg:c=b
               . subst bg;simp[h,eW h]
               . rw[ah (eW bg),ah (by simp[h,bg])]
           . simp only[du,rv,rH,p2,nU,Hw,qL]at ay;rw[dX,ib,ah (eW ay.1),ah (eW ay.2)]
         . cases aC
       . cases F0
     . cases F0
    |none=>
    rw[CU]at aC;simp only[bK]at aC;obtain⟨bG,aA,aC⟩:=aC;have sD:sV J' d2=some bG:=by
     unfold sV at aA⊢;split at aA
     . exact aA
     . exact aA
     . rename_i b dp off len;rw[ht b (by simp[fS,RQ aa])];exact aA
     . cases aA
    split at aC
    . have rv:fU env x=[]:=by simp[fU,h1]
      simp only[fa,fu]at aC;obtain⟨rfl,rfl,rfl⟩:=aC;refine⟨⟨_,⟨(i',.c .aT),h1,(d1,d2),aa,by dsimp only;rw[CU];simp only[bK];exact⟨bG,sD,rfl⟩⟩,λb=>?_⟩,λb ag=>?_⟩
      . simp only[dX,du,rv,p2,nU,nV];by_cases h:b=key
        . subst h;simp
        . rw[ah (eW h),ah h]
      . simp only[du,rv,p2,nU,qL]at ag;rw[dX,ah (eW ag)]
    . rename_i b dp off len;have rv:=RQ h1;split at aC
      . rename_i MQ es fO;split at aC
        . cases aC
        . rename_i mz;simp only[fa,fu]at aC;obtain⟨rfl,rfl,rfl⟩:=aC
          refine⟨⟨_,⟨(i',.c (.arr b dp off len)),h1,(d1,d2),aa,by
           dsimp only;rw[CU];simp only[bK];refine⟨bG,sD,?_⟩;rw[ht b (by simp[fS,rv]),fO];dsimp only
           rw[ah mz]⟩,λc=>?_⟩,λc ay=>?_⟩
          . simp only[dX,ib,du,rv,rH,p2,nU,tK,nV];by_cases h:c=key
            . subst h;simp
            . rw[ah (eW h)];by_cases bg:c=b
              . subst bg;simp[h,eW h]
              . rw[ah (eW bg),ah (by simp[h,bg])]
          . simp only[du,rv,rH,p2,nU,Hw,qL]at ay;rw[dX,ib,ah (eW ay.1),ah (eW ay.2)]
      . cases aC
    . rename_i b len;have rv:=amw h1;split at aC
      . rename_i c7 es fO;obtain⟨s,hs,aC⟩:=rG.1 aC;cases aC
        refine⟨⟨_,⟨(i',.c (.df b len)),h1,(d1,d2),aa,by
         dsimp only;rw[CU];simp only[bK];refine⟨bG,sD,?_⟩;rw[ht b (by simp[fS,rv]),fO];dsimp only;rw[hs]
         rfl⟩,λc=>?_⟩,λc ay=>?_⟩
        . simp only[dX,ib,du,rv,rH,p2,nU,tK,nV];by_cases h:c=key
          . subst h;simp
          . rw[ah (eW h)];by_cases bg:c=b
            . subst bg;simp[h,eW h]
            . rw[ah (eW bg),ah (by simp[h,bg])]
        . simp only[du,rv,rH,p2,nU,Hw,qL]at ay;rw[dX,ib,ah (eW ay.1),ah (eW ay.2)]
      . cases aC
    . cases aC
   case allocS e e8=>
    simp only[a7,fa,fu]at aC⊢;obtain⟨rfl,rfl,rfl⟩:=aC;refine⟨⟨_,⟨rfl,rfl,rfl⟩,λb=>?_⟩,λb ag=>?_⟩
    . simp only[dX,du,tK,nV];by_cases h:key=b
      . rw[af h,af (.inl h.symm),af h]
      . rw[ah h];by_cases bg:key+1=b
        . rw[af bg,af (.inr bg.symm),ah h,af bg]
        . rw[ah bg,ah (by omega)]
    . simp only[du,Hw,qL]at ag;rw[dX,ah (eW ag.1),dX,ah (eW ag.2)]
   case mkset=>
    simp only[a7,fa,fu]at aC⊢;obtain⟨rfl,rfl,rfl⟩:=aC;refine⟨⟨_,⟨rfl,rfl,rfl⟩,λb=>?_⟩,λb ag=>?_⟩
    . simp only[dX,du,nV];by_cases h:b=key
      . subst h;simp
      . rw[ah (eW h),ah h]
    . simp only[du,qL]at ag;rw[dX,ah (eW ag)]
   case lkset x y=>
    have:=KK rfl aC;subst this;refine⟨⟨J',?_,λb=>rfl⟩,λb _=>rfl⟩;simp only[a7,bK]at aC⊢;obtain⟨⟨i',v0⟩,h1,⟨d1,d2⟩,aa,aC⟩:=aC;refine⟨(i',v0),h1,(d1,d2),aa,?_⟩;dsimp only at aC⊢;split at aC
    . rename_i b s;rw[ht b (by simp[fS,acj h1])];split at aC
      . simp only[fa,fu]at aC⊢;exact⟨aC.1,aC.2.1,trivial⟩
      . cases aC
    . cases aC
   case upset x y=>
    simp only[a7,bK]at aC⊢;obtain⟨⟨i',v0⟩,h1,⟨d1,d2⟩,aa,aC⟩:=aC;dsimp only at aC⊢;split at aC
    . rename_i b s;have ag:=acj h1;split at aC
      . rename_i ks jo;simp only[fa,fu]at aC;obtain⟨rfl,rfl,rfl⟩:=aC
        refine⟨⟨_,⟨(i',.c (.mp b)),h1,(d1,.c (.t (.str s))),aa,by
         dsimp only
         rw[ht b (by simp[fS,ag]),jo]⟩,λc=>?_⟩,λc ay=>?_⟩
        . simp only[du,ag,rH,p2,nU,nV,dX];by_cases h:c=b
          . subst h;simp
          . rw[ah (eW h),ah h]
        . simp only[du,ag,rH,p2,nU,qL]at ay;rw[dX,ah (eW ay)]
      . cases aC
    . cases aC
   case appendB e by' x y=>
    simp only[a7,bK]at aC⊢;obtain⟨⟨i',v0⟩,h1,⟨d1,d2⟩,aa,aC⟩:=aC;dsimp only at aC⊢;split at aC
    . rename_i b len s;have ag:=amw h1;split at aC
      . rename_i c7 es fO;simp only[fa,fu]at aC;obtain⟨rfl,rfl,rfl⟩:=aC
        refine⟨⟨_,⟨(i',.c (.df b len)),h1,(d1,.c (.t (.str s))),aa,by
         dsimp only
         rw[ht b (by simp[fS,ag]),fO]⟩,λc=>?_⟩,λc ay=>?_⟩
        . simp only[dX,ib,du,ag,rH,p2,nU,tK,nV];by_cases h:c=key
          . subst h;simp
          . rw[ah (eW h)];by_cases bg:c=b
            . subst bg;simp[h,eW h]
            . rw[ah (eW bg),ah (by simp[h,bg])]
        . simp only[du,ag,rH,p2,nU,Hw,qL]at ay;rw[dX,ib,ah (eW ay.1),ah (eW ay.2)]
      . cases aC
    . cases aC
   case ustr e x y=>
    simp only[a7,bK]at aC⊢;obtain⟨⟨i',v0⟩,h1,⟨d1,d2⟩,aa,aC⟩:=aC;dsimp only at aC⊢;split at aC
    . rename_i b m;have ag:=asJ h1;split at aC
      . rename_i c7 es fO;simp only[fa,fu]at aC;obtain⟨rfl,rfl,rfl⟩:=aC
        refine⟨⟨_,⟨(i',.c (.gw b)),h1,(d1,.c (.t (.int .i64 m))),aa,by
         dsimp only
         rw[ht b (by simp[fS,ag]),fO]⟩,λc=>?_⟩,λc ay=>?_⟩
        . simp only[ib,du,ag,rH,p2,nU,nV];by_cases h:c=b
          . subst h;simp
          . rw[ah (eW h),ah h]
        . simp only[du,ag,rH,p2,nU,qL]at ay;rw[ib,ah (eW ay)]
      . cases aC
    . cases aC
   all_goals simp[a7]at aC
inductive DStep (xb:List Nat)(P:Program)(o:cF)(key:Nat)(env:Env)(J:br)(g:Bool)(v:V):br->Prop
 |op {p:Prop} {J2:br} (az:jB env o.guard = some g) (av:o.op.drawn = true) (aC:a7 o.op env J key = some (p,v,J2)) (ar:g = true->p) (b4:o.op.neutral = true\/g = true):
  DStep xb P o key env J g v (if o.op.neutral then J else J2)
 |skip (az:jB env o.guard=some g) (aJ:g=false):DStep xb P o key env J g v J
 |call {p:Prop} {f:Nat} {args:List ba} {vs:List V} (aO:o.op = .call f args) (az:jB env o.guard = some g) (aC:l4 env args = some (p,vs)) (ar:g = true->p/\V.aP.V.e3 (lt 0) vs = true/\v.aP (lt 0) = true/\gf P f vs [] 0 (λfw _ _=>fw = v)):
  DStep xb P o key env J g v J
 |mV {p q:Prop} {f:Nat} {x:ba} {args:List ba} {vs:List V} (aO:o.op = .mV x args) (a':o.guard = none) (jG:g = true) (I:x.get env = some (q, .c (.fn f []))) (aE:q) (ag:kL P f = true) (aC:l4 env args = some (p,vs))
  (ar:p/\V.aP.V.e3 (lt 0) vs=true/\v.aP (lt 0)=true/\gf P f vs [] 0 (λfw _ _=>fw=v)):DStep xb P o key env J g v J
 |own {p:Prop} {f:Nat} {args:List ba} {vs:List V} {r:V} {s:br} {M:Nat} (aO:o.op = .call f args) (az:jB env o.guard = some g) (a':o.guard = none) (aC:l4 env args = some (p,vs)) (ar:p) (ag:V.aP.V.e3 (lt 0) vs = true) (fN:M<=16) (hk:s.all (λx=>x.1<16) = true)
  (ay:gf P f vs [] 0 (λfw s' Ce=>fw=r/\s'=s/\Ce=M)) (aF:v=r.sh key):DStep xb P o key env J g v (um J key s)
 |raw {p:Prop} {f:Nat} {args:List ba} {vs:List V} {bs:List Nat} {r:V} {s:br} {M:Nat} (aO:o.op = .call f args) (az:jB env o.guard = some g) (jG:g = true) (aC:l4 env args = some (p,vs)) (ar:p)
  (cC:bs.Nodup) (aV:∀b,b∈bs->b<key) (et:∀b,b∈bs->∃x,bf J b=some x) (j3:∀b,b∈bs->b∈r1 env args++xb) (fN:M<=bs.length+16) (hk:s.all (λx=>decide (x.1<bs.length+16))=true)
  (ay:gf P f (vs.map (V.cu bs)) (iR bs J 0 bs) bs.length (λfw s' Ce=>fw=r/\s'=s/\Ce=M)) (aF:v=r.cW (back bs key)):DStep xb P o key env J g v (lz J bs (back bs key) s)
theorem DStep.lu{o:cF}{g:Bool}{v:V}(h:DStep xb P o key env J g v J1){K:Env->br->Prop}(cq:K (gh env o.dst g v) J1):lu P o key env J K:=by
 cases h with
 | @op p J2 az av aC ar b4=>
  grind[Shv.lu,a7]
 |skip az aJ=>
  grind[Shv.lu]
 | @call p f args vs aO az aC ar=>
  unfold Shv.lu
  grind[mj.aji]
 | @mV p q f x args vs aO a' jG I aE ag aC ar=>
  grind[Shv.lu,jB,mj.aji]
 | @raw p f args vs bs r s M aO az jG aC ar cC aV et j3 fN hk ay aF=>
  unfold Shv.lu;rw[aO];dsimp;have fr:mj P f vs J key (λfw J'=>K (gh env o.dst true fw) J'):=by
   refine mj.aCa cC aV et ay ?_
   grind
  grind
 | @own p f args vs r s M aO az a' aC ar ag fN hk ay aF=>
  unfold Shv.lu;rw[az];rw[aO]
  grind[jB,mj.aB']
theorem ack{o:cF}{t:Nat}(h:t∈o.op.reads):t∈o.rd:=by grind[cF.rd]
theorem Ln{o:cF}(h:∀t,t∈o.rd->look env' t=look env t):jB env' o.guard=jB env o.guard:=by
 grind[jB,cF.rd]
theorem XA{s:br}(hk:s.all (λx=>x.1<16)=true){b:Nat}(ag:¬(key<=b/\b<key+16))(J:br):bf (um J key s) b=bf J b:=by
 rw[KY];by_cases h:key<=b
 . have:bf s (b-key)=none:=by
    cases hs:bf s _ with
    |none=>rfl
    |some x=>
     have:∀{s:br} {c:Nat} {x:ck},bf s c=some x->s.all (λx=>x.1<16)=true->c<16:=by
      induction s with
      |nil=>grind[bf]
      |cons y r ih=>
       grind[bf]
     grind
   grind
 grind
theorem sf{x:ba}(h:∀t,t∈x.tmps->look env' t=look env t):fU env' x=fU env x:=by
 unfold fU;rw[eT h]
theorem Zk{args:List ba}(h:∀t,t∈args.flatMap ba.tmps->look env' t=look env t):r1 env' args=r1 env args:=by
 induction args with
 |nil=>rfl
 |cons x r ih=>
  grind[r1,eT]
theorem atz{o:dG}(h:∀t,t∈o.reads->look env' t=look env t)(b:Nat):du xb o env' key b=du xb o env key b:=by
 cases o<;>try rfl
 case store k x v=>grind[du,sf,dG.reads]
 case append te sz by' x y=>grind[du,sf,dG.reads]
 case upset x y=>grind[du,sf,dG.reads]
 case appendB e k x y=>grind[du,sf,dG.reads]
 case ustr e x y=>grind[du,sf,dG.reads]
 case call f args=>simp[du];rw[Zk h]
theorem atA{o:dG}(h:∀t,t∈o.reads->look env' t=look env t):fS xb o env' key=fS xb o env key:=by
 cases o<;>try rfl
 case b2s x=>grind[fS,sf,dG.reads]
 case load g k x=>grind[fS,sf,dG.reads]
 case store k x v=>grind[fS,sf,dG.reads]
 case lkset x y=>grind[fS,sf,dG.reads]
 case upset x y=>grind[fS,sf,dG.reads]
 case appendB e k x y=>grind[fS,sf,dG.reads]
 case ustr e x y=>grind[fS,sf,dG.reads]
 case call f args=>simp[fS];rw[Zk h]
 grind[fS,sf,dG.reads]
theorem DStep.local{o:cF}{g:Bool}{v:V}(h:DStep xb P o key env J g v J1)(he:∀t,t∈o.rd->look env' t=look env t)(ht:∀b,b∈fS xb o.op env key\/du xb o.op env key b=true->bf J' b=bf J b):
 (∃bM,DStep xb P o key env' J' g v bM/\∀b,bf bM b=if du xb o.op env key b then bf J1 b else bf J' b)/\∀b,du xb o.op env key b=false->bf J1 b=bf J b:=by
 have FH:=λt h=>he t (ack h)
 cases h with
 | @op p J2 az av aC ar b4=>
  obtain⟨⟨bM,h1,aa⟩,aA⟩:=asK (J':=J') aC (λb ag=>ht b (.inl ag));have a':o.op.neutral=true->∀b,du xb o.op env key b=false:=by intro a' b;generalize o.op=W9 at a';cases W9<;>simp[dG.neutral]at a'<;>rfl
  refine⟨⟨_,DStep.op (J2:=bM) (p:=p) (by rw[Ln he];exact az) av (by rw[atY FH];exact h1) ar b4,λb=>?_⟩,λb ag=>?_⟩
  . by_cases rA:o.op.neutral=true
    . rw[af rA,a' rA b];rfl
    . rw[ah rA,ah rA];exact aa b
  . by_cases rA:o.op.neutral=true
    . rw[af rA]
    . rw[ah rA];exact aA b ag
 |skip az aJ=>
  refine⟨⟨J',DStep.skip (by rw[Ln he];exact az) aJ,λb=>?_⟩,λb _=>rfl⟩;split
  . rename_i hw;exact ht b (.inr hw)
  . rfl
 | @call p f args vs aO az aC ar=>
  refine⟨⟨J',DStep.call aO (by rw[Ln he];exact az) (by rw[KZ λt h=>FH t (by rw[aO];exact h)];exact aC) ar,λb=>?_⟩,λb _=>rfl⟩;split
  . rename_i hw;exact ht b (.inr hw)
  . rfl
 | @mV p q f x args vs aO a' jG I aE ag aC ar=>
  refine⟨⟨J',DStep.mV aO a' jG (by rw[eT λt h=>FH t (by rw[aO];simp[dG.reads,h])];exact I) aE ag (by rw[KZ λt h=>FH t (by rw[aO];simp only[dG.reads,ju];exact .inr h)];exact aC) ar,λb=>?_⟩,λb _=>rfl⟩;split
  . rename_i hw;exact ht b (.inr hw)
  . rfl
 | @own p f args vs r s M aO az a' aC ar ag fN hk ay aF=>
  refine⟨⟨_,DStep.own aO (by rw[Ln he];exact az) a' (by rw[KZ λt h=>FH t (by rw[aO];exact h)];grind) ar ag fN hk ay aF,λb=>?_⟩,λb m'=>?_⟩
  . by_cases ai:key<=b/\b<key+16
    . have hw:du xb o.op env key b=true:=by rw[aO];simp[du,ai.1,ai.2]
      rw[af hw];have e:=ht b (.inr hw);rw[KY,KY,e]
    . rw[XA hk ai];split
      . rename_i hw;rw[XA hk ai];exact ht b (.inr hw)
      . rfl
  grind[du,XA]
 | @raw p f args vs bs r s M aO az jG aC ar cC aV et j3 fN hk ay aF=>
  have aE7:∀b,b∈r1 env args++xb->b∈fS xb o.op env key:=by intro b ag;rw[aO];simp only[fS,ju];exact .inr (ju.1 ag)
  have azz:∀t,t∈args.flatMap ba.tmps->look env' t=look env t:=λt h=>FH t (by rw[aO];exact h)
  refine⟨⟨_,DStep.raw (bs:=bs) aO (by rw[Ln he];exact az) jG (by rw[KZ azz];omega) ar cC aV (λb ag=>by grind) (λb ag=>by grind[Zk]) fN hk
   (by grind[amm]) aF,λb=>?_⟩,λb m'=>?_⟩
  . by_cases hw:du xb o.op env key b=true
    . grind[amn,AZ]
    . grind[du,Bool.or_eq_false_iff,Bool.and_eq_false_iff,decide_eq_false_iff_not,YC]
  grind[du,Bool.or_eq_false_iff,Bool.and_eq_false_iff,decide_eq_false_iff_not,YC]
def I6(xb:List Nat)(P:Program):List cF->Nat->Env->br->(Env->br->Prop)->Prop
 |[],_,env,J,K=>K env J
 |o::r,key,env,J,K=>∃g v J1,DStep xb P o key env J g v J1/\I6 xb P r (key+16) (gh env o.dst g v) J1 K
structure xo (xb:List Nat)(P:Program)(bp:List cF)(N:Nat)(E:Nat->Env)(T:Nat->br)(G:Nat->Bool)(W:Nat->V):Prop where
 step:∀(i:Nat) o,bp[i]?=some o->DStep xb P o (N+16*i) (E i) (T i) (G i) (W i) (T (i+1))/\E (i+1)=gh (E i) o.dst (G i) (W i)
theorem ZI:∀{bp:List cF} {key:Nat} {env:Env} {J:br} {K:Env->br->Prop},I6 xb P bp key env J K->∃E T G W,xo xb P bp key E T G W/\E 0=env/\T 0=J/\K (E bp.length) (T bp.length)
 |[],key,env,J,K,h=>⟨λ_=>env,λ_=>J,λ_=>true,λ_=>.bn [],⟨λi o h=>by grind⟩,rfl,rfl,h⟩
 |o::r,key,env,J,K,h=>by
  obtain⟨g,v,J1,h1,aa⟩:=h;obtain⟨E,T,G,W,ai,aR,bw,cq⟩:=ZI aa;refine⟨λi=>if i=0 then env else E (i-1),λi=>if i=0 then J else T (i-1),λi=>if i=0 then g else G (i-1),λi=>if i=0 then v else W (i-1),⟨λi ed aO=>?_⟩,rfl,rfl,by grind⟩;cases i with
  |zero=>grind
  |succ i=>
   have:=ai.step i ed (by grind)
   grind
end
end
section
open Go
variable {xb:List Nat}
theorem aaq{p:Nat->Bool}:∀{m:Nat},(∃i,i<m/\p i=true)->∃i,i<m/\p i=true/\∀j,j<m->p j=true->j<=i
 |0,⟨i,h,_⟩=>by omega
 |m+1,⟨i,h1,aa⟩=>by
  cases hm:p m with
  |true=>grind
  |false=>
   have:i<m:=by grind
   obtain⟨k,aA,aU,bN⟩:=aaq ⟨i,this,aa⟩
   grind
theorem Kz{P:Program}{nt:Nat}{ops:Array Oper}:∀{l:List Oper} {bp:List cF},kH P nt ops l=some bp->bp.length=l.length
 |[],bp,h=>by grind[kH]
 |o::l,bp,h=>by
  simp[kH,bK,bV]at h;obtain⟨eo,oq,r,ai,rfl⟩:=h;simp[Kz ai]
theorem YD{P:Program}{nt:Nat}{ops:Array Oper}:∀{l:List Oper} {bp:List cF} {i:Nat} {o:Oper},kH P nt ops l=some bp->l[i]?=some o->∃eo,bp[i]?=some eo/\GZ P nt ops o=some eo
 |[],bp,i,o,h,aO=>by grind
 |x::l,bp,i,o,h,aO=>by
  simp[kH,bK,bV]at h;obtain⟨eo,oq,r,ai,rfl⟩:=h;cases i with
  |zero=>grind
  |succ i=>simpa using YD ai (by grind)
theorem Yn:∀{l:List (cF×List Nat)} {k i:Nat} {x:cF×List Nat},Sg k l=true->l[i]?=some x->∀d,d∈x.2->d<k+i
 |[],k,i,x,h,I,d,av=>by grind
 |y::r,k,i,x,h,I,d,av=>by
  simp[Sg]at h;cases i with
  |zero=>grind
  |succ i=>
   have:=Yn h.2 (by simpa using I) d av;omega
theorem atB{L:List (cF×List Nat)}{j i:Nat}(h:ahead L j i=true):j<i/\∃x,L[i]?=some x/\j∈x.2:=by
 grind[ahead]
theorem amy{o:dG}{env:Env}{key b:Nat}(ht:o.ns=true)(hw:du xb o env key b=true):b∈fS xb o env key:=by
 cases o
 case call f args=>
  simp[du]at hw;simp[fS];rcases hw with h|h
  . exact .inl ⟨b-key,by omega,by omega⟩
  grind
 all_goals simp[dG.ns]at ht<;>simp[du,fS]at hw⊢<;>first|exact hw|(rcases hw with h|h;exact .inl h;exact .inr (.inl h))
theorem arO{o:dG}{env:Env}{key:Nat}(ht:o.ns=false):fS xb o env key=[]:=by
 cases o<;>simp[dG.ns]at ht<;>rfl
theorem abp{o:dG}{env:Env}{key b:Nat}(hw:du xb o env key b=true):o.neutral=false:=by
 cases o<;>simp[du]at hw<;>rfl
theorem aen{o:dG}{env:Env}{key b:Nat}(ht:o.ns=false)(hw:du xb o env key b=true):key<=b/\b<key+16:=by
 cases o<;>simp[dG.ns]at ht<;>simp[du]at hw
section
variable {P:Program}{aG:Ctx}{nt kk:Nat}{N:Nat}{ops:Array Oper}{bp:List cF}{E:Nat->Env}{T:Nat->br}{G:Nat->Bool}{W:Nat->V}
theorem Rel.ayD{φ:ea}{S:dV}{env env':Env}{J:br}{n:Nat->Bool}{a:Act}{w:World}(R:Rel aG nt φ S env J n a w)(h:∀t,look env' t=look env t):Rel aG nt φ S env' J n a w:=
 ⟨R.b',λk g v aj=>R.jE k g v (h k▸aj),λk g v aj=>R.kQ k g v (h k▸aj),λk g v aj=>R.jD k g v (h k▸aj),R.eX,R.size,R.defers,R.ext,R.own,R.fix,R.j4⟩
def n0(xb:List Nat)(bp:List cF)(E:Nat->Env)(N i b:Nat):Bool:=match bp[i]? with|some o=>du xb o.op (E i) (N+16*i) b|none=>false
theorem GG(ai:xo xb P bp N E T G W){t:Nat}{i:Nat}:∀{k:Nat},i<=k->k<=bp.length->(∀(j:Nat) (o:cF),i<=j->j<k->bp[j]?=some o->o.dst≠some t)->look (E k) t=look (E i) t:=by
 intro k
 induction k with
 |zero=>grind
 |succ k ih=>
  intro h1 aa aA;by_cases VK:i=k+1
  . grind
  . have hk:k<bp.length:=by omega
    have aO:=gQ hk;rw[(ai.step k _ aO).2,uL]
    grind
theorem Sk(ai:xo xb P bp N E T G W){b:Nat}{i:Nat}:∀{k:Nat},i<=k->k<=bp.length->(∀j:Nat,i<=j->j<k->n0 xb bp E N j b=false)->bf (T k) b=bf (T i) b:=by
 intro k
 induction k with
 |zero=>grind
 |succ k ih=>
  intro h1 aa aA;by_cases VK:i=k+1
  . grind
  . have hk:k<bp.length:=by omega
    have aO:=gQ hk;have hw:=aA k (by omega) (by simp);unfold n0 at hw;rw[aO]at hw;have:=((ai.step k _ aO).1.local (λ_ _=>rfl) (λ_ _=>rfl)).2 b hw
    grind
inductive oJ (D:Nat->List Nat)(j:Nat):Nat->Prop
 |one {i:Nat} (h:j∈D i):oJ D j i
 |step {e i:Nat} (h:oJ D j e) (he:e∈D i):oJ D j i
theorem oJ.ready{D:Nat->List Nat}{n:Nat}{p:Nat->Bool}(ag:∀i d,i<n->d∈D i->d<i)(azu:∀e,e<n->p e=true->∀d,d∈D e->p d=true){j i:Nat}(h:oJ D j i)(ak:i<n)(av:∀d,d∈D i->p d=true):p j=true:=by
 induction h<;>grind
theorem oJ.congr{D adN:Nat->List Nat}{n:Nat}(ag:∀i d,i<n->d∈D i->d<i)(jO:∀i,i<n->D i=adN i){j i:Nat}(h:oJ D j i)(ak:i<n):oJ adN j i:=by
 induction h with
 |one h=>exact .one (by grind)
 |step h he ih=>
  have:=ag _ _ ak he;exact .step (ih (by omega)) (by grind)
theorem al4{D:Nat->List Nat}:∀{l:List (cF×List Nat)} {acc:List (List Nat)},(∀(k:Nat) x,l[k]?=some x->D (acc.length+k)=x.2)->(∀i j,j∈acc.getD i []->oJ D j i)->∀i j,j∈(vT l acc).getD i []->oJ D j i
 |[],acc,_,aC,i,j,h=>aC i j h
 |x::r,acc,jO,aC,i,j,h=>by
  refine al4 (acc:=acc++[(x.2++x.2.flatMap _).eraseDups]) (λk y ao=>?_) (λi j aM=>?_) i j h
  . have:=jO (k+1) y (by grind)
    grind
  . rw[List.getD_eq_getElem?_getD,List.getElem?_append]at aM;split at aM
    . grind
    . cases hk:i-acc.length with
      |succ k=>grind
      |zero=>
       rw[hk]at aM;have nM:i=acc.length:=by omega
       have I:=by simpa using jO 0 x rfl
       simp[QF]at aM;rcases aM with aM|⟨e,he,aM⟩
       . exact .one (by grind)
       . exact .step (aC e j aM) (by grind)
structure Stat (xb:List Nat)(bp:List cF)(D:Nat->List Nat)(E:Nat->Env)(N:Nat):Prop where
 back:∀i d,i<bp.length->d∈D i->d<i
 HP:∀(i j:Nat) (x y:cF) (d:Nat),bp[i]?=some x->bp[j]?=some y->y.dst=some d->(d∈x.rd->(j<i/\j∈D i)\/(x.op.neutral=true/\x.op.ns=false/\i<j/\i∈D j))/\(i=j\/x.dst≠some d)
 ord:∀i j b,i≠j->i<bp.length->j<bp.length->n0 xb bp E N i b=true->((∃y:cF,bp[j]?=some y/\b∈fS xb y.op (E j) (N+16*j))\/n0 xb bp E N j b=true)->(i<j/\oJ D i j)\/(j<i/\oJ D j i)
def used(N m:Nat)(listed:Array Bool):Nat->Bool:=λb=>lt N b||(List.range m).any λi=>listed.getD i false&&(decide (N+16*i<=b)&&decide (b<N+16*i+16))
structure Inv (xb:List Nat)(aG:Ctx)(nt:Nat)(bp:List cF)(D:Nat->List Nat)(N:Nat)(E:Nat->Env)(T:Nat->br)(G:Nat->Bool)(W:Nat->V)(listed:Array Bool)(φ:ea)(S:dV)(env:Env)(J:br)(a:Act)(w:World):Prop where
 rel:Rel aG nt φ S env J (used N bp.length listed) a w
 size:listed.size=bp.length
 down:∀i,i<bp.length->listed.getD i false=true->∀d,d∈D i->listed.getD d false=true
 e0:∀t,(∀(i:Nat) (o:cF),bp[i]?=some o->listed.getD i false=true->o.dst≠some t)->look env t=look (E 0) t
 aR:∀t (i:Nat) (o:cF),bp[i]?=some o->listed.getD i false=true->o.dst=some t->look env t=some (G i,W i)
 qQ:∀b,(∀i,i<bp.length->listed.getD i false=true->n0 xb bp E N i b=false)->bf J b=bf (T 0) b
 s1:∀b i,i<bp.length->listed.getD i false=true->n0 xb bp E N i b=true->(∀j,j<bp.length->listed.getD j false=true->n0 xb bp E N j b=true->j<=i)->bf J b=bf (T (i+1)) b
theorem rf{listed:Array Bool}{i j:Nat}(ak:i<listed.size):(listed.setIfInBounds i true).getD j false=if j=i then true else listed.getD j false:=by
 by_cases h:j=i
 . simp_all
 simp_all[eW]
theorem Inv.agree {listed:Array Bool}{D:Nat->List Nat}{φ:ea}{S:dV}{env:Env}{J:br}{a:Act}{w:World}(dR:Inv xb aG nt bp D N E T G W listed φ S env J a w)(st:Stat xb bp D E N)(ai:xo xb P bp N E T G W)
 {i:Nat}{o:cF}(aO:bp[i]?=some o)(a':listed.getD i false=false)(av:∀d,d∈D i->listed.getD d false=true):
 (∀t,t∈o.rd->look env t=look (E i) t)/\∀b,b∈fS xb o.op (E i) (N+16*i)\/du xb o.op (E i) (N+16*i) b=true->bf J b=bf (T i) b:=by
 have ak:i<bp.length:=(fv.1 aO).1;refine⟨λt ht=>?_,λb ag=>?_⟩
 . by_cases hw:∃(j:Nat) (y:cF),bp[j]?=some y/\y.dst=some t
   . obtain⟨j,y,ao,hh⟩:=hw;rcases (st.HP i j o y t aO ao hh).1 ht with⟨h1,aa⟩|⟨_,_,h1,aa⟩
     . rw[dR.aR t j y ao (av j aa) hh];have:look (E (j+1)) t=some (G j,W j):=by rw[(ai.step j y ao).2,uL,af hh]
       rw[<-this]
       symm
       refine GG ai (by omega) (by omega) λk z nN sy bq tA=>?_
       rcases (st.HP k j z y t bq ao hh).2 with h|h
       all_goals grind
     . have aM:j<bp.length:=(fv.1 ao).1;have P0:∀(k:Nat) (z:cF),bp[k]?=some z->z.dst=some t->k=j:=by
        intro k z bq tA;rcases (st.HP k j z y t bq ao hh).2 with h|h
        . grind
        grind
       rw[dR.e0 t λk z bq aj tA=>by
        have:=P0 k z bq tA;subst this;have:=dR.down k aM aj i aa
        grind]
       symm
       refine GG ai (nj _) (by omega) λk z _ hk bq tA=>?_
       grind
   . have wS:=λj y ao h=>hw ⟨j,y,ao,h⟩
     rw[dR.e0 t λj y ao _=>wS j y ao]
     symm
     exact GG ai (nj _) (by omega) λj y _ _ ao=>wS j y ao
 . have AL:∀j,j≠i->j<bp.length->n0 xb bp E N j b=true->(j<i/\oJ D j i)\/(i<j/\oJ D i j):=by
    intro j aM lG JR;refine st.ord j i b aM lG ak JR ?_
    grind[n0]
   have aj:∀j,j<bp.length->listed.getD j false=true->n0 xb bp E N j b=true->j<i:=by
    intro j lG ah4 JR;have b4:j≠i:=by grind
    rcases AL j b4 lG JR with h|h
    . grind
    . have:=h.2.ready st.back dR.down lG (dR.down j lG ah4)
      grind
   have e4:∀j,j<i->n0 xb bp E N j b=true->listed.getD j false=true:=by
    intro j yV JR;rcases AL j (by omega) (by omega) JR with h|h
    . exact h.2.ready (p:=λk=>listed.getD k false) st.back dR.down ak av
    grind
   by_cases hex:∃j,j<i/\n0 xb bp E N j b=true
   . obtain⟨j,AD,JQ,VL⟩:=aaq hex;rw[dR.s1 b j (by omega) (e4 j AD JQ) JQ (λk nN sy PT=>VL k (aj k nN sy PT) PT)]
     grind[Sk]
   . have wS:∀j,j<i->n0 xb bp E N j b=false:=by grind
     rw[dR.qQ b λj lG ah4=>by grind]
     symm
     exact Sk ai (nj _) (by omega) λj _ aM=>wS j aM
theorem atZ{m:Nat}{listed:Array Bool}{i b:Nat}(ak:i<listed.size)(h:gC (used N m listed) (N+16*i) b=true)(FN:i<m):used N m (listed.setIfInBounds i true) b=true:=by
 simp only[gC,used,tK]at h⊢
 grind[rf]
theorem amz{m:Nat}{listed:Array Bool}{i:Nat}(a':listed.getD i false=false){b:Nat}(h1:N+16*i<=b)(aa:b<N+16*i+16):used N m listed b=false:=by
 simp only[used]
 grind[lt]
theorem Inv.step {listed:Array Bool}{D:Nat->List Nat}{φ bB:ea}{S bC:dV}{env:Env}{J bM:br}{a cx:Act}{w w':World}(dR:Inv xb aG nt bp D N E T G W listed φ S env J a w)(st:Stat xb bp D E N)(ai:xo xb P bp N E T G W)
 {i:Nat}{o:cF}(aO:bp[i]?=some o)(a':listed.getD i false=false)(av:∀d,d∈D i->listed.getD d false=true)
 (cQ:∀b,bf bM b=if du xb o.op (E i) (N+16*i) b then bf (T (i+1)) b else bf J b)
 (R:Rel aG nt bB bC (gh env o.dst (G i) (W i)) bM (gC (used N bp.length listed) (N+16*i)) cx w'):
 Inv xb aG nt bp D N E T G W (listed.setIfInBounds i true) bB bC (gh env o.dst (G i) (W i)) bM cx w':=by
 have ak:i<bp.length:=(fv.1 aO).1;have nb:i<listed.size:=by rw[dR.size];exact ak
 have aiH:∀b,n0 xb bp E N i b=du xb o.op (E i) (N+16*i) b:=λb=>by unfold n0;rw[aO]
 refine⟨R.more λb ag=>atZ nb ag ak,by simp[dR.size],λj aM aj d qE=>?_,λt ht=>?_,λt j y ao aj hh=>?_,λb ag=>?_,λb j aM aj hw kn=>?_⟩
 . rw[rf nb]at aj⊢;split
   . rfl
   . split at aj
     . rename_i e;subst e;exact av d qE
     . exact dR.down j aM aj d qE
 . rw[uL,ah (ht i o aO (by rw[rf nb,af rfl]))];exact dR.e0 t λj y ao aj=>ht j y ao (by rw[rf nb];split;rfl;exact aj)
 . rw[uL];rw[rf nb]at aj;by_cases yV:j=i
   . grind
   . rw[ah yV]at aj;rw[ah (λh=>?_)]
     . exact dR.aR t j y ao aj hh
     . rcases (st.HP i j o y t aO ao hh).2 with bg|bg
       all_goals grind
 . rw[cQ b];have AL:=ag i ak (by rw[rf nb,af rfl]);rw[aiH]at AL;rw[AL];exact dR.qQ b λj aM aj=>ag j aM (by grind[rf])
 . rw[cQ b];rw[rf nb]at aj;by_cases AL:du xb o.op (E i) (N+16*i) b=true
   . have VJ:i<=j:=kn i ak (by simp_all) (by grind);by_cases yV:j=i
     . grind
     ·
      rw[ah yV]at aj;rcases st.ord i j b (eW yV) ak aM (by rw[aiH];exact AL) (.inr hw)with h|h
      . have:=h.2.ready st.back dR.down aM (dR.down j aM aj);rw[a']at this;cases this
      . omega
   . rw[ah AL];by_cases yV:j=i
     . grind
     . rw[ah yV]at aj;exact dR.s1 b j aM aj hw λk hk hZ Qa=>kn k hk (by grind[rf]) Qa
theorem Inv.done {listed:Array Bool}{D:Nat->List Nat}{φ:ea}{S:dV}{env:Env}{J:br}{a:Act}{w:World}(dR:Inv xb aG nt bp D N E T G W listed φ S env J a w)(st:Stat xb bp D E N)(ai:xo xb P bp N E T G W)
 (c8:∀i,i<bp.length->listed.getD i false=true):Rel aG nt φ S (E bp.length) (T bp.length) (lt (N+16*bp.length)) a w:=by
 refine((dR.rel.ayD λt=>?_).congr λb=>?_).more λb ag=>?_
 . by_cases hw:∃(j:Nat) (y:cF),bp[j]?=some y/\y.dst=some t
   . obtain⟨j,y,ao,hh⟩:=hw;have aM:=(fv.1 ao).1;rw[dR.aR t j y ao _ _];have:look (E (j+1)) t=some (G j,W j):=by rw[(ai.step j y ao).2,uL,af hh]
     rw[<-this];refine GG ai (by omega) (gP _) λk z nN sy bq tA=>?_
     rcases (st.HP k j z y t bq ao hh).2 with h|h
     all_goals grind
   . have wS:=λj y ao h=>hw ⟨j,y,ao,h⟩
     rw[dR.e0 t λj y ao _=>wS j y ao];exact GG ai (nj _) (gP _) λj y _ _ ao=>wS j y ao
 . by_cases hex:∃j,j<bp.length/\n0 xb bp E N j b=true
   . obtain⟨j,AD,JQ,VL⟩:=aaq hex;rw[dR.s1 b j AD (c8 j AD) JQ (λk nN _ PT=>VL k nN PT)];refine Sk ai (by omega) (gP _) λk nN sy=>?_
     grind
   . have wS:∀j,j<bp.length->n0 xb bp E N j b=false:=by grind
     rw[dR.qQ b λj lG _=>wS j lG];exact Sk ai (nj _) (gP _) λj _ aM=>wS j aM
 . simp[used,lt]at ag⊢
   grind
theorem aqH {D:Nat->List Nat}(st:Stat xb bp D E N)(ai:xo xb P bp N E T G W)(hres:kH P nt ops ops.toList=some bp)(jO:∀(i:Nat) o,ops[i]?=some o->D i=ly o){Q:Exit->Act->World->Prop}
 (e1:∀φ S a w,Rel aG nt φ S (E bp.length) (T bp.length) (lt (N+16*bp.length)) a w->Q .normal a w):
 ∀(fuel:Nat) (listed:Array Bool) φ S env J a w,listed.toList.countP (· ==false)<=fuel->Inv xb aG nt bp D N E T G W listed φ S env J a w->wpAny P .any ops Q fuel listed a w:=by
 have hlen:=Kz hres;simp at hlen;have Wa:∀(listed:Array Bool) (φ:ea) (S:dV) (env:Env) (J:br) (a:Act) (w:World),Inv xb aG nt bp D N E T G W listed φ S env J a w->Region.ready .any ops listed=[]->∀i,i<bp.length->listed.getD i false=true:=by
  intro listed φ S env J a w dR rB i
  induction i using Nat.strongRecOn with
  |_ i ih=>
   intro ak;cases aj:listed.getD i false with
   |true=>rfl
   |false=>
    have FO:i<ops.size:=by omega
    have aO:ops[i]?=some ops[i]:=QO FO;have:i∈Region.ready .any ops listed:=by
     rw[mem_ready];refine⟨?_,ops[i],aO,λe he ag=>?_⟩
     . have nb:i<listed.size:=by rw[dR.size];grind
       grind
     . have av:e.on∈D i:=by
        rw[jO i _ aO];simp only[ly,gO,BF]
        grind
       exact ih e.on (st.back i _ ak av) (by have:=st.back i _ ak av;omega)
    grind
 have JK:∀(listed:Array Bool) (φ:ea) (S:dV) (env:Env) (J:br) (a:Act) (w:World),Inv xb aG nt bp D N E T G W listed φ S env J a w->Region.ready .any ops listed=[]->Q .normal a w:=by
  intro listed φ S env J a w dR rB;exact e1 φ S a w (dR.done st ai (Wa listed φ S env J a w dR rB))
 intro fuel
 induction fuel with
 |zero=>
  intro listed φ S env J a w ay dR;have c8:∀i,i<bp.length->listed.getD i false=true:=by
   intro i ak;have nb:i<listed.size:=by rw[dR.size];grind
   cases aj:listed.getD i false with
   |true=>rfl
   |false=>
    exfalso
    have h0:listed.toList.countP (· ==false)=0:=by omega
    rw[List.countP_eq_zero]at h0;simp[nb]at aj;exact h0 listed[i] (by simp) (by grind)
  have rB:Region.ready .any ops listed=[]:=by
   rw[aje]
   grind[mem_ready]
  exact⟨rB,JK listed φ S env J a w dR rB⟩
 |succ fuel ih=>
  intro listed φ S env J a w ay dR;refine⟨JK listed φ S env J a w dR,λi ak=>?_⟩;rw[mem_ready]at ak;obtain⟨h1,o,aO,azr⟩:=ak;have nb:i<listed.size:=by grind
  have a':listed.getD i false=false:=by grind
  obtain⟨eo,oq,u5⟩:=YD hres (i:=i) (o:=o) (by simpa using aO);have av:∀d,d∈D i->listed.getD d false=true:=by
   intro d av;rw[jO i o aO]at av;simp only[ly,gO,BF]at av
   grind
  obtain⟨Vj,yN⟩:=dR.agree st ai oq a' av;obtain⟨⟨bM,hs,cQ⟩,_⟩:=(ai.step i eo oq).1.local (env':=env) (J':=J) Vj yN;have mC:=RH dR.rel (key:=N+16*i) (λb kU jn=>amz a' kU jn) u5 (K:=λe s=>e=gh env eo.dst (G i) (W i)/\s=bM) (hs.lu ⟨rfl,rfl⟩) (Q:=Q)
  have next:∀cx w',pz aG nt (gC (used N bp.length listed) (N+16*i)) (λe s=>e=gh env eo.dst (G i) (W i)/\s=bM) cx w'->wpAny P .any ops Q fuel (listed.setIfInBounds i true) cx w':=by
   rintro cx w' ⟨bB,bC,e,s,⟨rfl,rfl⟩,R'⟩
   refine ih _ bB bC _ _ cx w' ?_ (dR.step st ai oq a' av cQ R');have:listed.toList[i]?=some false:=by simp[nb]at a'⊢;exact a'
   grind
  unfold wpOp;rw[aO];dsimp only;split at mC
  . rename_i hw;rw[af hw];exact .inl (Oper.wp_mono next mC)
  grind
end
end
end Go.Proofs.YtklfhpkljddjbaaGreatDoor.Shv
