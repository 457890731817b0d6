/- The library of this proof, part B: an abstract machine for the code of the program, and its soundness. -/
import Derived.Lib.UnsafeStr
import Derived.ChangeKeysEq
import Derived.Orders
import Derived.LoopN
import Derived.Test.YtkbmjabicjpmjaaGreatDoorCeLA

namespace Go.Proofs.YtkbmjabicjpmjaaGreatDoor.Shv
set_option linter.all false
section
open Go
theorem C.jT(c:C):c.aA (λ_=>true)=true:=by cases c<;>simp[C.aA]
variable{e t fz yt:TypeId}{o:Oper}{x:Operand}{α:Type}{es:List (List T)}{b0 off f id:Nat}{c:Call}{g:Bool}{dst:Option Nat}{gd:Option (Nat×Bool)}{Q:Exit->Act->World->Prop}{K:Env->a8->Prop}{code:Code}{a':List b5}{bs:aZ}{bg:c0}
section
variable {P:Program}{au:Ctx}{nt kk:Nat}{φ:c0}{S bj:c6}{env:Env}{J:a8}{N key:Nat}{n:Nat->Bool}{a:Act}{w w':World}
theorem Rel.extend(R:Rel au nt φ S env J n a w)(e:Ext (λ_=>False) S bj w w')(L:∀b j,bj b j->b<w'.heap.size):Rel au nt φ bj env J n a w':=by
 have aa:=λb K=>e.block b K (λh=>h);have A:∀b x,aP J b=some x->(φ b).2≠0->∀j,¬bj (φ b).1 j:=by
  intro b x I h0 j F;have c7:=R.bD.blk b x I;rcases e.j9 _ _ F with h|h|h
  . exact c7.nw h0 j h
  . grind
  . have:=c7.iA h0;omega
 refine⟨⟨λb x I=>?_,R.bD.inj,L⟩,λk g v ag ao=>?_,R.gp,R.fI,R.dz,R.size,R.defers,?_,R.own,R.fix,R.fT⟩
 . have c7:=R.bD.blk b x I;cases x with
   |box cs=>
    obtain⟨h0,vs,E,h1,f,q⟩:=c7;refine⟨h0,vs,E,(aa _ (mQ h1)).trans h1,f.imp λc v M y=>bq.mono e.mono (λ_ _=>rfl) (C.jT _) y,A b _ I h0⟩
   |arr sz es=>
    obtain⟨h1,f,q,B,bh⟩:=c7;refine⟨h1,f,q,B,λh0=>?_⟩;obtain⟨vs,E,bn,bt,bY,cw⟩:=bh h0;exact⟨vs,E,(aa _ (mQ bn)).trans bn,bt,λi j D t he ht=>let⟨v,G,y⟩:=bY i j D t he ht;⟨v,G,bP.mono e.mono y⟩,A b _ I h0⟩
   |set ks=>
    obtain⟨h0,⟨es,c,h1,f⟩,q⟩:=c7;exact⟨h0,⟨es,c,(aa _ (mQ h1)).trans h1,f⟩,A b _ I h0⟩
   |buf E s=>
    obtain⟨h1,f,q⟩:=c7;refine⟨h1,f,λh0=>?_⟩;grind
   |b1 E c=>
    obtain⟨h0,⟨p,v,h1,f,q⟩,B⟩:=c7;exact⟨h0,⟨p,v,(aa _ (mQ h1)).trans h1,f,bq.mono e.mono (λ_ _=>rfl) (C.jT _) q⟩,A b _ I h0⟩
   |cx sz es i o c=>
    obtain⟨⟨h1,f,q,B,bh,H⟩,⟨vs,E,bn,bt,bY,v,cw,cW⟩,dm⟩:=c7;exact⟨⟨h1,f,q,B,bh,H⟩,⟨vs,E,(aa _ (mQ bn)).trans bn,bt,λi j D t he ht aV=>let⟨v,G,y⟩:=bY i j D t he ht aV;⟨v,G,bP.mono e.mono y⟩,v,cw,bq.mono (n:=λ_=>true) e.mono (λ_ _=>rfl) (C.jT _) cW⟩,A b _ I (by omega)⟩
 . obtain⟨x,I,y⟩:=R.fJ k g v ag ao;exact⟨x,I,b2.mono e.mono (λ_ _=>rfl) (R.fI k g v ag ao) y⟩
 . refine⟨e.os.trans R.ext.os,e.tape.trans R.ext.tape,e.output.trans R.ext.output,hK R.ext.size e.size,λb aF c7=>?_,R.ext.mono.trans e.mono,λb j F=>?_⟩
   . exact(aa b (ix aF R.ext.size)).trans (R.ext.block b aF c7)
   . rcases e.j9 _ _ F with h|h|h
     . exact R.ext.j9 b j h
     . grind
     . exact .inr (.inr (hK R.ext.size h))
theorem Vf(R:Rel au nt φ S env J n a w){ty:TypeId}{len:Nat}{parts:Array (Nat×Operand)}(Z:o.op= .buildSlice ty len parts)(ab:P.underlying ty=some (.slice e)){sz:Nat}(aa:ea P e=some sz)
 {z:List C}(L:jr P e=some z){ps:List (Nat×aO)}(H:oe parts.toList=some ps)(h0:sz≠0)(M:z.length=sz)(Y:len*sz<=2^24)
 {p v J'}(X:n key=false)(h:aM (.bsliceT e sz len z ps) env J key=some (p,v,J'))(al:p):Good P au nt env J' (ins n key) a v ((execOp a.eval o).run P w):=by
 simp only[aM,bk,bx,dW]at h;obtain⟨k,O,⟨q,f⟩,g,rfl,rfl,rfl⟩:=h;obtain⟨i,d,r,ag,m,V⟩:=rF (φ:=φ) (w:=w) (S:=S) (n:=n) L;have N:=pU O m;have ae:d.cells.size=sz:=by rw[<-zS,<-m.length,M]
 have y:0<sz:=by omega
 have af:k.length=sz:=by grind[uC]
 obtain ⟨us,h1,E,l,U,bh,_⟩:= Fx R y H g al (es:= List.replicate len k) (vs:= ((Array.range (len*sz)).map (d.cells[· % d.cells.size]!)).toList) (by
  grind) (by simp) (by
  intro i j e t he ht;have:e=k:=by
   grind
  subst this;obtain⟨x,I,K⟩:=N.get ht
  grind[FK])
 simp at l;have s:len<=dk:=by
  have:len<=len*sz:=Du len y;grind[dk]
 have u:=R.bD.st;have Q:fP w S (w.alloc (.cells us.toArray e)) (λb j=>S b j\/b=w.heap.size):=⟨λ_ _ h=>.inl h,λb j h=>pJ (q7 (u b j h)) j⟩
 have A:Ext (λ_=>False) S _ w (w.alloc (.cells us.toArray e)):=
  ⟨rfl,rfl,rfl,by simp,λb g _=>q7 g,Q,λb j h=>by grind⟩
 have B:=R.extend A (λb j h=>by
  rcases h with h|h
  . have:=u b j h;simp;omega
  simp_all)
 refine⟨.slice (some ⟨w.heap.size,0,none⟩) len len,φ,_,_,.inl ?_,?_,rfl,B.more λ_ h=>j0 h⟩
 . have T:Instr.fill (λi=>some (i*sz,sz)) ((Array.range (len*sz)).map (d.cells[· % d.cells.size]!)) ((parts.map λ(i,x)=>(i,a.eval x)).toList)=some us.toArray:=by
    rw[Array.toList_map];omega
   simp_all[QS,execOp,Sem.run_bind,Result.andThen_ok]
 . refine .c ?_;have F:f.length=len:=l;rw[<-F]at s⊢;have G:∀j,(w.alloc (.cells us.toArray e)).cell? _=us[j]?:=λj=>ic heap_alloc_new j;refine bP.slice f _ _ sz w.heap.size 0 (λi j=>(us[i*sz+j]?).getD undef) (e6 _) s E (λ_=>rfl) (λi j r W=>⟨.inr rfl,?_⟩) (λi j D t he ht=>?_)
   . rw[gS,G];have aF:i*sz+j<us.length:=by
      have:=eY sz (show i+1<=f.length from r);grind
     grind
   . obtain⟨v,ad,K⟩:=bh i j D t he ht;grind[bP.mono]
theorem Un{ty:TypeId}{e8:Nat}(h:wS P ty=some e8):∃i z,P.info? ty=some i/\i.zero=some z/\z.cells=#[.pointer none,.slice none 0 0]:=by
 grind[wS,Jz,bk,Ql]
theorem WG(R:Rel au nt φ S env J n a w){ty:TypeId}(t:o.op= .alloc ty){e8:Nat}(f:wS P ty=some e8)
 {p v J'}(r:n key=false)(l:n (key+1)=false)(h:aM (.allocS ty e8) env J key=some (p,v,J'))(al:p):Good P au nt env J' (ins (ins n (key+1)) key) a v ((execOp a.eval o).run P w):=by
 obtain⟨rfl,rfl,rfl⟩:=h;obtain⟨i,z,q,u,A⟩:=Un f;have s:∀j,¬S w.heap.size j:=λj h=>by have:=R.bD.st _ _ h;omega
 have b:=(R.alloc (.cells #[.pointer none,.slice none 0 0] ty)).iP l (x:= .buf e8 []) (0,0) rfl (by simp[cU,dq]) (by simp);have g:ins n (key+1) key=false:=by grind[ins]
 have d:=b.iP g (x:= .b1 ty (.cj (key+1) 0)) (w.heap.size,1) (by simp[bT.aA,C.aA,ins]) (by
  grind[cU,heap_alloc_new,bq,et]) (λ_=>⟨λk y ak h0=>by
   rw[cQ]at ak;split at ak
   . grind[dq]
   . rename_i m;have e:(φ k).2≠0:=(by simp_all[et,du]);have:=(R.bD.blk k y ak).iA e;simp[et,du m]
     omega,.inr R.ext.size⟩)
 refine⟨.pointer (some ⟨w.heap.size,0,none⟩),_,S,_,.inl ?_,.c ?_,by simp[V.aA,C.aA,ins],d⟩
 . simp_all[execOp,Instr.alloc,zeroValue,typeInfo,newVar,newRow]
 grind[bq,dq]
theorem QB(h:rK P t=true):∃k v i,P.underlying t=some (.map k v)/\P.underlying k=some .string/\P.info? v=some i/\i.zero=some (.bool false):=by
 grind[rK,bk]
theorem Xm(R:Rel au nt φ S env J n a w)(f:o.op= .makeMap t none)
 {p v J'}(d:n key=false)(h:aM .mkset env J key=some (p,v,J'))(al:p):Good P au nt env J' (ins n key) a v ((execOp a.eval o).run P w):=by
 obtain⟨rfl,rfl,rfl⟩:=h;have e:∀j,¬S w.heap.size j:=λj h=>by have:=R.bD.st _ _ h;omega
 have b:=(R.alloc _).iP d (x:= .set []) (w.heap.size,1) rfl (by
  simp only[cU,dq]
  exact⟨by simp,⟨[],0,heap_alloc_new,.nil⟩,e⟩) (λ_=>⟨λk y ak h0=>by
   have:=(R.bD.blk k y ak).iA h0
   omega,.inr R.ext.size⟩)
 refine⟨.map (some w.heap.size),_,S,_,.inl ?_,.c ?_,by simp[V.aA,C.aA,ins],b⟩
 . simp[execOp,f,Instr.makeMap]
 grind[bq,dq]
theorem WH{s:ByteArray}{k:aD}:(s==(⟨k.toArray⟩:ByteArray))=decide (k=s.data.toList):=by
 grind[beq_toListBytes,ByteArray.toList_eq]
theorem FL(s:ByteArray):∀{ks:List aD} {es:List MapEntry} (i:Nat),yQ ks es->
 (gb ks s.data.toList=false/\Instr.findNow .string (.string s) es i=some none)\/
 (gb ks s.data.toList=true/\∃j e,Instr.findNow .string (.string s) es i=some (some (i+j,.bool true))/\es[j]?=some e/\e.key= .string s/\e.val= .bool true)
 |_,_,i,.nil=>.inl ⟨rfl,rfl⟩
 |k::ks,e::es,i,.cons h d=>by
  obtain⟨h1,c⟩:=h;have f:(s==⟨k.toArray⟩)=decide _:=WH;by_cases g:k=s.data.toList
  . refine .inr ⟨by grind[gb],0,e,?_,rfl,?_,c⟩
    . simp_all[Instr.findNow,Instr.sameNow]
    simp_all
  . rcases FL s (i+1) d with⟨g1,g2⟩|⟨g1,j,a,g2,g3,g4,b⟩
    . grind[gb,Instr.findNow,Instr.sameNow]
    . refine .inr ⟨by grind[gb],j+1,a,?_,by grind,g4,b⟩;grind[Instr.findNow,Instr.sameNow]
theorem A1(a:P.underlying fz=some .string){s:ByteArray}{es:List MapEntry}{r:Option (Nat×Value)}(h:Instr.findNow .string (.string s) es 0=some r)(w:World):(Instr.findKey fz (.string s) es).run P w= .ok r w:=by
 simp_all[Instr.findKey,run_underlying]
theorem AR(a:P.underlying fz=some .string){s:ByteArray}(b:Bool)(w:World):(Instr.checkKey b 10000 fz (.string s)).run P w= .ok () w:=by
 unfold Instr.checkKey;simp[run_underlying a]
theorem pV{b:Nat}{es:Array MapEntry}{c:Nat}(h:w.heap[b]?=some (.map es c)):(getObj b).run P w= .ok (.map es c) w:=by grind[getObj,Sem.run]
theorem BZ{b:Nat}{es:Array MapEntry}{c:Nat}(o:Obj)(h:w.heap[b]?=some (.map es c)):(setObj b o).run P w= .ok () {w with heap:=w.heap.setIfInBounds b o}:=by
 grind[setObj,Sem.run]
theorem Xn(R:Rel au nt φ S env J n a w){k:Operand}(g:o.op= .lookup t x k false)(ht:rK P t=true){d c:aO}(I:bA x=some d)(y:bA k=some c)
 {p v J'}(C:n key=false)(h:aM (.lkset d c) env J key=some (p,v,J'))(al:p):Good P au nt env J' (ins n key) a v ((execOp a.eval o).run P w):=by
 simp only[aM,bk]at h;obtain⟨⟨F,H⟩,u,⟨dS,G⟩,s,he⟩:=h;simp at he;obtain⟨fz,A,i,l,b,B,E⟩:=QB ht;split at he
 . split at he
   . rename_i ks m;obtain⟨rfl,rfl,rfl⟩:=he;have h1:a.eval x= .map _:=(cn R I u al.1).1.dJ;obtain⟨bs,f,rfl,_⟩:=b2.jL (cn R y s al.2).1;obtain⟨h0,⟨es,cv,aa,q⟩,D⟩:=R.bD.blk _ _ m;refine Good.pure R ?_ (.nO _) rfl;have z:(zeroValue A).run P w= .ok (.bool false) w:=(by simp_all[zeroValue,typeInfo]);have r:=FL bs 0 q;rcases r with⟨g1,g2⟩|⟨g1,j,e,g2,_⟩
     . simp[execOp,g,h1,f,Instr.lookup,run_underlying l,pV aa,AR b,A1 b g2,z,g1]
     . simp[execOp,g,h1,f,Instr.lookup,run_underlying l,pV aa,AR b,A1 b g2,g1]
   grind
 grind
theorem WM{ks:List aD}{es:List MapEntry}(h:yQ ks es)(s:ByteArray)(cv:Nat):yQ (ks++[s.data.toList]) (es++[{key:= .string s,val:= .bool true,born:=cv}]):=
 h.append (.cons ⟨by rfl,rfl⟩ .nil)
theorem a6.modify{c:Type}{R:α->c->Prop}{f:c->c}:∀{l:List α} {m:List c} {j:Nat},a6 R l m->(∀a b,R a b->m[j]?=some b->R a (f b))->a6 R l (m.modify j f)
 |_,_,_,.nil,_=>by simpa using a6.nil
 |_,_,0,.cons h e,k=>.cons (k _ _ h rfl) e
 |_,_,j+1,.cons h e,k=>by
  exact .cons h (a6.modify e λa b g o=>k a b g (by grind))
theorem Xo(R:Rel au nt φ S env J n a w){k v0:Operand}(y:o.op= .mapUpdate t x k v0)(ht:rK P t=true)(A:FI v0=true){q l:aO}(I:bA x=some q)(H:bA k=some l)
 {p v J'}(X:n key=false)(h:aM (.upset q l) env J key=some (p,v,J'))(al:p):Good P au nt env J' (ins n key) a v ((execOp a.eval o).run P w):=by
 simp only[aM,bk]at h;obtain⟨⟨ad,ag⟩,G,⟨dS,ae⟩,F,he⟩:=h;simp only at he;obtain⟨fz,af,i,z,d,W,Z⟩:=QB ht;have B:a.eval v0= .bool true:=by
  unfold FI at A;split at A
  . rfl
  grind
 split at he
 . rename_i b s;split at he
   . rename_i ks u;obtain⟨rfl,rfl,rfl⟩:=he;have h1:a.eval x= .map _:=(cn R I G al.1).1.dJ;obtain⟨bs,r,rfl,_⟩:=b2.jL (cn R H F al.2).1;obtain⟨h0,⟨es,cv,aa,g⟩,L⟩:=R.bD.blk _ _ u;have aF:=mQ aa;have O:∃c f,(execOp a.eval o).run P w= .ok .skip {w with heap:=w.heap.setIfInBounds (φ b).1 (.map c f)}/\yQ (h' ks bs.data.toList) c.toList:=by
      have E:=FL bs 0 g;rcases E with⟨g1,g2⟩|⟨g1,j,e,g2,g3,g4,U⟩
      . refine⟨es.toArray.push {key:= .string bs,val:= .bool true,born:=cv},cv+1,?_,?_⟩
        . simp[execOp,y,h1,r,B,Instr.mapUpdate,run_underlying z,pV aa,AR d,A1 d g2,BZ _ aa]
        . simp only[h',g1,bN];simpa using WM g bs cv
      . refine⟨es.toArray.modify j λe=>{e with key:= .string bs,val:= .bool true},cv,?_,?_⟩
        . have N:Instr.sameBits 10000 (Value.string bs) (Value.string bs)=true:=by
           simp only[Instr.sameBits];rw[beq_toListBytes];simp
          have K:∀w,(Instr.keyThatStays (Value.string bs) (Value.string bs)).run P w= .ok (Value.string bs) w:=by intro w;unfold Instr.keyThatStays;rw[N];rfl
          simp[execOp,y,h1,r,B,Instr.mapUpdate,run_underlying z,pV aa,AR d,A1 d g2,BZ _ aa,g3,g4,K]
        . simp only[h',g1,bJ];rw[zU];refine a6.modify g λab T Y V=>?_;grind
     obtain⟨c,f,M,D⟩:=O;refine⟨undef,φ,S,_,.inr ⟨M,rfl⟩,.undef,rfl,Rel.more ?_ λ_ h=>j0 h⟩;refine R.rewrite u h0 rfl rfl rfl rfl (by simp) (λQ C=>by simp[du C]) (λm=>?_);exact⟨h0,⟨c.toList,f,by simp[aF],D⟩,L⟩
   grind
 grind
theorem VZ{st:TypeId}{i:TypeInfo}{c:Value}(p:P.underlying st=some (.slice e))(s:P.underlying yt=some .string)(g:P.info? e=some i)(z:i.zero=some c)(A:c.cells.size=i.size)
 {base:Option Addr}{sl sc a:Nat}{y:Value}{xs d:List Value}(q:(Builtin.lenOf y).run P w= .ok a w)
 (I:(Builtin.firstCells i.size sl (.slice base sl sc)).run P w.drew= .ok xs.toArray w.drew)(ak:(Builtin.firstCells i.size a y).run P w.drew= .ok d.toArray w.drew)
 (n:sc<sl+a)(k:ie (sl+a) i.bytes)(v:sl+a<=dk){tt:TypeId}:
 ∃(b:Nat) (r:List Value),sl+a<=b/\r.length=(b-(sl+a))*i.size/\
  (Builtin.append_ #[st,yt] tt #[.slice base sl sc,y]).run P w= .ok (.slice (some ⟨w.heap.size,0,none⟩) (sl+a) b) (w.drew.alloc (.cells (xs++d++r).toArray e)):=by
 have o:∀w,(sizeOf e).run P w= .ok i.size w:=λw=>by simp[sizeOf,typeInfo,g]
 have f:∀w,(typeInfo e).run P w= .ok i w:=λw=>by simp[typeInfo,g]
 have t:∀w,(zeroValue e).run P w= .ok c w:=λw=>by simp_all[zeroValue]
 generalize x:(Question.appendCap (sl+a) sc e).cut (w.tape w.drawn (Question.appendCap (sl+a) sc e))=b;have m:sl+a<=b:=by grind[Question.cut]
 have h1:¬(sl+a<=sc):=by omega
 have u:¬(sl+a>IntKind.i64.max/\(False\/i.bytes=0)):=by grind[IntKind.max,IntKind.bits,dk]
 have j:=by
  exact k.not n
 refine⟨b,(Builtin.zeroCells c.cells (b-(sl+a))).toList,m,by grind[QT],?_⟩;have l:(choose (.appendCap (sl+a) sc e)).run P w= .ok b w.drew:=by simp_all[Question.forced]
 have aN:(xs++d++(Builtin.zeroCells c.cells (b-(sl+a))).toList).toArray=xs.toArray++d.toArray++Builtin.zeroCells c.cells (b-(sl+a)):=by simp
 rw[aN];unfold Builtin.append_;simp only[zO,Aa,Ab,Sem.run_bind,run_underlying p,run_underlying s,Result.andThen_ok,o,Sem.run_pure,bU,bN,q,av h1,f];rw[av (by grind)];simp only[Sem.run_bind,Result.andThen_ok,f];rw[av j];simp only[Sem.run_bind,Result.andThen_ok,f,l,run_askRoom,I,ak,t,eL,bJ];rfl
theorem Uo{st:TypeId}{i:TypeInfo}(g:P.underlying st=some (.slice e))(k:P.underlying yt=some .string)(d:P.info? e=some i)
 {base:Option Addr}{sl sc a:Nat}{y:Value}{c:List Value}(j:(Builtin.lenOf y).run P w= .ok a w)(ak:(Builtin.firstCells i.size a y).run P w= .ok c.toArray w)(m:sl+a<=sc){w':World}
 (hs:∀b,base=some b->(storeCells (b.add (sl*i.size)) c 0).run P w= .ok () w') (l:base=none->w'=w) {tt:TypeId}:
  (Builtin.append_ #[st,yt] tt #[.slice base sl sc,y]).run P w= .ok (.slice base (sl+a) sc) w':=by
 have f:∀w,(sizeOf e).run P w= .ok i.size w:=λw=>by simp[sizeOf,typeInfo,d]
 unfold Builtin.append_;simp only[zO,Aa,Ab,Sem.run_bind,run_underlying g,run_underlying k,Result.andThen_ok,f,Sem.run_pure,bU,bN,j];cases base<;>simp_all
theorem VE(w:World)(bs:ByteArray):(Builtin.firstCells 1 bs.size (.string bs)).run P w= .ok (bs.data.toList.map λb=>Value.int .u8 b.toNat).toArray w:=by
 simp[Builtin.firstCells];grind
theorem WI(l:aD):∀x,x∈(l.map λb=>Value.int .u8 b.toNat)->x.oneCell'=true:=by
 intro x I;simp at I;obtain⟨b,_,rfl⟩:=I;rfl
theorem Rq(R:Rel au nt φ S env J n a w){yv:Value}{st:TypeId}{B:aO}(I:bA x=some B){L:Prop}{b l bytes:Nat}{es s:aD}(U:B.get env=some (L,.c (.cj b es.length)))(Y:L)
 (m:aP J b=some (.buf l es))(d:n key=false)(T:ie (es.length+s.length) bytes)(H:es.length+s.length<=dk)
 (A:∀r w',(Builtin.append_ #[st,yt] o.type #[a.eval x,yv]).run P w= .ok r w'->(execOp a.eval o).run P w= .ok (.value r) w')
 (D:∀base sl sc w',sl+s.length<=sc->(∀t,base=some t->(storeCells (t.add (sl*1)) (s.map λb=>Value.int .u8 b.toNat) 0).run P w= .ok () w')->(base=none->w'=w)->(Builtin.append_ #[st,yt] o.type #[.slice base sl sc,yv]).run P w= .ok (.slice base (sl+s.length) sc) w')
 (cr:∀base sl sc (xs:List Value),(Builtin.firstCells 1 sl (.slice base sl sc)).run P w.drew= .ok xs.toArray w.drew->sc<sl+s.length->ie (sl+s.length) bytes->sl+s.length<=dk->
  ∃(q:Nat) (r:List Value),sl+s.length<=q/\r.length=(q-(sl+s.length))*1/\(Builtin.append_ #[st,yt] o.type #[.slice base sl sc,yv]).run P w= .ok (.slice (some ⟨w.heap.size,0,none⟩) (sl+s.length) q) (w.drew.alloc (.cells (xs++(s.map λb=>Value.int .u8 b.toNat)++r).toArray l))):
 Good P au nt env (cZ (fB J b) key (.buf l (es++s))) (ins n key) a (.c (.cj key (es.length+s.length))) ((execOp a.eval o).run P w):=by
 have X:∀b,w.heap.size<=b->∀j,¬S b j:=λb F j aE=>by have:=R.bD.st _ _ aE;omega
 obtain⟨ar,af,bn⟩:=(cn R I U Y).1.dJ;have N:=R.bD.blk _ _ m;obtain⟨g1,g2,g3⟩:=N;by_cases Z:es.length+s.length<=(φ b).2
 . by_cases f:(φ b).2=0
   . have G:es=[]:=lg (by omega);have O:s=[]:=lg (by omega);have p:=af f;have g:=D none 0 0 w (by omega) (λt E=>by grind) (λ_=>rfl);rw[<-p]at g;have R':=(R.del b).iP d (x:= .buf l (es++s)) (0,0) rfl (by grind[cU,dq]) (by simp);refine⟨_,_,S,w,.inl (A _ _ g),.c ?_,by simp[V.aA,C.aA,ins],R'⟩;rw[O,G];refine⟨by simp,λ_=>?_,λh=>?_⟩
     . rfl
     . simp[dq]at h
   . obtain⟨⟨vs,aa,ab,ad⟩,K⟩:=g3 f;have p:=bn f;have aq:es.length+(s.map λb=>Value.int .u8 b.toNat).length<=vs.length:=(by grind);obtain⟨w',av,ag,ah,aj,al,ay,am⟩:=lK (P:=P) _ es.length 0 vs w aa (by omega) (WI _)
     have g:=D (some ⟨(φ b).1,0,none⟩) es.length (φ b).2 w' Z (λt E=>by
      cases E;have ao:Addr.add ⟨(φ b).1,0,none⟩ (es.length*1)=⟨(φ b).1,es.length,none⟩:=by rw[x0];unfold Addr.add;split<;>simp_all
      grind) (λF=>by cases F)
     rw[<-p]at g
     have u:=(R.del b).world (w':=w') (λk=>k=(φ b).1) ag ah aj (sn al.symm) (λk _ d=>am k d) (λk d=>by
      subst d;refine⟨K,λk y ak d=>?_,R.own b _ m f⟩;rw[eK]at ak;split at ak
      . cases ak
      . rename_i z
        exactλe=>R.bD.inj k b y _ ak m (du z) d f e)
     have v:=u.iP d (x:= .buf l (es++s)) (φ b) rfl (by
      simp only[cU,dq]
      grind[List.length_append,n5,mS]) (λ_=>⟨λk y ak d=>by
       rw[eK]at ak;split at ak
       . cases ak
       . rename_i z
         exact R.bD.inj k b y _ ak m (du z) d f,R.own b _ m f⟩)
     refine⟨_,_,S,w',.inl (A _ _ g),.c ?_,by simp[V.aA,C.aA,ins],v⟩;refine⟨by simp[dq];omega,λh=>?_,λ_=>?_⟩
     . simp[dq,f]at h
     . simp[dq]
 . have u:=R.drew;have Q:∃base,a.eval x= .slice base es.length (φ b).2/\∃xs:List Value,(Builtin.firstCells 1 es.length (.slice base es.length (φ b).2)).run P w.drew= .ok xs.toArray w.drew/\xs.length=es.length/\∀(i:Nat) c,es[i]?=some c->xs[i]?=some (.int .u8 (UInt8.toNat c)):=by
    by_cases f:(φ b).2=0
    . have G:es=[]:=lg (by omega);simp_all[Builtin.firstCells]
    . obtain⟨⟨vs,aa,ab,ad⟩,K⟩:=g3 f;refine⟨_,bn f,vs.take es.length,?_,by simp;omega,λj c ap=>?_⟩
      . show(loadCells ⟨(φ b).1,0,none⟩ (es.length*1)).run P w.drew=_;rw[x0];refine w9 (by simp;omega) (λj W=>?_);rw[gS,uW,ai W];exact ic (w:=w.drew) aa j
      grind
   obtain⟨base,p,xs,ae,aw,ax⟩:=Q;obtain⟨q,r,h1,an,g⟩:=cr base es.length (φ b).2 xs ae (by omega) T H;rw[<-p]at g;have v:=(u.del b).alloc (.cells (xs++(s.map λb=>Value.int .u8 b.toNat)++r).toArray l)
   have M:=v.iP d (x:= .buf l (es++s)) (w.heap.size,q) rfl (by
    simp only[cU,dq];refine⟨by simp[];omega,by rw[dQ];exact H,λ_=>⟨⟨_,heap_alloc_new,?_,?_⟩,X _ (e6 _)⟩⟩
    . grind
    grind) (λ_=>⟨λk y ak h0=>by
     rw[eK]at ak;split at ak
     . cases ak
     . have:=(R.bD.blk k y ak).iA h0
       simp;omega,.inr R.ext.size⟩)
   refine⟨_,_,S,_,.inl (A _ _ g),.c ?_,by simp[V.aA,C.aA,ins],M⟩;refine⟨by simp[dq];omega,λh=>?_,λ_=>?_⟩
   . simp[dq]at h;omega
   . simp[dq]
theorem Vg(R:Rel au nt φ S env J n a w){x y:Operand}{st yt e:TypeId}(K:o.op= .call {callee:= .builtin .append,args:=#[x,y],argTypes:=#[st,yt]})
 (q:P.underlying st=some (.slice e))(u:P.underlying yt=some .string){i:TypeInfo}(m:P.info? e=some i)(c:i.size=1)(z:(i.zero.map (·.cells.size))=some 1)
 {g j:aO}(I:bA x=some g)(ak:bA y=some j)
 {p v J'}(G:n key=false)(h:aM (.appendB e i.bytes g j) env J key=some (p,v,J'))(al:p):Good P au nt env J' (ins n key) a v ((execOp a.eval o).run P w):=by
 simp only[aM,bk]at h;obtain⟨⟨U,W⟩,E,⟨V,X⟩,F,he⟩:=h;simp only at he;simp only[bx]at z;obtain⟨Y,Q,O⟩:=z;split at he
 . rename_i b len s;split at he
   . rename_i T es C;obtain⟨rfl,rfl,rfl⟩:=he;obtain⟨L,M,rfl,rfl,D,H⟩:=al;obtain⟨bs,l,rfl,_⟩:=b2.jL (cn R ak F M).1;have k:bs.data.toList.length=bs.size:=by rw[<-uG]
     have t:∀w,(Builtin.lenOf (a.eval y)).run P w= .ok bs.data.toList.length w:=by intro w;simp[l,k,Builtin.lenOf]
     have A:∀w,(Builtin.firstCells i.size bs.data.toList.length (a.eval y)).run P w= .ok (bs.data.toList.map λb=>Value.int .u8 b.toNat).toArray w:=by intro w;rw[l,c,k];exact VE w bs
     refine Rq R I E L C G D H (st:=st) (yt:=yt) (yv:=a.eval y) (λr w' N=>by simp[execOp,K,Go.resolve,invoke,builtin,N]) (λbase sl sc w' h1 d f=>?_) (λbase sl sc xs h1 d f B=>?_)
     . exact Uo q u m (t w) (A w) h1 (by rw[c];exact d) f
     . have:=VZ (P:=P) (w:=w) (tt:=o.type) q u m Q (by rw[O,c]) (t w) (by rw[c];exact h1) (A w.drew) d f B;rw[c]at this;exact this
   grind
 grind
theorem Xp(s:aD):∀(i:Nat) c,s[i]?=some c->(s.map λc=>([.int .u8 c.toNat]:List T))[i]?=some [.int .u8 c.toNat]:=by simp_all
theorem Qr{s:aD}{d:List Value}(ag:d.length=s.length)(h:hR w S 1 (s.map λc=>[.int .u8 c.toNat]) d):d=s.map λb=>Value.int .u8 b.toNat:=by
 refine uY λi=>?_;by_cases a:i<s.length
 . obtain⟨v,e,f⟩:=h i 0 _ _ (Xp s i _ (df a)) rfl;cases f;simp only[x0,sk]at e;rw[e];simp[a]
 . simp[Dx (Nat.le_of_not_lt (ag▸a)),Dx (Nat.le_of_not_lt a)]
theorem Vh(R:Rel au nt φ S env J n a w){x y:Operand}{st yt e aj:TypeId}(L:o.op= .call {callee:= .builtin .append,args:=#[x,y],argTypes:=#[st,yt]})
 (m:P.underlying st=some (.slice e))(A:P.underlying yt=some (.slice aj)){i:TypeInfo}(k:P.info? e=some i)(aa:i.size≠0)(B:(i.zero.map (·.cells.size))=some i.size)
 {f E:aO}(I:bA x=some f)(ak:bA y=some E)
 {p v J'}(H:n key=false)(h:aM (.append e i.size i.bytes f E) env J key=some (p,v,J'))(al:p):Good P au nt env J' (ins n key) a v ((execOp a.eval o).run P w):=by
 by_cases K:∃q b l,f.get env=some (q,.c (.cj b l))
 case neg=>exact WC R L m A k aa B I ak H h (λq b l e=>K ⟨q,b,l,e⟩) al
 obtain⟨an,b,len,F⟩:=K;simp only[aM,F,aw,bk]at h;obtain⟨⟨ao,ai⟩,G,h⟩:=h;rw[show kb (.c (.cj b len)) ai=none from rfl]at h;simp only[bk]at h;obtain⟨ys,O,he⟩:=h;split at he
 . rename_i am es V;obtain⟨s,hs,he⟩:=zN.1 he;cases he;obtain⟨Y,M,rfl,d,rfl,z,W,X⟩:=al;simp only[bx]at B;obtain⟨ar,ah,ae⟩:=B;have N:∀e,e∈ys.1->e.length=1:=by rw[z];simp
   obtain⟨t,ap,C,ab,Q,_⟩:=t' (P:=P) R ak G M (by decide:0<1) O N;obtain⟨_,aq,D,ad,T,_⟩:=t' (P:=P) R.drew ak G M (by decide:0<1) O N;have u:ys.1.length=s.length:=by rw[z];simp
   rw[z]at Q T;have af:=Qr (by rw[ab,u,x0]) Q;have ag:=Qr (by rw[ad,u,x0]) T;subst af;subst ag;rw[u]at t C D;rw[<-d]at C D;refine Rq R I F Y V H W X (st:=st) (yt:=yt) (yv:=a.eval y) (λr w' Z=>by simp[execOp,L,Go.resolve,invoke,builtin,Z]) (λbase sl sc w' h1 g j=>?_) (λbase sl sc xs h1 g j U=>?_)
   . exact tI m A k t C h1 (by rw[d];exact g) j
   . have:=Ej (P:=P) (w:=w) (tt:=o.type) m A k ah ae t (by rw[d];exact h1) D g j U;rw[d]at this;exact this
 . cases he
theorem Xq(R:Rel au nt φ S env J n a w){x:Operand}{t:TypeId}(e:o.op= .call {callee:= .builtin .unsafeSliceData,args:=#[x],argTypes:=#[t]}){d:aO}(I:bA x=some d)
 {p v J'}(i:n key=false)(h:aM (.sdata d) env J key=some (p,v,J'))(al:p):Good P au nt env J' (ins n key) a v ((execOp a.eval o).run P w):=by
 simp only[aM,bk]at h;obtain⟨⟨k,l⟩,f,he⟩:=h;simp at he;split at he
 . rename_i b len;obtain⟨rfl,rfl,rfl⟩:=he;have ao:=cn R I f al;obtain⟨j,g,bn⟩:=ao.1.dJ;by_cases h0:(φ b).2=0
   . refine Good.pure R ?_ (.c ⟨none,rfl,λh=>absurd h0 h⟩) (by grind[V.aA,C.aA]);simp[execOp,e,Go.resolve,invoke,builtin,g h0,Go.Lib.run_unsafeSliceData_nil]
   . refine Good.pure R ?_ (.c ⟨_,rfl,λ_=>rfl⟩) (by grind[V.aA,C.aA]);simp[execOp,e,Go.resolve,invoke,builtin,bn h0,Go.Lib.run_unsafeSliceData_row _ _ _ _ _ _ h0]
 grind
theorem Xr{b m:Nat}{a:Addr}(c:b≠a.block):(w.freeze a m).heap[b]?=w.heap[b]?:=by
 grind[World.freeze]
theorem WJ(a:Addr)(m:Nat):(w.freeze a m).os=w.os/\(w.freeze a m).tape=w.tape/\(w.freeze a m).output=w.output/\(w.freeze a m).heap.size=w.heap.size:=by
 grind[World.freeze]
theorem WN(R:Rel au nt φ S env J n a w){x y:Operand}{cD it e:TypeId}(H:o.op= .call {callee:= .builtin .unsafeString,args:=#[x,y],argTypes:=#[cD,it]})
 (M:P.underlying cD=some (.pointer e))(D:P.cellsOf e=1){l q:aO}(I:bA x=some l)(ak:bA y=some q)
 {p v J'}(d:n key=false)(h:aM (.ustr e l q) env J key=some (p,v,J'))(al:p):Good P au nt env J' (ins n key) a v ((execOp a.eval o).run P w):=by
 simp only[aM,bk]at h;obtain⟨⟨ad,af⟩,E,⟨ae,ag⟩,F,he⟩:=h;simp only at he;split at he
 . rename_i b m;split at he
   . rename_i s es g;obtain⟨rfl,rfl,rfl⟩:=he;obtain⟨K,L,rfl,rfl⟩:=al;obtain⟨O,h1,Y⟩:=(cn R I E K).1.dJ;have B:=(cn R ak F L).1.fe;have C:=R.bD.blk _ _ g;obtain⟨g1,g2,g3⟩:=C;have z:∀w',bP w' S (.str es) (.string ⟨es.toArray⟩):=by
      intro w';have:=bP.str (w:=w') (S:=S) (⟨es.toArray⟩:ByteArray) (by rw[<-uG];grind[dk,ej]);omega
     have u:∀r w',(Builtin.unsafeString_ #[cD,it] o.type #[a.eval x,a.eval y]).run P w= .ok r w'->(execOp a.eval o).run P w= .ok (.value r) w':=by
      intro r w' t;simp[execOp,H,Go.resolve,invoke,builtin,t]
     by_cases f:es=[]
     . subst f;refine⟨.string ⟨#[]⟩,φ,S,w,.inl (u _ _ ?_),.c (z w),rfl,(R.del b).more λ_ h=>j0 h⟩;rw[h1,B];exact Go.Lib.run_unsafeString_none w cD it o.type O
     . have X:=zT.2 f;have i:(φ b).2≠0:=(by omega);obtain⟨⟨vs,aa,Z,ab⟩,G⟩:=g3 i;have N:w.shape? (φ b).1=some (s,vs.length):=by grind[World.shape?]
       have t:=Go.Lib.run_unsafeString_row (P:=P) w cD it o.type s M D _ vs.length N es f (by omega) (by grind[dk]) (λj c W=>by
        grind[Addr.add,ic])
       obtain⟨Q,T,U,V⟩:=WJ (w:=w) ⟨(φ b).1,0,none⟩ es.length
       have A:=(R.del b).world _ Q T U (sn V.symm) (λk _ d=>Xr d) (λk d=>by
        subst d;refine⟨G,λk y ak d=>?_,R.own b _ g i⟩;rw[eK]at ak;split at ak
        . grind
        . rename_i f
          exactλe=>R.bD.inj k b y _ ak g (du f) d i e)
       refine⟨.string _,φ,S,_,.inl (u _ _ ?_),.c (z _),rfl,A.more λ_ h=>j0 h⟩;grind
   grind
 grind
end
section
variable {P:Program}{au:Ctx}{nt:Nat}{φ:c0}{S:c6}{env:Env}{J:a8}{n:Nat->Bool}{key:Nat}{a:Act}{w:World}
theorem Ey{d:Nat}{e:TypeId}{k:Nat}(c:oI P e=some k){xs ys:Array Value}:∀{m i:Nat} {ps qs:List C} {us vs:List Value} {r:Bool},
 kE (List.replicate m k) ps qs=some r->a6 (bq φ w S) ps us->a6 (bq φ w S) qs vs->xs.toList.drop i=us->ys.toList.drop i=vs->(Op.eqItems (d+1) e 1 xs ys (List.range' i m)).run P w= .ok r w
 |0,i,ps,qs,us,vs,r,a,_,_,_,_=>by
  cases ps<;>cases qs<;>simp[kE]at a;subst a;simp[Op.eqItems]
 |m+1,i,ps,qs,us,vs,r,a,D,E,aN,f=>by
  have t:=Hx c;have g:∀(l:Array Value) (z:Value) (j:List Value),l.toList.drop i=z::j->(part e l (i*1)).run P w= .ok z w:=λl z j I=>by
   have:l[i]?=some z:=by
    have:=dP (·[0]?) I;simpa using this
   simp[part,rH t,this]
  rw[List.replicate_succ]at a;cases ps with
  |nil=>simp[kE]at a
  |cons p ps=>cases qs with
   |nil=>cases p<;>simp[kE]at a
   |cons q qs=>
    cases p<;>cases q<;>simp only[kE,bk,bx]at a<;>try cases a
    rename_i x y b h;obtain⟨A,F,B,rfl⟩:=h;cases D with
    |cons h1 n=>cases E with
     |cons o s=>
      rename_i u us v vs;have f1:xs.toList.drop (i+1)=us:=by rw[<-uO,aN];rfl
      have f2:ys.toList.drop (i+1)=vs:=by rw[<-uO,f];rfl
      have ih:=Ey (d:=d) c (m:=m) (i:=i+1) B n s f1 f2;rw[xW];simp only[Op.eqItems,Sem.run_bind,g xs u us aN,g ys v vs f,Result.andThen_ok,Hw A c h1 o d];cases b with
      |true=>simpa using ih
      |false=>simp
variable{y:Operand}
theorem Xs(R:Rel au nt φ S env J n a w){op:BinOp}{ty:TypeId}(G:o.op= .binOp op ty x y yt)(s:op= .eql\/op= .neq){ks:aZ}(b:F9 P ty=some ks)
 {g j:aO}(I:bA x=some g)(ak:bA y=some j)
 {p v J'}(K:n key=false)(h:aM (.eqAgg (op== .neq) ks g j) env J key=some (p,v,J'))(al:p):Good P au nt env J' (ins n key) a v ((execOp a.eval o).run P w):=by
 simp only[aM,bk]at h;obtain⟨⟨L,N⟩,D,⟨M,O⟩,E,he⟩:=h;simp only at he;split at he
 . rename_i ps qs;simp only[bx,dW]at he;obtain⟨r,H,rfl,rfl,rfl⟩:=he;obtain⟨us,c,z⟩:=(cn R I D al.1).1.kS;obtain⟨vs,f,A⟩:=(cn R ak E al.2).1.kS;unfold F9 at b;split at b
   . rename_i m e C;simp only[er,bx]at b;obtain⟨⟨hs,ao⟩,k,F,rfl⟩:=b;unfold ea at hs;simp only[bx]at hs;obtain⟨i,q,hs⟩:=hs;have B:P.cellsOf e=1:=(by simp[Program.cellsOf,q,hs]);have t:(eqGuard op ty x y (a.eval x) (a.eval y)).run P w= .ok () w:=by rcases s with rfl|rfl<;>simp[eqGuard,c,f,ao]
     have l:(Op.equal ty (.agg us.toArray) (.agg vs.toArray)).run P w= .ok r w:=by
      obtain⟨d,aj⟩:∃d,Op.maxDepth=d+2:=⟨9998,rfl⟩
      unfold Op.equal;rw[aj,run_equalIn_array w (d+1) _ _ C q,B,List.range_eq_range'];exact Ey F H z A (by simp) (by simp)
     have u:(binOp op ty (a.eval x) (a.eval y)).run P w= .ok (.bool (if(op== .neq)then !r else r)) w:=by
      rcases s with rfl|rfl
      . rw[c,f];simp only[binOp,Sem.run_bind,l];rfl
      . rw[c,f];simp only[binOp,Sem.run_bind,l];rfl
     refine Good.pure R (x:= .bool (if(op== .neq)then !r else r)) ?_ (.nO _) rfl;simp[execOp,G,t,u]
   . cases b
 . cases he
theorem WO(R:Rel au nt φ S env J n a w){ty:TypeId}{i:Operand}(y:o.op= .index ty x i){k:Nat}(C:P.underlying ty=some (.array k e))(ag:lT P e=some (false,1))
 {d b:aO}(I:bA x=some d)(s:bA i=some b)
 {p v J'}(K:n key=false)(h:aM (.idxV k d b) env J key=some (p,v,J'))(al:p):Good P au nt env J' (ins n key) a v ((execOp a.eval o).run P w):=by
 simp only[aM,bk]at h;obtain⟨⟨N,Q⟩,r,⟨M,O⟩,q,he⟩:=h;simp only at he;split at he
 . rename_i cs kk m;simp only[er,dK,dW]at he;obtain⟨H,rfl,rfl,rfl⟩:=he;obtain⟨A,B,t,L⟩:=al;have g1:=cn R I r A;obtain⟨us,D,j⟩:=g1.1.kS;have f:=(cn R s q B).1.fe;unfold lT at ag;simp only[bk]at ag;obtain⟨g,ao,z,G,ag⟩:=ag;split at ag
   . cases ag;have aF:m.toNat<cs.length:=(by omega);obtain⟨u,E,F⟩:=j.get (show cs[m.toNat]?=some (cs.getD m.toNat .dead) by rw[List.getD,df aF];rfl);refine Good.pure R (x:=u) ?_ (.c F) ?_
     . have l:us.toArray[m.toNat*1]?=some u:=(by simpa using E);simp only[execOp,y,Sem.run_bind,D,f,Instr.index,asIntOf,run_underlying C,Result.andThen_ok,Sem.run_pure];rw[ai ⟨t,by omega⟩];simp only[Sem.run_bind,iI G,Result.andThen_ok,part,rH ao,l];rfl
     . have:=g1.2;simp only[V.aA,fk]at this⊢;refine this _ ?_;rw[List.getD,df aF];exact xV aF
   . cases ag
 . cases he
theorem Wm{ty:TypeId}(j:P.underlying ty=some (.slice e)){i:TypeInfo}{a:Value}(b:P.info? e=some i)(p:i.zero=some a){k:IntKind}{m:Int}(h0:0<=m)(d:m.toNat*i.bytes<=hi)(f:m.toNat<=dk):
 (Instr.makeSlice ty (.int k m) (.int k m)).run P w= .ok (.slice (some ⟨w.heap.size,0,none⟩) m.toNat m.toNat) (w.alloc (.cells ((Array.range (m.toNat*i.size)).map (a.cells[· % a.cells.size]!)) e)):=by
 obtain⟨c,rfl⟩:∃c:Nat,m=(c:Int):=⟨m.toNat,by omega⟩
 simp only[ey]at*;unfold dk at f;have n:IntKind.i64.wrap (c:Int)=(c:Int):=by
  simp[IntKind.wrap,IntKind.signed,IntKind.bits];omega
 have l:∀w,(typeInfo e).run P w= .ok i w:=λw=>by simp[typeInfo,b]
 have g:∀w,(sizeOf e).run P w= .ok i.size w:=λw=>by simp[sizeOf,typeInfo,b]
 have o:∀w,(zeroValue e).run P w= .ok a w:=λw=>by simp[zeroValue,typeInfo,b,p]
 have q:¬((i.bytes:Int)*(c:Int)>2^48):=by
  unfold hi at d;rw[<-Int.natCast_mul,Nat.mul_comm];omega
 unfold Instr.makeSlice;simp only[asInt,asIntOf,Sem.run_bind,run_underlying j,Result.andThen_ok,Sem.run_pure,l,n];rw[de];simp only[Sem.run_bind,run_askRoom,Result.andThen_ok,ey,g];by_cases h:c*i.size=0
 . simp only[h,bJ,Sem.run_bind,Sem.run_pure,Result.andThen_ok,show Array.range 0=#[]from rfl,List.map_toArray,Array.map_empty];rfl
 . simp only[h,bN,Sem.run_bind,o,Sem.run_pure,Result.andThen_ok];rfl
theorem WK(R:Rel au nt φ S env J n a w){ty:TypeId}(T:o.op= .makeSlice ty x y)(W:P.underlying ty=some (.slice e))(f:D7 x y=true){i:TypeInfo}(u:P.info? e=some i)
 {z:List C}(X:jr P e=some z)(h0:i.size≠0)(F:z.length=i.size){r:aO}(I:bA x=some r)
 {p v J'}(N:n key=false)(h:aM (.mslice i.size i.bytes z r) env J key=some (p,v,J'))(al:p):Good P au nt env J' (ins n key) a v ((execOp a.eval o).run P w):=by
 have hs:x=y:=by
  unfold D7 at f;split at f
  . rw[gf f]
  . cases f
 subst hs;simp only[aM,bk]at h;obtain⟨⟨ah,ai⟩,M,l,G,he⟩:=h;simp only at he;split at he
 . rename_i kk m;simp only[dK,dW]at he;obtain⟨rfl,rfl,rfl⟩:=he;obtain⟨U,O,Q,D⟩:=al;have L:=(cn R I M U).1.fe;obtain⟨ag,b,A,ab,s,ae⟩:=rF (φ:=φ) (w:=w) (S:=S) (n:=n) X;rw[u]at A;cases A;have Z:=pU G s;have Y:b.cells.size=i.size:=by rw[<-zS,<-s.length,F]
   have E:0<i.size:=(by omega);have aa:l.length=i.size:=by rw[uC G,F]
   generalize g:m.toNat=len at*;have H:=R.alloc (.cells ((Array.range (len*i.size)).map (b.cells[· % b.cells.size]!)) e);have ad:=R.uL (.cells ((Array.range (len*i.size)).map (b.cells[· % b.cells.size]!)) e)
   have K:=H.iP N (x:= .arr i.size (List.replicate len l)) (w.heap.size,len) rfl (by
    simp only[cU,dq];refine⟨by simp,by simpa using D,λe he=>by rw[Ds he];exact aa,E,λ_=>⟨((Array.range (len*i.size)).map (b.cells[· % b.cells.size]!)).toList,e,by rw[Array.toArray_toList];exact heap_alloc_new,by simp,λa j q t he ht=>?_,λj h=>?_⟩⟩
    . have B:=(dL.1 he).1;simp at B;have:q=l:=Ds (eV he);subst this;have af:=(dL.1 ht).1;obtain⟨x,I,d⟩:=Z.get ht;refine⟨x,?_,bP.mono ad d⟩;rw[Dw,FK Y E a j B (by omega)];simpa using I
    . have:=R.bD.st _ _ h
      omega) (λ_=>⟨λk y ak h0=>by
       have:=(R.bD.blk k y ak).iA h0
       simp;omega,.inr R.ext.size⟩)
   refine⟨.slice (some ⟨w.heap.size,0,none⟩) len len,_,S,_,.inl ?_,.c ⟨some ⟨w.heap.size,0,none⟩,by simp[dq],by simp[dq],by simp[dq]⟩,by simp[V.aA,C.aA,ins],K⟩;have d:=Wm (P:=P) (w:=w) W u ab (k:=kk) O (by rw[g];exact Q) (by rw[g];exact D);rw[g]at d;simp only[execOp,T,Sem.run_bind,L,d,Result.andThen_ok];rfl
 . cases he
end
theorem a6.oJ{c e:Type}{R:α->c->Prop}{R':e->c->Prop}{f:α->e}{l:List α}{m:List c}(h:a6 R l m)(k:∀a b,R a b->R' (f a) b):a6 R' (l.map f) m:=by
 induction h with
 |nil=>exact .nil
 |cons g _ ih=>exact .cons (k _ _ g) ih
def cut(es:List (List T))(off len:Nat):List (List T):=if off=0/\len=es.length then es else(es.drop off).take len
def C.cc(b0 a:Nat)(es:List (List T)):C->C
 |.arr b sz off len=>if b=b0 then(if sz=a/\off+len<=es.length then .t (.slice (cut es off len))else .dead)else .arr b sz off len
 |.cH b sz i o=>if b=b0 then .dead else .cH b sz i o
 |c=>c
def V.cc(b0 a:Nat)(es:List (List T)):V->V
 |.c x=>.c (x.cc b0 a es)
 |.agg cs=>.agg (cs.map (C.cc b0 a es))
 |.ba vs=>.ba (go b0 a es vs)
where go (b0 a:Nat) (es:List (List T)):List V->List V
 |[]=>[]
 |v::vs=>v.cc b0 a es::go b0 a es vs
def bT.cc(b0 a:Nat)(es:List (List T)):bT->bT
 |.box cs=>.box (cs.map (C.cc b0 a es))
 |.arr sz l=>.arr sz l
 |.set ks=>.set ks
 |.buf E s=>.buf E s
 |.b1 E c=>.b1 E (c.cc b0 a es)
 |.cx sz l i o c=>.cx sz l i o (c.cc b0 a es)
def qm(b0 a:Nat)(es:List (List T)):Env->Env
 |[]=>[]
 |(k,g,v)::r=>(k,g,v.cc b0 a es)::qm b0 a es r
def lY(b0 a:Nat)(es:List (List T)):a8->a8
 |[]=>[]
 |(k,x)::r=>if k=b0 then lY b0 a es r else(k,x.cc b0 a es)::lY b0 a es r
variable{v:V}{vs:List V}
section
variable {P:Program}{au:Ctx}{nt kk:Nat}{φ:c0}{S:c6}{env:Env}{J:a8}{N:Nat}{n:Nat->Bool}{a:Act}{w:World}
theorem yc{a:Nat}:∀{env:Env} {k:Nat},look (qm b0 a es env) k=(look env k).map λx=>(x.1,x.2.cc b0 a es)
 |[],k=>rfl
 |(i,g,v)::r,k=>by
  simp[qm,look];split
  . rfl
  . exact yc
theorem BK{b:Nat}:∀{J:a8} {k:Nat},aP (lY b0 b es J) k=if k=b0 then none else(aP J k).map (bT.cc b0 b es)
 |[],k=>by simp[lY,aP]
 |(i,x)::r,k=>by
  simp[lY,aP];by_cases h:i=b0
  . rw[ai h,BK];grind
  . rw[av h];simp[aP];by_cases a:i=k
    . grind
    . rw[av a,av a,BK]
def lU(S:c6)(q:Nat×Nat):c6:=λb j=>S b j\/(q.2≠0/\b=q.1)
theorem aaT{len:Nat}{e:List T}(h:e∈cut es off len):e∈es:=by
 grind[cut]
theorem aaU{len i:Nat}{e:List T}(a:off+len<=es.length)(h:(cut es off len)[i]?=some e):es[off+i]?=some e/\i<len:=by
 grind[cut]
theorem WQ{len:Nat}(a:off+len<=es.length):(cut es off len).length=len:=by
 grind[cut]
theorem bq.cc{b0 q:Nat}{es:List (List T)}(c7:cU φ w S b0 (.arr q es)){c:C}{v:Value}(h:bq φ w S c v):bq φ w (lU S (φ b0)) (c.cc b0 q es) v:=by
 have m:fP w S w (lU S (φ b0)):=⟨λ_ _ h=>.inl h,λ_ _ _=>rfl⟩
 have p:=bq.iz h;cases c with
 |arr b sz off len=>
  simp[C.cc];by_cases f:b=b0
  . subst f;rw[ai rfl];split
    . rename_i A;obtain⟨rfl,g⟩:=A;obtain⟨h1,I,x,J,bh⟩:=c7;obtain⟨a,rfl,y,L⟩:=bq.gx h;have ag:=WQ g;have aN:Value.slice a len ((φ b).2-off)=Value.slice a (cut es off len).length ((φ b).2-off):=(by grind);rw[aN];by_cases h0:(φ b).2=0
      . have:cut es off len=[]:=lg (by omega);rw[this];exact bP.slice [] _ _ 0 0 0 (λ_ _=>undef) (by simp) (by simp) (by simp) (by simp) (by simp) (by simp)
      . obtain⟨vs,E,aa,M,F,hs⟩:=bh h0;refine bP.slice _ _ _ sz _ _ (λi j=>(vs.getD ((off+i)*sz+j) undef)) (by omega) (by omega) (λe he=>x e (aaT he)) (λ_=>y h0) ?_ ?_
        . intro i j D K;refine⟨.inr ⟨h0,rfl⟩,?_⟩;rw[ic aa];have aF:(off+i)*sz+j<vs.length:=by
           have:=eY sz (show off+i+1<=(φ b).2 by omega);grind
          grind
        . intro i j e t he ht;obtain⟨B,D⟩:=aaU g he;obtain⟨v,H,G⟩:=F _ _ _ _ B ht;simp[List.getD,H];exact bP.mono m G
    . exact p
  . rw[av f];exact bq.mono m (λ_ _=>rfl) (C.jT _) h
 |cH b sz i o=>
  simp[C.cc];split
  . exact p
  . exact h
 |_=>exact bq.mono m (λ_ _=>rfl) (C.jT _) h
theorem Fh{a:Nat}:∀{vs:List V} {i:Nat},(V.cc.go b0 a es vs)[i]?=(vs[i]?).map (V.cc b0 a es)
 |[],i=>by rfl
 |v::vs,0=>by rfl
 |v::vs,i+1=>by simp[V.cc.go,Fh]
theorem Ez{a:Nat}:∀{vs:List V},(V.cc.go b0 a es vs).length=vs.length
 |[]=>rfl
 |v::vs=>by simp[V.cc.go,Ez]
theorem b2.cc{a:Nat}(c7:cU φ w S b0 (.arr a es)){x:Value}(h:b2 φ w S v x):b2 φ w (lU S (φ b0)) (v.cc b0 a es) x:=by
 induction h with
 |c h=>exact .c (bq.cc c7 h)
 |agg h=>exact .agg (h.oJ λ_ _=>bq.cc c7)
 |ba vs xs ag h ih=>
  refine .ba _ xs (by grind[Ez]) ?_;grind[Fh]
theorem C.o6{a:Nat}{c:C}(h:c.aA n=true):(c.cc b0 a es).aA n=true:=by
 cases c with
 |arr b sz off len=>simp[C.cc];split;split;rfl;rfl;grind
 |cH b sz i o=>simp[C.cc];split;rfl;grind
 |_=>exact h
theorem V.o6{b0 a:Nat}{es:List (List T)}:∀{v:V},v.aA n=true->(v.cc b0 a es).aA n=true
 |.c x,h=>by grind[V.cc,V.aA,C.o6]
 |.agg cs,h=>by grind[V.cc,V.aA,C.o6]
 |.ba vs,h=>by exact go vs h
where go:∀vs,V.aA.V.dr n vs=true->V.aA.V.dr n (V.cc.go b0 a es vs)=true
 |[],_=>rfl
 |v::vs,h=>by simp[V.cc.go,V.aA.V.dr,cO]at h⊢;exact⟨V.o6 h.1,go vs h.2⟩
theorem Rel.freeze(R:Rel au nt φ S env J n a w){O:Nat}(Q:aP J b0=some (.arr O es)):
 Rel au nt φ (lU S (φ b0)) (qm b0 O es env) (lY b0 O es J) n a w:=by
 have c7:=R.bD.blk b0 _ Q;have m:fP w S w (lU S (φ b0)):=⟨λ_ _ h=>.inl h,λ_ _ _=>rfl⟩
 have N:∀b x,aP (lY b0 O es J) b=some x->b≠b0/\∃A,aP J b=some A/\x=A.cc b0 O es:=by
  grind[BK,bx]
 have M:∀b x,b≠b0->aP J b=some x->(φ b).2≠0->∀j,¬lU S (φ b0) (φ b).1 j:=by
  intro b x D I h0 j f;rcases f with f|⟨K,f⟩
  . exact(R.bD.blk b x I).nw h0 j f
  . exact R.bD.inj b b0 x _ I Q D h0 K f
 refine⟨⟨λb x I=>?_,λb U x y I ak D h0 X=>?_,λb j f=>?_⟩,λk g v ag ao=>?_,λk g v ag ao=>?_,λk g v ag ao=>?_,λb x I=>?_,R.size,R.defers,?_,λb x I h0=>?_,R.fix,R.fT⟩
 . obtain⟨D,A,q,rfl⟩:=N b x I;have B:=R.bD.blk b A q;cases A with
   |box cs=>
    obtain⟨h0,vs,E,h1,F,G⟩:=B;exact⟨h0,vs,E,h1,F.oJ λ_ _=>bq.cc c7,M b _ D q h0⟩
   |arr sz l=>
    obtain⟨h1,F,G,P,bh⟩:=B;refine⟨h1,F,G,P,λh0=>?_⟩;grind[bP.mono]
   |set ks=>exact⟨B.1,B.2.1,M b _ D q B.1⟩
   |buf E s=>exact⟨B.1,B.2.1,λh0=>⟨(B.2.2 h0).1,M b _ D q h0⟩⟩
   |b1 E c=>
    obtain⟨h0,⟨p,v,h1,F,G⟩,P⟩:=B;exact⟨h0,⟨p,v,h1,F,bq.cc c7 G⟩,M b _ D q h0⟩
   |cx sz l i o c=>
    obtain⟨⟨h1,F,G,P,bh,Y⟩,⟨vs,E,bn,bt,bY,v,cw,cW⟩,dm⟩:=B;exact⟨⟨h1,F,G,P,bh,Y⟩,⟨vs,E,bn,bt,λi j e t he ht aV=>let⟨v,Z,W⟩:=bY i j e t he ht aV;⟨v,Z,bP.mono m W⟩,v,cw,bq.cc c7 cW⟩,M b _ D q (by omega)⟩
 . obtain⟨_,A,q,rfl⟩:=N b x I;obtain⟨_,an,am,rfl⟩:=N U y ak;exact R.bD.inj b U A an q am D h0 X
 . rcases f with f|⟨K,rfl⟩
   . exact R.bD.st b j f
   . exact c7.iA K
 . rw[yc,bx]at ag;obtain⟨⟨H,v0⟩,L,he⟩:=ag;cases he;obtain⟨x,I,W⟩:=R.fJ k H v0 L ao;grind[b2.cc]
 . rw[yc,bx]at ag;obtain⟨⟨H,v0⟩,L,he⟩:=ag;cases he;exact R.gp k H v0 L ao
 . rw[yc,bx]at ag;obtain⟨⟨H,v0⟩,L,he⟩:=ag;cases he;exact V.o6 (R.fI k H v0 L ao)
 . obtain⟨_,A,q,rfl⟩:=N b x I;refine⟨(R.dz b A q).1,?_⟩;have:=(R.dz b A q).2;cases A with
   |box cs=>grind[bT.cc,bT.aA,List.all_map,List.all_eq_true,C.o6]
   |arr sz l=>rfl
   |set ks=>rfl
   |buf E s=>rfl
   |b1 E c=>grind[bT.cc,bT.aA,C.o6]
   |cx sz l i o c=>grind[bT.cc,bT.aA,C.o6]
 . refine⟨R.ext.os,R.ext.tape,R.ext.output,R.ext.size,R.ext.block,R.ext.mono.trans m,λb j f=>?_⟩;rcases f with f|⟨K,rfl⟩
   . exact R.ext.j9 b j f
   . rcases R.own b0 _ Q K with h|h
     all_goals grind
 . obtain⟨_,A,q,rfl⟩:=N b x I;exact R.own b A q h0
theorem V.Mo:∀v:V,v.aA (λ_=>true)=true
 |.c x=>by grind[V.aA,C.jT]
 |.agg cs=>by grind[V.aA,C.jT]
 |.ba vs=>go vs
where go:∀vs,V.aA.V.dr (λ_=>true) vs=true
 |[]=>rfl
 |v::vs=>by simp[V.aA.V.dr,V.Mo v,go vs]
theorem Rel.adM(R:Rel au nt φ S env J n a w){U:Nat}(L:aP J b0=some (.arr U es)):Rel au nt φ (lU S (φ b0)) env (fB J b0) n a w:=by
 have c7:=R.bD.blk b0 _ L;have m:fP w S w (lU S (φ b0)):=⟨λ_ _ h=>.inl h,λ_ _ _=>rfl⟩
 have D:=R.del b0;have P:∀b x,aP (fB J b0) b=some x->b≠b0/\aP J b=some x:=by
  grind[eK]
 have H:∀b x,b≠b0->aP J b=some x->(φ b).2≠0->∀j,¬lU S (φ b0) (φ b).1 j:=by
  intro b x A I h0 j f;rcases f with f|⟨G,f⟩
  . exact(R.bD.blk b x I).nw h0 j f
  . exact R.bD.inj b b0 x _ I L A h0 G f
 have N:∀{c:C} {v:Value},bq φ w S c v->bq φ w (lU S (φ b0)) c v:=λh=>bq.mono m (λ_ _=>rfl) (C.jT _) h;refine⟨⟨λb x I=>?_,D.bD.inj,λb j f=>?_⟩,λk g v ag ao=>?_,R.gp,R.fI,D.dz,R.size,R.defers,?_,D.own,R.fix,R.fT⟩
 . obtain⟨A,F⟩:=P b x I;have q:=R.bD.blk b x F;cases x with
   |box cs=>
    obtain⟨h0,vs,E,h1,y,B⟩:=q;exact⟨h0,vs,E,h1,y.imp λ_ _ _=>N,H b _ A F h0⟩
   |arr sz l=>
    obtain⟨h1,y,B,K,bh⟩:=q;refine⟨h1,y,B,K,λh0=>?_⟩;grind[bP.mono]
   |set ks=>exact⟨q.1,q.2.1,H b _ A F q.1⟩
   |buf E s=>exact⟨q.1,q.2.1,λh0=>⟨(q.2.2 h0).1,H b _ A F h0⟩⟩
   |b1 E c=>
    obtain⟨h0,⟨p,v,h1,y,B⟩,K⟩:=q;exact⟨h0,⟨p,v,h1,y,N B⟩,H b _ A F h0⟩
   |cx sz l i o c=>
    obtain⟨⟨h1,y,B,K,bh,O⟩,⟨vs,E,bn,bt,bY,v,cw,cW⟩,dm⟩:=q;exact⟨⟨h1,y,B,K,bh,O⟩,⟨vs,E,bn,bt,λi j e t he ht aV=>let⟨v,Q,M⟩:=bY i j e t he ht aV;⟨v,Q,bP.mono m M⟩,v,cw,N cW⟩,H b _ A F (by omega)⟩
 . rcases f with f|⟨G,rfl⟩
   . exact R.bD.st b j f
   . exact c7.iA G
 . obtain⟨x,I,M⟩:=R.fJ k g v ag ao;exact⟨x,I,b2.mono m (n:=λ_=>true) (λ_ _=>rfl) (V.Mo _) M⟩
 . refine⟨R.ext.os,R.ext.tape,R.ext.output,R.ext.size,R.ext.block,R.ext.mono.trans m,λb j f=>?_⟩;rcases f with f|⟨G,rfl⟩
   . exact R.ext.j9 b j f
   . rcases R.own b0 _ L G with h|h
     all_goals grind
theorem Wn {te sz bytes:Nat}{x y:aO}{key:Nat}{r:Result Next}(j:∀{p v J'},aM (.append te sz bytes x y) env J key=some (p,v,J')->p->Good P au nt env J' (ins n key) a v r)
 {p v J'}(h:aM (.appendT te sz bytes x y) env J key=some (p,v,J'))(o:∀z,aP J key≠some z)(al:p):Good P au nt env J' (ins n key) a v r:=by
 simp only[aM,bk]at h;obtain⟨⟨G,v0⟩,h1,⟨d1,d2⟩,i,h⟩:=h;dsimp only at h;split at h
 . cases h
 . rename_i E;rw[bk]at h;obtain⟨ys,F,h⟩:=h;split at h
   . rename_i b I off len;split at h
     . rename_i d es k;split at h
       . cases h
       . rename_i s;simp only[dK,dW]at h;obtain⟨rfl,rfl,rfl⟩:=h;obtain⟨u,w,rfl,rfl,rfl,rfl,A⟩:=al;obtain⟨X,bg,bj,w',D,f,H,R'⟩:=j (p:=G/\d1/\d=d/\d=d/\0=0/\es.length=es.length/\_) (v:= .c (.arr key d 0 (es.length+ys.1.length))) (J':=cZ (fB J b) key (.arr d (es++ys.1))) (by simp only[aM,h1,i,aw,E,F,k,av s]) ⟨u,w,rfl,rfl,rfl,rfl,A⟩;have hs:aP (cZ (fB J b) key (.arr d (es++ys.1))) key=some (.arr d (es++ys.1)):=by rw[cQ,ai rfl]
         have c7:=R'.bD.blk key _ hs;cases f with
         |c f=>
         have l:=bq.cc c7 f;have m:bq bg w' (lU bj (bg key)) (.t (.slice (es++ys.1))) X:=(by simpa[C.cc,cut]using l);refine⟨X,bg,_,w',D,.c m,rfl,(R'.adM hs).congr λg=>?_⟩;simp only[eK,cQ];have q:aP J key=none:=by cases B:aP J key with|none=>rfl|some z=>exact absurd B (o z)
         by_cases e:key=g
         . subst e;simp[q]
         . simp[e]
     . cases h
   . cases h
end
section
variable {P:Program}{au:Ctx}{nt:Nat}{φ:c0}{S:c6}{env:Env}{J:a8}{n:Nat->Bool}{key:Nat}{a:Act}{w:World}
theorem ue{x:Array α}{a b:α}(h:x.toList=[a,b]):x=#[a,b]:=by grind
theorem Ga{x:Array α}{a:α}(h:x.toList=[a]):x=#[a]:=by grind
theorem WR(R:Rel au nt φ S env J n a w)(q:o.op= .call c){s:cF}(b:kV P c=some s)
 {p v J'}(m:n key=false)(h:aM s env J key=some (p,v,J'))(al:p):Good P au nt env J' (ins n key) a v ((execOp a.eval o).run P w):=by
 obtain⟨callee,args,argTypes⟩:=c;unfold kV at b;split at b
 . grind[Ga,bx,Y6]
 . rename_i k;split at b
   . rename_i x y t u I ht;have I:=ue I;have ht:=ue ht;subst k;subst I;subst ht;split at b
     . rename_i e g r;simp only[bk,er,dK]at b;obtain⟨i,l,z,d,A,f,⟨h1,j,B⟩,rfl⟩:=b;exact Vg R q g r l h1 j d f m h al
     . rename_i e C g r;simp only[bk,er,dK]at b;obtain⟨i,l,z,d,A,f,⟨h1,j⟩,rfl⟩:=b;exact Vh R q g r l h1 j d f m h al
     . cases b
   grind
 . grind[ue,bk,bx,W4]
 . grind[ue,bk,bx,W5]
 . split at b
   . rename_i x t I ht;have I:=Ga I;have ht:=Ga ht;subst I;subst ht;split at b
     . simp only[er,bx]at b;grind[Xq]
     . cases b
   grind
 . rename_i k;split at b
   . rename_i x y t u I ht;have I:=ue I;have ht:=ue ht;subst k;subst I;subst ht;split at b
     . rename_i e g;simp only[er,bk,bx]at b;obtain⟨⟨_,_,B⟩,z,d,A,f,rfl⟩:=b;exact WN R q g B d f m h al
     grind
   grind
 . grind[bx,aM]
 . grind[bx,aM]
 grind
theorem Good.mono{J':a8}{dR c:Nat->Bool}(h:∀b,dR b=true->c b=true){r:Result Next}(g:Good P au nt env J' dR a v r):Good P au nt env J' c a v r:=by
 obtain⟨x,bg,bj,w',h1,e,f,R'⟩:=g;exact⟨x,bg,bj,w',h1,e,V.gO h f,R'.more h⟩
theorem RD(R:Rel au nt φ S env J n a w){L:cF}(b:cY P o.op=some L)
 (ad:∀e e8,L≠.allocS e e8){p v J'}(j:n key=false)(h:aM L env J key=some (p,v,J'))(al:p):Good P au nt env J' (ins n key) a v ((execOp a.eval o).run P w):=by
 generalize l:o.op=op at b;cases op with
 |move x=>simp only[cY,bx]at b;obtain⟨q,I,rfl⟩:=b;exact Hu R (.inl l) I j h al
 |assign x=>simp only[cY,bx]at b;obtain⟨q,I,rfl⟩:=b;exact Hu R (.inr l) I j h al
 |pick c x y=>
  simp only[cY,bk,bx]at b;obtain⟨ac,V,q,I,D,ak,rfl⟩:=b;exact W0 R l V I ak j h al
 |alloc e=>
  simp only[cY]at b;split at b
  . cases b;exact absurd rfl (ad _ _)
  . simp only[bk]at b;obtain⟨cs,O,b⟩:=b;split at b
    . split at b
      . rename_i V;cases b;exact WE R l O (by omega) (by omega) j h al
      . cases b;exact Qp R l O j h al
    . cases b;exact Qp R l O j h al
 |box e x=>simp only[cY,bx]at b;obtain⟨q,I,rfl⟩:=b;exact Y8 R l I j h al
 |build t parts=>
  simp only[cY]at b;split at b
  . rename_i fs F;simp only[er,bk,bx]at b;obtain⟨h1,z,E,ps,G,rfl⟩:=b;exact Xk R l F h1 E G j h al
  . simp only[bk,bx]at b;rename_i len e A;obtain⟨z,E,m,B,ps,G,rfl⟩:=b;exact VD R l A B E G j h al
  . cases b
 |buildSlice t len parts=>
  simp only[cY]at b;split at b
  . rename_i e A;simp only[bk,er,dK]at b;obtain⟨m,B,z,E,ps,G,⟨h1,M,N⟩,rfl⟩:=b;exact WB R l A B E G h1 M N j h al
  . cases b
 |load t x=>
  simp only[cY,bk,bx]at b;obtain⟨g,ao,q,I,rfl⟩:=b;exact Xa R l ao I j h al
 |store t x y=>
  simp only[cY,bk,bx]at b;obtain⟨m,B,q,I,D,ak,rfl⟩:=b;exact Xj R l B I ak j h al
 |nilCheck x=>simp only[cY,bx]at b;obtain⟨q,I,rfl⟩:=b;exact VC R l I j h al
 |binOp op t x y yt=>
  simp only[cY]at b;split at b
  . rename_i U;split at b
    . simp only[bk,bx]at b;obtain⟨ks,T,q,I,D,ak,rfl⟩:=b;exact Xs R l U T I ak j h al
    . simp only[bk,bx]at b;obtain⟨ks,T,q,I,D,ak,rfl⟩:=b;exact V7 R l U T I ak j h al
    . simp only[er,bx]at b;grind[aM]
    . rename_i A;simp only[bk,bx]at b;obtain⟨q,I,D,ak,rfl⟩:=b;exact Wz R l U A I ak j h al
    . simp only[bk,bx]at b;obtain⟨q,I,D,ak,rfl⟩:=b;exact Ge R l I ak j h al
    . simp only[bk,bx]at b;obtain⟨q,I,D,ak,rfl⟩:=b;exact Ge R l I ak j h al
    . cases b
  . simp only[bk,bx]at b;obtain⟨q,I,D,ak,rfl⟩:=b;exact Ge R l I ak j h al
 |unOp u t x=>
  cases u<;>simp only[cY,bx,reduceCtorEq]at b
  . split at b
    . simp only[bx]at b;obtain⟨q,I,rfl⟩:=b;exact XL R l I j h al
    . cases b
  . split at b
    . simp only[bx]at b;obtain⟨q,I,rfl⟩:=b;exact XM R l I j h al
    . cases b
  . obtain⟨q,I,rfl⟩:=b;exact XK R l I j h al
 |convert s d x=>
  simp only[cY]at b;split at b
  . rename_i hs aj;simp only[bx]at b;obtain⟨q,I,rfl⟩:=b;exact W2 R l hs aj I j h al
  . rename_i hs aj;simp only[bx]at b;obtain⟨q,I,rfl⟩:=b;exact Y2 R l hs aj I j h al
  . rename_i hs aj;simp only[bx]at b;obtain⟨q,I,rfl⟩:=b;exact Y3 R l hs aj I j h al
  . rename_i e hs aj;simp only[er,bx]at b;obtain⟨⟨he,W⟩,q,I,rfl⟩:=b;have ab:P.underlying e=some (.int .u8):=(by grind);exact Y' R l hs ab aj I j h al
  . cases b
 |fieldAddr t x f=>
  simp only[cY]at b;split at b
  . rename_i fs F;simp only[bk,zZ,bx]at b;obtain⟨Z,Q,m,B,H,q,I,rfl⟩:=b;exact W3 R l F Q B H I j h al
  . cases b
 |field t x f=>
  simp only[cY]at b;split at b
  . rename_i fs F;simp only[bk,bx]at b;obtain⟨Z,Q,g,ao,q,I,rfl⟩:=b;obtain⟨h1,M,N⟩:=Fg ao;exact Y4 R l F Q M h1 N I j h al
  . cases b
 |indexAddr t x i=>
  simp only[cY]at b;split at b
  . rename_i e A;simp only[bk,zZ,bx]at b;obtain⟨m,B,H,q,I,K,C,rfl⟩:=b;exact W6 R l A B H I C j h al
  . rename_i k e A;split at b
    . simp only[er,bk,bx]at b;obtain⟨h0,s,hs,q,I,rfl⟩:=b;exact Xg R l A h0 hs I j h al
    . simp only[er,bk,bx]at b;obtain⟨W,q,I,K,C,rfl⟩:=b;exact Xf R l A W I C j h al
  . cases b
 |index t x i=>
  simp only[cY]at b;split at b
  . rename_i A;simp only[bk,bx]at b;obtain⟨q,I,K,C,rfl⟩:=b;exact W7 R l A I C j h al
  . rename_i A;simp only[er,bk,bx]at b;obtain⟨ag,q,I,K,C,rfl⟩:=b;exact WO R l A ag I C j h al
  . cases b
 |slice t x af C ah=>
  simp only[cY]at b;split at b
  . rename_i A;simp only[er,bk,bx,Option.isNone_iff_eq_none]at b;obtain⟨rfl,q,I,Y,ag,X,aa,rfl⟩:=b;exact W9 R l A I ag aa j h al
  . rename_i e A;split at b
    . simp only[bk,zZ,bx]at b;obtain⟨m,B,H,q,I,Y,ag,X,aa,rfl⟩:=b;exact Y7 R l A B I ag aa j h al
    . split at b
      . simp only[er,bx]at b;grind[Option.isSome_iff_exists,W']
      . cases b
    . cases b
  . simp only[er,bk,bx,Option.isNone_iff_eq_none]at b;grind[Xh]
  grind
 |makeFunc fn first caps=>
  cases fn<;>simp only[cY,er,bx,reduceCtorEq]at b;grind[W8]
 |extract x i=>grind[cY,bx,Y5]
 |makeSlice t x y=>
  simp only[cY]at b;split at b
  . rename_i A;simp only[er,bk,bx]at b;obtain⟨ae,i,C,z,E,⟨h0,ag⟩,q,I,rfl⟩:=b;exact WK R l A ae C E h0 ag I j h al
  . cases b
 |makeMap t r=>
  cases r with
  |some _=>simp[cY]at b
  |none=>
   simp only[cY,er,dK]at b;grind[Xm]
 |lookup t x i c=>
  cases c with
  |true=>simp[cY]at b
  |false=>
   simp only[cY,er,bk,bx]at b;grind[Xn]
 |mapUpdate t m k v0=>
  simp only[cY,er,bk,bx]at b;grind[Xo]
 |call c=>grind[cY,WR]
 |_=>simp[cY]at b
def ep(n:Nat->Bool)(k:Nat):Nat->Bool:=λb=>n b||(decide (k<=b)&&decide (b<k+16))
theorem kW{b:Nat}(h:n b=true):ep n key b=true:=by grind[ep]
theorem FP{b:Nat}(h:ins n key b=true):ep n key b=true:=by
 grind[ins,ep]
theorem Xt{b:Bool}{o a:cF}(h:C' b o=a):o=a\/∃te sz bytes x y,o= .append te sz bytes x y/\a= .appendT te sz bytes x y:=by
 unfold C' at h;split at h
 . cases b
   . exact .inl h
   . exact .inr ⟨_,_,_,_,_,rfl,h.symm⟩
 . exact .inl h
theorem QU{b:Bool×Bool}{op:Op}{a:cF}(h:uF P b op=some a):(cY P op=some a\/∃te sz bytes x y,cY P op=some (.append te sz bytes x y)/\a= .appendT te sz bytes x y)\/∃t len parts e m z ps,op= .buildSlice t len parts/\P.underlying t=some (.slice e)/\ea P e=some m/\jr P e=some z/\oe parts.toList=some ps/\m≠0/\z.length=m/\len*m<=2^24/\a= .bsliceT e m len z ps:=by
 unfold uF at h;split at h
 . right;grind[bk]
 . rename_i c _;obtain⟨o,h1,d⟩:=zN.1 h;rcases Xt d with rfl|⟨te,sz,bytes,x,y,rfl,rfl⟩
   . exact .inl (.inl h1)
   . exact .inl (.inr ⟨te,sz,bytes,x,y,h1,rfl⟩)
 . exact .inl (.inl h)
theorem Up{op:Op}{e e8:Nat}(h:cY P op=some (.allocS e e8)):op= .alloc e/\wS P e=some e8:=by
 cases op with
 |alloc a=>
  grind[cY,bk]
 |buildSlice t len parts=>
  simp[cY]at h;split at h
  . simp_all[bk]
  grind
 |build t parts=>
  simp[cY]at h;split at h
  . simp_all[bk]
  . grind[bk,bx]
  grind
 |call c=>
  simp[cY]at h;unfold kV at h
  repeat' (first|(split at h)|(done))
  all_goals simp only[bk,bx,er,dK,reduceCtorEq,oK,xZ,exists_const]at h
 |binOp op t x y yt=>
  simp only[cY]at h
  repeat' (first|(split at h)|(cases h;done))
  all_goals simp only[bk,bx,er,dK,reduceCtorEq,oK,xZ,exists_const]at h
 |unOp u t x=>
  cases u<;>simp only[cY]at h
  all_goals repeat' (first|(split at h)|(cases h;done))
  all_goals simp_all
 |makeMap t r=>cases r<;>simp only[cY,reduceCtorEq,er,dK,oK]at h
 |lookup t x i c=>cases c<;>simp only[cY,reduceCtorEq,er,bk,bx,oK,xZ]at h
 |makeFunc fn first caps=>cases fn<;>simp only[cY,er,bx,reduceCtorEq,oK,xZ]at h
 |convert s d x=>
  simp only[cY]at h
  repeat' (first|(split at h)|(cases h;done))
  all_goals simp_all
 |_=>
  simp only[cY]at h
  try repeat' (first|(split at h)|(cases h;done))
  all_goals simp only[bk,bx,er,zZ,reduceCtorEq,oK,xZ,exists_const]at h
theorem WS(R:Rel au nt φ S env J n a w){g:cF}{k:Bool×Bool}(f:uF P k o.op=some g)
 {p v J'}(aV:∀b,key<=b->b<key+16->n b=false)(h:aM g env J key=some (p,v,J'))(al:p):Good P au nt env J' (ep n key) a v ((execOp a.eval o).run P w):=by
 have d:=aV _ (e6 _) (by simp);rcases QU f with(f|⟨te,sz,bytes,x,y,C,rfl⟩)|⟨t,len,parts,e,m,z,ps,i,D,u,j,B,h1,q,r,rfl⟩
 . by_cases hs:∃e e8,g= .allocS e e8
   . obtain⟨e,e8,rfl⟩:=hs;obtain⟨i,s⟩:=Up f;refine(WG R i s d (aV _ (by simp) (by simp)) h al).mono λb c=>?_;grind[ins,ep]
   . exact(RD R f (λe e8 he=>hs ⟨e,e8,he⟩) d h al).mono λb c=>FP c
 . refine(Wn (λl A=>RD R C (λe e8 he=>by cases he) d l A) h (λz j=>?_) al).mono λb c=>FP c;have:=(R.dz _ _ j).1;rw[d]at this;cases this
 . exact(Vf R i D u j B h1 q r d h al).mono λb c=>FP c
end
def hb(P:Program)(f:Nat)(args:List V)(J:a8)(key:Nat)(K:V->a8->Prop):Prop:=
 ∀au nt φ S env n a w,Rel au nt φ S env J n a w->(∀b,key<=b->b<key+16->n b=false)->V.aA.V.dr n args=true->∀vs:List Value,a6 (b2 φ w S) args vs->
  Calls P f vs.toArray w λe w'=>∃v r bg bj J',e= .returned v/\K r J'/\b2 bg w' bj r v/\r.aA (ep n key)=true/\Rel au nt bg bj env J' (ep n key) a w'
theorem hb.mono{P:Program}{args:List V}{J:a8}{key:Nat}{K c:V->a8->Prop}(h:hb P f args J key K)(p:∀r J',K r J'->c r J'):hb P f args J key c:=
 λau nt φ S env n a w R aV o vs q=>(h au nt φ S _ n a w R aV o vs q).mono λe w' ⟨v,r,bg,bj,J',h1,g,j⟩=>⟨v,r,bg,bj,J',h1,p _ _ g,j⟩
def fO(env:Env):Option (Nat×Bool)->Option Bool
 |none=>some true
 |some (t,b)=>match look env t with
  |some (g,.c (.t (.bool x)))=>some (g&&(x==b))
  |_=>none
def ee(env:Env)(dst:Option Nat)(g:Bool)(v:V):Env:=
 match dst with
 |none=>env
 |some d=>(d,g,v)::env
def qZ(b:Bool):V:= .c (.t (.bool b))
def gK(P:Program)(o:b5)(key:Nat)(env:Env)(J:a8)(K:Env->a8->Prop):Prop:=
 match fO env o.guard with
 |none=>False
 |some g=>(g=false/\∃v,K (ee env o.dst g v) J)\/
  match o.op with
  |.call f args=>match gW env args with
   |some (p,vs)=>match o.guard with
    |none=>p/\hb P f vs J key (λr J'=>K (ee env o.dst true r) J')
    |some _=>(g=true/\p/\hb P f vs J key (λr J'=>K (ee env o.dst true r) J'))\/∃r,(g=true->p/\hb P f vs J key (λa J'=>a=r/\J'=J))/\K (ee env o.dst g r) J
   |none=>False
  |.hD x args=>match x.get env,gW env args with
   |some (q,.c (.fn f caps)),some (p,vs)=>o.guard=none/\gL P f=true/\q/\p/\hb P f (vs++caps.map (λb=>V.c (.ptr b 0))) J key (λr J'=>K (ee env o.dst true r) J')
   |_,_=>False
  |.eqNil neg x=>match x.get env with
   |some (p,.c (.t (.slice es)))=>o.guard=none/\p/\∀b:Bool,(es≠[]->b=false)->K (ee env o.dst true (qZ (if neg then !b else b))) J
   |some (p,.c .aT)=>o.guard=none/\p/\∀b:Bool,K (ee env o.dst true (qZ (if neg then !b else b))) J
   |some (p,.c (.arr _ _ _ l))=>o.guard=none/\p/\∀b:Bool,(l≠0->b=false)->K (ee env o.dst true (qZ (if neg then !b else b))) J
   |_=>False
  |op=>match aM op env J key with
   |some (p,v,J')=>(g=true->p)/\(op.neutral=true\/g=true)/\K (ee env o.dst g v) (if op.neutral then J else J')
   |none=>False
def jS(P:Program):List b5->Nat->Env->a8->(Env->a8->Prop)->Prop
 |[],_,env,J,K=>K env J
 |o::r,key,env,J,K=>gK P o key env J λenv' J'=>jS P r (key+16) env' J' K
section
variable {P:Program}{au:Ctx}{nt:Nat}{φ:c0}{S:c6}{env:Env}{J:a8}{n:Nat->Bool}{key:Nat}{a:Act}{w:World}
theorem lP{k:Nat}:look (ee env dst g v) k=if dst=some k then some (g,v)else look env k:=by
 unfold ee;grind[look]
theorem Rel.vu(R:Rel au nt φ S env J n a w)(aj:∀d,dst=some d->d<nt){x:Value}(I:g=true->b2 φ w S v x)(o:g=false->x=undef)(j:g=true->v.aA n=true):
 Rel au nt φ S (ee env dst g v) J n (a.put dst x) w:=by
 have f:∀k,(a.put dst x).tmps[k]?=if dst=some k then some x else a.tmps[k]?:=by
  cases dst with
  |none=>simp[Act.put]
  |some d=>
   have aF:d<a.tmps.size:=by rw[R.size];grind
   grind[Act.put]
 refine⟨R.bD,λk c e ag ao=>?_,λk c e ag ao=>?_,λk c e ag ao=>?_,R.dz,?_,?_,R.ext,R.own,R.fix,R.fT⟩
 . rw[lP]at ag;rw[f];split at ag
   . grind
   . rename_i h;rw[av h];exact R.fJ k c e ag ao
 . rw[lP]at ag;rw[f];split at ag
   . grind
   . rename_i h;rw[av h];exact R.gp k c e ag ao
 . rw[lP]at ag;split at ag
   . grind
   . exact R.fI k c e ag ao
 . cases dst<;>simp[Act.put,R.size]
 . cases dst<;>simp[Act.put,R.defers]
theorem RE(R:Rel au nt φ S env J n a w){ops:Array Oper}(b:rD ops o.guard=some gd)(ao:fO env gd=some g):Region.wanted o (yielded ops a.tmps)=g:=by
 unfold Region.wanted;cases f:o.guard with
 |none=>
  grind[rD,fO]
 |some i=>
  rw[f]at b;simp only[rD,bx]at b;obtain⟨d,aj,rfl⟩:=b;simp[fO]at ao;split at ao
  . rename_i c x ag;simp at ao;subst ao;simp[yielded,aj];cases e:c with
    |true=>
     obtain⟨y,ak,b⟩:=R.fJ d c _ ag e;have:=b.iG;grind
    |false=>
     have:=R.gp d c _ ag e;simp only[this];rfl
  grind
def i'(au:Ctx)(nt:Nat)(n:Nat->Bool)(K:Env->a8->Prop)(a:Act)(w:World):Prop:=∃φ S env J,K env J/\Rel au nt φ S env J n a w
theorem Xu  (h:gL P f = true):∃ fn,P.funcs[f]? = some fn/\fn.body.isSome = true/\(fn.name == "runtime.NumGoroutine") = false:= by
 grind[gL]
theorem V8(h:gL P f=true)(args:Array Value)(w:World):(callFunc f args).run P w= .ok (.enter f args) w:=by
 obtain⟨fn,h1,a,b⟩:=Xu h;obtain⟨c,d⟩:=Dt.1 a;simp only[callFunc,Sem.run_bind,run_program,Result.andThen_ok,h1,b,d,bU,bN,Option.isNone_some,Sem.run_pure]
theorem xp{o:cF}(h:o.neutral=true){p v J'}(a:aM o env J key=some (p,v,J')):J'=J:=by
 cases o<;>simp[cF.neutral]at h<;>simp only[aM,bk,bx]at a
 all_goals
  (try (obtain⟨a1,h1,a⟩:=a))
  (try (obtain⟨a2,b,a⟩:=a))
  (try (obtain⟨a3,c,a⟩:=a))
  (try split at a)
  (try (simp_all;done))
 all_goals repeat' (first|(cases a;done)|(cases a;rfl)|(simp only[bx]at a;obtain⟨_,_,_,_,rfl⟩:=a;rfl)|split at a)
theorem PW{ops:Array Oper}{a:b5}(h:uB P nt ops o=some a):
 uF P (Rk ops o) o.op=some a.op/\rD ops o.guard=some a.guard/\a.dst=o.dst/\∀d,a.dst=some d->d<nt:=by
 grind[uB,bk]
theorem wu{b:Bool×Bool}{op:Op}{a:cF}(h:uF P b op=some a)(d:∀e m l z ps,a≠.bsliceT e m l z ps)(c:∀e m l x y,a≠.appendT e m l x y):cY P op=some a:=by
 grind[QU]
theorem Fi{ops:Array Oper}{g:Option (Nat×Bool)}(h:rD ops o.guard=some g)(ao:g=none):o.guard=none:=by
 cases a:o.guard with
 |none=>rfl
 |some x=>
  grind[rD,bx]
theorem Gg{a:cF}(h:cY P (.alloc e)=some a)(h1:∀cs,a≠.alloc cs)(b:∀cs,a≠.allocA cs)(c:∀e e8,a≠.allocS e e8):False:=by
 grind[cY,bk]
theorem PQ{op:Op}{args:List aO}(h:cY P op=some (.call f args)):∃c,op= .call c/\kV P c=some (.call f args):=by
 cases op with
 |call c=>exact⟨c,rfl,h⟩
 |alloc e=>exfalso;exact Gg h (by simp) (by simp) (by simp)
 |makeMap t r=>cases r<;>simp[cY]at h
 |lookup t x i c=>cases c<;>simp[cY,bk]at h
 |unOp u t x=>
  cases u<;>simp[cY]at h
  all_goals (repeat' split at h)<;>(first|(done)|simp at h)
 |makeFunc fn b c=>cases fn<;>simp[cY]at h
 |_=>
  simp only[cY]at h
  (repeat' split at h)<;>(first|(cases h)|simp[bk,bx]at h)
theorem PI{op:Op}{x:aO}{args:List aO}(h:cY P op=some (.hD x args)):∃c,op= .call c/\kV P c=some (.hD x args):=by
 cases op with
 |call c=>exact⟨c,rfl,h⟩
 |alloc e=>exfalso;exact Gg h (by simp) (by simp) (by simp)
 |makeMap t r=>cases r<;>simp[cY]at h
 |lookup t x i c=>cases c<;>simp[cY,bk]at h
 |unOp u t x=>
  cases u<;>simp[cY]at h
  all_goals (repeat' split at h)<;>(first|(done)|simp at h)
 |makeFunc fn b c=>cases fn<;>simp[cY]at h
 |_=>
  simp only[cY]at h
  (repeat' split at h)<;>(first|(cases h)|simp[bk,bx]at h)
theorem PR{args:List aO}(h:kV P c=some (.call f args)):c.callee= .value (.func f)/\gL P f=true/\l9 c.args.toList=some args:=by
 unfold kV at h
 (repeat' split at h)<;>simp[bk]at h
 grind
theorem PJ{x:aO}{args:List aO}(h:kV P c=some (.hD x args)):∃t,x= .tmp t/\c.callee= .value (.tmp t)/\l9 c.args.toList=some args:=by
 unfold kV at h
 (repeat' split at h)<;>simp[bk]at h
 grind
theorem Uu{op:Op}{neg:Bool}{x:aO}(h:cY P op=some (.eqNil neg x)):
 ∃a t y z yt e,op= .binOp a t y z yt/\(a= .eql\/a= .neq)/\neg=(a== .neq)/\P.underlying t=some (.slice e)/\Ff z=true/\bA y=some x:=by
 cases op with
 |binOp a t y z yt=>
  simp[cY]at h
  (repeat' split at h)<;>(try (done))<;>simp[bk,bx,reduceCtorEq,oK]at h
  grind
 |call c=>
  simp[cY]at h;unfold kV at h
  (repeat' split at h)<;>(first|(done)|simp[bk]at h)
 |alloc e=>exfalso;exact Gg h (by simp) (by simp) (by simp)
 |makeMap t r=>cases r<;>simp[cY]at h
 |lookup t x i c=>cases c<;>simp[cY,bk]at h
 |unOp u t x=>
  cases u<;>simp[cY]at h
  all_goals (repeat' split at h)<;>(first|(cases h;done)|simp at h)
 |makeFunc fn b c=>cases fn<;>simp[cY]at h
 |_=>
  simp only[cY]at h
  (repeat' split at h)<;>(first|(cases h;done)|simp[bk,bx]at h)
theorem rM(g:o.op= .call c)(d:c.callee= .value x){caps:List Value}(I:a.eval x= .func (.func f) #[] caps.toArray)(b:gL P f=true):
 (execOp a.eval o).run P w= .ok (.enter f (c.args.toList.map a.eval++caps).toArray) w:=by
 have e:(c.args.map a.eval++caps.toArray)=(c.args.toList.map a.eval++caps).toArray:=by simp
 grind[execOp,Go.resolve,Deferred.ofValue,invoke,V8]
theorem Calls.next{args:Array Value}{key:Nat}(q:dst=o.dst)(aj:∀d,dst=some d->d<nt)(ao:g=true){K2:V->a8->Prop}
 (bE:∀r s,K2 r s->K (ee env dst g r) s)
 (h:Calls P f args w λe w'=>∃v r bg bj J',e= .returned v/\K2 r J'/\b2 bg w' bj r v/\r.aA (ep n key)=true/\Rel au nt bg bj env J' (ep n key) a w')
 (t:(execOp a.eval o).run P w= .ok (.enter f args) w):o.wp P a w (i' au nt (ep n key) K) Q:=by
 unfold Oper.wp;rw[t];refine h.mono ?_
 rintro e w' ⟨v,r,bg,bj,J',rfl,h1,c,j,p⟩
 subst q;exact⟨bg,bj,_,J',bE _ _ h1,p.vu aj (λ_=>c) (λh=>by grind) (λ_=>j)⟩
theorem Bn(R:Rel au nt φ S env J n a w)(aV:∀b,key<=b->b<key+16->n b=false){ops:Array Oper}{N:b5}(ab:uB P nt ops o=some N)(h:gK P N key env J K):
 if Region.wanted o (yielded ops a.tmps)then o.wp P a w (i' au nt (ep n key) K) Q else i' au nt (ep n key) K (a.put o.dst undef) w:=by
 obtain⟨h1,B,D,E⟩:=PW ab;unfold gK at h;split at h
 . grind
 . rename_i g ao;have aI:=RE R B ao;rw[aI];have aq:∀{v:V} {s:a8},K (ee env N.dst g v) s->s=J->g=false->i' au nt (ep n key) K (a.put o.dst undef) w:=by
    intro v s bE hs aD;subst hs;rw[<-D];exact⟨φ,S,_,_,bE,(R.more λ_ h=>kW h).vu E (λh=>by grind) (λ_=>rfl) (λh=>by grind)⟩
   rcases h with⟨aD,v,bE⟩|h
   . grind
   split at h
   ·
    rename_i f args W;rw[W]at h1;have aA:∃c,o.op= .call c/\c.callee= .value (.func f)/\gL P f=true/\l9 c.args.toList=some args:=by
     obtain⟨c,aN,ab⟩:=PQ (wu h1 (by simp) (by simp));grind[PR]
    obtain⟨c,Y,Z,F,T⟩:=aA;split at h
    . rename_i p vs U;have ad:∀w':World,(execOp a.eval o).run P w= .ok (.enter f (c.args.toList.map a.eval).toArray) w:=by
       have:=rM (P:=P) (w:=w) (a:=a) Y Z (f:=f) (caps:=[]) rfl F;grind
      split at h
      . have G:g=true:=(by grind[fO]);subst G;obtain⟨al,m⟩:=h;obtain⟨g1,g2⟩:=pS R T U al;exact Calls.next D E rfl (λ_ _ h=>h) (m au nt φ S env n a w R aV g2 _ g1) (ad w)
      . rcases h with⟨G,al,m⟩|⟨r,m,bE⟩
        . subst G;obtain⟨g1,g2⟩:=pS R T U al;exact Calls.next D E rfl (λ_ _ h=>h) (m au nt φ S env n a w R aV g2 _ g1) (ad w)
        cases H:g with
        |true=>
         obtain⟨al,m⟩:=m H;obtain⟨g1,g2⟩:=pS R T U al;refine Calls.next (K2:=λap J'=>ap=r/\J'=J) D E H (λap s aa=>?_) (m au nt φ S env n a w R aV g2 _ g1) (ad w);grind
        |false=>
         grind
    grind
   . rename_i x args W;rw[W]at h1;obtain⟨c,Y,ab⟩:=PI (wu h1 (by simp) (by simp));obtain⟨t,rfl,Z,T⟩:=PJ ab;split at h
     . rename_i q f caps p vs L U;obtain⟨u,F,aG,al,m⟩:=h;have G:g=true:=(by grind[fO]);subst G;obtain⟨g1,g2⟩:=pS R T U al;have I:=cn (x:= .tmp t) R rfl L aG;have aJ:=I.1.dJ;have aB:a6 (b2 φ w S) (caps.map λb=>V.c (.ptr b 0)) (caps.map λb=>Value.pointer (some ⟨(φ b).1,0,none⟩)):=by
        refine a6.kM (by simp) ?_;intro i v x h1 B;simp only[qv,bx]at h1 B;obtain⟨b,ax,rfl⟩:=h1;obtain⟨aM,ag,rfl⟩:=B;rw[ax]at ag;cases ag;exact .c rfl
       have aC:V.aA.V.dr n (vs++caps.map λb=>V.c (.ptr b 0))=true:=by
        grind[rE,List.getElem?_append_left,lR,List.getElem?_append_right,bx,V.aA,C.aA,List.all_eq_true]
       exact Calls.next D E rfl (λ_ _ h=>h) (m au nt φ S env n a w R aV aC _ (g1.append aB)) (rM Y Z aJ F)
     grind
   . rename_i neg x W;rw[W]at h1;obtain⟨O,ty,y,z,yt,e,aF,az,rfl,ah,am,ak⟩:=Uu (wu h1 (by simp) (by simp));have aL:∀(b:Bool) (j:Option Addr) (l c:Nat),a.eval y= .slice j l c->j.isNone=b->(execOp a.eval o).run P w= .ok (.value (.bool (if(O== .neq)then !b else b))) w:=by
      intro b j l c k F;subst F;obtain⟨ae,an,aK⟩:∃ae:Value,a.eval z=ae/\ae= .slice none 0 0:=by
       unfold Ff at am;split at am
       . exact⟨_,rfl,rfl⟩
       grind
      subst aK;have ar:(eqGuard O ty y z (a.eval y) (a.eval z)).run P w= .ok () w:=FJ (by grind) (by grind);have af:(Op.equal ty (.slice j l c) (.slice none 0 0)).run P w= .ok j.isNone w:=by
       obtain⟨d,aj⟩:∃d,Op.maxDepth=d+1:=⟨9999,rfl⟩
       unfold Op.equal;rw[aj];unfold Op.equalIn;cases j with
       |none=>simp only[Sem.run_bind,run_underlying ah,Result.andThen_ok];rfl
       |some j=>simp only[Sem.run_bind,run_underlying ah,Result.andThen_ok];rfl
      have av:(binOp O ty (a.eval y) (a.eval z)).run P w= .ok (.bool (if(O== .neq)then !j.isNone else j.isNone)) w:=by
       rcases az with rfl|rfl
       . rw[k,an];simp only[binOp,Sem.run_bind,af];rfl
       . rw[k,an];simp only[binOp,Sem.run_bind,af];rfl
      simp[execOp,aF,ar,av]
     have M:∀ (b:Bool) (j:Option Addr) (l c:Nat),o.guard = none->a.eval y = .slice j l c->j.isNone = b->K (ee env N.dst true (qZ (if (O == .neq) then !b else b))) J->
      (if g then o.wp P a w (i' au nt (ep n key) K) Q else i' au nt (ep n key) K (a.put o.dst undef) w):=by
      intro b j l c u k F bE;have G:g=true:=by
       have:Region.wanted o (yielded ops a.tmps)=true:=(by simp[Region.wanted,u]);grind
      rw[ai G];unfold Oper.wp;rw[aL b j l c k F];show i' au nt (ep n key) K (a.put o.dst _) w;rw[<-D];exact⟨φ,S,_,_,bE,(R.more λ_ h=>kW h).vu E (λ_=>.nO _) (λh=>by cases h) (λ_=>rfl)⟩
     split at h
     . rename_i p es L;obtain⟨u,al,bE⟩:=h;obtain⟨j,cap,sz,b,off,f,k,_,_,_,A,_⟩:=bP.iS (cn R ak L al).1.dJ;exact M j.isNone j _ _ (Fi B u) k rfl (bE _ λh=>by rw[A h];rfl)
     . rename_i p L;obtain⟨u,al,bE⟩:=h;obtain⟨j,k⟩:=(cn R ak L al).1.dJ;exact M j.isNone j _ _ (Fi B u) k rfl (bE _)
     . rename_i p b sz off l L;obtain⟨u,al,bE⟩:=h;obtain⟨j,k,X,aP⟩:=bq.gx (cn R ak L al).1.dJ;exact M j.isNone j _ _ (Fi B u) k rfl (bE _ λh=>by rw[X (by omega)];rfl)
     . exact h.elim
   . rename_i Y Z aO;split at h
     . rename_i p v J' X;obtain⟨al,A,bE⟩:=h;cases H:g with
       |true=>
        simp only[bJ];obtain⟨x,bg,bj,w',hres,aH,ay,R'⟩:=WS R h1 aV X (al H);have aw:(if N.op.neutral then J else J')=J':=by
         split
         . rename_i aE;exact(xp aE X).symm
         . rfl
        rw[aw]at bE;have M:i' au nt (ep n key) K (a.put o.dst x) w':=by
         rw[<-D];exact⟨bg,bj,_,_,bE,R'.vu E (λ_=>aH) (λh=>by rw[H]at h;cases h) (λ_=>ay)⟩
        unfold Oper.wp;rcases hres with hres|⟨hres,rfl⟩
        . rw[hres];exact M
        . rw[hres];exact M
       |false=>
        simp only[bU,bN];rcases A with A|A
        . rw[ai A]at bE;exact aq bE rfl H
        . rw[H]at A;cases A
     . exact h.elim
end
def lt(N:Nat):Nat->Bool:=λb=>decide (b<N)
theorem B2{N b:Nat}(h:ep (lt N) N b=true):lt (N+16) b=true:=by
 grind[ep,lt]
theorem yd{N b:Nat}(h:N<=b):lt N b=false:=by grind[lt]
theorem Ch{N M b:Nat}(h:N<=M)(a:lt N b=true):lt M b=true:=by grind[lt]
section
variable {P:Program}{au:Ctx}{nt kk:Nat}{φ:c0}{S:c6}{env:Env}{J:a8}{N:Nat}{a:Act}{w:World}
theorem HA{ops:Array Oper}{Q:Exit->Act->World->Prop}{K:Env->a8->Nat->Prop}:∀{l:List Oper} {a':List b5} {k N:Nat} {env:Env} {J:a8} {φ:c0} {S:c6} {a:Act} {w:World},gA P nt ops l=some a'->(∀i:Nat,i<l.length->l[i]?=ops[k+i]?)->
 Rel au nt φ S env J (lt N) a w->jS P a' N env J (λe s=>K e s (N+16*a'.length))->(∀φ S e s N a w,K e s N->Rel au nt φ S e s (lt N) a w->Q .normal a w)->wpOps P ops Q (List.range' k l.length) a w
 |[],a',k,N,env,J,φ,S,a,w,c,g,R,h,f=>by
  simp[gA]at c;subst c;exact f _ _ _ _ _ _ _ h R
 |o::l,a',k,N,env,J,φ,S,a,w,c,g,R,h,f=>by
  simp[gA,bk,bx]at c;obtain⟨n,j,d,m,rfl⟩:=c;have p:ops[k]?=some o:=by have:=g 0 (by simp);grind
  rw[kJ,xW,wpOps_cons];unfold wpOp;have hs:=Bn R (λb h1 _=>yd h1) j (K:=λe s=>jS P d (N+16) e s λe s=>K e s (N+16*(d.length+1))) (by grind[jS]) (Q:=Q);have next:∀b4 w',i' au nt (ep (lt N) N) (λe s=>jS P d (N+16) e s λe s=>K e s (N+16*(d.length+1))) b4 w'->wpOps P ops Q (List.range' (k+1) l.length) b4 w':=by
   rintro b4 w' ⟨bg,bj,e,s,bE,R'⟩
   refine HA m (λi aF=>?_) (R'.more λ_ h=>B2 h) ?_ f
   . have:=g (i+1) (by grind);grind
   grind
  split at hs
  . grind[Oper.wp_mono]
  grind
def R0(P:Program)(nt kk:Nat)(c:Code)(env:Env)(J:a8)(N:Nat)(Q:Exit->Env->a8->Nat->Prop):Prop:=
 ∀au φ S a w,au.k=kk->Rel au nt φ S env J (lt N) a w->c.wp P (λe b4 w'=>∃bg bj env' J' N',Q e env' J' N'/\Rel au nt bg bj env' J' (lt N') b4 w') a w
def cl(P:Program)(nt kk:Nat)(c:dx)(env:Env)(J:a8)(N:Nat)(Q:Exit->Env->a8->Nat->Prop):Prop:=
 ∀code,resolve P nt code=some c->R0 P nt kk code env J N Q
variable {Q mq:Exit->Env->a8->Nat->Prop}
theorem cl.mono{c:dx}(h:cl P nt kk c env J N Q)(o:∀e env J N,Q e env J N->mq e env J N):cl P nt kk c env J N mq:=
 λcode g au φ S a w j R=>wp_mono (h _ g au φ S a w j R) λe a w ⟨bg,bj,env',J',N',h1,f⟩=>⟨bg,bj,env',J',N',o _ _ _ _ h1,f⟩
theorem cl.skip(h:Q .normal env J N):cl P nt kk .skip env J N Q:=by
 intro code c au φ S a w e R;cases code<;>simp[resolve,bk]at c<;>(try (first|(cases c;done)|(obtain⟨l,_,c⟩:=c;(repeat' split at c)<;>cases c)))
 grind[wp_skip]
theorem cl.ret(h:Q .ret env J N):cl P nt kk .ret env J N Q:=by
 intro code c au φ S a w e R;cases code<;>simp[resolve,bk]at c<;>(try (first|(cases c;done)|(obtain⟨l,_,c⟩:=c;(repeat' split at c)<;>cases c)))
 grind[wp_ret]
theorem cl.exit(h:Q (.exit id) env J N):cl P nt kk (.exit id) env J N Q:=by
 intro code c au φ S a w e R;cases code<;>simp[resolve,bk]at c<;>(try (first|(cases c;done)|(obtain⟨l,_,c⟩:=c;(repeat' split at c)<;>cases c)))
 grind[wp_exit]
def andThen(next:Env->a8->Nat->Prop)(Q:Exit->Env->a8->Nat->Prop):Exit->Env->a8->Nat->Prop
 |.normal,env,J,N=>next env J N
 |e,env,J,N=>Q e env J N
theorem Xv{x y:dx}(h:resolve P nt code=some (.seq x y)):∃a b,code= .seq a b/\resolve P nt a=some x/\resolve P nt b=some y:=by
 cases code with
 |seq a b=>
  simp[resolve,bk,bx]at h;grind
 |region id ops c=>
  grind[resolve,bk]
 |_=>simp[resolve,bk,bx]at h
theorem V9{c:aO}{x y:dx}(h:resolve P nt code=some (.cond c x y)):∃o a b,code= .cond o a b/\bA o=some c/\resolve P nt a=some x/\resolve P nt b=some y:=by
 cases code with
 |cond o a b=>
  simp[resolve,bk,bx]at h;grind
 |region id ops d=>
  grind[resolve,bk]
 |_=>simp[resolve,bk,bx]at h
theorem Wo{x:dx}(h:resolve P nt code=some (.block id x)):∃b,code= .block id b/\resolve P nt b=some x:=by
 cases code with
 |block i b=>
  grind[resolve,bx]
 |region id ops a=>
  grind[resolve,bk]
 |_=>simp[resolve,bk]at h
theorem V'{x:dx}(h:resolve P nt code=some (.loop x)):∃b,code= .loop b/\resolve P nt b=some x:=by
 cases code with
 |loop b=>
  grind[resolve,bx]
 |region id ops a=>
  grind[resolve,bk]
 |_=>simp[resolve,bk]at h
theorem QV(h:resolve P nt code=some (.region a')):∃id ops,code= .region id ops false/\gA P nt ops ops.toList=some a':=by
 cases code with
 |region id ops a=>
  grind[resolve,bk]
 |_=>grind[resolve,bk,bx]
theorem PX{eB:List (Nat×Nat)}(h:resolve P nt code=some (.nB a' eB)):
 ∃id ops,code= .region id ops true/\gA P nt ops ops.toList=some a'/\ri (fj ops a')=true/\P.follows .mixedOrders=true/\eB=q2 (fj ops a'):=by
 cases code with
 |region id ops a=>
  grind[resolve,bk]
 |_=>grind[resolve,bk,bx]
theorem cl.seq{x y:dx}(h:cl P nt kk x env J N (andThen (λenv J N=>cl P nt kk y env J N Q) Q)):cl P nt kk (.seq x y) env J N Q:=by
 intro code g au φ S a w c R;obtain⟨j,o,rfl,I,ak⟩:=Xv g;refine wp_seq (wp_mono (h _ I au φ S a w c R) ?_)
 rintro e b4 w' ⟨bg,bj,env',J',N',f,R'⟩
 cases e with
 |normal=>exact f _ ak au _ bj b4 w' c R'
 |_=>exact⟨bg,bj,env',J',N',f,R'⟩
theorem cl.cond{c:aO}{x y:dx}{p:Prop}{b:Bool}(g:c.get env=some (p,qZ b))(al:p)(I:b=true->cl P nt kk x env J N Q)(ak:b=false->cl P nt kk y env J N Q):cl P nt kk (.cond c x y) env J N Q:=by
 intro code j au φ S a w e R;obtain⟨o,A,B,rfl,q,t,v⟩:=V9 j;have f:=(cn R q g al).1.iG;refine wp_cond f ?_;cases b with
 |true=>exact I rfl _ t au φ S a w e R
 |false=>exact ak rfl _ v au φ S a w e R
def inBlock(id:Nat)(Q:Exit->Env->a8->Nat->Prop):Exit->Env->a8->Nat->Prop
 |.exit i,env,J,N=>if i=id then Q .normal env J N else Q (.exit i) env J N
 |e,env,J,N=>Q e env J N
theorem cl.block{id:Nat}{x:dx}(h:cl P nt kk x env J N (inBlock id Q)):cl P nt kk (.block id x) env J N Q:=by
 intro code f au φ S a w g R;obtain⟨b,rfl,c⟩:=Wo f;refine wp_block (wp_mono (h _ c au φ S a w g R) ?_)
 rintro e b4 w' ⟨bg,bj,env',J',N',j,R'⟩
 cases e with
 |exit i=>
  grind[inBlock,Exit.inBlock]
 |_=>exact⟨bg,bj,env',J',N',j,R'⟩
theorem cl.region{a':List b5}(h:jS P a' N env J (λe s=>Q .normal e s (N+16*a'.length))):cl P nt kk (.region a') env J N Q:=by
 intro code f au φ S a w o R;obtain⟨id,ops,rfl,g⟩:=QV f;refine wp_region ?_;have:=HA (Q:=λe b4 w'=>∃bg bj env' J' N',Q e env' J' N'/\Rel au nt bg bj env' J' (lt N') b4 w') (k:=0) g (λi j=>by simp) R h
  (λφ S e s N a w bE c=>⟨φ,S,e,s,N,bE,c⟩)
 grind[List.range_eq_range']
end
def pos:aZ->Nat->Option Nat
 |[],_=>none
 |x::r,b=>if x=b then some 0 else(pos r b).map (· +1)
theorem mU:∀{bs:aZ} {b i:Nat},pos bs b=some i->bs[i]?=some b
 |[],b,i,h=>by grind[pos]
 |x::r,b,i,h=>by
  unfold pos at h;split at h
  . grind
  . simp at h;obtain⟨j,a,rfl⟩:=h;simpa using mU a
def oB(bs:aZ):aZ->Option aZ
 |[]=>some []
 |c::r=>match pos bs c,oB bs r with
  |some i,some l=>some (i::l)
  |_,_=>none
def C.bS(bs:aZ):C->C
 |.t x=>.t x
 |.ptr b o=>match pos bs b with|some i=>.ptr i o|none=>.dead
 |.cH b sz i o=>match pos bs b with|some j=>.cH j sz i o|none=>.dead
 |.dF ts o=>.dF ts o
 |.arr b sz off len=>match pos bs b with|some i=>.arr i sz off len|none=>.dead
 |.fC b sz off len=>match pos bs b with|some i=>.fC i sz off len|none=>.dead
 |.mp b=>match pos bs b with|some i=>.mp i|none=>.dead
 |.en b=>match pos bs b with|some i=>.en i|none=>.dead
 |.cj b len=>match pos bs b with|some i=>.cj i len|none=>.dead
 |.aT=>.aT
 |.eU=>.eU
 |.eT=>.eT
 |.fn f caps=>match oB bs caps with|some l=>.fn f l|none=>.dead
 |.dead=>.dead
def V.bS(bs:aZ):V->V
 |.c x=>.c (x.bS bs)
 |.agg cs=>.agg (cs.map (C.bS bs))
 |.ba vs=>.ba (go bs vs)
where go (bs:aZ):List V->List V
 |[]=>[]
 |v::vs=>v.bS bs::go bs vs
def bT.bS(bs:aZ):bT->bT
 |.box cs=>.box (cs.map (C.bS bs))
 |.arr sz es=>.arr sz es
 |.set ks=>.set ks
 |.buf E s=>.buf E s
 |.b1 E c=>.b1 E (c.bS bs)
 |.cx sz es i o c=>.cx sz es i o (c.bS bs)
def mV(bs:aZ)(env:Env):aZ->Env
 |[]=>[]
 |k::ks=>match look env k with
  |some (g,v)=>(k,g,v.bS bs)::mV bs env ks
  |none=>mV bs env ks
def fv(bs:aZ)(J:a8):Nat->aZ->a8
 |_,[]=>[]
 |i,b::r=>match aP J b with
  |some x=>(i,x.bS bs)::fv bs J (i+1) r
  |none=>fv bs J (i+1) r
def keeps(k:Nat)(bs:aZ):Bool:=(List.range k).all λi=>bs[i]?==some i
section
variable {P:Program}{au:Ctx}{nt kk:Nat}{φ:c0}{S:c6}{env:Env}{J:a8}{N:Nat}{n:Nat->Bool}{a:Act}{w:World}
theorem Fj:∀{bs caps l:aZ},oB bs caps=some l->caps.length=l.length/\∀(i b j:Nat),caps[i]?=some b->l[i]?=some j->bs[j]?=some b
 |bs,[],l,h=>by grind[oB]
 |bs,c::r,l,h=>by
  unfold oB at h;split at h
  . rename_i j e d ag;obtain⟨h1,a⟩:=Fj ag;grind[mU]
  grind
theorem bq.bS(p:∀(i:Nat) b,bs[i]?=some b->bg i=φ b){c:C}{v:Value}(h:bq φ w S c v):bq bg w S (c.bS bs) v:=by
 have j:=bq.iz h;cases c with
 |ptr b o=>
  grind[C.bS,bq,mU]
 |cH b sz i o=>
  grind[C.bS,bq,mU]
 |arr b sz off len=>
  grind[C.bS,bq,mU]
 |fC b sz off len=>
  grind[C.bS,bq,mU]
 |mp b=>
  grind[C.bS,bq,mU]
 |en b=>
  grind[C.bS,bq,mU]
 |cj b len=>
  grind[C.bS,bq,mU]
 |fn f caps=>
  simp[C.bS];split
  . rename_i l ag;obtain⟨h1,g⟩:=Fj ag;rw[h]
    congr 2
    apply DG (by grind);intro i a e;simp at a e;simp;rw[p _ _ (g i _ _ (df a) (df e))]
  . exact j
 |_=>exact h
theorem Bo:∀{vs:List V} {i:Nat},(V.bS.go bs vs)[i]?=(vs[i]?).map (V.bS bs)
 |[],i=>by rfl
 |v::vs,0=>by rfl
 |v::vs,i+1=>by simp[V.bS.go,Bo]
theorem AG:∀{vs:List V},(V.bS.go bs vs).length=vs.length
 |[]=>rfl
 |v::vs=>by simp[V.bS.go,AG]
theorem b2.bS(a:∀(i:Nat) b,bs[i]?=some b->bg i=φ b){x:Value}(h:b2 φ w S v x):b2 bg w S (v.bS bs) x:=by
 induction h with
 |c h=>exact .c (bq.bS a h)
 |agg h=>exact .agg (h.oJ λ_ _=>bq.bS a)
 |ba vs xs ag h ih=>
  refine .ba _ xs (by grind[AG]) ?_;grind[Bo]
theorem r8{b i:Nat}(h:pos bs b=some i):i<bs.length:=(dL.1 (mU h)).1
theorem C.jn(c:C):(c.bS bs).aA (lt bs.length)=true:=by
 cases c with
 |ptr b o=>grind[C.bS,C.aA,lt,r8]
 |cH b sz i o=>grind[C.bS,C.aA,lt,r8]
 |arr b sz off len=>grind[C.bS,C.aA,lt,r8]
 |fC b sz off len=>grind[C.bS,C.aA,lt,r8]
 |mp b=>grind[C.bS,C.aA,lt,r8]
 |en b=>grind[C.bS,C.aA,lt,r8]
 |cj b len=>grind[C.bS,C.aA,lt,r8]
 |fn f caps=>
  simp[C.bS];split
  . rename_i l ag;obtain⟨h1,a⟩:=Fj ag;simp[C.aA,lt];intro j g;obtain⟨i,e,rfl⟩:=jk g;exact(dL.1 (a i _ _ (df (by omega)) (df e))).1
  rfl
 |_=>rfl
theorem V.jn{bs:aZ}:∀(v:V),(v.bS bs).aA (lt bs.length)=true
 |.c x=>by grind[V.bS,V.aA,C.jn]
 |.agg cs=>by grind[V.bS,V.aA,C.jn]
 |.ba vs=>by exact go vs
where go:∀vs,V.aA.V.dr _ (V.bS.go bs vs)=true
 |[]=>rfl
 |v::vs=>by simp[V.bS.go,V.aA.V.dr,cO];exact⟨V.jn v,go vs⟩
theorem xa:∀{ks:aZ} {k:Nat} {g:Bool} {v:V},look (mV bs env ks) k=some (g,v)->∃v0,look env k=some (g,v0)/\v=v0.bS bs
 |[],k,g,v,h=>by grind[mV,look]
 |x::ks,k,g,v,h=>by
  unfold mV at h;split at h
  . unfold look at h;split at h
    . grind
    . exact xa h
  . exact xa h
theorem od:∀{r:aZ} {i:Nat} {b:Nat} {x:bT},aP (fv bs J i r) b=some x->∃j c g,b=i+j/\r[j]?=some c/\aP J c=some g/\x=g.bS bs
 |[],i,b,x,h=>by grind[fv,aP]
 |c::r,i,b,x,h=>by
  unfold fv at h;split at h
  . unfold aP at h;split at h
    . simp_all
    . obtain⟨j,a,f,h1,k,d,e⟩:=od h;exact⟨j+1,a,f,by omega,by grind,d,e⟩
  . obtain⟨j,a,f,h1,k,d,e⟩:=od h;exact⟨j+1,a,f,by omega,by grind,d,e⟩
theorem cU.bS(a:∀(i:Nat) b,bs[i]?=some b->bg i=φ b){i b:Nat}(e:bs[i]?=some b){x:bT}(h:cU φ w S b x):cU bg w S i (x.bS bs):=by
 cases x with
 |box cs=>
  obtain⟨h0,vs,E,h1,f,g⟩:=h;simp only[cU,a i b e];exact⟨h0,vs,E,h1,f.oJ λ_ _=>bq.bS a,g⟩
 |arr sz es=>simp only[cU,a i b e];exact h
 |set ks=>simp only[cU,a i b e];exact h
 |buf E s=>grind[bT.bS,cU]
 |b1 E c=>
  grind[bT.bS,cU,bq.bS]
 |cx sz es i o c=>
  grind[bT.bS,cU,bq.bS]
theorem Rel.tidy(R:Rel au nt φ S env J (lt N) a w)(ks bs:aZ)(b3:bs.Nodup)(L:keeps au.k bs=true):
 ∃bg,Rel au nt bg S (mV bs env ks) (fv bs J 0 bs) (lt bs.length) a w:=by
 have G:∀(i:Nat) b,bs[i]?=some b->(λi=>φ ((bs[i]?).getD 0)) i=φ b:=by grind
 have F:∀i:Nat,i<au.k->bs[i]?=some i:=by
  simp_all[keeps,fk,List.mem_range,hL]
 refine⟨λi=>φ ((bs[i]?).getD 0),⟨⟨λb x I=>?_,λb K x y I ak M h0 t=>?_,R.bD.st⟩,λk g v ag ao=>?_,λk g v ag ao=>?_,λk g v ag ao=>?_,λb x I=>?_,R.size,R.defers,R.ext,λb x I h0=>?_,λb q=>?_,λb q=>?_⟩⟩
 . obtain⟨j,c,e,rfl,f,p,rfl⟩:=od I;rw[gS];exact cU.bS G f (R.bD.blk c e p)
 . obtain⟨j,c,e,rfl,f,p,rfl⟩:=od I;obtain⟨P,A,H,rfl,B,D,rfl⟩:=od ak;simp only[gS,f,B]at h0 t⊢;refine R.bD.inj c A e H p D ?_ h0 t;grind[List.getElem?_eq_some_iff,List.pairwise_iff_getElem,Nat.lt_trichotomy]
 . obtain⟨v0,h1,rfl⟩:=xa ag;obtain⟨x,I,O⟩:=R.fJ k g v0 h1 ao;grind[b2.bS]
 . obtain⟨v0,h1,rfl⟩:=xa ag;exact R.gp k g v0 h1 ao
 . grind[xa,V.jn]
 . obtain⟨j,c,e,rfl,f,p,rfl⟩:=od I;refine⟨by grind[lt,List.getElem?_eq_some_iff],?_⟩;cases e with
   |box cs=>grind[bT.bS,bT.aA,List.all_map,List.all_eq_true,C.jn]
   |arr sz es=>rfl
   |set ks=>rfl
   |buf E s=>rfl
   |b1 E c=>exact C.jn c
   |cx sz es i o c=>exact C.jn c
 . obtain⟨j,c,e,rfl,f,p,rfl⟩:=od I;simp only[gS,f]at h0⊢;exact R.own c e p h0
 . simp only[F b q,DH];exact R.fix b q
 . simp only[lt,gg];grind
theorem cl.tidy{c:dx}{Q:Exit->Env->a8->Nat->Prop}(ks bs:aZ)(b3:bs.Nodup)(f:keeps kk bs=true)(h:cl P nt kk c (mV bs env ks) (fv bs J 0 bs) bs.length Q):cl P nt kk c env J N Q:=by
 intro code e au φ S a w g R;subst g;obtain⟨bg,R'⟩:=R.tidy ks bs b3 f;exact h _ e au _ S a w rfl R'
theorem cl.freeze{c:dx}{Q:Exit->Env->a8->Nat->Prop}(b0:Nat){e:Nat}(f:aP J b0=some (.arr e es))(h:cl P nt kk c (qm b0 e es env) (lY b0 e es J) N Q):cl P nt kk c env J N Q:=by
 intro code g au φ S a w j R;exact h _ g au φ _ a w j (R.freeze f)
inductive iD where
 |tmp (t:Nat)
 |cell (t:Nat)(agg:Bool)(n:Nat)
def hy(P:Program):List ResultVar->Option (List iD)
 |[]=>some []
 |.tmp t::r=>(hy P r).map (.tmp t::·)
 |.cell a ty::r=>(lT P ty).bind λg=>(hy P r).map (.cell a g.1 g.2::·)
def r9(env:Env)(J:a8):iD->Option (Prop×V)
 |.tmp t=>(look env t).map λx=>(x.1=true,x.2)
 |.cell t g k=>match look env t with
  |some (a,.c (.ptr b o))=>match aP J b with
   |some (.box cs)=>(ji g k cs o).map λv=>(a=true,v)
   |_=>none
  |_=>none
def oC(env:Env)(J:a8):List iD->Option (Prop×List V)
 |[]=>some (True,[])
 |r::a=>(r9 env J r).bind λx=>(oC env J a).map λy=>(x.1/\y.1,x.2::y.2)
def ln:List V->V
 |[v]=>v
 |vs=>.ba vs
def dY(P:Program)(f:Nat)(args:List V)(J:a8)(k:Nat)(Q:V->a8->Nat->Prop):Prop:=
 ∀(φ:c0) (S:c6) (w:World) (B:Nat->Prop),oY φ w S J->(∀(b:Nat) x,aP J b=some x->b<k/\x.aA (lt k)=true)->(∀(b:Nat) x,aP J b=some x->(φ b).2≠0->B (φ b).1)->
  V.aA.V.dr (lt k) args=true->∀vs:List Value,a6 (b2 φ w S) args vs->
  Calls P f vs.toArray w λe w'=>∃v r bg bj J' N',e= .returned v/\Q r J' N'/\b2 bg w' bj r v/\r.aA (lt N')=true/\oY bg w' bj J'/\(∀(b:Nat) x,aP J' b=some x->b<N'/\x.aA (lt N')=true)/\Ext B S bj w w'/\
   (∀(b:Nat) x,aP J' b=some x->(bg b).2≠0->B (bg b).1\/w.heap.size<=(bg b).1)/\∀b,b<k->bg b=φ b
theorem Ext.refl{B:Nat->Prop}:Ext B S S w w:=⟨rfl,rfl,rfl,e6 _,λ_ _ _=>rfl,fP.refl _ _,λ_ _ h=>.inl h⟩
def fb:Nat->List V->Env
 |_,[]=>[]
 |i,v::vs=>(i,true,v)::fb (i+1) vs
theorem rJ:∀{vs:List V} {i k:Nat} {g:Bool} {v:V},look (fb i vs) k=some (g,v)->g=true/\∃j,k=i+j/\vs[j]?=some v
 |[],i,k,g,v,h=>by grind[fb,look]
 |x::vs,i,k,g,v,h=>by
  simp[fb,look]at h;split at h
  . simp_all
  . obtain⟨h1,j,a,b⟩:=rJ h;exact⟨h1,j+1,by omega,by grind⟩
def u6(a:Act):ResultVar->Sem Value
 |.tmp t=>Pure.pure (a.tmps.getD t undef)
 |.cell b ty=>do loadVar ty (<-asAddr (a.tmps.getD b undef))
theorem Rr(fn:Func)(a:Act):results fn a.tmps=(fn.results.mapM (u6 a)>>=λvs=>Pure.pure (if h:vs.size=1 then vs[0]else .tuple vs)):=by rfl
theorem Wa(R:Rel au nt φ S env J n a w){e:ResultVar}{f:iD}(c:hy P [e]=some [f]){p:Prop}(h:r9 env J f=some (p,v))(al:p):
 ∃x,(u6 a e).run P w= .ok x w/\b2 φ w S v x/\v.aA n=true:=by
 cases e with
 |tmp t=>
  simp[hy]at c;subst c;simp only[r9,bx]at h;obtain⟨⟨g,v0⟩,ag,rfl,rfl⟩:=h;obtain⟨x,I,d⟩:=R.fJ t g v0 ag al;refine⟨x,?_,d,R.fI t g v0 ag al⟩;simp[u6,I]
 |cell k ty=>
  simp only[hy,bk,bx]at c;obtain⟨g,ao,l,ag,he⟩:=c;simp at ag;subst ag;simp at he;subst he;simp[r9]at h;split at h
  . rename_i m b o ag;split at h
    . rename_i cs i;simp only[bx]at h;obtain⟨v0,r,rfl,rfl⟩:=h;obtain⟨x,I,d⟩:=R.fJ k m _ ag al;have:=d.gF;obtain⟨_,vs,E,aa,q,_⟩:=R.bD.blk _ _ i;obtain⟨y,ak,h1,s⟩:=rL ao q (R.dz _ _ i).2 (λj _=>by rw[ic aa,gS]) r;simp_all[u6,asAddr]
    grind
  grind
theorem QC(R:Rel au nt φ S env J n a w):∀{c:List ResultVar} {b:List iD} {p:Prop} {vs:List V},hy P c=some b->oC env J b=some (p,vs)->p->
 ∃xs:List Value,(c.mapM (u6 a)).run P w= .ok xs w/\a6 (b2 φ w S) vs xs/\V.aA.V.dr n vs=true
 |[],b,p,vs,f,h,al=>by
  simp[hy]at f;subst f;obtain⟨_,rfl⟩:=h;exact⟨[],by rfl,.nil,rfl⟩
 |g::c,b,p,vs,f,h,al=>by
  have l:∃d e,b=d::e/\hy P [g]=some [d]/\hy P c=some e:=by
   cases g with
   |tmp t=>
    grind[hy,bx]
   |cell r ty=>
    grind[hy,bk,bx]
  obtain⟨d,e,rfl,h1,i⟩:=l;simp only[oC,bk,bx]at h;obtain⟨⟨q,v⟩,j,⟨z,A⟩,k,he⟩:=h;obtain⟨rfl,rfl⟩:=he;obtain⟨x,I,m,s⟩:=Wa R h1 j al.1;obtain⟨xs,y,o,u⟩:=QC R i k al.2;refine⟨x::xs,?_,.cons m o,by grind[V.aA.V.dr]⟩;simp_all
theorem b2.ln{xs:List Value}(h:a6 (b2 φ w S) vs xs):b2 φ w S (ln vs) (if h:xs.toArray.size=1 then xs.toArray[0]else .tuple xs.toArray):=by
 cases h with
 |nil=>exact .ba [] [] rfl (by simp)
 |cons h1 a=>
  cases a with
  |nil=>grind[Shv.ln]
  |cons a c=>
   refine .ba _ _ (by simp[c.length]) ?_;intro i v x e I;have:=(a6.cons h1 (.cons a c)).get e;grind
theorem ZU(h:V.aA.V.dr n vs=true):(ln vs).aA n=true:=by
 unfold ln;grind[V.aA.V.dr,V.aA]
def CH(a:List iD)(Q:V->a8->Nat->Prop):Exit->Env->a8->Nat->Prop
 |.normal,env,J,N=>∃p vs,oC env J a=some (p,vs)/\p/\Q (ln vs) J N
 |.ret,env,J,N=>∃p vs,oC env J a=some (p,vs)/\p/\Q (ln vs) J N
 |_,_,_,_=>False
theorem dY.DI{fn:Func}{c:dx}{A:List iD}(U:P.funcs[f]?=some fn)(G:fn.body=some code)(O:resolve P fn.ntmps code=some c)(H:hy P fn.results.toList=some A)
 {args:List V}(aV:args.length<=fn.ntmps){k:Nat}{Q:V->a8->Nat->Prop}(h:cl P fn.ntmps k c (fb 0 args) J k (CH A Q)):dY P f args J k Q:=by
 intro φ S w B Z an X am vs K;have ag:=K.length;refine calls_of_wp U G ?_;have R:Rel ⟨w,S,B,φ,k⟩ fn.ntmps φ S (fb 0 args) J (lt k) {tmps:=vs.toArray++Array.replicate (fn.ntmps-vs.toArray.size) undef,defers:=[]} w:=by
  refine⟨Z,λi g v D ao=>?_,λi g v D ao=>?_,λi g v D ao=>?_,λb x I=>?_,?_,rfl,Ext.refl,λb x I h0=>.inl (X b x I h0),λ_ _=>rfl,λb G=>by grind[lt]⟩
  . obtain⟨_,j,rfl,W⟩:=rJ D;obtain⟨x,I,H⟩:=K.get W;grind
  . grind[rJ]
  . grind[rJ,lR]
  . grind[lt]
  grind
 refine wp_mono (h _ O _ φ S _ w rfl R) ?_
 rintro e b4 w' ⟨bg,bj,env',J',N',a,R'⟩
 have E:(∃ p vs,oC env' J' A = some (p,vs)/\p/\Q (ln vs) J' N')->b4.defers = []/\∃ v,(results fn b4.tmps).run P w' = .ok v w'/\(∃ L r o y q t,Ending.returned v = .returned L/\Q r q t/\b2 o w' y r L/\r.aA (lt t) = true/\oY o w' y q/\(∀ (b:Nat) x,aP q b = some x->b<t/\x.aA (lt t) = true)/\Ext B S y w w'/\
  (∀(b:Nat) x,aP q b=some x->(o b).2≠0->B (o b).1\/w.heap.size<=(o b).1)/\∀b,b<k->o b=φ b):=by
  rintro ⟨p,ak,h1,F,M⟩
  obtain⟨xs,ap,Y,N⟩:=QC R' H h1 F;refine⟨R'.defers,_,?_,_,ln ak,bg,bj,J',N',rfl,M,b2.ln Y,ZU N,R'.bD,λb x I=>?_,R'.ext,R'.own,R'.fix⟩
  . simp_all[Array.mapM_eq_mapM_toList,Rr]
  . obtain⟨h1,F⟩:=R'.dz b x I;grind[lt]
 cases e with
 |normal=>exact E a
 |ret=>exact E a
 |exit id=>exact a.elim
 |goto l=>exact a.elim
 |panic ik=>exact a.elim
 |outgrown=>exact a.elim
end
end
open Go
def C.sh(k:Nat):C->C
 |.ptr b o=>.ptr (k+b) o
 |.cH b sz i o=>.cH (k+b) sz i o
 |.arr b sz off len=>.arr (k+b) sz off len
 |.fC b sz off len=>.fC (k+b) sz off len
 |.mp b=>.mp (k+b)
 |.en b=>.en (k+b)
 |.cj b len=>.cj (k+b) len
 |.fn f caps=>.fn f (caps.map (k+·))
 |c=>c
def V.sh(k:Nat):V->V
 |.c x=>.c (x.sh k)
 |.agg cs=>.agg (cs.map (C.sh k))
 |.ba vs=>.ba (go k vs)
where go (k:Nat):List V->List V
 |[]=>[]
 |v::vs=>v.sh k::go k vs
def bT.sh(k:Nat):bT->bT
 |.box cs=>.box (cs.map (C.sh k))
 |.arr sz es=>.arr sz es
 |.set ks=>.set ks
 |.buf E s=>.buf E s
 |.b1 E c=>.b1 E (c.sh k)
 |.cx sz es i o c=>.cx sz es i o (c.sh k)
def lz(J:a8)(k:Nat):a8->a8
 |[]=>J
 |(b,x)::r=>cZ (lz J k r) (k+b) (x.sh k)
variable{J:a8}{f:Nat}{K:V->a8->Prop}{bg:c0}{Q:V->a8->Nat->Prop}
theorem w2{k:Nat}:∀{a:a8} {b:Nat},aP (lz J k a) b=match (if k<=b then aP a (b-k)else none)with|some x=>some (x.sh k)|none=>aP J b
 |[],b=>by simp[lz,aP]
 |(c,x)::r,b=>by
  simp[lz,cQ,w2,aP];grind
section
variable {P:Program}{au:Ctx}{nt kk:Nat}{φ:c0}{S bj:c6}{env:Env}{J:a8}{N key:Nat}{n:Nat->Bool}{a:Act}{w w':World}
theorem hb.OT{args:List V}{r:V}(h:dY P f args [] 0 (λc _ _=>c=r))(o:V.aA.V.dr (lt 0) args=true)(g:r.aA (lt 0)=true)(bE:K r J):hb P f args J key K:=by
 intro au nt φ S env n a w R aV E vs p;refine(h φ S w (λ_=>False) ⟨λb x I=>by grind[aP],λb q x y I=>by grind[aP],R.bD.st⟩ (λb x I=>by grind[aP]) (λb x I=>by grind[aP]) o vs p).mono ?_
 rintro e w' ⟨v,c,bg,bj,J',N',rfl,rfl,h1,t,j,A,bh,B,D⟩
 refine⟨v,c,φ,bj,J,rfl,bE,?_,V.gO (λb h=>by grind[lt]) g,(R.extend bh j.st).more λ_ h=>kW h⟩;exact b2.mono (fP.refl _ _) (λb h=>by grind[lt]) g h1
theorem bq.sh{k:Nat}{n:Nat->Bool}(e:∀b,n b=true->bg (k+b)=φ b){c:C}{v:Value}(a:c.aA n=true)(h:bq φ w S c v):bq bg w S (c.sh k) v:=by
 cases c with
 |ptr b o=>grind[C.aA,C.sh,bq]
 |cH b sz i o=>grind[C.aA,C.sh,bq]
 |arr b sz off len=>grind[C.aA,C.sh,bq]
 |fC b sz off len=>grind[C.aA,C.sh,bq]
 |mp b=>grind[C.aA,C.sh,bq]
 |en b=>grind[C.aA,C.sh,bq]
 |cj b len=>grind[C.aA,C.sh,bq]
 |fn f caps=>
  simp_all[C.aA,C.sh,bq]
 |_=>exact h
theorem HB{k:Nat}:∀{vs:List V} {i:Nat},(V.sh.go k vs)[i]?=(vs[i]?).map (V.sh k)
 |[],i=>by rfl
 |v::vs,0=>by rfl
 |v::vs,i+1=>by simp[V.sh.go,HB]
theorem QD{k:Nat}:∀{vs:List V},(V.sh.go k vs).length=vs.length
 |[]=>rfl
 |v::vs=>by simp[V.sh.go,QD]
theorem b2.sh{k:Nat}{n:Nat->Bool}(e:∀b,n b=true->bg (k+b)=φ b){v:V}{x:Value}(a:v.aA n=true)(h:b2 φ w S v x):b2 bg w S (v.sh k) x:=by
 induction h with
 |c h=>exact .c (bq.sh e (by grind[V.aA]) h)
 | @agg cs vs h=>
  simp[V.aA]at a;refine .agg ?_;have:=h.imp λc v f g=>bq.sh e (a c f) g;exact this.oJ λ_ _ h=>h
 |ba vs xs ag h ih=>
  refine .ba _ xs (by grind[QD]) ?_;grind[HB,lR,V.aA]
theorem C.qC{m:Nat}(a:m<=16){c:C}(h:c.aA (lt m)=true):(c.sh key).aA (ep n key)=true:=by
 cases c<;>simp[C.sh,C.aA,lt,ep]at h⊢
 all_goals grind
theorem V.qC{m:Nat}(a:m<=16):∀{v:V},v.aA (lt m)=true->(v.sh key).aA (ep n key)=true
 |.c x,h=>by grind[V.sh,V.aA,C.qC]
 |.agg cs,h=>by grind[V.sh,V.aA,C.qC]
 |.ba vs,h=>by exact go vs h
where go:∀vs,V.aA.V.dr (lt m) vs=true->V.aA.V.dr _ (V.sh.go _ vs)=true
 |[],_=>rfl
 |v::vs,h=>by simp[V.sh.go,V.aA.V.dr,cO]at h⊢;exact⟨V.qC a h.1,go vs h.2⟩
theorem hb.aee{args:List V}(h:dY P f args [] 0 Q)(F:V.aA.V.dr (lt 0) args=true)
 (bE:∀r J' N',Q r J' N'->N'<=16/\K (r.sh key) (lz J key J')):hb P f args J key K:=by
 intro au nt φ S env n a w R aV a9 vs a2;refine(h φ S w (λ_=>False) ⟨λb x I=>by grind[aP],λb H x y I=>by grind[aP],R.bD.st⟩ (λb x I=>by grind[aP]) (λb x I=>by grind[aP]) F vs a2).mono ?_
 rintro e w' ⟨v,a3,bg,bj,J',N',rfl,aI,h1,Z,M,N,bh,a4,a5⟩
 obtain⟨cr,bE⟩:=bE _ _ _ aI;have ax:=R.extend bh M.st;let B:c0:=λb=>if key<=b/\b<key+16 then bg (b-key)else φ b
 have ap:∀b,n b=true->B b=φ b:=by grind
 have A:∀b,lt N' b=true->B (key+b)=bg b:=by
  intro b F;simp only[lt,gg]at F;grind
 have t:=ax.sw ap;have G:∀b x,aP (lz J key J') b=some x->(∃c j,b=key+c/\aP J' c=some j/\x=j.sh key)\/aP J b=some x:=by
  grind[w2]
 have W:∀c j,aP J' c=some j->(B (key+c)).2≠0->w.heap.size<=(B (key+c)).1:=by grind
 have an:∀b x,aP J b=some x->(B b).2≠0->(B b).1<w.heap.size:=by
  intro b x I h0;rw[ap b (R.dz b x I).1]at h0⊢;exact(R.bD.blk b x I).iA h0
 refine⟨v,a3.sh key,B,bj,lz J key J',rfl,bE,b2.sh A Z h1,V.qC cr Z,⟨⟨λb x I=>?_,λb H x y I ak a0 h0 D=>?_,M.st⟩,t.fJ,t.gp,λk g v ag ao=>V.gO (λ_ h=>kW h) (t.fI k g v ag ao),λb x I=>?_,t.size,t.defers,t.ext,λb x I h0=>?_,t.fix,λb F=>kW (t.fT b F)⟩⟩
 . rcases G b x I with⟨c,j,rfl,q,rfl⟩|I
   . have c7:=M.blk c j q;have U:=N c j q;have aN:=A c (by grind[lt]);cases j with
     |box cs=>
      obtain⟨X,vs,E,bn,bt,bY⟩:=c7;simp only[bT.sh,cU,aN];refine⟨X,vs,E,bn,?_,bY⟩;have am:=U.2;simp only[bT.aA,fk]at am;have:=bt.imp λc v q a1=>bq.sh A (am c q) a1;exact this.oJ λ_ _ h=>h
     |arr sz es=>simp only[bT.sh,cU,aN];exact c7
     |set ks=>simp only[bT.sh,cU,aN];exact c7
     |buf E s=>simp only[bT.sh,cU,aN];exact c7
     |b1 E c=>
      obtain⟨X,⟨p,v,bn,bt,bY⟩,cw⟩:=c7;simp only[bT.sh,cU,aN];exact⟨X,⟨p,v,bn,bt,bq.sh A (by simpa[bT.aA]using U.2) bY⟩,cw⟩
     |cx sz es i o c=>
      obtain⟨h1,⟨vs,E,bn,bt,bY,v,cw,cW⟩,dm⟩:=c7;simp only[bT.sh,cU,aN];exact⟨h1,⟨vs,E,bn,bt,bY,v,cw,bq.sh A (by simpa[bT.aA]using U.2) cW⟩,dm⟩
   . exact t.bD.blk b x I
 . rcases G b x I with⟨c,j,rfl,q,rfl⟩|I<;>rcases G H y ak with⟨L,Y,rfl,O,rfl⟩|ak
   . have aN:=A c (by simp[lt];exact(N c j q).1);have aF:=A L (by simp[lt];exact(N L Y O).1);rw[aN]at h0⊢;rw[aF]at D⊢;exact M.inj c L j Y q O (by omega) h0 D
   . have:=W c j q h0;have:=an H y ak D;omega
   . have:=W L Y O D;have:=an b x I h0;omega
   . exact t.bD.inj b H x y I ak a0 h0 D
 . rcases G b x I with⟨c,j,rfl,q,rfl⟩|I
   . obtain⟨bn,bt⟩:=N c j q;refine⟨by simp[ep];right;omega,?_⟩;cases j with
     |box cs=>
      simp only[bT.sh,bT.aA,List.all_map,fk]at bt⊢;intro c q;exact C.qC cr (bt c q)
     |arr sz es=>rfl
     |set ks=>rfl
     |buf E s=>rfl
     |b1 E c=>exact C.qC cr bt
     |cx sz es i o c=>simp only[bT.sh,bT.aA]at bt⊢;exact C.qC cr bt
   . obtain⟨bn,bt⟩:=t.dz b x I;exact⟨kW bn,bT.gO (λ_ h=>kW h) bt⟩
 . rcases G b x I with⟨c,j,rfl,q,rfl⟩|I
   . exact .inr (hK R.ext.size (W c j q h0))
   . exact t.own b x I h0
end
theorem dY.mk{P:Program}{fn:Func}{c:dx}{a:List iD}(g:P.funcs[f]?=some fn)(e:fn.body.bind (resolve P fn.ntmps)=some c)(o:hy P fn.results.toList=some a)
 {args:List V}{nt:Nat}(j:fn.ntmps=nt)(aV:args.length<=nt){k:Nat}{Q:V->a8->Nat->Prop}(h:cl P nt k c (fb 0 args) J k (CH a Q)):dY P f args J k Q:=by
 grind[bk,dY.DI]
section
open Go
def C.b'(f:Nat->Nat):C->C
 |.ptr b o=>.ptr (f b) o
 |.cH b sz i o=>.cH (f b) sz i o
 |.arr b sz off len=>.arr (f b) sz off len
 |.fC b sz off len=>.fC (f b) sz off len
 |.mp b=>.mp (f b)
 |.en b=>.en (f b)
 |.cj b len=>.cj (f b) len
 |.fn g caps=>.fn g (caps.map f)
 |c=>c
def V.b'(f:Nat->Nat):V->V
 |.c x=>.c (x.b' f)
 |.agg cs=>.agg (cs.map (C.b' f))
 |.ba vs=>.ba (go f vs)
where go (f:Nat->Nat):List V->List V
 |[]=>[]
 |v::vs=>v.b' f::go f vs
def bT.b'(f:Nat->Nat):bT->bT
 |.box cs=>.box (cs.map (C.b' f))
 |.arr sz es=>.arr sz es
 |.set ks=>.set ks
 |.buf E s=>.buf E s
 |.b1 E c=>.b1 E (c.b' f)
 |.cx sz es i o c=>.cx sz es i o (c.b' f)
def nR(J:a8):aZ->a8
 |[]=>J
 |b::r=>fB (nR J r) b
variable{J:a8}{bs:aZ}{f:Nat->Nat}{bg:c0}{v:V}{Q:V->a8->Nat->Prop}{x:aO}{o:cF}{p:Prop}{g:Bool}{K:Env->a8->Prop}
theorem pX:∀{bs:aZ} {b:Nat},aP (nR J bs) b=if b∈bs then none else aP J b
 |[],b=>by rfl
 |c::r,b=>by
  simp[nR,eK,pX];grind
def back(bs:aZ)(key:Nat)(b:Nat):Nat:=(bs[b]?).getD (key+(b-bs.length))
def gN(J:a8)(bs:aZ)(f:Nat->Nat):a8->a8
 |[]=>nR J bs
 |(b,x)::r=>cZ (gN J bs f r) (f b) (x.b' f)
theorem HC:∀{d:a8} {c:Nat} {x:bT},aP (gN J bs f d) c=some x->(∃b a,c=f b/\aP d b=some a/\x=a.b' f)\/(c ∉ bs/\aP J c=some x)
 |[],c,x,h=>by
  grind[gN,pX]
 |(b,y)::r,c,x,h=>by
  simp[gN,cQ]at h;split at h
  . grind[aP]
  . rcases HC h with⟨e,a,h1,g,i⟩|h
    . grind[aP]
    grind
section
variable {P:Program}{au:Ctx}{nt kk:Nat}{φ:c0}{S bj:c6}{env:Env}{J:a8}{N key:Nat}{n:Nat->Bool}{a:Act}{w w':World}{f:Nat->Nat}
theorem bq.b'{n:Nat->Bool}(e:∀b,n b=true->bg (f b)=φ b){c:C}{v:Value}(a:c.aA n=true)(h:bq φ w S c v):bq bg w S (c.b' f) v:=by
 cases c with
 |ptr b o=>grind[C.aA,C.b',bq]
 |cH b sz i o=>grind[C.aA,C.b',bq]
 |arr b sz off len=>grind[C.aA,C.b',bq]
 |fC b sz off len=>grind[C.aA,C.b',bq]
 |mp b=>grind[C.aA,C.b',bq]
 |en b=>grind[C.aA,C.b',bq]
 |cj b len=>grind[C.aA,C.b',bq]
 |fn g caps=>
  simp_all[C.aA,C.b',bq]
 |_=>exact h
theorem Gi:∀{vs:List V} {i:Nat},(V.b'.go f vs)[i]?=(vs[i]?).map (V.b' f)
 |[],i=>by rfl
 |v::vs,0=>by rfl
 |v::vs,i+1=>by simp[V.b'.go,Gi]
theorem Fy:∀{vs:List V},(V.b'.go f vs).length=vs.length
 |[]=>rfl
 |v::vs=>by simp[V.b'.go,Fy]
theorem b2.b'{n:Nat->Bool}(e:∀b,n b=true->bg (f b)=φ b){x:Value}(a:v.aA n=true)(h:b2 φ w S v x):b2 bg w S (v.b' f) x:=by
 induction h with
 |c h=>exact .c (bq.b' e (by grind[V.aA]) h)
 | @agg cs vs h=>
  simp[V.aA]at a;refine .agg ?_;have:=h.imp λc v g j=>bq.b' e (a c g) j;exact this.oJ λ_ _ h=>h
 |ba vs xs ag h ih=>
  refine .ba _ xs (by grind[Fy]) ?_;grind[Gi,lR,V.aA]
theorem C.qt{n m:Nat->Bool}(a:∀b,m b=true->n (f b)=true){c:C}(h:c.aA m=true):(c.b' f).aA n=true:=by
 cases c<;>simp[C.b',C.aA]at h⊢
 all_goals grind
theorem V.qt{n m:Nat->Bool}(a:∀b,m b=true->n (f b)=true):∀{v:V},v.aA m=true->(v.b' f).aA n=true
 |.c x,h=>by grind[V.b',V.aA,C.qt]
 |.agg cs,h=>by grind[V.b',V.aA,C.qt]
 |.ba vs,h=>by exact go vs h
where go:∀vs,V.aA.V.dr m vs=true->V.aA.V.dr n (V.b'.go f vs)=true
 |[],_=>rfl
 |v::vs,h=>by simp[V.b'.go,V.aA.V.dr,cO]at h⊢;exact⟨V.qt a h.1,go vs h.2⟩
theorem Rel.adA{B:Nat->Prop}(R:Rel au nt φ S env J n a w)(e:Ext B S bj w w')(N:∀b j,bj b j->b<w'.heap.size)(M:∀b x,aP J b=some x->(φ b).2≠0->¬B (φ b).1)(c7:∀b,B b->au.B b\/au.ka.heap.size<=b):Rel au nt φ bj env J n a w':=by
 have aa:=λb x I h0=>e.block _ ((R.bD.blk b x I).iA h0) (M b x I h0);have D:∀b x,aP J b=some x->(φ b).2≠0->∀j,¬bj (φ b).1 j:=by
  intro b x I h0 j H;have q:=R.bD.blk b x I;rcases e.j9 _ _ H with h|h|h
  . exact q.nw h0 j h
  . grind
  grind
 refine⟨⟨λb x I=>?_,R.bD.inj,N⟩,λk g v ag ao=>?_,R.gp,R.fI,R.dz,R.size,R.defers,?_,R.own,R.fix,R.fT⟩
 . have q:=R.bD.blk b x I;cases x with
   |box cs=>
    obtain⟨h0,vs,E,h1,f,y⟩:=q;refine⟨h0,vs,E,(aa _ _ I h0).trans h1,f.imp λc v O A=>bq.mono e.mono (λ_ _=>rfl) (C.jT _) A,D b _ I h0⟩
   |arr sz es=>
    obtain⟨h1,f,y,F,bh⟩:=q;refine⟨h1,f,y,F,λh0=>?_⟩;obtain⟨vs,E,bn,bt,bY,cw⟩:=bh h0;exact⟨vs,E,(aa _ _ I h0).trans bn,bt,λi j G t he ht=>let⟨v,K,A⟩:=bY i j G t he ht;⟨v,K,bP.mono e.mono A⟩,D b _ I h0⟩
   |set ks=>
    obtain⟨h0,⟨es,c,h1,f⟩,y⟩:=q;exact⟨h0,⟨es,c,(aa _ _ I h0).trans h1,f⟩,D b _ I h0⟩
   |buf E s=>
    obtain⟨h1,f,y⟩:=q;refine⟨h1,f,λh0=>?_⟩;grind
   |b1 E c=>
    obtain⟨h0,⟨p,v,h1,f,y⟩,F⟩:=q;exact⟨h0,⟨p,v,(aa _ _ I h0).trans h1,f,bq.mono e.mono (λ_ _=>rfl) (C.jT _) y⟩,D b _ I h0⟩
   |cx sz es i o c=>
    obtain⟨⟨h1,f,y,F,bh,L⟩,⟨vs,E,bn,bt,bY,v,cw,cW⟩,dm⟩:=q;exact⟨⟨h1,f,y,F,bh,L⟩,⟨vs,E,(aa _ _ I (by omega)).trans bn,bt,λi j G t he ht aV=>let⟨v,K,A⟩:=bY i j G t he ht aV;⟨v,K,bP.mono e.mono A⟩,v,cw,bq.mono e.mono (λ_ _=>rfl) (C.jT _) cW⟩,D b _ I (by omega)⟩
 . obtain⟨x,I,A⟩:=R.fJ k g v ag ao;exact⟨x,I,b2.mono e.mono (λ_ _=>rfl) (R.fI k g v ag ao) A⟩
 . refine⟨e.os.trans R.ext.os,e.tape.trans R.ext.tape,e.output.trans R.ext.output,hK R.ext.size e.size,λb aF q=>?_,R.ext.mono.trans e.mono,λb j H=>?_⟩
   . refine(e.block b (ix aF R.ext.size) λh=>?_).trans (R.ext.block b aF q);grind
   . rcases e.j9 _ _ H with h|h|h
     . exact R.ext.j9 b j h
     . grind
     . exact .inr (.inr (hK R.ext.size h))
theorem hb.raw {fn:Nat}{args:List V}{bs:aZ}{Q:V->a8->Nat->Prop}(b3:bs.Nodup)(aF:∀b,b∈bs->b<key)(h:dY P fn (args.map (V.bS bs)) (fv bs J 0 bs) bs.length Q){K:V->a8->Prop}
 (bE:∀r J' N',Q r J' N'->N'<=bs.length+16/\K (r.b' (back bs key)) (gN J bs (back bs key) J')):(∀b,b∈bs->n b=true)->∀au nt φ S env a w,Rel au nt φ S env J n a w->(∀b,key<=b->b<key+16->n b=false)->V.aA.V.dr n args=true->∀vs:List Value,a6 (b2 φ w S) args vs->
 Calls P fn vs.toArray w λe w'=>∃v r bg bj J',e= .returned v/\K r J'/\b2 bg w' bj r v/\r.aA (ep n key)=true/\Rel au nt bg bj env J' (ep n key) a w':=by
 intro q au nt φ S env a w R aV fo vs eq;let ax:c0:=λi=>φ ((bs[i]?).getD 0);have ap:∀(i:Nat) b,bs[i]?=some b->ax i=φ b:=by grind
 let B:Nat->Prop:=λbe=>∃b x,b∈bs/\aP J b=some x/\(φ b).2≠0/\be=(φ b).1;have an:∀b x,aP (fv bs J 0 bs) b=some x->∃c f,bs[b]?=some c/\aP J c=some f/\x=f.bS bs:=by
  grind[od]
 have dy:oY ax w S (fv bs J 0 bs):=by
  refine⟨λb x I=>?_,λb A x y I ak a0 h0 D=>?_,R.bD.st⟩
  . obtain⟨c,f,H,G,rfl⟩:=an b x I;exact cU.bS ap H (R.bD.blk c f G)
  . obtain⟨c,f,H,G,rfl⟩:=an b x I;obtain⟨M,Z,b0,b4,rfl⟩:=an A y ak;rw[ap b c H]at h0⊢;rw[ap A M b0]at D⊢;refine R.bD.inj c M f Z G b4 ?_ h0 D;grind[List.getElem?_eq_some_iff,List.pairwise_iff_getElem]
 have ci:a6 (b2 ax w S) (args.map (V.bS bs)) vs:=eq.oJ λ_ _=>b2.bS ap;have cp:V.aA.V.dr (lt bs.length) (args.map (V.bS bs))=true:=by
  simp_all[rE,qv,bx,V.jn]
 refine(h ax S w B dy (λb x I=>?_) (λb x I h0=>?_) cp vs ci).mono ?_
 . obtain⟨c,f,H,G,rfl⟩:=an b x I;refine⟨(dL.1 H).1,?_⟩;cases f with
   |box cs=>grind[bT.bS,bT.aA,List.all_map,List.all_eq_true,C.jn]
   |arr sz es=>rfl
   |set ks=>rfl
   |buf E s=>rfl
   |b1 E c=>exact C.jn c
   |cx sz es i o c=>exact C.jn c
 . grind
 rintro e w' ⟨v,ex,bg,bj,J',N',rfl,ce,h1,H,G,N,bh,fd,ff⟩
 obtain⟨cr,bE⟩:=bE _ _ _ ce;have a3:∀b,B b->au.B b\/au.ka.heap.size<=b:=by
  rintro be ⟨b,x,_,I,h0,rfl⟩
  exact R.own b x I h0
 have bi:Rel au nt φ S env (nR J bs) n a w:=by
  have Y:∀b x,aP (nR J bs) b=some x->b ∉ bs/\aP J b=some x:=by
   grind[pX]
  exact⟨⟨λb x I=>R.bD.blk b x (Y b x I).2,λb A x y I ak=>R.bD.inj b A x y (Y b x I).2 (Y A y ak).2,R.bD.st⟩,R.fJ,R.gp,R.fI,λb x I=>R.dz b x (Y b x I).2,R.size,R.defers,R.ext,λb x I=>R.own b x (Y b x I).2,R.fix,R.fT⟩
 have cv:∀b x,b ∉ bs->aP J b=some x->(φ b).2≠0->¬B (φ b).1:=by
  rintro b x q I h0 ⟨c,y,j,ak,D,he⟩
  exact R.bD.inj b c x y I ak (λe=>q (e▸j)) h0 D he
 have bp:=bi.adA bh G.st (λb x I h0=>by
  grind[pX]) a3
 let F:c0:=λb=>if key<=b/\b<key+16 then bg (bs.length+(b-key))else φ b
 have a':∀b,n b=true->F b=φ b:=by grind
 have L:∀b,lt N' b=true->F (back bs key b)=bg b:=by
  intro b O;simp only[lt,gg]at O;unfold back;grind
 have X:∀b,lt N' b=true->ep n key (back bs key b)=true:=by
  intro b O;simp only[lt,gg]at O;unfold back;cases ao:bs[b]? with
  |some c=>exact kW (q c (eV ao))
  |none=>
   simp only[Option.getD_none,ep,lj,cO,gg];right;omega
 have t:=bp.sw a';have W:∀b x,aP (gN J bs (back bs key) J') b=some x->(∃c f,b=back bs key c/\aP J' c=some f/\x=f.b' (back bs key))\/(b ∉ bs/\aP J b=some x):=λb x I=>HC I;have U:∀b x,b ∉ bs->aP J b=some x->aP (nR J bs) b=some x:=by simp_all[pX,av]
 have a1:∀c f,aP J' c=some f->(F (back bs key c)).2≠0->B (F (back bs key c)).1\/w.heap.size<=(F (back bs key c)).1:=by
  intro c f j h0;rw[L c (by simp[lt];exact(N c f j).1)]at h0⊢;grind
 have a9:∀b x,b ∉ bs->aP J b=some x->(F b).2≠0->(F b).1<w.heap.size/\¬B (F b).1:=by
  intro b x q I h0;rw[a' b (R.dz b x I).1]at h0⊢;exact⟨(R.bD.blk b x I).iA h0,cv b x q I h0⟩
 refine⟨v,ex.b' (back bs key),F,bj,gN J bs (back bs key) J',rfl,bE,b2.b' L H h1,V.qt X H,⟨⟨λb x I=>?_,λb A x y I ak a0 h0 D=>?_,G.st⟩,t.fJ,t.gp,λk g v ag ao=>V.gO (λ_ h=>kW h) (t.fI k g v ag ao),λb x I=>?_,t.size,t.defers,t.ext,λb x I h0=>?_,t.fix,λb O=>kW (t.fT b O)⟩⟩
 . rcases W b x I with⟨c,f,rfl,j,rfl⟩|⟨q,I⟩
   . have c7:=G.blk c f j;have am:=N c f j;have aN:=L c (by simp[lt];exact am.1);cases f with
     |box cs=>
      obtain⟨a2,vs,E,bn,bt,bY⟩:=c7;simp only[bT.b',cU,aN];refine⟨a2,vs,E,bn,?_,bY⟩;have a4:=am.2;simp only[bT.aA,fk]at a4;have:=bt.imp (R':=λc v=>bq F w' bj (C.b' (back bs key) c) v) λc v j dt=>bq.b' L (a4 c j) dt;exact this.oJ λ_ _ h=>h
     |arr sz es=>simp only[bT.b',cU,aN];exact c7
     |set ks=>simp only[bT.b',cU,aN];exact c7
     |buf E s=>simp only[bT.b',cU,aN];exact c7
     |b1 E c=>
      obtain⟨a2,⟨p,v,bn,bt,bY⟩,cw⟩:=c7;simp only[bT.b',cU,aN];exact⟨a2,⟨p,v,bn,bt,bq.b' L (by simpa[bT.aA]using am.2) bY⟩,cw⟩
     |cx sz es i o c=>
      obtain⟨h1,⟨vs,E,bn,bt,bY,v,cw,cW⟩,dm⟩:=c7;simp only[bT.b',cU,aN];exact⟨h1,⟨vs,E,bn,bt,bY,v,cw,bq.b' L (by simpa[bT.aA]using am.2) cW⟩,dm⟩
   . exact t.bD.blk b x (U b x q I)
 . rcases W b x I with⟨c,f,rfl,j,rfl⟩|⟨q,I⟩<;>rcases W A y ak with⟨M,Z,rfl,aI,rfl⟩|⟨a5,ak⟩
   . have aN:=L c (by simp[lt];exact(N c f j).1);have bv:=L M (by simp[lt];exact(N M Z aI).1);rw[aN]at h0⊢;rw[bv]at D⊢;exact G.inj c M f Z j aI (by rintro rfl;exact a0 rfl) h0 D
   . obtain⟨bn,bt⟩:=a9 A y a5 ak D;rcases a1 c f j h0 with h|h
     . intro e;rw[e]at h;exact bt h
     . omega
   . obtain⟨bn,bt⟩:=a9 b x q I h0;rcases a1 M Z aI D with h|h
     . intro e;rw[<-e]at h;exact bt h
     . omega
   . exact t.bD.inj b A x y (U b x q I) (U A y a5 ak) a0 h0 D
 . rcases W b x I with⟨c,f,rfl,j,rfl⟩|⟨q,I⟩
   . obtain⟨bn,bt⟩:=N c f j;refine⟨X c (by simp[lt];exact bn),?_⟩;cases f with
     |box cs=>
      simp only[bT.b',bT.aA,List.all_map,fk]at bt⊢;intro c j;exact C.qt X (bt c j)
     |arr sz es=>rfl
     |set ks=>rfl
     |buf E s=>rfl
     |b1 E c=>simp only[bT.b',bT.aA]at bt⊢;exact C.qt X bt
     |cx sz es i o c=>simp only[bT.b',bT.aA]at bt⊢;exact C.qt X bt
   . obtain⟨bn,bt⟩:=t.dz b x (U b x q I);exact⟨kW bn,bT.gO (λ_ h=>kW h) bt⟩
 . rcases W b x I with⟨c,f,rfl,j,rfl⟩|⟨q,I⟩
   . rcases a1 c f j h0 with h|h
     . exact a3 _ h
     . exact .inr (hK R.ext.size h)
   . exact t.own b x (U b x q I) h0
theorem hb.aef{fn:Nat}{args:List V}(b3:bs.Nodup)(aF:∀b,b∈bs->b<key)(e:∀b,b∈bs->∃x,aP J b=some x)(h:dY P fn (args.map (V.bS bs)) (fv bs J 0 bs) bs.length Q){K:V->a8->Prop}
 (bE:∀r J' N',Q r J' N'->N'<=bs.length+16/\K (r.b' (back bs key)) (gN J bs (back bs key) J')):hb P fn args J key K:=by
 intro au nt φ S env n a w R aV c vs f;exact hb.raw b3 aF h bE (λb c=>let⟨x,I⟩:=e b c;(R.dz b x I).1) au nt φ S _ a w R aV c vs f
theorem QE:∀{l:aZ} {i:Nat} {J J':a8},(∀b,b∈l->aP J' b=aP J b)->fv bs J' i l=fv bs J i l
 |[],i,J,J',h=>rfl
 |b::r,i,J,J',h=>by
  simp[fv];rw[h b (by simp),QE λc a=>h c (by grind)]
theorem QF:∀{a:a8} {J J':a8} {c:Nat},(aP (nR J' bs) c=aP (nR J bs) c)->aP (gN J' bs f a) c=aP (gN J bs f a) c
 |[],J,J',c,h=>h
 |(b,x)::r,J,J',c,h=>by
  simp[gN,cQ];split
  . rfl
  . exact QF h
theorem El{key:Nat}:∀{d:a8} {J:a8} {c:Nat},d.all (λx=>decide (x.1<bs.length+16))=true->c ∉ bs->¬(key<=c/\c<key+16)->aP (gN J bs (back bs key) d) c=aP J c
 |[],J,c,a,e,f=>by grind[gN,pX]
 |(b,x)::r,J,c,a,e,f=>by
  simp only[l5,cO]at a;simp[gN,cQ];rw[av ?_]
  . exact El a.2 e f
  grind[back]
end
variable {xb:aZ}
section
variable {P:Program}{au:Ctx}{nt kk:Nat}{φ:c0}{S:c6}{env env':Env}{J J' J1:a8}{N key:Nat}{n:Nat->Bool}{a:Act}{w:World}
theorem dj(h:∀t,t∈x.tmps->look env' t=look env t):x.get env'=x.get env:=by
 cases x with
 |const v=>rfl
 |tmp t=>grind[aO.get,aO.tmps]
theorem w3{xs:List aO}(h:∀t,t∈xs.flatMap aO.tmps->look env' t=look env t):gW env' xs=gW env xs:=by
 induction xs with
 |nil=>rfl
 |cons x xs ih=>
  grind[gW,dj]
theorem w4{x:Option aO}(h:∀t,t∈sj x->look env' t=look env t):jh env' x=jh env x:=by
 cases x with
 |none=>rfl
 |some x=>simp[jh];rw[dj h]
theorem QG:∀{ps:List (Nat×Nat×aO)} {cs:List C},(∀t,t∈(ps.flatMap λp=>p.2.2.tmps)->look env' t=look env t)->kv env' cs ps=kv env cs ps
 |[],cs,h=>rfl
 |(o,k,x)::r,cs,h=>by
  simp[kv];rw[dj (λt ht=>h t (by grind))]
  congr 1;funext a;congr 1;funext c
  split
  . rw[QG (λt ht=>h t (by grind))]
  rfl
theorem Fz{sz:Nat}:∀{ps:List (Nat×aO)} {es:List (List T)},(∀t,t∈(ps.flatMap λp=>p.2.tmps)->look env' t=look env t)->je env' sz es ps=je env sz es ps
 |[],cs,h=>rfl
 |(i,x)::r,es,h=>by
  simp[je];rw[dj (λt ht=>h t (by grind))]
  congr 1;funext a;congr 1;funext c;congr 1;funext ts
  split
  . rw[Fz (λt ht=>h t (by grind))]
  rfl
theorem ZV(h:∀t,t∈o.reads->look env' t=look env t):aM o env' J key=aM o env J key:=by
 cases o<;>simp only[cF.reads,gY]at h
 case mov x=>simp only[aM];rw[dj h]
 case pick c x y=>grind[aM,dj]
 case alloc=>rfl
 case box x=>simp only[aM];rw[dj h]
 case allocA=>rfl
 case b2s x=>simp only[aM];rw[dj h]
 case allocS=>rfl
 case mkset=>rfl
 case bsliceT e sz len z ps=>simp only[aM];congr 1;funext a;rw[Fz h]
 case lkset x y=>simp only[aM];rw[dj λt ht=>h t (.inl ht),dj λt ht=>h t (.inr ht)]
 case upset x y=>simp only[aM];rw[dj λt ht=>h t (.inl ht),dj λt ht=>h t (.inr ht)]
 case appendB e k x y=>simp only[aM];rw[dj λt ht=>h t (.inl ht),dj λt ht=>h t (.inr ht)]
 case sdata x=>simp only[aM];rw[dj h]
 case ustr e x y=>simp only[aM];rw[dj λt ht=>h t (.inl ht),dj λt ht=>h t (.inr ht)]
 case idxP k x y=>simp only[aM];rw[dj λt ht=>h t (.inl ht),dj λt ht=>h t (.inr ht)]
 case slcP k x l i=>simp only[aM];rw[dj λt ht=>h t (.inl (.inl ht)),w4 λt ht=>h t (.inl (.inr ht)),w4 λt ht=>h t (.inr ht)]
 case build z ps=>simp only[aM];rw[QG h]
 case bslice sz len z ps=>simp only[aM];congr 1;funext a;rw[Fz h]
 case load g k x=>simp only[aM];rw[dj h]
 case store k x v=>simp only[aM];rw[dj λt ht=>h t (.inl ht),dj λt ht=>h t (.inr ht)]
 case nilCheck x=>simp only[aM];rw[dj h]
 case bin op x y=>simp only[aM];rw[dj λt ht=>h t (.inl ht),dj λt ht=>h t (.inr ht)]
 case eqAgg op ks x y=>simp only[aM];rw[dj λt ht=>h t (.inl ht),dj λt ht=>h t (.inr ht)]
 case eqBool op x y=>simp only[aM];rw[dj λt ht=>h t (.inl ht),dj λt ht=>h t (.inr ht)]
 case eqNil=>rfl
 case not x=>simp only[aM];rw[dj h]
 case conv k x=>simp only[aM];rw[dj h]
 case i2s x=>simp only[aM];rw[dj h]
 case s2s x=>simp only[aM];rw[dj h]
 case fldA k x=>simp only[aM];rw[dj h]
 case fld g k m x=>simp only[aM];rw[dj h]
 case idxA op x y=>simp only[aM];rw[dj λt ht=>h t (.inl ht),dj λt ht=>h t (.inr ht)]
 case idxV op x y=>simp only[aM];rw[dj λt ht=>h t (.inl ht),dj λt ht=>h t (.inr ht)]
 case mslice op _ z x=>simp only[aM];rw[dj h]
 case idxS x y=>simp only[aM];rw[dj λt ht=>h t (.inl ht),dj λt ht=>h t (.inr ht)]
 case slcS x l i=>simp only[aM];rw[dj λt ht=>h t (.inl (.inl ht)),w4 λt ht=>h t (.inl (.inr ht)),w4 λt ht=>h t (.inr ht)]
 case slc k x l i=>grind[aM,dj,w4]
 case slc0 x=>simp only[aM];rw[dj h]
 case mkfn f xs=>simp only[aM];rw[w3 h]
 case ext x i=>simp only[aM];rw[dj h]
 case len s x=>grind[aM,dj]
 case append te sz by' x y=>simp only[aM];rw[dj λt ht=>h t (.inl ht),dj λt ht=>h t (.inr ht)]
 case appendT te sz by' x y=>simp only[aM];rw[dj λt ht=>h t (.inl ht),dj λt ht=>h t (.inr ht)]
 case max2 x y=>simp only[aM];rw[dj λt ht=>h t (.inl ht),dj λt ht=>h t (.inr ht)]
 case min2 x y=>grind[aM,dj]
 case call=>rfl
 rfl
def dO(env:Env)(x:aO):aZ:=
 match x.get env with
 |some (_,.c (.ptr b _))=>[b]
 |some (_,.c (.cH b _ _ _))=>[b]
 |some (_,.c (.arr b _ _ _))=>[b]
 |some (_,.c (.fC b _ _ _))=>[b]
 |some (_,.c (.mp b))=>[b]
 |some (_,.c (.en b))=>[b]
 |some (_,.c (.cj b _))=>[b]
 |_=>[]
def C.fN:C->aZ
 |.ptr b _|.cH b _ _ _|.arr b _ _ _|.fC b _ _ _|.mp b|.en b|.cj b _=>[b]
 |.fn _ caps=>caps
 |_=>[]
def V.fN:V->aZ
 |.c x=>x.fN
 |.agg cs=>cs.flatMap C.fN
 |.ba _=>[]
def kg(env:Env)(args:List aO):aZ:=
 args.flatMap λx=>match x.get env with
  |some (_,v)=>v.fN
  |none=>[]
def dN(xb:aZ)(o:cF)(env:Env)(key:Nat):aZ:=
 match o with
 |.alloc _|.allocA _|.box _|.bslice .. |.mslice .. |.mkset=>[key]
 |.allocS .. =>[key,key+1]
 |.lkset x _=>dO env x
 |.upset x _=>dO env x
 |.appendB _ _ x _=>key::dO env x
 |.ustr _ x _=>dO env x
 |.call _ args=>(List.range 16).map (key+·)++(kg env args++xb)
 |.load _ _ x=>dO env x
 |.b2s x=>dO env x
 |.store _ x _=>dO env x
 |.append _ _ _ x y=>key::(dO env x++dO env y)
 |.appendT _ _ _ x y=>dO env x++dO env y
 |_=>[]
def ct(xb:aZ)(o:cF)(env:Env)(key b:Nat):Bool:=
 match o with
 |.alloc _|.allocA _|.box _|.bslice .. |.mslice .. |.mkset=>b==key
 |.allocS .. =>b==key||b==key+1
 |.upset x _=>(dO env x).contains b
 |.appendB _ _ x _=>b==key||(dO env x).contains b
 |.ustr _ x _=>(dO env x).contains b
 |.store _ x _=>(dO env x).contains b
 |.append _ _ _ x _=>b==key||(dO env x).contains b
 |.appendT _ _ _ x _=>(dO env x).contains b
 |.call _ args=>(decide (key<=b)&&decide (b<key+16))||(kg env args++xb).contains b
 |_=>false
theorem Wb(aV:o.neutral=true)(ht:o.ho=false){p v J1}(a:aM o env J key=some (p,v,J1)):aM o env J' key=some (p,v,J'):=by
 cases o<;>simp only[cF.neutral,cF.ho,reduceCtorEq]at aV ht<;>simp only[aM,bk,bx]at a⊢
 all_goals
  (try (obtain⟨a1,h1,a⟩:=a;refine⟨a1,h1,?_⟩))
  (try (obtain⟨a2,b,a⟩:=a;refine⟨a2,b,?_⟩))
  (try (obtain⟨a3,c,a⟩:=a;refine⟨a3,c,?_⟩))
  (try split at a)
  (try (done))
 all_goals first
  |(cases a;rfl)
  |(cases a;done)
  |(exact⟨x,h1,b,c,rfl⟩)
  |(simp only[bx]at a⊢;obtain⟨x,h1,b⟩:=a;simp only[dW]at b⊢;exact⟨x,h1,b.1,b.2.1,trivial⟩)
  |(simp only[er,dK,dW]at a⊢;exact⟨a.1,a.2.1,a.2.2.1,trivial⟩)
theorem Iu{b:Nat}(h:x.get env=some (p,.c (.mp b))):dO env x=[b]:=by grind[dO]
theorem WT{b:Nat}(h:x.get env=some (p,.c (.en b))):dO env x=[b]:=by grind[dO]
theorem Rs{b l:Nat}(h:x.get env=some (p,.c (.cj b l))):dO env x=[b]:=by grind[dO]
theorem HD{b o:Nat}(h:x.get env=some (p,.c (.ptr b o))):dO env x=[b]:=by grind[dO]
theorem Rt{b sz i o:Nat}(h:x.get env=some (p,.c (.cH b sz i o))):dO env x=[b]:=by grind[dO]
theorem Za{b sz i o:Nat}(h:x.get env=some (p,.c (.fC b sz i o))):dO env x=[b]:=by grind[dO]
theorem uH{b sz i o:Nat}(h:x.get env=some (p,.c (.arr b sz i o))):dO env x=[b]:=by grind[dO]
theorem WU{p v}(a:aM o env J key=some (p,v,J1))(ht:∀b,b∈dN xb o env key->aP J' b=aP J b):
 (∃bp,aM o env J' key=some (p,v,bp)/\∀b,aP bp b=if ct xb o env key b then aP J1 b else aP J' b)/\∀b,ct xb o env key b=false->aP J1 b=aP J b:=by
 by_cases K:o.neutral=true/\o.ho=false
 . have ab:∀b,ct xb o env key b=false:=by intro b;cases o<;>simp only[cF.neutral,cF.ho,reduceCtorEq,bU,false_and,oK,uS]at K<;>rfl
   have:=xp K.1 a;subst this;exact⟨⟨J',Wb K.1 K.2 a,λb=>by grind⟩,λb _=>rfl⟩
 . cases o<;>simp only[cF.neutral,cF.ho,reduceCtorEq,bU,false_and,oK,uS,not_true,not_false_eq_true]at K
   case alloc cs=>
    simp only[aM,dK,dW]at a⊢;obtain⟨rfl,rfl,rfl⟩:=a;refine⟨⟨_,⟨rfl,rfl,rfl⟩,λb=>?_⟩,λb f=>?_⟩
    . simp only[cQ,ct,hL];grind
    simp_all[ct,jl,cQ,av,du]
   case allocA cs=>
    simp only[aM,bx,dW]at a⊢;obtain⟨ts,X,rfl,rfl,rfl⟩:=a;refine⟨⟨_,⟨ts,X,rfl,rfl,rfl⟩,λb=>?_⟩,λb f=>?_⟩
    . simp only[cQ,ct,hL];grind
    simp_all[ct,jl,cQ,av,du]
   case b2s x=>
    simp only[aM,bk,bx,dW]at a⊢;obtain⟨⟨n,v0⟩,h1,⟨q,s⟩,j,rfl,rfl,rfl⟩:=a;refine⟨⟨J',⟨(n,v0),h1,(q,s),?_,rfl,rfl,rfl⟩,λb=>rfl⟩,λb _=>rfl⟩;dsimp only at j⊢;unfold mv at j⊢;split at j
    . grind
    . grind
    . rename_i b off len;rw[ht b (by simp[dN,uH h1])];grind
    . rename_i b off len;rw[ht b (by simp[dN,Za h1])];grind
    grind
   case box x=>
    simp only[aM,bk,bx,dW]at a⊢;obtain⟨M,h1,cs,j,rfl,rfl,rfl⟩:=a;refine⟨⟨_,⟨M,h1,cs,j,rfl,rfl,rfl⟩,λb=>?_⟩,λb f=>?_⟩
    . simp only[cQ,ct,hL];grind
    simp_all[ct,jl,cQ,av,du]
   case bslice sz len z ps=>
    simp only[aM,bk,bx,dW]at a⊢;obtain⟨M,h1,cs,j,rfl,rfl,rfl⟩:=a;refine⟨⟨_,⟨M,h1,cs,j,rfl,rfl,rfl⟩,λb=>?_⟩,λb f=>?_⟩
    . simp only[cQ,ct,hL];grind
    simp_all[ct,jl,cQ,av,du]
   case mslice sz by' z x=>
    simp only[aM,bk]at a⊢;obtain⟨M,h1,cs,j,a⟩:=a;split at a
    . rename_i he;simp only[dK,dW]at a;obtain⟨rfl,rfl,rfl⟩:=a;refine⟨⟨_,⟨M,h1,cs,j,by rw[he]⟩,λb=>?_⟩,λb f=>?_⟩
      . simp only[cQ,ct,hL];grind
      simp_all[ct,jl,cQ,av,du]
    . cases a
   case load g k x=>
    have:=xp rfl a;subst this;refine⟨⟨J',?_,λb=>rfl⟩,λb _=>rfl⟩;simp only[aM,bk]at a⊢;obtain⟨⟨n,v0⟩,h1,a⟩:=a;refine⟨(n,v0),h1,?_⟩;dsimp only at a⊢;split at a
    . rename_i b o;rw[ht b (by simp[dN,HD h1])];split at a
      all_goals simp_all
    . rename_i b sz i o;rw[ht b (by simp[dN,Rt h1])];split at a
      . simp_all
      . split at a
        . grind
        . rename_i ao;split at a
          all_goals simp_all
      grind
    all_goals simp_all
   case store k x y=>
    simp only[aM,bk,er]at a⊢;obtain⟨⟨n,v0⟩,h1,d,j,cs,w,H,a⟩:=a;have G:∀(b:Nat) (Q:bT),dO env x=[b]->J1=cZ J b Q->(∀c,aP (cZ J' b Q) c=if ct xb (.store k x y) env key c then aP J1 c else aP J' c)/\∀c,ct xb (.store k x y) env key c=false->aP J1 c=aP J c:=by
     intro b Q f hs;subst hs;refine⟨λc=>?_,λc l=>?_⟩
     . simp only[ct,f,jm,iy,gZ,hL,cQ];grind
     . simp only[ct,f,jm,iy,gZ,jl]at l;rw[cQ,av (du l)]
    dsimp only at a⊢;split at a
    . rename_i b o;have f:=HD h1;split at a
      . rename_i aa N;simp only[er,dK,dW]at a;obtain⟨bh,rfl,rfl,C⟩:=a;obtain⟨f1,f2⟩:=G b _ f C.symm;refine⟨⟨_,⟨(n,.c (.ptr b o)),h1,d,j,cs,w,H,?_⟩,f1⟩,f2⟩;dsimp only;rw[ht b (by simp[dN,f]),N];dsimp only;rw[ai bh]
      . rename_i E V N;split at a
        . rename_i c;simp only[dK,dW]at a;obtain⟨rfl,rfl,C⟩:=a;obtain⟨f1,f2⟩:=G b _ f C.symm;refine⟨⟨_,⟨(n,.c (.ptr b 1)),h1,d,j,_,w,H,?_⟩,f1⟩,f2⟩;dsimp only;rw[ht b (by simp[dN,f]),N];rfl
        . cases a
      . cases a
    . rename_i b sz i o;have f:=Rt h1;split at a
      . rename_i F es B;split at a
        . rename_i c l;simp only[dK,dW]at a;obtain⟨rfl,rfl,C⟩:=a;obtain⟨f1,f2⟩:=G b _ f C.symm;refine⟨⟨_,⟨(n,.c (.cH b sz i o)),h1,d,j,cs,w,H,?_⟩,f1⟩,f2⟩;dsimp only;rw[ht b (by simp[dN,f]),B];dsimp only;rw[l]
        rename_i l;simp only[bk,dK,dW]at a;obtain⟨ts,bh,rfl,rfl,C⟩:=a;obtain⟨f1,f2⟩:=G b _ f C.symm;refine⟨⟨_,⟨(n,.c (.cH b sz i o)),h1,d,j,cs,w,H,?_⟩,f1⟩,f2⟩;dsimp only;rw[ht b (by simp[dN,f]),B];dsimp only;rw[l];dsimp only;rw[bh];rfl
      . rename_i F es ad ae V B;split at a
        . rename_i c;split at a
          . rename_i P;simp only[dK,dW]at a;obtain⟨rfl,rfl,C⟩:=a;obtain⟨f1,f2⟩:=G b _ f C.symm;refine⟨⟨_,⟨(n,.c (.cH b sz i o)),h1,d,j,_,w,H,?_⟩,f1⟩,f2⟩;dsimp only;rw[ht b (by simp[dN,f]),B];dsimp only;rw[ai P]
          . rename_i P;simp only[bk,dK,dW]at a;obtain⟨t,bh,rfl,rfl,C⟩:=a;obtain⟨f1,f2⟩:=G b _ f C.symm;refine⟨⟨_,⟨(n,.c (.cH b sz i o)),h1,d,j,_,w,H,?_⟩,f1⟩,f2⟩;dsimp only;rw[ht b (by simp[dN,f]),B];dsimp only;rw[av P,bh];rfl
        . cases a
      . cases a
    . cases a
   case appendT te sz by' x y=>
    simp only[aM,bk]at a⊢;obtain⟨⟨n,v0⟩,h1,⟨d1,d2⟩,j,a⟩:=a;dsimp only at a;split at a
    . cases a
    . rename_i D;rw[bk]at a;obtain⟨ys,w,a⟩:=a;have L:iX J' d2=some ys:=by
       unfold iX at w⊢;split at w
       . exact w
       . exact w
       . rename_i b F off len;rw[ht b (by simp[dN,uH j])];exact w
       . cases w
      split at a
      . rename_i b F off len;have A:=uH h1;split at a
        . rename_i Z es B;split at a
          . cases a
          . rename_i O;simp only[dK,dW]at a;obtain⟨rfl,rfl,rfl⟩:=a
            refine⟨⟨_,⟨(n,.c (.arr b F off len)),h1,(d1,d2),j,by
             dsimp only;rw[D];simp only[bk];refine⟨ys,L,?_⟩;rw[ht b (by simp[dN,A]),B];dsimp only
             rw[av O]⟩,λc=>?_⟩,λc l=>?_⟩
            . simp only[eK,ct,A,jm,iy,gZ,hL];by_cases u:c=b
              . subst u;simp
              . rw[av (du u),av u]
            . simp only[ct,A,jm,iy,gZ,jl]at l;rw[eK,av (du l)]
        . cases a
      . cases a
   case append te sz by' x y=>
    simp only[aM,bk]at a⊢;obtain⟨⟨n,v0⟩,h1,⟨d1,d2⟩,j,a⟩:=a;dsimp only at a;cases D:kb v0 d2 with
    |some r=>
     rw[D]at a;have I:=D;unfold kb at I;split at I
     . rename_i b s1 off len U Y T S;split at I
       . cases I;have A:=uH h1;dsimp only at a;unfold sX at a;dsimp only at a;split at a
         . rename_i af es B;simp only[dK,dW]at a;obtain⟨rfl,rfl,rfl⟩:=a;refine⟨⟨cZ (fB J' b) key (.arr sz (es.take len++(es.drop T).take S)),⟨(n,.c (.arr b s1 off len)),h1,(d1,.c (.fC U Y T S)),j,?_⟩,λc=>?_⟩,λc l=>?_⟩
           . dsimp only;rw[D];dsimp only;unfold sX;dsimp only;rw[ht b (by simp[dN,A]),B]
           . simp only[cQ,eK,ct,A,jm,iy,gZ,lj,hL];by_cases h:c=key
             . subst h;simp
             . rw[av (du h)];by_cases u:c=b
               . subst u;simp[h,du h]
               . rw[av (du u),av (by simp[h,u])]
           . simp only[ct,A,jm,iy,gZ,uV,jl]at l;rw[cQ,eK,av (du l.1),av (du l.2)]
         . cases a
       . cases I
     . cases I
    |none=>
    rw[D]at a;simp only[bk]at a;obtain⟨ys,w,a⟩:=a;have L:iX J' d2=some ys:=by
     unfold iX at w⊢;split at w
     . exact w
     . exact w
     . rename_i b F off len;rw[ht b (by simp[dN,uH j])];exact w
     . cases w
    split at a
    . have A:dO env x=[]:=(by simp[dO,h1]);simp only[dK,dW]at a;obtain⟨rfl,rfl,rfl⟩:=a;refine⟨⟨_,⟨(n,.c .aT),h1,(d1,d2),j,by dsimp only;rw[D];simp only[bk];exact⟨ys,L,rfl⟩⟩,λb=>?_⟩,λb f=>?_⟩
      . simp only[cQ,ct,A,iy,gZ,hL];by_cases h:b=key
        . subst h;simp
        . rw[av (du h),av h]
      . simp only[ct,A,iy,gZ,jl]at f;rw[cQ,av (du f)]
    . rename_i b F off len;have A:=uH h1;split at a
      . rename_i Z es B;split at a
        . cases a
        . rename_i O;simp only[dK,dW]at a;obtain⟨rfl,rfl,rfl⟩:=a
          refine⟨⟨_,⟨(n,.c (.arr b F off len)),h1,(d1,d2),j,by
           dsimp only;rw[D];simp only[bk];refine⟨ys,L,?_⟩;rw[ht b (by simp[dN,A]),B];dsimp only
           rw[av O]⟩,λc=>?_⟩,λc l=>?_⟩
          . simp only[cQ,eK,ct,A,jm,iy,gZ,lj,hL];by_cases h:c=key
            . subst h;simp
            . rw[av (du h)];by_cases u:c=b
              . subst u;simp[h,du h]
              . rw[av (du u),av (by simp[h,u])]
          . simp only[ct,A,jm,iy,gZ,uV,jl]at l;rw[cQ,eK,av (du l.1),av (du l.2)]
      . cases a
    . rename_i b len;have A:=Rs h1;split at a
      . rename_i R es B;obtain⟨s,hs,a⟩:=zN.1 a;cases a
        refine⟨⟨_,⟨(n,.c (.cj b len)),h1,(d1,d2),j,by
         dsimp only;rw[D];simp only[bk];refine⟨ys,L,?_⟩;rw[ht b (by simp[dN,A]),B];dsimp only;rw[hs]
         rfl⟩,λc=>?_⟩,λc l=>?_⟩
        . simp only[cQ,eK,ct,A,jm,iy,gZ,lj,hL];by_cases h:c=key
          . subst h;simp
          . rw[av (du h)];by_cases u:c=b
            . subst u;simp[h,du h]
            . rw[av (du u),av (by simp[h,u])]
        . simp only[ct,A,jm,iy,gZ,uV,jl]at l;rw[cQ,eK,av (du l.1),av (du l.2)]
      . cases a
    . cases a
   case allocS e e8=>
    simp only[aM,dK,dW]at a⊢;obtain⟨rfl,rfl,rfl⟩:=a;refine⟨⟨_,⟨rfl,rfl,rfl⟩,λb=>?_⟩,λb f=>?_⟩
    . simp only[cQ,ct,lj,hL];by_cases h:key=b
      . rw[ai h,ai (.inl h.symm),ai h]
      . rw[av h];by_cases u:key+1=b
        . rw[ai u,ai (.inr u.symm),av h,ai u]
        . rw[av u,cV]
    . simp only[ct,uV,jl]at f;rw[cQ,av (du f.1),cQ,av (du f.2)]
   case mkset=>
    simp only[aM,dK,dW]at a⊢;obtain⟨rfl,rfl,rfl⟩:=a;refine⟨⟨_,⟨rfl,rfl,rfl⟩,λb=>?_⟩,λb f=>?_⟩
    . simp only[cQ,ct,hL];by_cases h:b=key
      . subst h;simp
      . rw[av (du h),av h]
    . simp only[ct,jl]at f;rw[cQ,av (du f)]
   case lkset x y=>
    have:=xp rfl a;subst this;refine⟨⟨J',?_,λb=>rfl⟩,λb _=>rfl⟩;simp only[aM,bk]at a⊢;obtain⟨⟨n,v0⟩,h1,⟨d1,d2⟩,j,a⟩:=a;refine⟨(n,v0),h1,(d1,d2),j,?_⟩;dsimp only at a⊢;split at a
    . rename_i b s;rw[ht b (by simp[dN,Iu h1])];split at a
      . simp only[dK,dW]at a⊢;exact⟨a.1,a.2.1,trivial⟩
      . cases a
    . cases a
   case upset x y=>
    simp only[aM,bk]at a⊢;obtain⟨⟨n,v0⟩,h1,⟨d1,d2⟩,j,a⟩:=a;dsimp only at a⊢;split at a
    . rename_i b s;have f:=Iu h1;split at a
      . rename_i ks W;simp only[dK,dW]at a;obtain⟨rfl,rfl,rfl⟩:=a
        refine⟨⟨_,⟨(n,.c (.mp b)),h1,(d1,.c (.t (.str s))),j,by
         dsimp only
         rw[ht b (by simp[dN,f]),W]⟩,λc=>?_⟩,λc l=>?_⟩
        . simp only[ct,f,jm,iy,gZ,hL,cQ];by_cases h:c=b
          . subst h;simp
          . rw[av (du h),av h]
        . simp only[ct,f,jm,iy,gZ,jl]at l;rw[cQ,av (du l)]
      . cases a
    . cases a
   case appendB e by' x y=>
    simp only[aM,bk]at a⊢;obtain⟨⟨n,v0⟩,h1,⟨d1,d2⟩,j,a⟩:=a;dsimp only at a⊢;split at a
    . rename_i b len s;have f:=Rs h1;split at a
      . rename_i R es B;simp only[dK,dW]at a;obtain⟨rfl,rfl,rfl⟩:=a
        refine⟨⟨_,⟨(n,.c (.cj b len)),h1,(d1,.c (.t (.str s))),j,by
         dsimp only
         rw[ht b (by simp[dN,f]),B]⟩,λc=>?_⟩,λc l=>?_⟩
        . simp only[cQ,eK,ct,f,jm,iy,gZ,lj,hL];by_cases h:c=key
          . subst h;simp
          . rw[av (du h)];by_cases u:c=b
            . subst u;simp[h,du h]
            . rw[av (du u),av (by simp[h,u])]
        . simp only[ct,f,jm,iy,gZ,uV,jl]at l;rw[cQ,eK,av (du l.1),av (du l.2)]
      . cases a
    . cases a
   case ustr e x y=>
    simp only[aM,bk]at a⊢;obtain⟨⟨n,v0⟩,h1,⟨d1,d2⟩,j,a⟩:=a;dsimp only at a⊢;split at a
    . rename_i b m;have f:=WT h1;split at a
      . rename_i R es B;simp only[dK,dW]at a;obtain⟨rfl,rfl,rfl⟩:=a
        refine⟨⟨_,⟨(n,.c (.en b)),h1,(d1,.c (.t (.int .i64 m))),j,by
         dsimp only
         rw[ht b (by simp[dN,f]),B]⟩,λc=>?_⟩,λc l=>?_⟩
        . simp only[eK,ct,f,jm,iy,gZ,hL];by_cases h:c=b
          . subst h;simp
          . rw[av (du h),av h]
        . simp only[ct,f,jm,iy,gZ,jl]at l;rw[eK,av (du l)]
      . cases a
    . cases a
   all_goals simp[aM]at a
inductive DStep (xb:aZ)(P:Program)(o:b5)(key:Nat)(env:Env)(J:a8)(g:Bool)(v:V):a8->Prop
 |op {p:Prop} {J2:a8} (ao:fO env o.guard = some g) (aj:o.op.drawn = true) (vT:aM o.op env J key = some (p,v,J2)) (al:g = true->p) (afg:o.op.neutral = true\/g = true):
  DStep xb P o key env J g v (if o.op.neutral then J else J2)
 |skip (ao:fO env o.guard=some g) (afd:g=false):DStep xb P o key env J g v J
 |call {p:Prop} {f:Nat} {args:List aO} {vs:List V} (Dd:o.op = .call f args) (ao:fO env o.guard = some g) (vT:gW env args = some (p,vs)) (al:g = true->p/\V.aA.V.dr (lt 0) vs = true/\v.aA (lt 0) = true/\dY P f vs [] 0 (λsx _ _=>sx = v)):
  DStep xb P o key env J g v J
 |hD {p q:Prop} {f:Nat} {x:aO} {args:List aO} {vs:List V} (Dd:o.op = .hD x args) (aV:o.guard = none) (adP:g = true) (I:x.get env = some (q, .c (.fn f []))) (afi:q) (vU:gL P f = true) (vT:gW env args = some (p,vs))
  (al:p/\V.aA.V.dr (lt 0) vs=true/\v.aA (lt 0)=true/\dY P f vs [] 0 (λsx _ _=>sx=v)):DStep xb P o key env J g v J
 |own {p:Prop} {f:Nat} {args:List aO} {vs:List V} {r:V} {s:a8} {M:Nat} (Dd:o.op = .call f args) (ao:fO env o.guard = some g) (aV:o.guard = none) (vT:gW env args = some (p,vs)) (al:p) (vU:V.aA.V.dr (lt 0) vs = true) (adO:M<=16) (hk:s.all (λx=>x.1<16) = true)
  (OA:dY P f vs [] 0 (λsx s' CM=>sx=r/\s'=s/\CM=M)) (OB:v=r.sh key):DStep xb P o key env J g v (lz J key s)
 |raw {p:Prop} {f:Nat} {args:List aO} {vs:List V} {bs:aZ} {r:V} {s:a8} {M:Nat} (Dd:o.op = .call f args) (ao:fO env o.guard = some g) (adP:g = true) (vT:gW env args = some (p,vs)) (al:p)
  (b3:bs.Nodup) (aF:∀b,b∈bs->b<key) (afe:∀b,b∈bs->∃x,aP J b=some x) (afk:∀b,b∈bs->b∈kg env args++xb) (adO:M<=bs.length+16) (hk:s.all (λx=>decide (x.1<bs.length+16))=true)
  (OA:dY P f (vs.map (V.bS bs)) (fv bs J 0 bs) bs.length (λsx s' CM=>sx=r/\s'=s/\CM=M)) (OB:v=r.b' (back bs key)):DStep xb P o key env J g v (gN J bs (back bs key) s)
theorem DStep.gK{o:b5}(h:DStep xb P o key env J g v J1)(bE:K (ee env o.dst g v) J1):gK P o key env J K:=by
 cases h with
 | @op p J2 ao aj c al G=>
  grind[Shv.gK,aM]
 |skip ao F=>
  grind[Shv.gK]
 | @call p f args vs a ao c al=>
  unfold Shv.gK;grind[hb.OT]
 | @hD p q f x args vs a aV w I H t c al=>
  grind[Shv.gK,fO,hb.OT]
 | @raw p f args vs bs r s M a ao w c al b3 aF y L j A e B=>
  unfold Shv.gK;rw[a];dsimp;have E:hb P f vs J key (λD J'=>K (ee env o.dst true D) J'):=by
   refine hb.aef b3 aF y e ?_;grind
  grind
 | @own p f args vs r s M a ao aV c al t j A e B=>
  unfold Shv.gK;rw[ao];rw[a];grind[fO,hb.aee]
theorem Iv{o:b5}{t:Nat}(h:t∈o.op.reads):t∈o.rd:=by grind[b5.rd]
theorem wT{o:b5}(h:∀t,t∈o.rd->look env' t=look env t):fO env' o.guard=fO env o.guard:=by
 grind[fO,b5.rd]
theorem EU{s:a8}(d:s.all (λx=>x.1<16)=true){b:Nat}(a:¬(key<=b/\b<key+16))(J:a8):aP (lz J key s) b=aP J b:=by
 rw[w2];by_cases h:key<=b
 . have:aP s (b-key)=none:=by
    cases hs:aP s _ with
    |none=>rfl
    |some x=>
     have:∀{s:a8} {c:Nat} {x:bT},aP s c=some x->s.all (λx=>x.1<16)=true->c<16:=by
      induction s with
      |nil=>grind[aP]
      |cons y r ih=>
       grind[aP]
     grind
   grind
 grind
theorem jB(h:∀t,t∈x.tmps->look env' t=look env t):dO env' x=dO env x:=by
 unfold dO;rw[dj h]
theorem E1{args:List aO}(h:∀t,t∈args.flatMap aO.tmps->look env' t=look env t):kg env' args=kg env args:=by
 induction args with
 |nil=>rfl
 |cons x r ih=>
  grind[kg,dj]
theorem Zb(h:∀t,t∈o.reads->look env' t=look env t)(b:Nat):ct xb o env' key b=ct xb o env key b:=by
 cases o<;>try rfl
 case store k x v=>grind[ct,jB,cF.reads]
 case append te sz by' x y=>grind[ct,jB,cF.reads]
 case appendT te sz by' x y=>grind[ct,jB,cF.reads]
 case upset x y=>grind[ct,jB,cF.reads]
 case appendB e k x y=>grind[ct,jB,cF.reads]
 case ustr e x y=>grind[ct,jB,cF.reads]
 case call f args=>simp[ct];rw[E1 h]
theorem Zc(h:∀t,t∈o.reads->look env' t=look env t):dN xb o env' key=dN xb o env key:=by
 cases o<;>try rfl
 case b2s x=>grind[dN,jB,cF.reads]
 case load g k x=>grind[dN,jB,cF.reads]
 case store k x v=>grind[dN,jB,cF.reads]
 case lkset x y=>grind[dN,jB,cF.reads]
 case upset x y=>grind[dN,jB,cF.reads]
 case appendB e k x y=>grind[dN,jB,cF.reads]
 case ustr e x y=>grind[dN,jB,cF.reads]
 case appendT te sz by' x y=>grind[dN,jB,cF.reads]
 case call f args=>simp[dN];rw[E1 h]
 grind[dN,jB,cF.reads]
theorem DStep.local{o:b5}(h:DStep xb P o key env J g v J1)(he:∀t,t∈o.rd->look env' t=look env t)(ht:∀b,b∈dN xb o.op env key\/ct xb o.op env key b=true->aP J' b=aP J b):
 (∃bp,DStep xb P o key env' J' g v bp/\∀b,aP bp b=if ct xb o.op env key b then aP J1 b else aP J' b)/\∀b,ct xb o.op env key b=false->aP J1 b=aP J b:=by
 have A:=λt h=>he t (Iv h);cases h with
 | @op p J2 ao aj w al R=>
  obtain⟨⟨bp,h1,K⟩,L⟩:=WU (J':=J') w (λb c=>ht b (.inl c));have aV:o.op.neutral=true->∀b,ct xb o.op env key b=false:=by intro aV b;generalize o.op=U at aV;cases U<;>simp[cF.neutral]at aV<;>rfl
  refine⟨⟨_,DStep.op (J2:=bp) (p:=p) (by rw[wT he];exact ao) aj (by rw[ZV A];exact h1) al R,λb=>?_⟩,λb c=>?_⟩
  . by_cases y:o.op.neutral=true
    . rw[ai y,aV y b];rfl
    . rw[av y,av y];exact K b
  . by_cases y:o.op.neutral=true
    . rw[ai y]
    . rw[av y];exact L b c
 |skip ao Q=>
  refine⟨⟨J',DStep.skip (by rw[wT he];exact ao) Q,λb=>?_⟩,λb _=>rfl⟩;split
  . rename_i j;exact ht b (.inr j)
  . rfl
 | @call p f args vs a ao w al=>
  refine⟨⟨J',DStep.call a (by rw[wT he];exact ao) (by rw[w3 λt h=>A t (by rw[a];exact h)];exact w) al,λb=>?_⟩,λb _=>rfl⟩;split
  . rename_i j;exact ht b (.inr j)
  . rfl
 | @hD p q f x args vs a aV F I S c w al=>
  refine⟨⟨J',DStep.hD a aV F (by rw[dj λt h=>A t (by rw[a];simp[cF.reads,h])];exact I) S c (by rw[w3 λt h=>A t (by rw[a];simp only[cF.reads,gY];exact .inr h)];exact w) al,λb=>?_⟩,λb _=>rfl⟩;split
  . rename_i j;exact ht b (.inr j)
  . rfl
 | @own p f args vs r s M a ao aV w al c E B H G=>
  refine⟨⟨_,DStep.own a (by rw[wT he];exact ao) aV (by rw[w3 λt h=>A t (by rw[a];exact h)];grind) al c E B H G,λb=>?_⟩,λb N=>?_⟩
  . by_cases D:key<=b/\b<key+16
    . have j:ct xb o.op env key b=true:=by rw[a];simp[ct,D.1,D.2]
      rw[ai j];have e:=ht b (.inr j);rw[w2,w2,e]
    . rw[EU B D];split
      . rename_i j;rw[EU B D];exact ht b (.inr j)
      . rfl
  grind[ct,EU]
 | @raw p f args vs bs r s M a ao F w al b3 aF W X E B H G=>
  have Y:∀b,b∈kg env args++xb->b∈dN xb o.op env key:=by intro b c;rw[a];simp only[dN,gY];exact .inr (gY.1 c)
  have O:∀t,t∈args.flatMap aO.tmps->look env' t=look env t:=λt h=>A t (by rw[a];exact h)
  refine⟨⟨_,DStep.raw (bs:=bs) a (by rw[wT he];exact ao) F (by rw[w3 O];omega) al b3 aF (λb c=>by grind) (λb c=>by grind[E1]) E B
   (by grind[QE]) G,λb=>?_⟩,λb N=>?_⟩
  . by_cases j:ct xb o.op env key b=true
    . grind[QF,pX]
    . grind[ct,Bool.or_eq_false_iff,Bool.and_eq_false_iff,decide_eq_false_iff_not,El]
  grind[ct,Bool.or_eq_false_iff,Bool.and_eq_false_iff,decide_eq_false_iff_not,El]
def vA(xb:aZ)(P:Program):List b5->Nat->Env->a8->(Env->a8->Prop)->Prop
 |[],_,env,J,K=>K env J
 |o::r,key,env,J,K=>∃g v J1,DStep xb P o key env J g v J1/\vA xb P r (key+16) (ee env o.dst g v) J1 K
structure nE (xb:aZ)(P:Program)(a':List b5)(N:Nat)(E:Nat->Env)(T:Nat->a8)(G:Nat->Bool)(W:Nat->V):Prop where
 step:∀(i:Nat) o,a'[i]?=some o->DStep xb P o (N+16*i) (E i) (T i) (G i) (W i) (T (i+1))/\E (i+1)=ee (E i) o.dst (G i) (W i)
theorem FQ:∀{a':List b5} {key:Nat} {env:Env} {J:a8} {K:Env->a8->Prop},vA xb P a' key env J K->∃E T G W,nE xb P a' key E T G W/\E 0=env/\T 0=J/\K (E a'.length) (T a'.length)
 |[],key,env,J,K,h=>⟨λ_=>env,λ_=>J,λ_=>true,λ_=>.ba [],⟨λi o h=>by grind⟩,rfl,rfl,h⟩
 |o::r,key,env,J,K,h=>by
  obtain⟨g,v,J1,h1,a⟩:=h;obtain⟨E,T,G,W,b,aN,d,bE⟩:=FQ a;refine⟨λi=>if i=0 then env else E (i-1),λi=>if i=0 then J else T (i-1),λi=>if i=0 then g else G (i-1),λi=>if i=0 then v else W (i-1),⟨λi c e=>?_⟩,rfl,rfl,by grind⟩;cases i with
  |zero=>grind
  |succ i=>
   have:=b.step i c (by grind);grind
end
end
section
open Go
variable {xb:aZ}
variable{p:Nat->Bool}{j:Nat}{L:List (b5×aZ)}{env:Env}{o:cF}{J:a8}{S:c6}{w:World}{φ:c0}{a:Act}{D:Nat->aZ}{listed:Array Bool}{Q:Exit->Act->World->Prop}
theorem G2:∀{m:Nat},(∃i,i<m/\p i=true)->∃i,i<m/\p i=true/\∀j,j<m->p j=true->j<=i
 |0,⟨i,h,_⟩=>by omega
 |m+1,⟨i,h1,a⟩=>by
  cases d:p m with
  |true=>grind
  |false=>
   have:i<m:=(by grind);obtain⟨k,b,c,bh⟩:=G2 ⟨i,this,a⟩;grind
theorem we{P:Program}{nt:Nat}{ops:Array Oper}:∀{l:List Oper} {a':List b5},gA P nt ops l=some a'->a'.length=l.length
 |[],a',h=>by grind[gA]
 |o::l,a',h=>by
  simp[gA,bk,bx]at h;obtain⟨b,c,r,a,rfl⟩:=h;simp[we a]
theorem Em{P:Program}{nt:Nat}{ops:Array Oper}:∀{l:List Oper} {a':List b5} {i:Nat} {o:Oper},gA P nt ops l=some a'->l[i]?=some o->∃a,a'[i]?=some a/\uB P nt ops o=some a
 |[],a',i,o,h,b=>by grind
 |x::l,a',i,o,h,b=>by
  simp[gA,bk,bx]at h;obtain⟨a,d,r,c,rfl⟩:=h;cases i with
  |zero=>grind
  |succ i=>simpa using Em c (by grind)
theorem FA:∀{l:List (b5×aZ)} {k i:Nat} {x:b5×aZ},BI k l=true->l[i]?=some x->∀d,d∈x.2->d<k+i
 |[],k,i,x,h,I,d,aj=>by grind
 |y::r,k,i,x,h,I,d,aj=>by
  simp[BI]at h;cases i with
  |zero=>grind
  |succ i=>
   have:=FA h.2 (by simpa using I) d aj;omega
theorem Zd{i:Nat}(h:ahead L j i=true):j<i/\∃x,L[i]?=some x/\j∈x.2:=by
 grind[ahead]
theorem Ru{key b:Nat}(ht:o.ho=true)(a:ct xb o env key b=true):b∈dN xb o env key:=by
 cases o
 case call f args=>
  simp[ct]at a;simp[dN];rcases a with h|h
  . exact .inl ⟨b-key,by omega,by omega⟩
  grind
 case appendT te sz by' x y=>simp only[ct,Dy]at a;simp only[dN,gY];exact .inl a
 all_goals simp[cF.ho]at ht<;>simp[ct,dN]at a⊢<;>first|exact a|(rcases a with h|h;exact .inl h;exact .inr (.inl h))
theorem Xw{key:Nat}(ht:o.ho=false):dN xb o env key=[]:=by
 cases o<;>simp[cF.ho]at ht<;>rfl
theorem HE{key b:Nat}(a:ct xb o env key b=true):o.neutral=false:=by
 cases o<;>simp[ct]at a<;>rfl
theorem JA{key b:Nat}(ht:o.ho=false)(a:ct xb o env key b=true):key<=b/\b<key+16:=by
 cases o<;>simp[cF.ho]at ht<;>simp[ct]at a
section
variable {P:Program}{au:Ctx}{nt kk:Nat}{N:Nat}{ops:Array Oper}{a':List b5}{E:Nat->Env}{T:Nat->a8}{G:Nat->Bool}{W:Nat->V}
theorem Rel.adz{env':Env}{n:Nat->Bool}(R:Rel au nt φ S env J n a w)(h:∀t,look env' t=look env t):Rel au nt φ S env' J n a w:=
 ⟨R.bD,λk g v ag=>R.fJ k g v (h k▸ag),λk g v ag=>R.gp k g v (h k▸ag),λk g v ag=>R.fI k g v (h k▸ag),R.dz,R.size,R.defers,R.ext,R.own,R.fix,R.fT⟩
def h7(xb:aZ)(a':List b5)(E:Nat->Env)(N i b:Nat):Bool:=match a'[i]? with|some o=>ct xb o.op (E i) (N+16*i) b|none=>false
theorem ua(c:nE xb P a' N E T G W){t:Nat}{i:Nat}:∀{k:Nat},i<=k->k<=a'.length->(∀(j:Nat) (o:b5),i<=j->j<k->a'[j]?=some o->o.dst≠some t)->look (E k) t=look (E i) t:=by
 intro k;induction k with
 |zero=>grind
 |succ k ih=>
  intro h1 d e;by_cases f:i=k+1
  . grind
  . have a:k<a'.length:=(by omega);have b:=df a;rw[(c.step k _ b).2,lP];grind
theorem BL(f:nE xb P a' N E T G W){b:Nat}{i:Nat}:∀{k:Nat},i<=k->k<=a'.length->(∀j:Nat,i<=j->j<k->h7 xb a' E N j b=false)->aP (T k) b=aP (T i) b:=by
 intro k;induction k with
 |zero=>grind
 |succ k ih=>
  intro h1 g d;by_cases l:i=k+1
  . grind
  . have e:k<a'.length:=(by omega);have c:=df e;have a:=d k (by omega) (by simp);unfold h7 at a;rw[c]at a;have:=((f.step k _ c).1.local (λ_ _=>rfl) (λ_ _=>rfl)).2 b a;grind
inductive iE (D:Nat->aZ)(j:Nat):Nat->Prop
 |one {i:Nat} (h:j∈D i):iE D j i
 |step {e i:Nat} (h:iE D j e) (he:e∈D i):iE D j i
theorem iE.ready{n:Nat}(a:∀i d,i<n->d∈D i->d<i)(c:∀e,e<n->p e=true->∀d,d∈D e->p d=true){i:Nat}(h:iE D j i)(f:i<n)(aj:∀d,d∈D i->p d=true):p j=true:=by
 induction h<;>grind
theorem iE.congr{a:Nat->aZ}{n:Nat}(c:∀i d,i<n->d∈D i->d<i)(f:∀i,i<n->D i=a i){i:Nat}(h:iE D j i)(e:i<n):iE a j i:=by
 induction h with
 |one h=>exact .one (by grind)
 |step h he ih=>
  have:=c _ _ e he;exact .step (ih (by omega)) (by grind)
theorem RF:∀{l:List (b5×aZ)} {acc:List aZ},(∀(k:Nat) x,l[k]?=some x->D (acc.length+k)=x.2)->(∀i j,j∈acc.getD i []->iE D j i)->∀i j,j∈(mw l acc).getD i []->iE D j i
 |[],acc,_,b,i,j,h=>b i j h
 |x::r,acc,c,b,i,j,h=>by
  refine RF (acc:=acc++[(x.2++x.2.flatMap _).eraseDups]) (λk y ak=>?_) (λi j a=>?_) i j h
  . have:=c (k+1) y (by grind);grind
  . rw[sq,List.getElem?_append]at a;split at a
    . grind
    . cases d:i-acc.length with
      |succ k=>grind
      |zero=>
       rw[d]at a;have f:i=acc.length:=(by omega);have I:=(by simpa using c 0 x rfl);simp[DH]at a;rcases a with a|⟨e,he,a⟩
       . exact .one (by grind)
       . exact .step (b e j a) (by grind)
structure Stat (xb:aZ)(a':List b5)(D:Nat->aZ)(E:Nat->Env)(N:Nat):Prop where
 back:∀i d,i<a'.length->d∈D i->d<i
 u9:∀(i j:Nat) (x y:b5) (d:Nat),a'[i]?=some x->a'[j]?=some y->y.dst=some d->(d∈x.rd->(j<i/\j∈D i)\/(x.op.neutral=true/\x.op.ho=false/\i<j/\i∈D j))/\(i=j\/x.dst≠some d)
 ord:∀i j b,i≠j->i<a'.length->j<a'.length->h7 xb a' E N i b=true->((∃y:b5,a'[j]?=some y/\b∈dN xb y.op (E j) (N+16*j))\/h7 xb a' E N j b=true)->(i<j/\iE D i j)\/(j<i/\iE D j i)
def used(N m:Nat)(listed:Array Bool):Nat->Bool:=λb=>lt N b||(List.range m).any λi=>listed.getD i false&&(decide (N+16*i<=b)&&decide (b<N+16*i+16))
structure Inv (xb:aZ)(au:Ctx)(nt:Nat)(a':List b5)(D:Nat->aZ)(N:Nat)(E:Nat->Env)(T:Nat->a8)(G:Nat->Bool)(W:Nat->V)(listed:Array Bool)(φ:c0)(S:c6)(env:Env)(J:a8)(a:Act)(w:World):Prop where
 rel:Rel au nt φ S env J (used N a'.length listed) a w
 size:listed.size=a'.length
 down:∀i,i<a'.length->listed.getD i false=true->∀d,d∈D i->listed.getD d false=true
 dc:∀t,(∀(i:Nat) (o:b5),a'[i]?=some o->listed.getD i false=true->o.dst≠some t)->look env t=look (E 0) t
 aN:∀t (i:Nat) (o:b5),a'[i]?=some o->listed.getD i false=true->o.dst=some t->look env t=some (G i,W i)
 sC:∀b,(∀i,i<a'.length->listed.getD i false=true->h7 xb a' E N i b=false)->aP J b=aP (T 0) b
 s1:∀b i,i<a'.length->listed.getD i false=true->h7 xb a' E N i b=true->(∀j,j<a'.length->listed.getD j false=true->h7 xb a' E N j b=true->j<=i)->aP J b=aP (T (i+1)) b
theorem hz{i:Nat}(a:i<listed.size):(listed.setIfInBounds i true).getD j false=if j=i then true else listed.getD j false:=by
 by_cases h:j=i
 . simp_all
 simp_all[du]
theorem Inv.agree(b9:Inv xb au nt a' D N E T G W listed φ S env J a w)(st:Stat xb a' D E N)(q:nE xb P a' N E T G W)
 {i:Nat}{o:b5}(O:a'[i]?=some o)(aV:listed.getD i false=false)(aj:∀d,d∈D i->listed.getD d false=true):
 (∀t,t∈o.rd->look env t=look (E i) t)/\∀b,b∈dN xb o.op (E i) (N+16*i)\/ct xb o.op (E i) (N+16*i) b=true->aP J b=aP (T i) b:=by
 have F:i<a'.length:=(dL.1 O).1;refine⟨λt ht=>?_,λb ap=>?_⟩
 . by_cases Q:∃(j:Nat) (y:b5),a'[j]?=some y/\y.dst=some t
   . obtain⟨j,y,ak,v⟩:=Q;rcases (st.u9 i j o y t O ak v).1 ht with⟨h1,B⟩|⟨_,_,h1,B⟩
     . rw[b9.aN t j y ak (aj j B) v];have:look (E (j+1)) t=some (G j,W j):=by rw[(q.step j y ak).2,lP,ai v]
       rw[<-this]
       symm
       refine ua q (by omega) (by omega) λk z I K e A=>?_;rcases (st.u9 k j z y t e ak v).2 with h|h
       all_goals grind
     . have f:j<a'.length:=(dL.1 ak).1;have an:∀(k:Nat) (z:b5),a'[k]?=some z->z.dst=some t->k=j:=by
        intro k z e A;rcases (st.u9 k j z y t e ak v).2 with h|h
        . grind
        grind
       rw[b9.dc t λk z e ag A=>by
        have:=an k z e A;subst this;have:=b9.down k f ag i B
        grind]
       symm
       refine ua q (kL _) (by omega) λk z _ aF e A=>?_;grind
   . have x:=λj y ak h=>Q ⟨j,y,ak,h⟩;rw[b9.dc t λj y ak _=>x j y ak]
     symm
     exact ua q (kL _) (by omega) λj y _ _ ak=>x j y ak
 . have R:∀j,j≠i->j<a'.length->h7 xb a' E N j b=true->(j<i/\iE D j i)\/(i<j/\iE D i j):=by
    intro j f c g;refine st.ord j i b f c F g ?_;grind[h7]
   have ag:∀j,j<a'.length->listed.getD j false=true->h7 xb a' E N j b=true->j<i:=by
    intro j c M g;have am:j≠i:=(by grind);rcases R j am c g with h|h
    . grind
    . have:=h.2.ready st.back b9.down c (b9.down j c M);grind
   have Z:∀j,j<i->h7 xb a' E N j b=true->listed.getD j false=true:=by
    intro j ax g;rcases R j (by omega) (by omega) g with h|h
    . exact h.2.ready (p:=λk=>listed.getD k false) st.back b9.down F aj
    grind
   by_cases U:∃j,j<i/\h7 xb a' E N j b=true
   . obtain⟨j,X,H,Y⟩:=G2 U;rw[b9.s1 b j (by omega) (Z j X H) H (λk I K L=>Y k (ag k I K L) L)];grind[BL]
   . have x:∀j,j<i->h7 xb a' E N j b=false:=(by grind);rw[b9.sC b λj c M=>by grind]
     symm
     exact BL q (kL _) (by omega) λj _ f=>x j f
theorem ZW{m:Nat}{i b:Nat}(a:i<listed.size)(h:ep (used N m listed) (N+16*i) b=true)(c:i<m):used N m (listed.setIfInBounds i true) b=true:=by
 simp only[ep,used,lj]at h⊢;grind[hz]
theorem Rv{m:Nat}{i:Nat}(aV:listed.getD i false=false){b:Nat}(h1:N+16*i<=b)(a:b<N+16*i+16):used N m listed b=false:=by
 simp only[used];grind[lt]
theorem Inv.step{bj:c6}{bp:a8}{b4:Act}{w':World}(b9:Inv xb au nt a' D N E T G W listed φ S env J a w)(st:Stat xb a' D E N)(X:nE xb P a' N E T G W)
 {i:Nat}{o:b5}(x:a'[i]?=some o)(aV:listed.getD i false=false)(aj:∀d,d∈D i->listed.getD d false=true)
 (A:∀b,aP bp b=if ct xb o.op (E i) (N+16*i) b then aP (T (i+1)) b else aP J b)
 (R:Rel au nt bg bj (ee env o.dst (G i) (W i)) bp (ep (used N a'.length listed) (N+16*i)) b4 w'):
 Inv xb au nt a' D N E T G W (listed.setIfInBounds i true) bg bj (ee env o.dst (G i) (W i)) bp b4 w':=by
 have p:i<a'.length:=(dL.1 x).1;have f:i<listed.size:=by rw[b9.size];exact p
 have I:∀b,h7 xb a' E N i b=ct xb o.op (E i) (N+16*i) b:=λb=>by unfold h7;rw[x]
 refine⟨R.more λb v=>ZW f v p,by simp[b9.size],λj c ag d B=>?_,λt ht=>?_,λt j y ak ag K=>?_,λb v=>?_,λb j c ag H F=>?_⟩
 . rw[hz f]at ag⊢;split
   . rfl
   . split at ag
     . rename_i e;subst e;exact aj d B
     . exact b9.down j c ag d B
 . rw[lP,av (ht i o x (by rw[hz f,ai rfl]))];exact b9.dc t λj y ak ag=>ht j y ak (by rw[hz f];split;rfl;exact ag)
 . rw[lP];rw[hz f]at ag;by_cases g:j=i
   . grind
   . rw[av g]at ag;rw[av (λh=>?_)]
     . exact b9.aN t j y ak ag K
     . rcases (st.u9 i j o y t x ak K).2 with L|L
       all_goals grind
 . rw[A b];have q:=v i p (by rw[hz f,ai rfl]);rw[I]at q;rw[q];exact b9.sC b λj c ag=>v j c (by grind[hz])
 . rw[A b];rw[hz f]at ag;by_cases q:ct xb o.op (E i) (N+16*i) b=true
   . have Q:i<=j:=F i p (by simp_all) (by grind);by_cases g:j=i
     . grind
     ·
      rw[av g]at ag;rcases st.ord i j b (du g) p c (by rw[I];exact q) (.inr H)with h|h
      . have:=h.2.ready st.back b9.down c (b9.down j c ag);rw[aV]at this;cases this
      . omega
   . rw[av q];by_cases g:j=i
     . grind
     . rw[av g]at ag;exact b9.s1 b j c ag H λk M U O=>F k M (by grind[hz]) O
theorem Inv.done(b9:Inv xb au nt a' D N E T G W listed φ S env J a w)(st:Stat xb a' D E N)(e:nE xb P a' N E T G W)
 (v:∀i,i<a'.length->listed.getD i false=true):Rel au nt φ S (E a'.length) (T a'.length) (lt (N+16*a'.length)) a w:=by
 refine((b9.rel.adz λt=>?_).congr λb=>?_).more λb x=>?_
 . by_cases p:∃(j:Nat) (y:b5),a'[j]?=some y/\y.dst=some t
   . obtain⟨j,y,ak,q⟩:=p;have g:=(dL.1 ak).1;rw[b9.aN t j y ak _ _];have:look (E (j+1)) t=some (G j,W j):=by rw[(e.step j y ak).2,lP,ai q]
     rw[<-this];refine ua e (by omega) (e6 _) λk z f I L M=>?_;rcases (st.u9 k j z y t L ak q).2 with h|h
     all_goals grind
   . have c:=λj y ak h=>p ⟨j,y,ak,h⟩;rw[b9.dc t λj y ak _=>c j y ak];exact ua e (kL _) (e6 _) λj y _ _ ak=>c j y ak
 . by_cases A:∃j,j<a'.length/\h7 xb a' E N j b=true
   . obtain⟨j,o,B,F⟩:=G2 A;rw[b9.s1 b j o (v j o) B (λk f _ K=>F k f K)];refine BL e (by omega) (e6 _) λk f I=>?_;grind
   . have c:∀j,j<a'.length->h7 xb a' E N j b=false:=(by grind);rw[b9.sC b λj H _=>c j H];exact BL e (kL _) (e6 _) λj _ g=>c j g
 . simp[used,lt]at x⊢;grind
theorem Wc(st:Stat xb a' D E N)(k:nE xb P a' N E T G W)(hres:gA P nt ops ops.toList=some a')(n:∀(i:Nat) o,ops[i]?=some o->D i=gM o)
 (t:∀φ S a w,Rel au nt φ S (E a'.length) (T a'.length) (lt (N+16*a'.length)) a w->Q .normal a w):
 ∀(fuel:Nat) (listed:Array Bool) φ S env J a w,listed.toList.countP (· ==false)<=fuel->Inv xb au nt a' D N E T G W listed φ S env J a w->wpAny P .any ops Q fuel listed a w:=by
 have B:=we hres;simp at B;have C:∀(listed:Array Bool) (φ:c0) (S:c6) (env:Env) (J:a8) (a:Act) (w:World),Inv xb au nt a' D N E T G W listed φ S env J a w->Region.ready .any ops listed=[]->∀i,i<a'.length->listed.getD i false=true:=by
  intro listed φ S env J a w b9 g i;induction i using Nat.strongRecOn with
  |_ i ih=>
   intro c;cases ag:listed.getD i false with
   |true=>rfl
   |false=>
    have A:i<ops.size:=(by omega);have f:ops[i]?=some ops[i]:=z8 A;have:i∈Region.ready .any ops listed:=by
     rw[mem_ready];refine⟨?_,ops[i],f,λe he L=>?_⟩
     . have j:i<listed.size:=by rw[b9.size];grind
       grind
     . have aj:e.on∈D i:=by
        rw[n i _ f];simp only[gM,g',xX];grind
       exact ih e.on (st.back i _ c aj) (by have:=st.back i _ c aj;omega)
    grind
 have p:∀(listed:Array Bool) (φ:c0) (S:c6) (env:Env) (J:a8) (a:Act) (w:World),Inv xb au nt a' D N E T G W listed φ S env J a w->Region.ready .any ops listed=[]->Q .normal a w:=by
  intro listed φ S env J a w b9 g;exact t φ S a w (b9.done st k (C listed φ S env J a w b9 g))
 intro fuel;induction fuel with
 |zero=>
  intro listed φ S env J a w z b9;have I:∀i,i<a'.length->listed.getD i false=true:=by
   intro i c;have j:i<listed.size:=by rw[b9.size];grind
   cases ag:listed.getD i false with
   |true=>rfl
   |false=>
    exfalso;have h0:listed.toList.countP (· ==false)=0:=(by omega);rw[List.countP_eq_zero]at h0;simp[j]at ag;exact h0 listed[i] (by simp) (by grind)
  have g:Region.ready .any ops listed=[]:=by
   rw[OP];grind[mem_ready]
  exact⟨g,p listed φ S env J a w b9 g⟩
 |succ fuel ih=>
  intro listed φ S env J a w z b9;refine⟨p listed φ S env J a w b9,λi c=>?_⟩;rw[mem_ready]at c;obtain⟨h1,o,f,M⟩:=c;have j:i<listed.size:=by grind
  have aV:listed.getD i false=false:=by grind
  obtain⟨l,m,F⟩:=Em hres (i:=i) (o:=o) (by simpa using f);have aj:∀d,d∈D i->listed.getD d false=true:=by
   intro d aj;rw[n i o f]at aj;simp only[gM,g',xX]at aj;grind
  obtain⟨u,v⟩:=b9.agree st k m aV aj;obtain⟨⟨bp,hs,r⟩,_⟩:=(k.step i l m).1.local (env':=env) (J':=J) u v;have q:=Bn b9.rel (key:=N+16*i) (λb x y=>Rv aV x y) F (K:=λe s=>e=ee env l.dst (G i) (W i)/\s=bp) (hs.gK ⟨rfl,rfl⟩) (Q:=Q);have next:∀b4 w',i' au nt (ep (used N a'.length listed) (N+16*i)) (λe s=>e=ee env l.dst (G i) (W i)/\s=bp) b4 w'->wpAny P .any ops Q fuel (listed.setIfInBounds i true) b4 w':=by
   rintro b4 w' ⟨bg,bj,e,s,⟨rfl,rfl⟩,R'⟩
   refine ih _ bg bj _ _ b4 w' ?_ (b9.step st k m aV aj r R');have:listed.toList[i]?=some false:=by simp[j]at aV⊢;exact aV
   grind
  unfold wpOp;rw[f];dsimp only;split at q
  . rename_i H;rw[ai H];exact .inl (Oper.wp_mono next q)
  grind
end
end
end Go.Proofs.YtkbmjabicjpmjaaGreatDoor.Shv
