/- The library of this proof, part B: an abstract machine for the code of the program, and its soundness. -/
import Derived.Lib.UnsafeStr
import Derived.ChangeKeysEq
import Derived.Orders
import Derived.LoopN
import Derived.Test.YtklfhpkljddjbaaGreatDoorTpLA

namespace Go.Proofs.YtklfhpkljddjbaaGreatDoor.Shv
set_option linter.all false
section
open Go
theorem C.mw(c:C):c.az (λ_=>true)=true:=by cases c<;>simp[C.az]
variable{e t eG yt:TypeId}{o:Oper}{x:Operand}{α:Type}{c:Call}{f id b0 off:Nat}{dst:Option Nat}{gd:Option (Nat×Bool)}{Q:Exit->Act->World->Prop}{K:Env->a6->Prop}{code:Code}{aZ:List bX}{a8:cU}{bs:aY}{es:List (List T)}
section
variable {P:Program}{av:Ctx}{nt kk:Nat}{φ:cU}{S ba:cR}{env:Env}{J:a6}{N key:Nat}{n:Nat->Bool}{a:Act}{w w':World}
theorem Rel.extend(R:Rel av nt φ S env J n a w)(e:Ext (λ_=>False) S ba w w')(L:∀b j,ba b j->b<w'.heap.size):Rel av nt φ ba env J n a w':=by
 have ab:=λb K=>e.block b K (λh=>h);have A:∀b x,aR J b=some x->(φ b).2≠0->∀j,¬ba (φ b).1 j:=by
  intro b x I h0 j F;have c9:=R.bB.blk b x I;rcases e.kH _ _ F with h|h|h
  . exact c9.pM h0 j h
  . grind
  . have:=c9.jh h0;omega
 refine⟨⟨λb x I=>?_,R.bB.inj,L⟩,λk g v ae al=>?_,R.gN,R.fO,R.dp,R.size,R.defers,?_,R.own,R.fix,R.gb⟩
 . have c9:=R.bB.blk b x I;cases x with
   |box cs=>
    obtain⟨h0,vs,E,h1,f,q⟩:=c9;refine⟨h0,vs,E,(ab _ (nV h1)).trans h1,f.imp λc v M y=>bk.mono e.mono (λ_ _=>rfl) (C.mw _) y,A b _ I h0⟩
   |arr sz es=>
    obtain⟨h1,f,q,B,bj⟩:=c9;refine⟨h1,f,q,B,λh0=>?_⟩;obtain⟨vs,E,k1,k2,k3,k4⟩:=bj h0;exact⟨vs,E,(ab _ (nV k1)).trans k1,k2,λi j D t he ht=>let⟨v,G,y⟩:=k3 i j D t he ht;⟨v,G,bK.mono e.mono y⟩,A b _ I h0⟩
   |set ks=>
    obtain⟨h0,⟨es,c,h1,f⟩,q⟩:=c9;exact⟨h0,⟨es,c,(ab _ (nV h1)).trans h1,f⟩,A b _ I h0⟩
   |buf E s=>
    obtain⟨h1,f,q⟩:=c9;refine⟨h1,f,λh0=>?_⟩;grind
   |b3 E c=>
    obtain⟨h0,⟨p,v,h1,f,q⟩,B⟩:=c9;exact⟨h0,⟨p,v,(ab _ (nV h1)).trans h1,f,bk.mono e.mono (λ_ _=>rfl) (C.mw _) q⟩,A b _ I h0⟩
   |cw sz es i o c=>
    obtain⟨⟨h1,f,q,B,bj,H⟩,⟨vs,E,k1,k2,k3,v,k4,k5⟩,k6⟩:=c9;exact⟨⟨h1,f,q,B,bj,H⟩,⟨vs,E,(ab _ (nV k1)).trans k1,k2,λi j D t he ht aN=>let⟨v,G,y⟩:=k3 i j D t he ht aN;⟨v,G,bK.mono e.mono y⟩,v,k4,bk.mono (n:=λ_=>true) e.mono (λ_ _=>rfl) (C.mw _) k5⟩,A b _ I (by omega)⟩
 . obtain⟨x,I,y⟩:=R.fP k g v ae al;exact⟨x,I,bS.mono e.mono (λ_ _=>rfl) (R.fO k g v ae al) y⟩
 . refine⟨e.os.trans R.ext.os,e.tape.trans R.ext.tape,e.output.trans R.ext.output,fQ R.ext.size e.size,λb aE c9=>?_,R.ext.mono.trans e.mono,λb j F=>?_⟩
   . exact(ab b (jf aE R.ext.size)).trans (R.ext.block b aE c9)
   . rcases e.kH _ _ F with h|h|h
     . exact R.ext.kH b j h
     . grind
     . exact .inr (.inr (fQ R.ext.size h))
theorem XV(R:Rel av nt φ S env J n a w){ty:TypeId}{len:Nat}{parts:Array (Nat×Operand)}(Z:o.op= .buildSlice ty len parts)(ab:P.underlying ty=some (.slice e)){sz:Nat}(aa:dW P e=some sz)
 {z:List C}(L:jO P e=some z){ps:List (Nat×aO)}(H:pz parts.toList=some ps)(h0:sz≠0)(M:z.length=sz)(Y:len*sz<=2^24)
 {p v J'}(X:n key=false)(h:aL (.bsliceT e sz len z ps) env J key=some (p,v,J'))(ai:p):Good P av nt env J' (ins n key) a v ((execOp a.eval o).run P w):=by
 simp only[aL,bf,bn,dG]at h;obtain⟨k,O,⟨q,f⟩,g,rfl,rfl,rfl⟩:=h;obtain⟨i,d,r,ag,m,V⟩:=sN (φ:=φ) (w:=w) (S:=S) (n:=n) L;have N:=qJ O m;have ae:d.cells.size=sz:=by rw[<-zv,<-m.length,M]
 have y:0<sz:=by omega
 have af:k.length=sz:=by grind[vZ]
 obtain ⟨us,h1,E,l,U,bj,_⟩:= HL R y H g ai (es:= List.replicate len k) (vs:= ((Array.range (len*sz)).map (d.cells[· % d.cells.size]!)).toList) (by
  grind) (by simp) (by
  intro i j e t he ht;have:e=k:=by
   grind
  subst this;obtain⟨x,I,K⟩:=N.get ht
  grind[D6])
 simp at l;have s:len<=c1:=by
  have:len<=len*sz:=Gy len y;grind[c1]
 have u:=R.bB.st;have Q:fY w S (w.alloc (.cells us.toArray e)) (λb j=>S b j\/b=w.heap.size):=⟨λ_ _ h=>.inl h,λb j h=>rh (qD (u b j h)) j⟩
 have A:Ext (λ_=>False) S _ w (w.alloc (.cells us.toArray e)):=
  ⟨rfl,rfl,rfl,by simp,λb g _=>qD g,Q,λb j h=>by grind⟩
 have B:=R.extend A (λb j h=>by
  rcases h with h|h
  . have:=u b j h;simp;omega
  simp_all)
 refine⟨.slice (some ⟨w.heap.size,0,none⟩) len len,φ,_,_,.inl ?_,?_,rfl,B.more λ_ h=>jW h⟩
 . have T:Instr.fill (λi=>some (i*sz,sz)) ((Array.range (len*sz)).map (d.cells[· % d.cells.size]!)) ((parts.map λ(i,x)=>(i,a.eval x)).toList)=some us.toArray:=by
    rw[Array.toList_map];omega
   simp_all[RT,execOp,Sem.run_bind,Result.andThen_ok]
 . refine .c ?_;have F:f.length=len:=l;rw[<-F]at s⊢;have G:∀j,(w.alloc (.cells us.toArray e)).cell? _=us[j]?:=λj=>iq heap_alloc_new j;refine bK.slice f _ _ sz w.heap.size 0 (λi j=>(us[i*sz+j]?).getD undef) (eB _) s E (λ_=>rfl) (λi j r W=>⟨.inr rfl,?_⟩) (λi j D t he ht=>?_)
   . rw[gx,G];have aE:i*sz+j<us.length:=by
      have:=eM sz (show i+1<=f.length from r);grind
     grind
   . obtain⟨v,ad,K⟩:=bj i j D t he ht;grind[bK.mono]
theorem V'{ty:TypeId}{e8:Nat}(h:yY P ty=some e8):∃i z,P.info? ty=some i/\i.zero=some z/\z.cells=#[.pointer none,.slice none 0 0]:=by
 grind[yY,NX,bf,SB]
theorem XA(R:Rel av nt φ S env J n a w){ty:TypeId}(t:o.op= .alloc ty){e8:Nat}(f:yY P ty=some e8)
 {p v J'}(r:n key=false)(l:n (key+1)=false)(h:aL (.allocS ty e8) env J key=some (p,v,J'))(ai:p):Good P av nt env J' (ins (ins n (key+1)) key) a v ((execOp a.eval o).run P w):=by
 obtain⟨rfl,rfl,rfl⟩:=h;obtain⟨i,z,q,u,A⟩:=V' f;have s:∀j,¬S w.heap.size j:=λj h=>by have:=R.bB.st _ _ h;omega
 have b:=(R.alloc (.cells #[.pointer none,.slice none 0 0] ty)).je l (x:= .buf e8 []) (0,0) rfl (by simp[cQ,di]) (by simp);have g:ins n (key+1) key=false:=by grind[ins]
 have d:=b.je g (x:= .b3 ty (.cr (key+1) 0)) (w.heap.size,1) (by simp[bJ.az,C.az,ins]) (by
  grind[cQ,heap_alloc_new,bk,dZ]) (λ_=>⟨λk y ag h0=>by
   rw[cS]at ag;split at ag
   . grind[di]
   . rename_i m;have e:(φ k).2≠0:=(by simp_all[dZ,dn]);have:=(R.bB.blk k y ag).jh e;simp[dZ,dn m]
     omega,.inr R.ext.size⟩)
 refine⟨.pointer (some ⟨w.heap.size,0,none⟩),_,S,_,.inl ?_,.c ?_,by simp[V.az,C.az,ins],d⟩
 . simp_all[execOp,Instr.alloc,zeroValue,typeInfo,newVar,newRow]
 grind[bk,di]
theorem S1(h:sY P t=true):∃k v i,P.underlying t=some (.map k v)/\P.underlying k=some .string/\P.info? v=some i/\i.zero=some (.bool false):=by
 grind[sY,bf]
theorem YC(R:Rel av nt φ S env J n a w)(f:o.op= .makeMap t none)
 {p v J'}(d:n key=false)(h:aL .mkset env J key=some (p,v,J'))(ai:p):Good P av nt env J' (ins n key) a v ((execOp a.eval o).run P w):=by
 obtain⟨rfl,rfl,rfl⟩:=h;have e:∀j,¬S w.heap.size j:=λj h=>by have:=R.bB.st _ _ h;omega
 have b:=(R.alloc _).je d (x:= .set []) (w.heap.size,1) rfl (by
  simp only[cQ,di]
  exact⟨by simp,⟨[],0,heap_alloc_new,.nil⟩,e⟩) (λ_=>⟨λk y ag h0=>by
   have:=(R.bB.blk k y ag).jh h0
   omega,.inr R.ext.size⟩)
 refine⟨.map (some w.heap.size),_,S,_,.inl ?_,.c ?_,by simp[V.az,C.az,ins],b⟩
 . simp[execOp,f,Instr.makeMap]
 grind[bk,di]
theorem XB{s:ByteArray}{k:ar}:(s==(⟨k.toArray⟩:ByteArray))=decide (k=s.data.toList):=by
 grind[beq_toListBytes,ByteArray.toList_eq]
theorem IP(s:ByteArray):∀{ks:List ar} {es:List MapEntry} (i:Nat),Ai ks es->
 (gu ks s.data.toList=false/\Instr.findNow .string (.string s) es i=some none)\/
 (gu ks s.data.toList=true/\∃j e,Instr.findNow .string (.string s) es i=some (some (i+j,.bool true))/\es[j]?=some e/\e.key= .string s/\e.val= .bool true)
 |_,_,i,.nil=>.inl ⟨rfl,rfl⟩
 |k::ks,e::es,i,.cons h d=>by
  obtain⟨h1,c⟩:=h;have f:(s==⟨k.toArray⟩)=decide _:=XB;by_cases g:k=s.data.toList
  . refine .inr ⟨by grind[gu],0,e,?_,rfl,?_,c⟩
    . simp_all[Instr.findNow,Instr.sameNow]
    simp_all
  . rcases IP s (i+1) d with⟨g1,g2⟩|⟨g1,j,a,g2,g3,g4,b⟩
    . grind[gu,Instr.findNow,Instr.sameNow]
    . refine .inr ⟨by grind[gu],j+1,a,?_,by grind,g4,b⟩;grind[Instr.findNow,Instr.sameNow]
theorem D7(a:P.underlying eG=some .string){s:ByteArray}{es:List MapEntry}{r:Option (Nat×Value)}(h:Instr.findNow .string (.string s) es 0=some r)(w:World):(Instr.findKey eG (.string s) es).run P w= .ok r w:=by
 simp_all[Instr.findKey,run_underlying]
theorem DY(a:P.underlying eG=some .string){s:ByteArray}(b:Bool)(w:World):(Instr.checkKey b 10000 eG (.string s)).run P w= .ok () w:=by
 unfold Instr.checkKey;simp[run_underlying a]
theorem qK{b:Nat}{es:Array MapEntry}{c:Nat}(h:w.heap[b]?=some (.map es c)):(getObj b).run P w= .ok (.map es c) w:=by grind[getObj,Sem.run]
theorem DD{b:Nat}{es:Array MapEntry}{c:Nat}(o:Obj)(h:w.heap[b]?=some (.map es c)):(setObj b o).run P w= .ok () {w with heap:=w.heap.setIfInBounds b o}:=by
 grind[setObj,Sem.run]
theorem YD(R:Rel av nt φ S env J n a w){k:Operand}(g:o.op= .lookup t x k false)(ht:sY P t=true){d c:aO}(I:bz x=some d)(y:bz k=some c)
 {p v J'}(C:n key=false)(h:aL (.lkset d c) env J key=some (p,v,J'))(ai:p):Good P av nt env J' (ins n key) a v ((execOp a.eval o).run P w):=by
 simp only[aL,bf]at h;obtain⟨⟨F,H⟩,u,⟨dR,G⟩,s,he⟩:=h;simp at he;obtain⟨eG,A,i,l,b,B,E⟩:=S1 ht;split at he
 . split at he
   . rename_i ks m;obtain⟨rfl,rfl,rfl⟩:=he;have h1:a.eval x= .map _:=(cc R I u ai.1).1.dJ;obtain⟨bs,f,rfl,_⟩:=bS.j6 (cc R y s ai.2).1;obtain⟨h0,⟨es,b',ab,q⟩,D⟩:=R.bB.blk _ _ m;refine Good.pure R ?_ (.oL _) rfl;have z:(zeroValue A).run P w= .ok (.bool false) w:=(by simp_all[zeroValue,typeInfo]);have r:=IP bs 0 q;rcases r with⟨g1,g2⟩|⟨g1,j,e,g2,_⟩
     . simp[execOp,g,h1,f,Instr.lookup,run_underlying l,qK ab,DY b,D7 b g2,z,g1]
     . simp[execOp,g,h1,f,Instr.lookup,run_underlying l,qK ab,DY b,D7 b g2,g1]
   grind
 grind
theorem ZA{ks:List ar}{es:List MapEntry}(h:Ai ks es)(s:ByteArray)(b':Nat):Ai (ks++[s.data.toList]) (es++[{key:= .string s,val:= .bool true,born:=b'}]):=
 h.append (.cons ⟨by rfl,rfl⟩ .nil)
theorem aV.modify{c:Type}{R:α->c->Prop}{f:c->c}:∀{l:List α} {m:List c} {j:Nat},aV R l m->(∀a b,R a b->m[j]?=some b->R a (f b))->aV R l (m.modify j f)
 |_,_,_,.nil,_=>by simpa using aV.nil
 |_,_,0,.cons h e,k=>.cons (k _ _ h rfl) e
 |_,_,j+1,.cons h e,k=>by
  exact .cons h (aV.modify e λa b o p=>k a b o (by grind))
theorem YE(R:Rel av nt φ S env J n a w){k v0:Operand}(y:o.op= .mapUpdate t x k v0)(ht:sY P t=true)(A:IM v0=true){q l:aO}(I:bz x=some q)(H:bz k=some l)
 {p v J'}(X:n key=false)(h:aL (.upset q l) env J key=some (p,v,J'))(ai:p):Good P av nt env J' (ins n key) a v ((execOp a.eval o).run P w):=by
 simp only[aL,bf]at h;obtain⟨⟨ad,ag⟩,G,⟨dR,ae⟩,F,he⟩:=h;simp only at he;obtain⟨eG,af,i,z,d,W,Z⟩:=S1 ht;have B:a.eval v0= .bool true:=by
  unfold IM at A;split at A
  . rfl
  grind
 split at he
 . rename_i b s;split at he
   . rename_i ks u;obtain⟨rfl,rfl,rfl⟩:=he;have h1:a.eval x= .map _:=(cc R I G ai.1).1.dJ;obtain⟨bs,r,rfl,_⟩:=bS.j6 (cc R H F ai.2).1;obtain⟨h0,⟨es,b',ab,g⟩,L⟩:=R.bB.blk _ _ u;have aE:=nV ab;have O:∃c f,(execOp a.eval o).run P w= .ok .skip {w with heap:=w.heap.setIfInBounds (φ b).1 (.map c f)}/\Ai (iH ks bs.data.toList) c.toList:=by
      have E:=IP bs 0 g;rcases E with⟨g1,g2⟩|⟨g1,j,e,g2,g3,g4,U⟩
      . refine⟨es.toArray.push {key:= .string bs,val:= .bool true,born:=b'},b'+1,?_,?_⟩
        . simp[execOp,y,h1,r,B,Instr.mapUpdate,run_underlying z,qK ab,DY d,D7 d g2,DD _ ab]
        . simp only[iH,g1,cE];simpa using ZA g bs b'
      . refine⟨es.toArray.modify j λe=>{e with key:= .string bs,val:= .bool true},b',?_,?_⟩
        . have N:Instr.sameBits 10000 (Value.string bs) (Value.string bs)=true:=by
           simp only[Instr.sameBits];rw[beq_toListBytes];simp
          have K:∀w,(Instr.keyThatStays (Value.string bs) (Value.string bs)).run P w= .ok (Value.string bs) w:=by intro w;unfold Instr.keyThatStays;rw[N];rfl
          simp[execOp,y,h1,r,B,Instr.mapUpdate,run_underlying z,qK ab,DY d,D7 d g2,DD _ ab,g3,g4,K]
        . simp only[iH,g1,cm];rw[CA];refine aV.modify g λaa T Y V=>?_;grind
     obtain⟨c,f,M,D⟩:=O;refine⟨undef,φ,S,_,.inr ⟨M,rfl⟩,.undef,rfl,Rel.more ?_ λ_ h=>jW h⟩;refine R.rewrite u h0 rfl rfl rfl rfl (by simp) (λQ C=>by simp[dn C]) (λm=>?_);exact⟨h0,⟨c.toList,f,by simp[aE],D⟩,L⟩
   grind
 grind
theorem Xh{st:TypeId}{i:TypeInfo}{c:Value}(p:P.underlying st=some (.slice e))(s:P.underlying yt=some .string)(g:P.info? e=some i)(z:i.zero=some c)(A:c.cells.size=i.size)
 {base:Option Addr}{sl sc a:Nat}{y:Value}{xs d:List Value}(q:(Builtin.lenOf y).run P w= .ok a w)
 (I:(Builtin.firstCells i.size sl (.slice base sl sc)).run P w.drew= .ok xs.toArray w.drew)(ag:(Builtin.firstCells i.size a y).run P w.drew= .ok d.toArray w.drew)
 (n:sc<sl+a)(k:jx (sl+a) i.bytes)(v:sl+a<=c1){tt:TypeId}:
 ∃(b:Nat) (r:List Value),sl+a<=b/\r.length=(b-(sl+a))*i.size/\
  (Builtin.append_ #[st,yt] tt #[.slice base sl sc,y]).run P w= .ok (.slice (some ⟨w.heap.size,0,none⟩) (sl+a) b) (w.drew.alloc (.cells (xs++d++r).toArray e)):=by
 have o:∀w,(sizeOf e).run P w= .ok i.size w:=λw=>by simp[sizeOf,typeInfo,g]
 have f:∀w,(typeInfo e).run P w= .ok i w:=λw=>by simp[typeInfo,g]
 have t:∀w,(zeroValue e).run P w= .ok c w:=λw=>by simp_all[zeroValue]
 generalize x:(Question.appendCap (sl+a) sc e).cut (w.tape w.drawn (Question.appendCap (sl+a) sc e))=b;have m:sl+a<=b:=by grind[Question.cut]
 have h1:¬(sl+a<=sc):=by omega
 have u:¬(sl+a>IntKind.i64.max/\(False\/i.bytes=0)):=by grind[IntKind.max,IntKind.bits,c1]
 have j:=by
  exact k.not n
 refine⟨b,(Builtin.zeroCells c.cells (b-(sl+a))).toList,m,by grind[RU],?_⟩;have l:(choose (.appendCap (sl+a) sc e)).run P w= .ok b w.drew:=by simp_all[Question.forced]
 have aC:(xs++d++(Builtin.zeroCells c.cells (b-(sl+a))).toList).toArray=xs.toArray++d.toArray++Builtin.zeroCells c.cells (b-(sl+a)):=by simp
 rw[aC];unfold Builtin.append_;simp only[Cw,Cu,Cv,Sem.run_bind,run_underlying p,run_underlying s,Result.andThen_ok,o,Sem.run_pure,cJ,cE,q,ao h1,f];rw[ao (by grind)];simp only[Sem.run_bind,Result.andThen_ok,f];rw[ao j];simp only[Sem.run_bind,Result.andThen_ok,f,l,run_askRoom,I,ag,t,gg,cm];rfl
theorem VH{st:TypeId}{i:TypeInfo}(g:P.underlying st=some (.slice e))(k:P.underlying yt=some .string)(d:P.info? e=some i)
 {base:Option Addr}{sl sc a:Nat}{y:Value}{c:List Value}(j:(Builtin.lenOf y).run P w= .ok a w)(ag:(Builtin.firstCells i.size a y).run P w= .ok c.toArray w)(m:sl+a<=sc){w':World}
 (hs:∀b,base=some b->(storeCells (b.add (sl*i.size)) c 0).run P w= .ok () w') (l:base=none->w'=w) {tt:TypeId}:
  (Builtin.append_ #[st,yt] tt #[.slice base sl sc,y]).run P w= .ok (.slice base (sl+a) sc) w':=by
 have f:∀w,(sizeOf e).run P w= .ok i.size w:=λw=>by simp[sizeOf,typeInfo,d]
 unfold Builtin.append_;simp only[Cw,Cu,Cv,Sem.run_bind,run_underlying g,run_underlying k,Result.andThen_ok,f,Sem.run_pure,cJ,cE,j];cases base<;>simp_all
theorem Wz(w:World)(bs:ByteArray):(Builtin.firstCells 1 bs.size (.string bs)).run P w= .ok (bs.data.toList.map λb=>Value.int .u8 b.toNat).toArray w:=by
 simp[Builtin.firstCells];grind
theorem XC(l:ar):∀x,x∈(l.map λb=>Value.int .u8 b.toNat)->x.oneCell'=true:=by
 intro x I;simp at I;obtain⟨b,_,rfl⟩:=I;rfl
theorem Tc(R:Rel av nt φ S env J n a w){yv:Value}{st:TypeId}{B:aO}(I:bz x=some B){L:Prop}{b l bytes:Nat}{es s:ar}(U:B.get env=some (L,.c (.cr b es.length)))(Y:L)
 (m:aR J b=some (.buf l es))(d:n key=false)(T:jx (es.length+s.length) bytes)(H:es.length+s.length<=c1)
 (A:∀r w',(Builtin.append_ #[st,yt] o.type #[a.eval x,yv]).run P w= .ok r w'->(execOp a.eval o).run P w= .ok (.value r) w')
 (D:∀base sl sc w',sl+s.length<=sc->(∀t,base=some t->(storeCells (t.add (sl*1)) (s.map λb=>Value.int .u8 b.toNat) 0).run P w= .ok () w')->(base=none->w'=w)->(Builtin.append_ #[st,yt] o.type #[.slice base sl sc,yv]).run P w= .ok (.slice base (sl+s.length) sc) w')
 (cp:∀base sl sc (xs:List Value),(Builtin.firstCells 1 sl (.slice base sl sc)).run P w.drew= .ok xs.toArray w.drew->sc<sl+s.length->jx (sl+s.length) bytes->sl+s.length<=c1->
  ∃(q:Nat) (r:List Value),sl+s.length<=q/\r.length=(q-(sl+s.length))*1/\(Builtin.append_ #[st,yt] o.type #[.slice base sl sc,yv]).run P w= .ok (.slice (some ⟨w.heap.size,0,none⟩) (sl+s.length) q) (w.drew.alloc (.cells (xs++(s.map λb=>Value.int .u8 b.toNat)++r).toArray l))):
 Good P av nt env (cW (gU J b) key (.buf l (es++s))) (ins n key) a (.c (.cr key (es.length+s.length))) ((execOp a.eval o).run P w):=by
 have X:∀b,w.heap.size<=b->∀j,¬S b j:=λb F j aA=>by have:=R.bB.st _ _ aA;omega
 obtain⟨au,ah,k1⟩:=(cc R I U Y).1.dJ;have N:=R.bB.blk _ _ m;obtain⟨g1,g2,g3⟩:=N;by_cases Z:es.length+s.length<=(φ b).2
 . by_cases f:(φ b).2=0
   . have G:es=[]:=kz (by omega);have O:s=[]:=kz (by omega);have p:=ah f;have g:=D none 0 0 w (by omega) (λt E=>by grind) (λ_=>rfl);rw[<-p]at g;have R':=(R.del b).je d (x:= .buf l (es++s)) (0,0) rfl (by grind[cQ,di]) (by simp);refine⟨_,_,S,w,.inl (A _ _ g),.c ?_,by simp[V.az,C.az,ins],R'⟩;rw[O,G];refine⟨by simp,λ_=>?_,λh=>?_⟩
     . rfl
     . simp[di]at h
   . obtain⟨⟨vs,ab,aa,ae⟩,K⟩:=g3 f;have p:=k1 f;have aq:es.length+(s.map λb=>Value.int .u8 b.toNat).length<=vs.length:=(by grind);obtain⟨w',aw,ai,aj,ak,al,az,am⟩:=lO (P:=P) _ es.length 0 vs w ab (by omega) (XC _)
     have g:=D (some ⟨(φ b).1,0,none⟩) es.length (φ b).2 w' Z (λt E=>by
      cases E;have ao:Addr.add ⟨(φ b).1,0,none⟩ (es.length*1)=⟨(φ b).1,es.length,none⟩:=by rw[tK];unfold Addr.add;split<;>simp_all
      grind) (λF=>by cases F)
     rw[<-p]at g
     have u:=(R.del b).world (w':=w') (λk=>k=(φ b).1) ai aj ak (tJ al.symm) (λk _ d=>am k d) (λk d=>by
      subst d;refine⟨K,λk y ag d=>?_,R.own b _ m f⟩;rw[e4]at ag;split at ag
      . cases ag
      . rename_i z
        exactλe=>R.bB.inj k b y _ ag m (dn z) d f e)
     have v:=u.je d (x:= .buf l (es++s)) (φ b) rfl (by
      simp only[cQ,di]
      grind[List.length_append,pe,nX]) (λ_=>⟨λk y ag d=>by
       rw[e4]at ag;split at ag
       . cases ag
       . rename_i z
         exact R.bB.inj k b y _ ag m (dn z) d f,R.own b _ m f⟩)
     refine⟨_,_,S,w',.inl (A _ _ g),.c ?_,by simp[V.az,C.az,ins],v⟩;refine⟨by simp[di];omega,λh=>?_,λ_=>?_⟩
     . simp[di,f]at h
     . simp[di]
 . have u:=R.drew;have Q:∃base,a.eval x= .slice base es.length (φ b).2/\∃xs:List Value,(Builtin.firstCells 1 es.length (.slice base es.length (φ b).2)).run P w.drew= .ok xs.toArray w.drew/\xs.length=es.length/\∀(i:Nat) c,es[i]?=some c->xs[i]?=some (.int .u8 (UInt8.toNat c)):=by
    by_cases f:(φ b).2=0
    . have G:es=[]:=kz (by omega);simp_all[Builtin.firstCells]
    . obtain⟨⟨vs,ab,aa,ae⟩,K⟩:=g3 f;refine⟨_,k1 f,vs.take es.length,?_,by simp;omega,λj c ap=>?_⟩
      . show(loadCells ⟨(φ b).1,0,none⟩ (es.length*1)).run P w.drew=_;rw[tK];refine yJ (by simp;omega) (λj W=>?_);rw[gx,zw,ad W];exact iq (w:=w.drew) ab j
      grind
   obtain⟨base,p,xs,af,ax,ay⟩:=Q;obtain⟨q,r,h1,an,g⟩:=cp base es.length (φ b).2 xs af (by omega) T H;rw[<-p]at g;have v:=(u.del b).alloc (.cells (xs++(s.map λb=>Value.int .u8 b.toNat)++r).toArray l)
   have M:=v.je d (x:= .buf l (es++s)) (w.heap.size,q) rfl (by
    simp only[cQ,di];refine⟨by simp[];omega,by rw[dD];exact H,λ_=>⟨⟨_,heap_alloc_new,?_,?_⟩,X _ (eB _)⟩⟩
    . grind
    grind) (λ_=>⟨λk y ag h0=>by
     rw[e4]at ag;split at ag
     . cases ag
     . have:=(R.bB.blk k y ag).jh h0
       simp;omega,.inr R.ext.size⟩)
   refine⟨_,_,S,_,.inl (A _ _ g),.c ?_,by simp[V.az,C.az,ins],M⟩;refine⟨by simp[di];omega,λh=>?_,λ_=>?_⟩
   . simp[di]at h;omega
   . simp[di]
theorem XW(R:Rel av nt φ S env J n a w){x y:Operand}{st yt e:TypeId}(K:o.op= .call {callee:= .builtin .append,args:=#[x,y],argTypes:=#[st,yt]})
 (q:P.underlying st=some (.slice e))(u:P.underlying yt=some .string){i:TypeInfo}(m:P.info? e=some i)(c:i.size=1)(z:(i.zero.map (·.cells.size))=some 1)
 {g j:aO}(I:bz x=some g)(ag:bz y=some j)
 {p v J'}(G:n key=false)(h:aL (.appendB e i.bytes g j) env J key=some (p,v,J'))(ai:p):Good P av nt env J' (ins n key) a v ((execOp a.eval o).run P w):=by
 simp only[aL,bf]at h;obtain⟨⟨U,W⟩,E,⟨V,X⟩,F,he⟩:=h;simp only at he;simp only[bn]at z;obtain⟨Y,Q,O⟩:=z;split at he
 . rename_i b len s;split at he
   . rename_i T es C;obtain⟨rfl,rfl,rfl⟩:=he;obtain⟨L,M,rfl,rfl,D,H⟩:=ai;obtain⟨bs,l,rfl,_⟩:=bS.j6 (cc R ag F M).1;have k:bs.data.toList.length=bs.size:=by rw[<-wg]
     have t:∀w,(Builtin.lenOf (a.eval y)).run P w= .ok bs.data.toList.length w:=by intro w;simp[l,k,Builtin.lenOf]
     have A:∀w,(Builtin.firstCells i.size bs.data.toList.length (a.eval y)).run P w= .ok (bs.data.toList.map λb=>Value.int .u8 b.toNat).toArray w:=by intro w;rw[l,c,k];exact Wz w bs
     refine Tc R I E L C G D H (st:=st) (yt:=yt) (yv:=a.eval y) (λr w' N=>by simp[execOp,K,Go.resolve,invoke,builtin,N]) (λbase sl sc w' h1 d f=>?_) (λbase sl sc xs h1 d f B=>?_)
     . exact VH q u m (t w) (A w) h1 (by rw[c];exact d) f
     . have:=Xh (P:=P) (w:=w) (tt:=o.type) q u m Q (by rw[O,c]) (t w) (by rw[c];exact h1) (A w.drew) d f B;rw[c]at this;exact this
   grind
 grind
theorem YF(s:ar):∀(i:Nat) c,s[i]?=some c->(s.map λc=>([.int .u8 c.toNat]:List T))[i]?=some [.int .u8 c.toNat]:=by simp_all
theorem SH{s:ar}{d:List Value}(ae:d.length=s.length)(h:ik w S 1 (s.map λc=>[.int .u8 c.toNat]) d):d=s.map λb=>Value.int .u8 b.toNat:=by
 refine wP λi=>?_;by_cases a:i<s.length
 . obtain⟨v,e,f⟩:=h i 0 _ _ (YF s i _ (eC a)) rfl;cases f;simp only[tK,rp]at e;rw[e];simp[a]
 . simp[List.getElem?_eq_none (CD (ae▸a)),List.getElem?_eq_none (CD a)]
theorem XX(R:Rel av nt φ S env J n a w){x y:Operand}{st yt e am:TypeId}(L:o.op= .call {callee:= .builtin .append,args:=#[x,y],argTypes:=#[st,yt]})
 (m:P.underlying st=some (.slice e))(A:P.underlying yt=some (.slice am)){i:TypeInfo}(k:P.info? e=some i)(ab:i.size≠0)(B:(i.zero.map (·.cells.size))=some i.size)
 {f E:aO}(I:bz x=some f)(ag:bz y=some E)
 {p v J'}(H:n key=false)(h:aL (.append e i.size i.bytes f E) env J key=some (p,v,J'))(ai:p):Good P av nt env J' (ins n key) a v ((execOp a.eval o).run P w):=by
 by_cases K:∃q b l,f.get env=some (q,.c (.cr b l))
 case neg=>exact Xx R L m A k ab B I ag H h (λq b l e=>K ⟨q,b,l,e⟩) ai
 obtain⟨ao,b,len,F⟩:=K;simp only[aL,F,ay,bf]at h;obtain⟨⟨ap,al⟩,G,h⟩:=h;rw[show mc (.c (.cr b len)) al=none from rfl]at h;simp only[bf]at h;obtain⟨U,O,he⟩:=h;split at he
 . rename_i an es W;obtain⟨s,hs,he⟩:=kB.1 he;cases he;obtain⟨Z,M,rfl,d,rfl,z,X,Y⟩:=ai;simp only[bn]at B;obtain⟨au,ak,af⟩:=B;have N:∀e,e∈U.1->e.length=1:=by rw[z];simp
   obtain⟨t,aq,C,ad,Q,_⟩:=vG (P:=P) R ag G M (by decide:0<1) O N;obtain⟨_,ar,D,ae,T,_⟩:=vG (P:=P) R.drew ag G M (by decide:0<1) O N;have u:U.1.length=s.length:=by rw[z];simp
   rw[z]at Q T;have ah:=SH (by rw[ad,u,tK]) Q;have aj:=SH (by rw[ae,u,tK]) T;subst ah;subst aj;rw[u]at t C D;rw[<-d]at C D;refine Tc R I F Z W H X Y (st:=st) (yt:=yt) (yv:=a.eval y) (λr w' aa=>by simp[execOp,L,Go.resolve,invoke,builtin,aa]) (λbase sl sc w' h1 g j=>?_) (λbase sl sc xs h1 g j V=>?_)
   . exact vl m A k t C h1 (by rw[d];exact g) j
   . have:=H3 (P:=P) (w:=w) (tt:=o.type) m A k ak af t (by rw[d];exact h1) D g j V;rw[d]at this;exact this
 . cases he
theorem YG(R:Rel av nt φ S env J n a w){x:Operand}{t:TypeId}(e:o.op= .call {callee:= .builtin .unsafeSliceData,args:=#[x],argTypes:=#[t]}){d:aO}(I:bz x=some d)
 {p v J'}(i:n key=false)(h:aL (.sdata d) env J key=some (p,v,J'))(ai:p):Good P av nt env J' (ins n key) a v ((execOp a.eval o).run P w):=by
 simp only[aL,bf]at h;obtain⟨⟨k,l⟩,f,he⟩:=h;simp at he;split at he
 . rename_i b len;obtain⟨rfl,rfl,rfl⟩:=he;have al:=cc R I f ai;obtain⟨j,g,k1⟩:=al.1.dJ;by_cases h0:(φ b).2=0
   . refine Good.pure R ?_ (.c ⟨none,rfl,λh=>absurd h0 h⟩) (by grind[V.az,C.az]);simp[execOp,e,Go.resolve,invoke,builtin,g h0,Go.Lib.run_unsafeSliceData_nil]
   . refine Good.pure R ?_ (.c ⟨_,rfl,λ_=>rfl⟩) (by grind[V.az,C.az]);simp[execOp,e,Go.resolve,invoke,builtin,k1 h0,Go.Lib.run_unsafeSliceData_row _ _ _ _ _ _ h0]
 grind
theorem YH{b m:Nat}{a:Addr}(c:b≠a.block):(w.freeze a m).heap[b]?=w.heap[b]?:=by
 grind[World.freeze]
theorem XD(a:Addr)(m:Nat):(w.freeze a m).os=w.os/\(w.freeze a m).tape=w.tape/\(w.freeze a m).output=w.output/\(w.freeze a m).heap.size=w.heap.size:=by
 grind[World.freeze]
theorem ZB(R:Rel av nt φ S env J n a w){x y:Operand}{cn it e:TypeId}(H:o.op= .call {callee:= .builtin .unsafeString,args:=#[x,y],argTypes:=#[cn,it]})
 (M:P.underlying cn=some (.pointer e))(D:P.cellsOf e=1){l q:aO}(I:bz x=some l)(ag:bz y=some q)
 {p v J'}(d:n key=false)(h:aL (.ustr e l q) env J key=some (p,v,J'))(ai:p):Good P av nt env J' (ins n key) a v ((execOp a.eval o).run P w):=by
 simp only[aL,bf]at h;obtain⟨⟨ad,af⟩,E,⟨ae,ah⟩,F,he⟩:=h;simp only at he;split at he
 . rename_i b m;split at he
   . rename_i s es g;obtain⟨rfl,rfl,rfl⟩:=he;obtain⟨K,L,rfl,rfl⟩:=ai;obtain⟨O,h1,Y⟩:=(cc R I E K).1.dJ;have B:=(cc R ag F L).1.eT;have C:=R.bB.blk _ _ g;obtain⟨g1,g2,g3⟩:=C;have z:∀w',bK w' S (.str es) (.string ⟨es.toArray⟩):=by
      intro w';have:=bK.str (w:=w') (S:=S) (⟨es.toArray⟩:ByteArray) (by rw[<-wg];grind[c1,ft]);omega
     have u:∀r w',(Builtin.unsafeString_ #[cn,it] o.type #[a.eval x,a.eval y]).run P w= .ok r w'->(execOp a.eval o).run P w= .ok (.value r) w':=by
      intro r w' t;simp[execOp,H,Go.resolve,invoke,builtin,t]
     by_cases f:es=[]
     . subst f;refine⟨.string ⟨#[]⟩,φ,S,w,.inl (u _ _ ?_),.c (z w),rfl,(R.del b).more λ_ h=>jW h⟩;rw[h1,B];exact Go.Lib.run_unsafeString_none w cn it o.type O
     . have X:=tQ.2 f;have i:(φ b).2≠0:=(by omega);obtain⟨⟨vs,ab,Z,aa⟩,G⟩:=g3 i;have N:w.shape? (φ b).1=some (s,vs.length):=by grind[World.shape?]
       have t:=Go.Lib.run_unsafeString_row (P:=P) w cn it o.type s M D _ vs.length N es f (by omega) (by grind[c1]) (λj c W=>by
        grind[Addr.add,iq])
       obtain⟨Q,T,U,V⟩:=XD (w:=w) ⟨(φ b).1,0,none⟩ es.length
       have A:=(R.del b).world _ Q T U (tJ V.symm) (λk _ d=>YH d) (λk d=>by
        subst d;refine⟨G,λk y ag d=>?_,R.own b _ g i⟩;rw[e4]at ag;split at ag
        . grind
        . rename_i f
          exactλe=>R.bB.inj k b y _ ag g (dn f) d i e)
       refine⟨.string _,φ,S,_,.inl (u _ _ ?_),.c (z _),rfl,A.more λ_ h=>jW h⟩;grind
   grind
 grind
end
section
variable {P:Program}{av:Ctx}{nt:Nat}{φ:cU}{S:cR}{env:Env}{J:a6}{n:Nat->Bool}{key:Nat}{a:Act}{w:World}
theorem Hz{d:Nat}{e:TypeId}{k:Nat}(f:pK P e=some k){xs c:Array Value}:∀{m i:Nat} {ps qs:List C} {us vs:List Value} {r:Bool},
 lr (List.replicate m k) ps qs=some r->aV (bk φ w S) ps us->aV (bk φ w S) qs vs->xs.toList.drop i=us->c.toList.drop i=vs->(Op.eqItems (d+1) e 1 xs c (List.range' i m)).run P w= .ok r w
 |0,i,ps,qs,us,vs,r,a,_,_,_,_=>by
  cases ps<;>cases qs<;>simp[lr]at a;subst a;simp[Op.eqItems]
 |m+1,i,ps,qs,us,vs,r,a,E,F,aC,g=>by
  have A:=KT f;have j:∀(l:Array Value) (z:Value) (n:List Value),l.toList.drop i=z::n->(part e l (i*1)).run P w= .ok z w:=λl z n I=>by
   have:l[i]?=some z:=by
    have:=dd (·[0]?) I;simpa using this
   simp[part,sO A,this]
  rw[List.replicate_succ]at a;cases ps with
  |nil=>simp[lr]at a
  |cons p ps=>cases qs with
   |nil=>cases p<;>simp[lr]at a
   |cons q qs=>
    cases p<;>cases q<;>simp only[lr,bf,bn]at a<;>try cases a
    rename_i x y b h;obtain⟨B,G,D,rfl⟩:=h;cases E with
    |cons h1 o=>cases F with
     |cons s t=>
      rename_i u us v vs;have f1:xs.toList.drop (i+1)=us:=by rw[<-wD,aC];rfl
      have f2:c.toList.drop (i+1)=vs:=by rw[<-wD,g];rfl
      have ih:=Hz (d:=d) f (m:=m) (i:=i+1) D o t f1 f2;rw[CE];simp only[Op.eqItems,Sem.run_bind,j xs u us aC,j c v vs g,Result.andThen_ok,KS B f h1 s d];cases b with
      |true=>simpa using ih
      |false=>simp
variable{y:Operand}
theorem YI(R:Rel av nt φ S env J n a w){op:BinOp}{ty:TypeId}(H:o.op= .binOp op ty x y yt)(s:op= .eql\/op= .neq){ks:aY}(b:Kf P ty=some ks)
 {g j:aO}(I:bz x=some g)(ag:bz y=some j)
 {p v J'}(L:n key=false)(h:aL (.eqAgg (op== .neq) ks g j) env J key=some (p,v,J'))(ai:p):Good P av nt env J' (ins n key) a v ((execOp a.eval o).run P w):=by
 simp only[aL,bf]at h;obtain⟨⟨M,O⟩,E,⟨N,Q⟩,F,he⟩:=h;simp only at he;split at he
 . rename_i ps qs;simp only[bn,dG]at he;obtain⟨r,K,rfl,rfl,rfl⟩:=he;obtain⟨us,c,z⟩:=(cc R I E ai.1).1.lJ;obtain⟨vs,f,A⟩:=(cc R ag F ai.2).1.lJ;unfold Kf at b;split at b
   . rename_i m e D;simp only[eg,bn]at b;obtain⟨⟨hs,al⟩,k,G,rfl⟩:=b;unfold dW at hs;simp only[bn]at hs;obtain⟨i,q,hs⟩:=hs;have B:P.cellsOf e=1:=(by simp[Program.cellsOf,q,hs]);have t:(eqGuard op ty x y (a.eval x) (a.eval y)).run P w= .ok () w:=by rcases s with rfl|rfl<;>simp[eqGuard,c,f,al]
     have l:(Op.equal ty (.agg us.toArray) (.agg vs.toArray)).run P w= .ok r w:=by
      obtain⟨d,C⟩:∃d,Op.maxDepth=d+2:=⟨9998,rfl⟩
      unfold Op.equal;rw[C,run_equalIn_array w (d+1) _ _ D q,B,List.range_eq_range'];exact Hz G K z A (by simp) (by simp)
     have u:(binOp op ty (a.eval x) (a.eval y)).run P w= .ok (.bool (if(op== .neq)then !r else r)) w:=by
      rcases s with rfl|rfl
      . rw[c,f];simp only[binOp,Sem.run_bind,l];rfl
      . rw[c,f];simp only[binOp,Sem.run_bind,l];rfl
     refine Good.pure R (x:= .bool (if(op== .neq)then !r else r)) ?_ (.oL _) rfl;simp[execOp,H,t,u]
   . cases b
 . cases he
theorem ZC(R:Rel av nt φ S env J n a w){ty:TypeId}{i:Operand}(y:o.op= .index ty x i){k:Nat}(C:P.underlying ty=some (.array k e))(ae:mO P e=some (false,1))
 {d b:aO}(I:bz x=some d)(s:bz i=some b)
 {p v J'}(K:n key=false)(h:aL (.idxV k d b) env J key=some (p,v,J'))(ai:p):Good P av nt env J' (ins n key) a v ((execOp a.eval o).run P w):=by
 simp only[aL,bf]at h;obtain⟨⟨N,Q⟩,r,⟨M,O⟩,q,he⟩:=h;simp only at he;split at he
 . rename_i cs kk m;simp only[eg,dy,dG]at he;obtain⟨H,rfl,rfl,rfl⟩:=he;obtain⟨A,B,t,L⟩:=ai;have g1:=cc R I r A;obtain⟨us,D,j⟩:=g1.1.lJ;have f:=(cc R s q B).1.eT;unfold mO at ae;simp only[bf]at ae;obtain⟨g,al,z,G,ae⟩:=ae;split at ae
   . cases ae;have aE:m.toNat<cs.length:=(by omega);obtain⟨u,E,F⟩:=j.get (show cs[m.toNat]?=some (cs.getD m.toNat .dead) by rw[List.getD,eC aE];rfl);refine Good.pure R (x:=u) ?_ (.c F) ?_
     . have l:us.toArray[m.toNat*1]?=some u:=(by simpa using E);simp only[execOp,y,Sem.run_bind,D,f,Instr.index,asIntOf,run_underlying C,Result.andThen_ok,Sem.run_pure];rw[ad ⟨t,by omega⟩];simp only[Sem.run_bind,i' G,Result.andThen_ok,part,sO al,l];rfl
     . have:=g1.2;simp only[V.az,e']at this⊢;refine this _ ?_;rw[List.getD,eC aE];exact wC aE
   . cases ae
 . cases he
theorem XY{ty:TypeId}(j:P.underlying ty=some (.slice e)){i:TypeInfo}{a:Value}(b:P.info? e=some i)(p:i.zero=some a){k:IntKind}{m:Int}(h0:0<=m)(d:m.toNat*i.bytes<=gJ)(f:m.toNat<=c1):
 (Instr.makeSlice ty (.int k m) (.int k m)).run P w= .ok (.slice (some ⟨w.heap.size,0,none⟩) m.toNat m.toNat) (w.alloc (.cells ((Array.range (m.toNat*i.size)).map (a.cells[· % a.cells.size]!)) e)):=by
 obtain⟨c,rfl⟩:∃c:Nat,m=(c:Int):=⟨m.toNat,by omega⟩
 simp only[gR]at*;unfold c1 at f;have n:IntKind.i64.wrap (c:Int)=(c:Int):=by
  simp[IntKind.wrap,IntKind.signed,IntKind.bits];omega
 have l:∀w,(typeInfo e).run P w= .ok i w:=λw=>by simp[typeInfo,b]
 have g:∀w,(sizeOf e).run P w= .ok i.size w:=λw=>by simp[sizeOf,typeInfo,b]
 have o:∀w,(zeroValue e).run P w= .ok a w:=λw=>by simp[zeroValue,typeInfo,b,p]
 have q:¬((i.bytes:Int)*(c:Int)>2^48):=by
  unfold gJ at d;rw[<-Int.natCast_mul,Nat.mul_comm];omega
 unfold Instr.makeSlice;simp only[asInt,asIntOf,Sem.run_bind,run_underlying j,Result.andThen_ok,Sem.run_pure,l,n];rw[ev];simp only[Sem.run_bind,run_askRoom,Result.andThen_ok,gR,g];by_cases h:c*i.size=0
 . simp only[h,cm,Sem.run_bind,Sem.run_pure,Result.andThen_ok,show Array.range 0=#[]from rfl,List.map_toArray,Array.map_empty];rfl
 . simp only[h,cE,Sem.run_bind,o,Sem.run_pure,Result.andThen_ok];rfl
theorem XE(R:Rel av nt φ S env J n a w){ty:TypeId}(ah:o.op= .makeSlice ty x y)(an:P.underlying ty=some (.slice e))(s:Hq x y=true){i:TypeInfo}(H:P.info? e=some i)
 {z:List C}(ao:jO P e=some z)(h0:i.size≠0)(d:z.length=i.size){F:aO}(I:bz x=some F)
 {p v J'}(ab:n key=false)(h:aL (.mslice i.size i.bytes z F) env J key=some (p,v,J'))(ai:p):Good P av nt env J' (ins n key) a v ((execOp a.eval o).run P w):=by
 have hs:x=y:=by
  unfold Hq at s;split at s
  . rw[hn s]
  . cases s
 subst hs;simp only[aL,bf]at h;obtain⟨⟨aB,aC⟩,aa,E,O,he⟩:=h;simp only at he;split at he
 . rename_i kk m;simp only[dy,dG]at he;obtain⟨rfl,rfl,rfl⟩:=he;obtain⟨aj,ad,ae,M,af⟩:=ai;have X:=(cc R I aa aj).1.eT;obtain⟨aA,b,K,au,A,ax⟩:=sN (φ:=φ) (w:=w) (S:=S) (n:=n) ao;rw[H]at K;cases K;have aq:=qJ O A;have N:b.cells.size=i.size:=by rw[<-zv,<-A.length,d]
   have D:0<i.size:=(by omega);have ar:E.length=i.size:=by rw[vZ O,d]
   generalize B:m.toNat=len at*;have Q:=R.alloc (.cells ((Array.range (len*i.size)).map (b.cells[· % b.cells.size]!)) e);have aw:=R.wA (.cells ((Array.range (len*i.size)).map (b.cells[· % b.cells.size]!)) e)
   have T:=Q.je ab (x:=if nx z then .box (List.replicate len .bD)else .arr i.size (List.replicate len E)) (w.heap.size,len) (by split<;>simp[bJ.az,C.az]) (by
    split
    . rename_i G;simp only[cQ,di];refine⟨af G,((Array.range (len*i.size)).map (b.cells[· % b.cells.size]!)).toList,e,by rw[Array.toArray_toList];exact heap_alloc_new,?_,λj h=>?_⟩
      . have ap:z=[.bD]:=by unfold nx at G;grind
        subst ap;simp at d;rw[<-d,tK];refine aV.kF (by simp) λq c v Z l=>?_;have ak:=(dH.1 l).1;simp at ak;have:c= .bD:=zH (eN Z);subst this;have f:=A;cases u:b.cells.toList with
        |nil=>rw[u]at f;cases f
        |cons v0 r=>
         rw[u]at f;cases f with|cons al am=>
         cases am;obtain⟨U,Y⟩:=al;have W:b.cells[0]?=some v0:=by rw[<-zK,u];rfl
         have az:b.cells.size=1:=by rw[<-zv,u];rfl
         rw[zK]at l;have:=D6 N D q 0 (by omega) (by omega);rw[<-d]at this;simp only[tK,rp]at this;rw[this,W]at l;cases l;exact⟨U,Y⟩
      . have:=R.bB.st _ _ h;omega
    simp only[cQ,di];refine⟨by simp,by simpa using M,λe he=>by rw[zH he];exact ar,D,λ_=>⟨((Array.range (len*i.size)).map (b.cells[· % b.cells.size]!)).toList,e,by rw[Array.toArray_toList];exact heap_alloc_new,by simp,λa j q t he ht=>?_,λj h=>?_⟩⟩
    . have L:=(dH.1 he).1;simp at L;have:q=E:=zH (eN he);subst this;have ay:=(dH.1 ht).1;obtain⟨x,I,g⟩:=aq.get ht;refine⟨x,?_,bK.mono aw g⟩;rw[zK,D6 N D a j L (by omega)];simpa using I
    . have:=R.bB.st _ _ h
      omega) (λ_=>⟨λk y ag h0=>by
       have:=(R.bB.blk k y ag).jh h0
       simp;omega,.inr R.ext.size⟩)
   refine⟨.slice (some ⟨w.heap.size,0,none⟩) len len,_,S,_,.inl ?_,.c ⟨some ⟨w.heap.size,0,none⟩,by simp[di],by simp[di],by simp[di]⟩,by simp[V.az,C.az,ins],T⟩;have g:=XY (P:=P) (w:=w) an H au (k:=kk) ad (by rw[B];exact ae) (by rw[B];exact M);rw[B]at g;simp only[execOp,ah,Sem.run_bind,X,g,Result.andThen_ok];rfl
 . cases he
theorem vP{x:Array α}{a b:α}(h:x.toList=[a,b]):x=#[a,b]:=by grind
theorem Kg{x:Array α}{a:α}(h:x.toList=[a]):x=#[a]:=by grind
theorem ZD(R:Rel av nt φ S env J n a w)(q:o.op= .call c){s:cH}(b:mF P c=some s)
 {p v J'}(m:n key=false)(h:aL s env J key=some (p,v,J'))(ai:p):Good P av nt env J' (ins n key) a v ((execOp a.eval o).run P w):=by
 obtain⟨callee,args,argTypes⟩:=c;unfold mF at b;split at b
 . grind[Kg,bn,aaq]
 . rename_i k;split at b
   . rename_i x y t u I ht;have I:=vP I;have ht:=vP ht;subst k;subst I;subst ht;split at b
     . rename_i e g r;simp only[bf,eg,dy]at b;obtain⟨i,l,z,d,A,f,⟨h1,j,B⟩,rfl⟩:=b;exact XW R q g r l h1 j d f m h ai
     . rename_i e C g r;simp only[bf,eg,dy]at b;obtain⟨i,l,z,d,A,f,⟨h1,j⟩,rfl⟩:=b;exact XX R q g r l h1 j d f m h ai
     . cases b
   grind
 . grind[vP,bf,bn,Yv]
 . grind[vP,bf,bn,Yw]
 . split at b
   . rename_i x t I ht;have I:=Kg I;have ht:=Kg ht;subst I;subst ht;split at b
     . simp only[eg,bn]at b;grind[YG]
     . cases b
   grind
 . rename_i k;split at b
   . rename_i x y t u I ht;have I:=vP I;have ht:=vP ht;subst k;subst I;subst ht;split at b
     . rename_i e g;simp only[eg,bf,bn]at b;obtain⟨⟨_,_,B⟩,z,d,A,f,rfl⟩:=b;exact ZB R q g B d f m h ai
     grind
   grind
 . grind[bn,aL]
 . grind[bn,aL]
 grind
theorem Good.mono{v:V}{J':a6}{cI c:Nat->Bool}(h:∀b,cI b=true->c b=true){r:Result Next}(g:Good P av nt env J' cI a v r):Good P av nt env J' c a v r:=by
 obtain⟨x,a8,ba,w',h1,e,f,R'⟩:=g;exact⟨x,a8,ba,w',h1,e,V.hh h f,R'.more h⟩
theorem YJ(R:Rel av nt φ S env J n a w){M:cH}(b:cZ P o.op=some M)
 (af:∀e e8,M≠.allocS e e8){p v J'}(j:n key=false)(h:aL M env J key=some (p,v,J'))(ai:p):Good P av nt env J' (ins n key) a v ((execOp a.eval o).run P w):=by
 generalize l:o.op=op at b;cases op with
 |move x=>simp only[cZ,bn]at b;obtain⟨q,I,rfl⟩:=b;exact KQ R (.inl l) I j h ai
 |assign x=>simp only[cZ,bn]at b;obtain⟨q,I,rfl⟩:=b;exact KQ R (.inr l) I j h ai
 |pick c x y=>
  simp only[cZ,bf,bn]at b;obtain⟨ac,W,q,I,D,ag,rfl⟩:=b;exact Yr R l W I ag j h ai
 |alloc e=>
  simp only[cZ]at b;split at b
  . cases b;exact absurd rfl (af _ _)
  . simp only[bf]at b;obtain⟨cs,Q,b⟩:=b;split at b
    . split at b
      . rename_i W;cases b;exact Xz R l Q (by omega) (by omega) j h ai
      . cases b;exact SF R l Q j h ai
    . cases b;exact SF R l Q j h ai
 |box e x=>simp only[cZ,bn]at b;obtain⟨q,I,rfl⟩:=b;exact aas R l I j h ai
 |build t parts=>
  simp only[cZ]at b;split at b
  . rename_i fs G;simp only[eg,bf,bn]at b;obtain⟨h1,z,F,ps,H,rfl⟩:=b;exact Xv R l G h1 F H j h ai
  . simp only[bf,bn]at b;rename_i len e A;obtain⟨z,F,m,B,ps,H,rfl⟩:=b;exact Wy R l A B F H j h ai
  . cases b
 |buildSlice t len parts=>
  simp only[cZ]at b;split at b
  . rename_i e A;simp only[bf,eg,dy]at b;obtain⟨m,B,z,F,ps,H,⟨h1,N,O⟩,rfl⟩:=b;exact Xw R l A B F H h1 N O j h ai
  . cases b
 |load t x=>
  simp only[cZ,bf,bn]at b;obtain⟨g,al,q,I,rfl⟩:=b;exact Yg R l al I j h ai
 |store t x y=>
  simp only[cZ,bf,bn]at b;obtain⟨m,B,q,I,D,ag,rfl⟩:=b;exact Xu R l B I ag j h ai
 |nilCheck x=>simp only[cZ,bn]at b;obtain⟨q,I,rfl⟩:=b;exact Wx R l I j h ai
 |binOp op t x y yt=>
  simp only[cZ]at b;split at b
  . rename_i V;split at b
    . simp only[bf,bn]at b;obtain⟨ks,U,q,I,D,ag,rfl⟩:=b;exact YI R l V U I ag j h ai
    . simp only[bf,bn]at b;obtain⟨ks,U,q,I,D,ag,rfl⟩:=b;exact Xt R l V U I ag j h ai
    . simp only[eg,bn]at b;grind[aL]
    . rename_i A;simp only[bf,bn]at b;obtain⟨q,I,D,ag,rfl⟩:=b;exact Yd R l V A I ag j h ai
    . simp only[bf,bn]at b;obtain⟨q,I,D,ag,rfl⟩:=b;exact Jt R l I ag j h ai
    . simp only[bf,bn]at b;obtain⟨q,I,D,ag,rfl⟩:=b;exact Jt R l I ag j h ai
    . cases b
  . simp only[bf,bn]at b;obtain⟨q,I,D,ag,rfl⟩:=b;exact Jt R l I ag j h ai
 |unOp u t x=>
  cases u<;>simp only[cZ,bn,reduceCtorEq]at b
  . split at b
    . simp only[bn]at b;obtain⟨q,I,rfl⟩:=b;exact Y7 R l I j h ai
    . cases b
  . split at b
    . simp only[bn]at b;obtain⟨q,I,rfl⟩:=b;exact aal R l I j h ai
    . cases b
  . obtain⟨q,I,rfl⟩:=b;exact Y6 R l I j h ai
 |convert s d x=>
  simp only[cZ]at b;split at b
  . rename_i hs E;simp only[bn]at b;obtain⟨q,I,rfl⟩:=b;exact Yt R l hs E I j h ai
  . rename_i hs E;simp only[bn]at b;obtain⟨q,I,rfl⟩:=b;exact aam R l hs E I j h ai
  . rename_i hs E;simp only[bn]at b;obtain⟨q,I,rfl⟩:=b;exact aan R l hs E I j h ai
  . rename_i e hs E;simp only[eg,bn]at b;obtain⟨⟨he,X⟩,q,I,rfl⟩:=b;have ad:P.underlying e=some (.int .u8):=(by grind);exact aau R l hs ad E I j h ai
  . cases b
 |fieldAddr t x f=>
  simp only[cZ]at b;split at b
  . rename_i fs G;simp only[bf,CL,bn]at b;obtain⟨aa,T,m,B,K,q,I,rfl⟩:=b;exact Yu R l G T B K I j h ai
  . cases b
 |field t x f=>
  simp only[cZ]at b;split at b
  . rename_i fs G;simp only[bf,bn]at b;obtain⟨aa,T,g,al,q,I,rfl⟩:=b;obtain⟨h1,N,O⟩:=Im al;exact aao R l G T N h1 O I j h ai
  . cases b
 |indexAddr t x i=>
  simp only[cZ]at b;split at b
  . rename_i e A;simp only[bf,CL,bn]at b;obtain⟨m,B,K,q,I,L,C,rfl⟩:=b;exact Yx R l A B K I C j h ai
  . rename_i k e A;split at b
    . simp only[eg,bf,bn]at b;obtain⟨h0,s,hs,q,I,rfl⟩:=b;exact Zw R l A h0 hs I j h ai
    . simp only[eg,bf,bn]at b;obtain⟨X,q,I,L,C,rfl⟩:=b;exact Yl R l A X I C j h ai
  . cases b
 |index t x i=>
  simp only[cZ]at b;split at b
  . rename_i A;simp only[bf,bn]at b;obtain⟨q,I,L,C,rfl⟩:=b;exact Yy R l A I C j h ai
  . rename_i A;simp only[eg,bf,bn]at b;obtain⟨ae,q,I,L,C,rfl⟩:=b;exact ZC R l A ae I C j h ai
  . cases b
 |slice t x aj C ak=>
  simp only[cZ]at b;split at b
  . rename_i A;simp only[eg,bf,bn,Option.isNone_iff_eq_none]at b;obtain⟨rfl,q,I,Z,ae,Y,ab,rfl⟩:=b;exact YA R l A I ae ab j h ai
  . rename_i e A;split at b
    . simp only[bf,CL,bn]at b;obtain⟨m,B,K,q,I,Z,ae,Y,ab,rfl⟩:=b;exact aar R l A B I ae ab j h ai
    . split at b
      . simp only[eg,bn]at b;grind[Option.isSome_iff_exists,Yf]
      . cases b
    . cases b
  . simp only[eg,bf,bn,Option.isNone_iff_eq_none]at b;grind[Zx]
  grind
 |makeFunc fn first caps=>
  cases fn<;>simp only[cZ,eg,bn,reduceCtorEq]at b;grind[Yz]
 |extract x i=>grind[cZ,bn,aap]
 |makeSlice t x y=>
  simp only[cZ]at b;split at b
  . rename_i A;simp only[eg,bf,bn]at b;obtain⟨ah,i,C,z,F,⟨h0,ae⟩,q,I,rfl⟩:=b;exact XE R l A ah C F h0 ae I j h ai
  . cases b
 |makeMap t r=>
  cases r with
  |some _=>simp[cZ]at b
  |none=>
   simp only[cZ,eg,dy]at b;grind[YC]
 |lookup t x i c=>
  cases c with
  |true=>simp[cZ]at b
  |false=>
   simp only[cZ,eg,bf,bn]at b;grind[YD]
 |mapUpdate t m k v0=>
  simp only[cZ,eg,bf,bn]at b;grind[YE]
 |call c=>grind[cZ,ZD]
 |_=>simp[cZ]at b
def eo(n:Nat->Bool)(k:Nat):Nat->Bool:=λb=>n b||(decide (k<=b)&&decide (b<k+16))
theorem lU{b:Nat}(h:n b=true):eo n key b=true:=by grind[eo]
theorem LU{b:Nat}(h:ins n key b=true):eo n key b=true:=by
 grind[ins,eo]
theorem RV{b:Bool}{op:Op}{a:cH}(h:wb P b op=some a):cZ P op=some a\/∃t len parts e m z ps,op= .buildSlice t len parts/\P.underlying t=some (.slice e)/\dW P e=some m/\jO P e=some z/\pz parts.toList=some ps/\m≠0/\z.length=m/\len*m<=2^24/\a= .bsliceT e m len z ps:=by
 unfold wb at h;grind[bf]
theorem VI{op:Op}{e e8:Nat}(h:cZ P op=some (.allocS e e8)):op= .alloc e/\yY P e=some e8:=by
 cases op with
 |alloc a=>
  grind[cZ,bf]
 |buildSlice t len parts=>
  simp[cZ]at h;split at h
  . simp_all[bf]
  grind
 |build t parts=>
  simp[cZ]at h;split at h
  . simp_all[bf]
  . grind[bf,bn]
  grind
 |call c=>
  simp[cZ]at h;unfold mF at h
  repeat' (first|(split at h)|(done))
  all_goals simp only[bf,bn,eg,dy,reduceCtorEq,pN,zD,exists_const]at h
 |binOp op t x y yt=>
  simp only[cZ]at h
  repeat' (first|(split at h)|(cases h;done))
  all_goals simp only[bf,bn,eg,dy,reduceCtorEq,pN,zD,exists_const]at h
 |unOp u t x=>
  cases u<;>simp only[cZ]at h
  all_goals repeat' (first|(split at h)|(cases h;done))
  all_goals simp_all
 |makeMap t r=>cases r<;>simp only[cZ,reduceCtorEq,eg,dy,pN]at h
 |lookup t x i c=>cases c<;>simp only[cZ,reduceCtorEq,eg,bf,bn,pN,zD]at h
 |makeFunc fn first caps=>cases fn<;>simp only[cZ,eg,bn,reduceCtorEq,pN,zD]at h
 |convert s d x=>
  simp only[cZ]at h
  repeat' (first|(split at h)|(cases h;done))
  all_goals simp_all
 |_=>
  simp only[cZ]at h
  try repeat' (first|(split at h)|(cases h;done))
  all_goals simp only[bf,bn,eg,CL,reduceCtorEq,pN,zD,exists_const]at h
theorem ZE(R:Rel av nt φ S env J n a w){f:cH}{j:Bool}(d:wb P j o.op=some f)
 {p v J'}(aN:∀b,key<=b->b<key+16->n b=false)(h:aL f env J key=some (p,v,J'))(ai:p):Good P av nt env J' (eo n key) a v ((execOp a.eval o).run P w):=by
 have g:=aN _ (eB _) (by simp);rcases RV d with d|⟨t,len,parts,e,m,z,ps,i,u,r,x,s,h1,k,l,rfl⟩
 . by_cases hs:∃e e8,f= .allocS e e8
   . obtain⟨e,e8,rfl⟩:=hs;obtain⟨i,q⟩:=VI d;refine(XA R i q g (aN _ (by simp) (by simp)) h ai).mono λb c=>?_;grind[ins,eo]
   . exact(YJ R d (λe e8 he=>hs ⟨e,e8,he⟩) g h ai).mono λb c=>LU c
 . exact(XV R i u r x s h1 k l g h ai).mono λb c=>LU c
end
def hL(P:Program)(f:Nat)(args:List V)(J:a6)(key:Nat)(K:V->a6->Prop):Prop:=
 ∀av nt φ S env n a w,Rel av nt φ S env J n a w->(∀b,key<=b->b<key+16->n b=false)->V.az.V.dj n args=true->∀vs:List Value,aV (bS φ w S) args vs->
  Calls P f vs.toArray w λe w'=>∃v r a8 ba J',e= .returned v/\K r J'/\bS a8 w' ba r v/\r.az (eo n key)=true/\Rel av nt a8 ba env J' (eo n key) a w'
theorem hL.mono{P:Program}{args:List V}{J:a6}{key:Nat}{K c:V->a6->Prop}(h:hL P f args J key K)(q:∀r J',K r J'->c r J'):hL P f args J key c:=
 λav nt φ S env n a w R aN p vs t=>(h av nt φ S _ n a w R aN p vs t).mono λe w' ⟨v,r,a8,ba,J',h1,j,o⟩=>⟨v,r,a8,ba,J',h1,q _ _ j,o⟩
def fM(env:Env):Option (Nat×Bool)->Option Bool
 |none=>some true
 |some (t,b)=>match look env t with
  |some (g,.c (.t (.bool x)))=>some (g&&(x==b))
  |_=>none
def eb(env:Env)(dst:Option Nat)(g:Bool)(v:V):Env:=
 match dst with
 |none=>env
 |some d=>(d,g,v)::env
def r8(b:Bool):V:= .c (.t (.bool b))
def hb(P:Program)(o:bX)(key:Nat)(env:Env)(J:a6)(K:Env->a6->Prop):Prop:=
 match fM env o.guard with
 |none=>False
 |some g=>(g=false/\∃v,K (eb env o.dst g v) J)\/
  match o.op with
  |.call f args=>match hF env args with
   |some (p,vs)=>match o.guard with
    |none=>p/\hL P f vs J key (λr J'=>K (eb env o.dst true r) J')
    |some _=>(g=true/\p/\hL P f vs J key (λr J'=>K (eb env o.dst true r) J'))\/∃r,(g=true->p/\hL P f vs J key (λa J'=>a=r/\J'=J))/\K (eb env o.dst g r) J
   |none=>False
  |.h6 x args=>match x.get env,hF env args with
   |some (q,.c (.fn f caps)),some (p,vs)=>o.guard=none/\gL P f=true/\q/\p/\hL P f (vs++caps.map (λb=>V.c (.ptr b 0))) J key (λr J'=>K (eb env o.dst true r) J')
   |_,_=>False
  |.eqNil neg x=>match x.get env with
   |some (p,.c (.t (.slice es)))=>o.guard=none/\p/\∀b:Bool,(es≠[]->b=false)->K (eb env o.dst true (r8 (if neg then !b else b))) J
   |some (p,.c .bD)=>o.guard=none/\p/\∀b:Bool,K (eb env o.dst true (r8 (if neg then !b else b))) J
   |some (p,.c (.arr _ _ _ l))=>o.guard=none/\p/\∀b:Bool,(l≠0->b=false)->K (eb env o.dst true (r8 (if neg then !b else b))) J
   |_=>False
  |op=>match aL op env J key with
   |some (p,v,J')=>(g=true->p)/\(op.neutral=true\/g=true)/\K (eb env o.dst g v) (if op.neutral then J else J')
   |none=>False
def ke(P:Program):List bX->Nat->Env->a6->(Env->a6->Prop)->Prop
 |[],_,env,J,K=>K env J
 |o::r,key,env,J,K=>hb P o key env J λenv' J'=>ke P r (key+16) env' J' K
section
variable {P:Program}{av:Ctx}{nt:Nat}{φ:cU}{S:cR}{env:Env}{J:a6}{n:Nat->Bool}{key:Nat}{a:Act}{w:World}
theorem mJ{g:Bool}{v:V}{k:Nat}:look (eb env dst g v) k=if dst=some k then some (g,v)else look env k:=by
 unfold eb;grind[look]
theorem Rel.xy(R:Rel av nt φ S env J n a w)(o:∀d,dst=some d->d<nt){g:Bool}{x:Value}{v:V}(I:g=true->bS φ w S v x)(p:g=false->x=undef)(j:g=true->v.az n=true):
 Rel av nt φ S (eb env dst g v) J n (a.put dst x) w:=by
 have f:∀k,(a.put dst x).tmps[k]?=if dst=some k then some x else a.tmps[k]?:=by
  cases dst with
  |none=>simp[Act.put]
  |some d=>
   have aE:d<a.tmps.size:=by rw[R.size];grind
   grind[Act.put]
 refine⟨R.bB,λk c e ae al=>?_,λk c e ae al=>?_,λk c e ae al=>?_,R.dp,?_,?_,R.ext,R.own,R.fix,R.gb⟩
 . rw[mJ]at ae;rw[f];split at ae
   . grind
   . rename_i h;rw[ao h];exact R.fP k c e ae al
 . rw[mJ]at ae;rw[f];split at ae
   . grind
   . rename_i h;rw[ao h];exact R.gN k c e ae al
 . rw[mJ]at ae;split at ae
   . grind
   . exact R.fO k c e ae al
 . cases dst<;>simp[Act.put,R.size]
 . cases dst<;>simp[Act.put,R.defers]
theorem SI(R:Rel av nt φ S env J n a w){ops:Array Oper}(b:sK ops o.guard=some gd){g:Bool}(al:fM env gd=some g):Region.wanted o (yielded ops a.tmps)=g:=by
 unfold Region.wanted;cases i:o.guard with
 |none=>
  grind[sK,fM]
 |some j=>
  rw[i]at b;simp only[sK,bn]at b;obtain⟨d,f,rfl⟩:=b;simp[fM]at al;split at al
  . rename_i c x ae;simp at al;subst al;simp[yielded,f];cases e:c with
    |true=>
     obtain⟨y,ag,b⟩:=R.fP d c _ ae e;have:=b.iZ;grind
    |false=>
     have:=R.gN d c _ ae e;simp only[this];rfl
  grind
def jo(av:Ctx)(nt:Nat)(n:Nat->Bool)(K:Env->a6->Prop)(a:Act)(w:World):Prop:=∃φ S env J,K env J/\Rel av nt φ S env J n a w
theorem YK  (h:gL P f = true):∃ fn,P.funcs[f]? = some fn/\fn.body.isSome = true/\(fn.name == "runtime.NumGoroutine") = false:= by
 grind[gL]
theorem XF(h:gL P f=true)(args:Array Value)(w:World):(callFunc f args).run P w= .ok (.enter f args) w:=by
 obtain⟨fn,h1,a,b⟩:=YK h;obtain⟨c,d⟩:=zI.1 a;simp only[callFunc,Sem.run_bind,run_program,Result.andThen_ok,h1,b,d,cJ,cE,Option.isNone_some,Sem.run_pure]
theorem yk{o:cH}(h:o.neutral=true){p v J'}(a:aL o env J key=some (p,v,J')):J'=J:=by
 cases o<;>simp[cH.neutral]at h<;>simp only[aL,bf,bn]at a
 all_goals
  (try (obtain⟨a1,h1,a⟩:=a))
  (try (obtain⟨a2,b,a⟩:=a))
  (try (obtain⟨a3,c,a⟩:=a))
  (try split at a)
  (try (simp_all;done))
 all_goals repeat' (first|(cases a;done)|(cases a;rfl)|(simp only[bn]at a;obtain⟨_,_,_,_,rfl⟩:=a;rfl)|split at a)
theorem RL{ops:Array Oper}{a:bX}(h:vY P nt ops o=some a):
 wb P (Ug ops o) o.op=some a.op/\sK ops o.guard=some a.guard/\a.dst=o.dst/\∀d,a.dst=some d->d<nt:=by
 grind[vY,bf]
theorem ya{b:Bool}{op:Op}{a:cH}(h:wb P b op=some a)(c:∀e m l z ps,a≠.bsliceT e m l z ps):cZ P op=some a:=by
 grind[RV]
theorem Io{ops:Array Oper}{g:Option (Nat×Bool)}(h:sK ops o.guard=some g)(al:g=none):o.guard=none:=by
 cases a:o.guard with
 |none=>rfl
 |some x=>
  grind[sK,bn]
theorem Jv{a:cH}(h:cZ P (.alloc e)=some a)(h1:∀cs,a≠.alloc cs)(b:∀cs,a≠.allocA cs)(c:∀e e8,a≠.allocS e e8):False:=by
 grind[cZ,bf]
theorem RG{op:Op}{args:List aO}(h:cZ P op=some (.call f args)):∃c,op= .call c/\mF P c=some (.call f args):=by
 cases op with
 |call c=>exact⟨c,rfl,h⟩
 |alloc e=>exfalso;exact Jv h (by simp) (by simp) (by simp)
 |makeMap t r=>cases r<;>simp[cZ]at h
 |lookup t x i c=>cases c<;>simp[cZ,bf]at h
 |unOp u t x=>
  cases u<;>simp[cZ]at h
  all_goals (repeat' split at h)<;>(first|(done)|simp at h)
 |makeFunc fn b c=>cases fn<;>simp[cZ]at h
 |_=>
  simp only[cZ]at h
  (repeat' split at h)<;>(first|(cases h)|simp[bf,bn]at h)
theorem Rz{op:Op}{x:aO}{args:List aO}(h:cZ P op=some (.h6 x args)):∃c,op= .call c/\mF P c=some (.h6 x args):=by
 cases op with
 |call c=>exact⟨c,rfl,h⟩
 |alloc e=>exfalso;exact Jv h (by simp) (by simp) (by simp)
 |makeMap t r=>cases r<;>simp[cZ]at h
 |lookup t x i c=>cases c<;>simp[cZ,bf]at h
 |unOp u t x=>
  cases u<;>simp[cZ]at h
  all_goals (repeat' split at h)<;>(first|(done)|simp at h)
 |makeFunc fn b c=>cases fn<;>simp[cZ]at h
 |_=>
  simp only[cZ]at h
  (repeat' split at h)<;>(first|(cases h)|simp[bf,bn]at h)
theorem RH{args:List aO}(h:mF P c=some (.call f args)):c.callee= .value (.func f)/\gL P f=true/\nb c.args.toList=some args:=by
 unfold mF at h
 (repeat' split at h)<;>simp[bf]at h
 grind
theorem RA{x:aO}{args:List aO}(h:mF P c=some (.h6 x args)):∃t,x= .tmp t/\c.callee= .value (.tmp t)/\nb c.args.toList=some args:=by
 unfold mF at h
 (repeat' split at h)<;>simp[bf]at h
 grind
theorem VU{op:Op}{neg:Bool}{x:aO}(h:cZ P op=some (.eqNil neg x)):
 ∃a t y z yt e,op= .binOp a t y z yt/\(a= .eql\/a= .neq)/\neg=(a== .neq)/\P.underlying t=some (.slice e)/\Il z=true/\bz y=some x:=by
 cases op with
 |binOp a t y z yt=>
  simp[cZ]at h
  (repeat' split at h)<;>(try (done))<;>simp[bf,bn,reduceCtorEq,pN]at h
  grind
 |call c=>
  simp[cZ]at h;unfold mF at h
  (repeat' split at h)<;>(first|(done)|simp[bf]at h)
 |alloc e=>exfalso;exact Jv h (by simp) (by simp) (by simp)
 |makeMap t r=>cases r<;>simp[cZ]at h
 |lookup t x i c=>cases c<;>simp[cZ,bf]at h
 |unOp u t x=>
  cases u<;>simp[cZ]at h
  all_goals (repeat' split at h)<;>(first|(cases h;done)|simp at h)
 |makeFunc fn b c=>cases fn<;>simp[cZ]at h
 |_=>
  simp only[cZ]at h
  (repeat' split at h)<;>(first|(cases h;done)|simp[bf,bn]at h)
theorem sr(g:o.op= .call c)(d:c.callee= .value x){caps:List Value}(I:a.eval x= .func (.func f) #[] caps.toArray)(b:gL P f=true):
 (execOp a.eval o).run P w= .ok (.enter f (c.args.toList.map a.eval++caps).toArray) w:=by
 have e:(c.args.map a.eval++caps.toArray)=(c.args.toList.map a.eval++caps).toArray:=by simp
 grind[execOp,Go.resolve,Deferred.ofValue,invoke,XF]
theorem Calls.next{args:Array Value}{key:Nat}(t:dst=o.dst)(q:∀d,dst=some d->d<nt){g:Bool}(al:g=true){K2:V->a6->Prop}
 (bM:∀r s,K2 r s->K (eb env dst g r) s)
 (h:Calls P f args w λe w'=>∃v r a8 ba J',e= .returned v/\K2 r J'/\bS a8 w' ba r v/\r.az (eo n key)=true/\Rel av nt a8 ba env J' (eo n key) a w')
 (x:(execOp a.eval o).run P w= .ok (.enter f args) w):o.wp P a w (jo av nt (eo n key) K) Q:=by
 unfold Oper.wp;rw[x];refine h.mono ?_
 rintro e w' ⟨v,r,a8,ba,J',rfl,h1,c,j,p⟩
 subst t;exact⟨a8,ba,_,J',bM _ _ h1,p.xy q (λ_=>c) (λh=>by grind) (λ_=>j)⟩
theorem DE(R:Rel av nt φ S env J n a w)(aN:∀b,key<=b->b<key+16->n b=false){ops:Array Oper}{N:bX}(aa:vY P nt ops o=some N)(h:hb P N key env J K):
 if Region.wanted o (yielded ops a.tmps)then o.wp P a w (jo av nt (eo n key) K) Q else jo av nt (eo n key) K (a.put o.dst undef) w:=by
 obtain⟨h1,B,D,E⟩:=RL aa;unfold hb at h;split at h
 . grind
 . rename_i g al;have aI:=SI R B al;rw[aI];have ap:∀{v:V} {s:a6},K (eb env N.dst g v) s->s=J->g=false->jo av nt (eo n key) K (a.put o.dst undef) w:=by
    intro v s bM hs aD;subst hs;rw[<-D];exact⟨φ,S,_,_,bM,(R.more λ_ h=>lU h).xy E (λh=>by grind) (λ_=>rfl) (λh=>by grind)⟩
   rcases h with⟨aD,v,bM⟩|h
   . grind
   split at h
   ·
    rename_i f args W;rw[W]at h1;have az:∃c,o.op= .call c/\c.callee= .value (.func f)/\gL P f=true/\nb c.args.toList=some args:=by
     obtain⟨c,aO,aa⟩:=RG (ya h1 (by simp));grind[RH]
    obtain⟨c,Y,Z,F,T⟩:=az;split at h
    . rename_i p vs U;have ae:∀w':World,(execOp a.eval o).run P w= .ok (.enter f (c.args.toList.map a.eval).toArray) w:=by
       have:=sr (P:=P) (w:=w) (a:=a) Y Z (f:=f) (caps:=[]) rfl F;grind
      split at h
      . have G:g=true:=(by grind[fM]);subst G;obtain⟨ai,m⟩:=h;obtain⟨g1,g2⟩:=qH R T U ai;exact Calls.next D E rfl (λ_ _ h=>h) (m av nt φ S env n a w R aN g2 _ g1) (ae w)
      . rcases h with⟨G,ai,m⟩|⟨r,m,bM⟩
        . subst G;obtain⟨g1,g2⟩:=qH R T U ai;exact Calls.next D E rfl (λ_ _ h=>h) (m av nt φ S env n a w R aN g2 _ g1) (ae w)
        cases H:g with
        |true=>
         obtain⟨ai,m⟩:=m H;obtain⟨g1,g2⟩:=qH R T U ai;refine Calls.next (K2:=λao J'=>ao=r/\J'=J) D E H (λao s ab=>?_) (m av nt φ S env n a w R aN g2 _ g1) (ae w);grind
        |false=>
         grind
    grind
   . rename_i x args W;rw[W]at h1;obtain⟨c,Y,aa⟩:=Rz (ya h1 (by simp));obtain⟨t,rfl,Z,T⟩:=RA aa;split at h
     . rename_i q f caps p vs L U;obtain⟨u,F,aG,ai,m⟩:=h;have G:g=true:=(by grind[fM]);subst G;obtain⟨g1,g2⟩:=qH R T U ai;have I:=cc (x:= .tmp t) R rfl L aG;have aJ:=I.1.dJ;have aA:aV (bS φ w S) (caps.map λb=>V.c (.ptr b 0)) (caps.map λb=>Value.pointer (some ⟨(φ b).1,0,none⟩)):=by
        refine aV.kF (by simp) ?_;intro i v x h1 B;simp only[ru,bn]at h1 B;obtain⟨b,aw,rfl⟩:=h1;obtain⟨aM,aj,rfl⟩:=B;rw[aw]at aj;cases aj;exact .c rfl
       have aB:V.az.V.dj n (vs++caps.map λb=>V.c (.ptr b 0))=true:=by
        grind[sM,List.getElem?_append_left,mQ,List.getElem?_append_right,bn,V.az,C.az,List.all_eq_true]
       exact Calls.next D E rfl (λ_ _ h=>h) (m av nt φ S env n a w R aN aB _ (g1.append aA)) (sr Y Z aJ F)
     grind
   . rename_i neg x W;rw[W]at h1;obtain⟨O,ty,y,z,yt,e,aF,ay,rfl,ak,am,ag⟩:=VU (ya h1 (by simp));have aL:∀(b:Bool) (j:Option Addr) (l c:Nat),a.eval y= .slice j l c->j.isNone=b->(execOp a.eval o).run P w= .ok (.value (.bool (if(O== .neq)then !b else b))) w:=by
      intro b j l c k F;subst F;obtain⟨af,an,aK⟩:∃af:Value,a.eval z=af/\af= .slice none 0 0:=by
       unfold Il at am;split at am
       . exact⟨_,rfl,rfl⟩
       grind
      subst aK;have aq:(eqGuard O ty y z (a.eval y) (a.eval z)).run P w= .ok () w:=IN (by grind) (by grind);have ah:(Op.equal ty (.slice j l c) (.slice none 0 0)).run P w= .ok j.isNone w:=by
       obtain⟨d,aC⟩:∃d,Op.maxDepth=d+1:=⟨9999,rfl⟩
       unfold Op.equal;rw[aC];unfold Op.equalIn;cases j with
       |none=>simp only[Sem.run_bind,run_underlying ak,Result.andThen_ok];rfl
       |some j=>simp only[Sem.run_bind,run_underlying ak,Result.andThen_ok];rfl
      have ar:(binOp O ty (a.eval y) (a.eval z)).run P w= .ok (.bool (if(O== .neq)then !j.isNone else j.isNone)) w:=by
       rcases ay with rfl|rfl
       . rw[k,an];simp only[binOp,Sem.run_bind,ah];rfl
       . rw[k,an];simp only[binOp,Sem.run_bind,ah];rfl
      simp[execOp,aF,aq,ar]
     have M:∀ (b:Bool) (j:Option Addr) (l c:Nat),o.guard = none->a.eval y = .slice j l c->j.isNone = b->K (eb env N.dst true (r8 (if (O == .neq) then !b else b))) J->
      (if g then o.wp P a w (jo av nt (eo n key) K) Q else jo av nt (eo n key) K (a.put o.dst undef) w):=by
      intro b j l c u k F bM;have G:g=true:=by
       have:Region.wanted o (yielded ops a.tmps)=true:=(by simp[Region.wanted,u]);grind
      rw[ad G];unfold Oper.wp;rw[aL b j l c k F];show jo av nt (eo n key) K (a.put o.dst _) w;rw[<-D];exact⟨φ,S,_,_,bM,(R.more λ_ h=>lU h).xy E (λ_=>.oL _) (λh=>by cases h) (λ_=>rfl)⟩
     split at h
     . rename_i p es L;obtain⟨u,ai,bM⟩:=h;obtain⟨j,cap,sz,b,off,f,k,_,_,_,A,_⟩:=bK.jj (cc R ag L ai).1.dJ;exact M j.isNone j _ _ (Io B u) k rfl (bM _ λh=>by rw[A h];rfl)
     . rename_i p L;obtain⟨u,ai,bM⟩:=h;obtain⟨j,k⟩:=(cc R ag L ai).1.dJ;exact M j.isNone j _ _ (Io B u) k rfl (bM _)
     . rename_i p b sz off l L;obtain⟨u,ai,bM⟩:=h;obtain⟨j,k,X,aQ⟩:=bk.gn (cc R ag L ai).1.dJ;exact M j.isNone j _ _ (Io B u) k rfl (bM _ λh=>by rw[X (by omega)];rfl)
     . exact h.elim
   . rename_i Y Z aP;split at h
     . rename_i p v J' X;obtain⟨ai,A,bM⟩:=h;cases H:g with
       |true=>
        simp only[cm];obtain⟨x,a8,ba,w',hres,aH,ax,R'⟩:=ZE R h1 aN X (ai H);have au:(if N.op.neutral then J else J')=J':=by
         split
         . rename_i aE;exact(yk aE X).symm
         . rfl
        rw[au]at bM;have M:jo av nt (eo n key) K (a.put o.dst x) w':=by
         rw[<-D];exact⟨a8,ba,_,_,bM,R'.xy E (λ_=>aH) (λh=>by rw[H]at h;cases h) (λ_=>ax)⟩
        unfold Oper.wp;rcases hres with hres|⟨hres,rfl⟩
        . rw[hres];exact M
        . rw[hres];exact M
       |false=>
        simp only[cJ,cE];rcases A with A|A
        . rw[ad A]at bM;exact ap bM rfl H
        . rw[H]at A;cases A
     . exact h.elim
end
def lt(N:Nat):Nat->Bool:=λb=>decide (b<N)
theorem E2{N b:Nat}(h:eo (lt N) N b=true):lt (N+16) b=true:=by
 grind[eo,lt]
theorem yU{N b:Nat}(h:N<=b):lt N b=false:=by grind[lt]
theorem Ev{N M b:Nat}(h:N<=M)(a:lt N b=true):lt M b=true:=by grind[lt]
section
variable {P:Program}{av:Ctx}{nt kk:Nat}{φ:cU}{S:cR}{env:Env}{J:a6}{N:Nat}{a:Act}{w:World}
theorem KW{ops:Array Oper}{Q:Exit->Act->World->Prop}{K:Env->a6->Nat->Prop}:∀{l:List Oper} {aZ:List bX} {k N:Nat} {env:Env} {J:a6} {φ:cU} {S:cR} {a:Act} {w:World},gI P nt ops l=some aZ->(∀i:Nat,i<l.length->l[i]?=ops[k+i]?)->
 Rel av nt φ S env J (lt N) a w->ke P aZ N env J (λe s=>K e s (N+16*aZ.length))->(∀φ S e s N a w,K e s N->Rel av nt φ S e s (lt N) a w->Q .normal a w)->wpOps P ops Q (List.range' k l.length) a w
 |[],aZ,k,N,env,J,φ,S,a,w,c,g,R,h,f=>by
  simp[gI]at c;subst c;exact f _ _ _ _ _ _ _ h R
 |o::l,aZ,k,N,env,J,φ,S,a,w,c,g,R,h,f=>by
  simp[gI,bf,bn]at c;obtain⟨n,j,d,m,rfl⟩:=c;have p:ops[k]?=some o:=by have:=g 0 (by simp);grind
  rw[gS,CE,wpOps_cons];unfold wpOp;have hs:=DE R (λb h1 _=>yU h1) j (K:=λe s=>ke P d (N+16) e s λe s=>K e s (N+16*(d.length+1))) (by grind[ke]) (Q:=Q);have next:∀bR w',jo av nt (eo (lt N) N) (λe s=>ke P d (N+16) e s λe s=>K e s (N+16*(d.length+1))) bR w'->wpOps P ops Q (List.range' (k+1) l.length) bR w':=by
   rintro bR w' ⟨a8,ba,e,s,bM,R'⟩
   refine KW m (λi aE=>?_) (R'.more λ_ h=>E2 h) ?_ f
   . have:=g (i+1) (by grind);grind
   grind
  split at hs
  . grind[Oper.wp_mono]
  grind
def Ui(P:Program)(nt kk:Nat)(c:Code)(env:Env)(J:a6)(N:Nat)(Q:Exit->Env->a6->Nat->Prop):Prop:=
 ∀av φ S a w,av.k=kk->Rel av nt φ S env J (lt N) a w->c.wp P (λe bR w'=>∃a8 ba env' J' N',Q e env' J' N'/\Rel av nt a8 ba env' J' (lt N') bR w') a w
def ch(P:Program)(nt kk:Nat)(c:dq)(env:Env)(J:a6)(N:Nat)(Q:Exit->Env->a6->Nat->Prop):Prop:=
 ∀code,resolve P nt code=some c->Ui P nt kk code env J N Q
variable {Q ns:Exit->Env->a6->Nat->Prop}
theorem ch.mono{c:dq}(h:ch P nt kk c env J N Q)(p:∀e env J N,Q e env J N->ns e env J N):ch P nt kk c env J N ns:=
 λcode j av φ S a w o R=>wp_mono (h _ j av φ S a w o R) λe a w ⟨a8,ba,env',J',N',h1,f⟩=>⟨a8,ba,env',J',N',p _ _ _ _ h1,f⟩
theorem ch.skip(h:Q .normal env J N):ch P nt kk .skip env J N Q:=by
 intro code c av φ S a w e R;cases code<;>simp[resolve,bf]at c<;>(try (first|(cases c;done)|(obtain⟨l,_,c⟩:=c;(repeat' split at c)<;>cases c)))
 grind[wp_skip]
theorem ch.ret(h:Q .ret env J N):ch P nt kk .ret env J N Q:=by
 intro code c av φ S a w e R;cases code<;>simp[resolve,bf]at c<;>(try (first|(cases c;done)|(obtain⟨l,_,c⟩:=c;(repeat' split at c)<;>cases c)))
 grind[wp_ret]
theorem ch.exit(h:Q (.exit id) env J N):ch P nt kk (.exit id) env J N Q:=by
 intro code c av φ S a w e R;cases code<;>simp[resolve,bf]at c<;>(try (first|(cases c;done)|(obtain⟨l,_,c⟩:=c;(repeat' split at c)<;>cases c)))
 grind[wp_exit]
def andThen(next:Env->a6->Nat->Prop)(Q:Exit->Env->a6->Nat->Prop):Exit->Env->a6->Nat->Prop
 |.normal,env,J,N=>next env J N
 |e,env,J,N=>Q e env J N
theorem YL{x y:dq}(h:resolve P nt code=some (.seq x y)):∃a b,code= .seq a b/\resolve P nt a=some x/\resolve P nt b=some y:=by
 cases code with
 |seq a b=>
  simp[resolve,bf,bn]at h;grind
 |region id ops c=>
  grind[resolve,bf]
 |_=>simp[resolve,bf,bn]at h
theorem XG{c:aO}{x y:dq}(h:resolve P nt code=some (.cond c x y)):∃o a b,code= .cond o a b/\bz o=some c/\resolve P nt a=some x/\resolve P nt b=some y:=by
 cases code with
 |cond o a b=>
  simp[resolve,bf,bn]at h;grind
 |region id ops d=>
  grind[resolve,bf]
 |_=>simp[resolve,bf,bn]at h
theorem XZ{x:dq}(h:resolve P nt code=some (.block id x)):∃b,code= .block id b/\resolve P nt b=some x:=by
 cases code with
 |block i b=>
  grind[resolve,bn]
 |region id ops a=>
  grind[resolve,bf]
 |_=>simp[resolve,bf]at h
theorem XH{x:dq}(h:resolve P nt code=some (.loop x)):∃b,code= .loop b/\resolve P nt b=some x:=by
 cases code with
 |loop b=>
  grind[resolve,bn]
 |region id ops a=>
  grind[resolve,bf]
 |_=>simp[resolve,bf]at h
theorem RW(h:resolve P nt code=some (.region aZ)):∃id ops,code= .region id ops false/\gI P nt ops ops.toList=some aZ:=by
 cases code with
 |region id ops a=>
  grind[resolve,bf]
 |_=>grind[resolve,bf,bn]
theorem RM{eL:List (Nat×Nat)}(h:resolve P nt code=some (.om aZ eL)):
 ∃id ops,code= .region id ops true/\gI P nt ops ops.toList=some aZ/\tz (fg ops aZ)=true/\P.follows .mixedOrders=true/\eL=sa (fg ops aZ):=by
 cases code with
 |region id ops a=>
  grind[resolve,bf]
 |_=>grind[resolve,bf,bn]
theorem ch.seq{x y:dq}(h:ch P nt kk x env J N (andThen (λenv J N=>ch P nt kk y env J N Q) Q)):ch P nt kk (.seq x y) env J N Q:=by
 intro code j av φ S a w c R;obtain⟨o,p,rfl,I,ag⟩:=YL j;refine wp_seq (wp_mono (h _ I av φ S a w c R) ?_)
 rintro e bR w' ⟨a8,ba,env',J',N',f,R'⟩
 cases e with
 |normal=>exact f _ ag av _ ba bR w' c R'
 |_=>exact⟨a8,ba,env',J',N',f,R'⟩
theorem ch.cond{c:aO}{x y:dq}{p:Prop}{b:Bool}(j:c.get env=some (p,r8 b))(ai:p)(I:b=true->ch P nt kk x env J N Q)(ag:b=false->ch P nt kk y env J N Q):ch P nt kk (.cond c x y) env J N Q:=by
 intro code q av φ S a w e R;obtain⟨o,B,D,rfl,t,v,A⟩:=XG q;have f:=(cc R t j ai).1.iZ;refine wp_cond f ?_;cases b with
 |true=>exact I rfl _ v av φ S a w e R
 |false=>exact ag rfl _ A av φ S a w e R
def inBlock(id:Nat)(Q:Exit->Env->a6->Nat->Prop):Exit->Env->a6->Nat->Prop
 |.exit i,env,J,N=>if i=id then Q .normal env J N else Q (.exit i) env J N
 |e,env,J,N=>Q e env J N
theorem ch.block{id:Nat}{x:dq}(h:ch P nt kk x env J N (inBlock id Q)):ch P nt kk (.block id x) env J N Q:=by
 intro code f av φ S a w j R;obtain⟨b,rfl,c⟩:=XZ f;refine wp_block (wp_mono (h _ c av φ S a w j R) ?_)
 rintro e bR w' ⟨a8,ba,env',J',N',o,R'⟩
 cases e with
 |exit i=>
  grind[inBlock,Exit.inBlock]
 |_=>exact⟨a8,ba,env',J',N',o,R'⟩
theorem ch.region{aZ:List bX}(h:ke P aZ N env J (λe s=>Q .normal e s (N+16*aZ.length))):ch P nt kk (.region aZ) env J N Q:=by
 intro code f av φ S a w p R;obtain⟨id,ops,rfl,j⟩:=RW f;refine wp_region ?_;have:=KW (Q:=λe bR w'=>∃a8 ba env' J' N',Q e env' J' N'/\Rel av nt a8 ba env' J' (lt N') bR w') (k:=0) j (λi o=>by simp) R h
  (λφ S e s N a w bM c=>⟨φ,S,e,s,N,bM,c⟩)
 grind[List.range_eq_range']
end
def pos:aY->Nat->Option Nat
 |[],_=>none
 |x::r,b=>if x=b then some 0 else(pos r b).map (· +1)
theorem n0:∀{bs:aY} {b i:Nat},pos bs b=some i->bs[i]?=some b
 |[],b,i,h=>by grind[pos]
 |x::r,b,i,h=>by
  unfold pos at h;split at h
  . grind
  . simp at h;obtain⟨j,a,rfl⟩:=h;simpa using n0 a
def ph(bs:aY):aY->Option aY
 |[]=>some []
 |c::r=>match pos bs c,ph bs r with
  |some i,some l=>some (i::l)
  |_,_=>none
def C.bN(bs:aY):C->C
 |.t x=>.t x
 |.ptr b o=>match pos bs b with|some i=>.ptr i o|none=>.dead
 |.cA b sz i o=>match pos bs b with|some j=>.cA j sz i o|none=>.dead
 |.dF ts o=>.dF ts o
 |.arr b sz off len=>match pos bs b with|some i=>.arr i sz off len|none=>.dead
 |.fA b sz off len=>match pos bs b with|some i=>.fA i sz off len|none=>.dead
 |.mp b=>match pos bs b with|some i=>.mp i|none=>.dead
 |.ei b=>match pos bs b with|some i=>.ei i|none=>.dead
 |.cr b len=>match pos bs b with|some i=>.cr i len|none=>.dead
 |.bD=>.bD
 |.eQ=>.eQ
 |.eP=>.eP
 |.fn f caps=>match ph bs caps with|some l=>.fn f l|none=>.dead
 |.dead=>.dead
def V.bN(bs:aY):V->V
 |.c x=>.c (x.bN bs)
 |.agg cs=>.agg (cs.map (C.bN bs))
 |.aX vs=>.aX (go bs vs)
where go (bs:aY):List V->List V
 |[]=>[]
 |v::vs=>v.bN bs::go bs vs
def bJ.bN(bs:aY):bJ->bJ
 |.box cs=>.box (cs.map (C.bN bs))
 |.arr sz es=>.arr sz es
 |.set ks=>.set ks
 |.buf E s=>.buf E s
 |.b3 E c=>.b3 E (c.bN bs)
 |.cw sz es i o c=>.cw sz es i o (c.bN bs)
def n1(bs:aY)(env:Env):aY->Env
 |[]=>[]
 |k::ks=>match look env k with
  |some (g,v)=>(k,g,v.bN bs)::n1 bs env ks
  |none=>n1 bs env ks
def fu(bs:aY)(J:a6):Nat->aY->a6
 |_,[]=>[]
 |i,b::r=>match aR J b with
  |some x=>(i,x.bN bs)::fu bs J (i+1) r
  |none=>fu bs J (i+1) r
def keeps(k:Nat)(bs:aY):Bool:=(List.range k).all λi=>bs[i]?==some i
section
variable {P:Program}{av:Ctx}{nt kk:Nat}{φ:cU}{S:cR}{env:Env}{J:a6}{N:Nat}{n:Nat->Bool}{a:Act}{w:World}
theorem Ip:∀{bs caps l:aY},ph bs caps=some l->caps.length=l.length/\∀(i b j:Nat),caps[i]?=some b->l[i]?=some j->bs[j]?=some b
 |bs,[],l,h=>by grind[ph]
 |bs,c::r,l,h=>by
  unfold ph at h;split at h
  . rename_i j e d ae;obtain⟨h1,a⟩:=Ip ae;grind[n0]
  grind
theorem bk.bN(q:∀(i:Nat) b,bs[i]?=some b->a8 i=φ b){c:C}{v:Value}(h:bk φ w S c v):bk a8 w S (c.bN bs) v:=by
 have p:=bk.iQ h;cases c with
 |ptr b o=>
  grind[C.bN,bk,n0]
 |cA b sz i o=>
  grind[C.bN,bk,n0]
 |arr b sz off len=>
  grind[C.bN,bk,n0]
 |fA b sz off len=>
  grind[C.bN,bk,n0]
 |mp b=>
  grind[C.bN,bk,n0]
 |ei b=>
  grind[C.bN,bk,n0]
 |cr b len=>
  grind[C.bN,bk,n0]
 |fn f caps=>
  simp[C.bN];split
  . rename_i l ae;obtain⟨h1,j⟩:=Ip ae;rw[h]
    congr 2
    apply GL (by grind);intro i a e;simp at a e;simp;rw[q _ _ (j i _ _ (eC a) (eC e))]
  . exact p
 |_=>exact h
theorem DF:∀{vs:List V} {i:Nat},(V.bN.go bs vs)[i]?=(vs[i]?).map (V.bN bs)
 |[],i=>by rfl
 |v::vs,0=>by rfl
 |v::vs,i+1=>by simp[V.bN.go,DF]
theorem Da:∀{vs:List V},(V.bN.go bs vs).length=vs.length
 |[]=>rfl
 |v::vs=>by simp[V.bN.go,Da]
theorem aV.pL{c e:Type}{R:α->c->Prop}{R':e->c->Prop}{f:α->e}{l:List α}{m:List c}(h:aV R l m)(k:∀a b,R a b->R' (f a) b):aV R' (l.map f) m:=by
 induction h with
 |nil=>exact .nil
 |cons j _ ih=>exact .cons (k _ _ j) ih
theorem bS.bN(a:∀(i:Nat) b,bs[i]?=some b->a8 i=φ b){v:V}{x:Value}(h:bS φ w S v x):bS a8 w S (v.bN bs) x:=by
 induction h with
 |c h=>exact .c (bk.bN a h)
 |agg h=>exact .agg (h.pL λ_ _=>bk.bN a)
 |aX vs xs ae h ih=>
  refine .aX _ xs (by grind[Da]) ?_;grind[DF]
theorem tB{b i:Nat}(h:pos bs b=some i):i<bs.length:=(dH.1 (n0 h)).1
theorem C.jJ(c:C):(c.bN bs).az (lt bs.length)=true:=by
 cases c with
 |ptr b o=>grind[C.bN,C.az,lt,tB]
 |cA b sz i o=>grind[C.bN,C.az,lt,tB]
 |arr b sz off len=>grind[C.bN,C.az,lt,tB]
 |fA b sz off len=>grind[C.bN,C.az,lt,tB]
 |mp b=>grind[C.bN,C.az,lt,tB]
 |ei b=>grind[C.bN,C.az,lt,tB]
 |cr b len=>grind[C.bN,C.az,lt,tB]
 |fn f caps=>
  simp[C.bN];split
  . rename_i l ae;obtain⟨h1,a⟩:=Ip ae;simp[C.az,lt];intro j p;obtain⟨i,e,rfl⟩:=gQ p;exact(dH.1 (a i _ _ (eC (by omega)) (eC e))).1
  rfl
 |_=>rfl
theorem V.jJ{bs:aY}:∀(v:V),(v.bN bs).az (lt bs.length)=true
 |.c x=>by grind[V.bN,V.az,C.jJ]
 |.agg cs=>by grind[V.bN,V.az,C.jJ]
 |.aX vs=>by exact go vs
where go:∀vs,V.az.V.dj _ (V.bN.go bs vs)=true
 |[]=>rfl
 |v::vs=>by simp[V.bN.go,V.az.V.dj,cK];exact⟨V.jJ v,go vs⟩
theorem yK:∀{ks:aY} {k:Nat} {g:Bool} {v:V},look (n1 bs env ks) k=some (g,v)->∃v0,look env k=some (g,v0)/\v=v0.bN bs
 |[],k,g,v,h=>by grind[n1,look]
 |x::ks,k,g,v,h=>by
  unfold n1 at h;split at h
  . unfold look at h;split at h
    . grind
    . exact yK h
  . exact yK h
theorem px:∀{r:aY} {i:Nat} {b:Nat} {x:bJ},aR (fu bs J i r) b=some x->∃j c g,b=i+j/\r[j]?=some c/\aR J c=some g/\x=g.bN bs
 |[],i,b,x,h=>by grind[fu,aR]
 |c::r,i,b,x,h=>by
  unfold fu at h;split at h
  . unfold aR at h;split at h
    . simp_all
    . obtain⟨j,a,f,h1,k,d,e⟩:=px h;exact⟨j+1,a,f,by omega,by grind,d,e⟩
  . obtain⟨j,a,f,h1,k,d,e⟩:=px h;exact⟨j+1,a,f,by omega,by grind,d,e⟩
theorem cQ.bN(a:∀(i:Nat) b,bs[i]?=some b->a8 i=φ b){i b:Nat}(e:bs[i]?=some b){x:bJ}(h:cQ φ w S b x):cQ a8 w S i (x.bN bs):=by
 cases x with
 |box cs=>
  obtain⟨h0,vs,E,h1,f,j⟩:=h;simp only[cQ,a i b e];exact⟨h0,vs,E,h1,f.pL λ_ _=>bk.bN a,j⟩
 |arr sz es=>simp only[cQ,a i b e];exact h
 |set ks=>simp only[cQ,a i b e];exact h
 |buf E s=>grind[bJ.bN,cQ]
 |b3 E c=>
  grind[bJ.bN,cQ,bk.bN]
 |cw sz es i o c=>
  grind[bJ.bN,cQ,bk.bN]
theorem Rel.tidy(R:Rel av nt φ S env J (lt N) a w)(ks bs:aY)(bV:bs.Nodup)(L:keeps av.k bs=true):
 ∃a8,Rel av nt a8 S (n1 bs env ks) (fu bs J 0 bs) (lt bs.length) a w:=by
 have G:∀(i:Nat) b,bs[i]?=some b->(λi=>φ ((bs[i]?).getD 0)) i=φ b:=by grind
 have F:∀i:Nat,i<av.k->bs[i]?=some i:=by
  simp_all[keeps,e',List.mem_range,iB]
 refine⟨λi=>φ ((bs[i]?).getD 0),⟨⟨λb x I=>?_,λb K x y I ag M h0 t=>?_,R.bB.st⟩,λk g v ae al=>?_,λk g v ae al=>?_,λk g v ae al=>?_,λb x I=>?_,R.size,R.defers,R.ext,λb x I h0=>?_,λb q=>?_,λb q=>?_⟩⟩
 . obtain⟨j,c,e,rfl,f,p,rfl⟩:=px I;rw[gx];exact cQ.bN G f (R.bB.blk c e p)
 . obtain⟨j,c,e,rfl,f,p,rfl⟩:=px I;obtain⟨P,A,H,rfl,B,D,rfl⟩:=px ag;simp only[gx,f,B]at h0 t⊢;refine R.bB.inj c A e H p D ?_ h0 t;grind[List.getElem?_eq_some_iff,List.pairwise_iff_getElem,Nat.lt_trichotomy]
 . obtain⟨v0,h1,rfl⟩:=yK ae;obtain⟨x,I,O⟩:=R.fP k g v0 h1 al;grind[bS.bN]
 . obtain⟨v0,h1,rfl⟩:=yK ae;exact R.gN k g v0 h1 al
 . grind[yK,V.jJ]
 . obtain⟨j,c,e,rfl,f,p,rfl⟩:=px I;refine⟨by grind[lt,List.getElem?_eq_some_iff],?_⟩;cases e with
   |box cs=>grind[bJ.bN,bJ.az,List.all_map,List.all_eq_true,C.jJ]
   |arr sz es=>rfl
   |set ks=>rfl
   |buf E s=>rfl
   |b3 E c=>exact C.jJ c
   |cw sz es i o c=>exact C.jJ c
 . obtain⟨j,c,e,rfl,f,p,rfl⟩:=px I;simp only[gx,f]at h0⊢;exact R.own c e p h0
 . simp only[F b q,CF];exact R.fix b q
 . simp only[lt,e9];grind
theorem ch.tidy{c:dq}{Q:Exit->Env->a6->Nat->Prop}(ks bs:aY)(bV:bs.Nodup)(f:keeps kk bs=true)(h:ch P nt kk c (n1 bs env ks) (fu bs J 0 bs) bs.length Q):ch P nt kk c env J N Q:=by
 intro code e av φ S a w j R;subst j;obtain⟨a8,R'⟩:=R.tidy ks bs bV f;exact h _ e av _ S a w rfl R'
end
def cut(es:List (List T))(off len:Nat):List (List T):=if off=0/\len=es.length then es else(es.drop off).take len
def C.cb(b0 a:Nat)(es:List (List T)):C->C
 |.arr b sz off len=>if b=b0 then(if sz=a/\off+len<=es.length then .t (.slice (cut es off len))else .dead)else .arr b sz off len
 |.cA b sz i o=>if b=b0 then .dead else .cA b sz i o
 |c=>c
def V.cb(b0 a:Nat)(es:List (List T)):V->V
 |.c x=>.c (x.cb b0 a es)
 |.agg cs=>.agg (cs.map (C.cb b0 a es))
 |.aX vs=>.aX (go b0 a es vs)
where go (b0 a:Nat) (es:List (List T)):List V->List V
 |[]=>[]
 |v::vs=>v.cb b0 a es::go b0 a es vs
def bJ.cb(b0 a:Nat)(es:List (List T)):bJ->bJ
 |.box cs=>.box (cs.map (C.cb b0 a es))
 |.arr sz l=>.arr sz l
 |.set ks=>.set ks
 |.buf E s=>.buf E s
 |.b3 E c=>.b3 E (c.cb b0 a es)
 |.cw sz l i o c=>.cw sz l i o (c.cb b0 a es)
def qZ(b0 a:Nat)(es:List (List T)):Env->Env
 |[]=>[]
 |(k,g,v)::r=>(k,g,v.cb b0 a es)::qZ b0 a es r
def mW(b0 a:Nat)(es:List (List T)):a6->a6
 |[]=>[]
 |(k,x)::r=>if k=b0 then mW b0 a es r else(k,x.cb b0 a es)::mW b0 a es r
variable{vs:List V}
section
variable {P:Program}{av:Ctx}{nt kk:Nat}{φ:cU}{S:cR}{env:Env}{J:a6}{N:Nat}{n:Nat->Bool}{a:Act}{w:World}
theorem yx{a:Nat}:∀{env:Env} {k:Nat},look (qZ b0 a es env) k=(look env k).map λx=>(x.1,x.2.cb b0 a es)
 |[],k=>rfl
 |(i,g,v)::r,k=>by
  simp[qZ,look];split
  . rfl
  . exact yx
theorem Ef{b:Nat}:∀{J:a6} {k:Nat},aR (mW b0 b es J) k=if k=b0 then none else(aR J k).map (bJ.cb b0 b es)
 |[],k=>by simp[mW,aR]
 |(i,x)::r,k=>by
  simp[mW,aR];by_cases h:i=b0
  . rw[ad h,Ef];grind
  . rw[ao h];simp[aR];by_cases a:i=k
    . grind
    . rw[ao a,ao a,Ef]
def vv(S:cR)(q:Nat×Nat):cR:=λb j=>S b j\/(q.2≠0/\b=q.1)
theorem abJ{len:Nat}{e:List T}(h:e∈cut es off len):e∈es:=by
 grind[cut]
theorem abK{len i:Nat}{e:List T}(a:off+len<=es.length)(h:(cut es off len)[i]?=some e):es[off+i]?=some e/\i<len:=by
 grind[cut]
theorem ZF{len:Nat}(a:off+len<=es.length):(cut es off len).length=len:=by
 grind[cut]
theorem bk.cb{b0 x:Nat}{es:List (List T)}(c9:cQ φ w S b0 (.arr x es)){c:C}{v:Value}(h:bk φ w S c v):bk φ w (vv S (φ b0)) (c.cb b0 x es) v:=by
 have m:fY w S w (vv S (φ b0)):=⟨λ_ _ h=>.inl h,λ_ _ _=>rfl⟩
 have q:=bk.iQ h;cases c with
 |arr b sz off len=>
  simp[C.cb];by_cases f:b=b0
  . subst f;rw[ad rfl];split
    . rename_i B;obtain⟨rfl,p⟩:=B;obtain⟨h1,J,y,K,bj⟩:=c9;obtain⟨a,rfl,A,M⟩:=bk.gn h;have ae:=ZF p;have aC:Value.slice a len ((φ b).2-off)=Value.slice a (cut es off len).length ((φ b).2-off):=(by grind);rw[aC];by_cases h0:(φ b).2=0
      . have:cut es off len=[]:=kz (by omega);rw[this];exact bK.slice [] _ _ 0 0 0 (λ_ _=>undef) (by simp) (by simp) (by simp) (by simp) (by simp) (by simp)
      . obtain⟨vs,E,ab,N,G,hs⟩:=bj h0;refine bK.slice _ _ _ sz _ _ (λi j=>(vs.getD ((off+i)*sz+j) undef)) (by omega) (by omega) (λe he=>y e (abJ he)) (λ_=>A h0) ?_ ?_
        . intro i j F L;refine⟨.inr ⟨h0,rfl⟩,?_⟩;rw[iq ab];have aE:(off+i)*sz+j<vs.length:=by
           have:=eM sz (show off+i+1<=(φ b).2 by omega);grind
          grind
        . intro i j e t he ht;obtain⟨D,F⟩:=abK p he;obtain⟨v,I,H⟩:=G _ _ _ _ D ht;simp[List.getD,I];exact bK.mono m H
    . exact q
  . rw[ao f];exact bk.mono m (λ_ _=>rfl) (C.mw _) h
 |cA b sz i o=>
  simp[C.cb];split
  . exact q
  . exact h
 |_=>exact bk.mono m (λ_ _=>rfl) (C.mw _) h
theorem Iq{a:Nat}:∀{vs:List V} {i:Nat},(V.cb.go b0 a es vs)[i]?=(vs[i]?).map (V.cb b0 a es)
 |[],i=>by rfl
 |v::vs,0=>by rfl
 |v::vs,i+1=>by simp[V.cb.go,Iq]
theorem HA{a:Nat}:∀{vs:List V},(V.cb.go b0 a es vs).length=vs.length
 |[]=>rfl
 |v::vs=>by simp[V.cb.go,HA]
theorem bS.cb{a:Nat}(c9:cQ φ w S b0 (.arr a es)){v:V}{x:Value}(h:bS φ w S v x):bS φ w (vv S (φ b0)) (v.cb b0 a es) x:=by
 induction h with
 |c h=>exact .c (bk.cb c9 h)
 |agg h=>exact .agg (h.pL λ_ _=>bk.cb c9)
 |aX vs xs ae h ih=>
  refine .aX _ xs (by grind[HA]) ?_;grind[Iq]
theorem C.qi{a:Nat}{c:C}(h:c.az n=true):(c.cb b0 a es).az n=true:=by
 cases c with
 |arr b sz off len=>simp[C.cb];split;split;rfl;rfl;grind
 |cA b sz i o=>simp[C.cb];split;rfl;grind
 |_=>exact h
theorem V.qi{b0 a:Nat}{es:List (List T)}:∀{v:V},v.az n=true->(v.cb b0 a es).az n=true
 |.c x,h=>by grind[V.cb,V.az,C.qi]
 |.agg cs,h=>by grind[V.cb,V.az,C.qi]
 |.aX vs,h=>by exact go vs h
where go:∀vs,V.az.V.dj n vs=true->V.az.V.dj n (V.cb.go b0 a es vs)=true
 |[],_=>rfl
 |v::vs,h=>by simp[V.cb.go,V.az.V.dj,cK]at h⊢;exact⟨V.qi h.1,go vs h.2⟩
theorem Rel.freeze(R:Rel av nt φ S env J n a w){O:Nat}(Q:aR J b0=some (.arr O es)):
 Rel av nt φ (vv S (φ b0)) (qZ b0 O es env) (mW b0 O es J) n a w:=by
 have c9:=R.bB.blk b0 _ Q;have m:fY w S w (vv S (φ b0)):=⟨λ_ _ h=>.inl h,λ_ _ _=>rfl⟩
 have N:∀b x,aR (mW b0 O es J) b=some x->b≠b0/\∃A,aR J b=some A/\x=A.cb b0 O es:=by
  grind[Ef,bn]
 have M:∀b x,b≠b0->aR J b=some x->(φ b).2≠0->∀j,¬vv S (φ b0) (φ b).1 j:=by
  intro b x D I h0 j f;rcases f with f|⟨K,f⟩
  . exact(R.bB.blk b x I).pM h0 j f
  . exact R.bB.inj b b0 x _ I Q D h0 K f
 refine⟨⟨λb x I=>?_,λb U x y I ag D h0 X=>?_,λb j f=>?_⟩,λk g v ae al=>?_,λk g v ae al=>?_,λk g v ae al=>?_,λb x I=>?_,R.size,R.defers,?_,λb x I h0=>?_,R.fix,R.gb⟩
 . obtain⟨D,A,q,rfl⟩:=N b x I;have B:=R.bB.blk b A q;cases A with
   |box cs=>
    obtain⟨h0,vs,E,h1,F,G⟩:=B;exact⟨h0,vs,E,h1,F.pL λ_ _=>bk.cb c9,M b _ D q h0⟩
   |arr sz l=>
    obtain⟨h1,F,G,P,bj⟩:=B;refine⟨h1,F,G,P,λh0=>?_⟩;grind[bK.mono]
   |set ks=>exact⟨B.1,B.2.1,M b _ D q B.1⟩
   |buf E s=>exact⟨B.1,B.2.1,λh0=>⟨(B.2.2 h0).1,M b _ D q h0⟩⟩
   |b3 E c=>
    obtain⟨h0,⟨p,v,h1,F,G⟩,P⟩:=B;exact⟨h0,⟨p,v,h1,F,bk.cb c9 G⟩,M b _ D q h0⟩
   |cw sz l i o c=>
    obtain⟨⟨h1,F,G,P,bj,Y⟩,⟨vs,E,k1,k2,k3,v,k4,k5⟩,k6⟩:=B;exact⟨⟨h1,F,G,P,bj,Y⟩,⟨vs,E,k1,k2,λi j e t he ht aN=>let⟨v,Z,W⟩:=k3 i j e t he ht aN;⟨v,Z,bK.mono m W⟩,v,k4,bk.cb c9 k5⟩,M b _ D q (by omega)⟩
 . obtain⟨_,A,q,rfl⟩:=N b x I;obtain⟨_,an,am,rfl⟩:=N U y ag;exact R.bB.inj b U A an q am D h0 X
 . rcases f with f|⟨K,rfl⟩
   . exact R.bB.st b j f
   . exact c9.jh K
 . rw[yx,bn]at ae;obtain⟨⟨H,v0⟩,L,he⟩:=ae;cases he;obtain⟨x,I,W⟩:=R.fP k H v0 L al;grind[bS.cb]
 . rw[yx,bn]at ae;obtain⟨⟨H,v0⟩,L,he⟩:=ae;cases he;exact R.gN k H v0 L al
 . rw[yx,bn]at ae;obtain⟨⟨H,v0⟩,L,he⟩:=ae;cases he;exact V.qi (R.fO k H v0 L al)
 . obtain⟨_,A,q,rfl⟩:=N b x I;refine⟨(R.dp b A q).1,?_⟩;have:=(R.dp b A q).2;cases A with
   |box cs=>grind[bJ.cb,bJ.az,List.all_map,List.all_eq_true,C.qi]
   |arr sz l=>rfl
   |set ks=>rfl
   |buf E s=>rfl
   |b3 E c=>grind[bJ.cb,bJ.az,C.qi]
   |cw sz l i o c=>grind[bJ.cb,bJ.az,C.qi]
 . refine⟨R.ext.os,R.ext.tape,R.ext.output,R.ext.size,R.ext.block,R.ext.mono.trans m,λb j f=>?_⟩;rcases f with f|⟨K,rfl⟩
   . exact R.ext.kH b j f
   . rcases R.own b0 _ Q K with h|h
     all_goals grind
 . obtain⟨_,A,q,rfl⟩:=N b x I;exact R.own b A q h0
theorem ch.freeze{c:dq}{Q:Exit->Env->a6->Nat->Prop}(b0:Nat){e:Nat}(f:aR J b0=some (.arr e es))(h:ch P nt kk c (qZ b0 e es env) (mW b0 e es J) N Q):ch P nt kk c env J N Q:=by
 intro code j av φ S a w o R;exact h _ j av φ _ a w o (R.freeze f)
inductive iV where
 |tmp (t:Nat)
 |cell (t:Nat)(agg:Bool)(n:Nat)
def h2(P:Program):List ResultVar->Option (List iV)
 |[]=>some []
 |.tmp t::r=>(h2 P r).map (.tmp t::·)
 |.cell a ty::r=>(mO P ty).bind λg=>(h2 P r).map (.cell a g.1 g.2::·)
def tC(env:Env)(J:a6):iV->Option (Prop×V)
 |.tmp t=>(look env t).map λx=>(x.1=true,x.2)
 |.cell t g k=>match look env t with
  |some (a,.c (.ptr b o))=>match aR J b with
   |some (.box cs)=>(jd g k cs o).map λv=>(a=true,v)
   |_=>none
  |_=>none
def pj(env:Env)(J:a6):List iV->Option (Prop×List V)
 |[]=>some (True,[])
 |r::a=>(tC env J r).bind λx=>(pj env J a).map λy=>(x.1/\y.1,x.2::y.2)
def ma:List V->V
 |[v]=>v
 |vs=>.aX vs
def d'(P:Program)(f:Nat)(args:List V)(J:a6)(k:Nat)(Q:V->a6->Nat->Prop):Prop:=
 ∀(φ:cU) (S:cR) (w:World) (B:Nat->Prop),oJ φ w S J->(∀(b:Nat) x,aR J b=some x->b<k/\x.az (lt k)=true)->(∀(b:Nat) x,aR J b=some x->(φ b).2≠0->B (φ b).1)->
  V.az.V.dj (lt k) args=true->∀vs:List Value,aV (bS φ w S) args vs->
  Calls P f vs.toArray w λe w'=>∃v r a8 ba J' N',e= .returned v/\Q r J' N'/\bS a8 w' ba r v/\r.az (lt N')=true/\oJ a8 w' ba J'/\(∀(b:Nat) x,aR J' b=some x->b<N'/\x.az (lt N')=true)/\Ext B S ba w w'/\
   (∀(b:Nat) x,aR J' b=some x->(a8 b).2≠0->B (a8 b).1\/w.heap.size<=(a8 b).1)/\∀b,b<k->a8 b=φ b
theorem Ext.refl{B:Nat->Prop}:Ext B S S w w:=⟨rfl,rfl,rfl,eB _,λ_ _ _=>rfl,fY.refl _ _,λ_ _ h=>.inl h⟩
def e6:Nat->List V->Env
 |_,[]=>[]
 |i,v::vs=>(i,true,v)::e6 (i+1) vs
theorem sU:∀{vs:List V} {i k:Nat} {g:Bool} {v:V},look (e6 i vs) k=some (g,v)->g=true/\∃j,k=i+j/\vs[j]?=some v
 |[],i,k,g,v,h=>by grind[e6,look]
 |x::vs,i,k,g,v,h=>by
  simp[e6,look]at h;split at h
  . simp_all
  . obtain⟨h1,j,a,b⟩:=sU h;exact⟨h1,j+1,by omega,by grind⟩
def tZ(a:Act):ResultVar->Sem Value
 |.tmp t=>Pure.pure (a.tmps.getD t undef)
 |.cell b ty=>do loadVar ty (<-asAddr (a.tmps.getD b undef))
theorem Ir(fn:Func)(a:Act):results fn a.tmps=(fn.results.mapM (tZ a)>>=λvs=>Pure.pure (if h:vs.size=1 then vs[0]else .tuple vs)):=by rfl
theorem XI(R:Rel av nt φ S env J n a w){e:ResultVar}{f:iV}(c:h2 P [e]=some [f]){p:Prop}{v:V}(h:tC env J f=some (p,v))(ai:p):
 ∃x,(tZ a e).run P w= .ok x w/\bS φ w S v x/\v.az n=true:=by
 cases e with
 |tmp t=>
  simp[h2]at c;subst c;simp only[tC,bn]at h;obtain⟨⟨g,v0⟩,ae,rfl,rfl⟩:=h;obtain⟨x,I,d⟩:=R.fP t g v0 ae ai;refine⟨x,?_,d,R.fO t g v0 ae ai⟩;simp[tZ,I]
 |cell k ty=>
  simp only[h2,bf,bn]at c;obtain⟨g,al,l,ae,he⟩:=c;simp at ae;subst ae;simp at he;subst he;simp[tC]at h;split at h
  . rename_i m b o ae;split at h
    . rename_i cs i;simp only[bn]at h;obtain⟨v0,r,rfl,rfl⟩:=h;obtain⟨x,I,d⟩:=R.fP k m _ ae ai;have:=d.gT;obtain⟨_,vs,E,ab,q,_⟩:=R.bB.blk _ _ i;obtain⟨y,ag,h1,s⟩:=qR al q (R.dp _ _ i).2 (λj _=>by rw[iq ab,gx]) r;simp_all[tZ,asAddr]
    grind
  grind
theorem S2(R:Rel av nt φ S env J n a w):∀{c:List ResultVar} {b:List iV} {p:Prop} {vs:List V},h2 P c=some b->pj env J b=some (p,vs)->p->
 ∃xs:List Value,(c.mapM (tZ a)).run P w= .ok xs w/\aV (bS φ w S) vs xs/\V.az.V.dj n vs=true
 |[],b,p,vs,f,h,ai=>by
  simp[h2]at f;subst f;obtain⟨_,rfl⟩:=h;exact⟨[],by rfl,.nil,rfl⟩
 |g::c,b,p,vs,f,h,ai=>by
  have l:∃d e,b=d::e/\h2 P [g]=some [d]/\h2 P c=some e:=by
   cases g with
   |tmp t=>
    grind[h2,bn]
   |cell r ty=>
    grind[h2,bf,bn]
  obtain⟨d,e,rfl,h1,i⟩:=l;simp only[pj,bf,bn]at h;obtain⟨⟨q,v⟩,j,⟨z,A⟩,k,he⟩:=h;obtain⟨rfl,rfl⟩:=he;obtain⟨x,I,m,s⟩:=XI R h1 j ai.1;obtain⟨xs,y,o,u⟩:=S2 R i k ai.2;refine⟨x::xs,?_,.cons m o,by grind[V.az.V.dj]⟩;simp_all
theorem bS.ma{xs:List Value}(h:aV (bS φ w S) vs xs):bS φ w S (ma vs) (if h:xs.toArray.size=1 then xs.toArray[0]else .tuple xs.toArray):=by
 cases h with
 |nil=>exact .aX [] [] rfl (by simp)
 |cons h1 a=>
  cases a with
  |nil=>grind[Shv.ma]
  |cons a c=>
   refine .aX _ _ (by simp[c.length]) ?_;intro i v x e I;have:=(aV.cons h1 (.cons a c)).get e;grind
theorem aaT(h:V.az.V.dj n vs=true):(ma vs).az n=true:=by
 unfold ma;grind[V.az.V.dj,V.az]
def Fz(a:List iV)(Q:V->a6->Nat->Prop):Exit->Env->a6->Nat->Prop
 |.normal,env,J,N=>∃p vs,pj env J a=some (p,vs)/\p/\Q (ma vs) J N
 |.ret,env,J,N=>∃p vs,pj env J a=some (p,vs)/\p/\Q (ma vs) J N
 |_,_,_,_=>False
theorem d'.GN{fn:Func}{c:dq}{A:List iV}(U:P.funcs[f]?=some fn)(G:fn.body=some code)(O:resolve P fn.ntmps code=some c)(H:h2 P fn.results.toList=some A)
 {args:List V}(aN:args.length<=fn.ntmps){k:Nat}{Q:V->a6->Nat->Prop}(h:ch P fn.ntmps k c (e6 0 args) J k (Fz A Q)):d' P f args J k Q:=by
 intro φ S w B Z an X am vs K;have ae:=K.length;refine calls_of_wp U G ?_;have R:Rel ⟨w,S,B,φ,k⟩ fn.ntmps φ S (e6 0 args) J (lt k) {tmps:=vs.toArray++Array.replicate (fn.ntmps-vs.toArray.size) undef,defers:=[]} w:=by
  refine⟨Z,λi g v D al=>?_,λi g v D al=>?_,λi g v D al=>?_,λb x I=>?_,?_,rfl,Ext.refl,λb x I h0=>.inl (X b x I h0),λ_ _=>rfl,λb G=>by grind[lt]⟩
  . obtain⟨_,j,rfl,W⟩:=sU D;obtain⟨x,I,H⟩:=K.get W;grind
  . grind[sU]
  . grind[sU,mQ]
  . grind[lt]
  grind
 refine wp_mono (h _ O _ φ S _ w rfl R) ?_
 rintro e bR w' ⟨a8,ba,env',J',N',a,R'⟩
 have E:(∃ p vs,pj env' J' A = some (p,vs)/\p/\Q (ma vs) J' N')->bR.defers = []/\∃ v,(results fn bR.tmps).run P w' = .ok v w'/\(∃ L r o y q t,Ending.returned v = .returned L/\Q r q t/\bS o w' y r L/\r.az (lt t) = true/\oJ o w' y q/\(∀ (b:Nat) x,aR q b = some x->b<t/\x.az (lt t) = true)/\Ext B S y w w'/\
  (∀(b:Nat) x,aR q b=some x->(o b).2≠0->B (o b).1\/w.heap.size<=(o b).1)/\∀b,b<k->o b=φ b):=by
  rintro ⟨p,ag,h1,F,M⟩
  obtain⟨xs,ap,Y,N⟩:=S2 R' H h1 F;refine⟨R'.defers,_,?_,_,ma ag,a8,ba,J',N',rfl,M,bS.ma Y,aaT N,R'.bB,λb x I=>?_,R'.ext,R'.own,R'.fix⟩
  . simp_all[Array.mapM_eq_mapM_toList,Ir]
  . obtain⟨h1,F⟩:=R'.dp b x I;grind[lt]
 cases e with
 |normal=>exact E a
 |ret=>exact E a
 |exit id=>exact a.elim
 |goto l=>exact a.elim
 |panic kX=>exact a.elim
 |outgrown=>exact a.elim
end
end
open Go
def C.sh(k:Nat):C->C
 |.ptr b o=>.ptr (k+b) o
 |.cA b sz i o=>.cA (k+b) sz i o
 |.arr b sz off len=>.arr (k+b) sz off len
 |.fA b sz off len=>.fA (k+b) sz off len
 |.mp b=>.mp (k+b)
 |.ei b=>.ei (k+b)
 |.cr b len=>.cr (k+b) len
 |.fn f caps=>.fn f (caps.map (k+·))
 |c=>c
def V.sh(k:Nat):V->V
 |.c x=>.c (x.sh k)
 |.agg cs=>.agg (cs.map (C.sh k))
 |.aX vs=>.aX (go k vs)
where go (k:Nat):List V->List V
 |[]=>[]
 |v::vs=>v.sh k::go k vs
def bJ.sh(k:Nat):bJ->bJ
 |.box cs=>.box (cs.map (C.sh k))
 |.arr sz es=>.arr sz es
 |.set ks=>.set ks
 |.buf E s=>.buf E s
 |.b3 E c=>.b3 E (c.sh k)
 |.cw sz es i o c=>.cw sz es i o (c.sh k)
def mv(J:a6)(k:Nat):a6->a6
 |[]=>J
 |(b,x)::r=>cW (mv J k r) (k+b) (x.sh k)
variable{J:a6}{K:V->a6->Prop}{f:Nat}{a8:cU}{Q:V->a6->Nat->Prop}
theorem yB{k:Nat}:∀{a:a6} {b:Nat},aR (mv J k a) b=match (if k<=b then aR a (b-k)else none)with|some x=>some (x.sh k)|none=>aR J b
 |[],b=>by simp[mv,aR]
 |(c,x)::r,b=>by
  simp[mv,cS,yB,aR];grind
section
variable {P:Program}{av:Ctx}{nt kk:Nat}{φ:cU}{S ba:cR}{env:Env}{J:a6}{N key:Nat}{n:Nat->Bool}{a:Act}{w w':World}
theorem hL.QT{args:List V}{r:V}(h:d' P f args [] 0 (λc _ _=>c=r))(p:V.az.V.dj (lt 0) args=true)(j:r.az (lt 0)=true)(bM:K r J):hL P f args J key K:=by
 intro av nt φ S env n a w R aN F vs q;refine(h φ S w (λ_=>False) ⟨λb x I=>by grind[aR],λb t x y I=>by grind[aR],R.bB.st⟩ (λb x I=>by grind[aR]) (λb x I=>by grind[aR]) p vs q).mono ?_
 rintro e w' ⟨v,c,a8,ba,J',N',rfl,rfl,h1,A,o,B,bj,D,E⟩
 refine⟨v,c,φ,ba,J,rfl,bM,?_,V.hh (λb h=>by grind[lt]) j,(R.extend bj o.st).more λ_ h=>lU h⟩;exact bS.mono (fY.refl _ _) (λb h=>by grind[lt]) j h1
theorem bk.sh{k:Nat}{n:Nat->Bool}(e:∀b,n b=true->a8 (k+b)=φ b){c:C}{v:Value}(a:c.az n=true)(h:bk φ w S c v):bk a8 w S (c.sh k) v:=by
 cases c with
 |ptr b o=>grind[C.az,C.sh,bk]
 |cA b sz i o=>grind[C.az,C.sh,bk]
 |arr b sz off len=>grind[C.az,C.sh,bk]
 |fA b sz off len=>grind[C.az,C.sh,bk]
 |mp b=>grind[C.az,C.sh,bk]
 |ei b=>grind[C.az,C.sh,bk]
 |cr b len=>grind[C.az,C.sh,bk]
 |fn f caps=>
  simp_all[C.az,C.sh,bk]
 |_=>exact h
theorem KX{k:Nat}:∀{vs:List V} {i:Nat},(V.sh.go k vs)[i]?=(vs[i]?).map (V.sh k)
 |[],i=>by rfl
 |v::vs,0=>by rfl
 |v::vs,i+1=>by simp[V.sh.go,KX]
theorem S3{k:Nat}:∀{vs:List V},(V.sh.go k vs).length=vs.length
 |[]=>rfl
 |v::vs=>by simp[V.sh.go,S3]
theorem bS.sh{k:Nat}{n:Nat->Bool}(e:∀b,n b=true->a8 (k+b)=φ b){v:V}{x:Value}(a:v.az n=true)(h:bS φ w S v x):bS a8 w S (v.sh k) x:=by
 induction h with
 |c h=>exact .c (bk.sh e (by grind[V.az]) h)
 | @agg cs vs h=>
  simp[V.az]at a;refine .agg ?_;have:=h.imp λc v f j=>bk.sh e (a c f) j;exact this.pL λ_ _ h=>h
 |aX vs xs ae h ih=>
  refine .aX _ xs (by grind[S3]) ?_;grind[KX,mQ,V.az]
theorem C.rG{m:Nat}(a:m<=16){c:C}(h:c.az (lt m)=true):(c.sh key).az (eo n key)=true:=by
 cases c<;>simp[C.sh,C.az,lt,eo]at h⊢
 all_goals grind
theorem V.rG{m:Nat}(a:m<=16):∀{v:V},v.az (lt m)=true->(v.sh key).az (eo n key)=true
 |.c x,h=>by grind[V.sh,V.az,C.rG]
 |.agg cs,h=>by grind[V.sh,V.az,C.rG]
 |.aX vs,h=>by exact go vs h
where go:∀vs,V.az.V.dj (lt m) vs=true->V.az.V.dj _ (V.sh.go _ vs)=true
 |[],_=>rfl
 |v::vs,h=>by simp[V.sh.go,V.az.V.dj,cK]at h⊢;exact⟨V.rG a h.1,go vs h.2⟩
theorem hL.agk{args:List V}(h:d' P f args [] 0 Q)(F:V.az.V.dj (lt 0) args=true)
 (bM:∀r J' N',Q r J' N'->N'<=16/\K (r.sh key) (mv J key J')):hL P f args J key K:=by
 intro av nt φ S env n a w R aN a5 vs a1;refine(h φ S w (λ_=>False) ⟨λb x I=>by grind[aR],λb H x y I=>by grind[aR],R.bB.st⟩ (λb x I=>by grind[aR]) (λb x I=>by grind[aR]) F vs a1).mono ?_
 rintro e w' ⟨v,a2,a8,ba,J',N',rfl,aF,h1,Z,M,N,bj,a3,a4⟩
 obtain⟨cp,bM⟩:=bM _ _ _ aF;have ax:=R.extend bj M.st;let B:cU:=λb=>if key<=b/\b<key+16 then a8 (b-key)else φ b
 have ap:∀b,n b=true->B b=φ b:=by grind
 have A:∀b,lt N' b=true->B (key+b)=a8 b:=by
  intro b F;simp only[lt,e9]at F;grind
 have t:=ax.tT ap;have G:∀b x,aR (mv J key J') b=some x->(∃c j,b=key+c/\aR J' c=some j/\x=j.sh key)\/aR J b=some x:=by
  grind[yB]
 have W:∀c j,aR J' c=some j->(B (key+c)).2≠0->w.heap.size<=(B (key+c)).1:=by grind
 have an:∀b x,aR J b=some x->(B b).2≠0->(B b).1<w.heap.size:=by
  intro b x I h0;rw[ap b (R.dp b x I).1]at h0⊢;exact(R.bB.blk b x I).jh h0
 refine⟨v,a2.sh key,B,ba,mv J key J',rfl,bM,bS.sh A Z h1,V.rG cp Z,⟨⟨λb x I=>?_,λb H x y I ag aZ h0 D=>?_,M.st⟩,t.fP,t.gN,λk g v ae al=>V.hh (λ_ h=>lU h) (t.fO k g v ae al),λb x I=>?_,t.size,t.defers,t.ext,λb x I h0=>?_,t.fix,λb F=>lU (t.gb b F)⟩⟩
 . rcases G b x I with⟨c,j,rfl,q,rfl⟩|I
   . have c9:=M.blk c j q;have U:=N c j q;have aC:=A c (by grind[lt]);cases j with
     |box cs=>
      obtain⟨X,vs,E,k1,k2,k3⟩:=c9;simp only[bJ.sh,cQ,aC];refine⟨X,vs,E,k1,?_,k3⟩;have am:=U.2;simp only[bJ.az,e']at am;have:=k2.imp λc v q a0=>bk.sh A (am c q) a0;exact this.pL λ_ _ h=>h
     |arr sz es=>simp only[bJ.sh,cQ,aC];exact c9
     |set ks=>simp only[bJ.sh,cQ,aC];exact c9
     |buf E s=>simp only[bJ.sh,cQ,aC];exact c9
     |b3 E c=>
      obtain⟨X,⟨p,v,k1,k2,k3⟩,k4⟩:=c9;simp only[bJ.sh,cQ,aC];exact⟨X,⟨p,v,k1,k2,bk.sh A (by simpa[bJ.az]using U.2) k3⟩,k4⟩
     |cw sz es i o c=>
      obtain⟨h1,⟨vs,E,k1,k2,k3,v,k4,k5⟩,k6⟩:=c9;simp only[bJ.sh,cQ,aC];exact⟨h1,⟨vs,E,k1,k2,k3,v,k4,bk.sh A (by simpa[bJ.az]using U.2) k5⟩,k6⟩
   . exact t.bB.blk b x I
 . rcases G b x I with⟨c,j,rfl,q,rfl⟩|I<;>rcases G H y ag with⟨L,Y,rfl,O,rfl⟩|ag
   . have aC:=A c (by simp[lt];exact(N c j q).1);have aE:=A L (by simp[lt];exact(N L Y O).1);rw[aC]at h0⊢;rw[aE]at D⊢;exact M.inj c L j Y q O (by omega) h0 D
   . have:=W c j q h0;have:=an H y ag D;omega
   . have:=W L Y O D;have:=an b x I h0;omega
   . exact t.bB.inj b H x y I ag aZ h0 D
 . rcases G b x I with⟨c,j,rfl,q,rfl⟩|I
   . obtain⟨k1,k2⟩:=N c j q;refine⟨by simp[eo];right;omega,?_⟩;cases j with
     |box cs=>
      simp only[bJ.sh,bJ.az,List.all_map,e']at k2⊢;intro c q;exact C.rG cp (k2 c q)
     |arr sz es=>rfl
     |set ks=>rfl
     |buf E s=>rfl
     |b3 E c=>exact C.rG cp k2
     |cw sz es i o c=>simp only[bJ.sh,bJ.az]at k2⊢;exact C.rG cp k2
   . obtain⟨k1,k2⟩:=t.dp b x I;exact⟨lU k1,bJ.hh (λ_ h=>lU h) k2⟩
 . rcases G b x I with⟨c,j,rfl,q,rfl⟩|I
   . exact .inr (fQ R.ext.size (W c j q h0))
   . exact t.own b x I h0
end
theorem d'.mk{P:Program}{fn:Func}{c:dq}{a:List iV}(j:P.funcs[f]?=some fn)(e:fn.body.bind (resolve P fn.ntmps)=some c)(p:h2 P fn.results.toList=some a)
 {args:List V}{nt:Nat}(o:fn.ntmps=nt)(aN:args.length<=nt){k:Nat}{Q:V->a6->Nat->Prop}(h:ch P nt k c (e6 0 args) J k (Fz a Q)):d' P f args J k Q:=by
 grind[bf,d'.GN]
section
open Go
def C.b6(f:Nat->Nat):C->C
 |.ptr b o=>.ptr (f b) o
 |.cA b sz i o=>.cA (f b) sz i o
 |.arr b sz off len=>.arr (f b) sz off len
 |.fA b sz off len=>.fA (f b) sz off len
 |.mp b=>.mp (f b)
 |.ei b=>.ei (f b)
 |.cr b len=>.cr (f b) len
 |.fn g caps=>.fn g (caps.map f)
 |c=>c
def V.b6(f:Nat->Nat):V->V
 |.c x=>.c (x.b6 f)
 |.agg cs=>.agg (cs.map (C.b6 f))
 |.aX vs=>.aX (go f vs)
where go (f:Nat->Nat):List V->List V
 |[]=>[]
 |v::vs=>v.b6 f::go f vs
def bJ.b6(f:Nat->Nat):bJ->bJ
 |.box cs=>.box (cs.map (C.b6 f))
 |.arr sz es=>.arr sz es
 |.set ks=>.set ks
 |.buf E s=>.buf E s
 |.b3 E c=>.b3 E (c.b6 f)
 |.cw sz es i o c=>.cw sz es i o (c.b6 f)
def oP(J:a6):aY->a6
 |[]=>J
 |b::r=>gU (oP J r) b
variable{J:a6}{bs:aY}{f:Nat->Nat}{a8:cU}{v:V}{Q:V->a6->Nat->Prop}{x:aO}{o:cH}{p:Prop}{K:Env->a6->Prop}
theorem qO:∀{bs:aY} {b:Nat},aR (oP J bs) b=if b∈bs then none else aR J b
 |[],b=>by rfl
 |c::r,b=>by
  simp[oP,e4,qO];grind
def back(bs:aY)(key:Nat)(b:Nat):Nat:=(bs[b]?).getD (key+(b-bs.length))
def hg(J:a6)(bs:aY)(f:Nat->Nat):a6->a6
 |[]=>oP J bs
 |(b,x)::r=>cW (hg J bs f r) (f b) (x.b6 f)
theorem KY:∀{d:a6} {c:Nat} {x:bJ},aR (hg J bs f d) c=some x->(∃b a,c=f b/\aR d b=some a/\x=a.b6 f)\/(c ∉ bs/\aR J c=some x)
 |[],c,x,h=>by
  grind[hg,qO]
 |(b,y)::r,c,x,h=>by
  simp[hg,cS]at h;split at h
  . grind[aR]
  . rcases KY h with⟨e,a,h1,g,i⟩|h
    . grind[aR]
    grind
section
variable {P:Program}{av:Ctx}{nt kk:Nat}{φ:cU}{S ba:cR}{env:Env}{J:a6}{N key:Nat}{n:Nat->Bool}{a:Act}{w w':World}{f:Nat->Nat}
theorem bk.b6{n:Nat->Bool}(e:∀b,n b=true->a8 (f b)=φ b){c:C}{v:Value}(a:c.az n=true)(h:bk φ w S c v):bk a8 w S (c.b6 f) v:=by
 cases c with
 |ptr b o=>grind[C.az,C.b6,bk]
 |cA b sz i o=>grind[C.az,C.b6,bk]
 |arr b sz off len=>grind[C.az,C.b6,bk]
 |fA b sz off len=>grind[C.az,C.b6,bk]
 |mp b=>grind[C.az,C.b6,bk]
 |ei b=>grind[C.az,C.b6,bk]
 |cr b len=>grind[C.az,C.b6,bk]
 |fn g caps=>
  simp_all[C.az,C.b6,bk]
 |_=>exact h
theorem Jw:∀{vs:List V} {i:Nat},(V.b6.go f vs)[i]?=(vs[i]?).map (V.b6 f)
 |[],i=>by rfl
 |v::vs,0=>by rfl
 |v::vs,i+1=>by simp[V.b6.go,Jw]
theorem HM:∀{vs:List V},(V.b6.go f vs).length=vs.length
 |[]=>rfl
 |v::vs=>by simp[V.b6.go,HM]
theorem bS.b6{n:Nat->Bool}(e:∀b,n b=true->a8 (f b)=φ b){x:Value}(a:v.az n=true)(h:bS φ w S v x):bS a8 w S (v.b6 f) x:=by
 induction h with
 |c h=>exact .c (bk.b6 e (by grind[V.az]) h)
 | @agg cs vs h=>
  simp[V.az]at a;refine .agg ?_;have:=h.imp λc v j o=>bk.b6 e (a c j) o;exact this.pL λ_ _ h=>h
 |aX vs xs ae h ih=>
  refine .aX _ xs (by grind[HM]) ?_;grind[Jw,mQ,V.az]
theorem C.rm{n m:Nat->Bool}(a:∀b,m b=true->n (f b)=true){c:C}(h:c.az m=true):(c.b6 f).az n=true:=by
 cases c<;>simp[C.b6,C.az]at h⊢
 all_goals grind
theorem V.rm{n m:Nat->Bool}(a:∀b,m b=true->n (f b)=true):∀{v:V},v.az m=true->(v.b6 f).az n=true
 |.c x,h=>by grind[V.b6,V.az,C.rm]
 |.agg cs,h=>by grind[V.b6,V.az,C.rm]
 |.aX vs,h=>by exact go vs h
where go:∀vs,V.az.V.dj m vs=true->V.az.V.dj n (V.b6.go f vs)=true
 |[],_=>rfl
 |v::vs,h=>by simp[V.b6.go,V.az.V.dj,cK]at h⊢;exact⟨V.rm a h.1,go vs h.2⟩
theorem Rel.afm{B:Nat->Prop}(R:Rel av nt φ S env J n a w)(e:Ext B S ba w w')(N:∀b j,ba b j->b<w'.heap.size)(M:∀b x,aR J b=some x->(φ b).2≠0->¬B (φ b).1)(c9:∀b,B b->av.B b\/av.iU.heap.size<=b):Rel av nt φ ba env J n a w':=by
 have ab:=λb x I h0=>e.block _ ((R.bB.blk b x I).jh h0) (M b x I h0);have D:∀b x,aR J b=some x->(φ b).2≠0->∀j,¬ba (φ b).1 j:=by
  intro b x I h0 j H;have q:=R.bB.blk b x I;rcases e.kH _ _ H with h|h|h
  . exact q.pM h0 j h
  . grind
  grind
 refine⟨⟨λb x I=>?_,R.bB.inj,N⟩,λk g v ae al=>?_,R.gN,R.fO,R.dp,R.size,R.defers,?_,R.own,R.fix,R.gb⟩
 . have q:=R.bB.blk b x I;cases x with
   |box cs=>
    obtain⟨h0,vs,E,h1,f,y⟩:=q;refine⟨h0,vs,E,(ab _ _ I h0).trans h1,f.imp λc v O A=>bk.mono e.mono (λ_ _=>rfl) (C.mw _) A,D b _ I h0⟩
   |arr sz es=>
    obtain⟨h1,f,y,F,bj⟩:=q;refine⟨h1,f,y,F,λh0=>?_⟩;obtain⟨vs,E,k1,k2,k3,k4⟩:=bj h0;exact⟨vs,E,(ab _ _ I h0).trans k1,k2,λi j G t he ht=>let⟨v,K,A⟩:=k3 i j G t he ht;⟨v,K,bK.mono e.mono A⟩,D b _ I h0⟩
   |set ks=>
    obtain⟨h0,⟨es,c,h1,f⟩,y⟩:=q;exact⟨h0,⟨es,c,(ab _ _ I h0).trans h1,f⟩,D b _ I h0⟩
   |buf E s=>
    obtain⟨h1,f,y⟩:=q;refine⟨h1,f,λh0=>?_⟩;grind
   |b3 E c=>
    obtain⟨h0,⟨p,v,h1,f,y⟩,F⟩:=q;exact⟨h0,⟨p,v,(ab _ _ I h0).trans h1,f,bk.mono e.mono (λ_ _=>rfl) (C.mw _) y⟩,D b _ I h0⟩
   |cw sz es i o c=>
    obtain⟨⟨h1,f,y,F,bj,L⟩,⟨vs,E,k1,k2,k3,v,k4,k5⟩,k6⟩:=q;exact⟨⟨h1,f,y,F,bj,L⟩,⟨vs,E,(ab _ _ I (by omega)).trans k1,k2,λi j G t he ht aN=>let⟨v,K,A⟩:=k3 i j G t he ht aN;⟨v,K,bK.mono e.mono A⟩,v,k4,bk.mono e.mono (λ_ _=>rfl) (C.mw _) k5⟩,D b _ I (by omega)⟩
 . obtain⟨x,I,A⟩:=R.fP k g v ae al;exact⟨x,I,bS.mono e.mono (λ_ _=>rfl) (R.fO k g v ae al) A⟩
 . refine⟨e.os.trans R.ext.os,e.tape.trans R.ext.tape,e.output.trans R.ext.output,fQ R.ext.size e.size,λb aE q=>?_,R.ext.mono.trans e.mono,λb j H=>?_⟩
   . refine(e.block b (jf aE R.ext.size) λh=>?_).trans (R.ext.block b aE q);grind
   . rcases e.kH _ _ H with h|h|h
     . exact R.ext.kH b j h
     . grind
     . exact .inr (.inr (fQ R.ext.size h))
theorem hL.raw {fn:Nat}{args:List V}{bs:aY}{Q:V->a6->Nat->Prop}(bV:bs.Nodup)(aE:∀b,b∈bs->b<key)(h:d' P fn (args.map (V.bN bs)) (fu bs J 0 bs) bs.length Q){K:V->a6->Prop}
 (bM:∀r J' N',Q r J' N'->N'<=bs.length+16/\K (r.b6 (back bs key)) (hg J bs (back bs key) J')):(∀b,b∈bs->n b=true)->∀av nt φ S env a w,Rel av nt φ S env J n a w->(∀b,key<=b->b<key+16->n b=false)->V.az.V.dj n args=true->∀vs:List Value,aV (bS φ w S) args vs->
 Calls P fn vs.toArray w λe w'=>∃v r a8 ba J',e= .returned v/\K r J'/\bS a8 w' ba r v/\r.az (eo n key)=true/\Rel av nt a8 ba env J' (eo n key) a w':=by
 intro q av nt φ S env a w R aN eG vs dt;let ax:cU:=λi=>φ ((bs[i]?).getD 0);have ap:∀(i:Nat) b,bs[i]?=some b->ax i=φ b:=by grind
 let B:Nat->Prop:=λbe=>∃b x,b∈bs/\aR J b=some x/\(φ b).2≠0/\be=(φ b).1;have an:∀b x,aR (fu bs J 0 bs) b=some x->∃c f,bs[b]?=some c/\aR J c=some f/\x=f.bN bs:=by
  grind[px]
 have cT:oJ ax w S (fu bs J 0 bs):=by
  refine⟨λb x I=>?_,λb A x y I ag aZ h0 D=>?_,R.bB.st⟩
  . obtain⟨c,f,H,G,rfl⟩:=an b x I;exact cQ.bN ap H (R.bB.blk c f G)
  . obtain⟨c,f,H,G,rfl⟩:=an b x I;obtain⟨M,Z,bR,b0,rfl⟩:=an A y ag;rw[ap b c H]at h0⊢;rw[ap A M bR]at D⊢;refine R.bB.inj c M f Z G b0 ?_ h0 D;grind[List.getElem?_eq_some_iff,List.pairwise_iff_getElem]
 have b2:aV (bS ax w S) (args.map (V.bN bs)) vs:=dt.pL λ_ _=>bS.bN ap;have b':V.az.V.dj (lt bs.length) (args.map (V.bN bs))=true:=by
  simp_all[sM,ru,bn,V.jJ]
 refine(h ax S w B cT (λb x I=>?_) (λb x I h0=>?_) b' vs b2).mono ?_
 . obtain⟨c,f,H,G,rfl⟩:=an b x I;refine⟨(dH.1 H).1,?_⟩;cases f with
   |box cs=>grind[bJ.bN,bJ.az,List.all_map,List.all_eq_true,C.jJ]
   |arr sz es=>rfl
   |set ks=>rfl
   |buf E s=>rfl
   |b3 E c=>exact C.jJ c
   |cw sz es i o c=>exact C.jJ c
 . grind
 rintro e w' ⟨v,ee,a8,ba,J',N',rfl,b1,h1,H,G,N,bj,eq,ex⟩
 obtain⟨cp,bM⟩:=bM _ _ _ b1;have a2:∀b,B b->av.B b\/av.iU.heap.size<=b:=by
  rintro be ⟨b,x,_,I,h0,rfl⟩
  exact R.own b x I h0
 have bh:Rel av nt φ S env (oP J bs) n a w:=by
  have Y:∀b x,aR (oP J bs) b=some x->b ∉ bs/\aR J b=some x:=by
   grind[qO]
  exact⟨⟨λb x I=>R.bB.blk b x (Y b x I).2,λb A x y I ag=>R.bB.inj b A x y (Y b x I).2 (Y A y ag).2,R.bB.st⟩,R.fP,R.gN,R.fO,λb x I=>R.dp b x (Y b x I).2,R.size,R.defers,R.ext,λb x I=>R.own b x (Y b x I).2,R.fix,R.gb⟩
 have ce:∀b x,b ∉ bs->aR J b=some x->(φ b).2≠0->¬B (φ b).1:=by
  rintro b x q I h0 ⟨c,y,j,ag,D,he⟩
  exact R.bB.inj b c x y I ag (λe=>q (e▸j)) h0 D he
 have bi:=bh.afm bj G.st (λb x I h0=>by
  grind[qO]) a2
 let F:cU:=λb=>if key<=b/\b<key+16 then a8 (bs.length+(b-key))else φ b
 have a9:∀b,n b=true->F b=φ b:=by grind
 have L:∀b,lt N' b=true->F (back bs key b)=a8 b:=by
  intro b O;simp only[lt,e9]at O;unfold back;grind
 have X:∀b,lt N' b=true->eo n key (back bs key b)=true:=by
  intro b O;simp only[lt,e9]at O;unfold back;cases al:bs[b]? with
  |some c=>exact lU (q c (eN al))
  |none=>
   simp only[Option.getD_none,eo,l',cK,e9];right;omega
 have t:=bi.tT a9;have W:∀b x,aR (hg J bs (back bs key) J') b=some x->(∃c f,b=back bs key c/\aR J' c=some f/\x=f.b6 (back bs key))\/(b ∉ bs/\aR J b=some x):=λb x I=>KY I;have U:∀b x,b ∉ bs->aR J b=some x->aR (oP J bs) b=some x:=by simp_all[qO,ao]
 have a0:∀c f,aR J' c=some f->(F (back bs key c)).2≠0->B (F (back bs key c)).1\/w.heap.size<=(F (back bs key c)).1:=by
  intro c f j h0;rw[L c (by simp[lt];exact(N c f j).1)]at h0⊢;grind
 have a5:∀b x,b ∉ bs->aR J b=some x->(F b).2≠0->(F b).1<w.heap.size/\¬B (F b).1:=by
  intro b x q I h0;rw[a9 b (R.dp b x I).1]at h0⊢;exact⟨(R.bB.blk b x I).jh h0,ce b x q I h0⟩
 refine⟨v,ee.b6 (back bs key),F,ba,hg J bs (back bs key) J',rfl,bM,bS.b6 L H h1,V.rm X H,⟨⟨λb x I=>?_,λb A x y I ag aZ h0 D=>?_,G.st⟩,t.fP,t.gN,λk g v ae al=>V.hh (λ_ h=>lU h) (t.fO k g v ae al),λb x I=>?_,t.size,t.defers,t.ext,λb x I h0=>?_,t.fix,λb O=>lU (t.gb b O)⟩⟩
 . rcases W b x I with⟨c,f,rfl,j,rfl⟩|⟨q,I⟩
   . have c9:=G.blk c f j;have am:=N c f j;have aC:=L c (by simp[lt];exact am.1);cases f with
     |box cs=>
      obtain⟨a1,vs,E,k1,k2,k3⟩:=c9;simp only[bJ.b6,cQ,aC];refine⟨a1,vs,E,k1,?_,k3⟩;have a3:=am.2;simp only[bJ.az,e']at a3;have:=k2.imp (R':=λc v=>bk F w' ba (C.b6 (back bs key) c) v) λc v j ci=>bk.b6 L (a3 c j) ci;exact this.pL λ_ _ h=>h
     |arr sz es=>simp only[bJ.b6,cQ,aC];exact c9
     |set ks=>simp only[bJ.b6,cQ,aC];exact c9
     |buf E s=>simp only[bJ.b6,cQ,aC];exact c9
     |b3 E c=>
      obtain⟨a1,⟨p,v,k1,k2,k3⟩,k4⟩:=c9;simp only[bJ.b6,cQ,aC];exact⟨a1,⟨p,v,k1,k2,bk.b6 L (by simpa[bJ.az]using am.2) k3⟩,k4⟩
     |cw sz es i o c=>
      obtain⟨h1,⟨vs,E,k1,k2,k3,v,k4,k5⟩,k6⟩:=c9;simp only[bJ.b6,cQ,aC];exact⟨h1,⟨vs,E,k1,k2,k3,v,k4,bk.b6 L (by simpa[bJ.az]using am.2) k5⟩,k6⟩
   . exact t.bB.blk b x (U b x q I)
 . rcases W b x I with⟨c,f,rfl,j,rfl⟩|⟨q,I⟩<;>rcases W A y ag with⟨M,Z,rfl,aF,rfl⟩|⟨a4,ag⟩
   . have aC:=L c (by simp[lt];exact(N c f j).1);have bv:=L M (by simp[lt];exact(N M Z aF).1);rw[aC]at h0⊢;rw[bv]at D⊢;exact G.inj c M f Z j aF (by rintro rfl;exact aZ rfl) h0 D
   . obtain⟨k1,k2⟩:=a5 A y a4 ag D;rcases a0 c f j h0 with h|h
     . intro e;rw[e]at h;exact k2 h
     . omega
   . obtain⟨k1,k2⟩:=a5 b x q I h0;rcases a0 M Z aF D with h|h
     . intro e;rw[<-e]at h;exact k2 h
     . omega
   . exact t.bB.inj b A x y (U b x q I) (U A y a4 ag) aZ h0 D
 . rcases W b x I with⟨c,f,rfl,j,rfl⟩|⟨q,I⟩
   . obtain⟨k1,k2⟩:=N c f j;refine⟨X c (by simp[lt];exact k1),?_⟩;cases f with
     |box cs=>
      simp only[bJ.b6,bJ.az,List.all_map,e']at k2⊢;intro c j;exact C.rm X (k2 c j)
     |arr sz es=>rfl
     |set ks=>rfl
     |buf E s=>rfl
     |b3 E c=>simp only[bJ.b6,bJ.az]at k2⊢;exact C.rm X k2
     |cw sz es i o c=>simp only[bJ.b6,bJ.az]at k2⊢;exact C.rm X k2
   . obtain⟨k1,k2⟩:=t.dp b x (U b x q I);exact⟨lU k1,bJ.hh (λ_ h=>lU h) k2⟩
 . rcases W b x I with⟨c,f,rfl,j,rfl⟩|⟨q,I⟩
   . rcases a0 c f j h0 with h|h
     . exact a2 _ h
     . exact .inr (fQ R.ext.size h)
   . exact t.own b x (U b x q I) h0
theorem hL.agl{fn:Nat}{args:List V}(bV:bs.Nodup)(aE:∀b,b∈bs->b<key)(e:∀b,b∈bs->∃x,aR J b=some x)(h:d' P fn (args.map (V.bN bs)) (fu bs J 0 bs) bs.length Q){K:V->a6->Prop}
 (bM:∀r J' N',Q r J' N'->N'<=bs.length+16/\K (r.b6 (back bs key)) (hg J bs (back bs key) J')):hL P fn args J key K:=by
 intro av nt φ S env n a w R aN c vs f;exact hL.raw bV aE h bM (λb c=>let⟨x,I⟩:=e b c;(R.dp b x I).1) av nt φ S _ a w R aN c vs f
theorem S4:∀{l:aY} {i:Nat} {J J':a6},(∀b,b∈l->aR J' b=aR J b)->fu bs J' i l=fu bs J i l
 |[],i,J,J',h=>rfl
 |b::r,i,J,J',h=>by
  simp[fu];rw[h b (by simp),S4 λc a=>h c (by grind)]
theorem Sj:∀{a:a6} {J J':a6} {c:Nat},(aR (oP J' bs) c=aR (oP J bs) c)->aR (hg J' bs f a) c=aR (hg J bs f a) c
 |[],J,J',c,h=>h
 |(b,x)::r,J,J',c,h=>by
  simp[hg,cS];split
  . rfl
  . exact Sj h
theorem H5{key:Nat}:∀{d:a6} {J:a6} {c:Nat},d.all (λx=>decide (x.1<bs.length+16))=true->c ∉ bs->¬(key<=c/\c<key+16)->aR (hg J bs (back bs key) d) c=aR J c
 |[],J,c,a,e,f=>by grind[hg,qO]
 |(b,x)::r,J,c,a,e,f=>by
  simp only[lA,cK]at a;simp[hg,cS];rw[ao ?_]
  . exact H5 a.2 e f
  grind[back]
end
variable {xb:aY}
section
variable {P:Program}{av:Ctx}{nt kk:Nat}{φ:cU}{S:cR}{env env':Env}{J J' J1:a6}{N key:Nat}{n:Nat->Bool}{a:Act}{w:World}
theorem dm(h:∀t,t∈x.tmps->look env' t=look env t):x.get env'=x.get env:=by
 cases x with
 |const v=>rfl
 |tmp t=>grind[aO.get,aO.tmps]
theorem yC{xs:List aO}(h:∀t,t∈xs.flatMap aO.tmps->look env' t=look env t):hF env' xs=hF env xs:=by
 induction xs with
 |nil=>rfl
 |cons x xs ih=>
  grind[hF,dm]
theorem yD{x:Option aO}(h:∀t,t∈tI x->look env' t=look env t):jE env' x=jE env x:=by
 cases x with
 |none=>rfl
 |some x=>simp[jE];rw[dm h]
theorem Sk:∀{ps:List (Nat×Nat×aO)} {cs:List C},(∀t,t∈(ps.flatMap λp=>p.2.2.tmps)->look env' t=look env t)->ln env' cs ps=ln env cs ps
 |[],cs,h=>rfl
 |(o,k,x)::r,cs,h=>by
  simp[ln];rw[dm (λt ht=>h t (by grind))]
  congr 1;funext a;congr 1;funext c
  split
  . rw[Sk (λt ht=>h t (by grind))]
  rfl
theorem HN{sz:Nat}:∀{ps:List (Nat×aO)} {es:List (List T)},(∀t,t∈(ps.flatMap λp=>p.2.tmps)->look env' t=look env t)->jw env' sz es ps=jw env sz es ps
 |[],cs,h=>rfl
 |(i,x)::r,es,h=>by
  simp[jw];rw[dm (λt ht=>h t (by grind))]
  congr 1;funext a;congr 1;funext c;congr 1;funext ts
  split
  . rw[HN (λt ht=>h t (by grind))]
  rfl
theorem aaU(h:∀t,t∈o.reads->look env' t=look env t):aL o env' J key=aL o env J key:=by
 cases o<;>simp only[cH.reads,fH]at h
 case mov x=>simp only[aL];rw[dm h]
 case pick c x y=>grind[aL,dm]
 case alloc=>rfl
 case box x=>simp only[aL];rw[dm h]
 case allocA=>rfl
 case b2s x=>simp only[aL];rw[dm h]
 case allocS=>rfl
 case mkset=>rfl
 case bsliceT e sz len z ps=>simp only[aL];congr 1;funext a;rw[HN h]
 case lkset x y=>simp only[aL];rw[dm λt ht=>h t (.inl ht),dm λt ht=>h t (.inr ht)]
 case upset x y=>simp only[aL];rw[dm λt ht=>h t (.inl ht),dm λt ht=>h t (.inr ht)]
 case appendB e k x y=>simp only[aL];rw[dm λt ht=>h t (.inl ht),dm λt ht=>h t (.inr ht)]
 case sdata x=>simp only[aL];rw[dm h]
 case ustr e x y=>simp only[aL];rw[dm λt ht=>h t (.inl ht),dm λt ht=>h t (.inr ht)]
 case idxP k x y=>simp only[aL];rw[dm λt ht=>h t (.inl ht),dm λt ht=>h t (.inr ht)]
 case slcP k x l i=>simp only[aL];rw[dm λt ht=>h t (.inl (.inl ht)),yD λt ht=>h t (.inl (.inr ht)),yD λt ht=>h t (.inr ht)]
 case build z ps=>simp only[aL];rw[Sk h]
 case bslice sz len z ps=>simp only[aL];congr 1;funext a;rw[HN h]
 case load g k x=>simp only[aL];rw[dm h]
 case store k x v=>simp only[aL];rw[dm λt ht=>h t (.inl ht),dm λt ht=>h t (.inr ht)]
 case nilCheck x=>simp only[aL];rw[dm h]
 case bin op x y=>simp only[aL];rw[dm λt ht=>h t (.inl ht),dm λt ht=>h t (.inr ht)]
 case eqAgg op ks x y=>simp only[aL];rw[dm λt ht=>h t (.inl ht),dm λt ht=>h t (.inr ht)]
 case eqBool op x y=>simp only[aL];rw[dm λt ht=>h t (.inl ht),dm λt ht=>h t (.inr ht)]
 case eqNil=>rfl
 case not x=>simp only[aL];rw[dm h]
 case conv k x=>simp only[aL];rw[dm h]
 case i2s x=>simp only[aL];rw[dm h]
 case s2s x=>simp only[aL];rw[dm h]
 case fldA k x=>simp only[aL];rw[dm h]
 case fld g k m x=>simp only[aL];rw[dm h]
 case idxA op x y=>simp only[aL];rw[dm λt ht=>h t (.inl ht),dm λt ht=>h t (.inr ht)]
 case idxV op x y=>simp only[aL];rw[dm λt ht=>h t (.inl ht),dm λt ht=>h t (.inr ht)]
 case mslice op _ z x=>simp only[aL];rw[dm h]
 case idxS x y=>simp only[aL];rw[dm λt ht=>h t (.inl ht),dm λt ht=>h t (.inr ht)]
 case slcS x l i=>simp only[aL];rw[dm λt ht=>h t (.inl (.inl ht)),yD λt ht=>h t (.inl (.inr ht)),yD λt ht=>h t (.inr ht)]
 case slc k x l i=>grind[aL,dm,yD]
 case slc0 x=>simp only[aL];rw[dm h]
 case mkfn f xs=>simp only[aL];rw[yC h]
 case ext x i=>simp only[aL];rw[dm h]
 case len s x=>grind[aL,dm]
 case append te sz by' x y=>simp only[aL];rw[dm λt ht=>h t (.inl ht),dm λt ht=>h t (.inr ht)]
 case max2 x y=>simp only[aL];rw[dm λt ht=>h t (.inl ht),dm λt ht=>h t (.inr ht)]
 case min2 x y=>grind[aL,dm]
 case call=>rfl
 rfl
def dT(env:Env)(x:aO):aY:=
 match x.get env with
 |some (_,.c (.ptr b _))=>[b]
 |some (_,.c (.cA b _ _ _))=>[b]
 |some (_,.c (.arr b _ _ _))=>[b]
 |some (_,.c (.fA b _ _ _))=>[b]
 |some (_,.c (.mp b))=>[b]
 |some (_,.c (.ei b))=>[b]
 |some (_,.c (.cr b _))=>[b]
 |_=>[]
def C.e5:C->aY
 |.ptr b _|.cA b _ _ _|.arr b _ _ _|.fA b _ _ _|.mp b|.ei b|.cr b _=>[b]
 |.fn _ caps=>caps
 |_=>[]
def V.e5:V->aY
 |.c x=>x.e5
 |.agg cs=>cs.flatMap C.e5
 |.aX _=>[]
def kS(env:Env)(args:List aO):aY:=
 args.flatMap λx=>match x.get env with
  |some (_,v)=>v.e5
  |none=>[]
def dS(xb:aY)(o:cH)(env:Env)(key:Nat):aY:=
 match o with
 |.alloc _|.allocA _|.box _|.bslice .. |.mslice .. |.mkset=>[key]
 |.allocS .. =>[key,key+1]
 |.lkset x _=>dT env x
 |.upset x _=>dT env x
 |.appendB _ _ x _=>key::dT env x
 |.ustr _ x _=>dT env x
 |.call _ args=>(List.range 16).map (key+·)++(kS env args++xb)
 |.load _ _ x=>dT env x
 |.b2s x=>dT env x
 |.store _ x _=>dT env x
 |.append _ _ _ x y=>key::(dT env x++dT env y)
 |_=>[]
def cy(xb:aY)(o:cH)(env:Env)(key b:Nat):Bool:=
 match o with
 |.alloc _|.allocA _|.box _|.bslice .. |.mslice .. |.mkset=>b==key
 |.allocS .. =>b==key||b==key+1
 |.upset x _=>(dT env x).contains b
 |.appendB _ _ x _=>b==key||(dT env x).contains b
 |.ustr _ x _=>(dT env x).contains b
 |.store _ x _=>(dT env x).contains b
 |.append _ _ _ x _=>b==key||(dT env x).contains b
 |.call _ args=>(decide (key<=b)&&decide (b<key+16))||(kS env args++xb).contains b
 |_=>false
theorem XJ(aN:o.neutral=true)(ht:o.hU=false){p v J1}(a:aL o env J key=some (p,v,J1)):aL o env J' key=some (p,v,J'):=by
 cases o<;>simp only[cH.neutral,cH.hU,reduceCtorEq]at aN ht<;>simp only[aL,bf,bn]at a⊢
 all_goals
  (try (obtain⟨a1,h1,a⟩:=a;refine⟨a1,h1,?_⟩))
  (try (obtain⟨a2,b,a⟩:=a;refine⟨a2,b,?_⟩))
  (try (obtain⟨a3,c,a⟩:=a;refine⟨a3,c,?_⟩))
  (try split at a)
  (try (done))
 all_goals first
  |(cases a;rfl)
  |(cases a;done)
  |(exact⟨x,h1,b,c,rfl⟩)
  |(simp only[bn]at a⊢;obtain⟨x,h1,b⟩:=a;simp only[dG]at b⊢;exact⟨x,h1,b.1,b.2.1,trivial⟩)
  |(simp only[eg,dy,dG]at a⊢;exact⟨a.1,a.2.1,a.2.2.1,trivial⟩)
theorem LV{b:Nat}(h:x.get env=some (p,.c (.mp b))):dT env x=[b]:=by grind[dT]
theorem ZG{b:Nat}(h:x.get env=some (p,.c (.ei b))):dT env x=[b]:=by grind[dT]
theorem Td{b l:Nat}(h:x.get env=some (p,.c (.cr b l))):dT env x=[b]:=by grind[dT]
theorem KZ{b o:Nat}(h:x.get env=some (p,.c (.ptr b o))):dT env x=[b]:=by grind[dT]
theorem Te{b sz i o:Nat}(h:x.get env=some (p,.c (.cA b sz i o))):dT env x=[b]:=by grind[dT]
theorem aav{b sz i o:Nat}(h:x.get env=some (p,.c (.fA b sz i o))):dT env x=[b]:=by grind[dT]
theorem DN{b sz i o:Nat}(h:x.get env=some (p,.c (.arr b sz i o))):dT env x=[b]:=by grind[dT]
theorem ZH{p v}(a:aL o env J key=some (p,v,J1))(ht:∀b,b∈dS xb o env key->aR J' b=aR J b):
 (∃bh,aL o env J' key=some (p,v,bh)/\∀b,aR bh b=if cy xb o env key b then aR J1 b else aR J' b)/\∀b,cy xb o env key b=false->aR J1 b=aR J b:=by
 by_cases K:o.neutral=true/\o.hU=false
 . have ab:∀b,cy xb o env key b=false:=by intro b;cases o<;>simp only[cH.neutral,cH.hU,reduceCtorEq,cJ,false_and,pN,and_self]at K<;>rfl
   have:=yk K.1 a;subst this;exact⟨⟨J',XJ K.1 K.2 a,λb=>by grind⟩,λb _=>rfl⟩
 . cases o<;>simp only[cH.neutral,cH.hU,reduceCtorEq,cJ,false_and,pN,and_self,not_true,not_false_eq_true]at K
   case alloc cs=>
    simp only[aL,dy,dG]at a⊢;obtain⟨rfl,rfl,rfl⟩:=a;refine⟨⟨_,⟨rfl,rfl,rfl⟩,λb=>?_⟩,λb f=>?_⟩
    . simp only[cS,cy,iB];grind
    simp_all[cy,j1,cS,ao,dn]
   case allocA cs=>
    simp only[aL,bn,dG]at a⊢;obtain⟨ts,Z,rfl,rfl,rfl⟩:=a;refine⟨⟨_,⟨ts,Z,rfl,rfl,rfl⟩,λb=>?_⟩,λb f=>?_⟩
    . simp only[cS,cy,iB];grind
    simp_all[cy,j1,cS,ao,dn]
   case b2s x=>
    simp only[aL,bf,bn,dG]at a⊢;obtain⟨⟨n,v0⟩,h1,⟨q,s⟩,j,rfl,rfl,rfl⟩:=a;refine⟨⟨J',⟨(n,v0),h1,(q,s),?_,rfl,rfl,rfl⟩,λb=>rfl⟩,λb _=>rfl⟩;dsimp only at j⊢;unfold nv at j⊢;split at j
    . grind
    . grind
    . rename_i b off len;rw[ht b (by simp[dS,DN h1])];grind
    . rename_i b off len;rw[ht b (by simp[dS,aav h1])];grind
    grind
   case box x=>
    simp only[aL,bf,bn,dG]at a⊢;obtain⟨L,h1,cs,j,rfl,rfl,rfl⟩:=a;refine⟨⟨_,⟨L,h1,cs,j,rfl,rfl,rfl⟩,λb=>?_⟩,λb f=>?_⟩
    . simp only[cS,cy,iB];grind
    simp_all[cy,j1,cS,ao,dn]
   case bslice sz len z ps=>
    simp only[aL,bf,bn,dG]at a⊢;obtain⟨L,h1,cs,j,rfl,rfl,rfl⟩:=a;refine⟨⟨_,⟨L,h1,cs,j,rfl,rfl,rfl⟩,λb=>?_⟩,λb f=>?_⟩
    . simp only[cS,cy,iB];grind
    simp_all[cy,j1,cS,ao,dn]
   case mslice sz by' z x=>
    simp only[aL,bf]at a⊢;obtain⟨L,h1,cs,j,a⟩:=a;split at a
    . rename_i he;simp only[dy,dG]at a;obtain⟨rfl,rfl,rfl⟩:=a;refine⟨⟨_,⟨L,h1,cs,j,by rw[he]⟩,λb=>?_⟩,λb f=>?_⟩
      . simp only[cS,cy,iB];grind
      simp_all[cy,j1,cS,ao,dn]
    . cases a
   case load g k x=>
    have:=yk rfl a;subst this;refine⟨⟨J',?_,λb=>rfl⟩,λb _=>rfl⟩;simp only[aL,bf]at a⊢;obtain⟨⟨n,v0⟩,h1,a⟩:=a;refine⟨(n,v0),h1,?_⟩;dsimp only at a⊢;split at a
    . rename_i b o;rw[ht b (by simp[dS,KZ h1])];split at a
      all_goals simp_all
    . rename_i b sz i o;rw[ht b (by simp[dS,Te h1])];split at a
      . simp_all
      . simp_all
      . split at a
        . grind
        . rename_i al;split at a
          all_goals simp_all
      grind
    all_goals simp_all
   case store k x y=>
    simp only[aL,bf,eg]at a⊢;obtain⟨⟨n,v0⟩,h1,d,j,cs,A,F,a⟩:=a;have D:∀(b:Nat) (Q:bJ),dT env x=[b]->J1=cW J b Q->(∀c,aR (cW J' b Q) c=if cy xb (.store k x y) env key c then aR J1 c else aR J' c)/\∀c,cy xb (.store k x y) env key c=false->aR J1 c=aR J c:=by
     intro b Q f hs;subst hs;refine⟨λc=>?_,λc l=>?_⟩
     . simp only[cy,f,kC,jG,iA,iB,cS];grind
     . simp only[cy,f,kC,jG,iA,j1]at l;rw[cS,ao (dn l)]
    dsimp only at a⊢;split at a
    . rename_i b o;have f:=KZ h1;split at a
      . rename_i W I;simp only[eg,dy,dG]at a;obtain⟨bj,rfl,rfl,C⟩:=a;obtain⟨f1,f2⟩:=D b _ f C.symm;refine⟨⟨_,⟨(n,.c (.ptr b o)),h1,d,j,cs,A,F,?_⟩,f1⟩,f2⟩;dsimp only;rw[ht b (by simp[dS,f]),I];dsimp only;rw[ad bj]
      . rename_i E V I;split at a
        . rename_i c;simp only[dy,dG]at a;obtain⟨rfl,rfl,C⟩:=a;obtain⟨f1,f2⟩:=D b _ f C.symm;refine⟨⟨_,⟨(n,.c (.ptr b 1)),h1,d,j,_,A,F,?_⟩,f1⟩,f2⟩;dsimp only;rw[ht b (by simp[dS,f]),I];rfl
        . cases a
      . cases a
    . rename_i b sz i o;have f:=Te h1;split at a
      . rename_i M es w;split at a
        . rename_i c l;simp only[dy,dG]at a;obtain⟨rfl,rfl,C⟩:=a;obtain⟨f1,f2⟩:=D b _ f C.symm;refine⟨⟨_,⟨(n,.c (.cA b sz i o)),h1,d,j,cs,A,F,?_⟩,f1⟩,f2⟩;dsimp only;rw[ht b (by simp[dS,f]),w];dsimp only;rw[l]
        rename_i l;simp only[bf,dy,dG]at a;obtain⟨ts,bj,rfl,rfl,C⟩:=a;obtain⟨f1,f2⟩:=D b _ f C.symm;refine⟨⟨_,⟨(n,.c (.cA b sz i o)),h1,d,j,cs,A,F,?_⟩,f1⟩,f2⟩;dsimp only;rw[ht b (by simp[dS,f]),w];dsimp only;rw[l];dsimp only;rw[bj];rfl
      . rename_i W I;simp only[eg,dy,dG]at a;obtain⟨bj,rfl,rfl,C⟩:=a;obtain⟨f1,f2⟩:=D b _ f C.symm;refine⟨⟨_,⟨(n,.c (.cA b sz i o)),h1,d,j,cs,A,F,?_⟩,f1⟩,f2⟩;dsimp only;rw[ht b (by simp[dS,f]),I];dsimp only;rw[ad bj]
      . rename_i M es ae af V w;split at a
        . rename_i c;split at a
          . rename_i O;simp only[dy,dG]at a;obtain⟨rfl,rfl,C⟩:=a;obtain⟨f1,f2⟩:=D b _ f C.symm;refine⟨⟨_,⟨(n,.c (.cA b sz i o)),h1,d,j,_,A,F,?_⟩,f1⟩,f2⟩;dsimp only;rw[ht b (by simp[dS,f]),w];dsimp only;rw[ad O]
          . rename_i O;simp only[bf,dy,dG]at a;obtain⟨t,bj,rfl,rfl,C⟩:=a;obtain⟨f1,f2⟩:=D b _ f C.symm;refine⟨⟨_,⟨(n,.c (.cA b sz i o)),h1,d,j,_,A,F,?_⟩,f1⟩,f2⟩;dsimp only;rw[ht b (by simp[dS,f]),w];dsimp only;rw[ao O,bj];rfl
        . cases a
      . cases a
    . cases a
   case append te sz by' x y=>
    simp only[aL,bf]at a⊢;obtain⟨⟨n,v0⟩,h1,⟨d1,d2⟩,j,a⟩:=a;dsimp only at a;cases G:mc v0 d2 with
    |some r=>
     rw[G]at a;have H:=G;unfold mc at H;split at H
     . rename_i b s1 off len U aa T S;split at H
       . cases H;have B:=DN h1;dsimp only at a;unfold uC at a;dsimp only at a;split at a
         . rename_i ag es w;simp only[dy,dG]at a;obtain⟨rfl,rfl,rfl⟩:=a;refine⟨⟨cW (gU J' b) key (.arr sz (es.take len++(es.drop T).take S)),⟨(n,.c (.arr b s1 off len)),h1,(d1,.c (.fA U aa T S)),j,?_⟩,λc=>?_⟩,λc l=>?_⟩
           . dsimp only;rw[G];dsimp only;unfold uC;dsimp only;rw[ht b (by simp[dS,B]),w]
           . simp only[cS,e4,cy,B,kC,jG,iA,l',iB];by_cases h:c=key
             . subst h;simp
             . rw[ao (dn h)];by_cases u:c=b
               . subst u;simp[h,dn h]
               . rw[ao (dn u),ao (by simp[h,u])]
           . simp only[cy,B,kC,jG,iA,wM,j1]at l;rw[cS,e4,ao (dn l.1),ao (dn l.2)]
         . cases a
       . cases H
     . cases H
    |none=>
    rw[G]at a;simp only[bf]at a;obtain⟨N,A,a⟩:=a;have P:lG J' d2=some N:=by
     unfold lG at A⊢;split at A
     . exact A
     . exact A
     . rename_i b M off len;rw[ht b (by simp[dS,DN j])];exact A
     . cases A
    split at a
    . have B:dT env x=[]:=(by simp[dT,h1]);simp only[dy,dG]at a;obtain⟨rfl,rfl,rfl⟩:=a;refine⟨⟨_,⟨(n,.c .bD),h1,(d1,d2),j,by dsimp only;rw[G];simp only[bf];exact⟨N,P,rfl⟩⟩,λb=>?_⟩,λb f=>?_⟩
      . simp only[cS,cy,B,jG,iA,iB];by_cases h:b=key
        . subst h;simp
        . rw[ao (dn h),ao h]
      . simp only[cy,B,jG,iA,j1]at f;rw[cS,ao (dn f)]
    . rename_i b M off len;have B:=DN h1;split at a
      . rename_i ah es w;split at a
        . cases a
        . rename_i Y;simp only[dy,dG]at a;obtain⟨rfl,rfl,rfl⟩:=a
          refine⟨⟨_,⟨(n,.c (.arr b M off len)),h1,(d1,d2),j,by
           dsimp only;rw[G];simp only[bf];refine⟨N,P,?_⟩;rw[ht b (by simp[dS,B]),w];dsimp only
           rw[ao Y]⟩,λc=>?_⟩,λc l=>?_⟩
          . simp only[cS,e4,cy,B,kC,jG,iA,l',iB];by_cases h:c=key
            . subst h;simp
            . rw[ao (dn h)];by_cases u:c=b
              . subst u;simp[h,dn h]
              . rw[ao (dn u),ao (by simp[h,u])]
          . simp only[cy,B,kC,jG,iA,wM,j1]at l;rw[cS,e4,ao (dn l.1),ao (dn l.2)]
      . cases a
    . rename_i b len;have B:=Td h1;split at a
      . rename_i R es w;obtain⟨s,hs,a⟩:=kB.1 a;cases a
        refine⟨⟨_,⟨(n,.c (.cr b len)),h1,(d1,d2),j,by
         dsimp only;rw[G];simp only[bf];refine⟨N,P,?_⟩;rw[ht b (by simp[dS,B]),w];dsimp only;rw[hs]
         rfl⟩,λc=>?_⟩,λc l=>?_⟩
        . simp only[cS,e4,cy,B,kC,jG,iA,l',iB];by_cases h:c=key
          . subst h;simp
          . rw[ao (dn h)];by_cases u:c=b
            . subst u;simp[h,dn h]
            . rw[ao (dn u),ao (by simp[h,u])]
        . simp only[cy,B,kC,jG,iA,wM,j1]at l;rw[cS,e4,ao (dn l.1),ao (dn l.2)]
      . cases a
    . cases a
   case allocS e e8=>
    simp only[aL,dy,dG]at a⊢;obtain⟨rfl,rfl,rfl⟩:=a;refine⟨⟨_,⟨rfl,rfl,rfl⟩,λb=>?_⟩,λb f=>?_⟩
    . simp only[cS,cy,l',iB];by_cases h:key=b
      . rw[ad h,ad (.inl h.symm),ad h]
      . rw[ao h];by_cases u:key+1=b
        . rw[ad u,ad (.inr u.symm),ao h,ad u]
        . rw[ao u,a']
    . simp only[cy,wM,j1]at f;rw[cS,ao (dn f.1),cS,ao (dn f.2)]
   case mkset=>
    simp only[aL,dy,dG]at a⊢;obtain⟨rfl,rfl,rfl⟩:=a;refine⟨⟨_,⟨rfl,rfl,rfl⟩,λb=>?_⟩,λb f=>?_⟩
    . simp only[cS,cy,iB];by_cases h:b=key
      . subst h;simp
      . rw[ao (dn h),ao h]
    . simp only[cy,j1]at f;rw[cS,ao (dn f)]
   case lkset x y=>
    have:=yk rfl a;subst this;refine⟨⟨J',?_,λb=>rfl⟩,λb _=>rfl⟩;simp only[aL,bf]at a⊢;obtain⟨⟨n,v0⟩,h1,⟨d1,d2⟩,j,a⟩:=a;refine⟨(n,v0),h1,(d1,d2),j,?_⟩;dsimp only at a⊢;split at a
    . rename_i b s;rw[ht b (by simp[dS,LV h1])];split at a
      . simp only[dy,dG]at a⊢;exact⟨a.1,a.2.1,trivial⟩
      . cases a
    . cases a
   case upset x y=>
    simp only[aL,bf]at a⊢;obtain⟨⟨n,v0⟩,h1,⟨d1,d2⟩,j,a⟩:=a;dsimp only at a⊢;split at a
    . rename_i b s;have f:=LV h1;split at a
      . rename_i ks X;simp only[dy,dG]at a;obtain⟨rfl,rfl,rfl⟩:=a
        refine⟨⟨_,⟨(n,.c (.mp b)),h1,(d1,.c (.t (.str s))),j,by
         dsimp only
         rw[ht b (by simp[dS,f]),X]⟩,λc=>?_⟩,λc l=>?_⟩
        . simp only[cy,f,kC,jG,iA,iB,cS];by_cases h:c=b
          . subst h;simp
          . rw[ao (dn h),ao h]
        . simp only[cy,f,kC,jG,iA,j1]at l;rw[cS,ao (dn l)]
      . cases a
    . cases a
   case appendB e by' x y=>
    simp only[aL,bf]at a⊢;obtain⟨⟨n,v0⟩,h1,⟨d1,d2⟩,j,a⟩:=a;dsimp only at a⊢;split at a
    . rename_i b len s;have f:=Td h1;split at a
      . rename_i R es w;simp only[dy,dG]at a;obtain⟨rfl,rfl,rfl⟩:=a
        refine⟨⟨_,⟨(n,.c (.cr b len)),h1,(d1,.c (.t (.str s))),j,by
         dsimp only
         rw[ht b (by simp[dS,f]),w]⟩,λc=>?_⟩,λc l=>?_⟩
        . simp only[cS,e4,cy,f,kC,jG,iA,l',iB];by_cases h:c=key
          . subst h;simp
          . rw[ao (dn h)];by_cases u:c=b
            . subst u;simp[h,dn h]
            . rw[ao (dn u),ao (by simp[h,u])]
        . simp only[cy,f,kC,jG,iA,wM,j1]at l;rw[cS,e4,ao (dn l.1),ao (dn l.2)]
      . cases a
    . cases a
   case ustr e x y=>
    simp only[aL,bf]at a⊢;obtain⟨⟨n,v0⟩,h1,⟨d1,d2⟩,j,a⟩:=a;dsimp only at a⊢;split at a
    . rename_i b m;have f:=ZG h1;split at a
      . rename_i R es w;simp only[dy,dG]at a;obtain⟨rfl,rfl,rfl⟩:=a
        refine⟨⟨_,⟨(n,.c (.ei b)),h1,(d1,.c (.t (.int .i64 m))),j,by
         dsimp only
         rw[ht b (by simp[dS,f]),w]⟩,λc=>?_⟩,λc l=>?_⟩
        . simp only[e4,cy,f,kC,jG,iA,iB];by_cases h:c=b
          . subst h;simp
          . rw[ao (dn h),ao h]
        . simp only[cy,f,kC,jG,iA,j1]at l;rw[e4,ao (dn l)]
      . cases a
    . cases a
   all_goals simp[aL]at a
inductive DStep (xb:aY)(P:Program)(o:bX)(key:Nat)(env:Env)(J:a6)(g:Bool)(v:V):a6->Prop
 |op {p:Prop} {J2:a6} (al:fM env o.guard = some g) (ahH:o.op.drawn = true) (xV:aL o.op env J key = some (p,v,J2)) (ai:g = true->p) (ahL:o.op.neutral = true\/g = true):
  DStep xb P o key env J g v (if o.op.neutral then J else J2)
 |skip (al:fM env o.guard=some g) (ahI:g=false):DStep xb P o key env J g v J
 |call {p:Prop} {f:Nat} {args:List aO} {vs:List V} (Gm:o.op = .call f args) (al:fM env o.guard = some g) (xV:hF env args = some (p,vs)) (ai:g = true->p/\V.az.V.dj (lt 0) vs = true/\v.az (lt 0) = true/\d' P f vs [] 0 (λtU _ _=>tU = v)):
  DStep xb P o key env J g v J
 |h6 {p q:Prop} {f:Nat} {x:aO} {args:List aO} {vs:List V} (Gm:o.op = .h6 x args) (aN:o.guard = none) (afu:g = true) (I:x.get env = some (q, .c (.fn f []))) (ahM:q) (xW:gL P f = true) (xV:hF env args = some (p,vs))
  (ai:p/\V.az.V.dj (lt 0) vs=true/\v.az (lt 0)=true/\d' P f vs [] 0 (λtU _ _=>tU=v)):DStep xb P o key env J g v J
 |own {p:Prop} {f:Nat} {args:List aO} {vs:List V} {r:V} {s:a6} {M:Nat} (Gm:o.op = .call f args) (al:fM env o.guard = some g) (aN:o.guard = none) (xV:hF env args = some (p,vs)) (ai:p) (xW:V.az.V.dj (lt 0) vs = true) (afs:M<=16) (hk:s.all (λx=>x.1<16) = true)
  (Qx:d' P f vs [] 0 (λtU s' FC=>tU=r/\s'=s/\FC=M)) (Qy:v=r.sh key):DStep xb P o key env J g v (mv J key s)
 |raw {p:Prop} {f:Nat} {args:List aO} {vs:List V} {bs:aY} {r:V} {s:a6} {M:Nat} (Gm:o.op = .call f args) (al:fM env o.guard = some g) (afu:g = true) (xV:hF env args = some (p,vs)) (ai:p)
  (bV:bs.Nodup) (aE:∀b,b∈bs->b<key) (ahJ:∀b,b∈bs->∃x,aR J b=some x) (ahO:∀b,b∈bs->b∈kS env args++xb) (afs:M<=bs.length+16) (hk:s.all (λx=>decide (x.1<bs.length+16))=true)
  (Qx:d' P f (vs.map (V.bN bs)) (fu bs J 0 bs) bs.length (λtU s' FC=>tU=r/\s'=s/\FC=M)) (Qy:v=r.b6 (back bs key)):DStep xb P o key env J g v (hg J bs (back bs key) s)
theorem DStep.hb{o:bX}{g:Bool}(h:DStep xb P o key env J g v J1)(bM:K (eb env o.dst g v) J1):hb P o key env J K:=by
 cases h with
 | @op p J2 al F c ai H=>
  grind[Shv.hb,aL]
 |skip al G=>
  grind[Shv.hb]
 | @call p f args vs a al c ai=>
  unfold Shv.hb;grind[hL.QT]
 | @h6 p q f x args vs a aN w I L t c ai=>
  grind[Shv.hb,fM,hL.QT]
 | @raw p f args vs bs r s M a al w c ai bV aE y N j A e B=>
  unfold Shv.hb;rw[a];dsimp;have E:hL P f vs J key (λD J'=>K (eb env o.dst true D) J'):=by
   refine hL.agl bV aE y e ?_;grind
  grind
 | @own p f args vs r s M a al aN c ai t j A e B=>
  unfold Shv.hb;rw[al];rw[a];grind[fM,hL.agk]
theorem LW{o:bX}{t:Nat}(h:t∈o.op.reads):t∈o.rd:=by grind[bX.rd]
theorem yZ{o:bX}(h:∀t,t∈o.rd->look env' t=look env t):fM env' o.guard=fM env o.guard:=by
 grind[fM,bX.rd]
theorem HS{s:a6}(d:s.all (λx=>x.1<16)=true){b:Nat}(a:¬(key<=b/\b<key+16))(J:a6):aR (mv J key s) b=aR J b:=by
 rw[yB];by_cases h:key<=b
 . have:aR s (b-key)=none:=by
    cases hs:aR s _ with
    |none=>rfl
    |some x=>
     have:∀{s:a6} {c:Nat} {x:bJ},aR s c=some x->s.all (λx=>x.1<16)=true->c<16:=by
      induction s with
      |nil=>grind[aR]
      |cons y r ih=>
       grind[aR]
     grind
   grind
 grind
theorem lj(h:∀t,t∈x.tmps->look env' t=look env t):dT env' x=dT env x:=by
 unfold dT;rw[dm h]
theorem IQ{args:List aO}(h:∀t,t∈args.flatMap aO.tmps->look env' t=look env t):kS env' args=kS env args:=by
 induction args with
 |nil=>rfl
 |cons x r ih=>
  grind[kS,dm]
theorem aaw(h:∀t,t∈o.reads->look env' t=look env t)(b:Nat):cy xb o env' key b=cy xb o env key b:=by
 cases o<;>try rfl
 case store k x v=>grind[cy,lj,cH.reads]
 case append te sz by' x y=>grind[cy,lj,cH.reads]
 case upset x y=>grind[cy,lj,cH.reads]
 case appendB e k x y=>grind[cy,lj,cH.reads]
 case ustr e x y=>grind[cy,lj,cH.reads]
 case call f args=>simp[cy];rw[IQ h]
theorem aax(h:∀t,t∈o.reads->look env' t=look env t):dS xb o env' key=dS xb o env key:=by
 cases o<;>try rfl
 case b2s x=>grind[dS,lj,cH.reads]
 case load g k x=>grind[dS,lj,cH.reads]
 case store k x v=>grind[dS,lj,cH.reads]
 case lkset x y=>grind[dS,lj,cH.reads]
 case upset x y=>grind[dS,lj,cH.reads]
 case appendB e k x y=>grind[dS,lj,cH.reads]
 case ustr e x y=>grind[dS,lj,cH.reads]
 case call f args=>simp[dS];rw[IQ h]
 grind[dS,lj,cH.reads]
theorem DStep.local{o:bX}{g:Bool}(h:DStep xb P o key env J g v J1)(he:∀t,t∈o.rd->look env' t=look env t)(ht:∀b,b∈dS xb o.op env key\/cy xb o.op env key b=true->aR J' b=aR J b):
 (∃bh,DStep xb P o key env' J' g v bh/\∀b,aR bh b=if cy xb o.op env key b then aR J1 b else aR J' b)/\∀b,cy xb o.op env key b=false->aR J1 b=aR J b:=by
 have A:=λt h=>he t (LW h);cases h with
 | @op p J2 al O w ai S=>
  obtain⟨⟨bh,h1,K⟩,L⟩:=ZH (J':=J') w (λb c=>ht b (.inl c));have aN:o.op.neutral=true->∀b,cy xb o.op env key b=false:=by intro aN b;generalize o.op=W at aN;cases W<;>simp[cH.neutral]at aN<;>rfl
  refine⟨⟨_,DStep.op (J2:=bh) (p:=p) (by rw[yZ he];exact al) O (by rw[aaU A];exact h1) ai S,λb=>?_⟩,λb c=>?_⟩
  . by_cases y:o.op.neutral=true
    . rw[ad y,aN y b];rfl
    . rw[ao y,ao y];exact K b
  . by_cases y:o.op.neutral=true
    . rw[ad y]
    . rw[ao y];exact L b c
 |skip al R=>
  refine⟨⟨J',DStep.skip (by rw[yZ he];exact al) R,λb=>?_⟩,λb _=>rfl⟩;split
  . rename_i j;exact ht b (.inr j)
  . rfl
 | @call p f args vs a al w ai=>
  refine⟨⟨J',DStep.call a (by rw[yZ he];exact al) (by rw[yC λt h=>A t (by rw[a];exact h)];exact w) ai,λb=>?_⟩,λb _=>rfl⟩;split
  . rename_i j;exact ht b (.inr j)
  . rfl
 | @h6 p q f x args vs a aN F I U c w ai=>
  refine⟨⟨J',DStep.h6 a aN F (by rw[dm λt h=>A t (by rw[a];simp[cH.reads,h])];exact I) U c (by rw[yC λt h=>A t (by rw[a];simp only[cH.reads,fH];exact .inr h)];exact w) ai,λb=>?_⟩,λb _=>rfl⟩;split
  . rename_i j;exact ht b (.inr j)
  . rfl
 | @own p f args vs r s M a al aN w ai c E B H G=>
  refine⟨⟨_,DStep.own a (by rw[yZ he];exact al) aN (by rw[yC λt h=>A t (by rw[a];exact h)];grind) ai c E B H G,λb=>?_⟩,λb N=>?_⟩
  . by_cases D:key<=b/\b<key+16
    . have j:cy xb o.op env key b=true:=by rw[a];simp[cy,D.1,D.2]
      rw[ad j];have e:=ht b (.inr j);rw[yB,yB,e]
    . rw[HS B D];split
      . rename_i j;rw[HS B D];exact ht b (.inr j)
      . rfl
  grind[cy,HS]
 | @raw p f args vs bs r s M a al F w ai bV aE X Y E B H G=>
  have Z:∀b,b∈kS env args++xb->b∈dS xb o.op env key:=by intro b c;rw[a];simp only[dS,fH];exact .inr (fH.1 c)
  have Q:∀t,t∈args.flatMap aO.tmps->look env' t=look env t:=λt h=>A t (by rw[a];exact h)
  refine⟨⟨_,DStep.raw (bs:=bs) a (by rw[yZ he];exact al) F (by rw[yC Q];omega) ai bV aE (λb c=>by grind) (λb c=>by grind[IQ]) E B
   (by grind[S4]) G,λb=>?_⟩,λb N=>?_⟩
  . by_cases j:cy xb o.op env key b=true
    . grind[Sj,qO]
    . grind[cy,Bool.or_eq_false_iff,Bool.and_eq_false_iff,decide_eq_false_iff_not,H5]
  grind[cy,Bool.or_eq_false_iff,Bool.and_eq_false_iff,decide_eq_false_iff_not,H5]
def xF(xb:aY)(P:Program):List bX->Nat->Env->a6->(Env->a6->Prop)->Prop
 |[],_,env,J,K=>K env J
 |o::r,key,env,J,K=>∃g v J1,DStep xb P o key env J g v J1/\xF xb P r (key+16) (eb env o.dst g v) J1 K
structure oB (xb:aY)(P:Program)(aZ:List bX)(N:Nat)(E:Nat->Env)(T:Nat->a6)(G:Nat->Bool)(W:Nat->V):Prop where
 step:∀(i:Nat) o,aZ[i]?=some o->DStep xb P o (N+16*i) (E i) (T i) (G i) (W i) (T (i+1))/\E (i+1)=eb (E i) o.dst (G i) (W i)
theorem Jf:∀{aZ:List bX} {key:Nat} {env:Env} {J:a6} {K:Env->a6->Prop},xF xb P aZ key env J K->∃E T G W,oB xb P aZ key E T G W/\E 0=env/\T 0=J/\K (E aZ.length) (T aZ.length)
 |[],key,env,J,K,h=>⟨λ_=>env,λ_=>J,λ_=>true,λ_=>.aX [],⟨λi o h=>by grind⟩,rfl,rfl,h⟩
 |o::r,key,env,J,K,h=>by
  obtain⟨g,v,J1,h1,a⟩:=h;obtain⟨E,T,G,W,b,aC,d,bM⟩:=Jf a;refine⟨λi=>if i=0 then env else E (i-1),λi=>if i=0 then J else T (i-1),λi=>if i=0 then g else G (i-1),λi=>if i=0 then v else W (i-1),⟨λi c e=>?_⟩,rfl,rfl,by grind⟩;cases i with
  |zero=>grind
  |succ i=>
   have:=b.step i c (by grind);grind
end
end
section
open Go
variable {xb:aY}
variable{p:Nat->Bool}{L:List (bX×aY)}{j:Nat}{env:Env}{o:cH}{w:World}{φ:cU}{a:Act}{J:a6}{S:cR}{D:Nat->aY}{listed:Array Bool}{Q:Exit->Act->World->Prop}
theorem JW:∀{m:Nat},(∃i,i<m/\p i=true)->∃i,i<m/\p i=true/\∀j,j<m->p j=true->j<=i
 |0,⟨i,h,_⟩=>by omega
 |m+1,⟨i,h1,a⟩=>by
  cases d:p m with
  |true=>grind
  |false=>
   have:i<m:=(by grind);obtain⟨k,b,c,bj⟩:=JW ⟨i,this,a⟩;grind
theorem x'{P:Program}{nt:Nat}{ops:Array Oper}:∀{l:List Oper} {aZ:List bX},gI P nt ops l=some aZ->aZ.length=l.length
 |[],aZ,h=>by grind[gI]
 |o::l,aZ,h=>by
  simp[gI,bf,bn]at h;obtain⟨b,c,r,a,rfl⟩:=h;simp[x' a]
theorem H6{P:Program}{nt:Nat}{ops:Array Oper}:∀{l:List Oper} {aZ:List bX} {i:Nat} {o:Oper},gI P nt ops l=some aZ->l[i]?=some o->∃a,aZ[i]?=some a/\vY P nt ops o=some a
 |[],aZ,i,o,h,b=>by grind
 |x::l,aZ,i,o,h,b=>by
  simp[gI,bf,bn]at h;obtain⟨a,d,r,c,rfl⟩:=h;cases i with
  |zero=>grind
  |succ i=>simpa using H6 c (by grind)
theorem HO:∀{l:List (bX×aY)} {k i:Nat} {x:bX×aY},Ec k l=true->l[i]?=some x->∀d,d∈x.2->d<k+i
 |[],k,i,x,h,I,d,a=>by grind
 |y::r,k,i,x,h,I,d,a=>by
  simp[Ec]at h;cases i with
  |zero=>grind
  |succ i=>
   have:=HO h.2 (by simpa using I) d a;omega
theorem aay{i:Nat}(h:ahead L j i=true):j<i/\∃x,L[i]?=some x/\j∈x.2:=by
 grind[ahead]
theorem Tf{key b:Nat}(ht:o.hU=true)(a:cy xb o env key b=true):b∈dS xb o env key:=by
 cases o
 case call f args=>
  simp[cy]at a;simp[dS];rcases a with h|h
  . exact .inl ⟨b-key,by omega,by omega⟩
  grind
 all_goals simp[cH.hU]at ht<;>simp[cy,dS]at a⊢<;>first|exact a|(rcases a with h|h;exact .inl h;exact .inr (.inl h))
theorem YM{key:Nat}(ht:o.hU=false):dS xb o env key=[]:=by
 cases o<;>simp[cH.hU]at ht<;>rfl
theorem K0{key b:Nat}(a:cy xb o env key b=true):o.neutral=false:=by
 cases o<;>simp[cy]at a<;>rfl
theorem NY{key b:Nat}(ht:o.hU=false)(a:cy xb o env key b=true):key<=b/\b<key+16:=by
 cases o<;>simp[cH.hU]at ht<;>simp[cy]at a
section
variable {P:Program}{av:Ctx}{nt kk:Nat}{N:Nat}{ops:Array Oper}{aZ:List bX}{E:Nat->Env}{T:Nat->a6}{G:Nat->Bool}{W:Nat->V}
theorem Rel.afk{env':Env}{n:Nat->Bool}(R:Rel av nt φ S env J n a w)(h:∀t,look env' t=look env t):Rel av nt φ S env' J n a w:=
 ⟨R.bB,λk g v ae=>R.fP k g v (h k▸ae),λk g v ae=>R.gN k g v (h k▸ae),λk g v ae=>R.fO k g v (h k▸ae),R.dp,R.size,R.defers,R.ext,R.own,R.fix,R.gb⟩
def iF(xb:aY)(aZ:List bX)(E:Nat->Env)(N i b:Nat):Bool:=match aZ[i]? with|some o=>cy xb o.op (E i) (N+16*i) b|none=>false
theorem vH(c:oB xb P aZ N E T G W){t:Nat}{i:Nat}:∀{k:Nat},i<=k->k<=aZ.length->(∀(j:Nat) (o:bX),i<=j->j<k->aZ[j]?=some o->o.dst≠some t)->look (E k) t=look (E i) t:=by
 intro k;induction k with
 |zero=>grind
 |succ k ih=>
  intro h1 d e;by_cases f:i=k+1
  . grind
  . have a:k<aZ.length:=(by omega);have b:=eC a;rw[(c.step k _ b).2,mJ];grind
theorem Eg(f:oB xb P aZ N E T G W){b:Nat}{i:Nat}:∀{k:Nat},i<=k->k<=aZ.length->(∀j:Nat,i<=j->j<k->iF xb aZ E N j b=false)->aR (T k) b=aR (T i) b:=by
 intro k;induction k with
 |zero=>grind
 |succ k ih=>
  intro h1 g d;by_cases l:i=k+1
  . grind
  . have e:k<aZ.length:=(by omega);have c:=eC e;have a:=d k (by omega) (by simp);unfold iF at a;rw[c]at a;have:=((f.step k _ c).1.local (λ_ _=>rfl) (λ_ _=>rfl)).2 b a;grind
inductive iW (D:Nat->aY)(j:Nat):Nat->Prop
 |one {i:Nat} (h:j∈D i):iW D j i
 |step {e i:Nat} (h:iW D j e) (he:e∈D i):iW D j i
theorem iW.ready{n:Nat}(a:∀i d,i<n->d∈D i->d<i)(f:∀e,e<n->p e=true->∀d,d∈D e->p d=true){i:Nat}(h:iW D j i)(o:i<n)(c:∀d,d∈D i->p d=true):p j=true:=by
 induction h<;>grind
theorem iW.congr{a:Nat->aY}{n:Nat}(c:∀i d,i<n->d∈D i->d<i)(f:∀i,i<n->D i=a i){i:Nat}(h:iW D j i)(e:i<n):iW a j i:=by
 induction h with
 |one h=>exact .one (by grind)
 |step h he ih=>
  have:=c _ _ e he;exact .step (ih (by omega)) (by grind)
theorem Sc:∀{l:List (bX×aY)} {acc:List aY},(∀(k:Nat) x,l[k]?=some x->D (acc.length+k)=x.2)->(∀i j,j∈acc.getD i []->iW D j i)->∀i j,j∈(ny l acc).getD i []->iW D j i
 |[],acc,_,b,i,j,h=>b i j h
 |x::r,acc,c,b,i,j,h=>by
  refine Sc (acc:=acc++[(x.2++x.2.flatMap _).eraseDups]) (λk y ag=>?_) (λi j a=>?_) i j h
  . have:=c (k+1) y (by grind);grind
  . rw[List.getD_eq_getElem?_getD,List.getElem?_append]at a;split at a
    . grind
    . cases d:i-acc.length with
      |succ k=>grind
      |zero=>
       rw[d]at a;have f:i=acc.length:=(by omega);have I:=(by simpa using c 0 x rfl);simp[CF]at a;rcases a with a|⟨e,he,a⟩
       . exact .one (by grind)
       . exact .step (b e j a) (by grind)
structure Stat (xb:aY)(aZ:List bX)(D:Nat->aY)(E:Nat->Env)(N:Nat):Prop where
 back:∀i d,i<aZ.length->d∈D i->d<i
 wU:∀(i j:Nat) (x y:bX) (d:Nat),aZ[i]?=some x->aZ[j]?=some y->y.dst=some d->(d∈x.rd->(j<i/\j∈D i)\/(x.op.neutral=true/\x.op.hU=false/\i<j/\i∈D j))/\(i=j\/x.dst≠some d)
 ord:∀i j b,i≠j->i<aZ.length->j<aZ.length->iF xb aZ E N i b=true->((∃y:bX,aZ[j]?=some y/\b∈dS xb y.op (E j) (N+16*j))\/iF xb aZ E N j b=true)->(i<j/\iW D i j)\/(j<i/\iW D j i)
def used(N m:Nat)(listed:Array Bool):Nat->Bool:=λb=>lt N b||(List.range m).any λi=>listed.getD i false&&(decide (N+16*i<=b)&&decide (b<N+16*i+16))
structure Inv (xb:aY)(av:Ctx)(nt:Nat)(aZ:List bX)(D:Nat->aY)(N:Nat)(E:Nat->Env)(T:Nat->a6)(G:Nat->Bool)(W:Nat->V)(listed:Array Bool)(φ:cU)(S:cR)(env:Env)(J:a6)(a:Act)(w:World):Prop where
 rel:Rel av nt φ S env J (used N aZ.length listed) a w
 size:listed.size=aZ.length
 down:∀i,i<aZ.length->listed.getD i false=true->∀d,d∈D i->listed.getD d false=true
 ds:∀t,(∀(i:Nat) (o:bX),aZ[i]?=some o->listed.getD i false=true->o.dst≠some t)->look env t=look (E 0) t
 aC:∀t (i:Nat) (o:bX),aZ[i]?=some o->listed.getD i false=true->o.dst=some t->look env t=some (G i,W i)
 j5:∀b,(∀i,i<aZ.length->listed.getD i false=true->iF xb aZ E N i b=false)->aR J b=aR (T 0) b
 s1:∀b i,i<aZ.length->listed.getD i false=true->iF xb aZ E N i b=true->(∀j,j<aZ.length->listed.getD j false=true->iF xb aZ E N j b=true->j<=i)->aR J b=aR (T (i+1)) b
theorem kj{i:Nat}(a:i<listed.size):(listed.setIfInBounds i true).getD j false=if j=i then true else listed.getD j false:=by
 by_cases h:j=i
 . simp_all
 simp_all[dn]
theorem Inv.agree(cN:Inv xb av nt aZ D N E T G W listed φ S env J a w)(st:Stat xb aZ D E N)(v:oB xb P aZ N E T G W)
 {i:Nat}{o:bX}(R:aZ[i]?=some o)(aN:listed.getD i false=false)(H:∀d,d∈D i->listed.getD d false=true):
 (∀t,t∈o.rd->look env t=look (E i) t)/\∀b,b∈dS xb o.op (E i) (N+16*i)\/cy xb o.op (E i) (N+16*i) b=true->aR J b=aR (T i) b:=by
 have I:i<aZ.length:=(dH.1 R).1;refine⟨λt ht=>?_,λb aE=>?_⟩
 . by_cases U:∃(j:Nat) (y:bX),aZ[j]?=some y/\y.dst=some t
   . obtain⟨j,y,ag,x⟩:=U;rcases (st.wU i j o y t R ag x).1 ht with⟨h1,F⟩|⟨_,_,h1,F⟩
     . rw[cN.aC t j y ag (H j F) x];have:look (E (j+1)) t=some (G j,W j):=by rw[(v.step j y ag).2,mJ,ad x]
       rw[<-this]
       symm
       refine vH v (by omega) (by omega) λk z L M e B=>?_;rcases (st.wU k j z y t e ag x).2 with h|h
       all_goals grind
     . have f:j<aZ.length:=(dH.1 ag).1;have ax:∀(k:Nat) (z:bX),aZ[k]?=some z->z.dst=some t->k=j:=by
        intro k z e B;rcases (st.wU k j z y t e ag x).2 with h|h
        . grind
        grind
       rw[cN.ds t λk z e ae B=>by
        have:=ax k z e B;subst this;have:=cN.down k f ae i F
        grind]
       symm
       refine vH v (ia _) (by omega) λk z _ a0 e B=>?_;grind
   . have A:=λj y ag h=>U ⟨j,y,ag,h⟩;rw[cN.ds t λj y ag _=>A j y ag]
     symm
     exact vH v (ia _) (by omega) λj y _ _ ag=>A j y ag
 . have X:∀j,j≠i->j<aZ.length->iF xb aZ E N j b=true->(j<i/\iW D j i)\/(i<j/\iW D i j):=by
    intro j f c q;refine st.ord j i b f c I q ?_;grind[iF]
   have ae:∀j,j<aZ.length->listed.getD j false=true->iF xb aZ E N j b=true->j<i:=by
    intro j c Q q;have ap:j≠i:=(by grind);rcases X j ap c q with h|h
    . grind
    . have:=h.2.ready st.back cN.down c (cN.down j c Q);grind
   have an:∀j,j<i->iF xb aZ E N j b=true->listed.getD j false=true:=by
    intro j aF q;rcases X j (by omega) (by omega) q with h|h
    . exact h.2.ready (p:=λk=>listed.getD k false) st.back cN.down I H
    grind
   by_cases Y:∃j,j<i/\iF xb aZ E N j b=true
   . obtain⟨j,Z,K,am⟩:=JW Y;rw[cN.s1 b j (by omega) (an j Z K) K (λk L M O=>am k (ae k L M O) O)];grind[Eg]
   . have A:∀j,j<i->iF xb aZ E N j b=false:=(by grind);rw[cN.j5 b λj c Q=>by grind]
     symm
     exact Eg v (ia _) (by omega) λj _ f=>A j f
theorem aaV{m:Nat}{i b:Nat}(a:i<listed.size)(h:eo (used N m listed) (N+16*i) b=true)(c:i<m):used N m (listed.setIfInBounds i true) b=true:=by
 simp only[eo,used,l']at h⊢;grind[kj]
theorem Tg{m:Nat}{i:Nat}(aN:listed.getD i false=false){b:Nat}(h1:N+16*i<=b)(a:b<N+16*i+16):used N m listed b=false:=by
 simp only[used];grind[lt]
theorem Inv.step{ba:cR}{bh:a6}{bR:Act}{w':World}(cN:Inv xb av nt aZ D N E T G W listed φ S env J a w)(st:Stat xb aZ D E N)(Z:oB xb P aZ N E T G W)
 {i:Nat}{o:bX}(A:aZ[i]?=some o)(aN:listed.getD i false=false)(O:∀d,d∈D i->listed.getD d false=true)
 (B:∀b,aR bh b=if cy xb o.op (E i) (N+16*i) b then aR (T (i+1)) b else aR J b)
 (R:Rel av nt a8 ba (eb env o.dst (G i) (W i)) bh (eo (used N aZ.length listed) (N+16*i)) bR w'):
 Inv xb av nt aZ D N E T G W (listed.setIfInBounds i true) a8 ba (eb env o.dst (G i) (W i)) bh bR w':=by
 have q:i<aZ.length:=(dH.1 A).1;have f:i<listed.size:=by rw[cN.size];exact q
 have K:∀b,iF xb aZ E N i b=cy xb o.op (E i) (N+16*i) b:=λb=>by unfold iF;rw[A]
 refine⟨R.more λb x=>aaV f x q,by simp[cN.size],λj c ae d F=>?_,λt ht=>?_,λt j y ag ae L=>?_,λb x=>?_,λb j c ae I H=>?_⟩
 . rw[kj f]at ae⊢;split
   . rfl
   . split at ae
     . rename_i e;subst e;exact O d F
     . exact cN.down j c ae d F
 . rw[mJ,ao (ht i o A (by rw[kj f,ad rfl]))];exact cN.ds t λj y ag ae=>ht j y ag (by rw[kj f];split;rfl;exact ae)
 . rw[mJ];rw[kj f]at ae;by_cases p:j=i
   . grind
   . rw[ao p]at ae;rw[ao (λh=>?_)]
     . exact cN.aC t j y ag ae L
     . rcases (st.wU i j o y t A ag L).2 with M|M
       all_goals grind
 . rw[B b];have v:=x i q (by rw[kj f,ad rfl]);rw[K]at v;rw[v];exact cN.j5 b λj c ae=>x j c (by grind[kj])
 . rw[B b];rw[kj f]at ae;by_cases v:cy xb o.op (E i) (N+16*i) b=true
   . have X:i<=j:=H i q (by simp_all) (by grind);by_cases p:j=i
     . grind
     ·
      rw[ao p]at ae;rcases st.ord i j b (dn p) q c (by rw[K];exact v) (.inr I)with h|h
      . have:=h.2.ready st.back cN.down c (cN.down j c ae);rw[aN]at this;cases this
      . omega
   . rw[ao v];by_cases p:j=i
     . grind
     . rw[ao p]at ae;exact cN.s1 b j c ae I λk Q Y U=>H k Q (by grind[kj]) U
theorem Inv.done(cN:Inv xb av nt aZ D N E T G W listed φ S env J a w)(st:Stat xb aZ D E N)(e:oB xb P aZ N E T G W)
 (x:∀i,i<aZ.length->listed.getD i false=true):Rel av nt φ S (E aZ.length) (T aZ.length) (lt (N+16*aZ.length)) a w:=by
 refine((cN.rel.afk λt=>?_).congr λb=>?_).more λb A=>?_
 . by_cases q:∃(j:Nat) (y:bX),aZ[j]?=some y/\y.dst=some t
   . obtain⟨j,y,ag,v⟩:=q;have o:=(dH.1 ag).1;rw[cN.aC t j y ag _ _];have:look (E (j+1)) t=some (G j,W j):=by rw[(e.step j y ag).2,mJ,ad v]
     rw[<-this];refine vH e (by omega) (eB _) λk z f K M O=>?_;rcases (st.wU k j z y t M ag v).2 with h|h
     all_goals grind
   . have c:=λj y ag h=>q ⟨j,y,ag,h⟩;rw[cN.ds t λj y ag _=>c j y ag];exact vH e (ia _) (eB _) λj y _ _ ag=>c j y ag
 . by_cases B:∃j,j<aZ.length/\iF xb aZ E N j b=true
   . obtain⟨j,p,F,H⟩:=JW B;rw[cN.s1 b j p (x j p) F (λk f _ L=>H k f L)];refine Eg e (by omega) (eB _) λk f K=>?_;grind
   . have c:∀j,j<aZ.length->iF xb aZ E N j b=false:=(by grind);rw[cN.j5 b λj I _=>c j I];exact Eg e (ia _) (eB _) λj _ o=>c j o
 . simp[used,lt]at A⊢;grind
theorem XK(st:Stat xb aZ D E N)(m:oB xb P aZ N E T G W)(hres:gI P nt ops ops.toList=some aZ)(q:∀(i:Nat) o,ops[i]?=some o->D i=hf o)
 (v:∀φ S a w,Rel av nt φ S (E aZ.length) (T aZ.length) (lt (N+16*aZ.length)) a w->Q .normal a w):
 ∀(f:Nat) (listed:Array Bool) φ S env J a w,listed.toList.countP (· ==false)<=f->Inv xb av nt aZ D N E T G W listed φ S env J a w->wpAny P .any ops Q f listed a w:=by
 have F:=x' hres;simp at F;have H:∀(listed:Array Bool) (φ:cU) (S:cR) (env:Env) (J:a6) (a:Act) (w:World),Inv xb av nt aZ D N E T G W listed φ S env J a w->Region.ready .any ops listed=[]->∀i,i<aZ.length->listed.getD i false=true:=by
  intro listed φ S env J a w cN k i;induction i using Nat.strongRecOn with
  |_ i ih=>
   intro g;cases ae:listed.getD i false with
   |true=>rfl
   |false=>
    have C:i<ops.size:=(by omega);have j:ops[i]?=some ops[i]:=CO C;have:i∈Region.ready .any ops listed:=by
     rw[mem_ready];refine⟨?_,ops[i],j,λe he O=>?_⟩
     . have l:i<listed.size:=by rw[cN.size];grind
       grind
     . have c:e.on∈D i:=by
        rw[q i _ j];simp only[hf,eA,rA];grind
       exact ih e.on (st.back i _ g c) (by have:=st.back i _ g c;omega)
    grind
 have r:∀(listed:Array Bool) (φ:cU) (S:cR) (env:Env) (J:a6) (a:Act) (w:World),Inv xb av nt aZ D N E T G W listed φ S env J a w->Region.ready .any ops listed=[]->Q .normal a w:=by
  intro listed φ S env J a w cN k;exact v φ S a w (cN.done st m (H listed φ S env J a w cN k))
 intro f;induction f with
 |zero=>
  intro listed φ S env J a w B cN;have M:∀i,i<aZ.length->listed.getD i false=true:=by
   intro i g;have l:i<listed.size:=by rw[cN.size];grind
   cases ae:listed.getD i false with
   |true=>rfl
   |false=>
    exfalso;have h0:listed.toList.countP (· ==false)=0:=(by omega);rw[List.countP_eq_zero]at h0;simp[l]at ae;exact h0 listed[i] (by simp) (by grind)
  have k:Region.ready .any ops listed=[]:=by
   rw[QP];grind[mem_ready]
  exact⟨k,r listed φ S env J a w cN k⟩
 |succ f ih=>
  intro listed φ S env J a w B cN;refine⟨r listed φ S env J a w cN,λi g=>?_⟩;rw[mem_ready]at g;obtain⟨h1,o,j,R⟩:=g;have l:i<listed.size:=by grind
  have aN:listed.getD i false=false:=by grind
  obtain⟨n,p,I⟩:=H6 hres (i:=i) (o:=o) (by simpa using j);have c:∀d,d∈D i->listed.getD d false=true:=by
   intro d c;rw[q i o j]at c;simp only[hf,eA,rA]at c;grind
  obtain⟨x,y⟩:=cN.agree st m p aN c;obtain⟨⟨bh,hs,u⟩,_⟩:=(m.step i n p).1.local (env':=env) (J':=J) x y;have t:=DE cN.rel (key:=N+16*i) (λb z A=>Tg aN z A) I (K:=λe s=>e=eb env n.dst (G i) (W i)/\s=bh) (hs.hb ⟨rfl,rfl⟩) (Q:=Q);have next:∀bR w',jo av nt (eo (used N aZ.length listed) (N+16*i)) (λe s=>e=eb env n.dst (G i) (W i)/\s=bh) bR w'->wpAny P .any ops Q f (listed.setIfInBounds i true) bR w':=by
   rintro bR w' ⟨a8,ba,e,s,⟨rfl,rfl⟩,R'⟩
   refine ih _ a8 ba _ _ bR w' ?_ (cN.step st m p aN c u R');have:listed.toList[i]?=some false:=by simp[l]at aN⊢;exact aN
   grind
  unfold wpOp;rw[j];dsimp only;split at t
  . rename_i L;rw[ad L];exact .inl (Oper.wp_mono next t)
  grind
end
end
end Go.Proofs.YtklfhpkljddjbaaGreatDoor.Shv
