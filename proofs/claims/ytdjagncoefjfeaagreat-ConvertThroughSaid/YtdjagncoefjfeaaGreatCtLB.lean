/- The library of this proof, part B: an abstract machine for the code of the program, and its soundness. -/
import Derived.Lib.UnsafeStr
import Derived.ChangeKeysEq
import Derived.Orders
import Derived.LoopN
import Derived.Test.YtdjagncoefjfeaaGreatCtLA

namespace Go.Proofs.YtdjagncoefjfeaaGreat.Shv
set_option linter.all false
section
open Go
theorem C.mC(c:C):c.aE (λ_=>true)=true:=by cases c<;>simp[C.aE]
variable{e ty t:TypeId}{o:Oper}{x:Operand}{α:Type}{c:Call}{op:Op}{f id b0 off:Nat}{dst:Option Nat}{gd:Option (Nat×Bool)}{ops:Array Oper}{K:Env->ba->Prop}{Q:Exit->Act->World->Prop}{code:Code}{bb:List ca}{gg:List (Nat×Nat)}{bs:a7}{es:List (List T)}
section
variable {P:Program}{aD:Ctx}{nt kk:Nat}{φ:dD}{S bP:dU}{env:Env}{J:ba}{N key:Nat}{n:Nat->Bool}{a:Act}{w w':World}
theorem Rel.extend(R:Rel aD nt φ S env J n a w)(e:Ext (λ_=>False) S bP w w')(L:∀b j,bP b j->b<w'.heap.size):Rel aD nt φ bP env J n a w':=by
 have aa:=λb K=>e.block b K (λh=>h);have A:∀b x,aX J b=some x->(φ b).2≠0->∀j,¬bP (φ b).1 j:=by
  intro b x q h0 j F;have dj:=R.bO.blk b x q;rcases e.r' _ _ F with h|h|h
  . exact dj.qi h0 j h
  . grind
  . have:=dj.jZ h0;omega
 refine⟨⟨λb x q=>?_,R.bO.inj,L⟩,λk g v af aq=>?_,R.hJ,R.gK,R.dX,R.size,R.defers,?_,R.own,R.fix,R.fR⟩
 . have dj:=R.bO.blk b x q;cases x with
   |box cs=>
    obtain⟨h0,vs,E,h1,f,y⟩:=dj;refine⟨h0,vs,E,(aa _ (vQ h1)).trans h1,f.imp λc v M ag=>bp.mono e.mono (λ_ _=>rfl) (C.mC _) ag,A b _ q h0⟩
   |arr sz es=>
    obtain⟨h1,f,y,B,bf⟩:=dj;refine⟨h1,f,y,B,λh0=>?_⟩;obtain⟨vs,E,k1,k2,k3,k4⟩:=bf h0;exact⟨vs,E,(aa _ (vQ k1)).trans k1,k2,λi j D t he ht=>let⟨v,G,ag⟩:=k3 i j D t he ht;⟨v,G,cj.mono e.mono ag⟩,A b _ q h0⟩
   |set ks=>
    obtain⟨h0,⟨es,c,h1,f⟩,y⟩:=dj;exact⟨h0,⟨es,c,(aa _ (vQ h1)).trans h1,f⟩,A b _ q h0⟩
   |buf E s=>
    obtain⟨h1,f,y⟩:=dj;refine⟨h1,f,λh0=>?_⟩;grind
   |b9 E c=>
    obtain⟨h0,⟨p,v,h1,f,y⟩,B⟩:=dj;exact⟨h0,⟨p,v,(aa _ (vQ h1)).trans h1,f,bp.mono e.mono (λ_ _=>rfl) (C.mC _) y⟩,A b _ q h0⟩
   |cA sz es i o c=>
    obtain⟨⟨h1,f,y,B,bf,H⟩,⟨vs,E,k1,k2,k3,v,k4,k5⟩,k6⟩:=dj;exact⟨⟨h1,f,y,B,bf,H⟩,⟨vs,E,(aa _ (vQ k1)).trans k1,k2,λi j D t he ht aH=>let⟨v,G,ag⟩:=k3 i j D t he ht aH;⟨v,G,cj.mono e.mono ag⟩,v,k4,bp.mono (n:=λ_=>true) e.mono (λ_ _=>rfl) (C.mC _) k5⟩,A b _ q (by omega)⟩
 . obtain⟨x,q,ag⟩:=R.gL k g v af aq;exact⟨x,q,cl.mono e.mono (λ_ _=>rfl) (R.gK k g v af aq) ag⟩
 . refine⟨e.os.trans R.ext.os,e.tape.trans R.ext.tape,e.output.trans R.ext.output,gp R.ext.size e.size,λb aB dj=>?_,R.ext.mono.trans e.mono,λb j F=>?_⟩
   . exact(aa b (l9 aB R.ext.size)).trans (R.ext.block b aB dj)
   . rcases e.r' _ _ F with h|h|h
     . exact R.ext.r' b j h
     . grind
     . exact .inr (.inr (gp R.ext.size h))
theorem X0(R:Rel aD nt φ S env J n a w){len:Nat}{parts:Array (Nat×Operand)}(Y:o.op= .buildSlice ty len parts)(aa:P.underlying ty=some (.slice e)){sz:Nat}(Z:ev P e=some sz)
 {z:List C}(K:j3 P e=some z){ps:List (Nat×aR)}(I:pS parts.toList=some ps)(h0:sz≠0)(L:z.length=sz)(X:len*sz<=2^24)
 {p v J'}(W:n key=false)(h:aQ (.bsliceT e sz len z ps) env J key=some (p,v,J'))(H:p):Good P aD nt env J' (ins n key) a v ((execOp a.eval o).run P w):=by
 simp only[aQ,bn,bz,dV]at h;obtain⟨k,N,⟨q,f⟩,g,rfl,rfl,rfl⟩:=h;obtain⟨i,d,r,ah,m,U⟩:=tA (φ:=φ) (w:=w) (S:=S) (n:=n) K;have M:=rh N m;have ae:d.cells.size=sz:=by rw[<-B2,<-m.length,L]
 have y:0<sz:=by omega
 have af:k.length=sz:=by grind[wA]
 obtain ⟨us,h1,E,l,T,bf,_⟩:= HF R y I g H (es:= List.replicate len k) (vs:= ((Array.range (len*sz)).map (d.cells[· % d.cells.size]!)).toList) (by
  grind) (by simp) (by
  intro i j e t he ht;have:e=k:=by
   grind
  subst this;obtain⟨x,ad,ag⟩:=M.get ht
  grind[Hg])
 simp at l;have s:len<=dY:=by
  have:len<=len*sz:=FV len y;grind[dY]
 have u:=R.bO.st;have O:gr w S (w.alloc (.cells us.toArray e)) (λb j=>S b j\/b=w.heap.size):=⟨λ_ _ h=>.inl h,λb j h=>q7 (CT (u b j h)) j⟩
 have A:Ext (λ_=>False) S _ w (w.alloc (.cells us.toArray e)):=
  ⟨rfl,rfl,rfl,by simp,λb g _=>CT g,O,λb j h=>by grind⟩
 have B:=R.extend A (λb j h=>by
  rcases h with h|h
  . have:=u b j h;simp;omega
  simp_all)
 refine⟨.slice (some ⟨w.heap.size,0,none⟩) len len,φ,_,_,.inl ?_,?_,rfl,B.more λ_ h=>kz h⟩
 . have Q:Instr.fill (λi=>some (i*sz,sz)) ((Array.range (len*sz)).map (d.cells[· % d.cells.size]!)) ((parts.map λ(i,x)=>(i,a.eval x)).toList)=some us.toArray:=by
    rw[Array.toList_map];omega
   simp_all[TX,execOp,Sem.run_bind,Result.andThen_ok]
 . refine .c ?_;have F:f.length=len:=l;rw[<-F]at s⊢;have G:∀j,(w.alloc (.cells us.toArray e)).cell? _=us[j]?:=λj=>jm nR j;refine cj.slice f _ _ sz w.heap.size 0 (λi j=>(us[i*sz+j]?).getD undef) (d' _) s E (λ_=>rfl) (λi j r V=>⟨.inr rfl,?_⟩) (λi j D t he ht=>?_)
   . rw[h7,G];have aB:i*sz+j<us.length:=by
      have:=eX sz (show i+1<=f.length from r);grind
     grind
   . obtain⟨v,ab,ag⟩:=bf i j D t he ht;grind[cj.mono]
theorem Xe{e8:Nat}(h:zb P ty=some e8):∃i z,P.info? ty=some i/\i.zero=some z/\z.cells=#[.pointer none,.slice none 0 0]:=by
 grind[zb,Oz,bn,JK]
theorem XT(R:Rel aD nt φ S env J n a w)(u:o.op= .alloc ty){e8:Nat}(g:zb P ty=some e8)
 {p v J'}(s:n key=false)(m:n (key+1)=false)(h:aQ (.allocS ty e8) env J key=some (p,v,J'))(A:p):Good P aD nt env J' (ins (ins n (key+1)) key) a v ((execOp a.eval o).run P w):=by
 obtain⟨rfl,rfl,rfl⟩:=h;obtain⟨i,z,r,B,D⟩:=Xe g;have t:∀j,¬S w.heap.size j:=λj h=>by have:=R.bO.st _ _ h;omega
 have d:=(R.alloc (.cells #[.pointer none,.slice none 0 0] ty)).jt m (x:= .buf e8 []) (0,0) rfl (by simp[cZ,dw]) (by simp);have l:ins n (key+1) key=false:=by grind[ins]
 have e:=d.jt l (x:= .b9 ty (.cP (key+1) 0)) (w.heap.size,1) (by simp[bR.aE,C.aE,ins]) (by
  grind[cZ,nR,bp,fV]) (λ_=>⟨λk y b h0=>by
   rw[c2]at b;split at b
   . grind[dw]
   . rename_i q;have f:(φ k).2≠0:=(by simp_all[fV,ea]);have:=(R.bO.blk k y b).jZ f;simp[fV,ea q]
     omega,.inr R.ext.size⟩)
 refine⟨.pointer (some ⟨w.heap.size,0,none⟩),_,S,_,.inl ?_,.c ?_,by simp[V.aE,C.aE,ins],e⟩
 . simp_all[execOp,Instr.alloc,zeroValue,typeInfo,newVar,newRow]
 grind[bp,dw]
theorem Kc(h:tK P t=true):∃k v i,P.underlying t=some (.map k v)/\P.underlying k=some .string/\P.info? v=some i/\i.zero=some (.bool false):=by
 grind[tK,bn]
theorem YU(R:Rel aD nt φ S env J n a w)(f:o.op= .makeMap t none)
 {p v J'}(d:n key=false)(h:aQ .mkset env J key=some (p,v,J'))(i:p):Good P aD nt env J' (ins n key) a v ((execOp a.eval o).run P w):=by
 obtain⟨rfl,rfl,rfl⟩:=h;have e:∀j,¬S w.heap.size j:=λj h=>by have:=R.bO.st _ _ h;omega
 have b:=(R.alloc _).jt d (x:= .set []) (w.heap.size,1) rfl (by
  simp only[cZ,dw]
  exact⟨by simp,⟨[],0,nR,.nil⟩,e⟩) (λ_=>⟨λk y g h0=>by
   have:=(R.bO.blk k y g).jZ h0
   omega,.inr R.ext.size⟩)
 refine⟨.map (some w.heap.size),_,S,_,.inl ?_,.c ?_,by simp[V.aE,C.aE,ins],b⟩
 . simp[execOp,f,Instr.makeMap]
 grind[bp,dw]
theorem XU{s:ByteArray}{k:ak}:(s==(⟨k.toArray⟩:ByteArray))=decide (k=s.data.toList):=by
 grind[beq_toListBytes,ByteArray.toList_eq]
theorem Hh(s:ByteArray):∀{ks:List ak} {es:List MapEntry} (i:Nat),AZ ks es->
 (js ks s.data.toList=false/\Instr.findNow .string (.string s) es i=some none)\/
 (js ks s.data.toList=true/\∃j e,Instr.findNow .string (.string s) es i=some (some (i+j,.bool true))/\es[j]?=some e/\e.key= .string s/\e.val= .bool true)
 |_,_,i,.nil=>.inl ⟨rfl,rfl⟩
 |k::ks,e::es,i,.cons h ag=>by
  obtain⟨h1,g⟩:=h;have m:(s==⟨k.toArray⟩)=decide _:=XU;by_cases n:k=s.data.toList
  . refine .inr ⟨by grind[js],0,e,?_,rfl,?_,g⟩
    . simp_all[Instr.findNow,Instr.sameNow]
    simp_all
  . rcases Hh s (i+1) ag with⟨b,c⟩|⟨b,j,a,c,l,d,f⟩
    . grind[js,Instr.findNow,Instr.sameNow]
    . refine .inr ⟨by grind[js],j+1,a,?_,by grind,d,f⟩;grind[Instr.findNow,Instr.sameNow]
theorem DL{a:TypeId}(b:P.underlying a=some .string){s:ByteArray}{es:List MapEntry}{r:Option (Nat×Value)}(h:Instr.findNow .string (.string s) es 0=some r)(w:World):(Instr.findKey a (.string s) es).run P w= .ok r w:=by
 simp_all[Instr.findKey,run_underlying]
theorem CA{a:TypeId}(c:P.underlying a=some .string){s:ByteArray}(b:Bool)(w:World):(Instr.checkKey b 10000 a (.string s)).run P w= .ok () w:=by
 unfold Instr.checkKey;simp[run_underlying c]
theorem Di{b:Nat}{es:Array MapEntry}{c:Nat}(h:w.heap[b]?=some (.map es c)):(getObj b).run P w= .ok (.map es c) w:=by grind[getObj,Sem.run]
theorem Lf{b:Nat}{es:Array MapEntry}{c:Nat}(o:Obj)(h:w.heap[b]?=some (.map es c)):(setObj b o).run P w= .ok () {w with heap:=w.heap.setIfInBounds b o}:=by
 grind[setObj,Sem.run]
theorem YV(R:Rel aD nt φ S env J n a w){k:Operand}(m:o.op= .lookup t x k false)(ht:tK P t=true){g f:aR}(C:bF x=some g)(B:bF k=some f)
 {p v J'}(H:n key=false)(h:aQ (.lkset g f) env J key=some (p,v,J'))(q:p):Good P aD nt env J' (ins n key) a v ((execOp a.eval o).run P w):=by
 simp only[aQ,bn]at h;obtain⟨⟨N,Q⟩,A,⟨M,O⟩,z,he⟩:=h;simp at he;obtain⟨L,E,i,r,b,G,K⟩:=Kc ht;split at he
 . split at he
   . rename_i ks s;obtain⟨rfl,rfl,rfl⟩:=he;have h1:a.eval x= .map _:=(ct R C A q.1).1.ed;obtain⟨bs,l,rfl,_⟩:=cl.kq (ct R B z q.2).1;obtain⟨h0,⟨es,F,aa,u⟩,I⟩:=R.bO.blk _ _ s;refine Good.pure R ?_ (.qD _) rfl;have D:(zeroValue E).run P w= .ok (.bool false) w:=(by simp_all[zeroValue,typeInfo]);have y:=Hh bs 0 u;rcases y with⟨c,d⟩|⟨c,j,e,d,_⟩
     . simp[execOp,m,h1,l,Instr.lookup,run_underlying r,Di aa,CA b,DL b d,D,c]
     . simp[execOp,m,h1,l,Instr.lookup,run_underlying r,Di aa,CA b,DL b d,c]
   grind
 grind
theorem aaa{ks:List ak}{es:List MapEntry}(h:AZ ks es)(s:ByteArray)(a:Nat):AZ (ks++[s.data.toList]) (es++[{key:= .string s,val:= .bool true,born:=a}]):=
 h.append (.cons ⟨by rfl,rfl⟩ .nil)
theorem a'.modify{c:Type}{R:α->c->Prop}{f:c->c}:∀{l:List α} {m:List c} {j:Nat},a' R l m->(∀a b,R a b->m[j]?=some b->R a (f b))->a' R l (m.modify j f)
 |_,_,_,.nil,_=>by simpa using a'.nil
 |_,_,0,.cons h ag,k=>.cons (k _ _ h rfl) ag
 |_,_,j+1,.cons h ag,k=>by
  exact .cons h (a'.modify ag λa b e o=>k a b e (by grind))
theorem YW(R:Rel aD nt φ S env J n a w){k v0:Operand}(B:o.op= .mapUpdate t x k v0)(ht:tK P t=true)(E:He v0=true){y u:aR}(W:bF x=some y)(O:bF k=some u)
 {p v J'}(af:n key=false)(h:aQ (.upset y u) env J key=some (p,v,J'))(C:p):Good P aD nt env J' (ins n key) a v ((execOp a.eval o).run P w):=by
 simp only[aQ,bn]at h;obtain⟨⟨al,ao⟩,N,⟨ak,am⟩,M,he⟩:=h;simp only at he;obtain⟨aj,an,i,D,f,ae,ah⟩:=Kc ht;have F:a.eval v0= .bool true:=by
  unfold He at E;split at E
  . rfl
  grind
 split at he
 . rename_i b s;split at he
   . rename_i ks A;obtain⟨rfl,rfl,rfl⟩:=he;have h1:a.eval x= .map _:=(ct R W N C.1).1.ed;obtain⟨bs,z,rfl,_⟩:=cl.kq (ct R O M C.2).1;obtain⟨h0,⟨es,c,aa,r⟩,T⟩:=R.bO.blk _ _ A;have aB:=vQ aa;have X:∃d g,(execOp a.eval o).run P w= .ok .skip {w with heap:=w.heap.setIfInBounds (φ b).1 (.map d g)}/\AZ (iN ks bs.data.toList) d.toList:=by
      have L:=Hh bs 0 r;rcases L with⟨l,q⟩|⟨l,j,e,q,G,H,ab⟩
      . refine⟨es.toArray.push {key:= .string bs,val:= .bool true,born:=c},c+1,?_,?_⟩
        . simp[execOp,B,h1,z,F,Instr.mapUpdate,run_underlying D,Di aa,CA f,DL f q,Lf _ aa]
        . simp only[iN,l,b6];simpa using aaa r bs c
      . refine⟨es.toArray.modify j λe=>{e with key:= .string bs,val:= .bool true},c,?_,?_⟩
        . have V:Instr.sameBits 10000 (Value.string bs) (Value.string bs)=true:=by
           simp only[Instr.sameBits];rw[beq_toListBytes];simp
          have Q:∀w,(Instr.keyThatStays (Value.string bs) (Value.string bs)).run P w= .ok (Value.string bs) w:=by intro w;unfold Instr.keyThatStays;rw[V];rfl
          simp[execOp,B,h1,z,F,Instr.mapUpdate,run_underlying D,Di aa,CA f,DL f q,Lf _ aa,G,H,Q]
        . simp only[iN,l,b5];rw[Array.toList_modify];refine a'.modify r λai Z ag ad=>?_;grind
     obtain⟨d,g,U,K⟩:=X;refine⟨undef,φ,S,_,.inr ⟨U,rfl⟩,.undef,rfl,Rel.more ?_ λ_ h=>kz h⟩;refine R.rewrite A h0 rfl rfl rfl rfl (by simp) (λY I=>by simp[ea I]) (λm=>?_);exact⟨h0,⟨d.toList,g,by simp[aB],K⟩,T⟩
   grind
 grind
theorem W0{st j:TypeId}{i:TypeInfo}{c:Value}(q:P.underlying st=some (.slice e))(v:P.underlying j=some .string)(g:P.info? e=some i)(C:i.zero=some c)(D:c.cells.size=i.size)
 {base:Option Addr}{sl sc a:Nat}{y:Value}{xs d:List Value}(u:(Builtin.lenOf y).run P w= .ok a w)
 (s:(Builtin.firstCells i.size sl (.slice base sl sc)).run P w.drew= .ok xs.toArray w.drew)(t:(Builtin.firstCells i.size a y).run P w.drew= .ok d.toArray w.drew)
 (o:sc<sl+a)(l:lP (sl+a) i.bytes)(A:sl+a<=dY){tt:TypeId}:
 ∃(b:Nat) (r:List Value),sl+a<=b/\r.length=(b-(sl+a))*i.size/\
  (Builtin.append_ #[st,j] tt #[.slice base sl sc,y]).run P w= .ok (.slice (some ⟨w.heap.size,0,none⟩) (sl+a) b) (w.drew.alloc (.cells (xs++d++r).toArray e)):=by
 have p:∀w,(sizeOf e).run P w= .ok i.size w:=λw=>by simp[sizeOf,typeInfo,g]
 have f:∀w,(typeInfo e).run P w= .ok i w:=λw=>by simp[typeInfo,g]
 have x:∀w,(zeroValue e).run P w= .ok c w:=λw=>by simp_all[zeroValue]
 generalize B:(Question.appendCap (sl+a) sc e).cut (w.tape w.drawn (Question.appendCap (sl+a) sc e))=b;have n:sl+a<=b:=by grind[Question.cut]
 have h1:¬(sl+a<=sc):=by omega
 have z:¬(sl+a>IntKind.i64.max/\(False\/i.bytes=0)):=by grind[IntKind.max,IntKind.bits,dY]
 have k:=by
  exact l.not o
 refine⟨b,(Builtin.zeroCells c.cells (b-(sl+a))).toList,n,by grind[TY],?_⟩;have m:(choose (.appendCap (sl+a) sc e)).run P w= .ok b w.drew:=by simp_all[Question.forced]
 have aN:(xs++d++(Builtin.zeroCells c.cells (b-(sl+a))).toList).toArray=xs.toArray++d.toArray++Builtin.zeroCells c.cells (b-(sl+a)):=by simp
 rw[aN];unfold Builtin.append_;simp only[BY,BV,BW,Sem.run_bind,run_underlying q,run_underlying v,Result.andThen_ok,p,Sem.run_pure,bY,b6,u,al h1,f];rw[al (by grind)];simp only[Sem.run_bind,Result.andThen_ok,f];rw[al k];simp only[Sem.run_bind,Result.andThen_ok,f,m,run_askRoom,s,t,x,eU,b5];rfl
theorem Uq{st c:TypeId}{i:TypeInfo}(j:P.underlying st=some (.slice e))(l:P.underlying c=some .string)(f:P.info? e=some i)
 {base:Option Addr}{sl sc a:Nat}{y:Value}{d:List Value}(k:(Builtin.lenOf y).run P w= .ok a w)(o:(Builtin.firstCells i.size a y).run P w= .ok d.toArray w)(n:sl+a<=sc){w':World}
 (hs:∀b,base=some b->(storeCells (b.add (sl*i.size)) d 0).run P w= .ok () w') (m:base=none->w'=w) {tt:TypeId}:
  (Builtin.append_ #[st,c] tt #[.slice base sl sc,y]).run P w= .ok (.slice base (sl+a) sc) w':=by
 have g:∀w,(sizeOf e).run P w= .ok i.size w:=λw=>by simp[sizeOf,typeInfo,f]
 unfold Builtin.append_;simp only[BY,BV,BW,Sem.run_bind,run_underlying j,run_underlying l,Result.andThen_ok,g,Sem.run_pure,bY,b6,k];cases base<;>simp_all
theorem YC(w:World)(bs:ByteArray):(Builtin.firstCells 1 bs.size (.string bs)).run P w= .ok (bs.data.toList.map λb=>Value.int .u8 b.toNat).toArray w:=by
 simp[Builtin.firstCells];grind
theorem XV(l:ak):∀x,x∈(l.map λb=>Value.int .u8 b.toNat)->x.oneCell'=true:=by
 intro x a;simp at a;obtain⟨b,_,rfl⟩:=a;rfl
theorem X1(R:Rel aD nt φ S env J n a w){x y:Operand}{st L e:TypeId}(ao:o.op= .call {callee:= .builtin .append,args:=#[x,y],argTypes:=#[st,L]})
 (G:P.underlying st=some (.slice e))(I:P.underlying L=some .string){i:TypeInfo}(B:P.info? e=some i)(u:i.size=1)(Z:(i.zero.map (·.cells.size))=some 1)
 {M N:aR}(ax:bF x=some M)(d:bF y=some N)
 {p v J'}(f:n key=false)(h:aQ (.appendB e i.bytes M N) env J key=some (p,v,J'))(ap:p):Good P aD nt env J' (ins n key) a v ((execOp a.eval o).run P w):=by
 simp only[aQ,bn]at h;obtain⟨⟨aW,aZ⟩,ak,⟨aX,a0⟩,al,he⟩:=h;simp only at he;simp only[bz]at Z;obtain⟨a1,aA,az⟩:=Z;have F:∀r w',(Builtin.append_ #[st,L] o.type #[a.eval x,a.eval y]).run P w= .ok r w'->(execOp a.eval o).run P w= .ok (.value r) w':=by
  intro r w' ag;simp[execOp,ao,Go.resolve,invoke,builtin,ag]
 have an:∀b,w.heap.size<=b->∀j,¬S b j:=λb T j aI=>by have:=R.bO.st _ _ aI;omega
 split at he
 . rename_i b len s;split at he
   . rename_i t es m;obtain⟨rfl,rfl,rfl⟩:=he;obtain⟨aq,ar,rfl,rfl,W,D⟩:=ap;obtain⟨aS,aB,k1⟩:=(ct R ax ak aq).1.ed;obtain⟨bs,U,rfl,_⟩:=cl.kq (ct R d al ar).1;have l:bs.data.toList.length=bs.size:=by rw[<-vR]
     have af:=R.bO.blk _ _ m;obtain⟨aK,aL,O⟩:=af;have H:∀w,(Builtin.lenOf (a.eval y)).run P w= .ok bs.size w:=by intro w;simp[U,Builtin.lenOf]
     have K:∀w,(Builtin.firstCells i.size bs.size (a.eval y)).run P w= .ok (bs.data.toList.map λb=>Value.int .u8 b.toNat).toArray w:=by intro w;rw[U,u];exact YC w bs
     by_cases au:es.length+bs.size<=(φ b).2
     . by_cases g:(φ b).2=0
       . have X:es=[]:=ju (by omega);have ah:bs.data.toList=[]:=ju (by omega);have q:=aB g;have ag:=Uq (P:=P) (w:=w) (tt:=o.type) G I B (base:=none) (sl:=0) (sc:=0) (H w) (K w) (by omega) (w':=w) (λad Q=>by grind) (λ_=>rfl);rw[<-q]at ag;have R':=(R.del b).jt f (x:= .buf t (es++bs.data.toList)) (0,0) rfl (by grind[cZ,dw]) (by simp);refine⟨_,_,S,w,.inl (F _ _ ag),.c ?_,by simp[V.aE,C.aE,ins],R'⟩;rw[ah,X];have aj:bs.size=0:=(by omega);refine⟨by simp,λ_=>?_,λh=>?_⟩
         . rw[aj]
         . simp[dw]at h
       . obtain⟨⟨vs,aa,av,aw⟩,Y⟩:=O g;have q:=k1 g;have aP:es.length+(bs.data.toList.map λb=>Value.int .u8 b.toNat).length<=vs.length:=(by grind);obtain⟨w',aT,aE,aF,aG,aH,aY,aJ⟩:=nS (P:=P) _ es.length 0 vs w aa (by omega) (XV _)
         have ag:=Uq (P:=P) (w:=w) (tt:=o.type) G I B (base:=some ⟨(φ b).1,0,none⟩) (sl:=es.length) (sc:=(φ b).2) (H w) (K w) au (w':=w') (λad Q=>by
          cases Q;have aN:Addr.add ⟨(φ b).1,0,none⟩ (es.length*i.size)=⟨(φ b).1,es.length,none⟩:=by rw[u,Nat.mul_one];unfold Addr.add;split<;>simp_all
          grind) (λT=>by cases T)
         rw[<-q]at ag
         have z:=(R.del b).world (w':=w') (λk=>k=(φ b).1) aE aF aG (wK aH.symm) (λk _ f=>aJ k f) (λk f=>by
          subst f;refine⟨Y,λk y d f=>?_,R.own b _ m g⟩;rw[fQ]at d;split at d
          . cases d
          . rename_i E
            exactλe=>R.bO.inj k b y _ d m (ea E) f g e)
         have A:=z.jt f (x:= .buf t (es++bs.data.toList)) (φ b) rfl (by
          simp only[cZ,dw]
          grind[List.length_append,qg,nX]) (λ_=>⟨λk y d f=>by
           rw[fQ]at d;split at d
           . cases d
           . rename_i E
             exact R.bO.inj k b y _ d m (ea E) f g,R.own b _ m g⟩)
         refine⟨_,_,S,w',.inl (F _ _ ag),.c ?_,by simp[V.aE,C.aE,ins],A⟩;refine⟨by simp[dw,l];omega,λh=>?_,λ_=>?_⟩
         . simp[dw,g]at h
         . simp[dw,l]
     . have z:=R.drew;have ai:∃base,a.eval x= .slice base es.length (φ b).2/\∃xs:List Value,(Builtin.firstCells i.size es.length (.slice base es.length (φ b).2)).run P w.drew= .ok xs.toArray w.drew/\xs.length=es.length/\∀(i:Nat) c,es[i]?=some c->xs[i]?=some (.int .u8 (UInt8.toNat c)):=by
        by_cases g:(φ b).2=0
        . have X:es=[]:=ju (by omega);simp_all[Builtin.firstCells]
        . obtain⟨⟨vs,aa,av,aw⟩,Y⟩:=O g;refine⟨_,k1 g,vs.take es.length,?_,by simp;omega,λj c aO=>?_⟩
          . rw[u];show(loadCells ⟨(φ b).1,0,none⟩ (es.length*1)).run P w.drew=_;rw[Nat.mul_one];refine z' (by simp;omega) (λj am=>?_);rw[h7,yB,ae am];exact jm (w:=w.drew) aa j
          grind
       obtain⟨base,q,xs,ay,aU,aV⟩:=ai;obtain⟨aC,r,h1,aM,ag⟩:=W0 (P:=P) (w:=w) (tt:=o.type) G I B aA (by rw[az,u]) (H w) ay (K w.drew) (by omega) (by rw[l]at W;exact W) (by rw[l]at D;exact D);rw[<-q]at ag;have A:=(z.del b).alloc (.cells (xs++(bs.data.toList.map λb=>Value.int .u8 b.toNat)++r).toArray t)
       have ab:=A.jt f (x:= .buf t (es++bs.data.toList)) (w.heap.size,aC) rfl (by
        simp only[cZ,dw];refine⟨by simp[l];omega,by rw[cq];exact D,λ_=>⟨⟨_,nR,?_,?_⟩,an _ (d' _)⟩⟩
        . grind
        grind) (λ_=>⟨λk y d h0=>by
         rw[fQ]at d;split at d
         . cases d
         . have:=(R.bO.blk k y d).jZ h0
           simp;omega,.inr R.ext.size⟩)
       refine⟨_,_,S,_,.inl (F _ _ ag),.c ?_,by simp[V.aE,C.aE,ins],ab⟩;refine⟨by simp[dw,l];omega,λh=>?_,λ_=>?_⟩
       . simp[dw]at h;omega
       . simp[dw,l]
   grind
 grind
theorem YX(R:Rel aD nt φ S env J n a w){x:Operand}{t:TypeId}(e:o.op= .call {callee:= .builtin .unsafeSliceData,args:=#[x],argTypes:=#[t]}){d:aR}(i:bF x=some d)
 {p v J'}(k:n key=false)(h:aQ (.sdata d) env J key=some (p,v,J'))(g:p):Good P aD nt env J' (ins n key) a v ((execOp a.eval o).run P w):=by
 simp only[aQ,bn]at h;obtain⟨⟨m,q⟩,f,he⟩:=h;simp at he;split at he
 . rename_i b len;obtain⟨rfl,rfl,rfl⟩:=he;have aq:=ct R i f g;obtain⟨l,j,k1⟩:=aq.1.ed;by_cases h0:(φ b).2=0
   . refine Good.pure R ?_ (.c ⟨none,rfl,λh=>absurd h0 h⟩) (by grind[V.aE,C.aE]);simp[execOp,e,Go.resolve,invoke,builtin,j h0,Go.Lib.run_unsafeSliceData_nil]
   . refine Good.pure R ?_ (.c ⟨_,rfl,λ_=>rfl⟩) (by grind[V.aE,C.aE]);simp[execOp,e,Go.resolve,invoke,builtin,k1 h0,Go.Lib.run_unsafeSliceData_row _ _ _ _ _ _ h0]
 grind
theorem YY{b m:Nat}{a:Addr}(c:b≠a.block):(w.freeze a m).heap[b]?=w.heap[b]?:=by
 grind[World.freeze]
theorem Zc(a:Addr)(m:Nat):(w.freeze a m).os=w.os/\(w.freeze a m).tape=w.tape/\(w.freeze a m).output=w.output/\(w.freeze a m).heap.size=w.heap.size:=by
 grind[World.freeze]
theorem aab(R:Rel aD nt φ S env J n a w){x y:Operand}{cF i e:TypeId}(K:o.op= .call {callee:= .builtin .unsafeString,args:=#[x,y],argTypes:=#[cF,i]})
 (O:P.underlying cF=some (.pointer e))(F:P.cellsOf e=1){s t:aR}(T:bF x=some s)(g:bF y=some t)
 {p v J'}(d:n key=false)(h:aQ (.ustr e s t) env J key=some (p,v,J'))(L:p):Good P aD nt env J' (ins n key) a v ((execOp a.eval o).run P w):=by
 simp only[aQ,bn]at h;obtain⟨⟨aj,al⟩,G,⟨ak,am⟩,H,he⟩:=h;simp only at he;split at he
 . rename_i b m;split at he
   . rename_i u es l;obtain⟨rfl,rfl,rfl⟩:=he;obtain⟨M,N,rfl,rfl⟩:=L;obtain⟨U,h1,af⟩:=(ct R T G M).1.ed;have D:=(ct R g H N).1.fA;have E:=R.bO.blk _ _ l;obtain⟨Z,ab,C⟩:=E;have A:∀w',cj w' S (.str es) (.string ⟨es.toArray⟩):=by
      intro w';have:=cj.str (w:=w') (S:=S) (⟨es.toArray⟩:ByteArray) (by rw[<-vR];grind[dY,eF]);omega
     have z:∀r w',(Builtin.unsafeString_ #[cF,i] o.type #[a.eval x,a.eval y]).run P w= .ok r w'->(execOp a.eval o).run P w= .ok (.value r) w':=by
      intro r w' ag;simp[execOp,K,Go.resolve,invoke,builtin,ag]
     by_cases f:es=[]
     . subst f;refine⟨.string ⟨#[]⟩,φ,S,w,.inl (z _ _ ?_),.c (A w),rfl,(R.del b).more λ_ h=>kz h⟩;rw[h1,D];exact Go.Lib.run_unsafeString_none w cF i o.type U
     . have ae:=ux.2 f;have q:(φ b).2≠0:=(by omega);obtain⟨⟨vs,aa,ah,ai⟩,I⟩:=C q;have Q:w.shape? (φ b).1=some (u,vs.length):=by grind[World.shape?]
       have ag:=Go.Lib.run_unsafeString_row (P:=P) w cF i o.type u O F _ vs.length Q es f (by omega) (by grind[dY]) (λj c ad=>by
        grind[Addr.add,jm])
       obtain⟨V,W,X,Y⟩:=Zc (w:=w) ⟨(φ b).1,0,none⟩ es.length
       have B:=(R.del b).world _ V W X (wK Y.symm) (λk _ d=>YY d) (λk d=>by
        subst d;refine⟨I,λk y g d=>?_,R.own b _ l q⟩;rw[fQ]at g;split at g
        . grind
        . rename_i f
          exactλe=>R.bO.inj k b y _ g l (ea f) d q e)
       refine⟨.string _,φ,S,_,.inl (z _ _ ?_),.c (A _),rfl,B.more λ_ h=>kz h⟩;grind
   grind
 grind
end
section
variable {P:Program}{aD:Ctx}{nt:Nat}{φ:dD}{S:dU}{env:Env}{J:ba}{n:Nat->Bool}{key:Nat}{a:Act}{w:World}
theorem JX{d:Nat}{e:TypeId}{k:Nat}(f:s' P e=some k){xs c:Array Value}:∀{m i:Nat} {ps a:List C} {us vs:List Value} {r:Bool},
 l1 (List.replicate m k) ps a=some r->a' (bp φ w S) ps us->a' (bp φ w S) a vs->xs.toList.drop i=us->c.toList.drop i=vs->(Op.eqItems (d+1) e 1 xs c (List.range' i m)).run P w= .ok r w
 |0,i,ps,a,us,vs,r,ag,_,_,_,_=>by
  cases ps<;>cases a<;>simp[l1]at ag;subst ag;simp[Op.eqItems]
 |m+1,i,ps,a,us,vs,r,ag,E,F,aN,g=>by
  have A:=L9 f;have j:∀(l:Array Value) (z:Value) (n:List Value),l.toList.drop i=z::n->(part e l (i*1)).run P w= .ok z w:=λl z n G=>by
   have:l[i]?=some z:=by
    have:=eu (·[0]?) G;simpa using this
   simp[part,tD A,this]
  rw[List.replicate_succ]at ag;cases ps with
  |nil=>simp[l1]at ag
  |cons p ps=>cases a with
   |nil=>cases p<;>simp[l1]at ag
   |cons q a=>
    cases p<;>cases q<;>simp only[l1,bn,bz]at ag<;>try cases ag
    rename_i x y b h;obtain⟨B,H,D,rfl⟩:=h;cases E with
    |cons h1 o=>cases F with
     |cons s t=>
      rename_i u us v vs;have f1:xs.toList.drop (i+1)=us:=by rw[<-uB,aN];rfl
      have f2:c.toList.drop (i+1)=vs:=by rw[<-uB,g];rfl
      have ih:=JX (d:=d) f (m:=m) (i:=i+1) D o t f1 f2;rw[B6];simp only[Op.eqItems,Sem.run_bind,j xs u us aN,j c v vs g,Result.andThen_ok,L8 B f h1 s d];cases b with
      |true=>simpa using ih
      |false=>simp
variable{y:Operand}
theorem YZ(R:Rel aD nt φ S env J n a w){op:BinOp}{M:TypeId}(I:o.op= .binOp op ty x y M)(s:op= .eql\/op= .neq){ks:a7}(b:Jd P ty=some ks)
 {g j:aR}(K:bF x=some g)(L:bF y=some j)
 {p v J'}(N:n key=false)(h:aQ (.eqAgg (op== .neq) ks g j) env J key=some (p,v,J'))(t:p):Good P aD nt env J' (ins n key) a v ((execOp a.eval o).run P w):=by
 simp only[aQ,bn]at h;obtain⟨⟨O,U⟩,F,⟨Q,V⟩,G,he⟩:=h;simp only at he;split at he
 . rename_i ps T;simp only[bz,dV]at he;obtain⟨r,ag,rfl,rfl,rfl⟩:=he;obtain⟨us,c,A⟩:=(ct R K F t.1).1.mz;obtain⟨vs,f,B⟩:=(ct R L G t.2).1.mz;unfold Jd at b;split at b
   . rename_i m e E;simp only[eG,bz]at b;obtain⟨⟨hs,aq⟩,k,H,rfl⟩:=b;unfold ev at hs;simp only[bz]at hs;obtain⟨i,q,hs⟩:=hs;have C:P.cellsOf e=1:=(by simp[Program.cellsOf,q,hs]);have u:(eqGuard op ty x y (a.eval x) (a.eval y)).run P w= .ok () w:=by rcases s with rfl|rfl<;>simp[eqGuard,c,f,aq]
     have l:(Op.equal ty (.agg us.toArray) (.agg vs.toArray)).run P w= .ok r w:=by
      obtain⟨d,D⟩:∃d,Op.maxDepth=d+2:=⟨9998,rfl⟩
      unfold Op.equal;rw[D,run_equalIn_array w (d+1) _ _ E q,C,List.range_eq_range'];exact JX H ag A B (by simp) (by simp)
     have z:(binOp op ty (a.eval x) (a.eval y)).run P w= .ok (.bool (if(op== .neq)then !r else r)) w:=by
      rcases s with rfl|rfl
      . rw[c,f];simp only[binOp,Sem.run_bind,l];rfl
      . rw[c,f];simp only[binOp,Sem.run_bind,l];rfl
     refine Good.pure R (x:= .bool (if(op== .neq)then !r else r)) ?_ (.qD _) rfl;simp[execOp,I,u,z]
   . cases b
 . cases he
theorem Zz(R:Rel aD nt φ S env J n a w){i:Operand}(A:o.op= .index ty x i){k:Nat}(E:P.underlying ty=some (.array k e))(af:ot P e=some (false,1))
 {d b:aR}(I:bF x=some d)(t:bF i=some b)
 {p v J'}(M:n key=false)(h:aQ (.idxV k d b) env J key=some (p,v,J'))(B:p):Good P aD nt env J' (ins n key) a v ((execOp a.eval o).run P w):=by
 simp only[aQ,bn]at h;obtain⟨⟨Q,U⟩,s,⟨O,T⟩,r,he⟩:=h;simp only at he;split at he
 . rename_i cs kk m;simp only[eG,dG,dV]at he;obtain⟨L,rfl,rfl,rfl⟩:=he;obtain⟨C,D,y,N⟩:=B;have f:=ct R I s C;obtain⟨us,F,l⟩:=f.1.mz;have j:=(ct R t r D).1.fA;unfold ot at af;simp only[bn]at af;obtain⟨g,aq,z,K,af⟩:=af;split at af
   . cases af;have aB:m.toNat<cs.length:=(by omega);obtain⟨u,G,H⟩:=l.get (show cs[m.toNat]?=some (cs.getD m.toNat .dead) by rw[List.getD,e9 aB];rfl);refine Good.pure R (x:=u) ?_ (.c H) ?_
     . have q:us.toArray[m.toNat*1]?=some u:=(by simpa using G);simp only[execOp,A,Sem.run_bind,F,j,Instr.index,asIntOf,run_underlying E,Result.andThen_ok,Sem.run_pure];rw[ae ⟨y,by omega⟩];simp only[Sem.run_bind,jL K,Result.andThen_ok,part,tD aq,q];rfl
     . have:=f.2;simp only[V.aE,fK]at this⊢;refine this _ ?_;rw[List.getD,e9 aB];exact yF aB
   . cases af
 . cases he
theorem X2(j:P.underlying ty=some (.slice e)){i:TypeInfo}{a:Value}(b:P.info? e=some i)(p:i.zero=some a){k:IntKind}{m:Int}(h0:0<=m)(d:m.toNat*i.bytes<=hZ)(f:m.toNat<=dY):
 (Instr.makeSlice ty (.int k m) (.int k m)).run P w= .ok (.slice (some ⟨w.heap.size,0,none⟩) m.toNat m.toNat) (w.alloc (.cells ((Array.range (m.toNat*i.size)).map (a.cells[· % a.cells.size]!)) e)):=by
 obtain⟨c,rfl⟩:∃c:Nat,m=(c:Int):=⟨m.toNat,by omega⟩
 simp only[mb]at*;unfold dY at f;have n:IntKind.i64.wrap (c:Int)=(c:Int):=by
  simp[IntKind.wrap,IntKind.signed,IntKind.bits];omega
 have l:∀w,(typeInfo e).run P w= .ok i w:=λw=>by simp[typeInfo,b]
 have g:∀w,(sizeOf e).run P w= .ok i.size w:=λw=>by simp[sizeOf,typeInfo,b]
 have o:∀w,(zeroValue e).run P w= .ok a w:=λw=>by simp[zeroValue,typeInfo,b,p]
 have q:¬((i.bytes:Int)*(c:Int)>2^48):=by
  unfold hZ at d;rw[<-Int.natCast_mul,yI];omega
 unfold Instr.makeSlice;simp only[asInt,asIntOf,Sem.run_bind,run_underlying j,Result.andThen_ok,Sem.run_pure,l,n];rw[b'];simp only[Sem.run_bind,run_askRoom,Result.andThen_ok,mb,g];by_cases h:c*i.size=0
 . simp only[h,b5,Sem.run_bind,Sem.run_pure,Result.andThen_ok,show Array.range 0=#[]from rfl,List.map_toArray,Array.map_empty];rfl
 . simp only[h,b6,Sem.run_bind,o,Sem.run_pure,Result.andThen_ok];rfl
theorem Zd(R:Rel aD nt φ S env J n a w)(Q:o.op= .makeSlice ty x y)(W:P.underlying ty=some (.slice e))(d:Gj x y=true){i:TypeInfo}(u:P.info? e=some i)
 {z:List C}(Y:j3 P e=some z)(h0:i.size≠0)(F:z.length=i.size){r:aR}(g:bF x=some r)
 {p v J'}(M:n key=false)(h:aQ (.mslice i.size i.bytes z r) env J key=some (p,v,J'))(T:p):Good P aD nt env J' (ins n key) a v ((execOp a.eval o).run P w):=by
 have hs:x=y:=by
  unfold Gj at d;split at d
  . rw[gM d]
  . cases d
 subst hs;simp only[aQ,bn]at h;obtain⟨⟨aj,ak⟩,L,l,G,he⟩:=h;simp only at he;split at he
 . rename_i kk m;simp only[dG,dV]at he;obtain⟨rfl,rfl,rfl⟩:=he;obtain⟨U,N,O,D⟩:=T;have K:=(ct R g L U).1.fA;obtain⟨ai,b,A,ad,s,af⟩:=tA (φ:=φ) (w:=w) (S:=S) (n:=n) Y;rw[u]at A;cases A;have aa:=rh G s;have Z:b.cells.size=i.size:=by rw[<-B2,<-s.length,F]
   have E:0<i.size:=(by omega);have ab:l.length=i.size:=by rw[wA G,F]
   generalize f:m.toNat=len at*;have H:=R.alloc (.cells ((Array.range (len*i.size)).map (b.cells[· % b.cells.size]!)) e);have ae:=R.vH (.cells ((Array.range (len*i.size)).map (b.cells[· % b.cells.size]!)) e)
   have I:=H.jt M (x:= .arr i.size (List.replicate len l)) (w.heap.size,len) rfl (by
    simp only[cZ,dw];refine⟨by simp,by simpa using D,λe he=>by rw[FT he];exact ab,E,λ_=>⟨((Array.range (len*i.size)).map (b.cells[· % b.cells.size]!)).toList,e,by rw[Array.toArray_toList];exact nR,by simp,λa j q t he ht=>?_,λj h=>?_⟩⟩
    . have B:=(dS.1 he).1;simp at B;have:q=l:=FT (fp he);subst this;have ah:=(dS.1 ht).1;obtain⟨x,g,ag⟩:=aa.get ht;refine⟨x,?_,cj.mono ae ag⟩;rw[F0,Hg Z E a j B (by omega)];simpa using g
    . have:=R.bO.st _ _ h
      omega) (λ_=>⟨λk y X h0=>by
       have:=(R.bO.blk k y X).jZ h0
       simp;omega,.inr R.ext.size⟩)
   refine⟨.slice (some ⟨w.heap.size,0,none⟩) len len,_,S,_,.inl ?_,.c ⟨some ⟨w.heap.size,0,none⟩,by simp[dw],by simp[dw],by simp[dw]⟩,by simp[V.aE,C.aE,ins],I⟩;have ag:=X2 (P:=P) (w:=w) W u ad (k:=kk) N (by rw[f];exact O) (by rw[f];exact D);rw[f]at ag;simp only[execOp,Q,Sem.run_bind,K,ag,Result.andThen_ok];rfl
 . cases he
theorem we{x:Array α}{a b:α}(h:x.toList=[a,b]):x=#[a,b]:=by grind
theorem Jf{x:Array α}{a:α}(h:x.toList=[a]):x=#[a]:=by grind
theorem ZA(R:Rel aD nt φ S env J n a w)(q:o.op= .call c){z:cR}(ag:mR P c=some z)
 {p v J'}(m:n key=false)(h:aQ z env J key=some (p,v,J'))(r:p):Good P aD nt env J' (ins n key) a v ((execOp a.eval o).run P w):=by
 obtain⟨callee,args,argTypes⟩:=c;unfold mR at ag;split at ag
 . grind[Jf,bz,aaI]
 . rename_i k;split at ag
   . rename_i x y t u b ht;have b:=we b;have ht:=we ht;subst k;subst b;subst ht;split at ag
     . rename_i e g s;simp only[bn,eG,dG]at ag;obtain⟨i,l,A,d,B,f,⟨h1,j,C⟩,rfl⟩:=ag;exact X1 R q g s l h1 j d f m h r
     . rename_i e D g s;simp only[bn,eG,dG]at ag;obtain⟨i,l,A,d,B,f,⟨h1,j⟩,rfl⟩:=ag;exact XQ R q g s l h1 j d f m h r
     . cases ag
   grind
 . grind[we,bn,bz,ZU]
 . grind[we,bn,bz,ZV]
 . split at ag
   . rename_i x t b ht;have b:=Jf b;have ht:=Jf ht;subst b;subst ht;split at ag
     . simp only[eG,bz]at ag;grind[YX]
     . cases ag
   grind
 . rename_i k;split at ag
   . rename_i x y t u b ht;have b:=we b;have ht:=we ht;subst k;subst b;subst ht;split at ag
     . rename_i e g;simp only[eG,bn,bz]at ag;obtain⟨⟨_,_,C⟩,A,d,B,f,rfl⟩:=ag;exact aab R q g C d f m h r
     grind
   grind
 . grind[bz,aQ]
 . grind[bz,aQ]
 grind
theorem Good.mono{v:V}{J':ba}{dc c:Nat->Bool}(h:∀b,dc b=true->c b=true){r:Result Next}(g:Good P aD nt env J' dc a v r):Good P aD nt env J' c a v r:=by
 obtain⟨x,j,bP,w',h1,e,f,R'⟩:=g;exact⟨x,j,bP,w',h1,e,V.ho h f,R'.more h⟩
theorem Y0(R:Rel aD nt φ S env J n a w){N:cR}(ag:c7 P o.op=some N)
 (ah:∀e e8,N≠.allocS e e8){p v J'}(j:n key=false)(h:aQ N env J key=some (p,v,J'))(q:p):Good P aD nt env J' (ins n key) a v ((execOp a.eval o).run P w):=by
 generalize l:o.op=op at ag;cases op with
 |move x=>simp only[c7,bz]at ag;obtain⟨A,b,rfl⟩:=ag;exact L6 R (.inl l) b j h q
 |assign x=>simp only[c7,bz]at ag;obtain⟨A,b,rfl⟩:=ag;exact L6 R (.inr l) b j h q
 |pick c x y=>
  simp only[c7,bn,bz]at ag;obtain⟨ac,X,A,b,F,C,rfl⟩:=ag;exact ZQ R l X b C j h q
 |alloc e=>
  simp only[c7]at ag;split at ag
  . cases ag;exact absurd rfl (ah _ _)
  . simp only[bn]at ag;obtain⟨cs,T,ag⟩:=ag;split at ag
    . split at ag
      . rename_i X;cases ag;exact XS R l T (by omega) (by omega) j h q
      . cases ag;exact JN R l T j h q
    . cases ag;exact JN R l T j h q
 |box e x=>simp only[c7,bz]at ag;obtain⟨A,b,rfl⟩:=ag;exact aad R l b j h q
 |build t parts=>
  simp only[c7]at ag;split at ag
  . rename_i fs I;simp only[eG,bn,bz]at ag;obtain⟨h1,z,H,ps,K,rfl⟩:=ag;exact YS R l I h1 H K j h q
  . simp only[bn,bz]at ag;rename_i len e B;obtain⟨z,H,m,D,ps,K,rfl⟩:=ag;exact YB R l B D H K j h q
  . cases ag
 |buildSlice t len parts=>
  simp only[c7]at ag;split at ag
  . rename_i e B;simp only[bn,eG,dG]at ag;obtain⟨m,D,z,H,ps,K,⟨h1,O,Q⟩,rfl⟩:=ag;exact Yh R l B D H K h1 O Q j h q
  . cases ag
 |load t x=>
  simp only[c7,bn,bz]at ag;obtain⟨g,aq,A,b,rfl⟩:=ag;exact Z1 R l aq b j h q
 |store t x y=>
  simp only[c7,bn,bz]at ag;obtain⟨m,D,A,b,F,C,rfl⟩:=ag;exact YR R l D b C j h q
 |nilCheck x=>simp only[c7,bz]at ag;obtain⟨A,b,rfl⟩:=ag;exact YA R l b j h q
 |binOp op t x y al=>
  simp only[c7]at ag;split at ag
  . rename_i W;split at ag
    . simp only[bn,bz]at ag;obtain⟨ks,V,A,b,F,C,rfl⟩:=ag;exact YZ R l W V b C j h q
    . simp only[bn,bz]at ag;obtain⟨ks,V,A,b,F,C,rfl⟩:=ag;exact YQ R l W V b C j h q
    . simp only[eG,bz]at ag;grind[aQ]
    . rename_i B;simp only[bn,bz]at ag;obtain⟨A,b,F,C,rfl⟩:=ag;exact Yf R l W B b C j h q
    . simp only[bn,bz]at ag;obtain⟨A,b,F,C,rfl⟩:=ag;exact IF R l b C j h q
    . simp only[bn,bz]at ag;obtain⟨A,b,F,C,rfl⟩:=ag;exact IF R l b C j h q
    . cases ag
  . simp only[bn,bz]at ag;obtain⟨A,b,F,C,rfl⟩:=ag;exact IF R l b C j h q
 |unOp u t x=>
  cases u<;>simp only[c7,bz,reduceCtorEq]at ag
  . split at ag
    . simp only[bz]at ag;obtain⟨A,b,rfl⟩:=ag;exact aaC R l b j h q
    . cases ag
  . split at ag
    . simp only[bz]at ag;obtain⟨A,b,rfl⟩:=ag;exact aaD R l b j h q
    . cases ag
  . obtain⟨A,b,rfl⟩:=ag;exact aaB R l b j h q
 |convert s d x=>
  simp only[c7]at ag;split at ag
  . rename_i hs G;simp only[bz]at ag;obtain⟨A,b,rfl⟩:=ag;exact ZS R l hs G b j h q
  . rename_i hs G;simp only[bz]at ag;obtain⟨A,b,rfl⟩:=ag;exact aaE R l hs G b j h q
  . rename_i hs G;simp only[bz]at ag;obtain⟨A,b,rfl⟩:=ag;exact aaF R l hs G b j h q
  . rename_i e hs G;simp only[eG,bz]at ag;obtain⟨⟨he,Y⟩,A,b,rfl⟩:=ag;have ae:P.underlying e=some (.int .u8):=(by grind);exact aaf R l hs ae G b j h q
  . cases ag
 |fieldAddr t x f=>
  simp only[c7]at ag;split at ag
  . rename_i fs I;simp only[bn,Ce,bz]at ag;obtain⟨ad,U,m,D,L,A,b,rfl⟩:=ag;exact ZT R l I U D L b j h q
  . cases ag
 |field t x f=>
  simp only[c7]at ag;split at ag
  . rename_i fs I;simp only[bn,bz]at ag;obtain⟨ad,U,g,aq,A,b,rfl⟩:=ag;obtain⟨h1,O,Q⟩:=La aq;exact aaG R l I U O h1 Q b j h q
  . cases ag
 |indexAddr t x i=>
  simp only[c7]at ag;split at ag
  . rename_i e B;simp only[bn,Ce,bz]at ag;obtain⟨m,D,L,A,b,M,E,rfl⟩:=ag;exact ZW R l B D L b E j h q
  . rename_i k e B;split at ag
    . simp only[eG,bn,bz]at ag;obtain⟨h0,s,hs,A,b,rfl⟩:=ag;exact Z7 R l B h0 hs b j h q
    . simp only[eG,bn,bz]at ag;obtain⟨Y,A,b,M,E,rfl⟩:=ag;exact Z6 R l B Y b E j h q
  . cases ag
 |index t x i=>
  simp only[c7]at ag;split at ag
  . rename_i B;simp only[bn,bz]at ag;obtain⟨A,b,M,E,rfl⟩:=ag;exact ZX R l B b E j h q
  . rename_i B;simp only[eG,bn,bz]at ag;obtain⟨af,A,b,M,E,rfl⟩:=ag;exact Zz R l B af b E j h q
  . cases ag
 |slice t x aj E ak=>
  simp only[c7]at ag;split at ag
  . rename_i B;simp only[eG,bn,bz,Option.isNone_iff_eq_none]at ag;obtain⟨rfl,A,b,ab,af,Z,aa,rfl⟩:=ag;exact ZZ R l B b af aa j h q
  . rename_i e B;split at ag
    . simp only[bn,Ce,bz]at ag;obtain⟨m,D,L,A,b,ab,af,Z,aa,rfl⟩:=ag;exact aac R l B D b af aa j h q
    . split at ag
      . simp only[eG,bz]at ag;grind[Option.isSome_iff_exists,Z0]
      . cases ag
    . cases ag
  . simp only[eG,bn,bz,Option.isNone_iff_eq_none]at ag;grind[Z8]
  grind
 |makeFunc fn first caps=>
  cases fn<;>simp only[c7,eG,bz,reduceCtorEq]at ag;grind[ZY]
 |extract x i=>grind[c7,bz,aaH]
 |makeSlice t x y=>
  simp only[c7]at ag;split at ag
  . rename_i B;simp only[eG,bn,bz]at ag;obtain⟨ai,i,E,z,H,⟨h0,af⟩,A,b,rfl⟩:=ag;exact Zd R l B ai E H h0 af b j h q
  . cases ag
 |makeMap t r=>
  cases r with
  |some _=>simp[c7]at ag
  |none=>
   simp only[c7,eG,dG]at ag;grind[YU]
 |lookup t x i c=>
  cases c with
  |true=>simp[c7]at ag
  |false=>
   simp only[c7,eG,bn,bz]at ag;grind[YV]
 |mapUpdate t m k v0=>
  simp only[c7,eG,bn,bz]at ag;grind[YW]
 |call c=>grind[c7,ZA]
 |_=>simp[c7]at ag
def eI(n:Nat->Bool)(k:Nat):Nat->Bool:=λb=>n b||(decide (k<=b)&&decide (b<k+16))
theorem lZ{b:Nat}(h:n b=true):eI n key b=true:=by grind[eI]
theorem Mv{b:Nat}(h:ins n key b=true):eI n key b=true:=by
 grind[ins,eI]
theorem T0{b:Bool}{a:cR}(h:vP P b op=some a):c7 P op=some a\/∃t len parts e m z ps,op= .buildSlice t len parts/\P.underlying t=some (.slice e)/\ev P e=some m/\j3 P e=some z/\pS parts.toList=some ps/\m≠0/\z.length=m/\len*m<=2^24/\a= .bsliceT e m len z ps:=by
 unfold vP at h;grind[bn]
theorem Xf{e e8:Nat}(h:c7 P op=some (.allocS e e8)):op= .alloc e/\zb P e=some e8:=by
 cases op with
 |alloc a=>
  grind[c7,bn]
 |buildSlice t len parts=>
  simp[c7]at h;split at h
  . simp_all[bn]
  grind
 |build t parts=>
  simp[c7]at h;split at h
  . simp_all[bn]
  . grind[bn,bz]
  grind
 |call c=>
  simp[c7]at h;unfold mR at h
  repeat' (first|(split at h)|(done))
  all_goals simp only[bn,bz,eG,dG,reduceCtorEq,oB,yJ,exists_const]at h
 |binOp op t x y b=>
  simp only[c7]at h
  repeat' (first|(split at h)|(cases h;done))
  all_goals simp only[bn,bz,eG,dG,reduceCtorEq,oB,yJ,exists_const]at h
 |unOp u t x=>
  cases u<;>simp only[c7]at h
  all_goals repeat' (first|(split at h)|(cases h;done))
  all_goals simp_all
 |makeMap t r=>cases r<;>simp only[c7,reduceCtorEq,eG,dG,oB]at h
 |lookup t x i c=>cases c<;>simp only[c7,reduceCtorEq,eG,bn,bz,oB,yJ]at h
 |makeFunc fn first caps=>cases fn<;>simp only[c7,eG,bz,reduceCtorEq,oB,yJ]at h
 |convert s d x=>
  simp only[c7]at h
  repeat' (first|(split at h)|(cases h;done))
  all_goals simp_all
 |_=>
  simp only[c7]at h
  try repeat' (first|(split at h)|(cases h;done))
  all_goals simp only[bn,bz,eG,Ce,reduceCtorEq,oB,yJ,exists_const]at h
theorem ZB(R:Rel aD nt φ S env J n a w){d:cR}{j:Bool}(ag:vP P j o.op=some d)
 {p v J'}(aH:∀b,key<=b->b<key+16->n b=false)(h:aQ d env J key=some (p,v,J'))(i:p):Good P aD nt env J' (eI n key) a v ((execOp a.eval o).run P w):=by
 have f:=aH _ (d' _) (by simp);rcases T0 ag with ag|⟨t,len,parts,e,m,z,ps,g,u,r,x,s,h1,k,l,rfl⟩
 . by_cases hs:∃e e8,d= .allocS e e8
   . obtain⟨e,e8,rfl⟩:=hs;obtain⟨g,q⟩:=Xf ag;refine(XT R g q f (aH _ (by simp) (by simp)) h i).mono λb c=>?_;grind[ins,eI]
   . exact(Y0 R ag (λe e8 he=>hs ⟨e,e8,he⟩) f h i).mono λb c=>Mv c
 . exact(X0 R g u r x s h1 k l f h i).mono λb c=>Mv c
end
def hU(P:Program)(f:Nat)(args:List V)(J:ba)(key:Nat)(K:V->ba->Prop):Prop:=
 ∀aD nt φ S env n a w,Rel aD nt φ S env J n a w->(∀b,key<=b->b<key+16->n b=false)->V.aE.V.dF n args=true->∀vs:List Value,a' (cl φ w S) args vs->
  Calls P f vs.toArray w λe w'=>∃v r c bP J',e= .returned v/\K r J'/\cl c w' bP r v/\r.aE (eI n key)=true/\Rel aD nt c bP env J' (eI n key) a w'
theorem hU.mono{P:Program}{args:List V}{J:ba}{key:Nat}{K c:V->ba->Prop}(h:hU P f args J key K)(q:∀r J',K r J'->c r J'):hU P f args J key c:=
 λaD nt φ S env n a w R aH p vs t=>(h aD nt φ S _ n a w R aH p vs t).mono λe w' ⟨v,r,x,bP,J',h1,j,o⟩=>⟨v,r,x,bP,J',h1,q _ _ j,o⟩
def gf(env:Env):Option (Nat×Bool)->Option Bool
 |none=>some true
 |some (t,b)=>match look env t with
  |some (g,.c (.t (.bool x)))=>some (g&&(x==b))
  |_=>none
def er(env:Env)(dst:Option Nat)(g:Bool)(v:V):Env:=
 match dst with
 |none=>env
 |some d=>(d,g,v)::env
def sC(b:Bool):V:= .c (.t (.bool b))
def hd(P:Program)(o:ca)(key:Nat)(env:Env)(J:ba)(K:Env->ba->Prop):Prop:=
 match gf env o.guard with
 |none=>False
 |some g=>(g=false/\∃v,K (er env o.dst g v) J)\/
  match o.op with
  |.call f args=>match hN env args with
   |some (p,vs)=>match o.guard with
    |none=>p/\hU P f vs J key (λr J'=>K (er env o.dst true r) J')
    |some _=>(g=true/\p/\hU P f vs J key (λr J'=>K (er env o.dst true r) J'))\/∃r,(g=true->p/\hU P f vs J key (λa J'=>a=r/\J'=J))/\K (er env o.dst g r) J
   |none=>False
  |.ic x args=>match x.get env,hN env args with
   |some (q,.c (.fn f caps)),some (p,vs)=>o.guard=none/\hi P f=true/\q/\p/\hU P f (vs++caps.map (λb=>V.c (.ptr b 0))) J key (λr J'=>K (er env o.dst true r) J')
   |_,_=>False
  |.eqNil neg x=>match x.get env with
   |some (p,.c (.t (.slice es)))=>o.guard=none/\p/\∀b:Bool,(es≠[]->b=false)->K (er env o.dst true (sC (if neg then !b else b))) J
   |some (p,.c .aA)=>o.guard=none/\p/\∀b:Bool,K (er env o.dst true (sC (if neg then !b else b))) J
   |some (p,.c (.arr _ _ _ l))=>o.guard=none/\p/\∀b:Bool,(l≠0->b=false)->K (er env o.dst true (sC (if neg then !b else b))) J
   |_=>False
  |op=>match aQ op env J key with
   |some (p,v,J')=>(g=true->p)/\(op.neutral=true\/g=true)/\K (er env o.dst g v) (if op.neutral then J else J')
   |none=>False
def kx(P:Program):List ca->Nat->Env->ba->(Env->ba->Prop)->Prop
 |[],_,env,J,K=>K env J
 |o::r,key,env,J,K=>hd P o key env J λenv' J'=>kx P r (key+16) env' J' K
section
variable {P:Program}{aD:Ctx}{nt:Nat}{φ:dD}{S:dU}{env:Env}{J:ba}{n:Nat->Bool}{key:Nat}{a:Act}{w:World}
theorem pP{g:Bool}{v:V}{k:Nat}:look (er env dst g v) k=if dst=some k then some (g,v)else look env k:=by
 unfold er;grind[look]
theorem Rel.Bm(R:Rel aD nt φ S env J n a w)(o:∀d,dst=some d->d<nt){g:Bool}{x:Value}{v:V}(q:g=true->cl φ w S v x)(p:g=false->x=undef)(j:g=true->v.aE n=true):
 Rel aD nt φ S (er env dst g v) J n (a.put dst x) w:=by
 have f:∀k,(a.put dst x).tmps[k]?=if dst=some k then some x else a.tmps[k]?:=by
  cases dst with
  |none=>simp[Act.put]
  |some d=>
   have aB:d<a.tmps.size:=by rw[R.size];grind
   grind[Act.put]
 refine⟨R.bO,λk c e af aq=>?_,λk c e af aq=>?_,λk c e af aq=>?_,R.dX,?_,?_,R.ext,R.own,R.fix,R.fR⟩
 . rw[pP]at af;rw[f];split at af
   . grind
   . rename_i h;rw[al h];exact R.gL k c e af aq
 . rw[pP]at af;rw[f];split at af
   . grind
   . rename_i h;rw[al h];exact R.hJ k c e af aq
 . rw[pP]at af;split at af
   . grind
   . exact R.gK k c e af aq
 . cases dst<;>simp[Act.put,R.size]
 . cases dst<;>simp[Act.put,R.defers]
theorem JP(R:Rel aD nt φ S env J n a w)(ag:tx ops o.guard=some gd){g:Bool}(aq:gf env gd=some g):Region.wanted o (yielded ops a.tmps)=g:=by
 unfold Region.wanted;cases f:o.guard with
 |none=>
  grind[tx,gf]
 |some j=>
  rw[f]at ag;simp only[tx,bz]at ag;obtain⟨d,e,rfl⟩:=ag;simp[gf]at aq;split at aq
  . rename_i b x af;simp at aq;subst aq;simp[yielded,e];cases c:b with
    |true=>
     obtain⟨y,i,ag⟩:=R.gL d b _ af c;have:=ag.jk;grind
    |false=>
     have:=R.hJ d b _ af c;simp only[this];rfl
  grind
def j5(aD:Ctx)(nt:Nat)(n:Nat->Bool)(K:Env->ba->Prop)(a:Act)(w:World):Prop:=∃φ S env J,K env J/\Rel aD nt φ S env J n a w
theorem Y1  (h:hi P f = true):∃ fn,P.funcs[f]? = some fn/\fn.body.isSome = true/\(fn.name == "runtime.NumGoroutine") = false:= by
 grind[hi]
theorem Ze(h:hi P f=true)(args:Array Value)(w:World):(callFunc f args).run P w= .ok (.enter f args) w:=by
 obtain⟨fn,h1,a,b⟩:=Y1 h;obtain⟨c,d⟩:=FU.1 a;simp only[callFunc,Sem.run_bind,run_program,Result.andThen_ok,h1,b,d,bY,b6,Option.isNone_some,Sem.run_pure]
theorem y9{o:cR}(h:o.neutral=true){p v J'}(a:aQ o env J key=some (p,v,J')):J'=J:=by
 cases o<;>simp[cR.neutral]at h<;>simp only[aQ,bn,bz]at a
 all_goals
  (try (obtain⟨a1,h1,a⟩:=a))
  (try (obtain⟨a2,b,a⟩:=a))
  (try (obtain⟨a3,c,a⟩:=a))
  (try split at a)
  (try (simp_all;done))
 all_goals repeat' (first|(cases a;done)|(cases a;rfl)|(simp only[bz]at a;obtain⟨_,_,_,_,rfl⟩:=a;rfl)|split at a)
theorem TP{a:ca}(h:wz P nt ops o=some a):
 vP P (K9 ops o) o.op=some a.op/\tx ops o.guard=some a.guard/\a.dst=o.dst/\∀d,a.dst=some d->d<nt:=by
 grind[wz,bn]
theorem yS{b:Bool}{a:cR}(h:vP P b op=some a)(c:∀e m l z ps,a≠.bsliceT e m l z ps):c7 P op=some a:=by
 grind[T0]
theorem G6{g:Option (Nat×Bool)}(h:tx ops o.guard=some g)(aq:g=none):o.guard=none:=by
 cases a:o.guard with
 |none=>rfl
 |some x=>
  grind[tx,bz]
theorem IH{a:cR}(h:c7 P (.alloc e)=some a)(h1:∀cs,a≠.alloc cs)(b:∀cs,a≠.allocA cs)(c:∀e e8,a≠.allocS e e8):False:=by
 grind[c7,bn]
theorem Ur{args:List aR}(h:c7 P op=some (.call f args)):∃c,op= .call c/\mR P c=some (.call f args):=by
 cases op with
 |call c=>exact⟨c,rfl,h⟩
 |alloc e=>exfalso;exact IH h (by simp) (by simp) (by simp)
 |makeMap t r=>cases r<;>simp[c7]at h
 |lookup t x i c=>cases c<;>simp[c7,bn]at h
 |unOp u t x=>
  cases u<;>simp[c7]at h
  all_goals (repeat' split at h)<;>(first|(done)|simp at h)
 |makeFunc fn b c=>cases fn<;>simp[c7]at h
 |_=>
  simp only[c7]at h
  (repeat' split at h)<;>(first|(cases h)|simp[bn,bz]at h)
theorem Uf{x:aR}{args:List aR}(h:c7 P op=some (.ic x args)):∃c,op= .call c/\mR P c=some (.ic x args):=by
 cases op with
 |call c=>exact⟨c,rfl,h⟩
 |alloc e=>exfalso;exact IH h (by simp) (by simp) (by simp)
 |makeMap t r=>cases r<;>simp[c7]at h
 |lookup t x i c=>cases c<;>simp[c7,bn]at h
 |unOp u t x=>
  cases u<;>simp[c7]at h
  all_goals (repeat' split at h)<;>(first|(done)|simp at h)
 |makeFunc fn b c=>cases fn<;>simp[c7]at h
 |_=>
  simp only[c7]at h
  (repeat' split at h)<;>(first|(cases h)|simp[bn,bz]at h)
theorem TI{args:List aR}(h:mR P c=some (.call f args)):c.callee= .value (.func f)/\hi P f=true/\ng c.args.toList=some args:=by
 unfold mR at h
 (repeat' split at h)<;>simp[bn]at h
 grind
theorem Ug{x:aR}{args:List aR}(h:mR P c=some (.ic x args)):∃t,x= .tmp t/\c.callee= .value (.tmp t)/\ng c.args.toList=some args:=by
 unfold mR at h
 (repeat' split at h)<;>simp[bn]at h
 grind
theorem XB{neg:Bool}{x:aR}(h:c7 P op=some (.eqNil neg x)):
 ∃a t y z d e,op= .binOp a t y z d/\(a= .eql\/a= .neq)/\neg=(a== .neq)/\P.underlying t=some (.slice e)/\G5 z=true/\bF y=some x:=by
 cases op with
 |binOp a t y z d=>
  simp[c7]at h
  (repeat' split at h)<;>(try (done))<;>simp[bn,bz,reduceCtorEq,oB]at h
  grind
 |call c=>
  simp[c7]at h;unfold mR at h
  (repeat' split at h)<;>(first|(done)|simp[bn]at h)
 |alloc e=>exfalso;exact IH h (by simp) (by simp) (by simp)
 |makeMap t r=>cases r<;>simp[c7]at h
 |lookup t x i c=>cases c<;>simp[c7,bn]at h
 |unOp u t x=>
  cases u<;>simp[c7]at h
  all_goals (repeat' split at h)<;>(first|(cases h;done)|simp at h)
 |makeFunc fn b c=>cases fn<;>simp[c7]at h
 |_=>
  simp only[c7]at h
  (repeat' split at h)<;>(first|(cases h;done)|simp[bn,bz]at h)
theorem EA(g:o.op= .call c)(d:c.callee= .value x){caps:List Value}(i:a.eval x= .func (.func f) #[] caps.toArray)(b:hi P f=true):
 (execOp a.eval o).run P w= .ok (.enter f (c.args.toList.map a.eval++caps).toArray) w:=by
 have e:(c.args.map a.eval++caps.toArray)=(c.args.toList.map a.eval++caps).toArray:=by simp
 grind[execOp,Go.resolve,Deferred.ofValue,invoke,Ze]
theorem Calls.next{args:Array Value}{key:Nat}(x:dst=o.dst)(t:∀d,dst=some d->d<nt){g:Bool}(aq:g=true){K2:V->ba->Prop}
 (bD:∀r s,K2 r s->K (er env dst g r) s)
 (h:Calls P f args w λe w'=>∃v r c bP J',e= .returned v/\K2 r J'/\cl c w' bP r v/\r.aE (eI n key)=true/\Rel aD nt c bP env J' (eI n key) a w')
 (y:(execOp a.eval o).run P w= .ok (.enter f args) w):o.wp P a w (j5 aD nt (eI n key) K) Q:=by
 unfold Oper.wp;rw[y];refine h.mono ?_
 rintro e w' ⟨v,r,c,bP,J',rfl,h1,j,p,q⟩
 subst x;exact⟨c,bP,_,J',bD _ _ h1,q.Bm t (λ_=>j) (λh=>by grind) (λ_=>p)⟩
theorem Dj(R:Rel aD nt φ S env J n a w)(aH:∀b,key<=b->b<key+16->n b=false){T:ca}(ag:wz P nt ops o=some T)(h:hd P T key env J K):
 if Region.wanted o (yielded ops a.tmps)then o.wp P a w (j5 aD nt (eI n key) K) Q else j5 aD nt (eI n key) K (a.put o.dst undef) w:=by
 obtain⟨h1,E,F,G⟩:=TP ag;unfold hd at h;split at h
 . grind
 . rename_i g aq;have aK:=JP R E aq;rw[aK];have ap:∀{v:V} {s:ba},K (er env T.dst g v) s->s=J->g=false->j5 aD nt (eI n key) K (a.put o.dst undef) w:=by
    intro v s bD hs aE;subst hs;rw[<-F];exact⟨φ,S,_,_,bD,(R.more λ_ h=>lZ h).Bm G (λh=>by grind) (λ_=>rfl) (λh=>by grind)⟩
   rcases h with⟨aE,v,bD⟩|h
   . grind
   split at h
   ·
    rename_i f args Y;rw[Y]at h1;have az:∃c,o.op= .call c/\c.callee= .value (.func f)/\hi P f=true/\ng c.args.toList=some args:=by
     obtain⟨c,aR,ag⟩:=Ur (yS h1 (by simp));grind[TI]
    obtain⟨c,ab,ad,H,W⟩:=az;split at h
    . rename_i p vs X;have af:∀w':World,(execOp a.eval o).run P w= .ok (.enter f (c.args.toList.map a.eval).toArray) w:=by
       have:=EA (P:=P) (w:=w) (a:=a) ab ad (f:=f) (caps:=[]) rfl H;grind
      split at h
      . have I:g=true:=(by grind[gf]);subst I;obtain⟨k,u⟩:=h;obtain⟨D,O⟩:=re R W X k;exact Calls.next F G rfl (λ_ _ h=>h) (u aD nt φ S env n a w R aH O _ D) (af w)
      . rcases h with⟨I,k,u⟩|⟨r,u,bD⟩
        . subst I;obtain⟨D,O⟩:=re R W X k;exact Calls.next F G rfl (λ_ _ h=>h) (u aD nt φ S env n a w R aH O _ D) (af w)
        cases L:g with
        |true=>
         obtain⟨k,u⟩:=u L;obtain⟨D,O⟩:=re R W X k;refine Calls.next (K2:=λao J'=>ao=r/\J'=J) F G L (λao s aa=>?_) (u aD nt φ S env n a w R aH O _ D) (af w);grind
        |false=>
         grind
    grind
   . rename_i x args Y;rw[Y]at h1;obtain⟨c,ab,ag⟩:=Uf (yS h1 (by simp));obtain⟨t,rfl,ad,W⟩:=Ug ag;split at h
     . rename_i q f caps p vs M X;obtain⟨A,H,aI,k,u⟩:=h;have I:g=true:=(by grind[gf]);subst I;obtain⟨D,O⟩:=re R W X k;have aL:=ct (x:= .tmp t) R rfl M aI;have aM:=aL.1.ed;have aA:a' (cl φ w S) (caps.map λb=>V.c (.ptr b 0)) (caps.map λb=>Value.pointer (some ⟨(φ b).1,0,none⟩)):=by
        refine a'.lC (by simp) ?_;intro i v x h1 E;simp only[r1,bz]at h1 E;obtain⟨b,aw,rfl⟩:=h1;obtain⟨aQ,ak,rfl⟩:=E;rw[aw]at ak;cases ak;exact .c rfl
       have aB:V.aE.V.dF n (vs++caps.map λb=>V.c (.ptr b 0))=true:=by
        grind[tz,List.getElem?_append_left,nZ,List.getElem?_append_right,bz,V.aE,C.aE,List.all_eq_true]
       exact Calls.next F G rfl (λ_ _ h=>h) (u aD nt φ S env n a w R aH aB _ (D.append aA)) (EA ab ad aM H)
     grind
   . rename_i neg x Y;rw[Y]at h1;obtain⟨U,ty,y,z,aU,e,aG,ay,rfl,al,am,ah⟩:=XB (yS h1 (by simp));have aO:∀(b:Bool) (j:Option Addr) (l c:Nat),a.eval y= .slice j l c->j.isNone=b->(execOp a.eval o).run P w= .ok (.value (.bool (if(U== .neq)then !b else b))) w:=by
      intro b j l c m H;subst H;obtain⟨ai,an,aN⟩:∃ai:Value,a.eval z=ai/\ai= .slice none 0 0:=by
       unfold G5 at am;split at am
       . exact⟨_,rfl,rfl⟩
       grind
      subst aN;have ar:(eqGuard U ty y z (a.eval y) (a.eval z)).run P w= .ok () w:=Hf (by grind) (by grind);have aj:(Op.equal ty (.slice j l c) (.slice none 0 0)).run P w= .ok j.isNone w:=by
       obtain⟨d,aC⟩:∃d,Op.maxDepth=d+1:=⟨9999,rfl⟩
       unfold Op.equal;rw[aC];unfold Op.equalIn;cases j with
       |none=>simp only[Sem.run_bind,run_underlying al,Result.andThen_ok];rfl
       |some j=>simp only[Sem.run_bind,run_underlying al,Result.andThen_ok];rfl
      have au:(binOp U ty (a.eval y) (a.eval z)).run P w= .ok (.bool (if(U== .neq)then !j.isNone else j.isNone)) w:=by
       rcases ay with rfl|rfl
       . rw[m,an];simp only[binOp,Sem.run_bind,aj];rfl
       . rw[m,an];simp only[binOp,Sem.run_bind,aj];rfl
      simp[execOp,aG,ar,au]
     have N:∀ (b:Bool) (j:Option Addr) (l c:Nat),o.guard = none->a.eval y = .slice j l c->j.isNone = b->K (er env T.dst true (sC (if (U == .neq) then !b else b))) J->
      (if g then o.wp P a w (j5 aD nt (eI n key) K) Q else j5 aD nt (eI n key) K (a.put o.dst undef) w):=by
      intro b j l c A m H bD;have I:g=true:=by
       have:Region.wanted o (yielded ops a.tmps)=true:=(by simp[Region.wanted,A]);grind
      rw[ae I];unfold Oper.wp;rw[aO b j l c m H];show j5 aD nt (eI n key) K (a.put o.dst _) w;rw[<-F];exact⟨φ,S,_,_,bD,(R.more λ_ h=>lZ h).Bm G (λ_=>.qD _) (λh=>by cases h) (λ_=>rfl)⟩
     split at h
     . rename_i p es M;obtain⟨A,k,bD⟩:=h;obtain⟨j,cap,sz,b,off,f,m,_,_,_,B,_⟩:=cj.kp (ct R ah M k).1.ed;exact N j.isNone j _ _ (G6 E A) m rfl (bD _ λh=>by rw[B h];rfl)
     . rename_i p M;obtain⟨A,k,bD⟩:=h;obtain⟨j,m⟩:=(ct R ah M k).1.ed;exact N j.isNone j _ _ (G6 E A) m rfl (bD _)
     . rename_i p b sz off l M;obtain⟨A,k,bD⟩:=h;obtain⟨j,m,Z,aT⟩:=bp.hc (ct R ah M k).1.ed;exact N j.isNone j _ _ (G6 E A) m rfl (bD _ λh=>by rw[Z (by omega)];rfl)
     . exact h.elim
   . rename_i ab ad aS;split at h
     . rename_i p v J' Z;obtain⟨k,B,bD⟩:=h;cases L:g with
       |true=>
        simp only[b5];obtain⟨x,aP,bP,w',hres,aJ,ax,R'⟩:=ZB R h1 aH Z (k L);have av:(if T.op.neutral then J else J')=J':=by
         split
         . rename_i aF;exact(y9 aF Z).symm
         . rfl
        rw[av]at bD;have N:j5 aD nt (eI n key) K (a.put o.dst x) w':=by
         rw[<-F];exact⟨aP,bP,_,_,bD,R'.Bm G (λ_=>aJ) (λh=>by rw[L]at h;cases h) (λ_=>ax)⟩
        unfold Oper.wp;rcases hres with hres|⟨hres,rfl⟩
        . rw[hres];exact N
        . rw[hres];exact N
       |false=>
        simp only[bY,b6];rcases B with B|B
        . rw[ae B]at bD;exact ap bD rfl L
        . rw[L]at B;cases B
     . exact h.elim
end
def lt(N:Nat):Nat->Bool:=λb=>decide (b<N)
theorem IP{N b:Nat}(h:eI (lt N) N b=true):lt (N+16) b=true:=by
 grind[eI,lt]
theorem H8{N b:Nat}(h:N<=b):lt N b=false:=by grind[lt]
theorem OA{N M b:Nat}(h:N<=M)(a:lt N b=true):lt M b=true:=by grind[lt]
section
variable {P:Program}{aD:Ctx}{nt kk:Nat}{φ:dD}{S:dU}{env:Env}{J:ba}{N:Nat}{a:Act}{w:World}
theorem Lp{ops:Array Oper}{Q:Exit->Act->World->Prop}{K:Env->ba->Nat->Prop}:∀{l:List Oper} {bb:List ca} {k N:Nat} {env:Env} {J:ba} {φ:dD} {S:dU} {a:Act} {w:World},jn P nt ops l=some bb->(∀i:Nat,i<l.length->l[i]?=ops[k+i]?)->
 Rel aD nt φ S env J (lt N) a w->kx P bb N env J (λe s=>K e s (N+16*bb.length))->(∀φ S e s N a w,K e s N->Rel aD nt φ S e s (lt N) a w->Q .normal a w)->wpOps P ops Q (List.range' k l.length) a w
 |[],bb,k,N,env,J,φ,S,a,w,ag,g,R,h,f=>by
  simp[jn]at ag;subst ag;exact f _ _ _ _ _ _ _ h R
 |o::l,bb,k,N,env,J,φ,S,a,w,ag,g,R,h,f=>by
  simp[jn,bn,bz]at ag;obtain⟨n,j,c,m,rfl⟩:=ag;have p:ops[k]?=some o:=by have:=g 0 (by simp);grind
  rw[gA,B6,wpOps_cons];unfold wpOp;have hs:=Dj R (λb h1 _=>H8 h1) j (K:=λe s=>kx P c (N+16) e s λe s=>K e s (N+16*(c.length+1))) (by grind[kx]) (Q:=Q);have next:∀d w',j5 aD nt (eI (lt N) N) (λe s=>kx P c (N+16) e s λe s=>K e s (N+16*(c.length+1))) d w'->wpOps P ops Q (List.range' (k+1) l.length) d w':=by
   rintro d w' ⟨q,bP,e,s,bD,R'⟩
   refine Lp m (λi aB=>?_) (R'.more λ_ h=>IP h) ?_ f
   . have:=g (i+1) (by grind);grind
   grind
  split at hs
  . grind[Oper.wp_mono]
  grind
def Ut(P:Program)(nt kk:Nat)(c:Code)(env:Env)(J:ba)(N:Nat)(Q:Exit->Env->ba->Nat->Prop):Prop:=
 ∀aD φ S a w,aD.k=kk->Rel aD nt φ S env J (lt N) a w->c.wp P (λe b w'=>∃d bP env' J' N',Q e env' J' N'/\Rel aD nt d bP env' J' (lt N') b w') a w
def cu(P:Program)(nt kk:Nat)(c:dz)(env:Env)(J:ba)(N:Nat)(Q:Exit->Env->ba->Nat->Prop):Prop:=
 ∀code,resolve P nt code=some c->Ut P nt kk code env J N Q
variable {Q ny:Exit->Env->ba->Nat->Prop}
theorem cu.mono{c:dz}(h:cu P nt kk c env J N Q)(p:∀e env J N,Q e env J N->ny e env J N):cu P nt kk c env J N ny:=
 λcode j aD φ S a w o R=>wp_mono (h _ j aD φ S a w o R) λe a w ⟨q,bP,env',J',N',h1,f⟩=>⟨q,bP,env',J',N',p _ _ _ _ h1,f⟩
theorem cu.skip(h:Q .normal env J N):cu P nt kk .skip env J N Q:=by
 intro code c aD φ S a w e R;cases code<;>simp[resolve,bn]at c<;>(try (first|(cases c;done)|(obtain⟨l,_,c⟩:=c;(repeat' split at c)<;>cases c)))
 grind[wp_skip]
theorem cu.ret(h:Q .ret env J N):cu P nt kk .ret env J N Q:=by
 intro code c aD φ S a w e R;cases code<;>simp[resolve,bn]at c<;>(try (first|(cases c;done)|(obtain⟨l,_,c⟩:=c;(repeat' split at c)<;>cases c)))
 grind[wp_ret]
theorem cu.exit(h:Q (.exit id) env J N):cu P nt kk (.exit id) env J N Q:=by
 intro code c aD φ S a w e R;cases code<;>simp[resolve,bn]at c<;>(try (first|(cases c;done)|(obtain⟨l,_,c⟩:=c;(repeat' split at c)<;>cases c)))
 grind[wp_exit]
def andThen(next:Env->ba->Nat->Prop)(Q:Exit->Env->ba->Nat->Prop):Exit->Env->ba->Nat->Prop
 |.normal,env,J,N=>next env J N
 |e,env,J,N=>Q e env J N
theorem Y2{x y:dz}(h:resolve P nt code=some (.seq x y)):∃a b,code= .seq a b/\resolve P nt a=some x/\resolve P nt b=some y:=by
 cases code with
 |seq a b=>
  simp[resolve,bn,bz]at h;grind
 |region id ops c=>
  grind[resolve,bn]
 |_=>simp[resolve,bn,bz]at h
theorem Zf{c:aR}{x y:dz}(h:resolve P nt code=some (.cond c x y)):∃o a b,code= .cond o a b/\bF o=some c/\resolve P nt a=some x/\resolve P nt b=some y:=by
 cases code with
 |cond o a b=>
  simp[resolve,bn,bz]at h;grind
 |region id ops d=>
  grind[resolve,bn]
 |_=>simp[resolve,bn,bz]at h
theorem X3{x:dz}(h:resolve P nt code=some (.block id x)):∃b,code= .block id b/\resolve P nt b=some x:=by
 cases code with
 |block i b=>
  grind[resolve,bz]
 |region id ops a=>
  grind[resolve,bn]
 |_=>simp[resolve,bn]at h
theorem Zg{x:dz}(h:resolve P nt code=some (.loop x)):∃b,code= .loop b/\resolve P nt b=some x:=by
 cases code with
 |loop b=>
  grind[resolve,bz]
 |region id ops a=>
  grind[resolve,bn]
 |_=>simp[resolve,bn]at h
theorem T1(h:resolve P nt code=some (.region bb)):∃id ops,code= .region id ops false/\jn P nt ops ops.toList=some bb:=by
 cases code with
 |region id ops a=>
  grind[resolve,bn]
 |_=>grind[resolve,bn,bz]
theorem TQ(h:resolve P nt code=some (.oI bb gg)):
 ∃id ops,code= .region id ops true/\jn P nt ops ops.toList=some bb/\ub (fw ops bb)=true/\P.follows .mixedOrders=true/\gg=sF (fw ops bb):=by
 cases code with
 |region id ops a=>
  grind[resolve,bn]
 |_=>grind[resolve,bn,bz]
theorem cu.seq{x y:dz}(h:cu P nt kk x env J N (andThen (λenv J N=>cu P nt kk y env J N Q) Q)):cu P nt kk (.seq x y) env J N Q:=by
 intro code o aD φ S a w c R;obtain⟨v,A,rfl,p,q⟩:=Y2 o;refine wp_seq (wp_mono (h _ p aD φ S a w c R) ?_)
 rintro e j w' ⟨t,bP,env',J',N',f,R'⟩
 cases e with
 |normal=>exact f _ q aD _ bP j w' c R'
 |_=>exact⟨t,bP,env',J',N',f,R'⟩
theorem cu.cond{c:aR}{x y:dz}{p:Prop}{b:Bool}(j:c.get env=some (p,sC b))(v:p)(A:b=true->cu P nt kk x env J N Q)(D:b=false->cu P nt kk y env J N Q):cu P nt kk (.cond c x y) env J N Q:=by
 intro code q aD φ S a w e R;obtain⟨o,F,G,rfl,t,B,E⟩:=Zf q;have f:=(ct R t j v).1.jk;refine wp_cond f ?_;cases b with
 |true=>exact A rfl _ B aD φ S a w e R
 |false=>exact D rfl _ E aD φ S a w e R
def inBlock(id:Nat)(Q:Exit->Env->ba->Nat->Prop):Exit->Env->ba->Nat->Prop
 |.exit i,env,J,N=>if i=id then Q .normal env J N else Q (.exit i) env J N
 |e,env,J,N=>Q e env J N
theorem cu.block{id:Nat}{x:dz}(h:cu P nt kk x env J N (inBlock id Q)):cu P nt kk (.block id x) env J N Q:=by
 intro code f aD φ S a w j R;obtain⟨b,rfl,c⟩:=X3 f;refine wp_block (wp_mono (h _ c aD φ S a w j R) ?_)
 rintro e q w' ⟨p,bP,env',J',N',o,R'⟩
 cases e with
 |exit i=>
  grind[inBlock,Exit.inBlock]
 |_=>exact⟨p,bP,env',J',N',o,R'⟩
theorem cu.region{bb:List ca}(h:kx P bb N env J (λe s=>Q .normal e s (N+16*bb.length))):cu P nt kk (.region bb) env J N Q:=by
 intro code j aD φ S a w q R;obtain⟨id,ops,rfl,ag⟩:=T1 j;refine wp_region ?_;have:=Lp (Q:=λe c w'=>∃o bP env' J' N',Q e env' J' N'/\Rel aD nt o bP env' J' (lt N') c w') (k:=0) ag (λi p=>by simp) R h
  (λφ S e s N a w bD f=>⟨φ,S,e,s,N,bD,f⟩)
 grind[List.range_eq_range']
end
def pos:a7->Nat->Option Nat
 |[],_=>none
 |x::r,b=>if x=b then some 0 else(pos r b).map (· +1)
theorem oo:∀{bs:a7} {b i:Nat},pos bs b=some i->bs[i]?=some b
 |[],b,i,h=>by grind[pos]
 |x::r,b,i,h=>by
  unfold pos at h;split at h
  . grind
  . simp at h;obtain⟨j,a,rfl⟩:=h;simpa using oo a
def pZ(bs:a7):a7->Option a7
 |[]=>some []
 |c::r=>match pos bs c,pZ bs r with
  |some i,some l=>some (i::l)
  |_,_=>none
def C.bQ(bs:a7):C->C
 |.t x=>.t x
 |.ptr b o=>match pos bs b with|some i=>.ptr i o|none=>.dead
 |.cJ b sz i o=>match pos bs b with|some j=>.cJ j sz i o|none=>.dead
 |.dM ts o=>.dM ts o
 |.arr b sz off len=>match pos bs b with|some i=>.arr i sz off len|none=>.dead
 |.fL b sz off len=>match pos bs b with|some i=>.fL i sz off len|none=>.dead
 |.mp b=>match pos bs b with|some i=>.mp i|none=>.dead
 |.ew b=>match pos bs b with|some i=>.ew i|none=>.dead
 |.cP b len=>match pos bs b with|some i=>.cP i len|none=>.dead
 |.aA=>.aA
 |.e7=>.e7
 |.e6=>.e6
 |.fn f caps=>match pZ bs caps with|some l=>.fn f l|none=>.dead
 |.dead=>.dead
def V.bQ(bs:a7):V->V
 |.c x=>.c (x.bQ bs)
 |.agg cs=>.agg (cs.map (C.bQ bs))
 |.aY vs=>.aY (go bs vs)
where go (bs:a7):List V->List V
 |[]=>[]
 |v::vs=>v.bQ bs::go bs vs
def bR.bQ(bs:a7):bR->bR
 |.box cs=>.box (cs.map (C.bQ bs))
 |.arr sz es=>.arr sz es
 |.set ks=>.set ks
 |.buf E s=>.buf E s
 |.b9 E c=>.b9 E (c.bQ bs)
 |.cA sz es i o c=>.cA sz es i o (c.bQ bs)
def oq(bs:a7)(env:Env):a7->Env
 |[]=>[]
 |k::ks=>match look env k with
  |some (g,v)=>(k,g,v.bQ bs)::oq bs env ks
  |none=>oq bs env ks
def fH(bs:a7)(J:ba):Nat->a7->ba
 |_,[]=>[]
 |i,b::r=>match aX J b with
  |some x=>(i,x.bQ bs)::fH bs J (i+1) r
  |none=>fH bs J (i+1) r
def keeps(k:Nat)(bs:a7):Bool:=(List.range k).all λi=>bs[i]?==some i
section
variable {P:Program}{aD:Ctx}{nt kk:Nat}{φ:dD}{S:dU}{env:Env}{J:ba}{N:Nat}{n:Nat->Bool}{a:Act}{w:World}
theorem G7:∀{bs caps l:a7},pZ bs caps=some l->caps.length=l.length/\∀(i b j:Nat),caps[i]?=some b->l[i]?=some j->bs[j]?=some b
 |bs,[],l,h=>by grind[pZ]
 |bs,c::r,l,h=>by
  unfold pZ at h;split at h
  . rename_i j e d af;obtain⟨h1,a⟩:=G7 af;grind[oo]
  grind
theorem bp.bQ{j:dD}(t:∀(i:Nat) b,bs[i]?=some b->j i=φ b){c:C}{v:Value}(h:bp φ w S c v):bp j w S (c.bQ bs) v:=by
 have q:=bp.jc h;cases c with
 |ptr b o=>
  grind[C.bQ,bp,oo]
 |cJ b sz i o=>
  grind[C.bQ,bp,oo]
 |arr b sz off len=>
  grind[C.bQ,bp,oo]
 |fL b sz off len=>
  grind[C.bQ,bp,oo]
 |mp b=>
  grind[C.bQ,bp,oo]
 |ew b=>
  grind[C.bQ,bp,oo]
 |cP b len=>
  grind[C.bQ,bp,oo]
 |fn f caps=>
  simp[C.bQ];split
  . rename_i l af;obtain⟨h1,p⟩:=G7 af;rw[h]
    congr 2
    apply B7 (by grind);intro i a e;simp at a e;simp;rw[t _ _ (p i _ _ (e9 a) (e9 e))]
  . exact q
 |_=>exact h
theorem Dk:∀{vs:List V} {i:Nat},(V.bQ.go bs vs)[i]?=(vs[i]?).map (V.bQ bs)
 |[],i=>by rfl
 |v::vs,0=>by rfl
 |v::vs,i+1=>by simp[V.bQ.go,Dk]
theorem CU:∀{vs:List V},(V.bQ.go bs vs).length=vs.length
 |[]=>rfl
 |v::vs=>by simp[V.bQ.go,CU]
theorem a'.qh{c e:Type}{R:α->c->Prop}{R':e->c->Prop}{f:α->e}{l:List α}{m:List c}(h:a' R l m)(k:∀a b,R a b->R' (f a) b):a' R' (l.map f) m:=by
 induction h with
 |nil=>exact .nil
 |cons j _ ih=>exact .cons (k _ _ j) ih
theorem cl.bQ{e:dD}(a:∀(i:Nat) b,bs[i]?=some b->e i=φ b){v:V}{x:Value}(h:cl φ w S v x):cl e w S (v.bQ bs) x:=by
 induction h with
 |c h=>exact .c (bp.bQ a h)
 |agg h=>exact .agg (h.qh λ_ _=>bp.bQ a)
 |aY vs xs af h ih=>
  refine .aY _ xs (by grind[CU]) ?_;grind[Dk]
theorem uc{b i:Nat}(h:pos bs b=some i):i<bs.length:=(dS.1 (oo h)).1
theorem C.j0(c:C):(c.bQ bs).aE (lt bs.length)=true:=by
 cases c with
 |ptr b o=>grind[C.bQ,C.aE,lt,uc]
 |cJ b sz i o=>grind[C.bQ,C.aE,lt,uc]
 |arr b sz off len=>grind[C.bQ,C.aE,lt,uc]
 |fL b sz off len=>grind[C.bQ,C.aE,lt,uc]
 |mp b=>grind[C.bQ,C.aE,lt,uc]
 |ew b=>grind[C.bQ,C.aE,lt,uc]
 |cP b len=>grind[C.bQ,C.aE,lt,uc]
 |fn f caps=>
  simp[C.bQ];split
  . rename_i l af;obtain⟨h1,a⟩:=G7 af;simp[C.aE,lt];intro j p;obtain⟨i,e,rfl⟩:=e1 p;exact(dS.1 (a i _ _ (e9 (by omega)) (e9 e))).1
  rfl
 |_=>rfl
theorem V.j0{bs:a7}:∀(v:V),(v.bQ bs).aE (lt bs.length)=true
 |.c x=>by grind[V.bQ,V.aE,C.j0]
 |.agg cs=>by grind[V.bQ,V.aE,C.j0]
 |.aY vs=>by exact go vs
where go:∀vs,V.aE.V.dF _ (V.bQ.go bs vs)=true
 |[]=>rfl
 |v::vs=>by simp[V.bQ.go,V.aE.V.dF,c5];exact⟨V.j0 v,go vs⟩
theorem Aa:∀{ks:a7} {k:Nat} {g:Bool} {v:V},look (oq bs env ks) k=some (g,v)->∃v0,look env k=some (g,v0)/\v=v0.bQ bs
 |[],k,g,v,h=>by grind[oq,look]
 |x::ks,k,g,v,h=>by
  unfold oq at h;split at h
  . unfold look at h;split at h
    . grind
    . exact Aa h
  . exact Aa h
theorem pQ:∀{r:a7} {i:Nat} {b:Nat} {x:bR},aX (fH bs J i r) b=some x->∃j c g,b=i+j/\r[j]?=some c/\aX J c=some g/\x=g.bQ bs
 |[],i,b,x,h=>by grind[fH,aX]
 |c::r,i,b,x,h=>by
  unfold fH at h;split at h
  . unfold aX at h;split at h
    . simp_all
    . obtain⟨j,a,f,h1,k,d,e⟩:=pQ h;exact⟨j+1,a,f,by omega,by grind,d,e⟩
  . obtain⟨j,a,f,h1,k,d,e⟩:=pQ h;exact⟨j+1,a,f,by omega,by grind,d,e⟩
theorem cZ.bQ{f:dD}(a:∀(i:Nat) b,bs[i]?=some b->f i=φ b){i b:Nat}(e:bs[i]?=some b){x:bR}(h:cZ φ w S b x):cZ f w S i (x.bQ bs):=by
 cases x with
 |box cs=>
  obtain⟨h0,vs,E,h1,j,p⟩:=h;simp only[cZ,a i b e];exact⟨h0,vs,E,h1,j.qh λ_ _=>bp.bQ a,p⟩
 |arr sz es=>simp only[cZ,a i b e];exact h
 |set ks=>simp only[cZ,a i b e];exact h
 |buf E s=>grind[bR.bQ,cZ]
 |b9 E c=>
  grind[bR.bQ,cZ,bp.bQ]
 |cA sz es i o c=>
  grind[bR.bQ,cZ,bp.bQ]
theorem Rel.tidy(R:Rel aD nt φ S env J (lt N) a w)(ks bs:a7)(bZ:bs.Nodup)(P:keeps aD.k bs=true):
 ∃M,Rel aD nt M S (oq bs env ks) (fH bs J 0 bs) (lt bs.length) a w:=by
 have K:∀(i:Nat) b,bs[i]?=some b->(λi=>φ ((bs[i]?).getD 0)) i=φ b:=by grind
 have G:∀i:Nat,i<aD.k->bs[i]?=some i:=by
  simp_all[keeps,fK,List.mem_range,jx]
 refine⟨λi=>φ ((bs[i]?).getD 0),⟨⟨λb x e=>?_,λb O x y e H Q h0 A=>?_,R.bO.st⟩,λk g v af aq=>?_,λk g v af aq=>?_,λk g v af aq=>?_,λb x e=>?_,R.size,R.defers,R.ext,λb x e h0=>?_,λb t=>?_,λb t=>?_⟩⟩
 . obtain⟨j,c,f,rfl,p,q,rfl⟩:=pQ e;rw[h7];exact cZ.bQ K p (R.bO.blk c f q)
 . obtain⟨j,c,f,rfl,p,q,rfl⟩:=pQ e;obtain⟨U,B,L,rfl,D,F,rfl⟩:=pQ H;simp only[h7,p,D]at h0 A⊢;refine R.bO.inj c B f L q F ?_ h0 A;grind[List.getElem?_eq_some_iff,List.pairwise_iff_getElem,Nat.lt_trichotomy]
 . obtain⟨v0,h1,rfl⟩:=Aa af;obtain⟨x,e,ag⟩:=R.gL k g v0 h1 aq;grind[cl.bQ]
 . obtain⟨v0,h1,rfl⟩:=Aa af;exact R.hJ k g v0 h1 aq
 . grind[Aa,V.j0]
 . obtain⟨j,c,f,rfl,p,q,rfl⟩:=pQ e;refine⟨by grind[lt,List.getElem?_eq_some_iff],?_⟩;cases f with
   |box cs=>grind[bR.bQ,bR.aE,List.all_map,List.all_eq_true,C.j0]
   |arr sz es=>rfl
   |set ks=>rfl
   |buf E s=>rfl
   |b9 E c=>exact C.j0 c
   |cA sz es i o c=>exact C.j0 c
 . obtain⟨j,c,f,rfl,p,q,rfl⟩:=pQ e;simp only[h7,p]at h0⊢;exact R.own c f q h0
 . simp only[G b t,wI];exact R.fix b t
 . simp only[lt,eT];grind
theorem cu.tidy{c:dz}{Q:Exit->Env->ba->Nat->Prop}(ks bs:a7)(bZ:bs.Nodup)(f:keeps kk bs=true)(h:cu P nt kk c (oq bs env ks) (fH bs J 0 bs) bs.length Q):cu P nt kk c env J N Q:=by
 intro code e aD φ S a w j R;subst j;obtain⟨o,R'⟩:=R.tidy ks bs bZ f;exact h _ e aD _ S a w rfl R'
end
def cut(es:List (List T))(off len:Nat):List (List T):=if off=0/\len=es.length then es else(es.drop off).take len
def C.cp(b0 a:Nat)(es:List (List T)):C->C
 |.arr b sz off len=>if b=b0 then(if sz=a/\off+len<=es.length then .t (.slice (cut es off len))else .dead)else .arr b sz off len
 |.cJ b sz i o=>if b=b0 then .dead else .cJ b sz i o
 |c=>c
def V.cp(b0 a:Nat)(es:List (List T)):V->V
 |.c x=>.c (x.cp b0 a es)
 |.agg cs=>.agg (cs.map (C.cp b0 a es))
 |.aY vs=>.aY (go b0 a es vs)
where go (b0 a:Nat) (es:List (List T)):List V->List V
 |[]=>[]
 |v::vs=>v.cp b0 a es::go b0 a es vs
def bR.cp(b0 a:Nat)(es:List (List T)):bR->bR
 |.box cs=>.box (cs.map (C.cp b0 a es))
 |.arr sz l=>.arr sz l
 |.set ks=>.set ks
 |.buf E s=>.buf E s
 |.b9 E c=>.b9 E (c.cp b0 a es)
 |.cA sz l i o c=>.cA sz l i o (c.cp b0 a es)
def rT(b0 a:Nat)(es:List (List T)):Env->Env
 |[]=>[]
 |(k,g,v)::r=>(k,g,v.cp b0 a es)::rT b0 a es r
def nb(b0 a:Nat)(es:List (List T)):ba->ba
 |[]=>[]
 |(k,x)::r=>if k=b0 then nb b0 a es r else(k,x.cp b0 a es)::nb b0 a es r
variable{vs:List V}
section
variable {P:Program}{aD:Ctx}{nt kk:Nat}{φ:dD}{S:dU}{env:Env}{J:ba}{N:Nat}{n:Nat->Bool}{a:Act}{w:World}
theorem zw{a:Nat}:∀{env:Env} {k:Nat},look (rT b0 a es env) k=(look env k).map λx=>(x.1,x.2.cp b0 a es)
 |[],k=>rfl
 |(i,g,v)::r,k=>by
  simp[rT,look];split
  . rfl
  . exact zw
theorem EB{b:Nat}:∀{J:ba} {k:Nat},aX (nb b0 b es J) k=if k=b0 then none else(aX J k).map (bR.cp b0 b es)
 |[],k=>by simp[nb,aX]
 |(i,x)::r,k=>by
  simp[nb,aX];by_cases h:i=b0
  . rw[ae h,EB];grind
  . rw[al h];simp[aX];by_cases a:i=k
    . grind
    . rw[al a,al a,EB]
def w1(S:dU)(q:Nat×Nat):dU:=λb j=>S b j\/(q.2≠0/\b=q.1)
theorem acX{len:Nat}{e:List T}(h:e∈cut es off len):e∈es:=by
 grind[cut]
theorem acY{len i:Nat}{e:List T}(a:off+len<=es.length)(h:(cut es off len)[i]?=some e):es[off+i]?=some e/\i<len:=by
 grind[cut]
theorem ZC{len:Nat}(a:off+len<=es.length):(cut es off len).length=len:=by
 grind[cut]
theorem bp.cp{b0 x:Nat}{es:List (List T)}(dj:cZ φ w S b0 (.arr x es)){c:C}{v:Value}(h:bp φ w S c v):bp φ w (w1 S (φ b0)) (c.cp b0 x es) v:=by
 have m:gr w S w (w1 S (φ b0)):=⟨λ_ _ h=>.inl h,λ_ _ _=>rfl⟩
 have q:=bp.jc h;cases c with
 |arr b sz off len=>
  simp[C.cp];by_cases f:b=b0
  . subst f;rw[ae rfl];split
    . rename_i B;obtain⟨rfl,p⟩:=B;obtain⟨h1,J,y,K,bf⟩:=dj;obtain⟨a,rfl,A,M⟩:=bp.hc h;have af:=ZC p;have aN:Value.slice a len ((φ b).2-off)=Value.slice a (cut es off len).length ((φ b).2-off):=(by grind);rw[aN];by_cases h0:(φ b).2=0
      . have:cut es off len=[]:=ju (by omega);rw[this];exact cj.slice [] _ _ 0 0 0 (λ_ _=>undef) (by simp) (by simp) (by simp) (by simp) (by simp) (by simp)
      . obtain⟨vs,E,aa,N,ag,hs⟩:=bf h0;refine cj.slice _ _ _ sz _ _ (λi j=>(vs.getD ((off+i)*sz+j) undef)) (by omega) (by omega) (λe he=>y e (acX he)) (λ_=>A h0) ?_ ?_
        . intro i j F L;refine⟨.inr ⟨h0,rfl⟩,?_⟩;rw[jm aa];have aB:(off+i)*sz+j<vs.length:=by
           have:=eX sz (show off+i+1<=(φ b).2 by omega);grind
          grind
        . intro i j e t he ht;obtain⟨D,F⟩:=acY p he;obtain⟨v,H,G⟩:=ag _ _ _ _ D ht;simp[List.getD,H];exact cj.mono m G
    . exact q
  . rw[al f];exact bp.mono m (λ_ _=>rfl) (C.mC _) h
 |cJ b sz i o=>
  simp[C.cp];split
  . exact q
  . exact h
 |_=>exact bp.mono m (λ_ _=>rfl) (C.mC _) h
theorem G8{a:Nat}:∀{vs:List V} {i:Nat},(V.cp.go b0 a es vs)[i]?=(vs[i]?).map (V.cp b0 a es)
 |[],i=>by rfl
 |v::vs,0=>by rfl
 |v::vs,i+1=>by simp[V.cp.go,G8]
theorem Hz{a:Nat}:∀{vs:List V},(V.cp.go b0 a es vs).length=vs.length
 |[]=>rfl
 |v::vs=>by simp[V.cp.go,Hz]
theorem cl.cp{a:Nat}(dj:cZ φ w S b0 (.arr a es)){v:V}{x:Value}(h:cl φ w S v x):cl φ w (w1 S (φ b0)) (v.cp b0 a es) x:=by
 induction h with
 |c h=>exact .c (bp.cp dj h)
 |agg h=>exact .agg (h.qh λ_ _=>bp.cp dj)
 |aY vs xs af h ih=>
  refine .aY _ xs (by grind[Hz]) ?_;grind[G8]
theorem C.qH{a:Nat}{c:C}(h:c.aE n=true):(c.cp b0 a es).aE n=true:=by
 cases c with
 |arr b sz off len=>simp[C.cp];split;split;rfl;rfl;grind
 |cJ b sz i o=>simp[C.cp];split;rfl;grind
 |_=>exact h
theorem V.qH{b0 a:Nat}{es:List (List T)}:∀{v:V},v.aE n=true->(v.cp b0 a es).aE n=true
 |.c x,h=>by grind[V.cp,V.aE,C.qH]
 |.agg cs,h=>by grind[V.cp,V.aE,C.qH]
 |.aY vs,h=>by exact go vs h
where go:∀vs,V.aE.V.dF n vs=true->V.aE.V.dF n (V.cp.go b0 a es vs)=true
 |[],_=>rfl
 |v::vs,h=>by simp[V.cp.go,V.aE.V.dF,c5]at h⊢;exact⟨V.qH h.1,go vs h.2⟩
theorem Rel.freeze(R:Rel aD nt φ S env J n a w){P:Nat}(U:aX J b0=some (.arr P es)):
 Rel aD nt φ (w1 S (φ b0)) (rT b0 P es env) (nb b0 P es J) n a w:=by
 have dj:=R.bO.blk b0 _ U;have m:gr w S w (w1 S (φ b0)):=⟨λ_ _ h=>.inl h,λ_ _ _=>rfl⟩
 have O:∀b x,aX (nb b0 P es J) b=some x->b≠b0/\∃A,aX J b=some A/\x=A.cp b0 P es:=by
  grind[EB,bz]
 have N:∀b x,b≠b0->aX J b=some x->(φ b).2≠0->∀j,¬w1 S (φ b0) (φ b).1 j:=by
  intro b x F B h0 j f;rcases f with f|⟨L,f⟩
  . exact(R.bO.blk b x B).qi h0 j f
  . exact R.bO.inj b b0 x _ B U F h0 L f
 refine⟨⟨λb x B=>?_,λb W x y B am F h0 X=>?_,λb j f=>?_⟩,λk g v af aq=>?_,λk g v af aq=>?_,λk g v af aq=>?_,λb x B=>?_,R.size,R.defers,?_,λb x B h0=>?_,R.fix,R.fR⟩
 . obtain⟨F,A,q,rfl⟩:=O b x B;have D:=R.bO.blk b A q;cases A with
   |box cs=>
    obtain⟨h0,vs,E,h1,G,H⟩:=D;exact⟨h0,vs,E,h1,G.qh λ_ _=>bp.cp dj,N b _ F q h0⟩
   |arr sz l=>
    obtain⟨h1,G,H,Q,bf⟩:=D;refine⟨h1,G,H,Q,λh0=>?_⟩;grind[cj.mono]
   |set ks=>exact⟨D.1,D.2.1,N b _ F q D.1⟩
   |buf E s=>exact⟨D.1,D.2.1,λh0=>⟨(D.2.2 h0).1,N b _ F q h0⟩⟩
   |b9 E c=>
    obtain⟨h0,⟨p,v,h1,G,H⟩,Q⟩:=D;exact⟨h0,⟨p,v,h1,G,bp.cp dj H⟩,N b _ F q h0⟩
   |cA sz l i o c=>
    obtain⟨⟨h1,G,H,Q,bf,Y⟩,⟨vs,E,k1,k2,k3,v,k4,k5⟩,k6⟩:=D;exact⟨⟨h1,G,H,Q,bf,Y⟩,⟨vs,E,k1,k2,λi j e t he ht aH=>let⟨v,Z,ag⟩:=k3 i j e t he ht aH;⟨v,Z,cj.mono m ag⟩,v,k4,bp.cp dj k5⟩,N b _ F q (by omega)⟩
 . obtain⟨_,A,q,rfl⟩:=O b x B;obtain⟨_,ap,an,rfl⟩:=O W y am;exact R.bO.inj b W A ap q an F h0 X
 . rcases f with f|⟨L,rfl⟩
   . exact R.bO.st b j f
   . exact dj.jZ L
 . rw[zw,bz]at af;obtain⟨⟨K,v0⟩,M,he⟩:=af;cases he;obtain⟨x,B,ag⟩:=R.gL k K v0 M aq;grind[cl.cp]
 . rw[zw,bz]at af;obtain⟨⟨K,v0⟩,M,he⟩:=af;cases he;exact R.hJ k K v0 M aq
 . rw[zw,bz]at af;obtain⟨⟨K,v0⟩,M,he⟩:=af;cases he;exact V.qH (R.gK k K v0 M aq)
 . obtain⟨_,A,q,rfl⟩:=O b x B;refine⟨(R.dX b A q).1,?_⟩;have:=(R.dX b A q).2;cases A with
   |box cs=>grind[bR.cp,bR.aE,List.all_map,List.all_eq_true,C.qH]
   |arr sz l=>rfl
   |set ks=>rfl
   |buf E s=>rfl
   |b9 E c=>grind[bR.cp,bR.aE,C.qH]
   |cA sz l i o c=>grind[bR.cp,bR.aE,C.qH]
 . refine⟨R.ext.os,R.ext.tape,R.ext.output,R.ext.size,R.ext.block,R.ext.mono.trans m,λb j f=>?_⟩;rcases f with f|⟨L,rfl⟩
   . exact R.ext.r' b j f
   . rcases R.own b0 _ U L with h|h
     all_goals grind
 . obtain⟨_,A,q,rfl⟩:=O b x B;exact R.own b A q h0
theorem cu.freeze{c:dz}{Q:Exit->Env->ba->Nat->Prop}(b0:Nat){e:Nat}(f:aX J b0=some (.arr e es))(h:cu P nt kk c (rT b0 e es env) (nb b0 e es J) N Q):cu P nt kk c env J N Q:=by
 intro code j aD φ S a w o R;exact h _ j aD φ _ a w o (R.freeze f)
inductive jf where
 |tmp (t:Nat)
 |cell (t:Nat)(agg:Bool)(n:Nat)
def ie(P:Program):List ResultVar->Option (List jf)
 |[]=>some []
 |.tmp t::r=>(ie P r).map (.tmp t::·)
 |.cell a ty::r=>(ot P ty).bind λg=>(ie P r).map (.cell a g.1 g.2::·)
def ud(env:Env)(J:ba):jf->Option (Prop×V)
 |.tmp t=>(look env t).map λx=>(x.1=true,x.2)
 |.cell t g k=>match look env t with
  |some (a,.c (.ptr b o))=>match aX J b with
   |some (.box cs)=>(jW g k cs o).map λv=>(a=true,v)
   |_=>none
  |_=>none
def p0(env:Env)(J:ba):List jf->Option (Prop×List V)
 |[]=>some (True,[])
 |r::a=>(ud env J r).bind λx=>(p0 env J a).map λy=>(x.1/\y.1,x.2::y.2)
def ml:List V->V
 |[v]=>v
 |vs=>.aY vs
def eh(P:Program)(f:Nat)(args:List V)(J:ba)(k:Nat)(Q:V->ba->Nat->Prop):Prop:=
 ∀(φ:dD) (S:dU) (w:World) (B:Nat->Prop),qB φ w S J->(∀(b:Nat) x,aX J b=some x->b<k/\x.aE (lt k)=true)->(∀(b:Nat) x,aX J b=some x->(φ b).2≠0->B (φ b).1)->
  V.aE.V.dF (lt k) args=true->∀vs:List Value,a' (cl φ w S) args vs->
  Calls P f vs.toArray w λe w'=>∃v r a bP J' N',e= .returned v/\Q r J' N'/\cl a w' bP r v/\r.aE (lt N')=true/\qB a w' bP J'/\(∀(b:Nat) x,aX J' b=some x->b<N'/\x.aE (lt N')=true)/\Ext B S bP w w'/\
   (∀(b:Nat) x,aX J' b=some x->(a b).2≠0->B (a b).1\/w.heap.size<=(a b).1)/\∀b,b<k->a b=φ b
theorem Ext.refl{B:Nat->Prop}:Ext B S S w w:=⟨rfl,rfl,rfl,d' _,λ_ _ _=>rfl,gr.refl _ _,λ_ _ h=>.inl h⟩
def gy:Nat->List V->Env
 |_,[]=>[]
 |i,v::vs=>(i,true,v)::gy (i+1) vs
theorem Dx:∀{vs:List V} {i k:Nat} {g:Bool} {v:V},look (gy i vs) k=some (g,v)->g=true/\∃j,k=i+j/\vs[j]?=some v
 |[],i,k,g,v,h=>by grind[gy,look]
 |x::vs,i,k,g,v,h=>by
  simp[gy,look]at h;split at h
  . simp_all
  . obtain⟨h1,j,a,b⟩:=Dx h;exact⟨h1,j+1,by omega,by grind⟩
def AY(a:Act):ResultVar->Sem Value
 |.tmp t=>Pure.pure (a.tmps.getD t undef)
 |.cell b ty=>do loadVar ty (<-asAddr (a.tmps.getD b undef))
theorem ZD(fn:Func)(a:Act):results fn a.tmps=(fn.results.mapM (AY a)>>=λvs=>Pure.pure (if h:vs.size=1 then vs[0]else .tuple vs)):=by rfl
theorem Zh(R:Rel aD nt φ S env J n a w){e:ResultVar}{f:jf}(ag:ie P [e]=some [f]){p:Prop}{v:V}(h:ud env J f=some (p,v))(c:p):
 ∃x,(AY a e).run P w= .ok x w/\cl φ w S v x/\v.aE n=true:=by
 cases e with
 |tmp t=>
  simp[ie]at ag;subst ag;simp only[ud,bz]at h;obtain⟨⟨g,v0⟩,af,rfl,rfl⟩:=h;obtain⟨x,k,d⟩:=R.gL t g v0 af c;refine⟨x,?_,d,R.gK t g v0 af c⟩;simp[AY,k]
 |cell m ty=>
  simp only[ie,bn,bz]at ag;obtain⟨g,aq,l,af,he⟩:=ag;simp at af;subst af;simp at he;subst he;simp[ud]at h;split at h
  . rename_i q b o af;split at h
    . rename_i cs i;simp only[bz]at h;obtain⟨v0,s,rfl,rfl⟩:=h;obtain⟨x,k,d⟩:=R.gL m q _ af c;have:=d.hS;obtain⟨_,vs,E,aa,r,_⟩:=R.bO.blk _ _ i;obtain⟨y,z,h1,u⟩:=tL aq r (R.dX _ _ i).2 (λj _=>by rw[jm aa,h7]) s;simp_all[AY,asAddr]
    grind
  grind
theorem Kd(R:Rel aD nt φ S env J n a w):∀{c:List ResultVar} {b:List jf} {p:Prop} {vs:List V},ie P c=some b->p0 env J b=some (p,vs)->p->
 ∃xs:List Value,(c.mapM (AY a)).run P w= .ok xs w/\a' (cl φ w S) vs xs/\V.aE.V.dF n vs=true
 |[],b,p,vs,ag,h,f=>by
  simp[ie]at ag;subst ag;obtain⟨_,rfl⟩:=h;exact⟨[],by rfl,.nil,rfl⟩
 |g::c,b,p,vs,ag,h,f=>by
  have l:∃d e,b=d::e/\ie P [g]=some [d]/\ie P c=some e:=by
   cases g with
   |tmp t=>
    grind[ie,bz]
   |cell r ty=>
    grind[ie,bn,bz]
  obtain⟨d,e,rfl,h1,i⟩:=l;simp only[p0,bn,bz]at h;obtain⟨⟨q,v⟩,j,⟨A,B⟩,k,he⟩:=h;obtain⟨rfl,rfl⟩:=he;obtain⟨x,y,m,s⟩:=Zh R h1 j f.1;obtain⟨xs,z,o,u⟩:=Kd R i k f.2;refine⟨x::xs,?_,.cons m o,by grind[V.aE.V.dF]⟩;simp_all
theorem cl.ml{xs:List Value}(h:a' (cl φ w S) vs xs):cl φ w S (ml vs) (if h:xs.toArray.size=1 then xs.toArray[0]else .tuple xs.toArray):=by
 cases h with
 |nil=>exact .aY [] [] rfl (by simp)
 |cons h1 a=>
  cases a with
  |nil=>grind[Shv.ml]
  |cons a c=>
   refine .aY _ _ (by simp[c.length]) ?_;intro i v x e f;have:=(a'.cons h1 (.cons a c)).get e;grind
theorem acD(h:V.aE.V.dF n vs=true):(ml vs).aE n=true:=by
 unfold ml;grind[V.aE.V.dF,V.aE]
def E2(a:List jf)(Q:V->ba->Nat->Prop):Exit->Env->ba->Nat->Prop
 |.normal,env,J,N=>∃p vs,p0 env J a=some (p,vs)/\p/\Q (ml vs) J N
 |.ret,env,J,N=>∃p vs,p0 env J a=some (p,vs)/\p/\Q (ml vs) J N
 |_,_,_,_=>False
theorem eh.F7{fn:Func}{c:dz}{D:List jf}(W:P.funcs[f]?=some fn)(K:fn.body=some code)(U:resolve P fn.ntmps code=some c)(ag:ie P fn.results.toList=some D)
 {args:List V}(aH:args.length<=fn.ntmps){k:Nat}{Q:V->ba->Nat->Prop}(h:cu P fn.ntmps k c (gy 0 args) J k (E2 D Q)):eh P f args J k Q:=by
 intro φ S w B am aD Y aB vs L;have af:=L.length;refine calls_of_wp W K ?_;have R:Rel ⟨w,S,B,φ,k⟩ fn.ntmps φ S (gy 0 args) J (lt k) {tmps:=vs.toArray++Array.replicate (fn.ntmps-vs.toArray.size) undef,defers:=[]} w:=by
  refine⟨am,λi g v E aq=>?_,λi g v E aq=>?_,λi g v E aq=>?_,λb x q=>?_,?_,rfl,Ext.refl,λb x q h0=>.inl (Y b x q h0),λ_ _=>rfl,λb K=>by grind[lt]⟩
  . obtain⟨_,j,rfl,X⟩:=Dx E;obtain⟨x,q,ag⟩:=L.get X;grind
  . grind[Dx]
  . grind[Dx,nZ]
  . grind[lt]
  grind
 refine wp_mono (h _ U _ φ S _ w rfl R) ?_
 rintro e F w' ⟨ap,bP,env',J',N',a,R'⟩
 have G:(∃ p vs,p0 env' J' D = some (p,vs)/\p/\Q (ml vs) J' N')->F.defers = []/\∃ v,(results fn F.tmps).run P w' = .ok v w'/\(∃ M r o A t y,Ending.returned v = .returned M/\Q r t y/\cl o w' A r M/\r.aE (lt y) = true/\qB o w' A t/\(∀ (b:Nat) x,aX t b = some x->b<y/\x.aE (lt y) = true)/\Ext B S A w w'/\
  (∀(b:Nat) x,aX t b=some x->(o b).2≠0->B (o b).1\/w.heap.size<=(o b).1)/\∀b,b<k->o b=φ b):=by
  rintro ⟨p,an,h1,H,N⟩
  obtain⟨xs,aJ,Z,O⟩:=Kd R' ag h1 H;refine⟨R'.defers,_,?_,_,ml an,ap,bP,J',N',rfl,N,cl.ml Z,acD O,R'.bO,λb x q=>?_,R'.ext,R'.own,R'.fix⟩
  . simp_all[Array.mapM_eq_mapM_toList,ZD]
  . obtain⟨h1,H⟩:=R'.dX b x q;grind[lt]
 cases e with
 |normal=>exact G a
 |ret=>exact G a
 |exit id=>exact a.elim
 |goto l=>exact a.elim
 |panic ax=>exact a.elim
 |outgrown=>exact a.elim
end
end
open Go
def C.bI(k:Nat):C->C
 |.ptr b o=>.ptr (k+b) o
 |.cJ b sz i o=>.cJ (k+b) sz i o
 |.arr b sz off len=>.arr (k+b) sz off len
 |.fL b sz off len=>.fL (k+b) sz off len
 |.mp b=>.mp (k+b)
 |.ew b=>.ew (k+b)
 |.cP b len=>.cP (k+b) len
 |.fn f caps=>.fn f (caps.map (k+·))
 |c=>c
def V.bI(k:Nat):V->V
 |.c x=>.c (x.bI k)
 |.agg cs=>.agg (cs.map (C.bI k))
 |.aY vs=>.aY (go k vs)
where go (k:Nat):List V->List V
 |[]=>[]
 |v::vs=>v.bI k::go k vs
def bR.bI(k:Nat):bR->bR
 |.box cs=>.box (cs.map (C.bI k))
 |.arr sz es=>.arr sz es
 |.set ks=>.set ks
 |.buf E s=>.buf E s
 |.b9 E c=>.b9 E (c.bI k)
 |.cA sz es i o c=>.cA sz es i o (c.bI k)
def my(J:ba)(k:Nat):ba->ba
 |[]=>J
 |(b,x)::r=>df (my J k r) (k+b) (x.bI k)
variable{J:ba}{K:V->ba->Prop}{f:Nat}{Q:V->ba->Nat->Prop}
theorem zT{k:Nat}:∀{a:ba} {b:Nat},aX (my J k a) b=match (if k<=b then aX a (b-k)else none)with|some x=>some (x.bI k)|none=>aX J b
 |[],b=>by simp[my,aX]
 |(c,x)::r,b=>by
  simp[my,c2,zT,aX];grind
section
variable {P:Program}{aD:Ctx}{nt kk:Nat}{φ:dD}{S bP:dU}{env:Env}{J:ba}{N key:Nat}{n:Nat->Bool}{a:Act}{w w':World}
theorem hU.SU{args:List V}{r:V}(h:eh P f args [] 0 (λj _ _=>j=r))(p:V.aE.V.dF (lt 0) args=true)(ag:r.aE (lt 0)=true)(bD:K r J):hU P f args J key K:=by
 intro aD nt φ S env n a w R aH F vs q;refine(h φ S w (λ_=>False) ⟨λb x c=>by grind[aX],λb t x y c=>by grind[aX],R.bO.st⟩ (λb x c=>by grind[aX]) (λb x c=>by grind[aX]) p vs q).mono ?_
 rintro e w' ⟨v,j,G,bP,J',N',rfl,rfl,h1,A,o,B,bf,D,E⟩
 refine⟨v,j,φ,bP,J,rfl,bD,?_,V.ho (λb h=>by grind[lt]) ag,(R.extend bf o.st).more λ_ h=>lZ h⟩;exact cl.mono (gr.refl _ _) (λb h=>by grind[lt]) ag h1
theorem bp.bI{a:dD}{k:Nat}{n:Nat->Bool}(j:∀b,n b=true->a (k+b)=φ b){c:C}{v:Value}(e:c.aE n=true)(h:bp φ w S c v):bp a w S (c.bI k) v:=by
 cases c with
 |ptr b o=>grind[C.aE,C.bI,bp]
 |cJ b sz i o=>grind[C.aE,C.bI,bp]
 |arr b sz off len=>grind[C.aE,C.bI,bp]
 |fL b sz off len=>grind[C.aE,C.bI,bp]
 |mp b=>grind[C.aE,C.bI,bp]
 |ew b=>grind[C.aE,C.bI,bp]
 |cP b len=>grind[C.aE,C.bI,bp]
 |fn f caps=>
  simp_all[C.aE,C.bI,bp]
 |_=>exact h
theorem Lq{k:Nat}:∀{vs:List V} {i:Nat},(V.bI.go k vs)[i]?=(vs[i]?).map (V.bI k)
 |[],i=>by rfl
 |v::vs,0=>by rfl
 |v::vs,i+1=>by simp[V.bI.go,Lq]
theorem Ke{k:Nat}:∀{vs:List V},(V.bI.go k vs).length=vs.length
 |[]=>rfl
 |v::vs=>by simp[V.bI.go,Ke]
theorem cl.bI{f:dD}{k:Nat}{n:Nat->Bool}(e:∀b,n b=true->f (k+b)=φ b){v:V}{x:Value}(a:v.aE n=true)(h:cl φ w S v x):cl f w S (v.bI k) x:=by
 induction h with
 |c h=>exact .c (bp.bI e (by grind[V.aE]) h)
 | @agg cs vs h=>
  simp[V.aE]at a;refine .agg ?_;have:=h.imp λc v j ag=>bp.bI e (a c j) ag;exact this.qh λ_ _ h=>h
 |aY vs xs af h ih=>
  refine .aY _ xs (by grind[Ke]) ?_;grind[Lq,nZ,V.aE]
theorem C.r9{m:Nat}(a:m<=16){c:C}(h:c.aE (lt m)=true):(c.bI key).aE (eI n key)=true:=by
 cases c<;>simp[C.bI,C.aE,lt,eI]at h⊢
 all_goals grind
theorem V.r9{m:Nat}(a:m<=16):∀{v:V},v.aE (lt m)=true->(v.bI key).aE (eI n key)=true
 |.c x,h=>by grind[V.bI,V.aE,C.r9]
 |.agg cs,h=>by grind[V.bI,V.aE,C.r9]
 |.aY vs,h=>by exact go vs h
where go:∀vs,V.aE.V.dF (lt m) vs=true->V.aE.V.dF _ (V.bI.go _ vs)=true
 |[],_=>rfl
 |v::vs,h=>by simp[V.bI.go,V.aE.V.dF,c5]at h⊢;exact⟨V.r9 a h.1,go vs h.2⟩
theorem hU.ahL{args:List V}(h:eh P f args [] 0 Q)(G:V.aE.V.dF (lt 0) args=true)
 (bD:∀r J' N',Q r J' N'->N'<=16/\K (r.bI key) (my J key J')):hU P f args J key K:=by
 intro aD nt φ S env n a w R aH be vs a4;refine(h φ S w (λ_=>False) ⟨λb x j=>by grind[aX],λb L x y j=>by grind[aX],R.bO.st⟩ (λb x j=>by grind[aX]) (λb x j=>by grind[aX]) G vs a4).mono ?_
 rintro e w' ⟨v,a5,aJ,bP,J',N',rfl,a2,h1,an,N,O,bf,a9,bb⟩
 obtain⟨cE,bD⟩:=bD _ _ _ a2;have a0:=R.extend bf N.st;let D:dD:=λb=>if key<=b/\b<key+16 then aJ (b-key)else φ b
 have aB:∀b,n b=true->D b=φ b:=by grind
 have B:∀b,lt N' b=true->D (key+b)=aJ b:=by
  intro b G;simp only[lt,eT]at G;grind
 have A:=a0.zj aB;have H:∀b x,aX (my J key J') b=some x->(∃c q,b=key+c/\aX J' c=some q/\x=q.bI key)\/aX J b=some x:=by
  grind[zT]
 have Y:∀c q,aX J' c=some q->(D (key+c)).2≠0->w.heap.size<=(D (key+c)).1:=by grind
 have ax:∀b x,aX J b=some x->(D b).2≠0->(D b).1<w.heap.size:=by
  intro b x j h0;rw[aB b (R.dX b x j).1]at h0⊢;exact(R.bO.blk b x j).jZ h0
 refine⟨v,a5.bI key,D,bP,my J key J',rfl,bD,cl.bI B an h1,V.r9 cE an,⟨⟨λb x j=>?_,λb L x y j U a3 h0 F=>?_,N.st⟩,A.gL,A.hJ,λk g v af aq=>V.ho (λ_ h=>lZ h) (A.gK k g v af aq),λb x j=>?_,A.size,A.defers,A.ext,λb x j h0=>?_,A.fix,λb G=>lZ (A.fR b G)⟩⟩
 . rcases H b x j with⟨c,q,rfl,t,rfl⟩|j
   . have dj:=N.blk c q t;have X:=O c q t;have aN:=B c (by grind[lt]);cases q with
     |box cs=>
      obtain⟨Z,vs,E,k1,k2,k3⟩:=dj;simp only[bR.bI,cZ,aN];refine⟨Z,vs,E,k1,?_,k3⟩;have ap:=X.2;simp only[bR.aE,fK]at ap;have:=k2.imp λc v t ag=>bp.bI B (ap c t) ag;exact this.qh λ_ _ h=>h
     |arr sz es=>simp only[bR.bI,cZ,aN];exact dj
     |set ks=>simp only[bR.bI,cZ,aN];exact dj
     |buf E s=>simp only[bR.bI,cZ,aN];exact dj
     |b9 E c=>
      obtain⟨Z,⟨p,v,k1,k2,k3⟩,k4⟩:=dj;simp only[bR.bI,cZ,aN];exact⟨Z,⟨p,v,k1,k2,bp.bI B (by simpa[bR.aE]using X.2) k3⟩,k4⟩
     |cA sz es i o c=>
      obtain⟨h1,⟨vs,E,k1,k2,k3,v,k4,k5⟩,k6⟩:=dj;simp only[bR.bI,cZ,aN];exact⟨h1,⟨vs,E,k1,k2,k3,v,k4,bp.bI B (by simpa[bR.aE]using X.2) k5⟩,k6⟩
   . exact A.bO.blk b x j
 . rcases H b x j with⟨c,q,rfl,t,rfl⟩|j<;>rcases H L y U with⟨M,am,rfl,W,rfl⟩|U
   . have aN:=B c (by simp[lt];exact(O c q t).1);have a1:=B M (by simp[lt];exact(O M am W).1);rw[aN]at h0⊢;rw[a1]at F⊢;exact N.inj c M q am t W (by omega) h0 F
   . have:=Y c q t h0;have:=ax L y U F;omega
   . have:=Y M am W F;have:=ax b x j h0;omega
   . exact A.bO.inj b L x y j U a3 h0 F
 . rcases H b x j with⟨c,q,rfl,t,rfl⟩|j
   . obtain⟨k1,k2⟩:=O c q t;refine⟨by simp[eI];right;omega,?_⟩;cases q with
     |box cs=>
      simp only[bR.bI,bR.aE,List.all_map,fK]at k2⊢;intro c t;exact C.r9 cE (k2 c t)
     |arr sz es=>rfl
     |set ks=>rfl
     |buf E s=>rfl
     |b9 E c=>exact C.r9 cE k2
     |cA sz es i o c=>simp only[bR.bI,bR.aE]at k2⊢;exact C.r9 cE k2
   . obtain⟨k1,k2⟩:=A.dX b x j;exact⟨lZ k1,bR.ho (λ_ h=>lZ h) k2⟩
 . rcases H b x j with⟨c,q,rfl,t,rfl⟩|j
   . exact .inr (gp R.ext.size (Y c q t h0))
   . exact A.own b x j h0
end
theorem eh.mk{P:Program}{fn:Func}{c:dz}{a:List jf}(j:P.funcs[f]?=some fn)(e:fn.body.bind (resolve P fn.ntmps)=some c)(ag:ie P fn.results.toList=some a)
 {args:List V}{nt:Nat}(o:fn.ntmps=nt)(aH:args.length<=nt){k:Nat}{Q:V->ba->Nat->Prop}(h:cu P nt k c (gy 0 args) J k (E2 a Q)):eh P f args J k Q:=by
 grind[bn,eh.F7]
section
open Go
def C.cf(f:Nat->Nat):C->C
 |.ptr b o=>.ptr (f b) o
 |.cJ b sz i o=>.cJ (f b) sz i o
 |.arr b sz off len=>.arr (f b) sz off len
 |.fL b sz off len=>.fL (f b) sz off len
 |.mp b=>.mp (f b)
 |.ew b=>.ew (f b)
 |.cP b len=>.cP (f b) len
 |.fn g caps=>.fn g (caps.map f)
 |c=>c
def V.cf(f:Nat->Nat):V->V
 |.c x=>.c (x.cf f)
 |.agg cs=>.agg (cs.map (C.cf f))
 |.aY vs=>.aY (go f vs)
where go (f:Nat->Nat):List V->List V
 |[]=>[]
 |v::vs=>v.cf f::go f vs
def bR.cf(f:Nat->Nat):bR->bR
 |.box cs=>.box (cs.map (C.cf f))
 |.arr sz es=>.arr sz es
 |.set ks=>.set ks
 |.buf E s=>.buf E s
 |.b9 E c=>.b9 E (c.cf f)
 |.cA sz es i o c=>.cA sz es i o (c.cf f)
def o4(J:ba):a7->ba
 |[]=>J
 |b::r=>h9 (o4 J r) b
variable{J:ba}{f:Nat->Nat}{bs:a7}{v:V}{Q:V->ba->Nat->Prop}{x:aR}{o:cR}{p:Prop}{K:Env->ba->Prop}
theorem qO:∀{bs:a7} {b:Nat},aX (o4 J bs) b=if b∈bs then none else aX J b
 |[],b=>by rfl
 |c::r,b=>by
  simp[o4,fQ,qO];grind
def back(bs:a7)(key:Nat)(b:Nat):Nat:=(bs[b]?).getD (key+(b-bs.length))
def hn(J:ba)(bs:a7)(f:Nat->Nat):ba->ba
 |[]=>o4 J bs
 |(b,x)::r=>df (hn J bs f r) (f b) (x.cf f)
theorem Lr:∀{d:ba} {c:Nat} {x:bR},aX (hn J bs f d) c=some x->(∃b a,c=f b/\aX d b=some a/\x=a.cf f)\/(c ∉ bs/\aX J c=some x)
 |[],c,x,h=>by
  grind[hn,qO]
 |(b,y)::r,c,x,h=>by
  simp[hn,c2]at h;split at h
  . grind[aX]
  . rcases Lr h with⟨e,a,h1,g,i⟩|h
    . grind[aX]
    grind
section
variable {P:Program}{aD:Ctx}{nt kk:Nat}{φ:dD}{S bP:dU}{env:Env}{J:ba}{N key:Nat}{n:Nat->Bool}{a:Act}{w w':World}{f:Nat->Nat}
theorem bp.cf{a:dD}{n:Nat->Bool}(j:∀b,n b=true->a (f b)=φ b){c:C}{v:Value}(e:c.aE n=true)(h:bp φ w S c v):bp a w S (c.cf f) v:=by
 cases c with
 |ptr b o=>grind[C.aE,C.cf,bp]
 |cJ b sz i o=>grind[C.aE,C.cf,bp]
 |arr b sz off len=>grind[C.aE,C.cf,bp]
 |fL b sz off len=>grind[C.aE,C.cf,bp]
 |mp b=>grind[C.aE,C.cf,bp]
 |ew b=>grind[C.aE,C.cf,bp]
 |cP b len=>grind[C.aE,C.cf,bp]
 |fn g caps=>
  simp_all[C.aE,C.cf,bp]
 |_=>exact h
theorem II:∀{vs:List V} {i:Nat},(V.cf.go f vs)[i]?=(vs[i]?).map (V.cf f)
 |[],i=>by rfl
 |v::vs,0=>by rfl
 |v::vs,i+1=>by simp[V.cf.go,II]
theorem HG:∀{vs:List V},(V.cf.go f vs).length=vs.length
 |[]=>rfl
 |v::vs=>by simp[V.cf.go,HG]
theorem cl.cf{j:dD}{n:Nat->Bool}(e:∀b,n b=true->j (f b)=φ b){x:Value}(a:v.aE n=true)(h:cl φ w S v x):cl j w S (v.cf f) x:=by
 induction h with
 |c h=>exact .c (bp.cf e (by grind[V.aE]) h)
 | @agg cs vs h=>
  simp[V.aE]at a;refine .agg ?_;have:=h.imp λc v o ag=>bp.cf e (a c o) ag;exact this.qh λ_ _ h=>h
 |aY vs xs af h ih=>
  refine .aY _ xs (by grind[HG]) ?_;grind[II,nZ,V.aE]
theorem C.rX{n m:Nat->Bool}(a:∀b,m b=true->n (f b)=true){c:C}(h:c.aE m=true):(c.cf f).aE n=true:=by
 cases c<;>simp[C.cf,C.aE]at h⊢
 all_goals grind
theorem V.rX{n m:Nat->Bool}(a:∀b,m b=true->n (f b)=true):∀{v:V},v.aE m=true->(v.cf f).aE n=true
 |.c x,h=>by grind[V.cf,V.aE,C.rX]
 |.agg cs,h=>by grind[V.cf,V.aE,C.rX]
 |.aY vs,h=>by exact go vs h
where go:∀vs,V.aE.V.dF m vs=true->V.aE.V.dF n (V.cf.go f vs)=true
 |[],_=>rfl
 |v::vs,h=>by simp[V.cf.go,V.aE.V.dF,c5]at h⊢;exact⟨V.rX a h.1,go vs h.2⟩
theorem Rel.ahg{B:Nat->Prop}(R:Rel aD nt φ S env J n a w)(e:Ext B S bP w w')(N:∀b j,bP b j->b<w'.heap.size)(M:∀b x,aX J b=some x->(φ b).2≠0->¬B (φ b).1)(dj:∀b,B b->aD.B b\/aD.jB.heap.size<=b):Rel aD nt φ bP env J n a w':=by
 have aa:=λb x f h0=>e.block _ ((R.bO.blk b x f).jZ h0) (M b x f h0);have D:∀b x,aX J b=some x->(φ b).2≠0->∀j,¬bP (φ b).1 j:=by
  intro b x f h0 j H;have y:=R.bO.blk b x f;rcases e.r' _ _ H with h|h|h
  . exact y.qi h0 j h
  . grind
  grind
 refine⟨⟨λb x f=>?_,R.bO.inj,N⟩,λk g v af aq=>?_,R.hJ,R.gK,R.dX,R.size,R.defers,?_,R.own,R.fix,R.fR⟩
 . have y:=R.bO.blk b x f;cases x with
   |box cs=>
    obtain⟨h0,vs,E,h1,q,A⟩:=y;refine⟨h0,vs,E,(aa _ _ f h0).trans h1,q.imp λc v O ag=>bp.mono e.mono (λ_ _=>rfl) (C.mC _) ag,D b _ f h0⟩
   |arr sz es=>
    obtain⟨h1,q,A,F,bf⟩:=y;refine⟨h1,q,A,F,λh0=>?_⟩;obtain⟨vs,E,k1,k2,k3,k4⟩:=bf h0;exact⟨vs,E,(aa _ _ f h0).trans k1,k2,λi j G t he ht=>let⟨v,K,ag⟩:=k3 i j G t he ht;⟨v,K,cj.mono e.mono ag⟩,D b _ f h0⟩
   |set ks=>
    obtain⟨h0,⟨es,c,h1,q⟩,A⟩:=y;exact⟨h0,⟨es,c,(aa _ _ f h0).trans h1,q⟩,D b _ f h0⟩
   |buf E s=>
    obtain⟨h1,q,A⟩:=y;refine⟨h1,q,λh0=>?_⟩;grind
   |b9 E c=>
    obtain⟨h0,⟨p,v,h1,q,A⟩,F⟩:=y;exact⟨h0,⟨p,v,(aa _ _ f h0).trans h1,q,bp.mono e.mono (λ_ _=>rfl) (C.mC _) A⟩,D b _ f h0⟩
   |cA sz es i o c=>
    obtain⟨⟨h1,q,A,F,bf,L⟩,⟨vs,E,k1,k2,k3,v,k4,k5⟩,k6⟩:=y;exact⟨⟨h1,q,A,F,bf,L⟩,⟨vs,E,(aa _ _ f (by omega)).trans k1,k2,λi j G t he ht aH=>let⟨v,K,ag⟩:=k3 i j G t he ht aH;⟨v,K,cj.mono e.mono ag⟩,v,k4,bp.mono e.mono (λ_ _=>rfl) (C.mC _) k5⟩,D b _ f (by omega)⟩
 . obtain⟨x,f,ag⟩:=R.gL k g v af aq;exact⟨x,f,cl.mono e.mono (λ_ _=>rfl) (R.gK k g v af aq) ag⟩
 . refine⟨e.os.trans R.ext.os,e.tape.trans R.ext.tape,e.output.trans R.ext.output,gp R.ext.size e.size,λb aB y=>?_,R.ext.mono.trans e.mono,λb j H=>?_⟩
   . refine(e.block b (l9 aB R.ext.size) λh=>?_).trans (R.ext.block b aB y);grind
   . rcases e.r' _ _ H with h|h|h
     . exact R.ext.r' b j h
     . grind
     . exact .inr (.inr (gp R.ext.size h))
theorem hU.raw {fn:Nat}{args:List V}{bs:a7}{Q:V->ba->Nat->Prop}(bZ:bs.Nodup)(aB:∀b,b∈bs->b<key)(h:eh P fn (args.map (V.bQ bs)) (fH bs J 0 bs) bs.length Q){K:V->ba->Prop}
 (bD:∀r J' N',Q r J' N'->N'<=bs.length+16/\K (r.cf (back bs key)) (hn J bs (back bs key) J')):(∀b,b∈bs->n b=true)->∀aD nt φ S env a w,Rel aD nt φ S env J n a w->(∀b,key<=b->b<key+16->n b=false)->V.aE.V.dF n args=true->∀vs:List Value,a' (cl φ w S) args vs->
 Calls P fn vs.toArray w λe w'=>∃v r ap bP J',e= .returned v/\K r J'/\cl ap w' bP r v/\r.aE (eI n key)=true/\Rel aD nt ap bP env J' (eI n key) a w':=by
 intro t aD nt φ S env a w R aH fd vs dn;let a1:dD:=λi=>φ ((bs[i]?).getD 0);have a0:∀(i:Nat) b,bs[i]?=some b->a1 i=φ b:=by grind
 let B:Nat->Prop:=λbv=>∃b x,b∈bs/\aX J b=some x/\(φ b).2≠0/\bv=(φ b).1;have aJ:∀b x,aX (fH bs J 0 bs) b=some x->∃c j,bs[b]?=some c/\aX J c=some j/\x=j.bQ bs:=by
  grind[pQ]
 have db:qB a1 w S (fH bs J 0 bs):=by
  refine⟨λb x f=>?_,λb D x y f G a3 h0 F=>?_,R.bO.st⟩
  . obtain⟨c,j,M,L,rfl⟩:=aJ b x f;exact cZ.bQ a0 M (R.bO.blk c j L)
  . obtain⟨c,j,M,L,rfl⟩:=aJ b x f;obtain⟨O,an,b3,b4,rfl⟩:=aJ D y G;rw[a0 b c M]at h0⊢;rw[a0 D O b3]at F⊢;refine R.bO.inj c O j an L b4 ?_ h0 F;grind[List.getElem?_eq_some_iff,List.pairwise_iff_getElem]
 have ci:a' (cl a1 w S) (args.map (V.bQ bs)) vs:=dn.qh λ_ _=>cl.bQ a0;have cN:V.aE.V.dF (lt bs.length) (args.map (V.bQ bs))=true:=by
  simp_all[tz,r1,bz,V.j0]
 refine(h a1 S w B db (λb x f=>?_) (λb x f h0=>?_) cN vs ci).mono ?_
 . obtain⟨c,j,M,L,rfl⟩:=aJ b x f;refine⟨(dS.1 M).1,?_⟩;cases j with
   |box cs=>grind[bR.bQ,bR.aE,List.all_map,List.all_eq_true,C.j0]
   |arr sz es=>rfl
   |set ks=>rfl
   |buf E s=>rfl
   |b9 E c=>exact C.j0 c
   |cA sz es i o c=>exact C.j0 c
 . grind
 rintro e w' ⟨v,dt,ap,bP,J',N',rfl,ce,h1,M,L,U,bf,eq,ex⟩
 obtain⟨cE,bD⟩:=bD _ _ _ ce;have a9:∀b,B b->aD.B b\/aD.jB.heap.size<=b:=by
  rintro bv ⟨b,x,_,f,h0,rfl⟩
  exact R.own b x f h0
 have b0:Rel aD nt φ S env (o4 J bs) n a w:=by
  have am:∀b x,aX (o4 J bs) b=some x->b ∉ bs/\aX J b=some x:=by
   grind[qO]
  exact⟨⟨λb x f=>R.bO.blk b x (am b x f).2,λb D x y f G=>R.bO.inj b D x y (am b x f).2 (am D y G).2,R.bO.st⟩,R.gL,R.hJ,R.gK,λb x f=>R.dX b x (am b x f).2,R.size,R.defers,R.ext,λb x f=>R.own b x (am b x f).2,R.fix,R.fR⟩
 have cX:∀b x,b ∉ bs->aX J b=some x->(φ b).2≠0->¬B (φ b).1:=by
  rintro b x t f h0 ⟨c,y,q,G,F,he⟩
  exact R.bO.inj b c x y f G (λe=>t (e▸q)) h0 F he
 have b1:=b0.ahg bf L.st (λb x f h0=>by
  grind[qO]) a9
 let H:dD:=λb=>if key<=b/\b<key+16 then ap (bs.length+(b-key))else φ b
 have bq:∀b,n b=true->H b=φ b:=by grind
 have N:∀b,lt N' b=true->H (back bs key b)=ap b:=by
  intro b W;simp only[lt,eT]at W;unfold back;grind
 have Z:∀b,lt N' b=true->eI n key (back bs key b)=true:=by
  intro b W;simp only[lt,eT]at W;unfold back;cases aq:bs[b]? with
  |some c=>exact lZ (t c (fp aq))
  |none=>
   simp only[Option.getD_none,eI,me,c5,eT];right;omega
 have A:=b1.zj bq;have Y:∀b x,aX (hn J bs (back bs key) J') b=some x->(∃c j,b=back bs key c/\aX J' c=some j/\x=j.cf (back bs key))\/(b ∉ bs/\aX J b=some x):=λb x f=>Lr f;have X:∀b x,b ∉ bs->aX J b=some x->aX (o4 J bs) b=some x:=by simp_all[qO,al]
 have a4:∀c j,aX J' c=some j->(H (back bs key c)).2≠0->B (H (back bs key c)).1\/w.heap.size<=(H (back bs key c)).1:=by
  intro c j q h0;rw[N c (by simp[lt];exact(U c j q).1)]at h0⊢;grind
 have bi:∀b x,b ∉ bs->aX J b=some x->(H b).2≠0->(H b).1<w.heap.size/\¬B (H b).1:=by
  intro b x t f h0;rw[bq b (R.dX b x f).1]at h0⊢;exact⟨(R.bO.blk b x f).jZ h0,cX b x t f h0⟩
 refine⟨v,dt.cf (back bs key),H,bP,hn J bs (back bs key) J',rfl,bD,cl.cf N M h1,V.rX Z M,⟨⟨λb x f=>?_,λb D x y f G a3 h0 F=>?_,L.st⟩,A.gL,A.hJ,λk g v af aq=>V.ho (λ_ h=>lZ h) (A.gK k g v af aq),λb x f=>?_,A.size,A.defers,A.ext,λb x f h0=>?_,A.fix,λb W=>lZ (A.fR b W)⟩⟩
 . rcases Y b x f with⟨c,j,rfl,q,rfl⟩|⟨t,f⟩
   . have dj:=L.blk c j q;have ax:=U c j q;have aN:=N c (by simp[lt];exact ax.1);cases j with
     |box cs=>
      obtain⟨a5,vs,E,k1,k2,k3⟩:=dj;simp only[bR.cf,cZ,aN];refine⟨a5,vs,E,k1,?_,k3⟩;have bb:=ax.2;simp only[bR.aE,fK]at bb;have:=k2.imp (R':=λc v=>bp H w' bP (C.cf (back bs key) c) v) λc v q ag=>bp.cf N (bb c q) ag;exact this.qh λ_ _ h=>h
     |arr sz es=>simp only[bR.cf,cZ,aN];exact dj
     |set ks=>simp only[bR.cf,cZ,aN];exact dj
     |buf E s=>simp only[bR.cf,cZ,aN];exact dj
     |b9 E c=>
      obtain⟨a5,⟨p,v,k1,k2,k3⟩,k4⟩:=dj;simp only[bR.cf,cZ,aN];exact⟨a5,⟨p,v,k1,k2,bp.cf N (by simpa[bR.aE]using ax.2) k3⟩,k4⟩
     |cA sz es i o c=>
      obtain⟨h1,⟨vs,E,k1,k2,k3,v,k4,k5⟩,k6⟩:=dj;simp only[bR.cf,cZ,aN];exact⟨h1,⟨vs,E,k1,k2,k3,v,k4,bp.cf N (by simpa[bR.aE]using ax.2) k5⟩,k6⟩
   . exact A.bO.blk b x (X b x t f)
 . rcases Y b x f with⟨c,j,rfl,q,rfl⟩|⟨t,f⟩<;>rcases Y D y G with⟨O,an,rfl,a2,rfl⟩|⟨be,G⟩
   . have aN:=N c (by simp[lt];exact(U c j q).1);have b2:=N O (by simp[lt];exact(U O an a2).1);rw[aN]at h0⊢;rw[b2]at F⊢;exact L.inj c O j an q a2 (by rintro rfl;exact a3 rfl) h0 F
   . obtain⟨k1,k2⟩:=bi D y be G F;rcases a4 c j q h0 with h|h
     . intro e;rw[e]at h;exact k2 h
     . omega
   . obtain⟨k1,k2⟩:=bi b x t f h0;rcases a4 O an a2 F with h|h
     . intro e;rw[<-e]at h;exact k2 h
     . omega
   . exact A.bO.inj b D x y (X b x t f) (X D y be G) a3 h0 F
 . rcases Y b x f with⟨c,j,rfl,q,rfl⟩|⟨t,f⟩
   . obtain⟨k1,k2⟩:=U c j q;refine⟨Z c (by simp[lt];exact k1),?_⟩;cases j with
     |box cs=>
      simp only[bR.cf,bR.aE,List.all_map,fK]at k2⊢;intro c q;exact C.rX Z (k2 c q)
     |arr sz es=>rfl
     |set ks=>rfl
     |buf E s=>rfl
     |b9 E c=>simp only[bR.cf,bR.aE]at k2⊢;exact C.rX Z k2
     |cA sz es i o c=>simp only[bR.cf,bR.aE]at k2⊢;exact C.rX Z k2
   . obtain⟨k1,k2⟩:=A.dX b x (X b x t f);exact⟨lZ k1,bR.ho (λ_ h=>lZ h) k2⟩
 . rcases Y b x f with⟨c,j,rfl,q,rfl⟩|⟨t,f⟩
   . rcases a4 c j q h0 with h|h
     . exact a9 _ h
     . exact .inr (gp R.ext.size h)
   . exact A.own b x (X b x t f) h0
theorem hU.ahM{fn:Nat}{args:List V}(bZ:bs.Nodup)(aB:∀b,b∈bs->b<key)(e:∀b,b∈bs->∃x,aX J b=some x)(h:eh P fn (args.map (V.bQ bs)) (fH bs J 0 bs) bs.length Q){K:V->ba->Prop}
 (bD:∀r J' N',Q r J' N'->N'<=bs.length+16/\K (r.cf (back bs key)) (hn J bs (back bs key) J')):hU P fn args J key K:=by
 intro aD nt φ S env n a w R aH c vs f;exact hU.raw bZ aB h bD (λb c=>let⟨x,j⟩:=e b c;(R.dX b x j).1) aD nt φ S _ a w R aH c vs f
theorem Kf:∀{l:a7} {i:Nat} {J J':ba},(∀b,b∈l->aX J' b=aX J b)->fH bs J' i l=fH bs J i l
 |[],i,J,J',h=>rfl
 |b::r,i,J,J',h=>by
  simp[fH];rw[h b (by simp),Kf λc a=>h c (by grind)]
theorem Kg:∀{a:ba} {J J':ba} {c:Nat},(aX (o4 J' bs) c=aX (o4 J bs) c)->aX (hn J' bs f a) c=aX (hn J bs f a) c
 |[],J,J',c,h=>h
 |(b,x)::r,J,J',c,h=>by
  simp[hn,c2];split
  . rfl
  . exact Kg h
theorem GS{key:Nat}:∀{d:ba} {J:ba} {c:Nat},d.all (λx=>decide (x.1<bs.length+16))=true->c ∉ bs->¬(key<=c/\c<key+16)->aX (hn J bs (back bs key) d) c=aX J c
 |[],J,c,a,e,ag=>by grind[hn,qO]
 |(b,x)::r,J,c,a,e,ag=>by
  simp only[r5,c5]at a;simp[hn,c2];rw[al ?_]
  . exact GS a.2 e ag
  grind[back]
end
variable {xb:a7}
section
variable {P:Program}{aD:Ctx}{nt kk:Nat}{φ:dD}{S:dU}{env env':Env}{J J' J1:ba}{N key:Nat}{n:Nat->Bool}{a:Act}{w:World}
theorem dy(h:∀t,t∈x.tmps->look env' t=look env t):x.get env'=x.get env:=by
 cases x with
 |const v=>rfl
 |tmp t=>grind[aR.get,aR.tmps]
theorem zU{xs:List aR}(h:∀t,t∈xs.flatMap aR.tmps->look env' t=look env t):hN env' xs=hN env xs:=by
 induction xs with
 |nil=>rfl
 |cons x xs ih=>
  grind[hN,dy]
theorem zV{x:Option aR}(h:∀t,t∈uu x->look env' t=look env t):jV env' x=jV env x:=by
 cases x with
 |none=>rfl
 |some x=>simp[jV];rw[dy h]
theorem Kh:∀{ps:List (Nat×Nat×aR)} {cs:List C},(∀t,t∈(ps.flatMap λp=>p.2.2.tmps)->look env' t=look env t)->lr env' cs ps=lr env cs ps
 |[],cs,h=>rfl
 |(o,k,x)::r,cs,h=>by
  simp[lr];rw[dy (λt ht=>h t (by grind))]
  congr 1;funext a;congr 1;funext c
  split
  . rw[Kh (λt ht=>h t (by grind))]
  rfl
theorem HH{sz:Nat}:∀{ps:List (Nat×aR)} {es:List (List T)},(∀t,t∈(ps.flatMap λp=>p.2.tmps)->look env' t=look env t)->jQ env' sz es ps=jQ env sz es ps
 |[],cs,h=>rfl
 |(i,x)::r,es,h=>by
  simp[jQ];rw[dy (λt ht=>h t (by grind))]
  congr 1;funext a;congr 1;funext c;congr 1;funext ts
  split
  . rw[HH (λt ht=>h t (by grind))]
  rfl
theorem acE(h:∀t,t∈o.reads->look env' t=look env t):aQ o env' J key=aQ o env J key:=by
 cases o<;>simp only[cR.reads,hQ]at h
 case mov x=>simp only[aQ];rw[dy h]
 case pick c x y=>grind[aQ,dy]
 case alloc=>rfl
 case box x=>simp only[aQ];rw[dy h]
 case allocA=>rfl
 case b2s x=>simp only[aQ];rw[dy h]
 case allocS=>rfl
 case mkset=>rfl
 case bsliceT e sz len z ps=>simp only[aQ];congr 1;funext a;rw[HH h]
 case lkset x y=>simp only[aQ];rw[dy λt ht=>h t (.inl ht),dy λt ht=>h t (.inr ht)]
 case upset x y=>simp only[aQ];rw[dy λt ht=>h t (.inl ht),dy λt ht=>h t (.inr ht)]
 case appendB e k x y=>simp only[aQ];rw[dy λt ht=>h t (.inl ht),dy λt ht=>h t (.inr ht)]
 case sdata x=>simp only[aQ];rw[dy h]
 case ustr e x y=>simp only[aQ];rw[dy λt ht=>h t (.inl ht),dy λt ht=>h t (.inr ht)]
 case idxP k x y=>simp only[aQ];rw[dy λt ht=>h t (.inl ht),dy λt ht=>h t (.inr ht)]
 case slcP k x l i=>simp only[aQ];rw[dy λt ht=>h t (.inl (.inl ht)),zV λt ht=>h t (.inl (.inr ht)),zV λt ht=>h t (.inr ht)]
 case build z ps=>simp only[aQ];rw[Kh h]
 case bslice sz len z ps=>simp only[aQ];congr 1;funext a;rw[HH h]
 case load g k x=>simp only[aQ];rw[dy h]
 case store k x v=>simp only[aQ];rw[dy λt ht=>h t (.inl ht),dy λt ht=>h t (.inr ht)]
 case nilCheck x=>simp only[aQ];rw[dy h]
 case bin op x y=>simp only[aQ];rw[dy λt ht=>h t (.inl ht),dy λt ht=>h t (.inr ht)]
 case eqAgg op ks x y=>simp only[aQ];rw[dy λt ht=>h t (.inl ht),dy λt ht=>h t (.inr ht)]
 case eqBool op x y=>simp only[aQ];rw[dy λt ht=>h t (.inl ht),dy λt ht=>h t (.inr ht)]
 case eqNil=>rfl
 case not x=>simp only[aQ];rw[dy h]
 case conv k x=>simp only[aQ];rw[dy h]
 case i2s x=>simp only[aQ];rw[dy h]
 case s2s x=>simp only[aQ];rw[dy h]
 case fldA k x=>simp only[aQ];rw[dy h]
 case fld g k m x=>simp only[aQ];rw[dy h]
 case idxA op x y=>simp only[aQ];rw[dy λt ht=>h t (.inl ht),dy λt ht=>h t (.inr ht)]
 case idxV op x y=>simp only[aQ];rw[dy λt ht=>h t (.inl ht),dy λt ht=>h t (.inr ht)]
 case mslice op _ z x=>simp only[aQ];rw[dy h]
 case idxS x y=>simp only[aQ];rw[dy λt ht=>h t (.inl ht),dy λt ht=>h t (.inr ht)]
 case slcS x l i=>simp only[aQ];rw[dy λt ht=>h t (.inl (.inl ht)),zV λt ht=>h t (.inl (.inr ht)),zV λt ht=>h t (.inr ht)]
 case slc k x l i=>grind[aQ,dy,zV]
 case slc0 x=>simp only[aQ];rw[dy h]
 case mkfn f xs=>simp only[aQ];rw[zU h]
 case ext x i=>simp only[aQ];rw[dy h]
 case len s x=>grind[aQ,dy]
 case append sz by' x y=>simp only[aQ];rw[dy λt ht=>h t (.inl ht),dy λt ht=>h t (.inr ht)]
 case max2 x y=>simp only[aQ];rw[dy λt ht=>h t (.inl ht),dy λt ht=>h t (.inr ht)]
 case min2 x y=>grind[aQ,dy]
 case call=>rfl
 rfl
def ef(env:Env)(x:aR):a7:=
 match x.get env with
 |some (_,.c (.ptr b _))=>[b]
 |some (_,.c (.cJ b _ _ _))=>[b]
 |some (_,.c (.arr b _ _ _))=>[b]
 |some (_,.c (.fL b _ _ _))=>[b]
 |some (_,.c (.mp b))=>[b]
 |some (_,.c (.ew b))=>[b]
 |some (_,.c (.cP b _))=>[b]
 |_=>[]
def C.f':C->a7
 |.ptr b _|.cJ b _ _ _|.arr b _ _ _|.fL b _ _ _|.mp b|.ew b|.cP b _=>[b]
 |.fn _ caps=>caps
 |_=>[]
def V.f':V->a7
 |.c x=>x.f'
 |.agg cs=>cs.flatMap C.f'
 |.aY _=>[]
def la(env:Env)(args:List aR):a7:=
 args.flatMap λx=>match x.get env with
  |some (_,v)=>v.f'
  |none=>[]
def eo(xb:a7)(o:cR)(env:Env)(key:Nat):a7:=
 match o with
 |.alloc _|.allocA _|.box _|.bslice .. |.mslice .. |.mkset=>[key]
 |.allocS .. =>[key,key+1]
 |.lkset x _=>ef env x
 |.upset x _=>ef env x
 |.appendB _ _ x _=>key::ef env x
 |.ustr _ x _=>ef env x
 |.call _ args=>(List.range 16).map (key+·)++(la env args++xb)
 |.load _ _ x=>ef env x
 |.b2s x=>ef env x
 |.store _ x _=>ef env x
 |.append _ _ x y=>key::(ef env x++ef env y)
 |_=>[]
def cG(xb:a7)(o:cR)(env:Env)(key b:Nat):Bool:=
 match o with
 |.alloc _|.allocA _|.box _|.bslice .. |.mslice .. |.mkset=>b==key
 |.allocS .. =>b==key||b==key+1
 |.upset x _=>(ef env x).contains b
 |.appendB _ _ x _=>b==key||(ef env x).contains b
 |.ustr _ x _=>(ef env x).contains b
 |.store _ x _=>(ef env x).contains b
 |.append _ _ x _=>b==key||(ef env x).contains b
 |.call _ args=>(decide (key<=b)&&decide (b<key+16))||(la env args++xb).contains b
 |_=>false
theorem Zi(aH:o.neutral=true)(ht:o.h'=false){p v J1}(a:aQ o env J key=some (p,v,J1)):aQ o env J' key=some (p,v,J'):=by
 cases o<;>simp only[cR.neutral,cR.h',reduceCtorEq]at aH ht<;>simp only[aQ,bn,bz]at a⊢
 all_goals
  (try (obtain⟨a1,h1,a⟩:=a;refine⟨a1,h1,?_⟩))
  (try (obtain⟨a2,b,a⟩:=a;refine⟨a2,b,?_⟩))
  (try (obtain⟨a3,c,a⟩:=a;refine⟨a3,c,?_⟩))
  (try split at a)
  (try (done))
 all_goals first
  |(cases a;rfl)
  |(cases a;done)
  |(exact⟨x,h1,b,c,rfl⟩)
  |(simp only[bz]at a⊢;obtain⟨x,h1,b⟩:=a;simp only[dV]at b⊢;exact⟨x,h1,b.1,b.2.1,trivial⟩)
  |(simp only[eG,dG,dV]at a⊢;exact⟨a.1,a.2.1,a.2.2.1,trivial⟩)
theorem Mw{b:Nat}(h:x.get env=some (p,.c (.mp b))):ef env x=[b]:=by grind[ef]
theorem ZE{b:Nat}(h:x.get env=some (p,.c (.ew b))):ef env x=[b]:=by grind[ef]
theorem ZF{b l:Nat}(h:x.get env=some (p,.c (.cP b l))):ef env x=[b]:=by grind[ef]
theorem Ls{b o:Nat}(h:x.get env=some (p,.c (.ptr b o))):ef env x=[b]:=by grind[ef]
theorem Lg{b sz i o:Nat}(h:x.get env=some (p,.c (.cJ b sz i o))):ef env x=[b]:=by grind[ef]
theorem aag{b sz i o:Nat}(h:x.get env=some (p,.c (.fL b sz i o))):ef env x=[b]:=by grind[ef]
theorem Dy{b sz i o:Nat}(h:x.get env=some (p,.c (.arr b sz i o))):ef env x=[b]:=by grind[ef]
theorem ZG{p v}(a:aQ o env J key=some (p,v,J1))(ht:∀b,b∈eo xb o env key->aX J' b=aX J b):
 (∃bq,aQ o env J' key=some (p,v,bq)/\∀b,aX bq b=if cG xb o env key b then aX J1 b else aX J' b)/\∀b,cG xb o env key b=false->aX J1 b=aX J b:=by
 by_cases I:o.neutral=true/\o.h'=false
 . have ab:∀b,cG xb o env key b=false:=by intro b;cases o<;>simp only[cR.neutral,cR.h',reduceCtorEq,bY,false_and,oB,and_self]at I<;>rfl
   have:=y9 I.1 a;subst this;exact⟨⟨J',Zi I.1 I.2 a,λb=>by grind⟩,λb _=>rfl⟩
 . cases o<;>simp only[cR.neutral,cR.h',reduceCtorEq,bY,false_and,oB,and_self,not_true,not_false_eq_true]at I
   case alloc cs=>
    simp only[aQ,dG,dV]at a⊢;obtain⟨rfl,rfl,rfl⟩:=a;refine⟨⟨_,⟨rfl,rfl,rfl⟩,λb=>?_⟩,λb f=>?_⟩
    . simp only[c2,cG,jx];grind
    simp_all[cG,kR,c2,al,ea]
   case allocA cs=>
    simp only[aQ,bz,dV]at a⊢;obtain⟨ts,Y,rfl,rfl,rfl⟩:=a;refine⟨⟨_,⟨ts,Y,rfl,rfl,rfl⟩,λb=>?_⟩,λb f=>?_⟩
    . simp only[c2,cG,jx];grind
    simp_all[cG,kR,c2,al,ea]
   case b2s x=>
    simp only[aQ,bn,bz,dV]at a⊢;obtain⟨⟨n,v0⟩,h1,⟨q,s⟩,j,rfl,rfl,rfl⟩:=a;refine⟨⟨J',⟨(n,v0),h1,(q,s),?_,rfl,rfl,rfl⟩,λb=>rfl⟩,λb _=>rfl⟩;dsimp only at j⊢;unfold nA at j⊢;split at j
    . grind
    . grind
    . rename_i b off len;rw[ht b (by simp[eo,Dy h1])];grind
    . rename_i b off len;rw[ht b (by simp[eo,aag h1])];grind
    grind
   case box x=>
    simp only[aQ,bn,bz,dV]at a⊢;obtain⟨K,h1,cs,j,rfl,rfl,rfl⟩:=a;refine⟨⟨_,⟨K,h1,cs,j,rfl,rfl,rfl⟩,λb=>?_⟩,λb f=>?_⟩
    . simp only[c2,cG,jx];grind
    simp_all[cG,kR,c2,al,ea]
   case bslice sz len z ps=>
    simp only[aQ,bn,bz,dV]at a⊢;obtain⟨K,h1,cs,j,rfl,rfl,rfl⟩:=a;refine⟨⟨_,⟨K,h1,cs,j,rfl,rfl,rfl⟩,λb=>?_⟩,λb f=>?_⟩
    . simp only[c2,cG,jx];grind
    simp_all[cG,kR,c2,al,ea]
   case mslice sz by' z x=>
    simp only[aQ,bn]at a⊢;obtain⟨K,h1,cs,j,a⟩:=a;split at a
    . rename_i he;simp only[dG,dV]at a;obtain⟨rfl,rfl,rfl⟩:=a;refine⟨⟨_,⟨K,h1,cs,j,by rw[he]⟩,λb=>?_⟩,λb f=>?_⟩
      . simp only[c2,cG,jx];grind
      simp_all[cG,kR,c2,al,ea]
    . cases a
   case load g k x=>
    have:=y9 rfl a;subst this;refine⟨⟨J',?_,λb=>rfl⟩,λb _=>rfl⟩;simp only[aQ,bn]at a⊢;obtain⟨⟨n,v0⟩,h1,a⟩:=a;refine⟨(n,v0),h1,?_⟩;dsimp only at a⊢;split at a
    . rename_i b o;rw[ht b (by simp[eo,Ls h1])];split at a
      all_goals simp_all
    . rename_i b sz i o;rw[ht b (by simp[eo,Lg h1])];split at a
      . simp_all
      . split at a
        . grind
        . rename_i aq;split at a
          all_goals simp_all
      grind
    all_goals simp_all
   case store k x y=>
    simp only[aQ,bn,eG]at a⊢;obtain⟨⟨n,v0⟩,h1,d,j,cs,w,F,a⟩:=a;have D:∀(b:Nat) (O:bR),ef env x=[b]->J1=df J b O->(∀c,aX (df J' b O) c=if cG xb (.store k x y) env key c then aX J1 c else aX J' c)/\∀c,cG xb (.store k x y) env key c=false->aX J1 c=aX J c:=by
     intro b O f hs;subst hs;refine⟨λc=>?_,λc l=>?_⟩
     . simp only[cG,f,l',kS,jb,jx,c2];grind
     . simp only[cG,f,l',kS,jb,kR]at l;rw[c2,al (ea l)]
    dsimp only at a⊢;split at a
    . rename_i b o;have f:=Ls h1;split at a
      . rename_i aa M;simp only[eG,dG,dV]at a;obtain⟨bf,rfl,rfl,B⟩:=a;obtain⟨f1,f2⟩:=D b _ f B.symm;refine⟨⟨_,⟨(n,.c (.ptr b o)),h1,d,j,cs,w,F,?_⟩,f1⟩,f2⟩;dsimp only;rw[ht b (by simp[eo,f]),M];dsimp only;rw[ae bf]
      . rename_i E U M;split at a
        . rename_i c;simp only[dG,dV]at a;obtain⟨rfl,rfl,B⟩:=a;obtain⟨f1,f2⟩:=D b _ f B.symm;refine⟨⟨_,⟨(n,.c (.ptr b 1)),h1,d,j,_,w,F,?_⟩,f1⟩,f2⟩;dsimp only;rw[ht b (by simp[eo,f]),M];rfl
        . cases a
      . cases a
    . rename_i b sz i o;have f:=Lg h1;split at a
      . rename_i L es A;split at a
        . rename_i c l;simp only[dG,dV]at a;obtain⟨rfl,rfl,B⟩:=a;obtain⟨f1,f2⟩:=D b _ f B.symm;refine⟨⟨_,⟨(n,.c (.cJ b sz i o)),h1,d,j,cs,w,F,?_⟩,f1⟩,f2⟩;dsimp only;rw[ht b (by simp[eo,f]),A];dsimp only;rw[l]
        rename_i l;simp only[bn,dG,dV]at a;obtain⟨ts,bf,rfl,rfl,B⟩:=a;obtain⟨f1,f2⟩:=D b _ f B.symm;refine⟨⟨_,⟨(n,.c (.cJ b sz i o)),h1,d,j,cs,w,F,?_⟩,f1⟩,f2⟩;dsimp only;rw[ht b (by simp[eo,f]),A];dsimp only;rw[l];dsimp only;rw[bf];rfl
      . rename_i L es ad af U A;split at a
        . rename_i c;split at a
          . rename_i N;simp only[dG,dV]at a;obtain⟨rfl,rfl,B⟩:=a;obtain⟨f1,f2⟩:=D b _ f B.symm;refine⟨⟨_,⟨(n,.c (.cJ b sz i o)),h1,d,j,_,w,F,?_⟩,f1⟩,f2⟩;dsimp only;rw[ht b (by simp[eo,f]),A];dsimp only;rw[ae N]
          . rename_i N;simp only[bn,dG,dV]at a;obtain⟨t,bf,rfl,rfl,B⟩:=a;obtain⟨f1,f2⟩:=D b _ f B.symm;refine⟨⟨_,⟨(n,.c (.cJ b sz i o)),h1,d,j,_,w,F,?_⟩,f1⟩,f2⟩;dsimp only;rw[ht b (by simp[eo,f]),A];dsimp only;rw[al N,bf];rfl
        . cases a
      . cases a
    . cases a
   case append sz by' x y=>
    simp only[aQ,bn]at a⊢;obtain⟨⟨n,v0⟩,h1,⟨d1,d2⟩,j,a⟩:=a;dsimp only at a;cases G:oP v0 d2 with
    |some r=>
     rw[G]at a;have H:=G;unfold oP at H;split at H
     . rename_i b s1 off len T Z S R;split at H
       . cases H;have C:=Dy h1;dsimp only at a;unfold u0 at a;dsimp only at a;split at a
         . rename_i ag es A;simp only[dG,dV]at a;obtain⟨rfl,rfl,rfl⟩:=a;refine⟨⟨df (h9 J' b) key (.arr sz (es.take len++(es.drop S).take R)),⟨(n,.c (.arr b s1 off len)),h1,(d1,.c (.fL T Z S R)),j,?_⟩,λc=>?_⟩,λc l=>?_⟩
           . dsimp only;rw[G];dsimp only;unfold u0;dsimp only;rw[ht b (by simp[eo,C]),A]
           . simp only[c2,fQ,cG,C,l',kS,jb,me,jx];by_cases h:c=key
             . subst h;simp
             . rw[al (ea h)];by_cases u:c=b
               . subst u;simp[h,ea h]
               . rw[al (ea u),al (by simp[h,u])]
           . simp only[cG,C,l',kS,jb,yN,kR]at l;rw[c2,fQ,al (ea l.1),al (ea l.2)]
         . cases a
       . cases H
     . cases H
    |none=>
    rw[G]at a;simp only[bn]at a;obtain⟨P,w,a⟩:=a;have Q:mr J' d2=some P:=by
     unfold mr at w⊢;split at w
     . exact w
     . exact w
     . rename_i b L off len;rw[ht b (by simp[eo,Dy j])];exact w
     . cases w
    split at a
    . have C:ef env x=[]:=(by simp[ef,h1]);simp only[dG,dV]at a;obtain⟨rfl,rfl,rfl⟩:=a;refine⟨⟨_,⟨(n,.c .aA),h1,(d1,d2),j,by dsimp only;rw[G];simp only[bn];exact⟨P,Q,rfl⟩⟩,λb=>?_⟩,λb f=>?_⟩
      . simp only[c2,cG,C,kS,jb,jx];by_cases h:b=key
        . subst h;simp
        . rw[al (ea h),al h]
      . simp only[cG,C,kS,jb,kR]at f;rw[c2,al (ea f)]
    . rename_i b L off len;have C:=Dy h1;split at a
      . rename_i ah es A;split at a
        . cases a
        . rename_i X;simp only[dG,dV]at a;obtain⟨rfl,rfl,rfl⟩:=a
          refine⟨⟨_,⟨(n,.c (.arr b L off len)),h1,(d1,d2),j,by
           dsimp only;rw[G];simp only[bn];refine⟨P,Q,?_⟩;rw[ht b (by simp[eo,C]),A];dsimp only
           rw[al X]⟩,λc=>?_⟩,λc l=>?_⟩
          . simp only[c2,fQ,cG,C,l',kS,jb,me,jx];by_cases h:c=key
            . subst h;simp
            . rw[al (ea h)];by_cases u:c=b
              . subst u;simp[h,ea h]
              . rw[al (ea u),al (by simp[h,u])]
          . simp only[cG,C,l',kS,jb,yN,kR]at l;rw[c2,fQ,al (ea l.1),al (ea l.2)]
      . cases a
    . cases a
   case allocS e e8=>
    simp only[aQ,dG,dV]at a⊢;obtain⟨rfl,rfl,rfl⟩:=a;refine⟨⟨_,⟨rfl,rfl,rfl⟩,λb=>?_⟩,λb f=>?_⟩
    . simp only[c2,cG,me,jx];by_cases h:key=b
      . rw[ae h,ae (.inl h.symm),ae h]
      . rw[al h];by_cases u:key+1=b
        . rw[ae u,ae (.inr u.symm),al h,ae u]
        . rw[al u,bB]
    . simp only[cG,yN,kR]at f;rw[c2,al (ea f.1),c2,al (ea f.2)]
   case mkset=>
    simp only[aQ,dG,dV]at a⊢;obtain⟨rfl,rfl,rfl⟩:=a;refine⟨⟨_,⟨rfl,rfl,rfl⟩,λb=>?_⟩,λb f=>?_⟩
    . simp only[c2,cG,jx];by_cases h:b=key
      . subst h;simp
      . rw[al (ea h),al h]
    . simp only[cG,kR]at f;rw[c2,al (ea f)]
   case lkset x y=>
    have:=y9 rfl a;subst this;refine⟨⟨J',?_,λb=>rfl⟩,λb _=>rfl⟩;simp only[aQ,bn]at a⊢;obtain⟨⟨n,v0⟩,h1,⟨d1,d2⟩,j,a⟩:=a;refine⟨(n,v0),h1,(d1,d2),j,?_⟩;dsimp only at a⊢;split at a
    . rename_i b s;rw[ht b (by simp[eo,Mw h1])];split at a
      . simp only[dG,dV]at a⊢;exact⟨a.1,a.2.1,trivial⟩
      . cases a
    . cases a
   case upset x y=>
    simp only[aQ,bn]at a⊢;obtain⟨⟨n,v0⟩,h1,⟨d1,d2⟩,j,a⟩:=a;dsimp only at a⊢;split at a
    . rename_i b s;have f:=Mw h1;split at a
      . rename_i ks W;simp only[dG,dV]at a;obtain⟨rfl,rfl,rfl⟩:=a
        refine⟨⟨_,⟨(n,.c (.mp b)),h1,(d1,.c (.t (.str s))),j,by
         dsimp only
         rw[ht b (by simp[eo,f]),W]⟩,λc=>?_⟩,λc l=>?_⟩
        . simp only[cG,f,l',kS,jb,jx,c2];by_cases h:c=b
          . subst h;simp
          . rw[al (ea h),al h]
        . simp only[cG,f,l',kS,jb,kR]at l;rw[c2,al (ea l)]
      . cases a
    . cases a
   case appendB e by' x y=>
    simp only[aQ,bn]at a⊢;obtain⟨⟨n,v0⟩,h1,⟨d1,d2⟩,j,a⟩:=a;dsimp only at a⊢;split at a
    . rename_i b len s;have f:=ZF h1;split at a
      . rename_i V es A;simp only[dG,dV]at a;obtain⟨rfl,rfl,rfl⟩:=a
        refine⟨⟨_,⟨(n,.c (.cP b len)),h1,(d1,.c (.t (.str s))),j,by
         dsimp only
         rw[ht b (by simp[eo,f]),A]⟩,λc=>?_⟩,λc l=>?_⟩
        . simp only[c2,fQ,cG,f,l',kS,jb,me,jx];by_cases h:c=key
          . subst h;simp
          . rw[al (ea h)];by_cases u:c=b
            . subst u;simp[h,ea h]
            . rw[al (ea u),al (by simp[h,u])]
        . simp only[cG,f,l',kS,jb,yN,kR]at l;rw[c2,fQ,al (ea l.1),al (ea l.2)]
      . cases a
    . cases a
   case ustr e x y=>
    simp only[aQ,bn]at a⊢;obtain⟨⟨n,v0⟩,h1,⟨d1,d2⟩,j,a⟩:=a;dsimp only at a⊢;split at a
    . rename_i b m;have f:=ZE h1;split at a
      . rename_i V es A;simp only[dG,dV]at a;obtain⟨rfl,rfl,rfl⟩:=a
        refine⟨⟨_,⟨(n,.c (.ew b)),h1,(d1,.c (.t (.int .i64 m))),j,by
         dsimp only
         rw[ht b (by simp[eo,f]),A]⟩,λc=>?_⟩,λc l=>?_⟩
        . simp only[fQ,cG,f,l',kS,jb,jx];by_cases h:c=b
          . subst h;simp
          . rw[al (ea h),al h]
        . simp only[cG,f,l',kS,jb,kR]at l;rw[fQ,al (ea l)]
      . cases a
    . cases a
   all_goals simp[aQ]at a
inductive DStep (xb:a7)(P:Program)(o:ca)(key:Nat)(env:Env)(J:ba)(g:Bool)(v:V):ba->Prop
 |op {p:Prop} {J2:ba} (aq:gf env o.guard = some g) (aiH:o.op.drawn = true) (ya:aQ o.op env J key = some (p,v,J2)) (BR:g = true->p) (aiL:o.op.neutral = true\/g = true):
  DStep xb P o key env J g v (if o.op.neutral then J else J2)
 |skip (aq:gf env o.guard=some g) (aiI:g=false):DStep xb P o key env J g v J
 |call {p:Prop} {f:Nat} {args:List aR} {vs:List V} (FE:o.op = .call f args) (aq:gf env o.guard = some g) (ya:hN env args = some (p,vs)) (BR:g = true->p/\V.aE.V.dF (lt 0) vs = true/\v.aE (lt 0) = true/\eh P f vs [] 0 (λuE _ _=>uE = v)):
  DStep xb P o key env J g v J
 |ic {p q:Prop} {f:Nat} {x:aR} {args:List aR} {vs:List V} (FE:o.op = .ic x args) (aH:o.guard = none) (ahs:g = true) (aiP:x.get env = some (q, .c (.fn f []))) (aiM:q) (yb:hi P f = true) (ya:hN env args = some (p,vs))
  (BR:p/\V.aE.V.dF (lt 0) vs=true/\v.aE (lt 0)=true/\eh P f vs [] 0 (λuE _ _=>uE=v)):DStep xb P o key env J g v J
 |own {p:Prop} {f:Nat} {args:List aR} {vs:List V} {r:V} {s:ba} {M:Nat} (FE:o.op = .call f args) (aq:gf env o.guard = some g) (aH:o.guard = none) (ya:hN env args = some (p,vs)) (BR:p) (yb:V.aE.V.dF (lt 0) vs = true) (ahr:M<=16) (hk:s.all (λx=>x.1<16) = true)
  (SE:eh P f vs [] 0 (λuE Gi E6=>uE=r/\Gi=s/\E6=M)) (SF:v=r.bI key):DStep xb P o key env J g v (my J key s)
 |raw {p:Prop} {f:Nat} {args:List aR} {vs:List V} {bs:a7} {r:V} {s:ba} {M:Nat} (FE:o.op = .call f args) (aq:gf env o.guard = some g) (ahs:g = true) (ya:hN env args = some (p,vs)) (BR:p)
  (bZ:bs.Nodup) (aB:∀b,b∈bs->b<key) (aiJ:∀b,b∈bs->∃x,aX J b=some x) (aiN:∀b,b∈bs->b∈la env args++xb) (ahr:M<=bs.length+16) (hk:s.all (λx=>decide (x.1<bs.length+16))=true)
  (SE:eh P f (vs.map (V.bQ bs)) (fH bs J 0 bs) bs.length (λuE Gi E6=>uE=r/\Gi=s/\E6=M)) (SF:v=r.cf (back bs key)):DStep xb P o key env J g v (hn J bs (back bs key) s)
theorem DStep.hd{o:ca}{g:Bool}(h:DStep xb P o key env J g v J1)(bD:K (er env o.dst g v) J1):hd P o key env J K:=by
 cases h with
 | @op p J2 aq G c e L=>
  grind[Shv.hd,aQ]
 |skip aq H=>
  grind[Shv.hd]
 | @call p f args vs a aq c e=>
  unfold Shv.hd;grind[hU.SU]
 | @ic p q f x args vs a aH y Q N w c e=>
  grind[Shv.hd,gf,hU.SU]
 | @raw p f args vs bs r s M a aq y c e bZ aB A O t B j D=>
  unfold Shv.hd;rw[a];dsimp;have F:hU P f vs J key (λE J'=>K (er env o.dst true E) J'):=by
   refine hU.ahM bZ aB A j ?_;grind
  grind
 | @own p f args vs r s M a aq aH c e w t B j D=>
  unfold Shv.hd;rw[aq];rw[a];grind[gf,hU.ahL]
theorem Mx{o:ca}{t:Nat}(h:t∈o.op.reads):t∈o.rd:=by grind[ca.rd]
theorem zc{o:ca}(h:∀t,t∈o.rd->look env' t=look env t):gf env' o.guard=gf env o.guard:=by
 grind[gf,ca.rd]
theorem GK{s:ba}(d:s.all (λx=>x.1<16)=true){b:Nat}(a:¬(key<=b/\b<key+16))(J:ba):aX (my J key s) b=aX J b:=by
 rw[zT];by_cases h:key<=b
 . have:aX s (b-key)=none:=by
    cases hs:aX s _ with
    |none=>rfl
    |some x=>
     have:∀{s:ba} {c:Nat} {x:bR},aX s c=some x->s.all (λx=>x.1<16)=true->c<16:=by
      induction s with
      |nil=>grind[aX]
      |cons y r ih=>
       grind[aX]
     grind
   grind
 grind
theorem ln(h:∀t,t∈x.tmps->look env' t=look env t):ef env' x=ef env x:=by
 unfold ef;rw[dy h]
theorem Hi{args:List aR}(h:∀t,t∈args.flatMap aR.tmps->look env' t=look env t):la env' args=la env args:=by
 induction args with
 |nil=>rfl
 |cons x r ih=>
  grind[la,dy]
theorem aah(h:∀t,t∈o.reads->look env' t=look env t)(b:Nat):cG xb o env' key b=cG xb o env key b:=by
 cases o<;>try rfl
 case store k x v=>grind[cG,ln,cR.reads]
 case append sz by' x y=>grind[cG,ln,cR.reads]
 case upset x y=>grind[cG,ln,cR.reads]
 case appendB e k x y=>grind[cG,ln,cR.reads]
 case ustr e x y=>grind[cG,ln,cR.reads]
 case call f args=>simp[cG];rw[Hi h]
theorem aai(h:∀t,t∈o.reads->look env' t=look env t):eo xb o env' key=eo xb o env key:=by
 cases o<;>try rfl
 case b2s x=>grind[eo,ln,cR.reads]
 case load g k x=>grind[eo,ln,cR.reads]
 case store k x v=>grind[eo,ln,cR.reads]
 case lkset x y=>grind[eo,ln,cR.reads]
 case upset x y=>grind[eo,ln,cR.reads]
 case appendB e k x y=>grind[eo,ln,cR.reads]
 case ustr e x y=>grind[eo,ln,cR.reads]
 case call f args=>simp[eo];rw[Hi h]
 grind[eo,ln,cR.reads]
theorem DStep.local{o:ca}{g:Bool}(h:DStep xb P o key env J g v J1)(he:∀t,t∈o.rd->look env' t=look env t)(ht:∀b,b∈eo xb o.op env key\/cG xb o.op env key b=true->aX J' b=aX J b):
 (∃bq,DStep xb P o key env' J' g v bq/\∀b,aX bq b=if cG xb o.op env key b then aX J1 b else aX J' b)/\∀b,cG xb o.op env key b=false->aX J1 b=aX J b:=by
 have B:=λt h=>he t (Mx h);cases h with
 | @op p J2 aq O y w S=>
  obtain⟨⟨bq,h1,K⟩,L⟩:=ZG (J':=J') y (λb c=>ht b (.inl c));have aH:o.op.neutral=true->∀b,cG xb o.op env key b=false:=by intro aH b;generalize o.op=X at aH;cases X<;>simp[cR.neutral]at aH<;>rfl
  refine⟨⟨_,DStep.op (J2:=bq) (p:=p) (by rw[zc he];exact aq) O (by rw[acE B];exact h1) w S,λb=>?_⟩,λb c=>?_⟩
  . by_cases A:o.op.neutral=true
    . rw[ae A,aH A b];rfl
    . rw[al A,al A];exact K b
  . by_cases A:o.op.neutral=true
    . rw[ae A]
    . rw[al A];exact L b c
 |skip aq R=>
  refine⟨⟨J',DStep.skip (by rw[zc he];exact aq) R,λb=>?_⟩,λb _=>rfl⟩;split
  . rename_i j;exact ht b (.inr j)
  . rfl
 | @call p f args vs a aq y w=>
  refine⟨⟨J',DStep.call a (by rw[zc he];exact aq) (by rw[zU λt h=>B t (by rw[a];exact h)];exact y) w,λb=>?_⟩,λb _=>rfl⟩;split
  . rename_i j;exact ht b (.inr j)
  . rfl
 | @ic p q f x args vs a aH F W U c y w=>
  refine⟨⟨J',DStep.ic a aH F (by rw[dy λt h=>B t (by rw[a];simp[cR.reads,h])];exact W) U c (by rw[zU λt h=>B t (by rw[a];simp only[cR.reads,hQ];exact .inr h)];exact y) w,λb=>?_⟩,λb _=>rfl⟩;split
  . rename_i j;exact ht b (.inr j)
  . rfl
 | @own p f args vs r s M a aq aH y w c E D H G=>
  refine⟨⟨_,DStep.own a (by rw[zc he];exact aq) aH (by rw[zU λt h=>B t (by rw[a];exact h)];grind) w c E D H G,λb=>?_⟩,λb N=>?_⟩
  . by_cases ag:key<=b/\b<key+16
    . have j:cG xb o.op env key b=true:=by rw[a];simp[cG,ag.1,ag.2]
      rw[ae j];have e:=ht b (.inr j);rw[zT,zT,e]
    . rw[GK D ag];split
      . rename_i j;rw[GK D ag];exact ht b (.inr j)
      . rfl
  grind[cG,GK]
 | @raw p f args vs bs r s M a aq F y w bZ aB Y Z E D H G=>
  have af:∀b,b∈la env args++xb->b∈eo xb o.op env key:=by intro b c;rw[a];simp only[eo,hQ];exact .inr (hQ.1 c)
  have Q:∀t,t∈args.flatMap aR.tmps->look env' t=look env t:=λt h=>B t (by rw[a];exact h)
  refine⟨⟨_,DStep.raw (bs:=bs) a (by rw[zc he];exact aq) F (by rw[zU Q];omega) w bZ aB (λb c=>by grind) (λb c=>by grind[Hi]) E D
   (by grind[Kf]) G,λb=>?_⟩,λb N=>?_⟩
  . by_cases j:cG xb o.op env key b=true
    . grind[Kg,qO]
    . grind[cG,Bool.or_eq_false_iff,Bool.and_eq_false_iff,decide_eq_false_iff_not,GS]
  grind[cG,Bool.or_eq_false_iff,Bool.and_eq_false_iff,decide_eq_false_iff_not,GS]
def xL(xb:a7)(P:Program):List ca->Nat->Env->ba->(Env->ba->Prop)->Prop
 |[],_,env,J,K=>K env J
 |o::r,key,env,J,K=>∃g v J1,DStep xb P o key env J g v J1/\xL xb P r (key+16) (er env o.dst g v) J1 K
structure oS (xb:a7)(P:Program)(bb:List ca)(N:Nat)(E:Nat->Env)(T:Nat->ba)(G:Nat->Bool)(W:Nat->V):Prop where
 step:∀(i:Nat) o,bb[i]?=some o->DStep xb P o (N+16*i) (E i) (T i) (G i) (W i) (T (i+1))/\E (i+1)=er (E i) o.dst (G i) (W i)
theorem H9:∀{bb:List ca} {key:Nat} {env:Env} {J:ba} {K:Env->ba->Prop},xL xb P bb key env J K->∃E T G W,oS xb P bb key E T G W/\E 0=env/\T 0=J/\K (E bb.length) (T bb.length)
 |[],key,env,J,K,h=>⟨λ_=>env,λ_=>J,λ_=>true,λ_=>.aY [],⟨λi o h=>by grind⟩,rfl,rfl,h⟩
 |o::r,key,env,J,K,h=>by
  obtain⟨g,v,J1,h1,a⟩:=h;obtain⟨E,T,G,W,ag,aN,c,bD⟩:=H9 a;refine⟨λi=>if i=0 then env else E (i-1),λi=>if i=0 then J else T (i-1),λi=>if i=0 then g else G (i-1),λi=>if i=0 then v else W (i-1),⟨λi b d=>?_⟩,rfl,rfl,by grind⟩;cases i with
  |zero=>grind
  |succ i=>
   have:=ag.step i b (by grind);grind
end
end
section
open Go
variable {xb:a7}
variable{p:Nat->Bool}{j:Nat}{L:List (ca×a7)}{o:cR}{env:Env}{w:World}{S:dU}{J:ba}{a:Act}{φ:dD}{D:Nat->a7}{Q:Exit->Act->World->Prop}
theorem IQ:∀{m:Nat},(∃i,i<m/\p i=true)->∃i,i<m/\p i=true/\∀j,j<m->p j=true->j<=i
 |0,⟨i,h,_⟩=>by omega
 |m+1,⟨i,h1,a⟩=>by
  cases d:p m with
  |true=>grind
  |false=>
   have:i<m:=(by grind);obtain⟨k,b,c,bf⟩:=IQ ⟨i,this,a⟩;grind
theorem zh{P:Program}{nt:Nat}{ops:Array Oper}:∀{l:List Oper} {bb:List ca},jn P nt ops l=some bb->bb.length=l.length
 |[],bb,h=>by grind[jn]
 |o::l,bb,h=>by
  simp[jn,bn,bz]at h;obtain⟨a,b,r,ag,rfl⟩:=h;simp[zh ag]
theorem GU{P:Program}{nt:Nat}{ops:Array Oper}:∀{l:List Oper} {bb:List ca} {i:Nat} {o:Oper},jn P nt ops l=some bb->l[i]?=some o->∃a,bb[i]?=some a/\wz P nt ops o=some a
 |[],bb,i,o,h,b=>by grind
 |x::l,bb,i,o,h,b=>by
  simp[jn,bn,bz]at h;obtain⟨a,c,r,ag,rfl⟩:=h;cases i with
  |zero=>grind
  |succ i=>simpa using GU ag (by grind)
theorem HI:∀{l:List (ca×a7)} {k i:Nat} {x:ca×a7},Ex k l=true->l[i]?=some x->∀d,d∈x.2->d<k+i
 |[],k,i,x,h,b,d,a=>by grind
 |y::r,k,i,x,h,b,d,a=>by
  simp[Ex]at h;cases i with
  |zero=>grind
  |succ i=>
   have:=HI h.2 (by simpa using b) d a;omega
theorem aaj{i:Nat}(h:ahead L j i=true):j<i/\∃x,L[i]?=some x/\j∈x.2:=by
 grind[ahead]
theorem Lh{key b:Nat}(ht:o.h'=true)(a:cG xb o env key b=true):b∈eo xb o env key:=by
 cases o
 case call f args=>
  simp[cG]at a;simp[eo];rcases a with h|h
  . exact .inl ⟨b-key,by omega,by omega⟩
  grind
 all_goals simp[cR.h']at ht<;>simp[cG,eo]at a⊢<;>first|exact a|(rcases a with h|h;exact .inl h;exact .inr (.inl h))
theorem Y3{key:Nat}(ht:o.h'=false):eo xb o env key=[]:=by
 cases o<;>simp[cR.h']at ht<;>rfl
theorem Lt{key b:Nat}(a:cG xb o env key b=true):o.neutral=false:=by
 cases o<;>simp[cG]at a<;>rfl
theorem OB{key b:Nat}(ht:o.h'=false)(a:cG xb o env key b=true):key<=b/\b<key+16:=by
 cases o<;>simp[cR.h']at ht<;>simp[cG]at a
section
variable {P:Program}{aD:Ctx}{nt kk:Nat}{N:Nat}{ops:Array Oper}{bb:List ca}{E:Nat->Env}{T:Nat->ba}{G:Nat->Bool}{W:Nat->V}
theorem Rel.ahf{env':Env}{n:Nat->Bool}(R:Rel aD nt φ S env J n a w)(h:∀t,look env' t=look env t):Rel aD nt φ S env' J n a w:=
 ⟨R.bO,λk g v af=>R.gL k g v (h k▸af),λk g v af=>R.hJ k g v (h k▸af),λk g v af=>R.gK k g v (h k▸af),R.dX,R.size,R.defers,R.ext,R.own,R.fix,R.fR⟩
def iJ(xb:a7)(bb:List ca)(E:Nat->Env)(N i b:Nat):Bool:=match bb[i]? with|some o=>cG xb o.op (E i) (N+16*i) b|none=>false
theorem vX(ag:oS xb P bb N E T G W){t:Nat}{i:Nat}:∀{k:Nat},i<=k->k<=bb.length->(∀(j:Nat) (o:ca),i<=j->j<k->bb[j]?=some o->o.dst≠some t)->look (E k) t=look (E i) t:=by
 intro k;induction k with
 |zero=>grind
 |succ k ih=>
  intro h1 c d;by_cases e:i=k+1
  . grind
  . have a:k<bb.length:=(by omega);have b:=e9 a;rw[(ag.step k _ b).2,pP];grind
theorem EC(ag:oS xb P bb N E T G W){b:Nat}{i:Nat}:∀{k:Nat},i<=k->k<=bb.length->(∀j:Nat,i<=j->j<k->iJ xb bb E N j b=false)->aX (T k) b=aX (T i) b:=by
 intro k;induction k with
 |zero=>grind
 |succ k ih=>
  intro h1 f d;by_cases g:i=k+1
  . grind
  . have e:k<bb.length:=(by omega);have c:=e9 e;have a:=d k (by omega) (by simp);unfold iJ at a;rw[c]at a;have:=((ag.step k _ c).1.local (λ_ _=>rfl) (λ_ _=>rfl)).2 b a;grind
inductive jg (D:Nat->a7)(j:Nat):Nat->Prop
 |one {i:Nat} (h:j∈D i):jg D j i
 |step {e i:Nat} (h:jg D j e) (he:e∈D i):jg D j i
theorem jg.ready{n:Nat}(a:∀i d,i<n->d∈D i->d<i)(f:∀e,e<n->p e=true->∀d,d∈D e->p d=true){i:Nat}(h:jg D j i)(o:i<n)(c:∀d,d∈D i->p d=true):p j=true:=by
 induction h<;>grind
theorem jg.congr{a:Nat->a7}{n:Nat}(c:∀i d,i<n->d∈D i->d<i)(f:∀i,i<n->D i=a i){i:Nat}(h:jg D j i)(e:i<n):jg a j i:=by
 induction h with
 |one h=>exact .one (by grind)
 |step h he ih=>
  have:=c _ _ e he;exact .step (ih (by omega)) (by grind)
theorem JQ:∀{l:List (ca×a7)} {acc:List a7},(∀(k:Nat) x,l[k]?=some x->D (acc.length+k)=x.2)->(∀i j,j∈acc.getD i []->jg D j i)->∀i j,j∈(nB l acc).getD i []->jg D j i
 |[],acc,_,b,i,j,h=>b i j h
 |x::r,acc,c,b,i,j,h=>by
  refine JQ (acc:=acc++[(x.2++x.2.flatMap _).eraseDups]) (λk y m=>?_) (λi j a=>?_) i j h
  . have:=c (k+1) y (by grind);grind
  . rw[FR,List.getElem?_append]at a;split at a
    . grind
    . cases d:i-acc.length with
      |succ k=>grind
      |zero=>
       rw[d]at a;have f:i=acc.length:=(by omega);have g:=(by simpa using c 0 x rfl);simp[wI]at a;rcases a with a|⟨e,he,a⟩
       . exact .one (by grind)
       . exact .step (b e j a) (by grind)
structure Stat (xb:a7)(bb:List ca)(D:Nat->a7)(E:Nat->Env)(N:Nat):Prop where
 back:∀i d,i<bb.length->d∈D i->d<i
 w9:∀(i j:Nat) (x y:ca) (d:Nat),bb[i]?=some x->bb[j]?=some y->y.dst=some d->(d∈x.rd->(j<i/\j∈D i)\/(x.op.neutral=true/\x.op.h'=false/\i<j/\i∈D j))/\(i=j\/x.dst≠some d)
 ord:∀i j b,i≠j->i<bb.length->j<bb.length->iJ xb bb E N i b=true->((∃y:ca,bb[j]?=some y/\b∈eo xb y.op (E j) (N+16*j))\/iJ xb bb E N j b=true)->(i<j/\jg D i j)\/(j<i/\jg D j i)
def used(N m:Nat)(listed:Array Bool):Nat->Bool:=λb=>lt N b||(List.range m).any λi=>listed.getD i false&&(decide (N+16*i<=b)&&decide (b<N+16*i+16))
structure Inv (xb:a7)(aD:Ctx)(nt:Nat)(bb:List ca)(D:Nat->a7)(N:Nat)(E:Nat->Env)(T:Nat->ba)(G:Nat->Bool)(W:Nat->V)(listed:Array Bool)(φ:dD)(S:dU)(env:Env)(J:ba)(a:Act)(w:World):Prop where
 rel:Rel aD nt φ S env J (used N bb.length listed) a w
 size:listed.size=bb.length
 down:∀i,i<bb.length->listed.getD i false=true->∀d,d∈D i->listed.getD d false=true
 c4:∀t,(∀(i:Nat) (o:ca),bb[i]?=some o->listed.getD i false=true->o.dst≠some t)->look env t=look (E 0) t
 aN:∀t (i:Nat) (o:ca),bb[i]?=some o->listed.getD i false=true->o.dst=some t->look env t=some (G i,W i)
 r8:∀b,(∀i,i<bb.length->listed.getD i false=true->iJ xb bb E N i b=false)->aX J b=aX (T 0) b
 s1:∀b i,i<bb.length->listed.getD i false=true->iJ xb bb E N i b=true->(∀j,j<bb.length->listed.getD j false=true->iJ xb bb E N j b=true->j<=i)->aX J b=aX (T (i+1)) b
theorem mU{listed:Array Bool}{i:Nat}(a:i<listed.size):(listed.setIfInBounds i true).getD j false=if j=i then true else listed.getD j false:=by
 by_cases h:j=i
 . simp_all
 simp_all[ea]
theorem Inv.agree{listed:Array Bool}(cw:Inv xb aD nt bb D N E T G W listed φ S env J a w)(st:Stat xb bb D E N)(ag:oS xb P bb N E T G W)
 {i:Nat}{o:ca}(U:bb[i]?=some o)(aH:listed.getD i false=false)(H:∀d,d∈D i->listed.getD d false=true):
 (∀t,t∈o.rd->look env t=look (E i) t)/\∀b,b∈eo xb o.op (E i) (N+16*i)\/cG xb o.op (E i) (N+16*i) b=true->aX J b=aX (T i) b:=by
 have K:i<bb.length:=(dS.1 U).1;refine⟨λt ht=>?_,λb aJ=>?_⟩
 . by_cases X:∃(j:Nat) (y:ca),bb[j]?=some y/\y.dst=some t
   . obtain⟨j,y,c,x⟩:=X;rcases (st.w9 i j o y t U c x).1 ht with⟨h1,F⟩|⟨_,_,h1,F⟩
     . rw[cw.aN t j y c (H j F) x];have:look (E (j+1)) t=some (G j,W j):=by rw[(ag.step j y c).2,pP,ae x]
       rw[<-this]
       symm
       refine vX ag (by omega) (by omega) λk z M O f B=>?_;rcases (st.w9 k j z y t f c x).2 with h|h
       all_goals grind
     . have q:j<bb.length:=(dS.1 c).1;have aB:∀(k:Nat) (z:ca),bb[k]?=some z->z.dst=some t->k=j:=by
        intro k z f B;rcases (st.w9 k j z y t f c x).2 with h|h
        . grind
        grind
       rw[cw.c4 t λk z f af B=>by
        have:=aB k z f B;subst this;have:=cw.down k q af i F
        grind]
       symm
       refine vX ag (hR _) (by omega) λk z _ a1 f B=>?_;grind
   . have A:=λj y c h=>X ⟨j,y,c,h⟩;rw[cw.c4 t λj y c _=>A j y c]
     symm
     exact vX ag (hR _) (by omega) λj y _ _ c=>A j y c
 . have Y:∀j,j≠i->j<bb.length->iJ xb bb E N j b=true->(j<i/\jg D j i)\/(i<j/\jg D i j):=by
    intro j q e v;refine st.ord j i b q e K v ?_;grind[iJ]
   have af:∀j,j<bb.length->listed.getD j false=true->iJ xb bb E N j b=true->j<i:=by
    intro j e R v;have ax:j≠i:=(by grind);rcases Y j ax e v with h|h
    . grind
    . have:=h.2.ready st.back cw.down e (cw.down j e R);grind
   have ap:∀j,j<i->iJ xb bb E N j b=true->listed.getD j false=true:=by
    intro j a0 v;rcases Y j (by omega) (by omega) v with h|h
    . exact h.2.ready (p:=λk=>listed.getD k false) st.back cw.down K H
    grind
   by_cases Z:∃j,j<i/\iJ xb bb E N j b=true
   . obtain⟨j,am,L,an⟩:=IQ Z;rw[cw.s1 b j (by omega) (ap j am L) L (λk M O Q=>an k (af k M O Q) Q)];grind[EC]
   . have A:∀j,j<i->iJ xb bb E N j b=false:=(by grind);rw[cw.r8 b λj e R=>by grind]
     symm
     exact EC ag (hR _) (by omega) λj _ q=>A j q
theorem acF{m:Nat}{listed:Array Bool}{i b:Nat}(a:i<listed.size)(h:eI (used N m listed) (N+16*i) b=true)(c:i<m):used N m (listed.setIfInBounds i true) b=true:=by
 simp only[eI,used,me]at h⊢;grind[mU]
theorem Kt{m:Nat}{listed:Array Bool}{i:Nat}(aH:listed.getD i false=false){b:Nat}(h1:N+16*i<=b)(a:b<N+16*i+16):used N m listed b=false:=by
 simp only[used];grind[lt]
theorem Inv.step{listed:Array Bool}{U:dD}{bP:dU}{bq:ba}{F:Act}{w':World}(cw:Inv xb aD nt bb D N E T G W listed φ S env J a w)(st:Stat xb bb D E N)(ag:oS xb P bb N E T G W)
 {i:Nat}{o:ca}(A:bb[i]?=some o)(aH:listed.getD i false=false)(Y:∀d,d∈D i->listed.getD d false=true)
 (H:∀b,aX bq b=if cG xb o.op (E i) (N+16*i) b then aX (T (i+1)) b else aX J b)
 (R:Rel aD nt U bP (er env o.dst (G i) (W i)) bq (eI (used N bb.length listed) (N+16*i)) F w'):
 Inv xb aD nt bb D N E T G W (listed.setIfInBounds i true) U bP (er env o.dst (G i) (W i)) bq F w':=by
 have q:i<bb.length:=(dS.1 A).1;have f:i<listed.size:=by rw[cw.size];exact q
 have O:∀b,iJ xb bb E N i b=cG xb o.op (E i) (N+16*i) b:=λb=>by unfold iJ;rw[A]
 refine⟨R.more λb x=>acF f x q,by simp[cw.size],λj c af d K=>?_,λt ht=>?_,λt j y B af Q=>?_,λb x=>?_,λb j c af M L=>?_⟩
 . rw[mU f]at af⊢;split
   . rfl
   . split at af
     . rename_i e;subst e;exact Y d K
     . exact cw.down j c af d K
 . rw[pP,al (ht i o A (by rw[mU f,ae rfl]))];exact cw.c4 t λj y B af=>ht j y B (by rw[mU f];split;rfl;exact af)
 . rw[pP];rw[mU f]at af;by_cases p:j=i
   . grind
   . rw[al p]at af;rw[al (λh=>?_)]
     . exact cw.aN t j y B af Q
     . rcases (st.w9 i j o y t A B Q).2 with X|X
       all_goals grind
 . rw[H b];have v:=x i q (by rw[mU f,ae rfl]);rw[O]at v;rw[v];exact cw.r8 b λj c af=>x j c (by grind[mU])
 . rw[H b];rw[mU f]at af;by_cases v:cG xb o.op (E i) (N+16*i) b=true
   . have an:i<=j:=L i q (by simp_all) (by grind);by_cases p:j=i
     . grind
     ·
      rw[al p]at af;rcases st.ord i j b (ea p) q c (by rw[O];exact v) (.inr M)with h|h
      . have:=h.2.ready st.back cw.down c (cw.down j c af);rw[aH]at this;cases this
      . omega
   . rw[al v];by_cases p:j=i
     . grind
     . rw[al p]at af;exact cw.s1 b j c af M λk Z ap am=>L k Z (by grind[mU]) am
theorem Inv.done{listed:Array Bool}(cw:Inv xb aD nt bb D N E T G W listed φ S env J a w)(st:Stat xb bb D E N)(ag:oS xb P bb N E T G W)
 (x:∀i,i<bb.length->listed.getD i false=true):Rel aD nt φ S (E bb.length) (T bb.length) (lt (N+16*bb.length)) a w:=by
 refine((cw.rel.ahf λt=>?_).congr λb=>?_).more λb A=>?_
 . by_cases q:∃(j:Nat) (y:ca),bb[j]?=some y/\y.dst=some t
   . obtain⟨j,y,c,v⟩:=q;have o:=(dS.1 c).1;rw[cw.aN t j y c _ _];have:look (E (j+1)) t=some (G j,W j):=by rw[(ag.step j y c).2,pP,ae v]
     rw[<-this];refine vX ag (by omega) (d' _) λk z f L O Q=>?_;rcases (st.w9 k j z y t O c v).2 with h|h
     all_goals grind
   . have e:=λj y c h=>q ⟨j,y,c,h⟩;rw[cw.c4 t λj y c _=>e j y c];exact vX ag (hR _) (d' _) λj y _ _ c=>e j y c
 . by_cases B:∃j,j<bb.length/\iJ xb bb E N j b=true
   . obtain⟨j,p,F,H⟩:=IQ B;rw[cw.s1 b j p (x j p) F (λk f _ M=>H k f M)];refine EC ag (by omega) (d' _) λk f L=>?_;grind
   . have e:∀j,j<bb.length->iJ xb bb E N j b=false:=(by grind);rw[cw.r8 b λj K _=>e j K];exact EC ag (hR _) (d' _) λj _ o=>e j o
 . simp[used,lt]at A⊢;grind
theorem Zj(st:Stat xb bb D E N)(ag:oS xb P bb N E T G W)(hres:jn P nt ops ops.toList=some bb)(q:∀(i:Nat) o,ops[i]?=some o->D i=hl o)
 (v:∀φ S a w,Rel aD nt φ S (E bb.length) (T bb.length) (lt (N+16*bb.length)) a w->Q .normal a w):
 ∀(f:Nat) (listed:Array Bool) φ S env J a w,listed.toList.countP (· ==false)<=f->Inv xb aD nt bb D N E T G W listed φ S env J a w->wpAny P .any ops Q f listed a w:=by
 have F:=zh hres;simp at F;have H:∀(listed:Array Bool) (φ:dD) (S:dU) (env:Env) (J:ba) (a:Act) (w:World),Inv xb aD nt bb D N E T G W listed φ S env J a w->Region.ready .any ops listed=[]->∀i,i<bb.length->listed.getD i false=true:=by
  intro listed φ S env J a w cw k i;induction i using Nat.strongRecOn with
  |_ i ih=>
   intro g;cases af:listed.getD i false with
   |true=>rfl
   |false=>
    have C:i<ops.size:=(by omega);have j:ops[i]?=some ops[i]:=Cj C;have:i∈Region.ready .any ops listed:=by
     rw[mem_ready];refine⟨?_,ops[i],j,λe he R=>?_⟩
     . have m:i<listed.size:=by rw[cw.size];grind
       grind
     . have c:e.on∈D i:=by
        rw[q i _ j];simp only[hl,e',r2];grind
       exact ih e.on (st.back i _ g c) (by have:=st.back i _ g c;omega)
    grind
 have r:∀(listed:Array Bool) (φ:dD) (S:dU) (env:Env) (J:ba) (a:Act) (w:World),Inv xb aD nt bb D N E T G W listed φ S env J a w->Region.ready .any ops listed=[]->Q .normal a w:=by
  intro listed φ S env J a w cw k;exact v φ S a w (cw.done st ag (H listed φ S env J a w cw k))
 intro f;induction f with
 |zero=>
  intro listed φ S env J a w B cw;have O:∀i,i<bb.length->listed.getD i false=true:=by
   intro i g;have m:i<listed.size:=by rw[cw.size];grind
   cases af:listed.getD i false with
   |true=>rfl
   |false=>
    exfalso;have h0:listed.toList.countP (· ==false)=0:=(by omega);rw[List.countP_eq_zero]at h0;simp[m]at af;exact h0 listed[i] (by simp) (by grind)
  have k:Region.ready .any ops listed=[]:=by
   rw[SP];grind[mem_ready]
  exact⟨k,r listed φ S env J a w cw k⟩
 |succ f ih=>
  intro listed φ S env J a w B cw;refine⟨r listed φ S env J a w cw,λi g=>?_⟩;rw[mem_ready]at g;obtain⟨h1,o,j,U⟩:=g;have m:i<listed.size:=by grind
  have aH:listed.getD i false=false:=by grind
  obtain⟨n,p,I⟩:=GU hres (i:=i) (o:=o) (by simpa using j);have c:∀d,d∈D i->listed.getD d false=true:=by
   intro d c;rw[q i o j]at c;simp only[hl,e',r2]at c;grind
  obtain⟨x,y⟩:=cw.agree st ag p aH c;obtain⟨⟨bq,hs,u⟩,_⟩:=(ag.step i n p).1.local (env':=env) (J':=J) x y;have t:=Dj cw.rel (key:=N+16*i) (λb z A=>Kt aH z A) I (K:=λe s=>e=er env n.dst (G i) (W i)/\s=bq) (hs.hd ⟨rfl,rfl⟩) (Q:=Q);have next:∀l w',j5 aD nt (eI (used N bb.length listed) (N+16*i)) (λe s=>e=er env n.dst (G i) (W i)/\s=bq) l w'->wpAny P .any ops Q f (listed.setIfInBounds i true) l w':=by
   rintro l w' ⟨M,bP,e,s,⟨rfl,rfl⟩,R'⟩
   refine ih _ M bP _ _ l w' ?_ (cw.step st ag p aH c u R');have:listed.toList[i]?=some false:=by simp[m]at aH⊢;exact aH
   grind
  unfold wpOp;rw[j];dsimp only;split at t
  . rename_i L;rw[ae L];exact .inl (Oper.wp_mono next t)
  grind
end
end
end Go.Proofs.YtdjagncoefjfeaaGreat.Shv
