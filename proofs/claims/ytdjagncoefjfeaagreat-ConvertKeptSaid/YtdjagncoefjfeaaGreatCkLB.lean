/- The library, part B: an abstract machine for the code of the program, and its soundness. -/
import Derived.Lib.UnsafeStr
import Derived.ChangeKeysEq
import Derived.Orders
import Derived.LoopN
import Derived.Test.YtdjagncoefjfeaaGreatCkLA

namespace Go.Proofs.YtdjagncoefjfeaaGreat.Shv
set_option linter.all false
section
open Go
theorem C.mS(c:C):c.aF (λ_=>true)=true:=by cases c<;>simp[C.aF]
variable{o:Oper}{e ty t:TypeId}{x:Operand}{α:Type}{c:Call}{op:Op}{f id b0 off:Nat}{dst:Option Nat}{ops:Array Oper}{gd:Option (Nat×Bool)}{Q:Exit->Act->World->Prop}{K:Env->ba->Prop}{code:Code}{bb:List ca}{gf:List (Nat×Nat)}{bs:a7}{es:List (List T)}
section
variable {P:Program}{aE:Ctx}{nt kk:Nat}{φ:dz}{S bT:dS}{env:Env}{J:ba}{N key:Nat}{n:Nat->Bool}{a:Act}{w w':World}
theorem Rel.extend(R:Rel aE nt φ S env J n a w)(e:Ext (λ_=>False) S bT w w')(M:∀b j,bT b j->b<w'.heap.size):Rel aE nt φ bT env J n a w':=by
 have aa:=λb L=>e.block b L (λh=>h);have B:∀b x,aY J b=some x->(φ b).2≠0->∀j,¬bT (φ b).1 j:=by
  intro b x q h0 j G;have du:=R.bR.blk b x q;rcases e.si _ _ G with h|h|h
  . exact du.qz h0 j h
  . grind
  . have:=du.j6 h0;omega
 refine⟨⟨λb x q=>?_,R.bR.inj,M⟩,λk g v ah aq=>?_,R.hK,R.gM,R.dV,R.size,R.defers,?_,R.own,R.fix,R.gO⟩
 . have du:=R.bR.blk b x q;cases x with
   |box cs=>
    obtain⟨h0,vs,E,h1,f,y⟩:=du;refine⟨h0,vs,E,(aa _ (wk h1)).trans h1,f.imp λc v N A=>bq.mono e.mono (λ_ _=>rfl) (C.mS _) A,B b _ q h0⟩
   |arr sz es=>
    obtain⟨h1,f,y,D,bf⟩:=du;refine⟨h1,f,y,D,λh0=>?_⟩;obtain⟨vs,E,k1,k2,k3,k4⟩:=bf h0;exact⟨vs,E,(aa _ (wk k1)).trans k1,k2,λi j F t he ht=>let⟨v,H,A⟩:=k3 i j F t he ht;⟨v,H,ch.mono e.mono A⟩,B b _ q h0⟩
   |set ks=>
    obtain⟨h0,⟨es,c,h1,f⟩,y⟩:=du;exact⟨h0,⟨es,c,(aa _ (wk h1)).trans h1,f⟩,B b _ q h0⟩
   |buf E s=>
    obtain⟨h1,f,y⟩:=du;refine⟨h1,f,λh0=>?_⟩;grind
   |b' E c=>
    obtain⟨h0,⟨p,v,h1,f,y⟩,D⟩:=du;exact⟨h0,⟨p,v,(aa _ (wk h1)).trans h1,f,bq.mono e.mono (λ_ _=>rfl) (C.mS _) y⟩,B b _ q h0⟩
   |cA sz es i o c=>
    obtain⟨⟨h1,f,y,D,bf,K⟩,⟨vs,E,k1,k2,k3,v,k4,k5⟩,k6⟩:=du;exact⟨⟨h1,f,y,D,bf,K⟩,⟨vs,E,(aa _ (wk k1)).trans k1,k2,λi j F t he ht aJ=>let⟨v,H,A⟩:=k3 i j F t he ht aJ;⟨v,H,ch.mono e.mono A⟩,v,k4,bq.mono (n:=λ_=>true) e.mono (λ_ _=>rfl) (C.mS _) k5⟩,B b _ q (by omega)⟩
 . obtain⟨x,q,A⟩:=R.gN k g v ah aq;exact⟨x,q,ck.mono e.mono (λ_ _=>rfl) (R.gM k g v ah aq) A⟩
 . refine⟨e.os.trans R.ext.os,e.tape.trans R.ext.tape,e.output.trans R.ext.output,fg R.ext.size e.size,λb aC du=>?_,R.ext.mono.trans e.mono,λb j G=>?_⟩
   . exact(aa b (mx aC R.ext.size)).trans (R.ext.block b aC du)
   . rcases e.si _ _ G with h|h|h
     . exact R.ext.si b j h
     . grind
     . exact .inr (.inr (fg R.ext.size h))
theorem Zh(R:Rel aE nt φ S env J n a w){len:Nat}{parts:Array (Nat×Operand)}(Z:o.op= .buildSlice ty len parts)(ab:P.underlying ty=some (.slice e)){sz:Nat}(aa:eu P e=some sz)
 {z:List C}(L:kb P e=some z){ps:List (Nat×aU)}(I:qk parts.toList=some ps)(h0:sz≠0)(M:z.length=sz)(Y:len*sz<=2^24)
 {p v J'}(X:n key=false)(h:aT (.bsliceT e sz len z ps) env J key=some (p,v,J'))(H:p):Good P aE nt env J' (ins n key) a v ((execOp a.eval o).run P w):=by
 simp only[aT,bo,bB,dY]at h;obtain⟨k,O,⟨q,f⟩,g,rfl,rfl,rfl⟩:=h;obtain⟨i,d,r,ah,m,V⟩:=ur (φ:=φ) (w:=w) (S:=S) (n:=n) L;have N:=r2 O m;have af:d.cells.size=sz:=by rw[<-CF,<-m.length,M]
 have y:0<sz:=by omega
 have ag:k.length=sz:=by grind[we]
 obtain ⟨us,h1,E,l,U,bf,_⟩:= IJ R y I g H (es:= List.replicate len k) (vs:= ((Array.range (len*sz)).map (d.cells[· % d.cells.size]!)).toList) (by
  grind) (by simp) (by
  intro i j e t he ht;have:e=k:=by
   grind
  subst this;obtain⟨x,ae,K⟩:=N.get ht
  grind[I6])
 simp at l;have s:len<=dT:=by
  have:len<=len*sz:=Gt len y;grind[dT]
 have u:=R.bR.st;have Q:gq w S (w.alloc (.cells us.toArray e)) (λb j=>S b j\/b=w.heap.size):=⟨λ_ _ h=>.inl h,λb j h=>q3 (Dn (u b j h)) j⟩
 have A:Ext (λ_=>False) S _ w (w.alloc (.cells us.toArray e)):=
  ⟨rfl,rfl,rfl,by simp,λb g _=>Dn g,Q,λb j h=>by grind⟩
 have B:=R.extend A (λb j h=>by
  rcases h with h|h
  . have:=u b j h;simp;omega
  simp_all)
 refine⟨.slice (some ⟨w.heap.size,0,none⟩) len len,φ,_,_,.inl ?_,?_,rfl,B.more λ_ h=>kP h⟩
 . have T:Instr.fill (λi=>some (i*sz,sz)) ((Array.range (len*sz)).map (d.cells[· % d.cells.size]!)) ((parts.map λ(i,x)=>(i,a.eval x)).toList)=some us.toArray:=by
    rw[Array.toList_map];omega
   simp_all[KG,execOp,Sem.run_bind,Result.andThen_ok]
 . refine .c ?_;have F:f.length=len:=l;rw[<-F]at s⊢;have G:∀j,(w.alloc (.cells us.toArray e)).cell? _=us[j]?:=λj=>js oC j;refine ch.slice f _ _ sz w.heap.size 0 (λi j=>(us[i*sz+j]?).getD undef) (eI _) s E (λ_=>rfl) (λi j r W=>⟨.inr rfl,?_⟩) (λi j D t he ht=>?_)
   . rw[gC,G];have aC:i*sz+j<us.length:=by
      have:=eZ sz (show i+1<=f.length from r);grind
     grind
   . obtain⟨v,ad,K⟩:=bf i j D t he ht;grind[ch.mono]
theorem Yi{e8:Nat}(h:Ak P ty=some e8):∃i z,P.info? ty=some i/\i.zero=some z/\z.cells=#[.pointer none,.slice none 0 0]:=by
 grind[Ak,Qy,bo,LN]
theorem Z8(R:Rel aE nt φ S env J n a w)(u:o.op= .alloc ty){e8:Nat}(g:Ak P ty=some e8)
 {p v J'}(s:n key=false)(m:n (key+1)=false)(h:aT (.allocS ty e8) env J key=some (p,v,J'))(A:p):Good P aE nt env J' (ins (ins n (key+1)) key) a v ((execOp a.eval o).run P w):=by
 obtain⟨rfl,rfl,rfl⟩:=h;obtain⟨i,z,r,B,D⟩:=Yi g;have t:∀j,¬S w.heap.size j:=λj h=>by have:=R.bR.st _ _ h;omega
 have d:=(R.alloc (.cells #[.pointer none,.slice none 0 0] ty)).jA m (x:= .buf e8 []) (0,0) rfl (by simp[cW,dp]) (by simp);have l:ins n (key+1) key=false:=by grind[ins]
 have e:=d.jA l (x:= .b' ty (.cL (key+1) 0)) (w.heap.size,1) (by simp[bV.aF,C.aF,ins]) (by
  grind[cW,oC,bq,fS]) (λ_=>⟨λk y b h0=>by
   rw[c0]at b;split at b
   . grind[dp]
   . rename_i q;have f:(φ k).2≠0:=(by simp_all[fS,dZ]);have:=(R.bR.blk k y b).j6 f;simp[fS,dZ q]
     omega,.inr R.ext.size⟩)
 refine⟨.pointer (some ⟨w.heap.size,0,none⟩),_,S,_,.inl ?_,.c ?_,by simp[V.aF,C.aF,ins],e⟩
 . simp_all[execOp,Instr.alloc,zeroValue,typeInfo,newVar,newRow]
 grind[bq,dp]
theorem Mm(h:uD P t=true):∃k v i,P.underlying t=some (.map k v)/\P.underlying k=some .string/\P.info? v=some i/\i.zero=some (.bool false):=by
 grind[uD,bo]
theorem ZX(R:Rel aE nt φ S env J n a w)(f:o.op= .makeMap t none)
 {p v J'}(d:n key=false)(h:aT .mkset env J key=some (p,v,J'))(i:p):Good P aE nt env J' (ins n key) a v ((execOp a.eval o).run P w):=by
 obtain⟨rfl,rfl,rfl⟩:=h;have e:∀j,¬S w.heap.size j:=λj h=>by have:=R.bR.st _ _ h;omega
 have b:=(R.alloc _).jA d (x:= .set []) (w.heap.size,1) rfl (by
  simp only[cW,dp]
  exact⟨by simp,⟨[],0,oC,.nil⟩,e⟩) (λ_=>⟨λk y g h0=>by
   have:=(R.bR.blk k y g).j6 h0
   omega,.inr R.ext.size⟩)
 refine⟨.map (some w.heap.size),_,S,_,.inl ?_,.c ?_,by simp[V.aF,C.aF,ins],b⟩
 . simp[execOp,f,Instr.makeMap]
 grind[bq,dp]
theorem Z9{s:ByteArray}{k:aj}:(s==(⟨k.toArray⟩:ByteArray))=decide (k=s.data.toList):=by
 grind[beq_toListBytes,ByteArray.toList_eq]
theorem I7(s:ByteArray):∀{ks:List aj} {es:List MapEntry} (i:Nat),Bm ks es->
 (jz ks s.data.toList=false/\Instr.findNow .string (.string s) es i=some none)\/
 (jz ks s.data.toList=true/\∃j e,Instr.findNow .string (.string s) es i=some (some (i+j,.bool true))/\es[j]?=some e/\e.key= .string s/\e.val= .bool true)
 |_,_,i,.nil=>.inl ⟨rfl,rfl⟩
 |k::ks,e::es,i,.cons h l=>by
  obtain⟨h1,g⟩:=h;have n:(s==⟨k.toArray⟩)=decide _:=Z9;by_cases o:k=s.data.toList
  . refine .inr ⟨by grind[jz],0,e,?_,rfl,?_,g⟩
    . simp_all[Instr.findNow,Instr.sameNow]
    simp_all
  . rcases I7 s (i+1) l with⟨b,c⟩|⟨b,j,a,c,m,d,f⟩
    . grind[jz,Instr.findNow,Instr.sameNow]
    . refine .inr ⟨by grind[jz],j+1,a,?_,by grind,d,f⟩;grind[Instr.findNow,Instr.sameNow]
theorem DG{a:TypeId}(b:P.underlying a=some .string){s:ByteArray}{es:List MapEntry}{r:Option (Nat×Value)}(h:Instr.findNow .string (.string s) es 0=some r)(w:World):(Instr.findKey a (.string s) es).run P w= .ok r w:=by
 simp_all[Instr.findKey,run_underlying]
theorem Dw{a:TypeId}(c:P.underlying a=some .string){s:ByteArray}(b:Bool)(w:World):(Instr.checkKey b 10000 a (.string s)).run P w= .ok () w:=by
 unfold Instr.checkKey;simp[run_underlying c]
theorem EC{b:Nat}{es:Array MapEntry}{c:Nat}(h:w.heap[b]?=some (.map es c)):(getObj b).run P w= .ok (.map es c) w:=by grind[getObj,Sem.run]
theorem Nf{b:Nat}{es:Array MapEntry}{c:Nat}(o:Obj)(h:w.heap[b]?=some (.map es c)):(setObj b o).run P w= .ok () {w with heap:=w.heap.setIfInBounds b o}:=by
 grind[setObj,Sem.run]
theorem ZY(R:Rel aE nt φ S env J n a w){k:Operand}(m:o.op= .lookup t x k false)(ht:uD P t=true){g f:aU}(C:bG x=some g)(B:bG k=some f)
 {p v J'}(H:n key=false)(h:aT (.lkset g f) env J key=some (p,v,J'))(q:p):Good P aE nt env J' (ins n key) a v ((execOp a.eval o).run P w):=by
 simp only[aT,bo]at h;obtain⟨⟨N,Q⟩,A,⟨M,O⟩,z,he⟩:=h;simp at he;obtain⟨L,E,i,r,b,G,K⟩:=Mm ht;split at he
 . split at he
   . rename_i ks s;obtain⟨rfl,rfl,rfl⟩:=he;have h1:a.eval x= .map _:=(cp R C A q.1).1.eb;obtain⟨bs,l,rfl,_⟩:=ck.kB (cp R B z q.2).1;obtain⟨h0,⟨es,F,aa,u⟩,I⟩:=R.bR.blk _ _ s;refine Good.pure R ?_ (.qS _) rfl;have D:(zeroValue E).run P w= .ok (.bool false) w:=(by simp_all[zeroValue,typeInfo]);have y:=I7 bs 0 u;rcases y with⟨c,d⟩|⟨c,j,e,d,_⟩
     . simp[execOp,m,h1,l,Instr.lookup,run_underlying r,EC aa,Dw b,DG b d,D,c]
     . simp[execOp,m,h1,l,Instr.lookup,run_underlying r,EC aa,Dw b,DG b d,c]
   grind
 grind
theorem aaS{ks:List aj}{es:List MapEntry}(h:Bm ks es)(s:ByteArray)(a:Nat):Bm (ks++[s.data.toList]) (es++[{key:= .string s,val:= .bool true,born:=a}]):=
 h.append (.cons ⟨by rfl,rfl⟩ .nil)
theorem a'.modify{c:Type}{R:α->c->Prop}{f:c->c}:∀{l:List α} {m:List c} {j:Nat},a' R l m->(∀a b,R a b->m[j]?=some b->R a (f b))->a' R l (m.modify j f)
 |_,_,_,.nil,_=>by simpa using a'.nil
 |_,_,0,.cons h e,k=>.cons (k _ _ h rfl) e
 |_,_,j+1,.cons h e,k=>by
  exact .cons h (a'.modify e λa b o p=>k a b o (by grind))
theorem ZZ(R:Rel aE nt φ S env J n a w){k v0:Operand}(B:o.op= .mapUpdate t x k v0)(ht:uD P t=true)(E:I4 v0=true){y u:aU}(W:bG x=some y)(O:bG k=some u)
 {p v J'}(af:n key=false)(h:aT (.upset y u) env J key=some (p,v,J'))(C:p):Good P aE nt env J' (ins n key) a v ((execOp a.eval o).run P w):=by
 simp only[aT,bo]at h;obtain⟨⟨al,ao⟩,N,⟨ak,am⟩,M,he⟩:=h;simp only at he;obtain⟨aj,an,i,D,f,ae,ah⟩:=Mm ht;have F:a.eval v0= .bool true:=by
  unfold I4 at E;split at E
  . rfl
  grind
 split at he
 . rename_i b s;split at he
   . rename_i ks A;obtain⟨rfl,rfl,rfl⟩:=he;have h1:a.eval x= .map _:=(cp R W N C.1).1.eb;obtain⟨bs,z,rfl,_⟩:=ck.kB (cp R O M C.2).1;obtain⟨h0,⟨es,c,aa,r⟩,T⟩:=R.bR.blk _ _ A;have aC:=wk aa;have X:∃d g,(execOp a.eval o).run P w= .ok .skip {w with heap:=w.heap.setIfInBounds (φ b).1 (.map d g)}/\Bm (iN ks bs.data.toList) d.toList:=by
      have L:=I7 bs 0 r;rcases L with⟨l,q⟩|⟨l,j,e,q,G,H,ab⟩
      . refine⟨es.toArray.push {key:= .string bs,val:= .bool true,born:=c},c+1,?_,?_⟩
        . simp[execOp,B,h1,z,F,Instr.mapUpdate,run_underlying D,EC aa,Dw f,DG f q,Nf _ aa]
        . simp only[iN,l,b6];simpa using aaS r bs c
      . refine⟨es.toArray.modify j λe=>{e with key:= .string bs,val:= .bool true},c,?_,?_⟩
        . have V:Instr.sameBits 10000 (Value.string bs) (Value.string bs)=true:=by
           simp only[Instr.sameBits];rw[beq_toListBytes];simp
          have Q:∀w,(Instr.keyThatStays (Value.string bs) (Value.string bs)).run P w= .ok (Value.string bs) w:=by intro w;unfold Instr.keyThatStays;rw[V];rfl
          simp[execOp,B,h1,z,F,Instr.mapUpdate,run_underlying D,EC aa,Dw f,DG f q,Nf _ aa,G,H,Q]
        . simp only[iN,l,bM];rw[Array.toList_modify];refine a'.modify r λai Z ag ad=>?_;grind
     obtain⟨d,g,U,K⟩:=X;refine⟨undef,φ,S,_,.inr ⟨U,rfl⟩,.undef,rfl,Rel.more ?_ λ_ h=>kP h⟩;refine R.rewrite A h0 rfl rfl rfl rfl (by simp) (λY I=>by simp[dZ I]) (λm=>?_);exact⟨h0,⟨d.toList,g,by simp[aC],K⟩,T⟩
   grind
 grind
theorem Zs{st j:TypeId}{i:TypeInfo}{c:Value}(q:P.underlying st=some (.slice e))(v:P.underlying j=some .string)(g:P.info? e=some i)(C:i.zero=some c)(D:c.cells.size=i.size)
 {base:Option Addr}{sl sc a:Nat}{y:Value}{xs d:List Value}(u:(Builtin.lenOf y).run P w= .ok a w)
 (s:(Builtin.firstCells i.size sl (.slice base sl sc)).run P w.drew= .ok xs.toArray w.drew)(t:(Builtin.firstCells i.size a y).run P w.drew= .ok d.toArray w.drew)
 (o:sc<sl+a)(l:l0 (sl+a) i.bytes)(A:sl+a<=dT){tt:TypeId}:
 ∃(b:Nat) (r:List Value),sl+a<=b/\r.length=(b-(sl+a))*i.size/\
  (Builtin.append_ #[st,j] tt #[.slice base sl sc,y]).run P w= .ok (.slice (some ⟨w.heap.size,0,none⟩) (sl+a) b) (w.drew.alloc (.cells (xs++d++r).toArray e)):=by
 have p:∀w,(sizeOf e).run P w= .ok i.size w:=λw=>by simp[sizeOf,typeInfo,g]
 have f:∀w,(typeInfo e).run P w= .ok i w:=λw=>by simp[typeInfo,g]
 have x:∀w,(zeroValue e).run P w= .ok c w:=λw=>by simp_all[zeroValue]
 generalize B:(Question.appendCap (sl+a) sc e).cut (w.tape w.drawn (Question.appendCap (sl+a) sc e))=b;have n:sl+a<=b:=by grind[Question.cut]
 have h1:¬(sl+a<=sc):=by omega
 have z:¬(sl+a>IntKind.i64.max/\(False\/i.bytes=0)):=by grind[IntKind.max,IntKind.bits,dT]
 have k:=by
  exact l.not o
 refine⟨b,(Builtin.zeroCells c.cells (b-(sl+a))).toList,n,by grind[KH],?_⟩;have m:(choose (.appendCap (sl+a) sc e)).run P w= .ok b w.drew:=by simp_all[Question.forced]
 have aM:(xs++d++(Builtin.zeroCells c.cells (b-(sl+a))).toList).toArray=xs.toArray++d.toArray++Builtin.zeroCells c.cells (b-(sl+a)):=by simp
 rw[aM];unfold Builtin.append_;simp only[CD,CW,CX,Sem.run_bind,run_underlying q,run_underlying v,Result.andThen_ok,p,Sem.run_pure,bW,b6,u,al h1,f];rw[al (by grind)];simp only[Sem.run_bind,Result.andThen_ok,f];rw[al k];simp only[Sem.run_bind,Result.andThen_ok,f,m,run_askRoom,s,t,x,en,bM];rfl
theorem KO{st c:TypeId}{i:TypeInfo}(j:P.underlying st=some (.slice e))(l:P.underlying c=some .string)(f:P.info? e=some i)
 {base:Option Addr}{sl sc a:Nat}{y:Value}{d:List Value}(k:(Builtin.lenOf y).run P w= .ok a w)(o:(Builtin.firstCells i.size a y).run P w= .ok d.toArray w)(n:sl+a<=sc){w':World}
 (hs:∀b,base=some b->(storeCells (b.add (sl*i.size)) d 0).run P w= .ok () w') (m:base=none->w'=w) {tt:TypeId}:
  (Builtin.append_ #[st,c] tt #[.slice base sl sc,y]).run P w= .ok (.slice base (sl+a) sc) w':=by
 have g:∀w,(sizeOf e).run P w= .ok i.size w:=λw=>by simp[sizeOf,typeInfo,f]
 unfold Builtin.append_;simp only[CD,CW,CX,Sem.run_bind,run_underlying j,run_underlying l,Result.andThen_ok,g,Sem.run_pure,bW,b6,k];cases base<;>simp_all
theorem Y'(w:World)(bs:ByteArray):(Builtin.firstCells 1 bs.size (.string bs)).run P w= .ok (bs.data.toList.map λb=>Value.int .u8 b.toNat).toArray w:=by
 simp[Builtin.firstCells];grind
theorem Z'(l:aj):∀x,x∈(l.map λb=>Value.int .u8 b.toNat)->x.oneCell'=true:=by
 intro x a;simp at a;obtain⟨b,_,rfl⟩:=a;rfl
theorem Zi(R:Rel aE nt φ S env J n a w){x y:Operand}{st M e:TypeId}(ao:o.op= .call {callee:= .builtin .append,args:=#[x,y],argTypes:=#[st,M]})
 (H:P.underlying st=some (.slice e))(K:P.underlying M=some .string){i:TypeInfo}(D:P.info? e=some i)(z:i.size=1)(ab:(i.zero.map (·.cells.size))=some 1)
 {N O:aU}(ax:bG x=some N)(d:bG y=some O)
 {p v J'}(f:n key=false)(h:aT (.appendB e i.bytes N O) env J key=some (p,v,J'))(ap:p):Good P aE nt env J' (ins n key) a v ((execOp a.eval o).run P w):=by
 simp only[aT,bo]at h;obtain⟨⟨aW,aZ⟩,ak,⟨aX,a0⟩,al,he⟩:=h;simp only at he;simp only[bB]at ab;obtain⟨a1,aA,az⟩:=ab;have G:∀r w',(Builtin.append_ #[st,M] o.type #[a.eval x,a.eval y]).run P w= .ok r w'->(execOp a.eval o).run P w= .ok (.value r) w':=by
  intro r w' l;simp[execOp,ao,Go.resolve,invoke,builtin,l]
 have an:∀b,w.heap.size<=b->∀j,¬S b j:=λb U j aI=>by have:=R.bR.st _ _ aI;omega
 split at he
 . rename_i b len s;split at he
   . rename_i u es q;obtain⟨rfl,rfl,rfl⟩:=he;obtain⟨aq,ar,rfl,rfl,X,E⟩:=ap;obtain⟨aQ,aB,k1⟩:=(cp R ax ak aq).1.eb;obtain⟨bs,W,rfl,_⟩:=ck.kB (cp R d al ar).1;have m:bs.data.toList.length=bs.size:=by rw[<-xk]
     have ag:=R.bR.blk _ _ q;obtain⟨aK,aL,Q⟩:=ag;have I:∀w,(Builtin.lenOf (a.eval y)).run P w= .ok bs.size w:=by intro w;simp[W,Builtin.lenOf]
     have L:∀w,(Builtin.firstCells i.size bs.size (a.eval y)).run P w= .ok (bs.data.toList.map λb=>Value.int .u8 b.toNat).toArray w:=by intro w;rw[W,z];exact Y' w bs
     by_cases au:es.length+bs.size<=(φ b).2
     . by_cases g:(φ b).2=0
       . have Y:es=[]:=j4 (by omega);have ah:bs.data.toList=[]:=j4 (by omega);have t:=aB g;have l:=KO (P:=P) (w:=w) (tt:=o.type) H K D (base:=none) (sl:=0) (sc:=0) (I w) (L w) (by omega) (w':=w) (λaf T=>by grind) (λ_=>rfl);rw[<-t]at l;have R':=(R.del b).jA f (x:= .buf u (es++bs.data.toList)) (0,0) rfl (by grind[cW,dp]) (by simp);refine⟨_,_,S,w,.inl (G _ _ l),.c ?_,by simp[V.aF,C.aF,ins],R'⟩;rw[ah,Y];have aj:bs.size=0:=(by omega);refine⟨by simp,λ_=>?_,λh=>?_⟩
         . rw[aj]
         . simp[dp]at h
       . obtain⟨⟨vs,aa,av,aw⟩,Z⟩:=Q g;have t:=k1 g;have aP:es.length+(bs.data.toList.map λb=>Value.int .u8 b.toNat).length<=vs.length:=(by grind);obtain⟨w',aR,aD,aF,aG,aH,aY,aJ⟩:=oD (P:=P) _ es.length 0 vs w aa (by omega) (Z' _)
         have l:=KO (P:=P) (w:=w) (tt:=o.type) H K D (base:=some ⟨(φ b).1,0,none⟩) (sl:=es.length) (sc:=(φ b).2) (I w) (L w) au (w':=w') (λaf T=>by
          cases T;have aN:Addr.add ⟨(φ b).1,0,none⟩ (es.length*i.size)=⟨(φ b).1,es.length,none⟩:=by rw[z,Nat.mul_one];unfold Addr.add;split<;>simp_all
          grind) (λU=>by cases U)
         rw[<-t]at l
         have A:=(R.del b).world (w':=w') (λk=>k=(φ b).1) aD aF aG (w6 aH.symm) (λk _ f=>aJ k f) (λk f=>by
          subst f;refine⟨Z,λk y d f=>?_,R.own b _ q g⟩;rw[fN]at d;split at d
          . cases d
          . rename_i F
            exactλe=>R.bR.inj k b y _ d q (dZ F) f g e)
         have B:=A.jA f (x:= .buf u (es++bs.data.toList)) (φ b) rfl (by
          simp only[cW,dp]
          grind[List.length_append,pW,oH]) (λ_=>⟨λk y d f=>by
           rw[fN]at d;split at d
           . cases d
           . rename_i F
             exact R.bR.inj k b y _ d q (dZ F) f g,R.own b _ q g⟩)
         refine⟨_,_,S,w',.inl (G _ _ l),.c ?_,by simp[V.aF,C.aF,ins],B⟩;refine⟨by simp[dp,m];omega,λh=>?_,λ_=>?_⟩
         . simp[dp,g]at h
         . simp[dp,m]
     . have A:=R.drew;have ai:∃base,a.eval x= .slice base es.length (φ b).2/\∃xs:List Value,(Builtin.firstCells i.size es.length (.slice base es.length (φ b).2)).run P w.drew= .ok xs.toArray w.drew/\xs.length=es.length/\∀(i:Nat) c,es[i]?=some c->xs[i]?=some (.int .u8 (UInt8.toNat c)):=by
        by_cases g:(φ b).2=0
        . have Y:es=[]:=j4 (by omega);simp_all[Builtin.firstCells]
        . obtain⟨⟨vs,aa,av,aw⟩,Z⟩:=Q g;refine⟨_,k1 g,vs.take es.length,?_,by simp;omega,λj c aO=>?_⟩
          . rw[z];show(loadCells ⟨(φ b).1,0,none⟩ (es.length*1)).run P w.drew=_;rw[Nat.mul_one];refine zN (by simp;omega) (λj am=>?_);rw[gC,yK,ae am];exact js (w:=w.drew) aa j
          grind
       obtain⟨base,t,xs,ay,aS,aV⟩:=ai;obtain⟨aC,r,h1,aM,l⟩:=Zs (P:=P) (w:=w) (tt:=o.type) H K D aA (by rw[az,z]) (I w) ay (L w.drew) (by omega) (by rw[m]at X;exact X) (by rw[m]at E;exact E);rw[<-t]at l;have B:=(A.del b).alloc (.cells (xs++(bs.data.toList.map λb=>Value.int .u8 b.toNat)++r).toArray u)
       have ad:=B.jA f (x:= .buf u (es++bs.data.toList)) (w.heap.size,aC) rfl (by
        simp only[cW,dp];refine⟨by simp[m];omega,by rw[cc];exact E,λ_=>⟨⟨_,oC,?_,?_⟩,an _ (eI _)⟩⟩
        . grind
        grind) (λ_=>⟨λk y d h0=>by
         rw[fN]at d;split at d
         . cases d
         . have:=(R.bR.blk k y d).j6 h0
           simp;omega,.inr R.ext.size⟩)
       refine⟨_,_,S,_,.inl (G _ _ l),.c ?_,by simp[V.aF,C.aF,ins],ad⟩;refine⟨by simp[dp,m];omega,λh=>?_,λ_=>?_⟩
       . simp[dp]at h;omega
       . simp[dp,m]
   grind
 grind
theorem Z0(R:Rel aE nt φ S env J n a w){x:Operand}{t:TypeId}(e:o.op= .call {callee:= .builtin .unsafeSliceData,args:=#[x],argTypes:=#[t]}){d:aU}(i:bG x=some d)
 {p v J'}(k:n key=false)(h:aT (.sdata d) env J key=some (p,v,J'))(g:p):Good P aE nt env J' (ins n key) a v ((execOp a.eval o).run P w):=by
 simp only[aT,bo]at h;obtain⟨⟨m,q⟩,f,he⟩:=h;simp at he;split at he
 . rename_i b len;obtain⟨rfl,rfl,rfl⟩:=he;have aq:=cp R i f g;obtain⟨l,j,k1⟩:=aq.1.eb;by_cases h0:(φ b).2=0
   . refine Good.pure R ?_ (.c ⟨none,rfl,λh=>absurd h0 h⟩) (by grind[V.aF,C.aF]);simp[execOp,e,Go.resolve,invoke,builtin,j h0,Go.Lib.run_unsafeSliceData_nil]
   . refine Good.pure R ?_ (.c ⟨_,rfl,λ_=>rfl⟩) (by grind[V.aF,C.aF]);simp[execOp,e,Go.resolve,invoke,builtin,k1 h0,Go.Lib.run_unsafeSliceData_row _ _ _ _ _ _ h0]
 grind
theorem Z1{b m:Nat}{a:Addr}(c:b≠a.block):(w.freeze a m).heap[b]?=w.heap[b]?:=by
 grind[World.freeze]
theorem aaa(a:Addr)(m:Nat):(w.freeze a m).os=w.os/\(w.freeze a m).tape=w.tape/\(w.freeze a m).output=w.output/\(w.freeze a m).heap.size=w.heap.size:=by
 grind[World.freeze]
theorem aaT(R:Rel aE nt φ S env J n a w){x y:Operand}{cE i e:TypeId}(L:o.op= .call {callee:= .builtin .unsafeString,args:=#[x,y],argTypes:=#[cE,i]})
 (Q:P.underlying cE=some (.pointer e))(G:P.cellsOf e=1){s t:aU}(U:bG x=some s)(g:bG y=some t)
 {p v J'}(d:n key=false)(h:aT (.ustr e s t) env J key=some (p,v,J'))(M:p):Good P aE nt env J' (ins n key) a v ((execOp a.eval o).run P w):=by
 simp only[aT,bo]at h;obtain⟨⟨aj,al⟩,H,⟨ak,am⟩,I,he⟩:=h;simp only at he;split at he
 . rename_i b m;split at he
   . rename_i u es l;obtain⟨rfl,rfl,rfl⟩:=he;obtain⟨N,O,rfl,rfl⟩:=M;obtain⟨V,h1,ag⟩:=(cp R U H N).1.eb;have E:=(cp R g I O).1.fA;have F:=R.bR.blk _ _ l;obtain⟨ab,ad,D⟩:=F;have B:∀w',ch w' S (.str es) (.string ⟨es.toArray⟩):=by
      intro w';have:=ch.str (w:=w') (S:=S) (⟨es.toArray⟩:ByteArray) (by rw[<-xk];grind[dT,eE]);omega
     have A:∀r w',(Builtin.unsafeString_ #[cE,i] o.type #[a.eval x,a.eval y]).run P w= .ok r w'->(execOp a.eval o).run P w= .ok (.value r) w':=by
      intro r w' z;simp[execOp,L,Go.resolve,invoke,builtin,z]
     by_cases f:es=[]
     . subst f;refine⟨.string ⟨#[]⟩,φ,S,w,.inl (A _ _ ?_),.c (B w),rfl,(R.del b).more λ_ h=>kP h⟩;rw[h1,E];exact Go.Lib.run_unsafeString_none w cE i o.type V
     . have af:=xf.2 f;have q:(φ b).2≠0:=(by omega);obtain⟨⟨vs,aa,ah,ai⟩,K⟩:=D q;have T:w.shape? (φ b).1=some (u,vs.length):=by grind[World.shape?]
       have z:=Go.Lib.run_unsafeString_row (P:=P) w cE i o.type u Q G _ vs.length T es f (by omega) (by grind[dT]) (λj c ae=>by
        grind[Addr.add,js])
       obtain⟨W,X,Y,Z⟩:=aaa (w:=w) ⟨(φ b).1,0,none⟩ es.length
       have C:=(R.del b).world _ W X Y (w6 Z.symm) (λk _ d=>Z1 d) (λk d=>by
        subst d;refine⟨K,λk y g d=>?_,R.own b _ l q⟩;rw[fN]at g;split at g
        . grind
        . rename_i f
          exactλe=>R.bR.inj k b y _ g l (dZ f) d q e)
       refine⟨.string _,φ,S,_,.inl (A _ _ ?_),.c (B _),rfl,C.more λ_ h=>kP h⟩;grind
   grind
 grind
end
section
variable {P:Program}{aE:Ctx}{nt:Nat}{φ:dz}{S:dS}{env:Env}{J:ba}{n:Nat->Bool}{key:Nat}{a:Act}{w:World}
theorem L8{d:Nat}{e:TypeId}{k:Nat}(g:s8 P e=some k){xs f:Array Value}:∀{m i:Nat} {ps c:List C} {us vs:List Value} {r:Bool},
 ml (List.replicate m k) ps c=some r->a' (bq φ w S) ps us->a' (bq φ w S) c vs->xs.toList.drop i=us->f.toList.drop i=vs->(Op.eqItems (d+1) e 1 xs f (List.range' i m)).run P w= .ok r w
 |0,i,ps,c,us,vs,r,a,_,_,_,_=>by
  cases ps<;>cases c<;>simp[ml]at a;subst a;simp[Op.eqItems]
 |m+1,i,ps,c,us,vs,r,a,F,G,aM,j=>by
  have B:=Oj g;have n:∀(l:Array Value) (z:Value) (o:List Value),l.toList.drop i=z::o->(part e l (i*1)).run P w= .ok z w:=λl z o H=>by
   have:l[i]?=some z:=by
    have:=eM (·[0]?) H;simpa using this
   simp[part,uw B,this]
  rw[List.replicate_succ]at a;cases ps with
  |nil=>simp[ml]at a
  |cons p ps=>cases c with
   |nil=>cases p<;>simp[ml]at a
   |cons q c=>
    cases p<;>cases q<;>simp only[ml,bo,bB]at a<;>try cases a
    rename_i x y b h;obtain⟨D,I,E,rfl⟩:=h;cases F with
    |cons h1 s=>cases G with
     |cons t A=>
      rename_i u us v vs;have f1:xs.toList.drop (i+1)=us:=by rw[<-uT,aM];rfl
      have f2:f.toList.drop (i+1)=vs:=by rw[<-uT,j];rfl
      have ih:=L8 (d:=d) g (m:=m) (i:=i+1) E s A f1 f2;rw[CL];simp only[Op.eqItems,Sem.run_bind,n xs u us aM,n f v vs j,Result.andThen_ok,Oi D g h1 t d];cases b with
      |true=>simpa using ih
      |false=>simp
variable{y:Operand}
theorem Z2(R:Rel aE nt φ S env J n a w){op:BinOp}{N:TypeId}(I:o.op= .binOp op ty x y N)(s:op= .eql\/op= .neq){ks:a7}(b:Kk P ty=some ks)
 {g j:aU}(L:bG x=some g)(M:bG y=some j)
 {p v J'}(O:n key=false)(h:aT (.eqAgg (op== .neq) ks g j) env J key=some (p,v,J'))(t:p):Good P aE nt env J' (ins n key) a v ((execOp a.eval o).run P w):=by
 simp only[aT,bo]at h;obtain⟨⟨Q,V⟩,F,⟨T,W⟩,G,he⟩:=h;simp only at he;split at he
 . rename_i ps U;simp only[bB,dY]at he;obtain⟨r,K,rfl,rfl,rfl⟩:=he;obtain⟨us,c,A⟩:=(cp R L F t.1).1.mP;obtain⟨vs,f,B⟩:=(cp R M G t.2).1.mP;unfold Kk at b;split at b
   . rename_i m e E;simp only[eF,bB]at b;obtain⟨⟨hs,aq⟩,k,H,rfl⟩:=b;unfold eu at hs;simp only[bB]at hs;obtain⟨i,q,hs⟩:=hs;have C:P.cellsOf e=1:=(by simp[Program.cellsOf,q,hs]);have u:(eqGuard op ty x y (a.eval x) (a.eval y)).run P w= .ok () w:=by rcases s with rfl|rfl<;>simp[eqGuard,c,f,aq]
     have l:(Op.equal ty (.agg us.toArray) (.agg vs.toArray)).run P w= .ok r w:=by
      obtain⟨d,D⟩:∃d,Op.maxDepth=d+2:=⟨9998,rfl⟩
      unfold Op.equal;rw[D,run_equalIn_array w (d+1) _ _ E q,C,List.range_eq_range'];exact L8 H K A B (by simp) (by simp)
     have z:(binOp op ty (a.eval x) (a.eval y)).run P w= .ok (.bool (if(op== .neq)then !r else r)) w:=by
      rcases s with rfl|rfl
      . rw[c,f];simp only[binOp,Sem.run_bind,l];rfl
      . rw[c,f];simp only[binOp,Sem.run_bind,l];rfl
     refine Good.pure R (x:= .bool (if(op== .neq)then !r else r)) ?_ (.qS _) rfl;simp[execOp,I,u,z]
   . cases b
 . cases he
theorem aaU(R:Rel aE nt φ S env J n a w){i:Operand}(A:o.op= .index ty x i){k:Nat}(E:P.underlying ty=some (.array k e))(ah:ou P e=some (false,1))
 {d b:aU}(I:bG x=some d)(t:bG i=some b)
 {p v J'}(M:n key=false)(h:aT (.idxV k d b) env J key=some (p,v,J'))(B:p):Good P aE nt env J' (ins n key) a v ((execOp a.eval o).run P w):=by
 simp only[aT,bo]at h;obtain⟨⟨Q,U⟩,s,⟨O,T⟩,r,he⟩:=h;simp only at he;split at he
 . rename_i cs kk m;simp only[eF,dF,dY]at he;obtain⟨L,rfl,rfl,rfl⟩:=he;obtain⟨C,D,y,N⟩:=B;have f:=cp R I s C;obtain⟨us,F,l⟩:=f.1.mP;have j:=(cp R t r D).1.fA;unfold ou at ah;simp only[bo]at ah;obtain⟨g,aq,z,K,ah⟩:=ah;split at ah
   . cases ah;have aC:m.toNat<cs.length:=(by omega);obtain⟨u,G,H⟩:=l.get (show cs[m.toNat]?=some (cs.getD m.toNat .dead) by rw[List.getD,fb aC];rfl);refine Good.pure R (x:=u) ?_ (.c H) ?_
     . have q:us.toArray[m.toNat*1]?=some u:=(by simpa using G);simp only[execOp,A,Sem.run_bind,F,j,Instr.index,asIntOf,run_underlying E,Result.andThen_ok,Sem.run_pure];rw[ae ⟨y,by omega⟩];simp only[Sem.run_bind,jS K,Result.andThen_ok,part,uw aq,q];rfl
     . have:=f.2;simp only[V.aF,gh]at this⊢;refine this _ ?_;rw[List.getD,fb aC];exact yN aC
   . cases ah
 . cases he
theorem Zj(j:P.underlying ty=some (.slice e)){i:TypeInfo}{a:Value}(b:P.info? e=some i)(p:i.zero=some a){k:IntKind}{m:Int}(h0:0<=m)(d:m.toNat*i.bytes<=hF)(f:m.toNat<=dT):
 (Instr.makeSlice ty (.int k m) (.int k m)).run P w= .ok (.slice (some ⟨w.heap.size,0,none⟩) m.toNat m.toNat) (w.alloc (.cells ((Array.range (m.toNat*i.size)).map (a.cells[· % a.cells.size]!)) e)):=by
 obtain⟨c,rfl⟩:∃c:Nat,m=(c:Int):=⟨m.toNat,by omega⟩
 simp only[oU]at*;unfold dT at f;have n:IntKind.i64.wrap (c:Int)=(c:Int):=by
  simp[IntKind.wrap,IntKind.signed,IntKind.bits];omega
 have l:∀w,(typeInfo e).run P w= .ok i w:=λw=>by simp[typeInfo,b]
 have g:∀w,(sizeOf e).run P w= .ok i.size w:=λw=>by simp[sizeOf,typeInfo,b]
 have o:∀w,(zeroValue e).run P w= .ok a w:=λw=>by simp[zeroValue,typeInfo,b,p]
 have q:¬((i.bytes:Int)*(c:Int)>2^48):=by
  unfold hF at d;rw[<-Int.natCast_mul,Nat.mul_comm];omega
 unfold Instr.makeSlice;simp only[asInt,asIntOf,Sem.run_bind,run_underlying j,Result.andThen_ok,Sem.run_pure,l,n];rw[cr];simp only[Sem.run_bind,run_askRoom,Result.andThen_ok,oU,g];by_cases h:c*i.size=0
 . simp only[h,bM,Sem.run_bind,Sem.run_pure,Result.andThen_ok,show Array.range 0=#[]from rfl,List.map_toArray,Array.map_empty];rfl
 . simp only[h,b6,Sem.run_bind,o,Sem.run_pure,Result.andThen_ok];rfl
theorem aab(R:Rel aE nt φ S env J n a w)(T:o.op= .makeSlice ty x y)(X:P.underlying ty=some (.slice e))(f:G5 x y=true){i:TypeInfo}(A:P.info? e=some i)
 {z:List C}(Z:kb P e=some z)(h0:i.size≠0)(G:z.length=i.size){s:aU}(l:bG x=some s)
 {p v J'}(N:n key=false)(h:aT (.mslice i.size i.bytes z s) env J key=some (p,v,J'))(U:p):Good P aE nt env J' (ins n key) a v ((execOp a.eval o).run P w):=by
 have hs:x=y:=by
  unfold G5 at f;split at f
  . rw[gP f]
  . cases f
 subst hs;simp only[aT,bo]at h;obtain⟨⟨aj,ak⟩,M,r,H,he⟩:=h;simp only at he;split at he
 . rename_i kk m;simp only[dF,dY]at he;obtain⟨rfl,rfl,rfl⟩:=he;obtain⟨W,O,Q,E⟩:=U;have L:=(cp R l M W).1.fA;obtain⟨ai,b,B,ae,u,ag⟩:=ur (φ:=φ) (w:=w) (S:=S) (n:=n) Z;rw[A]at B;cases B;have ab:=r2 H u;have aa:b.cells.size=i.size:=by rw[<-CF,<-u.length,G]
   have F:0<i.size:=(by omega);have ad:r.length=i.size:=by rw[we H,G]
   generalize g:m.toNat=len at*;have I:=R.alloc (.cells ((Array.range (len*i.size)).map (b.cells[· % b.cells.size]!)) e);have af:=R.vO (.cells ((Array.range (len*i.size)).map (b.cells[· % b.cells.size]!)) e)
   have K:=I.jA N (x:= .arr i.size (List.replicate len r)) (w.heap.size,len) rfl (by
    simp only[cW,dp];refine⟨by simp,by simpa using E,λe he=>by rw[Gr he];exact ad,F,λ_=>⟨((Array.range (len*i.size)).map (b.cells[· % b.cells.size]!)).toList,e,by rw[Array.toArray_toList];exact oC,by simp,λa j q t he ht=>?_,λj h=>?_⟩⟩
    . have D:=(dQ.1 he).1;simp at D;have:q=r:=Gr (fl he);subst this;have ah:=(dQ.1 ht).1;obtain⟨x,l,d⟩:=ab.get ht;refine⟨x,?_,ch.mono af d⟩;rw[Gx,I6 aa F a j D (by omega)];simpa using l
    . have:=R.bR.st _ _ h
      omega) (λ_=>⟨λk y Y h0=>by
       have:=(R.bR.blk k y Y).j6 h0
       simp;omega,.inr R.ext.size⟩)
   refine⟨.slice (some ⟨w.heap.size,0,none⟩) len len,_,S,_,.inl ?_,.c ⟨some ⟨w.heap.size,0,none⟩,by simp[dp],by simp[dp],by simp[dp]⟩,by simp[V.aF,C.aF,ins],K⟩;have d:=Zj (P:=P) (w:=w) X A ae (k:=kk) O (by rw[g];exact Q) (by rw[g];exact E);rw[g]at d;simp only[execOp,T,Sem.run_bind,L,d,Result.andThen_ok];rfl
 . cases he
theorem wO{x:Array α}{a b:α}(h:x.toList=[a,b]):x=#[a,b]:=by grind
theorem Km{x:Array α}{a:α}(h:x.toList=[a]):x=#[a]:=by grind
theorem aaV(R:Rel aE nt φ S env J n a w)(r:o.op= .call c){A:cN}(b:np P c=some A)
 {p v J'}(q:n key=false)(h:aT A env J key=some (p,v,J'))(s:p):Good P aE nt env J' (ins n key) a v ((execOp a.eval o).run P w):=by
 obtain⟨callee,args,argTypes⟩:=c;unfold np at b;split at b
 . grind[Km,bB,acG]
 . rename_i l;split at b
   . rename_i x y t u d ht;have d:=wO d;have ht:=wO ht;subst l;subst d;subst ht;split at b
     . rename_i e j z;simp only[bo,eF,dF]at b;obtain⟨i,m,B,f,C,g,⟨h1,k,D⟩,rfl⟩:=b;exact Zi R r j z m h1 k f g q h s
     . rename_i e E j z;simp only[bo,eF,dF]at b;obtain⟨i,m,B,f,C,g,⟨h1,k⟩,rfl⟩:=b;exact Z5 R r j z m h1 k f g q h s
     . cases b
   grind
 . grind[wO,bo,bB,abm]
 . grind[wO,bo,bB,aaC]
 . split at b
   . rename_i x t d ht;have d:=Km d;have ht:=Km ht;subst d;subst ht;split at b
     . simp only[eF,bB]at b;grind[Z0]
     . cases b
   grind
 . rename_i l;split at b
   . rename_i x y t u d ht;have d:=wO d;have ht:=wO ht;subst l;subst d;subst ht;split at b
     . rename_i e j;simp only[eF,bo,bB]at b;obtain⟨⟨_,_,D⟩,B,f,C,g,rfl⟩:=b;exact aaT R r j D f g q h s
     grind
   grind
 . grind[bB,aT]
 . grind[bB,aT]
 grind
theorem Good.mono{v:V}{J':ba}{cZ c:Nat->Bool}(h:∀b,cZ b=true->c b=true){r:Result Next}(g:Good P aE nt env J' cZ a v r):Good P aE nt env J' c a v r:=by
 obtain⟨x,j,bT,w',h1,e,f,R'⟩:=g;exact⟨x,j,bT,w',h1,e,V.hv h f,R'.more h⟩
theorem Z3(R:Rel aE nt φ S env J n a w){O:cN}(b:c4 P o.op=some O)
 (ag:∀e e8,O≠.allocS e e8){p v J'}(l:n key=false)(h:aT O env J key=some (p,v,J'))(A:p):Good P aE nt env J' (ins n key) a v ((execOp a.eval o).run P w):=by
 generalize q:o.op=op at b;cases op with
 |move x=>simp only[c4,bB]at b;obtain⟨B,j,rfl⟩:=b;exact Og R (.inl q) j l h A
 |assign x=>simp only[c4,bB]at b;obtain⟨B,j,rfl⟩:=b;exact Og R (.inr q) j l h A
 |pick c x y=>
  simp only[c4,bo,bB]at b;obtain⟨ac,Y,B,j,G,D,rfl⟩:=b;exact abi R q Y j D l h A
 |alloc e=>
  simp only[c4]at b;split at b
  . cases b;exact absurd rfl (ag _ _)
  . simp only[bo]at b;obtain⟨cs,U,b⟩:=b;split at b
    . split at b
      . rename_i Y;cases b;exact Z7 R q U (by omega) (by omega) l h A
      . cases b;exact LQ R q U l h A
    . cases b;exact LQ R q U l h A
 |box e x=>simp only[c4,bB]at b;obtain⟨B,j,rfl⟩:=b;exact acI R q j l h A
 |build t parts=>
  simp only[c4]at b;split at b
  . rename_i fs K;simp only[eF,bo,bB]at b;obtain⟨h1,z,I,ps,L,rfl⟩:=b;exact ZV R q K h1 I L l h A
  . simp only[bo,bB]at b;rename_i len e C;obtain⟨z,I,m,E,ps,L,rfl⟩:=b;exact Y9 R q C E I L l h A
  . cases b
 |buildSlice t len parts=>
  simp only[c4]at b;split at b
  . rename_i e C;simp only[bo,eF,dF]at b;obtain⟨m,E,z,I,ps,L,⟨h1,Q,T⟩,rfl⟩:=b;exact Y4 R q C E I L h1 Q T l h A
  . cases b
 |load t x=>
  simp only[c4,bo,bB]at b;obtain⟨g,aq,B,j,rfl⟩:=b;exact aaI R q aq j l h A
 |store t x y=>
  simp only[c4,bo,bB]at b;obtain⟨m,E,B,j,G,D,rfl⟩:=b;exact ZU R q E j D l h A
 |nilCheck x=>simp only[c4,bB]at b;obtain⟨B,j,rfl⟩:=b;exact Y8 R q j l h A
 |binOp op t x y al=>
  simp only[c4]at b;split at b
  . rename_i X;split at b
    . simp only[bo,bB]at b;obtain⟨ks,W,B,j,G,D,rfl⟩:=b;exact Z2 R q X W j D l h A
    . simp only[bo,bB]at b;obtain⟨ks,W,B,j,G,D,rfl⟩:=b;exact ZT R q X W j D l h A
    . simp only[eF,bB]at b;grind[aT]
    . rename_i C;simp only[bo,bB]at b;obtain⟨B,j,G,D,rfl⟩:=b;exact Y2 R q X C j D l h A
    . simp only[bo,bB]at b;obtain⟨B,j,G,D,rfl⟩:=b;exact JH R q j D l h A
    . simp only[bo,bB]at b;obtain⟨B,j,G,D,rfl⟩:=b;exact JH R q j D l h A
    . cases b
  . simp only[bo,bB]at b;obtain⟨B,j,G,D,rfl⟩:=b;exact JH R q j D l h A
 |unOp u t x=>
  cases u<;>simp only[c4,bB,reduceCtorEq]at b
  . split at b
    . simp only[bB]at b;obtain⟨B,j,rfl⟩:=b;exact abt R q j l h A
    . cases b
  . split at b
    . simp only[bB]at b;obtain⟨B,j,rfl⟩:=b;exact acB R q j l h A
    . cases b
  . obtain⟨B,j,rfl⟩:=b;exact abr R q j l h A
 |convert s d x=>
  simp only[c4]at b;split at b
  . rename_i hs H;simp only[bB]at b;obtain⟨B,j,rfl⟩:=b;exact abk R q hs H j l h A
  . rename_i hs H;simp only[bB]at b;obtain⟨B,j,rfl⟩:=b;exact acC R q hs H j l h A
  . rename_i hs H;simp only[bB]at b;obtain⟨B,j,rfl⟩:=b;exact acD R q hs H j l h A
  . rename_i e hs H;simp only[eF,bB]at b;obtain⟨⟨he,Z⟩,B,j,rfl⟩:=b;have af:P.underlying e=some (.int .u8):=(by grind);exact acK R q hs af H j l h A
  . cases b
 |fieldAddr t x f=>
  simp only[c4]at b;split at b
  . rename_i fs K;simp only[bo,CR,bB]at b;obtain⟨ae,V,m,E,M,B,j,rfl⟩:=b;exact abl R q K V E M j l h A
  . cases b
 |field t x f=>
  simp only[c4]at b;split at b
  . rename_i fs K;simp only[bo,bB]at b;obtain⟨ae,V,g,aq,B,j,rfl⟩:=b;obtain⟨h1,Q,T⟩:=M' aq;exact acE R q K V Q h1 T j l h A
  . cases b
 |indexAddr t x i=>
  simp only[c4]at b;split at b
  . rename_i e C;simp only[bo,CR,bB]at b;obtain⟨m,E,M,B,j,N,F,rfl⟩:=b;exact aaD R q C E M j F l h A
  . rename_i k e C;split at b
    . simp only[eF,bo,bB]at b;obtain⟨h0,s,hs,B,j,rfl⟩:=b;exact aaO R q C h0 hs j l h A
    . simp only[eF,bo,bB]at b;obtain⟨Z,B,j,N,F,rfl⟩:=b;exact aaN R q C Z j F l h A
  . cases b
 |index t x i=>
  simp only[c4]at b;split at b
  . rename_i C;simp only[bo,bB]at b;obtain⟨B,j,N,F,rfl⟩:=b;exact aaE R q C j F l h A
  . rename_i C;simp only[eF,bo,bB]at b;obtain⟨ah,B,j,N,F,rfl⟩:=b;exact aaU R q C ah j F l h A
  . cases b
 |slice t x aj F ak=>
  simp only[c4]at b;split at b
  . rename_i C;simp only[eF,bo,bB,Option.isNone_iff_eq_none]at b;obtain⟨rfl,B,j,ad,ah,ab,aa,rfl⟩:=b;exact aaG R q C j ah aa l h A
  . rename_i e C;split at b
    . simp only[bo,CR,bB]at b;obtain⟨m,E,M,B,j,ad,ah,ab,aa,rfl⟩:=b;exact acH R q C E j ah aa l h A
    . split at b
      . simp only[eF,bB]at b;grind[Option.isSome_iff_exists,aaH]
      . cases b
    . cases b
  . simp only[eF,bo,bB,Option.isNone_iff_eq_none]at b;grind[aaP]
  grind
 |makeFunc fn first caps=>
  cases fn<;>simp only[c4,eF,bB,reduceCtorEq]at b;grind[aaF]
 |extract x i=>grind[c4,bB,acF]
 |makeSlice t x y=>
  simp only[c4]at b;split at b
  . rename_i C;simp only[eF,bo,bB]at b;obtain⟨ai,i,F,z,I,⟨h0,ah⟩,B,j,rfl⟩:=b;exact aab R q C ai F I h0 ah j l h A
  . cases b
 |makeMap t r=>
  cases r with
  |some _=>simp[c4]at b
  |none=>
   simp only[c4,eF,dF]at b;grind[ZX]
 |lookup t x i c=>
  cases c with
  |true=>simp[c4]at b
  |false=>
   simp only[c4,eF,bo,bB]at b;grind[ZY]
 |mapUpdate t m k v0=>
  simp only[c4,eF,bo,bB]at b;grind[ZZ]
 |call c=>grind[c4,aaV]
 |_=>simp[c4]at b
def eG(n:Nat->Bool)(k:Nat):Nat->Bool:=λb=>n b||(decide (k<=b)&&decide (b<k+16))
theorem me{b:Nat}(h:n b=true):eG n key b=true:=by grind[eG]
theorem Ow{b:Nat}(h:ins n key b=true):eG n key b=true:=by
 grind[ins,eG]
theorem KJ{b:Bool}{a:cN}(h:wj P b op=some a):c4 P op=some a\/∃t len parts e m z ps,op= .buildSlice t len parts/\P.underlying t=some (.slice e)/\eu P e=some m/\kb P e=some z/\qk parts.toList=some ps/\m≠0/\z.length=m/\len*m<=2^24/\a= .bsliceT e m len z ps:=by
 unfold wj at h;grind[bo]
theorem Yj{e e8:Nat}(h:c4 P op=some (.allocS e e8)):op= .alloc e/\Ak P e=some e8:=by
 cases op with
 |alloc a=>
  grind[c4,bo]
 |buildSlice t len parts=>
  simp[c4]at h;split at h
  . simp_all[bo]
  grind
 |build t parts=>
  simp[c4]at h;split at h
  . simp_all[bo]
  . grind[bo,bB]
  grind
 |call c=>
  simp[c4]at h;unfold np at h
  repeat' (first|(split at h)|(done))
  all_goals simp only[bo,bB,eF,dF,reduceCtorEq,oS,yR,exists_const]at h
 |binOp op t x y b=>
  simp only[c4]at h
  repeat' (first|(split at h)|(cases h;done))
  all_goals simp only[bo,bB,eF,dF,reduceCtorEq,oS,yR,exists_const]at h
 |unOp u t x=>
  cases u<;>simp only[c4]at h
  all_goals repeat' (first|(split at h)|(cases h;done))
  all_goals simp_all
 |makeMap t r=>cases r<;>simp only[c4,reduceCtorEq,eF,dF,oS]at h
 |lookup t x i c=>cases c<;>simp only[c4,reduceCtorEq,eF,bo,bB,oS,yR]at h
 |makeFunc fn first caps=>cases fn<;>simp only[c4,eF,bB,reduceCtorEq,oS,yR]at h
 |convert s d x=>
  simp only[c4]at h
  repeat' (first|(split at h)|(cases h;done))
  all_goals simp_all
 |_=>
  simp only[c4]at h
  try repeat' (first|(split at h)|(cases h;done))
  all_goals simp only[bo,bB,eF,CR,reduceCtorEq,oS,yR,exists_const]at h
theorem aaW(R:Rel aE nt φ S env J n a w){f:cN}{k:Bool}(d:wj P k o.op=some f)
 {p v J'}(aJ:∀b,key<=b->b<key+16->n b=false)(h:aT f env J key=some (p,v,J'))(j:p):Good P aE nt env J' (eG n key) a v ((execOp a.eval o).run P w):=by
 have g:=aJ _ (eI _) (by simp);rcases KJ d with d|⟨t,len,parts,e,m,z,ps,i,x,s,y,u,h1,l,q,rfl⟩
 . by_cases hs:∃e e8,f= .allocS e e8
   . obtain⟨e,e8,rfl⟩:=hs;obtain⟨i,r⟩:=Yj d;refine(Z8 R i r g (aJ _ (by simp) (by simp)) h j).mono λb c=>?_;grind[ins,eG]
   . exact(Z3 R d (λe e8 he=>hs ⟨e,e8,he⟩) g h j).mono λb c=>Ow c
 . exact(Zh R i x s y u h1 l q g h j).mono λb c=>Ow c
end
def hW(P:Program)(f:Nat)(args:List V)(J:ba)(key:Nat)(K:V->ba->Prop):Prop:=
 ∀aE nt φ S env n a w,Rel aE nt φ S env J n a w->(∀b,key<=b->b<key+16->n b=false)->V.aF.V.dC n args=true->∀vs:List Value,a' (ck φ w S) args vs->
  Calls P f vs.toArray w λe w'=>∃v r c bT J',e= .returned v/\K r J'/\ck c w' bT r v/\r.aF (eG n key)=true/\Rel aE nt c bT env J' (eG n key) a w'
theorem hW.mono{P:Program}{args:List V}{J:ba}{key:Nat}{K c:V->ba->Prop}(h:hW P f args J key K)(q:∀r J',K r J'->c r J'):hW P f args J key c:=
 λaE nt φ S env n a w R aJ p vs t=>(h aE nt φ S _ n a w R aJ p vs t).mono λe w' ⟨v,r,x,bT,J',h1,j,o⟩=>⟨v,r,x,bT,J',h1,q _ _ j,o⟩
def gb(env:Env):Option (Nat×Bool)->Option Bool
 |none=>some true
 |some (t,b)=>match look env t with
  |some (g,.c (.t (.bool x)))=>some (g&&(x==b))
  |_=>none
def er(env:Env)(dst:Option Nat)(g:Bool)(v:V):Env:=
 match dst with
 |none=>env
 |some d=>(d,g,v)::env
def sM(b:Bool):V:= .c (.t (.bool b))
def hn(P:Program)(o:ca)(key:Nat)(env:Env)(J:ba)(K:Env->ba->Prop):Prop:=
 match gb env o.guard with
 |none=>False
 |some g=>(g=false/\∃v,K (er env o.dst g v) J)\/
  match o.op with
  |.call f args=>match hP env args with
   |some (p,vs)=>match o.guard with
    |none=>p/\hW P f vs J key (λr J'=>K (er env o.dst true r) J')
    |some _=>(g=true/\p/\hW P f vs J key (λr J'=>K (er env o.dst true r) J'))\/∃r,(g=true->p/\hW P f vs J key (λa J'=>a=r/\J'=J))/\K (er env o.dst g r) J
   |none=>False
  |.ic x args=>match x.get env,hP env args with
   |some (q,.c (.fn f caps)),some (p,vs)=>o.guard=none/\hG P f=true/\q/\p/\hW P f (vs++caps.map (λb=>V.c (.ptr b 0))) J key (λr J'=>K (er env o.dst true r) J')
   |_,_=>False
  |.eqNil neg x=>match x.get env with
   |some (p,.c (.t (.slice es)))=>o.guard=none/\p/\∀b:Bool,(es≠[]->b=false)->K (er env o.dst true (sM (if neg then !b else b))) J
   |some (p,.c .aA)=>o.guard=none/\p/\∀b:Bool,K (er env o.dst true (sM (if neg then !b else b))) J
   |some (p,.c (.arr _ _ _ l))=>o.guard=none/\p/\∀b:Bool,(l≠0->b=false)->K (er env o.dst true (sM (if neg then !b else b))) J
   |_=>False
  |op=>match aT op env J key with
   |some (p,v,J')=>(g=true->p)/\(op.neutral=true\/g=true)/\K (er env o.dst g v) (if op.neutral then J else J')
   |none=>False
def kG(P:Program):List ca->Nat->Env->ba->(Env->ba->Prop)->Prop
 |[],_,env,J,K=>K env J
 |o::r,key,env,J,K=>hn P o key env J λenv' J'=>kG P r (key+16) env' J' K
section
variable {P:Program}{aE:Ctx}{nt:Nat}{φ:dz}{S:dS}{env:Env}{J:ba}{n:Nat->Bool}{key:Nat}{a:Act}{w:World}
theorem qh{g:Bool}{v:V}{k:Nat}:look (er env dst g v) k=if dst=some k then some (g,v)else look env k:=by
 unfold er;grind[look]
theorem Rel.B1(R:Rel aE nt φ S env J n a w)(o:∀d,dst=some d->d<nt){g:Bool}{x:Value}{v:V}(q:g=true->ck φ w S v x)(p:g=false->x=undef)(j:g=true->v.aF n=true):
 Rel aE nt φ S (er env dst g v) J n (a.put dst x) w:=by
 have f:∀k,(a.put dst x).tmps[k]?=if dst=some k then some x else a.tmps[k]?:=by
  cases dst with
  |none=>simp[Act.put]
  |some d=>
   have aC:d<a.tmps.size:=by rw[R.size];grind
   grind[Act.put]
 refine⟨R.bR,λk c e ah aq=>?_,λk c e ah aq=>?_,λk c e ah aq=>?_,R.dV,?_,?_,R.ext,R.own,R.fix,R.gO⟩
 . rw[qh]at ah;rw[f];split at ah
   . grind
   . rename_i h;rw[al h];exact R.gN k c e ah aq
 . rw[qh]at ah;rw[f];split at ah
   . grind
   . rename_i h;rw[al h];exact R.hK k c e ah aq
 . rw[qh]at ah;split at ah
   . grind
   . exact R.gM k c e ah aq
 . cases dst<;>simp[Act.put,R.size]
 . cases dst<;>simp[Act.put,R.defers]
theorem LS(R:Rel aE nt φ S env J n a w)(b:uo ops o.guard=some gd){g:Bool}(aq:gb env gd=some g):Region.wanted o (yielded ops a.tmps)=g:=by
 unfold Region.wanted;cases i:o.guard with
 |none=>
  grind[uo,gb]
 |some k=>
  rw[i]at b;simp only[uo,bB]at b;obtain⟨d,f,rfl⟩:=b;simp[gb]at aq;split at aq
  . rename_i c x ah;simp at aq;subst aq;simp[yielded,f];cases e:c with
    |true=>
     obtain⟨y,j,b⟩:=R.gN d c _ ah e;have:=b.jq;grind
    |false=>
     have:=R.hK d c _ ah e;simp only[this];rfl
  grind
def kd(aE:Ctx)(nt:Nat)(n:Nat->Bool)(K:Env->ba->Prop)(a:Act)(w:World):Prop:=∃φ S env J,K env J/\Rel aE nt φ S env J n a w
theorem Z4  (h:hG P f = true):∃ fn,P.funcs[f]? = some fn/\fn.body.isSome = true/\(fn.name == "runtime.NumGoroutine") = false:= by
 grind[hG]
theorem aac(h:hG P f=true)(args:Array Value)(w:World):(callFunc f args).run P w= .ok (.enter f args) w:=by
 obtain⟨fn,h1,a,b⟩:=Z4 h;obtain⟨c,d⟩:=Gs.1 a;simp only[callFunc,Sem.run_bind,run_program,Result.andThen_ok,h1,b,d,bW,b6,Option.isNone_some,Sem.run_pure]
theorem Ai{o:cN}(h:o.neutral=true){p v J'}(a:aT o env J key=some (p,v,J')):J'=J:=by
 cases o<;>simp[cN.neutral]at h<;>simp only[aT,bo,bB]at a
 all_goals
  (try (obtain⟨a1,h1,a⟩:=a))
  (try (obtain⟨a2,b,a⟩:=a))
  (try (obtain⟨a3,c,a⟩:=a))
  (try split at a)
  (try (simp_all;done))
 all_goals repeat' (first|(cases a;done)|(cases a;rfl)|(simp only[bB]at a;obtain⟨_,_,_,_,rfl⟩:=a;rfl)|split at a)
theorem KZ{a:ca}(h:wc P nt ops o=some a):
 wj P (M8 ops o) o.op=some a.op/\uo ops o.guard=some a.guard/\a.dst=o.dst/\∀d,a.dst=some d->d<nt:=by
 grind[wc,bo]
theorem zh{b:Bool}{a:cN}(h:wj P b op=some a)(c:∀e m l z ps,a≠.bsliceT e m l z ps):c4 P op=some a:=by
 grind[KJ]
theorem Iw{g:Option (Nat×Bool)}(h:uo ops o.guard=some g)(aq:g=none):o.guard=none:=by
 cases a:o.guard with
 |none=>rfl
 |some x=>
  grind[uo,bB]
theorem JJ{a:cN}(h:c4 P (.alloc e)=some a)(h1:∀cs,a≠.alloc cs)(b:∀cs,a≠.allocA cs)(c:∀e e8,a≠.allocS e e8):False:=by
 grind[c4,bo]
theorem KP{args:List aU}(h:c4 P op=some (.call f args)):∃c,op= .call c/\np P c=some (.call f args):=by
 cases op with
 |call c=>exact⟨c,rfl,h⟩
 |alloc e=>exfalso;exact JJ h (by simp) (by simp) (by simp)
 |makeMap t r=>cases r<;>simp[c4]at h
 |lookup t x i c=>cases c<;>simp[c4,bo]at h
 |unOp u t x=>
  cases u<;>simp[c4]at h
  all_goals (repeat' split at h)<;>(first|(done)|simp at h)
 |makeFunc fn b c=>cases fn<;>simp[c4]at h
 |_=>
  simp only[c4]at h
  (repeat' split at h)<;>(first|(cases h)|simp[bo,bB]at h)
theorem Lm{x:aU}{args:List aU}(h:c4 P op=some (.ic x args)):∃c,op= .call c/\np P c=some (.ic x args):=by
 cases op with
 |call c=>exact⟨c,rfl,h⟩
 |alloc e=>exfalso;exact JJ h (by simp) (by simp) (by simp)
 |makeMap t r=>cases r<;>simp[c4]at h
 |lookup t x i c=>cases c<;>simp[c4,bo]at h
 |unOp u t x=>
  cases u<;>simp[c4]at h
  all_goals (repeat' split at h)<;>(first|(done)|simp at h)
 |makeFunc fn b c=>cases fn<;>simp[c4]at h
 |_=>
  simp only[c4]at h
  (repeat' split at h)<;>(first|(cases h)|simp[bo,bB]at h)
theorem KQ{args:List aU}(h:np P c=some (.call f args)):c.callee= .value (.func f)/\hG P f=true/\nD c.args.toList=some args:=by
 unfold np at h
 (repeat' split at h)<;>simp[bo]at h
 grind
theorem Ln{x:aU}{args:List aU}(h:np P c=some (.ic x args)):∃t,x= .tmp t/\c.callee= .value (.tmp t)/\nD c.args.toList=some args:=by
 unfold np at h
 (repeat' split at h)<;>simp[bo]at h
 grind
theorem YE{neg:Bool}{x:aU}(h:c4 P op=some (.eqNil neg x)):
 ∃a t y z d e,op= .binOp a t y z d/\(a= .eql\/a= .neq)/\neg=(a== .neq)/\P.underlying t=some (.slice e)/\Iv z=true/\bG y=some x:=by
 cases op with
 |binOp a t y z d=>
  simp[c4]at h
  (repeat' split at h)<;>(try (done))<;>simp[bo,bB,reduceCtorEq,oS]at h
  grind
 |call c=>
  simp[c4]at h;unfold np at h
  (repeat' split at h)<;>(first|(done)|simp[bo]at h)
 |alloc e=>exfalso;exact JJ h (by simp) (by simp) (by simp)
 |makeMap t r=>cases r<;>simp[c4]at h
 |lookup t x i c=>cases c<;>simp[c4,bo]at h
 |unOp u t x=>
  cases u<;>simp[c4]at h
  all_goals (repeat' split at h)<;>(first|(cases h;done)|simp at h)
 |makeFunc fn b c=>cases fn<;>simp[c4]at h
 |_=>
  simp only[c4]at h
  (repeat' split at h)<;>(first|(cases h;done)|simp[bo,bB]at h)
theorem Eo(g:o.op= .call c)(d:c.callee= .value x){caps:List Value}(i:a.eval x= .func (.func f) #[] caps.toArray)(b:hG P f=true):
 (execOp a.eval o).run P w= .ok (.enter f (c.args.toList.map a.eval++caps).toArray) w:=by
 have e:(c.args.map a.eval++caps.toArray)=(c.args.toList.map a.eval++caps).toArray:=by simp
 grind[execOp,Go.resolve,Deferred.ofValue,invoke,aac]
theorem Calls.next{args:Array Value}{key:Nat}(x:dst=o.dst)(t:∀d,dst=some d->d<nt){g:Bool}(aq:g=true){K2:V->ba->Prop}
 (bD:∀r s,K2 r s->K (er env dst g r) s)
 (h:Calls P f args w λe w'=>∃v r c bT J',e= .returned v/\K2 r J'/\ck c w' bT r v/\r.aF (eG n key)=true/\Rel aE nt c bT env J' (eG n key) a w')
 (y:(execOp a.eval o).run P w= .ok (.enter f args) w):o.wp P a w (kd aE nt (eG n key) K) Q:=by
 unfold Oper.wp;rw[y];refine h.mono ?_
 rintro e w' ⟨v,r,c,bT,J',rfl,h1,j,p,q⟩
 subst x;exact⟨c,bT,_,J',bD _ _ h1,q.B1 t (λ_=>j) (λh=>by grind) (λ_=>p)⟩
theorem ED(R:Rel aE nt φ S env J n a w)(aJ:∀b,key<=b->b<key+16->n b=false){T:ca}(af:wc P nt ops o=some T)(h:hn P T key env J K):
 if Region.wanted o (yielded ops a.tmps)then o.wp P a w (kd aE nt (eG n key) K) Q else kd aE nt (eG n key) K (a.put o.dst undef) w:=by
 obtain⟨h1,E,F,G⟩:=KZ af;unfold hn at h;split at h
 . grind
 . rename_i g aq;have aK:=LS R E aq;rw[aK];have ap:∀{v:V} {s:ba},K (er env T.dst g v) s->s=J->g=false->kd aE nt (eG n key) K (a.put o.dst undef) w:=by
    intro v s bD hs aD;subst hs;rw[<-F];exact⟨φ,S,_,_,bD,(R.more λ_ h=>me h).B1 G (λh=>by grind) (λ_=>rfl) (λh=>by grind)⟩
   rcases h with⟨aD,v,bD⟩|h
   . grind
   split at h
   ·
    rename_i f args Y;rw[Y]at h1;have az:∃c,o.op= .call c/\c.callee= .value (.func f)/\hG P f=true/\nD c.args.toList=some args:=by
     obtain⟨c,aR,af⟩:=KP (zh h1 (by simp));grind[KQ]
    obtain⟨c,ab,ad,H,W⟩:=az;split at h
    . rename_i p vs X;have ag:∀w':World,(execOp a.eval o).run P w= .ok (.enter f (c.args.toList.map a.eval).toArray) w:=by
       have:=Eo (P:=P) (w:=w) (a:=a) ab ad (f:=f) (caps:=[]) rfl H;grind
      split at h
      . have I:g=true:=(by grind[gb]);subst I;obtain⟨k,u⟩:=h;obtain⟨D,O⟩:=r0 R W X k;exact Calls.next F G rfl (λ_ _ h=>h) (u aE nt φ S env n a w R aJ O _ D) (ag w)
      . rcases h with⟨I,k,u⟩|⟨r,u,bD⟩
        . subst I;obtain⟨D,O⟩:=r0 R W X k;exact Calls.next F G rfl (λ_ _ h=>h) (u aE nt φ S env n a w R aJ O _ D) (ag w)
        cases L:g with
        |true=>
         obtain⟨k,u⟩:=u L;obtain⟨D,O⟩:=r0 R W X k;refine Calls.next (K2:=λao J'=>ao=r/\J'=J) F G L (λao s aa=>?_) (u aE nt φ S env n a w R aJ O _ D) (ag w);grind
        |false=>
         grind
    grind
   . rename_i x args Y;rw[Y]at h1;obtain⟨c,ab,af⟩:=Lm (zh h1 (by simp));obtain⟨t,rfl,ad,W⟩:=Ln af;split at h
     . rename_i q f caps p vs M X;obtain⟨A,H,aH,k,u⟩:=h;have I:g=true:=(by grind[gb]);subst I;obtain⟨D,O⟩:=r0 R W X k;have aL:=cp (x:= .tmp t) R rfl M aH;have aM:=aL.1.eb;have aA:a' (ck φ w S) (caps.map λb=>V.c (.ptr b 0)) (caps.map λb=>Value.pointer (some ⟨(φ b).1,0,none⟩)):=by
        refine a'.lM (by simp) ?_;intro i v x h1 E;simp only[r9,bB]at h1 E;obtain⟨b,aw,rfl⟩:=h1;obtain⟨aQ,ak,rfl⟩:=E;rw[aw]at ak;cases ak;exact .c rfl
       have aB:V.aF.V.dC n (vs++caps.map λb=>V.c (.ptr b 0))=true:=by
        grind[uq,List.getElem?_append_left,oK,List.getElem?_append_right,bB,V.aF,C.aF,List.all_eq_true]
       exact Calls.next F G rfl (λ_ _ h=>h) (u aE nt φ S env n a w R aJ aB _ (D.append aA)) (Eo ab ad aM H)
     grind
   . rename_i neg x Y;rw[Y]at h1;obtain⟨U,ty,y,z,aU,e,aG,ay,rfl,al,am,ah⟩:=YE (zh h1 (by simp));have aO:∀(b:Bool) (j:Option Addr) (l c:Nat),a.eval y= .slice j l c->j.isNone=b->(execOp a.eval o).run P w= .ok (.value (.bool (if(U== .neq)then !b else b))) w:=by
      intro b j l c m H;subst H;obtain⟨ai,an,aN⟩:∃ai:Value,a.eval z=ai/\ai= .slice none 0 0:=by
       unfold Iv at am;split at am
       . exact⟨_,rfl,rfl⟩
       grind
      subst aN;have ar:(eqGuard U ty y z (a.eval y) (a.eval z)).run P w= .ok () w:=I5 (by grind) (by grind);have aj:(Op.equal ty (.slice j l c) (.slice none 0 0)).run P w= .ok j.isNone w:=by
       obtain⟨d,aC⟩:∃d,Op.maxDepth=d+1:=⟨9999,rfl⟩
       unfold Op.equal;rw[aC];unfold Op.equalIn;cases j with
       |none=>simp only[Sem.run_bind,run_underlying al,Result.andThen_ok];rfl
       |some j=>simp only[Sem.run_bind,run_underlying al,Result.andThen_ok];rfl
      have au:(binOp U ty (a.eval y) (a.eval z)).run P w= .ok (.bool (if(U== .neq)then !j.isNone else j.isNone)) w:=by
       rcases ay with rfl|rfl
       . rw[m,an];simp only[binOp,Sem.run_bind,aj];rfl
       . rw[m,an];simp only[binOp,Sem.run_bind,aj];rfl
      simp[execOp,aG,ar,au]
     have N:∀ (b:Bool) (j:Option Addr) (l c:Nat),o.guard = none->a.eval y = .slice j l c->j.isNone = b->K (er env T.dst true (sM (if (U == .neq) then !b else b))) J->
      (if g then o.wp P a w (kd aE nt (eG n key) K) Q else kd aE nt (eG n key) K (a.put o.dst undef) w):=by
      intro b j l c A m H bD;have I:g=true:=by
       have:Region.wanted o (yielded ops a.tmps)=true:=(by simp[Region.wanted,A]);grind
      rw[ae I];unfold Oper.wp;rw[aO b j l c m H];show kd aE nt (eG n key) K (a.put o.dst _) w;rw[<-F];exact⟨φ,S,_,_,bD,(R.more λ_ h=>me h).B1 G (λ_=>.qS _) (λh=>by cases h) (λ_=>rfl)⟩
     split at h
     . rename_i p es M;obtain⟨A,k,bD⟩:=h;obtain⟨j,cap,sz,b,off,f,m,_,_,_,B,_⟩:=ch.kz (cp R ah M k).1.eb;exact N j.isNone j _ _ (Iw E A) m rfl (bD _ λh=>by rw[B h];rfl)
     . rename_i p M;obtain⟨A,k,bD⟩:=h;obtain⟨j,m⟩:=(cp R ah M k).1.eb;exact N j.isNone j _ _ (Iw E A) m rfl (bD _)
     . rename_i p b sz off l M;obtain⟨A,k,bD⟩:=h;obtain⟨j,m,Z,aT⟩:=bq.hl (cp R ah M k).1.eb;exact N j.isNone j _ _ (Iw E A) m rfl (bD _ λh=>by rw[Z (by omega)];rfl)
     . exact h.elim
   . rename_i ab ad aS;split at h
     . rename_i p v J' Z;obtain⟨k,B,bD⟩:=h;cases L:g with
       |true=>
        simp only[bM];obtain⟨x,aP,bT,w',hres,aI,ax,R'⟩:=aaW R h1 aJ Z (k L);have av:(if T.op.neutral then J else J')=J':=by
         split
         . rename_i aF;exact(Ai aF Z).symm
         . rfl
        rw[av]at bD;have N:kd aE nt (eG n key) K (a.put o.dst x) w':=by
         rw[<-F];exact⟨aP,bT,_,_,bD,R'.B1 G (λ_=>aI) (λh=>by rw[L]at h;cases h) (λ_=>ax)⟩
        unfold Oper.wp;rcases hres with hres|⟨hres,rfl⟩
        . rw[hres];exact N
        . rw[hres];exact N
       |false=>
        simp only[bW,b6];rcases B with B|B
        . rw[ae B]at bD;exact ap bD rfl L
        . rw[L]at B;cases B
     . exact h.elim
end
def lt(N:Nat):Nat->Bool:=λb=>decide (b<N)
theorem KD{N b:Nat}(h:eG (lt N) N b=true):lt (N+16) b=true:=by
 grind[eG,lt]
theorem Jp{N b:Nat}(h:N<=b):lt N b=false:=by grind[lt]
theorem Qz{N M b:Nat}(h:N<=M)(a:lt N b=true):lt M b=true:=by grind[lt]
section
variable {P:Program}{aE:Ctx}{nt kk:Nat}{φ:dz}{S:dS}{env:Env}{J:ba}{N:Nat}{a:Act}{w:World}
theorem Ny{ops:Array Oper}{Q:Exit->Act->World->Prop}{K:Env->ba->Nat->Prop}:∀{l:List Oper} {bb:List ca} {k N:Nat} {env:Env} {J:ba} {φ:dz} {S:dS} {a:Act} {w:World},jt P nt ops l=some bb->(∀i:Nat,i<l.length->l[i]?=ops[k+i]?)->
 Rel aE nt φ S env J (lt N) a w->kG P bb N env J (λe s=>K e s (N+16*bb.length))->(∀φ S e s N a w,K e s N->Rel aE nt φ S e s (lt N) a w->Q .normal a w)->wpOps P ops Q (List.range' k l.length) a w
 |[],bb,k,N,env,J,φ,S,a,w,c,j,R,h,g=>by
  simp[jt]at c;subst c;exact g _ _ _ _ _ _ _ h R
 |o::l,bb,k,N,env,J,φ,S,a,w,c,j,R,h,g=>by
  simp[jt,bo,bB]at c;obtain⟨p,m,d,n,rfl⟩:=c;have q:ops[k]?=some o:=by have:=j 0 (by simp);grind
  rw[h8,CL,wpOps_cons];unfold wpOp;have hs:=ED R (λb h1 _=>Jp h1) m (K:=λe s=>kG P d (N+16) e s λe s=>K e s (N+16*(d.length+1))) (by grind[kG]) (Q:=Q);have next:∀f w',kd aE nt (eG (lt N) N) (λe s=>kG P d (N+16) e s λe s=>K e s (N+16*(d.length+1))) f w'->wpOps P ops Q (List.range' (k+1) l.length) f w':=by
   rintro f w' ⟨r,bT,e,s,bD,R'⟩
   refine Ny n (λi aC=>?_) (R'.more λ_ h=>KD h) ?_ g
   . have:=j (i+1) (by grind);grind
   grind
  split at hs
  . grind[Oper.wp_mono]
  grind
def Vs(P:Program)(nt kk:Nat)(c:Code)(env:Env)(J:ba)(N:Nat)(Q:Exit->Env->ba->Nat->Prop):Prop:=
 ∀aE φ S a w,aE.k=kk->Rel aE nt φ S env J (lt N) a w->c.wp P (λe b w'=>∃d bT env' J' N',Q e env' J' N'/\Rel aE nt d bT env' J' (lt N') b w') a w
def ct(P:Program)(nt kk:Nat)(c:dw)(env:Env)(J:ba)(N:Nat)(Q:Exit->Env->ba->Nat->Prop):Prop:=
 ∀code,resolve P nt code=some c->Vs P nt kk code env J N Q
variable {Q nR:Exit->Env->ba->Nat->Prop}
theorem ct.mono{c:dw}(h:ct P nt kk c env J N Q)(p:∀e env J N,Q e env J N->nR e env J N):ct P nt kk c env J N nR:=
 λcode j aE φ S a w o R=>wp_mono (h _ j aE φ S a w o R) λe a w ⟨q,bT,env',J',N',h1,f⟩=>⟨q,bT,env',J',N',p _ _ _ _ h1,f⟩
theorem ct.skip(h:Q .normal env J N):ct P nt kk .skip env J N Q:=by
 intro code c aE φ S a w e R;cases code<;>simp[resolve,bo]at c<;>(try (first|(cases c;done)|(obtain⟨l,_,c⟩:=c;(repeat' split at c)<;>cases c)))
 grind[wp_skip]
theorem ct.ret(h:Q .ret env J N):ct P nt kk .ret env J N Q:=by
 intro code c aE φ S a w e R;cases code<;>simp[resolve,bo]at c<;>(try (first|(cases c;done)|(obtain⟨l,_,c⟩:=c;(repeat' split at c)<;>cases c)))
 grind[wp_ret]
theorem ct.exit(h:Q (.exit id) env J N):ct P nt kk (.exit id) env J N Q:=by
 intro code c aE φ S a w e R;cases code<;>simp[resolve,bo]at c<;>(try (first|(cases c;done)|(obtain⟨l,_,c⟩:=c;(repeat' split at c)<;>cases c)))
 grind[wp_exit]
def andThen(next:Env->ba->Nat->Prop)(Q:Exit->Env->ba->Nat->Prop):Exit->Env->ba->Nat->Prop
 |.normal,env,J,N=>next env J N
 |e,env,J,N=>Q e env J N
theorem ZO{x y:dw}(h:resolve P nt code=some (.seq x y)):∃a b,code= .seq a b/\resolve P nt a=some x/\resolve P nt b=some y:=by
 cases code with
 |seq a b=>
  simp[resolve,bo,bB]at h;grind
 |region id ops c=>
  grind[resolve,bo]
 |_=>simp[resolve,bo,bB]at h
theorem aad{c:aU}{x y:dw}(h:resolve P nt code=some (.cond c x y)):∃o a b,code= .cond o a b/\bG o=some c/\resolve P nt a=some x/\resolve P nt b=some y:=by
 cases code with
 |cond o a b=>
  simp[resolve,bo,bB]at h;grind
 |region id ops d=>
  grind[resolve,bo]
 |_=>simp[resolve,bo,bB]at h
theorem Zk{x:dw}(h:resolve P nt code=some (.block id x)):∃b,code= .block id b/\resolve P nt b=some x:=by
 cases code with
 |block i b=>
  grind[resolve,bB]
 |region id ops a=>
  grind[resolve,bo]
 |_=>simp[resolve,bo]at h
theorem aae{x:dw}(h:resolve P nt code=some (.loop x)):∃b,code= .loop b/\resolve P nt b=some x:=by
 cases code with
 |loop b=>
  grind[resolve,bB]
 |region id ops a=>
  grind[resolve,bo]
 |_=>simp[resolve,bo]at h
theorem KK(h:resolve P nt code=some (.region bb)):∃id ops,code= .region id ops false/\jt P nt ops ops.toList=some bb:=by
 cases code with
 |region id ops a=>
  grind[resolve,bo]
 |_=>grind[resolve,bo,bB]
theorem K0(h:resolve P nt code=some (.oW bb gf)):
 ∃id ops,code= .region id ops true/\jt P nt ops ops.toList=some bb/\t' (fx ops bb)=true/\P.follows .mixedOrders=true/\gf=sP (fx ops bb):=by
 cases code with
 |region id ops a=>
  grind[resolve,bo]
 |_=>grind[resolve,bo,bB]
theorem ct.seq{x y:dw}(h:ct P nt kk x env J N (andThen (λenv J N=>ct P nt kk y env J N Q) Q)):ct P nt kk (.seq x y) env J N Q:=by
 intro code o aE φ S a w c R;obtain⟨v,A,rfl,p,q⟩:=ZO o;refine wp_seq (wp_mono (h _ p aE φ S a w c R) ?_)
 rintro e j w' ⟨t,bT,env',J',N',f,R'⟩
 cases e with
 |normal=>exact f _ q aE _ bT j w' c R'
 |_=>exact⟨t,bT,env',J',N',f,R'⟩
theorem ct.cond{c:aU}{x y:dw}{p:Prop}{b:Bool}(j:c.get env=some (p,sM b))(v:p)(A:b=true->ct P nt kk x env J N Q)(D:b=false->ct P nt kk y env J N Q):ct P nt kk (.cond c x y) env J N Q:=by
 intro code q aE φ S a w e R;obtain⟨o,F,G,rfl,t,B,E⟩:=aad q;have f:=(cp R t j v).1.jq;refine wp_cond f ?_;cases b with
 |true=>exact A rfl _ B aE φ S a w e R
 |false=>exact D rfl _ E aE φ S a w e R
def inBlock(id:Nat)(Q:Exit->Env->ba->Nat->Prop):Exit->Env->ba->Nat->Prop
 |.exit i,env,J,N=>if i=id then Q .normal env J N else Q (.exit i) env J N
 |e,env,J,N=>Q e env J N
theorem ct.block{id:Nat}{x:dw}(h:ct P nt kk x env J N (inBlock id Q)):ct P nt kk (.block id x) env J N Q:=by
 intro code f aE φ S a w j R;obtain⟨b,rfl,c⟩:=Zk f;refine wp_block (wp_mono (h _ c aE φ S a w j R) ?_)
 rintro e q w' ⟨p,bT,env',J',N',o,R'⟩
 cases e with
 |exit i=>
  grind[inBlock,Exit.inBlock]
 |_=>exact⟨p,bT,env',J',N',o,R'⟩
theorem ct.region{bb:List ca}(h:kG P bb N env J (λe s=>Q .normal e s (N+16*bb.length))):ct P nt kk (.region bb) env J N Q:=by
 intro code f aE φ S a w q R;obtain⟨id,ops,rfl,j⟩:=KK f;refine wp_region ?_;have:=Ny (Q:=λe c w'=>∃o bT env' J' N',Q e env' J' N'/\Rel aE nt o bT env' J' (lt N') c w') (k:=0) j (λi p=>by simp) R h
  (λφ S e s N a w bD dm=>⟨φ,S,e,s,N,bD,dm⟩)
 grind[List.range_eq_range']
end
def pos:a7->Nat->Option Nat
 |[],_=>none
 |x::r,b=>if x=b then some 0 else(pos r b).map (· +1)
theorem oo:∀{bs:a7} {b i:Nat},pos bs b=some i->bs[i]?=some b
 |[],b,i,h=>by grind[pos]
 |x::r,b,i,h=>by
  unfold pos at h;split at h
  . grind
  . simp at h;obtain⟨j,a,rfl⟩:=h;simpa using oo a
def qt(bs:a7):a7->Option a7
 |[]=>some []
 |c::r=>match pos bs c,qt bs r with
  |some i,some l=>some (i::l)
  |_,_=>none
def C.bU(bs:a7):C->C
 |.t x=>.t x
 |.ptr b o=>match pos bs b with|some i=>.ptr i o|none=>.dead
 |.cH b sz i o=>match pos bs b with|some j=>.cH j sz i o|none=>.dead
 |.dJ ts o=>.dJ ts o
 |.arr b sz off len=>match pos bs b with|some i=>.arr i sz off len|none=>.dead
 |.fI b sz off len=>match pos bs b with|some i=>.fI i sz off len|none=>.dead
 |.mp b=>match pos bs b with|some i=>.mp i|none=>.dead
 |.ev b=>match pos bs b with|some i=>.ev i|none=>.dead
 |.cL b len=>match pos bs b with|some i=>.cL i len|none=>.dead
 |.aA=>.aA
 |.fa=>.fa
 |.e'=>.e'
 |.fn f caps=>match qt bs caps with|some l=>.fn f l|none=>.dead
 |.dead=>.dead
def V.bU(bs:a7):V->V
 |.c x=>.c (x.bU bs)
 |.agg cs=>.agg (cs.map (C.bU bs))
 |.a6 vs=>.a6 (go bs vs)
where go (bs:a7):List V->List V
 |[]=>[]
 |v::vs=>v.bU bs::go bs vs
def bV.bU(bs:a7):bV->bV
 |.box cs=>.box (cs.map (C.bU bs))
 |.arr sz es=>.arr sz es
 |.set ks=>.set ks
 |.buf E s=>.buf E s
 |.b' E c=>.b' E (c.bU bs)
 |.cA sz es i o c=>.cA sz es i o (c.bU bs)
def oq(bs:a7)(env:Env):a7->Env
 |[]=>[]
 |k::ks=>match look env k with
  |some (g,v)=>(k,g,v.bU bs)::oq bs env ks
  |none=>oq bs env ks
def fF(bs:a7)(J:ba):Nat->a7->ba
 |_,[]=>[]
 |i,b::r=>match aY J b with
  |some x=>(i,x.bU bs)::fF bs J (i+1) r
  |none=>fF bs J (i+1) r
def keeps(k:Nat)(bs:a7):Bool:=(List.range k).all λi=>bs[i]?==some i
section
variable {P:Program}{aE:Ctx}{nt kk:Nat}{φ:dz}{S:dS}{env:Env}{J:ba}{N:Nat}{n:Nat->Bool}{a:Act}{w:World}
theorem Ix:∀{bs caps l:a7},qt bs caps=some l->caps.length=l.length/\∀(i b j:Nat),caps[i]?=some b->l[i]?=some j->bs[j]?=some b
 |bs,[],l,h=>by grind[qt]
 |bs,c::r,l,h=>by
  unfold qt at h;split at h
  . rename_i j e d ah;obtain⟨h1,a⟩:=Ix ah;grind[oo]
  grind
theorem bq.bU{j:dz}(t:∀(i:Nat) b,bs[i]?=some b->j i=φ b){c:C}{v:Value}(h:bq φ w S c v):bq j w S (c.bU bs) v:=by
 have q:=bq.je h;cases c with
 |ptr b o=>
  grind[C.bU,bq,oo]
 |cH b sz i o=>
  grind[C.bU,bq,oo]
 |arr b sz off len=>
  grind[C.bU,bq,oo]
 |fI b sz off len=>
  grind[C.bU,bq,oo]
 |mp b=>
  grind[C.bU,bq,oo]
 |ev b=>
  grind[C.bU,bq,oo]
 |cL b len=>
  grind[C.bU,bq,oo]
 |fn f caps=>
  simp[C.bU];split
  . rename_i l ah;obtain⟨h1,p⟩:=Ix ah;rw[h]
    congr 2
    apply List.ext_getElem (by grind);intro i a e;simp at a e;simp;rw[t _ _ (p i _ _ (fb a) (fb e))]
  . exact q
 |_=>exact h
theorem EE:∀{vs:List V} {i:Nat},(V.bU.go bs vs)[i]?=(vs[i]?).map (V.bU bs)
 |[],i=>by rfl
 |v::vs,0=>by rfl
 |v::vs,i+1=>by simp[V.bU.go,EE]
theorem Dp:∀{vs:List V},(V.bU.go bs vs).length=vs.length
 |[]=>rfl
 |v::vs=>by simp[V.bU.go,Dp]
theorem a'.qy{c e:Type}{R:α->c->Prop}{R':e->c->Prop}{f:α->e}{l:List α}{m:List c}(h:a' R l m)(k:∀a b,R a b->R' (f a) b):a' R' (l.map f) m:=by
 induction h with
 |nil=>exact .nil
 |cons j _ ih=>exact .cons (k _ _ j) ih
theorem ck.bU{e:dz}(a:∀(i:Nat) b,bs[i]?=some b->e i=φ b){v:V}{x:Value}(h:ck φ w S v x):ck e w S (v.bU bs) x:=by
 induction h with
 |c h=>exact .c (bq.bU a h)
 |agg h=>exact .agg (h.qy λ_ _=>bq.bU a)
 |a6 vs xs ah h ih=>
  refine .a6 _ xs (by grind[Dp]) ?_;grind[EE]
theorem ua{b i:Nat}(h:pos bs b=some i):i<bs.length:=(dQ.1 (oo h)).1
theorem C.j7(c:C):(c.bU bs).aF (lt bs.length)=true:=by
 cases c with
 |ptr b o=>grind[C.bU,C.aF,lt,ua]
 |cH b sz i o=>grind[C.bU,C.aF,lt,ua]
 |arr b sz off len=>grind[C.bU,C.aF,lt,ua]
 |fI b sz off len=>grind[C.bU,C.aF,lt,ua]
 |mp b=>grind[C.bU,C.aF,lt,ua]
 |ev b=>grind[C.bU,C.aF,lt,ua]
 |cL b len=>grind[C.bU,C.aF,lt,ua]
 |fn f caps=>
  simp[C.bU];split
  . rename_i l ah;obtain⟨h1,a⟩:=Ix ah;simp[C.aF,lt];intro j p;obtain⟨i,e,rfl⟩:=e3 p;exact(dQ.1 (a i _ _ (fb (by omega)) (fb e))).1
  rfl
 |_=>rfl
theorem V.j7{bs:a7}:∀(v:V),(v.bU bs).aF (lt bs.length)=true
 |.c x=>by grind[V.bU,V.aF,C.j7]
 |.agg cs=>by grind[V.bU,V.aF,C.j7]
 |.a6 vs=>by exact go vs
where go:∀vs,V.aF.V.dC _ (V.bU.go bs vs)=true
 |[]=>rfl
 |v::vs=>by simp[V.bU.go,V.aF.V.dC,c7];exact⟨V.j7 v,go vs⟩
theorem zO:∀{ks:a7} {k:Nat} {g:Bool} {v:V},look (oq bs env ks) k=some (g,v)->∃v0,look env k=some (g,v0)/\v=v0.bU bs
 |[],k,g,v,h=>by grind[oq,look]
 |x::ks,k,g,v,h=>by
  unfold oq at h;split at h
  . unfold look at h;split at h
    . grind
    . exact zO h
  . exact zO h
theorem qi:∀{r:a7} {i:Nat} {b:Nat} {x:bV},aY (fF bs J i r) b=some x->∃j c g,b=i+j/\r[j]?=some c/\aY J c=some g/\x=g.bU bs
 |[],i,b,x,h=>by grind[fF,aY]
 |c::r,i,b,x,h=>by
  unfold fF at h;split at h
  . unfold aY at h;split at h
    . simp_all
    . obtain⟨j,a,f,h1,k,d,e⟩:=qi h;exact⟨j+1,a,f,by omega,by grind,d,e⟩
  . obtain⟨j,a,f,h1,k,d,e⟩:=qi h;exact⟨j+1,a,f,by omega,by grind,d,e⟩
theorem cW.bU{f:dz}(a:∀(i:Nat) b,bs[i]?=some b->f i=φ b){i b:Nat}(e:bs[i]?=some b){x:bV}(h:cW φ w S b x):cW f w S i (x.bU bs):=by
 cases x with
 |box cs=>
  obtain⟨h0,vs,E,h1,j,p⟩:=h;simp only[cW,a i b e];exact⟨h0,vs,E,h1,j.qy λ_ _=>bq.bU a,p⟩
 |arr sz es=>simp only[cW,a i b e];exact h
 |set ks=>simp only[cW,a i b e];exact h
 |buf E s=>grind[bV.bU,cW]
 |b' E c=>
  grind[bV.bU,cW,bq.bU]
 |cA sz es i o c=>
  grind[bV.bU,cW,bq.bU]
theorem Rel.tidy(R:Rel aE nt φ S env J (lt N) a w)(ks bs:a7)(b7:bs.Nodup)(P:keeps aE.k bs=true):
 ∃M,Rel aE nt M S (oq bs env ks) (fF bs J 0 bs) (lt bs.length) a w:=by
 have K:∀(i:Nat) b,bs[i]?=some b->(λi=>φ ((bs[i]?).getD 0)) i=φ b:=by grind
 have G:∀i:Nat,i<aE.k->bs[i]?=some i:=by
  simp_all[keeps,gh,List.mem_range,jC]
 refine⟨λi=>φ ((bs[i]?).getD 0),⟨⟨λb x e=>?_,λb O x y e H Q h0 A=>?_,R.bR.st⟩,λk g v ah aq=>?_,λk g v ah aq=>?_,λk g v ah aq=>?_,λb x e=>?_,R.size,R.defers,R.ext,λb x e h0=>?_,λb t=>?_,λb t=>?_⟩⟩
 . obtain⟨j,c,f,rfl,p,q,rfl⟩:=qi e;rw[gC];exact cW.bU K p (R.bR.blk c f q)
 . obtain⟨j,c,f,rfl,p,q,rfl⟩:=qi e;obtain⟨W,B,L,rfl,D,F,rfl⟩:=qi H;simp only[gC,p,D]at h0 A⊢;refine R.bR.inj c B f L q F ?_ h0 A;grind[List.getElem?_eq_some_iff,List.pairwise_iff_getElem,Nat.lt_trichotomy]
 . obtain⟨v0,h1,rfl⟩:=zO ah;obtain⟨x,e,U⟩:=R.gN k g v0 h1 aq;grind[ck.bU]
 . obtain⟨v0,h1,rfl⟩:=zO ah;exact R.hK k g v0 h1 aq
 . grind[zO,V.j7]
 . obtain⟨j,c,f,rfl,p,q,rfl⟩:=qi e;refine⟨by grind[lt,List.getElem?_eq_some_iff],?_⟩;cases f with
   |box cs=>grind[bV.bU,bV.aF,List.all_map,List.all_eq_true,C.j7]
   |arr sz es=>rfl
   |set ks=>rfl
   |buf E s=>rfl
   |b' E c=>exact C.j7 c
   |cA sz es i o c=>exact C.j7 c
 . obtain⟨j,c,f,rfl,p,q,rfl⟩:=qi e;simp only[gC,p]at h0⊢;exact R.own c f q h0
 . simp only[G b t,yO];exact R.fix b t
 . simp only[lt,e4];grind
theorem ct.tidy{c:dw}{Q:Exit->Env->ba->Nat->Prop}(ks bs:a7)(b7:bs.Nodup)(f:keeps kk bs=true)(h:ct P nt kk c (oq bs env ks) (fF bs J 0 bs) bs.length Q):ct P nt kk c env J N Q:=by
 intro code e aE φ S a w j R;subst j;obtain⟨o,R'⟩:=R.tidy ks bs b7 f;exact h _ e aE _ S a w rfl R'
end
def cut(es:List (List T))(off len:Nat):List (List T):=if off=0/\len=es.length then es else(es.drop off).take len
def C.cm(b0 a:Nat)(es:List (List T)):C->C
 |.arr b sz off len=>if b=b0 then(if sz=a/\off+len<=es.length then .t (.slice (cut es off len))else .dead)else .arr b sz off len
 |.cH b sz i o=>if b=b0 then .dead else .cH b sz i o
 |c=>c
def V.cm(b0 a:Nat)(es:List (List T)):V->V
 |.c x=>.c (x.cm b0 a es)
 |.agg cs=>.agg (cs.map (C.cm b0 a es))
 |.a6 vs=>.a6 (go b0 a es vs)
where go (b0 a:Nat) (es:List (List T)):List V->List V
 |[]=>[]
 |v::vs=>v.cm b0 a es::go b0 a es vs
def bV.cm(b0 a:Nat)(es:List (List T)):bV->bV
 |.box cs=>.box (cs.map (C.cm b0 a es))
 |.arr sz l=>.arr sz l
 |.set ks=>.set ks
 |.buf E s=>.buf E s
 |.b' E c=>.b' E (c.cm b0 a es)
 |.cA sz l i o c=>.cA sz l i o (c.cm b0 a es)
def rQ(b0 a:Nat)(es:List (List T)):Env->Env
 |[]=>[]
 |(k,g,v)::r=>(k,g,v.cm b0 a es)::rQ b0 a es r
def nv(b0 a:Nat)(es:List (List T)):ba->ba
 |[]=>[]
 |(k,x)::r=>if k=b0 then nv b0 a es r else(k,x.cm b0 a es)::nv b0 a es r
variable{vs:List V}
section
variable {P:Program}{aE:Ctx}{nt kk:Nat}{φ:dz}{S:dS}{env:Env}{J:ba}{N:Nat}{n:Nat->Bool}{a:Act}{w:World}
theorem AV{a:Nat}:∀{env:Env} {k:Nat},look (rQ b0 a es env) k=(look env k).map λx=>(x.1,x.2.cm b0 a es)
 |[],k=>rfl
 |(i,g,v)::r,k=>by
  simp[rQ,look];split
  . rfl
  . exact AV
theorem Ep{b:Nat}:∀{J:ba} {k:Nat},aY (nv b0 b es J) k=if k=b0 then none else(aY J k).map (bV.cm b0 b es)
 |[],k=>by simp[nv,aY]
 |(i,x)::r,k=>by
  simp[nv,aY];by_cases h:i=b0
  . rw[ae h,Ep];grind
  . rw[al h];simp[aY];by_cases a:i=k
    . grind
    . rw[al a,al a,Ep]
def w2(S:dS)(q:Nat×Nat):dS:=λb j=>S b j\/(q.2≠0/\b=q.1)
theorem ad'{len:Nat}{e:List T}(h:e∈cut es off len):e∈es:=by
 grind[cut]
theorem aea{len i:Nat}{e:List T}(a:off+len<=es.length)(h:(cut es off len)[i]?=some e):es[off+i]?=some e/\i<len:=by
 grind[cut]
theorem aaX{len:Nat}(a:off+len<=es.length):(cut es off len).length=len:=by
 grind[cut]
theorem bq.cm{b0 x:Nat}{es:List (List T)}(du:cW φ w S b0 (.arr x es)){c:C}{v:Value}(h:bq φ w S c v):bq φ w (w2 S (φ b0)) (c.cm b0 x es) v:=by
 have m:gq w S w (w2 S (φ b0)):=⟨λ_ _ h=>.inl h,λ_ _ _=>rfl⟩
 have q:=bq.je h;cases c with
 |arr b sz off len=>
  simp[C.cm];by_cases f:b=b0
  . subst f;rw[ae rfl];split
    . rename_i B;obtain⟨rfl,p⟩:=B;obtain⟨h1,K,y,L,bf⟩:=du;obtain⟨a,rfl,A,N⟩:=bq.hl h;have ah:=aaX p;have aM:Value.slice a len ((φ b).2-off)=Value.slice a (cut es off len).length ((φ b).2-off):=(by grind);rw[aM];by_cases h0:(φ b).2=0
      . have:cut es off len=[]:=j4 (by omega);rw[this];exact ch.slice [] _ _ 0 0 0 (λ_ _=>undef) (by simp) (by simp) (by simp) (by simp) (by simp) (by simp)
      . obtain⟨vs,E,aa,O,G,hs⟩:=bf h0;refine ch.slice _ _ _ sz _ _ (λi j=>(vs.getD ((off+i)*sz+j) undef)) (by omega) (by omega) (λe he=>y e (ad' he)) (λ_=>A h0) ?_ ?_
        . intro i j F M;refine⟨.inr ⟨h0,rfl⟩,?_⟩;rw[js aa];have aC:(off+i)*sz+j<vs.length:=by
           have:=eZ sz (show off+i+1<=(φ b).2 by omega);grind
          grind
        . intro i j e t he ht;obtain⟨D,F⟩:=aea p he;obtain⟨v,J,H⟩:=G _ _ _ _ D ht;simp[List.getD,J];exact ch.mono m H
    . exact q
  . rw[al f];exact bq.mono m (λ_ _=>rfl) (C.mS _) h
 |cH b sz i o=>
  simp[C.cm];split
  . exact q
  . exact h
 |_=>exact bq.mono m (λ_ _=>rfl) (C.mS _) h
theorem Iy{a:Nat}:∀{vs:List V} {i:Nat},(V.cm.go b0 a es vs)[i]?=(vs[i]?).map (V.cm b0 a es)
 |[],i=>by rfl
 |v::vs,0=>by rfl
 |v::vs,i+1=>by simp[V.cm.go,Iy]
theorem HO{a:Nat}:∀{vs:List V},(V.cm.go b0 a es vs).length=vs.length
 |[]=>rfl
 |v::vs=>by simp[V.cm.go,HO]
theorem ck.cm{a:Nat}(du:cW φ w S b0 (.arr a es)){v:V}{x:Value}(h:ck φ w S v x):ck φ w (w2 S (φ b0)) (v.cm b0 a es) x:=by
 induction h with
 |c h=>exact .c (bq.cm du h)
 |agg h=>exact .agg (h.qy λ_ _=>bq.cm du)
 |a6 vs xs ah h ih=>
  refine .a6 _ xs (by grind[HO]) ?_;grind[Iy]
theorem C.qW{a:Nat}{c:C}(h:c.aF n=true):(c.cm b0 a es).aF n=true:=by
 cases c with
 |arr b sz off len=>simp[C.cm];split;split;rfl;rfl;grind
 |cH b sz i o=>simp[C.cm];split;rfl;grind
 |_=>exact h
theorem V.qW{b0 a:Nat}{es:List (List T)}:∀{v:V},v.aF n=true->(v.cm b0 a es).aF n=true
 |.c x,h=>by grind[V.cm,V.aF,C.qW]
 |.agg cs,h=>by grind[V.cm,V.aF,C.qW]
 |.a6 vs,h=>by exact go vs h
where go:∀vs,V.aF.V.dC n vs=true->V.aF.V.dC n (V.cm.go b0 a es vs)=true
 |[],_=>rfl
 |v::vs,h=>by simp[V.cm.go,V.aF.V.dC,c7]at h⊢;exact⟨V.qW h.1,go vs h.2⟩
theorem Rel.freeze(R:Rel aE nt φ S env J n a w){O:Nat}(Q:aY J b0=some (.arr O es)):
 Rel aE nt φ (w2 S (φ b0)) (rQ b0 O es env) (nv b0 O es J) n a w:=by
 have du:=R.bR.blk b0 _ Q;have m:gq w S w (w2 S (φ b0)):=⟨λ_ _ h=>.inl h,λ_ _ _=>rfl⟩
 have N:∀b x,aY (nv b0 O es J) b=some x->b≠b0/\∃A,aY J b=some A/\x=A.cm b0 O es:=by
  grind[Ep,bB]
 have M:∀b x,b≠b0->aY J b=some x->(φ b).2≠0->∀j,¬w2 S (φ b0) (φ b).1 j:=by
  intro b x D B h0 j f;rcases f with f|⟨K,f⟩
  . exact(R.bR.blk b x B).qz h0 j f
  . exact R.bR.inj b b0 x _ B Q D h0 K f
 refine⟨⟨λb x B=>?_,λb U x y B am D h0 X=>?_,λb j f=>?_⟩,λk g v ah aq=>?_,λk g v ah aq=>?_,λk g v ah aq=>?_,λb x B=>?_,R.size,R.defers,?_,λb x B h0=>?_,R.fix,R.gO⟩
 . obtain⟨D,A,q,rfl⟩:=N b x B;have dm:=R.bR.blk b A q;cases A with
   |box cs=>
    obtain⟨h0,vs,E,h1,F,G⟩:=dm;exact⟨h0,vs,E,h1,F.qy λ_ _=>bq.cm du,M b _ D q h0⟩
   |arr sz l=>
    obtain⟨h1,F,G,P,bf⟩:=dm;refine⟨h1,F,G,P,λh0=>?_⟩;grind[ch.mono]
   |set ks=>exact⟨dm.1,dm.2.1,M b _ D q dm.1⟩
   |buf E s=>exact⟨dm.1,dm.2.1,λh0=>⟨(dm.2.2 h0).1,M b _ D q h0⟩⟩
   |b' E c=>
    obtain⟨h0,⟨p,v,h1,F,G⟩,P⟩:=dm;exact⟨h0,⟨p,v,h1,F,bq.cm du G⟩,M b _ D q h0⟩
   |cA sz l i o c=>
    obtain⟨⟨h1,F,G,P,bf,Y⟩,⟨vs,E,k1,k2,k3,v,k4,k5⟩,k6⟩:=dm;exact⟨⟨h1,F,G,P,bf,Y⟩,⟨vs,E,k1,k2,λi j e t he ht aJ=>let⟨v,Z,W⟩:=k3 i j e t he ht aJ;⟨v,Z,ch.mono m W⟩,v,k4,bq.cm du k5⟩,M b _ D q (by omega)⟩
 . obtain⟨_,A,q,rfl⟩:=N b x B;obtain⟨_,ap,an,rfl⟩:=N U y am;exact R.bR.inj b U A ap q an D h0 X
 . rcases f with f|⟨K,rfl⟩
   . exact R.bR.st b j f
   . exact du.j6 K
 . rw[AV,bB]at ah;obtain⟨⟨H,v0⟩,L,he⟩:=ah;cases he;obtain⟨x,B,W⟩:=R.gN k H v0 L aq;grind[ck.cm]
 . rw[AV,bB]at ah;obtain⟨⟨H,v0⟩,L,he⟩:=ah;cases he;exact R.hK k H v0 L aq
 . rw[AV,bB]at ah;obtain⟨⟨H,v0⟩,L,he⟩:=ah;cases he;exact V.qW (R.gM k H v0 L aq)
 . obtain⟨_,A,q,rfl⟩:=N b x B;refine⟨(R.dV b A q).1,?_⟩;have:=(R.dV b A q).2;cases A with
   |box cs=>grind[bV.cm,bV.aF,List.all_map,List.all_eq_true,C.qW]
   |arr sz l=>rfl
   |set ks=>rfl
   |buf E s=>rfl
   |b' E c=>grind[bV.cm,bV.aF,C.qW]
   |cA sz l i o c=>grind[bV.cm,bV.aF,C.qW]
 . refine⟨R.ext.os,R.ext.tape,R.ext.output,R.ext.size,R.ext.block,R.ext.mono.trans m,λb j f=>?_⟩;rcases f with f|⟨K,rfl⟩
   . exact R.ext.si b j f
   . rcases R.own b0 _ Q K with h|h
     all_goals grind
 . obtain⟨_,A,q,rfl⟩:=N b x B;exact R.own b A q h0
theorem ct.freeze{c:dw}{Q:Exit->Env->ba->Nat->Prop}(b0:Nat){e:Nat}(f:aY J b0=some (.arr e es))(h:ct P nt kk c (rQ b0 e es env) (nv b0 e es J) N Q):ct P nt kk c env J N Q:=by
 intro code j aE φ S a w o R;exact h _ j aE φ _ a w o (R.freeze f)
inductive jk where
 |tmp (t:Nat)
 |cell (t:Nat)(agg:Bool)(n:Nat)
def ie(P:Program):List ResultVar->Option (List jk)
 |[]=>some []
 |.tmp t::r=>(ie P r).map (.tmp t::·)
 |.cell a ty::r=>(ou P ty).bind λg=>(ie P r).map (.cell a g.1 g.2::·)
def ub(env:Env)(J:ba):jk->Option (Prop×V)
 |.tmp t=>(look env t).map λx=>(x.1=true,x.2)
 |.cell t g k=>match look env t with
  |some (a,.c (.ptr b o))=>match aY J b with
   |some (.box cs)=>(j3 g k cs o).map λv=>(a=true,v)
   |_=>none
  |_=>none
def qu(env:Env)(J:ba):List jk->Option (Prop×List V)
 |[]=>some (True,[])
 |r::a=>(ub env J r).bind λx=>(qu env J a).map λy=>(x.1/\y.1,x.2::y.2)
def mF:List V->V
 |[v]=>v
 |vs=>.a6 vs
def ej(P:Program)(f:Nat)(args:List V)(J:ba)(k:Nat)(Q:V->ba->Nat->Prop):Prop:=
 ∀(φ:dz) (S:dS) (w:World) (B:Nat->Prop),qP φ w S J->(∀(b:Nat) x,aY J b=some x->b<k/\x.aF (lt k)=true)->(∀(b:Nat) x,aY J b=some x->(φ b).2≠0->B (φ b).1)->
  V.aF.V.dC (lt k) args=true->∀vs:List Value,a' (ck φ w S) args vs->
  Calls P f vs.toArray w λe w'=>∃v r a bT J' N',e= .returned v/\Q r J' N'/\ck a w' bT r v/\r.aF (lt N')=true/\qP a w' bT J'/\(∀(b:Nat) x,aY J' b=some x->b<N'/\x.aF (lt N')=true)/\Ext B S bT w w'/\
   (∀(b:Nat) x,aY J' b=some x->(a b).2≠0->B (a b).1\/w.heap.size<=(a b).1)/\∀b,b<k->a b=φ b
theorem Ext.refl{B:Nat->Prop}:Ext B S S w w:=⟨rfl,rfl,rfl,eI _,λ_ _ _=>rfl,gq.refl _ _,λ_ _ h=>.inl h⟩
def gz:Nat->List V->Env
 |_,[]=>[]
 |i,v::vs=>(i,true,v)::gz (i+1) vs
theorem EN:∀{vs:List V} {i k:Nat} {g:Bool} {v:V},look (gz i vs) k=some (g,v)->g=true/\∃j,k=i+j/\vs[j]?=some v
 |[],i,k,g,v,h=>by grind[gz,look]
 |x::vs,i,k,g,v,h=>by
  simp[gz,look]at h;split at h
  . simp_all
  . obtain⟨h1,j,a,b⟩:=EN h;exact⟨h1,j+1,by omega,by grind⟩
def A'(a:Act):ResultVar->Sem Value
 |.tmp t=>Pure.pure (a.tmps.getD t undef)
 |.cell b ty=>do loadVar ty (<-asAddr (a.tmps.getD b undef))
theorem aaY(fn:Func)(a:Act):results fn a.tmps=(fn.results.mapM (A' a)>>=λvs=>Pure.pure (if h:vs.size=1 then vs[0]else .tuple vs)):=by rfl
theorem aaf(R:Rel aE nt φ S env J n a w){f:ResultVar}{i:jk}(c:ie P [f]=some [i]){p:Prop}{v:V}(h:ub env J i=some (p,v))(d:p):
 ∃x,(A' a f).run P w= .ok x w/\ck φ w S v x/\v.aF n=true:=by
 cases f with
 |tmp t=>
  simp[ie]at c;subst c;simp only[ub,bB]at h;obtain⟨⟨g,v0⟩,ah,rfl,rfl⟩:=h;obtain⟨x,m,e⟩:=R.gN t g v0 ah d;refine⟨x,?_,e,R.gM t g v0 ah d⟩;simp[A',m]
 |cell q ty=>
  simp only[ie,bo,bB]at c;obtain⟨g,aq,l,ah,he⟩:=c;simp at ah;subst ah;simp at he;subst he;simp[ub]at h;split at h
  . rename_i r b o ah;split at h
    . rename_i cs k;simp only[bB]at h;obtain⟨v0,u,rfl,rfl⟩:=h;obtain⟨x,m,e⟩:=R.gN q r _ ah d;have:=e.hS;obtain⟨_,vs,E,aa,s,_⟩:=R.bR.blk _ _ k;obtain⟨y,A,h1,z⟩:=uF aq s (R.dV _ _ k).2 (λj _=>by rw[js aa,gC]) u;simp_all[A',asAddr]
    grind
  grind
theorem Mn(R:Rel aE nt φ S env J n a w):∀{c:List ResultVar} {b:List jk} {p:Prop} {vs:List V},ie P c=some b->qu env J b=some (p,vs)->p->
 ∃xs:List Value,(c.mapM (A' a)).run P w= .ok xs w/\a' (ck φ w S) vs xs/\V.aF.V.dC n vs=true
 |[],b,p,vs,g,h,f=>by
  simp[ie]at g;subst g;obtain⟨_,rfl⟩:=h;exact⟨[],by rfl,.nil,rfl⟩
 |i::c,b,p,vs,g,h,f=>by
  have m:∃d e,b=d::e/\ie P [i]=some [d]/\ie P c=some e:=by
   cases i with
   |tmp t=>
    grind[ie,bB]
   |cell s ty=>
    grind[ie,bo,bB]
  obtain⟨d,e,rfl,h1,j⟩:=m;simp only[qu,bo,bB]at h;obtain⟨⟨q,v⟩,k,⟨B,C⟩,l,he⟩:=h;obtain⟨rfl,rfl⟩:=he;obtain⟨x,z,o,u⟩:=aaf R h1 k f.1;obtain⟨xs,A,r,y⟩:=Mn R j l f.2;refine⟨x::xs,?_,.cons o r,by grind[V.aF.V.dC]⟩;simp_all
theorem ck.mF{xs:List Value}(h:a' (ck φ w S) vs xs):ck φ w S (mF vs) (if h:xs.toArray.size=1 then xs.toArray[0]else .tuple xs.toArray):=by
 cases h with
 |nil=>exact .a6 [] [] rfl (by simp)
 |cons h1 a=>
  cases a with
  |nil=>grind[Shv.mF]
  |cons a c=>
   refine .a6 _ _ (by simp[c.length]) ?_;intro i v x e f;have:=(a'.cons h1 (.cons a c)).get e;grind
theorem adb(h:V.aF.V.dC n vs=true):(mF vs).aF n=true:=by
 unfold mF;grind[V.aF.V.dC,V.aF]
def FB(a:List jk)(Q:V->ba->Nat->Prop):Exit->Env->ba->Nat->Prop
 |.normal,env,J,N=>∃p vs,qu env J a=some (p,vs)/\p/\Q (mF vs) J N
 |.ret,env,J,N=>∃p vs,qu env J a=some (p,vs)/\p/\Q (mF vs) J N
 |_,_,_,_=>False
theorem ej.GL{fn:Func}{c:dw}{D:List jk}(X:P.funcs[f]?=some fn)(K:fn.body=some code)(W:resolve P fn.ntmps code=some c)(L:ie P fn.results.toList=some D)
 {args:List V}(aJ:args.length<=fn.ntmps){k:Nat}{Q:V->ba->Nat->Prop}(h:ct P fn.ntmps k c (gz 0 args) J k (FB D Q)):ej P f args J k Q:=by
 intro φ S w B an aL Z aE vs M;have ah:=M.length;refine calls_of_wp X K ?_;have R:Rel ⟨w,S,B,φ,k⟩ fn.ntmps φ S (gz 0 args) J (lt k) {tmps:=vs.toArray++Array.replicate (fn.ntmps-vs.toArray.size) undef,defers:=[]} w:=by
  refine⟨an,λi g v E aq=>?_,λi g v E aq=>?_,λi g v E aq=>?_,λb x q=>?_,?_,rfl,Ext.refl,λb x q h0=>.inl (Z b x q h0),λ_ _=>rfl,λb K=>by grind[lt]⟩
  . obtain⟨_,j,rfl,Y⟩:=EN E;obtain⟨x,q,L⟩:=M.get Y;grind
  . grind[EN]
  . grind[EN,oK]
  . grind[lt]
  grind
 refine wp_mono (h _ W _ φ S _ w rfl R) ?_
 rintro e F w' ⟨ax,bT,env',J',N',a,R'⟩
 have G:(∃ p vs,qu env' J' D = some (p,vs)/\p/\Q (mF vs) J' N')->F.defers = []/\∃ v,(results fn F.tmps).run P w' = .ok v w'/\(∃ N r o A t y,Ending.returned v = .returned N/\Q r t y/\ck o w' A r N/\r.aF (lt y) = true/\qP o w' A t/\(∀ (b:Nat) x,aY t b = some x->b<y/\x.aF (lt y) = true)/\Ext B S A w w'/\
  (∀(b:Nat) x,aY t b=some x->(o b).2≠0->B (o b).1\/w.heap.size<=(o b).1)/\∀b,b<k->o b=φ b):=by
  rintro ⟨p,ap,h1,H,O⟩
  obtain⟨xs,a0,am,U⟩:=Mn R' L h1 H;refine⟨R'.defers,_,?_,_,mF ap,ax,bT,J',N',rfl,O,ck.mF am,adb U,R'.bR,λb x q=>?_,R'.ext,R'.own,R'.fix⟩
  . simp_all[Array.mapM_eq_mapM_toList,aaY]
  . obtain⟨h1,H⟩:=R'.dV b x q;grind[lt]
 cases e with
 |normal=>exact G a
 |ret=>exact G a
 |exit id=>exact a.elim
 |goto l=>exact a.elim
 |panic aC=>exact a.elim
 |outgrown=>exact a.elim
end
end
open Go
def C.bK(k:Nat):C->C
 |.ptr b o=>.ptr (k+b) o
 |.cH b sz i o=>.cH (k+b) sz i o
 |.arr b sz off len=>.arr (k+b) sz off len
 |.fI b sz off len=>.fI (k+b) sz off len
 |.mp b=>.mp (k+b)
 |.ev b=>.ev (k+b)
 |.cL b len=>.cL (k+b) len
 |.fn f caps=>.fn f (caps.map (k+·))
 |c=>c
def V.bK(k:Nat):V->V
 |.c x=>.c (x.bK k)
 |.agg cs=>.agg (cs.map (C.bK k))
 |.a6 vs=>.a6 (go k vs)
where go (k:Nat):List V->List V
 |[]=>[]
 |v::vs=>v.bK k::go k vs
def bV.bK(k:Nat):bV->bV
 |.box cs=>.box (cs.map (C.bK k))
 |.arr sz es=>.arr sz es
 |.set ks=>.set ks
 |.buf E s=>.buf E s
 |.b' E c=>.b' E (c.bK k)
 |.cA sz es i o c=>.cA sz es i o (c.bK k)
def mO(J:ba)(k:Nat):ba->ba
 |[]=>J
 |(b,x)::r=>c9 (mO J k r) (k+b) (x.bK k)
variable{J:ba}{f:Nat}{K:V->ba->Prop}{Q:V->ba->Nat->Prop}
theorem zD{k:Nat}:∀{a:ba} {b:Nat},aY (mO J k a) b=match (if k<=b then aY a (b-k)else none)with|some x=>some (x.bK k)|none=>aY J b
 |[],b=>by simp[mO,aY]
 |(c,x)::r,b=>by
  simp[mO,c0,zD,aY];grind
section
variable {P:Program}{aE:Ctx}{nt kk:Nat}{φ:dz}{S bT:dS}{env:Env}{J:ba}{N key:Nat}{n:Nat->Bool}{a:Act}{w w':World}
theorem hW.UM{args:List V}{r:V}(h:ej P f args [] 0 (λj _ _=>j=r))(q:V.aF.V.dC (lt 0) args=true)(o:r.aF (lt 0)=true)(bD:K r J):hW P f args J key K:=by
 intro aE nt φ S env n a w R aJ G vs t;refine(h φ S w (λ_=>False) ⟨λb x c=>by grind[aY],λb A x y c=>by grind[aY],R.bR.st⟩ (λb x c=>by grind[aY]) (λb x c=>by grind[aY]) q vs t).mono ?_
 rintro e w' ⟨v,j,H,bT,J',N',rfl,rfl,h1,B,p,D,bf,E,F⟩
 refine⟨v,j,φ,bT,J,rfl,bD,?_,V.hv (λb h=>by grind[lt]) o,(R.extend bf p.st).more λ_ h=>me h⟩;exact ck.mono (gq.refl _ _) (λb h=>by grind[lt]) o h1
theorem bq.bK{a:dz}{k:Nat}{n:Nat->Bool}(j:∀b,n b=true->a (k+b)=φ b){c:C}{v:Value}(e:c.aF n=true)(h:bq φ w S c v):bq a w S (c.bK k) v:=by
 cases c with
 |ptr b o=>grind[C.aF,C.bK,bq]
 |cH b sz i o=>grind[C.aF,C.bK,bq]
 |arr b sz off len=>grind[C.aF,C.bK,bq]
 |fI b sz off len=>grind[C.aF,C.bK,bq]
 |mp b=>grind[C.aF,C.bK,bq]
 |ev b=>grind[C.aF,C.bK,bq]
 |cL b len=>grind[C.aF,C.bK,bq]
 |fn f caps=>
  simp_all[C.aF,C.bK,bq]
 |_=>exact h
theorem Nz{k:Nat}:∀{vs:List V} {i:Nat},(V.bK.go k vs)[i]?=(vs[i]?).map (V.bK k)
 |[],i=>by rfl
 |v::vs,0=>by rfl
 |v::vs,i+1=>by simp[V.bK.go,Nz]
theorem Mo{k:Nat}:∀{vs:List V},(V.bK.go k vs).length=vs.length
 |[]=>rfl
 |v::vs=>by simp[V.bK.go,Mo]
theorem ck.bK{f:dz}{k:Nat}{n:Nat->Bool}(e:∀b,n b=true->f (k+b)=φ b){v:V}{x:Value}(a:v.aF n=true)(h:ck φ w S v x):ck f w S (v.bK k) x:=by
 induction h with
 |c h=>exact .c (bq.bK e (by grind[V.aF]) h)
 | @agg cs vs h=>
  simp[V.aF]at a;refine .agg ?_;have:=h.imp λc v j o=>bq.bK e (a c j) o;exact this.qy λ_ _ h=>h
 |a6 vs xs ah h ih=>
  refine .a6 _ xs (by grind[Mo]) ?_;grind[Nz,oK,V.aF]
theorem C.sh{m:Nat}(a:m<=16){c:C}(h:c.aF (lt m)=true):(c.bK key).aF (eG n key)=true:=by
 cases c<;>simp[C.bK,C.aF,lt,eG]at h⊢
 all_goals grind
theorem V.sh{m:Nat}(a:m<=16):∀{v:V},v.aF (lt m)=true->(v.bK key).aF (eG n key)=true
 |.c x,h=>by grind[V.bK,V.aF,C.sh]
 |.agg cs,h=>by grind[V.bK,V.aF,C.sh]
 |.a6 vs,h=>by exact go vs h
where go:∀vs,V.aF.V.dC (lt m) vs=true->V.aF.V.dC _ (V.bK.go _ vs)=true
 |[],_=>rfl
 |v::vs,h=>by simp[V.bK.go,V.aF.V.dC,c7]at h⊢;exact⟨V.sh a h.1,go vs h.2⟩
theorem hW.aiS{args:List V}(h:ej P f args [] 0 Q)(G:V.aF.V.dC (lt 0) args=true)
 (bD:∀r J' N',Q r J' N'->N'<=16/\K (r.bK key) (mO J key J')):hW P f args J key K:=by
 intro aE nt φ S env n a w R aJ bi vs a5;refine(h φ S w (λ_=>False) ⟨λb x j=>by grind[aY],λb L x y j=>by grind[aY],R.bR.st⟩ (λb x j=>by grind[aY]) (λb x j=>by grind[aY]) G vs a5).mono ?_
 rintro e w' ⟨v,a9,aL,bT,J',N',rfl,a2,h1,an,N,O,bf,bb,be⟩
 obtain⟨cq,bD⟩:=bD _ _ _ a2;have a0:=R.extend bf N.st;let D:dz:=λb=>if key<=b/\b<key+16 then aL (b-key)else φ b
 have aC:∀b,n b=true->D b=φ b:=by grind
 have B:∀b,lt N' b=true->D (key+b)=aL b:=by
  intro b G;simp only[lt,e4]at G;grind
 have A:=a0.zp aC;have H:∀b x,aY (mO J key J') b=some x->(∃c q,b=key+c/\aY J' c=some q/\x=q.bK key)\/aY J b=some x:=by
  grind[zD]
 have Y:∀c q,aY J' c=some q->(D (key+c)).2≠0->w.heap.size<=(D (key+c)).1:=by grind
 have ax:∀b x,aY J b=some x->(D b).2≠0->(D b).1<w.heap.size:=by
  intro b x j h0;rw[aC b (R.dV b x j).1]at h0⊢;exact(R.bR.blk b x j).j6 h0
 refine⟨v,a9.bK key,D,bT,mO J key J',rfl,bD,ck.bK B an h1,V.sh cq an,⟨⟨λb x j=>?_,λb L x y j U a3 h0 F=>?_,N.st⟩,A.gN,A.hK,λk g v ah aq=>V.hv (λ_ h=>me h) (A.gM k g v ah aq),λb x j=>?_,A.size,A.defers,A.ext,λb x j h0=>?_,A.fix,λb G=>me (A.gO b G)⟩⟩
 . rcases H b x j with⟨c,q,rfl,t,rfl⟩|j
   . have du:=N.blk c q t;have X:=O c q t;have aM:=B c (by grind[lt]);cases q with
     |box cs=>
      obtain⟨Z,vs,E,k1,k2,k3⟩:=du;simp only[bV.bK,cW,aM];refine⟨Z,vs,E,k1,?_,k3⟩;have ap:=X.2;simp only[bV.aF,gh]at ap;have:=k2.imp λc v t a4=>bq.bK B (ap c t) a4;exact this.qy λ_ _ h=>h
     |arr sz es=>simp only[bV.bK,cW,aM];exact du
     |set ks=>simp only[bV.bK,cW,aM];exact du
     |buf E s=>simp only[bV.bK,cW,aM];exact du
     |b' E c=>
      obtain⟨Z,⟨p,v,k1,k2,k3⟩,k4⟩:=du;simp only[bV.bK,cW,aM];exact⟨Z,⟨p,v,k1,k2,bq.bK B (by simpa[bV.aF]using X.2) k3⟩,k4⟩
     |cA sz es i o c=>
      obtain⟨h1,⟨vs,E,k1,k2,k3,v,k4,k5⟩,k6⟩:=du;simp only[bV.bK,cW,aM];exact⟨h1,⟨vs,E,k1,k2,k3,v,k4,bq.bK B (by simpa[bV.aF]using X.2) k5⟩,k6⟩
   . exact A.bR.blk b x j
 . rcases H b x j with⟨c,q,rfl,t,rfl⟩|j<;>rcases H L y U with⟨M,am,rfl,W,rfl⟩|U
   . have aM:=B c (by simp[lt];exact(O c q t).1);have a1:=B M (by simp[lt];exact(O M am W).1);rw[aM]at h0⊢;rw[a1]at F⊢;exact N.inj c M q am t W (by omega) h0 F
   . have:=Y c q t h0;have:=ax L y U F;omega
   . have:=Y M am W F;have:=ax b x j h0;omega
   . exact A.bR.inj b L x y j U a3 h0 F
 . rcases H b x j with⟨c,q,rfl,t,rfl⟩|j
   . obtain⟨k1,k2⟩:=O c q t;refine⟨by simp[eG];right;omega,?_⟩;cases q with
     |box cs=>
      simp only[bV.bK,bV.aF,List.all_map,gh]at k2⊢;intro c t;exact C.sh cq (k2 c t)
     |arr sz es=>rfl
     |set ks=>rfl
     |buf E s=>rfl
     |b' E c=>exact C.sh cq k2
     |cA sz es i o c=>simp only[bV.bK,bV.aF]at k2⊢;exact C.sh cq k2
   . obtain⟨k1,k2⟩:=A.dV b x j;exact⟨me k1,bV.hv (λ_ h=>me h) k2⟩
 . rcases H b x j with⟨c,q,rfl,t,rfl⟩|j
   . exact .inr (fg R.ext.size (Y c q t h0))
   . exact A.own b x j h0
end
theorem ej.mk{P:Program}{fn:Func}{c:dw}{a:List jk}(j:P.funcs[f]?=some fn)(e:fn.body.bind (resolve P fn.ntmps)=some c)(p:ie P fn.results.toList=some a)
 {args:List V}{nt:Nat}(o:fn.ntmps=nt)(aJ:args.length<=nt){k:Nat}{Q:V->ba->Nat->Prop}(h:ct P nt k c (gz 0 args) J k (FB a Q)):ej P f args J k Q:=by
 grind[bo,ej.GL]
section
open Go
def C.cf(f:Nat->Nat):C->C
 |.ptr b o=>.ptr (f b) o
 |.cH b sz i o=>.cH (f b) sz i o
 |.arr b sz off len=>.arr (f b) sz off len
 |.fI b sz off len=>.fI (f b) sz off len
 |.mp b=>.mp (f b)
 |.ev b=>.ev (f b)
 |.cL b len=>.cL (f b) len
 |.fn g caps=>.fn g (caps.map f)
 |c=>c
def V.cf(f:Nat->Nat):V->V
 |.c x=>.c (x.cf f)
 |.agg cs=>.agg (cs.map (C.cf f))
 |.a6 vs=>.a6 (go f vs)
where go (f:Nat->Nat):List V->List V
 |[]=>[]
 |v::vs=>v.cf f::go f vs
def bV.cf(f:Nat->Nat):bV->bV
 |.box cs=>.box (cs.map (C.cf f))
 |.arr sz es=>.arr sz es
 |.set ks=>.set ks
 |.buf E s=>.buf E s
 |.b' E c=>.b' E (c.cf f)
 |.cA sz es i o c=>.cA sz es i o (c.cf f)
def pd(J:ba):a7->ba
 |[]=>J
 |b::r=>ia (pd J r) b
variable{J:ba}{bs:a7}{f:Nat->Nat}{v:V}{Q:V->ba->Nat->Prop}{x:aU}{o:cN}{p:Prop}{K:Env->ba->Prop}
theorem r5:∀{bs:a7} {b:Nat},aY (pd J bs) b=if b∈bs then none else aY J b
 |[],b=>by rfl
 |c::r,b=>by
  simp[pd,fN,r5];grind
def back(bs:a7)(key:Nat)(b:Nat):Nat:=(bs[b]?).getD (key+(b-bs.length))
def hr(J:ba)(bs:a7)(f:Nat->Nat):ba->ba
 |[]=>pd J bs
 |(b,x)::r=>c9 (hr J bs f r) (f b) (x.cf f)
theorem NA:∀{d:ba} {c:Nat} {x:bV},aY (hr J bs f d) c=some x->(∃b a,c=f b/\aY d b=some a/\x=a.cf f)\/(c ∉ bs/\aY J c=some x)
 |[],c,x,h=>by
  grind[hr,r5]
 |(b,y)::r,c,x,h=>by
  simp[hr,c0]at h;split at h
  . grind[aY]
  . rcases NA h with⟨e,a,h1,g,i⟩|h
    . grind[aY]
    grind
section
variable {P:Program}{aE:Ctx}{nt kk:Nat}{φ:dz}{S bT:dS}{env:Env}{J:ba}{N key:Nat}{n:Nat->Bool}{a:Act}{w w':World}{f:Nat->Nat}
theorem bq.cf{a:dz}{n:Nat->Bool}(j:∀b,n b=true->a (f b)=φ b){c:C}{v:Value}(e:c.aF n=true)(h:bq φ w S c v):bq a w S (c.cf f) v:=by
 cases c with
 |ptr b o=>grind[C.aF,C.cf,bq]
 |cH b sz i o=>grind[C.aF,C.cf,bq]
 |arr b sz off len=>grind[C.aF,C.cf,bq]
 |fI b sz off len=>grind[C.aF,C.cf,bq]
 |mp b=>grind[C.aF,C.cf,bq]
 |ev b=>grind[C.aF,C.cf,bq]
 |cL b len=>grind[C.aF,C.cf,bq]
 |fn g caps=>
  simp_all[C.aF,C.cf,bq]
 |_=>exact h
theorem JK:∀{vs:List V} {i:Nat},(V.cf.go f vs)[i]?=(vs[i]?).map (V.cf f)
 |[],i=>by rfl
 |v::vs,0=>by rfl
 |v::vs,i+1=>by simp[V.cf.go,JK]
theorem IL:∀{vs:List V},(V.cf.go f vs).length=vs.length
 |[]=>rfl
 |v::vs=>by simp[V.cf.go,IL]
theorem ck.cf{j:dz}{n:Nat->Bool}(e:∀b,n b=true->j (f b)=φ b){x:Value}(a:v.aF n=true)(h:ck φ w S v x):ck j w S (v.cf f) x:=by
 induction h with
 |c h=>exact .c (bq.cf e (by grind[V.aF]) h)
 | @agg cs vs h=>
  simp[V.aF]at a;refine .agg ?_;have:=h.imp λc v o p=>bq.cf e (a c o) p;exact this.qy λ_ _ h=>h
 |a6 vs xs ah h ih=>
  refine .a6 _ xs (by grind[IL]) ?_;grind[JK,oK,V.aF]
theorem C.r7{n m:Nat->Bool}(a:∀b,m b=true->n (f b)=true){c:C}(h:c.aF m=true):(c.cf f).aF n=true:=by
 cases c<;>simp[C.cf,C.aF]at h⊢
 all_goals grind
theorem V.r7{n m:Nat->Bool}(a:∀b,m b=true->n (f b)=true):∀{v:V},v.aF m=true->(v.cf f).aF n=true
 |.c x,h=>by grind[V.cf,V.aF,C.r7]
 |.agg cs,h=>by grind[V.cf,V.aF,C.r7]
 |.a6 vs,h=>by exact go vs h
where go:∀vs,V.aF.V.dC m vs=true->V.aF.V.dC n (V.cf.go f vs)=true
 |[],_=>rfl
 |v::vs,h=>by simp[V.cf.go,V.aF.V.dC,c7]at h⊢;exact⟨V.r7 a h.1,go vs h.2⟩
theorem Rel.aim{B:Nat->Prop}(R:Rel aE nt φ S env J n a w)(e:Ext B S bT w w')(O:∀b j,bT b j->b<w'.heap.size)(N:∀b x,aY J b=some x->(φ b).2≠0->¬B (φ b).1)(du:∀b,B b->aE.B b\/aE.j9.heap.size<=b):Rel aE nt φ bT env J n a w':=by
 have aa:=λb x f h0=>e.block _ ((R.bR.blk b x f).j6 h0) (N b x f h0);have F:∀b x,aY J b=some x->(φ b).2≠0->∀j,¬bT (φ b).1 j:=by
  intro b x f h0 j K;have y:=R.bR.blk b x f;rcases e.si _ _ K with h|h|h
  . exact y.qz h0 j h
  . grind
  grind
 refine⟨⟨λb x f=>?_,R.bR.inj,O⟩,λk g v ah aq=>?_,R.hK,R.gM,R.dV,R.size,R.defers,?_,R.own,R.fix,R.gO⟩
 . have y:=R.bR.blk b x f;cases x with
   |box cs=>
    obtain⟨h0,vs,E,h1,q,A⟩:=y;refine⟨h0,vs,E,(aa _ _ f h0).trans h1,q.imp λc v P D=>bq.mono e.mono (λ_ _=>rfl) (C.mS _) D,F b _ f h0⟩
   |arr sz es=>
    obtain⟨h1,q,A,G,bf⟩:=y;refine⟨h1,q,A,G,λh0=>?_⟩;obtain⟨vs,E,k1,k2,k3,k4⟩:=bf h0;exact⟨vs,E,(aa _ _ f h0).trans k1,k2,λi j H t he ht=>let⟨v,L,D⟩:=k3 i j H t he ht;⟨v,L,ch.mono e.mono D⟩,F b _ f h0⟩
   |set ks=>
    obtain⟨h0,⟨es,c,h1,q⟩,A⟩:=y;exact⟨h0,⟨es,c,(aa _ _ f h0).trans h1,q⟩,F b _ f h0⟩
   |buf E s=>
    obtain⟨h1,q,A⟩:=y;refine⟨h1,q,λh0=>?_⟩;grind
   |b' E c=>
    obtain⟨h0,⟨p,v,h1,q,A⟩,G⟩:=y;exact⟨h0,⟨p,v,(aa _ _ f h0).trans h1,q,bq.mono e.mono (λ_ _=>rfl) (C.mS _) A⟩,F b _ f h0⟩
   |cA sz es i o c=>
    obtain⟨⟨h1,q,A,G,bf,M⟩,⟨vs,E,k1,k2,k3,v,k4,k5⟩,k6⟩:=y;exact⟨⟨h1,q,A,G,bf,M⟩,⟨vs,E,(aa _ _ f (by omega)).trans k1,k2,λi j H t he ht aJ=>let⟨v,L,D⟩:=k3 i j H t he ht aJ;⟨v,L,ch.mono e.mono D⟩,v,k4,bq.mono e.mono (λ_ _=>rfl) (C.mS _) k5⟩,F b _ f (by omega)⟩
 . obtain⟨x,f,D⟩:=R.gN k g v ah aq;exact⟨x,f,ck.mono e.mono (λ_ _=>rfl) (R.gM k g v ah aq) D⟩
 . refine⟨e.os.trans R.ext.os,e.tape.trans R.ext.tape,e.output.trans R.ext.output,fg R.ext.size e.size,λb aC y=>?_,R.ext.mono.trans e.mono,λb j K=>?_⟩
   . refine(e.block b (mx aC R.ext.size) λh=>?_).trans (R.ext.block b aC y);grind
   . rcases e.si _ _ K with h|h|h
     . exact R.ext.si b j h
     . grind
     . exact .inr (.inr (fg R.ext.size h))
theorem hW.raw {fn:Nat}{args:List V}{bs:a7}{Q:V->ba->Nat->Prop}(b7:bs.Nodup)(aC:∀b,b∈bs->b<key)(h:ej P fn (args.map (V.bU bs)) (fF bs J 0 bs) bs.length Q){K:V->ba->Prop}
 (bD:∀r J' N',Q r J' N'->N'<=bs.length+16/\K (r.cf (back bs key)) (hr J bs (back bs key) J')):(∀b,b∈bs->n b=true)->∀aE nt φ S env a w,Rel aE nt φ S env J n a w->(∀b,key<=b->b<key+16->n b=false)->V.aF.V.dC n args=true->∀vs:List Value,a' (ck φ w S) args vs->
 Calls P fn vs.toArray w λe w'=>∃v r ap bT J',e= .returned v/\K r J'/\ck ap w' bT r v/\r.aF (eG n key)=true/\Rel aE nt ap bT env J' (eG n key) a w':=by
 intro t aE nt φ S env a w R aJ gc vs fd;let a1:dz:=λi=>φ ((bs[i]?).getD 0);have a0:∀(i:Nat) b,bs[i]?=some b->a1 i=φ b:=by grind
 let B:Nat->Prop:=λbv=>∃b x,b∈bs/\aY J b=some x/\(φ b).2≠0/\bv=(φ b).1;have aL:∀b x,aY (fF bs J 0 bs) b=some x->∃c j,bs[b]?=some c/\aY J c=some j/\x=j.bU bs:=by
  grind[qi]
 have ex:qP a1 w S (fF bs J 0 bs):=by
  refine⟨λb x f=>?_,λb D x y f G a3 h0 F=>?_,R.bR.st⟩
  . obtain⟨c,j,M,L,rfl⟩:=aL b x f;exact cW.bU a0 M (R.bR.blk c j L)
  . obtain⟨c,j,M,L,rfl⟩:=aL b x f;obtain⟨O,an,b3,b4,rfl⟩:=aL D y G;rw[a0 b c M]at h0⊢;rw[a0 D O b3]at F⊢;refine R.bR.inj c O j an L b4 ?_ h0 F;grind[List.getElem?_eq_some_iff,List.pairwise_iff_getElem]
 have ci:a' (ck a1 w S) (args.map (V.bU bs)) vs:=fd.qy λ_ _=>ck.bU a0;have cS:V.aF.V.dC (lt bs.length) (args.map (V.bU bs))=true:=by
  simp_all[uq,r9,bB,V.j7]
 refine(h a1 S w B ex (λb x f=>?_) (λb x f h0=>?_) cS vs ci).mono ?_
 . obtain⟨c,j,M,L,rfl⟩:=aL b x f;refine⟨(dQ.1 M).1,?_⟩;cases j with
   |box cs=>grind[bV.bU,bV.aF,List.all_map,List.all_eq_true,C.j7]
   |arr sz es=>rfl
   |set ks=>rfl
   |buf E s=>rfl
   |b' E c=>exact C.j7 c
   |cA sz es i o c=>exact C.j7 c
 . grind
 rintro e w' ⟨v,ff,ap,bT,J',N',rfl,ce,h1,M,L,U,bf,fo,fs⟩
 obtain⟨cq,bD⟩:=bD _ _ _ ce;have a9:∀b,B b->aE.B b\/aE.j9.heap.size<=b:=by
  rintro bv ⟨b,x,_,f,h0,rfl⟩
  exact R.own b x f h0
 have b0:Rel aE nt φ S env (pd J bs) n a w:=by
  have am:∀b x,aY (pd J bs) b=some x->b ∉ bs/\aY J b=some x:=by
   grind[r5]
  exact⟨⟨λb x f=>R.bR.blk b x (am b x f).2,λb D x y f G=>R.bR.inj b D x y (am b x f).2 (am D y G).2,R.bR.st⟩,R.gN,R.hK,R.gM,λb x f=>R.dV b x (am b x f).2,R.size,R.defers,R.ext,λb x f=>R.own b x (am b x f).2,R.fix,R.gO⟩
 have dt:∀b x,b ∉ bs->aY J b=some x->(φ b).2≠0->¬B (φ b).1:=by
  rintro b x t f h0 ⟨c,y,q,G,F,he⟩
  exact R.bR.inj b c x y f G (λe=>t (e▸q)) h0 F he
 have b1:=b0.aim bf L.st (λb x f h0=>by
  grind[r5]) a9
 let H:dz:=λb=>if key<=b/\b<key+16 then ap (bs.length+(b-key))else φ b
 have br:∀b,n b=true->H b=φ b:=by grind
 have N:∀b,lt N' b=true->H (back bs key b)=ap b:=by
  intro b W;simp only[lt,e4]at W;unfold back;grind
 have Z:∀b,lt N' b=true->eG n key (back bs key b)=true:=by
  intro b W;simp only[lt,e4]at W;unfold back;cases aq:bs[b]? with
  |some c=>exact me (t c (fl aq))
  |none=>
   simp only[Option.getD_none,eG,nB,c7,e4];right;omega
 have A:=b1.zp br;have Y:∀b x,aY (hr J bs (back bs key) J') b=some x->(∃c j,b=back bs key c/\aY J' c=some j/\x=j.cf (back bs key))\/(b ∉ bs/\aY J b=some x):=λb x f=>NA f;have X:∀b x,b ∉ bs->aY J b=some x->aY (pd J bs) b=some x:=by simp_all[r5,al]
 have a4:∀c j,aY J' c=some j->(H (back bs key c)).2≠0->B (H (back bs key c)).1\/w.heap.size<=(H (back bs key c)).1:=by
  intro c j q h0;rw[N c (by simp[lt];exact(U c j q).1)]at h0⊢;grind
 have bi:∀b x,b ∉ bs->aY J b=some x->(H b).2≠0->(H b).1<w.heap.size/\¬B (H b).1:=by
  intro b x t f h0;rw[br b (R.dV b x f).1]at h0⊢;exact⟨(R.bR.blk b x f).j6 h0,dt b x t f h0⟩
 refine⟨v,ff.cf (back bs key),H,bT,hr J bs (back bs key) J',rfl,bD,ck.cf N M h1,V.r7 Z M,⟨⟨λb x f=>?_,λb D x y f G a3 h0 F=>?_,L.st⟩,A.gN,A.hK,λk g v ah aq=>V.hv (λ_ h=>me h) (A.gM k g v ah aq),λb x f=>?_,A.size,A.defers,A.ext,λb x f h0=>?_,A.fix,λb W=>me (A.gO b W)⟩⟩
 . rcases Y b x f with⟨c,j,rfl,q,rfl⟩|⟨t,f⟩
   . have du:=L.blk c j q;have ax:=U c j q;have aM:=N c (by simp[lt];exact ax.1);cases j with
     |box cs=>
      obtain⟨a5,vs,E,k1,k2,k3⟩:=du;simp only[bV.cf,cW,aM];refine⟨a5,vs,E,k1,?_,k3⟩;have bb:=ax.2;simp only[bV.aF,gh]at bb;have:=k2.imp (R':=λc v=>bq H w' bT (C.cf (back bs key) c) v) λc v q eq=>bq.cf N (bb c q) eq;exact this.qy λ_ _ h=>h
     |arr sz es=>simp only[bV.cf,cW,aM];exact du
     |set ks=>simp only[bV.cf,cW,aM];exact du
     |buf E s=>simp only[bV.cf,cW,aM];exact du
     |b' E c=>
      obtain⟨a5,⟨p,v,k1,k2,k3⟩,k4⟩:=du;simp only[bV.cf,cW,aM];exact⟨a5,⟨p,v,k1,k2,bq.cf N (by simpa[bV.aF]using ax.2) k3⟩,k4⟩
     |cA sz es i o c=>
      obtain⟨h1,⟨vs,E,k1,k2,k3,v,k4,k5⟩,k6⟩:=du;simp only[bV.cf,cW,aM];exact⟨h1,⟨vs,E,k1,k2,k3,v,k4,bq.cf N (by simpa[bV.aF]using ax.2) k5⟩,k6⟩
   . exact A.bR.blk b x (X b x t f)
 . rcases Y b x f with⟨c,j,rfl,q,rfl⟩|⟨t,f⟩<;>rcases Y D y G with⟨O,an,rfl,a2,rfl⟩|⟨be,G⟩
   . have aM:=N c (by simp[lt];exact(U c j q).1);have b2:=N O (by simp[lt];exact(U O an a2).1);rw[aM]at h0⊢;rw[b2]at F⊢;exact L.inj c O j an q a2 (by rintro rfl;exact a3 rfl) h0 F
   . obtain⟨k1,k2⟩:=bi D y be G F;rcases a4 c j q h0 with h|h
     . intro e;rw[e]at h;exact k2 h
     . omega
   . obtain⟨k1,k2⟩:=bi b x t f h0;rcases a4 O an a2 F with h|h
     . intro e;rw[<-e]at h;exact k2 h
     . omega
   . exact A.bR.inj b D x y (X b x t f) (X D y be G) a3 h0 F
 . rcases Y b x f with⟨c,j,rfl,q,rfl⟩|⟨t,f⟩
   . obtain⟨k1,k2⟩:=U c j q;refine⟨Z c (by simp[lt];exact k1),?_⟩;cases j with
     |box cs=>
      simp only[bV.cf,bV.aF,List.all_map,gh]at k2⊢;intro c q;exact C.r7 Z (k2 c q)
     |arr sz es=>rfl
     |set ks=>rfl
     |buf E s=>rfl
     |b' E c=>simp only[bV.cf,bV.aF]at k2⊢;exact C.r7 Z k2
     |cA sz es i o c=>simp only[bV.cf,bV.aF]at k2⊢;exact C.r7 Z k2
   . obtain⟨k1,k2⟩:=A.dV b x (X b x t f);exact⟨me k1,bV.hv (λ_ h=>me h) k2⟩
 . rcases Y b x f with⟨c,j,rfl,q,rfl⟩|⟨t,f⟩
   . rcases a4 c j q h0 with h|h
     . exact a9 _ h
     . exact .inr (fg R.ext.size h)
   . exact A.own b x (X b x t f) h0
theorem hW.aiT{fn:Nat}{args:List V}(b7:bs.Nodup)(aC:∀b,b∈bs->b<key)(e:∀b,b∈bs->∃x,aY J b=some x)(h:ej P fn (args.map (V.bU bs)) (fF bs J 0 bs) bs.length Q){K:V->ba->Prop}
 (bD:∀r J' N',Q r J' N'->N'<=bs.length+16/\K (r.cf (back bs key)) (hr J bs (back bs key) J')):hW P fn args J key K:=by
 intro aE nt φ S env n a w R aJ c vs f;exact hW.raw b7 aC h bD (λb c=>let⟨x,j⟩:=e b c;(R.dV b x j).1) aE nt φ S _ a w R aJ c vs f
theorem Mp:∀{l:a7} {i:Nat} {J J':ba},(∀b,b∈l->aY J' b=aY J b)->fF bs J' i l=fF bs J i l
 |[],i,J,J',h=>rfl
 |b::r,i,J,J',h=>by
  simp[fF];rw[h b (by simp),Mp λc a=>h c (by grind)]
theorem Mq:∀{a:ba} {J J':ba} {c:Nat},(aY (pd J' bs) c=aY (pd J bs) c)->aY (hr J' bs f a) c=aY (hr J bs f a) c
 |[],J,J',c,h=>h
 |(b,x)::r,J,J',c,h=>by
  simp[hr,c0];split
  . rfl
  . exact Mq h
theorem HF{key:Nat}:∀{d:ba} {J:ba} {c:Nat},d.all (λx=>decide (x.1<bs.length+16))=true->c ∉ bs->¬(key<=c/\c<key+16)->aY (hr J bs (back bs key) d) c=aY J c
 |[],J,c,a,e,f=>by grind[hr,r5]
 |(b,x)::r,J,c,a,e,f=>by
  simp only[sa,c7]at a;simp[hr,c0];rw[al ?_]
  . exact HF a.2 e f
  grind[back]
end
variable {xb:a7}
section
variable {P:Program}{aE:Ctx}{nt kk:Nat}{φ:dz}{S:dS}{env env':Env}{J J' J1:ba}{N key:Nat}{n:Nat->Bool}{a:Act}{w:World}
theorem dr(h:∀t,t∈x.tmps->look env' t=look env t):x.get env'=x.get env:=by
 cases x with
 |const v=>rfl
 |tmp t=>grind[aU.get,aU.tmps]
theorem zE{xs:List aU}(h:∀t,t∈xs.flatMap aU.tmps->look env' t=look env t):hP env' xs=hP env xs:=by
 induction xs with
 |nil=>rfl
 |cons x xs ih=>
  grind[hP,dr]
theorem zF{x:Option aU}(h:∀t,t∈uK x->look env' t=look env t):j2 env' x=j2 env x:=by
 cases x with
 |none=>rfl
 |some x=>simp[j2];rw[dr h]
theorem Mr:∀{ps:List (Nat×Nat×aU)} {cs:List C},(∀t,t∈(ps.flatMap λp=>p.2.2.tmps)->look env' t=look env t)->lF env' cs ps=lF env cs ps
 |[],cs,h=>rfl
 |(o,k,x)::r,cs,h=>by
  simp[lF];rw[dr (λt ht=>h t (by grind))]
  congr 1;funext a;congr 1;funext c
  split
  . rw[Mr (λt ht=>h t (by grind))]
  rfl
theorem IM{sz:Nat}:∀{ps:List (Nat×aU)} {es:List (List T)},(∀t,t∈(ps.flatMap λp=>p.2.tmps)->look env' t=look env t)->jY env' sz es ps=jY env sz es ps
 |[],cs,h=>rfl
 |(i,x)::r,es,h=>by
  simp[jY];rw[dr (λt ht=>h t (by grind))]
  congr 1;funext a;congr 1;funext c;congr 1;funext ts
  split
  . rw[IM (λt ht=>h t (by grind))]
  rfl
theorem ade(h:∀t,t∈o.reads->look env' t=look env t):aT o env' J key=aT o env J key:=by
 cases o<;>simp only[cN.reads,hb]at h
 case mov x=>simp only[aT];rw[dr h]
 case pick c x y=>grind[aT,dr]
 case alloc=>rfl
 case box x=>simp only[aT];rw[dr h]
 case allocA=>rfl
 case b2s x=>simp only[aT];rw[dr h]
 case allocS=>rfl
 case mkset=>rfl
 case bsliceT e sz len z ps=>simp only[aT];congr 1;funext a;rw[IM h]
 case lkset x y=>simp only[aT];rw[dr λt ht=>h t (.inl ht),dr λt ht=>h t (.inr ht)]
 case upset x y=>simp only[aT];rw[dr λt ht=>h t (.inl ht),dr λt ht=>h t (.inr ht)]
 case appendB e k x y=>simp only[aT];rw[dr λt ht=>h t (.inl ht),dr λt ht=>h t (.inr ht)]
 case sdata x=>simp only[aT];rw[dr h]
 case ustr e x y=>simp only[aT];rw[dr λt ht=>h t (.inl ht),dr λt ht=>h t (.inr ht)]
 case idxP k x y=>simp only[aT];rw[dr λt ht=>h t (.inl ht),dr λt ht=>h t (.inr ht)]
 case slcP k x l i=>simp only[aT];rw[dr λt ht=>h t (.inl (.inl ht)),zF λt ht=>h t (.inl (.inr ht)),zF λt ht=>h t (.inr ht)]
 case build z ps=>simp only[aT];rw[Mr h]
 case bslice sz len z ps=>simp only[aT];congr 1;funext a;rw[IM h]
 case load g k x=>simp only[aT];rw[dr h]
 case store k x v=>simp only[aT];rw[dr λt ht=>h t (.inl ht),dr λt ht=>h t (.inr ht)]
 case nilCheck x=>simp only[aT];rw[dr h]
 case bin op x y=>simp only[aT];rw[dr λt ht=>h t (.inl ht),dr λt ht=>h t (.inr ht)]
 case eqAgg op ks x y=>simp only[aT];rw[dr λt ht=>h t (.inl ht),dr λt ht=>h t (.inr ht)]
 case eqBool op x y=>simp only[aT];rw[dr λt ht=>h t (.inl ht),dr λt ht=>h t (.inr ht)]
 case eqNil=>rfl
 case not x=>simp only[aT];rw[dr h]
 case conv k x=>simp only[aT];rw[dr h]
 case i2s x=>simp only[aT];rw[dr h]
 case s2s x=>simp only[aT];rw[dr h]
 case fldA k x=>simp only[aT];rw[dr h]
 case fld g k m x=>simp only[aT];rw[dr h]
 case idxA op x y=>simp only[aT];rw[dr λt ht=>h t (.inl ht),dr λt ht=>h t (.inr ht)]
 case idxV op x y=>simp only[aT];rw[dr λt ht=>h t (.inl ht),dr λt ht=>h t (.inr ht)]
 case mslice op _ z x=>simp only[aT];rw[dr h]
 case idxS x y=>simp only[aT];rw[dr λt ht=>h t (.inl ht),dr λt ht=>h t (.inr ht)]
 case slcS x l i=>simp only[aT];rw[dr λt ht=>h t (.inl (.inl ht)),zF λt ht=>h t (.inl (.inr ht)),zF λt ht=>h t (.inr ht)]
 case slc k x l i=>grind[aT,dr,zF]
 case slc0 x=>simp only[aT];rw[dr h]
 case mkfn f xs=>simp only[aT];rw[zE h]
 case ext x i=>simp only[aT];rw[dr h]
 case len s x=>grind[aT,dr]
 case append sz by' x y=>simp only[aT];rw[dr λt ht=>h t (.inl ht),dr λt ht=>h t (.inr ht)]
 case max2 x y=>simp only[aT];rw[dr λt ht=>h t (.inl ht),dr λt ht=>h t (.inr ht)]
 case min2 x y=>grind[aT,dr]
 case call=>rfl
 rfl
def eh(env:Env)(x:aU):a7:=
 match x.get env with
 |some (_,.c (.ptr b _))=>[b]
 |some (_,.c (.cH b _ _ _))=>[b]
 |some (_,.c (.arr b _ _ _))=>[b]
 |some (_,.c (.fI b _ _ _))=>[b]
 |some (_,.c (.mp b))=>[b]
 |some (_,.c (.ev b))=>[b]
 |some (_,.c (.cL b _))=>[b]
 |_=>[]
def C.fZ:C->a7
 |.ptr b _|.cH b _ _ _|.arr b _ _ _|.fI b _ _ _|.mp b|.ev b|.cL b _=>[b]
 |.fn _ caps=>caps
 |_=>[]
def V.fZ:V->a7
 |.c x=>x.fZ
 |.agg cs=>cs.flatMap C.fZ
 |.a6 _=>[]
def lo(env:Env)(args:List aU):a7:=
 args.flatMap λx=>match x.get env with
  |some (_,v)=>v.fZ
  |none=>[]
def eo(xb:a7)(o:cN)(env:Env)(key:Nat):a7:=
 match o with
 |.alloc _|.allocA _|.box _|.bslice .. |.mslice .. |.mkset=>[key]
 |.allocS .. =>[key,key+1]
 |.lkset x _=>eh env x
 |.upset x _=>eh env x
 |.appendB _ _ x _=>key::eh env x
 |.ustr _ x _=>eh env x
 |.call _ args=>(List.range 16).map (key+·)++(lo env args++xb)
 |.load _ _ x=>eh env x
 |.b2s x=>eh env x
 |.store _ x _=>eh env x
 |.append _ _ x y=>key::(eh env x++eh env y)
 |_=>[]
def cF(xb:a7)(o:cN)(env:Env)(key b:Nat):Bool:=
 match o with
 |.alloc _|.allocA _|.box _|.bslice .. |.mslice .. |.mkset=>b==key
 |.allocS .. =>b==key||b==key+1
 |.upset x _=>(eh env x).contains b
 |.appendB _ _ x _=>b==key||(eh env x).contains b
 |.ustr _ x _=>(eh env x).contains b
 |.store _ x _=>(eh env x).contains b
 |.append _ _ x _=>b==key||(eh env x).contains b
 |.call _ args=>(decide (key<=b)&&decide (b<key+16))||(lo env args++xb).contains b
 |_=>false
theorem aag(aJ:o.neutral=true)(ht:o.ib=false){p v J1}(a:aT o env J key=some (p,v,J1)):aT o env J' key=some (p,v,J'):=by
 cases o<;>simp only[cN.neutral,cN.ib,reduceCtorEq]at aJ ht<;>simp only[aT,bo,bB]at a⊢
 all_goals
  (try (obtain⟨a1,h1,a⟩:=a;refine⟨a1,h1,?_⟩))
  (try (obtain⟨a2,b,a⟩:=a;refine⟨a2,b,?_⟩))
  (try (obtain⟨a3,c,a⟩:=a;refine⟨a3,c,?_⟩))
  (try split at a)
  (try (done))
 all_goals first
  |(cases a;rfl)
  |(cases a;done)
  |(exact⟨x,h1,b,c,rfl⟩)
  |(simp only[bB]at a⊢;obtain⟨x,h1,b⟩:=a;simp only[dY]at b⊢;exact⟨x,h1,b.1,b.2.1,trivial⟩)
  |(simp only[eF,dF,dY]at a⊢;exact⟨a.1,a.2.1,a.2.2.1,trivial⟩)
theorem Ox{b:Nat}(h:x.get env=some (p,.c (.mp b))):eh env x=[b]:=by grind[eh]
theorem aas{b:Nat}(h:x.get env=some (p,.c (.ev b))):eh env x=[b]:=by grind[eh]
theorem aat{b l:Nat}(h:x.get env=some (p,.c (.cL b l))):eh env x=[b]:=by grind[eh]
theorem NB{b o:Nat}(h:x.get env=some (p,.c (.ptr b o))):eh env x=[b]:=by grind[eh]
theorem Ng{b sz i o:Nat}(h:x.get env=some (p,.c (.cH b sz i o))):eh env x=[b]:=by grind[eh]
theorem acL{b sz i o:Nat}(h:x.get env=some (p,.c (.fI b sz i o))):eh env x=[b]:=by grind[eh]
theorem EO{b sz i o:Nat}(h:x.get env=some (p,.c (.arr b sz i o))):eh env x=[b]:=by grind[eh]
theorem aau{p v}(a:aT o env J key=some (p,v,J1))(ht:∀b,b∈eo xb o env key->aY J' b=aY J b):
 (∃br,aT o env J' key=some (p,v,br)/\∀b,aY br b=if cF xb o env key b then aY J1 b else aY J' b)/\∀b,cF xb o env key b=false->aY J1 b=aY J b:=by
 by_cases I:o.neutral=true/\o.ib=false
 . have ab:∀b,cF xb o env key b=false:=by intro b;cases o<;>simp only[cN.neutral,cN.ib,reduceCtorEq,bW,false_and,oS,and_self]at I<;>rfl
   have:=Ai I.1 a;subst this;exact⟨⟨J',aag I.1 I.2 a,λb=>by grind⟩,λb _=>rfl⟩
 . cases o<;>simp only[cN.neutral,cN.ib,reduceCtorEq,bW,false_and,oS,and_self,not_true,not_false_eq_true]at I
   case alloc cs=>
    simp only[aT,dF,dY]at a⊢;obtain⟨rfl,rfl,rfl⟩:=a;refine⟨⟨_,⟨rfl,rfl,rfl⟩,λb=>?_⟩,λb f=>?_⟩
    . simp only[c0,cF,jC];grind
    simp_all[cF,k',c0,al,dZ]
   case allocA cs=>
    simp only[aT,bB,dY]at a⊢;obtain⟨ts,Y,rfl,rfl,rfl⟩:=a;refine⟨⟨_,⟨ts,Y,rfl,rfl,rfl⟩,λb=>?_⟩,λb f=>?_⟩
    . simp only[c0,cF,jC];grind
    simp_all[cF,k',c0,al,dZ]
   case b2s x=>
    simp only[aT,bo,bB,dY]at a⊢;obtain⟨⟨n,v0⟩,h1,⟨q,s⟩,j,rfl,rfl,rfl⟩:=a;refine⟨⟨J',⟨(n,v0),h1,(q,s),?_,rfl,rfl,rfl⟩,λb=>rfl⟩,λb _=>rfl⟩;dsimp only at j⊢;unfold nU at j⊢;split at j
    . grind
    . grind
    . rename_i b off len;rw[ht b (by simp[eo,EO h1])];grind
    . rename_i b off len;rw[ht b (by simp[eo,acL h1])];grind
    grind
   case box x=>
    simp only[aT,bo,bB,dY]at a⊢;obtain⟨K,h1,cs,j,rfl,rfl,rfl⟩:=a;refine⟨⟨_,⟨K,h1,cs,j,rfl,rfl,rfl⟩,λb=>?_⟩,λb f=>?_⟩
    . simp only[c0,cF,jC];grind
    simp_all[cF,k',c0,al,dZ]
   case bslice sz len z ps=>
    simp only[aT,bo,bB,dY]at a⊢;obtain⟨K,h1,cs,j,rfl,rfl,rfl⟩:=a;refine⟨⟨_,⟨K,h1,cs,j,rfl,rfl,rfl⟩,λb=>?_⟩,λb f=>?_⟩
    . simp only[c0,cF,jC];grind
    simp_all[cF,k',c0,al,dZ]
   case mslice sz by' z x=>
    simp only[aT,bo]at a⊢;obtain⟨K,h1,cs,j,a⟩:=a;split at a
    . rename_i he;simp only[dF,dY]at a;obtain⟨rfl,rfl,rfl⟩:=a;refine⟨⟨_,⟨K,h1,cs,j,by rw[he]⟩,λb=>?_⟩,λb f=>?_⟩
      . simp only[c0,cF,jC];grind
      simp_all[cF,k',c0,al,dZ]
    . cases a
   case load g k x=>
    have:=Ai rfl a;subst this;refine⟨⟨J',?_,λb=>rfl⟩,λb _=>rfl⟩;simp only[aT,bo]at a⊢;obtain⟨⟨n,v0⟩,h1,a⟩:=a;refine⟨(n,v0),h1,?_⟩;dsimp only at a⊢;split at a
    . rename_i b o;rw[ht b (by simp[eo,NB h1])];split at a
      all_goals simp_all
    . rename_i b sz i o;rw[ht b (by simp[eo,Ng h1])];split at a
      . simp_all
      . split at a
        . grind
        . rename_i aq;split at a
          all_goals simp_all
      grind
    all_goals simp_all
   case store k x y=>
    simp only[aT,bo,eF]at a⊢;obtain⟨⟨n,v0⟩,h1,d,j,cs,w,F,a⟩:=a;have D:∀(b:Nat) (O:bV),eh env x=[b]->J1=c9 J b O->(∀c,aY (c9 J' b O) c=if cF xb (.store k x y) env key c then aY J1 c else aY J' c)/\∀c,cF xb (.store k x y) env key c=false->aY J1 c=aY J c:=by
     intro b O f hs;subst hs;refine⟨λc=>?_,λc l=>?_⟩
     . simp only[cF,f,my,la,jd,jC,c0];grind
     . simp only[cF,f,my,la,jd,k']at l;rw[c0,al (dZ l)]
    dsimp only at a⊢;split at a
    . rename_i b o;have f:=NB h1;split at a
      . rename_i aa M;simp only[eF,dF,dY]at a;obtain⟨bf,rfl,rfl,B⟩:=a;obtain⟨f1,f2⟩:=D b _ f B.symm;refine⟨⟨_,⟨(n,.c (.ptr b o)),h1,d,j,cs,w,F,?_⟩,f1⟩,f2⟩;dsimp only;rw[ht b (by simp[eo,f]),M];dsimp only;rw[ae bf]
      . rename_i E U M;split at a
        . rename_i c;simp only[dF,dY]at a;obtain⟨rfl,rfl,B⟩:=a;obtain⟨f1,f2⟩:=D b _ f B.symm;refine⟨⟨_,⟨(n,.c (.ptr b 1)),h1,d,j,_,w,F,?_⟩,f1⟩,f2⟩;dsimp only;rw[ht b (by simp[eo,f]),M];rfl
        . cases a
      . cases a
    . rename_i b sz i o;have f:=Ng h1;split at a
      . rename_i L es A;split at a
        . rename_i c l;simp only[dF,dY]at a;obtain⟨rfl,rfl,B⟩:=a;obtain⟨f1,f2⟩:=D b _ f B.symm;refine⟨⟨_,⟨(n,.c (.cH b sz i o)),h1,d,j,cs,w,F,?_⟩,f1⟩,f2⟩;dsimp only;rw[ht b (by simp[eo,f]),A];dsimp only;rw[l]
        rename_i l;simp only[bo,dF,dY]at a;obtain⟨ts,bf,rfl,rfl,B⟩:=a;obtain⟨f1,f2⟩:=D b _ f B.symm;refine⟨⟨_,⟨(n,.c (.cH b sz i o)),h1,d,j,cs,w,F,?_⟩,f1⟩,f2⟩;dsimp only;rw[ht b (by simp[eo,f]),A];dsimp only;rw[l];dsimp only;rw[bf];rfl
      . rename_i L es ad af U A;split at a
        . rename_i c;split at a
          . rename_i N;simp only[dF,dY]at a;obtain⟨rfl,rfl,B⟩:=a;obtain⟨f1,f2⟩:=D b _ f B.symm;refine⟨⟨_,⟨(n,.c (.cH b sz i o)),h1,d,j,_,w,F,?_⟩,f1⟩,f2⟩;dsimp only;rw[ht b (by simp[eo,f]),A];dsimp only;rw[ae N]
          . rename_i N;simp only[bo,dF,dY]at a;obtain⟨t,bf,rfl,rfl,B⟩:=a;obtain⟨f1,f2⟩:=D b _ f B.symm;refine⟨⟨_,⟨(n,.c (.cH b sz i o)),h1,d,j,_,w,F,?_⟩,f1⟩,f2⟩;dsimp only;rw[ht b (by simp[eo,f]),A];dsimp only;rw[al N,bf];rfl
        . cases a
      . cases a
    . cases a
   case append sz by' x y=>
    simp only[aT,bo]at a⊢;obtain⟨⟨n,v0⟩,h1,⟨d1,d2⟩,j,a⟩:=a;dsimp only at a;cases G:oZ v0 d2 with
    |some r=>
     rw[G]at a;have H:=G;unfold oZ at H;split at H
     . rename_i b s1 off len T Z S R;split at H
       . cases H;have C:=EO h1;dsimp only at a;unfold vl at a;dsimp only at a;split at a
         . rename_i ag es A;simp only[dF,dY]at a;obtain⟨rfl,rfl,rfl⟩:=a;refine⟨⟨c9 (ia J' b) key (.arr sz (es.take len++(es.drop S).take R)),⟨(n,.c (.arr b s1 off len)),h1,(d1,.c (.fI T Z S R)),j,?_⟩,λc=>?_⟩,λc l=>?_⟩
           . dsimp only;rw[G];dsimp only;unfold vl;dsimp only;rw[ht b (by simp[eo,C]),A]
           . simp only[c0,fN,cF,C,my,la,jd,nB,jC];by_cases h:c=key
             . subst h;simp
             . rw[al (dZ h)];by_cases u:c=b
               . subst u;simp[h,dZ h]
               . rw[al (dZ u),al (by simp[h,u])]
           . simp only[cF,C,my,la,jd,yU,k']at l;rw[c0,fN,al (dZ l.1),al (dZ l.2)]
         . cases a
       . cases H
     . cases H
    |none=>
    rw[G]at a;simp only[bo]at a;obtain⟨P,w,a⟩:=a;have Q:mJ J' d2=some P:=by
     unfold mJ at w⊢;split at w
     . exact w
     . exact w
     . rename_i b L off len;rw[ht b (by simp[eo,EO j])];exact w
     . cases w
    split at a
    . have C:eh env x=[]:=(by simp[eh,h1]);simp only[dF,dY]at a;obtain⟨rfl,rfl,rfl⟩:=a;refine⟨⟨_,⟨(n,.c .aA),h1,(d1,d2),j,by dsimp only;rw[G];simp only[bo];exact⟨P,Q,rfl⟩⟩,λb=>?_⟩,λb f=>?_⟩
      . simp only[c0,cF,C,la,jd,jC];by_cases h:b=key
        . subst h;simp
        . rw[al (dZ h),al h]
      . simp only[cF,C,la,jd,k']at f;rw[c0,al (dZ f)]
    . rename_i b L off len;have C:=EO h1;split at a
      . rename_i ah es A;split at a
        . cases a
        . rename_i X;simp only[dF,dY]at a;obtain⟨rfl,rfl,rfl⟩:=a
          refine⟨⟨_,⟨(n,.c (.arr b L off len)),h1,(d1,d2),j,by
           dsimp only;rw[G];simp only[bo];refine⟨P,Q,?_⟩;rw[ht b (by simp[eo,C]),A];dsimp only
           rw[al X]⟩,λc=>?_⟩,λc l=>?_⟩
          . simp only[c0,fN,cF,C,my,la,jd,nB,jC];by_cases h:c=key
            . subst h;simp
            . rw[al (dZ h)];by_cases u:c=b
              . subst u;simp[h,dZ h]
              . rw[al (dZ u),al (by simp[h,u])]
          . simp only[cF,C,my,la,jd,yU,k']at l;rw[c0,fN,al (dZ l.1),al (dZ l.2)]
      . cases a
    . cases a
   case allocS e e8=>
    simp only[aT,dF,dY]at a⊢;obtain⟨rfl,rfl,rfl⟩:=a;refine⟨⟨_,⟨rfl,rfl,rfl⟩,λb=>?_⟩,λb f=>?_⟩
    . simp only[c0,cF,nB,jC];by_cases h:key=b
      . rw[ae h,ae (.inl h.symm),ae h]
      . rw[al h];by_cases u:key+1=b
        . rw[ae u,ae (.inr u.symm),al h,ae u]
        . rw[al u,bl]
    . simp only[cF,yU,k']at f;rw[c0,al (dZ f.1),c0,al (dZ f.2)]
   case mkset=>
    simp only[aT,dF,dY]at a⊢;obtain⟨rfl,rfl,rfl⟩:=a;refine⟨⟨_,⟨rfl,rfl,rfl⟩,λb=>?_⟩,λb f=>?_⟩
    . simp only[c0,cF,jC];by_cases h:b=key
      . subst h;simp
      . rw[al (dZ h),al h]
    . simp only[cF,k']at f;rw[c0,al (dZ f)]
   case lkset x y=>
    have:=Ai rfl a;subst this;refine⟨⟨J',?_,λb=>rfl⟩,λb _=>rfl⟩;simp only[aT,bo]at a⊢;obtain⟨⟨n,v0⟩,h1,⟨d1,d2⟩,j,a⟩:=a;refine⟨(n,v0),h1,(d1,d2),j,?_⟩;dsimp only at a⊢;split at a
    . rename_i b s;rw[ht b (by simp[eo,Ox h1])];split at a
      . simp only[dF,dY]at a⊢;exact⟨a.1,a.2.1,trivial⟩
      . cases a
    . cases a
   case upset x y=>
    simp only[aT,bo]at a⊢;obtain⟨⟨n,v0⟩,h1,⟨d1,d2⟩,j,a⟩:=a;dsimp only at a⊢;split at a
    . rename_i b s;have f:=Ox h1;split at a
      . rename_i ks W;simp only[dF,dY]at a;obtain⟨rfl,rfl,rfl⟩:=a
        refine⟨⟨_,⟨(n,.c (.mp b)),h1,(d1,.c (.t (.str s))),j,by
         dsimp only
         rw[ht b (by simp[eo,f]),W]⟩,λc=>?_⟩,λc l=>?_⟩
        . simp only[cF,f,my,la,jd,jC,c0];by_cases h:c=b
          . subst h;simp
          . rw[al (dZ h),al h]
        . simp only[cF,f,my,la,jd,k']at l;rw[c0,al (dZ l)]
      . cases a
    . cases a
   case appendB e by' x y=>
    simp only[aT,bo]at a⊢;obtain⟨⟨n,v0⟩,h1,⟨d1,d2⟩,j,a⟩:=a;dsimp only at a⊢;split at a
    . rename_i b len s;have f:=aat h1;split at a
      . rename_i V es A;simp only[dF,dY]at a;obtain⟨rfl,rfl,rfl⟩:=a
        refine⟨⟨_,⟨(n,.c (.cL b len)),h1,(d1,.c (.t (.str s))),j,by
         dsimp only
         rw[ht b (by simp[eo,f]),A]⟩,λc=>?_⟩,λc l=>?_⟩
        . simp only[c0,fN,cF,f,my,la,jd,nB,jC];by_cases h:c=key
          . subst h;simp
          . rw[al (dZ h)];by_cases u:c=b
            . subst u;simp[h,dZ h]
            . rw[al (dZ u),al (by simp[h,u])]
        . simp only[cF,f,my,la,jd,yU,k']at l;rw[c0,fN,al (dZ l.1),al (dZ l.2)]
      . cases a
    . cases a
   case ustr e x y=>
    simp only[aT,bo]at a⊢;obtain⟨⟨n,v0⟩,h1,⟨d1,d2⟩,j,a⟩:=a;dsimp only at a⊢;split at a
    . rename_i b m;have f:=aas h1;split at a
      . rename_i V es A;simp only[dF,dY]at a;obtain⟨rfl,rfl,rfl⟩:=a
        refine⟨⟨_,⟨(n,.c (.ev b)),h1,(d1,.c (.t (.int .i64 m))),j,by
         dsimp only
         rw[ht b (by simp[eo,f]),A]⟩,λc=>?_⟩,λc l=>?_⟩
        . simp only[fN,cF,f,my,la,jd,jC];by_cases h:c=b
          . subst h;simp
          . rw[al (dZ h),al h]
        . simp only[cF,f,my,la,jd,k']at l;rw[fN,al (dZ l)]
      . cases a
    . cases a
   all_goals simp[aT]at a
inductive DStep (xb:a7)(P:Program)(o:ca)(key:Nat)(env:Env)(J:ba)(g:Bool)(v:V):ba->Prop
 |op {p:Prop} {J2:ba} (aq:gb env o.guard = some g) (ajR:o.op.drawn = true) (yE:aT o.op env J key = some (p,v,J2)) (Cz:g = true->p) (ajV:o.op.neutral = true\/g = true):
  DStep xb P o key env J g v (if o.op.neutral then J else J2)
 |skip (aq:gb env o.guard=some g) (ajS:g=false):DStep xb P o key env J g v J
 |call {p:Prop} {f:Nat} {args:List aU} {vs:List V} (Gb:o.op = .call f args) (aq:gb env o.guard = some g) (yE:hP env args = some (p,vs)) (Cz:g = true->p/\V.aF.V.dC (lt 0) vs = true/\v.aF (lt 0) = true/\ej P f vs [] 0 (λuX _ _=>uX = v)):
  DStep xb P o key env J g v J
 |ic {p q:Prop} {f:Nat} {x:aU} {args:List aU} {vs:List V} (Gb:o.op = .ic x args) (aJ:o.guard = none) (aiy:g = true) (aj0:x.get env = some (q, .c (.fn f []))) (ajW:q) (yF:hG P f = true) (yE:hP env args = some (p,vs))
  (Cz:p/\V.aF.V.dC (lt 0) vs=true/\v.aF (lt 0)=true/\ej P f vs [] 0 (λuX _ _=>uX=v)):DStep xb P o key env J g v J
 |own {p:Prop} {f:Nat} {args:List aU} {vs:List V} {r:V} {s:ba} {M:Nat} (Gb:o.op = .call f args) (aq:gb env o.guard = some g) (aJ:o.guard = none) (yE:hP env args = some (p,vs)) (Cz:p) (yF:V.aF.V.dC (lt 0) vs = true) (aix:M<=16) (hk:s.all (λx=>x.1<16) = true)
  (Ux:ej P f vs [] 0 (λuX G4 FE=>uX=r/\G4=s/\FE=M)) (Uy:v=r.bK key):DStep xb P o key env J g v (mO J key s)
 |raw {p:Prop} {f:Nat} {args:List aU} {vs:List V} {bs:a7} {r:V} {s:ba} {M:Nat} (Gb:o.op = .call f args) (aq:gb env o.guard = some g) (aiy:g = true) (yE:hP env args = some (p,vs)) (Cz:p)
  (b7:bs.Nodup) (aC:∀b,b∈bs->b<key) (ajT:∀b,b∈bs->∃x,aY J b=some x) (ajY:∀b,b∈bs->b∈lo env args++xb) (aix:M<=bs.length+16) (hk:s.all (λx=>decide (x.1<bs.length+16))=true)
  (Ux:ej P f (vs.map (V.bU bs)) (fF bs J 0 bs) bs.length (λuX G4 FE=>uX=r/\G4=s/\FE=M)) (Uy:v=r.cf (back bs key)):DStep xb P o key env J g v (hr J bs (back bs key) s)
theorem DStep.hn{o:ca}{g:Bool}(h:DStep xb P o key env J g v J1)(bD:K (er env o.dst g v) J1):hn P o key env J K:=by
 cases h with
 | @op p J2 aq G c e L=>
  grind[Shv.hn,aT]
 |skip aq H=>
  grind[Shv.hn]
 | @call p f args vs a aq c e=>
  unfold Shv.hn;grind[hW.UM]
 | @ic p q f x args vs a aJ y Q N w c e=>
  grind[Shv.hn,gb,hW.UM]
 | @raw p f args vs bs r s M a aq y c e b7 aC A O t B j D=>
  unfold Shv.hn;rw[a];dsimp;have F:hW P f vs J key (λE J'=>K (er env o.dst true E) J'):=by
   refine hW.aiT b7 aC A j ?_;grind
  grind
 | @own p f args vs r s M a aq aJ c e w t B j D=>
  unfold Shv.hn;rw[aq];rw[a];grind[gb,hW.aiS]
theorem Oy{o:ca}{t:Nat}(h:t∈o.op.reads):t∈o.rd:=by grind[ca.rd]
theorem Al{o:ca}(h:∀t,t∈o.rd->look env' t=look env t):gb env' o.guard=gb env o.guard:=by
 grind[gb,ca.rd]
theorem Hx{s:ba}(d:s.all (λx=>x.1<16)=true){b:Nat}(a:¬(key<=b/\b<key+16))(J:ba):aY (mO J key s) b=aY J b:=by
 rw[zD];by_cases h:key<=b
 . have:aY s (b-key)=none:=by
    cases hs:aY s _ with
    |none=>rfl
    |some x=>
     have:∀{s:ba} {c:Nat} {x:bV},aY s c=some x->s.all (λx=>x.1<16)=true->c<16:=by
      induction s with
      |nil=>grind[aY]
      |cons y r ih=>
       grind[aY]
     grind
   grind
 grind
theorem ly(h:∀t,t∈x.tmps->look env' t=look env t):eh env' x=eh env x:=by
 unfold eh;rw[dr h]
theorem Ie{args:List aU}(h:∀t,t∈args.flatMap aU.tmps->look env' t=look env t):lo env' args=lo env args:=by
 induction args with
 |nil=>rfl
 |cons x r ih=>
  grind[lo,dr]
theorem acM(h:∀t,t∈o.reads->look env' t=look env t)(b:Nat):cF xb o env' key b=cF xb o env key b:=by
 cases o<;>try rfl
 case store k x v=>grind[cF,ly,cN.reads]
 case append sz by' x y=>grind[cF,ly,cN.reads]
 case upset x y=>grind[cF,ly,cN.reads]
 case appendB e k x y=>grind[cF,ly,cN.reads]
 case ustr e x y=>grind[cF,ly,cN.reads]
 case call f args=>simp[cF];rw[Ie h]
theorem acN(h:∀t,t∈o.reads->look env' t=look env t):eo xb o env' key=eo xb o env key:=by
 cases o<;>try rfl
 case b2s x=>grind[eo,ly,cN.reads]
 case load g k x=>grind[eo,ly,cN.reads]
 case store k x v=>grind[eo,ly,cN.reads]
 case lkset x y=>grind[eo,ly,cN.reads]
 case upset x y=>grind[eo,ly,cN.reads]
 case appendB e k x y=>grind[eo,ly,cN.reads]
 case ustr e x y=>grind[eo,ly,cN.reads]
 case call f args=>simp[eo];rw[Ie h]
 grind[eo,ly,cN.reads]
theorem DStep.local{o:ca}{g:Bool}(h:DStep xb P o key env J g v J1)(he:∀t,t∈o.rd->look env' t=look env t)(ht:∀b,b∈eo xb o.op env key\/cF xb o.op env key b=true->aY J' b=aY J b):
 (∃br,DStep xb P o key env' J' g v br/\∀b,aY br b=if cF xb o.op env key b then aY J1 b else aY J' b)/\∀b,cF xb o.op env key b=false->aY J1 b=aY J b:=by
 have B:=λt h=>he t (Oy h);cases h with
 | @op p J2 aq Q y w U=>
  obtain⟨⟨br,h1,L⟩,N⟩:=aau (J':=J') y (λb c=>ht b (.inl c));have aJ:o.op.neutral=true->∀b,cF xb o.op env key b=false:=by intro aJ b;generalize o.op=Y at aJ;cases Y<;>simp[cN.neutral]at aJ<;>rfl
  refine⟨⟨_,DStep.op (J2:=br) (p:=p) (by rw[Al he];exact aq) Q (by rw[ade B];exact h1) w U,λb=>?_⟩,λb c=>?_⟩
  . by_cases A:o.op.neutral=true
    . rw[ae A,aJ A b];rfl
    . rw[al A,al A];exact L b
  . by_cases A:o.op.neutral=true
    . rw[ae A]
    . rw[al A];exact N b c
 |skip aq S=>
  refine⟨⟨J',DStep.skip (by rw[Al he];exact aq) S,λb=>?_⟩,λb _=>rfl⟩;split
  . rename_i j;exact ht b (.inr j)
  . rfl
 | @call p f args vs a aq y w=>
  refine⟨⟨J',DStep.call a (by rw[Al he];exact aq) (by rw[zE λt h=>B t (by rw[a];exact h)];exact y) w,λb=>?_⟩,λb _=>rfl⟩;split
  . rename_i j;exact ht b (.inr j)
  . rfl
 | @ic p q f x args vs a aJ G X W c y w=>
  refine⟨⟨J',DStep.ic a aJ G (by rw[dr λt h=>B t (by rw[a];simp[cN.reads,h])];exact X) W c (by rw[zE λt h=>B t (by rw[a];simp only[cN.reads,hb];exact .inr h)];exact y) w,λb=>?_⟩,λb _=>rfl⟩;split
  . rename_i j;exact ht b (.inr j)
  . rfl
 | @own p f args vs r s M a aq aJ y w c F D K H=>
  refine⟨⟨_,DStep.own a (by rw[Al he];exact aq) aJ (by rw[zE λt h=>B t (by rw[a];exact h)];grind) w c F D K H,λb=>?_⟩,λb O=>?_⟩
  . by_cases E:key<=b/\b<key+16
    . have j:cF xb o.op env key b=true:=by rw[a];simp[cF,E.1,E.2]
      rw[ae j];have e:=ht b (.inr j);rw[zD,zD,e]
    . rw[Hx D E];split
      . rename_i j;rw[Hx D E];exact ht b (.inr j)
      . rfl
  grind[cF,Hx]
 | @raw p f args vs bs r s M a aq G y w b7 aC Z ah F D K H=>
  have am:∀b,b∈lo env args++xb->b∈eo xb o.op env key:=by intro b c;rw[a];simp only[eo,hb];exact .inr (hb.1 c)
  have R:∀t,t∈args.flatMap aU.tmps->look env' t=look env t:=λt h=>B t (by rw[a];exact h)
  refine⟨⟨_,DStep.raw (bs:=bs) a (by rw[Al he];exact aq) G (by rw[zE R];omega) w b7 aC (λb c=>by grind) (λb c=>by grind[Ie]) F D
   (by grind[Mp]) H,λb=>?_⟩,λb O=>?_⟩
  . by_cases j:cF xb o.op env key b=true
    . grind[Mq,r5]
    . grind[cF,Bool.or_eq_false_iff,Bool.and_eq_false_iff,decide_eq_false_iff_not,HF]
  grind[cF,Bool.or_eq_false_iff,Bool.and_eq_false_iff,decide_eq_false_iff_not,HF]
def x8(xb:a7)(P:Program):List ca->Nat->Env->ba->(Env->ba->Prop)->Prop
 |[],_,env,J,K=>K env J
 |o::r,key,env,J,K=>∃g v J1,DStep xb P o key env J g v J1/\x8 xb P r (key+16) (er env o.dst g v) J1 K
structure o2 (xb:a7)(P:Program)(bb:List ca)(N:Nat)(E:Nat->Env)(T:Nat->ba)(G:Nat->Bool)(W:Nat->V):Prop where
 step:∀(i:Nat) o,bb[i]?=some o->DStep xb P o (N+16*i) (E i) (T i) (G i) (W i) (T (i+1))/\E (i+1)=er (E i) o.dst (G i) (W i)
theorem Jq:∀{bb:List ca} {key:Nat} {env:Env} {J:ba} {K:Env->ba->Prop},x8 xb P bb key env J K->∃E T G W,o2 xb P bb key E T G W/\E 0=env/\T 0=J/\K (E bb.length) (T bb.length)
 |[],key,env,J,K,h=>⟨λ_=>env,λ_=>J,λ_=>true,λ_=>.a6 [],⟨λi o h=>by grind⟩,rfl,rfl,h⟩
 |o::r,key,env,J,K,h=>by
  obtain⟨g,v,J1,h1,a⟩:=h;obtain⟨E,T,G,W,b,aM,d,bD⟩:=Jq a;refine⟨λi=>if i=0 then env else E (i-1),λi=>if i=0 then J else T (i-1),λi=>if i=0 then g else G (i-1),λi=>if i=0 then v else W (i-1),⟨λi c e=>?_⟩,rfl,rfl,by grind⟩;cases i with
  |zero=>grind
  |succ i=>
   have:=b.step i c (by grind);grind
end
end
section
open Go
variable {xb:a7}
variable{p:Nat->Bool}{j:Nat}{L:List (ca×a7)}{o:cN}{env:Env}{a:Act}{S:dS}{φ:dz}{w:World}{J:ba}{D:Nat->a7}{listed:Array Bool}{Q:Exit->Act->World->Prop}
theorem KE:∀{m:Nat},(∃i,i<m/\p i=true)->∃i,i<m/\p i=true/\∀j,j<m->p j=true->j<=i
 |0,⟨i,h,_⟩=>by omega
 |m+1,⟨i,h1,a⟩=>by
  cases d:p m with
  |true=>grind
  |false=>
   have:i<m:=(by grind);obtain⟨k,b,c,bf⟩:=KE ⟨i,this,a⟩;grind
theorem zb{P:Program}{nt:Nat}{ops:Array Oper}:∀{l:List Oper} {bb:List ca},jt P nt ops l=some bb->bb.length=l.length
 |[],bb,h=>by grind[jt]
 |o::l,bb,h=>by
  simp[jt,bo,bB]at h;obtain⟨b,c,r,a,rfl⟩:=h;simp[zb a]
theorem HG{P:Program}{nt:Nat}{ops:Array Oper}:∀{l:List Oper} {bb:List ca} {i:Nat} {o:Oper},jt P nt ops l=some bb->l[i]?=some o->∃a,bb[i]?=some a/\wc P nt ops o=some a
 |[],bb,i,o,h,b=>by grind
 |x::l,bb,i,o,h,b=>by
  simp[jt,bo,bB]at h;obtain⟨a,d,r,c,rfl⟩:=h;cases i with
  |zero=>grind
  |succ i=>simpa using HG c (by grind)
theorem IN:∀{l:List (ca×a7)} {k i:Nat} {x:ca×a7},El k l=true->l[i]?=some x->∀d,d∈x.2->d<k+i
 |[],k,i,x,h,b,d,a=>by grind
 |y::r,k,i,x,h,b,d,a=>by
  simp[El]at h;cases i with
  |zero=>grind
  |succ i=>
   have:=IN h.2 (by simpa using b) d a;omega
theorem acO{i:Nat}(h:ahead L j i=true):j<i/\∃x,L[i]?=some x/\j∈x.2:=by
 grind[ahead]
theorem Nh{key b:Nat}(ht:o.ib=true)(a:cF xb o env key b=true):b∈eo xb o env key:=by
 cases o
 case call f args=>
  simp[cF]at a;simp[eo];rcases a with h|h
  . exact .inl ⟨b-key,by omega,by omega⟩
  grind
 all_goals simp[cN.ib]at ht<;>simp[cF,eo]at a⊢<;>first|exact a|(rcases a with h|h;exact .inl h;exact .inr (.inl h))
theorem aaZ{key:Nat}(ht:o.ib=false):eo xb o env key=[]:=by
 cases o<;>simp[cN.ib]at ht<;>rfl
theorem NC{key b:Nat}(a:cF xb o env key b=true):o.neutral=false:=by
 cases o<;>simp[cF]at a<;>rfl
theorem QA{key b:Nat}(ht:o.ib=false)(a:cF xb o env key b=true):key<=b/\b<key+16:=by
 cases o<;>simp[cN.ib]at ht<;>simp[cF]at a
section
variable {P:Program}{aE:Ctx}{nt kk:Nat}{N:Nat}{ops:Array Oper}{bb:List ca}{E:Nat->Env}{T:Nat->ba}{G:Nat->Bool}{W:Nat->V}
theorem Rel.ail{env':Env}{n:Nat->Bool}(R:Rel aE nt φ S env J n a w)(h:∀t,look env' t=look env t):Rel aE nt φ S env' J n a w:=
 ⟨R.bR,λk g v ah=>R.gN k g v (h k▸ah),λk g v ah=>R.hK k g v (h k▸ah),λk g v ah=>R.gM k g v (h k▸ah),R.dV,R.size,R.defers,R.ext,R.own,R.fix,R.gO⟩
def iL(xb:a7)(bb:List ca)(E:Nat->Env)(N i b:Nat):Bool:=match bb[i]? with|some o=>cF xb o.op (E i) (N+16*i) b|none=>false
theorem xp(c:o2 xb P bb N E T G W){t:Nat}{i:Nat}:∀{k:Nat},i<=k->k<=bb.length->(∀(j:Nat) (o:ca),i<=j->j<k->bb[j]?=some o->o.dst≠some t)->look (E k) t=look (E i) t:=by
 intro k;induction k with
 |zero=>grind
 |succ k ih=>
  intro h1 d e;by_cases f:i=k+1
  . grind
  . have a:k<bb.length:=(by omega);have b:=fb a;rw[(c.step k _ b).2,qh];grind
theorem Er(f:o2 xb P bb N E T G W){b:Nat}{i:Nat}:∀{k:Nat},i<=k->k<=bb.length->(∀j:Nat,i<=j->j<k->iL xb bb E N j b=false)->aY (T k) b=aY (T i) b:=by
 intro k;induction k with
 |zero=>grind
 |succ k ih=>
  intro h1 g d;by_cases l:i=k+1
  . grind
  . have e:k<bb.length:=(by omega);have c:=fb e;have a:=d k (by omega) (by simp);unfold iL at a;rw[c]at a;have:=((f.step k _ c).1.local (λ_ _=>rfl) (λ_ _=>rfl)).2 b a;grind
inductive jl (D:Nat->a7)(j:Nat):Nat->Prop
 |one {i:Nat} (h:j∈D i):jl D j i
 |step {e i:Nat} (h:jl D j e) (he:e∈D i):jl D j i
theorem jl.ready{n:Nat}(a:∀i d,i<n->d∈D i->d<i)(f:∀e,e<n->p e=true->∀d,d∈D e->p d=true){i:Nat}(h:jl D j i)(o:i<n)(c:∀d,d∈D i->p d=true):p j=true:=by
 induction h<;>grind
theorem jl.congr{a:Nat->a7}{n:Nat}(c:∀i d,i<n->d∈D i->d<i)(f:∀i,i<n->D i=a i){i:Nat}(h:jl D j i)(e:i<n):jl a j i:=by
 induction h with
 |one h=>exact .one (by grind)
 |step h he ih=>
  have:=c _ _ e he;exact .step (ih (by omega)) (by grind)
theorem LU:∀{l:List (ca×a7)} {acc:List a7},(∀(k:Nat) x,l[k]?=some x->D (acc.length+k)=x.2)->(∀i j,j∈acc.getD i []->jl D j i)->∀i j,j∈(nV l acc).getD i []->jl D j i
 |[],acc,_,b,i,j,h=>b i j h
 |x::r,acc,c,b,i,j,h=>by
  refine LU (acc:=acc++[(x.2++x.2.flatMap _).eraseDups]) (λk y m=>?_) (λi j a=>?_) i j h
  . have:=c (k+1) y (by grind);grind
  . rw[Gp,List.getElem?_append]at a;split at a
    . grind
    . cases d:i-acc.length with
      |succ k=>grind
      |zero=>
       rw[d]at a;have f:i=acc.length:=(by omega);have g:=(by simpa using c 0 x rfl);simp[yO]at a;rcases a with a|⟨e,he,a⟩
       . exact .one (by grind)
       . exact .step (b e j a) (by grind)
structure Stat (xb:a7)(bb:List ca)(D:Nat->a7)(E:Nat->Env)(N:Nat):Prop where
 back:∀i d,i<bb.length->d∈D i->d<i
 xD:∀(i j:Nat) (x y:ca) (d:Nat),bb[i]?=some x->bb[j]?=some y->y.dst=some d->(d∈x.rd->(j<i/\j∈D i)\/(x.op.neutral=true/\x.op.ib=false/\i<j/\i∈D j))/\(i=j\/x.dst≠some d)
 ord:∀i j b,i≠j->i<bb.length->j<bb.length->iL xb bb E N i b=true->((∃y:ca,bb[j]?=some y/\b∈eo xb y.op (E j) (N+16*j))\/iL xb bb E N j b=true)->(i<j/\jl D i j)\/(j<i/\jl D j i)
def used(N m:Nat)(listed:Array Bool):Nat->Bool:=λb=>lt N b||(List.range m).any λi=>listed.getD i false&&(decide (N+16*i<=b)&&decide (b<N+16*i+16))
structure Inv (xb:a7)(aE:Ctx)(nt:Nat)(bb:List ca)(D:Nat->a7)(N:Nat)(E:Nat->Env)(T:Nat->ba)(G:Nat->Bool)(W:Nat->V)(listed:Array Bool)(φ:dz)(S:dS)(env:Env)(J:ba)(a:Act)(w:World):Prop where
 rel:Rel aE nt φ S env J (used N bb.length listed) a w
 size:listed.size=bb.length
 down:∀i,i<bb.length->listed.getD i false=true->∀d,d∈D i->listed.getD d false=true
 cQ:∀t,(∀(i:Nat) (o:ca),bb[i]?=some o->listed.getD i false=true->o.dst≠some t)->look env t=look (E 0) t
 aM:∀t (i:Nat) (o:ca),bb[i]?=some o->listed.getD i false=true->o.dst=some t->look env t=some (G i,W i)
 sg:∀b,(∀i,i<bb.length->listed.getD i false=true->iL xb bb E N i b=false)->aY J b=aY (T 0) b
 s1:∀b i,i<bb.length->listed.getD i false=true->iL xb bb E N i b=true->(∀j,j<bb.length->listed.getD j false=true->iL xb bb E N j b=true->j<=i)->aY J b=aY (T (i+1)) b
theorem nu{i:Nat}(a:i<listed.size):(listed.setIfInBounds i true).getD j false=if j=i then true else listed.getD j false:=by
 by_cases h:j=i
 . simp_all
 simp_all[dZ]
theorem Inv.agree(cu:Inv xb aE nt bb D N E T G W listed φ S env J a w)(st:Stat xb bb D E N)(x:o2 xb P bb N E T G W)
 {i:Nat}{o:ca}(X:bb[i]?=some o)(aJ:listed.getD i false=false)(K:∀d,d∈D i->listed.getD d false=true):
 (∀t,t∈o.rd->look env t=look (E i) t)/\∀b,b∈eo xb o.op (E i) (N+16*i)\/cF xb o.op (E i) (N+16*i) b=true->aY J b=aY (T i) b:=by
 have L:i<bb.length:=(dQ.1 X).1;refine⟨λt ht=>?_,λb a0=>?_⟩
 . by_cases Y:∃(j:Nat) (y:ca),bb[j]?=some y/\y.dst=some t
   . obtain⟨j,y,c,A⟩:=Y;rcases (st.xD i j o y t X c A).1 ht with⟨h1,H⟩|⟨_,_,h1,H⟩
     . rw[cu.aM t j y c (K j H) A];have:look (E (j+1)) t=some (G j,W j):=by rw[(x.step j y c).2,qh,ae A]
       rw[<-this]
       symm
       refine xp x (by omega) (by omega) λk z O Q f F=>?_;rcases (st.xD k j z y t f c A).2 with h|h
       all_goals grind
     . have q:j<bb.length:=(dQ.1 c).1;have aL:∀(k:Nat) (z:ca),bb[k]?=some z->z.dst=some t->k=j:=by
        intro k z f F;rcases (st.xD k j z y t f c A).2 with h|h
        . grind
        grind
       rw[cu.cQ t λk z f ah F=>by
        have:=aL k z f F;subst this;have:=cu.down k q ah i H
        grind]
       symm
       refine xp x (iq _) (by omega) λk z _ a2 f F=>?_;grind
   . have B:=λj y c h=>Y ⟨j,y,c,h⟩;rw[cu.cQ t λj y c _=>B j y c]
     symm
     exact xp x (iq _) (by omega) λj y _ _ c=>B j y c
 . have Z:∀j,j≠i->j<bb.length->iL xb bb E N j b=true->(j<i/\jl D j i)\/(i<j/\jl D i j):=by
    intro j q e v;refine st.ord j i b q e L v ?_;grind[iL]
   have ah:∀j,j<bb.length->listed.getD j false=true->iL xb bb E N j b=true->j<i:=by
    intro j e U v;have aC:j≠i:=(by grind);rcases Z j aC e v with h|h
    . grind
    . have:=h.2.ready st.back cu.down e (cu.down j e U);grind
   have ax:∀j,j<i->iL xb bb E N j b=true->listed.getD j false=true:=by
    intro j a1 v;rcases Z j (by omega) (by omega) v with h|h
    . exact h.2.ready (p:=λk=>listed.getD k false) st.back cu.down L K
    grind
   by_cases am:∃j,j<i/\iL xb bb E N j b=true
   . obtain⟨j,an,M,ap⟩:=KE am;rw[cu.s1 b j (by omega) (ax j an M) M (λk O Q R=>ap k (ah k O Q R) R)];grind[Er]
   . have B:∀j,j<i->iL xb bb E N j b=false:=(by grind);rw[cu.sg b λj e U=>by grind]
     symm
     exact Er x (iq _) (by omega) λj _ q=>B j q
theorem adf{m:Nat}{i b:Nat}(a:i<listed.size)(h:eG (used N m listed) (N+16*i) b=true)(c:i<m):used N m (listed.setIfInBounds i true) b=true:=by
 simp only[eG,used,nB]at h⊢;grind[nu]
theorem Ni{m:Nat}{i:Nat}(aJ:listed.getD i false=false){b:Nat}(h1:N+16*i<=b)(a:b<N+16*i+16):used N m listed b=false:=by
 simp only[used];grind[lt]
theorem Inv.step{U:dz}{bT:dS}{br:ba}{F:Act}{w':World}(cu:Inv xb aE nt bb D N E T G W listed φ S env J a w)(st:Stat xb bb D E N)(ax:o2 xb P bb N E T G W)
 {i:Nat}{o:ca}(A:bb[i]?=some o)(aJ:listed.getD i false=false)(Y:∀d,d∈D i->listed.getD d false=true)
 (H:∀b,aY br b=if cF xb o.op (E i) (N+16*i) b then aY (T (i+1)) b else aY J b)
 (R:Rel aE nt U bT (er env o.dst (G i) (W i)) br (eG (used N bb.length listed) (N+16*i)) F w'):
 Inv xb aE nt bb D N E T G W (listed.setIfInBounds i true) U bT (er env o.dst (G i) (W i)) br F w':=by
 have q:i<bb.length:=(dQ.1 A).1;have f:i<listed.size:=by rw[cu.size];exact q
 have O:∀b,iL xb bb E N i b=cF xb o.op (E i) (N+16*i) b:=λb=>by unfold iL;rw[A]
 refine⟨R.more λb x=>adf f x q,by simp[cu.size],λj c ah d K=>?_,λt ht=>?_,λt j y B ah Q=>?_,λb x=>?_,λb j c ah M L=>?_⟩
 . rw[nu f]at ah⊢;split
   . rfl
   . split at ah
     . rename_i e;subst e;exact Y d K
     . exact cu.down j c ah d K
 . rw[qh,al (ht i o A (by rw[nu f,ae rfl]))];exact cu.cQ t λj y B ah=>ht j y B (by rw[nu f];split;rfl;exact ah)
 . rw[qh];rw[nu f]at ah;by_cases p:j=i
   . grind
   . rw[al p]at ah;rw[al (λh=>?_)]
     . exact cu.aM t j y B ah Q
     . rcases (st.xD i j o y t A B Q).2 with X|X
       all_goals grind
 . rw[H b];have v:=x i q (by rw[nu f,ae rfl]);rw[O]at v;rw[v];exact cu.sg b λj c ah=>x j c (by grind[nu])
 . rw[H b];rw[nu f]at ah;by_cases v:cF xb o.op (E i) (N+16*i) b=true
   . have an:i<=j:=L i q (by simp_all) (by grind);by_cases p:j=i
     . grind
     ·
      rw[al p]at ah;rcases st.ord i j b (dZ p) q c (by rw[O];exact v) (.inr M)with h|h
      . have:=h.2.ready st.back cu.down c (cu.down j c ah);rw[aJ]at this;cases this
      . omega
   . rw[al v];by_cases p:j=i
     . grind
     . rw[al p]at ah;exact cu.s1 b j c ah M λk Z ap am=>L k Z (by grind[nu]) am
theorem Inv.done(cu:Inv xb aE nt bb D N E T G W listed φ S env J a w)(st:Stat xb bb D E N)(f:o2 xb P bb N E T G W)
 (A:∀i,i<bb.length->listed.getD i false=true):Rel aE nt φ S (E bb.length) (T bb.length) (lt (N+16*bb.length)) a w:=by
 refine((cu.rel.ail λt=>?_).congr λb=>?_).more λb B=>?_
 . by_cases v:∃(j:Nat) (y:ca),bb[j]?=some y/\y.dst=some t
   . obtain⟨j,y,c,x⟩:=v;have p:=(dQ.1 c).1;rw[cu.aM t j y c _ _];have:look (E (j+1)) t=some (G j,W j):=by rw[(f.step j y c).2,qh,ae x]
     rw[<-this];refine xp f (by omega) (eI _) λk z o M Q R=>?_;rcases (st.xD k j z y t Q c x).2 with h|h
     all_goals grind
   . have e:=λj y c h=>v ⟨j,y,c,h⟩;rw[cu.cQ t λj y c _=>e j y c];exact xp f (iq _) (eI _) λj y _ _ c=>e j y c
 . by_cases F:∃j,j<bb.length/\iL xb bb E N j b=true
   . obtain⟨j,q,H,K⟩:=KE F;rw[cu.s1 b j q (A j q) H (λk o _ O=>K k o O)];refine Er f (by omega) (eI _) λk o M=>?_;grind
   . have e:∀j,j<bb.length->iL xb bb E N j b=false:=(by grind);rw[cu.sg b λj L _=>e j L];exact Er f (iq _) (eI _) λj _ p=>e j p
 . simp[used,lt]at B⊢;grind
theorem aah(st:Stat xb bb D E N)(n:o2 xb P bb N E T G W)(hres:jt P nt ops ops.toList=some bb)(r:∀(i:Nat) o,ops[i]?=some o->D i=hq o)
 (x:∀φ S a w,Rel aE nt φ S (E bb.length) (T bb.length) (lt (N+16*bb.length)) a w->Q .normal a w):
 ∀(f:Nat) (listed:Array Bool) φ S env J a w,listed.toList.countP (· ==false)<=f->Inv xb aE nt bb D N E T G W listed φ S env J a w->wpAny P .any ops Q f listed a w:=by
 have H:=zb hres;simp at H;have I:∀(listed:Array Bool) (φ:dz) (S:dS) (env:Env) (J:ba) (a:Act) (w:World),Inv xb aE nt bb D N E T G W listed φ S env J a w->Region.ready .any ops listed=[]->∀i,i<bb.length->listed.getD i false=true:=by
  intro listed φ S env J a w cu k i;induction i using Nat.strongRecOn with
  |_ i ih=>
   intro g;cases ah:listed.getD i false with
   |true=>rfl
   |false=>
    have F:i<ops.size:=(by omega);have j:ops[i]?=some ops[i]:=CV F;have:i∈Region.ready .any ops listed:=by
     rw[mem_ready];refine⟨?_,ops[i],j,λe he U=>?_⟩
     . have m:i<listed.size:=by rw[cu.size];grind
       grind
     . have c:e.on∈D i:=by
        rw[r i _ j];simp only[hq,eS,r'];grind
       exact ih e.on (st.back i _ g c) (by have:=st.back i _ g c;omega)
    grind
 have t:∀(listed:Array Bool) (φ:dz) (S:dS) (env:Env) (J:ba) (a:Act) (w:World),Inv xb aE nt bb D N E T G W listed φ S env J a w->Region.ready .any ops listed=[]->Q .normal a w:=by
  intro listed φ S env J a w cu k;exact x φ S a w (cu.done st n (I listed φ S env J a w cu k))
 intro f;induction f with
 |zero=>
  intro listed φ S env J a w C cu;have R:∀i,i<bb.length->listed.getD i false=true:=by
   intro i g;have m:i<listed.size:=by rw[cu.size];grind
   cases ah:listed.getD i false with
   |true=>rfl
   |false=>
    exfalso;have h0:listed.toList.countP (· ==false)=0:=(by omega);rw[List.countP_eq_zero]at h0;simp[m]at ah;exact h0 listed[i] (by simp) (by grind)
  have k:Region.ready .any ops listed=[]:=by
   rw[UI];grind[mem_ready]
  exact⟨k,t listed φ S env J a w cu k⟩
 |succ f ih=>
  intro listed φ S env J a w C cu;refine⟨t listed φ S env J a w cu,λi g=>?_⟩;rw[mem_ready]at g;obtain⟨h1,o,j,V⟩:=g;have m:i<listed.size:=by grind
  have aJ:listed.getD i false=false:=by grind
  obtain⟨p,q,L⟩:=HG hres (i:=i) (o:=o) (by simpa using j);have c:∀d,d∈D i->listed.getD d false=true:=by
   intro d c;rw[r i o j]at c;simp only[hq,eS,r']at c;grind
  obtain⟨y,z⟩:=cu.agree st n q aJ c;obtain⟨⟨br,hs,v⟩,_⟩:=(n.step i p q).1.local (env':=env) (J':=J) y z;have u:=ED cu.rel (key:=N+16*i) (λb A B=>Ni aJ A B) L (K:=λe s=>e=er env p.dst (G i) (W i)/\s=br) (hs.hn ⟨rfl,rfl⟩) (Q:=Q);have next:∀l w',kd aE nt (eG (used N bb.length listed) (N+16*i)) (λe s=>e=er env p.dst (G i) (W i)/\s=br) l w'->wpAny P .any ops Q f (listed.setIfInBounds i true) l w':=by
   rintro l w' ⟨O,bT,e,s,⟨rfl,rfl⟩,R'⟩
   refine ih _ O bT _ _ l w' ?_ (cu.step st n q aJ c v R');have:listed.toList[i]?=some false:=by simp[m]at aJ⊢;exact aJ
   grind
  unfold wpOp;rw[j];dsimp only;split at u
  . rename_i M;rw[ae M];exact .inl (Oper.wp_mono next u)
  grind
end
end
end Go.Proofs.YtdjagncoefjfeaaGreat.Shv
