/- The library of this proof, part B: an abstract machine for the code of the program, and its soundness. -/
import Derived.Lib.UnsafeStr
import Derived.ChangeKeysEq
import Derived.Orders
import Derived.LoopN
import Derived.Test.YtkbmjabicjpmjaaGreatDoorCcLA

namespace Go.Proofs.YtkbmjabicjpmjaaGreatDoor.Shv
set_option linter.all false
section
open Go
theorem C.mc(c:C):c.ay (λ_=>true)=true:=by cases c<;>simp[C.ay]
variable{o:Oper}{e t fK yt:TypeId}{x:Operand}{α:Type}{c:Call}{f id b0 off:Nat}{g:Bool}{dst:Option Nat}{gd:Option (Nat×Bool)}{Q:Exit->Act->World->Prop}{K:Env->aZ->Prop}{code:Code}{aY:List bZ}{bc:cZ}{bs:aW}{es:List (List T)}
section
variable {P:Program}{av:Ctx}{nt kk:Nat}{φ:cZ}{S bd:c0}{env:Env}{J:aZ}{N key:Nat}{n:Nat->Bool}{a:Act}{w w':World}
theorem Rel.extend(R:Rel av nt φ S env J n a w)(e:Ext (λ_=>False) S bd w w')(M:∀b j,bd b j->b<w'.heap.size):Rel av nt φ bd env J n a w':=by
 have aa:=λb L=>e.block b L (λh=>h);have B:∀b x,aR J b=some x->(φ b).2≠0->∀j,¬bd (φ b).1 j:=by
  intro b x q h0 j G;have di:=R.bD.blk b x q;rcases e.lj _ _ G with h|h|h
  . exact di.ph h0 j h
  . grind
  . have:=di.jk h0;omega
 refine⟨⟨λb x q=>?_,R.bD.inj,M⟩,λk g v ad ak=>?_,R.gN,R.fY,R.dG,R.size,R.defers,?_,R.own,R.fix,R.gy⟩
 . have di:=R.bD.blk b x q;cases x with
   |box cs=>
    obtain⟨h0,vs,E,h1,f,y⟩:=di;refine⟨h0,vs,E,(aa _ (nG h1)).trans h1,f.imp λc v N A=>bn.mono e.mono (λ_ _=>rfl) (C.mc _) A,B b _ q h0⟩
   |arr sz es=>
    obtain⟨h1,f,y,D,bp⟩:=di;refine⟨h1,f,y,D,λh0=>?_⟩;obtain⟨vs,E,bb,bq,bU,cu⟩:=bp h0;exact⟨vs,E,(aa _ (nG bb)).trans bb,bq,λi j F t he ht=>let⟨v,H,A⟩:=bU i j F t he ht;⟨v,H,bM.mono e.mono A⟩,B b _ q h0⟩
   |set ks=>
    obtain⟨h0,⟨es,c,h1,f⟩,y⟩:=di;exact⟨h0,⟨es,c,(aa _ (nG h1)).trans h1,f⟩,B b _ q h0⟩
   |buf E s=>
    obtain⟨h1,f,y⟩:=di;refine⟨h1,f,λh0=>?_⟩;grind
   |bT E c=>
    obtain⟨h0,⟨p,v,h1,f,y⟩,D⟩:=di;exact⟨h0,⟨p,v,(aa _ (nG h1)).trans h1,f,bn.mono e.mono (λ_ _=>rfl) (C.mc _) y⟩,B b _ q h0⟩
   |cz sz es i o c=>
    obtain⟨⟨h1,f,y,D,bp,K⟩,⟨vs,E,bb,bq,bU,v,cu,cW⟩,da⟩:=di;exact⟨⟨h1,f,y,D,bp,K⟩,⟨vs,E,(aa _ (nG bb)).trans bb,bq,λi j F t he ht aP=>let⟨v,H,A⟩:=bU i j F t he ht aP;⟨v,H,bM.mono e.mono A⟩,v,cu,bn.mono (n:=λ_=>true) e.mono (λ_ _=>rfl) (C.mc _) cW⟩,B b _ q (by omega)⟩
 . obtain⟨x,q,A⟩:=R.fZ k g v ad ak;exact⟨x,q,bW.mono e.mono (λ_ _=>rfl) (R.fY k g v ad ak) A⟩
 . refine⟨e.os.trans R.ext.os,e.tape.trans R.ext.tape,e.output.trans R.ext.output,gz R.ext.size e.size,λb aE di=>?_,R.ext.mono.trans e.mono,λb j G=>?_⟩
   . exact(aa b (jg aE R.ext.size)).trans (R.ext.block b aE di)
   . rcases e.lj _ _ G with h|h|h
     . exact R.ext.lj b j h
     . grind
     . exact .inr (.inr (gz R.ext.size h))
theorem Vs(R:Rel av nt φ S env J n a w){ty:TypeId}{len:Nat}{parts:Array (Nat×Operand)}(Y:o.op= .buildSlice ty len parts)(aa:P.underlying ty=some (.slice e)){sz:Nat}(Z:eg P e=some sz)
 {z:List C}(K:jO P e=some z){ps:List (Nat×aO)}(H:oL parts.toList=some ps)(h0:sz≠0)(L:z.length=sz)(X:len*sz<=2^24)
 {p v J'}(W:n key=false)(h:aM (.bsliceT e sz len z ps) env J key=some (p,v,J'))(aj:p):Good P av nt env J' (ins n key) a v ((execOp a.eval o).run P w):=by
 simp only[aM,bf,bu,ef]at h;obtain⟨k,N,⟨q,f⟩,g,rfl,rfl,rfl⟩:=h;obtain⟨i,d,r,ag,m,U⟩:=rB (φ:=φ) (w:=w) (S:=S) (n:=n) K;have M:=qd N m;have ae:d.cells.size=sz:=by rw[<-As,<-m.length,L]
 have y:0<sz:=by omega
 have af:k.length=sz:=by grind[uo]
 obtain ⟨us,h1,E,l,T,bp,_⟩:= FI R y H g aj (es:= List.replicate len k) (vs:= ((Array.range (len*sz)).map (d.cells[· % d.cells.size]!)).toList) (by
  grind) (by simp) (by
  intro i j e t he ht;have:e=k:=by
   grind
  subst this;obtain⟨x,ad,I⟩:=M.get ht
  grind[FV])
 simp at l;have s:len<=dm:=by
  have:len<=len*sz:=DO len y;grind[dm]
 have u:=R.bD.st;have O:gq w S (w.alloc (.cells us.toArray e)) (λb j=>S b j\/b=w.heap.size):=⟨λ_ _ h=>.inl h,λb j h=>p5 (ru (u b j h)) j⟩
 have A:Ext (λ_=>False) S _ w (w.alloc (.cells us.toArray e)):=
  ⟨rfl,rfl,rfl,by simp,λb g _=>ru g,O,λb j h=>by grind⟩
 have B:=R.extend A (λb j h=>by
  rcases h with h|h
  . have:=u b j h;simp;omega
  simp_all)
 refine⟨.slice (some ⟨w.heap.size,0,none⟩) len len,φ,_,_,.inl ?_,?_,rfl,B.more λ_ h=>kD h⟩
 . have Q:Instr.fill (λi=>some (i*sz,sz)) ((Array.range (len*sz)).map (d.cells[· % d.cells.size]!)) ((parts.map λ(i,x)=>(i,a.eval x)).toList)=some us.toArray:=by
    rw[Array.toList_map];omega
   simp_all[Pu,execOp,Sem.run_bind,Result.andThen_ok]
 . refine .c ?_;have F:f.length=len:=l;rw[<-F]at s⊢;have G:∀j,(w.alloc (.cells us.toArray e)).cell? _=us[j]?:=λj=>iH heap_alloc_new j;refine bM.slice f _ _ sz w.heap.size 0 (λi j=>(us[i*sz+j]?).getD undef) (e9 _) s E (λ_=>rfl) (λi j r V=>⟨.inr rfl,?_⟩) (λi j D t he ht=>?_)
   . rw[hx,G];have aE:i*sz+j<us.length:=by
      have:=eV sz (show i+1<=f.length from r);grind
     grind
   . obtain⟨v,ab,I⟩:=bp i j D t he ht;grind[bM.mono]
theorem UB{ty:TypeId}{e8:Nat}(h:xq P ty=some e8):∃i z,P.info? ty=some i/\i.zero=some z/\z.cells=#[.pointer none,.slice none 0 0]:=by
 grind[xq,JE,bf,Qd]
theorem U5(R:Rel av nt φ S env J n a w){ty:TypeId}(u:o.op= .alloc ty){e8:Nat}(g:xq P ty=some e8)
 {p v J'}(s:n key=false)(m:n (key+1)=false)(h:aM (.allocS ty e8) env J key=some (p,v,J'))(aj:p):Good P av nt env J' (ins (ins n (key+1)) key) a v ((execOp a.eval o).run P w):=by
 obtain⟨rfl,rfl,rfl⟩:=h;obtain⟨i,z,r,A,B⟩:=UB g;have t:∀j,¬S w.heap.size j:=λj h=>by have:=R.bD.st _ _ h;omega
 have d:=(R.alloc (.cells #[.pointer none,.slice none 0 0] ty)).je m (x:= .buf e8 []) (0,0) rfl (by simp[cP,dn]) (by simp);have l:ins n (key+1) key=false:=by grind[ins]
 have e:=d.je l (x:= .bT ty (.cb (key+1) 0)) (w.heap.size,1) (by simp[bP.ay,C.ay,ins]) (by
  grind[cP,heap_alloc_new,bn,eA]) (λ_=>⟨λk y b h0=>by
   rw[cR]at b;split at b
   . grind[dn]
   . rename_i q;have f:(φ k).2≠0:=(by simp_all[eA,dx]);have:=(R.bD.blk k y b).jk f;simp[eA,dx q]
     omega,.inr R.ext.size⟩)
 refine⟨.pointer (some ⟨w.heap.size,0,none⟩),_,S,_,.inl ?_,.c ?_,by simp[V.ay,C.ay,ins],e⟩
 . simp_all[execOp,Instr.alloc,zeroValue,typeInfo,newVar,newRow]
 grind[bn,dn]
theorem QF(h:sH P t=true):∃k v i,P.underlying t=some (.map k v)/\P.underlying k=some .string/\P.info? v=some i/\i.zero=some (.bool false):=by
 grind[sH,bf]
theorem V8(R:Rel av nt φ S env J n a w)(f:o.op= .makeMap t none)
 {p v J'}(d:n key=false)(h:aM .mkset env J key=some (p,v,J'))(aj:p):Good P av nt env J' (ins n key) a v ((execOp a.eval o).run P w):=by
 obtain⟨rfl,rfl,rfl⟩:=h;have e:∀j,¬S w.heap.size j:=λj h=>by have:=R.bD.st _ _ h;omega
 have b:=(R.alloc _).je d (x:= .set []) (w.heap.size,1) rfl (by
  simp only[cP,dn]
  exact⟨by simp,⟨[],0,heap_alloc_new,.nil⟩,e⟩) (λ_=>⟨λk y g h0=>by
   have:=(R.bD.blk k y g).jk h0
   omega,.inr R.ext.size⟩)
 refine⟨.map (some w.heap.size),_,S,_,.inl ?_,.c ?_,by simp[V.ay,C.ay,ins],b⟩
 . simp[execOp,f,Instr.makeMap]
 grind[bn,dn]
theorem U6{s:ByteArray}{k:ao}:(s==(⟨k.toArray⟩:ByteArray))=decide (k=s.data.toList):=by
 grind[beq_toListBytes,ByteArray.toList_eq]
theorem FW(s:ByteArray):∀{ks:List ao} {es:List MapEntry} (i:Nat),zm ks es->
 (iO ks s.data.toList=false/\Instr.findNow .string (.string s) es i=some none)\/
 (iO ks s.data.toList=true/\∃j e,Instr.findNow .string (.string s) es i=some (some (i+j,.bool true))/\es[j]?=some e/\e.key= .string s/\e.val= .bool true)
 |_,_,i,.nil=>.inl ⟨rfl,rfl⟩
 |k::ks,e::es,i,.cons h d=>by
  obtain⟨h1,c⟩:=h;have f:(s==⟨k.toArray⟩)=decide _:=U6;by_cases g:k=s.data.toList
  . refine .inr ⟨by grind[iO],0,e,?_,rfl,?_,c⟩
    . simp_all[Instr.findNow,Instr.sameNow]
    simp_all
  . rcases FW s (i+1) d with⟨g1,g2⟩|⟨g1,j,a,g2,g3,g4,b⟩
    . grind[iO,Instr.findNow,Instr.sameNow]
    . refine .inr ⟨by grind[iO],j+1,a,?_,by grind,g4,b⟩;grind[Instr.findNow,Instr.sameNow]
theorem BY(a:P.underlying fK=some .string){s:ByteArray}{es:List MapEntry}{r:Option (Nat×Value)}(h:Instr.findNow .string (.string s) es 0=some r)(w:World):(Instr.findKey fK (.string s) es).run P w= .ok r w:=by
 simp_all[Instr.findKey,run_underlying]
theorem Ba(a:P.underlying fK=some .string){s:ByteArray}(b:Bool)(w:World):(Instr.checkKey b 10000 fK (.string s)).run P w= .ok () w:=by
 unfold Instr.checkKey;simp[run_underlying a]
theorem qe{b:Nat}{es:Array MapEntry}{c:Nat}(h:w.heap[b]?=some (.map es c)):(getObj b).run P w= .ok (.map es c) w:=by grind[getObj,Sem.run]
theorem Bz{b:Nat}{es:Array MapEntry}{c:Nat}(o:Obj)(h:w.heap[b]?=some (.map es c)):(setObj b o).run P w= .ok () {w with heap:=w.heap.setIfInBounds b o}:=by
 grind[setObj,Sem.run]
theorem V9(R:Rel av nt φ S env J n a w){k:Operand}(g:o.op= .lookup t x k false)(ht:sH P t=true){d c:aO}(z:bB x=some d)(y:bB k=some c)
 {p v J'}(D:n key=false)(h:aM (.lkset d c) env J key=some (p,v,J'))(aj:p):Good P av nt env J' (ins n key) a v ((execOp a.eval o).run P w):=by
 simp only[aM,bf]at h;obtain⟨⟨G,I⟩,u,⟨d',H⟩,s,he⟩:=h;simp at he;obtain⟨fK,B,i,l,b,C,F⟩:=QF ht;split at he
 . split at he
   . rename_i ks m;obtain⟨rfl,rfl,rfl⟩:=he;have h1:a.eval x= .map _:=(cl R z u aj.1).1.dT;obtain⟨bs,f,rfl,_⟩:=bW.kh (cl R y s aj.2).1;obtain⟨h0,⟨es,ct,aa,q⟩,E⟩:=R.bD.blk _ _ m;refine Good.pure R ?_ (.n' _) rfl;have A:(zeroValue B).run P w= .ok (.bool false) w:=(by simp_all[zeroValue,typeInfo]);have r:=FW bs 0 q;rcases r with⟨g1,g2⟩|⟨g1,j,e,g2,_⟩
     . simp[execOp,g,h1,f,Instr.lookup,run_underlying l,qe aa,Ba b,BY b g2,A,g1]
     . simp[execOp,g,h1,f,Instr.lookup,run_underlying l,qe aa,Ba b,BY b g2,g1]
   grind
 grind
theorem W7{ks:List ao}{es:List MapEntry}(h:zm ks es)(s:ByteArray)(ct:Nat):zm (ks++[s.data.toList]) (es++[{key:= .string s,val:= .bool true,born:=ct}]):=
 h.append (.cons ⟨by rfl,rfl⟩ .nil)
theorem aX.modify{c:Type}{R:α->c->Prop}{f:c->c}:∀{l:List α} {m:List c} {j:Nat},aX R l m->(∀a b,R a b->m[j]?=some b->R a (f b))->aX R l (m.modify j f)
 |_,_,_,.nil,_=>by simpa using aX.nil
 |_,_,0,.cons h e,k=>.cons (k _ _ h rfl) e
 |_,_,j+1,.cons h e,k=>by
  exact .cons h (aX.modify e λa b g o=>k a b g (by grind))
theorem V'(R:Rel av nt φ S env J n a w){k v0:Operand}(y:o.op= .mapUpdate t x k v0)(ht:sH P t=true)(A:FT v0=true){q l:aO}(N:bB x=some q)(H:bB k=some l)
 {p v J'}(X:n key=false)(h:aM (.upset q l) env J key=some (p,v,J'))(aj:p):Good P av nt env J' (ins n key) a v ((execOp a.eval o).run P w):=by
 simp only[aM,bf]at h;obtain⟨⟨ad,ag⟩,G,⟨d',ae⟩,F,he⟩:=h;simp only at he;obtain⟨fK,af,i,z,d,W,Z⟩:=QF ht;have B:a.eval v0= .bool true:=by
  unfold FT at A;split at A
  . rfl
  grind
 split at he
 . rename_i b s;split at he
   . rename_i ks u;obtain⟨rfl,rfl,rfl⟩:=he;have h1:a.eval x= .map _:=(cl R N G aj.1).1.dT;obtain⟨bs,r,rfl,_⟩:=bW.kh (cl R H F aj.2).1;obtain⟨h0,⟨es,ct,aa,g⟩,K⟩:=R.bD.blk _ _ u;have aE:=nG aa;have O:∃c f,(execOp a.eval o).run P w= .ok .skip {w with heap:=w.heap.setIfInBounds (φ b).1 (.map c f)}/\zm (iC ks bs.data.toList) c.toList:=by
      have E:=FW bs 0 g;rcases E with⟨g1,g2⟩|⟨g1,j,e,g2,g3,g4,U⟩
      . refine⟨es.toArray.push {key:= .string bs,val:= .bool true,born:=ct},ct+1,?_,?_⟩
        . simp[execOp,y,h1,r,B,Instr.mapUpdate,run_underlying z,qe aa,Ba d,BY d g2,Bz _ aa]
        . simp only[iC,g1,b4];simpa using W7 g bs ct
      . refine⟨es.toArray.modify j λe=>{e with key:= .string bs,val:= .bool true},ct,?_,?_⟩
        . have M:Instr.sameBits 10000 (Value.string bs) (Value.string bs)=true:=by
           simp only[Instr.sameBits];rw[beq_toListBytes];simp
          have I:∀w,(Instr.keyThatStays (Value.string bs) (Value.string bs)).run P w= .ok (Value.string bs) w:=by intro w;unfold Instr.keyThatStays;rw[M];rfl
          simp[execOp,y,h1,r,B,Instr.mapUpdate,run_underlying z,qe aa,Ba d,BY d g2,Bz _ aa,g3,g4,I]
        . simp only[iC,g1,b7];rw[Au];refine aX.modify g λab T Y V=>?_;grind
     obtain⟨c,f,L,D⟩:=O;refine⟨undef,φ,S,_,.inr ⟨L,rfl⟩,.undef,rfl,Rel.more ?_ λ_ h=>kD h⟩;refine R.rewrite u h0 rfl rfl rfl rfl (by simp) (λQ C=>by simp[dx C]) (λm=>?_);exact⟨h0,⟨c.toList,f,by simp[aE],D⟩,K⟩
   grind
 grind
theorem Uh{st:TypeId}{i:TypeInfo}{c:Value}(p:P.underlying st=some (.slice e))(u:P.underlying yt=some .string)(g:P.info? e=some i)(B:i.zero=some c)(C:c.cells.size=i.size)
 {base:Option Addr}{sl sc a:Nat}{y:Value}{xs d:List Value}(t:(Builtin.lenOf y).run P w= .ok a w)
 (q:(Builtin.firstCells i.size sl (.slice base sl sc)).run P w.drew= .ok xs.toArray w.drew)(s:(Builtin.firstCells i.size a y).run P w.drew= .ok d.toArray w.drew)
 (n:sc<sl+a)(k:jC (sl+a) i.bytes)(z:sl+a<=dm){tt:TypeId}:
 ∃(b:Nat) (r:List Value),sl+a<=b/\r.length=(b-(sl+a))*i.size/\
  (Builtin.append_ #[st,yt] tt #[.slice base sl sc,y]).run P w= .ok (.slice (some ⟨w.heap.size,0,none⟩) (sl+a) b) (w.drew.alloc (.cells (xs++d++r).toArray e)):=by
 have o:∀w,(sizeOf e).run P w= .ok i.size w:=λw=>by simp[sizeOf,typeInfo,g]
 have f:∀w,(typeInfo e).run P w= .ok i w:=λw=>by simp[typeInfo,g]
 have v:∀w,(zeroValue e).run P w= .ok c w:=λw=>by simp_all[zeroValue]
 generalize A:(Question.appendCap (sl+a) sc e).cut (w.tape w.drawn (Question.appendCap (sl+a) sc e))=b;have m:sl+a<=b:=by grind[Question.cut]
 have h1:¬(sl+a<=sc):=by omega
 have x:¬(sl+a>IntKind.i64.max/\(False\/i.bytes=0)):=by grind[IntKind.max,IntKind.bits,dm]
 have j:=by
  exact k.not n
 refine⟨b,(Builtin.zeroCells c.cells (b-(sl+a))).toList,m,by grind[Pv],?_⟩;have l:(choose (.appendCap (sl+a) sc e)).run P w= .ok b w.drew:=by simp_all[Question.forced]
 have aK:(xs++d++(Builtin.zeroCells c.cells (b-(sl+a))).toList).toArray=xs.toArray++d.toArray++Builtin.zeroCells c.cells (b-(sl+a)):=by simp
 rw[aK];unfold Builtin.append_;simp only[Ap,AH,AI,Sem.run_bind,run_underlying p,run_underlying u,Result.andThen_ok,o,Sem.run_pure,ca,b4,t,al h1,f];rw[al (by grind)];simp only[Sem.run_bind,Result.andThen_ok,f];rw[al j];simp only[Sem.run_bind,Result.andThen_ok,f,l,run_askRoom,q,s,v,fz,b7];rfl
theorem UC{st:TypeId}{i:TypeInfo}(g:P.underlying st=some (.slice e))(k:P.underlying yt=some .string)(d:P.info? e=some i)
 {base:Option Addr}{sl sc a:Nat}{y:Value}{c:List Value}(j:(Builtin.lenOf y).run P w= .ok a w)(n:(Builtin.firstCells i.size a y).run P w= .ok c.toArray w)(m:sl+a<=sc){w':World}
 (hs:∀b,base=some b->(storeCells (b.add (sl*i.size)) c 0).run P w= .ok () w') (l:base=none->w'=w) {tt:TypeId}:
  (Builtin.append_ #[st,yt] tt #[.slice base sl sc,y]).run P w= .ok (.slice base (sl+a) sc) w':=by
 have f:∀w,(sizeOf e).run P w= .ok i.size w:=λw=>by simp[sizeOf,typeInfo,d]
 unfold Builtin.append_;simp only[Ap,AH,AI,Sem.run_bind,run_underlying g,run_underlying k,Result.andThen_ok,f,Sem.run_pure,ca,b4,j];cases base<;>simp_all
theorem Vm(w:World)(bs:ByteArray):(Builtin.firstCells 1 bs.size (.string bs)).run P w= .ok (bs.data.toList.map λb=>Value.int .u8 b.toNat).toArray w:=by
 simp[Builtin.firstCells];grind
theorem U7(l:ao):∀x,x∈(l.map λb=>Value.int .u8 b.toNat)->x.oneCell'=true:=by
 intro x a;simp at a;obtain⟨b,_,rfl⟩:=a;rfl
theorem Rx(R:Rel av nt φ S env J n a w){yv:Value}{st:TypeId}{D:aO}(ae:bB x=some D){L:Prop}{b m bytes:Nat}{es s:ao}(U:D.get env=some (L,.c (.cb b es.length)))(Y:L)
 (p:aR J b=some (.buf m es))(f:n key=false)(T:jC (es.length+s.length) bytes)(I:es.length+s.length<=dm)
 (B:∀r w',(Builtin.append_ #[st,yt] o.type #[a.eval x,yv]).run P w= .ok r w'->(execOp a.eval o).run P w= .ok (.value r) w')
 (E:∀base sl sc w',sl+s.length<=sc->(∀u,base=some u->(storeCells (u.add (sl*1)) (s.map λb=>Value.int .u8 b.toNat) 0).run P w= .ok () w')->(base=none->w'=w)->(Builtin.append_ #[st,yt] o.type #[.slice base sl sc,yv]).run P w= .ok (.slice base (sl+s.length) sc) w')
 (cp:∀base sl sc (xs:List Value),(Builtin.firstCells 1 sl (.slice base sl sc)).run P w.drew= .ok xs.toArray w.drew->sc<sl+s.length->jC (sl+s.length) bytes->sl+s.length<=dm->
  ∃(t:Nat) (r:List Value),sl+s.length<=t/\r.length=(t-(sl+s.length))*1/\(Builtin.append_ #[st,yt] o.type #[.slice base sl sc,yv]).run P w= .ok (.slice (some ⟨w.heap.size,0,none⟩) (sl+s.length) t) (w.drew.alloc (.cells (xs++(s.map λb=>Value.int .u8 b.toNat)++r).toArray m))):
 Good P av nt env (c7 (gV J b) key (.buf m (es++s))) (ins n key) a (.c (.cb key (es.length+s.length))) ((execOp a.eval o).run P w):=by
 have X:∀b,w.heap.size<=b->∀j,¬S b j:=λb G j aA=>by have:=R.bD.st _ _ aA;omega
 obtain⟨au,ah,bb⟩:=(cl R ae U Y).1.dT;have N:=R.bD.blk _ _ p;obtain⟨g1,g2,g3⟩:=N;by_cases Z:es.length+s.length<=(φ b).2
 . by_cases g:(φ b).2=0
   . have H:es=[]:=lb (by omega);have O:s=[]:=lb (by omega);have q:=ah g;have l:=E none 0 0 w (by omega) (λu F=>by grind) (λ_=>rfl);rw[<-q]at l;have R':=(R.del b).je f (x:= .buf m (es++s)) (0,0) rfl (by grind[cP,dn]) (by simp);refine⟨_,_,S,w,.inl (B _ _ l),.c ?_,by simp[V.ay,C.ay,ins],R'⟩;rw[O,H];refine⟨by simp,λ_=>?_,λh=>?_⟩
     . rfl
     . simp[dn]at h
   . obtain⟨⟨vs,aa,ab,ad⟩,K⟩:=g3 g;have q:=bb g;have ar:es.length+(s.map λb=>Value.int .u8 b.toNat).length<=vs.length:=(by grind);obtain⟨w',aw,ai,aj,ak,al,az,am⟩:=mC (P:=P) _ es.length 0 vs w aa (by omega) (U7 _)
     have l:=E (some ⟨(φ b).1,0,none⟩) es.length (φ b).2 w' Z (λu F=>by
      cases F;have ap:Addr.add ⟨(φ b).1,0,none⟩ (es.length*1)=⟨(φ b).1,es.length,none⟩:=by rw[x'];unfold Addr.add;split<;>simp_all
      grind) (λG=>by cases G)
     rw[<-q]at l
     have v:=(R.del b).world (w':=w') (λk=>k=(φ b).1) ai aj ak (sR al.symm) (λk _ f=>am k f) (λk f=>by
      subst f;refine⟨K,λk y d f=>?_,R.own b _ p g⟩;rw[fk]at d;split at d
      . cases d
      . rename_i A
        exactλe=>R.bD.inj k b y _ d p (dx A) f g e)
     have z:=v.je f (x:= .buf m (es++s)) (φ b) rfl (by
      simp only[cP,dn]
      grind[List.length_append,pa,nH]) (λ_=>⟨λk y d f=>by
       rw[fk]at d;split at d
       . cases d
       . rename_i A
         exact R.bD.inj k b y _ d p (dx A) f g,R.own b _ p g⟩)
     refine⟨_,_,S,w',.inl (B _ _ l),.c ?_,by simp[V.ay,C.ay,ins],z⟩;refine⟨by simp[dn];omega,λh=>?_,λ_=>?_⟩
     . simp[dn,g]at h
     . simp[dn]
 . have v:=R.drew;have Q:∃base,a.eval x= .slice base es.length (φ b).2/\∃xs:List Value,(Builtin.firstCells 1 es.length (.slice base es.length (φ b).2)).run P w.drew= .ok xs.toArray w.drew/\xs.length=es.length/\∀(i:Nat) c,es[i]?=some c->xs[i]?=some (.int .u8 (UInt8.toNat c)):=by
    by_cases g:(φ b).2=0
    . have H:es=[]:=lb (by omega);simp_all[Builtin.firstCells]
    . obtain⟨⟨vs,aa,ab,ad⟩,K⟩:=g3 g;refine⟨_,bb g,vs.take es.length,?_,by simp;omega,λj c aq=>?_⟩
      . show(loadCells ⟨(φ b).1,0,none⟩ (es.length*1)).run P w.drew=_;rw[x'];refine xL (by simp;omega) (λj W=>?_);rw[hx,vu,af W];exact iH (w:=w.drew) aa j
      grind
   obtain⟨base,q,xs,ag,ax,ay⟩:=Q;obtain⟨t,r,h1,an,l⟩:=cp base es.length (φ b).2 xs ag (by omega) T I;rw[<-q]at l;have z:=(v.del b).alloc (.cells (xs++(s.map λb=>Value.int .u8 b.toNat)++r).toArray m)
   have M:=z.je f (x:= .buf m (es++s)) (w.heap.size,t) rfl (by
    simp only[cP,dn];refine⟨by simp[];omega,by rw[db];exact I,λ_=>⟨⟨_,heap_alloc_new,?_,?_⟩,X _ (e9 _)⟩⟩
    . grind
    grind) (λ_=>⟨λk y d h0=>by
     rw[fk]at d;split at d
     . cases d
     . have:=(R.bD.blk k y d).jk h0
       simp;omega,.inr R.ext.size⟩)
   refine⟨_,_,S,_,.inl (B _ _ l),.c ?_,by simp[V.ay,C.ay,ins],M⟩;refine⟨by simp[dn];omega,λh=>?_,λ_=>?_⟩
   . simp[dn]at h;omega
   . simp[dn]
theorem Vt(R:Rel av nt φ S env J n a w){x y:Operand}{st yt e:TypeId}(I:o.op= .call {callee:= .builtin .append,args:=#[x,y],argTypes:=#[st,yt]})
 (q:P.underlying st=some (.slice e))(u:P.underlying yt=some .string){i:TypeInfo}(m:P.info? e=some i)(c:i.size=1)(z:(i.zero.map (·.cells.size))=some 1)
 {g j:aO}(N:bB x=some g)(O:bB y=some j)
 {p v J'}(G:n key=false)(h:aM (.appendB e i.bytes g j) env J key=some (p,v,J'))(aj:p):Good P av nt env J' (ins n key) a v ((execOp a.eval o).run P w):=by
 simp only[aM,bf]at h;obtain⟨⟨V,X⟩,E,⟨W,Y⟩,F,he⟩:=h;simp only at he;simp only[bu]at z;obtain⟨Z,T,Q⟩:=z;split at he
 . rename_i b len s;split at he
   . rename_i U es C;obtain⟨rfl,rfl,rfl⟩:=he;obtain⟨K,L,rfl,rfl,D,H⟩:=aj;obtain⟨bs,l,rfl,_⟩:=bW.kh (cl R O F L).1;have k:bs.data.toList.length=bs.size:=by rw[<-uw]
     have t:∀w,(Builtin.lenOf (a.eval y)).run P w= .ok bs.data.toList.length w:=by intro w;simp[l,k,Builtin.lenOf]
     have A:∀w,(Builtin.firstCells i.size bs.data.toList.length (a.eval y)).run P w= .ok (bs.data.toList.map λb=>Value.int .u8 b.toNat).toArray w:=by intro w;rw[l,c,k];exact Vm w bs
     refine Rx R N E K C G D H (st:=st) (yt:=yt) (yv:=a.eval y) (λr w' M=>by simp[execOp,I,Go.resolve,invoke,builtin,M]) (λbase sl sc w' h1 d f=>?_) (λbase sl sc xs h1 d f B=>?_)
     . exact UC q u m (t w) (A w) h1 (by rw[c];exact d) f
     . have:=Uh (P:=P) (w:=w) (tt:=o.type) q u m T (by rw[Q,c]) (t w) (by rw[c];exact h1) (A w.drew) d f B;rw[c]at this;exact this
   grind
 grind
theorem Wa(s:ao):∀(i:Nat) c,s[i]?=some c->(s.map λc=>([.int .u8 c.toNat]:List T))[i]?=some [.int .u8 c.toNat]:=by simp_all
theorem Qj{s:ao}{d:List Value}(ad:d.length=s.length)(h:h' w S 1 (s.map λc=>[.int .u8 c.toNat]) d):d=s.map λb=>Value.int .u8 b.toNat:=by
 refine vv λi=>?_;by_cases a:i<s.length
 . obtain⟨v,e,f⟩:=h i 0 _ _ (Wa s i _ (eF a)) rfl;cases f;simp only[x',sQ]at e;rw[e];simp[a]
 . simp[List.getElem?_eq_none (Nat.le_of_not_lt (ad▸a)),List.getElem?_eq_none (Nat.le_of_not_lt a)]
theorem Vu(R:Rel av nt φ S env J n a w){x y:Operand}{st yt e al:TypeId}(L:o.op= .call {callee:= .builtin .append,args:=#[x,y],argTypes:=#[st,yt]})
 (m:P.underlying st=some (.slice e))(B:P.underlying yt=some (.slice al)){i:TypeInfo}(k:P.info? e=some i)(ab:i.size≠0)(C:(i.zero.map (·.cells.size))=some i.size)
 {f F:aO}(O:bB x=some f)(t:bB y=some F)
 {p v J'}(I:n key=false)(h:aM (.append e i.size i.bytes f F) env J key=some (p,v,J'))(aj:p):Good P av nt env J' (ins n key) a v ((execOp a.eval o).run P w):=by
 by_cases K:∃q b l,f.get env=some (q,.c (.cb b l))
 case neg=>exact U2 R L m B k ab C O t I h (λq b l e=>K ⟨q,b,l,e⟩) aj
 obtain⟨an,b,len,G⟩:=K;simp only[aM,G,aq,bf]at h;obtain⟨⟨ao,ak⟩,H,h⟩:=h;rw[show l3 (.c (.cb b len)) ak=none from rfl]at h;simp only[bf]at h;obtain⟨ys,Q,he⟩:=h;split at he
 . rename_i am es W;obtain⟨s,hs,he⟩:=Ao.1 he;cases he;obtain⟨Z,M,rfl,d,rfl,A,X,Y⟩:=aj;simp only[bu]at C;obtain⟨au,ai,af⟩:=C;have N:∀e,e∈ys.1->e.length=1:=by rw[A];simp
   obtain⟨u,ap,D,ad,T,_⟩:=tX (P:=P) R t H M (by decide:0<1) Q N;obtain⟨_,ar,E,ae,U,_⟩:=tX (P:=P) R.drew t H M (by decide:0<1) Q N;have z:ys.1.length=s.length:=by rw[A];simp
   rw[A]at T U;have ag:=Qj (by rw[ad,z,x']) T;have ah:=Qj (by rw[ae,z,x']) U;subst ag;subst ah;rw[z]at u D E;rw[<-d]at D E;refine Rx R O G Z W I X Y (st:=st) (yt:=yt) (yv:=a.eval y) (λr w' aa=>by simp[execOp,L,Go.resolve,invoke,builtin,aa]) (λbase sl sc w' h1 g j=>?_) (λbase sl sc xs h1 g j V=>?_)
   . exact uR m B k u D h1 (by rw[d];exact g) j
   . have:=EC (P:=P) (w:=w) (tt:=o.type) m B k ai af u (by rw[d];exact h1) E g j V;rw[d]at this;exact this
 . cases he
theorem Wb(R:Rel av nt φ S env J n a w){x:Operand}{t:TypeId}(e:o.op= .call {callee:= .builtin .unsafeSliceData,args:=#[x],argTypes:=#[t]}){d:aO}(g:bB x=some d)
 {p v J'}(j:n key=false)(h:aM (.sdata d) env J key=some (p,v,J'))(aj:p):Good P av nt env J' (ins n key) a v ((execOp a.eval o).run P w):=by
 simp only[aM,bf]at h;obtain⟨⟨l,m⟩,f,he⟩:=h;simp at he;split at he
 . rename_i b len;obtain⟨rfl,rfl,rfl⟩:=he;have ak:=cl R g f aj;obtain⟨k,i,bb⟩:=ak.1.dT;by_cases h0:(φ b).2=0
   . refine Good.pure R ?_ (.c ⟨none,rfl,λh=>absurd h0 h⟩) (by grind[V.ay,C.ay]);simp[execOp,e,Go.resolve,invoke,builtin,i h0,Go.Lib.run_unsafeSliceData_nil]
   . refine Good.pure R ?_ (.c ⟨_,rfl,λ_=>rfl⟩) (by grind[V.ay,C.ay]);simp[execOp,e,Go.resolve,invoke,builtin,bb h0,Go.Lib.run_unsafeSliceData_row _ _ _ _ _ _ h0]
 grind
theorem Wc{b m:Nat}{a:Addr}(c:b≠a.block):(w.freeze a m).heap[b]?=w.heap[b]?:=by
 grind[World.freeze]
theorem U8(a:Addr)(m:Nat):(w.freeze a m).os=w.os/\(w.freeze a m).tape=w.tape/\(w.freeze a m).output=w.output/\(w.freeze a m).heap.size=w.heap.size:=by
 grind[World.freeze]
theorem W8(R:Rel av nt φ S env J n a w){x y:Operand}{cA it e:TypeId}(I:o.op= .call {callee:= .builtin .unsafeString,args:=#[x,y],argTypes:=#[cA,it]})
 (M:P.underlying cA=some (.pointer e))(E:P.cellsOf e=1){q s:aO}(O:bB x=some q)(g:bB y=some s)
 {p v J'}(d:n key=false)(h:aM (.ustr e q s) env J key=some (p,v,J'))(aj:p):Good P av nt env J' (ins n key) a v ((execOp a.eval o).run P w):=by
 simp only[aM,bf]at h;obtain⟨⟨ae,ag⟩,F,⟨af,ah⟩,G,he⟩:=h;simp only at he;split at he
 . rename_i b m;split at he
   . rename_i t es i;obtain⟨rfl,rfl,rfl⟩:=he;obtain⟨K,L,rfl,rfl⟩:=aj;obtain⟨Q,h1,Z⟩:=(cl R O F K).1.dT;have C:=(cl R g G L).1.fp;have D:=R.bD.blk _ _ i;obtain⟨g1,g2,g3⟩:=D;have A:∀w',bM w' S (.str es) (.string ⟨es.toArray⟩):=by
      intro w';have:=bM.str (w:=w') (S:=S) (⟨es.toArray⟩:ByteArray) (by rw[<-uw];grind[dm,eo]);omega
     have z:∀r w',(Builtin.unsafeString_ #[cA,it] o.type #[a.eval x,a.eval y]).run P w= .ok r w'->(execOp a.eval o).run P w= .ok (.value r) w':=by
      intro r w' u;simp[execOp,I,Go.resolve,invoke,builtin,u]
     by_cases f:es=[]
     . subst f;refine⟨.string ⟨#[]⟩,φ,S,w,.inl (z _ _ ?_),.c (A w),rfl,(R.del b).more λ_ h=>kD h⟩;rw[h1,C];exact Go.Lib.run_unsafeString_none w cA it o.type Q
     . have Y:=yg.2 f;have l:(φ b).2≠0:=(by omega);obtain⟨⟨vs,aa,ab,ad⟩,H⟩:=g3 l;have N:w.shape? (φ b).1=some (t,vs.length):=by grind[World.shape?]
       have u:=Go.Lib.run_unsafeString_row (P:=P) w cA it o.type t M E _ vs.length N es f (by omega) (by grind[dm]) (λj c X=>by
        grind[Addr.add,iH])
       obtain⟨T,U,V,W⟩:=U8 (w:=w) ⟨(φ b).1,0,none⟩ es.length
       have B:=(R.del b).world _ T U V (sR W.symm) (λk _ d=>Wc d) (λk d=>by
        subst d;refine⟨H,λk y g d=>?_,R.own b _ i l⟩;rw[fk]at g;split at g
        . grind
        . rename_i f
          exactλe=>R.bD.inj k b y _ g i (dx f) d l e)
       refine⟨.string _,φ,S,_,.inl (z _ _ ?_),.c (A _),rfl,B.more λ_ h=>kD h⟩;grind
   grind
 grind
end
section
variable {P:Program}{av:Ctx}{nt:Nat}{φ:cZ}{S:c0}{env:Env}{J:aZ}{n:Nat->Bool}{key:Nat}{a:Act}{w:World}
theorem EO{d:Nat}{e:TypeId}{k:Nat}(c:pf P e=some k){xs ys:Array Value}:∀{m i:Nat} {ps qs:List C} {us vs:List Value} {r:Bool},
 k' (List.replicate m k) ps qs=some r->aX (bn φ w S) ps us->aX (bn φ w S) qs vs->xs.toList.drop i=us->ys.toList.drop i=vs->(Op.eqItems (d+1) e 1 xs ys (List.range' i m)).run P w= .ok r w
 |0,i,ps,qs,us,vs,r,a,_,_,_,_=>by
  cases ps<;>cases qs<;>simp[k']at a;subst a;simp[Op.eqItems]
 |m+1,i,ps,qs,us,vs,r,a,D,E,aK,f=>by
  have t:=H7 c;have g:∀(l:Array Value) (z:Value) (j:List Value),l.toList.drop i=z::j->(part e l (i*1)).run P w= .ok z w:=λl z j F=>by
   have:l[i]?=some z:=by
    have:=dK (·[0]?) F;simpa using this
   simp[part,sA t,this]
  rw[List.replicate_succ]at a;cases ps with
  |nil=>simp[k']at a
  |cons p ps=>cases qs with
   |nil=>cases p<;>simp[k']at a
   |cons q qs=>
    cases p<;>cases q<;>simp only[k',bf,bu]at a<;>try cases a
    rename_i x y b h;obtain⟨A,G,B,rfl⟩:=h;cases D with
    |cons h1 n=>cases E with
     |cons o s=>
      rename_i u us v vs;have f1:xs.toList.drop (i+1)=us:=by rw[<-vi,aK];rfl
      have f2:ys.toList.drop (i+1)=vs:=by rw[<-vi,f];rfl
      have ih:=EO (d:=d) c (m:=m) (i:=i+1) B n s f1 f2;rw[x7];simp only[Op.eqItems,Sem.run_bind,g xs u us aK,g ys v vs f,Result.andThen_ok,H6 A c h1 o d];cases b with
      |true=>simpa using ih
      |false=>simp
variable{y:Operand}
theorem Wd(R:Rel av nt φ S env J n a w){op:BinOp}{ty:TypeId}(H:o.op= .binOp op ty x y yt)(s:op= .eql\/op= .neq){ks:aW}(b:G6 P ty=some ks)
 {g j:aO}(K:bB x=some g)(L:bB y=some j)
 {p v J'}(M:n key=false)(h:aM (.eqAgg (op== .neq) ks g j) env J key=some (p,v,J'))(aj:p):Good P av nt env J' (ins n key) a v ((execOp a.eval o).run P w):=by
 simp only[aM,bf]at h;obtain⟨⟨N,Q⟩,E,⟨O,T⟩,F,he⟩:=h;simp only at he;split at he
 . rename_i ps qs;simp only[bu,ef]at he;obtain⟨r,I,rfl,rfl,rfl⟩:=he;obtain⟨us,c,z⟩:=(cl R K E aj.1).1.lu;obtain⟨vs,f,A⟩:=(cl R L F aj.2).1.lu;unfold G6 at b;split at b
   . rename_i m e D;simp only[ey,bu]at b;obtain⟨⟨hs,ak⟩,k,G,rfl⟩:=b;unfold eg at hs;simp only[bu]at hs;obtain⟨i,q,hs⟩:=hs;have B:P.cellsOf e=1:=(by simp[Program.cellsOf,q,hs]);have t:(eqGuard op ty x y (a.eval x) (a.eval y)).run P w= .ok () w:=by rcases s with rfl|rfl<;>simp[eqGuard,c,f,ak]
     have l:(Op.equal ty (.agg us.toArray) (.agg vs.toArray)).run P w= .ok r w:=by
      obtain⟨d,C⟩:∃d,Op.maxDepth=d+2:=⟨9998,rfl⟩
      unfold Op.equal;rw[C,run_equalIn_array w (d+1) _ _ D q,B,List.range_eq_range'];exact EO G I z A (by simp) (by simp)
     have u:(binOp op ty (a.eval x) (a.eval y)).run P w= .ok (.bool (if(op== .neq)then !r else r)) w:=by
      rcases s with rfl|rfl
      . rw[c,f];simp only[binOp,Sem.run_bind,l];rfl
      . rw[c,f];simp only[binOp,Sem.run_bind,l];rfl
     refine Good.pure R (x:= .bool (if(op== .neq)then !r else r)) ?_ (.n' _) rfl;simp[execOp,H,t,u]
   . cases b
 . cases he
theorem W9(R:Rel av nt φ S env J n a w){ty:TypeId}{i:Operand}(y:o.op= .index ty x i){k:Nat}(C:P.underlying ty=some (.array k e))(ad:mu P e=some (false,1))
 {d b:aO}(G:bB x=some d)(s:bB i=some b)
 {p v J'}(K:n key=false)(h:aM (.idxV k d b) env J key=some (p,v,J'))(aj:p):Good P av nt env J' (ins n key) a v ((execOp a.eval o).run P w):=by
 simp only[aM,bf]at h;obtain⟨⟨N,Q⟩,r,⟨M,O⟩,q,he⟩:=h;simp only at he;split at he
 . rename_i cs kk m;simp only[ey,dP,ef]at he;obtain⟨I,rfl,rfl,rfl⟩:=he;obtain⟨A,B,t,L⟩:=aj;have g1:=cl R G r A;obtain⟨us,D,j⟩:=g1.1.lu;have f:=(cl R s q B).1.fp;unfold mu at ad;simp only[bf]at ad;obtain⟨g,ak,z,H,ad⟩:=ad;split at ad
   . cases ad;have aE:m.toNat<cs.length:=(by omega);obtain⟨u,E,F⟩:=j.get (show cs[m.toNat]?=some (cs.getD m.toNat .dead) by rw[List.getD,eF aE];rfl);refine Good.pure R (x:=u) ?_ (.c F) ?_
     . have l:us.toArray[m.toNat*1]?=some u:=(by simpa using E);simp only[execOp,y,Sem.run_bind,D,f,Instr.index,asIntOf,run_underlying C,Result.andThen_ok,Sem.run_pure];rw[af ⟨t,by omega⟩];simp only[Sem.run_bind,i' H,Result.andThen_ok,part,sA ak,l];rfl
     . have:=g1.2;simp only[V.ay,f']at this⊢;refine this _ ?_;rw[List.getD,eF aE];exact x6 aE
   . cases ad
 . cases he
theorem Vv{ty:TypeId}(j:P.underlying ty=some (.slice e)){i:TypeInfo}{a:Value}(b:P.info? e=some i)(p:i.zero=some a){k:IntKind}{m:Int}(h0:0<=m)(d:m.toNat*i.bytes<=hr)(f:m.toNat<=dm):
 (Instr.makeSlice ty (.int k m) (.int k m)).run P w= .ok (.slice (some ⟨w.heap.size,0,none⟩) m.toNat m.toNat) (w.alloc (.cells ((Array.range (m.toNat*i.size)).map (a.cells[· % a.cells.size]!)) e)):=by
 obtain⟨c,rfl⟩:∃c:Nat,m=(c:Int):=⟨m.toNat,by omega⟩
 simp only[kb]at*;unfold dm at f;have n:IntKind.i64.wrap (c:Int)=(c:Int):=by
  simp[IntKind.wrap,IntKind.signed,IntKind.bits];omega
 have l:∀w,(typeInfo e).run P w= .ok i w:=λw=>by simp[typeInfo,b]
 have g:∀w,(sizeOf e).run P w= .ok i.size w:=λw=>by simp[sizeOf,typeInfo,b]
 have o:∀w,(zeroValue e).run P w= .ok a w:=λw=>by simp[zeroValue,typeInfo,b,p]
 have q:¬((i.bytes:Int)*(c:Int)>2^48):=by
  unfold hr at d;rw[<-Int.natCast_mul,Nat.mul_comm];omega
 unfold Instr.makeSlice;simp only[asInt,asIntOf,Sem.run_bind,run_underlying j,Result.andThen_ok,Sem.run_pure,l,n];rw[dE];simp only[Sem.run_bind,run_askRoom,Result.andThen_ok,kb,g];by_cases h:c*i.size=0
 . simp only[h,b7,Sem.run_bind,Sem.run_pure,Result.andThen_ok,show Array.range 0=#[]from rfl,List.map_toArray,Array.map_empty];rfl
 . simp only[h,b4,Sem.run_bind,o,Sem.run_pure,Result.andThen_ok];rfl
theorem U9(R:Rel av nt φ S env J n a w){ty:TypeId}(T:o.op= .makeSlice ty x y)(W:P.underlying ty=some (.slice e))(f:Ej x y=true){i:TypeInfo}(A:P.info? e=some i)
 {z:List C}(Y:jO P e=some z)(h0:i.size≠0)(G:z.length=i.size){s:aO}(l:bB x=some s)
 {p v J'}(N:n key=false)(h:aM (.mslice i.size i.bytes z s) env J key=some (p,v,J'))(aj:p):Good P av nt env J' (ins n key) a v ((execOp a.eval o).run P w):=by
 have hs:x=y:=by
  unfold Ej at f;split at f
  . rw[gk f]
  . cases f
 subst hs;simp only[aM,bf]at h;obtain⟨⟨ai,ak⟩,M,r,H,he⟩:=h;simp only at he;split at he
 . rename_i kk m;simp only[dP,ef]at he;obtain⟨rfl,rfl,rfl⟩:=he;obtain⟨U,O,Q,E⟩:=aj;have L:=(cl R l M U).1.fp;obtain⟨ah,b,B,ad,u,af⟩:=rB (φ:=φ) (w:=w) (S:=S) (n:=n) Y;rw[A]at B;cases B;have aa:=qd H u;have Z:b.cells.size=i.size:=by rw[<-As,<-u.length,G]
   have F:0<i.size:=(by omega);have ab:r.length=i.size:=by rw[uo H,G]
   generalize g:m.toNat=len at*;have I:=R.alloc (.cells ((Array.range (len*i.size)).map (b.cells[· % b.cells.size]!)) e);have ae:=R.va (.cells ((Array.range (len*i.size)).map (b.cells[· % b.cells.size]!)) e)
   have K:=I.je N (x:= .arr i.size (List.replicate len r)) (w.heap.size,len) rfl (by
    simp only[cP,dn];refine⟨by simp,by simpa using E,λe he=>by rw[DM he];exact ab,F,λ_=>⟨((Array.range (len*i.size)).map (b.cells[· % b.cells.size]!)).toList,e,by rw[Array.toArray_toList];exact heap_alloc_new,by simp,λa j q t he ht=>?_,λj h=>?_⟩⟩
    . have D:=(dV.1 he).1;simp at D;have:q=r:=DM (e7 he);subst this;have ag:=(dV.1 ht).1;obtain⟨x,l,d⟩:=aa.get ht;refine⟨x,?_,bM.mono ae d⟩;rw[DQ,FV Z F a j D (by omega)];simpa using l
    . have:=R.bD.st _ _ h
      omega) (λ_=>⟨λk y X h0=>by
       have:=(R.bD.blk k y X).jk h0
       simp;omega,.inr R.ext.size⟩)
   refine⟨.slice (some ⟨w.heap.size,0,none⟩) len len,_,S,_,.inl ?_,.c ⟨some ⟨w.heap.size,0,none⟩,by simp[dn],by simp[dn],by simp[dn]⟩,by simp[V.ay,C.ay,ins],K⟩;have d:=Vv (P:=P) (w:=w) W A ad (k:=kk) O (by rw[g];exact Q) (by rw[g];exact E);rw[g]at d;simp only[execOp,T,Sem.run_bind,L,d,Result.andThen_ok];rfl
 . cases he
theorem u2{x:Array α}{a b:α}(h:x.toList=[a,b]):x=#[a,b]:=by grind
theorem G8{x:Array α}{a:α}(h:x.toList=[a]):x=#[a]:=by grind
theorem W'(R:Rel av nt φ S env J n a w)(r:o.op= .call c){z:cH}(b:mi P c=some z)
 {p v J'}(q:n key=false)(h:aM z env J key=some (p,v,J'))(aj:p):Good P av nt env J' (ins n key) a v ((execOp a.eval o).run P w):=by
 obtain⟨callee,args,argTypes⟩:=c;unfold mi at b;split at b
 . grind[G8,bu,X5]
 . rename_i l;split at b
   . rename_i x y t u d ht;have d:=u2 d;have ht:=u2 ht;subst l;subst d;subst ht;split at b
     . rename_i e j s;simp only[bf,ey,dP]at b;obtain⟨i,m,A,f,B,g,⟨h1,k,C⟩,rfl⟩:=b;exact Vt R r j s m h1 k f g q h aj
     . rename_i e D j s;simp only[bf,ey,dP]at b;obtain⟨i,m,A,f,B,g,⟨h1,k⟩,rfl⟩:=b;exact Vu R r j s m h1 k f g q h aj
     . cases b
   grind
 . grind[u2,bf,bu,V1]
 . grind[u2,bf,bu,VF]
 . split at b
   . rename_i x t d ht;have d:=G8 d;have ht:=G8 ht;subst d;subst ht;split at b
     . simp only[ey,bu]at b;grind[Wb]
     . cases b
   grind
 . rename_i l;split at b
   . rename_i x y t u d ht;have d:=u2 d;have ht:=u2 ht;subst l;subst d;subst ht;split at b
     . rename_i e j;simp only[ey,bf,bu]at b;obtain⟨⟨_,_,C⟩,A,f,B,g,rfl⟩:=b;exact W8 R r j C f g q h aj
     grind
   grind
 . grind[bu,aM]
 . grind[bu,aM]
 grind
theorem Good.mono{v:V}{J':aZ}{cV c:Nat->Bool}(h:∀b,cV b=true->c b=true){r:Result Next}(g:Good P av nt env J' cV a v r):Good P av nt env J' c a v r:=by
 obtain⟨x,bc,bd,w',h1,e,f,R'⟩:=g;exact⟨x,bc,bd,w',h1,e,V.hg h f,R'.more h⟩
theorem We(R:Rel av nt φ S env J n a w){N:cH}(b:cY P o.op=some N)
 (ag:∀e e8,N≠.allocS e e8){p v J'}(l:n key=false)(h:aM N env J key=some (p,v,J'))(aj:p):Good P av nt env J' (ins n key) a v ((execOp a.eval o).run P w):=by
 generalize q:o.op=op at b;cases op with
 |move x=>simp only[cY,bu]at b;obtain⟨A,j,rfl⟩:=b;exact H4 R (.inl q) j l h aj
 |assign x=>simp only[cY,bu]at b;obtain⟨A,j,rfl⟩:=b;exact H4 R (.inr q) j l h aj
 |pick c x y=>
  simp only[cY,bf,bu]at b;obtain⟨ac,X,A,j,F,C,rfl⟩:=b;exact VX R q X j C l h aj
 |alloc e=>
  simp only[cY]at b;split at b
  . cases b;exact absurd rfl (ag _ _)
  . simp only[bf]at b;obtain⟨cs,T,b⟩:=b;split at b
    . split at b
      . rename_i X;cases b;exact U4 R q T (by omega) (by omega) l h aj
      . cases b;exact Qh R q T l h aj
    . cases b;exact Qh R q T l h aj
 |box e x=>simp only[cY,bu]at b;obtain⟨A,j,rfl⟩:=b;exact X7 R q j l h aj
 |build t parts=>
  simp only[cY]at b;split at b
  . rename_i fs I;simp only[ey,bf,bu]at b;obtain⟨h1,z,H,ps,K,rfl⟩:=b;exact V6 R q I h1 H K l h aj
  . simp only[bf,bu]at b;rename_i len e B;obtain⟨z,H,m,D,ps,K,rfl⟩:=b;exact Vl R q B D H K l h aj
  . cases b
 |buildSlice t len parts=>
  simp only[cY]at b;split at b
  . rename_i e B;simp only[bf,ey,dP]at b;obtain⟨m,D,z,H,ps,K,⟨h1,O,Q⟩,rfl⟩:=b;exact U1 R q B D H K h1 O Q l h aj
  . cases b
 |load t x=>
  simp only[cY,bf,bu]at b;obtain⟨g,ak,A,j,rfl⟩:=b;exact VL R q ak j l h aj
 |store t x y=>
  simp only[cY,bf,bu]at b;obtain⟨m,D,A,j,F,C,rfl⟩:=b;exact V5 R q D j C l h aj
 |nilCheck x=>simp only[cY,bu]at b;obtain⟨A,j,rfl⟩:=b;exact Vk R q j l h aj
 |binOp op t x y yt=>
  simp only[cY]at b;split at b
  . rename_i W;split at b
    . simp only[bf,bu]at b;obtain⟨ks,V,A,j,F,C,rfl⟩:=b;exact Wd R q W V j C l h aj
    . simp only[bf,bu]at b;obtain⟨ks,V,A,j,F,C,rfl⟩:=b;exact V4 R q W V j C l h aj
    . simp only[ey,bu]at b;grind[aM]
    . rename_i B;simp only[bf,bu]at b;obtain⟨A,j,F,C,rfl⟩:=b;exact UZ R q W B j C l h aj
    . simp only[bf,bu]at b;obtain⟨A,j,F,C,rfl⟩:=b;exact Gw R q j C l h aj
    . simp only[bf,bu]at b;obtain⟨A,j,F,C,rfl⟩:=b;exact Gw R q j C l h aj
    . cases b
  . simp only[bf,bu]at b;obtain⟨A,j,F,C,rfl⟩:=b;exact Gw R q j C l h aj
 |unOp u t x=>
  cases u<;>simp only[cY,bu,reduceCtorEq]at b
  . split at b
    . simp only[bu]at b;obtain⟨A,j,rfl⟩:=b;exact XZ R q j l h aj
    . cases b
  . split at b
    . simp only[bu]at b;obtain⟨A,j,rfl⟩:=b;exact X0 R q j l h aj
    . cases b
  . obtain⟨A,j,rfl⟩:=b;exact XY R q j l h aj
 |convert s d x=>
  simp only[cY]at b;split at b
  . rename_i hs G;simp only[bu]at b;obtain⟨A,j,rfl⟩:=b;exact VZ R q hs G j l h aj
  . rename_i hs G;simp only[bu]at b;obtain⟨A,j,rfl⟩:=b;exact X1 R q hs G j l h aj
  . rename_i hs G;simp only[bu]at b;obtain⟨A,j,rfl⟩:=b;exact X2 R q hs G j l h aj
  . rename_i e hs G;simp only[ey,bu]at b;obtain⟨⟨he,Y⟩,A,j,rfl⟩:=b;have af:P.underlying e=some (.int .u8):=(by grind);exact Xr R q hs af G j l h aj
  . cases b
 |fieldAddr t x f=>
  simp only[cY]at b;split at b
  . rename_i fs I;simp only[bf,AD,bu]at b;obtain⟨ae,U,m,D,L,A,j,rfl⟩:=b;exact V0 R q I U D L j l h aj
  . cases b
 |field t x f=>
  simp only[cY]at b;split at b
  . rename_i fs I;simp only[bf,bu]at b;obtain⟨ae,U,g,ak,A,j,rfl⟩:=b;obtain⟨h1,O,Q⟩:=Fs ak;exact X3 R q I U O h1 Q j l h aj
  . cases b
 |indexAddr t x i=>
  simp only[cY]at b;split at b
  . rename_i e B;simp only[bf,AD,bu]at b;obtain⟨m,D,L,A,j,M,E,rfl⟩:=b;exact VG R q B D L j E l h aj
  . rename_i k e B;split at b
    . simp only[ey,bf,bu]at b;obtain⟨h0,s,hs,A,j,rfl⟩:=b;exact W3 R q B h0 hs j l h aj
    . simp only[ey,bf,bu]at b;obtain⟨Y,A,j,M,E,rfl⟩:=b;exact W2 R q B Y j E l h aj
  . cases b
 |index t x i=>
  simp only[cY]at b;split at b
  . rename_i B;simp only[bf,bu]at b;obtain⟨A,j,M,E,rfl⟩:=b;exact VH R q B j E l h aj
  . rename_i B;simp only[ey,bf,bu]at b;obtain⟨ad,A,j,M,E,rfl⟩:=b;exact W9 R q B ad j E l h aj
  . cases b
 |slice t x ai E al=>
  simp only[cY]at b;split at b
  . rename_i B;simp only[ey,bf,bu,Option.isNone_iff_eq_none]at b;obtain⟨rfl,A,j,ab,ad,Z,aa,rfl⟩:=b;exact VJ R q B j ad aa l h aj
  . rename_i e B;split at b
    . simp only[bf,AD,bu]at b;obtain⟨m,D,L,A,j,ab,ad,Z,aa,rfl⟩:=b;exact X6 R q B D j ad aa l h aj
    . split at b
      . simp only[ey,bu]at b;grind[Option.isSome_iff_exists,VK]
      . cases b
    . cases b
  . simp only[ey,bf,bu,Option.isNone_iff_eq_none]at b;grind[W4]
  grind
 |makeFunc fn first caps=>
  cases fn<;>simp only[cY,ey,bu,reduceCtorEq]at b;grind[VI]
 |extract x i=>grind[cY,bu,X4]
 |makeSlice t x y=>
  simp only[cY]at b;split at b
  . rename_i B;simp only[ey,bf,bu]at b;obtain⟨ah,i,E,z,H,⟨h0,ad⟩,A,j,rfl⟩:=b;exact U9 R q B ah E H h0 ad j l h aj
  . cases b
 |makeMap t r=>
  cases r with
  |some _=>simp[cY]at b
  |none=>
   simp only[cY,ey,dP]at b;grind[V8]
 |lookup t x i c=>
  cases c with
  |true=>simp[cY]at b
  |false=>
   simp only[cY,ey,bf,bu]at b;grind[V9]
 |mapUpdate t m k v0=>
  simp only[cY,ey,bf,bu]at b;grind[V']
 |call c=>grind[cY,W']
 |_=>simp[cY]at b
def ew(n:Nat->Bool)(k:Nat):Nat->Bool:=λb=>n b||(decide (k<=b)&&decide (b<k+16))
theorem lN{b:Nat}(h:n b=true):ew n key b=true:=by grind[ew]
theorem Iq{b:Nat}(h:ins n key b=true):ew n key b=true:=by
 grind[ins,ew]
theorem Pw{b:Bool}{op:Op}{a:cH}(h:uv P b op=some a):cY P op=some a\/∃t len parts e m z ps,op= .buildSlice t len parts/\P.underlying t=some (.slice e)/\eg P e=some m/\jO P e=some z/\oL parts.toList=some ps/\m≠0/\z.length=m/\len*m<=2^24/\a= .bsliceT e m len z ps:=by
 unfold uv at h;grind[bf]
theorem UD{op:Op}{e e8:Nat}(h:cY P op=some (.allocS e e8)):op= .alloc e/\xq P e=some e8:=by
 cases op with
 |alloc a=>
  grind[cY,bf]
 |buildSlice t len parts=>
  simp[cY]at h;split at h
  . simp_all[bf]
  grind
 |build t parts=>
  simp[cY]at h;split at h
  . simp_all[bf]
  . grind[bf,bu]
  grind
 |call c=>
  simp[cY]at h;unfold mi at h
  repeat' (first|(split at h)|(done))
  all_goals simp only[bf,bu,ey,dP,reduceCtorEq,pj,x8,exists_const]at h
 |binOp op t x y yt=>
  simp only[cY]at h
  repeat' (first|(split at h)|(cases h;done))
  all_goals simp only[bf,bu,ey,dP,reduceCtorEq,pj,x8,exists_const]at h
 |unOp u t x=>
  cases u<;>simp only[cY]at h
  all_goals repeat' (first|(split at h)|(cases h;done))
  all_goals simp_all
 |makeMap t r=>cases r<;>simp only[cY,reduceCtorEq,ey,dP,pj]at h
 |lookup t x i c=>cases c<;>simp only[cY,reduceCtorEq,ey,bf,bu,pj,x8]at h
 |makeFunc fn first caps=>cases fn<;>simp only[cY,ey,bu,reduceCtorEq,pj,x8]at h
 |convert s d x=>
  simp only[cY]at h
  repeat' (first|(split at h)|(cases h;done))
  all_goals simp_all
 |_=>
  simp only[cY]at h
  try repeat' (first|(split at h)|(cases h;done))
  all_goals simp only[bf,bu,ey,AD,reduceCtorEq,pj,x8,exists_const]at h
theorem Xa(R:Rel av nt φ S env J n a w){f:cH}{j:Bool}(d:uv P j o.op=some f)
 {p v J'}(aP:∀b,key<=b->b<key+16->n b=false)(h:aM f env J key=some (p,v,J'))(aj:p):Good P av nt env J' (ew n key) a v ((execOp a.eval o).run P w):=by
 have g:=aP _ (e9 _) (by simp);rcases Pw d with d|⟨t,len,parts,e,m,z,ps,i,u,r,x,s,h1,k,l,rfl⟩
 . by_cases hs:∃e e8,f= .allocS e e8
   . obtain⟨e,e8,rfl⟩:=hs;obtain⟨i,q⟩:=UD d;refine(U5 R i q g (aP _ (by simp) (by simp)) h aj).mono λb c=>?_;grind[ins,ew]
   . exact(We R d (λe e8 he=>hs ⟨e,e8,he⟩) g h aj).mono λb c=>Iq c
 . exact(Vs R i u r x s h1 k l g h aj).mono λb c=>Iq c
end
def hB(P:Program)(f:Nat)(args:List V)(J:aZ)(key:Nat)(K:V->aZ->Prop):Prop:=
 ∀av nt φ S env n a w,Rel av nt φ S env J n a w->(∀b,key<=b->b<key+16->n b=false)->V.ay.V.dw n args=true->∀vs:List Value,aX (bW φ w S) args vs->
  Calls P f vs.toArray w λe w'=>∃v r bc bd J',e= .returned v/\K r J'/\bW bc w' bd r v/\r.ay (ew n key)=true/\Rel av nt bc bd env J' (ew n key) a w'
theorem hB.mono{P:Program}{args:List V}{J:aZ}{key:Nat}{K c:V->aZ->Prop}(h:hB P f args J key K)(p:∀r J',K r J'->c r J'):hB P f args J key c:=
 λav nt φ S env n a w R aP o vs q=>(h av nt φ S _ n a w R aP o vs q).mono λe w' ⟨v,r,bc,bd,J',h1,g,j⟩=>⟨v,r,bc,bd,J',h1,p _ _ g,j⟩
def fX(env:Env):Option (Nat×Bool)->Option Bool
 |none=>some true
 |some (t,b)=>match look env t with
  |some (g,.c (.t (.bool x)))=>some (g&&(x==b))
  |_=>none
def en(env:Env)(dst:Option Nat)(g:Bool)(v:V):Env:=
 match dst with
 |none=>env
 |some d=>(d,g,v)::env
def rh(b:Bool):V:= .c (.t (.bool b))
def ha(P:Program)(o:bZ)(key:Nat)(env:Env)(J:aZ)(K:Env->aZ->Prop):Prop:=
 match fX env o.guard with
 |none=>False
 |some g=>(g=false/\∃v,K (en env o.dst g v) J)\/
  match o.op with
  |.call f args=>match hv env args with
   |some (p,vs)=>match o.guard with
    |none=>p/\hB P f vs J key (λr J'=>K (en env o.dst true r) J')
    |some _=>(g=true/\p/\hB P f vs J key (λr J'=>K (en env o.dst true r) J'))\/∃r,(g=true->p/\hB P f vs J key (λa J'=>a=r/\J'=J))/\K (en env o.dst g r) J
   |none=>False
  |.hW x args=>match x.get env,hv env args with
   |some (q,.c (.fn f caps)),some (p,vs)=>o.guard=none/\hb P f=true/\q/\p/\hB P f (vs++caps.map (λb=>V.c (.ptr b 0))) J key (λr J'=>K (en env o.dst true r) J')
   |_,_=>False
  |.eqNil neg x=>match x.get env with
   |some (p,.c (.t (.slice es)))=>o.guard=none/\p/\∀b:Bool,(es≠[]->b=false)->K (en env o.dst true (rh (if neg then !b else b))) J
   |some (p,.c .aL)=>o.guard=none/\p/\∀b:Bool,K (en env o.dst true (rh (if neg then !b else b))) J
   |some (p,.c (.arr _ _ _ l))=>o.guard=none/\p/\∀b:Bool,(l≠0->b=false)->K (en env o.dst true (rh (if neg then !b else b))) J
   |_=>False
  |op=>match aM op env J key with
   |some (p,v,J')=>(g=true->p)/\(op.neutral=true\/g=true)/\K (en env o.dst g v) (if op.neutral then J else J')
   |none=>False
def kr(P:Program):List bZ->Nat->Env->aZ->(Env->aZ->Prop)->Prop
 |[],_,env,J,K=>K env J
 |o::r,key,env,J,K=>ha P o key env J λenv' J'=>kr P r (key+16) env' J' K
section
variable {P:Program}{av:Ctx}{nt:Nat}{φ:cZ}{S:c0}{env:Env}{J:aZ}{n:Nat->Bool}{key:Nat}{a:Act}{w:World}
theorem mm{v:V}{k:Nat}:look (en env dst g v) k=if dst=some k then some (g,v)else look env k:=by
 unfold en;grind[look]
theorem Rel.wa(R:Rel av nt φ S env J n a w)(o:∀d,dst=some d->d<nt){x:Value}{v:V}(q:g=true->bW φ w S v x)(p:g=false->x=undef)(j:g=true->v.ay n=true):
 Rel av nt φ S (en env dst g v) J n (a.put dst x) w:=by
 have f:∀k,(a.put dst x).tmps[k]?=if dst=some k then some x else a.tmps[k]?:=by
  cases dst with
  |none=>simp[Act.put]
  |some d=>
   have aE:d<a.tmps.size:=by rw[R.size];grind
   grind[Act.put]
 refine⟨R.bD,λk c e ad ak=>?_,λk c e ad ak=>?_,λk c e ad ak=>?_,R.dG,?_,?_,R.ext,R.own,R.fix,R.gy⟩
 . rw[mm]at ad;rw[f];split at ad
   . grind
   . rename_i h;rw[al h];exact R.fZ k c e ad ak
 . rw[mm]at ad;rw[f];split at ad
   . grind
   . rename_i h;rw[al h];exact R.gN k c e ad ak
 . rw[mm]at ad;split at ad
   . grind
   . exact R.fY k c e ad ak
 . cases dst<;>simp[Act.put,R.size]
 . cases dst<;>simp[Act.put,R.defers]
theorem Qk(R:Rel av nt φ S env J n a w){ops:Array Oper}(b:rz ops o.guard=some gd)(ak:fX env gd=some g):Region.wanted o (yielded ops a.tmps)=g:=by
 unfold Region.wanted;cases i:o.guard with
 |none=>
  grind[rz,fX]
 |some k=>
  rw[i]at b;simp only[rz,bu]at b;obtain⟨d,f,rfl⟩:=b;simp[fX]at ak;split at ak
  . rename_i c x ad;simp at ak;subst ak;simp[yielded,f];cases e:c with
    |true=>
     obtain⟨y,j,b⟩:=R.fZ d c _ ad e;have:=b.iX;grind
    |false=>
     have:=R.gN d c _ ad e;simp only[this];rfl
  grind
def jr(av:Ctx)(nt:Nat)(n:Nat->Bool)(K:Env->aZ->Prop)(a:Act)(w:World):Prop:=∃φ S env J,K env J/\Rel av nt φ S env J n a w
theorem Wf  (h:hb P f = true):∃ fn,P.funcs[f]? = some fn/\fn.body.isSome = true/\(fn.name == "runtime.NumGoroutine") = false:= by
 grind[hb]
theorem U'(h:hb P f=true)(args:Array Value)(w:World):(callFunc f args).run P w= .ok (.enter f args) w:=by
 obtain⟨fn,h1,a,b⟩:=Wf h;obtain⟨c,d⟩:=DN.1 a;simp only[callFunc,Sem.run_bind,run_program,Result.andThen_ok,h1,b,d,ca,b4,Option.isNone_some,Sem.run_pure]
theorem xl{o:cH}(h:o.neutral=true){p v J'}(a:aM o env J key=some (p,v,J')):J'=J:=by
 cases o<;>simp[cH.neutral]at h<;>simp only[aM,bf,bu]at a
 all_goals
  (try (obtain⟨a1,h1,a⟩:=a))
  (try (obtain⟨a2,b,a⟩:=a))
  (try (obtain⟨a3,c,a⟩:=a))
  (try split at a)
  (try (simp_all;done))
 all_goals repeat' (first|(cases a;done)|(cases a;rfl)|(simp only[bu]at a;obtain⟨_,_,_,_,rfl⟩:=a;rfl)|split at a)
theorem Pm{ops:Array Oper}{a:bZ}(h:um P nt ops o=some a):
 uv P (Rr ops o) o.op=some a.op/\rz ops o.guard=some a.guard/\a.dst=o.dst/\∀d,a.dst=some d->d<nt:=by
 grind[um,bf]
theorem w7{b:Bool}{op:Op}{a:cH}(h:uv P b op=some a)(c:∀e m l z ps,a≠.bsliceT e m l z ps):cY P op=some a:=by
 grind[Pw]
theorem Ft{ops:Array Oper}{g:Option (Nat×Bool)}(h:rz ops o.guard=some g)(ak:g=none):o.guard=none:=by
 cases a:o.guard with
 |none=>rfl
 |some x=>
  grind[rz,bu]
theorem Gy{a:cH}(h:cY P (.alloc e)=some a)(h1:∀cs,a≠.alloc cs)(b:∀cs,a≠.allocA cs)(c:∀e e8,a≠.allocS e e8):False:=by
 grind[cY,bf]
theorem P2{op:Op}{args:List aO}(h:cY P op=some (.call f args)):∃c,op= .call c/\mi P c=some (.call f args):=by
 cases op with
 |call c=>exact⟨c,rfl,h⟩
 |alloc e=>exfalso;exact Gy h (by simp) (by simp) (by simp)
 |makeMap t r=>cases r<;>simp[cY]at h
 |lookup t x i c=>cases c<;>simp[cY,bf]at h
 |unOp u t x=>
  cases u<;>simp[cY]at h
  all_goals (repeat' split at h)<;>(first|(done)|simp at h)
 |makeFunc fn b c=>cases fn<;>simp[cY]at h
 |_=>
  simp only[cY]at h
  (repeat' split at h)<;>(first|(cases h)|simp[bf,bu]at h)
theorem PU{op:Op}{x:aO}{args:List aO}(h:cY P op=some (.hW x args)):∃c,op= .call c/\mi P c=some (.hW x args):=by
 cases op with
 |call c=>exact⟨c,rfl,h⟩
 |alloc e=>exfalso;exact Gy h (by simp) (by simp) (by simp)
 |makeMap t r=>cases r<;>simp[cY]at h
 |lookup t x i c=>cases c<;>simp[cY,bf]at h
 |unOp u t x=>
  cases u<;>simp[cY]at h
  all_goals (repeat' split at h)<;>(first|(done)|simp at h)
 |makeFunc fn b c=>cases fn<;>simp[cY]at h
 |_=>
  simp only[cY]at h
  (repeat' split at h)<;>(first|(cases h)|simp[bf,bu]at h)
theorem Pf{args:List aO}(h:mi P c=some (.call f args)):c.callee= .value (.func f)/\hb P f=true/\mH c.args.toList=some args:=by
 unfold mi at h
 (repeat' split at h)<;>simp[bf]at h
 grind
theorem PV{x:aO}{args:List aO}(h:mi P c=some (.hW x args)):∃t,x= .tmp t/\c.callee= .value (.tmp t)/\mH c.args.toList=some args:=by
 unfold mi at h
 (repeat' split at h)<;>simp[bf]at h
 grind
theorem Tc{op:Op}{neg:Bool}{x:aO}(h:cY P op=some (.eqNil neg x)):
 ∃a t y z yt e,op= .binOp a t y z yt/\(a= .eql\/a= .neq)/\neg=(a== .neq)/\P.underlying t=some (.slice e)/\Fq z=true/\bB y=some x:=by
 cases op with
 |binOp a t y z yt=>
  simp[cY]at h
  (repeat' split at h)<;>(try (done))<;>simp[bf,bu,reduceCtorEq,pj]at h
  grind
 |call c=>
  simp[cY]at h;unfold mi at h
  (repeat' split at h)<;>(first|(done)|simp[bf]at h)
 |alloc e=>exfalso;exact Gy h (by simp) (by simp) (by simp)
 |makeMap t r=>cases r<;>simp[cY]at h
 |lookup t x i c=>cases c<;>simp[cY,bf]at h
 |unOp u t x=>
  cases u<;>simp[cY]at h
  all_goals (repeat' split at h)<;>(first|(cases h;done)|simp at h)
 |makeFunc fn b c=>cases fn<;>simp[cY]at h
 |_=>
  simp only[cY]at h
  (repeat' split at h)<;>(first|(cases h;done)|simp[bf,bu]at h)
theorem sJ(g:o.op= .call c)(d:c.callee= .value x){caps:List Value}(i:a.eval x= .func (.func f) #[] caps.toArray)(b:hb P f=true):
 (execOp a.eval o).run P w= .ok (.enter f (c.args.toList.map a.eval++caps).toArray) w:=by
 have e:(c.args.map a.eval++caps.toArray)=(c.args.toList.map a.eval++caps).toArray:=by simp
 grind[execOp,Go.resolve,Deferred.ofValue,invoke,U']
theorem Calls.next{args:Array Value}{key:Nat}(t:dst=o.dst)(q:∀d,dst=some d->d<nt)(ak:g=true){K2:V->aZ->Prop}
 (bJ:∀r s,K2 r s->K (en env dst g r) s)
 (h:Calls P f args w λe w'=>∃v r bc bd J',e= .returned v/\K2 r J'/\bW bc w' bd r v/\r.ay (ew n key)=true/\Rel av nt bc bd env J' (ew n key) a w')
 (x:(execOp a.eval o).run P w= .ok (.enter f args) w):o.wp P a w (jr av nt (ew n key) K) Q:=by
 unfold Oper.wp;rw[x];refine h.mono ?_
 rintro e w' ⟨v,r,bc,bd,J',rfl,h1,c,j,p⟩
 subst t;exact⟨bc,bd,_,J',bJ _ _ h1,p.wa q (λ_=>c) (λh=>by grind) (λ_=>j)⟩
theorem BA(R:Rel av nt φ S env J n a w)(aP:∀b,key<=b->b<key+16->n b=false){ops:Array Oper}{M:bZ}(Z:um P nt ops o=some M)(h:ha P M key env J K):
 if Region.wanted o (yielded ops a.tmps)then o.wp P a w (jr av nt (ew n key) K) Q else jr av nt (ew n key) K (a.put o.dst undef) w:=by
 obtain⟨h1,B,D,E⟩:=Pm Z;unfold ha at h;split at h
 . grind
 . rename_i g ak;have aH:=Qk R B ak;rw[aH];have ao:∀{v:V} {s:aZ},K (en env M.dst g v) s->s=J->g=false->jr av nt (ew n key) K (a.put o.dst undef) w:=by
    intro v s bJ hs aC;subst hs;rw[<-D];exact⟨φ,S,_,_,bJ,(R.more λ_ h=>lN h).wa E (λh=>by grind) (λ_=>rfl) (λh=>by grind)⟩
   rcases h with⟨aC,v,bJ⟩|h
   . grind
   split at h
   ·
    rename_i f args U;rw[U]at h1;have ay:∃c,o.op= .call c/\c.callee= .value (.func f)/\hb P f=true/\mH c.args.toList=some args:=by
     obtain⟨c,aN,Z⟩:=P2 (w7 h1 (by simp));grind[Pf]
    obtain⟨c,X,Y,F,O⟩:=ay;split at h
    . rename_i p vs T;have ab:∀w':World,(execOp a.eval o).run P w= .ok (.enter f (c.args.toList.map a.eval).toArray) w:=by
       have:=sJ (P:=P) (w:=w) (a:=a) X Y (f:=f) (caps:=[]) rfl F;grind
      split at h
      . have G:g=true:=(by grind[fX]);subst G;obtain⟨aj,m⟩:=h;obtain⟨g1,g2⟩:=qb R O T aj;exact Calls.next D E rfl (λ_ _ h=>h) (m av nt φ S env n a w R aP g2 _ g1) (ab w)
      . rcases h with⟨G,aj,m⟩|⟨r,m,bJ⟩
        . subst G;obtain⟨g1,g2⟩:=qb R O T aj;exact Calls.next D E rfl (λ_ _ h=>h) (m av nt φ S env n a w R aP g2 _ g1) (ab w)
        cases H:g with
        |true=>
         obtain⟨aj,m⟩:=m H;obtain⟨g1,g2⟩:=qb R O T aj;refine Calls.next (K2:=λan J'=>an=r/\J'=J) D E H (λan s aa=>?_) (m av nt φ S env n a w R aP g2 _ g1) (ab w);grind
        |false=>
         grind
    grind
   . rename_i x args U;rw[U]at h1;obtain⟨c,X,Z⟩:=PU (w7 h1 (by simp));obtain⟨t,rfl,Y,O⟩:=PV Z;split at h
     . rename_i q f caps p vs I T;obtain⟨u,F,aF,aj,m⟩:=h;have G:g=true:=(by grind[fX]);subst G;obtain⟨g1,g2⟩:=qb R O T aj;have aI:=cl (x:= .tmp t) R rfl I aF;have aJ:=aI.1.dT;have az:aX (bW φ w S) (caps.map λb=>V.c (.ptr b 0)) (caps.map λb=>Value.pointer (some ⟨(φ b).1,0,none⟩)):=by
        refine aX.lf (by simp) ?_;intro i v x h1 B;simp only[qP,bu]at h1 B;obtain⟨b,au,rfl⟩:=h1;obtain⟨aM,ah,rfl⟩:=B;rw[au]at ah;cases ah;exact .c rfl
       have aA:V.ay.V.dw n (vs++caps.map λb=>V.c (.ptr b 0))=true:=by
        grind[rA,List.getElem?_append_left,mo,List.getElem?_append_right,bu,V.ay,C.ay,List.all_eq_true]
       exact Calls.next D E rfl (λ_ _ h=>h) (m av nt φ S env n a w R aP aA _ (g1.append az)) (sJ X Y aJ F)
     grind
   . rename_i neg x U;rw[U]at h1;obtain⟨N,ty,y,z,yt,e,aE,ax,rfl,ai,al,ad⟩:=Tc (w7 h1 (by simp));have aL:∀(b:Bool) (j:Option Addr) (l c:Nat),a.eval y= .slice j l c->j.isNone=b->(execOp a.eval o).run P w= .ok (.value (.bool (if(N== .neq)then !b else b))) w:=by
      intro b j l c k F;subst F;obtain⟨ae,am,aK⟩:∃ae:Value,a.eval z=ae/\ae= .slice none 0 0:=by
       unfold Fq at al;split at al
       . exact⟨_,rfl,rfl⟩
       grind
      subst aK;have ap:(eqGuard N ty y z (a.eval y) (a.eval z)).run P w= .ok () w:=FU (by grind) (by grind);have ag:(Op.equal ty (.slice j l c) (.slice none 0 0)).run P w= .ok j.isNone w:=by
       obtain⟨d,aB⟩:∃d,Op.maxDepth=d+1:=⟨9999,rfl⟩
       unfold Op.equal;rw[aB];unfold Op.equalIn;cases j with
       |none=>simp only[Sem.run_bind,run_underlying ai,Result.andThen_ok];rfl
       |some j=>simp only[Sem.run_bind,run_underlying ai,Result.andThen_ok];rfl
      have aq:(binOp N ty (a.eval y) (a.eval z)).run P w= .ok (.bool (if(N== .neq)then !j.isNone else j.isNone)) w:=by
       rcases ax with rfl|rfl
       . rw[k,am];simp only[binOp,Sem.run_bind,ag];rfl
       . rw[k,am];simp only[binOp,Sem.run_bind,ag];rfl
      simp[execOp,aE,ap,aq]
     have L:∀ (b:Bool) (j:Option Addr) (l c:Nat),o.guard = none->a.eval y = .slice j l c->j.isNone = b->K (en env M.dst true (rh (if (N == .neq) then !b else b))) J->
      (if g then o.wp P a w (jr av nt (ew n key) K) Q else jr av nt (ew n key) K (a.put o.dst undef) w):=by
      intro b j l c u k F bJ;have G:g=true:=by
       have:Region.wanted o (yielded ops a.tmps)=true:=(by simp[Region.wanted,u]);grind
      rw[af G];unfold Oper.wp;rw[aL b j l c k F];show jr av nt (ew n key) K (a.put o.dst _) w;rw[<-D];exact⟨φ,S,_,_,bJ,(R.more λ_ h=>lN h).wa E (λ_=>.n' _) (λh=>by cases h) (λ_=>rfl)⟩
     split at h
     . rename_i p es I;obtain⟨u,aj,bJ⟩:=h;obtain⟨j,cap,sz,b,off,f,k,_,_,_,A,_⟩:=bM.jm (cl R ad I aj).1.dT;exact L j.isNone j _ _ (Ft B u) k rfl (bJ _ λh=>by rw[A h];rfl)
     . rename_i p I;obtain⟨u,aj,bJ⟩:=h;obtain⟨j,k⟩:=(cl R ad I aj).1.dT;exact L j.isNone j _ _ (Ft B u) k rfl (bJ _)
     . rename_i p b sz off l I;obtain⟨u,aj,bJ⟩:=h;obtain⟨j,k,W,aQ⟩:=bn.g' (cl R ad I aj).1.dT;exact L j.isNone j _ _ (Ft B u) k rfl (bJ _ λh=>by rw[W (by omega)];rfl)
     . exact h.elim
   . rename_i X Y aO;split at h
     . rename_i p v J' W;obtain⟨aj,A,bJ⟩:=h;cases H:g with
       |true=>
        simp only[b7];obtain⟨x,bc,bd,w',hres,aG,aw,R'⟩:=Xa R h1 aP W (aj H);have ar:(if M.op.neutral then J else J')=J':=by
         split
         . rename_i aD;exact(xl aD W).symm
         . rfl
        rw[ar]at bJ;have L:jr av nt (ew n key) K (a.put o.dst x) w':=by
         rw[<-D];exact⟨bc,bd,_,_,bJ,R'.wa E (λ_=>aG) (λh=>by rw[H]at h;cases h) (λ_=>aw)⟩
        unfold Oper.wp;rcases hres with hres|⟨hres,rfl⟩
        . rw[hres];exact L
        . rw[hres];exact L
       |false=>
        simp only[ca,b4];rcases A with A|A
        . rw[af A]at bJ;exact ao bJ rfl H
        . rw[H]at A;cases A
     . exact h.elim
end
def lt(N:Nat):Nat->Bool:=λb=>decide (b<N)
theorem Cl{N b:Nat}(h:ew (lt N) N b=true):lt (N+16) b=true:=by
 grind[ew,lt]
theorem xS{N b:Nat}(h:N<=b):lt N b=false:=by grind[lt]
theorem B8{N M b:Nat}(h:N<=M)(a:lt N b=true):lt M b=true:=by grind[lt]
section
variable {P:Program}{av:Ctx}{nt kk:Nat}{φ:cZ}{S:c0}{env:Env}{J:aZ}{N:Nat}{a:Act}{w:World}
theorem H'{ops:Array Oper}{Q:Exit->Act->World->Prop}{K:Env->aZ->Nat->Prop}:∀{l:List Oper} {aY:List bZ} {k N:Nat} {env:Env} {J:aZ} {φ:cZ} {S:c0} {a:Act} {w:World},gK P nt ops l=some aY->(∀i:Nat,i<l.length->l[i]?=ops[k+i]?)->
 Rel av nt φ S env J (lt N) a w->kr P aY N env J (λe s=>K e s (N+16*aY.length))->(∀φ S e s N a w,K e s N->Rel av nt φ S e s (lt N) a w->Q .normal a w)->wpOps P ops Q (List.range' k l.length) a w
 |[],aY,k,N,env,J,φ,S,a,w,c,g,R,h,f=>by
  simp[gK]at c;subst c;exact f _ _ _ _ _ _ _ h R
 |o::l,aY,k,N,env,J,φ,S,a,w,c,g,R,h,f=>by
  simp[gK,bf,bu]at c;obtain⟨n,j,d,m,rfl⟩:=c;have p:ops[k]?=some o:=by have:=g 0 (by simp);grind
  rw[iP,x7,wpOps_cons];unfold wpOp;have hs:=BA R (λb h1 _=>xS h1) j (K:=λe s=>kr P d (N+16) e s λe s=>K e s (N+16*(d.length+1))) (by grind[kr]) (Q:=Q);have next:∀bX w',jr av nt (ew (lt N) N) (λe s=>kr P d (N+16) e s λe s=>K e s (N+16*(d.length+1))) bX w'->wpOps P ops Q (List.range' (k+1) l.length) bX w':=by
   rintro bX w' ⟨bc,bd,e,s,bJ,R'⟩
   refine H' m (λi aE=>?_) (R'.more λ_ h=>Cl h) ?_ f
   . have:=g (i+1) (by grind);grind
   grind
  split at hs
  . grind[Oper.wp_mono]
  grind
def RH(P:Program)(nt kk:Nat)(c:Code)(env:Env)(J:aZ)(N:Nat)(Q:Exit->Env->aZ->Nat->Prop):Prop:=
 ∀av φ S a w,av.k=kk->Rel av nt φ S env J (lt N) a w->c.wp P (λe bX w'=>∃bc bd env' J' N',Q e env' J' N'/\Rel av nt bc bd env' J' (lt N') bX w') a w
def ck(P:Program)(nt kk:Nat)(c:dv)(env:Env)(J:aZ)(N:Nat)(Q:Exit->Env->aZ->Nat->Prop):Prop:=
 ∀code,resolve P nt code=some c->RH P nt kk code env J N Q
variable {Q mU:Exit->Env->aZ->Nat->Prop}
theorem ck.mono{c:dv}(h:ck P nt kk c env J N Q)(o:∀e env J N,Q e env J N->mU e env J N):ck P nt kk c env J N mU:=
 λcode g av φ S a w j R=>wp_mono (h _ g av φ S a w j R) λe a w ⟨bc,bd,env',J',N',h1,f⟩=>⟨bc,bd,env',J',N',o _ _ _ _ h1,f⟩
theorem ck.skip(h:Q .normal env J N):ck P nt kk .skip env J N Q:=by
 intro code c av φ S a w e R;cases code<;>simp[resolve,bf]at c<;>(try (first|(cases c;done)|(obtain⟨l,_,c⟩:=c;(repeat' split at c)<;>cases c)))
 grind[wp_skip]
theorem ck.ret(h:Q .ret env J N):ck P nt kk .ret env J N Q:=by
 intro code c av φ S a w e R;cases code<;>simp[resolve,bf]at c<;>(try (first|(cases c;done)|(obtain⟨l,_,c⟩:=c;(repeat' split at c)<;>cases c)))
 grind[wp_ret]
theorem ck.exit(h:Q (.exit id) env J N):ck P nt kk (.exit id) env J N Q:=by
 intro code c av φ S a w e R;cases code<;>simp[resolve,bf]at c<;>(try (first|(cases c;done)|(obtain⟨l,_,c⟩:=c;(repeat' split at c)<;>cases c)))
 grind[wp_exit]
def andThen(next:Env->aZ->Nat->Prop)(Q:Exit->Env->aZ->Nat->Prop):Exit->Env->aZ->Nat->Prop
 |.normal,env,J,N=>next env J N
 |e,env,J,N=>Q e env J N
theorem Wg{x y:dv}(h:resolve P nt code=some (.seq x y)):∃a b,code= .seq a b/\resolve P nt a=some x/\resolve P nt b=some y:=by
 cases code with
 |seq a b=>
  simp[resolve,bf,bu]at h;grind
 |region id ops c=>
  grind[resolve,bf]
 |_=>simp[resolve,bf,bu]at h
theorem Va{c:aO}{x y:dv}(h:resolve P nt code=some (.cond c x y)):∃o a b,code= .cond o a b/\bB o=some c/\resolve P nt a=some x/\resolve P nt b=some y:=by
 cases code with
 |cond o a b=>
  simp[resolve,bf,bu]at h;grind
 |region id ops d=>
  grind[resolve,bf]
 |_=>simp[resolve,bf,bu]at h
theorem Vw{x:dv}(h:resolve P nt code=some (.block id x)):∃b,code= .block id b/\resolve P nt b=some x:=by
 cases code with
 |block i b=>
  grind[resolve,bu]
 |region id ops a=>
  grind[resolve,bf]
 |_=>simp[resolve,bf]at h
theorem Vb{x:dv}(h:resolve P nt code=some (.loop x)):∃b,code= .loop b/\resolve P nt b=some x:=by
 cases code with
 |loop b=>
  grind[resolve,bu]
 |region id ops a=>
  grind[resolve,bf]
 |_=>simp[resolve,bf]at h
theorem Px(h:resolve P nt code=some (.region aY)):∃id ops,code= .region id ops false/\gK P nt ops ops.toList=some aY:=by
 cases code with
 |region id ops a=>
  grind[resolve,bf]
 |_=>grind[resolve,bf,bu]
theorem Pn{fS:List (Nat×Nat)}(h:resolve P nt code=some (.nT aY fS)):
 ∃id ops,code= .region id ops true/\gK P nt ops ops.toList=some aY/\sg (fw ops aY)=true/\P.follows .mixedOrders=true/\fS=rk (fw ops aY):=by
 cases code with
 |region id ops a=>
  grind[resolve,bf]
 |_=>grind[resolve,bf,bu]
theorem ck.seq{x y:dv}(h:ck P nt kk x env J N (andThen (λenv J N=>ck P nt kk y env J N Q) Q)):ck P nt kk (.seq x y) env J N Q:=by
 intro code g av φ S a w c R;obtain⟨p,q,rfl,j,o⟩:=Wg g;refine wp_seq (wp_mono (h _ j av φ S a w c R) ?_)
 rintro e bX w' ⟨bc,bd,env',J',N',f,R'⟩
 cases e with
 |normal=>exact f _ o av _ bd bX w' c R'
 |_=>exact⟨bc,bd,env',J',N',f,R'⟩
theorem ck.cond{c:aO}{x y:dv}{p:Prop}{b:Bool}(g:c.get env=some (p,rh b))(aj:p)(t:b=true->ck P nt kk x env J N Q)(A:b=false->ck P nt kk y env J N Q):ck P nt kk (.cond c x y) env J N Q:=by
 intro code j av φ S a w e R;obtain⟨o,D,E,rfl,q,v,B⟩:=Va j;have f:=(cl R q g aj).1.iX;refine wp_cond f ?_;cases b with
 |true=>exact t rfl _ v av φ S a w e R
 |false=>exact A rfl _ B av φ S a w e R
def inBlock(id:Nat)(Q:Exit->Env->aZ->Nat->Prop):Exit->Env->aZ->Nat->Prop
 |.exit i,env,J,N=>if i=id then Q .normal env J N else Q (.exit i) env J N
 |e,env,J,N=>Q e env J N
theorem ck.block{id:Nat}{x:dv}(h:ck P nt kk x env J N (inBlock id Q)):ck P nt kk (.block id x) env J N Q:=by
 intro code f av φ S a w g R;obtain⟨b,rfl,c⟩:=Vw f;refine wp_block (wp_mono (h _ c av φ S a w g R) ?_)
 rintro e bX w' ⟨bc,bd,env',J',N',j,R'⟩
 cases e with
 |exit i=>
  grind[inBlock,Exit.inBlock]
 |_=>exact⟨bc,bd,env',J',N',j,R'⟩
theorem ck.region{aY:List bZ}(h:kr P aY N env J (λe s=>Q .normal e s (N+16*aY.length))):ck P nt kk (.region aY) env J N Q:=by
 intro code f av φ S a w o R;obtain⟨id,ops,rfl,g⟩:=Px f;refine wp_region ?_;have:=H' (Q:=λe bX w'=>∃bc bd env' J' N',Q e env' J' N'/\Rel av nt bc bd env' J' (lt N') bX w') (k:=0) g (λi j=>by simp) R h
  (λφ S e s N a w bJ c=>⟨φ,S,e,s,N,bJ,c⟩)
 grind[List.range_eq_range']
end
def pos:aW->Nat->Option Nat
 |[],_=>none
 |x::r,b=>if x=b then some 0 else(pos r b).map (· +1)
theorem nK:∀{bs:aW} {b i:Nat},pos bs b=some i->bs[i]?=some b
 |[],b,i,h=>by grind[pos]
 |x::r,b,i,h=>by
  unfold pos at h;split at h
  . grind
  . simp at h;obtain⟨j,a,rfl⟩:=h;simpa using nK a
def oS(bs:aW):aW->Option aW
 |[]=>some []
 |c::r=>match pos bs c,oS bs r with
  |some i,some l=>some (i::l)
  |_,_=>none
def C.bO(bs:aW):C->C
 |.t x=>.t x
 |.ptr b o=>match pos bs b with|some i=>.ptr i o|none=>.dead
 |.cG b sz i o=>match pos bs b with|some j=>.cG j sz i o|none=>.dead
 |.dO ts o=>.dO ts o
 |.arr b sz off len=>match pos bs b with|some i=>.arr i sz off len|none=>.dead
 |.fL b sz off len=>match pos bs b with|some i=>.fL i sz off len|none=>.dead
 |.mp b=>match pos bs b with|some i=>.mp i|none=>.dead
 |.eu b=>match pos bs b with|some i=>.eu i|none=>.dead
 |.cb b len=>match pos bs b with|some i=>.cb i len|none=>.dead
 |.aL=>.aL
 |.e6=>.e6
 |.e5=>.e5
 |.fn f caps=>match oS bs caps with|some l=>.fn f l|none=>.dead
 |.dead=>.dead
def V.bO(bs:aW):V->V
 |.c x=>.c (x.bO bs)
 |.agg cs=>.agg (cs.map (C.bO bs))
 |.a6 vs=>.a6 (go bs vs)
where go (bs:aW):List V->List V
 |[]=>[]
 |v::vs=>v.bO bs::go bs vs
def bP.bO(bs:aW):bP->bP
 |.box cs=>.box (cs.map (C.bO bs))
 |.arr sz es=>.arr sz es
 |.set ks=>.set ks
 |.buf E s=>.buf E s
 |.bT E c=>.bT E (c.bO bs)
 |.cz sz es i o c=>.cz sz es i o (c.bO bs)
def nL(bs:aW)(env:Env):aW->Env
 |[]=>[]
 |k::ks=>match look env k with
  |some (g,v)=>(k,g,v.bO bs)::nL bs env ks
  |none=>nL bs env ks
def fH(bs:aW)(J:aZ):Nat->aW->aZ
 |_,[]=>[]
 |i,b::r=>match aR J b with
  |some x=>(i,x.bO bs)::fH bs J (i+1) r
  |none=>fH bs J (i+1) r
def keeps(k:Nat)(bs:aW):Bool:=(List.range k).all λi=>bs[i]?==some i
section
variable {P:Program}{av:Ctx}{nt kk:Nat}{φ:cZ}{S:c0}{env:Env}{J:aZ}{N:Nat}{n:Nat->Bool}{a:Act}{w:World}
theorem Fu:∀{bs caps l:aW},oS bs caps=some l->caps.length=l.length/\∀(i b j:Nat),caps[i]?=some b->l[i]?=some j->bs[j]?=some b
 |bs,[],l,h=>by grind[oS]
 |bs,c::r,l,h=>by
  unfold oS at h;split at h
  . rename_i j e d ad;obtain⟨h1,a⟩:=Fu ad;grind[nK]
  grind
theorem bn.bO(p:∀(i:Nat) b,bs[i]?=some b->bc i=φ b){c:C}{v:Value}(h:bn φ w S c v):bn bc w S (c.bO bs) v:=by
 have j:=bn.iR h;cases c with
 |ptr b o=>
  grind[C.bO,bn,nK]
 |cG b sz i o=>
  grind[C.bO,bn,nK]
 |arr b sz off len=>
  grind[C.bO,bn,nK]
 |fL b sz off len=>
  grind[C.bO,bn,nK]
 |mp b=>
  grind[C.bO,bn,nK]
 |eu b=>
  grind[C.bO,bn,nK]
 |cb b len=>
  grind[C.bO,bn,nK]
 |fn f caps=>
  simp[C.bO];split
  . rename_i l ad;obtain⟨h1,g⟩:=Fu ad;rw[h]
    congr 2
    apply D2 (by grind);intro i a e;simp at a e;simp;rw[p _ _ (g i _ _ (eF a) (eF e))]
  . exact j
 |_=>exact h
theorem BB:∀{vs:List V} {i:Nat},(V.bO.go bs vs)[i]?=(vs[i]?).map (V.bO bs)
 |[],i=>by rfl
 |v::vs,0=>by rfl
 |v::vs,i+1=>by simp[V.bO.go,BB]
theorem A2:∀{vs:List V},(V.bO.go bs vs).length=vs.length
 |[]=>rfl
 |v::vs=>by simp[V.bO.go,A2]
theorem aX.pg{c e:Type}{R:α->c->Prop}{R':e->c->Prop}{f:α->e}{l:List α}{m:List c}(h:aX R l m)(k:∀a b,R a b->R' (f a) b):aX R' (l.map f) m:=by
 induction h with
 |nil=>exact .nil
 |cons g _ ih=>exact .cons (k _ _ g) ih
theorem bW.bO(a:∀(i:Nat) b,bs[i]?=some b->bc i=φ b){v:V}{x:Value}(h:bW φ w S v x):bW bc w S (v.bO bs) x:=by
 induction h with
 |c h=>exact .c (bn.bO a h)
 |agg h=>exact .agg (h.pg λ_ _=>bn.bO a)
 |a6 vs xs ad h ih=>
  refine .a6 _ xs (by grind[A2]) ?_;grind[BB]
theorem sj{b i:Nat}(h:pos bs b=some i):i<bs.length:=(dV.1 (nK h)).1
theorem C.jK(c:C):(c.bO bs).ay (lt bs.length)=true:=by
 cases c with
 |ptr b o=>grind[C.bO,C.ay,lt,sj]
 |cG b sz i o=>grind[C.bO,C.ay,lt,sj]
 |arr b sz off len=>grind[C.bO,C.ay,lt,sj]
 |fL b sz off len=>grind[C.bO,C.ay,lt,sj]
 |mp b=>grind[C.bO,C.ay,lt,sj]
 |eu b=>grind[C.bO,C.ay,lt,sj]
 |cb b len=>grind[C.bO,C.ay,lt,sj]
 |fn f caps=>
  simp[C.bO];split
  . rename_i l ad;obtain⟨h1,a⟩:=Fu ad;simp[C.ay,lt];intro j g;obtain⟨i,e,rfl⟩:=jf g;exact(dV.1 (a i _ _ (eF (by omega)) (eF e))).1
  rfl
 |_=>rfl
theorem V.jK{bs:aW}:∀(v:V),(v.bO bs).ay (lt bs.length)=true
 |.c x=>by grind[V.bO,V.ay,C.jK]
 |.agg cs=>by grind[V.bO,V.ay,C.jK]
 |.a6 vs=>by exact go vs
where go:∀vs,V.ay.V.dw _ (V.bO.go bs vs)=true
 |[]=>rfl
 |v::vs=>by simp[V.bO.go,V.ay.V.dw,cX];exact⟨V.jK v,go vs⟩
theorem xM:∀{ks:aW} {k:Nat} {g:Bool} {v:V},look (nL bs env ks) k=some (g,v)->∃v0,look env k=some (g,v0)/\v=v0.bO bs
 |[],k,g,v,h=>by grind[nL,look]
 |x::ks,k,g,v,h=>by
  unfold nL at h;split at h
  . unfold look at h;split at h
    . grind
    . exact xM h
  . exact xM h
theorem oK:∀{r:aW} {i:Nat} {b:Nat} {x:bP},aR (fH bs J i r) b=some x->∃j c g,b=i+j/\r[j]?=some c/\aR J c=some g/\x=g.bO bs
 |[],i,b,x,h=>by grind[fH,aR]
 |c::r,i,b,x,h=>by
  unfold fH at h;split at h
  . unfold aR at h;split at h
    . simp_all
    . obtain⟨j,a,f,h1,k,d,e⟩:=oK h;exact⟨j+1,a,f,by omega,by grind,d,e⟩
  . obtain⟨j,a,f,h1,k,d,e⟩:=oK h;exact⟨j+1,a,f,by omega,by grind,d,e⟩
theorem cP.bO(a:∀(i:Nat) b,bs[i]?=some b->bc i=φ b){i b:Nat}(e:bs[i]?=some b){x:bP}(h:cP φ w S b x):cP bc w S i (x.bO bs):=by
 cases x with
 |box cs=>
  obtain⟨h0,vs,E,h1,f,g⟩:=h;simp only[cP,a i b e];exact⟨h0,vs,E,h1,f.pg λ_ _=>bn.bO a,g⟩
 |arr sz es=>simp only[cP,a i b e];exact h
 |set ks=>simp only[cP,a i b e];exact h
 |buf E s=>grind[bP.bO,cP]
 |bT E c=>
  grind[bP.bO,cP,bn.bO]
 |cz sz es i o c=>
  grind[bP.bO,cP,bn.bO]
theorem Rel.tidy(R:Rel av nt φ S env J (lt N) a w)(ks bs:aW)(bY:bs.Nodup)(O:keeps av.k bs=true):
 ∃bc,Rel av nt bc S (nL bs env ks) (fH bs J 0 bs) (lt bs.length) a w:=by
 have K:∀(i:Nat) b,bs[i]?=some b->(λi=>φ ((bs[i]?).getD 0)) i=φ b:=by grind
 have G:∀i:Nat,i<av.k->bs[i]?=some i:=by
  simp_all[keeps,f',List.mem_range,ix]
 refine⟨λi=>φ ((bs[i]?).getD 0),⟨⟨λb x e=>?_,λb M x y e H P h0 A=>?_,R.bD.st⟩,λk g v ad ak=>?_,λk g v ad ak=>?_,λk g v ad ak=>?_,λb x e=>?_,R.size,R.defers,R.ext,λb x e h0=>?_,λb t=>?_,λb t=>?_⟩⟩
 . obtain⟨j,c,f,rfl,p,q,rfl⟩:=oK e;rw[hx];exact cP.bO K p (R.bD.blk c f q)
 . obtain⟨j,c,f,rfl,p,q,rfl⟩:=oK e;obtain⟨U,B,L,rfl,D,F,rfl⟩:=oK H;simp only[hx,p,D]at h0 A⊢;refine R.bD.inj c B f L q F ?_ h0 A;grind[List.getElem?_eq_some_iff,List.pairwise_iff_getElem,Nat.lt_trichotomy]
 . obtain⟨v0,h1,rfl⟩:=xM ad;obtain⟨x,e,Q⟩:=R.fZ k g v0 h1 ak;grind[bW.bO]
 . obtain⟨v0,h1,rfl⟩:=xM ad;exact R.gN k g v0 h1 ak
 . grind[xM,V.jK]
 . obtain⟨j,c,f,rfl,p,q,rfl⟩:=oK e;refine⟨by grind[lt,List.getElem?_eq_some_iff],?_⟩;cases f with
   |box cs=>grind[bP.bO,bP.ay,List.all_map,List.all_eq_true,C.jK]
   |arr sz es=>rfl
   |set ks=>rfl
   |buf E s=>rfl
   |bT E c=>exact C.jK c
   |cz sz es i o c=>exact C.jK c
 . obtain⟨j,c,f,rfl,p,q,rfl⟩:=oK e;simp only[hx,p]at h0⊢;exact R.own c f q h0
 . simp only[G b t,D3];exact R.fix b t
 . simp only[lt,gE];grind
theorem ck.tidy{c:dv}{Q:Exit->Env->aZ->Nat->Prop}(ks bs:aW)(bY:bs.Nodup)(f:keeps kk bs=true)(h:ck P nt kk c (nL bs env ks) (fH bs J 0 bs) bs.length Q):ck P nt kk c env J N Q:=by
 intro code e av φ S a w g R;subst g;obtain⟨bc,R'⟩:=R.tidy ks bs bY f;exact h _ e av _ S a w rfl R'
end
def cut(es:List (List T))(off len:Nat):List (List T):=if off=0/\len=es.length then es else(es.drop off).take len
def C.cc(b0 a:Nat)(es:List (List T)):C->C
 |.arr b sz off len=>if b=b0 then(if sz=a/\off+len<=es.length then .t (.slice (cut es off len))else .dead)else .arr b sz off len
 |.cG b sz i o=>if b=b0 then .dead else .cG b sz i o
 |c=>c
def V.cc(b0 a:Nat)(es:List (List T)):V->V
 |.c x=>.c (x.cc b0 a es)
 |.agg cs=>.agg (cs.map (C.cc b0 a es))
 |.a6 vs=>.a6 (go b0 a es vs)
where go (b0 a:Nat) (es:List (List T)):List V->List V
 |[]=>[]
 |v::vs=>v.cc b0 a es::go b0 a es vs
def bP.cc(b0 a:Nat)(es:List (List T)):bP->bP
 |.box cs=>.box (cs.map (C.cc b0 a es))
 |.arr sz l=>.arr sz l
 |.set ks=>.set ks
 |.buf E s=>.buf E s
 |.bT E c=>.bT E (c.cc b0 a es)
 |.cz sz l i o c=>.cz sz l i o (c.cc b0 a es)
def qI(b0 a:Nat)(es:List (List T)):Env->Env
 |[]=>[]
 |(k,g,v)::r=>(k,g,v.cc b0 a es)::qI b0 a es r
def mD(b0 a:Nat)(es:List (List T)):aZ->aZ
 |[]=>[]
 |(k,x)::r=>if k=b0 then mD b0 a es r else(k,x.cc b0 a es)::mD b0 a es r
variable{vs:List V}
section
variable {P:Program}{av:Ctx}{nt kk:Nat}{φ:cZ}{S:c0}{env:Env}{J:aZ}{N:Nat}{n:Nat->Bool}{a:Act}{w:World}
theorem xT{a:Nat}:∀{env:Env} {k:Nat},look (qI b0 a es env) k=(look env k).map λx=>(x.1,x.2.cc b0 a es)
 |[],k=>rfl
 |(i,g,v)::r,k=>by
  simp[qI,look];split
  . rfl
  . exact xT
theorem Cz{b:Nat}:∀{J:aZ} {k:Nat},aR (mD b0 b es J) k=if k=b0 then none else(aR J k).map (bP.cc b0 b es)
 |[],k=>by simp[mD,aR]
 |(i,x)::r,k=>by
  simp[mD,aR];by_cases h:i=b0
  . rw[af h,Cz];grind
  . rw[al h];simp[aR];by_cases a:i=k
    . grind
    . rw[al a,al a,Cz]
def vg(S:c0)(q:Nat×Nat):c0:=λb j=>S b j\/(q.2≠0/\b=q.1)
theorem Ze{len:Nat}{e:List T}(h:e∈cut es off len):e∈es:=by
 grind[cut]
theorem Zf{len i:Nat}{e:List T}(a:off+len<=es.length)(h:(cut es off len)[i]?=some e):es[off+i]?=some e/\i<len:=by
 grind[cut]
theorem Xb{len:Nat}(a:off+len<=es.length):(cut es off len).length=len:=by
 grind[cut]
theorem bn.cc{b0 q:Nat}{es:List (List T)}(di:cP φ w S b0 (.arr q es)){c:C}{v:Value}(h:bn φ w S c v):bn φ w (vg S (φ b0)) (c.cc b0 q es) v:=by
 have m:gq w S w (vg S (φ b0)):=⟨λ_ _ h=>.inl h,λ_ _ _=>rfl⟩
 have p:=bn.iR h;cases c with
 |arr b sz off len=>
  simp[C.cc];by_cases f:b=b0
  . subst f;rw[af rfl];split
    . rename_i A;obtain⟨rfl,g⟩:=A;obtain⟨h1,J,x,K,bp⟩:=di;obtain⟨a,rfl,y,M⟩:=bn.g' h;have ad:=Xb g;have aK:Value.slice a len ((φ b).2-off)=Value.slice a (cut es off len).length ((φ b).2-off):=(by grind);rw[aK];by_cases h0:(φ b).2=0
      . have:cut es off len=[]:=lb (by omega);rw[this];exact bM.slice [] _ _ 0 0 0 (λ_ _=>undef) (by simp) (by simp) (by simp) (by simp) (by simp) (by simp)
      . obtain⟨vs,E,aa,N,F,hs⟩:=bp h0;refine bM.slice _ _ _ sz _ _ (λi j=>(vs.getD ((off+i)*sz+j) undef)) (by omega) (by omega) (λe he=>x e (Ze he)) (λ_=>y h0) ?_ ?_
        . intro i j D L;refine⟨.inr ⟨h0,rfl⟩,?_⟩;rw[iH aa];have aE:(off+i)*sz+j<vs.length:=by
           have:=eV sz (show off+i+1<=(φ b).2 by omega);grind
          grind
        . intro i j e t he ht;obtain⟨B,D⟩:=Zf g he;obtain⟨v,H,G⟩:=F _ _ _ _ B ht;simp[List.getD,H];exact bM.mono m G
    . exact p
  . rw[al f];exact bn.mono m (λ_ _=>rfl) (C.mc _) h
 |cG b sz i o=>
  simp[C.cc];split
  . exact p
  . exact h
 |_=>exact bn.mono m (λ_ _=>rfl) (C.mc _) h
theorem Fv{a:Nat}:∀{vs:List V} {i:Nat},(V.cc.go b0 a es vs)[i]?=(vs[i]?).map (V.cc b0 a es)
 |[],i=>by rfl
 |v::vs,0=>by rfl
 |v::vs,i+1=>by simp[V.cc.go,Fv]
theorem FB{a:Nat}:∀{vs:List V},(V.cc.go b0 a es vs).length=vs.length
 |[]=>rfl
 |v::vs=>by simp[V.cc.go,FB]
theorem bW.cc{a:Nat}(di:cP φ w S b0 (.arr a es)){v:V}{x:Value}(h:bW φ w S v x):bW φ w (vg S (φ b0)) (v.cc b0 a es) x:=by
 induction h with
 |c h=>exact .c (bn.cc di h)
 |agg h=>exact .agg (h.pg λ_ _=>bn.cc di)
 |a6 vs xs ad h ih=>
  refine .a6 _ xs (by grind[FB]) ?_;grind[Fv]
theorem C.pN{a:Nat}{c:C}(h:c.ay n=true):(c.cc b0 a es).ay n=true:=by
 cases c with
 |arr b sz off len=>simp[C.cc];split;split;rfl;rfl;grind
 |cG b sz i o=>simp[C.cc];split;rfl;grind
 |_=>exact h
theorem V.pN{b0 a:Nat}{es:List (List T)}:∀{v:V},v.ay n=true->(v.cc b0 a es).ay n=true
 |.c x,h=>by grind[V.cc,V.ay,C.pN]
 |.agg cs,h=>by grind[V.cc,V.ay,C.pN]
 |.a6 vs,h=>by exact go vs h
where go:∀vs,V.ay.V.dw n vs=true->V.ay.V.dw n (V.cc.go b0 a es vs)=true
 |[],_=>rfl
 |v::vs,h=>by simp[V.cc.go,V.ay.V.dw,cX]at h⊢;exact⟨V.pN h.1,go vs h.2⟩
theorem Rel.freeze(R:Rel av nt φ S env J n a w){P:Nat}(U:aR J b0=some (.arr P es)):
 Rel av nt φ (vg S (φ b0)) (qI b0 P es env) (mD b0 P es J) n a w:=by
 have di:=R.bD.blk b0 _ U;have m:gq w S w (vg S (φ b0)):=⟨λ_ _ h=>.inl h,λ_ _ _=>rfl⟩
 have O:∀b x,aR (mD b0 P es J) b=some x->b≠b0/\∃A,aR J b=some A/\x=A.cc b0 P es:=by
  grind[Cz,bu]
 have N:∀b x,b≠b0->aR J b=some x->(φ b).2≠0->∀j,¬vg S (φ b0) (φ b).1 j:=by
  intro b x F B h0 j f;rcases f with f|⟨L,f⟩
  . exact(R.bD.blk b x B).ph h0 j f
  . exact R.bD.inj b b0 x _ B U F h0 L f
 refine⟨⟨λb x B=>?_,λb W x y B an F h0 Y=>?_,λb j f=>?_⟩,λk g v ad ak=>?_,λk g v ad ak=>?_,λk g v ad ak=>?_,λb x B=>?_,R.size,R.defers,?_,λb x B h0=>?_,R.fix,R.gy⟩
 . obtain⟨F,A,q,rfl⟩:=O b x B;have D:=R.bD.blk b A q;cases A with
   |box cs=>
    obtain⟨h0,vs,E,h1,G,H⟩:=D;exact⟨h0,vs,E,h1,G.pg λ_ _=>bn.cc di,N b _ F q h0⟩
   |arr sz l=>
    obtain⟨h1,G,H,Q,bp⟩:=D;refine⟨h1,G,H,Q,λh0=>?_⟩;grind[bM.mono]
   |set ks=>exact⟨D.1,D.2.1,N b _ F q D.1⟩
   |buf E s=>exact⟨D.1,D.2.1,λh0=>⟨(D.2.2 h0).1,N b _ F q h0⟩⟩
   |bT E c=>
    obtain⟨h0,⟨p,v,h1,G,H⟩,Q⟩:=D;exact⟨h0,⟨p,v,h1,G,bn.cc di H⟩,N b _ F q h0⟩
   |cz sz l i o c=>
    obtain⟨⟨h1,G,H,Q,bp,Z⟩,⟨vs,E,bb,bq,bU,v,cu,cW⟩,da⟩:=D;exact⟨⟨h1,G,H,Q,bp,Z⟩,⟨vs,E,bb,bq,λi j e t he ht aP=>let⟨v,am,X⟩:=bU i j e t he ht aP;⟨v,am,bM.mono m X⟩,v,cu,bn.cc di cW⟩,N b _ F q (by omega)⟩
 . obtain⟨_,A,q,rfl⟩:=O b x B;obtain⟨_,ax,ap,rfl⟩:=O W y an;exact R.bD.inj b W A ax q ap F h0 Y
 . rcases f with f|⟨L,rfl⟩
   . exact R.bD.st b j f
   . exact di.jk L
 . rw[xT,bu]at ad;obtain⟨⟨K,v0⟩,M,he⟩:=ad;cases he;obtain⟨x,B,X⟩:=R.fZ k K v0 M ak;grind[bW.cc]
 . rw[xT,bu]at ad;obtain⟨⟨K,v0⟩,M,he⟩:=ad;cases he;exact R.gN k K v0 M ak
 . rw[xT,bu]at ad;obtain⟨⟨K,v0⟩,M,he⟩:=ad;cases he;exact V.pN (R.fY k K v0 M ak)
 . obtain⟨_,A,q,rfl⟩:=O b x B;refine⟨(R.dG b A q).1,?_⟩;have:=(R.dG b A q).2;cases A with
   |box cs=>grind[bP.cc,bP.ay,List.all_map,List.all_eq_true,C.pN]
   |arr sz l=>rfl
   |set ks=>rfl
   |buf E s=>rfl
   |bT E c=>grind[bP.cc,bP.ay,C.pN]
   |cz sz l i o c=>grind[bP.cc,bP.ay,C.pN]
 . refine⟨R.ext.os,R.ext.tape,R.ext.output,R.ext.size,R.ext.block,R.ext.mono.trans m,λb j f=>?_⟩;rcases f with f|⟨L,rfl⟩
   . exact R.ext.lj b j f
   . rcases R.own b0 _ U L with h|h
     all_goals grind
 . obtain⟨_,A,q,rfl⟩:=O b x B;exact R.own b A q h0
theorem ck.freeze{c:dv}{Q:Exit->Env->aZ->Nat->Prop}(b0:Nat){e:Nat}(f:aR J b0=some (.arr e es))(h:ck P nt kk c (qI b0 e es env) (mD b0 e es J) N Q):ck P nt kk c env J N Q:=by
 intro code g av φ S a w j R;exact h _ g av φ _ a w j (R.freeze f)
inductive iU where
 |tmp (t:Nat)
 |cell (t:Nat)(agg:Bool)(n:Nat)
def hT(P:Program):List ResultVar->Option (List iU)
 |[]=>some []
 |.tmp t::r=>(hT P r).map (.tmp t::·)
 |.cell a ty::r=>(mu P ty).bind λg=>(hT P r).map (.cell a g.1 g.2::·)
def sk(env:Env)(J:aZ):iU->Option (Prop×V)
 |.tmp t=>(look env t).map λx=>(x.1=true,x.2)
 |.cell t g k=>match look env t with
  |some (a,.c (.ptr b o))=>match aR J b with
   |some (.box cs)=>(jG g k cs o).map λv=>(a=true,v)
   |_=>none
  |_=>none
def oT(env:Env)(J:aZ):List iU->Option (Prop×List V)
 |[]=>some (True,[])
 |r::a=>(sk env J r).bind λx=>(oT env J a).map λy=>(x.1/\y.1,x.2::y.2)
def lY:List V->V
 |[v]=>v
 |vs=>.a6 vs
def eb(P:Program)(f:Nat)(args:List V)(J:aZ)(k:Nat)(Q:V->aZ->Nat->Prop):Prop:=
 ∀(φ:cZ) (S:c0) (w:World) (B:Nat->Prop),pE φ w S J->(∀(b:Nat) x,aR J b=some x->b<k/\x.ay (lt k)=true)->(∀(b:Nat) x,aR J b=some x->(φ b).2≠0->B (φ b).1)->
  V.ay.V.dw (lt k) args=true->∀vs:List Value,aX (bW φ w S) args vs->
  Calls P f vs.toArray w λe w'=>∃v r bc bd J' N',e= .returned v/\Q r J' N'/\bW bc w' bd r v/\r.ay (lt N')=true/\pE bc w' bd J'/\(∀(b:Nat) x,aR J' b=some x->b<N'/\x.ay (lt N')=true)/\Ext B S bd w w'/\
   (∀(b:Nat) x,aR J' b=some x->(bc b).2≠0->B (bc b).1\/w.heap.size<=(bc b).1)/\∀b,b<k->bc b=φ b
theorem Ext.refl{B:Nat->Prop}:Ext B S S w w:=⟨rfl,rfl,rfl,e9 _,λ_ _ _=>rfl,gq.refl _ _,λ_ _ h=>.inl h⟩
def fm:Nat->List V->Env
 |_,[]=>[]
 |i,v::vs=>(i,true,v)::fm (i+1) vs
theorem sF:∀{vs:List V} {i k:Nat} {g:Bool} {v:V},look (fm i vs) k=some (g,v)->g=true/\∃j,k=i+j/\vs[j]?=some v
 |[],i,k,g,v,h=>by grind[fm,look]
 |x::vs,i,k,g,v,h=>by
  simp[fm,look]at h;split at h
  . simp_all
  . obtain⟨h1,j,a,b⟩:=sF h;exact⟨h1,j+1,by omega,by grind⟩
def vC(a:Act):ResultVar->Sem Value
 |.tmp t=>Pure.pure (a.tmps.getD t undef)
 |.cell b ty=>do loadVar ty (<-asAddr (a.tmps.getD b undef))
theorem Ry(fn:Func)(a:Act):results fn a.tmps=(fn.results.mapM (vC a)>>=λvs=>Pure.pure (if h:vs.size=1 then vs[0]else .tuple vs)):=by rfl
theorem Vc(R:Rel av nt φ S env J n a w){e:ResultVar}{f:iU}(c:hT P [e]=some [f]){p:Prop}{v:V}(h:sk env J f=some (p,v))(aj:p):
 ∃x,(vC a e).run P w= .ok x w/\bW φ w S v x/\v.ay n=true:=by
 cases e with
 |tmp t=>
  simp[hT]at c;subst c;simp only[sk,bu]at h;obtain⟨⟨g,v0⟩,ad,rfl,rfl⟩:=h;obtain⟨x,k,d⟩:=R.fZ t g v0 ad aj;refine⟨x,?_,d,R.fY t g v0 ad aj⟩;simp[vC,k]
 |cell m ty=>
  simp only[hT,bf,bu]at c;obtain⟨g,ak,l,ad,he⟩:=c;simp at ad;subst ad;simp at he;subst he;simp[sk]at h;split at h
  . rename_i q b o ad;split at h
    . rename_i cs i;simp only[bu]at h;obtain⟨v0,s,rfl,rfl⟩:=h;obtain⟨x,k,d⟩:=R.fZ m q _ ad aj;have:=d.gU;obtain⟨_,vs,E,aa,r,_⟩:=R.bD.blk _ _ i;obtain⟨y,z,h1,u⟩:=sI ak r (R.dG _ _ i).2 (λj _=>by rw[iH aa,hx]) s;simp_all[vC,asAddr]
    grind
  grind
theorem QG(R:Rel av nt φ S env J n a w):∀{c:List ResultVar} {b:List iU} {p:Prop} {vs:List V},hT P c=some b->oT env J b=some (p,vs)->p->
 ∃xs:List Value,(c.mapM (vC a)).run P w= .ok xs w/\aX (bW φ w S) vs xs/\V.ay.V.dw n vs=true
 |[],b,p,vs,f,h,aj=>by
  simp[hT]at f;subst f;obtain⟨_,rfl⟩:=h;exact⟨[],by rfl,.nil,rfl⟩
 |g::c,b,p,vs,f,h,aj=>by
  have l:∃d e,b=d::e/\hT P [g]=some [d]/\hT P c=some e:=by
   cases g with
   |tmp t=>
    grind[hT,bu]
   |cell r ty=>
    grind[hT,bf,bu]
  obtain⟨d,e,rfl,h1,i⟩:=l;simp only[oT,bf,bu]at h;obtain⟨⟨q,v⟩,j,⟨A,B⟩,k,he⟩:=h;obtain⟨rfl,rfl⟩:=he;obtain⟨x,y,m,s⟩:=Vc R h1 j aj.1;obtain⟨xs,z,o,u⟩:=QG R i k aj.2;refine⟨x::xs,?_,.cons m o,by grind[V.ay.V.dw]⟩;simp_all
theorem bW.lY{xs:List Value}(h:aX (bW φ w S) vs xs):bW φ w S (lY vs) (if h:xs.toArray.size=1 then xs.toArray[0]else .tuple xs.toArray):=by
 cases h with
 |nil=>exact .a6 [] [] rfl (by simp)
 |cons h1 a=>
  cases a with
  |nil=>grind[Shv.lY]
  |cons a c=>
   refine .a6 _ _ (by simp[c.length]) ?_;intro i v x e f;have:=(aX.cons h1 (.cons a c)).get e;grind
theorem YA(h:V.ay.V.dw n vs=true):(lY vs).ay n=true:=by
 unfold lY;grind[V.ay.V.dw,V.ay]
def CY(a:List iU)(Q:V->aZ->Nat->Prop):Exit->Env->aZ->Nat->Prop
 |.normal,env,J,N=>∃p vs,oT env J a=some (p,vs)/\p/\Q (lY vs) J N
 |.ret,env,J,N=>∃p vs,oT env J a=some (p,vs)/\p/\Q (lY vs) J N
 |_,_,_,_=>False
theorem eb.D4{fn:Func}{c:dv}{D:List iU}(W:P.funcs[f]?=some fn)(H:fn.body=some code)(U:resolve P fn.ntmps code=some c)(K:hT P fn.results.toList=some D)
 {args:List V}(aP:args.length<=fn.ntmps){k:Nat}{Q:V->aZ->Nat->Prop}(h:ck P fn.ntmps k c (fm 0 args) J k (CY D Q)):eb P f args J k Q:=by
 intro φ S w B am av Y ap vs L;have ad:=L.length;refine calls_of_wp W H ?_;have R:Rel ⟨w,S,B,φ,k⟩ fn.ntmps φ S (fm 0 args) J (lt k) {tmps:=vs.toArray++Array.replicate (fn.ntmps-vs.toArray.size) undef,defers:=[]} w:=by
  refine⟨am,λi g v E ak=>?_,λi g v E ak=>?_,λi g v E ak=>?_,λb x q=>?_,?_,rfl,Ext.refl,λb x q h0=>.inl (Y b x q h0),λ_ _=>rfl,λb H=>by grind[lt]⟩
  . obtain⟨_,j,rfl,X⟩:=sF E;obtain⟨x,q,K⟩:=L.get X;grind
  . grind[sF]
  . grind[sF,mo]
  . grind[lt]
  grind
 refine wp_mono (h _ U _ φ S _ w rfl R) ?_
 rintro e bX w' ⟨bc,bd,env',J',N',a,R'⟩
 have F:(∃ p vs,oT env' J' D = some (p,vs)/\p/\Q (lY vs) J' N')->bX.defers = []/\∃ v,(results fn bX.tmps).run P w' = .ok v w'/\(∃ M r o A t y,Ending.returned v = .returned M/\Q r t y/\bW o w' A r M/\r.ay (lt y) = true/\pE o w' A t/\(∀ (b:Nat) x,aR t b = some x->b<y/\x.ay (lt y) = true)/\Ext B S A w w'/\
  (∀(b:Nat) x,aR t b=some x->(o b).2≠0->B (o b).1\/w.heap.size<=(o b).1)/\∀b,b<k->o b=φ b):=by
  rintro ⟨p,an,h1,G,N⟩
  obtain⟨xs,ax,Z,O⟩:=QG R' K h1 G;refine⟨R'.defers,_,?_,_,lY an,bc,bd,J',N',rfl,N,bW.lY Z,YA O,R'.bD,λb x q=>?_,R'.ext,R'.own,R'.fix⟩
  . simp_all[Array.mapM_eq_mapM_toList,Ry]
  . obtain⟨h1,G⟩:=R'.dG b x q;grind[lt]
 cases e with
 |normal=>exact F a
 |ret=>exact F a
 |exit id=>exact a.elim
 |goto l=>exact a.elim
 |panic ly=>exact a.elim
 |outgrown=>exact a.elim
end
end
open Go
def C.sh(k:Nat):C->C
 |.ptr b o=>.ptr (k+b) o
 |.cG b sz i o=>.cG (k+b) sz i o
 |.arr b sz off len=>.arr (k+b) sz off len
 |.fL b sz off len=>.fL (k+b) sz off len
 |.mp b=>.mp (k+b)
 |.eu b=>.eu (k+b)
 |.cb b len=>.cb (k+b) len
 |.fn f caps=>.fn f (caps.map (k+·))
 |c=>c
def V.sh(k:Nat):V->V
 |.c x=>.c (x.sh k)
 |.agg cs=>.agg (cs.map (C.sh k))
 |.a6 vs=>.a6 (go k vs)
where go (k:Nat):List V->List V
 |[]=>[]
 |v::vs=>v.sh k::go k vs
def bP.sh(k:Nat):bP->bP
 |.box cs=>.box (cs.map (C.sh k))
 |.arr sz es=>.arr sz es
 |.set ks=>.set ks
 |.buf E s=>.buf E s
 |.bT E c=>.bT E (c.sh k)
 |.cz sz es i o c=>.cz sz es i o (c.sh k)
def ma(J:aZ)(k:Nat):aZ->aZ
 |[]=>J
 |(b,x)::r=>c7 (ma J k r) (k+b) (x.sh k)
variable{J:aZ}{f:Nat}{K:V->aZ->Prop}{bc:cZ}{Q:V->aZ->Nat->Prop}
theorem yp{k:Nat}:∀{a:aZ} {b:Nat},aR (ma J k a) b=match (if k<=b then aR a (b-k)else none)with|some x=>some (x.sh k)|none=>aR J b
 |[],b=>by simp[ma,aR]
 |(c,x)::r,b=>by
  simp[ma,cR,yp,aR];grind
section
variable {P:Program}{av:Ctx}{nt kk:Nat}{φ:cZ}{S bd:c0}{env:Env}{J:aZ}{N key:Nat}{n:Nat->Bool}{a:Act}{w w':World}
theorem hB.Oq{args:List V}{r:V}(h:eb P f args [] 0 (λg _ _=>g=r))(p:V.ay.V.dw (lt 0) args=true)(j:r.ay (lt 0)=true)(bJ:K r J):hB P f args J key K:=by
 intro av nt φ S env n a w R aP F vs q;refine(h φ S w (λ_=>False) ⟨λb x c=>by grind[aR],λb t x y c=>by grind[aR],R.bD.st⟩ (λb x c=>by grind[aR]) (λb x c=>by grind[aR]) p vs q).mono ?_
 rintro e w' ⟨v,g,bc,bd,J',N',rfl,rfl,h1,A,o,B,bp,D,E⟩
 refine⟨v,g,φ,bd,J,rfl,bJ,?_,V.hg (λb h=>by grind[lt]) j,(R.extend bp o.st).more λ_ h=>lN h⟩;exact bW.mono (gq.refl _ _) (λb h=>by grind[lt]) j h1
theorem bn.sh{k:Nat}{n:Nat->Bool}(e:∀b,n b=true->bc (k+b)=φ b){c:C}{v:Value}(a:c.ay n=true)(h:bn φ w S c v):bn bc w S (c.sh k) v:=by
 cases c with
 |ptr b o=>grind[C.ay,C.sh,bn]
 |cG b sz i o=>grind[C.ay,C.sh,bn]
 |arr b sz off len=>grind[C.ay,C.sh,bn]
 |fL b sz off len=>grind[C.ay,C.sh,bn]
 |mp b=>grind[C.ay,C.sh,bn]
 |eu b=>grind[C.ay,C.sh,bn]
 |cb b len=>grind[C.ay,C.sh,bn]
 |fn f caps=>
  simp_all[C.ay,C.sh,bn]
 |_=>exact h
theorem Ia{k:Nat}:∀{vs:List V} {i:Nat},(V.sh.go k vs)[i]?=(vs[i]?).map (V.sh k)
 |[],i=>by rfl
 |v::vs,0=>by rfl
 |v::vs,i+1=>by simp[V.sh.go,Ia]
theorem QH{k:Nat}:∀{vs:List V},(V.sh.go k vs).length=vs.length
 |[]=>rfl
 |v::vs=>by simp[V.sh.go,QH]
theorem bW.sh{k:Nat}{n:Nat->Bool}(e:∀b,n b=true->bc (k+b)=φ b){v:V}{x:Value}(a:v.ay n=true)(h:bW φ w S v x):bW bc w S (v.sh k) x:=by
 induction h with
 |c h=>exact .c (bn.sh e (by grind[V.ay]) h)
 | @agg cs vs h=>
  simp[V.ay]at a;refine .agg ?_;have:=h.imp λc v f g=>bn.sh e (a c f) g;exact this.pg λ_ _ h=>h
 |a6 vs xs ad h ih=>
  refine .a6 _ xs (by grind[QH]) ?_;grind[Ia,mo,V.ay]
theorem C.qU{m:Nat}(a:m<=16){c:C}(h:c.ay (lt m)=true):(c.sh key).ay (ew n key)=true:=by
 cases c<;>simp[C.sh,C.ay,lt,ew]at h⊢
 all_goals grind
theorem V.qU{m:Nat}(a:m<=16):∀{v:V},v.ay (lt m)=true->(v.sh key).ay (ew n key)=true
 |.c x,h=>by grind[V.sh,V.ay,C.qU]
 |.agg cs,h=>by grind[V.sh,V.ay,C.qU]
 |.a6 vs,h=>by exact go vs h
where go:∀vs,V.ay.V.dw (lt m) vs=true->V.ay.V.dw _ (V.sh.go _ vs)=true
 |[],_=>rfl
 |v::vs,h=>by simp[V.sh.go,V.ay.V.dw,cX]at h⊢;exact⟨V.qU a h.1,go vs h.2⟩
theorem hB.ad4{args:List V}(h:eb P f args [] 0 Q)(G:V.ay.V.dw (lt 0) args=true)
 (bJ:∀r J' N',Q r J' N'->N'<=16/\K (r.sh key) (ma J key J')):hB P f args J key K:=by
 intro av nt φ S env n a w R aP be vs a3;refine(h φ S w (λ_=>False) ⟨λb x j=>by grind[aR],λb L x y j=>by grind[aR],R.bD.st⟩ (λb x j=>by grind[aR]) (λb x j=>by grind[aR]) G vs a3).mono ?_
 rintro e w' ⟨v,a4,bc,bd,J',N',rfl,a0,h1,an,N,O,bp,a5,a9⟩
 obtain⟨cp,bJ⟩:=bJ _ _ _ a0;have aH:=R.extend bp N.st;let D:cZ:=λb=>if key<=b/\b<key+16 then bc (b-key)else φ b
 have aE:∀b,n b=true->D b=φ b:=by grind
 have B:∀b,lt N' b=true->D (key+b)=bc b:=by
  intro b G;simp only[lt,gE]at G;grind
 have A:=aH.sZ aE;have H:∀b x,aR (ma J key J') b=some x->(∃c q,b=key+c/\aR J' c=some q/\x=q.sh key)\/aR J b=some x:=by
  grind[yp]
 have Y:∀c q,aR J' c=some q->(D (key+c)).2≠0->w.heap.size<=(D (key+c)).1:=by grind
 have ax:∀b x,aR J b=some x->(D b).2≠0->(D b).1<w.heap.size:=by
  intro b x j h0;rw[aE b (R.dG b x j).1]at h0⊢;exact(R.bD.blk b x j).jk h0
 refine⟨v,a4.sh key,D,bd,ma J key J',rfl,bJ,bW.sh B an h1,V.qU cp an,⟨⟨λb x j=>?_,λb L x y j U a1 h0 F=>?_,N.st⟩,A.fZ,A.gN,λk g v ad ak=>V.hg (λ_ h=>lN h) (A.fY k g v ad ak),λb x j=>?_,A.size,A.defers,A.ext,λb x j h0=>?_,A.fix,λb G=>lN (A.gy b G)⟩⟩
 . rcases H b x j with⟨c,q,rfl,t,rfl⟩|j
   . have di:=N.blk c q t;have X:=O c q t;have aK:=B c (by grind[lt]);cases q with
     |box cs=>
      obtain⟨Z,vs,E,bb,bq,bU⟩:=di;simp only[bP.sh,cP,aK];refine⟨Z,vs,E,bb,?_,bU⟩;have ap:=X.2;simp only[bP.ay,f']at ap;have:=bq.imp λc v t a2=>bn.sh B (ap c t) a2;exact this.pg λ_ _ h=>h
     |arr sz es=>simp only[bP.sh,cP,aK];exact di
     |set ks=>simp only[bP.sh,cP,aK];exact di
     |buf E s=>simp only[bP.sh,cP,aK];exact di
     |bT E c=>
      obtain⟨Z,⟨p,v,bb,bq,bU⟩,cu⟩:=di;simp only[bP.sh,cP,aK];exact⟨Z,⟨p,v,bb,bq,bn.sh B (by simpa[bP.ay]using X.2) bU⟩,cu⟩
     |cz sz es i o c=>
      obtain⟨h1,⟨vs,E,bb,bq,bU,v,cu,cW⟩,da⟩:=di;simp only[bP.sh,cP,aK];exact⟨h1,⟨vs,E,bb,bq,bU,v,cu,bn.sh B (by simpa[bP.ay]using X.2) cW⟩,da⟩
   . exact A.bD.blk b x j
 . rcases H b x j with⟨c,q,rfl,t,rfl⟩|j<;>rcases H L y U with⟨M,am,rfl,W,rfl⟩|U
   . have aK:=B c (by simp[lt];exact(O c q t).1);have aY:=B M (by simp[lt];exact(O M am W).1);rw[aK]at h0⊢;rw[aY]at F⊢;exact N.inj c M q am t W (by omega) h0 F
   . have:=Y c q t h0;have:=ax L y U F;omega
   . have:=Y M am W F;have:=ax b x j h0;omega
   . exact A.bD.inj b L x y j U a1 h0 F
 . rcases H b x j with⟨c,q,rfl,t,rfl⟩|j
   . obtain⟨bb,bq⟩:=O c q t;refine⟨by simp[ew];right;omega,?_⟩;cases q with
     |box cs=>
      simp only[bP.sh,bP.ay,List.all_map,f']at bq⊢;intro c t;exact C.qU cp (bq c t)
     |arr sz es=>rfl
     |set ks=>rfl
     |buf E s=>rfl
     |bT E c=>exact C.qU cp bq
     |cz sz es i o c=>simp only[bP.sh,bP.ay]at bq⊢;exact C.qU cp bq
   . obtain⟨bb,bq⟩:=A.dG b x j;exact⟨lN bb,bP.hg (λ_ h=>lN h) bq⟩
 . rcases H b x j with⟨c,q,rfl,t,rfl⟩|j
   . exact .inr (gz R.ext.size (Y c q t h0))
   . exact A.own b x j h0
end
theorem eb.mk{P:Program}{fn:Func}{c:dv}{a:List iU}(g:P.funcs[f]?=some fn)(e:fn.body.bind (resolve P fn.ntmps)=some c)(o:hT P fn.results.toList=some a)
 {args:List V}{nt:Nat}(j:fn.ntmps=nt)(aP:args.length<=nt){k:Nat}{Q:V->aZ->Nat->Prop}(h:ck P nt k c (fm 0 args) J k (CY a Q)):eb P f args J k Q:=by
 grind[bf,eb.D4]
section
open Go
def C.b'(f:Nat->Nat):C->C
 |.ptr b o=>.ptr (f b) o
 |.cG b sz i o=>.cG (f b) sz i o
 |.arr b sz off len=>.arr (f b) sz off len
 |.fL b sz off len=>.fL (f b) sz off len
 |.mp b=>.mp (f b)
 |.eu b=>.eu (f b)
 |.cb b len=>.cb (f b) len
 |.fn g caps=>.fn g (caps.map f)
 |c=>c
def V.b'(f:Nat->Nat):V->V
 |.c x=>.c (x.b' f)
 |.agg cs=>.agg (cs.map (C.b' f))
 |.a6 vs=>.a6 (go f vs)
where go (f:Nat->Nat):List V->List V
 |[]=>[]
 |v::vs=>v.b' f::go f vs
def bP.b'(f:Nat->Nat):bP->bP
 |.box cs=>.box (cs.map (C.b' f))
 |.arr sz es=>.arr sz es
 |.set ks=>.set ks
 |.buf E s=>.buf E s
 |.bT E c=>.bT E (c.b' f)
 |.cz sz es i o c=>.cz sz es i o (c.b' f)
def oc(J:aZ):aW->aZ
 |[]=>J
 |b::r=>gV (oc J r) b
variable{J:aZ}{f:Nat->Nat}{bs:aW}{bc:cZ}{v:V}{Q:V->aZ->Nat->Prop}{x:aO}{o:cH}{p:Prop}{K:Env->aZ->Prop}{g:Bool}
theorem qA:∀{bs:aW} {b:Nat},aR (oc J bs) b=if b∈bs then none else aR J b
 |[],b=>by rfl
 |c::r,b=>by
  simp[oc,fk,qA];grind
def back(bs:aW)(key:Nat)(b:Nat):Nat:=(bs[b]?).getD (key+(b-bs.length))
def hf(J:aZ)(bs:aW)(f:Nat->Nat):aZ->aZ
 |[]=>oc J bs
 |(b,x)::r=>c7 (hf J bs f r) (f b) (x.b' f)
theorem Ib:∀{d:aZ} {c:Nat} {x:bP},aR (hf J bs f d) c=some x->(∃b a,c=f b/\aR d b=some a/\x=a.b' f)\/(c ∉ bs/\aR J c=some x)
 |[],c,x,h=>by
  grind[hf,qA]
 |(b,y)::r,c,x,h=>by
  simp[hf,cR]at h;split at h
  . grind[aR]
  . rcases Ib h with⟨e,a,h1,g,i⟩|h
    . grind[aR]
    grind
section
variable {P:Program}{av:Ctx}{nt kk:Nat}{φ:cZ}{S bd:c0}{env:Env}{J:aZ}{N key:Nat}{n:Nat->Bool}{a:Act}{w w':World}{f:Nat->Nat}
theorem bn.b'{n:Nat->Bool}(e:∀b,n b=true->bc (f b)=φ b){c:C}{v:Value}(a:c.ay n=true)(h:bn φ w S c v):bn bc w S (c.b' f) v:=by
 cases c with
 |ptr b o=>grind[C.ay,C.b',bn]
 |cG b sz i o=>grind[C.ay,C.b',bn]
 |arr b sz off len=>grind[C.ay,C.b',bn]
 |fL b sz off len=>grind[C.ay,C.b',bn]
 |mp b=>grind[C.ay,C.b',bn]
 |eu b=>grind[C.ay,C.b',bn]
 |cb b len=>grind[C.ay,C.b',bn]
 |fn g caps=>
  simp_all[C.ay,C.b',bn]
 |_=>exact h
theorem GB:∀{vs:List V} {i:Nat},(V.b'.go f vs)[i]?=(vs[i]?).map (V.b' f)
 |[],i=>by rfl
 |v::vs,0=>by rfl
 |v::vs,i+1=>by simp[V.b'.go,GB]
theorem FJ:∀{vs:List V},(V.b'.go f vs).length=vs.length
 |[]=>rfl
 |v::vs=>by simp[V.b'.go,FJ]
theorem bW.b'{n:Nat->Bool}(e:∀b,n b=true->bc (f b)=φ b){x:Value}(a:v.ay n=true)(h:bW φ w S v x):bW bc w S (v.b' f) x:=by
 induction h with
 |c h=>exact .c (bn.b' e (by grind[V.ay]) h)
 | @agg cs vs h=>
  simp[V.ay]at a;refine .agg ?_;have:=h.imp λc v g j=>bn.b' e (a c g) j;exact this.pg λ_ _ h=>h
 |a6 vs xs ad h ih=>
  refine .a6 _ xs (by grind[FJ]) ?_;grind[GB,mo,V.ay]
theorem C.qN{n m:Nat->Bool}(a:∀b,m b=true->n (f b)=true){c:C}(h:c.ay m=true):(c.b' f).ay n=true:=by
 cases c<;>simp[C.b',C.ay]at h⊢
 all_goals grind
theorem V.qN{n m:Nat->Bool}(a:∀b,m b=true->n (f b)=true):∀{v:V},v.ay m=true->(v.b' f).ay n=true
 |.c x,h=>by grind[V.b',V.ay,C.qN]
 |.agg cs,h=>by grind[V.b',V.ay,C.qN]
 |.a6 vs,h=>by exact go vs h
where go:∀vs,V.ay.V.dw m vs=true->V.ay.V.dw n (V.b'.go f vs)=true
 |[],_=>rfl
 |v::vs,h=>by simp[V.b'.go,V.ay.V.dw,cX]at h⊢;exact⟨V.qN a h.1,go vs h.2⟩
theorem Rel.adn{B:Nat->Prop}(R:Rel av nt φ S env J n a w)(e:Ext B S bd w w')(O:∀b j,bd b j->b<w'.heap.size)(N:∀b x,aR J b=some x->(φ b).2≠0->¬B (φ b).1)(di:∀b,B b->av.B b\/av.kN.heap.size<=b):Rel av nt φ bd env J n a w':=by
 have aa:=λb x f h0=>e.block _ ((R.bD.blk b x f).jk h0) (N b x f h0);have F:∀b x,aR J b=some x->(φ b).2≠0->∀j,¬bd (φ b).1 j:=by
  intro b x f h0 j K;have y:=R.bD.blk b x f;rcases e.lj _ _ K with h|h|h
  . exact y.ph h0 j h
  . grind
  grind
 refine⟨⟨λb x f=>?_,R.bD.inj,O⟩,λk g v ad ak=>?_,R.gN,R.fY,R.dG,R.size,R.defers,?_,R.own,R.fix,R.gy⟩
 . have y:=R.bD.blk b x f;cases x with
   |box cs=>
    obtain⟨h0,vs,E,h1,q,A⟩:=y;refine⟨h0,vs,E,(aa _ _ f h0).trans h1,q.imp λc v P D=>bn.mono e.mono (λ_ _=>rfl) (C.mc _) D,F b _ f h0⟩
   |arr sz es=>
    obtain⟨h1,q,A,G,bp⟩:=y;refine⟨h1,q,A,G,λh0=>?_⟩;obtain⟨vs,E,bb,bq,bU,cu⟩:=bp h0;exact⟨vs,E,(aa _ _ f h0).trans bb,bq,λi j H t he ht=>let⟨v,L,D⟩:=bU i j H t he ht;⟨v,L,bM.mono e.mono D⟩,F b _ f h0⟩
   |set ks=>
    obtain⟨h0,⟨es,c,h1,q⟩,A⟩:=y;exact⟨h0,⟨es,c,(aa _ _ f h0).trans h1,q⟩,F b _ f h0⟩
   |buf E s=>
    obtain⟨h1,q,A⟩:=y;refine⟨h1,q,λh0=>?_⟩;grind
   |bT E c=>
    obtain⟨h0,⟨p,v,h1,q,A⟩,G⟩:=y;exact⟨h0,⟨p,v,(aa _ _ f h0).trans h1,q,bn.mono e.mono (λ_ _=>rfl) (C.mc _) A⟩,F b _ f h0⟩
   |cz sz es i o c=>
    obtain⟨⟨h1,q,A,G,bp,M⟩,⟨vs,E,bb,bq,bU,v,cu,cW⟩,da⟩:=y;exact⟨⟨h1,q,A,G,bp,M⟩,⟨vs,E,(aa _ _ f (by omega)).trans bb,bq,λi j H t he ht aP=>let⟨v,L,D⟩:=bU i j H t he ht aP;⟨v,L,bM.mono e.mono D⟩,v,cu,bn.mono e.mono (λ_ _=>rfl) (C.mc _) cW⟩,F b _ f (by omega)⟩
 . obtain⟨x,f,D⟩:=R.fZ k g v ad ak;exact⟨x,f,bW.mono e.mono (λ_ _=>rfl) (R.fY k g v ad ak) D⟩
 . refine⟨e.os.trans R.ext.os,e.tape.trans R.ext.tape,e.output.trans R.ext.output,gz R.ext.size e.size,λb aE y=>?_,R.ext.mono.trans e.mono,λb j K=>?_⟩
   . refine(e.block b (jg aE R.ext.size) λh=>?_).trans (R.ext.block b aE y);grind
   . rcases e.lj _ _ K with h|h|h
     . exact R.ext.lj b j h
     . grind
     . exact .inr (.inr (gz R.ext.size h))
theorem hB.raw {fn:Nat}{args:List V}{bs:aW}{Q:V->aZ->Nat->Prop}(bY:bs.Nodup)(aE:∀b,b∈bs->b<key)(h:eb P fn (args.map (V.bO bs)) (fH bs J 0 bs) bs.length Q){K:V->aZ->Prop}
 (bJ:∀r J' N',Q r J' N'->N'<=bs.length+16/\K (r.b' (back bs key)) (hf J bs (back bs key) J')):(∀b,b∈bs->n b=true)->∀av nt φ S env a w,Rel av nt φ S env J n a w->(∀b,key<=b->b<key+16->n b=false)->V.ay.V.dw n args=true->∀vs:List Value,aX (bW φ w S) args vs->
 Calls P fn vs.toArray w λe w'=>∃v r bc bd J',e= .returned v/\K r J'/\bW bc w' bd r v/\r.ay (ew n key)=true/\Rel av nt bc bd env J' (ew n key) a w':=by
 intro t av nt φ S env a w R aP fd vs dt;let aY:cZ:=λi=>φ ((bs[i]?).getD 0);have aH:∀(i:Nat) b,bs[i]?=some b->aY i=φ b:=by grind
 let B:Nat->Prop:=λbj=>∃b x,b∈bs/\aR J b=some x/\(φ b).2≠0/\bj=(φ b).1;have ax:∀b x,aR (fH bs J 0 bs) b=some x->∃c j,bs[b]?=some c/\aR J c=some j/\x=j.bO bs:=by
  grind[oK]
 have dr:pE aY w S (fH bs J 0 bs):=by
  refine⟨λb x f=>?_,λb D x y f G a1 h0 F=>?_,R.bD.st⟩
  . obtain⟨c,j,M,L,rfl⟩:=ax b x f;exact cP.bO aH M (R.bD.blk c j L)
  . obtain⟨c,j,M,L,rfl⟩:=ax b x f;obtain⟨O,an,b1,b2,rfl⟩:=ax D y G;rw[aH b c M]at h0⊢;rw[aH D O b1]at F⊢;refine R.bD.inj c O j an L b2 ?_ h0 F;grind[List.getElem?_eq_some_iff,List.pairwise_iff_getElem]
 have ci:aX (bW aY w S) (args.map (V.bO bs)) vs:=dt.pg λ_ _=>bW.bO aH;have ct:V.ay.V.dw (lt bs.length) (args.map (V.bO bs))=true:=by
  simp_all[rA,qP,bu,V.jK]
 refine(h aY S w B dr (λb x f=>?_) (λb x f h0=>?_) ct vs ci).mono ?_
 . obtain⟨c,j,M,L,rfl⟩:=ax b x f;refine⟨(dV.1 M).1,?_⟩;cases j with
   |box cs=>grind[bP.bO,bP.ay,List.all_map,List.all_eq_true,C.jK]
   |arr sz es=>rfl
   |set ks=>rfl
   |buf E s=>rfl
   |bT E c=>exact C.jK c
   |cz sz es i o c=>exact C.jK c
 . grind
 rintro e w' ⟨v,ec,bc,bd,J',N',rfl,ce,h1,M,L,U,bp,eq,ex⟩
 obtain⟨cp,bJ⟩:=bJ _ _ _ ce;have a4:∀b,B b->av.B b\/av.kN.heap.size<=b:=by
  rintro bj ⟨b,x,_,f,h0,rfl⟩
  exact R.own b x f h0
 have bv:Rel av nt φ S env (oc J bs) n a w:=by
  have am:∀b x,aR (oc J bs) b=some x->b ∉ bs/\aR J b=some x:=by
   grind[qA]
  exact⟨⟨λb x f=>R.bD.blk b x (am b x f).2,λb D x y f G=>R.bD.inj b D x y (am b x f).2 (am D y G).2,R.bD.st⟩,R.fZ,R.gN,R.fY,λb x f=>R.dG b x (am b x f).2,R.size,R.defers,R.ext,λb x f=>R.own b x (am b x f).2,R.fix,R.gy⟩
 have cF:∀b x,b ∉ bs->aR J b=some x->(φ b).2≠0->¬B (φ b).1:=by
  rintro b x t f h0 ⟨c,y,q,G,F,he⟩
  exact R.bD.inj b c x y f G (λe=>t (e▸q)) h0 F he
 have bX:=bv.adn bp L.st (λb x f h0=>by
  grind[qA]) a4
 let H:cZ:=λb=>if key<=b/\b<key+16 then bc (bs.length+(b-key))else φ b
 have bi:∀b,n b=true->H b=φ b:=by grind
 have N:∀b,lt N' b=true->H (back bs key b)=bc b:=by
  intro b W;simp only[lt,gE]at W;unfold back;grind
 have Z:∀b,lt N' b=true->ew n key (back bs key b)=true:=by
  intro b W;simp only[lt,gE]at W;unfold back;cases ak:bs[b]? with
  |some c=>exact lN (t c (e7 ak))
  |none=>
   simp only[Option.getD_none,ew,lV,cX,gE];right;omega
 have A:=bX.sZ bi;have Y:∀b x,aR (hf J bs (back bs key) J') b=some x->(∃c j,b=back bs key c/\aR J' c=some j/\x=j.b' (back bs key))\/(b ∉ bs/\aR J b=some x):=λb x f=>Ib f;have X:∀b x,b ∉ bs->aR J b=some x->aR (oc J bs) b=some x:=by simp_all[qA,al]
 have a2:∀c j,aR J' c=some j->(H (back bs key c)).2≠0->B (H (back bs key c)).1\/w.heap.size<=(H (back bs key c)).1:=by
  intro c j q h0;rw[N c (by simp[lt];exact(U c j q).1)]at h0⊢;grind
 have be:∀b x,b ∉ bs->aR J b=some x->(H b).2≠0->(H b).1<w.heap.size/\¬B (H b).1:=by
  intro b x t f h0;rw[bi b (R.dG b x f).1]at h0⊢;exact⟨(R.bD.blk b x f).jk h0,cF b x t f h0⟩
 refine⟨v,ec.b' (back bs key),H,bd,hf J bs (back bs key) J',rfl,bJ,bW.b' N M h1,V.qN Z M,⟨⟨λb x f=>?_,λb D x y f G a1 h0 F=>?_,L.st⟩,A.fZ,A.gN,λk g v ad ak=>V.hg (λ_ h=>lN h) (A.fY k g v ad ak),λb x f=>?_,A.size,A.defers,A.ext,λb x f h0=>?_,A.fix,λb W=>lN (A.gy b W)⟩⟩
 . rcases Y b x f with⟨c,j,rfl,q,rfl⟩|⟨t,f⟩
   . have di:=L.blk c j q;have ap:=U c j q;have aK:=N c (by simp[lt];exact ap.1);cases j with
     |box cs=>
      obtain⟨a3,vs,E,bb,bq,bU⟩:=di;simp only[bP.b',cP,aK];refine⟨a3,vs,E,bb,?_,bU⟩;have a5:=ap.2;simp only[bP.ay,f']at a5;have:=bq.imp (R':=λc v=>bn H w' bd (C.b' (back bs key) c) v) λc v q c'=>bn.b' N (a5 c q) c';exact this.pg λ_ _ h=>h
     |arr sz es=>simp only[bP.b',cP,aK];exact di
     |set ks=>simp only[bP.b',cP,aK];exact di
     |buf E s=>simp only[bP.b',cP,aK];exact di
     |bT E c=>
      obtain⟨a3,⟨p,v,bb,bq,bU⟩,cu⟩:=di;simp only[bP.b',cP,aK];exact⟨a3,⟨p,v,bb,bq,bn.b' N (by simpa[bP.ay]using ap.2) bU⟩,cu⟩
     |cz sz es i o c=>
      obtain⟨h1,⟨vs,E,bb,bq,bU,v,cu,cW⟩,da⟩:=di;simp only[bP.b',cP,aK];exact⟨h1,⟨vs,E,bb,bq,bU,v,cu,bn.b' N (by simpa[bP.ay]using ap.2) cW⟩,da⟩
   . exact A.bD.blk b x (X b x t f)
 . rcases Y b x f with⟨c,j,rfl,q,rfl⟩|⟨t,f⟩<;>rcases Y D y G with⟨O,an,rfl,a0,rfl⟩|⟨a9,G⟩
   . have aK:=N c (by simp[lt];exact(U c j q).1);have b0:=N O (by simp[lt];exact(U O an a0).1);rw[aK]at h0⊢;rw[b0]at F⊢;exact L.inj c O j an q a0 (by rintro rfl;exact a1 rfl) h0 F
   . obtain⟨bb,bq⟩:=be D y a9 G F;rcases a2 c j q h0 with h|h
     . intro e;rw[e]at h;exact bq h
     . omega
   . obtain⟨bb,bq⟩:=be b x t f h0;rcases a2 O an a0 F with h|h
     . intro e;rw[<-e]at h;exact bq h
     . omega
   . exact A.bD.inj b D x y (X b x t f) (X D y a9 G) a1 h0 F
 . rcases Y b x f with⟨c,j,rfl,q,rfl⟩|⟨t,f⟩
   . obtain⟨bb,bq⟩:=U c j q;refine⟨Z c (by simp[lt];exact bb),?_⟩;cases j with
     |box cs=>
      simp only[bP.b',bP.ay,List.all_map,f']at bq⊢;intro c q;exact C.qN Z (bq c q)
     |arr sz es=>rfl
     |set ks=>rfl
     |buf E s=>rfl
     |bT E c=>simp only[bP.b',bP.ay]at bq⊢;exact C.qN Z bq
     |cz sz es i o c=>simp only[bP.b',bP.ay]at bq⊢;exact C.qN Z bq
   . obtain⟨bb,bq⟩:=A.dG b x (X b x t f);exact⟨lN bb,bP.hg (λ_ h=>lN h) bq⟩
 . rcases Y b x f with⟨c,j,rfl,q,rfl⟩|⟨t,f⟩
   . rcases a2 c j q h0 with h|h
     . exact a4 _ h
     . exact .inr (gz R.ext.size h)
   . exact A.own b x (X b x t f) h0
theorem hB.ad5{fn:Nat}{args:List V}(bY:bs.Nodup)(aE:∀b,b∈bs->b<key)(e:∀b,b∈bs->∃x,aR J b=some x)(h:eb P fn (args.map (V.bO bs)) (fH bs J 0 bs) bs.length Q){K:V->aZ->Prop}
 (bJ:∀r J' N',Q r J' N'->N'<=bs.length+16/\K (r.b' (back bs key)) (hf J bs (back bs key) J')):hB P fn args J key K:=by
 intro av nt φ S env n a w R aP c vs f;exact hB.raw bY aE h bJ (λb c=>let⟨x,g⟩:=e b c;(R.dG b x g).1) av nt φ S _ a w R aP c vs f
theorem QI:∀{l:aW} {i:Nat} {J J':aZ},(∀b,b∈l->aR J' b=aR J b)->fH bs J' i l=fH bs J i l
 |[],i,J,J',h=>rfl
 |b::r,i,J,J',h=>by
  simp[fH];rw[h b (by simp),QI λc a=>h c (by grind)]
theorem QJ:∀{a:aZ} {J J':aZ} {c:Nat},(aR (oc J' bs) c=aR (oc J bs) c)->aR (hf J' bs f a) c=aR (hf J bs f a) c
 |[],J,J',c,h=>h
 |(b,x)::r,J,J',c,h=>by
  simp[hf,cR];split
  . rfl
  . exact QJ h
theorem EE{key:Nat}:∀{d:aZ} {J:aZ} {c:Nat},d.all (λx=>decide (x.1<bs.length+16))=true->c ∉ bs->¬(key<=c/\c<key+16)->aR (hf J bs (back bs key) d) c=aR J c
 |[],J,c,a,e,f=>by grind[hf,qA]
 |(b,x)::r,J,c,a,e,f=>by
  simp only[pq,cX]at a;simp[hf,cR];rw[al ?_]
  . exact EE a.2 e f
  grind[back]
end
variable {xb:aW}
section
variable {P:Program}{av:Ctx}{nt kk:Nat}{φ:cZ}{S:c0}{env env':Env}{J J' J1:aZ}{N key:Nat}{n:Nat->Bool}{a:Act}{w:World}
theorem dq(h:∀t,t∈x.tmps->look env' t=look env t):x.get env'=x.get env:=by
 cases x with
 |const v=>rfl
 |tmp t=>grind[aO.get,aO.tmps]
theorem yq{xs:List aO}(h:∀t,t∈xs.flatMap aO.tmps->look env' t=look env t):hv env' xs=hv env xs:=by
 induction xs with
 |nil=>rfl
 |cons x xs ih=>
  grind[hv,dq]
theorem yr{x:Option aO}(h:∀t,t∈sP x->look env' t=look env t):jF env' x=jF env x:=by
 cases x with
 |none=>rfl
 |some x=>simp[jF];rw[dq h]
theorem QK:∀{ps:List (Nat×Nat×aO)} {cs:List C},(∀t,t∈(ps.flatMap λp=>p.2.2.tmps)->look env' t=look env t)->kW env' cs ps=kW env cs ps
 |[],cs,h=>rfl
 |(o,k,x)::r,cs,h=>by
  simp[kW];rw[dq (λt ht=>h t (by grind))]
  congr 1;funext a;congr 1;funext c
  split
  . rw[QK (λt ht=>h t (by grind))]
  rfl
theorem FK{sz:Nat}:∀{ps:List (Nat×aO)} {es:List (List T)},(∀t,t∈(ps.flatMap λp=>p.2.tmps)->look env' t=look env t)->jB env' sz es ps=jB env sz es ps
 |[],cs,h=>rfl
 |(i,x)::r,es,h=>by
  simp[jB];rw[dq (λt ht=>h t (by grind))]
  congr 1;funext a;congr 1;funext c;congr 1;funext ts
  split
  . rw[FK (λt ht=>h t (by grind))]
  rfl
theorem YB(h:∀t,t∈o.reads->look env' t=look env t):aM o env' J key=aM o env J key:=by
 cases o<;>simp only[cH.reads,hP]at h
 case mov x=>simp only[aM];rw[dq h]
 case pick c x y=>grind[aM,dq]
 case alloc=>rfl
 case box x=>simp only[aM];rw[dq h]
 case allocA=>rfl
 case b2s x=>simp only[aM];rw[dq h]
 case allocS=>rfl
 case mkset=>rfl
 case bsliceT e sz len z ps=>simp only[aM];congr 1;funext a;rw[FK h]
 case lkset x y=>simp only[aM];rw[dq λt ht=>h t (.inl ht),dq λt ht=>h t (.inr ht)]
 case upset x y=>simp only[aM];rw[dq λt ht=>h t (.inl ht),dq λt ht=>h t (.inr ht)]
 case appendB e k x y=>simp only[aM];rw[dq λt ht=>h t (.inl ht),dq λt ht=>h t (.inr ht)]
 case sdata x=>simp only[aM];rw[dq h]
 case ustr e x y=>simp only[aM];rw[dq λt ht=>h t (.inl ht),dq λt ht=>h t (.inr ht)]
 case idxP k x y=>simp only[aM];rw[dq λt ht=>h t (.inl ht),dq λt ht=>h t (.inr ht)]
 case slcP k x l i=>simp only[aM];rw[dq λt ht=>h t (.inl (.inl ht)),yr λt ht=>h t (.inl (.inr ht)),yr λt ht=>h t (.inr ht)]
 case build z ps=>simp only[aM];rw[QK h]
 case bslice sz len z ps=>simp only[aM];congr 1;funext a;rw[FK h]
 case load g k x=>simp only[aM];rw[dq h]
 case store k x v=>simp only[aM];rw[dq λt ht=>h t (.inl ht),dq λt ht=>h t (.inr ht)]
 case nilCheck x=>simp only[aM];rw[dq h]
 case bin op x y=>simp only[aM];rw[dq λt ht=>h t (.inl ht),dq λt ht=>h t (.inr ht)]
 case eqAgg op ks x y=>simp only[aM];rw[dq λt ht=>h t (.inl ht),dq λt ht=>h t (.inr ht)]
 case eqBool op x y=>simp only[aM];rw[dq λt ht=>h t (.inl ht),dq λt ht=>h t (.inr ht)]
 case eqNil=>rfl
 case not x=>simp only[aM];rw[dq h]
 case conv k x=>simp only[aM];rw[dq h]
 case i2s x=>simp only[aM];rw[dq h]
 case s2s x=>simp only[aM];rw[dq h]
 case fldA k x=>simp only[aM];rw[dq h]
 case fld g k m x=>simp only[aM];rw[dq h]
 case idxA op x y=>simp only[aM];rw[dq λt ht=>h t (.inl ht),dq λt ht=>h t (.inr ht)]
 case idxV op x y=>simp only[aM];rw[dq λt ht=>h t (.inl ht),dq λt ht=>h t (.inr ht)]
 case mslice op _ z x=>simp only[aM];rw[dq h]
 case idxS x y=>simp only[aM];rw[dq λt ht=>h t (.inl ht),dq λt ht=>h t (.inr ht)]
 case slcS x l i=>simp only[aM];rw[dq λt ht=>h t (.inl (.inl ht)),yr λt ht=>h t (.inl (.inr ht)),yr λt ht=>h t (.inr ht)]
 case slc k x l i=>grind[aM,dq,yr]
 case slc0 x=>simp only[aM];rw[dq h]
 case mkfn f xs=>simp only[aM];rw[yq h]
 case ext x i=>simp only[aM];rw[dq h]
 case len s x=>grind[aM,dq]
 case append te sz by' x y=>simp only[aM];rw[dq λt ht=>h t (.inl ht),dq λt ht=>h t (.inr ht)]
 case max2 x y=>simp only[aM];rw[dq λt ht=>h t (.inl ht),dq λt ht=>h t (.inr ht)]
 case min2 x y=>grind[aM,dq]
 case call=>rfl
 rfl
def ee(env:Env)(x:aO):aW:=
 match x.get env with
 |some (_,.c (.ptr b _))=>[b]
 |some (_,.c (.cG b _ _ _))=>[b]
 |some (_,.c (.arr b _ _ _))=>[b]
 |some (_,.c (.fL b _ _ _))=>[b]
 |some (_,.c (.mp b))=>[b]
 |some (_,.c (.eu b))=>[b]
 |some (_,.c (.cb b _))=>[b]
 |_=>[]
def C.fV:C->aW
 |.ptr b _|.cG b _ _ _|.arr b _ _ _|.fL b _ _ _|.mp b|.eu b|.cb b _=>[b]
 |.fn _ caps=>caps
 |_=>[]
def V.fV:V->aW
 |.c x=>x.fV
 |.agg cs=>cs.flatMap C.fV
 |.a6 _=>[]
def kT(env:Env)(args:List aO):aW:=
 args.flatMap λx=>match x.get env with
  |some (_,v)=>v.fV
  |none=>[]
def eh(xb:aW)(o:cH)(env:Env)(key:Nat):aW:=
 match o with
 |.alloc _|.allocA _|.box _|.bslice .. |.mslice .. |.mkset=>[key]
 |.allocS .. =>[key,key+1]
 |.lkset x _=>ee env x
 |.upset x _=>ee env x
 |.appendB _ _ x _=>key::ee env x
 |.ustr _ x _=>ee env x
 |.call _ args=>(List.range 16).map (key+·)++(kT env args++xb)
 |.load _ _ x=>ee env x
 |.b2s x=>ee env x
 |.store _ x _=>ee env x
 |.append _ _ _ x y=>key::(ee env x++ee env y)
 |_=>[]
def cB(xb:aW)(o:cH)(env:Env)(key b:Nat):Bool:=
 match o with
 |.alloc _|.allocA _|.box _|.bslice .. |.mslice .. |.mkset=>b==key
 |.allocS .. =>b==key||b==key+1
 |.upset x _=>(ee env x).contains b
 |.appendB _ _ x _=>b==key||(ee env x).contains b
 |.ustr _ x _=>(ee env x).contains b
 |.store _ x _=>(ee env x).contains b
 |.append _ _ _ x _=>b==key||(ee env x).contains b
 |.call _ args=>(decide (key<=b)&&decide (b<key+16))||(kT env args++xb).contains b
 |_=>false
theorem Vd(aP:o.neutral=true)(ht:o.hR=false){p v J1}(a:aM o env J key=some (p,v,J1)):aM o env J' key=some (p,v,J'):=by
 cases o<;>simp only[cH.neutral,cH.hR,reduceCtorEq]at aP ht<;>simp only[aM,bf,bu]at a⊢
 all_goals
  (try (obtain⟨a1,h1,a⟩:=a;refine⟨a1,h1,?_⟩))
  (try (obtain⟨a2,b,a⟩:=a;refine⟨a2,b,?_⟩))
  (try (obtain⟨a3,c,a⟩:=a;refine⟨a3,c,?_⟩))
  (try split at a)
  (try (done))
 all_goals first
  |(cases a;rfl)
  |(cases a;done)
  |(exact⟨x,h1,b,c,rfl⟩)
  |(simp only[bu]at a⊢;obtain⟨x,h1,b⟩:=a;simp only[ef]at b⊢;exact⟨x,h1,b.1,b.2.1,trivial⟩)
  |(simp only[ey,dP,ef]at a⊢;exact⟨a.1,a.2.1,a.2.2.1,trivial⟩)
theorem Ir{b:Nat}(h:x.get env=some (p,.c (.mp b))):ee env x=[b]:=by grind[ee]
theorem Xc{b:Nat}(h:x.get env=some (p,.c (.eu b))):ee env x=[b]:=by grind[ee]
theorem Rz{b l:Nat}(h:x.get env=some (p,.c (.cb b l))):ee env x=[b]:=by grind[ee]
theorem Ic{b o:Nat}(h:x.get env=some (p,.c (.ptr b o))):ee env x=[b]:=by grind[ee]
theorem RA{b sz i o:Nat}(h:x.get env=some (p,.c (.cG b sz i o))):ee env x=[b]:=by grind[ee]
theorem Xs{b sz i o:Nat}(h:x.get env=some (p,.c (.fL b sz i o))):ee env x=[b]:=by grind[ee]
theorem BN{b sz i o:Nat}(h:x.get env=some (p,.c (.arr b sz i o))):ee env x=[b]:=by grind[ee]
theorem Xd{p v}(a:aM o env J key=some (p,v,J1))(ht:∀b,b∈eh xb o env key->aR J' b=aR J b):
 (∃bj,aM o env J' key=some (p,v,bj)/\∀b,aR bj b=if cB xb o env key b then aR J1 b else aR J' b)/\∀b,cB xb o env key b=false->aR J1 b=aR J b:=by
 by_cases I:o.neutral=true/\o.hR=false
 . have aa:∀b,cB xb o env key b=false:=by intro b;cases o<;>simp only[cH.neutral,cH.hR,reduceCtorEq,ca,false_and,pj,and_self]at I<;>rfl
   have:=xl I.1 a;subst this;exact⟨⟨J',Vd I.1 I.2 a,λb=>by grind⟩,λb _=>rfl⟩
 . cases o<;>simp only[cH.neutral,cH.hR,reduceCtorEq,ca,false_and,pj,and_self,not_true,not_false_eq_true]at I
   case alloc cs=>
    simp only[aM,dP,ef]at a⊢;obtain⟨rfl,rfl,rfl⟩:=a;refine⟨⟨_,⟨rfl,rfl,rfl⟩,λb=>?_⟩,λb f=>?_⟩
    . simp only[cR,cB,ix];grind
    simp_all[cB,j',cR,al,dx]
   case allocA cs=>
    simp only[aM,bu,ef]at a⊢;obtain⟨ts,X,rfl,rfl,rfl⟩:=a;refine⟨⟨_,⟨ts,X,rfl,rfl,rfl⟩,λb=>?_⟩,λb f=>?_⟩
    . simp only[cR,cB,ix];grind
    simp_all[cB,j',cR,al,dx]
   case b2s x=>
    simp only[aM,bf,bu,ef]at a⊢;obtain⟨⟨n,v0⟩,h1,⟨q,s⟩,j,rfl,rfl,rfl⟩:=a;refine⟨⟨J',⟨(n,v0),h1,(q,s),?_,rfl,rfl,rfl⟩,λb=>rfl⟩,λb _=>rfl⟩;dsimp only at j⊢;unfold mX at j⊢;split at j
    . grind
    . grind
    . rename_i b off len;rw[ht b (by simp[eh,BN h1])];grind
    . rename_i b off len;rw[ht b (by simp[eh,Xs h1])];grind
    grind
   case box x=>
    simp only[aM,bf,bu,ef]at a⊢;obtain⟨K,h1,cs,j,rfl,rfl,rfl⟩:=a;refine⟨⟨_,⟨K,h1,cs,j,rfl,rfl,rfl⟩,λb=>?_⟩,λb f=>?_⟩
    . simp only[cR,cB,ix];grind
    simp_all[cB,j',cR,al,dx]
   case bslice sz len z ps=>
    simp only[aM,bf,bu,ef]at a⊢;obtain⟨K,h1,cs,j,rfl,rfl,rfl⟩:=a;refine⟨⟨_,⟨K,h1,cs,j,rfl,rfl,rfl⟩,λb=>?_⟩,λb f=>?_⟩
    . simp only[cR,cB,ix];grind
    simp_all[cB,j',cR,al,dx]
   case mslice sz by' z x=>
    simp only[aM,bf]at a⊢;obtain⟨K,h1,cs,j,a⟩:=a;split at a
    . rename_i he;simp only[dP,ef]at a;obtain⟨rfl,rfl,rfl⟩:=a;refine⟨⟨_,⟨K,h1,cs,j,by rw[he]⟩,λb=>?_⟩,λb f=>?_⟩
      . simp only[cR,cB,ix];grind
      simp_all[cB,j',cR,al,dx]
    . cases a
   case load g k x=>
    have:=xl rfl a;subst this;refine⟨⟨J',?_,λb=>rfl⟩,λb _=>rfl⟩;simp only[aM,bf]at a⊢;obtain⟨⟨n,v0⟩,h1,a⟩:=a;refine⟨(n,v0),h1,?_⟩;dsimp only at a⊢;split at a
    . rename_i b o;rw[ht b (by simp[eh,Ic h1])];split at a
      all_goals simp_all
    . rename_i b sz i o;rw[ht b (by simp[eh,RA h1])];split at a
      . simp_all
      . split at a
        . grind
        . rename_i ak;split at a
          all_goals simp_all
      grind
    all_goals simp_all
   case store k x y=>
    simp only[aM,bf,ey]at a⊢;obtain⟨⟨n,v0⟩,h1,d,j,cs,B,G,a⟩:=a;have F:∀(b:Nat) (P:bP),ee env x=[b]->J1=c7 J b P->(∀c,aR (c7 J' b P) c=if cB xb (.store k x y) env key c then aR J1 c else aR J' c)/\∀c,cB xb (.store k x y) env key c=false->aR J1 c=aR J c:=by
     intro b P f hs;subst hs;refine⟨λc=>?_,λc l=>?_⟩
     . simp only[cB,f,kJ,jI,hQ,ix,cR];grind
     . simp only[cB,f,kJ,jI,hQ,j']at l;rw[cR,al (dx l)]
    dsimp only at a⊢;split at a
    . rename_i b o;have f:=Ic h1;split at a
      . rename_i Z M;simp only[ey,dP,ef]at a;obtain⟨bp,rfl,rfl,C⟩:=a;obtain⟨f1,f2⟩:=F b _ f C.symm;refine⟨⟨_,⟨(n,.c (.ptr b o)),h1,d,j,cs,B,G,?_⟩,f1⟩,f2⟩;dsimp only;rw[ht b (by simp[eh,f]),M];dsimp only;rw[af bp]
      . rename_i E U M;split at a
        . rename_i c;simp only[dP,ef]at a;obtain⟨rfl,rfl,C⟩:=a;obtain⟨f1,f2⟩:=F b _ f C.symm;refine⟨⟨_,⟨(n,.c (.ptr b 1)),h1,d,j,_,B,G,?_⟩,f1⟩,f2⟩;dsimp only;rw[ht b (by simp[eh,f]),M];rfl
        . cases a
      . cases a
    . rename_i b sz i o;have f:=RA h1;split at a
      . rename_i L es w;split at a
        . rename_i c l;simp only[dP,ef]at a;obtain⟨rfl,rfl,C⟩:=a;obtain⟨f1,f2⟩:=F b _ f C.symm;refine⟨⟨_,⟨(n,.c (.cG b sz i o)),h1,d,j,cs,B,G,?_⟩,f1⟩,f2⟩;dsimp only;rw[ht b (by simp[eh,f]),w];dsimp only;rw[l]
        rename_i l;simp only[bf,dP,ef]at a;obtain⟨ts,bp,rfl,rfl,C⟩:=a;obtain⟨f1,f2⟩:=F b _ f C.symm;refine⟨⟨_,⟨(n,.c (.cG b sz i o)),h1,d,j,cs,B,G,?_⟩,f1⟩,f2⟩;dsimp only;rw[ht b (by simp[eh,f]),w];dsimp only;rw[l];dsimp only;rw[bp];rfl
      . rename_i L es ab ad U w;split at a
        . rename_i c;split at a
          . rename_i N;simp only[dP,ef]at a;obtain⟨rfl,rfl,C⟩:=a;obtain⟨f1,f2⟩:=F b _ f C.symm;refine⟨⟨_,⟨(n,.c (.cG b sz i o)),h1,d,j,_,B,G,?_⟩,f1⟩,f2⟩;dsimp only;rw[ht b (by simp[eh,f]),w];dsimp only;rw[af N]
          . rename_i N;simp only[bf,dP,ef]at a;obtain⟨t,bp,rfl,rfl,C⟩:=a;obtain⟨f1,f2⟩:=F b _ f C.symm;refine⟨⟨_,⟨(n,.c (.cG b sz i o)),h1,d,j,_,B,G,?_⟩,f1⟩,f2⟩;dsimp only;rw[ht b (by simp[eh,f]),w];dsimp only;rw[al N,bp];rfl
        . cases a
      . cases a
    . cases a
   case append te sz by' x y=>
    simp only[aM,bf]at a⊢;obtain⟨⟨n,v0⟩,h1,⟨d1,d2⟩,j,a⟩:=a;dsimp only at a;cases D:l3 v0 d2 with
    |some r=>
     rw[D]at a;have H:=D;unfold l3 at H;split at H
     . rename_i b s1 off len T Y S R;split at H
       . cases H;have A:=BN h1;dsimp only at a;unfold tz at a;dsimp only at a;split at a
         . rename_i ae es w;simp only[dP,ef]at a;obtain⟨rfl,rfl,rfl⟩:=a;refine⟨⟨c7 (gV J' b) key (.arr sz (es.take len++(es.drop S).take R)),⟨(n,.c (.arr b s1 off len)),h1,(d1,.c (.fL T Y S R)),j,?_⟩,λc=>?_⟩,λc l=>?_⟩
           . dsimp only;rw[D];dsimp only;unfold tz;dsimp only;rw[ht b (by simp[eh,A]),w]
           . simp only[cR,fk,cB,A,kJ,jI,hQ,lV,ix];by_cases h:c=key
             . subst h;simp
             . rw[al (dx h)];by_cases u:c=b
               . subst u;simp[h,dx h]
               . rw[al (dx u),al (by simp[h,u])]
           . simp only[cB,A,kJ,jI,hQ,vq,j']at l;rw[cR,fk,al (dx l.1),al (dx l.2)]
         . cases a
       . cases H
     . cases H
    |none=>
    rw[D]at a;simp only[bf]at a;obtain⟨ys,B,a⟩:=a;have O:lp J' d2=some ys:=by
     unfold lp at B⊢;split at B
     . exact B
     . exact B
     . rename_i b L off len;rw[ht b (by simp[eh,BN j])];exact B
     . cases B
    split at a
    . have A:ee env x=[]:=(by simp[ee,h1]);simp only[dP,ef]at a;obtain⟨rfl,rfl,rfl⟩:=a;refine⟨⟨_,⟨(n,.c .aL),h1,(d1,d2),j,by dsimp only;rw[D];simp only[bf];exact⟨ys,O,rfl⟩⟩,λb=>?_⟩,λb f=>?_⟩
      . simp only[cR,cB,A,jI,hQ,ix];by_cases h:b=key
        . subst h;simp
        . rw[al (dx h),al h]
      . simp only[cB,A,jI,hQ,j']at f;rw[cR,al (dx f)]
    . rename_i b L off len;have A:=BN h1;split at a
      . rename_i ag es w;split at a
        . cases a
        . rename_i W;simp only[dP,ef]at a;obtain⟨rfl,rfl,rfl⟩:=a
          refine⟨⟨_,⟨(n,.c (.arr b L off len)),h1,(d1,d2),j,by
           dsimp only;rw[D];simp only[bf];refine⟨ys,O,?_⟩;rw[ht b (by simp[eh,A]),w];dsimp only
           rw[al W]⟩,λc=>?_⟩,λc l=>?_⟩
          . simp only[cR,fk,cB,A,kJ,jI,hQ,lV,ix];by_cases h:c=key
            . subst h;simp
            . rw[al (dx h)];by_cases u:c=b
              . subst u;simp[h,dx h]
              . rw[al (dx u),al (by simp[h,u])]
          . simp only[cB,A,kJ,jI,hQ,vq,j']at l;rw[cR,fk,al (dx l.1),al (dx l.2)]
      . cases a
    . rename_i b len;have A:=Rz h1;split at a
      . rename_i Q es w;obtain⟨s,hs,a⟩:=Ao.1 a;cases a
        refine⟨⟨_,⟨(n,.c (.cb b len)),h1,(d1,d2),j,by
         dsimp only;rw[D];simp only[bf];refine⟨ys,O,?_⟩;rw[ht b (by simp[eh,A]),w];dsimp only;rw[hs]
         rfl⟩,λc=>?_⟩,λc l=>?_⟩
        . simp only[cR,fk,cB,A,kJ,jI,hQ,lV,ix];by_cases h:c=key
          . subst h;simp
          . rw[al (dx h)];by_cases u:c=b
            . subst u;simp[h,dx h]
            . rw[al (dx u),al (by simp[h,u])]
        . simp only[cB,A,kJ,jI,hQ,vq,j']at l;rw[cR,fk,al (dx l.1),al (dx l.2)]
      . cases a
    . cases a
   case allocS e e8=>
    simp only[aM,dP,ef]at a⊢;obtain⟨rfl,rfl,rfl⟩:=a;refine⟨⟨_,⟨rfl,rfl,rfl⟩,λb=>?_⟩,λb f=>?_⟩
    . simp only[cR,cB,lV,ix];by_cases h:key=b
      . rw[af h,af (.inl h.symm),af h]
      . rw[al h];by_cases u:key+1=b
        . rw[af u,af (.inr u.symm),al h,af u]
        . rw[al u,bR]
    . simp only[cB,vq,j']at f;rw[cR,al (dx f.1),cR,al (dx f.2)]
   case mkset=>
    simp only[aM,dP,ef]at a⊢;obtain⟨rfl,rfl,rfl⟩:=a;refine⟨⟨_,⟨rfl,rfl,rfl⟩,λb=>?_⟩,λb f=>?_⟩
    . simp only[cR,cB,ix];by_cases h:b=key
      . subst h;simp
      . rw[al (dx h),al h]
    . simp only[cB,j']at f;rw[cR,al (dx f)]
   case lkset x y=>
    have:=xl rfl a;subst this;refine⟨⟨J',?_,λb=>rfl⟩,λb _=>rfl⟩;simp only[aM,bf]at a⊢;obtain⟨⟨n,v0⟩,h1,⟨d1,d2⟩,j,a⟩:=a;refine⟨(n,v0),h1,(d1,d2),j,?_⟩;dsimp only at a⊢;split at a
    . rename_i b s;rw[ht b (by simp[eh,Ir h1])];split at a
      . simp only[dP,ef]at a⊢;exact⟨a.1,a.2.1,trivial⟩
      . cases a
    . cases a
   case upset x y=>
    simp only[aM,bf]at a⊢;obtain⟨⟨n,v0⟩,h1,⟨d1,d2⟩,j,a⟩:=a;dsimp only at a⊢;split at a
    . rename_i b s;have f:=Ir h1;split at a
      . rename_i ks V;simp only[dP,ef]at a;obtain⟨rfl,rfl,rfl⟩:=a
        refine⟨⟨_,⟨(n,.c (.mp b)),h1,(d1,.c (.t (.str s))),j,by
         dsimp only
         rw[ht b (by simp[eh,f]),V]⟩,λc=>?_⟩,λc l=>?_⟩
        . simp only[cB,f,kJ,jI,hQ,ix,cR];by_cases h:c=b
          . subst h;simp
          . rw[al (dx h),al h]
        . simp only[cB,f,kJ,jI,hQ,j']at l;rw[cR,al (dx l)]
      . cases a
    . cases a
   case appendB e by' x y=>
    simp only[aM,bf]at a⊢;obtain⟨⟨n,v0⟩,h1,⟨d1,d2⟩,j,a⟩:=a;dsimp only at a⊢;split at a
    . rename_i b len s;have f:=Rz h1;split at a
      . rename_i Q es w;simp only[dP,ef]at a;obtain⟨rfl,rfl,rfl⟩:=a
        refine⟨⟨_,⟨(n,.c (.cb b len)),h1,(d1,.c (.t (.str s))),j,by
         dsimp only
         rw[ht b (by simp[eh,f]),w]⟩,λc=>?_⟩,λc l=>?_⟩
        . simp only[cR,fk,cB,f,kJ,jI,hQ,lV,ix];by_cases h:c=key
          . subst h;simp
          . rw[al (dx h)];by_cases u:c=b
            . subst u;simp[h,dx h]
            . rw[al (dx u),al (by simp[h,u])]
        . simp only[cB,f,kJ,jI,hQ,vq,j']at l;rw[cR,fk,al (dx l.1),al (dx l.2)]
      . cases a
    . cases a
   case ustr e x y=>
    simp only[aM,bf]at a⊢;obtain⟨⟨n,v0⟩,h1,⟨d1,d2⟩,j,a⟩:=a;dsimp only at a⊢;split at a
    . rename_i b m;have f:=Xc h1;split at a
      . rename_i Q es w;simp only[dP,ef]at a;obtain⟨rfl,rfl,rfl⟩:=a
        refine⟨⟨_,⟨(n,.c (.eu b)),h1,(d1,.c (.t (.int .i64 m))),j,by
         dsimp only
         rw[ht b (by simp[eh,f]),w]⟩,λc=>?_⟩,λc l=>?_⟩
        . simp only[fk,cB,f,kJ,jI,hQ,ix];by_cases h:c=b
          . subst h;simp
          . rw[al (dx h),al h]
        . simp only[cB,f,kJ,jI,hQ,j']at l;rw[fk,al (dx l)]
      . cases a
    . cases a
   all_goals simp[aM]at a
inductive DStep (xb:aW)(P:Program)(o:bZ)(key:Nat)(env:Env)(J:aZ)(g:Bool)(v:V):aZ->Prop
 |op {p:Prop} {J2:aZ} (ak:fX env o.guard = some g) (ae8:o.op.drawn = true) (wJ:aM o.op env J key = some (p,v,J2)) (aj:g = true->p) (afb:o.op.neutral = true\/g = true):
  DStep xb P o key env J g v (if o.op.neutral then J else J2)
 |skip (ak:fX env o.guard=some g) (ae9:g=false):DStep xb P o key env J g v J
 |call {p:Prop} {f:Nat} {args:List aO} {vs:List V} (Dx:o.op = .call f args) (ak:fX env o.guard = some g) (wJ:hv env args = some (p,vs)) (aj:g = true->p/\V.ay.V.dw (lt 0) vs = true/\v.ay (lt 0) = true/\eb P f vs [] 0 (λs0 _ _=>s0 = v)):
  DStep xb P o key env J g v J
 |hW {p q:Prop} {f:Nat} {x:aO} {args:List aO} {vs:List V} (Dx:o.op = .hW x args) (aP:o.guard = none) (adA:g = true) (afh:x.get env = some (q, .c (.fn f []))) (afd:q) (wK:hb P f = true) (wJ:hv env args = some (p,vs))
  (aj:p/\V.ay.V.dw (lt 0) vs=true/\v.ay (lt 0)=true/\eb P f vs [] 0 (λs0 _ _=>s0=v)):DStep xb P o key env J g v J
 |own {p:Prop} {f:Nat} {args:List aO} {vs:List V} {r:V} {s:aZ} {M:Nat} (Dx:o.op = .call f args) (ak:fX env o.guard = some g) (aP:o.guard = none) (wJ:hv env args = some (p,vs)) (aj:p) (wK:V.ay.V.dw (lt 0) vs = true) (adz:M<=16) (hk:s.all (λx=>x.1<16) = true)
  (N5:eb P f vs [] 0 (λs0 s' C4=>s0=r/\s'=s/\C4=M)) (N6:v=r.sh key):DStep xb P o key env J g v (ma J key s)
 |raw {p:Prop} {f:Nat} {args:List aO} {vs:List V} {bs:aW} {r:V} {s:aZ} {M:Nat} (Dx:o.op = .call f args) (ak:fX env o.guard = some g) (adA:g = true) (wJ:hv env args = some (p,vs)) (aj:p)
  (bY:bs.Nodup) (aE:∀b,b∈bs->b<key) (ae':∀b,b∈bs->∃x,aR J b=some x) (aff:∀b,b∈bs->b∈kT env args++xb) (adz:M<=bs.length+16) (hk:s.all (λx=>decide (x.1<bs.length+16))=true)
  (N5:eb P f (vs.map (V.bO bs)) (fH bs J 0 bs) bs.length (λs0 s' C4=>s0=r/\s'=s/\C4=M)) (N6:v=r.b' (back bs key)):DStep xb P o key env J g v (hf J bs (back bs key) s)
theorem DStep.ha{o:bZ}(h:DStep xb P o key env J g v J1)(bJ:K (en env o.dst g v) J1):ha P o key env J K:=by
 cases h with
 | @op p J2 ak F c aj H=>
  grind[Shv.ha,aM]
 |skip ak G=>
  grind[Shv.ha]
 | @call p f args vs a ak c aj=>
  unfold Shv.ha;grind[hB.Oq]
 | @hW p q f x args vs a aP w O L t c aj=>
  grind[Shv.ha,fX,hB.Oq]
 | @raw p f args vs bs r s M a ak w c aj bY aE y N j A e B=>
  unfold Shv.ha;rw[a];dsimp;have E:hB P f vs J key (λD J'=>K (en env o.dst true D) J'):=by
   refine hB.ad5 bY aE y e ?_;grind
  grind
 | @own p f args vs r s M a ak aP c aj t j A e B=>
  unfold Shv.ha;rw[ak];rw[a];grind[fX,hB.ad4]
theorem Is{o:bZ}{t:Nat}(h:t∈o.op.reads):t∈o.rd:=by grind[bZ.rd]
theorem xr{o:bZ}(h:∀t,t∈o.rd->look env' t=look env t):fX env' o.guard=fX env o.guard:=by
 grind[fX,bZ.rd]
theorem Ex{s:aZ}(d:s.all (λx=>x.1<16)=true){b:Nat}(a:¬(key<=b/\b<key+16))(J:aZ):aR (ma J key s) b=aR J b:=by
 rw[yp];by_cases h:key<=b
 . have:aR s (b-key)=none:=by
    cases hs:aR s _ with
    |none=>rfl
    |some x=>
     have:∀{s:aZ} {c:Nat} {x:bP},aR s c=some x->s.all (λx=>x.1<16)=true->c<16:=by
      induction s with
      |nil=>grind[aR]
      |cons y r ih=>
       grind[aR]
     grind
   grind
 grind
theorem k6(h:∀t,t∈x.tmps->look env' t=look env t):ee env' x=ee env x:=by
 unfold ee;rw[dq h]
theorem Fa{args:List aO}(h:∀t,t∈args.flatMap aO.tmps->look env' t=look env t):kT env' args=kT env args:=by
 induction args with
 |nil=>rfl
 |cons x r ih=>
  grind[kT,dq]
theorem Xt(h:∀t,t∈o.reads->look env' t=look env t)(b:Nat):cB xb o env' key b=cB xb o env key b:=by
 cases o<;>try rfl
 case store k x v=>grind[cB,k6,cH.reads]
 case append te sz by' x y=>grind[cB,k6,cH.reads]
 case upset x y=>grind[cB,k6,cH.reads]
 case appendB e k x y=>grind[cB,k6,cH.reads]
 case ustr e x y=>grind[cB,k6,cH.reads]
 case call f args=>simp[cB];rw[Fa h]
theorem Xu(h:∀t,t∈o.reads->look env' t=look env t):eh xb o env' key=eh xb o env key:=by
 cases o<;>try rfl
 case b2s x=>grind[eh,k6,cH.reads]
 case load g k x=>grind[eh,k6,cH.reads]
 case store k x v=>grind[eh,k6,cH.reads]
 case lkset x y=>grind[eh,k6,cH.reads]
 case upset x y=>grind[eh,k6,cH.reads]
 case appendB e k x y=>grind[eh,k6,cH.reads]
 case ustr e x y=>grind[eh,k6,cH.reads]
 case call f args=>simp[eh];rw[Fa h]
 grind[eh,k6,cH.reads]
theorem DStep.local{o:bZ}(h:DStep xb P o key env J g v J1)(he:∀t,t∈o.rd->look env' t=look env t)(ht:∀b,b∈eh xb o.op env key\/cB xb o.op env key b=true->aR J' b=aR J b):
 (∃bj,DStep xb P o key env' J' g v bj/\∀b,aR bj b=if cB xb o.op env key b then aR J1 b else aR J' b)/\∀b,cB xb o.op env key b=false->aR J1 b=aR J b:=by
 have A:=λt h=>he t (Is h);cases h with
 | @op p J2 ak O w aj S=>
  obtain⟨⟨bj,h1,K⟩,L⟩:=Xd (J':=J') w (λb c=>ht b (.inl c));have aP:o.op.neutral=true->∀b,cB xb o.op env key b=false:=by intro aP b;generalize o.op=X at aP;cases X<;>simp[cH.neutral]at aP<;>rfl
  refine⟨⟨_,DStep.op (J2:=bj) (p:=p) (by rw[xr he];exact ak) O (by rw[YB A];exact h1) aj S,λb=>?_⟩,λb c=>?_⟩
  . by_cases y:o.op.neutral=true
    . rw[af y,aP y b];rfl
    . rw[al y,al y];exact K b
  . by_cases y:o.op.neutral=true
    . rw[af y]
    . rw[al y];exact L b c
 |skip ak R=>
  refine⟨⟨J',DStep.skip (by rw[xr he];exact ak) R,λb=>?_⟩,λb _=>rfl⟩;split
  . rename_i j;exact ht b (.inr j)
  . rfl
 | @call p f args vs a ak w aj=>
  refine⟨⟨J',DStep.call a (by rw[xr he];exact ak) (by rw[yq λt h=>A t (by rw[a];exact h)];exact w) aj,λb=>?_⟩,λb _=>rfl⟩;split
  . rename_i j;exact ht b (.inr j)
  . rfl
 | @hW p q f x args vs a aP F W U c w aj=>
  refine⟨⟨J',DStep.hW a aP F (by rw[dq λt h=>A t (by rw[a];simp[cH.reads,h])];exact W) U c (by rw[yq λt h=>A t (by rw[a];simp only[cH.reads,hP];exact .inr h)];exact w) aj,λb=>?_⟩,λb _=>rfl⟩;split
  . rename_i j;exact ht b (.inr j)
  . rfl
 | @own p f args vs r s M a ak aP w aj c E B H G=>
  refine⟨⟨_,DStep.own a (by rw[xr he];exact ak) aP (by rw[yq λt h=>A t (by rw[a];exact h)];grind) aj c E B H G,λb=>?_⟩,λb N=>?_⟩
  . by_cases D:key<=b/\b<key+16
    . have j:cB xb o.op env key b=true:=by rw[a];simp[cB,D.1,D.2]
      rw[af j];have e:=ht b (.inr j);rw[yp,yp,e]
    . rw[Ex B D];split
      . rename_i j;rw[Ex B D];exact ht b (.inr j)
      . rfl
  grind[cB,Ex]
 | @raw p f args vs bs r s M a ak F w aj bY aE Y Z E B H G=>
  have ad:∀b,b∈kT env args++xb->b∈eh xb o.op env key:=by intro b c;rw[a];simp only[eh,hP];exact .inr (hP.1 c)
  have Q:∀t,t∈args.flatMap aO.tmps->look env' t=look env t:=λt h=>A t (by rw[a];exact h)
  refine⟨⟨_,DStep.raw (bs:=bs) a (by rw[xr he];exact ak) F (by rw[yq Q];omega) aj bY aE (λb c=>by grind) (λb c=>by grind[Fa]) E B
   (by grind[QI]) G,λb=>?_⟩,λb N=>?_⟩
  . by_cases j:cB xb o.op env key b=true
    . grind[QJ,qA]
    . grind[cB,Bool.or_eq_false_iff,Bool.and_eq_false_iff,decide_eq_false_iff_not,EE]
  grind[cB,Bool.or_eq_false_iff,Bool.and_eq_false_iff,decide_eq_false_iff_not,EE]
def wi(xb:aW)(P:Program):List bZ->Nat->Env->aZ->(Env->aZ->Prop)->Prop
 |[],_,env,J,K=>K env J
 |o::r,key,env,J,K=>∃g v J1,DStep xb P o key env J g v J1/\wi xb P r (key+16) (en env o.dst g v) J1 K
structure nX (xb:aW)(P:Program)(aY:List bZ)(N:Nat)(E:Nat->Env)(T:Nat->aZ)(G:Nat->Bool)(W:Nat->V):Prop where
 step:∀(i:Nat) o,aY[i]?=some o->DStep xb P o (N+16*i) (E i) (T i) (G i) (W i) (T (i+1))/\E (i+1)=en (E i) o.dst (G i) (W i)
theorem F8:∀{aY:List bZ} {key:Nat} {env:Env} {J:aZ} {K:Env->aZ->Prop},wi xb P aY key env J K->∃E T G W,nX xb P aY key E T G W/\E 0=env/\T 0=J/\K (E aY.length) (T aY.length)
 |[],key,env,J,K,h=>⟨λ_=>env,λ_=>J,λ_=>true,λ_=>.a6 [],⟨λi o h=>by grind⟩,rfl,rfl,h⟩
 |o::r,key,env,J,K,h=>by
  obtain⟨g,v,J1,h1,a⟩:=h;obtain⟨E,T,G,W,b,aK,d,bJ⟩:=F8 a;refine⟨λi=>if i=0 then env else E (i-1),λi=>if i=0 then J else T (i-1),λi=>if i=0 then g else G (i-1),λi=>if i=0 then v else W (i-1),⟨λi c e=>?_⟩,rfl,rfl,by grind⟩;cases i with
  |zero=>grind
  |succ i=>
   have:=b.step i c (by grind);grind
end
end
section
open Go
variable {xb:aW}
variable{p:Nat->Bool}{L:List (bZ×aW)}{j:Nat}{env:Env}{o:cH}{S:c0}{J:aZ}{a:Act}{φ:cZ}{w:World}{D:Nat->aW}{listed:Array Bool}{Q:Exit->Act->World->Prop}
theorem GL:∀{m:Nat},(∃i,i<m/\p i=true)->∃i,i<m/\p i=true/\∀j,j<m->p j=true->j<=i
 |0,⟨i,h,_⟩=>by omega
 |m+1,⟨i,h1,a⟩=>by
  cases d:p m with
  |true=>grind
  |false=>
   have:i<m:=(by grind);obtain⟨k,b,c,bp⟩:=GL ⟨i,this,a⟩;grind
theorem xA{P:Program}{nt:Nat}{ops:Array Oper}:∀{l:List Oper} {aY:List bZ},gK P nt ops l=some aY->aY.length=l.length
 |[],aY,h=>by grind[gK]
 |o::l,aY,h=>by
  simp[gK,bf,bu]at h;obtain⟨b,c,r,a,rfl⟩:=h;simp[xA a]
theorem EF{P:Program}{nt:Nat}{ops:Array Oper}:∀{l:List Oper} {aY:List bZ} {i:Nat} {o:Oper},gK P nt ops l=some aY->l[i]?=some o->∃a,aY[i]?=some a/\um P nt ops o=some a
 |[],aY,i,o,h,b=>by grind
 |x::l,aY,i,o,h,b=>by
  simp[gK,bf,bu]at h;obtain⟨a,d,r,c,rfl⟩:=h;cases i with
  |zero=>grind
  |succ i=>simpa using EF c (by grind)
theorem FL:∀{l:List (bZ×aW)} {k i:Nat} {x:bZ×aW},Cx k l=true->l[i]?=some x->∀d,d∈x.2->d<k+i
 |[],k,i,x,h,b,d,a=>by grind
 |y::r,k,i,x,h,b,d,a=>by
  simp[Cx]at h;cases i with
  |zero=>grind
  |succ i=>
   have:=FL h.2 (by simpa using b) d a;omega
theorem Xv{i:Nat}(h:ahead L j i=true):j<i/\∃x,L[i]?=some x/\j∈x.2:=by
 grind[ahead]
theorem RB{key b:Nat}(ht:o.hR=true)(a:cB xb o env key b=true):b∈eh xb o env key:=by
 cases o
 case call f args=>
  simp[cB]at a;simp[eh];rcases a with h|h
  . exact .inl ⟨b-key,by omega,by omega⟩
  grind
 all_goals simp[cH.hR]at ht<;>simp[cB,eh]at a⊢<;>first|exact a|(rcases a with h|h;exact .inl h;exact .inr (.inl h))
theorem Wh{key:Nat}(ht:o.hR=false):eh xb o env key=[]:=by
 cases o<;>simp[cH.hR]at ht<;>rfl
theorem Ie{key b:Nat}(a:cB xb o env key b=true):o.neutral=false:=by
 cases o<;>simp[cB]at a<;>rfl
theorem JF{key b:Nat}(ht:o.hR=false)(a:cB xb o env key b=true):key<=b/\b<key+16:=by
 cases o<;>simp[cH.hR]at ht<;>simp[cB]at a
section
variable {P:Program}{av:Ctx}{nt kk:Nat}{N:Nat}{ops:Array Oper}{aY:List bZ}{E:Nat->Env}{T:Nat->aZ}{G:Nat->Bool}{W:Nat->V}
theorem Rel.adm{env':Env}{n:Nat->Bool}(R:Rel av nt φ S env J n a w)(h:∀t,look env' t=look env t):Rel av nt φ S env' J n a w:=
 ⟨R.bD,λk g v ad=>R.fZ k g v (h k▸ad),λk g v ad=>R.gN k g v (h k▸ad),λk g v ad=>R.fY k g v (h k▸ad),R.dG,R.size,R.defers,R.ext,R.own,R.fix,R.gy⟩
def iA(xb:aW)(aY:List bZ)(E:Nat->Env)(N i b:Nat):Bool:=match aY[i]? with|some o=>cB xb o.op (E i) (N+16*i) b|none=>false
theorem tY(c:nX xb P aY N E T G W){t:Nat}{i:Nat}:∀{k:Nat},i<=k->k<=aY.length->(∀(j:Nat) (o:bZ),i<=j->j<k->aY[j]?=some o->o.dst≠some t)->look (E k) t=look (E i) t:=by
 intro k;induction k with
 |zero=>grind
 |succ k ih=>
  intro h1 d e;by_cases f:i=k+1
  . grind
  . have a:k<aY.length:=(by omega);have b:=eF a;rw[(c.step k _ b).2,mm];grind
theorem CA(f:nX xb P aY N E T G W){b:Nat}{i:Nat}:∀{k:Nat},i<=k->k<=aY.length->(∀j:Nat,i<=j->j<k->iA xb aY E N j b=false)->aR (T k) b=aR (T i) b:=by
 intro k;induction k with
 |zero=>grind
 |succ k ih=>
  intro h1 g d;by_cases l:i=k+1
  . grind
  . have e:k<aY.length:=(by omega);have c:=eF e;have a:=d k (by omega) (by simp);unfold iA at a;rw[c]at a;have:=((f.step k _ c).1.local (λ_ _=>rfl) (λ_ _=>rfl)).2 b a;grind
inductive iV (D:Nat->aW)(j:Nat):Nat->Prop
 |one {i:Nat} (h:j∈D i):iV D j i
 |step {e i:Nat} (h:iV D j e) (he:e∈D i):iV D j i
theorem iV.ready{n:Nat}(a:∀i d,i<n->d∈D i->d<i)(f:∀e,e<n->p e=true->∀d,d∈D e->p d=true){i:Nat}(h:iV D j i)(g:i<n)(c:∀d,d∈D i->p d=true):p j=true:=by
 induction h<;>grind
theorem iV.congr{a:Nat->aW}{n:Nat}(c:∀i d,i<n->d∈D i->d<i)(f:∀i,i<n->D i=a i){i:Nat}(h:iV D j i)(e:i<n):iV a j i:=by
 induction h with
 |one h=>exact .one (by grind)
 |step h he ih=>
  have:=c _ _ e he;exact .step (ih (by omega)) (by grind)
theorem Ql:∀{l:List (bZ×aW)} {acc:List aW},(∀(k:Nat) x,l[k]?=some x->D (acc.length+k)=x.2)->(∀i j,j∈acc.getD i []->iV D j i)->∀i j,j∈(mY l acc).getD i []->iV D j i
 |[],acc,_,b,i,j,h=>b i j h
 |x::r,acc,c,b,i,j,h=>by
  refine Ql (acc:=acc++[(x.2++x.2.flatMap _).eraseDups]) (λk y m=>?_) (λi j a=>?_) i j h
  . have:=c (k+1) y (by grind);grind
  . rw[ye,List.getElem?_append]at a;split at a
    . grind
    . cases d:i-acc.length with
      |succ k=>grind
      |zero=>
       rw[d]at a;have f:i=acc.length:=(by omega);have g:=(by simpa using c 0 x rfl);simp[D3]at a;rcases a with a|⟨e,he,a⟩
       . exact .one (by grind)
       . exact .step (b e j a) (by grind)
structure Stat (xb:aW)(aY:List bZ)(D:Nat->aW)(E:Nat->Env)(N:Nat):Prop where
 back:∀i d,i<aY.length->d∈D i->d<i
 vF:∀(i j:Nat) (x y:bZ) (d:Nat),aY[i]?=some x->aY[j]?=some y->y.dst=some d->(d∈x.rd->(j<i/\j∈D i)\/(x.op.neutral=true/\x.op.hR=false/\i<j/\i∈D j))/\(i=j\/x.dst≠some d)
 ord:∀i j b,i≠j->i<aY.length->j<aY.length->iA xb aY E N i b=true->((∃y:bZ,aY[j]?=some y/\b∈eh xb y.op (E j) (N+16*j))\/iA xb aY E N j b=true)->(i<j/\iV D i j)\/(j<i/\iV D j i)
def used(N m:Nat)(listed:Array Bool):Nat->Bool:=λb=>lt N b||(List.range m).any λi=>listed.getD i false&&(decide (N+16*i<=b)&&decide (b<N+16*i+16))
structure Inv (xb:aW)(av:Ctx)(nt:Nat)(aY:List bZ)(D:Nat->aW)(N:Nat)(E:Nat->Env)(T:Nat->aZ)(G:Nat->Bool)(W:Nat->V)(listed:Array Bool)(φ:cZ)(S:c0)(env:Env)(J:aZ)(a:Act)(w:World):Prop where
 rel:Rel av nt φ S env J (used N aY.length listed) a w
 size:listed.size=aY.length
 down:∀i,i<aY.length->listed.getD i false=true->∀d,d∈D i->listed.getD d false=true
 dh:∀t,(∀(i:Nat) (o:bZ),aY[i]?=some o->listed.getD i false=true->o.dst≠some t)->look env t=look (E 0) t
 aK:∀t (i:Nat) (o:bZ),aY[i]?=some o->listed.getD i false=true->o.dst=some t->look env t=some (G i,W i)
 vD:∀b,(∀i,i<aY.length->listed.getD i false=true->iA xb aY E N i b=false)->aR J b=aR (T 0) b
 s1:∀b i,i<aY.length->listed.getD i false=true->iA xb aY E N i b=true->(∀j,j<aY.length->listed.getD j false=true->iA xb aY E N j b=true->j<=i)->aR J b=aR (T (i+1)) b
theorem jy{i:Nat}(a:i<listed.size):(listed.setIfInBounds i true).getD j false=if j=i then true else listed.getD j false:=by
 by_cases h:j=i
 . simp_all
 simp_all[dx]
theorem Inv.agree(cr:Inv xb av nt aY D N E T G W listed φ S env J a w)(st:Stat xb aY D E N)(v:nX xb P aY N E T G W)
 {i:Nat}{o:bZ}(U:aY[i]?=some o)(aP:listed.getD i false=false)(H:∀d,d∈D i->listed.getD d false=true):
 (∀t,t∈o.rd->look env t=look (E i) t)/\∀b,b∈eh xb o.op (E i) (N+16*i)\/cB xb o.op (E i) (N+16*i) b=true->aR J b=aR (T i) b:=by
 have K:i<aY.length:=(dV.1 U).1;refine⟨λt ht=>?_,λb aH=>?_⟩
 . by_cases X:∃(j:Nat) (y:bZ),aY[j]?=some y/\y.dst=some t
   . obtain⟨j,y,c,x⟩:=X;rcases (st.vF i j o y t U c x).1 ht with⟨h1,F⟩|⟨_,_,h1,F⟩
     . rw[cr.aK t j y c (H j F) x];have:look (E (j+1)) t=some (G j,W j):=by rw[(v.step j y c).2,mm,af x]
       rw[<-this]
       symm
       refine tY v (by omega) (by omega) λk z M O f B=>?_;rcases (st.vF k j z y t f c x).2 with h|h
       all_goals grind
     . have g:j<aY.length:=(dV.1 c).1;have aE:∀(k:Nat) (z:bZ),aY[k]?=some z->z.dst=some t->k=j:=by
        intro k z f B;rcases (st.vF k j z y t f c x).2 with h|h
        . grind
        grind
       rw[cr.dh t λk z f ad B=>by
        have:=aE k z f B;subst this;have:=cr.down k g ad i F
        grind]
       symm
       refine tY v (jJ _) (by omega) λk z _ a1 f B=>?_;grind
   . have A:=λj y c h=>X ⟨j,y,c,h⟩;rw[cr.dh t λj y c _=>A j y c]
     symm
     exact tY v (jJ _) (by omega) λj y _ _ c=>A j y c
 . have Y:∀j,j≠i->j<aY.length->iA xb aY E N j b=true->(j<i/\iV D j i)\/(i<j/\iV D i j):=by
    intro j g e q;refine st.ord j i b g e K q ?_;grind[iA]
   have ad:∀j,j<aY.length->listed.getD j false=true->iA xb aY E N j b=true->j<i:=by
    intro j e R q;have ax:j≠i:=(by grind);rcases Y j ax e q with h|h
    . grind
    . have:=h.2.ready st.back cr.down e (cr.down j e R);grind
   have ap:∀j,j<i->iA xb aY E N j b=true->listed.getD j false=true:=by
    intro j a0 q;rcases Y j (by omega) (by omega) q with h|h
    . exact h.2.ready (p:=λk=>listed.getD k false) st.back cr.down K H
    grind
   by_cases Z:∃j,j<i/\iA xb aY E N j b=true
   . obtain⟨j,am,L,an⟩:=GL Z;rw[cr.s1 b j (by omega) (ap j am L) L (λk M O Q=>an k (ad k M O Q) Q)];grind[CA]
   . have A:∀j,j<i->iA xb aY E N j b=false:=(by grind);rw[cr.vD b λj e R=>by grind]
     symm
     exact CA v (jJ _) (by omega) λj _ g=>A j g
theorem YC{m:Nat}{i b:Nat}(a:i<listed.size)(h:ew (used N m listed) (N+16*i) b=true)(c:i<m):used N m (listed.setIfInBounds i true) b=true:=by
 simp only[ew,used,lV]at h⊢;grind[jy]
theorem RC{m:Nat}{i:Nat}(aP:listed.getD i false=false){b:Nat}(h1:N+16*i<=b)(a:b<N+16*i+16):used N m listed b=false:=by
 simp only[used];grind[lt]
theorem Inv.step{bd:c0}{bj:aZ}{bX:Act}{w':World}(cr:Inv xb av nt aY D N E T G W listed φ S env J a w)(st:Stat xb aY D E N)(am:nX xb P aY N E T G W)
 {i:Nat}{o:bZ}(x:aY[i]?=some o)(aP:listed.getD i false=false)(Q:∀d,d∈D i->listed.getD d false=true)
 (B:∀b,aR bj b=if cB xb o.op (E i) (N+16*i) b then aR (T (i+1)) b else aR J b)
 (R:Rel av nt bc bd (en env o.dst (G i) (W i)) bj (ew (used N aY.length listed) (N+16*i)) bX w'):
 Inv xb av nt aY D N E T G W (listed.setIfInBounds i true) bc bd (en env o.dst (G i) (W i)) bj bX w':=by
 have p:i<aY.length:=(dV.1 x).1;have f:i<listed.size:=by rw[cr.size];exact p
 have L:∀b,iA xb aY E N i b=cB xb o.op (E i) (N+16*i) b:=λb=>by unfold iA;rw[x]
 refine⟨R.more λb v=>YC f v p,by simp[cr.size],λj c ad d F=>?_,λt ht=>?_,λt j y A ad M=>?_,λb v=>?_,λb j c ad K H=>?_⟩
 . rw[jy f]at ad⊢;split
   . rfl
   . split at ad
     . rename_i e;subst e;exact Q d F
     . exact cr.down j c ad d F
 . rw[mm,al (ht i o x (by rw[jy f,af rfl]))];exact cr.dh t λj y A ad=>ht j y A (by rw[jy f];split;rfl;exact ad)
 . rw[mm];rw[jy f]at ad;by_cases g:j=i
   . grind
   . rw[al g]at ad;rw[al (λh=>?_)]
     . exact cr.aK t j y A ad M
     . rcases (st.vF i j o y t x A M).2 with O|O
       all_goals grind
 . rw[B b];have q:=v i p (by rw[jy f,af rfl]);rw[L]at q;rw[q];exact cr.vD b λj c ad=>v j c (by grind[jy])
 . rw[B b];rw[jy f]at ad;by_cases q:cB xb o.op (E i) (N+16*i) b=true
   . have Y:i<=j:=H i p (by simp_all) (by grind);by_cases g:j=i
     . grind
     ·
      rw[al g]at ad;rcases st.ord i j b (dx g) p c (by rw[L];exact q) (.inr K)with h|h
      . have:=h.2.ready st.back cr.down c (cr.down j c ad);rw[aP]at this;cases this
      . omega
   . rw[al q];by_cases g:j=i
     . grind
     . rw[al g]at ad;exact cr.s1 b j c ad K λk U Z X=>H k U (by grind[jy]) X
theorem Inv.done(cr:Inv xb av nt aY D N E T G W listed φ S env J a w)(st:Stat xb aY D E N)(f:nX xb P aY N E T G W)
 (x:∀i,i<aY.length->listed.getD i false=true):Rel av nt φ S (E aY.length) (T aY.length) (lt (N+16*aY.length)) a w:=by
 refine((cr.rel.adm λt=>?_).congr λb=>?_).more λb A=>?_
 . by_cases q:∃(j:Nat) (y:bZ),aY[j]?=some y/\y.dst=some t
   . obtain⟨j,y,c,v⟩:=q;have o:=(dV.1 c).1;rw[cr.aK t j y c _ _];have:look (E (j+1)) t=some (G j,W j):=by rw[(f.step j y c).2,mm,af v]
     rw[<-this];refine tY f (by omega) (e9 _) λk z g L O Q=>?_;rcases (st.vF k j z y t O c v).2 with h|h
     all_goals grind
   . have e:=λj y c h=>q ⟨j,y,c,h⟩;rw[cr.dh t λj y c _=>e j y c];exact tY f (jJ _) (e9 _) λj y _ _ c=>e j y c
 . by_cases B:∃j,j<aY.length/\iA xb aY E N j b=true
   . obtain⟨j,p,F,H⟩:=GL B;rw[cr.s1 b j p (x j p) F (λk g _ M=>H k g M)];refine CA f (by omega) (e9 _) λk g L=>?_;grind
   . have e:∀j,j<aY.length->iA xb aY E N j b=false:=(by grind);rw[cr.vD b λj K _=>e j K];exact CA f (jJ _) (e9 _) λj _ o=>e j o
 . simp[used,lt]at A⊢;grind
theorem Ve(st:Stat xb aY D E N)(l:nX xb P aY N E T G W)(hres:gK P nt ops ops.toList=some aY)(p:∀(i:Nat) o,ops[i]?=some o->D i=hd o)
 (u:∀φ S a w,Rel av nt φ S (E aY.length) (T aY.length) (lt (N+16*aY.length)) a w->Q .normal a w):
 ∀(fuel:Nat) (listed:Array Bool) φ S env J a w,listed.toList.countP (· ==false)<=fuel->Inv xb av nt aY D N E T G W listed φ S env J a w->wpAny P .any ops Q fuel listed a w:=by
 have C:=xA hres;simp at C;have F:∀(listed:Array Bool) (φ:cZ) (S:c0) (env:Env) (J:aZ) (a:Act) (w:World),Inv xb av nt aY D N E T G W listed φ S env J a w->Region.ready .any ops listed=[]->∀i,i<aY.length->listed.getD i false=true:=by
  intro listed φ S env J a w cr j i;induction i using Nat.strongRecOn with
  |_ i ih=>
   intro f;cases ad:listed.getD i false with
   |true=>rfl
   |false=>
    have B:i<ops.size:=(by omega);have g:ops[i]?=some ops[i]:=AG B;have:i∈Region.ready .any ops listed:=by
     rw[mem_ready];refine⟨?_,ops[i],g,λe he M=>?_⟩
     . have k:i<listed.size:=by rw[cr.size];grind
       grind
     . have c:e.on∈D i:=by
        rw[p i _ g];simp only[hd,fT,sV];grind
       exact ih e.on (st.back i _ f c) (by have:=st.back i _ f c;omega)
    grind
 have q:∀(listed:Array Bool) (φ:cZ) (S:c0) (env:Env) (J:aZ) (a:Act) (w:World),Inv xb av nt aY D N E T G W listed φ S env J a w->Region.ready .any ops listed=[]->Q .normal a w:=by
  intro listed φ S env J a w cr j;exact u φ S a w (cr.done st l (F listed φ S env J a w cr j))
 intro fuel;induction fuel with
 |zero=>
  intro listed φ S env J a w A cr;have L:∀i,i<aY.length->listed.getD i false=true:=by
   intro i f;have k:i<listed.size:=by rw[cr.size];grind
   cases ad:listed.getD i false with
   |true=>rfl
   |false=>
    exfalso;have h0:listed.toList.countP (· ==false)=0:=(by omega);rw[List.countP_eq_zero]at h0;simp[k]at ad;exact h0 listed[i] (by simp) (by grind)
  have j:Region.ready .any ops listed=[]:=by
   rw[Ol];grind[mem_ready]
  exact⟨j,q listed φ S env J a w cr j⟩
 |succ fuel ih=>
  intro listed φ S env J a w A cr;refine⟨q listed φ S env J a w cr,λi f=>?_⟩;rw[mem_ready]at f;obtain⟨h1,o,g,O⟩:=f;have k:i<listed.size:=by grind
  have aP:listed.getD i false=false:=by grind
  obtain⟨m,n,H⟩:=EF hres (i:=i) (o:=o) (by simpa using g);have c:∀d,d∈D i->listed.getD d false=true:=by
   intro d c;rw[p i o g]at c;simp only[hd,fT,sV]at c;grind
  obtain⟨v,x⟩:=cr.agree st l n aP c;obtain⟨⟨bj,hs,t⟩,_⟩:=(l.step i m n).1.local (env':=env) (J':=J) v x;have r:=BA cr.rel (key:=N+16*i) (λb y z=>RC aP y z) H (K:=λe s=>e=en env m.dst (G i) (W i)/\s=bj) (hs.ha ⟨rfl,rfl⟩) (Q:=Q);have next:∀bX w',jr av nt (ew (used N aY.length listed) (N+16*i)) (λe s=>e=en env m.dst (G i) (W i)/\s=bj) bX w'->wpAny P .any ops Q fuel (listed.setIfInBounds i true) bX w':=by
   rintro bX w' ⟨bc,bd,e,s,⟨rfl,rfl⟩,R'⟩
   refine ih _ bc bd _ _ bX w' ?_ (cr.step st l n aP c t R');have:listed.toList[i]?=some false:=by simp[k]at aP⊢;exact aP
   grind
  unfold wpOp;rw[g];dsimp only;split at r
  . rename_i I;rw[af I];exact .inl (Oper.wp_mono next r)
  grind
end
end
end Go.Proofs.YtkbmjabicjpmjaaGreatDoor.Shv
