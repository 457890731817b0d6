/- The library of this proof, part B: an abstract machine for the code of the program, and its soundness. -/
import Derived.Lib.UnsafeStr
import Derived.Orders
import Derived.LoopN
import Derived.Test.YtdjagncoefjfeaaGreatCaLA

namespace Go.Proofs.YtdjagncoefjfeaaGreat.Shv
set_option linter.all false
section
open Go
theorem C.my(c:C):c.aD (λ_=>true)=true:=by cases c<;>simp[C.aD]
variable{o:Oper}{ty e t:TypeId}{α:Type}{c:Call}{op:Op}{f id b0 off:Nat}{dst:Option Nat}{x:Value}{gd:Option (Nat×Bool)}{ops:Array Oper}{K:Env->a'->Prop}{Q:Exit->Act->World->Prop}{code:Code}{bb:List cb}{gg:List (Nat×Nat)}{bs:a8}{es:List (List T)}
section
variable {P:Program}{aE:Ctx}{nt kk:Nat}{φ:dE}{S bR:dT}{env:Env}{J:a'}{N key:Nat}{n:Nat->Bool}{a:Act}{w w':World}
theorem Rel.extend(R:Rel aE nt φ S env J n a w)(e:Ext (λ_=>False) S bR w w')(L:∀b j,bR b j->b<w'.heap.size):Rel aE nt φ bR env J n a w':=by
 have aa:=λb K=>e.block b K (λh=>h);have A:∀b x,aX J b=some x->(φ b).2≠0->∀j,¬bR (φ b).1 j:=by
  intro b x q h0 j F;have dy:=R.bQ.blk b x q;rcases e.r8 _ _ F with h|h|h
  . exact dy.qb h0 j h
  . grind
  . have:=dy.kj h0;omega
 refine⟨⟨λb x q=>?_,R.bQ.inj,L⟩,λk g v af aq=>?_,R.hM,R.gJ,R.dU,R.size,R.defers,?_,R.own,R.fix,R.fS⟩
 . have dy:=R.bQ.blk b x q;cases x with
   |box cs=>
    obtain⟨h0,vs,E,h1,f,y⟩:=dy;refine⟨h0,vs,E,(aa _ (lZ h1)).trans h1,f.imp λc v M ag=>bn.mono e.mono (λ_ _=>rfl) (C.my _) ag,A b _ q h0⟩
   |arr sz es=>
    obtain⟨h1,f,y,B,bc⟩:=dy;refine⟨h1,f,y,B,λh0=>?_⟩;obtain⟨vs,E,k1,k2,k3,k4⟩:=bc h0;exact⟨vs,E,(aa _ (lZ k1)).trans k1,k2,λi j D t he ht=>let⟨v,G,ag⟩:=k3 i j D t he ht;⟨v,G,cd.mono e.mono ag⟩,A b _ q h0⟩
   |set ks=>
    obtain⟨h0,⟨es,c,h1,f⟩,y⟩:=dy;exact⟨h0,⟨es,c,(aa _ (lZ h1)).trans h1,f⟩,A b _ q h0⟩
   |buf E s=>
    obtain⟨h1,f,y⟩:=dy;refine⟨h1,f,λh0=>?_⟩;grind
   |b7 E c=>
    obtain⟨h0,⟨p,v,h1,f,y⟩,B⟩:=dy;exact⟨h0,⟨p,v,(aa _ (lZ h1)).trans h1,f,bn.mono e.mono (λ_ _=>rfl) (C.my _) y⟩,A b _ q h0⟩
   |cA sz es i o c=>
    obtain⟨⟨h1,f,y,B,bc,H⟩,⟨vs,E,k1,k2,k3,v,k4,k5⟩,k6⟩:=dy;exact⟨⟨h1,f,y,B,bc,H⟩,⟨vs,E,(aa _ (lZ k1)).trans k1,k2,λi j D t he ht aG=>let⟨v,G,ag⟩:=k3 i j D t he ht aG;⟨v,G,cd.mono e.mono ag⟩,v,k4,bn.mono (n:=λ_=>true) e.mono (λ_ _=>rfl) (C.my _) k5⟩,A b _ q (by omega)⟩
 . obtain⟨x,q,ag⟩:=R.gK k g v af aq;exact⟨x,q,cl.mono e.mono (λ_ _=>rfl) (R.gJ k g v af aq) ag⟩
 . refine⟨e.os.trans R.ext.os,e.tape.trans R.ext.tape,e.output.trans R.ext.output,gv R.ext.size e.size,λb aC dy=>?_,R.ext.mono.trans e.mono,λb j F=>?_⟩
   . exact(aa b (l9 aC R.ext.size)).trans (R.ext.block b aC dy)
   . rcases e.r8 _ _ F with h|h|h
     . exact R.ext.r8 b j h
     . grind
     . exact .inr (.inr (gv R.ext.size h))
theorem Yx(R:Rel aE nt φ S env J n a w){len:Nat}{parts:Array (Nat×Operand)}(Y:o.op= .buildSlice ty len parts)(aa:P.underlying ty=some (.slice e)){sz:Nat}(Z:eM P e=some sz)
 {z:List C}(K:kY P e=some z){ps:List (Nat×aQ)}(I:pL parts.toList=some ps)(h0:sz≠0)(L:z.length=sz)(X:len*sz<=2^24)
 {p v J'}(W:n key=false)(h:aR (.bsliceT e sz len z ps) env J key=some (p,v,J'))(H:p):Good P aE nt env J' (ins n key) a v ((execOp a.eval o).run P w):=by
 simp only[aR,br,bo,dv]at h;obtain⟨k,N,⟨q,f⟩,g,rfl,rfl,rfl⟩:=h;obtain⟨i,d,r,ah,m,U⟩:=wo (φ:=φ) (w:=w) (S:=S) (n:=n) K;have M:=tD N m;have ae:d.cells.size=sz:=by rw[<-rY,<-m.length,L]
 have y:0<sz:=by omega
 have af:k.length=sz:=by grind[y8]
 obtain ⟨us,h1,E,l,T,bc,_⟩:= HB R y I g H (es:= List.replicate len k) (vs:= ((Array.range (len*sz)).map (d.cells[· % d.cells.size]!)).toList) (by
  grind) (by simp) (by
  intro i j e t he ht;have:e=k:=by
   grind
  subst this;obtain⟨x,ad,ag⟩:=M.get ht
  grind[Jx])
 simp at l;have s:len<=eI:=by
  have:len<=len*sz:=FN len y;grind[eI]
 have u:=R.bQ.st;have O:gx w S (w.alloc (.cells us.toArray e)) (λb j=>S b j\/b=w.heap.size):=⟨λ_ _ h=>.inl h,λb j h=>q5 (CN (u b j h)) j⟩
 have A:Ext (λ_=>False) S _ w (w.alloc (.cells us.toArray e)):=
  ⟨rfl,rfl,rfl,by simp,λb g _=>CN g,O,λb j h=>by grind⟩
 have B:=R.extend A (λb j h=>by
  rcases h with h|h
  . have:=u b j h;simp;omega
  simp_all)
 refine⟨.slice (some ⟨w.heap.size,0,none⟩) len len,φ,_,_,.inl ?_,?_,rfl,B.more λ_ h=>kM h⟩
 . have Q:Instr.fill (λi=>some (i*sz,sz)) ((Array.range (len*sz)).map (d.cells[· % d.cells.size]!)) ((parts.map λ(i,x)=>(i,a.eval x)).toList)=some us.toArray:=by
    rw[Array.toList_map];omega
   simp_all[TE,execOp,Sem.run_bind,Result.andThen_ok]
 . refine .c ?_;have F:f.length=len:=l;rw[<-F]at s⊢;have G:∀j,(w.alloc (.cells us.toArray e)).cell? _=us[j]?:=λj=>js p4 j;refine cd.slice f _ _ sz w.heap.size 0 (λi j=>(us[i*sz+j]?).getD undef) (dV _) s E (λ_=>rfl) (λi j r V=>⟨.inr rfl,?_⟩) (λi j D t he ht=>?_)
   . rw[hR,G];have aC:i*sz+j<us.length:=by
      have:=eY sz (show i+1<=f.length from r);grind
     grind
   . obtain⟨v,ab,ag⟩:=bc i j D t he ht;grind[cd.mono]
theorem XN{e8:Nat}(h:y5 P ty=some e8):∃i z,P.info? ty=some i/\i.zero=some z/\z.cells=#[.pointer none,.slice none 0 0]:=by
 grind[y5,Nt,br,Jt]
theorem X'(R:Rel aE nt φ S env J n a w)(u:o.op= .alloc ty){e8:Nat}(g:y5 P ty=some e8)
 {p v J'}(s:n key=false)(m:n (key+1)=false)(h:aR (.allocS ty e8) env J key=some (p,v,J'))(A:p):Good P aE nt env J' (ins (ins n (key+1)) key) a v ((execOp a.eval o).run P w):=by
 obtain⟨rfl,rfl,rfl⟩:=h;obtain⟨i,z,r,B,D⟩:=XN g;have t:∀j,¬S w.heap.size j:=λj h=>by have:=R.bQ.st _ _ h;omega
 have d:=(R.alloc (.cells #[.pointer none,.slice none 0 0] ty)).jU m (x:= .buf e8 []) (0,0) rfl (by simp[c1,dG]) (by simp);have l:ins n (key+1) key=false:=by grind[ins]
 have e:=d.jU l (x:= .b7 ty (.cM (key+1) 0)) (w.heap.size,1) (by simp[bP.aD,C.aD,ins]) (by
  grind[c1,p4,bn,fW]) (λ_=>⟨λk y b h0=>by
   rw[c2]at b;split at b
   . grind[dG]
   . rename_i q;have f:(φ k).2≠0:=(by simp_all[fW,dX]);have:=(R.bQ.blk k y b).kj f;simp[fW,dX q]
     omega,.inr R.ext.size⟩)
 refine⟨.pointer (some ⟨w.heap.size,0,none⟩),_,S,_,.inl ?_,.c ?_,by simp[V.aD,C.aD,ins],e⟩
 . simp_all[execOp,Instr.alloc,zeroValue,typeInfo,newVar,newRow]
 grind[bn,dG]
theorem JU(h:tK P t=true):∃k v i,P.underlying t=some (.map k v)/\P.underlying k=some .string/\P.info? v=some i/\i.zero=some (.bool false):=by
 grind[tK,br]
theorem Zq(R:Rel aE nt φ S env J n a w)(f:o.op= .makeMap t none)
 {p v J'}(d:n key=false)(h:aR .mkset env J key=some (p,v,J'))(i:p):Good P aE nt env J' (ins n key) a v ((execOp a.eval o).run P w):=by
 obtain⟨rfl,rfl,rfl⟩:=h;have e:∀j,¬S w.heap.size j:=λj h=>by have:=R.bQ.st _ _ h;omega
 have b:=(R.alloc _).jU d (x:= .set []) (w.heap.size,1) rfl (by
  simp only[c1,dG]
  exact⟨by simp,⟨[],0,p4,.nil⟩,e⟩) (λ_=>⟨λk y g h0=>by
   have:=(R.bQ.blk k y g).kj h0
   omega,.inr R.ext.size⟩)
 refine⟨.map (some w.heap.size),_,S,_,.inl ?_,.c ?_,by simp[V.aD,C.aD,ins],b⟩
 . simp[execOp,f,Instr.makeMap]
 grind[bn,dG]
theorem Ya{s:ByteArray}{k:ak}:(s==(⟨k.toArray⟩:ByteArray))=decide (k=s.data.toList):=by
 grind[beq_toListBytes,ByteArray.toList_eq]
theorem Hc(s:ByteArray):∀{ks:List ak} {es:List MapEntry} (i:Nat),AW ks es->
 (jw ks s.data.toList=false/\Instr.findNow .string (.string s) es i=some none)\/
 (jw ks s.data.toList=true/\∃j e,Instr.findNow .string (.string s) es i=some (some (i+j,.bool true))/\es[j]?=some e/\e.key= .string s/\e.val= .bool true)
 |_,_,i,.nil=>.inl ⟨rfl,rfl⟩
 |k::ks,e::es,i,.cons h ag=>by
  obtain⟨h1,g⟩:=h;have m:(s==⟨k.toArray⟩)=decide _:=Ya;by_cases n:k=s.data.toList
  . refine .inr ⟨by grind[jw],0,e,?_,rfl,?_,g⟩
    . simp_all[Instr.findNow,Instr.sameNow]
    simp_all
  . rcases Hc s (i+1) ag with⟨b,c⟩|⟨b,j,a,c,l,d,f⟩
    . grind[jw,Instr.findNow,Instr.sameNow]
    . refine .inr ⟨by grind[jw],j+1,a,?_,by grind,d,f⟩;grind[Instr.findNow,Instr.sameNow]
theorem DF{a:TypeId}(b:P.underlying a=some .string){s:ByteArray}{es:List MapEntry}{r:Option (Nat×Value)}(h:Instr.findNow .string (.string s) es 0=some r)(w:World):(Instr.findKey a (.string s) es).run P w= .ok r w:=by
 simp_all[Instr.findKey,run_underlying]
theorem CW{a:TypeId}(c:P.underlying a=some .string){s:ByteArray}(b:Bool)(w:World):(Instr.checkKey b 10000 a (.string s)).run P w= .ok () w:=by
 unfold Instr.checkKey;simp[run_underlying c]
theorem DS{b:Nat}{es:Array MapEntry}{c:Nat}(h:w.heap[b]?=some (.map es c)):(getObj b).run P w= .ok (.map es c) w:=by grind[getObj,Sem.run]
theorem KY{b:Nat}{es:Array MapEntry}{c:Nat}(o:Obj)(h:w.heap[b]?=some (.map es c)):(setObj b o).run P w= .ok () {w with heap:=w.heap.setIfInBounds b o}:=by
 grind[setObj,Sem.run]
theorem Zr(R:Rel aE nt φ S env J n a w){x k:Operand}(m:o.op= .lookup t x k false)(ht:tK P t=true){g f:aQ}(C:bM x=some g)(B:bM k=some f)
 {p v J'}(H:n key=false)(h:aR (.lkset g f) env J key=some (p,v,J'))(q:p):Good P aE nt env J' (ins n key) a v ((execOp a.eval o).run P w):=by
 simp only[aR,br]at h;obtain⟨⟨N,Q⟩,A,⟨M,O⟩,z,he⟩:=h;simp at he;obtain⟨L,E,i,r,b,G,K⟩:=JU ht;split at he
 . split at he
   . rename_i ks s;obtain⟨rfl,rfl,rfl⟩:=he;have h1:a.eval x= .map _:=(cy R C A q.1).1.eb;obtain⟨bs,l,rfl,_⟩:=cl.kn (cy R B z q.2).1;obtain⟨h0,⟨es,F,aa,u⟩,I⟩:=R.bQ.blk _ _ s;refine Good.pure R ?_ (.sB _) rfl;have D:(zeroValue E).run P w= .ok (.bool false) w:=(by simp_all[zeroValue,typeInfo]);have y:=Hc bs 0 u;rcases y with⟨c,d⟩|⟨c,j,e,d,_⟩
     . simp[execOp,m,h1,l,Instr.lookup,run_underlying r,DS aa,CW b,DF b d,D,c]
     . simp[execOp,m,h1,l,Instr.lookup,run_underlying r,DS aa,CW b,DF b d,c]
   grind
 grind
theorem ZX{ks:List ak}{es:List MapEntry}(h:AW ks es)(s:ByteArray)(a:Nat):AW (ks++[s.data.toList]) (es++[{key:= .string s,val:= .bool true,born:=a}]):=
 h.append (.cons ⟨by rfl,rfl⟩ .nil)
theorem ba.modify{c:Type}{R:α->c->Prop}{f:c->c}:∀{l:List α} {m:List c} {j:Nat},ba R l m->(∀a b,R a b->m[j]?=some b->R a (f b))->ba R l (m.modify j f)
 |_,_,_,.nil,_=>by simpa using ba.nil
 |_,_,0,.cons h ag,k=>.cons (k _ _ h rfl) ag
 |_,_,j+1,.cons h ag,k=>by
  exact .cons h (ba.modify ag λa b e o=>k a b e (by grind))
theorem Zs(R:Rel aE nt φ S env J n a w){x k v0:Operand}(B:o.op= .mapUpdate t x k v0)(ht:tK P t=true)(E:HL v0=true){y u:aQ}(W:bM x=some y)(O:bM k=some u)
 {p v J'}(af:n key=false)(h:aR (.upset y u) env J key=some (p,v,J'))(C:p):Good P aE nt env J' (ins n key) a v ((execOp a.eval o).run P w):=by
 simp only[aR,br]at h;obtain⟨⟨al,ao⟩,N,⟨ak,am⟩,M,he⟩:=h;simp only at he;obtain⟨aj,an,i,D,f,ae,ah⟩:=JU ht;have F:a.eval v0= .bool true:=by
  unfold HL at E;split at E
  . rfl
  grind
 split at he
 . rename_i b s;split at he
   . rename_i ks A;obtain⟨rfl,rfl,rfl⟩:=he;have h1:a.eval x= .map _:=(cy R W N C.1).1.eb;obtain⟨bs,z,rfl,_⟩:=cl.kn (cy R O M C.2).1;obtain⟨h0,⟨es,c,aa,r⟩,T⟩:=R.bQ.blk _ _ A;have aC:=lZ aa;have X:∃d g,(execOp a.eval o).run P w= .ok .skip {w with heap:=w.heap.setIfInBounds (φ b).1 (.map d g)}/\AW (iT ks bs.data.toList) d.toList:=by
      have L:=Hc bs 0 r;rcases L with⟨l,q⟩|⟨l,j,e,q,G,H,ab⟩
      . refine⟨es.toArray.push {key:= .string bs,val:= .bool true,born:=c},c+1,?_,?_⟩
        . simp[execOp,B,h1,z,F,Instr.mapUpdate,run_underlying D,DS aa,CW f,DF f q,KY _ aa]
        . simp only[iT,l,b9];simpa using ZX r bs c
      . refine⟨es.toArray.modify j λe=>{e with key:= .string bs,val:= .bool true},c,?_,?_⟩
        . have V:Instr.sameBits 10000 (Value.string bs) (Value.string bs)=true:=by
           simp only[Instr.sameBits];rw[beq_toListBytes];simp
          have Q:∀w,(Instr.keyThatStays (Value.string bs) (Value.string bs)).run P w= .ok (Value.string bs) w:=by intro w;unfold Instr.keyThatStays;rw[V];rfl
          simp[execOp,B,h1,z,F,Instr.mapUpdate,run_underlying D,DS aa,CW f,DF f q,KY _ aa,G,H,Q]
        . simp only[iT,l,b5];rw[Array.toList_modify];refine ba.modify r λai Z ag ad=>?_;grind
     obtain⟨d,g,U,K⟩:=X;refine⟨undef,φ,S,_,.inr ⟨U,rfl⟩,.undef,rfl,Rel.more ?_ λ_ h=>kM h⟩;refine R.rewrite A h0 rfl rfl rfl rfl (by simp) (λY I=>by simp[dX I]) (λm=>?_);exact⟨h0,⟨d.toList,g,by simp[aC],K⟩,T⟩
   grind
 grind
theorem Xm{st j:TypeId}{i:TypeInfo}{c:Value}(q:P.underlying st=some (.slice e))(v:P.underlying j=some .string)(g:P.info? e=some i)(C:i.zero=some c)(D:c.cells.size=i.size)
 {base:Option Addr}{sl sc a:Nat}{y:Value}{xs d:List Value}(u:(Builtin.lenOf y).run P w= .ok a w)
 (s:(Builtin.firstCells i.size sl (.slice base sl sc)).run P w.drew= .ok xs.toArray w.drew)(t:(Builtin.firstCells i.size a y).run P w.drew= .ok d.toArray w.drew)
 (o:sc<sl+a)(l:lR (sl+a) i.bytes)(A:sl+a<=eI){tt:TypeId}:
 ∃(b:Nat) (r:List Value),sl+a<=b/\r.length=(b-(sl+a))*i.size/\
  (Builtin.append_ #[st,j] tt #[.slice base sl sc,y]).run P w= .ok (.slice (some ⟨w.heap.size,0,none⟩) (sl+a) b) (w.drew.alloc (.cells (xs++d++r).toArray e)):=by
 have p:∀w,(sizeOf e).run P w= .ok i.size w:=λw=>by simp[sizeOf,typeInfo,g]
 have f:∀w,(typeInfo e).run P w= .ok i w:=λw=>by simp[typeInfo,g]
 have x:∀w,(zeroValue e).run P w= .ok c w:=λw=>by simp_all[zeroValue]
 generalize B:(Question.appendCap (sl+a) sc e).cut (w.tape w.drawn (Question.appendCap (sl+a) sc e))=b;have n:sl+a<=b:=by grind[Question.cut]
 have h1:¬(sl+a<=sc):=by omega
 have z:¬(sl+a>IntKind.i64.max/\(False\/i.bytes=0)):=by grind[IntKind.max,IntKind.bits,eI]
 have k:=by
  exact l.not o
 refine⟨b,(Builtin.zeroCells c.cells (b-(sl+a))).toList,n,by grind[TF],?_⟩;have m:(choose (.appendCap (sl+a) sc e)).run P w= .ok b w.drew:=by simp_all[Question.forced]
 have aM:(xs++d++(Builtin.zeroCells c.cells (b-(sl+a))).toList).toArray=xs.toArray++d.toArray++Builtin.zeroCells c.cells (b-(sl+a)):=by simp
 rw[aM];unfold Builtin.append_;simp only[B2,BZ,B0,Sem.run_bind,run_underlying q,run_underlying v,Result.andThen_ok,p,Sem.run_pure,bZ,b9,u,al h1,f];rw[al (by grind)];simp only[Sem.run_bind,Result.andThen_ok,f];rw[al k];simp only[Sem.run_bind,Result.andThen_ok,f,m,run_askRoom,s,t,x,eV,b5];rfl
theorem T7{st c:TypeId}{i:TypeInfo}(j:P.underlying st=some (.slice e))(l:P.underlying c=some .string)(f:P.info? e=some i)
 {base:Option Addr}{sl sc a:Nat}{y:Value}{d:List Value}(k:(Builtin.lenOf y).run P w= .ok a w)(o:(Builtin.firstCells i.size a y).run P w= .ok d.toArray w)(n:sl+a<=sc){w':World}
 (hs:∀b,base=some b->(storeCells (b.add (sl*i.size)) d 0).run P w= .ok () w') (m:base=none->w'=w) {tt:TypeId}:
  (Builtin.append_ #[st,c] tt #[.slice base sl sc,y]).run P w= .ok (.slice base (sl+a) sc) w':=by
 have g:∀w,(sizeOf e).run P w= .ok i.size w:=λw=>by simp[sizeOf,typeInfo,f]
 unfold Builtin.append_;simp only[B2,BZ,B0,Sem.run_bind,run_underlying j,run_underlying l,Result.andThen_ok,g,Sem.run_pure,bZ,b9,k];cases base<;>simp_all
theorem Yq(w:World)(bs:ByteArray):(Builtin.firstCells 1 bs.size (.string bs)).run P w= .ok (bs.data.toList.map λb=>Value.int .u8 b.toNat).toArray w:=by
 simp[Builtin.firstCells];grind
theorem Yb(l:ak):∀x,x∈(l.map λb=>Value.int .u8 b.toNat)->x.oneCell'=true:=by
 intro x a;simp at a;obtain⟨b,_,rfl⟩:=a;rfl
theorem Yy(R:Rel aE nt φ S env J n a w){x y:Operand}{st L e:TypeId}(ao:o.op= .call {callee:= .builtin .append,args:=#[x,y],argTypes:=#[st,L]})
 (G:P.underlying st=some (.slice e))(I:P.underlying L=some .string){i:TypeInfo}(B:P.info? e=some i)(u:i.size=1)(Z:(i.zero.map (·.cells.size))=some 1)
 {M N:aQ}(ax:bM x=some M)(d:bM y=some N)
 {p v J'}(f:n key=false)(h:aR (.appendB e i.bytes M N) env J key=some (p,v,J'))(ap:p):Good P aE nt env J' (ins n key) a v ((execOp a.eval o).run P w):=by
 simp only[aR,br]at h;obtain⟨⟨aW,aZ⟩,ak,⟨aX,a0⟩,al,he⟩:=h;simp only at he;simp only[bo]at Z;obtain⟨a1,aA,az⟩:=Z;have F:∀r w',(Builtin.append_ #[st,L] o.type #[a.eval x,a.eval y]).run P w= .ok r w'->(execOp a.eval o).run P w= .ok (.value r) w':=by
  intro r w' ag;simp[execOp,ao,Go.resolve,invoke,builtin,ag]
 have an:∀b,w.heap.size<=b->∀j,¬S b j:=λb T j aI=>by have:=R.bQ.st _ _ aI;omega
 split at he
 . rename_i b len s;split at he
   . rename_i t es m;obtain⟨rfl,rfl,rfl⟩:=he;obtain⟨aq,ar,rfl,rfl,W,D⟩:=ap;obtain⟨aS,aB,k1⟩:=(cy R ax ak aq).1.eb;obtain⟨bs,U,rfl,_⟩:=cl.kn (cy R d al ar).1;have l:bs.data.toList.length=bs.size:=by rw[<-wy]
     have af:=R.bQ.blk _ _ m;obtain⟨aK,aL,O⟩:=af;have H:∀w,(Builtin.lenOf (a.eval y)).run P w= .ok bs.size w:=by intro w;simp[U,Builtin.lenOf]
     have K:∀w,(Builtin.firstCells i.size bs.size (a.eval y)).run P w= .ok (bs.data.toList.map λb=>Value.int .u8 b.toNat).toArray w:=by intro w;rw[U,u];exact Yq w bs
     by_cases au:es.length+bs.size<=(φ b).2
     . by_cases g:(φ b).2=0
       . have X:es=[]:=jx (by omega);have ah:bs.data.toList=[]:=jx (by omega);have q:=aB g;have ag:=T7 (P:=P) (w:=w) (tt:=o.type) G I B (base:=none) (sl:=0) (sc:=0) (H w) (K w) (by omega) (w':=w) (λad Q=>by grind) (λ_=>rfl);rw[<-q]at ag;have R':=(R.del b).jU f (x:= .buf t (es++bs.data.toList)) (0,0) rfl (by grind[c1,dG]) (by simp);refine⟨_,_,S,w,.inl (F _ _ ag),.c ?_,by simp[V.aD,C.aD,ins],R'⟩;rw[ah,X];have aj:bs.size=0:=(by omega);refine⟨by simp,λ_=>?_,λh=>?_⟩
         . rw[aj]
         . simp[dG]at h
       . obtain⟨⟨vs,aa,av,aw⟩,Y⟩:=O g;have q:=k1 g;have aP:es.length+(bs.data.toList.map λb=>Value.int .u8 b.toNat).length<=vs.length:=(by grind);obtain⟨w',aT,aD,aF,aG,aH,aY,aJ⟩:=nM (P:=P) _ es.length 0 vs w aa (by omega) (Yb _)
         have ag:=T7 (P:=P) (w:=w) (tt:=o.type) G I B (base:=some ⟨(φ b).1,0,none⟩) (sl:=es.length) (sc:=(φ b).2) (H w) (K w) au (w':=w') (λad Q=>by
          cases Q;have aN:Addr.add ⟨(φ b).1,0,none⟩ (es.length*i.size)=⟨(φ b).1,es.length,none⟩:=by rw[u,Nat.mul_one];unfold Addr.add;split<;>simp_all
          grind) (λT=>by cases T)
         rw[<-q]at ag
         have z:=(R.del b).world (w':=w') (λk=>k=(φ b).1) aD aF aG (wE aH.symm) (λk _ f=>aJ k f) (λk f=>by
          subst f;refine⟨Y,λk y d f=>?_,R.own b _ m g⟩;rw[fP]at d;split at d
          . cases d
          . rename_i E
            exactλe=>R.bQ.inj k b y _ d m (dX E) f g e)
         have A:=z.jU f (x:= .buf t (es++bs.data.toList)) (φ b) rfl (by
          simp only[c1,dG]
          grind[List.length_append,p9,nR]) (λ_=>⟨λk y d f=>by
           rw[fP]at d;split at d
           . cases d
           . rename_i E
             exact R.bQ.inj k b y _ d m (dX E) f g,R.own b _ m g⟩)
         refine⟨_,_,S,w',.inl (F _ _ ag),.c ?_,by simp[V.aD,C.aD,ins],A⟩;refine⟨by simp[dG,l];omega,λh=>?_,λ_=>?_⟩
         . simp[dG,g]at h
         . simp[dG,l]
     . have z:=R.drew;have ai:∃base,a.eval x= .slice base es.length (φ b).2/\∃xs:List Value,(Builtin.firstCells i.size es.length (.slice base es.length (φ b).2)).run P w.drew= .ok xs.toArray w.drew/\xs.length=es.length/\∀(i:Nat) c,es[i]?=some c->xs[i]?=some (.int .u8 (UInt8.toNat c)):=by
        by_cases g:(φ b).2=0
        . have X:es=[]:=jx (by omega);simp_all[Builtin.firstCells]
        . obtain⟨⟨vs,aa,av,aw⟩,Y⟩:=O g;refine⟨_,k1 g,vs.take es.length,?_,by simp;omega,λj c aO=>?_⟩
          . rw[u];show(loadCells ⟨(φ b).1,0,none⟩ (es.length*1)).run P w.drew=_;rw[Nat.mul_one];refine zV (by simp;omega) (λj am=>?_);rw[hR,yA,ae am];exact js (w:=w.drew) aa j
          grind
       obtain⟨base,q,xs,ay,aU,aV⟩:=ai;obtain⟨aC,r,h1,aM,ag⟩:=Xm (P:=P) (w:=w) (tt:=o.type) G I B aA (by rw[az,u]) (H w) ay (K w.drew) (by omega) (by rw[l]at W;exact W) (by rw[l]at D;exact D);rw[<-q]at ag;have A:=(z.del b).alloc (.cells (xs++(bs.data.toList.map λb=>Value.int .u8 b.toNat)++r).toArray t)
       have ab:=A.jU f (x:= .buf t (es++bs.data.toList)) (w.heap.size,aC) rfl (by
        simp only[c1,dG];refine⟨by simp[l];omega,by rw[cm];exact D,λ_=>⟨⟨_,p4,?_,?_⟩,an _ (dV _)⟩⟩
        . grind
        grind) (λ_=>⟨λk y d h0=>by
         rw[fP]at d;split at d
         . cases d
         . have:=(R.bQ.blk k y d).kj h0
           simp;omega,.inr R.ext.size⟩)
       refine⟨_,_,S,_,.inl (F _ _ ag),.c ?_,by simp[V.aD,C.aD,ins],ab⟩;refine⟨by simp[dG,l];omega,λh=>?_,λ_=>?_⟩
       . simp[dG]at h;omega
       . simp[dG,l]
   grind
 grind
theorem Zt(R:Rel aE nt φ S env J n a w){x:Operand}{t:TypeId}(e:o.op= .call {callee:= .builtin .unsafeSliceData,args:=#[x],argTypes:=#[t]}){d:aQ}(i:bM x=some d)
 {p v J'}(k:n key=false)(h:aR (.sdata d) env J key=some (p,v,J'))(g:p):Good P aE nt env J' (ins n key) a v ((execOp a.eval o).run P w):=by
 simp only[aR,br]at h;obtain⟨⟨m,q⟩,f,he⟩:=h;simp at he;split at he
 . rename_i b len;obtain⟨rfl,rfl,rfl⟩:=he;have aq:=cy R i f g;obtain⟨l,j,k1⟩:=aq.1.eb;by_cases h0:(φ b).2=0
   . refine Good.pure R ?_ (.c ⟨none,rfl,λh=>absurd h0 h⟩) (by grind[V.aD,C.aD]);simp[execOp,e,Go.resolve,invoke,builtin,j h0,Go.Lib.run_unsafeSliceData_nil]
   . refine Good.pure R ?_ (.c ⟨_,rfl,λ_=>rfl⟩) (by grind[V.aD,C.aD]);simp[execOp,e,Go.resolve,invoke,builtin,k1 h0,Go.Lib.run_unsafeSliceData_row _ _ _ _ _ _ h0]
 grind
theorem Zu{b m:Nat}{a:Addr}(c:b≠a.block):(w.freeze a m).heap[b]?=w.heap[b]?:=by
 grind[World.freeze]
theorem Yc(a:Addr)(m:Nat):(w.freeze a m).os=w.os/\(w.freeze a m).tape=w.tape/\(w.freeze a m).output=w.output/\(w.freeze a m).heap.size=w.heap.size:=by
 grind[World.freeze]
theorem ZY(R:Rel aE nt φ S env J n a w){x y:Operand}{cI i e:TypeId}(K:o.op= .call {callee:= .builtin .unsafeString,args:=#[x,y],argTypes:=#[cI,i]})
 (O:P.underlying cI=some (.pointer e))(F:P.cellsOf e=1){s t:aQ}(T:bM x=some s)(g:bM y=some t)
 {p v J'}(d:n key=false)(h:aR (.ustr e s t) env J key=some (p,v,J'))(L:p):Good P aE nt env J' (ins n key) a v ((execOp a.eval o).run P w):=by
 simp only[aR,br]at h;obtain⟨⟨aj,al⟩,G,⟨ak,am⟩,H,he⟩:=h;simp only at he;split at he
 . rename_i b m;split at he
   . rename_i u es l;obtain⟨rfl,rfl,rfl⟩:=he;obtain⟨M,N,rfl,rfl⟩:=L;obtain⟨U,h1,af⟩:=(cy R T G M).1.eb;have D:=(cy R g H N).1.gr;have E:=R.bQ.blk _ _ l;obtain⟨Z,ab,C⟩:=E;have A:∀w',cd w' S (.str es) (.string ⟨es.toArray⟩):=by
      intro w';have:=cd.str (w:=w') (S:=S) (⟨es.toArray⟩:ByteArray) (by rw[<-wy];grind[eI,eG]);omega
     have z:∀r w',(Builtin.unsafeString_ #[cI,i] o.type #[a.eval x,a.eval y]).run P w= .ok r w'->(execOp a.eval o).run P w= .ok (.value r) w':=by
      intro r w' ag;simp[execOp,K,Go.resolve,invoke,builtin,ag]
     by_cases f:es=[]
     . subst f;refine⟨.string ⟨#[]⟩,φ,S,w,.inl (z _ _ ?_),.c (A w),rfl,(R.del b).more λ_ h=>kM h⟩;rw[h1,D];exact Go.Lib.run_unsafeString_none w cI i o.type U
     . have ae:=uz.2 f;have q:(φ b).2≠0:=(by omega);obtain⟨⟨vs,aa,ah,ai⟩,I⟩:=C q;have Q:w.shape? (φ b).1=some (u,vs.length):=by grind[World.shape?]
       have ag:=Go.Lib.run_unsafeString_row (P:=P) w cI i o.type u O F _ vs.length Q es f (by omega) (by grind[eI]) (λj c ad=>by
        grind[Addr.add,js])
       obtain⟨V,W,X,Y⟩:=Yc (w:=w) ⟨(φ b).1,0,none⟩ es.length
       have B:=(R.del b).world _ V W X (wE Y.symm) (λk _ d=>Zu d) (λk d=>by
        subst d;refine⟨I,λk y g d=>?_,R.own b _ l q⟩;rw[fP]at g;split at g
        . grind
        . rename_i f
          exactλe=>R.bQ.inj k b y _ g l (dX f) d q e)
       refine⟨.string _,φ,S,_,.inl (z _ _ ?_),.c (A _),rfl,B.more λ_ h=>kM h⟩;grind
   grind
 grind
end
section
variable {P:Program}{aE:Ctx}{nt:Nat}{φ:dE}{S:dT}{env:Env}{J:a'}{n:Nat->Bool}{key:Nat}{a:Act}{w:World}
theorem vY{x:Array α}{a b:α}(h:x.toList=[a,b]):x=#[a,b]:=by grind
theorem EF{x:Array α}{a:α}(h:x.toList=[a]):x=#[a]:=by grind
theorem ZZ(R:Rel aE nt φ S env J n a w)(m:o.op= .call c){C:cP}(ag:mN P c=some C)
 {p v J'}(k:n key=false)(h:aR C env J key=some (p,v,J'))(q:p):Good P aE nt env J' (ins n key) a v ((execOp a.eval o).run P w):=by
 obtain⟨callee,args,argTypes⟩:=c;unfold mN at ag;split at ag
 . rename_i d;split at ag
   . rename_i x t b ht;simp only at d b ht;have b:=EF b;have ht:=EF ht;subst d;subst b;subst ht;split at ag
     . rename_i j;simp only[bo]at ag;obtain⟨r,f,rfl⟩:=ag;exact LR (str:=true) R m (by simpa using j) f k h q
     . rename_i e j;simp only[bo]at ag;obtain⟨r,f,rfl⟩:=ag;exact LR (str:=false) R m (by simpa using⟨e,j⟩) f k h q
     . cases ag
   . cases ag
 . rename_i d;split at ag
   . rename_i x y t u b ht;simp only at d b ht;have b:=vY b;have ht:=vY ht;subst d;subst b;subst ht;split at ag
     . rename_i e j B;simp only[br,ew,dp]at ag;obtain⟨i,A,r,f,s,g,⟨h1,z,D⟩,rfl⟩:=ag;exact Yy R m j B A h1 z f g k h q
     . rename_i e E j B;simp only[br,ew,dp]at ag;obtain⟨i,A,r,f,s,g,⟨h1,z⟩,rfl⟩:=ag;exact X7 R m j B A h1 z f g k h q
     . cases ag
   . cases ag
 . rename_i d;split at ag
   . rename_i x y b;simp only at d b;have b:=vY b;subst d;subst b;simp only[br,bo]at ag;obtain⟨r,f,s,g,rfl⟩:=ag;exact Zd R m f g k h q
   . cases ag
 . rename_i d;split at ag
   . rename_i x y b;simp only at d b;have b:=vY b;subst d;subst b;simp only[br,bo]at ag;obtain⟨r,f,s,g,rfl⟩:=ag;exact YH R m f g k h q
   . cases ag
 . rename_i d;split at ag
   . rename_i x t b ht;simp only at d b ht;have b:=EF b;have ht:=EF ht;subst d;subst b;subst ht;split at ag
     . simp only[ew,bo]at ag;obtain⟨_,r,f,rfl⟩:=ag;exact Zt R m f k h q
     . cases ag
   . cases ag
 . rename_i d;split at ag
   . rename_i x y t u b ht;simp only at d b ht;have b:=vY b;have ht:=vY ht;subst d;subst b;subst ht;split at ag
     . rename_i e j;simp only[ew,br,bo]at ag;obtain⟨⟨_,_,D⟩,r,f,s,g,rfl⟩:=ag;exact ZY R m j D f g k h q
     . cases ag
   . cases ag
 . split at ag
   . simp only[bo]at ag;obtain⟨l,af,rfl⟩:=ag;simp[aR]at h
   . cases ag
 . simp only[bo]at ag;obtain⟨l,af,rfl⟩:=ag;simp[aR]at h
 . cases ag
theorem Good.mono{v:V}{J':a'}{c' c:Nat->Bool}(h:∀b,c' b=true->c b=true){r:Result Next}(g:Good P aE nt env J' c' a v r):Good P aE nt env J' c a v r:=by
 obtain⟨x,j,bR,w',h1,e,f,R'⟩:=g;exact⟨x,j,bR,w',h1,e,V.hp h f,R'.more h⟩
theorem Zv(R:Rel aE nt φ S env J n a w){Q:cP}(ag:c6 P o.op=some Q)
 (ah:∀e e8,Q≠.allocS e e8){p v J'}(j:n key=false)(h:aR Q env J key=some (p,v,J'))(q:p):Good P aE nt env J' (ins n key) a v ((execOp a.eval o).run P w):=by
 generalize l:o.op=op at ag;cases op with
 |move x=>simp only[c6,bo]at ag;obtain⟨A,b,rfl⟩:=ag;exact LP R (.inl l) b j h q
 |assign x=>simp only[c6,bo]at ag;obtain⟨A,b,rfl⟩:=ag;exact LP R (.inr l) b j h q
 |pick c x y=>
  simp only[c6,br,bo]at ag;obtain⟨ac,Y,A,b,G,D,rfl⟩:=ag;exact Y' R l Y b D j h q
 |alloc e=>
  simp only[c6]at ag;split at ag
  . cases ag;exact absurd rfl (ah _ _)
  . simp only[br]at ag;obtain⟨cs,V,ag⟩:=ag;split at ag
    . split at ag
      . rename_i Y;cases ag;exact X9 R l V (by omega) (by omega) j h q
      . cases ag;exact Jw R l V j h q
    . cases ag;exact Jw R l V j h q
 |box e x=>simp only[c6,bo]at ag;obtain⟨A,b,rfl⟩:=ag;exact aav R l b j h q
 |build t parts=>
  simp only[c6]at ag;split at ag
  . rename_i fs H;simp only[ew,br,bo]at ag;obtain⟨h1,z,K,ps,I,rfl⟩:=ag;exact Zo R l H h1 K I j h q
  . simp only[br,bo]at ag;rename_i len e B;obtain⟨z,K,m,C,ps,I,rfl⟩:=ag;exact Yp R l B C K I j h q
  . cases ag
 |buildSlice t len parts=>
  simp only[c6]at ag;split at ag
  . rename_i e B;simp only[br,ew,dp]at ag;obtain⟨m,C,z,K,ps,I,⟨h1,T,U⟩,rfl⟩:=ag;exact X6 R l B C K I h1 T U j h q
  . cases ag
 |load t x=>
  simp only[c6,br,bo]at ag;obtain⟨g,aq,A,b,rfl⟩:=ag;exact YN R l aq b j h q
 |store t x y=>
  simp only[c6,br,bo]at ag;obtain⟨m,C,A,b,G,D,rfl⟩:=ag;exact Zn R l C b D j h q
 |nilCheck x=>simp only[c6,bo]at ag;obtain⟨A,b,rfl⟩:=ag;exact Yo R l b j h q
 |binOp op t x y al=>
  simp only[c6]at ag;split at ag
  . rename_i Z;split at ag
    . simp only[br,bo]at ag;obtain⟨ks,ae,A,b,G,D,rfl⟩:=ag;exact Zm R l Z ae b D j h q
    . simp only[ew,bo]at ag;obtain⟨_,A,b,rfl⟩:=ag;simp[aR]at h
    . rename_i B;simp only[br,bo]at ag;obtain⟨A,b,G,D,rfl⟩:=ag;exact X4 R l Z B b D j h q
    . simp only[br,bo]at ag;obtain⟨A,b,G,D,rfl⟩:=ag;exact Iu R l b D j h q
    . simp only[br,bo]at ag;obtain⟨A,b,G,D,rfl⟩:=ag;exact Iu R l b D j h q
    . cases ag
  . simp only[br,bo]at ag;obtain⟨A,b,G,D,rfl⟩:=ag;exact Iu R l b D j h q
 |unOp u t x=>
  cases u<;>simp only[c6,bo,reduceCtorEq]at ag
  . split at ag
    . simp only[bo]at ag;obtain⟨A,b,rfl⟩:=ag;exact aa8 R l b j h q
    . cases ag
  . split at ag
    . simp only[bo]at ag;obtain⟨A,b,rfl⟩:=ag;exact aa9 R l b j h q
    . cases ag
  . obtain⟨A,b,rfl⟩:=ag;exact aa7 R l b j h q
 |convert s d x=>
  simp only[c6]at ag;split at ag
  . rename_i hs F;simp only[bo]at ag;obtain⟨A,b,rfl⟩:=ag;exact Zb R l hs F b j h q
  . rename_i hs F;simp only[bo]at ag;obtain⟨A,b,rfl⟩:=ag;exact aao R l hs F b j h q
  . rename_i hs F;simp only[bo]at ag;obtain⟨A,b,rfl⟩:=ag;exact aap R l hs F b j h q
  . rename_i e hs F;simp only[ew,bo]at ag;obtain⟨⟨he,N⟩,A,b,rfl⟩:=ag;have ad:P.underlying e=some (.int .u8):=(by grind);exact aax R l hs ad F b j h q
  . cases ag
 |fieldAddr t x f=>
  simp only[c6]at ag;split at ag
  . rename_i fs H;simp only[br,Ci,bo]at ag;obtain⟨ab,W,m,C,M,A,b,rfl⟩:=ag;exact Zc R l H W C M b j h q
  . cases ag
 |field t x f=>
  simp only[c6]at ag;split at ag
  . rename_i fs H;simp only[br,bo]at ag;obtain⟨ab,W,g,aq,A,b,rfl⟩:=ag;obtain⟨h1,T,U⟩:=KT aq;exact aaq R l H W T h1 U b j h q
  . cases ag
 |indexAddr t x i=>
  simp only[c6]at ag;split at ag
  . rename_i e B;simp only[br,Ci,bo]at ag;obtain⟨m,C,M,A,b,L,E,rfl⟩:=ag;exact YI R l B C M b E j h q
  . rename_i k e B;split at ag
    . simp only[ew,br,bo]at ag;obtain⟨h0,s,hs,A,b,rfl⟩:=ag;exact ZT R l B h0 hs b j h q
    . simp only[ew,br,bo]at ag;obtain⟨N,A,b,L,E,rfl⟩:=ag;exact ZS R l B N b E j h q
  . cases ag
 |index t x i=>
  simp only[c6]at ag;split at ag
  . rename_i B;simp only[br,bo]at ag;obtain⟨A,b,L,E,rfl⟩:=ag;exact YJ R l B b E j h q
  . cases ag
 |slice t x aj E ak=>
  simp only[c6]at ag;split at ag
  . rename_i B;simp only[ew,br,bo,Option.isNone_iff_eq_none]at ag;obtain⟨rfl,A,b,O,af,X,aa,rfl⟩:=ag;exact YL R l B b af aa j h q
  . rename_i e B;split at ag
    . simp only[br,Ci,bo]at ag;obtain⟨m,C,M,A,b,O,af,X,aa,rfl⟩:=ag;exact aas R l B C b af aa j h q
    . split at ag
      . simp only[ew,bo]at ag;obtain⟨h0,A,b,rfl⟩:=ag;obtain⟨m,C⟩:=yK.1 h0;exact YM R l B C b j h q
      . cases ag
    . cases ag
  . rename_i k e B;simp only[ew,br,bo,Option.isNone_iff_eq_none]at ag;obtain⟨⟨rfl,N⟩,A,b,O,af,X,aa,rfl⟩:=ag;exact ZU R l B N b af aa j h q
  . cases ag
 |makeFunc fn first caps=>
  cases fn<;>simp only[c6,ew,bo,reduceCtorEq]at ag;obtain⟨h1,O,af,rfl⟩:=ag;have:first=#[]:=by simpa using h1
  subst this;exact YK R l af j h q
 |extract x i=>simp only[c6,bo]at ag;obtain⟨A,b,rfl⟩:=ag;exact aar R l b j h q
 |makeMap t r=>
  cases r with
  |some _=>simp[c6]at ag
  |none=>
   simp only[c6,ew,dp]at ag;obtain⟨_,rfl⟩:=ag;exact Zq R l j h q
 |lookup t x i c=>
  cases c with
  |true=>simp[c6]at ag
  |false=>
   simp only[c6,ew,br,bo]at ag;obtain⟨ht,A,b,L,E,rfl⟩:=ag;exact Zr R l ht b E j h q
 |mapUpdate t m k v0=>
  simp only[c6,ew,br,bo]at ag;obtain⟨⟨ht,ai⟩,A,b,L,E,rfl⟩:=ag;exact Zs R l ht ai b E j h q
 |call c=>simp only[c6]at ag;exact ZZ R l ag j h q
 |_=>simp[c6]at ag
def eH(n:Nat->Bool)(k:Nat):Nat->Bool:=λb=>n b||(decide (k<=b)&&decide (b<k+16))
theorem l3{b:Nat}(h:n b=true):eH n key b=true:=by simp[eH,h]
theorem M0{b:Nat}(h:ins n key b=true):eH n key b=true:=by
 simp only[ins,iv,jh]at h;simp only[eH,iv,cC,dO];grind
theorem TH{b:Bool}{a:cP}(h:wx P b op=some a):c6 P op=some a\/∃t len parts e m z ps,op= .buildSlice t len parts/\P.underlying t=some (.slice e)/\eM P e=some m/\kY P e=some z/\pL parts.toList=some ps/\m≠0/\z.length=m/\len*m<=2^24/\a= .bsliceT e m len z ps:=by
 unfold wx at h;split at h
 . split at h
   . rename_i e c;simp only[br,ew,dp]at h;grind
   . cases h
 grind
theorem XO{e e8:Nat}(h:c6 P op=some (.allocS e e8)):op= .alloc e/\y5 P e=some e8:=by
 cases op with
 |alloc j=>
  simp only[c6]at h;split at h
  . rename_i f;cases h;exact⟨rfl,f⟩
  . simp only[br]at h;obtain⟨cs,k,h⟩:=h;split at h
    . split at h<;>cases h
    . cases h
 |buildSlice t len parts=>
  simp only[c6]at h;split at h
  . simp only[br,ew,dp]at h;obtain⟨m,g,z,b,ps,a,_,h⟩:=h;cases h
  . cases h
 |build t parts=>
  simp only[c6]at h;split at h
  . simp only[ew,br,bo]at h;obtain⟨h1,z,b,ps,a,h⟩:=h;cases h
  . simp only[br,bo]at h;obtain⟨z,b,m,g,ps,a,h⟩:=h;cases h
  . cases h
 |call c=>
  simp only[c6]at h;unfold mN at h
  repeat' (first|(split at h)|(cases h;done))
  all_goals (try (cases h;done))
  all_goals simp only[br,bo,ew,dp,reduceCtorEq,kh,oy,yG]at h
 |binOp op t x y l=>
  simp only[c6]at h
  repeat' (first|(split at h)|(cases h;done))
  all_goals (try (cases h;done))
  all_goals simp only[br,bo,ew,dp,reduceCtorEq,kh,oy,yG]at h
 |unOp u t x=>
  cases u<;>simp only[c6]at h
  all_goals repeat' (first|(split at h)|(cases h;done))
  all_goals (try (cases h;done))
  all_goals simp only[br,bo,ew,dp,reduceCtorEq,kh,oy,yG]at h
 |makeMap t r=>cases r<;>simp only[c6,reduceCtorEq,ew,dp,kh]at h
 |lookup t x i c=>cases c<;>simp only[c6,reduceCtorEq,ew,br,bo,kh,oy]at h
 |makeFunc fn first caps=>cases fn<;>simp only[c6,ew,bo,reduceCtorEq,kh,oy]at h
 |convert s d x=>
  simp only[c6]at h
  repeat' (first|(split at h)|(cases h;done))
  all_goals (try (cases h;done))
  all_goals simp only[br,bo,ew,dp,reduceCtorEq,kh,oy,yG]at h
 |_=>
  simp only[c6]at h
  try repeat' (first|(split at h)|(cases h;done))
  all_goals (try (cases h;done))
  all_goals simp only[br,bo,ew,Ci,dp,reduceCtorEq,kh,oy,yG]at h
theorem Z0(R:Rel aE nt φ S env J n a w){d:cP}{j:Bool}(ag:wx P j o.op=some d)
 {p v J'}(aG:∀b,key<=b->b<key+16->n b=false)(h:aR d env J key=some (p,v,J'))(i:p):Good P aE nt env J' (eH n key) a v ((execOp a.eval o).run P w):=by
 have f:n key=false:=aG key (dV _) (by omega);rcases TH ag with ag|⟨t,len,parts,e,m,z,ps,g,u,r,x,s,h1,k,l,rfl⟩
 . by_cases hs:∃e e8,d= .allocS e e8
   . obtain⟨e,e8,rfl⟩:=hs;obtain⟨g,q⟩:=XO ag;refine(X' R g q f (aG _ (by omega) (by omega)) h i).mono λb c=>?_;simp only[ins,iv,jh]at c;simp only[eH,iv,cC,dO];rcases c with(c|c)|c
     . exact .inl c
     . exact .inr ⟨by omega,by omega⟩
     . exact .inr ⟨by omega,by omega⟩
   . exact(Zv R ag (λe e8 he=>hs ⟨e,e8,he⟩) f h i).mono λb c=>M0 c
 . exact(Yx R g u r x s h1 k l f h i).mono λb c=>M0 c
end
def hU(P:Program)(f:Nat)(args:List V)(J:a')(key:Nat)(K:V->a'->Prop):Prop:=
 ∀aE nt φ S env n a w,Rel aE nt φ S env J n a w->(∀b,key<=b->b<key+16->n b=false)->V.aD.V.dI n args=true->∀vs:List Value,ba (cl φ w S) args vs->
  Calls P f vs.toArray w λe w'=>∃v r c bR J',e= .returned v/\K r J'/\cl c w' bR r v/\r.aD (eH n key)=true/\Rel aE nt c bR env J' (eH n key) a w'
theorem hU.mono{P:Program}{args:List V}{J:a'}{key:Nat}{K c:V->a'->Prop}(h:hU P f args J key K)(q:∀r J',K r J'->c r J'):hU P f args J key c:=
 λaE nt φ S env n a w R aG p vs t=>(h aE nt φ S _ n a w R aG p vs t).mono λe w' ⟨v,r,x,bR,J',h1,j,o⟩=>⟨v,r,x,bR,J',h1,q _ _ j,o⟩
def f'(env:Env):Option (Nat×Bool)->Option Bool
 |none=>some true
 |some (t,b)=>match look env t with
  |some (g,.c (.t (.bool x)))=>some (g&&(x==b))
  |_=>none
def eu(env:Env)(dst:Option Nat)(g:Bool)(v:V):Env:=
 match dst with
 |none=>env
 |some d=>(d,g,v)::env
def sC(b:Bool):V:= .c (.t (.bool b))
def hf(P:Program)(o:cb)(key:Nat)(env:Env)(J:a')(K:Env->a'->Prop):Prop:=
 match f' env o.guard with
 |none=>False
 |some g=>(g=false/\∃v,K (eu env o.dst g v) J)\/
  match o.op with
  |.call f args=>match hP env args with
   |some (p,vs)=>match o.guard with
    |none=>p/\hU P f vs J key (λr J'=>K (eu env o.dst true r) J')
    |some _=>(g=true/\p/\hU P f vs J key (λr J'=>K (eu env o.dst true r) J'))\/∃r,(g=true->p/\hU P f vs J key (λa J'=>a=r/\J'=J))/\K (eu env o.dst g r) J
   |none=>False
  |.iE x args=>match x.get env,hP env args with
   |some (q,.c (.fn f caps)),some (p,vs)=>o.guard=none/\hj P f=true/\q/\p/\hU P f (vs++caps.map (λb=>V.c (.ptr b 0))) J key (λr J'=>K (eu env o.dst true r) J')
   |_,_=>False
  |.eqNil neg x=>match x.get env with
   |some (p,.c (.t (.slice es)))=>o.guard=none/\p/\∀b:Bool,(es≠[]->b=false)->K (eu env o.dst true (sC (if neg then !b else b))) J
   |some (p,.c .az)=>o.guard=none/\p/\∀b:Bool,K (eu env o.dst true (sC (if neg then !b else b))) J
   |some (p,.c (.arr _ _ _ l))=>o.guard=none/\p/\∀b:Bool,(l≠0->b=false)->K (eu env o.dst true (sC (if neg then !b else b))) J
   |_=>False
  |op=>match aR op env J key with
   |some (p,v,J')=>(g=true->p)/\(op.neutral=true\/g=true)/\K (eu env o.dst g v) (if op.neutral then J else J')
   |none=>False
def kt(P:Program):List cb->Nat->Env->a'->(Env->a'->Prop)->Prop
 |[],_,env,J,K=>K env J
 |o::r,key,env,J,K=>hf P o key env J λenv' J'=>kt P r (key+16) env' J' K
section
variable {P:Program}{aE:Ctx}{nt:Nat}{φ:dE}{S:dT}{env:Env}{J:a'}{n:Nat->Bool}{key:Nat}{a:Act}{w:World}
theorem pI{g:Bool}{v:V}{k:Nat}:look (eu env dst g v) k=if dst=some k then some (g,v)else look env k:=by
 unfold eu;grind[look]
theorem Rel.Bl(R:Rel aE nt φ S env J n a w)(o:∀d,dst=some d->d<nt){g:Bool}{v:V}(q:g=true->cl φ w S v x)(p:g=false->x=undef)(j:g=true->v.aD n=true):
 Rel aE nt φ S (eu env dst g v) J n (a.put dst x) w:=by
 have f:∀k,(a.put dst x).tmps[k]?=if dst=some k then some x else a.tmps[k]?:=by
  cases dst with
  |none=>simp[Act.put]
  |some d=>
   have aC:d<a.tmps.size:=by rw[R.size];grind
   grind[Act.put]
 refine⟨R.bQ,λk c e af aq=>?_,λk c e af aq=>?_,λk c e af aq=>?_,R.dU,?_,?_,R.ext,R.own,R.fix,R.fS⟩
 . rw[pI]at af;rw[f];split at af
   . grind
   . rename_i h;rw[al h];exact R.gK k c e af aq
 . rw[pI]at af;rw[f];split at af
   . grind
   . rename_i h;rw[al h];exact R.hM k c e af aq
 . rw[pI]at af;split at af
   . grind
   . exact R.gJ k c e af aq
 . cases dst<;>simp[Act.put,R.size]
 . cases dst<;>simp[Act.put,R.defers]
theorem Jz(R:Rel aE nt φ S env J n a w)(ag:tx ops o.guard=some gd){g:Bool}(aq:f' env gd=some g):Region.wanted o (yielded ops a.tmps)=g:=by
 unfold Region.wanted;cases f:o.guard with
 |none=>
  grind[tx,f']
 |some j=>
  rw[f]at ag;simp only[tx,bo]at ag;obtain⟨d,e,rfl⟩:=ag;simp[f']at aq;split at aq
  . rename_i b x af;simp at aq;subst aq;simp[yielded,e];cases c:b with
    |true=>
     obtain⟨y,i,ag⟩:=R.gK d b _ af c;have:=ag.jq;grind
    |false=>
     have:=R.hM d b _ af c;simp only[this];rfl
  grind
def j1(aE:Ctx)(nt:Nat)(n:Nat->Bool)(K:Env->a'->Prop)(a:Act)(w:World):Prop:=∃φ S env J,K env J/\Rel aE nt φ S env J n a w
theorem Zw  (h:hj P f = true):∃ fn,P.funcs[f]? = some fn/\fn.body.isSome = true/\(fn.name == "runtime.NumGoroutine") = false:= by
 grind[hj]
theorem Yd(h:hj P f=true)(args:Array Value)(w:World):(callFunc f args).run P w= .ok (.enter f args) w:=by
 obtain⟨fn,h1,a,b⟩:=Zw h;obtain⟨c,d⟩:=yK.1 a;simp only[callFunc,Sem.run_bind,run_program,Result.andThen_ok,h1,b,d,bZ,b9,Option.isNone_some,Sem.run_pure]
theorem y1{o:cP}(h:o.neutral=true){p v J'}(a:aR o env J key=some (p,v,J')):J'=J:=by
 cases o<;>simp[cP.neutral]at h<;>simp only[aR,br,bo]at a
 all_goals
  (try (obtain⟨a1,h1,a⟩:=a))
  (try (obtain⟨a2,b,a⟩:=a))
  (try (obtain⟨a3,c,a⟩:=a))
  (try split at a)
  (try (simp_all;done))
 all_goals repeat' (first|(cases a;done)|(cases a;rfl)|(simp only[bo]at a;obtain⟨_,_,_,_,rfl⟩:=a;rfl)|split at a)
theorem Ug{a:cb}(h:wm P nt ops o=some a):
 wx P (KR ops o) o.op=some a.op/\tx ops o.guard=some a.guard/\a.dst=o.dst/\∀d,a.dst=some d->d<nt:=by
 grind[wm,br]
theorem zg{b:Bool}{a:cP}(h:wx P b op=some a)(c:∀e m l z ps,a≠.bsliceT e m l z ps):c6 P op=some a:=by
 grind[TH]
theorem Hs{g:Option (Nat×Bool)}(h:tx ops o.guard=some g)(aq:g=none):o.guard=none:=by
 cases a:o.guard with
 |none=>rfl
 |some x=>
  grind[tx,bo]
theorem Iw{a:cP}(h:c6 P (.alloc e)=some a)(h1:∀cs,a≠.alloc cs)(b:∀cs,a≠.allocA cs)(c:∀e e8,a≠.allocS e e8):False:=by
 grind[c6,br]
theorem T8{args:List aQ}(h:c6 P op=some (.call f args)):∃c,op= .call c/\mN P c=some (.call f args):=by
 cases op with
 |call c=>exact⟨c,rfl,h⟩
 |alloc e=>exfalso;exact Iw h (by simp) (by simp) (by simp)
 |makeMap t r=>cases r<;>simp[c6]at h
 |lookup t x i c=>cases c<;>simp[c6,br]at h
 |unOp u t x=>
  cases u<;>simp[c6]at h
  all_goals (repeat' split at h)<;>(first|(done)|simp at h)
 |makeFunc fn b c=>cases fn<;>simp[c6]at h
 |_=>
  simp only[c6]at h
  (repeat' split at h)<;>(first|(cases h)|simp[br,bo]at h)
theorem TX{x:aQ}{args:List aQ}(h:c6 P op=some (.iE x args)):∃c,op= .call c/\mN P c=some (.iE x args):=by
 cases op with
 |call c=>exact⟨c,rfl,h⟩
 |alloc e=>exfalso;exact Iw h (by simp) (by simp) (by simp)
 |makeMap t r=>cases r<;>simp[c6]at h
 |lookup t x i c=>cases c<;>simp[c6,br]at h
 |unOp u t x=>
  cases u<;>simp[c6]at h
  all_goals (repeat' split at h)<;>(first|(done)|simp at h)
 |makeFunc fn b c=>cases fn<;>simp[c6]at h
 |_=>
  simp only[c6]at h
  (repeat' split at h)<;>(first|(cases h)|simp[br,bo]at h)
theorem T9{args:List aQ}(h:mN P c=some (.call f args)):c.callee= .value (.func f)/\hj P f=true/\nb c.args.toList=some args:=by
 unfold mN at h
 (repeat' split at h)<;>simp[br]at h
 grind
theorem TY{x:aQ}{args:List aQ}(h:mN P c=some (.iE x args)):∃t,x= .tmp t/\c.callee= .value (.tmp t)/\nb c.args.toList=some args:=by
 unfold mN at h
 (repeat' split at h)<;>simp[br]at h
 grind
theorem We{neg:Bool}{x:aQ}(h:c6 P op=some (.eqNil neg x)):
 ∃a t y z d e,op= .binOp a t y z d/\(a= .eql\/a= .neq)/\neg=(a== .neq)/\P.underlying t=some (.slice e)/\Hr z=true/\bM y=some x:=by
 cases op with
 |binOp a t y z d=>
  simp[c6]at h
  (repeat' split at h)<;>(try (done))<;>simp[br,bo,reduceCtorEq,kh]at h
  grind
 |call c=>
  simp[c6]at h;unfold mN at h
  (repeat' split at h)<;>(first|(done)|simp[br]at h)
 |alloc e=>exfalso;exact Iw h (by simp) (by simp) (by simp)
 |makeMap t r=>cases r<;>simp[c6]at h
 |lookup t x i c=>cases c<;>simp[c6,br]at h
 |unOp u t x=>
  cases u<;>simp[c6]at h
  all_goals (repeat' split at h)<;>(first|(cases h;done)|simp at h)
 |makeFunc fn b c=>cases fn<;>simp[c6]at h
 |_=>
  simp only[c6]at h
  (repeat' split at h)<;>(first|(cases h;done)|simp[br,bo]at h)
theorem Eu(g:o.op= .call c){x:Operand}(d:c.callee= .value x){caps:List Value}(i:a.eval x= .func (.func f) #[] caps.toArray)(b:hj P f=true):
 (execOp a.eval o).run P w= .ok (.enter f (c.args.toList.map a.eval++caps).toArray) w:=by
 have e:(c.args.map a.eval++caps.toArray)=(c.args.toList.map a.eval++caps).toArray:=by simp
 grind[execOp,Go.resolve,Deferred.ofValue,invoke,Yd]
theorem Calls.next{args:Array Value}{key:Nat}(x:dst=o.dst)(t:∀d,dst=some d->d<nt){g:Bool}(aq:g=true){K2:V->a'->Prop}
 (bC:∀r s,K2 r s->K (eu env dst g r) s)
 (h:Calls P f args w λe w'=>∃v r c bR J',e= .returned v/\K2 r J'/\cl c w' bR r v/\r.aD (eH n key)=true/\Rel aE nt c bR env J' (eH n key) a w')
 (y:(execOp a.eval o).run P w= .ok (.enter f args) w):o.wp P a w (j1 aE nt (eH n key) K) Q:=by
 unfold Oper.wp;rw[y];refine h.mono ?_
 rintro e w' ⟨v,r,c,bR,J',rfl,h1,j,p,q⟩
 subst x;exact⟨c,bR,_,J',bC _ _ h1,q.Bl t (λ_=>j) (λh=>by grind) (λ_=>p)⟩
theorem DU(R:Rel aE nt φ S env J n a w)(aG:∀b,key<=b->b<key+16->n b=false){T:cb}(ag:wm P nt ops o=some T)(h:hf P T key env J K):
 if Region.wanted o (yielded ops a.tmps)then o.wp P a w (j1 aE nt (eH n key) K) Q else j1 aE nt (eH n key) K (a.put o.dst undef) w:=by
 obtain⟨h1,E,F,G⟩:=Ug ag;unfold hf at h;split at h
 . grind
 . rename_i g aq;have aK:=Jz R E aq;rw[aK];have ap:∀{v:V} {s:a'},K (eu env T.dst g v) s->s=J->g=false->j1 aE nt (eH n key) K (a.put o.dst undef) w:=by
    intro v s bC hs aD;subst hs;rw[<-F];exact⟨φ,S,_,_,bC,(R.more λ_ h=>l3 h).Bl G (λh=>by grind) (λ_=>rfl) (λh=>by grind)⟩
   rcases h with⟨aD,v,bC⟩|h
   . grind
   split at h
   ·
    rename_i f args Y;rw[Y]at h1;have az:∃c,o.op= .call c/\c.callee= .value (.func f)/\hj P f=true/\nb c.args.toList=some args:=by
     obtain⟨c,aR,ag⟩:=T8 (zg h1 (by simp));grind[T9]
    obtain⟨c,ab,ad,H,W⟩:=az;split at h
    . rename_i p vs X;have af:∀w':World,(execOp a.eval o).run P w= .ok (.enter f (c.args.toList.map a.eval).toArray) w:=by
       have:=Eu (P:=P) (w:=w) (a:=a) ab ad (f:=f) (caps:=[]) rfl H;grind
      split at h
      . have I:g=true:=(by grind[f']);subst I;obtain⟨k,u⟩:=h;obtain⟨D,O⟩:=q' R W X k;exact Calls.next F G rfl (λ_ _ h=>h) (u aE nt φ S env n a w R aG O _ D) (af w)
      . rcases h with⟨I,k,u⟩|⟨r,u,bC⟩
        . subst I;obtain⟨D,O⟩:=q' R W X k;exact Calls.next F G rfl (λ_ _ h=>h) (u aE nt φ S env n a w R aG O _ D) (af w)
        cases L:g with
        |true=>
         obtain⟨k,u⟩:=u L;obtain⟨D,O⟩:=q' R W X k;refine Calls.next (K2:=λao J'=>ao=r/\J'=J) F G L (λao s aa=>?_) (u aE nt φ S env n a w R aG O _ D) (af w);grind
        |false=>
         grind
    grind
   . rename_i x args Y;rw[Y]at h1;obtain⟨c,ab,ag⟩:=TX (zg h1 (by simp));obtain⟨t,rfl,ad,W⟩:=TY ag;split at h
     . rename_i q f caps p vs M X;obtain⟨A,H,aI,k,u⟩:=h;have I:g=true:=(by grind[f']);subst I;obtain⟨D,O⟩:=q' R W X k;have aL:=cy (x:= .tmp t) R rfl M aI;have aM:=aL.1.eb;have aA:ba (cl φ w S) (caps.map λb=>V.c (.ptr b 0)) (caps.map λb=>Value.pointer (some ⟨(φ b).1,0,none⟩)):=by
        refine ba.lE (by simp) ?_;intro i v x h1 E;simp only[qe,bo]at h1 E;obtain⟨b,aw,rfl⟩:=h1;obtain⟨aQ,ak,rfl⟩:=E;rw[aw]at ak;cases ak;exact .c rfl
       have aB:V.aD.V.dI n (vs++caps.map λb=>V.c (.ptr b 0))=true:=by
        grind[tz,List.getElem?_append_left,nT,List.getElem?_append_right,bo,V.aD,C.aD,List.all_eq_true]
       exact Calls.next F G rfl (λ_ _ h=>h) (u aE nt φ S env n a w R aG aB _ (D.append aA)) (Eu ab ad aM H)
     grind
   . rename_i neg x Y;rw[Y]at h1;obtain⟨U,ty,y,z,aU,e,aH,ay,rfl,al,am,ah⟩:=We (zg h1 (by simp));have aO:∀(b:Bool) (j:Option Addr) (l c:Nat),a.eval y= .slice j l c->j.isNone=b->(execOp a.eval o).run P w= .ok (.value (.bool (if(U== .neq)then !b else b))) w:=by
      intro b j l c m H;subst H;obtain⟨ai,an,aN⟩:∃ai:Value,a.eval z=ai/\ai= .slice none 0 0:=by
       unfold Hr at am;split at am
       . exact⟨_,rfl,rfl⟩
       grind
      subst aN;have ar:(eqGuard U ty y z (a.eval y) (a.eval z)).run P w= .ok () w:=Hb (by grind) (by grind);have aj:(Op.equal ty (.slice j l c) (.slice none 0 0)).run P w= .ok j.isNone w:=by
       obtain⟨d,aC⟩:∃d,Op.maxDepth=d+1:=⟨9999,rfl⟩
       unfold Op.equal;rw[aC];unfold Op.equalIn;cases j with
       |none=>simp only[Sem.run_bind,run_underlying al,Result.andThen_ok];rfl
       |some j=>simp only[Sem.run_bind,run_underlying al,Result.andThen_ok];rfl
      have au:(binOp U ty (a.eval y) (a.eval z)).run P w= .ok (.bool (if(U== .neq)then !j.isNone else j.isNone)) w:=by
       rcases ay with rfl|rfl
       . rw[m,an];simp only[binOp,Sem.run_bind,aj];rfl
       . rw[m,an];simp only[binOp,Sem.run_bind,aj];rfl
      simp[execOp,aH,ar,au]
     have N:∀ (b:Bool) (j:Option Addr) (l c:Nat),o.guard = none->a.eval y = .slice j l c->j.isNone = b->K (eu env T.dst true (sC (if (U == .neq) then !b else b))) J->
      (if g then o.wp P a w (j1 aE nt (eH n key) K) Q else j1 aE nt (eH n key) K (a.put o.dst undef) w):=by
      intro b j l c A m H bC;have I:g=true:=by
       have:Region.wanted o (yielded ops a.tmps)=true:=(by simp[Region.wanted,A]);grind
      rw[ae I];unfold Oper.wp;rw[aO b j l c m H];show j1 aE nt (eH n key) K (a.put o.dst _) w;rw[<-F];exact⟨φ,S,_,_,bC,(R.more λ_ h=>l3 h).Bl G (λ_=>.sB _) (λh=>by cases h) (λ_=>rfl)⟩
     split at h
     . rename_i p es M;obtain⟨A,k,bC⟩:=h;obtain⟨j,cap,sz,b,off,f,m,_,_,_,B,_⟩:=cd.km (cy R ah M k).1.eb;exact N j.isNone j _ _ (Hs E A) m rfl (bC _ λh=>by rw[B h];rfl)
     . rename_i p M;obtain⟨A,k,bC⟩:=h;obtain⟨j,m⟩:=(cy R ah M k).1.eb;exact N j.isNone j _ _ (Hs E A) m rfl (bC _)
     . rename_i p b sz off l M;obtain⟨A,k,bC⟩:=h;obtain⟨j,m,Z,aT⟩:=bn.hd (cy R ah M k).1.eb;exact N j.isNone j _ _ (Hs E A) m rfl (bC _ λh=>by rw[Z (by omega)];rfl)
     . exact h.elim
   . rename_i ab ad aS;split at h
     . rename_i p v J' Z;obtain⟨k,B,bC⟩:=h;cases L:g with
       |true=>
        simp only[b5];obtain⟨x,aP,bR,w',hres,aJ,ax,R'⟩:=Z0 R h1 aG Z (k L);have av:(if T.op.neutral then J else J')=J':=by
         split
         . rename_i aF;exact(y1 aF Z).symm
         . rfl
        rw[av]at bC;have N:j1 aE nt (eH n key) K (a.put o.dst x) w':=by
         rw[<-F];exact⟨aP,bR,_,_,bC,R'.Bl G (λ_=>aJ) (λh=>by rw[L]at h;cases h) (λ_=>ax)⟩
        unfold Oper.wp;rcases hres with hres|⟨hres,rfl⟩
        . rw[hres];exact N
        . rw[hres];exact N
       |false=>
        simp only[bZ,b9];rcases B with B|B
        . rw[ae B]at bC;exact ap bC rfl L
        . rw[L]at B;cases B
     . exact h.elim
end
def lt(N:Nat):Nat->Bool:=λb=>decide (b<N)
theorem Je{N b:Nat}(h:eH (lt N) N b=true):lt (N+16) b=true:=by
 simp only[eH,lt,iv,dO,cC]at*;omega
theorem H2{N b:Nat}(h:N<=b):lt N b=false:=by simp[lt];omega
theorem Nu{N M b:Nat}(h:N<=M)(a:lt N b=true):lt M b=true:=by simp only[lt,dO]at*;omega
section
variable {P:Program}{aE:Ctx}{nt kk:Nat}{φ:dE}{S:dT}{env:Env}{J:a'}{N:Nat}{a:Act}{w:World}
theorem LV{ops:Array Oper}{Q:Exit->Act->World->Prop}{K:Env->a'->Nat->Prop}:∀{l:List Oper} {bb:List cb} {k N:Nat} {env:Env} {J:a'} {φ:dE} {S:dT} {a:Act} {w:World},jt P nt ops l=some bb->(∀i:Nat,i<l.length->l[i]?=ops[k+i]?)->
 Rel aE nt φ S env J (lt N) a w->kt P bb N env J (λe s=>K e s (N+16*bb.length))->(∀φ S e s N a w,K e s N->Rel aE nt φ S e s (lt N) a w->Q .normal a w)->wpOps P ops Q (List.range' k l.length) a w
 |[],bb,k,N,env,J,φ,S,a,w,ag,g,R,h,f=>by
  simp[jt]at ag;subst ag;simp only[h6,List.range'_zero,wpOps];exact f _ _ _ _ _ _ _ h R
 |o::l,bb,k,N,env,J,φ,S,a,w,ag,g,R,h,f=>by
  simp only[jt,br,bo]at ag;obtain⟨q,j,c,m,rfl⟩:=ag;have n:ops[k]?=some o:=by have:=g 0 (by simp);simpa using this.symm
  rw[gi,F2,wpOps_cons];unfold wpOp;rw[n];simp only;have hs:=DU R (λb h1 _=>H2 h1) j (K:=λe s=>kt P c (N+16) e s λe s=>K e s (N+16*(c.length+1))) (by simp only[kt,gi]at h;exact h) (Q:=Q);have next:∀d w',j1 aE nt (eH (lt N) N) (λe s=>kt P c (N+16) e s λe s=>K e s (N+16*(c.length+1))) d w'->wpOps P ops Q (List.range' (k+1) l.length) d w':=by
   rintro d w' ⟨r,bR,e,s,bC,R'⟩
   refine LV (k:=k+1) (N:=N+16) m (λi aC=>?_) (R'.more λ_ h=>Je h) (K:=K) ?_ f
   . have:=g (i+1) (by simp;omega);grind
   grind
  split at hs
  . rename_i p;rw[ae p];exact .inl (Oper.wp_mono next hs)
  grind
def Ui(P:Program)(nt kk:Nat)(c:Code)(env:Env)(J:a')(N:Nat)(Q:Exit->Env->a'->Nat->Prop):Prop:=
 ∀aE φ S a w,aE.k=kk->Rel aE nt φ S env J (lt N) a w->c.wp P (λe b w'=>∃d bR env' J' N',Q e env' J' N'/\Rel aE nt d bR env' J' (lt N') b w') a w
def cq(P:Program)(nt kk:Nat)(c:dA)(env:Env)(J:a')(N:Nat)(Q:Exit->Env->a'->Nat->Prop):Prop:=
 ∀code,resolve P nt code=some c->Ui P nt kk code env J N Q
variable {Q nr:Exit->Env->a'->Nat->Prop}
theorem cq.mono{c:dA}(h:cq P nt kk c env J N Q)(p:∀e env J N,Q e env J N->nr e env J N):cq P nt kk c env J N nr:=
 λcode j aE φ S a w o R=>wp_mono (h code j aE φ S a w o R) λe a w ⟨q,bR,env',J',N',h1,f⟩=>⟨q,bR,env',J',N',p _ _ _ _ h1,f⟩
theorem cq.skip(h:Q .normal env J N):cq P nt kk .skip env J N Q:=by
 intro code c aE φ S a w e R;cases code<;>simp only[resolve,br,bo,reduceCtorEq,kh,oy]at c<;>(try (first|(cases c;done)|(obtain⟨l,_,c⟩:=c;(repeat' split at c)<;>cases c;done)))
 exact wp_skip ⟨φ,S,env,J,N,h,R⟩
theorem cq.ret(h:Q .ret env J N):cq P nt kk .ret env J N Q:=by
 intro code c aE φ S a w e R;cases code<;>simp only[resolve,br,bo,reduceCtorEq,kh,oy]at c<;>(try (first|(cases c;done)|(obtain⟨l,_,c⟩:=c;(repeat' split at c)<;>cases c;done)))
 exact wp_ret ⟨φ,S,env,J,N,h,R⟩
theorem cq.exit(h:Q (.exit id) env J N):cq P nt kk (.exit id) env J N Q:=by
 intro code c aE φ S a w e R;cases code<;>simp only[resolve,br,bo,reduceCtorEq,kh,oy]at c<;>(try (first|(cases c;done)|(obtain⟨l,_,c⟩:=c;(repeat' split at c)<;>cases c;done)))
 cases c;exact wp_exit ⟨φ,S,env,J,N,h,R⟩
def andThen(next:Env->a'->Nat->Prop)(Q:Exit->Env->a'->Nat->Prop):Exit->Env->a'->Nat->Prop
 |.normal,env,J,N=>next env J N
 |e,env,J,N=>Q e env J N
theorem Zx{x y:dA}(h:resolve P nt code=some (.seq x y)):∃a b,code= .seq a b/\resolve P nt a=some x/\resolve P nt b=some y:=by
 cases code with
 |seq a b=>
  simp only[resolve,br,bo]at h;grind
 |region id ops c=>
  simp only[resolve,br]at h;grind
 |_=>simp[resolve,br,bo]at h
theorem Ye{c:aQ}{x y:dA}(h:resolve P nt code=some (.cond c x y)):∃o a b,code= .cond o a b/\bM o=some c/\resolve P nt a=some x/\resolve P nt b=some y:=by
 cases code with
 |cond o a b=>
  simp only[resolve,br,bo]at h;grind
 |region id ops d=>
  simp only[resolve,br]at h;grind
 |_=>simp[resolve,br,bo]at h
theorem Yz{x:dA}(h:resolve P nt code=some (.block id x)):∃b,code= .block id b/\resolve P nt b=some x:=by
 cases code with
 |block i b=>
  simp only[resolve,bo]at h;grind
 |region id ops a=>
  simp only[resolve,br]at h;grind
 |_=>simp[resolve,br,bo]at h
theorem Yf{x:dA}(h:resolve P nt code=some (.loop x)):∃b,code= .loop b/\resolve P nt b=some x:=by
 cases code with
 |loop b=>
  simp only[resolve,bo]at h;grind
 |region id ops a=>
  simp only[resolve,br]at h;grind
 |_=>simp[resolve,br,bo]at h
theorem TI(h:resolve P nt code=some (.region bb)):∃id ops,code= .region id ops false/\jt P nt ops ops.toList=some bb:=by
 cases code with
 |region id ops b=>
  simp only[resolve,br]at h;obtain⟨l,af,h⟩:=h;split at h
  . grind
  . rename_i a;cases h;simp at a;subst a;grind
 |_=>simp[resolve,br,bo]at h
theorem Tx(h:resolve P nt code=some (.oA bb gg)):
 ∃id ops,code= .region id ops true/\jt P nt ops ops.toList=some bb/\tm (ft ops bb)=true/\P.follows .mixedOrders=true/\gg=sF (ft ops bb):=by
 cases code with
 |region id ops c=>
  simp only[resolve,br]at h;obtain⟨l,af,h⟩:=h;split at h
  . rename_i b;split at h
    . rename_i a;cases h;subst b;simp only[cC]at a;exact⟨id,ops,rfl,af,a.1,a.2,rfl⟩
    . cases h
  . cases h
 |_=>simp[resolve,br,bo]at h
theorem cq.seq{x y:dA}(h:cq P nt kk x env J N (andThen (λenv J N=>cq P nt kk y env J N Q) Q)):cq P nt kk (.seq x y) env J N Q:=by
 intro code p aE φ S a w c R;obtain⟨v,A,rfl,q,t⟩:=Zx p;refine wp_seq (wp_mono (h _ q aE φ S a w c R) ?_)
 rintro e o w' ⟨j,bR,env',J',N',f,R'⟩
 cases e with
 |normal=>exact f _ t aE j bR o w' c R'
 |_=>exact⟨j,bR,env',J',N',f,R'⟩
theorem cq.cond{c:aQ}{x y:dA}{p:Prop}{b:Bool}(j:c.get env=some (p,sC b))(v:p)(A:b=true->cq P nt kk x env J N Q)(D:b=false->cq P nt kk y env J N Q):cq P nt kk (.cond c x y) env J N Q:=by
 intro code q aE φ S a w e R;obtain⟨o,F,G,rfl,t,B,E⟩:=Ye q;have f:=(cy R t j v).1.jq;refine wp_cond f ?_;cases b with
 |true=>exact A rfl _ B aE φ S a w e R
 |false=>exact D rfl _ E aE φ S a w e R
def inBlock(id:Nat)(Q:Exit->Env->a'->Nat->Prop):Exit->Env->a'->Nat->Prop
 |.exit i,env,J,N=>if i=id then Q .normal env J N else Q (.exit i) env J N
 |e,env,J,N=>Q e env J N
theorem cq.block{id:Nat}{x:dA}(h:cq P nt kk x env J N (inBlock id Q)):cq P nt kk (.block id x) env J N Q:=by
 intro code j aE φ S a w o R;obtain⟨b,rfl,f⟩:=Yz j;refine wp_block (wp_mono (h _ f aE φ S a w o R) ?_)
 rintro e q w' ⟨p,bR,env',J',N',c,R'⟩
 cases e with
 |exit i=>
  simp only[inBlock]at c;simp only[Exit.inBlock];grind
 |_=>exact⟨p,bR,env',J',N',c,R'⟩
theorem cq.region{bb:List cb}(h:kt P bb N env J (λe s=>Q .normal e s (N+16*bb.length))):cq P nt kk (.region bb) env J N Q:=by
 intro code j aE φ S a w q R;obtain⟨id,ops,rfl,ag⟩:=TI j;refine wp_region ?_;have:=LV (P:=P) (ops:=ops) (K:=λe s N=>Q .normal e s N) (Q:=λe c w'=>∃o bR env' J' N',Q e env' J' N'/\Rel aE nt o bR env' J' (lt N') c w') (k:=0) ag (λi p=>by simp) R h
  (λφ S e s N a w bC f=>⟨φ,S,e,s,N,bC,f⟩)
 rw[List.range_eq_range'];omega
end
def pos:a8->Nat->Option Nat
 |[],_=>none
 |x::r,b=>if x=b then some 0 else(pos r b).map (· +1)
theorem od:∀{bs:a8} {b i:Nat},pos bs b=some i->bs[i]?=some b
 |[],b,i,h=>by simp[pos]at h
 |x::r,b,i,h=>by
  unfold pos at h;split at h
  . grind
  . simp only[bo]at h;obtain⟨j,a,rfl⟩:=h;simpa using od a
def pS(bs:a8):a8->Option a8
 |[]=>some []
 |c::r=>match pos bs c,pS bs r with
  |some i,some l=>some (i::l)
  |_,_=>none
def C.bO(bs:a8):C->C
 |.t x=>.t x
 |.ptr b o=>match pos bs b with|some i=>.ptr i o|none=>.dead
 |.cG b sz i o=>match pos bs b with|some j=>.cG j sz i o|none=>.dead
 |.dN ts o=>.dN ts o
 |.arr b sz off len=>match pos bs b with|some i=>.arr i sz off len|none=>.dead
 |.fJ b sz off len=>match pos bs b with|some i=>.fJ i sz off len|none=>.dead
 |.mp b=>match pos bs b with|some i=>.mp i|none=>.dead
 |.ey b=>match pos bs b with|some i=>.ey i|none=>.dead
 |.cM b len=>match pos bs b with|some i=>.cM i len|none=>.dead
 |.az=>.az
 |.e9=>.e9
 |.e7=>.e7
 |.fn f caps=>match pS bs caps with|some l=>.fn f l|none=>.dead
 |.dead=>.dead
def V.bO(bs:a8):V->V
 |.c x=>.c (x.bO bs)
 |.agg cs=>.agg (cs.map (C.bO bs))
 |.aY vs=>.aY (go bs vs)
where go (bs:a8):List V->List V
 |[]=>[]
 |v::vs=>v.bO bs::go bs vs
def bP.bO(bs:a8):bP->bP
 |.box cs=>.box (cs.map (C.bO bs))
 |.arr sz es=>.arr sz es
 |.set ks=>.set ks
 |.buf E s=>.buf E s
 |.b7 E c=>.b7 E (c.bO bs)
 |.cA sz es i o c=>.cA sz es i o (c.bO bs)
def oe(bs:a8)(env:Env):a8->Env
 |[]=>[]
 |k::ks=>match look env k with
  |some (g,v)=>(k,g,v.bO bs)::oe bs env ks
  |none=>oe bs env ks
def fI(bs:a8)(J:a'):Nat->a8->a'
 |_,[]=>[]
 |i,b::r=>match aX J b with
  |some x=>(i,x.bO bs)::fI bs J (i+1) r
  |none=>fI bs J (i+1) r
def keeps(k:Nat)(bs:a8):Bool:=(List.range k).all λi=>bs[i]?==some i
section
variable {P:Program}{aE:Ctx}{nt kk:Nat}{φ:dE}{S:dT}{env:Env}{J:a'}{N:Nat}{n:Nat->Bool}{a:Act}{w:World}
theorem Ht:∀{bs caps l:a8},pS bs caps=some l->caps.length=l.length/\∀(i b j:Nat),caps[i]?=some b->l[i]?=some j->bs[j]?=some b
 |bs,[],l,h=>by simp[pS]at h;subst h;simp
 |bs,c::r,l,h=>by
  unfold pS at h;split at h
  . rename_i j k f af;cases h;obtain⟨h1,e⟩:=Ht af;refine⟨by simp[h1],?_⟩;intro i b g a d;cases i with
    |zero=>simp at a d;subst a;subst d;exact od f
    |succ i=>exact e i b g (by simpa using a) (by simpa using d)
  . cases h
theorem bn.bO{x:dE}(p:∀(i:Nat) b,bs[i]?=some b->x i=φ b){c:C}{v:Value}(h:bn φ w S c v):bn x w S (c.bO bs) v:=by
 have e:=bn.ji h;cases c with
 |ptr b o=>
  simp only[C.bO];split
  . rename_i i a;simp only[bn,p i b (od a)];exact h
  . exact e
 |cG b sz i o=>
  simp only[C.bO];split
  . rename_i j A;simp only[bn,p j b (od A)];exact h
  . exact e
 |arr b sz off len=>
  simp only[C.bO];split
  . rename_i i a;simp only[bn,p i b (od a)];exact h
  . exact e
 |fJ b sz off len=>
  simp only[C.bO];split
  . rename_i i a;simp only[bn,p i b (od a)];exact h
  . exact e
 |mp b=>
  simp only[C.bO];split
  . rename_i i a;simp only[bn,p i b (od a)];exact h
  . exact e
 |ey b=>
  simp only[C.bO];split
  . rename_i i a;simp only[bn,p i b (od a)];exact h
  . exact e
 |cM b len=>
  simp only[C.bO];split
  . rename_i i a;simp only[bn,p i b (od a)];exact h
  . exact e
 |fn f caps=>
  simp only[C.bO];split
  . rename_i l af;obtain⟨h1,y⟩:=Ht af;simp only[bn]at h⊢;rw[h]
    congr 2
    apply B8 (by simp[h1]);intro i q t;simp at q t;simp only[List.getElem_map];rw[p _ _ (y i _ _ (e' q) (e' t))]
  . exact e
 |_=>exact h
theorem Df:∀{vs:List V} {i:Nat},(V.bO.go bs vs)[i]?=(vs[i]?).map (V.bO bs)
 |[],i=>by simp[V.bO.go]
 |v::vs,0=>by simp[V.bO.go]
 |v::vs,i+1=>by simp[V.bO.go,Df]
theorem CO:∀{vs:List V},(V.bO.go bs vs).length=vs.length
 |[]=>rfl
 |v::vs=>by simp[V.bO.go,CO]
theorem ba.qa{c e:Type}{R:α->c->Prop}{R':e->c->Prop}{f:α->e}{l:List α}{m:List c}(h:ba R l m)(k:∀a b,R a b->R' (f a) b):ba R' (l.map f) m:=by
 induction h with
 |nil=>exact .nil
 |cons j _ ih=>exact .cons (k _ _ j) ih
theorem cl.bO{e:dE}(a:∀(i:Nat) b,bs[i]?=some b->e i=φ b){v:V}(h:cl φ w S v x):cl e w S (v.bO bs) x:=by
 induction h with
 |c h=>exact .c (bn.bO a h)
 |agg h=>exact .agg (h.qa λ_ _=>bn.bO a)
 |aY vs xs af h ih=>
  refine .aY _ xs (by rw[CO];exact af) ?_;intro i v x f j;rw[Df,bo]at f;grind
theorem uc{b i:Nat}(h:pos bs b=some i):i<bs.length:=(ds.1 (od h)).1
theorem C.jY(c:C):(c.bO bs).aD (lt bs.length)=true:=by
 cases c with
 |ptr b o=>simp only[C.bO];split<;>simp[C.aD,lt];rename_i h;exact uc h
 |cG b sz i o=>simp only[C.bO];split<;>simp[C.aD,lt];rename_i h;exact uc h
 |arr b sz off len=>simp only[C.bO];split<;>simp[C.aD,lt];rename_i h;exact uc h
 |fJ b sz off len=>simp only[C.bO];split<;>simp[C.aD,lt];rename_i h;exact uc h
 |mp b=>simp only[C.bO];split<;>simp[C.aD,lt];rename_i h;exact uc h
 |ey b=>simp only[C.bO];split<;>simp[C.aD,lt];rename_i h;exact uc h
 |cM b len=>simp only[C.bO];split<;>simp[C.aD,lt];rename_i h;exact uc h
 |fn f caps=>
  simp only[C.bO];split
  . rename_i l af;obtain⟨h1,a⟩:=Ht af;simp only[C.aD,dH,lt,dO];intro j p;obtain⟨i,e,rfl⟩:=e3 p;exact(ds.1 (a i _ _ (e' (by omega)) (e' e))).1
  . rfl
 |_=>rfl
theorem V.jY{bs:a8}:∀(v:V),(v.bO bs).aD (lt bs.length)=true
 |.c x=>by simp only[V.bO,V.aD];exact C.jY x
 |.agg cs=>by simp only[V.bO,V.aD,qh,dH];intro c _;exact C.jY c
 |.aY vs=>by simp only[V.bO,V.aD];exact go vs
where go:∀vs,V.aD.V.dI (lt bs.length) (V.bO.go bs vs)=true
 |[]=>rfl
 |v::vs=>by simp only[V.bO.go,V.aD.V.dI,cC];exact⟨V.jY v,go vs⟩
theorem zW:∀{ks:a8} {k:Nat} {g:Bool} {v:V},look (oe bs env ks) k=some (g,v)->∃v0,look env k=some (g,v0)/\v=v0.bO bs
 |[],k,g,v,h=>by simp[oe,look]at h
 |x::ks,k,g,v,h=>by
  unfold oe at h;split at h
  . rename_i a b af;unfold look at h;split at h
    . grind
    . exact zW h
  . exact zW h
theorem pJ:∀{r:a8} {i:Nat} {b:Nat} {x:bP},aX (fI bs J i r) b=some x->∃j c g,b=i+j/\r[j]?=some c/\aX J c=some g/\x=g.bO bs
 |[],i,b,x,h=>by simp[fI,aX]at h
 |c::r,i,b,x,h=>by
  unfold fI at h;split at h
  . rename_i g l;unfold aX at h;split at h
    . simp_all
    . obtain⟨j,a,k,h1,d,e,f⟩:=pJ h;exact⟨j+1,a,k,by omega,by simpa using d,e,f⟩
  . obtain⟨j,a,k,h1,d,e,f⟩:=pJ h;exact⟨j+1,a,k,by omega,by simpa using d,e,f⟩
theorem c1.bO{q:dE}(a:∀(i:Nat) b,bs[i]?=some b->q i=φ b){i b:Nat}(e:bs[i]?=some b){x:bP}(h:c1 φ w S b x):c1 q w S i (x.bO bs):=by
 cases x with
 |box cs=>
  obtain⟨h0,vs,E,h1,f,j⟩:=h;simp only[bP.bO,c1,a i b e];exact⟨h0,vs,E,h1,f.qa λ_ _=>bn.bO a,j⟩
 |arr sz es=>simp only[bP.bO,c1,a i b e];exact h
 |set ks=>simp only[bP.bO,c1,a i b e];exact h
 |buf E s=>simp only[bP.bO,c1,a i b e];exact h
 |b7 E c=>
  obtain⟨h0,⟨p,v,h1,f,j⟩,t⟩:=h;simp only[bP.bO,c1,a i b e];exact⟨h0,⟨p,v,h1,f,bn.bO a j⟩,t⟩
 |cA sz es i o c=>
  obtain⟨h1,⟨vs,E,k1,k2,k3,v,k4,k5⟩,k6⟩:=h;simp only[bP.bO,c1,a _ b e];exact⟨h1,⟨vs,E,k1,k2,k3,v,k4,bn.bO a k5⟩,k6⟩
theorem Rel.tidy(R:Rel aE nt φ S env J (lt N) a w)(ks bs:a8)(bS:bs.Nodup)(O:keeps aE.k bs=true):
 ∃X,Rel aE nt X S (oe bs env ks) (fI bs J 0 bs) (lt bs.length) a w:=by
 have K:∀(i:Nat) b,bs[i]?=some b->(λi=>φ ((bs[i]?).getD 0)) i=φ b:=by intro i b h;simp[h]
 have G:∀i:Nat,i<aE.k->bs[i]?=some i:=by
  intro i Z;simp only[keeps,dH,List.mem_range,jh]at O;grind
 refine⟨λi=>φ ((bs[i]?).getD 0),⟨⟨λb x f=>?_,λb Y x y f Q P h0 D=>?_,R.bQ.st⟩,λk g v af aq=>?_,λk g v af aq=>?_,λk g v af aq=>?_,λb x f=>?_,R.size,R.defers,R.ext,λb x f h0=>?_,λb A=>?_,λb A=>?_⟩⟩
 . obtain⟨j,c,q,rfl,p,t,rfl⟩:=pJ f;rw[hR];exact c1.bO K p (R.bQ.blk c q t)
 . obtain⟨j,c,q,rfl,p,t,rfl⟩:=pJ f;obtain⟨B,L,W,rfl,F,M,rfl⟩:=pJ Q;simp only[hR,p,F,qf]at h0 D⊢;refine R.bQ.inj c L q W t M ?_ h0 D;intro e;subst e;have U:=(ds.1 p)
   have l2:=(ds.1 F)
   obtain⟨a1,b1⟩:=U;obtain⟨a2,b2⟩:=l2;have H:=rW.1 bS;rcases FZ j B with h|h|h
   . exact H j B a1 a2 h (b1.trans b2.symm)
   . subst h;exact P rfl
   . exact H B j a2 a1 h (b2.trans b1.symm)
 . obtain⟨v0,h1,rfl⟩:=zW af;obtain⟨x,f,ag⟩:=R.gK k g v0 h1 aq;exact⟨x,f,cl.bO K ag⟩
 . obtain⟨v0,h1,rfl⟩:=zW af;exact R.hM k g v0 h1 aq
 . obtain⟨v0,h1,rfl⟩:=zW af;exact V.jY v0
 . obtain⟨j,c,q,rfl,p,t,rfl⟩:=pJ f;refine⟨by simp[lt];exact(ds.1 p).1,?_⟩;cases q with
   |box cs=>simp only[bP.bO,bP.aD,qh,dH];intro c _;exact C.jY c
   |arr sz es=>rfl
   |set ks=>rfl
   |buf E s=>rfl
   |b7 E c=>exact C.jY c
   |cA sz es i o c=>exact C.jY c
 . obtain⟨j,c,q,rfl,p,t,rfl⟩:=pJ f;simp only[hR,p,qf]at h0⊢;exact R.own c q t h0
 . simp only[G b A,qf];exact R.fix b A
 . simp only[lt,dO];exact(ds.1 (G b A)).1
theorem cq.tidy{c:dA}{Q:Exit->Env->a'->Nat->Prop}(ks bs:a8)(bS:bs.Nodup)(f:keeps kk bs=true)(h:cq P nt kk c (oe bs env ks) (fI bs J 0 bs) bs.length Q):cq P nt kk c env J N Q:=by
 intro code e aE φ S a w j R;subst j;obtain⟨o,R'⟩:=R.tidy ks bs bS f;exact h code e aE o S a w rfl R'
end
def cut(es:List (List T))(off len:Nat):List (List T):=if off=0/\len=es.length then es else(es.drop off).take len
def C.cp(b0 a:Nat)(es:List (List T)):C->C
 |.arr b sz off len=>if b=b0 then(if sz=a/\off+len<=es.length then .t (.slice (cut es off len))else .dead)else .arr b sz off len
 |.cG b sz i o=>if b=b0 then .dead else .cG b sz i o
 |c=>c
def V.cp(b0 a:Nat)(es:List (List T)):V->V
 |.c x=>.c (x.cp b0 a es)
 |.agg cs=>.agg (cs.map (C.cp b0 a es))
 |.aY vs=>.aY (go b0 a es vs)
where go (b0 a:Nat) (es:List (List T)):List V->List V
 |[]=>[]
 |v::vs=>v.cp b0 a es::go b0 a es vs
def bP.cp(b0 a:Nat)(es:List (List T)):bP->bP
 |.box cs=>.box (cs.map (C.cp b0 a es))
 |.arr sz l=>.arr sz l
 |.set ks=>.set ks
 |.buf E s=>.buf E s
 |.b7 E c=>.b7 E (c.cp b0 a es)
 |.cA sz l i o c=>.cA sz l i o (c.cp b0 a es)
def rO(b0 a:Nat)(es:List (List T)):Env->Env
 |[]=>[]
 |(k,g,v)::r=>(k,g,v.cp b0 a es)::rO b0 a es r
def mZ(b0 a:Nat)(es:List (List T)):a'->a'
 |[]=>[]
 |(k,x)::r=>if k=b0 then mZ b0 a es r else(k,x.cp b0 a es)::mZ b0 a es r
variable{vs:List V}
section
variable {P:Program}{aE:Ctx}{nt kk:Nat}{φ:dE}{S:dT}{env:Env}{J:a'}{N:Nat}{n:Nat->Bool}{a:Act}{w:World}
theorem Ag{a:Nat}:∀{env:Env} {k:Nat},look (rO b0 a es env) k=(look env k).map λx=>(x.1,x.2.cp b0 a es)
 |[],k=>rfl
 |(i,g,v)::r,k=>by
  simp[rO,look];split
  . rfl
  . exact Ag
theorem Ev{b:Nat}:∀{J:a'} {k:Nat},aX (mZ b0 b es J) k=if k=b0 then none else(aX J k).map (bP.cp b0 b es)
 |[],k=>by simp[mZ,aX]
 |(i,x)::r,k=>by
  simp[mZ,aX];by_cases h:i=b0
  . rw[ae h,Ev];grind
  . rw[al h];simp[aX];by_cases a:i=k
    . grind
    . rw[al a,al a,Ev]
def wM(S:dT)(q:Nat×Nat):dT:=λb j=>S b j\/(q.2≠0/\b=q.1)
theorem adw{len:Nat}{e:List T}(h:e∈cut es off len):e∈es:=by
 grind[cut]
theorem adx{len i:Nat}{e:List T}(a:off+len<=es.length)(h:(cut es off len)[i]?=some e):es[off+i]?=some e/\i<len:=by
 grind[cut]
theorem Z1{len:Nat}(a:off+len<=es.length):(cut es off len).length=len:=by
 grind[cut]
theorem bn.cp{b0 x:Nat}{es:List (List T)}(dy:c1 φ w S b0 (.arr x es)){c:C}{v:Value}(h:bn φ w S c v):bn φ w (wM S (φ b0)) (c.cp b0 x es) v:=by
 have m:gx w S w (wM S (φ b0)):=⟨λ_ _ h=>.inl h,λ_ _ _=>rfl⟩
 have q:=bn.ji h;cases c with
 |arr b sz off len=>
  simp[C.cp];by_cases f:b=b0
  . subst f;rw[ae rfl];split
    . rename_i B;obtain⟨rfl,p⟩:=B;obtain⟨h1,J,y,K,bc⟩:=dy;obtain⟨a,rfl,A,M⟩:=bn.hd h;have af:=Z1 p;have aM:Value.slice a len ((φ b).2-off)=Value.slice a (cut es off len).length ((φ b).2-off):=(by grind);rw[aM];by_cases h0:(φ b).2=0
      . have:cut es off len=[]:=jx (by omega);rw[this];exact cd.slice [] _ _ 0 0 0 (λ_ _=>undef) (by simp) (by simp) (by simp) (by simp) (by simp) (by simp)
      . obtain⟨vs,E,aa,N,ag,hs⟩:=bc h0;refine cd.slice _ _ _ sz _ _ (λi j=>(vs.getD ((off+i)*sz+j) undef)) (by omega) (by omega) (λe he=>y e (adw he)) (λ_=>A h0) ?_ ?_
        . intro i j F L;refine⟨.inr ⟨h0,rfl⟩,?_⟩;rw[js aa];have aC:(off+i)*sz+j<vs.length:=by
           have:=eY sz (show off+i+1<=(φ b).2 by omega);grind
          grind
        . intro i j e t he ht;obtain⟨D,F⟩:=adx p he;obtain⟨v,H,G⟩:=ag _ _ _ _ D ht;simp[List.getD,H];exact cd.mono m G
    . exact q
  . rw[al f];exact bn.mono m (λ_ _=>rfl) (C.my _) h
 |cG b sz i o=>
  simp[C.cp];split
  . exact q
  . exact h
 |_=>exact bn.mono m (λ_ _=>rfl) (C.my _) h
theorem Hu{a:Nat}:∀{vs:List V} {i:Nat},(V.cp.go b0 a es vs)[i]?=(vs[i]?).map (V.cp b0 a es)
 |[],i=>by rfl
 |v::vs,0=>by rfl
 |v::vs,i+1=>by simp[V.cp.go,Hu]
theorem Gs{a:Nat}:∀{vs:List V},(V.cp.go b0 a es vs).length=vs.length
 |[]=>rfl
 |v::vs=>by simp[V.cp.go,Gs]
theorem cl.cp{a:Nat}(dy:c1 φ w S b0 (.arr a es)){v:V}(h:cl φ w S v x):cl φ w (wM S (φ b0)) (v.cp b0 a es) x:=by
 induction h with
 |c h=>exact .c (bn.cp dy h)
 |agg h=>exact .agg (h.qa λ_ _=>bn.cp dy)
 |aY vs xs af h ih=>
  refine .aY _ xs (by grind[Gs]) ?_;grind[Hu]
theorem C.qF{a:Nat}{c:C}(h:c.aD n=true):(c.cp b0 a es).aD n=true:=by
 cases c with
 |arr b sz off len=>simp[C.cp];split;split;rfl;rfl;grind
 |cG b sz i o=>simp[C.cp];split;rfl;grind
 |_=>exact h
theorem V.qF{b0 a:Nat}{es:List (List T)}:∀{v:V},v.aD n=true->(v.cp b0 a es).aD n=true
 |.c x,h=>by grind[V.cp,V.aD,C.qF]
 |.agg cs,h=>by grind[V.cp,V.aD,C.qF]
 |.aY vs,h=>by exact go vs h
where go:∀vs,V.aD.V.dI n vs=true->V.aD.V.dI n (V.cp.go b0 a es vs)=true
 |[],_=>rfl
 |v::vs,h=>by simp[V.cp.go,V.aD.V.dI,cC]at h⊢;exact⟨V.qF h.1,go vs h.2⟩
theorem Rel.freeze(R:Rel aE nt φ S env J n a w){P:Nat}(U:aX J b0=some (.arr P es)):
 Rel aE nt φ (wM S (φ b0)) (rO b0 P es env) (mZ b0 P es J) n a w:=by
 have dy:=R.bQ.blk b0 _ U;have m:gx w S w (wM S (φ b0)):=⟨λ_ _ h=>.inl h,λ_ _ _=>rfl⟩
 have O:∀b x,aX (mZ b0 P es J) b=some x->b≠b0/\∃A,aX J b=some A/\x=A.cp b0 P es:=by
  grind[Ev,bo]
 have N:∀b x,b≠b0->aX J b=some x->(φ b).2≠0->∀j,¬wM S (φ b0) (φ b).1 j:=by
  intro b x F B h0 j f;rcases f with f|⟨L,f⟩
  . exact(R.bQ.blk b x B).qb h0 j f
  . exact R.bQ.inj b b0 x _ B U F h0 L f
 refine⟨⟨λb x B=>?_,λb W x y B am F h0 X=>?_,λb j f=>?_⟩,λk g v af aq=>?_,λk g v af aq=>?_,λk g v af aq=>?_,λb x B=>?_,R.size,R.defers,?_,λb x B h0=>?_,R.fix,R.fS⟩
 . obtain⟨F,A,q,rfl⟩:=O b x B;have D:=R.bQ.blk b A q;cases A with
   |box cs=>
    obtain⟨h0,vs,E,h1,G,H⟩:=D;exact⟨h0,vs,E,h1,G.qa λ_ _=>bn.cp dy,N b _ F q h0⟩
   |arr sz l=>
    obtain⟨h1,G,H,Q,bc⟩:=D;refine⟨h1,G,H,Q,λh0=>?_⟩;grind[cd.mono]
   |set ks=>exact⟨D.1,D.2.1,N b _ F q D.1⟩
   |buf E s=>exact⟨D.1,D.2.1,λh0=>⟨(D.2.2 h0).1,N b _ F q h0⟩⟩
   |b7 E c=>
    obtain⟨h0,⟨p,v,h1,G,H⟩,Q⟩:=D;exact⟨h0,⟨p,v,h1,G,bn.cp dy H⟩,N b _ F q h0⟩
   |cA sz l i o c=>
    obtain⟨⟨h1,G,H,Q,bc,Y⟩,⟨vs,E,k1,k2,k3,v,k4,k5⟩,k6⟩:=D;exact⟨⟨h1,G,H,Q,bc,Y⟩,⟨vs,E,k1,k2,λi j e t he ht aG=>let⟨v,Z,ag⟩:=k3 i j e t he ht aG;⟨v,Z,cd.mono m ag⟩,v,k4,bn.cp dy k5⟩,N b _ F q (by omega)⟩
 . obtain⟨_,A,q,rfl⟩:=O b x B;obtain⟨_,ap,an,rfl⟩:=O W y am;exact R.bQ.inj b W A ap q an F h0 X
 . rcases f with f|⟨L,rfl⟩
   . exact R.bQ.st b j f
   . exact dy.kj L
 . rw[Ag,bo]at af;obtain⟨⟨K,v0⟩,M,he⟩:=af;cases he;obtain⟨x,B,ag⟩:=R.gK k K v0 M aq;grind[cl.cp]
 . rw[Ag,bo]at af;obtain⟨⟨K,v0⟩,M,he⟩:=af;cases he;exact R.hM k K v0 M aq
 . rw[Ag,bo]at af;obtain⟨⟨K,v0⟩,M,he⟩:=af;cases he;exact V.qF (R.gJ k K v0 M aq)
 . obtain⟨_,A,q,rfl⟩:=O b x B;refine⟨(R.dU b A q).1,?_⟩;have:=(R.dU b A q).2;cases A with
   |box cs=>grind[bP.cp,bP.aD,List.all_map,List.all_eq_true,C.qF]
   |arr sz l=>rfl
   |set ks=>rfl
   |buf E s=>rfl
   |b7 E c=>grind[bP.cp,bP.aD,C.qF]
   |cA sz l i o c=>grind[bP.cp,bP.aD,C.qF]
 . refine⟨R.ext.os,R.ext.tape,R.ext.output,R.ext.size,R.ext.block,R.ext.mono.trans m,λb j f=>?_⟩;rcases f with f|⟨L,rfl⟩
   . exact R.ext.r8 b j f
   . rcases R.own b0 _ U L with h|h
     all_goals grind
 . obtain⟨_,A,q,rfl⟩:=O b x B;exact R.own b A q h0
theorem cq.freeze{c:dA}{Q:Exit->Env->a'->Nat->Prop}(b0:Nat){e:Nat}(f:aX J b0=some (.arr e es))(h:cq P nt kk c (rO b0 e es env) (mZ b0 e es J) N Q):cq P nt kk c env J N Q:=by
 intro code j aE φ S a w o R;exact h _ j aE φ _ a w o (R.freeze f)
inductive jk where
 |tmp (t:Nat)
 |cell (t:Nat)(agg:Bool)(n:Nat)
def ie(P:Program):List ResultVar->Option (List jk)
 |[]=>some []
 |.tmp t::r=>(ie P r).map (.tmp t::·)
 |.cell a ty::r=>(tl P ty).bind λg=>(ie P r).map (.cell a g.1 g.2::·)
def ud(env:Env)(J:a'):jk->Option (Prop×V)
 |.tmp t=>(look env t).map λx=>(x.1=true,x.2)
 |.cell t g k=>match look env t with
  |some (a,.c (.ptr b o))=>match aX J b with
   |some (.box cs)=>(jT g k cs o).map λv=>(a=true,v)
   |_=>none
  |_=>none
def pT(env:Env)(J:a'):List jk->Option (Prop×List V)
 |[]=>some (True,[])
 |r::a=>(ud env J r).bind λx=>(pT env J a).map λy=>(x.1/\y.1,x.2::y.2)
def mh:List V->V
 |[v]=>v
 |vs=>.aY vs
def eg(P:Program)(f:Nat)(args:List V)(J:a')(k:Nat)(Q:V->a'->Nat->Prop):Prop:=
 ∀(φ:dE) (S:dT) (w:World) (B:Nat->Prop),qy φ w S J->(∀(b:Nat) x,aX J b=some x->b<k/\x.aD (lt k)=true)->(∀(b:Nat) x,aX J b=some x->(φ b).2≠0->B (φ b).1)->
  V.aD.V.dI (lt k) args=true->∀vs:List Value,ba (cl φ w S) args vs->
  Calls P f vs.toArray w λe w'=>∃v r a bR J' N',e= .returned v/\Q r J' N'/\cl a w' bR r v/\r.aD (lt N')=true/\qy a w' bR J'/\(∀(b:Nat) x,aX J' b=some x->b<N'/\x.aD (lt N')=true)/\Ext B S bR w w'/\
   (∀(b:Nat) x,aX J' b=some x->(a b).2≠0->B (a b).1\/w.heap.size<=(a b).1)/\∀b,b<k->a b=φ b
theorem Ext.refl{B:Nat->Prop}:Ext B S S w w:=⟨rfl,rfl,rfl,dV _,λ_ _ _=>rfl,gx.refl _ _,λ_ _ h=>.inl h⟩
def fR:Nat->List V->Env
 |_,[]=>[]
 |i,v::vs=>(i,true,v)::fR (i+1) vs
theorem Ds:∀{vs:List V} {i k:Nat} {g:Bool} {v:V},look (fR i vs) k=some (g,v)->g=true/\∃j,k=i+j/\vs[j]?=some v
 |[],i,k,g,v,h=>by grind[fR,look]
 |x::vs,i,k,g,v,h=>by
  simp[fR,look]at h;split at h
  . simp_all
  . obtain⟨h1,j,a,b⟩:=Ds h;exact⟨h1,j+1,by omega,by grind⟩
def AV(a:Act):ResultVar->Sem Value
 |.tmp t=>Pure.pure (a.tmps.getD t undef)
 |.cell b ty=>do loadVar ty (<-asAddr (a.tmps.getD b undef))
theorem Z2(fn:Func)(a:Act):results fn a.tmps=(fn.results.mapM (AV a)>>=λvs=>Pure.pure (if h:vs.size=1 then vs[0]else .tuple vs)):=by rfl
theorem Yg(R:Rel aE nt φ S env J n a w){e:ResultVar}{f:jk}(ag:ie P [e]=some [f]){p:Prop}{v:V}(h:ud env J f=some (p,v))(c:p):
 ∃x,(AV a e).run P w= .ok x w/\cl φ w S v x/\v.aD n=true:=by
 cases e with
 |tmp t=>
  simp[ie]at ag;subst ag;simp only[ud,bo]at h;obtain⟨⟨g,v0⟩,af,rfl,rfl⟩:=h;obtain⟨x,k,d⟩:=R.gK t g v0 af c;refine⟨x,?_,d,R.gJ t g v0 af c⟩;simp[AV,k]
 |cell m ty=>
  simp only[ie,br,bo]at ag;obtain⟨g,aq,l,af,he⟩:=ag;simp at af;subst af;simp at he;subst he;simp[ud]at h;split at h
  . rename_i q b o af;split at h
    . rename_i cs i;simp only[bo]at h;obtain⟨v0,s,rfl,rfl⟩:=h;obtain⟨x,k,d⟩:=R.gK m q _ af c;have:=d.hT;obtain⟨_,vs,E,aa,r,_⟩:=R.bQ.blk _ _ i;obtain⟨y,z,h1,u⟩:=tL aq r (R.dU _ _ i).2 (λj _=>by rw[js aa,hR]) s;simp_all[AV,asAddr]
    grind
  grind
theorem JV(R:Rel aE nt φ S env J n a w):∀{c:List ResultVar} {b:List jk} {p:Prop} {vs:List V},ie P c=some b->pT env J b=some (p,vs)->p->
 ∃xs:List Value,(c.mapM (AV a)).run P w= .ok xs w/\ba (cl φ w S) vs xs/\V.aD.V.dI n vs=true
 |[],b,p,vs,ag,h,f=>by
  simp[ie]at ag;subst ag;obtain⟨_,rfl⟩:=h;exact⟨[],by rfl,.nil,rfl⟩
 |g::c,b,p,vs,ag,h,f=>by
  have l:∃d e,b=d::e/\ie P [g]=some [d]/\ie P c=some e:=by
   cases g with
   |tmp t=>
    grind[ie,bo]
   |cell r ty=>
    grind[ie,br,bo]
  obtain⟨d,e,rfl,h1,i⟩:=l;simp only[pT,br,bo]at h;obtain⟨⟨q,v⟩,j,⟨A,B⟩,k,he⟩:=h;obtain⟨rfl,rfl⟩:=he;obtain⟨x,y,m,s⟩:=Yg R h1 j f.1;obtain⟨xs,z,o,u⟩:=JV R i k f.2;refine⟨x::xs,?_,.cons m o,by grind[V.aD.V.dI]⟩;simp_all
theorem cl.mh{xs:List Value}(h:ba (cl φ w S) vs xs):cl φ w S (mh vs) (if h:xs.toArray.size=1 then xs.toArray[0]else .tuple xs.toArray):=by
 cases h with
 |nil=>exact .aY [] [] rfl (by simp)
 |cons h1 a=>
  cases a with
  |nil=>grind[Shv.mh]
  |cons a c=>
   refine .aY _ _ (by simp[c.length]) ?_;intro i v x e f;have:=(ba.cons h1 (.cons a c)).get e;grind
theorem acn(h:V.aD.V.dI n vs=true):(mh vs).aD n=true:=by
 unfold mh;grind[V.aD.V.dI,V.aD]
def EW(a:List jk)(Q:V->a'->Nat->Prop):Exit->Env->a'->Nat->Prop
 |.normal,env,J,N=>∃p vs,pT env J a=some (p,vs)/\p/\Q (mh vs) J N
 |.ret,env,J,N=>∃p vs,pT env J a=some (p,vs)/\p/\Q (mh vs) J N
 |_,_,_,_=>False
theorem eg.F4{fn:Func}{c:dA}{D:List jk}(W:P.funcs[f]?=some fn)(K:fn.body=some code)(U:resolve P fn.ntmps code=some c)(ag:ie P fn.results.toList=some D)
 {args:List V}(aG:args.length<=fn.ntmps){k:Nat}{Q:V->a'->Nat->Prop}(h:cq P fn.ntmps k c (fR 0 args) J k (EW D Q)):eg P f args J k Q:=by
 intro φ S w B am aE Y aC vs L;have af:=L.length;refine calls_of_wp W K ?_;have R:Rel ⟨w,S,B,φ,k⟩ fn.ntmps φ S (fR 0 args) J (lt k) {tmps:=vs.toArray++Array.replicate (fn.ntmps-vs.toArray.size) undef,defers:=[]} w:=by
  refine⟨am,λi g v E aq=>?_,λi g v E aq=>?_,λi g v E aq=>?_,λb x q=>?_,?_,rfl,Ext.refl,λb x q h0=>.inl (Y b x q h0),λ_ _=>rfl,λb K=>by grind[lt]⟩
  . obtain⟨_,j,rfl,X⟩:=Ds E;obtain⟨x,q,ag⟩:=L.get X;grind
  . grind[Ds]
  . grind[Ds,nT]
  . grind[lt]
  grind
 refine wp_mono (h _ U _ φ S _ w rfl R) ?_
 rintro e F w' ⟨ap,bR,env',J',N',a,R'⟩
 have G:(∃ p vs,pT env' J' D = some (p,vs)/\p/\Q (mh vs) J' N')->F.defers = []/\∃ v,(results fn F.tmps).run P w' = .ok v w'/\(∃ M r o A t y,Ending.returned v = .returned M/\Q r t y/\cl o w' A r M/\r.aD (lt y) = true/\qy o w' A t/\(∀ (b:Nat) x,aX t b = some x->b<y/\x.aD (lt y) = true)/\Ext B S A w w'/\
  (∀(b:Nat) x,aX t b=some x->(o b).2≠0->B (o b).1\/w.heap.size<=(o b).1)/\∀b,b<k->o b=φ b):=by
  rintro ⟨p,an,h1,H,N⟩
  obtain⟨xs,aK,Z,O⟩:=JV R' ag h1 H;refine⟨R'.defers,_,?_,_,mh an,ap,bR,J',N',rfl,N,cl.mh Z,acn O,R'.bQ,λb x q=>?_,R'.ext,R'.own,R'.fix⟩
  . simp_all[Array.mapM_eq_mapM_toList,Z2]
  . obtain⟨h1,H⟩:=R'.dU b x q;grind[lt]
 cases e with
 |normal=>exact G a
 |ret=>exact G a
 |exit id=>exact a.elim
 |goto l=>exact a.elim
 |panic ax=>exact a.elim
 |outgrown=>exact a.elim
end
end
open Go
def C.bD(k:Nat):C->C
 |.ptr b o=>.ptr (k+b) o
 |.cG b sz i o=>.cG (k+b) sz i o
 |.arr b sz off len=>.arr (k+b) sz off len
 |.fJ b sz off len=>.fJ (k+b) sz off len
 |.mp b=>.mp (k+b)
 |.ey b=>.ey (k+b)
 |.cM b len=>.cM (k+b) len
 |.fn f caps=>.fn f (caps.map (k+·))
 |c=>c
def V.bD(k:Nat):V->V
 |.c x=>.c (x.bD k)
 |.agg cs=>.agg (cs.map (C.bD k))
 |.aY vs=>.aY (go k vs)
where go (k:Nat):List V->List V
 |[]=>[]
 |v::vs=>v.bD k::go k vs
def bP.bD(k:Nat):bP->bP
 |.box cs=>.box (cs.map (C.bD k))
 |.arr sz es=>.arr sz es
 |.set ks=>.set ks
 |.buf E s=>.buf E s
 |.b7 E c=>.b7 E (c.bD k)
 |.cA sz es i o c=>.cA sz es i o (c.bD k)
def mv(J:a')(k:Nat):a'->a'
 |[]=>J
 |(b,x)::r=>df (mv J k r) (k+b) (x.bD k)
variable{J:a'}{K:V->a'->Prop}{f:Nat}{Q:V->a'->Nat->Prop}
theorem zd{k:Nat}:∀{a:a'} {b:Nat},aX (mv J k a) b=match (if k<=b then aX a (b-k)else none)with|some x=>some (x.bD k)|none=>aX J b
 |[],b=>by simp[mv,aX]
 |(c,x)::r,b=>by
  simp only[mv,c2,zd,aX];grind
section
variable {P:Program}{aE:Ctx}{nt kk:Nat}{φ:dE}{S bR:dT}{env:Env}{J:a'}{N key:Nat}{n:Nat->Bool}{a:Act}{w w':World}
theorem hU.Sy{args:List V}{r:V}(h:eg P f args [] 0 (λj _ _=>j=r))(p:V.aD.V.dI (lt 0) args=true)(ag:r.aD (lt 0)=true)(bC:K r J):hU P f args J key K:=by
 intro aE nt φ S env n a w R aG F vs q;refine(h φ S w (λ_=>False) ⟨λb x c=>by simp[aX]at c,λb t x y c=>by simp[aX]at c,R.bQ.st⟩ (λb x c=>by simp[aX]at c) (λb x c=>by simp[aX]at c) p vs q).mono ?_
 rintro e w' ⟨v,j,G,bR,J',N',rfl,rfl,h1,A,o,B,bc,D,E⟩
 refine⟨v,j,φ,bR,J,rfl,bC,?_,V.hp (λb h=>by simp[lt]at h) ag,(R.extend bc o.st).more λ_ h=>l3 h⟩;exact cl.mono (gx.refl _ _) (n:=lt 0) (λb h=>by simp[lt]at h) ag h1
theorem bn.bD{j:dE}{k:Nat}{n:Nat->Bool}(e:∀b,n b=true->j (k+b)=φ b){c:C}{v:Value}(a:c.aD n=true)(h:bn φ w S c v):bn j w S (c.bD k) v:=by
 cases c with
 |ptr b o=>simp only[C.aD]at a;simp only[C.bD,bn,e b a];exact h
 |cG b sz i o=>simp only[C.aD]at a;simp only[C.bD,bn,e b a];exact h
 |arr b sz off len=>simp only[C.aD]at a;simp only[C.bD,bn,e b a];exact h
 |fJ b sz off len=>simp only[C.aD]at a;simp only[C.bD,bn,e b a];exact h
 |mp b=>simp only[C.aD]at a;simp only[C.bD,bn,e b a];exact h
 |ey b=>simp only[C.aD]at a;simp only[C.bD,bn,e b a];exact h
 |cM b len=>simp only[C.aD]at a;simp only[C.bD,bn,e b a];exact h
 |fn f caps=>
  simp only[C.aD,dH]at a;simp only[C.bD,bn]at h⊢;simp_all
 |_=>exact h
theorem LW{k:Nat}:∀{vs:List V} {i:Nat},(V.bD.go k vs)[i]?=(vs[i]?).map (V.bD k)
 |[],i=>by simp[V.bD.go]
 |v::vs,0=>by simp[V.bD.go]
 |v::vs,i+1=>by simp[V.bD.go,LW]
theorem JW{k:Nat}:∀{vs:List V},(V.bD.go k vs).length=vs.length
 |[]=>rfl
 |v::vs=>by simp[V.bD.go,JW]
theorem cl.bD{e:dE}{k:Nat}{n:Nat->Bool}(o:∀b,n b=true->e (k+b)=φ b){v:V}{x:Value}(a:v.aD n=true)(h:cl φ w S v x):cl e w S (v.bD k) x:=by
 induction h with
 |c h=>exact .c (bn.bD o (by simpa[V.aD]using a) h)
 | @agg cs vs h=>
  simp only[V.aD,dH]at a;refine .agg ?_;have:=h.imp (R':=λc v=>bn e w S (C.bD k c) v) λc v p ag=>bn.bD o (a c p) ag;exact this.qa λ_ _ h=>h
 |aY vs xs af h ih=>
  refine .aY _ xs (by rw[JW];exact af) ?_;intro i v x f q;rw[LW,bo]at f;obtain⟨v0,j,rfl⟩:=f;exact ih i v0 x j q (nT (by simpa[V.aD]using a) j)
theorem C.r7{m:Nat}(a:m<=16){c:C}(h:c.aD (lt m)=true):(c.bD key).aD (eH n key)=true:=by
 cases c<;>simp only[C.bD,C.aD,lt,eH,dO,iv,cC,dH,e0]at h⊢
 . right;omega
 . right;omega
 . right;omega
 . right;omega
 . right;omega
 . right;omega
 . right;omega
 grind
theorem V.r7{m:Nat}(a:m<=16):∀{v:V},v.aD (lt m)=true->(v.bD key).aD (eH n key)=true
 |.c x,h=>by simp only[V.bD,V.aD]at h⊢;exact C.r7 a h
 |.agg cs,h=>by simp only[V.bD,V.aD,qh,dH]at h⊢;intro c e;exact C.r7 a (h c e)
 |.aY vs,h=>by simp only[V.bD,V.aD]at h⊢;exact go vs h
where go:∀vs,V.aD.V.dI (lt m) vs=true->V.aD.V.dI (eH n key) (V.bD.go key vs)=true
 |[],_=>rfl
 |v::vs,h=>by simp only[V.bD.go,V.aD.V.dI,cC]at h⊢;exact⟨V.r7 a h.1,go vs h.2⟩
theorem hU.ahu{args:List V}(h:eg P f args [] 0 Q)(G:V.aD.V.dI (lt 0) args=true)
 (bC:∀r J' N',Q r J' N'->N'<=16/\K (r.bD key) (mv J key J')):hU P f args J key K:=by
 intro aE nt φ S env n a w R aG be vs a4;refine(h φ S w (λ_=>False) ⟨λb x j=>by simp[aX]at j,λb L x y j=>by simp[aX]at j,R.bQ.st⟩ (λb x j=>by simp[aX]at j) (λb x j=>by simp[aX]at j) G vs a4).mono ?_
 rintro e w' ⟨v,a5,aK,bR,J',N',rfl,a2,h1,an,N,O,bc,a9,bb⟩
 obtain⟨cz,bC⟩:=bC _ _ _ a2;have a0:=R.extend bc N.st;let B:dE:=λb=>if key<=b/\b<key+16 then aK (b-key)else φ b
 have aC:∀b,n b=true->B b=φ b:=by grind
 have D:∀b,lt N' b=true->B (key+b)=aK b:=by
  intro b G;simp only[lt,dO]at G;grind
 have A:=a0.zj aC;have H:∀b x,aX (mv J key J') b=some x->(∃c q,b=key+c/\aX J' c=some q/\x=q.bD key)\/aX J b=some x:=by
  intro b x j;rw[zd]at j;grind
 have Y:∀c q,aX J' c=some q->(B (key+c)).2≠0->w.heap.size<=(B (key+c)).1:=by grind
 have ax:∀b x,aX J b=some x->(B b).2≠0->(B b).1<w.heap.size:=by
  intro b x j h0;rw[aC b (R.dU b x j).1]at h0⊢;exact(R.bQ.blk b x j).kj h0
 refine⟨v,a5.bD key,B,bR,mv J key J',rfl,bC,cl.bD D an h1,V.r7 cz an,⟨⟨λb x j=>?_,λb L x y j W a3 h0 F=>?_,N.st⟩,A.gK,A.hM,λk g v af aq=>V.hp (λ_ h=>l3 h) (A.gJ k g v af aq),λb x j=>?_,A.size,A.defers,A.ext,λb x j h0=>?_,A.fix,λb G=>l3 (A.fS b G)⟩⟩
 . rcases H b x j with⟨c,q,rfl,t,rfl⟩|j
   . have dy:=N.blk c q t;have U:=O c q t;have aM:=D c (by simp[lt];exact U.1);cases q with
     |box cs=>
      obtain⟨Z,vs,E,k1,k2,k3⟩:=dy;simp only[bP.bD,c1,aM];refine⟨Z,vs,E,k1,?_,k3⟩;have ap:=U.2;simp only[bP.aD,dH]at ap;have:=k2.imp (R':=λc v=>bn B w' bR (C.bD key c) v) λc v t ag=>bn.bD D (ap c t) ag;exact this.qa λ_ _ h=>h
     |arr sz es=>simp only[bP.bD,c1,aM];exact dy
     |set ks=>simp only[bP.bD,c1,aM];exact dy
     |buf E s=>simp only[bP.bD,c1,aM];exact dy
     |b7 E c=>
      obtain⟨Z,⟨p,v,k1,k2,k3⟩,k4⟩:=dy;simp only[bP.bD,c1,aM];exact⟨Z,⟨p,v,k1,k2,bn.bD D (by simpa[bP.aD]using U.2) k3⟩,k4⟩
     |cA sz es i o c=>
      obtain⟨h1,⟨vs,E,k1,k2,k3,v,k4,k5⟩,k6⟩:=dy;simp only[bP.bD,c1,aM];exact⟨h1,⟨vs,E,k1,k2,k3,v,k4,bn.bD D (by simpa[bP.aD]using U.2) k5⟩,k6⟩
   . exact A.bQ.blk b x j
 . rcases H b x j with⟨c,q,rfl,t,rfl⟩|j<;>rcases H L y W with⟨M,am,rfl,X,rfl⟩|W
   . have aM:=D c (by simp[lt];exact(O c q t).1);have a1:=D M (by simp[lt];exact(O M am X).1);rw[aM]at h0⊢;rw[a1]at F⊢;exact N.inj c M q am t X (by omega) h0 F
   . have:=Y c q t h0;have:=ax L y W F;omega
   . have:=Y M am X F;have:=ax b x j h0;omega
   . exact A.bQ.inj b L x y j W a3 h0 F
 . rcases H b x j with⟨c,q,rfl,t,rfl⟩|j
   . obtain⟨k1,k2⟩:=O c q t;refine⟨by simp[eH];right;omega,?_⟩;cases q with
     |box cs=>
      simp only[bP.bD,bP.aD,qh,dH]at k2⊢;intro c t;exact C.r7 cz (k2 c t)
     |arr sz es=>rfl
     |set ks=>rfl
     |buf E s=>rfl
     |b7 E c=>simp only[bP.bD,bP.aD]at k2⊢;exact C.r7 cz k2
     |cA sz es i o c=>simp only[bP.bD,bP.aD]at k2⊢;exact C.r7 cz k2
   . obtain⟨k1,k2⟩:=A.dU b x j;exact⟨l3 k1,bP.hp (λ_ h=>l3 h) k2⟩
 . rcases H b x j with⟨c,q,rfl,t,rfl⟩|j
   . exact .inr (gv R.ext.size (Y c q t h0))
   . exact A.own b x j h0
end
theorem eg.mk{P:Program}{fn:Func}{c:dA}{a:List jk}(o:P.funcs[f]?=some fn)(j:fn.body.bind (resolve P fn.ntmps)=some c)(ag:ie P fn.results.toList=some a)
 {args:List V}{nt:Nat}(p:fn.ntmps=nt)(aG:args.length<=nt){k:Nat}{Q:V->a'->Nat->Prop}(h:cq P nt k c (fR 0 args) J k (EW a Q)):eg P f args J k Q:=by
 subst p;obtain⟨code,h1,e⟩:=rX.1 j;exact eg.F4 o h1 e ag aG h
section
open Go
def C.b8(f:Nat->Nat):C->C
 |.ptr b o=>.ptr (f b) o
 |.cG b sz i o=>.cG (f b) sz i o
 |.arr b sz off len=>.arr (f b) sz off len
 |.fJ b sz off len=>.fJ (f b) sz off len
 |.mp b=>.mp (f b)
 |.ey b=>.ey (f b)
 |.cM b len=>.cM (f b) len
 |.fn g caps=>.fn g (caps.map f)
 |c=>c
def V.b8(f:Nat->Nat):V->V
 |.c x=>.c (x.b8 f)
 |.agg cs=>.agg (cs.map (C.b8 f))
 |.aY vs=>.aY (go f vs)
where go (f:Nat->Nat):List V->List V
 |[]=>[]
 |v::vs=>v.b8 f::go f vs
def bP.b8(f:Nat->Nat):bP->bP
 |.box cs=>.box (cs.map (C.b8 f))
 |.arr sz es=>.arr sz es
 |.set ks=>.set ks
 |.buf E s=>.buf E s
 |.b7 E c=>.b7 E (c.b8 f)
 |.cA sz es i o c=>.cA sz es i o (c.b8 f)
def nw(J:a'):a8->a'
 |[]=>J
 |b::r=>h8 (nw J r) b
theorem rh:∀{bs:a8} {b:Nat},aX (nw J bs) b=if b∈bs then none else aX J b
 |[],b=>by simp[nw]
 |c::r,b=>by
  simp only[nw,fP,rh (bs:=r)];grind
def back(bs:a8)(key:Nat)(b:Nat):Nat:=(bs[b]?).getD (key+(b-bs.length))
def ho(J:a')(bs:a8)(f:Nat->Nat):a'->a'
 |[]=>nw J bs
 |(b,x)::r=>df (ho J bs f r) (f b) (x.b8 f)
theorem LX{J:a'}{bs:a8}{f:Nat->Nat}:∀{d:a'} {c:Nat} {x:bP},aX (ho J bs f d) c=some x->(∃b a,c=f b/\aX d b=some a/\x=a.b8 f)\/(c ∉ bs/\aX J c=some x)
 |[],c,x,h=>by
  simp only[ho,rh]at h;grind
 |(b,y)::r,c,x,h=>by
  simp only[ho,c2]at h;split at h
  . rename_i e;cases h;exact .inl ⟨b,y,e.symm,by simp[aX],rfl⟩
  . rename_i e;rcases LX h with⟨g,a,h1,j,i⟩|h
    . refine .inl ⟨g,a,h1,?_,i⟩;simp only[aX];grind
    grind
variable{bs:a8}{Q:V->a'->Nat->Prop}{x:aQ}{o:cP}{p:Prop}{K:Env->a'->Prop}
section
variable {P:Program}{aE:Ctx}{nt kk:Nat}{φ:dE}{S bR:dT}{env:Env}{J:a'}{N key:Nat}{n:Nat->Bool}{a:Act}{w w':World}{f:Nat->Nat}
theorem bn.b8{j:dE}{n:Nat->Bool}(e:∀b,n b=true->j (f b)=φ b){c:C}{v:Value}(a:c.aD n=true)(h:bn φ w S c v):bn j w S (c.b8 f) v:=by
 cases c with
 |ptr b o=>simp only[C.aD]at a;simp only[C.b8,bn,e b a];exact h
 |cG b sz i o=>simp only[C.aD]at a;simp only[C.b8,bn,e b a];exact h
 |arr b sz off len=>simp only[C.aD]at a;simp only[C.b8,bn,e b a];exact h
 |fJ b sz off len=>simp only[C.aD]at a;simp only[C.b8,bn,e b a];exact h
 |mp b=>simp only[C.aD]at a;simp only[C.b8,bn,e b a];exact h
 |ey b=>simp only[C.aD]at a;simp only[C.b8,bn,e b a];exact h
 |cM b len=>simp only[C.aD]at a;simp only[C.b8,bn,e b a];exact h
 |fn g caps=>
  simp only[C.aD,dH]at a;simp only[C.b8,bn]at h⊢;simp_all
 |_=>exact h
theorem Ix:∀{vs:List V} {i:Nat},(V.b8.go f vs)[i]?=(vs[i]?).map (V.b8 f)
 |[],i=>by simp[V.b8.go]
 |v::vs,0=>by simp[V.b8.go]
 |v::vs,i+1=>by simp[V.b8.go,Ix]
theorem HC:∀{vs:List V},(V.b8.go f vs).length=vs.length
 |[]=>rfl
 |v::vs=>by simp[V.b8.go,HC]
theorem cl.b8{e:dE}{n:Nat->Bool}(p:∀b,n b=true->e (f b)=φ b){v:V}{x:Value}(a:v.aD n=true)(h:cl φ w S v x):cl e w S (v.b8 f) x:=by
 induction h with
 |c h=>exact .c (bn.b8 p (by simpa[V.aD]using a) h)
 | @agg cs vs h=>
  simp only[V.aD,dH]at a;refine .agg ?_;have:=h.imp (R':=λc v=>bn e w S (C.b8 f c) v) λc v q ag=>bn.b8 p (a c q) ag;exact this.qa λ_ _ h=>h
 |aY vs xs af h ih=>
  refine .aY _ xs (by rw[HC];exact af) ?_;intro i v x j t;rw[Ix,bo]at j;obtain⟨v0,o,rfl⟩:=j;exact ih i v0 x o t (nT (by simpa[V.aD]using a) o)
theorem C.rS{n m:Nat->Bool}(a:∀b,m b=true->n (f b)=true){c:C}(h:c.aD m=true):(c.b8 f).aD n=true:=by
 cases c<;>simp only[C.b8,C.aD,dH,e0]at h⊢
 . exact a _ h
 . exact a _ h
 . exact a _ h
 . exact a _ h
 . exact a _ h
 . exact a _ h
 . exact a _ h
 grind
theorem V.rS{n m:Nat->Bool}(a:∀b,m b=true->n (f b)=true):∀{v:V},v.aD m=true->(v.b8 f).aD n=true
 |.c x,h=>by simp only[V.b8,V.aD]at h⊢;exact C.rS a h
 |.agg cs,h=>by simp only[V.b8,V.aD,qh,dH]at h⊢;intro c e;exact C.rS a (h c e)
 |.aY vs,h=>by simp only[V.b8,V.aD]at h⊢;exact go vs h
where go:∀vs,V.aD.V.dI m vs=true->V.aD.V.dI n (V.b8.go f vs)=true
 |[],_=>rfl
 |v::vs,h=>by simp only[V.b8.go,V.aD.V.dI,cC]at h⊢;exact⟨V.rS a h.1,go vs h.2⟩
theorem Rel.ag0{B:Nat->Prop}(R:Rel aE nt φ S env J n a w)(e:Ext B S bR w w')(N:∀b j,bR b j->b<w'.heap.size)(M:∀b x,aX J b=some x->(φ b).2≠0->¬B (φ b).1)(dy:∀b,B b->aE.B b\/aE.jC.heap.size<=b):Rel aE nt φ bR env J n a w':=by
 have aa:∀b x,aX J b=some x->(φ b).2≠0->w'.heap[(φ b).1]?=w.heap[(φ b).1]?:=λb x f h0=>e.block _ ((R.bQ.blk b x f).kj h0) (M b x f h0);have D:∀b x,aX J b=some x->(φ b).2≠0->∀j,¬bR (φ b).1 j:=by
  intro b x f h0 j H;have y:=R.bQ.blk b x f;rcases e.r8 _ _ H with h|h|h
  . exact y.qb h0 j h
  . grind
  grind
 refine⟨⟨λb x f=>?_,R.bQ.inj,N⟩,λk g v af aq=>?_,R.hM,R.gJ,R.dU,R.size,R.defers,?_,R.own,R.fix,R.fS⟩
 . have y:=R.bQ.blk b x f;cases x with
   |box cs=>
    obtain⟨h0,vs,E,h1,q,A⟩:=y;refine⟨h0,vs,E,(aa _ _ f h0).trans h1,q.imp λc v O ag=>bn.mono (n:=λ_=>true) e.mono (λ_ _=>rfl) (C.my _) ag,D b _ f h0⟩
   |arr sz es=>
    obtain⟨h1,q,A,F,bc⟩:=y;refine⟨h1,q,A,F,λh0=>?_⟩;obtain⟨vs,E,k1,k2,k3,k4⟩:=bc h0;exact⟨vs,E,(aa _ _ f h0).trans k1,k2,λi j G t he ht=>let⟨v,K,ag⟩:=k3 i j G t he ht;⟨v,K,cd.mono e.mono ag⟩,D b _ f h0⟩
   |set ks=>
    obtain⟨h0,⟨es,c,h1,q⟩,A⟩:=y;exact⟨h0,⟨es,c,(aa _ _ f h0).trans h1,q⟩,D b _ f h0⟩
   |buf E s=>
    obtain⟨h1,q,A⟩:=y;refine⟨h1,q,λh0=>?_⟩;grind
   |b7 E c=>
    obtain⟨h0,⟨p,v,h1,q,A⟩,F⟩:=y;exact⟨h0,⟨p,v,(aa _ _ f h0).trans h1,q,bn.mono (n:=λ_=>true) e.mono (λ_ _=>rfl) (C.my _) A⟩,D b _ f h0⟩
   |cA sz es i o c=>
    obtain⟨⟨h1,q,A,F,bc,L⟩,⟨vs,E,k1,k2,k3,v,k4,k5⟩,k6⟩:=y;exact⟨⟨h1,q,A,F,bc,L⟩,⟨vs,E,(aa _ _ f (by omega)).trans k1,k2,λi j G t he ht aG=>let⟨v,K,ag⟩:=k3 i j G t he ht aG;⟨v,K,cd.mono e.mono ag⟩,v,k4,bn.mono (n:=λ_=>true) e.mono (λ_ _=>rfl) (C.my _) k5⟩,D b _ f (by omega)⟩
 . obtain⟨x,f,ag⟩:=R.gK k g v af aq;exact⟨x,f,cl.mono e.mono (λ_ _=>rfl) (R.gJ k g v af aq) ag⟩
 . refine⟨e.os.trans R.ext.os,e.tape.trans R.ext.tape,e.output.trans R.ext.output,gv R.ext.size e.size,λb aC y=>?_,R.ext.mono.trans e.mono,λb j H=>?_⟩
   . refine(e.block b (l9 aC R.ext.size) λh=>?_).trans (R.ext.block b aC y);grind
   . rcases e.r8 _ _ H with h|h|h
     . exact R.ext.r8 b j h
     . grind
     . exact .inr (.inr (gv R.ext.size h))
theorem hU.raw {fn:Nat}{args:List V}{bs:a8}{Q:V->a'->Nat->Prop}(bS:bs.Nodup)(aC:∀b,b∈bs->b<key)(h:eg P fn (args.map (V.bO bs)) (fI bs J 0 bs) bs.length Q){K:V->a'->Prop}
 (bC:∀r J' N',Q r J' N'->N'<=bs.length+16/\K (r.b8 (back bs key)) (ho J bs (back bs key) J')):(∀b,b∈bs->n b=true)->∀aE nt φ S env a w,Rel aE nt φ S env J n a w->(∀b,key<=b->b<key+16->n b=false)->V.aD.V.dI n args=true->∀vs:List Value,ba (cl φ w S) args vs->
 Calls P fn vs.toArray w λe w'=>∃v r a0 bR J',e= .returned v/\K r J'/\cl a0 w' bR r v/\r.aD (eH n key)=true/\Rel aE nt a0 bR env J' (eH n key) a w':=by
 intro A aE nt φ S env a w R aG gl vs fs;let a3:dE:=λi=>φ ((bs[i]?).getD 0);have ax:∀(i:Nat) b,bs[i]?=some b->a3 i=φ b:=by intro i b h;simp[a3,h]
 let B:Nat->Prop:=λci=>∃b x,b∈bs/\aX J b=some x/\(φ b).2≠0/\ci=(φ b).1;have an:∀b x,aX (fI bs J 0 bs) b=some x->∃c q,bs[b]?=some c/\aX J c=some q/\x=q.bO bs:=by
  intro b x f;obtain⟨j,c,q,rfl,D,G,rfl⟩:=pJ f;grind
 have fo:qy a3 w S (fI bs J 0 bs):=by
  refine⟨λb x f=>?_,λb H x y f M a9 h0 L=>?_,R.bQ.st⟩
  . obtain⟨c,q,D,G,rfl⟩:=an b x f;exact c1.bO ax D (R.bQ.blk c q G)
  . obtain⟨c,q,D,G,rfl⟩:=an b x f;obtain⟨U,aK,bi,dt,rfl⟩:=an H y M;rw[ax b c D]at h0⊢;rw[ax H U bi]at L⊢;refine R.bQ.inj c U q aK G dt ?_ h0 L;intro e;subst e;obtain⟨a1,b1⟩:=ds.1 D;obtain⟨a2,b2⟩:=ds.1 bi;have gt:=rW.1 bS;grind
 have ex:ba (cl a3 w S) (args.map (V.bO bs)) vs:=fs.qa λ_ _=>cl.bO ax;have fd:V.aD.V.dI (lt bs.length) (args.map (V.bO bs))=true:=by
  refine tz λi v b4=>?_;rw[qe,bo]at b4;obtain⟨v0,_,rfl⟩:=b4;exact V.jY v0
 refine(h a3 S w B fo (λb x f=>?_) (λb x f h0=>?_) fd vs ex).mono ?_
 . obtain⟨c,q,D,G,rfl⟩:=an b x f;refine⟨(ds.1 D).1,?_⟩;cases q with
   |box cs=>simp only[bP.bO,bP.aD,qh,dH];intro c _;exact C.jY c
   |arr sz es=>rfl
   |set ks=>rfl
   |buf E s=>rfl
   |b7 E c=>exact C.jY c
   |cA sz es i o c=>exact C.jY c
 . obtain⟨c,q,D,G,rfl⟩:=an b x f;rw[ax b c D]at h0⊢;exact⟨c,q,fj D,G,h0,rfl⟩
 rintro e w' ⟨v,gc,a0,bR,J',N',rfl,eq,h1,D,G,W,bc,gd,ge⟩
 obtain⟨cz,bC⟩:=bC _ _ _ eq;have bq:∀b,B b->aE.B b\/aE.jC.heap.size<=b:=by
  rintro ci ⟨b,x,_,f,h0,rfl⟩
  exact R.own b x f h0
 have cQ:Rel aE nt φ S env (nw J bs) n a w:=by
  have ap:∀b x,aX (nw J bs) b=some x->b ∉ bs/\aX J b=some x:=by
   intro b x f;rw[rh]at f;grind
  exact⟨⟨λb x f=>R.bQ.blk b x (ap b x f).2,λb H x y f M=>R.bQ.inj b H x y (ap b x f).2 (ap H y M).2,R.bQ.st⟩,R.gK,R.hM,R.gJ,λb x f=>R.dU b x (ap b x f).2,R.size,R.defers,R.ext,λb x f=>R.own b x (ap b x f).2,R.fix,R.fS⟩
 have ff:∀b x,b ∉ bs->aX J b=some x->(φ b).2≠0->¬B (φ b).1:=by
  rintro b x A f h0 ⟨c,y,t,M,L,he⟩
  exact R.bQ.inj b c x y f M (λe=>A (e▸t)) h0 L he
 have c9:=cQ.ag0 bc G.st (λb x f h0=>by
  rw[rh]at f
  grind) bq
 let N:dE:=λb=>if key<=b/\b<key+16 then a0 (bs.length+(b-key))else φ b
 have ce:∀b,n b=true->N b=φ b:=by grind
 have O:∀b,lt N' b=true->N (back bs key b)=a0 b:=by
  intro b X;simp only[lt,dO]at X;unfold back;grind
 have am:∀b,lt N' b=true->eH n key (back bs key b)=true:=by
  intro b X;simp only[lt,dO]at X;unfold back;cases aq:bs[b]? with
  |some c=>simp only[qf];exact l3 (A c (fj aq))
  |none=>
   have gs:=ux.1 aq;simp only[Option.getD_none,eH,iv,cC,dO];right;omega
 have F:=c9.zj ce;have Z:∀b x,aX (ho J bs (back bs key) J') b=some x->(∃c q,b=back bs key c/\aX J' c=some q/\x=q.b8 (back bs key))\/(b ∉ bs/\aX J b=some x):=λb x f=>LX f;have Y:∀b x,b ∉ bs->aX J b=some x->aX (nw J bs) b=some x:=by intro b x A f;rw[rh,al A];exact f
 have bb:∀c q,aX J' c=some q->(N (back bs key c)).2≠0->B (N (back bs key c)).1\/w.heap.size<=(N (back bs key c)).1:=by
  intro c q t h0;rw[O c (by simp[lt];exact(W c q t).1)]at h0⊢;grind
 have b3:∀b x,b ∉ bs->aX J b=some x->(N b).2≠0->(N b).1<w.heap.size/\¬B (N b).1:=by
  intro b x A f h0;rw[ce b (R.dU b x f).1]at h0⊢;exact⟨(R.bQ.blk b x f).kj h0,ff b x A f h0⟩
 refine⟨v,gc.b8 (back bs key),N,bR,ho J bs (back bs key) J',rfl,bC,cl.b8 O D h1,V.rS am D,⟨⟨λb x f=>?_,λb H x y f M a9 h0 L=>?_,G.st⟩,F.gK,F.hM,λk g v af aq=>V.hp (λ_ h=>l3 h) (F.gJ k g v af aq),λb x f=>?_,F.size,F.defers,F.ext,λb x f h0=>?_,F.fix,λb X=>l3 (F.fS b X)⟩⟩
 . rcases Z b x f with⟨c,q,rfl,t,rfl⟩|⟨A,f⟩
   . have dy:=G.blk c q t;have a4:=W c q t;have aM:=O c (by simp[lt];exact a4.1);cases q with
     |box cs=>
      obtain⟨be,vs,E,k1,k2,k3⟩:=dy;simp only[bP.b8,c1,aM];refine⟨be,vs,E,k1,?_,k3⟩;have bv:=a4.2;simp only[bP.aD,dH]at bv;have:=k2.imp (R':=λc v=>bn N w' bR (C.b8 (back bs key) c) v) λc v t ag=>bn.b8 O (bv c t) ag;exact this.qa λ_ _ h=>h
     |arr sz es=>simp only[bP.b8,c1,aM];exact dy
     |set ks=>simp only[bP.b8,c1,aM];exact dy
     |buf E s=>simp only[bP.b8,c1,aM];exact dy
     |b7 E c=>
      obtain⟨be,⟨p,v,k1,k2,k3⟩,k4⟩:=dy;simp only[bP.b8,c1,aM];exact⟨be,⟨p,v,k1,k2,bn.b8 O (by simpa[bP.aD]using a4.2) k3⟩,k4⟩
     |cA sz es i o c=>
      obtain⟨h1,⟨vs,E,k1,k2,k3,v,k4,k5⟩,k6⟩:=dy;simp only[bP.b8,c1,aM];exact⟨h1,⟨vs,E,k1,k2,k3,v,k4,bn.b8 O (by simpa[bP.aD]using a4.2) k5⟩,k6⟩
   . exact F.bQ.blk b x (Y b x A f)
 . rcases Z b x f with⟨c,q,rfl,t,rfl⟩|⟨A,f⟩<;>rcases Z H y M with⟨U,aK,rfl,a5,rfl⟩|⟨b0,M⟩
   . have aM:=O c (by simp[lt];exact(W c q t).1);have dh:=O U (by simp[lt];exact(W U aK a5).1);rw[aM]at h0⊢;rw[dh]at L⊢;exact G.inj c U q aK t a5 (by rintro rfl;exact a9 rfl) h0 L
   . obtain⟨k1,k2⟩:=b3 H y b0 M L;rcases bb c q t h0 with h|h
     . intro e;rw[e]at h;exact k2 h
     . omega
   . obtain⟨k1,k2⟩:=b3 b x A f h0;rcases bb U aK a5 L with h|h
     . intro e;rw[<-e]at h;exact k2 h
     . omega
   . exact F.bQ.inj b H x y (Y b x A f) (Y H y b0 M) a9 h0 L
 . rcases Z b x f with⟨c,q,rfl,t,rfl⟩|⟨A,f⟩
   . obtain⟨k1,k2⟩:=W c q t;refine⟨am c (by simp[lt];exact k1),?_⟩;cases q with
     |box cs=>
      simp only[bP.b8,bP.aD,qh,dH]at k2⊢;intro c t;exact C.rS am (k2 c t)
     |arr sz es=>rfl
     |set ks=>rfl
     |buf E s=>rfl
     |b7 E c=>simp only[bP.b8,bP.aD]at k2⊢;exact C.rS am k2
     |cA sz es i o c=>simp only[bP.b8,bP.aD]at k2⊢;exact C.rS am k2
   . obtain⟨k1,k2⟩:=F.dU b x (Y b x A f);exact⟨l3 k1,bP.hp (λ_ h=>l3 h) k2⟩
 . rcases Z b x f with⟨c,q,rfl,t,rfl⟩|⟨A,f⟩
   . rcases bb c q t h0 with h|h
     . exact bq _ h
     . exact .inr (gv R.ext.size h)
   . exact F.own b x (Y b x A f) h0
theorem hU.ahv{fn:Nat}{args:List V}(bS:bs.Nodup)(aC:∀b,b∈bs->b<key)(e:∀b,b∈bs->∃x,aX J b=some x)(h:eg P fn (args.map (V.bO bs)) (fI bs J 0 bs) bs.length Q){K:V->a'->Prop}
 (bC:∀r J' N',Q r J' N'->N'<=bs.length+16/\K (r.b8 (back bs key)) (ho J bs (back bs key) J')):hU P fn args J key K:=by
 intro aE nt φ S env n a w R aG c vs f;exact hU.raw (n:=n) bS aC h bC (λb c=>let⟨x,j⟩:=e b c;(R.dU b x j).1) aE nt φ S env a w R aG c vs f
theorem JX:∀{l:a8} {i:Nat} {J J':a'},(∀b,b∈l->aX J' b=aX J b)->fI bs J' i l=fI bs J i l
 |[],i,J,J',h=>rfl
 |b::r,i,J,J',h=>by
  simp only[fI];rw[h b (by simp),JX λc a=>h c (by simp[a])]
theorem JY{f:Nat->Nat}:∀{a:a'} {J J':a'} {c:Nat},(aX (nw J' bs) c=aX (nw J bs) c)->aX (ho J' bs f a) c=aX (ho J bs f a) c
 |[],J,J',c,h=>h
 |(b,x)::r,J,J',c,h=>by
  simp only[ho,c2];split
  . rfl
  . exact JY h
theorem GJ{key:Nat}:∀{f:a'} {J:a'} {c:Nat},f.all (λx=>decide (x.1<bs.length+16))=true->c ∉ bs->¬(key<=c/\c<key+16)->aX (ho J bs (back bs key) f) c=aX J c
 |[],J,c,d,a,ag=>by simp only[ho,rh,al a]
 |(b,x)::r,J,c,d,a,ag=>by
  simp only[rU,cC,dO]at d;simp only[ho,c2];rw[al ?_]
  . exact GJ d.2 a ag
  . intro e;unfold back at e;grind
end
variable {xb:a8}
section
variable {P:Program}{aE:Ctx}{nt kk:Nat}{φ:dE}{S:dT}{env env':Env}{J J' J1:a'}{N key:Nat}{n:Nat->Bool}{a:Act}{w:World}
theorem dF(h:∀t,t∈x.tmps->look env' t=look env t):x.get env'=x.get env:=by
 cases x with
 |const v=>rfl
 |tmp t=>grind[aQ.get,aQ.tmps]
theorem yQ{xs:List aQ}(h:∀t,t∈xs.flatMap aQ.tmps->look env' t=look env t):hP env' xs=hP env xs:=by
 induction xs with
 |nil=>rfl
 |cons x xs ih=>
  grind[hP,dF]
theorem yR{x:Option aQ}(h:∀t,t∈ur x->look env' t=look env t):jS env' x=jS env x:=by
 cases x with
 |none=>rfl
 |some x=>simp[jS];rw[dF h]
theorem JZ:∀{ps:List (Nat×Nat×aQ)} {cs:List C},(∀t,t∈(ps.flatMap λp=>p.2.2.tmps)->look env' t=look env t)->lr env' cs ps=lr env cs ps
 |[],cs,h=>rfl
 |(o,k,x)::r,cs,h=>by
  simp[lr];rw[dF (λt ht=>h t (by grind))]
  congr 1;funext a;congr 1;funext c
  split
  . rw[JZ (λt ht=>h t (by grind))]
  rfl
theorem HD{sz:Nat}:∀{ps:List (Nat×aQ)} {es:List (List T)},(∀t,t∈(ps.flatMap λp=>p.2.tmps)->look env' t=look env t)->jO env' sz es ps=jO env sz es ps
 |[],cs,h=>rfl
 |(i,x)::r,es,h=>by
  simp[jO];rw[dF (λt ht=>h t (by grind))]
  congr 1;funext a;congr 1;funext c;congr 1;funext ts
  split
  . rw[HD (λt ht=>h t (by grind))]
  rfl
theorem aco(h:∀t,t∈o.reads->look env' t=look env t):aR o env' J key=aR o env J key:=by
 cases o<;>simp only[cP.reads,hQ]at h
 case mov x=>simp only[aR];rw[dF h]
 case pick c x y=>grind[aR,dF]
 case alloc=>rfl
 case box x=>simp only[aR];rw[dF h]
 case allocA=>rfl
 case b2s x=>simp only[aR];rw[dF h]
 case allocS=>rfl
 case mkset=>rfl
 case bsliceT e sz len z ps=>simp only[aR];congr 1;funext a;rw[HD h]
 case lkset x y=>simp only[aR];rw[dF λt ht=>h t (.inl ht),dF λt ht=>h t (.inr ht)]
 case upset x y=>simp only[aR];rw[dF λt ht=>h t (.inl ht),dF λt ht=>h t (.inr ht)]
 case appendB e k x y=>simp only[aR];rw[dF λt ht=>h t (.inl ht),dF λt ht=>h t (.inr ht)]
 case sdata x=>simp only[aR];rw[dF h]
 case ustr e x y=>simp only[aR];rw[dF λt ht=>h t (.inl ht),dF λt ht=>h t (.inr ht)]
 case idxP k x y=>simp only[aR];rw[dF λt ht=>h t (.inl ht),dF λt ht=>h t (.inr ht)]
 case slcP k x l i=>simp only[aR];rw[dF λt ht=>h t (.inl (.inl ht)),yR λt ht=>h t (.inl (.inr ht)),yR λt ht=>h t (.inr ht)]
 case build z ps=>simp only[aR];rw[JZ h]
 case bslice sz len z ps=>simp only[aR];congr 1;funext a;rw[HD h]
 case load g k x=>simp only[aR];rw[dF h]
 case store k x v=>simp only[aR];rw[dF λt ht=>h t (.inl ht),dF λt ht=>h t (.inr ht)]
 case nilCheck x=>simp only[aR];rw[dF h]
 case bin op x y=>simp only[aR];rw[dF λt ht=>h t (.inl ht),dF λt ht=>h t (.inr ht)]
 case eqAgg op ks x y=>simp only[aR];rw[dF λt ht=>h t (.inl ht),dF λt ht=>h t (.inr ht)]
 case eqBool op x y=>simp only[aR];rw[dF λt ht=>h t (.inl ht),dF λt ht=>h t (.inr ht)]
 case eqNil=>rfl
 case not x=>simp only[aR];rw[dF h]
 case conv k x=>simp only[aR];rw[dF h]
 case i2s x=>simp only[aR];rw[dF h]
 case s2s x=>simp only[aR];rw[dF h]
 case fldA k x=>simp only[aR];rw[dF h]
 case fld g k m x=>simp only[aR];rw[dF h]
 case idxA op x y=>simp only[aR];rw[dF λt ht=>h t (.inl ht),dF λt ht=>h t (.inr ht)]
 case idxS x y=>simp only[aR];rw[dF λt ht=>h t (.inl ht),dF λt ht=>h t (.inr ht)]
 case slcS x l i=>simp only[aR];rw[dF λt ht=>h t (.inl (.inl ht)),yR λt ht=>h t (.inl (.inr ht)),yR λt ht=>h t (.inr ht)]
 case slc k x l i=>grind[aR,dF,yR]
 case slc0 x=>simp only[aR];rw[dF h]
 case mkfn f xs=>simp only[aR];rw[yQ h]
 case ext x i=>simp only[aR];rw[dF h]
 case len s x=>grind[aR,dF]
 case append sz by' x y=>simp only[aR];rw[dF λt ht=>h t (.inl ht),dF λt ht=>h t (.inr ht)]
 case max2 x y=>simp only[aR];rw[dF λt ht=>h t (.inl ht),dF λt ht=>h t (.inr ht)]
 case min2 x y=>grind[aR,dF]
 case call=>rfl
 rfl
def ed(env:Env)(x:aQ):a8:=
 match x.get env with
 |some (_,.c (.ptr b _))=>[b]
 |some (_,.c (.cG b _ _ _))=>[b]
 |some (_,.c (.arr b _ _ _))=>[b]
 |some (_,.c (.fJ b _ _ _))=>[b]
 |some (_,.c (.mp b))=>[b]
 |some (_,.c (.ey b))=>[b]
 |some (_,.c (.cM b _))=>[b]
 |_=>[]
def C.ga:C->a8
 |.ptr b _|.cG b _ _ _|.arr b _ _ _|.fJ b _ _ _|.mp b|.ey b|.cM b _=>[b]
 |.fn _ caps=>caps
 |_=>[]
def V.ga:V->a8
 |.c x=>x.ga
 |.agg cs=>cs.flatMap C.ga
 |.aY _=>[]
def lb(env:Env)(args:List aQ):a8:=
 args.flatMap λx=>match x.get env with
  |some (_,v)=>v.ga
  |none=>[]
def ep(xb:a8)(o:cP)(env:Env)(key:Nat):a8:=
 match o with
 |.alloc _|.allocA _|.box _|.bslice .. |.mkset=>[key]
 |.allocS .. =>[key,key+1]
 |.lkset x _=>ed env x
 |.upset x _=>ed env x
 |.appendB _ _ x _=>key::ed env x
 |.ustr _ x _=>ed env x
 |.call _ args=>(List.range 16).map (key+·)++(lb env args++xb)
 |.load _ _ x=>ed env x
 |.b2s x=>ed env x
 |.store _ x _=>ed env x
 |.append _ _ x y=>key::(ed env x++ed env y)
 |_=>[]
def cJ(xb:a8)(o:cP)(env:Env)(key b:Nat):Bool:=
 match o with
 |.alloc _|.allocA _|.box _|.bslice .. |.mkset=>b==key
 |.allocS .. =>b==key||b==key+1
 |.upset x _=>(ed env x).contains b
 |.appendB _ _ x _=>b==key||(ed env x).contains b
 |.ustr _ x _=>(ed env x).contains b
 |.store _ x _=>(ed env x).contains b
 |.append _ _ x _=>b==key||(ed env x).contains b
 |.call _ args=>(decide (key<=b)&&decide (b<key+16))||(lb env args++xb).contains b
 |_=>false
theorem Yh(aG:o.neutral=true)(ht:o.h9=false){p v J1}(a:aR o env J key=some (p,v,J1)):aR o env J' key=some (p,v,J'):=by
 cases o<;>simp only[cP.neutral,cP.h9,reduceCtorEq]at aG ht<;>simp only[aR,br,bo]at a⊢
 all_goals
  (try (obtain⟨a1,h1,a⟩:=a;refine⟨a1,h1,?_⟩))
  (try (obtain⟨a2,b,a⟩:=a;refine⟨a2,b,?_⟩))
  (try (obtain⟨a3,c,a⟩:=a;refine⟨a3,c,?_⟩))
  (try split at a)
  (try (done))
 all_goals first
  |(cases a;rfl)
  |(cases a;done)
  |(exact⟨x,h1,b,c,rfl⟩)
  |(simp only[bo]at a⊢;obtain⟨x,h1,b⟩:=a;simp only[dv]at b⊢;exact⟨x,h1,b.1,b.2.1,trivial⟩)
  |(simp only[ew,dp,dv]at a⊢;exact⟨a.1,a.2.1,a.2.2.1,trivial⟩)
theorem Md{b:Nat}(h:x.get env=some (p,.c (.mp b))):ed env x=[b]:=by grind[ed]
theorem Z3{b:Nat}(h:x.get env=some (p,.c (.ey b))):ed env x=[b]:=by grind[ed]
theorem Z4{b l:Nat}(h:x.get env=some (p,.c (.cM b l))):ed env x=[b]:=by grind[ed]
theorem LY{b o:Nat}(h:x.get env=some (p,.c (.ptr b o))):ed env x=[b]:=by grind[ed]
theorem K0{b sz i o:Nat}(h:x.get env=some (p,.c (.cG b sz i o))):ed env x=[b]:=by grind[ed]
theorem aay{b sz i o:Nat}(h:x.get env=some (p,.c (.fJ b sz i o))):ed env x=[b]:=by grind[ed]
theorem Dt{b sz i o:Nat}(h:x.get env=some (p,.c (.arr b sz i o))):ed env x=[b]:=by grind[ed]
theorem Z5{p v}(a:aR o env J key=some (p,v,J1))(ht:∀b,b∈ep xb o env key->aX J' b=aX J b):
 (∃bq,aR o env J' key=some (p,v,bq)/\∀b,aX bq b=if cJ xb o env key b then aX J1 b else aX J' b)/\∀b,cJ xb o env key b=false->aX J1 b=aX J b:=by
 by_cases I:o.neutral=true/\o.h9=false
 . have ab:∀b,cJ xb o env key b=false:=by intro b;cases o<;>simp only[cP.neutral,cP.h9,reduceCtorEq,bZ,false_and,kh,and_self]at I<;>rfl
   have:=y1 I.1 a;subst this;exact⟨⟨J',Yh I.1 I.2 a,λb=>by grind⟩,λb _=>rfl⟩
 . cases o<;>simp only[cP.neutral,cP.h9,reduceCtorEq,bZ,false_and,kh,and_self,not_true,not_false_eq_true]at I
   case alloc cs=>
    simp only[aR,dp,dv]at a⊢;obtain⟨rfl,rfl,rfl⟩:=a;refine⟨⟨_,⟨rfl,rfl,rfl⟩,λb=>?_⟩,λb f=>?_⟩
    . simp only[c2,cJ,jh];grind
    simp_all[cJ,lC,c2,al,dX]
   case allocA cs=>
    simp only[aR,bo,dv]at a⊢;obtain⟨ts,Y,rfl,rfl,rfl⟩:=a;refine⟨⟨_,⟨ts,Y,rfl,rfl,rfl⟩,λb=>?_⟩,λb f=>?_⟩
    . simp only[c2,cJ,jh];grind
    simp_all[cJ,lC,c2,al,dX]
   case b2s x=>
    simp only[aR,br,bo,dv]at a⊢;obtain⟨⟨n,v0⟩,h1,⟨q,s⟩,j,rfl,rfl,rfl⟩:=a;refine⟨⟨J',⟨(n,v0),h1,(q,s),?_,rfl,rfl,rfl⟩,λb=>rfl⟩,λb _=>rfl⟩;dsimp only at j⊢;unfold nu at j⊢;split at j
    . grind
    . grind
    . rename_i b off len;rw[ht b (by simp[ep,Dt h1])];grind
    . rename_i b off len;rw[ht b (by simp[ep,aay h1])];grind
    grind
   case box x=>
    simp only[aR,br,bo,dv]at a⊢;obtain⟨O,h1,cs,j,rfl,rfl,rfl⟩:=a;refine⟨⟨_,⟨O,h1,cs,j,rfl,rfl,rfl⟩,λb=>?_⟩,λb f=>?_⟩
    . simp only[c2,cJ,jh];grind
    simp_all[cJ,lC,c2,al,dX]
   case bslice sz len z ps=>
    simp only[aR,br,bo,dv]at a⊢;obtain⟨O,h1,cs,j,rfl,rfl,rfl⟩:=a;refine⟨⟨_,⟨O,h1,cs,j,rfl,rfl,rfl⟩,λb=>?_⟩,λb f=>?_⟩
    . simp only[c2,cJ,jh];grind
    simp_all[cJ,lC,c2,al,dX]
   case load g k x=>
    have:=y1 rfl a;subst this;refine⟨⟨J',?_,λb=>rfl⟩,λb _=>rfl⟩;simp only[aR,br]at a⊢;obtain⟨⟨n,v0⟩,h1,a⟩:=a;refine⟨(n,v0),h1,?_⟩;dsimp only at a⊢;split at a
    . rename_i b o;rw[ht b (by simp[ep,LY h1])];split at a
      all_goals simp_all
    . rename_i b sz i o;rw[ht b (by simp[ep,K0 h1])];split at a
      . simp_all
      . split at a
        . grind
        . rename_i aq;split at a
          all_goals simp_all
      grind
    all_goals simp_all
   case store k x y=>
    simp only[aR,br,ew]at a⊢;obtain⟨⟨n,v0⟩,h1,d,j,cs,w,F,a⟩:=a;have D:∀(b:Nat) (N:bP),ed env x=[b]->J1=df J b N->(∀c,aX (df J' b N) c=if cJ xb (.store k x y) env key c then aX J1 c else aX J' c)/\∀c,cJ xb (.store k x y) env key c=false->aX J1 c=aX J c:=by
     intro b N f hs;subst hs;refine⟨λc=>?_,λc l=>?_⟩
     . simp only[cJ,f,l',kS,jg,jh,c2];grind
     . simp only[cJ,f,l',kS,jg,lC]at l;rw[c2,al (dX l)]
    dsimp only at a⊢;split at a
    . rename_i b o;have f:=LY h1;split at a
      . rename_i aa L;simp only[ew,dp,dv]at a;obtain⟨bc,rfl,rfl,B⟩:=a;obtain⟨f1,f2⟩:=D b _ f B.symm;refine⟨⟨_,⟨(n,.c (.ptr b o)),h1,d,j,cs,w,F,?_⟩,f1⟩,f2⟩;dsimp only;rw[ht b (by simp[ep,f]),L];dsimp only;rw[ae bc]
      . rename_i E U L;split at a
        . rename_i c;simp only[dp,dv]at a;obtain⟨rfl,rfl,B⟩:=a;obtain⟨f1,f2⟩:=D b _ f B.symm;refine⟨⟨_,⟨(n,.c (.ptr b 1)),h1,d,j,_,w,F,?_⟩,f1⟩,f2⟩;dsimp only;rw[ht b (by simp[ep,f]),L];rfl
        . cases a
      . cases a
    . rename_i b sz i o;have f:=K0 h1;split at a
      . rename_i K es A;split at a
        . rename_i c l;simp only[dp,dv]at a;obtain⟨rfl,rfl,B⟩:=a;obtain⟨f1,f2⟩:=D b _ f B.symm;refine⟨⟨_,⟨(n,.c (.cG b sz i o)),h1,d,j,cs,w,F,?_⟩,f1⟩,f2⟩;dsimp only;rw[ht b (by simp[ep,f]),A];dsimp only;rw[l]
        rename_i l;simp only[br,dp,dv]at a;obtain⟨ts,bc,rfl,rfl,B⟩:=a;obtain⟨f1,f2⟩:=D b _ f B.symm;refine⟨⟨_,⟨(n,.c (.cG b sz i o)),h1,d,j,cs,w,F,?_⟩,f1⟩,f2⟩;dsimp only;rw[ht b (by simp[ep,f]),A];dsimp only;rw[l];dsimp only;rw[bc];rfl
      . rename_i K es ad af U A;split at a
        . rename_i c;split at a
          . rename_i M;simp only[dp,dv]at a;obtain⟨rfl,rfl,B⟩:=a;obtain⟨f1,f2⟩:=D b _ f B.symm;refine⟨⟨_,⟨(n,.c (.cG b sz i o)),h1,d,j,_,w,F,?_⟩,f1⟩,f2⟩;dsimp only;rw[ht b (by simp[ep,f]),A];dsimp only;rw[ae M]
          . rename_i M;simp only[br,dp,dv]at a;obtain⟨t,bc,rfl,rfl,B⟩:=a;obtain⟨f1,f2⟩:=D b _ f B.symm;refine⟨⟨_,⟨(n,.c (.cG b sz i o)),h1,d,j,_,w,F,?_⟩,f1⟩,f2⟩;dsimp only;rw[ht b (by simp[ep,f]),A];dsimp only;rw[al M,bc];rfl
        . cases a
      . cases a
    . cases a
   case append sz by' x y=>
    simp only[aR,br]at a⊢;obtain⟨⟨n,v0⟩,h1,⟨d1,d2⟩,j,a⟩:=a;dsimp only at a;cases G:oH v0 d2 with
    |some r=>
     rw[G]at a;have H:=G;unfold oH at H;split at H
     . rename_i b s1 off len T Z S R;split at H
       . cases H;have C:=Dt h1;dsimp only at a;unfold uY at a;dsimp only at a;split at a
         . rename_i ag es A;simp only[dp,dv]at a;obtain⟨rfl,rfl,rfl⟩:=a;refine⟨⟨df (h8 J' b) key (.arr sz (es.take len++(es.drop S).take R)),⟨(n,.c (.arr b s1 off len)),h1,(d1,.c (.fJ T Z S R)),j,?_⟩,λc=>?_⟩,λc l=>?_⟩
           . dsimp only;rw[G];dsimp only;unfold uY;dsimp only;rw[ht b (by simp[ep,C]),A]
           . simp only[c2,fP,cJ,C,l',kS,jg,iv,jh];by_cases h:c=key
             . subst h;simp
             . rw[al (dX h)];by_cases u:c=b
               . subst u;simp[h,dX h]
               . rw[al (dX u),al (by simp[h,u])]
           . simp only[cJ,C,l',kS,jg,yy,lC]at l;rw[c2,fP,al (dX l.1),al (dX l.2)]
         . cases a
       . cases H
     . cases H
    |none=>
    rw[G]at a;simp only[br]at a;obtain⟨P,w,a⟩:=a;have Q:mn J' d2=some P:=by
     unfold mn at w⊢;split at w
     . exact w
     . exact w
     . rename_i b K off len;rw[ht b (by simp[ep,Dt j])];exact w
     . cases w
    split at a
    . have C:ed env x=[]:=(by simp[ed,h1]);simp only[dp,dv]at a;obtain⟨rfl,rfl,rfl⟩:=a;refine⟨⟨_,⟨(n,.c .az),h1,(d1,d2),j,by dsimp only;rw[G];simp only[br];exact⟨P,Q,rfl⟩⟩,λb=>?_⟩,λb f=>?_⟩
      . simp only[c2,cJ,C,kS,jg,jh];by_cases h:b=key
        . subst h;simp
        . rw[al (dX h),al h]
      . simp only[cJ,C,kS,jg,lC]at f;rw[c2,al (dX f)]
    . rename_i b K off len;have C:=Dt h1;split at a
      . rename_i ah es A;split at a
        . cases a
        . rename_i X;simp only[dp,dv]at a;obtain⟨rfl,rfl,rfl⟩:=a
          refine⟨⟨_,⟨(n,.c (.arr b K off len)),h1,(d1,d2),j,by
           dsimp only;rw[G];simp only[br];refine⟨P,Q,?_⟩;rw[ht b (by simp[ep,C]),A];dsimp only
           rw[al X]⟩,λc=>?_⟩,λc l=>?_⟩
          . simp only[c2,fP,cJ,C,l',kS,jg,iv,jh];by_cases h:c=key
            . subst h;simp
            . rw[al (dX h)];by_cases u:c=b
              . subst u;simp[h,dX h]
              . rw[al (dX u),al (by simp[h,u])]
          . simp only[cJ,C,l',kS,jg,yy,lC]at l;rw[c2,fP,al (dX l.1),al (dX l.2)]
      . cases a
    . cases a
   case allocS e e8=>
    simp only[aR,dp,dv]at a⊢;obtain⟨rfl,rfl,rfl⟩:=a;refine⟨⟨_,⟨rfl,rfl,rfl⟩,λb=>?_⟩,λb f=>?_⟩
    . simp only[c2,cJ,iv,jh];by_cases h:key=b
      . rw[ae h,ae (.inl h.symm),ae h]
      . rw[al h];by_cases u:key+1=b
        . rw[ae u,ae (.inr u.symm),al h,ae u]
        . rw[al u,bx]
    . simp only[cJ,yy,lC]at f;rw[c2,al (dX f.1),c2,al (dX f.2)]
   case mkset=>
    simp only[aR,dp,dv]at a⊢;obtain⟨rfl,rfl,rfl⟩:=a;refine⟨⟨_,⟨rfl,rfl,rfl⟩,λb=>?_⟩,λb f=>?_⟩
    . simp only[c2,cJ,jh];by_cases h:b=key
      . subst h;simp
      . rw[al (dX h),al h]
    . simp only[cJ,lC]at f;rw[c2,al (dX f)]
   case lkset x y=>
    have:=y1 rfl a;subst this;refine⟨⟨J',?_,λb=>rfl⟩,λb _=>rfl⟩;simp only[aR,br]at a⊢;obtain⟨⟨n,v0⟩,h1,⟨d1,d2⟩,j,a⟩:=a;refine⟨(n,v0),h1,(d1,d2),j,?_⟩;dsimp only at a⊢;split at a
    . rename_i b s;rw[ht b (by simp[ep,Md h1])];split at a
      . simp only[dp,dv]at a⊢;exact⟨a.1,a.2.1,trivial⟩
      . cases a
    . cases a
   case upset x y=>
    simp only[aR,br]at a⊢;obtain⟨⟨n,v0⟩,h1,⟨d1,d2⟩,j,a⟩:=a;dsimp only at a⊢;split at a
    . rename_i b s;have f:=Md h1;split at a
      . rename_i ks W;simp only[dp,dv]at a;obtain⟨rfl,rfl,rfl⟩:=a
        refine⟨⟨_,⟨(n,.c (.mp b)),h1,(d1,.c (.t (.str s))),j,by
         dsimp only
         rw[ht b (by simp[ep,f]),W]⟩,λc=>?_⟩,λc l=>?_⟩
        . simp only[cJ,f,l',kS,jg,jh,c2];by_cases h:c=b
          . subst h;simp
          . rw[al (dX h),al h]
        . simp only[cJ,f,l',kS,jg,lC]at l;rw[c2,al (dX l)]
      . cases a
    . cases a
   case appendB e by' x y=>
    simp only[aR,br]at a⊢;obtain⟨⟨n,v0⟩,h1,⟨d1,d2⟩,j,a⟩:=a;dsimp only at a⊢;split at a
    . rename_i b len s;have f:=Z4 h1;split at a
      . rename_i V es A;simp only[dp,dv]at a;obtain⟨rfl,rfl,rfl⟩:=a
        refine⟨⟨_,⟨(n,.c (.cM b len)),h1,(d1,.c (.t (.str s))),j,by
         dsimp only
         rw[ht b (by simp[ep,f]),A]⟩,λc=>?_⟩,λc l=>?_⟩
        . simp only[c2,fP,cJ,f,l',kS,jg,iv,jh];by_cases h:c=key
          . subst h;simp
          . rw[al (dX h)];by_cases u:c=b
            . subst u;simp[h,dX h]
            . rw[al (dX u),al (by simp[h,u])]
        . simp only[cJ,f,l',kS,jg,yy,lC]at l;rw[c2,fP,al (dX l.1),al (dX l.2)]
      . cases a
    . cases a
   case ustr e x y=>
    simp only[aR,br]at a⊢;obtain⟨⟨n,v0⟩,h1,⟨d1,d2⟩,j,a⟩:=a;dsimp only at a⊢;split at a
    . rename_i b m;have f:=Z3 h1;split at a
      . rename_i V es A;simp only[dp,dv]at a;obtain⟨rfl,rfl,rfl⟩:=a
        refine⟨⟨_,⟨(n,.c (.ey b)),h1,(d1,.c (.t (.int .i64 m))),j,by
         dsimp only
         rw[ht b (by simp[ep,f]),A]⟩,λc=>?_⟩,λc l=>?_⟩
        . simp only[fP,cJ,f,l',kS,jg,jh];by_cases h:c=b
          . subst h;simp
          . rw[al (dX h),al h]
        . simp only[cJ,f,l',kS,jg,lC]at l;rw[fP,al (dX l)]
      . cases a
    . cases a
   all_goals simp[aR]at a
inductive DStep (xb:a8)(P:Program)(o:cb)(key:Nat)(env:Env)(J:a')(g:Bool)(v:V):a'->Prop
 |op {p:Prop} {J2:a'} (aq:f' env o.guard = some g) (aiq:o.op.drawn = true) (x0:aR o.op env J key = some (p,v,J2)) (BQ:g = true->p) (aiu:o.op.neutral = true\/g = true):
  DStep xb P o key env J g v (if o.op.neutral then J else J2)
 |skip (aq:f' env o.guard=some g) (air:g=false):DStep xb P o key env J g v J
 |call {p:Prop} {f:Nat} {args:List aQ} {vs:List V} (Fz:o.op = .call f args) (aq:f' env o.guard = some g) (x0:hP env args = some (p,vs)) (BQ:g = true->p/\V.aD.V.dI (lt 0) vs = true/\v.aD (lt 0) = true/\eg P f vs [] 0 (λuE _ _=>uE = v)):
  DStep xb P o key env J g v J
 |iE {p q:Prop} {f:Nat} {x:aQ} {args:List aQ} {vs:List V} (Fz:o.op = .iE x args) (aG:o.guard = none) (ahb:g = true) (aiy:x.get env = some (q, .c (.fn f []))) (aiv:q) (x1:hj P f = true) (x0:hP env args = some (p,vs))
  (BQ:p/\V.aD.V.dI (lt 0) vs=true/\v.aD (lt 0)=true/\eg P f vs [] 0 (λuE _ _=>uE=v)):DStep xb P o key env J g v J
 |own {p:Prop} {f:Nat} {args:List aQ} {vs:List V} {r:V} {s:a'} {M:Nat} (Fz:o.op = .call f args) (aq:f' env o.guard = some g) (aG:o.guard = none) (x0:hP env args = some (p,vs)) (BQ:p) (x1:V.aD.V.dI (lt 0) vs = true) (aha:M<=16) (hk:s.all (λx=>x.1<16) = true)
  (Si:eg P f vs [] 0 (λuE Gh E0=>uE=r/\Gh=s/\E0=M)) (Sj:v=r.bD key):DStep xb P o key env J g v (mv J key s)
 |raw {p:Prop} {f:Nat} {args:List aQ} {vs:List V} {bs:a8} {r:V} {s:a'} {M:Nat} (Fz:o.op = .call f args) (aq:f' env o.guard = some g) (ahb:g = true) (x0:hP env args = some (p,vs)) (BQ:p)
  (bS:bs.Nodup) (aC:∀b,b∈bs->b<key) (ais:∀b,b∈bs->∃x,aX J b=some x) (aiw:∀b,b∈bs->b∈lb env args++xb) (aha:M<=bs.length+16) (hk:s.all (λx=>decide (x.1<bs.length+16))=true)
  (Si:eg P f (vs.map (V.bO bs)) (fI bs J 0 bs) bs.length (λuE Gh E0=>uE=r/\Gh=s/\E0=M)) (Sj:v=r.b8 (back bs key)):DStep xb P o key env J g v (ho J bs (back bs key) s)
theorem DStep.hf{o:cb}{g:Bool}{v:V}(h:DStep xb P o key env J g v J1)(bC:K (eu env o.dst g v) J1):hf P o key env J K:=by
 cases h with
 | @op p J2 aq G c e L=>
  grind[Shv.hf,aR]
 |skip aq H=>
  grind[Shv.hf]
 | @call p f args vs a aq c e=>
  unfold Shv.hf;grind[hU.Sy]
 | @iE p q f x args vs a aG y Q N w c e=>
  grind[Shv.hf,f',hU.Sy]
 | @raw p f args vs bs r s M a aq y c e bS aC A O t B j D=>
  unfold Shv.hf;rw[a];dsimp;have F:hU P f vs J key (λE J'=>K (eu env o.dst true E) J'):=by
   refine hU.ahv bS aC A j ?_;grind
  grind
 | @own p f args vs r s M a aq aG c e w t B j D=>
  unfold Shv.hf;rw[aq];rw[a];grind[f',hU.ahu]
theorem Me{o:cb}{t:Nat}(h:t∈o.op.reads):t∈o.rd:=by grind[cb.rd]
theorem y6{o:cb}(h:∀t,t∈o.rd->look env' t=look env t):f' env' o.guard=f' env o.guard:=by
 grind[f',cb.rd]
theorem GB{s:a'}(d:s.all (λx=>x.1<16)=true){b:Nat}(a:¬(key<=b/\b<key+16))(J:a'):aX (mv J key s) b=aX J b:=by
 rw[zd];by_cases h:key<=b
 . have:aX s (b-key)=none:=by
    cases hs:aX s _ with
    |none=>rfl
    |some x=>
     have:∀{s:a'} {c:Nat} {x:bP},aX s c=some x->s.all (λx=>x.1<16)=true->c<16:=by
      induction s with
      |nil=>grind[aX]
      |cons y r ih=>
       grind[aX]
     grind
   grind
 grind
theorem lo(h:∀t,t∈x.tmps->look env' t=look env t):ed env' x=ed env x:=by
 unfold ed;rw[dF h]
theorem Hd{args:List aQ}(h:∀t,t∈args.flatMap aQ.tmps->look env' t=look env t):lb env' args=lb env args:=by
 induction args with
 |nil=>rfl
 |cons x r ih=>
  grind[lb,dF]
theorem aaz(h:∀t,t∈o.reads->look env' t=look env t)(b:Nat):cJ xb o env' key b=cJ xb o env key b:=by
 cases o<;>try rfl
 case store k x v=>grind[cJ,lo,cP.reads]
 case append sz by' x y=>grind[cJ,lo,cP.reads]
 case upset x y=>grind[cJ,lo,cP.reads]
 case appendB e k x y=>grind[cJ,lo,cP.reads]
 case ustr e x y=>grind[cJ,lo,cP.reads]
 case call f args=>simp[cJ];rw[Hd h]
theorem aaA(h:∀t,t∈o.reads->look env' t=look env t):ep xb o env' key=ep xb o env key:=by
 cases o<;>try rfl
 case b2s x=>grind[ep,lo,cP.reads]
 case load g k x=>grind[ep,lo,cP.reads]
 case store k x v=>grind[ep,lo,cP.reads]
 case lkset x y=>grind[ep,lo,cP.reads]
 case upset x y=>grind[ep,lo,cP.reads]
 case appendB e k x y=>grind[ep,lo,cP.reads]
 case ustr e x y=>grind[ep,lo,cP.reads]
 case call f args=>simp[ep];rw[Hd h]
 grind[ep,lo,cP.reads]
theorem DStep.local{o:cb}{g:Bool}{v:V}(h:DStep xb P o key env J g v J1)(he:∀t,t∈o.rd->look env' t=look env t)(ht:∀b,b∈ep xb o.op env key\/cJ xb o.op env key b=true->aX J' b=aX J b):
 (∃bq,DStep xb P o key env' J' g v bq/\∀b,aX bq b=if cJ xb o.op env key b then aX J1 b else aX J' b)/\∀b,cJ xb o.op env key b=false->aX J1 b=aX J b:=by
 have B:=λt h=>he t (Me h);cases h with
 | @op p J2 aq O y w S=>
  obtain⟨⟨bq,h1,K⟩,L⟩:=Z5 (J':=J') y (λb c=>ht b (.inl c));have aG:o.op.neutral=true->∀b,cJ xb o.op env key b=false:=by intro aG b;generalize o.op=X at aG;cases X<;>simp[cP.neutral]at aG<;>rfl
  refine⟨⟨_,DStep.op (J2:=bq) (p:=p) (by rw[y6 he];exact aq) O (by rw[aco B];exact h1) w S,λb=>?_⟩,λb c=>?_⟩
  . by_cases A:o.op.neutral=true
    . rw[ae A,aG A b];rfl
    . rw[al A,al A];exact K b
  . by_cases A:o.op.neutral=true
    . rw[ae A]
    . rw[al A];exact L b c
 |skip aq R=>
  refine⟨⟨J',DStep.skip (by rw[y6 he];exact aq) R,λb=>?_⟩,λb _=>rfl⟩;split
  . rename_i j;exact ht b (.inr j)
  . rfl
 | @call p f args vs a aq y w=>
  refine⟨⟨J',DStep.call a (by rw[y6 he];exact aq) (by rw[yQ λt h=>B t (by rw[a];exact h)];exact y) w,λb=>?_⟩,λb _=>rfl⟩;split
  . rename_i j;exact ht b (.inr j)
  . rfl
 | @iE p q f x args vs a aG F W U c y w=>
  refine⟨⟨J',DStep.iE a aG F (by rw[dF λt h=>B t (by rw[a];simp[cP.reads,h])];exact W) U c (by rw[yQ λt h=>B t (by rw[a];simp only[cP.reads,hQ];exact .inr h)];exact y) w,λb=>?_⟩,λb _=>rfl⟩;split
  . rename_i j;exact ht b (.inr j)
  . rfl
 | @own p f args vs r s M a aq aG y w c E D H G=>
  refine⟨⟨_,DStep.own a (by rw[y6 he];exact aq) aG (by rw[yQ λt h=>B t (by rw[a];exact h)];grind) w c E D H G,λb=>?_⟩,λb N=>?_⟩
  . by_cases ag:key<=b/\b<key+16
    . have j:cJ xb o.op env key b=true:=by rw[a];simp[cJ,ag.1,ag.2]
      rw[ae j];have e:=ht b (.inr j);rw[zd,zd,e]
    . rw[GB D ag];split
      . rename_i j;rw[GB D ag];exact ht b (.inr j)
      . rfl
  grind[cJ,GB]
 | @raw p f args vs bs r s M a aq F y w bS aC Y Z E D H G=>
  have af:∀b,b∈lb env args++xb->b∈ep xb o.op env key:=by intro b c;rw[a];simp only[ep,hQ];exact .inr (hQ.1 c)
  have Q:∀t,t∈args.flatMap aQ.tmps->look env' t=look env t:=λt h=>B t (by rw[a];exact h)
  refine⟨⟨_,DStep.raw (bs:=bs) a (by rw[y6 he];exact aq) F (by rw[yQ Q];omega) w bS aC (λb c=>by grind) (λb c=>by grind[Hd]) E D
   (by grind[JX]) G,λb=>?_⟩,λb N=>?_⟩
  . by_cases j:cJ xb o.op env key b=true
    . grind[JY,rh]
    . grind[cJ,Bool.or_eq_false_iff,Bool.and_eq_false_iff,decide_eq_false_iff_not,GJ]
  grind[cJ,Bool.or_eq_false_iff,Bool.and_eq_false_iff,decide_eq_false_iff_not,GJ]
def xA(xb:a8)(P:Program):List cb->Nat->Env->a'->(Env->a'->Prop)->Prop
 |[],_,env,J,K=>K env J
 |o::r,key,env,J,K=>∃g v J1,DStep xb P o key env J g v J1/\xA xb P r (key+16) (eu env o.dst g v) J1 K
structure oL (xb:a8)(P:Program)(bb:List cb)(N:Nat)(E:Nat->Env)(T:Nat->a')(G:Nat->Bool)(W:Nat->V):Prop where
 step:∀(i:Nat) o,bb[i]?=some o->DStep xb P o (N+16*i) (E i) (T i) (G i) (W i) (T (i+1))/\E (i+1)=eu (E i) o.dst (G i) (W i)
theorem H3:∀{bb:List cb} {key:Nat} {env:Env} {J:a'} {K:Env->a'->Prop},xA xb P bb key env J K->∃E T G W,oL xb P bb key E T G W/\E 0=env/\T 0=J/\K (E bb.length) (T bb.length)
 |[],key,env,J,K,h=>⟨λ_=>env,λ_=>J,λ_=>true,λ_=>.aY [],⟨λi o h=>by grind⟩,rfl,rfl,h⟩
 |o::r,key,env,J,K,h=>by
  obtain⟨g,v,J1,h1,a⟩:=h;obtain⟨E,T,G,W,ag,aM,c,bC⟩:=H3 a;refine⟨λi=>if i=0 then env else E (i-1),λi=>if i=0 then J else T (i-1),λi=>if i=0 then g else G (i-1),λi=>if i=0 then v else W (i-1),⟨λi b d=>?_⟩,rfl,rfl,by grind⟩;cases i with
  |zero=>grind
  |succ i=>
   have:=ag.step i b (by grind);grind
end
end
section
open Go
variable {xb:a8}
variable{p:Nat->Bool}{L:List (cb×a8)}{j:Nat}{o:cP}{env:Env}{a:Act}{S:dT}{w:World}{φ:dE}{J:a'}{D:Nat->a8}{Q:Exit->Act->World->Prop}
theorem Jf:∀{m:Nat},(∃i,i<m/\p i=true)->∃i,i<m/\p i=true/\∀j,j<m->p j=true->j<=i
 |0,⟨i,h,_⟩=>by omega
 |m+1,⟨i,h1,a⟩=>by
  cases d:p m with
  |true=>grind
  |false=>
   have:i<m:=(by grind);obtain⟨k,b,c,bc⟩:=Jf ⟨i,this,a⟩;grind
theorem x8{P:Program}{nt:Nat}{ops:Array Oper}:∀{l:List Oper} {bb:List cb},jt P nt ops l=some bb->bb.length=l.length
 |[],bb,h=>by grind[jt]
 |o::l,bb,h=>by
  simp[jt,br,bo]at h;obtain⟨a,b,r,ag,rfl⟩:=h;simp[x8 ag]
theorem GK{P:Program}{nt:Nat}{ops:Array Oper}:∀{l:List Oper} {bb:List cb} {i:Nat} {o:Oper},jt P nt ops l=some bb->l[i]?=some o->∃a,bb[i]?=some a/\wm P nt ops o=some a
 |[],bb,i,o,h,b=>by grind
 |x::l,bb,i,o,h,b=>by
  simp[jt,br,bo]at h;obtain⟨a,c,r,ag,rfl⟩:=h;cases i with
  |zero=>grind
  |succ i=>simpa using GK ag (by grind)
theorem HE:∀{l:List (cb×a8)} {k i:Nat} {x:cb×a8},Er k l=true->l[i]?=some x->∀d,d∈x.2->d<k+i
 |[],k,i,x,h,b,d,a=>by grind
 |y::r,k,i,x,h,b,d,a=>by
  simp[Er]at h;cases i with
  |zero=>grind
  |succ i=>
   have:=HE h.2 (by simpa using b) d a;omega
theorem aaB{i:Nat}(h:ahead L j i=true):j<i/\∃x,L[i]?=some x/\j∈x.2:=by
 grind[ahead]
theorem K1{key b:Nat}(ht:o.h9=true)(a:cJ xb o env key b=true):b∈ep xb o env key:=by
 cases o
 case call f args=>
  simp[cJ]at a;simp[ep];rcases a with h|h
  . exact .inl ⟨b-key,by omega,by omega⟩
  grind
 all_goals simp[cP.h9]at ht<;>simp[cJ,ep]at a⊢<;>first|exact a|(rcases a with h|h;exact .inl h;exact .inr (.inl h))
theorem Zy{key:Nat}(ht:o.h9=false):ep xb o env key=[]:=by
 cases o<;>simp[cP.h9]at ht<;>rfl
theorem LZ{key b:Nat}(a:cJ xb o env key b=true):o.neutral=false:=by
 cases o<;>simp[cJ]at a<;>rfl
theorem Nv{key b:Nat}(ht:o.h9=false)(a:cJ xb o env key b=true):key<=b/\b<key+16:=by
 cases o<;>simp[cP.h9]at ht<;>simp[cJ]at a
section
variable {P:Program}{aE:Ctx}{nt kk:Nat}{N:Nat}{ops:Array Oper}{bb:List cb}{E:Nat->Env}{T:Nat->a'}{G:Nat->Bool}{W:Nat->V}
theorem Rel.agZ{env':Env}{n:Nat->Bool}(R:Rel aE nt φ S env J n a w)(h:∀t,look env' t=look env t):Rel aE nt φ S env' J n a w:=
 ⟨R.bQ,λk g v af=>R.gK k g v (h k▸af),λk g v af=>R.hM k g v (h k▸af),λk g v af=>R.gJ k g v (h k▸af),R.dU,R.size,R.defers,R.ext,R.own,R.fix,R.fS⟩
def iP(xb:a8)(bb:List cb)(E:Nat->Env)(N i b:Nat):Bool:=match bb[i]? with|some o=>cJ xb o.op (E i) (N+16*i) b|none=>false
theorem vP(ag:oL xb P bb N E T G W){t:Nat}{i:Nat}:∀{k:Nat},i<=k->k<=bb.length->(∀(j:Nat) (o:cb),i<=j->j<k->bb[j]?=some o->o.dst≠some t)->look (E k) t=look (E i) t:=by
 intro k;induction k with
 |zero=>grind
 |succ k ih=>
  intro h1 c d;by_cases e:i=k+1
  . grind
  . have a:k<bb.length:=(by omega);have b:=e' a;rw[(ag.step k _ b).2,pI];grind
theorem Ew(ag:oL xb P bb N E T G W){b:Nat}{i:Nat}:∀{k:Nat},i<=k->k<=bb.length->(∀j:Nat,i<=j->j<k->iP xb bb E N j b=false)->aX (T k) b=aX (T i) b:=by
 intro k;induction k with
 |zero=>grind
 |succ k ih=>
  intro h1 f d;by_cases g:i=k+1
  . grind
  . have e:k<bb.length:=(by omega);have c:=e' e;have a:=d k (by omega) (by simp);unfold iP at a;rw[c]at a;have:=((ag.step k _ c).1.local (λ_ _=>rfl) (λ_ _=>rfl)).2 b a;grind
inductive jl (D:Nat->a8)(j:Nat):Nat->Prop
 |one {i:Nat} (h:j∈D i):jl D j i
 |step {e i:Nat} (h:jl D j e) (he:e∈D i):jl D j i
theorem jl.ready{n:Nat}(a:∀i d,i<n->d∈D i->d<i)(f:∀e,e<n->p e=true->∀d,d∈D e->p d=true){i:Nat}(h:jl D j i)(o:i<n)(c:∀d,d∈D i->p d=true):p j=true:=by
 induction h<;>grind
theorem jl.congr{a:Nat->a8}{n:Nat}(c:∀i d,i<n->d∈D i->d<i)(f:∀i,i<n->D i=a i){i:Nat}(h:jl D j i)(e:i<n):jl a j i:=by
 induction h with
 |one h=>exact .one (by grind)
 |step h he ih=>
  have:=c _ _ e he;exact .step (ih (by omega)) (by grind)
theorem JA:∀{l:List (cb×a8)} {acc:List a8},(∀(k:Nat) x,l[k]?=some x->D (acc.length+k)=x.2)->(∀i j,j∈acc.getD i []->jl D j i)->∀i j,j∈(nv l acc).getD i []->jl D j i
 |[],acc,_,b,i,j,h=>b i j h
 |x::r,acc,c,b,i,j,h=>by
  refine JA (acc:=acc++[(x.2++x.2.flatMap _).eraseDups]) (λk y m=>?_) (λi j a=>?_) i j h
  . have:=c (k+1) y (by grind);grind
  . rw[FM,List.getElem?_append]at a;split at a
    . grind
    . cases d:i-acc.length with
      |succ k=>grind
      |zero=>
       rw[d]at a;have f:i=acc.length:=(by omega);have g:=(by simpa using c 0 x rfl);simp[qf]at a;rcases a with a|⟨e,he,a⟩
       . exact .one (by grind)
       . exact .step (b e j a) (by grind)
structure Stat (xb:a8)(bb:List cb)(D:Nat->a8)(E:Nat->Env)(N:Nat):Prop where
 back:∀i d,i<bb.length->d∈D i->d<i
 w0:∀(i j:Nat) (x y:cb) (d:Nat),bb[i]?=some x->bb[j]?=some y->y.dst=some d->(d∈x.rd->(j<i/\j∈D i)\/(x.op.neutral=true/\x.op.h9=false/\i<j/\i∈D j))/\(i=j\/x.dst≠some d)
 ord:∀i j b,i≠j->i<bb.length->j<bb.length->iP xb bb E N i b=true->((∃y:cb,bb[j]?=some y/\b∈ep xb y.op (E j) (N+16*j))\/iP xb bb E N j b=true)->(i<j/\jl D i j)\/(j<i/\jl D j i)
def used(N m:Nat)(listed:Array Bool):Nat->Bool:=λb=>lt N b||(List.range m).any λi=>listed.getD i false&&(decide (N+16*i<=b)&&decide (b<N+16*i+16))
structure Inv (xb:a8)(aE:Ctx)(nt:Nat)(bb:List cb)(D:Nat->a8)(N:Nat)(E:Nat->Env)(T:Nat->a')(G:Nat->Bool)(W:Nat->V)(listed:Array Bool)(φ:dE)(S:dT)(env:Env)(J:a')(a:Act)(w:World):Prop where
 rel:Rel aE nt φ S env J (used N bb.length listed) a w
 size:listed.size=bb.length
 down:∀i,i<bb.length->listed.getD i false=true->∀d,d∈D i->listed.getD d false=true
 cZ:∀t,(∀(i:Nat) (o:cb),bb[i]?=some o->listed.getD i false=true->o.dst≠some t)->look env t=look (E 0) t
 aM:∀t (i:Nat) (o:cb),bb[i]?=some o->listed.getD i false=true->o.dst=some t->look env t=some (G i,W i)
 r6:∀b,(∀i,i<bb.length->listed.getD i false=true->iP xb bb E N i b=false)->aX J b=aX (T 0) b
 s1:∀b i,i<bb.length->listed.getD i false=true->iP xb bb E N i b=true->(∀j,j<bb.length->listed.getD j false=true->iP xb bb E N j b=true->j<=i)->aX J b=aX (T (i+1)) b
theorem mQ{listed:Array Bool}{i:Nat}(a:i<listed.size):(listed.setIfInBounds i true).getD j false=if j=i then true else listed.getD j false:=by
 by_cases h:j=i
 . simp_all
 simp_all[dX]
theorem Inv.agree{listed:Array Bool}(cv:Inv xb aE nt bb D N E T G W listed φ S env J a w)(st:Stat xb bb D E N)(ag:oL xb P bb N E T G W)
 {i:Nat}{o:cb}(U:bb[i]?=some o)(aG:listed.getD i false=false)(H:∀d,d∈D i->listed.getD d false=true):
 (∀t,t∈o.rd->look env t=look (E i) t)/\∀b,b∈ep xb o.op (E i) (N+16*i)\/cJ xb o.op (E i) (N+16*i) b=true->aX J b=aX (T i) b:=by
 have K:i<bb.length:=(ds.1 U).1;refine⟨λt ht=>?_,λb aK=>?_⟩
 . by_cases X:∃(j:Nat) (y:cb),bb[j]?=some y/\y.dst=some t
   . obtain⟨j,y,c,x⟩:=X;rcases (st.w0 i j o y t U c x).1 ht with⟨h1,F⟩|⟨_,_,h1,F⟩
     . rw[cv.aM t j y c (H j F) x];have:look (E (j+1)) t=some (G j,W j):=by rw[(ag.step j y c).2,pI,ae x]
       rw[<-this]
       symm
       refine vP ag (by omega) (by omega) λk z M O f B=>?_;rcases (st.w0 k j z y t f c x).2 with h|h
       all_goals grind
     . have q:j<bb.length:=(ds.1 c).1;have aC:∀(k:Nat) (z:cb),bb[k]?=some z->z.dst=some t->k=j:=by
        intro k z f B;rcases (st.w0 k j z y t f c x).2 with h|h
        . grind
        grind
       rw[cv.cZ t λk z f af B=>by
        have:=aC k z f B;subst this;have:=cv.down k q af i F
        grind]
       symm
       refine vP ag (hv _) (by omega) λk z _ a1 f B=>?_;grind
   . have A:=λj y c h=>X ⟨j,y,c,h⟩;rw[cv.cZ t λj y c _=>A j y c]
     symm
     exact vP ag (hv _) (by omega) λj y _ _ c=>A j y c
 . have Y:∀j,j≠i->j<bb.length->iP xb bb E N j b=true->(j<i/\jl D j i)\/(i<j/\jl D i j):=by
    intro j q e v;refine st.ord j i b q e K v ?_;grind[iP]
   have af:∀j,j<bb.length->listed.getD j false=true->iP xb bb E N j b=true->j<i:=by
    intro j e R v;have ax:j≠i:=(by grind);rcases Y j ax e v with h|h
    . grind
    . have:=h.2.ready st.back cv.down e (cv.down j e R);grind
   have ap:∀j,j<i->iP xb bb E N j b=true->listed.getD j false=true:=by
    intro j a0 v;rcases Y j (by omega) (by omega) v with h|h
    . exact h.2.ready (p:=λk=>listed.getD k false) st.back cv.down K H
    grind
   by_cases Z:∃j,j<i/\iP xb bb E N j b=true
   . obtain⟨j,am,L,an⟩:=Jf Z;rw[cv.s1 b j (by omega) (ap j am L) L (λk M O Q=>an k (af k M O Q) Q)];grind[Ew]
   . have A:∀j,j<i->iP xb bb E N j b=false:=(by grind);rw[cv.r6 b λj e R=>by grind]
     symm
     exact Ew ag (hv _) (by omega) λj _ q=>A j q
theorem acp{m:Nat}{listed:Array Bool}{i b:Nat}(a:i<listed.size)(h:eH (used N m listed) (N+16*i) b=true)(c:i<m):used N m (listed.setIfInBounds i true) b=true:=by
 simp only[eH,used,iv]at h⊢;grind[mQ]
theorem K3{m:Nat}{listed:Array Bool}{i:Nat}(aG:listed.getD i false=false){b:Nat}(h1:N+16*i<=b)(a:b<N+16*i+16):used N m listed b=false:=by
 simp only[used];grind[lt]
theorem Inv.step{listed:Array Bool}{U:dE}{bR:dT}{bq:a'}{F:Act}{w':World}(cv:Inv xb aE nt bb D N E T G W listed φ S env J a w)(st:Stat xb bb D E N)(ag:oL xb P bb N E T G W)
 {i:Nat}{o:cb}(A:bb[i]?=some o)(aG:listed.getD i false=false)(Y:∀d,d∈D i->listed.getD d false=true)
 (H:∀b,aX bq b=if cJ xb o.op (E i) (N+16*i) b then aX (T (i+1)) b else aX J b)
 (R:Rel aE nt U bR (eu env o.dst (G i) (W i)) bq (eH (used N bb.length listed) (N+16*i)) F w'):
 Inv xb aE nt bb D N E T G W (listed.setIfInBounds i true) U bR (eu env o.dst (G i) (W i)) bq F w':=by
 have q:i<bb.length:=(ds.1 A).1;have f:i<listed.size:=by rw[cv.size];exact q
 have O:∀b,iP xb bb E N i b=cJ xb o.op (E i) (N+16*i) b:=λb=>by unfold iP;rw[A]
 refine⟨R.more λb x=>acp f x q,by simp[cv.size],λj c af d K=>?_,λt ht=>?_,λt j y B af Q=>?_,λb x=>?_,λb j c af M L=>?_⟩
 . rw[mQ f]at af⊢;split
   . rfl
   . split at af
     . rename_i e;subst e;exact Y d K
     . exact cv.down j c af d K
 . rw[pI,al (ht i o A (by rw[mQ f,ae rfl]))];exact cv.cZ t λj y B af=>ht j y B (by rw[mQ f];split;rfl;exact af)
 . rw[pI];rw[mQ f]at af;by_cases p:j=i
   . grind
   . rw[al p]at af;rw[al (λh=>?_)]
     . exact cv.aM t j y B af Q
     . rcases (st.w0 i j o y t A B Q).2 with X|X
       all_goals grind
 . rw[H b];have v:=x i q (by rw[mQ f,ae rfl]);rw[O]at v;rw[v];exact cv.r6 b λj c af=>x j c (by grind[mQ])
 . rw[H b];rw[mQ f]at af;by_cases v:cJ xb o.op (E i) (N+16*i) b=true
   . have an:i<=j:=L i q (by simp_all) (by grind);by_cases p:j=i
     . grind
     ·
      rw[al p]at af;rcases st.ord i j b (dX p) q c (by rw[O];exact v) (.inr M)with h|h
      . have:=h.2.ready st.back cv.down c (cv.down j c af);rw[aG]at this;cases this
      . omega
   . rw[al v];by_cases p:j=i
     . grind
     . rw[al p]at af;exact cv.s1 b j c af M λk Z ap am=>L k Z (by grind[mQ]) am
theorem Inv.done{listed:Array Bool}(cv:Inv xb aE nt bb D N E T G W listed φ S env J a w)(st:Stat xb bb D E N)(ag:oL xb P bb N E T G W)
 (x:∀i,i<bb.length->listed.getD i false=true):Rel aE nt φ S (E bb.length) (T bb.length) (lt (N+16*bb.length)) a w:=by
 refine((cv.rel.agZ λt=>?_).congr λb=>?_).more λb A=>?_
 . by_cases q:∃(j:Nat) (y:cb),bb[j]?=some y/\y.dst=some t
   . obtain⟨j,y,c,v⟩:=q;have o:=(ds.1 c).1;rw[cv.aM t j y c _ _];have:look (E (j+1)) t=some (G j,W j):=by rw[(ag.step j y c).2,pI,ae v]
     rw[<-this];refine vP ag (by omega) (dV _) λk z f L O Q=>?_;rcases (st.w0 k j z y t O c v).2 with h|h
     all_goals grind
   . have e:=λj y c h=>q ⟨j,y,c,h⟩;rw[cv.cZ t λj y c _=>e j y c];exact vP ag (hv _) (dV _) λj y _ _ c=>e j y c
 . by_cases B:∃j,j<bb.length/\iP xb bb E N j b=true
   . obtain⟨j,p,F,H⟩:=Jf B;rw[cv.s1 b j p (x j p) F (λk f _ M=>H k f M)];refine Ew ag (by omega) (dV _) λk f L=>?_;grind
   . have e:∀j,j<bb.length->iP xb bb E N j b=false:=(by grind);rw[cv.r6 b λj K _=>e j K];exact Ew ag (hv _) (dV _) λj _ o=>e j o
 . simp[used,lt]at A⊢;grind
theorem Yi(st:Stat xb bb D E N)(ag:oL xb P bb N E T G W)(hres:jt P nt ops ops.toList=some bb)(q:∀(i:Nat) o,ops[i]?=some o->D i=hn o)
 (v:∀φ S a w,Rel aE nt φ S (E bb.length) (T bb.length) (lt (N+16*bb.length)) a w->Q .normal a w):
 ∀(f:Nat) (listed:Array Bool) φ S env J a w,listed.toList.countP (· ==false)<=f->Inv xb aE nt bb D N E T G W listed φ S env J a w->wpAny P .any ops Q f listed a w:=by
 have F:=x8 hres;simp at F;have H:∀(listed:Array Bool) (φ:dE) (S:dT) (env:Env) (J:a') (a:Act) (w:World),Inv xb aE nt bb D N E T G W listed φ S env J a w->Region.ready .any ops listed=[]->∀i,i<bb.length->listed.getD i false=true:=by
  intro listed φ S env J a w cv k i;induction i using Nat.strongRecOn with
  |_ i ih=>
   intro g;cases af:listed.getD i false with
   |true=>rfl
   |false=>
    have C:i<ops.size:=(by omega);have j:ops[i]?=some ops[i]:=BX C;have:i∈Region.ready .any ops listed:=by
     rw[mem_ready];refine⟨?_,ops[i],j,λe he R=>?_⟩
     . have m:i<listed.size:=by rw[cv.size];grind
       grind
     . have c:e.on∈D i:=by
        rw[q i _ j];simp only[hn,e0,r1];grind
       exact ih e.on (st.back i _ g c) (by have:=st.back i _ g c;omega)
    grind
 have r:∀(listed:Array Bool) (φ:dE) (S:dT) (env:Env) (J:a') (a:Act) (w:World),Inv xb aE nt bb D N E T G W listed φ S env J a w->Region.ready .any ops listed=[]->Q .normal a w:=by
  intro listed φ S env J a w cv k;exact v φ S a w (cv.done st ag (H listed φ S env J a w cv k))
 intro f;induction f with
 |zero=>
  intro listed φ S env J a w B cv;have O:∀i,i<bb.length->listed.getD i false=true:=by
   intro i g;have m:i<listed.size:=by rw[cv.size];grind
   cases af:listed.getD i false with
   |true=>rfl
   |false=>
    exfalso;have h0:listed.toList.countP (· ==false)=0:=(by omega);rw[List.countP_eq_zero]at h0;simp[m]at af;exact h0 listed[i] (by simp) (by grind)
  have k:Region.ready .any ops listed=[]:=by
   rw[Su];grind[mem_ready]
  exact⟨k,r listed φ S env J a w cv k⟩
 |succ f ih=>
  intro listed φ S env J a w B cv;refine⟨r listed φ S env J a w cv,λi g=>?_⟩;rw[mem_ready]at g;obtain⟨h1,o,j,U⟩:=g;have m:i<listed.size:=by grind
  have aG:listed.getD i false=false:=by grind
  obtain⟨n,p,I⟩:=GK hres (i:=i) (o:=o) (by simpa using j);have c:∀d,d∈D i->listed.getD d false=true:=by
   intro d c;rw[q i o j]at c;simp only[hn,e0,r1]at c;grind
  obtain⟨x,y⟩:=cv.agree st ag p aG c;obtain⟨⟨bq,hs,u⟩,_⟩:=(ag.step i n p).1.local (env':=env) (J':=J) x y;have t:=DU cv.rel (key:=N+16*i) (λb z A=>K3 aG z A) I (K:=λe s=>e=eu env n.dst (G i) (W i)/\s=bq) (hs.hf ⟨rfl,rfl⟩) (Q:=Q);have next:∀l w',j1 aE nt (eH (used N bb.length listed) (N+16*i)) (λe s=>e=eu env n.dst (G i) (W i)/\s=bq) l w'->wpAny P .any ops Q f (listed.setIfInBounds i true) l w':=by
   rintro l w' ⟨M,bR,e,s,⟨rfl,rfl⟩,R'⟩
   refine ih _ M bR _ _ l w' ?_ (cv.step st ag p aG c u R');have:listed.toList[i]?=some false:=by simp[m]at aG⊢;exact aG
   grind
  unfold wpOp;rw[j];dsimp only;split at t
  . rename_i L;rw[ae L];exact .inl (Oper.wp_mono next t)
  grind
end
end
end Go.Proofs.YtdjagncoefjfeaaGreat.Shv
