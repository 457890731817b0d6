/- The library of this proof, part B: an abstract machine for the code of the program, and its soundness. -/
import Derived.Lib.UnsafeStr
import Derived.Orders
import Derived.LoopN
import Derived.Test.YtdjagncoefjfeaaGreatCmLA

namespace Go.Proofs.YtdjagncoefjfeaaGreat.Shv
set_option linter.all false
section
open Go
theorem C.me(c:C):c.aA (λ_=>true)=true:=by cases c<;>simp[C.aA]
variable{e ty t:TypeId}{o:Oper}{α:Type}{c:Call}{op:Op}{f id b0 off:Nat}{dst:Option Nat}{x:Value}{ops:Array Oper}{gd:Option (Nat×Bool)}{K:Env->a8->Prop}{Q:Exit->Act->World->Prop}{code:Code}{aZ:List cb}{fY:List (Nat×Nat)}{bs:a7}{es:List (List T)}
section
variable {P:Program}{aC:Ctx}{nt kk:Nat}{φ:dE}{S bQ:dQ}{env:Env}{J:a8}{N key:Nat}{n:Nat->Bool}{a:Act}{w w':World}
theorem Rel.extend(R:Rel aC nt φ S env J n a w)(e:Ext (λ_=>False) S bQ w w')(O:∀b j,bQ b j->b<w'.heap.size):Rel aC nt φ bQ env J n a w':=by
 have aa:∀b:Nat,b<w.heap.size->w'.heap[b]?=w.heap[b]?:=λb N=>e.block b N (λh=>h);have z:∀b x,aW J b=some x->(φ b).2≠0->∀j,¬bQ (φ b).1 j:=by
  intro b x q h0 j F;have dm:=R.bP.blk b x q;rcases e.rF _ _ F with h|h|h
  . exact dm.pX h0 j h
  . exact h
  . have:=dm.ki h0;omega
 refine⟨⟨λb x q=>?_,R.bP.inj,O⟩,λk g v af al=>?_,R.hI,R.gE,R.dN,R.size,R.defers,?_,R.own,R.fix,R.fQ⟩
 . have dm:=R.bP.blk b x q;cases x with
   |box cs=>
    obtain⟨h0,vs,E,h1,f,u⟩:=dm;refine⟨h0,vs,E,(aa _ (lK h1)).trans h1,f.imp λc v Q y=>bm.mono (n:=λ_=>true) e.mono (λ_ _=>rfl) (C.me _) y,z b _ q h0⟩
   |arr sz es=>
    obtain⟨h1,f,u,B,ba⟩:=dm;refine⟨h1,f,u,B,λh0=>?_⟩;obtain⟨vs,E,A,H,K,L⟩:=ba h0;exact⟨vs,E,(aa _ (lK A)).trans A,H,λi j D t he ht=>let⟨v,G,y⟩:=K i j D t he ht;⟨v,G,cf.mono e.mono y⟩,z b _ q h0⟩
   |set ks=>
    obtain⟨h0,⟨es,c,h1,f⟩,u⟩:=dm;exact⟨h0,⟨es,c,(aa _ (lK h1)).trans h1,f⟩,z b _ q h0⟩
   |buf E s=>
    obtain⟨h1,f,u⟩:=dm;refine⟨h1,f,λh0=>?_⟩;grind
   |b8 E c=>
    obtain⟨h0,⟨p,v,h1,f,u⟩,B⟩:=dm;exact⟨h0,⟨p,v,(aa _ (lK h1)).trans h1,f,bm.mono (n:=λ_=>true) e.mono (λ_ _=>rfl) (C.me _) u⟩,z b _ q h0⟩
   |cA sz es i o c=>
    obtain⟨⟨h1,f,u,B,ba,M⟩,⟨vs,E,A,H,K,v,L,P⟩,U⟩:=dm;exact⟨⟨h1,f,u,B,ba,M⟩,⟨vs,E,(aa _ (lK A)).trans A,H,λi j D t he ht aD=>let⟨v,G,y⟩:=K i j D t he ht aD;⟨v,G,cf.mono e.mono y⟩,v,L,bm.mono (n:=λ_=>true) e.mono (λ_ _=>rfl) (C.me _) P⟩,z b _ q (by omega)⟩
 . obtain⟨x,q,y⟩:=R.gF k g v af al;exact⟨x,q,cm.mono e.mono (λ_ _=>rfl) (R.gE k g v af al) y⟩
 . refine⟨e.os.trans R.ext.os,e.tape.trans R.ext.tape,e.output.trans R.ext.output,h9 R.ext.size e.size,λb aB dm=>?_,R.ext.mono.trans e.mono,λb j F=>?_⟩
   . exact(aa b (lT aB R.ext.size)).trans (R.ext.block b aB dm)
   . rcases e.rF _ _ F with h|h|h
     . exact R.ext.rF b j h
     . exact h.elim
     . exact .inr (.inr (h9 R.ext.size h))
theorem XK(R:Rel aC nt φ S env J n a w){len:Nat}{parts:Array (Nat×Operand)}(Q:o.op= .buildSlice ty len parts)(W:P.underlying ty=some (.slice e)){sz:Nat}(V:eI P e=some sz)
 {z:List C}(Z:kU P e=some z){ps:List (Nat×aP)}(U:pz parts.toList=some ps)(h0:sz≠0)(A:z.length=sz)(O:len*sz<=2^24)
 {p v J'}(af:n key=false)(h:aO (.bsliceT e sz len z ps) env J key=some (p,v,J'))(T:p):Good P aC nt env J' (ins n key) a v ((execOp a.eval o).run P w):=by
 simp only[aO,bp,bb,bB]at h;obtain⟨m,B,⟨q,ds⟩,k,rfl,rfl,rfl⟩:=h;obtain⟨i,g,d,ad,s,ae⟩:=u1 (φ:=φ) (w:=w) (S:=S) (n:=n) Z;have ab:=tC B s;have aa:g.cells.size=sz:=by rw[<-rv,<-s.length,A]
 have l:0<sz:=by omega
 have ah:m.length=sz:=by rw[zg B,A]
 obtain ⟨us,h1,I,r,K,ba,_⟩:= G4 R l U k T (es:= List.replicate len m) (vs:= ((Array.range (len*sz)).map (g.cells[· % g.cells.size]!)).toList) (by
  grind) (by simp) (by
  intro i j e t he ht;have d:=(c5.1 he).1;simp at d;have:e=m:=by
   have:=eM he;exact BD this
  subst this;have N:=(c5.1 ht).1;obtain⟨x,Y,f⟩:=ab.get ht;refine⟨x,?_,f⟩;rw[Fc,SU aa l i j d (by omega)]
  simpa using Y)
 simp at r;have ag:us.length=len*sz:=by rw[K];simp
 have u:len<=eG:=by
  have:len<=len*sz:=E' len l;unfold eG;omega
 have y:∀b j,S b j->b<w.heap.size:=R.bP.st;have D:gq w S (w.alloc (.cells us.toArray e)) (λb j=>S b j\/b=w.heap.size):=⟨λ_ _ h=>.inl h,λb j h=>qB (BU (y b j h)) j⟩
 have E:Ext (λ_=>False) S (λb j=>S b j\/b=w.heap.size) w (w.alloc (.cells us.toArray e)):=
  ⟨rfl,rfl,rfl,by simp,λb k _=>BU k,D,λb j h=>by grind⟩
 have F:=R.extend E (λb j h=>by
  rcases h with h|h
  . have:=y b j h;simp;omega
  simp_all)
 refine⟨.slice (some ⟨w.heap.size,0,none⟩) len len,φ,_,_,.inl ?_,?_,rfl,F.more λ_ h=>kJ h⟩
 . have H:Instr.fill (λi=>some (i*sz,sz)) ((Array.range (len*sz)).map (g.cells[· % g.cells.size]!)) ((parts.map λ(i,x)=>(i,a.eval x)).toList)=some us.toArray:=by
    rw[Array.toList_map];exact h1
   have f:=Sf (P:=P) (w:=w) W V d ad h0 O rfl H;simp only[execOp,Q,Sem.run_bind,f,Result.andThen_ok];rfl
 . refine .c ?_;have L:ds.length=len:=r;show cf _ _ (.slice ds) _;rw[<-L]at u⊢;have M:∀j,(w.alloc (.cells us.toArray e)).cell? ⟨w.heap.size,j,none⟩=us[j]?:=λj=>ju pL j;refine cf.slice ds _ _ sz w.heap.size 0 (λi j=>(us[i*sz+j]?).getD undef) (ef _) u I (λ_=>rfl) (λi j d N=>⟨.inr rfl,?_⟩) (λi j G t he ht=>?_)
   . rw[ga,M];have aB:i*sz+j<us.length:=by
      have:=eW sz (show i+1<=ds.length from d);grind
     rw[eH aB];rfl
   . obtain⟨v,X,f⟩:=ba i j G t he ht;rw[X];exact cf.mono D f
theorem WI{e8:Nat}(h:zc P ty=some e8):∃i z,P.info? ty=some i/\i.zero=some z/\z.cells=#[.pointer none,.slice none 0 0]:=by
 unfold zc at h;by_cases a:JM P ty=true/\IE P ty=true
 . obtain⟨_,a⟩:=a;unfold IE at a;cases b:(P.info? ty).bind (·.zero)with
   |none=>rw[b]at a;cases a
   |some z=>
    rw[b]at a;simp only[bp]at b;obtain⟨i,c,b⟩:=b;refine⟨i,z,c,b,?_⟩;dsimp only at a;unfold SP at a;grind
 grind
theorem Xk(R:Rel aC nt φ S env J n a w)(A:o.op= .alloc ty){e8:Nat}(m:zc P ty=some e8)
 {p v J'}(r:n key=false)(t:n (key+1)=false)(h:aO (.allocS ty e8) env J key=some (p,v,J'))(E:p):Good P aC nt env J' (ins (ins n (key+1)) key) a v ((execOp a.eval o).run P w):=by
 simp only[aO,bF,bB]at h;obtain⟨rfl,rfl,rfl⟩:=h;obtain⟨i,z,q,B,D⟩:=WI m;have u:∀j,¬S w.heap.size j:=λj h=>by have:=R.bP.st _ _ h;omega
 have f:=(R.alloc (.cells #[.pointer none,.slice none 0 0] ty)).jQ t (x:= .buf e8 []) (0,0) rfl (by simp[c1,dA]) (by simp);have s:ins n (key+1) key=false:=by simp[ins,r]
 have g:=f.jQ s (x:= .b8 ty (.cG (key+1) 0)) (w.heap.size,1) (by simp[bO.aA,C.aA,ins]) (by
  simp only[c1,dA];refine⟨by simp,⟨.pointer none,.slice none 0 0,pL,.inl rfl,?_⟩,u⟩
  simp[bm,fF]) (λ_=>⟨λk y b h0=>by
   rw[cV]at b;split at b
   . rename_i e;subst e;simp[dA]at h0
   . rename_i d;have l:(φ k).2≠0:=(by simpa[fF,dJ d]using h0);have:=(R.bP.blk k y b).ki l;simp only[fF,dJ d,b6]
     omega,.inr R.ext.size⟩)
 refine⟨.pointer (some ⟨w.heap.size,0,none⟩),_,S,_,.inl ?_,.c ?_,by simp[V.aA,C.aA,ins],g⟩
 . simp[execOp,A,Instr.alloc,zeroValue,typeInfo,q,B,newVar,newRow,D]
 . simp[bm,dA]
theorem Tj(h:tI P t=true):∃k v i,P.underlying t=some (.map k v)/\P.underlying k=some .string/\P.info? v=some i/\i.zero=some (.bool false):=by
 unfold tI at h;split at h
 . rename_i k v d;simp only[cd]at h;obtain⟨h1,a⟩:=h;split at h1
   . rename_i c e;split at a
     . rename_i b;simp only[bp]at b;grind
     . cases a
   . cases h1
 . cases h
theorem Ys(R:Rel aC nt φ S env J n a w)(f:o.op= .makeMap t none)
 {p v J'}(d:n key=false)(h:aO .mkset env J key=some (p,v,J'))(i:p):Good P aC nt env J' (ins n key) a v ((execOp a.eval o).run P w):=by
 simp only[aO,bF,bB]at h;obtain⟨rfl,rfl,rfl⟩:=h;have e:∀j,¬S w.heap.size j:=λj h=>by have:=R.bP.st _ _ h;omega
 have b:=(R.alloc (.map #[] 0)).jQ d (x:= .set []) (w.heap.size,1) rfl (by
  simp only[c1,dA]
  exact⟨by simp,⟨[],0,pL,.nil⟩,e⟩) (λ_=>⟨λk y g h0=>by
   have:=(R.bP.blk k y g).ki h0
   omega,.inr R.ext.size⟩)
 refine⟨.map (some w.heap.size),_,S,_,.inl ?_,.c ?_,by simp[V.aA,C.aA,ins],b⟩
 . simp[execOp,f,Instr.makeMap]
 . simp[bm,dA]
theorem Xl{s:ByteArray}{k:aj}:(s==(⟨k.toArray⟩:ByteArray))=decide (k=s.data.toList):=by
 rw[beq_toListBytes,ByteArray.toList_eq,ByteArray.toList_eq];grind
theorem GA(s:ByteArray):∀{ks:List aj} {es:List MapEntry} (i:Nat),Aq ks es->
 (jd ks s.data.toList=false/\Instr.findNow .string (.string s) es i=some none)\/
 (jd ks s.data.toList=true/\∃j e,Instr.findNow .string (.string s) es i=some (some (i+j,.bool true))/\es[j]?=some e/\e.key= .string s/\e.val= .bool true)
 |_,_,i,.nil=>.inl ⟨rfl,rfl⟩
 |k::ks,e::es,i,.cons h o=>by
  obtain⟨h1,f⟩:=h;have a:(s==(⟨k.toArray⟩:ByteArray))=decide (k=s.data.toList):=Xl;by_cases b:k=s.data.toList
  . refine .inr ⟨by simp[jd,b],0,e,?_,rfl,?_,f⟩
    . rw[show decide (k=s.data.toList)=true by simp[b]]at a;simp only[Instr.findNow,h1,Instr.sameNow,a,f,l0]
    simp_all
  . rcases GA s (i+1) o with⟨c,d⟩|⟨c,j,g,d,l,m,n⟩
    . refine .inl ⟨by simpa[jd,b]using c,?_⟩;rw[show decide (k=s.data.toList)=false by simp[b]]at a;simp only[Instr.findNow,h1,Instr.sameNow,a];exact d
    . refine .inr ⟨by simpa[jd,b]using c,j+1,g,?_,by simpa using l,m,n⟩;rw[show decide (k=s.data.toList)=false by simp[b]]at a;simp only[Instr.findNow,h1,Instr.sameNow,a];grind
theorem CC{a:TypeId}(b:P.underlying a=some .string){s:ByteArray}{es:List MapEntry}{r:Option (Nat×Value)}(h:Instr.findNow .string (.string s) es 0=some r)(w:World):(Instr.findKey a (.string s) es).run P w= .ok r w:=by
 unfold Instr.findKey;simp only[Sem.run_bind,run_underlying b,Result.andThen_ok,h,Sem.run_pure]
theorem C4{a:TypeId}(c:P.underlying a=some .string){s:ByteArray}(b:Bool)(w:World):(Instr.checkKey b 10000 a (.string s)).run P w= .ok () w:=by
 show(Instr.checkKey b (9999+1) a (.string s)).run P w= .ok () w;unfold Instr.checkKey;simp only[Sem.run_bind,run_underlying c,Result.andThen_ok,Sem.run_pure]
theorem CO{b:Nat}{es:Array MapEntry}{c:Nat}(h:w.heap[b]?=some (.map es c)):(getObj b).run P w= .ok (.map es c) w:=by simp[getObj,Sem.run,h]
theorem IW{b:Nat}{es:Array MapEntry}{c:Nat}(o:Obj)(h:w.heap[b]?=some (.map es c)):(setObj b o).run P w= .ok () {w with heap:=w.heap.setIfInBounds b o}:=by
 simp[setObj,Sem.run,h]
theorem Yt(R:Rel aC nt φ S env J n a w){x k:Operand}(q:o.op= .lookup t x k false)(ht:tI P t=true){l g:aP}(F:bK x=some l)(E:bK k=some g)
 {p v J'}(L:n key=false)(h:aO (.lkset l g) env J key=some (p,v,J'))(r:p):Good P aC nt env J' (ins n key) a v ((execOp a.eval o).run P w):=by
 simp only[aO,bp]at h;obtain⟨⟨Q,U⟩,C,⟨O,T⟩,B,he⟩:=h;simp only at he;obtain⟨N,I,i,u,c,D,G⟩:=Tj ht;split at he
 . rename_i b s;split at he
   . rename_i ks y;simp only[bF,bB]at he;obtain⟨rfl,rfl,rfl⟩:=he;have h1:a.eval x= .map (some (φ b).1):=(cz R F C r.1).1.dW;obtain⟨bs,m,rfl,_⟩:=cm.km (cz R E B r.2).1;obtain⟨h0,⟨es,K,aa,z⟩,M⟩:=R.bP.blk _ _ y;refine Good.pure R (x:= .bool (jd ks bs.data.toList)) ?_ (.r3 _) rfl;have H:(zeroValue I).run P w= .ok (.bool false) w:=(by simp[zeroValue,typeInfo,D,G]);have A:=GA bs 0 z;rcases A with⟨d,f⟩|⟨d,j,e,f,_⟩
     . simp[execOp,q,h1,m,Instr.lookup,run_underlying u,CO aa,C4 c,CC c f,H,d]
     . simp[execOp,q,h1,m,Instr.lookup,run_underlying u,CO aa,C4 c,CC c f,d]
   . cases he
 . cases he
theorem Zj{ks:List aj}{es:List MapEntry}(h:Aq ks es)(s:ByteArray)(a:Nat):Aq (ks++[s.data.toList]) (es++[{key:= .string s,val:= .bool true,born:=a}]):=
 h.append (.cons ⟨by cases s;simp,rfl⟩ .nil)
theorem a'.modify{c:Type}{R:α->c->Prop}{f:c->c}:∀{l:List α} {m:List c} {j:Nat},a' R l m->(∀a b,R a b->m[j]?=some b->R a (f b))->a' R l (m.modify j f)
 |_,_,_,.nil,_=>by simpa using a'.nil
 |_,_,0,.cons h e,k=>.cons (k _ _ h rfl) e
 |_,_,j+1,.cons h e,k=>by
  simp only[List.modify_succ_cons];exact .cons h (a'.modify e λa b o p=>k a b o (by simpa using p))
theorem Yu(R:Rel aC nt φ S env J n a w){x k v0:Operand}(B:o.op= .mapUpdate t x k v0)(ht:tI P t=true)(r:Gy v0=true){y u:aP}(V:bK x=some y)(N:bK k=some u)
 {p v J'}(ae:n key=false)(h:aO (.upset y u) env J key=some (p,v,J'))(C:p):Good P aC nt env J' (ins n key) a v ((execOp a.eval o).run P w):=by
 simp only[aO,bp]at h;obtain⟨⟨ak,an⟩,M,⟨aj,al⟩,L,he⟩:=h;simp only at he;obtain⟨ai,am,i,D,f,ad,ag⟩:=Tj ht;have E:a.eval v0= .bool true:=by
  unfold Gy at r;split at r
  . rfl
  . cases r
 split at he
 . rename_i b s;split at he
   . rename_i ks A;simp only[bF,bB]at he;obtain⟨rfl,rfl,rfl⟩:=he;have h1:a.eval x= .map (some (φ b).1):=(cz R V M C.1).1.dW;obtain⟨bs,z,rfl,_⟩:=cm.km (cz R N L C.2).1;obtain⟨h0,⟨es,c,aa,q⟩,Q⟩:=R.bP.blk _ _ A;have aB:=lK aa;have W:∃es' g,(execOp a.eval o).run P w= .ok .skip {w with heap:=w.heap.setIfInBounds (φ b).1 (.map es' g)}/\Aq (iR ks bs.data.toList) es'.toList:=by
      have K:=GA bs 0 q;rcases K with⟨l,d⟩|⟨l,j,e,d,F,G,Z⟩
      . refine⟨es.toArray.push {key:= .string bs,val:= .bool true,born:=c},c+1,?_,?_⟩
        . simp[execOp,B,h1,z,E,Instr.mapUpdate,run_underlying D,CO aa,C4 f,CC f d,IW _ aa]
        . simp only[iR,l,bV,b6,List.push_toArray,Array.toList_push];simpa using Zj q bs c
      . refine⟨es.toArray.modify j λe=>{e with key:= .string bs,val:= .bool true},c,?_,?_⟩
        . have U:Instr.sameBits 10000 (Value.string bs) (Value.string bs)=true:=by
           show Instr.sameBits (9999+1) _ _=true;simp only[Instr.sameBits];rw[beq_toListBytes];simp
          have O:∀w,(Instr.keyThatStays (Value.string bs) (Value.string bs)).run P w= .ok (Value.string bs) w:=by intro w;unfold Instr.keyThatStays;rw[U];rfl
          rw[ga]at d;simp[execOp,B,h1,z,E,Instr.mapUpdate,run_underlying D,CO aa,C4 f,CC f d,IW _ aa,F,G,O]
        . simp only[iR,l,bS];rw[Array.toList_modify];refine a'.modify q λah Y af ab=>?_;grind
     obtain⟨es',g,T,I⟩:=W;refine⟨undef,φ,S,_,.inr ⟨T,rfl⟩,.undef,rfl,Rel.more ?_ λ_ h=>kJ h⟩;refine R.rewrite A h0 rfl rfl rfl rfl (by simp) (λX H=>by simp[Q4,dJ H]) (λm=>?_);exact⟨h0,⟨es'.toList,g,by simp[aB],I⟩,Q⟩
   . cases he
 . cases he
theorem Wo{st k:TypeId}{i:TypeInfo}{c:Value}(u:P.underlying st=some (.slice e))(A:P.underlying k=some .string)(g:P.info? e=some i)(B:i.zero=some c)(D:c.cells.size=i.size)
 {base:Option Addr}{sl sc a:Nat}{y:Value}{xs f:List Value}(z:(Builtin.lenOf y).run P w= .ok a w)
 (v:(Builtin.firstCells i.size sl (.slice base sl sc)).run P w.drew= .ok xs.toArray w.drew)(x:(Builtin.firstCells i.size a y).run P w.drew= .ok f.toArray w.drew)
 (s:sc<sl+a)(n:lC (sl+a) i.bytes)(p:sl+a<=eG){tt:TypeId}:
 ∃(b:Nat) (r:List Value),sl+a<=b/\r.length=(b-(sl+a))*i.size/\
  (Builtin.append_ #[st,k] tt #[.slice base sl sc,y]).run P w= .ok (.slice (some ⟨w.heap.size,0,none⟩) (sl+a) b) (w.drew.alloc (.cells (xs++f++r).toArray e)):=by
 have t:∀w,(sizeOf e).run P w= .ok i.size w:=λw=>by simp[sizeOf,typeInfo,g]
 have d:∀w,(typeInfo e).run P w= .ok i w:=λw=>by simp[typeInfo,g]
 have C:∀w,(zeroValue e).run P w= .ok c w:=λw=>by simp[zeroValue,d,B]
 generalize j:(Question.appendCap (sl+a) sc e).cut (w.tape w.drawn (Question.appendCap (sl+a) sc e))=b;have q:sl+a<=b:=by rw[<-j];simp[Question.cut]
 have h1:¬(sl+a<=sc):=by omega
 have l:¬(((sl+a:Nat):Int)>IntKind.i64.max/\(False\/i.bytes=0)):=by intro h;have:=h.1;simp[IntKind.max,IntKind.signed,IntKind.bits]at this;unfold eG at p;omega
 have m:¬(Builtin.nextslicecap (sl+a) sc*i.bytes>2^48):=by
  exact n.not s
 refine⟨b,(Builtin.zeroCells c.cells (b-(sl+a))).toList,q,by simp[Sg,D],?_⟩;have o:(choose (.appendCap (sl+a) sc e)).run P w= .ok b w.drew:=by rw[run_choose];simp only[Question.forced,bV,b6,j];rfl
 have aK:(xs++f++(Builtin.zeroCells c.cells (b-(sl+a))).toList).toArray=xs.toArray++f.toArray++Builtin.zeroCells c.cells (b-(sl+a)):=by grind
 rw[aK];unfold Builtin.append_;simp only[BH,yb,BE,Sem.run_bind,run_underlying u,run_underlying A,Result.andThen_ok,t,Sem.run_pure,bV,b6,z,ak h1,d];rw[ak (by simpa using l)];simp only[Sem.run_bind,Sem.run_pure,Result.andThen_ok,d];rw[ak m];simp only[Sem.run_bind,Sem.run_pure,Result.andThen_ok,d,o,run_askRoom,v,x,C,eN,bS];simp only[newRow,Sem.run_bind,run_newObj,Result.andThen_ok,Sem.run_pure];rfl
theorem RX{st c:TypeId}{i:TypeInfo}(l:P.underlying st=some (.slice e))(o:P.underlying c=some .string)(g:P.info? e=some i)
 {base:Option Addr}{sl sc b:Nat}{y:Value}{d:List Value}(n:(Builtin.lenOf y).run P w= .ok b w)(m:(Builtin.firstCells i.size b y).run P w= .ok d.toArray w)(j:sl+b<=sc){w':World}
 (hs:∀a,base=some a->(storeCells (a.add (sl*i.size)) d 0).run P w= .ok () w') (f:base=none->w'=w) {tt:TypeId}:
  (Builtin.append_ #[st,c] tt #[.slice base sl sc,y]).run P w= .ok (.slice base (sl+b) sc) w':=by
 have k:∀w,(sizeOf e).run P w= .ok i.size w:=λw=>by simp[sizeOf,typeInfo,g]
 unfold Builtin.append_;simp only[BH,yb,BE,Sem.run_bind,run_underlying l,run_underlying o,Result.andThen_ok,k,Sem.run_pure,bV,b6,n,ad j,m,eN,bS];cases base with
 |none=>rw[f rfl];rfl
 |some a=>
  simp only[Sem.run_bind,hs a rfl,Result.andThen_ok];rfl
theorem XC(w:World)(bs:ByteArray):(Builtin.firstCells 1 bs.size (.string bs)).run P w= .ok (bs.data.toList.map λb=>Value.int .u8 b.toNat).toArray w:=by
 have e:(bs.extract 0 bs.size).data=bs.data:=by simp_all
 simp only[Builtin.firstCells,e,Sem.run_pure]
 congr 1
 grind
theorem Xm(l:aj):∀x,x∈(l.map λb=>Value.int .u8 b.toNat)->x.oneCell'=true:=by
 intro x a;simp only[eO]at a;obtain⟨b,_,rfl⟩:=a;rfl
theorem XL(R:Rel aC nt φ S env J n a w){x y:Operand}{st T e:TypeId}(ax:o.op= .call {callee:= .builtin .append,args:=#[x,y],argTypes:=#[st,T]})
 (L:P.underlying st=some (.slice e))(O:P.underlying T=some .string){i:TypeInfo}(G:P.info? e=some i)(B:i.size=1)(ah:(i.zero.map (·.cells.size))=some 1)
 {U W:aP}(aD:bK x=some U)(d:bK y=some W)
 {p v J'}(g:n key=false)(h:aO (.appendB e i.bytes U W) env J key=some (p,v,J'))(ay:p):Good P aC nt env J' (ins n key) a v ((execOp a.eval o).run P w):=by
 simp only[aO,bp]at h;obtain⟨⟨aZ,a1⟩,ar,⟨a0,a2⟩,au,he⟩:=h;simp only at he;simp only[bb]at ah;obtain⟨a3,aH,aG⟩:=ah;have K:∀r w',(Builtin.append_ #[st,T] o.type #[a.eval x,a.eval y]).run P w= .ok r w'->(execOp a.eval o).run P w= .ok (.value r) w':=by
  intro r w' l;simp[execOp,ax,Go.resolve,invoke,builtin,l]
 have aw:∀b,w.heap.size<=b->∀j,¬S b j:=λb Y j aF=>by have:=R.bP.st _ _ aF;omega
 split at he
 . rename_i b len s;split at he
   . rename_i u es q;simp only[bF,bB]at he;obtain⟨rfl,rfl,rfl⟩:=he;obtain⟨az,aA,rfl,rfl,ae,A⟩:=ay;obtain⟨aU,ai,aj⟩:=(cz R aD ar az).1.dW;obtain⟨bs,ab,rfl,_⟩:=cm.km (cz R d au aA).1;have m:bs.data.toList.length=bs.size:=by rw[<-qK]
     have an:=R.bP.blk _ _ q;obtain⟨aQ,aR,X⟩:=an;have N:∀w,(Builtin.lenOf (a.eval y)).run P w= .ok bs.size w:=by intro w;simp[ab,Builtin.lenOf]
     have Q:∀w,(Builtin.firstCells i.size bs.size (a.eval y)).run P w= .ok (bs.data.toList.map λb=>Value.int .u8 b.toNat).toArray w:=by intro w;rw[ab,B];exact XC w bs
     by_cases ag:es.length+bs.size<=(φ b).2
     . by_cases f:(φ b).2=0
       . have z:es=[]:=jR (by omega);have Z:bs.data.toList=[]:=jR (by omega);have t:=ai f;have l:=RX (P:=P) (w:=w) (tt:=o.type) L O G (base:=none) (sl:=0) (sc:=0) (N w) (Q w) (by omega) (w':=w) (λam F=>by cases F) (λ_=>rfl);rw[<-t]at l;have R':=(R.del b).jQ g (x:= .buf u (es++bs.data.toList)) (0,0) rfl (by rw[Z,z];simp only[c1,dA];exact⟨by simp,by simp,by simp⟩) (by simp);refine⟨_,_,S,w,.inl (K _ _ l),.c ?_,by simp[V.aA,C.aA,ins],R'⟩;rw[Z,z];have ap:bs.size=0:=(by omega);refine⟨by simp,λ_=>?_,λh=>?_⟩
         . rw[ap]
         . simp[dA]at h
       . obtain⟨⟨vs,aa,M,aB⟩,I⟩:=X f;have t:=aj f;have af:es.length+(bs.data.toList.map λb=>Value.int .u8 b.toNat).length<=vs.length:=by simp only[gy,m,M];exact ag
         obtain⟨w',aV,aJ,aK,aL,aM,ak,aN⟩:=nu (P:=P) (bs.data.toList.map λb=>Value.int .u8 b.toNat) es.length 0 vs w aa (by omega) (Xm _);rw[l0]at ak
         have l:=RX (P:=P) (w:=w) (tt:=o.type) L O G (base:=some ⟨(φ b).1,0,none⟩) (sl:=es.length) (sc:=(φ b).2) (N w) (Q w) ag (w':=w') (λam F=>by
          cases F;have aT:Addr.add ⟨(φ b).1,0,none⟩ (es.length*i.size)=⟨(φ b).1,es.length,none⟩:=by rw[B,Nat.mul_one];unfold Addr.add;split<;>simp_all
          grind) (λY=>by cases Y)
         rw[<-t]at l
         have D:=(R.del b).world (w':=w') (λk=>k=(φ b).1) aJ aK aL (wk aM.symm) (λk _ g=>aN k g) (λk g=>by
          subst g;refine⟨I,λk y d g=>?_,R.own b _ q f⟩;rw[fN]at d;split at d
          . cases d
          . rename_i H
            exactλe=>R.bP.inj k b y _ d q (dJ H) g f e)
         have E:=D.jQ g (x:= .buf u (es++bs.data.toList)) (φ b) rfl (by
          simp only[c1,dA];refine⟨by simp[m];omega,by rw[c2];exact A,λ_=>⟨⟨_,ak,by rw[pQ af];exact M,?_⟩,I⟩⟩;intro aY c aq;rw[my af]
          grind) (λ_=>⟨λk y d g=>by
           rw[fN]at d;split at d
           . cases d
           . rename_i H
             exact R.bP.inj k b y _ d q (dJ H) g f,R.own b _ q f⟩)
         refine⟨_,_,S,w',.inl (K _ _ l),.c ?_,by simp[V.aA,C.aA,ins],E⟩;refine⟨by simp[dA,m];omega,λh=>?_,λ_=>?_⟩
         . simp[dA,f]at h
         . simp[dA,m]
     . have D:=R.drew;have ao:∃base,a.eval x= .slice base es.length (φ b).2/\∃xs:List Value,(Builtin.firstCells i.size es.length (.slice base es.length (φ b).2)).run P w.drew= .ok xs.toArray w.drew/\xs.length=es.length/\∀(i:Nat) c,es[i]?=some c->xs[i]?=some (.int .u8 (UInt8.toNat c)):=by
        by_cases f:(φ b).2=0
        . have z:es=[]:=jR (by omega);subst z;exact⟨none,by rw[ai f,f];rfl,[],by simp[Builtin.firstCells],rfl,by simp⟩
        . obtain⟨⟨vs,aa,M,aB⟩,I⟩:=X f;refine⟨_,aj f,vs.take es.length,?_,by simp;omega,λj c aq=>?_⟩
          . rw[B];show(loadCells ⟨(φ b).1,0,none⟩ (es.length*1)).run P w.drew=_;rw[Nat.mul_one];refine yW (by simp;omega) (λj av=>?_);rw[ga,ln,ad av];exact ju (w:=w.drew) aa j
          grind
       obtain⟨base,t,xs,aE,aW,aX⟩:=ao;obtain⟨aI,r,h1,aS,l⟩:=Wo (P:=P) (w:=w) (tt:=o.type) L O G aH (by rw[aG,B]) (N w) aE (Q w.drew) (by omega) (by rw[m]at ae;exact ae) (by rw[m]at A;exact A);rw[<-t]at l;have E:=(D.del b).alloc (.cells (xs++(bs.data.toList.map λb=>Value.int .u8 b.toNat)++r).toArray u)
       have al:=E.jQ g (x:= .buf u (es++bs.data.toList)) (w.heap.size,aI) rfl (by
        simp only[c1,dA];refine⟨by simp[m];omega,by rw[c2];exact A,λ_=>⟨⟨_,pL,?_,?_⟩,aw _ (ef _)⟩⟩
        . grind
        grind) (λ_=>⟨λk y d h0=>by
         rw[fN]at d;split at d
         . cases d
         . have:=(R.bP.blk k y d).ki h0
           simp;omega,.inr R.ext.size⟩)
       refine⟨_,_,S,_,.inl (K _ _ l),.c ?_,by simp[V.aA,C.aA,ins],al⟩;refine⟨by simp[dA,m];omega,λh=>?_,λ_=>?_⟩
       . simp[dA]at h;omega
       . simp[dA,m]
   . cases he
 . cases he
theorem Yv(R:Rel aC nt φ S env J n a w){x:Operand}{t:TypeId}(e:o.op= .call {callee:= .builtin .unsafeSliceData,args:=#[x],argTypes:=#[t]}){d:aP}(i:bK x=some d)
 {p v J'}(l:n key=false)(h:aO (.sdata d) env J key=some (p,v,J'))(g:p):Good P aC nt env J' (ins n key) a v ((execOp a.eval o).run P w):=by
 simp only[aO,bp]at h;obtain⟨⟨q,r⟩,f,he⟩:=h;simp only at he;split at he
 . rename_i b len;simp only[bF,bB]at he;obtain⟨rfl,rfl,rfl⟩:=he;have al:=cz R i f g;obtain⟨m,j,k⟩:=al.1.dW;by_cases h0:(φ b).2=0
   . refine Good.pure R (x:= .pointer none) ?_ (.c ⟨none,rfl,λh=>absurd h0 h⟩) (by simpa[V.aA,C.aA]using al.2);simp[execOp,e,Go.resolve,invoke,builtin,j h0,Go.Lib.run_unsafeSliceData_nil]
   . refine Good.pure R (x:= .pointer (some ⟨(φ b).1,0,none⟩)) ?_ (.c ⟨_,rfl,λ_=>rfl⟩) (by simpa[V.aA,C.aA]using al.2);simp[execOp,e,Go.resolve,invoke,builtin,k h0,Go.Lib.run_unsafeSliceData_row _ _ _ _ _ _ h0]
 . cases he
theorem Yw{b m:Nat}{a:Addr}(c:b≠a.block):(w.freeze a m).heap[b]?=w.heap[b]?:=by
 unfold World.freeze;grind
theorem Xn(a:Addr)(m:Nat):(w.freeze a m).os=w.os/\(w.freeze a m).tape=w.tape/\(w.freeze a m).output=w.output/\(w.freeze a m).heap.size=w.heap.size:=by
 unfold World.freeze;grind
theorem Zk(R:Rel aC nt φ S env J n a w){x y:Operand}{cC l e:TypeId}(O:o.op= .call {callee:= .builtin .unsafeString,args:=#[x,y],argTypes:=#[cC,l]})
 (W:P.underlying cC=some (.pointer e))(K:P.cellsOf e=1){t u:aP}(Z:bK x=some t)(f:bK y=some u)
 {p v J'}(d:n key=false)(h:aO (.ustr e t u) env J key=some (p,v,J'))(Q:p):Good P aC nt env J' (ins n key) a v ((execOp a.eval o).run P w):=by
 simp only[aO,bp]at h;obtain⟨⟨ak,am⟩,L,⟨al,an⟩,M,he⟩:=h;simp only at he;split at he
 . rename_i b m;split at he
   . rename_i z es q;simp only[bF,bB]at he;obtain⟨rfl,rfl,rfl⟩:=he;obtain⟨T,U,rfl,rfl⟩:=Q;obtain⟨ab,h1,V⟩:=(cz R Z L T).1.dW;have B:a.eval y= .int .i64 es.length:=(cz R f M U).1.gn;have G:=R.bP.blk _ _ q;obtain⟨ah,A,F⟩:=G;have D:∀w',cf w' S (.str es) (.string ⟨es.toArray⟩):=by
      intro w';have:=cf.str (w:=w') (S:=S) (⟨es.toArray⟩:ByteArray) (by rw[<-qK];unfold eG at A;unfold eC;simp;omega);omega
     have C:∀r w',(Builtin.unsafeString_ #[cC,l] o.type #[a.eval x,a.eval y]).run P w= .ok r w'->(execOp a.eval o).run P w= .ok (.value r) w':=by
      intro r w' s;simp[execOp,O,Go.resolve,invoke,builtin,s]
     by_cases g:es=[]
     . subst g;refine⟨.string ⟨#[]⟩,φ,S,w,.inl (C _ _ ?_),.c (D w),rfl,(R.del b).more λ_ h=>kJ h⟩;rw[h1,B];exact Go.Lib.run_unsafeString_none w cC l o.type ab
     . have ai:0<es.length:=tR.2 g;have i:(φ b).2≠0:=(by omega);obtain⟨⟨vs,aa,aj,Y⟩,N⟩:=F i;have X:w.shape? (φ b).1=some (z,vs.length):=by simp[World.shape?,aa]
       have s:=Go.Lib.run_unsafeString_row (P:=P) w cC l o.type z W K (φ b).1 vs.length X es g (by omega) (by unfold eG at A;omega) (λj c I=>by
        have H:Addr.add ⟨(φ b).1,0,none⟩ j=⟨(φ b).1,j,none⟩:=by unfold Addr.add;split<;>simp_all
        rw[H,ju aa];exact Y j c I)
       obtain⟨ad,ae,af,ag⟩:=Xn (w:=w) ⟨(φ b).1,0,none⟩ es.length
       have E:=(R.del b).world (w':=w.freeze ⟨(φ b).1,0,none⟩ es.length) (λk=>k=(φ b).1) ad ae af (wk ag.symm) (λk _ d=>Yw d) (λk d=>by
        subst d;refine⟨N,λk y f d=>?_,R.own b _ q i⟩;rw[fN]at f;split at f
        . cases f
        . rename_i g
          exactλe=>R.bP.inj k b y _ f q (dJ g) d i e)
       refine⟨.string ⟨es.toArray⟩,φ,S,_,.inl (C _ _ ?_),.c (D _),rfl,E.more λ_ h=>kJ h⟩;rw[h1,V i,B];exact s
   . cases he
 . cases he
end
section
variable {P:Program}{aC:Ctx}{nt:Nat}{φ:dE}{S:dQ}{env:Env}{J:a8}{n:Nat->Bool}{key:Nat}{a:Act}{w:World}
theorem v8{x:Array α}{a b:α}(h:x.toList=[a,b]):x=#[a,b]:=by grind
theorem Dm{x:Array α}{a:α}(h:x.toList=[a]):x=#[a]:=by grind
theorem Zl(R:Rel aC nt φ S env J n a w)(q:o.op= .call c){D:cJ}(b:mw P c=some D)
 {p v J'}(m:n key=false)(h:aO D env J key=some (p,v,J'))(r:p):Good P aC nt env J' (ins n key) a v ((execOp a.eval o).run P w):=by
 obtain⟨callee,args,argTypes⟩:=c;unfold mw at b;split at b
 . rename_i f;split at b
   . rename_i x t d ht;simp only at f d ht;have d:=Dm d;have ht:=Dm ht;subst f;subst d;subst ht;split at b
     . rename_i k;simp only[bb]at b;obtain⟨s,g,rfl⟩:=b;exact JP (str:=true) R q (by simpa using k) g m h r
     . rename_i e k;simp only[bb]at b;obtain⟨s,g,rfl⟩:=b;exact JP (str:=false) R q (by simpa using⟨e,k⟩) g m h r
     . cases b
   . cases b
 . rename_i f;split at b
   . rename_i x y t u d ht;simp only at f d ht;have d:=v8 d;have ht:=v8 ht;subst f;subst d;subst ht;split at b
     . rename_i e k C;simp only[bp,dC,bF]at b;obtain⟨i,B,s,g,z,j,⟨h1,A,E⟩,rfl⟩:=b;exact XL R q k C B h1 A g j m h r
     . rename_i e F k C;simp only[bp,dC,bF]at b;obtain⟨i,B,s,g,z,j,⟨h1,A⟩,rfl⟩:=b;exact Xh R q k C B h1 A g j m h r
     . cases b
   . cases b
 . rename_i f;split at b
   . rename_i x y d;simp only at f d;have d:=v8 d;subst f;subst d;simp only[bp,bb]at b;obtain⟨s,g,z,j,rfl⟩:=b;exact Ye R q g j m h r
   . cases b
 . rename_i f;split at b
   . rename_i x y d;simp only at f d;have d:=v8 d;subst f;subst d;simp only[bp,bb]at b;obtain⟨s,g,z,j,rfl⟩:=b;exact Yf R q g j m h r
   . cases b
 . rename_i f;split at b
   . rename_i x t d ht;simp only at f d ht;have d:=Dm d;have ht:=Dm ht;subst f;subst d;subst ht;split at b
     . simp only[dC,bb]at b;obtain⟨_,s,g,rfl⟩:=b;exact Yv R q g m h r
     . cases b
   . cases b
 . rename_i f;split at b
   . rename_i x y t u d ht;simp only at f d ht;have d:=v8 d;have ht:=v8 ht;subst f;subst d;subst ht;split at b
     . rename_i e k;simp only[dC,bp,bb]at b;obtain⟨⟨_,_,E⟩,s,g,z,j,rfl⟩:=b;exact Zk R q k E g j m h r
     . cases b
   . cases b
 . split at b
   . simp only[bb]at b;obtain⟨l,af,rfl⟩:=b;simp[aO]at h
   . cases b
 . simp only[bb]at b;obtain⟨l,af,rfl⟩:=b;simp[aO]at h
 . cases b
theorem Good.mono{v:V}{J':a8}{c' c:Nat->Bool}(h:∀b,c' b=true->c b=true){r:Result Next}(g:Good P aC nt env J' c' a v r):Good P aC nt env J' c a v r:=by
 obtain⟨x,j,bQ,w',h1,e,f,R'⟩:=g;exact⟨x,j,bQ,w',h1,e,V.hh h f,R'.more h⟩
theorem Yx(R:Rel aC nt φ S env J n a w){T:cJ}(b:c6 P o.op=some T)
 (ah:∀e e8,T≠.allocS e e8){p v J'}(l:n key=false)(h:aO T env J key=some (p,v,J'))(A:p):Good P aC nt env J' (ins n key) a v ((execOp a.eval o).run P w):=by
 generalize q:o.op=op at b;cases op with
 |move x=>simp only[c6,bb]at b;obtain⟨B,j,rfl⟩:=b;exact JN R (.inl q) j l h A
 |assign x=>simp only[c6,bb]at b;obtain⟨B,j,rfl⟩:=b;exact JN R (.inr q) j l h A
 |pick c x y=>
  simp only[c6,bp,bb]at b;obtain⟨ac,Z,B,j,H,E,rfl⟩:=b;exact Ya R q Z j E l h A
 |alloc e=>
  simp only[c6]at b;split at b
  . cases b;exact absurd rfl (ah _ _)
  . simp only[bp]at b;obtain⟨cs,W,b⟩:=b;split at b
    . split at b
      . rename_i Z;cases b;exact Xj R q W (by omega) (by omega) l h A
      . cases b;exact SS R q W l h A
    . cases b;exact SS R q W l h A
 |box e x=>simp only[c6,bb]at b;obtain⟨B,j,rfl⟩:=b;exact Z' R q j l h A
 |build t parts=>
  simp only[c6]at b;split at b
  . rename_i fs I;simp only[dC,bp,bb]at b;obtain⟨h1,z,L,ps,K,rfl⟩:=b;exact Yq R q I h1 L K l h A
  . simp only[bp,bb]at b;rename_i len e C;obtain⟨z,L,m,D,ps,K,rfl⟩:=b;exact XB R q C D L K l h A
  . cases b
 |buildSlice t len parts=>
  simp only[c6]at b;split at b
  . rename_i e C;simp only[bp,dC,bF]at b;obtain⟨m,D,z,L,ps,K,⟨h1,U,V⟩,rfl⟩:=b;exact Xg R q C D L K h1 U V l h A
  . cases b
 |load t x=>
  simp only[c6,bp,bb]at b;obtain⟨g,al,B,j,rfl⟩:=b;exact XT R q al j l h A
 |store t x y=>
  simp only[c6,bp,bb]at b;obtain⟨m,D,B,j,H,E,rfl⟩:=b;exact Yp R q D j E l h A
 |nilCheck x=>simp only[c6,bb]at b;obtain⟨B,j,rfl⟩:=b;exact XA R q j l h A
 |binOp op t x y am=>
  simp only[c6]at b;split at b
  . rename_i ab;split at b
    . simp only[bp,bb]at b;obtain⟨ks,ag,B,j,H,E,rfl⟩:=b;exact Yo R q ab ag j E l h A
    . simp only[dC,bb]at b;obtain⟨_,B,j,rfl⟩:=b;simp[aO]at h
    . rename_i C;simp only[bp,bb]at b;obtain⟨B,j,H,E,rfl⟩:=b;exact Xe R q ab C j E l h A
    . simp only[bp,bb]at b;obtain⟨B,j,H,E,rfl⟩:=b;exact Hf R q j E l h A
    . simp only[bp,bb]at b;obtain⟨B,j,H,E,rfl⟩:=b;exact Hf R q j E l h A
    . cases b
  . simp only[bp,bb]at b;obtain⟨B,j,H,E,rfl⟩:=b;exact Hf R q j E l h A
 |unOp u t x=>
  cases u<;>simp only[c6,bb,reduceCtorEq]at b
  . split at b
    . simp only[bb]at b;obtain⟨B,j,rfl⟩:=b;exact Z1 R q j l h A
    . cases b
  . split at b
    . simp only[bb]at b;obtain⟨B,j,rfl⟩:=b;exact Z2 R q j l h A
    . cases b
  . obtain⟨B,j,rfl⟩:=b;exact Z0 R q j l h A
 |convert s d x=>
  simp only[c6]at b;split at b
  . rename_i hs G;simp only[bb]at b;obtain⟨B,j,rfl⟩:=b;exact Yc R q hs G j l h A
  . rename_i hs G;simp only[bb]at b;obtain⟨B,j,rfl⟩:=b;exact Z3 R q hs G j l h A
  . rename_i hs G;simp only[bb]at b;obtain⟨B,j,rfl⟩:=b;exact Z4 R q hs G j l h A
  . rename_i e hs G;simp only[dC,bb]at b;obtain⟨⟨he,O⟩,B,j,rfl⟩:=b;have ae:P.underlying e=some (.int .u8):=(by grind);exact aab R q hs ae G j l h A
  . cases b
 |fieldAddr t x f=>
  simp only[c6]at b;split at b
  . rename_i fs I;simp only[bp,Bz,bb]at b;obtain⟨ad,X,m,D,N,B,j,rfl⟩:=b;exact Yd R q I X D N j l h A
  . cases b
 |field t x f=>
  simp only[c6]at b;split at b
  . rename_i fs I;simp only[bp,bb]at b;obtain⟨ad,X,g,al,B,j,rfl⟩:=b;obtain⟨h1,U,V⟩:=JB al;exact Z5 R q I X U h1 V j l h A
  . cases b
 |indexAddr t x i=>
  simp only[c6]at b;split at b
  . rename_i e C;simp only[bp,Bz,bb]at b;obtain⟨m,D,N,B,j,M,F,rfl⟩:=b;exact Yg R q C D N j F l h A
  . rename_i k e C;split at b
    . simp only[dC,bp,bb]at b;obtain⟨h0,s,hs,B,j,rfl⟩:=b;exact Zf R q C h0 hs j l h A
    . simp only[dC,bp,bb]at b;obtain⟨O,B,j,M,F,rfl⟩:=b;exact Ze R q C O j F l h A
  . cases b
 |index t x i=>
  simp only[c6]at b;split at b
  . rename_i C;simp only[bp,bb]at b;obtain⟨B,j,M,F,rfl⟩:=b;exact Yh R q C j F l h A
  . cases b
 |slice t x aj F ak=>
  simp only[c6]at b;split at b
  . rename_i C;simp only[dC,bp,bb,Option.isNone_iff_eq_none]at b;obtain⟨rfl,B,j,Q,af,Y,aa,rfl⟩:=b;exact XR R q C j af aa l h A
  . rename_i e C;split at b
    . simp only[bp,Bz,bb]at b;obtain⟨m,D,N,B,j,Q,af,Y,aa,rfl⟩:=b;exact Z7 R q C D j af aa l h A
    . split at b
      . simp only[dC,bb]at b;obtain⟨h0,B,j,rfl⟩:=b;obtain⟨m,D⟩:=yv.1 h0;exact XS R q C D j l h A
      . cases b
    . cases b
  . rename_i k e C;simp only[dC,bp,bb,Option.isNone_iff_eq_none]at b;obtain⟨⟨rfl,O⟩,B,j,Q,af,Y,aa,rfl⟩:=b;exact Zg R q C O j af aa l h A
  . cases b
 |makeFunc fn first caps=>
  cases fn<;>simp only[c6,dC,bb,reduceCtorEq]at b;obtain⟨h1,Q,af,rfl⟩:=b;have:first=#[]:=by simpa using h1
  subst this;exact XQ R q af l h A
 |extract x i=>simp only[c6,bb]at b;obtain⟨B,j,rfl⟩:=b;exact Z6 R q j l h A
 |makeMap t r=>
  cases r with
  |some _=>simp[c6]at b
  |none=>
   simp only[c6,dC,bF]at b;obtain⟨_,rfl⟩:=b;exact Ys R q l h A
 |lookup t x i c=>
  cases c with
  |true=>simp[c6]at b
  |false=>
   simp only[c6,dC,bp,bb]at b;obtain⟨ht,B,j,M,F,rfl⟩:=b;exact Yt R q ht j F l h A
 |mapUpdate t m k v0=>
  simp only[c6,dC,bp,bb]at b;obtain⟨⟨ht,ai⟩,B,j,M,F,rfl⟩:=b;exact Yu R q ht ai j F l h A
 |call c=>simp only[c6]at b;exact Zl R q b l h A
 |_=>simp[c6]at b
def eD(n:Nat->Bool)(k:Nat):Nat->Bool:=λb=>n b||(decide (k<=b)&&decide (b<k+16))
theorem lN{b:Nat}(h:n b=true):eD n key b=true:=by simp[eD,h]
theorem KU{b:Nat}(h:ins n key b=true):eD n key b=true:=by
 simp only[ins,hO,iM]at h;simp only[eD,hO,cd,dn];grind
theorem Si{b:Bool}{a:cJ}(h:u5 P b op=some a):c6 P op=some a\/∃t len parts e m z ps,op= .buildSlice t len parts/\P.underlying t=some (.slice e)/\eI P e=some m/\kU P e=some z/\pz parts.toList=some ps/\m≠0/\z.length=m/\len*m<=2^24/\a= .bsliceT e m len z ps:=by
 unfold u5 at h;split at h
 . split at h
   . rename_i e c;simp only[bp,dC,bF]at h;grind
   . cases h
 grind
theorem WJ{e e8:Nat}(h:c6 P op=some (.allocS e e8)):op= .alloc e/\zc P e=some e8:=by
 cases op with
 |alloc j=>
  simp only[c6]at h;split at h
  . rename_i f;cases h;exact⟨rfl,f⟩
  . simp only[bp]at h;obtain⟨cs,k,h⟩:=h;split at h
    . split at h<;>cases h
    . cases h
 |buildSlice t len parts=>
  simp only[c6]at h;split at h
  . simp only[bp,dC,bF]at h;obtain⟨m,g,z,b,ps,a,_,h⟩:=h;cases h
  . cases h
 |build t parts=>
  simp only[c6]at h;split at h
  . simp only[dC,bp,bb]at h;obtain⟨h1,z,b,ps,a,h⟩:=h;cases h
  . simp only[bp,bb]at h;obtain⟨z,b,m,g,ps,a,h⟩:=h;cases h
  . cases h
 |call c=>
  simp only[c6]at h;unfold mw at h
  repeat' (first|(split at h)|(cases h;done))
  all_goals (try (cases h;done))
  all_goals simp only[bp,bb,dC,bF,reduceCtorEq,kg,mK,wo]at h
 |binOp op t x y l=>
  simp only[c6]at h
  repeat' (first|(split at h)|(cases h;done))
  all_goals (try (cases h;done))
  all_goals simp only[bp,bb,dC,bF,reduceCtorEq,kg,mK,wo]at h
 |unOp u t x=>
  cases u<;>simp only[c6]at h
  all_goals repeat' (first|(split at h)|(cases h;done))
  all_goals (try (cases h;done))
  all_goals simp only[bp,bb,dC,bF,reduceCtorEq,kg,mK,wo]at h
 |makeMap t r=>cases r<;>simp only[c6,reduceCtorEq,dC,bF,kg]at h
 |lookup t x i c=>cases c<;>simp only[c6,reduceCtorEq,dC,bp,bb,kg,mK]at h
 |makeFunc fn first caps=>cases fn<;>simp only[c6,dC,bb,reduceCtorEq,kg,mK]at h
 |convert s d x=>
  simp only[c6]at h
  repeat' (first|(split at h)|(cases h;done))
  all_goals (try (cases h;done))
  all_goals simp only[bp,bb,dC,bF,reduceCtorEq,kg,mK,wo]at h
 |_=>
  simp only[c6]at h
  try repeat' (first|(split at h)|(cases h;done))
  all_goals (try (cases h;done))
  all_goals simp only[bp,bb,dC,Bz,bF,reduceCtorEq,kg,mK,wo]at h
theorem Zm(R:Rel aC nt φ S env J n a w){f:cJ}{k:Bool}(d:u5 P k o.op=some f)
 {p v J'}(aD:∀b,key<=b->b<key+16->n b=false)(h:aO f env J key=some (p,v,J'))(j:p):Good P aC nt env J' (eD n key) a v ((execOp a.eval o).run P w):=by
 have g:n key=false:=aD key (ef _) (by omega);rcases Si d with d|⟨t,len,parts,e,m,z,ps,i,x,s,y,u,h1,l,q,rfl⟩
 . by_cases hs:∃e e8,f= .allocS e e8
   . obtain⟨e,e8,rfl⟩:=hs;obtain⟨i,r⟩:=WJ d;refine(Xk R i r g (aD _ (by omega) (by omega)) h j).mono λb c=>?_;simp only[ins,hO,iM]at c;simp only[eD,hO,cd,dn];rcases c with(c|c)|c
     . exact .inl c
     . exact .inr ⟨by omega,by omega⟩
     . exact .inr ⟨by omega,by omega⟩
   . exact(Yx R d (λe e8 he=>hs ⟨e,e8,he⟩) g h j).mono λb c=>KU c
 . exact(XK R i x s y u h1 l q g h j).mono λb c=>KU c
end
def hx(P:Program)(f:Nat)(args:List V)(J:a8)(key:Nat)(K:V->a8->Prop):Prop:=
 ∀aC nt φ S env n a w,Rel aC nt φ S env J n a w->(∀b,key<=b->b<key+16->n b=false)->V.aA.V.dF n args=true->∀vs:List Value,a' (cm φ w S) args vs->
  Calls P f vs.toArray w λe w'=>∃v r c bQ J',e= .returned v/\K r J'/\cm c w' bQ r v/\r.aA (eD n key)=true/\Rel aC nt c bQ env J' (eD n key) a w'
theorem hx.mono{P:Program}{args:List V}{J:a8}{key:Nat}{K c:V->a8->Prop}(h:hx P f args J key K)(q:∀r J',K r J'->c r J'):hx P f args J key c:=
 λaC nt φ S env n a w R aD p vs t=>(h aC nt φ S env n a w R aD p vs t).mono λe w' ⟨v,r,u,bQ,J',h1,j,o⟩=>⟨v,r,u,bQ,J',h1,q _ _ j,o⟩
def fO(env:Env):Option (Nat×Bool)->Option Bool
 |none=>some true
 |some (t,b)=>match look env t with
  |some (g,.c (.t (.bool x)))=>some (g&&(x==b))
  |_=>none
def en(env:Env)(dst:Option Nat)(g:Bool)(v:V):Env:=
 match dst with
 |none=>env
 |some d=>(d,g,v)::env
def r4(b:Bool):V:= .c (.t (.bool b))
def gZ(P:Program)(o:cb)(key:Nat)(env:Env)(J:a8)(K:Env->a8->Prop):Prop:=
 match fO env o.guard with
 |none=>False
 |some g=>(g=false/\∃v,K (en env o.dst g v) J)\/
  match o.op with
  |.call f args=>match ho env args with
   |some (p,vs)=>match o.guard with
    |none=>p/\hx P f vs J key (λr J'=>K (en env o.dst true r) J')
    |some _=>(g=true/\p/\hx P f vs J key (λr J'=>K (en env o.dst true r) J'))\/∃r,(g=true->p/\hx P f vs J key (λa J'=>a=r/\J'=J))/\K (en env o.dst g r) J
   |none=>False
  |.iG x args=>match x.get env,ho env args with
   |some (q,.c (.fn f caps)),some (p,vs)=>o.guard=none/\hF P f=true/\q/\p/\hx P f (vs++caps.map (λb=>V.c (.ptr b 0))) J key (λr J'=>K (en env o.dst true r) J')
   |_,_=>False
  |.eqNil neg x=>match x.get env with
   |some (p,.c (.t (.slice es)))=>o.guard=none/\p/\∀b:Bool,(es≠[]->b=false)->K (en env o.dst true (r4 (if neg then !b else b))) J
   |some (p,.c .ay)=>o.guard=none/\p/\∀b:Bool,K (en env o.dst true (r4 (if neg then !b else b))) J
   |some (p,.c (.arr _ _ _ l))=>o.guard=none/\p/\∀b:Bool,(l≠0->b=false)->K (en env o.dst true (r4 (if neg then !b else b))) J
   |_=>False
  |op=>match aO op env J key with
   |some (p,v,J')=>(g=true->p)/\(op.neutral=true\/g=true)/\K (en env o.dst g v) (if op.neutral then J else J')
   |none=>False
def kt(P:Program):List cb->Nat->Env->a8->(Env->a8->Prop)->Prop
 |[],_,env,J,K=>K env J
 |o::r,key,env,J,K=>gZ P o key env J λenv' J'=>kt P r (key+16) env' J' K
section
variable {P:Program}{aC:Ctx}{nt:Nat}{φ:dE}{S:dQ}{env:Env}{J:a8}{n:Nat->Bool}{key:Nat}{a:Act}{w:World}
theorem pt{g:Bool}{v:V}{k:Nat}:look (en env dst g v) k=if dst=some k then some (g,v)else look env k:=by
 unfold en;cases dst with
 |none=>simp
 |some d=>simp[look]
theorem Rel.A3(R:Rel aC nt φ S env J n a w)(o:∀d,dst=some d->d<nt){g:Bool}{v:V}(q:g=true->cm φ w S v x)(p:g=false->x=undef)(j:g=true->v.aA n=true):
 Rel aC nt φ S (en env dst g v) J n (a.put dst x) w:=by
 have f:∀k:Nat,(a.put dst x).tmps[k]?=if dst=some k then some x else a.tmps[k]?:=by
  intro k;cases dst with
  |none=>simp[Act.put]
  |some d=>
   have aB:d<a.tmps.size:=by rw[R.size];exact o d rfl
   simp only[Act.put,Q4,bF];grind
 refine⟨R.bP,λk c e af al=>?_,λk c e af al=>?_,λk c e af al=>?_,R.dN,?_,?_,R.ext,R.own,R.fix,R.fQ⟩
 . rw[pt]at af;rw[f];split at af
   . rename_i h;cases af;rw[ad h];exact⟨x,rfl,q al⟩
   . rename_i h;rw[ak h];exact R.gF k c e af al
 . rw[pt]at af;rw[f];split at af
   . rename_i h;cases af;rw[ad h,p al]
   . rename_i h;rw[ak h];exact R.hI k c e af al
 . rw[pt]at af;split at af
   . cases af;exact j al
   . exact R.gE k c e af al
 . cases dst<;>simp[Act.put,R.size]
 . cases dst<;>simp[Act.put,R.defers]
theorem SX(R:Rel aC nt φ S env J n a w)(c:tv ops o.guard=some gd){g:Bool}(al:fO env gd=some g):Region.wanted o (yielded ops a.tmps)=g:=by
 unfold Region.wanted;cases i:o.guard with
 |none=>
  rw[i]at c;simp[tv]at c;subst c;simp[fO]at al;grind
 |some l=>
  obtain⟨j,b⟩:=l;rw[i]at c;simp only[tv,bb]at c;obtain⟨d,k,rfl⟩:=c;simp only[fO]at al;split at al
  . rename_i e x af;simp only[bF]at al;subst al;simp only[yielded,k,ao];cases f:e with
    |true=>
     obtain⟨y,m,c⟩:=R.gF d e _ af f;have:=c.js;grind
    |false=>
     have:=R.hI d e _ af f;simp only[this];rfl
  . cases al
def jZ(aC:Ctx)(nt:Nat)(n:Nat->Bool)(K:Env->a8->Prop)(a:Act)(w:World):Prop:=∃φ S env J,K env J/\Rel aC nt φ S env J n a w
theorem Yy  (h:hF P f = true):∃ fn,P.funcs[f]? = some fn/\fn.body.isSome = true/\(fn.name == "runtime.NumGoroutine") = false:= by
 unfold hF at h;grind
theorem Xo(h:hF P f=true)(args:Array Value)(w:World):(callFunc f args).run P w= .ok (.enter f args) w:=by
 obtain⟨fn,h1,a,b⟩:=Yy h;obtain⟨c,d⟩:=yv.1 a;simp only[callFunc,Sem.run_bind,run_program,Result.andThen_ok,h1,b,d,bV,b6,Option.isNone_some,Sem.run_pure]
theorem xQ{o:cJ}(h:o.neutral=true){p v J'}(a:aO o env J key=some (p,v,J')):J'=J:=by
 cases o<;>simp only[cJ.neutral,reduceCtorEq,bV]at h<;>simp only[aO,bp,bb,bB]at a
 all_goals
  (try (obtain⟨a1,h1,a⟩:=a))
  (try (obtain⟨a2,b,a⟩:=a))
  (try (obtain⟨a3,c,a⟩:=a))
  (try dsimp only at a)
  (try split at a)
  (try (simp_all;done))
  (try split at a)
  (try (simp_all;done))
  (try (obtain⟨_,_,_,_,rfl⟩:=a;rfl))
 all_goals first
  |(cases a;rfl)
  |(cases a;done)
  |(simp only[bb,bB]at a;obtain⟨_,_,_,_,rfl⟩:=a;rfl)
  |(split at a<;>first
   |(cases a;rfl)
   |(cases a;done)
   |(simp only[bb,bB]at a;obtain⟨_,_,_,_,rfl⟩:=a;rfl))
  |skip
 all_goals repeat' (first|(cases a;done)|(cases a;rfl)|(simp only[bb,bB]at a;obtain⟨_,_,_,_,rfl⟩:=a;rfl)|split at a)
theorem R7{a:cb}(h:u0 P nt ops o=some a):
 u5 P (Jz ops o) o.op=some a.op/\tv ops o.guard=some a.guard/\a.dst=o.dst/\∀d,a.dst=some d->d<nt:=by
 simp only[u0,bp]at h;obtain⟨p,c,g,al,h⟩:=h;split at h
 . rename_i b;cases h;exact⟨c,al,b.symm,by simp⟩
 . rename_i d b;simp only[dC,bF]at h;obtain⟨aB,rfl⟩:=h;exact⟨c,al,b.symm,λe h=>by cases h;exact aB⟩
theorem x2{b:Bool}{a:cJ}(h:u5 P b op=some a)(c:∀e m l z ps,a≠.bsliceT e m l z ps):c6 P op=some a:=by
 rcases Si h with h|⟨t,len,parts,e,m,z,ps,_,_,_,_,_,_,_,_,rfl⟩
 . exact h
 grind
theorem HB{g:Option (Nat×Bool)}(h:tv ops o.guard=some g)(al:g=none):o.guard=none:=by
 subst al;cases a:o.guard with
 |none=>rfl
 |some x=>
  rw[a]at h;obtain⟨j,b⟩:=x;simp only[tv,bb]at h;grind
theorem Hh{a:cJ}(h:c6 P (.alloc e)=some a)(h1:∀cs,a≠.alloc cs)(b:∀cs,a≠.allocA cs)(c:∀e e8,a≠.allocS e e8):False:=by
 simp only[c6]at h;split at h
 . grind
 . simp only[bp]at h;grind
theorem RY{args:List aP}(h:c6 P op=some (.call f args)):∃c,op= .call c/\mw P c=some (.call f args):=by
 cases op with
 |call c=>exact⟨c,rfl,h⟩
 |alloc e=>exfalso;exact Hh h (by simp) (by simp) (by simp)
 |makeMap t r=>exfalso;cases r<;>simp[c6]at h
 |lookup t x i c=>exfalso;cases c<;>simp[c6,bp,bb]at h
 |unOp u t x=>
  exfalso;cases u<;>simp only[c6]at h
  all_goals (repeat' split at h)<;>(first|(cases h;done)|simp[bp,bb]at h)
 |makeFunc fn b c=>exfalso;cases fn<;>simp[c6]at h
 |_=>
  exfalso;simp only[c6]at h
  (repeat' split at h)<;>(first|(cases h;done)|simp[bp,bb]at h)
theorem Sy{x:aP}{args:List aP}(h:c6 P op=some (.iG x args)):∃c,op= .call c/\mw P c=some (.iG x args):=by
 cases op with
 |call c=>exact⟨c,rfl,h⟩
 |alloc e=>exfalso;exact Hh h (by simp) (by simp) (by simp)
 |makeMap t r=>exfalso;cases r<;>simp[c6]at h
 |lookup t x i c=>exfalso;cases c<;>simp[c6,bp,bb]at h
 |unOp u t x=>
  exfalso;cases u<;>simp only[c6]at h
  all_goals (repeat' split at h)<;>(first|(cases h;done)|simp[bp,bb]at h)
 |makeFunc fn b c=>exfalso;cases fn<;>simp[c6]at h
 |_=>
  exfalso;simp only[c6]at h
  (repeat' split at h)<;>(first|(cases h;done)|simp[bp,bb]at h)
theorem RZ{args:List aP}(h:mw P c=some (.call f args)):c.callee= .value (.func f)/\hF P f=true/\mM c.args.toList=some args:=by
 unfold mw at h
 (repeat' split at h)<;>simp[bp,bb]at h
 grind
theorem Sz{x:aP}{args:List aP}(h:mw P c=some (.iG x args)):∃t,x= .tmp t/\c.callee= .value (.tmp t)/\mM c.args.toList=some args:=by
 unfold mw at h
 (repeat' split at h)<;>simp[bp,bb]at h
 grind
theorem VJ{neg:Bool}{x:aP}(h:c6 P op=some (.eqNil neg x)):
 ∃a t y z d e,op= .binOp a t y z d/\(a= .eql\/a= .neq)/\neg=(a== .neq)/\P.underlying t=some (.slice e)/\HA z=true/\bK y=some x:=by
 cases op with
 |binOp a t y z d=>
  simp only[c6]at h
  (repeat' split at h)<;>(try (cases h;done))<;>simp only[bp,bb,cJ.eqNil.injEq,reduceCtorEq,kg,mK,wo]at h
  rename_i g _ _ j k;obtain⟨l,h1,f,rfl⟩:=h;exact⟨a,t,y,z,d,_,rfl,g,f.symm,j,k,h1⟩
 |call c=>
  exfalso;simp only[c6]at h;unfold mw at h
  (repeat' split at h)<;>(first|(cases h;done)|simp[bp,bb]at h)
 |alloc e=>exfalso;exact Hh h (by simp) (by simp) (by simp)
 |makeMap t r=>exfalso;cases r<;>simp[c6]at h
 |lookup t x i c=>exfalso;cases c<;>simp[c6,bp,bb]at h
 |unOp u t x=>
  exfalso;cases u<;>simp only[c6]at h
  all_goals (repeat' split at h)<;>(first|(cases h;done)|simp[bp,bb]at h)
 |makeFunc fn b c=>exfalso;cases fn<;>simp[c6]at h
 |_=>
  exfalso;simp only[c6]at h
  (repeat' split at h)<;>(first|(cases h;done)|simp[bp,bb]at h)
theorem Db(g:o.op= .call c){x:Operand}(d:c.callee= .value x){caps:List Value}(i:a.eval x= .func (.func f) #[] caps.toArray)(b:hF P f=true):
 (execOp a.eval o).run P w= .ok (.enter f (c.args.toList.map a.eval++caps).toArray) w:=by
 have e:(c.args.map a.eval++caps.toArray)=(c.args.toList.map a.eval++caps).toArray:=by apply Array.ext';simp
 simp only[execOp,g,Go.resolve,d,i,Deferred.ofValue,Sem.run_bind,Sem.run_pure,Result.andThen_ok,invoke];rw[show(#[]++c.args.map a.eval)=c.args.map a.eval by simp,e];exact Xo b _ _
theorem Calls.next{args:Array Value}{key:Nat}(u:dst=o.dst)(t:∀d,dst=some d->d<nt){g:Bool}(al:g=true){K2:V->a8->Prop}
 (bH:∀r s,K2 r s->K (en env dst g r) s)
 (h:Calls P f args w λe w'=>∃v r c bQ J',e= .returned v/\K2 r J'/\cm c w' bQ r v/\r.aA (eD n key)=true/\Rel aC nt c bQ env J' (eD n key) a w')
 (x:(execOp a.eval o).run P w= .ok (.enter f args) w):o.wp P a w (jZ aC nt (eD n key) K) Q:=by
 unfold Oper.wp;rw[x,Oper.upon_enter];refine h.mono ?_
 rintro e w' ⟨v,r,c,bQ,J',rfl,h1,j,p,q⟩
 subst u;exact⟨c,bQ,_,J',bH _ _ h1,q.A3 t (λ_=>j) (λh=>by rw[al]at h;cases h) (λ_=>p)⟩
theorem CP(R:Rel aC nt φ S env J n a w)(aD:∀b,key<=b->b<key+16->n b=false){T:cb}(ab:u0 P nt ops o=some T)(h:gZ P T key env J K):
 if Region.wanted o (yielded ops a.tmps)then o.wp P a w (jZ aC nt (eD n key) K) Q else jZ aC nt (eD n key) K (a.put o.dst undef) w:=by
 obtain⟨h1,G,H,I⟩:=R7 ab;have aU:n key=false:=aD key (ef _) (by omega);unfold gZ at h;split at h
 . exact h.elim
 . rename_i g al;have aN:=SX R G al;rw[aN];have ah:∀{v:V} {s:a8},K (en env T.dst g v) s->s=J->g=false->jZ aC nt (eD n key) K (a.put o.dst undef) w:=by
    intro v s bH hs X;subst hs;rw[<-H];exact⟨φ,S,_,_,bH,(R.more λ_ h=>lN h).A3 I (λh=>by rw[X]at h;cases h) (λ_=>rfl) (λh=>by rw[X]at h;cases h)⟩
   rcases h with⟨X,v,bH⟩|h
   . rw[X];simp only[bV,b6];exact ah bH rfl X
   split at h
   ·
    rename_i f args Z;rw[Z]at h1;have aE:∃c,o.op= .call c/\c.callee= .value (.func f)/\hF P f=true/\mM c.args.toList=some args:=by
     obtain⟨c,aB,ab⟩:=RY (x2 h1 (by simp));exact⟨c,aB,RZ ab⟩
    obtain⟨c,af,ag,L,W⟩:=aE;split at h
    . rename_i p vs Y;have ai:∀w':World,(execOp a.eval o).run P w= .ok (.enter f (c.args.toList.map a.eval).toArray) w:=by
       intro _;have:=Db (P:=P) (w:=w) (a:=a) af ag (f:=f) (caps:=[]) rfl L;grind
      split at h
      . rename_i u;have M:g=true:=by rw[u]at al;simp[fO]at al;exact al
        subst M;obtain⟨m,A⟩:=h;obtain⟨E,F⟩:=qG R W Y m;exact Calls.next H I rfl (λ_ _ h=>h) (A aC nt φ S env n a w R aD F _ E) (ai w)
      . rcases h with⟨M,m,A⟩|⟨r,A,bH⟩
        . subst M;obtain⟨E,F⟩:=qG R W Y m;exact Calls.next H I rfl (λ_ _ h=>h) (A aC nt φ S env n a w R aD F _ E) (ai w)
        cases B:g with
        |true=>
         obtain⟨m,A⟩:=A B;obtain⟨E,F⟩:=qG R W Y m;simp only[bS];refine Calls.next (K2:=λav J'=>av=r/\J'=J) H I B (λav s aa=>?_) (A aC nt φ S env n a w R aD F _ E) (ai w);obtain⟨rfl,rfl⟩:=aa;exact bH
        |false=>
         simp only[bV,b6];exact ah bH rfl B
    . exact h.elim
   . rename_i x args Z;rw[Z]at h1;obtain⟨c,af,ab⟩:=Sy (x2 h1 (by simp));obtain⟨t,rfl,ag,W⟩:=Sz ab;split at h
     . rename_i q f caps p vs N Y;obtain⟨u,L,aL,m,A⟩:=h;have M:g=true:=by rw[u]at al;simp[fO]at al;exact al
       subst M;obtain⟨E,F⟩:=qG R W Y m;have ar:=cz (x:= .tmp t) R rfl N aL;have aO:a.eval (.tmp t)= .func (.func f) #[] (caps.map λb=>Value.pointer (some ⟨(φ b).1,0,none⟩)).toArray:=ar.1.dW;have aF:a' (cm φ w S) (caps.map λb=>V.c (.ptr b 0)) (caps.map λb=>Value.pointer (some ⟨(φ b).1,0,none⟩)):=by
        refine a'.lp (by simp) ?_;intro i v x h1 G;simp only[oc,bb]at h1 G;obtain⟨b,ao,rfl⟩:=h1;obtain⟨aS,ap,rfl⟩:=G;rw[ao]at ap;cases ap;exact .c rfl
       have aG:V.aA.V.dF n (vs++caps.map λb=>V.c (.ptr b 0))=true:=by
        refine tx ?_;intro i v k;by_cases aI:i<vs.length
        . rw[n' aI]at k;exact nC F k
        . rw[p0 (by omega)]at k;simp only[oc,bb]at k;obtain⟨b,ao,rfl⟩:=k;have aa:=ar.2;simp only[V.aA,C.aA,cY]at aa⊢;grind
       exact Calls.next H I rfl (λ_ _ h=>h) (A aC nt φ S env n a w R aD aG _ (E.append aF)) (Db af ag aO L)
     . exact h.elim
   . rename_i neg x Z;rw[Z]at h1;obtain⟨U,ty,y,z,aW,e,aK,aA,rfl,aq,ak,aj⟩:=VJ (x2 h1 (by simp));have aQ:∀(b:Bool) (j:Option Addr) (l c:Nat),a.eval y= .slice j l c->j.isNone=b->(execOp a.eval o).run P w= .ok (.value (.bool (if(U== .neq)then !b else b))) w:=by
      intro b j l c k L;subst L;obtain⟨am,au,aP⟩:∃am:Value,a.eval z=am/\am= .slice none 0 0:=by
       unfold HA at ak;split at ak
       . exact⟨_,rfl,rfl⟩
       . cases ak
      subst aP;have aw:(eqGuard U ty y z (a.eval y) (a.eval z)).run P w= .ok () w:=Gz (by rw[k];simp) (by rw[k];simp);have an:(Op.equal ty (.slice j l c) (.slice none 0 0)).run P w= .ok j.isNone w:=by
       obtain⟨d,aH⟩:∃d,Op.maxDepth=d+1:=⟨9999,rfl⟩
       unfold Op.equal;rw[aH];unfold Op.equalIn;cases j with
       |none=>simp only[Sem.run_bind,run_underlying aq,Result.andThen_ok];rfl
       |some j=>simp only[Sem.run_bind,run_underlying aq,Result.andThen_ok];rfl
      have ax:(binOp U ty (a.eval y) (a.eval z)).run P w= .ok (.bool (if(U== .neq)then !j.isNone else j.isNone)) w:=by
       rcases aA with rfl|rfl
       . rw[k,au];simp only[binOp,Sem.run_bind,an];rfl
       . rw[k,au];simp only[binOp,Sem.run_bind,an];rfl
      simp[execOp,aK,aw,ax]
     have O:∀ (b:Bool) (j:Option Addr) (l c:Nat),o.guard = none->a.eval y = .slice j l c->j.isNone = b->K (en env T.dst true (r4 (if (U == .neq) then !b else b))) J->
      (if g then o.wp P a w (jZ aC nt (eD n key) K) Q else jZ aC nt (eD n key) K (a.put o.dst undef) w):=by
      intro b j l c u k L bH;have M:g=true:=by
       have:Region.wanted o (yielded ops a.tmps)=true:=(by simp[Region.wanted,u]);grind
      rw[ad M];unfold Oper.wp;rw[aQ b j l c k L];show jZ aC nt (eD n key) K (a.put o.dst _) w;rw[<-H];exact⟨φ,S,_,_,bH,(R.more λ_ h=>lN h).A3 I (λ_=>.r3 _) (λh=>by cases h) (λ_=>rfl)⟩
     split at h
     . rename_i p es N;obtain⟨u,m,bH⟩:=h;obtain⟨j,cap,sz,b,off,f,k,_,_,_,D,_⟩:=cf.kl (cz R aj N m).1.dW;exact O j.isNone j _ _ (HB G u) k rfl (bH _ λh=>by rw[D h];rfl)
     . rename_i p N;obtain⟨u,m,bH⟩:=h;obtain⟨j,k⟩:=(cz R aj N m).1.dW;exact O j.isNone j _ _ (HB G u) k rfl (bH _)
     . rename_i p b sz off l N;obtain⟨u,m,bH⟩:=h;obtain⟨j,k,ae,aV⟩:=bm.gY (cz R aj N m).1.dW;exact O j.isNone j _ _ (HB G u) k rfl (bH _ λh=>by rw[ae (by omega)];rfl)
     . exact h.elim
   . rename_i af ag aT;split at h
     . rename_i p v J' ae;obtain⟨m,D,bH⟩:=h;cases B:g with
       |true=>
        simp only[bS];obtain⟨x,aR,bQ,w',hres,aM,az,R'⟩:=Zm R h1 aD ae (m B);have ay:(if T.op.neutral then J else J')=J':=by
         split
         . rename_i aJ;exact(xQ aJ ae).symm
         . rfl
        rw[ay]at bH;have O:jZ aC nt (eD n key) K (a.put o.dst x) w':=by
         rw[<-H];exact⟨aR,bQ,_,_,bH,R'.A3 I (λ_=>aM) (λh=>by rw[B]at h;cases h) (λ_=>az)⟩
        unfold Oper.wp;rcases hres with hres|⟨hres,rfl⟩
        . rw[hres];exact O
        . rw[hres];exact O
       |false=>
        simp only[bV,b6];rcases D with D|D
        . rw[ad D]at bH;exact ah bH rfl B
        . rw[B]at D;cases D
     . exact h.elim
end
def lt(N:Nat):Nat->Bool:=λb=>decide (b<N)
theorem H0{N b:Nat}(h:eD (lt N) N b=true):lt (N+16) b=true:=by
 simp only[eD,lt,hO,dn,cd]at*;omega
theorem G8{N b:Nat}(h:N<=b):lt N b=false:=by simp[lt];omega
theorem LB{N M b:Nat}(h:N<=M)(a:lt N b=true):lt M b=true:=by simp only[lt,dn]at*;omega
section
variable {P:Program}{aC:Ctx}{nt kk:Nat}{φ:dE}{S:dQ}{env:Env}{J:a8}{N:Nat}{a:Act}{w:World}
theorem JS{ops:Array Oper}{Q:Exit->Act->World->Prop}{K:Env->a8->Nat->Prop}:∀{l:List Oper} {aZ:List cb} {k N:Nat} {env:Env} {J:a8} {φ:dE} {S:dQ} {a:Act} {w:World},jv P nt ops l=some aZ->(∀i:Nat,i<l.length->l[i]?=ops[k+i]?)->
 Rel aC nt φ S env J (lt N) a w->kt P aZ N env J (λe s=>K e s (N+16*aZ.length))->(∀φ S e s N a w,K e s N->Rel aC nt φ S e s (lt N) a w->Q .normal a w)->wpOps P ops Q (List.range' k l.length) a w
 |[],aZ,k,N,env,J,φ,S,a,w,c,j,R,h,g=>by
  simp[jv]at c;subst c;simp only[h8,List.range'_zero,wpOps];exact g _ _ _ _ _ _ _ h R
 |o::l,aZ,k,N,env,J,φ,S,a,w,c,j,R,h,g=>by
  simp only[jv,bp,bb]at c;obtain⟨r,m,d,n,rfl⟩:=c;have p:ops[k]?=some o:=by have:=j 0 (by simp);simpa using this.symm
  rw[iw,Fs,wpOps_cons];unfold wpOp;rw[p];simp only;have hs:=CP R (λb h1 _=>G8 h1) m (K:=λe s=>kt P d (N+16) e s λe s=>K e s (N+16*(d.length+1))) (by simp only[kt,iw]at h;exact h) (Q:=Q);have next:∀f w',jZ aC nt (eD (lt N) N) (λe s=>kt P d (N+16) e s λe s=>K e s (N+16*(d.length+1))) f w'->wpOps P ops Q (List.range' (k+1) l.length) f w':=by
   rintro f w' ⟨t,bQ,e,s,bH,R'⟩
   refine JS (k:=k+1) (N:=N+16) n (λi aB=>?_) (R'.more λ_ h=>H0 h) (K:=K) ?_ g
   . have:=j (i+1) (by simp;omega);grind
   grind
  split at hs
  . rename_i q;rw[ad q];exact .inl (Oper.wp_mono next hs)
  grind
def Tt(P:Program)(nt kk:Nat)(c:Code)(env:Env)(J:a8)(N:Nat)(Q:Exit->Env->a8->Nat->Prop):Prop:=
 ∀aC φ S a w,aC.k=kk->Rel aC nt φ S env J (lt N) a w->c.wp P (λe b w'=>∃d bQ env' J' N',Q e env' J' N'/\Rel aC nt d bQ env' J' (lt N') b w') a w
def cu(P:Program)(nt kk:Nat)(c:dy)(env:Env)(J:a8)(N:Nat)(Q:Exit->Env->a8->Nat->Prop):Prop:=
 ∀code,resolve P nt code=some c->Tt P nt kk code env J N Q
variable {Q mY:Exit->Env->a8->Nat->Prop}
theorem cu.mono{c:dy}(h:cu P nt kk c env J N Q)(p:∀e env J N,Q e env J N->mY e env J N):cu P nt kk c env J N mY:=
 λcode j aC φ S a w o R=>wp_mono (h code j aC φ S a w o R) λe a w ⟨q,bQ,env',J',N',h1,f⟩=>⟨q,bQ,env',J',N',p _ _ _ _ h1,f⟩
theorem cu.skip(h:Q .normal env J N):cu P nt kk .skip env J N Q:=by
 intro code c aC φ S a w e R;cases code<;>simp only[resolve,bp,bb,reduceCtorEq,kg,mK]at c<;>(try (first|(cases c;done)|(obtain⟨l,_,c⟩:=c;(repeat' split at c)<;>cases c;done)))
 exact wp_skip ⟨φ,S,env,J,N,h,R⟩
theorem cu.ret(h:Q .ret env J N):cu P nt kk .ret env J N Q:=by
 intro code c aC φ S a w e R;cases code<;>simp only[resolve,bp,bb,reduceCtorEq,kg,mK]at c<;>(try (first|(cases c;done)|(obtain⟨l,_,c⟩:=c;(repeat' split at c)<;>cases c;done)))
 exact wp_ret ⟨φ,S,env,J,N,h,R⟩
theorem cu.exit(h:Q (.exit id) env J N):cu P nt kk (.exit id) env J N Q:=by
 intro code c aC φ S a w e R;cases code<;>simp only[resolve,bp,bb,reduceCtorEq,kg,mK]at c<;>(try (first|(cases c;done)|(obtain⟨l,_,c⟩:=c;(repeat' split at c)<;>cases c;done)))
 cases c;exact wp_exit ⟨φ,S,env,J,N,h,R⟩
def andThen(next:Env->a8->Nat->Prop)(Q:Exit->Env->a8->Nat->Prop):Exit->Env->a8->Nat->Prop
 |.normal,env,J,N=>next env J N
 |e,env,J,N=>Q e env J N
theorem Yz{x y:dy}(h:resolve P nt code=some (.seq x y)):∃a b,code= .seq a b/\resolve P nt a=some x/\resolve P nt b=some y:=by
 cases code with
 |seq a b=>
  simp only[resolve,bp,bb]at h;grind
 |region id ops c=>
  simp only[resolve,bp]at h;grind
 |_=>simp[resolve,bp,bb]at h
theorem Xp{c:aP}{x y:dy}(h:resolve P nt code=some (.cond c x y)):∃o a b,code= .cond o a b/\bK o=some c/\resolve P nt a=some x/\resolve P nt b=some y:=by
 cases code with
 |cond o a b=>
  simp only[resolve,bp,bb]at h;grind
 |region id ops d=>
  simp only[resolve,bp]at h;grind
 |_=>simp[resolve,bp,bb]at h
theorem XM{x:dy}(h:resolve P nt code=some (.block id x)):∃b,code= .block id b/\resolve P nt b=some x:=by
 cases code with
 |block i b=>
  simp only[resolve,bb]at h;grind
 |region id ops a=>
  simp only[resolve,bp]at h;grind
 |_=>simp[resolve,bp,bb]at h
theorem Xq{x:dy}(h:resolve P nt code=some (.loop x)):∃b,code= .loop b/\resolve P nt b=some x:=by
 cases code with
 |loop b=>
  simp only[resolve,bb]at h;grind
 |region id ops a=>
  simp only[resolve,bp]at h;grind
 |_=>simp[resolve,bp,bb]at h
theorem RN(h:resolve P nt code=some (.region aZ)):∃id ops,code= .region id ops false/\jv P nt ops ops.toList=some aZ:=by
 cases code with
 |region id ops b=>
  simp only[resolve,bp]at h;obtain⟨l,af,h⟩:=h;split at h
  . grind
  . rename_i a;cases h;simp at a;subst a;grind
 |_=>simp[resolve,bp,bb]at h
theorem R8(h:resolve P nt code=some (.om aZ fY)):
 ∃id ops,code= .region id ops true/\jv P nt ops ops.toList=some aZ/\tc (fh ops aZ)=true/\P.follows .mixedOrders=true/\fY=r7 (fh ops aZ):=by
 cases code with
 |region id ops c=>
  simp only[resolve,bp]at h;obtain⟨l,af,h⟩:=h;split at h
  . rename_i b;split at h
    . rename_i a;cases h;subst b;simp only[cd]at a;exact⟨id,ops,rfl,af,a.1,a.2,rfl⟩
    . cases h
  . cases h
 |_=>simp[resolve,bp,bb]at h
theorem cu.seq{x y:dy}(h:cu P nt kk x env J N (andThen (λenv J N=>cu P nt kk y env J N Q) Q)):cu P nt kk (.seq x y) env J N Q:=by
 intro code p aC φ S a w c R;obtain⟨u,v,rfl,q,t⟩:=Yz p;refine wp_seq (wp_mono (h _ q aC φ S a w c R) ?_)
 rintro e o w' ⟨j,bQ,env',J',N',f,R'⟩
 cases e with
 |normal=>exact f _ t aC j bQ o w' c R'
 |_=>exact⟨j,bQ,env',J',N',f,R'⟩
theorem cu.cond{c:aP}{x y:dy}{p:Prop}{b:Bool}(j:c.get env=some (p,r4 b))(u:p)(v:b=true->cu P nt kk x env J N Q)(A:b=false->cu P nt kk y env J N Q):cu P nt kk (.cond c x y) env J N Q:=by
 intro code q aC φ S a w e R;obtain⟨o,D,E,rfl,t,z,B⟩:=Xp q;have f:=(cz R t j u).1.js;refine wp_cond f ?_;cases b with
 |true=>exact v rfl _ z aC φ S a w e R
 |false=>exact A rfl _ B aC φ S a w e R
def inBlock(id:Nat)(Q:Exit->Env->a8->Nat->Prop):Exit->Env->a8->Nat->Prop
 |.exit i,env,J,N=>if i=id then Q .normal env J N else Q (.exit i) env J N
 |e,env,J,N=>Q e env J N
theorem cu.block{id:Nat}{x:dy}(h:cu P nt kk x env J N (inBlock id Q)):cu P nt kk (.block id x) env J N Q:=by
 intro code j aC φ S a w o R;obtain⟨b,rfl,f⟩:=XM j;refine wp_block (wp_mono (h _ f aC φ S a w o R) ?_)
 rintro e q w' ⟨p,bQ,env',J',N',c,R'⟩
 cases e with
 |exit i=>
  simp only[inBlock]at c;simp only[Exit.inBlock];grind
 |_=>exact⟨p,bQ,env',J',N',c,R'⟩
theorem cu.region{aZ:List cb}(h:kt P aZ N env J (λe s=>Q .normal e s (N+16*aZ.length))):cu P nt kk (.region aZ) env J N Q:=by
 intro code j aC φ S a w t R;obtain⟨id,ops,rfl,o⟩:=RN j;refine wp_region ?_;have:=JS (P:=P) (ops:=ops) (K:=λe s N=>Q .normal e s N) (Q:=λe c w'=>∃p bQ env' J' N',Q e env' J' N'/\Rel aC nt p bQ env' J' (lt N') c w') (k:=0) o (λi q=>by simp) R h
  (λφ S e s N a w bH f=>⟨φ,S,e,s,N,bH,f⟩)
 rw[List.range_eq_range'];omega
end
def pos:a7->Nat->Option Nat
 |[],_=>none
 |x::r,b=>if x=b then some 0 else(pos r b).map (· +1)
theorem nG:∀{bs:a7} {b i:Nat},pos bs b=some i->bs[i]?=some b
 |[],b,i,h=>by simp[pos]at h
 |x::r,b,i,h=>by
  unfold pos at h;split at h
  . grind
  . simp only[bb]at h;obtain⟨j,a,rfl⟩:=h;simpa using nG a
def nZ(bs:a7):a7->Option a7
 |[]=>some []
 |c::r=>match pos bs c,nZ bs r with
  |some i,some l=>some (i::l)
  |_,_=>none
def C.bN(bs:a7):C->C
 |.t x=>.t x
 |.ptr b o=>match pos bs b with|some i=>.ptr i o|none=>.dead
 |.cF b sz i o=>match pos bs b with|some j=>.cF j sz i o|none=>.dead
 |.dM ts o=>.dM ts o
 |.arr b sz off len=>match pos bs b with|some i=>.arr i sz off len|none=>.dead
 |.fw b sz off len=>match pos bs b with|some i=>.fw i sz off len|none=>.dead
 |.mp b=>match pos bs b with|some i=>.mp i|none=>.dead
 |.eg b=>match pos bs b with|some i=>.eg i|none=>.dead
 |.cG b len=>match pos bs b with|some i=>.cG i len|none=>.dead
 |.ay=>.ay
 |.e3=>.e3
 |.e2=>.e2
 |.fn f caps=>match nZ bs caps with|some l=>.fn f l|none=>.dead
 |.dead=>.dead
def V.bN(bs:a7):V->V
 |.c x=>.c (x.bN bs)
 |.agg cs=>.agg (cs.map (C.bN bs))
 |.aY vs=>.aY (go bs vs)
where go (bs:a7):List V->List V
 |[]=>[]
 |v::vs=>v.bN bs::go bs vs
def bO.bN(bs:a7):bO->bO
 |.box cs=>.box (cs.map (C.bN bs))
 |.arr sz es=>.arr sz es
 |.set ks=>.set ks
 |.buf E s=>.buf E s
 |.b8 E c=>.b8 E (c.bN bs)
 |.cA sz es i o c=>.cA sz es i o (c.bN bs)
def nH(bs:a7)(env:Env):a7->Env
 |[]=>[]
 |k::ks=>match look env k with
  |some (g,v)=>(k,g,v.bN bs)::nH bs env ks
  |none=>nH bs env ks
def fp(bs:a7)(J:a8):Nat->a7->a8
 |_,[]=>[]
 |i,b::r=>match aW J b with
  |some x=>(i,x.bN bs)::fp bs J (i+1) r
  |none=>fp bs J (i+1) r
def keeps(k:Nat)(bs:a7):Bool:=(List.range k).all λi=>bs[i]?==some i
section
variable {P:Program}{aC:Ctx}{nt kk:Nat}{φ:dE}{S:dQ}{env:Env}{J:a8}{N:Nat}{n:Nat->Bool}{a:Act}{w:World}
theorem HC:∀{bs caps l:a7},nZ bs caps=some l->caps.length=l.length/\∀(i b j:Nat),caps[i]?=some b->l[i]?=some j->bs[j]?=some b
 |bs,[],l,h=>by simp[nZ]at h;subst h;simp
 |bs,c::r,l,h=>by
  unfold nZ at h;split at h
  . rename_i j k f af;cases h;obtain⟨h1,e⟩:=HC af;refine⟨by simp[h1],?_⟩;intro i b g a d;cases i with
    |zero=>simp at a d;subst a;subst d;exact nG f
    |succ i=>exact e i b g (by simpa using a) (by simpa using d)
  . cases h
theorem bm.bN{u:dE}(p:∀(i:Nat) b,bs[i]?=some b->u i=φ b){c:C}{v:Value}(h:bm φ w S c v):bm u w S (c.bN bs) v:=by
 have e:=bm.jh h;cases c with
 |ptr b o=>
  simp only[C.bN];split
  . rename_i i a;simp only[bm,p i b (nG a)];exact h
  . exact e
 |cF b sz i o=>
  simp only[C.bN];split
  . rename_i j y;simp only[bm,p j b (nG y)];exact h
  . exact e
 |arr b sz off len=>
  simp only[C.bN];split
  . rename_i i a;simp only[bm,p i b (nG a)];exact h
  . exact e
 |fw b sz off len=>
  simp only[C.bN];split
  . rename_i i a;simp only[bm,p i b (nG a)];exact h
  . exact e
 |mp b=>
  simp only[C.bN];split
  . rename_i i a;simp only[bm,p i b (nG a)];exact h
  . exact e
 |eg b=>
  simp only[C.bN];split
  . rename_i i a;simp only[bm,p i b (nG a)];exact h
  . exact e
 |cG b len=>
  simp only[C.bN];split
  . rename_i i a;simp only[bm,p i b (nG a)];exact h
  . exact e
 |fn f caps=>
  simp only[C.bN];split
  . rename_i l af;obtain⟨h1,x⟩:=HC af;simp only[bm]at h⊢;rw[h]
    congr 2
    apply Ft (by simp[h1]);intro i q t;simp at q t;simp only[List.getElem_map];rw[p _ _ (x i _ _ (eH q) (eH t))]
  . exact e
 |_=>exact h
theorem CQ:∀{vs:List V} {i:Nat},(V.bN.go bs vs)[i]?=(vs[i]?).map (V.bN bs)
 |[],i=>by simp[V.bN.go]
 |v::vs,0=>by simp[V.bN.go]
 |v::vs,i+1=>by simp[V.bN.go,CQ]
theorem BV:∀{vs:List V},(V.bN.go bs vs).length=vs.length
 |[]=>rfl
 |v::vs=>by simp[V.bN.go,BV]
theorem a'.pW{c e:Type}{R:α->c->Prop}{R':e->c->Prop}{f:α->e}{l:List α}{m:List c}(h:a' R l m)(k:∀a b,R a b->R' (f a) b):a' R' (l.map f) m:=by
 induction h with
 |nil=>exact .nil
 |cons j _ ih=>exact .cons (k _ _ j) ih
theorem cm.bN{e:dE}(a:∀(i:Nat) b,bs[i]?=some b->e i=φ b){v:V}(h:cm φ w S v x):cm e w S (v.bN bs) x:=by
 induction h with
 |c h=>exact .c (bm.bN a h)
 |agg h=>exact .agg (h.pW λ_ _=>bm.bN a)
 |aY vs xs af h ih=>
  refine .aY _ xs (by rw[BV];exact af) ?_;intro i v x f j;rw[CQ,bb]at f;grind
theorem td{b i:Nat}(h:pos bs b=some i):i<bs.length:=(c5.1 (nG h)).1
theorem C.jU(c:C):(c.bN bs).aA (lt bs.length)=true:=by
 cases c with
 |ptr b o=>simp only[C.bN];split<;>simp[C.aA,lt];rename_i h;exact td h
 |cF b sz i o=>simp only[C.bN];split<;>simp[C.aA,lt];rename_i h;exact td h
 |arr b sz off len=>simp only[C.bN];split<;>simp[C.aA,lt];rename_i h;exact td h
 |fw b sz off len=>simp only[C.bN];split<;>simp[C.aA,lt];rename_i h;exact td h
 |mp b=>simp only[C.bN];split<;>simp[C.aA,lt];rename_i h;exact td h
 |eg b=>simp only[C.bN];split<;>simp[C.aA,lt];rename_i h;exact td h
 |cG b len=>simp only[C.bN];split<;>simp[C.aA,lt];rename_i h;exact td h
 |fn f caps=>
  simp only[C.bN];split
  . rename_i l af;obtain⟨h1,a⟩:=HC af;simp only[C.aA,cY,lt,dn];intro j p;obtain⟨i,e,rfl⟩:=eZ p;exact(c5.1 (a i _ _ (eH (by omega)) (eH e))).1
  . rfl
 |_=>rfl
theorem V.jU{bs:a7}:∀(v:V),(v.bN bs).aA (lt bs.length)=true
 |.c x=>by simp only[V.bN,V.aA];exact C.jU x
 |.agg cs=>by simp only[V.bN,V.aA,mL,cY];intro c _;exact C.jU c
 |.aY vs=>by simp only[V.bN,V.aA];exact go vs
where go:∀vs,V.aA.V.dF (lt bs.length) (V.bN.go bs vs)=true
 |[]=>rfl
 |v::vs=>by simp only[V.bN.go,V.aA.V.dF,cd];exact⟨V.jU v,go vs⟩
theorem yX:∀{ks:a7} {k:Nat} {g:Bool} {v:V},look (nH bs env ks) k=some (g,v)->∃v0,look env k=some (g,v0)/\v=v0.bN bs
 |[],k,g,v,h=>by simp[nH,look]at h
 |x::ks,k,g,v,h=>by
  unfold nH at h;split at h
  . rename_i a b af;unfold look at h;split at h
    . grind
    . exact yX h
  . exact yX h
theorem pv:∀{r:a7} {i:Nat} {b:Nat} {x:bO},aW (fp bs J i r) b=some x->∃j c g,b=i+j/\r[j]?=some c/\aW J c=some g/\x=g.bN bs
 |[],i,b,x,h=>by simp[fp,aW]at h
 |c::r,i,b,x,h=>by
  unfold fp at h;split at h
  . rename_i g l;unfold aW at h;split at h
    . simp_all
    . obtain⟨j,a,k,h1,d,e,f⟩:=pv h;exact⟨j+1,a,k,by omega,by simpa using d,e,f⟩
  . obtain⟨j,a,k,h1,d,e,f⟩:=pv h;exact⟨j+1,a,k,by omega,by simpa using d,e,f⟩
theorem c1.bN{q:dE}(a:∀(i:Nat) b,bs[i]?=some b->q i=φ b){i b:Nat}(e:bs[i]?=some b){x:bO}(h:c1 φ w S b x):c1 q w S i (x.bN bs):=by
 cases x with
 |box cs=>
  obtain⟨h0,vs,E,h1,f,j⟩:=h;simp only[bO.bN,c1,a i b e];exact⟨h0,vs,E,h1,f.pW λ_ _=>bm.bN a,j⟩
 |arr sz es=>simp only[bO.bN,c1,a i b e];exact h
 |set ks=>simp only[bO.bN,c1,a i b e];exact h
 |buf E s=>simp only[bO.bN,c1,a i b e];exact h
 |b8 E c=>
  obtain⟨h0,⟨p,v,h1,f,j⟩,t⟩:=h;simp only[bO.bN,c1,a i b e];exact⟨h0,⟨p,v,h1,f,bm.bN a j⟩,t⟩
 |cA sz es i o c=>
  obtain⟨h1,⟨vs,E,u,y,z,v,A,B⟩,D⟩:=h;simp only[bO.bN,c1,a _ b e];exact⟨h1,⟨vs,E,u,y,z,v,A,bm.bN a B⟩,D⟩
theorem Rel.tidy(R:Rel aC nt φ S env J (lt N) a w)(ks bs:a7)(bT:bs.Nodup)(L:keeps aC.k bs=true):
 ∃W,Rel aC nt W S (nH bs env ks) (fp bs J 0 bs) (lt bs.length) a w:=by
 have G:∀(i:Nat) b,bs[i]?=some b->(λi=>φ ((bs[i]?).getD 0)) i=φ b:=by intro i b h;simp[h]
 have D:∀i:Nat,i<aC.k->bs[i]?=some i:=by
  intro i Y;simp only[keeps,cY,wi,iM]at L;grind
 refine⟨λi=>φ ((bs[i]?).getD 0),⟨⟨λb x f=>?_,λb X x y f P M h0 A=>?_,R.bP.st⟩,λk g v af al=>?_,λk g v af al=>?_,λk g v af al=>?_,λb x f=>?_,R.size,R.defers,R.ext,λb x f h0=>?_,λb u=>?_,λb u=>?_⟩⟩
 . obtain⟨j,c,q,rfl,p,t,rfl⟩:=pv f;rw[ga];exact c1.bN G p (R.bP.blk c q t)
 . obtain⟨j,c,q,rfl,p,t,rfl⟩:=pv f;obtain⟨z,H,U,rfl,B,K,rfl⟩:=pv P;simp only[ga,p,B,lo]at h0 A⊢;refine R.bP.inj c H q U t K ?_ h0 A;intro e;subst e;have Q:=(c5.1 p)
   have l2:=(c5.1 B)
   obtain⟨a1,b1⟩:=Q;obtain⟨a2,b2⟩:=l2;have F:=ru.1 bT;rcases Fl j z with h|h|h
   . exact F j z a1 a2 h (b1.trans b2.symm)
   . subst h;exact M rfl
   . exact F z j a2 a1 h (b2.trans b1.symm)
 . obtain⟨v0,h1,rfl⟩:=yX af;obtain⟨x,f,O⟩:=R.gF k g v0 h1 al;exact⟨x,f,cm.bN G O⟩
 . obtain⟨v0,h1,rfl⟩:=yX af;exact R.hI k g v0 h1 al
 . obtain⟨v0,h1,rfl⟩:=yX af;exact V.jU v0
 . obtain⟨j,c,q,rfl,p,t,rfl⟩:=pv f;refine⟨by simp[lt];exact(c5.1 p).1,?_⟩;cases q with
   |box cs=>simp only[bO.bN,bO.aA,mL,cY];intro c _;exact C.jU c
   |arr sz es=>rfl
   |set ks=>rfl
   |buf E s=>rfl
   |b8 E c=>exact C.jU c
   |cA sz es i o c=>exact C.jU c
 . obtain⟨j,c,q,rfl,p,t,rfl⟩:=pv f;simp only[ga,p,lo]at h0⊢;exact R.own c q t h0
 . simp only[D b u,lo];exact R.fix b u
 . simp only[lt,dn];exact(c5.1 (D b u)).1
theorem cu.tidy{c:dy}{Q:Exit->Env->a8->Nat->Prop}(ks bs:a7)(bT:bs.Nodup)(f:keeps kk bs=true)(h:cu P nt kk c (nH bs env ks) (fp bs J 0 bs) bs.length Q):cu P nt kk c env J N Q:=by
 intro code e aC φ S a w j R;subst j;obtain⟨o,R'⟩:=R.tidy ks bs bT f;exact h code e aC o S a w rfl R'
end
def cut(es:List (List T))(off len:Nat):List (List T):=if off=0/\len=es.length then es else(es.drop off).take len
def C.ch(b0 a:Nat)(es:List (List T)):C->C
 |.arr b sz off len=>if b=b0 then(if sz=a/\off+len<=es.length then .t (.slice (cut es off len))else .dead)else .arr b sz off len
 |.cF b sz i o=>if b=b0 then .dead else .cF b sz i o
 |c=>c
def V.ch(b0 a:Nat)(es:List (List T)):V->V
 |.c x=>.c (x.ch b0 a es)
 |.agg cs=>.agg (cs.map (C.ch b0 a es))
 |.aY vs=>.aY (go b0 a es vs)
where go (b0 a:Nat) (es:List (List T)):List V->List V
 |[]=>[]
 |v::vs=>v.ch b0 a es::go b0 a es vs
def bO.ch(b0 a:Nat)(es:List (List T)):bO->bO
 |.box cs=>.box (cs.map (C.ch b0 a es))
 |.arr sz l=>.arr sz l
 |.set ks=>.set ks
 |.buf E s=>.buf E s
 |.b8 E c=>.b8 E (c.ch b0 a es)
 |.cA sz l i o c=>.cA sz l i o (c.ch b0 a es)
def qT(b0 a:Nat)(es:List (List T)):Env->Env
 |[]=>[]
 |(k,g,v)::r=>(k,g,v.ch b0 a es)::qT b0 a es r
def mH(b0 a:Nat)(es:List (List T)):a8->a8
 |[]=>[]
 |(k,x)::r=>if k=b0 then mH b0 a es r else(k,x.ch b0 a es)::mH b0 a es r
variable{vs:List V}
section
variable {P:Program}{aC:Ctx}{nt kk:Nat}{φ:dE}{S:dQ}{env:Env}{J:a8}{N:Nat}{n:Nat->Bool}{a:Act}{w:World}
theorem y5{a:Nat}:∀{env:Env} {k:Nat},look (qT b0 a es env) k=(look env k).map λx=>(x.1,x.2.ch b0 a es)
 |[],k=>rfl
 |(i,g,v)::r,k=>by
  simp only[qT,look];split
  . rfl
  . exact y5
theorem Dc{b:Nat}:∀{J:a8} {k:Nat},aW (mH b0 b es J) k=if k=b0 then none else(aW J k).map (bO.ch b0 b es)
 |[],k=>by simp[mH,aW]
 |(i,x)::r,k=>by
  simp only[mH,aW];by_cases h:i=b0
  . rw[ad h,Dc];grind
  . rw[ak h];simp only[aW];by_cases a:i=k
    . grind
    . rw[ak a,ak a,Dc]
def vL(S:dQ)(q:Nat×Nat):dQ:=λb j=>S b j\/(q.2≠0/\b=q.1)
theorem acs{len:Nat}{e:List T}(h:e∈cut es off len):e∈es:=by
 unfold cut at h;grind
theorem acu{len i:Nat}{e:List T}(a:off+len<=es.length)(h:(cut es off len)[i]?=some e):es[off+i]?=some e/\i<len:=by
 unfold cut at h;grind
theorem Zn{len:Nat}(a:off+len<=es.length):(cut es off len).length=len:=by
 unfold cut;grind
theorem bm.ch{b0 x:Nat}{es:List (List T)}(dm:c1 φ w S b0 (.arr x es)){c:C}{v:Value}(h:bm φ w S c v):bm φ w (vL S (φ b0)) (c.ch b0 x es) v:=by
 have m:gq w S w (vL S (φ b0)):=⟨λ_ _ h=>.inl h,λ_ _ _=>rfl⟩
 have u:=bm.jh h;cases c with
 |arr b sz off len=>
  simp only[C.ch];by_cases f:b=b0
  . subst f;rw[ad rfl];split
    . rename_i A;obtain⟨rfl,q⟩:=A;obtain⟨h1,H,y,J,ba⟩:=dm;obtain⟨a,rfl,z,L⟩:=bm.gY h;have af:=Zn q;show cf w _ (.slice (cut es off len)) _;have aK:Value.slice a len ((φ b).2-off)=Value.slice a (cut es off len).length ((φ b).2-off):=by rw[af]
      rw[aK];by_cases h0:(φ b).2=0
      . have:cut es off len=[]:=jR (by omega);rw[this];exact cf.slice [] _ _ 0 0 0 (λ_ _=>undef) (by simp) (by simp) (by simp) (by simp) (by simp) (by simp)
      . obtain⟨vs,E,aa,M,D,hs⟩:=ba h0;refine cf.slice _ _ _ sz (φ b).1 (off*sz) (λi j=>(vs.getD ((off+i)*sz+j) undef)) (by omega) (by omega) (λe he=>y e (acs he)) (λ_=>z h0) ?_ ?_
        . intro i j p K;rw[af]at p;refine⟨.inr ⟨h0,rfl⟩,?_⟩;rw[ju aa,show off*sz+i*sz+j=(off+i)*sz+j by rw[gb]];have aB:(off+i)*sz+j<vs.length:=by
           have:=eW sz (show off+i+1<=(φ b).2 by omega);grind
          grind
        . intro i j e t he ht;obtain⟨B,p⟩:=acu q he;obtain⟨v,G,F⟩:=D _ _ _ _ B ht;simp only[List.getD,G,lo];exact cf.mono m F
    . exact u
  . rw[ak f];exact bm.mono (n:=λ_=>true) m (λ_ _=>rfl) (C.me _) h
 |cF b sz i o=>
  simp only[C.ch];split
  . exact u
  . exact h
 |_=>exact bm.mono (n:=λ_=>true) m (λ_ _=>rfl) (C.me _) h
theorem HD{a:Nat}:∀{vs:List V} {i:Nat},(V.ch.go b0 a es vs)[i]?=(vs[i]?).map (V.ch b0 a es)
 |[],i=>by simp[V.ch.go]
 |v::vs,0=>by simp[V.ch.go]
 |v::vs,i+1=>by simp[V.ch.go,HD]
theorem GW{a:Nat}:∀{vs:List V},(V.ch.go b0 a es vs).length=vs.length
 |[]=>rfl
 |v::vs=>by simp[V.ch.go,GW]
theorem cm.ch{a:Nat}(dm:c1 φ w S b0 (.arr a es)){v:V}(h:cm φ w S v x):cm φ w (vL S (φ b0)) (v.ch b0 a es) x:=by
 induction h with
 |c h=>exact .c (bm.ch dm h)
 |agg h=>exact .agg (h.pW λ_ _=>bm.ch dm)
 |aY vs xs af h ih=>
  refine .aY _ xs (by rw[GW];exact af) ?_;intro i v x e f;rw[HD,bb]at e;grind
theorem C.qk{a:Nat}{c:C}(h:c.aA n=true):(c.ch b0 a es).aA n=true:=by
 cases c with
 |arr b sz off len=>simp only[C.ch];split;split;rfl;rfl;exact h
 |cF b sz i o=>simp only[C.ch];split;rfl;exact h
 |_=>exact h
theorem V.qk{b0 a:Nat}{es:List (List T)}:∀{v:V},v.aA n=true->(v.ch b0 a es).aA n=true
 |.c x,h=>by simp only[V.ch,V.aA]at h⊢;exact C.qk h
 |.agg cs,h=>by simp only[V.ch,V.aA,mL,cY]at h⊢;intro c e;exact C.qk (h c e)
 |.aY vs,h=>by simp only[V.ch,V.aA]at h⊢;exact go vs h
where go:∀vs,V.aA.V.dF n vs=true->V.aA.V.dF n (V.ch.go b0 a es vs)=true
 |[],_=>rfl
 |v::vs,h=>by simp only[V.ch.go,V.aA.V.dF,cd]at h⊢;exact⟨V.qk h.1,go vs h.2⟩
theorem Rel.freeze(R:Rel aC nt φ S env J n a w){O:Nat}(Q:aW J b0=some (.arr O es)):
 Rel aC nt φ (vL S (φ b0)) (qT b0 O es env) (mH b0 O es J) n a w:=by
 have dm:=R.bP.blk b0 _ Q;have m:gq w S w (vL S (φ b0)):=⟨λ_ _ h=>.inl h,λ_ _ _=>rfl⟩
 have N:∀b x,aW (mH b0 O es J) b=some x->b≠b0/\∃z,aW J b=some z/\x=z.ch b0 O es:=by
  intro b x f;rw[Dc]at f;split at f
  . cases f
  . rename_i h;simp only[bb]at f;grind
 have G:∀b x,b≠b0->aW J b=some x->(φ b).2≠0->∀j,¬vL S (φ b0) (φ b).1 j:=by
  intro b x B f h0 j u;rcases u with u|⟨K,u⟩
  . exact(R.bP.blk b x f).pX h0 j u
  . exact R.bP.inj b b0 x _ f Q B h0 K u
 refine⟨⟨λb x f=>?_,λb Z x y f aB B h0 an=>?_,λb j u=>?_⟩,λk g v af al=>?_,λk g v af al=>?_,λk g v af al=>?_,λb x f=>?_,R.size,R.defers,?_,λb x f h0=>?_,R.fix,R.fQ⟩
 . obtain⟨B,z,q,rfl⟩:=N b x f;have A:=R.bP.blk b z q;cases z with
   |box cs=>
    obtain⟨h0,vs,E,h1,D,F⟩:=A;exact⟨h0,vs,E,h1,D.pW λ_ _=>bm.ch dm,G b _ B q h0⟩
   |arr sz l=>
    obtain⟨h1,D,F,P,ba⟩:=A;refine⟨h1,D,F,P,λh0=>?_⟩;obtain⟨vs,E,W,X,Y,am⟩:=ba h0;exact⟨vs,E,W,X,λi j e t he ht=>let⟨v,U,M⟩:=Y i j e t he ht;⟨v,U,cf.mono m M⟩,G b _ B q h0⟩
   |set ks=>exact⟨A.1,A.2.1,G b _ B q A.1⟩
   |buf E s=>exact⟨A.1,A.2.1,λh0=>⟨(A.2.2 h0).1,G b _ B q h0⟩⟩
   |b8 E c=>
    obtain⟨h0,⟨p,v,h1,D,F⟩,P⟩:=A;exact⟨h0,⟨p,v,h1,D,bm.ch dm F⟩,G b _ B q h0⟩
   |cA sz l i o c=>
    obtain⟨⟨h1,D,F,P,ba,ap⟩,⟨vs,E,W,X,Y,v,am,aZ⟩,a1⟩:=A;exact⟨⟨h1,D,F,P,ba,ap⟩,⟨vs,E,W,X,λi j e t he ht aD=>let⟨v,U,M⟩:=Y i j e t he ht aD;⟨v,U,cf.mono m M⟩,v,am,bm.ch dm aZ⟩,G b _ B q (by omega)⟩
 . obtain⟨_,z,q,rfl⟩:=N b x f;obtain⟨_,a0,aI,rfl⟩:=N Z y aB;exact R.bP.inj b Z z a0 q aI B h0 an
 . rcases u with u|⟨K,rfl⟩
   . exact R.bP.st b j u
   . exact dm.ki K
 . rw[y5,bb]at af;obtain⟨⟨H,v0⟩,L,he⟩:=af;cases he;obtain⟨x,f,M⟩:=R.gF k H v0 L al;exact⟨x,f,cm.ch dm M⟩
 . rw[y5,bb]at af;obtain⟨⟨H,v0⟩,L,he⟩:=af;cases he;exact R.hI k H v0 L al
 . rw[y5,bb]at af;obtain⟨⟨H,v0⟩,L,he⟩:=af;cases he;exact V.qk (R.gE k H v0 L al)
 . obtain⟨_,z,q,rfl⟩:=N b x f;refine⟨(R.dN b z q).1,?_⟩;have:=(R.dN b z q).2;cases z with
   |box cs=>simp only[bO.ch,bO.aA,mL,cY]at this⊢;intro c ax;exact C.qk (this c ax)
   |arr sz l=>rfl
   |set ks=>rfl
   |buf E s=>rfl
   |b8 E c=>simp only[bO.ch,bO.aA]at this⊢;exact C.qk this
   |cA sz l i o c=>simp only[bO.ch,bO.aA]at this⊢;exact C.qk this
 . refine⟨R.ext.os,R.ext.tape,R.ext.output,R.ext.size,R.ext.block,R.ext.mono.trans m,λb j u=>?_⟩;rcases u with u|⟨K,rfl⟩
   . exact R.ext.rF b j u
   . rcases R.own b0 _ Q K with h|h
     . exact .inr (.inl h)
     . exact .inr (.inr h)
 . obtain⟨_,z,q,rfl⟩:=N b x f;exact R.own b z q h0
theorem cu.freeze{c:dy}{Q:Exit->Env->a8->Nat->Prop}(b0:Nat){e:Nat}(f:aW J b0=some (.arr e es))(h:cu P nt kk c (qT b0 e es env) (mH b0 e es J) N Q):cu P nt kk c env J N Q:=by
 intro code j aC φ S a w o R;exact h code j aC φ _ a w o (R.freeze f)
inductive jm where
 |tmp (t:Nat)
 |cell (t:Nat)(agg:Bool)(n:Nat)
def hZ(P:Program):List ResultVar->Option (List jm)
 |[]=>some []
 |.tmp t::r=>(hZ P r).map (.tmp t::·)
 |.cell a ty::r=>(tb P ty).bind λg=>(hZ P r).map (.cell a g.1 g.2::·)
def te(env:Env)(J:a8):jm->Option (Prop×V)
 |.tmp t=>(look env t).map λx=>(x.1=true,x.2)
 |.cell t g k=>match look env t with
  |some (a,.c (.ptr b o))=>match aW J b with
   |some (.box cs)=>(jP g k cs o).map λv=>(a=true,v)
   |_=>none
  |_=>none
def n0(env:Env)(J:a8):List jm->Option (Prop×List V)
 |[]=>some (True,[])
 |r::a=>(te env J r).bind λx=>(n0 env J a).map λy=>(x.1/\y.1,x.2::y.2)
def l3:List V->V
 |[v]=>v
 |vs=>.aY vs
def ea(P:Program)(f:Nat)(args:List V)(J:a8)(k:Nat)(Q:V->a8->Nat->Prop):Prop:=
 ∀(φ:dE) (S:dQ) (w:World) (B:Nat->Prop),qe φ w S J->(∀(b:Nat) x,aW J b=some x->b<k/\x.aA (lt k)=true)->(∀(b:Nat) x,aW J b=some x->(φ b).2≠0->B (φ b).1)->
  V.aA.V.dF (lt k) args=true->∀vs:List Value,a' (cm φ w S) args vs->
  Calls P f vs.toArray w λe w'=>∃v r a bQ J' N',e= .returned v/\Q r J' N'/\cm a w' bQ r v/\r.aA (lt N')=true/\qe a w' bQ J'/\(∀(b:Nat) x,aW J' b=some x->b<N'/\x.aA (lt N')=true)/\Ext B S bQ w w'/\
   (∀(b:Nat) x,aW J' b=some x->(a b).2≠0->B (a b).1\/w.heap.size<=(a b).1)/\∀b,b<k->a b=φ b
theorem Ext.refl{B:Nat->Prop}:Ext B S S w w:=⟨rfl,rfl,rfl,ef _,λ_ _ _=>rfl,gq.refl _ _,λ_ _ h=>.inl h⟩
def fP:Nat->List V->Env
 |_,[]=>[]
 |i,v::vs=>(i,true,v)::fP (i+1) vs
theorem Dz:∀{vs:List V} {i k:Nat} {g:Bool} {v:V},look (fP i vs) k=some (g,v)->g=true/\∃j,k=i+j/\vs[j]?=some v
 |[],i,k,g,v,h=>by simp[fP,look]at h
 |x::vs,i,k,g,v,h=>by
  simp only[fP,look]at h;split at h
  . simp_all
  . obtain⟨h1,j,b,a⟩:=Dz h;exact⟨h1,j+1,by omega,by simpa using a⟩
def wy(a:Act):ResultVar->Sem Value
 |.tmp t=>Pure.pure (a.tmps.getD t undef)
 |.cell b ty=>do loadVar ty (<-asAddr (a.tmps.getD b undef))
theorem Zo(fn:Func)(a:Act):results fn a.tmps=(fn.results.mapM (wy a)>>=λvs=>Pure.pure (if h:vs.size=1 then vs[0]else .tuple vs)):=by rfl
theorem Xr(R:Rel aC nt φ S env J n a w){i:ResultVar}{k:jm}(c:hZ P [i]=some [k]){p:Prop}{v:V}(h:te env J k=some (p,v))(d:p):
 ∃x,(wy a i).run P w= .ok x w/\cm φ w S v x/\v.aA n=true:=by
 cases i with
 |tmp t=>
  simp[hZ]at c;subst c;simp only[te,bb,bB]at h;obtain⟨⟨g,v0⟩,af,rfl,rfl⟩:=h;obtain⟨x,f,e⟩:=R.gF t g v0 af d;refine⟨x,?_,e,R.gE t g v0 af d⟩;simp[wy,f]
 |cell r ty=>
  simp only[hZ,bp,bb]at c;obtain⟨g,al,l,af,he⟩:=c;simp at af;subst af;simp at he;subst he;simp only[te]at h;split at h
  . rename_i s b o af;split at h
    . rename_i cs m;simp only[bb,bB]at h;obtain⟨v0,A,rfl,rfl⟩:=h;obtain⟨x,f,e⟩:=R.gF r s _ af d;have:=e.hQ;subst this;obtain⟨_,vs,E,aa,z,_⟩:=R.bP.blk _ _ m;obtain⟨y,q,h1,u⟩:=s4 (n:=n) al z (R.dN _ _ m).2 (λj _=>by rw[ju aa,ga]) A;rw[ga]at q;refine⟨y,?_,h1,u⟩;simp[wy,f,asAddr,q]
    . cases h
  . cases h
theorem Tk(R:Rel aC nt φ S env J n a w):∀{d:List ResultVar} {c:List jm} {p:Prop} {vs:List V},hZ P d=some c->n0 env J c=some (p,vs)->p->
 ∃xs:List Value,(d.mapM (wy a)).run P w= .ok xs w/\a' (cm φ w S) vs xs/\V.aA.V.dF n vs=true
 |[],c,p,vs,b,h,i=>by
  simp[hZ]at b;subst b;simp[n0]at h;obtain⟨_,rfl⟩:=h;exact⟨[],by simp,.nil,rfl⟩
 |j::d,c,p,vs,b,h,i=>by
  have u:∃e f,c=e::f/\hZ P [j]=some [e]/\hZ P d=some f:=by
   cases j with
   |tmp t=>
    simp only[hZ,bb]at b;obtain⟨l,af,rfl⟩:=b;exact⟨_,l,rfl,rfl,af⟩
   |cell A ty=>
    simp only[hZ,bp,bb]at b;obtain⟨g,al,l,af,rfl⟩:=b;exact⟨_,l,rfl,by simp[hZ,al],af⟩
  obtain⟨e,f,rfl,h1,k⟩:=u;simp only[n0,bp,bb]at h;obtain⟨⟨q,v⟩,r,⟨D,E⟩,s,he⟩:=h;simp only[bB]at he;obtain⟨rfl,rfl⟩:=he;obtain⟨x,B,y,m⟩:=Xr R h1 r i.1;obtain⟨xs,C,z,o⟩:=Tk R k s i.2;refine⟨x::xs,?_,.cons y z,by simp[V.aA.V.dF,m,o]⟩;simp_all
theorem cm.l3{xs:List Value}(h:a' (cm φ w S) vs xs):cm φ w S (l3 vs) (if h:xs.toArray.size=1 then xs.toArray[0]else .tuple xs.toArray):=by
 cases h with
 |nil=>exact .aY [] [] rfl (by simp)
 |cons h1 a=>
  cases a with
  |nil=>simpa[Shv.l3]using h1
  |cons a c=>
   rw[dif_neg (by simp)];refine .aY _ _ (by simp[c.length]) ?_;intro i v x e f;have:=(a'.cons h1 (.cons a c)).get e;grind
theorem aae(h:V.aA.V.dF n vs=true):(l3 vs).aA n=true:=by
 unfold l3;split
 . simp[V.aA.V.dF]at h;exact h
 . simpa[V.aA]using h
def Ej(a:List jm)(Q:V->a8->Nat->Prop):Exit->Env->a8->Nat->Prop
 |.normal,env,J,N=>∃p vs,n0 env J a=some (p,vs)/\p/\Q (l3 vs) J N
 |.ret,env,J,N=>∃p vs,n0 env J a=some (p,vs)/\p/\Q (l3 vs) J N
 |_,_,_,_=>False
theorem ea.Fw{fn:Func}{c:dy}{E:List jm}(X:P.funcs[f]?=some fn)(F:fn.body=some code)(W:resolve P fn.ntmps code=some c)(K:hZ P fn.results.toList=some E)
 {args:List V}(aD:args.length<=fn.ntmps){k:Nat}{Q:V->a8->Nat->Prop}(h:cu P fn.ntmps k c (fP 0 args) J k (Ej E Q)):ea P f args J k Q:=by
 intro φ S w B ap an Z O vs L;have af:=L.length;refine calls_of_wp X F ?_;have R:Rel ⟨w,S,B,φ,k⟩ fn.ntmps φ S (fP 0 args) J (lt k) {tmps:=vs.toArray++Array.replicate (fn.ntmps-vs.toArray.size) undef,defers:=[]} w:=by
  refine⟨ap,λi g v u al=>?_,λi g v u al=>?_,λi g v u al=>?_,λb x o=>?_,?_,rfl,Ext.refl,λb x o h0=>.inl (Z b x o h0),λ_ _=>rfl,λb F=>by simp[lt];exact F⟩
  . obtain⟨_,j,rfl,G⟩:=Dz u;obtain⟨x,o,K⟩:=L.get G;grind
  . have:=(Dz u).1;rw[this]at al;cases al
  . obtain⟨_,j,rfl,G⟩:=Dz u;exact nC O G
  . obtain⟨h1,t⟩:=an b x o;exact⟨by simp[lt];exact h1,t⟩
  grind
 refine wp_mono (h code W ⟨w,S,B,φ,k⟩ φ S _ w rfl R) ?_
 rintro e D w' ⟨aB,bQ,env',J',N',a,R'⟩
 have H:(∃ p vs,n0 env' J' E = some (p,vs)/\p/\Q (l3 vs) J' N')->D.defers = []/\∃ v,(results fn D.tmps).run P w' = .ok v w'/\(∃ M r q A y z,Ending.returned v = .returned M/\Q r y z/\cm q w' A r M/\r.aA (lt z) = true/\qe q w' A y/\(∀ (b:Nat) x,aW y b = some x->b<z/\x.aA (lt z) = true)/\Ext B S A w w'/\
  (∀(b:Nat) x,aW y b=some x->(q b).2≠0->B (q b).1\/w.heap.size<=(q b).1)/\∀b,b<k->q b=φ b):=by
  rintro ⟨p,ax,h1,t,N⟩
  obtain⟨xs,aI,am,U⟩:=Tk R' K h1 t;refine⟨R'.defers,_,?_,_,l3 ax,aB,bQ,J',N',rfl,N,cm.l3 am,aae U,R'.bP,λb x o=>?_,R'.ext,R'.own,R'.fix⟩
  . have Y:(fn.results.mapM (wy D)).run P w'= .ok xs.toArray w':=by
     rw[Array.mapM_eq_mapM_toList];simp_all
    rw[Zo];simp only[Sem.run_bind,Y,Result.andThen_ok];rfl
  . obtain⟨h1,t⟩:=R'.dN b x o;exact⟨by simpa[lt]using h1,t⟩
 cases e with
 |normal=>exact H a
 |ret=>exact H a
 |exit id=>exact a.elim
 |goto l=>exact a.elim
 |panic aC=>exact a.elim
 |outgrown=>exact a.elim
end
end
open Go
def C.bx(k:Nat):C->C
 |.ptr b o=>.ptr (k+b) o
 |.cF b sz i o=>.cF (k+b) sz i o
 |.arr b sz off len=>.arr (k+b) sz off len
 |.fw b sz off len=>.fw (k+b) sz off len
 |.mp b=>.mp (k+b)
 |.eg b=>.eg (k+b)
 |.cG b len=>.cG (k+b) len
 |.fn f caps=>.fn f (caps.map (k+·))
 |c=>c
def V.bx(k:Nat):V->V
 |.c x=>.c (x.bx k)
 |.agg cs=>.agg (cs.map (C.bx k))
 |.aY vs=>.aY (go k vs)
where go (k:Nat):List V->List V
 |[]=>[]
 |v::vs=>v.bx k::go k vs
def bO.bx(k:Nat):bO->bO
 |.box cs=>.box (cs.map (C.bx k))
 |.arr sz es=>.arr sz es
 |.set ks=>.set ks
 |.buf E s=>.buf E s
 |.b8 E c=>.b8 E (c.bx k)
 |.cA sz es i o c=>.cA sz es i o (c.bx k)
def lA(J:a8)(k:Nat):a8->a8
 |[]=>J
 |(b,x)::r=>da (lA J k r) (k+b) (x.bx k)
variable{J:a8}{f:Nat}{K:V->a8->Prop}{Q:V->a8->Nat->Prop}
theorem yP{k:Nat}:∀{a:a8} {b:Nat},aW (lA J k a) b=match (if k<=b then aW a (b-k)else none)with|some x=>some (x.bx k)|none=>aW J b
 |[],b=>by simp[lA,aW]
 |(c,x)::r,b=>by
  simp only[lA,cV,yP,aW];grind
section
variable {P:Program}{aC:Ctx}{nt kk:Nat}{φ:dE}{S bQ:dQ}{env:Env}{J:a8}{N key:Nat}{n:Nat->Bool}{a:Act}{w w':World}
theorem hx.Fy{args:List V}{r:V}(h:ea P f args [] 0 (λj _ _=>j=r))(q:V.aA.V.dF (lt 0) args=true)(o:r.aA (lt 0)=true)(bH:K r J):hx P f args J key K:=by
 intro aC nt φ S env n a w R aD E vs t;refine(h φ S w (λ_=>False) ⟨λb x c=>by simp[aW]at c,λb u x y c=>by simp[aW]at c,R.bP.st⟩ (λb x c=>by simp[aW]at c) (λb x c=>by simp[aW]at c) q vs t).mono ?_
 rintro e w' ⟨v,j,F,bQ,J',N',rfl,rfl,h1,z,p,A,ba,B,D⟩
 refine⟨v,j,φ,bQ,J,rfl,bH,?_,V.hh (λb h=>by simp[lt]at h) o,(R.extend ba p.st).more λ_ h=>lN h⟩;exact cm.mono (gq.refl _ _) (n:=lt 0) (λb h=>by simp[lt]at h) o h1
theorem bm.bx{j:dE}{k:Nat}{n:Nat->Bool}(e:∀b,n b=true->j (k+b)=φ b){c:C}{v:Value}(a:c.aA n=true)(h:bm φ w S c v):bm j w S (c.bx k) v:=by
 cases c with
 |ptr b o=>simp only[C.aA]at a;simp only[C.bx,bm,e b a];exact h
 |cF b sz i o=>simp only[C.aA]at a;simp only[C.bx,bm,e b a];exact h
 |arr b sz off len=>simp only[C.aA]at a;simp only[C.bx,bm,e b a];exact h
 |fw b sz off len=>simp only[C.aA]at a;simp only[C.bx,bm,e b a];exact h
 |mp b=>simp only[C.aA]at a;simp only[C.bx,bm,e b a];exact h
 |eg b=>simp only[C.aA]at a;simp only[C.bx,bm,e b a];exact h
 |cG b len=>simp only[C.aA]at a;simp only[C.bx,bm,e b a];exact h
 |fn f caps=>
  simp only[C.aA,cY]at a;simp only[C.bx,bm]at h⊢;simp_all
 |_=>exact h
theorem JT{k:Nat}:∀{vs:List V} {i:Nat},(V.bx.go k vs)[i]?=(vs[i]?).map (V.bx k)
 |[],i=>by simp[V.bx.go]
 |v::vs,0=>by simp[V.bx.go]
 |v::vs,i+1=>by simp[V.bx.go,JT]
theorem Tl{k:Nat}:∀{vs:List V},(V.bx.go k vs).length=vs.length
 |[]=>rfl
 |v::vs=>by simp[V.bx.go,Tl]
theorem cm.bx{e:dE}{k:Nat}{n:Nat->Bool}(o:∀b,n b=true->e (k+b)=φ b){v:V}{x:Value}(a:v.aA n=true)(h:cm φ w S v x):cm e w S (v.bx k) x:=by
 induction h with
 |c h=>exact .c (bm.bx o (by simpa[V.aA]using a) h)
 | @agg cs vs h=>
  simp only[V.aA,cY]at a;refine .agg ?_;have:=h.imp (R':=λc v=>bm e w S (C.bx k c) v) λc v p q=>bm.bx o (a c p) q;exact this.pW λ_ _ h=>h
 |aY vs xs af h ih=>
  refine .aY _ xs (by rw[Tl];exact af) ?_;intro i v x f t;rw[JT,bb]at f;obtain⟨v0,j,rfl⟩:=f;exact ih i v0 x j t (nC (by simpa[V.aA]using a) j)
theorem C.rE{m:Nat}(a:m<=16){c:C}(h:c.aA (lt m)=true):(c.bx key).aA (eD n key)=true:=by
 cases c<;>simp only[C.bx,C.aA,lt,eD,dn,hO,cd,cY,eO]at h⊢
 . right;omega
 . right;omega
 . right;omega
 . right;omega
 . right;omega
 . right;omega
 . right;omega
 grind
theorem V.rE{m:Nat}(a:m<=16):∀{v:V},v.aA (lt m)=true->(v.bx key).aA (eD n key)=true
 |.c x,h=>by simp only[V.bx,V.aA]at h⊢;exact C.rE a h
 |.agg cs,h=>by simp only[V.bx,V.aA,mL,cY]at h⊢;intro c e;exact C.rE a (h c e)
 |.aY vs,h=>by simp only[V.bx,V.aA]at h⊢;exact go vs h
where go:∀vs,V.aA.V.dF (lt m) vs=true->V.aA.V.dF (eD n key) (V.bx.go key vs)=true
 |[],_=>rfl
 |v::vs,h=>by simp only[V.bx.go,V.aA.V.dF,cd]at h⊢;exact⟨V.rE a h.1,go vs h.2⟩
theorem hx.agt{args:List V}(h:ea P f args [] 0 Q)(G:V.aA.V.dF (lt 0) args=true)
 (bH:∀r J' N',Q r J' N'->N'<=16/\K (r.bx key) (lA J key J')):hx P f args J key K:=by
 intro aC nt φ S env n a w R aD bT vs a9;refine(h φ S w (λ_=>False) ⟨λb x j=>by simp[aW]at j,λb M x y j=>by simp[aW]at j,R.bP.st⟩ (λb x j=>by simp[aW]at j) (λb x j=>by simp[aW]at j) G vs a9).mono ?_
 rintro e w' ⟨v,bo,a0,bQ,J',N',rfl,a3,h1,ax,O,U,ba,bs,bv⟩
 obtain⟨cq,bH⟩:=bH _ _ _ a3;have a1:=R.extend ba O.st;let B:dE:=λb=>if key<=b/\b<key+16 then a0 (b-key)else φ b
 have aZ:∀b,n b=true->B b=φ b:=by grind
 have D:∀b,lt N' b=true->B (key+b)=a0 b:=by
  intro b G;simp only[lt,dn]at G;grind
 have z:=a1.zf aZ;have H:∀b x,aW (lA J key J') b=some x->(∃c q,b=key+c/\aW J' c=some q/\x=q.bx key)\/aW J b=some x:=by
  intro b x j;rw[yP]at j;grind
 have Z:∀c q,aW J' c=some q->(B (key+c)).2≠0->w.heap.size<=(B (key+c)).1:=by grind
 have aI:∀b x,aW J b=some x->(B b).2≠0->(B b).1<w.heap.size:=by
  intro b x j h0;rw[aZ b (R.dN b x j).1]at h0⊢;exact(R.bP.blk b x j).ki h0
 refine⟨v,bo.bx key,B,bQ,lA J key J',rfl,bH,cm.bx D ax h1,V.rE cq ax,⟨⟨λb x j=>?_,λb M x y j X a4 h0 F=>?_,O.st⟩,z.gF,z.hI,λk g v af al=>V.hh (λ_ h=>lN h) (z.gE k g v af al),λb x j=>?_,z.size,z.defers,z.ext,λb x j h0=>?_,z.fix,λb G=>lN (z.fQ b G)⟩⟩
 . rcases H b x j with⟨c,q,rfl,t,rfl⟩|j
   . have dm:=O.blk c q t;have W:=U c q t;have aK:=D c (by simp[lt];exact W.1);cases q with
     |box cs=>
      obtain⟨am,vs,E,A,u,L⟩:=dm;simp only[bO.bx,c1,aK];refine⟨am,vs,E,A,?_,L⟩;have aB:=W.2;simp only[bO.aA,cY]at aB;have:=u.imp (R':=λc v=>bm B w' bQ (C.bx key c) v) λc v t a5=>bm.bx D (aB c t) a5;exact this.pW λ_ _ h=>h
     |arr sz es=>simp only[bO.bx,c1,aK];exact dm
     |set ks=>simp only[bO.bx,c1,aK];exact dm
     |buf E s=>simp only[bO.bx,c1,aK];exact dm
     |b8 E c=>
      obtain⟨am,⟨p,v,A,u,L⟩,an⟩:=dm;simp only[bO.bx,c1,aK];exact⟨am,⟨p,v,A,u,bm.bx D (by simpa[bO.aA]using W.2) L⟩,an⟩
     |cA sz es i o c=>
      obtain⟨h1,⟨vs,E,A,u,L,v,an,be⟩,bi⟩:=dm;simp only[bO.bx,c1,aK];exact⟨h1,⟨vs,E,A,u,L,v,an,bm.bx D (by simpa[bO.aA]using W.2) be⟩,bi⟩
   . exact z.bP.blk b x j
 . rcases H b x j with⟨c,q,rfl,t,rfl⟩|j<;>rcases H M y X with⟨N,ap,rfl,Y,rfl⟩|X
   . have aK:=D c (by simp[lt];exact(U c q t).1);have a2:=D N (by simp[lt];exact(U N ap Y).1);rw[aK]at h0⊢;rw[a2]at F⊢;exact O.inj c N q ap t Y (by omega) h0 F
   . have:=Z c q t h0;have:=aI M y X F;omega
   . have:=Z N ap Y F;have:=aI b x j h0;omega
   . exact z.bP.inj b M x y j X a4 h0 F
 . rcases H b x j with⟨c,q,rfl,t,rfl⟩|j
   . obtain⟨A,u⟩:=U c q t;refine⟨by simp[eD];right;omega,?_⟩;cases q with
     |box cs=>
      simp only[bO.bx,bO.aA,mL,cY]at u⊢;intro c t;exact C.rE cq (u c t)
     |arr sz es=>rfl
     |set ks=>rfl
     |buf E s=>rfl
     |b8 E c=>simp only[bO.bx,bO.aA]at u⊢;exact C.rE cq u
     |cA sz es i o c=>simp only[bO.bx,bO.aA]at u⊢;exact C.rE cq u
   . obtain⟨A,u⟩:=z.dN b x j;exact⟨lN A,bO.hh (λ_ h=>lN h) u⟩
 . rcases H b x j with⟨c,q,rfl,t,rfl⟩|j
   . exact .inr (h9 R.ext.size (Z c q t h0))
   . exact z.own b x j h0
end
theorem ea.mk{P:Program}{fn:Func}{c:dy}{a:List jm}(o:P.funcs[f]?=some fn)(j:fn.body.bind (resolve P fn.ntmps)=some c)(q:hZ P fn.results.toList=some a)
 {args:List V}{nt:Nat}(p:fn.ntmps=nt)(aD:args.length<=nt){k:Nat}{Q:V->a8->Nat->Prop}(h:cu P nt k c (fP 0 args) J k (Ej a Q)):ea P f args J k Q:=by
 subst p;obtain⟨code,h1,e⟩:=tQ.1 j;exact ea.Fw o h1 e q aD h
section
open Go
def C.b9(f:Nat->Nat):C->C
 |.ptr b o=>.ptr (f b) o
 |.cF b sz i o=>.cF (f b) sz i o
 |.arr b sz off len=>.arr (f b) sz off len
 |.fw b sz off len=>.fw (f b) sz off len
 |.mp b=>.mp (f b)
 |.eg b=>.eg (f b)
 |.cG b len=>.cG (f b) len
 |.fn g caps=>.fn g (caps.map f)
 |c=>c
def V.b9(f:Nat->Nat):V->V
 |.c x=>.c (x.b9 f)
 |.agg cs=>.agg (cs.map (C.b9 f))
 |.aY vs=>.aY (go f vs)
where go (f:Nat->Nat):List V->List V
 |[]=>[]
 |v::vs=>v.b9 f::go f vs
def bO.b9(f:Nat->Nat):bO->bO
 |.box cs=>.box (cs.map (C.b9 f))
 |.arr sz es=>.arr sz es
 |.set ks=>.set ks
 |.buf E s=>.buf E s
 |.b8 E c=>.b8 E (c.b9 f)
 |.cA sz es i o c=>.cA sz es i o (c.b9 f)
def na(J:a8):a7->a8
 |[]=>J
 |b::r=>ib (na J r) b
theorem pw:∀{bs:a7} {b:Nat},aW (na J bs) b=if b∈bs then none else aW J b
 |[],b=>by simp[na]
 |c::r,b=>by
  simp only[na,fN,pw (bs:=r)];grind
def back(bs:a7)(key:Nat)(b:Nat):Nat:=(bs[b]?).getD (key+(b-bs.length))
def hf(J:a8)(bs:a7)(f:Nat->Nat):a8->a8
 |[]=>na J bs
 |(b,x)::r=>da (hf J bs f r) (f b) (x.b9 f)
theorem JU{J:a8}{bs:a7}{f:Nat->Nat}:∀{d:a8} {c:Nat} {x:bO},aW (hf J bs f d) c=some x->(∃b a,c=f b/\aW d b=some a/\x=a.b9 f)\/(c ∉ bs/\aW J c=some x)
 |[],c,x,h=>by
  simp only[hf,pw]at h;grind
 |(b,y)::r,c,x,h=>by
  simp only[hf,cV]at h;split at h
  . rename_i e;cases h;exact .inl ⟨b,y,e.symm,by simp[aW],rfl⟩
  . rename_i e;rcases JU h with⟨g,a,h1,j,i⟩|h
    . refine .inl ⟨g,a,h1,?_,i⟩;simp only[aW];grind
    grind
variable{Q:V->a8->Nat->Prop}{bs:a7}{x:aP}{o:cJ}{p:Prop}
section
variable {P:Program}{aC:Ctx}{nt kk:Nat}{φ:dE}{S bQ:dQ}{env:Env}{J:a8}{N key:Nat}{n:Nat->Bool}{a:Act}{w w':World}{f:Nat->Nat}
theorem bm.b9{j:dE}{n:Nat->Bool}(e:∀b,n b=true->j (f b)=φ b){c:C}{v:Value}(a:c.aA n=true)(h:bm φ w S c v):bm j w S (c.b9 f) v:=by
 cases c with
 |ptr b o=>simp only[C.aA]at a;simp only[C.b9,bm,e b a];exact h
 |cF b sz i o=>simp only[C.aA]at a;simp only[C.b9,bm,e b a];exact h
 |arr b sz off len=>simp only[C.aA]at a;simp only[C.b9,bm,e b a];exact h
 |fw b sz off len=>simp only[C.aA]at a;simp only[C.b9,bm,e b a];exact h
 |mp b=>simp only[C.aA]at a;simp only[C.b9,bm,e b a];exact h
 |eg b=>simp only[C.aA]at a;simp only[C.b9,bm,e b a];exact h
 |cG b len=>simp only[C.aA]at a;simp only[C.b9,bm,e b a];exact h
 |fn g caps=>
  simp only[C.aA,cY]at a;simp only[C.b9,bm]at h⊢;simp_all
 |_=>exact h
theorem Hi:∀{vs:List V} {i:Nat},(V.b9.go f vs)[i]?=(vs[i]?).map (V.b9 f)
 |[],i=>by simp[V.b9.go]
 |v::vs,0=>by simp[V.b9.go]
 |v::vs,i+1=>by simp[V.b9.go,Hi]
theorem G5:∀{vs:List V},(V.b9.go f vs).length=vs.length
 |[]=>rfl
 |v::vs=>by simp[V.b9.go,G5]
theorem cm.b9{e:dE}{n:Nat->Bool}(p:∀b,n b=true->e (f b)=φ b){v:V}{x:Value}(a:v.aA n=true)(h:cm φ w S v x):cm e w S (v.b9 f) x:=by
 induction h with
 |c h=>exact .c (bm.b9 p (by simpa[V.aA]using a) h)
 | @agg cs vs h=>
  simp only[V.aA,cY]at a;refine .agg ?_;have:=h.imp (R':=λc v=>bm e w S (C.b9 f c) v) λc v q t=>bm.b9 p (a c q) t;exact this.pW λ_ _ h=>h
 |aY vs xs af h ih=>
  refine .aY _ xs (by rw[G5];exact af) ?_;intro i v x j u;rw[Hi,bb]at j;obtain⟨v0,o,rfl⟩:=j;exact ih i v0 x o u (nC (by simpa[V.aA]using a) o)
theorem C.rn{n m:Nat->Bool}(a:∀b,m b=true->n (f b)=true){c:C}(h:c.aA m=true):(c.b9 f).aA n=true:=by
 cases c<;>simp only[C.b9,C.aA,cY,eO]at h⊢
 . exact a _ h
 . exact a _ h
 . exact a _ h
 . exact a _ h
 . exact a _ h
 . exact a _ h
 . exact a _ h
 grind
theorem V.rn{n m:Nat->Bool}(a:∀b,m b=true->n (f b)=true):∀{v:V},v.aA m=true->(v.b9 f).aA n=true
 |.c x,h=>by simp only[V.b9,V.aA]at h⊢;exact C.rn a h
 |.agg cs,h=>by simp only[V.b9,V.aA,mL,cY]at h⊢;intro c e;exact C.rn a (h c e)
 |.aY vs,h=>by simp only[V.b9,V.aA]at h⊢;exact go vs h
where go:∀vs,V.aA.V.dF m vs=true->V.aA.V.dF n (V.b9.go f vs)=true
 |[],_=>rfl
 |v::vs,h=>by simp only[V.b9.go,V.aA.V.dF,cd]at h⊢;exact⟨V.rn a h.1,go vs h.2⟩
theorem Rel.afX{B:Nat->Prop}(R:Rel aC nt φ S env J n a w)(e:Ext B S bQ w w')(Q:∀b j,bQ b j->b<w'.heap.size)(P:∀b x,aW J b=some x->(φ b).2≠0->¬B (φ b).1)(dm:∀b,B b->aC.B b\/aC.jB.heap.size<=b):Rel aC nt φ bQ env J n a w':=by
 have aa:∀b x,aW J b=some x->(φ b).2≠0->w'.heap[(φ b).1]?=w.heap[(φ b).1]?:=λb x f h0=>e.block _ ((R.bP.blk b x f).ki h0) (P b x f h0);have A:∀b x,aW J b=some x->(φ b).2≠0->∀j,¬bQ (φ b).1 j:=by
  intro b x f h0 j G;have u:=R.bP.blk b x f;rcases e.rF _ _ G with h|h|h
  . exact u.pX h0 j h
  . grind
  grind
 refine⟨⟨λb x f=>?_,R.bP.inj,Q⟩,λk g v af al=>?_,R.hI,R.gE,R.dN,R.size,R.defers,?_,R.own,R.fix,R.fQ⟩
 . have u:=R.bP.blk b x f;cases x with
   |box cs=>
    obtain⟨h0,vs,E,h1,q,y⟩:=u;refine⟨h0,vs,E,(aa _ _ f h0).trans h1,q.imp λc v W z=>bm.mono (n:=λ_=>true) e.mono (λ_ _=>rfl) (C.me _) z,A b _ f h0⟩
   |arr sz es=>
    obtain⟨h1,q,y,D,ba⟩:=u;refine⟨h1,q,y,D,λh0=>?_⟩;obtain⟨vs,E,K,L,M,N⟩:=ba h0;exact⟨vs,E,(aa _ _ f h0).trans K,L,λi j F t he ht=>let⟨v,H,z⟩:=M i j F t he ht;⟨v,H,cf.mono e.mono z⟩,A b _ f h0⟩
   |set ks=>
    obtain⟨h0,⟨es,c,h1,q⟩,y⟩:=u;exact⟨h0,⟨es,c,(aa _ _ f h0).trans h1,q⟩,A b _ f h0⟩
   |buf E s=>
    obtain⟨h1,q,y⟩:=u;refine⟨h1,q,λh0=>?_⟩;grind
   |b8 E c=>
    obtain⟨h0,⟨p,v,h1,q,y⟩,D⟩:=u;exact⟨h0,⟨p,v,(aa _ _ f h0).trans h1,q,bm.mono (n:=λ_=>true) e.mono (λ_ _=>rfl) (C.me _) y⟩,A b _ f h0⟩
   |cA sz es i o c=>
    obtain⟨⟨h1,q,y,D,ba,O⟩,⟨vs,E,K,L,M,v,N,U⟩,X⟩:=u;exact⟨⟨h1,q,y,D,ba,O⟩,⟨vs,E,(aa _ _ f (by omega)).trans K,L,λi j F t he ht aD=>let⟨v,H,z⟩:=M i j F t he ht aD;⟨v,H,cf.mono e.mono z⟩,v,N,bm.mono (n:=λ_=>true) e.mono (λ_ _=>rfl) (C.me _) U⟩,A b _ f (by omega)⟩
 . obtain⟨x,f,z⟩:=R.gF k g v af al;exact⟨x,f,cm.mono e.mono (λ_ _=>rfl) (R.gE k g v af al) z⟩
 . refine⟨e.os.trans R.ext.os,e.tape.trans R.ext.tape,e.output.trans R.ext.output,h9 R.ext.size e.size,λb aB u=>?_,R.ext.mono.trans e.mono,λb j G=>?_⟩
   . refine(e.block b (lT aB R.ext.size) λh=>?_).trans (R.ext.block b aB u);grind
   . rcases e.rF _ _ G with h|h|h
     . exact R.ext.rF b j h
     . grind
     . exact .inr (.inr (h9 R.ext.size h))
theorem hx.raw {fn:Nat}{args:List V}{bs:a7}{Q:V->a8->Nat->Prop}(bT:bs.Nodup)(aB:∀b,b∈bs->b<key)(h:ea P fn (args.map (V.bN bs)) (fp bs J 0 bs) bs.length Q){K:V->a8->Prop}
 (bH:∀r J' N',Q r J' N'->N'<=bs.length+16/\K (r.b9 (back bs key)) (hf J bs (back bs key) J')):(∀b,b∈bs->n b=true)->∀aC nt φ S env a w,Rel aC nt φ S env J n a w->(∀b,key<=b->b<key+16->n b=false)->V.aA.V.dF n args=true->∀vs:List Value,a' (cm φ w S) args vs->
 Calls P fn vs.toArray w λe w'=>∃v r a0 bQ J',e= .returned v/\K r J'/\cm a0 w' bQ r v/\r.aA (eD n key)=true/\Rel aC nt a0 bQ env J' (eD n key) a w':=by
 intro z aC nt φ S env a w R aD g3 vs gl;let a3:dE:=λi=>φ ((bs[i]?).getD 0);have ax:∀(i:Nat) b,bs[i]?=some b->a3 i=φ b:=by intro i b h;simp[a3,h]
 let B:Nat->Prop:=λds=>∃b x,b∈bs/\aW J b=some x/\(φ b).2≠0/\ds=(φ b).1;have an:∀b x,aW (fp bs J 0 bs) b=some x->∃c q,bs[b]?=some c/\aW J c=some q/\x=q.bN bs:=by
  intro b x f;obtain⟨j,c,q,rfl,A,F,rfl⟩:=pv f;grind
 have ge:qe a3 w S (fp bs J 0 bs):=by
  refine⟨λb x f=>?_,λb H x y f M a9 h0 L=>?_,R.bP.st⟩
  . obtain⟨c,q,A,F,rfl⟩:=an b x f;exact c1.bN ax A (R.bP.blk c q F)
  . obtain⟨c,q,A,F,rfl⟩:=an b x f;obtain⟨U,aZ,bv,fd,rfl⟩:=an H y M;rw[ax b c A]at h0⊢;rw[ax H U bv]at L⊢;refine R.bP.inj c U q aZ F fd ?_ h0 L;intro e;subst e;obtain⟨a1,b1⟩:=c5.1 A;obtain⟨a2,b2⟩:=c5.1 bv;have g5:=ru.1 bT;grind
 have fo:a' (cm a3 w S) (args.map (V.bN bs)) vs:=gl.pW λ_ _=>cm.bN ax;have fs:V.aA.V.dF (lt bs.length) (args.map (V.bN bs))=true:=by
  refine tx λi v ci=>?_;rw[oc,bb]at ci;obtain⟨v0,_,rfl⟩:=ci;exact V.jU v0
 refine(h a3 S w B ge (λb x f=>?_) (λb x f h0=>?_) fs vs fo).mono ?_
 . obtain⟨c,q,A,F,rfl⟩:=an b x f;refine⟨(c5.1 A).1,?_⟩;cases q with
   |box cs=>simp only[bO.bN,bO.aA,mL,cY];intro c _;exact C.jU c
   |arr sz es=>rfl
   |set ks=>rfl
   |buf E s=>rfl
   |b8 E c=>exact C.jU c
   |cA sz es i o c=>exact C.jU c
 . obtain⟨c,q,A,F,rfl⟩:=an b x f;rw[ax b c A]at h0⊢;exact⟨c,q,eM A,F,h0,rfl⟩
 rintro e w' ⟨v,g0,a0,bQ,J',N',rfl,ff,h1,A,F,W,ba,g1,g2⟩
 obtain⟨cq,bH⟩:=bH _ _ _ ff;have b0:∀b,B b->aC.B b\/aC.jB.heap.size<=b:=by
  rintro ds ⟨b,x,_,f,h0,rfl⟩
  exact R.own b x f h0
 have dt:Rel aC nt φ S env (na J bs) n a w:=by
  have ap:∀b x,aW (na J bs) b=some x->b ∉ bs/\aW J b=some x:=by
   intro b x f;rw[pw]at f;grind
  exact⟨⟨λb x f=>R.bP.blk b x (ap b x f).2,λb H x y f M=>R.bP.inj b H x y (ap b x f).2 (ap H y M).2,R.bP.st⟩,R.gF,R.hI,R.gE,λb x f=>R.dN b x (ap b x f).2,R.size,R.defers,R.ext,λb x f=>R.own b x (ap b x f).2,R.fix,R.fQ⟩
 have gc:∀b x,b ∉ bs->aW J b=some x->(φ b).2≠0->¬B (φ b).1:=by
  rintro b x z f h0 ⟨c,y,t,M,L,he⟩
  exact R.bP.inj b c x y f M (λe=>z (e▸t)) h0 L he
 have eq:=dt.afX ba F.st (λb x f h0=>by
  rw[pw]at f
  grind) b0
 let N:dE:=λb=>if key<=b/\b<key+16 then a0 (bs.length+(b-key))else φ b
 have c7:∀b,n b=true->N b=φ b:=by grind
 have O:∀b,lt N' b=true->N (back bs key b)=a0 b:=by
  intro b X;simp only[lt,dn]at X;unfold back;grind
 have am:∀b,lt N' b=true->eD n key (back bs key b)=true:=by
  intro b X;simp only[lt,dn]at X;unfold back;cases al:bs[b]? with
  |some c=>simp only[lo];exact lN (z c (eM al))
  |none=>
   have g4:=tP.1 al;simp only[Option.getD_none,eD,hO,cd,dn];right;omega
 have D:=eq.zf c7;have Z:∀b x,aW (hf J bs (back bs key) J') b=some x->(∃c q,b=back bs key c/\aW J' c=some q/\x=q.b9 (back bs key))\/(b ∉ bs/\aW J b=some x):=λb x f=>JU f;have Y:∀b x,b ∉ bs->aW J b=some x->aW (na J bs) b=some x:=by intro b x z f;rw[pw,ak z];exact f
 have be:∀c q,aW J' c=some q->(N (back bs key c)).2≠0->B (N (back bs key c)).1\/w.heap.size<=(N (back bs key c)).1:=by
  intro c q t h0;rw[O c (by simp[lt];exact(W c q t).1)]at h0⊢;grind
 have ce:∀b x,b ∉ bs->aW J b=some x->(N b).2≠0->(N b).1<w.heap.size/\¬B (N b).1:=by
  intro b x z f h0;rw[c7 b (R.dN b x f).1]at h0⊢;exact⟨(R.bP.blk b x f).ki h0,gc b x z f h0⟩
 refine⟨v,g0.b9 (back bs key),N,bQ,hf J bs (back bs key) J',rfl,bH,cm.b9 O A h1,V.rn am A,⟨⟨λb x f=>?_,λb H x y f M a9 h0 L=>?_,F.st⟩,D.gF,D.hI,λk g v af al=>V.hh (λ_ h=>lN h) (D.gE k g v af al),λb x f=>?_,D.size,D.defers,D.ext,λb x f h0=>?_,D.fix,λb X=>lN (D.fQ b X)⟩⟩
 . rcases Z b x f with⟨c,q,rfl,t,rfl⟩|⟨z,f⟩
   . have dm:=F.blk c q t;have a4:=W c q t;have aK:=O c (by simp[lt];exact a4.1);cases q with
     |box cs=>
      obtain⟨bi,vs,E,G,u,aI⟩:=dm;simp only[bO.b9,c1,aK];refine⟨bi,vs,E,G,?_,aI⟩;have b3:=a4.2;simp only[bO.aA,cY]at b3;have:=u.imp (R':=λc v=>bm N w' bQ (C.b9 (back bs key) c) v) λc v t gd=>bm.b9 O (b3 c t) gd;exact this.pW λ_ _ h=>h
     |arr sz es=>simp only[bO.b9,c1,aK];exact dm
     |set ks=>simp only[bO.b9,c1,aK];exact dm
     |buf E s=>simp only[bO.b9,c1,aK];exact dm
     |b8 E c=>
      obtain⟨bi,⟨p,v,G,u,aI⟩,bo⟩:=dm;simp only[bO.b9,c1,aK];exact⟨bi,⟨p,v,G,u,bm.b9 O (by simpa[bO.aA]using a4.2) aI⟩,bo⟩
     |cA sz es i o c=>
      obtain⟨h1,⟨vs,E,G,u,aI,v,bo,gs⟩,gt⟩:=dm;simp only[bO.b9,c1,aK];exact⟨h1,⟨vs,E,G,u,aI,v,bo,bm.b9 O (by simpa[bO.aA]using a4.2) gs⟩,gt⟩
   . exact D.bP.blk b x (Y b x z f)
 . rcases Z b x f with⟨c,q,rfl,t,rfl⟩|⟨z,f⟩<;>rcases Z H y M with⟨U,aZ,rfl,a5,rfl⟩|⟨b4,M⟩
   . have aK:=O c (by simp[lt];exact(W c q t).1);have ex:=O U (by simp[lt];exact(W U aZ a5).1);rw[aK]at h0⊢;rw[ex]at L⊢;exact F.inj c U q aZ t a5 (by rintro rfl;exact a9 rfl) h0 L
   . obtain⟨G,u⟩:=ce H y b4 M L;rcases be c q t h0 with h|h
     . intro e;rw[e]at h;exact u h
     . omega
   . obtain⟨G,u⟩:=ce b x z f h0;rcases be U aZ a5 L with h|h
     . intro e;rw[<-e]at h;exact u h
     . omega
   . exact D.bP.inj b H x y (Y b x z f) (Y H y b4 M) a9 h0 L
 . rcases Z b x f with⟨c,q,rfl,t,rfl⟩|⟨z,f⟩
   . obtain⟨G,u⟩:=W c q t;refine⟨am c (by simp[lt];exact G),?_⟩;cases q with
     |box cs=>
      simp only[bO.b9,bO.aA,mL,cY]at u⊢;intro c t;exact C.rn am (u c t)
     |arr sz es=>rfl
     |set ks=>rfl
     |buf E s=>rfl
     |b8 E c=>simp only[bO.b9,bO.aA]at u⊢;exact C.rn am u
     |cA sz es i o c=>simp only[bO.b9,bO.aA]at u⊢;exact C.rn am u
   . obtain⟨G,u⟩:=D.dN b x (Y b x z f);exact⟨lN G,bO.hh (λ_ h=>lN h) u⟩
 . rcases Z b x f with⟨c,q,rfl,t,rfl⟩|⟨z,f⟩
   . rcases be c q t h0 with h|h
     . exact b0 _ h
     . exact .inr (h9 R.ext.size h)
   . exact D.own b x (Y b x z f) h0
theorem hx.agu{fn:Nat}{args:List V}(bT:bs.Nodup)(aB:∀b,b∈bs->b<key)(e:∀b,b∈bs->∃x,aW J b=some x)(h:ea P fn (args.map (V.bN bs)) (fp bs J 0 bs) bs.length Q)
 (bH:∀r J' N',Q r J' N'->N'<=bs.length+16/\K (r.b9 (back bs key)) (hf J bs (back bs key) J')):hx P fn args J key K:=by
 intro aC nt φ S env n a w R aD c vs f;exact hx.raw (n:=n) bT aB h bH (λb c=>let⟨x,j⟩:=e b c;(R.dN b x j).1) aC nt φ S env a w R aD c vs f
theorem Tm:∀{l:a7} {i:Nat} {J J':a8},(∀b,b∈l->aW J' b=aW J b)->fp bs J' i l=fp bs J i l
 |[],i,J,J',h=>rfl
 |b::r,i,J,J',h=>by
  simp only[fp];rw[h b (by simp),Tm λc a=>h c (by simp[a])]
theorem Tn{f:Nat->Nat}:∀{a:a8} {J J':a8} {c:Nat},(aW (na J' bs) c=aW (na J bs) c)->aW (hf J' bs f a) c=aW (hf J bs f a) c
 |[],J,J',c,h=>h
 |(b,x)::r,J,J',c,h=>by
  simp only[hf,cV];split
  . rfl
  . exact Tn h
theorem FY{key:Nat}:∀{f:a8} {J:a8} {c:Nat},f.all (λx=>decide (x.1<bs.length+16))=true->c ∉ bs->¬(key<=c/\c<key+16)->aW (hf J bs (back bs key) f) c=aW J c
 |[],J,c,d,a,g=>by simp only[hf,pw,ak a]
 |(b,x)::r,J,c,d,a,g=>by
  simp only[oi,cd,dn]at d;simp only[hf,cV];rw[ak ?_]
  . exact FY d.2 a g
  . intro e;unfold back at e;grind
end
variable {xb:a7}
section
variable {P:Program}{aC:Ctx}{nt kk:Nat}{φ:dE}{S:dQ}{env env':Env}{J J' J1:a8}{N key:Nat}{n:Nat->Bool}{a:Act}{w:World}
theorem du(h:∀t,t∈x.tmps->look env' t=look env t):x.get env'=x.get env:=by
 cases x with
 |const v=>rfl
 |tmp t=>simp only[aP.get];rw[h t (by simp[aP.tmps])]
theorem yQ{xs:List aP}(h:∀t,t∈xs.flatMap aP.tmps->look env' t=look env t):ho env' xs=ho env xs:=by
 induction xs with
 |nil=>rfl
 |cons x xs ih=>
  simp only[ho];rw[du (λt ht=>h t (by simp[ht])),ih (λt ht=>h t (by simp only[e6,f'];exact .inr ht))]
theorem u6{x:Option aP}(h:∀t,t∈tL x->look env' t=look env t):jO env' x=jO env x:=by
 cases x with
 |none=>rfl
 |some x=>simp only[jO];rw[du h]
theorem To:∀{ps:List (Nat×Nat×aP)} {cs:List C},(∀t,t∈(ps.flatMap λp=>p.2.2.tmps)->look env' t=look env t)->la env' cs ps=la env cs ps
 |[],cs,h=>rfl
 |(o,k,x)::r,cs,h=>by
  simp only[la];rw[du (λt ht=>h t (by simp[ht]))]
  congr 1;funext a;congr 1;funext c
  split
  . rw[To (λt ht=>h t (by simp only[e6,f'];exact .inr ht))]
  . rfl
theorem Gq{sz:Nat}:∀{ps:List (Nat×aP)} {es:List (List T)},(∀t,t∈(ps.flatMap λp=>p.2.tmps)->look env' t=look env t)->jM env' sz es ps=jM env sz es ps
 |[],cs,h=>rfl
 |(i,x)::r,es,h=>by
  simp only[jM];rw[du (λt ht=>h t (by simp[ht]))]
  congr 1;funext a;congr 1;funext c;congr 1;funext ts
  split
  . rw[Gq (λt ht=>h t (by simp only[e6,f'];exact .inr ht))]
  . rfl
theorem aaf(h:∀t,t∈o.reads->look env' t=look env t):aO o env' J key=aO o env J key:=by
 cases o<;>simp only[cJ.reads,f']at h
 case mov x=>simp only[aO];rw[du h]
 case pick c x y=>simp only[aO];rw[du λt ht=>h t (.inl (.inl ht)),du λt ht=>h t (.inl (.inr ht)),du λt ht=>h t (.inr ht)]
 case alloc=>rfl
 case box x=>simp only[aO];rw[du h]
 case allocA=>rfl
 case b2s x=>simp only[aO];rw[du h]
 case allocS=>rfl
 case mkset=>rfl
 case bsliceT e sz len z ps=>simp only[aO];congr 1;funext a;rw[Gq h]
 case lkset x y=>simp only[aO];rw[du λt ht=>h t (.inl ht),du λt ht=>h t (.inr ht)]
 case upset x y=>simp only[aO];rw[du λt ht=>h t (.inl ht),du λt ht=>h t (.inr ht)]
 case appendB e k x y=>simp only[aO];rw[du λt ht=>h t (.inl ht),du λt ht=>h t (.inr ht)]
 case sdata x=>simp only[aO];rw[du h]
 case ustr e x y=>simp only[aO];rw[du λt ht=>h t (.inl ht),du λt ht=>h t (.inr ht)]
 case idxP k x y=>simp only[aO];rw[du λt ht=>h t (.inl ht),du λt ht=>h t (.inr ht)]
 case slcP k x l i=>simp only[aO];rw[du λt ht=>h t (.inl (.inl ht)),u6 λt ht=>h t (.inl (.inr ht)),u6 λt ht=>h t (.inr ht)]
 case build z ps=>simp only[aO];rw[To h]
 case bslice sz len z ps=>simp only[aO];congr 1;funext a;rw[Gq h]
 case load g k x=>simp only[aO];rw[du h]
 case store k x v=>simp only[aO];rw[du λt ht=>h t (.inl ht),du λt ht=>h t (.inr ht)]
 case nilCheck x=>simp only[aO];rw[du h]
 case bin op x y=>simp only[aO];rw[du λt ht=>h t (.inl ht),du λt ht=>h t (.inr ht)]
 case eqAgg op ks x y=>simp only[aO];rw[du λt ht=>h t (.inl ht),du λt ht=>h t (.inr ht)]
 case eqBool op x y=>simp only[aO];rw[du λt ht=>h t (.inl ht),du λt ht=>h t (.inr ht)]
 case eqNil=>rfl
 case not x=>simp only[aO];rw[du h]
 case conv k x=>simp only[aO];rw[du h]
 case i2s x=>simp only[aO];rw[du h]
 case s2s x=>simp only[aO];rw[du h]
 case fldA k x=>simp only[aO];rw[du h]
 case fld g k m x=>simp only[aO];rw[du h]
 case idxA op x y=>simp only[aO];rw[du λt ht=>h t (.inl ht),du λt ht=>h t (.inr ht)]
 case idxS x y=>simp only[aO];rw[du λt ht=>h t (.inl ht),du λt ht=>h t (.inr ht)]
 case slcS x l i=>simp only[aO];rw[du λt ht=>h t (.inl (.inl ht)),u6 λt ht=>h t (.inl (.inr ht)),u6 λt ht=>h t (.inr ht)]
 case slc k x l i=>simp only[aO];rw[du λt ht=>h t (.inl (.inl ht)),u6 λt ht=>h t (.inl (.inr ht)),u6 λt ht=>h t (.inr ht)]
 case slc0 x=>simp only[aO];rw[du h]
 case mkfn f xs=>simp only[aO];rw[yQ h]
 case ext x i=>simp only[aO];rw[du h]
 case len s x=>simp only[aO];rw[du h]
 case append sz by' x y=>simp only[aO];rw[du λt ht=>h t (.inl ht),du λt ht=>h t (.inr ht)]
 case max2 x y=>simp only[aO];rw[du λt ht=>h t (.inl ht),du λt ht=>h t (.inr ht)]
 case min2 x y=>simp only[aO];rw[du λt ht=>h t (.inl ht),du λt ht=>h t (.inr ht)]
 case call=>rfl
 rfl
def dZ(env:Env)(x:aP):a7:=
 match x.get env with
 |some (_,.c (.ptr b _))=>[b]
 |some (_,.c (.cF b _ _ _))=>[b]
 |some (_,.c (.arr b _ _ _))=>[b]
 |some (_,.c (.fw b _ _ _))=>[b]
 |some (_,.c (.mp b))=>[b]
 |some (_,.c (.eg b))=>[b]
 |some (_,.c (.cG b _))=>[b]
 |_=>[]
def C.fL:C->a7
 |.ptr b _|.cF b _ _ _|.arr b _ _ _|.fw b _ _ _|.mp b|.eg b|.cG b _=>[b]
 |.fn _ caps=>caps
 |_=>[]
def V.fL:V->a7
 |.c x=>x.fL
 |.agg cs=>cs.flatMap C.fL
 |.aY _=>[]
def kZ(env:Env)(args:List aP):a7:=
 args.flatMap λx=>match x.get env with
  |some (_,v)=>v.fL
  |none=>[]
def eh(xb:a7)(o:cJ)(env:Env)(key:Nat):a7:=
 match o with
 |.alloc _|.allocA _|.box _|.bslice .. |.mkset=>[key]
 |.allocS .. =>[key,key+1]
 |.lkset x _=>dZ env x
 |.upset x _=>dZ env x
 |.appendB _ _ x _=>key::dZ env x
 |.ustr _ x _=>dZ env x
 |.call _ args=>(List.range 16).map (key+·)++(kZ env args++xb)
 |.load _ _ x=>dZ env x
 |.b2s x=>dZ env x
 |.store _ x _=>dZ env x
 |.append _ _ x y=>key::(dZ env x++dZ env y)
 |_=>[]
def cD(xb:a7)(o:cJ)(env:Env)(key b:Nat):Bool:=
 match o with
 |.alloc _|.allocA _|.box _|.bslice .. |.mkset=>b==key
 |.allocS .. =>b==key||b==key+1
 |.upset x _=>(dZ env x).contains b
 |.appendB _ _ x _=>b==key||(dZ env x).contains b
 |.ustr _ x _=>(dZ env x).contains b
 |.store _ x _=>(dZ env x).contains b
 |.append _ _ x _=>b==key||(dZ env x).contains b
 |.call _ args=>(decide (key<=b)&&decide (b<key+16))||(kZ env args++xb).contains b
 |_=>false
theorem Xs(aD:o.neutral=true)(ht:o.ie=false){p v J1}(a:aO o env J key=some (p,v,J1)):aO o env J' key=some (p,v,J'):=by
 cases o<;>simp only[cJ.neutral,cJ.ie,reduceCtorEq,bV]at aD ht<;>simp only[aO,bp,bb,bB]at a⊢
 all_goals
  (try (obtain⟨a1,h1,a⟩:=a;refine⟨a1,h1,?_⟩))
  (try (obtain⟨a2,b,a⟩:=a;refine⟨a2,b,?_⟩))
  (try (obtain⟨a3,c,a⟩:=a;refine⟨a3,c,?_⟩))
  (try dsimp only at a⊢)
  (try split at a)
  (try (simp_all;done))
 all_goals first
  |(cases a;rfl)
  |(cases a;done)
  |(simp only[bb,bB]at a⊢;obtain⟨x,h1,b,c,_⟩:=a;exact⟨x,h1,b,c,rfl⟩)
  |(simp only[bb]at a⊢;obtain⟨x,h1,b⟩:=a;simp only[bB]at b⊢;exact⟨x,h1,b.1,b.2.1,trivial⟩)
  |(simp only[dC,bF,bB]at a⊢;exact⟨a.1,a.2.1,a.2.2.1,trivial⟩)
theorem KV{b:Nat}(h:x.get env=some (p,.c (.mp b))):dZ env x=[b]:=by simp[dZ,h]
theorem Zp{b:Nat}(h:x.get env=some (p,.c (.eg b))):dZ env x=[b]:=by simp[dZ,h]
theorem Zq{b l:Nat}(h:x.get env=some (p,.c (.cG b l))):dZ env x=[b]:=by simp[dZ,h]
theorem JV{b o:Nat}(h:x.get env=some (p,.c (.ptr b o))):dZ env x=[b]:=by simp[dZ,h]
theorem IX{b sz i o:Nat}(h:x.get env=some (p,.c (.cF b sz i o))):dZ env x=[b]:=by simp[dZ,h]
theorem aac{b sz i o:Nat}(h:x.get env=some (p,.c (.fw b sz i o))):dZ env x=[b]:=by simp[dZ,h]
theorem DA{b sz i o:Nat}(h:x.get env=some (p,.c (.arr b sz i o))):dZ env x=[b]:=by simp[dZ,h]
theorem Zr{p v}(a:aO o env J key=some (p,v,J1))(ht:∀b,b∈eh xb o env key->aW J' b=aW J b):
 (∃bo,aO o env J' key=some (p,v,bo)/\∀b,aW bo b=if cD xb o env key b then aW J1 b else aW J' b)/\∀b,cD xb o env key b=false->aW J1 b=aW J b:=by
 by_cases K:o.neutral=true/\o.ie=false
 . have Y:∀b,cD xb o env key b=false:=by intro b;cases o<;>simp only[cJ.neutral,cJ.ie,reduceCtorEq,bV,false_and,kg,and_self]at K<;>rfl
   have:=xQ K.1 a;subst this;exact⟨⟨J',Xs K.1 K.2 a,λb=>by rw[Y b];rfl⟩,λb _=>rfl⟩
 . cases o<;>simp only[cJ.neutral,cJ.ie,reduceCtorEq,bV,false_and,kg,and_self,not_true,not_false_eq_true]at K
   case alloc cs=>
    simp only[aO,bF,bB]at a⊢;obtain⟨rfl,rfl,rfl⟩:=a;refine⟨⟨_,⟨rfl,rfl,rfl⟩,λb=>?_⟩,λb f=>?_⟩
    . simp only[cV,cD,iM];by_cases h:b=key
      . subst h;simp
      . rw[ak (dJ h),ak h]
    . simp only[cD,ll]at f;rw[cV,ak (dJ f)]
   case allocA cs=>
    simp only[aO,bb,bB]at a⊢;obtain⟨ts,X,rfl,rfl,rfl⟩:=a;refine⟨⟨_,⟨ts,X,rfl,rfl,rfl⟩,λb=>?_⟩,λb f=>?_⟩
    . simp only[cV,cD,iM];by_cases h:b=key
      . subst h;simp
      . rw[ak (dJ h),ak h]
    . simp only[cD,ll]at f;rw[cV,ak (dJ f)]
   case b2s x=>
    simp only[aO,bp,bb,bB]at a⊢;obtain⟨⟨u,v0⟩,h1,⟨q,s⟩,j,rfl,rfl,rfl⟩:=a;refine⟨⟨J',⟨(u,v0),h1,(q,s),?_,rfl,rfl,rfl⟩,λb=>rfl⟩,λb _=>rfl⟩;dsimp only at j⊢;unfold m' at j⊢;split at j
    . exact j
    . exact j
    . rename_i b off len;rw[ht b (by simp[eh,DA h1])];exact j
    . rename_i b off len;rw[ht b (by simp[eh,aac h1])];exact j
    . cases j
   case box x=>
    simp only[aO,bp,bb,bB]at a⊢;obtain⟨O,h1,cs,j,rfl,rfl,rfl⟩:=a;refine⟨⟨_,⟨O,h1,cs,j,rfl,rfl,rfl⟩,λb=>?_⟩,λb f=>?_⟩
    . simp only[cV,cD,iM];by_cases h:b=key
      . subst h;simp
      . rw[ak (dJ h),ak h]
    . simp only[cD,ll]at f;rw[cV,ak (dJ f)]
   case bslice sz len z ps=>
    simp only[aO,bp,bb,bB]at a⊢;obtain⟨O,h1,cs,j,rfl,rfl,rfl⟩:=a;refine⟨⟨_,⟨O,h1,cs,j,rfl,rfl,rfl⟩,λb=>?_⟩,λb f=>?_⟩
    . simp only[cV,cD,iM];by_cases h:b=key
      . subst h;simp
      . rw[ak (dJ h),ak h]
    . simp only[cD,ll]at f;rw[cV,ak (dJ f)]
   case load g k x=>
    have:=xQ rfl a;subst this;refine⟨⟨J',?_,λb=>rfl⟩,λb _=>rfl⟩;simp only[aO,bp]at a⊢;obtain⟨⟨u,v0⟩,h1,a⟩:=a;refine⟨(u,v0),h1,?_⟩;dsimp only at a⊢;split at a
    . rename_i b o;rw[ht b (by simp[eh,JV h1])];split at a
      . rename_i cs aa;simp only[bb]at a⊢;obtain⟨x,j,l⟩:=a;simp only[bB]at l⊢;exact⟨x,j,l.1,l.2.1,trivial⟩
      . rename_i E c n;simp only[dC,bF,bB]at a⊢;exact⟨a.1,a.2.1,a.2.2.1,trivial⟩
      . cases a
    . rename_i b sz i o;rw[ht b (by simp[eh,IX h1])];split at a
      . simp only[bb]at a⊢;obtain⟨x,j,l⟩:=a;simp only[bB]at l⊢;exact⟨x,j,l.1,l.2.1,trivial⟩
      . split at a
        . cases a
        . rename_i al;rw[ak al];split at a
          . rename_i D;rw[ad D];simp only[bF,bB]at a⊢;exact⟨a.1,a.2.1,trivial⟩
          . rename_i D;rw[ak D];simp only[bb]at a⊢;obtain⟨x,j,l⟩:=a;simp only[bB]at l⊢;exact⟨x,j,l.1,l.2.1,trivial⟩
      . cases a
    . simp only[bb]at a⊢;obtain⟨x,j,l⟩:=a;simp only[bB]at l⊢;exact⟨x,j,l.1,l.2.1,trivial⟩
    . cases a
   case store k x y=>
    simp only[aO,bp,dC]at a⊢;obtain⟨⟨u,v0⟩,h1,d,j,cs,l,G,a⟩:=a;have F:∀(b:Nat) (N:bO),dZ env x=[b]->J1=da J b N->(∀c,aW (da J' b N) c=if cD xb (.store k x y) env key c then aW J1 c else aW J' c)/\∀c,cD xb (.store k x y) env key c=false->aW J1 c=aW J c:=by
     intro b N f hs;subst hs;refine⟨λc=>?_,λc n=>?_⟩
     . simp only[cD,f,lU,kP,jg,iM,cV];grind
     . simp only[cD,f,lU,kP,jg,ll]at n;rw[cV,ak (dJ n)]
    dsimp only at a⊢;split at a
    . rename_i b o;have f:=JV h1;split at a
      . rename_i ds M;simp only[dC,bF,bB]at a;obtain⟨ba,rfl,rfl,B⟩:=a;obtain⟨f1,f2⟩:=F b _ f B.symm;refine⟨⟨_,⟨(u,.c (.ptr b o)),h1,d,j,cs,l,G,?_⟩,f1⟩,f2⟩;dsimp only;rw[ht b (by simp[eh,f]),M];dsimp only;rw[ad ba]
      . rename_i E T M;split at a
        . rename_i c;simp only[bF,bB]at a;obtain⟨rfl,rfl,B⟩:=a;obtain⟨f1,f2⟩:=F b _ f B.symm;refine⟨⟨_,⟨(u,.c (.ptr b 1)),h1,d,j,_,l,G,?_⟩,f1⟩,f2⟩;dsimp only;rw[ht b (by simp[eh,f]),M];rfl
        . cases a
      . cases a
    . rename_i b sz i o;have f:=IX h1;split at a
      . rename_i L es A;split at a
        . rename_i c n;simp only[bF,bB]at a;obtain⟨rfl,rfl,B⟩:=a;obtain⟨f1,f2⟩:=F b _ f B.symm;refine⟨⟨_,⟨(u,.c (.cF b sz i o)),h1,d,j,cs,l,G,?_⟩,f1⟩,f2⟩;dsimp only;rw[ht b (by simp[eh,f]),A];dsimp only;rw[n]
        rename_i n;simp only[bp,bF,bB]at a;obtain⟨ts,ba,rfl,rfl,B⟩:=a;obtain⟨f1,f2⟩:=F b _ f B.symm;refine⟨⟨_,⟨(u,.c (.cF b sz i o)),h1,d,j,cs,l,G,?_⟩,f1⟩,f2⟩;dsimp only;rw[ht b (by simp[eh,f]),A];dsimp only;rw[n];dsimp only;rw[ba];rfl
      . rename_i L es ab ae T A;split at a
        . rename_i c;split at a
          . rename_i D;simp only[bF,bB]at a;obtain⟨rfl,rfl,B⟩:=a;obtain⟨f1,f2⟩:=F b _ f B.symm;refine⟨⟨_,⟨(u,.c (.cF b sz i o)),h1,d,j,_,l,G,?_⟩,f1⟩,f2⟩;dsimp only;rw[ht b (by simp[eh,f]),A];dsimp only;rw[ad D]
          . rename_i D;simp only[bp,bF,bB]at a;obtain⟨t,ba,rfl,rfl,B⟩:=a;obtain⟨f1,f2⟩:=F b _ f B.symm;refine⟨⟨_,⟨(u,.c (.cF b sz i o)),h1,d,j,_,l,G,?_⟩,f1⟩,f2⟩;dsimp only;rw[ht b (by simp[eh,f]),A];dsimp only;rw[ak D,ba];rfl
        . cases a
      . cases a
    . cases a
   case append sz by' x y=>
    simp only[aO,bp]at a⊢;obtain⟨⟨u,v0⟩,h1,⟨d1,d2⟩,j,a⟩:=a;dsimp only at a;cases H:mR v0 d2 with
    |some r=>
     rw[H]at a;have I:=H;unfold mR at I;split at I
     . rename_i b s1 off len S Z R Q;split at I
       . cases I;have C:=DA h1;dsimp only at a;unfold uq at a;dsimp only at a;split at a
         . rename_i af es A;simp only[bF,bB]at a;obtain⟨rfl,rfl,rfl⟩:=a;refine⟨⟨da (ib J' b) key (.arr sz (es.take len++(es.drop R).take Q)),⟨(u,.c (.arr b s1 off len)),h1,(d1,.c (.fw S Z R Q)),j,?_⟩,λc=>?_⟩,λc n=>?_⟩
           . dsimp only;rw[H];dsimp only;unfold uq;dsimp only;rw[ht b (by simp[eh,C]),A]
           . simp only[cV,fN,cD,C,lU,kP,jg,hO,iM];by_cases h:c=key
             . subst h;simp
             . rw[ak (dJ h)];by_cases w:c=b
               . subst w;simp[h,dJ h]
               . rw[ak (dJ w),ak (by simp[h,w])]
           . simp only[cD,C,lU,kP,jg,p2,ll]at n;rw[cV,fN,ak (dJ n.1),ak (dJ n.2)]
         . cases a
       . cases I
     . cases I
    |none=>
    rw[H]at a;simp only[bp]at a;obtain⟨ys,l,a⟩:=a;have P:l7 J' d2=some ys:=by
     unfold l7 at l⊢;split at l
     . exact l
     . exact l
     . rename_i b L off len;rw[ht b (by simp[eh,DA j])];exact l
     . cases l
    split at a
    . have C:dZ env x=[]:=(by simp[dZ,h1]);simp only[bF,bB]at a;obtain⟨rfl,rfl,rfl⟩:=a;refine⟨⟨_,⟨(u,.c .ay),h1,(d1,d2),j,by dsimp only;rw[H];simp only[bp];exact⟨ys,P,rfl⟩⟩,λb=>?_⟩,λb f=>?_⟩
      . simp only[cV,cD,C,kP,jg,iM];by_cases h:b=key
        . subst h;simp
        . rw[ak (dJ h),ak h]
      . simp only[cD,C,kP,jg,ll]at f;rw[cV,ak (dJ f)]
    . rename_i b L off len;have C:=DA h1;split at a
      . rename_i ag es A;split at a
        . cases a
        . rename_i W;simp only[bF,bB]at a;obtain⟨rfl,rfl,rfl⟩:=a
          refine⟨⟨_,⟨(u,.c (.arr b L off len)),h1,(d1,d2),j,by
           dsimp only;rw[H];simp only[bp];refine⟨ys,P,?_⟩;rw[ht b (by simp[eh,C]),A];dsimp only
           rw[ak W]⟩,λc=>?_⟩,λc n=>?_⟩
          . simp only[cV,fN,cD,C,lU,kP,jg,hO,iM];by_cases h:c=key
            . subst h;simp
            . rw[ak (dJ h)];by_cases w:c=b
              . subst w;simp[h,dJ h]
              . rw[ak (dJ w),ak (by simp[h,w])]
          . simp only[cD,C,lU,kP,jg,p2,ll]at n;rw[cV,fN,ak (dJ n.1),ak (dJ n.2)]
      . cases a
    . cases a
   case allocS e e8=>
    simp only[aO,bF,bB]at a⊢;obtain⟨rfl,rfl,rfl⟩:=a;refine⟨⟨_,⟨rfl,rfl,rfl⟩,λb=>?_⟩,λb f=>?_⟩
    . simp only[cV,cD,hO,iM];by_cases h:key=b
      . rw[ad h,ad (.inl h.symm),ad h]
      . rw[ak h];by_cases w:key+1=b
        . rw[ad w,ad (.inr w.symm),ak h,ad w]
        . rw[ak w,bq]
    . simp only[cD,p2,ll]at f;rw[cV,ak (dJ f.1),cV,ak (dJ f.2)]
   case mkset=>
    simp only[aO,bF,bB]at a⊢;obtain⟨rfl,rfl,rfl⟩:=a;refine⟨⟨_,⟨rfl,rfl,rfl⟩,λb=>?_⟩,λb f=>?_⟩
    . simp only[cV,cD,iM];by_cases h:b=key
      . subst h;simp
      . rw[ak (dJ h),ak h]
    . simp only[cD,ll]at f;rw[cV,ak (dJ f)]
   case lkset x y=>
    have:=xQ rfl a;subst this;refine⟨⟨J',?_,λb=>rfl⟩,λb _=>rfl⟩;simp only[aO,bp]at a⊢;obtain⟨⟨u,v0⟩,h1,⟨d1,d2⟩,j,a⟩:=a;refine⟨(u,v0),h1,(d1,d2),j,?_⟩;dsimp only at a⊢;split at a
    . rename_i b s;rw[ht b (by simp[eh,KV h1])];split at a
      . simp only[bF,bB]at a⊢;exact⟨a.1,a.2.1,trivial⟩
      . cases a
    . cases a
   case upset x y=>
    simp only[aO,bp]at a⊢;obtain⟨⟨u,v0⟩,h1,⟨d1,d2⟩,j,a⟩:=a;dsimp only at a⊢;split at a
    . rename_i b s;have f:=KV h1;split at a
      . rename_i ks V;simp only[bF,bB]at a;obtain⟨rfl,rfl,rfl⟩:=a
        refine⟨⟨_,⟨(u,.c (.mp b)),h1,(d1,.c (.t (.str s))),j,by
         dsimp only
         rw[ht b (by simp[eh,f]),V]⟩,λc=>?_⟩,λc n=>?_⟩
        . simp only[cD,f,lU,kP,jg,iM,cV];by_cases h:c=b
          . subst h;simp
          . rw[ak (dJ h),ak h]
        . simp only[cD,f,lU,kP,jg,ll]at n;rw[cV,ak (dJ n)]
      . cases a
    . cases a
   case appendB e by' x y=>
    simp only[aO,bp]at a⊢;obtain⟨⟨u,v0⟩,h1,⟨d1,d2⟩,j,a⟩:=a;dsimp only at a⊢;split at a
    . rename_i b len s;have f:=Zq h1;split at a
      . rename_i U es A;simp only[bF,bB]at a;obtain⟨rfl,rfl,rfl⟩:=a
        refine⟨⟨_,⟨(u,.c (.cG b len)),h1,(d1,.c (.t (.str s))),j,by
         dsimp only
         rw[ht b (by simp[eh,f]),A]⟩,λc=>?_⟩,λc n=>?_⟩
        . simp only[cV,fN,cD,f,lU,kP,jg,hO,iM];by_cases h:c=key
          . subst h;simp
          . rw[ak (dJ h)];by_cases w:c=b
            . subst w;simp[h,dJ h]
            . rw[ak (dJ w),ak (by simp[h,w])]
        . simp only[cD,f,lU,kP,jg,p2,ll]at n;rw[cV,fN,ak (dJ n.1),ak (dJ n.2)]
      . cases a
    . cases a
   case ustr e x y=>
    simp only[aO,bp]at a⊢;obtain⟨⟨u,v0⟩,h1,⟨d1,d2⟩,j,a⟩:=a;dsimp only at a⊢;split at a
    . rename_i b m;have f:=Zp h1;split at a
      . rename_i U es A;simp only[bF,bB]at a;obtain⟨rfl,rfl,rfl⟩:=a
        refine⟨⟨_,⟨(u,.c (.eg b)),h1,(d1,.c (.t (.int .i64 m))),j,by
         dsimp only
         rw[ht b (by simp[eh,f]),A]⟩,λc=>?_⟩,λc n=>?_⟩
        . simp only[fN,cD,f,lU,kP,jg,iM];by_cases h:c=b
          . subst h;simp
          . rw[ak (dJ h),ak h]
        . simp only[cD,f,lU,kP,jg,ll]at n;rw[fN,ak (dJ n)]
      . cases a
    . cases a
   all_goals simp[aO]at a
inductive DStep (xb:a7)(P:Program)(o:cb)(key:Nat)(env:Env)(J:a8)(g:Bool)(v:V):a8->Prop
 |op {p:Prop} {J2:a8} (al:fO env o.guard = some g) (ahp:o.op.drawn = true) (xv:aO o.op env J key = some (p,v,J2)) (Bw:g = true->p) (aht:o.op.neutral = true\/g = true):
  DStep xb P o key env J g v (if o.op.neutral then J else J2)
 |skip (al:fO env o.guard=some g) (ahq:g=false):DStep xb P o key env J g v J
 |call {p:Prop} {f:Nat} {args:List aP} {vs:List V} (EW:o.op = .call f args) (al:fO env o.guard = some g) (xv:ho env args = some (p,vs)) (Bw:g = true->p/\V.aA.V.dF (lt 0) vs = true/\v.aA (lt 0) = true/\ea P f vs [] 0 (λtU _ _=>tU = v)):
  DStep xb P o key env J g v J
 |iG {p q:Prop} {f:Nat} {x:aP} {args:List aP} {vs:List V} (EW:o.op = .iG x args) (aD:o.guard = none) (af9:g = true) (ahy:x.get env = some (q, .c (.fn f []))) (ahu:q) (xw:hF P f = true) (xv:ho env args = some (p,vs))
  (Bw:p/\V.aA.V.dF (lt 0) vs=true/\v.aA (lt 0)=true/\ea P f vs [] 0 (λtU _ _=>tU=v)):DStep xb P o key env J g v J
 |own {p:Prop} {f:Nat} {args:List aP} {vs:List V} {r:V} {s:a8} {M:Nat} (EW:o.op = .call f args) (al:fO env o.guard = some g) (aD:o.guard = none) (xv:ho env args = some (p,vs)) (Bw:p) (xw:V.aA.V.dF (lt 0) vs = true) (af8:M<=16) (hk:s.all (λx=>x.1<16) = true)
  (QS:ea P f vs [] 0 (λtU FK En=>tU=r/\FK=s/\En=M)) (QT:v=r.bx key):DStep xb P o key env J g v (lA J key s)
 |raw {p:Prop} {f:Nat} {args:List aP} {vs:List V} {bs:a7} {r:V} {s:a8} {M:Nat} (EW:o.op = .call f args) (al:fO env o.guard = some g) (af9:g = true) (xv:ho env args = some (p,vs)) (Bw:p)
  (bT:bs.Nodup) (aB:∀b,b∈bs->b<key) (ahr:∀b,b∈bs->∃x,aW J b=some x) (ahw:∀b,b∈bs->b∈kZ env args++xb) (af8:M<=bs.length+16) (hk:s.all (λx=>decide (x.1<bs.length+16))=true)
  (QS:ea P f (vs.map (V.bN bs)) (fp bs J 0 bs) bs.length (λtU FK En=>tU=r/\FK=s/\En=M)) (QT:v=r.b9 (back bs key)):DStep xb P o key env J g v (hf J bs (back bs key) s)
theorem DStep.gZ{o:cb}{g:Bool}{v:V}(h:DStep xb P o key env J g v J1){K:Env->a8->Prop}(bH:K (en env o.dst g v) J1):gZ P o key env J K:=by
 cases h with
 | @op p J2 al O a e R=>
  unfold Shv.gZ;rw[al];dsimp only;refine .inr ?_;split
  . rename_i f args c;rw[c]at a;simp[aO]at a
  . rename_i x args c;rw[c]at a;simp[aO]at a
  . rename_i neg x c;rw[c]at a;simp[aO]at a
  grind
 |skip al Q=>
  unfold Shv.gZ;grind
 | @call p f args vs c al a e=>
  unfold Shv.gZ;rw[al];dsimp only;refine .inr ?_;rw[c];dsimp only;rw[a];dsimp only;split
  . rename_i D;rw[D]at al;simp[fO]at al;subst al;obtain⟨h1,j,t,u⟩:=e rfl;exact⟨h1,hx.Fy u j t bH⟩
  . refine .inr ⟨v,λw=>?_,bH⟩;obtain⟨h1,j,t,u⟩:=e w;exact⟨h1,hx.Fy u j t ⟨rfl,rfl⟩⟩
 | @iG p q f x args vs c aD w H G y a e=>
  subst w;unfold Shv.gZ;rw[aD];simp only[fO];refine .inr ?_;rw[c];dsimp only;rw[H,a];dsimp only;obtain⟨h1,j,t,u⟩:=e;simp only[pY,lX];exact⟨trivial,y,G,h1,hx.Fy u j t bH⟩
 | @raw p f args vs bs r s M c al w a e bT aB E S B F z A=>
  subst w;unfold Shv.gZ;rw[al];dsimp only;refine .inr ?_;rw[c];dsimp only;rw[a];dsimp only;subst A;have N:hx P f vs J key (λL J'=>K (en env o.dst true L) J'):=by
   refine hx.agu bT aB E z ?_;grind
  grind
 | @own p f args vs r s M c al aD a e y B F z A=>
  unfold Shv.gZ;rw[al];dsimp only;refine .inr ?_;rw[c];dsimp only;rw[a];dsimp only;rw[aD];dsimp only;rw[aD]at al;simp[fO]at al;subst al;subst A;refine⟨e,hx.agt z y ?_⟩;grind
theorem KW{o:cb}{t:Nat}(h:t∈o.op.reads):t∈o.rd:=by simp[cb.rd,h]
theorem zd{o:cb}(h:∀t,t∈o.rd->look env' t=look env t):fO env' o.guard=fO env o.guard:=by
 cases al:o.guard with
 |none=>rfl
 |some x=>
  obtain⟨t,b⟩:=x;simp only[fO];rw[h t (by simp[cb.rd,al])]
theorem Gi{s:a8}(e:s.all (λx=>x.1<16)=true){b:Nat}(d:¬(key<=b/\b<key+16))(J:a8):aW (lA J key s) b=aW J b:=by
 rw[yP];by_cases h:key<=b
 . rw[ad h];have:aW s (b-key)=none:=by
    cases hs:aW s (b-key)with
    |none=>rfl
    |some x=>
     exfalso;have:∀{s:a8} {c:Nat} {x:bO},aW s c=some x->s.all (λx=>x.1<16)=true->c<16:=by
      intro s;induction s with
      |nil=>intro c x h;simp[aW]at h
      |cons y r ih=>
       obtain⟨k,y⟩:=y;intro c x h a;simp only[oi,cd,dn]at a;simp only[aW]at h;grind
     grind
   rw[this]
 grind
theorem kH(h:∀t,t∈x.tmps->look env' t=look env t):dZ env' x=dZ env x:=by
 unfold dZ;rw[du h]
theorem GB{args:List aP}(h:∀t,t∈args.flatMap aP.tmps->look env' t=look env t):kZ env' args=kZ env args:=by
 induction args with
 |nil=>rfl
 |cons x r ih=>
  simp only[kZ,e6]at ih⊢;rw[du (λt ht=>h t (by simp[ht]))];grind
theorem Zz(h:∀t,t∈o.reads->look env' t=look env t)(b:Nat):cD xb o env' key b=cD xb o env key b:=by
 cases o<;>try rfl
 case store k x v=>simp only[cD];rw[kH λt ht=>h t (by simp[cJ.reads,ht])]
 case append sz by' x y=>simp only[cD];rw[kH λt ht=>h t (by simp[cJ.reads,ht])]
 case upset x y=>simp only[cD];rw[kH λt ht=>h t (by simp[cJ.reads,ht])]
 case appendB e k x y=>simp only[cD];rw[kH λt ht=>h t (by simp[cJ.reads,ht])]
 case ustr e x y=>simp only[cD];rw[kH λt ht=>h t (by simp[cJ.reads,ht])]
 case call f args=>simp only[cD];rw[GB h]
theorem ZA(h:∀t,t∈o.reads->look env' t=look env t):eh xb o env' key=eh xb o env key:=by
 cases o<;>try rfl
 case b2s x=>simp only[eh];rw[kH λt ht=>h t (by simp[cJ.reads,ht])]
 case load g k x=>simp only[eh];rw[kH λt ht=>h t (by simp[cJ.reads,ht])]
 case store k x v=>simp only[eh];rw[kH λt ht=>h t (by simp[cJ.reads,ht])]
 case lkset x y=>simp only[eh];rw[kH λt ht=>h t (by simp[cJ.reads,ht])]
 case upset x y=>simp only[eh];rw[kH λt ht=>h t (by simp[cJ.reads,ht])]
 case appendB e k x y=>simp only[eh];rw[kH λt ht=>h t (by simp[cJ.reads,ht])]
 case ustr e x y=>simp only[eh];rw[kH λt ht=>h t (by simp[cJ.reads,ht])]
 case call f args=>simp only[eh];rw[GB h]
 case append sz by' x y=>simp only[eh];rw[kH (x:=x) λt ht=>h t (by simp[cJ.reads,ht]),kH (x:=y) λt ht=>h t (by simp[cJ.reads,ht])]
theorem DStep.local{o:cb}{g:Bool}{v:V}(h:DStep xb P o key env J g v J1)(he:∀t,t∈o.rd->look env' t=look env t)(ht:∀b,b∈eh xb o.op env key\/cD xb o.op env key b=true->aW J' b=aW J b):
 (∃bo,DStep xb P o key env' J' g v bo/\∀b,aW bo b=if cD xb o.op env key b then aW J1 b else aW J' b)/\∀b,cD xb o.op env key b=false->aW J1 b=aW J b:=by
 have B:∀t,t∈o.op.reads->look env' t=look env t:=λt h=>he t (KW h);cases h with
 | @op p J2 al S u w X=>
  obtain⟨⟨bo,h1,Q⟩,R⟩:=Zr (J':=J') u (λb a=>ht b (.inl a));have aD:o.op.neutral=true->∀b,cD xb o.op env key b=false:=by intro aD b;generalize o.op=am at aD;cases am<;>simp[cJ.neutral]at aD<;>rfl
  refine⟨⟨_,DStep.op (J2:=bo) (p:=p) (by rw[zd he];exact al) S (by rw[aaf B];exact h1) w X,λb=>?_⟩,λb a=>?_⟩
  . by_cases z:o.op.neutral=true
    . rw[ad z,aD z b];rfl
    . rw[ak z,ak z];exact Q b
  . by_cases z:o.op.neutral=true
    . rw[ad z]
    . rw[ak z];exact R b a
 |skip al U=>
  refine⟨⟨J',DStep.skip (by rw[zd he];exact al) U,λb=>?_⟩,λb _=>rfl⟩;split
  . rename_i j;exact ht b (.inr j)
  . rfl
 | @call p f args vs c al u w=>
  refine⟨⟨J',DStep.call c (by rw[zd he];exact al) (by rw[yQ λt h=>B t (by rw[c];exact h)];exact u) w,λb=>?_⟩,λb _=>rfl⟩;split
  . rename_i j;exact ht b (.inr j)
  . rfl
 | @iG p q f x args vs c aD H af Y a u w=>
  refine⟨⟨J',DStep.iG c aD H (by rw[du λt h=>B t (by rw[c];simp[cJ.reads,h])];exact af) Y a (by rw[yQ λt h=>B t (by rw[c];simp only[cJ.reads,f'];exact .inr h)];exact u) w,λb=>?_⟩,λb _=>rfl⟩;split
  . rename_i j;exact ht b (.inr j)
  . rfl
 | @own p f args vs r s M c al aD u w a F y G K=>
  refine⟨⟨_,DStep.own c (by rw[zd he];exact al) aD (by rw[yQ λt h=>B t (by rw[c];exact h)];exact u) w a F y G K,λb=>?_⟩,λb A=>?_⟩
  . by_cases D:key<=b/\b<key+16
    . have j:cD xb o.op env key b=true:=by rw[c];simp[cD,D.1,D.2]
      rw[ad j];have e:=ht b (.inr j);rw[yP,yP,e]
    . rw[Gi y D];split
      . rename_i j;rw[Gi y D];exact ht b (.inr j)
      . rfl
  . have D:¬(key<=b/\b<key+16):=by intro h;rw[c]at A;simp[cD,h.1,h.2]at A
    exact Gi y D J
 | @raw p f args vs bs r s M c al H u w bT aB W E F y G K=>
  have Z:∀b,b∈kZ env args++xb->b∈eh xb o.op env key:=by intro b a;rw[c];simp only[eh,f'];exact .inr (f'.1 a)
  have N:∀b,b∈bs->aW J' b=aW J b:=λb a=>ht b (.inl (Z b (E b a)));have O:∀t,t∈args.flatMap aP.tmps->look env' t=look env t:=λt h=>B t (by rw[c];exact h)
  refine⟨⟨_,DStep.raw (bs:=bs) c (by rw[zd he];exact al) H (by rw[yQ O];exact u) w bT aB (λb a=>by rw[N b a];exact W b a) (λb a=>by rw[GB O];exact E b a) F y
   (by rw[Tm N];exact G) K,λb=>?_⟩,λb A=>?_⟩
  . by_cases j:cD xb o.op env key b=true
    . rw[ad j];refine Tn ?_;rw[pw,pw,ht b (.inr j)]
    . rw[ak j];have L:cD xb o.op env key b=false:=(by simpa using j);rw[c]at L;simp only[cD,p2,Ff,yc]at L;refine FY y (λa=>?_) (by omega);have:=E b a;simp[Fg,this]at L
  . rw[c]at A;simp only[cD,p2,Ff,yc]at A;refine FY y (λa=>?_) (by omega);have:=E b a;simp[Fg,this]at A
def w3(xb:a7)(P:Program):List cb->Nat->Env->a8->(Env->a8->Prop)->Prop
 |[],_,env,J,K=>K env J
 |o::r,key,env,J,K=>∃g v J1,DStep xb P o key env J g v J1/\w3 xb P r (key+16) (en env o.dst g v) J1 K
structure oy (xb:a7)(P:Program)(aZ:List cb)(N:Nat)(E:Nat->Env)(T:Nat->a8)(G:Nat->Bool)(W:Nat->V):Prop where
 step:∀(i:Nat) o,aZ[i]?=some o->DStep xb P o (N+16*i) (E i) (T i) (G i) (W i) (T (i+1))/\E (i+1)=en (E i) o.dst (G i) (W i)
theorem G9:∀{aZ:List cb} {key:Nat} {env:Env} {J:a8} {K:Env->a8->Prop},w3 xb P aZ key env J K->∃E T G W,oy xb P aZ key E T G W/\E 0=env/\T 0=J/\K (E aZ.length) (T aZ.length)
 |[],key,env,J,K,h=>⟨λ_=>env,λ_=>J,λ_=>true,λ_=>.aY [],⟨λi o h=>by simp at h⟩,rfl,rfl,h⟩
 |o::r,key,env,J,K,h=>by
  obtain⟨g,v,J1,h1,a⟩:=h;obtain⟨E,T,G,W,c,aK,e,bH⟩:=G9 a;refine⟨λi=>if i=0 then env else E (i-1),λi=>if i=0 then J else T (i-1),λi=>if i=0 then g else G (i-1),λi=>if i=0 then v else W (i-1),⟨λi d b=>?_⟩,rfl,rfl,by simpa using bH⟩;cases i with
  |zero=>grind
  |succ i=>
   have:=c.step i d (by simpa using b);grind
end
end
section
open Go
variable {xb:a7}
variable{p:Nat->Bool}{j:Nat}{L:List (cb×a7)}{o:cJ}{env:Env}{S:dQ}{J:a8}{w:World}{φ:dE}{a:Act}{D:Nat->a7}{listed:Array Bool}{Q:Exit->Act->World->Prop}
theorem H2:∀{m:Nat},(∃i,i<m/\p i=true)->∃i,i<m/\p i=true/\∀j,j<m->p j=true->j<=i
 |0,⟨i,h,_⟩=>by omega
 |m+1,⟨i,h1,a⟩=>by
  cases b:p m with
  |true=>exact⟨m,by omega,b,λj e _=>by omega⟩
  |false=>
   have:i<m:=(by grind);obtain⟨k,c,d,ba⟩:=H2 (m:=m) ⟨i,this,a⟩;grind
theorem xV{P:Program}{nt:Nat}{ops:Array Oper}:∀{l:List Oper} {aZ:List cb},jv P nt ops l=some aZ->aZ.length=l.length
 |[],aZ,h=>by simp[jv]at h;subst h;rfl
 |o::l,aZ,h=>by
  simp only[jv,bp,bb]at h;obtain⟨b,c,r,a,rfl⟩:=h;simp[xV a]
theorem GN{P:Program}{nt:Nat}{ops:Array Oper}:∀{l:List Oper} {aZ:List cb} {i:Nat} {o:Oper},jv P nt ops l=some aZ->l[i]?=some o->∃b,aZ[i]?=some b/\u0 P nt ops o=some b
 |[],aZ,i,o,h,a=>by simp at a
 |x::l,aZ,i,o,h,a=>by
  simp only[jv,bp,bb]at h;obtain⟨b,c,r,d,rfl⟩:=h;cases i with
  |zero=>simp at a;subst a;exact⟨b,rfl,c⟩
  |succ i=>simpa using GN d (by simpa using a)
theorem Gr:∀{l:List (cb×a7)} {k i:Nat} {x:cb×a7},DN k l=true->l[i]?=some x->∀d,d∈x.2->d<k+i
 |[],k,i,x,h,a,d,b=>by simp at a
 |y::r,k,i,x,h,a,d,b=>by
  simp only[DN,cd,cY,dn]at h;cases i with
  |zero=>simp at a;subst a;exact h.1 d b
  |succ i=>
   have:=Gr h.2 (by simpa using a) d b;omega
theorem ZB{i:Nat}(h:ahead L j i=true):j<i/\∃x,L[i]?=some x/\j∈x.2:=by
 simp only[ahead,cd,dn]at h;grind
theorem IY{key b:Nat}(ht:o.ie=true)(a:cD xb o env key b=true):b∈eh xb o env key:=by
 cases o
 case call f args=>
  simp only[cD,hO,cd,dn,Fg]at a;simp only[eh,f',eO,wi];rcases a with h|h
  . exact .inl ⟨b-key,by omega,by omega⟩
  grind
 all_goals simp[cJ.ie]at ht<;>simp[cD,eh]at a⊢<;>first|exact a|(rcases a with h|h;exact .inl h;exact .inr (.inl h))
theorem YA{key:Nat}(ht:o.ie=false):eh xb o env key=[]:=by
 cases o<;>simp[cJ.ie]at ht<;>rfl
theorem JW{key b:Nat}(a:cD xb o env key b=true):o.neutral=false:=by
 cases o<;>simp[cD]at a<;>rfl
theorem MV{key b:Nat}(ht:o.ie=false)(a:cD xb o env key b=true):key<=b/\b<key+16:=by
 cases o<;>simp[cJ.ie]at ht<;>simp[cD]at a
section
variable {P:Program}{aC:Ctx}{nt kk:Nat}{N:Nat}{ops:Array Oper}{aZ:List cb}{E:Nat->Env}{T:Nat->a8}{G:Nat->Bool}{W:Nat->V}
theorem Rel.afW{env':Env}{n:Nat->Bool}(R:Rel aC nt φ S env J n a w)(h:∀t,look env' t=look env t):Rel aC nt φ S env' J n a w:=
 ⟨R.bP,λk g v af=>R.gF k g v (h k▸af),λk g v af=>R.hI k g v (h k▸af),λk g v af=>R.gE k g v (h k▸af),R.dN,R.size,R.defers,R.ext,R.own,R.fix,R.fQ⟩
def ig(xb:a7)(aZ:List cb)(E:Nat->Env)(N i b:Nat):Bool:=match aZ[i]? with|some o=>cD xb o.op (E i) (N+16*i) b|none=>false
theorem vf(d:oy xb P aZ N E T G W){t:Nat}{i:Nat}:∀{k:Nat},i<=k->k<=aZ.length->(∀(j:Nat) (o:cb),i<=j->j<k->aZ[j]?=some o->o.dst≠some t)->look (E k) t=look (E i) t:=by
 intro k;induction k with
 |zero=> intro h1 _ _; have:i = 0:= by omega
         subst this;rfl
 |succ k ih=>
  intro h1 e b;by_cases f:i=k+1
  . grind
  . have c:k<aZ.length:=(by omega);have a:aZ[k]?=some aZ[k]:=eH c;rw[(d.step k _ a).2,pt,ak (b k _ (by omega) (by omega) a)];grind
theorem Dd(f:oy xb P aZ N E T G W){b:Nat}{i:Nat}:∀{k:Nat},i<=k->k<=aZ.length->(∀j:Nat,i<=j->j<k->ig xb aZ E N j b=false)->aW (T k) b=aW (T i) b:=by
 intro k;induction k with
 |zero=> intro h1 _ _; have:i = 0:= by omega
         subst this;rfl
 |succ k ih=>
  intro h1 g d;by_cases l:i=k+1
  . grind
  . have e:k<aZ.length:=(by omega);have c:aZ[k]?=some aZ[k]:=eH e;have a:=d k (by omega) (by omega);unfold ig at a;rw[c]at a;have:=((f.step k _ c).1.local (env':=E k) (J':=T k) (λ_ _=>rfl) (λ_ _=>rfl)).2 b a;grind
inductive jn (D:Nat->a7)(j:Nat):Nat->Prop
 |one {i:Nat} (h:j∈D i):jn D j i
 |step {e i:Nat} (h:jn D j e) (he:e∈D i):jn D j i
theorem jn.ready{n:Nat}(c:∀i d,i<n->d∈D i->d<i)(f:∀e,e<n->p e=true->∀d,d∈D e->p d=true){i:Nat}(h:jn D j i)(o:i<n)(a:∀d,d∈D i->p d=true):p j=true:=by
 induction h with
 |one h=>exact a _ h
 |step h he ih=>grind
theorem jn.congr{c:Nat->a7}{n:Nat}(f:∀i d,i<n->d∈D i->d<i)(e:∀i,i<n->D i=c i){i:Nat}(h:jn D j i)(a:i<n):jn c j i:=by
 induction h with
 |one h=>exact .one (by rw[<-e _ a];exact h)
 |step h he ih=>
  have:=f _ _ a he;exact .step (ih (by omega)) (by rw[<-e _ a];exact he)
theorem SY{D:Nat->a7}:∀{l:List (cb×a7)} {acc:List a7},(∀(k:Nat) x,l[k]?=some x->D (acc.length+k)=x.2)->(∀i j,j∈acc.getD i []->jn D j i)->∀i j,j∈(mg l acc).getD i []->jn D j i
 |[],acc,_,b,i,j,h=>b i j h
 |x::r,acc,c,b,i,j,h=>by
  simp only[mg]at h;refine SY (acc:=acc++[(x.2++x.2.flatMap λe=>acc.getD e []).eraseDups]) (λk y m=>?_) (λi j a=>?_) i j h
  . have:=c (k+1) y (by simpa using m);grind
  . rw[E8,List.getElem?_append]at a;split at a
    . grind
    . rename_i n;cases d:i-acc.length with
      |succ k=>rw[d]at a;simp at a
      |zero=>
       rw[d]at a;have g:i=acc.length:=(by omega);subst g;have f:D acc.length=x.2:=(by simpa using c 0 x rfl);simp only[yb,lo,List.mem_eraseDups,f',Fu]at a;rcases a with a|⟨e,he,a⟩
       . exact .one (by rw[f];exact a)
       . exact .step (b e j a) (by rw[f];exact he)
structure Stat (xb:a7)(aZ:List cb)(D:Nat->a7)(E:Nat->Env)(N:Nat):Prop where
 back:∀i d,i<aZ.length->d∈D i->d<i
 wB:∀(i j:Nat) (x y:cb) (d:Nat),aZ[i]?=some x->aZ[j]?=some y->y.dst=some d->(d∈x.rd->(j<i/\j∈D i)\/(x.op.neutral=true/\x.op.ie=false/\i<j/\i∈D j))/\(i=j\/x.dst≠some d)
 ord:∀i j b,i≠j->i<aZ.length->j<aZ.length->ig xb aZ E N i b=true->((∃y:cb,aZ[j]?=some y/\b∈eh xb y.op (E j) (N+16*j))\/ig xb aZ E N j b=true)->(i<j/\jn D i j)\/(j<i/\jn D j i)
def used(N m:Nat)(listed:Array Bool):Nat->Bool:=λb=>lt N b||(List.range m).any λi=>listed.getD i false&&(decide (N+16*i<=b)&&decide (b<N+16*i+16))
structure Inv (xb:a7)(aC:Ctx)(nt:Nat)(aZ:List cb)(D:Nat->a7)(N:Nat)(E:Nat->Env)(T:Nat->a8)(G:Nat->Bool)(W:Nat->V)(listed:Array Bool)(φ:dE)(S:dQ)(env:Env)(J:a8)(a:Act)(w:World):Prop where
 rel:Rel aC nt φ S env J (used N aZ.length listed) a w
 size:listed.size=aZ.length
 down:∀i,i<aZ.length->listed.getD i false=true->∀d,d∈D i->listed.getD d false=true
 cX:∀t,(∀(i:Nat) (o:cb),aZ[i]?=some o->listed.getD i false=true->o.dst≠some t)->look env t=look (E 0) t
 aK:∀t (i:Nat) (o:cb),aZ[i]?=some o->listed.getD i false=true->o.dst=some t->look env t=some (G i,W i)
 rD:∀b,(∀i,i<aZ.length->listed.getD i false=true->ig xb aZ E N i b=false)->aW J b=aW (T 0) b
 s1:∀b i,i<aZ.length->listed.getD i false=true->ig xb aZ E N i b=true->(∀j,j<aZ.length->listed.getD j false=true->ig xb aZ E N j b=true->j<=i)->aW J b=aW (T (i+1)) b
theorem k8{i:Nat}(a:i<listed.size):(listed.setIfInBounds i true).getD j false=if j=i then true else listed.getD j false:=by
 by_cases h:j=i
 . simp_all
 . rw[ak h,getD_set_ne false (dJ h)]
theorem Inv.agree(cy:Inv xb aC nt aZ D N E T G W listed φ S env J a w)(st:Stat xb aZ D E N)(q:oy xb P aZ N E T G W)
 {i:Nat}{o:cb}(O:aZ[i]?=some o)(aD:listed.getD i false=false)(Q:∀d,d∈D i->listed.getD d false=true):
 (∀t,t∈o.rd->look env t=look (E i) t)/\∀b,b∈eh xb o.op (E i) (N+16*i)\/cD xb o.op (E i) (N+16*i) b=true->aW J b=aW (T i) b:=by
 have R:i<aZ.length:=(c5.1 O).1;refine⟨λt ht=>?_,λb B=>?_⟩
 . by_cases am:∃(j:Nat) (y:cb),aZ[j]?=some y/\y.dst=some t
   . obtain⟨j,y,c,A⟩:=am;rcases (st.wB i j o y t O c A).1 ht with⟨h1,L⟩|⟨_,_,h1,L⟩
     . rw[cy.aK t j y c (Q j L) A];have:look (E (j+1)) t=some (G j,W j):=by rw[(q.step j y c).2,pt,ad A]
       rw[<-this]
       symm
       refine vf q (by omega) (by omega) λk z M F e u=>?_;rcases (st.wB k j z y t e c A).2 with h|h
       . omega
       . exact h u
     . have v:j<aZ.length:=(c5.1 c).1;have Z:∀(k:Nat) (z:cb),aZ[k]?=some z->z.dst=some t->k=j:=by
        intro k z e u;rcases (st.wB k j z y t e c A).2 with h|h
        . exact h
        grind
       rw[cy.cX t λk z e af u=>by
        have:=Z k z e u;subst this;have:=cy.down k v af i L
        grind]
       symm
       refine vf q (h' _) (by omega) λk z _ a2 e u=>?_;have:=Z k z e u;omega
   . have K:∀(j:Nat) (y:cb),aZ[j]?=some y->y.dst≠some t:=λj y c h=>am ⟨j,y,c,h⟩;rw[cy.cX t λj y c _=>K j y c]
     symm
     exact vf q (h' _) (by omega) λj y _ _ c=>K j y c
 . have an:∀j,j≠i->j<aZ.length->ig xb aZ E N j b=true->(j<i/\jn D j i)\/(i<j/\jn D i j):=by
    intro j v f x;refine st.ord j i b v f R x ?_;rcases B with B|B
    . grind
    . exact .inr (by unfold ig;rw[O];exact B)
   have af:∀j,j<aZ.length->listed.getD j false=true->ig xb aZ E N j b=true->j<i:=by
    intro j f H x;have a0:j≠i:=by rintro rfl;rw[aD]at H;cases H
    rcases an j a0 f x with h|h
    . exact h.1
    . have:=h.2.ready (p:=λk=>listed.getD k false) st.back cy.down f (cy.down j f H);grind
   have aI:∀j,j<i->ig xb aZ E N j b=true->listed.getD j false=true:=by
    intro j a1 x;rcases an j (by omega) (by omega) x with h|h
    . exact h.2.ready (p:=λk=>listed.getD k false) st.back cy.down R Q
    . omega
   by_cases ap:∃j,j<i/\ig xb aZ E N j b=true
   . obtain⟨j,ax,U,X⟩:=H2 ap;rw[cy.s1 b j (by omega) (aI j ax U) U (λk M F Y=>X k (af k M F Y) Y)]
     symm
     refine Dd q (by omega) (by omega) λk M F=>?_;cases aB:ig xb aZ E N k b with
     |false=>rfl
     |true=>have:=X k F aB;omega
   . have K:∀j,j<i->ig xb aZ E N j b=false:=(by grind);rw[cy.rD b λj f H=>by grind]
     symm
     exact Dd q (h' _) (by omega) λj _ v=>K j v
theorem aag{m:Nat}{i b:Nat}(a:i<listed.size)(h:eD (used N m listed) (N+16*i) b=true)(e:i<m):used N m (listed.setIfInBounds i true) b=true:=by
 simp only[eD,used,hO,wh,wi,cd,dn]at h⊢;rcases h with(h|⟨j,h1,c,d⟩)|h
 . exact .inl h
 . exact .inr ⟨j,h1,by rw[k8 a];split;rfl;exact c,d⟩
 . exact .inr ⟨i,e,by rw[k8 a,ad rfl],h⟩
theorem IZ{m:Nat}{i:Nat}(aD:listed.getD i false=false){b:Nat}(h1:N+16*i<=b)(a:b<N+16*i+16):used N m listed b=false:=by
 simp only[used,p2,Fm,wi,cd,dn];refine⟨by simp[lt];omega,λj c h=>?_⟩;grind
theorem Inv.step{U:dE}{bQ:dQ}{bo:a8}{L:Act}{w':World}(cy:Inv xb aC nt aZ D N E T G W listed φ S env J a w)(st:Stat xb aZ D E N)(ap:oy xb P aZ N E T G W)
 {i:Nat}{o:cb}(z:aZ[i]?=some o)(aD:listed.getD i false=false)(X:∀d,d∈D i->listed.getD d false=true)
 (M:∀b,aW bo b=if cD xb o.op (E i) (N+16*i) b then aW (T (i+1)) b else aW J b)
 (R:Rel aC nt U bQ (en env o.dst (G i) (W i)) bo (eD (used N aZ.length listed) (N+16*i)) L w'):
 Inv xb aC nt aZ D N E T G W (listed.setIfInBounds i true) U bQ (en env o.dst (G i) (W i)) bo L w':=by
 have x:i<aZ.length:=(c5.1 z).1;have c:i<listed.size:=by rw[cy.size];exact x
 have F:∀b,ig xb aZ E N i b=cD xb o.op (E i) (N+16*i) b:=λb=>by unfold ig;rw[z]
 refine⟨R.more λb A=>aag c A x,by simp[cy.size],λj q af d O=>?_,λt ht=>?_,λt j y v af K=>?_,λb A=>?_,λb j q af B Q=>?_⟩
 . rw[k8 c]at af⊢;split
   . rfl
   . split at af
     . rename_i e;subst e;exact X d O
     . exact cy.down j q af d O
 . rw[pt,ak (ht i o z (by rw[k8 c,ad rfl]))];exact cy.cX t λj y v af=>ht j y v (by rw[k8 c];split;rfl;exact af)
 . rw[pt];rw[k8 c]at af;by_cases f:j=i
   . subst f;rw[z]at v;cases v;rw[ad K]
   . rw[ak f]at af;rw[ak (λh=>?_)]
     . exact cy.aK t j y v af K
     . rcases (st.wB i j o y t z v K).2 with H|H
       . exact f H.symm
       . exact H h
 . rw[M b];have u:=A i x (by rw[k8 c,ad rfl]);rw[F]at u;rw[u];exact cy.rD b λj q af=>A j q (by rw[k8 c];split;rfl;exact af)
 . rw[M b];rw[k8 c]at af;by_cases u:cD xb o.op (E i) (N+16*i) b=true
   . rw[ad u];have an:i<=j:=Q i x (by rw[k8 c,ad rfl]) (by rw[F];exact u);by_cases f:j=i
     . subst f;rfl
     ·
      exfalso;rw[ak f]at af;rcases st.ord i j b (dJ f) x q (by rw[F];exact u) (.inr B)with h|h
      . have:=h.2.ready (p:=λk=>listed.getD k false) st.back cy.down q (cy.down j q af);rw[aD]at this;cases this
      . omega
   . rw[ak u];by_cases f:j=i
     . subst f;rw[F]at B;exact absurd B u
     . rw[ak f]at af;exact cy.s1 b j q af B λk Y Z am=>Q k Y (by rw[k8 c];split;rfl;exact Z) am
theorem Inv.done(cy:Inv xb aC nt aZ D N E T G W listed φ S env J a w)(st:Stat xb aZ D E N)(f:oy xb P aZ N E T G W)
 (u:∀i,i<aZ.length->listed.getD i false=true):Rel aC nt φ S (E aZ.length) (T aZ.length) (lt (N+16*aZ.length)) a w:=by
 refine((cy.rel.afW λt=>?_).congr λb=>?_).more λb v=>?_
 . by_cases F:∃(j:Nat) (y:cb),aZ[j]?=some y/\y.dst=some t
   . obtain⟨j,y,c,q⟩:=F;have o:j<aZ.length:=(c5.1 c).1;rw[cy.aK t j y c (u j o) q];have:look (E (j+1)) t=some (G j,W j):=by rw[(f.step j y c).2,pt,ad q]
     rw[<-this];refine vf f (by omega) (ef _) λk z p B Q R=>?_;rcases (st.wB k j z y t Q c q).2 with h|h
     . omega
     . exact h R
   . have e:∀(j:Nat) (y:cb),aZ[j]?=some y->y.dst≠some t:=λj y c h=>F ⟨j,y,c,h⟩;rw[cy.cX t λj y c _=>e j y c];exact vf f (h' _) (ef _) λj y _ _ c=>e j y c
 . by_cases H:∃j,j<aZ.length/\ig xb aZ E N j b=true
   . obtain⟨j,x,K,A⟩:=H2 H;rw[cy.s1 b j x (u j x) K (λk p _ M=>A k p M)];refine Dd f (by omega) (ef _) λk p B=>?_;cases O:ig xb aZ E N k b with
     |false=>rfl
     |true=>have:=A k B O;omega
   . have e:∀j,j<aZ.length->ig xb aZ E N j b=false:=(by grind);rw[cy.rD b λj L _=>e j L];exact Dd f (h' _) (ef _) λj _ o=>e j o
 . simp only[used,lt,hO,wh,wi,cd,dn]at v⊢;rcases v with h|⟨j,h1,U,X,Y⟩
   . omega
   . omega
theorem WW(st:Stat xb aZ D E N)(n:oy xb P aZ N E T G W)(hres:jv P nt ops ops.toList=some aZ)(u:∀(i:Nat) o,ops[i]?=some o->D i=hd o)
 (z:∀φ S a w,Rel aC nt φ S (E aZ.length) (T aZ.length) (lt (N+16*aZ.length)) a w->Q .normal a w):
 ∀(j:Nat) (listed:Array Bool) φ S env J a w,listed.toList.countP (· ==false)<=j->Inv xb aC nt aZ D N E T G W listed φ S env J a w->wpAny P .any ops Q j listed a w:=by
 have L:=xV hres;simp at L;have M:∀(listed:Array Bool) (φ:dE) (S:dQ) (env:Env) (J:a8) (a:Act) (w:World),Inv xb aC nt aZ D N E T G W listed φ S env J a w->Region.ready .any ops listed=[]->∀i,i<aZ.length->listed.getD i false=true:=by
  intro listed φ S env J a w cy l i;induction i using Nat.strongRecOn with
  |_ i ih=>
   intro c;cases af:listed.getD i false with
   |true=>rfl
   |false=>
    exfalso;have x:i<ops.size:=(by omega);have g:ops[i]?=some ops[i]:=BC x;have:i∈Region.ready .any ops listed:=by
     rw[mem_ready];refine⟨?_,ops[i],g,λe he V=>?_⟩
     . have k:i<listed.size:=by rw[cy.size];exact c
       grind
     . have f:e.on∈D i:=by
        rw[u i _ g];simp only[hd,eO,rA];grind
       exact ih e.on (st.back i _ c f) (by have:=st.back i _ c f;omega)
    grind
 have v:∀(listed:Array Bool) (φ:dE) (S:dQ) (env:Env) (J:a8) (a:Act) (w:World),Inv xb aC nt aZ D N E T G W listed φ S env J a w->Region.ready .any ops listed=[]->Q .normal a w:=by
  intro listed φ S env J a w cy l;exact z φ S a w (cy.done st n (M listed φ S env J a w cy l))
 intro j;induction j with
 |zero=>
  intro listed φ S env J a w H cy;have U:∀i,i<aZ.length->listed.getD i false=true:=by
   intro i c;have k:i<listed.size:=by rw[cy.size];exact c
   cases af:listed.getD i false with
   |true=>rfl
   |false=>
    exfalso;have h0:listed.toList.countP (· ==false)=0:=(by omega);rw[List.countP_eq_zero]at h0;simp[k]at af;exact h0 listed[i] (by simp) (by simp[af])
  have l:Region.ready .any ops listed=[]:=by
   rw[Q3];intro i c;rw[mem_ready]at c;grind
  exact⟨l,v listed φ S env J a w cy l⟩
 |succ j ih=>
  intro listed φ S env J a w H cy;refine⟨v listed φ S env J a w cy,λi c=>?_⟩;rw[mem_ready]at c;obtain⟨h1,o,g,X⟩:=c;have x:i<ops.size:=(yt.1 g).1;have I:i<aZ.length:=by omega
  have k:i<listed.size:=by rw[cy.size];exact I
  have aD:listed.getD i false=false:=by simp[k]at h1⊢;exact h1
  obtain⟨p,q,O⟩:=GN hres (i:=i) (o:=o) (by simpa using g);have f:∀d,d∈D i->listed.getD d false=true:=by
   intro d f;rw[u i o g]at f;simp only[hd,eO,rA]at f;grind
  obtain⟨A,B⟩:=cy.agree st n q aD f;obtain⟨⟨bo,hs,y⟩,_⟩:=(n.step i p q).1.local (env':=env) (J':=J) A B;have r:=CP cy.rel (key:=N+16*i) (λb C F=>IZ aD C F) O (K:=λe s=>e=en env p.dst (G i) (W i)/\s=bo) (hs.gZ ⟨rfl,rfl⟩) (Q:=Q);have next:∀m w',jZ aC nt (eD (used N aZ.length listed) (N+16*i)) (λe s=>e=en env p.dst (G i) (W i)/\s=bo) m w'->wpAny P .any ops Q j (listed.setIfInBounds i true) m w':=by
   rintro m w' ⟨R,bQ,e,s,⟨rfl,rfl⟩,R'⟩
   refine ih _ R bQ _ _ m w' ?_ (cy.step st n q aD f y R');have:listed.toList[i]?=some false:=by simp[k]at aD⊢;exact aD
   grind
  unfold wpOp;rw[g];dsimp only;split at r
  . rename_i t;rw[ad t];exact .inl (Oper.wp_mono next r)
  . rename_i t;rw[ak t];exact next _ _ r
end
end
end Go.Proofs.YtdjagncoefjfeaaGreat.Shv
