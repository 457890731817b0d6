/- The library of this proof, part B: an abstract machine for the code of the program, and its soundness. -/
import Derived.Lib.UnsafeStr
import Derived.Orders
import Derived.LoopN
import Derived.Test.YtdjagncoefjfeaaGreatCsLA

namespace Go.Proofs.YtdjagncoefjfeaaGreat.Shv
set_option linter.all false
section
open Go
theorem C.mi(c:C):c.az (λ_=>true)=true:=by cases c<;>simp[C.az]
variable{e ty t:TypeId}{o:Oper}{α:Type}{c:Call}{op:Op}{f id b0 off:Nat}{dst:Option Nat}{x:Value}{gd:Option (Nat×Bool)}{ops:Array Oper}{Q:Exit->Act->World->Prop}{K:Env->a7->Prop}{code:Code}{aZ:List cb}{fZ:List (Nat×Nat)}{bs:a6}{es:List (List T)}
section
variable {P:Program}{aB:Ctx}{nt kk:Nat}{φ:dE}{S bQ:dT}{env:Env}{J:a7}{N key:Nat}{n:Nat->Bool}{a:Act}{w w':World}
theorem Rel.extend(R:Rel aB nt φ S env J n a w)(e:Ext (λ_=>False) S bQ w w')(O:∀b j,bQ b j->b<w'.heap.size):Rel aB nt φ bQ env J n a w':=by
 have aa:∀b:Nat,b<w.heap.size->w'.heap[b]?=w.heap[b]?:=λb N=>e.block b N (λh=>h);have z:∀b x,aV J b=some x->(φ b).2≠0->∀j,¬bQ (φ b).1 j:=by
  intro b x q h0 j F;have dp:=R.bP.blk b x q;rcases e.rM _ _ F with h|h|h
  . exact dp.p0 h0 j h
  . exact h
  . have:=dp.km h0;omega
 refine⟨⟨λb x q=>?_,R.bP.inj,O⟩,λk g v ae ao=>?_,R.hJ,R.gH,R.dP,R.size,R.defers,?_,R.own,R.fix,R.fR⟩
 . have dp:=R.bP.blk b x q;cases x with
   |box cs=>
    obtain⟨h0,vs,E,h1,f,u⟩:=dp;refine⟨h0,vs,E,(aa _ (lO h1)).trans h1,f.imp λc v Q y=>bk.mono (n:=λ_=>true) e.mono (λ_ _=>rfl) (C.mi _) y,z b _ q h0⟩
   |arr sz es=>
    obtain⟨h1,f,u,B,ba⟩:=dp;refine⟨h1,f,u,B,λh0=>?_⟩;obtain⟨vs,E,A,H,K,L⟩:=ba h0;exact⟨vs,E,(aa _ (lO A)).trans A,H,λi j D t he ht=>let⟨v,G,y⟩:=K i j D t he ht;⟨v,G,cd.mono e.mono y⟩,z b _ q h0⟩
   |set ks=>
    obtain⟨h0,⟨es,c,h1,f⟩,u⟩:=dp;exact⟨h0,⟨es,c,(aa _ (lO h1)).trans h1,f⟩,z b _ q h0⟩
   |buf E s=>
    obtain⟨h1,f,u⟩:=dp;refine⟨h1,f,λh0=>?_⟩;grind
   |b8 E c=>
    obtain⟨h0,⟨p,v,h1,f,u⟩,B⟩:=dp;exact⟨h0,⟨p,v,(aa _ (lO h1)).trans h1,f,bk.mono (n:=λ_=>true) e.mono (λ_ _=>rfl) (C.mi _) u⟩,z b _ q h0⟩
   |cA sz es i o c=>
    obtain⟨⟨h1,f,u,B,ba,M⟩,⟨vs,E,A,H,K,v,L,P⟩,U⟩:=dp;exact⟨⟨h1,f,u,B,ba,M⟩,⟨vs,E,(aa _ (lO A)).trans A,H,λi j D t he ht aD=>let⟨v,G,y⟩:=K i j D t he ht aD;⟨v,G,cd.mono e.mono y⟩,v,L,bk.mono (n:=λ_=>true) e.mono (λ_ _=>rfl) (C.mi _) P⟩,z b _ q (by omega)⟩
 . obtain⟨x,q,y⟩:=R.gI k g v ae ao;exact⟨x,q,ck.mono e.mono (λ_ _=>rfl) (R.gH k g v ae ao) y⟩
 . refine⟨e.os.trans R.ext.os,e.tape.trans R.ext.tape,e.output.trans R.ext.output,hP R.ext.size e.size,λb ay dp=>?_,R.ext.mono.trans e.mono,λb j F=>?_⟩
   . exact(aa b (lY ay R.ext.size)).trans (R.ext.block b ay dp)
   . rcases e.rM _ _ F with h|h|h
     . exact R.ext.rM b j h
     . exact h.elim
     . exact .inr (.inr (hP R.ext.size h))
theorem XG(R:Rel aB nt φ S env J n a w){len:Nat}{parts:Array (Nat×Operand)}(Q:o.op= .buildSlice ty len parts)(W:P.underlying ty=some (.slice e)){sz:Nat}(V:eH P e=some sz)
 {z:List C}(Z:kW P e=some z){ps:List (Nat×aS)}(U:pC parts.toList=some ps)(h0:sz≠0)(A:z.length=sz)(O:len*sz<=2^24)
 {p v J'}(af:n key=false)(h:aR (.bsliceT e sz len z ps) env J key=some (p,v,J'))(T:p):Good P aB nt env J' (ins n key) a v ((execOp a.eval o).run P w):=by
 simp only[aR,bo,bc,bE]at h;obtain⟨m,B,⟨q,ds⟩,k,rfl,rfl,rfl⟩:=h;obtain⟨i,g,d,ad,s,ae⟩:=u3 (φ:=φ) (w:=w) (S:=S) (n:=n) Z;have ab:=tN B s;have aa:g.cells.size=sz:=by rw[<-rE,<-s.length,A]
 have l:0<sz:=by omega
 have ah:m.length=sz:=by rw[za B,A]
 obtain ⟨us,h1,I,r,K,ba,_⟩:= GX R l U k T (es:= List.replicate len m) (vs:= ((Array.range (len*sz)).map (g.cells[· % g.cells.size]!)).toList) (by
  grind) (by simp) (by
  intro i j e t he ht;have d:=(c7.1 he).1;simp at d;have:e=m:=by
   have:=eJ he;exact Bz this
  subst this;have N:=(c7.1 ht).1;obtain⟨x,Y,f⟩:=ab.get ht;refine⟨x,?_,f⟩;rw[E7,S3 aa l i j d (by omega)]
  simpa using Y)
 simp at r;have ag:us.length=len*sz:=by rw[K];simp
 have u:len<=eE:=by
  have:len<=len*sz:=E4 len l;unfold eE;omega
 have y:∀b j,S b j->b<w.heap.size:=R.bP.st;have D:gu w S (w.alloc (.cells us.toArray e)) (λb j=>S b j\/b=w.heap.size):=⟨λ_ _ h=>.inl h,λb j h=>qP (Cg (y b j h)) j⟩
 have E:Ext (λ_=>False) S (λb j=>S b j\/b=w.heap.size) w (w.alloc (.cells us.toArray e)):=
  ⟨rfl,rfl,rfl,by simp,λb k _=>Cg k,D,λb j h=>by grind⟩
 have F:=R.extend E (λb j h=>by
  rcases h with h|h
  . have:=y b j h;simp;omega
  simp_all)
 refine⟨.slice (some ⟨w.heap.size,0,none⟩) len len,φ,_,_,.inl ?_,?_,rfl,F.more λ_ h=>kL h⟩
 . have H:Instr.fill (λi=>some (i*sz,sz)) ((Array.range (len*sz)).map (g.cells[· % g.cells.size]!)) ((parts.map λ(i,x)=>(i,a.eval x)).toList)=some us.toArray:=by
    rw[Array.toList_map];exact h1
   have f:=RQ (P:=P) (w:=w) W V d ad h0 O rfl H;simp only[execOp,Q,Sem.run_bind,f,Result.andThen_ok];rfl
 . refine .c ?_;have L:ds.length=len:=r;show cd _ _ (.slice ds) _;rw[<-L]at u⊢;have M:∀j,(w.alloc (.cells us.toArray e)).cell? ⟨w.heap.size,j,none⟩=us[j]?:=λj=>jw pQ j;refine cd.slice ds _ _ sz w.heap.size 0 (λi j=>(us[i*sz+j]?).getD undef) (ea _) u I (λ_=>rfl) (λi j d N=>⟨.inr rfl,?_⟩) (λi j G t he ht=>?_)
   . rw[gb,M];have ay:i*sz+j<us.length:=by
      have:=eY sz (show i+1<=ds.length from d);grind
     rw[eF ay];rfl
   . obtain⟨v,X,f⟩:=ba i j G t he ht;rw[X];exact cd.mono D f
theorem WD{e8:Nat}(h:xO P ty=some e8):∃i z,P.info? ty=some i/\i.zero=some z/\z.cells=#[.pointer none,.slice none 0 0]:=by
 unfold xO at h;by_cases a:JT P ty=true/\IG P ty=true
 . obtain⟨_,a⟩:=a;unfold IG at a;cases b:(P.info? ty).bind (·.zero)with
   |none=>rw[b]at a;cases a
   |some z=>
    rw[b]at a;simp only[bo]at b;obtain⟨i,c,b⟩:=b;refine⟨i,z,c,b,?_⟩;dsimp only at a;unfold SZ at a;grind
 grind
theorem Xg(R:Rel aB nt φ S env J n a w)(A:o.op= .alloc ty){e8:Nat}(m:xO P ty=some e8)
 {p v J'}(r:n key=false)(t:n (key+1)=false)(h:aR (.allocS ty e8) env J key=some (p,v,J'))(E:p):Good P aB nt env J' (ins (ins n (key+1)) key) a v ((execOp a.eval o).run P w):=by
 simp only[aR,bG,bE]at h;obtain⟨rfl,rfl,rfl⟩:=h;obtain⟨i,z,q,B,D⟩:=WD m;have u:∀j,¬S w.heap.size j:=λj h=>by have:=R.bP.st _ _ h;omega
 have f:=(R.alloc (.cells #[.pointer none,.slice none 0 0] ty)).jR t (x:= .buf e8 []) (0,0) rfl (by simp[c3,dA]) (by simp);have s:ins n (key+1) key=false:=by simp[ins,r]
 have g:=f.jR s (x:= .b8 ty (.cI (key+1) 0)) (w.heap.size,1) (by simp[bO.az,C.az,ins]) (by
  simp only[c3,dA];refine⟨by simp,⟨.pointer none,.slice none 0 0,pQ,.inl rfl,?_⟩,u⟩
  simp[bk,fG]) (λ_=>⟨λk y b h0=>by
   rw[cX]at b;split at b
   . rename_i e;subst e;simp[dA]at h0
   . rename_i d;have l:(φ k).2≠0:=(by simpa[fG,dL d]using h0);have:=(R.bP.blk k y b).km l;simp only[fG,dL d,bT]
     omega,.inr R.ext.size⟩)
 refine⟨.pointer (some ⟨w.heap.size,0,none⟩),_,S,_,.inl ?_,.c ?_,by simp[V.az,C.az,ins],g⟩
 . simp[execOp,A,Instr.alloc,zeroValue,typeInfo,q,B,newVar,newRow,D]
 . simp[bk,dA]
theorem Tr(h:ta P t=true):∃k v i,P.underlying t=some (.map k v)/\P.underlying k=some .string/\P.info? v=some i/\i.zero=some (.bool false):=by
 unfold ta at h;split at h
 . rename_i k v d;simp only[cc]at h;obtain⟨h1,a⟩:=h;split at h1
   . rename_i c e;split at a
     . rename_i b;simp only[bo]at b;grind
     . cases a
   . cases h1
 . cases h
theorem Yo(R:Rel aB nt φ S env J n a w)(f:o.op= .makeMap t none)
 {p v J'}(d:n key=false)(h:aR .mkset env J key=some (p,v,J'))(i:p):Good P aB nt env J' (ins n key) a v ((execOp a.eval o).run P w):=by
 simp only[aR,bG,bE]at h;obtain⟨rfl,rfl,rfl⟩:=h;have e:∀j,¬S w.heap.size j:=λj h=>by have:=R.bP.st _ _ h;omega
 have b:=(R.alloc (.map #[] 0)).jR d (x:= .set []) (w.heap.size,1) rfl (by
  simp only[c3,dA]
  exact⟨by simp,⟨[],0,pQ,.nil⟩,e⟩) (λ_=>⟨λk y g h0=>by
   have:=(R.bP.blk k y g).km h0
   omega,.inr R.ext.size⟩)
 refine⟨.map (some w.heap.size),_,S,_,.inl ?_,.c ?_,by simp[V.az,C.az,ins],b⟩
 . simp[execOp,f,Instr.makeMap]
 . simp[bk,dA]
theorem Xh{s:ByteArray}{k:aj}:(s==(⟨k.toArray⟩:ByteArray))=decide (k=s.data.toList):=by
 rw[beq_toListBytes,ByteArray.toList_eq,ByteArray.toList_eq];grind
theorem Gt(s:ByteArray):∀{ks:List aj} {es:List MapEntry} (i:Nat),Am ks es->
 (jf ks s.data.toList=false/\Instr.findNow .string (.string s) es i=some none)\/
 (jf ks s.data.toList=true/\∃j e,Instr.findNow .string (.string s) es i=some (some (i+j,.bool true))/\es[j]?=some e/\e.key= .string s/\e.val= .bool true)
 |_,_,i,.nil=>.inl ⟨rfl,rfl⟩
 |k::ks,e::es,i,.cons h o=>by
  obtain⟨h1,f⟩:=h;have a:(s==(⟨k.toArray⟩:ByteArray))=decide (k=s.data.toList):=Xh;by_cases b:k=s.data.toList
  . refine .inr ⟨by simp[jf,b],0,e,?_,rfl,?_,f⟩
    . rw[show decide (k=s.data.toList)=true by simp[b]]at a;simp only[Instr.findNow,h1,Instr.sameNow,a,f,l5]
    simp_all
  . rcases Gt s (i+1) o with⟨c,d⟩|⟨c,j,g,d,l,m,n⟩
    . refine .inl ⟨by simpa[jf,b]using c,?_⟩;rw[show decide (k=s.data.toList)=false by simp[b]]at a;simp only[Instr.findNow,h1,Instr.sameNow,a];exact d
    . refine .inr ⟨by simpa[jf,b]using c,j+1,g,?_,by simpa using l,m,n⟩;rw[show decide (k=s.data.toList)=false by simp[b]]at a;simp only[Instr.findNow,h1,Instr.sameNow,a];grind
theorem C'{a:TypeId}(b:P.underlying a=some .string){s:ByteArray}{es:List MapEntry}{r:Option (Nat×Value)}(h:Instr.findNow .string (.string s) es 0=some r)(w:World):(Instr.findKey a (.string s) es).run P w= .ok r w:=by
 unfold Instr.findKey;simp only[Sem.run_bind,run_underlying b,Result.andThen_ok,h,Sem.run_pure]
theorem CZ{a:TypeId}(c:P.underlying a=some .string){s:ByteArray}(b:Bool)(w:World):(Instr.checkKey b 10000 a (.string s)).run P w= .ok () w:=by
 show(Instr.checkKey b (9999+1) a (.string s)).run P w= .ok () w;unfold Instr.checkKey;simp only[Sem.run_bind,run_underlying c,Result.andThen_ok,Sem.run_pure]
theorem CJ{b:Nat}{es:Array MapEntry}{c:Nat}(h:w.heap[b]?=some (.map es c)):(getObj b).run P w= .ok (.map es c) w:=by simp[getObj,Sem.run,h]
theorem I2{b:Nat}{es:Array MapEntry}{c:Nat}(o:Obj)(h:w.heap[b]?=some (.map es c)):(setObj b o).run P w= .ok () {w with heap:=w.heap.setIfInBounds b o}:=by
 simp[setObj,Sem.run,h]
theorem Yp(R:Rel aB nt φ S env J n a w){x k:Operand}(q:o.op= .lookup t x k false)(ht:ta P t=true){l g:aS}(F:bL x=some l)(E:bL k=some g)
 {p v J'}(L:n key=false)(h:aR (.lkset l g) env J key=some (p,v,J'))(r:p):Good P aB nt env J' (ins n key) a v ((execOp a.eval o).run P w):=by
 simp only[aR,bo]at h;obtain⟨⟨Q,U⟩,C,⟨O,T⟩,B,he⟩:=h;simp only at he;obtain⟨N,I,i,u,c,D,G⟩:=Tr ht;split at he
 . rename_i b s;split at he
   . rename_i ks y;simp only[bG,bE]at he;obtain⟨rfl,rfl,rfl⟩:=he;have h1:a.eval x= .map (some (φ b).1):=(cz R F C r.1).1.dY;obtain⟨bs,m,rfl,_⟩:=ck.kp (cz R E B r.2).1;obtain⟨h0,⟨es,K,aa,z⟩,M⟩:=R.bP.blk _ _ y;refine Good.pure R (x:= .bool (jf ks bs.data.toList)) ?_ (.r' _) rfl;have H:(zeroValue I).run P w= .ok (.bool false) w:=(by simp[zeroValue,typeInfo,D,G]);have A:=Gt bs 0 z;rcases A with⟨d,f⟩|⟨d,j,e,f,_⟩
     . simp[execOp,q,h1,m,Instr.lookup,run_underlying u,CJ aa,CZ c,C' c f,H,d]
     . simp[execOp,q,h1,m,Instr.lookup,run_underlying u,CJ aa,CZ c,C' c f,d]
   . cases he
 . cases he
theorem Zh{ks:List aj}{es:List MapEntry}(h:Am ks es)(s:ByteArray)(a:Nat):Am (ks++[s.data.toList]) (es++[{key:= .string s,val:= .bool true,born:=a}]):=
 h.append (.cons ⟨by cases s;simp,rfl⟩ .nil)
theorem a8.modify{c:Type}{R:α->c->Prop}{f:c->c}:∀{l:List α} {m:List c} {j:Nat},a8 R l m->(∀a b,R a b->m[j]?=some b->R a (f b))->a8 R l (m.modify j f)
 |_,_,_,.nil,_=>by simpa using a8.nil
 |_,_,0,.cons h e,k=>.cons (k _ _ h rfl) e
 |_,_,j+1,.cons h e,k=>by
  simp only[List.modify_succ_cons];exact .cons h (a8.modify e λa b o p=>k a b o (by simpa using p))
theorem Yq(R:Rel aB nt φ S env J n a w){x k v0:Operand}(B:o.op= .mapUpdate t x k v0)(ht:ta P t=true)(r:Gr v0=true){y u:aS}(V:bL x=some y)(N:bL k=some u)
 {p v J'}(ae:n key=false)(h:aR (.upset y u) env J key=some (p,v,J'))(C:p):Good P aB nt env J' (ins n key) a v ((execOp a.eval o).run P w):=by
 simp only[aR,bo]at h;obtain⟨⟨ak,an⟩,M,⟨aj,al⟩,L,he⟩:=h;simp only at he;obtain⟨ai,am,i,D,f,ad,ag⟩:=Tr ht;have E:a.eval v0= .bool true:=by
  unfold Gr at r;split at r
  . rfl
  . cases r
 split at he
 . rename_i b s;split at he
   . rename_i ks A;simp only[bG,bE]at he;obtain⟨rfl,rfl,rfl⟩:=he;have h1:a.eval x= .map (some (φ b).1):=(cz R V M C.1).1.dY;obtain⟨bs,z,rfl,_⟩:=ck.kp (cz R N L C.2).1;obtain⟨h0,⟨es,c,aa,q⟩,Q⟩:=R.bP.blk _ _ A;have ay:=lO aa;have W:∃es' g,(execOp a.eval o).run P w= .ok .skip {w with heap:=w.heap.setIfInBounds (φ b).1 (.map es' g)}/\Am (iT ks bs.data.toList) es'.toList:=by
      have K:=Gt bs 0 q;rcases K with⟨l,d⟩|⟨l,j,e,d,F,G,Z⟩
      . refine⟨es.toArray.push {key:= .string bs,val:= .bool true,born:=c},c+1,?_,?_⟩
        . simp[execOp,B,h1,z,E,Instr.mapUpdate,run_underlying D,CJ aa,CZ f,C' f d,I2 _ aa]
        . simp only[iT,l,bK,bT,List.push_toArray,Array.toList_push];simpa using Zh q bs c
      . refine⟨es.toArray.modify j λe=>{e with key:= .string bs,val:= .bool true},c,?_,?_⟩
        . have U:Instr.sameBits 10000 (Value.string bs) (Value.string bs)=true:=by
           show Instr.sameBits (9999+1) _ _=true;simp only[Instr.sameBits];rw[beq_toListBytes];simp
          have O:∀w,(Instr.keyThatStays (Value.string bs) (Value.string bs)).run P w= .ok (Value.string bs) w:=by intro w;unfold Instr.keyThatStays;rw[U];rfl
          rw[gb]at d;simp[execOp,B,h1,z,E,Instr.mapUpdate,run_underlying D,CJ aa,CZ f,C' f d,I2 _ aa,F,G,O]
        . simp only[iT,l,bJ];rw[Array.toList_modify];refine a8.modify q λah Y af ab=>?_;grind
     obtain⟨es',g,T,I⟩:=W;refine⟨undef,φ,S,_,.inr ⟨T,rfl⟩,.undef,rfl,Rel.more ?_ λ_ h=>kL h⟩;refine R.rewrite A h0 rfl rfl rfl rfl (by simp) (λX H=>by simp[Ra,dL H]) (λm=>?_);exact⟨h0,⟨es'.toList,g,by simp[ay],I⟩,Q⟩
   . cases he
 . cases he
theorem Wk{st k:TypeId}{i:TypeInfo}{c:Value}(u:P.underlying st=some (.slice e))(A:P.underlying k=some .string)(g:P.info? e=some i)(B:i.zero=some c)(D:c.cells.size=i.size)
 {base:Option Addr}{sl sc a:Nat}{y:Value}{xs f:List Value}(z:(Builtin.lenOf y).run P w= .ok a w)
 (v:(Builtin.firstCells i.size sl (.slice base sl sc)).run P w.drew= .ok xs.toArray w.drew)(x:(Builtin.firstCells i.size a y).run P w.drew= .ok f.toArray w.drew)
 (s:sc<sl+a)(n:lG (sl+a) i.bytes)(p:sl+a<=eE){tt:TypeId}:
 ∃(b:Nat) (r:List Value),sl+a<=b/\r.length=(b-(sl+a))*i.size/\
  (Builtin.append_ #[st,k] tt #[.slice base sl sc,y]).run P w= .ok (.slice (some ⟨w.heap.size,0,none⟩) (sl+a) b) (w.drew.alloc (.cells (xs++f++r).toArray e)):=by
 have t:∀w,(sizeOf e).run P w= .ok i.size w:=λw=>by simp[sizeOf,typeInfo,g]
 have d:∀w,(typeInfo e).run P w= .ok i w:=λw=>by simp[typeInfo,g]
 have C:∀w,(zeroValue e).run P w= .ok c w:=λw=>by simp[zeroValue,d,B]
 generalize j:(Question.appendCap (sl+a) sc e).cut (w.tape w.drawn (Question.appendCap (sl+a) sc e))=b;have q:sl+a<=b:=by rw[<-j];simp[Question.cut]
 have h1:¬(sl+a<=sc):=by omega
 have l:¬(((sl+a:Nat):Int)>IntKind.i64.max/\(False\/i.bytes=0)):=by intro h;have:=h.1;simp[IntKind.max,IntKind.signed,IntKind.bits]at this;unfold eE at p;omega
 have m:¬(Builtin.nextslicecap (sl+a) sc*i.bytes>2^48):=by
  exact n.not s
 refine⟨b,(Builtin.zeroCells c.cells (b-(sl+a))).toList,q,by simp[RR,D],?_⟩;have o:(choose (.appendCap (sl+a) sc e)).run P w= .ok b w.drew:=by rw[run_choose];simp only[Question.forced,bK,bT,j];rfl
 have aK:(xs++f++(Builtin.zeroCells c.cells (b-(sl+a))).toList).toArray=xs.toArray++f.toArray++Builtin.zeroCells c.cells (b-(sl+a)):=by grind
 rw[aK];unfold Builtin.append_;simp only[BD,x',BA,Sem.run_bind,run_underlying u,run_underlying A,Result.andThen_ok,t,Sem.run_pure,bK,bT,z,al h1,d];rw[al (by simpa using l)];simp only[Sem.run_bind,Sem.run_pure,Result.andThen_ok,d];rw[al m];simp only[Sem.run_bind,Sem.run_pure,Result.andThen_ok,d,o,run_askRoom,v,x,C,eG,bJ];simp only[newRow,Sem.run_bind,run_newObj,Result.andThen_ok,Sem.run_pure];rfl
theorem R4{st c:TypeId}{i:TypeInfo}(l:P.underlying st=some (.slice e))(o:P.underlying c=some .string)(g:P.info? e=some i)
 {base:Option Addr}{sl sc b:Nat}{y:Value}{d:List Value}(n:(Builtin.lenOf y).run P w= .ok b w)(m:(Builtin.firstCells i.size b y).run P w= .ok d.toArray w)(j:sl+b<=sc){w':World}
 (hs:∀a,base=some a->(storeCells (a.add (sl*i.size)) d 0).run P w= .ok () w') (f:base=none->w'=w) {tt:TypeId}:
  (Builtin.append_ #[st,c] tt #[.slice base sl sc,y]).run P w= .ok (.slice base (sl+b) sc) w':=by
 have k:∀w,(sizeOf e).run P w= .ok i.size w:=λw=>by simp[sizeOf,typeInfo,g]
 unfold Builtin.append_;simp only[BD,x',BA,Sem.run_bind,run_underlying l,run_underlying o,Result.andThen_ok,k,Sem.run_pure,bK,bT,n,ad j,m,eG,bJ];cases base with
 |none=>rw[f rfl];rfl
 |some a=>
  simp only[Sem.run_bind,hs a rfl,Result.andThen_ok];rfl
theorem Xy(w:World)(bs:ByteArray):(Builtin.firstCells 1 bs.size (.string bs)).run P w= .ok (bs.data.toList.map λb=>Value.int .u8 b.toNat).toArray w:=by
 have e:(bs.extract 0 bs.size).data=bs.data:=by simp_all
 simp only[Builtin.firstCells,e,Sem.run_pure]
 congr 1
 grind
theorem Xi(l:aj):∀x,x∈(l.map λb=>Value.int .u8 b.toNat)->x.oneCell'=true:=by
 intro x a;simp only[eK]at a;obtain⟨b,_,rfl⟩:=a;rfl
theorem XH(R:Rel aB nt φ S env J n a w){x y:Operand}{st T e:TypeId}(ax:o.op= .call {callee:= .builtin .append,args:=#[x,y],argTypes:=#[st,T]})
 (L:P.underlying st=some (.slice e))(O:P.underlying T=some .string){i:TypeInfo}(G:P.info? e=some i)(B:i.size=1)(ah:(i.zero.map (·.cells.size))=some 1)
 {U W:aS}(aD:bL x=some U)(d:bL y=some W)
 {p v J'}(g:n key=false)(h:aR (.appendB e i.bytes U W) env J key=some (p,v,J'))(ay:p):Good P aB nt env J' (ins n key) a v ((execOp a.eval o).run P w):=by
 simp only[aR,bo]at h;obtain⟨⟨aZ,a1⟩,ar,⟨a0,a2⟩,au,he⟩:=h;simp only at he;simp only[bc]at ah;obtain⟨a3,aH,aG⟩:=ah;have K:∀r w',(Builtin.append_ #[st,T] o.type #[a.eval x,a.eval y]).run P w= .ok r w'->(execOp a.eval o).run P w= .ok (.value r) w':=by
  intro r w' l;simp[execOp,ax,Go.resolve,invoke,builtin,l]
 have aw:∀b,w.heap.size<=b->∀j,¬S b j:=λb Y j aE=>by have:=R.bP.st _ _ aE;omega
 split at he
 . rename_i b len s;split at he
   . rename_i u es q;simp only[bG,bE]at he;obtain⟨rfl,rfl,rfl⟩:=he;obtain⟨az,aA,rfl,rfl,ae,A⟩:=ay;obtain⟨aU,ai,aj⟩:=(cz R aD ar az).1.dY;obtain⟨bs,ab,rfl,_⟩:=ck.kp (cz R d au aA).1;have m:bs.data.toList.length=bs.size:=by rw[<-qX]
     have an:=R.bP.blk _ _ q;obtain⟨aO,aP,X⟩:=an;have N:∀w,(Builtin.lenOf (a.eval y)).run P w= .ok bs.size w:=by intro w;simp[ab,Builtin.lenOf]
     have Q:∀w,(Builtin.firstCells i.size bs.size (a.eval y)).run P w= .ok (bs.data.toList.map λb=>Value.int .u8 b.toNat).toArray w:=by intro w;rw[ab,B];exact Xy w bs
     by_cases ag:es.length+bs.size<=(φ b).2
     . by_cases f:(φ b).2=0
       . have z:es=[]:=jS (by omega);have Z:bs.data.toList=[]:=jS (by omega);have t:=ai f;have l:=R4 (P:=P) (w:=w) (tt:=o.type) L O G (base:=none) (sl:=0) (sc:=0) (N w) (Q w) (by omega) (w':=w) (λam F=>by cases F) (λ_=>rfl);rw[<-t]at l;have R':=(R.del b).jR g (x:= .buf u (es++bs.data.toList)) (0,0) rfl (by rw[Z,z];simp only[c3,dA];exact⟨by simp,by simp,by simp⟩) (by simp);refine⟨_,_,S,w,.inl (K _ _ l),.c ?_,by simp[V.az,C.az,ins],R'⟩;rw[Z,z];have ap:bs.size=0:=(by omega);refine⟨by simp,λ_=>?_,λh=>?_⟩
         . rw[ap]
         . simp[dA]at h
       . obtain⟨⟨vs,aa,M,aC⟩,I⟩:=X f;have t:=aj f;have af:es.length+(bs.data.toList.map λb=>Value.int .u8 b.toNat).length<=vs.length:=by simp only[gA,m,M];exact ag
         obtain⟨w',aV,aJ,aK,aL,aM,ak,aN⟩:=ns (P:=P) (bs.data.toList.map λb=>Value.int .u8 b.toNat) es.length 0 vs w aa (by omega) (Xi _);rw[l5]at ak
         have l:=R4 (P:=P) (w:=w) (tt:=o.type) L O G (base:=some ⟨(φ b).1,0,none⟩) (sl:=es.length) (sc:=(φ b).2) (N w) (Q w) ag (w':=w') (λam F=>by
          cases F;have aT:Addr.add ⟨(φ b).1,0,none⟩ (es.length*i.size)=⟨(φ b).1,es.length,none⟩:=by rw[B,Nat.mul_one];unfold Addr.add;split<;>simp_all
          grind) (λY=>by cases Y)
         rw[<-t]at l
         have D:=(R.del b).world (w':=w') (λk=>k=(φ b).1) aJ aK aL (wq aM.symm) (λk _ g=>aN k g) (λk g=>by
          subst g;refine⟨I,λk y d g=>?_,R.own b _ q f⟩;rw[fO]at d;split at d
          . cases d
          . rename_i H
            exactλe=>R.bP.inj k b y _ d q (dL H) g f e)
         have E:=D.jR g (x:= .buf u (es++bs.data.toList)) (φ b) rfl (by
          simp only[c3,dA];refine⟨by simp[m];omega,by rw[c4];exact A,λ_=>⟨⟨_,ak,by rw[pV af];exact M,?_⟩,I⟩⟩;intro aY c aq;rw[mE af]
          grind) (λ_=>⟨λk y d g=>by
           rw[fO]at d;split at d
           . cases d
           . rename_i H
             exact R.bP.inj k b y _ d q (dL H) g f,R.own b _ q f⟩)
         refine⟨_,_,S,w',.inl (K _ _ l),.c ?_,by simp[V.az,C.az,ins],E⟩;refine⟨by simp[dA,m];omega,λh=>?_,λ_=>?_⟩
         . simp[dA,f]at h
         . simp[dA,m]
     . have D:=R.drew;have ao:∃base,a.eval x= .slice base es.length (φ b).2/\∃xs:List Value,(Builtin.firstCells i.size es.length (.slice base es.length (φ b).2)).run P w.drew= .ok xs.toArray w.drew/\xs.length=es.length/\∀(i:Nat) c,es[i]?=some c->xs[i]?=some (.int .u8 (UInt8.toNat c)):=by
        by_cases f:(φ b).2=0
        . have z:es=[]:=jS (by omega);subst z;exact⟨none,by rw[ai f,f];rfl,[],by simp[Builtin.firstCells],rfl,by simp⟩
        . obtain⟨⟨vs,aa,M,aC⟩,I⟩:=X f;refine⟨_,aj f,vs.take es.length,?_,by simp;omega,λj c aq=>?_⟩
          . rw[B];show(loadCells ⟨(φ b).1,0,none⟩ (es.length*1)).run P w.drew=_;rw[Nat.mul_one];refine yS (by simp;omega) (λj av=>?_);rw[gb,lr,ad av];exact jw (w:=w.drew) aa j
          grind
       obtain⟨base,t,xs,aF,aW,aX⟩:=ao;obtain⟨aI,r,h1,aQ,l⟩:=Wk (P:=P) (w:=w) (tt:=o.type) L O G aH (by rw[aG,B]) (N w) aF (Q w.drew) (by omega) (by rw[m]at ae;exact ae) (by rw[m]at A;exact A);rw[<-t]at l;have E:=(D.del b).alloc (.cells (xs++(bs.data.toList.map λb=>Value.int .u8 b.toNat)++r).toArray u)
       have al:=E.jR g (x:= .buf u (es++bs.data.toList)) (w.heap.size,aI) rfl (by
        simp only[c3,dA];refine⟨by simp[m];omega,by rw[c4];exact A,λ_=>⟨⟨_,pQ,?_,?_⟩,aw _ (ea _)⟩⟩
        . grind
        grind) (λ_=>⟨λk y d h0=>by
         rw[fO]at d;split at d
         . cases d
         . have:=(R.bP.blk k y d).km h0
           simp;omega,.inr R.ext.size⟩)
       refine⟨_,_,S,_,.inl (K _ _ l),.c ?_,by simp[V.az,C.az,ins],al⟩;refine⟨by simp[dA,m];omega,λh=>?_,λ_=>?_⟩
       . simp[dA]at h;omega
       . simp[dA,m]
   . cases he
 . cases he
theorem Yr(R:Rel aB nt φ S env J n a w){x:Operand}{t:TypeId}(e:o.op= .call {callee:= .builtin .unsafeSliceData,args:=#[x],argTypes:=#[t]}){d:aS}(i:bL x=some d)
 {p v J'}(l:n key=false)(h:aR (.sdata d) env J key=some (p,v,J'))(g:p):Good P aB nt env J' (ins n key) a v ((execOp a.eval o).run P w):=by
 simp only[aR,bo]at h;obtain⟨⟨q,r⟩,f,he⟩:=h;simp only at he;split at he
 . rename_i b len;simp only[bG,bE]at he;obtain⟨rfl,rfl,rfl⟩:=he;have ao:=cz R i f g;obtain⟨m,j,k⟩:=ao.1.dY;by_cases h0:(φ b).2=0
   . refine Good.pure R (x:= .pointer none) ?_ (.c ⟨none,rfl,λh=>absurd h0 h⟩) (by simpa[V.az,C.az]using ao.2);simp[execOp,e,Go.resolve,invoke,builtin,j h0,Go.Lib.run_unsafeSliceData_nil]
   . refine Good.pure R (x:= .pointer (some ⟨(φ b).1,0,none⟩)) ?_ (.c ⟨_,rfl,λ_=>rfl⟩) (by simpa[V.az,C.az]using ao.2);simp[execOp,e,Go.resolve,invoke,builtin,k h0,Go.Lib.run_unsafeSliceData_row _ _ _ _ _ _ h0]
 . cases he
theorem Ys{b m:Nat}{a:Addr}(c:b≠a.block):(w.freeze a m).heap[b]?=w.heap[b]?:=by
 unfold World.freeze;grind
theorem Xj(a:Addr)(m:Nat):(w.freeze a m).os=w.os/\(w.freeze a m).tape=w.tape/\(w.freeze a m).output=w.output/\(w.freeze a m).heap.size=w.heap.size:=by
 unfold World.freeze;grind
theorem Zi(R:Rel aB nt φ S env J n a w){x y:Operand}{cE l e:TypeId}(O:o.op= .call {callee:= .builtin .unsafeString,args:=#[x,y],argTypes:=#[cE,l]})
 (W:P.underlying cE=some (.pointer e))(K:P.cellsOf e=1){t u:aS}(Z:bL x=some t)(f:bL y=some u)
 {p v J'}(d:n key=false)(h:aR (.ustr e t u) env J key=some (p,v,J'))(Q:p):Good P aB nt env J' (ins n key) a v ((execOp a.eval o).run P w):=by
 simp only[aR,bo]at h;obtain⟨⟨ak,am⟩,L,⟨al,an⟩,M,he⟩:=h;simp only at he;split at he
 . rename_i b m;split at he
   . rename_i z es q;simp only[bG,bE]at he;obtain⟨rfl,rfl,rfl⟩:=he;obtain⟨T,U,rfl,rfl⟩:=Q;obtain⟨ab,h1,V⟩:=(cz R Z L T).1.dY;have B:a.eval y= .int .i64 es.length:=(cz R f M U).1.gq;have G:=R.bP.blk _ _ q;obtain⟨ah,A,F⟩:=G;have D:∀w',cd w' S (.str es) (.string ⟨es.toArray⟩):=by
      intro w';have:=cd.str (w:=w') (S:=S) (⟨es.toArray⟩:ByteArray) (by rw[<-qX];unfold eE at A;unfold ez;simp;omega);omega
     have C:∀r w',(Builtin.unsafeString_ #[cE,l] o.type #[a.eval x,a.eval y]).run P w= .ok r w'->(execOp a.eval o).run P w= .ok (.value r) w':=by
      intro r w' s;simp[execOp,O,Go.resolve,invoke,builtin,s]
     by_cases g:es=[]
     . subst g;refine⟨.string ⟨#[]⟩,φ,S,w,.inl (C _ _ ?_),.c (D w),rfl,(R.del b).more λ_ h=>kL h⟩;rw[h1,B];exact Go.Lib.run_unsafeString_none w cE l o.type ab
     . have ai:0<es.length:=tW.2 g;have i:(φ b).2≠0:=(by omega);obtain⟨⟨vs,aa,aj,Y⟩,N⟩:=F i;have X:w.shape? (φ b).1=some (z,vs.length):=by simp[World.shape?,aa]
       have s:=Go.Lib.run_unsafeString_row (P:=P) w cE l o.type z W K (φ b).1 vs.length X es g (by omega) (by unfold eE at A;omega) (λj c I=>by
        have H:Addr.add ⟨(φ b).1,0,none⟩ j=⟨(φ b).1,j,none⟩:=by unfold Addr.add;split<;>simp_all
        rw[H,jw aa];exact Y j c I)
       obtain⟨ad,ae,af,ag⟩:=Xj (w:=w) ⟨(φ b).1,0,none⟩ es.length
       have E:=(R.del b).world (w':=w.freeze ⟨(φ b).1,0,none⟩ es.length) (λk=>k=(φ b).1) ad ae af (wq ag.symm) (λk _ d=>Ys d) (λk d=>by
        subst d;refine⟨N,λk y f d=>?_,R.own b _ q i⟩;rw[fO]at f;split at f
        . cases f
        . rename_i g
          exactλe=>R.bP.inj k b y _ f q (dL g) d i e)
       refine⟨.string ⟨es.toArray⟩,φ,S,_,.inl (C _ _ ?_),.c (D _),rfl,E.more λ_ h=>kL h⟩;rw[h1,V i,B];exact s
   . cases he
 . cases he
end
section
variable {P:Program}{aB:Ctx}{nt:Nat}{φ:dE}{S:dT}{env:Env}{J:a7}{n:Nat->Bool}{key:Nat}{a:Act}{w:World}
theorem we{x:Array α}{a b:α}(h:x.toList=[a,b]):x=#[a,b]:=by grind
theorem Di{x:Array α}{a:α}(h:x.toList=[a]):x=#[a]:=by grind
theorem Zj(R:Rel aB nt φ S env J n a w)(q:o.op= .call c){D:cJ}(b:mC P c=some D)
 {p v J'}(m:n key=false)(h:aR D env J key=some (p,v,J'))(r:p):Good P aB nt env J' (ins n key) a v ((execOp a.eval o).run P w):=by
 obtain⟨callee,args,argTypes⟩:=c;unfold mC at b;split at b
 . rename_i f;split at b
   . rename_i x t d ht;simp only at f d ht;have d:=Di d;have ht:=Di ht;subst f;subst d;subst ht;split at b
     . rename_i k;simp only[bc]at b;obtain⟨s,g,rfl⟩:=b;exact JW (str:=true) R q (by simpa using k) g m h r
     . rename_i e k;simp only[bc]at b;obtain⟨s,g,rfl⟩:=b;exact JW (str:=false) R q (by simpa using⟨e,k⟩) g m h r
     . cases b
   . cases b
 . rename_i f;split at b
   . rename_i x y t u d ht;simp only at f d ht;have d:=we d;have ht:=we ht;subst f;subst d;subst ht;split at b
     . rename_i e k C;simp only[bo,dC,bG]at b;obtain⟨i,B,s,g,z,j,⟨h1,A,E⟩,rfl⟩:=b;exact XH R q k C B h1 A g j m h r
     . rename_i e F k C;simp only[bo,dC,bG]at b;obtain⟨i,B,s,g,z,j,⟨h1,A⟩,rfl⟩:=b;exact Xd R q k C B h1 A g j m h r
     . cases b
   . cases b
 . rename_i f;split at b
   . rename_i x y d;simp only at f d;have d:=we d;subst f;subst d;simp only[bo,bc]at b;obtain⟨s,g,z,j,rfl⟩:=b;exact XK R q g j m h r
   . cases b
 . rename_i f;split at b
   . rename_i x y d;simp only at f d;have d:=we d;subst f;subst d;simp only[bo,bc]at b;obtain⟨s,g,z,j,rfl⟩:=b;exact XL R q g j m h r
   . cases b
 . rename_i f;split at b
   . rename_i x t d ht;simp only at f d ht;have d:=Di d;have ht:=Di ht;subst f;subst d;subst ht;split at b
     . simp only[dC,bc]at b;obtain⟨_,s,g,rfl⟩:=b;exact Yr R q g m h r
     . cases b
   . cases b
 . rename_i f;split at b
   . rename_i x y t u d ht;simp only at f d ht;have d:=we d;have ht:=we ht;subst f;subst d;subst ht;split at b
     . rename_i e k;simp only[dC,bo,bc]at b;obtain⟨⟨_,_,E⟩,s,g,z,j,rfl⟩:=b;exact Zi R q k E g j m h r
     . cases b
   . cases b
 . split at b
   . simp only[bc]at b;obtain⟨l,ae,rfl⟩:=b;simp[aR]at h
   . cases b
 . simp only[bc]at b;obtain⟨l,ae,rfl⟩:=b;simp[aR]at h
 . cases b
theorem Good.mono{v:V}{J':a7}{db c:Nat->Bool}(h:∀b,db b=true->c b=true){r:Result Next}(g:Good P aB nt env J' db a v r):Good P aB nt env J' c a v r:=by
 obtain⟨x,j,bQ,w',h1,e,f,R'⟩:=g;exact⟨x,j,bQ,w',h1,e,V.hl h f,R'.more h⟩
theorem Yt(R:Rel aB nt φ S env J n a w){T:cJ}(b:c8 P o.op=some T)
 (ah:∀e e8,T≠.allocS e e8){p v J'}(l:n key=false)(h:aR T env J key=some (p,v,J'))(A:p):Good P aB nt env J' (ins n key) a v ((execOp a.eval o).run P w):=by
 generalize q:o.op=op at b;cases op with
 |move x=>simp only[c8,bc]at b;obtain⟨B,j,rfl⟩:=b;exact JU R (.inl q) j l h A
 |assign x=>simp only[c8,bc]at b;obtain⟨B,j,rfl⟩:=b;exact JU R (.inr q) j l h A
 |pick c x y=>
  simp only[c8,bo,bc]at b;obtain⟨ac,Z,B,j,H,E,rfl⟩:=b;exact X9 R q Z j E l h A
 |alloc e=>
  simp only[c8]at b;split at b
  . cases b;exact absurd rfl (ah _ _)
  . simp only[bo]at b;obtain⟨cs,W,b⟩:=b;split at b
    . split at b
      . rename_i Z;cases b;exact Xf R q W (by omega) (by omega) l h A
      . cases b;exact S2 R q W l h A
    . cases b;exact S2 R q W l h A
 |box e x=>simp only[c8,bc]at b;obtain⟨B,j,rfl⟩:=b;exact Z7 R q j l h A
 |build t parts=>
  simp only[c8]at b;split at b
  . rename_i fs I;simp only[dC,bo,bc]at b;obtain⟨h1,z,L,ps,K,rfl⟩:=b;exact Ym R q I h1 L K l h A
  . simp only[bo,bc]at b;rename_i len e C;obtain⟨z,L,m,D,ps,K,rfl⟩:=b;exact Xx R q C D L K l h A
  . cases b
 |buildSlice t len parts=>
  simp only[c8]at b;split at b
  . rename_i e C;simp only[bo,dC,bG]at b;obtain⟨m,D,z,L,ps,K,⟨h1,U,V⟩,rfl⟩:=b;exact Xc R q C D L K h1 U V l h A
  . cases b
 |load t x=>
  simp only[c8,bo,bc]at b;obtain⟨g,ao,B,j,rfl⟩:=b;exact Y8 R q ao j l h A
 |store t x y=>
  simp only[c8,bo,bc]at b;obtain⟨m,D,B,j,H,E,rfl⟩:=b;exact Yl R q D j E l h A
 |nilCheck x=>simp only[c8,bc]at b;obtain⟨B,j,rfl⟩:=b;exact Xw R q j l h A
 |binOp op t x y al=>
  simp only[c8]at b;split at b
  . rename_i ab;split at b
    . simp only[bo,bc]at b;obtain⟨ks,ag,B,j,H,E,rfl⟩:=b;exact Yk R q ab ag j E l h A
    . simp only[dC,bc]at b;obtain⟨_,B,j,rfl⟩:=b;simp[aR]at h
    . rename_i C;simp only[bo,bc]at b;obtain⟨B,j,H,E,rfl⟩:=b;exact Xa R q ab C j E l h A
    . simp only[bo,bc]at b;obtain⟨B,j,H,E,rfl⟩:=b;exact G' R q j E l h A
    . simp only[bo,bc]at b;obtain⟨B,j,H,E,rfl⟩:=b;exact G' R q j E l h A
    . cases b
  . simp only[bo,bc]at b;obtain⟨B,j,H,E,rfl⟩:=b;exact G' R q j E l h A
 |unOp u t x=>
  cases u<;>simp only[c8,bc,reduceCtorEq]at b
  . split at b
    . simp only[bc]at b;obtain⟨B,j,rfl⟩:=b;exact ZY R q j l h A
    . cases b
  . split at b
    . simp only[bc]at b;obtain⟨B,j,rfl⟩:=b;exact ZZ R q j l h A
    . cases b
  . obtain⟨B,j,rfl⟩:=b;exact ZX R q j l h A
 |convert s d x=>
  simp only[c8]at b;split at b
  . rename_i hs G;simp only[bc]at b;obtain⟨B,j,rfl⟩:=b;exact Ya R q hs G j l h A
  . rename_i hs G;simp only[bc]at b;obtain⟨B,j,rfl⟩:=b;exact Z0 R q hs G j l h A
  . rename_i hs G;simp only[bc]at b;obtain⟨B,j,rfl⟩:=b;exact Z1 R q hs G j l h A
  . rename_i e hs G;simp only[dC,bc]at b;obtain⟨⟨he,O⟩,B,j,rfl⟩:=b;have af:P.underlying e=some (.int .u8):=(by grind);exact Zu R q hs af G j l h A
  . cases b
 |fieldAddr t x f=>
  simp only[c8]at b;split at b
  . rename_i fs I;simp only[bo,Bv,bc]at b;obtain⟨ad,X,m,D,N,B,j,rfl⟩:=b;exact Yb R q I X D N j l h A
  . cases b
 |field t x f=>
  simp only[c8]at b;split at b
  . rename_i fs I;simp only[bo,bc]at b;obtain⟨ad,X,g,ao,B,j,rfl⟩:=b;obtain⟨h1,U,V⟩:=IX ao;exact Z2 R q I X U h1 V j l h A
  . cases b
 |indexAddr t x i=>
  simp only[c8]at b;split at b
  . rename_i e C;simp only[bo,Bv,bc]at b;obtain⟨m,D,N,B,j,M,F,rfl⟩:=b;exact XM R q C D N j F l h A
  . rename_i k e C;split at b
    . simp only[dC,bo,bc]at b;obtain⟨h0,s,hs,B,j,rfl⟩:=b;exact Zd R q C h0 hs j l h A
    . simp only[dC,bo,bc]at b;obtain⟨O,B,j,M,F,rfl⟩:=b;exact Zc R q C O j F l h A
  . cases b
 |index t x i=>
  simp only[c8]at b;split at b
  . rename_i C;simp only[bo,bc]at b;obtain⟨B,j,M,F,rfl⟩:=b;exact XN R q C j F l h A
  . cases b
 |slice t x aj F ak=>
  simp only[c8]at b;split at b
  . rename_i C;simp only[dC,bo,bc,Option.isNone_iff_eq_none]at b;obtain⟨rfl,B,j,Q,ae,Y,aa,rfl⟩:=b;exact XP R q C j ae aa l h A
  . rename_i e C;split at b
    . simp only[bo,Bv,bc]at b;obtain⟨m,D,N,B,j,Q,ae,Y,aa,rfl⟩:=b;exact Z4 R q C D j ae aa l h A
    . split at b
      . simp only[dC,bc]at b;obtain⟨h0,B,j,rfl⟩:=b;obtain⟨m,D⟩:=yt.1 h0;exact Y7 R q C D j l h A
      . cases b
    . cases b
  . rename_i k e C;simp only[dC,bo,bc,Option.isNone_iff_eq_none]at b;obtain⟨⟨rfl,O⟩,B,j,Q,ae,Y,aa,rfl⟩:=b;exact Ze R q C O j ae aa l h A
  . cases b
 |makeFunc fn first caps=>
  cases fn<;>simp only[c8,dC,bc,reduceCtorEq]at b;obtain⟨h1,Q,ae,rfl⟩:=b;have:first=#[]:=by simpa using h1
  subst this;exact XO R q ae l h A
 |extract x i=>simp only[c8,bc]at b;obtain⟨B,j,rfl⟩:=b;exact Z3 R q j l h A
 |makeMap t r=>
  cases r with
  |some _=>simp[c8]at b
  |none=>
   simp only[c8,dC,bG]at b;obtain⟨_,rfl⟩:=b;exact Yo R q l h A
 |lookup t x i c=>
  cases c with
  |true=>simp[c8]at b
  |false=>
   simp only[c8,dC,bo,bc]at b;obtain⟨ht,B,j,M,F,rfl⟩:=b;exact Yp R q ht j F l h A
 |mapUpdate t m k v0=>
  simp only[c8,dC,bo,bc]at b;obtain⟨⟨ht,ai⟩,B,j,M,F,rfl⟩:=b;exact Yq R q ht ai j F l h A
 |call c=>simp only[c8]at b;exact Zj R q b l h A
 |_=>simp[c8]at b
def eA(n:Nat->Bool)(k:Nat):Nat->Bool:=λb=>n b||(decide (k<=b)&&decide (b<k+16))
theorem lR{b:Nat}(h:n b=true):eA n key b=true:=by simp[eA,h]
theorem K1{b:Nat}(h:ins n key b=true):eA n key b=true:=by
 simp only[ins,hO,iP]at h;simp only[eA,hO,cc,dq];grind
theorem RT{b:Bool}{a:cJ}(h:u7 P b op=some a):c8 P op=some a\/∃t len parts e m z ps,op= .buildSlice t len parts/\P.underlying t=some (.slice e)/\eH P e=some m/\kW P e=some z/\pC parts.toList=some ps/\m≠0/\z.length=m/\len*m<=2^24/\a= .bsliceT e m len z ps:=by
 unfold u7 at h;split at h
 . split at h
   . rename_i e c;simp only[bo,dC,bG]at h;grind
   . cases h
 grind
theorem WE{e e8:Nat}(h:c8 P op=some (.allocS e e8)):op= .alloc e/\xO P e=some e8:=by
 cases op with
 |alloc j=>
  simp only[c8]at h;split at h
  . rename_i f;cases h;exact⟨rfl,f⟩
  . simp only[bo]at h;obtain⟨cs,k,h⟩:=h;split at h
    . split at h<;>cases h
    . cases h
 |buildSlice t len parts=>
  simp only[c8]at h;split at h
  . simp only[bo,dC,bG]at h;obtain⟨m,g,z,b,ps,a,_,h⟩:=h;cases h
  . cases h
 |build t parts=>
  simp only[c8]at h;split at h
  . simp only[dC,bo,bc]at h;obtain⟨h1,z,b,ps,a,h⟩:=h;cases h
  . simp only[bo,bc]at h;obtain⟨z,b,m,g,ps,a,h⟩:=h;cases h
  . cases h
 |call c=>
  simp only[c8]at h;unfold mC at h
  repeat' (first|(split at h)|(cases h;done))
  all_goals (try (cases h;done))
  all_goals simp only[bo,bc,dC,bG,reduceCtorEq,kj,mN,wv]at h
 |binOp op t x y l=>
  simp only[c8]at h
  repeat' (first|(split at h)|(cases h;done))
  all_goals (try (cases h;done))
  all_goals simp only[bo,bc,dC,bG,reduceCtorEq,kj,mN,wv]at h
 |unOp u t x=>
  cases u<;>simp only[c8]at h
  all_goals repeat' (first|(split at h)|(cases h;done))
  all_goals (try (cases h;done))
  all_goals simp only[bo,bc,dC,bG,reduceCtorEq,kj,mN,wv]at h
 |makeMap t r=>cases r<;>simp only[c8,reduceCtorEq,dC,bG,kj]at h
 |lookup t x i c=>cases c<;>simp only[c8,reduceCtorEq,dC,bo,bc,kj,mN]at h
 |makeFunc fn first caps=>cases fn<;>simp only[c8,dC,bc,reduceCtorEq,kj,mN]at h
 |convert s d x=>
  simp only[c8]at h
  repeat' (first|(split at h)|(cases h;done))
  all_goals (try (cases h;done))
  all_goals simp only[bo,bc,dC,bG,reduceCtorEq,kj,mN,wv]at h
 |_=>
  simp only[c8]at h
  try repeat' (first|(split at h)|(cases h;done))
  all_goals (try (cases h;done))
  all_goals simp only[bo,bc,dC,Bv,bG,reduceCtorEq,kj,mN,wv]at h
theorem Zk(R:Rel aB nt φ S env J n a w){f:cJ}{k:Bool}(d:u7 P k o.op=some f)
 {p v J'}(aD:∀b,key<=b->b<key+16->n b=false)(h:aR f env J key=some (p,v,J'))(j:p):Good P aB nt env J' (eA n key) a v ((execOp a.eval o).run P w):=by
 have g:n key=false:=aD key (ea _) (by omega);rcases RT d with d|⟨t,len,parts,e,m,z,ps,i,x,s,y,u,h1,l,q,rfl⟩
 . by_cases hs:∃e e8,f= .allocS e e8
   . obtain⟨e,e8,rfl⟩:=hs;obtain⟨i,r⟩:=WE d;refine(Xg R i r g (aD _ (by omega) (by omega)) h j).mono λb c=>?_;simp only[ins,hO,iP]at c;simp only[eA,hO,cc,dq];rcases c with(c|c)|c
     . exact .inl c
     . exact .inr ⟨by omega,by omega⟩
     . exact .inr ⟨by omega,by omega⟩
   . exact(Yt R d (λe e8 he=>hs ⟨e,e8,he⟩) g h j).mono λb c=>K1 c
 . exact(XG R i x s y u h1 l q g h j).mono λb c=>K1 c
end
def hz(P:Program)(f:Nat)(args:List V)(J:a7)(key:Nat)(K:V->a7->Prop):Prop:=
 ∀aB nt φ S env n a w,Rel aB nt φ S env J n a w->(∀b,key<=b->b<key+16->n b=false)->V.az.V.dF n args=true->∀vs:List Value,a8 (ck φ w S) args vs->
  Calls P f vs.toArray w λe w'=>∃v r c bQ J',e= .returned v/\K r J'/\ck c w' bQ r v/\r.az (eA n key)=true/\Rel aB nt c bQ env J' (eA n key) a w'
theorem hz.mono{P:Program}{args:List V}{J:a7}{key:Nat}{K c:V->a7->Prop}(h:hz P f args J key K)(q:∀r J',K r J'->c r J'):hz P f args J key c:=
 λaB nt φ S env n a w R aD p vs t=>(h aB nt φ S env n a w R aD p vs t).mono λe w' ⟨v,r,u,bQ,J',h1,j,o⟩=>⟨v,r,u,bQ,J',h1,q _ _ j,o⟩
def fP(env:Env):Option (Nat×Bool)->Option Bool
 |none=>some true
 |some (t,b)=>match look env t with
  |some (g,.c (.t (.bool x)))=>some (g&&(x==b))
  |_=>none
def en(env:Env)(dst:Option Nat)(g:Bool)(v:V):Env:=
 match dst with
 |none=>env
 |some d=>(d,g,v)::env
def sa(b:Bool):V:= .c (.t (.bool b))
def hc(P:Program)(o:cb)(key:Nat)(env:Env)(J:a7)(K:Env->a7->Prop):Prop:=
 match fP env o.guard with
 |none=>False
 |some g=>(g=false/\∃v,K (en env o.dst g v) J)\/
  match o.op with
  |.call f args=>match hp env args with
   |some (p,vs)=>match o.guard with
    |none=>p/\hz P f vs J key (λr J'=>K (en env o.dst true r) J')
    |some _=>(g=true/\p/\hz P f vs J key (λr J'=>K (en env o.dst true r) J'))\/∃r,(g=true->p/\hz P f vs J key (λa J'=>a=r/\J'=J))/\K (en env o.dst g r) J
   |none=>False
  |.iI x args=>match x.get env,hp env args with
   |some (q,.c (.fn f caps)),some (p,vs)=>o.guard=none/\hI P f=true/\q/\p/\hz P f (vs++caps.map (λb=>V.c (.ptr b 0))) J key (λr J'=>K (en env o.dst true r) J')
   |_,_=>False
  |.eqNil neg x=>match x.get env with
   |some (p,.c (.t (.slice es)))=>o.guard=none/\p/\∀b:Bool,(es≠[]->b=false)->K (en env o.dst true (sa (if neg then !b else b))) J
   |some (p,.c .aF)=>o.guard=none/\p/\∀b:Bool,K (en env o.dst true (sa (if neg then !b else b))) J
   |some (p,.c (.arr _ _ _ l))=>o.guard=none/\p/\∀b:Bool,(l≠0->b=false)->K (en env o.dst true (sa (if neg then !b else b))) J
   |_=>False
  |op=>match aR op env J key with
   |some (p,v,J')=>(g=true->p)/\(op.neutral=true\/g=true)/\K (en env o.dst g v) (if op.neutral then J else J')
   |none=>False
def kx(P:Program):List cb->Nat->Env->a7->(Env->a7->Prop)->Prop
 |[],_,env,J,K=>K env J
 |o::r,key,env,J,K=>hc P o key env J λenv' J'=>kx P r (key+16) env' J' K
section
variable {P:Program}{aB:Ctx}{nt:Nat}{φ:dE}{S:dT}{env:Env}{J:a7}{n:Nat->Bool}{key:Nat}{a:Act}{w:World}
theorem px{g:Bool}{v:V}{k:Nat}:look (en env dst g v) k=if dst=some k then some (g,v)else look env k:=by
 unfold en;cases dst with
 |none=>simp
 |some d=>simp[look]
theorem Rel.AZ(R:Rel aB nt φ S env J n a w)(o:∀d,dst=some d->d<nt){g:Bool}{v:V}(q:g=true->ck φ w S v x)(p:g=false->x=undef)(j:g=true->v.az n=true):
 Rel aB nt φ S (en env dst g v) J n (a.put dst x) w:=by
 have f:∀k:Nat,(a.put dst x).tmps[k]?=if dst=some k then some x else a.tmps[k]?:=by
  intro k;cases dst with
  |none=>simp[Act.put]
  |some d=>
   have ay:d<a.tmps.size:=by rw[R.size];exact o d rfl
   simp only[Act.put,Ra,bG];grind
 refine⟨R.bP,λk c e ae ao=>?_,λk c e ae ao=>?_,λk c e ae ao=>?_,R.dP,?_,?_,R.ext,R.own,R.fix,R.fR⟩
 . rw[px]at ae;rw[f];split at ae
   . rename_i h;cases ae;rw[ad h];exact⟨x,rfl,q ao⟩
   . rename_i h;rw[al h];exact R.gI k c e ae ao
 . rw[px]at ae;rw[f];split at ae
   . rename_i h;cases ae;rw[ad h,p ao]
   . rename_i h;rw[al h];exact R.hJ k c e ae ao
 . rw[px]at ae;split at ae
   . cases ae;exact j ao
   . exact R.gH k c e ae ao
 . cases dst<;>simp[Act.put,R.size]
 . cases dst<;>simp[Act.put,R.defers]
theorem S5(R:Rel aB nt φ S env J n a w)(c:tI ops o.guard=some gd){g:Bool}(ao:fP env gd=some g):Region.wanted o (yielded ops a.tmps)=g:=by
 unfold Region.wanted;cases i:o.guard with
 |none=>
  rw[i]at c;simp[tI]at c;subst c;simp[fP]at ao;grind
 |some l=>
  obtain⟨j,b⟩:=l;rw[i]at c;simp only[tI,bc]at c;obtain⟨d,k,rfl⟩:=c;simp only[fP]at ao;split at ao
  . rename_i e x ae;simp only[bG]at ao;subst ao;simp only[yielded,k,ak];cases f:e with
    |true=>
     obtain⟨y,m,c⟩:=R.gI d e _ ae f;have:=c.ju;grind
    |false=>
     have:=R.hJ d e _ ae f;simp only[this];rfl
  . cases ao
def j0(aB:Ctx)(nt:Nat)(n:Nat->Bool)(K:Env->a7->Prop)(a:Act)(w:World):Prop:=∃φ S env J,K env J/\Rel aB nt φ S env J n a w
theorem Yu  (h:hI P f = true):∃ fn,P.funcs[f]? = some fn/\fn.body.isSome = true/\(fn.name == "runtime.NumGoroutine") = false:= by
 unfold hI at h;grind
theorem Xk(h:hI P f=true)(args:Array Value)(w:World):(callFunc f args).run P w= .ok (.enter f args) w:=by
 obtain⟨fn,h1,a,b⟩:=Yu h;obtain⟨c,d⟩:=yt.1 a;simp only[callFunc,Sem.run_bind,run_program,Result.andThen_ok,h1,b,d,bK,bT,Option.isNone_some,Sem.run_pure]
theorem xL{o:cJ}(h:o.neutral=true){p v J'}(a:aR o env J key=some (p,v,J')):J'=J:=by
 cases o<;>simp only[cJ.neutral,reduceCtorEq,bK]at h<;>simp only[aR,bo,bc,bE]at a
 all_goals
  (try (obtain⟨a1,h1,a⟩:=a))
  (try (obtain⟨a2,b,a⟩:=a))
  (try (obtain⟨a3,c,a⟩:=a))
  (try dsimp only at a)
  (try split at a)
  (try (simp_all;done))
  (try split at a)
  (try (simp_all;done))
  (try (obtain⟨_,_,_,_,rfl⟩:=a;rfl))
 all_goals first
  |(cases a;rfl)
  |(cases a;done)
  |(simp only[bc,bE]at a;obtain⟨_,_,_,_,rfl⟩:=a;rfl)
  |(split at a<;>first
   |(cases a;rfl)
   |(cases a;done)
   |(simp only[bc,bE]at a;obtain⟨_,_,_,_,rfl⟩:=a;rfl))
  |skip
 all_goals repeat' (first|(cases a;done)|(cases a;rfl)|(simp only[bc,bE]at a;obtain⟨_,_,_,_,rfl⟩:=a;rfl)|split at a)
theorem Se{a:cb}(h:u2 P nt ops o=some a):
 u7 P (IV ops o) o.op=some a.op/\tI ops o.guard=some a.guard/\a.dst=o.dst/\∀d,a.dst=some d->d<nt:=by
 simp only[u2,bo]at h;obtain⟨p,c,g,ao,h⟩:=h;split at h
 . rename_i b;cases h;exact⟨c,ao,b.symm,by simp⟩
 . rename_i d b;simp only[dC,bG]at h;obtain⟨ay,rfl⟩:=h;exact⟨c,ao,b.symm,λe h=>by cases h;exact ay⟩
theorem xY{b:Bool}{a:cJ}(h:u7 P b op=some a)(c:∀e m l z ps,a≠.bsliceT e m l z ps):c8 P op=some a:=by
 rcases RT h with h|⟨t,len,parts,e,m,z,ps,_,_,_,_,_,_,_,_,rfl⟩
 . exact h
 grind
theorem Hv{g:Option (Nat×Bool)}(h:tI ops o.guard=some g)(ao:g=none):o.guard=none:=by
 subst ao;cases a:o.guard with
 |none=>rfl
 |some x=>
  rw[a]at h;obtain⟨j,b⟩:=x;simp only[tI,bc]at h;grind
theorem Hb{a:cJ}(h:c8 P (.alloc e)=some a)(h1:∀cs,a≠.alloc cs)(b:∀cs,a≠.allocA cs)(c:∀e e8,a≠.allocS e e8):False:=by
 simp only[c8]at h;split at h
 . grind
 . simp only[bo]at h;grind
theorem R5{args:List aS}(h:c8 P op=some (.call f args)):∃c,op= .call c/\mC P c=some (.call f args):=by
 cases op with
 |call c=>exact⟨c,rfl,h⟩
 |alloc e=>exfalso;exact Hb h (by simp) (by simp) (by simp)
 |makeMap t r=>exfalso;cases r<;>simp[c8]at h
 |lookup t x i c=>exfalso;cases c<;>simp[c8,bo,bc]at h
 |unOp u t x=>
  exfalso;cases u<;>simp only[c8]at h
  all_goals (repeat' split at h)<;>(first|(cases h;done)|simp[bo,bc]at h)
 |makeFunc fn b c=>exfalso;cases fn<;>simp[c8]at h
 |_=>
  exfalso;simp only[c8]at h
  (repeat' split at h)<;>(first|(cases h;done)|simp[bo,bc]at h)
theorem SF{x:aS}{args:List aS}(h:c8 P op=some (.iI x args)):∃c,op= .call c/\mC P c=some (.iI x args):=by
 cases op with
 |call c=>exact⟨c,rfl,h⟩
 |alloc e=>exfalso;exact Hb h (by simp) (by simp) (by simp)
 |makeMap t r=>exfalso;cases r<;>simp[c8]at h
 |lookup t x i c=>exfalso;cases c<;>simp[c8,bo,bc]at h
 |unOp u t x=>
  exfalso;cases u<;>simp only[c8]at h
  all_goals (repeat' split at h)<;>(first|(cases h;done)|simp[bo,bc]at h)
 |makeFunc fn b c=>exfalso;cases fn<;>simp[c8]at h
 |_=>
  exfalso;simp only[c8]at h
  (repeat' split at h)<;>(first|(cases h;done)|simp[bo,bc]at h)
theorem R6{args:List aS}(h:mC P c=some (.call f args)):c.callee= .value (.func f)/\hI P f=true/\mP c.args.toList=some args:=by
 unfold mC at h
 (repeat' split at h)<;>simp[bo,bc]at h
 grind
theorem SG{x:aS}{args:List aS}(h:mC P c=some (.iI x args)):∃t,x= .tmp t/\c.callee= .value (.tmp t)/\mP c.args.toList=some args:=by
 unfold mC at h
 (repeat' split at h)<;>simp[bo,bc]at h
 grind
theorem VF{neg:Bool}{x:aS}(h:c8 P op=some (.eqNil neg x)):
 ∃a t y z d e,op= .binOp a t y z d/\(a= .eql\/a= .neq)/\neg=(a== .neq)/\P.underlying t=some (.slice e)/\Hu z=true/\bL y=some x:=by
 cases op with
 |binOp a t y z d=>
  simp only[c8]at h
  (repeat' split at h)<;>(try (cases h;done))<;>simp only[bo,bc,cJ.eqNil.injEq,reduceCtorEq,kj,mN,wv]at h
  rename_i g _ _ j k;obtain⟨l,h1,f,rfl⟩:=h;exact⟨a,t,y,z,d,_,rfl,g,f.symm,j,k,h1⟩
 |call c=>
  exfalso;simp only[c8]at h;unfold mC at h
  (repeat' split at h)<;>(first|(cases h;done)|simp[bo,bc]at h)
 |alloc e=>exfalso;exact Hb h (by simp) (by simp) (by simp)
 |makeMap t r=>exfalso;cases r<;>simp[c8]at h
 |lookup t x i c=>exfalso;cases c<;>simp[c8,bo,bc]at h
 |unOp u t x=>
  exfalso;cases u<;>simp only[c8]at h
  all_goals (repeat' split at h)<;>(first|(cases h;done)|simp[bo,bc]at h)
 |makeFunc fn b c=>exfalso;cases fn<;>simp[c8]at h
 |_=>
  exfalso;simp only[c8]at h
  (repeat' split at h)<;>(first|(cases h;done)|simp[bo,bc]at h)
theorem DM(g:o.op= .call c){x:Operand}(d:c.callee= .value x){caps:List Value}(i:a.eval x= .func (.func f) #[] caps.toArray)(b:hI P f=true):
 (execOp a.eval o).run P w= .ok (.enter f (c.args.toList.map a.eval++caps).toArray) w:=by
 have e:(c.args.map a.eval++caps.toArray)=(c.args.toList.map a.eval++caps).toArray:=by apply Array.ext';simp
 simp only[execOp,g,Go.resolve,d,i,Deferred.ofValue,Sem.run_bind,Sem.run_pure,Result.andThen_ok,invoke];rw[show(#[]++c.args.map a.eval)=c.args.map a.eval by simp,e];exact Xk b _ _
theorem Calls.next{args:Array Value}{key:Nat}(u:dst=o.dst)(t:∀d,dst=some d->d<nt){g:Bool}(ao:g=true){K2:V->a7->Prop}
 (bI:∀r s,K2 r s->K (en env dst g r) s)
 (h:Calls P f args w λe w'=>∃v r c bQ J',e= .returned v/\K2 r J'/\ck c w' bQ r v/\r.az (eA n key)=true/\Rel aB nt c bQ env J' (eA n key) a w')
 (x:(execOp a.eval o).run P w= .ok (.enter f args) w):o.wp P a w (j0 aB nt (eA n key) K) Q:=by
 unfold Oper.wp;rw[x,Oper.upon_enter];refine h.mono ?_
 rintro e w' ⟨v,r,c,bQ,J',rfl,h1,j,p,q⟩
 subst u;exact⟨c,bQ,_,J',bI _ _ h1,q.AZ t (λ_=>j) (λh=>by rw[ao]at h;cases h) (λ_=>p)⟩
theorem CK(R:Rel aB nt φ S env J n a w)(aD:∀b,key<=b->b<key+16->n b=false){T:cb}(ab:u2 P nt ops o=some T)(h:hc P T key env J K):
 if Region.wanted o (yielded ops a.tmps)then o.wp P a w (j0 aB nt (eA n key) K) Q else j0 aB nt (eA n key) K (a.put o.dst undef) w:=by
 obtain⟨h1,G,H,I⟩:=Se ab;have aU:n key=false:=aD key (ea _) (by omega);unfold hc at h;split at h
 . exact h.elim
 . rename_i g ao;have aN:=S5 R G ao;rw[aN];have ah:∀{v:V} {s:a7},K (en env T.dst g v) s->s=J->g=false->j0 aB nt (eA n key) K (a.put o.dst undef) w:=by
    intro v s bI hs X;subst hs;rw[<-H];exact⟨φ,S,_,_,bI,(R.more λ_ h=>lR h).AZ I (λh=>by rw[X]at h;cases h) (λ_=>rfl) (λh=>by rw[X]at h;cases h)⟩
   rcases h with⟨X,v,bI⟩|h
   . rw[X];simp only[bK,bT];exact ah bI rfl X
   split at h
   ·
    rename_i f args Z;rw[Z]at h1;have aE:∃c,o.op= .call c/\c.callee= .value (.func f)/\hI P f=true/\mP c.args.toList=some args:=by
     obtain⟨c,aC,ab⟩:=R5 (xY h1 (by simp));exact⟨c,aC,R6 ab⟩
    obtain⟨c,af,ag,L,W⟩:=aE;split at h
    . rename_i p vs Y;have ai:∀w':World,(execOp a.eval o).run P w= .ok (.enter f (c.args.toList.map a.eval).toArray) w:=by
       intro _;have:=DM (P:=P) (w:=w) (a:=a) af ag (f:=f) (caps:=[]) rfl L;grind
      split at h
      . rename_i u;have M:g=true:=by rw[u]at ao;simp[fP]at ao;exact ao
        subst M;obtain⟨m,A⟩:=h;obtain⟨E,F⟩:=qT R W Y m;exact Calls.next H I rfl (λ_ _ h=>h) (A aB nt φ S env n a w R aD F _ E) (ai w)
      . rcases h with⟨M,m,A⟩|⟨r,A,bI⟩
        . subst M;obtain⟨E,F⟩:=qT R W Y m;exact Calls.next H I rfl (λ_ _ h=>h) (A aB nt φ S env n a w R aD F _ E) (ai w)
        cases B:g with
        |true=>
         obtain⟨m,A⟩:=A B;obtain⟨E,F⟩:=qT R W Y m;simp only[bJ];refine Calls.next (K2:=λav J'=>av=r/\J'=J) H I B (λav s aa=>?_) (A aB nt φ S env n a w R aD F _ E) (ai w);obtain⟨rfl,rfl⟩:=aa;exact bI
        |false=>
         simp only[bK,bT];exact ah bI rfl B
    . exact h.elim
   . rename_i x args Z;rw[Z]at h1;obtain⟨c,af,ab⟩:=SF (xY h1 (by simp));obtain⟨t,rfl,ag,W⟩:=SG ab;split at h
     . rename_i q f caps p vs N Y;obtain⟨u,L,aL,m,A⟩:=h;have M:g=true:=by rw[u]at ao;simp[fP]at ao;exact ao
       subst M;obtain⟨E,F⟩:=qT R W Y m;have ar:=cz (x:= .tmp t) R rfl N aL;have aO:a.eval (.tmp t)= .func (.func f) #[] (caps.map λb=>Value.pointer (some ⟨(φ b).1,0,none⟩)).toArray:=ar.1.dY;have aF:a8 (ck φ w S) (caps.map λb=>V.c (.ptr b 0)) (caps.map λb=>Value.pointer (some ⟨(φ b).1,0,none⟩)):=by
        refine a8.lv (by simp) ?_;intro i v x h1 G;simp only[n',bc]at h1 G;obtain⟨b,an,rfl⟩:=h1;obtain⟨aS,ap,rfl⟩:=G;rw[an]at ap;cases ap;exact .c rfl
       have aG:V.az.V.dF n (vs++caps.map λb=>V.c (.ptr b 0))=true:=by
        refine tJ ?_;intro i v k;by_cases aI:i<vs.length
        . rw[n5 aI]at k;exact nB F k
        . rw[p3 (by omega)]at k;simp only[n',bc]at k;obtain⟨b,an,rfl⟩:=k;have aa:=ar.2;simp only[V.az,C.az,c0]at aa⊢;grind
       exact Calls.next H I rfl (λ_ _ h=>h) (A aB nt φ S env n a w R aD aG _ (E.append aF)) (DM af ag aO L)
     . exact h.elim
   . rename_i neg x Z;rw[Z]at h1;obtain⟨U,ty,y,z,aW,e,aK,aA,rfl,aq,ak,aj⟩:=VF (xY h1 (by simp));have aQ:∀(b:Bool) (j:Option Addr) (l c:Nat),a.eval y= .slice j l c->j.isNone=b->(execOp a.eval o).run P w= .ok (.value (.bool (if(U== .neq)then !b else b))) w:=by
      intro b j l c k L;subst L;obtain⟨al,au,aP⟩:∃al:Value,a.eval z=al/\al= .slice none 0 0:=by
       unfold Hu at ak;split at ak
       . exact⟨_,rfl,rfl⟩
       . cases ak
      subst aP;have aw:(eqGuard U ty y z (a.eval y) (a.eval z)).run P w= .ok () w:=Gs (by rw[k];simp) (by rw[k];simp);have am:(Op.equal ty (.slice j l c) (.slice none 0 0)).run P w= .ok j.isNone w:=by
       obtain⟨d,aH⟩:∃d,Op.maxDepth=d+1:=⟨9999,rfl⟩
       unfold Op.equal;rw[aH];unfold Op.equalIn;cases j with
       |none=>simp only[Sem.run_bind,run_underlying aq,Result.andThen_ok];rfl
       |some j=>simp only[Sem.run_bind,run_underlying aq,Result.andThen_ok];rfl
      have ax:(binOp U ty (a.eval y) (a.eval z)).run P w= .ok (.bool (if(U== .neq)then !j.isNone else j.isNone)) w:=by
       rcases aA with rfl|rfl
       . rw[k,au];simp only[binOp,Sem.run_bind,am];rfl
       . rw[k,au];simp only[binOp,Sem.run_bind,am];rfl
      simp[execOp,aK,aw,ax]
     have O:∀ (b:Bool) (j:Option Addr) (l c:Nat),o.guard = none->a.eval y = .slice j l c->j.isNone = b->K (en env T.dst true (sa (if (U == .neq) then !b else b))) J->
      (if g then o.wp P a w (j0 aB nt (eA n key) K) Q else j0 aB nt (eA n key) K (a.put o.dst undef) w):=by
      intro b j l c u k L bI;have M:g=true:=by
       have:Region.wanted o (yielded ops a.tmps)=true:=(by simp[Region.wanted,u]);grind
      rw[ad M];unfold Oper.wp;rw[aQ b j l c k L];show j0 aB nt (eA n key) K (a.put o.dst _) w;rw[<-H];exact⟨φ,S,_,_,bI,(R.more λ_ h=>lR h).AZ I (λ_=>.r' _) (λh=>by cases h) (λ_=>rfl)⟩
     split at h
     . rename_i p es N;obtain⟨u,m,bI⟩:=h;obtain⟨j,cap,sz,b,off,f,k,_,_,_,D,_⟩:=cd.ko (cz R aj N m).1.dY;exact O j.isNone j _ _ (Hv G u) k rfl (bI _ λh=>by rw[D h];rfl)
     . rename_i p N;obtain⟨u,m,bI⟩:=h;obtain⟨j,k⟩:=(cz R aj N m).1.dY;exact O j.isNone j _ _ (Hv G u) k rfl (bI _)
     . rename_i p b sz off l N;obtain⟨u,m,bI⟩:=h;obtain⟨j,k,ae,aV⟩:=bk.hb (cz R aj N m).1.dY;exact O j.isNone j _ _ (Hv G u) k rfl (bI _ λh=>by rw[ae (by omega)];rfl)
     . exact h.elim
   . rename_i af ag aT;split at h
     . rename_i p v J' ae;obtain⟨m,D,bI⟩:=h;cases B:g with
       |true=>
        simp only[bJ];obtain⟨x,aR,bQ,w',hres,aM,az,R'⟩:=Zk R h1 aD ae (m B);have ay:(if T.op.neutral then J else J')=J':=by
         split
         . rename_i aJ;exact(xL aJ ae).symm
         . rfl
        rw[ay]at bI;have O:j0 aB nt (eA n key) K (a.put o.dst x) w':=by
         rw[<-H];exact⟨aR,bQ,_,_,bI,R'.AZ I (λ_=>aM) (λh=>by rw[B]at h;cases h) (λ_=>az)⟩
        unfold Oper.wp;rcases hres with hres|⟨hres,rfl⟩
        . rw[hres];exact O
        . rw[hres];exact O
       |false=>
        simp only[bK,bT];rcases D with D|D
        . rw[ad D]at bI;exact ah bI rfl B
        . rw[B]at D;cases D
     . exact h.elim
end
def lt(N:Nat):Nat->Bool:=λb=>decide (b<N)
theorem H4{N b:Nat}(h:eA (lt N) N b=true):lt (N+16) b=true:=by
 simp only[eA,lt,hO,dq,cc]at*;omega
theorem G4{N b:Nat}(h:N<=b):lt N b=false:=by simp[lt];omega
theorem M3{N M b:Nat}(h:N<=M)(a:lt N b=true):lt M b=true:=by simp only[lt,dq]at*;omega
section
variable {P:Program}{aB:Ctx}{nt kk:Nat}{φ:dE}{S:dT}{env:Env}{J:a7}{N:Nat}{a:Act}{w:World}
theorem JZ{ops:Array Oper}{Q:Exit->Act->World->Prop}{K:Env->a7->Nat->Prop}:∀{l:List Oper} {aZ:List cb} {k N:Nat} {env:Env} {J:a7} {φ:dE} {S:dT} {a:Act} {w:World},jx P nt ops l=some aZ->(∀i:Nat,i<l.length->l[i]?=ops[k+i]?)->
 Rel aB nt φ S env J (lt N) a w->kx P aZ N env J (λe s=>K e s (N+16*aZ.length))->(∀φ S e s N a w,K e s N->Rel aB nt φ S e s (lt N) a w->Q .normal a w)->wpOps P ops Q (List.range' k l.length) a w
 |[],aZ,k,N,env,J,φ,S,a,w,c,j,R,h,g=>by
  simp[jx]at c;subst c;simp only[ib,List.range'_zero,wpOps];exact g _ _ _ _ _ _ _ h R
 |o::l,aZ,k,N,env,J,φ,S,a,w,c,j,R,h,g=>by
  simp only[jx,bo,bc]at c;obtain⟨r,m,d,n,rfl⟩:=c;have p:ops[k]?=some o:=by have:=j 0 (by simp);simpa using this.symm
  rw[ia,Fi,wpOps_cons];unfold wpOp;rw[p];simp only;have hs:=CK R (λb h1 _=>G4 h1) m (K:=λe s=>kx P d (N+16) e s λe s=>K e s (N+16*(d.length+1))) (by simp only[kx,ia]at h;exact h) (Q:=Q);have next:∀f w',j0 aB nt (eA (lt N) N) (λe s=>kx P d (N+16) e s λe s=>K e s (N+16*(d.length+1))) f w'->wpOps P ops Q (List.range' (k+1) l.length) f w':=by
   rintro f w' ⟨t,bQ,e,s,bI,R'⟩
   refine JZ (k:=k+1) (N:=N+16) n (λi ay=>?_) (R'.more λ_ h=>H4 h) (K:=K) ?_ g
   . have:=j (i+1) (by simp;omega);grind
   grind
  split at hs
  . rename_i q;rw[ad q];exact .inl (Oper.wp_mono next hs)
  grind
def Tw(P:Program)(nt kk:Nat)(c:Code)(env:Env)(J:a7)(N:Nat)(Q:Exit->Env->a7->Nat->Prop):Prop:=
 ∀aB φ S a w,aB.k=kk->Rel aB nt φ S env J (lt N) a w->c.wp P (λe b w'=>∃d bQ env' J' N',Q e env' J' N'/\Rel aB nt d bQ env' J' (lt N') b w') a w
def cu(P:Program)(nt kk:Nat)(c:dz)(env:Env)(J:a7)(N:Nat)(Q:Exit->Env->a7->Nat->Prop):Prop:=
 ∀code,resolve P nt code=some c->Tw P nt kk code env J N Q
variable {Q na:Exit->Env->a7->Nat->Prop}
theorem cu.mono{c:dz}(h:cu P nt kk c env J N Q)(p:∀e env J N,Q e env J N->na e env J N):cu P nt kk c env J N na:=
 λcode j aB φ S a w o R=>wp_mono (h code j aB φ S a w o R) λe a w ⟨q,bQ,env',J',N',h1,f⟩=>⟨q,bQ,env',J',N',p _ _ _ _ h1,f⟩
theorem cu.skip(h:Q .normal env J N):cu P nt kk .skip env J N Q:=by
 intro code c aB φ S a w e R;cases code<;>simp only[resolve,bo,bc,reduceCtorEq,kj,mN]at c<;>(try (first|(cases c;done)|(obtain⟨l,_,c⟩:=c;(repeat' split at c)<;>cases c;done)))
 exact wp_skip ⟨φ,S,env,J,N,h,R⟩
theorem cu.ret(h:Q .ret env J N):cu P nt kk .ret env J N Q:=by
 intro code c aB φ S a w e R;cases code<;>simp only[resolve,bo,bc,reduceCtorEq,kj,mN]at c<;>(try (first|(cases c;done)|(obtain⟨l,_,c⟩:=c;(repeat' split at c)<;>cases c;done)))
 exact wp_ret ⟨φ,S,env,J,N,h,R⟩
theorem cu.exit(h:Q (.exit id) env J N):cu P nt kk (.exit id) env J N Q:=by
 intro code c aB φ S a w e R;cases code<;>simp only[resolve,bo,bc,reduceCtorEq,kj,mN]at c<;>(try (first|(cases c;done)|(obtain⟨l,_,c⟩:=c;(repeat' split at c)<;>cases c;done)))
 cases c;exact wp_exit ⟨φ,S,env,J,N,h,R⟩
def andThen(next:Env->a7->Nat->Prop)(Q:Exit->Env->a7->Nat->Prop):Exit->Env->a7->Nat->Prop
 |.normal,env,J,N=>next env J N
 |e,env,J,N=>Q e env J N
theorem Yv{x y:dz}(h:resolve P nt code=some (.seq x y)):∃a b,code= .seq a b/\resolve P nt a=some x/\resolve P nt b=some y:=by
 cases code with
 |seq a b=>
  simp only[resolve,bo,bc]at h;grind
 |region id ops c=>
  simp only[resolve,bo]at h;grind
 |_=>simp[resolve,bo,bc]at h
theorem Xl{c:aS}{x y:dz}(h:resolve P nt code=some (.cond c x y)):∃o a b,code= .cond o a b/\bL o=some c/\resolve P nt a=some x/\resolve P nt b=some y:=by
 cases code with
 |cond o a b=>
  simp only[resolve,bo,bc]at h;grind
 |region id ops d=>
  simp only[resolve,bo]at h;grind
 |_=>simp[resolve,bo,bc]at h
theorem XI{x:dz}(h:resolve P nt code=some (.block id x)):∃b,code= .block id b/\resolve P nt b=some x:=by
 cases code with
 |block i b=>
  simp only[resolve,bc]at h;grind
 |region id ops a=>
  simp only[resolve,bo]at h;grind
 |_=>simp[resolve,bo,bc]at h
theorem Xm{x:dz}(h:resolve P nt code=some (.loop x)):∃b,code= .loop b/\resolve P nt b=some x:=by
 cases code with
 |loop b=>
  simp only[resolve,bc]at h;grind
 |region id ops a=>
  simp only[resolve,bo]at h;grind
 |_=>simp[resolve,bo,bc]at h
theorem RU(h:resolve P nt code=some (.region aZ)):∃id ops,code= .region id ops false/\jx P nt ops ops.toList=some aZ:=by
 cases code with
 |region id ops b=>
  simp only[resolve,bo]at h;obtain⟨l,ae,h⟩:=h;split at h
  . grind
  . rename_i a;cases h;simp at a;subst a;grind
 |_=>simp[resolve,bo,bc]at h
theorem Sf(h:resolve P nt code=some (.oh aZ fZ)):
 ∃id ops,code= .region id ops true/\jx P nt ops ops.toList=some aZ/\tk (fi ops aZ)=true/\P.follows .mixedOrders=true/\fZ=se (fi ops aZ):=by
 cases code with
 |region id ops c=>
  simp only[resolve,bo]at h;obtain⟨l,ae,h⟩:=h;split at h
  . rename_i b;split at h
    . rename_i a;cases h;subst b;simp only[cc]at a;exact⟨id,ops,rfl,ae,a.1,a.2,rfl⟩
    . cases h
  . cases h
 |_=>simp[resolve,bo,bc]at h
theorem cu.seq{x y:dz}(h:cu P nt kk x env J N (andThen (λenv J N=>cu P nt kk y env J N Q) Q)):cu P nt kk (.seq x y) env J N Q:=by
 intro code p aB φ S a w c R;obtain⟨u,v,rfl,q,t⟩:=Yv p;refine wp_seq (wp_mono (h _ q aB φ S a w c R) ?_)
 rintro e o w' ⟨j,bQ,env',J',N',f,R'⟩
 cases e with
 |normal=>exact f _ t aB j bQ o w' c R'
 |_=>exact⟨j,bQ,env',J',N',f,R'⟩
theorem cu.cond{c:aS}{x y:dz}{p:Prop}{b:Bool}(j:c.get env=some (p,sa b))(u:p)(v:b=true->cu P nt kk x env J N Q)(A:b=false->cu P nt kk y env J N Q):cu P nt kk (.cond c x y) env J N Q:=by
 intro code q aB φ S a w e R;obtain⟨o,D,E,rfl,t,z,B⟩:=Xl q;have f:=(cz R t j u).1.ju;refine wp_cond f ?_;cases b with
 |true=>exact v rfl _ z aB φ S a w e R
 |false=>exact A rfl _ B aB φ S a w e R
def inBlock(id:Nat)(Q:Exit->Env->a7->Nat->Prop):Exit->Env->a7->Nat->Prop
 |.exit i,env,J,N=>if i=id then Q .normal env J N else Q (.exit i) env J N
 |e,env,J,N=>Q e env J N
theorem cu.block{id:Nat}{x:dz}(h:cu P nt kk x env J N (inBlock id Q)):cu P nt kk (.block id x) env J N Q:=by
 intro code j aB φ S a w o R;obtain⟨b,rfl,f⟩:=XI j;refine wp_block (wp_mono (h _ f aB φ S a w o R) ?_)
 rintro e q w' ⟨p,bQ,env',J',N',c,R'⟩
 cases e with
 |exit i=>
  simp only[inBlock]at c;simp only[Exit.inBlock];grind
 |_=>exact⟨p,bQ,env',J',N',c,R'⟩
theorem cu.region{aZ:List cb}(h:kx P aZ N env J (λe s=>Q .normal e s (N+16*aZ.length))):cu P nt kk (.region aZ) env J N Q:=by
 intro code j aB φ S a w t R;obtain⟨id,ops,rfl,o⟩:=RU j;refine wp_region ?_;have:=JZ (P:=P) (ops:=ops) (K:=λe s N=>Q .normal e s N) (Q:=λe c w'=>∃p bQ env' J' N',Q e env' J' N'/\Rel aB nt p bQ env' J' (lt N') c w') (k:=0) o (λi q=>by simp) R h
  (λφ S e s N a w bI f=>⟨φ,S,e,s,N,bI,f⟩)
 rw[List.range_eq_range'];omega
end
def pos:a6->Nat->Option Nat
 |[],_=>none
 |x::r,b=>if x=b then some 0 else(pos r b).map (· +1)
theorem nF:∀{bs:a6} {b i:Nat},pos bs b=some i->bs[i]?=some b
 |[],b,i,h=>by simp[pos]at h
 |x::r,b,i,h=>by
  unfold pos at h;split at h
  . grind
  . simp only[bc]at h;obtain⟨j,a,rfl⟩:=h;simpa using nF a
def nJ(bs:a6):a6->Option a6
 |[]=>some []
 |c::r=>match pos bs c,nJ bs r with
  |some i,some l=>some (i::l)
  |_,_=>none
def C.bN(bs:a6):C->C
 |.t x=>.t x
 |.ptr b o=>match pos bs b with|some i=>.ptr i o|none=>.dead
 |.cH b sz i o=>match pos bs b with|some j=>.cH j sz i o|none=>.dead
 |.dO ts o=>.dO ts o
 |.arr b sz off len=>match pos bs b with|some i=>.arr i sz off len|none=>.dead
 |.fx b sz off len=>match pos bs b with|some i=>.fx i sz off len|none=>.dead
 |.mp b=>match pos bs b with|some i=>.mp i|none=>.dead
 |.eg b=>match pos bs b with|some i=>.eg i|none=>.dead
 |.cI b len=>match pos bs b with|some i=>.cI i len|none=>.dead
 |.aF=>.aF
 |.e4=>.e4
 |.e3=>.e3
 |.fn f caps=>match nJ bs caps with|some l=>.fn f l|none=>.dead
 |.dead=>.dead
def V.bN(bs:a6):V->V
 |.c x=>.c (x.bN bs)
 |.agg cs=>.agg (cs.map (C.bN bs))
 |.aY vs=>.aY (go bs vs)
where go (bs:a6):List V->List V
 |[]=>[]
 |v::vs=>v.bN bs::go bs vs
def bO.bN(bs:a6):bO->bO
 |.box cs=>.box (cs.map (C.bN bs))
 |.arr sz es=>.arr sz es
 |.set ks=>.set ks
 |.buf E s=>.buf E s
 |.b8 E c=>.b8 E (c.bN bs)
 |.cA sz es i o c=>.cA sz es i o (c.bN bs)
def nG(bs:a6)(env:Env):a6->Env
 |[]=>[]
 |k::ks=>match look env k with
  |some (g,v)=>(k,g,v.bN bs)::nG bs env ks
  |none=>nG bs env ks
def fq(bs:a6)(J:a7):Nat->a6->a7
 |_,[]=>[]
 |i,b::r=>match aV J b with
  |some x=>(i,x.bN bs)::fq bs J (i+1) r
  |none=>fq bs J (i+1) r
def keeps(k:Nat)(bs:a6):Bool:=(List.range k).all λi=>bs[i]?==some i
section
variable {P:Program}{aB:Ctx}{nt kk:Nat}{φ:dE}{S:dT}{env:Env}{J:a7}{N:Nat}{n:Nat->Bool}{a:Act}{w:World}
theorem Hw:∀{bs caps l:a6},nJ bs caps=some l->caps.length=l.length/\∀(i b j:Nat),caps[i]?=some b->l[i]?=some j->bs[j]?=some b
 |bs,[],l,h=>by simp[nJ]at h;subst h;simp
 |bs,c::r,l,h=>by
  unfold nJ at h;split at h
  . rename_i j k f ae;cases h;obtain⟨h1,e⟩:=Hw ae;refine⟨by simp[h1],?_⟩;intro i b g a d;cases i with
    |zero=>simp at a d;subst a;subst d;exact nF f
    |succ i=>exact e i b g (by simpa using a) (by simpa using d)
  . cases h
theorem bk.bN{u:dE}(p:∀(i:Nat) b,bs[i]?=some b->u i=φ b){c:C}{v:Value}(h:bk φ w S c v):bk u w S (c.bN bs) v:=by
 have e:=bk.jj h;cases c with
 |ptr b o=>
  simp only[C.bN];split
  . rename_i i a;simp only[bk,p i b (nF a)];exact h
  . exact e
 |cH b sz i o=>
  simp only[C.bN];split
  . rename_i j y;simp only[bk,p j b (nF y)];exact h
  . exact e
 |arr b sz off len=>
  simp only[C.bN];split
  . rename_i i a;simp only[bk,p i b (nF a)];exact h
  . exact e
 |fx b sz off len=>
  simp only[C.bN];split
  . rename_i i a;simp only[bk,p i b (nF a)];exact h
  . exact e
 |mp b=>
  simp only[C.bN];split
  . rename_i i a;simp only[bk,p i b (nF a)];exact h
  . exact e
 |eg b=>
  simp only[C.bN];split
  . rename_i i a;simp only[bk,p i b (nF a)];exact h
  . exact e
 |cI b len=>
  simp only[C.bN];split
  . rename_i i a;simp only[bk,p i b (nF a)];exact h
  . exact e
 |fn f caps=>
  simp only[C.bN];split
  . rename_i l ae;obtain⟨h1,x⟩:=Hw ae;simp only[bk]at h⊢;rw[h]
    congr 2
    apply Fj (by simp[h1]);intro i q t;simp at q t;simp only[List.getElem_map];rw[p _ _ (x i _ _ (eF q) (eF t))]
  . exact e
 |_=>exact h
theorem CL:∀{vs:List V} {i:Nat},(V.bN.go bs vs)[i]?=(vs[i]?).map (V.bN bs)
 |[],i=>by simp[V.bN.go]
 |v::vs,0=>by simp[V.bN.go]
 |v::vs,i+1=>by simp[V.bN.go,CL]
theorem Ch:∀{vs:List V},(V.bN.go bs vs).length=vs.length
 |[]=>rfl
 |v::vs=>by simp[V.bN.go,Ch]
theorem a8.pZ{c e:Type}{R:α->c->Prop}{R':e->c->Prop}{f:α->e}{l:List α}{m:List c}(h:a8 R l m)(k:∀a b,R a b->R' (f a) b):a8 R' (l.map f) m:=by
 induction h with
 |nil=>exact .nil
 |cons j _ ih=>exact .cons (k _ _ j) ih
theorem ck.bN{e:dE}(a:∀(i:Nat) b,bs[i]?=some b->e i=φ b){v:V}(h:ck φ w S v x):ck e w S (v.bN bs) x:=by
 induction h with
 |c h=>exact .c (bk.bN a h)
 |agg h=>exact .agg (h.pZ λ_ _=>bk.bN a)
 |aY vs xs ae h ih=>
  refine .aY _ xs (by rw[Ch];exact ae) ?_;intro i v x f j;rw[CL,bc]at f;grind
theorem tl{b i:Nat}(h:pos bs b=some i):i<bs.length:=(c7.1 (nF h)).1
theorem C.jV(c:C):(c.bN bs).az (lt bs.length)=true:=by
 cases c with
 |ptr b o=>simp only[C.bN];split<;>simp[C.az,lt];rename_i h;exact tl h
 |cH b sz i o=>simp only[C.bN];split<;>simp[C.az,lt];rename_i h;exact tl h
 |arr b sz off len=>simp only[C.bN];split<;>simp[C.az,lt];rename_i h;exact tl h
 |fx b sz off len=>simp only[C.bN];split<;>simp[C.az,lt];rename_i h;exact tl h
 |mp b=>simp only[C.bN];split<;>simp[C.az,lt];rename_i h;exact tl h
 |eg b=>simp only[C.bN];split<;>simp[C.az,lt];rename_i h;exact tl h
 |cI b len=>simp only[C.bN];split<;>simp[C.az,lt];rename_i h;exact tl h
 |fn f caps=>
  simp only[C.bN];split
  . rename_i l ae;obtain⟨h1,a⟩:=Hw ae;simp only[C.az,c0,lt,dq];intro j p;obtain⟨i,e,rfl⟩:=eS p;exact(c7.1 (a i _ _ (eF (by omega)) (eF e))).1
  . rfl
 |_=>rfl
theorem V.jV{bs:a6}:∀(v:V),(v.bN bs).az (lt bs.length)=true
 |.c x=>by simp only[V.bN,V.az];exact C.jV x
 |.agg cs=>by simp only[V.bN,V.az,mO,c0];intro c _;exact C.jV c
 |.aY vs=>by simp only[V.bN,V.az];exact go vs
where go:∀vs,V.az.V.dF (lt bs.length) (V.bN.go bs vs)=true
 |[]=>rfl
 |v::vs=>by simp only[V.bN.go,V.az.V.dF,cc];exact⟨V.jV v,go vs⟩
theorem yT:∀{ks:a6} {k:Nat} {g:Bool} {v:V},look (nG bs env ks) k=some (g,v)->∃v0,look env k=some (g,v0)/\v=v0.bN bs
 |[],k,g,v,h=>by simp[nG,look]at h
 |x::ks,k,g,v,h=>by
  unfold nG at h;split at h
  . rename_i a b ae;unfold look at h;split at h
    . grind
    . exact yT h
  . exact yT h
theorem py:∀{r:a6} {i:Nat} {b:Nat} {x:bO},aV (fq bs J i r) b=some x->∃j c g,b=i+j/\r[j]?=some c/\aV J c=some g/\x=g.bN bs
 |[],i,b,x,h=>by simp[fq,aV]at h
 |c::r,i,b,x,h=>by
  unfold fq at h;split at h
  . rename_i g l;unfold aV at h;split at h
    . simp_all
    . obtain⟨j,a,k,h1,d,e,f⟩:=py h;exact⟨j+1,a,k,by omega,by simpa using d,e,f⟩
  . obtain⟨j,a,k,h1,d,e,f⟩:=py h;exact⟨j+1,a,k,by omega,by simpa using d,e,f⟩
theorem c3.bN{q:dE}(a:∀(i:Nat) b,bs[i]?=some b->q i=φ b){i b:Nat}(e:bs[i]?=some b){x:bO}(h:c3 φ w S b x):c3 q w S i (x.bN bs):=by
 cases x with
 |box cs=>
  obtain⟨h0,vs,E,h1,f,j⟩:=h;simp only[bO.bN,c3,a i b e];exact⟨h0,vs,E,h1,f.pZ λ_ _=>bk.bN a,j⟩
 |arr sz es=>simp only[bO.bN,c3,a i b e];exact h
 |set ks=>simp only[bO.bN,c3,a i b e];exact h
 |buf E s=>simp only[bO.bN,c3,a i b e];exact h
 |b8 E c=>
  obtain⟨h0,⟨p,v,h1,f,j⟩,t⟩:=h;simp only[bO.bN,c3,a i b e];exact⟨h0,⟨p,v,h1,f,bk.bN a j⟩,t⟩
 |cA sz es i o c=>
  obtain⟨h1,⟨vs,E,u,y,z,v,A,B⟩,D⟩:=h;simp only[bO.bN,c3,a _ b e];exact⟨h1,⟨vs,E,u,y,z,v,A,bk.bN a B⟩,D⟩
theorem Rel.tidy(R:Rel aB nt φ S env J (lt N) a w)(ks bs:a6)(bS:bs.Nodup)(L:keeps aB.k bs=true):
 ∃W,Rel aB nt W S (nG bs env ks) (fq bs J 0 bs) (lt bs.length) a w:=by
 have G:∀(i:Nat) b,bs[i]?=some b->(λi=>φ ((bs[i]?).getD 0)) i=φ b:=by intro i b h;simp[h]
 have D:∀i:Nat,i<aB.k->bs[i]?=some i:=by
  intro i Y;simp only[keeps,c0,wk,iP]at L;grind
 refine⟨λi=>φ ((bs[i]?).getD 0),⟨⟨λb x f=>?_,λb X x y f P M h0 A=>?_,R.bP.st⟩,λk g v ae ao=>?_,λk g v ae ao=>?_,λk g v ae ao=>?_,λb x f=>?_,R.size,R.defers,R.ext,λb x f h0=>?_,λb u=>?_,λb u=>?_⟩⟩
 . obtain⟨j,c,q,rfl,p,t,rfl⟩:=py f;rw[gb];exact c3.bN G p (R.bP.blk c q t)
 . obtain⟨j,c,q,rfl,p,t,rfl⟩:=py f;obtain⟨z,H,U,rfl,B,K,rfl⟩:=py P;simp only[gb,p,B,lu]at h0 A⊢;refine R.bP.inj c H q U t K ?_ h0 A;intro e;subst e;have Q:=(c7.1 p)
   have l2:=(c7.1 B)
   obtain⟨a1,b1⟩:=Q;obtain⟨a2,b2⟩:=l2;have F:=p4.1 bS;rcases BI j z with h|h|h
   . exact F j z a1 a2 h (b1.trans b2.symm)
   . subst h;exact M rfl
   . exact F z j a2 a1 h (b2.trans b1.symm)
 . obtain⟨v0,h1,rfl⟩:=yT ae;obtain⟨x,f,O⟩:=R.gI k g v0 h1 ao;exact⟨x,f,ck.bN G O⟩
 . obtain⟨v0,h1,rfl⟩:=yT ae;exact R.hJ k g v0 h1 ao
 . obtain⟨v0,h1,rfl⟩:=yT ae;exact V.jV v0
 . obtain⟨j,c,q,rfl,p,t,rfl⟩:=py f;refine⟨by simp[lt];exact(c7.1 p).1,?_⟩;cases q with
   |box cs=>simp only[bO.bN,bO.az,mO,c0];intro c _;exact C.jV c
   |arr sz es=>rfl
   |set ks=>rfl
   |buf E s=>rfl
   |b8 E c=>exact C.jV c
   |cA sz es i o c=>exact C.jV c
 . obtain⟨j,c,q,rfl,p,t,rfl⟩:=py f;simp only[gb,p,lu]at h0⊢;exact R.own c q t h0
 . simp only[D b u,lu];exact R.fix b u
 . simp only[lt,dq];exact(c7.1 (D b u)).1
theorem cu.tidy{c:dz}{Q:Exit->Env->a7->Nat->Prop}(ks bs:a6)(bS:bs.Nodup)(f:keeps kk bs=true)(h:cu P nt kk c (nG bs env ks) (fq bs J 0 bs) bs.length Q):cu P nt kk c env J N Q:=by
 intro code e aB φ S a w j R;subst j;obtain⟨o,R'⟩:=R.tidy ks bs bS f;exact h code e aB o S a w rfl R'
end
def cut(es:List (List T))(off len:Nat):List (List T):=if off=0/\len=es.length then es else(es.drop off).take len
def C.cf(b0 a:Nat)(es:List (List T)):C->C
 |.arr b sz off len=>if b=b0 then(if sz=a/\off+len<=es.length then .t (.slice (cut es off len))else .dead)else .arr b sz off len
 |.cH b sz i o=>if b=b0 then .dead else .cH b sz i o
 |c=>c
def V.cf(b0 a:Nat)(es:List (List T)):V->V
 |.c x=>.c (x.cf b0 a es)
 |.agg cs=>.agg (cs.map (C.cf b0 a es))
 |.aY vs=>.aY (go b0 a es vs)
where go (b0 a:Nat) (es:List (List T)):List V->List V
 |[]=>[]
 |v::vs=>v.cf b0 a es::go b0 a es vs
def bO.cf(b0 a:Nat)(es:List (List T)):bO->bO
 |.box cs=>.box (cs.map (C.cf b0 a es))
 |.arr sz l=>.arr sz l
 |.set ks=>.set ks
 |.buf E s=>.buf E s
 |.b8 E c=>.b8 E (c.cf b0 a es)
 |.cA sz l i o c=>.cA sz l i o (c.cf b0 a es)
def qB(b0 a:Nat)(es:List (List T)):Env->Env
 |[]=>[]
 |(k,g,v)::r=>(k,g,v.cf b0 a es)::qB b0 a es r
def mK(b0 a:Nat)(es:List (List T)):a7->a7
 |[]=>[]
 |(k,x)::r=>if k=b0 then mK b0 a es r else(k,x.cf b0 a es)::mK b0 a es r
variable{vs:List V}
section
variable {P:Program}{aB:Ctx}{nt kk:Nat}{φ:dE}{S:dT}{env:Env}{J:a7}{N:Nat}{n:Nat->Bool}{a:Act}{w:World}
theorem y1{a:Nat}:∀{env:Env} {k:Nat},look (qB b0 a es env) k=(look env k).map λx=>(x.1,x.2.cf b0 a es)
 |[],k=>rfl
 |(i,g,v)::r,k=>by
  simp only[qB,look];split
  . rfl
  . exact y1
theorem DN{b:Nat}:∀{J:a7} {k:Nat},aV (mK b0 b es J) k=if k=b0 then none else(aV J k).map (bO.cf b0 b es)
 |[],k=>by simp[mK,aV]
 |(i,x)::r,k=>by
  simp only[mK,aV];by_cases h:i=b0
  . rw[ad h,DN];grind
  . rw[al h];simp only[aV];by_cases a:i=k
    . grind
    . rw[al a,al a,DN]
def vN(S:dT)(q:Nat×Nat):dT:=λb j=>S b j\/(q.2≠0/\b=q.1)
theorem aco{len:Nat}{e:List T}(h:e∈cut es off len):e∈es:=by
 unfold cut at h;grind
theorem acp{len i:Nat}{e:List T}(a:off+len<=es.length)(h:(cut es off len)[i]?=some e):es[off+i]?=some e/\i<len:=by
 unfold cut at h;grind
theorem Zl{len:Nat}(a:off+len<=es.length):(cut es off len).length=len:=by
 unfold cut;grind
theorem bk.cf{b0 x:Nat}{es:List (List T)}(dp:c3 φ w S b0 (.arr x es)){c:C}{v:Value}(h:bk φ w S c v):bk φ w (vN S (φ b0)) (c.cf b0 x es) v:=by
 have m:gu w S w (vN S (φ b0)):=⟨λ_ _ h=>.inl h,λ_ _ _=>rfl⟩
 have u:=bk.jj h;cases c with
 |arr b sz off len=>
  simp only[C.cf];by_cases f:b=b0
  . subst f;rw[ad rfl];split
    . rename_i A;obtain⟨rfl,q⟩:=A;obtain⟨h1,H,y,J,ba⟩:=dp;obtain⟨a,rfl,z,L⟩:=bk.hb h;have ae:=Zl q;show cd w _ (.slice (cut es off len)) _;have aK:Value.slice a len ((φ b).2-off)=Value.slice a (cut es off len).length ((φ b).2-off):=by rw[ae]
      rw[aK];by_cases h0:(φ b).2=0
      . have:cut es off len=[]:=jS (by omega);rw[this];exact cd.slice [] _ _ 0 0 0 (λ_ _=>undef) (by simp) (by simp) (by simp) (by simp) (by simp) (by simp)
      . obtain⟨vs,E,aa,M,D,hs⟩:=ba h0;refine cd.slice _ _ _ sz (φ b).1 (off*sz) (λi j=>(vs.getD ((off+i)*sz+j) undef)) (by omega) (by omega) (λe he=>y e (aco he)) (λ_=>z h0) ?_ ?_
        . intro i j p K;rw[ae]at p;refine⟨.inr ⟨h0,rfl⟩,?_⟩;rw[jw aa,show off*sz+i*sz+j=(off+i)*sz+j by rw[gf]];have ay:(off+i)*sz+j<vs.length:=by
           have:=eY sz (show off+i+1<=(φ b).2 by omega);grind
          grind
        . intro i j e t he ht;obtain⟨B,p⟩:=acp q he;obtain⟨v,G,F⟩:=D _ _ _ _ B ht;simp only[List.getD,G,lu];exact cd.mono m F
    . exact u
  . rw[al f];exact bk.mono (n:=λ_=>true) m (λ_ _=>rfl) (C.mi _) h
 |cH b sz i o=>
  simp only[C.cf];split
  . exact u
  . exact h
 |_=>exact bk.mono (n:=λ_=>true) m (λ_ _=>rfl) (C.mi _) h
theorem Hx{a:Nat}:∀{vs:List V} {i:Nat},(V.cf.go b0 a es vs)[i]?=(vs[i]?).map (V.cf b0 a es)
 |[],i=>by simp[V.cf.go]
 |v::vs,0=>by simp[V.cf.go]
 |v::vs,i+1=>by simp[V.cf.go,Hx]
theorem GO{a:Nat}:∀{vs:List V},(V.cf.go b0 a es vs).length=vs.length
 |[]=>rfl
 |v::vs=>by simp[V.cf.go,GO]
theorem ck.cf{a:Nat}(dp:c3 φ w S b0 (.arr a es)){v:V}(h:ck φ w S v x):ck φ w (vN S (φ b0)) (v.cf b0 a es) x:=by
 induction h with
 |c h=>exact .c (bk.cf dp h)
 |agg h=>exact .agg (h.pZ λ_ _=>bk.cf dp)
 |aY vs xs ae h ih=>
  refine .aY _ xs (by rw[GO];exact ae) ?_;intro i v x e f;rw[Hx,bc]at e;grind
theorem C.qp{a:Nat}{c:C}(h:c.az n=true):(c.cf b0 a es).az n=true:=by
 cases c with
 |arr b sz off len=>simp only[C.cf];split;split;rfl;rfl;exact h
 |cH b sz i o=>simp only[C.cf];split;rfl;exact h
 |_=>exact h
theorem V.qp{b0 a:Nat}{es:List (List T)}:∀{v:V},v.az n=true->(v.cf b0 a es).az n=true
 |.c x,h=>by simp only[V.cf,V.az]at h⊢;exact C.qp h
 |.agg cs,h=>by simp only[V.cf,V.az,mO,c0]at h⊢;intro c e;exact C.qp (h c e)
 |.aY vs,h=>by simp only[V.cf,V.az]at h⊢;exact go vs h
where go:∀vs,V.az.V.dF n vs=true->V.az.V.dF n (V.cf.go b0 a es vs)=true
 |[],_=>rfl
 |v::vs,h=>by simp only[V.cf.go,V.az.V.dF,cc]at h⊢;exact⟨V.qp h.1,go vs h.2⟩
theorem Rel.freeze(R:Rel aB nt φ S env J n a w){O:Nat}(Q:aV J b0=some (.arr O es)):
 Rel aB nt φ (vN S (φ b0)) (qB b0 O es env) (mK b0 O es J) n a w:=by
 have dp:=R.bP.blk b0 _ Q;have m:gu w S w (vN S (φ b0)):=⟨λ_ _ h=>.inl h,λ_ _ _=>rfl⟩
 have N:∀b x,aV (mK b0 O es J) b=some x->b≠b0/\∃z,aV J b=some z/\x=z.cf b0 O es:=by
  intro b x f;rw[DN]at f;split at f
  . cases f
  . rename_i h;simp only[bc]at f;grind
 have G:∀b x,b≠b0->aV J b=some x->(φ b).2≠0->∀j,¬vN S (φ b0) (φ b).1 j:=by
  intro b x B f h0 j u;rcases u with u|⟨K,u⟩
  . exact(R.bP.blk b x f).p0 h0 j u
  . exact R.bP.inj b b0 x _ f Q B h0 K u
 refine⟨⟨λb x f=>?_,λb Z x y f ay B h0 an=>?_,λb j u=>?_⟩,λk g v ae ao=>?_,λk g v ae ao=>?_,λk g v ae ao=>?_,λb x f=>?_,R.size,R.defers,?_,λb x f h0=>?_,R.fix,R.fR⟩
 . obtain⟨B,z,q,rfl⟩:=N b x f;have A:=R.bP.blk b z q;cases z with
   |box cs=>
    obtain⟨h0,vs,E,h1,D,F⟩:=A;exact⟨h0,vs,E,h1,D.pZ λ_ _=>bk.cf dp,G b _ B q h0⟩
   |arr sz l=>
    obtain⟨h1,D,F,P,ba⟩:=A;refine⟨h1,D,F,P,λh0=>?_⟩;obtain⟨vs,E,W,X,Y,am⟩:=ba h0;exact⟨vs,E,W,X,λi j e t he ht=>let⟨v,U,M⟩:=Y i j e t he ht;⟨v,U,cd.mono m M⟩,G b _ B q h0⟩
   |set ks=>exact⟨A.1,A.2.1,G b _ B q A.1⟩
   |buf E s=>exact⟨A.1,A.2.1,λh0=>⟨(A.2.2 h0).1,G b _ B q h0⟩⟩
   |b8 E c=>
    obtain⟨h0,⟨p,v,h1,D,F⟩,P⟩:=A;exact⟨h0,⟨p,v,h1,D,bk.cf dp F⟩,G b _ B q h0⟩
   |cA sz l i o c=>
    obtain⟨⟨h1,D,F,P,ba,ap⟩,⟨vs,E,W,X,Y,v,am,aZ⟩,a1⟩:=A;exact⟨⟨h1,D,F,P,ba,ap⟩,⟨vs,E,W,X,λi j e t he ht aD=>let⟨v,U,M⟩:=Y i j e t he ht aD;⟨v,U,cd.mono m M⟩,v,am,bk.cf dp aZ⟩,G b _ B q (by omega)⟩
 . obtain⟨_,z,q,rfl⟩:=N b x f;obtain⟨_,a0,aI,rfl⟩:=N Z y ay;exact R.bP.inj b Z z a0 q aI B h0 an
 . rcases u with u|⟨K,rfl⟩
   . exact R.bP.st b j u
   . exact dp.km K
 . rw[y1,bc]at ae;obtain⟨⟨H,v0⟩,L,he⟩:=ae;cases he;obtain⟨x,f,M⟩:=R.gI k H v0 L ao;exact⟨x,f,ck.cf dp M⟩
 . rw[y1,bc]at ae;obtain⟨⟨H,v0⟩,L,he⟩:=ae;cases he;exact R.hJ k H v0 L ao
 . rw[y1,bc]at ae;obtain⟨⟨H,v0⟩,L,he⟩:=ae;cases he;exact V.qp (R.gH k H v0 L ao)
 . obtain⟨_,z,q,rfl⟩:=N b x f;refine⟨(R.dP b z q).1,?_⟩;have:=(R.dP b z q).2;cases z with
   |box cs=>simp only[bO.cf,bO.az,mO,c0]at this⊢;intro c ax;exact C.qp (this c ax)
   |arr sz l=>rfl
   |set ks=>rfl
   |buf E s=>rfl
   |b8 E c=>simp only[bO.cf,bO.az]at this⊢;exact C.qp this
   |cA sz l i o c=>simp only[bO.cf,bO.az]at this⊢;exact C.qp this
 . refine⟨R.ext.os,R.ext.tape,R.ext.output,R.ext.size,R.ext.block,R.ext.mono.trans m,λb j u=>?_⟩;rcases u with u|⟨K,rfl⟩
   . exact R.ext.rM b j u
   . rcases R.own b0 _ Q K with h|h
     . exact .inr (.inl h)
     . exact .inr (.inr h)
 . obtain⟨_,z,q,rfl⟩:=N b x f;exact R.own b z q h0
theorem cu.freeze{c:dz}{Q:Exit->Env->a7->Nat->Prop}(b0:Nat){e:Nat}(f:aV J b0=some (.arr e es))(h:cu P nt kk c (qB b0 e es env) (mK b0 e es J) N Q):cu P nt kk c env J N Q:=by
 intro code j aB φ S a w o R;exact h code j aB φ _ a w o (R.freeze f)
inductive jo where
 |tmp (t:Nat)
 |cell (t:Nat)(agg:Bool)(n:Nat)
def h3(P:Program):List ResultVar->Option (List jo)
 |[]=>some []
 |.tmp t::r=>(h3 P r).map (.tmp t::·)
 |.cell a ty::r=>(tj P ty).bind λg=>(h3 P r).map (.cell a g.1 g.2::·)
def tm(env:Env)(J:a7):jo->Option (Prop×V)
 |.tmp t=>(look env t).map λx=>(x.1=true,x.2)
 |.cell t g k=>match look env t with
  |some (a,.c (.ptr b o))=>match aV J b with
   |some (.box cs)=>(jQ g k cs o).map λv=>(a=true,v)
   |_=>none
  |_=>none
def nK(env:Env)(J:a7):List jo->Option (Prop×List V)
 |[]=>some (True,[])
 |r::a=>(tm env J r).bind λx=>(nK env J a).map λy=>(x.1/\y.1,x.2::y.2)
def l7:List V->V
 |[v]=>v
 |vs=>.aY vs
def ec(P:Program)(f:Nat)(args:List V)(J:a7)(k:Nat)(Q:V->a7->Nat->Prop):Prop:=
 ∀(φ:dE) (S:dT) (w:World) (B:Nat->Prop),qj φ w S J->(∀(b:Nat) x,aV J b=some x->b<k/\x.az (lt k)=true)->(∀(b:Nat) x,aV J b=some x->(φ b).2≠0->B (φ b).1)->
  V.az.V.dF (lt k) args=true->∀vs:List Value,a8 (ck φ w S) args vs->
  Calls P f vs.toArray w λe w'=>∃v r a bQ J' N',e= .returned v/\Q r J' N'/\ck a w' bQ r v/\r.az (lt N')=true/\qj a w' bQ J'/\(∀(b:Nat) x,aV J' b=some x->b<N'/\x.az (lt N')=true)/\Ext B S bQ w w'/\
   (∀(b:Nat) x,aV J' b=some x->(a b).2≠0->B (a b).1\/w.heap.size<=(a b).1)/\∀b,b<k->a b=φ b
theorem Ext.refl{B:Nat->Prop}:Ext B S S w w:=⟨rfl,rfl,rfl,ea _,λ_ _ _=>rfl,gu.refl _ _,λ_ _ h=>.inl h⟩
def fQ:Nat->List V->Env
 |_,[]=>[]
 |i,v::vs=>(i,true,v)::fQ (i+1) vs
theorem Cv:∀{vs:List V} {i k:Nat} {g:Bool} {v:V},look (fQ i vs) k=some (g,v)->g=true/\∃j,k=i+j/\vs[j]?=some v
 |[],i,k,g,v,h=>by simp[fQ,look]at h
 |x::vs,i,k,g,v,h=>by
  simp only[fQ,look]at h;split at h
  . simp_all
  . obtain⟨h1,j,b,a⟩:=Cv h;exact⟨h1,j+1,by omega,by simpa using a⟩
def wB(a:Act):ResultVar->Sem Value
 |.tmp t=>Pure.pure (a.tmps.getD t undef)
 |.cell b ty=>do loadVar ty (<-asAddr (a.tmps.getD b undef))
theorem Zm(fn:Func)(a:Act):results fn a.tmps=(fn.results.mapM (wB a)>>=λvs=>Pure.pure (if h:vs.size=1 then vs[0]else .tuple vs)):=by rfl
theorem WQ(R:Rel aB nt φ S env J n a w){i:ResultVar}{k:jo}(c:h3 P [i]=some [k]){p:Prop}{v:V}(h:tm env J k=some (p,v))(d:p):
 ∃x,(wB a i).run P w= .ok x w/\ck φ w S v x/\v.az n=true:=by
 cases i with
 |tmp t=>
  simp[h3]at c;subst c;simp only[tm,bc,bE]at h;obtain⟨⟨g,v0⟩,ae,rfl,rfl⟩:=h;obtain⟨x,f,e⟩:=R.gI t g v0 ae d;refine⟨x,?_,e,R.gH t g v0 ae d⟩;simp[wB,f]
 |cell r ty=>
  simp only[h3,bo,bc]at c;obtain⟨g,ao,l,ae,he⟩:=c;simp at ae;subst ae;simp at he;subst he;simp only[tm]at h;split at h
  . rename_i s b o ae;split at h
    . rename_i cs m;simp only[bc,bE]at h;obtain⟨v0,A,rfl,rfl⟩:=h;obtain⟨x,f,e⟩:=R.gI r s _ ae d;have:=e.hR;subst this;obtain⟨_,vs,E,aa,z,_⟩:=R.bP.blk _ _ m;obtain⟨y,q,h1,u⟩:=tb (n:=n) ao z (R.dP _ _ m).2 (λj _=>by rw[jw aa,gb]) A;rw[gb]at q;refine⟨y,?_,h1,u⟩;simp[wB,f,asAddr,q]
    . cases h
  . cases h
theorem Tt(R:Rel aB nt φ S env J n a w):∀{d:List ResultVar} {c:List jo} {p:Prop} {vs:List V},h3 P d=some c->nK env J c=some (p,vs)->p->
 ∃xs:List Value,(d.mapM (wB a)).run P w= .ok xs w/\a8 (ck φ w S) vs xs/\V.az.V.dF n vs=true
 |[],c,p,vs,b,h,i=>by
  simp[h3]at b;subst b;simp[nK]at h;obtain⟨_,rfl⟩:=h;exact⟨[],by simp,.nil,rfl⟩
 |j::d,c,p,vs,b,h,i=>by
  have u:∃e f,c=e::f/\h3 P [j]=some [e]/\h3 P d=some f:=by
   cases j with
   |tmp t=>
    simp only[h3,bc]at b;obtain⟨l,ae,rfl⟩:=b;exact⟨_,l,rfl,rfl,ae⟩
   |cell A ty=>
    simp only[h3,bo,bc]at b;obtain⟨g,ao,l,ae,rfl⟩:=b;exact⟨_,l,rfl,by simp[h3,ao],ae⟩
  obtain⟨e,f,rfl,h1,k⟩:=u;simp only[nK,bo,bc]at h;obtain⟨⟨q,v⟩,r,⟨D,E⟩,s,he⟩:=h;simp only[bE]at he;obtain⟨rfl,rfl⟩:=he;obtain⟨x,B,y,m⟩:=WQ R h1 r i.1;obtain⟨xs,C,z,o⟩:=Tt R k s i.2;refine⟨x::xs,?_,.cons y z,by simp[V.az.V.dF,m,o]⟩;simp_all
theorem ck.l7{xs:List Value}(h:a8 (ck φ w S) vs xs):ck φ w S (l7 vs) (if h:xs.toArray.size=1 then xs.toArray[0]else .tuple xs.toArray):=by
 cases h with
 |nil=>exact .aY [] [] rfl (by simp)
 |cons h1 a=>
  cases a with
  |nil=>simpa[Shv.l7]using h1
  |cons a c=>
   rw[dif_neg (by simp)];refine .aY _ _ (by simp[c.length]) ?_;intro i v x e f;have:=(a8.cons h1 (.cons a c)).get e;grind
theorem aaa(h:V.az.V.dF n vs=true):(l7 vs).az n=true:=by
 unfold l7;split
 . simp[V.az.V.dF]at h;exact h
 . simpa[V.az]using h
def Ef(a:List jo)(Q:V->a7->Nat->Prop):Exit->Env->a7->Nat->Prop
 |.normal,env,J,N=>∃p vs,nK env J a=some (p,vs)/\p/\Q (l7 vs) J N
 |.ret,env,J,N=>∃p vs,nK env J a=some (p,vs)/\p/\Q (l7 vs) J N
 |_,_,_,_=>False
theorem ec.Fm{fn:Func}{c:dz}{E:List jo}(X:P.funcs[f]?=some fn)(F:fn.body=some code)(W:resolve P fn.ntmps code=some c)(K:h3 P fn.results.toList=some E)
 {args:List V}(aD:args.length<=fn.ntmps){k:Nat}{Q:V->a7->Nat->Prop}(h:cu P fn.ntmps k c (fQ 0 args) J k (Ef E Q)):ec P f args J k Q:=by
 intro φ S w B ap an Z O vs L;have ae:=L.length;refine calls_of_wp X F ?_;have R:Rel ⟨w,S,B,φ,k⟩ fn.ntmps φ S (fQ 0 args) J (lt k) {tmps:=vs.toArray++Array.replicate (fn.ntmps-vs.toArray.size) undef,defers:=[]} w:=by
  refine⟨ap,λi g v u ao=>?_,λi g v u ao=>?_,λi g v u ao=>?_,λb x o=>?_,?_,rfl,Ext.refl,λb x o h0=>.inl (Z b x o h0),λ_ _=>rfl,λb F=>by simp[lt];exact F⟩
  . obtain⟨_,j,rfl,G⟩:=Cv u;obtain⟨x,o,K⟩:=L.get G;grind
  . have:=(Cv u).1;rw[this]at ao;cases ao
  . obtain⟨_,j,rfl,G⟩:=Cv u;exact nB O G
  . obtain⟨h1,t⟩:=an b x o;exact⟨by simp[lt];exact h1,t⟩
  grind
 refine wp_mono (h code W ⟨w,S,B,φ,k⟩ φ S _ w rfl R) ?_
 rintro e D w' ⟨ay,bQ,env',J',N',a,R'⟩
 have H:(∃ p vs,nK env' J' E = some (p,vs)/\p/\Q (l7 vs) J' N')->D.defers = []/\∃ v,(results fn D.tmps).run P w' = .ok v w'/\(∃ M r q A y z,Ending.returned v = .returned M/\Q r y z/\ck q w' A r M/\r.az (lt z) = true/\qj q w' A y/\(∀ (b:Nat) x,aV y b = some x->b<z/\x.az (lt z) = true)/\Ext B S A w w'/\
  (∀(b:Nat) x,aV y b=some x->(q b).2≠0->B (q b).1\/w.heap.size<=(q b).1)/\∀b,b<k->q b=φ b):=by
  rintro ⟨p,ax,h1,t,N⟩
  obtain⟨xs,aI,am,U⟩:=Tt R' K h1 t;refine⟨R'.defers,_,?_,_,l7 ax,ay,bQ,J',N',rfl,N,ck.l7 am,aaa U,R'.bP,λb x o=>?_,R'.ext,R'.own,R'.fix⟩
  . have Y:(fn.results.mapM (wB D)).run P w'= .ok xs.toArray w':=by
     rw[Array.mapM_eq_mapM_toList];simp_all
    rw[Zm];simp only[Sem.run_bind,Y,Result.andThen_ok];rfl
  . obtain⟨h1,t⟩:=R'.dP b x o;exact⟨by simpa[lt]using h1,t⟩
 cases e with
 |normal=>exact H a
 |ret=>exact H a
 |exit id=>exact a.elim
 |goto l=>exact a.elim
 |panic aB=>exact a.elim
 |outgrown=>exact a.elim
end
end
open Go
def C.bx(k:Nat):C->C
 |.ptr b o=>.ptr (k+b) o
 |.cH b sz i o=>.cH (k+b) sz i o
 |.arr b sz off len=>.arr (k+b) sz off len
 |.fx b sz off len=>.fx (k+b) sz off len
 |.mp b=>.mp (k+b)
 |.eg b=>.eg (k+b)
 |.cI b len=>.cI (k+b) len
 |.fn f caps=>.fn f (caps.map (k+·))
 |c=>c
def V.bx(k:Nat):V->V
 |.c x=>.c (x.bx k)
 |.agg cs=>.agg (cs.map (C.bx k))
 |.aY vs=>.aY (go k vs)
where go (k:Nat):List V->List V
 |[]=>[]
 |v::vs=>v.bx k::go k vs
def bO.bx(k:Nat):bO->bO
 |.box cs=>.box (cs.map (C.bx k))
 |.arr sz es=>.arr sz es
 |.set ks=>.set ks
 |.buf E s=>.buf E s
 |.b8 E c=>.b8 E (c.bx k)
 |.cA sz es i o c=>.cA sz es i o (c.bx k)
def lE(J:a7)(k:Nat):a7->a7
 |[]=>J
 |(b,x)::r=>dd (lE J k r) (k+b) (x.bx k)
variable{J:a7}{K:V->a7->Prop}{f:Nat}{Q:V->a7->Nat->Prop}
theorem zh{k:Nat}:∀{a:a7} {b:Nat},aV (lE J k a) b=match (if k<=b then aV a (b-k)else none)with|some x=>some (x.bx k)|none=>aV J b
 |[],b=>by simp[lE,aV]
 |(c,x)::r,b=>by
  simp only[lE,cX,zh,aV];grind
section
variable {P:Program}{aB:Ctx}{nt kk:Nat}{φ:dE}{S bQ:dT}{env:Env}{J:a7}{N key:Nat}{n:Nat->Bool}{a:Act}{w w':World}
theorem hz.Fp{args:List V}{r:V}(h:ec P f args [] 0 (λj _ _=>j=r))(q:V.az.V.dF (lt 0) args=true)(o:r.az (lt 0)=true)(bI:K r J):hz P f args J key K:=by
 intro aB nt φ S env n a w R aD E vs t;refine(h φ S w (λ_=>False) ⟨λb x c=>by simp[aV]at c,λb u x y c=>by simp[aV]at c,R.bP.st⟩ (λb x c=>by simp[aV]at c) (λb x c=>by simp[aV]at c) q vs t).mono ?_
 rintro e w' ⟨v,j,F,bQ,J',N',rfl,rfl,h1,z,p,A,ba,B,D⟩
 refine⟨v,j,φ,bQ,J,rfl,bI,?_,V.hl (λb h=>by simp[lt]at h) o,(R.extend ba p.st).more λ_ h=>lR h⟩;exact ck.mono (gu.refl _ _) (n:=lt 0) (λb h=>by simp[lt]at h) o h1
theorem bk.bx{j:dE}{k:Nat}{n:Nat->Bool}(e:∀b,n b=true->j (k+b)=φ b){c:C}{v:Value}(a:c.az n=true)(h:bk φ w S c v):bk j w S (c.bx k) v:=by
 cases c with
 |ptr b o=>simp only[C.az]at a;simp only[C.bx,bk,e b a];exact h
 |cH b sz i o=>simp only[C.az]at a;simp only[C.bx,bk,e b a];exact h
 |arr b sz off len=>simp only[C.az]at a;simp only[C.bx,bk,e b a];exact h
 |fx b sz off len=>simp only[C.az]at a;simp only[C.bx,bk,e b a];exact h
 |mp b=>simp only[C.az]at a;simp only[C.bx,bk,e b a];exact h
 |eg b=>simp only[C.az]at a;simp only[C.bx,bk,e b a];exact h
 |cI b len=>simp only[C.az]at a;simp only[C.bx,bk,e b a];exact h
 |fn f caps=>
  simp only[C.az,c0]at a;simp only[C.bx,bk]at h⊢;simp_all
 |_=>exact h
theorem J0{k:Nat}:∀{vs:List V} {i:Nat},(V.bx.go k vs)[i]?=(vs[i]?).map (V.bx k)
 |[],i=>by simp[V.bx.go]
 |v::vs,0=>by simp[V.bx.go]
 |v::vs,i+1=>by simp[V.bx.go,J0]
theorem Tu{k:Nat}:∀{vs:List V},(V.bx.go k vs).length=vs.length
 |[]=>rfl
 |v::vs=>by simp[V.bx.go,Tu]
theorem ck.bx{e:dE}{k:Nat}{n:Nat->Bool}(o:∀b,n b=true->e (k+b)=φ b){v:V}{x:Value}(a:v.az n=true)(h:ck φ w S v x):ck e w S (v.bx k) x:=by
 induction h with
 |c h=>exact .c (bk.bx o (by simpa[V.az]using a) h)
 | @agg cs vs h=>
  simp only[V.az,c0]at a;refine .agg ?_;have:=h.imp (R':=λc v=>bk e w S (C.bx k c) v) λc v p q=>bk.bx o (a c p) q;exact this.pZ λ_ _ h=>h
 |aY vs xs ae h ih=>
  refine .aY _ xs (by rw[Tu];exact ae) ?_;intro i v x f t;rw[J0,bc]at f;obtain⟨v0,j,rfl⟩:=f;exact ih i v0 x j t (nB (by simpa[V.az]using a) j)
theorem C.rL{m:Nat}(a:m<=16){c:C}(h:c.az (lt m)=true):(c.bx key).az (eA n key)=true:=by
 cases c<;>simp only[C.bx,C.az,lt,eA,dq,hO,cc,c0,eK]at h⊢
 . right;omega
 . right;omega
 . right;omega
 . right;omega
 . right;omega
 . right;omega
 . right;omega
 grind
theorem V.rL{m:Nat}(a:m<=16):∀{v:V},v.az (lt m)=true->(v.bx key).az (eA n key)=true
 |.c x,h=>by simp only[V.bx,V.az]at h⊢;exact C.rL a h
 |.agg cs,h=>by simp only[V.bx,V.az,mO,c0]at h⊢;intro c e;exact C.rL a (h c e)
 |.aY vs,h=>by simp only[V.bx,V.az]at h⊢;exact go vs h
where go:∀vs,V.az.V.dF (lt m) vs=true->V.az.V.dF (eA n key) (V.bx.go key vs)=true
 |[],_=>rfl
 |v::vs,h=>by simp only[V.bx.go,V.az.V.dF,cc]at h⊢;exact⟨V.rL a h.1,go vs h.2⟩
theorem hz.agh{args:List V}(h:ec P f args [] 0 Q)(G:V.az.V.dF (lt 0) args=true)
 (bI:∀r J' N',Q r J' N'->N'<=16/\K (r.bx key) (lE J key J')):hz P f args J key K:=by
 intro aB nt φ S env n a w R aD bS vs a9;refine(h φ S w (λ_=>False) ⟨λb x j=>by simp[aV]at j,λb M x y j=>by simp[aV]at j,R.bP.st⟩ (λb x j=>by simp[aV]at j) (λb x j=>by simp[aV]at j) G vs a9).mono ?_
 rintro e w' ⟨v,bn,a0,bQ,J',N',rfl,a3,h1,ax,O,U,ba,bs,bv⟩
 obtain⟨cp,bI⟩:=bI _ _ _ a3;have a1:=R.extend ba O.st;let B:dE:=λb=>if key<=b/\b<key+16 then a0 (b-key)else φ b
 have aZ:∀b,n b=true->B b=φ b:=by grind
 have D:∀b,lt N' b=true->B (key+b)=a0 b:=by
  intro b G;simp only[lt,dq]at G;grind
 have z:=a1.zd aZ;have H:∀b x,aV (lE J key J') b=some x->(∃c q,b=key+c/\aV J' c=some q/\x=q.bx key)\/aV J b=some x:=by
  intro b x j;rw[zh]at j;grind
 have Z:∀c q,aV J' c=some q->(B (key+c)).2≠0->w.heap.size<=(B (key+c)).1:=by grind
 have aI:∀b x,aV J b=some x->(B b).2≠0->(B b).1<w.heap.size:=by
  intro b x j h0;rw[aZ b (R.dP b x j).1]at h0⊢;exact(R.bP.blk b x j).km h0
 refine⟨v,bn.bx key,B,bQ,lE J key J',rfl,bI,ck.bx D ax h1,V.rL cp ax,⟨⟨λb x j=>?_,λb M x y j X a4 h0 F=>?_,O.st⟩,z.gI,z.hJ,λk g v ae ao=>V.hl (λ_ h=>lR h) (z.gH k g v ae ao),λb x j=>?_,z.size,z.defers,z.ext,λb x j h0=>?_,z.fix,λb G=>lR (z.fR b G)⟩⟩
 . rcases H b x j with⟨c,q,rfl,t,rfl⟩|j
   . have dp:=O.blk c q t;have W:=U c q t;have aK:=D c (by simp[lt];exact W.1);cases q with
     |box cs=>
      obtain⟨am,vs,E,A,u,L⟩:=dp;simp only[bO.bx,c3,aK];refine⟨am,vs,E,A,?_,L⟩;have ay:=W.2;simp only[bO.az,c0]at ay;have:=u.imp (R':=λc v=>bk B w' bQ (C.bx key c) v) λc v t a5=>bk.bx D (ay c t) a5;exact this.pZ λ_ _ h=>h
     |arr sz es=>simp only[bO.bx,c3,aK];exact dp
     |set ks=>simp only[bO.bx,c3,aK];exact dp
     |buf E s=>simp only[bO.bx,c3,aK];exact dp
     |b8 E c=>
      obtain⟨am,⟨p,v,A,u,L⟩,an⟩:=dp;simp only[bO.bx,c3,aK];exact⟨am,⟨p,v,A,u,bk.bx D (by simpa[bO.az]using W.2) L⟩,an⟩
     |cA sz es i o c=>
      obtain⟨h1,⟨vs,E,A,u,L,v,an,be⟩,bi⟩:=dp;simp only[bO.bx,c3,aK];exact⟨h1,⟨vs,E,A,u,L,v,an,bk.bx D (by simpa[bO.az]using W.2) be⟩,bi⟩
   . exact z.bP.blk b x j
 . rcases H b x j with⟨c,q,rfl,t,rfl⟩|j<;>rcases H M y X with⟨N,ap,rfl,Y,rfl⟩|X
   . have aK:=D c (by simp[lt];exact(U c q t).1);have a2:=D N (by simp[lt];exact(U N ap Y).1);rw[aK]at h0⊢;rw[a2]at F⊢;exact O.inj c N q ap t Y (by omega) h0 F
   . have:=Z c q t h0;have:=aI M y X F;omega
   . have:=Z N ap Y F;have:=aI b x j h0;omega
   . exact z.bP.inj b M x y j X a4 h0 F
 . rcases H b x j with⟨c,q,rfl,t,rfl⟩|j
   . obtain⟨A,u⟩:=U c q t;refine⟨by simp[eA];right;omega,?_⟩;cases q with
     |box cs=>
      simp only[bO.bx,bO.az,mO,c0]at u⊢;intro c t;exact C.rL cp (u c t)
     |arr sz es=>rfl
     |set ks=>rfl
     |buf E s=>rfl
     |b8 E c=>simp only[bO.bx,bO.az]at u⊢;exact C.rL cp u
     |cA sz es i o c=>simp only[bO.bx,bO.az]at u⊢;exact C.rL cp u
   . obtain⟨A,u⟩:=z.dP b x j;exact⟨lR A,bO.hl (λ_ h=>lR h) u⟩
 . rcases H b x j with⟨c,q,rfl,t,rfl⟩|j
   . exact .inr (hP R.ext.size (Z c q t h0))
   . exact z.own b x j h0
end
theorem ec.mk{P:Program}{fn:Func}{c:dz}{a:List jo}(o:P.funcs[f]?=some fn)(j:fn.body.bind (resolve P fn.ntmps)=some c)(q:h3 P fn.results.toList=some a)
 {args:List V}{nt:Nat}(p:fn.ntmps=nt)(aD:args.length<=nt){k:Nat}{Q:V->a7->Nat->Prop}(h:cu P nt k c (fQ 0 args) J k (Ef a Q)):ec P f args J k Q:=by
 subst p;obtain⟨code,h1,e⟩:=tV.1 j;exact ec.Fm o h1 e q aD h
section
open Go
def C.b9(f:Nat->Nat):C->C
 |.ptr b o=>.ptr (f b) o
 |.cH b sz i o=>.cH (f b) sz i o
 |.arr b sz off len=>.arr (f b) sz off len
 |.fx b sz off len=>.fx (f b) sz off len
 |.mp b=>.mp (f b)
 |.eg b=>.eg (f b)
 |.cI b len=>.cI (f b) len
 |.fn g caps=>.fn g (caps.map f)
 |c=>c
def V.b9(f:Nat->Nat):V->V
 |.c x=>.c (x.b9 f)
 |.agg cs=>.agg (cs.map (C.b9 f))
 |.aY vs=>.aY (go f vs)
where go (f:Nat->Nat):List V->List V
 |[]=>[]
 |v::vs=>v.b9 f::go f vs
def bO.b9(f:Nat->Nat):bO->bO
 |.box cs=>.box (cs.map (C.b9 f))
 |.arr sz es=>.arr sz es
 |.set ks=>.set ks
 |.buf E s=>.buf E s
 |.b8 E c=>.b8 E (c.b9 f)
 |.cA sz es i o c=>.cA sz es i o (c.b9 f)
def nd(J:a7):a6->a7
 |[]=>J
 |b::r=>ig (nd J r) b
theorem pz:∀{bs:a6} {b:Nat},aV (nd J bs) b=if b∈bs then none else aV J b
 |[],b=>by simp[nd]
 |c::r,b=>by
  simp only[nd,fO,pz (bs:=r)];grind
def back(bs:a6)(key:Nat)(b:Nat):Nat:=(bs[b]?).getD (key+(b-bs.length))
def hh(J:a7)(bs:a6)(f:Nat->Nat):a7->a7
 |[]=>nd J bs
 |(b,x)::r=>dd (hh J bs f r) (f b) (x.b9 f)
theorem J3{J:a7}{bs:a6}{f:Nat->Nat}:∀{d:a7} {c:Nat} {x:bO},aV (hh J bs f d) c=some x->(∃b a,c=f b/\aV d b=some a/\x=a.b9 f)\/(c ∉ bs/\aV J c=some x)
 |[],c,x,h=>by
  simp only[hh,pz]at h;grind
 |(b,y)::r,c,x,h=>by
  simp only[hh,cX]at h;split at h
  . rename_i e;cases h;exact .inl ⟨b,y,e.symm,by simp[aV],rfl⟩
  . rename_i e;rcases J3 h with⟨g,a,h1,j,i⟩|h
    . refine .inl ⟨g,a,h1,?_,i⟩;simp only[aV];grind
    grind
variable{Q:V->a7->Nat->Prop}{bs:a6}{x:aS}{o:cJ}{p:Prop}
section
variable {P:Program}{aB:Ctx}{nt kk:Nat}{φ:dE}{S bQ:dT}{env:Env}{J:a7}{N key:Nat}{n:Nat->Bool}{a:Act}{w w':World}{f:Nat->Nat}
theorem bk.b9{j:dE}{n:Nat->Bool}(e:∀b,n b=true->j (f b)=φ b){c:C}{v:Value}(a:c.az n=true)(h:bk φ w S c v):bk j w S (c.b9 f) v:=by
 cases c with
 |ptr b o=>simp only[C.az]at a;simp only[C.b9,bk,e b a];exact h
 |cH b sz i o=>simp only[C.az]at a;simp only[C.b9,bk,e b a];exact h
 |arr b sz off len=>simp only[C.az]at a;simp only[C.b9,bk,e b a];exact h
 |fx b sz off len=>simp only[C.az]at a;simp only[C.b9,bk,e b a];exact h
 |mp b=>simp only[C.az]at a;simp only[C.b9,bk,e b a];exact h
 |eg b=>simp only[C.az]at a;simp only[C.b9,bk,e b a];exact h
 |cI b len=>simp only[C.az]at a;simp only[C.b9,bk,e b a];exact h
 |fn g caps=>
  simp only[C.az,c0]at a;simp only[C.b9,bk]at h⊢;simp_all
 |_=>exact h
theorem Hc:∀{vs:List V} {i:Nat},(V.b9.go f vs)[i]?=(vs[i]?).map (V.b9 f)
 |[],i=>by simp[V.b9.go]
 |v::vs,0=>by simp[V.b9.go]
 |v::vs,i+1=>by simp[V.b9.go,Hc]
theorem GY:∀{vs:List V},(V.b9.go f vs).length=vs.length
 |[]=>rfl
 |v::vs=>by simp[V.b9.go,GY]
theorem ck.b9{e:dE}{n:Nat->Bool}(p:∀b,n b=true->e (f b)=φ b){v:V}{x:Value}(a:v.az n=true)(h:ck φ w S v x):ck e w S (v.b9 f) x:=by
 induction h with
 |c h=>exact .c (bk.b9 p (by simpa[V.az]using a) h)
 | @agg cs vs h=>
  simp only[V.az,c0]at a;refine .agg ?_;have:=h.imp (R':=λc v=>bk e w S (C.b9 f c) v) λc v q t=>bk.b9 p (a c q) t;exact this.pZ λ_ _ h=>h
 |aY vs xs ae h ih=>
  refine .aY _ xs (by rw[GY];exact ae) ?_;intro i v x j u;rw[Hc,bc]at j;obtain⟨v0,o,rfl⟩:=j;exact ih i v0 x o u (nB (by simpa[V.az]using a) o)
theorem C.rA{n m:Nat->Bool}(a:∀b,m b=true->n (f b)=true){c:C}(h:c.az m=true):(c.b9 f).az n=true:=by
 cases c<;>simp only[C.b9,C.az,c0,eK]at h⊢
 . exact a _ h
 . exact a _ h
 . exact a _ h
 . exact a _ h
 . exact a _ h
 . exact a _ h
 . exact a _ h
 grind
theorem V.rA{n m:Nat->Bool}(a:∀b,m b=true->n (f b)=true):∀{v:V},v.az m=true->(v.b9 f).az n=true
 |.c x,h=>by simp only[V.b9,V.az]at h⊢;exact C.rA a h
 |.agg cs,h=>by simp only[V.b9,V.az,mO,c0]at h⊢;intro c e;exact C.rA a (h c e)
 |.aY vs,h=>by simp only[V.b9,V.az]at h⊢;exact go vs h
where go:∀vs,V.az.V.dF m vs=true->V.az.V.dF n (V.b9.go f vs)=true
 |[],_=>rfl
 |v::vs,h=>by simp only[V.b9.go,V.az.V.dF,cc]at h⊢;exact⟨V.rA a h.1,go vs h.2⟩
theorem Rel.afL{B:Nat->Prop}(R:Rel aB nt φ S env J n a w)(e:Ext B S bQ w w')(Q:∀b j,bQ b j->b<w'.heap.size)(P:∀b x,aV J b=some x->(φ b).2≠0->¬B (φ b).1)(dp:∀b,B b->aB.B b\/aB.jC.heap.size<=b):Rel aB nt φ bQ env J n a w':=by
 have aa:∀b x,aV J b=some x->(φ b).2≠0->w'.heap[(φ b).1]?=w.heap[(φ b).1]?:=λb x f h0=>e.block _ ((R.bP.blk b x f).km h0) (P b x f h0);have A:∀b x,aV J b=some x->(φ b).2≠0->∀j,¬bQ (φ b).1 j:=by
  intro b x f h0 j G;have u:=R.bP.blk b x f;rcases e.rM _ _ G with h|h|h
  . exact u.p0 h0 j h
  . grind
  grind
 refine⟨⟨λb x f=>?_,R.bP.inj,Q⟩,λk g v ae ao=>?_,R.hJ,R.gH,R.dP,R.size,R.defers,?_,R.own,R.fix,R.fR⟩
 . have u:=R.bP.blk b x f;cases x with
   |box cs=>
    obtain⟨h0,vs,E,h1,q,y⟩:=u;refine⟨h0,vs,E,(aa _ _ f h0).trans h1,q.imp λc v W z=>bk.mono (n:=λ_=>true) e.mono (λ_ _=>rfl) (C.mi _) z,A b _ f h0⟩
   |arr sz es=>
    obtain⟨h1,q,y,D,ba⟩:=u;refine⟨h1,q,y,D,λh0=>?_⟩;obtain⟨vs,E,K,L,M,N⟩:=ba h0;exact⟨vs,E,(aa _ _ f h0).trans K,L,λi j F t he ht=>let⟨v,H,z⟩:=M i j F t he ht;⟨v,H,cd.mono e.mono z⟩,A b _ f h0⟩
   |set ks=>
    obtain⟨h0,⟨es,c,h1,q⟩,y⟩:=u;exact⟨h0,⟨es,c,(aa _ _ f h0).trans h1,q⟩,A b _ f h0⟩
   |buf E s=>
    obtain⟨h1,q,y⟩:=u;refine⟨h1,q,λh0=>?_⟩;grind
   |b8 E c=>
    obtain⟨h0,⟨p,v,h1,q,y⟩,D⟩:=u;exact⟨h0,⟨p,v,(aa _ _ f h0).trans h1,q,bk.mono (n:=λ_=>true) e.mono (λ_ _=>rfl) (C.mi _) y⟩,A b _ f h0⟩
   |cA sz es i o c=>
    obtain⟨⟨h1,q,y,D,ba,O⟩,⟨vs,E,K,L,M,v,N,U⟩,X⟩:=u;exact⟨⟨h1,q,y,D,ba,O⟩,⟨vs,E,(aa _ _ f (by omega)).trans K,L,λi j F t he ht aD=>let⟨v,H,z⟩:=M i j F t he ht aD;⟨v,H,cd.mono e.mono z⟩,v,N,bk.mono (n:=λ_=>true) e.mono (λ_ _=>rfl) (C.mi _) U⟩,A b _ f (by omega)⟩
 . obtain⟨x,f,z⟩:=R.gI k g v ae ao;exact⟨x,f,ck.mono e.mono (λ_ _=>rfl) (R.gH k g v ae ao) z⟩
 . refine⟨e.os.trans R.ext.os,e.tape.trans R.ext.tape,e.output.trans R.ext.output,hP R.ext.size e.size,λb ay u=>?_,R.ext.mono.trans e.mono,λb j G=>?_⟩
   . refine(e.block b (lY ay R.ext.size) λh=>?_).trans (R.ext.block b ay u);grind
   . rcases e.rM _ _ G with h|h|h
     . exact R.ext.rM b j h
     . grind
     . exact .inr (.inr (hP R.ext.size h))
theorem hz.raw {fn:Nat}{args:List V}{bs:a6}{Q:V->a7->Nat->Prop}(bS:bs.Nodup)(ay:∀b,b∈bs->b<key)(h:ec P fn (args.map (V.bN bs)) (fq bs J 0 bs) bs.length Q){K:V->a7->Prop}
 (bI:∀r J' N',Q r J' N'->N'<=bs.length+16/\K (r.b9 (back bs key)) (hh J bs (back bs key) J')):(∀b,b∈bs->n b=true)->∀aB nt φ S env a w,Rel aB nt φ S env J n a w->(∀b,key<=b->b<key+16->n b=false)->V.az.V.dF n args=true->∀vs:List Value,a8 (ck φ w S) args vs->
 Calls P fn vs.toArray w λe w'=>∃v r a0 bQ J',e= .returned v/\K r J'/\ck a0 w' bQ r v/\r.az (eA n key)=true/\Rel aB nt a0 bQ env J' (eA n key) a w':=by
 intro z aB nt φ S env a w R aD g3 vs gl;let a3:dE:=λi=>φ ((bs[i]?).getD 0);have ax:∀(i:Nat) b,bs[i]?=some b->a3 i=φ b:=by intro i b h;simp[a3,h]
 let B:Nat->Prop:=λds=>∃b x,b∈bs/\aV J b=some x/\(φ b).2≠0/\ds=(φ b).1;have an:∀b x,aV (fq bs J 0 bs) b=some x->∃c q,bs[b]?=some c/\aV J c=some q/\x=q.bN bs:=by
  intro b x f;obtain⟨j,c,q,rfl,A,F,rfl⟩:=py f;grind
 have ge:qj a3 w S (fq bs J 0 bs):=by
  refine⟨λb x f=>?_,λb H x y f M a9 h0 L=>?_,R.bP.st⟩
  . obtain⟨c,q,A,F,rfl⟩:=an b x f;exact c3.bN ax A (R.bP.blk c q F)
  . obtain⟨c,q,A,F,rfl⟩:=an b x f;obtain⟨U,aZ,bv,fd,rfl⟩:=an H y M;rw[ax b c A]at h0⊢;rw[ax H U bv]at L⊢;refine R.bP.inj c U q aZ F fd ?_ h0 L;intro e;subst e;obtain⟨a1,b1⟩:=c7.1 A;obtain⟨a2,b2⟩:=c7.1 bv;have g5:=p4.1 bS;grind
 have fo:a8 (ck a3 w S) (args.map (V.bN bs)) vs:=gl.pZ λ_ _=>ck.bN ax;have fs:V.az.V.dF (lt bs.length) (args.map (V.bN bs))=true:=by
  refine tJ λi v ci=>?_;rw[n',bc]at ci;obtain⟨v0,_,rfl⟩:=ci;exact V.jV v0
 refine(h a3 S w B ge (λb x f=>?_) (λb x f h0=>?_) fs vs fo).mono ?_
 . obtain⟨c,q,A,F,rfl⟩:=an b x f;refine⟨(c7.1 A).1,?_⟩;cases q with
   |box cs=>simp only[bO.bN,bO.az,mO,c0];intro c _;exact C.jV c
   |arr sz es=>rfl
   |set ks=>rfl
   |buf E s=>rfl
   |b8 E c=>exact C.jV c
   |cA sz es i o c=>exact C.jV c
 . obtain⟨c,q,A,F,rfl⟩:=an b x f;rw[ax b c A]at h0⊢;exact⟨c,q,eJ A,F,h0,rfl⟩
 rintro e w' ⟨v,g0,a0,bQ,J',N',rfl,ff,h1,A,F,W,ba,g1,g2⟩
 obtain⟨cp,bI⟩:=bI _ _ _ ff;have b0:∀b,B b->aB.B b\/aB.jC.heap.size<=b:=by
  rintro ds ⟨b,x,_,f,h0,rfl⟩
  exact R.own b x f h0
 have dt:Rel aB nt φ S env (nd J bs) n a w:=by
  have ap:∀b x,aV (nd J bs) b=some x->b ∉ bs/\aV J b=some x:=by
   intro b x f;rw[pz]at f;grind
  exact⟨⟨λb x f=>R.bP.blk b x (ap b x f).2,λb H x y f M=>R.bP.inj b H x y (ap b x f).2 (ap H y M).2,R.bP.st⟩,R.gI,R.hJ,R.gH,λb x f=>R.dP b x (ap b x f).2,R.size,R.defers,R.ext,λb x f=>R.own b x (ap b x f).2,R.fix,R.fR⟩
 have gc:∀b x,b ∉ bs->aV J b=some x->(φ b).2≠0->¬B (φ b).1:=by
  rintro b x z f h0 ⟨c,y,t,M,L,he⟩
  exact R.bP.inj b c x y f M (λe=>z (e▸t)) h0 L he
 have eq:=dt.afL ba F.st (λb x f h0=>by
  rw[pz]at f
  grind) b0
 let N:dE:=λb=>if key<=b/\b<key+16 then a0 (bs.length+(b-key))else φ b
 have c':∀b,n b=true->N b=φ b:=by grind
 have O:∀b,lt N' b=true->N (back bs key b)=a0 b:=by
  intro b X;simp only[lt,dq]at X;unfold back;grind
 have am:∀b,lt N' b=true->eA n key (back bs key b)=true:=by
  intro b X;simp only[lt,dq]at X;unfold back;cases ao:bs[b]? with
  |some c=>simp only[lu];exact lR (z c (eJ ao))
  |none=>
   have g4:=tU.1 ao;simp only[Option.getD_none,eA,hO,cc,dq];right;omega
 have D:=eq.zd c';have Z:∀b x,aV (hh J bs (back bs key) J') b=some x->(∃c q,b=back bs key c/\aV J' c=some q/\x=q.b9 (back bs key))\/(b ∉ bs/\aV J b=some x):=λb x f=>J3 f;have Y:∀b x,b ∉ bs->aV J b=some x->aV (nd J bs) b=some x:=by intro b x z f;rw[pz,al z];exact f
 have be:∀c q,aV J' c=some q->(N (back bs key c)).2≠0->B (N (back bs key c)).1\/w.heap.size<=(N (back bs key c)).1:=by
  intro c q t h0;rw[O c (by simp[lt];exact(W c q t).1)]at h0⊢;grind
 have ce:∀b x,b ∉ bs->aV J b=some x->(N b).2≠0->(N b).1<w.heap.size/\¬B (N b).1:=by
  intro b x z f h0;rw[c' b (R.dP b x f).1]at h0⊢;exact⟨(R.bP.blk b x f).km h0,gc b x z f h0⟩
 refine⟨v,g0.b9 (back bs key),N,bQ,hh J bs (back bs key) J',rfl,bI,ck.b9 O A h1,V.rA am A,⟨⟨λb x f=>?_,λb H x y f M a9 h0 L=>?_,F.st⟩,D.gI,D.hJ,λk g v ae ao=>V.hl (λ_ h=>lR h) (D.gH k g v ae ao),λb x f=>?_,D.size,D.defers,D.ext,λb x f h0=>?_,D.fix,λb X=>lR (D.fR b X)⟩⟩
 . rcases Z b x f with⟨c,q,rfl,t,rfl⟩|⟨z,f⟩
   . have dp:=F.blk c q t;have a4:=W c q t;have aK:=O c (by simp[lt];exact a4.1);cases q with
     |box cs=>
      obtain⟨bi,vs,E,G,u,aI⟩:=dp;simp only[bO.b9,c3,aK];refine⟨bi,vs,E,G,?_,aI⟩;have b3:=a4.2;simp only[bO.az,c0]at b3;have:=u.imp (R':=λc v=>bk N w' bQ (C.b9 (back bs key) c) v) λc v t gd=>bk.b9 O (b3 c t) gd;exact this.pZ λ_ _ h=>h
     |arr sz es=>simp only[bO.b9,c3,aK];exact dp
     |set ks=>simp only[bO.b9,c3,aK];exact dp
     |buf E s=>simp only[bO.b9,c3,aK];exact dp
     |b8 E c=>
      obtain⟨bi,⟨p,v,G,u,aI⟩,bn⟩:=dp;simp only[bO.b9,c3,aK];exact⟨bi,⟨p,v,G,u,bk.b9 O (by simpa[bO.az]using a4.2) aI⟩,bn⟩
     |cA sz es i o c=>
      obtain⟨h1,⟨vs,E,G,u,aI,v,bn,gs⟩,gt⟩:=dp;simp only[bO.b9,c3,aK];exact⟨h1,⟨vs,E,G,u,aI,v,bn,bk.b9 O (by simpa[bO.az]using a4.2) gs⟩,gt⟩
   . exact D.bP.blk b x (Y b x z f)
 . rcases Z b x f with⟨c,q,rfl,t,rfl⟩|⟨z,f⟩<;>rcases Z H y M with⟨U,aZ,rfl,a5,rfl⟩|⟨b4,M⟩
   . have aK:=O c (by simp[lt];exact(W c q t).1);have ex:=O U (by simp[lt];exact(W U aZ a5).1);rw[aK]at h0⊢;rw[ex]at L⊢;exact F.inj c U q aZ t a5 (by rintro rfl;exact a9 rfl) h0 L
   . obtain⟨G,u⟩:=ce H y b4 M L;rcases be c q t h0 with h|h
     . intro e;rw[e]at h;exact u h
     . omega
   . obtain⟨G,u⟩:=ce b x z f h0;rcases be U aZ a5 L with h|h
     . intro e;rw[<-e]at h;exact u h
     . omega
   . exact D.bP.inj b H x y (Y b x z f) (Y H y b4 M) a9 h0 L
 . rcases Z b x f with⟨c,q,rfl,t,rfl⟩|⟨z,f⟩
   . obtain⟨G,u⟩:=W c q t;refine⟨am c (by simp[lt];exact G),?_⟩;cases q with
     |box cs=>
      simp only[bO.b9,bO.az,mO,c0]at u⊢;intro c t;exact C.rA am (u c t)
     |arr sz es=>rfl
     |set ks=>rfl
     |buf E s=>rfl
     |b8 E c=>simp only[bO.b9,bO.az]at u⊢;exact C.rA am u
     |cA sz es i o c=>simp only[bO.b9,bO.az]at u⊢;exact C.rA am u
   . obtain⟨G,u⟩:=D.dP b x (Y b x z f);exact⟨lR G,bO.hl (λ_ h=>lR h) u⟩
 . rcases Z b x f with⟨c,q,rfl,t,rfl⟩|⟨z,f⟩
   . rcases be c q t h0 with h|h
     . exact b0 _ h
     . exact .inr (hP R.ext.size h)
   . exact D.own b x (Y b x z f) h0
theorem hz.agi{fn:Nat}{args:List V}(bS:bs.Nodup)(ay:∀b,b∈bs->b<key)(e:∀b,b∈bs->∃x,aV J b=some x)(h:ec P fn (args.map (V.bN bs)) (fq bs J 0 bs) bs.length Q)
 (bI:∀r J' N',Q r J' N'->N'<=bs.length+16/\K (r.b9 (back bs key)) (hh J bs (back bs key) J')):hz P fn args J key K:=by
 intro aB nt φ S env n a w R aD c vs f;exact hz.raw (n:=n) bS ay h bI (λb c=>let⟨x,j⟩:=e b c;(R.dP b x j).1) aB nt φ S env a w R aD c vs f
theorem SI:∀{l:a6} {i:Nat} {J J':a7},(∀b,b∈l->aV J' b=aV J b)->fq bs J' i l=fq bs J i l
 |[],i,J,J',h=>rfl
 |b::r,i,J,J',h=>by
  simp only[fq];rw[h b (by simp),SI λc a=>h c (by simp[a])]
theorem SJ{f:Nat->Nat}:∀{a:a7} {J J':a7} {c:Nat},(aV (nd J' bs) c=aV (nd J bs) c)->aV (hh J' bs f a) c=aV (hh J bs f a) c
 |[],J,J',c,h=>h
 |(b,x)::r,J,J',c,h=>by
  simp only[hh,cX];split
  . rfl
  . exact SJ h
theorem FN{key:Nat}:∀{f:a7} {J:a7} {c:Nat},f.all (λx=>decide (x.1<bs.length+16))=true->c ∉ bs->¬(key<=c/\c<key+16)->aV (hh J bs (back bs key) f) c=aV J c
 |[],J,c,d,a,g=>by simp only[hh,pz,al a]
 |(b,x)::r,J,c,d,a,g=>by
  simp only[oe,cc,dq]at d;simp only[hh,cX];rw[al ?_]
  . exact FN d.2 a g
  . intro e;unfold back at e;grind
end
variable {xb:a6}
section
variable {P:Program}{aB:Ctx}{nt kk:Nat}{φ:dE}{S:dT}{env env':Env}{J J' J1:a7}{N key:Nat}{n:Nat->Bool}{a:Act}{w:World}
theorem du(h:∀t,t∈x.tmps->look env' t=look env t):x.get env'=x.get env:=by
 cases x with
 |const v=>rfl
 |tmp t=>simp only[aS.get];rw[h t (by simp[aS.tmps])]
theorem zi{xs:List aS}(h:∀t,t∈xs.flatMap aS.tmps->look env' t=look env t):hp env' xs=hp env xs:=by
 induction xs with
 |nil=>rfl
 |cons x xs ih=>
  simp only[hp];rw[du (λt ht=>h t (by simp[ht])),ih (λt ht=>h t (by simp only[e7,ga];exact .inr ht))]
theorem u9{x:Option aS}(h:∀t,t∈tQ x->look env' t=look env t):jP env' x=jP env x:=by
 cases x with
 |none=>rfl
 |some x=>simp only[jP];rw[du h]
theorem SK:∀{ps:List (Nat×Nat×aS)} {cs:List C},(∀t,t∈(ps.flatMap λp=>p.2.2.tmps)->look env' t=look env t)->lj env' cs ps=lj env cs ps
 |[],cs,h=>rfl
 |(o,k,x)::r,cs,h=>by
  simp only[lj];rw[du (λt ht=>h t (by simp[ht]))]
  congr 1;funext a;congr 1;funext c
  split
  . rw[SK (λt ht=>h t (by simp only[e7,ga];exact .inr ht))]
  . rfl
theorem GZ{sz:Nat}:∀{ps:List (Nat×aS)} {es:List (List T)},(∀t,t∈(ps.flatMap λp=>p.2.tmps)->look env' t=look env t)->jN env' sz es ps=jN env sz es ps
 |[],cs,h=>rfl
 |(i,x)::r,es,h=>by
  simp only[jN];rw[du (λt ht=>h t (by simp[ht]))]
  congr 1;funext a;congr 1;funext c;congr 1;funext ts
  split
  . rw[GZ (λt ht=>h t (by simp only[e7,ga];exact .inr ht))]
  . rfl
theorem aab(h:∀t,t∈o.reads->look env' t=look env t):aR o env' J key=aR o env J key:=by
 cases o<;>simp only[cJ.reads,ga]at h
 case mov x=>simp only[aR];rw[du h]
 case pick c x y=>simp only[aR];rw[du λt ht=>h t (.inl (.inl ht)),du λt ht=>h t (.inl (.inr ht)),du λt ht=>h t (.inr ht)]
 case alloc=>rfl
 case box x=>simp only[aR];rw[du h]
 case allocA=>rfl
 case b2s x=>simp only[aR];rw[du h]
 case allocS=>rfl
 case mkset=>rfl
 case bsliceT e sz len z ps=>simp only[aR];congr 1;funext a;rw[GZ h]
 case lkset x y=>simp only[aR];rw[du λt ht=>h t (.inl ht),du λt ht=>h t (.inr ht)]
 case upset x y=>simp only[aR];rw[du λt ht=>h t (.inl ht),du λt ht=>h t (.inr ht)]
 case appendB e k x y=>simp only[aR];rw[du λt ht=>h t (.inl ht),du λt ht=>h t (.inr ht)]
 case sdata x=>simp only[aR];rw[du h]
 case ustr e x y=>simp only[aR];rw[du λt ht=>h t (.inl ht),du λt ht=>h t (.inr ht)]
 case idxP k x y=>simp only[aR];rw[du λt ht=>h t (.inl ht),du λt ht=>h t (.inr ht)]
 case slcP k x l i=>simp only[aR];rw[du λt ht=>h t (.inl (.inl ht)),u9 λt ht=>h t (.inl (.inr ht)),u9 λt ht=>h t (.inr ht)]
 case build z ps=>simp only[aR];rw[SK h]
 case bslice sz len z ps=>simp only[aR];congr 1;funext a;rw[GZ h]
 case load g k x=>simp only[aR];rw[du h]
 case store k x v=>simp only[aR];rw[du λt ht=>h t (.inl ht),du λt ht=>h t (.inr ht)]
 case nilCheck x=>simp only[aR];rw[du h]
 case bin op x y=>simp only[aR];rw[du λt ht=>h t (.inl ht),du λt ht=>h t (.inr ht)]
 case eqAgg op ks x y=>simp only[aR];rw[du λt ht=>h t (.inl ht),du λt ht=>h t (.inr ht)]
 case eqBool op x y=>simp only[aR];rw[du λt ht=>h t (.inl ht),du λt ht=>h t (.inr ht)]
 case eqNil=>rfl
 case not x=>simp only[aR];rw[du h]
 case conv k x=>simp only[aR];rw[du h]
 case i2s x=>simp only[aR];rw[du h]
 case s2s x=>simp only[aR];rw[du h]
 case fldA k x=>simp only[aR];rw[du h]
 case fld g k m x=>simp only[aR];rw[du h]
 case idxA op x y=>simp only[aR];rw[du λt ht=>h t (.inl ht),du λt ht=>h t (.inr ht)]
 case idxS x y=>simp only[aR];rw[du λt ht=>h t (.inl ht),du λt ht=>h t (.inr ht)]
 case slcS x l i=>simp only[aR];rw[du λt ht=>h t (.inl (.inl ht)),u9 λt ht=>h t (.inl (.inr ht)),u9 λt ht=>h t (.inr ht)]
 case slc k x l i=>simp only[aR];rw[du λt ht=>h t (.inl (.inl ht)),u9 λt ht=>h t (.inl (.inr ht)),u9 λt ht=>h t (.inr ht)]
 case slc0 x=>simp only[aR];rw[du h]
 case mkfn f xs=>simp only[aR];rw[zi h]
 case ext x i=>simp only[aR];rw[du h]
 case len s x=>simp only[aR];rw[du h]
 case append sz by' x y=>simp only[aR];rw[du λt ht=>h t (.inl ht),du λt ht=>h t (.inr ht)]
 case max2 x y=>simp only[aR];rw[du λt ht=>h t (.inl ht),du λt ht=>h t (.inr ht)]
 case min2 x y=>simp only[aR];rw[du λt ht=>h t (.inl ht),du λt ht=>h t (.inr ht)]
 case call=>rfl
 rfl
def dZ(env:Env)(x:aS):a6:=
 match x.get env with
 |some (_,.c (.ptr b _))=>[b]
 |some (_,.c (.cH b _ _ _))=>[b]
 |some (_,.c (.arr b _ _ _))=>[b]
 |some (_,.c (.fx b _ _ _))=>[b]
 |some (_,.c (.mp b))=>[b]
 |some (_,.c (.eg b))=>[b]
 |some (_,.c (.cI b _))=>[b]
 |_=>[]
def C.fM:C->a6
 |.ptr b _|.cH b _ _ _|.arr b _ _ _|.fx b _ _ _|.mp b|.eg b|.cI b _=>[b]
 |.fn _ caps=>caps
 |_=>[]
def V.fM:V->a6
 |.c x=>x.fM
 |.agg cs=>cs.flatMap C.fM
 |.aY _=>[]
def k1(env:Env)(args:List aS):a6:=
 args.flatMap λx=>match x.get env with
  |some (_,v)=>v.fM
  |none=>[]
def eh(xb:a6)(o:cJ)(env:Env)(key:Nat):a6:=
 match o with
 |.alloc _|.allocA _|.box _|.bslice .. |.mkset=>[key]
 |.allocS .. =>[key,key+1]
 |.lkset x _=>dZ env x
 |.upset x _=>dZ env x
 |.appendB _ _ x _=>key::dZ env x
 |.ustr _ x _=>dZ env x
 |.call _ args=>(List.range 16).map (key+·)++(k1 env args++xb)
 |.load _ _ x=>dZ env x
 |.b2s x=>dZ env x
 |.store _ x _=>dZ env x
 |.append _ _ x y=>key::(dZ env x++dZ env y)
 |_=>[]
def cF(xb:a6)(o:cJ)(env:Env)(key b:Nat):Bool:=
 match o with
 |.alloc _|.allocA _|.box _|.bslice .. |.mkset=>b==key
 |.allocS .. =>b==key||b==key+1
 |.upset x _=>(dZ env x).contains b
 |.appendB _ _ x _=>b==key||(dZ env x).contains b
 |.ustr _ x _=>(dZ env x).contains b
 |.store _ x _=>(dZ env x).contains b
 |.append _ _ x _=>b==key||(dZ env x).contains b
 |.call _ args=>(decide (key<=b)&&decide (b<key+16))||(k1 env args++xb).contains b
 |_=>false
theorem WR(aD:o.neutral=true)(ht:o.ij=false){p v J1}(a:aR o env J key=some (p,v,J1)):aR o env J' key=some (p,v,J'):=by
 cases o<;>simp only[cJ.neutral,cJ.ij,reduceCtorEq,bK]at aD ht<;>simp only[aR,bo,bc,bE]at a⊢
 all_goals
  (try (obtain⟨a1,h1,a⟩:=a;refine⟨a1,h1,?_⟩))
  (try (obtain⟨a2,b,a⟩:=a;refine⟨a2,b,?_⟩))
  (try (obtain⟨a3,c,a⟩:=a;refine⟨a3,c,?_⟩))
  (try dsimp only at a⊢)
  (try split at a)
  (try (simp_all;done))
 all_goals first
  |(cases a;rfl)
  |(cases a;done)
  |(simp only[bc,bE]at a⊢;obtain⟨x,h1,b,c,_⟩:=a;exact⟨x,h1,b,c,rfl⟩)
  |(simp only[bc]at a⊢;obtain⟨x,h1,b⟩:=a;simp only[bE]at b⊢;exact⟨x,h1,b.1,b.2.1,trivial⟩)
  |(simp only[dC,bG,bE]at a⊢;exact⟨a.1,a.2.1,a.2.2.1,trivial⟩)
theorem K3{b:Nat}(h:x.get env=some (p,.c (.mp b))):dZ env x=[b]:=by simp[dZ,h]
theorem Zn{b:Nat}(h:x.get env=some (p,.c (.eg b))):dZ env x=[b]:=by simp[dZ,h]
theorem Zo{b l:Nat}(h:x.get env=some (p,.c (.cI b l))):dZ env x=[b]:=by simp[dZ,h]
theorem J4{b o:Nat}(h:x.get env=some (p,.c (.ptr b o))):dZ env x=[b]:=by simp[dZ,h]
theorem I3{b sz i o:Nat}(h:x.get env=some (p,.c (.cH b sz i o))):dZ env x=[b]:=by simp[dZ,h]
theorem Zv{b sz i o:Nat}(h:x.get env=some (p,.c (.fx b sz i o))):dZ env x=[b]:=by simp[dZ,h]
theorem Cw{b sz i o:Nat}(h:x.get env=some (p,.c (.arr b sz i o))):dZ env x=[b]:=by simp[dZ,h]
theorem Zp{p v}(a:aR o env J key=some (p,v,J1))(ht:∀b,b∈eh xb o env key->aV J' b=aV J b):
 (∃bn,aR o env J' key=some (p,v,bn)/\∀b,aV bn b=if cF xb o env key b then aV J1 b else aV J' b)/\∀b,cF xb o env key b=false->aV J1 b=aV J b:=by
 by_cases K:o.neutral=true/\o.ij=false
 . have Y:∀b,cF xb o env key b=false:=by intro b;cases o<;>simp only[cJ.neutral,cJ.ij,reduceCtorEq,bK,false_and,kj,and_self]at K<;>rfl
   have:=xL K.1 a;subst this;exact⟨⟨J',WR K.1 K.2 a,λb=>by rw[Y b];rfl⟩,λb _=>rfl⟩
 . cases o<;>simp only[cJ.neutral,cJ.ij,reduceCtorEq,bK,false_and,kj,and_self,not_true,not_false_eq_true]at K
   case alloc cs=>
    simp only[aR,bG,bE]at a⊢;obtain⟨rfl,rfl,rfl⟩:=a;refine⟨⟨_,⟨rfl,rfl,rfl⟩,λb=>?_⟩,λb f=>?_⟩
    . simp only[cX,cF,iP];by_cases h:b=key
      . subst h;simp
      . rw[al (dL h),al h]
    . simp only[cF,lq]at f;rw[cX,al (dL f)]
   case allocA cs=>
    simp only[aR,bc,bE]at a⊢;obtain⟨ts,X,rfl,rfl,rfl⟩:=a;refine⟨⟨_,⟨ts,X,rfl,rfl,rfl⟩,λb=>?_⟩,λb f=>?_⟩
    . simp only[cX,cF,iP];by_cases h:b=key
      . subst h;simp
      . rw[al (dL h),al h]
    . simp only[cF,lq]at f;rw[cX,al (dL f)]
   case b2s x=>
    simp only[aR,bo,bc,bE]at a⊢;obtain⟨⟨u,v0⟩,h1,⟨q,s⟩,j,rfl,rfl,rfl⟩:=a;refine⟨⟨J',⟨(u,v0),h1,(q,s),?_,rfl,rfl,rfl⟩,λb=>rfl⟩,λb _=>rfl⟩;dsimp only at j⊢;unfold nc at j⊢;split at j
    . exact j
    . exact j
    . rename_i b off len;rw[ht b (by simp[eh,Cw h1])];exact j
    . rename_i b off len;rw[ht b (by simp[eh,Zv h1])];exact j
    . cases j
   case box x=>
    simp only[aR,bo,bc,bE]at a⊢;obtain⟨O,h1,cs,j,rfl,rfl,rfl⟩:=a;refine⟨⟨_,⟨O,h1,cs,j,rfl,rfl,rfl⟩,λb=>?_⟩,λb f=>?_⟩
    . simp only[cX,cF,iP];by_cases h:b=key
      . subst h;simp
      . rw[al (dL h),al h]
    . simp only[cF,lq]at f;rw[cX,al (dL f)]
   case bslice sz len z ps=>
    simp only[aR,bo,bc,bE]at a⊢;obtain⟨O,h1,cs,j,rfl,rfl,rfl⟩:=a;refine⟨⟨_,⟨O,h1,cs,j,rfl,rfl,rfl⟩,λb=>?_⟩,λb f=>?_⟩
    . simp only[cX,cF,iP];by_cases h:b=key
      . subst h;simp
      . rw[al (dL h),al h]
    . simp only[cF,lq]at f;rw[cX,al (dL f)]
   case load g k x=>
    have:=xL rfl a;subst this;refine⟨⟨J',?_,λb=>rfl⟩,λb _=>rfl⟩;simp only[aR,bo]at a⊢;obtain⟨⟨u,v0⟩,h1,a⟩:=a;refine⟨(u,v0),h1,?_⟩;dsimp only at a⊢;split at a
    . rename_i b o;rw[ht b (by simp[eh,J4 h1])];split at a
      . rename_i cs aa;simp only[bc]at a⊢;obtain⟨x,j,l⟩:=a;simp only[bE]at l⊢;exact⟨x,j,l.1,l.2.1,trivial⟩
      . rename_i E c n;simp only[dC,bG,bE]at a⊢;exact⟨a.1,a.2.1,a.2.2.1,trivial⟩
      . cases a
    . rename_i b sz i o;rw[ht b (by simp[eh,I3 h1])];split at a
      . simp only[bc]at a⊢;obtain⟨x,j,l⟩:=a;simp only[bE]at l⊢;exact⟨x,j,l.1,l.2.1,trivial⟩
      . split at a
        . cases a
        . rename_i ao;rw[al ao];split at a
          . rename_i D;rw[ad D];simp only[bG,bE]at a⊢;exact⟨a.1,a.2.1,trivial⟩
          . rename_i D;rw[al D];simp only[bc]at a⊢;obtain⟨x,j,l⟩:=a;simp only[bE]at l⊢;exact⟨x,j,l.1,l.2.1,trivial⟩
      . cases a
    . simp only[bc]at a⊢;obtain⟨x,j,l⟩:=a;simp only[bE]at l⊢;exact⟨x,j,l.1,l.2.1,trivial⟩
    . cases a
   case store k x y=>
    simp only[aR,bo,dC]at a⊢;obtain⟨⟨u,v0⟩,h1,d,j,cs,l,G,a⟩:=a;have F:∀(b:Nat) (N:bO),dZ env x=[b]->J1=dd J b N->(∀c,aV (dd J' b N) c=if cF xb (.store k x y) env key c then aV J1 c else aV J' c)/\∀c,cF xb (.store k x y) env key c=false->aV J1 c=aV J c:=by
     intro b N f hs;subst hs;refine⟨λc=>?_,λc n=>?_⟩
     . simp only[cF,f,lZ,kQ,ji,iP,cX];grind
     . simp only[cF,f,lZ,kQ,ji,lq]at n;rw[cX,al (dL n)]
    dsimp only at a⊢;split at a
    . rename_i b o;have f:=J4 h1;split at a
      . rename_i ds M;simp only[dC,bG,bE]at a;obtain⟨ba,rfl,rfl,B⟩:=a;obtain⟨f1,f2⟩:=F b _ f B.symm;refine⟨⟨_,⟨(u,.c (.ptr b o)),h1,d,j,cs,l,G,?_⟩,f1⟩,f2⟩;dsimp only;rw[ht b (by simp[eh,f]),M];dsimp only;rw[ad ba]
      . rename_i E T M;split at a
        . rename_i c;simp only[bG,bE]at a;obtain⟨rfl,rfl,B⟩:=a;obtain⟨f1,f2⟩:=F b _ f B.symm;refine⟨⟨_,⟨(u,.c (.ptr b 1)),h1,d,j,_,l,G,?_⟩,f1⟩,f2⟩;dsimp only;rw[ht b (by simp[eh,f]),M];rfl
        . cases a
      . cases a
    . rename_i b sz i o;have f:=I3 h1;split at a
      . rename_i L es A;split at a
        . rename_i c n;simp only[bG,bE]at a;obtain⟨rfl,rfl,B⟩:=a;obtain⟨f1,f2⟩:=F b _ f B.symm;refine⟨⟨_,⟨(u,.c (.cH b sz i o)),h1,d,j,cs,l,G,?_⟩,f1⟩,f2⟩;dsimp only;rw[ht b (by simp[eh,f]),A];dsimp only;rw[n]
        rename_i n;simp only[bo,bG,bE]at a;obtain⟨ts,ba,rfl,rfl,B⟩:=a;obtain⟨f1,f2⟩:=F b _ f B.symm;refine⟨⟨_,⟨(u,.c (.cH b sz i o)),h1,d,j,cs,l,G,?_⟩,f1⟩,f2⟩;dsimp only;rw[ht b (by simp[eh,f]),A];dsimp only;rw[n];dsimp only;rw[ba];rfl
      . rename_i L es ab ae T A;split at a
        . rename_i c;split at a
          . rename_i D;simp only[bG,bE]at a;obtain⟨rfl,rfl,B⟩:=a;obtain⟨f1,f2⟩:=F b _ f B.symm;refine⟨⟨_,⟨(u,.c (.cH b sz i o)),h1,d,j,_,l,G,?_⟩,f1⟩,f2⟩;dsimp only;rw[ht b (by simp[eh,f]),A];dsimp only;rw[ad D]
          . rename_i D;simp only[bo,bG,bE]at a;obtain⟨t,ba,rfl,rfl,B⟩:=a;obtain⟨f1,f2⟩:=F b _ f B.symm;refine⟨⟨_,⟨(u,.c (.cH b sz i o)),h1,d,j,_,l,G,?_⟩,f1⟩,f2⟩;dsimp only;rw[ht b (by simp[eh,f]),A];dsimp only;rw[al D,ba];rfl
        . cases a
      . cases a
    . cases a
   case append sz by' x y=>
    simp only[aR,bo]at a⊢;obtain⟨⟨u,v0⟩,h1,⟨d1,d2⟩,j,a⟩:=a;dsimp only at a;cases H:mU v0 d2 with
    |some r=>
     rw[H]at a;have I:=H;unfold mU at I;split at I
     . rename_i b s1 off len S Z R Q;split at I
       . cases I;have C:=Cw h1;dsimp only at a;unfold uw at a;dsimp only at a;split at a
         . rename_i af es A;simp only[bG,bE]at a;obtain⟨rfl,rfl,rfl⟩:=a;refine⟨⟨dd (ig J' b) key (.arr sz (es.take len++(es.drop R).take Q)),⟨(u,.c (.arr b s1 off len)),h1,(d1,.c (.fx S Z R Q)),j,?_⟩,λc=>?_⟩,λc n=>?_⟩
           . dsimp only;rw[H];dsimp only;unfold uw;dsimp only;rw[ht b (by simp[eh,C]),A]
           . simp only[cX,fO,cF,C,lZ,kQ,ji,hO,iP];by_cases h:c=key
             . subst h;simp
             . rw[al (dL h)];by_cases w:c=b
               . subst w;simp[h,dL h]
               . rw[al (dL w),al (by simp[h,w])]
           . simp only[cF,C,lZ,kQ,ji,p6,lq]at n;rw[cX,fO,al (dL n.1),al (dL n.2)]
         . cases a
       . cases I
     . cases I
    |none=>
    rw[H]at a;simp only[bo]at a;obtain⟨ys,l,a⟩:=a;have P:ma J' d2=some ys:=by
     unfold ma at l⊢;split at l
     . exact l
     . exact l
     . rename_i b L off len;rw[ht b (by simp[eh,Cw j])];exact l
     . cases l
    split at a
    . have C:dZ env x=[]:=(by simp[dZ,h1]);simp only[bG,bE]at a;obtain⟨rfl,rfl,rfl⟩:=a;refine⟨⟨_,⟨(u,.c .aF),h1,(d1,d2),j,by dsimp only;rw[H];simp only[bo];exact⟨ys,P,rfl⟩⟩,λb=>?_⟩,λb f=>?_⟩
      . simp only[cX,cF,C,kQ,ji,iP];by_cases h:b=key
        . subst h;simp
        . rw[al (dL h),al h]
      . simp only[cF,C,kQ,ji,lq]at f;rw[cX,al (dL f)]
    . rename_i b L off len;have C:=Cw h1;split at a
      . rename_i ag es A;split at a
        . cases a
        . rename_i W;simp only[bG,bE]at a;obtain⟨rfl,rfl,rfl⟩:=a
          refine⟨⟨_,⟨(u,.c (.arr b L off len)),h1,(d1,d2),j,by
           dsimp only;rw[H];simp only[bo];refine⟨ys,P,?_⟩;rw[ht b (by simp[eh,C]),A];dsimp only
           rw[al W]⟩,λc=>?_⟩,λc n=>?_⟩
          . simp only[cX,fO,cF,C,lZ,kQ,ji,hO,iP];by_cases h:c=key
            . subst h;simp
            . rw[al (dL h)];by_cases w:c=b
              . subst w;simp[h,dL h]
              . rw[al (dL w),al (by simp[h,w])]
          . simp only[cF,C,lZ,kQ,ji,p6,lq]at n;rw[cX,fO,al (dL n.1),al (dL n.2)]
      . cases a
    . cases a
   case allocS e e8=>
    simp only[aR,bG,bE]at a⊢;obtain⟨rfl,rfl,rfl⟩:=a;refine⟨⟨_,⟨rfl,rfl,rfl⟩,λb=>?_⟩,λb f=>?_⟩
    . simp only[cX,cF,hO,iP];by_cases h:key=b
      . rw[ad h,ad (.inl h.symm),ad h]
      . rw[al h];by_cases w:key+1=b
        . rw[ad w,ad (.inr w.symm),al h,ad w]
        . rw[al w,bp]
    . simp only[cF,p6,lq]at f;rw[cX,al (dL f.1),cX,al (dL f.2)]
   case mkset=>
    simp only[aR,bG,bE]at a⊢;obtain⟨rfl,rfl,rfl⟩:=a;refine⟨⟨_,⟨rfl,rfl,rfl⟩,λb=>?_⟩,λb f=>?_⟩
    . simp only[cX,cF,iP];by_cases h:b=key
      . subst h;simp
      . rw[al (dL h),al h]
    . simp only[cF,lq]at f;rw[cX,al (dL f)]
   case lkset x y=>
    have:=xL rfl a;subst this;refine⟨⟨J',?_,λb=>rfl⟩,λb _=>rfl⟩;simp only[aR,bo]at a⊢;obtain⟨⟨u,v0⟩,h1,⟨d1,d2⟩,j,a⟩:=a;refine⟨(u,v0),h1,(d1,d2),j,?_⟩;dsimp only at a⊢;split at a
    . rename_i b s;rw[ht b (by simp[eh,K3 h1])];split at a
      . simp only[bG,bE]at a⊢;exact⟨a.1,a.2.1,trivial⟩
      . cases a
    . cases a
   case upset x y=>
    simp only[aR,bo]at a⊢;obtain⟨⟨u,v0⟩,h1,⟨d1,d2⟩,j,a⟩:=a;dsimp only at a⊢;split at a
    . rename_i b s;have f:=K3 h1;split at a
      . rename_i ks V;simp only[bG,bE]at a;obtain⟨rfl,rfl,rfl⟩:=a
        refine⟨⟨_,⟨(u,.c (.mp b)),h1,(d1,.c (.t (.str s))),j,by
         dsimp only
         rw[ht b (by simp[eh,f]),V]⟩,λc=>?_⟩,λc n=>?_⟩
        . simp only[cF,f,lZ,kQ,ji,iP,cX];by_cases h:c=b
          . subst h;simp
          . rw[al (dL h),al h]
        . simp only[cF,f,lZ,kQ,ji,lq]at n;rw[cX,al (dL n)]
      . cases a
    . cases a
   case appendB e by' x y=>
    simp only[aR,bo]at a⊢;obtain⟨⟨u,v0⟩,h1,⟨d1,d2⟩,j,a⟩:=a;dsimp only at a⊢;split at a
    . rename_i b len s;have f:=Zo h1;split at a
      . rename_i U es A;simp only[bG,bE]at a;obtain⟨rfl,rfl,rfl⟩:=a
        refine⟨⟨_,⟨(u,.c (.cI b len)),h1,(d1,.c (.t (.str s))),j,by
         dsimp only
         rw[ht b (by simp[eh,f]),A]⟩,λc=>?_⟩,λc n=>?_⟩
        . simp only[cX,fO,cF,f,lZ,kQ,ji,hO,iP];by_cases h:c=key
          . subst h;simp
          . rw[al (dL h)];by_cases w:c=b
            . subst w;simp[h,dL h]
            . rw[al (dL w),al (by simp[h,w])]
        . simp only[cF,f,lZ,kQ,ji,p6,lq]at n;rw[cX,fO,al (dL n.1),al (dL n.2)]
      . cases a
    . cases a
   case ustr e x y=>
    simp only[aR,bo]at a⊢;obtain⟨⟨u,v0⟩,h1,⟨d1,d2⟩,j,a⟩:=a;dsimp only at a⊢;split at a
    . rename_i b m;have f:=Zn h1;split at a
      . rename_i U es A;simp only[bG,bE]at a;obtain⟨rfl,rfl,rfl⟩:=a
        refine⟨⟨_,⟨(u,.c (.eg b)),h1,(d1,.c (.t (.int .i64 m))),j,by
         dsimp only
         rw[ht b (by simp[eh,f]),A]⟩,λc=>?_⟩,λc n=>?_⟩
        . simp only[fO,cF,f,lZ,kQ,ji,iP];by_cases h:c=b
          . subst h;simp
          . rw[al (dL h),al h]
        . simp only[cF,f,lZ,kQ,ji,lq]at n;rw[fO,al (dL n)]
      . cases a
    . cases a
   all_goals simp[aR]at a
inductive DStep (xb:a6)(P:Program)(o:cb)(key:Nat)(env:Env)(J:a7)(g:Bool)(v:V):a7->Prop
 |op {p:Prop} {J2:a7} (ao:fP env o.guard = some g) (ahd:o.op.drawn = true) (xw:aR o.op env J key = some (p,v,J2)) (Bs:g = true->p) (ahh:o.op.neutral = true\/g = true):
  DStep xb P o key env J g v (if o.op.neutral then J else J2)
 |skip (ao:fP env o.guard=some g) (ahe:g=false):DStep xb P o key env J g v J
 |call {p:Prop} {f:Nat} {args:List aS} {vs:List V} (EP:o.op = .call f args) (ao:fP env o.guard = some g) (xw:hp env args = some (p,vs)) (Bs:g = true->p/\V.az.V.dF (lt 0) vs = true/\v.az (lt 0) = true/\ec P f vs [] 0 (λtZ _ _=>tZ = v)):
  DStep xb P o key env J g v J
 |iI {p q:Prop} {f:Nat} {x:aS} {args:List aS} {vs:List V} (EP:o.op = .iI x args) (aD:o.guard = none) (afX:g = true) (ahm:x.get env = some (q, .c (.fn f []))) (ahi:q) (xx:hI P f = true) (xw:hp env args = some (p,vs))
  (Bs:p/\V.az.V.dF (lt 0) vs=true/\v.az (lt 0)=true/\ec P f vs [] 0 (λtZ _ _=>tZ=v)):DStep xb P o key env J g v J
 |own {p:Prop} {f:Nat} {args:List aS} {vs:List V} {r:V} {s:a7} {M:Nat} (EP:o.op = .call f args) (ao:fP env o.guard = some g) (aD:o.guard = none) (xw:hp env args = some (p,vs)) (Bs:p) (xx:V.az.V.dF (lt 0) vs = true) (afW:M<=16) (hk:s.all (λx=>x.1<16) = true)
  (QZ:ec P f vs [] 0 (λtZ FC Ej=>tZ=r/\FC=s/\Ej=M)) (Q0:v=r.bx key):DStep xb P o key env J g v (lE J key s)
 |raw {p:Prop} {f:Nat} {args:List aS} {vs:List V} {bs:a6} {r:V} {s:a7} {M:Nat} (EP:o.op = .call f args) (ao:fP env o.guard = some g) (afX:g = true) (xw:hp env args = some (p,vs)) (Bs:p)
  (bS:bs.Nodup) (ay:∀b,b∈bs->b<key) (ahf:∀b,b∈bs->∃x,aV J b=some x) (ahk:∀b,b∈bs->b∈k1 env args++xb) (afW:M<=bs.length+16) (hk:s.all (λx=>decide (x.1<bs.length+16))=true)
  (QZ:ec P f (vs.map (V.bN bs)) (fq bs J 0 bs) bs.length (λtZ FC Ej=>tZ=r/\FC=s/\Ej=M)) (Q0:v=r.b9 (back bs key)):DStep xb P o key env J g v (hh J bs (back bs key) s)
theorem DStep.hc{o:cb}{g:Bool}{v:V}(h:DStep xb P o key env J g v J1){K:Env->a7->Prop}(bI:K (en env o.dst g v) J1):hc P o key env J K:=by
 cases h with
 | @op p J2 ao O a e R=>
  unfold Shv.hc;rw[ao];dsimp only;refine .inr ?_;split
  . rename_i f args c;rw[c]at a;simp[aR]at a
  . rename_i x args c;rw[c]at a;simp[aR]at a
  . rename_i neg x c;rw[c]at a;simp[aR]at a
  grind
 |skip ao Q=>
  unfold Shv.hc;grind
 | @call p f args vs c ao a e=>
  unfold Shv.hc;rw[ao];dsimp only;refine .inr ?_;rw[c];dsimp only;rw[a];dsimp only;split
  . rename_i D;rw[D]at ao;simp[fP]at ao;subst ao;obtain⟨h1,j,t,u⟩:=e rfl;exact⟨h1,hz.Fp u j t bI⟩
  . refine .inr ⟨v,λw=>?_,bI⟩;obtain⟨h1,j,t,u⟩:=e w;exact⟨h1,hz.Fp u j t ⟨rfl,rfl⟩⟩
 | @iI p q f x args vs c aD w H G y a e=>
  subst w;unfold Shv.hc;rw[aD];simp only[fP];refine .inr ?_;rw[c];dsimp only;rw[H,a];dsimp only;obtain⟨h1,j,t,u⟩:=e;simp only[p1,l3];exact⟨trivial,y,G,h1,hz.Fp u j t bI⟩
 | @raw p f args vs bs r s M c ao w a e bS ay E S B F z A=>
  subst w;unfold Shv.hc;rw[ao];dsimp only;refine .inr ?_;rw[c];dsimp only;rw[a];dsimp only;subst A;have N:hz P f vs J key (λL J'=>K (en env o.dst true L) J'):=by
   refine hz.agi bS ay E z ?_;grind
  grind
 | @own p f args vs r s M c ao aD a e y B F z A=>
  unfold Shv.hc;rw[ao];dsimp only;refine .inr ?_;rw[c];dsimp only;rw[a];dsimp only;rw[aD];dsimp only;rw[aD]at ao;simp[fP]at ao;subst ao;subst A;refine⟨e,hz.agh z y ?_⟩;grind
theorem KB{o:cb}{t:Nat}(h:t∈o.op.reads):t∈o.rd:=by simp[cb.rd,h]
theorem y9{o:cb}(h:∀t,t∈o.rd->look env' t=look env t):fP env' o.guard=fP env o.guard:=by
 cases ao:o.guard with
 |none=>rfl
 |some x=>
  obtain⟨t,b⟩:=x;simp only[fP];rw[h t (by simp[cb.rd,ao])]
theorem F8{s:a7}(e:s.all (λx=>x.1<16)=true){b:Nat}(d:¬(key<=b/\b<key+16))(J:a7):aV (lE J key s) b=aV J b:=by
 rw[zh];by_cases h:key<=b
 . rw[ad h];have:aV s (b-key)=none:=by
    cases hs:aV s (b-key)with
    |none=>rfl
    |some x=>
     exfalso;have:∀{s:a7} {c:Nat} {x:bO},aV s c=some x->s.all (λx=>x.1<16)=true->c<16:=by
      intro s;induction s with
      |nil=>intro c x h;simp[aV]at h
      |cons y r ih=>
       obtain⟨k,y⟩:=y;intro c x h a;simp only[oe,cc,dq]at a;simp only[aV]at h;grind
     grind
   rw[this]
 grind
theorem kK(h:∀t,t∈x.tmps->look env' t=look env t):dZ env' x=dZ env x:=by
 unfold dZ;rw[du h]
theorem Gu{args:List aS}(h:∀t,t∈args.flatMap aS.tmps->look env' t=look env t):k1 env' args=k1 env args:=by
 induction args with
 |nil=>rfl
 |cons x r ih=>
  simp only[k1,e7]at ih⊢;rw[du (λt ht=>h t (by simp[ht]))];grind
theorem Zw(h:∀t,t∈o.reads->look env' t=look env t)(b:Nat):cF xb o env' key b=cF xb o env key b:=by
 cases o<;>try rfl
 case store k x v=>simp only[cF];rw[kK λt ht=>h t (by simp[cJ.reads,ht])]
 case append sz by' x y=>simp only[cF];rw[kK λt ht=>h t (by simp[cJ.reads,ht])]
 case upset x y=>simp only[cF];rw[kK λt ht=>h t (by simp[cJ.reads,ht])]
 case appendB e k x y=>simp only[cF];rw[kK λt ht=>h t (by simp[cJ.reads,ht])]
 case ustr e x y=>simp only[cF];rw[kK λt ht=>h t (by simp[cJ.reads,ht])]
 case call f args=>simp only[cF];rw[Gu h]
theorem Zx(h:∀t,t∈o.reads->look env' t=look env t):eh xb o env' key=eh xb o env key:=by
 cases o<;>try rfl
 case b2s x=>simp only[eh];rw[kK λt ht=>h t (by simp[cJ.reads,ht])]
 case load g k x=>simp only[eh];rw[kK λt ht=>h t (by simp[cJ.reads,ht])]
 case store k x v=>simp only[eh];rw[kK λt ht=>h t (by simp[cJ.reads,ht])]
 case lkset x y=>simp only[eh];rw[kK λt ht=>h t (by simp[cJ.reads,ht])]
 case upset x y=>simp only[eh];rw[kK λt ht=>h t (by simp[cJ.reads,ht])]
 case appendB e k x y=>simp only[eh];rw[kK λt ht=>h t (by simp[cJ.reads,ht])]
 case ustr e x y=>simp only[eh];rw[kK λt ht=>h t (by simp[cJ.reads,ht])]
 case call f args=>simp only[eh];rw[Gu h]
 case append sz by' x y=>simp only[eh];rw[kK (x:=x) λt ht=>h t (by simp[cJ.reads,ht]),kK (x:=y) λt ht=>h t (by simp[cJ.reads,ht])]
theorem DStep.local{o:cb}{g:Bool}{v:V}(h:DStep xb P o key env J g v J1)(he:∀t,t∈o.rd->look env' t=look env t)(ht:∀b,b∈eh xb o.op env key\/cF xb o.op env key b=true->aV J' b=aV J b):
 (∃bn,DStep xb P o key env' J' g v bn/\∀b,aV bn b=if cF xb o.op env key b then aV J1 b else aV J' b)/\∀b,cF xb o.op env key b=false->aV J1 b=aV J b:=by
 have B:∀t,t∈o.op.reads->look env' t=look env t:=λt h=>he t (KB h);cases h with
 | @op p J2 ao S u w X=>
  obtain⟨⟨bn,h1,Q⟩,R⟩:=Zp (J':=J') u (λb a=>ht b (.inl a));have aD:o.op.neutral=true->∀b,cF xb o.op env key b=false:=by intro aD b;generalize o.op=am at aD;cases am<;>simp[cJ.neutral]at aD<;>rfl
  refine⟨⟨_,DStep.op (J2:=bn) (p:=p) (by rw[y9 he];exact ao) S (by rw[aab B];exact h1) w X,λb=>?_⟩,λb a=>?_⟩
  . by_cases z:o.op.neutral=true
    . rw[ad z,aD z b];rfl
    . rw[al z,al z];exact Q b
  . by_cases z:o.op.neutral=true
    . rw[ad z]
    . rw[al z];exact R b a
 |skip ao U=>
  refine⟨⟨J',DStep.skip (by rw[y9 he];exact ao) U,λb=>?_⟩,λb _=>rfl⟩;split
  . rename_i j;exact ht b (.inr j)
  . rfl
 | @call p f args vs c ao u w=>
  refine⟨⟨J',DStep.call c (by rw[y9 he];exact ao) (by rw[zi λt h=>B t (by rw[c];exact h)];exact u) w,λb=>?_⟩,λb _=>rfl⟩;split
  . rename_i j;exact ht b (.inr j)
  . rfl
 | @iI p q f x args vs c aD H ae Y a u w=>
  refine⟨⟨J',DStep.iI c aD H (by rw[du λt h=>B t (by rw[c];simp[cJ.reads,h])];exact ae) Y a (by rw[zi λt h=>B t (by rw[c];simp only[cJ.reads,ga];exact .inr h)];exact u) w,λb=>?_⟩,λb _=>rfl⟩;split
  . rename_i j;exact ht b (.inr j)
  . rfl
 | @own p f args vs r s M c ao aD u w a F y G K=>
  refine⟨⟨_,DStep.own c (by rw[y9 he];exact ao) aD (by rw[zi λt h=>B t (by rw[c];exact h)];exact u) w a F y G K,λb=>?_⟩,λb A=>?_⟩
  . by_cases D:key<=b/\b<key+16
    . have j:cF xb o.op env key b=true:=by rw[c];simp[cF,D.1,D.2]
      rw[ad j];have e:=ht b (.inr j);rw[zh,zh,e]
    . rw[F8 y D];split
      . rename_i j;rw[F8 y D];exact ht b (.inr j)
      . rfl
  . have D:¬(key<=b/\b<key+16):=by intro h;rw[c]at A;simp[cF,h.1,h.2]at A
    exact F8 y D J
 | @raw p f args vs bs r s M c ao H u w bS ay W E F y G K=>
  have Z:∀b,b∈k1 env args++xb->b∈eh xb o.op env key:=by intro b a;rw[c];simp only[eh,ga];exact .inr (ga.1 a)
  have N:∀b,b∈bs->aV J' b=aV J b:=λb a=>ht b (.inl (Z b (E b a)));have O:∀t,t∈args.flatMap aS.tmps->look env' t=look env t:=λt h=>B t (by rw[c];exact h)
  refine⟨⟨_,DStep.raw (bs:=bs) c (by rw[y9 he];exact ao) H (by rw[zi O];exact u) w bS ay (λb a=>by rw[N b a];exact W b a) (λb a=>by rw[Gu O];exact E b a) F y
   (by rw[SI N];exact G) K,λb=>?_⟩,λb A=>?_⟩
  . by_cases j:cF xb o.op env key b=true
    . rw[ad j];refine SJ ?_;rw[pz,pz,ht b (.inr j)]
    . rw[al j];have L:cF xb o.op env key b=false:=(by simpa using j);rw[c]at L;simp only[cF,p6,E9,ya]at L;refine FN y (λa=>?_) (by omega);have:=E b a;simp[E',this]at L
  . rw[c]at A;simp only[cF,p6,E9,ya]at A;refine FN y (λa=>?_) (by omega);have:=E b a;simp[E',this]at A
def w6(xb:a6)(P:Program):List cb->Nat->Env->a7->(Env->a7->Prop)->Prop
 |[],_,env,J,K=>K env J
 |o::r,key,env,J,K=>∃g v J1,DStep xb P o key env J g v J1/\w6 xb P r (key+16) (en env o.dst g v) J1 K
structure ov (xb:a6)(P:Program)(aZ:List cb)(N:Nat)(E:Nat->Env)(T:Nat->a7)(G:Nat->Bool)(W:Nat->V):Prop where
 step:∀(i:Nat) o,aZ[i]?=some o->DStep xb P o (N+16*i) (E i) (T i) (G i) (W i) (T (i+1))/\E (i+1)=en (E i) o.dst (G i) (W i)
theorem G5:∀{aZ:List cb} {key:Nat} {env:Env} {J:a7} {K:Env->a7->Prop},w6 xb P aZ key env J K->∃E T G W,ov xb P aZ key E T G W/\E 0=env/\T 0=J/\K (E aZ.length) (T aZ.length)
 |[],key,env,J,K,h=>⟨λ_=>env,λ_=>J,λ_=>true,λ_=>.aY [],⟨λi o h=>by simp at h⟩,rfl,rfl,h⟩
 |o::r,key,env,J,K,h=>by
  obtain⟨g,v,J1,h1,a⟩:=h;obtain⟨E,T,G,W,c,aK,e,bI⟩:=G5 a;refine⟨λi=>if i=0 then env else E (i-1),λi=>if i=0 then J else T (i-1),λi=>if i=0 then g else G (i-1),λi=>if i=0 then v else W (i-1),⟨λi d b=>?_⟩,rfl,rfl,by simpa using bI⟩;cases i with
  |zero=>grind
  |succ i=>
   have:=c.step i d (by simpa using b);grind
end
end
section
open Go
variable {xb:a6}
variable{p:Nat->Bool}{L:List (cb×a6)}{j:Nat}{env:Env}{o:cJ}{φ:dE}{w:World}{J:a7}{S:dT}{a:Act}{D:Nat->a6}{listed:Array Bool}{Q:Exit->Act->World->Prop}
theorem H5:∀{m:Nat},(∃i,i<m/\p i=true)->∃i,i<m/\p i=true/\∀j,j<m->p j=true->j<=i
 |0,⟨i,h,_⟩=>by omega
 |m+1,⟨i,h1,a⟩=>by
  cases b:p m with
  |true=>exact⟨m,by omega,b,λj e _=>by omega⟩
  |false=>
   have:i<m:=(by grind);obtain⟨k,c,d,ba⟩:=H5 (m:=m) ⟨i,this,a⟩;grind
theorem xS{P:Program}{nt:Nat}{ops:Array Oper}:∀{l:List Oper} {aZ:List cb},jx P nt ops l=some aZ->aZ.length=l.length
 |[],aZ,h=>by simp[jx]at h;subst h;rfl
 |o::l,aZ,h=>by
  simp only[jx,bo,bc]at h;obtain⟨b,c,r,a,rfl⟩:=h;simp[xS a]
theorem FO{P:Program}{nt:Nat}{ops:Array Oper}:∀{l:List Oper} {aZ:List cb} {i:Nat} {o:Oper},jx P nt ops l=some aZ->l[i]?=some o->∃b,aZ[i]?=some b/\u2 P nt ops o=some b
 |[],aZ,i,o,h,a=>by simp at a
 |x::l,aZ,i,o,h,a=>by
  simp only[jx,bo,bc]at h;obtain⟨b,c,r,d,rfl⟩:=h;cases i with
  |zero=>simp at a;subst a;exact⟨b,rfl,c⟩
  |succ i=>simpa using FO d (by simpa using a)
theorem G0:∀{l:List (cb×a6)} {k i:Nat} {x:cb×a6},DJ k l=true->l[i]?=some x->∀d,d∈x.2->d<k+i
 |[],k,i,x,h,a,d,b=>by simp at a
 |y::r,k,i,x,h,a,d,b=>by
  simp only[DJ,cc,c0,dq]at h;cases i with
  |zero=>simp at a;subst a;exact h.1 d b
  |succ i=>
   have:=G0 h.2 (by simpa using a) d b;omega
theorem Zy{i:Nat}(h:ahead L j i=true):j<i/\∃x,L[i]?=some x/\j∈x.2:=by
 simp only[ahead,cc,dq]at h;grind
theorem I4{key b:Nat}(ht:o.ij=true)(a:cF xb o env key b=true):b∈eh xb o env key:=by
 cases o
 case call f args=>
  simp only[cF,hO,cc,dq,E']at a;simp only[eh,ga,eK,wk];rcases a with h|h
  . exact .inl ⟨b-key,by omega,by omega⟩
  grind
 all_goals simp[cJ.ij]at ht<;>simp[cF,eh]at a⊢<;>first|exact a|(rcases a with h|h;exact .inl h;exact .inr (.inl h))
theorem Yw{key:Nat}(ht:o.ij=false):eh xb o env key=[]:=by
 cases o<;>simp[cJ.ij]at ht<;>rfl
theorem J5{key b:Nat}(a:cF xb o env key b=true):o.neutral=false:=by
 cases o<;>simp[cF]at a<;>rfl
theorem M4{key b:Nat}(ht:o.ij=false)(a:cF xb o env key b=true):key<=b/\b<key+16:=by
 cases o<;>simp[cJ.ij]at ht<;>simp[cF]at a
section
variable {P:Program}{aB:Ctx}{nt kk:Nat}{N:Nat}{ops:Array Oper}{aZ:List cb}{E:Nat->Env}{T:Nat->a7}{G:Nat->Bool}{W:Nat->V}
theorem Rel.afK{env':Env}{n:Nat->Bool}(R:Rel aB nt φ S env J n a w)(h:∀t,look env' t=look env t):Rel aB nt φ S env' J n a w:=
 ⟨R.bP,λk g v ae=>R.gI k g v (h k▸ae),λk g v ae=>R.hJ k g v (h k▸ae),λk g v ae=>R.gH k g v (h k▸ae),R.dP,R.size,R.defers,R.ext,R.own,R.fix,R.fR⟩
def ik(xb:a6)(aZ:List cb)(E:Nat->Env)(N i b:Nat):Bool:=match aZ[i]? with|some o=>cF xb o.op (E i) (N+16*i) b|none=>false
theorem vh(d:ov xb P aZ N E T G W){t:Nat}{i:Nat}:∀{k:Nat},i<=k->k<=aZ.length->(∀(j:Nat) (o:cb),i<=j->j<k->aZ[j]?=some o->o.dst≠some t)->look (E k) t=look (E i) t:=by
 intro k;induction k with
 |zero=> intro h1 _ _; have:i = 0:= by omega
         subst this;rfl
 |succ k ih=>
  intro h1 e b;by_cases f:i=k+1
  . grind
  . have c:k<aZ.length:=(by omega);have a:aZ[k]?=some aZ[k]:=eF c;rw[(d.step k _ a).2,px,al (b k _ (by omega) (by omega) a)];grind
theorem DP(f:ov xb P aZ N E T G W){b:Nat}{i:Nat}:∀{k:Nat},i<=k->k<=aZ.length->(∀j:Nat,i<=j->j<k->ik xb aZ E N j b=false)->aV (T k) b=aV (T i) b:=by
 intro k;induction k with
 |zero=> intro h1 _ _; have:i = 0:= by omega
         subst this;rfl
 |succ k ih=>
  intro h1 g d;by_cases l:i=k+1
  . grind
  . have e:k<aZ.length:=(by omega);have c:aZ[k]?=some aZ[k]:=eF e;have a:=d k (by omega) (by omega);unfold ik at a;rw[c]at a;have:=((f.step k _ c).1.local (env':=E k) (J':=T k) (λ_ _=>rfl) (λ_ _=>rfl)).2 b a;grind
inductive jq (D:Nat->a6)(j:Nat):Nat->Prop
 |one {i:Nat} (h:j∈D i):jq D j i
 |step {e i:Nat} (h:jq D j e) (he:e∈D i):jq D j i
theorem jq.ready{n:Nat}(c:∀i d,i<n->d∈D i->d<i)(f:∀e,e<n->p e=true->∀d,d∈D e->p d=true){i:Nat}(h:jq D j i)(o:i<n)(a:∀d,d∈D i->p d=true):p j=true:=by
 induction h with
 |one h=>exact a _ h
 |step h he ih=>grind
theorem jq.congr{c:Nat->a6}{n:Nat}(f:∀i d,i<n->d∈D i->d<i)(e:∀i,i<n->D i=c i){i:Nat}(h:jq D j i)(a:i<n):jq c j i:=by
 induction h with
 |one h=>exact .one (by rw[<-e _ a];exact h)
 |step h he ih=>
  have:=f _ _ a he;exact .step (ih (by omega)) (by rw[<-e _ a];exact he)
theorem S6{D:Nat->a6}:∀{l:List (cb×a6)} {acc:List a6},(∀(k:Nat) x,l[k]?=some x->D (acc.length+k)=x.2)->(∀i j,j∈acc.getD i []->jq D j i)->∀i j,j∈(ml l acc).getD i []->jq D j i
 |[],acc,_,b,i,j,h=>b i j h
 |x::r,acc,c,b,i,j,h=>by
  simp only[ml]at h;refine S6 (acc:=acc++[(x.2++x.2.flatMap λe=>acc.getD e []).eraseDups]) (λk y m=>?_) (λi j a=>?_) i j h
  . have:=c (k+1) y (by simpa using m);grind
  . rw[E2,List.getElem?_append]at a;split at a
    . grind
    . rename_i n;cases d:i-acc.length with
      |succ k=>rw[d]at a;simp at a
      |zero=>
       rw[d]at a;have g:i=acc.length:=(by omega);subst g;have f:D acc.length=x.2:=(by simpa using c 0 x rfl);simp only[x',lu,List.mem_eraseDups,ga,Fk]at a;rcases a with a|⟨e,he,a⟩
       . exact .one (by rw[f];exact a)
       . exact .step (b e j a) (by rw[f];exact he)
structure Stat (xb:a6)(aZ:List cb)(D:Nat->a6)(E:Nat->Env)(N:Nat):Prop where
 back:∀i d,i<aZ.length->d∈D i->d<i
 wE:∀(i j:Nat) (x y:cb) (d:Nat),aZ[i]?=some x->aZ[j]?=some y->y.dst=some d->(d∈x.rd->(j<i/\j∈D i)\/(x.op.neutral=true/\x.op.ij=false/\i<j/\i∈D j))/\(i=j\/x.dst≠some d)
 ord:∀i j b,i≠j->i<aZ.length->j<aZ.length->ik xb aZ E N i b=true->((∃y:cb,aZ[j]?=some y/\b∈eh xb y.op (E j) (N+16*j))\/ik xb aZ E N j b=true)->(i<j/\jq D i j)\/(j<i/\jq D j i)
def used(N m:Nat)(listed:Array Bool):Nat->Bool:=λb=>lt N b||(List.range m).any λi=>listed.getD i false&&(decide (N+16*i<=b)&&decide (b<N+16*i+16))
structure Inv (xb:a6)(aB:Ctx)(nt:Nat)(aZ:List cb)(D:Nat->a6)(N:Nat)(E:Nat->Env)(T:Nat->a7)(G:Nat->Bool)(W:Nat->V)(listed:Array Bool)(φ:dE)(S:dT)(env:Env)(J:a7)(a:Act)(w:World):Prop where
 rel:Rel aB nt φ S env J (used N aZ.length listed) a w
 size:listed.size=aZ.length
 down:∀i,i<aZ.length->listed.getD i false=true->∀d,d∈D i->listed.getD d false=true
 cY:∀t,(∀(i:Nat) (o:cb),aZ[i]?=some o->listed.getD i false=true->o.dst≠some t)->look env t=look (E 0) t
 aK:∀t (i:Nat) (o:cb),aZ[i]?=some o->listed.getD i false=true->o.dst=some t->look env t=some (G i,W i)
 rK:∀b,(∀i,i<aZ.length->listed.getD i false=true->ik xb aZ E N i b=false)->aV J b=aV (T 0) b
 s1:∀b i,i<aZ.length->listed.getD i false=true->ik xb aZ E N i b=true->(∀j,j<aZ.length->listed.getD j false=true->ik xb aZ E N j b=true->j<=i)->aV J b=aV (T (i+1)) b
theorem lf{i:Nat}(a:i<listed.size):(listed.setIfInBounds i true).getD j false=if j=i then true else listed.getD j false:=by
 by_cases h:j=i
 . simp_all
 . rw[al h,getD_set_ne false (dL h)]
theorem Inv.agree(cy:Inv xb aB nt aZ D N E T G W listed φ S env J a w)(st:Stat xb aZ D E N)(q:ov xb P aZ N E T G W)
 {i:Nat}{o:cb}(O:aZ[i]?=some o)(aD:listed.getD i false=false)(Q:∀d,d∈D i->listed.getD d false=true):
 (∀t,t∈o.rd->look env t=look (E i) t)/\∀b,b∈eh xb o.op (E i) (N+16*i)\/cF xb o.op (E i) (N+16*i) b=true->aV J b=aV (T i) b:=by
 have R:i<aZ.length:=(c7.1 O).1;refine⟨λt ht=>?_,λb B=>?_⟩
 . by_cases am:∃(j:Nat) (y:cb),aZ[j]?=some y/\y.dst=some t
   . obtain⟨j,y,c,A⟩:=am;rcases (st.wE i j o y t O c A).1 ht with⟨h1,L⟩|⟨_,_,h1,L⟩
     . rw[cy.aK t j y c (Q j L) A];have:look (E (j+1)) t=some (G j,W j):=by rw[(q.step j y c).2,px,ad A]
       rw[<-this]
       symm
       refine vh q (by omega) (by omega) λk z M F e u=>?_;rcases (st.wE k j z y t e c A).2 with h|h
       . omega
       . exact h u
     . have v:j<aZ.length:=(c7.1 c).1;have Z:∀(k:Nat) (z:cb),aZ[k]?=some z->z.dst=some t->k=j:=by
        intro k z e u;rcases (st.wE k j z y t e c A).2 with h|h
        . exact h
        grind
       rw[cy.cY t λk z e ae u=>by
        have:=Z k z e u;subst this;have:=cy.down k v ae i L
        grind]
       symm
       refine vh q (ic _) (by omega) λk z _ a2 e u=>?_;have:=Z k z e u;omega
   . have K:∀(j:Nat) (y:cb),aZ[j]?=some y->y.dst≠some t:=λj y c h=>am ⟨j,y,c,h⟩;rw[cy.cY t λj y c _=>K j y c]
     symm
     exact vh q (ic _) (by omega) λj y _ _ c=>K j y c
 . have an:∀j,j≠i->j<aZ.length->ik xb aZ E N j b=true->(j<i/\jq D j i)\/(i<j/\jq D i j):=by
    intro j v f x;refine st.ord j i b v f R x ?_;rcases B with B|B
    . grind
    . exact .inr (by unfold ik;rw[O];exact B)
   have ae:∀j,j<aZ.length->listed.getD j false=true->ik xb aZ E N j b=true->j<i:=by
    intro j f H x;have a0:j≠i:=by rintro rfl;rw[aD]at H;cases H
    rcases an j a0 f x with h|h
    . exact h.1
    . have:=h.2.ready (p:=λk=>listed.getD k false) st.back cy.down f (cy.down j f H);grind
   have aI:∀j,j<i->ik xb aZ E N j b=true->listed.getD j false=true:=by
    intro j a1 x;rcases an j (by omega) (by omega) x with h|h
    . exact h.2.ready (p:=λk=>listed.getD k false) st.back cy.down R Q
    . omega
   by_cases ap:∃j,j<i/\ik xb aZ E N j b=true
   . obtain⟨j,ax,U,X⟩:=H5 ap;rw[cy.s1 b j (by omega) (aI j ax U) U (λk M F Y=>X k (ae k M F Y) Y)]
     symm
     refine DP q (by omega) (by omega) λk M F=>?_;cases ay:ik xb aZ E N k b with
     |false=>rfl
     |true=>have:=X k F ay;omega
   . have K:∀j,j<i->ik xb aZ E N j b=false:=(by grind);rw[cy.rK b λj f H=>by grind]
     symm
     exact DP q (ic _) (by omega) λj _ v=>K j v
theorem aac{m:Nat}{i b:Nat}(a:i<listed.size)(h:eA (used N m listed) (N+16*i) b=true)(e:i<m):used N m (listed.setIfInBounds i true) b=true:=by
 simp only[eA,used,hO,wj,wk,cc,dq]at h⊢;rcases h with(h|⟨j,h1,c,d⟩)|h
 . exact .inl h
 . exact .inr ⟨j,h1,by rw[lf a];split;rfl;exact c,d⟩
 . exact .inr ⟨i,e,by rw[lf a,ad rfl],h⟩
theorem I5{m:Nat}{i:Nat}(aD:listed.getD i false=false){b:Nat}(h1:N+16*i<=b)(a:b<N+16*i+16):used N m listed b=false:=by
 simp only[used,p6,Ff,wk,cc,dq];refine⟨by simp[lt];omega,λj c h=>?_⟩;grind
theorem Inv.step{U:dE}{bQ:dT}{bn:a7}{L:Act}{w':World}(cy:Inv xb aB nt aZ D N E T G W listed φ S env J a w)(st:Stat xb aZ D E N)(ap:ov xb P aZ N E T G W)
 {i:Nat}{o:cb}(z:aZ[i]?=some o)(aD:listed.getD i false=false)(X:∀d,d∈D i->listed.getD d false=true)
 (M:∀b,aV bn b=if cF xb o.op (E i) (N+16*i) b then aV (T (i+1)) b else aV J b)
 (R:Rel aB nt U bQ (en env o.dst (G i) (W i)) bn (eA (used N aZ.length listed) (N+16*i)) L w'):
 Inv xb aB nt aZ D N E T G W (listed.setIfInBounds i true) U bQ (en env o.dst (G i) (W i)) bn L w':=by
 have x:i<aZ.length:=(c7.1 z).1;have c:i<listed.size:=by rw[cy.size];exact x
 have F:∀b,ik xb aZ E N i b=cF xb o.op (E i) (N+16*i) b:=λb=>by unfold ik;rw[z]
 refine⟨R.more λb A=>aac c A x,by simp[cy.size],λj q ae d O=>?_,λt ht=>?_,λt j y v ae K=>?_,λb A=>?_,λb j q ae B Q=>?_⟩
 . rw[lf c]at ae⊢;split
   . rfl
   . split at ae
     . rename_i e;subst e;exact X d O
     . exact cy.down j q ae d O
 . rw[px,al (ht i o z (by rw[lf c,ad rfl]))];exact cy.cY t λj y v ae=>ht j y v (by rw[lf c];split;rfl;exact ae)
 . rw[px];rw[lf c]at ae;by_cases f:j=i
   . subst f;rw[z]at v;cases v;rw[ad K]
   . rw[al f]at ae;rw[al (λh=>?_)]
     . exact cy.aK t j y v ae K
     . rcases (st.wE i j o y t z v K).2 with H|H
       . exact f H.symm
       . exact H h
 . rw[M b];have u:=A i x (by rw[lf c,ad rfl]);rw[F]at u;rw[u];exact cy.rK b λj q ae=>A j q (by rw[lf c];split;rfl;exact ae)
 . rw[M b];rw[lf c]at ae;by_cases u:cF xb o.op (E i) (N+16*i) b=true
   . rw[ad u];have an:i<=j:=Q i x (by rw[lf c,ad rfl]) (by rw[F];exact u);by_cases f:j=i
     . subst f;rfl
     ·
      exfalso;rw[al f]at ae;rcases st.ord i j b (dL f) x q (by rw[F];exact u) (.inr B)with h|h
      . have:=h.2.ready (p:=λk=>listed.getD k false) st.back cy.down q (cy.down j q ae);rw[aD]at this;cases this
      . omega
   . rw[al u];by_cases f:j=i
     . subst f;rw[F]at B;exact absurd B u
     . rw[al f]at ae;exact cy.s1 b j q ae B λk Y Z am=>Q k Y (by rw[lf c];split;rfl;exact Z) am
theorem Inv.done(cy:Inv xb aB nt aZ D N E T G W listed φ S env J a w)(st:Stat xb aZ D E N)(f:ov xb P aZ N E T G W)
 (u:∀i,i<aZ.length->listed.getD i false=true):Rel aB nt φ S (E aZ.length) (T aZ.length) (lt (N+16*aZ.length)) a w:=by
 refine((cy.rel.afK λt=>?_).congr λb=>?_).more λb v=>?_
 . by_cases F:∃(j:Nat) (y:cb),aZ[j]?=some y/\y.dst=some t
   . obtain⟨j,y,c,q⟩:=F;have o:j<aZ.length:=(c7.1 c).1;rw[cy.aK t j y c (u j o) q];have:look (E (j+1)) t=some (G j,W j):=by rw[(f.step j y c).2,px,ad q]
     rw[<-this];refine vh f (by omega) (ea _) λk z p B Q R=>?_;rcases (st.wE k j z y t Q c q).2 with h|h
     . omega
     . exact h R
   . have e:∀(j:Nat) (y:cb),aZ[j]?=some y->y.dst≠some t:=λj y c h=>F ⟨j,y,c,h⟩;rw[cy.cY t λj y c _=>e j y c];exact vh f (ic _) (ea _) λj y _ _ c=>e j y c
 . by_cases H:∃j,j<aZ.length/\ik xb aZ E N j b=true
   . obtain⟨j,x,K,A⟩:=H5 H;rw[cy.s1 b j x (u j x) K (λk p _ M=>A k p M)];refine DP f (by omega) (ea _) λk p B=>?_;cases O:ik xb aZ E N k b with
     |false=>rfl
     |true=>have:=A k B O;omega
   . have e:∀j,j<aZ.length->ik xb aZ E N j b=false:=(by grind);rw[cy.rK b λj L _=>e j L];exact DP f (ic _) (ea _) λj _ o=>e j o
 . simp only[used,lt,hO,wj,wk,cc,dq]at v⊢;rcases v with h|⟨j,h1,U,X,Y⟩
   . omega
   . omega
theorem M2(st:Stat xb aZ D E N)(n:ov xb P aZ N E T G W)(hres:jx P nt ops ops.toList=some aZ)(u:∀(i:Nat) o,ops[i]?=some o->D i=hg o)
 (z:∀φ S a w,Rel aB nt φ S (E aZ.length) (T aZ.length) (lt (N+16*aZ.length)) a w->Q .normal a w):
 ∀(j:Nat) (listed:Array Bool) φ S env J a w,listed.toList.countP (· ==false)<=j->Inv xb aB nt aZ D N E T G W listed φ S env J a w->wpAny P .any ops Q j listed a w:=by
 have L:=xS hres;simp at L;have M:∀(listed:Array Bool) (φ:dE) (S:dT) (env:Env) (J:a7) (a:Act) (w:World),Inv xb aB nt aZ D N E T G W listed φ S env J a w->Region.ready .any ops listed=[]->∀i,i<aZ.length->listed.getD i false=true:=by
  intro listed φ S env J a w cy l i;induction i using Nat.strongRecOn with
  |_ i ih=>
   intro c;cases ae:listed.getD i false with
   |true=>rfl
   |false=>
    exfalso;have x:i<ops.size:=(by omega);have g:ops[i]?=some ops[i]:=By x;have:i∈Region.ready .any ops listed:=by
     rw[mem_ready];refine⟨?_,ops[i],g,λe he V=>?_⟩
     . have k:i<listed.size:=by rw[cy.size];exact c
       grind
     . have f:e.on∈D i:=by
        rw[u i _ g];simp only[hg,eK,rH];grind
       exact ih e.on (st.back i _ c f) (by have:=st.back i _ c f;omega)
    grind
 have v:∀(listed:Array Bool) (φ:dE) (S:dT) (env:Env) (J:a7) (a:Act) (w:World),Inv xb aB nt aZ D N E T G W listed φ S env J a w->Region.ready .any ops listed=[]->Q .normal a w:=by
  intro listed φ S env J a w cy l;exact z φ S a w (cy.done st n (M listed φ S env J a w cy l))
 intro j;induction j with
 |zero=>
  intro listed φ S env J a w H cy;have U:∀i,i<aZ.length->listed.getD i false=true:=by
   intro i c;have k:i<listed.size:=by rw[cy.size];exact c
   cases ae:listed.getD i false with
   |true=>rfl
   |false=>
    exfalso;have h0:listed.toList.countP (· ==false)=0:=(by omega);rw[List.countP_eq_zero]at h0;simp[k]at ae;exact h0 listed[i] (by simp) (by simp[ae])
  have l:Region.ready .any ops listed=[]:=by
   rw[Q'];intro i c;rw[mem_ready]at c;grind
  exact⟨l,v listed φ S env J a w cy l⟩
 |succ j ih=>
  intro listed φ S env J a w H cy;refine⟨v listed φ S env J a w cy,λi c=>?_⟩;rw[mem_ready]at c;obtain⟨h1,o,g,X⟩:=c;have x:i<ops.size:=(yq.1 g).1;have I:i<aZ.length:=by omega
  have k:i<listed.size:=by rw[cy.size];exact I
  have aD:listed.getD i false=false:=by simp[k]at h1⊢;exact h1
  obtain⟨p,q,O⟩:=FO hres (i:=i) (o:=o) (by simpa using g);have f:∀d,d∈D i->listed.getD d false=true:=by
   intro d f;rw[u i o g]at f;simp only[hg,eK,rH]at f;grind
  obtain⟨A,B⟩:=cy.agree st n q aD f;obtain⟨⟨bn,hs,y⟩,_⟩:=(n.step i p q).1.local (env':=env) (J':=J) A B;have r:=CK cy.rel (key:=N+16*i) (λb C F=>I5 aD C F) O (K:=λe s=>e=en env p.dst (G i) (W i)/\s=bn) (hs.hc ⟨rfl,rfl⟩) (Q:=Q);have next:∀m w',j0 aB nt (eA (used N aZ.length listed) (N+16*i)) (λe s=>e=en env p.dst (G i) (W i)/\s=bn) m w'->wpAny P .any ops Q j (listed.setIfInBounds i true) m w':=by
   rintro m w' ⟨R,bQ,e,s,⟨rfl,rfl⟩,R'⟩
   refine ih _ R bQ _ _ m w' ?_ (cy.step st n q aD f y R');have:listed.toList[i]?=some false:=by simp[k]at aD⊢;exact aD
   grind
  unfold wpOp;rw[g];dsimp only;split at r
  . rename_i t;rw[ad t];exact .inl (Oper.wp_mono next r)
  . rename_i t;rw[al t];exact next _ _ r
end
end
end Go.Proofs.YtdjagncoefjfeaaGreat.Shv
