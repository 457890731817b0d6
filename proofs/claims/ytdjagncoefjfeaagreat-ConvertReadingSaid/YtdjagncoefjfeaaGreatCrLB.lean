/- The library of this proof, part B: an abstract machine for the code of the program, and its soundness. -/
import Derived.Lib.UnsafeStr
import Derived.Orders
import Derived.LoopN
import Derived.Test.YtdjagncoefjfeaaGreatCrLA

namespace Go.Proofs.YtdjagncoefjfeaaGreat.Shv
set_option linter.all false
section
open Go
theorem C.mo(c:C):c.aA (λ_=>true)=true:=by cases c<;>simp[C.aA]
variable{e ty t:TypeId}{o:Oper}{α:Type}{c:Call}{op:Op}{f id b0 off:Nat}{dst:Option Nat}{x:Value}{gd:Option (Nat×Bool)}{ops:Array Oper}{K:Env->a7->Prop}{Q:Exit->Act->World->Prop}{code:Code}{aZ:List cb}{gh:List (Nat×Nat)}{bs:a6}{es:List (List T)}
section
variable {P:Program}{aD:Ctx}{nt kk:Nat}{φ:dG}{S bR:dV}{env:Env}{J:a7}{N key:Nat}{n:Nat->Bool}{a:Act}{w w':World}
theorem Rel.extend(R:Rel aD nt φ S env J n a w)(e:Ext (λ_=>False) S bR w w')(O:∀b j,bR b j->b<w'.heap.size):Rel aD nt φ bR env J n a w':=by
 have aa:∀b:Nat,b<w.heap.size->w'.heap[b]?=w.heap[b]?:=λb N=>e.block b N (λh=>h);have z:∀b x,aV J b=some x->(φ b).2≠0->∀j,¬bR (φ b).1 j:=by
  intro b x q h0 j F;have dv:=R.bQ.blk b x q;rcases e.rU _ _ F with h|h|h
  . exact dv.p8 h0 j h
  . exact h
  . have:=dv.kp h0;omega
 refine⟨⟨λb x q=>?_,R.bQ.inj,O⟩,λk g v af al=>?_,R.hQ,R.gO,R.dQ,R.size,R.defers,?_,R.own,R.fix,R.fX⟩
 . have dv:=R.bQ.blk b x q;cases x with
   |box cs=>
    obtain⟨h0,vs,E,h1,f,u⟩:=dv;refine⟨h0,vs,E,(aa _ (lQ h1)).trans h1,f.imp λc v Q y=>bm.mono (n:=λ_=>true) e.mono (λ_ _=>rfl) (C.mo _) y,z b _ q h0⟩
   |arr sz es=>
    obtain⟨h1,f,u,B,bb⟩:=dv;refine⟨h1,f,u,B,λh0=>?_⟩;obtain⟨vs,E,A,H,K,L⟩:=bb h0;exact⟨vs,E,(aa _ (lQ A)).trans A,H,λi j D t he ht=>let⟨v,G,y⟩:=K i j D t he ht;⟨v,G,cg.mono e.mono y⟩,z b _ q h0⟩
   |set ks=>
    obtain⟨h0,⟨es,c,h1,f⟩,u⟩:=dv;exact⟨h0,⟨es,c,(aa _ (lQ h1)).trans h1,f⟩,z b _ q h0⟩
   |buf E s=>
    obtain⟨h1,f,u⟩:=dv;refine⟨h1,f,λh0=>?_⟩;grind
   |b8 E c=>
    obtain⟨h0,⟨p,v,h1,f,u⟩,B⟩:=dv;exact⟨h0,⟨p,v,(aa _ (lQ h1)).trans h1,f,bm.mono (n:=λ_=>true) e.mono (λ_ _=>rfl) (C.mo _) u⟩,z b _ q h0⟩
   |cC sz es i o c=>
    obtain⟨⟨h1,f,u,B,bb,M⟩,⟨vs,E,A,H,K,v,L,P⟩,U⟩:=dv;exact⟨⟨h1,f,u,B,bb,M⟩,⟨vs,E,(aa _ (lQ A)).trans A,H,λi j D t he ht aE=>let⟨v,G,y⟩:=K i j D t he ht aE;⟨v,G,cg.mono e.mono y⟩,v,L,bm.mono (n:=λ_=>true) e.mono (λ_ _=>rfl) (C.mo _) P⟩,z b _ q (by omega)⟩
 . obtain⟨x,q,y⟩:=R.gP k g v af al;exact⟨x,q,cq.mono e.mono (λ_ _=>rfl) (R.gO k g v af al) y⟩
 . refine⟨e.os.trans R.ext.os,e.tape.trans R.ext.tape,e.output.trans R.ext.output,g' R.ext.size e.size,λb aC dv=>?_,R.ext.mono.trans e.mono,λb j F=>?_⟩
   . exact(aa b (lZ aC R.ext.size)).trans (R.ext.block b aC dv)
   . rcases e.rU _ _ F with h|h|h
     . exact R.ext.rU b j h
     . exact h.elim
     . exact .inr (.inr (g' R.ext.size h))
theorem Xk(R:Rel aD nt φ S env J n a w){len:Nat}{parts:Array (Nat×Operand)}(Q:o.op= .buildSlice ty len parts)(W:P.underlying ty=some (.slice e)){sz:Nat}(V:eK P e=some sz)
 {z:List C}(Z:k1 P e=some z){ps:List (Nat×aP)}(U:pH parts.toList=some ps)(h0:sz≠0)(A:z.length=sz)(O:len*sz<=2^24)
 {p v J'}(af:n key=false)(h:aO (.bsliceT e sz len z ps) env J key=some (p,v,J'))(T:p):Good P aD nt env J' (ins n key) a v ((execOp a.eval o).run P w):=by
 simp only[aO,bq,bd,bE]at h;obtain⟨m,B,⟨q,ds⟩,k,rfl,rfl,rfl⟩:=h;obtain⟨i,g,d,ad,s,ae⟩:=vy (φ:=φ) (w:=w) (S:=S) (n:=n) Z;have ab:=tk B s;have aa:g.cells.size=sz:=by rw[<-rK,<-s.length,A]
 have l:0<sz:=by omega
 have ah:m.length=sz:=by rw[y1 B,A]
 obtain ⟨us,h1,I,r,K,bb,_⟩:= GJ R l U k T (es:= List.replicate len m) (vs:= ((Array.range (len*sz)).map (g.cells[· % g.cells.size]!)).toList) (by
  grind) (by simp) (by
  intro i j e t he ht;have d:=(c5.1 he).1;simp at d;have:e=m:=by
   have:=eM he;exact BL this
  subst this;have N:=(c5.1 ht).1;obtain⟨x,Y,f⟩:=ab.get ht;refine⟨x,?_,f⟩;rw[Fv,JT aa l i j d (by omega)]
  simpa using Y)
 simp at r;have ag:us.length=len*sz:=by rw[K];simp
 have u:len<=eH:=by
  have:len<=len*sz:=Fs len l;unfold eH;omega
 have y:∀b j,S b j->b<w.heap.size:=R.bQ.st;have D:gB w S (w.alloc (.cells us.toArray e)) (λb j=>S b j\/b=w.heap.size):=⟨λ_ _ h=>.inl h,λb j h=>qS (C3 (y b j h)) j⟩
 have E:Ext (λ_=>False) S (λb j=>S b j\/b=w.heap.size) w (w.alloc (.cells us.toArray e)):=
  ⟨rfl,rfl,rfl,by simp,λb k _=>C3 k,D,λb j h=>by grind⟩
 have F:=R.extend E (λb j h=>by
  rcases h with h|h
  . have:=y b j h;simp;omega
  simp_all)
 refine⟨.slice (some ⟨w.heap.size,0,none⟩) len len,φ,_,_,.inl ?_,?_,rfl,F.more λ_ h=>kE h⟩
 . have H:Instr.fill (λi=>some (i*sz,sz)) ((Array.range (len*sz)).map (g.cells[· % g.cells.size]!)) ((parts.map λ(i,x)=>(i,a.eval x)).toList)=some us.toArray:=by
    rw[Array.toList_map];exact h1
   have f:=TJ (P:=P) (w:=w) W V d ad h0 O rfl H;simp only[execOp,Q,Sem.run_bind,f,Result.andThen_ok];rfl
 . refine .c ?_;have L:ds.length=len:=r;show cg _ _ (.slice ds) _;rw[<-L]at u⊢;have M:∀j,(w.alloc (.cells us.toArray e)).cell? ⟨w.heap.size,j,none⟩=us[j]?:=λj=>jw p1 j;refine cg.slice ds _ _ sz w.heap.size 0 (λi j=>(us[i*sz+j]?).getD undef) (dU _) u I (λ_=>rfl) (λi j d N=>⟨.inr rfl,?_⟩) (λi j G t he ht=>?_)
   . rw[gm,M];have aC:i*sz+j<us.length:=by
      have:=e2 sz (show i+1<=ds.length from d);grind
     rw[eI aC];rfl
   . obtain⟨v,X,f⟩:=bb i j G t he ht;rw[X];exact cg.mono D f
theorem Wq{e8:Nat}(h:yY P ty=some e8):∃i z,P.info? ty=some i/\i.zero=some z/\z.cells=#[.pointer none,.slice none 0 0]:=by
 unfold yY at h;by_cases a:Ka P ty=true/\Ij P ty=true
 . obtain⟨_,a⟩:=a;unfold Ij at a;cases b:(P.info? ty).bind (·.zero)with
   |none=>rw[b]at a;cases a
   |some z=>
    rw[b]at a;simp only[bq]at b;obtain⟨i,c,b⟩:=b;refine⟨i,z,c,b,?_⟩;dsimp only at a;unfold JP at a;grind
 grind
theorem Yl(R:Rel aD nt φ S env J n a w)(A:o.op= .alloc ty){e8:Nat}(m:yY P ty=some e8)
 {p v J'}(r:n key=false)(t:n (key+1)=false)(h:aO (.allocS ty e8) env J key=some (p,v,J'))(E:p):Good P aD nt env J' (ins (ins n (key+1)) key) a v ((execOp a.eval o).run P w):=by
 simp only[aO,bI,bE]at h;obtain⟨rfl,rfl,rfl⟩:=h;obtain⟨i,z,q,B,D⟩:=Wq m;have u:∀j,¬S w.heap.size j:=λj h=>by have:=R.bQ.st _ _ h;omega
 have f:=(R.alloc (.cells #[.pointer none,.slice none 0 0] ty)).jZ t (x:= .buf e8 []) (0,0) rfl (by simp[c2,dC]) (by simp);have s:ins n (key+1) key=false:=by simp[ins,r]
 have g:=f.jZ s (x:= .b8 ty (.cI (key+1) 0)) (w.heap.size,1) (by simp[bP.aA,C.aA,ins]) (by
  simp only[c2,dC];refine⟨by simp,⟨.pointer none,.slice none 0 0,p1,.inl rfl,?_⟩,u⟩
  simp[bm,fM]) (λ_=>⟨λk y b h0=>by
   rw[cZ]at b;split at b
   . rename_i e;subst e;simp[dC]at h0
   . rename_i d;have l:(φ k).2≠0:=(by simpa[fM,dK d]using h0);have:=(R.bQ.blk k y b).kp l;simp only[fM,dK d,b7]
     omega,.inr R.ext.size⟩)
 refine⟨.pointer (some ⟨w.heap.size,0,none⟩),_,S,_,.inl ?_,.c ?_,by simp[V.aA,C.aA,ins],g⟩
 . simp[execOp,A,Instr.alloc,zeroValue,typeInfo,q,B,newVar,newRow,D]
 . simp[bm,dC]
theorem Tm(h:tq P t=true):∃k v i,P.underlying t=some (.map k v)/\P.underlying k=some .string/\P.info? v=some i/\i.zero=some (.bool false):=by
 unfold tq at h;split at h
 . rename_i k v d;simp only[cd]at h;obtain⟨h1,a⟩:=h;split at h1
   . rename_i c e;split at a
     . rename_i b;simp only[bq]at b;grind
     . cases a
   . cases h1
 . cases h
theorem X5(R:Rel aD nt φ S env J n a w)(f:o.op= .makeMap t none)
 {p v J'}(d:n key=false)(h:aO .mkset env J key=some (p,v,J'))(i:p):Good P aD nt env J' (ins n key) a v ((execOp a.eval o).run P w):=by
 simp only[aO,bI,bE]at h;obtain⟨rfl,rfl,rfl⟩:=h;have e:∀j,¬S w.heap.size j:=λj h=>by have:=R.bQ.st _ _ h;omega
 have b:=(R.alloc (.map #[] 0)).jZ d (x:= .set []) (w.heap.size,1) rfl (by
  simp only[c2,dC]
  exact⟨by simp,⟨[],0,p1,.nil⟩,e⟩) (λ_=>⟨λk y g h0=>by
   have:=(R.bQ.blk k y g).kp h0
   omega,.inr R.ext.size⟩)
 refine⟨.map (some w.heap.size),_,S,_,.inl ?_,.c ?_,by simp[V.aA,C.aA,ins],b⟩
 . simp[execOp,f,Instr.makeMap]
 . simp[bm,dC]
theorem Ym{s:ByteArray}{k:aj}:(s==(⟨k.toArray⟩:ByteArray))=decide (k=s.data.toList):=by
 rw[beq_toListBytes,ByteArray.toList_eq,ByteArray.toList_eq];grind
theorem HG(s:ByteArray):∀{ks:List aj} {es:List MapEntry} (i:Nat),AL ks es->
 (jh ks s.data.toList=false/\Instr.findNow .string (.string s) es i=some none)\/
 (jh ks s.data.toList=true/\∃j e,Instr.findNow .string (.string s) es i=some (some (i+j,.bool true))/\es[j]?=some e/\e.key= .string s/\e.val= .bool true)
 |_,_,i,.nil=>.inl ⟨rfl,rfl⟩
 |k::ks,e::es,i,.cons h o=>by
  obtain⟨h1,f⟩:=h;have a:(s==(⟨k.toArray⟩:ByteArray))=decide (k=s.data.toList):=Ym;by_cases b:k=s.data.toList
  . refine .inr ⟨by simp[jh,b],0,e,?_,rfl,?_,f⟩
    . rw[show decide (k=s.data.toList)=true by simp[b]]at a;simp only[Instr.findNow,h1,Instr.sameNow,a,f,l8]
    simp_all
  . rcases HG s (i+1) o with⟨c,d⟩|⟨c,j,g,d,l,m,n⟩
    . refine .inl ⟨by simpa[jh,b]using c,?_⟩;rw[show decide (k=s.data.toList)=false by simp[b]]at a;simp only[Instr.findNow,h1,Instr.sameNow,a];exact d
    . refine .inr ⟨by simpa[jh,b]using c,j+1,g,?_,by simpa using l,m,n⟩;rw[show decide (k=s.data.toList)=false by simp[b]]at a;simp only[Instr.findNow,h1,Instr.sameNow,a];grind
theorem CL{a:TypeId}(b:P.underlying a=some .string){s:ByteArray}{es:List MapEntry}{r:Option (Nat×Value)}(h:Instr.findNow .string (.string s) es 0=some r)(w:World):(Instr.findKey a (.string s) es).run P w= .ok r w:=by
 unfold Instr.findKey;simp only[Sem.run_bind,run_underlying b,Result.andThen_ok,h,Sem.run_pure]
theorem CA{a:TypeId}(c:P.underlying a=some .string){s:ByteArray}(b:Bool)(w:World):(Instr.checkKey b 10000 a (.string s)).run P w= .ok () w:=by
 show(Instr.checkKey b (9999+1) a (.string s)).run P w= .ok () w;unfold Instr.checkKey;simp only[Sem.run_bind,run_underlying c,Result.andThen_ok,Sem.run_pure]
theorem Cw{b:Nat}{es:Array MapEntry}{c:Nat}(h:w.heap[b]?=some (.map es c)):(getObj b).run P w= .ok (.map es c) w:=by simp[getObj,Sem.run,h]
theorem Jl{b:Nat}{es:Array MapEntry}{c:Nat}(o:Obj)(h:w.heap[b]?=some (.map es c)):(setObj b o).run P w= .ok () {w with heap:=w.heap.setIfInBounds b o}:=by
 simp[setObj,Sem.run,h]
theorem X6(R:Rel aD nt φ S env J n a w){x k:Operand}(q:o.op= .lookup t x k false)(ht:tq P t=true){l g:aP}(F:bN x=some l)(E:bN k=some g)
 {p v J'}(L:n key=false)(h:aO (.lkset l g) env J key=some (p,v,J'))(r:p):Good P aD nt env J' (ins n key) a v ((execOp a.eval o).run P w):=by
 simp only[aO,bq]at h;obtain⟨⟨Q,U⟩,C,⟨O,T⟩,B,he⟩:=h;simp only at he;obtain⟨N,I,i,u,c,D,G⟩:=Tm ht;split at he
 . rename_i b s;split at he
   . rename_i ks y;simp only[bI,bE]at he;obtain⟨rfl,rfl,rfl⟩:=he;have h1:a.eval x= .map (some (φ b).1):=(cB R F C r.1).1.eb;obtain⟨bs,m,rfl,_⟩:=cq.kt (cB R E B r.2).1;obtain⟨h0,⟨es,K,aa,z⟩,M⟩:=R.bQ.blk _ _ y;refine Good.pure R (x:= .bool (jh ks bs.data.toList)) ?_ (.sg _) rfl;have H:(zeroValue I).run P w= .ok (.bool false) w:=(by simp[zeroValue,typeInfo,D,G]);have A:=HG bs 0 z;rcases A with⟨d,f⟩|⟨d,j,e,f,_⟩
     . simp[execOp,q,h1,m,Instr.lookup,run_underlying u,Cw aa,CA c,CL c f,H,d]
     . simp[execOp,q,h1,m,Instr.lookup,run_underlying u,Cw aa,CA c,CL c f,d]
   . cases he
 . cases he
theorem YX{ks:List aj}{es:List MapEntry}(h:AL ks es)(s:ByteArray)(a:Nat):AL (ks++[s.data.toList]) (es++[{key:= .string s,val:= .bool true,born:=a}]):=
 h.append (.cons ⟨by cases s;simp,rfl⟩ .nil)
theorem a'.modify{c:Type}{R:α->c->Prop}{f:c->c}:∀{l:List α} {m:List c} {j:Nat},a' R l m->(∀a b,R a b->m[j]?=some b->R a (f b))->a' R l (m.modify j f)
 |_,_,_,.nil,_=>by simpa using a'.nil
 |_,_,0,.cons h e,k=>.cons (k _ _ h rfl) e
 |_,_,j+1,.cons h e,k=>by
  simp only[List.modify_succ_cons];exact .cons h (a'.modify e λa b o p=>k a b o (by simpa using p))
theorem X7(R:Rel aD nt φ S env J n a w){x k v0:Operand}(B:o.op= .mapUpdate t x k v0)(ht:tq P t=true)(r:HE v0=true){y u:aP}(V:bN x=some y)(N:bN k=some u)
 {p v J'}(ae:n key=false)(h:aO (.upset y u) env J key=some (p,v,J'))(C:p):Good P aD nt env J' (ins n key) a v ((execOp a.eval o).run P w):=by
 simp only[aO,bq]at h;obtain⟨⟨ak,an⟩,M,⟨aj,al⟩,L,he⟩:=h;simp only at he;obtain⟨ai,am,i,D,f,ad,ag⟩:=Tm ht;have E:a.eval v0= .bool true:=by
  unfold HE at r;split at r
  . rfl
  . cases r
 split at he
 . rename_i b s;split at he
   . rename_i ks A;simp only[bI,bE]at he;obtain⟨rfl,rfl,rfl⟩:=he;have h1:a.eval x= .map (some (φ b).1):=(cB R V M C.1).1.eb;obtain⟨bs,z,rfl,_⟩:=cq.kt (cB R N L C.2).1;obtain⟨h0,⟨es,c,aa,q⟩,Q⟩:=R.bQ.blk _ _ A;have aC:=lQ aa;have W:∃es' g,(execOp a.eval o).run P w= .ok .skip {w with heap:=w.heap.setIfInBounds (φ b).1 (.map es' g)}/\AL (iW ks bs.data.toList) es'.toList:=by
      have K:=HG bs 0 q;rcases K with⟨l,d⟩|⟨l,j,e,d,F,G,Z⟩
      . refine⟨es.toArray.push {key:= .string bs,val:= .bool true,born:=c},c+1,?_,?_⟩
        . simp[execOp,B,h1,z,E,Instr.mapUpdate,run_underlying D,Cw aa,CA f,CL f d,Jl _ aa]
        . simp only[iW,l,bV,b7,List.push_toArray,Array.toList_push];simpa using YX q bs c
      . refine⟨es.toArray.modify j λe=>{e with key:= .string bs,val:= .bool true},c,?_,?_⟩
        . have U:Instr.sameBits 10000 (Value.string bs) (Value.string bs)=true:=by
           show Instr.sameBits (9999+1) _ _=true;simp only[Instr.sameBits];rw[beq_toListBytes];simp
          have O:∀w,(Instr.keyThatStays (Value.string bs) (Value.string bs)).run P w= .ok (Value.string bs) w:=by intro w;unfold Instr.keyThatStays;rw[U];rfl
          rw[gm]at d;simp[execOp,B,h1,z,E,Instr.mapUpdate,run_underlying D,Cw aa,CA f,CL f d,Jl _ aa,F,G,O]
        . simp only[iW,l,bS];rw[Array.toList_modify];refine a'.modify q λah Y af ab=>?_;grind
     obtain⟨es',g,T,I⟩:=W;refine⟨undef,φ,S,_,.inr ⟨T,rfl⟩,.undef,rfl,Rel.more ?_ λ_ h=>kE h⟩;refine R.rewrite A h0 rfl rfl rfl rfl (by simp) (λX H=>by simp[R0,dK H]) (λm=>?_);exact⟨h0,⟨es'.toList,g,by simp[aC],I⟩,Q⟩
   . cases he
 . cases he
theorem Xz{st k:TypeId}{i:TypeInfo}{c:Value}(u:P.underlying st=some (.slice e))(A:P.underlying k=some .string)(g:P.info? e=some i)(B:i.zero=some c)(D:c.cells.size=i.size)
 {base:Option Addr}{sl sc a:Nat}{y:Value}{xs f:List Value}(z:(Builtin.lenOf y).run P w= .ok a w)
 (v:(Builtin.firstCells i.size sl (.slice base sl sc)).run P w.drew= .ok xs.toArray w.drew)(x:(Builtin.firstCells i.size a y).run P w.drew= .ok f.toArray w.drew)
 (s:sc<sl+a)(n:lH (sl+a) i.bytes)(p:sl+a<=eH){tt:TypeId}:
 ∃(b:Nat) (r:List Value),sl+a<=b/\r.length=(b-(sl+a))*i.size/\
  (Builtin.append_ #[st,k] tt #[.slice base sl sc,y]).run P w= .ok (.slice (some ⟨w.heap.size,0,none⟩) (sl+a) b) (w.drew.alloc (.cells (xs++f++r).toArray e)):=by
 have t:∀w,(sizeOf e).run P w= .ok i.size w:=λw=>by simp[sizeOf,typeInfo,g]
 have d:∀w,(typeInfo e).run P w= .ok i w:=λw=>by simp[typeInfo,g]
 have C:∀w,(zeroValue e).run P w= .ok c w:=λw=>by simp[zeroValue,d,B]
 generalize j:(Question.appendCap (sl+a) sc e).cut (w.tape w.drawn (Question.appendCap (sl+a) sc e))=b;have q:sl+a<=b:=by rw[<-j];simp[Question.cut]
 have h1:¬(sl+a<=sc):=by omega
 have l:¬(((sl+a:Nat):Int)>IntKind.i64.max/\(False\/i.bytes=0)):=by intro h;have:=h.1;simp[IntKind.max,IntKind.signed,IntKind.bits]at this;unfold eH at p;omega
 have m:¬(Builtin.nextslicecap (sl+a) sc*i.bytes>2^48):=by
  exact n.not s
 refine⟨b,(Builtin.zeroCells c.cells (b-(sl+a))).toList,q,by simp[TK,D],?_⟩;have o:(choose (.appendCap (sl+a) sc e)).run P w= .ok b w.drew:=by rw[run_choose];simp only[Question.forced,bV,b7,j];rfl
 have aI:(xs++f++(Builtin.zeroCells c.cells (b-(sl+a))).toList).toArray=xs.toArray++f.toArray++Builtin.zeroCells c.cells (b-(sl+a)):=by grind
 rw[aI];unfold Builtin.append_;simp only[BP,yn,BM,Sem.run_bind,run_underlying u,run_underlying A,Result.andThen_ok,t,Sem.run_pure,bV,b7,z,ak h1,d];rw[ak (by simpa using l)];simp only[Sem.run_bind,Sem.run_pure,Result.andThen_ok,d];rw[ak m];simp only[Sem.run_bind,Sem.run_pure,Result.andThen_ok,d,o,run_askRoom,v,x,C,eN,bS];simp only[newRow,Sem.run_bind,run_newObj,Result.andThen_ok,Sem.run_pure];rfl
theorem SB{st c:TypeId}{i:TypeInfo}(l:P.underlying st=some (.slice e))(o:P.underlying c=some .string)(g:P.info? e=some i)
 {base:Option Addr}{sl sc b:Nat}{y:Value}{d:List Value}(n:(Builtin.lenOf y).run P w= .ok b w)(m:(Builtin.firstCells i.size b y).run P w= .ok d.toArray w)(j:sl+b<=sc){w':World}
 (hs:∀a,base=some a->(storeCells (a.add (sl*i.size)) d 0).run P w= .ok () w') (f:base=none->w'=w) {tt:TypeId}:
  (Builtin.append_ #[st,c] tt #[.slice base sl sc,y]).run P w= .ok (.slice base (sl+b) sc) w':=by
 have k:∀w,(sizeOf e).run P w= .ok i.size w:=λw=>by simp[sizeOf,typeInfo,g]
 unfold Builtin.append_;simp only[BP,yn,BM,Sem.run_bind,run_underlying l,run_underlying o,Result.andThen_ok,k,Sem.run_pure,bV,b7,n,ae j,m,eN,bS];cases base with
 |none=>rw[f rfl];rfl
 |some a=>
  simp only[Sem.run_bind,hs a rfl,Result.andThen_ok];rfl
theorem Xc(w:World)(bs:ByteArray):(Builtin.firstCells 1 bs.size (.string bs)).run P w= .ok (bs.data.toList.map λb=>Value.int .u8 b.toNat).toArray w:=by
 have e:(bs.extract 0 bs.size).data=bs.data:=by simp_all
 simp only[Builtin.firstCells,e,Sem.run_pure]
 congr 1
 grind
theorem Yn(l:aj):∀x,x∈(l.map λb=>Value.int .u8 b.toNat)->x.oneCell'=true:=by
 intro x a;simp only[eJ]at a;obtain⟨b,_,rfl⟩:=a;rfl
theorem Xl(R:Rel aD nt φ S env J n a w){x y:Operand}{st T e:TypeId}(ax:o.op= .call {callee:= .builtin .append,args:=#[x,y],argTypes:=#[st,T]})
 (L:P.underlying st=some (.slice e))(O:P.underlying T=some .string){i:TypeInfo}(G:P.info? e=some i)(B:i.size=1)(ah:(i.zero.map (·.cells.size))=some 1)
 {U W:aP}(aC:bN x=some U)(d:bN y=some W)
 {p v J'}(g:n key=false)(h:aO (.appendB e i.bytes U W) env J key=some (p,v,J'))(ay:p):Good P aD nt env J' (ins n key) a v ((execOp a.eval o).run P w):=by
 simp only[aO,bq]at h;obtain⟨⟨aZ,a1⟩,ar,⟨a0,a2⟩,au,he⟩:=h;simp only at he;simp only[bd]at ah;obtain⟨a3,aH,aG⟩:=ah;have K:∀r w',(Builtin.append_ #[st,T] o.type #[a.eval x,a.eval y]).run P w= .ok r w'->(execOp a.eval o).run P w= .ok (.value r) w':=by
  intro r w' l;simp[execOp,ax,Go.resolve,invoke,builtin,l]
 have aw:∀b,w.heap.size<=b->∀j,¬S b j:=λb Y j aF=>by have:=R.bQ.st _ _ aF;omega
 split at he
 . rename_i b len s;split at he
   . rename_i u es q;simp only[bI,bE]at he;obtain⟨rfl,rfl,rfl⟩:=he;obtain⟨az,aA,rfl,rfl,ad,A⟩:=ay;obtain⟨aU,ai,aj⟩:=(cB R aC ar az).1.eb;obtain⟨bs,ab,rfl,_⟩:=cq.kt (cB R d au aA).1;have m:bs.data.toList.length=bs.size:=by rw[<-q1]
     have an:=R.bQ.blk _ _ q;obtain⟨aQ,aR,X⟩:=an;have N:∀w,(Builtin.lenOf (a.eval y)).run P w= .ok bs.size w:=by intro w;simp[ab,Builtin.lenOf]
     have Q:∀w,(Builtin.firstCells i.size bs.size (a.eval y)).run P w= .ok (bs.data.toList.map λb=>Value.int .u8 b.toNat).toArray w:=by intro w;rw[ab,B];exact Xc w bs
     by_cases ag:es.length+bs.size<=(φ b).2
     . by_cases f:(φ b).2=0
       . have z:es=[]:=jE (by omega);have Z:bs.data.toList=[]:=jE (by omega);have t:=ai f;have l:=SB (P:=P) (w:=w) (tt:=o.type) L O G (base:=none) (sl:=0) (sc:=0) (N w) (Q w) (by omega) (w':=w) (λam F=>by cases F) (λ_=>rfl);rw[<-t]at l;have R':=(R.del b).jZ g (x:= .buf u (es++bs.data.toList)) (0,0) rfl (by rw[Z,z];simp only[c2,dC];exact⟨by simp,by simp,by simp⟩) (by simp);refine⟨_,_,S,w,.inl (K _ _ l),.c ?_,by simp[V.aA,C.aA,ins],R'⟩;rw[Z,z];have ap:bs.size=0:=(by omega);refine⟨by simp,λ_=>?_,λh=>?_⟩
         . rw[ap]
         . simp[dC]at h
       . obtain⟨⟨vs,aa,M,aB⟩,I⟩:=X f;have t:=aj f;have af:es.length+(bs.data.toList.map λb=>Value.int .u8 b.toNat).length<=vs.length:=by simp only[gH,m,M];exact ag
         obtain⟨w',aV,aJ,aK,aL,aM,ak,aN⟩:=nF (P:=P) (bs.data.toList.map λb=>Value.int .u8 b.toNat) es.length 0 vs w aa (by omega) (Yn _);rw[l8]at ak
         have l:=SB (P:=P) (w:=w) (tt:=o.type) L O G (base:=some ⟨(φ b).1,0,none⟩) (sl:=es.length) (sc:=(φ b).2) (N w) (Q w) ag (w':=w') (λam F=>by
          cases F;have aT:Addr.add ⟨(φ b).1,0,none⟩ (es.length*i.size)=⟨(φ b).1,es.length,none⟩:=by rw[B,Nat.mul_one];unfold Addr.add;split<;>simp_all
          grind) (λY=>by cases Y)
         rw[<-t]at l
         have D:=(R.del b).world (w':=w') (λk=>k=(φ b).1) aJ aK aL (wH aM.symm) (λk _ g=>aN k g) (λk g=>by
          subst g;refine⟨I,λk y d g=>?_,R.own b _ q f⟩;rw[fU]at d;split at d
          . cases d
          . rename_i H
            exactλe=>R.bQ.inj k b y _ d q (dK H) g f e)
         have E:=D.jZ g (x:= .buf u (es++bs.data.toList)) (φ b) rfl (by
          simp only[c2,dC];refine⟨by simp[m];omega,by rw[cJ];exact A,λ_=>⟨⟨_,ak,by rw[p5 af];exact M,?_⟩,I⟩⟩;intro aY c aq;rw[mJ af]
          grind) (λ_=>⟨λk y d g=>by
           rw[fU]at d;split at d
           . cases d
           . rename_i H
             exact R.bQ.inj k b y _ d q (dK H) g f,R.own b _ q f⟩)
         refine⟨_,_,S,w',.inl (K _ _ l),.c ?_,by simp[V.aA,C.aA,ins],E⟩;refine⟨by simp[dC,m];omega,λh=>?_,λ_=>?_⟩
         . simp[dC,f]at h
         . simp[dC,m]
     . have D:=R.drew;have ao:∃base,a.eval x= .slice base es.length (φ b).2/\∃xs:List Value,(Builtin.firstCells i.size es.length (.slice base es.length (φ b).2)).run P w.drew= .ok xs.toArray w.drew/\xs.length=es.length/\∀(i:Nat) c,es[i]?=some c->xs[i]?=some (.int .u8 (UInt8.toNat c)):=by
        by_cases f:(φ b).2=0
        . have z:es=[]:=jE (by omega);subst z;exact⟨none,by rw[ai f,f];rfl,[],by simp[Builtin.firstCells],rfl,by simp⟩
        . obtain⟨⟨vs,aa,M,aB⟩,I⟩:=X f;refine⟨_,aj f,vs.take es.length,?_,by simp;omega,λj c aq=>?_⟩
          . rw[B];show(loadCells ⟨(φ b).1,0,none⟩ (es.length*1)).run P w.drew=_;rw[Nat.mul_one];refine ze (by simp;omega) (λj av=>?_);rw[gm,lv,ae av];exact jw (w:=w.drew) aa j
          grind
       obtain⟨base,t,xs,aE,aW,aX⟩:=ao;obtain⟨aI,r,h1,aS,l⟩:=Xz (P:=P) (w:=w) (tt:=o.type) L O G aH (by rw[aG,B]) (N w) aE (Q w.drew) (by omega) (by rw[m]at ad;exact ad) (by rw[m]at A;exact A);rw[<-t]at l;have E:=(D.del b).alloc (.cells (xs++(bs.data.toList.map λb=>Value.int .u8 b.toNat)++r).toArray u)
       have al:=E.jZ g (x:= .buf u (es++bs.data.toList)) (w.heap.size,aI) rfl (by
        simp only[c2,dC];refine⟨by simp[m];omega,by rw[cJ];exact A,λ_=>⟨⟨_,p1,?_,?_⟩,aw _ (dU _)⟩⟩
        . grind
        grind) (λ_=>⟨λk y d h0=>by
         rw[fU]at d;split at d
         . cases d
         . have:=(R.bQ.blk k y d).kp h0
           simp;omega,.inr R.ext.size⟩)
       refine⟨_,_,S,_,.inl (K _ _ l),.c ?_,by simp[V.aA,C.aA,ins],al⟩;refine⟨by simp[dC,m];omega,λh=>?_,λ_=>?_⟩
       . simp[dC]at h;omega
       . simp[dC,m]
   . cases he
 . cases he
theorem X8(R:Rel aD nt φ S env J n a w){x:Operand}{t:TypeId}(e:o.op= .call {callee:= .builtin .unsafeSliceData,args:=#[x],argTypes:=#[t]}){d:aP}(i:bN x=some d)
 {p v J'}(l:n key=false)(h:aO (.sdata d) env J key=some (p,v,J'))(g:p):Good P aD nt env J' (ins n key) a v ((execOp a.eval o).run P w):=by
 simp only[aO,bq]at h;obtain⟨⟨q,r⟩,f,he⟩:=h;simp only at he;split at he
 . rename_i b len;simp only[bI,bE]at he;obtain⟨rfl,rfl,rfl⟩:=he;have al:=cB R i f g;obtain⟨m,j,k⟩:=al.1.eb;by_cases h0:(φ b).2=0
   . refine Good.pure R (x:= .pointer none) ?_ (.c ⟨none,rfl,λh=>absurd h0 h⟩) (by simpa[V.aA,C.aA]using al.2);simp[execOp,e,Go.resolve,invoke,builtin,j h0,Go.Lib.run_unsafeSliceData_nil]
   . refine Good.pure R (x:= .pointer (some ⟨(φ b).1,0,none⟩)) ?_ (.c ⟨_,rfl,λ_=>rfl⟩) (by simpa[V.aA,C.aA]using al.2);simp[execOp,e,Go.resolve,invoke,builtin,k h0,Go.Lib.run_unsafeSliceData_row _ _ _ _ _ _ h0]
 . cases he
theorem X9{b m:Nat}{a:Addr}(c:b≠a.block):(w.freeze a m).heap[b]?=w.heap[b]?:=by
 unfold World.freeze;grind
theorem Yo(a:Addr)(m:Nat):(w.freeze a m).os=w.os/\(w.freeze a m).tape=w.tape/\(w.freeze a m).output=w.output/\(w.freeze a m).heap.size=w.heap.size:=by
 unfold World.freeze;grind
theorem YY(R:Rel aD nt φ S env J n a w){x y:Operand}{cE l e:TypeId}(O:o.op= .call {callee:= .builtin .unsafeString,args:=#[x,y],argTypes:=#[cE,l]})
 (W:P.underlying cE=some (.pointer e))(K:P.cellsOf e=1){t u:aP}(Z:bN x=some t)(f:bN y=some u)
 {p v J'}(d:n key=false)(h:aO (.ustr e t u) env J key=some (p,v,J'))(Q:p):Good P aD nt env J' (ins n key) a v ((execOp a.eval o).run P w):=by
 simp only[aO,bq]at h;obtain⟨⟨ak,am⟩,L,⟨al,an⟩,M,he⟩:=h;simp only at he;split at he
 . rename_i b m;split at he
   . rename_i z es q;simp only[bI,bE]at he;obtain⟨rfl,rfl,rfl⟩:=he;obtain⟨T,U,rfl,rfl⟩:=Q;obtain⟨ab,h1,V⟩:=(cB R Z L T).1.eb;have B:a.eval y= .int .i64 es.length:=(cB R f M U).1.gz;have G:=R.bQ.blk _ _ q;obtain⟨ah,A,F⟩:=G;have D:∀w',cg w' S (.str es) (.string ⟨es.toArray⟩):=by
      intro w';have:=cg.str (w:=w') (S:=S) (⟨es.toArray⟩:ByteArray) (by rw[<-q1];unfold eH at A;unfold eC;simp;omega);omega
     have C:∀r w',(Builtin.unsafeString_ #[cE,l] o.type #[a.eval x,a.eval y]).run P w= .ok r w'->(execOp a.eval o).run P w= .ok (.value r) w':=by
      intro r w' s;simp[execOp,O,Go.resolve,invoke,builtin,s]
     by_cases g:es=[]
     . subst g;refine⟨.string ⟨#[]⟩,φ,S,w,.inl (C _ _ ?_),.c (D w),rfl,(R.del b).more λ_ h=>kE h⟩;rw[h1,B];exact Go.Lib.run_unsafeString_none w cE l o.type ab
     . have ai:0<es.length:=uh.2 g;have i:(φ b).2≠0:=(by omega);obtain⟨⟨vs,aa,aj,Y⟩,N⟩:=F i;have X:w.shape? (φ b).1=some (z,vs.length):=by simp[World.shape?,aa]
       have s:=Go.Lib.run_unsafeString_row (P:=P) w cE l o.type z W K (φ b).1 vs.length X es g (by omega) (by unfold eH at A;omega) (λj c I=>by
        have H:Addr.add ⟨(φ b).1,0,none⟩ j=⟨(φ b).1,j,none⟩:=by unfold Addr.add;split<;>simp_all
        rw[H,jw aa];exact Y j c I)
       obtain⟨ad,ae,af,ag⟩:=Yo (w:=w) ⟨(φ b).1,0,none⟩ es.length
       have E:=(R.del b).world (w':=w.freeze ⟨(φ b).1,0,none⟩ es.length) (λk=>k=(φ b).1) ad ae af (wH ag.symm) (λk _ d=>X9 d) (λk d=>by
        subst d;refine⟨N,λk y f d=>?_,R.own b _ q i⟩;rw[fU]at f;split at f
        . cases f
        . rename_i g
          exactλe=>R.bQ.inj k b y _ f q (dK g) d i e)
       refine⟨.string ⟨es.toArray⟩,φ,S,_,.inl (C _ _ ?_),.c (D _),rfl,E.more λ_ h=>kE h⟩;rw[h1,V i,B];exact s
   . cases he
 . cases he
end
section
variable {P:Program}{aD:Ctx}{nt:Nat}{φ:dG}{S:dV}{env:Env}{J:a7}{n:Nat->Bool}{key:Nat}{a:Act}{w:World}
theorem vS{x:Array α}{a b:α}(h:x.toList=[a,b]):x=#[a,b]:=by grind
theorem D6{x:Array α}{a:α}(h:x.toList=[a]):x=#[a]:=by grind
theorem YZ(R:Rel aD nt φ S env J n a w)(q:o.op= .call c){D:cL}(b:mH P c=some D)
 {p v J'}(m:n key=false)(h:aO D env J key=some (p,v,J'))(r:p):Good P aD nt env J' (ins n key) a v ((execOp a.eval o).run P w):=by
 obtain⟨callee,args,argTypes⟩:=c;unfold mH at b;split at b
 . rename_i f;split at b
   . rename_i x t d ht;simp only at f d ht;have d:=D6 d;have ht:=D6 ht;subst f;subst d;subst ht;split at b
     . rename_i k;simp only[bd]at b;obtain⟨s,g,rfl⟩:=b;exact Kd (str:=true) R q (by simpa using k) g m h r
     . rename_i e k;simp only[bd]at b;obtain⟨s,g,rfl⟩:=b;exact Kd (str:=false) R q (by simpa using⟨e,k⟩) g m h r
     . cases b
   . cases b
 . rename_i f;split at b
   . rename_i x y t u d ht;simp only at f d ht;have d:=vS d;have ht:=vS ht;subst f;subst d;subst ht;split at b
     . rename_i e k C;simp only[bq,dE,bI]at b;obtain⟨i,B,s,g,z,j,⟨h1,A,E⟩,rfl⟩:=b;exact Xl R q k C B h1 A g j m h r
     . rename_i e F k C;simp only[bq,dE,bI]at b;obtain⟨i,B,s,g,z,j,⟨h1,A⟩,rfl⟩:=b;exact Yi R q k C B h1 A g j m h r
     . cases b
   . cases b
 . rename_i f;split at b
   . rename_i x y d;simp only at f d;have d:=vS d;subst f;subst d;simp only[bq,bd]at b;obtain⟨s,g,z,j,rfl⟩:=b;exact Zp R q g j m h r
   . cases b
 . rename_i f;split at b
   . rename_i x y d;simp only at f d;have d:=vS d;subst f;subst d;simp only[bq,bd]at b;obtain⟨s,g,z,j,rfl⟩:=b;exact Zq R q g j m h r
   . cases b
 . rename_i f;split at b
   . rename_i x t d ht;simp only at f d ht;have d:=D6 d;have ht:=D6 ht;subst f;subst d;subst ht;split at b
     . simp only[dE,bd]at b;obtain⟨_,s,g,rfl⟩:=b;exact X8 R q g m h r
     . cases b
   . cases b
 . rename_i f;split at b
   . rename_i x y t u d ht;simp only at f d ht;have d:=vS d;have ht:=vS ht;subst f;subst d;subst ht;split at b
     . rename_i e k;simp only[dE,bq,bd]at b;obtain⟨⟨_,_,E⟩,s,g,z,j,rfl⟩:=b;exact YY R q k E g j m h r
     . cases b
   . cases b
 . split at b
   . simp only[bd]at b;obtain⟨l,af,rfl⟩:=b;simp[aO]at h
   . cases b
 . simp only[bd]at b;obtain⟨l,af,rfl⟩:=b;simp[aO]at h
 . cases b
theorem Good.mono{v:V}{J':a7}{c9 c:Nat->Bool}(h:∀b,c9 b=true->c b=true){r:Result Next}(g:Good P aD nt env J' c9 a v r):Good P aD nt env J' c a v r:=by
 obtain⟨x,j,bR,w',h1,e,f,R'⟩:=g;exact⟨x,j,bR,w',h1,e,V.hv h f,R'.more h⟩
theorem X'(R:Rel aD nt φ S env J n a w){T:cL}(b:c6 P o.op=some T)
 (ah:∀e e8,T≠.allocS e e8){p v J'}(l:n key=false)(h:aO T env J key=some (p,v,J'))(A:p):Good P aD nt env J' (ins n key) a v ((execOp a.eval o).run P w):=by
 generalize q:o.op=op at b;cases op with
 |move x=>simp only[c6,bd]at b;obtain⟨B,j,rfl⟩:=b;exact Kb R (.inl q) j l h A
 |assign x=>simp only[c6,bd]at b;obtain⟨B,j,rfl⟩:=b;exact Kb R (.inr q) j l h A
 |pick c x y=>
  simp only[c6,bq,bd]at b;obtain⟨ac,Z,B,j,H,E,rfl⟩:=b;exact Zl R q Z j E l h A
 |alloc e=>
  simp only[c6]at b;split at b
  . cases b;exact absurd rfl (ah _ _)
  . simp only[bq]at b;obtain⟨cs,W,b⟩:=b;split at b
    . split at b
      . rename_i Z;cases b;exact Yk R q W (by omega) (by omega) l h A
      . cases b;exact JS R q W l h A
    . cases b;exact JS R q W l h A
 |box e x=>simp only[c6,bd]at b;obtain⟨B,j,rfl⟩:=b;exact aaN R q j l h A
 |build t parts=>
  simp only[c6]at b;split at b
  . rename_i fs I;simp only[dE,bq,bd]at b;obtain⟨h1,z,L,ps,K,rfl⟩:=b;exact X3 R q I h1 L K l h A
  . simp only[bq,bd]at b;rename_i len e C;obtain⟨z,L,m,D,ps,K,rfl⟩:=b;exact Xb R q C D L K l h A
  . cases b
 |buildSlice t len parts=>
  simp only[c6]at b;split at b
  . rename_i e C;simp only[bq,dE,bI]at b;obtain⟨m,D,z,L,ps,K,⟨h1,U,V⟩,rfl⟩:=b;exact W4 R q C D L K h1 U V l h A
  . cases b
 |load t x=>
  simp only[c6,bq,bd]at b;obtain⟨g,al,B,j,rfl⟩:=b;exact Zw R q al j l h A
 |store t x y=>
  simp only[c6,bq,bd]at b;obtain⟨m,D,B,j,H,E,rfl⟩:=b;exact X2 R q D j E l h A
 |nilCheck x=>simp only[c6,bd]at b;obtain⟨B,j,rfl⟩:=b;exact Xa R q j l h A
 |binOp op t x y am=>
  simp only[c6]at b;split at b
  . rename_i ab;split at b
    . simp only[bq,bd]at b;obtain⟨ks,ag,B,j,H,E,rfl⟩:=b;exact X1 R q ab ag j E l h A
    . simp only[dE,bd]at b;obtain⟨_,B,j,rfl⟩:=b;simp[aO]at h
    . rename_i C;simp only[bq,bd]at b;obtain⟨B,j,H,E,rfl⟩:=b;exact W2 R q ab C j E l h A
    . simp only[bq,bd]at b;obtain⟨B,j,H,E,rfl⟩:=b;exact HA R q j E l h A
    . simp only[bq,bd]at b;obtain⟨B,j,H,E,rfl⟩:=b;exact HA R q j E l h A
    . cases b
  . simp only[bq,bd]at b;obtain⟨B,j,H,E,rfl⟩:=b;exact HA R q j E l h A
 |unOp u t x=>
  cases u<;>simp only[c6,bd,reduceCtorEq]at b
  . split at b
    . simp only[bd]at b;obtain⟨B,j,rfl⟩:=b;exact ZK R q j l h A
    . cases b
  . split at b
    . simp only[bd]at b;obtain⟨B,j,rfl⟩:=b;exact ZL R q j l h A
    . cases b
  . obtain⟨B,j,rfl⟩:=b;exact ZJ R q j l h A
 |convert s d x=>
  simp only[c6]at b;split at b
  . rename_i hs G;simp only[bd]at b;obtain⟨B,j,rfl⟩:=b;exact Zn R q hs G j l h A
  . rename_i hs G;simp only[bd]at b;obtain⟨B,j,rfl⟩:=b;exact ZM R q hs G j l h A
  . rename_i hs G;simp only[bd]at b;obtain⟨B,j,rfl⟩:=b;exact ZN R q hs G j l h A
  . rename_i e hs G;simp only[dE,bd]at b;obtain⟨⟨he,O⟩,B,j,rfl⟩:=b;have ae:P.underlying e=some (.int .u8):=(by grind);exact aaP R q hs ae G j l h A
  . cases b
 |fieldAddr t x f=>
  simp only[c6]at b;split at b
  . rename_i fs I;simp only[bq,BG,bd]at b;obtain⟨ad,X,m,D,N,B,j,rfl⟩:=b;exact Zo R q I X D N j l h A
  . cases b
 |field t x f=>
  simp only[c6]at b;split at b
  . rename_i fs I;simp only[bq,bd]at b;obtain⟨ad,X,g,al,B,j,rfl⟩:=b;obtain⟨h1,U,V⟩:=Jg al;exact ZO R q I X U h1 V j l h A
  . cases b
 |indexAddr t x i=>
  simp only[c6]at b;split at b
  . rename_i e C;simp only[bq,BG,bd]at b;obtain⟨m,D,N,B,j,M,F,rfl⟩:=b;exact Zr R q C D N j F l h A
  . rename_i k e C;split at b
    . simp only[dE,bq,bd]at b;obtain⟨h0,s,hs,B,j,rfl⟩:=b;exact YT R q C h0 hs j l h A
    . simp only[dE,bq,bd]at b;obtain⟨O,B,j,M,F,rfl⟩:=b;exact YS R q C O j F l h A
  . cases b
 |index t x i=>
  simp only[c6]at b;split at b
  . rename_i C;simp only[bq,bd]at b;obtain⟨B,j,M,F,rfl⟩:=b;exact Zs R q C j F l h A
  . cases b
 |slice t x aj F ak=>
  simp only[c6]at b;split at b
  . rename_i C;simp only[dE,bq,bd,Option.isNone_iff_eq_none]at b;obtain⟨rfl,B,j,Q,af,Y,aa,rfl⟩:=b;exact Zu R q C j af aa l h A
  . rename_i e C;split at b
    . simp only[bq,BG,bd]at b;obtain⟨m,D,N,B,j,Q,af,Y,aa,rfl⟩:=b;exact aaK R q C D j af aa l h A
    . split at b
      . simp only[dE,bd]at b;obtain⟨h0,B,j,rfl⟩:=b;obtain⟨m,D⟩:=yH.1 h0;exact Zv R q C D j l h A
      . cases b
    . cases b
  . rename_i k e C;simp only[dE,bq,bd,Option.isNone_iff_eq_none]at b;obtain⟨⟨rfl,O⟩,B,j,Q,af,Y,aa,rfl⟩:=b;exact YU R q C O j af aa l h A
  . cases b
 |makeFunc fn first caps=>
  cases fn<;>simp only[c6,dE,bd,reduceCtorEq]at b;obtain⟨h1,Q,af,rfl⟩:=b;have:first=#[]:=by simpa using h1
  subst this;exact Zt R q af l h A
 |extract x i=>simp only[c6,bd]at b;obtain⟨B,j,rfl⟩:=b;exact Zy R q j l h A
 |makeMap t r=>
  cases r with
  |some _=>simp[c6]at b
  |none=>
   simp only[c6,dE,bI]at b;obtain⟨_,rfl⟩:=b;exact X5 R q l h A
 |lookup t x i c=>
  cases c with
  |true=>simp[c6]at b
  |false=>
   simp only[c6,dE,bq,bd]at b;obtain⟨ht,B,j,M,F,rfl⟩:=b;exact X6 R q ht j F l h A
 |mapUpdate t m k v0=>
  simp only[c6,dE,bq,bd]at b;obtain⟨⟨ht,ai⟩,B,j,M,F,rfl⟩:=b;exact X7 R q ht ai j F l h A
 |call c=>simp only[c6]at b;exact YZ R q b l h A
 |_=>simp[c6]at b
def eD(n:Nat->Bool)(k:Nat):Nat->Bool:=λb=>n b||(decide (k<=b)&&decide (b<k+16))
theorem lT{b:Nat}(h:n b=true):eD n key b=true:=by simp[eD,h]
theorem MG{b:Nat}(h:ins n key b=true):eD n key b=true:=by
 simp only[ins,hW,iQ]at h;simp only[eD,hW,cd,dw];grind
theorem TM{b:Bool}{a:cL}(h:wo P b op=some a):c6 P op=some a\/∃t len parts e m z ps,op= .buildSlice t len parts/\P.underlying t=some (.slice e)/\eK P e=some m/\k1 P e=some z/\pH parts.toList=some ps/\m≠0/\z.length=m/\len*m<=2^24/\a= .bsliceT e m len z ps:=by
 unfold wo at h;split at h
 . split at h
   . rename_i e c;simp only[bq,dE,bI]at h;grind
   . cases h
 grind
theorem Wr{e e8:Nat}(h:c6 P op=some (.allocS e e8)):op= .alloc e/\yY P e=some e8:=by
 cases op with
 |alloc j=>
  simp only[c6]at h;split at h
  . rename_i f;cases h;exact⟨rfl,f⟩
  . simp only[bq]at h;obtain⟨cs,k,h⟩:=h;split at h
    . split at h<;>cases h
    . cases h
 |buildSlice t len parts=>
  simp only[c6]at h;split at h
  . simp only[bq,dE,bI]at h;obtain⟨m,g,z,b,ps,a,_,h⟩:=h;cases h
  . cases h
 |build t parts=>
  simp only[c6]at h;split at h
  . simp only[dE,bq,bd]at h;obtain⟨h1,z,b,ps,a,h⟩:=h;cases h
  . simp only[bq,bd]at h;obtain⟨z,b,m,g,ps,a,h⟩:=h;cases h
  . cases h
 |call c=>
  simp only[c6]at h;unfold mH at h
  repeat' (first|(split at h)|(cases h;done))
  all_goals (try (cases h;done))
  all_goals simp only[bq,bd,dE,bI,reduceCtorEq,kn,mT,wJ]at h
 |binOp op t x y l=>
  simp only[c6]at h
  repeat' (first|(split at h)|(cases h;done))
  all_goals (try (cases h;done))
  all_goals simp only[bq,bd,dE,bI,reduceCtorEq,kn,mT,wJ]at h
 |unOp u t x=>
  cases u<;>simp only[c6]at h
  all_goals repeat' (first|(split at h)|(cases h;done))
  all_goals (try (cases h;done))
  all_goals simp only[bq,bd,dE,bI,reduceCtorEq,kn,mT,wJ]at h
 |makeMap t r=>cases r<;>simp only[c6,reduceCtorEq,dE,bI,kn]at h
 |lookup t x i c=>cases c<;>simp only[c6,reduceCtorEq,dE,bq,bd,kn,mT]at h
 |makeFunc fn first caps=>cases fn<;>simp only[c6,dE,bd,reduceCtorEq,kn,mT]at h
 |convert s d x=>
  simp only[c6]at h
  repeat' (first|(split at h)|(cases h;done))
  all_goals (try (cases h;done))
  all_goals simp only[bq,bd,dE,bI,reduceCtorEq,kn,mT,wJ]at h
 |_=>
  simp only[c6]at h
  try repeat' (first|(split at h)|(cases h;done))
  all_goals (try (cases h;done))
  all_goals simp only[bq,bd,dE,BG,bI,reduceCtorEq,kn,mT,wJ]at h
theorem Y0(R:Rel aD nt φ S env J n a w){f:cL}{k:Bool}(d:wo P k o.op=some f)
 {p v J'}(aE:∀b,key<=b->b<key+16->n b=false)(h:aO f env J key=some (p,v,J'))(j:p):Good P aD nt env J' (eD n key) a v ((execOp a.eval o).run P w):=by
 have g:n key=false:=aE key (dU _) (by omega);rcases TM d with d|⟨t,len,parts,e,m,z,ps,i,x,s,y,u,h1,l,q,rfl⟩
 . by_cases hs:∃e e8,f= .allocS e e8
   . obtain⟨e,e8,rfl⟩:=hs;obtain⟨i,r⟩:=Wr d;refine(Yl R i r g (aE _ (by omega) (by omega)) h j).mono λb c=>?_;simp only[ins,hW,iQ]at c;simp only[eD,hW,cd,dw];rcases c with(c|c)|c
     . exact .inl c
     . exact .inr ⟨by omega,by omega⟩
     . exact .inr ⟨by omega,by omega⟩
   . exact(X' R d (λe e8 he=>hs ⟨e,e8,he⟩) g h j).mono λb c=>MG c
 . exact(Xk R i x s y u h1 l q g h j).mono λb c=>MG c
end
def hF(P:Program)(f:Nat)(args:List V)(J:a7)(key:Nat)(K:V->a7->Prop):Prop:=
 ∀aD nt φ S env n a w,Rel aD nt φ S env J n a w->(∀b,key<=b->b<key+16->n b=false)->V.aA.V.dH n args=true->∀vs:List Value,a' (cq φ w S) args vs->
  Calls P f vs.toArray w λe w'=>∃v r c bR J',e= .returned v/\K r J'/\cq c w' bR r v/\r.aA (eD n key)=true/\Rel aD nt c bR env J' (eD n key) a w'
theorem hF.mono{P:Program}{args:List V}{J:a7}{key:Nat}{K c:V->a7->Prop}(h:hF P f args J key K)(q:∀r J',K r J'->c r J'):hF P f args J key c:=
 λaD nt φ S env n a w R aE p vs t=>(h aD nt φ S env n a w R aE p vs t).mono λe w' ⟨v,r,u,bR,J',h1,j,o⟩=>⟨v,r,u,bR,J',h1,q _ _ j,o⟩
def fV(env:Env):Option (Nat×Bool)->Option Bool
 |none=>some true
 |some (t,b)=>match look env t with
  |some (g,.c (.t (.bool x)))=>some (g&&(x==b))
  |_=>none
def eu(env:Env)(dst:Option Nat)(g:Bool)(v:V):Env:=
 match dst with
 |none=>env
 |some d=>(d,g,v)::env
def sh(b:Bool):V:= .c (.t (.bool b))
def hi(P:Program)(o:cb)(key:Nat)(env:Env)(J:a7)(K:Env->a7->Prop):Prop:=
 match fV env o.guard with
 |none=>False
 |some g=>(g=false/\∃v,K (eu env o.dst g v) J)\/
  match o.op with
  |.call f args=>match hy env args with
   |some (p,vs)=>match o.guard with
    |none=>p/\hF P f vs J key (λr J'=>K (eu env o.dst true r) J')
    |some _=>(g=true/\p/\hF P f vs J key (λr J'=>K (eu env o.dst true r) J'))\/∃r,(g=true->p/\hF P f vs J key (λa J'=>a=r/\J'=J))/\K (eu env o.dst g r) J
   |none=>False
  |.iJ x args=>match x.get env,hy env args with
   |some (q,.c (.fn f caps)),some (p,vs)=>o.guard=none/\hO P f=true/\q/\p/\hF P f (vs++caps.map (λb=>V.c (.ptr b 0))) J key (λr J'=>K (eu env o.dst true r) J')
   |_,_=>False
  |.eqNil neg x=>match x.get env with
   |some (p,.c (.t (.slice es)))=>o.guard=none/\p/\∀b:Bool,(es≠[]->b=false)->K (eu env o.dst true (sh (if neg then !b else b))) J
   |some (p,.c .aB)=>o.guard=none/\p/\∀b:Bool,K (eu env o.dst true (sh (if neg then !b else b))) J
   |some (p,.c (.arr _ _ _ l))=>o.guard=none/\p/\∀b:Bool,(l≠0->b=false)->K (eu env o.dst true (sh (if neg then !b else b))) J
   |_=>False
  |op=>match aO op env J key with
   |some (p,v,J')=>(g=true->p)/\(op.neutral=true\/g=true)/\K (eu env o.dst g v) (if op.neutral then J else J')
   |none=>False
def kB(P:Program):List cb->Nat->Env->a7->(Env->a7->Prop)->Prop
 |[],_,env,J,K=>K env J
 |o::r,key,env,J,K=>hi P o key env J λenv' J'=>kB P r (key+16) env' J' K
section
variable {P:Program}{aD:Ctx}{nt:Nat}{φ:dG}{S:dV}{env:Env}{J:a7}{n:Nat->Bool}{key:Nat}{a:Act}{w:World}
theorem pD{g:Bool}{v:V}{k:Nat}:look (eu env dst g v) k=if dst=some k then some (g,v)else look env k:=by
 unfold eu;cases dst with
 |none=>simp
 |some d=>simp[look]
theorem Rel.Ba(R:Rel aD nt φ S env J n a w)(o:∀d,dst=some d->d<nt){g:Bool}{v:V}(q:g=true->cq φ w S v x)(p:g=false->x=undef)(j:g=true->v.aA n=true):
 Rel aD nt φ S (eu env dst g v) J n (a.put dst x) w:=by
 have f:∀k:Nat,(a.put dst x).tmps[k]?=if dst=some k then some x else a.tmps[k]?:=by
  intro k;cases dst with
  |none=>simp[Act.put]
  |some d=>
   have aC:d<a.tmps.size:=by rw[R.size];exact o d rfl
   simp only[Act.put,R0,bI];grind
 refine⟨R.bQ,λk c e af al=>?_,λk c e af al=>?_,λk c e af al=>?_,R.dQ,?_,?_,R.ext,R.own,R.fix,R.fX⟩
 . rw[pD]at af;rw[f];split at af
   . rename_i h;cases af;rw[ae h];exact⟨x,rfl,q al⟩
   . rename_i h;rw[ak h];exact R.gP k c e af al
 . rw[pD]at af;rw[f];split at af
   . rename_i h;cases af;rw[ae h,p al]
   . rename_i h;rw[ak h];exact R.hQ k c e af al
 . rw[pD]at af;split at af
   . cases af;exact j al
   . exact R.gO k c e af al
 . cases dst<;>simp[Act.put,R.size]
 . cases dst<;>simp[Act.put,R.defers]
theorem JV(R:Rel aD nt φ S env J n a w)(c:tf ops o.guard=some gd){g:Bool}(al:fV env gd=some g):Region.wanted o (yielded ops a.tmps)=g:=by
 unfold Region.wanted;cases i:o.guard with
 |none=>
  rw[i]at c;simp[tf]at c;subst c;simp[fV]at al;grind
 |some l=>
  obtain⟨j,b⟩:=l;rw[i]at c;simp only[tf,bd]at c;obtain⟨d,k,rfl⟩:=c;simp only[fV]at al;split at al
  . rename_i e x af;simp only[bI]at al;subst al;simp only[yielded,k,ao];cases f:e with
    |true=>
     obtain⟨y,m,c⟩:=R.gP d e _ af f;have:=c.jt;grind
    |false=>
     have:=R.hQ d e _ af f;simp only[this];rfl
  . cases al
def j6(aD:Ctx)(nt:Nat)(n:Nat->Bool)(K:Env->a7->Prop)(a:Act)(w:World):Prop:=∃φ S env J,K env J/\Rel aD nt φ S env J n a w
theorem Ya  (h:hO P f = true):∃ fn,P.funcs[f]? = some fn/\fn.body.isSome = true/\(fn.name == "runtime.NumGoroutine") = false:= by
 unfold hO at h;grind
theorem Yp(h:hO P f=true)(args:Array Value)(w:World):(callFunc f args).run P w= .ok (.enter f args) w:=by
 obtain⟨fn,h1,a,b⟩:=Ya h;obtain⟨c,d⟩:=yH.1 a;simp only[callFunc,Sem.run_bind,run_program,Result.andThen_ok,h1,b,d,bV,b7,Option.isNone_some,Sem.run_pure]
theorem yW{o:cL}(h:o.neutral=true){p v J'}(a:aO o env J key=some (p,v,J')):J'=J:=by
 cases o<;>simp only[cL.neutral,reduceCtorEq,bV]at h<;>simp only[aO,bq,bd,bE]at a
 all_goals
  (try (obtain⟨a1,h1,a⟩:=a))
  (try (obtain⟨a2,b,a⟩:=a))
  (try (obtain⟨a3,c,a⟩:=a))
  (try dsimp only at a)
  (try split at a)
  (try (simp_all;done))
  (try split at a)
  (try (simp_all;done))
  (try (obtain⟨_,_,_,_,rfl⟩:=a;rfl))
 all_goals first
  |(cases a;rfl)
  |(cases a;done)
  |(simp only[bd,bE]at a;obtain⟨_,_,_,_,rfl⟩:=a;rfl)
  |(split at a<;>first
   |(cases a;rfl)
   |(cases a;done)
   |(simp only[bd,bE]at a;obtain⟨_,_,_,_,rfl⟩:=a;rfl))
  |skip
 all_goals repeat' (first|(cases a;done)|(cases a;rfl)|(simp only[bd,bE]at a;obtain⟨_,_,_,_,rfl⟩:=a;rfl)|split at a)
theorem TB{a:cb}(h:vx P nt ops o=some a):
 wo P (JH ops o) o.op=some a.op/\tf ops o.guard=some a.guard/\a.dst=o.dst/\∀d,a.dst=some d->d<nt:=by
 simp only[vx,bq]at h;obtain⟨p,c,g,al,h⟩:=h;split at h
 . rename_i b;cases h;exact⟨c,al,b.symm,by simp⟩
 . rename_i d b;simp only[dE,bI]at h;obtain⟨aC,rfl⟩:=h;exact⟨c,al,b.symm,λe h=>by cases h;exact aC⟩
theorem xX{b:Bool}{a:cL}(h:wo P b op=some a)(c:∀e m l z ps,a≠.bsliceT e m l z ps):c6 P op=some a:=by
 rcases TM h with h|⟨t,len,parts,e,m,z,ps,_,_,_,_,_,_,_,_,rfl⟩
 . exact h
 grind
theorem Hi{g:Option (Nat×Bool)}(h:tf ops o.guard=some g)(al:g=none):o.guard=none:=by
 subst al;cases a:o.guard with
 |none=>rfl
 |some x=>
  rw[a]at h;obtain⟨j,b⟩:=x;simp only[tf,bd]at h;grind
theorem HC{a:cL}(h:c6 P (.alloc e)=some a)(h1:∀cs,a≠.alloc cs)(b:∀cs,a≠.allocA cs)(c:∀e e8,a≠.allocS e e8):False:=by
 simp only[c6]at h;split at h
 . grind
 . simp only[bq]at h;grind
theorem SC{args:List aP}(h:c6 P op=some (.call f args)):∃c,op= .call c/\mH P c=some (.call f args):=by
 cases op with
 |call c=>exact⟨c,rfl,h⟩
 |alloc e=>exfalso;exact HC h (by simp) (by simp) (by simp)
 |makeMap t r=>exfalso;cases r<;>simp[c6]at h
 |lookup t x i c=>exfalso;cases c<;>simp[c6,bq,bd]at h
 |unOp u t x=>
  exfalso;cases u<;>simp only[c6]at h
  all_goals (repeat' split at h)<;>(first|(cases h;done)|simp[bq,bd]at h)
 |makeFunc fn b c=>exfalso;cases fn<;>simp[c6]at h
 |_=>
  exfalso;simp only[c6]at h
  (repeat' split at h)<;>(first|(cases h;done)|simp[bq,bd]at h)
theorem S0{x:aP}{args:List aP}(h:c6 P op=some (.iJ x args)):∃c,op= .call c/\mH P c=some (.iJ x args):=by
 cases op with
 |call c=>exact⟨c,rfl,h⟩
 |alloc e=>exfalso;exact HC h (by simp) (by simp) (by simp)
 |makeMap t r=>exfalso;cases r<;>simp[c6]at h
 |lookup t x i c=>exfalso;cases c<;>simp[c6,bq,bd]at h
 |unOp u t x=>
  exfalso;cases u<;>simp only[c6]at h
  all_goals (repeat' split at h)<;>(first|(cases h;done)|simp[bq,bd]at h)
 |makeFunc fn b c=>exfalso;cases fn<;>simp[c6]at h
 |_=>
  exfalso;simp only[c6]at h
  (repeat' split at h)<;>(first|(cases h;done)|simp[bq,bd]at h)
theorem SD{args:List aP}(h:mH P c=some (.call f args)):c.callee= .value (.func f)/\hO P f=true/\mV c.args.toList=some args:=by
 unfold mH at h
 (repeat' split at h)<;>simp[bq,bd]at h
 grind
theorem S1{x:aP}{args:List aP}(h:mH P c=some (.iJ x args)):∃t,x= .tmp t/\c.callee= .value (.tmp t)/\mV c.args.toList=some args:=by
 unfold mH at h
 (repeat' split at h)<;>simp[bq,bd]at h
 grind
theorem WH{neg:Bool}{x:aP}(h:c6 P op=some (.eqNil neg x)):
 ∃a t y z d e,op= .binOp a t y z d/\(a= .eql\/a= .neq)/\neg=(a== .neq)/\P.underlying t=some (.slice e)/\Hh z=true/\bN y=some x:=by
 cases op with
 |binOp a t y z d=>
  simp only[c6]at h
  (repeat' split at h)<;>(try (cases h;done))<;>simp only[bq,bd,cL.eqNil.injEq,reduceCtorEq,kn,mT,wJ]at h
  rename_i g _ _ j k;obtain⟨l,h1,f,rfl⟩:=h;exact⟨a,t,y,z,d,_,rfl,g,f.symm,j,k,h1⟩
 |call c=>
  exfalso;simp only[c6]at h;unfold mH at h
  (repeat' split at h)<;>(first|(cases h;done)|simp[bq,bd]at h)
 |alloc e=>exfalso;exact HC h (by simp) (by simp) (by simp)
 |makeMap t r=>exfalso;cases r<;>simp[c6]at h
 |lookup t x i c=>exfalso;cases c<;>simp[c6,bq,bd]at h
 |unOp u t x=>
  exfalso;cases u<;>simp only[c6]at h
  all_goals (repeat' split at h)<;>(first|(cases h;done)|simp[bq,bd]at h)
 |makeFunc fn b c=>exfalso;cases fn<;>simp[c6]at h
 |_=>
  exfalso;simp only[c6]at h
  (repeat' split at h)<;>(first|(cases h;done)|simp[bq,bd]at h)
theorem Dm(g:o.op= .call c){x:Operand}(d:c.callee= .value x){caps:List Value}(i:a.eval x= .func (.func f) #[] caps.toArray)(b:hO P f=true):
 (execOp a.eval o).run P w= .ok (.enter f (c.args.toList.map a.eval++caps).toArray) w:=by
 have e:(c.args.map a.eval++caps.toArray)=(c.args.toList.map a.eval++caps).toArray:=by apply Array.ext';simp
 simp only[execOp,g,Go.resolve,d,i,Deferred.ofValue,Sem.run_bind,Sem.run_pure,Result.andThen_ok,invoke];rw[show(#[]++c.args.map a.eval)=c.args.map a.eval by simp,e];exact Yp b _ _
theorem Calls.next{args:Array Value}{key:Nat}(u:dst=o.dst)(t:∀d,dst=some d->d<nt){g:Bool}(al:g=true){K2:V->a7->Prop}
 (bD:∀r s,K2 r s->K (eu env dst g r) s)
 (h:Calls P f args w λe w'=>∃v r c bR J',e= .returned v/\K2 r J'/\cq c w' bR r v/\r.aA (eD n key)=true/\Rel aD nt c bR env J' (eD n key) a w')
 (x:(execOp a.eval o).run P w= .ok (.enter f args) w):o.wp P a w (j6 aD nt (eD n key) K) Q:=by
 unfold Oper.wp;rw[x,Oper.upon_enter];refine h.mono ?_
 rintro e w' ⟨v,r,c,bR,J',rfl,h1,j,p,q⟩
 subst u;exact⟨c,bR,_,J',bD _ _ h1,q.Ba t (λ_=>j) (λh=>by rw[al]at h;cases h) (λ_=>p)⟩
theorem Dy(R:Rel aD nt φ S env J n a w)(aE:∀b,key<=b->b<key+16->n b=false){T:cb}(ab:vx P nt ops o=some T)(h:hi P T key env J K):
 if Region.wanted o (yielded ops a.tmps)then o.wp P a w (j6 aD nt (eD n key) K) Q else j6 aD nt (eD n key) K (a.put o.dst undef) w:=by
 obtain⟨h1,G,H,I⟩:=TB ab;have aU:n key=false:=aE key (dU _) (by omega);unfold hi at h;split at h
 . exact h.elim
 . rename_i g al;have aN:=JV R G al;rw[aN];have ah:∀{v:V} {s:a7},K (eu env T.dst g v) s->s=J->g=false->j6 aD nt (eD n key) K (a.put o.dst undef) w:=by
    intro v s bD hs X;subst hs;rw[<-H];exact⟨φ,S,_,_,bD,(R.more λ_ h=>lT h).Ba I (λh=>by rw[X]at h;cases h) (λ_=>rfl) (λh=>by rw[X]at h;cases h)⟩
   rcases h with⟨X,v,bD⟩|h
   . rw[X];simp only[bV,b7];exact ah bD rfl X
   split at h
   ·
    rename_i f args Z;rw[Z]at h1;have aC:∃c,o.op= .call c/\c.callee= .value (.func f)/\hO P f=true/\mV c.args.toList=some args:=by
     obtain⟨c,aB,ab⟩:=SC (xX h1 (by simp));exact⟨c,aB,SD ab⟩
    obtain⟨c,af,ag,L,W⟩:=aC;split at h
    . rename_i p vs Y;have ai:∀w':World,(execOp a.eval o).run P w= .ok (.enter f (c.args.toList.map a.eval).toArray) w:=by
       intro _;have:=Dm (P:=P) (w:=w) (a:=a) af ag (f:=f) (caps:=[]) rfl L;grind
      split at h
      . rename_i u;have M:g=true:=by rw[u]at al;simp[fV]at al;exact al
        subst M;obtain⟨m,A⟩:=h;obtain⟨E,F⟩:=qX R W Y m;exact Calls.next H I rfl (λ_ _ h=>h) (A aD nt φ S env n a w R aE F _ E) (ai w)
      . rcases h with⟨M,m,A⟩|⟨r,A,bD⟩
        . subst M;obtain⟨E,F⟩:=qX R W Y m;exact Calls.next H I rfl (λ_ _ h=>h) (A aD nt φ S env n a w R aE F _ E) (ai w)
        cases B:g with
        |true=>
         obtain⟨m,A⟩:=A B;obtain⟨E,F⟩:=qX R W Y m;simp only[bS];refine Calls.next (K2:=λav J'=>av=r/\J'=J) H I B (λav s aa=>?_) (A aD nt φ S env n a w R aE F _ E) (ai w);obtain⟨rfl,rfl⟩:=aa;exact bD
        |false=>
         simp only[bV,b7];exact ah bD rfl B
    . exact h.elim
   . rename_i x args Z;rw[Z]at h1;obtain⟨c,af,ab⟩:=S0 (xX h1 (by simp));obtain⟨t,rfl,ag,W⟩:=S1 ab;split at h
     . rename_i q f caps p vs N Y;obtain⟨u,L,aL,m,A⟩:=h;have M:g=true:=by rw[u]at al;simp[fV]at al;exact al
       subst M;obtain⟨E,F⟩:=qX R W Y m;have ar:=cB (x:= .tmp t) R rfl N aL;have aO:a.eval (.tmp t)= .func (.func f) #[] (caps.map λb=>Value.pointer (some ⟨(φ b).1,0,none⟩)).toArray:=ar.1.eb;have aF:a' (cq φ w S) (caps.map λb=>V.c (.ptr b 0)) (caps.map λb=>Value.pointer (some ⟨(φ b).1,0,none⟩)):=by
        refine a'.ly (by simp) ?_;intro i v x h1 G;simp only[ot,bd]at h1 G;obtain⟨b,ao,rfl⟩:=h1;obtain⟨aS,ap,rfl⟩:=G;rw[ao]at ap;cases ap;exact .c rfl
       have aG:V.aA.V.dH n (vs++caps.map λb=>V.c (.ptr b 0))=true:=by
        refine tg ?_;intro i v k;by_cases aI:i<vs.length
        . rw[oo aI]at k;exact nM F k
        . rw[qb (by omega)]at k;simp only[ot,bd]at k;obtain⟨b,ao,rfl⟩:=k;have aa:=ar.2;simp only[V.aA,C.aA,c0]at aa⊢;grind
       exact Calls.next H I rfl (λ_ _ h=>h) (A aD nt φ S env n a w R aE aG _ (E.append aF)) (Dm af ag aO L)
     . exact h.elim
   . rename_i neg x Z;rw[Z]at h1;obtain⟨U,ty,y,z,aW,e,aK,aA,rfl,aq,ak,aj⟩:=WH (xX h1 (by simp));have aQ:∀(b:Bool) (j:Option Addr) (l c:Nat),a.eval y= .slice j l c->j.isNone=b->(execOp a.eval o).run P w= .ok (.value (.bool (if(U== .neq)then !b else b))) w:=by
      intro b j l c k L;subst L;obtain⟨am,au,aP⟩:∃am:Value,a.eval z=am/\am= .slice none 0 0:=by
       unfold Hh at ak;split at ak
       . exact⟨_,rfl,rfl⟩
       . cases ak
      subst aP;have aw:(eqGuard U ty y z (a.eval y) (a.eval z)).run P w= .ok () w:=HF (by rw[k];simp) (by rw[k];simp);have an:(Op.equal ty (.slice j l c) (.slice none 0 0)).run P w= .ok j.isNone w:=by
       obtain⟨d,aH⟩:∃d,Op.maxDepth=d+1:=⟨9999,rfl⟩
       unfold Op.equal;rw[aH];unfold Op.equalIn;cases j with
       |none=>simp only[Sem.run_bind,run_underlying aq,Result.andThen_ok];rfl
       |some j=>simp only[Sem.run_bind,run_underlying aq,Result.andThen_ok];rfl
      have ax:(binOp U ty (a.eval y) (a.eval z)).run P w= .ok (.bool (if(U== .neq)then !j.isNone else j.isNone)) w:=by
       rcases aA with rfl|rfl
       . rw[k,au];simp only[binOp,Sem.run_bind,an];rfl
       . rw[k,au];simp only[binOp,Sem.run_bind,an];rfl
      simp[execOp,aK,aw,ax]
     have O:∀ (b:Bool) (j:Option Addr) (l c:Nat),o.guard = none->a.eval y = .slice j l c->j.isNone = b->K (eu env T.dst true (sh (if (U == .neq) then !b else b))) J->
      (if g then o.wp P a w (j6 aD nt (eD n key) K) Q else j6 aD nt (eD n key) K (a.put o.dst undef) w):=by
      intro b j l c u k L bD;have M:g=true:=by
       have:Region.wanted o (yielded ops a.tmps)=true:=(by simp[Region.wanted,u]);grind
      rw[ae M];unfold Oper.wp;rw[aQ b j l c k L];show j6 aD nt (eD n key) K (a.put o.dst _) w;rw[<-H];exact⟨φ,S,_,_,bD,(R.more λ_ h=>lT h).Ba I (λ_=>.sg _) (λh=>by cases h) (λ_=>rfl)⟩
     split at h
     . rename_i p es N;obtain⟨u,m,bD⟩:=h;obtain⟨j,cap,sz,b,off,f,k,_,_,_,D,_⟩:=cg.kr (cB R aj N m).1.eb;exact O j.isNone j _ _ (Hi G u) k rfl (bD _ λh=>by rw[D h];rfl)
     . rename_i p N;obtain⟨u,m,bD⟩:=h;obtain⟨j,k⟩:=(cB R aj N m).1.eb;exact O j.isNone j _ _ (Hi G u) k rfl (bD _)
     . rename_i p b sz off l N;obtain⟨u,m,bD⟩:=h;obtain⟨j,k,ad,aV⟩:=bm.hh (cB R aj N m).1.eb;exact O j.isNone j _ _ (Hi G u) k rfl (bD _ λh=>by rw[ad (by omega)];rfl)
     . exact h.elim
   . rename_i af ag aT;split at h
     . rename_i p v J' ad;obtain⟨m,D,bD⟩:=h;cases B:g with
       |true=>
        simp only[bS];obtain⟨x,aR,bR,w',hres,aM,az,R'⟩:=Y0 R h1 aE ad (m B);have ay:(if T.op.neutral then J else J')=J':=by
         split
         . rename_i aJ;exact(yW aJ ad).symm
         . rfl
        rw[ay]at bD;have O:j6 aD nt (eD n key) K (a.put o.dst x) w':=by
         rw[<-H];exact⟨aR,bR,_,_,bD,R'.Ba I (λ_=>aM) (λh=>by rw[B]at h;cases h) (λ_=>az)⟩
        unfold Oper.wp;rcases hres with hres|⟨hres,rfl⟩
        . rw[hres];exact O
        . rw[hres];exact O
       |false=>
        simp only[bV,b7];rcases D with D|D
        . rw[ae D]at bD;exact ah bD rfl B
        . rw[B]at D;cases D
     . exact h.elim
end
def lt(N:Nat):Nat->Bool:=λb=>decide (b<N)
theorem IX{N b:Nat}(h:eD (lt N) N b=true):lt (N+16) b=true:=by
 simp only[eD,lt,hW,dw,cd]at*;omega
theorem IK{N b:Nat}(h:N<=b):lt N b=false:=by simp[lt];omega
theorem M7{N M b:Nat}(h:N<=M)(a:lt N b=true):lt M b=true:=by simp only[lt,dw]at*;omega
section
variable {P:Program}{aD:Ctx}{nt kk:Nat}{φ:dG}{S:dV}{env:Env}{J:a7}{N:Nat}{a:Act}{w:World}
theorem Kg{ops:Array Oper}{Q:Exit->Act->World->Prop}{K:Env->a7->Nat->Prop}:∀{l:List Oper} {aZ:List cb} {k N:Nat} {env:Env} {J:a7} {φ:dG} {S:dV} {a:Act} {w:World},jy P nt ops l=some aZ->(∀i:Nat,i<l.length->l[i]?=ops[k+i]?)->
 Rel aD nt φ S env J (lt N) a w->kB P aZ N env J (λe s=>K e s (N+16*aZ.length))->(∀φ S e s N a w,K e s N->Rel aD nt φ S e s (lt N) a w->Q .normal a w)->wpOps P ops Q (List.range' k l.length) a w
 |[],aZ,k,N,env,J,φ,S,a,w,c,j,R,h,g=>by
  simp[jy]at c;subst c;simp only[ij,List.range'_zero,wpOps];exact g _ _ _ _ _ _ _ h R
 |o::l,aZ,k,N,env,J,φ,S,a,w,c,j,R,h,g=>by
  simp only[jy,bq,bd]at c;obtain⟨r,m,d,n,rfl⟩:=c;have p:ops[k]?=some o:=by have:=j 0 (by simp);simpa using this.symm
  rw[gQ,FI,wpOps_cons];unfold wpOp;rw[p];simp only;have hs:=Dy R (λb h1 _=>IK h1) m (K:=λe s=>kB P d (N+16) e s λe s=>K e s (N+16*(d.length+1))) (by simp only[kB,gQ]at h;exact h) (Q:=Q);have next:∀f w',j6 aD nt (eD (lt N) N) (λe s=>kB P d (N+16) e s λe s=>K e s (N+16*(d.length+1))) f w'->wpOps P ops Q (List.range' (k+1) l.length) f w':=by
   rintro f w' ⟨t,bR,e,s,bD,R'⟩
   refine Kg (k:=k+1) (N:=N+16) n (λi aC=>?_) (R'.more λ_ h=>IX h) (K:=K) ?_ g
   . have:=j (i+1) (by simp;omega);grind
   grind
  split at hs
  . rename_i q;rw[ae q];exact .inl (Oper.wp_mono next hs)
  grind
def TV(P:Program)(nt kk:Nat)(c:Code)(env:Env)(J:a7)(N:Nat)(Q:Exit->Env->a7->Nat->Prop):Prop:=
 ∀aD φ S a w,aD.k=kk->Rel aD nt φ S env J (lt N) a w->c.wp P (λe b w'=>∃d bR env' J' N',Q e env' J' N'/\Rel aD nt d bR env' J' (lt N') b w') a w
def cu(P:Program)(nt kk:Nat)(c:dA)(env:Env)(J:a7)(N:Nat)(Q:Exit->Env->a7->Nat->Prop):Prop:=
 ∀code,resolve P nt code=some c->TV P nt kk code env J N Q
variable {Q nj:Exit->Env->a7->Nat->Prop}
theorem cu.mono{c:dA}(h:cu P nt kk c env J N Q)(p:∀e env J N,Q e env J N->nj e env J N):cu P nt kk c env J N nj:=
 λcode j aD φ S a w o R=>wp_mono (h code j aD φ S a w o R) λe a w ⟨q,bR,env',J',N',h1,f⟩=>⟨q,bR,env',J',N',p _ _ _ _ h1,f⟩
theorem cu.skip(h:Q .normal env J N):cu P nt kk .skip env J N Q:=by
 intro code c aD φ S a w e R;cases code<;>simp only[resolve,bq,bd,reduceCtorEq,kn,mT]at c<;>(try (first|(cases c;done)|(obtain⟨l,_,c⟩:=c;(repeat' split at c)<;>cases c;done)))
 exact wp_skip ⟨φ,S,env,J,N,h,R⟩
theorem cu.ret(h:Q .ret env J N):cu P nt kk .ret env J N Q:=by
 intro code c aD φ S a w e R;cases code<;>simp only[resolve,bq,bd,reduceCtorEq,kn,mT]at c<;>(try (first|(cases c;done)|(obtain⟨l,_,c⟩:=c;(repeat' split at c)<;>cases c;done)))
 exact wp_ret ⟨φ,S,env,J,N,h,R⟩
theorem cu.exit(h:Q (.exit id) env J N):cu P nt kk (.exit id) env J N Q:=by
 intro code c aD φ S a w e R;cases code<;>simp only[resolve,bq,bd,reduceCtorEq,kn,mT]at c<;>(try (first|(cases c;done)|(obtain⟨l,_,c⟩:=c;(repeat' split at c)<;>cases c;done)))
 cases c;exact wp_exit ⟨φ,S,env,J,N,h,R⟩
def andThen(next:Env->a7->Nat->Prop)(Q:Exit->Env->a7->Nat->Prop):Exit->Env->a7->Nat->Prop
 |.normal,env,J,N=>next env J N
 |e,env,J,N=>Q e env J N
theorem Yb{x y:dA}(h:resolve P nt code=some (.seq x y)):∃a b,code= .seq a b/\resolve P nt a=some x/\resolve P nt b=some y:=by
 cases code with
 |seq a b=>
  simp only[resolve,bq,bd]at h;grind
 |region id ops c=>
  simp only[resolve,bq]at h;grind
 |_=>simp[resolve,bq,bd]at h
theorem Yq{c:aP}{x y:dA}(h:resolve P nt code=some (.cond c x y)):∃o a b,code= .cond o a b/\bN o=some c/\resolve P nt a=some x/\resolve P nt b=some y:=by
 cases code with
 |cond o a b=>
  simp only[resolve,bq,bd]at h;grind
 |region id ops d=>
  simp only[resolve,bq]at h;grind
 |_=>simp[resolve,bq,bd]at h
theorem Xm{x:dA}(h:resolve P nt code=some (.block id x)):∃b,code= .block id b/\resolve P nt b=some x:=by
 cases code with
 |block i b=>
  simp only[resolve,bd]at h;grind
 |region id ops a=>
  simp only[resolve,bq]at h;grind
 |_=>simp[resolve,bq,bd]at h
theorem Yr{x:dA}(h:resolve P nt code=some (.loop x)):∃b,code= .loop b/\resolve P nt b=some x:=by
 cases code with
 |loop b=>
  simp only[resolve,bd]at h;grind
 |region id ops a=>
  simp only[resolve,bq]at h;grind
 |_=>simp[resolve,bq,bd]at h
theorem TN(h:resolve P nt code=some (.region aZ)):∃id ops,code= .region id ops false/\jy P nt ops ops.toList=some aZ:=by
 cases code with
 |region id ops b=>
  simp only[resolve,bq]at h;obtain⟨l,af,h⟩:=h;split at h
  . grind
  . rename_i a;cases h;simp at a;subst a;grind
 |_=>simp[resolve,bq,bd]at h
theorem TC(h:resolve P nt code=some (.oz aZ gh)):
 ∃id ops,code= .region id ops true/\jy P nt ops ops.toList=some aZ/\s8 (fr ops aZ)=true/\P.follows .mixedOrders=true/\gh=sk (fr ops aZ):=by
 cases code with
 |region id ops c=>
  simp only[resolve,bq]at h;obtain⟨l,af,h⟩:=h;split at h
  . rename_i b;split at h
    . rename_i a;cases h;subst b;simp only[cd]at a;exact⟨id,ops,rfl,af,a.1,a.2,rfl⟩
    . cases h
  . cases h
 |_=>simp[resolve,bq,bd]at h
theorem cu.seq{x y:dA}(h:cu P nt kk x env J N (andThen (λenv J N=>cu P nt kk y env J N Q) Q)):cu P nt kk (.seq x y) env J N Q:=by
 intro code p aD φ S a w c R;obtain⟨u,v,rfl,q,t⟩:=Yb p;refine wp_seq (wp_mono (h _ q aD φ S a w c R) ?_)
 rintro e o w' ⟨j,bR,env',J',N',f,R'⟩
 cases e with
 |normal=>exact f _ t aD j bR o w' c R'
 |_=>exact⟨j,bR,env',J',N',f,R'⟩
theorem cu.cond{c:aP}{x y:dA}{p:Prop}{b:Bool}(j:c.get env=some (p,sh b))(u:p)(v:b=true->cu P nt kk x env J N Q)(A:b=false->cu P nt kk y env J N Q):cu P nt kk (.cond c x y) env J N Q:=by
 intro code q aD φ S a w e R;obtain⟨o,D,E,rfl,t,z,B⟩:=Yq q;have f:=(cB R t j u).1.jt;refine wp_cond f ?_;cases b with
 |true=>exact v rfl _ z aD φ S a w e R
 |false=>exact A rfl _ B aD φ S a w e R
def inBlock(id:Nat)(Q:Exit->Env->a7->Nat->Prop):Exit->Env->a7->Nat->Prop
 |.exit i,env,J,N=>if i=id then Q .normal env J N else Q (.exit i) env J N
 |e,env,J,N=>Q e env J N
theorem cu.block{id:Nat}{x:dA}(h:cu P nt kk x env J N (inBlock id Q)):cu P nt kk (.block id x) env J N Q:=by
 intro code j aD φ S a w o R;obtain⟨b,rfl,f⟩:=Xm j;refine wp_block (wp_mono (h _ f aD φ S a w o R) ?_)
 rintro e q w' ⟨p,bR,env',J',N',c,R'⟩
 cases e with
 |exit i=>
  simp only[inBlock]at c;simp only[Exit.inBlock];grind
 |_=>exact⟨p,bR,env',J',N',c,R'⟩
theorem cu.region{aZ:List cb}(h:kB P aZ N env J (λe s=>Q .normal e s (N+16*aZ.length))):cu P nt kk (.region aZ) env J N Q:=by
 intro code j aD φ S a w t R;obtain⟨id,ops,rfl,o⟩:=TN j;refine wp_region ?_;have:=Kg (P:=P) (ops:=ops) (K:=λe s N=>Q .normal e s N) (Q:=λe c w'=>∃p bR env' J' N',Q e env' J' N'/\Rel aD nt p bR env' J' (lt N') c w') (k:=0) o (λi q=>by simp) R h
  (λφ S e s N a w bD f=>⟨φ,S,e,s,N,bD,f⟩)
 rw[List.range_eq_range'];omega
end
def pos:a6->Nat->Option Nat
 |[],_=>none
 |x::r,b=>if x=b then some 0 else(pos r b).map (· +1)
theorem n9:∀{bs:a6} {b i:Nat},pos bs b=some i->bs[i]?=some b
 |[],b,i,h=>by simp[pos]at h
 |x::r,b,i,h=>by
  unfold pos at h;split at h
  . grind
  . simp only[bd]at h;obtain⟨j,a,rfl⟩:=h;simpa using n9 a
def oc(bs:a6):a6->Option a6
 |[]=>some []
 |c::r=>match pos bs c,oc bs r with
  |some i,some l=>some (i::l)
  |_,_=>none
def C.bO(bs:a6):C->C
 |.t x=>.t x
 |.ptr b o=>match pos bs b with|some i=>.ptr i o|none=>.dead
 |.cH b sz i o=>match pos bs b with|some j=>.cH j sz i o|none=>.dead
 |.dP ts o=>.dP ts o
 |.arr b sz off len=>match pos bs b with|some i=>.arr i sz off len|none=>.dead
 |.fE b sz off len=>match pos bs b with|some i=>.fE i sz off len|none=>.dead
 |.mp b=>match pos bs b with|some i=>.mp i|none=>.dead
 |.eo b=>match pos bs b with|some i=>.eo i|none=>.dead
 |.cI b len=>match pos bs b with|some i=>.cI i len|none=>.dead
 |.aB=>.aB
 |.fc=>.fc
 |.fb=>.fb
 |.fn f caps=>match oc bs caps with|some l=>.fn f l|none=>.dead
 |.dead=>.dead
def V.bO(bs:a6):V->V
 |.c x=>.c (x.bO bs)
 |.agg cs=>.agg (cs.map (C.bO bs))
 |.aY vs=>.aY (go bs vs)
where go (bs:a6):List V->List V
 |[]=>[]
 |v::vs=>v.bO bs::go bs vs
def bP.bO(bs:a6):bP->bP
 |.box cs=>.box (cs.map (C.bO bs))
 |.arr sz es=>.arr sz es
 |.set ks=>.set ks
 |.buf E s=>.buf E s
 |.b8 E c=>.b8 E (c.bO bs)
 |.cC sz es i o c=>.cC sz es i o (c.bO bs)
def n'(bs:a6)(env:Env):a6->Env
 |[]=>[]
 |k::ks=>match look env k with
  |some (g,v)=>(k,g,v.bO bs)::n' bs env ks
  |none=>n' bs env ks
def fy(bs:a6)(J:a7):Nat->a6->a7
 |_,[]=>[]
 |i,b::r=>match aV J b with
  |some x=>(i,x.bO bs)::fy bs J (i+1) r
  |none=>fy bs J (i+1) r
def keeps(k:Nat)(bs:a6):Bool:=(List.range k).all λi=>bs[i]?==some i
section
variable {P:Program}{aD:Ctx}{nt kk:Nat}{φ:dG}{S:dV}{env:Env}{J:a7}{N:Nat}{n:Nat->Bool}{a:Act}{w:World}
theorem Hj:∀{bs caps l:a6},oc bs caps=some l->caps.length=l.length/\∀(i b j:Nat),caps[i]?=some b->l[i]?=some j->bs[j]?=some b
 |bs,[],l,h=>by simp[oc]at h;subst h;simp
 |bs,c::r,l,h=>by
  unfold oc at h;split at h
  . rename_i j k f af;cases h;obtain⟨h1,e⟩:=Hj af;refine⟨by simp[h1],?_⟩;intro i b g a d;cases i with
    |zero=>simp at a d;subst a;subst d;exact n9 f
    |succ i=>exact e i b g (by simpa using a) (by simpa using d)
  . cases h
theorem bm.bO{u:dG}(p:∀(i:Nat) b,bs[i]?=some b->u i=φ b){c:C}{v:Value}(h:bm φ w S c v):bm u w S (c.bO bs) v:=by
 have e:=bm.jk h;cases c with
 |ptr b o=>
  simp only[C.bO];split
  . rename_i i a;simp only[bm,p i b (n9 a)];exact h
  . exact e
 |cH b sz i o=>
  simp only[C.bO];split
  . rename_i j y;simp only[bm,p j b (n9 y)];exact h
  . exact e
 |arr b sz off len=>
  simp only[C.bO];split
  . rename_i i a;simp only[bm,p i b (n9 a)];exact h
  . exact e
 |fE b sz off len=>
  simp only[C.bO];split
  . rename_i i a;simp only[bm,p i b (n9 a)];exact h
  . exact e
 |mp b=>
  simp only[C.bO];split
  . rename_i i a;simp only[bm,p i b (n9 a)];exact h
  . exact e
 |eo b=>
  simp only[C.bO];split
  . rename_i i a;simp only[bm,p i b (n9 a)];exact h
  . exact e
 |cI b len=>
  simp only[C.bO];split
  . rename_i i a;simp only[bm,p i b (n9 a)];exact h
  . exact e
 |fn f caps=>
  simp only[C.bO];split
  . rename_i l af;obtain⟨h1,x⟩:=Hj af;simp only[bm]at h⊢;rw[h]
    congr 2
    apply BV (by simp[h1]);intro i q t;simp at q t;simp only[List.getElem_map];rw[p _ _ (x i _ _ (eI q) (eI t))]
  . exact e
 |_=>exact h
theorem Dz:∀{vs:List V} {i:Nat},(V.bO.go bs vs)[i]?=(vs[i]?).map (V.bO bs)
 |[],i=>by simp[V.bO.go]
 |v::vs,0=>by simp[V.bO.go]
 |v::vs,i+1=>by simp[V.bO.go,Dz]
theorem C4:∀{vs:List V},(V.bO.go bs vs).length=vs.length
 |[]=>rfl
 |v::vs=>by simp[V.bO.go,C4]
theorem a'.p7{c e:Type}{R:α->c->Prop}{R':e->c->Prop}{f:α->e}{l:List α}{m:List c}(h:a' R l m)(k:∀a b,R a b->R' (f a) b):a' R' (l.map f) m:=by
 induction h with
 |nil=>exact .nil
 |cons j _ ih=>exact .cons (k _ _ j) ih
theorem cq.bO{e:dG}(a:∀(i:Nat) b,bs[i]?=some b->e i=φ b){v:V}(h:cq φ w S v x):cq e w S (v.bO bs) x:=by
 induction h with
 |c h=>exact .c (bm.bO a h)
 |agg h=>exact .agg (h.p7 λ_ _=>bm.bO a)
 |aY vs xs af h ih=>
  refine .aY _ xs (by rw[C4];exact af) ?_;intro i v x f j;rw[Dz,bd]at f;grind
theorem s9{b i:Nat}(h:pos bs b=some i):i<bs.length:=(c5.1 (n9 h)).1
theorem C.j1(c:C):(c.bO bs).aA (lt bs.length)=true:=by
 cases c with
 |ptr b o=>simp only[C.bO];split<;>simp[C.aA,lt];rename_i h;exact s9 h
 |cH b sz i o=>simp only[C.bO];split<;>simp[C.aA,lt];rename_i h;exact s9 h
 |arr b sz off len=>simp only[C.bO];split<;>simp[C.aA,lt];rename_i h;exact s9 h
 |fE b sz off len=>simp only[C.bO];split<;>simp[C.aA,lt];rename_i h;exact s9 h
 |mp b=>simp only[C.bO];split<;>simp[C.aA,lt];rename_i h;exact s9 h
 |eo b=>simp only[C.bO];split<;>simp[C.aA,lt];rename_i h;exact s9 h
 |cI b len=>simp only[C.bO];split<;>simp[C.aA,lt];rename_i h;exact s9 h
 |fn f caps=>
  simp only[C.bO];split
  . rename_i l af;obtain⟨h1,a⟩:=Hj af;simp only[C.aA,c0,lt,dw];intro j p;obtain⟨i,e,rfl⟩:=e5 p;exact(c5.1 (a i _ _ (eI (by omega)) (eI e))).1
  . rfl
 |_=>rfl
theorem V.j1{bs:a6}:∀(v:V),(v.bO bs).aA (lt bs.length)=true
 |.c x=>by simp only[V.bO,V.aA];exact C.j1 x
 |.agg cs=>by simp only[V.bO,V.aA,mU,c0];intro c _;exact C.j1 c
 |.aY vs=>by simp only[V.bO,V.aA];exact go vs
where go:∀vs,V.aA.V.dH (lt bs.length) (V.bO.go bs vs)=true
 |[]=>rfl
 |v::vs=>by simp only[V.bO.go,V.aA.V.dH,cd];exact⟨V.j1 v,go vs⟩
theorem zf:∀{ks:a6} {k:Nat} {g:Bool} {v:V},look (n' bs env ks) k=some (g,v)->∃v0,look env k=some (g,v0)/\v=v0.bO bs
 |[],k,g,v,h=>by simp[n',look]at h
 |x::ks,k,g,v,h=>by
  unfold n' at h;split at h
  . rename_i a b af;unfold look at h;split at h
    . grind
    . exact zf h
  . exact zf h
theorem pE:∀{r:a6} {i:Nat} {b:Nat} {x:bP},aV (fy bs J i r) b=some x->∃j c g,b=i+j/\r[j]?=some c/\aV J c=some g/\x=g.bO bs
 |[],i,b,x,h=>by simp[fy,aV]at h
 |c::r,i,b,x,h=>by
  unfold fy at h;split at h
  . rename_i g l;unfold aV at h;split at h
    . simp_all
    . obtain⟨j,a,k,h1,d,e,f⟩:=pE h;exact⟨j+1,a,k,by omega,by simpa using d,e,f⟩
  . obtain⟨j,a,k,h1,d,e,f⟩:=pE h;exact⟨j+1,a,k,by omega,by simpa using d,e,f⟩
theorem c2.bO{q:dG}(a:∀(i:Nat) b,bs[i]?=some b->q i=φ b){i b:Nat}(e:bs[i]?=some b){x:bP}(h:c2 φ w S b x):c2 q w S i (x.bO bs):=by
 cases x with
 |box cs=>
  obtain⟨h0,vs,E,h1,f,j⟩:=h;simp only[bP.bO,c2,a i b e];exact⟨h0,vs,E,h1,f.p7 λ_ _=>bm.bO a,j⟩
 |arr sz es=>simp only[bP.bO,c2,a i b e];exact h
 |set ks=>simp only[bP.bO,c2,a i b e];exact h
 |buf E s=>simp only[bP.bO,c2,a i b e];exact h
 |b8 E c=>
  obtain⟨h0,⟨p,v,h1,f,j⟩,t⟩:=h;simp only[bP.bO,c2,a i b e];exact⟨h0,⟨p,v,h1,f,bm.bO a j⟩,t⟩
 |cC sz es i o c=>
  obtain⟨h1,⟨vs,E,u,y,z,v,A,B⟩,D⟩:=h;simp only[bP.bO,c2,a _ b e];exact⟨h1,⟨vs,E,u,y,z,v,A,bm.bO a B⟩,D⟩
theorem Rel.tidy(R:Rel aD nt φ S env J (lt N) a w)(ks bs:a6)(bT:bs.Nodup)(L:keeps aD.k bs=true):
 ∃W,Rel aD nt W S (n' bs env ks) (fy bs J 0 bs) (lt bs.length) a w:=by
 have G:∀(i:Nat) b,bs[i]?=some b->(λi=>φ ((bs[i]?).getD 0)) i=φ b:=by intro i b h;simp[h]
 have D:∀i:Nat,i<aD.k->bs[i]?=some i:=by
  intro i Y;simp only[keeps,c0,wF,iQ]at L;grind
 refine⟨λi=>φ ((bs[i]?).getD 0),⟨⟨λb x f=>?_,λb X x y f P M h0 A=>?_,R.bQ.st⟩,λk g v af al=>?_,λk g v af al=>?_,λk g v af al=>?_,λb x f=>?_,R.size,R.defers,R.ext,λb x f h0=>?_,λb u=>?_,λb u=>?_⟩⟩
 . obtain⟨j,c,q,rfl,p,t,rfl⟩:=pE f;rw[gm];exact c2.bO G p (R.bQ.blk c q t)
 . obtain⟨j,c,q,rfl,p,t,rfl⟩:=pE f;obtain⟨z,H,U,rfl,B,K,rfl⟩:=pE P;simp only[gm,p,B,lx]at h0 A⊢;refine R.bQ.inj c H q U t K ?_ h0 A;intro e;subst e;have Q:=(c5.1 p)
   have l2:=(c5.1 B)
   obtain⟨a1,b1⟩:=Q;obtain⟨a2,b2⟩:=l2;have F:=rJ.1 bT;rcases FE j z with h|h|h
   . exact F j z a1 a2 h (b1.trans b2.symm)
   . subst h;exact M rfl
   . exact F z j a2 a1 h (b2.trans b1.symm)
 . obtain⟨v0,h1,rfl⟩:=zf af;obtain⟨x,f,O⟩:=R.gP k g v0 h1 al;exact⟨x,f,cq.bO G O⟩
 . obtain⟨v0,h1,rfl⟩:=zf af;exact R.hQ k g v0 h1 al
 . obtain⟨v0,h1,rfl⟩:=zf af;exact V.j1 v0
 . obtain⟨j,c,q,rfl,p,t,rfl⟩:=pE f;refine⟨by simp[lt];exact(c5.1 p).1,?_⟩;cases q with
   |box cs=>simp only[bP.bO,bP.aA,mU,c0];intro c _;exact C.j1 c
   |arr sz es=>rfl
   |set ks=>rfl
   |buf E s=>rfl
   |b8 E c=>exact C.j1 c
   |cC sz es i o c=>exact C.j1 c
 . obtain⟨j,c,q,rfl,p,t,rfl⟩:=pE f;simp only[gm,p,lx]at h0⊢;exact R.own c q t h0
 . simp only[D b u,lx];exact R.fix b u
 . simp only[lt,dw];exact(c5.1 (D b u)).1
theorem cu.tidy{c:dA}{Q:Exit->Env->a7->Nat->Prop}(ks bs:a6)(bT:bs.Nodup)(f:keeps kk bs=true)(h:cu P nt kk c (n' bs env ks) (fy bs J 0 bs) bs.length Q):cu P nt kk c env J N Q:=by
 intro code e aD φ S a w j R;subst j;obtain⟨o,R'⟩:=R.tidy ks bs bT f;exact h code e aD o S a w rfl R'
end
def cut(es:List (List T))(off len:Nat):List (List T):=if off=0/\len=es.length then es else(es.drop off).take len
def C.ck(b0 a:Nat)(es:List (List T)):C->C
 |.arr b sz off len=>if b=b0 then(if sz=a/\off+len<=es.length then .t (.slice (cut es off len))else .dead)else .arr b sz off len
 |.cH b sz i o=>if b=b0 then .dead else .cH b sz i o
 |c=>c
def V.ck(b0 a:Nat)(es:List (List T)):V->V
 |.c x=>.c (x.ck b0 a es)
 |.agg cs=>.agg (cs.map (C.ck b0 a es))
 |.aY vs=>.aY (go b0 a es vs)
where go (b0 a:Nat) (es:List (List T)):List V->List V
 |[]=>[]
 |v::vs=>v.ck b0 a es::go b0 a es vs
def bP.ck(b0 a:Nat)(es:List (List T)):bP->bP
 |.box cs=>.box (cs.map (C.ck b0 a es))
 |.arr sz l=>.arr sz l
 |.set ks=>.set ks
 |.buf E s=>.buf E s
 |.b8 E c=>.b8 E (c.ck b0 a es)
 |.cC sz l i o c=>.cC sz l i o (c.ck b0 a es)
def rB(b0 a:Nat)(es:List (List T)):Env->Env
 |[]=>[]
 |(k,g,v)::r=>(k,g,v.ck b0 a es)::rB b0 a es r
def mQ(b0 a:Nat)(es:List (List T)):a7->a7
 |[]=>[]
 |(k,x)::r=>if k=b0 then mQ b0 a es r else(k,x.ck b0 a es)::mQ b0 a es r
variable{vs:List V}
section
variable {P:Program}{aD:Ctx}{nt kk:Nat}{φ:dG}{S:dV}{env:Env}{J:a7}{N:Nat}{n:Nat->Bool}{a:Act}{w:World}
theorem Aa{a:Nat}:∀{env:Env} {k:Nat},look (rB b0 a es env) k=(look env k).map λx=>(x.1,x.2.ck b0 a es)
 |[],k=>rfl
 |(i,g,v)::r,k=>by
  simp only[rB,look];split
  . rfl
  . exact Aa
theorem Dn{b:Nat}:∀{J:a7} {k:Nat},aV (mQ b0 b es J) k=if k=b0 then none else(aV J k).map (bP.ck b0 b es)
 |[],k=>by simp[mQ,aV]
 |(i,x)::r,k=>by
  simp only[mQ,aV];by_cases h:i=b0
  . rw[ae h,Dn];grind
  . rw[ak h];simp only[aV];by_cases a:i=k
    . grind
    . rw[ak a,ak a,Dn]
def wc(S:dV)(q:Nat×Nat):dV:=λb j=>S b j\/(q.2≠0/\b=q.1)
theorem ab2{len:Nat}{e:List T}(h:e∈cut es off len):e∈es:=by
 unfold cut at h;grind
theorem ab3{len i:Nat}{e:List T}(a:off+len<=es.length)(h:(cut es off len)[i]?=some e):es[off+i]?=some e/\i<len:=by
 unfold cut at h;grind
theorem Y1{len:Nat}(a:off+len<=es.length):(cut es off len).length=len:=by
 unfold cut;grind
theorem bm.ck{b0 x:Nat}{es:List (List T)}(dv:c2 φ w S b0 (.arr x es)){c:C}{v:Value}(h:bm φ w S c v):bm φ w (wc S (φ b0)) (c.ck b0 x es) v:=by
 have m:gB w S w (wc S (φ b0)):=⟨λ_ _ h=>.inl h,λ_ _ _=>rfl⟩
 have u:=bm.jk h;cases c with
 |arr b sz off len=>
  simp only[C.ck];by_cases f:b=b0
  . subst f;rw[ae rfl];split
    . rename_i A;obtain⟨rfl,q⟩:=A;obtain⟨h1,H,y,J,bb⟩:=dv;obtain⟨a,rfl,z,L⟩:=bm.hh h;have af:=Y1 q;show cg w _ (.slice (cut es off len)) _;have aI:Value.slice a len ((φ b).2-off)=Value.slice a (cut es off len).length ((φ b).2-off):=by rw[af]
      rw[aI];by_cases h0:(φ b).2=0
      . have:cut es off len=[]:=jE (by omega);rw[this];exact cg.slice [] _ _ 0 0 0 (λ_ _=>undef) (by simp) (by simp) (by simp) (by simp) (by simp) (by simp)
      . obtain⟨vs,E,aa,M,D,hs⟩:=bb h0;refine cg.slice _ _ _ sz (φ b).1 (off*sz) (λi j=>(vs.getD ((off+i)*sz+j) undef)) (by omega) (by omega) (λe he=>y e (ab2 he)) (λ_=>z h0) ?_ ?_
        . intro i j p K;rw[af]at p;refine⟨.inr ⟨h0,rfl⟩,?_⟩;rw[jw aa,show off*sz+i*sz+j=(off+i)*sz+j by rw[gn]];have aC:(off+i)*sz+j<vs.length:=by
           have:=e2 sz (show off+i+1<=(φ b).2 by omega);grind
          grind
        . intro i j e t he ht;obtain⟨B,p⟩:=ab3 q he;obtain⟨v,G,F⟩:=D _ _ _ _ B ht;simp only[List.getD,G,lx];exact cg.mono m F
    . exact u
  . rw[ak f];exact bm.mono (n:=λ_=>true) m (λ_ _=>rfl) (C.mo _) h
 |cH b sz i o=>
  simp only[C.ck];split
  . exact u
  . exact h
 |_=>exact bm.mono (n:=λ_=>true) m (λ_ _=>rfl) (C.mo _) h
theorem Hk{a:Nat}:∀{vs:List V} {i:Nat},(V.ck.go b0 a es vs)[i]?=(vs[i]?).map (V.ck b0 a es)
 |[],i=>by simp[V.ck.go]
 |v::vs,0=>by simp[V.ck.go]
 |v::vs,i+1=>by simp[V.ck.go,Hk]
theorem GC{a:Nat}:∀{vs:List V},(V.ck.go b0 a es vs).length=vs.length
 |[]=>rfl
 |v::vs=>by simp[V.ck.go,GC]
theorem cq.ck{a:Nat}(dv:c2 φ w S b0 (.arr a es)){v:V}(h:cq φ w S v x):cq φ w (wc S (φ b0)) (v.ck b0 a es) x:=by
 induction h with
 |c h=>exact .c (bm.ck dv h)
 |agg h=>exact .agg (h.p7 λ_ _=>bm.ck dv)
 |aY vs xs af h ih=>
  refine .aY _ xs (by rw[GC];exact af) ?_;intro i v x e f;rw[Hk,bd]at e;grind
theorem C.qw{a:Nat}{c:C}(h:c.aA n=true):(c.ck b0 a es).aA n=true:=by
 cases c with
 |arr b sz off len=>simp only[C.ck];split;split;rfl;rfl;exact h
 |cH b sz i o=>simp only[C.ck];split;rfl;exact h
 |_=>exact h
theorem V.qw{b0 a:Nat}{es:List (List T)}:∀{v:V},v.aA n=true->(v.ck b0 a es).aA n=true
 |.c x,h=>by simp only[V.ck,V.aA]at h⊢;exact C.qw h
 |.agg cs,h=>by simp only[V.ck,V.aA,mU,c0]at h⊢;intro c e;exact C.qw (h c e)
 |.aY vs,h=>by simp only[V.ck,V.aA]at h⊢;exact go vs h
where go:∀vs,V.aA.V.dH n vs=true->V.aA.V.dH n (V.ck.go b0 a es vs)=true
 |[],_=>rfl
 |v::vs,h=>by simp only[V.ck.go,V.aA.V.dH,cd]at h⊢;exact⟨V.qw h.1,go vs h.2⟩
theorem Rel.freeze(R:Rel aD nt φ S env J n a w){O:Nat}(Q:aV J b0=some (.arr O es)):
 Rel aD nt φ (wc S (φ b0)) (rB b0 O es env) (mQ b0 O es J) n a w:=by
 have dv:=R.bQ.blk b0 _ Q;have m:gB w S w (wc S (φ b0)):=⟨λ_ _ h=>.inl h,λ_ _ _=>rfl⟩
 have N:∀b x,aV (mQ b0 O es J) b=some x->b≠b0/\∃z,aV J b=some z/\x=z.ck b0 O es:=by
  intro b x f;rw[Dn]at f;split at f
  . cases f
  . rename_i h;simp only[bd]at f;grind
 have G:∀b x,b≠b0->aV J b=some x->(φ b).2≠0->∀j,¬wc S (φ b0) (φ b).1 j:=by
  intro b x B f h0 j u;rcases u with u|⟨K,u⟩
  . exact(R.bQ.blk b x f).p8 h0 j u
  . exact R.bQ.inj b b0 x _ f Q B h0 K u
 refine⟨⟨λb x f=>?_,λb Z x y f aC B h0 an=>?_,λb j u=>?_⟩,λk g v af al=>?_,λk g v af al=>?_,λk g v af al=>?_,λb x f=>?_,R.size,R.defers,?_,λb x f h0=>?_,R.fix,R.fX⟩
 . obtain⟨B,z,q,rfl⟩:=N b x f;have A:=R.bQ.blk b z q;cases z with
   |box cs=>
    obtain⟨h0,vs,E,h1,D,F⟩:=A;exact⟨h0,vs,E,h1,D.p7 λ_ _=>bm.ck dv,G b _ B q h0⟩
   |arr sz l=>
    obtain⟨h1,D,F,P,bb⟩:=A;refine⟨h1,D,F,P,λh0=>?_⟩;obtain⟨vs,E,W,X,Y,am⟩:=bb h0;exact⟨vs,E,W,X,λi j e t he ht=>let⟨v,U,M⟩:=Y i j e t he ht;⟨v,U,cg.mono m M⟩,G b _ B q h0⟩
   |set ks=>exact⟨A.1,A.2.1,G b _ B q A.1⟩
   |buf E s=>exact⟨A.1,A.2.1,λh0=>⟨(A.2.2 h0).1,G b _ B q h0⟩⟩
   |b8 E c=>
    obtain⟨h0,⟨p,v,h1,D,F⟩,P⟩:=A;exact⟨h0,⟨p,v,h1,D,bm.ck dv F⟩,G b _ B q h0⟩
   |cC sz l i o c=>
    obtain⟨⟨h1,D,F,P,bb,ap⟩,⟨vs,E,W,X,Y,v,am,aZ⟩,a1⟩:=A;exact⟨⟨h1,D,F,P,bb,ap⟩,⟨vs,E,W,X,λi j e t he ht aE=>let⟨v,U,M⟩:=Y i j e t he ht aE;⟨v,U,cg.mono m M⟩,v,am,bm.ck dv aZ⟩,G b _ B q (by omega)⟩
 . obtain⟨_,z,q,rfl⟩:=N b x f;obtain⟨_,a0,aJ,rfl⟩:=N Z y aC;exact R.bQ.inj b Z z a0 q aJ B h0 an
 . rcases u with u|⟨K,rfl⟩
   . exact R.bQ.st b j u
   . exact dv.kp K
 . rw[Aa,bd]at af;obtain⟨⟨H,v0⟩,L,he⟩:=af;cases he;obtain⟨x,f,M⟩:=R.gP k H v0 L al;exact⟨x,f,cq.ck dv M⟩
 . rw[Aa,bd]at af;obtain⟨⟨H,v0⟩,L,he⟩:=af;cases he;exact R.hQ k H v0 L al
 . rw[Aa,bd]at af;obtain⟨⟨H,v0⟩,L,he⟩:=af;cases he;exact V.qw (R.gO k H v0 L al)
 . obtain⟨_,z,q,rfl⟩:=N b x f;refine⟨(R.dQ b z q).1,?_⟩;have:=(R.dQ b z q).2;cases z with
   |box cs=>simp only[bP.ck,bP.aA,mU,c0]at this⊢;intro c ax;exact C.qw (this c ax)
   |arr sz l=>rfl
   |set ks=>rfl
   |buf E s=>rfl
   |b8 E c=>simp only[bP.ck,bP.aA]at this⊢;exact C.qw this
   |cC sz l i o c=>simp only[bP.ck,bP.aA]at this⊢;exact C.qw this
 . refine⟨R.ext.os,R.ext.tape,R.ext.output,R.ext.size,R.ext.block,R.ext.mono.trans m,λb j u=>?_⟩;rcases u with u|⟨K,rfl⟩
   . exact R.ext.rU b j u
   . rcases R.own b0 _ Q K with h|h
     . exact .inr (.inl h)
     . exact .inr (.inr h)
 . obtain⟨_,z,q,rfl⟩:=N b x f;exact R.own b z q h0
theorem cu.freeze{c:dA}{Q:Exit->Env->a7->Nat->Prop}(b0:Nat){e:Nat}(f:aV J b0=some (.arr e es))(h:cu P nt kk c (rB b0 e es env) (mQ b0 e es J) N Q):cu P nt kk c env J N Q:=by
 intro code j aD φ S a w o R;exact h code j aD φ _ a w o (R.freeze f)
inductive jn where
 |tmp (t:Nat)
 |cell (t:Nat)(agg:Bool)(n:Nat)
def h8(P:Program):List ResultVar->Option (List jn)
 |[]=>some []
 |.tmp t::r=>(h8 P r).map (.tmp t::·)
 |.cell a ty::r=>(tG P ty).bind λg=>(h8 P r).map (.cell a g.1 g.2::·)
def s'(env:Env)(J:a7):jn->Option (Prop×V)
 |.tmp t=>(look env t).map λx=>(x.1=true,x.2)
 |.cell t g k=>match look env t with
  |some (a,.c (.ptr b o))=>match aV J b with
   |some (.box cs)=>(jY g k cs o).map λv=>(a=true,v)
   |_=>none
  |_=>none
def od(env:Env)(J:a7):List jn->Option (Prop×List V)
 |[]=>some (True,[])
 |r::a=>(s' env J r).bind λx=>(od env J a).map λy=>(x.1/\y.1,x.2::y.2)
def l':List V->V
 |[v]=>v
 |vs=>.aY vs
def eh(P:Program)(f:Nat)(args:List V)(J:a7)(k:Nat)(Q:V->a7->Nat->Prop):Prop:=
 ∀(φ:dG) (S:dV) (w:World) (B:Nat->Prop),qp φ w S J->(∀(b:Nat) x,aV J b=some x->b<k/\x.aA (lt k)=true)->(∀(b:Nat) x,aV J b=some x->(φ b).2≠0->B (φ b).1)->
  V.aA.V.dH (lt k) args=true->∀vs:List Value,a' (cq φ w S) args vs->
  Calls P f vs.toArray w λe w'=>∃v r a bR J' N',e= .returned v/\Q r J' N'/\cq a w' bR r v/\r.aA (lt N')=true/\qp a w' bR J'/\(∀(b:Nat) x,aV J' b=some x->b<N'/\x.aA (lt N')=true)/\Ext B S bR w w'/\
   (∀(b:Nat) x,aV J' b=some x->(a b).2≠0->B (a b).1\/w.heap.size<=(a b).1)/\∀b,b<k->a b=φ b
theorem Ext.refl{B:Nat->Prop}:Ext B S S w w:=⟨rfl,rfl,rfl,dU _,λ_ _ _=>rfl,gB.refl _ _,λ_ _ h=>.inl h⟩
def fW:Nat->List V->Env
 |_,[]=>[]
 |i,v::vs=>(i,true,v)::fW (i+1) vs
theorem DJ:∀{vs:List V} {i k:Nat} {g:Bool} {v:V},look (fW i vs) k=some (g,v)->g=true/\∃j,k=i+j/\vs[j]?=some v
 |[],i,k,g,v,h=>by simp[fW,look]at h
 |x::vs,i,k,g,v,h=>by
  simp only[fW,look]at h;split at h
  . simp_all
  . obtain⟨h1,j,b,a⟩:=DJ h;exact⟨h1,j+1,by omega,by simpa using a⟩
def wU(a:Act):ResultVar->Sem Value
 |.tmp t=>Pure.pure (a.tmps.getD t undef)
 |.cell b ty=>do loadVar ty (<-asAddr (a.tmps.getD b undef))
theorem Y2(fn:Func)(a:Act):results fn a.tmps=(fn.results.mapM (wU a)>>=λvs=>Pure.pure (if h:vs.size=1 then vs[0]else .tuple vs)):=by rfl
theorem Ys(R:Rel aD nt φ S env J n a w){i:ResultVar}{k:jn}(c:h8 P [i]=some [k]){p:Prop}{v:V}(h:s' env J k=some (p,v))(d:p):
 ∃x,(wU a i).run P w= .ok x w/\cq φ w S v x/\v.aA n=true:=by
 cases i with
 |tmp t=>
  simp[h8]at c;subst c;simp only[s',bd,bE]at h;obtain⟨⟨g,v0⟩,af,rfl,rfl⟩:=h;obtain⟨x,f,e⟩:=R.gP t g v0 af d;refine⟨x,?_,e,R.gO t g v0 af d⟩;simp[wU,f]
 |cell r ty=>
  simp only[h8,bq,bd]at c;obtain⟨g,al,l,af,he⟩:=c;simp at af;subst af;simp at he;subst he;simp only[s']at h;split at h
  . rename_i s b o af;split at h
    . rename_i cs m;simp only[bd,bE]at h;obtain⟨v0,A,rfl,rfl⟩:=h;obtain⟨x,f,e⟩:=R.gP r s _ af d;have:=e.hY;subst this;obtain⟨_,vs,E,aa,z,_⟩:=R.bQ.blk _ _ m;obtain⟨y,q,h1,u⟩:=tu (n:=n) al z (R.dQ _ _ m).2 (λj _=>by rw[jw aa,gm]) A;rw[gm]at q;refine⟨y,?_,h1,u⟩;simp[wU,f,asAddr,q]
    . cases h
  . cases h
theorem Tn(R:Rel aD nt φ S env J n a w):∀{d:List ResultVar} {c:List jn} {p:Prop} {vs:List V},h8 P d=some c->od env J c=some (p,vs)->p->
 ∃xs:List Value,(d.mapM (wU a)).run P w= .ok xs w/\a' (cq φ w S) vs xs/\V.aA.V.dH n vs=true
 |[],c,p,vs,b,h,i=>by
  simp[h8]at b;subst b;simp[od]at h;obtain⟨_,rfl⟩:=h;exact⟨[],by simp,.nil,rfl⟩
 |j::d,c,p,vs,b,h,i=>by
  have u:∃e f,c=e::f/\h8 P [j]=some [e]/\h8 P d=some f:=by
   cases j with
   |tmp t=>
    simp only[h8,bd]at b;obtain⟨l,af,rfl⟩:=b;exact⟨_,l,rfl,rfl,af⟩
   |cell A ty=>
    simp only[h8,bq,bd]at b;obtain⟨g,al,l,af,rfl⟩:=b;exact⟨_,l,rfl,by simp[h8,al],af⟩
  obtain⟨e,f,rfl,h1,k⟩:=u;simp only[od,bq,bd]at h;obtain⟨⟨q,v⟩,r,⟨D,E⟩,s,he⟩:=h;simp only[bE]at he;obtain⟨rfl,rfl⟩:=he;obtain⟨x,B,y,m⟩:=Ys R h1 r i.1;obtain⟨xs,C,z,o⟩:=Tn R k s i.2;refine⟨x::xs,?_,.cons y z,by simp[V.aA.V.dH,m,o]⟩;simp_all
theorem cq.l'{xs:List Value}(h:a' (cq φ w S) vs xs):cq φ w S (l' vs) (if h:xs.toArray.size=1 then xs.toArray[0]else .tuple xs.toArray):=by
 cases h with
 |nil=>exact .aY [] [] rfl (by simp)
 |cons h1 a=>
  cases a with
  |nil=>simpa[Shv.l']using h1
  |cons a c=>
   rw[dif_neg (by simp)];refine .aY _ _ (by simp[c.length]) ?_;intro i v x e f;have:=(a'.cons h1 (.cons a c)).get e;grind
theorem abI(h:V.aA.V.dH n vs=true):(l' vs).aA n=true:=by
 unfold l';split
 . simp[V.aA.V.dH]at h;exact h
 . simpa[V.aA]using h
def Ez(a:List jn)(Q:V->a7->Nat->Prop):Exit->Env->a7->Nat->Prop
 |.normal,env,J,N=>∃p vs,od env J a=some (p,vs)/\p/\Q (l' vs) J N
 |.ret,env,J,N=>∃p vs,od env J a=some (p,vs)/\p/\Q (l' vs) J N
 |_,_,_,_=>False
theorem eh.FL{fn:Func}{c:dA}{E:List jn}(X:P.funcs[f]?=some fn)(F:fn.body=some code)(W:resolve P fn.ntmps code=some c)(K:h8 P fn.results.toList=some E)
 {args:List V}(aE:args.length<=fn.ntmps){k:Nat}{Q:V->a7->Nat->Prop}(h:cu P fn.ntmps k c (fW 0 args) J k (Ez E Q)):eh P f args J k Q:=by
 intro φ S w B ap an Z O vs L;have af:=L.length;refine calls_of_wp X F ?_;have R:Rel ⟨w,S,B,φ,k⟩ fn.ntmps φ S (fW 0 args) J (lt k) {tmps:=vs.toArray++Array.replicate (fn.ntmps-vs.toArray.size) undef,defers:=[]} w:=by
  refine⟨ap,λi g v u al=>?_,λi g v u al=>?_,λi g v u al=>?_,λb x o=>?_,?_,rfl,Ext.refl,λb x o h0=>.inl (Z b x o h0),λ_ _=>rfl,λb F=>by simp[lt];exact F⟩
  . obtain⟨_,j,rfl,G⟩:=DJ u;obtain⟨x,o,K⟩:=L.get G;grind
  . have:=(DJ u).1;rw[this]at al;cases al
  . obtain⟨_,j,rfl,G⟩:=DJ u;exact nM O G
  . obtain⟨h1,t⟩:=an b x o;exact⟨by simp[lt];exact h1,t⟩
  grind
 refine wp_mono (h code W ⟨w,S,B,φ,k⟩ φ S _ w rfl R) ?_
 rintro e D w' ⟨aC,bR,env',J',N',a,R'⟩
 have H:(∃ p vs,od env' J' E = some (p,vs)/\p/\Q (l' vs) J' N')->D.defers = []/\∃ v,(results fn D.tmps).run P w' = .ok v w'/\(∃ M r q A y z,Ending.returned v = .returned M/\Q r y z/\cq q w' A r M/\r.aA (lt z) = true/\qp q w' A y/\(∀ (b:Nat) x,aV y b = some x->b<z/\x.aA (lt z) = true)/\Ext B S A w w'/\
  (∀(b:Nat) x,aV y b=some x->(q b).2≠0->B (q b).1\/w.heap.size<=(q b).1)/\∀b,b<k->q b=φ b):=by
  rintro ⟨p,ax,h1,t,N⟩
  obtain⟨xs,aJ,am,U⟩:=Tn R' K h1 t;refine⟨R'.defers,_,?_,_,l' ax,aC,bR,J',N',rfl,N,cq.l' am,abI U,R'.bQ,λb x o=>?_,R'.ext,R'.own,R'.fix⟩
  . have Y:(fn.results.mapM (wU D)).run P w'= .ok xs.toArray w':=by
     rw[Array.mapM_eq_mapM_toList];simp_all
    rw[Y2];simp only[Sem.run_bind,Y,Result.andThen_ok];rfl
  . obtain⟨h1,t⟩:=R'.dQ b x o;exact⟨by simpa[lt]using h1,t⟩
 cases e with
 |normal=>exact H a
 |ret=>exact H a
 |exit id=>exact a.elim
 |goto l=>exact a.elim
 |panic aD=>exact a.elim
 |outgrown=>exact a.elim
end
end
open Go
def C.bA(k:Nat):C->C
 |.ptr b o=>.ptr (k+b) o
 |.cH b sz i o=>.cH (k+b) sz i o
 |.arr b sz off len=>.arr (k+b) sz off len
 |.fE b sz off len=>.fE (k+b) sz off len
 |.mp b=>.mp (k+b)
 |.eo b=>.eo (k+b)
 |.cI b len=>.cI (k+b) len
 |.fn f caps=>.fn f (caps.map (k+·))
 |c=>c
def V.bA(k:Nat):V->V
 |.c x=>.c (x.bA k)
 |.agg cs=>.agg (cs.map (C.bA k))
 |.aY vs=>.aY (go k vs)
where go (k:Nat):List V->List V
 |[]=>[]
 |v::vs=>v.bA k::go k vs
def bP.bA(k:Nat):bP->bP
 |.box cs=>.box (cs.map (C.bA k))
 |.arr sz es=>.arr sz es
 |.set ks=>.set ks
 |.buf E s=>.buf E s
 |.b8 E c=>.b8 E (c.bA k)
 |.cC sz es i o c=>.cC sz es i o (c.bA k)
def lF(J:a7)(k:Nat):a7->a7
 |[]=>J
 |(b,x)::r=>db (lF J k r) (k+b) (x.bA k)
variable{J:a7}{K:V->a7->Prop}{f:Nat}{Q:V->a7->Nat->Prop}
theorem y7{k:Nat}:∀{a:a7} {b:Nat},aV (lF J k a) b=match (if k<=b then aV a (b-k)else none)with|some x=>some (x.bA k)|none=>aV J b
 |[],b=>by simp[lF,aV]
 |(c,x)::r,b=>by
  simp only[lF,cZ,y7,aV];grind
section
variable {P:Program}{aD:Ctx}{nt kk:Nat}{φ:dG}{S bR:dV}{env:Env}{J:a7}{N key:Nat}{n:Nat->Bool}{a:Act}{w w':World}
theorem hF.FN{args:List V}{r:V}(h:eh P f args [] 0 (λj _ _=>j=r))(q:V.aA.V.dH (lt 0) args=true)(o:r.aA (lt 0)=true)(bD:K r J):hF P f args J key K:=by
 intro aD nt φ S env n a w R aE E vs t;refine(h φ S w (λ_=>False) ⟨λb x c=>by simp[aV]at c,λb u x y c=>by simp[aV]at c,R.bQ.st⟩ (λb x c=>by simp[aV]at c) (λb x c=>by simp[aV]at c) q vs t).mono ?_
 rintro e w' ⟨v,j,F,bR,J',N',rfl,rfl,h1,z,p,A,bb,B,D⟩
 refine⟨v,j,φ,bR,J,rfl,bD,?_,V.hv (λb h=>by simp[lt]at h) o,(R.extend bb p.st).more λ_ h=>lT h⟩;exact cq.mono (gB.refl _ _) (n:=lt 0) (λb h=>by simp[lt]at h) o h1
theorem bm.bA{j:dG}{k:Nat}{n:Nat->Bool}(e:∀b,n b=true->j (k+b)=φ b){c:C}{v:Value}(a:c.aA n=true)(h:bm φ w S c v):bm j w S (c.bA k) v:=by
 cases c with
 |ptr b o=>simp only[C.aA]at a;simp only[C.bA,bm,e b a];exact h
 |cH b sz i o=>simp only[C.aA]at a;simp only[C.bA,bm,e b a];exact h
 |arr b sz off len=>simp only[C.aA]at a;simp only[C.bA,bm,e b a];exact h
 |fE b sz off len=>simp only[C.aA]at a;simp only[C.bA,bm,e b a];exact h
 |mp b=>simp only[C.aA]at a;simp only[C.bA,bm,e b a];exact h
 |eo b=>simp only[C.aA]at a;simp only[C.bA,bm,e b a];exact h
 |cI b len=>simp only[C.aA]at a;simp only[C.bA,bm,e b a];exact h
 |fn f caps=>
  simp only[C.aA,c0]at a;simp only[C.bA,bm]at h⊢;simp_all
 |_=>exact h
theorem Ly{k:Nat}:∀{vs:List V} {i:Nat},(V.bA.go k vs)[i]?=(vs[i]?).map (V.bA k)
 |[],i=>by simp[V.bA.go]
 |v::vs,0=>by simp[V.bA.go]
 |v::vs,i+1=>by simp[V.bA.go,Ly]
theorem To{k:Nat}:∀{vs:List V},(V.bA.go k vs).length=vs.length
 |[]=>rfl
 |v::vs=>by simp[V.bA.go,To]
theorem cq.bA{e:dG}{k:Nat}{n:Nat->Bool}(o:∀b,n b=true->e (k+b)=φ b){v:V}{x:Value}(a:v.aA n=true)(h:cq φ w S v x):cq e w S (v.bA k) x:=by
 induction h with
 |c h=>exact .c (bm.bA o (by simpa[V.aA]using a) h)
 | @agg cs vs h=>
  simp only[V.aA,c0]at a;refine .agg ?_;have:=h.imp (R':=λc v=>bm e w S (C.bA k c) v) λc v p q=>bm.bA o (a c p) q;exact this.p7 λ_ _ h=>h
 |aY vs xs af h ih=>
  refine .aY _ xs (by rw[To];exact af) ?_;intro i v x f t;rw[Ly,bd]at f;obtain⟨v0,j,rfl⟩:=f;exact ih i v0 x j t (nM (by simpa[V.aA]using a) j)
theorem C.rT{m:Nat}(a:m<=16){c:C}(h:c.aA (lt m)=true):(c.bA key).aA (eD n key)=true:=by
 cases c<;>simp only[C.bA,C.aA,lt,eD,dw,hW,cd,c0,eJ]at h⊢
 . right;omega
 . right;omega
 . right;omega
 . right;omega
 . right;omega
 . right;omega
 . right;omega
 grind
theorem V.rT{m:Nat}(a:m<=16):∀{v:V},v.aA (lt m)=true->(v.bA key).aA (eD n key)=true
 |.c x,h=>by simp only[V.bA,V.aA]at h⊢;exact C.rT a h
 |.agg cs,h=>by simp only[V.bA,V.aA,mU,c0]at h⊢;intro c e;exact C.rT a (h c e)
 |.aY vs,h=>by simp only[V.bA,V.aA]at h⊢;exact go vs h
where go:∀vs,V.aA.V.dH (lt m) vs=true->V.aA.V.dH (eD n key) (V.bA.go key vs)=true
 |[],_=>rfl
 |v::vs,h=>by simp only[V.bA.go,V.aA.V.dH,cd]at h⊢;exact⟨V.rT a h.1,go vs h.2⟩
theorem hF.agE{args:List V}(h:eh P f args [] 0 Q)(G:V.aA.V.dH (lt 0) args=true)
 (bD:∀r J' N',Q r J' N'->N'<=16/\K (r.bA key) (lF J key J')):hF P f args J key K:=by
 intro aD nt φ S env n a w R aE bT vs a9;refine(h φ S w (λ_=>False) ⟨λb x j=>by simp[aV]at j,λb M x y j=>by simp[aV]at j,R.bQ.st⟩ (λb x j=>by simp[aV]at j) (λb x j=>by simp[aV]at j) G vs a9).mono ?_
 rintro e w' ⟨v,bp,a0,bR,J',N',rfl,a3,h1,ax,O,U,bb,bs,bv⟩
 obtain⟨cr,bD⟩:=bD _ _ _ a3;have a1:=R.extend bb O.st;let B:dG:=λb=>if key<=b/\b<key+16 then a0 (b-key)else φ b
 have aZ:∀b,n b=true->B b=φ b:=by grind
 have D:∀b,lt N' b=true->B (key+b)=a0 b:=by
  intro b G;simp only[lt,dw]at G;grind
 have z:=a1.zn aZ;have H:∀b x,aV (lF J key J') b=some x->(∃c q,b=key+c/\aV J' c=some q/\x=q.bA key)\/aV J b=some x:=by
  intro b x j;rw[y7]at j;grind
 have Z:∀c q,aV J' c=some q->(B (key+c)).2≠0->w.heap.size<=(B (key+c)).1:=by grind
 have aJ:∀b x,aV J b=some x->(B b).2≠0->(B b).1<w.heap.size:=by
  intro b x j h0;rw[aZ b (R.dQ b x j).1]at h0⊢;exact(R.bQ.blk b x j).kp h0
 refine⟨v,bp.bA key,B,bR,lF J key J',rfl,bD,cq.bA D ax h1,V.rT cr ax,⟨⟨λb x j=>?_,λb M x y j X a4 h0 F=>?_,O.st⟩,z.gP,z.hQ,λk g v af al=>V.hv (λ_ h=>lT h) (z.gO k g v af al),λb x j=>?_,z.size,z.defers,z.ext,λb x j h0=>?_,z.fix,λb G=>lT (z.fX b G)⟩⟩
 . rcases H b x j with⟨c,q,rfl,t,rfl⟩|j
   . have dv:=O.blk c q t;have W:=U c q t;have aI:=D c (by simp[lt];exact W.1);cases q with
     |box cs=>
      obtain⟨am,vs,E,A,u,L⟩:=dv;simp only[bP.bA,c2,aI];refine⟨am,vs,E,A,?_,L⟩;have aC:=W.2;simp only[bP.aA,c0]at aC;have:=u.imp (R':=λc v=>bm B w' bR (C.bA key c) v) λc v t a5=>bm.bA D (aC c t) a5;exact this.p7 λ_ _ h=>h
     |arr sz es=>simp only[bP.bA,c2,aI];exact dv
     |set ks=>simp only[bP.bA,c2,aI];exact dv
     |buf E s=>simp only[bP.bA,c2,aI];exact dv
     |b8 E c=>
      obtain⟨am,⟨p,v,A,u,L⟩,an⟩:=dv;simp only[bP.bA,c2,aI];exact⟨am,⟨p,v,A,u,bm.bA D (by simpa[bP.aA]using W.2) L⟩,an⟩
     |cC sz es i o c=>
      obtain⟨h1,⟨vs,E,A,u,L,v,an,be⟩,bi⟩:=dv;simp only[bP.bA,c2,aI];exact⟨h1,⟨vs,E,A,u,L,v,an,bm.bA D (by simpa[bP.aA]using W.2) be⟩,bi⟩
   . exact z.bQ.blk b x j
 . rcases H b x j with⟨c,q,rfl,t,rfl⟩|j<;>rcases H M y X with⟨N,ap,rfl,Y,rfl⟩|X
   . have aI:=D c (by simp[lt];exact(U c q t).1);have a2:=D N (by simp[lt];exact(U N ap Y).1);rw[aI]at h0⊢;rw[a2]at F⊢;exact O.inj c N q ap t Y (by omega) h0 F
   . have:=Z c q t h0;have:=aJ M y X F;omega
   . have:=Z N ap Y F;have:=aJ b x j h0;omega
   . exact z.bQ.inj b M x y j X a4 h0 F
 . rcases H b x j with⟨c,q,rfl,t,rfl⟩|j
   . obtain⟨A,u⟩:=U c q t;refine⟨by simp[eD];right;omega,?_⟩;cases q with
     |box cs=>
      simp only[bP.bA,bP.aA,mU,c0]at u⊢;intro c t;exact C.rT cr (u c t)
     |arr sz es=>rfl
     |set ks=>rfl
     |buf E s=>rfl
     |b8 E c=>simp only[bP.bA,bP.aA]at u⊢;exact C.rT cr u
     |cC sz es i o c=>simp only[bP.bA,bP.aA]at u⊢;exact C.rT cr u
   . obtain⟨A,u⟩:=z.dQ b x j;exact⟨lT A,bP.hv (λ_ h=>lT h) u⟩
 . rcases H b x j with⟨c,q,rfl,t,rfl⟩|j
   . exact .inr (g' R.ext.size (Z c q t h0))
   . exact z.own b x j h0
end
theorem eh.mk{P:Program}{fn:Func}{c:dA}{a:List jn}(o:P.funcs[f]?=some fn)(j:fn.body.bind (resolve P fn.ntmps)=some c)(q:h8 P fn.results.toList=some a)
 {args:List V}{nt:Nat}(p:fn.ntmps=nt)(aE:args.length<=nt){k:Nat}{Q:V->a7->Nat->Prop}(h:cu P nt k c (fW 0 args) J k (Ez a Q)):eh P f args J k Q:=by
 subst p;obtain⟨code,h1,e⟩:=ug.1 j;exact eh.FL o h1 e q aE h
section
open Go
def C.b9(f:Nat->Nat):C->C
 |.ptr b o=>.ptr (f b) o
 |.cH b sz i o=>.cH (f b) sz i o
 |.arr b sz off len=>.arr (f b) sz off len
 |.fE b sz off len=>.fE (f b) sz off len
 |.mp b=>.mp (f b)
 |.eo b=>.eo (f b)
 |.cI b len=>.cI (f b) len
 |.fn g caps=>.fn g (caps.map f)
 |c=>c
def V.b9(f:Nat->Nat):V->V
 |.c x=>.c (x.b9 f)
 |.agg cs=>.agg (cs.map (C.b9 f))
 |.aY vs=>.aY (go f vs)
where go (f:Nat->Nat):List V->List V
 |[]=>[]
 |v::vs=>v.b9 f::go f vs
def bP.b9(f:Nat->Nat):bP->bP
 |.box cs=>.box (cs.map (C.b9 f))
 |.arr sz es=>.arr sz es
 |.set ks=>.set ks
 |.buf E s=>.buf E s
 |.b8 E c=>.b8 E (c.b9 f)
 |.cC sz es i o c=>.cC sz es i o (c.b9 f)
def np(J:a7):a6->a7
 |[]=>J
 |b::r=>il (np J r) b
theorem pF:∀{bs:a6} {b:Nat},aV (np J bs) b=if b∈bs then none else aV J b
 |[],b=>by simp[np]
 |c::r,b=>by
  simp only[np,fU,pF (bs:=r)];grind
def back(bs:a6)(key:Nat)(b:Nat):Nat:=(bs[b]?).getD (key+(b-bs.length))
def hq(J:a7)(bs:a6)(f:Nat->Nat):a7->a7
 |[]=>np J bs
 |(b,x)::r=>db (hq J bs f r) (f b) (x.b9 f)
theorem LA{J:a7}{bs:a6}{f:Nat->Nat}:∀{d:a7} {c:Nat} {x:bP},aV (hq J bs f d) c=some x->(∃b a,c=f b/\aV d b=some a/\x=a.b9 f)\/(c ∉ bs/\aV J c=some x)
 |[],c,x,h=>by
  simp only[hq,pF]at h;grind
 |(b,y)::r,c,x,h=>by
  simp only[hq,cZ]at h;split at h
  . rename_i e;cases h;exact .inl ⟨b,y,e.symm,by simp[aV],rfl⟩
  . rename_i e;rcases LA h with⟨g,a,h1,j,i⟩|h
    . refine .inl ⟨g,a,h1,?_,i⟩;simp only[aV];grind
    grind
variable{Q:V->a7->Nat->Prop}{bs:a6}{x:aP}{o:cL}{p:Prop}
section
variable {P:Program}{aD:Ctx}{nt kk:Nat}{φ:dG}{S bR:dV}{env:Env}{J:a7}{N key:Nat}{n:Nat->Bool}{a:Act}{w w':World}{f:Nat->Nat}
theorem bm.b9{j:dG}{n:Nat->Bool}(e:∀b,n b=true->j (f b)=φ b){c:C}{v:Value}(a:c.aA n=true)(h:bm φ w S c v):bm j w S (c.b9 f) v:=by
 cases c with
 |ptr b o=>simp only[C.aA]at a;simp only[C.b9,bm,e b a];exact h
 |cH b sz i o=>simp only[C.aA]at a;simp only[C.b9,bm,e b a];exact h
 |arr b sz off len=>simp only[C.aA]at a;simp only[C.b9,bm,e b a];exact h
 |fE b sz off len=>simp only[C.aA]at a;simp only[C.b9,bm,e b a];exact h
 |mp b=>simp only[C.aA]at a;simp only[C.b9,bm,e b a];exact h
 |eo b=>simp only[C.aA]at a;simp only[C.b9,bm,e b a];exact h
 |cI b len=>simp only[C.aA]at a;simp only[C.b9,bm,e b a];exact h
 |fn g caps=>
  simp only[C.aA,c0]at a;simp only[C.b9,bm]at h⊢;simp_all
 |_=>exact h
theorem HD:∀{vs:List V} {i:Nat},(V.b9.go f vs)[i]?=(vs[i]?).map (V.b9 f)
 |[],i=>by simp[V.b9.go]
 |v::vs,0=>by simp[V.b9.go]
 |v::vs,i+1=>by simp[V.b9.go,HD]
theorem GK:∀{vs:List V},(V.b9.go f vs).length=vs.length
 |[]=>rfl
 |v::vs=>by simp[V.b9.go,GK]
theorem cq.b9{e:dG}{n:Nat->Bool}(p:∀b,n b=true->e (f b)=φ b){v:V}{x:Value}(a:v.aA n=true)(h:cq φ w S v x):cq e w S (v.b9 f) x:=by
 induction h with
 |c h=>exact .c (bm.b9 p (by simpa[V.aA]using a) h)
 | @agg cs vs h=>
  simp only[V.aA,c0]at a;refine .agg ?_;have:=h.imp (R':=λc v=>bm e w S (C.b9 f c) v) λc v q t=>bm.b9 p (a c q) t;exact this.p7 λ_ _ h=>h
 |aY vs xs af h ih=>
  refine .aY _ xs (by rw[GK];exact af) ?_;intro i v x j u;rw[HD,bd]at j;obtain⟨v0,o,rfl⟩:=j;exact ih i v0 x o u (nM (by simpa[V.aA]using a) o)
theorem C.rF{n m:Nat->Bool}(a:∀b,m b=true->n (f b)=true){c:C}(h:c.aA m=true):(c.b9 f).aA n=true:=by
 cases c<;>simp only[C.b9,C.aA,c0,eJ]at h⊢
 . exact a _ h
 . exact a _ h
 . exact a _ h
 . exact a _ h
 . exact a _ h
 . exact a _ h
 . exact a _ h
 grind
theorem V.rF{n m:Nat->Bool}(a:∀b,m b=true->n (f b)=true):∀{v:V},v.aA m=true->(v.b9 f).aA n=true
 |.c x,h=>by simp only[V.b9,V.aA]at h⊢;exact C.rF a h
 |.agg cs,h=>by simp only[V.b9,V.aA,mU,c0]at h⊢;intro c e;exact C.rF a (h c e)
 |.aY vs,h=>by simp only[V.b9,V.aA]at h⊢;exact go vs h
where go:∀vs,V.aA.V.dH m vs=true->V.aA.V.dH n (V.b9.go f vs)=true
 |[],_=>rfl
 |v::vs,h=>by simp only[V.b9.go,V.aA.V.dH,cd]at h⊢;exact⟨V.rF a h.1,go vs h.2⟩
theorem Rel.af9{B:Nat->Prop}(R:Rel aD nt φ S env J n a w)(e:Ext B S bR w w')(Q:∀b j,bR b j->b<w'.heap.size)(P:∀b x,aV J b=some x->(φ b).2≠0->¬B (φ b).1)(dv:∀b,B b->aD.B b\/aD.jH.heap.size<=b):Rel aD nt φ bR env J n a w':=by
 have aa:∀b x,aV J b=some x->(φ b).2≠0->w'.heap[(φ b).1]?=w.heap[(φ b).1]?:=λb x f h0=>e.block _ ((R.bQ.blk b x f).kp h0) (P b x f h0);have A:∀b x,aV J b=some x->(φ b).2≠0->∀j,¬bR (φ b).1 j:=by
  intro b x f h0 j G;have u:=R.bQ.blk b x f;rcases e.rU _ _ G with h|h|h
  . exact u.p8 h0 j h
  . grind
  grind
 refine⟨⟨λb x f=>?_,R.bQ.inj,Q⟩,λk g v af al=>?_,R.hQ,R.gO,R.dQ,R.size,R.defers,?_,R.own,R.fix,R.fX⟩
 . have u:=R.bQ.blk b x f;cases x with
   |box cs=>
    obtain⟨h0,vs,E,h1,q,y⟩:=u;refine⟨h0,vs,E,(aa _ _ f h0).trans h1,q.imp λc v W z=>bm.mono (n:=λ_=>true) e.mono (λ_ _=>rfl) (C.mo _) z,A b _ f h0⟩
   |arr sz es=>
    obtain⟨h1,q,y,D,bb⟩:=u;refine⟨h1,q,y,D,λh0=>?_⟩;obtain⟨vs,E,K,L,M,N⟩:=bb h0;exact⟨vs,E,(aa _ _ f h0).trans K,L,λi j F t he ht=>let⟨v,H,z⟩:=M i j F t he ht;⟨v,H,cg.mono e.mono z⟩,A b _ f h0⟩
   |set ks=>
    obtain⟨h0,⟨es,c,h1,q⟩,y⟩:=u;exact⟨h0,⟨es,c,(aa _ _ f h0).trans h1,q⟩,A b _ f h0⟩
   |buf E s=>
    obtain⟨h1,q,y⟩:=u;refine⟨h1,q,λh0=>?_⟩;grind
   |b8 E c=>
    obtain⟨h0,⟨p,v,h1,q,y⟩,D⟩:=u;exact⟨h0,⟨p,v,(aa _ _ f h0).trans h1,q,bm.mono (n:=λ_=>true) e.mono (λ_ _=>rfl) (C.mo _) y⟩,A b _ f h0⟩
   |cC sz es i o c=>
    obtain⟨⟨h1,q,y,D,bb,O⟩,⟨vs,E,K,L,M,v,N,U⟩,X⟩:=u;exact⟨⟨h1,q,y,D,bb,O⟩,⟨vs,E,(aa _ _ f (by omega)).trans K,L,λi j F t he ht aE=>let⟨v,H,z⟩:=M i j F t he ht aE;⟨v,H,cg.mono e.mono z⟩,v,N,bm.mono (n:=λ_=>true) e.mono (λ_ _=>rfl) (C.mo _) U⟩,A b _ f (by omega)⟩
 . obtain⟨x,f,z⟩:=R.gP k g v af al;exact⟨x,f,cq.mono e.mono (λ_ _=>rfl) (R.gO k g v af al) z⟩
 . refine⟨e.os.trans R.ext.os,e.tape.trans R.ext.tape,e.output.trans R.ext.output,g' R.ext.size e.size,λb aC u=>?_,R.ext.mono.trans e.mono,λb j G=>?_⟩
   . refine(e.block b (lZ aC R.ext.size) λh=>?_).trans (R.ext.block b aC u);grind
   . rcases e.rU _ _ G with h|h|h
     . exact R.ext.rU b j h
     . grind
     . exact .inr (.inr (g' R.ext.size h))
theorem hF.raw {fn:Nat}{args:List V}{bs:a6}{Q:V->a7->Nat->Prop}(bT:bs.Nodup)(aC:∀b,b∈bs->b<key)(h:eh P fn (args.map (V.bO bs)) (fy bs J 0 bs) bs.length Q){K:V->a7->Prop}
 (bD:∀r J' N',Q r J' N'->N'<=bs.length+16/\K (r.b9 (back bs key)) (hq J bs (back bs key) J')):(∀b,b∈bs->n b=true)->∀aD nt φ S env a w,Rel aD nt φ S env J n a w->(∀b,key<=b->b<key+16->n b=false)->V.aA.V.dH n args=true->∀vs:List Value,a' (cq φ w S) args vs->
 Calls P fn vs.toArray w λe w'=>∃v r a0 bR J',e= .returned v/\K r J'/\cq a0 w' bR r v/\r.aA (eD n key)=true/\Rel aD nt a0 bR env J' (eD n key) a w':=by
 intro z aD nt φ S env a w R aE g3 vs gl;let a3:dG:=λi=>φ ((bs[i]?).getD 0);have ax:∀(i:Nat) b,bs[i]?=some b->a3 i=φ b:=by intro i b h;simp[a3,h]
 let B:Nat->Prop:=λds=>∃b x,b∈bs/\aV J b=some x/\(φ b).2≠0/\ds=(φ b).1;have an:∀b x,aV (fy bs J 0 bs) b=some x->∃c q,bs[b]?=some c/\aV J c=some q/\x=q.bO bs:=by
  intro b x f;obtain⟨j,c,q,rfl,A,F,rfl⟩:=pE f;grind
 have ge:qp a3 w S (fy bs J 0 bs):=by
  refine⟨λb x f=>?_,λb H x y f M a9 h0 L=>?_,R.bQ.st⟩
  . obtain⟨c,q,A,F,rfl⟩:=an b x f;exact c2.bO ax A (R.bQ.blk c q F)
  . obtain⟨c,q,A,F,rfl⟩:=an b x f;obtain⟨U,aZ,bv,fd,rfl⟩:=an H y M;rw[ax b c A]at h0⊢;rw[ax H U bv]at L⊢;refine R.bQ.inj c U q aZ F fd ?_ h0 L;intro e;subst e;obtain⟨a1,b1⟩:=c5.1 A;obtain⟨a2,b2⟩:=c5.1 bv;have g5:=rJ.1 bT;grind
 have fo:a' (cq a3 w S) (args.map (V.bO bs)) vs:=gl.p7 λ_ _=>cq.bO ax;have fs:V.aA.V.dH (lt bs.length) (args.map (V.bO bs))=true:=by
  refine tg λi v ci=>?_;rw[ot,bd]at ci;obtain⟨v0,_,rfl⟩:=ci;exact V.j1 v0
 refine(h a3 S w B ge (λb x f=>?_) (λb x f h0=>?_) fs vs fo).mono ?_
 . obtain⟨c,q,A,F,rfl⟩:=an b x f;refine⟨(c5.1 A).1,?_⟩;cases q with
   |box cs=>simp only[bP.bO,bP.aA,mU,c0];intro c _;exact C.j1 c
   |arr sz es=>rfl
   |set ks=>rfl
   |buf E s=>rfl
   |b8 E c=>exact C.j1 c
   |cC sz es i o c=>exact C.j1 c
 . obtain⟨c,q,A,F,rfl⟩:=an b x f;rw[ax b c A]at h0⊢;exact⟨c,q,eM A,F,h0,rfl⟩
 rintro e w' ⟨v,g0,a0,bR,J',N',rfl,ff,h1,A,F,W,bb,g1,g2⟩
 obtain⟨cr,bD⟩:=bD _ _ _ ff;have b0:∀b,B b->aD.B b\/aD.jH.heap.size<=b:=by
  rintro ds ⟨b,x,_,f,h0,rfl⟩
  exact R.own b x f h0
 have dt:Rel aD nt φ S env (np J bs) n a w:=by
  have ap:∀b x,aV (np J bs) b=some x->b ∉ bs/\aV J b=some x:=by
   intro b x f;rw[pF]at f;grind
  exact⟨⟨λb x f=>R.bQ.blk b x (ap b x f).2,λb H x y f M=>R.bQ.inj b H x y (ap b x f).2 (ap H y M).2,R.bQ.st⟩,R.gP,R.hQ,R.gO,λb x f=>R.dQ b x (ap b x f).2,R.size,R.defers,R.ext,λb x f=>R.own b x (ap b x f).2,R.fix,R.fX⟩
 have gc:∀b x,b ∉ bs->aV J b=some x->(φ b).2≠0->¬B (φ b).1:=by
  rintro b x z f h0 ⟨c,y,t,M,L,he⟩
  exact R.bQ.inj b c x y f M (λe=>z (e▸t)) h0 L he
 have eq:=dt.af9 bb F.st (λb x f h0=>by
  rw[pF]at f
  grind) b0
 let N:dG:=λb=>if key<=b/\b<key+16 then a0 (bs.length+(b-key))else φ b
 have c8:∀b,n b=true->N b=φ b:=by grind
 have O:∀b,lt N' b=true->N (back bs key b)=a0 b:=by
  intro b X;simp only[lt,dw]at X;unfold back;grind
 have am:∀b,lt N' b=true->eD n key (back bs key b)=true:=by
  intro b X;simp only[lt,dw]at X;unfold back;cases al:bs[b]? with
  |some c=>simp only[lx];exact lT (z c (eM al))
  |none=>
   have g4:=uf.1 al;simp only[Option.getD_none,eD,hW,cd,dw];right;omega
 have D:=eq.zn c8;have Z:∀b x,aV (hq J bs (back bs key) J') b=some x->(∃c q,b=back bs key c/\aV J' c=some q/\x=q.b9 (back bs key))\/(b ∉ bs/\aV J b=some x):=λb x f=>LA f;have Y:∀b x,b ∉ bs->aV J b=some x->aV (np J bs) b=some x:=by intro b x z f;rw[pF,ak z];exact f
 have be:∀c q,aV J' c=some q->(N (back bs key c)).2≠0->B (N (back bs key c)).1\/w.heap.size<=(N (back bs key c)).1:=by
  intro c q t h0;rw[O c (by simp[lt];exact(W c q t).1)]at h0⊢;grind
 have ce:∀b x,b ∉ bs->aV J b=some x->(N b).2≠0->(N b).1<w.heap.size/\¬B (N b).1:=by
  intro b x z f h0;rw[c8 b (R.dQ b x f).1]at h0⊢;exact⟨(R.bQ.blk b x f).kp h0,gc b x z f h0⟩
 refine⟨v,g0.b9 (back bs key),N,bR,hq J bs (back bs key) J',rfl,bD,cq.b9 O A h1,V.rF am A,⟨⟨λb x f=>?_,λb H x y f M a9 h0 L=>?_,F.st⟩,D.gP,D.hQ,λk g v af al=>V.hv (λ_ h=>lT h) (D.gO k g v af al),λb x f=>?_,D.size,D.defers,D.ext,λb x f h0=>?_,D.fix,λb X=>lT (D.fX b X)⟩⟩
 . rcases Z b x f with⟨c,q,rfl,t,rfl⟩|⟨z,f⟩
   . have dv:=F.blk c q t;have a4:=W c q t;have aI:=O c (by simp[lt];exact a4.1);cases q with
     |box cs=>
      obtain⟨bi,vs,E,G,u,aJ⟩:=dv;simp only[bP.b9,c2,aI];refine⟨bi,vs,E,G,?_,aJ⟩;have b3:=a4.2;simp only[bP.aA,c0]at b3;have:=u.imp (R':=λc v=>bm N w' bR (C.b9 (back bs key) c) v) λc v t gd=>bm.b9 O (b3 c t) gd;exact this.p7 λ_ _ h=>h
     |arr sz es=>simp only[bP.b9,c2,aI];exact dv
     |set ks=>simp only[bP.b9,c2,aI];exact dv
     |buf E s=>simp only[bP.b9,c2,aI];exact dv
     |b8 E c=>
      obtain⟨bi,⟨p,v,G,u,aJ⟩,bp⟩:=dv;simp only[bP.b9,c2,aI];exact⟨bi,⟨p,v,G,u,bm.b9 O (by simpa[bP.aA]using a4.2) aJ⟩,bp⟩
     |cC sz es i o c=>
      obtain⟨h1,⟨vs,E,G,u,aJ,v,bp,gs⟩,gt⟩:=dv;simp only[bP.b9,c2,aI];exact⟨h1,⟨vs,E,G,u,aJ,v,bp,bm.b9 O (by simpa[bP.aA]using a4.2) gs⟩,gt⟩
   . exact D.bQ.blk b x (Y b x z f)
 . rcases Z b x f with⟨c,q,rfl,t,rfl⟩|⟨z,f⟩<;>rcases Z H y M with⟨U,aZ,rfl,a5,rfl⟩|⟨b4,M⟩
   . have aI:=O c (by simp[lt];exact(W c q t).1);have ex:=O U (by simp[lt];exact(W U aZ a5).1);rw[aI]at h0⊢;rw[ex]at L⊢;exact F.inj c U q aZ t a5 (by rintro rfl;exact a9 rfl) h0 L
   . obtain⟨G,u⟩:=ce H y b4 M L;rcases be c q t h0 with h|h
     . intro e;rw[e]at h;exact u h
     . omega
   . obtain⟨G,u⟩:=ce b x z f h0;rcases be U aZ a5 L with h|h
     . intro e;rw[<-e]at h;exact u h
     . omega
   . exact D.bQ.inj b H x y (Y b x z f) (Y H y b4 M) a9 h0 L
 . rcases Z b x f with⟨c,q,rfl,t,rfl⟩|⟨z,f⟩
   . obtain⟨G,u⟩:=W c q t;refine⟨am c (by simp[lt];exact G),?_⟩;cases q with
     |box cs=>
      simp only[bP.b9,bP.aA,mU,c0]at u⊢;intro c t;exact C.rF am (u c t)
     |arr sz es=>rfl
     |set ks=>rfl
     |buf E s=>rfl
     |b8 E c=>simp only[bP.b9,bP.aA]at u⊢;exact C.rF am u
     |cC sz es i o c=>simp only[bP.b9,bP.aA]at u⊢;exact C.rF am u
   . obtain⟨G,u⟩:=D.dQ b x (Y b x z f);exact⟨lT G,bP.hv (λ_ h=>lT h) u⟩
 . rcases Z b x f with⟨c,q,rfl,t,rfl⟩|⟨z,f⟩
   . rcases be c q t h0 with h|h
     . exact b0 _ h
     . exact .inr (g' R.ext.size h)
   . exact D.own b x (Y b x z f) h0
theorem hF.agF{fn:Nat}{args:List V}(bT:bs.Nodup)(aC:∀b,b∈bs->b<key)(e:∀b,b∈bs->∃x,aV J b=some x)(h:eh P fn (args.map (V.bO bs)) (fy bs J 0 bs) bs.length Q)
 (bD:∀r J' N',Q r J' N'->N'<=bs.length+16/\K (r.b9 (back bs key)) (hq J bs (back bs key) J')):hF P fn args J key K:=by
 intro aD nt φ S env n a w R aE c vs f;exact hF.raw (n:=n) bT aC h bD (λb c=>let⟨x,j⟩:=e b c;(R.dQ b x j).1) aD nt φ S env a w R aE c vs f
theorem Tp:∀{l:a6} {i:Nat} {J J':a7},(∀b,b∈l->aV J' b=aV J b)->fy bs J' i l=fy bs J i l
 |[],i,J,J',h=>rfl
 |b::r,i,J,J',h=>by
  simp only[fy];rw[h b (by simp),Tp λc a=>h c (by simp[a])]
theorem Tq{f:Nat->Nat}:∀{a:a7} {J J':a7} {c:Nat},(aV (np J' bs) c=aV (np J bs) c)->aV (hq J' bs f a) c=aV (hq J bs f a) c
 |[],J,J',c,h=>h
 |(b,x)::r,J,J',c,h=>by
  simp only[hq,cZ];split
  . rfl
  . exact Tq h
theorem G'{key:Nat}:∀{f:a7} {J:a7} {c:Nat},f.all (λx=>decide (x.1<bs.length+16))=true->c ∉ bs->¬(key<=c/\c<key+16)->aV (hq J bs (back bs key) f) c=aV J c
 |[],J,c,d,a,g=>by simp only[hq,pF,ak a]
 |(b,x)::r,J,c,d,a,g=>by
  simp only[l7,cd,dw]at d;simp only[hq,cZ];rw[ak ?_]
  . exact G' d.2 a g
  . intro e;unfold back at e;grind
end
variable {xb:a6}
section
variable {P:Program}{aD:Ctx}{nt kk:Nat}{φ:dG}{S:dV}{env env':Env}{J J' J1:a7}{N key:Nat}{n:Nat->Bool}{a:Act}{w:World}
theorem dy(h:∀t,t∈x.tmps->look env' t=look env t):x.get env'=x.get env:=by
 cases x with
 |const v=>rfl
 |tmp t=>simp only[aP.get];rw[h t (by simp[aP.tmps])]
theorem y8{xs:List aP}(h:∀t,t∈xs.flatMap aP.tmps->look env' t=look env t):hy env' xs=hy env xs:=by
 induction xs with
 |nil=>rfl
 |cons x xs ih=>
  simp only[hy];rw[dy (λt ht=>h t (by simp[ht])),ih (λt ht=>h t (by simp only[eX,fY];exact .inr ht))]
theorem nl{x:Option aP}(h:∀t,t∈uc x->look env' t=look env t):jX env' x=jX env x:=by
 cases x with
 |none=>rfl
 |some x=>simp only[jX];rw[dy h]
theorem Tr:∀{ps:List (Nat×Nat×aP)} {cs:List C},(∀t,t∈(ps.flatMap λp=>p.2.2.tmps)->look env' t=look env t)->ll env' cs ps=ll env cs ps
 |[],cs,h=>rfl
 |(o,k,x)::r,cs,h=>by
  simp only[ll];rw[dy (λt ht=>h t (by simp[ht]))]
  congr 1;funext a;congr 1;funext c
  split
  . rw[Tr (λt ht=>h t (by simp only[eX,fY];exact .inr ht))]
  . rfl
theorem GL{sz:Nat}:∀{ps:List (Nat×aP)} {es:List (List T)},(∀t,t∈(ps.flatMap λp=>p.2.tmps)->look env' t=look env t)->jT env' sz es ps=jT env sz es ps
 |[],cs,h=>rfl
 |(i,x)::r,es,h=>by
  simp only[jT];rw[dy (λt ht=>h t (by simp[ht]))]
  congr 1;funext a;congr 1;funext c;congr 1;funext ts
  split
  . rw[GL (λt ht=>h t (by simp only[eX,fY];exact .inr ht))]
  . rfl
theorem abJ(h:∀t,t∈o.reads->look env' t=look env t):aO o env' J key=aO o env J key:=by
 cases o<;>simp only[cL.reads,fY]at h
 case mov x=>simp only[aO];rw[dy h]
 case pick c x y=>simp only[aO];rw[dy λt ht=>h t (.inl (.inl ht)),dy λt ht=>h t (.inl (.inr ht)),dy λt ht=>h t (.inr ht)]
 case alloc=>rfl
 case box x=>simp only[aO];rw[dy h]
 case allocA=>rfl
 case b2s x=>simp only[aO];rw[dy h]
 case allocS=>rfl
 case mkset=>rfl
 case bsliceT e sz len z ps=>simp only[aO];congr 1;funext a;rw[GL h]
 case lkset x y=>simp only[aO];rw[dy λt ht=>h t (.inl ht),dy λt ht=>h t (.inr ht)]
 case upset x y=>simp only[aO];rw[dy λt ht=>h t (.inl ht),dy λt ht=>h t (.inr ht)]
 case appendB e k x y=>simp only[aO];rw[dy λt ht=>h t (.inl ht),dy λt ht=>h t (.inr ht)]
 case sdata x=>simp only[aO];rw[dy h]
 case ustr e x y=>simp only[aO];rw[dy λt ht=>h t (.inl ht),dy λt ht=>h t (.inr ht)]
 case idxP k x y=>simp only[aO];rw[dy λt ht=>h t (.inl ht),dy λt ht=>h t (.inr ht)]
 case slcP k x l i=>simp only[aO];rw[dy λt ht=>h t (.inl (.inl ht)),nl λt ht=>h t (.inl (.inr ht)),nl λt ht=>h t (.inr ht)]
 case build z ps=>simp only[aO];rw[Tr h]
 case bslice sz len z ps=>simp only[aO];congr 1;funext a;rw[GL h]
 case load g k x=>simp only[aO];rw[dy h]
 case store k x v=>simp only[aO];rw[dy λt ht=>h t (.inl ht),dy λt ht=>h t (.inr ht)]
 case nilCheck x=>simp only[aO];rw[dy h]
 case bin op x y=>simp only[aO];rw[dy λt ht=>h t (.inl ht),dy λt ht=>h t (.inr ht)]
 case eqAgg op ks x y=>simp only[aO];rw[dy λt ht=>h t (.inl ht),dy λt ht=>h t (.inr ht)]
 case eqBool op x y=>simp only[aO];rw[dy λt ht=>h t (.inl ht),dy λt ht=>h t (.inr ht)]
 case eqNil=>rfl
 case not x=>simp only[aO];rw[dy h]
 case conv k x=>simp only[aO];rw[dy h]
 case i2s x=>simp only[aO];rw[dy h]
 case s2s x=>simp only[aO];rw[dy h]
 case fldA k x=>simp only[aO];rw[dy h]
 case fld g k m x=>simp only[aO];rw[dy h]
 case idxA op x y=>simp only[aO];rw[dy λt ht=>h t (.inl ht),dy λt ht=>h t (.inr ht)]
 case idxS x y=>simp only[aO];rw[dy λt ht=>h t (.inl ht),dy λt ht=>h t (.inr ht)]
 case slcS x l i=>simp only[aO];rw[dy λt ht=>h t (.inl (.inl ht)),nl λt ht=>h t (.inl (.inr ht)),nl λt ht=>h t (.inr ht)]
 case slc k x l i=>simp only[aO];rw[dy λt ht=>h t (.inl (.inl ht)),nl λt ht=>h t (.inl (.inr ht)),nl λt ht=>h t (.inr ht)]
 case slc0 x=>simp only[aO];rw[dy h]
 case mkfn f xs=>simp only[aO];rw[y8 h]
 case ext x i=>simp only[aO];rw[dy h]
 case len s x=>simp only[aO];rw[dy h]
 case append sz by' x y=>simp only[aO];rw[dy λt ht=>h t (.inl ht),dy λt ht=>h t (.inr ht)]
 case max2 x y=>simp only[aO];rw[dy λt ht=>h t (.inl ht),dy λt ht=>h t (.inr ht)]
 case min2 x y=>simp only[aO];rw[dy λt ht=>h t (.inl ht),dy λt ht=>h t (.inr ht)]
 case call=>rfl
 rfl
def ee(env:Env)(x:aP):a6:=
 match x.get env with
 |some (_,.c (.ptr b _))=>[b]
 |some (_,.c (.cH b _ _ _))=>[b]
 |some (_,.c (.arr b _ _ _))=>[b]
 |some (_,.c (.fE b _ _ _))=>[b]
 |some (_,.c (.mp b))=>[b]
 |some (_,.c (.eo b))=>[b]
 |some (_,.c (.cI b _))=>[b]
 |_=>[]
def C.fS:C->a6
 |.ptr b _|.cH b _ _ _|.arr b _ _ _|.fE b _ _ _|.mp b|.eo b|.cI b _=>[b]
 |.fn _ caps=>caps
 |_=>[]
def V.fS:V->a6
 |.c x=>x.fS
 |.agg cs=>cs.flatMap C.fS
 |.aY _=>[]
def k6(env:Env)(args:List aP):a6:=
 args.flatMap λx=>match x.get env with
  |some (_,v)=>v.fS
  |none=>[]
def ep(xb:a6)(o:cL)(env:Env)(key:Nat):a6:=
 match o with
 |.alloc _|.allocA _|.box _|.bslice .. |.mkset=>[key]
 |.allocS .. =>[key,key+1]
 |.lkset x _=>ee env x
 |.upset x _=>ee env x
 |.appendB _ _ x _=>key::ee env x
 |.ustr _ x _=>ee env x
 |.call _ args=>(List.range 16).map (key+·)++(k6 env args++xb)
 |.load _ _ x=>ee env x
 |.b2s x=>ee env x
 |.store _ x _=>ee env x
 |.append _ _ x y=>key::(ee env x++ee env y)
 |_=>[]
def cF(xb:a6)(o:cL)(env:Env)(key b:Nat):Bool:=
 match o with
 |.alloc _|.allocA _|.box _|.bslice .. |.mkset=>b==key
 |.allocS .. =>b==key||b==key+1
 |.upset x _=>(ee env x).contains b
 |.appendB _ _ x _=>b==key||(ee env x).contains b
 |.ustr _ x _=>(ee env x).contains b
 |.store _ x _=>(ee env x).contains b
 |.append _ _ x _=>b==key||(ee env x).contains b
 |.call _ args=>(decide (key<=b)&&decide (b<key+16))||(k6 env args++xb).contains b
 |_=>false
theorem Yt(aE:o.neutral=true)(ht:o.im=false){p v J1}(a:aO o env J key=some (p,v,J1)):aO o env J' key=some (p,v,J'):=by
 cases o<;>simp only[cL.neutral,cL.im,reduceCtorEq,bV]at aE ht<;>simp only[aO,bq,bd,bE]at a⊢
 all_goals
  (try (obtain⟨a1,h1,a⟩:=a;refine⟨a1,h1,?_⟩))
  (try (obtain⟨a2,b,a⟩:=a;refine⟨a2,b,?_⟩))
  (try (obtain⟨a3,c,a⟩:=a;refine⟨a3,c,?_⟩))
  (try dsimp only at a⊢)
  (try split at a)
  (try (simp_all;done))
 all_goals first
  |(cases a;rfl)
  |(cases a;done)
  |(simp only[bd,bE]at a⊢;obtain⟨x,h1,b,c,_⟩:=a;exact⟨x,h1,b,c,rfl⟩)
  |(simp only[bd]at a⊢;obtain⟨x,h1,b⟩:=a;simp only[bE]at b⊢;exact⟨x,h1,b.1,b.2.1,trivial⟩)
  |(simp only[dE,bI,bE]at a⊢;exact⟨a.1,a.2.1,a.2.2.1,trivial⟩)
theorem MH{b:Nat}(h:x.get env=some (p,.c (.mp b))):ee env x=[b]:=by simp[ee,h]
theorem Y3{b:Nat}(h:x.get env=some (p,.c (.eo b))):ee env x=[b]:=by simp[ee,h]
theorem Y4{b l:Nat}(h:x.get env=some (p,.c (.cI b l))):ee env x=[b]:=by simp[ee,h]
theorem LB{b o:Nat}(h:x.get env=some (p,.c (.ptr b o))):ee env x=[b]:=by simp[ee,h]
theorem Jm{b sz i o:Nat}(h:x.get env=some (p,.c (.cH b sz i o))):ee env x=[b]:=by simp[ee,h]
theorem aaQ{b sz i o:Nat}(h:x.get env=some (p,.c (.fE b sz i o))):ee env x=[b]:=by simp[ee,h]
theorem DK{b sz i o:Nat}(h:x.get env=some (p,.c (.arr b sz i o))):ee env x=[b]:=by simp[ee,h]
theorem Y5{p v}(a:aO o env J key=some (p,v,J1))(ht:∀b,b∈ep xb o env key->aV J' b=aV J b):
 (∃bp,aO o env J' key=some (p,v,bp)/\∀b,aV bp b=if cF xb o env key b then aV J1 b else aV J' b)/\∀b,cF xb o env key b=false->aV J1 b=aV J b:=by
 by_cases K:o.neutral=true/\o.im=false
 . have Y:∀b,cF xb o env key b=false:=by intro b;cases o<;>simp only[cL.neutral,cL.im,reduceCtorEq,bV,false_and,kn,and_self]at K<;>rfl
   have:=yW K.1 a;subst this;exact⟨⟨J',Yt K.1 K.2 a,λb=>by rw[Y b];rfl⟩,λb _=>rfl⟩
 . cases o<;>simp only[cL.neutral,cL.im,reduceCtorEq,bV,false_and,kn,and_self,not_true,not_false_eq_true]at K
   case alloc cs=>
    simp only[aO,bI,bE]at a⊢;obtain⟨rfl,rfl,rfl⟩:=a;refine⟨⟨_,⟨rfl,rfl,rfl⟩,λb=>?_⟩,λb f=>?_⟩
    . simp only[cZ,cF,iQ];by_cases h:b=key
      . subst h;simp
      . rw[ak (dK h),ak h]
    . simp only[cF,lu]at f;rw[cZ,ak (dK f)]
   case allocA cs=>
    simp only[aO,bd,bE]at a⊢;obtain⟨ts,X,rfl,rfl,rfl⟩:=a;refine⟨⟨_,⟨ts,X,rfl,rfl,rfl⟩,λb=>?_⟩,λb f=>?_⟩
    . simp only[cZ,cF,iQ];by_cases h:b=key
      . subst h;simp
      . rw[ak (dK h),ak h]
    . simp only[cF,lu]at f;rw[cZ,ak (dK f)]
   case b2s x=>
    simp only[aO,bq,bd,bE]at a⊢;obtain⟨⟨u,v0⟩,h1,⟨q,s⟩,j,rfl,rfl,rfl⟩:=a;refine⟨⟨J',⟨(u,v0),h1,(q,s),?_,rfl,rfl,rfl⟩,λb=>rfl⟩,λb _=>rfl⟩;dsimp only at j⊢;unfold nn at j⊢;split at j
    . exact j
    . exact j
    . rename_i b off len;rw[ht b (by simp[ep,DK h1])];exact j
    . rename_i b off len;rw[ht b (by simp[ep,aaQ h1])];exact j
    . cases j
   case box x=>
    simp only[aO,bq,bd,bE]at a⊢;obtain⟨O,h1,cs,j,rfl,rfl,rfl⟩:=a;refine⟨⟨_,⟨O,h1,cs,j,rfl,rfl,rfl⟩,λb=>?_⟩,λb f=>?_⟩
    . simp only[cZ,cF,iQ];by_cases h:b=key
      . subst h;simp
      . rw[ak (dK h),ak h]
    . simp only[cF,lu]at f;rw[cZ,ak (dK f)]
   case bslice sz len z ps=>
    simp only[aO,bq,bd,bE]at a⊢;obtain⟨O,h1,cs,j,rfl,rfl,rfl⟩:=a;refine⟨⟨_,⟨O,h1,cs,j,rfl,rfl,rfl⟩,λb=>?_⟩,λb f=>?_⟩
    . simp only[cZ,cF,iQ];by_cases h:b=key
      . subst h;simp
      . rw[ak (dK h),ak h]
    . simp only[cF,lu]at f;rw[cZ,ak (dK f)]
   case load g k x=>
    have:=yW rfl a;subst this;refine⟨⟨J',?_,λb=>rfl⟩,λb _=>rfl⟩;simp only[aO,bq]at a⊢;obtain⟨⟨u,v0⟩,h1,a⟩:=a;refine⟨(u,v0),h1,?_⟩;dsimp only at a⊢;split at a
    . rename_i b o;rw[ht b (by simp[ep,LB h1])];split at a
      . rename_i cs aa;simp only[bd]at a⊢;obtain⟨x,j,l⟩:=a;simp only[bE]at l⊢;exact⟨x,j,l.1,l.2.1,trivial⟩
      . rename_i E c n;simp only[dE,bI,bE]at a⊢;exact⟨a.1,a.2.1,a.2.2.1,trivial⟩
      . cases a
    . rename_i b sz i o;rw[ht b (by simp[ep,Jm h1])];split at a
      . simp only[bd]at a⊢;obtain⟨x,j,l⟩:=a;simp only[bE]at l⊢;exact⟨x,j,l.1,l.2.1,trivial⟩
      . split at a
        . cases a
        . rename_i al;rw[ak al];split at a
          . rename_i D;rw[ae D];simp only[bI,bE]at a⊢;exact⟨a.1,a.2.1,trivial⟩
          . rename_i D;rw[ak D];simp only[bd]at a⊢;obtain⟨x,j,l⟩:=a;simp only[bE]at l⊢;exact⟨x,j,l.1,l.2.1,trivial⟩
      . cases a
    . simp only[bd]at a⊢;obtain⟨x,j,l⟩:=a;simp only[bE]at l⊢;exact⟨x,j,l.1,l.2.1,trivial⟩
    . cases a
   case store k x y=>
    simp only[aO,bq,dE]at a⊢;obtain⟨⟨u,v0⟩,h1,d,j,cs,l,G,a⟩:=a;have F:∀(b:Nat) (N:bP),ee env x=[b]->J1=db J b N->(∀c,aV (db J' b N) c=if cF xb (.store k x y) env key c then aV J1 c else aV J' c)/\∀c,cF xb (.store k x y) env key c=false->aV J1 c=aV J c:=by
     intro b N f hs;subst hs;refine⟨λc=>?_,λc n=>?_⟩
     . simp only[cF,f,l0,kW,jj,iQ,cZ];grind
     . simp only[cF,f,l0,kW,jj,lu]at n;rw[cZ,ak (dK n)]
    dsimp only at a⊢;split at a
    . rename_i b o;have f:=LB h1;split at a
      . rename_i ds M;simp only[dE,bI,bE]at a;obtain⟨bb,rfl,rfl,B⟩:=a;obtain⟨f1,f2⟩:=F b _ f B.symm;refine⟨⟨_,⟨(u,.c (.ptr b o)),h1,d,j,cs,l,G,?_⟩,f1⟩,f2⟩;dsimp only;rw[ht b (by simp[ep,f]),M];dsimp only;rw[ae bb]
      . rename_i E T M;split at a
        . rename_i c;simp only[bI,bE]at a;obtain⟨rfl,rfl,B⟩:=a;obtain⟨f1,f2⟩:=F b _ f B.symm;refine⟨⟨_,⟨(u,.c (.ptr b 1)),h1,d,j,_,l,G,?_⟩,f1⟩,f2⟩;dsimp only;rw[ht b (by simp[ep,f]),M];rfl
        . cases a
      . cases a
    . rename_i b sz i o;have f:=Jm h1;split at a
      . rename_i L es A;split at a
        . rename_i c n;simp only[bI,bE]at a;obtain⟨rfl,rfl,B⟩:=a;obtain⟨f1,f2⟩:=F b _ f B.symm;refine⟨⟨_,⟨(u,.c (.cH b sz i o)),h1,d,j,cs,l,G,?_⟩,f1⟩,f2⟩;dsimp only;rw[ht b (by simp[ep,f]),A];dsimp only;rw[n]
        rename_i n;simp only[bq,bI,bE]at a;obtain⟨ts,bb,rfl,rfl,B⟩:=a;obtain⟨f1,f2⟩:=F b _ f B.symm;refine⟨⟨_,⟨(u,.c (.cH b sz i o)),h1,d,j,cs,l,G,?_⟩,f1⟩,f2⟩;dsimp only;rw[ht b (by simp[ep,f]),A];dsimp only;rw[n];dsimp only;rw[bb];rfl
      . rename_i L es ab ad T A;split at a
        . rename_i c;split at a
          . rename_i D;simp only[bI,bE]at a;obtain⟨rfl,rfl,B⟩:=a;obtain⟨f1,f2⟩:=F b _ f B.symm;refine⟨⟨_,⟨(u,.c (.cH b sz i o)),h1,d,j,_,l,G,?_⟩,f1⟩,f2⟩;dsimp only;rw[ht b (by simp[ep,f]),A];dsimp only;rw[ae D]
          . rename_i D;simp only[bq,bI,bE]at a;obtain⟨t,bb,rfl,rfl,B⟩:=a;obtain⟨f1,f2⟩:=F b _ f B.symm;refine⟨⟨_,⟨(u,.c (.cH b sz i o)),h1,d,j,_,l,G,?_⟩,f1⟩,f2⟩;dsimp only;rw[ht b (by simp[ep,f]),A];dsimp only;rw[ak D,bb];rfl
        . cases a
      . cases a
    . cases a
   case append sz by' x y=>
    simp only[aO,bq]at a⊢;obtain⟨⟨u,v0⟩,h1,⟨d1,d2⟩,j,a⟩:=a;dsimp only at a;cases H:m' v0 d2 with
    |some r=>
     rw[H]at a;have I:=H;unfold m' at I;split at I
     . rename_i b s1 off len S Z R Q;split at I
       . cases I;have C:=DK h1;dsimp only at a;unfold uT at a;dsimp only at a;split at a
         . rename_i af es A;simp only[bI,bE]at a;obtain⟨rfl,rfl,rfl⟩:=a;refine⟨⟨db (il J' b) key (.arr sz (es.take len++(es.drop R).take Q)),⟨(u,.c (.arr b s1 off len)),h1,(d1,.c (.fE S Z R Q)),j,?_⟩,λc=>?_⟩,λc n=>?_⟩
           . dsimp only;rw[H];dsimp only;unfold uT;dsimp only;rw[ht b (by simp[ep,C]),A]
           . simp only[cZ,fU,cF,C,l0,kW,jj,hW,iQ];by_cases h:c=key
             . subst h;simp
             . rw[ak (dK h)];by_cases w:c=b
               . subst w;simp[h,dK h]
               . rw[ak (dK w),ak (by simp[h,w])]
           . simp only[cF,C,l0,kW,jj,qd,lu]at n;rw[cZ,fU,ak (dK n.1),ak (dK n.2)]
         . cases a
       . cases I
     . cases I
    |none=>
    rw[H]at a;simp only[bq]at a;obtain⟨ys,l,a⟩:=a;have P:mg J' d2=some ys:=by
     unfold mg at l⊢;split at l
     . exact l
     . exact l
     . rename_i b L off len;rw[ht b (by simp[ep,DK j])];exact l
     . cases l
    split at a
    . have C:ee env x=[]:=(by simp[ee,h1]);simp only[bI,bE]at a;obtain⟨rfl,rfl,rfl⟩:=a;refine⟨⟨_,⟨(u,.c .aB),h1,(d1,d2),j,by dsimp only;rw[H];simp only[bq];exact⟨ys,P,rfl⟩⟩,λb=>?_⟩,λb f=>?_⟩
      . simp only[cZ,cF,C,kW,jj,iQ];by_cases h:b=key
        . subst h;simp
        . rw[ak (dK h),ak h]
      . simp only[cF,C,kW,jj,lu]at f;rw[cZ,ak (dK f)]
    . rename_i b L off len;have C:=DK h1;split at a
      . rename_i ag es A;split at a
        . cases a
        . rename_i W;simp only[bI,bE]at a;obtain⟨rfl,rfl,rfl⟩:=a
          refine⟨⟨_,⟨(u,.c (.arr b L off len)),h1,(d1,d2),j,by
           dsimp only;rw[H];simp only[bq];refine⟨ys,P,?_⟩;rw[ht b (by simp[ep,C]),A];dsimp only
           rw[ak W]⟩,λc=>?_⟩,λc n=>?_⟩
          . simp only[cZ,fU,cF,C,l0,kW,jj,hW,iQ];by_cases h:c=key
            . subst h;simp
            . rw[ak (dK h)];by_cases w:c=b
              . subst w;simp[h,dK h]
              . rw[ak (dK w),ak (by simp[h,w])]
          . simp only[cF,C,l0,kW,jj,qd,lu]at n;rw[cZ,fU,ak (dK n.1),ak (dK n.2)]
      . cases a
    . cases a
   case allocS e e8=>
    simp only[aO,bI,bE]at a⊢;obtain⟨rfl,rfl,rfl⟩:=a;refine⟨⟨_,⟨rfl,rfl,rfl⟩,λb=>?_⟩,λb f=>?_⟩
    . simp only[cZ,cF,hW,iQ];by_cases h:key=b
      . rw[ae h,ae (.inl h.symm),ae h]
      . rw[ak h];by_cases w:key+1=b
        . rw[ae w,ae (.inr w.symm),ak h,ae w]
        . rw[ak w,a8]
    . simp only[cF,qd,lu]at f;rw[cZ,ak (dK f.1),cZ,ak (dK f.2)]
   case mkset=>
    simp only[aO,bI,bE]at a⊢;obtain⟨rfl,rfl,rfl⟩:=a;refine⟨⟨_,⟨rfl,rfl,rfl⟩,λb=>?_⟩,λb f=>?_⟩
    . simp only[cZ,cF,iQ];by_cases h:b=key
      . subst h;simp
      . rw[ak (dK h),ak h]
    . simp only[cF,lu]at f;rw[cZ,ak (dK f)]
   case lkset x y=>
    have:=yW rfl a;subst this;refine⟨⟨J',?_,λb=>rfl⟩,λb _=>rfl⟩;simp only[aO,bq]at a⊢;obtain⟨⟨u,v0⟩,h1,⟨d1,d2⟩,j,a⟩:=a;refine⟨(u,v0),h1,(d1,d2),j,?_⟩;dsimp only at a⊢;split at a
    . rename_i b s;rw[ht b (by simp[ep,MH h1])];split at a
      . simp only[bI,bE]at a⊢;exact⟨a.1,a.2.1,trivial⟩
      . cases a
    . cases a
   case upset x y=>
    simp only[aO,bq]at a⊢;obtain⟨⟨u,v0⟩,h1,⟨d1,d2⟩,j,a⟩:=a;dsimp only at a⊢;split at a
    . rename_i b s;have f:=MH h1;split at a
      . rename_i ks V;simp only[bI,bE]at a;obtain⟨rfl,rfl,rfl⟩:=a
        refine⟨⟨_,⟨(u,.c (.mp b)),h1,(d1,.c (.t (.str s))),j,by
         dsimp only
         rw[ht b (by simp[ep,f]),V]⟩,λc=>?_⟩,λc n=>?_⟩
        . simp only[cF,f,l0,kW,jj,iQ,cZ];by_cases h:c=b
          . subst h;simp
          . rw[ak (dK h),ak h]
        . simp only[cF,f,l0,kW,jj,lu]at n;rw[cZ,ak (dK n)]
      . cases a
    . cases a
   case appendB e by' x y=>
    simp only[aO,bq]at a⊢;obtain⟨⟨u,v0⟩,h1,⟨d1,d2⟩,j,a⟩:=a;dsimp only at a⊢;split at a
    . rename_i b len s;have f:=Y4 h1;split at a
      . rename_i U es A;simp only[bI,bE]at a;obtain⟨rfl,rfl,rfl⟩:=a
        refine⟨⟨_,⟨(u,.c (.cI b len)),h1,(d1,.c (.t (.str s))),j,by
         dsimp only
         rw[ht b (by simp[ep,f]),A]⟩,λc=>?_⟩,λc n=>?_⟩
        . simp only[cZ,fU,cF,f,l0,kW,jj,hW,iQ];by_cases h:c=key
          . subst h;simp
          . rw[ak (dK h)];by_cases w:c=b
            . subst w;simp[h,dK h]
            . rw[ak (dK w),ak (by simp[h,w])]
        . simp only[cF,f,l0,kW,jj,qd,lu]at n;rw[cZ,fU,ak (dK n.1),ak (dK n.2)]
      . cases a
    . cases a
   case ustr e x y=>
    simp only[aO,bq]at a⊢;obtain⟨⟨u,v0⟩,h1,⟨d1,d2⟩,j,a⟩:=a;dsimp only at a⊢;split at a
    . rename_i b m;have f:=Y3 h1;split at a
      . rename_i U es A;simp only[bI,bE]at a;obtain⟨rfl,rfl,rfl⟩:=a
        refine⟨⟨_,⟨(u,.c (.eo b)),h1,(d1,.c (.t (.int .i64 m))),j,by
         dsimp only
         rw[ht b (by simp[ep,f]),A]⟩,λc=>?_⟩,λc n=>?_⟩
        . simp only[fU,cF,f,l0,kW,jj,iQ];by_cases h:c=b
          . subst h;simp
          . rw[ak (dK h),ak h]
        . simp only[cF,f,l0,kW,jj,lu]at n;rw[fU,ak (dK n)]
      . cases a
    . cases a
   all_goals simp[aO]at a
inductive DStep (xb:a6)(P:Program)(o:cb)(key:Nat)(env:Env)(J:a7)(g:Bool)(v:V):a7->Prop
 |op {p:Prop} {J2:a7} (al:fV env o.guard = some g) (ahA:o.op.drawn = true) (xO:aO o.op env J key = some (p,v,J2)) (BD:g = true->p) (ahE:o.op.neutral = true\/g = true):
  DStep xb P o key env J g v (if o.op.neutral then J else J2)
 |skip (al:fV env o.guard=some g) (ahB:g=false):DStep xb P o key env J g v J
 |call {p:Prop} {f:Nat} {args:List aP} {vs:List V} (Fc:o.op = .call f args) (al:fV env o.guard = some g) (xO:hy env args = some (p,vs)) (BD:g = true->p/\V.aA.V.dH (lt 0) vs = true/\v.aA (lt 0) = true/\eh P f vs [] 0 (λuk _ _=>uk = v)):
  DStep xb P o key env J g v J
 |iJ {p q:Prop} {f:Nat} {x:aP} {args:List aP} {vs:List V} (Fc:o.op = .iJ x args) (aE:o.guard = none) (agl:g = true) (ahJ:x.get env = some (q, .c (.fn f []))) (ahF:q) (xP:hO P f = true) (xO:hy env args = some (p,vs))
  (BD:p/\V.aA.V.dH (lt 0) vs=true/\v.aA (lt 0)=true/\eh P f vs [] 0 (λuk _ _=>uk=v)):DStep xb P o key env J g v J
 |own {p:Prop} {f:Nat} {args:List aP} {vs:List V} {r:V} {s:a7} {M:Nat} (Fc:o.op = .call f args) (al:fV env o.guard = some g) (aE:o.guard = none) (xO:hy env args = some (p,vs)) (BD:p) (xP:V.aA.V.dH (lt 0) vs = true) (agk:M<=16) (hk:s.all (λx=>x.1<16) = true)
  (RO:eh P f vs [] 0 (λuk F5 ED=>uk=r/\F5=s/\ED=M)) (RP:v=r.bA key):DStep xb P o key env J g v (lF J key s)
 |raw {p:Prop} {f:Nat} {args:List aP} {vs:List V} {bs:a6} {r:V} {s:a7} {M:Nat} (Fc:o.op = .call f args) (al:fV env o.guard = some g) (agl:g = true) (xO:hy env args = some (p,vs)) (BD:p)
  (bT:bs.Nodup) (aC:∀b,b∈bs->b<key) (ahC:∀b,b∈bs->∃x,aV J b=some x) (ahH:∀b,b∈bs->b∈k6 env args++xb) (agk:M<=bs.length+16) (hk:s.all (λx=>decide (x.1<bs.length+16))=true)
  (RO:eh P f (vs.map (V.bO bs)) (fy bs J 0 bs) bs.length (λuk F5 ED=>uk=r/\F5=s/\ED=M)) (RP:v=r.b9 (back bs key)):DStep xb P o key env J g v (hq J bs (back bs key) s)
theorem DStep.hi{o:cb}{g:Bool}{v:V}(h:DStep xb P o key env J g v J1){K:Env->a7->Prop}(bD:K (eu env o.dst g v) J1):hi P o key env J K:=by
 cases h with
 | @op p J2 al O a e R=>
  unfold Shv.hi;rw[al];dsimp only;refine .inr ?_;split
  . rename_i f args c;rw[c]at a;simp[aO]at a
  . rename_i x args c;rw[c]at a;simp[aO]at a
  . rename_i neg x c;rw[c]at a;simp[aO]at a
  grind
 |skip al Q=>
  unfold Shv.hi;grind
 | @call p f args vs c al a e=>
  unfold Shv.hi;rw[al];dsimp only;refine .inr ?_;rw[c];dsimp only;rw[a];dsimp only;split
  . rename_i D;rw[D]at al;simp[fV]at al;subst al;obtain⟨h1,j,t,u⟩:=e rfl;exact⟨h1,hF.FN u j t bD⟩
  . refine .inr ⟨v,λw=>?_,bD⟩;obtain⟨h1,j,t,u⟩:=e w;exact⟨h1,hF.FN u j t ⟨rfl,rfl⟩⟩
 | @iJ p q f x args vs c aE w H G y a e=>
  subst w;unfold Shv.hi;rw[aE];simp only[fV];refine .inr ?_;rw[c];dsimp only;rw[H,a];dsimp only;obtain⟨h1,j,t,u⟩:=e;simp only[p',l4];exact⟨trivial,y,G,h1,hF.FN u j t bD⟩
 | @raw p f args vs bs r s M c al w a e bT aC E S B F z A=>
  subst w;unfold Shv.hi;rw[al];dsimp only;refine .inr ?_;rw[c];dsimp only;rw[a];dsimp only;subst A;have N:hF P f vs J key (λL J'=>K (eu env o.dst true L) J'):=by
   refine hF.agF bT aC E z ?_;grind
  grind
 | @own p f args vs r s M c al aE a e y B F z A=>
  unfold Shv.hi;rw[al];dsimp only;refine .inr ?_;rw[c];dsimp only;rw[a];dsimp only;rw[aE];dsimp only;rw[aE]at al;simp[fV]at al;subst al;subst A;refine⟨e,hF.agE z y ?_⟩;grind
theorem MI{o:cb}{t:Nat}(h:t∈o.op.reads):t∈o.rd:=by simp[cb.rd,h]
theorem yZ{o:cb}(h:∀t,t∈o.rd->look env' t=look env t):fV env' o.guard=fV env o.guard:=by
 cases al:o.guard with
 |none=>rfl
 |some x=>
  obtain⟨t,b⟩:=x;simp only[fV];rw[h t (by simp[cb.rd,al])]
theorem G0{s:a7}(e:s.all (λx=>x.1<16)=true){b:Nat}(d:¬(key<=b/\b<key+16))(J:a7):aV (lF J key s) b=aV J b:=by
 rw[y7];by_cases h:key<=b
 . rw[ae h];have:aV s (b-key)=none:=by
    cases hs:aV s (b-key)with
    |none=>rfl
    |some x=>
     exfalso;have:∀{s:a7} {c:Nat} {x:bP},aV s c=some x->s.all (λx=>x.1<16)=true->c<16:=by
      intro s;induction s with
      |nil=>intro c x h;simp[aV]at h
      |cons y r ih=>
       obtain⟨k,y⟩:=y;intro c x h a;simp only[l7,cd,dw]at a;simp only[aV]at h;grind
     grind
   rw[this]
 grind
theorem kR(h:∀t,t∈x.tmps->look env' t=look env t):ee env' x=ee env x:=by
 unfold ee;rw[dy h]
theorem HH{args:List aP}(h:∀t,t∈args.flatMap aP.tmps->look env' t=look env t):k6 env' args=k6 env args:=by
 induction args with
 |nil=>rfl
 |cons x r ih=>
  simp only[k6,eX]at ih⊢;rw[dy (λt ht=>h t (by simp[ht]))];grind
theorem aaR(h:∀t,t∈o.reads->look env' t=look env t)(b:Nat):cF xb o env' key b=cF xb o env key b:=by
 cases o<;>try rfl
 case store k x v=>simp only[cF];rw[kR λt ht=>h t (by simp[cL.reads,ht])]
 case append sz by' x y=>simp only[cF];rw[kR λt ht=>h t (by simp[cL.reads,ht])]
 case upset x y=>simp only[cF];rw[kR λt ht=>h t (by simp[cL.reads,ht])]
 case appendB e k x y=>simp only[cF];rw[kR λt ht=>h t (by simp[cL.reads,ht])]
 case ustr e x y=>simp only[cF];rw[kR λt ht=>h t (by simp[cL.reads,ht])]
 case call f args=>simp only[cF];rw[HH h]
theorem aaS(h:∀t,t∈o.reads->look env' t=look env t):ep xb o env' key=ep xb o env key:=by
 cases o<;>try rfl
 case b2s x=>simp only[ep];rw[kR λt ht=>h t (by simp[cL.reads,ht])]
 case load g k x=>simp only[ep];rw[kR λt ht=>h t (by simp[cL.reads,ht])]
 case store k x v=>simp only[ep];rw[kR λt ht=>h t (by simp[cL.reads,ht])]
 case lkset x y=>simp only[ep];rw[kR λt ht=>h t (by simp[cL.reads,ht])]
 case upset x y=>simp only[ep];rw[kR λt ht=>h t (by simp[cL.reads,ht])]
 case appendB e k x y=>simp only[ep];rw[kR λt ht=>h t (by simp[cL.reads,ht])]
 case ustr e x y=>simp only[ep];rw[kR λt ht=>h t (by simp[cL.reads,ht])]
 case call f args=>simp only[ep];rw[HH h]
 case append sz by' x y=>simp only[ep];rw[kR (x:=x) λt ht=>h t (by simp[cL.reads,ht]),kR (x:=y) λt ht=>h t (by simp[cL.reads,ht])]
theorem DStep.local{o:cb}{g:Bool}{v:V}(h:DStep xb P o key env J g v J1)(he:∀t,t∈o.rd->look env' t=look env t)(ht:∀b,b∈ep xb o.op env key\/cF xb o.op env key b=true->aV J' b=aV J b):
 (∃bp,DStep xb P o key env' J' g v bp/\∀b,aV bp b=if cF xb o.op env key b then aV J1 b else aV J' b)/\∀b,cF xb o.op env key b=false->aV J1 b=aV J b:=by
 have B:∀t,t∈o.op.reads->look env' t=look env t:=λt h=>he t (MI h);cases h with
 | @op p J2 al S u w X=>
  obtain⟨⟨bp,h1,Q⟩,R⟩:=Y5 (J':=J') u (λb a=>ht b (.inl a));have aE:o.op.neutral=true->∀b,cF xb o.op env key b=false:=by intro aE b;generalize o.op=am at aE;cases am<;>simp[cL.neutral]at aE<;>rfl
  refine⟨⟨_,DStep.op (J2:=bp) (p:=p) (by rw[yZ he];exact al) S (by rw[abJ B];exact h1) w X,λb=>?_⟩,λb a=>?_⟩
  . by_cases z:o.op.neutral=true
    . rw[ae z,aE z b];rfl
    . rw[ak z,ak z];exact Q b
  . by_cases z:o.op.neutral=true
    . rw[ae z]
    . rw[ak z];exact R b a
 |skip al U=>
  refine⟨⟨J',DStep.skip (by rw[yZ he];exact al) U,λb=>?_⟩,λb _=>rfl⟩;split
  . rename_i j;exact ht b (.inr j)
  . rfl
 | @call p f args vs c al u w=>
  refine⟨⟨J',DStep.call c (by rw[yZ he];exact al) (by rw[y8 λt h=>B t (by rw[c];exact h)];exact u) w,λb=>?_⟩,λb _=>rfl⟩;split
  . rename_i j;exact ht b (.inr j)
  . rfl
 | @iJ p q f x args vs c aE H af Y a u w=>
  refine⟨⟨J',DStep.iJ c aE H (by rw[dy λt h=>B t (by rw[c];simp[cL.reads,h])];exact af) Y a (by rw[y8 λt h=>B t (by rw[c];simp only[cL.reads,fY];exact .inr h)];exact u) w,λb=>?_⟩,λb _=>rfl⟩;split
  . rename_i j;exact ht b (.inr j)
  . rfl
 | @own p f args vs r s M c al aE u w a F y G K=>
  refine⟨⟨_,DStep.own c (by rw[yZ he];exact al) aE (by rw[y8 λt h=>B t (by rw[c];exact h)];exact u) w a F y G K,λb=>?_⟩,λb A=>?_⟩
  . by_cases D:key<=b/\b<key+16
    . have j:cF xb o.op env key b=true:=by rw[c];simp[cF,D.1,D.2]
      rw[ae j];have e:=ht b (.inr j);rw[y7,y7,e]
    . rw[G0 y D];split
      . rename_i j;rw[G0 y D];exact ht b (.inr j)
      . rfl
  . have D:¬(key<=b/\b<key+16):=by intro h;rw[c]at A;simp[cF,h.1,h.2]at A
    exact G0 y D J
 | @raw p f args vs bs r s M c al H u w bT aC W E F y G K=>
  have Z:∀b,b∈k6 env args++xb->b∈ep xb o.op env key:=by intro b a;rw[c];simp only[ep,fY];exact .inr (fY.1 a)
  have N:∀b,b∈bs->aV J' b=aV J b:=λb a=>ht b (.inl (Z b (E b a)));have O:∀t,t∈args.flatMap aP.tmps->look env' t=look env t:=λt h=>B t (by rw[c];exact h)
  refine⟨⟨_,DStep.raw (bs:=bs) c (by rw[yZ he];exact al) H (by rw[y8 O];exact u) w bT aC (λb a=>by rw[N b a];exact W b a) (λb a=>by rw[HH O];exact E b a) F y
   (by rw[Tp N];exact G) K,λb=>?_⟩,λb A=>?_⟩
  . by_cases j:cF xb o.op env key b=true
    . rw[ae j];refine Tq ?_;rw[pF,pF,ht b (.inr j)]
    . rw[ak j];have L:cF xb o.op env key b=false:=(by simpa using j);rw[c]at L;simp only[cF,qd,Fx,yo]at L;refine G' y (λa=>?_) (by omega);have:=E b a;simp[Fy,this]at L
  . rw[c]at A;simp only[cF,qd,Fx,yo]at A;refine G' y (λa=>?_) (by omega);have:=E b a;simp[Fy,this]at A
def xo(xb:a6)(P:Program):List cb->Nat->Env->a7->(Env->a7->Prop)->Prop
 |[],_,env,J,K=>K env J
 |o::r,key,env,J,K=>∃g v J1,DStep xb P o key env J g v J1/\xo xb P r (key+16) (eu env o.dst g v) J1 K
structure oH (xb:a6)(P:Program)(aZ:List cb)(N:Nat)(E:Nat->Env)(T:Nat->a7)(G:Nat->Bool)(W:Nat->V):Prop where
 step:∀(i:Nat) o,aZ[i]?=some o->DStep xb P o (N+16*i) (E i) (T i) (G i) (W i) (T (i+1))/\E (i+1)=eu (E i) o.dst (G i) (W i)
theorem IM:∀{aZ:List cb} {key:Nat} {env:Env} {J:a7} {K:Env->a7->Prop},xo xb P aZ key env J K->∃E T G W,oH xb P aZ key E T G W/\E 0=env/\T 0=J/\K (E aZ.length) (T aZ.length)
 |[],key,env,J,K,h=>⟨λ_=>env,λ_=>J,λ_=>true,λ_=>.aY [],⟨λi o h=>by simp at h⟩,rfl,rfl,h⟩
 |o::r,key,env,J,K,h=>by
  obtain⟨g,v,J1,h1,a⟩:=h;obtain⟨E,T,G,W,c,aI,e,bD⟩:=IM a;refine⟨λi=>if i=0 then env else E (i-1),λi=>if i=0 then J else T (i-1),λi=>if i=0 then g else G (i-1),λi=>if i=0 then v else W (i-1),⟨λi d b=>?_⟩,rfl,rfl,by simpa using bD⟩;cases i with
  |zero=>grind
  |succ i=>
   have:=c.step i d (by simpa using b);grind
end
end
section
open Go
variable {xb:a6}
variable{p:Nat->Bool}{L:List (cb×a6)}{j:Nat}{env:Env}{o:cL}{J:a7}{S:dV}{φ:dG}{a:Act}{w:World}{D:Nat->a6}{listed:Array Bool}{Q:Exit->Act->World->Prop}
theorem IY:∀{m:Nat},(∃i,i<m/\p i=true)->∃i,i<m/\p i=true/\∀j,j<m->p j=true->j<=i
 |0,⟨i,h,_⟩=>by omega
 |m+1,⟨i,h1,a⟩=>by
  cases b:p m with
  |true=>exact⟨m,by omega,b,λj e _=>by omega⟩
  |false=>
   have:i<m:=(by grind);obtain⟨k,c,d,bb⟩:=IY (m:=m) ⟨i,this,a⟩;grind
theorem yg{P:Program}{nt:Nat}{ops:Array Oper}:∀{l:List Oper} {aZ:List cb},jy P nt ops l=some aZ->aZ.length=l.length
 |[],aZ,h=>by simp[jy]at h;subst h;rfl
 |o::l,aZ,h=>by
  simp only[jy,bq,bd]at h;obtain⟨b,c,r,a,rfl⟩:=h;simp[yg a]
theorem Gv{P:Program}{nt:Nat}{ops:Array Oper}:∀{l:List Oper} {aZ:List cb} {i:Nat} {o:Oper},jy P nt ops l=some aZ->l[i]?=some o->∃b,aZ[i]?=some b/\vx P nt ops o=some b
 |[],aZ,i,o,h,a=>by simp at a
 |x::l,aZ,i,o,h,a=>by
  simp only[jy,bq,bd]at h;obtain⟨b,c,r,d,rfl⟩:=h;cases i with
  |zero=>simp at a;subst a;exact⟨b,rfl,c⟩
  |succ i=>simpa using Gv d (by simpa using a)
theorem GM:∀{l:List (cb×a6)} {k i:Nat} {x:cb×a6},Dj k l=true->l[i]?=some x->∀d,d∈x.2->d<k+i
 |[],k,i,x,h,a,d,b=>by simp at a
 |y::r,k,i,x,h,a,d,b=>by
  simp only[Dj,cd,c0,dw]at h;cases i with
  |zero=>simp at a;subst a;exact h.1 d b
  |succ i=>
   have:=GM h.2 (by simpa using a) d b;omega
theorem aaT{i:Nat}(h:ahead L j i=true):j<i/\∃x,L[i]?=some x/\j∈x.2:=by
 simp only[ahead,cd,dw]at h;grind
theorem KF{key b:Nat}(ht:o.im=true)(a:cF xb o env key b=true):b∈ep xb o env key:=by
 cases o
 case call f args=>
  simp only[cF,hW,cd,dw,Fy]at a;simp only[ep,fY,eJ,wF];rcases a with h|h
  . exact .inl ⟨b-key,by omega,by omega⟩
  grind
 all_goals simp[cL.im]at ht<;>simp[cF,ep]at a⊢<;>first|exact a|(rcases a with h|h;exact .inl h;exact .inr (.inl h))
theorem Yc{key:Nat}(ht:o.im=false):ep xb o env key=[]:=by
 cases o<;>simp[cL.im]at ht<;>rfl
theorem LC{key b:Nat}(a:cF xb o env key b=true):o.neutral=false:=by
 cases o<;>simp[cF]at a<;>rfl
theorem M8{key b:Nat}(ht:o.im=false)(a:cF xb o env key b=true):key<=b/\b<key+16:=by
 cases o<;>simp[cL.im]at ht<;>simp[cF]at a
section
variable {P:Program}{aD:Ctx}{nt kk:Nat}{N:Nat}{ops:Array Oper}{aZ:List cb}{E:Nat->Env}{T:Nat->a7}{G:Nat->Bool}{W:Nat->V}
theorem Rel.af8{env':Env}{n:Nat->Bool}(R:Rel aD nt φ S env J n a w)(h:∀t,look env' t=look env t):Rel aD nt φ S env' J n a w:=
 ⟨R.bQ,λk g v af=>R.gP k g v (h k▸af),λk g v af=>R.hQ k g v (h k▸af),λk g v af=>R.gO k g v (h k▸af),R.dQ,R.size,R.defers,R.ext,R.own,R.fix,R.fX⟩
def iu(xb:a6)(aZ:List cb)(E:Nat->Env)(N i b:Nat):Bool:=match aZ[i]? with|some o=>cF xb o.op (E i) (N+16*i) b|none=>false
theorem wA(d:oH xb P aZ N E T G W){t:Nat}{i:Nat}:∀{k:Nat},i<=k->k<=aZ.length->(∀(j:Nat) (o:cb),i<=j->j<k->aZ[j]?=some o->o.dst≠some t)->look (E k) t=look (E i) t:=by
 intro k;induction k with
 |zero=> intro h1 _ _; have:i = 0:= by omega
         subst this;rfl
 |succ k ih=>
  intro h1 e b;by_cases f:i=k+1
  . grind
  . have c:k<aZ.length:=(by omega);have a:aZ[k]?=some aZ[k]:=eI c;rw[(d.step k _ a).2,pD,ak (b k _ (by omega) (by omega) a)];grind
theorem Dp(f:oH xb P aZ N E T G W){b:Nat}{i:Nat}:∀{k:Nat},i<=k->k<=aZ.length->(∀j:Nat,i<=j->j<k->iu xb aZ E N j b=false)->aV (T k) b=aV (T i) b:=by
 intro k;induction k with
 |zero=> intro h1 _ _; have:i = 0:= by omega
         subst this;rfl
 |succ k ih=>
  intro h1 g d;by_cases l:i=k+1
  . grind
  . have e:k<aZ.length:=(by omega);have c:aZ[k]?=some aZ[k]:=eI e;have a:=d k (by omega) (by omega);unfold iu at a;rw[c]at a;have:=((f.step k _ c).1.local (env':=E k) (J':=T k) (λ_ _=>rfl) (λ_ _=>rfl)).2 b a;grind
inductive jo (D:Nat->a6)(j:Nat):Nat->Prop
 |one {i:Nat} (h:j∈D i):jo D j i
 |step {e i:Nat} (h:jo D j e) (he:e∈D i):jo D j i
theorem jo.ready{n:Nat}(c:∀i d,i<n->d∈D i->d<i)(f:∀e,e<n->p e=true->∀d,d∈D e->p d=true){i:Nat}(h:jo D j i)(o:i<n)(a:∀d,d∈D i->p d=true):p j=true:=by
 induction h with
 |one h=>exact a _ h
 |step h he ih=>grind
theorem jo.congr{c:Nat->a6}{n:Nat}(f:∀i d,i<n->d∈D i->d<i)(e:∀i,i<n->D i=c i){i:Nat}(h:jo D j i)(a:i<n):jo c j i:=by
 induction h with
 |one h=>exact .one (by rw[<-e _ a];exact h)
 |step h he ih=>
  have:=f _ _ a he;exact .step (ih (by omega)) (by rw[<-e _ a];exact he)
theorem JW{D:Nat->a6}:∀{l:List (cb×a6)} {acc:List a6},(∀(k:Nat) x,l[k]?=some x->D (acc.length+k)=x.2)->(∀i j,j∈acc.getD i []->jo D j i)->∀i j,j∈(mr l acc).getD i []->jo D j i
 |[],acc,_,b,i,j,h=>b i j h
 |x::r,acc,c,b,i,j,h=>by
  simp only[mr]at h;refine JW (acc:=acc++[(x.2++x.2.flatMap λe=>acc.getD e []).eraseDups]) (λk y m=>?_) (λi j a=>?_) i j h
  . have:=c (k+1) y (by simpa using m);grind
  . rw[Fq,List.getElem?_append]at a;split at a
    . grind
    . rename_i n;cases d:i-acc.length with
      |succ k=>rw[d]at a;simp at a
      |zero=>
       rw[d]at a;have g:i=acc.length:=(by omega);subst g;have f:D acc.length=x.2:=(by simpa using c 0 x rfl);simp only[yn,lx,List.mem_eraseDups,fY,FJ]at a;rcases a with a|⟨e,he,a⟩
       . exact .one (by rw[f];exact a)
       . exact .step (b e j a) (by rw[f];exact he)
structure Stat (xb:a6)(aZ:List cb)(D:Nat->a6)(E:Nat->Env)(N:Nat):Prop where
 back:∀i d,i<aZ.length->d∈D i->d<i
 wX:∀(i j:Nat) (x y:cb) (d:Nat),aZ[i]?=some x->aZ[j]?=some y->y.dst=some d->(d∈x.rd->(j<i/\j∈D i)\/(x.op.neutral=true/\x.op.im=false/\i<j/\i∈D j))/\(i=j\/x.dst≠some d)
 ord:∀i j b,i≠j->i<aZ.length->j<aZ.length->iu xb aZ E N i b=true->((∃y:cb,aZ[j]?=some y/\b∈ep xb y.op (E j) (N+16*j))\/iu xb aZ E N j b=true)->(i<j/\jo D i j)\/(j<i/\jo D j i)
def used(N m:Nat)(listed:Array Bool):Nat->Bool:=λb=>lt N b||(List.range m).any λi=>listed.getD i false&&(decide (N+16*i<=b)&&decide (b<N+16*i+16))
structure Inv (xb:a6)(aD:Ctx)(nt:Nat)(aZ:List cb)(D:Nat->a6)(N:Nat)(E:Nat->Env)(T:Nat->a7)(G:Nat->Bool)(W:Nat->V)(listed:Array Bool)(φ:dG)(S:dV)(env:Env)(J:a7)(a:Act)(w:World):Prop where
 rel:Rel aD nt φ S env J (used N aZ.length listed) a w
 size:listed.size=aZ.length
 down:∀i,i<aZ.length->listed.getD i false=true->∀d,d∈D i->listed.getD d false=true
 cW:∀t,(∀(i:Nat) (o:cb),aZ[i]?=some o->listed.getD i false=true->o.dst≠some t)->look env t=look (E 0) t
 aI:∀t (i:Nat) (o:cb),aZ[i]?=some o->listed.getD i false=true->o.dst=some t->look env t=some (G i,W i)
 rS:∀b,(∀i,i<aZ.length->listed.getD i false=true->iu xb aZ E N i b=false)->aV J b=aV (T 0) b
 s1:∀b i,i<aZ.length->listed.getD i false=true->iu xb aZ E N i b=true->(∀j,j<aZ.length->listed.getD j false=true->iu xb aZ E N j b=true->j<=i)->aV J b=aV (T (i+1)) b
theorem lh{i:Nat}(a:i<listed.size):(listed.setIfInBounds i true).getD j false=if j=i then true else listed.getD j false:=by
 by_cases h:j=i
 . simp_all
 . rw[ak h,getD_set_ne false (dK h)]
theorem Inv.agree(cA:Inv xb aD nt aZ D N E T G W listed φ S env J a w)(st:Stat xb aZ D E N)(q:oH xb P aZ N E T G W)
 {i:Nat}{o:cb}(O:aZ[i]?=some o)(aE:listed.getD i false=false)(Q:∀d,d∈D i->listed.getD d false=true):
 (∀t,t∈o.rd->look env t=look (E i) t)/\∀b,b∈ep xb o.op (E i) (N+16*i)\/cF xb o.op (E i) (N+16*i) b=true->aV J b=aV (T i) b:=by
 have R:i<aZ.length:=(c5.1 O).1;refine⟨λt ht=>?_,λb B=>?_⟩
 . by_cases am:∃(j:Nat) (y:cb),aZ[j]?=some y/\y.dst=some t
   . obtain⟨j,y,c,A⟩:=am;rcases (st.wX i j o y t O c A).1 ht with⟨h1,L⟩|⟨_,_,h1,L⟩
     . rw[cA.aI t j y c (Q j L) A];have:look (E (j+1)) t=some (G j,W j):=by rw[(q.step j y c).2,pD,ae A]
       rw[<-this]
       symm
       refine wA q (by omega) (by omega) λk z M F e u=>?_;rcases (st.wX k j z y t e c A).2 with h|h
       . omega
       . exact h u
     . have v:j<aZ.length:=(c5.1 c).1;have Z:∀(k:Nat) (z:cb),aZ[k]?=some z->z.dst=some t->k=j:=by
        intro k z e u;rcases (st.wX k j z y t e c A).2 with h|h
        . exact h
        grind
       rw[cA.cW t λk z e af u=>by
        have:=Z k z e u;subst this;have:=cA.down k v af i L
        grind]
       symm
       refine wA q (hA _) (by omega) λk z _ a2 e u=>?_;have:=Z k z e u;omega
   . have K:∀(j:Nat) (y:cb),aZ[j]?=some y->y.dst≠some t:=λj y c h=>am ⟨j,y,c,h⟩;rw[cA.cW t λj y c _=>K j y c]
     symm
     exact wA q (hA _) (by omega) λj y _ _ c=>K j y c
 . have an:∀j,j≠i->j<aZ.length->iu xb aZ E N j b=true->(j<i/\jo D j i)\/(i<j/\jo D i j):=by
    intro j v f x;refine st.ord j i b v f R x ?_;rcases B with B|B
    . grind
    . exact .inr (by unfold iu;rw[O];exact B)
   have af:∀j,j<aZ.length->listed.getD j false=true->iu xb aZ E N j b=true->j<i:=by
    intro j f H x;have a0:j≠i:=by rintro rfl;rw[aE]at H;cases H
    rcases an j a0 f x with h|h
    . exact h.1
    . have:=h.2.ready (p:=λk=>listed.getD k false) st.back cA.down f (cA.down j f H);grind
   have aJ:∀j,j<i->iu xb aZ E N j b=true->listed.getD j false=true:=by
    intro j a1 x;rcases an j (by omega) (by omega) x with h|h
    . exact h.2.ready (p:=λk=>listed.getD k false) st.back cA.down R Q
    . omega
   by_cases ap:∃j,j<i/\iu xb aZ E N j b=true
   . obtain⟨j,ax,U,X⟩:=IY ap;rw[cA.s1 b j (by omega) (aJ j ax U) U (λk M F Y=>X k (af k M F Y) Y)]
     symm
     refine Dp q (by omega) (by omega) λk M F=>?_;cases aC:iu xb aZ E N k b with
     |false=>rfl
     |true=>have:=X k F aC;omega
   . have K:∀j,j<i->iu xb aZ E N j b=false:=(by grind);rw[cA.rS b λj f H=>by grind]
     symm
     exact Dp q (hA _) (by omega) λj _ v=>K j v
theorem abK{m:Nat}{i b:Nat}(a:i<listed.size)(h:eD (used N m listed) (N+16*i) b=true)(e:i<m):used N m (listed.setIfInBounds i true) b=true:=by
 simp only[eD,used,hW,wE,wF,cd,dw]at h⊢;rcases h with(h|⟨j,h1,c,d⟩)|h
 . exact .inl h
 . exact .inr ⟨j,h1,by rw[lh a];split;rfl;exact c,d⟩
 . exact .inr ⟨i,e,by rw[lh a,ae rfl],h⟩
theorem KG{m:Nat}{i:Nat}(aE:listed.getD i false=false){b:Nat}(h1:N+16*i<=b)(a:b<N+16*i+16):used N m listed b=false:=by
 simp only[used,qd,FF,wF,cd,dw];refine⟨by simp[lt];omega,λj c h=>?_⟩;grind
theorem Inv.step{U:dG}{bR:dV}{bp:a7}{L:Act}{w':World}(cA:Inv xb aD nt aZ D N E T G W listed φ S env J a w)(st:Stat xb aZ D E N)(ap:oH xb P aZ N E T G W)
 {i:Nat}{o:cb}(z:aZ[i]?=some o)(aE:listed.getD i false=false)(X:∀d,d∈D i->listed.getD d false=true)
 (M:∀b,aV bp b=if cF xb o.op (E i) (N+16*i) b then aV (T (i+1)) b else aV J b)
 (R:Rel aD nt U bR (eu env o.dst (G i) (W i)) bp (eD (used N aZ.length listed) (N+16*i)) L w'):
 Inv xb aD nt aZ D N E T G W (listed.setIfInBounds i true) U bR (eu env o.dst (G i) (W i)) bp L w':=by
 have x:i<aZ.length:=(c5.1 z).1;have c:i<listed.size:=by rw[cA.size];exact x
 have F:∀b,iu xb aZ E N i b=cF xb o.op (E i) (N+16*i) b:=λb=>by unfold iu;rw[z]
 refine⟨R.more λb A=>abK c A x,by simp[cA.size],λj q af d O=>?_,λt ht=>?_,λt j y v af K=>?_,λb A=>?_,λb j q af B Q=>?_⟩
 . rw[lh c]at af⊢;split
   . rfl
   . split at af
     . rename_i e;subst e;exact X d O
     . exact cA.down j q af d O
 . rw[pD,ak (ht i o z (by rw[lh c,ae rfl]))];exact cA.cW t λj y v af=>ht j y v (by rw[lh c];split;rfl;exact af)
 . rw[pD];rw[lh c]at af;by_cases f:j=i
   . subst f;rw[z]at v;cases v;rw[ae K]
   . rw[ak f]at af;rw[ak (λh=>?_)]
     . exact cA.aI t j y v af K
     . rcases (st.wX i j o y t z v K).2 with H|H
       . exact f H.symm
       . exact H h
 . rw[M b];have u:=A i x (by rw[lh c,ae rfl]);rw[F]at u;rw[u];exact cA.rS b λj q af=>A j q (by rw[lh c];split;rfl;exact af)
 . rw[M b];rw[lh c]at af;by_cases u:cF xb o.op (E i) (N+16*i) b=true
   . rw[ae u];have an:i<=j:=Q i x (by rw[lh c,ae rfl]) (by rw[F];exact u);by_cases f:j=i
     . subst f;rfl
     ·
      exfalso;rw[ak f]at af;rcases st.ord i j b (dK f) x q (by rw[F];exact u) (.inr B)with h|h
      . have:=h.2.ready (p:=λk=>listed.getD k false) st.back cA.down q (cA.down j q af);rw[aE]at this;cases this
      . omega
   . rw[ak u];by_cases f:j=i
     . subst f;rw[F]at B;exact absurd B u
     . rw[ak f]at af;exact cA.s1 b j q af B λk Y Z am=>Q k Y (by rw[lh c];split;rfl;exact Z) am
theorem Inv.done(cA:Inv xb aD nt aZ D N E T G W listed φ S env J a w)(st:Stat xb aZ D E N)(f:oH xb P aZ N E T G W)
 (u:∀i,i<aZ.length->listed.getD i false=true):Rel aD nt φ S (E aZ.length) (T aZ.length) (lt (N+16*aZ.length)) a w:=by
 refine((cA.rel.af8 λt=>?_).congr λb=>?_).more λb v=>?_
 . by_cases F:∃(j:Nat) (y:cb),aZ[j]?=some y/\y.dst=some t
   . obtain⟨j,y,c,q⟩:=F;have o:j<aZ.length:=(c5.1 c).1;rw[cA.aI t j y c (u j o) q];have:look (E (j+1)) t=some (G j,W j):=by rw[(f.step j y c).2,pD,ae q]
     rw[<-this];refine wA f (by omega) (dU _) λk z p B Q R=>?_;rcases (st.wX k j z y t Q c q).2 with h|h
     . omega
     . exact h R
   . have e:∀(j:Nat) (y:cb),aZ[j]?=some y->y.dst≠some t:=λj y c h=>F ⟨j,y,c,h⟩;rw[cA.cW t λj y c _=>e j y c];exact wA f (hA _) (dU _) λj y _ _ c=>e j y c
 . by_cases H:∃j,j<aZ.length/\iu xb aZ E N j b=true
   . obtain⟨j,x,K,A⟩:=IY H;rw[cA.s1 b j x (u j x) K (λk p _ M=>A k p M)];refine Dp f (by omega) (dU _) λk p B=>?_;cases O:iu xb aZ E N k b with
     |false=>rfl
     |true=>have:=A k B O;omega
   . have e:∀j,j<aZ.length->iu xb aZ E N j b=false:=(by grind);rw[cA.rS b λj L _=>e j L];exact Dp f (hA _) (dU _) λj _ o=>e j o
 . simp only[used,lt,hW,wE,wF,cd,dw]at v⊢;rcases v with h|⟨j,h1,U,X,Y⟩
   . omega
   . omega
theorem Yu(st:Stat xb aZ D E N)(n:oH xb P aZ N E T G W)(hres:jy P nt ops ops.toList=some aZ)(u:∀(i:Nat) o,ops[i]?=some o->D i=hp o)
 (z:∀φ S a w,Rel aD nt φ S (E aZ.length) (T aZ.length) (lt (N+16*aZ.length)) a w->Q .normal a w):
 ∀(j:Nat) (listed:Array Bool) φ S env J a w,listed.toList.countP (· ==false)<=j->Inv xb aD nt aZ D N E T G W listed φ S env J a w->wpAny P .any ops Q j listed a w:=by
 have L:=yg hres;simp at L;have M:∀(listed:Array Bool) (φ:dG) (S:dV) (env:Env) (J:a7) (a:Act) (w:World),Inv xb aD nt aZ D N E T G W listed φ S env J a w->Region.ready .any ops listed=[]->∀i,i<aZ.length->listed.getD i false=true:=by
  intro listed φ S env J a w cA l i;induction i using Nat.strongRecOn with
  |_ i ih=>
   intro c;cases af:listed.getD i false with
   |true=>rfl
   |false=>
    exfalso;have x:i<ops.size:=(by omega);have g:ops[i]?=some ops[i]:=BJ x;have:i∈Region.ready .any ops listed:=by
     rw[mem_ready];refine⟨?_,ops[i],g,λe he V=>?_⟩
     . have k:i<listed.size:=by rw[cA.size];exact c
       grind
     . have f:e.on∈D i:=by
        rw[u i _ g];simp only[hp,eJ,rN];grind
       exact ih e.on (st.back i _ c f) (by have:=st.back i _ c f;omega)
    grind
 have v:∀(listed:Array Bool) (φ:dG) (S:dV) (env:Env) (J:a7) (a:Act) (w:World),Inv xb aD nt aZ D N E T G W listed φ S env J a w->Region.ready .any ops listed=[]->Q .normal a w:=by
  intro listed φ S env J a w cA l;exact z φ S a w (cA.done st n (M listed φ S env J a w cA l))
 intro j;induction j with
 |zero=>
  intro listed φ S env J a w H cA;have U:∀i,i<aZ.length->listed.getD i false=true:=by
   intro i c;have k:i<listed.size:=by rw[cA.size];exact c
   cases af:listed.getD i false with
   |true=>rfl
   |false=>
    exfalso;have h0:listed.toList.countP (· ==false)=0:=(by omega);rw[List.countP_eq_zero]at h0;simp[k]at af;exact h0 listed[i] (by simp) (by simp[af])
  have l:Region.ready .any ops listed=[]:=by
   rw[RZ];intro i c;rw[mem_ready]at c;grind
  exact⟨l,v listed φ S env J a w cA l⟩
 |succ j ih=>
  intro listed φ S env J a w H cA;refine⟨v listed φ S env J a w cA,λi c=>?_⟩;rw[mem_ready]at c;obtain⟨h1,o,g,X⟩:=c;have x:i<ops.size:=(yF.1 g).1;have I:i<aZ.length:=by omega
  have k:i<listed.size:=by rw[cA.size];exact I
  have aE:listed.getD i false=false:=by simp[k]at h1⊢;exact h1
  obtain⟨p,q,O⟩:=Gv hres (i:=i) (o:=o) (by simpa using g);have f:∀d,d∈D i->listed.getD d false=true:=by
   intro d f;rw[u i o g]at f;simp only[hp,eJ,rN]at f;grind
  obtain⟨A,B⟩:=cA.agree st n q aE f;obtain⟨⟨bp,hs,y⟩,_⟩:=(n.step i p q).1.local (env':=env) (J':=J) A B;have r:=Dy cA.rel (key:=N+16*i) (λb C F=>KG aE C F) O (K:=λe s=>e=eu env p.dst (G i) (W i)/\s=bp) (hs.hi ⟨rfl,rfl⟩) (Q:=Q);have next:∀m w',j6 aD nt (eD (used N aZ.length listed) (N+16*i)) (λe s=>e=eu env p.dst (G i) (W i)/\s=bp) m w'->wpAny P .any ops Q j (listed.setIfInBounds i true) m w':=by
   rintro m w' ⟨R,bR,e,s,⟨rfl,rfl⟩,R'⟩
   refine ih _ R bR _ _ m w' ?_ (cA.step st n q aE f y R');have:listed.toList[i]?=some false:=by simp[k]at aE⊢;exact aE
   grind
  unfold wpOp;rw[g];dsimp only;split at r
  . rename_i t;rw[ae t];exact .inl (Oper.wp_mono next r)
  . rename_i t;rw[ak t];exact next _ _ r
end
end
end Go.Proofs.YtdjagncoefjfeaaGreat.Shv
