/- The library of this proof, part B: an abstract machine for the code of the program, and its soundness. -/
import Derived.Lib.UnsafeStr
import Derived.ChangeKeysEq
import Derived.Orders
import Derived.LoopN
import Derived.Test.YtopcfbelfjclmaaGreatDoorCkLA

namespace Go.Proofs.YtopcfbelfjclmaaGreatDoor.Shv
set_option linter.all false
section
open Go
theorem C.mU(c:C):c.aK (λ_=>true):=by cases c<;>simp[C.aK]
variable{o:Oper}{e t gy yt:TypeId}{x:Operand}{α:Type}{c:Call}{f N id b0 off:Nat}{g:J}{dst:ag Nat}{Q:Exit->Act->World->Prop}{K:Env->bg->Prop}{bd:I cf}{bq:dk}{bs:ba}{es:I (I T)}
section
variable {P:Program}{aA:Ctx}{nt kk:Nat}{φ:dk}{S bu:dm}{env:Env}{σ:bg}{N key:Nat}{n:Nat->J}{a:Act}{w w':World}
theorem Rel.extend(R:Rel aA nt φ S env σ n a w)(e:Ext (λ_=>False) S bu w w')(K:∀b j,bu b j->b<w'.heap.size):Rel aA nt φ bu env σ n a w':=by
 have ad:=λb H=>e.block b H (λh=>h);have y:∀b x,aV σ b=some x->(φ b).2≠0->∀j,¬bu (φ b).1 j:=by
  intro b x aa h0 j D;have cZ:=R.bS.blk b x aa;rcases e.lQ _ _ D with h|h|h;exact cZ.qq h0 j h;grind;have:=cZ.jG h0;omega
 refine⟨⟨λb x aa=>?_,R.bS.inj,K⟩,λk g v ak av=>?_,R.hl,R.gw,R.dT,R.size,R.defers,?_,R.own,R.fix,R.gS⟩
 . have cZ:=R.bS.blk b x aa;cases x with
   |box cs=>
    obtain⟨h0,vs,E,h1,f,q⟩:=cZ;refine⟨h0,vs,E,(ad _ (om h1)).trans h1,f.imp λc v L u=>bD.mono e.mono (λ_ _=>rfl) (C.mU _) u,y b _ aa h0⟩
   |arr sz es=>
    obtain⟨h1,f,q,z,B⟩:=cZ;refine⟨h1,f,q,z,λh0=>?_⟩;obtain⟨vs,E,k1,k2,k3,k4⟩:=B h0;exact⟨vs,E,(ad _ (om k1)).trans k1,k2,λi j A t he ht=>let⟨v,F,u⟩:=k3 i j A t he ht;⟨v,F,b6.mono e.mono u⟩,y b _ aa h0⟩
   |set ks=>
    obtain⟨h0,⟨es,c,h1,f⟩,q⟩:=cZ;exact⟨h0,⟨es,c,(ad _ (om h1)).trans h1,f⟩,y b _ aa h0⟩
   |buf E s=>
    obtain⟨h1,f,q⟩:=cZ;refine⟨h1,f,λh0=>?_⟩;grind
   |cm E c=>
    obtain⟨h0,⟨p,v,h1,f,q⟩,z⟩:=cZ;exact⟨h0,⟨p,v,(ad _ (om h1)).trans h1,f,bD.mono e.mono (λ_ _=>rfl) (C.mU _) q⟩,y b _ aa h0⟩
   |cR sz es i o c=>
    obtain⟨⟨h1,f,q,z,B,G⟩,⟨vs,E,k1,k2,k3,v,k4,k5⟩,k6⟩:=cZ;exact⟨⟨h1,f,q,z,B,G⟩,⟨vs,E,(ad _ (om k1)).trans k1,k2,λi j A t he ht aI=>let⟨v,F,u⟩:=k3 i j A t he ht aI;⟨v,F,b6.mono e.mono u⟩,v,k4,bD.mono (n:=λ_=>true) e.mono (λ_ _=>rfl) (C.mU _) k5⟩,y b _ aa (by omega)⟩
 obtain⟨x,aa,u⟩:=R.gx k g v ak av;exact⟨x,aa,cc.mono e.mono (λ_ _=>rfl) (R.gw k g v ak av) u⟩
 . refine⟨e.os.trans R.ext.os,e.tape.trans R.ext.tape,e.output.trans R.ext.output,hN R.ext.size e.size,λb aD cZ=>?_,R.ext.mono.trans e.mono,λb j D=>?_⟩
   exact(ad b (jD aD R.ext.size)).trans (R.ext.block b aD cZ)
   . rcases e.lQ _ _ D with h|h|h
     exact R.ext.lQ b j h;grind;exact .inr (.inr (hN R.ext.size h))
theorem aaS(R:Rel aA nt φ S env σ n a w){ty:TypeId}{len:Nat}{parts:Array (Nat×Operand)}(Y:o.op= .buildSlice ty len parts)(ab:P.underlying ty=some (.slice e)){sz:Nat}(Z:ev P e=some sz)
 {z:I C}(K:kb P e=some z){ps:I (Nat×aS)}(H:p9 parts.toList=some ps)(h0:sz≠0)(L:z.length=sz)(X:len*sz<=2^24)
 {p v σ'}(W:n key=false)(h:aQ (.bsliceT e sz len z ps) env σ key=some (p,v,σ'))(ar:p):b' P aA nt env σ' (ins n key) a v ((execOp a.eval o).run P w):=by
 simp only[aQ,bw,bF,eg]at h;obtain⟨g,N,⟨q,ds⟩,f,rfl,rfl,rfl⟩:=h;obtain⟨i,d,m,ag,l,U⟩:=tZ (φ:=φ) (w:=w) (S:=S) (n:=n) K;have M:=rC N l;have ae:d.cells.size=sz:=by rw[<-CU,<-l.length,L]
 have u:0<sz:=by omega
 have af:g.length=sz:=by grind[w6]
 obtain ⟨us,h1,D,k,T,E,_⟩:= Ig R u H f ar (es:= List.replicate len g) (vs:= ((Array.range (len*sz)).map (d.cells[· % d.cells.size]!)).toList) (by
  grind) (by simp) (by
  intro i j e t he ht;have:e=g:=by
   grind
  subst this;obtain⟨x,aa,J⟩:=M.get ht
  grind[Jf])
 simp at k;have r:len<=dB:=by
  have:len<=len*sz:=G5 len u;grind[dB]
 have s:=R.bS.st;have O:gN w S (w.alloc (.cells us.toArray e)) (λb j=>S b j\/b=w.heap.size):=⟨λ_ _ h=>.inl h,λb j h=>sb (s9 (s b j h)) j⟩
 have y:Ext (λ_=>False) S _ w (w.alloc (.cells us.toArray e)):=
  ⟨rfl,rfl,rfl,by simp,λb f _=>s9 f,O,λb j h=>by grind⟩
 have A:=R.extend y (λb j h=>by
  rcases h with h|h;have:=s b j h;simp;omega
  simp_all)
 refine⟨.slice (some ⟨w.heap.size,0,none⟩) len len,φ,_,_,.inl ?_,?_,rfl,A.more λ_ h=>kY h⟩
 . have Q:Instr.fill (λi=>some (i*sz,sz)) ((Array.range (len*sz)).map (d.cells[· % d.cells.size]!)) ((parts.map λ(i,x)=>(i,a.eval x)).toList)=some us.toArray:=by
    rw[Array.toList_map];omega
   simp_all[LA,execOp,Sem.run_bind,Result.andThen_ok]
 . refine .c ?_;have F:ds.length=len:=k;rw[<-F]at r⊢;have G:∀j,(w.alloc (.cells us.toArray e)).cell? _=us[j]?:=λj=>jd heap_alloc_new j;refine b6.slice ds _ _ sz w.heap.size 0 (λi j=>(us[i*sz+j]?).getD undef) (ek _) r D (λ_=>rfl) (λi j m V=>⟨.inr rfl,?_⟩) (λi j B t he ht=>?_)
   . rw[ij,G];have aD:i*sz+j<us.length:=by
      have:=fg sz (show i+1<=ds.length from m);grind
     grind
   obtain⟨v,ad,J⟩:=E i j B t he ht;grind[b6.mono]
theorem ZY{ty:TypeId}{e8:Nat}(h:Ad P ty=some e8):∃i z,P.info? ty=some i/\i.zero=some z/\z.cells=#[.pointer none,.slice none 0 0]:=by
 grind[Ad,PT,bw,Mj]
theorem abJ(R:Rel aA nt φ S env σ n a w){ty:TypeId}(t:o.op= .alloc ty){e8:Nat}(f:Ad P ty=some e8)
 {p v σ'}(r:n key=false)(l:n (key+1)=false)(h:aQ (.allocS ty e8) env σ key=some (p,v,σ'))(ar:p):b' P aA nt env σ' (ins (ins n (key+1)) key) a v ((execOp a.eval o).run P w):=by
 obtain⟨rfl,rfl,rfl⟩:=h;obtain⟨i,z,q,u,A⟩:=ZY f;have s:∀j,¬S w.heap.size j:=λj h=>by have:=R.bS.st _ _ h;omega
 have b:=(R.alloc (.cells #[.pointer none,.slice none 0 0] ty)).jC l (x:= .buf e8 []) (0,0) rfl (by simp[c8,dE]) (by simp);have g:ins n (key+1) key=false:=by grind[ins]
 have d:=b.jC g (x:= .cm ty (.cN (key+1) 0)) (w.heap.size,1) (by simp[b9.aK,C.aK,ins]) (by
  grind[c8,heap_alloc_new,bD,eN]) (λ_=>⟨λk y al h0=>by
   rw[c9]at al;split at al;grind[dE]
   . rename_i m;have e:(φ k).2≠0:=(by simp_all[eN,dN]);have:=(R.bS.blk k y al).jG e;simp[eN,dN m]
     omega,.inr R.ext.size⟩)
 refine⟨.pointer (some ⟨w.heap.size,0,none⟩),_,S,_,.inl ?_,.c ?_,by simp[V.aK,C.aK,ins],d⟩;simp_all[execOp,Instr.alloc,zeroValue,typeInfo,newVar,newRow];grind[bD,dE]
theorem Lc(h:ug P t):∃k v i,P.underlying t=some (.map k v)/\P.underlying k=some .string/\P.info? v=some i/\i.zero=some (.bool false):=by
 grind[ug,bw]
theorem abz(R:Rel aA nt φ S env σ n a w)(f:o.op= .makeMap t none)
 {p v σ'}(d:n key=false)(h:aQ .mkset env σ key=some (p,v,σ'))(ar:p):b' P aA nt env σ' (ins n key) a v ((execOp a.eval o).run P w):=by
 obtain⟨rfl,rfl,rfl⟩:=h;have e:∀j,¬S w.heap.size j:=λj h=>by have:=R.bS.st _ _ h;omega
 have b:=(R.alloc _).jC d (x:= .set []) (w.heap.size,1) rfl (by
  simp only[c8,dE]
  exact⟨by simp,⟨[],0,heap_alloc_new,.nil⟩,e⟩) (λ_=>⟨λk y al h0=>by
   have:=(R.bS.blk k y al).jG h0
   omega,.inr R.ext.size⟩)
 refine⟨.map (some w.heap.size),_,S,_,.inl ?_,.c ?_,by simp[V.aK,C.aK,ins],b⟩;simp[execOp,f,Instr.makeMap];grind[bD,dE]
theorem abK{s:ByteArray}{k:aq}:(s==(⟨k.toArray⟩:ByteArray))=(k=s.data.toList:J):=by
 grind[beq_toListBytes,ByteArray.toList_eq]
theorem Jg(s:ByteArray):∀{ks:I aq} {es:I MapEntry} (i:Nat),BS ks es->
 (hc ks s.data.toList=false/\Instr.findNow .string (.string s) es i=some none)\/
 (hc ks s.data.toList/\∃j e,Instr.findNow .string (.string s) es i=some (some (i+j,.bool true))/\es[j]?=some e/\e.key= .string s/\e.val= .bool true)
 |_,_,i,.nil=>.inl ⟨rfl,rfl⟩
 |k::ks,e::es,i,.cons h d=>by
  obtain⟨h1,c⟩:=h;have f:(s==⟨k.toArray⟩)=decide _:=abK;by_cases g:k=s.data.toList
  . refine .inr ⟨by grind[hc],0,e,?_,rfl,?_,c⟩
    simp_all[Instr.findNow,Instr.sameNow];simp_all
  . rcases Jg s (i+1) d with⟨g1,g2⟩|⟨g1,j,a,g2,g3,g4,b⟩
    grind[hc,Instr.findNow,Instr.sameNow];refine .inr ⟨by grind[hc],j+1,a,?_,by grind,g4,b⟩;grind[Instr.findNow,Instr.sameNow]
theorem D4(a:P.underlying gy=some .string){s:ByteArray}{es:I MapEntry}{r:ag (Nat×Value)}(h:Instr.findNow .string (.string s) es 0=some r)(w:World):(Instr.findKey gy (.string s) es).run P w= .ok r w:=by
 simp_all[Instr.findKey,run_underlying]
theorem DV(a:P.underlying gy=some .string){s:ByteArray}(b:J)(w:World):(Instr.checkKey b 10000 gy (.string s)).run P w= .ok () w:=by
 unfold Instr.checkKey;simp[run_underlying a]
theorem rD{b:Nat}{es:Array MapEntry}{c:Nat}(h:w.heap[b]?=some (.map es c)):(getObj b).run P w= .ok (.map es c) w:=by grind[getObj,Sem.run]
theorem Ed{b:Nat}{es:Array MapEntry}{c:Nat}(o:Obj)(h:w.heap[b]?=some (.map es c)):(setObj b o).run P w= .ok () {w with heap:=w.heap.setIfInBounds b o}:=by
 grind[setObj,Sem.run]
theorem abA(R:Rel aA nt φ S env σ n a w){k:Operand}(g:o.op= .lookup t x k false)(ht:ug P t){d c:aS}(aa:bO x=some d)(u:bO k=some c)
 {p v σ'}(C:n key=false)(h:aQ (.lkset d c) env σ key=some (p,v,σ'))(ar:p):b' P aA nt env σ' (ins n key) a v ((execOp a.eval o).run P w):=by
 simp only[aQ,bw]at h;obtain⟨⟨F,H⟩,s,⟨eu,G⟩,r,he⟩:=h;simp at he;obtain⟨gy,A,i,l,b,B,E⟩:=Lc ht;split at he
 . split at he
   . rename_i ks z;obtain⟨rfl,rfl,rfl⟩:=he;have h1:a.eval x= .map _:=(cI R aa s ar.1).1.ea;obtain⟨bs,f,rfl,_⟩:=cc.kF (cI R u r ar.2).1;obtain⟨h0,⟨es,cV,ad,m⟩,D⟩:=R.bS.blk _ _ z;refine b'.pure R ?_ (.ph _) rfl;have y:(zeroValue A).run P w= .ok (.bool false) w:=(by simp_all[zeroValue,typeInfo]);have q:=Jg bs 0 m;rcases q with⟨g1,g2⟩|⟨g1,j,e,g2,_⟩
     simp[execOp,g,h1,f,Instr.lookup,run_underlying l,rD ad,DV b,D4 b g2,y,g1];simp[execOp,g,h1,f,Instr.lookup,run_underlying l,rD ad,DV b,D4 b g2,g1]
   grind
 grind
theorem acv{ks:I aq}{es:I MapEntry}(h:BS ks es)(s:ByteArray)(cV:Nat):BS (ks++[s.data.toList]) (es++[{key:= .string s,val:= .bool true,born:=cV}]):=
 h.append (.cons ⟨by rfl,rfl⟩ .nil)
theorem bb.modify{c:Type}{R:α->c->Prop}{f:c->c}:∀{l:I α} {m:I c} {j:Nat},bb R l m->(∀a b,R a b->m[j]?=some b->R a (f b))->bb R l (m.modify j f)
 |_,_,_,.nil,_=>by simpa using bb.nil
 |_,_,0,.cons h e,k=>.cons (k _ _ h rfl) e
 |_,_,j+1,.cons h e,k=>by
  exact .cons h (bb.modify e λa b g o=>k a b g (by grind))
theorem abB(R:Rel aA nt φ S env σ n a w){k v0:Operand}(u:o.op= .mapUpdate t x k v0)(ht:ug P t)(z:Jd v0){q l:aS}(aa:bO x=some q)(H:bO k=some l)
 {p v σ'}(V:n key=false)(h:aQ (.upset q l) env σ key=some (p,v,σ'))(ar:p):b' P aA nt env σ' (ins n key) a v ((execOp a.eval o).run P w):=by
 simp only[aQ,bw]at h;obtain⟨⟨Z,af⟩,G,⟨eu,ab⟩,F,he⟩:=h;simp only at he;obtain⟨gy,ae,i,y,d,U,X⟩:=Lc ht;have A:a.eval v0= .bool true:=by
  unfold Jd at z;split at z;rfl;grind
 split at he
 . rename_i b s;split at he
   . rename_i ks B;obtain⟨rfl,rfl,rfl⟩:=he;have h1:a.eval x= .map _:=(cI R aa G ar.1).1.ea;obtain⟨bs,r,rfl,_⟩:=cc.kF (cI R H F ar.2).1;obtain⟨h0,⟨es,cV,ad,g⟩,J⟩:=R.bS.blk _ _ B;have aD:=om ad;have M:∃c f,(execOp a.eval o).run P w= .ok .skip {w with heap:=w.heap.setIfInBounds (φ b).1 (.map c f)}/\BS (iY ks bs.data.toList) c.toList:=by
      have E:=Jg bs 0 g;rcases E with⟨g1,g2⟩|⟨g1,j,e,g2,g3,g4,Q⟩
      . refine⟨es.toArray.push {key:= .string bs,val:= .bool true,born:=cV},cV+1,?_,?_⟩
        simp[execOp,u,h1,r,A,Instr.mapUpdate,run_underlying y,rD ad,DV d,D4 d g2,Ed _ ad];simp only[iY,g1,cF];simpa using acv g bs cV
      . refine⟨es.toArray.modify j λe=>{e with key:= .string bs,val:= .bool true},cV,?_,?_⟩
        . have L:Instr.sameBits 10000 (Value.string bs) (Value.string bs):=by
           simp only[Instr.sameBits];rw[beq_toListBytes];simp
          have I:∀w,(Instr.keyThatStays (Value.string bs) (Value.string bs)).run P w= .ok (Value.string bs) w:=by intro w;unfold Instr.keyThatStays;rw[L];rfl
          simp[execOp,u,h1,r,A,Instr.mapUpdate,run_underlying y,rD ad,DV d,D4 d g2,Ed _ ad,g3,g4,I]
        . simp only[iY,g1,cl];rw[CV];refine bb.modify g λY O W T=>?_;grind
     obtain⟨c,f,K,D⟩:=M;refine⟨undef,φ,S,_,.inr ⟨K,rfl⟩,.undef,rfl,Rel.more ?_ λ_ h=>kY h⟩;refine R.rewrite B h0 rfl rfl rfl rfl (by simp) (λN C=>by simp[dN C]) (λm=>?_);exact⟨h0,⟨c.toList,f,by simp[aD],D⟩,J⟩
   grind
 grind
theorem aa8{st:TypeId}{i:TypeInfo}{c:Value}(p:P.underlying st=some (.slice e))(s:P.underlying yt=some .string)(g:P.info? e=some i)(z:i.zero=some c)(A:c.cells.size=i.size)
 {base:ag Addr}{sl sc a:Nat}{y:Value}{xs d:I Value}(q:(Builtin.lenOf y).run P w= .ok a w)
 (aa:(Builtin.firstCells i.size sl (.slice base sl sc)).run P w.drew= .ok xs.toArray w.drew)(al:(Builtin.firstCells i.size a y).run P w.drew= .ok d.toArray w.drew)
 (n:sc<sl+a)(k:jW (sl+a) i.bytes)(v:sl+a<=dB){tt:TypeId}:
 ∃(b:Nat) (r:I Value),sl+a<=b/\r.length=(b-(sl+a))*i.size/\
  (Builtin.append_ #[st,yt] tt #[.slice base sl sc,y]).run P w= .ok (.slice (some ⟨w.heap.size,0,none⟩) (sl+a) b) (w.drew.alloc (.cells (xs++d++r).toArray e)):=by
 have o:∀w,(sizeOf e).run P w= .ok i.size w:=λw=>by simp[sizeOf,typeInfo,g]
 have f:∀w,(typeInfo e).run P w= .ok i w:=λw=>by simp[typeInfo,g]
 have t:∀w,(zeroValue e).run P w= .ok c w:=λw=>by simp_all[zeroValue]
 generalize x:(Question.appendCap (sl+a) sc e).cut (w.tape w.drawn (Question.appendCap (sl+a) sc e))=b;have m:sl+a<=b:=by grind[Question.cut]
 have h1:¬(sl+a<=sc):=by omega
 have u:¬(sl+a>IntKind.i64.max/\(False\/i.bytes=0)):=by grind[IntKind.max,IntKind.bits,dB]
 have j:=by
  exact k.not n
 refine⟨b,(Builtin.zeroCells c.cells (b-(sl+a))).toList,m,by grind[LB],?_⟩;have l:(choose (.appendCap (sl+a) sc e)).run P w= .ok b w.drew:=by simp_all[Question.forced]
 have aJ:(xs++d++(Builtin.zeroCells c.cells (b-(sl+a))).toList).toArray=xs.toArray++d.toArray++Builtin.zeroCells c.cells (b-(sl+a)):=by simp
 rw[aJ];unfold Builtin.append_;simp only[CR,C7,C8,Sem.run_bind,run_underlying p,run_underlying s,Result.andThen_ok,o,Sem.run_pure,cx,cF,q,au h1,f];rw[au (by grind)];simp only[Sem.run_bind,Result.andThen_ok,f];rw[au j];simp only[Sem.run_bind,Result.andThen_ok,f,l,run_askRoom,aa,al,t,eL,cl];rfl
theorem ZZ{st:TypeId}{i:TypeInfo}(g:P.underlying st=some (.slice e))(k:P.underlying yt=some .string)(d:P.info? e=some i)
 {base:ag Addr}{sl sc a:Nat}{y:Value}{c:I Value}(j:(Builtin.lenOf y).run P w= .ok a w)(al:(Builtin.firstCells i.size a y).run P w= .ok c.toArray w)(m:sl+a<=sc){w':World}
 (hs:∀b,base=some b->(storeCells (b.add (sl*i.size)) c 0).run P w= .ok () w') (l:base=none->w'=w) {tt:TypeId}:
  (Builtin.append_ #[st,yt] tt #[.slice base sl sc,y]).run P w= .ok (.slice base (sl+a) sc) w':=by
 have f:∀w,(sizeOf e).run P w= .ok i.size w:=λw=>by simp[sizeOf,typeInfo,d]
 unfold Builtin.append_;simp only[CR,C7,C8,Sem.run_bind,run_underlying g,run_underlying k,Result.andThen_ok,f,Sem.run_pure,cx,cF,j];cases base<;>simp_all
theorem aaL(w:World)(bs:ByteArray):(Builtin.firstCells 1 bs.size (.string bs)).run P w= .ok (bs.data.toList.map λb=>Value.int .u8 b.toNat).toArray w:=by
 simp[Builtin.firstCells];grind
theorem abL(l:aq):∀x,x∈(l.map λb=>Value.int .u8 b.toNat)->x.oneCell':=by
 intro x aa;simp at aa;obtain⟨b,_,rfl⟩:=aa;rfl
theorem LH(R:Rel aA nt φ S env σ n a w){yv:Value}{st:TypeId}{B:aS}(aa:bO x=some B){K:Prop}{b l bytes:Nat}{es s:aq}(T:B.get env=some (K,.c (.cN b es.length)))(X:K)
 (p:aV σ b=some (.buf l es))(d:n key=false)(Q:jW (es.length+s.length) bytes)(H:es.length+s.length<=dB)
 (A:∀r w',(Builtin.append_ #[st,yt] o.type #[a.eval x,yv]).run P w= .ok r w'->(execOp a.eval o).run P w= .ok (.value r) w')
 (D:∀base sl sc w',sl+s.length<=sc->(∀t,base=some t->(storeCells (t.add (sl*1)) (s.map λb=>Value.int .u8 b.toNat) 0).run P w= .ok () w')->(base=none->w'=w)->(Builtin.append_ #[st,yt] o.type #[.slice base sl sc,yv]).run P w= .ok (.slice base (sl+s.length) sc) w')
 (ec:∀base sl sc (xs:I Value),(Builtin.firstCells 1 sl (.slice base sl sc)).run P w.drew= .ok xs.toArray w.drew->sc<sl+s.length->jW (sl+s.length) bytes->sl+s.length<=dB->
  ∃(q:Nat) (r:I Value),sl+s.length<=q/\r.length=(q-(sl+s.length))*1/\(Builtin.append_ #[st,yt] o.type #[.slice base sl sc,yv]).run P w= .ok (.slice (some ⟨w.heap.size,0,none⟩) (sl+s.length) q) (w.drew.alloc (.cells (xs++(s.map λb=>Value.int .u8 b.toNat)++r).toArray l))):
 b' P aA nt env (dn (hx σ b) key (.buf l (es++s))) (ins n key) a (.c (.cN key (es.length+s.length))) ((execOp a.eval o).run P w):=by
 have W:∀b,w.heap.size<=b->∀j,¬S b j:=λb F j aG=>by have:=R.bS.st _ _ aG;omega
 obtain⟨au,af,k1⟩:=(cI R aa T X).1.ea;have M:=R.bS.blk _ _ p;obtain⟨g1,g2,g3⟩:=M;by_cases Y:es.length+s.length<=(φ b).2
 . by_cases f:(φ b).2=0
   . have G:es=[]:=j3 (by omega);have N:s=[]:=j3 (by omega);have m:=af f;have g:=D none 0 0 w (by omega) (λt E=>by grind) (λ_=>rfl);rw[<-m]at g;have R':=(R.del b).jC d (x:= .buf l (es++s)) (0,0) rfl (by grind[c8,dE]) (by simp);refine⟨_,_,S,w,.inl (A _ _ g),.c ?_,by simp[V.aK,C.aK,ins],R'⟩;rw[N,G];refine⟨by simp,λ_=>?_,λh=>?_⟩
     rfl;simp[dE]at h
   . obtain⟨⟨vs,ad,Z,ab⟩,J⟩:=g3 f;have m:=k1 f;have ar:es.length+(s.map λb=>Value.int .u8 b.toNat).length<=vs.length:=(by grind);obtain⟨w',av,ag,ai,aj,ak,ay,am⟩:=m' (P:=P) _ es.length 0 vs w ad (by omega) (abL _)
     have g:=D (some ⟨(φ b).1,0,none⟩) es.length (φ b).2 w' Y (λt E=>by
      cases E;have ao:Addr.add ⟨(φ b).1,0,none⟩ (es.length*1)=⟨(φ b).1,es.length,none⟩:=by rw[zD];unfold Addr.add;split<;>simp_all
      grind) (λF=>by cases F)
     rw[<-m]at g
     have u:=(R.del b).world (w':=w') (λk=>k=(φ b).1) ag ai aj (uS ak.symm) (λk _ d=>am k d) (λk d=>by
      subst d;refine⟨J,λk y al d=>?_,R.own b _ p f⟩;rw[fD]at al;split at al;cases al
      . rename_i z
        exactλe=>R.bS.inj k b y _ al p (dN z) d f e)
     have v:=u.jC d (x:= .buf l (es++s)) (φ b) rfl (by
      simp only[c8,dE]
      grind[List.length_append,pO,oo]) (λ_=>⟨λk y al d=>by
       rw[fD]at al;split at al;cases al
       . rename_i z
         exact R.bS.inj k b y _ al p (dN z) d f,R.own b _ p f⟩)
     refine⟨_,_,S,w',.inl (A _ _ g),.c ?_,by simp[V.aK,C.aK,ins],v⟩;refine⟨by simp[dE];omega,λh=>?_,λ_=>?_⟩;simp[dE,f]at h;simp[dE]
 . have u:=R.drew;have O:∃base,a.eval x= .slice base es.length (φ b).2/\∃xs:I Value,(Builtin.firstCells 1 es.length (.slice base es.length (φ b).2)).run P w.drew= .ok xs.toArray w.drew/\xs.length=es.length/\∀(i:Nat) c,es[i]?=some c->xs[i]?=some (.int .u8 (UInt8.toNat c)):=by
    by_cases f:(φ b).2=0;have G:es=[]:=j3 (by omega);simp_all[Builtin.firstCells]
    . obtain⟨⟨vs,ad,Z,ab⟩,J⟩:=g3 f;refine⟨_,k1 f,vs.take es.length,?_,by simp;omega,λj c ap=>?_⟩
      show(loadCells ⟨(φ b).1,0,none⟩ (es.length*1)).run P w.drew=_;rw[zD];refine A8 (by simp;omega) (λj U=>?_);rw[ij,zr,ah U];exact jd (w:=w.drew) ad j;grind
   obtain⟨base,m,xs,ae,aw,ax⟩:=O;obtain⟨q,r,h1,an,g⟩:=ec base es.length (φ b).2 xs ae (by omega) Q H;rw[<-m]at g;have v:=(u.del b).alloc (.cells (xs++(s.map λb=>Value.int .u8 b.toNat)++r).toArray l)
   have L:=v.jC d (x:= .buf l (es++s)) (w.heap.size,q) rfl (by
    simp only[c8,dE];refine⟨by simp[];omega,by rw[eh];exact H,λ_=>⟨⟨_,heap_alloc_new,?_,?_⟩,W _ (ek _)⟩⟩;grind
    grind) (λ_=>⟨λk y al h0=>by
     rw[fD]at al;split at al;cases al
     . have:=(R.bS.blk k y al).jG h0
       simp;omega,.inr R.ext.size⟩)
   refine⟨_,_,S,_,.inl (A _ _ g),.c ?_,by simp[V.aK,C.aK,ins],L⟩;refine⟨by simp[dE];omega,λh=>?_,λ_=>?_⟩;simp[dE]at h;omega;simp[dE]
theorem aaT(R:Rel aA nt φ S env σ n a w){x y:Operand}{st yt e:TypeId}(H:o.op= .call {callee:= .builtin .append,args:=#[x,y],argTypes:=#[st,yt]})
 (q:P.underlying st=some (.slice e))(u:P.underlying yt=some .string){i:TypeInfo}(m:P.info? e=some i)(c:i.size=1)(z:(i.zero.map (·.cells.size))=some 1)
 {g j:aS}(aa:bO x=some g)(al:bO y=some j)
 {p v σ'}(F:n key=false)(h:aQ (.appendB e i.bytes g j) env σ key=some (p,v,σ'))(ar:p):b' P aA nt env σ' (ins n key) a v ((execOp a.eval o).run P w):=by
 simp only[aQ,bw]at h;obtain⟨⟨Q,U⟩,D,⟨T,V⟩,E,he⟩:=h;simp only at he;simp only[bF]at z;obtain⟨W,M,L⟩:=z;split at he
 . rename_i b len s;split at he
   . rename_i O es N;obtain⟨rfl,rfl,rfl⟩:=he;obtain⟨I,J,rfl,rfl,C,G⟩:=ar;obtain⟨bs,l,rfl,_⟩:=cc.kF (cI R al E J).1;have k:bs.data.toList.length=bs.size:=by rw[<-xf]
     have t:∀w,(Builtin.lenOf (a.eval y)).run P w= .ok bs.data.toList.length w:=by intro w;simp[l,k,Builtin.lenOf]
     have A:∀w,(Builtin.firstCells i.size bs.data.toList.length (a.eval y)).run P w= .ok (bs.data.toList.map λb=>Value.int .u8 b.toNat).toArray w:=by intro w;rw[l,c,k];exact aaL w bs
     refine LH R aa D I N F C G (st:=st) (yt:=yt) (yv:=a.eval y) (λr w' K=>by simp[execOp,H,Go.resolve,invoke,builtin,K]) (λbase sl sc w' h1 d f=>?_) (λbase sl sc xs h1 d f B=>?_);exact ZZ q u m (t w) (A w) h1 (by rw[c];exact d) f;have:=aa8 (P:=P) (w:=w) (tt:=o.type) q u m M (by rw[L,c]) (t w) (by rw[c];exact h1) (A w.drew) d f B;rw[c]at this;exact this
   grind
 grind
theorem abi(s:aq):∀(i:Nat) c,s[i]?=some c->(s.map λc=>([.int .u8 c.toNat]:I T))[i]?=some [.int .u8 c.toNat]:=by simp_all
theorem Mp{s:aq}{d:I Value}(ak:d.length=s.length)(h:iK w S 1 (s.map λc=>[.int .u8 c.toNat]) d):d=s.map λb=>Value.int .u8 b.toNat:=by
 refine xz λi=>?_;by_cases a:i<s.length
 obtain⟨v,e,f⟩:=h i 0 _ _ (abi s i _ (e0 a)) rfl;cases f;simp only[zD,uR]at e;rw[e];simp[a];simp[List.getElem?_eq_none (zu (ak▸a)),List.getElem?_eq_none (zu a)]
theorem aaU(R:Rel aA nt φ S env σ n a w){x y:Operand}{st yt e aj:TypeId}(J:o.op= .call {callee:= .builtin .append,args:=#[x,y],argTypes:=#[st,yt]})
 (m:P.underlying st=some (.slice e))(A:P.underlying yt=some (.slice aj)){i:TypeInfo}(k:P.info? e=some i)(Y:i.size≠0)(B:(i.zero.map (·.cells.size))=some i.size)
 {f E:aS}(aa:bO x=some f)(al:bO y=some E)
 {p v σ'}(H:n key=false)(h:aQ (.append e i.size i.bytes f E) env σ key=some (p,v,σ'))(ar:p):b' P aA nt env σ' (ins n key) a v ((execOp a.eval o).run P w):=by
 by_cases I:∃q b l,f.get env=some (q,.c (.cN b l))
 case neg=>exact abG R J m A k Y B aa al H h (λq b l e=>I ⟨q,b,l,e⟩) ar
 obtain⟨am,b,len,F⟩:=I;simp only[aQ,F,ay,bw]at h;obtain⟨⟨an,ai⟩,G,h⟩:=h;rw[show mI (.c (.cN b len)) ai=none from rfl]at h;simp only[bw]at h;obtain⟨Q,M,he⟩:=h;split at he
 . rename_i ak es ah;obtain⟨s,hs,he⟩:=oV.1 he;cases he;obtain⟨W,K,rfl,d,rfl,z,U,V⟩:=ar;simp only[bF]at B;obtain⟨aq,ag,ad⟩:=B;have L:∀e,e∈Q.1->e.length=1:=by rw[z];simp
   obtain⟨t,ao,C,Z,N,_⟩:=wL (P:=P) R al G K (by decide:0<1) M L;obtain⟨_,ap,D,ab,O,_⟩:=wL (P:=P) R.drew al G K (by decide:0<1) M L;have u:Q.1.length=s.length:=by rw[z];simp
   rw[z]at N O;have ae:=Mp (by rw[Z,u,zD]) N;have af:=Mp (by rw[ab,u,zD]) O;subst ae;subst af;rw[u]at t C D;rw[<-d]at C D;refine LH R aa F W ah H U V (st:=st) (yt:=yt) (yv:=a.eval y) (λr w' X=>by simp[execOp,J,Go.resolve,invoke,builtin,X]) (λbase sl sc w' h1 g j=>?_) (λbase sl sc xs h1 g j T=>?_);exact wa m A k t C h1 (by rw[d];exact g) j;have:=HW (P:=P) (w:=w) (tt:=o.type) m A k ag ad t (by rw[d];exact h1) D g j T;rw[d]at this;exact this
 cases he
theorem abj(R:Rel aA nt φ S env σ n a w){x:Operand}{t:TypeId}(e:o.op= .call {callee:= .builtin .unsafeSliceData,args:=#[x],argTypes:=#[t]}){d:aS}(aa:bO x=some d)
 {p v σ'}(i:n key=false)(h:aQ (.sdata d) env σ key=some (p,v,σ'))(ar:p):b' P aA nt env σ' (ins n key) a v ((execOp a.eval o).run P w):=by
 simp only[aQ,bw]at h;obtain⟨⟨k,l⟩,f,he⟩:=h;simp at he;split at he
 . rename_i b len;obtain⟨rfl,rfl,rfl⟩:=he;have av:=cI R aa f ar;obtain⟨j,g,k1⟩:=av.1.ea;by_cases h0:(φ b).2=0
   . refine b'.pure R ?_ (.c ⟨none,rfl,λh=>absurd h0 h⟩) (by grind[V.aK,C.aK]);simp[execOp,e,Go.resolve,invoke,builtin,g h0,Go.Lib.run_unsafeSliceData_nil]
   . refine b'.pure R ?_ (.c ⟨_,rfl,λ_=>rfl⟩) (by grind[V.aK,C.aK]);simp[execOp,e,Go.resolve,invoke,builtin,k1 h0,Go.Lib.run_unsafeSliceData_row _ _ _ _ _ _ h0]
 grind
theorem abk{b m:Nat}{a:Addr}(c:b≠a.block):(w.freeze a m).heap[b]?=w.heap[b]?:=by
 grind[World.freeze]
theorem abM(a:Addr)(m:Nat):(w.freeze a m).os=w.os/\(w.freeze a m).tape=w.tape/\(w.freeze a m).output=w.output/\(w.freeze a m).heap.size=w.heap.size:=by
 grind[World.freeze]
theorem acw(R:Rel aA nt φ S env σ n a w){x y:Operand}{cS it e:TypeId}(H:o.op= .call {callee:= .builtin .unsafeString,args:=#[x,y],argTypes:=#[cS,it]})
 (K:P.underlying cS=some (.pointer e))(D:P.cellsOf e=1){l q:aS}(aa:bO x=some l)(al:bO y=some q)
 {p v σ'}(d:n key=false)(h:aQ (.ustr e l q) env σ key=some (p,v,σ'))(ar:p):b' P aA nt env σ' (ins n key) a v ((execOp a.eval o).run P w):=by
 simp only[aQ,bw]at h;obtain⟨⟨Z,ae⟩,E,⟨ab,af⟩,F,he⟩:=h;simp only at he;split at he
 . rename_i b m;split at he
   . rename_i s es i;obtain⟨rfl,rfl,rfl⟩:=he;obtain⟨I,J,rfl,rfl⟩:=ar;obtain⟨M,h1,W⟩:=(cI R aa E I).1.ea;have B:=(cI R al F J).1.fG;have C:=R.bS.blk _ _ i;obtain⟨g1,g2,g3⟩:=C;have z:∀w',b6 w' S (.str es) (.string ⟨es.toArray⟩):=by
      intro w';have:=b6.str (w:=w') (S:=S) (⟨es.toArray⟩:ByteArray) (by rw[<-xf];grind[dB,eS]);omega
     have u:∀r w',(Builtin.unsafeString_ #[cS,it] o.type #[a.eval x,a.eval y]).run P w= .ok r w'->(execOp a.eval o).run P w= .ok (.value r) w':=by
      intro r w' t;simp[execOp,H,Go.resolve,invoke,builtin,t]
     by_cases f:es=[];subst f;refine⟨.string ⟨#[]⟩,φ,S,w,.inl (u _ _ ?_),.c (z w),rfl,(R.del b).more λ_ h=>kY h⟩;rw[h1,B];exact Go.Lib.run_unsafeString_none w cS it o.type M
     . have V:=xy.2 f;have g:(φ b).2≠0:=(by omega);obtain⟨⟨vs,ad,X,Y⟩,G⟩:=g3 g;have L:w.shape? (φ b).1=some (s,vs.length):=by grind[World.shape?]
       have t:=Go.Lib.run_unsafeString_row (P:=P) w cS it o.type s K D _ vs.length L es f (by omega) (by grind[dB]) (λj c U=>by
        grind[Addr.add,jd])
       obtain⟨N,O,Q,T⟩:=abM (w:=w) ⟨(φ b).1,0,none⟩ es.length
       have A:=(R.del b).world _ N O Q (uS T.symm) (λk _ d=>abk d) (λk d=>by
        subst d;refine⟨G,λk y al d=>?_,R.own b _ i g⟩;rw[fD]at al;split at al;grind
        . rename_i f
          exactλe=>R.bS.inj k b y _ al i (dN f) d g e)
       refine⟨.string _,φ,S,_,.inl (u _ _ ?_),.c (z _),rfl,A.more λ_ h=>kY h⟩;grind
   grind
 grind
end
section
variable {P:Program}{aA:Ctx}{nt:Nat}{φ:dk}{S:dm}{env:Env}{σ:bg}{n:Nat->J}{key:Nat}{a:Act}{w:World}
theorem H8{d:Nat}{e:TypeId}{k:Nat}(f:qm P e=some k){xs c:Array Value}:∀{m i:Nat} {ps qs:I C} {us vs:I Value} {r:J},
 lJ (List.replicate m k) ps qs=some r->bb (bD φ w S) ps us->bb (bD φ w S) qs vs->xs.toList.drop i=us->c.toList.drop i=vs->(Op.eqItems (d+1) e 1 xs c (List.range' i m)).run P w= .ok r w
 |0,i,ps,qs,us,vs,r,a,_,_,_,_=>by
  cases ps<;>cases qs<;>simp[lJ]at a;subst a;simp[Op.eqItems]
 |m+1,i,ps,qs,us,vs,r,a,E,F,aJ,g=>by
  have A:=MF f;have j:∀(l:Array Value) (z:Value) (n:I Value),l.toList.drop i=z::n->(part e l (i*1)).run P w= .ok z w:=λl z n aa=>by
   have:l[i]?=some z:=by
    have:=dA (·[0]?) aa;simpa using this
   simp[part,ua A,this]
  rw[List.replicate_succ]at a;cases ps with
  |nil=>simp[lJ]at a
  |cons p ps=>cases qs with
   |nil=>cases p<;>simp[lJ]at a
   |cons q qs=>
    cases p<;>cases q<;>simp only[lJ,bw,bF]at a<;>try cases a
    rename_i x y b h;obtain⟨B,G,D,rfl⟩:=h;cases E with
    |cons h1 o=>cases F with
     |cons s t=>
      rename_i u us v vs;have f1:xs.toList.drop (i+1)=us:=by rw[<-uY,aJ];rfl
      have f2:c.toList.drop (i+1)=vs:=by rw[<-uY,g];rfl
      have ih:=H8 (d:=d) f (m:=m) (i:=i+1) D o t f1 f2;rw[zv];simp only[Op.eqItems,Sem.run_bind,j xs u us aJ,j c v vs g,Result.andThen_ok,M' B f h1 s d];cases b with
      |true=>simpa using ih
      |false=>simp
variable{y:Operand}
theorem abl(R:Rel aA nt φ S env σ n a w){op:BinOp}{ty:TypeId}(H:o.op= .binOp op ty x y yt)(s:op= .eql\/op= .neq){ks:ba}(b:JP P ty=some ks)
 {g j:aS}(aa:bO x=some g)(al:bO y=some j)
 {p v σ'}(J:n key=false)(h:aQ (.eqAgg (op== .neq) ks g j) env σ key=some (p,v,σ'))(ar:p):b' P aA nt env σ' (ins n key) a v ((execOp a.eval o).run P w):=by
 simp only[aQ,bw]at h;obtain⟨⟨K,M⟩,E,⟨L,N⟩,F,he⟩:=h;simp only at he;split at he
 . rename_i ps qs;simp only[bF,eg]at he;obtain⟨r,I,rfl,rfl,rfl⟩:=he;obtain⟨us,c,z⟩:=(cI R aa E ar.1).1.l1;obtain⟨vs,f,A⟩:=(cI R al F ar.2).1.l1;unfold JP at b;split at b
   . rename_i m e D;simp only[eM,bF]at b;obtain⟨⟨hs,av⟩,k,G,rfl⟩:=b;unfold ev at hs;simp only[bF]at hs;obtain⟨i,q,hs⟩:=hs;have B:P.cellsOf e=1:=(by simp[Program.cellsOf,q,hs]);have t:(eqGuard op ty x y (a.eval x) (a.eval y)).run P w= .ok () w:=by rcases s with rfl|rfl<;>simp[eqGuard,c,f,av]
     have l:(Op.equal ty (.agg us.toArray) (.agg vs.toArray)).run P w= .ok r w:=by
      obtain⟨d,C⟩:∃d,Op.maxDepth=d+2:=⟨9998,rfl⟩;unfold Op.equal;rw[C,run_equalIn_array w (d+1) _ _ D q,B,List.range_eq_range'];exact H8 G I z A (by simp) (by simp)
     have u:(binOp op ty (a.eval x) (a.eval y)).run P w= .ok (.bool (if(op== .neq)then !r else r)) w:=by
      rcases s with rfl|rfl;rw[c,f];simp only[binOp,Sem.run_bind,l];rfl;rw[c,f];simp only[binOp,Sem.run_bind,l];rfl
     refine b'.pure R (x:= .bool (if(op== .neq)then !r else r)) ?_ (.ph _) rfl;simp[execOp,H,t,u]
   cases b
 cases he
theorem acx(R:Rel aA nt φ S env σ n a w){ty:TypeId}{i:Operand}(y:o.op= .index ty x i){k:Nat}(C:P.underlying ty=some (.array k e))(ak:nr P e=some (false,1))
 {d b:aS}(aa:bO x=some d)(s:bO i=some b)
 {p v σ'}(I:n key=false)(h:aQ (.idxV k d b) env σ key=some (p,v,σ'))(ar:p):b' P aA nt env σ' (ins n key) a v ((execOp a.eval o).run P w):=by
 simp only[aQ,bw]at h;obtain⟨⟨L,N⟩,r,⟨K,M⟩,q,he⟩:=h;simp only at he;split at he
 . rename_i cs kk m;simp only[eM,dW,eg]at he;obtain⟨H,rfl,rfl,rfl⟩:=he;obtain⟨A,B,t,J⟩:=ar;have g1:=cI R aa r A;obtain⟨us,D,j⟩:=g1.1.l1;have f:=(cI R s q B).1.fG;unfold nr at ak;simp only[bw]at ak;obtain⟨g,av,z,G,ak⟩:=ak;split at ak
   . cases ak;have aD:m.toNat<cs.length:=(by omega);obtain⟨u,E,F⟩:=j.get (show cs[m.toNat]?=some (cs.getD m.toNat .dead) by rw[List.getD,e0 aD];rfl);refine b'.pure R (x:=u) ?_ (.c F) ?_
     have l:us.toArray[m.toNat*1]?=some u:=(by simpa using E);simp only[execOp,y,Sem.run_bind,D,f,Instr.index,asIntOf,run_underlying C,Result.andThen_ok,Sem.run_pure];rw[ah ⟨t,by omega⟩];simp only[Sem.run_bind,ju G,Result.andThen_ok,part,ua av,l];rfl
     . have:=g1.2;simp only[V.aK,gk]at this⊢;refine this _ ?_;rw[List.getD,e0 aD];exact zt aD
   cases ak
 cases he
theorem aaV{ty:TypeId}(j:P.underlying ty=some (.slice e)){i:TypeInfo}{a:Value}(b:P.info? e=some i)(p:i.zero=some a){k:IntKind}{m:Int}(h0:0<=m)(d:m.toNat*i.bytes<=hD)(f:m.toNat<=dB):
 (Instr.makeSlice ty (.int k m) (.int k m)).run P w= .ok (.slice (some ⟨w.heap.size,0,none⟩) m.toNat m.toNat) (w.alloc (.cells ((Array.range (m.toNat*i.size)).map (a.cells[· % a.cells.size]!)) e)):=by
 obtain⟨c,rfl⟩:∃c:Nat,m=(c:Int):=⟨m.toNat,by omega⟩
 simp only[e3]at*;unfold dB at f;have n:IntKind.i64.wrap (c:Int)=(c:Int):=by
  simp[IntKind.wrap,IntKind.signed,IntKind.bits];omega
 have l:∀w,(typeInfo e).run P w= .ok i w:=λw=>by simp[typeInfo,b]
 have g:∀w,(sizeOf e).run P w= .ok i.size w:=λw=>by simp[sizeOf,typeInfo,b]
 have o:∀w,(zeroValue e).run P w= .ok a w:=λw=>by simp[zeroValue,typeInfo,b,p]
 have q:¬((i.bytes:Int)*(c:Int)>2^48):=by
  unfold hD at d;rw[<-Int.natCast_mul,Nat.mul_comm];omega
 unfold Instr.makeSlice;simp only[asInt,asIntOf,Sem.run_bind,run_underlying j,Result.andThen_ok,Sem.run_pure,l,n];rw[dC];simp only[Sem.run_bind,run_askRoom,Result.andThen_ok,e3,g];by_cases h:c*i.size=0;simp only[h,cl,Sem.run_bind,Sem.run_pure,Result.andThen_ok,show Array.range 0=#[]from rfl,List.map_toArray,Array.map_empty];rfl;simp only[h,cF,Sem.run_bind,o,Sem.run_pure,Result.andThen_ok];rfl
theorem abN(R:Rel aA nt φ S env σ n a w){ty:TypeId}(Q:o.op= .makeSlice ty x y)(U:P.underlying ty=some (.slice e))(f:Hw x y){i:TypeInfo}(u:P.info? e=some i)
 {z:I C}(W:kb P e=some z)(h0:i.size≠0)(F:z.length=i.size){r:aS}(aa:bO x=some r)
 {p v σ'}(M:n key=false)(h:aQ (.mslice i.size i.bytes z r) env σ key=some (p,v,σ'))(ar:p):b' P aA nt env σ' (ins n key) a v ((execOp a.eval o).run P w):=by
 have hs:x=y:=by
  unfold Hw at f;split at f;rw[gU f];cases f
 subst hs;simp only[aQ,bw]at h;obtain⟨⟨ah,ai⟩,L,l,G,he⟩:=h;simp only at he;split at he
 . rename_i kk m;simp only[dW,eg]at he;obtain⟨rfl,rfl,rfl⟩:=he;obtain⟨T,N,O,D⟩:=ar;have K:=(cI R aa L T).1.fG;obtain⟨ag,b,A,ab,s,ae⟩:=tZ (φ:=φ) (w:=w) (S:=S) (n:=n) W;rw[u]at A;cases A;have Y:=rC G s;have X:b.cells.size=i.size:=by rw[<-CU,<-s.length,F]
   have E:0<i.size:=(by omega);have Z:l.length=i.size:=by rw[w6 G,F]
   generalize g:m.toNat=len at*;have H:=R.alloc (.cells ((Array.range (len*i.size)).map (b.cells[· % b.cells.size]!)) e);have ad:=R.wA (.cells ((Array.range (len*i.size)).map (b.cells[· % b.cells.size]!)) e)
   have J:=H.jC M (x:= .arr i.size (List.replicate len l)) (w.heap.size,len) rfl (by
    simp only[c8,dE];refine⟨by simp,by simpa using D,λe he=>by rw[G2 he];exact Z,E,λ_=>⟨((Array.range (len*i.size)).map (b.cells[· % b.cells.size]!)).toList,e,by rw[Array.toArray_toList];exact heap_alloc_new,by simp,λa j q t he ht=>?_,λj h=>?_⟩⟩;have B:=(ed.1 he).1;simp at B;have:q=l:=G2 (fr he);subst this;have af:=(ed.1 ht).1;obtain⟨x,aa,d⟩:=Y.get ht;refine⟨x,?_,b6.mono ad d⟩;rw[G9,Jf X E a j B (by omega)];simpa using aa
    . have:=R.bS.st _ _ h
      omega) (λ_=>⟨λk y al h0=>by
       have:=(R.bS.blk k y al).jG h0
       simp;omega,.inr R.ext.size⟩)
   refine⟨.slice (some ⟨w.heap.size,0,none⟩) len len,_,S,_,.inl ?_,.c ⟨some ⟨w.heap.size,0,none⟩,by simp[dE],by simp[dE],by simp[dE]⟩,by simp[V.aK,C.aK,ins],J⟩;have d:=aaV (P:=P) (w:=w) U u ab (k:=kk) N (by rw[g];exact O) (by rw[g];exact D);rw[g]at d;simp only[execOp,Q,Sem.run_bind,K,d,Result.andThen_ok];rfl
 cases he
theorem wX{x:Array α}{a b:α}(h:x.toList=[a,b]):x=#[a,b]:=by grind
theorem JR{x:Array α}{a:α}(h:x.toList=[a]):x=#[a]:=by grind
theorem acy(R:Rel aA nt φ S env σ n a w)(q:o.op= .call c){s:c0}(b:nd P c=some s)
 {p v σ'}(m:n key=false)(h:aQ s env σ key=some (p,v,σ'))(ar:p):b' P aA nt env σ' (ins n key) a v ((execOp a.eval o).run P w):=by
 obtain⟨callee,args,argTypes⟩:=c;unfold nd at b;split at b;grind[JR,bF,ad5]
 . rename_i k;split at b
   . rename_i x y t u aa ht;have aa:=wX aa;have ht:=wX ht;subst k;subst aa;subst ht;split at b
     rename_i e g r;simp only[bw,eM,dW]at b;obtain⟨i,l,z,d,A,f,⟨h1,j,B⟩,rfl⟩:=b;exact aaT R q g r l h1 j d f m h ar;rename_i e C g r;simp only[bw,eM,dW]at b;obtain⟨i,l,z,d,A,f,⟨h1,j⟩,rfl⟩:=b;exact aaU R q g r l h1 j d f m h ar;cases b
   grind
 grind[wX,bw,bF,acb];grind[wX,bw,bF,acd]
 . split at b
   . rename_i x t aa ht;have aa:=JR aa;have ht:=JR ht;subst aa;subst ht;split at b
     simp only[eM,bF]at b;grind[abj];cases b
   grind
 . rename_i k;split at b
   . rename_i x y t u aa ht;have aa:=wX aa;have ht:=wX ht;subst k;subst aa;subst ht;split at b
     rename_i e g;simp only[eM,bw,bF]at b;obtain⟨⟨_,_,B⟩,z,d,A,f,rfl⟩:=b;exact acw R q g B d f m h ar;grind
   grind
 grind[bF,aQ];grind[bF,aQ];grind
theorem b'.mono{v:V}{σ':bg}{c e:Nat->J}(h:∀b,c b->e b){r:Result Next}(g:b' P aA nt env σ' c a v r):b' P aA nt env σ' e a v r:=by
 obtain⟨x,bq,bu,w',h1,f,j,R'⟩:=g;exact⟨x,bq,bu,w',h1,f,V.hJ h j,R'.more h⟩
theorem acz(R:Rel aA nt φ S env σ n a w){K:c0}(b:de P o.op=some K)
 (ab:∀e e8,K≠.allocS e e8){p v σ'}(j:n key=false)(h:aQ K env σ key=some (p,v,σ'))(ar:p):b' P aA nt env σ' (ins n key) a v ((execOp a.eval o).run P w):=by
 generalize l:o.op=op at b;cases op with
 |move x=>simp only[de,bF]at b;obtain⟨q,aa,rfl⟩:=b;exact M8 R (.inl l) aa j h ar
 |assign x=>simp only[de,bF]at b;obtain⟨q,aa,rfl⟩:=b;exact M8 R (.inr l) aa j h ar
 |pick c x y=>
  simp only[de,bw,bF]at b;obtain⟨ac,U,q,aa,D,al,rfl⟩:=b;exact acW R l U aa al j h ar
 |alloc e=>
  simp only[de]at b;split at b;cases b;exact absurd rfl (ab _ _)
  . simp only[bw]at b;obtain⟨cs,N,b⟩:=b;split at b
    . split at b
      rename_i U;cases b;exact abI R l N (by omega) (by omega) j h ar;cases b;exact Mn R l N j h ar
    cases b;exact Mn R l N j h ar
 |box e x=>simp only[de,bF]at b;obtain⟨q,aa,rfl⟩:=b;exact ad7 R l aa j h ar
 |build t parts=>
  simp only[de]at b;split at b;rename_i fs G;simp only[eM,bw,bF]at b;obtain⟨h1,z,F,ps,H,rfl⟩:=b;exact abx R l G h1 F H j h ar;simp only[bw,bF]at b;rename_i len e A;obtain⟨z,F,m,B,ps,H,rfl⟩:=b;exact aaK R l A B F H j h ar;cases b
 |buildSlice t len parts=>
  simp only[de]at b;split at b;rename_i e A;simp only[bw,eM,dW]at b;obtain⟨m,B,z,F,ps,H,⟨h1,L,M⟩,rfl⟩:=b;exact abF R l A B F H h1 L M j h ar;cases b
 |load t x=>
  simp only[de,bw,bF]at b;obtain⟨g,av,q,aa,rfl⟩:=b;exact acj R l av aa j h ar
 |store t x y=>
  simp only[de,bw,bF]at b;obtain⟨m,B,q,aa,D,al,rfl⟩:=b;exact abw R l B aa al j h ar
 |nilCheck x=>simp only[de,bF]at b;obtain⟨q,aa,rfl⟩:=b;exact aaJ R l aa j h ar
 |binOp op t x y yt=>
  simp only[de]at b;split at b
  . rename_i T;split at b
    simp only[bw,bF]at b;obtain⟨ks,Q,q,aa,D,al,rfl⟩:=b;exact abl R l T Q aa al j h ar;simp only[bw,bF]at b;obtain⟨ks,Q,q,aa,D,al,rfl⟩:=b;exact abv R l T Q aa al j h ar;simp only[eM,bF]at b;grind[aQ];rename_i A;simp only[bw,bF]at b;obtain⟨q,aa,D,al,rfl⟩:=b;exact abD R l T A aa al j h ar;simp only[bw,bF]at b;obtain⟨q,aa,D,al,rfl⟩:=b;exact I3 R l aa al j h ar;simp only[bw,bF]at b;obtain⟨q,aa,D,al,rfl⟩:=b;exact I3 R l aa al j h ar;cases b
  simp only[bw,bF]at b;obtain⟨q,aa,D,al,rfl⟩:=b;exact I3 R l aa al j h ar
 |unOp u t x=>
  cases u<;>simp only[de,bF,reduceCtorEq]at b
  . split at b
    simp only[bF]at b;obtain⟨q,aa,rfl⟩:=b;exact ac3 R l aa j h ar;cases b
  . split at b
    simp only[bF]at b;obtain⟨q,aa,rfl⟩:=b;exact ad0 R l aa j h ar;cases b
  obtain⟨q,aa,rfl⟩:=b;exact ac2 R l aa j h ar
 |convert s d x=>
  simp only[de]at b;split at b;rename_i hs E;simp only[bF]at b;obtain⟨q,aa,rfl⟩:=b;exact ab' R l hs E aa j h ar;rename_i hs E;simp only[bF]at b;obtain⟨q,aa,rfl⟩:=b;exact ad1 R l hs E aa j h ar;rename_i hs E;simp only[bF]at b;obtain⟨q,aa,rfl⟩:=b;exact ad2 R l hs E aa j h ar;rename_i e hs E;simp only[eM,bF]at b;obtain⟨⟨he,V⟩,q,aa,rfl⟩:=b;have Z:P.underlying e=some (.int .u8):=(by grind);exact ad9 R l hs Z E aa j h ar;cases b
 |fieldAddr t x f=>
  simp only[de]at b;split at b;rename_i fs G;simp only[bw,C4,bF]at b;obtain⟨Y,O,m,B,I,q,aa,rfl⟩:=b;exact aca R l G O B I aa j h ar;cases b
 |field t x f=>
  simp only[de]at b;split at b;rename_i fs G;simp only[bw,bF]at b;obtain⟨Y,O,g,av,q,aa,rfl⟩:=b;obtain⟨h1,L,M⟩:=IK av;exact ad3 R l G O L h1 M aa j h ar;cases b
 |indexAddr t x i=>
  simp only[de]at b;split at b;rename_i e A;simp only[bw,C4,bF]at b;obtain⟨m,B,I,q,aa,J,C,rfl⟩:=b;exact ace R l A B I aa C j h ar
  . rename_i k e A;split at b
    simp only[eM,bw,bF]at b;obtain⟨h0,s,hs,q,aa,rfl⟩:=b;exact acq R l A h0 hs aa j h ar;simp only[eM,bw,bF]at b;obtain⟨V,q,aa,J,C,rfl⟩:=b;exact acp R l A V aa C j h ar
  cases b
 |index t x i=>
  simp only[de]at b;split at b;rename_i A;simp only[bw,bF]at b;obtain⟨q,aa,J,C,rfl⟩:=b;exact acf R l A aa C j h ar;rename_i A;simp only[eM,bw,bF]at b;obtain⟨ak,q,aa,J,C,rfl⟩:=b;exact acx R l A ak aa C j h ar;cases b
 |slice t x af C ag=>
  simp only[de]at b;split at b;rename_i A;simp only[eM,bw,bF,Option.isNone_iff_eq_none]at b;obtain⟨rfl,q,aa,X,ak,W,ad,rfl⟩:=b;exact ach R l A aa ak ad j h ar
  . rename_i e A;split at b
    simp only[bw,C4,bF]at b;obtain⟨m,B,I,q,aa,X,ak,W,ad,rfl⟩:=b;exact ad6 R l A B aa ak ad j h ar
    . split at b
      simp only[eM,bF]at b;grind[Option.isSome_iff_exists,aci];cases b
    cases b
  simp only[eM,bw,bF,Option.isNone_iff_eq_none]at b;grind[acr];grind
 |makeFunc fn first caps=>
  cases fn<;>simp only[de,eM,bF,reduceCtorEq]at b;grind[acg]
 |extract x i=>grind[de,bF,ad4]
 |makeSlice t x y=>
  simp only[de]at b;split at b;rename_i A;simp only[eM,bw,bF]at b;obtain⟨ae,i,C,z,F,⟨h0,ak⟩,q,aa,rfl⟩:=b;exact abN R l A ae C F h0 ak aa j h ar;cases b
 |makeMap t r=>
  cases r with
  |some _=>simp[de]at b
  |none=>
   simp only[de,eM,dW]at b;grind[abz]
 |lookup t x i c=>
  cases c with
  |true=>simp[de]at b
  |false=>
   simp only[de,eM,bw,bF]at b;grind[abA]
 |mapUpdate t m k v0=>
  simp only[de,eM,bw,bF]at b;grind[abB]
 |call c=>grind[de,acy]
 |_=>simp[de]at b
def eK(n:Nat->J)(k:Nat):Nat->J:=λb=>n b||((k<=b:J)&&(b<k+16:J))
theorem ml{b:Nat}(h:n b):eK n key b:=by grind[eK]
theorem O8{b:Nat}(h:ins n key b):eK n key b:=by
 grind[ins,eK]
theorem LC{b:J}{op:Op}{a:c0}(h:w9 P b op=some a):de P op=some a\/∃t len parts e m z ps,op= .buildSlice t len parts/\P.underlying t=some (.slice e)/\ev P e=some m/\kb P e=some z/\p9 parts.toList=some ps/\m≠0/\z.length=m/\len*m<=2^24/\a= .bsliceT e m len z ps:=by
 unfold w9 at h;grind[bw]
theorem Z0{op:Op}{e e8:Nat}(h:de P op=some (.allocS e e8)):op= .alloc e/\Ad P e=some e8:=by
 cases op with
 |alloc a=>
  grind[de,bw]
 |buildSlice t len parts=>
  simp[de]at h;split at h;simp_all[bw];grind
 |build t parts=>
  simp[de]at h;split at h;simp_all[bw];grind[bw,bF];grind
 |call c=>
  simp[de]at h;unfold nd at h
  repeat' (first|(split at h)|(done))
  all_goals simp only[bw,bF,eM,dW,reduceCtorEq,qt,zC,exists_const]at h
 |binOp op t x y yt=>
  simp only[de]at h
  repeat' (first|(split at h)|(cases h;done))
  all_goals simp only[bw,bF,eM,dW,reduceCtorEq,qt,zC,exists_const]at h
 |unOp u t x=>
  cases u<;>simp only[de]at h
  all_goals repeat' (first|(split at h)|(cases h;done))
  all_goals simp_all
 |makeMap t r=>cases r<;>simp only[de,reduceCtorEq,eM,dW,qt]at h
 |lookup t x i c=>cases c<;>simp only[de,reduceCtorEq,eM,bw,bF,qt,zC]at h
 |makeFunc fn first caps=>cases fn<;>simp only[de,eM,bF,reduceCtorEq,qt,zC]at h
 |convert s d x=>
  simp only[de]at h
  repeat' (first|(split at h)|(cases h;done))
  all_goals simp_all
 |_=>
  simp only[de]at h
  try repeat' (first|(split at h)|(cases h;done))
  all_goals simp only[bw,bF,eM,C4,reduceCtorEq,qt,zC,exists_const]at h
theorem ab0(R:Rel aA nt φ S env σ n a w){f:c0}{j:J}(d:w9 P j o.op=some f)
 {p v σ'}(aI:∀b,key<=b->b<key+16->n b=false)(h:aQ f env σ key=some (p,v,σ'))(ar:p):b' P aA nt env σ' (eK n key) a v ((execOp a.eval o).run P w):=by
 have g:=aI _ (ek _) (by simp);rcases LC d with d|⟨t,len,parts,e,m,z,ps,i,u,r,x,s,h1,k,l,rfl⟩
 . by_cases hs:∃e e8,f= .allocS e e8
   . obtain⟨e,e8,rfl⟩:=hs;obtain⟨i,q⟩:=Z0 d;refine(abJ R i q g (aI _ (by simp) (by simp)) h ar).mono λb c=>?_;grind[ins,eK]
   exact(acz R d (λe e8 he=>hs ⟨e,e8,he⟩) g h ar).mono λb c=>O8 c
 exact(aaS R i u r x s h1 k l g h ar).mono λb c=>O8 c
end
def h7(P:Program)(f:Nat)(args:I V)(σ:bg)(key:Nat)(K:V->bg->Prop):Prop:=
 ∀aA nt φ S env n a w,Rel aA nt φ S env σ n a w->(∀b,key<=b->b<key+16->n b=false)->V.aK.V.dI n args->∀vs:I Value,bb (cc φ w S) args vs->
  Calls P f vs.toArray w λe w'=>∃v r bq bu σ',e= .returned v/\K r σ'/\cc bq w' bu r v/\r.aK (eK n key)/\Rel aA nt bq bu env σ' (eK n key) a w'
theorem h7.mono{P:Program}{args:I V}{σ:bg}{key:Nat}{K c:V->bg->Prop}(h:h7 P f args σ key K)(p:∀r σ',K r σ'->c r σ'):h7 P f args σ key c:=
 λaA nt φ S env n a w R aI o vs q=>(h aA nt φ S _ n a w R aI o vs q).mono λe w' ⟨v,r,bq,bu,σ',h1,g,j⟩=>⟨v,r,bq,bu,σ',h1,p _ _ g,j⟩
def gu(env:Env):ag (Nat×J)->ag J
 |none=>some true
 |some (t,b)=>match look env t with
  |some (g,.c (.t (.bool x)))=>some (g&&(x==b))
  |_=>none
def eB(env:Env)(dst:ag Nat)(g:J)(v:V):Env:=
 match dst with
 |none=>env
 |some d=>(d,g,v)::env
def sY(b:J):V:= .c (.t (.bool b))
def hB(P:Program)(o:cf)(key:Nat)(env:Env)(σ:bg)(K:Env->bg->Prop):Prop:=
 match gu env o.guard with
 |none=>False
 |some g=>(g=false/\∃v,K (eB env o.dst g v) σ)\/
  match o.op with
  |.call f args=>match h2 env args with
   |some (p,vs)=>match o.guard with
    |none=>p/\h7 P f vs σ key (λr σ'=>K (eB env o.dst true r) σ')
    |some _=>(g=true/\p/\h7 P f vs σ key (λr σ'=>K (eB env o.dst true r) σ'))\/∃r,(g=true->p/\h7 P f vs σ key (λa σ'=>a=r/\σ'=σ))/\K (eB env o.dst g r) σ
   |none=>False
  |.iv x args=>match x.get env,h2 env args with
   |some (q,.c (.fn f caps)),some (p,vs)=>o.guard=none/\hE P f/\q/\p/\h7 P f (vs++caps.map (λb=>V.c (.ptr b 0))) σ key (λr σ'=>K (eB env o.dst true r) σ')
   |_,_=>False
  |.eqNil neg x=>match x.get env with
   |some (p,.c (.t (.slice es)))=>o.guard=none/\p/\∀b:J,(es≠[]->b=false)->K (eB env o.dst true (sY (if neg then !b else b))) σ
   |some (p,.c .bV)=>o.guard=none/\p/\∀b:J,K (eB env o.dst true (sY (if neg then !b else b))) σ
   |some (p,.c (.arr _ _ _ l))=>o.guard=none/\p/\∀b:J,(l≠0->b=false)->K (eB env o.dst true (sY (if neg then !b else b))) σ
   |_=>False
  |op=>match aQ op env σ key with
   |some (p,v,σ')=>(g=true->p)/\(op.cE\/g=true)/\K (eB env o.dst g v) (if op.cE then σ else σ')
   |none=>False
def kO(P:Program):I cf->Nat->Env->bg->(Env->bg->Prop)->Prop
 |[],_,env,σ,K=>K env σ
 |o::r,key,env,σ,K=>hB P o key env σ λenv' σ'=>kO P r (key+16) env' σ' K
section
variable {P:Program}{aA:Ctx}{nt:Nat}{φ:dk}{S:dm}{env:Env}{σ:bg}{n:Nat->J}{key:Nat}{a:Act}{w:World}
theorem nj{v:V}{k:Nat}:look (eB env dst g v) k=if dst=some k then some (g,v)else look env k:=by
 unfold eB;grind[look]
theorem Rel.ym(R:Rel aA nt φ S env σ n a w)(o:∀d,dst=some d->d<nt){x:Value}{v:V}(aa:g=true->cc φ w S v x)(p:g=false->x=undef)(j:g=true->v.aK n):
 Rel aA nt φ S (eB env dst g v) σ n (a.put dst x) w:=by
 have f:∀k,(a.put dst x).tmps[k]?=if dst=some k then some x else a.tmps[k]?:=by
  cases dst with
  |none=>simp[Act.put]
  |some d=>
   have aD:d<a.tmps.size:=by rw[R.size];grind
   grind[Act.put]
 refine⟨R.bS,λk c e ak av=>?_,λk c e ak av=>?_,λk c e ak av=>?_,R.dT,?_,?_,R.ext,R.own,R.fix,R.gS⟩
 . rw[nj]at ak;rw[f];split at ak
   grind;rename_i h;rw[au h];exact R.gx k c e ak av
 . rw[nj]at ak;rw[f];split at ak
   grind;rename_i h;rw[au h];exact R.hl k c e ak av
 . rw[nj]at ak;split at ak
   grind;exact R.gw k c e ak av
 cases dst<;>simp[Act.put,R.size];cases dst<;>simp[Act.put,R.defers]
theorem Mq(R:Rel aA nt φ S env σ n a w){ops:Array Oper}{gd:ag (Nat×J)}(b:tX ops o.guard=some gd)(av:gu env gd=some g):Region.wanted o (yielded ops a.tmps)=g:=by
 unfold Region.wanted;cases i:o.guard with
 |none=>
  grind[tX,gu]
 |some j=>
  rw[i]at b;simp only[tX,bF]at b;obtain⟨d,f,rfl⟩:=b;simp[gu]at av;split at av
  . rename_i c x ak;simp at av;subst av;simp[yielded,f];cases e:c with
    |true=>
     obtain⟨y,al,b⟩:=R.gx d c _ ak e;have:=b.js;grind
    |false=>
     have:=R.hl d c _ ak e;simp only[this];rfl
  grind
def jN(aA:Ctx)(nt:Nat)(n:Nat->J)(K:Env->bg->Prop)(a:Act)(w:World):Prop:=∃φ S env σ,K env σ/\Rel aA nt φ S env σ n a w
theorem acA  (h:hE P f):∃ fn,P.funcs[f]? = some fn/\fn.body.isSome/\(fn.name == "runtime.NumGoroutine") = false:= by
 grind[hE]
theorem abO(h:hE P f)(args:Array Value)(w:World):(callFunc f args).run P w= .ok (.enter f args) w:=by
 obtain⟨fn,h1,a,b⟩:=acA h;obtain⟨c,d⟩:=G3.1 a;simp only[callFunc,Sem.run_bind,run_program,Result.andThen_ok,h1,b,d,cx,cF,Option.isNone_some,Sem.run_pure]
theorem zY{o:c0}(h:o.cE){p v σ'}(a:aQ o env σ key=some (p,v,σ')):σ'=σ:=by
 cases o<;>simp[c0.cE]at h<;>simp only[aQ,bw,bF]at a
 all_goals
  (try (obtain⟨a1,h1,a⟩:=a))
  (try (obtain⟨a2,b,a⟩:=a))
  (try (obtain⟨a3,c,a⟩:=a))
  (try split at a)
  (try (simp_all;done))
 all_goals repeat' (first|(cases a;done)|(cases a;rfl)|(simp only[bF]at a;obtain⟨_,_,_,_,rfl⟩:=a;rfl)|split at a)
theorem Lp{ops:Array Oper}{a:cf}(h:w5 P nt ops o=some a):
 w9 P (L8 ops o) o.op=some a.op/\tX ops o.guard=some a.guard/\a.dst=o.dst/\∀d,a.dst=some d->d<nt:=by
 grind[w5,bw]
theorem Ak{b:J}{op:Op}{a:c0}(h:w9 P b op=some a)(c:∀e m l z ps,a≠.bsliceT e m l z ps):de P op=some a:=by
 grind[LC]
theorem IL{ops:Array Oper}{g:ag (Nat×J)}(h:tX ops o.guard=some g)(av:g=none):o.guard=none:=by
 cases a:o.guard with
 |none=>rfl
 |some x=>
  grind[tX,bF]
theorem I5{a:c0}(h:de P (.alloc e)=some a)(h1:∀cs,a≠.alloc cs)(b:∀cs,a≠.allocA cs)(c:∀e e8,a≠.allocS e e8):False:=by
 grind[de,bw]
theorem Li{op:Op}{args:I aS}(h:de P op=some (.call f args)):∃c,op= .call c/\nd P c=some (.call f args):=by
 cases op with
 |call c=>exact⟨c,rfl,h⟩
 |alloc e=>exfalso;exact I5 h (by simp) (by simp) (by simp)
 |makeMap t r=>cases r<;>simp[de]at h
 |lookup t x i c=>cases c<;>simp[de,bw]at h
 |unOp u t x=>
  cases u<;>simp[de]at h
  all_goals (repeat' split at h)<;>(first|(done)|simp at h)
 |makeFunc fn b c=>cases fn<;>simp[de]at h
 |_=>
  simp only[de]at h
  (repeat' split at h)<;>(first|(cases h)|simp[bw,bF]at h)
theorem WX{op:Op}{x:aS}{args:I aS}(h:de P op=some (.iv x args)):∃c,op= .call c/\nd P c=some (.iv x args):=by
 cases op with
 |call c=>exact⟨c,rfl,h⟩
 |alloc e=>exfalso;exact I5 h (by simp) (by simp) (by simp)
 |makeMap t r=>cases r<;>simp[de]at h
 |lookup t x i c=>cases c<;>simp[de,bw]at h
 |unOp u t x=>
  cases u<;>simp[de]at h
  all_goals (repeat' split at h)<;>(first|(done)|simp at h)
 |makeFunc fn b c=>cases fn<;>simp[de]at h
 |_=>
  simp only[de]at h
  (repeat' split at h)<;>(first|(cases h)|simp[bw,bF]at h)
theorem Lj{args:I aS}(h:nd P c=some (.call f args)):c.callee= .value (.func f)/\hE P f/\nG c.args.toList=some args:=by
 unfold nd at h
 (repeat' split at h)<;>simp[bw]at h
 grind
theorem WY{x:aS}{args:I aS}(h:nd P c=some (.iv x args)):∃t,x= .tmp t/\c.callee= .value (.tmp t)/\nG c.args.toList=some args:=by
 unfold nd at h
 (repeat' split at h)<;>simp[bw]at h
 grind
theorem aam{op:Op}{neg:J}{x:aS}(h:de P op=some (.eqNil neg x)):
 ∃a t y z yt e,op= .binOp a t y z yt/\(a= .eql\/a= .neq)/\neg=(a== .neq)/\P.underlying t=some (.slice e)/\IJ z/\bO y=some x:=by
 cases op with
 |binOp a t y z yt=>
  simp[de]at h
  (repeat' split at h)<;>(try (done))<;>simp[bw,bF,reduceCtorEq,qt]at h
  grind
 |call c=>
  simp[de]at h;unfold nd at h
  (repeat' split at h)<;>(first|(done)|simp[bw]at h)
 |alloc e=>exfalso;exact I5 h (by simp) (by simp) (by simp)
 |makeMap t r=>cases r<;>simp[de]at h
 |lookup t x i c=>cases c<;>simp[de,bw]at h
 |unOp u t x=>
  cases u<;>simp[de]at h
  all_goals (repeat' split at h)<;>(first|(cases h;done)|simp at h)
 |makeFunc fn b c=>cases fn<;>simp[de]at h
 |_=>
  simp only[de]at h
  (repeat' split at h)<;>(first|(cases h;done)|simp[bw,bF]at h)
theorem ui(g:o.op= .call c)(d:c.callee= .value x){caps:I Value}(aa:a.eval x= .func (.func f) #[] caps.toArray)(b:hE P f):
 (execOp a.eval o).run P w= .ok (.enter f (c.args.toList.map a.eval++caps).toArray) w:=by
 have e:(c.args.map a.eval++caps.toArray)=(c.args.toList.map a.eval++caps).toArray:=by simp
 grind[execOp,Go.resolve,Deferred.ofValue,invoke,abO]
theorem Calls.next{args:Array Value}{key:Nat}(t:dst=o.dst)(q:∀d,dst=some d->d<nt)(av:g=true){K2:V->bg->Prop}
 (bW:∀r s,K2 r s->K (eB env dst g r) s)
 (h:Calls P f args w λe w'=>∃v r bq bu σ',e= .returned v/\K2 r σ'/\cc bq w' bu r v/\r.aK (eK n key)/\Rel aA nt bq bu env σ' (eK n key) a w')
 (u:(execOp a.eval o).run P w= .ok (.enter f args) w):o.wp P a w (jN aA nt (eK n key) K) Q:=by
 unfold Oper.wp;rw[u];refine h.mono ?_
 rintro e w' ⟨v,r,bq,bu,σ',rfl,h1,c,j,p⟩;subst t;exact⟨bq,bu,_,σ',bW _ _ h1,p.ym q (λ_=>c) (λh=>by grind) (λ_=>j)⟩
theorem Ee(R:Rel aA nt φ S env σ n a w)(aI:∀b,key<=b->b<key+16->n b=false){ops:Array Oper}{M:cf}(Z:w5 P nt ops o=some M)(h:hB P M key env σ K):
 if Region.wanted o (yielded ops a.tmps)then o.wp P a w (jN aA nt (eK n key) K) Q else jN aA nt (eK n key) K (a.put o.dst undef) w:=by
 obtain⟨h1,B,D,E⟩:=Lp Z;unfold hB at h;split at h;grind
 . rename_i g av;have aJ:=Mq R B av;rw[aJ];have ao:∀{v:V} {s:bg},K (eB env M.dst g v) s->s=σ->g=false->jN aA nt (eK n key) K (a.put o.dst undef) w:=by
    intro v s bW hs aD;subst hs;rw[<-D];exact⟨φ,S,_,_,bW,(R.more λ_ h=>ml h).ym E (λh=>by grind) (λ_=>rfl) (λh=>by grind)⟩
   rcases h with⟨aD,v,bW⟩|h;grind;split at h
   ·
    rename_i f args U;rw[U]at h1;have ay:∃c,o.op= .call c/\c.callee= .value (.func f)/\hE P f/\nG c.args.toList=some args:=by
     obtain⟨c,aP,Z⟩:=Li (Ak h1 (by simp));grind[Lj]
    obtain⟨c,X,Y,F,O⟩:=ay;split at h
    . rename_i p vs T;have ab:∀w':World,(execOp a.eval o).run P w= .ok (.enter f (c.args.toList.map a.eval).toArray) w:=by
       have:=ui (P:=P) (w:=w) (a:=a) X Y (f:=f) (caps:=[]) rfl F;grind
      split at h;have G:g=true:=(by grind[gu]);subst G;obtain⟨ar,m⟩:=h;obtain⟨g1,g2⟩:=rA R O T ar;exact Calls.next D E rfl (λ_ _ h=>h) (m aA nt φ S env n a w R aI g2 _ g1) (ab w)
      . rcases h with⟨G,ar,m⟩|⟨r,m,bW⟩
        subst G;obtain⟨g1,g2⟩:=rA R O T ar;exact Calls.next D E rfl (λ_ _ h=>h) (m aA nt φ S env n a w R aI g2 _ g1) (ab w)
        cases H:g with
        |true=>
         obtain⟨ar,m⟩:=m H;obtain⟨g1,g2⟩:=rA R O T ar;refine Calls.next (K2:=λan σ'=>an=r/\σ'=σ) D E H (λan s ad=>?_) (m aA nt φ S env n a w R aI g2 _ g1) (ab w);grind
        |false=>
         grind
    grind
   . rename_i x args U;rw[U]at h1;obtain⟨c,X,Z⟩:=WX (Ak h1 (by simp));obtain⟨t,rfl,Y,O⟩:=WY Z;split at h
     . rename_i q f caps p vs I T;obtain⟨u,F,aG,ar,m⟩:=h;have G:g=true:=(by grind[gu]);subst G;obtain⟨g1,g2⟩:=rA R O T ar;have aa:=cI (x:= .tmp t) R rfl I aG;have aK:=aa.1.ea;have az:bb (cc φ w S) (caps.map λb=>V.c (.ptr b 0)) (caps.map λb=>Value.pointer (some ⟨(φ b).1,0,none⟩)):=by
        refine bb.lO (by simp) ?_;intro i v x h1 B;simp only[qu,bF]at h1 B;obtain⟨b,au,rfl⟩:=h1;obtain⟨aO,ai,rfl⟩:=B;rw[au]at ai;cases ai;exact .c rfl
       have aB:V.aK.V.dI n (vs++caps.map λb=>V.c (.ptr b 0)):=by
        grind[tY,List.getElem?_append_left,nn,List.getElem?_append_right,bF,V.aK,C.aK,List.all_eq_true]
       exact Calls.next D E rfl (λ_ _ h=>h) (m aA nt φ S env n a w R aI aB _ (g1.append az)) (ui X Y aK F)
     grind
   . rename_i neg x U;rw[U]at h1;obtain⟨N,ty,y,z,yt,e,aF,ax,rfl,aj,ak,al⟩:=aam (Ak h1 (by simp));have aN:∀(b:J) (j:ag Addr) (l c:Nat),a.eval y= .slice j l c->j.isNone=b->(execOp a.eval o).run P w= .ok (.value (.bool (if(N== .neq)then !b else b))) w:=by
      intro b j l c k F;subst F;obtain⟨ae,am,aL⟩:∃ae:Value,a.eval z=ae/\ae= .slice none 0 0:=by
       unfold IJ at ak;split at ak;exact⟨_,rfl,rfl⟩;grind
      subst aL;have ap:(eqGuard N ty y z (a.eval y) (a.eval z)).run P w= .ok () w:=Je (by grind) (by grind);have af:(Op.equal ty (.slice j l c) (.slice none 0 0)).run P w= .ok j.isNone w:=by
       obtain⟨d,aC⟩:∃d,Op.maxDepth=d+1:=⟨9999,rfl⟩
       unfold Op.equal;rw[aC];unfold Op.equalIn;cases j with
       |none=>simp only[Sem.run_bind,run_underlying aj,Result.andThen_ok];rfl
       |some j=>simp only[Sem.run_bind,run_underlying aj,Result.andThen_ok];rfl
      have aq:(binOp N ty (a.eval y) (a.eval z)).run P w= .ok (.bool (if(N== .neq)then !j.isNone else j.isNone)) w:=by
       rcases ax with rfl|rfl;rw[k,am];simp only[binOp,Sem.run_bind,af];rfl;rw[k,am];simp only[binOp,Sem.run_bind,af];rfl
      simp[execOp,aF,ap,aq]
     have L:∀ (b:J) (j:ag Addr) (l c:Nat),o.guard = none->a.eval y = .slice j l c->j.isNone = b->K (eB env M.dst true (sY (if (N == .neq) then !b else b))) σ->
      (if g then o.wp P a w (jN aA nt (eK n key) K) Q else jN aA nt (eK n key) K (a.put o.dst undef) w):=by
      intro b j l c u k F bW;have G:g=true:=by
       have:Region.wanted o (yielded ops a.tmps):=(by simp[Region.wanted,u]);grind
      rw[ah G];unfold Oper.wp;rw[aN b j l c k F];show jN aA nt (eK n key) K (a.put o.dst _) w;rw[<-D];exact⟨φ,S,_,_,bW,(R.more λ_ h=>ml h).ym E (λ_=>.ph _) (λh=>by cases h) (λ_=>rfl)⟩
     split at h;rename_i p es I;obtain⟨u,ar,bW⟩:=h;obtain⟨j,cap,sz,b,off,f,k,_,_,_,A,_⟩:=b6.jI (cI R al I ar).1.ea;exact L j.isNone j _ _ (IL B u) k rfl (bW _ λh=>by rw[A h];rfl);rename_i p I;obtain⟨u,ar,bW⟩:=h;obtain⟨j,k⟩:=(cI R al I ar).1.ea;exact L j.isNone j _ _ (IL B u) k rfl (bW _);rename_i p b sz off l I;obtain⟨u,ar,bW⟩:=h;obtain⟨j,k,W,aR⟩:=bD.hA (cI R al I ar).1.ea;exact L j.isNone j _ _ (IL B u) k rfl (bW _ λh=>by rw[W (by omega)];rfl);exact h.elim
   . rename_i X Y aQ;split at h
     . rename_i p v σ' W;obtain⟨ar,A,bW⟩:=h;cases H:g with
       |true=>
        simp only[cl];obtain⟨x,bq,bu,w',hres,aH,aw,R'⟩:=ab0 R h1 aI W (ar H);have aM:(if M.op.cE then σ else σ')=σ':=by
         split;rename_i aE;exact(zY aE W).symm;rfl
        rw[aM]at bW;have L:jN aA nt (eK n key) K (a.put o.dst x) w':=by
         rw[<-D];exact⟨bq,bu,_,_,bW,R'.ym E (λ_=>aH) (λh=>by rw[H]at h;cases h) (λ_=>aw)⟩
        unfold Oper.wp;rcases hres with hres|⟨hres,rfl⟩;rw[hres];exact L;rw[hres];exact L
       |false=>
        simp only[cx,cF];rcases A with A|A;rw[ah A]at bW;exact ao bW rfl H;rw[H]at A;cases A
     exact h.elim
end
def lt(N:Nat):Nat->J:=λb=>(b<N:J)
theorem FH{b:Nat}(h:eK (lt N) N b):lt (N+16) b:=by
 grind[eK,lt]
theorem Ax{b:Nat}(h:N<=b):lt N b=false:=by grind[lt]
theorem EA{M b:Nat}(h:N<=M)(a:lt N b):lt M b:=by grind[lt]
section
variable {P:Program}{aA:Ctx}{nt kk:Nat}{φ:dk}{S:dm}{env:Env}{σ:bg}{N:Nat}{a:Act}{w:World}
theorem MI{ops:Array Oper}{Q:Exit->Act->World->Prop}{K:Env->bg->Nat->Prop}:∀{l:I Oper} {bd:I cf} {k N:Nat} {env:Env} {σ:bg} {φ:dk} {S:dm} {a:Act} {w:World},hh P nt ops l=some bd->(∀i:Nat,i<l.length->l[i]?=ops[k+i]?)->
 Rel aA nt φ S env σ (lt N) a w->kO P bd N env σ (λe s=>K e s (N+16*bd.length))->(∀φ S e s N a w,K e s N->Rel aA nt φ S e s (lt N) a w->Q .normal a w)->wpOps P ops Q (List.range' k l.length) a w
 |[],bd,k,N,env,σ,φ,S,a,w,c,g,R,h,f=>by
  simp[hh]at c;subst c;exact f _ _ _ _ _ _ _ h R
 |o::l,bd,k,N,env,σ,φ,S,a,w,c,g,R,h,f=>by
  simp[hh,bw,bF]at c;obtain⟨n,j,d,m,rfl⟩:=c;have p:ops[k]?=some o:=by have:=g 0 (by simp);grind
  rw[lg,zv,wpOps_cons];unfold wpOp;have hs:=Ee R (λb h1 _=>Ax h1) j (K:=λe s=>kO P d (N+16) e s λe s=>K e s (N+16*(d.length+1))) (by grind[kO]) (Q:=Q);have next:∀ca w',jN aA nt (eK (lt N) N) (λe s=>kO P d (N+16) e s λe s=>K e s (N+16*(d.length+1))) ca w'->wpOps P ops Q (List.range' (k+1) l.length) ca w':=by
   rintro ca w' ⟨bq,bu,e,s,bW,R'⟩
   refine MI m (λi aD=>?_) (R'.more λ_ h=>FH h) ?_ f
   have:=g (i+1) (by grind);grind;grind
  split at hs;grind[Oper.wp_mono];grind
def W4(P:Program)(nt kk:Nat)(c:Code)(env:Env)(σ:bg)(N:Nat)(Q:Exit->Env->bg->Nat->Prop):Prop:=
 ∀aA φ S a w,aA.k=kk->Rel aA nt φ S env σ (lt N) a w->c.wp P (λe ca w'=>∃bq bu env' σ' N',Q e env' σ' N'/\Rel aA nt bq bu env' σ' (lt N') ca w') a w
def cH(P:Program)(nt kk:Nat)(c:dG)(env:Env)(σ:bg)(N:Nat)(Q:Exit->Env->bg->Nat->Prop):Prop:=
 ∀a,resolve P nt a=some c->W4 P nt kk a env σ N Q
variable {Q nV:Exit->Env->bg->Nat->Prop}
theorem cH.mono{c:dG}(h:cH P nt kk c env σ N Q)(o:∀e env σ N,Q e env σ N->nV e env σ N):cH P nt kk c env σ N nV:=
 λp g aA φ S a w j R=>wp_mono (h _ g aA φ S a w j R) λe a w ⟨bq,bu,env',σ',N',h1,f⟩=>⟨bq,bu,env',σ',N',o _ _ _ _ h1,f⟩
theorem cH.skip(h:Q .normal env σ N):cH P nt kk .skip env σ N Q:=by
 intro e c aA φ S a w f R;cases e<;>simp[resolve,bw]at c<;>(try (first|(cases c;done)|(obtain⟨l,_,c⟩:=c;(repeat' split at c)<;>cases c)));grind[wp_skip]
theorem cH.ret(h:Q .ret env σ N):cH P nt kk .ret env σ N Q:=by
 intro e c aA φ S a w f R;cases e<;>simp[resolve,bw]at c<;>(try (first|(cases c;done)|(obtain⟨l,_,c⟩:=c;(repeat' split at c)<;>cases c)));grind[wp_ret]
theorem cH.exit(h:Q (.exit id) env σ N):cH P nt kk (.exit id) env σ N Q:=by
 intro e c aA φ S a w f R;cases e<;>simp[resolve,bw]at c<;>(try (first|(cases c;done)|(obtain⟨l,_,c⟩:=c;(repeat' split at c)<;>cases c)));grind[wp_exit]
def andThen(next:Env->bg->Nat->Prop)(Q:Exit->Env->bg->Nat->Prop):Exit->Env->bg->Nat->Prop
 |.normal,env,σ,N=>next env σ N
 |e,env,σ,N=>Q e env σ N
theorem acB{c:Code}{x y:dG}(h:resolve P nt c=some (.seq x y)):∃a b,c= .seq a b/\resolve P nt a=some x/\resolve P nt b=some y:=by
 cases c with
 |seq a b=>
  simp[resolve,bw,bF]at h;grind
 |region id ops d=>
  grind[resolve,bw]
 |_=>simp[resolve,bw,bF]at h
theorem abP{d:Code}{c:aS}{x y:dG}(h:resolve P nt d=some (.cond c x y)):∃o a b,d= .cond o a b/\bO o=some c/\resolve P nt a=some x/\resolve P nt b=some y:=by
 cases d with
 |cond o a b=>
  simp[resolve,bw,bF]at h;grind
 |region id ops e=>
  grind[resolve,bw]
 |_=>simp[resolve,bw,bF]at h
theorem aaW{a:Code}{x:dG}(h:resolve P nt a=some (.block id x)):∃b,a= .block id b/\resolve P nt b=some x:=by
 cases a with
 |block i b=>
  grind[resolve,bF]
 |region id ops c=>
  grind[resolve,bw]
 |_=>simp[resolve,bw]at h
theorem abQ{a:Code}{x:dG}(h:resolve P nt a=some (.loop x)):∃b,a= .loop b/\resolve P nt b=some x:=by
 cases a with
 |loop b=>
  grind[resolve,bF]
 |region id ops c=>
  grind[resolve,bw]
 |_=>simp[resolve,bw]at h
theorem LD{a:Code}(h:resolve P nt a=some (.region bd)):∃id ops,a= .region id ops false/\hh P nt ops ops.toList=some bd:=by
 cases a with
 |region id ops b=>
  grind[resolve,bw]
 |_=>grind[resolve,bw,bF]
theorem Lq{a:Code}{fw:I (Nat×Nat)}(h:resolve P nt a=some (.o2 bd fw)):
 ∃id ops,a= .region id ops true/\hh P nt ops ops.toList=some bd/\tQ (fL ops bd)/\P.follows .mixedOrders/\fw=s3 (fL ops bd):=by
 cases a with
 |region id ops b=>
  grind[resolve,bw]
 |_=>grind[resolve,bw,bF]
theorem cH.seq{x y:dG}(h:cH P nt kk x env σ N (andThen (λenv σ N=>cH P nt kk y env σ N Q) Q)):cH P nt kk (.seq x y) env σ N Q:=by
 intro j g aA φ S a w c R;obtain⟨o,p,rfl,aa,al⟩:=acB g;refine wp_seq (wp_mono (h _ aa aA φ S a w c R) ?_);rintro e ca w' ⟨bq,bu,env',σ',N',f,R'⟩
 cases e with
 |normal=>exact f _ al aA _ bu ca w' c R'
 |_=>exact⟨bq,bu,env',σ',N',f,R'⟩
theorem cH.cond{c:aS}{x y:dG}{p:Prop}{b:J}(g:c.get env=some (p,sY b))(ar:p)(aa:b=true->cH P nt kk x env σ N Q)(al:b=false->cH P nt kk y env σ N Q):cH P nt kk (.cond c x y) env σ N Q:=by
 intro v j aA φ S a w e R;obtain⟨o,z,A,rfl,q,t,u⟩:=abP j;have f:=(cI R q g ar).1.js;refine wp_cond f ?_;cases b with
 |true=>exact aa rfl _ t aA φ S a w e R
 |false=>exact al rfl _ u aA φ S a w e R
def inBlock(id:Nat)(Q:Exit->Env->bg->Nat->Prop):Exit->Env->bg->Nat->Prop
 |.exit i,env,σ,N=>if i=id then Q .normal env σ N else Q (.exit i) env σ N
 |e,env,σ,N=>Q e env σ N
theorem cH.block{id:Nat}{x:dG}(h:cH P nt kk x env σ N (inBlock id Q)):cH P nt kk (.block id x) env σ N Q:=by
 intro o f aA φ S a w g R;obtain⟨b,rfl,c⟩:=aaW f;refine wp_block (wp_mono (h _ c aA φ S a w g R) ?_);rintro e ca w' ⟨bq,bu,env',σ',N',j,R'⟩
 cases e with
 |exit i=>
  grind[inBlock,Exit.inBlock]
 |_=>exact⟨bq,bu,env',σ',N',j,R'⟩
theorem cH.region{bd:I cf}(h:kO P bd N env σ (λe s=>Q .normal e s (N+16*bd.length))):cH P nt kk (.region bd) env σ N Q:=by
 intro j f aA φ S a w p R;obtain⟨id,ops,rfl,g⟩:=LD f;refine wp_region ?_;have:=MI (Q:=λe ca w'=>∃bq bu env' σ' N',Q e env' σ' N'/\Rel aA nt bq bu env' σ' (lt N') ca w') (k:=0) g (λi o=>by simp) R h
  (λφ S e s N a w bW c=>⟨φ,S,e,s,N,bW,c⟩)
 grind[List.range_eq_range']
end
def pos:ba->Nat->ag Nat
 |[],_=>none
 |x::r,b=>if x=b then some 0 else(pos r b).map (· +1)
theorem ow:∀{bs:ba} {b i:Nat},pos bs b=some i->bs[i]?=some b
 |[],b,i,h=>by grind[pos]
 |x::r,b,i,h=>by
  unfold pos at h;split at h;grind;simp at h;obtain⟨j,a,rfl⟩:=h;simpa using ow a
def qh(bs:ba):ba->ag ba
 |[]=>some []
 |c::r=>match pos bs c,qh bs r with
  |some i,some l=>some (i::l)
  |_,_=>none
def C.b8(bs:ba):C->C
 |.t x=>.t x
 |.ptr b o=>match pos bs b with|some i=>.ptr i o|none=>.dead
 |.cW b sz i o=>match pos bs b with|some j=>.cW j sz i o|none=>.dead
 |.dY ts o=>.dY ts o
 |.arr b sz off len=>match pos bs b with|some i=>.arr i sz off len|none=>.dead
 |.gf b sz off len=>match pos bs b with|some i=>.gf i sz off len|none=>.dead
 |.mp b=>match pos bs b with|some i=>.mp i|none=>.dead
 |.eF b=>match pos bs b with|some i=>.eF i|none=>.dead
 |.cN b len=>match pos bs b with|some i=>.cN i len|none=>.dead
 |.bV=>.bV
 |.fp=>.fp
 |.fm=>.fm
 |.fn f caps=>match qh bs caps with|some l=>.fn f l|none=>.dead
 |.dead=>.dead
def V.b8(bs:ba):V->V
 |.c x=>.c (x.b8 bs)
 |.agg cs=>.agg (cs.map (C.b8 bs))
 |.bf vs=>.bf (go bs vs)
where go (bs:ba):I V->I V
 |[]=>[]
 |v::vs=>v.b8 bs::go bs vs
def b9.b8(bs:ba):b9->b9
 |.box cs=>.box (cs.map (C.b8 bs))
 |.arr sz es=>.arr sz es
 |.set ks=>.set ks
 |.buf E s=>.buf E s
 |.cm E c=>.cm E (c.b8 bs)
 |.cR sz es i o c=>.cR sz es i o (c.b8 bs)
def ox(bs:ba)(env:Env):ba->Env
 |[]=>[]
 |k::ks=>match look env k with
  |some (g,v)=>(k,g,v.b8 bs)::ox bs env ks
  |none=>ox bs env ks
def fV(bs:ba)(σ:bg):Nat->ba->bg
 |_,[]=>[]
 |i,b::r=>match aV σ b with
  |some x=>(i,x.b8 bs)::fV bs σ (i+1) r
  |none=>fV bs σ (i+1) r
def keeps(k:Nat)(bs:ba):J:=(List.range k).all λi=>bs[i]?==some i
section
variable {P:Program}{aA:Ctx}{nt kk:Nat}{φ:dk}{S:dm}{env:Env}{σ:bg}{N:Nat}{n:Nat->J}{a:Act}{w:World}
theorem IM:∀{bs caps l:ba},qh bs caps=some l->caps.length=l.length/\∀(i b j:Nat),caps[i]?=some b->l[i]?=some j->bs[j]?=some b
 |bs,[],l,h=>by grind[qh]
 |bs,c::r,l,h=>by
  unfold qh at h;split at h;rename_i j e d ak;obtain⟨h1,a⟩:=IM ak;grind[ow];grind
theorem bD.b8(p:∀(i:Nat) b,bs[i]?=some b->bq i=φ b){c:C}{v:Value}(h:bD φ w S c v):bD bq w S (c.b8 bs) v:=by
 have j:=bD.jk h;cases c with
 |ptr b o=>
  grind[C.b8,bD,ow]
 |cW b sz i o=>
  grind[C.b8,bD,ow]
 |arr b sz off len=>
  grind[C.b8,bD,ow]
 |gf b sz off len=>
  grind[C.b8,bD,ow]
 |mp b=>
  grind[C.b8,bD,ow]
 |eF b=>
  grind[C.b8,bD,ow]
 |cN b len=>
  grind[C.b8,bD,ow]
 |fn f caps=>
  simp[C.b8];split
  . rename_i l ak;obtain⟨h1,g⟩:=IM ak;rw[h]
    congr 2;apply zw (by grind);intro i a e;simp at a e;simp;rw[p _ _ (g i _ _ (e0 a) (e0 e))]
  exact j
 |_=>exact h
theorem Ef:∀{vs:I V} {i:Nat},(V.b8.go bs vs)[i]?=(vs[i]?).map (V.b8 bs)
 |[],i=>by rfl
 |v::vs,0=>by rfl
 |v::vs,i+1=>by simp[V.b8.go,Ef]
theorem Eo:∀{vs:I V},(V.b8.go bs vs).length=vs.length
 |[]=>rfl
 |v::vs=>by simp[V.b8.go,Eo]
theorem bb.qo{c γ:Type}{R:α->c->Prop}{R':γ->c->Prop}{f:α->γ}{l:I α}{m:I c}(h:bb R l m)(k:∀a b,R a b->R' (f a) b):bb R' (l.map f) m:=by
 induction h with
 |nil=>exact .nil
 |cons e _ ih=>exact .cons (k _ _ e) ih
theorem cc.b8(a:∀(i:Nat) b,bs[i]?=some b->bq i=φ b){v:V}{x:Value}(h:cc φ w S v x):cc bq w S (v.b8 bs) x:=by
 induction h with
 |c h=>exact .c (bD.b8 a h)
 |agg h=>exact .agg (h.qo λ_ _=>bD.b8 a)
 |bf vs xs ak h ih=>
  refine .bf _ xs (by grind[Eo]) ?_;grind[Ef]
theorem tS{b i:Nat}(h:pos bs b=some i):i<bs.length:=(ed.1 (ow h)).1
theorem C.j6(c:C):(c.b8 bs).aK (lt bs.length):=by
 cases c with
 |ptr b o=>grind[C.b8,C.aK,lt,tS]
 |cW b sz i o=>grind[C.b8,C.aK,lt,tS]
 |arr b sz off len=>grind[C.b8,C.aK,lt,tS]
 |gf b sz off len=>grind[C.b8,C.aK,lt,tS]
 |mp b=>grind[C.b8,C.aK,lt,tS]
 |eF b=>grind[C.b8,C.aK,lt,tS]
 |cN b len=>grind[C.b8,C.aK,lt,tS]
 |fn f caps=>
  simp[C.b8];split;rename_i l ak;obtain⟨h1,a⟩:=IM ak;simp[C.aK,lt];intro j g;obtain⟨i,e,rfl⟩:=gT g;exact(ed.1 (a i _ _ (e0 (by omega)) (e0 e))).1;rfl
 |_=>rfl
theorem V.j6{bs:ba}:∀(v:V),(v.b8 bs).aK (lt bs.length)=true
 |.c x=>by grind[V.b8,V.aK,C.j6]
 |.agg cs=>by grind[V.b8,V.aK,C.j6]
 |.bf vs=>by exact go vs
where go:∀vs,V.aK.V.dI _ (V.b8.go bs vs)=true
 |[]=>rfl
 |v::vs=>by simp[V.b8.go,V.aK.V.dI,dh];exact⟨V.j6 v,go vs⟩
theorem A9:∀{ks:ba} {k:Nat} {g:J} {v:V},look (ox bs env ks) k=some (g,v)->∃v0,look env k=some (g,v0)/\v=v0.b8 bs
 |[],k,g,v,h=>by grind[ox,look]
 |x::ks,k,g,v,h=>by
  unfold ox at h;split at h
  . unfold look at h;split at h
    grind;exact A9 h
  exact A9 h
theorem pU:∀{r:ba} {i:Nat} {b:Nat} {x:b9},aV (fV bs σ i r) b=some x->∃j c g,b=i+j/\r[j]?=some c/\aV σ c=some g/\x=g.b8 bs
 |[],i,b,x,h=>by grind[fV,aV]
 |c::r,i,b,x,h=>by
  unfold fV at h;split at h
  . unfold aV at h;split at h
    simp_all;obtain⟨j,a,f,h1,k,d,e⟩:=pU h;exact⟨j+1,a,f,by omega,by grind,d,e⟩
  obtain⟨j,a,f,h1,k,d,e⟩:=pU h;exact⟨j+1,a,f,by omega,by grind,d,e⟩
theorem c8.b8(a:∀(i:Nat) b,bs[i]?=some b->bq i=φ b){i b:Nat}(e:bs[i]?=some b){x:b9}(h:c8 φ w S b x):c8 bq w S i (x.b8 bs):=by
 cases x with
 |box cs=>
  obtain⟨h0,vs,E,h1,f,g⟩:=h;simp only[c8,a i b e];exact⟨h0,vs,E,h1,f.qo λ_ _=>bD.b8 a,g⟩
 |arr sz es=>simp only[c8,a i b e];exact h
 |set ks=>simp only[c8,a i b e];exact h
 |buf E s=>grind[b9.b8,c8]
 |cm E c=>
  grind[b9.b8,c8,bD.b8]
 |cR sz es i o c=>
  grind[b9.b8,c8,bD.b8]
theorem Rel.tidy(R:Rel aA nt φ S env σ (lt N) a w)(ks bs:ba)(cd:bs.Nodup)(H:keeps aA.k bs):
 ∃bq,Rel aA nt bq S (ox bs env ks) (fV bs σ 0 bs) (lt bs.length) a w:=by
 have D:∀(i:Nat) b,bs[i]?=some b->(λi=>φ ((bs[i]?).getD 0)) i=φ b:=by grind
 have B:∀i:Nat,i<aA.k->bs[i]?=some i:=by
  simp_all[keeps,gk,List.mem_range,iS]
 refine⟨λi=>φ ((bs[i]?).getD 0),⟨⟨λb x aa=>?_,λb G x y aa al K h0 t=>?_,R.bS.st⟩,λk g v ak av=>?_,λk g v ak av=>?_,λk g v ak av=>?_,λb x aa=>?_,R.size,R.defers,R.ext,λb x aa h0=>?_,λb q=>?_,λb q=>?_⟩⟩;obtain⟨j,c,e,rfl,f,p,rfl⟩:=pU aa;rw[ij];exact c8.b8 D f (R.bS.blk c e p)
 . obtain⟨j,c,e,rfl,f,p,rfl⟩:=pU aa;obtain⟨O,u,F,rfl,z,A,rfl⟩:=pU al;simp only[ij,f,z]at h0 t⊢;refine R.bS.inj c u e F p A ?_ h0 t;grind[List.getElem?_eq_some_iff,List.pairwise_iff_getElem,Nat.lt_trichotomy]
 obtain⟨v0,h1,rfl⟩:=A9 ak;obtain⟨x,aa,L⟩:=R.gx k g v0 h1 av;grind[cc.b8];obtain⟨v0,h1,rfl⟩:=A9 ak;exact R.hl k g v0 h1 av;grind[A9,V.j6]
 . obtain⟨j,c,e,rfl,f,p,rfl⟩:=pU aa;refine⟨by grind[lt,List.getElem?_eq_some_iff],?_⟩;cases e with
   |box cs=>grind[b9.b8,b9.aK,List.all_map,List.all_eq_true,C.j6]
   |arr sz es=>rfl
   |set ks=>rfl
   |buf E s=>rfl
   |cm E c=>exact C.j6 c
   |cR sz es i o c=>exact C.j6 c
 obtain⟨j,c,e,rfl,f,p,rfl⟩:=pU aa;simp only[ij,f]at h0⊢;exact R.own c e p h0;simp only[B b q,uV];exact R.fix b q;simp only[lt,fI];grind
theorem cH.tidy{c:dG}{Q:Exit->Env->bg->Nat->Prop}(ks bs:ba)(cd:bs.Nodup)(f:keeps kk bs)(h:cH P nt kk c (ox bs env ks) (fV bs σ 0 bs) bs.length Q):cH P nt kk c env σ N Q:=by
 intro j e aA φ S a w g R;subst g;obtain⟨bq,R'⟩:=R.tidy ks bs cd f;exact h _ e aA _ S a w rfl R'
end
def cut(es:I (I T))(off len:Nat):I (I T):=if off=0/\len=es.length then es else(es.drop off).take len
def C.cz(b0 a:Nat)(es:I (I T)):C->C
 |.arr b sz off len=>if b=b0 then(if sz=a/\off+len<=es.length then .t (.slice (cut es off len))else .dead)else .arr b sz off len
 |.cW b sz i o=>if b=b0 then .dead else .cW b sz i o
 |c=>c
def V.cz(b0 a:Nat)(es:I (I T)):V->V
 |.c x=>.c (x.cz b0 a es)
 |.agg cs=>.agg (cs.map (C.cz b0 a es))
 |.bf vs=>.bf (go b0 a es vs)
where go (b0 a:Nat) (es:I (I T)):I V->I V
 |[]=>[]
 |v::vs=>v.cz b0 a es::go b0 a es vs
def b9.cz(b0 a:Nat)(es:I (I T)):b9->b9
 |.box cs=>.box (cs.map (C.cz b0 a es))
 |.arr sz l=>.arr sz l
 |.set ks=>.set ks
 |.buf E s=>.buf E s
 |.cm E c=>.cm E (c.cz b0 a es)
 |.cR sz l i o c=>.cR sz l i o (c.cz b0 a es)
def rR(b0 a:Nat)(es:I (I T)):Env->Env
 |[]=>[]
 |(k,g,v)::r=>(k,g,v.cz b0 a es)::rR b0 a es r
def nB(b0 a:Nat)(es:I (I T)):bg->bg
 |[]=>[]
 |(k,x)::r=>if k=b0 then nB b0 a es r else(k,x.cz b0 a es)::nB b0 a es r
variable{vs:I V}
section
variable {P:Program}{aA:Ctx}{nt kk:Nat}{φ:dk}{S:dm}{env:Env}{σ:bg}{N:Nat}{n:Nat->J}{a:Act}{w:World}
theorem Ay{a:Nat}:∀{env:Env} {k:Nat},look (rR b0 a es env) k=(look env k).map λx=>(x.1,x.2.cz b0 a es)
 |[],k=>rfl
 |(i,g,v)::r,k=>by
  simp[rR,look];split;rfl;exact Ay
theorem EM{b:Nat}:∀{σ:bg} {k:Nat},aV (nB b0 b es σ) k=if k=b0 then none else(aV σ k).map (b9.cz b0 b es)
 |[],k=>by simp[nB,aV]
 |(i,x)::r,k=>by
  simp[nB,aV];by_cases h:i=b0;rw[ah h,EM];grind
  . rw[au h];simp[aV];by_cases a:i=k
    grind;rw[au a,au a,EM]
def xE(S:dm)(q:Nat×Nat):dm:=λb j=>S b j\/(q.2≠0/\b=q.1)
theorem afC{len:Nat}{e:I T}(h:e∈cut es off len):e∈es:=by
 grind[cut]
theorem afD{len i:Nat}{e:I T}(a:off+len<=es.length)(h:(cut es off len)[i]?=some e):es[off+i]?=some e/\i<len:=by
 grind[cut]
theorem ab1{len:Nat}(a:off+len<=es.length):(cut es off len).length=len:=by
 grind[cut]
theorem bD.cz{b0 q:Nat}{es:I (I T)}(cZ:c8 φ w S b0 (.arr q es)){c:C}{v:Value}(h:bD φ w S c v):bD φ w (xE S (φ b0)) (c.cz b0 q es) v:=by
 have m:gN w S w (xE S (φ b0)):=⟨λ_ _ h=>.inl h,λ_ _ _=>rfl⟩
 have p:=bD.jk h;cases c with
 |arr b sz off len=>
  simp[C.cz];by_cases f:b=b0
  . subst f;rw[ah rfl];split
    . rename_i z;obtain⟨rfl,g⟩:=z;obtain⟨h1,H,u,K,x⟩:=cZ;obtain⟨a,rfl,y,N⟩:=bD.hA h;have ak:=ab1 g;have aJ:Value.slice a len ((φ b).2-off)=Value.slice a (cut es off len).length ((φ b).2-off):=(by grind);rw[aJ];by_cases h0:(φ b).2=0
      have:cut es off len=[]:=j3 (by omega);rw[this];exact b6.slice [] _ _ 0 0 0 (λ_ _=>undef) (by simp) (by simp) (by simp) (by simp) (by simp) (by simp)
      . obtain⟨vs,E,ad,O,D,hs⟩:=x h0;refine b6.slice _ _ _ sz _ _ (λi j=>(vs.getD ((off+i)*sz+j) undef)) (by omega) (by omega) (λe he=>u e (afC he)) (λ_=>y h0) ?_ ?_
        . intro i j B L;refine⟨.inr ⟨h0,rfl⟩,?_⟩;rw[jd ad];have aD:(off+i)*sz+j<vs.length:=by
           have:=fg sz (show off+i+1<=(φ b).2 by omega);grind
          grind
        intro i j e t he ht;obtain⟨A,B⟩:=afD g he;obtain⟨v,G,F⟩:=D _ _ _ _ A ht;simp[List.getD,G];exact b6.mono m F
    exact p
  rw[au f];exact bD.mono m (λ_ _=>rfl) (C.mU _) h
 |cW b sz i o=>
  simp[C.cz];split;exact p;exact h
 |_=>exact bD.mono m (λ_ _=>rfl) (C.mU _) h
theorem IN{a:Nat}:∀{vs:I V} {i:Nat},(V.cz.go b0 a es vs)[i]?=(vs[i]?).map (V.cz b0 a es)
 |[],i=>by rfl
 |v::vs,0=>by rfl
 |v::vs,i+1=>by simp[V.cz.go,IN]
theorem H9{a:Nat}:∀{vs:I V},(V.cz.go b0 a es vs).length=vs.length
 |[]=>rfl
 |v::vs=>by simp[V.cz.go,H9]
theorem cc.cz{a:Nat}(cZ:c8 φ w S b0 (.arr a es)){v:V}{x:Value}(h:cc φ w S v x):cc φ w (xE S (φ b0)) (v.cz b0 a es) x:=by
 induction h with
 |c h=>exact .c (bD.cz cZ h)
 |agg h=>exact .agg (h.qo λ_ _=>bD.cz cZ)
 |bf vs xs ak h ih=>
  refine .bf _ xs (by grind[H9]) ?_;grind[IN]
theorem C.qX{a:Nat}{c:C}(h:c.aK n):(c.cz b0 a es).aK n:=by
 cases c with
 |arr b sz off len=>simp[C.cz];split;split;rfl;rfl;grind
 |cW b sz i o=>simp[C.cz];split;rfl;grind
 |_=>exact h
theorem V.qX{b0 a:Nat}{es:I (I T)}:∀{v:V},v.aK n->(v.cz b0 a es).aK n=true
 |.c x,h=>by grind[V.cz,V.aK,C.qX]
 |.agg cs,h=>by grind[V.cz,V.aK,C.qX]
 |.bf vs,h=>by exact go vs h
where go:∀vs,V.aK.V.dI n vs->V.aK.V.dI n (V.cz.go b0 a es vs)=true
 |[],_=>rfl
 |v::vs,h=>by simp[V.cz.go,V.aK.V.dI,dh]at h⊢;exact⟨V.qX h.1,go vs h.2⟩
theorem Rel.freeze(R:Rel aA nt φ S env σ n a w)(P:aV σ b0=some (.arr N es)):
 Rel aA nt φ (xE S (φ b0)) (rR b0 N es env) (nB b0 N es σ) n a w:=by
 have cZ:=R.bS.blk b0 _ P;have m:gN w S w (xE S (φ b0)):=⟨λ_ _ h=>.inl h,λ_ _ _=>rfl⟩
 have L:∀b x,aV (nB b0 N es σ) b=some x->b≠b0/\∃u,aV σ b=some u/\x=u.cz b0 N es:=by
  grind[EM,bF]
 have K:∀b x,b≠b0->aV σ b=some x->(φ b).2≠0->∀j,¬xE S (φ b0) (φ b).1 j:=by
  intro b x A aa h0 j f;rcases f with f|⟨G,f⟩;exact(R.bS.blk b x aa).qq h0 j f;exact R.bS.inj b b0 x _ aa P A h0 G f
 refine⟨⟨λb x aa=>?_,λb Q x y aa al A h0 X=>?_,λb j f=>?_⟩,λk g v ak av=>?_,λk g v ak av=>?_,λk g v ak av=>?_,λb x aa=>?_,R.size,R.defers,?_,λb x aa h0=>?_,R.fix,R.gS⟩
 . obtain⟨A,u,q,rfl⟩:=L b x aa;have z:=R.bS.blk b u q;cases u with
   |box cs=>
    obtain⟨h0,vs,E,h1,B,D⟩:=z;exact⟨h0,vs,E,h1,B.qo λ_ _=>bD.cz cZ,K b _ A q h0⟩
   |arr sz l=>
    obtain⟨h1,B,D,O,U⟩:=z;refine⟨h1,B,D,O,λh0=>?_⟩;grind[b6.mono]
   |set ks=>exact⟨z.1,z.2.1,K b _ A q z.1⟩
   |buf E s=>exact⟨z.1,z.2.1,λh0=>⟨(z.2.2 h0).1,K b _ A q h0⟩⟩
   |cm E c=>
    obtain⟨h0,⟨p,v,h1,B,D⟩,O⟩:=z;exact⟨h0,⟨p,v,h1,B,bD.cz cZ D⟩,K b _ A q h0⟩
   |cR sz l i o c=>
    obtain⟨⟨h1,B,D,O,U,Y⟩,⟨vs,E,k1,k2,k3,v,k4,k5⟩,k6⟩:=z;exact⟨⟨h1,B,D,O,U,Y⟩,⟨vs,E,k1,k2,λi j e t he ht aI=>let⟨v,Z,W⟩:=k3 i j e t he ht aI;⟨v,Z,b6.mono m W⟩,v,k4,bD.cz cZ k5⟩,K b _ A q (by omega)⟩
 obtain⟨_,u,q,rfl⟩:=L b x aa;obtain⟨_,an,am,rfl⟩:=L Q y al;exact R.bS.inj b Q u an q am A h0 X
 . rcases f with f|⟨G,rfl⟩
   exact R.bS.st b j f;exact cZ.jG G
 rw[Ay,bF]at ak;obtain⟨⟨F,v0⟩,H,he⟩:=ak;cases he;obtain⟨x,aa,W⟩:=R.gx k F v0 H av;grind[cc.cz];rw[Ay,bF]at ak;obtain⟨⟨F,v0⟩,H,he⟩:=ak;cases he;exact R.hl k F v0 H av;rw[Ay,bF]at ak;obtain⟨⟨F,v0⟩,H,he⟩:=ak;cases he;exact V.qX (R.gw k F v0 H av)
 . obtain⟨_,u,q,rfl⟩:=L b x aa;refine⟨(R.dT b u q).1,?_⟩;have:=(R.dT b u q).2;cases u with
   |box cs=>grind[b9.cz,b9.aK,List.all_map,List.all_eq_true,C.qX]
   |arr sz l=>rfl
   |set ks=>rfl
   |buf E s=>rfl
   |cm E c=>grind[b9.cz,b9.aK,C.qX]
   |cR sz l i o c=>grind[b9.cz,b9.aK,C.qX]
 . refine⟨R.ext.os,R.ext.tape,R.ext.output,R.ext.size,R.ext.block,R.ext.mono.trans m,λb j f=>?_⟩;rcases f with f|⟨G,rfl⟩
   exact R.ext.lQ b j f
   . rcases R.own b0 _ P G with h|h
     all_goals grind
 obtain⟨_,u,q,rfl⟩:=L b x aa;exact R.own b u q h0
theorem cH.freeze{c:dG}{Q:Exit->Env->bg->Nat->Prop}(b0:Nat){e:Nat}(j:aV σ b0=some (.arr e es))(h:cH P nt kk c (rR b0 e es env) (nB b0 e es σ) N Q):cH P nt kk c env σ N Q:=by
 intro o f aA φ S a w g R;exact h _ f aA φ _ a w g (R.freeze j)
inductive jm where
 |tmp (t:Nat)
 |cell (t:Nat)(agg:Bool)(n:Nat)
def ir(P:Program):I ResultVar->ag (I jm)
 |[]=>some []
 |.tmp t::r=>(ir P r).map (.tmp t::·)
 |.cell a ty::r=>(nr P ty).bind λg=>(ir P r).map (.cell a g.1 g.2::·)
def tT(env:Env)(σ:bg):jm->ag (Prop×V)
 |.tmp t=>(look env t).map λx=>(x.1=true,x.2)
 |.cell t g k=>match look env t with
  |some (a,.c (.ptr b o))=>match aV σ b with
   |some (.box cs)=>(j2 g k cs o).map λv=>(a=true,v)
   |_=>none
  |_=>none
def qi(env:Env)(σ:bg):I jm->ag (Prop×I V)
 |[]=>some (True,[])
 |r::a=>(tT env σ r).bind λx=>(qi env σ a).map λy=>(x.1/\y.1,x.2::y.2)
def mE:I V->V
 |[v]=>v
 |vs=>.bf vs
def eo(P:Program)(f:Nat)(args:I V)(σ:bg)(k:Nat)(Q:V->bg->Nat->Prop):Prop:=
 ∀(φ:dk) (S:dm) (w:World) (B:Nat->Prop),qO φ w S σ->(∀(b:Nat) x,aV σ b=some x->b<k/\x.aK (lt k))->(∀(b:Nat) x,aV σ b=some x->(φ b).2≠0->B (φ b).1)->
  V.aK.V.dI (lt k) args=true->∀vs:I Value,bb (cc φ w S) args vs->
  Calls P f vs.toArray w λe w'=>∃v r bq bu σ' N',e= .returned v/\Q r σ' N'/\cc bq w' bu r v/\r.aK (lt N')/\qO bq w' bu σ'/\(∀(b:Nat) x,aV σ' b=some x->b<N'/\x.aK (lt N'))/\Ext B S bu w w'/\
   (∀(b:Nat) x,aV σ' b=some x->(bq b).2≠0->B (bq b).1\/w.heap.size<=(bq b).1)/\∀b,b<k->bq b=φ b
theorem Ext.refl{B:Nat->Prop}:Ext B S S w w:=⟨rfl,rfl,rfl,ek _,λ_ _ _=>rfl,gN.refl _ _,λ_ _ h=>.inl h⟩
def fF:Nat->I V->Env
 |_,[]=>[]
 |i,v::vs=>(i,true,v)::fF (i+1) vs
theorem uc:∀{vs:I V} {i k:Nat} {g:J} {v:V},look (fF i vs) k=some (g,v)->g=true/\∃j,k=i+j/\vs[j]?=some v
 |[],i,k,g,v,h=>by grind[fF,look]
 |x::vs,i,k,g,v,h=>by
  simp[fF,look]at h;split at h;simp_all;obtain⟨h1,j,a,b⟩:=uc h;exact⟨h1,j+1,by omega,by grind⟩
def xS(a:Act):ResultVar->Sem Value
 |.tmp t=>Pure.pure (a.tmps.getD t undef)
 |.cell b ty=>do loadVar ty (<-asAddr (a.tmps.getD b undef))
theorem LI(fn:Func)(a:Act):results fn a.tmps=(fn.results.mapM (xS a)>>=λvs=>Pure.pure (if h:vs.size=1 then vs[0]else .tuple vs)):=by rfl
theorem abR(R:Rel aA nt φ S env σ n a w){e:ResultVar}{f:jm}(c:ir P [e]=some [f]){p:Prop}{v:V}(h:tT env σ f=some (p,v))(ar:p):
 ∃x,(xS a e).run P w= .ok x w/\cc φ w S v x/\v.aK n:=by
 cases e with
 |tmp t=>
  simp[ir]at c;subst c;simp only[tT,bF]at h;obtain⟨⟨g,v0⟩,ak,rfl,rfl⟩:=h;obtain⟨x,aa,d⟩:=R.gx t g v0 ak ar;refine⟨x,?_,d,R.gw t g v0 ak ar⟩;simp[xS,aa]
 |cell k ty=>
  simp only[ir,bw,bF]at c;obtain⟨g,av,l,ak,he⟩:=c;simp at ak;subst ak;simp at he;subst he;simp[tT]at h;split at h
  . rename_i m b o ak;split at h
    rename_i cs i;simp only[bF]at h;obtain⟨v0,r,rfl,rfl⟩:=h;obtain⟨x,aa,d⟩:=R.gx k m _ ak ar;have:=d.hr;obtain⟨_,vs,E,ad,q,_⟩:=R.bS.blk _ _ i;obtain⟨y,al,h1,s⟩:=uh av q (R.dT _ _ i).2 (λj _=>by rw[jd ad,ij]) r;simp_all[xS,asAddr];grind
  grind
theorem Ld(R:Rel aA nt φ S env σ n a w):∀{c:I ResultVar} {b:I jm} {p:Prop} {vs:I V},ir P c=some b->qi env σ b=some (p,vs)->p->
 ∃xs:I Value,(c.mapM (xS a)).run P w= .ok xs w/\bb (cc φ w S) vs xs/\V.aK.V.dI n vs=true
 |[],b,p,vs,f,h,ar=>by
  simp[ir]at f;subst f;obtain⟨_,rfl⟩:=h;exact⟨[],by rfl,.nil,rfl⟩
 |g::c,b,p,vs,f,h,ar=>by
  have l:∃d e,b=d::e/\ir P [g]=some [d]/\ir P c=some e:=by
   cases g with
   |tmp t=>
    grind[ir,bF]
   |cell r ty=>
    grind[ir,bw,bF]
  obtain⟨d,e,rfl,h1,i⟩:=l;simp only[qi,bw,bF]at h;obtain⟨⟨q,v⟩,j,⟨z,A⟩,k,he⟩:=h;obtain⟨rfl,rfl⟩:=he;obtain⟨x,aa,m,s⟩:=abR R h1 j ar.1;obtain⟨xs,y,o,u⟩:=Ld R i k ar.2;refine⟨x::xs,?_,.cons m o,by grind[V.aK.V.dI]⟩;simp_all
theorem cc.mE{xs:I Value}(h:bb (cc φ w S) vs xs):cc φ w S (mE vs) (if h:xs.toArray.size=1 then xs.toArray[0]else .tuple xs.toArray):=by
 cases h with
 |nil=>exact .bf [] [] rfl (by simp)
 |cons h1 a=>
  cases a with
  |nil=>grind[Shv.mE]
  |cons a c=>
   refine .bf _ _ (by simp[c.length]) ?_;intro i v x e aa;have:=(bb.cons h1 (.cons a c)).get e;grind
theorem aey(h:V.aK.V.dI n vs):(mE vs).aK n:=by
 unfold mE;grind[V.aK.V.dI,V.aK]
def F7(a:I jm)(Q:V->bg->Nat->Prop):Exit->Env->bg->Nat->Prop
 |.normal,env,σ,N=>∃p vs,qi env σ a=some (p,vs)/\p/\Q (mE vs) σ N
 |.ret,env,σ,N=>∃p vs,qi env σ a=some (p,vs)/\p/\Q (mE vs) σ N
 |_,_,_,_=>False
theorem eo.Hj{fn:Func}{A:Code}{c:dG}{y:I jm}(U:P.funcs[f]?=some fn)(F:fn.body=some A)(O:resolve P fn.ntmps A=some c)(G:ir P fn.results.toList=some y)
 {args:I V}(aI:args.length<=fn.ntmps){k:Nat}{Q:V->bg->Nat->Prop}(h:cH P fn.ntmps k c (fF 0 args) σ k (F7 y Q)):eo P f args σ k Q:=by
 intro φ S w B Z ap X an vs H;have ak:=H.length;refine calls_of_wp U F ?_;have R:Rel ⟨w,S,B,φ,k⟩ fn.ntmps φ S (fF 0 args) σ (lt k) {tmps:=vs.toArray++Array.replicate (fn.ntmps-vs.toArray.size) undef,defers:=[]} w:=by
  refine⟨Z,λi g v z av=>?_,λi g v z av=>?_,λi g v z av=>?_,λb x aa=>?_,?_,rfl,Ext.refl,λb x aa h0=>.inl (X b x aa h0),λ_ _=>rfl,λb F=>by grind[lt]⟩;obtain⟨_,j,rfl,W⟩:=uc z;obtain⟨x,aa,G⟩:=H.get W;grind;grind[uc];grind[uc,nn];grind[lt];grind
 refine wp_mono (h _ O _ φ S _ w rfl R) ?_
 rintro e ca w' ⟨bq,bu,env',σ',N',a,R'⟩
 have D:(∃ p vs,qi env' σ' y = some (p,vs)/\p/\Q (mE vs) σ' N')->ca.defers = []/\∃ v,(results fn ca.tmps).run P w' = .ok v w'/\(∃ K r o u t q,Ending.returned v = .returned K/\Q r t q/\cc o w' u r K/\r.aK (lt q)/\qO o w' u t/\(∀ (b:Nat) x,aV t b = some x->b<q/\x.aK (lt q))/\Ext B S u w w'/\
  (∀(b:Nat) x,aV t b=some x->(o b).2≠0->B (o b).1\/w.heap.size<=(o b).1)/\∀b,b<k->o b=φ b):=by
  rintro ⟨p,al,h1,E,L⟩;obtain⟨xs,ax,Y,N⟩:=Ld R' G h1 E;refine⟨R'.defers,_,?_,_,mE al,bq,bu,σ',N',rfl,L,cc.mE Y,aey N,R'.bS,λb x aa=>?_,R'.ext,R'.own,R'.fix⟩;simp_all[Array.mapM_eq_mapM_toList,LI];obtain⟨h1,E⟩:=R'.dT b x aa;grind[lt]
 cases e with
 |normal=>exact D a
 |ret=>exact D a
 |exit id=>exact a.elim
 |goto l=>exact a.elim
 |panic am=>exact a.elim
 |outgrown=>exact a.elim
end
end
open Go
def C.sh(k:Nat):C->C
 |.ptr b o=>.ptr (k+b) o
 |.cW b sz i o=>.cW (k+b) sz i o
 |.arr b sz off len=>.arr (k+b) sz off len
 |.gf b sz off len=>.gf (k+b) sz off len
 |.mp b=>.mp (k+b)
 |.eF b=>.eF (k+b)
 |.cN b len=>.cN (k+b) len
 |.fn f caps=>.fn f (caps.map (k+·))
 |c=>c
def V.sh(k:Nat):V->V
 |.c x=>.c (x.sh k)
 |.agg cs=>.agg (cs.map (C.sh k))
 |.bf vs=>.bf (go k vs)
where go (k:Nat):I V->I V
 |[]=>[]
 |v::vs=>v.sh k::go k vs
def b9.sh(k:Nat):b9->b9
 |.box cs=>.box (cs.map (C.sh k))
 |.arr sz es=>.arr sz es
 |.set ks=>.set ks
 |.buf E s=>.buf E s
 |.cm E c=>.cm E (c.sh k)
 |.cR sz es i o c=>.cR sz es i o (c.sh k)
def mT(σ:bg)(k:Nat):bg->bg
 |[]=>σ
 |(b,x)::r=>dn (mT σ k r) (k+b) (x.sh k)
variable{σ:bg}{K:V->bg->Prop}{f:Nat}{bq:dk}{Q:V->bg->Nat->Prop}
theorem AZ{k:Nat}:∀{a:bg} {b:Nat},aV (mT σ k a) b=match (if k<=b then aV a (b-k)else none)with|some x=>some (x.sh k)|none=>aV σ b
 |[],b=>by simp[mT,aV]
 |(c,x)::r,b=>by
  simp[mT,c9,AZ,aV];grind
section
variable {P:Program}{aA:Ctx}{nt kk:Nat}{φ:dk}{S bu:dm}{env:Env}{σ:bg}{N key:Nat}{n:Nat->J}{a:Act}{w w':World}
theorem h7.Vt{args:I V}{r:V}(h:eo P f args [] 0 (λc _ _=>c=r))(p:V.aK.V.dI (lt 0) args)(g:r.aK (lt 0))(bW:K r σ):h7 P f args σ key K:=by
 intro aA nt φ S env n a w R aI D vs q;refine(h φ S w (λ_=>False) ⟨λb x aa=>by grind[aV],λb t x y aa=>by grind[aV],R.bS.st⟩ (λb x aa=>by grind[aV]) (λb x aa=>by grind[aV]) p vs q).mono ?_
 rintro e w' ⟨v,c,bq,bu,σ',N',rfl,rfl,h1,u,j,z,o,A,B⟩;refine⟨v,c,φ,bu,σ,rfl,bW,?_,V.hJ (λb h=>by grind[lt]) g,(R.extend o j.st).more λ_ h=>ml h⟩;exact cc.mono (gN.refl _ _) (λb h=>by grind[lt]) g h1
theorem bD.sh{k:Nat}{n:Nat->J}(e:∀b,n b->bq (k+b)=φ b){c:C}{v:Value}(a:c.aK n)(h:bD φ w S c v):bD bq w S (c.sh k) v:=by
 cases c with
 |ptr b o=>grind[C.aK,C.sh,bD]
 |cW b sz i o=>grind[C.aK,C.sh,bD]
 |arr b sz off len=>grind[C.aK,C.sh,bD]
 |gf b sz off len=>grind[C.aK,C.sh,bD]
 |mp b=>grind[C.aK,C.sh,bD]
 |eF b=>grind[C.aK,C.sh,bD]
 |cN b len=>grind[C.aK,C.sh,bD]
 |fn f caps=>
  simp_all[C.aK,C.sh,bD]
 |_=>exact h
theorem MJ{k:Nat}:∀{vs:I V} {i:Nat},(V.sh.go k vs)[i]?=(vs[i]?).map (V.sh k)
 |[],i=>by rfl
 |v::vs,0=>by rfl
 |v::vs,i+1=>by simp[V.sh.go,MJ]
theorem Le{k:Nat}:∀{vs:I V},(V.sh.go k vs).length=vs.length
 |[]=>rfl
 |v::vs=>by simp[V.sh.go,Le]
theorem cc.sh{k:Nat}{n:Nat->J}(e:∀b,n b->bq (k+b)=φ b){v:V}{x:Value}(a:v.aK n)(h:cc φ w S v x):cc bq w S (v.sh k) x:=by
 induction h with
 |c h=>exact .c (bD.sh e (by grind[V.aK]) h)
 | @agg cs vs h=>
  simp[V.aK]at a;refine .agg ?_;have:=h.imp λc v f g=>bD.sh e (a c f) g;exact this.qo λ_ _ h=>h
 |bf vs xs ak h ih=>
  refine .bf _ xs (by grind[Le]) ?_;grind[MJ,nn,V.aK]
theorem C.sE{m:Nat}(a:m<=16){c:C}(h:c.aK (lt m)):(c.sh key).aK (eK n key):=by
 cases c<;>simp[C.sh,C.aK,lt,eK]at h⊢
 all_goals grind
theorem V.sE{m:Nat}(a:m<=16):∀{v:V},v.aK (lt m)->(v.sh key).aK (eK n key)=true
 |.c x,h=>by grind[V.sh,V.aK,C.sE]
 |.agg cs,h=>by grind[V.sh,V.aK,C.sE]
 |.bf vs,h=>by exact go vs h
where go:∀vs,V.aK.V.dI (lt m) vs->V.aK.V.dI _ (V.sh.go _ vs)=true
 |[],_=>rfl
 |v::vs,h=>by simp[V.sh.go,V.aK.V.dI,dh]at h⊢;exact⟨V.sE a h.1,go vs h.2⟩
theorem h7.aj7{args:I V}(h:eo P f args [] 0 Q)(B:V.aK.V.dI (lt 0) args)
 (bW:∀r σ' N',Q r σ' N'->N'<=16/\K (r.sh key) (mT σ key σ')):h7 P f args σ key K:=by
 intro aA nt φ S env n a w R aI bd vs a3;refine(h φ S w (λ_=>False) ⟨λb x aa=>by grind[aV],λb F x y aa=>by grind[aV],R.bS.st⟩ (λb x aa=>by grind[aV]) (λb x aa=>by grind[aV]) B vs a3).mono ?_
 rintro e w' ⟨v,a4,bq,bu,σ',N',rfl,a0,h1,Y,H,L,aD,a5,a9⟩
 obtain⟨ec,bW⟩:=bW _ _ _ a0;have ap:=R.extend aD H.st;let z:dk:=λb=>if key<=b/\b<key+16 then bq (b-key)else φ b
 have an:∀b,n b->z b=φ b:=by grind
 have u:∀b,lt N' b->z (key+b)=bq b:=by
  intro b B;simp only[lt,fI]at B;grind
 have t:=ap.u3 an;have D:∀b x,aV (mT σ key σ') b=some x->(∃c j,b=key+c/\aV σ' c=some j/\x=j.sh key)\/aV σ b=some x:=by
  grind[AZ]
 have U:∀c j,aV σ' c=some j->(z (key+c)).2≠0->w.heap.size<=(z (key+c)).1:=by grind
 have am:∀b x,aV σ b=some x->(z b).2≠0->(z b).1<w.heap.size:=by
  intro b x aa h0;rw[an b (R.dT b x aa).1]at h0⊢;exact(R.bS.blk b x aa).jG h0
 refine⟨v,a4.sh key,z,bu,mT σ key σ',rfl,bW,cc.sh u Y h1,V.sE ec Y,⟨⟨λb x aa=>?_,λb F x y aa al a1 h0 A=>?_,H.st⟩,t.gx,t.hl,λk g v ak av=>V.hJ (λ_ h=>ml h) (t.gw k g v ak av),λb x aa=>?_,t.size,t.defers,t.ext,λb x aa h0=>?_,t.fix,λb B=>ml (t.gS b B)⟩⟩
 . rcases D b x aa with⟨c,j,rfl,q,rfl⟩|aa
   . have cZ:=H.blk c j q;have O:=L c j q;have aJ:=u c (by grind[lt]);cases j with
     |box cs=>
      obtain⟨W,vs,E,k1,k2,k3⟩:=cZ;simp only[b9.sh,c8,aJ];refine⟨W,vs,E,k1,?_,k3⟩;have Z:=O.2;simp only[b9.aK,gk]at Z;have:=k2.imp λc v q a2=>bD.sh u (Z c q) a2;exact this.qo λ_ _ h=>h
     |arr sz es=>simp only[b9.sh,c8,aJ];exact cZ
     |set ks=>simp only[b9.sh,c8,aJ];exact cZ
     |buf E s=>simp only[b9.sh,c8,aJ];exact cZ
     |cm E c=>
      obtain⟨W,⟨p,v,k1,k2,k3⟩,k4⟩:=cZ;simp only[b9.sh,c8,aJ];exact⟨W,⟨p,v,k1,k2,bD.sh u (by simpa[b9.aK]using O.2) k3⟩,k4⟩
     |cR sz es i o c=>
      obtain⟨h1,⟨vs,E,k1,k2,k3,v,k4,k5⟩,k6⟩:=cZ;simp only[b9.sh,c8,aJ];exact⟨h1,⟨vs,E,k1,k2,k3,v,k4,bD.sh u (by simpa[b9.aK]using O.2) k5⟩,k6⟩
   exact t.bS.blk b x aa
 . rcases D b x aa with⟨c,j,rfl,q,rfl⟩|aa<;>rcases D F y al with⟨G,X,rfl,N,rfl⟩|al
   have aJ:=u c (by simp[lt];exact(L c j q).1);have ax:=u G (by simp[lt];exact(L G X N).1);rw[aJ]at h0⊢;rw[ax]at A⊢;exact H.inj c G j X q N (by omega) h0 A;have:=U c j q h0;have:=am F y al A;omega;have:=U G X N A;have:=am b x aa h0;omega;exact t.bS.inj b F x y aa al a1 h0 A
 . rcases D b x aa with⟨c,j,rfl,q,rfl⟩|aa
   . obtain⟨k1,k2⟩:=L c j q;refine⟨by simp[eK];right;omega,?_⟩;cases j with
     |box cs=>
      simp only[b9.sh,b9.aK,List.all_map,gk]at k2⊢;intro c q;exact C.sE ec (k2 c q)
     |arr sz es=>rfl
     |set ks=>rfl
     |buf E s=>rfl
     |cm E c=>exact C.sE ec k2
     |cR sz es i o c=>simp only[b9.sh,b9.aK]at k2⊢;exact C.sE ec k2
   obtain⟨k1,k2⟩:=t.dT b x aa;exact⟨ml k1,b9.hJ (λ_ h=>ml h) k2⟩
 . rcases D b x aa with⟨c,j,rfl,q,rfl⟩|aa
   exact .inr (hN R.ext.size (U c j q h0));exact t.own b x aa h0
end
theorem eo.mk{P:Program}{fn:Func}{c:dG}{a:I jm}(g:P.funcs[f]?=some fn)(e:fn.body.bind (resolve P fn.ntmps)=some c)(o:ir P fn.results.toList=some a)
 {args:I V}{nt:Nat}(j:fn.ntmps=nt)(aI:args.length<=nt){k:Nat}{Q:V->bg->Nat->Prop}(h:cH P nt k c (fF 0 args) σ k (F7 a Q)):eo P f args σ k Q:=by
 grind[bw,eo.Hj]
section
open Go
def C.cu(f:Nat->Nat):C->C
 |.ptr b o=>.ptr (f b) o
 |.cW b sz i o=>.cW (f b) sz i o
 |.arr b sz off len=>.arr (f b) sz off len
 |.gf b sz off len=>.gf (f b) sz off len
 |.mp b=>.mp (f b)
 |.eF b=>.eF (f b)
 |.cN b len=>.cN (f b) len
 |.fn g caps=>.fn g (caps.map f)
 |c=>c
def V.cu(f:Nat->Nat):V->V
 |.c x=>.c (x.cu f)
 |.agg cs=>.agg (cs.map (C.cu f))
 |.bf vs=>.bf (go f vs)
where go (f:Nat->Nat):I V->I V
 |[]=>[]
 |v::vs=>v.cu f::go f vs
def b9.cu(f:Nat->Nat):b9->b9
 |.box cs=>.box (cs.map (C.cu f))
 |.arr sz es=>.arr sz es
 |.set ks=>.set ks
 |.buf E s=>.buf E s
 |.cm E c=>.cm E (c.cu f)
 |.cR sz es i o c=>.cR sz es i o (c.cu f)
def po(σ:bg):ba->bg
 |[]=>σ
 |b::r=>hx (po σ r) b
variable{σ:bg}{f:Nat->Nat}{bs:ba}{bq:dk}{v:V}{Q:V->bg->Nat->Prop}{x:aS}{o:c0}{p:Prop}{K:Env->bg->Prop}
theorem rG:∀{bs:ba} {b:Nat},aV (po σ bs) b=if b∈bs then none else aV σ b
 |[],b=>by rfl
 |c::r,b=>by
  simp[po,fD,rG];grind
def back(bs:ba)(key:Nat)(b:Nat):Nat:=(bs[b]?).getD (key+(b-bs.length))
def hI(σ:bg)(bs:ba)(f:Nat->Nat):bg->bg
 |[]=>po σ bs
 |(b,x)::r=>dn (hI σ bs f r) (f b) (x.cu f)
theorem MK:∀{d:bg} {c:Nat} {x:b9},aV (hI σ bs f d) c=some x->(∃b a,c=f b/\aV d b=some a/\x=a.cu f)\/(c ∉ bs/\aV σ c=some x)
 |[],c,x,h=>by
  grind[hI,rG]
 |(b,y)::r,c,x,h=>by
  simp[hI,c9]at h;split at h;grind[aV]
  . rcases MK h with⟨e,a,h1,g,i⟩|h
    grind[aV];grind
section
variable {P:Program}{aA:Ctx}{nt kk:Nat}{φ:dk}{S bu:dm}{env:Env}{σ:bg}{N key:Nat}{n:Nat->J}{a:Act}{w w':World}{f:Nat->Nat}
theorem bD.cu{n:Nat->J}(e:∀b,n b->bq (f b)=φ b){c:C}{v:Value}(a:c.aK n)(h:bD φ w S c v):bD bq w S (c.cu f) v:=by
 cases c with
 |ptr b o=>grind[C.aK,C.cu,bD]
 |cW b sz i o=>grind[C.aK,C.cu,bD]
 |arr b sz off len=>grind[C.aK,C.cu,bD]
 |gf b sz off len=>grind[C.aK,C.cu,bD]
 |mp b=>grind[C.aK,C.cu,bD]
 |eF b=>grind[C.aK,C.cu,bD]
 |cN b len=>grind[C.aK,C.cu,bD]
 |fn g caps=>
  simp_all[C.aK,C.cu,bD]
 |_=>exact h
theorem Iz:∀{vs:I V} {i:Nat},(V.cu.go f vs)[i]?=(vs[i]?).map (V.cu f)
 |[],i=>by rfl
 |v::vs,0=>by rfl
 |v::vs,i+1=>by simp[V.cu.go,Iz]
theorem Ih:∀{vs:I V},(V.cu.go f vs).length=vs.length
 |[]=>rfl
 |v::vs=>by simp[V.cu.go,Ih]
theorem cc.cu{n:Nat->J}(e:∀b,n b->bq (f b)=φ b){x:Value}(a:v.aK n)(h:cc φ w S v x):cc bq w S (v.cu f) x:=by
 induction h with
 |c h=>exact .c (bD.cu e (by grind[V.aK]) h)
 | @agg cs vs h=>
  simp[V.aK]at a;refine .agg ?_;have:=h.imp λc v g j=>bD.cu e (a c g) j;exact this.qo λ_ _ h=>h
 |bf vs xs ak h ih=>
  refine .bf _ xs (by grind[Ih]) ?_;grind[Iz,nn,V.aK]
theorem C.sk{n m:Nat->J}(a:∀b,m b->n (f b)){c:C}(h:c.aK m):(c.cu f).aK n:=by
 cases c<;>simp[C.cu,C.aK]at h⊢
 all_goals grind
theorem V.sk{n m:Nat->J}(a:∀b,m b->n (f b)):∀{v:V},v.aK m->(v.cu f).aK n=true
 |.c x,h=>by grind[V.cu,V.aK,C.sk]
 |.agg cs,h=>by grind[V.cu,V.aK,C.sk]
 |.bf vs,h=>by exact go vs h
where go:∀vs,V.aK.V.dI m vs->V.aK.V.dI n (V.cu.go f vs)=true
 |[],_=>rfl
 |v::vs,h=>by simp[V.cu.go,V.aK.V.dI,dh]at h⊢;exact⟨V.sk a h.1,go vs h.2⟩
theorem Rel.ajq{B:Nat->Prop}(R:Rel aA nt φ S env σ n a w)(e:Ext B S bu w w')(N:∀b j,bu b j->b<w'.heap.size)(L:∀b x,aV σ b=some x->(φ b).2≠0->¬B (φ b).1)(cZ:∀b,B b->aA.B b\/aA.mH.heap.size<=b):Rel aA nt φ bu env σ n a w':=by
 have ad:=λb x aa h0=>e.block _ ((R.bS.blk b x aa).jG h0) (L b x aa h0);have z:∀b x,aV σ b=some x->(φ b).2≠0->∀j,¬bu (φ b).1 j:=by
  intro b x aa h0 j G;have q:=R.bS.blk b x aa;rcases e.lQ _ _ G with h|h|h;exact q.qq h0 j h;grind;grind
 refine⟨⟨λb x aa=>?_,R.bS.inj,N⟩,λk g v ak av=>?_,R.hl,R.gw,R.dT,R.size,R.defers,?_,R.own,R.fix,R.gS⟩
 . have q:=R.bS.blk b x aa;cases x with
   |box cs=>
    obtain⟨h0,vs,E,h1,f,u⟩:=q;refine⟨h0,vs,E,(ad _ _ aa h0).trans h1,f.imp λc v O y=>bD.mono e.mono (λ_ _=>rfl) (C.mU _) y,z b _ aa h0⟩
   |arr sz es=>
    obtain⟨h1,f,u,A,F⟩:=q;refine⟨h1,f,u,A,λh0=>?_⟩;obtain⟨vs,E,k1,k2,k3,k4⟩:=F h0;exact⟨vs,E,(ad _ _ aa h0).trans k1,k2,λi j D t he ht=>let⟨v,H,y⟩:=k3 i j D t he ht;⟨v,H,b6.mono e.mono y⟩,z b _ aa h0⟩
   |set ks=>
    obtain⟨h0,⟨es,c,h1,f⟩,u⟩:=q;exact⟨h0,⟨es,c,(ad _ _ aa h0).trans h1,f⟩,z b _ aa h0⟩
   |buf E s=>
    obtain⟨h1,f,u⟩:=q;refine⟨h1,f,λh0=>?_⟩;grind
   |cm E c=>
    obtain⟨h0,⟨p,v,h1,f,u⟩,A⟩:=q;exact⟨h0,⟨p,v,(ad _ _ aa h0).trans h1,f,bD.mono e.mono (λ_ _=>rfl) (C.mU _) u⟩,z b _ aa h0⟩
   |cR sz es i o c=>
    obtain⟨⟨h1,f,u,A,F,K⟩,⟨vs,E,k1,k2,k3,v,k4,k5⟩,k6⟩:=q;exact⟨⟨h1,f,u,A,F,K⟩,⟨vs,E,(ad _ _ aa (by omega)).trans k1,k2,λi j D t he ht aI=>let⟨v,H,y⟩:=k3 i j D t he ht aI;⟨v,H,b6.mono e.mono y⟩,v,k4,bD.mono e.mono (λ_ _=>rfl) (C.mU _) k5⟩,z b _ aa (by omega)⟩
 obtain⟨x,aa,y⟩:=R.gx k g v ak av;exact⟨x,aa,cc.mono e.mono (λ_ _=>rfl) (R.gw k g v ak av) y⟩
 . refine⟨e.os.trans R.ext.os,e.tape.trans R.ext.tape,e.output.trans R.ext.output,hN R.ext.size e.size,λb aD q=>?_,R.ext.mono.trans e.mono,λb j G=>?_⟩
   refine(e.block b (jD aD R.ext.size) λh=>?_).trans (R.ext.block b aD q);grind
   . rcases e.lQ _ _ G with h|h|h
     exact R.ext.lQ b j h;grind;exact .inr (.inr (hN R.ext.size h))
theorem h7.raw {fn:Nat}{args:I V}{bs:ba}{Q:V->bg->Nat->Prop}(cd:bs.Nodup)(aD:∀b,b∈bs->b<key)(h:eo P fn (args.map (V.b8 bs)) (fV bs σ 0 bs) bs.length Q){K:V->bg->Prop}
 (bW:∀r σ' N',Q r σ' N'->N'<=bs.length+16/\K (r.cu (back bs key)) (hI σ bs (back bs key) σ')):(∀b,b∈bs->n b)->∀aA nt φ S env a w,Rel aA nt φ S env σ n a w->(∀b,key<=b->b<key+16->n b=false)->V.aK.V.dI n args->∀vs:I Value,bb (cc φ w S) args vs->
 Calls P fn vs.toArray w λe w'=>∃v r bq bu σ',e= .returned v/\K r σ'/\cc bq w' bu r v/\r.aK (eK n key)/\Rel aA nt bq bu env σ' (eK n key) a w':=by
 intro q aA nt φ S env a w R aI eq vs c5;let ap:dk:=λi=>φ ((bs[i]?).getD 0);have an:∀(i:Nat) b,bs[i]?=some b->ap i=φ b:=by grind
 let B:Nat->Prop:=λbe=>∃b x,b∈bs/\aV σ b=some x/\(φ b).2≠0/\be=(φ b).1;have am:∀b x,aV (fV bs σ 0 bs) b=some x->∃c f,bs[b]?=some c/\aV σ c=some f/\x=f.b8 bs:=by
  grind[pU]
 have cV:qO ap w S (fV bs σ 0 bs):=by
  refine⟨λb x aa=>?_,λb u x y aa al a0 h0 z=>?_,R.bS.st⟩;obtain⟨c,f,F,D,rfl⟩:=am b x aa;exact c8.b8 an F (R.bS.blk c f D)
  . obtain⟨c,f,F,D,rfl⟩:=am b x aa;obtain⟨H,Y,bU,b0,rfl⟩:=am u y al;rw[an b c F]at h0⊢;rw[an u H bU]at z⊢;refine R.bS.inj c H f Y D b0 ?_ h0 z;grind[List.getElem?_eq_some_iff,List.pairwise_iff_getElem]
 have b5:bb (cc ap w S) (args.map (V.b8 bs)) vs:=c5.qo λ_ _=>cc.b8 an;have ca:V.aK.V.dI (lt bs.length) (args.map (V.b8 bs)):=by
  simp_all[tY,qu,bF,V.j6]
 refine(h ap S w B cV (λb x aa=>?_) (λb x aa h0=>?_) ca vs b5).mono ?_
 . obtain⟨c,f,F,D,rfl⟩:=am b x aa;refine⟨(ed.1 F).1,?_⟩;cases f with
   |box cs=>grind[b9.b8,b9.aK,List.all_map,List.all_eq_true,C.j6]
   |arr sz es=>rfl
   |set ks=>rfl
   |buf E s=>rfl
   |cm E c=>exact C.j6 c
   |cR sz es i o c=>exact C.j6 c
 grind;rintro e w' ⟨v,ds,bq,bu,σ',N',rfl,b2,h1,F,D,L,b1,dt,dw⟩
 obtain⟨ec,bW⟩:=bW _ _ _ b2;have a3:∀b,B b->aA.B b\/aA.mH.heap.size<=b:=by
  rintro be ⟨b,x,_,aa,h0,rfl⟩;exact R.own b x aa h0
 have bi:Rel aA nt φ S env (po σ bs) n a w:=by
  have X:∀b x,aV (po σ bs) b=some x->b ∉ bs/\aV σ b=some x:=by
   grind[rG]
  exact⟨⟨λb x aa=>R.bS.blk b x (X b x aa).2,λb u x y aa al=>R.bS.inj b u x y (X b x aa).2 (X u y al).2,R.bS.st⟩,R.gx,R.hl,R.gw,λb x aa=>R.dT b x (X b x aa).2,R.size,R.defers,R.ext,λb x aa=>R.own b x (X b x aa).2,R.fix,R.gS⟩
 have ce:∀b x,b ∉ bs->aV σ b=some x->(φ b).2≠0->¬B (φ b).1:=by
  rintro b x q aa h0 ⟨c,y,j,al,z,he⟩;exact R.bS.inj b c x y aa al (λe=>q (e▸j)) h0 z he
 have bv:=bi.ajq b1 D.st (λb x aa h0=>by
  grind[rG]) a3
 let A:dk:=λb=>if key<=b/\b<key+16 then bq (bs.length+(b-key))else φ b
 have bd:∀b,n b->A b=φ b:=by grind
 have G:∀b,lt N' b->A (back bs key b)=bq b:=by
  intro b N;simp only[lt,fI]at N;unfold back;grind
 have W:∀b,lt N' b->eK n key (back bs key b):=by
  intro b N;simp only[lt,fI]at N;unfold back;cases av:bs[b]? with
  |some c=>exact ml (q c (fr av))
  |none=>
   simp only[Option.getD_none,eK,lN,dh,fI];right;omega
 have t:=bv.u3 bd;have U:∀b x,aV (hI σ bs (back bs key) σ') b=some x->(∃c f,b=back bs key c/\aV σ' c=some f/\x=f.cu (back bs key))\/(b ∉ bs/\aV σ b=some x):=λb x aa=>MK aa;have O:∀b x,b ∉ bs->aV σ b=some x->aV (po σ bs) b=some x:=by simp_all[rG,au]
 have a1:∀c f,aV σ' c=some f->(A (back bs key c)).2≠0->B (A (back bs key c)).1\/w.heap.size<=(A (back bs key c)).1:=by
  intro c f j h0;rw[G c (by simp[lt];exact(L c f j).1)]at h0⊢;grind
 have a9:∀b x,b ∉ bs->aV σ b=some x->(A b).2≠0->(A b).1<w.heap.size/\¬B (A b).1:=by
  intro b x q aa h0;rw[bd b (R.dT b x aa).1]at h0⊢;exact⟨(R.bS.blk b x aa).jG h0,ce b x q aa h0⟩
 refine⟨v,ds.cu (back bs key),A,bu,hI σ bs (back bs key) σ',rfl,bW,cc.cu G F h1,V.sk W F,⟨⟨λb x aa=>?_,λb u x y aa al a0 h0 z=>?_,D.st⟩,t.gx,t.hl,λk g v ak av=>V.hJ (λ_ h=>ml h) (t.gw k g v ak av),λb x aa=>?_,t.size,t.defers,t.ext,λb x aa h0=>?_,t.fix,λb N=>ml (t.gS b N)⟩⟩
 . rcases U b x aa with⟨c,f,rfl,j,rfl⟩|⟨q,aa⟩
   . have cZ:=D.blk c f j;have Z:=L c f j;have aJ:=G c (by simp[lt];exact Z.1);cases f with
     |box cs=>
      obtain⟨a2,vs,E,k1,k2,k3⟩:=cZ;simp only[b9.cu,c8,aJ];refine⟨a2,vs,E,k1,?_,k3⟩;have a4:=Z.2;simp only[b9.aK,gk]at a4;have:=k2.imp (R':=λc v=>bD A w' bu (C.cu (back bs key) c) v) λc v j ci=>bD.cu G (a4 c j) ci;exact this.qo λ_ _ h=>h
     |arr sz es=>simp only[b9.cu,c8,aJ];exact cZ
     |set ks=>simp only[b9.cu,c8,aJ];exact cZ
     |buf E s=>simp only[b9.cu,c8,aJ];exact cZ
     |cm E c=>
      obtain⟨a2,⟨p,v,k1,k2,k3⟩,k4⟩:=cZ;simp only[b9.cu,c8,aJ];exact⟨a2,⟨p,v,k1,k2,bD.cu G (by simpa[b9.aK]using Z.2) k3⟩,k4⟩
     |cR sz es i o c=>
      obtain⟨h1,⟨vs,E,k1,k2,k3,v,k4,k5⟩,k6⟩:=cZ;simp only[b9.cu,c8,aJ];exact⟨h1,⟨vs,E,k1,k2,k3,v,k4,bD.cu G (by simpa[b9.aK]using Z.2) k5⟩,k6⟩
   exact t.bS.blk b x (O b x q aa)
 . rcases U b x aa with⟨c,f,rfl,j,rfl⟩|⟨q,aa⟩<;>rcases U u y al with⟨H,Y,rfl,ax,rfl⟩|⟨a5,al⟩
   have aJ:=G c (by simp[lt];exact(L c f j).1);have bz:=G H (by simp[lt];exact(L H Y ax).1);rw[aJ]at h0⊢;rw[bz]at z⊢;exact D.inj c H f Y j ax (by rintro rfl;exact a0 rfl) h0 z
   . obtain⟨k1,k2⟩:=a9 u y a5 al z;rcases a1 c f j h0 with h|h
     intro e;rw[e]at h;exact k2 h;omega
   . obtain⟨k1,k2⟩:=a9 b x q aa h0;rcases a1 H Y ax z with h|h
     intro e;rw[<-e]at h;exact k2 h;omega
   exact t.bS.inj b u x y (O b x q aa) (O u y a5 al) a0 h0 z
 . rcases U b x aa with⟨c,f,rfl,j,rfl⟩|⟨q,aa⟩
   . obtain⟨k1,k2⟩:=L c f j;refine⟨W c (by simp[lt];exact k1),?_⟩;cases f with
     |box cs=>
      simp only[b9.cu,b9.aK,List.all_map,gk]at k2⊢;intro c j;exact C.sk W (k2 c j)
     |arr sz es=>rfl
     |set ks=>rfl
     |buf E s=>rfl
     |cm E c=>simp only[b9.cu,b9.aK]at k2⊢;exact C.sk W k2
     |cR sz es i o c=>simp only[b9.cu,b9.aK]at k2⊢;exact C.sk W k2
   obtain⟨k1,k2⟩:=t.dT b x (O b x q aa);exact⟨ml k1,b9.hJ (λ_ h=>ml h) k2⟩
 . rcases U b x aa with⟨c,f,rfl,j,rfl⟩|⟨q,aa⟩
   . rcases a1 c f j h0 with h|h
     exact a3 _ h;exact .inr (hN R.ext.size h)
   exact t.own b x (O b x q aa) h0
theorem h7.aj8{fn:Nat}{args:I V}(cd:bs.Nodup)(aD:∀b,b∈bs->b<key)(e:∀b,b∈bs->∃x,aV σ b=some x)(h:eo P fn (args.map (V.b8 bs)) (fV bs σ 0 bs) bs.length Q){K:V->bg->Prop}
 (bW:∀r σ' N',Q r σ' N'->N'<=bs.length+16/\K (r.cu (back bs key)) (hI σ bs (back bs key) σ')):h7 P fn args σ key K:=by
 intro aA nt φ S env n a w R aI c vs f;exact h7.raw cd aD h bW (λb c=>let⟨x,aa⟩:=e b c;(R.dT b x aa).1) aA nt φ S _ a w R aI c vs f
theorem Lf:∀{l:ba} {i:Nat} {σ σ':bg},(∀b,b∈l->aV σ' b=aV σ b)->fV bs σ' i l=fV bs σ i l
 |[],i,σ,σ',h=>rfl
 |b::r,i,σ,σ',h=>by
  simp[fV];rw[h b (by simp),Lf λc a=>h c (by grind)]
theorem Lg:∀{a:bg} {σ σ':bg} {c:Nat},(aV (po σ' bs) c=aV (po σ bs) c)->aV (hI σ' bs f a) c=aV (hI σ bs f a) c
 |[],σ,σ',c,h=>h
 |(b,x)::r,σ,σ',c,h=>by
  simp[hI,c9];split;rfl;exact Lg h
theorem HY{key:Nat}:∀{f:bg} {σ:bg} {c:Nat},f.all (λx=>(x.1<bs.length+16:J))->c ∉ bs->¬(key<=c/\c<key+16)->aV (hI σ bs (back bs key) f) c=aV σ c
 |[],σ,c,a,d,e=>by grind[hI,rG]
 |(b,x)::r,σ,c,a,d,e=>by
  simp only[kB,dh]at a;simp[hI,c9];rw[au ?_];exact HY a.2 d e;grind[back]
end
variable {xb:ba}
section
variable {P:Program}{aA:Ctx}{nt kk:Nat}{φ:dk}{S:dm}{env env':Env}{σ σ' σ1:bg}{N key:Nat}{n:Nat->J}{a:Act}{w:World}
theorem dF(h:∀t,t∈x.tmps->look env' t=look env t):x.get env'=x.get env:=by
 cases x with
 |const v=>rfl
 |tmp t=>grind[aS.get,aS.tmps]
theorem A0{xs:I aS}(h:∀t,t∈xs.flatMap aS.tmps->look env' t=look env t):h2 env' xs=h2 env xs:=by
 induction xs with
 |nil=>rfl
 |cons x xs ih=>
  grind[h2,dF]
theorem A1{x:ag aS}(h:∀t,t∈uQ x->look env' t=look env t):j0 env' x=j0 env x:=by
 cases x with
 |none=>rfl
 |some x=>simp[j0];rw[dF h]
theorem KP:∀{ps:I (Nat×Nat×aS)} {cs:I C},(∀t,t∈(ps.flatMap λp=>p.2.2.tmps)->look env' t=look env t)->lv env' cs ps=lv env cs ps
 |[],cs,h=>rfl
 |(o,k,x)::r,cs,h=>by
  simp[lv];rw[dF (λt ht=>h t (by grind))];congr 1;funext a;congr 1;funext c;split;rw[KP (λt ht=>h t (by grind))];rfl
theorem Ii{sz:Nat}:∀{ps:I (Nat×aS)} {es:I (I T)},(∀t,t∈(ps.flatMap λp=>p.2.tmps)->look env' t=look env t)->jU env' sz es ps=jU env sz es ps
 |[],cs,h=>rfl
 |(i,x)::r,es,h=>by
  simp[jU];rw[dF (λt ht=>h t (by grind))];congr 1;funext a;congr 1;funext c;congr 1;funext ts;split;rw[Ii (λt ht=>h t (by grind))];rfl
theorem aez(h:∀t,t∈o.reads->look env' t=look env t):aQ o env' σ key=aQ o env σ key:=by
 cases o<;>simp only[c0.reads,iB]at h
 case mov x=>simp only[aQ];rw[dF h]
 case pick c x y=>grind[aQ,dF]
 case alloc=>rfl
 case box x=>simp only[aQ];rw[dF h]
 case allocA=>rfl
 case b2s x=>simp only[aQ];rw[dF h]
 case allocS=>rfl
 case mkset=>rfl
 case bsliceT e sz len z ps=>simp only[aQ];congr 1;funext a;rw[Ii h]
 case lkset x y=>simp only[aQ];rw[dF λt ht=>h t (.inl ht),dF λt ht=>h t (.inr ht)]
 case upset x y=>simp only[aQ];rw[dF λt ht=>h t (.inl ht),dF λt ht=>h t (.inr ht)]
 case appendB e k x y=>simp only[aQ];rw[dF λt ht=>h t (.inl ht),dF λt ht=>h t (.inr ht)]
 case sdata x=>simp only[aQ];rw[dF h]
 case ustr e x y=>simp only[aQ];rw[dF λt ht=>h t (.inl ht),dF λt ht=>h t (.inr ht)]
 case idxP k x y=>simp only[aQ];rw[dF λt ht=>h t (.inl ht),dF λt ht=>h t (.inr ht)]
 case slcP k x l i=>simp only[aQ];rw[dF λt ht=>h t (.inl (.inl ht)),A1 λt ht=>h t (.inl (.inr ht)),A1 λt ht=>h t (.inr ht)]
 case build z ps=>simp only[aQ];rw[KP h]
 case bslice sz len z ps=>simp only[aQ];congr 1;funext a;rw[Ii h]
 case load g k x=>simp only[aQ];rw[dF h]
 case store k x v=>simp only[aQ];rw[dF λt ht=>h t (.inl ht),dF λt ht=>h t (.inr ht)]
 case nilCheck x=>simp only[aQ];rw[dF h]
 case bin op x y=>simp only[aQ];rw[dF λt ht=>h t (.inl ht),dF λt ht=>h t (.inr ht)]
 case eqAgg op ks x y=>simp only[aQ];rw[dF λt ht=>h t (.inl ht),dF λt ht=>h t (.inr ht)]
 case eqBool op x y=>simp only[aQ];rw[dF λt ht=>h t (.inl ht),dF λt ht=>h t (.inr ht)]
 case eqNil=>rfl
 case not x=>simp only[aQ];rw[dF h]
 case conv k x=>simp only[aQ];rw[dF h]
 case i2s x=>simp only[aQ];rw[dF h]
 case s2s x=>simp only[aQ];rw[dF h]
 case fldA k x=>simp only[aQ];rw[dF h]
 case fld g k m x=>simp only[aQ];rw[dF h]
 case idxA op x y=>simp only[aQ];rw[dF λt ht=>h t (.inl ht),dF λt ht=>h t (.inr ht)]
 case idxV op x y=>simp only[aQ];rw[dF λt ht=>h t (.inl ht),dF λt ht=>h t (.inr ht)]
 case mslice op _ z x=>simp only[aQ];rw[dF h]
 case idxS x y=>simp only[aQ];rw[dF λt ht=>h t (.inl ht),dF λt ht=>h t (.inr ht)]
 case slcS x l i=>simp only[aQ];rw[dF λt ht=>h t (.inl (.inl ht)),A1 λt ht=>h t (.inl (.inr ht)),A1 λt ht=>h t (.inr ht)]
 case slc k x l i=>grind[aQ,dF,A1]
 case slc0 x=>simp only[aQ];rw[dF h]
 case mkfn f xs=>simp only[aQ];rw[A0 h]
 case ext x i=>simp only[aQ];rw[dF h]
 case len s x=>grind[aQ,dF]
 case append te sz by' x y=>simp only[aQ];rw[dF λt ht=>h t (.inl ht),dF λt ht=>h t (.inr ht)]
 case max2 x y=>simp only[aQ];rw[dF λt ht=>h t (.inl ht),dF λt ht=>h t (.inr ht)]
 case min2 x y=>grind[aQ,dF]
 case call=>rfl
 rfl
def ep(env:Env)(x:aS):ba:=
 match x.get env with
 |some (_,.c (.ptr b _))=>[b]
 |some (_,.c (.cW b _ _ _))=>[b]
 |some (_,.c (.arr b _ _ _))=>[b]
 |some (_,.c (.gf b _ _ _))=>[b]
 |some (_,.c (.mp b))=>[b]
 |some (_,.c (.eF b))=>[b]
 |some (_,.c (.cN b _))=>[b]
 |_=>[]
def C.gq:C->ba
 |.ptr b _|.cW b _ _ _|.arr b _ _ _|.gf b _ _ _|.mp b|.eF b|.cN b _=>[b]
 |.fn _ caps=>caps
 |_=>[]
def V.gq:V->ba
 |.c x=>x.gq
 |.agg cs=>cs.flatMap C.gq
 |.bf _=>[]
def lp(env:Env)(args:I aS):ba:=
 args.flatMap λx=>match x.get env with
  |some (_,v)=>v.gq
  |none=>[]
def ew(xb:ba)(o:c0)(env:Env)(key:Nat):ba:=
 match o with
 |.alloc _|.allocA _|.box _|.bslice .. |.mslice .. |.mkset=>[key]
 |.allocS .. =>[key,key+1]
 |.lkset x _=>ep env x
 |.upset x _=>ep env x
 |.appendB _ _ x _=>key::ep env x
 |.ustr _ x _=>ep env x
 |.call _ args=>(List.range 16).map (key+·)++(lp env args++xb)
 |.load _ _ x=>ep env x
 |.b2s x=>ep env x
 |.store _ x _=>ep env x
 |.append _ _ _ x y=>key::(ep env x++ep env y)
 |_=>[]
def cT(xb:ba)(o:c0)(env:Env)(key b:Nat):J:=
 match o with
 |.alloc _|.allocA _|.box _|.bslice .. |.mslice .. |.mkset=>b==key
 |.allocS .. =>b==key||b==key+1
 |.upset x _=>(ep env x).contains b
 |.appendB _ _ x _=>b==key||(ep env x).contains b
 |.ustr _ x _=>(ep env x).contains b
 |.store _ x _=>(ep env x).contains b
 |.append _ _ _ x _=>b==key||(ep env x).contains b
 |.call _ args=>((key<=b:J)&&(b<key+16:J))||(lp env args++xb).contains b
 |_=>false
theorem abS(aI:o.cE)(ht:o.il=false){p v σ1}(a:aQ o env σ key=some (p,v,σ1)):aQ o env σ' key=some (p,v,σ'):=by
 cases o<;>simp only[c0.cE,c0.il,reduceCtorEq]at aI ht<;>simp only[aQ,bw,bF]at a⊢
 all_goals
  (try (obtain⟨a1,h1,a⟩:=a;refine⟨a1,h1,?_⟩))
  (try (obtain⟨a2,b,a⟩:=a;refine⟨a2,b,?_⟩))
  (try (obtain⟨a3,c,a⟩:=a;refine⟨a3,c,?_⟩))
  (try split at a)
  (try (done))
 all_goals first
  |(cases a;rfl)
  |(cases a;done)
  |(exact⟨x,h1,b,c,rfl⟩)
  |(simp only[bF]at a⊢;obtain⟨x,h1,b⟩:=a;simp only[eg]at b⊢;exact⟨x,h1,b.1,b.2.1,trivial⟩)
  |(simp only[eM,dW,eg]at a⊢;exact⟨a.1,a.2.1,a.2.2.1,trivial⟩)
theorem O9{b:Nat}(h:x.get env=some (p,.c (.mp b))):ep env x=[b]:=by grind[ep]
theorem ab2{b:Nat}(h:x.get env=some (p,.c (.eF b))):ep env x=[b]:=by grind[ep]
theorem LJ{b l:Nat}(h:x.get env=some (p,.c (.cN b l))):ep env x=[b]:=by grind[ep]
theorem ML{b o:Nat}(h:x.get env=some (p,.c (.ptr b o))):ep env x=[b]:=by grind[ep]
theorem LK{b sz i o:Nat}(h:x.get env=some (p,.c (.cW b sz i o))):ep env x=[b]:=by grind[ep]
theorem ad'{b sz i o:Nat}(h:x.get env=some (p,.c (.gf b sz i o))):ep env x=[b]:=by grind[ep]
theorem Fg{b sz i o:Nat}(h:x.get env=some (p,.c (.arr b sz i o))):ep env x=[b]:=by grind[ep]
theorem ab3{p v}(a:aQ o env σ key=some (p,v,σ1))(ht:∀b,b∈ew xb o env key->aV σ' b=aV σ b):
 (∃bz,aQ o env σ' key=some (p,v,bz)/\∀b,aV bz b=if cT xb o env key b then aV σ1 b else aV σ' b)/\∀b,cT xb o env key b=false->aV σ1 b=aV σ b:=by
 by_cases J:o.cE/\o.il=false
 . have aa:∀b,cT xb o env key b=false:=by intro b;cases o<;>simp only[c0.cE,c0.il,reduceCtorEq,cx,false_and,qt,and_self]at J<;>rfl
   have:=zY J.1 a;subst this;exact⟨⟨σ',abS J.1 J.2 a,λb=>by grind⟩,λb _=>rfl⟩
 . cases o<;>simp only[c0.cE,c0.il,reduceCtorEq,cx,false_and,qt,and_self,not_true,Hg]at J
   case alloc cs=>
    simp only[aQ,dW,eg]at a⊢;obtain⟨rfl,rfl,rfl⟩:=a;refine⟨⟨_,⟨rfl,rfl,rfl⟩,λb=>?_⟩,λb f=>?_⟩;simp only[c9,cT,iS];grind;simp_all[cT,ky,c9,au,dN]
   case allocA cs=>
    simp only[aQ,bF,eg]at a⊢;obtain⟨ts,Y,rfl,rfl,rfl⟩:=a;refine⟨⟨_,⟨ts,Y,rfl,rfl,rfl⟩,λb=>?_⟩,λb f=>?_⟩;simp only[c9,cT,iS];grind;simp_all[cT,ky,c9,au,dN]
   case b2s x=>
    simp only[aQ,bw,bF,eg]at a⊢;obtain⟨⟨n,v0⟩,h1,⟨q,s⟩,j,rfl,rfl,rfl⟩:=a;refine⟨⟨σ',⟨(n,v0),h1,(q,s),?_,rfl,rfl,rfl⟩,λb=>rfl⟩,λb _=>rfl⟩;dsimp only at j⊢;unfold nZ at j⊢;split at j;grind;grind;rename_i b off len;rw[ht b (by simp[ew,Fg h1])];grind;rename_i b off len;rw[ht b (by simp[ew,ad' h1])];grind;grind
   case box x=>
    simp only[aQ,bw,bF,eg]at a⊢;obtain⟨K,h1,cs,j,rfl,rfl,rfl⟩:=a;refine⟨⟨_,⟨K,h1,cs,j,rfl,rfl,rfl⟩,λb=>?_⟩,λb f=>?_⟩;simp only[c9,cT,iS];grind;simp_all[cT,ky,c9,au,dN]
   case bslice sz len z ps=>
    simp only[aQ,bw,bF,eg]at a⊢;obtain⟨K,h1,cs,j,rfl,rfl,rfl⟩:=a;refine⟨⟨_,⟨K,h1,cs,j,rfl,rfl,rfl⟩,λb=>?_⟩,λb f=>?_⟩;simp only[c9,cT,iS];grind;simp_all[cT,ky,c9,au,dN]
   case mslice sz by' z x=>
    simp only[aQ,bw]at a⊢;obtain⟨K,h1,cs,j,a⟩:=a;split at a
    . rename_i he;simp only[dW,eg]at a;obtain⟨rfl,rfl,rfl⟩:=a;refine⟨⟨_,⟨K,h1,cs,j,by rw[he]⟩,λb=>?_⟩,λb f=>?_⟩
      simp only[c9,cT,iS];grind;simp_all[cT,ky,c9,au,dN]
    cases a
   case load g k x=>
    have:=zY rfl a;subst this;refine⟨⟨σ',?_,λb=>rfl⟩,λb _=>rfl⟩;simp only[aQ,bw]at a⊢;obtain⟨⟨n,v0⟩,h1,a⟩:=a;refine⟨(n,v0),h1,?_⟩;dsimp only at a⊢;split at a
    . rename_i b o;rw[ht b (by simp[ew,ML h1])];split at a
      all_goals simp_all
    . rename_i b sz i o;rw[ht b (by simp[ew,LK h1])];split at a
      simp_all
      . split at a
        grind
        . rename_i av;split at a
          all_goals simp_all
      grind
    all_goals simp_all
   case store k x y=>
    simp only[aQ,bw,eM]at a⊢;obtain⟨⟨n,v0⟩,h1,d,j,cs,B,G,a⟩:=a;have F:∀(b:Nat) (Q:b9),ep env x=[b]->σ1=dn σ b Q->(∀c,aV (dn σ' b Q) c=if cT xb (.store k x y) env key c then aV σ1 c else aV σ' c)/\∀c,cT xb (.store k x y) env key c=false->aV σ1 c=aV σ c:=by
     intro b Q f hs;subst hs;refine⟨λc=>?_,λc l=>?_⟩;simp only[cT,f,lf,j4,iC,iS,c9];grind;simp only[cT,f,lf,j4,iC,ky]at l;rw[c9,au (dN l)]
    dsimp only at a⊢;split at a
    . rename_i b o;have f:=ML h1;split at a
      rename_i ds N;simp only[eM,dW,eg]at a;obtain⟨I,rfl,rfl,C⟩:=a;obtain⟨f1,f2⟩:=F b _ f C.symm;refine⟨⟨_,⟨(n,.c (.ptr b o)),h1,d,j,cs,B,G,?_⟩,f1⟩,f2⟩;dsimp only;rw[ht b (by simp[ew,f]),N];dsimp only;rw[ah I]
      . rename_i E V N;split at a
        rename_i c;simp only[dW,eg]at a;obtain⟨rfl,rfl,C⟩:=a;obtain⟨f1,f2⟩:=F b _ f C.symm;refine⟨⟨_,⟨(n,.c (.ptr b 1)),h1,d,j,_,B,G,?_⟩,f1⟩,f2⟩;dsimp only;rw[ht b (by simp[ew,f]),N];rfl;cases a
      cases a
    . rename_i b sz i o;have f:=LK h1;split at a
      . rename_i L es w;split at a
        rename_i c l;simp only[dW,eg]at a;obtain⟨rfl,rfl,C⟩:=a;obtain⟨f1,f2⟩:=F b _ f C.symm;refine⟨⟨_,⟨(n,.c (.cW b sz i o)),h1,d,j,cs,B,G,?_⟩,f1⟩,f2⟩;dsimp only;rw[ht b (by simp[ew,f]),w];dsimp only;rw[l];rename_i l;simp only[bw,dW,eg]at a;obtain⟨ts,I,rfl,rfl,C⟩:=a;obtain⟨f1,f2⟩:=F b _ f C.symm;refine⟨⟨_,⟨(n,.c (.cW b sz i o)),h1,d,j,cs,B,G,?_⟩,f1⟩,f2⟩;dsimp only;rw[ht b (by simp[ew,f]),w];dsimp only;rw[l];dsimp only;rw[I];rfl
      . rename_i L es ab ad V w;split at a
        . rename_i c;split at a
          rename_i O;simp only[dW,eg]at a;obtain⟨rfl,rfl,C⟩:=a;obtain⟨f1,f2⟩:=F b _ f C.symm;refine⟨⟨_,⟨(n,.c (.cW b sz i o)),h1,d,j,_,B,G,?_⟩,f1⟩,f2⟩;dsimp only;rw[ht b (by simp[ew,f]),w];dsimp only;rw[ah O];rename_i O;simp only[bw,dW,eg]at a;obtain⟨t,I,rfl,rfl,C⟩:=a;obtain⟨f1,f2⟩:=F b _ f C.symm;refine⟨⟨_,⟨(n,.c (.cW b sz i o)),h1,d,j,_,B,G,?_⟩,f1⟩,f2⟩;dsimp only;rw[ht b (by simp[ew,f]),w];dsimp only;rw[au O,I];rfl
        cases a
      cases a
    cases a
   case append te sz by' x y=>
    simp only[aQ,bw]at a⊢;obtain⟨⟨n,v0⟩,h1,⟨d1,d2⟩,j,a⟩:=a;dsimp only at a;cases D:mI v0 d2 with
    |some r=>
     rw[D]at a;have H:=D;unfold mI at H;split at H
     . rename_i b s1 off len U Z T S;split at H
       . cases H;have A:=Fg h1;dsimp only at a;unfold vx at a;dsimp only at a;split at a
         . rename_i ae es w;simp only[dW,eg]at a;obtain⟨rfl,rfl,rfl⟩:=a;refine⟨⟨dn (hx σ' b) key (.arr sz (es.take len++(es.drop T).take S)),⟨(n,.c (.arr b s1 off len)),h1,(d1,.c (.gf U Z T S)),j,?_⟩,λc=>?_⟩,λc l=>?_⟩
           dsimp only;rw[D];dsimp only;unfold vx;dsimp only;rw[ht b (by simp[ew,A]),w]
           . simp only[c9,fD,cT,A,lf,j4,iC,lN,iS];by_cases h:c=key
             subst h;simp
             . rw[au (dN h)];by_cases u:c=b
               subst u;simp[h,dN h];rw[au (dN u),au (by simp[h,u])]
           simp only[cT,A,lf,j4,iC,xv,ky]at l;rw[c9,fD,au (dN l.1),au (dN l.2)]
         cases a
       cases H
     cases H
    |none=>
    rw[D]at a;simp only[bw]at a;obtain⟨M,B,a⟩:=a;have P:lW σ' d2=some M:=by
     unfold lW at B⊢;split at B;exact B;exact B;rename_i b L off len;rw[ht b (by simp[ew,Fg j])];exact B;cases B
    split at a
    . have A:ep env x=[]:=(by simp[ep,h1]);simp only[dW,eg]at a;obtain⟨rfl,rfl,rfl⟩:=a;refine⟨⟨_,⟨(n,.c .bV),h1,(d1,d2),j,by dsimp only;rw[D];simp only[bw];exact⟨M,P,rfl⟩⟩,λb=>?_⟩,λb f=>?_⟩
      . simp only[c9,cT,A,j4,iC,iS];by_cases h:b=key
        subst h;simp;rw[au (dN h),au h]
      simp only[cT,A,j4,iC,ky]at f;rw[c9,au (dN f)]
    . rename_i b L off len;have A:=Fg h1;split at a
      . rename_i af es w;split at a
        cases a
        . rename_i X;simp only[dW,eg]at a;obtain⟨rfl,rfl,rfl⟩:=a
          refine⟨⟨_,⟨(n,.c (.arr b L off len)),h1,(d1,d2),j,by
           dsimp only;rw[D];simp only[bw];refine⟨M,P,?_⟩;rw[ht b (by simp[ew,A]),w];dsimp only
           rw[au X]⟩,λc=>?_⟩,λc l=>?_⟩
          . simp only[c9,fD,cT,A,lf,j4,iC,lN,iS];by_cases h:c=key
            subst h;simp
            . rw[au (dN h)];by_cases u:c=b
              subst u;simp[h,dN h];rw[au (dN u),au (by simp[h,u])]
          simp only[cT,A,lf,j4,iC,xv,ky]at l;rw[c9,fD,au (dN l.1),au (dN l.2)]
      cases a
    . rename_i b len;have A:=LJ h1;split at a
      . rename_i R es w;obtain⟨s,hs,a⟩:=oV.1 a;cases a
        refine⟨⟨_,⟨(n,.c (.cN b len)),h1,(d1,d2),j,by
         dsimp only;rw[D];simp only[bw];refine⟨M,P,?_⟩;rw[ht b (by simp[ew,A]),w];dsimp only;rw[hs]
         rfl⟩,λc=>?_⟩,λc l=>?_⟩
        . simp only[c9,fD,cT,A,lf,j4,iC,lN,iS];by_cases h:c=key
          subst h;simp
          . rw[au (dN h)];by_cases u:c=b
            subst u;simp[h,dN h];rw[au (dN u),au (by simp[h,u])]
        simp only[cT,A,lf,j4,iC,xv,ky]at l;rw[c9,fD,au (dN l.1),au (dN l.2)]
      cases a
    cases a
   case allocS e e8=>
    simp only[aQ,dW,eg]at a⊢;obtain⟨rfl,rfl,rfl⟩:=a;refine⟨⟨_,⟨rfl,rfl,rfl⟩,λb=>?_⟩,λb f=>?_⟩
    . simp only[c9,cT,lN,iS];by_cases h:key=b
      rw[ah h,ah (.inl h.symm),ah h]
      . rw[au h];by_cases u:key+1=b
        rw[ah u,ah (.inr u.symm),au h,ah u];rw[au u,cb]
    simp only[cT,xv,ky]at f;rw[c9,au (dN f.1),c9,au (dN f.2)]
   case mkset=>
    simp only[aQ,dW,eg]at a⊢;obtain⟨rfl,rfl,rfl⟩:=a;refine⟨⟨_,⟨rfl,rfl,rfl⟩,λb=>?_⟩,λb f=>?_⟩
    . simp only[c9,cT,iS];by_cases h:b=key
      subst h;simp;rw[au (dN h),au h]
    simp only[cT,ky]at f;rw[c9,au (dN f)]
   case lkset x y=>
    have:=zY rfl a;subst this;refine⟨⟨σ',?_,λb=>rfl⟩,λb _=>rfl⟩;simp only[aQ,bw]at a⊢;obtain⟨⟨n,v0⟩,h1,⟨d1,d2⟩,j,a⟩:=a;refine⟨(n,v0),h1,(d1,d2),j,?_⟩;dsimp only at a⊢;split at a
    . rename_i b s;rw[ht b (by simp[ew,O9 h1])];split at a
      simp only[dW,eg]at a⊢;exact⟨a.1,a.2.1,trivial⟩;cases a
    cases a
   case upset x y=>
    simp only[aQ,bw]at a⊢;obtain⟨⟨n,v0⟩,h1,⟨d1,d2⟩,j,a⟩:=a;dsimp only at a⊢;split at a
    . rename_i b s;have f:=O9 h1;split at a
      . rename_i ks W;simp only[dW,eg]at a;obtain⟨rfl,rfl,rfl⟩:=a
        refine⟨⟨_,⟨(n,.c (.mp b)),h1,(d1,.c (.t (.str s))),j,by
         dsimp only
         rw[ht b (by simp[ew,f]),W]⟩,λc=>?_⟩,λc l=>?_⟩
        . simp only[cT,f,lf,j4,iC,iS,c9];by_cases h:c=b
          subst h;simp;rw[au (dN h),au h]
        simp only[cT,f,lf,j4,iC,ky]at l;rw[c9,au (dN l)]
      cases a
    cases a
   case appendB e by' x y=>
    simp only[aQ,bw]at a⊢;obtain⟨⟨n,v0⟩,h1,⟨d1,d2⟩,j,a⟩:=a;dsimp only at a⊢;split at a
    . rename_i b len s;have f:=LJ h1;split at a
      . rename_i R es w;simp only[dW,eg]at a;obtain⟨rfl,rfl,rfl⟩:=a
        refine⟨⟨_,⟨(n,.c (.cN b len)),h1,(d1,.c (.t (.str s))),j,by
         dsimp only
         rw[ht b (by simp[ew,f]),w]⟩,λc=>?_⟩,λc l=>?_⟩
        . simp only[c9,fD,cT,f,lf,j4,iC,lN,iS];by_cases h:c=key
          subst h;simp
          . rw[au (dN h)];by_cases u:c=b
            subst u;simp[h,dN h];rw[au (dN u),au (by simp[h,u])]
        simp only[cT,f,lf,j4,iC,xv,ky]at l;rw[c9,fD,au (dN l.1),au (dN l.2)]
      cases a
    cases a
   case ustr e x y=>
    simp only[aQ,bw]at a⊢;obtain⟨⟨n,v0⟩,h1,⟨d1,d2⟩,j,a⟩:=a;dsimp only at a⊢;split at a
    . rename_i b m;have f:=ab2 h1;split at a
      . rename_i R es w;simp only[dW,eg]at a;obtain⟨rfl,rfl,rfl⟩:=a
        refine⟨⟨_,⟨(n,.c (.eF b)),h1,(d1,.c (.t (.int .i64 m))),j,by
         dsimp only
         rw[ht b (by simp[ew,f]),w]⟩,λc=>?_⟩,λc l=>?_⟩
        . simp only[fD,cT,f,lf,j4,iC,iS];by_cases h:c=b
          subst h;simp;rw[au (dN h),au h]
        simp only[cT,f,lf,j4,iC,ky]at l;rw[fD,au (dN l)]
      cases a
    cases a
   all_goals simp[aQ]at a
inductive DStep (xb:ba)(P:Program)(o:cf)(key:Nat)(env:Env)(σ:bg)(g:Bool)(v:V):bg->Prop
 |op {p:Prop} {σ2:bg} (av:gu env o.guard = some g) (ak6:o.op.drawn) (yW:aQ o.op env σ key = some (p,v,σ2)) (ar:g = true->p) (ak':o.op.cE\/g = true):
  DStep xb P o key env σ g v (if o.op.cE then σ else σ2)
 |skip (av:gu env o.guard=some g) (ak7:g=false):DStep xb P o key env σ g v σ
 |call {p:Prop} {f:Nat} {args:List aS} {vs:List V} (GI:o.op = .call f args) (av:gu env o.guard = some g) (yW:h2 env args = some (p,vs)) (ar:g = true->p/\V.aK.V.dI (lt 0) vs/\v.aK (lt 0)/\eo P f vs [] 0 (λu5 _ _=>u5 = v)):
  DStep xb P o key env σ g v σ
 |iv {p q:Prop} {f:Nat} {x:aS} {args:List aS} {vs:List V} (GI:o.op = .iv x args) (aI:o.guard = none) (ajG:g = true) (aa:x.get env = some (q, .c (.fn f []))) (ala:q) (yX:hE P f) (yW:h2 env args = some (p,vs))
  (ar:p/\V.aK.V.dI (lt 0) vs/\v.aK (lt 0)/\eo P f vs [] 0 (λu5 _ _=>u5=v)):DStep xb P o key env σ g v σ
 |own {p:Prop} {f:Nat} {args:List aS} {vs:List V} {r:V} {s:bg} {M:Nat} (GI:o.op = .call f args) (av:gu env o.guard = some g) (aI:o.guard = none) (yW:h2 env args = some (p,vs)) (ar:p) (yX:V.aK.V.dI (lt 0) vs) (ajF:M<=16) (hk:s.all (λx=>x.1<16))
  (Va:eo P f vs [] 0 (λu5 s' Gb=>u5=r/\s'=s/\Gb=M)) (Vb:v=r.sh key):DStep xb P o key env σ g v (mT σ key s)
 |raw {p:Prop} {f:Nat} {args:List aS} {vs:List V} {bs:ba} {r:V} {s:bg} {M:Nat} (GI:o.op = .call f args) (av:gu env o.guard = some g) (ajG:g = true) (yW:h2 env args = some (p,vs)) (ar:p)
  (cd:bs.Nodup) (aD:∀b,b∈bs->b<key) (ak8:∀b,b∈bs->∃x,aV σ b=some x) (alb:∀b,b∈bs->b∈lp env args++xb) (ajF:M<=bs.length+16) (hk:s.all (λx=>(x.1<bs.length+16:Bool)))
  (Va:eo P f (vs.map (V.b8 bs)) (fV bs σ 0 bs) bs.length (λu5 s' Gb=>u5=r/\s'=s/\Gb=M)) (Vb:v=r.cu (back bs key)):DStep xb P o key env σ g v (hI σ bs (back bs key) s)
theorem DStep.hB{o:cf}{g:J}(h:DStep xb P o key env σ g v σ1)(bW:K (eB env o.dst g v) σ1):hB P o key env σ K:=by
 cases h with
 | @op p σ2 av D c ar F=>
  grind[Shv.hB,aQ]
 |skip av E=>
  grind[Shv.hB]
 | @call p f args vs a av c ar=>
  unfold Shv.hB;grind[h7.Vt]
 | @iv p q f x args vs a aI u aa G t c ar=>
  grind[Shv.hB,gu,h7.Vt]
 | @raw p f args vs bs r s M a av u c ar cd aD w H j y e z=>
  unfold Shv.hB;rw[a];dsimp;have B:h7 P f vs σ key (λA σ'=>K (eB env o.dst true A) σ'):=by
   refine h7.aj8 cd aD w e ?_;grind
  grind
 | @own p f args vs r s M a av aI c ar t j y e z=>
  unfold Shv.hB;rw[av];rw[a];grind[gu,h7.aj7]
theorem O'{o:cf}{t:Nat}(h:t∈o.op.reads):t∈o.rd:=by grind[cf.rd]
theorem Ae{o:cf}(h:∀t,t∈o.rd->look env' t=look env t):gu env' o.guard=gu env o.guard:=by
 grind[gu,cf.rd]
theorem Iv{s:bg}(d:s.all (λx=>x.1<16)){b:Nat}(a:¬(key<=b/\b<key+16))(σ:bg):aV (mT σ key s) b=aV σ b:=by
 rw[AZ];by_cases h:key<=b
 . have:aV s (b-key)=none:=by
    cases hs:aV s _ with
    |none=>rfl
    |some x=>
     have:∀{s:bg} {c:Nat} {x:b9},aV s c=some x->s.all (λx=>x.1<16)->c<16:=by
      induction s with
      |nil=>grind[aV]
      |cons y r ih=>
       grind[aV]
     grind
   grind
 grind
theorem lH(h:∀t,t∈x.tmps->look env' t=look env t):ep env' x=ep env x:=by
 unfold ep;rw[dF h]
theorem Jh{args:I aS}(h:∀t,t∈args.flatMap aS.tmps->look env' t=look env t):lp env' args=lp env args:=by
 induction args with
 |nil=>rfl
 |cons x r ih=>
  grind[lp,dF]
theorem aea(h:∀t,t∈o.reads->look env' t=look env t)(b:Nat):cT xb o env' key b=cT xb o env key b:=by
 cases o<;>try rfl
 case store k x v=>grind[cT,lH,c0.reads]
 case append te sz by' x y=>grind[cT,lH,c0.reads]
 case upset x y=>grind[cT,lH,c0.reads]
 case appendB e k x y=>grind[cT,lH,c0.reads]
 case ustr e x y=>grind[cT,lH,c0.reads]
 case call f args=>simp[cT];rw[Jh h]
theorem aeb(h:∀t,t∈o.reads->look env' t=look env t):ew xb o env' key=ew xb o env key:=by
 cases o<;>try rfl
 case b2s x=>grind[ew,lH,c0.reads]
 case load g k x=>grind[ew,lH,c0.reads]
 case store k x v=>grind[ew,lH,c0.reads]
 case lkset x y=>grind[ew,lH,c0.reads]
 case upset x y=>grind[ew,lH,c0.reads]
 case appendB e k x y=>grind[ew,lH,c0.reads]
 case ustr e x y=>grind[ew,lH,c0.reads]
 case call f args=>simp[ew];rw[Jh h]
 grind[ew,lH,c0.reads]
theorem DStep.local{o:cf}{g:J}(h:DStep xb P o key env σ g v σ1)(he:∀t,t∈o.rd->look env' t=look env t)(ht:∀b,b∈ew xb o.op env key\/cT xb o.op env key b->aV σ' b=aV σ b):
 (∃bz,DStep xb P o key env' σ' g v bz/\∀b,aV bz b=if cT xb o.op env key b then aV σ1 b else aV σ' b)/\∀b,cT xb o.op env key b=false->aV σ1 b=aV σ b:=by
 have y:=λt h=>he t (O' h);cases h with
 | @op p σ2 av L u ar Q=>
  obtain⟨⟨bz,h1,G⟩,H⟩:=ab3 (σ':=σ') u (λb c=>ht b (.inl c));have aI:o.op.cE->∀b,cT xb o.op env key b=false:=by intro aI b;generalize o.op=U at aI;cases U<;>simp[c0.cE]at aI<;>rfl
  refine⟨⟨_,DStep.op (σ2:=bz) (p:=p) (by rw[Ae he];exact av) L (by rw[aez y];exact h1) ar Q,λb=>?_⟩,λb c=>?_⟩
  . by_cases w:o.op.cE=true
    rw[ah w,aI w b];rfl;rw[au w,au w];exact G b
  . by_cases w:o.op.cE=true
    rw[ah w];rw[au w];exact H b c
 |skip av O=>
  refine⟨⟨σ',DStep.skip (by rw[Ae he];exact av) O,λb=>?_⟩,λb _=>rfl⟩;split;rename_i j;exact ht b (.inr j);rfl
 | @call p f args vs a av u ar=>
  refine⟨⟨σ',DStep.call a (by rw[Ae he];exact av) (by rw[A0 λt h=>y t (by rw[a];exact h)];exact u) ar,λb=>?_⟩,λb _=>rfl⟩;split;rename_i j;exact ht b (.inr j);rfl
 | @iv p q f x args vs a aI D aa S c u ar=>
  refine⟨⟨σ',DStep.iv a aI D (by rw[dF λt h=>y t (by rw[a];simp[c0.reads,h])];exact aa) S c (by rw[A0 λt h=>y t (by rw[a];simp only[c0.reads,iB];exact .inr h)];exact u) ar,λb=>?_⟩,λb _=>rfl⟩;split;rename_i j;exact ht b (.inr j);rfl
 | @own p f args vs r s M a av aI u ar c B z F E=>
  refine⟨⟨_,DStep.own a (by rw[Ae he];exact av) aI (by rw[A0 λt h=>y t (by rw[a];exact h)];grind) ar c B z F E,λb=>?_⟩,λb K=>?_⟩
  . by_cases A:key<=b/\b<key+16
    . have j:cT xb o.op env key b:=by rw[a];simp[cT,A.1,A.2]
      rw[ah j];have e:=ht b (.inr j);rw[AZ,AZ,e]
    . rw[Iv z A];split
      rename_i j;rw[Iv z A];exact ht b (.inr j);rfl
  grind[cT,Iv]
 | @raw p f args vs bs r s M a av D u ar cd aD W X B z F E=>
  have Y:∀b,b∈lp env args++xb->b∈ew xb o.op env key:=by intro b c;rw[a];simp only[ew,iB];exact .inr (iB.1 c)
  have N:∀t,t∈args.flatMap aS.tmps->look env' t=look env t:=λt h=>y t (by rw[a];exact h)
  refine⟨⟨_,DStep.raw (bs:=bs) a (by rw[Ae he];exact av) D (by rw[A0 N];omega) ar cd aD (λb c=>by grind) (λb c=>by grind[Jh]) B z
   (by grind[Lf]) E,λb=>?_⟩,λb K=>?_⟩
  . by_cases j:cT xb o.op env key b=true
    grind[Lg,rG];grind[cT,Bool.or_eq_false_iff,Bool.and_eq_false_iff,decide_eq_false_iff_not,HY]
  grind[cT,Bool.or_eq_false_iff,Bool.and_eq_false_iff,decide_eq_false_iff_not,HY]
def yu(xb:ba)(P:Program):I cf->Nat->Env->bg->(Env->bg->Prop)->Prop
 |[],_,env,σ,K=>K env σ
 |o::r,key,env,σ,K=>∃g v σ1,DStep xb P o key env σ g v σ1/\yu xb P r (key+16) (eB env o.dst g v) σ1 K
structure o7 (xb:ba)(P:Program)(bd:List cf)(N:Nat)(E:Nat->Env)(T:Nat->bg)(G:Nat->Bool)(W:Nat->V):Prop where
 step:∀(i:Nat) o,bd[i]?=some o->DStep xb P o (N+16*i) (E i) (T i) (G i) (W i) (T (i+1))/\E (i+1)=eB (E i) o.dst (G i) (W i)
theorem Ke:∀{bd:I cf} {key:Nat} {env:Env} {σ:bg} {K:Env->bg->Prop},yu xb P bd key env σ K->∃E T G W,o7 xb P bd key E T G W/\E 0=env/\T 0=σ/\K (E bd.length) (T bd.length)
 |[],key,env,σ,K,h=>⟨λ_=>env,λ_=>σ,λ_=>true,λ_=>.bf [],⟨λi o h=>by grind⟩,rfl,rfl,h⟩
 |o::r,key,env,σ,K,h=>by
  obtain⟨g,v,σ1,h1,a⟩:=h;obtain⟨E,T,G,W,b,aJ,d,bW⟩:=Ke a;refine⟨λi=>if i=0 then env else E (i-1),λi=>if i=0 then σ else T (i-1),λi=>if i=0 then g else G (i-1),λi=>if i=0 then v else W (i-1),⟨λi c e=>?_⟩,rfl,rfl,by grind⟩;cases i with
  |zero=>grind
  |succ i=>
   have:=b.step i c (by grind);grind
end
end
section
open Go
variable {xb:ba}
variable{p:Nat->J}{j:Nat}{env:Env}{o:c0}{σ:bg}{a:Act}{φ:dk}{w:World}{S:dm}{D:Nat->ba}{listed:Array J}{Q:Exit->Act->World->Prop}
theorem Kv:∀{m:Nat},(∃i,i<m/\p i)->∃i,i<m/\p i/\∀j,j<m->p j->j<=i
 |0,⟨i,h,_⟩=>by omega
 |m+1,⟨i,h1,a⟩=>by
  cases e:p m with
  |true=>grind
  |false=>
   have:i<m:=(by grind);obtain⟨k,b,c,d⟩:=Kv ⟨i,this,a⟩;grind
theorem y4{P:Program}{nt:Nat}{ops:Array Oper}:∀{l:I Oper} {bd:I cf},hh P nt ops l=some bd->bd.length=l.length
 |[],bd,h=>by grind[hh]
 |o::l,bd,h=>by
  simp[hh,bw,bF]at h;obtain⟨b,c,r,a,rfl⟩:=h;simp[y4 a]
theorem HZ{P:Program}{nt:Nat}{ops:Array Oper}:∀{l:I Oper} {bd:I cf} {i:Nat} {o:Oper},hh P nt ops l=some bd->l[i]?=some o->∃a,bd[i]?=some a/\w5 P nt ops o=some a
 |[],bd,i,o,h,b=>by grind
 |x::l,bd,i,o,h,b=>by
  simp[hh,bw,bF]at h;obtain⟨a,d,r,c,rfl⟩:=h;cases i with
  |zero=>grind
  |succ i=>simpa using HZ c (by grind)
theorem Ij:∀{l:I (cf×ba)} {k i:Nat} {x:cf×ba},EK k l->l[i]?=some x->∀d,d∈x.2->d<k+i
 |[],k,i,x,h,aa,d,a=>by grind
 |y::r,k,i,x,h,aa,d,a=>by
  simp[EK]at h;cases i with
  |zero=>grind
  |succ i=>
   have:=Ij h.2 (by simpa using aa) d a;omega
theorem aec{L:I (cf×ba)}{i:Nat}(h:ahead L j i):j<i/\∃x,L[i]?=some x/\j∈x.2:=by
 grind[ahead]
theorem LL{key b:Nat}(ht:o.il)(a:cT xb o env key b):b∈ew xb o env key:=by
 cases o
 case call f args=>
  simp[cT]at a;simp[ew];rcases a with h|h;exact .inl ⟨b-key,by omega,by omega⟩;grind
 all_goals simp[c0.il]at ht<;>simp[cT,ew]at a⊢<;>first|exact a|(rcases a with h|h;exact .inl h;exact .inr (.inl h))
theorem acC{key:Nat}(ht:o.il=false):ew xb o env key=[]:=by
 cases o<;>simp[c0.il]at ht<;>rfl
theorem MM{key b:Nat}(a:cT xb o env key b):o.cE=false:=by
 cases o<;>simp[cT]at a<;>rfl
theorem PU{key b:Nat}(ht:o.il=false)(a:cT xb o env key b):key<=b/\b<key+16:=by
 cases o<;>simp[c0.il]at ht<;>simp[cT]at a
section
variable {P:Program}{aA:Ctx}{nt kk:Nat}{N:Nat}{ops:Array Oper}{bd:I cf}{E:Nat->Env}{T:Nat->bg}{G:Nat->J}{W:Nat->V}
theorem Rel.ajp{env':Env}{n:Nat->J}(R:Rel aA nt φ S env σ n a w)(h:∀t,look env' t=look env t):Rel aA nt φ S env' σ n a w:=
 ⟨R.bS,λk g v ak=>R.gx k g v (h k▸ak),λk g v ak=>R.hl k g v (h k▸ak),λk g v ak=>R.gw k g v (h k▸ak),R.dT,R.size,R.defers,R.ext,R.own,R.fix,R.gS⟩
def iW(xb:ba)(bd:I cf)(E:Nat->Env)(N i b:Nat):J:=match bd[i]? with|some o=>cT xb o.op (E i) (N+16*i) b|none=>false
theorem wM(c:o7 xb P bd N E T G W){t:Nat}{i:Nat}:∀{k:Nat},i<=k->k<=bd.length->(∀(j:Nat) (o:cf),i<=j->j<k->bd[j]?=some o->o.dst≠some t)->look (E k) t=look (E i) t:=by
 intro k;induction k with
 |zero=>grind
 |succ k ih=>
  intro h1 d e;by_cases f:i=k+1;grind;have a:k<bd.length:=(by omega);have b:=e0 a;rw[(c.step k _ b).2,nj];grind
theorem EN(f:o7 xb P bd N E T G W){b:Nat}{i:Nat}:∀{k:Nat},i<=k->k<=bd.length->(∀j:Nat,i<=j->j<k->iW xb bd E N j b=false)->aV (T k) b=aV (T i) b:=by
 intro k;induction k with
 |zero=>grind
 |succ k ih=>
  intro h1 g d;by_cases l:i=k+1;grind;have e:k<bd.length:=(by omega);have c:=e0 e;have a:=d k (by omega) (by simp);unfold iW at a;rw[c]at a;have:=((f.step k _ c).1.local (λ_ _=>rfl) (λ_ _=>rfl)).2 b a;grind
inductive jn (D:Nat->ba)(j:Nat):Nat->Prop
 |one {i:Nat} (h:j∈D i):jn D j i
 |step {e i:Nat} (h:jn D j e) (he:e∈D i):jn D j i
theorem jn.ready{n:Nat}(a:∀i d,i<n->d∈D i->d<i)(f:∀e,e<n->p e->∀d,d∈D e->p d){i:Nat}(h:jn D j i)(g:i<n)(c:∀d,d∈D i->p d):p j:=by
 induction h<;>grind
theorem jn.congr{a:Nat->ba}{n:Nat}(c:∀i d,i<n->d∈D i->d<i)(f:∀i,i<n->D i=a i){i:Nat}(h:jn D j i)(e:i<n):jn a j i:=by
 induction h with
 |one h=>exact .one (by grind)
 |step h he ih=>
  have:=c _ _ e he;exact .step (ih (by omega)) (by grind)
theorem Mr:∀{l:I (cf×ba)} {acc:I ba},(∀(k:Nat) x,l[k]?=some x->D (acc.length+k)=x.2)->(∀i j,j∈acc.getD i []->jn D j i)->∀i j,j∈(n0 l acc).getD i []->jn D j i
 |[],acc,_,b,i,j,h=>b i j h
 |x::r,acc,c,b,i,j,h=>by
  refine Mr (acc:=acc++[(x.2++x.2.flatMap _).eraseDups]) (λk y al=>?_) (λi j a=>?_) i j h;have:=c (k+1) y (by grind);grind
  . rw[List.getD_eq_getElem?_getD,List.getElem?_append]at a;split at a
    grind
    . cases d:i-acc.length with
      |succ k=>grind
      |zero=>
       rw[d]at a;have f:i=acc.length:=(by omega);have aa:=(by simpa using c 0 x rfl);simp[uV]at a;rcases a with a|⟨e,he,a⟩;exact .one (by grind);exact .step (b e j a) (by grind)
structure Stat (xb:ba)(bd:List cf)(D:Nat->ba)(E:Nat->Env)(N:Nat):Prop where
 back:∀i d,i<bd.length->d∈D i->d<i
 xV:∀(i j:Nat) (x y:cf) (d:Nat),bd[i]?=some x->bd[j]?=some y->y.dst=some d->(d∈x.rd->(j<i/\j∈D i)\/(x.op.cE/\x.op.il=false/\i<j/\i∈D j))/\(i=j\/x.dst≠some d)
 ord:∀i j b,i≠j->i<bd.length->j<bd.length->iW xb bd E N i b->((∃y:cf,bd[j]?=some y/\b∈ew xb y.op (E j) (N+16*j))\/iW xb bd E N j b)->(i<j/\jn D i j)\/(j<i/\jn D j i)
def used(N m:Nat)(listed:Array J):Nat->J:=λb=>lt N b||(List.range m).any λi=>listed.getD i false&&((N+16*i<=b:J)&&(b<N+16*i+16:J))
structure Inv (xb:ba)(aA:Ctx)(nt:Nat)(bd:List cf)(D:Nat->ba)(N:Nat)(E:Nat->Env)(T:Nat->bg)(G:Nat->Bool)(W:Nat->V)(listed:Array Bool)(φ:dk)(S:dm)(env:Env)(σ:bg)(a:Act)(w:World):Prop where
 rel:Rel aA nt φ S env σ (used N bd.length listed) a w
 size:listed.size=bd.length
 down:∀i,i<bd.length->listed.getD i false->∀d,d∈D i->listed.getD d false=true
 dp:∀t,(∀(i:Nat) (o:cf),bd[i]?=some o->listed.getD i false->o.dst≠some t)->look env t=look (E 0) t
 aJ:∀t (i:Nat) (o:cf),bd[i]?=some o->listed.getD i false->o.dst=some t->look env t=some (G i,W i)
 nJ:∀b,(∀i,i<bd.length->listed.getD i false->iW xb bd E N i b=false)->aV σ b=aV (T 0) b
 s1:∀b i,i<bd.length->listed.getD i false->iW xb bd E N i b->(∀j,j<bd.length->listed.getD j false->iW xb bd E N j b->j<=i)->aV σ b=aV (T (i+1)) b
theorem jT{i:Nat}(a:i<listed.size):(listed.setIfInBounds i true).getD j false=if j=i then true else listed.getD j false:=by
 by_cases h:j=i;simp_all;simp_all[dN]
theorem Inv.agree(bC:Inv xb aA nt bd D N E T G W listed φ S env σ a w)(st:Stat xb bd D E N)(q:o7 xb P bd N E T G W)
 {i:Nat}{o:cf}(U:bd[i]?=some o)(aI:listed.getD i false=false)(B:∀d,d∈D i->listed.getD d false):
 (∀t,t∈o.rd->look env t=look (E i) t)/\∀b,b∈ew xb o.op (E i) (N+16*i)\/cT xb o.op (E i) (N+16*i) b->aV σ b=aV (T i) b:=by
 have F:i<bd.length:=(ed.1 U).1;refine⟨λt ht=>?_,λb aD=>?_⟩
 . by_cases X:∃(j:Nat) (y:cf),bd[j]?=some y/\y.dst=some t
   . obtain⟨j,y,al,u⟩:=X;rcases (st.xV i j o y t U al u).1 ht with⟨h1,A⟩|⟨_,_,h1,A⟩
     . rw[bC.aJ t j y al (B j A) u];have:look (E (j+1)) t=some (G j,W j):=by rw[(q.step j y al).2,nj,ah u]
       rw[<-this]
       symm
       refine wM q (by omega) (by omega) λk z K L e x=>?_;rcases (st.xV k j z y t e al u).2 with h|h
       all_goals grind
     . have f:j<bd.length:=(ed.1 al).1;have ax:∀(k:Nat) (z:cf),bd[k]?=some z->z.dst=some t->k=j:=by
        intro k z e x;rcases (st.xV k j z y t e al u).2 with h|h;grind;grind
       rw[bC.dp t λk z e ak x=>by
        have:=ax k z e x;subst this;have:=bC.down k f ak i A
        grind]
       symm
       refine wM q (iD _) (by omega) λk z _ a1 e x=>?_;grind
   . have v:=λj y al h=>X ⟨j,y,al,h⟩;rw[bC.dp t λj y al _=>v j y al]
     symm
     exact wM q (iD _) (by omega) λj y _ _ al=>v j y al
 . have Y:∀j,j≠i->j<bd.length->iW xb bd E N j b->(j<i/\jn D j i)\/(i<j/\jn D i j):=by
    intro j f c g;refine st.ord j i b f c F g ?_;grind[iW]
   have ak:∀j,j<bd.length->listed.getD j false->iW xb bd E N j b->j<i:=by
    intro j c Q g;have ap:j≠i:=(by grind);rcases Y j ap c g with h|h;grind;have:=h.2.ready st.back bC.down c (bC.down j c Q);grind
   have an:∀j,j<i->iW xb bd E N j b->listed.getD j false:=by
    intro j a0 g;rcases Y j (by omega) (by omega) g with h|h;exact h.2.ready (p:=λk=>listed.getD k false) st.back bC.down F B;grind
   by_cases Z:∃j,j<i/\iW xb bd E N j b=true;obtain⟨j,aa,H,am⟩:=Kv Z;rw[bC.s1 b j (by omega) (an j aa H) H (λk K L O=>am k (ak k K L O) O)];grind[EN]
   . have v:∀j,j<i->iW xb bd E N j b=false:=(by grind);rw[bC.nJ b λj c Q=>by grind]
     symm
     exact EN q (iD _) (by omega) λj _ f=>v j f
theorem aeA{m:Nat}{i b:Nat}(a:i<listed.size)(h:eK (used N m listed) (N+16*i) b)(c:i<m):used N m (listed.setIfInBounds i true) b:=by
 simp only[eK,used,lN]at h⊢;grind[jT]
theorem LM{m:Nat}{i:Nat}(aI:listed.getD i false=false){b:Nat}(h1:N+16*i<=b)(a:b<N+16*i+16):used N m listed b=false:=by
 simp only[used];grind[lt]
theorem Inv.step{bu:dm}{bz:bg}{ca:Act}{w':World}(bC:Inv xb aA nt bd D N E T G W listed φ S env σ a w)(st:Stat xb bd D E N)(Y:o7 xb P bd N E T G W)
 {i:Nat}{o:cf}(v:bd[i]?=some o)(aI:listed.getD i false=false)(L:∀d,d∈D i->listed.getD d false)
 (H:∀b,aV bz b=if cT xb o.op (E i) (N+16*i) b then aV (T (i+1)) b else aV σ b)
 (R:Rel aA nt bq bu (eB env o.dst (G i) (W i)) bz (eK (used N bd.length listed) (N+16*i)) ca w'):
 Inv xb aA nt bd D N E T G W (listed.setIfInBounds i true) bq bu (eB env o.dst (G i) (W i)) bz ca w':=by
 have p:i<bd.length:=(ed.1 v).1;have f:i<listed.size:=by rw[bC.size];exact p
 have B:∀b,iW xb bd E N i b=cT xb o.op (E i) (N+16*i) b:=λb=>by unfold iW;rw[v]
 refine⟨R.more λb u=>aeA f u p,by simp[bC.size],λj c ak d x=>?_,λt ht=>?_,λt j y al ak F=>?_,λb u=>?_,λb j c ak A z=>?_⟩
 . rw[jT f]at ak⊢;split
   rfl
   . split at ak
     rename_i e;subst e;exact L d x;exact bC.down j c ak d x
 rw[nj,au (ht i o v (by rw[jT f,ah rfl]))];exact bC.dp t λj y al ak=>ht j y al (by rw[jT f];split;rfl;exact ak)
 . rw[nj];rw[jT f]at ak;by_cases g:j=i
   grind
   . rw[au g]at ak;rw[au (λh=>?_)]
     exact bC.aJ t j y al ak F
     . rcases (st.xV i j o y t v al F).2 with K|K
       all_goals grind
 rw[H b];have q:=u i p (by rw[jT f,ah rfl]);rw[B]at q;rw[q];exact bC.nJ b λj c ak=>u j c (by grind[jT])
 . rw[H b];rw[jT f]at ak;by_cases q:cT xb o.op (E i) (N+16*i) b=true
   . have U:i<=j:=z i p (by simp_all) (by grind);by_cases g:j=i
     grind
     ·
      rw[au g]at ak;rcases st.ord i j b (dN g) p c (by rw[B];exact q) (.inr A)with h|h;have:=h.2.ready st.back bC.down c (bC.down j c ak);rw[aI]at this;cases this;omega
   . rw[au q];by_cases g:j=i
     grind;rw[au g]at ak;exact bC.s1 b j c ak A λk O X Q=>z k O (by grind[jT]) Q
theorem Inv.done(bC:Inv xb aA nt bd D N E T G W listed φ S env σ a w)(st:Stat xb bd D E N)(e:o7 xb P bd N E T G W)
 (u:∀i,i<bd.length->listed.getD i false):Rel aA nt φ S (E bd.length) (T bd.length) (lt (N+16*bd.length)) a w:=by
 refine((bC.rel.ajp λt=>?_).congr λb=>?_).more λb v=>?_
 . by_cases p:∃(j:Nat) (y:cf),bd[j]?=some y/\y.dst=some t
   . obtain⟨j,y,al,q⟩:=p;have g:=(ed.1 al).1;rw[bC.aJ t j y al _ _];have:look (E (j+1)) t=some (G j,W j):=by rw[(e.step j y al).2,nj,ah q]
     rw[<-this];refine wM e (by omega) (ek _) λk z f H L O=>?_;rcases (st.xV k j z y t L al q).2 with h|h
     all_goals grind
   have c:=λj y al h=>p ⟨j,y,al,h⟩;rw[bC.dp t λj y al _=>c j y al];exact wM e (iD _) (ek _) λj y _ _ al=>c j y al
 . by_cases x:∃j,j<bd.length/\iW xb bd E N j b=true
   . obtain⟨j,o,A,B⟩:=Kv x;rw[bC.s1 b j o (u j o) A (λk f _ K=>B k f K)];refine EN e (by omega) (ek _) λk f H=>?_;grind
   have c:∀j,j<bd.length->iW xb bd E N j b=false:=(by grind);rw[bC.nJ b λj F _=>c j F];exact EN e (iD _) (ek _) λj _ g=>c j g
 simp[used,lt]at v⊢;grind
theorem abT(st:Stat xb bd D E N)(l:o7 xb P bd N E T G W)(hres:hh P nt ops ops.toList=some bd)(p:∀(i:Nat) o,ops[i]?=some o->D i=hG o)
 (t:∀φ S a w,Rel aA nt φ S (E bd.length) (T bd.length) (lt (N+16*bd.length)) a w->Q .normal a w):
 ∀(fuel:Nat) (listed:Array J) φ S env σ a w,listed.toList.countP (· ==false)<=fuel->Inv xb aA nt bd D N E T G W listed φ S env σ a w->wpAny P .any ops Q fuel listed a w:=by
 have B:=y4 hres;simp at B;have C:∀(listed:Array J) (φ:dk) (S:dm) (env:Env) (σ:bg) (a:Act) (w:World),Inv xb aA nt bd D N E T G W listed φ S env σ a w->Region.ready .any ops listed=[]->∀i,i<bd.length->listed.getD i false:=by
  intro listed φ S env σ a w bC j i;induction i using Nat.strongRecOn with
  |_ i ih=>
   intro f;cases ak:listed.getD i false with
   |true=>rfl
   |false=>
    have A:i<ops.size:=(by omega);have g:ops[i]?=some ops[i]:=C6 A;have:i∈Region.ready .any ops listed:=by
     rw[mem_ready];refine⟨?_,ops[i],g,λe he M=>?_⟩
     . have k:i<listed.size:=by rw[bC.size];grind
       grind
     . have c:e.on∈D i:=by
        rw[p i _ g];simp only[hG,fY,uX];grind
       exact ih e.on (st.back i _ f c) (by have:=st.back i _ f c;omega)
    grind
 have q:∀(listed:Array J) (φ:dk) (S:dm) (env:Env) (σ:bg) (a:Act) (w:World),Inv xb aA nt bd D N E T G W listed φ S env σ a w->Region.ready .any ops listed=[]->Q .normal a w:=by
  intro listed φ S env σ a w bC j;exact t φ S a w (bC.done st l (C listed φ S env σ a w bC j))
 intro fuel;induction fuel with
 |zero=>
  intro listed φ S env σ a w z bC;have L:∀i,i<bd.length->listed.getD i false:=by
   intro i f;have k:i<listed.size:=by rw[bC.size];grind
   cases ak:listed.getD i false with
   |true=>rfl
   |false=>
    exfalso;have h0:listed.toList.countP (· ==false)=0:=(by omega);rw[List.countP_eq_zero]at h0;simp[k]at ak;exact h0 listed[i] (by simp) (by grind)
  have j:Region.ready .any ops listed=[]:=by
   rw[Vq];grind[mem_ready]
  exact⟨j,q listed φ S env σ a w bC j⟩
 |succ fuel ih=>
  intro listed φ S env σ a w z bC;refine⟨q listed φ S env σ a w bC,λi f=>?_⟩;rw[mem_ready]at f;obtain⟨h1,o,g,O⟩:=f;have k:i<listed.size:=by grind
  have aI:listed.getD i false=false:=by grind
  obtain⟨m,n,F⟩:=HZ hres (i:=i) (o:=o) (by simpa using g);have c:∀d,d∈D i->listed.getD d false:=by
   intro d c;rw[p i o g]at c;simp only[hG,fY,uX]at c;grind
  obtain⟨u,v⟩:=bC.agree st l n aI c;obtain⟨⟨bz,hs,I⟩,_⟩:=(l.step i m n).1.local (env':=env) (σ':=σ) u v;have r:=Ee bC.rel (key:=N+16*i) (λb x y=>LM aI x y) F (K:=λe s=>e=eB env m.dst (G i) (W i)/\s=bz) (hs.hB ⟨rfl,rfl⟩) (Q:=Q);have next:∀ca w',jN aA nt (eK (used N bd.length listed) (N+16*i)) (λe s=>e=eB env m.dst (G i) (W i)/\s=bz) ca w'->wpAny P .any ops Q fuel (listed.setIfInBounds i true) ca w':=by
   rintro ca w' ⟨bq,bu,e,s,⟨rfl,rfl⟩,R'⟩
   refine ih _ bq bu _ _ ca w' ?_ (bC.step st l n aI c I R');have:listed.toList[i]?=some false:=by simp[k]at aI⊢;exact aI
   grind
  unfold wpOp;rw[g];dsimp only;split at r;rename_i H;rw[ah H];exact .inl (Oper.wp_mono next r);grind
end
end
end Go.Proofs.YtopcfbelfjclmaaGreatDoor.Shv
