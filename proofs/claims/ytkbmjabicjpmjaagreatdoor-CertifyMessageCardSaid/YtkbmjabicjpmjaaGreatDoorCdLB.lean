/- The library of this proof, part B: an abstract machine for the code of the program, and its soundness. -/
import Derived.Lib.UnsafeStr
import Derived.ChangeKeysEq
import Derived.Orders
import Derived.LoopN
import Derived.Test.YtkbmjabicjpmjaaGreatDoorCdLA

namespace Go.Proofs.YtkbmjabicjpmjaaGreatDoor.Shv
set_option linter.all false
section
open Go
theorem C.nd(c:C):c.aJ (λ_=>true):=by cases c<;>simp[C.aJ]
variable{o:Oper}{e t fj yt:TypeId}{x:Operand}{α:Type}{c:Call}{f id b0 off:Nat}{dst:ai Nat}{g:J}{Q:Exit->Act->World->Prop}{K:Env->bh->Prop}{code:Code}{bg:I cl}{bs:bb}{bw:dx}{es:I (I T)}
section
variable {P:Program}{aB:Ctx}{nt kk:Nat}{φ:dx}{S bx:dy}{env:Env}{σ:bh}{N key:Nat}{n:Nat->J}{a:Act}{w w':World}
theorem Rel.extend(R:Rel aB nt φ S env σ n a w)(e:Ext (λ_=>False) S bx w w')(L:∀b j,bx b j->b<w'.heap.size):Rel aB nt φ bx env σ n a w':=by
 have ad:=λb K=>e.block b K (λh=>h);have A:∀b x,aZ σ b=some x->(φ b).2≠0->∀j,¬bx (φ b).1 j:=by
  intro b x aa h0 j F;have dM:=R.b3.blk b x aa;rcases e.l0 _ _ F with h|h|h;exact dM.qM h0 j h;grind;have:=dM.j3 h0;omega
 refine⟨⟨λb x aa=>?_,R.b3.inj,L⟩,λk g v ak av=>?_,R.hL,R.gX,R.ei,R.size,R.defers,?_,R.own,R.fix,R.hv⟩
 . have dM:=R.b3.blk b x aa;cases x with
   |box cs=>
    obtain⟨h0,vs,E,h1,f,q⟩:=dM;refine⟨h0,vs,E,(ad _ (w5 h1)).trans h1,f.imp λc v M y=>bG.mono e.mono (λ_ _=>rfl) (C.nd _) y,A b _ aa h0⟩
   |arr sz es=>
    obtain⟨h1,f,q,B,bu⟩:=dM;refine⟨h1,f,q,B,λh0=>?_⟩;obtain⟨vs,E,bj,bq,b4,cv⟩:=bu h0;exact⟨vs,E,(ad _ (w5 bj)).trans bj,bq,λi j D t he ht=>let⟨v,G,y⟩:=b4 i j D t he ht;⟨v,G,ca.mono e.mono y⟩,A b _ aa h0⟩
   |set ks=>
    obtain⟨h0,⟨es,c,h1,f⟩,q⟩:=dM;exact⟨h0,⟨es,c,(ad _ (w5 h1)).trans h1,f⟩,A b _ aa h0⟩
   |buf E s=>
    obtain⟨h1,f,q⟩:=dM;refine⟨h1,f,λh0=>?_⟩;grind
   |cu E c=>
    obtain⟨h0,⟨p,v,h1,f,q⟩,B⟩:=dM;exact⟨h0,⟨p,v,(ad _ (w5 h1)).trans h1,f,bG.mono e.mono (λ_ _=>rfl) (C.nd _) q⟩,A b _ aa h0⟩
   |cV sz es i o c=>
    obtain⟨⟨h1,f,q,B,bu,H⟩,⟨vs,E,bj,bq,b4,v,cv,cZ⟩,c7⟩:=dM;exact⟨⟨h1,f,q,B,bu,H⟩,⟨vs,E,(ad _ (w5 bj)).trans bj,bq,λi j D t he ht aL=>let⟨v,G,y⟩:=b4 i j D t he ht aL;⟨v,G,ca.mono e.mono y⟩,v,cv,bG.mono (n:=λ_=>true) e.mono (λ_ _=>rfl) (C.nd _) cZ⟩,A b _ aa (by omega)⟩
 obtain⟨x,aa,y⟩:=R.gY k g v ak av;exact⟨x,aa,ch.mono e.mono (λ_ _=>rfl) (R.gX k g v ak av) y⟩
 . refine⟨e.os.trans R.ext.os,e.tape.trans R.ext.tape,e.output.trans R.ext.output,hF R.ext.size e.size,λb aD dM=>?_,R.ext.mono.trans e.mono,λb j F=>?_⟩
   exact(ad b (j0 aD R.ext.size)).trans (R.ext.block b aD dM)
   . rcases e.l0 _ _ F with h|h|h
     exact R.ext.l0 b j h;grind;exact .inr (.inr (hF R.ext.size h))
theorem aby(R:Rel aB nt φ S env σ n a w){ty:TypeId}{len:Nat}{parts:Array (Nat×Operand)}(Y:o.op= .buildSlice ty len parts)(ab:P.underlying ty=some (.slice e)){sz:Nat}(Z:eK P e=some sz)
 {z:I C}(K:kx P e=some z){ps:I (Nat×aV)}(H:qd parts.toList=some ps)(h0:sz≠0)(L:z.length=sz)(X:len*sz<=2^24)
 {p v σ'}(W:n key=false)(h:aU (.bsliceT e sz len z ps) env σ key=some (p,v,σ'))(ar:p):cf P aB nt env σ' (ins n key) a v ((execOp a.eval o).run P w):=by
 simp only[aU,bz,bL,eB]at h;obtain⟨k,N,⟨q,f⟩,g,rfl,rfl,rfl⟩:=h;obtain⟨i,d,r,ag,m,U⟩:=tT (φ:=φ) (w:=w) (S:=S) (n:=n) K;have M:=sA N m;have ae:d.cells.size=sz:=by rw[<-Dg,<-m.length,L]
 have y:0<sz:=by omega
 have af:k.length=sz:=by grind[w1]
 obtain ⟨us,h1,E,l,T,bu,_⟩:= I3 R y H g ar (es:= List.replicate len k) (vs:= ((Array.range (len*sz)).map (d.cells[· % d.cells.size]!)).toList) (by
  grind) (by simp) (by
  intro i j e t he ht;have:e=k:=by
   grind
  subst this;obtain⟨x,aa,J⟩:=M.get ht
  grind[Jf])
 simp at l;have s:len<=dT:=by
  have:len<=len*sz:=Ht len y;grind[dT]
 have u:=R.b3.st;have O:hj w S (w.alloc (.cells us.toArray e)) (λb j=>S b j\/b=w.heap.size):=⟨λ_ _ h=>.inl h,λb j h=>rW (tB (u b j h)) j⟩
 have A:Ext (λ_=>False) S _ w (w.alloc (.cells us.toArray e)):=
  ⟨rfl,rfl,rfl,by simp,λb g _=>tB g,O,λb j h=>by grind⟩
 have B:=R.extend A (λb j h=>by
  rcases h with h|h;have:=u b j h;simp;omega
  simp_all)
 refine⟨.slice (some ⟨w.heap.size,0,none⟩) len len,φ,_,_,.inl ?_,?_,rfl,B.more λ_ h=>ll h⟩
 . have Q:Instr.fill (λi=>some (i*sz,sz)) ((Array.range (len*sz)).map (d.cells[· % d.cells.size]!)) ((parts.map λ(i,x)=>(i,a.eval x)).toList)=some us.toArray:=by
    rw[Array.toList_map];omega
   simp_all[MR,execOp,Sem.run_bind,Result.andThen_ok]
 . refine .c ?_;have F:f.length=len:=l;rw[<-F]at s⊢;have G:∀j,(w.alloc (.cells us.toArray e)).cell? _=us[j]?:=λj=>jv heap_alloc_new j;refine ca.slice f _ _ sz w.heap.size 0 (λi j=>(us[i*sz+j]?).getD undef) (e' _) s E (λ_=>rfl) (λi j r V=>⟨.inr rfl,?_⟩) (λi j D t he ht=>?_)
   . rw[iy,G];have aD:i*sz+j<us.length:=by
      have:=fG sz (show i+1<=f.length from r);grind
     grind
   obtain⟨v,ad,J⟩:=bu i j D t he ht;grind[ca.mono]
theorem aaV{ty:TypeId}{e8:Nat}(h:A3 P ty=some e8):∃i z,P.info? ty=some i/\i.zero=some z/\z.cells=#[.pointer none,.slice none 0 0]:=by
 grind[A3,Q1,bz,MI]
theorem abe(R:Rel aB nt φ S env σ n a w){ty:TypeId}(t:o.op= .alloc ty){e8:Nat}(f:A3 P ty=some e8)
 {p v σ'}(r:n key=false)(l:n (key+1)=false)(h:aU (.allocS ty e8) env σ key=some (p,v,σ'))(ar:p):cf P aB nt env σ' (ins (ins n (key+1)) key) a v ((execOp a.eval o).run P w):=by
 obtain⟨rfl,rfl,rfl⟩:=h;obtain⟨i,z,q,u,A⟩:=aaV f;have s:∀j,¬S w.heap.size j:=λj h=>by have:=R.b3.st _ _ h;omega
 have b:=(R.alloc (.cells #[.pointer none,.slice none 0 0] ty)).jZ l (x:= .buf e8 []) (0,0) rfl (by simp[dj,dU]) (by simp);have g:ins n (key+1) key=false:=by grind[ins]
 have d:=b.jZ g (x:= .cu ty (.cQ (key+1) 0)) (w.heap.size,1) (by simp[cd.aJ,C.aJ,ins]) (by
  grind[dj,heap_alloc_new,bG,e3]) (λ_=>⟨λk y al h0=>by
   rw[dk]at al;split at al;grind[dU]
   . rename_i m;have e:(φ k).2≠0:=(by simp_all[e3,ee]);have:=(R.b3.blk k y al).j3 e;simp[e3,ee m]
     omega,.inr R.ext.size⟩)
 refine⟨.pointer (some ⟨w.heap.size,0,none⟩),_,S,_,.inl ?_,.c ?_,by simp[V.aJ,C.aJ,ins],d⟩;simp_all[execOp,Instr.alloc,zeroValue,typeInfo,newVar,newRow];grind[bG,dU]
theorem Mr(h:u2 P t):∃k v i,P.underlying t=some (.map k v)/\P.underlying k=some .string/\P.info? v=some i/\i.zero=some (.bool false):=by
 grind[u2,bz]
theorem acD(R:Rel aB nt φ S env σ n a w)(f:o.op= .makeMap t none)
 {p v σ'}(d:n key=false)(h:aU .mkset env σ key=some (p,v,σ'))(ar:p):cf P aB nt env σ' (ins n key) a v ((execOp a.eval o).run P w):=by
 obtain⟨rfl,rfl,rfl⟩:=h;have e:∀j,¬S w.heap.size j:=λj h=>by have:=R.b3.st _ _ h;omega
 have b:=(R.alloc _).jZ d (x:= .set []) (w.heap.size,1) rfl (by
  simp only[dj,dU]
  exact⟨by simp,⟨[],0,heap_alloc_new,.nil⟩,e⟩) (λ_=>⟨λk y al h0=>by
   have:=(R.b3.blk k y al).j3 h0
   omega,.inr R.ext.size⟩)
 refine⟨.map (some w.heap.size),_,S,_,.inl ?_,.c ?_,by simp[V.aJ,C.aJ,ins],b⟩;simp[execOp,f,Instr.makeMap];grind[bG,dU]
theorem abf{s:ByteArray}{k:au}:(s==(⟨k.toArray⟩:ByteArray))=(k=s.data.toList:J):=by
 grind[beq_toListBytes,ByteArray.toList_eq]
theorem Jg(s:ByteArray):∀{ks:I au} {es:I MapEntry} (i:Nat),B2 ks es->
 (hr ks s.data.toList=false/\Instr.findNow .string (.string s) es i=some none)\/
 (hr ks s.data.toList/\∃j e,Instr.findNow .string (.string s) es i=some (some (i+j,.bool true))/\es[j]?=some e/\e.key= .string s/\e.val= .bool true)
 |_,_,i,.nil=>.inl ⟨rfl,rfl⟩
 |k::ks,e::es,i,.cons h d=>by
  obtain⟨h1,c⟩:=h;have f:(s==⟨k.toArray⟩)=decide _:=abf;by_cases g:k=s.data.toList
  . refine .inr ⟨by grind[hr],0,e,?_,rfl,?_,c⟩
    simp_all[Instr.findNow,Instr.sameNow];simp_all
  . rcases Jg s (i+1) d with⟨g1,g2⟩|⟨g1,j,a,g2,g3,g4,b⟩
    grind[hr,Instr.findNow,Instr.sameNow];refine .inr ⟨by grind[hr],j+1,a,?_,by grind,g4,b⟩;grind[Instr.findNow,Instr.sameNow]
theorem E3(a:P.underlying fj=some .string){s:ByteArray}{es:I MapEntry}{r:ai (Nat×Value)}(h:Instr.findNow .string (.string s) es 0=some r)(w:World):(Instr.findKey fj (.string s) es).run P w= .ok r w:=by
 simp_all[Instr.findKey,run_underlying]
theorem D8(a:P.underlying fj=some .string){s:ByteArray}(b:J)(w:World):(Instr.checkKey b 10000 fj (.string s)).run P w= .ok () w:=by
 unfold Instr.checkKey;simp[run_underlying a]
theorem sB{b:Nat}{es:Array MapEntry}{c:Nat}(h:w.heap[b]?=some (.map es c)):(getObj b).run P w= .ok (.map es c) w:=by grind[getObj,Sem.run]
theorem Fc{b:Nat}{es:Array MapEntry}{c:Nat}(o:Obj)(h:w.heap[b]?=some (.map es c)):(setObj b o).run P w= .ok () {w with heap:=w.heap.setIfInBounds b o}:=by
 grind[setObj,Sem.run]
theorem acE(R:Rel aB nt φ S env σ n a w){k:Operand}(g:o.op= .lookup t x k false)(ht:u2 P t){d c:aV}(aa:bT x=some d)(u:bT k=some c)
 {p v σ'}(C:n key=false)(h:aU (.lkset d c) env σ key=some (p,v,σ'))(ar:p):cf P aB nt env σ' (ins n key) a v ((execOp a.eval o).run P w):=by
 simp only[aU,bz]at h;obtain⟨⟨F,H⟩,s,⟨eJ,G⟩,r,he⟩:=h;simp at he;obtain⟨fj,A,i,l,b,B,E⟩:=Mr ht;split at he
 . split at he
   . rename_i ks z;obtain⟨rfl,rfl,rfl⟩:=he;have h1:a.eval x= .map _:=(cK R aa s ar.1).1.et;obtain⟨bs,f,rfl,_⟩:=ch.kU (cK R u r ar.2).1;obtain⟨h0,⟨es,c6,ad,m⟩,D⟩:=R.b3.blk _ _ z;refine cf.pure R ?_ (.pC _) rfl;have y:(zeroValue A).run P w= .ok (.bool false) w:=(by simp_all[zeroValue,typeInfo]);have q:=Jg bs 0 m;rcases q with⟨g1,g2⟩|⟨g1,j,e,g2,_⟩
     simp[execOp,g,h1,f,Instr.lookup,run_underlying l,sB ad,D8 b,E3 b g2,y,g1];simp[execOp,g,h1,f,Instr.lookup,run_underlying l,sB ad,D8 b,E3 b g2,g1]
   grind
 grind
theorem adj{ks:I au}{es:I MapEntry}(h:B2 ks es)(s:ByteArray)(c6:Nat):B2 (ks++[s.data.toList]) (es++[{key:= .string s,val:= .bool true,born:=c6}]):=
 h.append (.cons ⟨by rfl,rfl⟩ .nil)
theorem bc.modify{c:Type}{R:α->c->Prop}{f:c->c}:∀{l:I α} {m:I c} {j:Nat},bc R l m->(∀a b,R a b->m[j]?=some b->R a (f b))->bc R l (m.modify j f)
 |_,_,_,.nil,_=>by simpa using bc.nil
 |_,_,0,.cons h e,k=>.cons (k _ _ h rfl) e
 |_,_,j+1,.cons h e,k=>by
  exact .cons h (bc.modify e λa b g o=>k a b g (by grind))
theorem acF(R:Rel aB nt φ S env σ n a w){k v0:Operand}(u:o.op= .mapUpdate t x k v0)(ht:u2 P t)(z:Jd v0){q l:aV}(aa:bT x=some q)(H:bT k=some l)
 {p v σ'}(V:n key=false)(h:aU (.upset q l) env σ key=some (p,v,σ'))(ar:p):cf P aB nt env σ' (ins n key) a v ((execOp a.eval o).run P w):=by
 simp only[aU,bz]at h;obtain⟨⟨Z,af⟩,G,⟨eJ,ab⟩,F,he⟩:=h;simp only at he;obtain⟨fj,ae,i,y,d,U,X⟩:=Mr ht;have A:a.eval v0= .bool true:=by
  unfold Jd at z;split at z;rfl;grind
 split at he
 . rename_i b s;split at he
   . rename_i ks B;obtain⟨rfl,rfl,rfl⟩:=he;have h1:a.eval x= .map _:=(cK R aa G ar.1).1.et;obtain⟨bs,r,rfl,_⟩:=ch.kU (cK R H F ar.2).1;obtain⟨h0,⟨es,c6,ad,g⟩,J⟩:=R.b3.blk _ _ B;have aD:=w5 ad;have M:∃c f,(execOp a.eval o).run P w= .ok .skip {w with heap:=w.heap.setIfInBounds (φ b).1 (.map c f)}/\B2 (jr ks bs.data.toList) c.toList:=by
      have E:=Jg bs 0 g;rcases E with⟨g1,g2⟩|⟨g1,j,e,g2,g3,g4,Q⟩
      . refine⟨es.toArray.push {key:= .string bs,val:= .bool true,born:=c6},c6+1,?_,?_⟩
        simp[execOp,u,h1,r,A,Instr.mapUpdate,run_underlying y,sB ad,D8 d,E3 d g2,Fc _ ad];simp only[jr,g1,cw];simpa using adj g bs c6
      . refine⟨es.toArray.modify j λe=>{e with key:= .string bs,val:= .bool true},c6,?_,?_⟩
        . have L:Instr.sameBits 10000 (Value.string bs) (Value.string bs):=by
           simp only[Instr.sameBits];rw[beq_toListBytes];simp
          have I:∀w,(Instr.keyThatStays (Value.string bs) (Value.string bs)).run P w= .ok (Value.string bs) w:=by intro w;unfold Instr.keyThatStays;rw[L];rfl
          simp[execOp,u,h1,r,A,Instr.mapUpdate,run_underlying y,sB ad,D8 d,E3 d g2,Fc _ ad,g3,g4,I]
        . simp only[jr,g1,cg];rw[Dh];refine bc.modify g λY O W T=>?_;grind
     obtain⟨c,f,K,D⟩:=M;refine⟨undef,φ,S,_,.inr ⟨K,rfl⟩,.undef,rfl,Rel.more ?_ λ_ h=>ll h⟩;refine R.rewrite B h0 rfl rfl rfl rfl (by simp) (λN C=>by simp[ee C]) (λm=>?_);exact⟨h0,⟨c.toList,f,by simp[aD],D⟩,J⟩
   grind
 grind
theorem aay{st:TypeId}{i:TypeInfo}{c:Value}(p:P.underlying st=some (.slice e))(s:P.underlying yt=some .string)(g:P.info? e=some i)(z:i.zero=some c)(A:c.cells.size=i.size)
 {base:ai Addr}{sl sc a:Nat}{y:Value}{xs d:I Value}(q:(Builtin.lenOf y).run P w= .ok a w)
 (aa:(Builtin.firstCells i.size sl (.slice base sl sc)).run P w.drew= .ok xs.toArray w.drew)(al:(Builtin.firstCells i.size a y).run P w.drew= .ok d.toArray w.drew)
 (n:sc<sl+a)(k:ki (sl+a) i.bytes)(v:sl+a<=dT){tt:TypeId}:
 ∃(b:Nat) (r:I Value),sl+a<=b/\r.length=(b-(sl+a))*i.size/\
  (Builtin.append_ #[st,yt] tt #[.slice base sl sc,y]).run P w= .ok (.slice (some ⟨w.heap.size,0,none⟩) (sl+a) b) (w.drew.alloc (.cells (xs++d++r).toArray e)):=by
 have o:∀w,(sizeOf e).run P w= .ok i.size w:=λw=>by simp[sizeOf,typeInfo,g]
 have f:∀w,(typeInfo e).run P w= .ok i w:=λw=>by simp[typeInfo,g]
 have t:∀w,(zeroValue e).run P w= .ok c w:=λw=>by simp_all[zeroValue]
 generalize x:(Question.appendCap (sl+a) sc e).cut (w.tape w.drawn (Question.appendCap (sl+a) sc e))=b;have m:sl+a<=b:=by grind[Question.cut]
 have h1:¬(sl+a<=sc):=by omega
 have u:¬(sl+a>IntKind.i64.max/\(False\/i.bytes=0)):=by grind[IntKind.max,IntKind.bits,dT]
 have j:=by
  exact k.not n
 refine⟨b,(Builtin.zeroCells c.cells (b-(sl+a))).toList,m,by grind[MS],?_⟩;have l:(choose (.appendCap (sl+a) sc e)).run P w= .ok b w.drew:=by simp_all[Question.forced]
 have aK:(xs++d++(Builtin.zeroCells c.cells (b-(sl+a))).toList).toArray=xs.toArray++d.toArray++Builtin.zeroCells c.cells (b-(sl+a)):=by simp
 rw[aK];unfold Builtin.append_;simp only[De,Da,Db,Sem.run_bind,run_underlying p,run_underlying s,Result.andThen_ok,o,Sem.run_pure,cm,cw,q,aq h1,f];rw[aq (by grind)];simp only[Sem.run_bind,Result.andThen_ok,f];rw[aq j];simp only[Sem.run_bind,Result.andThen_ok,f,l,run_askRoom,aa,al,t,fY,cg];rfl
theorem aaW{st:TypeId}{i:TypeInfo}(g:P.underlying st=some (.slice e))(k:P.underlying yt=some .string)(d:P.info? e=some i)
 {base:ai Addr}{sl sc a:Nat}{y:Value}{c:I Value}(j:(Builtin.lenOf y).run P w= .ok a w)(al:(Builtin.firstCells i.size a y).run P w= .ok c.toArray w)(m:sl+a<=sc){w':World}
 (hs:∀b,base=some b->(storeCells (b.add (sl*i.size)) c 0).run P w= .ok () w') (l:base=none->w'=w) {tt:TypeId}:
  (Builtin.append_ #[st,yt] tt #[.slice base sl sc,y]).run P w= .ok (.slice base (sl+a) sc) w':=by
 have f:∀w,(sizeOf e).run P w= .ok i.size w:=λw=>by simp[sizeOf,typeInfo,d]
 unfold Builtin.append_;simp only[De,Da,Db,Sem.run_bind,run_underlying g,run_underlying k,Result.andThen_ok,f,Sem.run_pure,cm,cw,j];cases base<;>simp_all
theorem abq(w:World)(bs:ByteArray):(Builtin.firstCells 1 bs.size (.string bs)).run P w= .ok (bs.data.toList.map λb=>Value.int .u8 b.toNat).toArray w:=by
 simp[Builtin.firstCells];grind
theorem abg(l:au):∀x,x∈(l.map λb=>Value.int .u8 b.toNat)->x.oneCell':=by
 intro x aa;simp at aa;obtain⟨b,_,rfl⟩:=aa;rfl
theorem Ny(R:Rel aB nt φ S env σ n a w){yv:Value}{st:TypeId}{B:aV}(aa:bT x=some B){K:Prop}{b l bytes:Nat}{es s:au}(T:B.get env=some (K,.c (.cQ b es.length)))(X:K)
 (p:aZ σ b=some (.buf l es))(d:n key=false)(Q:ki (es.length+s.length) bytes)(H:es.length+s.length<=dT)
 (A:∀r w',(Builtin.append_ #[st,yt] o.type #[a.eval x,yv]).run P w= .ok r w'->(execOp a.eval o).run P w= .ok (.value r) w')
 (D:∀base sl sc w',sl+s.length<=sc->(∀t,base=some t->(storeCells (t.add (sl*1)) (s.map λb=>Value.int .u8 b.toNat) 0).run P w= .ok () w')->(base=none->w'=w)->(Builtin.append_ #[st,yt] o.type #[.slice base sl sc,yv]).run P w= .ok (.slice base (sl+s.length) sc) w')
 (cM:∀base sl sc (xs:I Value),(Builtin.firstCells 1 sl (.slice base sl sc)).run P w.drew= .ok xs.toArray w.drew->sc<sl+s.length->ki (sl+s.length) bytes->sl+s.length<=dT->
  ∃(q:Nat) (r:I Value),sl+s.length<=q/\r.length=(q-(sl+s.length))*1/\(Builtin.append_ #[st,yt] o.type #[.slice base sl sc,yv]).run P w= .ok (.slice (some ⟨w.heap.size,0,none⟩) (sl+s.length) q) (w.drew.alloc (.cells (xs++(s.map λb=>Value.int .u8 b.toNat)++r).toArray l))):
 cf P aB nt env (dA (hS σ b) key (.buf l (es++s))) (ins n key) a (.c (.cQ key (es.length+s.length))) ((execOp a.eval o).run P w):=by
 have W:∀b,w.heap.size<=b->∀j,¬S b j:=λb F j aH=>by have:=R.b3.st _ _ aH;omega
 obtain⟨ar,af,bj⟩:=(cK R aa T X).1.et;have M:=R.b3.blk _ _ p;obtain⟨g1,g2,g3⟩:=M;by_cases Y:es.length+s.length<=(φ b).2
 . by_cases f:(φ b).2=0
   . have G:es=[]:=ko (by omega);have N:s=[]:=ko (by omega);have m:=af f;have g:=D none 0 0 w (by omega) (λt E=>by grind) (λ_=>rfl);rw[<-m]at g;have R':=(R.del b).jZ d (x:= .buf l (es++s)) (0,0) rfl (by grind[dj,dU]) (by simp);refine⟨_,_,S,w,.inl (A _ _ g),.c ?_,by simp[V.aJ,C.aJ,ins],R'⟩;rw[N,G];refine⟨by simp,λ_=>?_,λh=>?_⟩
     rfl;simp[dU]at h
   . obtain⟨⟨vs,ad,Z,ab⟩,J⟩:=g3 f;have m:=bj f;have aq:es.length+(s.map λb=>Value.int .u8 b.toNat).length<=vs.length:=(by grind);obtain⟨w',av,ah,ai,aj,ak,ay,am⟩:=nw (P:=P) _ es.length 0 vs w ad (by omega) (abg _)
     have g:=D (some ⟨(φ b).1,0,none⟩) es.length (φ b).2 w' Y (λt E=>by
      cases E;have ao:Addr.add ⟨(φ b).1,0,none⟩ (es.length*1)=⟨(φ b).1,es.length,none⟩:=by rw[zz];unfold Addr.add;split<;>simp_all
      grind) (λF=>by cases F)
     rw[<-m]at g
     have u:=(R.del b).world (w':=w') (λk=>k=(φ b).1) ah ai aj (vf ak.symm) (λk _ d=>am k d) (λk d=>by
      subst d;refine⟨J,λk y al d=>?_,R.own b _ p f⟩;rw[gb]at al;split at al;cases al
      . rename_i z
        exactλe=>R.b3.inj k b y _ al p (ee z) d f e)
     have v:=u.jZ d (x:= .buf l (es++s)) (φ b) rfl (by
      simp only[dj,dU]
      grind[List.length_append,p5,oK]) (λ_=>⟨λk y al d=>by
       rw[gb]at al;split at al;cases al
       . rename_i z
         exact R.b3.inj k b y _ al p (ee z) d f,R.own b _ p f⟩)
     refine⟨_,_,S,w',.inl (A _ _ g),.c ?_,by simp[V.aJ,C.aJ,ins],v⟩;refine⟨by simp[dU];omega,λh=>?_,λ_=>?_⟩;simp[dU,f]at h;simp[dU]
 . have u:=R.drew;have O:∃base,a.eval x= .slice base es.length (φ b).2/\∃xs:I Value,(Builtin.firstCells 1 es.length (.slice base es.length (φ b).2)).run P w.drew= .ok xs.toArray w.drew/\xs.length=es.length/\∀(i:Nat) c,es[i]?=some c->xs[i]?=some (.int .u8 (UInt8.toNat c)):=by
    by_cases f:(φ b).2=0;have G:es=[]:=ko (by omega);simp_all[Builtin.firstCells]
    . obtain⟨⟨vs,ad,Z,ab⟩,J⟩:=g3 f;refine⟨_,bj f,vs.take es.length,?_,by simp;omega,λj c ap=>?_⟩
      show(loadCells ⟨(φ b).1,0,none⟩ (es.length*1)).run P w.drew=_;rw[zz];refine AF (by simp;omega) (λj U=>?_);rw[iy,zt,ag U];exact jv (w:=w.drew) ad j;grind
   obtain⟨base,m,xs,ae,aw,ax⟩:=O;obtain⟨q,r,h1,an,g⟩:=cM base es.length (φ b).2 xs ae (by omega) Q H;rw[<-m]at g;have v:=(u.del b).alloc (.cells (xs++(s.map λb=>Value.int .u8 b.toNat)++r).toArray l)
   have L:=v.jZ d (x:= .buf l (es++s)) (w.heap.size,q) rfl (by
    simp only[dj,dU];refine⟨by simp[];omega,by rw[ea];exact H,λ_=>⟨⟨_,heap_alloc_new,?_,?_⟩,W _ (e' _)⟩⟩;grind
    grind) (λ_=>⟨λk y al h0=>by
     rw[gb]at al;split at al;cases al
     . have:=(R.b3.blk k y al).j3 h0
       simp;omega,.inr R.ext.size⟩)
   refine⟨_,_,S,_,.inl (A _ _ g),.c ?_,by simp[V.aJ,C.aJ,ins],L⟩;refine⟨by simp[dU];omega,λh=>?_,λ_=>?_⟩;simp[dU]at h;omega;simp[dU]
theorem abz(R:Rel aB nt φ S env σ n a w){x y:Operand}{st yt e:TypeId}(H:o.op= .call {callee:= .builtin .append,args:=#[x,y],argTypes:=#[st,yt]})
 (q:P.underlying st=some (.slice e))(u:P.underlying yt=some .string){i:TypeInfo}(m:P.info? e=some i)(c:i.size=1)(z:(i.zero.map (·.cells.size))=some 1)
 {g j:aV}(aa:bT x=some g)(al:bT y=some j)
 {p v σ'}(F:n key=false)(h:aU (.appendB e i.bytes g j) env σ key=some (p,v,σ'))(ar:p):cf P aB nt env σ' (ins n key) a v ((execOp a.eval o).run P w):=by
 simp only[aU,bz]at h;obtain⟨⟨Q,U⟩,D,⟨T,V⟩,E,he⟩:=h;simp only at he;simp only[bL]at z;obtain⟨W,M,L⟩:=z;split at he
 . rename_i b len s;split at he
   . rename_i O es N;obtain⟨rfl,rfl,rfl⟩:=he;obtain⟨I,J,rfl,rfl,C,G⟩:=ar;obtain⟨bs,l,rfl,_⟩:=ch.kU (cK R al E J).1;have k:bs.data.toList.length=bs.size:=by rw[<-w8]
     have t:∀w,(Builtin.lenOf (a.eval y)).run P w= .ok bs.data.toList.length w:=by intro w;simp[l,k,Builtin.lenOf]
     have A:∀w,(Builtin.firstCells i.size bs.data.toList.length (a.eval y)).run P w= .ok (bs.data.toList.map λb=>Value.int .u8 b.toNat).toArray w:=by intro w;rw[l,c,k];exact abq w bs
     refine Ny R aa D I N F C G (st:=st) (yt:=yt) (yv:=a.eval y) (λr w' K=>by simp[execOp,H,Go.resolve,invoke,builtin,K]) (λbase sl sc w' h1 d f=>?_) (λbase sl sc xs h1 d f B=>?_);exact aaW q u m (t w) (A w) h1 (by rw[c];exact d) f;have:=aay (P:=P) (w:=w) (tt:=o.type) q u m M (by rw[L,c]) (t w) (by rw[c];exact h1) (A w.drew) d f B;rw[c]at this;exact this
   grind
 grind
theorem acG(s:au):∀(i:Nat) c,s[i]?=some c->(s.map λc=>([.int .u8 c.toNat]:I T))[i]?=some [.int .u8 c.toNat]:=by simp_all
theorem Mi{s:au}{d:I Value}(ak:d.length=s.length)(h:jf w S 1 (s.map λc=>[.int .u8 c.toNat]) d):d=s.map λb=>Value.int .u8 b.toNat:=by
 refine xX λi=>?_;by_cases a:i<s.length
 obtain⟨v,e,f⟩:=h i 0 _ _ (acG s i _ (fm a)) rfl;cases f;simp only[zz,ve]at e;rw[e];simp[a];simp[List.getElem?_eq_none (zw (ak▸a)),List.getElem?_eq_none (zw a)]
theorem abA(R:Rel aB nt φ S env σ n a w){x y:Operand}{st yt e aj:TypeId}(J:o.op= .call {callee:= .builtin .append,args:=#[x,y],argTypes:=#[st,yt]})
 (m:P.underlying st=some (.slice e))(A:P.underlying yt=some (.slice aj)){i:TypeInfo}(k:P.info? e=some i)(Y:i.size≠0)(B:(i.zero.map (·.cells.size))=some i.size)
 {f E:aV}(aa:bT x=some f)(al:bT y=some E)
 {p v σ'}(H:n key=false)(h:aU (.append e i.size i.bytes f E) env σ key=some (p,v,σ'))(ar:p):cf P aB nt env σ' (ins n key) a v ((execOp a.eval o).run P w):=by
 by_cases I:∃q b l,f.get env=some (q,.c (.cQ b l))
 case neg=>exact abb R J m A k Y B aa al H h (λq b l e=>I ⟨q,b,l,e⟩) ar
 obtain⟨am,b,len,F⟩:=I;simp only[aU,F,ay,bz]at h;obtain⟨⟨an,ai⟩,G,h⟩:=h;rw[show mS (.c (.cQ b len)) ai=none from rfl]at h;simp only[bz]at h;obtain⟨Q,M,he⟩:=h;split at he
 . rename_i ak es ah;obtain⟨s,hs,he⟩:=o8.1 he;cases he;obtain⟨W,K,rfl,d,rfl,z,U,V⟩:=ar;simp only[bL]at B;obtain⟨aq,ag,ad⟩:=B;have L:∀e,e∈Q.1->e.length=1:=by rw[z];simp
   obtain⟨t,ao,C,Z,N,_⟩:=x1 (P:=P) R al G K (by decide:0<1) M L;obtain⟨_,ap,D,ab,O,_⟩:=x1 (P:=P) R.drew al G K (by decide:0<1) M L;have u:Q.1.length=s.length:=by rw[z];simp
   rw[z]at N O;have ae:=Mi (by rw[Z,u,zz]) N;have af:=Mi (by rw[ab,u,zz]) O;subst ae;subst af;rw[u]at t C D;rw[<-d]at C D;refine Ny R aa F W ah H U V (st:=st) (yt:=yt) (yv:=a.eval y) (λr w' X=>by simp[execOp,J,Go.resolve,invoke,builtin,X]) (λbase sl sc w' h1 g j=>?_) (λbase sl sc xs h1 g j T=>?_);exact xn m A k t C h1 (by rw[d];exact g) j;have:=IJ (P:=P) (w:=w) (tt:=o.type) m A k ag ad t (by rw[d];exact h1) D g j T;rw[d]at this;exact this
 cases he
theorem acH(R:Rel aB nt φ S env σ n a w){x:Operand}{t:TypeId}(e:o.op= .call {callee:= .builtin .unsafeSliceData,args:=#[x],argTypes:=#[t]}){d:aV}(aa:bT x=some d)
 {p v σ'}(i:n key=false)(h:aU (.sdata d) env σ key=some (p,v,σ'))(ar:p):cf P aB nt env σ' (ins n key) a v ((execOp a.eval o).run P w):=by
 simp only[aU,bz]at h;obtain⟨⟨k,l⟩,f,he⟩:=h;simp at he;split at he
 . rename_i b len;obtain⟨rfl,rfl,rfl⟩:=he;have av:=cK R aa f ar;obtain⟨j,g,bj⟩:=av.1.et;by_cases h0:(φ b).2=0
   . refine cf.pure R ?_ (.c ⟨none,rfl,λh=>absurd h0 h⟩) (by grind[V.aJ,C.aJ]);simp[execOp,e,Go.resolve,invoke,builtin,g h0,Go.Lib.run_unsafeSliceData_nil]
   . refine cf.pure R ?_ (.c ⟨_,rfl,λ_=>rfl⟩) (by grind[V.aJ,C.aJ]);simp[execOp,e,Go.resolve,invoke,builtin,bj h0,Go.Lib.run_unsafeSliceData_row _ _ _ _ _ _ h0]
 grind
theorem acI{b m:Nat}{a:Addr}(c:b≠a.block):(w.freeze a m).heap[b]?=w.heap[b]?:=by
 grind[World.freeze]
theorem abh(a:Addr)(m:Nat):(w.freeze a m).os=w.os/\(w.freeze a m).tape=w.tape/\(w.freeze a m).output=w.output/\(w.freeze a m).heap.size=w.heap.size:=by
 grind[World.freeze]
theorem adk(R:Rel aB nt φ S env σ n a w){x y:Operand}{cW it e:TypeId}(H:o.op= .call {callee:= .builtin .unsafeString,args:=#[x,y],argTypes:=#[cW,it]})
 (K:P.underlying cW=some (.pointer e))(D:P.cellsOf e=1){l q:aV}(aa:bT x=some l)(al:bT y=some q)
 {p v σ'}(d:n key=false)(h:aU (.ustr e l q) env σ key=some (p,v,σ'))(ar:p):cf P aB nt env σ' (ins n key) a v ((execOp a.eval o).run P w):=by
 simp only[aU,bz]at h;obtain⟨⟨Z,ae⟩,E,⟨ab,af⟩,F,he⟩:=h;simp only at he;split at he
 . rename_i b m;split at he
   . rename_i s es i;obtain⟨rfl,rfl,rfl⟩:=he;obtain⟨I,J,rfl,rfl⟩:=ar;obtain⟨M,h1,W⟩:=(cK R aa E I).1.et;have B:=(cK R al F J).1.gh;have C:=R.b3.blk _ _ i;obtain⟨g1,g2,g3⟩:=C;have z:∀w',ca w' S (.str es) (.string ⟨es.toArray⟩):=by
      intro w';have:=ca.str (w:=w') (S:=S) (⟨es.toArray⟩:ByteArray) (by rw[<-w8];grind[dT,eT]);omega
     have u:∀r w',(Builtin.unsafeString_ #[cW,it] o.type #[a.eval x,a.eval y]).run P w= .ok r w'->(execOp a.eval o).run P w= .ok (.value r) w':=by
      intro r w' t;simp[execOp,H,Go.resolve,invoke,builtin,t]
     by_cases f:es=[];subst f;refine⟨.string ⟨#[]⟩,φ,S,w,.inl (u _ _ ?_),.c (z w),rfl,(R.del b).more λ_ h=>ll h⟩;rw[h1,B];exact Go.Lib.run_unsafeString_none w cW it o.type M
     . have V:=qP.2 f;have g:(φ b).2≠0:=(by omega);obtain⟨⟨vs,ad,X,Y⟩,G⟩:=g3 g;have L:w.shape? (φ b).1=some (s,vs.length):=by grind[World.shape?]
       have t:=Go.Lib.run_unsafeString_row (P:=P) w cW it o.type s K D _ vs.length L es f (by omega) (by grind[dT]) (λj c U=>by
        grind[Addr.add,jv])
       obtain⟨N,O,Q,T⟩:=abh (w:=w) ⟨(φ b).1,0,none⟩ es.length
       have A:=(R.del b).world _ N O Q (vf T.symm) (λk _ d=>acI d) (λk d=>by
        subst d;refine⟨G,λk y al d=>?_,R.own b _ i g⟩;rw[gb]at al;split at al;grind
        . rename_i f
          exactλe=>R.b3.inj k b y _ al i (ee f) d g e)
       refine⟨.string _,φ,S,_,.inl (u _ _ ?_),.c (z _),rfl,A.more λ_ h=>ll h⟩;grind
   grind
 grind
end
section
variable {P:Program}{aB:Ctx}{nt:Nat}{φ:dx}{S:dy}{env:Env}{σ:bh}{n:Nat->J}{key:Nat}{a:Act}{w:World}
theorem JG{d:Nat}{e:TypeId}{k:Nat}(f:qK P e=some k){xs c:Array Value}:∀{m i:Nat} {ps qs:I C} {us vs:I Value} {r:J},
 lU (List.replicate m k) ps qs=some r->bc (bG φ w S) ps us->bc (bG φ w S) qs vs->xs.toList.drop i=us->c.toList.drop i=vs->(Op.eqItems (d+1) e 1 xs c (List.range' i m)).run P w= .ok r w
 |0,i,ps,qs,us,vs,r,a,_,_,_,_=>by
  cases ps<;>cases qs<;>simp[lU]at a;subst a;simp[Op.eqItems]
 |m+1,i,ps,qs,us,vs,r,a,E,F,aK,g=>by
  have A:=Oy f;have j:∀(l:Array Value) (z:Value) (n:I Value),l.toList.drop i=z::n->(part e l (i*1)).run P w= .ok z w:=λl z n aa=>by
   have:l[i]?=some z:=by
    have:=dN (·[0]?) aa;simpa using this
   simp[part,uU A,this]
  rw[List.replicate_succ]at a;cases ps with
  |nil=>simp[lU]at a
  |cons p ps=>cases qs with
   |nil=>cases p<;>simp[lU]at a
   |cons q qs=>
    cases p<;>cases q<;>simp only[lU,bz,bL]at a<;>try cases a
    rename_i x y b h;obtain⟨B,G,D,rfl⟩:=h;cases E with
    |cons h1 o=>cases F with
     |cons s t=>
      rename_i u us v vs;have f1:xs.toList.drop (i+1)=us:=by rw[<-vd,aK];rfl
      have f2:c.toList.drop (i+1)=vs:=by rw[<-vd,g];rfl
      have ih:=JG (d:=d) f (m:=m) (i:=i+1) D o t f1 f2;rw[zx];simp only[Op.eqItems,Sem.run_bind,j xs u us aK,j c v vs g,Result.andThen_ok,Ox B f h1 s d];cases b with
      |true=>simpa using ih
      |false=>simp
variable{y:Operand}
theorem acJ(R:Rel aB nt φ S env σ n a w){op:BinOp}{ty:TypeId}(H:o.op= .binOp op ty x y yt)(s:op= .eql\/op= .neq){ks:bb}(b:Lr P ty=some ks)
 {g j:aV}(aa:bT x=some g)(al:bT y=some j)
 {p v σ'}(J:n key=false)(h:aU (.eqAgg (op== .neq) ks g j) env σ key=some (p,v,σ'))(ar:p):cf P aB nt env σ' (ins n key) a v ((execOp a.eval o).run P w):=by
 simp only[aU,bz]at h;obtain⟨⟨K,M⟩,E,⟨L,N⟩,F,he⟩:=h;simp only at he;split at he
 . rename_i ps qs;simp only[bL,eB]at he;obtain⟨r,I,rfl,rfl,rfl⟩:=he;obtain⟨us,c,z⟩:=(cK R aa E ar.1).1.mb;obtain⟨vs,f,A⟩:=(cK R al F ar.2).1.mb;unfold Lr at b;split at b
   . rename_i m e D;simp only[e2,bL]at b;obtain⟨⟨hs,av⟩,k,G,rfl⟩:=b;unfold eK at hs;simp only[bL]at hs;obtain⟨i,q,hs⟩:=hs;have B:P.cellsOf e=1:=(by simp[Program.cellsOf,q,hs]);have t:(eqGuard op ty x y (a.eval x) (a.eval y)).run P w= .ok () w:=by rcases s with rfl|rfl<;>simp[eqGuard,c,f,av]
     have l:(Op.equal ty (.agg us.toArray) (.agg vs.toArray)).run P w= .ok r w:=by
      obtain⟨d,C⟩:∃d,Op.maxDepth=d+2:=⟨9998,rfl⟩;unfold Op.equal;rw[C,run_equalIn_array w (d+1) _ _ D q,B,List.range_eq_range'];exact JG G I z A (by simp) (by simp)
     have u:(binOp op ty (a.eval x) (a.eval y)).run P w= .ok (.bool (if(op== .neq)then !r else r)) w:=by
      rcases s with rfl|rfl;rw[c,f];simp only[binOp,Sem.run_bind,l];rfl;rw[c,f];simp only[binOp,Sem.run_bind,l];rfl
     refine cf.pure R (x:= .bool (if(op== .neq)then !r else r)) ?_ (.pC _) rfl;simp[execOp,H,t,u]
   cases b
 cases he
theorem adl(R:Rel aB nt φ S env σ n a w){ty:TypeId}{i:Operand}(y:o.op= .index ty x i){k:Nat}(C:P.underlying ty=some (.array k e))(ak:nL P e=some (false,1))
 {d b:aV}(aa:bT x=some d)(s:bT i=some b)
 {p v σ'}(I:n key=false)(h:aU (.idxV k d b) env σ key=some (p,v,σ'))(ar:p):cf P aB nt env σ' (ins n key) a v ((execOp a.eval o).run P w):=by
 simp only[aU,bz]at h;obtain⟨⟨L,N⟩,r,⟨K,M⟩,q,he⟩:=h;simp only at he;split at he
 . rename_i cs kk m;simp only[e2,eo,eB]at he;obtain⟨H,rfl,rfl,rfl⟩:=he;obtain⟨A,B,t,J⟩:=ar;have g1:=cK R aa r A;obtain⟨us,D,j⟩:=g1.1.mb;have f:=(cK R s q B).1.gh;unfold nL at ak;simp only[bz]at ak;obtain⟨g,av,z,G,ak⟩:=ak;split at ak
   . cases ak;have aD:m.toNat<cs.length:=(by omega);obtain⟨u,E,F⟩:=j.get (show cs[m.toNat]?=some (cs.getD m.toNat .dead) by rw[List.getD,fm aD];rfl);refine cf.pure R (x:=u) ?_ (.c F) ?_
     have l:us.toArray[m.toNat*1]?=some u:=(by simpa using E);simp only[execOp,y,Sem.run_bind,D,f,Instr.index,asIntOf,run_underlying C,Result.andThen_ok,Sem.run_pure];rw[ag ⟨t,by omega⟩];simp only[Sem.run_bind,jQ G,Result.andThen_ok,part,uU av,l];rfl
     . have:=g1.2;simp only[V.aJ,gF]at this⊢;refine this _ ?_;rw[List.getD,fm aD];exact zv aD
   cases ak
 cases he
theorem abB{ty:TypeId}(j:P.underlying ty=some (.slice e)){i:TypeInfo}{a:Value}(b:P.info? e=some i)(p:i.zero=some a){k:IntKind}{m:Int}(h0:0<=m)(d:m.toNat*i.bytes<=h4)(f:m.toNat<=dT):
 (Instr.makeSlice ty (.int k m) (.int k m)).run P w= .ok (.slice (some ⟨w.heap.size,0,none⟩) m.toNat m.toNat) (w.alloc (.cells ((Array.range (m.toNat*i.size)).map (a.cells[· % a.cells.size]!)) e)):=by
 obtain⟨c,rfl⟩:∃c:Nat,m=(c:Int):=⟨m.toNat,by omega⟩
 simp only[fH]at*;unfold dT at f;have n:IntKind.i64.wrap (c:Int)=(c:Int):=by
  simp[IntKind.wrap,IntKind.signed,IntKind.bits];omega
 have l:∀w,(typeInfo e).run P w= .ok i w:=λw=>by simp[typeInfo,b]
 have g:∀w,(sizeOf e).run P w= .ok i.size w:=λw=>by simp[sizeOf,typeInfo,b]
 have o:∀w,(zeroValue e).run P w= .ok a w:=λw=>by simp[zeroValue,typeInfo,b,p]
 have q:¬((i.bytes:Int)*(c:Int)>2^48):=by
  unfold h4 at d;rw[<-Int.natCast_mul,Nat.mul_comm];omega
 unfold Instr.makeSlice;simp only[asInt,asIntOf,Sem.run_bind,run_underlying j,Result.andThen_ok,Sem.run_pure,l,n];rw[eF];simp only[Sem.run_bind,run_askRoom,Result.andThen_ok,fH,g];by_cases h:c*i.size=0;simp only[h,cg,Sem.run_bind,Sem.run_pure,Result.andThen_ok,show Array.range 0=#[]from rfl,List.map_toArray,Array.map_empty];rfl;simp only[h,cw,Sem.run_bind,o,Sem.run_pure,Result.andThen_ok];rfl
theorem abi(R:Rel aB nt φ S env σ n a w){ty:TypeId}(Q:o.op= .makeSlice ty x y)(U:P.underlying ty=some (.slice e))(f:H' x y){i:TypeInfo}(u:P.info? e=some i)
 {z:I C}(W:kx P e=some z)(h0:i.size≠0)(F:z.length=i.size){r:aV}(aa:bT x=some r)
 {p v σ'}(M:n key=false)(h:aU (.mslice i.size i.bytes z r) env σ key=some (p,v,σ'))(ar:p):cf P aB nt env σ' (ins n key) a v ((execOp a.eval o).run P w):=by
 have hs:x=y:=by
  unfold H' at f;split at f;rw[hx f];cases f
 subst hs;simp only[aU,bz]at h;obtain⟨⟨ah,ai⟩,L,l,G,he⟩:=h;simp only at he;split at he
 . rename_i kk m;simp only[eo,eB]at he;obtain⟨rfl,rfl,rfl⟩:=he;obtain⟨T,N,O,D⟩:=ar;have K:=(cK R aa L T).1.gh;obtain⟨ag,b,A,ab,s,ae⟩:=tT (φ:=φ) (w:=w) (S:=S) (n:=n) W;rw[u]at A;cases A;have Y:=sA G s;have X:b.cells.size=i.size:=by rw[<-Dg,<-s.length,F]
   have E:0<i.size:=(by omega);have Z:l.length=i.size:=by rw[w1 G,F]
   generalize g:m.toNat=len at*;have H:=R.alloc (.cells ((Array.range (len*i.size)).map (b.cells[· % b.cells.size]!)) e);have ad:=R.wN (.cells ((Array.range (len*i.size)).map (b.cells[· % b.cells.size]!)) e)
   have J:=H.jZ M (x:= .arr i.size (List.replicate len l)) (w.heap.size,len) rfl (by
    simp only[dj,dU];refine⟨by simp,by simpa using D,λe he=>by rw[Hs he];exact Z,E,λ_=>⟨((Array.range (len*i.size)).map (b.cells[· % b.cells.size]!)).toList,e,by rw[Array.toArray_toList];exact heap_alloc_new,by simp,λa j q t he ht=>?_,λj h=>?_⟩⟩;have B:=(ev.1 he).1;simp at B;have:q=l:=Hs (fQ he);subst this;have af:=(ev.1 ht).1;obtain⟨x,aa,d⟩:=Y.get ht;refine⟨x,?_,ca.mono ad d⟩;rw[Hx,Jf X E a j B (by omega)];simpa using aa
    . have:=R.b3.st _ _ h
      omega) (λ_=>⟨λk y al h0=>by
       have:=(R.b3.blk k y al).j3 h0
       simp;omega,.inr R.ext.size⟩)
   refine⟨.slice (some ⟨w.heap.size,0,none⟩) len len,_,S,_,.inl ?_,.c ⟨some ⟨w.heap.size,0,none⟩,by simp[dU],by simp[dU],by simp[dU]⟩,by simp[V.aJ,C.aJ,ins],J⟩;have d:=abB (P:=P) (w:=w) U u ab (k:=kk) N (by rw[g];exact O) (by rw[g];exact D);rw[g]at d;simp only[execOp,Q,Sem.run_bind,K,d,Result.andThen_ok];rfl
 cases he
theorem xp{x:Array α}{a b:α}(h:x.toList=[a,b]):x=#[a,b]:=by grind
theorem Lt{x:Array α}{a:α}(h:x.toList=[a]):x=#[a]:=by grind
theorem adm(R:Rel aB nt φ S env σ n a w)(q:o.op= .call c){s:db}(b:nA P c=some s)
 {p v σ'}(m:n key=false)(h:aU s env σ key=some (p,v,σ'))(ar:p):cf P aB nt env σ' (ins n key) a v ((execOp a.eval o).run P w):=by
 obtain⟨callee,args,argTypes⟩:=c;unfold nA at b;split at b;grind[Lt,bL,adG]
 . rename_i k;split at b
   . rename_i x y t u aa ht;have aa:=xp aa;have ht:=xp ht;subst k;subst aa;subst ht;split at b
     rename_i e g r;simp only[bz,e2,eo]at b;obtain⟨i,l,z,d,A,f,⟨h1,j,B⟩,rfl⟩:=b;exact abz R q g r l h1 j d f m h ar;rename_i e C g r;simp only[bz,e2,eo]at b;obtain⟨i,l,z,d,A,f,⟨h1,j⟩,rfl⟩:=b;exact abA R q g r l h1 j d f m h ar;cases b
   grind
 grind[xp,bz,bL,abQ];grind[xp,bz,bL,abR]
 . split at b
   . rename_i x t aa ht;have aa:=Lt aa;have ht:=Lt ht;subst aa;subst ht;split at b
     simp only[e2,bL]at b;grind[acH];cases b
   grind
 . rename_i k;split at b
   . rename_i x y t u aa ht;have aa:=xp aa;have ht:=xp ht;subst k;subst aa;subst ht;split at b
     rename_i e g;simp only[e2,bz,bL]at b;obtain⟨⟨_,_,B⟩,z,d,A,f,rfl⟩:=b;exact adk R q g B d f m h ar;grind
   grind
 grind[bL,aU];grind[bL,aU];grind
theorem cf.mono{v:V}{σ':bh}{dF c:Nat->J}(h:∀b,dF b->c b){r:Result Next}(g:cf P aB nt env σ' dF a v r):cf P aB nt env σ' c a v r:=by
 obtain⟨x,bw,bx,w',h1,e,f,R'⟩:=g;exact⟨x,bw,bx,w',h1,e,V.h8 h f,R'.more h⟩
theorem abW(R:Rel aB nt φ S env σ n a w){K:db}(b:du P o.op=some K)
 (ab:∀e e8,K≠.allocS e e8){p v σ'}(j:n key=false)(h:aU K env σ key=some (p,v,σ'))(ar:p):cf P aB nt env σ' (ins n key) a v ((execOp a.eval o).run P w):=by
 generalize l:o.op=op at b;cases op with
 |move x=>simp only[du,bL]at b;obtain⟨q,aa,rfl⟩:=b;exact Ov R (.inl l) aa j h ar
 |assign x=>simp only[du,bL]at b;obtain⟨q,aa,rfl⟩:=b;exact Ov R (.inr l) aa j h ar
 |pick c x y=>
  simp only[du,bz,bL]at b;obtain⟨ac,U,q,aa,D,al,rfl⟩:=b;exact abM R l U aa al j h ar
 |alloc e=>
  simp only[du]at b;split at b;cases b;exact absurd rfl (ab _ _)
  . simp only[bz]at b;obtain⟨cs,N,b⟩:=b;split at b
    . split at b
      rename_i U;cases b;exact abd R l N (by omega) (by omega) j h ar;cases b;exact Mg R l N j h ar
    cases b;exact Mg R l N j h ar
 |box e x=>simp only[du,bL]at b;obtain⟨q,aa,rfl⟩:=b;exact adI R l aa j h ar
 |build t parts=>
  simp only[du]at b;split at b;rename_i fs G;simp only[e2,bz,bL]at b;obtain⟨h1,z,F,ps,H,rfl⟩:=b;exact acB R l G h1 F H j h ar;simp only[bz,bL]at b;rename_i len e A;obtain⟨z,F,m,B,ps,H,rfl⟩:=b;exact abp R l A B F H j h ar;cases b
 |buildSlice t len parts=>
  simp only[du]at b;split at b;rename_i e A;simp only[bz,e2,eo]at b;obtain⟨m,B,z,F,ps,H,⟨h1,L,M⟩,rfl⟩:=b;exact aba R l A B F H h1 L M j h ar;cases b
 |load t x=>
  simp only[du,bz,bL]at b;obtain⟨g,av,q,aa,rfl⟩:=b;exact ac8 R l av aa j h ar
 |store t x y=>
  simp only[du,bz,bL]at b;obtain⟨m,B,q,aa,D,al,rfl⟩:=b;exact acA R l B aa al j h ar
 |nilCheck x=>simp only[du,bL]at b;obtain⟨q,aa,rfl⟩:=b;exact abo R l aa j h ar
 |binOp op t x y yt=>
  simp only[du]at b;split at b
  . rename_i T;split at b
    simp only[bz,bL]at b;obtain⟨ks,Q,q,aa,D,al,rfl⟩:=b;exact acJ R l T Q aa al j h ar;simp only[bz,bL]at b;obtain⟨ks,Q,q,aa,D,al,rfl⟩:=b;exact acz R l T Q aa al j h ar;simp only[e2,bL]at b;grind[aU];rename_i A;simp only[bz,bL]at b;obtain⟨q,aa,D,al,rfl⟩:=b;exact aa9 R l T A aa al j h ar;simp only[bz,bL]at b;obtain⟨q,aa,D,al,rfl⟩:=b;exact KD R l aa al j h ar;simp only[bz,bL]at b;obtain⟨q,aa,D,al,rfl⟩:=b;exact KD R l aa al j h ar;cases b
  simp only[bz,bL]at b;obtain⟨q,aa,D,al,rfl⟩:=b;exact KD R l aa al j h ar
 |unOp u t x=>
  cases u<;>simp only[du,bL,reduceCtorEq]at b
  . split at b
    simp only[bL]at b;obtain⟨q,aa,rfl⟩:=b;exact adA R l aa j h ar;cases b
  . split at b
    simp only[bL]at b;obtain⟨q,aa,rfl⟩:=b;exact adB R l aa j h ar;cases b
  obtain⟨q,aa,rfl⟩:=b;exact adz R l aa j h ar
 |convert s d x=>
  simp only[du]at b;split at b;rename_i hs E;simp only[bL]at b;obtain⟨q,aa,rfl⟩:=b;exact abO R l hs E aa j h ar;rename_i hs E;simp only[bL]at b;obtain⟨q,aa,rfl⟩:=b;exact adC R l hs E aa j h ar;rename_i hs E;simp only[bL]at b;obtain⟨q,aa,rfl⟩:=b;exact adD R l hs E aa j h ar;rename_i e hs E;simp only[e2,bL]at b;obtain⟨⟨he,V⟩,q,aa,rfl⟩:=b;have Z:P.underlying e=some (.int .u8):=(by grind);exact adK R l hs Z E aa j h ar;cases b
 |fieldAddr t x f=>
  simp only[du]at b;split at b;rename_i fs G;simp only[bz,Dr,bL]at b;obtain⟨Y,O,m,B,I,q,aa,rfl⟩:=b;exact abP R l G O B I aa j h ar;cases b
 |field t x f=>
  simp only[du]at b;split at b;rename_i fs G;simp only[bz,bL]at b;obtain⟨Y,O,g,av,q,aa,rfl⟩:=b;obtain⟨h1,L,M⟩:=Kl av;exact adE R l G O L h1 M aa j h ar;cases b
 |indexAddr t x i=>
  simp only[du]at b;split at b;rename_i e A;simp only[bz,Dr,bL]at b;obtain⟨m,B,I,q,aa,J,C,rfl⟩:=b;exact abS R l A B I aa C j h ar
  . rename_i k e A;split at b
    simp only[e2,bz,bL]at b;obtain⟨h0,s,hs,q,aa,rfl⟩:=b;exact adf R l A h0 hs aa j h ar;simp only[e2,bz,bL]at b;obtain⟨V,q,aa,J,C,rfl⟩:=b;exact ade R l A V aa C j h ar
  cases b
 |index t x i=>
  simp only[du]at b;split at b;rename_i A;simp only[bz,bL]at b;obtain⟨q,aa,J,C,rfl⟩:=b;exact abT R l A aa C j h ar;rename_i A;simp only[e2,bz,bL]at b;obtain⟨ak,q,aa,J,C,rfl⟩:=b;exact adl R l A ak aa C j h ar;cases b
 |slice t x af C ag=>
  simp only[du]at b;split at b;rename_i A;simp only[e2,bz,bL,Option.isNone_iff_eq_none]at b;obtain⟨rfl,q,aa,X,ak,W,ad,rfl⟩:=b;exact abV R l A aa ak ad j h ar
  . rename_i e A;split at b
    simp only[bz,Dr,bL]at b;obtain⟨m,B,I,q,aa,X,ak,W,ad,rfl⟩:=b;exact adH R l A B aa ak ad j h ar
    . split at b
      simp only[e2,bL]at b;grind[Option.isSome_iff_exists,ac7];cases b
    cases b
  simp only[e2,bz,bL,Option.isNone_iff_eq_none]at b;grind[adg];grind
 |makeFunc fn first caps=>
  cases fn<;>simp only[du,e2,bL,reduceCtorEq]at b;grind[abU]
 |extract x i=>grind[du,bL,adF]
 |makeSlice t x y=>
  simp only[du]at b;split at b;rename_i A;simp only[e2,bz,bL]at b;obtain⟨ae,i,C,z,F,⟨h0,ak⟩,q,aa,rfl⟩:=b;exact abi R l A ae C F h0 ak aa j h ar;cases b
 |makeMap t r=>
  cases r with
  |some _=>simp[du]at b
  |none=>
   simp only[du,e2,eo]at b;grind[acD]
 |lookup t x i c=>
  cases c with
  |true=>simp[du]at b
  |false=>
   simp only[du,e2,bz,bL]at b;grind[acE]
 |mapUpdate t m k v0=>
  simp only[du,e2,bz,bL]at b;grind[acF]
 |call c=>grind[du,adm]
 |_=>simp[du]at b
def e1(n:Nat->J)(k:Nat):Nat->J:=λb=>n b||((k<=b:J)&&(b<k+16:J))
theorem mw{b:Nat}(h:n b):e1 n key b:=by grind[e1]
theorem O9{b:Nat}(h:ins n key b):e1 n key b:=by
 grind[ins,e1]
theorem MT{b:J}{op:Op}{a:db}(h:w4 P b op=some a):du P op=some a\/∃t len parts e m z ps,op= .buildSlice t len parts/\P.underlying t=some (.slice e)/\eK P e=some m/\kx P e=some z/\qd parts.toList=some ps/\m≠0/\z.length=m/\len*m<=2^24/\a= .bsliceT e m len z ps:=by
 unfold w4 at h;grind[bz]
theorem aaX{op:Op}{e e8:Nat}(h:du P op=some (.allocS e e8)):op= .alloc e/\A3 P e=some e8:=by
 cases op with
 |alloc a=>
  grind[du,bz]
 |buildSlice t len parts=>
  simp[du]at h;split at h;simp_all[bz];grind
 |build t parts=>
  simp[du]at h;split at h;simp_all[bz];grind[bz,bL];grind
 |call c=>
  simp[du]at h;unfold nA at h
  repeat' (first|(split at h)|(done))
  all_goals simp only[bz,bL,e2,eo,reduceCtorEq,qN,zy,exists_const]at h
 |binOp op t x y yt=>
  simp only[du]at h
  repeat' (first|(split at h)|(cases h;done))
  all_goals simp only[bz,bL,e2,eo,reduceCtorEq,qN,zy,exists_const]at h
 |unOp u t x=>
  cases u<;>simp only[du]at h
  all_goals repeat' (first|(split at h)|(cases h;done))
  all_goals simp_all
 |makeMap t r=>cases r<;>simp only[du,reduceCtorEq,e2,eo,qN]at h
 |lookup t x i c=>cases c<;>simp only[du,reduceCtorEq,e2,bz,bL,qN,zy]at h
 |makeFunc fn first caps=>cases fn<;>simp only[du,e2,bL,reduceCtorEq,qN,zy]at h
 |convert s d x=>
  simp only[du]at h
  repeat' (first|(split at h)|(cases h;done))
  all_goals simp_all
 |_=>
  simp only[du]at h
  try repeat' (first|(split at h)|(cases h;done))
  all_goals simp only[bz,bL,e2,Dr,reduceCtorEq,qN,zy,exists_const]at h
theorem adn(R:Rel aB nt φ S env σ n a w){f:db}{j:J}(d:w4 P j o.op=some f)
 {p v σ'}(aL:∀b,key<=b->b<key+16->n b=false)(h:aU f env σ key=some (p,v,σ'))(ar:p):cf P aB nt env σ' (e1 n key) a v ((execOp a.eval o).run P w):=by
 have g:=aL _ (e' _) (by simp);rcases MT d with d|⟨t,len,parts,e,m,z,ps,i,u,r,x,s,h1,k,l,rfl⟩
 . by_cases hs:∃e e8,f= .allocS e e8
   . obtain⟨e,e8,rfl⟩:=hs;obtain⟨i,q⟩:=aaX d;refine(abe R i q g (aL _ (by simp) (by simp)) h ar).mono λb c=>?_;grind[ins,e1]
   exact(abW R d (λe e8 he=>hs ⟨e,e8,he⟩) g h ar).mono λb c=>O9 c
 exact(aby R i u r x s h1 k l g h ar).mono λb c=>O9 c
end
def iC(P:Program)(f:Nat)(args:I V)(σ:bh)(key:Nat)(K:V->bh->Prop):Prop:=
 ∀aB nt φ S env n a w,Rel aB nt φ S env σ n a w->(∀b,key<=b->b<key+16->n b=false)->V.aJ.V.d' n args->∀vs:I Value,bc (ch φ w S) args vs->
  Calls P f vs.toArray w λe w'=>∃v r bw bx σ',e= .returned v/\K r σ'/\ch bw w' bx r v/\r.aJ (e1 n key)/\Rel aB nt bw bx env σ' (e1 n key) a w'
theorem iC.mono{P:Program}{args:I V}{σ:bh}{key:Nat}{K c:V->bh->Prop}(h:iC P f args σ key K)(p:∀r σ',K r σ'->c r σ'):iC P f args σ key c:=
 λaB nt φ S env n a w R aL o vs q=>(h aB nt φ S _ n a w R aL o vs q).mono λe w' ⟨v,r,bw,bx,σ',h1,g,j⟩=>⟨v,r,bw,bx,σ',h1,p _ _ g,j⟩
def gU(env:Env):ai (Nat×J)->ai J
 |none=>some true
 |some (t,b)=>match look env t with
  |some (g,.c (.t (.bool x)))=>some (g&&(x==b))
  |_=>none
def eO(env:Env)(dst:ai Nat)(g:J)(v:V):Env:=
 match dst with
 |none=>env
 |some d=>(d,g,v)::env
def tk(b:J):V:= .c (.t (.bool b))
def h2(P:Program)(o:cl)(key:Nat)(env:Env)(σ:bh)(K:Env->bh->Prop):Prop:=
 match gU env o.guard with
 |none=>False
 |some g=>(g=false/\∃v,K (eO env o.dst g v) σ)\/
  match o.op with
  |.call f args=>match ix env args with
   |some (p,vs)=>match o.guard with
    |none=>p/\iC P f vs σ key (λr σ'=>K (eO env o.dst true r) σ')
    |some _=>(g=true/\p/\iC P f vs σ key (λr σ'=>K (eO env o.dst true r) σ'))\/∃r,(g=true->p/\iC P f vs σ key (λa σ'=>a=r/\σ'=σ))/\K (eO env o.dst g r) σ
   |none=>False
  |.iO x args=>match x.get env,ix env args with
   |some (q,.c (.fn f caps)),some (p,vs)=>o.guard=none/\h5 P f/\q/\p/\iC P f (vs++caps.map (λb=>V.c (.ptr b 0))) σ key (λr σ'=>K (eO env o.dst true r) σ')
   |_,_=>False
  |.eqNil neg x=>match x.get env with
   |some (p,.c (.t (.slice es)))=>o.guard=none/\p/\∀b:J,(es≠[]->b=false)->K (eO env o.dst true (tk (if neg then !b else b))) σ
   |some (p,.c .bX)=>o.guard=none/\p/\∀b:J,K (eO env o.dst true (tk (if neg then !b else b))) σ
   |some (p,.c (.arr _ _ _ l))=>o.guard=none/\p/\∀b:J,(l≠0->b=false)->K (eO env o.dst true (tk (if neg then !b else b))) σ
   |_=>False
  |op=>match aU op env σ key with
   |some (p,v,σ')=>(g=true->p)/\(op.cG\/g=true)/\K (eO env o.dst g v) (if op.cG then σ else σ')
   |none=>False
def k2(P:Program):I cl->Nat->Env->bh->(Env->bh->Prop)->Prop
 |[],_,env,σ,K=>K env σ
 |o::r,key,env,σ,K=>h2 P o key env σ λenv' σ'=>k2 P r (key+16) env' σ' K
section
variable {P:Program}{aB:Ctx}{nt:Nat}{φ:dx}{S:dy}{env:Env}{σ:bh}{n:Nat->J}{key:Nat}{a:Act}{w:World}
theorem nE{v:V}{k:Nat}:look (eO env dst g v) k=if dst=some k then some (g,v)else look env k:=by
 unfold eO;grind[look]
theorem Rel.yM(R:Rel aB nt φ S env σ n a w)(o:∀d,dst=some d->d<nt){x:Value}{v:V}(aa:g=true->ch φ w S v x)(p:g=false->x=undef)(j:g=true->v.aJ n):
 Rel aB nt φ S (eO env dst g v) σ n (a.put dst x) w:=by
 have f:∀k,(a.put dst x).tmps[k]?=if dst=some k then some x else a.tmps[k]?:=by
  cases dst with
  |none=>simp[Act.put]
  |some d=>
   have aD:d<a.tmps.size:=by rw[R.size];grind
   grind[Act.put]
 refine⟨R.b3,λk c e ak av=>?_,λk c e ak av=>?_,λk c e ak av=>?_,R.ei,?_,?_,R.ext,R.own,R.fix,R.hv⟩
 . rw[nE]at ak;rw[f];split at ak
   grind;rename_i h;rw[aq h];exact R.gY k c e ak av
 . rw[nE]at ak;rw[f];split at ak
   grind;rename_i h;rw[aq h];exact R.hL k c e ak av
 . rw[nE]at ak;split at ak
   grind;exact R.gX k c e ak av
 cases dst<;>simp[Act.put,R.size];cases dst<;>simp[Act.put,R.defers]
theorem Mj(R:Rel aB nt φ S env σ n a w){ops:Array Oper}{gd:ai (Nat×J)}(b:tR ops o.guard=some gd)(av:gU env gd=some g):Region.wanted o (yielded ops a.tmps)=g:=by
 unfold Region.wanted;cases i:o.guard with
 |none=>
  grind[tR,gU]
 |some j=>
  rw[i]at b;simp only[tR,bL]at b;obtain⟨d,f,rfl⟩:=b;simp[gU]at av;split at av
  . rename_i c x ak;simp at av;subst av;simp[yielded,f];cases e:c with
    |true=>
     obtain⟨y,al,b⟩:=R.gY d c _ ak e;have:=b.jO;grind
    |false=>
     have:=R.hL d c _ ak e;simp only[this];rfl
  grind
def j9(aB:Ctx)(nt:Nat)(n:Nat->J)(K:Env->bh->Prop)(a:Act)(w:World):Prop:=∃φ S env σ,K env σ/\Rel aB nt φ S env σ n a w
theorem abX  (h:h5 P f):∃ fn,P.funcs[f]? = some fn/\fn.body.isSome/\(fn.name == "runtime.NumGoroutine") = false:= by
 grind[h5]
theorem abj(h:h5 P f)(args:Array Value)(w:World):(callFunc f args).run P w= .ok (.enter f args) w:=by
 obtain⟨fn,h1,a,b⟩:=abX h;obtain⟨c,d⟩:=zD.1 a;simp only[callFunc,Sem.run_bind,run_program,Result.andThen_ok,h1,b,d,cm,cw,Option.isNone_some,Sem.run_pure]
theorem A0{o:db}(h:o.cG){p v σ'}(a:aU o env σ key=some (p,v,σ')):σ'=σ:=by
 cases o<;>simp[db.cG]at h<;>simp only[aU,bz,bL]at a
 all_goals
  (try (obtain⟨a1,h1,a⟩:=a))
  (try (obtain⟨a2,b,a⟩:=a))
  (try (obtain⟨a3,c,a⟩:=a))
  (try split at a)
  (try (simp_all;done))
 all_goals repeat' (first|(cases a;done)|(cases a;rfl)|(simp only[bL]at a;obtain⟨_,_,_,_,rfl⟩:=a;rfl)|split at a)
theorem LB{ops:Array Oper}{a:cl}(h:w0 P nt ops o=some a):
 w4 P (Ns ops o) o.op=some a.op/\tR ops o.guard=some a.guard/\a.dst=o.dst/\∀d,a.dst=some d->d<nt:=by
 grind[w0,bz]
theorem Ac{b:J}{op:Op}{a:db}(h:w4 P b op=some a)(c:∀e m l z ps,a≠.bsliceT e m l z ps):du P op=some a:=by
 grind[MT]
theorem Km{ops:Array Oper}{g:ai (Nat×J)}(h:tR ops o.guard=some g)(av:g=none):o.guard=none:=by
 cases a:o.guard with
 |none=>rfl
 |some x=>
  grind[tR,bL]
theorem JX{a:db}(h:du P (.alloc e)=some a)(h1:∀cs,a≠.alloc cs)(b:∀cs,a≠.allocA cs)(c:∀e e8,a≠.allocS e e8):False:=by
 grind[du,bz]
theorem LZ{op:Op}{args:I aV}(h:du P op=some (.call f args)):∃c,op= .call c/\nA P c=some (.call f args):=by
 cases op with
 |call c=>exact⟨c,rfl,h⟩
 |alloc e=>exfalso;exact JX h (by simp) (by simp) (by simp)
 |makeMap t r=>cases r<;>simp[du]at h
 |lookup t x i c=>cases c<;>simp[du,bz]at h
 |unOp u t x=>
  cases u<;>simp[du]at h
  all_goals (repeat' split at h)<;>(first|(done)|simp at h)
 |makeFunc fn b c=>cases fn<;>simp[du]at h
 |_=>
  simp only[du]at h
  (repeat' split at h)<;>(first|(cases h)|simp[bz,bL]at h)
theorem LP{op:Op}{x:aV}{args:I aV}(h:du P op=some (.iO x args)):∃c,op= .call c/\nA P c=some (.iO x args):=by
 cases op with
 |call c=>exact⟨c,rfl,h⟩
 |alloc e=>exfalso;exact JX h (by simp) (by simp) (by simp)
 |makeMap t r=>cases r<;>simp[du]at h
 |lookup t x i c=>cases c<;>simp[du,bz]at h
 |unOp u t x=>
  cases u<;>simp[du]at h
  all_goals (repeat' split at h)<;>(first|(done)|simp at h)
 |makeFunc fn b c=>cases fn<;>simp[du]at h
 |_=>
  simp only[du]at h
  (repeat' split at h)<;>(first|(cases h)|simp[bz,bL]at h)
theorem Lw{args:I aV}(h:nA P c=some (.call f args)):c.callee= .value (.func f)/\h5 P f/\nW c.args.toList=some args:=by
 unfold nA at h
 (repeat' split at h)<;>simp[bz]at h
 grind
theorem LQ{x:aV}{args:I aV}(h:nA P c=some (.iO x args)):∃t,x= .tmp t/\c.callee= .value (.tmp t)/\nW c.args.toList=some args:=by
 unfold nA at h
 (repeat' split at h)<;>simp[bz]at h
 grind
theorem Zo{op:Op}{neg:J}{x:aV}(h:du P op=some (.eqNil neg x)):
 ∃a t y z yt e,op= .binOp a t y z yt/\(a= .eql\/a= .neq)/\neg=(a== .neq)/\P.underlying t=some (.slice e)/\Kk z/\bT y=some x:=by
 cases op with
 |binOp a t y z yt=>
  simp[du]at h
  (repeat' split at h)<;>(try (done))<;>simp[bz,bL,reduceCtorEq,qN]at h
  grind
 |call c=>
  simp[du]at h;unfold nA at h
  (repeat' split at h)<;>(first|(done)|simp[bz]at h)
 |alloc e=>exfalso;exact JX h (by simp) (by simp) (by simp)
 |makeMap t r=>cases r<;>simp[du]at h
 |lookup t x i c=>cases c<;>simp[du,bz]at h
 |unOp u t x=>
  cases u<;>simp[du]at h
  all_goals (repeat' split at h)<;>(first|(cases h;done)|simp at h)
 |makeFunc fn b c=>cases fn<;>simp[du]at h
 |_=>
  simp only[du]at h
  (repeat' split at h)<;>(first|(cases h;done)|simp[bz,bL]at h)
theorem u4(g:o.op= .call c)(d:c.callee= .value x){caps:I Value}(aa:a.eval x= .func (.func f) #[] caps.toArray)(b:h5 P f):
 (execOp a.eval o).run P w= .ok (.enter f (c.args.toList.map a.eval++caps).toArray) w:=by
 have e:(c.args.map a.eval++caps.toArray)=(c.args.toList.map a.eval++caps).toArray:=by simp
 grind[execOp,Go.resolve,Deferred.ofValue,invoke,abj]
theorem Calls.next{args:Array Value}{key:Nat}(t:dst=o.dst)(q:∀d,dst=some d->d<nt)(av:g=true){K2:V->bh->Prop}
 (bS:∀r s,K2 r s->K (eO env dst g r) s)
 (h:Calls P f args w λe w'=>∃v r bw bx σ',e= .returned v/\K2 r σ'/\ch bw w' bx r v/\r.aJ (e1 n key)/\Rel aB nt bw bx env σ' (e1 n key) a w')
 (x:(execOp a.eval o).run P w= .ok (.enter f args) w):o.wp P a w (j9 aB nt (e1 n key) K) Q:=by
 unfold Oper.wp;rw[x];refine h.mono ?_
 rintro e w' ⟨v,r,bw,bx,σ',rfl,h1,c,j,p⟩;subst t;exact⟨bw,bx,_,σ',bS _ _ h1,p.yM q (λ_=>c) (λh=>by grind) (λ_=>j)⟩
theorem Fe(R:Rel aB nt φ S env σ n a w)(aL:∀b,key<=b->b<key+16->n b=false){ops:Array Oper}{M:cl}(Z:w0 P nt ops o=some M)(h:h2 P M key env σ K):
 if Region.wanted o (yielded ops a.tmps)then o.wp P a w (j9 aB nt (e1 n key) K) Q else j9 aB nt (e1 n key) K (a.put o.dst undef) w:=by
 obtain⟨h1,B,D,E⟩:=LB Z;unfold h2 at h;split at h;grind
 . rename_i g av;have aI:=Mj R B av;rw[aI];have ao:∀{v:V} {s:bh},K (eO env M.dst g v) s->s=σ->g=false->j9 aB nt (e1 n key) K (a.put o.dst undef) w:=by
    intro v s bS hs aD;subst hs;rw[<-D];exact⟨φ,S,_,_,bS,(R.more λ_ h=>mw h).yM E (λh=>by grind) (λ_=>rfl) (λh=>by grind)⟩
   rcases h with⟨aD,v,bS⟩|h;grind;split at h
   ·
    rename_i f args U;rw[U]at h1;have ay:∃c,o.op= .call c/\c.callee= .value (.func f)/\h5 P f/\nW c.args.toList=some args:=by
     obtain⟨c,aP,Z⟩:=LZ (Ac h1 (by simp));grind[Lw]
    obtain⟨c,X,Y,F,O⟩:=ay;split at h
    . rename_i p vs T;have ab:∀w':World,(execOp a.eval o).run P w= .ok (.enter f (c.args.toList.map a.eval).toArray) w:=by
       have:=u4 (P:=P) (w:=w) (a:=a) X Y (f:=f) (caps:=[]) rfl F;grind
      split at h;have G:g=true:=(by grind[gU]);subst G;obtain⟨ar,m⟩:=h;obtain⟨g1,g2⟩:=rA R O T ar;exact Calls.next D E rfl (λ_ _ h=>h) (m aB nt φ S env n a w R aL g2 _ g1) (ab w)
      . rcases h with⟨G,ar,m⟩|⟨r,m,bS⟩
        subst G;obtain⟨g1,g2⟩:=rA R O T ar;exact Calls.next D E rfl (λ_ _ h=>h) (m aB nt φ S env n a w R aL g2 _ g1) (ab w)
        cases H:g with
        |true=>
         obtain⟨ar,m⟩:=m H;obtain⟨g1,g2⟩:=rA R O T ar;refine Calls.next (K2:=λan σ'=>an=r/\σ'=σ) D E H (λan s ad=>?_) (m aB nt φ S env n a w R aL g2 _ g1) (ab w);grind
        |false=>
         grind
    grind
   . rename_i x args U;rw[U]at h1;obtain⟨c,X,Z⟩:=LP (Ac h1 (by simp));obtain⟨t,rfl,Y,O⟩:=LQ Z;split at h
     . rename_i q f caps p vs I T;obtain⟨u,F,aG,ar,m⟩:=h;have G:g=true:=(by grind[gU]);subst G;obtain⟨g1,g2⟩:=rA R O T ar;have aa:=cK (x:= .tmp t) R rfl I aG;have aJ:=aa.1.et;have az:bc (ch φ w S) (caps.map λb=>V.c (.ptr b 0)) (caps.map λb=>Value.pointer (some ⟨(φ b).1,0,none⟩)):=by
        refine bc.lX (by simp) ?_;intro i v x h1 B;simp only[sP,bL]at h1 B;obtain⟨b,au,rfl⟩:=h1;obtain⟨aO,ah,rfl⟩:=B;rw[au]at ah;cases ah;exact .c rfl
       have aA:V.aJ.V.d' n (vs++caps.map λb=>V.c (.ptr b 0)):=by
        grind[tS,List.getElem?_append_left,nG,List.getElem?_append_right,bL,V.aJ,C.aJ,List.all_eq_true]
       exact Calls.next D E rfl (λ_ _ h=>h) (m aB nt φ S env n a w R aL aA _ (g1.append az)) (u4 X Y aJ F)
     grind
   . rename_i neg x U;rw[U]at h1;obtain⟨N,ty,y,z,yt,e,aF,ax,rfl,aj,ak,al⟩:=Zo (Ac h1 (by simp));have aN:∀(b:J) (j:ai Addr) (l c:Nat),a.eval y= .slice j l c->j.isNone=b->(execOp a.eval o).run P w= .ok (.value (.bool (if(N== .neq)then !b else b))) w:=by
      intro b j l c k F;subst F;obtain⟨ae,am,aK⟩:∃ae:Value,a.eval z=ae/\ae= .slice none 0 0:=by
       unfold Kk at ak;split at ak;exact⟨_,rfl,rfl⟩;grind
      subst aK;have ap:(eqGuard N ty y z (a.eval y) (a.eval z)).run P w= .ok () w:=Je (by grind) (by grind);have af:(Op.equal ty (.slice j l c) (.slice none 0 0)).run P w= .ok j.isNone w:=by
       obtain⟨d,aC⟩:∃d,Op.maxDepth=d+1:=⟨9999,rfl⟩
       unfold Op.equal;rw[aC];unfold Op.equalIn;cases j with
       |none=>simp only[Sem.run_bind,run_underlying aj,Result.andThen_ok];rfl
       |some j=>simp only[Sem.run_bind,run_underlying aj,Result.andThen_ok];rfl
      have aq:(binOp N ty (a.eval y) (a.eval z)).run P w= .ok (.bool (if(N== .neq)then !j.isNone else j.isNone)) w:=by
       rcases ax with rfl|rfl;rw[k,am];simp only[binOp,Sem.run_bind,af];rfl;rw[k,am];simp only[binOp,Sem.run_bind,af];rfl
      simp[execOp,aF,ap,aq]
     have L:∀ (b:J) (j:ai Addr) (l c:Nat),o.guard = none->a.eval y = .slice j l c->j.isNone = b->K (eO env M.dst true (tk (if (N == .neq) then !b else b))) σ->
      (if g then o.wp P a w (j9 aB nt (e1 n key) K) Q else j9 aB nt (e1 n key) K (a.put o.dst undef) w):=by
      intro b j l c u k F bS;have G:g=true:=by
       have:Region.wanted o (yielded ops a.tmps):=(by simp[Region.wanted,u]);grind
      rw[ag G];unfold Oper.wp;rw[aN b j l c k F];show j9 aB nt (e1 n key) K (a.put o.dst _) w;rw[<-D];exact⟨φ,S,_,_,bS,(R.more λ_ h=>mw h).yM E (λ_=>.pC _) (λh=>by cases h) (λ_=>rfl)⟩
     split at h;rename_i p es I;obtain⟨u,ar,bS⟩:=h;obtain⟨j,cap,sz,b,off,f,k,_,_,_,A,_⟩:=ca.j5 (cK R al I ar).1.et;exact L j.isNone j _ _ (Km B u) k rfl (bS _ λh=>by rw[A h];rfl);rename_i p I;obtain⟨u,ar,bS⟩:=h;obtain⟨j,k⟩:=(cK R al I ar).1.et;exact L j.isNone j _ _ (Km B u) k rfl (bS _);rename_i p b sz off l I;obtain⟨u,ar,bS⟩:=h;obtain⟨j,k,W,aR⟩:=bG.hZ (cK R al I ar).1.et;exact L j.isNone j _ _ (Km B u) k rfl (bS _ λh=>by rw[W (by omega)];rfl);exact h.elim
   . rename_i X Y aQ;split at h
     . rename_i p v σ' W;obtain⟨ar,A,bS⟩:=h;cases H:g with
       |true=>
        simp only[cg];obtain⟨x,bw,bx,w',hres,aH,aw,R'⟩:=adn R h1 aL W (ar H);have aM:(if M.op.cG then σ else σ')=σ':=by
         split;rename_i aE;exact(A0 aE W).symm;rfl
        rw[aM]at bS;have L:j9 aB nt (e1 n key) K (a.put o.dst x) w':=by
         rw[<-D];exact⟨bw,bx,_,_,bS,R'.yM E (λ_=>aH) (λh=>by rw[H]at h;cases h) (λ_=>aw)⟩
        unfold Oper.wp;rcases hres with hres|⟨hres,rfl⟩;rw[hres];exact L;rw[hres];exact L
       |false=>
        simp only[cm,cw];rcases A with A|A;rw[ag A]at bS;exact ao bS rfl H;rw[H]at A;cases A
     exact h.elim
end
def lt(N:Nat):Nat->J:=λb=>(b<N:J)
theorem FA{N b:Nat}(h:e1 (lt N) N b):lt (N+16) b:=by
 grind[e1,lt]
theorem AP{N b:Nat}(h:N<=b):lt N b=false:=by grind[lt]
theorem FZ{N M b:Nat}(h:N<=M)(a:lt N b):lt M b:=by grind[lt]
section
variable {P:Program}{aB:Ctx}{nt kk:Nat}{φ:dx}{S:dy}{env:Env}{σ:bh}{N:Nat}{a:Act}{w:World}
theorem OB{ops:Array Oper}{Q:Exit->Act->World->Prop}{K:Env->bh->Nat->Prop}:∀{l:I Oper} {bg:I cl} {k N:Nat} {env:Env} {σ:bh} {φ:dx} {S:dy} {a:Act} {w:World},hJ P nt ops l=some bg->(∀i:Nat,i<l.length->l[i]?=ops[k+i]?)->
 Rel aB nt φ S env σ (lt N) a w->k2 P bg N env σ (λe s=>K e s (N+16*bg.length))->(∀φ S e s N a w,K e s N->Rel aB nt φ S e s (lt N) a w->Q .normal a w)->wpOps P ops Q (List.range' k l.length) a w
 |[],bg,k,N,env,σ,φ,S,a,w,c,g,R,h,f=>by
  simp[hJ]at c;subst c;exact f _ _ _ _ _ _ _ h R
 |o::l,bg,k,N,env,σ,φ,S,a,w,c,g,R,h,f=>by
  simp[hJ,bz,bL]at c;obtain⟨n,j,d,m,rfl⟩:=c;have p:ops[k]?=some o:=by have:=g 0 (by simp);grind
  rw[kR,zx,wpOps_cons];unfold wpOp;have hs:=Fe R (λb h1 _=>AP h1) j (K:=λe s=>k2 P d (N+16) e s λe s=>K e s (N+16*(d.length+1))) (by grind[k2]) (Q:=Q);have next:∀cj w',j9 aB nt (e1 (lt N) N) (λe s=>k2 P d (N+16) e s λe s=>K e s (N+16*(d.length+1))) cj w'->wpOps P ops Q (List.range' (k+1) l.length) cj w':=by
   rintro cj w' ⟨bw,bx,e,s,bS,R'⟩
   refine OB m (λi aD=>?_) (R'.more λ_ h=>FA h) ?_ f
   have:=g (i+1) (by grind);grind;grind
  split at hs;grind[Oper.wp_mono];grind
def Xt(P:Program)(nt kk:Nat)(c:Code)(env:Env)(σ:bh)(N:Nat)(Q:Exit->Env->bh->Nat->Prop):Prop:=
 ∀aB φ S a w,aB.k=kk->Rel aB nt φ S env σ (lt N) a w->c.wp P (λe cj w'=>∃bw bx env' σ' N',Q e env' σ' N'/\Rel aB nt bw bx env' σ' (lt N') cj w') a w
def cJ(P:Program)(nt kk:Nat)(c:dY)(env:Env)(σ:bh)(N:Nat)(Q:Exit->Env->bh->Nat->Prop):Prop:=
 ∀code,resolve P nt code=some c->Xt P nt kk code env σ N Q
variable {Q od:Exit->Env->bh->Nat->Prop}
theorem cJ.mono{c:dY}(h:cJ P nt kk c env σ N Q)(o:∀e env σ N,Q e env σ N->od e env σ N):cJ P nt kk c env σ N od:=
 λcode g aB φ S a w j R=>wp_mono (h _ g aB φ S a w j R) λe a w ⟨bw,bx,env',σ',N',h1,f⟩=>⟨bw,bx,env',σ',N',o _ _ _ _ h1,f⟩
theorem cJ.skip(h:Q .normal env σ N):cJ P nt kk .skip env σ N Q:=by
 intro code c aB φ S a w e R;cases code<;>simp[resolve,bz]at c<;>(try (first|(cases c;done)|(obtain⟨l,_,c⟩:=c;(repeat' split at c)<;>cases c)));grind[wp_skip]
theorem cJ.ret(h:Q .ret env σ N):cJ P nt kk .ret env σ N Q:=by
 intro code c aB φ S a w e R;cases code<;>simp[resolve,bz]at c<;>(try (first|(cases c;done)|(obtain⟨l,_,c⟩:=c;(repeat' split at c)<;>cases c)));grind[wp_ret]
theorem cJ.exit(h:Q (.exit id) env σ N):cJ P nt kk (.exit id) env σ N Q:=by
 intro code c aB φ S a w e R;cases code<;>simp[resolve,bz]at c<;>(try (first|(cases c;done)|(obtain⟨l,_,c⟩:=c;(repeat' split at c)<;>cases c)));grind[wp_exit]
def andThen(next:Env->bh->Nat->Prop)(Q:Exit->Env->bh->Nat->Prop):Exit->Env->bh->Nat->Prop
 |.normal,env,σ,N=>next env σ N
 |e,env,σ,N=>Q e env σ N
theorem abY{x y:dY}(h:resolve P nt code=some (.seq x y)):∃a b,code= .seq a b/\resolve P nt a=some x/\resolve P nt b=some y:=by
 cases code with
 |seq a b=>
  simp[resolve,bz,bL]at h;grind
 |region id ops c=>
  grind[resolve,bz]
 |_=>simp[resolve,bz,bL]at h
theorem abk{c:aV}{x y:dY}(h:resolve P nt code=some (.cond c x y)):∃o a b,code= .cond o a b/\bT o=some c/\resolve P nt a=some x/\resolve P nt b=some y:=by
 cases code with
 |cond o a b=>
  simp[resolve,bz,bL]at h;grind
 |region id ops d=>
  grind[resolve,bz]
 |_=>simp[resolve,bz,bL]at h
theorem abC{x:dY}(h:resolve P nt code=some (.block id x)):∃b,code= .block id b/\resolve P nt b=some x:=by
 cases code with
 |block i b=>
  grind[resolve,bL]
 |region id ops a=>
  grind[resolve,bz]
 |_=>simp[resolve,bz]at h
theorem abl{x:dY}(h:resolve P nt code=some (.loop x)):∃b,code= .loop b/\resolve P nt b=some x:=by
 cases code with
 |loop b=>
  grind[resolve,bL]
 |region id ops a=>
  grind[resolve,bz]
 |_=>simp[resolve,bz]at h
theorem MU(h:resolve P nt code=some (.region bg)):∃id ops,code= .region id ops false/\hJ P nt ops ops.toList=some bg:=by
 cases code with
 |region id ops a=>
  grind[resolve,bz]
 |_=>grind[resolve,bz,bL]
theorem LC{fq:I (Nat×Nat)}(h:resolve P nt code=some (.pf bg fq)):
 ∃id ops,code= .region id ops true/\hJ P nt ops ops.toList=some bg/\uJ (gn ops bg)/\P.follows .mixedOrders/\fq=tn (gn ops bg):=by
 cases code with
 |region id ops a=>
  grind[resolve,bz]
 |_=>grind[resolve,bz,bL]
theorem cJ.seq{x y:dY}(h:cJ P nt kk x env σ N (andThen (λenv σ N=>cJ P nt kk y env σ N Q) Q)):cJ P nt kk (.seq x y) env σ N Q:=by
 intro code g aB φ S a w c R;obtain⟨j,o,rfl,aa,al⟩:=abY g;refine wp_seq (wp_mono (h _ aa aB φ S a w c R) ?_);rintro e cj w' ⟨bw,bx,env',σ',N',f,R'⟩
 cases e with
 |normal=>exact f _ al aB _ bx cj w' c R'
 |_=>exact⟨bw,bx,env',σ',N',f,R'⟩
theorem cJ.cond{c:aV}{x y:dY}{p:Prop}{b:J}(g:c.get env=some (p,tk b))(ar:p)(aa:b=true->cJ P nt kk x env σ N Q)(al:b=false->cJ P nt kk y env σ N Q):cJ P nt kk (.cond c x y) env σ N Q:=by
 intro code j aB φ S a w e R;obtain⟨o,A,B,rfl,q,t,v⟩:=abk j;have f:=(cK R q g ar).1.jO;refine wp_cond f ?_;cases b with
 |true=>exact aa rfl _ t aB φ S a w e R
 |false=>exact al rfl _ v aB φ S a w e R
def inBlock(id:Nat)(Q:Exit->Env->bh->Nat->Prop):Exit->Env->bh->Nat->Prop
 |.exit i,env,σ,N=>if i=id then Q .normal env σ N else Q (.exit i) env σ N
 |e,env,σ,N=>Q e env σ N
theorem cJ.block{id:Nat}{x:dY}(h:cJ P nt kk x env σ N (inBlock id Q)):cJ P nt kk (.block id x) env σ N Q:=by
 intro code f aB φ S a w g R;obtain⟨b,rfl,c⟩:=abC f;refine wp_block (wp_mono (h _ c aB φ S a w g R) ?_);rintro e cj w' ⟨bw,bx,env',σ',N',j,R'⟩
 cases e with
 |exit i=>
  grind[inBlock,Exit.inBlock]
 |_=>exact⟨bw,bx,env',σ',N',j,R'⟩
theorem cJ.region{bg:I cl}(h:k2 P bg N env σ (λe s=>Q .normal e s (N+16*bg.length))):cJ P nt kk (.region bg) env σ N Q:=by
 intro code f aB φ S a w o R;obtain⟨id,ops,rfl,g⟩:=MU f;refine wp_region ?_;have:=OB (Q:=λe cj w'=>∃bw bx env' σ' N',Q e env' σ' N'/\Rel aB nt bw bx env' σ' (lt N') cj w') (k:=0) g (λi j=>by simp) R h
  (λφ S e s N a w bS c=>⟨φ,S,e,s,N,bS,c⟩)
 grind[List.range_eq_range']
end
def pos:bb->Nat->ai Nat
 |[],_=>none
 |x::r,b=>if x=b then some 0 else(pos r b).map (· +1)
theorem oV:∀{bs:bb} {b i:Nat},pos bs b=some i->bs[i]?=some b
 |[],b,i,h=>by grind[pos]
 |x::r,b,i,h=>by
  unfold pos at h;split at h;grind;simp at h;obtain⟨j,a,rfl⟩:=h;simpa using oV a
def qn(bs:bb):bb->ai bb
 |[]=>some []
 |c::r=>match pos bs c,qn bs r with
  |some i,some l=>some (i::l)
  |_,_=>none
def C.cc(bs:bb):C->C
 |.t x=>.t x
 |.ptr b o=>match pos bs b with|some i=>.ptr i o|none=>.dead
 |.c9 b sz i o=>match pos bs b with|some j=>.c9 j sz i o|none=>.dead
 |.ep ts o=>.ep ts o
 |.arr b sz off len=>match pos bs b with|some i=>.arr i sz off len|none=>.dead
 |.gK b sz off len=>match pos bs b with|some i=>.gK i sz off len|none=>.dead
 |.mp b=>match pos bs b with|some i=>.mp i|none=>.dead
 |.eV b=>match pos bs b with|some i=>.eV i|none=>.dead
 |.cQ b len=>match pos bs b with|some i=>.cQ i len|none=>.dead
 |.bX=>.bX
 |.fN=>.fN
 |.fM=>.fM
 |.fn f caps=>match qn bs caps with|some l=>.fn f l|none=>.dead
 |.dead=>.dead
def V.cc(bs:bb):V->V
 |.c x=>.c (x.cc bs)
 |.agg cs=>.agg (cs.map (C.cc bs))
 |.bd vs=>.bd (go bs vs)
where go (bs:bb):I V->I V
 |[]=>[]
 |v::vs=>v.cc bs::go bs vs
def cd.cc(bs:bb):cd->cd
 |.box cs=>.box (cs.map (C.cc bs))
 |.arr sz es=>.arr sz es
 |.set ks=>.set ks
 |.buf E s=>.buf E s
 |.cu E c=>.cu E (c.cc bs)
 |.cV sz es i o c=>.cV sz es i o (c.cc bs)
def oW(bs:bb)(env:Env):bb->Env
 |[]=>[]
 |k::ks=>match look env k with
  |some (g,v)=>(k,g,v.cc bs)::oW bs env ks
  |none=>oW bs env ks
def gB(bs:bb)(σ:bh):Nat->bb->bh
 |_,[]=>[]
 |i,b::r=>match aZ σ b with
  |some x=>(i,x.cc bs)::gB bs σ (i+1) r
  |none=>gB bs σ (i+1) r
def keeps(k:Nat)(bs:bb):J:=(List.range k).all λi=>bs[i]?==some i
section
variable {P:Program}{aB:Ctx}{nt kk:Nat}{φ:dx}{S:dy}{env:Env}{σ:bh}{N:Nat}{n:Nat->J}{a:Act}{w:World}
theorem Kn:∀{bs caps l:bb},qn bs caps=some l->caps.length=l.length/\∀(i b j:Nat),caps[i]?=some b->l[i]?=some j->bs[j]?=some b
 |bs,[],l,h=>by grind[qn]
 |bs,c::r,l,h=>by
  unfold qn at h;split at h;rename_i j e d ak;obtain⟨h1,a⟩:=Kn ak;grind[oV];grind
theorem bG.cc(p:∀(i:Nat) b,bs[i]?=some b->bw i=φ b){c:C}{v:Value}(h:bG φ w S c v):bG bw w S (c.cc bs) v:=by
 have j:=bG.jG h;cases c with
 |ptr b o=>
  grind[C.cc,bG,oV]
 |c9 b sz i o=>
  grind[C.cc,bG,oV]
 |arr b sz off len=>
  grind[C.cc,bG,oV]
 |gK b sz off len=>
  grind[C.cc,bG,oV]
 |mp b=>
  grind[C.cc,bG,oV]
 |eV b=>
  grind[C.cc,bG,oV]
 |cQ b len=>
  grind[C.cc,bG,oV]
 |fn f caps=>
  simp[C.cc];split
  . rename_i l ak;obtain⟨h1,g⟩:=Kn ak;rw[h]
    congr 2;apply Dk (by grind);intro i a e;simp at a e;simp;rw[p _ _ (g i _ _ (fm a) (fm e))]
  exact j
 |_=>exact h
theorem Ff:∀{vs:I V} {i:Nat},(V.cc.go bs vs)[i]?=(vs[i]?).map (V.cc bs)
 |[],i=>by rfl
 |v::vs,0=>by rfl
 |v::vs,i+1=>by simp[V.cc.go,Ff]
theorem DX:∀{vs:I V},(V.cc.go bs vs).length=vs.length
 |[]=>rfl
 |v::vs=>by simp[V.cc.go,DX]
theorem bc.qL{c γ:Type}{R:α->c->Prop}{R':γ->c->Prop}{f:α->γ}{l:I α}{m:I c}(h:bc R l m)(k:∀a b,R a b->R' (f a) b):bc R' (l.map f) m:=by
 induction h with
 |nil=>exact .nil
 |cons e _ ih=>exact .cons (k _ _ e) ih
theorem ch.cc(a:∀(i:Nat) b,bs[i]?=some b->bw i=φ b){v:V}{x:Value}(h:ch φ w S v x):ch bw w S (v.cc bs) x:=by
 induction h with
 |c h=>exact .c (bG.cc a h)
 |agg h=>exact .agg (h.qL λ_ _=>bG.cc a)
 |bd vs xs ak h ih=>
  refine .bd _ xs (by grind[DX]) ?_;grind[Ff]
theorem uL{b i:Nat}(h:pos bs b=some i):i<bs.length:=(ev.1 (oV h)).1
theorem C.kq(c:C):(c.cc bs).aJ (lt bs.length):=by
 cases c with
 |ptr b o=>grind[C.cc,C.aJ,lt,uL]
 |c9 b sz i o=>grind[C.cc,C.aJ,lt,uL]
 |arr b sz off len=>grind[C.cc,C.aJ,lt,uL]
 |gK b sz off len=>grind[C.cc,C.aJ,lt,uL]
 |mp b=>grind[C.cc,C.aJ,lt,uL]
 |eV b=>grind[C.cc,C.aJ,lt,uL]
 |cQ b len=>grind[C.cc,C.aJ,lt,uL]
 |fn f caps=>
  simp[C.cc];split;rename_i l ak;obtain⟨h1,a⟩:=Kn ak;simp[C.aJ,lt];intro j g;obtain⟨i,e,rfl⟩:=hE g;exact(ev.1 (a i _ _ (fm (by omega)) (fm e))).1;rfl
 |_=>rfl
theorem V.kq{bs:bb}:∀(v:V),(v.cc bs).aJ (lt bs.length)=true
 |.c x=>by grind[V.cc,V.aJ,C.kq]
 |.agg cs=>by grind[V.cc,V.aJ,C.kq]
 |.bd vs=>by exact go vs
where go:∀vs,V.aJ.V.d' _ (V.cc.go bs vs)=true
 |[]=>rfl
 |v::vs=>by simp[V.cc.go,V.aJ.V.d',dr];exact⟨V.kq v,go vs⟩
theorem AG:∀{ks:bb} {k:Nat} {g:J} {v:V},look (oW bs env ks) k=some (g,v)->∃v0,look env k=some (g,v0)/\v=v0.cc bs
 |[],k,g,v,h=>by grind[oW,look]
 |x::ks,k,g,v,h=>by
  unfold oW at h;split at h
  . unfold look at h;split at h
    grind;exact AG h
  exact AG h
theorem qb:∀{r:bb} {i:Nat} {b:Nat} {x:cd},aZ (gB bs σ i r) b=some x->∃j c g,b=i+j/\r[j]?=some c/\aZ σ c=some g/\x=g.cc bs
 |[],i,b,x,h=>by grind[gB,aZ]
 |c::r,i,b,x,h=>by
  unfold gB at h;split at h
  . unfold aZ at h;split at h
    simp_all;obtain⟨j,a,f,h1,k,d,e⟩:=qb h;exact⟨j+1,a,f,by omega,by grind,d,e⟩
  obtain⟨j,a,f,h1,k,d,e⟩:=qb h;exact⟨j+1,a,f,by omega,by grind,d,e⟩
theorem dj.cc(a:∀(i:Nat) b,bs[i]?=some b->bw i=φ b){i b:Nat}(e:bs[i]?=some b){x:cd}(h:dj φ w S b x):dj bw w S i (x.cc bs):=by
 cases x with
 |box cs=>
  obtain⟨h0,vs,E,h1,f,g⟩:=h;simp only[dj,a i b e];exact⟨h0,vs,E,h1,f.qL λ_ _=>bG.cc a,g⟩
 |arr sz es=>simp only[dj,a i b e];exact h
 |set ks=>simp only[dj,a i b e];exact h
 |buf E s=>grind[cd.cc,dj]
 |cu E c=>
  grind[cd.cc,dj,bG.cc]
 |cV sz es i o c=>
  grind[cd.cc,dj,bG.cc]
theorem Rel.tidy(R:Rel aB nt φ S env σ (lt N) a w)(ks bs:bb)(ck:bs.Nodup)(L:keeps aB.k bs):
 ∃bw,Rel aB nt bw S (oW bs env ks) (gB bs σ 0 bs) (lt bs.length) a w:=by
 have G:∀(i:Nat) b,bs[i]?=some b->(λi=>φ ((bs[i]?).getD 0)) i=φ b:=by grind
 have F:∀i:Nat,i<aB.k->bs[i]?=some i:=by
  simp_all[keeps,gF,List.mem_range,jl]
 refine⟨λi=>φ ((bs[i]?).getD 0),⟨⟨λb x aa=>?_,λb K x y aa al M h0 t=>?_,R.b3.st⟩,λk g v ak av=>?_,λk g v ak av=>?_,λk g v ak av=>?_,λb x aa=>?_,R.size,R.defers,R.ext,λb x aa h0=>?_,λb q=>?_,λb q=>?_⟩⟩;obtain⟨j,c,e,rfl,f,p,rfl⟩:=qb aa;rw[iy];exact dj.cc G f (R.b3.blk c e p)
 . obtain⟨j,c,e,rfl,f,p,rfl⟩:=qb aa;obtain⟨P,A,H,rfl,B,D,rfl⟩:=qb al;simp only[iy,f,B]at h0 t⊢;refine R.b3.inj c A e H p D ?_ h0 t;grind[List.getElem?_eq_some_iff,List.pairwise_iff_getElem,Nat.lt_trichotomy]
 obtain⟨v0,h1,rfl⟩:=AG ak;obtain⟨x,aa,O⟩:=R.gY k g v0 h1 av;grind[ch.cc];obtain⟨v0,h1,rfl⟩:=AG ak;exact R.hL k g v0 h1 av;grind[AG,V.kq]
 . obtain⟨j,c,e,rfl,f,p,rfl⟩:=qb aa;refine⟨by grind[lt,List.getElem?_eq_some_iff],?_⟩;cases e with
   |box cs=>grind[cd.cc,cd.aJ,List.all_map,List.all_eq_true,C.kq]
   |arr sz es=>rfl
   |set ks=>rfl
   |buf E s=>rfl
   |cu E c=>exact C.kq c
   |cV sz es i o c=>exact C.kq c
 obtain⟨j,c,e,rfl,f,p,rfl⟩:=qb aa;simp only[iy,f]at h0⊢;exact R.own c e p h0;simp only[F b q,qR];exact R.fix b q;simp only[lt,gP];grind
theorem cJ.tidy{c:dY}{Q:Exit->Env->bh->Nat->Prop}(ks bs:bb)(ck:bs.Nodup)(f:keeps kk bs)(h:cJ P nt kk c (oW bs env ks) (gB bs σ 0 bs) bs.length Q):cJ P nt kk c env σ N Q:=by
 intro code e aB φ S a w g R;subst g;obtain⟨bw,R'⟩:=R.tidy ks bs ck f;exact h _ e aB _ S a w rfl R'
end
def cut(es:I (I T))(off len:Nat):I (I T):=if off=0/\len=es.length then es else(es.drop off).take len
def C.cC(b0 a:Nat)(es:I (I T)):C->C
 |.arr b sz off len=>if b=b0 then(if sz=a/\off+len<=es.length then .t (.slice (cut es off len))else .dead)else .arr b sz off len
 |.c9 b sz i o=>if b=b0 then .dead else .c9 b sz i o
 |c=>c
def V.cC(b0 a:Nat)(es:I (I T)):V->V
 |.c x=>.c (x.cC b0 a es)
 |.agg cs=>.agg (cs.map (C.cC b0 a es))
 |.bd vs=>.bd (go b0 a es vs)
where go (b0 a:Nat) (es:I (I T)):I V->I V
 |[]=>[]
 |v::vs=>v.cC b0 a es::go b0 a es vs
def cd.cC(b0 a:Nat)(es:I (I T)):cd->cd
 |.box cs=>.box (cs.map (C.cC b0 a es))
 |.arr sz l=>.arr sz l
 |.set ks=>.set ks
 |.buf E s=>.buf E s
 |.cu E c=>.cu E (c.cC b0 a es)
 |.cV sz l i o c=>.cV sz l i o (c.cC b0 a es)
def sr(b0 a:Nat)(es:I (I T)):Env->Env
 |[]=>[]
 |(k,g,v)::r=>(k,g,v.cC b0 a es)::sr b0 a es r
def nN(b0 a:Nat)(es:I (I T)):bh->bh
 |[]=>[]
 |(k,x)::r=>if k=b0 then nN b0 a es r else(k,x.cC b0 a es)::nN b0 a es r
variable{vs:I V}
section
variable {P:Program}{aB:Ctx}{nt kk:Nat}{φ:dx}{S:dy}{env:Env}{σ:bh}{N:Nat}{n:Nat->J}{a:Act}{w:World}
theorem AQ{a:Nat}:∀{env:Env} {k:Nat},look (sr b0 a es env) k=(look env k).map λx=>(x.1,x.2.cC b0 a es)
 |[],k=>rfl
 |(i,g,v)::r,k=>by
  simp[sr,look];split;rfl;exact AQ
theorem EA{b:Nat}:∀{σ:bh} {k:Nat},aZ (nN b0 b es σ) k=if k=b0 then none else(aZ σ k).map (cd.cC b0 b es)
 |[],k=>by simp[nN,aZ]
 |(i,x)::r,k=>by
  simp[nN,aZ];by_cases h:i=b0;rw[ag h,EA];grind
  . rw[aq h];simp[aZ];by_cases a:i=k
    grind;rw[aq a,aq a,EA]
def xz(S:dy)(q:Nat×Nat):dy:=λb j=>S b j\/(q.2≠0/\b=q.1)
theorem afY{len:Nat}{e:I T}(h:e∈cut es off len):e∈es:=by
 grind[cut]
theorem afZ{len i:Nat}{e:I T}(a:off+len<=es.length)(h:(cut es off len)[i]?=some e):es[off+i]?=some e/\i<len:=by
 grind[cut]
theorem ado{len:Nat}(a:off+len<=es.length):(cut es off len).length=len:=by
 grind[cut]
theorem bG.cC{b0 q:Nat}{es:I (I T)}(dM:dj φ w S b0 (.arr q es)){c:C}{v:Value}(h:bG φ w S c v):bG φ w (xz S (φ b0)) (c.cC b0 q es) v:=by
 have m:hj w S w (xz S (φ b0)):=⟨λ_ _ h=>.inl h,λ_ _ _=>rfl⟩
 have p:=bG.jG h;cases c with
 |arr b sz off len=>
  simp[C.cC];by_cases f:b=b0
  . subst f;rw[ag rfl];split
    . rename_i A;obtain⟨rfl,g⟩:=A;obtain⟨h1,K,x,L,bu⟩:=dM;obtain⟨a,rfl,y,N⟩:=bG.hZ h;have ak:=ado g;have aK:Value.slice a len ((φ b).2-off)=Value.slice a (cut es off len).length ((φ b).2-off):=(by grind);rw[aK];by_cases h0:(φ b).2=0
      have:cut es off len=[]:=ko (by omega);rw[this];exact ca.slice [] _ _ 0 0 0 (λ_ _=>undef) (by simp) (by simp) (by simp) (by simp) (by simp) (by simp)
      . obtain⟨vs,E,ad,O,F,hs⟩:=bu h0;refine ca.slice _ _ _ sz _ _ (λi j=>(vs.getD ((off+i)*sz+j) undef)) (by omega) (by omega) (λe he=>x e (afY he)) (λ_=>y h0) ?_ ?_
        . intro i j D M;refine⟨.inr ⟨h0,rfl⟩,?_⟩;rw[jv ad];have aD:(off+i)*sz+j<vs.length:=by
           have:=fG sz (show off+i+1<=(φ b).2 by omega);grind
          grind
        intro i j e t he ht;obtain⟨B,D⟩:=afZ g he;obtain⟨v,H,G⟩:=F _ _ _ _ B ht;simp[List.getD,H];exact ca.mono m G
    exact p
  rw[aq f];exact bG.mono m (λ_ _=>rfl) (C.nd _) h
 |c9 b sz i o=>
  simp[C.cC];split;exact p;exact h
 |_=>exact bG.mono m (λ_ _=>rfl) (C.nd _) h
theorem Ko{a:Nat}:∀{vs:I V} {i:Nat},(V.cC.go b0 a es vs)[i]?=(vs[i]?).map (V.cC b0 a es)
 |[],i=>by rfl
 |v::vs,0=>by rfl
 |v::vs,i+1=>by simp[V.cC.go,Ko]
theorem JH{a:Nat}:∀{vs:I V},(V.cC.go b0 a es vs).length=vs.length
 |[]=>rfl
 |v::vs=>by simp[V.cC.go,JH]
theorem ch.cC{a:Nat}(dM:dj φ w S b0 (.arr a es)){v:V}{x:Value}(h:ch φ w S v x):ch φ w (xz S (φ b0)) (v.cC b0 a es) x:=by
 induction h with
 |c h=>exact .c (bG.cC dM h)
 |agg h=>exact .agg (h.qL λ_ _=>bG.cC dM)
 |bd vs xs ak h ih=>
  refine .bd _ xs (by grind[JH]) ?_;grind[Ko]
theorem C.rp{a:Nat}{c:C}(h:c.aJ n):(c.cC b0 a es).aJ n:=by
 cases c with
 |arr b sz off len=>simp[C.cC];split;split;rfl;rfl;grind
 |c9 b sz i o=>simp[C.cC];split;rfl;grind
 |_=>exact h
theorem V.rp{b0 a:Nat}{es:I (I T)}:∀{v:V},v.aJ n->(v.cC b0 a es).aJ n=true
 |.c x,h=>by grind[V.cC,V.aJ,C.rp]
 |.agg cs,h=>by grind[V.cC,V.aJ,C.rp]
 |.bd vs,h=>by exact go vs h
where go:∀vs,V.aJ.V.d' n vs->V.aJ.V.d' n (V.cC.go b0 a es vs)=true
 |[],_=>rfl
 |v::vs,h=>by simp[V.cC.go,V.aJ.V.d',dr]at h⊢;exact⟨V.rp h.1,go vs h.2⟩
theorem Rel.freeze(R:Rel aB nt φ S env σ n a w){O:Nat}(Q:aZ σ b0=some (.arr O es)):
 Rel aB nt φ (xz S (φ b0)) (sr b0 O es env) (nN b0 O es σ) n a w:=by
 have dM:=R.b3.blk b0 _ Q;have m:hj w S w (xz S (φ b0)):=⟨λ_ _ h=>.inl h,λ_ _ _=>rfl⟩
 have N:∀b x,aZ (nN b0 O es σ) b=some x->b≠b0/\∃A,aZ σ b=some A/\x=A.cC b0 O es:=by
  grind[EA,bL]
 have M:∀b x,b≠b0->aZ σ b=some x->(φ b).2≠0->∀j,¬xz S (φ b0) (φ b).1 j:=by
  intro b x D aa h0 j f;rcases f with f|⟨K,f⟩;exact(R.b3.blk b x aa).qM h0 j f;exact R.b3.inj b b0 x _ aa Q D h0 K f
 refine⟨⟨λb x aa=>?_,λb U x y aa al D h0 X=>?_,λb j f=>?_⟩,λk g v ak av=>?_,λk g v ak av=>?_,λk g v ak av=>?_,λb x aa=>?_,R.size,R.defers,?_,λb x aa h0=>?_,R.fix,R.hv⟩
 . obtain⟨D,A,q,rfl⟩:=N b x aa;have B:=R.b3.blk b A q;cases A with
   |box cs=>
    obtain⟨h0,vs,E,h1,F,G⟩:=B;exact⟨h0,vs,E,h1,F.qL λ_ _=>bG.cC dM,M b _ D q h0⟩
   |arr sz l=>
    obtain⟨h1,F,G,P,bu⟩:=B;refine⟨h1,F,G,P,λh0=>?_⟩;grind[ca.mono]
   |set ks=>exact⟨B.1,B.2.1,M b _ D q B.1⟩
   |buf E s=>exact⟨B.1,B.2.1,λh0=>⟨(B.2.2 h0).1,M b _ D q h0⟩⟩
   |cu E c=>
    obtain⟨h0,⟨p,v,h1,F,G⟩,P⟩:=B;exact⟨h0,⟨p,v,h1,F,bG.cC dM G⟩,M b _ D q h0⟩
   |cV sz l i o c=>
    obtain⟨⟨h1,F,G,P,bu,Y⟩,⟨vs,E,bj,bq,b4,v,cv,cZ⟩,c7⟩:=B;exact⟨⟨h1,F,G,P,bu,Y⟩,⟨vs,E,bj,bq,λi j e t he ht aL=>let⟨v,Z,W⟩:=b4 i j e t he ht aL;⟨v,Z,ca.mono m W⟩,v,cv,bG.cC dM cZ⟩,M b _ D q (by omega)⟩
 obtain⟨_,A,q,rfl⟩:=N b x aa;obtain⟨_,an,am,rfl⟩:=N U y al;exact R.b3.inj b U A an q am D h0 X
 . rcases f with f|⟨K,rfl⟩
   exact R.b3.st b j f;exact dM.j3 K
 rw[AQ,bL]at ak;obtain⟨⟨H,v0⟩,L,he⟩:=ak;cases he;obtain⟨x,aa,W⟩:=R.gY k H v0 L av;grind[ch.cC];rw[AQ,bL]at ak;obtain⟨⟨H,v0⟩,L,he⟩:=ak;cases he;exact R.hL k H v0 L av;rw[AQ,bL]at ak;obtain⟨⟨H,v0⟩,L,he⟩:=ak;cases he;exact V.rp (R.gX k H v0 L av)
 . obtain⟨_,A,q,rfl⟩:=N b x aa;refine⟨(R.ei b A q).1,?_⟩;have:=(R.ei b A q).2;cases A with
   |box cs=>grind[cd.cC,cd.aJ,List.all_map,List.all_eq_true,C.rp]
   |arr sz l=>rfl
   |set ks=>rfl
   |buf E s=>rfl
   |cu E c=>grind[cd.cC,cd.aJ,C.rp]
   |cV sz l i o c=>grind[cd.cC,cd.aJ,C.rp]
 . refine⟨R.ext.os,R.ext.tape,R.ext.output,R.ext.size,R.ext.block,R.ext.mono.trans m,λb j f=>?_⟩;rcases f with f|⟨K,rfl⟩
   exact R.ext.l0 b j f
   . rcases R.own b0 _ Q K with h|h
     all_goals grind
 obtain⟨_,A,q,rfl⟩:=N b x aa;exact R.own b A q h0
theorem cJ.freeze{c:dY}{Q:Exit->Env->bh->Nat->Prop}(b0:Nat){e:Nat}(j:aZ σ b0=some (.arr e es))(h:cJ P nt kk c (sr b0 e es env) (nN b0 e es σ) N Q):cJ P nt kk c env σ N Q:=by
 intro code f aB φ S a w g R;exact h _ f aB φ _ a w g (R.freeze j)
inductive jJ where
 |tmp (t:Nat)
 |cell (t:Nat)(agg:Bool)(n:Nat)
def iP(P:Program):I ResultVar->ai (I jJ)
 |[]=>some []
 |.tmp t::r=>(iP P r).map (.tmp t::·)
 |.cell a ty::r=>(nL P ty).bind λg=>(iP P r).map (.cell a g.1 g.2::·)
def uM(env:Env)(σ:bh):jJ->ai (Prop×V)
 |.tmp t=>(look env t).map λx=>(x.1=true,x.2)
 |.cell t g k=>match look env t with
  |some (a,.c (.ptr b o))=>match aZ σ b with
   |some (.box cs)=>(kn g k cs o).map λv=>(a=true,v)
   |_=>none
  |_=>none
def qo(env:Env)(σ:bh):I jJ->ai (Prop×I V)
 |[]=>some (True,[])
 |r::a=>(uM env σ r).bind λx=>(qo env σ a).map λy=>(x.1/\y.1,x.2::y.2)
def mP:I V->V
 |[v]=>v
 |vs=>.bd vs
def eG(P:Program)(f:Nat)(args:I V)(σ:bh)(k:Nat)(Q:V->bh->Nat->Prop):Prop:=
 ∀(φ:dx) (S:dy) (w:World) (B:Nat->Prop),rf φ w S σ->(∀(b:Nat) x,aZ σ b=some x->b<k/\x.aJ (lt k))->(∀(b:Nat) x,aZ σ b=some x->(φ b).2≠0->B (φ b).1)->
  V.aJ.V.d' (lt k) args=true->∀vs:I Value,bc (ch φ w S) args vs->
  Calls P f vs.toArray w λe w'=>∃v r bw bx σ' N',e= .returned v/\Q r σ' N'/\ch bw w' bx r v/\r.aJ (lt N')/\rf bw w' bx σ'/\(∀(b:Nat) x,aZ σ' b=some x->b<N'/\x.aJ (lt N'))/\Ext B S bx w w'/\
   (∀(b:Nat) x,aZ σ' b=some x->(bw b).2≠0->B (bw b).1\/w.heap.size<=(bw b).1)/\∀b,b<k->bw b=φ b
theorem Ext.refl{B:Nat->Prop}:Ext B S S w w:=⟨rfl,rfl,rfl,e' _,λ_ _ _=>rfl,hj.refl _ _,λ_ _ h=>.inl h⟩
def gf:Nat->I V->Env
 |_,[]=>[]
 |i,v::vs=>(i,true,v)::gf (i+1) vs
theorem uY:∀{vs:I V} {i k:Nat} {g:J} {v:V},look (gf i vs) k=some (g,v)->g=true/\∃j,k=i+j/\vs[j]?=some v
 |[],i,k,g,v,h=>by grind[gf,look]
 |x::vs,i,k,g,v,h=>by
  simp[gf,look]at h;split at h;simp_all;obtain⟨h1,j,a,b⟩:=uY h;exact⟨h1,j+1,by omega,by grind⟩
def ye(a:Act):ResultVar->Sem Value
 |.tmp t=>Pure.pure (a.tmps.getD t undef)
 |.cell b ty=>do loadVar ty (<-asAddr (a.tmps.getD b undef))
theorem Nz(fn:Func)(a:Act):results fn a.tmps=(fn.results.mapM (ye a)>>=λvs=>Pure.pure (if h:vs.size=1 then vs[0]else .tuple vs)):=by rfl
theorem abm(R:Rel aB nt φ S env σ n a w){e:ResultVar}{f:jJ}(c:iP P [e]=some [f]){p:Prop}{v:V}(h:uM env σ f=some (p,v))(ar:p):
 ∃x,(ye a e).run P w= .ok x w/\ch φ w S v x/\v.aJ n:=by
 cases e with
 |tmp t=>
  simp[iP]at c;subst c;simp only[uM,bL]at h;obtain⟨⟨g,v0⟩,ak,rfl,rfl⟩:=h;obtain⟨x,aa,d⟩:=R.gY t g v0 ak ar;refine⟨x,?_,d,R.gX t g v0 ak ar⟩;simp[ye,aa]
 |cell k ty=>
  simp only[iP,bz,bL]at c;obtain⟨g,av,l,ak,he⟩:=c;simp at ak;subst ak;simp at he;subst he;simp[uM]at h;split at h
  . rename_i m b o ak;split at h
    rename_i cs i;simp only[bL]at h;obtain⟨v0,r,rfl,rfl⟩:=h;obtain⟨x,aa,d⟩:=R.gY k m _ ak ar;have:=d.hQ;obtain⟨_,vs,E,ad,q,_⟩:=R.b3.blk _ _ i;obtain⟨y,al,h1,s⟩:=u3 av q (R.ei _ _ i).2 (λj _=>by rw[jv ad,iy]) r;simp_all[ye,asAddr];grind
  grind
theorem Ms(R:Rel aB nt φ S env σ n a w):∀{c:I ResultVar} {b:I jJ} {p:Prop} {vs:I V},iP P c=some b->qo env σ b=some (p,vs)->p->
 ∃xs:I Value,(c.mapM (ye a)).run P w= .ok xs w/\bc (ch φ w S) vs xs/\V.aJ.V.d' n vs=true
 |[],b,p,vs,f,h,ar=>by
  simp[iP]at f;subst f;obtain⟨_,rfl⟩:=h;exact⟨[],by rfl,.nil,rfl⟩
 |g::c,b,p,vs,f,h,ar=>by
  have l:∃d e,b=d::e/\iP P [g]=some [d]/\iP P c=some e:=by
   cases g with
   |tmp t=>
    grind[iP,bL]
   |cell r ty=>
    grind[iP,bz,bL]
  obtain⟨d,e,rfl,h1,i⟩:=l;simp only[qo,bz,bL]at h;obtain⟨⟨q,v⟩,j,⟨z,A⟩,k,he⟩:=h;obtain⟨rfl,rfl⟩:=he;obtain⟨x,aa,m,s⟩:=abm R h1 j ar.1;obtain⟨xs,y,o,u⟩:=Ms R i k ar.2;refine⟨x::xs,?_,.cons m o,by grind[V.aJ.V.d']⟩;simp_all
theorem ch.mP{xs:I Value}(h:bc (ch φ w S) vs xs):ch φ w S (mP vs) (if h:xs.toArray.size=1 then xs.toArray[0]else .tuple xs.toArray):=by
 cases h with
 |nil=>exact .bd [] [] rfl (by simp)
 |cons h1 a=>
  cases a with
  |nil=>grind[Shv.mP]
  |cons a c=>
   refine .bd _ _ (by simp[c.length]) ?_;intro i v x e aa;have:=(bc.cons h1 (.cons a c)).get e;grind
theorem afL(h:V.aJ.V.d' n vs):(mP vs).aJ n:=by
 unfold mP;grind[V.aJ.V.d',V.aJ]
def Gz(a:I jJ)(Q:V->bh->Nat->Prop):Exit->Env->bh->Nat->Prop
 |.normal,env,σ,N=>∃p vs,qo env σ a=some (p,vs)/\p/\Q (mP vs) σ N
 |.ret,env,σ,N=>∃p vs,qo env σ a=some (p,vs)/\p/\Q (mP vs) σ N
 |_,_,_,_=>False
theorem eG.HL{fn:Func}{c:dY}{A:I jJ}(U:P.funcs[f]?=some fn)(G:fn.body=some code)(O:resolve P fn.ntmps code=some c)(H:iP P fn.results.toList=some A)
 {args:I V}(aL:args.length<=fn.ntmps){k:Nat}{Q:V->bh->Nat->Prop}(h:cJ P fn.ntmps k c (gf 0 args) σ k (Gz A Q)):eG P f args σ k Q:=by
 intro φ S w B Z an X am vs K;have ak:=K.length;refine calls_of_wp U G ?_;have R:Rel ⟨w,S,B,φ,k⟩ fn.ntmps φ S (gf 0 args) σ (lt k) {tmps:=vs.toArray++Array.replicate (fn.ntmps-vs.toArray.size) undef,defers:=[]} w:=by
  refine⟨Z,λi g v D av=>?_,λi g v D av=>?_,λi g v D av=>?_,λb x aa=>?_,?_,rfl,Ext.refl,λb x aa h0=>.inl (X b x aa h0),λ_ _=>rfl,λb G=>by grind[lt]⟩;obtain⟨_,j,rfl,W⟩:=uY D;obtain⟨x,aa,H⟩:=K.get W;grind;grind[uY];grind[uY,nG];grind[lt];grind
 refine wp_mono (h _ O _ φ S _ w rfl R) ?_
 rintro e cj w' ⟨bw,bx,env',σ',N',a,R'⟩
 have E:(∃ p vs,qo env' σ' A = some (p,vs)/\p/\Q (mP vs) σ' N')->cj.defers = []/\∃ v,(results fn cj.tmps).run P w' = .ok v w'/\(∃ L r o y t q,Ending.returned v = .returned L/\Q r t q/\ch o w' y r L/\r.aJ (lt q)/\rf o w' y t/\(∀ (b:Nat) x,aZ t b = some x->b<q/\x.aJ (lt q))/\Ext B S y w w'/\
  (∀(b:Nat) x,aZ t b=some x->(o b).2≠0->B (o b).1\/w.heap.size<=(o b).1)/\∀b,b<k->o b=φ b):=by
  rintro ⟨p,al,h1,F,M⟩;obtain⟨xs,ap,Y,N⟩:=Ms R' H h1 F;refine⟨R'.defers,_,?_,_,mP al,bw,bx,σ',N',rfl,M,ch.mP Y,afL N,R'.b3,λb x aa=>?_,R'.ext,R'.own,R'.fix⟩;simp_all[Array.mapM_eq_mapM_toList,Nz];obtain⟨h1,F⟩:=R'.ei b x aa;grind[lt]
 cases e with
 |normal=>exact E a
 |ret=>exact E a
 |exit id=>exact a.elim
 |goto l=>exact a.elim
 |panic lF=>exact a.elim
 |outgrown=>exact a.elim
end
end
open Go
def C.sh(k:Nat):C->C
 |.ptr b o=>.ptr (k+b) o
 |.c9 b sz i o=>.c9 (k+b) sz i o
 |.arr b sz off len=>.arr (k+b) sz off len
 |.gK b sz off len=>.gK (k+b) sz off len
 |.mp b=>.mp (k+b)
 |.eV b=>.eV (k+b)
 |.cQ b len=>.cQ (k+b) len
 |.fn f caps=>.fn f (caps.map (k+·))
 |c=>c
def V.sh(k:Nat):V->V
 |.c x=>.c (x.sh k)
 |.agg cs=>.agg (cs.map (C.sh k))
 |.bd vs=>.bd (go k vs)
where go (k:Nat):I V->I V
 |[]=>[]
 |v::vs=>v.sh k::go k vs
def cd.sh(k:Nat):cd->cd
 |.box cs=>.box (cs.map (C.sh k))
 |.arr sz es=>.arr sz es
 |.set ks=>.set ks
 |.buf E s=>.buf E s
 |.cu E c=>.cu E (c.sh k)
 |.cV sz es i o c=>.cV sz es i o (c.sh k)
def nc(σ:bh)(k:Nat):bh->bh
 |[]=>σ
 |(b,x)::r=>dA (nc σ k r) (k+b) (x.sh k)
variable{σ:bh}{f:Nat}{K:V->bh->Prop}{bw:dx}{Q:V->bh->Nat->Prop}
theorem Aw{k:Nat}:∀{a:bh} {b:Nat},aZ (nc σ k a) b=match (if k<=b then aZ a (b-k)else none)with|some x=>some (x.sh k)|none=>aZ σ b
 |[],b=>by simp[nc,aZ]
 |(c,x)::r,b=>by
  simp[nc,dk,Aw,aZ];grind
section
variable {P:Program}{aB:Ctx}{nt kk:Nat}{φ:dx}{S bx:dy}{env:Env}{σ:bh}{N key:Nat}{n:Nat->J}{a:Act}{w w':World}
theorem iC.Wl{args:I V}{r:V}(h:eG P f args [] 0 (λc _ _=>c=r))(o:V.aJ.V.d' (lt 0) args)(g:r.aJ (lt 0))(bS:K r σ):iC P f args σ key K:=by
 intro aB nt φ S env n a w R aL E vs p;refine(h φ S w (λ_=>False) ⟨λb x aa=>by grind[aZ],λb q x y aa=>by grind[aZ],R.b3.st⟩ (λb x aa=>by grind[aZ]) (λb x aa=>by grind[aZ]) o vs p).mono ?_
 rintro e w' ⟨v,c,bw,bx,σ',N',rfl,rfl,h1,t,j,A,bu,B,D⟩;refine⟨v,c,φ,bx,σ,rfl,bS,?_,V.h8 (λb h=>by grind[lt]) g,(R.extend bu j.st).more λ_ h=>mw h⟩;exact ch.mono (hj.refl _ _) (λb h=>by grind[lt]) g h1
theorem bG.sh{k:Nat}{n:Nat->J}(e:∀b,n b->bw (k+b)=φ b){c:C}{v:Value}(a:c.aJ n)(h:bG φ w S c v):bG bw w S (c.sh k) v:=by
 cases c with
 |ptr b o=>grind[C.aJ,C.sh,bG]
 |c9 b sz i o=>grind[C.aJ,C.sh,bG]
 |arr b sz off len=>grind[C.aJ,C.sh,bG]
 |gK b sz off len=>grind[C.aJ,C.sh,bG]
 |mp b=>grind[C.aJ,C.sh,bG]
 |eV b=>grind[C.aJ,C.sh,bG]
 |cQ b len=>grind[C.aJ,C.sh,bG]
 |fn f caps=>
  simp_all[C.aJ,C.sh,bG]
 |_=>exact h
theorem OC{k:Nat}:∀{vs:I V} {i:Nat},(V.sh.go k vs)[i]?=(vs[i]?).map (V.sh k)
 |[],i=>by rfl
 |v::vs,0=>by rfl
 |v::vs,i+1=>by simp[V.sh.go,OC]
theorem Mt{k:Nat}:∀{vs:I V},(V.sh.go k vs).length=vs.length
 |[]=>rfl
 |v::vs=>by simp[V.sh.go,Mt]
theorem ch.sh{k:Nat}{n:Nat->J}(e:∀b,n b->bw (k+b)=φ b){v:V}{x:Value}(a:v.aJ n)(h:ch φ w S v x):ch bw w S (v.sh k) x:=by
 induction h with
 |c h=>exact .c (bG.sh e (by grind[V.aJ]) h)
 | @agg cs vs h=>
  simp[V.aJ]at a;refine .agg ?_;have:=h.imp λc v f g=>bG.sh e (a c f) g;exact this.qL λ_ _ h=>h
 |bd vs xs ak h ih=>
  refine .bd _ xs (by grind[Mt]) ?_;grind[OC,nG,V.aJ]
theorem C.sV{m:Nat}(a:m<=16){c:C}(h:c.aJ (lt m)):(c.sh key).aJ (e1 n key):=by
 cases c<;>simp[C.sh,C.aJ,lt,e1]at h⊢
 all_goals grind
theorem V.sV{m:Nat}(a:m<=16):∀{v:V},v.aJ (lt m)->(v.sh key).aJ (e1 n key)=true
 |.c x,h=>by grind[V.sh,V.aJ,C.sV]
 |.agg cs,h=>by grind[V.sh,V.aJ,C.sV]
 |.bd vs,h=>by exact go vs h
where go:∀vs,V.aJ.V.d' (lt m) vs->V.aJ.V.d' _ (V.sh.go _ vs)=true
 |[],_=>rfl
 |v::vs,h=>by simp[V.sh.go,V.aJ.V.d',dr]at h⊢;exact⟨V.sV a h.1,go vs h.2⟩
theorem iC.ak6{args:I V}(h:eG P f args [] 0 Q)(F:V.aJ.V.d' (lt 0) args)
 (bS:∀r σ' N',Q r σ' N'->N'<=16/\K (r.sh key) (nc σ key σ')):iC P f args σ key K:=by
 intro aB nt φ S env n a w R aL a9 vs a2;refine(h φ S w (λ_=>False) ⟨λb x aa=>by grind[aZ],λb H x y aa=>by grind[aZ],R.b3.st⟩ (λb x aa=>by grind[aZ]) (λb x aa=>by grind[aZ]) F vs a2).mono ?_
 rintro e w' ⟨v,a3,bw,bx,σ',N',rfl,aP,h1,Z,M,N,bu,a4,a5⟩
 obtain⟨cM,bS⟩:=bS _ _ _ aP;have ax:=R.extend bu M.st;let B:dx:=λb=>if key<=b/\b<key+16 then bw (b-key)else φ b
 have ap:∀b,n b->B b=φ b:=by grind
 have A:∀b,lt N' b->B (key+b)=bw b:=by
  intro b F;simp only[lt,gP]at F;grind
 have t:=ax.vp ap;have G:∀b x,aZ (nc σ key σ') b=some x->(∃c j,b=key+c/\aZ σ' c=some j/\x=j.sh key)\/aZ σ b=some x:=by
  grind[Aw]
 have W:∀c j,aZ σ' c=some j->(B (key+c)).2≠0->w.heap.size<=(B (key+c)).1:=by grind
 have an:∀b x,aZ σ b=some x->(B b).2≠0->(B b).1<w.heap.size:=by
  intro b x aa h0;rw[ap b (R.ei b x aa).1]at h0⊢;exact(R.b3.blk b x aa).j3 h0
 refine⟨v,a3.sh key,B,bx,nc σ key σ',rfl,bS,ch.sh A Z h1,V.sV cM Z,⟨⟨λb x aa=>?_,λb H x y aa al a0 h0 D=>?_,M.st⟩,t.gY,t.hL,λk g v ak av=>V.h8 (λ_ h=>mw h) (t.gX k g v ak av),λb x aa=>?_,t.size,t.defers,t.ext,λb x aa h0=>?_,t.fix,λb F=>mw (t.hv b F)⟩⟩
 . rcases G b x aa with⟨c,j,rfl,q,rfl⟩|aa
   . have dM:=M.blk c j q;have U:=N c j q;have aK:=A c (by grind[lt]);cases j with
     |box cs=>
      obtain⟨X,vs,E,bj,bq,b4⟩:=dM;simp only[cd.sh,dj,aK];refine⟨X,vs,E,bj,?_,b4⟩;have am:=U.2;simp only[cd.aJ,gF]at am;have:=bq.imp λc v q a1=>bG.sh A (am c q) a1;exact this.qL λ_ _ h=>h
     |arr sz es=>simp only[cd.sh,dj,aK];exact dM
     |set ks=>simp only[cd.sh,dj,aK];exact dM
     |buf E s=>simp only[cd.sh,dj,aK];exact dM
     |cu E c=>
      obtain⟨X,⟨p,v,bj,bq,b4⟩,cv⟩:=dM;simp only[cd.sh,dj,aK];exact⟨X,⟨p,v,bj,bq,bG.sh A (by simpa[cd.aJ]using U.2) b4⟩,cv⟩
     |cV sz es i o c=>
      obtain⟨h1,⟨vs,E,bj,bq,b4,v,cv,cZ⟩,c7⟩:=dM;simp only[cd.sh,dj,aK];exact⟨h1,⟨vs,E,bj,bq,b4,v,cv,bG.sh A (by simpa[cd.aJ]using U.2) cZ⟩,c7⟩
   exact t.b3.blk b x aa
 . rcases G b x aa with⟨c,j,rfl,q,rfl⟩|aa<;>rcases G H y al with⟨L,Y,rfl,O,rfl⟩|al
   have aK:=A c (by simp[lt];exact(N c j q).1);have aD:=A L (by simp[lt];exact(N L Y O).1);rw[aK]at h0⊢;rw[aD]at D⊢;exact M.inj c L j Y q O (by omega) h0 D;have:=W c j q h0;have:=an H y al D;omega;have:=W L Y O D;have:=an b x aa h0;omega;exact t.b3.inj b H x y aa al a0 h0 D
 . rcases G b x aa with⟨c,j,rfl,q,rfl⟩|aa
   . obtain⟨bj,bq⟩:=N c j q;refine⟨by simp[e1];right;omega,?_⟩;cases j with
     |box cs=>
      simp only[cd.sh,cd.aJ,List.all_map,gF]at bq⊢;intro c q;exact C.sV cM (bq c q)
     |arr sz es=>rfl
     |set ks=>rfl
     |buf E s=>rfl
     |cu E c=>exact C.sV cM bq
     |cV sz es i o c=>simp only[cd.sh,cd.aJ]at bq⊢;exact C.sV cM bq
   obtain⟨bj,bq⟩:=t.ei b x aa;exact⟨mw bj,cd.h8 (λ_ h=>mw h) bq⟩
 . rcases G b x aa with⟨c,j,rfl,q,rfl⟩|aa
   exact .inr (hF R.ext.size (W c j q h0));exact t.own b x aa h0
end
theorem eG.mk{P:Program}{fn:Func}{c:dY}{a:I jJ}(g:P.funcs[f]?=some fn)(e:fn.body.bind (resolve P fn.ntmps)=some c)(o:iP P fn.results.toList=some a)
 {args:I V}{nt:Nat}(j:fn.ntmps=nt)(aL:args.length<=nt){k:Nat}{Q:V->bh->Nat->Prop}(h:cJ P nt k c (gf 0 args) σ k (Gz a Q)):eG P f args σ k Q:=by
 grind[bz,eG.HL]
section
open Go
def C.cA(f:Nat->Nat):C->C
 |.ptr b o=>.ptr (f b) o
 |.c9 b sz i o=>.c9 (f b) sz i o
 |.arr b sz off len=>.arr (f b) sz off len
 |.gK b sz off len=>.gK (f b) sz off len
 |.mp b=>.mp (f b)
 |.eV b=>.eV (f b)
 |.cQ b len=>.cQ (f b) len
 |.fn g caps=>.fn g (caps.map f)
 |c=>c
def V.cA(f:Nat->Nat):V->V
 |.c x=>.c (x.cA f)
 |.agg cs=>.agg (cs.map (C.cA f))
 |.bd vs=>.bd (go f vs)
where go (f:Nat->Nat):I V->I V
 |[]=>[]
 |v::vs=>v.cA f::go f vs
def cd.cA(f:Nat->Nat):cd->cd
 |.box cs=>.box (cs.map (C.cA f))
 |.arr sz es=>.arr sz es
 |.set ks=>.set ks
 |.buf E s=>.buf E s
 |.cu E c=>.cu E (c.cA f)
 |.cV sz es i o c=>.cV sz es i o (c.cA f)
def pG(σ:bh):bb->bh
 |[]=>σ
 |b::r=>hS (pG σ r) b
variable{σ:bh}{f:Nat->Nat}{bs:bb}{bw:dx}{v:V}{Q:V->bh->Nat->Prop}{x:aV}{o:db}{p:Prop}{K:Env->bh->Prop}
theorem sF:∀{bs:bb} {b:Nat},aZ (pG σ bs) b=if b∈bs then none else aZ σ b
 |[],b=>by rfl
 |c::r,b=>by
  simp[pG,gb,sF];grind
def back(bs:bb)(key:Nat)(b:Nat):Nat:=(bs[b]?).getD (key+(b-bs.length))
def h7(σ:bh)(bs:bb)(f:Nat->Nat):bh->bh
 |[]=>pG σ bs
 |(b,x)::r=>dA (h7 σ bs f r) (f b) (x.cA f)
theorem OD:∀{d:bh} {c:Nat} {x:cd},aZ (h7 σ bs f d) c=some x->(∃b a,c=f b/\aZ d b=some a/\x=a.cA f)\/(c ∉ bs/\aZ σ c=some x)
 |[],c,x,h=>by
  grind[h7,sF]
 |(b,y)::r,c,x,h=>by
  simp[h7,dk]at h;split at h;grind[aZ]
  . rcases OD h with⟨e,a,h1,g,i⟩|h
    grind[aZ];grind
section
variable {P:Program}{aB:Ctx}{nt kk:Nat}{φ:dx}{S bx:dy}{env:Env}{σ:bh}{N key:Nat}{n:Nat->J}{a:Act}{w w':World}{f:Nat->Nat}
theorem bG.cA{n:Nat->J}(e:∀b,n b->bw (f b)=φ b){c:C}{v:Value}(a:c.aJ n)(h:bG φ w S c v):bG bw w S (c.cA f) v:=by
 cases c with
 |ptr b o=>grind[C.aJ,C.cA,bG]
 |c9 b sz i o=>grind[C.aJ,C.cA,bG]
 |arr b sz off len=>grind[C.aJ,C.cA,bG]
 |gK b sz off len=>grind[C.aJ,C.cA,bG]
 |mp b=>grind[C.aJ,C.cA,bG]
 |eV b=>grind[C.aJ,C.cA,bG]
 |cQ b len=>grind[C.aJ,C.cA,bG]
 |fn g caps=>
  simp_all[C.aJ,C.cA,bG]
 |_=>exact h
theorem JY:∀{vs:I V} {i:Nat},(V.cA.go f vs)[i]?=(vs[i]?).map (V.cA f)
 |[],i=>by rfl
 |v::vs,0=>by rfl
 |v::vs,i+1=>by simp[V.cA.go,JY]
theorem I4:∀{vs:I V},(V.cA.go f vs).length=vs.length
 |[]=>rfl
 |v::vs=>by simp[V.cA.go,I4]
theorem ch.cA{n:Nat->J}(e:∀b,n b->bw (f b)=φ b){x:Value}(a:v.aJ n)(h:ch φ w S v x):ch bw w S (v.cA f) x:=by
 induction h with
 |c h=>exact .c (bG.cA e (by grind[V.aJ]) h)
 | @agg cs vs h=>
  simp[V.aJ]at a;refine .agg ?_;have:=h.imp λc v g j=>bG.cA e (a c g) j;exact this.qL λ_ _ h=>h
 |bd vs xs ak h ih=>
  refine .bd _ xs (by grind[I4]) ?_;grind[JY,nG,V.aJ]
theorem C.sM{n m:Nat->J}(a:∀b,m b->n (f b)){c:C}(h:c.aJ m):(c.cA f).aJ n:=by
 cases c<;>simp[C.cA,C.aJ]at h⊢
 all_goals grind
theorem V.sM{n m:Nat->J}(a:∀b,m b->n (f b)):∀{v:V},v.aJ m->(v.cA f).aJ n=true
 |.c x,h=>by grind[V.cA,V.aJ,C.sM]
 |.agg cs,h=>by grind[V.cA,V.aJ,C.sM]
 |.bd vs,h=>by exact go vs h
where go:∀vs,V.aJ.V.d' m vs->V.aJ.V.d' n (V.cA.go f vs)=true
 |[],_=>rfl
 |v::vs,h=>by simp[V.cA.go,V.aJ.V.d',dr]at h⊢;exact⟨V.sM a h.1,go vs h.2⟩
theorem Rel.aks{B:Nat->Prop}(R:Rel aB nt φ S env σ n a w)(e:Ext B S bx w w')(N:∀b j,bx b j->b<w'.heap.size)(M:∀b x,aZ σ b=some x->(φ b).2≠0->¬B (φ b).1)(dM:∀b,B b->aB.B b\/aB.kV.heap.size<=b):Rel aB nt φ bx env σ n a w':=by
 have ad:=λb x aa h0=>e.block _ ((R.b3.blk b x aa).j3 h0) (M b x aa h0);have D:∀b x,aZ σ b=some x->(φ b).2≠0->∀j,¬bx (φ b).1 j:=by
  intro b x aa h0 j H;have q:=R.b3.blk b x aa;rcases e.l0 _ _ H with h|h|h;exact q.qM h0 j h;grind;grind
 refine⟨⟨λb x aa=>?_,R.b3.inj,N⟩,λk g v ak av=>?_,R.hL,R.gX,R.ei,R.size,R.defers,?_,R.own,R.fix,R.hv⟩
 . have q:=R.b3.blk b x aa;cases x with
   |box cs=>
    obtain⟨h0,vs,E,h1,f,y⟩:=q;refine⟨h0,vs,E,(ad _ _ aa h0).trans h1,f.imp λc v O A=>bG.mono e.mono (λ_ _=>rfl) (C.nd _) A,D b _ aa h0⟩
   |arr sz es=>
    obtain⟨h1,f,y,F,bu⟩:=q;refine⟨h1,f,y,F,λh0=>?_⟩;obtain⟨vs,E,bj,bq,b4,cv⟩:=bu h0;exact⟨vs,E,(ad _ _ aa h0).trans bj,bq,λi j G t he ht=>let⟨v,K,A⟩:=b4 i j G t he ht;⟨v,K,ca.mono e.mono A⟩,D b _ aa h0⟩
   |set ks=>
    obtain⟨h0,⟨es,c,h1,f⟩,y⟩:=q;exact⟨h0,⟨es,c,(ad _ _ aa h0).trans h1,f⟩,D b _ aa h0⟩
   |buf E s=>
    obtain⟨h1,f,y⟩:=q;refine⟨h1,f,λh0=>?_⟩;grind
   |cu E c=>
    obtain⟨h0,⟨p,v,h1,f,y⟩,F⟩:=q;exact⟨h0,⟨p,v,(ad _ _ aa h0).trans h1,f,bG.mono e.mono (λ_ _=>rfl) (C.nd _) y⟩,D b _ aa h0⟩
   |cV sz es i o c=>
    obtain⟨⟨h1,f,y,F,bu,L⟩,⟨vs,E,bj,bq,b4,v,cv,cZ⟩,c7⟩:=q;exact⟨⟨h1,f,y,F,bu,L⟩,⟨vs,E,(ad _ _ aa (by omega)).trans bj,bq,λi j G t he ht aL=>let⟨v,K,A⟩:=b4 i j G t he ht aL;⟨v,K,ca.mono e.mono A⟩,v,cv,bG.mono e.mono (λ_ _=>rfl) (C.nd _) cZ⟩,D b _ aa (by omega)⟩
 obtain⟨x,aa,A⟩:=R.gY k g v ak av;exact⟨x,aa,ch.mono e.mono (λ_ _=>rfl) (R.gX k g v ak av) A⟩
 . refine⟨e.os.trans R.ext.os,e.tape.trans R.ext.tape,e.output.trans R.ext.output,hF R.ext.size e.size,λb aD q=>?_,R.ext.mono.trans e.mono,λb j H=>?_⟩
   refine(e.block b (j0 aD R.ext.size) λh=>?_).trans (R.ext.block b aD q);grind
   . rcases e.l0 _ _ H with h|h|h
     exact R.ext.l0 b j h;grind;exact .inr (.inr (hF R.ext.size h))
theorem iC.raw {fn:Nat}{args:I V}{bs:bb}{Q:V->bh->Nat->Prop}(ck:bs.Nodup)(aD:∀b,b∈bs->b<key)(h:eG P fn (args.map (V.cc bs)) (gB bs σ 0 bs) bs.length Q){K:V->bh->Prop}
 (bS:∀r σ' N',Q r σ' N'->N'<=bs.length+16/\K (r.cA (back bs key)) (h7 σ bs (back bs key) σ')):(∀b,b∈bs->n b)->∀aB nt φ S env a w,Rel aB nt φ S env σ n a w->(∀b,key<=b->b<key+16->n b=false)->V.aJ.V.d' n args->∀vs:I Value,bc (ch φ w S) args vs->
 Calls P fn vs.toArray w λe w'=>∃v r bw bx σ',e= .returned v/\K r σ'/\ch bw w' bx r v/\r.aJ (e1 n key)/\Rel aB nt bw bx env σ' (e1 n key) a w':=by
 intro q aB nt φ S env a w R aL fd vs dt;let ax:dx:=λi=>φ ((bs[i]?).getD 0);have ap:∀(i:Nat) b,bs[i]?=some b->ax i=φ b:=by grind
 let B:Nat->Prop:=λbg=>∃b x,b∈bs/\aZ σ b=some x/\(φ b).2≠0/\bg=(φ b).1;have an:∀b x,aZ (gB bs σ 0 bs) b=some x->∃c f,bs[b]?=some c/\aZ σ c=some f/\x=f.cc bs:=by
  grind[qb]
 have c6:rf ax w S (gB bs σ 0 bs):=by
  refine⟨λb x aa=>?_,λb A x y aa al a0 h0 D=>?_,R.b3.st⟩;obtain⟨c,f,H,G,rfl⟩:=an b x aa;exact dj.cc ap H (R.b3.blk c f G)
  . obtain⟨c,f,H,G,rfl⟩:=an b x aa;obtain⟨M,Z,b0,b1,rfl⟩:=an A y al;rw[ap b c H]at h0⊢;rw[ap A M b0]at D⊢;refine R.b3.inj c M f Z G b1 ?_ h0 D;grind[List.getElem?_eq_some_iff,List.pairwise_iff_getElem]
 have ce:bc (ch ax w S) (args.map (V.cc bs)) vs:=dt.qL λ_ _=>ch.cc ap;have ci:V.aJ.V.d' (lt bs.length) (args.map (V.cc bs)):=by
  simp_all[tS,sP,bL,V.kq]
 refine(h ax S w B c6 (λb x aa=>?_) (λb x aa h0=>?_) ci vs ce).mono ?_
 . obtain⟨c,f,H,G,rfl⟩:=an b x aa;refine⟨(ev.1 H).1,?_⟩;cases f with
   |box cs=>grind[cd.cc,cd.aJ,List.all_map,List.all_eq_true,C.kq]
   |arr sz es=>rfl
   |set ks=>rfl
   |buf E s=>rfl
   |cu E c=>exact C.kq c
   |cV sz es i o c=>exact C.kq c
 grind;rintro e w' ⟨v,dE,bw,bx,σ',N',rfl,b2,h1,H,G,N,bu,eq,ex⟩
 obtain⟨cM,bS⟩:=bS _ _ _ b2;have a3:∀b,B b->aB.B b\/aB.kV.heap.size<=b:=by
  rintro bg ⟨b,x,_,aa,h0,rfl⟩;exact R.own b x aa h0
 have bi:Rel aB nt φ S env (pG σ bs) n a w:=by
  have Y:∀b x,aZ (pG σ bs) b=some x->b ∉ bs/\aZ σ b=some x:=by
   grind[sF]
  exact⟨⟨λb x aa=>R.b3.blk b x (Y b x aa).2,λb A x y aa al=>R.b3.inj b A x y (Y b x aa).2 (Y A y al).2,R.b3.st⟩,R.gY,R.hL,R.gX,λb x aa=>R.ei b x (Y b x aa).2,R.size,R.defers,R.ext,λb x aa=>R.own b x (Y b x aa).2,R.fix,R.hv⟩
 have cj:∀b x,b ∉ bs->aZ σ b=some x->(φ b).2≠0->¬B (φ b).1:=by
  rintro b x q aa h0 ⟨c,y,j,al,D,he⟩;exact R.b3.inj b c x y aa al (λe=>q (e▸j)) h0 D he
 have bv:=bi.aks bu G.st (λb x aa h0=>by
  grind[sF]) a3
 let F:dx:=λb=>if key<=b/\b<key+16 then bw (bs.length+(b-key))else φ b
 have be:∀b,n b->F b=φ b:=by grind
 have L:∀b,lt N' b->F (back bs key b)=bw b:=by
  intro b O;simp only[lt,gP]at O;unfold back;grind
 have X:∀b,lt N' b->e1 n key (back bs key b):=by
  intro b O;simp only[lt,gP]at O;unfold back;cases av:bs[b]? with
  |some c=>exact mw (q c (fQ av))
  |none=>
   simp only[Option.getD_none,e1,lW,dr,gP];right;omega
 have t:=bv.vp be;have W:∀b x,aZ (h7 σ bs (back bs key) σ') b=some x->(∃c f,b=back bs key c/\aZ σ' c=some f/\x=f.cA (back bs key))\/(b ∉ bs/\aZ σ b=some x):=λb x aa=>OD aa;have U:∀b x,b ∉ bs->aZ σ b=some x->aZ (pG σ bs) b=some x:=by simp_all[sF,aq]
 have a1:∀c f,aZ σ' c=some f->(F (back bs key c)).2≠0->B (F (back bs key c)).1\/w.heap.size<=(F (back bs key c)).1:=by
  intro c f j h0;rw[L c (by simp[lt];exact(N c f j).1)]at h0⊢;grind
 have a9:∀b x,b ∉ bs->aZ σ b=some x->(F b).2≠0->(F b).1<w.heap.size/\¬B (F b).1:=by
  intro b x q aa h0;rw[be b (R.ei b x aa).1]at h0⊢;exact⟨(R.b3.blk b x aa).j3 h0,cj b x q aa h0⟩
 refine⟨v,dE.cA (back bs key),F,bx,h7 σ bs (back bs key) σ',rfl,bS,ch.cA L H h1,V.sM X H,⟨⟨λb x aa=>?_,λb A x y aa al a0 h0 D=>?_,G.st⟩,t.gY,t.hL,λk g v ak av=>V.h8 (λ_ h=>mw h) (t.gX k g v ak av),λb x aa=>?_,t.size,t.defers,t.ext,λb x aa h0=>?_,t.fix,λb O=>mw (t.hv b O)⟩⟩
 . rcases W b x aa with⟨c,f,rfl,j,rfl⟩|⟨q,aa⟩
   . have dM:=G.blk c f j;have am:=N c f j;have aK:=L c (by simp[lt];exact am.1);cases f with
     |box cs=>
      obtain⟨a2,vs,E,bj,bq,b4⟩:=dM;simp only[cd.cA,dj,aK];refine⟨a2,vs,E,bj,?_,b4⟩;have a4:=am.2;simp only[cd.aJ,gF]at a4;have:=bq.imp (R':=λc v=>bG F w' bx (C.cA (back bs key) c) v) λc v j cS=>bG.cA L (a4 c j) cS;exact this.qL λ_ _ h=>h
     |arr sz es=>simp only[cd.cA,dj,aK];exact dM
     |set ks=>simp only[cd.cA,dj,aK];exact dM
     |buf E s=>simp only[cd.cA,dj,aK];exact dM
     |cu E c=>
      obtain⟨a2,⟨p,v,bj,bq,b4⟩,cv⟩:=dM;simp only[cd.cA,dj,aK];exact⟨a2,⟨p,v,bj,bq,bG.cA L (by simpa[cd.aJ]using am.2) b4⟩,cv⟩
     |cV sz es i o c=>
      obtain⟨h1,⟨vs,E,bj,bq,b4,v,cv,cZ⟩,c7⟩:=dM;simp only[cd.cA,dj,aK];exact⟨h1,⟨vs,E,bj,bq,b4,v,cv,bG.cA L (by simpa[cd.aJ]using am.2) cZ⟩,c7⟩
   exact t.b3.blk b x (U b x q aa)
 . rcases W b x aa with⟨c,f,rfl,j,rfl⟩|⟨q,aa⟩<;>rcases W A y al with⟨M,Z,rfl,aP,rfl⟩|⟨a5,al⟩
   have aK:=L c (by simp[lt];exact(N c f j).1);have bE:=L M (by simp[lt];exact(N M Z aP).1);rw[aK]at h0⊢;rw[bE]at D⊢;exact G.inj c M f Z j aP (by rintro rfl;exact a0 rfl) h0 D
   . obtain⟨bj,bq⟩:=a9 A y a5 al D;rcases a1 c f j h0 with h|h
     intro e;rw[e]at h;exact bq h;omega
   . obtain⟨bj,bq⟩:=a9 b x q aa h0;rcases a1 M Z aP D with h|h
     intro e;rw[<-e]at h;exact bq h;omega
   exact t.b3.inj b A x y (U b x q aa) (U A y a5 al) a0 h0 D
 . rcases W b x aa with⟨c,f,rfl,j,rfl⟩|⟨q,aa⟩
   . obtain⟨bj,bq⟩:=N c f j;refine⟨X c (by simp[lt];exact bj),?_⟩;cases f with
     |box cs=>
      simp only[cd.cA,cd.aJ,List.all_map,gF]at bq⊢;intro c j;exact C.sM X (bq c j)
     |arr sz es=>rfl
     |set ks=>rfl
     |buf E s=>rfl
     |cu E c=>simp only[cd.cA,cd.aJ]at bq⊢;exact C.sM X bq
     |cV sz es i o c=>simp only[cd.cA,cd.aJ]at bq⊢;exact C.sM X bq
   obtain⟨bj,bq⟩:=t.ei b x (U b x q aa);exact⟨mw bj,cd.h8 (λ_ h=>mw h) bq⟩
 . rcases W b x aa with⟨c,f,rfl,j,rfl⟩|⟨q,aa⟩
   . rcases a1 c f j h0 with h|h
     exact a3 _ h;exact .inr (hF R.ext.size h)
   exact t.own b x (U b x q aa) h0
theorem iC.ak7{fn:Nat}{args:I V}(ck:bs.Nodup)(aD:∀b,b∈bs->b<key)(e:∀b,b∈bs->∃x,aZ σ b=some x)(h:eG P fn (args.map (V.cc bs)) (gB bs σ 0 bs) bs.length Q){K:V->bh->Prop}
 (bS:∀r σ' N',Q r σ' N'->N'<=bs.length+16/\K (r.cA (back bs key)) (h7 σ bs (back bs key) σ')):iC P fn args σ key K:=by
 intro aB nt φ S env n a w R aL c vs f;exact iC.raw ck aD h bS (λb c=>let⟨x,aa⟩:=e b c;(R.ei b x aa).1) aB nt φ S _ a w R aL c vs f
theorem Mu:∀{l:bb} {i:Nat} {σ σ':bh},(∀b,b∈l->aZ σ' b=aZ σ b)->gB bs σ' i l=gB bs σ i l
 |[],i,σ,σ',h=>rfl
 |b::r,i,σ,σ',h=>by
  simp[gB];rw[h b (by simp),Mu λc a=>h c (by grind)]
theorem Mv:∀{a:bh} {σ σ':bh} {c:Nat},(aZ (pG σ' bs) c=aZ (pG σ bs) c)->aZ (h7 σ' bs f a) c=aZ (h7 σ bs f a) c
 |[],σ,σ',c,h=>h
 |(b,x)::r,σ,σ',c,h=>by
  simp[h7,dk];split;rfl;exact Mv h
theorem Js{key:Nat}:∀{f:bh} {σ:bh} {c:Nat},f.all (λx=>(x.1<bs.length+16:J))->c ∉ bs->¬(key<=c/\c<key+16)->aZ (h7 σ bs (back bs key) f) c=aZ σ c
 |[],σ,c,a,d,e=>by grind[h7,sF]
 |(b,x)::r,σ,c,a,d,e=>by
  simp only[nV,dr]at a;simp[h7,dk];rw[aq ?_];exact Js a.2 d e;grind[back]
end
variable {xb:bb}
section
variable {P:Program}{aB:Ctx}{nt kk:Nat}{φ:dx}{S:dy}{env env':Env}{σ σ' σ1:bh}{N key:Nat}{n:Nat->J}{a:Act}{w:World}
theorem dW(h:∀t,t∈x.tmps->look env' t=look env t):x.get env'=x.get env:=by
 cases x with
 |const v=>rfl
 |tmp t=>grind[aV.get,aV.tmps]
theorem Ax{xs:I aV}(h:∀t,t∈xs.flatMap aV.tmps->look env' t=look env t):ix env' xs=ix env xs:=by
 induction xs with
 |nil=>rfl
 |cons x xs ih=>
  grind[ix,dW]
theorem Ay{x:ai aV}(h:∀t,t∈vc x->look env' t=look env t):km env' x=km env x:=by
 cases x with
 |none=>rfl
 |some x=>simp[km];rw[dW h]
theorem Mw:∀{ps:I (Nat×Nat×aV)} {cs:I C},(∀t,t∈(ps.flatMap λp=>p.2.2.tmps)->look env' t=look env t)->lO env' cs ps=lO env cs ps
 |[],cs,h=>rfl
 |(o,k,x)::r,cs,h=>by
  simp[lO];rw[dW (λt ht=>h t (by grind))];congr 1;funext a;congr 1;funext c;split;rw[Mw (λt ht=>h t (by grind))];rfl
theorem I5{sz:Nat}:∀{ps:I (Nat×aV)} {es:I (I T)},(∀t,t∈(ps.flatMap λp=>p.2.tmps)->look env' t=look env t)->kg env' sz es ps=kg env sz es ps
 |[],cs,h=>rfl
 |(i,x)::r,es,h=>by
  simp[kg];rw[dW (λt ht=>h t (by grind))];congr 1;funext a;congr 1;funext c;congr 1;funext ts;split;rw[I5 (λt ht=>h t (by grind))];rfl
theorem afM(h:∀t,t∈o.reads->look env' t=look env t):aU o env' σ key=aU o env σ key:=by
 cases o<;>simp only[db.reads,gj]at h
 case mov x=>simp only[aU];rw[dW h]
 case pick c x y=>grind[aU,dW]
 case alloc=>rfl
 case box x=>simp only[aU];rw[dW h]
 case allocA=>rfl
 case b2s x=>simp only[aU];rw[dW h]
 case allocS=>rfl
 case mkset=>rfl
 case bsliceT e sz len z ps=>simp only[aU];congr 1;funext a;rw[I5 h]
 case lkset x y=>simp only[aU];rw[dW λt ht=>h t (.inl ht),dW λt ht=>h t (.inr ht)]
 case upset x y=>simp only[aU];rw[dW λt ht=>h t (.inl ht),dW λt ht=>h t (.inr ht)]
 case appendB e k x y=>simp only[aU];rw[dW λt ht=>h t (.inl ht),dW λt ht=>h t (.inr ht)]
 case sdata x=>simp only[aU];rw[dW h]
 case ustr e x y=>simp only[aU];rw[dW λt ht=>h t (.inl ht),dW λt ht=>h t (.inr ht)]
 case idxP k x y=>simp only[aU];rw[dW λt ht=>h t (.inl ht),dW λt ht=>h t (.inr ht)]
 case slcP k x l i=>simp only[aU];rw[dW λt ht=>h t (.inl (.inl ht)),Ay λt ht=>h t (.inl (.inr ht)),Ay λt ht=>h t (.inr ht)]
 case build z ps=>simp only[aU];rw[Mw h]
 case bslice sz len z ps=>simp only[aU];congr 1;funext a;rw[I5 h]
 case load g k x=>simp only[aU];rw[dW h]
 case store k x v=>simp only[aU];rw[dW λt ht=>h t (.inl ht),dW λt ht=>h t (.inr ht)]
 case nilCheck x=>simp only[aU];rw[dW h]
 case bin op x y=>simp only[aU];rw[dW λt ht=>h t (.inl ht),dW λt ht=>h t (.inr ht)]
 case eqAgg op ks x y=>simp only[aU];rw[dW λt ht=>h t (.inl ht),dW λt ht=>h t (.inr ht)]
 case eqBool op x y=>simp only[aU];rw[dW λt ht=>h t (.inl ht),dW λt ht=>h t (.inr ht)]
 case eqNil=>rfl
 case not x=>simp only[aU];rw[dW h]
 case conv k x=>simp only[aU];rw[dW h]
 case i2s x=>simp only[aU];rw[dW h]
 case s2s x=>simp only[aU];rw[dW h]
 case fldA k x=>simp only[aU];rw[dW h]
 case fld g k m x=>simp only[aU];rw[dW h]
 case idxA op x y=>simp only[aU];rw[dW λt ht=>h t (.inl ht),dW λt ht=>h t (.inr ht)]
 case idxV op x y=>simp only[aU];rw[dW λt ht=>h t (.inl ht),dW λt ht=>h t (.inr ht)]
 case mslice op _ z x=>simp only[aU];rw[dW h]
 case idxS x y=>simp only[aU];rw[dW λt ht=>h t (.inl ht),dW λt ht=>h t (.inr ht)]
 case slcS x l i=>simp only[aU];rw[dW λt ht=>h t (.inl (.inl ht)),Ay λt ht=>h t (.inl (.inr ht)),Ay λt ht=>h t (.inr ht)]
 case slc k x l i=>grind[aU,dW,Ay]
 case slc0 x=>simp only[aU];rw[dW h]
 case mkfn f xs=>simp only[aU];rw[Ax h]
 case ext x i=>simp only[aU];rw[dW h]
 case len s x=>grind[aU,dW]
 case append te sz by' x y=>simp only[aU];rw[dW λt ht=>h t (.inl ht),dW λt ht=>h t (.inr ht)]
 case max2 x y=>simp only[aU];rw[dW λt ht=>h t (.inl ht),dW λt ht=>h t (.inr ht)]
 case min2 x y=>grind[aU,dW]
 case call=>rfl
 rfl
def eH(env:Env)(x:aV):bb:=
 match x.get env with
 |some (_,.c (.ptr b _))=>[b]
 |some (_,.c (.c9 b _ _ _))=>[b]
 |some (_,.c (.arr b _ _ _))=>[b]
 |some (_,.c (.gK b _ _ _))=>[b]
 |some (_,.c (.mp b))=>[b]
 |some (_,.c (.eV b))=>[b]
 |some (_,.c (.cQ b _))=>[b]
 |_=>[]
def C.gV:C->bb
 |.ptr b _|.c9 b _ _ _|.arr b _ _ _|.gK b _ _ _|.mp b|.eV b|.cQ b _=>[b]
 |.fn _ caps=>caps
 |_=>[]
def V.gV:V->bb
 |.c x=>x.gV
 |.agg cs=>cs.flatMap C.gV
 |.bd _=>[]
def lD(env:Env)(args:I aV):bb:=
 args.flatMap λx=>match x.get env with
  |some (_,v)=>v.gV
  |none=>[]
def eL(xb:bb)(o:db)(env:Env)(key:Nat):bb:=
 match o with
 |.alloc _|.allocA _|.box _|.bslice .. |.mslice .. |.mkset=>[key]
 |.allocS .. =>[key,key+1]
 |.lkset x _=>eH env x
 |.upset x _=>eH env x
 |.appendB _ _ x _=>key::eH env x
 |.ustr _ x _=>eH env x
 |.call _ args=>(List.range 16).map (key+·)++(lD env args++xb)
 |.load _ _ x=>eH env x
 |.b2s x=>eH env x
 |.store _ x _=>eH env x
 |.append _ _ _ x y=>key::(eH env x++eH env y)
 |_=>[]
def cX(xb:bb)(o:db)(env:Env)(key b:Nat):J:=
 match o with
 |.alloc _|.allocA _|.box _|.bslice .. |.mslice .. |.mkset=>b==key
 |.allocS .. =>b==key||b==key+1
 |.upset x _=>(eH env x).contains b
 |.appendB _ _ x _=>b==key||(eH env x).contains b
 |.ustr _ x _=>(eH env x).contains b
 |.store _ x _=>(eH env x).contains b
 |.append _ _ _ x _=>b==key||(eH env x).contains b
 |.call _ args=>((key<=b:J)&&(b<key+16:J))||(lD env args++xb).contains b
 |_=>false
theorem aa4(aL:o.cG)(ht:o.iL=false){p v σ1}(a:aU o env σ key=some (p,v,σ1)):aU o env σ' key=some (p,v,σ'):=by
 cases o<;>simp only[db.cG,db.iL,reduceCtorEq]at aL ht<;>simp only[aU,bz,bL]at a⊢
 all_goals
  (try (obtain⟨a1,h1,a⟩:=a;refine⟨a1,h1,?_⟩))
  (try (obtain⟨a2,b,a⟩:=a;refine⟨a2,b,?_⟩))
  (try (obtain⟨a3,c,a⟩:=a;refine⟨a3,c,?_⟩))
  (try split at a)
  (try (done))
 all_goals first
  |(cases a;rfl)
  |(cases a;done)
  |(exact⟨x,h1,b,c,rfl⟩)
  |(simp only[bL]at a⊢;obtain⟨x,h1,b⟩:=a;simp only[eB]at b⊢;exact⟨x,h1,b.1,b.2.1,trivial⟩)
  |(simp only[e2,eo,eB]at a⊢;exact⟨a.1,a.2.1,a.2.2.1,trivial⟩)
theorem O'{b:Nat}(h:x.get env=some (p,.c (.mp b))):eH env x=[b]:=by grind[eH]
theorem adp{b:Nat}(h:x.get env=some (p,.c (.eV b))):eH env x=[b]:=by grind[eH]
theorem NA{b l:Nat}(h:x.get env=some (p,.c (.cQ b l))):eH env x=[b]:=by grind[eH]
theorem OE{b o:Nat}(h:x.get env=some (p,.c (.ptr b o))):eH env x=[b]:=by grind[eH]
theorem NB{b sz i o:Nat}(h:x.get env=some (p,.c (.c9 b sz i o))):eH env x=[b]:=by grind[eH]
theorem adL{b sz i o:Nat}(h:x.get env=some (p,.c (.gK b sz i o))):eH env x=[b]:=by grind[eH]
theorem EK{b sz i o:Nat}(h:x.get env=some (p,.c (.arr b sz i o))):eH env x=[b]:=by grind[eH]
theorem adq{p v}(a:aU o env σ key=some (p,v,σ1))(ht:∀b,b∈eL xb o env key->aZ σ' b=aZ σ b):
 (∃bE,aU o env σ' key=some (p,v,bE)/\∀b,aZ bE b=if cX xb o env key b then aZ σ1 b else aZ σ' b)/\∀b,cX xb o env key b=false->aZ σ1 b=aZ σ b:=by
 by_cases I:o.cG/\o.iL=false
 . have aa:∀b,cX xb o env key b=false:=by intro b;cases o<;>simp only[db.cG,db.iL,reduceCtorEq,cm,false_and,qN,and_self]at I<;>rfl
   have:=A0 I.1 a;subst this;exact⟨⟨σ',aa4 I.1 I.2 a,λb=>by grind⟩,λb _=>rfl⟩
 . cases o<;>simp only[db.cG,db.iL,reduceCtorEq,cm,false_and,qN,and_self,not_true,HJ]at I
   case alloc cs=>
    simp only[aU,eo,eB]at a⊢;obtain⟨rfl,rfl,rfl⟩:=a;refine⟨⟨_,⟨rfl,rfl,rfl⟩,λb=>?_⟩,λb f=>?_⟩;simp only[dk,cX,jl];grind;simp_all[cX,kP,dk,aq,ee]
   case allocA cs=>
    simp only[aU,bL,eB]at a⊢;obtain⟨ts,X,rfl,rfl,rfl⟩:=a;refine⟨⟨_,⟨ts,X,rfl,rfl,rfl⟩,λb=>?_⟩,λb f=>?_⟩;simp only[dk,cX,jl];grind;simp_all[cX,kP,dk,aq,ee]
   case b2s x=>
    simp only[aU,bz,bL,eB]at a⊢;obtain⟨⟨n,v0⟩,h1,⟨q,s⟩,j,rfl,rfl,rfl⟩:=a;refine⟨⟨σ',⟨(n,v0),h1,(q,s),?_,rfl,rfl,rfl⟩,λb=>rfl⟩,λb _=>rfl⟩;dsimp only at j⊢;unfold oh at j⊢;split at j;grind;grind;rename_i b off len;rw[ht b (by simp[eL,EK h1])];grind;rename_i b off len;rw[ht b (by simp[eL,adL h1])];grind;grind
   case box x=>
    simp only[aU,bz,bL,eB]at a⊢;obtain⟨J,h1,cs,j,rfl,rfl,rfl⟩:=a;refine⟨⟨_,⟨J,h1,cs,j,rfl,rfl,rfl⟩,λb=>?_⟩,λb f=>?_⟩;simp only[dk,cX,jl];grind;simp_all[cX,kP,dk,aq,ee]
   case bslice sz len z ps=>
    simp only[aU,bz,bL,eB]at a⊢;obtain⟨J,h1,cs,j,rfl,rfl,rfl⟩:=a;refine⟨⟨_,⟨J,h1,cs,j,rfl,rfl,rfl⟩,λb=>?_⟩,λb f=>?_⟩;simp only[dk,cX,jl];grind;simp_all[cX,kP,dk,aq,ee]
   case mslice sz by' z x=>
    simp only[aU,bz]at a⊢;obtain⟨J,h1,cs,j,a⟩:=a;split at a
    . rename_i he;simp only[eo,eB]at a;obtain⟨rfl,rfl,rfl⟩:=a;refine⟨⟨_,⟨J,h1,cs,j,by rw[he]⟩,λb=>?_⟩,λb f=>?_⟩
      simp only[dk,cX,jl];grind;simp_all[cX,kP,dk,aq,ee]
    cases a
   case load g k x=>
    have:=A0 rfl a;subst this;refine⟨⟨σ',?_,λb=>rfl⟩,λb _=>rfl⟩;simp only[aU,bz]at a⊢;obtain⟨⟨n,v0⟩,h1,a⟩:=a;refine⟨(n,v0),h1,?_⟩;dsimp only at a⊢;split at a
    . rename_i b o;rw[ht b (by simp[eL,OE h1])];split at a
      all_goals simp_all
    . rename_i b sz i o;rw[ht b (by simp[eL,NB h1])];split at a
      simp_all
      . split at a
        grind
        . rename_i av;split at a
          all_goals simp_all
      grind
    all_goals simp_all
   case store k x y=>
    simp only[aU,bz,e2]at a⊢;obtain⟨⟨n,v0⟩,h1,d,j,cs,B,G,a⟩:=a;have F:∀(b:Nat) (P:cd),eH env x=[b]->σ1=dA σ b P->(∀c,aZ (dA σ' b P) c=if cX xb (.store k x y) env key c then aZ σ1 c else aZ σ' c)/\∀c,cX xb (.store k x y) env key c=false->aZ σ1 c=aZ σ c:=by
     intro b P f hs;subst hs;refine⟨λc=>?_,λc l=>?_⟩;simp only[cX,f,lq,kp,i',jl,dk];grind;simp only[cX,f,lq,kp,i',kP]at l;rw[dk,aq (ee l)]
    dsimp only at a⊢;split at a
    . rename_i b o;have f:=OE h1;split at a
      rename_i Z M;simp only[e2,eo,eB]at a;obtain⟨bu,rfl,rfl,C⟩:=a;obtain⟨f1,f2⟩:=F b _ f C.symm;refine⟨⟨_,⟨(n,.c (.ptr b o)),h1,d,j,cs,B,G,?_⟩,f1⟩,f2⟩;dsimp only;rw[ht b (by simp[eL,f]),M];dsimp only;rw[ag bu]
      . rename_i E U M;split at a
        rename_i c;simp only[eo,eB]at a;obtain⟨rfl,rfl,C⟩:=a;obtain⟨f1,f2⟩:=F b _ f C.symm;refine⟨⟨_,⟨(n,.c (.ptr b 1)),h1,d,j,_,B,G,?_⟩,f1⟩,f2⟩;dsimp only;rw[ht b (by simp[eL,f]),M];rfl;cases a
      cases a
    . rename_i b sz i o;have f:=NB h1;split at a
      . rename_i K es w;split at a
        rename_i c l;simp only[eo,eB]at a;obtain⟨rfl,rfl,C⟩:=a;obtain⟨f1,f2⟩:=F b _ f C.symm;refine⟨⟨_,⟨(n,.c (.c9 b sz i o)),h1,d,j,cs,B,G,?_⟩,f1⟩,f2⟩;dsimp only;rw[ht b (by simp[eL,f]),w];dsimp only;rw[l];rename_i l;simp only[bz,eo,eB]at a;obtain⟨ts,bu,rfl,rfl,C⟩:=a;obtain⟨f1,f2⟩:=F b _ f C.symm;refine⟨⟨_,⟨(n,.c (.c9 b sz i o)),h1,d,j,cs,B,G,?_⟩,f1⟩,f2⟩;dsimp only;rw[ht b (by simp[eL,f]),w];dsimp only;rw[l];dsimp only;rw[bu];rfl
      . rename_i K es ab ad U w;split at a
        . rename_i c;split at a
          rename_i N;simp only[eo,eB]at a;obtain⟨rfl,rfl,C⟩:=a;obtain⟨f1,f2⟩:=F b _ f C.symm;refine⟨⟨_,⟨(n,.c (.c9 b sz i o)),h1,d,j,_,B,G,?_⟩,f1⟩,f2⟩;dsimp only;rw[ht b (by simp[eL,f]),w];dsimp only;rw[ag N];rename_i N;simp only[bz,eo,eB]at a;obtain⟨t,bu,rfl,rfl,C⟩:=a;obtain⟨f1,f2⟩:=F b _ f C.symm;refine⟨⟨_,⟨(n,.c (.c9 b sz i o)),h1,d,j,_,B,G,?_⟩,f1⟩,f2⟩;dsimp only;rw[ht b (by simp[eL,f]),w];dsimp only;rw[aq N,bu];rfl
        cases a
      cases a
    cases a
   case append te sz by' x y=>
    simp only[aU,bz]at a⊢;obtain⟨⟨n,v0⟩,h1,⟨d1,d2⟩,j,a⟩:=a;dsimp only at a;cases D:mS v0 d2 with
    |some r=>
     rw[D]at a;have H:=D;unfold mS at H;split at H
     . rename_i b s1 off len T Y S R;split at H
       . cases H;have A:=EK h1;dsimp only at a;unfold vZ at a;dsimp only at a;split at a
         . rename_i ae es w;simp only[eo,eB]at a;obtain⟨rfl,rfl,rfl⟩:=a;refine⟨⟨dA (hS σ' b) key (.arr sz (es.take len++(es.drop S).take R)),⟨(n,.c (.arr b s1 off len)),h1,(d1,.c (.gK T Y S R)),j,?_⟩,λc=>?_⟩,λc l=>?_⟩
           dsimp only;rw[D];dsimp only;unfold vZ;dsimp only;rw[ht b (by simp[eL,A]),w]
           . simp only[dk,gb,cX,A,lq,kp,i',lW,jl];by_cases h:c=key
             subst h;simp
             . rw[aq (ee h)];by_cases u:c=b
               subst u;simp[h,ee h];rw[aq (ee u),aq (by simp[h,u])]
           simp only[cX,A,lq,kp,i',xT,kP]at l;rw[dk,gb,aq (ee l.1),aq (ee l.2)]
         cases a
       cases H
     cases H
    |none=>
    rw[D]at a;simp only[bz]at a;obtain⟨L,B,a⟩:=a;have O:l8 σ' d2=some L:=by
     unfold l8 at B⊢;split at B;exact B;exact B;rename_i b K off len;rw[ht b (by simp[eL,EK j])];exact B;cases B
    split at a
    . have A:eH env x=[]:=(by simp[eH,h1]);simp only[eo,eB]at a;obtain⟨rfl,rfl,rfl⟩:=a;refine⟨⟨_,⟨(n,.c .bX),h1,(d1,d2),j,by dsimp only;rw[D];simp only[bz];exact⟨L,O,rfl⟩⟩,λb=>?_⟩,λb f=>?_⟩
      . simp only[dk,cX,A,kp,i',jl];by_cases h:b=key
        subst h;simp;rw[aq (ee h),aq h]
      simp only[cX,A,kp,i',kP]at f;rw[dk,aq (ee f)]
    . rename_i b K off len;have A:=EK h1;split at a
      . rename_i af es w;split at a
        cases a
        . rename_i W;simp only[eo,eB]at a;obtain⟨rfl,rfl,rfl⟩:=a
          refine⟨⟨_,⟨(n,.c (.arr b K off len)),h1,(d1,d2),j,by
           dsimp only;rw[D];simp only[bz];refine⟨L,O,?_⟩;rw[ht b (by simp[eL,A]),w];dsimp only
           rw[aq W]⟩,λc=>?_⟩,λc l=>?_⟩
          . simp only[dk,gb,cX,A,lq,kp,i',lW,jl];by_cases h:c=key
            subst h;simp
            . rw[aq (ee h)];by_cases u:c=b
              subst u;simp[h,ee h];rw[aq (ee u),aq (by simp[h,u])]
          simp only[cX,A,lq,kp,i',xT,kP]at l;rw[dk,gb,aq (ee l.1),aq (ee l.2)]
      cases a
    . rename_i b len;have A:=NA h1;split at a
      . rename_i Q es w;obtain⟨s,hs,a⟩:=o8.1 a;cases a
        refine⟨⟨_,⟨(n,.c (.cQ b len)),h1,(d1,d2),j,by
         dsimp only;rw[D];simp only[bz];refine⟨L,O,?_⟩;rw[ht b (by simp[eL,A]),w];dsimp only;rw[hs]
         rfl⟩,λc=>?_⟩,λc l=>?_⟩
        . simp only[dk,gb,cX,A,lq,kp,i',lW,jl];by_cases h:c=key
          subst h;simp
          . rw[aq (ee h)];by_cases u:c=b
            subst u;simp[h,ee h];rw[aq (ee u),aq (by simp[h,u])]
        simp only[cX,A,lq,kp,i',xT,kP]at l;rw[dk,gb,aq (ee l.1),aq (ee l.2)]
      cases a
    cases a
   case allocS e e8=>
    simp only[aU,eo,eB]at a⊢;obtain⟨rfl,rfl,rfl⟩:=a;refine⟨⟨_,⟨rfl,rfl,rfl⟩,λb=>?_⟩,λb f=>?_⟩
    . simp only[dk,cX,lW,jl];by_cases h:key=b
      rw[ag h,ag (.inl h.symm),ag h]
      . rw[aq h];by_cases u:key+1=b
        rw[ag u,ag (.inr u.symm),aq h,ag u];rw[aq u,b9]
    simp only[cX,xT,kP]at f;rw[dk,aq (ee f.1),dk,aq (ee f.2)]
   case mkset=>
    simp only[aU,eo,eB]at a⊢;obtain⟨rfl,rfl,rfl⟩:=a;refine⟨⟨_,⟨rfl,rfl,rfl⟩,λb=>?_⟩,λb f=>?_⟩
    . simp only[dk,cX,jl];by_cases h:b=key
      subst h;simp;rw[aq (ee h),aq h]
    simp only[cX,kP]at f;rw[dk,aq (ee f)]
   case lkset x y=>
    have:=A0 rfl a;subst this;refine⟨⟨σ',?_,λb=>rfl⟩,λb _=>rfl⟩;simp only[aU,bz]at a⊢;obtain⟨⟨n,v0⟩,h1,⟨d1,d2⟩,j,a⟩:=a;refine⟨(n,v0),h1,(d1,d2),j,?_⟩;dsimp only at a⊢;split at a
    . rename_i b s;rw[ht b (by simp[eL,O' h1])];split at a
      simp only[eo,eB]at a⊢;exact⟨a.1,a.2.1,trivial⟩;cases a
    cases a
   case upset x y=>
    simp only[aU,bz]at a⊢;obtain⟨⟨n,v0⟩,h1,⟨d1,d2⟩,j,a⟩:=a;dsimp only at a⊢;split at a
    . rename_i b s;have f:=O' h1;split at a
      . rename_i ks V;simp only[eo,eB]at a;obtain⟨rfl,rfl,rfl⟩:=a
        refine⟨⟨_,⟨(n,.c (.mp b)),h1,(d1,.c (.t (.str s))),j,by
         dsimp only
         rw[ht b (by simp[eL,f]),V]⟩,λc=>?_⟩,λc l=>?_⟩
        . simp only[cX,f,lq,kp,i',jl,dk];by_cases h:c=b
          subst h;simp;rw[aq (ee h),aq h]
        simp only[cX,f,lq,kp,i',kP]at l;rw[dk,aq (ee l)]
      cases a
    cases a
   case appendB e by' x y=>
    simp only[aU,bz]at a⊢;obtain⟨⟨n,v0⟩,h1,⟨d1,d2⟩,j,a⟩:=a;dsimp only at a⊢;split at a
    . rename_i b len s;have f:=NA h1;split at a
      . rename_i Q es w;simp only[eo,eB]at a;obtain⟨rfl,rfl,rfl⟩:=a
        refine⟨⟨_,⟨(n,.c (.cQ b len)),h1,(d1,.c (.t (.str s))),j,by
         dsimp only
         rw[ht b (by simp[eL,f]),w]⟩,λc=>?_⟩,λc l=>?_⟩
        . simp only[dk,gb,cX,f,lq,kp,i',lW,jl];by_cases h:c=key
          subst h;simp
          . rw[aq (ee h)];by_cases u:c=b
            subst u;simp[h,ee h];rw[aq (ee u),aq (by simp[h,u])]
        simp only[cX,f,lq,kp,i',xT,kP]at l;rw[dk,gb,aq (ee l.1),aq (ee l.2)]
      cases a
    cases a
   case ustr e x y=>
    simp only[aU,bz]at a⊢;obtain⟨⟨n,v0⟩,h1,⟨d1,d2⟩,j,a⟩:=a;dsimp only at a⊢;split at a
    . rename_i b m;have f:=adp h1;split at a
      . rename_i Q es w;simp only[eo,eB]at a;obtain⟨rfl,rfl,rfl⟩:=a
        refine⟨⟨_,⟨(n,.c (.eV b)),h1,(d1,.c (.t (.int .i64 m))),j,by
         dsimp only
         rw[ht b (by simp[eL,f]),w]⟩,λc=>?_⟩,λc l=>?_⟩
        . simp only[gb,cX,f,lq,kp,i',jl];by_cases h:c=b
          subst h;simp;rw[aq (ee h),aq h]
        simp only[cX,f,lq,kp,i',kP]at l;rw[gb,aq (ee l)]
      cases a
    cases a
   all_goals simp[aU]at a
inductive DStep (xb:bb)(P:Program)(o:cl)(key:Nat)(env:Env)(σ:bh)(g:Bool)(v:V):bh->Prop
 |op {p:Prop} {σ2:bh} (av:gU env o.guard = some g) (al8:o.op.drawn) (ze:aU o.op env σ key = some (p,v,σ2)) (ar:g = true->p) (amb:o.op.cG\/g = true):
  DStep xb P o key env σ g v (if o.op.cG then σ else σ2)
 |skip (av:gU env o.guard=some g) (al9:g=false):DStep xb P o key env σ g v σ
 |call {p:Prop} {f:Nat} {args:List aV} {vs:List V} (Ha:o.op = .call f args) (av:gU env o.guard = some g) (ze:ix env args = some (p,vs)) (ar:g = true->p/\V.aJ.V.d' (lt 0) vs/\v.aJ (lt 0)/\eG P f vs [] 0 (λvr _ _=>vr = v)):
  DStep xb P o key env σ g v σ
 |iO {p q:Prop} {f:Nat} {x:aV} {args:List aV} {vs:List V} (Ha:o.op = .iO x args) (aL:o.guard = none) (akG:g = true) (aa:x.get env = some (q, .c (.fn f []))) (amd:q) (zf:h5 P f) (ze:ix env args = some (p,vs))
  (ar:p/\V.aJ.V.d' (lt 0) vs/\v.aJ (lt 0)/\eG P f vs [] 0 (λvr _ _=>vr=v)):DStep xb P o key env σ g v σ
 |own {p:Prop} {f:Nat} {args:List aV} {vs:List V} {r:V} {s:bh} {M:Nat} (Ha:o.op = .call f args) (av:gU env o.guard = some g) (aL:o.guard = none) (ze:ix env args = some (p,vs)) (ar:p) (zf:V.aJ.V.d' (lt 0) vs) (akF:M<=16) (hk:s.all (λx=>x.1<16))
  (V3:eG P f vs [] 0 (λvr s' GF=>vr=r/\s'=s/\GF=M)) (V4:v=r.sh key):DStep xb P o key env σ g v (nc σ key s)
 |raw {p:Prop} {f:Nat} {args:List aV} {vs:List V} {bs:bb} {r:V} {s:bh} {M:Nat} (Ha:o.op = .call f args) (av:gU env o.guard = some g) (akG:g = true) (ze:ix env args = some (p,vs)) (ar:p)
  (ck:bs.Nodup) (aD:∀b,b∈bs->b<key) (al':∀b,b∈bs->∃x,aZ σ b=some x) (amf:∀b,b∈bs->b∈lD env args++xb) (akF:M<=bs.length+16) (hk:s.all (λx=>(x.1<bs.length+16:Bool)))
  (V3:eG P f (vs.map (V.cc bs)) (gB bs σ 0 bs) bs.length (λvr s' GF=>vr=r/\s'=s/\GF=M)) (V4:v=r.cA (back bs key)):DStep xb P o key env σ g v (h7 σ bs (back bs key) s)
theorem DStep.h2{o:cl}{g:J}(h:DStep xb P o key env σ g v σ1)(bS:K (eO env o.dst g v) σ1):h2 P o key env σ K:=by
 cases h with
 | @op p σ2 av F c ar H=>
  grind[Shv.h2,aU]
 |skip av G=>
  grind[Shv.h2]
 | @call p f args vs a av c ar=>
  unfold Shv.h2;grind[iC.Wl]
 | @iO p q f x args vs a aL w aa L t c ar=>
  grind[Shv.h2,gU,iC.Wl]
 | @raw p f args vs bs r s M a av w c ar ck aD y N j A e B=>
  unfold Shv.h2;rw[a];dsimp;have E:iC P f vs σ key (λD σ'=>K (eO env o.dst true D) σ'):=by
   refine iC.ak7 ck aD y e ?_;grind
  grind
 | @own p f args vs r s M a av aL c ar t j A e B=>
  unfold Shv.h2;rw[av];rw[a];grind[gU,iC.ak6]
theorem Pa{o:cl}{t:Nat}(h:t∈o.op.reads):t∈o.rd:=by grind[cl.rd]
theorem A4{o:cl}(h:∀t,t∈o.rd->look env' t=look env t):gU env' o.guard=gU env o.guard:=by
 grind[gU,cl.rd]
theorem IB{s:bh}(d:s.all (λx=>x.1<16)){b:Nat}(a:¬(key<=b/\b<key+16))(σ:bh):aZ (nc σ key s) b=aZ σ b:=by
 rw[Aw];by_cases h:key<=b
 . have:aZ s (b-key)=none:=by
    cases hs:aZ s _ with
    |none=>rfl
    |some x=>
     have:∀{s:bh} {c:Nat} {x:cd},aZ s c=some x->s.all (λx=>x.1<16)->c<16:=by
      induction s with
      |nil=>grind[aZ]
      |cons y r ih=>
       grind[aZ]
     grind
   grind
 grind
theorem lM(h:∀t,t∈x.tmps->look env' t=look env t):eH env' x=eH env x:=by
 unfold eH;rw[dW h]
theorem Jh{args:I aV}(h:∀t,t∈args.flatMap aV.tmps->look env' t=look env t):lD env' args=lD env args:=by
 induction args with
 |nil=>rfl
 |cons x r ih=>
  grind[lD,dW]
theorem adM(h:∀t,t∈o.reads->look env' t=look env t)(b:Nat):cX xb o env' key b=cX xb o env key b:=by
 cases o<;>try rfl
 case store k x v=>grind[cX,lM,db.reads]
 case append te sz by' x y=>grind[cX,lM,db.reads]
 case upset x y=>grind[cX,lM,db.reads]
 case appendB e k x y=>grind[cX,lM,db.reads]
 case ustr e x y=>grind[cX,lM,db.reads]
 case call f args=>simp[cX];rw[Jh h]
theorem aew(h:∀t,t∈o.reads->look env' t=look env t):eL xb o env' key=eL xb o env key:=by
 cases o<;>try rfl
 case b2s x=>grind[eL,lM,db.reads]
 case load g k x=>grind[eL,lM,db.reads]
 case store k x v=>grind[eL,lM,db.reads]
 case lkset x y=>grind[eL,lM,db.reads]
 case upset x y=>grind[eL,lM,db.reads]
 case appendB e k x y=>grind[eL,lM,db.reads]
 case ustr e x y=>grind[eL,lM,db.reads]
 case call f args=>simp[eL];rw[Jh h]
 grind[eL,lM,db.reads]
theorem DStep.local{o:cl}{g:J}(h:DStep xb P o key env σ g v σ1)(he:∀t,t∈o.rd->look env' t=look env t)(ht:∀b,b∈eL xb o.op env key\/cX xb o.op env key b->aZ σ' b=aZ σ b):
 (∃bE,DStep xb P o key env' σ' g v bE/\∀b,aZ bE b=if cX xb o.op env key b then aZ σ1 b else aZ σ' b)/\∀b,cX xb o.op env key b=false->aZ σ1 b=aZ σ b:=by
 have A:=λt h=>he t (Pa h);cases h with
 | @op p σ2 av O w ar S=>
  obtain⟨⟨bE,h1,K⟩,L⟩:=adq (σ':=σ') w (λb c=>ht b (.inl c));have aL:o.op.cG->∀b,cX xb o.op env key b=false:=by intro aL b;generalize o.op=W at aL;cases W<;>simp[db.cG]at aL<;>rfl
  refine⟨⟨_,DStep.op (σ2:=bE) (p:=p) (by rw[A4 he];exact av) O (by rw[afM A];exact h1) ar S,λb=>?_⟩,λb c=>?_⟩
  . by_cases y:o.op.cG=true
    rw[ag y,aL y b];rfl;rw[aq y,aq y];exact K b
  . by_cases y:o.op.cG=true
    rw[ag y];rw[aq y];exact L b c
 |skip av R=>
  refine⟨⟨σ',DStep.skip (by rw[A4 he];exact av) R,λb=>?_⟩,λb _=>rfl⟩;split;rename_i j;exact ht b (.inr j);rfl
 | @call p f args vs a av w ar=>
  refine⟨⟨σ',DStep.call a (by rw[A4 he];exact av) (by rw[Ax λt h=>A t (by rw[a];exact h)];exact w) ar,λb=>?_⟩,λb _=>rfl⟩;split;rename_i j;exact ht b (.inr j);rfl
 | @iO p q f x args vs a aL F aa U c w ar=>
  refine⟨⟨σ',DStep.iO a aL F (by rw[dW λt h=>A t (by rw[a];simp[db.reads,h])];exact aa) U c (by rw[Ax λt h=>A t (by rw[a];simp only[db.reads,gj];exact .inr h)];exact w) ar,λb=>?_⟩,λb _=>rfl⟩;split;rename_i j;exact ht b (.inr j);rfl
 | @own p f args vs r s M a av aL w ar c E B H G=>
  refine⟨⟨_,DStep.own a (by rw[A4 he];exact av) aL (by rw[Ax λt h=>A t (by rw[a];exact h)];grind) ar c E B H G,λb=>?_⟩,λb N=>?_⟩
  . by_cases D:key<=b/\b<key+16
    . have j:cX xb o.op env key b:=by rw[a];simp[cX,D.1,D.2]
      rw[ag j];have e:=ht b (.inr j);rw[Aw,Aw,e]
    . rw[IB B D];split
      rename_i j;rw[IB B D];exact ht b (.inr j);rfl
  grind[cX,IB]
 | @raw p f args vs bs r s M a av F w ar ck aD X Y E B H G=>
  have Z:∀b,b∈lD env args++xb->b∈eL xb o.op env key:=by intro b c;rw[a];simp only[eL,gj];exact .inr (gj.1 c)
  have Q:∀t,t∈args.flatMap aV.tmps->look env' t=look env t:=λt h=>A t (by rw[a];exact h)
  refine⟨⟨_,DStep.raw (bs:=bs) a (by rw[A4 he];exact av) F (by rw[Ax Q];omega) ar ck aD (λb c=>by grind) (λb c=>by grind[Jh]) E B
   (by grind[Mu]) G,λb=>?_⟩,λb N=>?_⟩
  . by_cases j:cX xb o.op env key b=true
    grind[Mv,sF];grind[cX,Bool.or_eq_false_iff,Bool.and_eq_false_iff,decide_eq_false_iff_not,Js]
  grind[cX,Bool.or_eq_false_iff,Bool.and_eq_false_iff,decide_eq_false_iff_not,Js]
def yT(xb:bb)(P:Program):I cl->Nat->Env->bh->(Env->bh->Prop)->Prop
 |[],_,env,σ,K=>K env σ
 |o::r,key,env,σ,K=>∃g v σ1,DStep xb P o key env σ g v σ1/\yT xb P r (key+16) (eO env o.dst g v) σ1 K
structure pk (xb:bb)(P:Program)(bg:List cl)(N:Nat)(E:Nat->Env)(T:Nat->bh)(G:Nat->Bool)(W:Nat->V):Prop where
 step:∀(i:Nat) o,bg[i]?=some o->DStep xb P o (N+16*i) (E i) (T i) (G i) (W i) (T (i+1))/\E (i+1)=eO (E i) o.dst (G i) (W i)
theorem JQ:∀{bg:I cl} {key:Nat} {env:Env} {σ:bh} {K:Env->bh->Prop},yT xb P bg key env σ K->∃E T G W,pk xb P bg key E T G W/\E 0=env/\T 0=σ/\K (E bg.length) (T bg.length)
 |[],key,env,σ,K,h=>⟨λ_=>env,λ_=>σ,λ_=>true,λ_=>.bd [],⟨λi o h=>by grind⟩,rfl,rfl,h⟩
 |o::r,key,env,σ,K,h=>by
  obtain⟨g,v,σ1,h1,a⟩:=h;obtain⟨E,T,G,W,b,aK,d,bS⟩:=JQ a;refine⟨λi=>if i=0 then env else E (i-1),λi=>if i=0 then σ else T (i-1),λi=>if i=0 then g else G (i-1),λi=>if i=0 then v else W (i-1),⟨λi c e=>?_⟩,rfl,rfl,by grind⟩;cases i with
  |zero=>grind
  |succ i=>
   have:=b.step i c (by grind);grind
end
end
section
open Go
variable {xb:bb}
variable{p:Nat->J}{j:Nat}{env:Env}{o:db}{S:dy}{φ:dx}{a:Act}{w:World}{σ:bh}{D:Nat->bb}{listed:Array J}{Q:Exit->Act->World->Prop}
theorem KT:∀{m:Nat},(∃i,i<m/\p i)->∃i,i<m/\p i/\∀j,j<m->p j->j<=i
 |0,⟨i,h,_⟩=>by omega
 |m+1,⟨i,h1,a⟩=>by
  cases d:p m with
  |true=>grind
  |false=>
   have:i<m:=(by grind);obtain⟨k,b,c,bu⟩:=KT ⟨i,this,a⟩;grind
theorem zW{P:Program}{nt:Nat}{ops:Array Oper}:∀{l:I Oper} {bg:I cl},hJ P nt ops l=some bg->bg.length=l.length
 |[],bg,h=>by grind[hJ]
 |o::l,bg,h=>by
  simp[hJ,bz,bL]at h;obtain⟨b,c,r,a,rfl⟩:=h;simp[zW a]
theorem Ju{P:Program}{nt:Nat}{ops:Array Oper}:∀{l:I Oper} {bg:I cl} {i:Nat} {o:Oper},hJ P nt ops l=some bg->l[i]?=some o->∃a,bg[i]?=some a/\w0 P nt ops o=some a
 |[],bg,i,o,h,b=>by grind
 |x::l,bg,i,o,h,b=>by
  simp[hJ,bz,bL]at h;obtain⟨a,d,r,c,rfl⟩:=h;cases i with
  |zero=>grind
  |succ i=>simpa using Ju c (by grind)
theorem I6:∀{l:I (cl×bb)} {k i:Nat} {x:cl×bb},E1 k l->l[i]?=some x->∀d,d∈x.2->d<k+i
 |[],k,i,x,h,aa,d,a=>by grind
 |y::r,k,i,x,h,aa,d,a=>by
  simp[E1]at h;cases i with
  |zero=>grind
  |succ i=>
   have:=I6 h.2 (by simpa using aa) d a;omega
theorem aex{L:I (cl×bb)}{i:Nat}(h:ahead L j i):j<i/\∃x,L[i]?=some x/\j∈x.2:=by
 grind[ahead]
theorem NC{key b:Nat}(ht:o.iL)(a:cX xb o env key b):b∈eL xb o env key:=by
 cases o
 case call f args=>
  simp[cX]at a;simp[eL];rcases a with h|h;exact .inl ⟨b-key,by omega,by omega⟩;grind
 all_goals simp[db.iL]at ht<;>simp[cX,eL]at a⊢<;>first|exact a|(rcases a with h|h;exact .inl h;exact .inr (.inl h))
theorem abZ{key:Nat}(ht:o.iL=false):eL xb o env key=[]:=by
 cases o<;>simp[db.iL]at ht<;>rfl
theorem OF{key b:Nat}(a:cX xb o env key b):o.cG=false:=by
 cases o<;>simp[cX]at a<;>rfl
theorem Q2{key b:Nat}(ht:o.iL=false)(a:cX xb o env key b):key<=b/\b<key+16:=by
 cases o<;>simp[db.iL]at ht<;>simp[cX]at a
section
variable {P:Program}{aB:Ctx}{nt kk:Nat}{N:Nat}{ops:Array Oper}{bg:I cl}{E:Nat->Env}{T:Nat->bh}{G:Nat->J}{W:Nat->V}
theorem Rel.akr{env':Env}{n:Nat->J}(R:Rel aB nt φ S env σ n a w)(h:∀t,look env' t=look env t):Rel aB nt φ S env' σ n a w:=
 ⟨R.b3,λk g v ak=>R.gY k g v (h k▸ak),λk g v ak=>R.hL k g v (h k▸ak),λk g v ak=>R.gX k g v (h k▸ak),R.ei,R.size,R.defers,R.ext,R.own,R.fix,R.hv⟩
def jo(xb:bb)(bg:I cl)(E:Nat->Env)(N i b:Nat):J:=match bg[i]? with|some o=>cX xb o.op (E i) (N+16*i) b|none=>false
theorem x2(c:pk xb P bg N E T G W){t:Nat}{i:Nat}:∀{k:Nat},i<=k->k<=bg.length->(∀(j:Nat) (o:cl),i<=j->j<k->bg[j]?=some o->o.dst≠some t)->look (E k) t=look (E i) t:=by
 intro k;induction k with
 |zero=>grind
 |succ k ih=>
  intro h1 d e;by_cases f:i=k+1;grind;have a:k<bg.length:=(by omega);have b:=fm a;rw[(c.step k _ b).2,nE];grind
theorem EB(f:pk xb P bg N E T G W){b:Nat}{i:Nat}:∀{k:Nat},i<=k->k<=bg.length->(∀j:Nat,i<=j->j<k->jo xb bg E N j b=false)->aZ (T k) b=aZ (T i) b:=by
 intro k;induction k with
 |zero=>grind
 |succ k ih=>
  intro h1 g d;by_cases l:i=k+1;grind;have e:k<bg.length:=(by omega);have c:=fm e;have a:=d k (by omega) (by simp);unfold jo at a;rw[c]at a;have:=((f.step k _ c).1.local (λ_ _=>rfl) (λ_ _=>rfl)).2 b a;grind
inductive jK (D:Nat->bb)(j:Nat):Nat->Prop
 |one {i:Nat} (h:j∈D i):jK D j i
 |step {e i:Nat} (h:jK D j e) (he:e∈D i):jK D j i
theorem jK.ready{n:Nat}(a:∀i d,i<n->d∈D i->d<i)(f:∀e,e<n->p e->∀d,d∈D e->p d){i:Nat}(h:jK D j i)(g:i<n)(c:∀d,d∈D i->p d):p j:=by
 induction h<;>grind
theorem jK.congr{a:Nat->bb}{n:Nat}(c:∀i d,i<n->d∈D i->d<i)(f:∀i,i<n->D i=a i){i:Nat}(h:jK D j i)(e:i<n):jK a j i:=by
 induction h with
 |one h=>exact .one (by grind)
 |step h he ih=>
  have:=c _ _ e he;exact .step (ih (by omega)) (by grind)
theorem Mk:∀{l:I (cl×bb)} {acc:I bb},(∀(k:Nat) x,l[k]?=some x->D (acc.length+k)=x.2)->(∀i j,j∈acc.getD i []->jK D j i)->∀i j,j∈(oi l acc).getD i []->jK D j i
 |[],acc,_,b,i,j,h=>b i j h
 |x::r,acc,c,b,i,j,h=>by
  refine Mk (acc:=acc++[(x.2++x.2.flatMap _).eraseDups]) (λk y al=>?_) (λi j a=>?_) i j h;have:=c (k+1) y (by grind);grind
  . rw[Hq,List.getElem?_append]at a;split at a
    grind
    . cases d:i-acc.length with
      |succ k=>grind
      |zero=>
       rw[d]at a;have f:i=acc.length:=(by omega);have aa:=(by simpa using c 0 x rfl);simp[qR]at a;rcases a with a|⟨e,he,a⟩;exact .one (by grind);exact .step (b e j a) (by grind)
structure Stat (xb:bb)(bg:List cl)(D:Nat->bb)(E:Nat->Env)(N:Nat):Prop where
 back:∀i d,i<bg.length->d∈D i->d<i
 yh:∀(i j:Nat) (x y:cl) (d:Nat),bg[i]?=some x->bg[j]?=some y->y.dst=some d->(d∈x.rd->(j<i/\j∈D i)\/(x.op.cG/\x.op.iL=false/\i<j/\i∈D j))/\(i=j\/x.dst≠some d)
 ord:∀i j b,i≠j->i<bg.length->j<bg.length->jo xb bg E N i b->((∃y:cl,bg[j]?=some y/\b∈eL xb y.op (E j) (N+16*j))\/jo xb bg E N j b)->(i<j/\jK D i j)\/(j<i/\jK D j i)
def used(N m:Nat)(listed:Array J):Nat->J:=λb=>lt N b||(List.range m).any λi=>listed.getD i false&&((N+16*i<=b:J)&&(b<N+16*i+16:J))
structure Inv (xb:bb)(aB:Ctx)(nt:Nat)(bg:List cl)(D:Nat->bb)(N:Nat)(E:Nat->Env)(T:Nat->bh)(G:Nat->Bool)(W:Nat->V)(listed:Array Bool)(φ:dx)(S:dy)(env:Env)(σ:bh)(a:Act)(w:World):Prop where
 rel:Rel aB nt φ S env σ (used N bg.length listed) a w
 size:listed.size=bg.length
 down:∀i,i<bg.length->listed.getD i false->∀d,d∈D i->listed.getD d false=true
 dw:∀t,(∀(i:Nat) (o:cl),bg[i]?=some o->listed.getD i false->o.dst≠some t)->look env t=look (E 0) t
 aK:∀t (i:Nat) (o:cl),bg[i]?=some o->listed.getD i false->o.dst=some t->look env t=some (G i,W i)
 n0:∀b,(∀i,i<bg.length->listed.getD i false->jo xb bg E N i b=false)->aZ σ b=aZ (T 0) b
 s1:∀b i,i<bg.length->listed.getD i false->jo xb bg E N i b->(∀j,j<bg.length->listed.getD j false->jo xb bg E N j b->j<=i)->aZ σ b=aZ (T (i+1)) b
theorem kf{i:Nat}(a:i<listed.size):(listed.setIfInBounds i true).getD j false=if j=i then true else listed.getD j false:=by
 by_cases h:j=i;simp_all;simp_all[ee]
theorem Inv.agree(cr:Inv xb aB nt bg D N E T G W listed φ S env σ a w)(st:Stat xb bg D E N)(q:pk xb P bg N E T G W)
 {i:Nat}{o:cl}(R:bg[i]?=some o)(aL:listed.getD i false=false)(F:∀d,d∈D i->listed.getD d false):
 (∀t,t∈o.rd->look env t=look (E i) t)/\∀b,b∈eL xb o.op (E i) (N+16*i)\/cX xb o.op (E i) (N+16*i) b->aZ σ b=aZ (T i) b:=by
 have H:i<bg.length:=(ev.1 R).1;refine⟨λt ht=>?_,λb ax=>?_⟩
 . by_cases U:∃(j:Nat) (y:cl),bg[j]?=some y/\y.dst=some t
   . obtain⟨j,y,al,v⟩:=U;rcases (st.yh i j o y t R al v).1 ht with⟨h1,B⟩|⟨_,_,h1,B⟩
     . rw[cr.aK t j y al (F j B) v];have:look (E (j+1)) t=some (G j,W j):=by rw[(q.step j y al).2,nE,ag v]
       rw[<-this]
       symm
       refine x2 q (by omega) (by omega) λk z L M e A=>?_;rcases (st.yh k j z y t e al v).2 with h|h
       all_goals grind
     . have f:j<bg.length:=(ev.1 al).1;have ap:∀(k:Nat) (z:cl),bg[k]?=some z->z.dst=some t->k=j:=by
        intro k z e A;rcases (st.yh k j z y t e al v).2 with h|h;grind;grind
       rw[cr.dw t λk z e ak A=>by
        have:=ap k z e A;subst this;have:=cr.down k f ak i B
        grind]
       symm
       refine x2 q (j2 _) (by omega) λk z _ aP e A=>?_;grind
   . have x:=λj y al h=>U ⟨j,y,al,h⟩;rw[cr.dw t λj y al _=>x j y al]
     symm
     exact x2 q (j2 _) (by omega) λj y _ _ al=>x j y al
 . have X:∀j,j≠i->j<bg.length->jo xb bg E N j b->(j<i/\jK D j i)\/(i<j/\jK D i j):=by
    intro j f c g;refine st.ord j i b f c H g ?_;grind[jo]
   have ak:∀j,j<bg.length->listed.getD j false->jo xb bg E N j b->j<i:=by
    intro j c Q g;have an:j≠i:=(by grind);rcases X j an c g with h|h;grind;have:=h.2.ready st.back cr.down c (cr.down j c Q);grind
   have am:∀j,j<i->jo xb bg E N j b->listed.getD j false:=by
    intro j aD g;rcases X j (by omega) (by omega) g with h|h;exact h.2.ready (p:=λk=>listed.getD k false) st.back cr.down H F;grind
   by_cases Y:∃j,j<i/\jo xb bg E N j b=true;obtain⟨j,Z,K,aa⟩:=KT Y;rw[cr.s1 b j (by omega) (am j Z K) K (λk L M O=>aa k (ak k L M O) O)];grind[EB]
   . have x:∀j,j<i->jo xb bg E N j b=false:=(by grind);rw[cr.n0 b λj c Q=>by grind]
     symm
     exact EB q (j2 _) (by omega) λj _ f=>x j f
theorem afN{m:Nat}{i b:Nat}(a:i<listed.size)(h:e1 (used N m listed) (N+16*i) b)(c:i<m):used N m (listed.setIfInBounds i true) b:=by
 simp only[e1,used,lW]at h⊢;grind[kf]
theorem ND{m:Nat}{i:Nat}(aL:listed.getD i false=false){b:Nat}(h1:N+16*i<=b)(a:b<N+16*i+16):used N m listed b=false:=by
 simp only[used];grind[lt]
theorem Inv.step{bx:dy}{bE:bh}{cj:Act}{w':World}(cr:Inv xb aB nt bg D N E T G W listed φ S env σ a w)(st:Stat xb bg D E N)(Z:pk xb P bg N E T G W)
 {i:Nat}{o:cl}(x:bg[i]?=some o)(aL:listed.getD i false=false)(O:∀d,d∈D i->listed.getD d false)
 (L:∀b,aZ bE b=if cX xb o.op (E i) (N+16*i) b then aZ (T (i+1)) b else aZ σ b)
 (R:Rel aB nt bw bx (eO env o.dst (G i) (W i)) bE (e1 (used N bg.length listed) (N+16*i)) cj w'):
 Inv xb aB nt bg D N E T G W (listed.setIfInBounds i true) bw bx (eO env o.dst (G i) (W i)) bE cj w':=by
 have p:i<bg.length:=(ev.1 x).1;have f:i<listed.size:=by rw[cr.size];exact p
 have H:∀b,jo xb bg E N i b=cX xb o.op (E i) (N+16*i) b:=λb=>by unfold jo;rw[x]
 refine⟨R.more λb v=>afN f v p,by simp[cr.size],λj c ak d A=>?_,λt ht=>?_,λt j y al ak K=>?_,λb v=>?_,λb j c ak F B=>?_⟩
 . rw[kf f]at ak⊢;split
   rfl
   . split at ak
     rename_i e;subst e;exact O d A;exact cr.down j c ak d A
 rw[nE,aq (ht i o x (by rw[kf f,ag rfl]))];exact cr.dw t λj y al ak=>ht j y al (by rw[kf f];split;rfl;exact ak)
 . rw[nE];rw[kf f]at ak;by_cases g:j=i
   grind
   . rw[aq g]at ak;rw[aq (λh=>?_)]
     exact cr.aK t j y al ak K
     . rcases (st.yh i j o y t x al K).2 with M|M
       all_goals grind
 rw[L b];have q:=v i p (by rw[kf f,ag rfl]);rw[H]at q;rw[q];exact cr.n0 b λj c ak=>v j c (by grind[kf])
 . rw[L b];rw[kf f]at ak;by_cases q:cX xb o.op (E i) (N+16*i) b=true
   . have X:i<=j:=B i p (by simp_all) (by grind);by_cases g:j=i
     grind
     ·
      rw[aq g]at ak;rcases st.ord i j b (ee g) p c (by rw[H];exact q) (.inr F)with h|h;have:=h.2.ready st.back cr.down c (cr.down j c ak);rw[aL]at this;cases this;omega
   . rw[aq q];by_cases g:j=i
     grind;rw[aq g]at ak;exact cr.s1 b j c ak F λk Q Y U=>B k Q (by grind[kf]) U
theorem Inv.done(cr:Inv xb aB nt bg D N E T G W listed φ S env σ a w)(st:Stat xb bg D E N)(e:pk xb P bg N E T G W)
 (v:∀i,i<bg.length->listed.getD i false):Rel aB nt φ S (E bg.length) (T bg.length) (lt (N+16*bg.length)) a w:=by
 refine((cr.rel.akr λt=>?_).congr λb=>?_).more λb x=>?_
 . by_cases p:∃(j:Nat) (y:cl),bg[j]?=some y/\y.dst=some t
   . obtain⟨j,y,al,q⟩:=p;have g:=(ev.1 al).1;rw[cr.aK t j y al _ _];have:look (E (j+1)) t=some (G j,W j):=by rw[(e.step j y al).2,nE,ag q]
     rw[<-this];refine x2 e (by omega) (e' _) λk z f K M O=>?_;rcases (st.yh k j z y t M al q).2 with h|h
     all_goals grind
   have c:=λj y al h=>p ⟨j,y,al,h⟩;rw[cr.dw t λj y al _=>c j y al];exact x2 e (j2 _) (e' _) λj y _ _ al=>c j y al
 . by_cases A:∃j,j<bg.length/\jo xb bg E N j b=true
   . obtain⟨j,o,B,F⟩:=KT A;rw[cr.s1 b j o (v j o) B (λk f _ L=>F k f L)];refine EB e (by omega) (e' _) λk f K=>?_;grind
   have c:∀j,j<bg.length->jo xb bg E N j b=false:=(by grind);rw[cr.n0 b λj H _=>c j H];exact EB e (j2 _) (e' _) λj _ g=>c j g
 simp[used,lt]at x⊢;grind
theorem aa5(st:Stat xb bg D E N)(l:pk xb P bg N E T G W)(hres:hJ P nt ops ops.toList=some bg)(p:∀(i:Nat) o,ops[i]?=some o->D i=h6 o)
 (t:∀φ S a w,Rel aB nt φ S (E bg.length) (T bg.length) (lt (N+16*bg.length)) a w->Q .normal a w):
 ∀(fuel:Nat) (listed:Array J) φ S env σ a w,listed.toList.countP (· ==false)<=fuel->Inv xb aB nt bg D N E T G W listed φ S env σ a w->wpAny P .any ops Q fuel listed a w:=by
 have B:=zW hres;simp at B;have C:∀(listed:Array J) (φ:dx) (S:dy) (env:Env) (σ:bh) (a:Act) (w:World),Inv xb aB nt bg D N E T G W listed φ S env σ a w->Region.ready .any ops listed=[]->∀i,i<bg.length->listed.getD i false:=by
  intro listed φ S env σ a w cr j i;induction i using Nat.strongRecOn with
  |_ i ih=>
   intro f;cases ak:listed.getD i false with
   |true=>rfl
   |false=>
    have A:i<ops.size:=(by omega);have g:ops[i]?=some ops[i]:=C' A;have:i∈Region.ready .any ops listed:=by
     rw[mem_ready];refine⟨?_,ops[i],g,λe he M=>?_⟩
     . have k:i<listed.size:=by rw[cr.size];grind
       grind
     . have c:e.on∈D i:=by
        rw[p i _ g];simp only[h6,fl,vl];grind
       exact ih e.on (st.back i _ f c) (by have:=st.back i _ f c;omega)
    grind
 have q:∀(listed:Array J) (φ:dx) (S:dy) (env:Env) (σ:bh) (a:Act) (w:World),Inv xb aB nt bg D N E T G W listed φ S env σ a w->Region.ready .any ops listed=[]->Q .normal a w:=by
  intro listed φ S env σ a w cr j;exact t φ S a w (cr.done st l (C listed φ S env σ a w cr j))
 intro fuel;induction fuel with
 |zero=>
  intro listed φ S env σ a w z cr;have L:∀i,i<bg.length->listed.getD i false:=by
   intro i f;have k:i<listed.size:=by rw[cr.size];grind
   cases ak:listed.getD i false with
   |true=>rfl
   |false=>
    exfalso;have h0:listed.toList.countP (· ==false)=0:=(by omega);rw[List.countP_eq_zero]at h0;simp[k]at ak;exact h0 listed[i] (by simp) (by grind)
  have j:Region.ready .any ops listed=[]:=by
   rw[Wh];grind[mem_ready]
  exact⟨j,q listed φ S env σ a w cr j⟩
 |succ fuel ih=>
  intro listed φ S env σ a w z cr;refine⟨q listed φ S env σ a w cr,λi f=>?_⟩;rw[mem_ready]at f;obtain⟨h1,o,g,O⟩:=f;have k:i<listed.size:=by grind
  have aL:listed.getD i false=false:=by grind
  obtain⟨m,n,F⟩:=Ju hres (i:=i) (o:=o) (by simpa using g);have c:∀d,d∈D i->listed.getD d false:=by
   intro d c;rw[p i o g]at c;simp only[h6,fl,vl]at c;grind
  obtain⟨u,v⟩:=cr.agree st l n aL c;obtain⟨⟨bE,hs,I⟩,_⟩:=(l.step i m n).1.local (env':=env) (σ':=σ) u v;have r:=Fe cr.rel (key:=N+16*i) (λb x y=>ND aL x y) F (K:=λe s=>e=eO env m.dst (G i) (W i)/\s=bE) (hs.h2 ⟨rfl,rfl⟩) (Q:=Q);have next:∀cj w',j9 aB nt (e1 (used N bg.length listed) (N+16*i)) (λe s=>e=eO env m.dst (G i) (W i)/\s=bE) cj w'->wpAny P .any ops Q fuel (listed.setIfInBounds i true) cj w':=by
   rintro cj w' ⟨bw,bx,e,s,⟨rfl,rfl⟩,R'⟩
   refine ih _ bw bx _ _ cj w' ?_ (cr.step st l n aL c I R');have:listed.toList[i]?=some false:=by simp[k]at aL⊢;exact aL
   grind
  unfold wpOp;rw[g];dsimp only;split at r;rename_i H;rw[ag H];exact .inl (Oper.wp_mono next r);grind
end
end
end Go.Proofs.YtkbmjabicjpmjaaGreatDoor.Shv
