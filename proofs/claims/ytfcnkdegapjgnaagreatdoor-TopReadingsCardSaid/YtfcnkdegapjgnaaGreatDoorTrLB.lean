/- The library of this proof, part B: an abstract machine for the code of the program, and its soundness. -/
import Derived.Lib.UnsafeStr
import Derived.ChangeKeysEq
import Derived.Orders
import Derived.LoopN
import Derived.Test.YtfcnkdegapjgnaaGreatDoorTrLA

namespace Go.Proofs.YtfcnkdegapjgnaaGreatDoor.Shv
set_option linter.all false
section
open Go
variable [da]
theorem C.ji(c:C):c.aq (λ_=>true)=true:=by cases c<;>simp[C.aq]
section
variable {P:Program}{ao:Ctx}{nt kk:Nat}{φ:db}{S bH:dj}{env:Env}{J:aF}{N key:Nat}{n:Nat->Bool}{a:Act}{w w':World}
theorem Rel.extend(R:Rel ao nt φ S env J n a w)(e:Ext (λ_=>False) S bH w w')(N:∀b j,bH b j->b<w'.heap.size):Rel ao nt φ bH env J n a w':=by
 have aa:=λb L=>e.block b L (λh=>h)
 have D:∀b x,aJ J b=some x->(φ b).2≠0->∀j,¬bH (φ b).1 j:=by
  intro b x q h0 j G;have cA:=R.bm.blk b x q;rcases e.pO _ _ G with h|h|h
  . exact cA.nW h0 j h
  . grind
  . have:=cA.h7 h0;omega
 refine⟨⟨λb x q=>?_,R.bm.inj,N⟩,λk g v ad aj=>?_,R.gJ,R.fS,R.dp,R.size,R.defers,?_,R.own,R.fix,R.fV⟩
 . have cA:=R.bm.blk b x q;cases x with
   |box cs=>
    obtain⟨h0,vs,E,h1,f,y⟩:=cA;refine⟨h0,vs,E,(aa _ (sg h1)).trans h1,f.imp λc v M A=>aX.mono e.mono (λ_ _=>rfl) (C.ji _) A,D b _ q h0⟩
   |vec sz cs=>
    obtain⟨h0,vs,E,h1,⟨f,B⟩,y⟩:=cA;refine⟨h0,vs,E,(aa _ (sg h1)).trans h1,⟨f.imp λc v M A=>aX.mono e.mono (λ_ _=>rfl) (C.ji _) A,B⟩,D b _ q h0⟩
   |arr sz es=>
    obtain⟨h1,f,y,B,bf⟩:=cA;refine⟨h1,f,y,B,λh0=>?_⟩;obtain⟨vs,E,aZ,ba,bE,bU⟩:=bf h0;exact⟨vs,E,(aa _ (sg aZ)).trans aZ,ba,λi j F t he ht=>let⟨v,H,A⟩:=bE i j F t he ht;⟨v,H,b5.mono e.mono A⟩,D b _ q h0⟩
   |set ks=>
    obtain⟨h0,⟨es,c,h1,f⟩,y⟩:=cA;exact⟨h0,⟨es,c,(aa _ (sg h1)).trans h1,f⟩,D b _ q h0⟩
   |buf E s=>
    obtain⟨h1,f,y⟩:=cA;refine⟨h1,f,λh0=>?_⟩
    grind
   |bX E c=>
    obtain⟨h0,⟨p,v,h1,f,y⟩,B⟩:=cA;exact⟨h0,⟨p,v,(aa _ (sg h1)).trans h1,f,aX.mono e.mono (λ_ _=>rfl) (C.ji _) y⟩,D b _ q h0⟩
   |cu sz es i o c=>
    obtain⟨⟨h1,f,y,B,bf,K⟩,⟨vs,E,aZ,ba,bE,v,bU,cL⟩,cM⟩:=cA;exact⟨⟨h1,f,y,B,bf,K⟩,⟨vs,E,(aa _ (sg aZ)).trans aZ,ba,λi j F t he ht aA=>let⟨v,H,A⟩:=bE i j F t he ht aA;⟨v,H,b5.mono e.mono A⟩,v,bU,aX.mono (n:=λ_=>true) e.mono (λ_ _=>rfl) (C.ji _) cL⟩,D b _ q (by omega)⟩
 . obtain⟨x,q,A⟩:=R.fT k g v ad aj;exact⟨x,q,cd.mono e.mono (λ_ _=>rfl) (R.fS k g v ad aj) A⟩
 . refine⟨e.os.trans R.ext.os,e.tape.trans R.ext.tape,e.output.trans R.ext.output,iO R.ext.size e.size,λb aI cA=>?_,R.ext.mono.trans e.mono,λb j G=>?_⟩
   . exact(aa b (k' aI R.ext.size)).trans (R.ext.block b aI cA)
   . rcases e.pO _ _ G with h|h|h
     . exact R.ext.pO b j h
     . grind
     . exact .inr (.inr (iO R.ext.size h))
theorem Xv (R:Rel ao nt φ S env J n a w){o:Oper}{ty:TypeId}{len:Nat}{parts:Array (Nat×Operand)}(Y:o.op= .buildSlice ty len parts){e:TypeId}(aa:P.underlying ty=some (.slice e)){sz:Nat}(Z:dZ P e=some sz)
 {z:List C}(K:iT P e=some z){ps:List (Nat×aL)}(H:oU parts.toList=some ps)(h0:sz≠0)(L:z.length=sz)(X:len*sz<=2^24)
 {p v J'}(W:n key=false)(h:aw (.bsliceT e sz len z ps) env J key=some (p,v,J'))(G:p):Good P ao nt env J' (ins n key) a v ((execOp a.eval o).run P w):=by
 simp only[aw,a6,bb,c8]at h;obtain⟨k,N,⟨q,f⟩,g,rfl,rfl,rfl⟩:=h;obtain⟨i,d,hi,ag,m,U⟩:=qR (φ:=φ) (w:=w) (S:=S) (n:=n) K;have M:=oO N m;have ae:d.cells.size=sz:=by rw[<-vy,<-m.length,L]
 have u:0<sz:=by omega
 have af:k.length=sz:=by grind[sd]
 obtain ⟨us,h1,D,l,T,bf,_⟩:= Gf R u H g G (es:= List.replicate len k) (vs:= ((Array.range (len*sz)).map (d.cells[· % d.cells.size]!)).toList) (by
  grind) (by simp) (by
  intro i j e t he ht;have:e=k:=by
   grind
  subst this;obtain⟨x,ad,I⟩:=M.get ht
  grind[Cs])
 simp at l;have r:len<=dd:=by
  have:len<=len*sz:=En len u
  grind[dd]
 have s:=R.bm.st;have O:fw w S (w.alloc (.cells us.toArray e)) (λb j=>S b j\/b=w.heap.size):=⟨λ_ _ h=>.inl h,λb j h=>nU (Bq (s b j h)) j⟩
 have y:Ext (λ_=>False) S _ w (w.alloc (.cells us.toArray e)):=
  ⟨rfl,rfl,rfl,by simp,λb g _=>Bq g,O,λb j h=>by grind⟩
 have A:=R.extend y (λb j h=>by
  rcases h with h|h
  . have:=s b j h;simp;omega
  simp_all)
 refine⟨.slice (some ⟨w.heap.size,0,none⟩) len len,φ,_,_,.inl ?_,?_,rfl,A.more λ_ h=>iK h⟩
 . have Q:Instr.fill (λi=>some (i*sz,sz)) ((Array.range (len*sz)).map (d.cells[· % d.cells.size]!)) ((parts.map λ(i,x)=>(i,a.eval x)).toList)=some us.toArray:=by
    rw[Eu];omega
   simp_all[E8,execOp,Sem.run_bind,Result.andThen_ok]
 . refine .c ?_;have E:f.length=len:=l;rw[<-E]at r⊢;have F:∀j,(w.alloc (.cells us.toArray e)).cell? _=us[j]?:=λj=>hV j9 j
   refine b5.slice f _ _ sz w.heap.size 0 (λi j=>(us[i*sz+j]?).getD undef) (eJ _) r D (λ_=>rfl) (λi j hi V=>⟨.inr rfl,?_⟩) (λi j B t he ht=>?_)
   . rw[fp,F];have aI:i*sz+j<us.length:=by
      have:=et sz (show i+1<=f.length from hi)
      grind
     grind
   . obtain⟨v,ab,I⟩:=bf i j B t he ht
     grind[b5.mono]
theorem WS{ty:TypeId}{e8:Nat}(h:xv P ty=some e8):∃i z,P.info? ty=some i/\i.zero=some z/\z.cells=#[.pointer none,.slice none 0 0]:=by
 grind[xv,L4,a6,Ti]
theorem Xf (R:Rel ao nt φ S env J n a w){o:Oper}{ty:TypeId}(t:o.op= .alloc ty){e8:Nat}(g:xv P ty=some e8)
 {p v J'}(r:n key=false)(m:n (key+1)=false)(h:aw (.allocS ty e8) env J key=some (p,v,J'))(u:p):Good P ao nt env J' (ins (ins n (key+1)) key) a v ((execOp a.eval o).run P w):=by
 obtain⟨rfl,rfl,rfl⟩:=h;obtain⟨i,z,hi,A,B⟩:=WS g;have s:∀j,¬S w.heap.size j:=λj h=>by have:=R.bm.st _ _ h;omega
 have d:=(R.alloc (.cells #[.pointer none,.slice none 0 0] ty)).hL m (x:= .buf e8 []) (0,0) rfl (by simp[cD,cS]) (by simp);have l:ins n (key+1) key=false:=by grind[ins]
 have e:=d.hL l (x:= .bX ty (.cr (key+1) 0)) (w.heap.size,1) (by simp[bp.aq,C.aq,ins]) (by
  grind[cD,j9,aX,fe]) (λ_=>⟨λk y b h0=>by
   rw[cE]at b;split at b
   . grind[cS]
   . rename_i q;have f:(φ k).2≠0:=by simp_all[fe,cW]
     have:=(R.bm.blk k y b).h7 f;simp[fe,cW q]
     omega,.inr R.ext.size⟩)
 refine⟨.pointer (some ⟨w.heap.size,0,none⟩),_,S,_,.inl ?_,.c ?_,by simp[V.aq,C.aq,ins],e⟩
 . simp_all[execOp,Instr.alloc,zeroValue,typeInfo,newVar,newRow]
 grind[aX,cS]
theorem RO{t:TypeId}(h:va P t=true):∃k v i,P.underlying t=some (.map k v)/\P.underlying k=some .string/\P.info? v=some i/\i.zero=some (.bool false):=by
 grind[va,a6]
theorem Yx (R:Rel ao nt φ S env J n a w){o:Oper}{t:TypeId}(f:o.op= .makeMap t none)
 {p v J'}(d:n key=false)(h:aw .mkset env J key=some (p,v,J'))(i:p):Good P ao nt env J' (ins n key) a v ((execOp a.eval o).run P w):=by
 obtain⟨rfl,rfl,rfl⟩:=h;have e:∀j,¬S w.heap.size j:=λj h=>by have:=R.bm.st _ _ h;omega
 have b:=(R.alloc _).hL d (x:= .set []) (w.heap.size,1) rfl (by
  simp only[cD,cS]
  exact⟨by simp,⟨[],0,j9,.nil⟩,e⟩) (λ_=>⟨λk y g h0=>by
   have:=(R.bm.blk k y g).h7 h0
   omega,.inr R.ext.size⟩)
 refine⟨.map (some w.heap.size),_,S,_,.inl ?_,.c ?_,by simp[V.aq,C.aq,ins],b⟩
 . simp[execOp,f,Instr.makeMap]
 grind[aX,cS]
theorem Xg{s:ByteArray}{k:List UInt8}:(s==(⟨k.toArray⟩:ByteArray))=decide (k=s.data.toList):=by
 grind[beq_toListBytes,ByteArray.toList_eq]
theorem Gu(s:ByteArray):∀{ks:List (List UInt8)} {es:List MapEntry} (i:Nat),zr ks es->
 (iN ks s.data.toList=false/\Instr.findNow .string (.string s) es i=some none)\/
 (iN ks s.data.toList=true/\∃j e,Instr.findNow .string (.string s) es i=some (some (i+j,.bool true))/\es[j]?=some e/\e.key= .string s/\e.val= .bool true)
 |_,_,i,.nil=>.inl ⟨rfl,rfl⟩
 |k::ks,e::es,i,.cons h l=>by
  obtain⟨h1,g⟩:=h;have n:(s==⟨k.toArray⟩)=decide _:=Xg;by_cases o:k=s.data.toList
  . refine .inr ⟨by grind[iN],0,e,?_,rfl,?_,g⟩
    . simp_all[Instr.findNow,Instr.sameNow]
    simp_all
  . rcases Gu s (i+1) l with⟨b,c⟩|⟨b,j,a,c,m,d,f⟩
    . grind[iN,Instr.findNow,Instr.sameNow]
    . refine .inr ⟨by grind[iN],j+1,a,?_,by grind,d,f⟩
      grind[Instr.findNow,Instr.sameNow]
theorem uI{a:TypeId}(b:P.underlying a=some .string){s:ByteArray}{es:List MapEntry}{r:Option (Nat×Value)}(h:Instr.findNow .string (.string s) es 0=some r)(w:World):(Instr.findKey a (.string s) es).run P w= .ok r w:=by
 simp_all[Instr.findKey,run_underlying]
theorem uF{a:TypeId}(c:P.underlying a=some .string){s:ByteArray}(b:Bool)(w:World):(Instr.checkKey b 10000 a (.string s)).run P w= .ok () w:=by
 unfold Instr.checkKey;simp[run_underlying c]
theorem ue{b:Nat}{es:Array MapEntry}{c:Nat}(h:w.heap[b]?=some (.map es c)):(getObj b).run P w= .ok (.map es c) w:=by grind[getObj,Sem.run]
theorem F0{b:Nat}{es:Array MapEntry}{c:Nat}(o:Obj)(h:w.heap[b]?=some (.map es c)):(setObj b o).run P w= .ok () {w with heap:=w.heap.setIfInBounds b o}:=by
 grind[setObj,Sem.run]
theorem Yy (R:Rel ao nt φ S env J n a w){o:Oper}{t:TypeId}{x k:Operand}(m:o.op= .lookup t x k false)(ht:va P t=true){g f:aL}(C:bn x=some g)(B:bn k=some f)
 {p v J'}(G:n key=false)(h:aw (.lkset g f) env J key=some (p,v,J'))(q:p):Good P ao nt env J' (ins n key) a v ((execOp a.eval o).run P w):=by
 simp only[aw,a6]at h;obtain⟨⟨M,O⟩,A,⟨L,N⟩,z,he⟩:=h;simp at he;obtain⟨K,E,i,r,b,hi,I⟩:=RO ht;split at he
 . split at he
   . rename_i ks s;obtain⟨rfl,rfl,rfl⟩:=he;have h1:a.eval x= .map _:=(bT R C A q.1).1.dF;obtain⟨bs,l,rfl,_⟩:=cd.iR (bT R B z q.2).1;obtain⟨h0,⟨es,F,aa,u⟩,H⟩:=R.bm.blk _ _ s;refine Good.pure R ?_ (.oi _) rfl;have D:(zeroValue E).run P w= .ok (.bool false) w:=by simp_all[zeroValue,typeInfo]
     have y:=Gu bs 0 u;rcases y with⟨c,d⟩|⟨c,j,e,d,_⟩
     . simp[execOp,m,h1,l,Instr.lookup,run_underlying r,ue aa,uF b,uI b d,D,c]
     . simp[execOp,m,h1,l,Instr.lookup,run_underlying r,ue aa,uF b,uI b d,c]
   grind
 grind
theorem Zf{ks:List (List UInt8)}{es:List MapEntry}(h:zr ks es)(s:ByteArray)(a:Nat):zr (ks++[s.data.toList]) (es++[{key:= .string s,val:= .bool true,born:=a}]):=
 h.append (.cons ⟨by rfl,rfl⟩ .nil)
theorem aQ.modify{α c:Type}{R:α->c->Prop}{f:c->c}:∀{l:List α} {m:List c} {j:Nat},aQ R l m->(∀a b,R a b->m[j]?=some b->R a (f b))->aQ R l (m.modify j f)
 |_,_,_,.nil,_=>by simpa using aQ.nil
 |_,_,0,.cons h e,k=>.cons (k _ _ h rfl) e
 |_,_,j+1,.cons h e,k=>by
  exact .cons h (aQ.modify e λa b g o=>k a b g (by grind))
theorem Yz (R:Rel ao nt φ S env J n a w){o:Oper}{t:TypeId}{x k v0:Operand}(B:o.op= .mapUpdate t x k v0)(ht:va P t=true)(E:Gr v0=true){y u:aL}(W:bn x=some y)(O:bn k=some u)
 {p v J'}(ae:n key=false)(h:aw (.upset y u) env J key=some (p,v,J'))(C:p):Good P ao nt env J' (ins n key) a v ((execOp a.eval o).run P w):=by
 simp only[aw,a6]at h;obtain⟨⟨ak,an⟩,N,⟨aj,al⟩,M,he⟩:=h;simp only at he;obtain⟨ai,am,i,D,f,hi,ag⟩:=RO ht;have F:a.eval v0= .bool true:=by
  unfold Gr at E;split at E
  . rfl
  grind
 split at he
 . rename_i b s;split at he
   . rename_i ks A;obtain⟨rfl,rfl,rfl⟩:=he;have h1:a.eval x= .map _:=(bT R W N C.1).1.dF;obtain⟨bs,z,rfl,_⟩:=cd.iR (bT R O M C.2).1;obtain⟨h0,⟨es,c,aa,r⟩,T⟩:=R.bm.blk _ _ A;have aI:=sg aa
     have X:∃d g,(execOp a.eval o).run P w= .ok .skip {w with heap:=w.heap.setIfInBounds (φ b).1 (.map d g)}/\zr (ig ks bs.data.toList) d.toList:=by
      have L:=Gu bs 0 r;rcases L with⟨l,q⟩|⟨l,j,e,q,G,H,ab⟩
      . refine⟨es.toArray.push {key:= .string bs,val:= .bool true,born:=c},c+1,?_,?_⟩
        . simp[execOp,B,h1,z,F,Instr.mapUpdate,run_underlying D,ue aa,uF f,uI f q,F0 _ aa]
        . simp only[ig,l,cv]
          simpa using Zf r bs c
      . refine⟨es.toArray.modify j λe=>{e with key:= .string bs,val:= .bool true},c,?_,?_⟩
        . have V:Instr.sameBits 10000 (Value.string bs) (Value.string bs)=true:=by
           simp only[Instr.sameBits];rw[beq_toListBytes];simp
          have Q:∀w,(Instr.keyThatStays (Value.string bs) (Value.string bs)).run P w= .ok (Value.string bs) w:=by intro w;unfold Instr.keyThatStays;rw[V];rfl
          simp[execOp,B,h1,z,F,Instr.mapUpdate,run_underlying D,ue aa,uF f,uI f q,F0 _ aa,G,H,Q]
        . simp only[ig,l,cw];rw[Array.toList_modify];refine aQ.modify r λah Z af ad=>?_
          grind
     obtain⟨d,g,U,K⟩:=X;refine⟨undef,φ,S,_,.inr ⟨U,rfl⟩,.undef,rfl,Rel.more ?_ λ_ h=>iK h⟩;refine R.rewrite A h0 rfl rfl rfl rfl (by simp) (λY I=>by simp[cW I]) (λm=>?_);exact⟨h0,⟨d.toList,g,by simp[aI],K⟩,T⟩
   grind
 grind
theorem RP{t:TypeId}(h:sq P t=true):∃k v,P.underlying t=some (.map k v)/\P.underlying k=some .string:=by
 grind[sq]
theorem ZP (R:Rel ao nt φ S env J n a w){o:Oper}{t:TypeId}{x k:Operand}(D:o.op= .lookup t x k true)(ht:sq P t=true){z:C}(m:GN P t=some z){f e:aL}(b:bn x=some f)(B:bn k=some e)
 {p v J'}(L:n key=false)(h:aw (.lkE z f e) env J key=some (p,v,J'))(j:p):Good P ao nt env J' (ins n key) a v ((execOp a.eval o).run P w):=by
 simp only[aw,a6]at h;obtain⟨⟨T,V⟩,A,⟨Q,U⟩,y,he⟩:=h;simp at he;obtain⟨O,I,l,g⟩:=RP ht;simp only[GN,l,a6]at m;obtain⟨z0,⟨i,hi,N⟩,E⟩:=m;obtain⟨G,F⟩:=Gs (φ:=φ) (w:=w) (S:=S) (n:=ins n key) E;split at he
 . split at he
   . rename_i s;obtain⟨rfl,rfl,rfl⟩:=he;have h1:a.eval x= .map _:=(bT R b A j.1).1.dF;obtain⟨bs,r,rfl,_⟩:=cd.iR (bT R B y j.2).1;obtain⟨h0,⟨es,K,aa,u⟩,M⟩:=R.bm.blk _ _ s;cases u;have H:(zeroValue I).run P w= .ok z0 w:=by simp_all[zeroValue,typeInfo]
     have q:Instr.findNow .string (.string bs) [] 0=some none:=rfl;refine⟨.tuple #[z0,.bool false],φ,S,w,.inl ?_,.aS [.c z,.c (.t (.bool false))] [z0,.bool false] rfl ?_,?_,R.more λ_ h=>iK h⟩
     . simp[execOp,D,h1,r,Instr.lookup,run_underlying l,ue aa,uF g,uI g q,H]
     . intro i v x d b
       match i with
       |0=>cases d;cases b;exact .c G
       |1=>cases d;cases b;exact .oi _
       |i+2=>cases d
     . show(C.aq (ins n key) z&&(true&&true))=true;rw[F];rfl
   grind
 grind
theorem ZQ (R:Rel ao nt φ S env J n a w){o:Oper}{t:TypeId}{x k v0:Operand}(F:o.op= .mapUpdate t x k v0)(ht:sq P t=true){i g q:aL}(I:bn x=some i)(C:bn k=some g)
 {p v J'}(c:n key=false)(h:aw (.upD i g q) env J key=some (p,v,J'))(m:p):Good P ao nt env J' (ins n key) a v ((execOp a.eval o).run P w):=by
 simp only[aw,a6]at h;obtain⟨⟨O,V⟩,B,⟨M,Q⟩,A,⟨N,U⟩,K,he⟩:=h;simp only at he;obtain⟨L,T,H,l⟩:=RP ht;split at he
 . rename_i b s;split at he
   . rename_i d;obtain⟨rfl,rfl,rfl⟩:=he;have h1:a.eval x= .map _:=(bT R I B m.1).1.dF;obtain⟨bs,u,rfl,_⟩:=cd.iR (bT R C A m.2.1).1;obtain⟨h0,⟨es,j,aa,z⟩,E⟩:=R.bm.blk _ _ d;cases z;have r:Instr.findNow .string (.string bs) [] 0=some none:=rfl
     have G:(execOp a.eval o).run P w= .ok .skip {w with heap:=w.heap.setIfInBounds (φ b).1 (.map (#[].push {key:= .string bs,val:=a.eval v0,born:=j}) (j+1))}:=by
      simp[execOp,F,h1,u,Instr.mapUpdate,run_underlying H,ue aa,uF l,uI l r,F0 _ aa]
     refine⟨undef,φ,S,_,.inr ⟨G,rfl⟩,.undef,rfl,Rel.more ?_ λ_ h=>iK h⟩;refine(R.del b).world (λk=>k=(φ b).1) rfl rfl rfl (by simp) (λk _ c=>by simp[Array.getElem?_setIfInBounds,cW c]) (λk c=>?_);subst c;refine⟨E,λk y f c=>?_,R.own b _ d h0⟩;rw[d']at f;split at f
     . grind
     . rename_i D;exactλe=>R.bm.inj k b y _ f d (cW D) c h0 e
   grind
 grind
theorem Wp {st yt e:TypeId}{i:TypeInfo}{c:Value}(o:P.underlying st=some (.slice e))(t:P.underlying yt=some .string)(hi:P.info? e=some i)(A:i.zero=some c)(B:c.cells.size=i.size)
 {base:Option Addr}{sl sc a:Nat}{y:Value}{xs d:List Value}(s:(Builtin.lenOf y).run P w= .ok a w)
 (p:(Builtin.firstCells i.size sl (.slice base sl sc)).run P w.drew= .ok xs.toArray w.drew)(q:(Builtin.firstCells i.size a y).run P w.drew= .ok d.toArray w.drew)
 (m:sc<sl+a)(j:gv (sl+a) i.bytes)(x:sl+a<=dd){tt:TypeId}:
 ∃(b:Nat) (r:List Value),sl+a<=b/\r.length=(b-(sl+a))*i.size/\
  (Builtin.append_ #[st,yt] tt #[.slice base sl sc,y]).run P w= .ok (.slice (some ⟨w.heap.size,0,none⟩) (sl+a) b) (w.drew.alloc (.cells (xs++d++r).toArray e)):=by
 have n:∀w,(sizeOf e).run P w= .ok i.size w:=λw=>by simp[sizeOf,typeInfo,hi]
 have f:∀w,(typeInfo e).run P w= .ok i w:=λw=>by simp[typeInfo,hi]
 have u:∀w,(zeroValue e).run P w= .ok c w:=λw=>by simp_all[zeroValue]
 generalize z:(Question.appendCap (sl+a) sc e).cut (w.tape w.drawn (Question.appendCap (sl+a) sc e))=b;have l:sl+a<=b:=by grind[Question.cut]
 have h1:¬(sl+a<=sc):=by omega
 have v:¬(sl+a>IntKind.i64.max/\(False\/i.bytes=0)):=by grind[IntKind.max,IntKind.bits,dd]
 have g:=by
  exact j.not m
 refine⟨b,(Builtin.zeroCells c.cells (b-(sl+a))).toList,l,by grind[R8],?_⟩;have k:(choose (.appendCap (sl+a) sc e)).run P w= .ok b w.drew:=by simp_all[Question.forced]
 have az:(xs++d++(Builtin.zeroCells c.cells (b-(sl+a))).toList).toArray=xs.toArray++d.toArray++Builtin.zeroCells c.cells (b-(sl+a)):=by simp
 rw[az];unfold Builtin.append_;simp only[AE,AB,ym,Sem.run_bind,run_underlying o,run_underlying t,Result.andThen_ok,n,Sem.run_pure,cN,cv,s,ag h1,f];rw[ag (by grind)];simp only[Sem.run_bind,Result.andThen_ok,f];rw[ag g]
 simp only[Sem.run_bind,Result.andThen_ok,f,k,run_askRoom,p,q,u,fM,cw];rfl
theorem WT {st yt e:TypeId}{i:TypeInfo}(f:P.underlying st=some (.slice e))(j:P.underlying yt=some .string)(hi:P.info? e=some i)
 {base:Option Addr}{sl sc a:Nat}{y:Value}{c:List Value}(g:(Builtin.lenOf y).run P w= .ok a w)(m:(Builtin.firstCells i.size a y).run P w= .ok c.toArray w)(l:sl+a<=sc){w':World}
 (hs:∀b,base=some b->(storeCells (b.add (sl*i.size)) c 0).run P w= .ok () w') (k:base=none->w'=w) {tt:TypeId}:
  (Builtin.append_ #[st,yt] tt #[.slice base sl sc,y]).run P w= .ok (.slice base (sl+a) sc) w':=by
 have d:∀w,(sizeOf e).run P w= .ok i.size w:=λw=>by simp[sizeOf,typeInfo,hi]
 unfold Builtin.append_;simp only[AE,AB,ym,Sem.run_bind,run_underlying f,run_underlying j,Result.andThen_ok,d,Sem.run_pure,cN,cv,g];cases base<;>simp_all
theorem Xm(w:World)(bs:ByteArray):(Builtin.firstCells 1 bs.size (.string bs)).run P w= .ok (bs.data.toList.map λb=>Value.int .u8 b.toNat).toArray w:=by
 simp[Builtin.firstCells]
 grind
theorem Xh(l:List UInt8):∀x,x∈(l.map λb=>Value.int .u8 b.toNat)->x.oneCell'=true:=by
 intro x a;simp at a;obtain⟨b,_,rfl⟩:=a;rfl
theorem I3 (R:Rel ao nt φ S env J n a w){o:Oper}{x:Operand}{yv:Value}{st yt:TypeId}{D:aL}(ag:bn x=some D){M:Prop}{b m bytes:Nat}{es s:List UInt8}(W:D.get env=some (M,.c (.cr b es.length)))(Z:M)
 (p:aJ J b=some (.buf m es))(f:n key=false)(U:gv (es.length+s.length) bytes)(K:es.length+s.length<=dd)
 (B:∀r w',(Builtin.append_ #[st,yt] o.type #[a.eval x,yv]).run P w= .ok r w'->(execOp a.eval o).run P w= .ok (.value r) w')
 (F:∀base sl sc w',sl+s.length<=sc->(∀u,base=some u->(storeCells (u.add (sl*1)) (s.map λb=>Value.int .u8 b.toNat) 0).run P w= .ok () w')->(base=none->w'=w)->(Builtin.append_ #[st,yt] o.type #[.slice base sl sc,yv]).run P w= .ok (.slice base (sl+s.length) sc) w')
 (cm:∀base sl sc (xs:List Value),(Builtin.firstCells 1 sl (.slice base sl sc)).run P w.drew= .ok xs.toArray w.drew->sc<sl+s.length->gv (sl+s.length) bytes->sl+s.length<=dd->
  ∃(t:Nat) (r:List Value),sl+s.length<=t/\r.length=(t-(sl+s.length))*1/\(Builtin.append_ #[st,yt] o.type #[.slice base sl sc,yv]).run P w= .ok (.slice (some ⟨w.heap.size,0,none⟩) (sl+s.length) t) (w.drew.alloc (.cells (xs++(s.map λb=>Value.int .u8 b.toNat)++r).toArray m))):
 Good P ao nt env (cn (eM J b) key (.buf m (es++s))) (ins n key) a (.c (.cr key (es.length+s.length))) ((execOp a.eval o).run P w):=by
 have Y:∀b,w.heap.size<=b->∀j,¬S b j:=λb H j ay=>by have:=R.bm.st _ _ ay;omega
 obtain⟨ax,ai,aZ⟩:=(bT R ag W Z).1.dF;have O:=R.bm.blk _ _ p;obtain⟨ap,aq,E⟩:=O;by_cases ad:es.length+s.length<=(φ b).2
 . by_cases g:(φ b).2=0
   . have I:es=[]:=k9 (by omega);have Q:s=[]:=k9 (by omega);have q:=ai g;have l:=F none 0 0 w (by omega) (λu G=>by grind) (λ_=>rfl);rw[<-q]at l;have R':=(R.del b).hL f (x:= .buf m (es++s)) (0,0) rfl (by grind[cD,cS]) (by simp)
     refine⟨_,_,S,w,.inl (B _ _ l),.c ?_,by simp[V.aq,C.aq,ins],R'⟩;rw[Q,I];refine⟨by simp,λ_=>?_,λh=>?_⟩
     . rfl
     . simp[cS]at h
   . obtain⟨⟨vs,aa,ae,af⟩,L⟩:=E g;have q:=aZ g;have aw:es.length+(s.map λb=>Value.int .u8 b.toNat).length<=vs.length:=by grind
     obtain⟨w',az,aj,ak,al,am,aC,an⟩:=k1 (P:=P) _ es.length 0 vs w aa (by omega) (Xh _)
     have l:=F (some ⟨(φ b).1,0,none⟩) es.length (φ b).2 w' ad (λu G=>by
      cases G;have au:Addr.add ⟨(φ b).1,0,none⟩ (es.length*1)=⟨(φ b).1,es.length,none⟩:=by rw[sZ];unfold Addr.add;split<;>simp_all
      grind) (λH=>by cases H)
     rw[<-q]at l
     have v:=(R.del b).world (w':=w') (λk=>k=(φ b).1) aj ak al (sX am.symm) (λk _ f=>an k f) (λk f=>by
      subst f;refine⟨L,λk y d f=>?_,R.own b _ p g⟩;rw[d']at d;split at d
      . cases d
      . rename_i A
        exactλe=>R.bm.inj k b y _ d p (cW A) f g e)
     have z:=v.hL f (x:= .buf m (es++s)) (φ b) rfl (by
      simp only[cD,cS]
      grind[List.length_append,mg,lM]) (λ_=>⟨λk y d f=>by
       rw[d']at d;split at d
       . cases d
       . rename_i A
         exact R.bm.inj k b y _ d p (cW A) f g,R.own b _ p g⟩)
     refine⟨_,_,S,w',.inl (B _ _ l),.c ?_,by simp[V.aq,C.aq,ins],z⟩;refine⟨by simp[cS];omega,λh=>?_,λ_=>?_⟩
     . simp[cS,g]at h
     . simp[cS]
 . have v:=R.drew;have T:∃base,a.eval x= .slice base es.length (φ b).2/\∃xs:List Value,(Builtin.firstCells 1 es.length (.slice base es.length (φ b).2)).run P w.drew= .ok xs.toArray w.drew/\xs.length=es.length/\∀(i:Nat) c,es[i]?=some c->xs[i]?=some (.int .u8 (UInt8.toNat c)):=by
    by_cases g:(φ b).2=0
    . have I:es=[]:=k9 (by omega);simp_all[Builtin.firstCells]
    . obtain⟨⟨vs,aa,ae,af⟩,L⟩:=E g;refine⟨_,aZ g,vs.take es.length,?_,by simp;omega,λj c av=>?_⟩
      . show(loadCells ⟨(φ b).1,0,none⟩ (es.length*1)).run P w.drew=_;rw[sZ];refine ug (by simp;omega) (λj X=>?_);rw[fp,mF,ab X];exact hV (w:=w.drew) aa j
      grind
   obtain⟨base,q,xs,ah,aA,aB⟩:=T;obtain⟨t,r,h1,ar,l⟩:=cm base es.length (φ b).2 xs ah (by omega) U K;rw[<-q]at l;have z:=(v.del b).alloc (.cells (xs++(s.map λb=>Value.int .u8 b.toNat)++r).toArray m)
   have N:=z.hL f (x:= .buf m (es++s)) (w.heap.size,t) rfl (by
    simp only[cD,cS];refine⟨by simp[];omega,by rw[dP];exact K,λ_=>⟨⟨_,j9,?_,?_⟩,Y _ (eJ _)⟩⟩
    . grind
    grind) (λ_=>⟨λk y d h0=>by
     rw[d']at d;split at d
     . cases d
     . have:=(R.bm.blk k y d).h7 h0
       simp;omega,.inr R.ext.size⟩)
   refine⟨_,_,S,_,.inl (B _ _ l),.c ?_,by simp[V.aq,C.aq,ins],N⟩;refine⟨by simp[cS];omega,λh=>?_,λ_=>?_⟩
   . simp[cS]at h;omega
   . simp[cS]
theorem Xw (R:Rel ao nt φ S env J n a w){o:Oper}{x y:Operand}{st yt e:TypeId}(H:o.op= .call {callee:= .builtin .append,args:=#[x,y],argTypes:=#[st,yt]})
 (m:P.underlying st=some (.slice e))(t:P.underlying yt=some .string){i:TypeInfo}(hi:P.info? e=some i)(c:i.size=1)(u:(i.zero.map (·.cells.size))=some 1)
 {g j:aL}(N:bn x=some g)(O:bn y=some j)
 {p v J'}(F:n key=false)(h:aw (.appendB e i.bytes g j) env J key=some (p,v,J'))(I:p):Good P ao nt env J' (ins n key) a v ((execOp a.eval o).run P w):=by
 simp only[aw,a6]at h;obtain⟨⟨V,X⟩,D,⟨W,Y⟩,E,he⟩:=h;simp only at he;simp only[bb]at u;obtain⟨Z,T,Q⟩:=u;split at he
 . rename_i b len s;split at he
   . rename_i U es B;obtain⟨rfl,rfl,rfl⟩:=he;obtain⟨K,L,rfl,rfl,C,G⟩:=I;obtain⟨bs,l,rfl,_⟩:=cd.iR (bT R O E L).1;have k:bs.data.toList.length=bs.size:=by rw[<-uf]
     have q:∀w,(Builtin.lenOf (a.eval y)).run P w= .ok bs.data.toList.length w:=by intro w;simp[l,k,Builtin.lenOf]
     have z:∀w,(Builtin.firstCells i.size bs.data.toList.length (a.eval y)).run P w= .ok (bs.data.toList.map λb=>Value.int .u8 b.toNat).toArray w:=by intro w;rw[l,c,k];exact Xm w bs
     refine I3 R N D K B F C G (st:=st) (yt:=yt) (yv:=a.eval y) (λr w' M=>by simp[execOp,H,Go.resolve,invoke,builtin,M]) (λbase sl sc w' h1 d f=>?_) (λbase sl sc xs h1 d f A=>?_)
     . exact WT m t hi (q w) (z w) h1 (by rw[c];exact d) f
     . have:=Wp (P:=P) (w:=w) (tt:=o.type) m t hi T (by rw[Q,c]) (q w) (by rw[c];exact h1) (z w.drew) d f A;rw[c]at this;exact this
   grind
 grind
theorem YA(s:List UInt8):∀(i:Nat) c,s[i]?=some c->(s.map λc=>([.int .u8 c.toNat]:List T))[i]?=some [.int .u8 c.toNat]:=by simp_all
theorem Tm{s:List UInt8}{a:List Value}(ad:a.length=s.length)(h:ie w S 1 (s.map λc=>[.int .u8 c.toNat]) a):a=s.map λb=>Value.int .u8 b.toNat:=by
 refine s5 λi=>?_
 by_cases hi:i<s.length
 . obtain⟨v,d,e⟩:=h i 0 _ _ (YA s i _ (eu hi)) rfl;cases e;simp only[sZ,q8]at d;rw[d];simp[hi]
 . simp[List.getElem?_eq_none (Nat.le_of_not_lt (ad▸hi)),List.getElem?_eq_none (Nat.le_of_not_lt hi)]
theorem Xx (R:Rel ao nt φ S env J n a w){o:Oper}{x y:Operand}{st yt e am:TypeId}(K:o.op= .call {callee:= .builtin .append,args:=#[x,y],argTypes:=#[st,yt]})
 (k:P.underlying st=some (.slice e))(A:P.underlying yt=some (.slice am)){i:TypeInfo}(hi:P.info? e=some i)(ad:i.size≠0)(B:(i.zero.map (·.cells.size))=some i.size)
 {f E:aL}(O:bn x=some f)(m:bn y=some E)
 {p v J'}(H:n key=false)(h:aw (.append e i.size i.bytes f E) env J key=some (p,v,J'))(L:p):Good P ao nt env J' (ins n key) a v ((execOp a.eval o).run P w):=by
 by_cases I:∃q b l,f.get env=some (q,.c (.cr b l))
 case neg=>exact Xc R K k A hi ad B O m H h (λq b l e=>I ⟨q,b,l,e⟩) L
 obtain⟨ap,b,len,F⟩:=I;simp only[aw,F,ak,a6]at h;obtain⟨⟨aq,al⟩,G,h⟩:=h;rw[show jy (.c (.cr b len)) al=none from rfl]at h;simp only[a6]at h;obtain⟨V,Q,he⟩:=h;split at he
 . rename_i an es X;obtain⟨s,hs,he⟩:=pE.1 he;cases he;obtain⟨aa,M,rfl,d,rfl,z,Y,Z⟩:=L;simp only[bb]at B;obtain⟨av,aj,ag⟩:=B;have N:∀e,e∈V.1->e.length=1:=by rw[z];simp
   obtain⟨t,ar,C,ae,T,_⟩:=vc (P:=P) R m G M (by decide:0<1) Q N;obtain⟨_,au,D,af,U,_⟩:=vc (P:=P) R.drew m G M (by decide:0<1) Q N;have u:V.1.length=s.length:=by rw[z];simp
   rw[z]at T U;have ah:=Tm (by rw[ae,u,sZ]) T;have ai:=Tm (by rw[af,u,sZ]) U;subst ah;subst ai;rw[u]at t C D;rw[<-d]at C D
   refine I3 R O F aa X H Y Z (st:=st) (yt:=yt) (yv:=a.eval y) (λr w' ab=>by simp[execOp,K,Go.resolve,invoke,builtin,ab]) (λbase sl sc w' h1 g j=>?_) (λbase sl sc xs h1 g j W=>?_)
   . exact sF k A hi t C h1 (by rw[d];exact g) j
   . have:=xl (P:=P) (w:=w) (tt:=o.type) k A hi aj ag t (by rw[d];exact h1) D g j W;rw[d]at this;exact this
 . cases he
theorem YB (R:Rel ao nt φ S env J n a w){o:Oper}{x:Operand}{t:TypeId}(e:o.op= .call {callee:= .builtin .unsafeSliceData,args:=#[x],argTypes:=#[t]}){d:aL}(i:bn x=some d)
 {p v J'}(k:n key=false)(h:aw (.sdata d) env J key=some (p,v,J'))(g:p):Good P ao nt env J' (ins n key) a v ((execOp a.eval o).run P w):=by
 simp only[aw,a6]at h;obtain⟨⟨m,q⟩,f,he⟩:=h;simp at he;split at he
 . rename_i b len;obtain⟨rfl,rfl,rfl⟩:=he;have aj:=bT R i f g;obtain⟨l,j,aZ⟩:=aj.1.dF;by_cases h0:(φ b).2=0
   . refine Good.pure R ?_ (.c ⟨none,rfl,λh=>absurd h0 h⟩) (by grind[V.aq,C.aq]);simp[execOp,e,Go.resolve,invoke,builtin,j h0,Go.Lib.run_unsafeSliceData_nil]
   . refine Good.pure R ?_ (.c ⟨_,rfl,λ_=>rfl⟩) (by grind[V.aq,C.aq]);simp[execOp,e,Go.resolve,invoke,builtin,aZ h0,Go.Lib.run_unsafeSliceData_row _ _ _ _ _ _ h0]
 grind
theorem YC{b m:Nat}{a:Addr}(c:b≠a.block):(w.freeze a m).heap[b]?=w.heap[b]?:=by
 grind[World.freeze]
theorem Xi(a:Addr)(m:Nat):(w.freeze a m).os=w.os/\(w.freeze a m).tape=w.tape/\(w.freeze a m).output=w.output/\(w.freeze a m).heap.size=w.heap.size:=by
 grind[World.freeze]
theorem Zg (R:Rel ao nt φ S env J n a w){o:Oper}{x y:Operand}{cj it e:TypeId}(K:o.op= .call {callee:= .builtin .unsafeString,args:=#[x,y],argTypes:=#[cj,it]})
 (O:P.underlying cj=some (.pointer e))(F:P.cellsOf e=1){q s:aL}(T:bn x=some q)(g:bn y=some s)
 {p v J'}(d:n key=false)(h:aw (.ustr e q s) env J key=some (p,v,J'))(L:p):Good P ao nt env J' (ins n key) a v ((execOp a.eval o).run P w):=by
 simp only[aw,a6]at h;obtain⟨⟨ai,ak⟩,G,⟨aj,al⟩,H,he⟩:=h;simp only at he;split at he
 . rename_i b m;split at he
   . rename_i t es i;obtain⟨rfl,rfl,rfl⟩:=he;obtain⟨M,N,rfl,rfl⟩:=L;obtain⟨U,h1,af⟩:=(bT R T G M).1.dF;have D:=(bT R g H N).1.eR;have E:=R.bm.blk _ _ i;obtain⟨Z,ab,C⟩:=E;have A:∀w',b5 w' S (.str es) (.string ⟨es.toArray⟩):=by
      intro w';have:=b5.str (w:=w') (S:=S) (⟨es.toArray⟩:ByteArray) (by rw[<-uf];grind[dd,dK]);omega
     have z:∀r w',(Builtin.unsafeString_ #[cj,it] o.type #[a.eval x,a.eval y]).run P w= .ok r w'->(execOp a.eval o).run P w= .ok (.value r) w':=by
      intro r w' u;simp[execOp,K,Go.resolve,invoke,builtin,u]
     by_cases f:es=[]
     . subst f;refine⟨.string ⟨#[]⟩,φ,S,w,.inl (z _ _ ?_),.c (A w),rfl,(R.del b).more λ_ h=>iK h⟩;rw[h1,D];exact Go.Lib.run_unsafeString_none w cj it o.type U
     . have ae:=vz.2 f;have l:(φ b).2≠0:=by omega
       obtain⟨⟨vs,aa,ag,ah⟩,I⟩:=C l;have Q:w.shape? (φ b).1=some (t,vs.length):=by grind[World.shape?]
       have u:=Go.Lib.run_unsafeString_row (P:=P) w cj it o.type t O F _ vs.length Q es f (by omega) (by grind[dd]) (λj c ad=>by
        grind[Addr.add,hV])
       obtain⟨V,W,X,Y⟩:=Xi (w:=w) ⟨(φ b).1,0,none⟩ es.length
       have B:=(R.del b).world _ V W X (sX Y.symm) (λk _ d=>YC d) (λk d=>by
        subst d;refine⟨I,λk y g d=>?_,R.own b _ i l⟩;rw[d']at g;split at g
        . grind
        . rename_i f
          exactλe=>R.bm.inj k b y _ g i (cW f) d l e)
       refine⟨.string _,φ,S,_,.inl (z _ _ ?_),.c (A _),rfl,B.more λ_ h=>iK h⟩
       grind
   grind
 grind
end
end
section
open Go
variable [da]
section
variable {P:Program}{ao:Ctx}{nt:Nat}{φ:db}{S:dj}{env:Env}{J:aF}{n:Nat->Bool}{key:Nat}{a:Act}{w:World}
theorem Si{d:Nat}{e:TypeId}{k:Nat}(g:sB P e=some k){xs f:Array Value}:∀{m i:Nat} {ps c:List C} {us vs:List Value} {r:Bool},
 k3 (List.replicate m k) ps c=some r->aQ (aX φ w S) ps us->aQ (aX φ w S) c vs->xs.toList.drop i=us->f.toList.drop i=vs->(Op.eqItems (d+1) e 1 xs f (List.range' i m)).run P w= .ok r w
 |0,i,ps,c,us,vs,r,a,_,_,_,_=>by
  cases ps<;>cases c<;>simp[k3]at a
  subst a;simp[Op.eqItems]
 |m+1,i,ps,c,us,vs,r,a,E,F,az,j=>by
  have A:=JW g;have n:∀(l:Array Value) (z:Value) (o:List Value),l.toList.drop i=z::o->(part e l (i*1)).run P w= .ok z w:=λl z o G=>by
   have:l[i]?=some z:=by
    have:=cC (·[0]?) G
    simpa using this
   simp[part,sf A,this]
  rw[List.replicate_succ]at a;cases ps with
  |nil=>simp[k3]at a
  |cons p ps=>cases c with
   |nil=>cases p<;>simp[k3]at a
   |cons q c=>
    cases p<;>cases q<;>simp only[k3,a6,bb]at a<;>try cases a
    rename_i x y b h;obtain⟨B,I,D,rfl⟩:=h;cases E with
    |cons h1 s=>cases F with
     |cons t u=>
      rename_i H us v vs;have f1:xs.toList.drop (i+1)=us:=by rw[<-s6,az];rfl
      have f2:f.toList.drop (i+1)=vs:=by rw[<-s6,j];rfl
      have ih:=Si (d:=d) g (m:=m) (i:=i+1) D s u f1 f2;rw[AM];simp only[Op.eqItems,Sem.run_bind,n xs H us az,n f v vs j,Result.andThen_ok,ID B g h1 t d];cases b with
      |true=>simpa using ih
      |false=>simp
theorem XT (R:Rel ao nt φ S env J n a w){o:Oper}{op:BinOp}{ty yt:TypeId}{x y:Operand}(H:o.op= .binOp op ty x y yt)(q:op= .eql\/op= .neq){ks:List Nat}(b:HZ P ty=some ks)
 {g j:aL}(K:bn x=some g)(L:bn y=some j)
 {p v J'}(M:n key=false)(h:aw (.eqAgg (op== .neq) ks g j) env J key=some (p,v,J'))(s:p):Good P ao nt env J' (ins n key) a v ((execOp a.eval o).run P w):=by
 simp only[aw,a6]at h;obtain⟨⟨N,T⟩,E,⟨O,U⟩,F,he⟩:=h;simp only at he;split at he
 . rename_i ps Q;simp only[bb,c8]at he;obtain⟨r,I,rfl,rfl,rfl⟩:=he;obtain⟨us,c,z⟩:=(bT R K E s.1).1.l';obtain⟨vs,f,A⟩:=(bT R L F s.2).1.l';unfold HZ at b;split at b
   . rename_i m e D;simp only[cZ,bb]at b;obtain⟨⟨hs,aj⟩,k,G,rfl⟩:=b;unfold dZ at hs;simp only[bb]at hs;obtain⟨i,hi,hs⟩:=hs;have B:P.cellsOf e=1:=by simp[Program.cellsOf,hi,hs]
     have t:(eqGuard op ty x y (a.eval x) (a.eval y)).run P w= .ok () w:=by rcases q with rfl|rfl<;>simp[eqGuard,c,f,aj]
     have l:(Op.equal ty (.agg us.toArray) (.agg vs.toArray)).run P w= .ok r w:=by
      obtain⟨d,C⟩:∃d,Op.maxDepth=d+2:=⟨9998,rfl⟩
      unfold Op.equal;rw[C,run_equalIn_array w (d+1) _ _ D hi,B,List.range_eq_range'];exact Si G I z A (by simp) (by simp)
     have u:(binOp op ty (a.eval x) (a.eval y)).run P w= .ok (.bool (if(op== .neq)then !r else r)) w:=by
      rcases q with rfl|rfl
      . rw[c,f];simp only[binOp,Sem.run_bind,l];rfl
      . rw[c,f];simp only[binOp,Sem.run_bind,l];rfl
     refine Good.pure R (x:= .bool (if(op== .neq)then !r else r)) ?_ (.oi _) rfl;simp[execOp,H,t,u]
   . cases b
 . cases he
theorem Zh (R:Rel ao nt φ S env J n a w){o:Oper}{ty:TypeId}{x i:Operand}(y:o.op= .index ty x i){k:Nat}{e:TypeId}(D:P.underlying ty=some (.array k e))(ad:nz P e=some (false,1))
 {d b:aL}(H:bn x=some d)(hi:bn i=some b)
 {p v J'}(L:n key=false)(h:aw (.idxV k d b) env J key=some (p,v,J'))(A:p):Good P ao nt env J' (ins n key) a v ((execOp a.eval o).run P w):=by
 simp only[aw,a6]at h;obtain⟨⟨O,T⟩,t,⟨N,Q⟩,s,he⟩:=h;simp only at he;split at he
 . rename_i cs kk m;simp only[cZ,cQ,c8]at he;obtain⟨K,rfl,rfl,rfl⟩:=he;obtain⟨B,C,u,M⟩:=A;have f:=bT R H t B;obtain⟨us,E,q⟩:=f.1.l';have l:=(bT R hi s C).1.eR;unfold nz at ad;simp only[a6]at ad;obtain⟨g,aj,z,I,ad⟩:=ad;split at ad
   . cases ad;have aI:m.toNat<cs.length:=by omega
     obtain⟨j,F,G⟩:=q.get (show cs[m.toNat]?=some (cs.getD m.toNat .dead) by rw[List.getD,eu aI];rfl);refine Good.pure R (x:=j) ?_ (.c G) ?_
     . have r:us.toArray[m.toNat*1]?=some j:=by simpa using F
       simp only[execOp,y,Sem.run_bind,E,l,Instr.index,asIntOf,run_underlying D,Result.andThen_ok,Sem.run_pure];rw[ab ⟨u,by omega⟩];simp only[Sem.run_bind,jm I,Result.andThen_ok,part,sf aj,r];rfl
     . have:=f.2;simp only[V.aq,dW]at this⊢;refine this _ ?_;rw[List.getD,eu aI];exact AL aI
   . cases ad
 . cases he
theorem Xy{ty e:TypeId}(g:P.underlying ty=some (.slice e)){i:TypeInfo}{a:Value}(hi:P.info? e=some i)(o:i.zero=some a){k:IntKind}{m:Int}(h0:0<=m)(b:m.toNat*i.bytes<=gr)(d:m.toNat<=dd):
 (Instr.makeSlice ty (.int k m) (.int k m)).run P w= .ok (.slice (some ⟨w.heap.size,0,none⟩) m.toNat m.toNat) (w.alloc (.cells ((Array.range (m.toNat*i.size)).map (a.cells[· % a.cells.size]!)) e)):=by
 obtain⟨c,rfl⟩:∃c:Nat,m=(c:Int):=⟨m.toNat,by omega⟩
 simp only[nZ]at*;unfold dd at d;have l:IntKind.i64.wrap (c:Int)=(c:Int):=by
  simp[IntKind.wrap,IntKind.signed,IntKind.bits];omega
 have j:∀w,(typeInfo e).run P w= .ok i w:=λw=>by simp[typeInfo,hi]
 have f:∀w,(sizeOf e).run P w= .ok i.size w:=λw=>by simp[sizeOf,typeInfo,hi]
 have n:∀w,(zeroValue e).run P w= .ok a w:=λw=>by simp[zeroValue,typeInfo,hi,o]
 have p:¬((i.bytes:Int)*(c:Int)>2^48):=by
  unfold gr at b;rw[<-Int.natCast_mul,yi];omega
 unfold Instr.makeSlice;simp only[asInt,asIntOf,Sem.run_bind,run_underlying g,Result.andThen_ok,Sem.run_pure,j,l];rw[ag (by simp;omega)];simp only[Sem.run_bind,run_askRoom,Result.andThen_ok,nZ,f];by_cases h:c*i.size=0
 . simp only[h,cw,Sem.run_bind,Sem.run_pure,Result.andThen_ok,show Array.range 0=#[]from rfl,List.map_toArray,Array.map_empty];rfl
 . simp only[h,cv,Sem.run_bind,n,Sem.run_pure,Result.andThen_ok];rfl
theorem Xj (R:Rel ao nt φ S env J n a w){o:Oper}{ty:TypeId}{x y:Operand}(af:o.op= .makeSlice ty x y){e:TypeId}(al:P.underlying ty=some (.slice e))(s:ES x y=true){i:TypeInfo}(hi:P.info? e=some i)
 {z:List C}(an:iT P e=some z)(h0:i.size≠0)(d:z.length=i.size){G:aL}(D:bn x=some G)
 {p v J'}(aa:n key=false)(h:aw (.mslice i.size i.bytes z G) env J key=some (p,v,J'))(ag:p):Good P ao nt env J' (ins n key) a v ((execOp a.eval o).run P w):=by
 have hs:x=y:=by
  unfold ES at s;split at s
  . rw[fm s]
  . cases s
 subst hs;simp only[aw,a6]at h;obtain⟨⟨aB,aC⟩,Z,F,N,he⟩:=h;simp only at he;split at he
 . rename_i kk m;simp only[cQ,c8]at he;obtain⟨rfl,rfl,rfl⟩:=he;obtain⟨ah,ab,ad,L,ae⟩:=ag;have W:=(bT R D Z ah).1.eR;obtain⟨aA,b,I,au,A,ax⟩:=qR (φ:=φ) (w:=w) (S:=S) (n:=n) an;rw[hi]at I;cases I;have aq:=oO N A;have M:b.cells.size=i.size:=by rw[<-vy,<-A.length,d]
   have E:0<i.size:=by omega
   have ar:F.length=i.size:=by rw[sd N,d]
   generalize B:m.toNat=len at*;have O:=R.alloc (.cells ((Array.range (len*i.size)).map (b.cells[· % b.cells.size]!)) e);have av:=R.pC (.cells ((Array.range (len*i.size)).map (b.cells[· % b.cells.size]!)) e)
   have Q:=O.hL aa (x:=if kI z=true then .box (List.replicate len .bC)else .arr i.size (List.replicate len F)) (w.heap.size,len) (by split<;>simp[bp.aq,C.aq]) (by
    split
    . rename_i H;simp only[cD,cS];refine⟨ae H,((Array.range (len*i.size)).map (b.cells[· % b.cells.size]!)).toList,e,by rw[Array.toArray_toList];exact j9,?_,λj h=>?_⟩
      . have ap:z=[.bC]:=by unfold kI at H;grind
        subst ap;simp at d;rw[<-d,sZ];refine aQ.kr (by simp) λq c v Y l=>?_
        have ai:=(dO.1 l).1;simp at ai;have:c= .bC:=yl (eU Y);subst this;have f:=A;cases u:b.cells.toList with
        |nil=>rw[u]at f;cases f
        |cons v0 r=>
         rw[u]at f;cases f with|cons aj ak=>
         cases ak;obtain⟨T,X⟩:=aj;have U:b.cells[0]?=some v0:=by rw[<-yn,u];rfl
         have az:b.cells.size=1:=by rw[<-vy,u];rfl
         rw[yn]at l;have:=Cs M E q 0 (by omega) (by omega);rw[<-d]at this;simp only[sZ,q8]at this;rw[this,U]at l;cases l;exact⟨T,X⟩
      . have:=R.bm.st _ _ h;omega
    simp only[cD,cS];refine⟨by simp,by simpa using L,λe he=>by rw[yl he];exact ar,E,λ_=>⟨((Array.range (len*i.size)).map (b.cells[· % b.cells.size]!)).toList,e,by rw[Array.toArray_toList];exact j9,by simp,λa j q t he ht=>?_,λj h=>?_⟩⟩
    . have K:=(dO.1 he).1;simp at K;have:q=F:=yl (eU he);subst this;have ay:=(dO.1 ht).1;obtain⟨x,D,g⟩:=aq.get ht;refine⟨x,?_,b5.mono av g⟩;rw[yn,Cs M E a j K (by omega)]
      simpa using D
    . have:=R.bm.st _ _ h
      omega) (λ_=>⟨λk y am h0=>by
       have:=(R.bm.blk k y am).h7 h0
       simp;omega,.inr R.ext.size⟩)
   refine⟨.slice (some ⟨w.heap.size,0,none⟩) len len,_,S,_,.inl ?_,.c ⟨some ⟨w.heap.size,0,none⟩,by simp[cS],by simp[cS],by simp[cS]⟩,by simp[V.aq,C.aq,ins],Q⟩;have g:=Xy (P:=P) (w:=w) al hi au (k:=kk) ab (by rw[B];exact ad) (by rw[B];exact L);rw[B]at g;simp only[execOp,af,Sem.run_bind,W,g,Result.andThen_ok];rfl
 . cases he
end
end
section
open Go
variable [da]
section
variable {P:Program}{ao:Ctx}{nt:Nat}{φ:db}{S:dj}{env:Env}{J:aF}{n:Nat->Bool}{key:Nat}{a:Act}{w:World}
theorem aQ.full{α a:Type}{R:α->a->Prop}{l:List α}{m:List a}(h:aQ R l m):aQ R l (m.take l.length):=by
 rw[pF (by rw[h.length];exact eJ _)];exact h
theorem xY{sz b len:Nat}{c:List C}{v:Value}(cA:cD φ w S b (.vec sz c))(k:aX φ w S (.arr b sz 0 len) v)(ad:c.length=len*sz):
 (Builtin.lenOf v).run P w= .ok len w/\∃xs:List Value,(Builtin.firstCells sz len v).run P w= .ok xs.toArray w/\xs.length=len*sz/\aQ (aX φ w S) c xs:=by
 obtain⟨a,rfl,g,m⟩:=aX.fH k;obtain⟨h0,vs,E,aa,⟨e,f⟩,l⟩:=cA;rw[g h0];have n:len*sz<=vs.length:=by rw[f];exact et _ (by omega)
 have d:(vs.take (len*sz)).length=len*sz:=by rw[ju];omega
 refine⟨by rfl,_,?_,d,ad▸e⟩;rw[vq];refine ug d ?_;intro j i;rw[fp,hV aa,mF,ab i]
theorem Sj:∀{ps:List (Nat×Nat×aL)} {cs a:List C} {p:Prop},iI env cs ps=some (p,a)->a.length=cs.length
 |[],cs,a,p,h=>by cases h;rfl
 |(off,m,x)::r,cs,a,p,h=>by
  simp only[iI,a6,cZ,bb]at h;obtain⟨⟨q,v⟩,aj,es,e,⟨h1,d⟩,⟨f,c⟩,b,he⟩:=h;cases he;rw[Sj b];unfold k5;rw[JX (by omega)]
theorem Xz (R:Rel ao nt φ S env J n a w){o:Oper}{ty:TypeId}{parts:Array (Nat×Operand)}(I:o.op= .buildSlice ty 1 parts){e:TypeId}(N:P.underlying ty=some (.slice e)){sz:Nat}(M:dZ P e=some sz)
 {z:List C}(Q:iT P e=some z){ps:List (Nat×Nat×aL)}(L:qy sz parts.toList=some ps)(h0:sz≠0)(u:z.length=sz)(U:sz<=2^24)
 {p v J'}(t:n key=false)(h:aw (.bsliceC sz z ps) env J key=some (p,v,J'))(K:p):Good P ao nt env J' (ins n key) a v ((execOp a.eval o).run P w):=by
 simp only[aw,bb]at h;obtain⟨⟨q,B⟩,s,rfl,rfl,rfl⟩:=h;obtain⟨i,d,hi,T,r,F⟩:=qR (φ:=φ) (w:=w) (S:=S) (n:=n) Q;have X:d.cells.size=sz:=by rw[<-vy,<-r.length,u]
 have E:((Array.range (1*sz)).map (d.cells[· % d.cells.size]!))=d.cells:=by
  apply Array.ext (by simp;omega);intro j h1 f;simp only[Array.getElem_map,Array.getElem_range];rw[n0 f,getElem!_pos d.cells j f]
 obtain⟨us,h1,f,l⟩:=E7 (place:=λi=>some (i*sz,sz)) R (λj=>rfl) L s K r F;have H:=Sj s;have W:us.length=sz:=by rw[<-f.length,H,u]
 have m:=R.pC (.cells us.toArray e)
 have A:=(R.alloc (.cells us.toArray e)).hL t (x:= .vec sz B) (w.heap.size,1) l (by
  simp only[cD,cS];refine⟨by simp,us,e,j9,⟨(f.imp (R':=aX (fe φ key (w.heap.size,1)) (w.alloc (.cells us.toArray e)) S) λc v G g=>aX.mono m (λb h=>pn t h) (dW.1 l c G) g).full,by omega⟩,λj h=>?_⟩;have:=R.bm.st _ _ h
  omega) (λ_=>⟨λk y O h0=>by
   have:=(R.bm.blk k y O).h7 h0
   grind,.inr R.ext.size⟩)
 refine⟨.slice (some ⟨w.heap.size,0,none⟩) 1 1,_,S,_,.inl ?_,.c ⟨some ⟨w.heap.size,0,none⟩,by simp[cS],by simp[cS],by simp[cS]⟩,by simp[V.aq,C.aq,ins],A⟩;have D:Instr.fill (λi=>some (i*sz,sz)) ((Array.range (1*sz)).map (d.cells[· % d.cells.size]!)) ((parts.map λ(i,x)=>(i,a.eval x)).toList)=some us.toArray:=by
  rw[Eu,E]
  simpa using h1
 have g:=E8 (P:=P) (w:=w) (parts:=parts.map λ(i,x)=>(i,a.eval x)) N M hi T h0 (by omega) rfl D;simp only[execOp,I,Sem.run_bind,g,Result.andThen_ok];rfl
theorem XA (R:Rel ao nt φ S env J n a w){o:Oper}{x y:Operand}{st yt e aT:TypeId}(aM:o.op= .call {callee:= .builtin .append,args:=#[x,y],argTypes:=#[st,yt]})
 (ab:P.underlying st=some (.slice e))(ae:P.underlying yt=some (.slice aT)){i:TypeInfo}(hi:P.info? e=some i)(a1:i.size≠0)(av:(i.zero.map (·.cells.size))=some i.size)
 {aj ak:aL}(ad:bn x=some aj)(f:bn y=some ak)
 {p v J'}(g:n key=false)(h:aw (.appendC i.size i.bytes aj ak) env J key=some (p,v,J'))(aq:p):Good P ao nt env J' (ins n key) a v ((execOp a.eval o).run P w):=by
 simp only[aw,a6]at h;obtain⟨⟨a2,a9⟩,X,⟨a3,a'⟩,L,he⟩:=h;simp only[bb]at av;obtain⟨bc,aC,aB⟩:=av;have h0:0<i.size:=by omega
 have Z:∀r w',(Builtin.append_ #[st,yt] o.type #[a.eval x,a.eval y]).run P w= .ok r w'->(execOp a.eval o).run P w= .ok (.value r) w':=by
  intro r w' d;simp[execOp,aM,Go.resolve,invoke,builtin,d]
 have ap:∀b,w.heap.size<=b->∀j,¬S b j:=λb U j ay=>by have:=R.bm.st _ _ ay;omega
 dsimp only at he;split at he
 . rename_i aV a4 aS;split at he
   . rename_i a5 D F;have u:=(R.dp _ _ F).2;have l:=R.drew;split at he
     . obtain⟨rfl,rfl,rfl⟩:=he;obtain⟨M,G,rfl,rfl,aH,z,W,an⟩:=aq;obtain⟨base,A⟩:=(bT R ad X M).1.dF;obtain⟨O,_⟩:=xY (P:=P) (R.bm.blk _ _ F) (bT R f L G).1.dF z;obtain⟨_,s,af,ag,ah⟩:=xY (P:=P) (l.bm.blk _ _ F) (bT l f L G).1.dF z
       have N:(Builtin.firstCells i.size 0 (.slice base 0 0)).run P w.drew= .ok ([]:List Value).toArray w.drew:=by
        cases base with
        |none=>rfl
        |some a=>simp[Builtin.firstCells,loadCells,loadCellsFrom]
       obtain⟨ai,r,h1,T,d⟩:=xl (tt:=o.type) ab ae hi aC aB O N af (by omega) (by simpa using W) (by omega);rw[<-A]at d;have m:=l.pC (.cells ([]++s++r).toArray e)
       have B:=(l.alloc (.cells ([]++s++r).toArray e)).hL g (x:= .vec i.size D) (w.heap.size,ai) u (by
        simp only[cD,cS];refine⟨by omega,_,e,j9,⟨?_,?_⟩,ap _ (eJ _)⟩
        . rw[hr,El (by omega),pF (by omega)];exact ah.imp λc v q d=>aX.mono m (λb h=>pn g h) (dW.1 u c q) d
        . simp only[dP,km,ag,T,fp,<-gP];congr 1;omega) (λ_=>⟨λk y f h0=>by
           have:=(R.bm.blk k y f).h7 h0
           omega,.inr R.ext.size⟩)
       refine⟨_,_,S,_,.inl (Z _ _ d),.c ?_,by simp[V.aq,C.aq,ins],B⟩;exact⟨some ⟨w.heap.size,0,none⟩,by simp[cS],by simp[cS],by simp[cS];omega⟩
     . rename_i b a7 len;split at he
       . rename_i a8 cs t;split at he
         . cases he
         rename_i aY;obtain⟨rfl,rfl,rfl⟩:=he;obtain⟨M,G,rfl,rfl,rfl,rfl,aH,z,am,W,an⟩:=aq;have K:=(R.dp _ _ t).2;have aE:=R.bm.blk _ _ t;obtain⟨base,A,aF,aI⟩:=aX.fH (bT R ad X M).1.dF;obtain⟨H,vs,E,aa,⟨aO,au⟩,Y⟩:=aE;rw[Nat.sub_zero]at A;rw[fp]at aI;have I:=aF H
         rw[vq]at I;obtain⟨O,Q,aR,ax,aA⟩:=xY (P:=P) (R.bm.blk _ _ F) (bT R f L G).1.dF z;have inj:∀k y,aJ (eM J b) k=some y->(φ k).2≠0->(φ k).1≠(φ b).1:=λk y f g=>by
          rw[d']at f;split at f
          . cases f
          . rename_i aK;exactλe=>R.bm.inj k b y _ f t (cW aK) g H e
         by_cases ar:len+aS<=(φ b).2
         . have aG:len*i.size+Q.length<=vs.length:=by rw[ax,au,<-gP];exact et _ ar
           obtain⟨w',a0,aZ,ba,bE,bU,cL,cM⟩:=k1 (P:=P) Q (len*i.size) 0 vs w aa (by omega) (vm aA);rw[q8]at cL
           have d:=sF (tt:=o.type) ab ae hi (base:=base) (sl:=len) (sc:=(φ b).2) O aR ar (w':=w') (λaU al=>by
            rw[I]at al;cases al;have aW:Addr.add ⟨(φ b).1,0,none⟩ (len*i.size)=⟨(φ b).1,len*i.size,none⟩:=by unfold Addr.add;split<;>simp_all
            grind) (λU=>by rw[I]at U;cases U)
           rw[<-A]at d
           have aD:=(R.del b).world (w':=w') (λk=>k=(φ b).1) aZ ba bE (sX bU.symm) (λk _ g=>cM k g) (λk g=>by
            subst g
            exact⟨Y,inj,R.own b _ t H⟩)
           have m:fw w S w' S:=⟨λ_ _ h=>h,λk j h=>nU (cM k (λe=>Y j (e▸h))) j⟩
           have B:=aD.hL g (x:= .vec i.size (cs++D)) (φ b) (by simp only[bp.aq,List.all_append,cH];exact⟨K,u⟩) (by
            simp only[cD,cS];refine⟨H,_,E,cL,⟨?_,by rw[mg aG];exact au⟩,Y⟩;have aN:=((aO.imp (R':=aX (fe φ key (φ b)) w' S) λc v q d=>aX.mono m (λb h=>pn g h) (dW.1 K c q) d).append (aA.imp (R':=aX (fe φ key (φ b)) w' S) λc v q d=>aX.mono m (λb h=>pn g h) (dW.1 u c q) d))
            have az:(hK vs (len*i.size) Q).take (cs++D).length=vs.take cs.length++Q:=by
             rw[dP,am,z];unfold hK;rw[ax,El (by simp;omega),pF (by simp;omega)]
            rw[az]
            exact aN) (λ_=>⟨inj,R.own b _ t H⟩)
           refine⟨_,_,S,w',.inl (Z _ _ d),.c ?_,by simp[V.aq,C.aq,ins],B⟩;exact⟨base,by simp[cS],by simp[cS,I],by simp[cS];omega⟩
         . obtain⟨_,s,af,ag,ah⟩:=xY (P:=P) (l.bm.blk _ _ F) (bT l f L G).1.dF z;obtain⟨_,xs,N,aP,aQ⟩:=xY (P:=P) (l.bm.blk _ _ t) (bT l ad X M).1.dF am;rw[A]at N;obtain⟨ai,r,h1,T,d⟩:=xl (tt:=o.type) ab ae hi aC aB O N af (by omega) W an;rw[<-A]at d
           have m:=l.pC (.cells (xs++s++r).toArray e)
           have B:=((l.del b).alloc (.cells (xs++s++r).toArray e)).hL g (x:= .vec i.size (cs++D)) (w.heap.size,ai) (by simp only[bp.aq,List.all_append,cH];exact⟨K,u⟩) (by
            simp only[cD,cS];refine⟨by omega,_,e,j9,⟨?_,?_⟩,ap _ (eJ _)⟩
            . have az:(xs++s++r).take (cs++D).length=xs++s:=by
               rw[El (by simp;omega),pF (by simp;omega)]
              rw[az];exact(aQ.imp λc v q d=>aX.mono m (λb h=>pn g h) (dW.1 K c q) d).append (ah.imp λc v q d=>aX.mono m (λb h=>pn g h) (dW.1 u c q) d)
            . simp only[dP,aP,ag,T,<-gP];congr 1;omega) (λ_=>⟨λk y f h0=>by
               rw[d']at f;split at f
               . cases f
               . have:=(R.bm.blk k y f).h7 h0
                 omega,.inr R.ext.size⟩)
           refine⟨_,_,S,_,.inl (Z _ _ d),.c ?_,by simp[V.aq,C.aq,ins],B⟩;exact⟨some ⟨w.heap.size,0,none⟩,by simp[cS],by simp[cS],by simp[cS];omega⟩
       . cases he
     . cases he
   . cases he
 . cases he
end
end
section
open Go
variable [da]
theorem aQ.k8{α c e:Type}{R:α->c->Prop}{R':e->c->Prop}{f:α->e}{l:List α}{m:List c}(h:aQ R l m)(k:∀a b,R a b->R' (f a) b):aQ R' (l.map f) m:=by
 induction h with
 |nil=>exact .nil
 |cons g _ ih=>exact .cons (k _ _ g) ih
def cut(es:List (List T))(off len:Nat):List (List T):=if off=0/\len=es.length then es else(es.drop off).take len
def C.cb(b0 sz0:Nat)(es:List (List T)):C->C
 |.arr b sz off len=>if b=b0 then(if sz=sz0/\off+len<=es.length then .t (.slice (cut es off len))else .dead)else .arr b sz off len
 |.cl b sz i o=>if b=b0 then .dead else .cl b sz i o
 |c=>c
def V.cb(b0 sz0:Nat)(es:List (List T)):V->V
 |.c x=>.c (x.cb b0 sz0 es)
 |.agg cs=>.agg (cs.map (C.cb b0 sz0 es))
 |.aS vs=>.aS (go b0 sz0 es vs)
where go (b0 sz0:Nat) (es:List (List T)):List V->List V
 |[]=>[]
 |v::vs=>v.cb b0 sz0 es::go b0 sz0 es vs
def bp.cb(b0 sz0:Nat)(es:List (List T)):bp->bp
 |.box cs=>.box (cs.map (C.cb b0 sz0 es))
 |.arr sz l=>.arr sz l
 |.set ks=>.set ks
 |.buf E s=>.buf E s
 |.bX E c=>.bX E (c.cb b0 sz0 es)
 |.cu sz l i o c=>.cu sz l i o (c.cb b0 sz0 es)
 |.vec sz cs=>.vec sz (cs.map (C.cb b0 sz0 es))
def nB(b0 sz0:Nat)(es:List (List T)):Env->Env
 |[]=>[]
 |(k,g,v)::r=>(k,g,v.cb b0 sz0 es)::nB b0 sz0 es r
def k6(b0 sz0:Nat)(es:List (List T)):aF->aF
 |[]=>[]
 |(k,x)::r=>if k=b0 then k6 b0 sz0 es r else(k,x.cb b0 sz0 es)::k6 b0 sz0 es r
section
variable {P:Program}{ao:Ctx}{nt kk:Nat}{φ:db}{S:dj}{env:Env}{J:aF}{N:Nat}{n:Nat->Bool}{a:Act}{w:World}
theorem x7{b0 sz0:Nat}{es:List (List T)}:∀{env:Env} {k:Nat},look (nB b0 sz0 es env) k=(look env k).map λx=>(x.1,x.2.cb b0 sz0 es)
 |[],k=>rfl
 |(i,g,v)::r,k=>by
  simp[nB,look];split
  . rfl
  . exact x7
theorem C6{b0 sz0:Nat}{es:List (List T)}:∀{J:aF} {k:Nat},aJ (k6 b0 sz0 es J) k=if k=b0 then none else(aJ J k).map (bp.cb b0 sz0 es)
 |[],k=>by simp[k6,aJ]
 |(i,x)::r,k=>by
  simp[k6,aJ];by_cases h:i=b0
  . rw[ab h,C6]
    grind
  . rw[ag h];simp[aJ];by_cases a:i=k
    . grind
    . rw[ag a,ag a,C6]
def mr(S:dj)(q:Nat×Nat):dj:=λb j=>S b j\/(q.2≠0/\b=q.1)
theorem aa2{es:List (List T)}{off len:Nat}{e:List T}(h:e∈cut es off len):e∈es:=by
 grind[cut]
theorem aa3{es:List (List T)}{off len i:Nat}{e:List T}(a:off+len<=es.length)(h:(cut es off len)[i]?=some e):es[off+i]?=some e/\i<len:=by
 grind[cut]
theorem Zi{es:List (List T)}{off len:Nat}(a:off+len<=es.length):(cut es off len).length=len:=by
 grind[cut]
theorem aX.cb{b0 sz0:Nat}{es:List (List T)}(cA:cD φ w S b0 (.arr sz0 es)){c:C}{v:Value}(h:aX φ w S c v):aX φ w (mr S (φ b0)) (c.cb b0 sz0 es) v:=by
 have m:fw w S w (mr S (φ b0)):=⟨λ_ _ h=>.inl h,λ_ _ _=>rfl⟩
 have p:=aX.iQ h;cases c with
 |arr b sz off len=>
  simp[C.cb];by_cases f:b=b0
  . subst f;rw[ab rfl];split
    . rename_i y;obtain⟨rfl,g⟩:=y;obtain⟨h1,G,q,H,bf⟩:=cA;obtain⟨a,rfl,x,K⟩:=aX.fH h;have ad:=Zi g;have az:Value.slice a len ((φ b).2-off)=Value.slice a (cut es off len).length ((φ b).2-off):=by grind
      rw[az];by_cases h0:(φ b).2=0
      . have:cut es off len=[]:=k9 (by omega);rw[this];exact b5.slice [] _ _ 0 0 0 (λ_ _=>undef) (by simp) (by simp) (by simp) (by simp) (by simp) (by simp)
      . obtain⟨vs,E,aa,L,B,hs⟩:=bf h0;refine b5.slice _ _ _ sz _ _ (λi j=>(vs.getD ((off+i)*sz+j) undef)) (by omega) (by omega) (λe he=>q e (aa2 he)) (λ_=>x h0) ?_ ?_
        . intro i j hi J;refine⟨.inr ⟨h0,rfl⟩,?_⟩;rw[hV aa];have aI:(off+i)*sz+j<vs.length:=by
           have:=et sz (show off+i+1<=(φ b).2 by omega)
           grind
          grind
        . intro i j e t he ht;obtain⟨A,hi⟩:=aa3 g he;obtain⟨v,F,D⟩:=B _ _ _ _ A ht;simp[List.getD,F];exact b5.mono m D
    . exact p
  . rw[ag f];exact aX.mono m (λ_ _=>rfl) (C.ji _) h
 |cl b sz i o=>
  simp[C.cb];split
  . exact p
  . exact h
 |_=>exact aX.mono m (λ_ _=>rfl) (C.ji _) h
theorem F1{b0 sz0:Nat}{es:List (List T)}:∀{vs:List V} {i:Nat},(V.cb.go b0 sz0 es vs)[i]?=(vs[i]?).map (V.cb b0 sz0 es)
 |[],i=>by rfl
 |v::vs,0=>by rfl
 |v::vs,i+1=>by simp[V.cb.go,F1]
theorem Fj{b0 sz0:Nat}{es:List (List T)}:∀{vs:List V},(V.cb.go b0 sz0 es vs).length=vs.length
 |[]=>rfl
 |v::vs=>by simp[V.cb.go,Fj]
theorem cd.cb{b0 sz0:Nat}{es:List (List T)}(cA:cD φ w S b0 (.arr sz0 es)){v:V}{x:Value}(h:cd φ w S v x):cd φ w (mr S (φ b0)) (v.cb b0 sz0 es) x:=by
 induction h with
 |c h=>exact .c (aX.cb cA h)
 |agg h=>exact .agg (h.k8 λ_ _=>aX.cb cA)
 |aS vs xs ad h ih=>
  refine .aS _ xs (by grind[Fj]) ?_
  grind[F1]
theorem C.oB{b0 sz0:Nat}{es:List (List T)}{c:C}(h:c.aq n=true):(c.cb b0 sz0 es).aq n=true:=by
 cases c with
 |arr b sz off len=>simp[C.cb];split;split;rfl;rfl;grind
 |cl b sz i o=>simp[C.cb];split;rfl;grind
 |_=>exact h
theorem V.oB{b0 sz0:Nat}{es:List (List T)}:∀{v:V},v.aq n=true->(v.cb b0 sz0 es).aq n=true
 |.c x,h=>by grind[V.cb,V.aq,C.oB]
 |.agg cs,h=>by grind[V.cb,V.aq,C.oB]
 |.aS vs,h=>by exact go vs h
where go:∀vs,V.aq.V.dI n vs=true->V.aq.V.dI n (V.cb.go b0 sz0 es vs)=true
 |[],_=>rfl
 |v::vs,h=>by simp[V.cb.go,V.aq.V.dI,cH]at h⊢;exact⟨V.oB h.1,go vs h.2⟩
theorem Rel.freeze(R:Rel ao nt φ S env J n a w){b0 sz0:Nat}{es:List (List T)}(Q:aJ J b0=some (.arr sz0 es)):
 Rel ao nt φ (mr S (φ b0)) (nB b0 sz0 es env) (k6 b0 sz0 es J) n a w:=by
 have cA:=R.bm.blk b0 _ Q;have m:fw w S w (mr S (φ b0)):=⟨λ_ _ h=>.inl h,λ_ _ _=>rfl⟩
 have P:∀b x,aJ (k6 b0 sz0 es J) b=some x->b≠b0/\∃A,aJ J b=some A/\x=A.cb b0 sz0 es:=by
  grind[C6,bb]
 have L:∀b x,b≠b0->aJ J b=some x->(φ b).2≠0->∀j,¬mr S (φ b0) (φ b).1 j:=by
  intro b x F D h0 j q;rcases q with q|⟨N,q⟩
  . exact(R.bm.blk b x D).nW h0 j q
  . exact R.bm.inj b b0 x _ D Q F h0 N q
 refine⟨⟨λb x D=>?_,λb U x y D am F h0 X=>?_,λb j q=>?_⟩,λk g v ad aj=>?_,λk g v ad aj=>?_,λk g v ad aj=>?_,λb x D=>?_,R.size,R.defers,?_,λb x D h0=>?_,R.fix,R.fV⟩
 . obtain⟨F,A,f,rfl⟩:=P b x D;have B:=R.bm.blk b A f;cases A with
   |box cs=>
    obtain⟨h0,vs,E,h1,G,H⟩:=B;exact⟨h0,vs,E,h1,G.k8 λ_ _=>aX.cb cA,L b _ F f h0⟩
   |vec sz cs=>
    obtain⟨h0,vs,E,h1,⟨G,K⟩,H⟩:=B;exact⟨h0,vs,E,h1,⟨by rw[kn];exact G.k8 λ_ _=>aX.cb cA,K⟩,L b _ F f h0⟩
   |arr sz l=>
    obtain⟨h1,G,H,K,bf⟩:=B;refine⟨h1,G,H,K,λh0=>?_⟩
    grind[b5.mono]
   |set ks=>exact⟨B.1,B.2.1,L b _ F f B.1⟩
   |buf E s=>exact⟨B.1,B.2.1,λh0=>⟨(B.2.2 h0).1,L b _ F f h0⟩⟩
   |bX E c=>
    obtain⟨h0,⟨p,v,h1,G,H⟩,K⟩:=B;exact⟨h0,⟨p,v,h1,G,aX.cb cA H⟩,L b _ F f h0⟩
   |cu sz l i o c=>
    obtain⟨⟨h1,G,H,K,bf,Y⟩,⟨vs,E,aZ,ba,bE,v,bU,cL⟩,cM⟩:=B;exact⟨⟨h1,G,H,K,bf,Y⟩,⟨vs,E,aZ,ba,λi j e t he ht aA=>let⟨v,Z,W⟩:=bE i j e t he ht aA;⟨v,Z,b5.mono m W⟩,v,bU,aX.cb cA cL⟩,L b _ F f (by omega)⟩
 . obtain⟨_,A,f,rfl⟩:=P b x D;obtain⟨_,ap,an,rfl⟩:=P U y am;exact R.bm.inj b U A ap f an F h0 X
 . rcases q with q|⟨N,rfl⟩
   . exact R.bm.st b j q
   . exact cA.h7 N
 . rw[x7,bb]at ad;obtain⟨⟨M,v0⟩,O,he⟩:=ad;cases he;obtain⟨x,D,W⟩:=R.fT k M v0 O aj
   grind[cd.cb]
 . rw[x7,bb]at ad;obtain⟨⟨M,v0⟩,O,he⟩:=ad;cases he;exact R.gJ k M v0 O aj
 . rw[x7,bb]at ad;obtain⟨⟨M,v0⟩,O,he⟩:=ad;cases he;exact V.oB (R.fS k M v0 O aj)
 . obtain⟨_,A,f,rfl⟩:=P b x D;refine⟨(R.dp b A f).1,?_⟩;have:=(R.dp b A f).2;cases A with
   |box cs=>grind[bp.cb,bp.aq,List.all_map,List.all_eq_true,C.oB]
   |vec sz cs=>grind[bp.cb,bp.aq,List.all_map,List.all_eq_true,C.oB]
   |arr sz l=>rfl
   |set ks=>rfl
   |buf E s=>rfl
   |bX E c=>grind[bp.cb,bp.aq,C.oB]
   |cu sz l i o c=>grind[bp.cb,bp.aq,C.oB]
 . refine⟨R.ext.os,R.ext.tape,R.ext.output,R.ext.size,R.ext.block,R.ext.mono.trans m,λb j q=>?_⟩;rcases q with q|⟨N,rfl⟩
   . exact R.ext.pO b j q
   . rcases R.own b0 _ Q N with h|h
     all_goals grind
 . obtain⟨_,A,f,rfl⟩:=P b x D;exact R.own b A f h0
theorem V.N3:∀v:V,v.aq (λ_=>true)=true
 |.c x=>by grind[V.aq,C.ji]
 |.agg cs=>by grind[V.aq,C.ji]
 |.aS vs=>go vs
where go:∀vs,V.aq.V.dI (λ_=>true) vs=true
 |[]=>rfl
 |v::vs=>by simp[V.aq.V.dI,V.N3 v,go vs]
theorem Rel.afF(R:Rel ao nt φ S env J n a w){b0 sz0:Nat}{es:List (List T)}(N:aJ J b0=some (.arr sz0 es)):Rel ao nt φ (mr S (φ b0)) env (eM J b0) n a w:=by
 have cA:=R.bm.blk b0 _ N;have m:fw w S w (mr S (φ b0)):=⟨λ_ _ h=>.inl h,λ_ _ _=>rfl⟩
 have D:=R.del b0;have Q:∀b x,aJ (eM J b0) b=some x->b≠b0/\aJ J b=some x:=by
  grind[d']
 have H:∀b x,b≠b0->aJ J b=some x->(φ b).2≠0->∀j,¬mr S (φ b0) (φ b).1 j:=by
  intro b x A K h0 j f;rcases f with f|⟨L,f⟩
  . exact(R.bm.blk b x K).nW h0 j f
  . exact R.bm.inj b b0 x _ K N A h0 L f
 have M:∀{c:C} {v:Value},aX φ w S c v->aX φ w (mr S (φ b0)) c v:=λh=>aX.mono m (λ_ _=>rfl) (C.ji _) h
 refine⟨⟨λb x K=>?_,D.bm.inj,λb j f=>?_⟩,λk g v ad aj=>?_,R.gJ,R.fS,D.dp,R.size,R.defers,?_,D.own,R.fix,R.fV⟩
 . obtain⟨A,F⟩:=Q b x K;have q:=R.bm.blk b x F;cases x with
   |box cs=>
    obtain⟨h0,vs,E,h1,y,B⟩:=q;exact⟨h0,vs,E,h1,y.imp λ_ _ _=>M,H b _ A F h0⟩
   |vec sz cs=>
    obtain⟨h0,vs,E,h1,⟨y,G⟩,B⟩:=q;exact⟨h0,vs,E,h1,⟨y.imp λ_ _ _=>M,G⟩,H b _ A F h0⟩
   |arr sz l=>
    obtain⟨h1,y,B,G,bf⟩:=q;refine⟨h1,y,B,G,λh0=>?_⟩
    grind[b5.mono]
   |set ks=>exact⟨q.1,q.2.1,H b _ A F q.1⟩
   |buf E s=>exact⟨q.1,q.2.1,λh0=>⟨(q.2.2 h0).1,H b _ A F h0⟩⟩
   |bX E c=>
    obtain⟨h0,⟨p,v,h1,y,B⟩,G⟩:=q;exact⟨h0,⟨p,v,h1,y,M B⟩,H b _ A F h0⟩
   |cu sz l i o c=>
    obtain⟨⟨h1,y,B,G,bf,P⟩,⟨vs,E,aZ,ba,bE,v,bU,cL⟩,cM⟩:=q;exact⟨⟨h1,y,B,G,bf,P⟩,⟨vs,E,aZ,ba,λi j e t he ht aA=>let⟨v,U,O⟩:=bE i j e t he ht aA;⟨v,U,b5.mono m O⟩,v,bU,M cL⟩,H b _ A F (by omega)⟩
 . rcases f with f|⟨L,rfl⟩
   . exact R.bm.st b j f
   . exact cA.h7 L
 . obtain⟨x,K,O⟩:=R.fT k g v ad aj;exact⟨x,K,cd.mono m (n:=λ_=>true) (λ_ _=>rfl) (V.N3 _) O⟩
 . refine⟨R.ext.os,R.ext.tape,R.ext.output,R.ext.size,R.ext.block,R.ext.mono.trans m,λb j f=>?_⟩;rcases f with f|⟨L,rfl⟩
   . exact R.ext.pO b j f
   . rcases R.own b0 _ N L with h|h
     all_goals grind
theorem XB {te sz bytes:Nat}{x y:aL}{key:Nat}{r:Result Next}(l:∀{p v J'},aw (.append te sz bytes x y) env J key=some (p,v,J')->p->Good P ao nt env J' (ins n key) a v r)
 {p v J'}(h:aw (.appendT te sz bytes x y) env J key=some (p,v,J'))(s:∀z,aJ J key≠some z)(A:p):Good P ao nt env J' (ins n key) a v r:=by
 simp only[aw,a6]at h;obtain⟨⟨K,v0⟩,h1,⟨d1,d2⟩,k,h⟩:=h;dsimp only at h;split at h
 . cases h
 . rename_i H;rw[a6]at h;obtain⟨f,I,h⟩:=h;split at h
   . rename_i b M off len;split at h
     . rename_i d es m;split at h
       . cases h
       . rename_i w;simp only[cQ,c8]at h;obtain⟨rfl,rfl,rfl⟩:=h;obtain⟨B,D,rfl,rfl,rfl,rfl,E⟩:=A
         obtain⟨X,i,bH,w',G,g,L,R'⟩:=l (p:=K/\d1/\d=d/\d=d/\0=0/\es.length=es.length/\_) (v:= .c (.arr key d 0 (es.length+f.1.length))) (J':=cn (eM J b) key (.arr d (es++f.1))) (by simp only[aw,h1,k,ak,H,I,m,ag w]) ⟨B,D,rfl,rfl,rfl,rfl,E⟩
         have hs:aJ (cn (eM J b) key (.arr d (es++f.1))) key=some (.arr d (es++f.1)):=by rw[cE,ab rfl]
         have cA:=R'.bm.blk key _ hs;cases g with
         |c g=>
         have o:=aX.cb cA g;have q:aX i w' (mr bH (i key)) (.t (.slice (es++f.1))) X:=by simpa[C.cb,cut]using o
         refine⟨X,i,_,w',G,.c q,rfl,(R'.afF hs).congr λj=>?_⟩;simp only[d',cE];have u:aJ J key=none:=by cases F:aJ J key with|none=>rfl|some z=>exact absurd F (s z)
         by_cases e:key=j
         . subst e;simp[u]
         . simp[e]
     . cases h
   . cases h
end
end
section
open Go
variable [da]
section
variable {P:Program}{ao:Ctx}{nt:Nat}{φ:db}{S:dj}{env:Env}{J:aF}{n:Nat->Bool}{key:Nat}{a:Act}{w:World}
theorem qB{α:Type}{x:Array α}{a b:α}(h:x.toList=[a,b]):x=#[a,b]:=by grind
theorem H0{α:Type}{x:Array α}{a:α}(h:x.toList=[a]):x=#[a]:=by grind
theorem Zj (R:Rel ao nt φ S env J n a w){o:Oper}{c:Call}(q:o.op= .call c){u:b9}(b:lL P c=some u)
 {p v J'}(m:n key=false)(h:aw u env J key=some (p,v,J'))(r:p):Good P ao nt env J' (ins n key) a v ((execOp a.eval o).run P w):=by
 obtain⟨callee,args,argTypes⟩:=c;unfold lL at b;split at b
 . grind[H0,bb,ZK]
 . rename_i l;split at b
   . rename_i x y t C d ht;have d:=qB d;have ht:=qB ht;subst l;subst d;subst ht;split at b
     . rename_i e j s;simp only[a6,cZ,cQ]at b;obtain⟨i,hi,z,f,A,g,⟨h1,k,B⟩,rfl⟩:=b;exact Xw R q j s hi h1 k f g m h r
     . rename_i e D j s;simp only[a6,cZ,cQ]at b;obtain⟨i,hi,z,f,A,g,⟨h1,k⟩,rfl⟩:=b;exact Xx R q j s hi h1 k f g m h r
     . cases b
   grind
 . grind[qB,a6,bb,XL]
 . grind[qB,a6,bb,XM]
 . split at b
   . rename_i x t d ht;have d:=H0 d;have ht:=H0 ht;subst d;subst ht;split at b
     . simp only[cZ,bb]at b
       grind[YB]
     . cases b
   grind
 . rename_i l;split at b
   . rename_i x y t C d ht;have d:=qB d;have ht:=qB ht;subst l;subst d;subst ht;split at b
     . rename_i e j;simp only[cZ,a6,bb]at b;obtain⟨⟨_,_,B⟩,z,f,A,g,rfl⟩:=b;exact Zg R q j B f g m h r
     grind
   grind
 . grind[bb,aw]
 . grind[bb,aw]
 grind
theorem Good.mono{v:V}{J':aF}{dy c:Nat->Bool}(h:∀b,dy b=true->c b=true){r:Result Next}(g:Good P ao nt env J' dy a v r):Good P ao nt env J' c a v r:=by
 obtain⟨x,j,bH,w',h1,e,f,R'⟩:=g;exact⟨x,j,bH,w',h1,e,V.gH h f,R'.more h⟩
theorem Tn (R:Rel ao nt φ S env J n a w){o:Oper}{M:b9}(b:cY P o.op=some M)
 (af:∀e e8,M≠.allocS e e8){p v J'}(l:n key=false)(h:aw M env J key=some (p,v,J'))(u:p):Good P ao nt env J' (ins n key) a v ((execOp a.eval o).run P w):=by
 generalize q:o.op=op at b;cases op with
 |move x=>simp only[cY,bb]at b;obtain⟨A,j,rfl⟩:=b;exact IB R (.inl q) j l h u
 |assign x=>simp only[cY,bb]at b;obtain⟨A,j,rfl⟩:=b;exact IB R (.inr q) j l h u
 |pick c x y=>
  simp only[cY,a6,bb]at b;obtain⟨ac,W,A,j,F,C,rfl⟩:=b;exact Yd R q W j C l h u
 |alloc e=>
  simp only[cY]at b;split at b
  . cases b;exact absurd rfl (af _ _)
  . simp only[a6]at b;obtain⟨cs,Q,b⟩:=b;split at b
    . split at b
      . rename_i W;cases b;exact Xe R q Q (by omega) (by omega) l h u
      . cases b;exact Tk R q Q l h u
    . cases b;exact Tk R q Q l h u
 |box e x=>simp only[cY,bb]at b;obtain⟨A,j,rfl⟩:=b;exact ZM R q j l h u
 |build t parts=>
  simp only[cY]at b;split at b
  . rename_i fs I;simp only[cZ,a6,bb]at b;obtain⟨h1,z,E,ps,K,rfl⟩:=b;exact Yv R q I h1 E K l h u
  . simp only[a6,bb]at b;rename_i len e B;obtain⟨z,E,m,D,ps,K,rfl⟩:=b;exact We R q B D E K l h u
  . cases b
 |buildSlice t len parts=>
  simp only[cY]at b;split at b
  . rename_i e B;simp only[a6,cZ,cQ]at b;obtain⟨m,D,z,E,ps,K,⟨h1,N,O⟩,rfl⟩:=b;exact Xb R q B D E K h1 N O l h u
  . cases b
 |load t x=>
  simp only[cY,a6,bb]at b;obtain⟨g,aj,A,j,rfl⟩:=b;exact XS R q aj j l h u
 |store t x y=>
  simp only[cY,a6,bb]at b;obtain⟨m,D,A,j,F,C,rfl⟩:=b;exact Yu R q D j C l h u
 |nilCheck x=>simp only[cY,bb]at b;obtain⟨A,j,rfl⟩:=b;exact Wd R q j l h u
 |binOp op t x y yt=>
  simp only[cY]at b;split at b
  . rename_i V;split at b
    . simp only[a6,bb]at b;obtain⟨ks,U,A,j,F,C,rfl⟩:=b;exact XT R q V U j C l h u
    . simp only[a6,bb]at b;obtain⟨ks,U,A,j,F,C,rfl⟩:=b;exact Yt R q V U j C l h u
    . simp only[cZ,bb]at b
      grind[aw]
    . rename_i B;simp only[a6,bb]at b;obtain⟨A,j,F,C,rfl⟩:=b;exact W' R q V B j C l h u
    . simp only[a6,bb]at b;obtain⟨A,j,F,C,rfl⟩:=b;exact G8 R q j C l h u
    . simp only[a6,bb]at b;obtain⟨A,j,F,C,rfl⟩:=b;exact G8 R q j C l h u
    . cases b
  . simp only[a6,bb]at b;obtain⟨A,j,F,C,rfl⟩:=b;exact G8 R q j C l h u
 |unOp ah t x=>
  cases ah<;>simp only[cY,bb,reduceCtorEq]at b
  . split at b
    . simp only[bb]at b;obtain⟨A,j,rfl⟩:=b;exact ZE R q j l h u
    . cases b
  . split at b
    . simp only[bb]at b;obtain⟨A,j,rfl⟩:=b;exact ZF R q j l h u
    . cases b
  . obtain⟨A,j,rfl⟩:=b;exact ZD R q j l h u
 |convert s d x=>
  simp only[cY]at b;split at b
  . rename_i hs G;simp only[bb]at b;obtain⟨A,j,rfl⟩:=b;exact Yf R q hs G j l h u
  . rename_i hs G;simp only[bb]at b;obtain⟨A,j,rfl⟩:=b;exact ZG R q hs G j l h u
  . rename_i hs G;simp only[bb]at b;obtain⟨A,j,rfl⟩:=b;exact ZH R q hs G j l h u
  . rename_i e hs G;simp only[cZ,bb]at b;obtain⟨⟨he,X⟩,A,j,rfl⟩:=b;have ae:P.underlying e=some (.int .u8):=by grind
    exact ZO R q hs ae G j l h u
  . cases b
 |fieldAddr t x f=>
  simp only[cY]at b;split at b
  . rename_i fs I;simp only[a6,AW,bb]at b;obtain⟨ab,T,m,D,L,A,j,rfl⟩:=b;exact XK R q I T D L j l h u
  . cases b
 |field t x f=>
  simp only[cY]at b;split at b
  . rename_i fs I;simp only[a6,bb]at b;obtain⟨ab,T,g,aj,A,j,rfl⟩:=b;obtain⟨h1,N,O⟩:=Sk aj;exact ZI R q I T N h1 O j l h u
  . cases b
 |indexAddr t x i=>
  simp only[cY]at b;split at b
  . rename_i e B;simp only[a6,AW,bb]at b;obtain⟨m,D,L,A,j,H,hi,rfl⟩:=b;exact XN R q B D L j hi l h u
  . rename_i k e B;split at b
    . simp only[cZ,a6,bb]at b;obtain⟨h0,s,hs,A,j,rfl⟩:=b;exact Zb R q B h0 hs j l h u
    . simp only[cZ,a6,bb]at b;obtain⟨X,A,j,H,hi,rfl⟩:=b;exact Za R q B X j hi l h u
  . cases b
 |index t x i=>
  simp only[cY]at b;split at b
  . rename_i B;simp only[a6,bb]at b;obtain⟨A,j,H,hi,rfl⟩:=b;exact XO R q B j hi l h u
  . rename_i B;simp only[cZ,a6,bb]at b;obtain⟨ad,A,j,H,hi,rfl⟩:=b;exact Zh R q B ad j hi l h u
  . cases b
 |slice t x lo hi al=>
  simp only[cY]at b;split at b
  . rename_i B;simp only[cZ,a6,bb,Option.isNone_iff_eq_none]at b;obtain⟨rfl,A,j,Z,ad,Y,aa,rfl⟩:=b;exact XQ R q B j ad aa l h u
  . rename_i e B;split at b
    . simp only[a6,AW,bb]at b;obtain⟨m,D,L,A,j,Z,ad,Y,aa,rfl⟩:=b;exact ZL R q B D j ad aa l h u
    . split at b
      . simp only[cZ,bb]at b
        grind[Option.isSome_iff_exists,XR]
      . cases b
    . cases b
  . simp only[cZ,a6,bb,Option.isNone_iff_eq_none]at b
    grind[Zc]
  grind
 |makeFunc fn first caps=>
  cases fn<;>simp only[cY,cZ,bb,reduceCtorEq]at b
  grind[XP]
 |extract x i=>grind[cY,bb,ZJ]
 |makeSlice t x y=>
  simp only[cY]at b;split at b
  . rename_i B;simp only[cZ,a6,bb]at b;obtain⟨ag,i,hi,z,E,⟨h0,ad⟩,A,j,rfl⟩:=b;exact Xj R q B ag hi E h0 ad j l h u
  . cases b
 |makeMap t r=>
  cases r with
  |some _=>simp[cY]at b
  |none=>
   simp only[cY,cZ,cQ]at b
   grind[Yx]
 |lookup t x i c=>
  cases c with
  |true=>
   simp only[cY,cZ,a6,bb]at b;obtain⟨ht,z,E,A,j,H,hi,rfl⟩:=b;exact ZP R q ht E j hi l h u
  |false=>
   simp only[cY,cZ,a6,bb]at b
   grind[Yy]
 |mapUpdate t m k v0=>
  simp only[cY]at b;split at b
  . simp only[a6,bb]at b
    grind[Yz]
  . simp only[cZ,a6,bb]at b;obtain⟨ht,A,j,H,hi,ai,ak,rfl⟩:=b;exact ZQ R q ht j hi l h u
 |call c=>grind[cY,Zj]
 |_=>simp[cY]at b
def er(n:Nat->Bool)(k:Nat):Nat->Bool:=λb=>n b||(decide (k<=b)&&decide (b<k+16))
theorem lN{b:Nat}(h:n b=true):er n key b=true:=by grind[er]
theorem C7{b:Nat}(h:ins n key b=true):er n key b=true:=by
 grind[ins,er]
theorem XU{b:Bool}{o a:b9}(h:D3 b o=a):o=a\/∃te sz bytes x y,o= .append te sz bytes x y/\a= .appendT te sz bytes x y:=by
 unfold D3 at h;split at h
 . cases b
   . exact .inl h
   . exact .inr ⟨_,_,_,_,_,rfl,h.symm⟩
 . exact .inl h
theorem R9{b:Bool×Bool}{op:Op}{a:b9}(h:ud P b op=some a):tM P op=some a\/(cY P op=some a\/∃te sz bytes x y,cY P op=some (.append te sz bytes x y)/\a= .appendT te sz bytes x y)\/∃t len parts e m z ps,op= .buildSlice t len parts/\P.underlying t=some (.slice e)/\dZ P e=some m/\iT P e=some z/\oU parts.toList=some ps/\m≠0/\z.length=m/\len*m<=2^24/\a= .bsliceT e m len z ps:=by
 unfold ud at h;split at h
 . rename_i g f;cases h;exact .inl f
 refine .inr ?_;split at h
 . right
   grind[a6]
 . rename_i c _;obtain⟨o,h1,d⟩:=pE.1 h;rcases XU d with rfl|⟨te,sz,bytes,x,y,rfl,rfl⟩
   . exact .inl (.inl h1)
   . exact .inl (.inr ⟨te,sz,bytes,x,y,h1,rfl⟩)
 . exact .inl (.inl h)
theorem ZR(R:Rel ao nt φ S env J n a w){o:Oper}{j:b9}(b:tM P o.op=some j){p v J'}(k:n key=false)(h:aw j env J key=some (p,v,J'))(q:p):Good P ao nt env J' (ins n key) a v ((execOp a.eval o).run P w):=by
 generalize l:o.op=op at b;unfold tM at b;split at b
 . split at b
   . rename_i t len parts e f;simp only[cZ,a6,cQ]at b;obtain⟨_,m,A,z,D,ps,B,⟨h1,d,rfl,r⟩,rfl⟩:=b;exact Xz R l f A D B h1 d r k h q
   . cases b
 . rename_i c;obtain⟨callee,args,argTypes⟩:=c;dsimp only at b;split at b
   . split at b
     . rename_i x y t H g ht;have g:=qB g;have ht:=qB ht;subst g;subst ht;split at b
       . rename_i e G f C;simp only[cZ,a6,cQ]at b;obtain⟨_,i,hi,E,s,F,u,⟨h1,d⟩,rfl⟩:=b;exact XA R l f C hi h1 d s u k h q
       . cases b
     . cases b
   . cases b
 . cases b
theorem aa4{op:Op}{a:b9}(h:tM P op=some a):(∃sz z ps,a= .bsliceC sz z ps)\/∃sz b x y,a= .appendC sz b x y:=by
 unfold tM at h;split at h
 . split at h
   . simp only[cZ,a6,cQ]at h;obtain⟨_,m,g,z,k,ps,j,_,rfl⟩:=h;exact .inl ⟨_,_,_,rfl⟩
   . cases h
 . split at h
   . split at h
     . split at h
       . simp only[cZ,a6,cQ]at h;obtain⟨_,i,hi,c,e,d,f,_,rfl⟩:=h;exact .inr ⟨_,_,_,_,rfl⟩
       . cases h
     . cases h
   . cases h
 . cases h
theorem WU{op:Op}{e e8:Nat}(h:cY P op=some (.allocS e e8)):op= .alloc e/\xv P e=some e8:=by
 cases op with
 |alloc b=>
  grind[cY,a6]
 |buildSlice t len parts=>
  simp[cY]at h;split at h
  . simp_all[a6]
  grind
 |build t parts=>
  simp[cY]at h;split at h
  . simp_all[a6]
  . grind[a6,bb]
  grind
 |call c=>
  simp[cY]at h;unfold lL at h
  repeat' (first|(split at h)|(done))
  all_goals simp only[a6,bb,cZ,cQ,reduceCtorEq,pD,yj,exists_const]at h
 |binOp op t x y yt=>
  simp only[cY]at h
  repeat' (first|(split at h)|(cases h;done))
  all_goals simp only[a6,bb,cZ,cQ,reduceCtorEq,pD,yj,exists_const]at h
 |unOp a t x=>
  cases a<;>simp only[cY]at h
  all_goals repeat' (first|(split at h)|(cases h;done))
  all_goals simp_all
 |makeMap t r=>cases r<;>simp only[cY,reduceCtorEq,cZ,cQ,pD]at h
 |lookup t x i c=>cases c<;>simp only[cY,reduceCtorEq,cZ,a6,bb,pD,yj]at h
 |makeFunc fn first caps=>cases fn<;>simp only[cY,cZ,bb,reduceCtorEq,pD,yj]at h
 |convert s d x=>
  simp only[cY]at h
  repeat' (first|(split at h)|(cases h;done))
  all_goals simp_all
 |_=>
  simp only[cY]at h
  try repeat' (first|(split at h)|(cases h;done))
  all_goals simp only[a6,bb,cZ,AW,reduceCtorEq,pD,yj,exists_const]at h
theorem Zk (R:Rel ao nt φ S env J n a w){o:Oper}{i:b9}{l:Bool×Bool}(f:ud P l o.op=some i)
 {p v J'}(aA:∀b,key<=b->b<key+16->n b=false)(h:aw i env J key=some (p,v,J'))(g:p):Good P ao nt env J' (er n key) a v ((execOp a.eval o).run P w):=by
 have d:=aA _ (eJ _) (by simp);rcases R9 f with f|(f|⟨te,sz,bytes,x,y,D,rfl⟩)|⟨t,len,parts,e,m,z,ps,j,E,A,k,C,h1,r,s,rfl⟩
 . exact(ZR R f d h g).mono λb c=>C7 c
 . by_cases hs:∃e e8,i= .allocS e e8
   . obtain⟨e,e8,rfl⟩:=hs;obtain⟨j,u⟩:=WU f;refine(Xf R j u d (aA _ (by simp) (by simp)) h g).mono λb c=>?_
     grind[ins,er]
   . exact(Tn R f (λe e8 he=>hs ⟨e,e8,he⟩) d h g).mono λb c=>C7 c
 . refine(XB (λq B=>Tn R D (λe e8 he=>by cases he) d q B) h (λz k=>?_) g).mono λb c=>C7 c
   have:=(R.dp _ _ k).1;rw[d]at this;cases this
 . exact(Xv R j E A k C h1 r s d h g).mono λb c=>C7 c
end
end
section
open Go
variable [da]
def gp(P:Program)(f:Nat)(args:List V)(J:aF)(key:Nat)(K:V->aF->Prop):Prop:=
 ∀ao nt φ S env n a w,Rel ao nt φ S env J n a w->(∀b,key<=b->b<key+16->n b=false)->V.aq.V.dI n args=true->∀vs:List Value,aQ (cd φ w S) args vs->
  Calls P f vs.toArray w λe w'=>∃v r c bH J',e= .returned v/\K r J'/\cd c w' bH r v/\r.aq (er n key)=true/\Rel ao nt c bH env J' (er n key) a w'
theorem gp.mono{P:Program}{f:Nat}{args:List V}{J:aF}{key:Nat}{K c:V->aF->Prop}(h:gp P f args J key K)(p:∀r J',K r J'->c r J'):gp P f args J key c:=
 λao nt φ S env n a w R aA o vs q=>(h ao nt φ S _ n a w R aA o vs q).mono λe w' ⟨v,r,t,bH,J',h1,g,j⟩=>⟨v,r,t,bH,J',h1,p _ _ g,j⟩
def fB(env:Env):Option (Nat×Bool)->Option Bool
 |none=>some true
 |some (t,b)=>match look env t with
  |some (g,.c (.t (.bool x)))=>some (g&&(x==b))
  |_=>none
def dX(env:Env)(dst:Option Nat)(g:Bool)(v:V):Env:=
 match dst with
 |none=>env
 |some d=>(d,g,v)::env
def ma(b:Bool):V:= .c (.t (.bool b))
def fP(P:Program)(o:bL)(key:Nat)(env:Env)(J:aF)(K:Env->aF->Prop):Prop:=
 match fB env o.guard with
 |none=>False
 |some g=>(g=false/\∃v,K (dX env o.dst g v) J)\/
  match o.op with
  |.call f args=>match gL env args with
   |some (p,vs)=>match o.guard with
    |none=>p/\gp P f vs J key (λr J'=>K (dX env o.dst true r) J')
    |some _=>(g=true/\p/\gp P f vs J key (λr J'=>K (dX env o.dst true r) J'))\/∃r,(g=true->p/\gp P f vs J key (λa J'=>a=r/\J'=J))/\K (dX env o.dst g r) J
   |none=>False
  |.callv x args=>match x.get env,gL env args with
   |some (q,.c (.fn f caps)),some (p,vs)=>o.guard=none/\gS P f=true/\q/\p/\gp P f (vs++caps.map (λb=>V.c (.ptr b 0))) J key (λr J'=>K (dX env o.dst true r) J')
   |_,_=>False
  |.eqNil neg x=>match x.get env with
   |some (p,.c (.t (.slice es)))=>o.guard=none/\p/\∀b:Bool,(es≠[]->b=false)->K (dX env o.dst true (ma (if neg then !b else b))) J
   |some (p,.c .bC)=>o.guard=none/\p/\∀b:Bool,K (dX env o.dst true (ma (if neg then !b else b))) J
   |some (p,.c (.arr _ _ _ l))=>o.guard=none/\p/\∀b:Bool,(l≠0->b=false)->K (dX env o.dst true (ma (if neg then !b else b))) J
   |_=>False
  |op=>match aw op env J key with
   |some (p,v,J')=>(g=true->p)/\(op.neutral=true\/g=true)/\K (dX env o.dst g v) (if op.neutral then J else J')
   |none=>False
def j4(P:Program):List bL->Nat->Env->aF->(Env->aF->Prop)->Prop
 |[],_,env,J,K=>K env J
 |o::r,key,env,J,K=>fP P o key env J λenv' J'=>j4 P r (key+16) env' J' K
section
variable {P:Program}{ao:Ctx}{nt:Nat}{φ:db}{S:dj}{env:Env}{J:aF}{n:Nat->Bool}{key:Nat}{a:Act}{w:World}
theorem oR{dst:Option Nat}{g:Bool}{v:V}{k:Nat}:look (dX env dst g v) k=if dst=some k then some (g,v)else look env k:=by
 unfold dX
 grind[look]
theorem Rel.z6(R:Rel ao nt φ S env J n a w){dst:Option Nat}(o:∀d,dst=some d->d<nt){g:Bool}{x:Value}{v:V}(q:g=true->cd φ w S v x)(p:g=false->x=undef)(j:g=true->v.aq n=true):
 Rel ao nt φ S (dX env dst g v) J n (a.put dst x) w:=by
 have f:∀k,(a.put dst x).tmps[k]?=if dst=some k then some x else a.tmps[k]?:=by
  cases dst with
  |none=>simp[Act.put]
  |some d=>
   have aI:d<a.tmps.size:=by rw[R.size];grind
   grind[Act.put]
 refine⟨R.bm,λk c e ad aj=>?_,λk c e ad aj=>?_,λk c e ad aj=>?_,R.dp,?_,?_,R.ext,R.own,R.fix,R.fV⟩
 . rw[oR]at ad;rw[f];split at ad
   . grind
   . rename_i h;rw[ag h];exact R.fT k c e ad aj
 . rw[oR]at ad;rw[f];split at ad
   . grind
   . rename_i h;rw[ag h];exact R.gJ k c e ad aj
 . rw[oR]at ad;split at ad
   . grind
   . exact R.fS k c e ad aj
 . cases dst<;>simp[Act.put,R.size]
 . cases dst<;>simp[Act.put,R.defers]
theorem To(R:Rel ao nt φ S env J n a w){ops:Array Oper}{o:Oper}{gd:Option (Nat×Bool)}(b:r9 ops o.guard=some gd){g:Bool}(aj:fB env gd=some g):Region.wanted o (yielded ops a.tmps)=g:=by
 unfold Region.wanted;cases i:o.guard with
 |none=>
  grind[r9,fB]
 |some k=>
  rw[i]at b;simp only[r9,bb]at b;obtain⟨d,f,rfl⟩:=b;simp[fB]at aj;split at aj
  . rename_i c x ad;simp at aj;subst aj;simp[yielded,f];cases e:c with
    |true=>
     obtain⟨y,j,b⟩:=R.fT d c _ ad e;have:=b.iW
     grind
    |false=>
     have:=R.gJ d c _ ad e;simp only[this];rfl
  grind
def jC(ao:Ctx)(nt:Nat)(n:Nat->Bool)(K:Env->aF->Prop)(a:Act)(w:World):Prop:=∃φ S env J,K env J/\Rel ao nt φ S env J n a w
theorem XV {f:Nat} (h:gS P f = true):∃ fn,P.funcs[f]? = some fn/\fn.body.isSome = true/\(fn.name == "runtime.NumGoroutine") = false:= by
 grind[gS]
theorem Xk{f:Nat}(h:gS P f=true)(args:Array Value)(w:World):(callFunc f args).run P w= .ok (.enter f args) w:=by
 obtain⟨fn,h1,a,b⟩:=XV h;obtain⟨c,d⟩:=A0.1 a;simp only[callFunc,Sem.run_bind,run_program,Result.andThen_ok,h1,b,d,cN,cv,Option.isNone_some,Sem.run_pure]
theorem uB{o:b9}(h:o.neutral=true){p v J'}(a:aw o env J key=some (p,v,J')):J'=J:=by
 cases o<;>simp[b9.neutral]at h<;>simp only[aw,a6,bb]at a
 all_goals
  (try (obtain⟨a1,h1,a⟩:=a))
  (try (obtain⟨a2,b,a⟩:=a))
  (try (obtain⟨a3,c,a⟩:=a))
  (try split at a)
  (try (simp_all;done))
 all_goals repeat' (first|(cases a;done)|(cases a;rfl)|(simp only[bb]at a;obtain⟨_,_,_,_,rfl⟩:=a;rfl)|split at a)
theorem R0{ops:Array Oper}{o:Oper}{a:bL}(h:uH P nt ops o=some a):
 ud P (Td ops o) o.op=some a.op/\r9 ops o.guard=some a.guard/\a.dst=o.dst/\∀d,a.dst=some d->d<nt:=by
 grind[uH,a6]
theorem xi{c:Bool×Bool}{op:Op}{a:b9}(h:ud P c op=some a)(i:∀e m l z ps,a≠.bsliceT e m l z ps)(g:∀e m l x y,a≠.appendT e m l x y)(d:∀sz z ps,a≠.bsliceC sz z ps)(f:∀sz b x y,a≠.appendC sz b x y):cY P op=some a:=by
 rcases R9 h with h|h
 . rcases aa4 h with⟨_,_,_,rfl⟩|⟨_,_,_,_,rfl⟩
   . exact absurd rfl (d _ _ _)
   . exact absurd rfl (f _ _ _ _)
 . grind
theorem F2{ops:Array Oper}{o:Oper}{g:Option (Nat×Bool)}(h:r9 ops o.guard=some g)(aj:g=none):o.guard=none:=by
 cases a:o.guard with
 |none=>rfl
 |some x=>
  grind[r9,bb]
theorem Ha{e:TypeId}{a:b9}(h:cY P (.alloc e)=some a)(h1:∀cs,a≠.alloc cs)(b:∀cs,a≠.allocA cs)(c:∀e e8,a≠.allocS e e8):False:=by
 grind[cY,a6]
theorem QQ{op:Op}{f:Nat}{args:List aL}(h:cY P op=some (.call f args)):∃c,op= .call c/\lL P c=some (.call f args):=by
 cases op with
 |call c=>exact⟨c,rfl,h⟩
 |alloc e=>exfalso;exact Ha h (by simp) (by simp) (by simp)
 |makeMap t r=>cases r<;>simp[cY]at h
 |lookup t x i c=>cases c<;>simp[cY,a6]at h
 |unOp a t x=>
  cases a<;>simp[cY]at h
  all_goals (repeat' split at h)<;>(first|(done)|simp at h)
 |makeFunc fn b c=>cases fn<;>simp[cY]at h
 |_=>
  simp only[cY]at h
  (repeat' split at h)<;>(first|(cases h)|simp[a6,bb]at h)
theorem Re{op:Op}{x:aL}{args:List aL}(h:cY P op=some (.callv x args)):∃c,op= .call c/\lL P c=some (.callv x args):=by
 cases op with
 |call c=>exact⟨c,rfl,h⟩
 |alloc e=>exfalso;exact Ha h (by simp) (by simp) (by simp)
 |makeMap t r=>cases r<;>simp[cY]at h
 |lookup t x i c=>cases c<;>simp[cY,a6]at h
 |unOp a t x=>
  cases a<;>simp[cY]at h
  all_goals (repeat' split at h)<;>(first|(done)|simp at h)
 |makeFunc fn b c=>cases fn<;>simp[cY]at h
 |_=>
  simp only[cY]at h
  (repeat' split at h)<;>(first|(cases h)|simp[a6,bb]at h)
theorem QR{c:Call}{f:Nat}{args:List aL}(h:lL P c=some (.call f args)):c.callee= .value (.func f)/\gS P f=true/\mG c.args.toList=some args:=by
 unfold lL at h
 (repeat' split at h)<;>simp[a6]at h
 grind
theorem Rf{c:Call}{x:aL}{args:List aL}(h:lL P c=some (.callv x args)):∃t,x= .tmp t/\c.callee= .value (.tmp t)/\mG c.args.toList=some args:=by
 unfold lL at h
 (repeat' split at h)<;>simp[a6]at h
 grind
theorem Vr{op:Op}{neg:Bool}{x:aL}(h:cY P op=some (.eqNil neg x)):
 ∃a t y z yt e,op= .binOp a t y z yt/\(a= .eql\/a= .neq)/\neg=(a== .neq)/\P.underlying t=some (.slice e)/\FZ z=true/\bn y=some x:=by
 cases op with
 |binOp a t y z yt=>
  simp[cY]at h
  (repeat' split at h)<;>(try (done))<;>simp[a6,bb,reduceCtorEq,pD]at h
  grind
 |call c=>
  simp[cY]at h;unfold lL at h
  (repeat' split at h)<;>(first|(done)|simp[a6]at h)
 |alloc e=>exfalso;exact Ha h (by simp) (by simp) (by simp)
 |makeMap t r=>cases r<;>simp[cY]at h
 |lookup t x i c=>cases c<;>simp[cY,a6]at h
 |unOp d t x=>
  cases d<;>simp[cY]at h
  all_goals (repeat' split at h)<;>(first|(cases h;done)|simp at h)
 |makeFunc fn b c=>cases fn<;>simp[cY]at h
 |_=>
  simp only[cY]at h
  (repeat' split at h)<;>(first|(cases h;done)|simp[a6,bb]at h)
theorem C8{o:Oper}{c:Call}(g:o.op= .call c){x:Operand}(d:c.callee= .value x){f:Nat}{caps:List Value}(i:a.eval x= .func (.func f) #[] caps.toArray)(b:gS P f=true):
 (execOp a.eval o).run P w= .ok (.enter f (c.args.toList.map a.eval++caps).toArray) w:=by
 have e:(c.args.map a.eval++caps.toArray)=(c.args.toList.map a.eval++caps).toArray:=by simp
 grind[execOp,Go.resolve,Deferred.ofValue,invoke,Xk]
theorem Calls.next {f:Nat}{args:Array Value}{key:Nat}{K:Env->aF->Prop}{dst:Option Nat}{Q:Exit->Act->World->Prop}{o:Oper}(x:dst=o.dst)(t:∀d,dst=some d->d<nt){g:Bool}(aj:g=true){K2:V->aF->Prop}
 (br:∀r s,K2 r s->K (dX env dst g r) s)
 (h:Calls P f args w λe w'=>∃v r c bH J',e= .returned v/\K2 r J'/\cd c w' bH r v/\r.aq (er n key)=true/\Rel ao nt c bH env J' (er n key) a w')
 (y:(execOp a.eval o).run P w= .ok (.enter f args) w):o.wp P a w (jC ao nt (er n key) K) Q:=by
 unfold Oper.wp;rw[y];refine h.mono ?_
 rintro e w' ⟨v,r,c,bH,J',rfl,h1,j,p,q⟩
 subst x;exact⟨c,bH,_,J',br _ _ h1,q.z6 t (λ_=>j) (λh=>by grind) (λ_=>p)⟩
theorem B1(R:Rel ao nt φ S env J n a w)(aA:∀b,key<=b->b<key+16->n b=false){ops:Array Oper}{o:Oper}{T:bL}(af:uH P nt ops o=some T){K:Env->aF->Prop}(h:fP P T key env J K){Q:Exit->Act->World->Prop}:
 if Region.wanted o (yielded ops a.tmps)then o.wp P a w (jC ao nt (er n key) K) Q else jC ao nt (er n key) K (a.put o.dst undef) w:=by
 obtain⟨h1,E,F,G⟩:=R0 af;unfold fP at h;split at h
 . grind
 . rename_i g aj;have aL:=To R E aj;rw[aL];have ar:∀{v:V} {s:aF},K (dX env T.dst g v) s->s=J->g=false->jC ao nt (er n key) K (a.put o.dst undef) w:=by
    intro v s br hs aG;subst hs;rw[<-F];exact⟨φ,S,_,_,br,(R.more λ_ h=>lN h).z6 G (λh=>by grind) (λ_=>rfl) (λh=>by grind)⟩
   rcases h with⟨aG,v,br⟩|h
   . grind
   split at h
   ·
    rename_i f args Y;rw[Y]at h1;have aB:∃c,o.op= .call c/\c.callee= .value (.func f)/\gS P f=true/\mG c.args.toList=some args:=by
     obtain⟨c,aT,af⟩:=QQ (xi h1 (by simp) (by simp) (by simp) (by simp))
     grind[QR]
    obtain⟨c,ad,ae,H,W⟩:=aB;split at h
    . rename_i p vs X;have ag:∀w':World,(execOp a.eval o).run P w= .ok (.enter f (c.args.toList.map a.eval).toArray) w:=by
       have:=C8 (P:=P) (w:=w) (a:=a) ad ae (f:=f) (caps:=[]) rfl H
       grind
      split at h
      . have I:g=true:=by grind[fB]
        subst I;obtain⟨k,u⟩:=h;obtain⟨D,O⟩:=qT R W X k;exact Calls.next F G rfl (λ_ _ h=>h) (u ao nt φ S env n a w R aA O _ D) (ag w)
      . rcases h with⟨I,k,u⟩|⟨r,u,br⟩
        . subst I;obtain⟨D,O⟩:=qT R W X k;exact Calls.next F G rfl (λ_ _ h=>h) (u ao nt φ S env n a w R aA O _ D) (ag w)
        cases L:g with
        |true=>
         obtain⟨k,u⟩:=u L;obtain⟨D,O⟩:=qT R W X k;refine Calls.next (K2:=λaq J'=>aq=r/\J'=J) F G L (λaq s aa=>?_) (u ao nt φ S env n a w R aA O _ D) (ag w)
         grind
        |false=>
         grind
    grind
   . rename_i x args Y;rw[Y]at h1;obtain⟨c,ad,af⟩:=Re (xi h1 (by simp) (by simp) (by simp) (by simp));obtain⟨t,rfl,ae,W⟩:=Rf af;split at h
     . rename_i q f caps p vs M X;obtain⟨A,H,aJ,k,u⟩:=h;have I:g=true:=by grind[fB]
       subst I;obtain⟨D,O⟩:=qT R W X k;have aM:=bT (x:= .tmp t) R rfl M aJ;have aN:=aM.1.dF;have aC:aQ (cd φ w S) (caps.map λb=>V.c (.ptr b 0)) (caps.map λb=>Value.pointer (some ⟨(φ b).1,0,none⟩)):=by
        refine aQ.kr (by simp) ?_;intro i v x h1 E;simp only[nY,bb]at h1 E;obtain⟨b,ax,rfl⟩:=h1;obtain⟨aS,al,rfl⟩:=E;rw[ax]at al;cases al;exact .c rfl
       have aD:V.aq.V.dI n (vs++caps.map λb=>V.c (.ptr b 0))=true:=by
        grind[sb,List.getElem?_append_left,ns,List.getElem?_append_right,bb,V.aq,C.aq,List.all_eq_true]
       exact Calls.next F G rfl (λ_ _ h=>h) (u ao nt φ S env n a w R aA aD _ (D.append aC)) (C8 ad ae aN H)
     grind
   . rename_i neg x Y;rw[Y]at h1;obtain⟨U,ty,y,z,yt,e,aI,az,rfl,am,an,ah⟩:=Vr (xi h1 (by simp) (by simp) (by simp) (by simp));have aP:∀(b:Bool) (j:Option Addr) (l c:Nat),a.eval y= .slice j l c->j.isNone=b->(execOp a.eval o).run P w= .ok (.value (.bool (if(U== .neq)then !b else b))) w:=by
      intro b j l c m H;subst H;obtain⟨ai,ap,aO⟩:∃ai:Value,a.eval z=ai/\ai= .slice none 0 0:=by
       unfold FZ at an;split at an
       . exact⟨_,rfl,rfl⟩
       grind
      subst aO;have au:(eqGuard U ty y z (a.eval y) (a.eval z)).run P w= .ok () w:=Gt (by grind) (by grind);have ak:(Op.equal ty (.slice j l c) (.slice none 0 0)).run P w= .ok j.isNone w:=by
       obtain⟨d,aE⟩:∃d,Op.maxDepth=d+1:=⟨9999,rfl⟩
       unfold Op.equal;rw[aE];unfold Op.equalIn;cases j with
       |none=>simp only[Sem.run_bind,run_underlying am,Result.andThen_ok];rfl
       |some j=>simp only[Sem.run_bind,run_underlying am,Result.andThen_ok];rfl
      have av:(binOp U ty (a.eval y) (a.eval z)).run P w= .ok (.bool (if(U== .neq)then !j.isNone else j.isNone)) w:=by
       rcases az with rfl|rfl
       . rw[m,ap];simp only[binOp,Sem.run_bind,ak];rfl
       . rw[m,ap];simp only[binOp,Sem.run_bind,ak];rfl
      simp[execOp,aI,au,av]
     have N:∀ (b:Bool) (j:Option Addr) (l c:Nat),o.guard = none->a.eval y = .slice j l c->j.isNone = b->K (dX env T.dst true (ma (if (U == .neq) then !b else b))) J->
      (if g=true then o.wp P a w (jC ao nt (er n key) K) Q else jC ao nt (er n key) K (a.put o.dst undef) w):=by
      intro b j l c A m H br;have I:g=true:=by
       have:Region.wanted o (yielded ops a.tmps)=true:=by simp[Region.wanted,A]
       grind
      rw[ab I];unfold Oper.wp;rw[aP b j l c m H];show jC ao nt (er n key) K (a.put o.dst _) w;rw[<-F];exact⟨φ,S,_,_,br,(R.more λ_ h=>lN h).z6 G (λ_=>.oi _) (λh=>by cases h) (λ_=>rfl)⟩
     split at h
     . rename_i p es M;obtain⟨A,k,br⟩:=h;obtain⟨j,cap,sz,b,off,f,m,_,_,_,B,_⟩:=b5.jw (bT R ah M k).1.dF;exact N j.isNone j _ _ (F2 E A) m rfl (br _ λh=>by rw[B h];rfl)
     . rename_i p M;obtain⟨A,k,br⟩:=h;obtain⟨j,m⟩:=(bT R ah M k).1.dF;exact N j.isNone j _ _ (F2 E A) m rfl (br _)
     . rename_i p b sz off l M;obtain⟨A,k,br⟩:=h;obtain⟨j,m,Z,aV⟩:=aX.fH (bT R ah M k).1.dF;exact N j.isNone j _ _ (F2 E A) m rfl (br _ λh=>by rw[Z (by omega)];rfl)
     . exact h.elim
   . rename_i ad ae aU;split at h
     . rename_i p v J' Z;obtain⟨k,B,br⟩:=h;cases L:g with
       |true=>
        simp only[cw];obtain⟨x,aR,bH,w',hres,aK,ay,R'⟩:=Zk R h1 aA Z (k L);have aw:(if T.op.neutral=true then J else J')=J':=by
         split
         . rename_i aH;exact(uB aH Z).symm
         . rfl
        rw[aw]at br;have N:jC ao nt (er n key) K (a.put o.dst x) w':=by
         rw[<-F];exact⟨aR,bH,_,_,br,R'.z6 G (λ_=>aK) (λh=>by rw[L]at h;cases h) (λ_=>ay)⟩
        unfold Oper.wp;rcases hres with hres|⟨hres,rfl⟩
        . rw[hres];exact N
        . rw[hres];exact N
       |false=>
        simp only[cN,cv];rcases B with B|B
        . rw[ab B]at br;exact ar br rfl L
        . rw[L]at B;cases B
     . exact h.elim
end
end
section
open Go
variable [da]
def lt(N:Nat):Nat->Bool:=λb=>decide (b<N)
theorem HH{N b:Nat}(h:er (lt N) N b=true):lt (N+16) b=true:=by
 grind[er,lt]
theorem C9{N b:Nat}(h:N<=b):lt N b=false:=by grind[lt]
theorem L5{N M b:Nat}(h:N<=M)(a:lt N b=true):lt M b=true:=by grind[lt]
section
variable {P:Program}{ao:Ctx}{nt kk:Nat}{φ:db}{S:dj}{env:Env}{J:aF}{N:Nat}{a:Act}{w:World}
theorem J0{ops:Array Oper}{Q:Exit->Act->World->Prop}{K:Env->aF->Nat->Prop}:∀{l:List Oper} {aP:List bL} {k N:Nat} {env:Env} {J:aF} {φ:db} {S:dj} {a:Act} {w:World},iY P nt ops l=some aP->(∀i:Nat,i<l.length->l[i]?=ops[k+i]?)->
 Rel ao nt φ S env J (lt N) a w->j4 P aP N env J (λe s=>K e s (N+16*aP.length))->(∀φ S e s N a w,K e s N->Rel ao nt φ S e s (lt N) a w->Q .normal a w)->wpOps P ops Q (List.range' k l.length) a w
 |[],aP,k,N,env,J,φ,S,a,w,c,hi,R,h,g=>by
  simp[iY]at c;subst c;exact g _ _ _ _ _ _ _ h R
 |o::l,aP,k,N,env,J,φ,S,a,w,c,hi,R,h,g=>by
  simp[iY,a6,bb]at c;obtain⟨n,j,d,m,rfl⟩:=c;have p:ops[k]?=some o:=by have:=hi 0 (by simp);grind
  rw[jv,AM,wpOps_cons];unfold wpOp;have hs:=B1 R (λb h1 _=>C9 h1) j (K:=λe s=>j4 P d (N+16) e s λe s=>K e s (N+16*(d.length+1))) (by grind[j4]) (Q:=Q)
  have next:∀f w',jC ao nt (er (lt N) N) (λe s=>j4 P d (N+16) e s λe s=>K e s (N+16*(d.length+1))) f w'->wpOps P ops Q (List.range' (k+1) l.length) f w':=by
   rintro f w' ⟨q,bH,e,s,br,R'⟩
   refine J0 m (λi aI=>?_) (R'.more λ_ h=>HH h) ?_ g
   . have:=hi (i+1) (by grind)
     grind
   grind
  split at hs
  . grind[Oper.wp_mono]
  grind
def TC(P:Program)(nt kk:Nat)(c:Code)(env:Env)(J:aF)(N:Nat)(Q:Exit->Env->aF->Nat->Prop):Prop:=
 ∀ao φ S a w,ao.k=kk->Rel ao nt φ S env J (lt N) a w->c.wp P (λe b w'=>∃d bH env' J' N',Q e env' J' N'/\Rel ao nt d bH env' J' (lt N') b w') a w
def bJ(P:Program)(nt kk:Nat)(c:di)(env:Env)(J:aF)(N:Nat)(Q:Exit->Env->aF->Nat->Prop):Prop:=
 ∀code,resolve P nt code=some c->TC P nt kk code env J N Q
variable {Q kG:Exit->Env->aF->Nat->Prop}
theorem bJ.mono{c:di}(h:bJ P nt kk c env J N Q)(o:∀e env J N,Q e env J N->kG e env J N):bJ P nt kk c env J N kG:=
 λcode g ao φ S a w j R=>wp_mono (h _ g ao φ S a w j R) λe a w ⟨p,bH,env',J',N',h1,f⟩=>⟨p,bH,env',J',N',o _ _ _ _ h1,f⟩
theorem bJ.skip(h:Q .normal env J N):bJ P nt kk .skip env J N Q:=by
 intro code c ao φ S a w e R;cases code<;>simp[resolve,a6]at c<;>(try (first|(cases c;done)|(obtain⟨l,_,c⟩:=c;(repeat' split at c)<;>cases c)))
 grind[wp_skip]
theorem bJ.ret(h:Q .ret env J N):bJ P nt kk .ret env J N Q:=by
 intro code c ao φ S a w e R;cases code<;>simp[resolve,a6]at c<;>(try (first|(cases c;done)|(obtain⟨l,_,c⟩:=c;(repeat' split at c)<;>cases c)))
 grind[wp_ret]
theorem bJ.exit{id:Nat}(h:Q (.exit id) env J N):bJ P nt kk (.exit id) env J N Q:=by
 intro code c ao φ S a w e R;cases code<;>simp[resolve,a6]at c<;>(try (first|(cases c;done)|(obtain⟨l,_,c⟩:=c;(repeat' split at c)<;>cases c)))
 grind[wp_exit]
def andThen(next:Env->aF->Nat->Prop)(Q:Exit->Env->aF->Nat->Prop):Exit->Env->aF->Nat->Prop
 |.normal,env,J,N=>next env J N
 |e,env,J,N=>Q e env J N
theorem XW{code:Code}{x y:di}(h:resolve P nt code=some (.seq x y)):∃a b,code= .seq a b/\resolve P nt a=some x/\resolve P nt b=some y:=by
 cases code with
 |seq a b=>
  simp[resolve,a6,bb]at h
  grind
 |region id ops c=>
  grind[resolve,a6]
 |_=>simp[resolve,a6,bb]at h
theorem Xl{code:Code}{c:aL}{x y:di}(h:resolve P nt code=some (.cond c x y)):∃o a b,code= .cond o a b/\bn o=some c/\resolve P nt a=some x/\resolve P nt b=some y:=by
 cases code with
 |cond o a b=>
  simp[resolve,a6,bb]at h
  grind
 |region id ops d=>
  grind[resolve,a6]
 |_=>simp[resolve,a6,bb]at h
theorem XC{code:Code}{id:Nat}{x:di}(h:resolve P nt code=some (.block id x)):∃b,code= .block id b/\resolve P nt b=some x:=by
 cases code with
 |block i b=>
  grind[resolve,bb]
 |region id ops a=>
  grind[resolve,a6]
 |_=>simp[resolve,a6]at h
theorem RQ{code:Code}{x:di}(h:resolve P nt code=some (.loop x)):∃b,code= .loop b/\resolve P nt b=some x:=by
 cases code with
 |loop b=>
  grind[resolve,bb]
 |region id ops a=>
  grind[resolve,a6]
 |_=>simp[resolve,a6]at h
theorem Sa{code:Code}{aP:List bL}(h:resolve P nt code=some (.region aP)):∃id ops,code= .region id ops false/\iY P nt ops ops.toList=some aP:=by
 cases code with
 |region id ops a=>
  grind[resolve,a6]
 |_=>grind[resolve,a6,bb]
theorem R1{code:Code}{aP:List bL}{dV:List (Nat×Nat)}(h:resolve P nt code=some (.jY aP dV)):
 ∃id ops,code= .region id ops true/\iY P nt ops ops.toList=some aP/\sN (fj ops aP)=true/\P.follows .mixedOrders=true/\dV=ru (fj ops aP):=by
 cases code with
 |region id ops a=>
  grind[resolve,a6]
 |_=>grind[resolve,a6,bb]
theorem bJ.seq{x y:di}(h:bJ P nt kk x env J N (andThen (λenv J N=>bJ P nt kk y env J N Q) Q)):bJ P nt kk (.seq x y) env J N Q:=by
 intro code j ao φ S a w c R;obtain⟨t,v,rfl,o,p⟩:=XW j;refine wp_seq (wp_mono (h _ o ao φ S a w c R) ?_)
 rintro e g w' ⟨q,bH,env',J',N',f,R'⟩
 cases e with
 |normal=>exact f _ p ao _ bH g w' c R'
 |_=>exact⟨q,bH,env',J',N',f,R'⟩
theorem bJ.cond{c:aL}{x y:di}{p:Prop}{b:Bool}(g:c.get env=some (p,ma b))(t:p)(v:b=true->bJ P nt kk x env J N Q)(B:b=false->bJ P nt kk y env J N Q):bJ P nt kk (.cond c x y) env J N Q:=by
 intro code j ao φ S a w e R;obtain⟨o,E,F,rfl,q,A,D⟩:=Xl j;have f:=(bT R q g t).1.iW;refine wp_cond f ?_;cases b with
 |true=>exact v rfl _ A ao φ S a w e R
 |false=>exact B rfl _ D ao φ S a w e R
def inBlock(id:Nat)(Q:Exit->Env->aF->Nat->Prop):Exit->Env->aF->Nat->Prop
 |.exit i,env,J,N=>if i=id then Q .normal env J N else Q (.exit i) env J N
 |e,env,J,N=>Q e env J N
theorem bJ.block{id:Nat}{x:di}(h:bJ P nt kk x env J N (inBlock id Q)):bJ P nt kk (.block id x) env J N Q:=by
 intro code f ao φ S a w g R;obtain⟨b,rfl,c⟩:=XC f;refine wp_block (wp_mono (h _ c ao φ S a w g R) ?_)
 rintro e p w' ⟨o,bH,env',J',N',j,R'⟩
 cases e with
 |exit i=>
  grind[inBlock,Exit.inBlock]
 |_=>exact⟨o,bH,env',J',N',j,R'⟩
theorem bJ.region{aP:List bL}(h:j4 P aP N env J (λe s=>Q .normal e s (N+16*aP.length))):bJ P nt kk (.region aP) env J N Q:=by
 intro code g ao φ S a w p R;obtain⟨id,ops,rfl,j⟩:=Sa g;refine wp_region ?_;have:=J0 (Q:=λe c w'=>∃o bH env' J' N',Q e env' J' N'/\Rel ao nt o bH env' J' (lt N') c w') (k:=0) j (λi hi=>by simp) R h
  (λφ S e s N a w br f=>⟨φ,S,e,s,N,br,f⟩)
 grind[List.range_eq_range']
def Hp(P:Program)(nt kk:Nat)(c:di)(Q:Exit->Env->aF->Nat->Prop):Nat->Env->aF->Nat->Prop
 |0,_,_,_=>False
 |m+1,env,J,N=>bJ P nt kk c env J N (andThen (Hp P nt kk c Q m) Q)
theorem bJ.af3{c:di}(m:Nat)(h:Hp P nt kk c Q m env J N):bJ P nt kk (.loop c) env J N Q:=by
 intro code o ao φ S a w p R;obtain⟨b,rfl,j⟩:=RQ o;refine wp_loop_rounds m ?_
 induction m generalizing env J N φ S a w with
 |zero=>exact h.elim
 |succ m ih=>
  refine wp_mono (h _ j ao φ S a w p R) ?_
  rintro e g w' ⟨q,bH,env',J',N',f,R'⟩
  cases e with
  |normal=>exact ih f _ bH g w' R'
  |_=>exact⟨q,bH,env',J',N',f,R'⟩
end
end
section
open Go
variable [da]
def pos:List Nat->Nat->Option Nat
 |[],_=>none
 |x::r,b=>if x=b then some 0 else(pos r b).map (· +1)
theorem nv:∀{bs:List Nat} {b i:Nat},pos bs b=some i->bs[i]?=some b
 |[],b,i,h=>by grind[pos]
 |x::r,b,i,h=>by
  unfold pos at h;split at h
  . grind
  . simp at h;obtain⟨j,a,rfl⟩:=h
    simpa using nv a
def po(bs:List Nat):List Nat->Option (List Nat)
 |[]=>some []
 |c::r=>match pos bs c,po bs r with
  |some i,some l=>some (i::l)
  |_,_=>none
def C.bG(bs:List Nat):C->C
 |.t x=>.t x
 |.ptr b o=>match pos bs b with|some i=>.ptr i o|none=>.dead
 |.cl b sz i o=>match pos bs b with|some j=>.cl j sz i o|none=>.dead
 |.dx ts o=>.dx ts o
 |.arr b sz off len=>match pos bs b with|some i=>.arr i sz off len|none=>.dead
 |.fq b sz off len=>match pos bs b with|some i=>.fq i sz off len|none=>.dead
 |.mp b=>match pos bs b with|some i=>.mp i|none=>.dead
 |.eh b=>match pos bs b with|some i=>.eh i|none=>.dead
 |.cr b len=>match pos bs b with|some i=>.cr i len|none=>.dead
 |.bC=>.bC
 |.eT=>.eT
 |.eS=>.eS
 |.fn f caps=>match po bs caps with|some l=>.fn f l|none=>.dead
 |.dead=>.dead
def V.bG(bs:List Nat):V->V
 |.c x=>.c (x.bG bs)
 |.agg cs=>.agg (cs.map (C.bG bs))
 |.aS vs=>.aS (go bs vs)
where go (bs:List Nat):List V->List V
 |[]=>[]
 |v::vs=>v.bG bs::go bs vs
def bp.bG(bs:List Nat):bp->bp
 |.box cs=>.box (cs.map (C.bG bs))
 |.arr sz es=>.arr sz es
 |.set ks=>.set ks
 |.buf E s=>.buf E s
 |.bX E c=>.bX E (c.bG bs)
 |.cu sz es i o c=>.cu sz es i o (c.bG bs)
 |.vec sz cs=>.vec sz (cs.map (C.bG bs))
def mn(bs:List Nat)(env:Env):List Nat->Env
 |[]=>[]
 |k::ks=>match look env k with
  |some (g,v)=>(k,g,v.bG bs)::mn bs env ks
  |none=>mn bs env ks
def eO(bs:List Nat)(J:aF):Nat->List Nat->aF
 |_,[]=>[]
 |i,b::r=>match aJ J b with
  |some x=>(i,x.bG bs)::eO bs J (i+1) r
  |none=>eO bs J (i+1) r
def keeps(k:Nat)(bs:List Nat):Bool:=(List.range k).all λi=>bs[i]?==some i
section
variable {P:Program}{ao:Ctx}{nt kk:Nat}{φ:db}{S:dj}{env:Env}{J:aF}{N:Nat}{n:Nat->Bool}{a:Act}{w:World}
theorem F3:∀{bs caps l:List Nat},po bs caps=some l->caps.length=l.length/\∀(i b j:Nat),caps[i]?=some b->l[i]?=some j->bs[j]?=some b
 |bs,[],l,h=>by grind[po]
 |bs,c::r,l,h=>by
  unfold po at h;split at h
  . rename_i j e d ad;obtain⟨h1,a⟩:=F3 ad
    grind[nv]
  grind
theorem aX.bG{g:db}{bs:List Nat}(q:∀(i:Nat) b,bs[i]?=some b->g i=φ b){c:C}{v:Value}(h:aX φ w S c v):aX g w S (c.bG bs) v:=by
 have p:=aX.iQ h;cases c with
 |ptr b o=>
  grind[C.bG,aX,nv]
 |cl b sz i o=>
  grind[C.bG,aX,nv]
 |arr b sz off len=>
  grind[C.bG,aX,nv]
 |fq b sz off len=>
  grind[C.bG,aX,nv]
 |mp b=>
  grind[C.bG,aX,nv]
 |eh b=>
  grind[C.bG,aX,nv]
 |cr b len=>
  grind[C.bG,aX,nv]
 |fn f caps=>
  simp[C.bG];split
  . rename_i l ad;obtain⟨h1,j⟩:=F3 ad;rw[h]
    congr 2
    apply List.ext_getElem (by grind);intro i a e;simp at a e;simp;rw[q _ _ (j i _ _ (eu a) (eu e))]
  . exact p
 |_=>exact h
theorem B2{bs:List Nat}:∀{vs:List V} {i:Nat},(V.bG.go bs vs)[i]?=(vs[i]?).map (V.bG bs)
 |[],i=>by rfl
 |v::vs,0=>by rfl
 |v::vs,i+1=>by simp[V.bG.go,B2]
theorem Br{bs:List Nat}:∀{vs:List V},(V.bG.go bs vs).length=vs.length
 |[]=>rfl
 |v::vs=>by simp[V.bG.go,Br]
theorem cd.bG{e:db}{bs:List Nat}(a:∀(i:Nat) b,bs[i]?=some b->e i=φ b){v:V}{x:Value}(h:cd φ w S v x):cd e w S (v.bG bs) x:=by
 induction h with
 |c h=>exact .c (aX.bG a h)
 |agg h=>exact .agg (h.k8 λ_ _=>aX.bG a)
 |aS vs xs ad h ih=>
  refine .aS _ xs (by grind[Br]) ?_
  grind[B2]
theorem sO{bs:List Nat}{b i:Nat}(h:pos bs b=some i):i<bs.length:=(dO.1 (nv h)).1
theorem C.ir{bs:List Nat}(c:C):(c.bG bs).aq (lt bs.length)=true:=by
 cases c with
 |ptr b o=>grind[C.bG,C.aq,lt,sO]
 |cl b sz i o=>grind[C.bG,C.aq,lt,sO]
 |arr b sz off len=>grind[C.bG,C.aq,lt,sO]
 |fq b sz off len=>grind[C.bG,C.aq,lt,sO]
 |mp b=>grind[C.bG,C.aq,lt,sO]
 |eh b=>grind[C.bG,C.aq,lt,sO]
 |cr b len=>grind[C.bG,C.aq,lt,sO]
 |fn f caps=>
  simp[C.bG];split
  . rename_i l ad;obtain⟨h1,a⟩:=F3 ad;simp[C.aq,lt];intro j e;obtain⟨i,hi,rfl⟩:=jd e;exact(dO.1 (a i _ _ (eu (by omega)) (eu hi))).1
  rfl
 |_=>rfl
theorem V.ir{bs:List Nat}:∀(v:V),(v.bG bs).aq (lt bs.length)=true
 |.c x=>by grind[V.bG,V.aq,C.ir]
 |.agg cs=>by grind[V.bG,V.aq,C.ir]
 |.aS vs=>by exact go vs
where go:∀vs,V.aq.V.dI _ (V.bG.go bs vs)=true
 |[]=>rfl
 |v::vs=>by simp[V.bG.go,V.aq.V.dI,cH];exact⟨V.ir v,go vs⟩
theorem xZ{bs:List Nat}:∀{ks:List Nat} {k:Nat} {g:Bool} {v:V},look (mn bs env ks) k=some (g,v)->∃v0,look env k=some (g,v0)/\v=v0.bG bs
 |[],k,g,v,h=>by grind[mn,look]
 |x::ks,k,g,v,h=>by
  unfold mn at h;split at h
  . unfold look at h;split at h
    . grind
    . exact xZ h
  . exact xZ h
theorem nr{bs:List Nat}:∀{r:List Nat} {i:Nat} {b:Nat} {x:bp},aJ (eO bs J i r) b=some x->∃j c g,b=i+j/\r[j]?=some c/\aJ J c=some g/\x=g.bG bs
 |[],i,b,x,h=>by grind[eO,aJ]
 |c::r,i,b,x,h=>by
  unfold eO at h;split at h
  . unfold aJ at h;split at h
    . simp_all
    . obtain⟨j,a,f,h1,k,d,e⟩:=nr h;exact⟨j+1,a,f,by omega,by grind,d,e⟩
  . obtain⟨j,a,f,h1,k,d,e⟩:=nr h;exact⟨j+1,a,f,by omega,by grind,d,e⟩
theorem cD.bG{g:db}{bs:List Nat}(a:∀(i:Nat) b,bs[i]?=some b->g i=φ b){i b:Nat}(hi:bs[i]?=some b){x:bp}(h:cD φ w S b x):cD g w S i (x.bG bs):=by
 cases x with
 |box cs=>
  obtain⟨h0,vs,E,h1,e,f⟩:=h;simp only[cD,a i b hi];exact⟨h0,vs,E,h1,e.k8 λ_ _=>aX.bG a,f⟩
 |vec sz cs=>
  obtain⟨h0,vs,E,h1,⟨e,j⟩,f⟩:=h;simp only[bp.bG,cD,a i b hi,kn];exact⟨h0,vs,E,h1,⟨e.k8 λ_ _=>aX.bG a,j⟩,f⟩
 |arr sz es=>simp only[cD,a i b hi];exact h
 |set ks=>simp only[cD,a i b hi];exact h
 |buf E s=>grind[bp.bG,cD]
 |bX E c=>
  grind[bp.bG,cD,aX.bG]
 |cu sz es i o c=>
  grind[bp.bG,cD,aX.bG]
theorem Rel.tidy(R:Rel ao nt φ S env J (lt N) a w)(ks bs:List Nat)(bR:bs.Nodup)(P:keeps ao.k bs=true):
 ∃M,Rel ao nt M S (mn bs env ks) (eO bs J 0 bs) (lt bs.length) a w:=by
 have K:∀(i:Nat) b,bs[i]?=some b->(λi=>φ ((bs[i]?).getD 0)) i=φ b:=by grind
 have G:∀i:Nat,i<ao.k->bs[i]?=some i:=by
  simp_all[keeps,dW,List.mem_range,gX]
 refine⟨λi=>φ ((bs[i]?).getD 0),⟨⟨λb x e=>?_,λb O x y e H Q h0 A=>?_,R.bm.st⟩,λk g v ad aj=>?_,λk g v ad aj=>?_,λk g v ad aj=>?_,λb x e=>?_,R.size,R.defers,R.ext,λb x e h0=>?_,λb t=>?_,λb t=>?_⟩⟩
 . obtain⟨j,c,f,rfl,p,q,rfl⟩:=nr e;rw[fp];exact cD.bG K p (R.bm.blk c f q)
 . obtain⟨j,c,f,rfl,p,q,rfl⟩:=nr e;obtain⟨W,B,L,rfl,D,F,rfl⟩:=nr H;simp only[fp,p,D]at h0 A⊢;refine R.bm.inj c B f L q F ?_ h0 A
   grind[List.getElem?_eq_some_iff,List.pairwise_iff_getElem,Nat.lt_trichotomy]
 . obtain⟨v0,h1,rfl⟩:=xZ ad;obtain⟨x,e,U⟩:=R.fT k g v0 h1 aj
   grind[cd.bG]
 . obtain⟨v0,h1,rfl⟩:=xZ ad;exact R.gJ k g v0 h1 aj
 . grind[xZ,V.ir]
 . obtain⟨j,c,f,rfl,p,q,rfl⟩:=nr e;refine⟨by grind[lt,List.getElem?_eq_some_iff],?_⟩;cases f with
   |box cs=>grind[bp.bG,bp.aq,List.all_map,List.all_eq_true,C.ir]
   |vec sz cs=>grind[bp.bG,bp.aq,List.all_map,List.all_eq_true,C.ir]
   |arr sz es=>rfl
   |set ks=>rfl
   |buf E s=>rfl
   |bX E c=>exact C.ir c
   |cu sz es i o c=>exact C.ir c
 . obtain⟨j,c,f,rfl,p,q,rfl⟩:=nr e;simp only[fp,p]at h0⊢;exact R.own c f q h0
 . simp only[G b t,AN];exact R.fix b t
 . simp only[lt,hq];grind
theorem bJ.tidy{c:di}{Q:Exit->Env->aF->Nat->Prop}(ks bs:List Nat)(bR:bs.Nodup)(f:keeps kk bs=true)(h:bJ P nt kk c (mn bs env ks) (eO bs J 0 bs) bs.length Q):bJ P nt kk c env J N Q:=by
 intro code e ao φ S a w g R;subst g;obtain⟨j,R'⟩:=R.tidy ks bs bR f;exact h _ e ao _ S a w rfl R'
end
end
section
open Go
variable [da]
section
variable {P:Program}{ao:Ctx}{nt kk:Nat}{φ:db}{S:dj}{env:Env}{J:aF}{N:Nat}{n:Nat->Bool}{a:Act}{w:World}
theorem bJ.freeze{c:di}{Q:Exit->Env->aF->Nat->Prop}(b0:Nat){sz0:Nat}{es:List (List T)}(e:aJ J b0=some (.arr sz0 es))(h:bJ P nt kk c (nB b0 sz0 es env) (k6 b0 sz0 es J) N Q):bJ P nt kk c env J N Q:=by
 intro code f ao φ S a w g R;exact h _ f ao φ _ a w g (R.freeze e)
inductive fZ where
 |tmp (t:Nat)
 |cell (t:Nat)(agg:Bool)(n:Nat)
def hD(P:Program):List ResultVar->Option (List fZ)
 |[]=>some []
 |.tmp t::r=>(hD P r).map (.tmp t::·)
 |.cell a ty::r=>(nz P ty).bind λg=>(hD P r).map (.cell a g.1 g.2::·)
def nC(env:Env)(J:aF):fZ->Option (Prop×V)
 |.tmp t=>(look env t).map λx=>(x.1=true,x.2)
 |.cell t g k=>match look env t with
  |some (a,.c (.ptr b o))=>match aJ J b with
   |some (.box cs)=>(hp g k cs o).map λv=>(a=true,v)
   |_=>none
  |_=>none
def mu(env:Env)(J:aF):List fZ->Option (Prop×List V)
 |[]=>some (True,[])
 |r::a=>(nC env J r).bind λx=>(mu env J a).map λy=>(x.1/\y.1,x.2::y.2)
def kv:List V->V
 |[v]=>v
 |vs=>.aS vs
def dG(P:Program)(f:Nat)(args:List V)(J:aF)(k:Nat)(Q:V->aF->Nat->Prop):Prop:=
 ∀(φ:db) (S:dj) (w:World) (B:Nat->Prop),pW φ w S J->(∀(b:Nat) x,aJ J b=some x->b<k/\x.aq (lt k)=true)->(∀(b:Nat) x,aJ J b=some x->(φ b).2≠0->B (φ b).1)->pV w B S->
  V.aq.V.dI (lt k) args=true->∀vs:List Value,aQ (cd φ w S) args vs->
  Calls P f vs.toArray w λe w'=>∃v r a bH J' N',e= .returned v/\Q r J' N'/\cd a w' bH r v/\r.aq (lt N')=true/\pW a w' bH J'/\(∀(b:Nat) x,aJ J' b=some x->b<N'/\x.aq (lt N')=true)/\Ext B S bH w w'/\
   (∀(b:Nat) x,aJ J' b=some x->(a b).2≠0->B (a b).1\/w.heap.size<=(a b).1)/\∀b,b<k->a b=φ b
theorem Ext.refl{B:Nat->Prop}:Ext B S S w w:=⟨rfl,rfl,rfl,eJ _,λ_ _ _=>rfl,fw.refl _ _,λ_ _ h=>.inl h⟩
def fD:Nat->List V->Env
 |_,[]=>[]
 |i,v::vs=>(i,true,v)::fD (i+1) vs
theorem Cc:∀{vs:List V} {i k:Nat} {g:Bool} {v:V},look (fD i vs) k=some (g,v)->g=true/\∃j,k=i+j/\vs[j]?=some v
 |[],i,k,g,v,h=>by grind[fD,look]
 |x::vs,i,k,g,v,h=>by
  simp[fD,look]at h;split at h
  . simp_all
  . obtain⟨h1,j,a,b⟩:=Cc h;exact⟨h1,j+1,by omega,by grind⟩
def zp(a:Act):ResultVar->Sem Value
 |.tmp t=>Pure.pure (a.tmps.getD t undef)
 |.cell b ty=>do loadVar ty (<-asAddr (a.tmps.getD b undef))
theorem Zl(fn:Func)(a:Act):results fn a.tmps=(fn.results.mapM (zp a)>>=λvs=>Pure.pure (if h:vs.size=1 then vs[0]else .tuple vs)):=by rfl
theorem W1(R:Rel ao nt φ S env J n a w){f:ResultVar}{i:fZ}(c:hD P [f]=some [i]){p:Prop}{v:V}(h:nC env J i=some (p,v))(d:p):
 ∃x,(zp a f).run P w= .ok x w/\cd φ w S v x/\v.aq n=true:=by
 cases f with
 |tmp t=>
  simp[hD]at c;subst c;simp only[nC,bb]at h;obtain⟨⟨g,v0⟩,ad,rfl,rfl⟩:=h;obtain⟨x,m,e⟩:=R.fT t g v0 ad d;refine⟨x,?_,e,R.fS t g v0 ad d⟩;simp[zp,m]
 |cell q ty=>
  simp only[hD,a6,bb]at c;obtain⟨g,aj,l,ad,he⟩:=c;simp at ad;subst ad;simp at he;subst he;simp[nC]at h;split at h
  . rename_i r b o ad;split at h
    . rename_i cs k;simp only[bb]at h;obtain⟨v0,u,rfl,rfl⟩:=h;obtain⟨x,m,e⟩:=R.fT q r _ ad d;have:=e.hx;obtain⟨_,vs,E,aa,s,_⟩:=R.bm.blk _ _ k;obtain⟨y,A,h1,z⟩:=oV aj s (R.dp _ _ k).2 (λj _=>by rw[hV aa,fp]) u;simp_all[zp,asAddr]
    grind
  grind
theorem RR(R:Rel ao nt φ S env J n a w):∀{c:List ResultVar} {b:List fZ} {p:Prop} {vs:List V},hD P c=some b->mu env J b=some (p,vs)->p->
 ∃xs:List Value,(c.mapM (zp a)).run P w= .ok xs w/\aQ (cd φ w S) vs xs/\V.aq.V.dI n vs=true
 |[],b,p,vs,g,h,f=>by
  simp[hD]at g;subst g;obtain⟨_,rfl⟩:=h;exact⟨[],by rfl,.nil,rfl⟩
 |i::c,b,p,vs,g,h,f=>by
  have m:∃d e,b=d::e/\hD P [i]=some [d]/\hD P c=some e:=by
   cases i with
   |tmp t=>
    grind[hD,bb]
   |cell s ty=>
    grind[hD,a6,bb]
  obtain⟨d,e,rfl,h1,j⟩:=m;simp only[mu,a6,bb]at h;obtain⟨⟨q,v⟩,k,⟨B,C⟩,l,he⟩:=h;obtain⟨rfl,rfl⟩:=he;obtain⟨x,z,o,u⟩:=W1 R h1 k f.1;obtain⟨xs,A,r,y⟩:=RR R j l f.2;refine⟨x::xs,?_,.cons o r,by grind[V.aq.V.dI]⟩;simp_all
theorem cd.kv{vs:List V}{xs:List Value}(h:aQ (cd φ w S) vs xs):cd φ w S (kv vs) (if h:xs.toArray.size=1 then xs.toArray[0]else .tuple xs.toArray):=by
 cases h with
 |nil=>exact .aS [] [] rfl (by simp)
 |cons h1 a=>
  cases a with
  |nil=>grind[Shv.kv]
  |cons a c=>
   refine .aS _ _ (by simp[c.length]) ?_;intro i v x e f;have:=(aQ.cons h1 (.cons a c)).get e
   grind
theorem abA{vs:List V}(h:V.aq.V.dI n vs=true):(kv vs).aq n=true:=by
 unfold kv
 grind[V.aq.V.dI,V.aq]
def Dy(a:List fZ)(Q:V->aF->Nat->Prop):Exit->Env->aF->Nat->Prop
 |.normal,env,J,N=>∃p vs,mu env J a=some (p,vs)/\p/\Q (kv vs) J N
 |.ret,env,J,N=>∃p vs,mu env J a=some (p,vs)/\p/\Q (kv vs) J N
 |_,_,_,_=>False
theorem dG.Ev {f:Nat}{fn:Func}{code:Code}{c:di}{D:List fZ}(Y:P.funcs[f]?=some fn)(K:fn.body=some code)(X:resolve P fn.ntmps code=some c)(L:hD P fn.results.toList=some D)
 {args:List V}(aA:args.length<=fn.ntmps){k:Nat}{Q:V->aF->Nat->Prop}(h:bJ P fn.ntmps k c (fD 0 args) J k (Dy D Q)):dG P f args J k Q:=by
 intro φ S w B ao aP am U aI vs M;have ad:=M.length;refine calls_of_wp Y K ?_;have R:Rel ⟨w,S,B,φ,k,U⟩ fn.ntmps φ S (fD 0 args) J (lt k) {tmps:=vs.toArray++Array.replicate (fn.ntmps-vs.toArray.size) undef,defers:=[]} w:=by
  refine⟨ao,λi g v E aj=>?_,λi g v E aj=>?_,λi g v E aj=>?_,λb x q=>?_,?_,rfl,Ext.refl,λb x q h0=>.inl (am b x q h0),λ_ _=>rfl,λb K=>by grind[lt]⟩
  . obtain⟨_,j,rfl,Z⟩:=Cc E;obtain⟨x,q,L⟩:=M.get Z
    grind
  . grind[Cc]
  . grind[Cc,ns]
  . grind[lt]
  grind
 refine wp_mono (h _ X _ φ S _ w rfl R) ?_
 rintro e F w' ⟨ax,bH,env',J',N',a,R'⟩
 have G:(∃ p vs,mu env' J' D = some (p,vs)/\p/\Q (kv vs) J' N')->F.defers = []/\∃ v,(results fn F.tmps).run P w' = .ok v w'/\(∃ N r o A t y,Ending.returned v = .returned N/\Q r t y/\cd o w' A r N/\r.aq (lt y) = true/\pW o w' A t/\(∀ (b:Nat) x,aJ t b = some x->b<y/\x.aq (lt y) = true)/\Ext B S A w w'/\
  (∀(b:Nat) x,aJ t b=some x->(o b).2≠0->B (o b).1\/w.heap.size<=(o b).1)/\∀b,b<k->o b=φ b):=by
  rintro ⟨p,ap,h1,H,O⟩
  obtain⟨xs,a0,an,W⟩:=RR R' L h1 H;refine⟨R'.defers,_,?_,_,kv ap,ax,bH,J',N',rfl,O,cd.kv an,abA W,R'.bm,λb x q=>?_,R'.ext,R'.own,R'.fix⟩
  . simp_all[Array.mapM_eq_mapM_toList,Zl]
  . obtain⟨h1,H⟩:=R'.dp b x q
    grind[lt]
 cases e with
 |normal=>exact G a
 |ret=>exact G a
 |exit id=>exact a.elim
 |goto l=>exact a.elim
 |panic aG=>exact a.elim
 |outgrown=>exact a.elim
end
end
end Go.Proofs.YtfcnkdegapjgnaaGreatDoor.Shv
namespace Go.Proofs.YtfcnkdegapjgnaaGreatDoor.Shv
set_option linter.all false
open Go
variable [da]
def C.bu(k:Nat):C->C
 |.ptr b o=>.ptr (k+b) o
 |.cl b sz i o=>.cl (k+b) sz i o
 |.arr b sz off len=>.arr (k+b) sz off len
 |.fq b sz off len=>.fq (k+b) sz off len
 |.mp b=>.mp (k+b)
 |.eh b=>.eh (k+b)
 |.cr b len=>.cr (k+b) len
 |.fn f caps=>.fn f (caps.map (k+·))
 |c=>c
def V.bu(k:Nat):V->V
 |.c x=>.c (x.bu k)
 |.agg cs=>.agg (cs.map (C.bu k))
 |.aS vs=>.aS (go k vs)
where go (k:Nat):List V->List V
 |[]=>[]
 |v::vs=>v.bu k::go k vs
def bp.bu(k:Nat):bp->bp
 |.box cs=>.box (cs.map (C.bu k))
 |.arr sz es=>.arr sz es
 |.set ks=>.set ks
 |.buf E s=>.buf E s
 |.bX E c=>.bX E (c.bu k)
 |.cu sz es i o c=>.cu sz es i o (c.bu k)
 |.vec sz cs=>.vec sz (cs.map (C.bu k))
def l9(J:aF)(k:Nat):aF->aF
 |[]=>J
 |(b,x)::r=>cn (l9 J k r) (k+b) (x.bu k)
theorem yD{J:aF}{k:Nat}:∀{a:aF} {b:Nat},aJ (l9 J k a) b=match (if k<=b then aJ a (b-k)else none)with|some x=>some (x.bu k)|none=>aJ J b
 |[],b=>by simp[l9,aJ]
 |(c,x)::r,b=>by
  simp[l9,cE,yD,aJ]
  grind
section
variable {P:Program}{ao:Ctx}{nt kk:Nat}{φ:db}{S bH:dj}{env:Env}{J:aF}{N key:Nat}{n:Nat->Bool}{a:Act}{w w':World}
theorem gp.P9{f:Nat}{args:List V}{r:V}(h:dG P f args [] 0 (λg _ _=>g=r))(p:V.aq.V.dI (lt 0) args=true)(j:r.aq (lt 0)=true){K:V->aF->Prop}(br:K r J):gp P f args J key K:=by
 intro ao nt φ S env n a w R aA F vs q;refine(h φ S w (λ_=>False) ⟨λb x c=>by grind[aJ],λb t x y c=>by grind[aJ],R.bm.st⟩ (λb x c=>by grind[aJ]) (λb x c=>by grind[aJ]) (R.Ax λ_ h=>h.elim) p vs q).mono ?_
 rintro e w' ⟨v,g,G,bH,J',N',rfl,rfl,h1,A,o,B,bf,D,E⟩
 refine⟨v,g,φ,bH,J,rfl,br,?_,V.gH (λb h=>by grind[lt]) j,(R.extend bf o.st).more λ_ h=>lN h⟩;exact cd.mono (fw.refl _ _) (λb h=>by grind[lt]) j h1
theorem aX.bu{a:db}{k:Nat}{n:Nat->Bool}(g:∀b,n b=true->a (k+b)=φ b){c:C}{v:Value}(e:c.aq n=true)(h:aX φ w S c v):aX a w S (c.bu k) v:=by
 cases c with
 |ptr b o=>grind[C.aq,C.bu,aX]
 |cl b sz i o=>grind[C.aq,C.bu,aX]
 |arr b sz off len=>grind[C.aq,C.bu,aX]
 |fq b sz off len=>grind[C.aq,C.bu,aX]
 |mp b=>grind[C.aq,C.bu,aX]
 |eh b=>grind[C.aq,C.bu,aX]
 |cr b len=>grind[C.aq,C.bu,aX]
 |fn f caps=>
  simp_all[C.aq,C.bu,aX]
 |_=>exact h
theorem J3{k:Nat}:∀{vs:List V} {i:Nat},(V.bu.go k vs)[i]?=(vs[i]?).map (V.bu k)
 |[],i=>by rfl
 |v::vs,0=>by rfl
 |v::vs,i+1=>by simp[V.bu.go,J3]
theorem RS{k:Nat}:∀{vs:List V},(V.bu.go k vs).length=vs.length
 |[]=>rfl
 |v::vs=>by simp[V.bu.go,RS]
theorem cd.bu{f:db}{k:Nat}{n:Nat->Bool}(e:∀b,n b=true->f (k+b)=φ b){v:V}{x:Value}(a:v.aq n=true)(h:cd φ w S v x):cd f w S (v.bu k) x:=by
 induction h with
 |c h=>exact .c (aX.bu e (by grind[V.aq]) h)
 | @agg cs vs h=>
  simp[V.aq]at a;refine .agg ?_;have:=h.imp λc v g j=>aX.bu e (a c g) j
  exact this.k8 λ_ _ h=>h
 |aS vs xs ad h ih=>
  refine .aS _ xs (by grind[RS]) ?_
  grind[J3,ns,V.aq]
theorem C.pN{m:Nat}(a:m<=16){c:C}(h:c.aq (lt m)=true):(c.bu key).aq (er n key)=true:=by
 cases c<;>simp[C.bu,C.aq,lt,er]at h⊢
 all_goals grind
theorem V.pN{m:Nat}(a:m<=16):∀{v:V},v.aq (lt m)=true->(v.bu key).aq (er n key)=true
 |.c x,h=>by grind[V.bu,V.aq,C.pN]
 |.agg cs,h=>by grind[V.bu,V.aq,C.pN]
 |.aS vs,h=>by exact go vs h
where go:∀vs,V.aq.V.dI (lt m) vs=true->V.aq.V.dI _ (V.bu.go _ vs)=true
 |[],_=>rfl
 |v::vs,h=>by simp[V.bu.go,V.aq.V.dI,cH]at h⊢;exact⟨V.pN a h.1,go vs h.2⟩
theorem gp.aga {f:Nat}{args:List V}{Q:V->aF->Nat->Prop}(h:dG P f args [] 0 Q)(G:V.aq.V.dI (lt 0) args=true){K:V->aF->Prop}
 (br:∀r J' N',Q r J' N'->N'<=16/\K (r.bu key) (l9 J key J')):gp P f args J key K:=by
 intro ao nt φ S env n a w R aA bg vs a4;refine(h φ S w (λ_=>False) ⟨λb x j=>by grind[aJ],λb N x y j=>by grind[aJ],R.bm.st⟩ (λb x j=>by grind[aJ]) (λb x j=>by grind[aJ]) (R.Ax λ_ h=>h.elim) G vs a4).mono ?_
 rintro e w' ⟨v,a5,aP,bH,J',N',rfl,a2,h1,ax,U,W,bf,a9,be⟩
 obtain⟨cm,br⟩:=br _ _ _ a2;have a0:=R.extend bf U.st
 let D:db:=λb=>if key<=b/\b<key+16 then aP (b-key)else φ b
 have aI:∀b,n b=true->D b=φ b:=by grind
 have B:∀b,lt N' b=true->D (key+b)=aP b:=by
  intro b G;simp only[lt,hq]at G
  grind
 have A:=a0.zb aI;have L:∀b x,aJ (l9 J key J') b=some x->(∃c t,b=key+c/\aJ J' c=some t/\x=t.bu key)\/aJ J b=some x:=by
  grind[yD]
 have am:∀c t,aJ J' c=some t->(D (key+c)).2≠0->w.heap.size<=(D (key+c)).1:=by grind
 have aG:∀b x,aJ J b=some x->(D b).2≠0->(D b).1<w.heap.size:=by
  intro b x j h0;rw[aI b (R.dp b x j).1]at h0⊢;exact(R.bm.blk b x j).h7 h0
 refine⟨v,a5.bu key,D,bH,l9 J key J',rfl,br,cd.bu B ax h1,V.pN cm ax,⟨⟨λb x j=>?_,λb N x y j Y a3 h0 F=>?_,U.st⟩,A.fT,A.gJ,λk g v ad aj=>V.gH (λ_ h=>lN h) (A.fS k g v ad aj),λb x j=>?_,A.size,A.defers,A.ext,λb x j h0=>?_,A.fix,λb G=>lN (A.fV b G)⟩⟩
 . rcases L b x j with⟨c,t,rfl,q,rfl⟩|j
   . have cA:=U.blk c t q;have X:=W c t q;have az:=B c (by grind[lt]);cases t with
     |box cs=>
      obtain⟨M,vs,E,aZ,ba,bE⟩:=cA;simp only[bp.bu,cD,az];refine⟨M,vs,E,aZ,?_,bE⟩;have H:=X.2;simp only[bp.aq,dW]at H;have:=ba.imp λc v q an=>aX.bu B (H c q) an
      exact this.k8 λ_ _ h=>h
     |vec sz cs=>
      obtain⟨M,vs,E,aZ,⟨ba,bU⟩,bE⟩:=cA;simp only[bp.bu,cD,az,kn];refine⟨M,vs,E,aZ,⟨?_,bU⟩,bE⟩;have H:=X.2;simp only[bp.aq,dW]at H;have:=ba.imp λc v q an=>aX.bu B (H c q) an
      exact this.k8 λ_ _ h=>h
     |arr sz es=>simp only[bp.bu,cD,az];exact cA
     |set ks=>simp only[bp.bu,cD,az];exact cA
     |buf E s=>simp only[bp.bu,cD,az];exact cA
     |bX E c=>
      obtain⟨M,⟨p,v,aZ,ba,bE⟩,bU⟩:=cA;simp only[bp.bu,cD,az];exact⟨M,⟨p,v,aZ,ba,aX.bu B (by simpa[bp.aq]using X.2) bE⟩,bU⟩
     |cu sz es i o c=>
      obtain⟨h1,⟨vs,E,aZ,ba,bE,v,bU,cL⟩,cM⟩:=cA;simp only[bp.bu,cD,az];exact⟨h1,⟨vs,E,aZ,ba,bE,v,bU,aX.bu B (by simpa[bp.aq]using X.2) cL⟩,cM⟩
   . exact A.bm.blk b x j
 . rcases L b x j with⟨c,t,rfl,q,rfl⟩|j<;>rcases L N y Y with⟨O,ap,rfl,Z,rfl⟩|Y
   . have az:=B c (by simp[lt];exact(W c t q).1);have a1:=B O (by simp[lt];exact(W O ap Z).1);rw[az]at h0⊢;rw[a1]at F⊢;exact U.inj c O t ap q Z (by omega) h0 F
   . have:=am c t q h0;have:=aG N y Y F;omega
   . have:=am O ap Z F;have:=aG b x j h0;omega
   . exact A.bm.inj b N x y j Y a3 h0 F
 . rcases L b x j with⟨c,t,rfl,q,rfl⟩|j
   . obtain⟨aZ,ba⟩:=W c t q;refine⟨by simp[er];right;omega,?_⟩;cases t with
     |box cs=>
      simp only[bp.bu,bp.aq,AU,dW]at ba⊢;intro c q;exact C.pN cm (ba c q)
     |vec sz cs=>
      simp only[bp.bu,bp.aq,AU,dW]at ba⊢;intro c q;exact C.pN cm (ba c q)
     |arr sz es=>rfl
     |set ks=>rfl
     |buf E s=>rfl
     |bX E c=>exact C.pN cm ba
     |cu sz es i o c=>simp only[bp.bu,bp.aq]at ba⊢;exact C.pN cm ba
   . obtain⟨aZ,ba⟩:=A.dp b x j;exact⟨lN aZ,bp.gH (λ_ h=>lN h) ba⟩
 . rcases L b x j with⟨c,t,rfl,q,rfl⟩|j
   . exact .inr (iO R.ext.size (am c t q h0))
   . exact A.own b x j h0
end
end Go.Proofs.YtfcnkdegapjgnaaGreatDoor.Shv
namespace Go.Proofs.YtfcnkdegapjgnaaGreatDoor.Shv
variable [da]
theorem dG.mk {P:Program}{f:Nat}{fn:Func}{c:di}{a:List fZ}{J:aF}(g:P.funcs[f]?=some fn)(e:fn.body.bind (resolve P fn.ntmps)=some c)(o:hD P fn.results.toList=some a)
 {args:List V}{nt:Nat}(j:fn.ntmps=nt)(aA:args.length<=nt){k:Nat}{Q:V->aF->Nat->Prop}(h:bJ P nt k c (fD 0 args) J k (Dy a Q)):dG P f args J k Q:=by
 grind[a6,dG.Ev]
end Go.Proofs.YtfcnkdegapjgnaaGreatDoor.Shv
namespace Go.Proofs.YtfcnkdegapjgnaaGreatDoor.Shv
set_option linter.all false
section
open Go
variable [da]
def C.bV(f:Nat->Nat):C->C
 |.ptr b o=>.ptr (f b) o
 |.cl b sz i o=>.cl (f b) sz i o
 |.arr b sz off len=>.arr (f b) sz off len
 |.fq b sz off len=>.fq (f b) sz off len
 |.mp b=>.mp (f b)
 |.eh b=>.eh (f b)
 |.cr b len=>.cr (f b) len
 |.fn g caps=>.fn g (caps.map f)
 |c=>c
def V.bV(f:Nat->Nat):V->V
 |.c x=>.c (x.bV f)
 |.agg cs=>.agg (cs.map (C.bV f))
 |.aS vs=>.aS (go f vs)
where go (f:Nat->Nat):List V->List V
 |[]=>[]
 |v::vs=>v.bV f::go f vs
def bp.bV(f:Nat->Nat):bp->bp
 |.box cs=>.box (cs.map (C.bV f))
 |.arr sz es=>.arr sz es
 |.set ks=>.set ks
 |.buf E s=>.buf E s
 |.bX E c=>.bX E (c.bV f)
 |.cu sz es i o c=>.cu sz es i o (c.bV f)
 |.vec sz cs=>.vec sz (cs.map (C.bV f))
def oo(J:aF):List Nat->aF
 |[]=>J
 |b::r=>eM (oo J r) b
theorem oS{J:aF}:∀{bs:List Nat} {b:Nat},aJ (oo J bs) b=if b∈bs then none else aJ J b
 |[],b=>by rfl
 |c::r,b=>by
  simp[oo,d',oS]
  grind
def back(bs:List Nat)(key:Nat)(b:Nat):Nat:=(bs[b]?).getD (key+(b-bs.length))
def fI(J:aF)(bs:List Nat)(f:Nat->Nat):aF->aF
 |[]=>oo J bs
 |(b,x)::r=>cn (fI J bs f r) (f b) (x.bV f)
theorem J4{J:aF}{bs:List Nat}{f:Nat->Nat}:∀{d:aF} {c:Nat} {x:bp},aJ (fI J bs f d) c=some x->(∃b a,c=f b/\aJ d b=some a/\x=a.bV f)\/(c ∉ bs/\aJ J c=some x)
 |[],c,x,h=>by
  grind[fI,oS]
 |(b,y)::r,c,x,h=>by
  simp[fI,cE]at h;split at h
  . grind[aJ]
  . rcases J4 h with⟨e,a,h1,g,i⟩|h
    . grind[aJ]
    grind
section
variable {P:Program}{ao:Ctx}{nt kk:Nat}{φ:db}{S bH:dj}{env:Env}{J:aF}{N key:Nat}{n:Nat->Bool}{a:Act}{w w':World}{f:Nat->Nat}
theorem aX.bV{a:db}{n:Nat->Bool}(j:∀b,n b=true->a (f b)=φ b){c:C}{v:Value}(e:c.aq n=true)(h:aX φ w S c v):aX a w S (c.bV f) v:=by
 cases c with
 |ptr b o=>grind[C.aq,C.bV,aX]
 |cl b sz i o=>grind[C.aq,C.bV,aX]
 |arr b sz off len=>grind[C.aq,C.bV,aX]
 |fq b sz off len=>grind[C.aq,C.bV,aX]
 |mp b=>grind[C.aq,C.bV,aX]
 |eh b=>grind[C.aq,C.bV,aX]
 |cr b len=>grind[C.aq,C.bV,aX]
 |fn g caps=>
  simp_all[C.aq,C.bV,aX]
 |_=>exact h
theorem Hb:∀{vs:List V} {i:Nat},(V.bV.go f vs)[i]?=(vs[i]?).map (V.bV f)
 |[],i=>by rfl
 |v::vs,0=>by rfl
 |v::vs,i+1=>by simp[V.bV.go,Hb]
theorem Gg:∀{vs:List V},(V.bV.go f vs).length=vs.length
 |[]=>rfl
 |v::vs=>by simp[V.bV.go,Gg]
theorem cd.bV{g:db}{n:Nat->Bool}(e:∀b,n b=true->g (f b)=φ b){v:V}{x:Value}(a:v.aq n=true)(h:cd φ w S v x):cd g w S (v.bV f) x:=by
 induction h with
 |c h=>exact .c (aX.bV e (by grind[V.aq]) h)
 | @agg cs vs h=>
  simp[V.aq]at a;refine .agg ?_;have:=h.imp λc v j o=>aX.bV e (a c j) o
  exact this.k8 λ_ _ h=>h
 |aS vs xs ad h ih=>
  refine .aS _ xs (by grind[Gg]) ?_
  grind[Hb,ns,V.aq]
theorem C.pA{n m:Nat->Bool}(a:∀b,m b=true->n (f b)=true){c:C}(h:c.aq m=true):(c.bV f).aq n=true:=by
 cases c<;>simp[C.bV,C.aq]at h⊢
 all_goals grind
theorem V.pA{n m:Nat->Bool}(a:∀b,m b=true->n (f b)=true):∀{v:V},v.aq m=true->(v.bV f).aq n=true
 |.c x,h=>by grind[V.bV,V.aq,C.pA]
 |.agg cs,h=>by grind[V.bV,V.aq,C.pA]
 |.aS vs,h=>by exact go vs h
where go:∀vs,V.aq.V.dI m vs=true->V.aq.V.dI n (V.bV.go f vs)=true
 |[],_=>rfl
 |v::vs,h=>by simp[V.bV.go,V.aq.V.dI,cH]at h⊢;exact⟨V.pA a h.1,go vs h.2⟩
theorem Rel.afu{B:Nat->Prop}(R:Rel ao nt φ S env J n a w)(e:Ext B S bH w w')(P:∀b j,bH b j->b<w'.heap.size)(O:∀b x,aJ J b=some x->(φ b).2≠0->¬B (φ b).1)(cA:∀b,B b->ao.B b\/ao.ll.heap.size<=b):Rel ao nt φ bH env J n a w':=by
 have aa:=λb x f h0=>e.block _ ((R.bm.blk b x f).h7 h0) (O b x f h0)
 have G:∀b x,aJ J b=some x->(φ b).2≠0->∀j,¬bH (φ b).1 j:=by
  intro b x f h0 j K;have y:=R.bm.blk b x f;rcases e.pO _ _ K with h|h|h
  . exact y.nW h0 j h
  . grind
  grind
 refine⟨⟨λb x f=>?_,R.bm.inj,P⟩,λk g v ad aj=>?_,R.gJ,R.fS,R.dp,R.size,R.defers,?_,R.own,R.fix,R.fV⟩
 . have y:=R.bm.blk b x f;cases x with
   |box cs=>
    obtain⟨h0,vs,E,h1,q,A⟩:=y;refine⟨h0,vs,E,(aa _ _ f h0).trans h1,q.imp λc v N D=>aX.mono e.mono (λ_ _=>rfl) (C.ji _) D,G b _ f h0⟩
   |vec sz cs=>
    obtain⟨h0,vs,E,h1,⟨q,F⟩,A⟩:=y;refine⟨h0,vs,E,(aa _ _ f h0).trans h1,⟨q.imp λc v N D=>aX.mono e.mono (λ_ _=>rfl) (C.ji _) D,F⟩,G b _ f h0⟩
   |arr sz es=>
    obtain⟨h1,q,A,F,bf⟩:=y;refine⟨h1,q,A,F,λh0=>?_⟩;obtain⟨vs,E,aZ,ba,bE,bU⟩:=bf h0;exact⟨vs,E,(aa _ _ f h0).trans aZ,ba,λi j H t he ht=>let⟨v,L,D⟩:=bE i j H t he ht;⟨v,L,b5.mono e.mono D⟩,G b _ f h0⟩
   |set ks=>
    obtain⟨h0,⟨es,c,h1,q⟩,A⟩:=y;exact⟨h0,⟨es,c,(aa _ _ f h0).trans h1,q⟩,G b _ f h0⟩
   |buf E s=>
    obtain⟨h1,q,A⟩:=y;refine⟨h1,q,λh0=>?_⟩
    grind
   |bX E c=>
    obtain⟨h0,⟨p,v,h1,q,A⟩,F⟩:=y;exact⟨h0,⟨p,v,(aa _ _ f h0).trans h1,q,aX.mono e.mono (λ_ _=>rfl) (C.ji _) A⟩,G b _ f h0⟩
   |cu sz es i o c=>
    obtain⟨⟨h1,q,A,F,bf,M⟩,⟨vs,E,aZ,ba,bE,v,bU,cL⟩,cM⟩:=y;exact⟨⟨h1,q,A,F,bf,M⟩,⟨vs,E,(aa _ _ f (by omega)).trans aZ,ba,λi j H t he ht aA=>let⟨v,L,D⟩:=bE i j H t he ht aA;⟨v,L,b5.mono e.mono D⟩,v,bU,aX.mono e.mono (λ_ _=>rfl) (C.ji _) cL⟩,G b _ f (by omega)⟩
 . obtain⟨x,f,D⟩:=R.fT k g v ad aj;exact⟨x,f,cd.mono e.mono (λ_ _=>rfl) (R.fS k g v ad aj) D⟩
 . refine⟨e.os.trans R.ext.os,e.tape.trans R.ext.tape,e.output.trans R.ext.output,iO R.ext.size e.size,λb aI y=>?_,R.ext.mono.trans e.mono,λb j K=>?_⟩
   . refine(e.block b (k' aI R.ext.size) λh=>?_).trans (R.ext.block b aI y)
     grind
   . rcases e.pO _ _ K with h|h|h
     . exact R.ext.pO b j h
     . grind
     . exact .inr (.inr (iO R.ext.size h))
theorem gp.raw {fn:Nat}{args:List V}{bs:List Nat}{Q:V->aF->Nat->Prop}(bR:bs.Nodup)(aI:∀b,b∈bs->b<key)(h:dG P fn (args.map (V.bG bs)) (eO bs J 0 bs) bs.length Q){K:V->aF->Prop}
 (br:∀r J' N',Q r J' N'->N'<=bs.length+16/\K (r.bV (back bs key)) (fI J bs (back bs key) J')):(∀b,b∈bs->n b=true)->∀ao nt φ S env a w,Rel ao nt φ S env J n a w->(∀b,key<=b->b<key+16->n b=false)->V.aq.V.dI n args=true->∀vs:List Value,aQ (cd φ w S) args vs->
 Calls P fn vs.toArray w λe w'=>∃v r aP bH J',e= .returned v/\K r J'/\cd aP w' bH r v/\r.aq (er n key)=true/\Rel ao nt aP bH env J' (er n key) a w':=by
 intro t ao nt φ S env a w R aA fs vs ex
 let a2:db:=λi=>φ ((bs[i]?).getD 0)
 have a1:∀(i:Nat) b,bs[i]?=some b->a2 i=φ b:=by grind
 let B:Nat->Prop:=λbe=>∃b x,b∈bs/\aJ J b=some x/\(φ b).2≠0/\be=(φ b).1
 have a0:∀b x,aJ (eO bs J 0 bs) b=some x->∃c j,bs[b]?=some c/\aJ J c=some j/\x=j.bG bs:=by
  grind[nr]
 have eq:pW a2 w S (eO bs J 0 bs):=by
  refine⟨λb x f=>?_,λb F x y f H a4 h0 G=>?_,R.bm.st⟩
  . obtain⟨c,j,N,L,rfl⟩:=a0 b x f;exact cD.bG a1 N (R.bm.blk c j L)
  . obtain⟨c,j,N,L,rfl⟩:=a0 b x f;obtain⟨O,aG,ce,ci,rfl⟩:=a0 F y H;rw[a1 b c N]at h0⊢;rw[a1 F O ce]at G⊢;refine R.bm.inj c O j aG L ci ?_ h0 G
    grind[List.getElem?_eq_some_iff,List.pairwise_iff_getElem]
 have c0:aQ (cd a2 w S) (args.map (V.bG bs)) vs:=ex.k8 λ_ _=>cd.bG a1
 have c9:V.aq.V.dI (lt bs.length) (args.map (V.bG bs))=true:=by
  simp_all[sb,nY,bb,V.ir]
 refine(h a2 S w B eq (λb x f=>?_) (λb x f h0=>?_) (R.Ax λbe ⟨b,x,_,f,h0,e⟩=>e▸R.own b x f h0) c9 vs c0).mono ?_
 . obtain⟨c,j,N,L,rfl⟩:=a0 b x f;refine⟨(dO.1 N).1,?_⟩;cases j with
   |box cs=>grind[bp.bG,bp.aq,List.all_map,List.all_eq_true,C.ir]
   |vec sz cs=>grind[bp.bG,bp.aq,List.all_map,List.all_eq_true,C.ir]
   |arr sz es=>rfl
   |set ks=>rfl
   |buf E s=>rfl
   |bX E c=>exact C.ir c
   |cu sz es i o c=>exact C.ir c
 . grind
 rintro e w' ⟨v,fd,aP,bH,J',N',rfl,cP,h1,N,L,W,bf,ff,fo⟩
 obtain⟨cm,br⟩:=br _ _ _ cP
 have bg:∀b,B b->ao.B b\/ao.ll.heap.size<=b:=by
  rintro be ⟨b,x,_,f,h0,rfl⟩
  exact R.own b x f h0
 have b1:Rel ao nt φ S env (oo J bs) n a w:=by
  have ap:∀b x,aJ (oo J bs) b=some x->b ∉ bs/\aJ J b=some x:=by
   grind[oS]
  exact⟨⟨λb x f=>R.bm.blk b x (ap b x f).2,λb F x y f H=>R.bm.inj b F x y (ap b x f).2 (ap F y H).2,R.bm.st⟩,R.fT,R.gJ,R.fS,λb x f=>R.dp b x (ap b x f).2,R.size,R.defers,R.ext,λb x f=>R.own b x (ap b x f).2,R.fix,R.fV⟩
 have dt:∀b x,b ∉ bs->aJ J b=some x->(φ b).2≠0->¬B (φ b).1:=by
  rintro b x t f h0 ⟨c,y,q,H,G,he⟩
  exact R.bm.inj b c x y f H (λe=>t (e▸q)) h0 G he
 have b2:=b1.afu bf L.st (λb x f h0=>by
  grind[oS]) bg
 let D:db:=λb=>if key<=b/\b<key+16 then aP (bs.length+(b-key))else φ b
 have b0:∀b,n b=true->D b=φ b:=by grind
 have M:∀b,lt N' b=true->D (back bs key b)=aP b:=by
  intro b X;simp only[lt,hq]at X;unfold back
  grind
 have U:∀b,lt N' b=true->er n key (back bs key b)=true:=by
  intro b X;simp only[lt,hq]at X;unfold back;cases aj:bs[b]? with
  |some c=>exact lN (t c (eU aj))
  |none=>
   simp only[Option.getD_none,er,ko,cH,hq];right;omega
 have A:=b2.zb b0;have an:∀b x,aJ (fI J bs (back bs key) J') b=some x->(∃c j,b=back bs key c/\aJ J' c=some j/\x=j.bV (back bs key))\/(b ∉ bs/\aJ J b=some x):=λb x f=>J4 f
 have am:∀b x,b ∉ bs->aJ J b=some x->aJ (oo J bs) b=some x:=by simp_all[oS,ag]
 have a5:∀c j,aJ J' c=some j->(D (back bs key c)).2≠0->B (D (back bs key c)).1\/w.heap.size<=(D (back bs key c)).1:=by
  intro c j q h0;rw[M c (by simp[lt];exact(W c j q).1)]at h0⊢
  grind
 have bv:∀b x,b ∉ bs->aJ J b=some x->(D b).2≠0->(D b).1<w.heap.size/\¬B (D b).1:=by
  intro b x t f h0;rw[b0 b (R.dp b x f).1]at h0⊢;exact⟨(R.bm.blk b x f).h7 h0,dt b x t f h0⟩
 refine⟨v,fd.bV (back bs key),D,bH,fI J bs (back bs key) J',rfl,br,cd.bV M N h1,V.pA U N,⟨⟨λb x f=>?_,λb F x y f H a4 h0 G=>?_,L.st⟩,A.fT,A.gJ,λk g v ad aj=>V.gH (λ_ h=>lN h) (A.fS k g v ad aj),λb x f=>?_,A.size,A.defers,A.ext,λb x f h0=>?_,A.fix,λb X=>lN (A.fV b X)⟩⟩
 . rcases an b x f with⟨c,j,rfl,q,rfl⟩|⟨t,f⟩
   . have cA:=L.blk c j q;have Y:=W c j q;have az:=M c (by simp[lt];exact Y.1);cases j with
     |box cs=>
      obtain⟨ax,vs,E,aZ,ba,bE⟩:=cA;simp only[bp.bV,cD,az];refine⟨ax,vs,E,aZ,?_,bE⟩;have Z:=Y.2;simp only[bp.aq,dW]at Z;have:=ba.imp (R':=λc v=>aX D w' bH (C.bV (back bs key) c) v) λc v q a9=>aX.bV M (Z c q) a9
      exact this.k8 λ_ _ h=>h
     |vec sz cs=>
      obtain⟨ax,vs,E,aZ,⟨ba,bU⟩,bE⟩:=cA;simp only[bp.bV,cD,az,kn];refine⟨ax,vs,E,aZ,⟨?_,bU⟩,bE⟩;have Z:=Y.2;simp only[bp.aq,dW]at Z;have:=ba.imp (R':=λc v=>aX D w' bH (C.bV (back bs key) c) v) λc v q a9=>aX.bV M (Z c q) a9
      exact this.k8 λ_ _ h=>h
     |arr sz es=>simp only[bp.bV,cD,az];exact cA
     |set ks=>simp only[bp.bV,cD,az];exact cA
     |buf E s=>simp only[bp.bV,cD,az];exact cA
     |bX E c=>
      obtain⟨ax,⟨p,v,aZ,ba,bE⟩,bU⟩:=cA;simp only[bp.bV,cD,az];exact⟨ax,⟨p,v,aZ,ba,aX.bV M (by simpa[bp.aq]using Y.2) bE⟩,bU⟩
     |cu sz es i o c=>
      obtain⟨h1,⟨vs,E,aZ,ba,bE,v,bU,cL⟩,cM⟩:=cA;simp only[bp.bV,cD,az];exact⟨h1,⟨vs,E,aZ,ba,bE,v,bU,aX.bV M (by simpa[bp.aq]using Y.2) cL⟩,cM⟩
   . exact A.bm.blk b x (am b x t f)
 . rcases an b x f with⟨c,j,rfl,q,rfl⟩|⟨t,f⟩<;>rcases an F y H with⟨O,aG,rfl,a3,rfl⟩|⟨bi,H⟩
   . have az:=M c (by simp[lt];exact(W c j q).1);have b3:=M O (by simp[lt];exact(W O aG a3).1);rw[az]at h0⊢;rw[b3]at G⊢;exact L.inj c O j aG q a3 (by rintro rfl;exact a4 rfl) h0 G
   . obtain⟨aZ,ba⟩:=bv F y bi H G;rcases a5 c j q h0 with h|h
     . intro e;rw[e]at h;exact ba h
     . omega
   . obtain⟨aZ,ba⟩:=bv b x t f h0;rcases a5 O aG a3 G with h|h
     . intro e;rw[<-e]at h;exact ba h
     . omega
   . exact A.bm.inj b F x y (am b x t f) (am F y bi H) a4 h0 G
 . rcases an b x f with⟨c,j,rfl,q,rfl⟩|⟨t,f⟩
   . obtain⟨aZ,ba⟩:=W c j q;refine⟨U c (by simp[lt];exact aZ),?_⟩;cases j with
     |box cs=>
      simp only[bp.bV,bp.aq,AU,dW]at ba⊢;intro c q;exact C.pA U (ba c q)
     |vec sz cs=>
      simp only[bp.bV,bp.aq,AU,dW]at ba⊢;intro c q;exact C.pA U (ba c q)
     |arr sz es=>rfl
     |set ks=>rfl
     |buf E s=>rfl
     |bX E c=>simp only[bp.bV,bp.aq]at ba⊢;exact C.pA U ba
     |cu sz es i o c=>simp only[bp.bV,bp.aq]at ba⊢;exact C.pA U ba
   . obtain⟨aZ,ba⟩:=A.dp b x (am b x t f);exact⟨lN aZ,bp.gH (λ_ h=>lN h) ba⟩
 . rcases an b x f with⟨c,j,rfl,q,rfl⟩|⟨t,f⟩
   . rcases a5 c j q h0 with h|h
     . exact bg _ h
     . exact .inr (iO R.ext.size h)
   . exact A.own b x (am b x t f) h0
theorem gp.P' {fn:Nat}{args:List V}{bs:List Nat}{Q:V->aF->Nat->Prop}(bR:bs.Nodup)(aI:∀b,b∈bs->b<key)(e:∀b,b∈bs->∃x,aJ J b=some x)(h:dG P fn (args.map (V.bG bs)) (eO bs J 0 bs) bs.length Q){K:V->aF->Prop}
 (br:∀r J' N',Q r J' N'->N'<=bs.length+16/\K (r.bV (back bs key)) (fI J bs (back bs key) J')):gp P fn args J key K:=by
 intro ao nt φ S env n a w R aA c vs f;exact gp.raw bR aI h br (λb c=>let⟨x,g⟩:=e b c;(R.dp b x g).1) ao nt φ S _ a w R aA c vs f
theorem RT{bs:List Nat}:∀{l:List Nat} {i:Nat} {J J':aF},(∀b,b∈l->aJ J' b=aJ J b)->eO bs J' i l=eO bs J i l
 |[],i,J,J',h=>rfl
 |b::r,i,J,J',h=>by
  simp[eO];rw[h b (by simp),RT λc a=>h c (by grind)]
theorem RU{bs:List Nat}{f:Nat->Nat}:∀{a:aF} {J J':aF} {c:Nat},(aJ (oo J' bs) c=aJ (oo J bs) c)->aJ (fI J' bs f a) c=aJ (fI J bs f a) c
 |[],J,J',c,h=>h
 |(b,x)::r,J,J',c,h=>by
  simp[fI,cE];split
  . rfl
  . exact RU h
theorem E'{bs:List Nat}{key:Nat}:∀{d:aF} {J:aF} {c:Nat},d.all (λx=>decide (x.1<bs.length+16))=true->c ∉ bs->¬(key<=c/\c<key+16)->aJ (fI J bs (back bs key) d) c=aJ J c
 |[],J,c,a,e,f=>by grind[fI,oS]
 |(b,x)::r,J,c,a,e,f=>by
  simp only[lY,cH]at a;simp[fI,cE];rw[ag ?_]
  . exact E' a.2 e f
  grind[back]
end
end
section
open Go
variable [da]
variable {xb:List Nat}
section
variable {P:Program}{ao:Ctx}{nt kk:Nat}{φ:db}{S:dj}{env env':Env}{J J' J1:aF}{N key:Nat}{n:Nat->Bool}{a:Act}{w:World}
theorem dh{x:aL}(h:∀t,t∈x.tmps->look env' t=look env t):x.get env'=x.get env:=by
 cases x with
 |const v=>rfl
 |tmp t=>grind[aL.get,aL.tmps]
theorem yE{xs:List aL}(h:∀t,t∈xs.flatMap aL.tmps->look env' t=look env t):gL env' xs=gL env xs:=by
 induction xs with
 |nil=>rfl
 |cons x xs ih=>
  grind[gL,dh]
theorem yF{x:Option aL}(h:∀t,t∈sV x->look env' t=look env t):iM env' x=iM env x:=by
 cases x with
 |none=>rfl
 |some x=>simp[iM];rw[dh h]
theorem Gh:∀{ps:List (Nat×Nat×aL)} {cs:List C},(∀t,t∈(ps.flatMap λp=>p.2.2.tmps)->look env' t=look env t)->iI env' cs ps=iI env cs ps
 |[],cs,h=>rfl
 |(o,k,x)::r,cs,h=>by
  simp[iI];rw[dh (λt ht=>h t (by grind))]
  congr 1;funext a;congr 1;funext c
  split
  . rw[Gh (λt ht=>h t (by grind))]
  rfl
theorem Gi{sz:Nat}:∀{ps:List (Nat×aL)} {es:List (List T)},(∀t,t∈(ps.flatMap λp=>p.2.tmps)->look env' t=look env t)->iJ env' sz es ps=iJ env sz es ps
 |[],cs,h=>rfl
 |(i,x)::r,es,h=>by
  simp[iJ];rw[dh (λt ht=>h t (by grind))]
  congr 1;funext a;congr 1;funext c;congr 1;funext ts
  split
  . rw[Gi (λt ht=>h t (by grind))]
  rfl
theorem abB{o:b9}(h:∀t,t∈o.reads->look env' t=look env t):aw o env' J key=aw o env J key:=by
 cases o<;>simp only[b9.reads,fX]at h
 case mov x=>simp only[aw];rw[dh h]
 case pick c x y=>grind[aw,dh]
 case alloc=>rfl
 case box x=>simp only[aw];rw[dh h]
 case allocA=>rfl
 case b2s x=>simp only[aw];rw[dh h]
 case allocS=>rfl
 case mkset=>rfl
 case bsliceT e sz len z ps=>simp only[aw];congr 1;funext a;rw[Gi h]
 case lkset x y=>simp only[aw];rw[dh λt ht=>h t (.inl ht),dh λt ht=>h t (.inr ht)]
 case upset x y=>simp only[aw];rw[dh λt ht=>h t (.inl ht),dh λt ht=>h t (.inr ht)]
 case lkE z x y=>grind[aw,dh]
 case upD x y z=>grind[aw,dh]
 case bsliceC sz z ps=>simp only[aw];rw[Gh h]
 case appendC sz b x y=>simp only[aw];rw[dh λt ht=>h t (.inl ht),dh λt ht=>h t (.inr ht)]
 case appendB e k x y=>simp only[aw];rw[dh λt ht=>h t (.inl ht),dh λt ht=>h t (.inr ht)]
 case sdata x=>simp only[aw];rw[dh h]
 case ustr e x y=>simp only[aw];rw[dh λt ht=>h t (.inl ht),dh λt ht=>h t (.inr ht)]
 case idxP k x y=>simp only[aw];rw[dh λt ht=>h t (.inl ht),dh λt ht=>h t (.inr ht)]
 case slcP k x l i=>simp only[aw];rw[dh λt ht=>h t (.inl (.inl ht)),yF λt ht=>h t (.inl (.inr ht)),yF λt ht=>h t (.inr ht)]
 case build z ps=>simp only[aw];rw[Gh h]
 case bslice sz len z ps=>simp only[aw];congr 1;funext a;rw[Gi h]
 case load g k x=>simp only[aw];rw[dh h]
 case store k x v=>simp only[aw];rw[dh λt ht=>h t (.inl ht),dh λt ht=>h t (.inr ht)]
 case nilCheck x=>simp only[aw];rw[dh h]
 case bin op x y=>simp only[aw];rw[dh λt ht=>h t (.inl ht),dh λt ht=>h t (.inr ht)]
 case eqAgg op ks x y=>simp only[aw];rw[dh λt ht=>h t (.inl ht),dh λt ht=>h t (.inr ht)]
 case eqBool op x y=>simp only[aw];rw[dh λt ht=>h t (.inl ht),dh λt ht=>h t (.inr ht)]
 case eqNil=>rfl
 case not x=>simp only[aw];rw[dh h]
 case conv k x=>simp only[aw];rw[dh h]
 case i2s x=>simp only[aw];rw[dh h]
 case s2s x=>simp only[aw];rw[dh h]
 case fldA k x=>simp only[aw];rw[dh h]
 case fld g k m x=>simp only[aw];rw[dh h]
 case idxA op x y=>simp only[aw];rw[dh λt ht=>h t (.inl ht),dh λt ht=>h t (.inr ht)]
 case idxV op x y=>simp only[aw];rw[dh λt ht=>h t (.inl ht),dh λt ht=>h t (.inr ht)]
 case mslice op _ z x=>simp only[aw];rw[dh h]
 case idxS x y=>simp only[aw];rw[dh λt ht=>h t (.inl ht),dh λt ht=>h t (.inr ht)]
 case slcS x l i=>simp only[aw];rw[dh λt ht=>h t (.inl (.inl ht)),yF λt ht=>h t (.inl (.inr ht)),yF λt ht=>h t (.inr ht)]
 case slc k x l i=>grind[aw,dh,yF]
 case slc0 x=>simp only[aw];rw[dh h]
 case mkfn f xs=>simp only[aw];rw[yE h]
 case ext x i=>simp only[aw];rw[dh h]
 case len s x=>grind[aw,dh]
 case append te sz by' x y=>simp only[aw];rw[dh λt ht=>h t (.inl ht),dh λt ht=>h t (.inr ht)]
 case appendT te sz by' x y=>simp only[aw];rw[dh λt ht=>h t (.inl ht),dh λt ht=>h t (.inr ht)]
 case max2 x y=>simp only[aw];rw[dh λt ht=>h t (.inl ht),dh λt ht=>h t (.inr ht)]
 case min2 x y=>grind[aw,dh]
 case call=>rfl
 rfl
def dC(env:Env)(x:aL):List Nat:=
 match x.get env with
 |some (_,.c (.ptr b _))=>[b]
 |some (_,.c (.cl b _ _ _))=>[b]
 |some (_,.c (.arr b _ _ _))=>[b]
 |some (_,.c (.fq b _ _ _))=>[b]
 |some (_,.c (.mp b))=>[b]
 |some (_,.c (.eh b))=>[b]
 |some (_,.c (.cr b _))=>[b]
 |_=>[]
def C.eE:C->List Nat
 |.ptr b _|.cl b _ _ _|.arr b _ _ _|.fq b _ _ _|.mp b|.eh b|.cr b _=>[b]
 |.fn _ caps=>caps
 |_=>[]
def V.eE:V->List Nat
 |.c x=>x.eE
 |.agg cs=>cs.flatMap C.eE
 |.aS _=>[]
def kH(env:Env)(args:List aL):List Nat:=
 args.flatMap λx=>match x.get env with
  |some (_,v)=>v.eE
  |none=>[]
def ds(xb:List Nat)(o:b9)(env:Env)(key:Nat):List Nat:=
 match o with
 |.alloc _|.allocA _|.box _|.bslice .. |.mslice .. |.mkset=>[key]
 |.allocS .. =>[key,key+1]
 |.lkset x _=>dC env x
 |.upset x _=>dC env x
 |.lkE _ x _=>dC env x
 |.upD x _ _=>dC env x
 |.bsliceC .. =>[key]
 |.appendC _ _ x y=>key::(dC env x++dC env y)
 |.appendB _ _ x _=>key::dC env x
 |.ustr _ x _=>dC env x
 |.call _ args=>(List.range 16).map (key+·)++(kH env args++xb)
 |.load _ _ x=>dC env x
 |.b2s x=>dC env x
 |.store _ x _=>dC env x
 |.append _ _ _ x y=>key::(dC env x++dC env y)
 |.appendT _ _ _ x y=>dC env x++dC env y
 |_=>[]
def b7(xb:List Nat)(o:b9)(env:Env)(key b:Nat):Bool:=
 match o with
 |.alloc _|.allocA _|.box _|.bslice .. |.mslice .. |.mkset=>b==key
 |.allocS .. =>b==key||b==key+1
 |.upset x _=>(dC env x).contains b
 |.upD x _ _=>(dC env x).contains b
 |.bsliceC .. =>b==key
 |.appendC _ _ x _=>b==key||(dC env x).contains b
 |.appendB _ _ x _=>b==key||(dC env x).contains b
 |.ustr _ x _=>(dC env x).contains b
 |.store _ x _=>(dC env x).contains b
 |.append _ _ _ x _=>b==key||(dC env x).contains b
 |.appendT _ _ _ x _=>(dC env x).contains b
 |.call _ args=>(decide (key<=b)&&decide (b<key+16))||(kH env args++xb).contains b
 |_=>false
theorem W2{o:b9}(aA:o.neutral=true)(ht:o.hP=false){p v J1}(a:aw o env J key=some (p,v,J1)):aw o env J' key=some (p,v,J'):=by
 cases o<;>simp only[b9.neutral,b9.hP,reduceCtorEq]at aA ht<;>simp only[aw,a6,bb]at a⊢
 all_goals
  (try (obtain⟨a1,h1,a⟩:=a;refine⟨a1,h1,?_⟩))
  (try (obtain⟨a2,b,a⟩:=a;refine⟨a2,b,?_⟩))
  (try (obtain⟨a3,c,a⟩:=a;refine⟨a3,c,?_⟩))
  (try split at a)
  (try (done))
 all_goals first
  |(cases a;rfl)
  |(cases a;done)
  |(exact⟨x,h1,b,c,rfl⟩)
  |(simp only[bb]at a⊢;obtain⟨x,h1,b⟩:=a;simp only[c8]at b⊢;exact⟨x,h1,b.1,b.2.1,trivial⟩)
  |(simp only[cZ,cQ,c8]at a⊢;exact⟨a.1,a.2.1,a.2.2.1,trivial⟩)
theorem C'{x:aL}{p:Prop}{b:Nat}(h:x.get env=some (p,.c (.mp b))):dC env x=[b]:=by grind[dC]
theorem Zm{x:aL}{p:Prop}{b:Nat}(h:x.get env=some (p,.c (.eh b))):dC env x=[b]:=by grind[dC]
theorem I4{x:aL}{p:Prop}{b l:Nat}(h:x.get env=some (p,.c (.cr b l))):dC env x=[b]:=by grind[dC]
theorem J5{x:aL}{p:Prop}{b o:Nat}(h:x.get env=some (p,.c (.ptr b o))):dC env x=[b]:=by grind[dC]
theorem I5{x:aL}{p:Prop}{b sz i o:Nat}(h:x.get env=some (p,.c (.cl b sz i o))):dC env x=[b]:=by grind[dC]
theorem ZS{x:aL}{p:Prop}{b sz i o:Nat}(h:x.get env=some (p,.c (.fq b sz i o))):dC env x=[b]:=by grind[dC]
theorem qY{x:aL}{p:Prop}{b sz i o:Nat}(h:x.get env=some (p,.c (.arr b sz i o))):dC env x=[b]:=by grind[dC]
theorem Zn{o:b9}{p v}(a:aw o env J key=some (p,v,J1))(ht:∀b,b∈ds xb o env key->aJ J' b=aJ J b):
 (∃bg,aw o env J' key=some (p,v,bg)/\∀b,aJ bg b=if b7 xb o env key b then aJ J1 b else aJ J' b)/\∀b,b7 xb o env key b=false->aJ J1 b=aJ J b:=by
 by_cases O:o.neutral=true/\o.hP=false
 . have an:∀b,b7 xb o env key b=false:=by intro b;cases o<;>simp only[b9.neutral,b9.hP,reduceCtorEq,cN,false_and,pD,and_self]at O<;>rfl
   have:=uB O.1 a;subst this;exact⟨⟨J',W2 O.1 O.2 a,λb=>by grind⟩,λb _=>rfl⟩
 . cases o<;>simp only[b9.neutral,b9.hP,reduceCtorEq,cN,false_and,pD,and_self,not_true,not_false_eq_true]at O
   case alloc cs=>
    simp only[aw,cQ,c8]at a⊢;obtain⟨rfl,rfl,rfl⟩:=a;refine⟨⟨_,⟨rfl,rfl,rfl⟩,λb=>?_⟩,λb f=>?_⟩
    . simp only[cE,b7,gX]
      grind
    simp_all[b7,h3,cE,ag,cW]
   case allocA cs=>
    simp only[aw,bb,c8]at a⊢;obtain⟨ts,ak,rfl,rfl,rfl⟩:=a;refine⟨⟨_,⟨ts,ak,rfl,rfl,rfl⟩,λb=>?_⟩,λb f=>?_⟩
    . simp only[cE,b7,gX]
      grind
    simp_all[b7,h3,cE,ag,cW]
   case b2s x=>
    simp only[aw,a6,bb,c8]at a⊢;obtain⟨⟨n,v0⟩,h1,⟨q,s⟩,j,rfl,rfl,rfl⟩:=a;refine⟨⟨J',⟨(n,v0),h1,(q,s),?_,rfl,rfl,rfl⟩,λb=>rfl⟩,λb _=>rfl⟩;dsimp only at j⊢;unfold mW at j⊢;split at j
    . grind
    . grind
    . rename_i b off len;rw[ht b (by simp[ds,qY h1])]
      grind
    . rename_i b off len;rw[ht b (by simp[ds,ZS h1])]
      grind
    grind
   case box x=>
    simp only[aw,a6,bb,c8]at a⊢;obtain⟨R,h1,cs,j,rfl,rfl,rfl⟩:=a;refine⟨⟨_,⟨R,h1,cs,j,rfl,rfl,rfl⟩,λb=>?_⟩,λb f=>?_⟩
    . simp only[cE,b7,gX]
      grind
    simp_all[b7,h3,cE,ag,cW]
   case bslice sz len z ps=>
    simp only[aw,a6,bb,c8]at a⊢;obtain⟨R,h1,cs,j,rfl,rfl,rfl⟩:=a;refine⟨⟨_,⟨R,h1,cs,j,rfl,rfl,rfl⟩,λb=>?_⟩,λb f=>?_⟩
    . simp only[cE,b7,gX]
      grind
    simp_all[b7,h3,cE,ag,cW]
   case mslice sz by' z x=>
    simp only[aw,a6]at a⊢;obtain⟨R,h1,cs,j,a⟩:=a;split at a
    . rename_i he;simp only[cQ,c8]at a;obtain⟨rfl,rfl,rfl⟩:=a;refine⟨⟨_,⟨R,h1,cs,j,by rw[he]⟩,λb=>?_⟩,λb f=>?_⟩
      . simp only[cE,b7,gX]
        grind
      simp_all[b7,h3,cE,ag,cW]
    . cases a
   case load g k x=>
    have:=uB rfl a;subst this;refine⟨⟨J',?_,λb=>rfl⟩,λb _=>rfl⟩;simp only[aw,a6]at a⊢;obtain⟨⟨n,v0⟩,h1,a⟩:=a;refine⟨(n,v0),h1,?_⟩;dsimp only at a⊢;split at a
    . rename_i b o;rw[ht b (by simp[ds,J5 h1])];split at a
      all_goals simp_all
    . rename_i b sz i o;rw[ht b (by simp[ds,I5 h1])];split at a
      . simp_all
      . simp_all
      . simp_all
      . split at a
        . grind
        . rename_i aj;split at a
          all_goals simp_all
      grind
    all_goals simp_all
   case store k x y=>
    simp only[aw,a6,cZ]at a⊢;obtain⟨⟨n,v0⟩,h1,d,j,cs,w,H,a⟩:=a;have G:∀(b:Nat) (V:bp),dC env x=[b]->J1=cn J b V->(∀c,aJ (cn J' b V) c=if b7 xb (.store k x y) env key c then aJ J1 c else aJ J' c)/\∀c,b7 xb (.store k x y) env key c=false->aJ J1 c=aJ J c:=by
     intro b V f hs;subst hs;refine⟨λc=>?_,λc l=>?_⟩
     . simp only[b7,f,h4,gO,fN,gX,cE]
       grind
     . simp only[b7,f,h4,gO,fN,h3]at l;rw[cE,ag (cW l)]
    dsimp only at a⊢;split at a
    . rename_i b o;have f:=J5 h1;split at a
      . rename_i N D;simp only[cZ,cQ,c8]at a;obtain⟨bf,rfl,rfl,C⟩:=a;obtain⟨f1,f2⟩:=G b _ f C.symm;refine⟨⟨_,⟨(n,.c (.ptr b o)),h1,d,j,cs,w,H,?_⟩,f1⟩,f2⟩;dsimp only;rw[ht b (by simp[ds,f]),D];dsimp only;rw[ab bf]
      . rename_i E c0 D;split at a
        . rename_i c;simp only[cQ,c8]at a;obtain⟨rfl,rfl,C⟩:=a;obtain⟨f1,f2⟩:=G b _ f C.symm;refine⟨⟨_,⟨(n,.c (.ptr b 1)),h1,d,j,_,w,H,?_⟩,f1⟩,f2⟩;dsimp only;rw[ht b (by simp[ds,f]),D];rfl
        . cases a
      . cases a
    . rename_i b sz i o;have f:=I5 h1;split at a
      . rename_i I es B;split at a
        . rename_i c l;simp only[cQ,c8]at a;obtain⟨rfl,rfl,C⟩:=a;obtain⟨f1,f2⟩:=G b _ f C.symm;refine⟨⟨_,⟨(n,.c (.cl b sz i o)),h1,d,j,cs,w,H,?_⟩,f1⟩,f2⟩;dsimp only;rw[ht b (by simp[ds,f]),B];dsimp only;rw[l]
        rename_i l;simp only[a6,cQ,c8]at a;obtain⟨ts,bf,rfl,rfl,C⟩:=a;obtain⟨f1,f2⟩:=G b _ f C.symm;refine⟨⟨_,⟨(n,.c (.cl b sz i o)),h1,d,j,cs,w,H,?_⟩,f1⟩,f2⟩;dsimp only;rw[ht b (by simp[ds,f]),B];dsimp only;rw[l];dsimp only;rw[bf];rfl
      . rename_i N D;simp only[cZ,cQ,c8]at a;obtain⟨bf,rfl,rfl,C⟩:=a;obtain⟨f1,f2⟩:=G b _ f C.symm;refine⟨⟨_,⟨(n,.c (.cl b sz i o)),h1,d,j,cs,w,H,?_⟩,f1⟩,f2⟩;dsimp only;rw[ht b (by simp[ds,f]),D];dsimp only;rw[ab bf]
      . rename_i Z N D;simp only[cZ,cQ,c8]at a;obtain⟨bf,rfl,rfl,C⟩:=a;obtain⟨f1,f2⟩:=G b _ f C.symm;refine⟨⟨_,⟨(n,.c (.cl b sz i o)),h1,d,j,cs,w,H,?_⟩,f1⟩,f2⟩;dsimp only;rw[ht b (by simp[ds,f]),D];dsimp only;rw[ab bf]
      . rename_i I es i2 ao c0 B;split at a
        . rename_i c;split at a
          . rename_i U;simp only[cQ,c8]at a;obtain⟨rfl,rfl,C⟩:=a;obtain⟨f1,f2⟩:=G b _ f C.symm;refine⟨⟨_,⟨(n,.c (.cl b sz i o)),h1,d,j,_,w,H,?_⟩,f1⟩,f2⟩;dsimp only;rw[ht b (by simp[ds,f]),B];dsimp only;rw[ab U]
          . rename_i U;simp only[a6,cQ,c8]at a;obtain⟨t,bf,rfl,rfl,C⟩:=a;obtain⟨f1,f2⟩:=G b _ f C.symm;refine⟨⟨_,⟨(n,.c (.cl b sz i o)),h1,d,j,_,w,H,?_⟩,f1⟩,f2⟩;dsimp only;rw[ht b (by simp[ds,f]),B];dsimp only;rw[ag U,bf];rfl
        . cases a
      . cases a
    . cases a
   case appendT te sz by' x y=>
    simp only[aw,a6]at a⊢;obtain⟨⟨n,v0⟩,h1,⟨d1,d2⟩,j,a⟩:=a;dsimp only at a;split at a
    . cases a
    . rename_i F;rw[a6]at a;obtain⟨K,w,a⟩:=a;have P:ia J' d2=some K:=by
       unfold ia at w⊢;split at w
       . exact w
       . exact w
       . rename_i b I off len;rw[ht b (by simp[ds,qY j])];exact w
       . cases w
      split at a
      . rename_i b I off len;have A:=qY h1;split at a
        . rename_i al es B;split at a
          . cases a
          . rename_i T;simp only[cQ,c8]at a;obtain⟨rfl,rfl,rfl⟩:=a
            refine⟨⟨_,⟨(n,.c (.arr b I off len)),h1,(d1,d2),j,by
             dsimp only;rw[F];simp only[a6];refine⟨K,P,?_⟩;rw[ht b (by simp[ds,A]),B];dsimp only
             rw[ag T]⟩,λc=>?_⟩,λc l=>?_⟩
            . simp only[d',b7,A,h4,gO,fN,gX];by_cases u:c=b
              . subst u;simp
              . rw[ag (cW u),ag u]
            . simp only[b7,A,h4,gO,fN,h3]at l;rw[d',ag (cW l)]
        . cases a
      . cases a
   case append te sz by' x y=>
    simp only[aw,a6]at a⊢;obtain⟨⟨n,v0⟩,h1,⟨d1,d2⟩,j,a⟩:=a;dsimp only at a;cases F:jy v0 d2 with
    |some r=>
     rw[F]at a;have L:=F;unfold jy at L;split at L
     . rename_i b s1 off len M Z Y Q;split at L
       . cases L;have A:=qY h1;dsimp only at a;unfold tI at a;dsimp only at a;split at a
         . rename_i ap es B;simp only[cQ,c8]at a;obtain⟨rfl,rfl,rfl⟩:=a;refine⟨⟨cn (eM J' b) key (.arr sz (es.take len++(es.drop Y).take Q)),⟨(n,.c (.arr b s1 off len)),h1,(d1,.c (.fq M Z Y Q)),j,?_⟩,λc=>?_⟩,λc l=>?_⟩
           . dsimp only;rw[F];dsimp only;unfold tI;dsimp only;rw[ht b (by simp[ds,A]),B]
           . simp only[cE,d',b7,A,h4,gO,fN,ko,gX];by_cases h:c=key
             . subst h;simp
             . rw[ag (cW h)];by_cases u:c=b
               . subst u;simp[h,cW h]
               . rw[ag (cW u),ag (by simp[h,u])]
           . simp only[b7,A,h4,gO,fN,s0,h3]at l;rw[cE,d',ag (cW l.1),ag (cW l.2)]
         . cases a
       . cases L
     . cases L
    |none=>
    rw[F]at a;simp only[a6]at a;obtain⟨K,w,a⟩:=a;have P:ia J' d2=some K:=by
     unfold ia at w⊢;split at w
     . exact w
     . exact w
     . rename_i b I off len;rw[ht b (by simp[ds,qY j])];exact w
     . cases w
    split at a
    . have A:dC env x=[]:=by simp[dC,h1]
      simp only[cQ,c8]at a;obtain⟨rfl,rfl,rfl⟩:=a;refine⟨⟨_,⟨(n,.c .bC),h1,(d1,d2),j,by dsimp only;rw[F];simp only[a6];exact⟨K,P,rfl⟩⟩,λb=>?_⟩,λb f=>?_⟩
      . simp only[cE,b7,A,gO,fN,gX];by_cases h:b=key
        . subst h;simp
        . rw[ag (cW h),ag h]
      . simp only[b7,A,gO,fN,h3]at f;rw[cE,ag (cW f)]
    . rename_i b I off len;have A:=qY h1;split at a
      . rename_i al es B;split at a
        . cases a
        . rename_i T;simp only[cQ,c8]at a;obtain⟨rfl,rfl,rfl⟩:=a
          refine⟨⟨_,⟨(n,.c (.arr b I off len)),h1,(d1,d2),j,by
           dsimp only;rw[F];simp only[a6];refine⟨K,P,?_⟩;rw[ht b (by simp[ds,A]),B];dsimp only
           rw[ag T]⟩,λc=>?_⟩,λc l=>?_⟩
          . simp only[cE,d',b7,A,h4,gO,fN,ko,gX];by_cases h:c=key
            . subst h;simp
            . rw[ag (cW h)];by_cases u:c=b
              . subst u;simp[h,cW h]
              . rw[ag (cW u),ag (by simp[h,u])]
          . simp only[b7,A,h4,gO,fN,s0,h3]at l;rw[cE,d',ag (cW l.1),ag (cW l.2)]
      . cases a
    . rename_i b len;have A:=I4 h1;split at a
      . rename_i W es B;obtain⟨s,hs,a⟩:=pE.1 a;cases a
        refine⟨⟨_,⟨(n,.c (.cr b len)),h1,(d1,d2),j,by
         dsimp only;rw[F];simp only[a6];refine⟨K,P,?_⟩;rw[ht b (by simp[ds,A]),B];dsimp only;rw[hs]
         rfl⟩,λc=>?_⟩,λc l=>?_⟩
        . simp only[cE,d',b7,A,h4,gO,fN,ko,gX];by_cases h:c=key
          . subst h;simp
          . rw[ag (cW h)];by_cases u:c=b
            . subst u;simp[h,cW h]
            . rw[ag (cW u),ag (by simp[h,u])]
        . simp only[b7,A,h4,gO,fN,s0,h3]at l;rw[cE,d',ag (cW l.1),ag (cW l.2)]
      . cases a
    . cases a
   case allocS e e8=>
    simp only[aw,cQ,c8]at a⊢;obtain⟨rfl,rfl,rfl⟩:=a;refine⟨⟨_,⟨rfl,rfl,rfl⟩,λb=>?_⟩,λb f=>?_⟩
    . simp only[cE,b7,ko,gX];by_cases h:key=b
      . rw[ab h,ab (.inl h.symm),ab h]
      . rw[ag h];by_cases u:key+1=b
        . rw[ab u,ab (.inr u.symm),ag h,ab u]
        . rw[ag u,ag (by omega)]
    . simp only[b7,s0,h3]at f;rw[cE,ag (cW f.1),cE,ag (cW f.2)]
   case mkset=>
    simp only[aw,cQ,c8]at a⊢;obtain⟨rfl,rfl,rfl⟩:=a;refine⟨⟨_,⟨rfl,rfl,rfl⟩,λb=>?_⟩,λb f=>?_⟩
    . simp only[cE,b7,gX];by_cases h:b=key
      . subst h;simp
      . rw[ag (cW h),ag h]
    . simp only[b7,h3]at f;rw[cE,ag (cW f)]
   case lkset x y=>
    have:=uB rfl a;subst this;refine⟨⟨J',?_,λb=>rfl⟩,λb _=>rfl⟩;simp only[aw,a6]at a⊢;obtain⟨⟨n,v0⟩,h1,⟨d1,d2⟩,j,a⟩:=a;refine⟨(n,v0),h1,(d1,d2),j,?_⟩;dsimp only at a⊢;split at a
    . rename_i b s;rw[ht b (by simp[ds,C' h1])];split at a
      . simp only[cQ,c8]at a⊢;exact⟨a.1,a.2.1,trivial⟩
      . cases a
    . cases a
   case upset x y=>
    simp only[aw,a6]at a⊢;obtain⟨⟨n,v0⟩,h1,⟨d1,d2⟩,j,a⟩:=a;dsimp only at a⊢;split at a
    . rename_i b s;have f:=C' h1;split at a
      . rename_i ks S;simp only[cQ,c8]at a;obtain⟨rfl,rfl,rfl⟩:=a
        refine⟨⟨_,⟨(n,.c (.mp b)),h1,(d1,.c (.t (.str s))),j,by
         dsimp only
         rw[ht b (by simp[ds,f]),S]⟩,λc=>?_⟩,λc l=>?_⟩
        . simp only[b7,f,h4,gO,fN,gX,cE];by_cases h:c=b
          . subst h;simp
          . rw[ag (cW h),ag h]
        . simp only[b7,f,h4,gO,fN,h3]at l;rw[cE,ag (cW l)]
      . cases a
    . cases a
   case lkE z x y=>
    have:=uB rfl a;subst this;refine⟨⟨J',?_,λb=>rfl⟩,λb _=>rfl⟩;simp only[aw,a6]at a⊢;obtain⟨⟨n,v0⟩,h1,⟨d1,d2⟩,j,a⟩:=a;refine⟨(n,v0),h1,(d1,d2),j,?_⟩;dsimp only at a⊢;split at a
    . rename_i b s;rw[ht b (by simp[ds,C' h1])];split at a
      . simp only[cQ,c8]at a⊢;exact⟨a.1,a.2.1,trivial⟩
      . cases a
    . cases a
   case upD x y z=>
    simp only[aw,a6]at a⊢;obtain⟨⟨n,v0⟩,h1,⟨d1,d2⟩,j,⟨az,ad⟩,w,a⟩:=a;dsimp only at a⊢;split at a
    . rename_i b s;have f:=C' h1;split at a
      . rename_i S;simp only[cQ,c8]at a;obtain⟨rfl,rfl,rfl⟩:=a
        refine⟨⟨_,⟨(n,.c (.mp b)),h1,(d1,.c (.t (.str s))),j,(az,ad),w,by
         dsimp only
         rw[ht b (by simp[ds,f]),S]⟩,λc=>?_⟩,λc l=>?_⟩
        . simp only[d',b7,f,h4,gO,fN,gX];by_cases h:c=b
          . subst h;simp
          . rw[ag (cW h),ag h]
        . simp only[b7,f,h4,gO,fN,h3]at l;rw[d',ag (cW l)]
      . cases a
    . cases a
   case bsliceC sz z ps=>
    simp only[aw,bb]at a⊢;obtain⟨⟨q,N⟩,h1,a⟩:=a;simp only[c8]at a;obtain⟨rfl,rfl,rfl⟩:=a;refine⟨⟨_,⟨(q,N),h1,rfl⟩,λb=>?_⟩,λb f=>?_⟩
    . simp only[cE,b7,gX];by_cases h:b=key
      . subst h;simp
      . rw[ag (cW h),ag h]
    . simp only[b7,h3]at f;rw[cE,ag (cW f)]
   case appendC sz by' x y=>
    simp only[aw,a6]at a⊢;obtain⟨⟨n,v0⟩,h1,⟨d1,d2⟩,j,a⟩:=a;dsimp only at a⊢;split at a
    . rename_i M aa Q;have ae:=qY j;split at a
      . rename_i aq N D;have X:=(ht M (by simp[ds,ae])).trans D;split at a
        . simp only[cQ,c8]at a;obtain⟨rfl,rfl,rfl⟩:=a;have aA:dC env x=[]:=by grind[dC]
          refine⟨⟨_,⟨(n,.c .bC),h1,(d1,.c (.arr M aa 0 Q)),j,by
           simp only[X];rfl⟩,λc=>?_⟩,λc l=>?_⟩
          . simp only[cE,b7,aA,gO,fN,gX];by_cases h:c=key
            . subst h;simp
            . rw[ag (cW h),ag h]
          . simp only[b7,aA,gO,fN,h3]at l;rw[cE,ag (cW l)]
        . rename_i b am len;have f:=qY h1;split at a
          . rename_i ar cs ah;have ai:=(ht b (by simp[ds,f])).trans ah;split at a
            . cases a
            rename_i af;simp only[cQ,c8]at a;obtain⟨rfl,rfl,rfl⟩:=a
            refine⟨⟨_,⟨(n,.c (.arr b am 0 len)),h1,(d1,.c (.arr M aa 0 Q)),j,by
             simp only[X,ai,ag af];rfl⟩,λc=>?_⟩,λc l=>?_⟩
            . simp only[cE,d',b7,f,h4,gO,fN,ko,gX];by_cases h:c=key
              . subst h;simp
              . rw[ag (cW h)];by_cases u:c=b
                . subst u;simp[h,cW h]
                . rw[ag (cW u),ag (by simp[h,u])]
            . simp only[b7,f,h4,gO,fN,s0,h3]at l;rw[cE,d',ag (cW l.1),ag (cW l.2)]
          . cases a
        . cases a
      . cases a
    . cases a
   case appendB e by' x y=>
    simp only[aw,a6]at a⊢;obtain⟨⟨n,v0⟩,h1,⟨d1,d2⟩,j,a⟩:=a;dsimp only at a⊢;split at a
    . rename_i b len s;have f:=I4 h1;split at a
      . rename_i W es B;simp only[cQ,c8]at a;obtain⟨rfl,rfl,rfl⟩:=a
        refine⟨⟨_,⟨(n,.c (.cr b len)),h1,(d1,.c (.t (.str s))),j,by
         dsimp only
         rw[ht b (by simp[ds,f]),B]⟩,λc=>?_⟩,λc l=>?_⟩
        . simp only[cE,d',b7,f,h4,gO,fN,ko,gX];by_cases h:c=key
          . subst h;simp
          . rw[ag (cW h)];by_cases u:c=b
            . subst u;simp[h,cW h]
            . rw[ag (cW u),ag (by simp[h,u])]
        . simp only[b7,f,h4,gO,fN,s0,h3]at l;rw[cE,d',ag (cW l.1),ag (cW l.2)]
      . cases a
    . cases a
   case ustr e x y=>
    simp only[aw,a6]at a⊢;obtain⟨⟨n,v0⟩,h1,⟨d1,d2⟩,j,a⟩:=a;dsimp only at a⊢;split at a
    . rename_i b m;have f:=Zm h1;split at a
      . rename_i W es B;simp only[cQ,c8]at a;obtain⟨rfl,rfl,rfl⟩:=a
        refine⟨⟨_,⟨(n,.c (.eh b)),h1,(d1,.c (.t (.int .i64 m))),j,by
         dsimp only
         rw[ht b (by simp[ds,f]),B]⟩,λc=>?_⟩,λc l=>?_⟩
        . simp only[d',b7,f,h4,gO,fN,gX];by_cases h:c=b
          . subst h;simp
          . rw[ag (cW h),ag h]
        . simp only[b7,f,h4,gO,fN,h3]at l;rw[d',ag (cW l)]
      . cases a
    . cases a
   all_goals simp[aw]at a
inductive DStep (xb:List Nat)(P:Program)(o:bL)(key:Nat)(env:Env)(J:aF)(g:Bool)(v:V):aF->Prop
 |op {p:Prop} {J2:aF} (aj:fB env o.guard = some g) (ag8:o.op.drawn = true) (w0:aw o.op env J key = some (p,v,J2)) (Ay:g = true->p) (ahb:o.op.neutral = true\/g = true):
  DStep xb P o key env J g v (if o.op.neutral then J else J2)
 |skip (aj:fB env o.guard=some g) (ag9:g=false):DStep xb P o key env J g v J
 |call {p:Prop} {f:Nat} {args:List aL} {vs:List V} (D6:o.op = .call f args) (aj:fB env o.guard = some g) (w0:gL env args = some (p,vs)) (Ay:g = true->p/\V.aq.V.dI (lt 0) vs = true/\v.aq (lt 0) = true/\dG P f vs [] 0 (λs9 _ _=>s9 = v)):
  DStep xb P o key env J g v J
 |callv {p q:Prop} {f:Nat} {x:aL} {args:List aL} {vs:List V} (D6:o.op = .callv x args) (aA:o.guard = none) (afL:g = true) (ahg:x.get env = some (q, .c (.fn f []))) (ahc:q) (w1:gS P f = true) (w0:gL env args = some (p,vs))
  (Ay:p/\V.aq.V.dI (lt 0) vs=true/\v.aq (lt 0)=true/\dG P f vs [] 0 (λs9 _ _=>s9=v)):DStep xb P o key env J g v J
 |own {p:Prop} {f:Nat} {args:List aL} {vs:List V} {r:V} {s:aF} {M:Nat} (D6:o.op = .call f args) (aj:fB env o.guard = some g) (aA:o.guard = none) (w0:gL env args = some (p,vs)) (Ay:p) (w1:V.aq.V.dI (lt 0) vs = true) (afJ:M<=16) (hk:s.all (λx=>x.1<16) = true)
  (PS:dG P f vs [] 0 (λs9 EP DC=>s9=r/\EP=s/\DC=M)) (PT:v=r.bu key):DStep xb P o key env J g v (l9 J key s)
 |raw {p:Prop} {f:Nat} {args:List aL} {vs:List V} {bs:List Nat} {r:V} {s:aF} {M:Nat} (D6:o.op = .call f args) (aj:fB env o.guard = some g) (afL:g = true) (w0:gL env args = some (p,vs)) (Ay:p)
  (bR:bs.Nodup) (aI:∀b,b∈bs->b<key) (ag':∀b,b∈bs->∃x,aJ J b=some x) (ahe:∀b,b∈bs->b∈kH env args++xb) (afJ:M<=bs.length+16) (hk:s.all (λx=>decide (x.1<bs.length+16))=true)
  (PS:dG P f (vs.map (V.bG bs)) (eO bs J 0 bs) bs.length (λs9 EP DC=>s9=r/\EP=s/\DC=M)) (PT:v=r.bV (back bs key)):DStep xb P o key env J g v (fI J bs (back bs key) s)
theorem DStep.fP{o:bL}{g:Bool}{v:V}(h:DStep xb P o key env J g v J1){K:Env->aF->Prop}(br:K (dX env o.dst g v) J1):fP P o key env J K:=by
 cases h with
 | @op p J2 aj G c e L=>
  grind[Shv.fP,aw]
 |skip aj H=>
  grind[Shv.fP]
 | @call p f args vs a aj c e=>
  unfold Shv.fP
  grind[gp.P9]
 | @callv p q f x args vs a aA y Q N w c e=>
  grind[Shv.fP,fB,gp.P9]
 | @raw p f args vs bs r s M a aj y c e bR aI A O t B j D=>
  unfold Shv.fP;rw[a];dsimp;have F:gp P f vs J key (λE J'=>K (dX env o.dst true E) J'):=by
   refine gp.P' bR aI A j ?_
   grind
  grind
 | @own p f args vs r s M a aj aA c e w t B j D=>
  unfold Shv.fP;rw[aj];rw[a]
  grind[fB,gp.aga]
theorem KS{o:bL}{t:Nat}(h:t∈o.op.reads):t∈o.rd:=by grind[bL.rd]
theorem xw{o:bL}(h:∀t,t∈o.rd->look env' t=look env t):fB env' o.guard=fB env o.guard:=by
 grind[fB,bL.rd]
theorem E0{s:aF}(d:s.all (λx=>x.1<16)=true){b:Nat}(a:¬(key<=b/\b<key+16))(J:aF):aJ (l9 J key s) b=aJ J b:=by
 rw[yD];by_cases h:key<=b
 . have:aJ s (b-key)=none:=by
    cases hs:aJ s _ with
    |none=>rfl
    |some x=>
     have:∀{s:aF} {c:Nat} {x:bp},aJ s c=some x->s.all (λx=>x.1<16)=true->c<16:=by
      induction s with
      |nil=>grind[aJ]
      |cons y r ih=>
       grind[aJ]
     grind
   grind
 grind
theorem hW{x:aL}(h:∀t,t∈x.tmps->look env' t=look env t):dC env' x=dC env x:=by
 unfold dC;rw[dh h]
theorem Gv{args:List aL}(h:∀t,t∈args.flatMap aL.tmps->look env' t=look env t):kH env' args=kH env args:=by
 induction args with
 |nil=>rfl
 |cons x r ih=>
  grind[kH,dh]
theorem ZT{o:b9}(h:∀t,t∈o.reads->look env' t=look env t)(b:Nat):b7 xb o env' key b=b7 xb o env key b:=by
 cases o<;>try rfl
 case store k x v=>grind[b7,hW,b9.reads]
 case append te sz by' x y=>grind[b7,hW,b9.reads]
 case appendT te sz by' x y=>grind[b7,hW,b9.reads]
 case upset x y=>grind[b7,hW,b9.reads]
 case upD x y z=>grind[b7,hW,b9.reads]
 case appendC s k x y=>grind[b7,hW,b9.reads]
 case appendB e k x y=>grind[b7,hW,b9.reads]
 case ustr e x y=>grind[b7,hW,b9.reads]
 case call f args=>simp[b7];rw[Gv h]
theorem ZU{o:b9}(h:∀t,t∈o.reads->look env' t=look env t):ds xb o env' key=ds xb o env key:=by
 cases o<;>try rfl
 case b2s x=>grind[ds,hW,b9.reads]
 case load g k x=>grind[ds,hW,b9.reads]
 case store k x v=>grind[ds,hW,b9.reads]
 case lkset x y=>grind[ds,hW,b9.reads]
 case upset x y=>grind[ds,hW,b9.reads]
 case lkE z x y=>grind[ds,hW,b9.reads]
 case upD x y z=>grind[ds,hW,b9.reads]
 case appendC s k x y=>grind[ds,hW,b9.reads]
 case appendB e k x y=>grind[ds,hW,b9.reads]
 case ustr e x y=>grind[ds,hW,b9.reads]
 case appendT te sz by' x y=>grind[ds,hW,b9.reads]
 case call f args=>simp[ds];rw[Gv h]
 grind[ds,hW,b9.reads]
theorem DStep.local{o:bL}{g:Bool}{v:V}(h:DStep xb P o key env J g v J1)(he:∀t,t∈o.rd->look env' t=look env t)(ht:∀b,b∈ds xb o.op env key\/b7 xb o.op env key b=true->aJ J' b=aJ J b):
 (∃bg,DStep xb P o key env' J' g v bg/\∀b,aJ bg b=if b7 xb o.op env key b then aJ J1 b else aJ J' b)/\∀b,b7 xb o.op env key b=false->aJ J1 b=aJ J b:=by
 have B:=λt h=>he t (KS h)
 cases h with
 | @op p J2 aj Q y w U=>
  obtain⟨⟨bg,h1,L⟩,N⟩:=Zn (J':=J') y (λb c=>ht b (.inl c));have aA:o.op.neutral=true->∀b,b7 xb o.op env key b=false:=by intro aA b;generalize o.op=Y at aA;cases Y<;>simp[b9.neutral]at aA<;>rfl
  refine⟨⟨_,DStep.op (J2:=bg) (p:=p) (by rw[xw he];exact aj) Q (by rw[abB B];exact h1) w U,λb=>?_⟩,λb c=>?_⟩
  . by_cases A:o.op.neutral=true
    . rw[ab A,aA A b];rfl
    . rw[ag A,ag A];exact L b
  . by_cases A:o.op.neutral=true
    . rw[ab A]
    . rw[ag A];exact N b c
 |skip aj S=>
  refine⟨⟨J',DStep.skip (by rw[xw he];exact aj) S,λb=>?_⟩,λb _=>rfl⟩;split
  . rename_i j;exact ht b (.inr j)
  . rfl
 | @call p f args vs a aj y w=>
  refine⟨⟨J',DStep.call a (by rw[xw he];exact aj) (by rw[yE λt h=>B t (by rw[a];exact h)];exact y) w,λb=>?_⟩,λb _=>rfl⟩;split
  . rename_i j;exact ht b (.inr j)
  . rfl
 | @callv p q f x args vs a aA G X W c y w=>
  refine⟨⟨J',DStep.callv a aA G (by rw[dh λt h=>B t (by rw[a];simp[b9.reads,h])];exact X) W c (by rw[yE λt h=>B t (by rw[a];simp only[b9.reads,fX];exact .inr h)];exact y) w,λb=>?_⟩,λb _=>rfl⟩;split
  . rename_i j;exact ht b (.inr j)
  . rfl
 | @own p f args vs r s M a aj aA y w c F D K H=>
  refine⟨⟨_,DStep.own a (by rw[xw he];exact aj) aA (by rw[yE λt h=>B t (by rw[a];exact h)];grind) w c F D K H,λb=>?_⟩,λb O=>?_⟩
  . by_cases E:key<=b/\b<key+16
    . have j:b7 xb o.op env key b=true:=by rw[a];simp[b7,E.1,E.2]
      rw[ab j];have e:=ht b (.inr j);rw[yD,yD,e]
    . rw[E0 D E];split
      . rename_i j;rw[E0 D E];exact ht b (.inr j)
      . rfl
  grind[b7,E0]
 | @raw p f args vs bs r s M a aj G y w bR aI Z ad F D K H=>
  have am:∀b,b∈kH env args++xb->b∈ds xb o.op env key:=by intro b c;rw[a];simp only[ds,fX];exact .inr (fX.1 c)
  have R:∀t,t∈args.flatMap aL.tmps->look env' t=look env t:=λt h=>B t (by rw[a];exact h)
  refine⟨⟨_,DStep.raw (bs:=bs) a (by rw[xw he];exact aj) G (by rw[yE R];omega) w bR aI (λb c=>by grind) (λb c=>by grind[Gv]) F D
   (by grind[RT]) H,λb=>?_⟩,λb O=>?_⟩
  . by_cases j:b7 xb o.op env key b=true
    . grind[RU,oS]
    . grind[b7,Bool.or_eq_false_iff,Bool.and_eq_false_iff,decide_eq_false_iff_not,E']
  grind[b7,Bool.or_eq_false_iff,Bool.and_eq_false_iff,decide_eq_false_iff_not,E']
def rv(xb:List Nat)(P:Program):List bL->Nat->Env->aF->(Env->aF->Prop)->Prop
 |[],_,env,J,K=>K env J
 |o::r,key,env,J,K=>∃g v J1,DStep xb P o key env J g v J1/\rv xb P r (key+16) (dX env o.dst g v) J1 K
structure oa (xb:List Nat)(P:Program)(aP:List bL)(N:Nat)(E:Nat->Env)(T:Nat->aF)(G:Nat->Bool)(W:Nat->V):Prop where
 step:∀(i:Nat) o,aP[i]?=some o->DStep xb P o (N+16*i) (E i) (T i) (G i) (W i) (T (i+1))/\E (i+1)=dX (E i) o.dst (G i) (W i)
def gY(rof:List Nat):b9->Bool
 |.call f _=>rof.contains f
 |_=>false
def tS(xb rof:List Nat)(P:Program):List bL->Nat->Env->aF->(Env->aF->Prop)->Prop
 |[],_,env,J,K=>K env J
 |o::r,key,env,J,K=>∃g v J1,DStep xb P o key env J g v J1/\(gY rof o.op=true->∀b,aJ J1 b=aJ J b)/\tS xb rof P r (key+16) (dX env o.dst g v) J1 K
def rp(rof:List Nat)(aP:List bL)(T:Nat->aF):Prop:=∀(i:Nat) o,aP[i]?=some o->gY rof o.op=true->∀b,aJ (T (i+1)) b=aJ (T i) b
theorem Hc{rof:List Nat}:∀{aP:List bL} {key:Nat} {env:Env} {J:aF} {K:Env->aF->Prop},tS xb rof P aP key env J K->∃E T G W,oa xb P aP key E T G W/\rp rof aP T/\E 0=env/\T 0=J/\K (E aP.length) (T aP.length)
 |[],key,env,J,K,h=>⟨λ_=>env,λ_=>J,λ_=>true,λ_=>.aS [],⟨λi o h=>by grind⟩,λi o h=>by grind,rfl,rfl,h⟩
 |o::r,key,env,J,K,h=>by
  obtain⟨g,v,J1,h1,h0,c⟩:=h;obtain⟨E,T,G,W,e,j,az,k,br⟩:=Hc c;refine⟨λi=>if i=0 then env else E (i-1),λi=>if i=0 then J else T (i-1),λi=>if i=0 then g else G (i-1),λi=>if i=0 then v else W (i-1),⟨λi a d=>?_⟩,λi a d f b=>?_,rfl,rfl,by grind⟩
  . cases i with
    |zero=>grind
    |succ i=>
     have:=e.step i a (by grind)
     grind
  . cases i with
    |zero=>grind
    |succ i=>
     have:=j i a (by grind) f b
     grind
theorem GP{P:Program}{K:Env->aF->Prop}:∀{aP:List bL} {key:Nat} {env:Env} {J:aF},rv xb P aP key env J K->tS xb [] P aP key env J K
 |[],key,env,J,h=>h
 |o::r,key,env,J,h=>by
  obtain⟨g,v,J1,h1,b⟩:=h;exact⟨g,v,J1,h1,λa=>by unfold gY at a;split at a<;>simp at a,GP b⟩
end
end
section
open Go
variable [da]
variable {xb rof:List Nat}
theorem HI{p:Nat->Bool}:∀{m:Nat},(∃i,i<m/\p i=true)->∃i,i<m/\p i=true/\∀j,j<m->p j=true->j<=i
 |0,⟨i,h,_⟩=>by omega
 |m+1,⟨i,h1,a⟩=>by
  cases d:p m with
  |true=>grind
  |false=>
   have:i<m:=by grind
   obtain⟨k,b,c,bf⟩:=HI ⟨i,this,a⟩
   grind
theorem xe{P:Program}{nt:Nat}{ops:Array Oper}:∀{l:List Oper} {aP:List bL},iY P nt ops l=some aP->aP.length=l.length
 |[],aP,h=>by grind[iY]
 |o::l,aP,h=>by
  simp[iY,a6,bb]at h;obtain⟨b,c,r,a,rfl⟩:=h;simp[xe a]
theorem Fa{P:Program}{nt:Nat}{ops:Array Oper}:∀{l:List Oper} {aP:List bL} {i:Nat} {o:Oper},iY P nt ops l=some aP->l[i]?=some o->∃a,aP[i]?=some a/\uH P nt ops o=some a
 |[],aP,i,o,h,b=>by grind
 |x::l,aP,i,o,h,b=>by
  simp[iY,a6,bb]at h;obtain⟨a,d,r,c,rfl⟩:=h;cases i with
  |zero=>grind
  |succ i=>simpa using Fa c (by grind)
theorem Gj:∀{l:List (bL×List Nat)} {k i:Nat} {x:bL×List Nat},C4 k l=true->l[i]?=some x->∀d,d∈x.2->d<k+i
 |[],k,i,x,h,b,d,a=>by grind
 |y::r,k,i,x,h,b,d,a=>by
  simp[C4]at h;cases i with
  |zero=>grind
  |succ i=>
   have:=Gj h.2 (by simpa using b) d a;omega
theorem ZV{L:List (bL×List Nat)}{j i:Nat}(h:ahead L j i=true):j<i/\∃x,L[i]?=some x/\j∈x.2:=by
 grind[ahead]
theorem F4{o:b9}{env:Env}{key b:Nat}(ht:o.hP=true)(a:b7 xb o env key b=true):b∈ds xb o env key:=by
 cases o
 case call f args=>
  simp[b7]at a;simp[ds];rcases a with h|h
  . exact .inl ⟨b-key,by omega,by omega⟩
  grind
 case appendT te sz by' x y=>simp only[b7,AF]at a;simp only[ds,fX];exact .inl a
 all_goals simp[b9.hP]at ht<;>simp[b7,ds]at a⊢<;>first|exact a|(rcases a with h|h;exact .inl h;exact .inr (.inl h))
theorem XX{o:b9}{env:Env}{key:Nat}(ht:o.hP=false):ds xb o env key=[]:=by
 cases o<;>simp[b9.hP]at ht<;>rfl
theorem J6{o:b9}{env:Env}{key b:Nat}(a:b7 xb o env key b=true):o.neutral=false:=by
 cases o<;>simp[b7]at a<;>rfl
theorem L6{o:b9}{env:Env}{key b:Nat}(ht:o.hP=false)(a:b7 xb o env key b=true):key<=b/\b<key+16:=by
 cases o<;>simp[b9.hP]at ht<;>simp[b7]at a
section
variable {P:Program}{ao:Ctx}{nt kk:Nat}{N:Nat}{ops:Array Oper}{aP:List bL}{E:Nat->Env}{T:Nat->aF}{G:Nat->Bool}{W:Nat->V}
theorem Rel.afs{φ:db}{S:dj}{env env':Env}{J:aF}{n:Nat->Bool}{a:Act}{w:World}(R:Rel ao nt φ S env J n a w)(h:∀t,look env' t=look env t):Rel ao nt φ S env' J n a w:=
 ⟨R.bm,λk g v ad=>R.fT k g v (h k▸ad),λk g v ad=>R.gJ k g v (h k▸ad),λk g v ad=>R.fS k g v (h k▸ad),R.dp,R.size,R.defers,R.ext,R.own,R.fix,R.fV⟩
def hQ(xb rof:List Nat)(aP:List bL)(E:Nat->Env)(N i b:Nat):Bool:=match aP[i]? with|some o=>!(gY rof o.op)&&b7 xb o.op (E i) (N+16*i) b|none=>false
theorem vd(c:oa xb P aP N E T G W){t:Nat}{i:Nat}:∀{k:Nat},i<=k->k<=aP.length->(∀(j:Nat) (o:bL),i<=j->j<k->aP[j]?=some o->o.dst≠some t)->look (E k) t=look (E i) t:=by
 intro k
 induction k with
 |zero=>grind
 |succ k ih=>
  intro h1 d e;by_cases f:i=k+1
  . grind
  . have a:k<aP.length:=by omega
    have b:=eu a;rw[(c.step k _ b).2,oR]
    grind
theorem Cz(g:oa xb P aP N E T G W)(l:rp rof aP T){b:Nat}{i:Nat}:∀{k:Nat},i<=k->k<=aP.length->(∀j:Nat,i<=j->j<k->hQ xb rof aP E N j b=false)->aJ (T k) b=aJ (T i) b:=by
 intro k
 induction k with
 |zero=>grind
 |succ k ih=>
  intro h1 m e;by_cases n:i=k+1
  . grind
  . have f:k<aP.length:=by omega
    have c:=eu f;have a:=e k (by omega) (by simp);unfold hQ at a;rw[c]at a;cases d:gY rof aP[k].op with
    |true=>
     have:=l k _ c d b
     grind
    |false=>
     simp only[d,fM,kp]at a;have:=((g.step k _ c).1.local (λ_ _=>rfl) (λ_ _=>rfl)).2 b a
     grind
inductive iU (D:Nat->List Nat)(j:Nat):Nat->Prop
 |one {i:Nat} (h:j∈D i):iU D j i
 |step {e i:Nat} (h:iU D j e) (he:e∈D i):iU D j i
theorem iU.ready{D:Nat->List Nat}{n:Nat}{p:Nat->Bool}(a:∀i d,i<n->d∈D i->d<i)(f:∀e,e<n->p e=true->∀d,d∈D e->p d=true){j i:Nat}(h:iU D j i)(hi:i<n)(c:∀d,d∈D i->p d=true):p j=true:=by
 induction h<;>grind
theorem iU.congr{D a:Nat->List Nat}{n:Nat}(c:∀i d,i<n->d∈D i->d<i)(e:∀i,i<n->D i=a i){j i:Nat}(h:iU D j i)(hi:i<n):iU a j i:=by
 induction h with
 |one h=>exact .one (by grind)
 |step h he ih=>
  have:=c _ _ hi he;exact .step (ih (by omega)) (by grind)
theorem Tp{D:Nat->List Nat}:∀{l:List (bL×List Nat)} {acc:List (List Nat)},(∀(k:Nat) x,l[k]?=some x->D (acc.length+k)=x.2)->(∀i j,j∈acc.getD i []->iU D j i)->∀i j,j∈(mY l acc).getD i []->iU D j i
 |[],acc,_,b,i,j,h=>b i j h
 |x::r,acc,c,b,i,j,h=>by
  refine Tp (acc:=acc++[(x.2++x.2.flatMap _).eraseDups]) (λk y m=>?_) (λi j a=>?_) i j h
  . have:=c (k+1) y (by grind)
    grind
  . rw[lU,List.getElem?_append]at a;split at a
    . grind
    . cases d:i-acc.length with
      |succ k=>grind
      |zero=>
       rw[d]at a;have f:i=acc.length:=by omega
       have g:=by simpa using c 0 x rfl
       simp[AN]at a;rcases a with a|⟨e,he,a⟩
       . exact .one (by grind)
       . exact .step (b e j a) (by grind)
structure Stat (xb rof:List Nat)(aP:List bL)(D:Nat->List Nat)(E:Nat->Env)(N:Nat):Prop where
 back:∀i d,i<aP.length->d∈D i->d<i
 vG:∀(i j:Nat) (x y:bL) (d:Nat),aP[i]?=some x->aP[j]?=some y->y.dst=some d->(d∈x.rd->(j<i/\j∈D i)\/(x.op.neutral=true/\x.op.hP=false/\i<j/\i∈D j))/\(i=j\/x.dst≠some d)
 ord:∀i j b,i≠j->i<aP.length->j<aP.length->hQ xb rof aP E N i b=true->((∃y:bL,aP[j]?=some y/\b∈ds xb y.op (E j) (N+16*j))\/hQ xb rof aP E N j b=true)->(i<j/\iU D i j)\/(j<i/\iU D j i)
def used(N m:Nat)(listed:Array Bool):Nat->Bool:=λb=>lt N b||(List.range m).any λi=>listed.getD i false&&(decide (N+16*i<=b)&&decide (b<N+16*i+16))
structure Inv (xb rof:List Nat)(ao:Ctx)(nt:Nat)(aP:List bL)(D:Nat->List Nat)(N:Nat)(E:Nat->Env)(T:Nat->aF)(G:Nat->Bool)(W:Nat->V)(listed:Array Bool)(φ:db)(S:dj)(env:Env)(J:aF)(a:Act)(w:World):Prop where
 rel:Rel ao nt φ S env J (used N aP.length listed) a w
 size:listed.size=aP.length
 down:∀i,i<aP.length->listed.getD i false=true->∀d,d∈D i->listed.getD d false=true
 bM:∀t,(∀(i:Nat) (o:bL),aP[i]?=some o->listed.getD i false=true->o.dst≠some t)->look env t=look (E 0) t
 az:∀t (i:Nat) (o:bL),aP[i]?=some o->listed.getD i false=true->o.dst=some t->look env t=some (G i,W i)
 vE:∀b,(∀i,i<aP.length->listed.getD i false=true->hQ xb rof aP E N i b=false)->aJ J b=aJ (T 0) b
 s1:∀b i,i<aP.length->listed.getD i false=true->hQ xb rof aP E N i b=true->(∀j,j<aP.length->listed.getD j false=true->hQ xb rof aP E N j b=true->j<=i)->aJ J b=aJ (T (i+1)) b
theorem jo{listed:Array Bool}{i j:Nat}(hi:i<listed.size):(listed.setIfInBounds i true).getD j false=if j=i then true else listed.getD j false:=by
 by_cases h:j=i
 . simp_all
 simp_all[cW]
theorem Inv.agree {listed:Array Bool}{D:Nat->List Nat}{φ:db}{S:dj}{env:Env}{J:aF}{a:Act}{w:World}(ch:Inv xb rof ao nt aP D N E T G W listed φ S env J a w)(st:Stat xb rof aP D E N)(q:oa xb P aP N E T G W)(Z:rp rof aP T)
 {i:Nat}{o:bL}(B:aP[i]?=some o)(aA:listed.getD i false=false)(O:∀d,d∈D i->listed.getD d false=true):
 (∀t,t∈o.rd->look env t=look (E i) t)/\∀b,b∈ds xb o.op (E i) (N+16*i)\/b7 xb o.op (E i) (N+16*i) b=true->aJ J b=aJ (T i) b:=by
 have hi:i<aP.length:=(dO.1 B).1;refine⟨λt ht=>?_,λb f=>?_⟩
 . by_cases am:∃(j:Nat) (y:bL),aP[j]?=some y/\y.dst=some t
   . obtain⟨j,y,c,F⟩:=am;rcases (st.vG i j o y t B c F).1 ht with⟨h1,M⟩|⟨_,_,h1,M⟩
     . rw[ch.az t j y c (O j M) F];have:look (E (j+1)) t=some (G j,W j):=by rw[(q.step j y c).2,oR,ab F]
       rw[<-this]
       symm
       refine vd q (by omega) (by omega) λk z R U v L=>?_
       rcases (st.vG k j z y t v c F).2 with h|h
       all_goals grind
     . have x:j<aP.length:=(dO.1 c).1;have a1:∀(k:Nat) (z:bL),aP[k]?=some z->z.dst=some t->k=j:=by
        intro k z v L;rcases (st.vG k j z y t v c F).2 with h|h
        . grind
        grind
       rw[ch.bM t λk z v ad L=>by
        have:=a1 k z v L;subst this;have:=ch.down k x ad i M
        grind]
       symm
       refine vd q (lb _) (by omega) λk z _ a3 v L=>?_
       grind
   . have H:=λj y c h=>am ⟨j,y,c,h⟩
     rw[ch.bM t λj y c _=>H j y c]
     symm
     exact vd q (lb _) (by omega) λj y _ _ c=>H j y c
 . have an:∀j,j≠i->j<aP.length->hQ xb rof aP E N j b=true->(j<i/\iU D j i)\/(i<j/\iU D i j):=by
    intro j x g A;refine st.ord j i b x g hi A ?_;rcases f with f|f
    . exact .inl ⟨o,B,f⟩
    . cases K:gY rof o.op with
      |true=>exact .inl ⟨o,B,F4 (by unfold gY at K;split at K;rename_i e;rw[e];rfl;cases K) f⟩
      |false=>exact .inr (by unfold hQ;rw[B];simp[K,f])
   have ad:∀j,j<aP.length->listed.getD j false=true->hQ xb rof aP E N j b=true->j<i:=by
    intro j g Y A;have a0:j≠i:=by grind
    rcases an j a0 g A with h|h
    . grind
    . have:=h.2.ready st.back ch.down g (ch.down j g Y)
      grind
   have aI:∀j,j<i->hQ xb rof aP E N j b=true->listed.getD j false=true:=by
    intro j a2 A;rcases an j (by omega) (by omega) A with h|h
    . exact h.2.ready (p:=λk=>listed.getD k false) st.back ch.down hi O
    grind
   by_cases ap:∃j,j<i/\hQ xb rof aP E N j b=true
   . obtain⟨j,ax,Q,aG⟩:=HI ap;rw[ch.s1 b j (by omega) (aI j ax Q) Q (λk R U X=>aG k (ad k R U X) X)];have:=Cz q Z (b:=b) (i:=j+1) (k:=i) (by omega) (by omega)
     grind
   . have H:∀j,j<i->hQ xb rof aP E N j b=false:=by grind
     rw[ch.vE b λj g Y=>by grind]
     symm
     exact Cz q Z (lb _) (by omega) λj _ x=>H j x
theorem abC{m:Nat}{listed:Array Bool}{i b:Nat}(hi:i<listed.size)(h:er (used N m listed) (N+16*i) b=true)(a:i<m):used N m (listed.setIfInBounds i true) b=true:=by
 simp only[er,used,ko]at h⊢
 grind[jo]
theorem I6{m:Nat}{listed:Array Bool}{i:Nat}(aA:listed.getD i false=false){b:Nat}(h1:N+16*i<=b)(a:b<N+16*i+16):used N m listed b=false:=by
 simp only[used]
 grind[lt]
theorem Inv.step {listed:Array Bool}{D:Nat->List Nat}{φ Q:db}{S bH:dj}{env:Env}{J bg:aF}{a A:Act}{w w':World}(ch:Inv xb rof ao nt aP D N E T G W listed φ S env J a w)(st:Stat xb rof aP D E N)(an:oa xb P aP N E T G W)(L:rp rof aP T)
 {i:Nat}{o:bL}(q:aP[i]?=some o)(aA:listed.getD i false=false)(F:∀d,d∈D i->listed.getD d false=true)
 (X:∀b,aJ bg b=if b7 xb o.op (E i) (N+16*i) b then aJ (T (i+1)) b else aJ J b)
 (R:Rel ao nt Q bH (dX env o.dst (G i) (W i)) bg (er (used N aP.length listed) (N+16*i)) A w'):
 Inv xb rof ao nt aP D N E T G W (listed.setIfInBounds i true) Q bH (dX env o.dst (G i) (W i)) bg A w':=by
 have hi:i<aP.length:=(dO.1 q).1;have f:i<listed.size:=by rw[ch.size];exact hi
 have Y:=(ch.agree st an L q aA F).2;have ax:∀b,hQ xb rof aP E N i b=(!(gY rof o.op)&&b7 xb o.op (E i) (N+16*i) b):=λb=>by unfold hQ;rw[q]
 have B:∀b,aJ bg b=if hQ xb rof aP E N i b then aJ (T (i+1)) b else aJ J b:=by
  intro b;rw[X b,ax];cases am:gY rof o.op with
  |false=>rfl
  |true=>
   simp only[eb,yg,cN,cv];split
   . rename_i g;rw[L i o q am b,Y b (.inr g)]
   . rfl
 refine⟨R.more λb g=>abC f g hi,by simp[ch.size],λj c ad d H=>?_,λt ht=>?_,λt j y x ad O=>?_,λb g=>?_,λb j c ad M K=>?_⟩
 . rw[jo f]at ad⊢;split
   . rfl
   . split at ad
     . rename_i e;subst e;exact F d H
     . exact ch.down j c ad d H
 . rw[oR,ag (ht i o q (by rw[jo f,ab rfl]))];exact ch.bM t λj y x ad=>ht j y x (by rw[jo f];split;rfl;exact ad)
 . rw[oR];rw[jo f]at ad;by_cases p:j=i
   . grind
   . rw[ag p]at ad;rw[ag (λh=>?_)]
     . exact ch.az t j y x ad O
     . rcases (st.vG i j o y t q x O).2 with U|U
       all_goals grind
 . rw[B b];have v:=g i hi (by rw[jo f,ab rfl]);rw[v];exact ch.vE b λj c ad=>g j c (by grind[jo])
 . rw[B b];rw[jo f]at ad;by_cases v:hQ xb rof aP E N i b=true
   . have aG:i<=j:=K i hi (by simp_all) (by grind);by_cases p:j=i
     . grind
     ·
      rw[ag p]at ad;rcases st.ord i j b (cW p) hi c v (.inr M)with h|h
      . have:=h.2.ready st.back ch.down c (ch.down j c ad);rw[aA]at this;cases this
      . omega
   . rw[ag v];by_cases p:j=i
     . grind
     . rw[ag p]at ad;exact ch.s1 b j c ad M λk Z aI ap=>K k Z (by grind[jo]) ap
theorem Inv.done {listed:Array Bool}{D:Nat->List Nat}{φ:db}{S:dj}{env:Env}{J:aF}{a:Act}{w:World}(ch:Inv xb rof ao nt aP D N E T G W listed φ S env J a w)(st:Stat xb rof aP D E N)(f:oa xb P aP N E T G W)(q:rp rof aP T)
 (A:∀i,i<aP.length->listed.getD i false=true):Rel ao nt φ S (E aP.length) (T aP.length) (lt (N+16*aP.length)) a w:=by
 refine((ch.rel.afs λt=>?_).congr λb=>?_).more λb B=>?_
 . by_cases v:∃(j:Nat) (y:bL),aP[j]?=some y/\y.dst=some t
   . obtain⟨j,y,c,x⟩:=v;have o:=(dO.1 c).1;rw[ch.az t j y c _ _];have:look (E (j+1)) t=some (G j,W j):=by rw[(f.step j y c).2,oR,ab x]
     rw[<-this];refine vd f (by omega) (eJ _) λk z g M Q R=>?_
     rcases (st.vG k j z y t Q c x).2 with h|h
     all_goals grind
   . have e:=λj y c h=>v ⟨j,y,c,h⟩
     rw[ch.bM t λj y c _=>e j y c];exact vd f (lb _) (eJ _) λj y _ _ c=>e j y c
 . by_cases F:∃j,j<aP.length/\hQ xb rof aP E N j b=true
   . obtain⟨j,p,H,K⟩:=HI F;rw[ch.s1 b j p (A j p) H (λk g _ O=>K k g O)];refine Cz f q (by omega) (eJ _) λk g M=>?_
     grind
   . have e:∀j,j<aP.length->hQ xb rof aP E N j b=false:=by grind
     rw[ch.vE b λj L _=>e j L];exact Cz f q (lb _) (eJ _) λj _ o=>e j o
 . simp[used,lt]at B⊢
   grind
theorem W3 {D:Nat->List Nat}(st:Stat xb rof aP D E N)(m:oa xb P aP N E T G W)(q:rp rof aP T)(hres:iY P nt ops ops.toList=some aP)(r:∀(i:Nat) o,ops[i]?=some o->D i=gT o){Q:Exit->Act->World->Prop}
 (x:∀φ S a w,Rel ao nt φ S (E aP.length) (T aP.length) (lt (N+16*aP.length)) a w->Q .normal a w):
 ∀(f:Nat) (listed:Array Bool) φ S env J a w,listed.toList.countP (· ==false)<=f->Inv xb rof ao nt aP D N E T G W listed φ S env J a w->wpAny P .any ops Q f listed a w:=by
 have H:=xe hres;simp at H;have I:∀(listed:Array Bool) (φ:db) (S:dj) (env:Env) (J:aF) (a:Act) (w:World),Inv xb rof ao nt aP D N E T G W listed φ S env J a w->Region.ready .any ops listed=[]->∀i,i<aP.length->listed.getD i false=true:=by
  intro listed φ S env J a w ch j i
  induction i using Nat.strongRecOn with
  |_ i ih=>
   intro hi;cases ad:listed.getD i false with
   |true=>rfl
   |false=>
    have F:i<ops.size:=by omega
    have g:ops[i]?=some ops[i]:=AZ F;have:i∈Region.ready .any ops listed:=by
     rw[mem_ready];refine⟨?_,ops[i],g,λe he U=>?_⟩
     . have l:i<listed.size:=by rw[ch.size];grind
       grind
     . have c:e.on∈D i:=by
        rw[r i _ g];simp only[gT,hM,ye]
        grind
       exact ih e.on (st.back i _ hi c) (by have:=st.back i _ hi c;omega)
    grind
 have t:∀(listed:Array Bool) (φ:db) (S:dj) (env:Env) (J:aF) (a:Act) (w:World),Inv xb rof ao nt aP D N E T G W listed φ S env J a w->Region.ready .any ops listed=[]->Q .normal a w:=by
  intro listed φ S env J a w ch j;exact x φ S a w (ch.done st m q (I listed φ S env J a w ch j))
 intro f
 induction f with
 |zero=>
  intro listed φ S env J a w C ch;have R:∀i,i<aP.length->listed.getD i false=true:=by
   intro i hi;have l:i<listed.size:=by rw[ch.size];grind
   cases ad:listed.getD i false with
   |true=>rfl
   |false=>
    exfalso
    have h0:listed.toList.countP (· ==false)=0:=by omega
    rw[List.countP_eq_zero]at h0;simp[l]at ad;exact h0 listed[i] (by simp) (by grind)
  have j:Region.ready .any ops listed=[]:=by
   rw[P5]
   grind[mem_ready]
  exact⟨j,t listed φ S env J a w ch j⟩
 |succ f ih=>
  intro listed φ S env J a w C ch;refine⟨t listed φ S env J a w ch,λi hi=>?_⟩;rw[mem_ready]at hi;obtain⟨h1,o,g,V⟩:=hi;have l:i<listed.size:=by grind
  have aA:listed.getD i false=false:=by grind
  obtain⟨n,p,L⟩:=Fa hres (i:=i) (o:=o) (by simpa using g);have c:∀d,d∈D i->listed.getD d false=true:=by
   intro d c;rw[r i o g]at c;simp only[gT,hM,ye]at c
   grind
  obtain⟨y,z⟩:=ch.agree st m q p aA c;obtain⟨⟨bg,hs,v⟩,_⟩:=(m.step i n p).1.local (env':=env) (J':=J) y z;have u:=B1 ch.rel (key:=N+16*i) (λb A B=>I6 aA A B) L (K:=λe s=>e=dX env n.dst (G i) (W i)/\s=bg) (hs.fP ⟨rfl,rfl⟩) (Q:=Q)
  have next:∀k w',jC ao nt (er (used N aP.length listed) (N+16*i)) (λe s=>e=dX env n.dst (G i) (W i)/\s=bg) k w'->wpAny P .any ops Q f (listed.setIfInBounds i true) k w':=by
   rintro k w' ⟨O,bH,e,s,⟨rfl,rfl⟩,R'⟩
   refine ih _ O bH _ _ k w' ?_ (ch.step st m q p aA c v R');have:listed.toList[i]?=some false:=by simp[l]at aA⊢;exact aA
   grind
  unfold wpOp;rw[g];dsimp only;split at u
  . rename_i M;rw[ab M];exact .inl (Oper.wp_mono next u)
  grind
end
end
end Go.Proofs.YtfcnkdegapjgnaaGreatDoor.Shv
