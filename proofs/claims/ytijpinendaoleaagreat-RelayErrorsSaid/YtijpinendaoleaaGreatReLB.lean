/- The library of this proof, part B: an abstract machine for the code of the program, and its soundness. -/
import Derived.Lib.UnsafeStr
import Derived.Orders
import Derived.LoopN
import Derived.Test.YtijpinendaoleaaGreatReLA

namespace Go.Proofs.YtijpinendaoleaaGreat.Shv
set_option linter.all false
section
open Go
theorem C.Um(c:C):c.cx (λ_=>true)=true:=by cases c <;> simp[C.cx]
section
variable {P:Program} {cv:Ctx} {nt kk:Nat} {φ:q4} {S hK:r3} {env:Env} {J:ep} {N key:Nat} {n:Nat->Bool} {a:Act} {w w':World}
theorem Rel.extend(R:Rel cv nt φ S env J n a w)(e:Ext (λ_=>False) S hK w w')(n2:∀b j,hK b j->b < w'.heap.size):Rel cv nt φ hK env J n a w':=by
 have ak:∀b:Nat,b < w.heap.size->w'.heap[b]?=w.heap[b]?:=λb ai=>e.block b ai (λh=>h)
 have DI:∀b x,ec J b=some x->(φ b).2≠0->∀j,¬hK (φ b).1 j:=by
  intro b x aa h0 j dx;have u0:=R.hJ.blk b x aa;rcases e.Zi _ _ dx with h | h | h
  . exact u0.XF h0 j h
  . exact h
  . have:=u0.Qo h0;omega
 refine⟨⟨λb x aa=>?_,R.hJ.inj,n2⟩,λk g v aJ a8=>?_,R.MY,R.LL,R.u2,R.size,R.defers,?_,R.own,R.fix,R.J7⟩
 . have u0:=R.hJ.blk b x aa;cases x with
   | box cs=>
    obtain⟨h0,vs,E,h1,ah,bJ⟩:=u0;refine⟨h0,vs,E,(ak _ (SS h1)).trans h1,ah.imp λc v ay ar=>gb.mono (n:=λ_=>true) e.mono (λ_ _=>rfl) (C.Um _) ar,DI b _ aa h0⟩
   | arr sz es=>
    obtain⟨h1,ah,bJ,ea,hi⟩:=u0;refine⟨h1,ah,bJ,ea,λh0=>?_⟩;obtain⟨vs,E,hg,hl,j2,px⟩:=hi h0;exact⟨vs,E,(ak _ (SS hg)).trans hg,hl,λi j qa t he ht=>let⟨v,cJ,ar⟩:=j2 i j qa t he ht;⟨v,cJ,ik.mono e.mono ar⟩,DI b _ aa h0⟩
   | set ks=>
    obtain⟨h0,⟨es,c,h1,ah⟩,bJ⟩:=u0;exact⟨h0,⟨es,c,(ak _ (SS h1)).trans h1,ah⟩,DI b _ aa h0⟩
   | buf E s=>
    obtain⟨h1,ah,bJ⟩:=u0;refine⟨h1,ah,λh0=>?_⟩
    grind
   | h4 E c=>
    obtain⟨h0,⟨p,v,h1,ah,bJ⟩,ea⟩:=u0;exact⟨h0,⟨p,v,(ak _ (SS h1)).trans h1,ah,gb.mono (n:=λ_=>true) e.mono (λ_ _=>rfl) (C.Um _) bJ⟩,DI b _ aa h0⟩
   | k6 sz es i o c=>
    obtain⟨⟨h1,ah,bJ,ea,hi,q0⟩,⟨vs,E,hg,hl,j2,v,px,mJ⟩,nJ⟩:=u0;exact⟨⟨h1,ah,bJ,ea,hi,q0⟩,⟨vs,E,(ak _ (SS hg)).trans hg,hl,λi j qa t he ht g'=>let⟨v,cJ,ar⟩:=j2 i j qa t he ht g';⟨v,cJ,ik.mono e.mono ar⟩,v,px,gb.mono (n:=λ_=>true) e.mono (λ_ _=>rfl) (C.Um _) mJ⟩,DI b _ aa (by omega)⟩
 . obtain⟨x,aa,ar⟩:=R.LM k g v aJ a8;exact⟨x,aa,km.mono e.mono (λ_ _=>rfl) (R.LL k g v aJ a8) ar⟩
 . refine⟨e.os.trans R.ext.os,e.tape.trans R.ext.tape,e.output.trans R.ext.output,SH R.ext.size e.size,λb ey u0=>?_,R.ext.mono.trans e.mono,λb j dx=>?_⟩
   . exact(ak b (TF ey R.ext.size)).trans (R.ext.block b ey u0)
   . rcases e.Zi _ _ dx with h | h | h
     . exact R.ext.Zi b j h
     . exact h.elim
     . exact .inr (.inr (SH R.ext.size h))
theorem aEc (R:Rel cv nt φ S env J n a w) {o:Oper} {ty:TypeId} {len:Nat} {parts:Array (Nat×Operand)} (c7:o.op= .buildSlice ty len parts) {e:TypeId} (pq:P.underlying ty=some (.slice e)) {sz:Nat} (hI:C4 P e=some sz)
 {z:List C} (gA:Rn P e=some z) {ps:List (Nat×dJ)} (BJ:Wz parts.toList=some ps) (h0:sz≠0) (MJ:z.length=sz) (hle:len*sz<=2 ^ 24)
 {p v J'} (hk:n key=false) (h:dy (.bsliceT e sz len z ps) env J key=some (p,v,J')) (a7:p):Good P cv nt env J' (ins n key) a v ((execOp a.eval o).run P w):=by
 simp only[dy,ha,fr,hy]at h;obtain⟨NL,Q4,⟨q,ds⟩,ai,rfl,rfl,rfl⟩:=h;obtain⟨i,H',al,Q5,ny,K3⟩:=abA (φ:=φ) (w:=w) (S:=S) (n:=n) gA;have N1:=Zv Q4 ny;have aoN:H'.cells.size=sz:=by rw[<-Y7,<-ny.length,MJ]
 have YY:0 < sz:=by omega
 have aLk:NL.length=sz:=by rw[aet Q4,MJ]
 obtain ⟨us, h1, ah, bJ, ea, hi, _⟩ := alB R YY BJ ai a7 (es := List.replicate len NL) (vs := ((Array.range (len * sz)).map (H'.cells[· % H'.cells.size]!)).toList) (by
  grind) (by simp) (by
  intro i j e t he ht;have al:=(pJ.1 he).1;simp at al;have:e=NL:=by
   have:=DJ he;exact ajS this
  subst this;have dx:=(pJ.1 ht).1;obtain⟨x,aa,ar⟩:=N1.get ht;refine⟨x,?_,ar⟩;rw[ao6,asf aoN YY i j al (by omega)]
  simpa using aa)
 simp at bJ;have aju:us.length=len*sz:=by rw[ea];simp
 have hlen:len<=Jf:=by
  have:len<=len*sz:=ao5 len YY;unfold Jf;omega
 have n2:∀b j,S b j->b < w.heap.size:=R.hJ.st;have m0:Lm w S (w.alloc (.cells us.toArray e)) (λb j=>S b j\/b=w.heap.size):=⟨λ_ _ h=>.inl h,λb j h=>Yh (ahr (n2 b j h)) j⟩
 have aza:Ext (λ_=>False) S (λb j=>S b j\/b=w.heap.size) w (w.alloc (.cells us.toArray e)):=
  ⟨rfl,rfl,rfl,by simp,λb ai _=>ahr ai,m0,λb j h=>by grind⟩
 have jJ:=R.extend aza (λb j h=>by
  rcases h with h | h
  . have:=n2 b j h;simp;omega
  simp_all)
 refine⟨.slice (some ⟨w.heap.size,0,none⟩) len len,φ,_,_,.inl ?_,?_,rfl,jJ.more λ_ h=>QH h⟩
 . have J3:Instr.fill (λi=>some (i*sz,sz)) ((Array.range (len*sz)).map (H'.cells[· % H'.cells.size]!)) ((parts.map λ(i,x)=>(i,a.eval x)).toList)=some us.toArray:=by
    rw[Array.toList_map];exact h1
   have ar:=aro (P:=P) (w:=w) pq hI al Q5 h0 hle rfl J3;simp only[execOp,c7,Sem.run_bind,ar,Result.andThen_ok];rfl
 . refine .c ?_;have Q0:ds.length=len:=bJ;show ik _ _ (.slice ds) _;rw[<-Q0]at hlen ⊢;have sK:∀j,(w.alloc (.cells us.toArray e)).cell? ⟨w.heap.size,j,none⟩=us[j]?:=λj=>OZ W1 j
   refine ik.slice ds _ _ sz w.heap.size 0 (λi j=>(us[i*sz+j]?).getD undef) (JA _) hlen ah (λ_=>rfl) (λi j al dx=>⟨.inr rfl,?_⟩) (λi j qa t he ht=>?_)
   . rw[Jq,sK];have ey:i*sz+j < us.length:=by
      have:=Ji sz (show i+1<=ds.length from al)
      grind
     rw[CJ ey];rfl
   . obtain⟨v,cJ,ar⟩:=hi i j qa t he ht;rw[cJ];exact ik.mono m0 ar
theorem aCN{ty:TypeId}{e8:Nat}(h:aeq P ty=some e8):∃i z,P.info? ty=some i/\i.zero=some z/\z.cells=#[.pointer none,.slice none 0 0]:=by
 unfold aeq at h;by_cases ay:atp P ty=true/\al2 P ty=true
 . obtain⟨_,ay⟩:=ay;unfold al2 at ay;cases gA:(P.info? ty).bind (·.zero)with
   | none=>rw[gA]at ay;cases ay
   | some z=>
    rw[gA]at ay;simp only[ha]at gA;obtain⟨i,al,gA⟩:=gA;refine⟨i,z,al,gA,?_⟩;dsimp only at ay;unfold asb at ay
    grind
 grind
theorem aDQ (R:Rel cv nt φ S env J n a w) {o:Oper} {ty:TypeId} (c7:o.op= .alloc ty) {e8:Nat} (anU:aeq P ty=some e8)
 {p v J'} (hk:n key=false) (LR:n (key+1)=false) (h:dy (.allocS ty e8) env J key=some (p,v,J')) (a7:p):Good P cv nt env J' (ins (ins n (key+1)) key) a v ((execOp a.eval o).run P w):=by
 simp only[dy,hz,hy]at h;obtain⟨rfl,rfl,rfl⟩:=h;obtain⟨i,z,al,gA,aLi⟩:=aCN anU;have YV:∀j,¬S w.heap.size j:=λj h=>by have:=R.hJ.st _ _ h;omega
 have jJ:=(R.alloc (.cells #[.pointer none,.slice none 0 0] ty)).PR LR (x:= .buf e8 []) (0,0) rfl (by simp[pr,ii]) (by simp);have YT:ins n (key+1) key=false:=by simp[ins,hk]
 have u4:=jJ.PR YT (x:= .h4 ty (.l' (key+1) 0)) (w.heap.size,1) (by simp[hE.cx,C.cx,ins]) (by
  simp only[pr,ii];refine⟨by simp,⟨.pointer none,.slice none 0 0,W1,.inl rfl,?_⟩,YV⟩
  simp[gb,JV]) (λ_=>⟨λk y b8 h0=>by
   rw[o']at b8;split at b8
   . rename_i e;subst e;simp[ii]at h0
   . rename_i hv;have yJ:(φ k).2≠0:=by simpa[JV,tJ hv]using h0
     have:=(R.hJ.blk k y b8).Qo yJ;simp only[JV,tJ hv,vv]
     omega,.inr R.ext.size⟩)
 refine⟨.pointer (some ⟨w.heap.size,0,none⟩),_,S,_,.inl ?_,.c ?_,by simp[V.cx,C.cx,ins],u4⟩
 . simp[execOp,c7,Instr.alloc,zeroValue,typeInfo,al,gA,newVar,newRow,aLi]
 . simp[gb,ii]
theorem aqy{t:TypeId}(h:Zy P t=true):∃k v i,P.underlying t=some (.map k v)/\P.underlying k=some .string/\P.info? v=some i/\i.zero=some (.bool false):=by
 unfold Zy at h;split at h
 . rename_i k v hu;simp only[kc]at h;obtain⟨h1,ah⟩:=h;split at h1
   . rename_i hk cJ;split at ah
     . rename_i gA;simp only[ha]at gA
       grind
     . cases ah
   . cases h1
 . cases h
theorem aE1 (R:Rel cv nt φ S env J n a w) {o:Oper} {t:TypeId} (c7:o.op= .makeMap t none)
 {p v J'} (hk:n key=false) (h:dy .mkset env J key=some (p,v,J')) (a7:p):Good P cv nt env J' (ins n key) a v ((execOp a.eval o).run P w):=by
 simp only[dy,hz,hy]at h;obtain⟨rfl,rfl,rfl⟩:=h;have YV:∀j,¬S w.heap.size j:=λj h=>by have:=R.hJ.st _ _ h;omega
 have u4:=(R.alloc (.map #[] 0)).PR hk (x:= .set []) (w.heap.size,1) rfl (by
  simp only[pr,ii]
  exact⟨by simp,⟨[],0,W1,.nil⟩,YV⟩) (λ_=>⟨λk y b8 h0=>by
   have:=(R.hJ.blk k y b8).Qo h0
   omega,.inr R.ext.size⟩)
 refine⟨.map (some w.heap.size),_,S,_,.inl ?_,.c ?_,by simp[V.cx,C.cx,ins],u4⟩
 . simp[execOp,c7,Instr.makeMap]
 . simp[gb,ii]
theorem aDR{s:ByteArray}{k:List UInt8}:(s==(⟨k.toArray⟩:ByteArray))=decide (k=s.data.toList):=by
 rw[beq_toListBytes,ByteArray.toList_eq,ByteArray.toList_eq]
 grind
theorem ak3(s:ByteArray):∀{ks:List (List UInt8)} {es:List MapEntry} (i:Nat),agS ks es ->
 (OO ks s.data.toList=false/\Instr.findNow .string (.string s) es i=some none)\/
 (OO ks s.data.toList=true/\∃j e,Instr.findNow .string (.string s) es i=some (some (i+j,.bool true))/\es[j]?=some e/\e.key= .string s/\e.val= .bool true)
 | _,_,i,.nil=>.inl ⟨rfl,rfl⟩
 | k::ks,e::es,i,.cons h ar=>by
  obtain⟨h1,ah⟩:=h;have ai:(s==(⟨k.toArray⟩:ByteArray))=decide (k=s.data.toList):=aDR;by_cases J5:k=s.data.toList
  . refine .inr ⟨by simp[OO,J5],0,e,?_,rfl,?_,ah⟩
    . rw[show decide (k=s.data.toList)=true by simp[J5]]at ai;simp only[Instr.findNow,h1,Instr.sameNow,ai,ah,TJ]
    simp_all
  . rcases ak3 s (i+1) ar with⟨g1,g2⟩ | ⟨g1,j,qa,g2,g3,g4,g5⟩
    . refine .inl ⟨by simpa[OO,J5]using g1,?_⟩;rw[show decide (k=s.data.toList)=false by simp[J5]]at ai;simp only[Instr.findNow,h1,Instr.sameNow,ai];exact g2
    . refine .inr ⟨by simpa[OO,J5]using g1,j+1,qa,?_,by simpa using g3,g4,g5⟩;rw[show decide (k=s.data.toList)=false by simp[J5]]at ai;simp only[Instr.findNow,h1,Instr.sameNow,ai]
      grind
theorem ahE{Y1:TypeId}(hk:P.underlying Y1=some .string){s:ByteArray}{es:List MapEntry}{r:Option (Nat×Value)}(h:Instr.findNow .string (.string s) es 0=some r)(w:World):(Instr.findKey Y1 (.string s) es).run P w= .ok r w:=by
 unfold Instr.findKey;simp only[Sem.run_bind,run_underlying hk,Result.andThen_ok,h,Sem.run_pure]
theorem ahx{Y1:TypeId}(hk:P.underlying Y1=some .string){s:ByteArray}(b:Bool)(w:World):(Instr.checkKey b 10000 Y1 (.string s)).run P w= .ok () w:=by
 show(Instr.checkKey b (9999+1) Y1 (.string s)).run P w= .ok () w;unfold Instr.checkKey;simp only[Sem.run_bind,run_underlying hk,Result.andThen_ok,Sem.run_pure]
theorem aho{b:Nat}{es:Array MapEntry}{c:Nat}(h:w.heap[b]?=some (.map es c)):(getObj b).run P w= .ok (.map es c) w:=by simp[getObj,Sem.run,h]
theorem arZ{b:Nat}{es:Array MapEntry}{c:Nat}(o:Obj)(h:w.heap[b]?=some (.map es c)):(setObj b o).run P w= .ok () {w with heap:=w.heap.setIfInBounds b o}:=by
 simp[setObj,Sem.run,h]
theorem aE2 (R:Rel cv nt φ S env J n a w) {o:Oper} {t:TypeId} {x k:Operand} (c7:o.op= .lookup t x k false) (ht:Zy P t=true) {hc ae3:dJ} (aa:hC x=some hc) (j1:hC k=some ae3)
 {p v J'} (hk:n key=false) (h:dy (.lkset hc ae3) env J key=some (p,v,J')) (a7:p):Good P cv nt env J' (ins n key) a v ((execOp a.eval o).run P w):=by
 simp only[dy,ha]at h;obtain⟨⟨EJ,Hr⟩,iJ,⟨aLP,Wb⟩,aoa,he⟩:=h;simp only at he;obtain⟨Y1,ay0,i,hu,Xs,al,gA⟩:=aqy ht;split at he
 . rename_i b s;split at he
   . rename_i ks kx;simp only[hz,hy]at he;obtain⟨rfl,rfl,rfl⟩:=he;have h1:a.eval x= .map (some (φ b).1):=(f5 R aa iJ a7.1).1.xn;obtain⟨bs,ah,rfl,_⟩:=km.Qr (f5 R j1 aoa a7.2).1;obtain⟨h0,⟨es,aah,ak,C'⟩,DI⟩:=R.hJ.blk _ _ kx;refine Good.pure R (x:= .bool (OO ks bs.data.toList)) ?_ (.aae _) rfl
     have N1:(zeroValue ay0).run P w= .ok (.bool false) w:=by simp[zeroValue,typeInfo,al,gA]
     have c6:=ak3 bs 0 C';rcases c6 with⟨g1,g2⟩ | ⟨g1,j,e,g2,_⟩
     . simp[execOp,c7,h1,ah,Instr.lookup,run_underlying hu,aho ak,ahx Xs,ahE Xs g2,N1,g1]
     . simp[execOp,c7,h1,ah,Instr.lookup,run_underlying hu,aho ak,ahx Xs,ahE Xs g2,g1]
   . cases he
 . cases he
theorem aEj{ks:List (List UInt8)}{es:List MapEntry}(h:agS ks es)(s:ByteArray)(aah:Nat):agS (ks++[s.data.toList]) (es++[{key:= .string s,val:= .bool true,born:=aah}]):=
 h.append (.cons ⟨by cases s;simp,rfl⟩ .nil)
theorem ez.modify{α β:Type}{R:α->β->Prop}{f:β->β}:∀{l:List α} {m:List β} {j:Nat},ez R l m->(∀a b,R a b->m[j]?=some b->R a (f b))->ez R l (m.modify j f)
 | _,_,_,.nil,_=>by simpa using ez.nil
 | _,_,0,.cons h ar,k=>.cons (k _ _ h rfl) ar
 | _,_,j+1,.cons h ar,k=>by
  simp only[List.modify_succ_cons];exact .cons h (ez.modify ar λa b ze ai=>k a b ze (by simpa using ai))
theorem aE3 (R:Rel cv nt φ S env J n a w) {o:Oper} {t:TypeId} {x k v0:Operand} (c7:o.op= .mapUpdate t x k v0) (ht:Zy P t=true) (nk:ak1 v0=true) {hc ae3:dJ} (aa:hC x=some hc) (j1:hC k=some ae3)
 {p v J'} (hk:n key=false) (h:dy (.upset hc ae3) env J key=some (p,v,J')) (a7:p):Good P cv nt env J' (ins n key) a v ((execOp a.eval o).run P w):=by
 simp only[dy,ha]at h;obtain⟨⟨EJ,Hr⟩,iJ,⟨aLP,Wb⟩,aoa,he⟩:=h;simp only at he;obtain⟨Y1,ay0,i,hu,Xs,al,gA⟩:=aqy ht;have VW:a.eval v0= .bool true:=by
  unfold ak1 at nk;split at nk
  . rfl
  . cases nk
 split at he
 . rename_i b s;split at he
   . rename_i ks kx;simp only[hz,hy]at he;obtain⟨rfl,rfl,rfl⟩:=he;have h1:a.eval x= .map (some (φ b).1):=(f5 R aa iJ a7.1).1.xn;obtain⟨bs,ah,rfl,_⟩:=km.Qr (f5 R j1 aoa a7.2).1;obtain⟨h0,⟨es,aah,ak,C'⟩,DI⟩:=R.hJ.blk _ _ kx;have ey:=SS ak
     have aLs:∃es' amN,(execOp a.eval o).run P w= .ok .skip {w with heap:=w.heap.setIfInBounds (φ b).1 (.map es' amN)}/\agS (OH ks bs.data.toList) es'.toList:=by
      have c6:=ak3 bs 0 C';rcases c6 with⟨g1,g2⟩ | ⟨g1,j,e,g2,g3,g4,g5⟩
      . refine⟨es.toArray.push {key:= .string bs,val:= .bool true,born:=aah},aah+1,?_,?_⟩
        . simp[execOp,c7,h1,ah,VW,Instr.mapUpdate,run_underlying hu,aho ak,ahx Xs,ahE Xs g2,arZ _ ak]
        . simp only[OH,g1,u1,vv,List.push_toArray,Array.toList_push]
          simpa using aEj C' bs aah
      . refine⟨es.toArray.modify j λe=>{e with key:= .string bs,val:= .bool true},aah,?_,?_⟩
        . have wk:Instr.sameBits 10000 (Value.string bs) (Value.string bs)=true:=by
           show Instr.sameBits (9999+1) _ _=true;simp only[Instr.sameBits];rw[beq_toListBytes];simp
          have J5:∀w,(Instr.keyThatStays (Value.string bs) (Value.string bs)).run P w= .ok (Value.string bs) w:=by intro w;unfold Instr.keyThatStays;rw[wk];rfl
          rw[Jq]at g2;simp[execOp,c7,h1,ah,VW,Instr.mapUpdate,run_underlying hu,aho ak,ahx Xs,ahE Xs g2,arZ _ ak,g3,g4,J5]
        . simp only[OH,g1,q'];rw[Array.toList_modify];refine ez.modify C' λix qa aM8 Jx=>?_
          grind
     obtain⟨es',amN,s',aKf⟩:=aLs;refine⟨undef,φ,S,_,.inr ⟨s',rfl⟩,.undef,rfl,Rel.more ?_ λ_ h=>QH h⟩;refine R.rewrite kx h0 rfl rfl rfl rfl (by simp) (λhj LO=>by simp[ax',tJ LO]) (λm=>?_);exact⟨h0,⟨es'.toList,amN,by simp[ey],aKf⟩,DI⟩
   . cases he
 . cases he
theorem aCp {st HW e:TypeId} {i:TypeInfo} {H':Value} (n2:P.underlying st=some (.slice e)) (G2:P.underlying HW=some .string) (al:P.info? e=some i) (gA:i.zero=some H') (YZ:H'.cells.size=i.size)
 {base:Option Addr} {sl sc wJ:Nat} {y:Value} {xs sJ:List Value} (Jz:(Builtin.lenOf y).run P w= .ok wJ w)
 (aa:(Builtin.firstCells i.size sl (.slice base sl sc)).run P w.drew= .ok xs.toArray w.drew) (b8:(Builtin.firstCells i.size wJ y).run P w.drew= .ok sJ.toArray w.drew)
 (Lp:sc < sl+wJ) (OP:(2*(sl+wJ)+192)*i.bytes<=Pz) (K5:sl+wJ<=Jf) {tt:TypeId}:
 ∃(K9:Nat) (r:List Value),sl+wJ<=K9/\r.length=(K9 - (sl+wJ))*i.size/\
  (Builtin.append_ #[st,HW] tt #[.slice base sl sc,y]).run P w= .ok (.slice (some ⟨w.heap.size,0,none⟩) (sl+wJ) K9) (w.drew.alloc (.cells (xs++sJ++r).toArray e)):=by
 have aaH:∀w,(sizeOf e).run P w= .ok i.size w:=λw=>by simp[sizeOf,typeInfo,al]
 have Xr:∀w,(typeInfo e).run P w= .ok i w:=λw=>by simp[typeInfo,al]
 have hzero:∀w,(zeroValue e).run P w= .ok H' w:=λw=>by simp[zeroValue,Xr,gA]
 generalize afZ:(Question.appendCap (sl+wJ) sc e).cut (w.tape w.drawn (Question.appendCap (sl+wJ) sc e))=K9;have aom:sl+wJ<=K9:=by rw[<-afZ];simp[Question.cut]
 have h1:¬(sl+wJ<=sc):=by omega
 have ah:¬(((sl+wJ:Nat):Int) > IntKind.i64.max/\(False\/i.bytes=0)):=by intro h;have:=h.1;simp[IntKind.max,IntKind.signed,IntKind.bits]at this;unfold Jf at K5;omega
 have bJ:¬(Builtin.nextslicecap (sl+wJ) sc*i.bytes > 2 ^ 48):=by
  have:=Ji i.bytes (arh Lp);unfold Pz at OP;omega
 refine⟨K9,(Builtin.zeroCells H'.cells (K9 - (sl+wJ))).toList,aom,by simp[aqE,YZ],?_⟩;have an5:(choose (.appendCap (sl+wJ) sc e)).run P w= .ok K9 w.drew:=by rw[run_choose];simp only[Question.forced,u1,vv,afZ];rfl
 have e':(xs++sJ++(Builtin.zeroCells H'.cells (K9 - (sl+wJ))).toList).toArray=xs.toArray++sJ.toArray++Builtin.zeroCells H'.cells (K9 - (sl+wJ)):=by grind
 rw[e'];unfold Builtin.append_;simp only[ajV,agA,ajT,Sem.run_bind,run_underlying n2,run_underlying G2,Result.andThen_ok,aaH,Sem.run_pure,u1,vv,Jz,b' h1,Xr];rw[b' (by simpa using ah)];simp only[Sem.run_bind,Sem.run_pure,Result.andThen_ok,Xr];rw[b' bJ]
 simp only[Sem.run_bind,Sem.run_pure,Result.andThen_ok,Xr,an5,run_askRoom,aa,b8,hzero,Ov,q'];simp only[newRow,Sem.run_bind,run_newObj,Result.andThen_ok,Sem.run_pure];rfl
theorem aq8 {st HW e:TypeId} {i:TypeInfo} (n2:P.underlying st=some (.slice e)) (G2:P.underlying HW=some .string) (al:P.info? e=some i)
 {base:Option Addr} {sl sc wJ:Nat} {y:Value} {sJ:List Value} (Jz:(Builtin.lenOf y).run P w= .ok wJ w) (b8:(Builtin.firstCells i.size wJ y).run P w= .ok sJ.toArray w) (Lp:sl+wJ<=sc) {w':World}
 (hs:∀hY,base=some hY->(storeCells (hY.add (sl*i.size)) sJ 0).run P w= .ok () w') (ai:base=none->w'=w) {tt:TypeId}:
  (Builtin.append_ #[st,HW] tt #[.slice base sl sc,y]).run P w= .ok (.slice base (sl+wJ) sc) w':=by
 have aaH:∀w,(sizeOf e).run P w= .ok i.size w:=λw=>by simp[sizeOf,typeInfo,al]
 unfold Builtin.append_;simp only[ajV,agA,ajT,Sem.run_bind,run_underlying n2,run_underlying G2,Result.andThen_ok,aaH,Sem.run_pure,u1,vv,Jz,b6 Lp,b8,Ov,q'];cases base with
 | none=>rw[ai rfl];rfl
 | some hY=>
  simp only[Sem.run_bind,hs hY rfl,Result.andThen_ok];rfl
theorem aD5(w:World)(bs:ByteArray):(Builtin.firstCells 1 bs.size (.string bs)).run P w= .ok (bs.data.toList.map λb=>Value.int .u8 b.toNat).toArray w:=by
 have e:(bs.extract 0 bs.size).data=bs.data:=by simp_all
 simp only[Builtin.firstCells,e,Sem.run_pure]
 congr 1
 grind
theorem aDk(l:List UInt8):∀x,x∈(l.map λb=>Value.int .u8 b.toNat)->x.oneCell'=true:=by
 intro x aa;simp only[LV]at aa;obtain⟨b,_,rfl⟩:=aa;rfl
theorem aDu (R:Rel cv nt φ S env J n a w) {o:Oper} {x y:Operand} {st HW e:TypeId} (c7:o.op= .call {callee:= .builtin .append,args:=#[x,y],argTypes:=#[st,HW]})
 (n2:P.underlying st=some (.slice e)) (G2:P.underlying HW=some .string) {i:TypeInfo} (al:P.info? e=some i) (Pj:i.size=1) (gA:(i.zero.map (·.cells.size))=some 1)
 {hc vy:dJ} (aa:hC x=some hc) (b8:hC y=some vy)
 {p v J'} (hk:n key=false) (h:dy (.appendB e i.bytes hc vy) env J key=some (p,v,J')) (a7:p):Good P cv nt env J' (ins n key) a v ((execOp a.eval o).run P w):=by
 simp only[dy,ha]at h;obtain⟨⟨EJ,Hr⟩,iJ,⟨TM,TQ⟩,JP,he⟩:=h;simp only at he;simp only[fr]at gA;obtain⟨H',Q5,YZ⟩:=gA;have s':∀r w',(Builtin.append_ #[st,HW] o.type #[a.eval x,a.eval y]).run P w= .ok r w'->(execOp a.eval o).run P w= .ok (.value r) w':=by
  intro r w' ar;simp[execOp,c7,Go.resolve,invoke,builtin,ar]
 have YV:∀b,w.heap.size<=b->∀j,¬S b j:=λb ai j c8=>by have:=R.hJ.st _ _ c8;omega
 split at he
 . rename_i b len s;split at he
   . rename_i qa es kx;simp only[hz,hy]at he;obtain⟨rfl,rfl,rfl⟩:=he;obtain⟨xJ,vt,rfl,rfl,OP,K5⟩:=a7;obtain⟨hle,MK,hg⟩:=(f5 R aa iJ xJ).1.xn;obtain⟨bs,NU,rfl,_⟩:=km.Qr (f5 R b8 JP vt).1;have UB:bs.data.toList.length=bs.size:=by rw[<-Yo]
     have Oi:=R.hJ.blk _ _ kx;obtain⟨g1,g2,g3⟩:=Oi;have Jz:∀w,(Builtin.lenOf (a.eval y)).run P w= .ok bs.size w:=by intro w;simp[NU,Builtin.lenOf]
     have OR:∀w,(Builtin.firstCells i.size bs.size (a.eval y)).run P w= .ok (bs.data.toList.map λb=>Value.int .u8 b.toNat).toArray w:=by intro w;rw[NU,Pj];exact aD5 w bs
     by_cases Lp:es.length+bs.size<=(φ b).2
     . by_cases nk:(φ b).2=0
       . have On:es=[]:=Sv (by omega);have VP:bs.data.toList=[]:=Sv (by omega);have Jo:=MK nk;have ar:=aq8 (P:=P) (w:=w) (tt:=o.type) n2 G2 al (base:=none) (sl:=0) (sc:=0) (Jz w) (OR w) (by omega) (w':=w) (λhY R1=>by cases R1) (λ_=>rfl);rw[<-Jo]at ar
         have R':=(R.del b).PR hk (x:= .buf qa (es++bs.data.toList)) (0,0) rfl (by rw[VP,On];simp only[pr,ii];exact⟨by simp,by simp,by simp⟩) (by simp);refine⟨_,_,S,w,.inl (s' _ _ ar),.c ?_,by simp[V.cx,C.cx,ins],R'⟩;rw[VP,On];have aje:bs.size=0:=by omega
         refine⟨by simp,λ_=>?_,λh=>?_⟩
         . rw[aje]
         . simp[ii]at h
       . obtain⟨⟨vs,ak,M4,Xy⟩,DI⟩:=g3 nk;have Jo:=hg nk;have YO:es.length+(bs.data.toList.map λb=>Value.int .u8 b.toNat).length<=vs.length:=by simp only[JU,UB,M4];exact Lp
         obtain⟨w',Xx,y0,t',SL,agL,aym,aLR⟩:=Vh (P:=P) (bs.data.toList.map λb=>Value.int .u8 b.toNat) es.length 0 vs w ak (by omega) (aDk _);rw[TJ]at aym
         have ar:=aq8 (P:=P) (w:=w) (tt:=o.type) n2 G2 al (base:=some ⟨(φ b).1,0,none⟩) (sl:=es.length) (sc:=(φ b).2) (Jz w) (OR w) Lp (w':=w') (λhY R1=>by
          cases R1;have Oj:Addr.add ⟨(φ b).1,0,none⟩ (es.length*i.size)=⟨(φ b).1,es.length,none⟩:=by rw[Pj,Nat.mul_one];unfold Addr.add;split <;> simp_all
          grind) (λai=>by cases ai)
         rw[<-Jo]at ar
         have jJ:=(R.del b).world (w':=w') (λk=>k=(φ b).1) y0 t' SL (ac6 agL.symm) (λk _ hk=>aLR k hk) (λk hk=>by
          subst hk;refine⟨DI,λk y b8 hk=>?_,R.own b _ kx nk⟩;rw[J8]at b8;split at b8
          . cases b8
          . rename_i hv
            exactλe=>R.hJ.inj k b y _ b8 kx (tJ hv) hk nk e)
         have u4:=jJ.PR hk (x:= .buf qa (es++bs.data.toList)) (φ b) rfl (by
          simp only[pr,ii];refine⟨by simp[UB];omega,by rw[MM];exact K5,λ_=>⟨⟨_,aym,by rw[W4 YO];exact M4,?_⟩,DI⟩⟩;intro qi c ay;rw[Uc YO]
          grind) (λ_=>⟨λk y b8 hk=>by
           rw[J8]at b8;split at b8
           . cases b8
           . rename_i hv
             exact R.hJ.inj k b y _ b8 kx (tJ hv) hk nk,R.own b _ kx nk⟩)
         refine⟨_,_,S,w',.inl (s' _ _ ar),.c ?_,by simp[V.cx,C.cx,ins],u4⟩;refine⟨by simp[ii,UB];omega,λh=>?_,λ_=>?_⟩
         . simp[ii,nk]at h
         . simp[ii,UB]
     . have jJ:=R.drew;have UA:∃base,a.eval x= .slice base es.length (φ b).2/\∃xs:List Value,(Builtin.firstCells i.size es.length (.slice base es.length (φ b).2)).run P w.drew= .ok xs.toArray w.drew/\xs.length=es.length/\∀(i:Nat) c,es[i]?=some c->xs[i]?=some (.int .u8 (UInt8.toNat c)):=by
        by_cases nk:(φ b).2=0
        . have On:es=[]:=Sv (by omega);subst On;exact⟨none,by rw[MK nk,nk];rfl,[],by simp[Builtin.firstCells],rfl,by simp⟩
        . obtain⟨⟨vs,ak,M4,Xy⟩,DI⟩:=g3 nk;refine⟨_,hg nk,vs.take es.length,?_,by simp;omega,λj c ay=>?_⟩
          . rw[Pj];show(loadCells ⟨(φ b).1,0,none⟩ (es.length*1)).run P w.drew=_;rw[Nat.mul_one];refine aea (by simp;omega) (λj dx=>?_);rw[Jq,SD,b6 dx];exact OZ (w:=w.drew) ak j
          grind
       obtain⟨base,Jo,xs,acY,Pm,Sl⟩:=UA;obtain⟨K9,r,h1,ah,ar⟩:=aCp (P:=P) (w:=w) (tt:=o.type) n2 G2 al Q5 (by rw[YZ,Pj]) (Jz w) acY (OR w.drew) (by omega) (by rw[UB]at OP;exact OP) (by rw[UB]at K5;exact K5);rw[<-Jo]at ar;have u4:=(jJ.del b).alloc (.cells (xs++(bs.data.toList.map λb=>Value.int .u8 b.toNat)++r).toArray qa)
       have VB:=u4.PR hk (x:= .buf qa (es++bs.data.toList)) (w.heap.size,K9) rfl (by
        simp only[pr,ii];refine⟨by simp[UB];omega,by rw[MM];exact K5,λ_=>⟨⟨_,W1,?_,?_⟩,YV _ (JA _)⟩⟩
        . grind
        grind) (λ_ => ⟨λk y b8 h0 => by
         rw[J8]at b8;split at b8
         . cases b8
         . have:=(R.hJ.blk k y b8).Qo h0
           simp;omega,.inr R.ext.size⟩)
       refine⟨_,_,S,_,.inl (s' _ _ ar),.c ?_,by simp[V.cx,C.cx,ins],VB⟩;refine⟨by simp[ii,UB];omega,λh=>?_,λ_=>?_⟩
       . simp[ii]at h;omega
       . simp[ii,UB]
   . cases he
 . cases he
theorem aE4 (R:Rel cv nt φ S env J n a w) {o:Oper} {x:Operand} {t:TypeId} (c7:o.op= .call {callee:= .builtin .unsafeSliceData,args:=#[x],argTypes:=#[t]}) {hc:dJ} (aa:hC x=some hc)
 {p v J'} (hk:n key=false) (h:dy (.sdata hc) env J key=some (p,v,J')) (a7:p):Good P cv nt env J' (ins n key) a v ((execOp a.eval o).run P w):=by
 simp only[dy,ha]at h;obtain⟨⟨EJ,Hr⟩,iJ,he⟩:=h;simp only at he;split at he
 . rename_i b len;simp only[hz,hy]at he;obtain⟨rfl,rfl,rfl⟩:=he;have a8:=f5 R aa iJ a7;obtain⟨hle,MK,hg⟩:=a8.1.xn;by_cases h0:(φ b).2=0
   . refine Good.pure R (x:= .pointer none) ?_ (.c ⟨none,rfl,λh=>absurd h0 h⟩) (by simpa[V.cx,C.cx]using a8.2);simp[execOp,c7,Go.resolve,invoke,builtin,MK h0,Go.Lib.run_unsafeSliceData_nil]
   . refine Good.pure R (x:= .pointer (some ⟨(φ b).1,0,none⟩)) ?_ (.c ⟨_,rfl,λ_=>rfl⟩) (by simpa[V.cx,C.cx]using a8.2);simp[execOp,c7,Go.resolve,invoke,builtin,hg h0,Go.Lib.run_unsafeSliceData_row _ _ _ _ _ _ h0]
 . cases he
theorem aE5{b m:Nat}{hY:Addr}(ai:b≠hY.block):(w.freeze hY m).heap[b]?=w.heap[b]?:=by
 unfold World.freeze
 grind
theorem aDl(hY:Addr)(m:Nat):(w.freeze hY m).os=w.os/\(w.freeze hY m).tape=w.tape/\(w.freeze hY m).output=w.output/\(w.freeze hY m).heap.size=w.heap.size:=by
 unfold World.freeze
 grind
theorem aEk (R:Rel cv nt φ S env J n a w) {o:Oper} {x y:Operand} {ln it e:TypeId} (c7:o.op= .call {callee:= .builtin .unsafeString,args:=#[x,y],argTypes:=#[ln,it]})
 (aKN:P.underlying ln=some (.pointer e)) (aJY:P.cellsOf e=1) {hc vy:dJ} (aa:hC x=some hc) (b8:hC y=some vy)
 {p v J'} (hk:n key=false) (h:dy (.ustr e hc vy) env J key=some (p,v,J')) (a7:p):Good P cv nt env J' (ins n key) a v ((execOp a.eval o).run P w):=by
 simp only[dy,ha]at h;obtain⟨⟨EJ,Hr⟩,iJ,⟨TM,TQ⟩,JP,he⟩:=h;simp only at he;split at he
 . rename_i b m;split at he
   . rename_i qa es kx;simp only[hz,hy]at he;obtain⟨rfl,rfl,rfl⟩:=he;obtain⟨xJ,vt,rfl,rfl⟩:=a7;obtain⟨pp,h1,aKM⟩:=(f5 R aa iJ xJ).1.xn;have ah:a.eval y= .int .i64 es.length:=(f5 R b8 JP vt).1.K7;have Oi:=R.hJ.blk _ _ kx;obtain⟨g1,g2,g3⟩:=Oi;have axJ:∀w',ik w' S (.str es) (.string ⟨es.toArray⟩):=by
      intro w';have:=ik.str (w:=w') (S:=S) (⟨es.toArray⟩:ByteArray) (by rw[<-Yo];unfold Jf at g2;unfold SY;simp;omega);omega
     have s':∀r w',(Builtin.unsafeString_ #[ln,it] o.type #[a.eval x,a.eval y]).run P w= .ok r w'->(execOp a.eval o).run P w= .ok (.value r) w':=by
      intro r w' ar;simp[execOp,c7,Go.resolve,invoke,builtin,ar]
     by_cases hv:es=[]
     . subst hv;refine⟨.string ⟨#[]⟩,φ,S,w,.inl (s' _ _ ?_),.c (axJ w),rfl,(R.del b).more λ_ h=>QH h⟩;rw[h1,ah];exact Go.Lib.run_unsafeString_none w ln it o.type pp
     . have UH:0 < es.length:=ao'.2 hv;have nk:(φ b).2≠0:=by omega
       obtain⟨⟨vs,ak,M4,Xy⟩,DI⟩:=g3 nk;have aoD:w.shape? (φ b).1=some (qa,vs.length):=by simp[World.shape?,ak]
       have ar:=Go.Lib.run_unsafeString_row (P:=P) w ln it o.type qa aKN aJY (φ b).1 vs.length aoD es hv (by omega) (by unfold Jf at g2;omega) (λj c ay=>by
        have Oj:Addr.add ⟨(φ b).1,0,none⟩ j=⟨(φ b).1,j,none⟩:=by unfold Addr.add;split <;> simp_all
        rw[Oj,OZ ak];exact Xy j c ay)
       obtain⟨y0,t',SL,agL⟩:=aDl (w:=w) ⟨(φ b).1,0,none⟩ es.length
       have jJ:=(R.del b).world (w':=w.freeze ⟨(φ b).1,0,none⟩ es.length) (λk=>k=(φ b).1) y0 t' SL (ac6 agL.symm) (λk _ hk=>aE5 hk) (λk hk=>by
        subst hk;refine⟨DI,λk y b8 hk=>?_,R.own b _ kx nk⟩;rw[J8]at b8;split at b8
        . cases b8
        . rename_i hv
          exactλe=>R.hJ.inj k b y _ b8 kx (tJ hv) hk nk e)
       refine⟨.string ⟨es.toArray⟩,φ,S,_,.inl (s' _ _ ?_),.c (axJ _),rfl,jJ.more λ_ h=>QH h⟩;rw[h1,aKM nk,ah];exact ar
   . cases he
 . cases he
end
section
variable {P:Program} {cv:Ctx} {nt:Nat} {φ:q4} {S:r3} {env:Env} {J:ep} {n:Nat->Bool} {key:Nat} {a:Act} {w:World}
theorem ab5{α:Type}{x:Array α}{a b:α}(h:x.toList=[a,b]):x=#[a,b]:=by grind
theorem ah2{α:Type}{x:Array α}{a:α}(h:x.toList=[a]):x=#[a]:=by grind
theorem aEl (R:Rel cv nt φ S env J n a w) {o:Oper} {c:Call} (c7:o.op= .call c) {qy:m'} (ar:T8 P c=some qy)
 {p v J'} (hk:n key=false) (h:dy qy env J key=some (p,v,J')) (a7:p):Good P cv nt env J' (ins n key) a v ((execOp a.eval o).run P w):=by
 obtain⟨callee,args,argTypes⟩:=c;unfold T8 at ar;split at ar
 . rename_i ay;split at ar
   . rename_i x t aa ht;simp only at ay aa ht;have aa:=ah2 aa;have ht:=ah2 ht;subst ay;subst aa;subst ht;split at ar
     . rename_i hu;simp only[fr]at ar;obtain⟨hc,P9,rfl⟩:=ar;exact asE (str:=true) R c7 (by simpa using hu) P9 hk h a7
     . rename_i e hu;simp only[fr]at ar;obtain⟨hc,P9,rfl⟩:=ar;exact asE (str:=false) R c7 (by simpa using⟨e,hu⟩) P9 hk h a7
     . cases ar
   . cases ar
 . rename_i ay;split at ar
   . rename_i x y t u aa ht;simp only at ay aa ht;have aa:=ab5 aa;have ht:=ab5 ht;subst ay;subst aa;subst ht;split at ar
     . rename_i e hu aoG;simp only[ha,sr,hz]at ar;obtain⟨i,al,hc,P9,vy,Xm,⟨h1,ah,bJ⟩,rfl⟩:=ar;exact aDu R c7 hu aoG al h1 ah P9 Xm hk h a7
     . rename_i e qa hu aoG;simp only[ha,sr,hz]at ar;obtain⟨i,al,hc,P9,vy,Xm,⟨h1,ah⟩,rfl⟩:=ar;exact aDN R c7 hu aoG al h1 ah P9 Xm hk h a7
     . cases ar
   . cases ar
 . rename_i ay;split at ar
   . rename_i x y aa;simp only at ay aa;have aa:=ab5 aa;subst ay;subst aa;simp only[ha,fr]at ar;obtain⟨hc,P9,vy,Xm,rfl⟩:=ar;exact aEB R c7 P9 Xm hk h a7
   . cases ar
 . rename_i ay;split at ar
   . rename_i x y aa;simp only at ay aa;have aa:=ab5 aa;subst ay;subst aa;simp only[ha,fr]at ar;obtain⟨hc,P9,vy,Xm,rfl⟩:=ar;exact aEC R c7 P9 Xm hk h a7
   . cases ar
 . rename_i ay;split at ar
   . rename_i x t aa ht;simp only at ay aa ht;have aa:=ah2 aa;have ht:=ah2 ht;subst ay;subst aa;subst ht;split at ar
     . simp only[sr,fr]at ar;obtain⟨_,hc,P9,rfl⟩:=ar;exact aE4 R c7 P9 hk h a7
     . cases ar
   . cases ar
 . rename_i ay;split at ar
   . rename_i x y t u aa ht;simp only at ay aa ht;have aa:=ab5 aa;have ht:=ab5 ht;subst ay;subst aa;subst ht;split at ar
     . rename_i e hu;simp only[sr,ha,fr]at ar;obtain⟨⟨_,_,bJ⟩,hc,P9,vy,Xm,rfl⟩:=ar;exact aEk R c7 hu bJ P9 Xm hk h a7
     . cases ar
   . cases ar
 . split at ar
   . simp only[fr]at ar;obtain⟨l,aJ,rfl⟩:=ar;simp[dy]at h
   . cases ar
 . simp only[fr]at ar;obtain⟨l,aJ,rfl⟩:=ar;simp[dy]at h
 . cases ar
theorem Good.mono{v:V}{J':ep}{Ls K8:Nat->Bool}(h:∀b,Ls b=true->K8 b=true){r:Result Next}(g:Good P cv nt env J' Ls a v r):Good P cv nt env J' K8 a v r:=by
 obtain⟨x,hn,hK,w',h1,ah,bJ,R'⟩:=g;exact⟨x,hn,hK,w',h1,ah,V.MD h bJ,R'.more h⟩
theorem aE6 (R:Rel cv nt φ S env J n a w) {o:Oper} {qy:m'} (ar:qs P o.op=some qy)
 (DI:∀e e8,qy≠.allocS e e8) {p v J'} (hk:n key=false) (h:dy qy env J key=some (p,v,J')) (a7:p):Good P cv nt env J' (ins n key) a v ((execOp a.eval o).run P w):=by
 generalize qb:o.op=op at ar;cases op with
 | move x=>simp only[qs,fr]at ar;obtain⟨hc,aa,rfl⟩:=ar;exact asC R (.inl qb) aa hk h a7
 | assign x=>simp only[qs,fr]at ar;obtain⟨hc,aa,rfl⟩:=ar;exact asC R (.inr qb) aa hk h a7
 | pick c x y=>
  simp only[qs,ha,fr]at ar;obtain⟨ac,ay,hc,aa,vy,b8,rfl⟩:=ar;exact aEx R qb ay aa b8 hk h a7
 | alloc e=>
  simp only[qs]at ar;split at ar
  . cases ar;exact absurd rfl (DI _ _)
  . simp only[ha]at ar;obtain⟨cs,r',ar⟩:=ar;split at ar
    . split at ar
      . rename_i ay;cases ar;exact aDP R qb r' (by omega) (by omega) hk h a7
      . cases ar;exact ase R qb r' hk h a7
    . cases ar;exact ase R qb r' hk h a7
 | box e x=>simp only[qs,fr]at ar;obtain⟨hc,aa,rfl⟩:=ar;exact aFF R qb aa hk h a7
 | build t parts=>
  simp only[qs]at ar;split at ar
  . rename_i fs UE;simp only[sr,ha,fr]at ar;obtain⟨h1,z,gA,ps,BJ,rfl⟩:=ar;exact aEZ R qb UE h1 gA BJ hk h a7
  . simp only[ha,fr]at ar;rename_i len e hu;obtain⟨z,gA,m,hm,ps,BJ,rfl⟩:=ar;exact gen R qb hu hm gA BJ hk h a7
  . cases ar
 | buildSlice t len parts=>
  simp only[qs]at ar;split at ar
  . rename_i e hu;simp only[ha,sr,hz]at ar;obtain⟨m,hm,z,gA,ps,BJ,⟨h1,ah,bJ⟩,rfl⟩:=ar;exact aDM R qb hu hm gA BJ h1 ah bJ hk h a7
  . cases ar
 | load t x=>
  simp only[qs,ha,fr]at ar;obtain⟨g,a8,hc,aa,rfl⟩:=ar;exact aEI R qb a8 aa hk h a7
 | store t x y=>
  simp only[qs,ha,fr]at ar;obtain⟨m,hm,hc,aa,vy,b8,rfl⟩:=ar;exact aEY R qb hm aa b8 hk h a7
 | nilCheck x=>simp only[qs,fr]at ar;obtain⟨hc,aa,rfl⟩:=ar;exact aD4 R qb aa hk h a7
 | binOp op t x y HW=>
  simp only[qs]at ar;split at ar
  . rename_i axz;split at ar
    . simp only[ha,fr]at ar;obtain⟨ks,J5,hc,aa,vy,b8,rfl⟩:=ar;exact aEX R qb axz J5 aa b8 hk h a7
    . simp only[sr,fr]at ar;obtain⟨_,hc,aa,rfl⟩:=ar;simp[dy]at h
    . rename_i hu;simp only[ha,fr]at ar;obtain⟨hc,aa,vy,b8,rfl⟩:=ar;exact aDK R qb axz hu aa b8 hk h a7
    . simp only[ha,fr]at ar;obtain⟨hc,aa,vy,b8,rfl⟩:=ar;exact amg R qb aa b8 hk h a7
    . simp only[ha,fr]at ar;obtain⟨hc,aa,vy,b8,rfl⟩:=ar;exact amg R qb aa b8 hk h a7
    . cases ar
  . simp only[ha,fr]at ar;obtain⟨hc,aa,vy,b8,rfl⟩:=ar;exact amg R qb aa b8 hk h a7
 | unOp u t x=>
  cases u <;> simp only[qs,fr,reduceCtorEq]at ar
  . split at ar
    . simp only[fr]at ar;obtain⟨hc,aa,rfl⟩:=ar;exact aFw R qb aa hk h a7
    . cases ar
  . split at ar
    . simp only[fr]at ar;obtain⟨hc,aa,rfl⟩:=ar;exact aFx R qb aa hk h a7
    . cases ar
  . obtain⟨hc,aa,rfl⟩:=ar;exact aFv R qb aa hk h a7
 | convert s d x=>
  simp only[qs]at ar;split at ar
  . rename_i hs a6;simp only[fr]at ar;obtain⟨hc,aa,rfl⟩:=ar;exact aEz R qb hs a6 aa hk h a7
  . rename_i hs a6;simp only[fr]at ar;obtain⟨hc,aa,rfl⟩:=ar;exact aFy R qb hs a6 aa hk h a7
  . rename_i hs a6;simp only[fr]at ar;obtain⟨hc,aa,rfl⟩:=ar;exact aFz R qb hs a6 aa hk h a7
  . rename_i e hs a6;simp only[sr,fr]at ar;obtain⟨⟨he,hI⟩,hc,aa,rfl⟩:=ar;have Jx:P.underlying e=some (.int .u8):=by grind
    exact aFb R qb hs Jx a6 aa hk h a7
  . cases ar
 | fieldAddr t x f=>
  simp only[qs]at ar;split at ar
  . rename_i fs UE;simp only[ha,ajO,fr]at ar;obtain⟨fd,c6,m,hm,Q3,hc,aa,rfl⟩:=ar;exact aEA R qb UE c6 hm Q3 aa hk h a7
  . cases ar
 | field t x f=>
  simp only[qs]at ar;split at ar
  . rename_i fs UE;simp only[ha,fr]at ar;obtain⟨fd,c6,g,a8,hc,aa,rfl⟩:=ar;obtain⟨h1,ah,bJ⟩:=arV a8;exact aFA R qb UE c6 ah h1 bJ aa hk h a7
  . cases ar
 | indexAddr t x i=>
  simp only[qs]at ar;split at ar
  . rename_i e hu;simp only[ha,ajO,fr]at ar;obtain⟨m,hm,Q3,hc,aa,RP,al,rfl⟩:=ar;exact aED R qb hu hm Q3 aa al hk h a7
  . rename_i k e hu;split at ar
    . simp only[sr,ha,fr]at ar;obtain⟨h0,s,hs,hc,aa,rfl⟩:=ar;exact aEf R qb hu h0 hs aa hk h a7
    . simp only[sr,ha,fr]at ar;obtain⟨hI,hc,aa,RP,al,rfl⟩:=ar;exact aEe R qb hu hI aa al hk h a7
  . cases ar
 | index t x i=>
  simp only[qs]at ar;split at ar
  . rename_i hu;simp only[ha,fr]at ar;obtain⟨hc,aa,RP,al,rfl⟩:=ar;exact aEE R qb hu aa al hk h a7
  . cases ar
 | slice t x f' al ajA=>
  simp only[qs]at ar;split at ar
  . rename_i hu;simp only[sr,ha,fr,Option.isNone_iff_eq_none]at ar;obtain⟨rfl,hc,aa,OI,aJ,Ug,ak,rfl⟩:=ar;exact aEG R qb hu aa aJ ak hk h a7
  . rename_i e hu;split at ar
    . simp only[ha,ajO,fr]at ar;obtain⟨m,hm,Q3,hc,aa,OI,aJ,Ug,ak,rfl⟩:=ar;exact aFC R qb hu hm aa aJ ak hk h a7
    . split at ar
      . simp only[sr,fr]at ar;obtain⟨h0,hc,aa,rfl⟩:=ar;obtain⟨m,hm⟩:=agz.1 h0;exact aEH R qb hu hm aa hk h a7
      . cases ar
    . cases ar
  . rename_i k e hu;simp only[sr,ha,fr,Option.isNone_iff_eq_none]at ar;obtain⟨⟨rfl,hI⟩,hc,aa,OI,aJ,Ug,ak,rfl⟩:=ar;exact aEg R qb hu hI aa aJ ak hk h a7
  . cases ar
 | makeFunc fn first caps=>
  cases fn <;> simp only[qs,sr,fr,reduceCtorEq]at ar
  obtain⟨h1,OI,aJ,rfl⟩:=ar;have:first=#[]:=by simpa using h1
  subst this;exact aEF R qb aJ hk h a7
 | extract x i=>simp only[qs,fr]at ar;obtain⟨hc,aa,rfl⟩:=ar;exact aFB R qb aa hk h a7
 | makeMap t r=>
  cases r with
  | some _=>simp[qs]at ar
  | none=>
   simp only[qs,sr,hz]at ar;obtain⟨_,rfl⟩:=ar;exact aE1 R qb hk h a7
 | lookup t x i c=>
  cases c with
  | true=>simp[qs]at ar
  | false=>
   simp only[qs,sr,ha,fr]at ar;obtain⟨ht,hc,aa,RP,al,rfl⟩:=ar;exact aE2 R qb ht aa al hk h a7
 | mapUpdate t m k v0=>
  simp only[qs,sr,ha,fr]at ar;obtain⟨⟨ht,nk⟩,hc,aa,RP,al,rfl⟩:=ar;exact aE3 R qb ht nk aa al hk h a7
 | call c=>simp only[qs]at ar;exact aEl R qb ar hk h a7
 | _=>simp[qs]at ar
def B'(n:Nat->Bool)(k:Nat):Nat->Bool:=λb=>n b || (decide (k<=b) && decide (b < k+16))
theorem SX{b:Nat}(h:n b=true):B' n key b=true:=by simp[B',h]
theorem avA{b:Nat}(h:ins n key b=true):B' n key b=true:=by
 simp only[ins,OT,Ox]at h;simp only[B',OT,kc,I2]
 grind
theorem aqG{Oh:Bool}{op:Op}{qy:m'}(h:abk P Oh op=some qy):qs P op=some qy\/∃t len parts e m z ps,op= .buildSlice t len parts/\P.underlying t=some (.slice e)/\C4 P e=some m/\Rn P e=some z/\Wz parts.toList=some ps/\m≠0/\z.length=m/\len*m<=2 ^ 24/\qy= .bsliceT e m len z ps:=by
 unfold abk at h;split at h
 . split at h
   . rename_i e hu;simp only[ha,sr,hz]at h
     grind
   . cases h
 grind
theorem aCO{op:Op}{e e8:Nat}(h:qs P op=some (.allocS e e8)):op= .alloc e/\aeq P e=some e8:=by
 cases op with
 | alloc qa=>
  simp only[qs]at h;split at h
  . rename_i ai;cases h;exact⟨rfl,ai⟩
  . simp only[ha]at h;obtain⟨cs,r',h⟩:=h;split at h
    . split at h <;> cases h
    . cases h
 | buildSlice t len parts=>
  simp only[qs]at h;split at h
  . simp only[ha,sr,hz]at h;obtain⟨m,hm,z,gA,ps,BJ,_,h⟩:=h;cases h
  . cases h
 | build t parts=>
  simp only[qs]at h;split at h
  . simp only[sr,ha,fr]at h;obtain⟨h1,z,gA,ps,BJ,h⟩:=h;cases h
  . simp only[ha,fr]at h;obtain⟨z,gA,m,hm,ps,BJ,h⟩:=h;cases h
  . cases h
 | call c=>
  simp only[qs]at h;unfold T8 at h
  repeat' (first | (split at h) | (cases h;done))
  all_goals (try (cases h;done))
  all_goals simp only[ha,fr,sr,hz,reduceCtorEq,Q',UN,ac8]at h
 | binOp op t x y HW=>
  simp only[qs]at h
  repeat' (first | (split at h) | (cases h;done))
  all_goals (try (cases h;done))
  all_goals simp only[ha,fr,sr,hz,reduceCtorEq,Q',UN,ac8]at h
 | unOp u t x=>
  cases u <;> simp only[qs]at h
  all_goals repeat' (first | (split at h) | (cases h;done))
  all_goals (try (cases h;done))
  all_goals simp only[ha,fr,sr,hz,reduceCtorEq,Q',UN,ac8]at h
 | makeMap t r=>cases r <;> simp only[qs,reduceCtorEq,sr,hz,Q']at h
 | lookup t x i c=>cases c <;> simp only[qs,reduceCtorEq,sr,ha,fr,Q',UN]at h
 | makeFunc fn first caps=>cases fn <;> simp only[qs,sr,fr,reduceCtorEq,Q',UN]at h
 | convert s d x=>
  simp only[qs]at h
  repeat' (first | (split at h) | (cases h;done))
  all_goals (try (cases h;done))
  all_goals simp only[ha,fr,sr,hz,reduceCtorEq,Q',UN,ac8]at h
 | _=>
  simp only[qs]at h
  try repeat' (first | (split at h) | (cases h;done))
  all_goals (try (cases h;done))
  all_goals simp only[ha,fr,sr,ajO,hz,reduceCtorEq,Q',UN,ac8]at h
theorem aEm (R:Rel cv nt φ S env J n a w) {o:Oper} {qy:m'} {Oh:Bool} (ar:abk P Oh o.op=some qy)
 {p v J'} (g':∀b,key<=b->b < key+16->n b=false) (h:dy qy env J key=some (p,v,J')) (a7:p):Good P cv nt env J' (B' n key) a v ((execOp a.eval o).run P w):=by
 have hk:n key=false:=g' key (JA _) (by omega);rcases aqG ar with ar | ⟨t,len,parts,e,m,z,ps,qb,hu,hm,gA,BJ,h1,ah,bJ,rfl⟩
 . by_cases hs:∃e e8,qy= .allocS e e8
   . obtain⟨e,e8,rfl⟩:=hs;obtain⟨qb,anU⟩:=aCO ar;refine(aDQ R qb anU hk (g' _ (by omega) (by omega)) h a7).mono λb ai=>?_
     simp only[ins,OT,Ox]at ai;simp only[B',OT,kc,I2];rcases ai with(ai | ai) | ai
     . exact .inl ai
     . exact .inr ⟨by omega,by omega⟩
     . exact .inr ⟨by omega,by omega⟩
   . exact(aE6 R ar (λe e8 he=>hs ⟨e,e8,he⟩) hk h a7).mono λb ai=>avA ai
 . exact(aEc R qb hu hm gA BJ h1 ah bJ hk h a7).mono λb ai=>avA ai
end
def MV(P:Program)(f:Nat)(args:List V)(J:ep)(key:Nat)(K:V->ep->Prop):Prop:=
 ∀cv nt φ S env n a w,Rel cv nt φ S env J n a w->(∀b,key<=b->b < key+16->n b=false)->V.cx.V.u' n args=true->∀vs:List Value,ez (km φ w S) args vs->
  Calls P f vs.toArray w λe w'=>∃v r hn hK J',e= .returned v/\K r J'/\km hn w' hK r v/\r.cx (B' n key)=true/\Rel cv nt hn hK env J' (B' n key) a w'
theorem MV.mono{P:Program}{f:Nat}{args:List V}{J:ep}{key:Nat}{K aqe:V->ep->Prop}(h:MV P f args J key K)(hk:∀r J',K r J'->aqe r J'):MV P f args J key aqe:=
 λcv nt φ S env n a w R g' ai vs cJ=>(h cv nt φ S env n a w R g' ai vs cJ).mono λe w' ⟨v,r,hn,hK,J',h1,ah,bJ⟩=>⟨v,r,hn,hK,J',h1,hk _ _ ah,bJ⟩
def Ks(env:Env):Option (Nat×Bool)->Option Bool
 | none=>some true
 | some (t,b)=>match look env t with
  | some (g,.c (.t (.bool x)))=>some (g && (x==b))
  | _=>none
def zt(env:Env)(dst:Option Nat)(g:Bool)(v:V):Env:=
 match dst with
 | none=>env
 | some d=>(d,g,v)::env
def aaf(b:Bool):V:= .c (.t (.bool b))
def MC(P:Program)(o:h7)(key:Nat)(env:Env)(J:ep)(K:Env->ep->Prop):Prop:=
 match Ks env o.guard with
 | none=>False
 | some g=>(g=false/\∃v,K (zt env o.dst g v) J)\/
  match o.op with
  | .call f args=>match MF env args with
   | some (p,vs)=>match o.guard with
    | none=>p/\MV P f vs J key (λr J'=>K (zt env o.dst true r) J')
    | some _=>(g=true/\p/\MV P f vs J key (λr J'=>K (zt env o.dst true r) J'))\/∃r,(g=true->p/\MV P f vs J key (λI' J'=>I'=r/\J'=J))/\K (zt env o.dst g r) J
   | none=>False
  | .Oe x args=>match x.get env,MF env args with
   | some (q,.c (.fn f caps)),some (p,vs)=>o.guard=none/\Nb P f=true/\q/\p/\MV P f (vs++caps.map (λb=>V.c (.ptr b 0))) J key (λr J'=>K (zt env o.dst true r) J')
   | _,_=>False
  | .eqNil neg x=>match x.get env with
   | some (p,.c (.t (.slice es)))=>o.guard=none/\p/\∀b:Bool,(es≠[]->b=false)->K (zt env o.dst true (aaf (if neg then !b else b))) J
   | some (p,.c .eI)=>o.guard=none/\p/\∀b:Bool,K (zt env o.dst true (aaf (if neg then !b else b))) J
   | some (p,.c (.arr _ _ _ l))=>o.guard=none/\p/\∀b:Bool,(l≠0->b=false)->K (zt env o.dst true (aaf (if neg then !b else b))) J
   | _=>False
  | op=>match dy op env J key with
   | some (p,v,J')=>(g=true->p)/\(op.neutral=true\/g=true)/\K (zt env o.dst g v) (if op.neutral then J else J')
   | none=>False
def QP(P:Program):List h7->Nat->Env->ep->(Env->ep->Prop)->Prop
 | [],_,env,J,K=>K env J
 | o::r,key,env,J,K=>MC P o key env J λenv' J'=>QP P r (key+16) env' J' K
section
variable {P:Program} {cv:Ctx} {nt:Nat} {φ:q4} {S:r3} {env:Env} {J:ep} {n:Nat->Bool} {key:Nat} {a:Act} {w:World}
theorem NE{dst:Option Nat}{g:Bool}{v:V}{k:Nat}:look (zt env dst g v) k=if dst=some k then some (g,v)else look env k:=by
 unfold zt;cases dst with
 | none=>simp
 | some d=>simp[look]
theorem Rel.aiR(R:Rel cv nt φ S env J n a w){dst:Option Nat}(a6:∀d,dst=some d -> d < nt){g:Bool}{x:Value}{v:V}(aa:g=true -> km φ w S v x)(hu:g=false -> x=undef)(ai:g=true -> v.cx n=true):
 Rel cv nt φ S (zt env dst g v) J n (a.put dst x) w:=by
 have axD:∀k:Nat,(a.put dst x).tmps[k]?=if dst=some k then some x else a.tmps[k]?:=by
  intro k;cases dst with
  | none=>simp[Act.put]
  | some d=>
   have ey:d < a.tmps.size:=by rw[R.size];exact a6 d rfl
   simp only[Act.put,ax',hz]
   grind
 refine⟨R.hJ,λk LN LG aJ a8=>?_,λk LN LG aJ a8=>?_,λk LN LG aJ a8=>?_,R.u2,?_,?_,R.ext,R.own,R.fix,R.J7⟩
 . rw[NE]at aJ;rw[axD];split at aJ
   . rename_i h;cases aJ;rw[b6 h];exact⟨x,rfl,aa a8⟩
   . rename_i h;rw[b' h];exact R.LM k LN LG aJ a8
 . rw[NE]at aJ;rw[axD];split at aJ
   . rename_i h;cases aJ;rw[b6 h,hu a8]
   . rename_i h;rw[b' h];exact R.MY k LN LG aJ a8
 . rw[NE]at aJ;split at aJ
   . cases aJ;exact ai a8
   . exact R.LL k LN LG aJ a8
 . cases dst <;> simp[Act.put,R.size]
 . cases dst <;> simp[Act.put,R.defers]
theorem ash(R:Rel cv nt φ S env J n a w){ops:Array Oper}{o:Oper}{gd:Option (Nat×Bool)}(ar:ZW ops o.guard=some gd){g:Bool}(a8:Ks env gd=some g):Region.wanted o (yielded ops a.tmps)=g:=by
 unfold Region.wanted;cases axx:o.guard with
 | none=>
  rw[axx]at ar;simp[ZW]at ar;subst ar;simp[Ks]at a8
  grind
 | some aLp=>
  obtain⟨j,b⟩:=aLp;rw[axx]at ar;simp only[ZW,fr]at ar;obtain⟨d,a6,rfl⟩:=ar;simp only[Ks]at a8;split at a8
  . rename_i LN x aJ;simp only[hz]at a8;subst a8;simp only[yielded,a6,eg];cases afN:LN with
    | true=>
     obtain⟨y,b8,ar⟩:=R.LM d LN _ aJ afN;have:=ar.O8
     grind
    | false=>
     have:=R.MY d LN _ aJ afN;simp only[this];rfl
  . cases a8
def P2(cv:Ctx)(nt:Nat)(n:Nat->Bool)(K:Env->ep->Prop)(a:Act)(w:World):Prop:=∃φ S env J,K env J/\Rel cv nt φ S env J n a w
theorem aE7 {f : Nat} (h : Nb P f = true): ∃ fn, P.funcs[f]? = some fn /\ fn.body.isSome = true /\ (fn.name == "runtime.NumGoroutine") = false := by
 unfold Nb at h
 grind
theorem aDm{f:Nat}(h:Nb P f=true)(args:Array Value)(w:World):(callFunc f args).run P w= .ok (.enter f args) w:=by
 obtain⟨fn,h1,ah,bJ⟩:=aE7 h;obtain⟨c,ay⟩:=agz.1 ah;simp only[callFunc,Sem.run_bind,run_program,Result.andThen_ok,h1,bJ,ay,u1,vv,Option.isNone_some,Sem.run_pure]
theorem aek{o:m'}(h:o.neutral=true){p v J'}(ch:dy o env J key=some (p,v,J')):J'=J:=by
 cases o <;> simp only[m'.neutral,reduceCtorEq,u1]at h <;> simp only[dy,ha,fr,hy]at ch
 all_goals
  (try (obtain⟨a1,h1,ch⟩:=ch))
  (try (obtain⟨a2,ah,ch⟩:=ch))
  (try (obtain⟨a3,bJ,ch⟩:=ch))
  (try dsimp only at ch)
  (try split at ch)
  (try (simp_all;done))
  (try split at ch)
  (try (simp_all;done))
  (try (obtain⟨_,_,_,_,rfl⟩:=ch;rfl))
 all_goals first
  | (cases ch;rfl)
  | (cases ch;done)
  | (simp only[fr,hy]at ch;obtain⟨_,_,_,_,rfl⟩:=ch;rfl)
  | (split at ch <;> first
   | (cases ch;rfl)
   | (cases ch;done)
   | (simp only[fr,hy]at ch;obtain⟨_,_,_,_,rfl⟩:=ch;rfl))
  | skip
 all_goals repeat' (first | (cases ch;done) | (cases ch;rfl) | (simp only[fr,hy]at ch;obtain⟨_,_,_,_,rfl⟩:=ch;rfl) | split at ch)
theorem ari{ops:Array Oper}{o:Oper}{qy:h7}(h:abz P nt ops o=some qy):
 abk P (arT ops o) o.op=some qy.op/\ZW ops o.guard=some qy.guard/\qy.dst=o.dst/\∀d,qy.dst=some d->d < nt:=by
 simp only[abz,ha]at h;obtain⟨p,a7,g,a8,h⟩:=h;split at h
 . rename_i a6;cases h;exact⟨a7,a8,a6.symm,by simp⟩
 . rename_i d a6;simp only[sr,hz]at h;obtain⟨ey,rfl⟩:=h;exact⟨a7,a8,a6.symm,λvn h=>by cases h;exact ey⟩
theorem adG{Oh:Bool}{op:Op}{qy:m'}(h:abk P Oh op=some qy)(ai:∀e m l z ps,qy≠.bsliceT e m l z ps):qs P op=some qy:=by
 rcases aqG h with h | ⟨t,len,parts,e,m,z,ps,_,_,_,_,_,_,_,_,rfl⟩
 . exact h
 grind
theorem alf{ops:Array Oper}{o:Oper}{g:Option (Nat×Bool)}(h:ZW ops o.guard=some g)(a8:g=none):o.guard=none:=by
 subst a8;cases c7:o.guard with
 | none=>rfl
 | some x=>
  rw[c7]at h;obtain⟨j,b⟩:=x;simp only[ZW,fr]at h
  grind
theorem ami{e:TypeId}{qy:m'}(h:qs P (.alloc e)=some qy)(h1:∀cs,qy≠.alloc cs)(ah:∀cs,qy≠.allocA cs)(bJ:∀e e8,qy≠.allocS e e8):False:=by
 simp only[qs]at h;split at h
 . grind
 . simp only[ha]at h
   grind
theorem aq9{op:Op}{f:Nat}{args:List dJ}(h:qs P op=some (.call f args)):∃c,op= .call c/\T8 P c=some (.call f args):=by
 cases op with
 | call c=>exact⟨c,rfl,h⟩
 | alloc e=>exfalso;exact ami h (by simp) (by simp) (by simp)
 | makeMap t r=>exfalso;cases r <;> simp[qs]at h
 | lookup t x i c=>exfalso;cases c <;> simp[qs,ha,fr]at h
 | unOp u t x=>
  exfalso
  cases u <;> simp only[qs]at h
  all_goals (repeat' split at h) <;> (first | (cases h;done) | simp[ha,fr]at h)
 | makeFunc fn b c=>exfalso;cases fn <;> simp[qs]at h
 | _=>
  exfalso
  simp only[qs]at h
  (repeat' split at h) <;> (first | (cases h;done) | simp[ha,fr]at h)
theorem aq4{op:Op}{x:dJ}{args:List dJ}(h:qs P op=some (.Oe x args)):∃c,op= .call c/\T8 P c=some (.Oe x args):=by
 cases op with
 | call c=>exact⟨c,rfl,h⟩
 | alloc e=>exfalso;exact ami h (by simp) (by simp) (by simp)
 | makeMap t r=>exfalso;cases r <;> simp[qs]at h
 | lookup t x i c=>exfalso;cases c <;> simp[qs,ha,fr]at h
 | unOp u t x=>
  exfalso
  cases u <;> simp only[qs]at h
  all_goals (repeat' split at h) <;> (first | (cases h;done) | simp[ha,fr]at h)
 | makeFunc fn b c=>exfalso;cases fn <;> simp[qs]at h
 | _=>
  exfalso
  simp only[qs]at h
  (repeat' split at h) <;> (first | (cases h;done) | simp[ha,fr]at h)
theorem aq'{c:Call}{f:Nat}{args:List dJ}(h:T8 P c=some (.call f args)):c.callee= .value (.func f)/\Nb P f=true/\UQ c.args.toList=some args:=by
 unfold T8 at h
 (repeat' split at h) <;> simp[ha,fr]at h
 grind
theorem aq5{c:Call}{x:dJ}{args:List dJ}(h:T8 P c=some (.Oe x args)):∃t,x= .tmp t/\c.callee= .value (.tmp t)/\UQ c.args.toList=some args:=by
 unfold T8 at h
 (repeat' split at h) <;> simp[ha,fr]at h
 grind
theorem aCz{op:Op}{neg:Bool}{x:dJ}(h:qs P op=some (.eqNil neg x)):
 ∃Tn t y z HW e,op= .binOp Tn t y z HW/\(Tn= .eql\/Tn= .neq)/\neg=(Tn== .neq)/\P.underlying t=some (.slice e)/\ale z=true/\hC y=some x:=by
 cases op with
 | binOp Tn t y z HW=>
  simp only[qs]at h
  (repeat' split at h) <;> (try (cases h;done)) <;> simp only[ha,fr,m'.eqNil.injEq,reduceCtorEq,Q',UN,ac8]at h
  rename_i qb _ _ hu gA;obtain⟨hc,h1,ah,rfl⟩:=h;exact⟨Tn,t,y,z,HW,_,rfl,qb,ah.symm,hu,gA,h1⟩
 | call c=>
  exfalso
  simp only[qs]at h;unfold T8 at h
  (repeat' split at h) <;> (first | (cases h;done) | simp[ha,fr]at h)
 | alloc e=>exfalso;exact ami h (by simp) (by simp) (by simp)
 | makeMap t r=>exfalso;cases r <;> simp[qs]at h
 | lookup t x i c=>exfalso;cases c <;> simp[qs,ha,fr]at h
 | unOp u t x=>
  exfalso
  cases u <;> simp only[qs]at h
  all_goals (repeat' split at h) <;> (first | (cases h;done) | simp[ha,fr]at h)
 | makeFunc fn b c=>exfalso;cases fn <;> simp[qs]at h
 | _=>
  exfalso
  simp only[qs]at h
  (repeat' split at h) <;> (first | (cases h;done) | simp[ha,fr]at h)
theorem aiB{o:Oper}{c:Call}(c7:o.op= .call c){x:Operand}(ay:c.callee= .value x){f:Nat}{caps:List Value}(aa:a.eval x= .func (.func f) #[] caps.toArray)(ai:Nb P f=true):
 (execOp a.eval o).run P w= .ok (.enter f (c.args.toList.map a.eval++caps).toArray) w:=by
 have e:(c.args.map a.eval++caps.toArray)=(c.args.toList.map a.eval++caps).toArray:=by apply Array.ext';simp
 simp only[execOp,c7,Go.resolve,ay,aa,Deferred.ofValue,Sem.run_bind,Sem.run_pure,Result.andThen_ok,invoke];rw[show(#[]++c.args.map a.eval)=c.args.map a.eval by simp,e];exact aDm ai _ _
theorem Calls.next {f:Nat} {args:Array Value} {key:Nat} {K:Env -> ep -> Prop} {dst:Option Nat} {Q:Exit -> Act -> World -> Prop} {o:Oper} (aJ':dst=o.dst) (a6:∀d,dst=some d -> d < nt) {g:Bool} (a8:g=true) {K2:V -> ep -> Prop}
 (ns:∀r s,K2 r s->K (zt env dst g r) s)
 (h:Calls P f args w λe w'=>∃v r hn hK J',e= .returned v/\K2 r J'/\km hn w' hK r v/\r.cx (B' n key)=true/\Rel cv nt hn hK env J' (B' n key) a w')
 (s':(execOp a.eval o).run P w= .ok (.enter f args) w):o.wp P a w (P2 cv nt (B' n key) K) Q:=by
 unfold Oper.wp;rw[s',Oper.upon_enter];refine h.mono ?_
 rintro e w' ⟨v,r,hn,hK,J',rfl,h1,ah,bJ,ea⟩
 subst aJ';exact⟨hn,hK,_,J',ns _ _ h1,ea.aiR a6 (λ_=>ah) (λh=>by rw[a8]at h;cases h) (λ_=>bJ)⟩
theorem ahp(R:Rel cv nt φ S env J n a w)(g':∀b,key <=b -> b < key+16 -> n b=false){ops:Array Oper}{o:Oper}{qy:h7}(ar:abz P nt ops o=some qy){K:Env -> ep -> Prop}(h:MC P qy key env J K){Q:Exit -> Act -> World -> Prop}:
 if Region.wanted o (yielded ops a.tmps)then o.wp P a w (P2 cv nt (B' n key) K) Q else P2 cv nt (B' n key) K (a.put o.dst undef) w:=by
 obtain⟨h1,ah,bJ,ea⟩:=ari ar;have hk:n key=false:=g' key (JA _) (by omega);unfold MC at h;split at h
 . exact h.elim
 . rename_i g a8;have hw:=ash R ah a8;rw[hw];have akz:∀{v:V} {s:ep},K (zt env qy.dst g v) s->s=J->g=false->P2 cv nt (B' n key) K (a.put o.dst undef) w:=by
    intro v s ns hs Xp;subst hs;rw[<-bJ];exact⟨φ,S,_,_,ns,(R.more λ_ h=>SX h).aiR ea (λh=>by rw[Xp]at h;cases h) (λ_=>rfl) (λh=>by rw[Xp]at h;cases h)⟩
   rcases h with⟨Xp,v,ns⟩ | h
   . rw[Xp];simp only[u1,vv];exact akz ns rfl Xp
   split at h
   ·
    rename_i f args qb;rw[qb]at h1;have aJX:∃c,o.op= .call c/\c.callee= .value (.func f)/\Nb P f=true/\UQ c.args.toList=some args:=by
     obtain⟨c,ay,ar⟩:=aq9 (adG h1 (by simp));exact⟨c,ay,aq' ar⟩
    obtain⟨c,Tv,YN,ai,M1⟩:=aJX;split at h
    . rename_i p vs Jm;have s':∀w':World,(execOp a.eval o).run P w= .ok (.enter f (c.args.toList.map a.eval).toArray) w:=by
       intro _;have:=aiB (P:=P) (w:=w) (a:=a) Tv YN (f:=f) (caps:=[]) rfl ai
       grind
      split at h
      . rename_i qJ;have F':g=true:=by rw[qJ]at a8;simp[Ks]at a8;exact a8
        subst F';obtain⟨a7,uJ⟩:=h;obtain⟨g1,g2⟩:=Yl R M1 Jm a7;exact Calls.next bJ ea rfl (λ_ _ h=>h) (uJ cv nt φ S env n a w R g' g2 _ g1) (s' w)
      . rcases h with⟨F',a7,uJ⟩ | ⟨r,uJ,ns⟩
        . subst F';obtain⟨g1,g2⟩:=Yl R M1 Jm a7;exact Calls.next bJ ea rfl (λ_ _ h=>h) (uJ cv nt φ S env n a w R g' g2 _ g1) (s' w)
        cases OQ:g with
        | true=>
         obtain⟨a7,uJ⟩:=uJ OQ;obtain⟨g1,g2⟩:=Yl R M1 Jm a7;simp only[q'];refine Calls.next (K2:=λI' J'=>I'=r/\J'=J) bJ ea OQ (λI' s ak=>?_) (uJ cv nt φ S env n a w R g' g2 _ g1) (s' w)
         obtain⟨rfl,rfl⟩:=ak;exact ns
        | false=>
         simp only[u1,vv];exact akz ns rfl OQ
    . exact h.elim
   . rename_i x args qb;rw[qb]at h1;obtain⟨c,Tv,ar⟩:=aq4 (adG h1 (by simp));obtain⟨t,rfl,YN,M1⟩:=aq5 ar;split at h
     . rename_i q f caps p vs iJ Jm;obtain⟨qJ,ai,ee,a7,uJ⟩:=h;have F':g=true:=by rw[qJ]at a8;simp[Ks]at a8;exact a8
       subst F';obtain⟨g1,g2⟩:=Yl R M1 Jm a7;have aa:=f5 (x:= .tmp t) R rfl iJ ee;have af9:a.eval (.tmp t)= .func (.func f) #[] (caps.map λb=>Value.pointer (some ⟨(φ b).1,0,none⟩)).toArray:=aa.1.xn;have an3:ez (km φ w S) (caps.map λb=>V.c (.ptr b 0)) (caps.map λb=>Value.pointer (some ⟨(φ b).1,0,none⟩)):=by
        refine ez.SI (by simp) ?_;intro i v x h1 ah;simp only[V4,fr]at h1 ah;obtain⟨b,J4,rfl⟩:=h1;obtain⟨hj,JE,rfl⟩:=ah;rw[J4]at JE;cases JE;exact .c rfl
       have K4:V.cx.V.u' n (vs++caps.map λb=>V.c (.ptr b 0))=true:=by
        refine ZX ?_;intro i v cJ;by_cases al:i < vs.length
        . rw[V2 al]at cJ;exact Vn g2 cJ
        . rw[V1 (by omega)]at cJ;simp only[V4,fr]at cJ;obtain⟨b,J4,rfl⟩:=cJ;have ak:=aa.2;simp only[V.cx,C.cx,qx]at ak ⊢
          grind
       exact Calls.next bJ ea rfl (λ_ _ h=>h) (uJ cv nt φ S env n a w R g' K4 _ (g1.append an3)) (aiB Tv YN af9 ai)
     . exact h.elim
   . rename_i neg x qb;rw[qb]at h1;obtain⟨Tn,ty,y,z,HW,e,Jn,aJW,rfl,hu,gA,b8⟩:=aCz (adG h1 (by simp));have aLr:∀(b:Bool) (hY:Option Addr) (l c:Nat),a.eval y= .slice hY l c->hY.isNone=b->(execOp a.eval o).run P w= .ok (.value (.bool (if(Tn== .neq)then !b else b))) w:=by
      intro b hY l c cJ ai;subst ai;obtain⟨ap3,axU,agc⟩:∃ap3:Value,a.eval z=ap3/\ap3= .slice none 0 0:=by
       unfold ale at gA;split at gA
       . exact⟨_,rfl,rfl⟩
       . cases gA
      subst agc;have Xi:(eqGuard Tn ty y z (a.eval y) (a.eval z)).run P w= .ok () w:=ak2 (by rw[cJ];simp) (by rw[cJ];simp);have afu:(Op.equal ty (.slice hY l c) (.slice none 0 0)).run P w= .ok hY.isNone w:=by
       obtain⟨d,a6⟩:∃d,Op.maxDepth=d+1:=⟨9999,rfl⟩
       unfold Op.equal;rw[a6];unfold Op.equalIn;cases hY with
       | none=>simp only[Sem.run_bind,run_underlying hu,Result.andThen_ok];rfl
       | some hY=>simp only[Sem.run_bind,run_underlying hu,Result.andThen_ok];rfl
      have afv:(binOp Tn ty (a.eval y) (a.eval z)).run P w= .ok (.bool (if(Tn== .neq)then !hY.isNone else hY.isNone)) w:=by
       rcases aJW with rfl | rfl
       . rw[cJ,axU];simp only[binOp,Sem.run_bind,afu];rfl
       . rw[cJ,axU];simp only[binOp,Sem.run_bind,afu];rfl
      simp[execOp,Jn,Xi,afv]
     have fin : ∀ (b : Bool) (hY : Option Addr) (l c : Nat), o.guard = none -> a.eval y = .slice hY l c -> hY.isNone = b -> K (zt env qy.dst true (aaf (if (Tn == .neq) then !b else b))) J ->
      (if g=true then o.wp P a w (P2 cv nt (B' n key) K) Q else P2 cv nt (B' n key) K (a.put o.dst undef) w):=by
      intro b hY l c qJ cJ ai ns;have F':g=true:=by
       have:Region.wanted o (yielded ops a.tmps)=true:=by simp[Region.wanted,qJ]
       grind
      rw[b6 F'];unfold Oper.wp;rw[aLr b hY l c cJ ai];show P2 cv nt (B' n key) K (a.put o.dst _) w;rw[<-bJ];exact⟨φ,S,_,_,ns,(R.more λ_ h=>SX h).aiR ea (λ_=>.aae _) (λh=>by cases h) (λ_=>rfl)⟩
     split at h
     . rename_i p es iJ;obtain⟨qJ,a7,ns⟩:=h;obtain⟨hY,cap,sz,b,off,f,cJ,_,_,_,hv,_⟩:=ik.Qq (f5 R b8 iJ a7).1.xn;exact fin hY.isNone hY _ _ (alf ah qJ) cJ rfl (ns _ λh=>by rw[hv h];rfl)
     . rename_i p iJ;obtain⟨qJ,a7,ns⟩:=h;obtain⟨hY,cJ⟩:=(f5 R b8 iJ a7).1.xn;exact fin hY.isNone hY _ _ (alf ah qJ) cJ rfl (ns _)
     . rename_i p b sz off l iJ;obtain⟨qJ,a7,ns⟩:=h;obtain⟨hY,cJ,ch,hle⟩:=gb.MB (f5 R b8 iJ a7).1.xn;exact fin hY.isNone hY _ _ (alf ah qJ) cJ rfl (ns _ λh=>by rw[ch (by omega)];rfl)
     . exact h.elim
   . rename_i Tv YN aM6;split at h
     . rename_i p v J' ch;obtain⟨a7,hv,ns⟩:=h;cases OQ:g with
       | true=>
        simp only[q'];obtain⟨x,hn,hK,w',hres,LS,K3,R'⟩:=aEm R h1 g' ch (a7 OQ);have kx:(if qy.op.neutral=true then J else J')=J':=by
         split
         . rename_i PK;exact(aek PK ch).symm
         . rfl
        rw[kx]at ns;have fin:P2 cv nt (B' n key) K (a.put o.dst x) w':=by
         rw[<-bJ];exact⟨hn,hK,_,_,ns,R'.aiR ea (λ_=>LS) (λh=>by rw[OQ]at h;cases h) (λ_=>K3)⟩
        unfold Oper.wp;rcases hres with hres | ⟨hres,rfl⟩
        . rw[hres];exact fin
        . rw[hres];exact fin
       | false=>
        simp only[u1,vv];rcases hv with hv | hv
        . rw[b6 hv]at ns;exact akz ns rfl OQ
        . rw[OQ]at hv;cases hv
     . exact h.elim
end
def lt(N:Nat):Nat->Bool:=λb=>decide (b < N)
theorem ame{N b:Nat}(h:B' (lt N) N b=true):lt (N+16) b=true:=by
 simp only[B',lt,OT,I2,kc]at*;omega
theorem amx{N b:Nat}(h:N<=b):lt N b=false:=by simp[lt];omega
theorem avn{N M b:Nat}(h:N<=M)(ai:lt N b=true):lt M b=true:=by simp only[lt,I2]at*;omega
section
variable {P:Program} {cv:Ctx} {nt kk:Nat} {φ:q4} {S:r3} {env:Env} {J:ep} {N:Nat} {a:Act} {w:World}
theorem asH{ops:Array Oper}{Q:Exit -> Act -> World -> Prop}{K:Env -> ep -> Nat -> Prop}:∀{l:List Oper} {ev:List h7} {k N:Nat} {env:Env} {J:ep} {φ:q4} {S:r3} {a:Act} {w:World},O1 P nt ops l=some ev -> (∀i:Nat,i < l.length -> l[i]?=ops[k+i]?) ->
 Rel cv nt φ S env J (lt N) a w->QP P ev N env J (λe s=>K e s (N+16*ev.length))->(∀φ S e s N a w,K e s N->Rel cv nt φ S e s (lt N) a w->Q .normal a w)->wpOps P ops Q (List.range' k l.length) a w
 | [],ev,k,N,env,J,φ,S,a,w,ar,al,R,h,v'=>by
  simp[O1]at ar;subst ar;simp only[Y',List.range'_zero,wpOps];exact v' _ _ _ _ _ _ _ h R
 | o::l,ev,k,N,env,J,φ,S,a,w,ar,al,R,h,v'=>by
  simp only[O1,ha,fr]at ar;obtain⟨qy,O',VE,afE,rfl⟩:=ar;have c7:ops[k]?=some o:=by have:=al 0 (by simp);simpa using this.symm
  rw[TI,List.range'_succ,wpOps_cons];unfold wpOp;rw[c7];simp only;have hs:=ahp R (λb h1 _=>amx h1) O' (K:=λe s=>QP P VE (N+16) e s λe s=>K e s (N+16*(VE.length+1))) (by simp only[QP,TI]at h;exact h) (Q:=Q)
  have next:∀pa w',P2 cv nt (B' (lt N) N) (λe s=>QP P VE (N+16) e s λe s=>K e s (N+16*(VE.length+1))) pa w'->wpOps P ops Q (List.range' (k+1) l.length) pa w':=by
   rintro pa w' ⟨hn,hK,e,s,ns,R'⟩
   refine asH (k:=k+1) (N:=N+16) afE (λi ey=>?_) (R'.more λ_ h=>ame h) (K:=K) ?_ v'
   . have:=al (i+1) (by simp;omega)
     grind
   grind
  split at hs
  . rename_i hw;rw[b6 hw];exact .inl (Oper.wp_mono next hs)
  grind
def ay9(P:Program)(nt kk:Nat)(c:Code)(env:Env)(J:ep)(N:Nat)(Q:Exit->Env->ep->Nat->Prop):Prop:=
 ∀cv φ S a w,cv.k=kk->Rel cv nt φ S env J (lt N) a w->c.wp P (λe pa w'=>∃hn hK env' J' N',Q e env' J' N'/\Rel cv nt hn hK env' J' (lt N') pa w') a w
def k1(P:Program)(nt kk:Nat)(c:sb)(env:Env)(J:ep)(N:Nat)(Q:Exit->Env->ep->Nat->Prop):Prop:=
 ∀code,resolve P nt code=some c->ay9 P nt kk code env J N Q
variable {Q VA:Exit->Env->ep->Nat->Prop}
theorem k1.mono{c:sb}(h:k1 P nt kk c env J N Q)(ee:∀e env J N,Q e env J N->VA e env J N):k1 P nt kk c env J N VA:=
 λcode ay cv φ S a w j1 R=>wp_mono (h code ay cv φ S a w j1 R) λe a w ⟨hn,hK,env',J',N',h1,ah⟩=>⟨hn,hK,env',J',N',ee _ _ _ _ h1,ah⟩
theorem k1.skip(h:Q .normal env J N):k1 P nt kk .skip env J N Q:=by
 intro code ay cv φ S a w j1 R;cases code <;> simp only[resolve,ha,fr,reduceCtorEq,Q',UN]at ay <;> (try (first | (cases ay;done) | (obtain⟨l,_,ay⟩:=ay;(repeat' split at ay) <;> cases ay;done)))
 exact wp_skip ⟨φ,S,env,J,N,h,R⟩
theorem k1.ret(h:Q .ret env J N):k1 P nt kk .ret env J N Q:=by
 intro code ay cv φ S a w j1 R;cases code <;> simp only[resolve,ha,fr,reduceCtorEq,Q',UN]at ay <;> (try (first | (cases ay;done) | (obtain⟨l,_,ay⟩:=ay;(repeat' split at ay) <;> cases ay;done)))
 exact wp_ret ⟨φ,S,env,J,N,h,R⟩
theorem k1.exit{id:Nat}(h:Q (.exit id) env J N):k1 P nt kk (.exit id) env J N Q:=by
 intro code ay cv φ S a w j1 R;cases code <;> simp only[resolve,ha,fr,reduceCtorEq,Q',UN]at ay <;> (try (first | (cases ay;done) | (obtain⟨l,_,ay⟩:=ay;(repeat' split at ay) <;> cases ay;done)))
 cases ay;exact wp_exit ⟨φ,S,env,J,N,h,R⟩
def andThen(next:Env->ep->Nat->Prop)(Q:Exit->Env->ep->Nat->Prop):Exit->Env->ep->Nat->Prop
 | .normal,env,J,N=>next env J N
 | e,env,J,N=>Q e env J N
theorem aE8{code:Code}{x y:sb}(h:resolve P nt code=some (.seq x y)):∃a b,code= .seq a b/\resolve P nt a=some x/\resolve P nt b=some y:=by
 cases code with
 | seq a b=>
  simp only[resolve,ha,fr]at h
  grind
 | region id ops draw=>
  simp only[resolve,ha]at h
  grind
 | _=>simp[resolve,ha,fr]at h
theorem aDn{code:Code}{c:dJ}{x y:sb}(h:resolve P nt code=some (.cond c x y)):∃o a b,code= .cond o a b/\hC o=some c/\resolve P nt a=some x/\resolve P nt b=some y:=by
 cases code with
 | cond o a b=>
  simp only[resolve,ha,fr]at h
  grind
 | region id ops draw=>
  simp only[resolve,ha]at h
  grind
 | _=>simp[resolve,ha,fr]at h
theorem aDv{code:Code}{id:Nat}{x:sb}(h:resolve P nt code=some (.block id x)):∃b,code= .block id b/\resolve P nt b=some x:=by
 cases code with
 | block i b=>
  simp only[resolve,fr]at h
  grind
 | region id ops draw=>
  simp only[resolve,ha]at h
  grind
 | _=>simp[resolve,ha,fr]at h
theorem aDo{code:Code}{x:sb}(h:resolve P nt code=some (.loop x)):∃b,code= .loop b/\resolve P nt b=some x:=by
 cases code with
 | loop b=>
  simp only[resolve,fr]at h
  grind
 | region id ops draw=>
  simp only[resolve,ha]at h
  grind
 | _=>simp[resolve,ha,fr]at h
theorem aqH{code:Code}{ev:List h7}(h:resolve P nt code=some (.region ev)):∃id ops,code= .region id ops false/\O1 P nt ops ops.toList=some ev:=by
 cases code with
 | region id ops draw=>
  simp only[resolve,ha]at h;obtain⟨l,aJ,h⟩:=h;split at h
  . grind
  . rename_i a6;cases h;simp at a6;subst a6
    grind
 | _=>simp[resolve,ha,fr]at h
theorem arj{code:Code}{ev:List h7}{K1:List (Nat×Nat)}(h:resolve P nt code=some (.V8 ev K1)):
 ∃id ops,code= .region id ops true/\O1 P nt ops ops.toList=some ev/\Z3 (mt ops ev)=true/\P.follows .mixedOrders=true/\K1=aaj (mt ops ev):=by
 cases code with
 | region id ops draw=>
  simp only[resolve,ha]at h;obtain⟨l,aJ,h⟩:=h;split at h
  . rename_i a6;split at h
    . rename_i ah;cases h;subst a6;simp only[kc]at ah;exact⟨id,ops,rfl,aJ,ah.1,ah.2,rfl⟩
    . cases h
  . cases h
 | _=>simp[resolve,ha,fr]at h
theorem k1.seq{x y:sb}(h:k1 P nt kk x env J N (andThen (λenv J N=>k1 P nt kk y env J N Q) Q)):k1 P nt kk (.seq x y) env J N Q:=by
 intro code ay cv φ S a w j1 R;obtain⟨acv,azE,rfl,aa,b8⟩:=aE8 ay;refine wp_seq (wp_mono (h _ aa cv φ S a w j1 R) ?_)
 rintro e pa w' ⟨hn,hK,env',J',N',ee,R'⟩
 cases e with
 | normal=>exact ee _ b8 cv hn hK pa w' j1 R'
 | _=>exact⟨hn,hK,env',J',N',ee,R'⟩
theorem k1.cond{c:dJ}{x y:sb}{p:Prop}{b:Bool}(ay:c.get env=some (p,aaf b))(a7:p)(aa:b=true->k1 P nt kk x env J N Q)(b8:b=false->k1 P nt kk y env J N Q):k1 P nt kk (.cond c x y) env J N Q:=by
 intro code afG cv φ S a w j1 R;obtain⟨o,acv,azE,rfl,c7,Je,L8⟩:=aDn afG;have ai:=(f5 R c7 ay a7).1.O8;refine wp_cond ai ?_;cases b with
 | true=>exact aa rfl _ Je cv φ S a w j1 R
 | false=>exact b8 rfl _ L8 cv φ S a w j1 R
def inBlock(id:Nat)(Q:Exit->Env->ep->Nat->Prop):Exit->Env->ep->Nat->Prop
 | .exit i,env,J,N=>if i=id then Q .normal env J N else Q (.exit i) env J N
 | e,env,J,N=>Q e env J N
theorem k1.block{id:Nat}{x:sb}(h:k1 P nt kk x env J N (inBlock id Q)):k1 P nt kk (.block id x) env J N Q:=by
 intro code ay cv φ S a w j1 R;obtain⟨b,rfl,ai⟩:=aDv ay;refine wp_block (wp_mono (h _ ai cv φ S a w j1 R) ?_)
 rintro e pa w' ⟨hn,hK,env',J',N',ee,R'⟩
 cases e with
 | exit i=>
  simp only[inBlock]at ee;simp only[Exit.inBlock]
  grind
 | _=>exact⟨hn,hK,env',J',N',ee,R'⟩
theorem k1.region{ev:List h7}(h:QP P ev N env J (λe s=>Q .normal e s (N+16*ev.length))):k1 P nt kk (.region ev) env J N Q:=by
 intro code ay cv φ S a w j1 R;obtain⟨id,ops,rfl,ar⟩:=aqH ay;refine wp_region ?_;have:=asH (P:=P) (ops:=ops) (K:=λe s N=>Q .normal e s N) (Q:=λe pa w'=>∃hn hK env' J' N',Q e env' J' N'/\Rel cv nt hn hK env' J' (lt N') pa w') (k:=0) ar (λi al=>by simp) R h
  (λφ S e s N a w ns Jw=>⟨φ,S,e,s,N,ns,Jw⟩)
 rw[List.range_eq_range'];omega
end
def pos :List Nat->Nat->Option Nat
 | [],_=>none
 | x::r,b=>if x=b then some 0 else(pos r b).map (· +1)
theorem Vq :∀{bs:List Nat} {b i:Nat},pos bs b=some i->bs[i]?=some b
 | [],b,i,h=>by simp[pos]at h
 | x::r,b,i,h=>by
  unfold pos at h;split at h
  . grind
  . simp only[fr]at h;obtain⟨j,dx,rfl⟩:=h
    simpa using Vq dx
def Vt(bs:List Nat):List Nat->Option (List Nat)
 | []=>some []
 | c::r=>match pos bs c,Vt bs r with
  | some i,some l=>some (i::l)
  | _,_=>none
def C.hD(bs:List Nat):C->C
 | .t x=>.t x
 | .ptr b o=>match pos bs b with | some i=>.ptr i o | none=>.dead
 | .mx b sz i o=>match pos bs b with | some j=>.mx j sz i o | none=>.dead
 | .vi ts o=>.vi ts o
 | .arr b sz off len=>match pos bs b with | some i=>.arr i sz off len | none=>.dead
 | .JK b sz off len=>match pos bs b with | some i=>.JK i sz off len | none=>.dead
 | .mp b=>match pos bs b with | some i=>.mp i | none=>.dead
 | .y2 b=>match pos bs b with | some i=>.y2 i | none=>.dead
 | .l' b len=>match pos bs b with | some i=>.l' i len | none=>.dead
 | .eI=>.eI
 | .I1=>.I1
 | .I0=>.I0
 | .fn f caps=>match Vt bs caps with | some l=>.fn f l | none=>.dead
 | .dead=>.dead
def V.hD(bs:List Nat):V->V
 | .c x=>.c (x.hD bs)
 | .agg cs=>.agg (cs.map (C.hD bs))
 | .fz vs=>.fz (go bs vs)
where go (bs:List Nat):List V->List V
 | []=>[]
 | v::vs=>v.hD bs::go bs vs
def hE.hD(bs:List Nat):hE->hE
 | .box cs=>.box (cs.map (C.hD bs))
 | .arr sz es=>.arr sz es
 | .set ks=>.set ks
 | .buf E s=>.buf E s
 | .h4 E c=>.h4 E (c.hD bs)
 | .k6 sz es i o c=>.k6 sz es i o (c.hD bs)
def Vr(bs:List Nat)(env:Env):List Nat->Env
 | []=>[]
 | k::ks=>match look env k with
  | some (g,v)=>(k,g,v.hD bs)::Vr bs env ks
  | none=>Vr bs env ks
def m5(bs:List Nat)(J:ep):Nat->List Nat->ep
 | _,[]=>[]
 | i,b::r=>match ec J b with
  | some x=>(i,x.hD bs)::m5 bs J (i+1) r
  | none=>m5 bs J (i+1) r
def keeps(k:Nat)(bs:List Nat):Bool:=(List.range k).all λi=>bs[i]?==some i
section
variable {P:Program} {cv:Ctx} {nt kk:Nat} {φ:q4} {S:r3} {env:Env} {J:ep} {N:Nat} {n:Nat->Bool} {a:Act} {w:World}
theorem alg :∀{bs caps l:List Nat},Vt bs caps=some l->caps.length=l.length/\∀(i b j:Nat),caps[i]?=some b->l[i]?=some j->bs[j]?=some b
 | bs,[],l,h=>by simp[Vt]at h;subst h;simp
 | bs,c::r,l,h=>by
  unfold Vt at h;split at h
  . rename_i j Jg dx aJ;cases h;obtain⟨h1,ah⟩:=alg aJ;refine⟨by simp[h1],?_⟩;intro i b PO ai Qb;cases i with
    | zero=>simp at ai Qb;subst ai;subst Qb;exact Vq dx
    | succ i=>exact ah i b PO (by simpa using ai) (by simpa using Qb)
  . cases h
theorem gb.hD{hn:q4}{bs:List Nat}(k9:∀(i:Nat) b,bs[i]?=some b->hn i=φ b){c:C}{v:Value}(h:gb φ w S c v):gb hn w S (c.hD bs) v:=by
 have c7:=gb.OU h;cases c with
 | ptr b o=>
  simp only[C.hD];split
  . rename_i i al;simp only[gb,k9 i b (Vq al)];exact h
  . exact c7
 | mx b sz i o=>
  simp only[C.hD];split
  . rename_i j dx;simp only[gb,k9 j b (Vq dx)];exact h
  . exact c7
 | arr b sz off len=>
  simp only[C.hD];split
  . rename_i i al;simp only[gb,k9 i b (Vq al)];exact h
  . exact c7
 | JK b sz off len=>
  simp only[C.hD];split
  . rename_i i al;simp only[gb,k9 i b (Vq al)];exact h
  . exact c7
 | mp b=>
  simp only[C.hD];split
  . rename_i i al;simp only[gb,k9 i b (Vq al)];exact h
  . exact c7
 | y2 b=>
  simp only[C.hD];split
  . rename_i i al;simp only[gb,k9 i b (Vq al)];exact h
  . exact c7
 | l' b len=>
  simp only[C.hD];split
  . rename_i i al;simp only[gb,k9 i b (Vq al)];exact h
  . exact c7
 | fn f caps=>
  simp only[C.hD];split
  . rename_i l aJ;obtain⟨h1,ah⟩:=alg aJ;simp only[gb]at h ⊢;rw[h]
    congr 2
    apply List.ext_getElem (by simp[h1]);intro i axl acK;simp at axl acK;simp only[List.getElem_map];rw[k9 _ _ (ah i _ _ (CJ axl) (CJ acK))]
  . exact c7
 | _=>exact h
theorem aik{bs:List Nat}:∀{vs:List V} {i:Nat},(V.hD.go bs vs)[i]?=(vs[i]?).map (V.hD bs)
 | [],i=>by simp[V.hD.go]
 | v::vs,0=>by simp[V.hD.go]
 | v::vs,i+1=>by simp[V.hD.go,aik]
theorem ahs{bs:List Nat}:∀{vs:List V},(V.hD.go bs vs).length=vs.length
 | []=>rfl
 | v::vs=>by simp[V.hD.go,ahs]
theorem ez.XD{α β Ju:Type}{R:α->β->Prop}{R':Ju->β->Prop}{f:α->Ju}{l:List α}{m:List β}(h:ez R l m)(k:∀a b,R a b->R' (f a) b):ez R' (l.map f) m:=by
 induction h with
 | nil=>exact .nil
 | cons ze _ ih=>exact .cons (k _ _ ze) ih
theorem km.hD{hn:q4}{bs:List Nat}(k9:∀(i:Nat) b,bs[i]?=some b->hn i=φ b){v:V}{x:Value}(h:km φ w S v x):km hn w S (v.hD bs) x:=by
 induction h with
 | c h=>exact .c (gb.hD k9 h)
 | agg h=>exact .agg (h.XD λ_ _=>gb.hD k9)
 | fz vs xs aJ h ih=>
  refine .fz _ xs (by rw[ahs];exact aJ) ?_;intro i v x cJ aa;rw[aik,fr]at cJ
  grind
theorem Z4{bs:List Nat}{b i:Nat}(h:pos bs b=some i):i < bs.length:=(pJ.1 (Vq h)).1
theorem C.PT{bs:List Nat}(c:C):(c.hD bs).cx (lt bs.length)=true:=by
 cases c with
 | ptr b o=>simp only[C.hD];split <;> simp[C.cx,lt];rename_i h;exact Z4 h
 | mx b sz i o=>simp only[C.hD];split <;> simp[C.cx,lt];rename_i h;exact Z4 h
 | arr b sz off len=>simp only[C.hD];split <;> simp[C.cx,lt];rename_i h;exact Z4 h
 | JK b sz off len=>simp only[C.hD];split <;> simp[C.cx,lt];rename_i h;exact Z4 h
 | mp b=>simp only[C.hD];split <;> simp[C.cx,lt];rename_i h;exact Z4 h
 | y2 b=>simp only[C.hD];split <;> simp[C.cx,lt];rename_i h;exact Z4 h
 | l' b len=>simp only[C.hD];split <;> simp[C.cx,lt];rename_i h;exact Z4 h
 | fn f caps=>
  simp only[C.hD];split
  . rename_i l aJ;obtain⟨h1,ah⟩:=alg aJ;simp only[C.cx,qx,lt,I2];intro j dx;obtain⟨i,al,rfl⟩:=K' dx;exact(pJ.1 (ah i _ _ (CJ (by omega)) (CJ al))).1
  . rfl
 | _=>rfl
theorem V.PT{bs:List Nat}:∀(v:V),(v.hD bs).cx (lt bs.length)=true
 | .c x=>by simp only[V.hD,V.cx];exact C.PT x
 | .agg cs=>by simp only[V.hD,V.cx,UO,qx];intro c _;exact C.PT c
 | .fz vs=>by simp only[V.hD,V.cx];exact go vs
where go:∀vs,V.cx.V.u' (lt bs.length) (V.hD.go bs vs)=true
 | []=>rfl
 | v::vs=>by simp only[V.hD.go,V.cx.V.u',kc];exact⟨V.PT v,go vs⟩
theorem aeb{bs:List Nat}:∀{ks:List Nat} {k:Nat} {g:Bool} {v:V},look (Vr bs env ks) k=some (g,v)->∃v0,look env k=some (g,v0)/\v=v0.hD bs
 | [],k,g,v,h=>by simp[Vr,look]at h
 | x::ks,k,g,v,h=>by
  unfold Vr at h;split at h
  . rename_i LN LG aJ;unfold look at h;split at h
    . grind
    . exact aeb h
  . exact aeb h
theorem Wx{bs:List Nat}:∀{r:List Nat} {i:Nat} {b:Nat} {x:hE},ec (m5 bs J i r) b=some x->∃j c b7,b=i+j/\r[j]?=some c/\ec J c=some b7/\x=b7.hD bs
 | [],i,b,x,h=>by simp[m5,ec]at h
 | c::r,i,b,x,h=>by
  unfold m5 at h;split at h
  . rename_i b7 JI;unfold ec at h;split at h
    . simp_all
    . obtain⟨j,vJ,Py,h1,ah,bJ,ea⟩:=Wx h;exact⟨j+1,vJ,Py,by omega,by simpa using ah,bJ,ea⟩
  . obtain⟨j,vJ,Py,h1,ah,bJ,ea⟩:=Wx h;exact⟨j+1,vJ,Py,by omega,by simpa using ah,bJ,ea⟩
theorem pr.hD{hn:q4}{bs:List Nat}(k9:∀(i:Nat) b,bs[i]?=some b->hn i=φ b){i b:Nat}(al:bs[i]?=some b){x:hE}(h:pr φ w S b x):pr hn w S i (x.hD bs):=by
 cases x with
 | box cs=>
  obtain⟨h0,vs,E,h1,ah,bJ⟩:=h;simp only[hE.hD,pr,k9 i b al];exact⟨h0,vs,E,h1,ah.XD λ_ _=>gb.hD k9,bJ⟩
 | arr sz es=>simp only[hE.hD,pr,k9 i b al];exact h
 | set ks=>simp only[hE.hD,pr,k9 i b al];exact h
 | buf E s=>simp only[hE.hD,pr,k9 i b al];exact h
 | h4 E c=>
  obtain⟨h0,⟨p,v,h1,ah,bJ⟩,ea⟩:=h;simp only[hE.hD,pr,k9 i b al];exact⟨h0,⟨p,v,h1,ah,gb.hD k9 bJ⟩,ea⟩
 | k6 sz es i o c=>
  obtain⟨h1,⟨vs,E,hg,hl,j2,v,px,mJ⟩,nJ⟩:=h;simp only[hE.hD,pr,k9 _ b al];exact⟨h1,⟨vs,E,hg,hl,j2,v,px,gb.hD k9 mJ⟩,nJ⟩
theorem Rel.tidy(R:Rel cv nt φ S env J (lt N) a w)(ks bs:List Nat)(hM:bs.Nodup)(hk:keeps cv.k bs=true):
 ∃hn,Rel cv nt hn S (Vr bs env ks) (m5 bs J 0 bs) (lt bs.length) a w:=by
 have k9:∀(i:Nat) b,bs[i]?=some b->(λi=>φ ((bs[i]?).getD 0)) i=φ b:=by intro i b h;simp[h]
 have ajj:∀i:Nat,i < cv.k->bs[i]?=some i:=by
  intro i al;simp only[keeps,qx,adb,Ox]at hk
  grind
 refine⟨λi=>φ ((bs[i]?).getD 0),⟨⟨λb x aa=>?_,λb hj x y aa b8 hv h0 yJ=>?_,R.hJ.st⟩,λk g v aJ a8=>?_,λk g v aJ a8=>?_,λk g v aJ a8=>?_,λb x aa=>?_,R.size,R.defers,R.ext,λb x aa h0=>?_,λb ai=>?_,λb ai=>?_⟩⟩
 . obtain⟨j,c,b7,rfl,ah,bJ,rfl⟩:=Wx aa;rw[Jq];exact pr.hD k9 ah (R.hJ.blk c b7 bJ)
 . obtain⟨j,c,b7,rfl,ah,bJ,rfl⟩:=Wx aa;obtain⟨PO,vJ,Py,rfl,Tq,aaw,rfl⟩:=Wx b8;simp only[Jq,ah,Tq,SG]at h0 yJ ⊢;refine R.hJ.inj c vJ b7 Py bJ aaw ?_ h0 yJ;intro e;subst e;have L9:=(pJ.1 ah)
   have IJ:=(pJ.1 Tq)
   obtain⟨a1,b1⟩:=L9;obtain⟨a2,b2⟩:=IJ;have a7:=ac9.1 hM;rcases apd j PO with h | h | h
   . exact a7 j PO a1 a2 h (b1.trans b2.symm)
   . subst h;exact hv rfl
   . exact a7 PO j a2 a1 h (b2.trans b1.symm)
 . obtain⟨v0,h1,rfl⟩:=aeb aJ;obtain⟨x,aa,ar⟩:=R.LM k g v0 h1 a8;exact⟨x,aa,km.hD k9 ar⟩
 . obtain⟨v0,h1,rfl⟩:=aeb aJ;exact R.MY k g v0 h1 a8
 . obtain⟨v0,h1,rfl⟩:=aeb aJ;exact V.PT v0
 . obtain⟨j,c,b7,rfl,ah,bJ,rfl⟩:=Wx aa;refine⟨by simp[lt];exact(pJ.1 ah).1,?_⟩;cases b7 with
   | box cs=>simp only[hE.hD,hE.cx,UO,qx];intro c _;exact C.PT c
   | arr sz es=>rfl
   | set ks=>rfl
   | buf E s=>rfl
   | h4 E c=>exact C.PT c
   | k6 sz es i o c=>exact C.PT c
 . obtain⟨j,c,b7,rfl,ah,bJ,rfl⟩:=Wx aa;simp only[Jq,ah,SG]at h0 ⊢;exact R.own c b7 bJ h0
 . simp only[ajj b ai,SG];exact R.fix b ai
 . simp only[lt,I2];exact(pJ.1 (ajj b ai)).1
theorem k1.tidy{c:sb}{Q:Exit->Env->ep->Nat->Prop}(ks bs:List Nat)(hM:bs.Nodup)(hk:keeps kk bs=true)(h:k1 P nt kk c (Vr bs env ks) (m5 bs J 0 bs) bs.length Q):k1 P nt kk c env J N Q:=by
 intro code ay cv φ S a w j1 R;subst j1;obtain⟨hn,R'⟩:=R.tidy ks bs hM hk;exact h code ay cv hn S a w rfl R'
end
def cut(es:List (List T))(off len:Nat):List (List T):=if off=0/\len=es.length then es else(es.drop off).take len
def C.j0(b0 sa:Nat)(es:List (List T)):C->C
 | .arr b sz off len=>if b=b0 then(if sz=sa/\off+len<=es.length then .t (.slice (cut es off len))else .dead)else .arr b sz off len
 | .mx b sz i o=>if b=b0 then .dead else .mx b sz i o
 | c=>c
def V.j0(b0 sa:Nat)(es:List (List T)):V->V
 | .c x=>.c (x.j0 b0 sa es)
 | .agg cs=>.agg (cs.map (C.j0 b0 sa es))
 | .fz vs=>.fz (go b0 sa es vs)
where go (b0 sa:Nat) (es:List (List T)):List V->List V
 | []=>[]
 | v::vs=>v.j0 b0 sa es::go b0 sa es vs
def hE.j0(b0 sa:Nat)(es:List (List T)):hE->hE
 | .box cs=>.box (cs.map (C.j0 b0 sa es))
 | .arr sz l=>.arr sz l
 | .set ks=>.set ks
 | .buf E s=>.buf E s
 | .h4 E c=>.h4 E (c.j0 b0 sa es)
 | .k6 sz l i o c=>.k6 sz l i o (c.j0 b0 sa es)
def Yu(b0 sa:Nat)(es:List (List T)):Env->Env
 | []=>[]
 | (k,g,v)::r=>(k,g,v.j0 b0 sa es)::Yu b0 sa es r
def Uw(b0 sa:Nat)(es:List (List T)):ep->ep
 | []=>[]
 | (k,x)::r=>if k=b0 then Uw b0 sa es r else(k,x.j0 b0 sa es)::Uw b0 sa es r
section
variable {P:Program} {cv:Ctx} {nt kk:Nat} {φ:q4} {S:r3} {env:Env} {J:ep} {N:Nat} {n:Nat->Bool} {a:Act} {w:World}
theorem aeg{b0 sa:Nat}{es:List (List T)}:∀{env:Env} {k:Nat},look (Yu b0 sa es env) k=(look env k).map λx=>(x.1,x.2.j0 b0 sa es)
 | [],k=>rfl
 | (i,g,v)::r,k=>by
  simp only[Yu,look];split
  . rfl
  . exact aeg
theorem aiC{b0 sa:Nat}{es:List (List T)}:∀{J:ep} {k:Nat},ec (Uw b0 sa es J) k=if k=b0 then none else(ec J k).map (hE.j0 b0 sa es)
 | [],k=>by simp[Uw,ec]
 | (i,x)::r,k=>by
  simp only[Uw,ec];by_cases h:i=b0
  . rw[b6 h,aiC]
    grind
  . rw[b' h];simp only[ec];by_cases ah:i=k
    . grind
    . rw[b' ah,b' ah,aiC]
def acg(S:r3)(q:Nat×Nat):r3:=λb j=>S b j\/(q.2≠0/\b=q.1)
theorem aHU{es:List (List T)}{off len:Nat}{e:List T}(h:e∈cut es off len):e∈es:=by
 unfold cut at h
 grind
theorem aHV{es:List (List T)}{off len i:Nat}{e:List T}(hle:off+len<=es.length)(h:(cut es off len)[i]?=some e):es[off+i]?=some e/\i < len:=by
 unfold cut at h
 grind
theorem aFH{es:List (List T)}{off len:Nat}(hle:off+len<=es.length):(cut es off len).length=len:=by
 unfold cut
 grind
theorem gb.j0{b0 sa:Nat}{es:List (List T)}(u0:pr φ w S b0 (.arr sa es)){c:C}{v:Value}(h:gb φ w S c v):gb φ w (acg S (φ b0)) (c.j0 b0 sa es) v:=by
 have m:Lm w S w (acg S (φ b0)):=⟨λ_ _ h=>.inl h,λ_ _ _=>rfl⟩
 have c7:=gb.OU h;cases c with
 | arr b sz off len=>
  simp only[C.j0];by_cases ai:b=b0
  . subst ai;rw[b6 rfl];split
    . rename_i ay;obtain⟨rfl,hle⟩:=ay;obtain⟨h1,ah,bJ,ea,hi⟩:=u0;obtain⟨hY,rfl,ch,aKA⟩:=gb.MB h;have aJ:=aFH hle;show ik w _ (.slice (cut es off len)) _;have e':Value.slice hY len ((φ b).2 - off)=Value.slice hY (cut es off len).length ((φ b).2 - off):=by rw[aJ]
      rw[e'];by_cases h0:(φ b).2=0
      . have:cut es off len=[]:=Sv (by omega);rw[this];exact ik.slice [] _ _ 0 0 0 (λ_ _=>undef) (by simp) (by simp) (by simp) (by simp) (by simp) (by simp)
      . obtain⟨vs,E,ak,M4,ar,hs⟩:=hi h0;refine ik.slice _ _ _ sz (φ b).1 (off*sz) (λi j=>(vs.getD ((off+i)*sz+j) undef)) (by omega) (by omega) (λe he=>bJ e (aHU he)) (λ_=>ch h0) ?_ ?_
        . intro i j al dx;rw[aJ]at al;refine⟨.inr ⟨h0,rfl⟩,?_⟩;rw[OZ ak,show off*sz+i*sz+j=(off+i)*sz+j by rw[Lc]];have ey:(off+i)*sz+j < vs.length:=by
           have:=Ji sz (show off+i+1<=(φ b).2 by omega)
           grind
          grind
        . intro i j e t he ht;obtain⟨an8,al⟩:=aHV hle he;obtain⟨v,cJ,VV⟩:=ar _ _ _ _ an8 ht;simp only[List.getD,cJ,SG];exact ik.mono m VV
    . exact c7
  . rw[b' ai];exact gb.mono (n:=λ_=>true) m (λ_ _=>rfl) (C.Um _) h
 | mx b sz i o=>
  simp only[C.j0];split
  . exact c7
  . exact h
 | _=>exact gb.mono (n:=λ_=>true) m (λ_ _=>rfl) (C.Um _) h
theorem alh{b0 sa:Nat}{es:List (List T)}:∀{vs:List V} {i:Nat},(V.j0.go b0 sa es vs)[i]?=(vs[i]?).map (V.j0 b0 sa es)
 | [],i=>by simp[V.j0.go]
 | v::vs,0=>by simp[V.j0.go]
 | v::vs,i+1=>by simp[V.j0.go,alh]
theorem aly{b0 sa:Nat}{es:List (List T)}:∀{vs:List V},(V.j0.go b0 sa es vs).length=vs.length
 | []=>rfl
 | v::vs=>by simp[V.j0.go,aly]
theorem km.j0{b0 sa:Nat}{es:List (List T)}(u0:pr φ w S b0 (.arr sa es)){v:V}{x:Value}(h:km φ w S v x):km φ w (acg S (φ b0)) (v.j0 b0 sa es) x:=by
 induction h with
 | c h=>exact .c (gb.j0 u0 h)
 | agg h=>exact .agg (h.XD λ_ _=>gb.j0 u0)
 | fz vs xs aJ h ih=>
  refine .fz _ xs (by rw[aly];exact aJ) ?_;intro i v x cJ aa;rw[alh,fr]at cJ
  grind
theorem C.YJ{b0 sa:Nat}{es:List (List T)}{c:C}(h:c.cx n=true):(c.j0 b0 sa es).cx n=true:=by
 cases c with
 | arr b sz off len=>simp only[C.j0];split;split;rfl;rfl;exact h
 | mx b sz i o=>simp only[C.j0];split;rfl;exact h
 | _=>exact h
theorem V.YJ{b0 sa:Nat}{es:List (List T)}:∀{v:V},v.cx n=true->(v.j0 b0 sa es).cx n=true
 | .c x,h=>by simp only[V.j0,V.cx]at h ⊢;exact C.YJ h
 | .agg cs,h=>by simp only[V.j0,V.cx,UO,qx]at h ⊢;intro c ay;exact C.YJ (h c ay)
 | .fz vs,h=>by simp only[V.j0,V.cx]at h ⊢;exact go vs h
where go:∀vs,V.cx.V.u' n vs=true->V.cx.V.u' n (V.j0.go b0 sa es vs)=true
 | [],_=>rfl
 | v::vs,h=>by simp only[V.j0.go,V.cx.V.u',kc]at h ⊢;exact⟨V.YJ h.1,go vs h.2⟩
theorem Rel.freeze(R:Rel cv nt φ S env J n a w){b0 sa:Nat}{es:List (List T)}(kx:ec J b0=some (.arr sa es)):
 Rel cv nt φ (acg S (φ b0)) (Yu b0 sa es env) (Uw b0 sa es J) n a w:=by
 have u0:=R.hJ.blk b0 _ kx;have m:Lm w S w (acg S (φ b0)):=⟨λ_ _ h=>.inl h,λ_ _ _=>rfl⟩
 have JQ:∀b x,ec (Uw b0 sa es J) b=some x->b≠b0/\∃b7,ec J b=some b7/\x=b7.j0 b0 sa es:=by
  intro b x aa;rw[aiC]at aa;split at aa
  . cases aa
  . rename_i h;simp only[fr]at aa
    grind
 have acM:∀b x,b≠b0->ec J b=some x->(φ b).2≠0->∀j,¬acg S (φ b0) (φ b).1 j:=by
  intro b x hv aa h0 j dx;rcases dx with dx | ⟨aaB,dx⟩
  . exact(R.hJ.blk b x aa).XF h0 j dx
  . exact R.hJ.inj b b0 x _ aa kx hv h0 aaB dx
 refine⟨⟨λb x aa=>?_,λb hj x y aa b8 hv h0 yJ=>?_,λb j dx=>?_⟩,λk g v aJ a8=>?_,λk g v aJ a8=>?_,λk g v aJ a8=>?_,λb x aa=>?_,R.size,R.defers,?_,λb x aa h0=>?_,R.fix,R.J7⟩
 . obtain⟨hv,b7,JI,rfl⟩:=JQ b x aa;have Jw:=R.hJ.blk b b7 JI;cases b7 with
   | box cs=>
    obtain⟨h0,vs,E,h1,ah,bJ⟩:=Jw;exact⟨h0,vs,E,h1,ah.XD λ_ _=>gb.j0 u0,acM b _ hv JI h0⟩
   | arr sz l=>
    obtain⟨h1,ah,bJ,ea,hi⟩:=Jw;refine⟨h1,ah,bJ,ea,λh0=>?_⟩;obtain⟨vs,E,hg,hl,j2,px⟩:=hi h0;exact⟨vs,E,hg,hl,λi j e t he ht=>let⟨v,cJ,ar⟩:=j2 i j e t he ht;⟨v,cJ,ik.mono m ar⟩,acM b _ hv JI h0⟩
   | set ks=>exact⟨Jw.1,Jw.2.1,acM b _ hv JI Jw.1⟩
   | buf E s=>exact⟨Jw.1,Jw.2.1,λh0=>⟨(Jw.2.2 h0).1,acM b _ hv JI h0⟩⟩
   | h4 E c=>
    obtain⟨h0,⟨p,v,h1,ah,bJ⟩,ea⟩:=Jw;exact⟨h0,⟨p,v,h1,ah,gb.j0 u0 bJ⟩,acM b _ hv JI h0⟩
   | k6 sz l i o c=>
    obtain⟨⟨h1,ah,bJ,ea,hi,q0⟩,⟨vs,E,hg,hl,j2,v,px,mJ⟩,nJ⟩:=Jw;exact⟨⟨h1,ah,bJ,ea,hi,q0⟩,⟨vs,E,hg,hl,λi j e t he ht g'=>let⟨v,cJ,ar⟩:=j2 i j e t he ht g';⟨v,cJ,ik.mono m ar⟩,v,px,gb.j0 u0 mJ⟩,acM b _ hv JI (by omega)⟩
 . obtain⟨_,b7,JI,rfl⟩:=JQ b x aa;obtain⟨_,Qx,Sr,rfl⟩:=JQ hj y b8;exact R.hJ.inj b hj b7 Qx JI Sr hv h0 yJ
 . rcases dx with dx | ⟨aaB,rfl⟩
   . exact R.hJ.st b j dx
   . exact u0.Qo aaB
 . rw[aeg,fr]at aJ;obtain⟨⟨g0,v0⟩,Nr,he⟩:=aJ;cases he;obtain⟨x,aa,ar⟩:=R.LM k g0 v0 Nr a8;exact⟨x,aa,km.j0 u0 ar⟩
 . rw[aeg,fr]at aJ;obtain⟨⟨g0,v0⟩,Nr,he⟩:=aJ;cases he;exact R.MY k g0 v0 Nr a8
 . rw[aeg,fr]at aJ;obtain⟨⟨g0,v0⟩,Nr,he⟩:=aJ;cases he;exact V.YJ (R.LL k g0 v0 Nr a8)
 . obtain⟨_,b7,JI,rfl⟩:=JQ b x aa;refine⟨(R.u2 b b7 JI).1,?_⟩;have:=(R.u2 b b7 JI).2;cases b7 with
   | box cs=>simp only[hE.j0,hE.cx,UO,qx]at this ⊢;intro c ay;exact C.YJ (this c ay)
   | arr sz l=>rfl
   | set ks=>rfl
   | buf E s=>rfl
   | h4 E c=>simp only[hE.j0,hE.cx]at this ⊢;exact C.YJ this
   | k6 sz l i o c=>simp only[hE.j0,hE.cx]at this ⊢;exact C.YJ this
 . refine⟨R.ext.os,R.ext.tape,R.ext.output,R.ext.size,R.ext.block,R.ext.mono.trans m,λb j dx=>?_⟩;rcases dx with dx | ⟨aaB,rfl⟩
   . exact R.ext.Zi b j dx
   . rcases R.own b0 _ kx aaB with h | h
     . exact .inr (.inl h)
     . exact .inr (.inr h)
 . obtain⟨_,b7,JI,rfl⟩:=JQ b x aa;exact R.own b b7 JI h0
theorem k1.freeze{c:sb}{Q:Exit->Env->ep->Nat->Prop}(b0:Nat){sa:Nat}{es:List (List T)}(kx:ec J b0=some (.arr sa es))(h:k1 P nt kk c (Yu b0 sa es env) (Uw b0 sa es J) N Q):k1 P nt kk c env J N Q:=by
 intro code ay cv φ S a w j1 R;exact h code ay cv φ _ a w j1 (R.freeze kx)
inductive OW where
 | tmp (t:Nat)
 | cell (t:Nat) (agg:Bool) (n:Nat)
def NH(P:Program):List ResultVar->Option (List OW)
 | []=>some []
 | .tmp t::r=>(NH P r).map (.tmp t::·)
 | .cell a ty::r=>(Z2 P ty).bind λg=>(NH P r).map (.cell a g.1 g.2::·)
def Z5(env:Env)(J:ep):OW->Option (Prop×V)
 | .tmp t=>(look env t).map λx=>(x.1=true,x.2)
 | .cell t g k=>match look env t with
  | some (g0,.c (.ptr b o))=>match ec J b with
   | some (.box cs)=>(PQ g k cs o).map λv=>(g0=true,v)
   | _=>none
  | _=>none
def Vu(env:Env)(J:ep):List OW->Option (Prop×List V)
 | []=>some (True,[])
 | r::rs=>(Z5 env J r).bind λx=>(Vu env J rs).map λy=>(x.1/\y.1,x.2::y.2)
def TO :List V->V
 | [v]=>v
 | vs=>.fz vs
def yq(P:Program)(f:Nat)(args:List V)(J:ep)(k:Nat)(Q:V->ep->Nat->Prop):Prop:=
 ∀(φ:q4) (S:r3) (w:World) (B:Nat->Prop),Yv φ w S J->(∀(b:Nat) x,ec J b=some x->b < k/\x.cx (lt k)=true)->(∀(b:Nat) x,ec J b=some x->(φ b).2≠0->B (φ b).1)->
  V.cx.V.u' (lt k) args=true->∀vs:List Value,ez (km φ w S) args vs->
  Calls P f vs.toArray w λe w'=>∃v r hn hK J' N',e= .returned v/\Q r J' N'/\km hn w' hK r v/\r.cx (lt N')=true/\Yv hn w' hK J'/\(∀(b:Nat) x,ec J' b=some x->b < N'/\x.cx (lt N')=true)/\Ext B S hK w w'/\
   (∀(b:Nat) x,ec J' b=some x->(hn b).2≠0->B (hn b).1\/w.heap.size<=(hn b).1)/\∀b,b < k->hn b=φ b
theorem Ext.refl{B:Nat->Prop}:Ext B S S w w:=⟨rfl,rfl,rfl,JA _,λ_ _ _=>rfl,Lm.refl _ _,λ_ _ h=>.inl h⟩
def JZ :Nat->List V->Env
 | _,[]=>[]
 | i,v::vs=>(i,true,v)::JZ (i+1) vs
theorem aip :∀{vs:List V} {i k:Nat} {g:Bool} {v:V},look (JZ i vs) k=some (g,v)->g=true/\∃j,k=i+j/\vs[j]?=some v
 | [],i,k,g,v,h=>by simp[JZ,look]at h
 | x::vs,i,k,g,v,h=>by
  simp only[JZ,look]at h;split at h
  . simp_all
  . obtain⟨h1,j,ah,bJ⟩:=aip h;exact⟨h1,j+1,by omega,by simpa using bJ⟩
def adh(a:Act):ResultVar->Sem Value
 | .tmp t=>Pure.pure (a.tmps.getD t undef)
 | .cell hY ty=>do loadVar ty (<-asAddr (a.tmps.getD hY undef))
theorem aFI(fn:Func)(a:Act):results fn a.tmps=(fn.results.mapM (adh a) >>=λvs=>Pure.pure (if h:vs.size=1 then vs[0]else .tuple vs)):=by rfl
theorem aDp(R:Rel cv nt φ S env J n a w){V9:ResultVar}{VF:OW}(ar:NH P [V9]=some [VF]){p:Prop}{v:V}(h:Z5 env J VF=some (p,v))(a7:p):
 ∃x,(adh a V9).run P w= .ok x w/\km φ w S v x/\v.cx n=true:=by
 cases V9 with
 | tmp t=>
  simp[NH]at ar;subst ar;simp only[Z5,fr,hy]at h;obtain⟨⟨g,v0⟩,aJ,rfl,rfl⟩:=h;obtain⟨x,aa,LS⟩:=R.LM t g v0 aJ a7;refine⟨x,?_,LS,R.LL t g v0 aJ a7⟩;simp[adh,aa]
 | cell hY ty=>
  simp only[NH,ha,fr]at ar;obtain⟨g,a8,l,aJ,he⟩:=ar;simp at aJ;subst aJ;simp at he;subst he;simp only[Z5]at h;split at h
  . rename_i g0 b o aJ;split at h
    . rename_i cs kx;simp only[fr,hy]at h;obtain⟨v0,nk,rfl,rfl⟩:=h;obtain⟨x,aa,LS⟩:=R.LM hY g0 _ aJ a7;have:=LS.M8;subst this;obtain⟨_,vs,E,ak,ny,_⟩:=R.hJ.blk _ _ kx;obtain⟨y,b8,h1,ah⟩:=Zz (n:=n) a8 ny (R.u2 _ _ kx).2 (λj _=>by rw[OZ ak,Jq]) nk;rw[Jq]at b8;refine⟨y,?_,h1,ah⟩
      simp[adh,aa,asAddr,b8]
    . cases h
  . cases h
theorem aqz(R:Rel cv nt φ S env J n a w):∀{aj8:List ResultVar} {Jk:List OW} {p:Prop} {vs:List V},NH P aj8=some Jk -> Vu env J Jk=some (p,vs) -> p ->
 ∃xs:List Value,(aj8.mapM (adh a)).run P w= .ok xs w/\ez (km φ w S) vs xs/\V.cx.V.u' n vs=true
 | [],Jk,p,vs,ar,h,a7=>by
  simp[NH]at ar;subst ar;simp[Vu]at h;obtain⟨_,rfl⟩:=h;exact⟨[],by simp,.nil,rfl⟩
 | V9::aj8,Jk,p,vs,ar,h,a7=>by
  have aKX:∃VF amC,Jk=VF::amC/\NH P [V9]=some [VF]/\NH P aj8=some amC:=by
   cases V9 with
   | tmp t=>
    simp only[NH,fr]at ar;obtain⟨l,aJ,rfl⟩:=ar;exact⟨_,l,rfl,rfl,aJ⟩
   | cell hY ty=>
    simp only[NH,ha,fr]at ar;obtain⟨g,a8,l,aJ,rfl⟩:=ar;exact⟨_,l,rfl,by simp[NH,a8],aJ⟩
  obtain⟨VF,amC,rfl,h1,ah⟩:=aKX;simp only[Vu,ha,fr]at h;obtain⟨⟨q,v⟩,ee,⟨Zd,SN⟩,acO,he⟩:=h;simp only[hy]at he;obtain⟨rfl,rfl⟩:=he;obtain⟨x,aa,cJ,ai⟩:=aDp R h1 ee a7.1;obtain⟨xs,Pn,x0,NU⟩:=aqz R ah acO a7.2;refine⟨x::xs,?_,.cons cJ x0,by simp[V.cx.V.u',ai,NU]⟩;simp_all
theorem km.TO{vs:List V}{xs:List Value}(h:ez (km φ w S) vs xs):km φ w S (TO vs) (if h:xs.toArray.size=1 then xs.toArray[0]else .tuple xs.toArray):=by
 cases h with
 | nil=>exact .fz [] [] rfl (by simp)
 | cons h1 ah=>
  cases ah with
  | nil=>simpa[Shv.TO]using h1
  | cons ah bJ=>
   rw[dif_neg (by simp)];refine .fz _ _ (by simp[bJ.length]) ?_;intro i v x cJ aa;have:=(ez.cons h1 (.cons ah bJ)).get cJ
   grind
theorem aGv{vs:List V}(h:V.cx.V.u' n vs=true):(TO vs).cx n=true:=by
 unfold TO;split
 . simp[V.cx.V.u']at h;exact h
 . simpa[V.cx]using h
def aks(Jk:List OW)(Q:V->ep->Nat->Prop):Exit->Env->ep->Nat->Prop
 | .normal,env,J,N=>∃p vs,Vu env J Jk=some (p,vs)/\p/\Q (TO vs) J N
 | .ret,env,J,N=>∃p vs,Vu env J Jk=some (p,vs)/\p/\Q (TO vs) J N
 | _,_,_,_=>False
theorem yq.apl {f:Nat} {fn:Func} {code:Code} {c:sb} {Jk:List OW} (c6:P.funcs[f]?=some fn) (ai:fn.body=some code) (ay:resolve P fn.ntmps code=some c) (ar:NH P fn.results.toList=some Jk)
 {args:List V} (g':args.length<=fn.ntmps) {k:Nat} {Q:V->ep->Nat->Prop} (h:k1 P fn.ntmps k c (JZ 0 args) J k (aks Jk Q)):yq P f args J k Q:=by
 intro φ S w B Lr wk UG ze vs x0;have aJ:=x0.length;refine calls_of_wp c6 ai ?_;have R:Rel ⟨w,S,B,φ,k⟩ fn.ntmps φ S (JZ 0 args) J (lt k) {tmps:=vs.toArray++Array.replicate (fn.ntmps - vs.toArray.size) undef,defers:=[]} w:=by
  refine⟨Lr,λi g v Jy a8=>?_,λi g v Jy a8=>?_,λi g v Jy a8=>?_,λb x aa=>?_,?_,rfl,Ext.refl,λb x aa h0=>.inl (UG b x aa h0),λ_ _=>rfl,λb ai=>by simp[lt];exact ai⟩
  . obtain⟨_,j,rfl,dx⟩:=aip Jy;obtain⟨x,aa,ar⟩:=x0.get dx
    grind
  . have:=(aip Jy).1;rw[this]at a8;cases a8
  . obtain⟨_,j,rfl,dx⟩:=aip Jy;exact Vn ze dx
  . obtain⟨h1,ah⟩:=wk b x aa;exact⟨by simp[lt];exact h1,ah⟩
  grind
 refine wp_mono (h code ay ⟨w,S,B,φ,k⟩ φ S _ w rfl R) ?_
 rintro e pa w' ⟨hn,hK,env',J',N',ee,R'⟩
 have fin : (∃ p vs, Vu env' J' Jk = some (p, vs) /\ p /\ Q (TO vs) J' N') -> pa.defers = [] /\ ∃ v, (results fn pa.tmps).run P w' = .ok v w' /\ (∃ LG r adz acj ahj ahk, Ending.returned v = .returned LG /\ Q r ahj ahk /\ km adz w' acj r LG /\ r.cx (lt ahk) = true /\ Yv adz w' acj ahj /\ (∀ (b : Nat) x, ec ahj b = some x -> b < ahk /\ x.cx (lt ahk) = true) /\ Ext B S acj w w' /\
  (∀(b:Nat) x,ec ahj b=some x->(adz b).2≠0->B (adz b).1\/w.heap.size<=(adz b).1)/\∀b,b < k->adz b=φ b):=by
  rintro ⟨p,rs,h1,ah,bJ⟩
  obtain⟨xs,Pn,LS,K3⟩:=aqz R' ar h1 ah;refine⟨R'.defers,_,?_,_,TO rs,hn,hK,J',N',rfl,bJ,km.TO LS,aGv K3,R'.hJ,λb x aa=>?_,R'.ext,R'.own,R'.fix⟩
  . have hm:(fn.results.mapM (adh pa)).run P w'= .ok xs.toArray w':=by
     rw[Array.mapM_eq_mapM_toList];simp_all
    rw[aFI];simp only[Sem.run_bind,hm,Result.andThen_ok];rfl
  . obtain⟨h1,ah⟩:=R'.u2 b x aa;exact⟨by simpa[lt]using h1,ah⟩
 cases e with
 | normal=>exact fin ee
 | ret=>exact fin ee
 | exit id=>exact ee.elim
 | goto l=>exact ee.elim
 | panic atI=>exact ee.elim
 | outgrown=>exact ee.elim
end
end
end Go.Proofs.YtijpinendaoleaaGreat.Shv
namespace Go.Proofs.YtijpinendaoleaaGreat.Shv
set_option linter.all false
open Go
def C.hp(k:Nat):C->C
 | .ptr b o=>.ptr (k+b) o
 | .mx b sz i o=>.mx (k+b) sz i o
 | .arr b sz off len=>.arr (k+b) sz off len
 | .JK b sz off len=>.JK (k+b) sz off len
 | .mp b=>.mp (k+b)
 | .y2 b=>.y2 (k+b)
 | .l' b len=>.l' (k+b) len
 | .fn f caps=>.fn f (caps.map (k+·))
 | c=>c
def V.hp(k:Nat):V->V
 | .c x=>.c (x.hp k)
 | .agg cs=>.agg (cs.map (C.hp k))
 | .fz vs=>.fz (go k vs)
where go (k:Nat):List V->List V
 | []=>[]
 | v::vs=>v.hp k::go k vs
def hE.hp(k:Nat):hE->hE
 | .box cs=>.box (cs.map (C.hp k))
 | .arr sz es=>.arr sz es
 | .set ks=>.set ks
 | .buf E s=>.buf E s
 | .h4 E c=>.h4 E (c.hp k)
 | .k6 sz es i o c=>.k6 sz es i o (c.hp k)
def Ta(J:ep)(k:Nat):ep->ep
 | []=>J
 | (b,x)::r=>q1 (Ta J k r) (k+b) (x.hp k)
theorem ad5{J:ep}{k:Nat}:∀{h2:ep} {b:Nat},ec (Ta J k h2) b=match (if k<=b then ec h2 (b - k)else none)with | some x=>some (x.hp k) | none=>ec J b
 | [],b=>by simp[Ta,ec]
 | (c,x)::r,b=>by
  simp only[Ta,o',ad5,ec]
  grind
section
variable {P:Program} {cv:Ctx} {nt kk:Nat} {φ:q4} {S hK:r3} {env:Env} {J:ep} {N key:Nat} {n:Nat->Bool} {a:Act} {w w':World}
theorem MV.apm{f:Nat}{args:List V}{r:V}(h:yq P f args [] 0 (λI' _ _=>I'=r))(ai:V.cx.V.u' (lt 0) args=true)(ar:r.cx (lt 0)=true){K:V->ep->Prop}(ns:K r J):MV P f args J key K:=by
 intro cv nt φ S env n a w R g' LO vs x0;refine(h φ S w (λ_=>False) ⟨λb x aa=>by simp[ec]at aa,λb hj x y aa=>by simp[ec]at aa,R.hJ.st⟩ (λb x aa=>by simp[ec]at aa) (λb x aa=>by simp[ec]at aa) ai vs x0).mono ?_
 rintro e w' ⟨v,I',hn,hK,J',N',rfl,rfl,h1,ah,bJ,ea,hi,q0,Tt⟩
 refine⟨v,I',φ,hK,J,rfl,ns,?_,V.MD (λb h=>by simp[lt]at h) ar,(R.extend hi bJ.st).more λ_ h=>SX h⟩;exact km.mono (Lm.refl _ _) (n:=lt 0) (λb h=>by simp[lt]at h) ar h1
theorem gb.hp{hn:q4}{k:Nat}{n:Nat->Bool}(k9:∀b,n b=true->hn (k+b)=φ b){c:C}{v:Value}(ai:c.cx n=true)(h:gb φ w S c v):gb hn w S (c.hp k) v:=by
 cases c with
 | ptr b o=>simp only[C.cx]at ai;simp only[C.hp,gb,k9 b ai];exact h
 | mx b sz i o=>simp only[C.cx]at ai;simp only[C.hp,gb,k9 b ai];exact h
 | arr b sz off len=>simp only[C.cx]at ai;simp only[C.hp,gb,k9 b ai];exact h
 | JK b sz off len=>simp only[C.cx]at ai;simp only[C.hp,gb,k9 b ai];exact h
 | mp b=>simp only[C.cx]at ai;simp only[C.hp,gb,k9 b ai];exact h
 | y2 b=>simp only[C.cx]at ai;simp only[C.hp,gb,k9 b ai];exact h
 | l' b len=>simp only[C.cx]at ai;simp only[C.hp,gb,k9 b ai];exact h
 | fn f caps=>
  simp only[C.cx,qx]at ai;simp only[C.hp,gb]at h ⊢;simp_all
 | _=>exact h
theorem asI{k:Nat}:∀{vs:List V} {i:Nat},(V.hp.go k vs)[i]?=(vs[i]?).map (V.hp k)
 | [],i=>by simp[V.hp.go]
 | v::vs,0=>by simp[V.hp.go]
 | v::vs,i+1=>by simp[V.hp.go,asI]
theorem aqA{k:Nat}:∀{vs:List V},(V.hp.go k vs).length=vs.length
 | []=>rfl
 | v::vs=>by simp[V.hp.go,aqA]
theorem km.hp{hn:q4}{k:Nat}{n:Nat->Bool}(k9:∀b,n b=true->hn (k+b)=φ b){v:V}{x:Value}(ai:v.cx n=true)(h:km φ w S v x):km hn w S (v.hp k) x:=by
 induction h with
 | c h=>exact .c (gb.hp k9 (by simpa[V.cx]using ai) h)
 | @agg cs vs h=>
  simp only[V.cx,qx]at ai;refine .agg ?_;have:=h.imp (R':=λc v=>gb hn w S (C.hp k c) v) λc v ay ar=>gb.hp k9 (ai c ay) ar
  exact this.XD λ_ _ h=>h
 | fz vs xs aJ h ih=>
  refine .fz _ xs (by rw[aqA];exact aJ) ?_;intro i v x cJ aa;rw[asI,fr]at cJ;obtain⟨v0,nk,rfl⟩:=cJ;exact ih i v0 x nk aa (Vn (by simpa[V.cx]using ai) nk)
theorem C.Zh{m:Nat}(hm:m<=16){c:C}(h:c.cx (lt m)=true):(c.hp key).cx (B' n key)=true:=by
 cases c <;> simp only[C.hp,C.cx,lt,B',I2,OT,kc,qx,LV]at h ⊢
 . right;omega
 . right;omega
 . right;omega
 . right;omega
 . right;omega
 . right;omega
 . right;omega
 grind
theorem V.Zh{m:Nat}(hm:m<=16):∀{v:V},v.cx (lt m)=true->(v.hp key).cx (B' n key)=true
 | .c x,h=>by simp only[V.hp,V.cx]at h ⊢;exact C.Zh hm h
 | .agg cs,h=>by simp only[V.hp,V.cx,UO,qx]at h ⊢;intro c ay;exact C.Zh hm (h c ay)
 | .fz vs,h=>by simp only[V.hp,V.cx]at h ⊢;exact go vs h
where go:∀vs,V.cx.V.u' (lt m) vs=true->V.cx.V.u' (B' n key) (V.hp.go key vs)=true
 | [],_=>rfl
 | v::vs,h=>by simp only[V.hp.go,V.cx.V.u',kc]at h ⊢;exact⟨V.Zh hm h.1,go vs h.2⟩
theorem MV.aLG {f:Nat} {args:List V} {Q:V -> ep -> Nat -> Prop} (h:yq P f args [] 0 Q) (ai:V.cx.V.u' (lt 0) args=true) {K:V -> ep -> Prop}
 (ns:∀r J' N',Q r J' N'->N'<=16/\K (r.hp key) (Ta J key J')):MV P f args J key K:=by
 intro cv nt φ S env n a w R g' LO vs x0;refine(h φ S w (λ_=>False) ⟨λb x aa=>by simp[ec]at aa,λb hj x y aa=>by simp[ec]at aa,R.hJ.st⟩ (λb x aa=>by simp[ec]at aa) (λb x aa=>by simp[ec]at aa) ai vs x0).mono ?_
 rintro e w' ⟨v,I',hn,hK,J',N',rfl,v',h1,ah,bJ,ea,hi,q0,Tt⟩
 obtain⟨q6,ns⟩:=ns _ _ _ v';have jJ:=R.extend hi bJ.st
 let MU:q4:=λb=>if key<=b/\b < key+16 then hn (b - key)else φ b
 have agf:∀b,n b=true->MU b=φ b:=by grind
 have PN:∀b,lt N' b=true->MU (key+b)=hn b:=by
  intro b ai;simp only[lt,I2]at ai
  grind
 have u4:=jJ.agI agf;have sK:∀b x,ec (Ta J key J') b=some x->(∃c b7,b=key+c/\ec J' c=some b7/\x=b7.hp key)\/ec J b=some x:=by
  intro b x aa;rw[ad5]at aa
  grind
 have Xu:∀c b7,ec J' c=some b7->(MU (key+c)).2≠0->w.heap.size<=(MU (key+c)).1:=by grind
 have hold:∀b x,ec J b=some x->(MU b).2≠0->(MU b).1 < w.heap.size:=by
  intro b x aa h0;rw[agf b (R.u2 b x aa).1]at h0 ⊢;exact(R.hJ.blk b x aa).Qo h0
 refine⟨v,I'.hp key,MU,hK,Ta J key J',rfl,ns,km.hp PN ah h1,V.Zh q6 ah,⟨⟨λb x aa=>?_,λb hj x y aa b8 hv h0 yJ=>?_,bJ.st⟩,u4.LM,u4.MY,λk g v aJ a8=>V.MD (λ_ h=>SX h) (u4.LL k g v aJ a8),λb x aa=>?_,u4.size,u4.defers,u4.ext,λb x aa h0=>?_,u4.fix,λb ai=>SX (u4.J7 b ai)⟩⟩
 . rcases sK b x aa with⟨c,b7,rfl,ay,rfl⟩ | aa
   . have u0:=bJ.blk c b7 ay;have K4:=ea c b7 ay;have e':=PN c (by simp[lt];exact K4.1);cases b7 with
     | box cs=>
      obtain⟨MK,vs,E,hg,hl,j2⟩:=u0;simp only[hE.hp,pr,e'];refine⟨MK,vs,E,hg,?_,j2⟩;have r':=K4.2;simp only[hE.cx,qx]at r';have:=hl.imp (R':=λc v=>gb MU w' hK (C.hp key c) v) λc v ay ar=>gb.hp PN (r' c ay) ar
      exact this.XD λ_ _ h=>h
     | arr sz es=>simp only[hE.hp,pr,e'];exact u0
     | set ks=>simp only[hE.hp,pr,e'];exact u0
     | buf E s=>simp only[hE.hp,pr,e'];exact u0
     | h4 E c=>
      obtain⟨MK,⟨p,v,hg,hl,j2⟩,px⟩:=u0;simp only[hE.hp,pr,e'];exact⟨MK,⟨p,v,hg,hl,gb.hp PN (by simpa[hE.cx]using K4.2) j2⟩,px⟩
     | k6 sz es i o c=>
      obtain⟨h1,⟨vs,E,hg,hl,j2,v,px,mJ⟩,nJ⟩:=u0;simp only[hE.hp,pr,e'];exact⟨h1,⟨vs,E,hg,hl,j2,v,px,gb.hp PN (by simpa[hE.cx]using K4.2) mJ⟩,nJ⟩
   . exact u4.hJ.blk b x aa
 . rcases sK b x aa with⟨c,b7,rfl,ay,rfl⟩ | aa <;> rcases sK hj y b8 with⟨vJ,Py,rfl,Om,rfl⟩ | b8
   . have e':=PN c (by simp[lt];exact(ea c b7 ay).1);have hf:=PN vJ (by simp[lt];exact(ea vJ Py Om).1);rw[e']at h0 ⊢;rw[hf]at yJ ⊢;exact bJ.inj c vJ b7 Py ay Om (by omega) h0 yJ
   . have:=Xu c b7 ay h0;have:=hold hj y b8 yJ;omega
   . have:=Xu vJ Py Om yJ;have:=hold b x aa h0;omega
   . exact u4.hJ.inj b hj x y aa b8 hv h0 yJ
 . rcases sK b x aa with⟨c,b7,rfl,ay,rfl⟩ | aa
   . obtain⟨hg,hl⟩:=ea c b7 ay;refine⟨by simp[B'];right;omega,?_⟩;cases b7 with
     | box cs=>
      simp only[hE.hp,hE.cx,UO,qx]at hl ⊢;intro c ay;exact C.Zh q6 (hl c ay)
     | arr sz es=>rfl
     | set ks=>rfl
     | buf E s=>rfl
     | h4 E c=>simp only[hE.hp,hE.cx]at hl ⊢;exact C.Zh q6 hl
     | k6 sz es i o c=>simp only[hE.hp,hE.cx]at hl ⊢;exact C.Zh q6 hl
   . obtain⟨hg,hl⟩:=u4.u2 b x aa;exact⟨SX hg,hE.MD (λ_ h=>SX h) hl⟩
 . rcases sK b x aa with⟨c,b7,rfl,ay,rfl⟩ | aa
   . exact .inr (SH R.ext.size (Xu c b7 ay h0))
   . exact u4.own b x aa h0
end
end Go.Proofs.YtijpinendaoleaaGreat.Shv
namespace Go.Proofs.YtijpinendaoleaaGreat.Shv
theorem yq.mk {P:Program} {f:Nat} {fn:Func} {c:sb} {Jk:List OW} {J:ep} (c6:P.funcs[f]?=some fn) (ay:fn.body.bind (resolve P fn.ntmps)=some c) (ar:NH P fn.results.toList=some Jk)
 {args:List V} {nt:Nat} (aaE:fn.ntmps=nt) (g':args.length<=nt) {k:Nat} {Q:V->ep->Nat->Prop} (h:k1 P nt k c (JZ 0 args) J k (aks Jk Q)):yq P f args J k Q:=by
 subst aaE;obtain⟨code,h1,ah⟩:=aaX.1 ay;exact yq.apl c6 h1 ah ar g' h
end Go.Proofs.YtijpinendaoleaaGreat.Shv
namespace Go.Proofs.YtijpinendaoleaaGreat.Shv
set_option linter.all false
section
open Go
def C.h6(f:Nat->Nat):C->C
 | .ptr b o=>.ptr (f b) o
 | .mx b sz i o=>.mx (f b) sz i o
 | .arr b sz off len=>.arr (f b) sz off len
 | .JK b sz off len=>.JK (f b) sz off len
 | .mp b=>.mp (f b)
 | .y2 b=>.y2 (f b)
 | .l' b len=>.l' (f b) len
 | .fn g caps=>.fn g (caps.map f)
 | c=>c
def V.h6(f:Nat->Nat):V->V
 | .c x=>.c (x.h6 f)
 | .agg cs=>.agg (cs.map (C.h6 f))
 | .fz vs=>.fz (go f vs)
where go (f:Nat->Nat):List V->List V
 | []=>[]
 | v::vs=>v.h6 f::go f vs
def hE.h6(f:Nat->Nat):hE->hE
 | .box cs=>.box (cs.map (C.h6 f))
 | .arr sz es=>.arr sz es
 | .set ks=>.set ks
 | .buf E s=>.buf E s
 | .h4 E c=>.h4 E (c.h6 f)
 | .k6 sz es i o c=>.k6 sz es i o (c.h6 f)
def VN(J:ep):List Nat->ep
 | []=>J
 | b::r=>NA (VN J r) b
theorem Wy{J:ep}:∀{bs:List Nat} {b:Nat},ec (VN J bs) b=if b∈bs then none else ec J b
 | [],b=>by simp[VN]
 | c::r,b=>by
  simp only[VN,J8,Wy (bs:=r)]
  grind
def back(bs:List Nat)(key:Nat)(b:Nat):Nat:=(bs[b]?).getD (key+(b - bs.length))
def MQ(J:ep)(bs:List Nat)(f:Nat->Nat):ep->ep
 | []=>VN J bs
 | (b,x)::r=>q1 (MQ J bs f r) (f b) (x.h6 f)
theorem asJ{J:ep}{bs:List Nat}{f:Nat->Nat}:∀{h2:ep} {c:Nat} {x:hE},ec (MQ J bs f h2) c=some x->(∃b b7,c=f b/\ec h2 b=some b7/\x=b7.h6 f)\/(c ∉ bs/\ec J c=some x)
 | [],c,x,h=>by
  simp only[MQ,Wy]at h
  grind
 | (b,y)::r,c,x,h=>by
  simp only[MQ,o']at h;split at h
  . rename_i ai;cases h;exact .inl ⟨b,y,ai.symm,by simp[ec],rfl⟩
  . rename_i ai;rcases asJ h with⟨hj,b7,h1,ah,bJ⟩ | h
    . refine .inl ⟨hj,b7,h1,?_,bJ⟩;simp only[ec]
      grind
    grind
section
variable {P:Program} {cv:Ctx} {nt kk:Nat} {φ:q4} {S hK:r3} {env:Env} {J:ep} {N key:Nat} {n:Nat->Bool} {a:Act} {w w':World} {f:Nat->Nat}
theorem gb.h6{hn:q4}{n:Nat->Bool}(k9:∀b,n b=true->hn (f b)=φ b){c:C}{v:Value}(ai:c.cx n=true)(h:gb φ w S c v):gb hn w S (c.h6 f) v:=by
 cases c with
 | ptr b o=>simp only[C.cx]at ai;simp only[C.h6,gb,k9 b ai];exact h
 | mx b sz i o=>simp only[C.cx]at ai;simp only[C.h6,gb,k9 b ai];exact h
 | arr b sz off len=>simp only[C.cx]at ai;simp only[C.h6,gb,k9 b ai];exact h
 | JK b sz off len=>simp only[C.cx]at ai;simp only[C.h6,gb,k9 b ai];exact h
 | mp b=>simp only[C.cx]at ai;simp only[C.h6,gb,k9 b ai];exact h
 | y2 b=>simp only[C.cx]at ai;simp only[C.h6,gb,k9 b ai];exact h
 | l' b len=>simp only[C.cx]at ai;simp only[C.h6,gb,k9 b ai];exact h
 | fn g caps=>
  simp only[C.cx,qx]at ai;simp only[C.h6,gb]at h ⊢;simp_all
 | _=>exact h
theorem amj :∀{vs:List V} {i:Nat},(V.h6.go f vs)[i]?=(vs[i]?).map (V.h6 f)
 | [],i=>by simp[V.h6.go]
 | v::vs,0=>by simp[V.h6.go]
 | v::vs,i+1=>by simp[V.h6.go,amj]
theorem alC :∀{vs:List V},(V.h6.go f vs).length=vs.length
 | []=>rfl
 | v::vs=>by simp[V.h6.go,alC]
theorem km.h6{hn:q4}{n:Nat->Bool}(k9:∀b,n b=true->hn (f b)=φ b){v:V}{x:Value}(ai:v.cx n=true)(h:km φ w S v x):km hn w S (v.h6 f) x:=by
 induction h with
 | c h=>exact .c (gb.h6 k9 (by simpa[V.cx]using ai) h)
 | @agg cs vs h=>
  simp only[V.cx,qx]at ai;refine .agg ?_;have:=h.imp (R':=λc v=>gb hn w S (C.h6 f c) v) λc v ay ar=>gb.h6 k9 (ai c ay) ar
  exact this.XD λ_ _ h=>h
 | fz vs xs aJ h ih=>
  refine .fz _ xs (by rw[alC];exact aJ) ?_;intro i v x cJ aa;rw[amj,fr]at cJ;obtain⟨v0,nk,rfl⟩:=cJ;exact ih i v0 x nk aa (Vn (by simpa[V.cx]using ai) nk)
theorem C.Y5{n m:Nat->Bool}(c6:∀b,m b=true->n (f b)=true){c:C}(h:c.cx m=true):(c.h6 f).cx n=true:=by
 cases c <;> simp only[C.h6,C.cx,qx,LV]at h ⊢
 . exact c6 _ h
 . exact c6 _ h
 . exact c6 _ h
 . exact c6 _ h
 . exact c6 _ h
 . exact c6 _ h
 . exact c6 _ h
 grind
theorem V.Y5{n m:Nat->Bool}(c6:∀b,m b=true->n (f b)=true):∀{v:V},v.cx m=true->(v.h6 f).cx n=true
 | .c x,h=>by simp only[V.h6,V.cx]at h ⊢;exact C.Y5 c6 h
 | .agg cs,h=>by simp only[V.h6,V.cx,UO,qx]at h ⊢;intro c ay;exact C.Y5 c6 (h c ay)
 | .fz vs,h=>by simp only[V.h6,V.cx]at h ⊢;exact go vs h
where go:∀vs,V.cx.V.u' m vs=true->V.cx.V.u' n (V.h6.go f vs)=true
 | [],_=>rfl
 | v::vs,h=>by simp only[V.h6.go,V.cx.V.u',kc]at h ⊢;exact⟨V.Y5 c6 h.1,go vs h.2⟩
theorem Rel.aA8{B:Nat->Prop}(R:Rel cv nt φ S env J n a w)(e:Ext B S hK w w')(n2:∀b j,hK b j->b < w'.heap.size)(aol:∀b x,ec J b=some x->(φ b).2≠0->¬B (φ b).1)(u0:∀b,B b->cv.B b\/cv.abc.heap.size<=b):Rel cv nt φ hK env J n a w':=by
 have ak:∀b x,ec J b=some x->(φ b).2≠0->w'.heap[(φ b).1]?=w.heap[(φ b).1]?:=λb x aa h0=>e.block _ ((R.hJ.blk b x aa).Qo h0) (aol b x aa h0)
 have DI:∀b x,ec J b=some x->(φ b).2≠0->∀j,¬hK (φ b).1 j:=by
  intro b x aa h0 j dx;have ai:=R.hJ.blk b x aa;rcases e.Zi _ _ dx with h | h | h
  . exact ai.XF h0 j h
  . grind
  grind
 refine⟨⟨λb x aa=>?_,R.hJ.inj,n2⟩,λk g v aJ a8=>?_,R.MY,R.LL,R.u2,R.size,R.defers,?_,R.own,R.fix,R.J7⟩
 . have ai:=R.hJ.blk b x aa;cases x with
   | box cs=>
    obtain⟨h0,vs,E,h1,ah,bJ⟩:=ai;refine⟨h0,vs,E,(ak _ _ aa h0).trans h1,ah.imp λc v ay ar=>gb.mono (n:=λ_=>true) e.mono (λ_ _=>rfl) (C.Um _) ar,DI b _ aa h0⟩
   | arr sz es=>
    obtain⟨h1,ah,bJ,ea,hi⟩:=ai;refine⟨h1,ah,bJ,ea,λh0=>?_⟩;obtain⟨vs,E,hg,hl,j2,px⟩:=hi h0;exact⟨vs,E,(ak _ _ aa h0).trans hg,hl,λi j qa t he ht=>let⟨v,cJ,ar⟩:=j2 i j qa t he ht;⟨v,cJ,ik.mono e.mono ar⟩,DI b _ aa h0⟩
   | set ks=>
    obtain⟨h0,⟨es,c,h1,ah⟩,bJ⟩:=ai;exact⟨h0,⟨es,c,(ak _ _ aa h0).trans h1,ah⟩,DI b _ aa h0⟩
   | buf E s=>
    obtain⟨h1,ah,bJ⟩:=ai;refine⟨h1,ah,λh0=>?_⟩
    grind
   | h4 E c=>
    obtain⟨h0,⟨p,v,h1,ah,bJ⟩,ea⟩:=ai;exact⟨h0,⟨p,v,(ak _ _ aa h0).trans h1,ah,gb.mono (n:=λ_=>true) e.mono (λ_ _=>rfl) (C.Um _) bJ⟩,DI b _ aa h0⟩
   | k6 sz es i o c=>
    obtain⟨⟨h1,ah,bJ,ea,hi,q0⟩,⟨vs,E,hg,hl,j2,v,px,mJ⟩,nJ⟩:=ai;exact⟨⟨h1,ah,bJ,ea,hi,q0⟩,⟨vs,E,(ak _ _ aa (by omega)).trans hg,hl,λi j qa t he ht g'=>let⟨v,cJ,ar⟩:=j2 i j qa t he ht g';⟨v,cJ,ik.mono e.mono ar⟩,v,px,gb.mono (n:=λ_=>true) e.mono (λ_ _=>rfl) (C.Um _) mJ⟩,DI b _ aa (by omega)⟩
 . obtain⟨x,aa,ar⟩:=R.LM k g v aJ a8;exact⟨x,aa,km.mono e.mono (λ_ _=>rfl) (R.LL k g v aJ a8) ar⟩
 . refine⟨e.os.trans R.ext.os,e.tape.trans R.ext.tape,e.output.trans R.ext.output,SH R.ext.size e.size,λb ey ai=>?_,R.ext.mono.trans e.mono,λb j dx=>?_⟩
   . refine(e.block b (TF ey R.ext.size) λh=>?_).trans (R.ext.block b ey ai)
     grind
   . rcases e.Zi _ _ dx with h | h | h
     . exact R.ext.Zi b j h
     . grind
     . exact .inr (.inr (SH R.ext.size h))
theorem MV.raw {fn:Nat} {args:List V} {bs:List Nat} {Q:V -> ep -> Nat -> Prop} (hM:bs.Nodup) (ey:∀b,b∈bs -> b < key) (h:yq P fn (args.map (V.hD bs)) (m5 bs J 0 bs) bs.length Q) {K:V -> ep -> Prop}
 (ns:∀r J' N',Q r J' N'->N'<=bs.length+16/\K (r.h6 (back bs key)) (MQ J bs (back bs key) J')):(∀b,b∈bs->n b=true)->∀cv nt φ S env a w,Rel cv nt φ S env J n a w->(∀b,key<=b->b < key+16->n b=false)->V.cx.V.u' n args=true->∀vs:List Value,ez (km φ w S) args vs->
 Calls P fn vs.toArray w λe w'=>∃v r hn hK J',e= .returned v/\K r J'/\km hn w' hK r v/\r.cx (B' n key)=true/\Rel cv nt hn hK env J' (B' n key) a w':=by
 intro Oo cv nt φ S env a w R g' LO vs x0
 let XW:q4:=λi=>φ ((bs[i]?).getD 0)
 have age:∀(i:Nat) b,bs[i]?=some b->XW i=φ b:=by intro i b h;simp[XW,h]
 let B:Nat->Prop:=λβ=>∃b x,b∈bs/\ec J b=some x/\(φ b).2≠0/\β=(φ b).1
 have Pj:∀b x,ec (m5 bs J 0 bs) b=some x->∃c b7,bs[b]?=some c/\ec J c=some b7/\x=b7.hD bs:=by
  intro b x aa;obtain⟨j,c,b7,rfl,ah,bJ,rfl⟩:=Wx aa
  grind
 have Lr:Yv XW w S (m5 bs J 0 bs):=by
  refine⟨λb x aa=>?_,λb hj x y aa b8 hv h0 yJ=>?_,R.hJ.st⟩
  . obtain⟨c,b7,ah,bJ,rfl⟩:=Pj b x aa;exact pr.hD age ah (R.hJ.blk c b7 bJ)
  . obtain⟨c,b7,ah,bJ,rfl⟩:=Pj b x aa;obtain⟨vJ,Py,Tq,aaw,rfl⟩:=Pj hj y b8;rw[age b c ah]at h0 ⊢;rw[age hj vJ Tq]at yJ ⊢;refine R.hJ.inj c vJ b7 Py bJ aaw ?_ h0 yJ;intro e;subst e;obtain⟨a1,b1⟩:=pJ.1 ah;obtain⟨a2,b2⟩:=pJ.1 Tq;have a7:=ac9.1 hM
    grind
 have M1:ez (km XW w S) (args.map (V.hD bs)) vs:=x0.XD λ_ _=>km.hD age
 have K3:V.cx.V.u' (lt bs.length) (args.map (V.hD bs))=true:=by
  refine ZX λi v cJ=>?_
  rw[V4,fr]at cJ;obtain⟨v0,_,rfl⟩:=cJ;exact V.PT v0
 refine(h XW S w B Lr (λb x aa=>?_) (λb x aa h0=>?_) K3 vs M1).mono ?_
 . obtain⟨c,b7,ah,bJ,rfl⟩:=Pj b x aa;refine⟨(pJ.1 ah).1,?_⟩;cases b7 with
   | box cs=>simp only[hE.hD,hE.cx,UO,qx];intro c _;exact C.PT c
   | arr sz es=>rfl
   | set ks=>rfl
   | buf E s=>rfl
   | h4 E c=>exact C.PT c
   | k6 sz es i o c=>exact C.PT c
 . obtain⟨c,b7,ah,bJ,rfl⟩:=Pj b x aa;rw[age b c ah]at h0 ⊢;exact⟨c,b7,DJ ah,bJ,h0,rfl⟩
 rintro e w' ⟨v,I',hn,hK,J',N',rfl,v',h1,ah,bJ,ea,hi,q0,Tt⟩
 obtain⟨q6,ns⟩:=ns _ _ _ v'
 have awT:∀b,B b->cv.B b\/cv.abc.heap.size<=b:=by
  rintro β ⟨b,x,_,aa,h0,rfl⟩
  exact R.own b x aa h0
 have ad2:Rel cv nt φ S env (VN J bs) n a w:=by
  have JQ:∀b x,ec (VN J bs) b=some x->b ∉ bs/\ec J b=some x:=by
   intro b x aa;rw[Wy]at aa
   grind
  exact⟨⟨λb x aa=>R.hJ.blk b x (JQ b x aa).2,λb hj x y aa b8=>R.hJ.inj b hj x y (JQ b x aa).2 (JQ hj y b8).2,R.hJ.st⟩,R.LM,R.MY,R.LL,λb x aa=>R.u2 b x (JQ b x aa).2,R.size,R.defers,R.ext,λb x aa=>R.own b x (JQ b x aa).2,R.fix,R.J7⟩
 have aol:∀b x,b ∉ bs->ec J b=some x->(φ b).2≠0->¬B (φ b).1:=by
  rintro b x Oo aa h0 ⟨c,y,ay,b8,yJ,he⟩
  exact R.hJ.inj b c x y aa b8 (λe=>Oo (e▸ay)) h0 yJ he
 have jJ:=ad2.aA8 hi bJ.st (λb x aa h0=>by
  rw[Wy]at aa
  grind) awT
 let MU:q4:=λb=>if key<=b/\b < key+16 then hn (bs.length+(b - key))else φ b
 have agf:∀b,n b=true->MU b=φ b:=by grind
 have PN:∀b,lt N' b=true->MU (back bs key b)=hn b:=by
  intro b ai;simp only[lt,I2]at ai;unfold back
  grind
 have afP:∀b,lt N' b=true->B' n key (back bs key b)=true:=by
  intro b ai;simp only[lt,I2]at ai;unfold back;cases a8:bs[b]? with
  | some c=>simp only[SG];exact SX (Oo c (DJ a8))
  | none=>
   have TA:=aaV.1 a8;simp only[Option.getD_none,B',OT,kc,I2];right;omega
 have u4:=jJ.agI agf;have sK:∀b x,ec (MQ J bs (back bs key) J') b=some x->(∃c b7,b=back bs key c/\ec J' c=some b7/\x=b7.h6 (back bs key))\/(b ∉ bs/\ec J b=some x):=λb x aa=>asJ aa
 have afK:∀b x,b ∉ bs->ec J b=some x->ec (VN J bs) b=some x:=by intro b x Oo aa;rw[Wy,b' Oo];exact aa
 have Xu:∀c b7,ec J' c=some b7->(MU (back bs key c)).2≠0->B (MU (back bs key c)).1\/w.heap.size<=(MU (back bs key c)).1:=by
  intro c b7 ay h0;rw[PN c (by simp[lt];exact(ea c b7 ay).1)]at h0 ⊢
  grind
 have hold:∀b x,b ∉ bs->ec J b=some x->(MU b).2≠0->(MU b).1 < w.heap.size/\¬B (MU b).1:=by
  intro b x Oo aa h0;rw[agf b (R.u2 b x aa).1]at h0 ⊢;exact⟨(R.hJ.blk b x aa).Qo h0,aol b x Oo aa h0⟩
 refine⟨v,I'.h6 (back bs key),MU,hK,MQ J bs (back bs key) J',rfl,ns,km.h6 PN ah h1,V.Y5 afP ah,⟨⟨λb x aa=>?_,λb hj x y aa b8 hv h0 yJ=>?_,bJ.st⟩,u4.LM,u4.MY,λk g v aJ a8=>V.MD (λ_ h=>SX h) (u4.LL k g v aJ a8),λb x aa=>?_,u4.size,u4.defers,u4.ext,λb x aa h0=>?_,u4.fix,λb ai=>SX (u4.J7 b ai)⟩⟩
 . rcases sK b x aa with⟨c,b7,rfl,ay,rfl⟩ | ⟨Oo,aa⟩
   . have u0:=bJ.blk c b7 ay;have K4:=ea c b7 ay;have e':=PN c (by simp[lt];exact K4.1);cases b7 with
     | box cs=>
      obtain⟨MK,vs,E,hg,hl,j2⟩:=u0;simp only[hE.h6,pr,e'];refine⟨MK,vs,E,hg,?_,j2⟩;have r':=K4.2;simp only[hE.cx,qx]at r';have:=hl.imp (R':=λc v=>gb MU w' hK (C.h6 (back bs key) c) v) λc v ay ar=>gb.h6 PN (r' c ay) ar
      exact this.XD λ_ _ h=>h
     | arr sz es=>simp only[hE.h6,pr,e'];exact u0
     | set ks=>simp only[hE.h6,pr,e'];exact u0
     | buf E s=>simp only[hE.h6,pr,e'];exact u0
     | h4 E c=>
      obtain⟨MK,⟨p,v,hg,hl,j2⟩,px⟩:=u0;simp only[hE.h6,pr,e'];exact⟨MK,⟨p,v,hg,hl,gb.h6 PN (by simpa[hE.cx]using K4.2) j2⟩,px⟩
     | k6 sz es i o c=>
      obtain⟨h1,⟨vs,E,hg,hl,j2,v,px,mJ⟩,nJ⟩:=u0;simp only[hE.h6,pr,e'];exact⟨h1,⟨vs,E,hg,hl,j2,v,px,gb.h6 PN (by simpa[hE.cx]using K4.2) mJ⟩,nJ⟩
   . exact u4.hJ.blk b x (afK b x Oo aa)
 . rcases sK b x aa with⟨c,b7,rfl,ay,rfl⟩ | ⟨Oo,aa⟩ <;> rcases sK hj y b8 with⟨vJ,Py,rfl,Om,rfl⟩ | ⟨axt,b8⟩
   . have e':=PN c (by simp[lt];exact(ea c b7 ay).1);have hf:=PN vJ (by simp[lt];exact(ea vJ Py Om).1);rw[e']at h0 ⊢;rw[hf]at yJ ⊢;exact bJ.inj c vJ b7 Py ay Om (by rintro rfl;exact hv rfl) h0 yJ
   . obtain⟨hg,hl⟩:=hold hj y axt b8 yJ;rcases Xu c b7 ay h0 with h | h
     . intro e;rw[e]at h;exact hl h
     . omega
   . obtain⟨hg,hl⟩:=hold b x Oo aa h0;rcases Xu vJ Py Om yJ with h | h
     . intro e;rw[<-e]at h;exact hl h
     . omega
   . exact u4.hJ.inj b hj x y (afK b x Oo aa) (afK hj y axt b8) hv h0 yJ
 . rcases sK b x aa with⟨c,b7,rfl,ay,rfl⟩ | ⟨Oo,aa⟩
   . obtain⟨hg,hl⟩:=ea c b7 ay;refine⟨afP c (by simp[lt];exact hg),?_⟩;cases b7 with
     | box cs=>
      simp only[hE.h6,hE.cx,UO,qx]at hl ⊢;intro c ay;exact C.Y5 afP (hl c ay)
     | arr sz es=>rfl
     | set ks=>rfl
     | buf E s=>rfl
     | h4 E c=>simp only[hE.h6,hE.cx]at hl ⊢;exact C.Y5 afP hl
     | k6 sz es i o c=>simp only[hE.h6,hE.cx]at hl ⊢;exact C.Y5 afP hl
   . obtain⟨hg,hl⟩:=u4.u2 b x (afK b x Oo aa);exact⟨SX hg,hE.MD (λ_ h=>SX h) hl⟩
 . rcases sK b x aa with⟨c,b7,rfl,ay,rfl⟩ | ⟨Oo,aa⟩
   . rcases Xu c b7 ay h0 with h | h
     . exact awT _ h
     . exact .inr (SH R.ext.size h)
   . exact u4.own b x (afK b x Oo aa) h0
theorem MV.aLH {fn:Nat} {args:List V} {bs:List Nat} {Q:V -> ep -> Nat -> Prop} (hM:bs.Nodup) (ey:∀b,b∈bs -> b < key) (tw:∀b,b∈bs -> ∃x,ec J b=some x) (h:yq P fn (args.map (V.hD bs)) (m5 bs J 0 bs) bs.length Q) {K:V -> ep -> Prop}
 (ns:∀r J' N',Q r J' N'->N'<=bs.length+16/\K (r.h6 (back bs key)) (MQ J bs (back bs key) J')):MV P fn args J key K:=by
 intro cv nt φ S env n a w R g' ai vs x0;exact MV.raw (n:=n) hM ey h ns (λb ai=>let⟨x,aa⟩:=tw b ai;(R.u2 b x aa).1) cv nt φ S env a w R g' ai vs x0
theorem aqB{bs:List Nat}:∀{l:List Nat} {i:Nat} {J J':ep},(∀b,b∈l->ec J' b=ec J b)->m5 bs J' i l=m5 bs J i l
 | [],i,J,J',h=>rfl
 | b::r,i,J,J',h=>by
  simp only[m5];rw[h b (by simp),aqB λc ay=>h c (by simp[ay])]
theorem aqC{bs:List Nat}{f:Nat->Nat}:∀{h2:ep} {J J':ep} {c:Nat},(ec (VN J' bs) c=ec (VN J bs) c)->ec (MQ J' bs f h2) c=ec (MQ J bs f h2) c
 | [],J,J',c,h=>h
 | (b,x)::r,J,J',c,h=>by
  simp only[MQ,o'];split
  . rfl
  . exact aqC h
theorem alr{bs:List Nat}{key:Nat}:∀{h2:ep} {J:ep} {c:Nat},h2.all (λx=>decide (x.1 < bs.length+16))=true->c ∉ bs->¬(key<=c/\c < key+16)->ec (MQ J bs (back bs key) h2) c=ec J c
 | [],J,c,hk,ay,ar=>by simp only[MQ,Wy,b' ay]
 | (b,x)::r,J,c,hk,ay,ar=>by
  simp only[V6,kc,I2]at hk;simp only[MQ,o'];rw[b' ?_]
  . exact alr hk.2 ay ar
  . intro e;unfold back at e
    grind
end
variable {xb:List Nat}
section
variable {P:Program} {cv:Ctx} {nt kk:Nat} {φ:q4} {S:r3} {env env':Env} {J J' J1:ep} {N key:Nat} {n:Nat->Bool} {a:Act} {w:World}
theorem rJ{x:dJ}(h:∀t,t∈x.tmps->look env' t=look env t):x.get env'=x.get env:=by
 cases x with
 | const v=>rfl
 | tmp t=>simp only[dJ.get];rw[h t (by simp[dJ.tmps])]
theorem ad6{xs:List dJ}(h:∀t,t∈xs.flatMap dJ.tmps->look env' t=look env t):MF env' xs=MF env xs:=by
 induction xs with
 | nil=>rfl
 | cons x xs ih=>
  simp only[MF];rw[rJ (λt ht=>h t (by simp[ht])),ih (λt ht=>h t (by simp only[V5,Nx];exact .inr ht))]
theorem abl{x:Option dJ}(h:∀t,t∈aaU x->look env' t=look env t):PG env' x=PG env x:=by
 cases x with
 | none=>rfl
 | some x=>simp only[PG];rw[rJ h]
theorem aqD :∀{ps:List (Nat×Nat×dJ)} {cs:List C},(∀t,t∈(ps.flatMap λp=>p.2.2.tmps)->look env' t=look env t)->RF env' cs ps=RF env cs ps
 | [],cs,h=>rfl
 | (o,k,x)::r,cs,h=>by
  simp only[RF];rw[rJ (λt ht=>h t (by simp[ht]))]
  congr 1;funext a;congr 1;funext c
  split
  . rw[aqD (λt ht=>h t (by simp only[V5,Nx];exact .inr ht))]
  . rfl
theorem alD{sz:Nat}:∀{ps:List (Nat×dJ)} {es:List (List T)},(∀t,t∈(ps.flatMap λp=>p.2.tmps)->look env' t=look env t)->PC env' sz es ps=PC env sz es ps
 | [],cs,h=>rfl
 | (i,x)::r,es,h=>by
  simp only[PC];rw[rJ (λt ht=>h t (by simp[ht]))]
  congr 1;funext a;congr 1;funext c;congr 1;funext ts
  split
  . rw[alD (λt ht=>h t (by simp only[V5,Nx];exact .inr ht))]
  . rfl
theorem aGw{o:m'}(h:∀t,t∈o.reads->look env' t=look env t):dy o env' J key=dy o env J key:=by
 cases o <;> simp only[m'.reads,Nx]at h
 case mov x=>simp only[dy];rw[rJ h]
 case pick c x y=>simp only[dy];rw[rJ λt ht=>h t (.inl (.inl ht)),rJ λt ht=>h t (.inl (.inr ht)),rJ λt ht=>h t (.inr ht)]
 case alloc=>rfl
 case box x=>simp only[dy];rw[rJ h]
 case allocA=>rfl
 case b2s x=>simp only[dy];rw[rJ h]
 case allocS=>rfl
 case mkset=>rfl
 case bsliceT e sz len z ps=>simp only[dy];congr 1;funext NL;rw[alD h]
 case lkset x y=>simp only[dy];rw[rJ λt ht=>h t (.inl ht),rJ λt ht=>h t (.inr ht)]
 case upset x y=>simp only[dy];rw[rJ λt ht=>h t (.inl ht),rJ λt ht=>h t (.inr ht)]
 case appendB e k x y=>simp only[dy];rw[rJ λt ht=>h t (.inl ht),rJ λt ht=>h t (.inr ht)]
 case sdata x=>simp only[dy];rw[rJ h]
 case ustr e x y=>simp only[dy];rw[rJ λt ht=>h t (.inl ht),rJ λt ht=>h t (.inr ht)]
 case idxP k x y=>simp only[dy];rw[rJ λt ht=>h t (.inl ht),rJ λt ht=>h t (.inr ht)]
 case slcP k x l i=>simp only[dy];rw[rJ λt ht=>h t (.inl (.inl ht)),abl λt ht=>h t (.inl (.inr ht)),abl λt ht=>h t (.inr ht)]
 case build z ps=>simp only[dy];rw[aqD h]
 case bslice sz len z ps=>simp only[dy];congr 1;funext NL;rw[alD h]
 case load g k x=>simp only[dy];rw[rJ h]
 case store k x v=>simp only[dy];rw[rJ λt ht=>h t (.inl ht),rJ λt ht=>h t (.inr ht)]
 case nilCheck x=>simp only[dy];rw[rJ h]
 case bin op x y=>simp only[dy];rw[rJ λt ht=>h t (.inl ht),rJ λt ht=>h t (.inr ht)]
 case eqAgg op ks x y=>simp only[dy];rw[rJ λt ht=>h t (.inl ht),rJ λt ht=>h t (.inr ht)]
 case eqBool op x y=>simp only[dy];rw[rJ λt ht=>h t (.inl ht),rJ λt ht=>h t (.inr ht)]
 case eqNil=>rfl
 case not x=>simp only[dy];rw[rJ h]
 case conv k x=>simp only[dy];rw[rJ h]
 case i2s x=>simp only[dy];rw[rJ h]
 case s2s x=>simp only[dy];rw[rJ h]
 case fldA k x=>simp only[dy];rw[rJ h]
 case fld g k m x=>simp only[dy];rw[rJ h]
 case idxA op x y=>simp only[dy];rw[rJ λt ht=>h t (.inl ht),rJ λt ht=>h t (.inr ht)]
 case idxS x y=>simp only[dy];rw[rJ λt ht=>h t (.inl ht),rJ λt ht=>h t (.inr ht)]
 case slcS x l i=>simp only[dy];rw[rJ λt ht=>h t (.inl (.inl ht)),abl λt ht=>h t (.inl (.inr ht)),abl λt ht=>h t (.inr ht)]
 case slc k x l i=>simp only[dy];rw[rJ λt ht=>h t (.inl (.inl ht)),abl λt ht=>h t (.inl (.inr ht)),abl λt ht=>h t (.inr ht)]
 case slc0 x=>simp only[dy];rw[rJ h]
 case mkfn f xs=>simp only[dy];rw[ad6 h]
 case ext x i=>simp only[dy];rw[rJ h]
 case len s x=>simp only[dy];rw[rJ h]
 case append sz by' x y=>simp only[dy];rw[rJ λt ht=>h t (.inl ht),rJ λt ht=>h t (.inr ht)]
 case max2 x y=>simp only[dy];rw[rJ λt ht=>h t (.inl ht),rJ λt ht=>h t (.inr ht)]
 case min2 x y=>simp only[dy];rw[rJ λt ht=>h t (.inl ht),rJ λt ht=>h t (.inr ht)]
 case call=>rfl
 rfl
def yb(env:Env)(x:dJ):List Nat:=
 match x.get env with
 | some (_,.c (.ptr b _))=>[b]
 | some (_,.c (.mx b _ _ _))=>[b]
 | some (_,.c (.arr b _ _ _))=>[b]
 | some (_,.c (.JK b _ _ _))=>[b]
 | some (_,.c (.mp b))=>[b]
 | some (_,.c (.y2 b))=>[b]
 | some (_,.c (.l' b _))=>[b]
 | _=>[]
def C.JY :C->List Nat
 | .ptr b _ | .mx b _ _ _ | .arr b _ _ _ | .JK b _ _ _ | .mp b | .y2 b | .l' b _=>[b]
 | .fn _ caps=>caps
 | _=>[]
def V.JY :V->List Nat
 | .c x=>x.JY
 | .agg cs=>cs.flatMap C.JY
 | .fz _=>[]
def RQ(env:Env)(args:List dJ):List Nat:=
 args.flatMap λx=>match x.get env with
  | some (_,v)=>v.JY
  | none=>[]
def y'(xb:List Nat)(o:m')(env:Env)(key:Nat):List Nat:=
 match o with
 | .alloc _ | .allocA _ | .box _ | .bslice .. | .mkset=>[key]
 | .allocS .. =>[key,key+1]
 | .lkset x _=>yb env x
 | .upset x _=>yb env x
 | .appendB _ _ x _=>key::yb env x
 | .ustr _ x _=>yb env x
 | .call _ args=>(List.range 16).map (key+·)++(RQ env args++xb)
 | .load _ _ x=>yb env x
 | .b2s x=>yb env x
 | .store _ x _=>yb env x
 | .append _ _ x y=>key::(yb env x++yb env y)
 | _=>[]
def lo(xb:List Nat)(o:m')(env:Env)(key b:Nat):Bool:=
 match o with
 | .alloc _ | .allocA _ | .box _ | .bslice .. | .mkset=>b==key
 | .allocS .. =>b==key || b==key+1
 | .upset x _=>(yb env x).contains b
 | .appendB _ _ x _=>b==key || (yb env x).contains b
 | .ustr _ x _=>(yb env x).contains b
 | .store _ x _=>(yb env x).contains b
 | .append _ _ x _=>b==key || (yb env x).contains b
 | .call _ args=>(decide (key<=b) && decide (b < key+16)) || (RQ env args++xb).contains b
 | _=>false
theorem aDq{o:m'}(g':o.neutral=true)(ht:o.N5=false){p v J1}(ch:dy o env J key=some (p,v,J1)):dy o env J' key=some (p,v,J'):=by
 cases o <;> simp only[m'.neutral,m'.N5,reduceCtorEq,u1]at g' ht <;> simp only[dy,ha,fr,hy]at ch ⊢
 all_goals
  (try (obtain⟨a1,h1,ch⟩:=ch;refine⟨a1,h1,?_⟩))
  (try (obtain⟨a2,ah,ch⟩:=ch;refine⟨a2,ah,?_⟩))
  (try (obtain⟨a3,bJ,ch⟩:=ch;refine⟨a3,bJ,?_⟩))
  (try dsimp only at ch ⊢)
  (try split at ch)
  (try (simp_all;done))
 all_goals first
  | (cases ch;rfl)
  | (cases ch;done)
  | (simp only[fr,hy]at ch ⊢;obtain⟨x,h1,ah,bJ,_⟩:=ch;exact⟨x,h1,ah,bJ,rfl⟩)
  | (simp only[fr]at ch ⊢;obtain⟨x,h1,ah⟩:=ch;simp only[hy]at ah ⊢;exact⟨x,h1,ah.1,ah.2.1,trivial⟩)
  | (simp only[sr,hz,hy]at ch ⊢;exact⟨ch.1,ch.2.1,ch.2.2.1,trivial⟩)
theorem avB{x:dJ}{p:Prop}{b:Nat}(h:x.get env=some (p,.c (.mp b))):yb env x=[b]:=by simp[yb,h]
theorem aFJ{x:dJ}{p:Prop}{b:Nat}(h:x.get env=some (p,.c (.y2 b))):yb env x=[b]:=by simp[yb,h]
theorem aFK{x:dJ}{p:Prop}{b l:Nat}(h:x.get env=some (p,.c (.l' b l))):yb env x=[b]:=by simp[yb,h]
theorem asK{x:dJ}{p:Prop}{b o:Nat}(h:x.get env=some (p,.c (.ptr b o))):yb env x=[b]:=by simp[yb,h]
theorem arp{x:dJ}{p:Prop}{b sz i o:Nat}(h:x.get env=some (p,.c (.mx b sz i o))):yb env x=[b]:=by simp[yb,h]
theorem aFc{x:dJ}{p:Prop}{b sz i o:Nat}(h:x.get env=some (p,.c (.JK b sz i o))):yb env x=[b]:=by simp[yb,h]
theorem aiq{x:dJ}{p:Prop}{b sz i o:Nat}(h:x.get env=some (p,.c (.arr b sz i o))):yb env x=[b]:=by simp[yb,h]
theorem aFL{o:m'}{p v}(ch:dy o env J key=some (p,v,J1))(ht:∀b,b∈y' xb o env key -> ec J' b=ec J b):
 (∃gC,dy o env J' key=some (p,v,gC)/\∀b,ec gC b=if lo xb o env key b then ec J1 b else ec J' b)/\∀b,lo xb o env key b=false->ec J1 b=ec J b:=by
 by_cases aaE:o.neutral=true/\o.N5=false
 . have hw:∀b,lo xb o env key b=false:=by intro b;cases o <;> simp only[m'.neutral,m'.N5,reduceCtorEq,u1,false_and,Q',and_self]at aaE <;> rfl
   have:=aek aaE.1 ch;subst this;exact⟨⟨J',aDq aaE.1 aaE.2 ch,λb=>by rw[hw b];rfl⟩,λb _=>rfl⟩
 . cases o <;> simp only[m'.neutral,m'.N5,reduceCtorEq,u1,false_and,Q',and_self,not_true,not_false_eq_true]at aaE
   case alloc cs=>
    simp only[dy,hz,hy]at ch ⊢;obtain⟨rfl,rfl,rfl⟩:=ch;refine⟨⟨_,⟨rfl,rfl,rfl⟩,λb=>?_⟩,λb ai=>?_⟩
    . simp only[o',lo,Ox];by_cases h:b=key
      . subst h;simp
      . rw[b' (tJ h),b' h]
    . simp only[lo,SA]at ai;rw[o',b' (tJ ai)]
   case allocA cs=>
    simp only[dy,fr,hy]at ch ⊢;obtain⟨ts,JR,rfl,rfl,rfl⟩:=ch;refine⟨⟨_,⟨ts,JR,rfl,rfl,rfl⟩,λb=>?_⟩,λb ai=>?_⟩
    . simp only[o',lo,Ox];by_cases h:b=key
      . subst h;simp
      . rw[b' (tJ h),b' h]
    . simp only[lo,SA]at ai;rw[o',b' (tJ ai)]
   case b2s x=>
    simp only[dy,ha,fr,hy]at ch ⊢;obtain⟨⟨MN,v0⟩,h1,⟨q,s⟩,ah,rfl,rfl,rfl⟩:=ch;refine⟨⟨J',⟨(MN,v0),h1,(q,s),?_,rfl,rfl,rfl⟩,λb=>rfl⟩,λb _=>rfl⟩;dsimp only at ah ⊢;unfold VG at ah ⊢;split at ah
    . exact ah
    . exact ah
    . rename_i b off len;rw[ht b (by simp[y',aiq h1])];exact ah
    . rename_i b off len;rw[ht b (by simp[y',aFc h1])];exact ah
    . cases ah
   case box x=>
    simp only[dy,ha,fr,hy]at ch ⊢;obtain⟨N8,h1,cs,ah,rfl,rfl,rfl⟩:=ch;refine⟨⟨_,⟨N8,h1,cs,ah,rfl,rfl,rfl⟩,λb=>?_⟩,λb ai=>?_⟩
    . simp only[o',lo,Ox];by_cases h:b=key
      . subst h;simp
      . rw[b' (tJ h),b' h]
    . simp only[lo,SA]at ai;rw[o',b' (tJ ai)]
   case bslice sz len z ps=>
    simp only[dy,ha,fr,hy]at ch ⊢;obtain⟨N8,h1,cs,ah,rfl,rfl,rfl⟩:=ch;refine⟨⟨_,⟨N8,h1,cs,ah,rfl,rfl,rfl⟩,λb=>?_⟩,λb ai=>?_⟩
    . simp only[o',lo,Ox];by_cases h:b=key
      . subst h;simp
      . rw[b' (tJ h),b' h]
    . simp only[lo,SA]at ai;rw[o',b' (tJ ai)]
   case load g k x=>
    have:=aek rfl ch;subst this;refine⟨⟨J',?_,λb=>rfl⟩,λb _=>rfl⟩;simp only[dy,ha]at ch ⊢;obtain⟨⟨MN,v0⟩,h1,ch⟩:=ch;refine⟨(MN,v0),h1,?_⟩;dsimp only at ch ⊢;split at ch
    . rename_i b o;rw[ht b (by simp[y',asK h1])];split at ch
      . rename_i cs r';simp only[fr]at ch ⊢;obtain⟨x,ah,bJ⟩:=ch;simp only[hy]at bJ ⊢;exact⟨x,ah,bJ.1,bJ.2.1,trivial⟩
      . rename_i E c ay;simp only[sr,hz,hy]at ch ⊢;exact⟨ch.1,ch.2.1,ch.2.2.1,trivial⟩
      . cases ch
    . rename_i b sz i o;rw[ht b (by simp[y',arp h1])];split at ch
      . simp only[fr]at ch ⊢;obtain⟨x,ah,bJ⟩:=ch;simp only[hy]at bJ ⊢;exact⟨x,ah,bJ.1,bJ.2.1,trivial⟩
      . split at ch
        . cases ch
        . rename_i a8;rw[b' a8];split at ch
          . rename_i Jn;rw[b6 Jn];simp only[hz,hy]at ch ⊢;exact⟨ch.1,ch.2.1,trivial⟩
          . rename_i Jn;rw[b' Jn];simp only[fr]at ch ⊢;obtain⟨x,ah,bJ⟩:=ch;simp only[hy]at bJ ⊢;exact⟨x,ah,bJ.1,bJ.2.1,trivial⟩
      . cases ch
    . simp only[fr]at ch ⊢;obtain⟨x,ah,bJ⟩:=ch;simp only[hy]at bJ ⊢;exact⟨x,ah,bJ.1,bJ.2.1,trivial⟩
    . cases ch
   case store k x y=>
    simp only[dy,ha,sr]at ch ⊢;obtain⟨⟨MN,v0⟩,h1,d,ah,cs,bJ,ea,ch⟩:=ch;have fin:∀(b:Nat) (b7:hE),yb env x=[b]->J1=q1 J b b7->(∀c,ec (q1 J' b b7) c=if lo xb (.store k x y) env key c then ec J1 c else ec J' c)/\∀c,lo xb (.store k x y) env key c=false->ec J1 c=ec J c:=by
     intro b b7 ai hs;subst hs;refine⟨λc=>?_,λc ay=>?_⟩
     . simp only[lo,ai,TG,Q7,PS,Ox,o']
       grind
     . simp only[lo,ai,TG,Q7,PS,SA]at ay;rw[o',b' (tJ ay)]
    dsimp only at ch ⊢;split at ch
    . rename_i b o;have ai:=asK h1;split at ch
      . rename_i ds Q0;simp only[sr,hz,hy]at ch;obtain⟨hi,rfl,rfl,q0⟩:=ch;obtain⟨f1,f2⟩:=fin b _ ai q0.symm;refine⟨⟨_,⟨(MN,.c (.ptr b o)),h1,d,ah,cs,bJ,ea,?_⟩,f1⟩,f2⟩;dsimp only;rw[ht b (by simp[y',ai]),Q0];dsimp only;rw[b6 hi]
      . rename_i E K0 Q0;split at ch
        . rename_i c;simp only[hz,hy]at ch;obtain⟨rfl,rfl,q0⟩:=ch;obtain⟨f1,f2⟩:=fin b _ ai q0.symm;refine⟨⟨_,⟨(MN,.c (.ptr b 1)),h1,d,ah,_,bJ,ea,?_⟩,f1⟩,f2⟩;dsimp only;rw[ht b (by simp[y',ai]),Q0];rfl
        . cases ch
      . cases ch
    . rename_i b sz i o;have ai:=arp h1;split at ch
      . rename_i kp es C';split at ch
        . rename_i c ay;simp only[hz,hy]at ch;obtain⟨rfl,rfl,q0⟩:=ch;obtain⟨f1,f2⟩:=fin b _ ai q0.symm;refine⟨⟨_,⟨(MN,.c (.mx b sz i o)),h1,d,ah,cs,bJ,ea,?_⟩,f1⟩,f2⟩;dsimp only;rw[ht b (by simp[y',ai]),C'];dsimp only;rw[ay]
        rename_i ay;simp only[ha,hz,hy]at ch;obtain⟨ts,hi,rfl,rfl,q0⟩:=ch;obtain⟨f1,f2⟩:=fin b _ ai q0.symm;refine⟨⟨_,⟨(MN,.c (.mx b sz i o)),h1,d,ah,cs,bJ,ea,?_⟩,f1⟩,f2⟩;dsimp only;rw[ht b (by simp[y',ai]),C'];dsimp only;rw[ay];dsimp only;rw[hi];rfl
      . rename_i kp es i2 V0 K0 C';split at ch
        . rename_i c;split at ch
          . rename_i Jn;simp only[hz,hy]at ch;obtain⟨rfl,rfl,q0⟩:=ch;obtain⟨f1,f2⟩:=fin b _ ai q0.symm;refine⟨⟨_,⟨(MN,.c (.mx b sz i o)),h1,d,ah,_,bJ,ea,?_⟩,f1⟩,f2⟩;dsimp only;rw[ht b (by simp[y',ai]),C'];dsimp only;rw[b6 Jn]
          . rename_i Jn;simp only[ha,hz,hy]at ch;obtain⟨t,hi,rfl,rfl,q0⟩:=ch;obtain⟨f1,f2⟩:=fin b _ ai q0.symm;refine⟨⟨_,⟨(MN,.c (.mx b sz i o)),h1,d,ah,_,bJ,ea,?_⟩,f1⟩,f2⟩;dsimp only;rw[ht b (by simp[y',ai]),C'];dsimp only;rw[b' Jn,hi];rfl
        . cases ch
      . cases ch
    . cases ch
   case append sz by' x y=>
    simp only[dy,ha]at ch ⊢;obtain⟨⟨MN,v0⟩,h1,⟨d1,d2⟩,ah,ch⟩:=ch;dsimp only at ch;cases acW:UW v0 d2 with
    | some r=>
     rw[acW]at ch;have acX:=acW;unfold UW at acX;split at acX
     . rename_i b s1 off len hj s2 SJ N3;split at acX
       . cases acX;have VQ:=aiq h1;dsimp only at ch;unfold acn at ch;dsimp only at ch;split at ch
         . rename_i TP es C';simp only[hz,hy]at ch;obtain⟨rfl,rfl,rfl⟩:=ch;refine⟨⟨q1 (NA J' b) key (.arr sz (es.take len++(es.drop SJ).take N3)),⟨(MN,.c (.arr b s1 off len)),h1,(d1,.c (.JK hj s2 SJ N3)),ah,?_⟩,λc=>?_⟩,λc ay=>?_⟩
           . dsimp only;rw[acW];dsimp only;unfold acn;dsimp only;rw[ht b (by simp[y',VQ]),C']
           . simp only[o',J8,lo,VQ,TG,Q7,PS,OT,Ox];by_cases h:c=key
             . subst h;simp
             . rw[b' (tJ h)];by_cases vc:c=b
               . subst vc;simp[h,tJ h]
               . rw[b' (tJ vc),b' (by simp[h,vc])]
           . simp only[lo,VQ,TG,Q7,PS,XG,SA]at ay;rw[o',J8,b' (tJ ay.1),b' (tJ ay.2)]
         . cases ch
       . cases acX
     . cases acX
    | none=>
    rw[acW]at ch;simp only[ha]at ch;obtain⟨ys,bJ,ch⟩:=ch;have Xz:TS J' d2=some ys:=by
     unfold TS at bJ ⊢;split at bJ
     . exact bJ
     . exact bJ
     . rename_i b kp off len;rw[ht b (by simp[y',aiq ah])];exact bJ
     . cases bJ
    split at ch
    . have VQ:yb env x=[]:=by simp[yb,h1]
      simp only[hz,hy]at ch;obtain⟨rfl,rfl,rfl⟩:=ch;refine⟨⟨_,⟨(MN,.c .eI),h1,(d1,d2),ah,by dsimp only;rw[acW];simp only[ha];exact⟨ys,Xz,rfl⟩⟩,λb=>?_⟩,λb ai=>?_⟩
      . simp only[o',lo,VQ,Q7,PS,Ox];by_cases h:b=key
        . subst h;simp
        . rw[b' (tJ h),b' h]
      . simp only[lo,VQ,Q7,PS,SA]at ai;rw[o',b' (tJ ai)]
    . rename_i b kp off len;have VQ:=aiq h1;split at ch
      . rename_i agU es C';split at ch
        . cases ch
        . rename_i Oo;simp only[hz,hy]at ch;obtain⟨rfl,rfl,rfl⟩:=ch
          refine⟨⟨_,⟨(MN,.c (.arr b kp off len)),h1,(d1,d2),ah,by
           dsimp only;rw[acW];simp only[ha];refine⟨ys,Xz,?_⟩;rw[ht b (by simp[y',VQ]),C'];dsimp only
           rw[b' Oo]⟩,λc=>?_⟩,λc ay=>?_⟩
          . simp only[o',J8,lo,VQ,TG,Q7,PS,OT,Ox];by_cases h:c=key
            . subst h;simp
            . rw[b' (tJ h)];by_cases vc:c=b
              . subst vc;simp[h,tJ h]
              . rw[b' (tJ vc),b' (by simp[h,vc])]
          . simp only[lo,VQ,TG,Q7,PS,XG,SA]at ay;rw[o',J8,b' (tJ ay.1),b' (tJ ay.2)]
      . cases ch
    . cases ch
   case allocS e e8=>
    simp only[dy,hz,hy]at ch ⊢;obtain⟨rfl,rfl,rfl⟩:=ch;refine⟨⟨_,⟨rfl,rfl,rfl⟩,λb=>?_⟩,λb ai=>?_⟩
    . simp only[o',lo,OT,Ox];by_cases h:key=b
      . rw[b6 h,b6 (.inl h.symm),b6 h]
      . rw[b' h];by_cases vc:key+1=b
        . rw[b6 vc,b6 (.inr vc.symm),b' h,b6 vc]
        . rw[b' vc,b' (by omega)]
    . simp only[lo,XG,SA]at ai;rw[o',b' (tJ ai.1),o',b' (tJ ai.2)]
   case mkset=>
    simp only[dy,hz,hy]at ch ⊢;obtain⟨rfl,rfl,rfl⟩:=ch;refine⟨⟨_,⟨rfl,rfl,rfl⟩,λb=>?_⟩,λb ai=>?_⟩
    . simp only[o',lo,Ox];by_cases h:b=key
      . subst h;simp
      . rw[b' (tJ h),b' h]
    . simp only[lo,SA]at ai;rw[o',b' (tJ ai)]
   case lkset x y=>
    have:=aek rfl ch;subst this;refine⟨⟨J',?_,λb=>rfl⟩,λb _=>rfl⟩;simp only[dy,ha]at ch ⊢;obtain⟨⟨MN,v0⟩,h1,⟨d1,d2⟩,ah,ch⟩:=ch;refine⟨(MN,v0),h1,(d1,d2),ah,?_⟩;dsimp only at ch ⊢;split at ch
    . rename_i b s;rw[ht b (by simp[y',avB h1])];split at ch
      . simp only[hz,hy]at ch ⊢;exact⟨ch.1,ch.2.1,trivial⟩
      . cases ch
    . cases ch
   case upset x y=>
    simp only[dy,ha]at ch ⊢;obtain⟨⟨MN,v0⟩,h1,⟨d1,d2⟩,ah,ch⟩:=ch;dsimp only at ch ⊢;split at ch
    . rename_i b s;have ai:=avB h1;split at ch
      . rename_i ks J5;simp only[hz,hy]at ch;obtain⟨rfl,rfl,rfl⟩:=ch
        refine⟨⟨_,⟨(MN,.c (.mp b)),h1,(d1,.c (.t (.str s))),ah,by
         dsimp only
         rw[ht b (by simp[y',ai]),J5]⟩,λc=>?_⟩,λc ay=>?_⟩
        . simp only[lo,ai,TG,Q7,PS,Ox,o'];by_cases h:c=b
          . subst h;simp
          . rw[b' (tJ h),b' h]
        . simp only[lo,ai,TG,Q7,PS,SA]at ay;rw[o',b' (tJ ay)]
      . cases ch
    . cases ch
   case appendB e by' x y=>
    simp only[dy,ha]at ch ⊢;obtain⟨⟨MN,v0⟩,h1,⟨d1,d2⟩,ah,ch⟩:=ch;dsimp only at ch ⊢;split at ch
    . rename_i b len s;have ai:=aFK h1;split at ch
      . rename_i qa es C';simp only[hz,hy]at ch;obtain⟨rfl,rfl,rfl⟩:=ch
        refine⟨⟨_,⟨(MN,.c (.l' b len)),h1,(d1,.c (.t (.str s))),ah,by
         dsimp only
         rw[ht b (by simp[y',ai]),C']⟩,λc=>?_⟩,λc ay=>?_⟩
        . simp only[o',J8,lo,ai,TG,Q7,PS,OT,Ox];by_cases h:c=key
          . subst h;simp
          . rw[b' (tJ h)];by_cases vc:c=b
            . subst vc;simp[h,tJ h]
            . rw[b' (tJ vc),b' (by simp[h,vc])]
        . simp only[lo,ai,TG,Q7,PS,XG,SA]at ay;rw[o',J8,b' (tJ ay.1),b' (tJ ay.2)]
      . cases ch
    . cases ch
   case ustr e x y=>
    simp only[dy,ha]at ch ⊢;obtain⟨⟨MN,v0⟩,h1,⟨d1,d2⟩,ah,ch⟩:=ch;dsimp only at ch ⊢;split at ch
    . rename_i b m;have ai:=aFJ h1;split at ch
      . rename_i qa es C';simp only[hz,hy]at ch;obtain⟨rfl,rfl,rfl⟩:=ch
        refine⟨⟨_,⟨(MN,.c (.y2 b)),h1,(d1,.c (.t (.int .i64 m))),ah,by
         dsimp only
         rw[ht b (by simp[y',ai]),C']⟩,λc=>?_⟩,λc ay=>?_⟩
        . simp only[J8,lo,ai,TG,Q7,PS,Ox];by_cases h:c=b
          . subst h;simp
          . rw[b' (tJ h),b' h]
        . simp only[lo,ai,TG,Q7,PS,SA]at ay;rw[J8,b' (tJ ay)]
      . cases ch
    . cases ch
   all_goals simp[dy]at ch
inductive DStep (xb:List Nat) (P:Program) (o:h7) (key:Nat) (env:Env) (J:ep) (g:Bool) (v:V):ep->Prop
 | op {p : Prop} {J2 : ep} (a8 : Ks env o.guard = some g) (a6 : o.op.drawn = true) (ch : dy o.op env J key = some (p, v, J2)) (a7 : g = true -> p) (hv : o.op.neutral = true \/ g = true):
  DStep xb P o key env J g v (if o.op.neutral then J else J2)
 | skip (a8:Ks env o.guard=some g) (c6:g=false):DStep xb P o key env J g v J
 | call {p : Prop} {f : Nat} {args : List dJ} {vs : List V} (c7 : o.op = .call f args) (a8 : Ks env o.guard = some g) (ch : MF env args = some (p, vs)) (a7 : g = true -> p /\ V.cx.V.u' (lt 0) vs = true /\ v.cx (lt 0) = true /\ yq P f vs [] 0 (λI' _ _ => I' = v)):
  DStep xb P o key env J g v J
 | Oe {p q : Prop} {f : Nat} {x : dJ} {args : List dJ} {vs : List V} (c7 : o.op = .Oe x args) (g' : o.guard = none) (F' : g = true) (aa : x.get env = some (q, .c (.fn f []))) (ee : q) (ai : Nb P f = true) (ch : MF env args = some (p, vs))
  (a7:p/\V.cx.V.u' (lt 0) vs=true/\v.cx (lt 0)=true/\yq P f vs [] 0 (λI' _ _=>I'=v)):DStep xb P o key env J g v J
 | own {p : Prop} {f : Nat} {args : List dJ} {vs : List V} {r : V} {s : ep} {M : Nat} (c7 : o.op = .call f args) (a8 : Ks env o.guard = some g) (g' : o.guard = none) (ch : MF env args = some (p, vs)) (a7 : p) (ai : V.cx.V.u' (lt 0) vs = true) (ON : M <= 16) (hk : s.all (λx => x.1 < 16) = true)
  (ay:yq P f vs [] 0 (λI' XO Zs=>I'=r/\XO=s/\Zs=M)) (cJ:v=r.hp key):DStep xb P o key env J g v (Ta J key s)
 | raw {p : Prop} {f : Nat} {args : List dJ} {vs : List V} {bs : List Nat} {r : V} {s : ep} {M : Nat} (c7 : o.op = .call f args) (a8 : Ks env o.guard = some g) (F' : g = true) (ch : MF env args = some (p, vs)) (a7 : p)
  (hM:bs.Nodup) (ey:∀b,b∈bs->b < key) (tw:∀b,b∈bs->∃x,ec J b=some x) (JQ:∀b,b∈bs->b∈RQ env args++xb) (ON:M<=bs.length+16) (hk:s.all (λx=>decide (x.1 < bs.length+16))=true)
  (ay:yq P f (vs.map (V.hD bs)) (m5 bs J 0 bs) bs.length (λI' XO Zs=>I'=r/\XO=s/\Zs=M)) (cJ:v=r.h6 (back bs key)):DStep xb P o key env J g v (MQ J bs (back bs key) s)
theorem DStep.MC{o:h7}{g:Bool}{v:V}(h:DStep xb P o key env J g v J1){K:Env->ep->Prop}(ns:K (zt env o.dst g v) J1):MC P o key env J K:=by
 cases h with
 | @op p J2 a8 a6 ch a7 hv=>
  unfold Shv.MC;rw[a8];dsimp only;refine .inr ?_;split
  . rename_i f args c7;rw[c7]at ch;simp[dy]at ch
  . rename_i x args c7;rw[c7]at ch;simp[dy]at ch
  . rename_i neg x c7;rw[c7]at ch;simp[dy]at ch
  grind
 | skip a8 c6=>
  unfold Shv.MC
  grind
 | @call p f args vs c7 a8 ch a7=>
  unfold Shv.MC;rw[a8];dsimp only;refine .inr ?_;rw[c7];dsimp only;rw[ch];dsimp only;split
  . rename_i qJ;rw[qJ]at a8;simp[Ks]at a8;subst a8;obtain⟨h1,ah,bJ,ea⟩:=a7 rfl;exact⟨h1,MV.apm ea ah bJ ns⟩
  . refine .inr ⟨v,λF'=>?_,ns⟩;obtain⟨h1,ah,bJ,ea⟩:=a7 F';exact⟨h1,MV.apm ea ah bJ ⟨rfl,rfl⟩⟩
 | @Oe p q f x args vs c7 g' F' aa ee ai ch a7=>
  subst F';unfold Shv.MC;rw[g'];simp only[Ks];refine .inr ?_;rw[c7];dsimp only;rw[aa,ch];dsimp only;obtain⟨h1,ah,bJ,ea⟩:=a7;simp only[List.map_nil,Q8];exact⟨trivial,ai,ee,h1,MV.apm ea ah bJ ns⟩
 | @raw p f args vs bs r s M c7 a8 F' ch a7 hM ey tw JQ ON hk ay cJ=>
  subst F';unfold Shv.MC;rw[a8];dsimp only;refine .inr ?_;rw[c7];dsimp only;rw[ch];dsimp only;subst cJ;have uJ:MV P f vs J key (λI' J'=>K (zt env o.dst true I') J'):=by
   refine MV.aLH hM ey tw ay ?_
   grind
  grind
 | @own p f args vs r s M c7 a8 g' ch a7 ai ON hk ay cJ=>
  unfold Shv.MC;rw[a8];dsimp only;refine .inr ?_;rw[c7];dsimp only;rw[ch];dsimp only;rw[g'];dsimp only;rw[g']at a8;simp[Ks]at a8;subst a8;subst cJ;refine⟨a7,MV.aLG ay ai ?_⟩
  grind
theorem avC{o:h7}{t:Nat}(h:t∈o.op.reads):t∈o.rd:=by simp[h7.rd,h]
theorem aer{o:h7}(h:∀t,t∈o.rd->look env' t=look env t):Ks env' o.guard=Ks env o.guard:=by
 cases a8:o.guard with
 | none=>rfl
 | some x=>
  obtain⟨t,b⟩:=x;simp only[Ks];rw[h t (by simp[h7.rd,a8])]
theorem akJ{s:ep}(hk:s.all (λx=>x.1 < 16)=true){b:Nat}(ai:¬(key<=b/\b < key+16))(J:ep):ec (Ta J key s) b=ec J b:=by
 rw[ad5];by_cases h:key<=b
 . rw[b6 h];have:ec s (b - key)=none:=by
    cases hs:ec s (b - key)with
    | none=>rfl
    | some x=>
     exfalso
     have:∀{s:ep} {c:Nat} {x:hE},ec s c=some x->s.all (λx=>x.1 < 16)=true->c < 16:=by
      intro s
      induction s with
      | nil=>intro c x h;simp[ec]at h
      | cons y r ih=>
       obtain⟨k,y⟩:=y;intro c x h ny;simp only[V6,kc,I2]at ny;simp only[ec]at h
       grind
     grind
   rw[this]
 grind
theorem QF{x:dJ}(h:∀t,t∈x.tmps->look env' t=look env t):yb env' x=yb env x:=by
 unfold yb;rw[rJ h]
theorem ak4{args:List dJ}(h:∀t,t∈args.flatMap dJ.tmps->look env' t=look env t):RQ env' args=RQ env args:=by
 induction args with
 | nil=>rfl
 | cons x r ih=>
  simp only[RQ,V5]at ih ⊢;rw[rJ (λt ht=>h t (by simp[ht]))]
  grind
theorem aFd{o:m'}(h:∀t,t∈o.reads->look env' t=look env t)(b:Nat):lo xb o env' key b=lo xb o env key b:=by
 cases o <;> try rfl
 case store k x v=>simp only[lo];rw[QF λt ht=>h t (by simp[m'.reads,ht])]
 case append sz by' x y=>simp only[lo];rw[QF λt ht=>h t (by simp[m'.reads,ht])]
 case upset x y=>simp only[lo];rw[QF λt ht=>h t (by simp[m'.reads,ht])]
 case appendB e k x y=>simp only[lo];rw[QF λt ht=>h t (by simp[m'.reads,ht])]
 case ustr e x y=>simp only[lo];rw[QF λt ht=>h t (by simp[m'.reads,ht])]
 case call f args=>simp only[lo];rw[ak4 h]
theorem aFe{o:m'}(h:∀t,t∈o.reads->look env' t=look env t):y' xb o env' key=y' xb o env key:=by
 cases o <;> try rfl
 case b2s x=>simp only[y'];rw[QF λt ht=>h t (by simp[m'.reads,ht])]
 case load g k x=>simp only[y'];rw[QF λt ht=>h t (by simp[m'.reads,ht])]
 case store k x v=>simp only[y'];rw[QF λt ht=>h t (by simp[m'.reads,ht])]
 case lkset x y=>simp only[y'];rw[QF λt ht=>h t (by simp[m'.reads,ht])]
 case upset x y=>simp only[y'];rw[QF λt ht=>h t (by simp[m'.reads,ht])]
 case appendB e k x y=>simp only[y'];rw[QF λt ht=>h t (by simp[m'.reads,ht])]
 case ustr e x y=>simp only[y'];rw[QF λt ht=>h t (by simp[m'.reads,ht])]
 case call f args=>simp only[y'];rw[ak4 h]
 case append sz by' x y=>simp only[y'];rw[QF (x:=x) λt ht=>h t (by simp[m'.reads,ht]),QF (x:=y) λt ht=>h t (by simp[m'.reads,ht])]
theorem DStep.local{o:h7}{g:Bool}{v:V}(h:DStep xb P o key env J g v J1)(he:∀t,t∈o.rd -> look env' t=look env t)(ht:∀b,b∈y' xb o.op env key \/ lo xb o.op env key b=true -> ec J' b=ec J b):
 (∃gC,DStep xb P o key env' J' g v gC/\∀b,ec gC b=if lo xb o.op env key b then ec J1 b else ec J' b)/\∀b,lo xb o.op env key b=false->ec J1 b=ec J b:=by
 have acH:∀t,t∈o.op.reads->look env' t=look env t:=λt h=>he t (avC h)
 cases h with
 | @op p J2 a8 a6 ch a7 hv=>
  obtain⟨⟨gC,h1,ah⟩,bJ⟩:=aFL (J':=J') ch (λb ai=>ht b (.inl ai));have g':o.op.neutral=true->∀b,lo xb o.op env key b=false:=by intro g' b;generalize o.op=apo at g';cases apo <;> simp[m'.neutral]at g' <;> rfl
  refine⟨⟨_,DStep.op (J2:=gC) (p:=p) (by rw[aer he];exact a8) a6 (by rw[aGw acH];exact h1) a7 hv,λb=>?_⟩,λb ai=>?_⟩
  . by_cases PK:o.op.neutral=true
    . rw[b6 PK,g' PK b];rfl
    . rw[b' PK,b' PK];exact ah b
  . by_cases PK:o.op.neutral=true
    . rw[b6 PK]
    . rw[b' PK];exact bJ b ai
 | skip a8 c6=>
  refine⟨⟨J',DStep.skip (by rw[aer he];exact a8) c6,λb=>?_⟩,λb _=>rfl⟩;split
  . rename_i hw;exact ht b (.inr hw)
  . rfl
 | @call p f args vs c7 a8 ch a7=>
  refine⟨⟨J',DStep.call c7 (by rw[aer he];exact a8) (by rw[ad6 λt h=>acH t (by rw[c7];exact h)];exact ch) a7,λb=>?_⟩,λb _=>rfl⟩;split
  . rename_i hw;exact ht b (.inr hw)
  . rfl
 | @Oe p q f x args vs c7 g' F' aa ee ai ch a7=>
  refine⟨⟨J',DStep.Oe c7 g' F' (by rw[rJ λt h=>acH t (by rw[c7];simp[m'.reads,h])];exact aa) ee ai (by rw[ad6 λt h=>acH t (by rw[c7];simp only[m'.reads,Nx];exact .inr h)];exact ch) a7,λb=>?_⟩,λb _=>rfl⟩;split
  . rename_i hw;exact ht b (.inr hw)
  . rfl
 | @own p f args vs r s M c7 a8 g' ch a7 ai ON hk ay cJ=>
  refine⟨⟨_,DStep.own c7 (by rw[aer he];exact a8) g' (by rw[ad6 λt h=>acH t (by rw[c7];exact h)];exact ch) a7 ai ON hk ay cJ,λb=>?_⟩,λb LO=>?_⟩
  . by_cases ar:key<=b/\b < key+16
    . have hw:lo xb o.op env key b=true:=by rw[c7];simp[lo,ar.1,ar.2]
      rw[b6 hw];have e:=ht b (.inr hw);rw[ad5,ad5,e]
    . rw[akJ hk ar];split
      . rename_i hw;rw[akJ hk ar];exact ht b (.inr hw)
      . rfl
  . have ar:¬(key<=b/\b < key+16):=by intro h;rw[c7]at LO;simp[lo,h.1,h.2]at LO
    exact akJ hk ar J
 | @raw p f args vs bs r s M c7 a8 F' ch a7 hM ey tw JQ ON hk ay cJ=>
  have aK3:∀b,b∈RQ env args++xb->b∈y' xb o.op env key:=by intro b ai;rw[c7];simp only[y',Nx];exact .inr (Nx.1 ai)
  have NU:∀b,b∈bs->ec J' b=ec J b:=λb ai=>ht b (.inl (aK3 b (JQ b ai)))
  have axf:∀t,t∈args.flatMap dJ.tmps->look env' t=look env t:=λt h=>acH t (by rw[c7];exact h)
  refine⟨⟨_,DStep.raw (bs:=bs) c7 (by rw[aer he];exact a8) F' (by rw[ad6 axf];exact ch) a7 hM ey (λb ai=>by rw[NU b ai];exact tw b ai) (λb ai=>by rw[ak4 axf];exact JQ b ai) ON hk
   (by rw[aqB NU];exact ay) cJ,λb=>?_⟩,λb LO=>?_⟩
  . by_cases hw:lo xb o.op env key b=true
    . rw[b6 hw];refine aqC ?_;rw[Wy,Wy,ht b (.inr hw)]
    . rw[b' hw];have af8:lo xb o.op env key b=false:=by simpa using hw
      rw[c7]at af8;simp only[lo,XG,Bool.and_eq_false_iff,decide_eq_false_iff_not]at af8;refine alr hk (λai=>?_) (by omega);have:=JQ b ai;simp[ao9,this]at af8
  . rw[c7]at LO;simp only[lo,XG,Bool.and_eq_false_iff,decide_eq_false_iff_not]at LO;refine alr hk (λai=>?_) (by omega);have:=JQ b ai;simp[ao9,this]at LO
def ae'(xb:List Nat)(P:Program):List h7->Nat->Env->ep->(Env->ep->Prop)->Prop
 | [],_,env,J,K=>K env J
 | o::r,key,env,J,K=>∃g v J1,DStep xb P o key env J g v J1/\ae' xb P r (key+16) (zt env o.dst g v) J1 K
structure Wi (xb:List Nat) (P:Program) (ev:List h7) (N:Nat) (E:Nat->Env) (T:Nat->ep) (G:Nat->Bool) (W:Nat->V):Prop where
 step:∀(i:Nat) o,ev[i]?=some o->DStep xb P o (N+16*i) (E i) (T i) (G i) (W i) (T (i+1))/\E (i+1)=zt (E i) o.dst (G i) (W i)
theorem amy :∀{ev:List h7} {key:Nat} {env:Env} {J:ep} {K:Env->ep->Prop},ae' xb P ev key env J K->∃E T G W,Wi xb P ev key E T G W/\E 0=env/\T 0=J/\K (E ev.length) (T ev.length)
 | [],key,env,J,K,h=>⟨λ_=>env,λ_=>J,λ_=>true,λ_=>.fz [],⟨λi o h=>by simp at h⟩,rfl,rfl,h⟩
 | o::r,key,env,J,K,h=>by
  obtain⟨g,v,J1,h1,ah⟩:=h;obtain⟨E,T,G,W,ar,e',hf,ns⟩:=amy ah;refine⟨λi=>if i=0 then env else E (i - 1),λi=>if i=0 then J else T (i - 1),λi=>if i=0 then g else G (i - 1),λi=>if i=0 then v else W (i - 1),⟨λi q5 c7=>?_⟩,rfl,rfl,by simpa using ns⟩;cases i with
  | zero=>grind
  | succ i=>
   have:=ar.step i q5 (by simpa using c7)
   grind
end
end
section
open Go
variable {xb:List Nat}
theorem alL{p:Nat->Bool}:∀{m:Nat},(∃i,i < m/\p i=true)->∃i,i < m/\p i=true/\∀j,j < m->p j=true->j<=i
 | 0,⟨i,h,_⟩=>by omega
 | m+1,⟨i,h1,ah⟩=>by
  cases hm:p m with
  | true=>exact⟨m,by omega,hm,λj dx _=>by omega⟩
  | false=>
   have:i < m:=by grind
   obtain⟨k,bJ,ea,hi⟩:=alL (m:=m) ⟨i,this,ah⟩
   grind
theorem adZ{P:Program}{nt:Nat}{ops:Array Oper}:∀{l:List Oper} {ev:List h7},O1 P nt ops l=some ev->ev.length=l.length
 | [],ev,h=>by simp[O1]at h;subst h;rfl
 | o::l,ev,h=>by
  simp only[O1,ha,fr]at h;obtain⟨qy,O',r,ar,rfl⟩:=h;simp[adZ ar]
theorem als{P:Program}{nt:Nat}{ops:Array Oper}:∀{l:List Oper} {ev:List h7} {i:Nat} {o:Oper},O1 P nt ops l=some ev->l[i]?=some o->∃qy,ev[i]?=some qy/\abz P nt ops o=some qy
 | [],ev,i,o,h,c7=>by simp at c7
 | x::l,ev,i,o,h,c7=>by
  simp only[O1,ha,fr]at h;obtain⟨qy,O',r,ar,rfl⟩:=h;cases i with
  | zero=>simp at c7;subst c7;exact⟨qy,rfl,O'⟩
  | succ i=>simpa using als ar (by simpa using c7)
theorem alE :∀{l:List (h7×List Nat)} {k i:Nat} {x:h7×List Nat},aiy k l=true->l[i]?=some x->∀d,d∈x.2->d < k+i
 | [],k,i,x,h,aa,d,a6=>by simp at aa
 | y::r,k,i,x,h,aa,d,a6=>by
  simp only[aiy,kc,qx,I2]at h;cases i with
  | zero=>simp at aa;subst aa;exact h.1 d a6
  | succ i=>
   have:=alE h.2 (by simpa using aa) d a6;omega
theorem aFf{L:List (h7×List Nat)}{j i:Nat}(h:ahead L j i=true):j < i/\∃x,L[i]?=some x/\j∈x.2:=by
 simp only[ahead,kc,I2]at h
 grind
theorem arq{o:m'}{env:Env}{key b:Nat}(ht:o.N5=true)(hw:lo xb o env key b=true):b∈y' xb o env key:=by
 cases o
 case call f args=>
  simp only[lo,OT,kc,I2,ao9]at hw;simp only[y',Nx,LV,adb];rcases hw with h | h
  . exact .inl ⟨b - key,by omega,by omega⟩
  grind
 all_goals simp[m'.N5]at ht <;> simp[lo,y']at hw ⊢ <;> first | exact hw | (rcases hw with h | h;exact .inl h;exact .inr (.inl h))
theorem aE9{o:m'}{env:Env}{key:Nat}(ht:o.N5=false):y' xb o env key=[]:=by
 cases o <;> simp[m'.N5]at ht <;> rfl
theorem asL{o:m'}{env:Env}{key b:Nat}(hw:lo xb o env key b=true):o.neutral=false:=by
 cases o <;> simp[lo]at hw <;> rfl
theorem avo{o:m'}{env:Env}{key b:Nat}(ht:o.N5=false)(hw:lo xb o env key b=true):key<=b/\b < key+16:=by
 cases o <;> simp[m'.N5]at ht <;> simp[lo]at hw
section
variable {P:Program} {cv:Ctx} {nt kk:Nat} {N:Nat} {ops:Array Oper} {ev:List h7} {E:Nat->Env} {T:Nat->ep} {G:Nat->Bool} {W:Nat->V}
theorem Rel.aA7{φ:q4}{S:r3}{env env':Env}{J:ep}{n:Nat->Bool}{a:Act}{w:World}(R:Rel cv nt φ S env J n a w)(h:∀t,look env' t=look env t):Rel cv nt φ S env' J n a w:=
 ⟨R.hJ,λk g v aJ=>R.LM k g v (h k▸aJ),λk g v aJ=>R.MY k g v (h k▸aJ),λk g v aJ=>R.LL k g v (h k▸aJ),R.u2,R.size,R.defers,R.ext,R.own,R.fix,R.J7⟩
def NK(xb:List Nat)(ev:List h7)(E:Nat->Env)(N i b:Nat):Bool:=match ev[i]? with | some o=>lo xb o.op (E i) (N+16*i) b | none=>false
theorem abZ(ar:Wi xb P ev N E T G W){t:Nat}{i:Nat}:∀{k:Nat},i<=k->k<=ev.length->(∀(j:Nat) (o:h7),i<=j->j < k->ev[j]?=some o->o.dst≠some t)->look (E k) t=look (E i) t:=by
 intro k
 induction k with
 | zero => intro h1 _ _; have : i = 0 := by omega
           subst this;rfl
 | succ k ih=>
  intro h1 ah bJ;by_cases aoc:i=k+1
  . grind
  . have hk:k < ev.length:=by omega
    have c7:ev[k]?=some ev[k]:=CJ hk;rw[(ar.step k _ c7).2,NE,b' (bJ k _ (by omega) (by omega) c7)]
    grind
theorem aiD(ar:Wi xb P ev N E T G W){b:Nat}{i:Nat}:∀{k:Nat},i<=k->k<=ev.length->(∀j:Nat,i<=j->j < k->NK xb ev E N j b=false)->ec (T k) b=ec (T i) b:=by
 intro k
 induction k with
 | zero => intro h1 _ _; have : i = 0 := by omega
           subst this;rfl
 | succ k ih=>
  intro h1 ah bJ;by_cases aoc:i=k+1
  . grind
  . have hk:k < ev.length:=by omega
    have c7:ev[k]?=some ev[k]:=CJ hk;have hw:=bJ k (by omega) (by omega);unfold NK at hw;rw[c7]at hw;have:=((ar.step k _ c7).1.local (env':=E k) (J':=T k) (λ_ _=>rfl) (λ_ _=>rfl)).2 b hw
    grind
inductive OX (D:Nat->List Nat) (j:Nat):Nat->Prop
 | one {i:Nat} (h:j∈D i):OX D j i
 | step {e i:Nat} (h:OX D j e) (he:e∈D i):OX D j i
theorem OX.ready{D:Nat->List Nat}{n:Nat}{p:Nat->Bool}(ai:∀i d,i < n->d∈D i->d < i)(aJ9:∀e,e < n->p e=true->∀d,d∈D e->p d=true){j i:Nat}(h:OX D j i)(al:i < n)(a6:∀d,d∈D i->p d=true):p j=true:=by
 induction h with
 | one h=>exact a6 _ h
 | step h he ih=>grind
theorem OX.congr{D ap9:Nat->List Nat}{n:Nat}(ai:∀i d,i < n->d∈D i->d < i)(RX:∀i,i < n->D i=ap9 i){j i:Nat}(h:OX D j i)(al:i < n):OX ap9 j i:=by
 induction h with
 | one h=>exact .one (by rw[<-RX _ al];exact h)
 | step h he ih=>
  have:=ai _ _ al he;exact .step (ih (by omega)) (by rw[<-RX _ al];exact he)
theorem asi{D:Nat->List Nat}:∀{l:List (h7×List Nat)} {acc:List (List Nat)},(∀(k:Nat) x,l[k]?=some x->D (acc.length+k)=x.2)->(∀i j,j∈acc.getD i []->OX D j i)->∀i j,j∈(Ur l acc).getD i []->OX D j i
 | [],acc,_,ch,i,j,h=>ch i j h
 | x::r,acc,RX,ch,i,j,h=>by
  simp only[Ur]at h;refine asi (acc:=acc++[(x.2++x.2.flatMap λe=>acc.getD e []).eraseDups]) (λk y b8=>?_) (λi j dx=>?_) i j h
  . have:=RX (k+1) y (by simpa using b8)
    grind
  . rw[api,List.getElem?_append]at dx;split at dx
    . grind
    . rename_i al;cases hk:i - acc.length with
      | succ k=>rw[hk]at dx;simp at dx
      | zero=>
       rw[hk]at dx;have acL:i=acc.length:=by omega
       subst acL;have aa:D acc.length=x.2:=by simpa using RX 0 x rfl
       simp only[agA,SG,List.mem_eraseDups,Nx,apg]at dx;rcases dx with dx | ⟨e,he,dx⟩
       . exact .one (by rw[aa];exact dx)
       . exact .step (ch e j dx) (by rw[aa];exact he)
structure Stat (xb:List Nat) (ev:List h7) (D:Nat->List Nat) (E:Nat->Env) (N:Nat):Prop where
 back:∀i d,i < ev.length->d∈D i->d < i
 adj:∀(i j:Nat) (x y:h7) (d:Nat),ev[i]?=some x->ev[j]?=some y->y.dst=some d->(d∈x.rd->(j < i/\j∈D i)\/(x.op.neutral=true/\x.op.N5=false/\i < j/\i∈D j))/\(i=j\/x.dst≠some d)
 ord:∀i j b,i≠j->i < ev.length->j < ev.length->NK xb ev E N i b=true->((∃y:h7,ev[j]?=some y/\b∈y' xb y.op (E j) (N+16*j))\/NK xb ev E N j b=true)->(i < j/\OX D i j)\/(j < i/\OX D j i)
def used(N m:Nat)(listed:Array Bool):Nat->Bool:=λb=>lt N b || (List.range m).any λi=>listed.getD i false && (decide (N+16*i<=b) && decide (b < N+16*i+16))
structure Inv (xb:List Nat) (cv:Ctx) (nt:Nat) (ev:List h7) (D:Nat->List Nat) (N:Nat) (E:Nat->Env) (T:Nat->ep) (G:Nat->Bool) (W:Nat->V) (listed:Array Bool) (φ:q4) (S:r3) (env:Env) (J:ep) (a:Act) (w:World):Prop where
 rel:Rel cv nt φ S env J (used N ev.length listed) a w
 size:listed.size=ev.length
 down:∀i,i < ev.length->listed.getD i false=true->∀d,d∈D i->listed.getD d false=true
 vK:∀t,(∀(i:Nat) (o:h7),ev[i]?=some o->listed.getD i false=true->o.dst≠some t)->look env t=look (E 0) t
 e':∀t (i:Nat) (o:h7),ev[i]?=some o->listed.getD i false=true->o.dst=some t->look env t=some (G i,W i)
 aj9:∀b,(∀i,i < ev.length->listed.getD i false=true->NK xb ev E N i b=false)->ec J b=ec (T 0) b
 s1:∀b i,i < ev.length->listed.getD i false=true->NK xb ev E N i b=true->(∀j,j < ev.length->listed.getD j false=true->NK xb ev E N j b=true->j<=i)->ec J b=ec (T (i+1)) b
theorem RD{listed:Array Bool}{i j:Nat}(al:i < listed.size):(listed.setIfInBounds i true).getD j false=if j=i then true else listed.getD j false:=by
 by_cases h:j=i
 . simp_all
 . rw[b' h,getD_set_ne false (tJ h)]
theorem Inv.agree {listed:Array Bool} {D:Nat -> List Nat} {φ:q4} {S:r3} {env:Env} {J:ep} {a:Act} {w:World} (k5:Inv xb cv nt ev D N E T G W listed φ S env J a w) (st:Stat xb ev D E N) (ar:Wi xb P ev N E T G W)
 {i:Nat} {o:h7} (c7:ev[i]?=some o) (g':listed.getD i false=false) (a6:∀d,d∈D i->listed.getD d false=true):
 (∀t,t∈o.rd->look env t=look (E i) t)/\∀b,b∈y' xb o.op (E i) (N+16*i)\/lo xb o.op (E i) (N+16*i) b=true->ec J b=ec (T i) b:=by
 have al:i < ev.length:=(pJ.1 c7).1;refine⟨λt ht=>?_,λb ai=>?_⟩
 . by_cases hw:∃(j:Nat) (y:h7),ev[j]?=some y/\y.dst=some t
   . obtain⟨j,y,b8,G2⟩:=hw;rcases (st.adj i j o y t c7 b8 G2).1 ht with⟨h1,ah⟩ | ⟨_,_,h1,ah⟩
     . rw[k5.e' t j y b8 (a6 j ah) G2];have:look (E (j+1)) t=some (G j,W j):=by rw[(ar.step j y b8).2,NE,b6 G2]
       rw[<-this]
       symm
       refine abZ ar (by omega) (by omega) λk z LR Pg gA Q4=>?_
       rcases (st.adj k j z y t gA b8 G2).2 with h | h
       . omega
       . exact h Q4
     . have dx:j < ev.length:=(pJ.1 b8).1;have ajo:∀(k:Nat) (z:h7),ev[k]?=some z->z.dst=some t->k=j:=by
        intro k z gA Q4;rcases (st.adj k j z y t gA b8 G2).2 with h | h
        . exact h
        grind
       rw[k5.vK t λk z gA aJ Q4=>by
        have:=ajo k z gA Q4;subst this;have:=k5.down k dx aJ i ah
        grind]
       symm
       refine abZ ar (Pq _) (by omega) λk z _ hk gA Q4=>?_
       have:=ajo k z gA Q4;omega
   . have VU:∀(j:Nat) (y:h7),ev[j]?=some y->y.dst≠some t:=λj y b8 h=>hw ⟨j,y,b8,h⟩
     rw[k5.vK t λj y b8 _=>VU j y b8]
     symm
     exact abZ ar (Pq _) (by omega) λj y _ _ b8=>VU j y b8
 . have UI:∀j,j≠i->j < ev.length->NK xb ev E N j b=true->(j < i/\OX D j i)\/(i < j/\OX D i j):=by
    intro j dx VS afT;refine st.ord j i b dx VS al afT ?_;rcases ai with ai | ai
    . grind
    . exact .inr (by unfold NK;rw[c7];exact ai)
   have aJ:∀j,j < ev.length->listed.getD j false=true->NK xb ev E N j b=true->j < i:=by
    intro j VS ajl afT;have hv:j≠i:=by rintro rfl;rw[g']at ajl;cases ajl
    rcases UI j hv VS afT with h | h
    . exact h.1
    . have:=h.2.ready (p:=λk=>listed.getD k false) st.back k5.down VS (k5.down j VS ajl)
      grind
   have JH:∀j,j < i->NK xb ev E N j b=true->listed.getD j false=true:=by
    intro j R9 afT;rcases UI j (by omega) (by omega) afT with h | h
    . exact h.2.ready (p:=λk=>listed.getD k false) st.back k5.down al a6
    . omega
   by_cases hex:∃j,j < i/\NK xb ev E N j b=true
   . obtain⟨j,afQ,afR,afS⟩:=alL hex;rw[k5.s1 b j (by omega) (JH j afQ afR) afR (λk LR Pg aji=>afS k (aJ k LR Pg aji) aji)]
     symm
     refine aiD ar (by omega) (by omega) λk LR Pg=>?_
     cases aof:NK xb ev E N k b with
     | false=>rfl
     | true=>have:=afS k Pg aof;omega
   . have VU:∀j,j < i->NK xb ev E N j b=false:=by grind
     rw[k5.aj9 b λj VS ajl=>by grind]
     symm
     exact aiD ar (Pq _) (by omega) λj _ dx=>VU j dx
theorem aGx{m:Nat}{listed:Array Bool}{i b:Nat}(al:i < listed.size)(h:B' (used N m listed) (N+16*i) b=true)(Xq:i < m):used N m (listed.setIfInBounds i true) b=true:=by
 simp only[B',used,OT,ac',adb,kc,I2]at h ⊢;rcases h with(h | ⟨j,h1,ah,bJ⟩) | h
 . exact .inl h
 . exact .inr ⟨j,h1,by rw[RD al];split;rfl;exact ah,bJ⟩
 . exact .inr ⟨i,Xq,by rw[RD al,b6 rfl],h⟩
theorem ars{m:Nat}{listed:Array Bool}{i:Nat}(g':listed.getD i false=false){b:Nat}(h1:N+16*i<=b)(ah:b < N+16*i+16):used N m listed b=false:=by
 simp only[used,XG,ape,adb,kc,I2];refine⟨by simp[lt];omega,λj dx h=>?_⟩
 grind
theorem Inv.step {listed:Array Bool} {D:Nat -> List Nat} {φ hn:q4} {S hK:r3} {env:Env} {J gC:ep} {a pa:Act} {w w':World} (k5:Inv xb cv nt ev D N E T G W listed φ S env J a w) (st:Stat xb ev D E N) (ar:Wi xb P ev N E T G W)
 {i:Nat} {o:h7} (c7:ev[i]?=some o) (g':listed.getD i false=false) (a6:∀d,d∈D i->listed.getD d false=true)
 (kx:∀b,ec gC b=if lo xb o.op (E i) (N+16*i) b then ec (T (i+1)) b else ec J b)
 (R:Rel cv nt hn hK (zt env o.dst (G i) (W i)) gC (B' (used N ev.length listed) (N+16*i)) pa w'):
 Inv xb cv nt ev D N E T G W (listed.setIfInBounds i true) hn hK (zt env o.dst (G i) (W i)) gC pa w':=by
 have al:i < ev.length:=(pJ.1 c7).1;have MH:i < listed.size:=by rw[k5.size];exact al
 have ajw:∀b,NK xb ev E N i b=lo xb o.op (E i) (N+16*i) b:=λb=>by unfold NK;rw[c7]
 refine⟨R.more λb ai=>aGx MH ai al,by simp[k5.size],λj dx aJ d NW=>?_,λt ht=>?_,λt j y b8 aJ G2=>?_,λb ai=>?_,λb j dx aJ hw K5=>?_⟩
 . rw[RD MH]at aJ ⊢;split
   . rfl
   . split at aJ
     . rename_i e;subst e;exact a6 d NW
     . exact k5.down j dx aJ d NW
 . rw[NE,b' (ht i o c7 (by rw[RD MH,b6 rfl]))];exact k5.vK t λj y b8 aJ=>ht j y b8 (by rw[RD MH];split;rfl;exact aJ)
 . rw[NE];rw[RD MH]at aJ;by_cases R9:j=i
   . subst R9;rw[c7]at b8;cases b8;rw[b6 G2]
   . rw[b' R9]at aJ;rw[b' (λh=>?_)]
     . exact k5.e' t j y b8 aJ G2
     . rcases (st.adj i j o y t c7 b8 G2).2 with vc | vc
       . exact R9 vc.symm
       . exact vc h
 . rw[kx b];have UI:=ai i al (by rw[RD MH,b6 rfl]);rw[ajw]at UI;rw[UI];exact k5.aj9 b λj dx aJ=>ai j dx (by rw[RD MH];split;rfl;exact aJ)
 . rw[kx b];rw[RD MH]at aJ;by_cases UI:lo xb o.op (E i) (N+16*i) b=true
   . rw[b6 UI];have axn:i<=j:=K5 i al (by rw[RD MH,b6 rfl]) (by rw[ajw];exact UI);by_cases R9:j=i
     . subst R9;rfl
     ·
      exfalso
      rw[b' R9]at aJ;rcases st.ord i j b (tJ R9) al dx (by rw[ajw];exact UI) (.inr hw)with h | h
      . have:=h.2.ready (p:=λk=>listed.getD k false) st.back k5.down dx (k5.down j dx aJ);rw[g']at this;cases this
      . omega
   . rw[b' UI];by_cases R9:j=i
     . subst R9;rw[ajw]at hw;exact absurd hw UI
     . rw[b' R9]at aJ;exact k5.s1 b j dx aJ hw λk hk Jy aLd=>K5 k hk (by rw[RD MH];split;rfl;exact Jy) aLd
theorem Inv.done {listed:Array Bool} {D:Nat -> List Nat} {φ:q4} {S:r3} {env:Env} {J:ep} {a:Act} {w:World} (k5:Inv xb cv nt ev D N E T G W listed φ S env J a w) (st:Stat xb ev D E N) (ar:Wi xb P ev N E T G W)
 (ny:∀i,i < ev.length->listed.getD i false=true):Rel cv nt φ S (E ev.length) (T ev.length) (lt (N+16*ev.length)) a w:=by
 refine((k5.rel.aA7 λt=>?_).congr λb=>?_).more λb ai=>?_
 . by_cases hw:∃(j:Nat) (y:h7),ev[j]?=some y/\y.dst=some t
   . obtain⟨j,y,b8,G2⟩:=hw;have dx:j < ev.length:=(pJ.1 b8).1;rw[k5.e' t j y b8 (ny j dx) G2];have:look (E (j+1)) t=some (G j,W j):=by rw[(ar.step j y b8).2,NE,b6 G2]
     rw[<-this];refine abZ ar (by omega) (JA _) λk z LR Pg gA Q4=>?_
     rcases (st.adj k j z y t gA b8 G2).2 with h | h
     . omega
     . exact h Q4
   . have VU:∀(j:Nat) (y:h7),ev[j]?=some y->y.dst≠some t:=λj y b8 h=>hw ⟨j,y,b8,h⟩
     rw[k5.vK t λj y b8 _=>VU j y b8];exact abZ ar (Pq _) (JA _) λj y _ _ b8=>VU j y b8
 . by_cases hex:∃j,j < ev.length/\NK xb ev E N j b=true
   . obtain⟨j,afQ,afR,afS⟩:=alL hex;rw[k5.s1 b j afQ (ny j afQ) afR (λk LR _ aji=>afS k LR aji)];refine aiD ar (by omega) (JA _) λk LR Pg=>?_
     cases aof:NK xb ev E N k b with
     | false=>rfl
     | true=>have:=afS k Pg aof;omega
   . have VU:∀j,j < ev.length->NK xb ev E N j b=false:=by grind
     rw[k5.aj9 b λj VS _=>VU j VS];exact aiD ar (Pq _) (JA _) λj _ dx=>VU j dx
 . simp only[used,lt,OT,ac',adb,kc,I2]at ai ⊢;rcases ai with h | ⟨j,h1,ah,bJ,ea⟩
   . omega
   . omega
theorem aDr {D:Nat -> List Nat} (st:Stat xb ev D E N) (ar:Wi xb P ev N E T G W) (hres:O1 P nt ops ops.toList=some ev) (RX:∀(i:Nat) o,ops[i]?=some o -> D i=MO o) {Q:Exit -> Act -> World -> Prop}
 (v':∀φ S a w,Rel cv nt φ S (E ev.length) (T ev.length) (lt (N+16*ev.length)) a w->Q .normal a w):
 ∀(fuel:Nat) (listed:Array Bool) φ S env J a w,listed.toList.countP (· ==false)<=fuel->Inv xb cv nt ev D N E T G W listed φ S env J a w->wpAny P .any ops Q fuel listed a w:=by
 have hlen:=adZ hres;simp at hlen;have aox:∀(listed:Array Bool) (φ:q4) (S:r3) (env:Env) (J:ep) (a:Act) (w:World),Inv xb cv nt ev D N E T G W listed φ S env J a w->Region.ready .any ops listed=[]->∀i,i < ev.length->listed.getD i false=true:=by
  intro listed φ S env J a w k5 M3 i
  induction i using Nat.strongRecOn with
  | _ i ih=>
   intro al;cases aJ:listed.getD i false with
   | true=>rfl
   | false=>
    exfalso
    have aaz:i < ops.size:=by omega
    have c7:ops[i]?=some ops[i]:=ajR aaz;have:i∈Region.ready .any ops listed:=by
     rw[mem_ready];refine⟨?_,ops[i],c7,λe he ai=>?_⟩
     . have MH:i < listed.size:=by rw[k5.size];exact al
       grind
     . have a6:e.on∈D i:=by
        rw[RX i _ c7];simp only[MO,LV,ags]
        grind
       exact ih e.on (st.back i _ al a6) (by have:=st.back i _ al a6;omega)
    grind
 have axb:∀(listed:Array Bool) (φ:q4) (S:r3) (env:Env) (J:ep) (a:Act) (w:World),Inv xb cv nt ev D N E T G W listed φ S env J a w->Region.ready .any ops listed=[]->Q .normal a w:=by
  intro listed φ S env J a w k5 M3;exact v' φ S a w (k5.done st ar (aox listed φ S env J a w k5 M3))
 intro fuel
 induction fuel with
 | zero=>
  intro listed φ S env J a w ay k5;have ny:∀i,i < ev.length->listed.getD i false=true:=by
   intro i al;have MH:i < listed.size:=by rw[k5.size];exact al
   cases aJ:listed.getD i false with
   | true=>rfl
   | false=>
    exfalso
    have h0:listed.toList.countP (· ==false)=0:=by omega
    rw[List.countP_eq_zero]at h0;simp[MH]at aJ;exact h0 listed[i] (by simp) (by simp[aJ])
  have M3:Region.ready .any ops listed=[]:=by
   rw[ax9];intro i al;rw[mem_ready]at al
   grind
  exact⟨M3,axb listed φ S env J a w k5 M3⟩
 | succ fuel ih=>
  intro listed φ S env J a w ay k5;refine⟨axb listed φ S env J a w k5,λi al=>?_⟩;rw[mem_ready]at al;obtain⟨h1,o,c7,aJ7⟩:=al;have aaz:i < ops.size:=(agx.1 c7).1;have Xq:i < ev.length:=by omega
  have MH:i < listed.size:=by rw[k5.size];exact Xq
  have g':listed.getD i false=false:=by simp[MH]at h1 ⊢;exact h1
  obtain⟨qy,O',ajr⟩:=als hres (i:=i) (o:=o) (by simpa using c7);have a6:∀d,d∈D i->listed.getD d false=true:=by
   intro d a6;rw[RX i o c7]at a6;simp only[MO,LV,ags]at a6
   grind
  obtain⟨anS,Xl⟩:=k5.agree st ar O' g' a6;obtain⟨⟨gC,hs,kx⟩,_⟩:=(ar.step i qy O').1.local (env':=env) (J':=J) anS Xl;have NZ:=ahp k5.rel (key:=N+16*i) (λb J4 JE=>ars g' J4 JE) ajr (K:=λe s=>e=zt env qy.dst (G i) (W i)/\s=gC) (hs.MC ⟨rfl,rfl⟩) (Q:=Q)
  have next:∀pa w',P2 cv nt (B' (used N ev.length listed) (N+16*i)) (λe s=>e=zt env qy.dst (G i) (W i)/\s=gC) pa w'->wpAny P .any ops Q fuel (listed.setIfInBounds i true) pa w':=by
   rintro pa w' ⟨hn,hK,e,s,⟨rfl,rfl⟩,R'⟩
   refine ih _ hn hK _ _ pa w' ?_ (k5.step st ar O' g' a6 kx R');have:listed.toList[i]?=some false:=by simp[MH]at g' ⊢;exact g'
   grind
  unfold wpOp;rw[c7];dsimp only;split at NZ
  . rename_i hw;rw[b6 hw];exact .inl (Oper.wp_mono next NZ)
  . rename_i hw;rw[b' hw];exact next _ _ NZ
end
end
end Go.Proofs.YtijpinendaoleaaGreat.Shv
