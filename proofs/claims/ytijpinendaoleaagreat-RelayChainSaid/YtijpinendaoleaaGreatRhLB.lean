/- The library of this proof, part B: an abstract machine for the code of the program, and its soundness. -/
import Derived.Lib.UnsafeStr
import Derived.Orders
import Derived.LoopN
import Derived.Test.YtijpinendaoleaaGreatRhLA

namespace Go.Proofs.YtijpinendaoleaaGreat.Shv
set_option linter.all false
section
open Go
theorem C.YR(c:C):c.c' (λ_=>true)=true:=by cases c <;> simp[C.c']
section
variable {P:Program} {c9:Ctx} {nt kk:Nat} {φ:vt} {S ik:y0} {env:Env} {J:fu} {N key:Nat} {n:Nat->Bool} {a:Act} {w w':World}
theorem Rel.extend(R:Rel c9 nt φ S env J n a w)(e:Ext (λ_=>False) S ik w w')(u':∀b j,ik b j->b < w'.heap.size):Rel c9 nt φ ik env J n a w':=by
 have ai:∀b:Nat,b < w.heap.size->w'.heap[b]?=w.heap[b]?:=λb al=>e.block b al (λh=>h)
 have JP:∀b x,e1 J b=some x->(φ b).2≠0->∀j,¬ik (φ b).1 j:=by
  intro b x ad h0 j c7;have E1:=R.h'.blk b x ad;rcases e.ad' _ _ c7 with h | h | h
  . exact E1.ab2 h0 j h
  . exact h
  . have:=E1.Vq h0;omega
 refine⟨⟨λb x ad=>?_,R.h'.inj,u'⟩,λk g v a6 b9=>?_,R.PK,R.Oq,R.HJ,R.size,R.defers,?_,R.own,R.fix,R.Nu⟩
 . have E1:=R.h'.blk b x ad;cases x with
   | box cs=>
    obtain⟨h0,vs,E,h1,ah,b'⟩:=E1;refine⟨h0,vs,E,(ai _ (XA h1)).trans h1,ah.imp λc v b7 ar=>ho.mono (n:=λ_=>true) e.mono (λ_ _=>rfl) (C.YR _) ar,JP b _ ad h0⟩
   | arr sz es=>
    obtain⟨h1,ah,b',ea,hf⟩:=E1;refine⟨h1,ah,b',ea,λh0=>?_⟩;obtain⟨vs,E,hg,hv,h3,oo⟩:=hf h0;exact⟨vs,E,(ai _ (XA hg)).trans hg,hv,λi j sK t he ht=>let⟨v,cv,ar⟩:=h3 i j sK t he ht;⟨v,cv,k1.mono e.mono ar⟩,JP b _ ad h0⟩
   | set ks=>
    obtain⟨h0,⟨es,c,h1,ah⟩,b'⟩:=E1;exact⟨h0,⟨es,c,(ai _ (XA h1)).trans h1,ah⟩,JP b _ ad h0⟩
   | buf E s=>
    obtain⟨h1,ah,b'⟩:=E1;refine⟨h1,ah,λh0=>?_⟩
    grind
   | kn E c=>
    obtain⟨h0,⟨p,v,h1,ah,b'⟩,ea⟩:=E1;exact⟨h0,⟨p,v,(ai _ (XA h1)).trans h1,ah,ho.mono (n:=λ_=>true) e.mono (λ_ _=>rfl) (C.YR _) b'⟩,JP b _ ad h0⟩
   | nJ sz es i o c=>
    obtain⟨⟨h1,ah,b',ea,hf,tJ⟩,⟨vs,E,hg,hv,h3,v,oo,u2⟩,s3⟩:=E1;exact⟨⟨h1,ah,b',ea,hf,tJ⟩,⟨vs,E,(ai _ (XA hg)).trans hg,hv,λi j sK t he ht dy=>let⟨v,cv,ar⟩:=h3 i j sK t he ht dy;⟨v,cv,k1.mono e.mono ar⟩,v,oo,ho.mono (n:=λ_=>true) e.mono (λ_ _=>rfl) (C.YR _) u2⟩,JP b _ ad (by omega)⟩
 . obtain⟨x,ad,ar⟩:=R.Ot k g v a6 b9;exact⟨x,ad,k'.mono e.mono (λ_ _=>rfl) (R.Oq k g v a6 b9) ar⟩
 . refine⟨e.os.trans R.ext.os,e.tape.trans R.ext.tape,e.output.trans R.ext.output,RD R.ext.size e.size,λb ec E1=>?_,R.ext.mono.trans e.mono,λb j c7=>?_⟩
   . exact(ai b (Ya ec R.ext.size)).trans (R.ext.block b ec E1)
   . rcases e.ad' _ _ c7 with h | h | h
     . exact R.ext.ad' b j h
     . exact h.elim
     . exact .inr (.inr (RD R.ext.size h))
theorem aRz (R:Rel c9 nt φ S env J n a w) {o:Oper} {ty:TypeId} {len:Nat} {parts:Array (Nat×Operand)} (c8:o.op= .buildSlice ty len parts) {e:TypeId} (rJ:P.underlying ty=some (.slice e)) {sz:Nat} (h6:JR P e=some sz)
 {z:List C} (ga:Ww P e=some z) {ps:List (Nat×er)} (JH:abd parts.toList=some ps) (h0:sz≠0) (LF:z.length=sz) (hle:len*sz<=2 ^ 24)
 {p v J'} (hk:n key=false) (h:ep (.bsliceT e sz len z ps) env J key=some (p,v,J')) (bo:p):Good P c9 nt env J' (ins n key) a v ((execOp a.eval o).run P w):=by
 simp only[ep,hC,gC,hO]at h;obtain⟨Qw,Wa,⟨q,ds⟩,al,rfl,rfl,rfl⟩:=h;obtain⟨i,La,ay,Wb,oj,NV⟩:=ahn (φ:=φ) (w:=w) (S:=S) (n:=n) ga;have QS:=afq Wa oj;have ayx:La.cells.size=sz:=by rw[<-adX,<-oj.length,LF]
 have adH:0 < sz:=by omega
 have a0N:Qw.length=sz:=by rw[akF Wa,LF]
 obtain ⟨us, h1, ah, b', ea, hf, _⟩ := auI R adH JH al bo (es := List.replicate len Qw) (vs := ((Array.range (len * sz)).map (La.cells[· % La.cells.size]!)).toList) (by
  grind) (by simp) (by
  intro i j e t he ht;have ay:=(sb.1 he).1;simp at ay;have:e=Qw:=by
   have:=JX he;exact ash this
  subst this;have c7:=(sb.1 ht).1;obtain⟨x,ad,ar⟩:=QS.get ht;refine⟨x,?_,ar⟩;rw[ayU,aDN ayx adH i j ay (by omega)]
  simpa using ad)
 simp at b';have ar2:us.length=len*sz:=by rw[ea];simp
 have hlen:len<=KJ:=by
  have:len<=len*sz:=ayQ len adH;unfold KJ;omega
 have u':∀b j,S b j->b < w.heap.size:=R.h'.st;have m0:N7 w S (w.alloc (.cells us.toArray e)) (λb j=>S b j\/b=w.heap.size):=⟨λ_ _ h=>.inl h,λb j h=>acM (aqe (u' b j h)) j⟩
 have aMI:Ext (λ_=>False) S (λb j=>S b j\/b=w.heap.size) w (w.alloc (.cells us.toArray e)):=
  ⟨rfl,rfl,rfl,by simp,λb al _=>aqe al,m0,λb j h=>by grind⟩
 have k2:=R.extend aMI (λb j h=>by
  rcases h with h | h
  . have:=u' b j h;simp;omega
  simp_all)
 refine⟨.slice (some ⟨w.heap.size,0,none⟩) len len,φ,_,_,.inl ?_,?_,rfl,k2.more λ_ h=>VP h⟩
 . have KR:Instr.fill (λi=>some (i*sz,sz)) ((Array.range (len*sz)).map (La.cells[· % La.cells.size]!)) ((parts.map λ(i,x)=>(i,a.eval x)).toList)=some us.toArray:=by
    rw[Array.toList_map];exact h1
   have ar:=aCQ (P:=P) (w:=w) rJ h6 ay Wb h0 hle rfl KR;simp only[execOp,c8,Sem.run_bind,ar,Result.andThen_ok];rfl
 . refine .c ?_;have V7:ds.length=len:=b';show k1 _ _ (.slice ds) _;rw[<-V7]at hlen ⊢;have x':∀j,(w.alloc (.cells us.toArray e)).cell? ⟨w.heap.size,j,none⟩=us[j]?:=λj=>Tn aaO j
   refine k1.slice ds _ _ sz w.heap.size 0 (λi j=>(us[i*sz+j]?).getD undef) (JK _) hlen ah (λ_=>rfl) (λi j ay c7=>⟨.inr rfl,?_⟩) (λi j sK t he ht=>?_)
   . rw[NI,x'];have ec:i*sz+j < us.length:=by
      have:=K0 sz (show i+1<=ds.length from ay)
      grind
     rw[J9 ec];rfl
   . obtain⟨v,cv,ar⟩:=hf i j sK t he ht;rw[cv];exact k1.mono m0 ar
theorem aQo{ty:TypeId}{e8:Nat}(h:akB P ty=some e8):∃i z,P.info? ty=some i/\i.zero=some z/\z.cells=#[.pointer none,.slice none 0 0]:=by
 unfold akB at h;by_cases b7:aFV P ty=true/\awt P ty=true
 . obtain⟨_,b7⟩:=b7;unfold awt at b7;cases ga:(P.info? ty).bind (·.zero)with
   | none=>rw[ga]at b7;cases b7
   | some z=>
    rw[ga]at b7;simp only[hC]at ga;obtain⟨i,ay,ga⟩:=ga;refine⟨i,z,ay,ga,?_⟩;dsimp only at b7;unfold aDJ at b7
    grind
 grind
theorem aRm (R:Rel c9 nt φ S env J n a w) {o:Oper} {ty:TypeId} (c8:o.op= .alloc ty) {e8:Nat} (axG:akB P ty=some e8)
 {p v J'} (hk:n key=false) (Oy:n (key+1)=false) (h:ep (.allocS ty e8) env J key=some (p,v,J')) (bo:p):Good P c9 nt env J' (ins (ins n (key+1)) key) a v ((execOp a.eval o).run P w):=by
 simp only[ep,hQ,hO]at h;obtain⟨rfl,rfl,rfl⟩:=h;obtain⟨i,z,ay,ga,agk⟩:=aQo axG;have adD:∀j,¬S w.heap.size j:=λj h=>by have:=R.h'.st _ _ h;omega
 have k2:=(R.alloc (.cells #[.pointer none,.slice none 0 0] ty)).Ut Oy (x:= .buf e8 []) (0,0) rfl (by simp[r2,ze]) (by simp);have Uj:ins n (key+1) key=false:=by simp[ins,hk]
 have C0:=k2.Ut Uj (x:= .kn ty (.pq (key+1) 0)) (w.heap.size,1) (by simp[h2.c',C.c',ins]) (by
  simp only[r2,ze];refine⟨by simp,⟨.pointer none,.slice none 0 0,aaO,.inl rfl,?_⟩,adD⟩
  simp[ho,M7]) (λ_=>⟨λk y bJ h0=>by
   rw[q6]at bJ;split at bJ
   . rename_i e;subst e;simp[ze]at h0
   . rename_i hG;have Jj:(φ k).2≠0:=by simpa[M7,EI hG]using h0
     have:=(R.h'.blk k y bJ).Vq Jj;simp only[M7,EI hG,uJ]
     omega,.inr R.ext.size⟩)
 refine⟨.pointer (some ⟨w.heap.size,0,none⟩),_,S,_,.inl ?_,.c ?_,by simp[V.c',C.c',ins],C0⟩
 . simp[execOp,c8,Instr.alloc,zeroValue,typeInfo,ay,ga,newVar,newRow,agk]
 . simp[ho,ze]
theorem aEg{t:TypeId}(h:afb P t=true):∃k v i,P.underlying t=some (.map k v)/\P.underlying k=some .string/\P.info? v=some i/\i.zero=some (.bool false):=by
 unfold afb at h;split at h
 . rename_i k v hu;simp only[k0]at h;obtain⟨h1,ah⟩:=h;split at h1
   . rename_i hk cv;split at ah
     . rename_i ga;simp only[hC]at ga
       grind
     . cases ah
   . cases h1
 . cases h
theorem aTc (R:Rel c9 nt φ S env J n a w) {o:Oper} {t:TypeId} (c8:o.op= .makeMap t none)
 {p v J'} (hk:n key=false) (h:ep .mkset env J key=some (p,v,J')) (bo:p):Good P c9 nt env J' (ins n key) a v ((execOp a.eval o).run P w):=by
 simp only[ep,hQ,hO]at h;obtain⟨rfl,rfl,rfl⟩:=h;have adD:∀j,¬S w.heap.size j:=λj h=>by have:=R.h'.st _ _ h;omega
 have C0:=(R.alloc (.map #[] 0)).Ut hk (x:= .set []) (w.heap.size,1) rfl (by
  simp only[r2,ze]
  exact⟨by simp,⟨[],0,aaO,.nil⟩,adD⟩) (λ_=>⟨λk y bJ h0=>by
   have:=(R.h'.blk k y bJ).Vq h0
   omega,.inr R.ext.size⟩)
 refine⟨.map (some w.heap.size),_,S,_,.inl ?_,.c ?_,by simp[V.c',C.c',ins],C0⟩
 . simp[execOp,c8,Instr.makeMap]
 . simp[ho,ze]
theorem aRn{s:ByteArray}{k:List UInt8}:(s==(⟨k.toArray⟩:ByteArray))=decide (k=s.data.toList):=by
 rw[beq_toListBytes,ByteArray.toList_eq,ByteArray.toList_eq]
 grind
theorem atZ(s:ByteArray):∀{ks:List (List UInt8)} {es:List MapEntry} (i:Nat),aow ks es ->
 (SI ks s.data.toList=false/\Instr.findNow .string (.string s) es i=some none)\/
 (SI ks s.data.toList=true/\∃j e,Instr.findNow .string (.string s) es i=some (some (i+j,.bool true))/\es[j]?=some e/\e.key= .string s/\e.val= .bool true)
 | _,_,i,.nil=>.inl ⟨rfl,rfl⟩
 | k::ks,e::es,i,.cons h ar=>by
  obtain⟨h1,ah⟩:=h;have al:(s==(⟨k.toArray⟩:ByteArray))=decide (k=s.data.toList):=aRn;by_cases Pe:k=s.data.toList
  . refine .inr ⟨by simp[SI,Pe],0,e,?_,rfl,?_,ah⟩
    . rw[show decide (k=s.data.toList)=true by simp[Pe]]at al;simp only[Instr.findNow,h1,Instr.sameNow,al,ah,Yf]
    simp_all
  . rcases atZ s (i+1) ar with⟨g1,g2⟩ | ⟨g1,j,sK,g2,g3,g4,g5⟩
    . refine .inl ⟨by simpa[SI,Pe]using g1,?_⟩;rw[show decide (k=s.data.toList)=false by simp[Pe]]at al;simp only[Instr.findNow,h1,Instr.sameNow,al];exact g2
    . refine .inr ⟨by simpa[SI,Pe]using g1,j+1,sK,?_,by simpa using g3,g4,g5⟩;rw[show decide (k=s.data.toList)=false by simp[Pe]]at al;simp only[Instr.findNow,h1,Instr.sameNow,al]
      grind
theorem apL{adM:TypeId}(hk:P.underlying adM=some .string){s:ByteArray}{es:List MapEntry}{r:Option (Nat×Value)}(h:Instr.findNow .string (.string s) es 0=some r)(w:World):(Instr.findKey adM (.string s) es).run P w= .ok r w:=by
 unfold Instr.findKey;simp only[Sem.run_bind,run_underlying hk,Result.andThen_ok,h,Sem.run_pure]
theorem apC{adM:TypeId}(hk:P.underlying adM=some .string){s:ByteArray}(b:Bool)(w:World):(Instr.checkKey b 10000 adM (.string s)).run P w= .ok () w:=by
 show(Instr.checkKey b (9999+1) adM (.string s)).run P w= .ok () w;unfold Instr.checkKey;simp only[Sem.run_bind,run_underlying hk,Result.andThen_ok,Sem.run_pure]
theorem aps{b:Nat}{es:Array MapEntry}{c:Nat}(h:w.heap[b]?=some (.map es c)):(getObj b).run P w= .ok (.map es c) w:=by simp[getObj,Sem.run,h]
theorem aE'{b:Nat}{es:Array MapEntry}{c:Nat}(o:Obj)(h:w.heap[b]?=some (.map es c)):(setObj b o).run P w= .ok () {w with heap:=w.heap.setIfInBounds b o}:=by
 simp[setObj,Sem.run,h]
theorem aTd (R:Rel c9 nt φ S env J n a w) {o:Oper} {t:TypeId} {x k:Operand} (c8:o.op= .lookup t x k false) (ht:afb P t=true) {hD al0:er} (ad:hT x=some hD) (k6:hT k=some al0)
 {p v J'} (hk:n key=false) (h:ep (.lkset hD al0) env J key=some (p,v,J')) (bo:p):Good P c9 nt env J' (ins n key) a v ((execOp a.eval o).run P w):=by
 simp only[ep,hC]at h;obtain⟨⟨KT,K4⟩,k3,⟨a1z,a2y⟩,axY,he⟩:=h;simp only at he;obtain⟨adM,aMz,i,hu,abQ,ay,ga⟩:=aEg ht;split at he
 . rename_i b s;split at he
   . rename_i ks l1;simp only[hQ,hO]at he;obtain⟨rfl,rfl,rfl⟩:=he;have h1:a.eval x= .map (some (φ b).1):=(ni R ad k3 bo.1).1.Ji;obtain⟨bs,ah,rfl,_⟩:=k'.Vt (ni R k6 axY bo.2).1;obtain⟨h0,⟨es,afJ,ai,JV⟩,JP⟩:=R.h'.blk _ _ l1;refine Good.pure R (x:= .bool (SI ks bs.data.toList)) ?_ (.afF _) rfl
     have QS:(zeroValue aMz).run P w= .ok (.bool false) w:=by simp[zeroValue,typeInfo,ay,ga]
     have cJ:=atZ bs 0 JV;rcases cJ with⟨g1,g2⟩ | ⟨g1,j,e,g2,_⟩
     . simp[execOp,c8,h1,ah,Instr.lookup,run_underlying hu,aps ai,apC abQ,apL abQ g2,QS,g1]
     . simp[execOp,c8,h1,ah,Instr.lookup,run_underlying hu,aps ai,apC abQ,apL abQ g2,g1]
   . cases he
 . cases he
theorem aTY{ks:List (List UInt8)}{es:List MapEntry}(h:aow ks es)(s:ByteArray)(afJ:Nat):aow (ks++[s.data.toList]) (es++[{key:= .string s,val:= .bool true,born:=afJ}]):=
 h.append (.cons ⟨by cases s;simp,rfl⟩ .nil)
theorem f'.modify{α β:Type}{R:α->β->Prop}{f:β->β}:∀{l:List α} {m:List β} {j:Nat},f' R l m->(∀a b,R a b->m[j]?=some b->R a (f b))->f' R l (m.modify j f)
 | _,_,_,.nil,_=>by simpa using f'.nil
 | _,_,0,.cons h ar,k=>.cons (k _ _ h rfl) ar
 | _,_,j+1,.cons h ar,k=>by
  simp only[List.modify_succ_cons];exact .cons h (f'.modify ar λa b JC al=>k a b JC (by simpa using al))
theorem aSr (R:Rel c9 nt φ S env J n a w) {o:Oper} {t:TypeId} {x k v0:Operand} (c8:o.op= .mapUpdate t x k v0) (ht:afb P t=true) (ri:atX v0=true) {hD al0:er} (ad:hT x=some hD) (k6:hT k=some al0)
 {p v J'} (hk:n key=false) (h:ep (.upset hD al0) env J key=some (p,v,J')) (bo:p):Good P c9 nt env J' (ins n key) a v ((execOp a.eval o).run P w):=by
 simp only[ep,hC]at h;obtain⟨⟨KT,K4⟩,k3,⟨a1z,a2y⟩,axY,he⟩:=h;simp only at he;obtain⟨adM,aMz,i,hu,abQ,ay,ga⟩:=aEg ht;have X8:a.eval v0= .bool true:=by
  unfold atX at ri;split at ri
  . rfl
  . cases ri
 split at he
 . rename_i b s;split at he
   . rename_i ks l1;simp only[hQ,hO]at he;obtain⟨rfl,rfl,rfl⟩:=he;have h1:a.eval x= .map (some (φ b).1):=(ni R ad k3 bo.1).1.Ji;obtain⟨bs,ah,rfl,_⟩:=k'.Vt (ni R k6 axY bo.2).1;obtain⟨h0,⟨es,afJ,ai,JV⟩,JP⟩:=R.h'.blk _ _ l1;have ec:=XA ai
     have a02:∃es' auS,(execOp a.eval o).run P w= .ok .skip {w with heap:=w.heap.setIfInBounds (φ b).1 (.map es' auS)}/\aow (Sr ks bs.data.toList) es'.toList:=by
      have cJ:=atZ bs 0 JV;rcases cJ with⟨g1,g2⟩ | ⟨g1,j,e,g2,g3,g4,g5⟩
      . refine⟨es.toArray.push {key:= .string bs,val:= .bool true,born:=afJ},afJ+1,?_,?_⟩
        . simp[execOp,c8,h1,ah,X8,Instr.mapUpdate,run_underlying hu,aps ai,apC abQ,apL abQ g2,aE' _ ai]
        . simp only[Sr,g1,q2,uJ,List.push_toArray,Array.toList_push]
          simpa using aTY JV bs afJ
      . refine⟨es.toArray.modify j λe=>{e with key:= .string bs,val:= .bool true},afJ,?_,?_⟩
        . have Jd:Instr.sameBits 10000 (Value.string bs) (Value.string bs)=true:=by
           show Instr.sameBits (9999+1) _ _=true;simp only[Instr.sameBits];rw[beq_toListBytes];simp
          have Pe:∀w,(Instr.keyThatStays (Value.string bs) (Value.string bs)).run P w= .ok (Value.string bs) w:=by intro w;unfold Instr.keyThatStays;rw[Jd];rfl
          rw[NI]at g2;simp[execOp,c8,h1,ah,X8,Instr.mapUpdate,run_underlying hu,aps ai,apC abQ,apL abQ g2,aE' _ ai,g3,g4,Pe]
        . simp only[Sr,g1,qb];rw[Array.toList_modify];refine f'.modify JV λka sK a3t L0=>?_
          grind
     obtain⟨es',auS,C',aZK⟩:=a02;refine⟨undef,φ,S,_,.inr ⟨C',rfl⟩,.undef,rfl,Rel.more ?_ λ_ h=>VP h⟩;refine R.rewrite l1 h0 rfl rfl rfl rfl (by simp) (λhq Oe=>by simp[aK0,EI Oe]) (λm=>?_);exact⟨h0,⟨es'.toList,auS,by simp[ec],aZK⟩,JP⟩
   . cases he
 . cases he
theorem aRX {st K' e:TypeId} {i:TypeInfo} {La:Value} (u':P.underlying st=some (.slice e)) (KX:P.underlying K'=some .string) (ay:P.info? e=some i) (ga:i.zero=some La) (adI:La.cells.size=i.size)
 {base:Option Addr} {sl sc Je:Nat} {y:Value} {xs B':List Value} (L8:(Builtin.lenOf y).run P w= .ok Je w)
 (ad:(Builtin.firstCells i.size sl (.slice base sl sc)).run P w.drew= .ok xs.toArray w.drew) (bJ:(Builtin.firstCells i.size Je y).run P w.drew= .ok B'.toArray w.drew)
 (MN:sc < sl+Je) (SJ:(2*(sl+Je)+192)*i.bytes<=Qy) (NX:sl+Je<=KJ) {tt:TypeId}:
 ∃(N1:Nat) (r:List Value),sl+Je<=N1/\r.length=(N1 - (sl+Je))*i.size/\
  (Builtin.append_ #[st,K'] tt #[.slice base sl sc,y]).run P w= .ok (.slice (some ⟨w.heap.size,0,none⟩) (sl+Je) N1) (w.drew.alloc (.cells (xs++B'++r).toArray e)):=by
 have af':∀w,(sizeOf e).run P w= .ok i.size w:=λw=>by simp[sizeOf,typeInfo,ay]
 have abP:∀w,(typeInfo e).run P w= .ok i w:=λw=>by simp[typeInfo,ay]
 have hzero:∀w,(zeroValue e).run P w= .ok La w:=λw=>by simp[zeroValue,abP,ga]
 generalize ani:(Question.appendCap (sl+Je) sc e).cut (w.tape w.drawn (Question.appendCap (sl+Je) sc e))=N1;have aye:sl+Je<=N1:=by rw[<-ani];simp[Question.cut]
 have h1:¬(sl+Je<=sc):=by omega
 have ah:¬(((sl+Je:Nat):Int) > IntKind.i64.max/\(False\/i.bytes=0)):=by intro h;have:=h.1;simp[IntKind.max,IntKind.signed,IntKind.bits]at this;unfold KJ at NX;omega
 have b':¬(Builtin.nextslicecap (sl+Je) sc*i.bytes > 2 ^ 48):=by
  have:=K0 i.bytes (aDf MN);unfold Qy at SJ;omega
 refine⟨N1,(Builtin.zeroCells La.cells (N1 - (sl+Je))).toList,aye,by simp[aCR,adI],?_⟩;have axS:(choose (.appendCap (sl+Je) sc e)).run P w= .ok N1 w.drew:=by rw[run_choose];simp only[Question.forced,q2,uJ,ani];rfl
 have eh:(xs++B'++(Builtin.zeroCells La.cells (N1 - (sl+Je))).toList).toArray=xs.toArray++B'.toArray++Builtin.zeroCells La.cells (N1 - (sl+Je)):=by grind
 rw[eh];unfold Builtin.append_;simp only[asl,aoc,asi,Sem.run_bind,run_underlying u',run_underlying KX,Result.andThen_ok,af',Sem.run_pure,q2,uJ,L8,aJ h1,abP];rw[aJ (by simpa using ah)];simp only[Sem.run_bind,Sem.run_pure,Result.andThen_ok,abP];rw[aJ b']
 simp only[Sem.run_bind,Sem.run_pure,Result.andThen_ok,abP,axS,run_askRoom,ad,bJ,hzero,Uw,qb];simp only[newRow,Sem.run_bind,run_newObj,Result.andThen_ok,Sem.run_pure];rfl
theorem aC8 {st K' e:TypeId} {i:TypeInfo} (u':P.underlying st=some (.slice e)) (KX:P.underlying K'=some .string) (ay:P.info? e=some i)
 {base:Option Addr} {sl sc Je:Nat} {y:Value} {B':List Value} (L8:(Builtin.lenOf y).run P w= .ok Je w) (bJ:(Builtin.firstCells i.size Je y).run P w= .ok B'.toArray w) (MN:sl+Je<=sc) {w':World}
 (hs:∀kc,base=some kc->(storeCells (kc.add (sl*i.size)) B' 0).run P w= .ok () w') (al:base=none->w'=w) {tt:TypeId}:
  (Builtin.append_ #[st,K'] tt #[.slice base sl sc,y]).run P w= .ok (.slice base (sl+Je) sc) w':=by
 have af':∀w,(sizeOf e).run P w= .ok i.size w:=λw=>by simp[sizeOf,typeInfo,ay]
 unfold Builtin.append_;simp only[asl,aoc,asi,Sem.run_bind,run_underlying u',run_underlying KX,Result.andThen_ok,af',Sem.run_pure,q2,uJ,L8,ao MN,bJ,Uw,qb];cases base with
 | none=>rw[al rfl];rfl
 | some kc=>
  simp only[Sem.run_bind,hs kc rfl,Result.andThen_ok];rfl
theorem aRt(w:World)(bs:ByteArray):(Builtin.firstCells 1 bs.size (.string bs)).run P w= .ok (bs.data.toList.map λb=>Value.int .u8 b.toNat).toArray w:=by
 have e:(bs.extract 0 bs.size).data=bs.data:=by simp_all
 simp only[Builtin.firstCells,e,Sem.run_pure]
 congr 1
 grind
theorem aRo(l:List UInt8):∀x,x∈(l.map λb=>Value.int .u8 b.toNat)->x.oneCell'=true:=by
 intro x ad;simp only[Lp]at ad;obtain⟨b,_,rfl⟩:=ad;rfl
theorem aRA (R:Rel c9 nt φ S env J n a w) {o:Oper} {x y:Operand} {st K' e:TypeId} (c8:o.op= .call {callee:= .builtin .append,args:=#[x,y],argTypes:=#[st,K']})
 (u':P.underlying st=some (.slice e)) (KX:P.underlying K'=some .string) {i:TypeInfo} (ay:P.info? e=some i) (PT:i.size=1) (ga:(i.zero.map (·.cells.size))=some 1)
 {hD Ja:er} (ad:hT x=some hD) (bJ:hT y=some Ja)
 {p v J'} (hk:n key=false) (h:ep (.appendB e i.bytes hD Ja) env J key=some (p,v,J')) (bo:p):Good P c9 nt env J' (ins n key) a v ((execOp a.eval o).run P w):=by
 simp only[ep,hC]at h;obtain⟨⟨KT,K4⟩,k3,⟨Yh,Yk⟩,M3,he⟩:=h;simp only at he;simp only[gC]at ga;obtain⟨La,Wb,adI⟩:=ga;have C':∀r w',(Builtin.append_ #[st,K'] o.type #[a.eval x,a.eval y]).run P w= .ok r w'->(execOp a.eval o).run P w= .ok (.value r) w':=by
  intro r w' ar;simp[execOp,c8,Go.resolve,invoke,builtin,ar]
 have adD:∀b,w.heap.size<=b->∀j,¬S b j:=λb al j dx=>by have:=R.h'.st _ _ dx;omega
 split at he
 . rename_i b len s;split at he
   . rename_i sK es l1;simp only[hQ,hO]at he;obtain⟨rfl,rfl,rfl⟩:=he;obtain⟨Jk,E',rfl,rfl,SJ,NX⟩:=bo;obtain⟨hle,Nr,hg⟩:=(ni R ad k3 Jk).1.Ji;obtain⟨bs,QN,rfl,_⟩:=k'.Vt (ni R bJ M3 E').1;have Y2:bs.data.toList.length=bs.size:=by rw[<-acT]
     have Rj:=R.h'.blk _ _ l1;obtain⟨g1,g2,g3⟩:=Rj;have L8:∀w,(Builtin.lenOf (a.eval y)).run P w= .ok bs.size w:=by intro w;simp[QN,Builtin.lenOf]
     have SS:∀w,(Builtin.firstCells i.size bs.size (a.eval y)).run P w= .ok (bs.data.toList.map λb=>Value.int .u8 b.toNat).toArray w:=by intro w;rw[QN,PT];exact aRt w bs
     by_cases MN:es.length+bs.size<=(φ b).2
     . by_cases ri:(φ b).2=0
       . have Rn:es=[]:=Uu (by omega);have Z8:bs.data.toList=[]:=Uu (by omega);have LU:=Nr ri;have ar:=aC8 (P:=P) (w:=w) (tt:=o.type) u' KX ay (base:=none) (sl:=0) (sc:=0) (L8 w) (SS w) (by omega) (w':=w) (λkc Xg=>by cases Xg) (λ_=>rfl);rw[<-LU]at ar
         have R':=(R.del b).Ut hk (x:= .buf sK (es++bs.data.toList)) (0,0) rfl (by rw[Z8,Rn];simp only[r2,ze];exact⟨by simp,by simp,by simp⟩) (by simp);refine⟨_,_,S,w,.inl (C' _ _ ar),.c ?_,by simp[V.c',C.c',ins],R'⟩;rw[Z8,Rn];have arG:bs.size=0:=by omega
         refine⟨by simp,λ_=>?_,λh=>?_⟩
         . rw[arG]
         . simp[ze]at h
       . obtain⟨⟨vs,ai,PU,abV⟩,JP⟩:=g3 ri;have LU:=hg ri;have Z':es.length+(bs.data.toList.map λb=>Value.int .u8 b.toNat).length<=vs.length:=by simp only[SZ,Y2,PU];exact MN
         obtain⟨w',Ru,s4,qi,JY,Xs,aLl,a1B⟩:=ZH (P:=P) (bs.data.toList.map λb=>Value.int .u8 b.toNat) es.length 0 vs w ai (by omega) (aRo _);rw[Yf]at aLl
         have ar:=aC8 (P:=P) (w:=w) (tt:=o.type) u' KX ay (base:=some ⟨(φ b).1,0,none⟩) (sl:=es.length) (sc:=(φ b).2) (L8 w) (SS w) MN (w':=w') (λkc Xg=>by
          cases Xg;have Qk:Addr.add ⟨(φ b).1,0,none⟩ (es.length*i.size)=⟨(φ b).1,es.length,none⟩:=by rw[PT,Nat.mul_one];unfold Addr.add;split <;> simp_all
          grind) (λal=>by cases al)
         rw[<-LU]at ar
         have k2:=(R.del b).world (w':=w') (λk=>k=(φ b).1) s4 qi JY (ajl Xs.symm) (λk _ hk=>a1B k hk) (λk hk=>by
          subst hk;refine⟨JP,λk y bJ hk=>?_,R.own b _ l1 ri⟩;rw[Nb]at bJ;split at bJ
          . cases bJ
          . rename_i hG
            exactλe=>R.h'.inj k b y _ bJ l1 (EI hG) hk ri e)
         have C0:=k2.Ut hk (x:= .buf sK (es++bs.data.toList)) (φ b) rfl (by
          simp only[r2,ze];refine⟨by simp[Y2];omega,by rw[vx];exact NX,λ_=>⟨⟨_,aLl,by rw[aaS Z'];exact PU,?_⟩,JP⟩⟩;intro ny c b7;rw[YB Z']
          grind) (λ_=>⟨λk y bJ hk=>by
           rw[Nb]at bJ;split at bJ
           . cases bJ
           . rename_i hG
             exact R.h'.inj k b y _ bJ l1 (EI hG) hk ri,R.own b _ l1 ri⟩)
         refine⟨_,_,S,w',.inl (C' _ _ ar),.c ?_,by simp[V.c',C.c',ins],C0⟩;refine⟨by simp[ze,Y2];omega,λh=>?_,λ_=>?_⟩
         . simp[ze,ri]at h
         . simp[ze,Y2]
     . have k2:=R.drew;have Y1:∃base,a.eval x= .slice base es.length (φ b).2/\∃xs:List Value,(Builtin.firstCells i.size es.length (.slice base es.length (φ b).2)).run P w.drew= .ok xs.toArray w.drew/\xs.length=es.length/\∀(i:Nat) c,es[i]?=some c->xs[i]?=some (.int .u8 (UInt8.toNat c)):=by
        by_cases ri:(φ b).2=0
        . have Rn:es=[]:=Uu (by omega);subst Rn;exact⟨none,by rw[Nr ri,ri];rfl,[],by simp[Builtin.firstCells],rfl,by simp⟩
        . obtain⟨⟨vs,ai,PU,abV⟩,JP⟩:=g3 ri;refine⟨_,hg ri,vs.take es.length,?_,by simp;omega,λj c b7=>?_⟩
          . rw[PT];show(loadCells ⟨(φ b).1,0,none⟩ (es.length*1)).run P w.drew=_;rw[Nat.mul_one];refine akU (by simp;omega) (λj c7=>?_);rw[NI,Xn,ao c7];exact Tn (w:=w.drew) ai j
          grind
       obtain⟨base,LU,xs,ai6,TL,Xj⟩:=Y1;obtain⟨N1,r,h1,ah,ar⟩:=aRX (P:=P) (w:=w) (tt:=o.type) u' KX ay Wb (by rw[adI,PT]) (L8 w) ai6 (SS w.drew) (by omega) (by rw[Y2]at SJ;exact SJ) (by rw[Y2]at NX;exact NX);rw[<-LU]at ar;have C0:=(k2.del b).alloc (.cells (xs++(bs.data.toList.map λb=>Value.int .u8 b.toNat)++r).toArray sK)
       have ZY:=C0.Ut hk (x:= .buf sK (es++bs.data.toList)) (w.heap.size,N1) rfl (by
        simp only[r2,ze];refine⟨by simp[Y2];omega,by rw[vx];exact NX,λ_=>⟨⟨_,aaO,?_,?_⟩,adD _ (JK _)⟩⟩
        . grind
        grind) (λ_ => ⟨λk y bJ h0 => by
         rw[Nb]at bJ;split at bJ
         . cases bJ
         . have:=(R.h'.blk k y bJ).Vq h0
           simp;omega,.inr R.ext.size⟩)
       refine⟨_,_,S,_,.inl (C' _ _ ar),.c ?_,by simp[V.c',C.c',ins],ZY⟩;refine⟨by simp[ze,Y2];omega,λh=>?_,λ_=>?_⟩
       . simp[ze]at h;omega
       . simp[ze,Y2]
   . cases he
 . cases he
theorem aSs (R:Rel c9 nt φ S env J n a w) {o:Oper} {x:Operand} {t:TypeId} (c8:o.op= .call {callee:= .builtin .unsafeSliceData,args:=#[x],argTypes:=#[t]}) {hD:er} (ad:hT x=some hD)
 {p v J'} (hk:n key=false) (h:ep (.sdata hD) env J key=some (p,v,J')) (bo:p):Good P c9 nt env J' (ins n key) a v ((execOp a.eval o).run P w):=by
 simp only[ep,hC]at h;obtain⟨⟨KT,K4⟩,k3,he⟩:=h;simp only at he;split at he
 . rename_i b len;simp only[hQ,hO]at he;obtain⟨rfl,rfl,rfl⟩:=he;have b9:=ni R ad k3 bo;obtain⟨hle,Nr,hg⟩:=b9.1.Ji;by_cases h0:(φ b).2=0
   . refine Good.pure R (x:= .pointer none) ?_ (.c ⟨none,rfl,λh=>absurd h0 h⟩) (by simpa[V.c',C.c']using b9.2);simp[execOp,c8,Go.resolve,invoke,builtin,Nr h0,Go.Lib.run_unsafeSliceData_nil]
   . refine Good.pure R (x:= .pointer (some ⟨(φ b).1,0,none⟩)) ?_ (.c ⟨_,rfl,λ_=>rfl⟩) (by simpa[V.c',C.c']using b9.2);simp[execOp,c8,Go.resolve,invoke,builtin,hg h0,Go.Lib.run_unsafeSliceData_row _ _ _ _ _ _ h0]
 . cases he
theorem aSt{b m:Nat}{kc:Addr}(al:b≠kc.block):(w.freeze kc m).heap[b]?=w.heap[b]?:=by
 unfold World.freeze
 grind
theorem aRp(kc:Addr)(m:Nat):(w.freeze kc m).os=w.os/\(w.freeze kc m).tape=w.tape/\(w.freeze kc m).output=w.output/\(w.freeze kc m).heap.size=w.heap.size:=by
 unfold World.freeze
 grind
theorem aTZ (R:Rel c9 nt φ S env J n a w) {o:Oper} {x y:Operand} {o1 it e:TypeId} (c8:o.op= .call {callee:= .builtin .unsafeString,args:=#[x,y],argTypes:=#[o1,it]})
 (a0l:P.underlying o1=some (.pointer e)) (aZw:P.cellsOf e=1) {hD Ja:er} (ad:hT x=some hD) (bJ:hT y=some Ja)
 {p v J'} (hk:n key=false) (h:ep (.ustr e hD Ja) env J key=some (p,v,J')) (bo:p):Good P c9 nt env J' (ins n key) a v ((execOp a.eval o).run P w):=by
 simp only[ep,hC]at h;obtain⟨⟨KT,K4⟩,k3,⟨Yh,Yk⟩,M3,he⟩:=h;simp only at he;split at he
 . rename_i b m;split at he
   . rename_i sK es l1;simp only[hQ,hO]at he;obtain⟨rfl,rfl,rfl⟩:=he;obtain⟨Jk,E',rfl,rfl⟩:=bo;obtain⟨pp,h1,a0k⟩:=(ni R ad k3 Jk).1.Ji;have ah:a.eval y= .int .i64 es.length:=(ni R bJ M3 E').1.NY;have Rj:=R.h'.blk _ _ l1;obtain⟨g1,g2,g3⟩:=Rj;have aKr:∀w',k1 w' S (.str es) (.string ⟨es.toArray⟩):=by
      intro w';have:=k1.str (w:=w') (S:=S) (⟨es.toArray⟩:ByteArray) (by rw[<-acT];unfold KJ at g2;unfold Lh;simp;omega);omega
     have C':∀r w',(Builtin.unsafeString_ #[o1,it] o.type #[a.eval x,a.eval y]).run P w= .ok r w'->(execOp a.eval o).run P w= .ok (.value r) w':=by
      intro r w' ar;simp[execOp,c8,Go.resolve,invoke,builtin,ar]
     by_cases hG:es=[]
     . subst hG;refine⟨.string ⟨#[]⟩,φ,S,w,.inl (C' _ _ ?_),.c (aKr w),rfl,(R.del b).more λ_ h=>VP h⟩;rw[h1,ah];exact Go.Lib.run_unsafeString_none w o1 it o.type pp
     . have Rt:0 < es.length:=agy.2 hG;have ri:(φ b).2≠0:=by omega
       obtain⟨⟨vs,ai,PU,abV⟩,JP⟩:=g3 ri;have ayr:w.shape? (φ b).1=some (sK,vs.length):=by simp[World.shape?,ai]
       have ar:=Go.Lib.run_unsafeString_row (P:=P) w o1 it o.type sK a0l aZw (φ b).1 vs.length ayr es hG (by omega) (by unfold KJ at g2;omega) (λj c b7=>by
        have Qk:Addr.add ⟨(φ b).1,0,none⟩ j=⟨(φ b).1,j,none⟩:=by unfold Addr.add;split <;> simp_all
        rw[Qk,Tn ai];exact abV j c b7)
       obtain⟨s4,qi,JY,Xs⟩:=aRp (w:=w) ⟨(φ b).1,0,none⟩ es.length
       have k2:=(R.del b).world (w':=w.freeze ⟨(φ b).1,0,none⟩ es.length) (λk=>k=(φ b).1) s4 qi JY (ajl Xs.symm) (λk _ hk=>aSt hk) (λk hk=>by
        subst hk;refine⟨JP,λk y bJ hk=>?_,R.own b _ l1 ri⟩;rw[Nb]at bJ;split at bJ
        . cases bJ
        . rename_i hG
          exactλe=>R.h'.inj k b y _ bJ l1 (EI hG) hk ri e)
       refine⟨.string ⟨es.toArray⟩,φ,S,_,.inl (C' _ _ ?_),.c (aKr _),rfl,k2.more λ_ h=>VP h⟩;rw[h1,a0k ri,ah];exact ar
   . cases he
 . cases he
end
section
variable {P:Program} {c9:Ctx} {nt:Nat} {φ:vt} {S:y0} {env:Env} {J:fu} {n:Nat->Bool} {key:Nat} {a:Act} {w:World}
theorem ah7{α:Type}{x:Array α}{a b:α}(h:x.toList=[a,b]):x=#[a,b]:=by grind
theorem aqn{α:Type}{x:Array α}{a:α}(h:x.toList=[a]):x=#[a]:=by grind
theorem aT0 (R:Rel c9 nt φ S env J n a w) {o:Oper} {c:Call} (c8:o.op= .call c) {tw:py} (ar:Yz P c=some tw)
 {p v J'} (hk:n key=false) (h:ep tw env J key=some (p,v,J')) (bo:p):Good P c9 nt env J' (ins n key) a v ((execOp a.eval o).run P w):=by
 obtain⟨callee,args,argTypes⟩:=c;unfold Yz at ar;split at ar
 . rename_i b7;split at ar
   . rename_i x t ad ht;simp only at b7 ad ht;have ad:=aqn ad;have ht:=aqn ht;subst b7;subst ad;subst ht;split at ar
     . rename_i hu;simp only[gC]at ar;obtain⟨hD,U9,rfl⟩:=ar;exact aFY (str:=true) R c8 (by simpa using hu) U9 hk h bo
     . rename_i e hu;simp only[gC]at ar;obtain⟨hD,U9,rfl⟩:=ar;exact aFY (str:=false) R c8 (by simpa using⟨e,hu⟩) U9 hk h bo
     . cases ar
   . cases ar
 . rename_i b7;split at ar
   . rename_i x y t u ad ht;simp only at b7 ad ht;have ad:=ah7 ad;have ht:=ah7 ht;subst b7;subst ad;subst ht;split at ar
     . rename_i e hu anu;simp only[hC,A',hQ]at ar;obtain⟨i,ay,hD,U9,Ja,abJ,⟨h1,ah,b'⟩,rfl⟩:=ar;exact aRA R c8 hu anu ay h1 ah U9 abJ hk h bo
     . rename_i e sK hu anu;simp only[hC,A',hQ]at ar;obtain⟨i,ay,hD,U9,Ja,abJ,⟨h1,ah⟩,rfl⟩:=ar;exact aRR R c8 hu anu ay h1 ah U9 abJ hk h bo
     . cases ar
   . cases ar
 . rename_i b7;split at ar
   . rename_i x y ad;simp only at b7 ad;have ad:=ah7 ad;subst b7;subst ad;simp only[hC,gC]at ar;obtain⟨hD,U9,Ja,abJ,rfl⟩:=ar;exact aSl R c8 U9 abJ hk h bo
   . cases ar
 . rename_i b7;split at ar
   . rename_i x y ad;simp only at b7 ad;have ad:=ah7 ad;subst b7;subst ad;simp only[hC,gC]at ar;obtain⟨hD,U9,Ja,abJ,rfl⟩:=ar;exact aSm R c8 U9 abJ hk h bo
   . cases ar
 . rename_i b7;split at ar
   . rename_i x t ad ht;simp only at b7 ad ht;have ad:=aqn ad;have ht:=aqn ht;subst b7;subst ad;subst ht;split at ar
     . simp only[A',gC]at ar;obtain⟨_,hD,U9,rfl⟩:=ar;exact aSs R c8 U9 hk h bo
     . cases ar
   . cases ar
 . rename_i b7;split at ar
   . rename_i x y t u ad ht;simp only at b7 ad ht;have ad:=ah7 ad;have ht:=ah7 ht;subst b7;subst ad;subst ht;split at ar
     . rename_i e hu;simp only[A',hC,gC]at ar;obtain⟨⟨_,_,b'⟩,hD,U9,Ja,abJ,rfl⟩:=ar;exact aTZ R c8 hu b' U9 abJ hk h bo
     . cases ar
   . cases ar
 . split at ar
   . simp only[gC]at ar;obtain⟨l,a6,rfl⟩:=ar;simp[ep]at h
   . cases ar
 . simp only[gC]at ar;obtain⟨l,a6,rfl⟩:=ar;simp[ep]at h
 . cases ar
theorem Good.mono{v:V}{J':fu}{I0 D':Nat->Bool}(h:∀b,I0 b=true->D' b=true){r:Result Next}(g:Good P c9 nt env J' I0 a v r):Good P c9 nt env J' D' a v r:=by
 obtain⟨x,hK,ik,w',h1,ah,b',R'⟩:=g;exact⟨x,hK,ik,w',h1,ah,V.O5 h b',R'.more h⟩
theorem aSu (R:Rel c9 nt φ S env J n a w) {o:Oper} {tw:py} (ar:s' P o.op=some tw)
 (JP:∀e e8,tw≠.allocS e e8) {p v J'} (hk:n key=false) (h:ep tw env J key=some (p,v,J')) (bo:p):Good P c9 nt env J' (ins n key) a v ((execOp a.eval o).run P w):=by
 generalize s0:o.op=op at ar;cases op with
 | move x=>simp only[s',gC]at ar;obtain⟨hD,ad,rfl⟩:=ar;exact aFW R (.inl s0) ad hk h bo
 | assign x=>simp only[s',gC]at ar;obtain⟨hD,ad,rfl⟩:=ar;exact aFW R (.inr s0) ad hk h bo
 | pick c x y=>
  simp only[s',hC,gC]at ar;obtain⟨ac,b7,hD,ad,Ja,bJ,rfl⟩:=ar;exact aSh R s0 b7 ad bJ hk h bo
 | alloc e=>
  simp only[s']at ar;split at ar
  . cases ar;exact absurd rfl (JP _ _)
  . simp only[hC]at ar;obtain⟨cs,y1,ar⟩:=ar;split at ar
    . split at ar
      . rename_i b7;cases ar;exact aRl R s0 y1 (by omega) (by omega) hk h bo
      . cases ar;exact aDM R s0 y1 hk h bo
    . cases ar;exact aDM R s0 y1 hk h bo
 | box e x=>simp only[s',gC]at ar;obtain⟨hD,ad,rfl⟩:=ar;exact aUR R s0 ad hk h bo
 | build t parts=>
  simp only[s']at ar;split at ar
  . rename_i fs Y4;simp only[A',hC,gC]at ar;obtain⟨h1,z,ga,ps,JH,rfl⟩:=ar;exact aTa R s0 Y4 h1 ga JH hk h bo
  . simp only[hC,gC]at ar;rename_i len e hu;obtain⟨z,ga,m,hm,ps,JH,rfl⟩:=ar;exact aSg R s0 hu hm ga JH hk h bo
  . cases ar
 | buildSlice t len parts=>
  simp only[s']at ar;split at ar
  . rename_i e hu;simp only[hC,A',hQ]at ar;obtain⟨m,hm,z,ga,ps,JH,⟨h1,ah,b'⟩,rfl⟩:=ar;exact aRQ R s0 hu hm ga JH h1 ah b' hk h bo
  . cases ar
 | load t x=>
  simp only[s',hC,gC]at ar;obtain⟨g,b9,hD,ad,rfl⟩:=ar;exact aTO R s0 b9 ad hk h bo
 | store t x y=>
  simp only[s',hC,gC]at ar;obtain⟨m,hm,hD,ad,Ja,bJ,rfl⟩:=ar;exact aS' R s0 hm ad bJ hk h bo
 | nilCheck x=>simp only[s',gC]at ar;obtain⟨hD,ad,rfl⟩:=ar;exact aSf R s0 ad hk h bo
 | binOp op t x y K'=>
  simp only[s']at ar;split at ar
  . rename_i aKd;split at ar
    . simp only[hC,gC]at ar;obtain⟨ks,Pe,hD,ad,Ja,bJ,rfl⟩:=ar;exact aS9 R s0 aKd Pe ad bJ hk h bo
    . simp only[A',gC]at ar;obtain⟨_,hD,ad,rfl⟩:=ar;simp[ep]at h
    . rename_i hu;simp only[hC,gC]at ar;obtain⟨hD,ad,Ja,bJ,rfl⟩:=ar;exact aRO R s0 aKd hu ad bJ hk h bo
    . simp only[hC,gC]at ar;obtain⟨hD,ad,Ja,bJ,rfl⟩:=ar;exact awG R s0 ad bJ hk h bo
    . simp only[hC,gC]at ar;obtain⟨hD,ad,Ja,bJ,rfl⟩:=ar;exact awG R s0 ad bJ hk h bo
    . cases ar
  . simp only[hC,gC]at ar;obtain⟨hD,ad,Ja,bJ,rfl⟩:=ar;exact awG R s0 ad bJ hk h bo
 | unOp u t x=>
  cases u <;> simp only[s',gC,reduceCtorEq]at ar
  . split at ar
    . simp only[gC]at ar;obtain⟨hD,ad,rfl⟩:=ar;exact aUI R s0 ad hk h bo
    . cases ar
  . split at ar
    . simp only[gC]at ar;obtain⟨hD,ad,rfl⟩:=ar;exact aUJ R s0 ad hk h bo
    . cases ar
  . obtain⟨hD,ad,rfl⟩:=ar;exact aUH R s0 ad hk h bo
 | convert s d x=>
  simp only[s']at ar;split at ar
  . rename_i hs a7;simp only[gC]at ar;obtain⟨hD,ad,rfl⟩:=ar;exact aSj R s0 hs a7 ad hk h bo
  . rename_i hs a7;simp only[gC]at ar;obtain⟨hD,ad,rfl⟩:=ar;exact aUK R s0 hs a7 ad hk h bo
  . rename_i hs a7;simp only[gC]at ar;obtain⟨hD,ad,rfl⟩:=ar;exact aUL R s0 hs a7 ad hk h bo
  . rename_i e hs a7;simp only[A',gC]at ar;obtain⟨⟨he,h6⟩,hD,ad,rfl⟩:=ar;have L0:P.underlying e=some (.int .u8):=by grind
    exact aUT R s0 hs L0 a7 ad hk h bo
  . cases ar
 | fieldAddr t x f=>
  simp only[s']at ar;split at ar
  . rename_i fs Y4;simp only[hC,asv,gC]at ar;obtain⟨fd,cJ,m,hm,V',hD,ad,rfl⟩:=ar;exact aSk R s0 Y4 cJ hm V' ad hk h bo
  . cases ar
 | field t x f=>
  simp only[s']at ar;split at ar
  . rename_i fs Y4;simp only[hC,gC]at ar;obtain⟨fd,cJ,g,b9,hD,ad,rfl⟩:=ar;obtain⟨h1,ah,b'⟩:=aE6 b9;exact aUM R s0 Y4 cJ ah h1 b' ad hk h bo
  . cases ar
 | indexAddr t x i=>
  simp only[s']at ar;split at ar
  . rename_i e hu;simp only[hC,asv,gC]at ar;obtain⟨m,hm,V',hD,ad,WX,ay,rfl⟩:=ar;exact aSn R s0 hu hm V' ad ay hk h bo
  . rename_i k e hu;split at ar
    . simp only[A',hC,gC]at ar;obtain⟨h0,s,hs,hD,ad,rfl⟩:=ar;exact aTU R s0 hu h0 hs ad hk h bo
    . simp only[A',hC,gC]at ar;obtain⟨h6,hD,ad,WX,ay,rfl⟩:=ar;exact aTT R s0 hu h6 ad ay hk h bo
  . cases ar
 | index t x i=>
  simp only[s']at ar;split at ar
  . rename_i hu;simp only[hC,gC]at ar;obtain⟨hD,ad,WX,ay,rfl⟩:=ar;exact aSo R s0 hu ad ay hk h bo
  . cases ar
 | slice t x hi ay asa=>
  simp only[s']at ar;split at ar
  . rename_i hu;simp only[A',hC,gC,Option.isNone_iff_eq_none]at ar;obtain⟨rfl,hD,ad,Ss,a6,YK,ai,rfl⟩:=ar;exact aSq R s0 hu ad a6 ai hk h bo
  . rename_i e hu;split at ar
    . simp only[hC,asv,gC]at ar;obtain⟨m,hm,V',hD,ad,Ss,a6,YK,ai,rfl⟩:=ar;exact aUO R s0 hu hm ad a6 ai hk h bo
    . split at ar
      . simp only[A',gC]at ar;obtain⟨h0,hD,ad,rfl⟩:=ar;obtain⟨m,hm⟩:=aob.1 h0;exact aTN R s0 hu hm ad hk h bo
      . cases ar
    . cases ar
  . rename_i k e hu;simp only[A',hC,gC,Option.isNone_iff_eq_none]at ar;obtain⟨⟨rfl,h6⟩,hD,ad,Ss,a6,YK,ai,rfl⟩:=ar;exact aTV R s0 hu h6 ad a6 ai hk h bo
  . cases ar
 | makeFunc fn first caps=>
  cases fn <;> simp only[s',A',gC,reduceCtorEq]at ar
  obtain⟨h1,Ss,a6,rfl⟩:=ar;have:first=#[]:=by simpa using h1
  subst this;exact aSp R s0 a6 hk h bo
 | extract x i=>simp only[s',gC]at ar;obtain⟨hD,ad,rfl⟩:=ar;exact aUN R s0 ad hk h bo
 | makeMap t r=>
  cases r with
  | some _=>simp[s']at ar
  | none=>
   simp only[s',A',hQ]at ar;obtain⟨_,rfl⟩:=ar;exact aTc R s0 hk h bo
 | lookup t x i c=>
  cases c with
  | true=>simp[s']at ar
  | false=>
   simp only[s',A',hC,gC]at ar;obtain⟨ht,hD,ad,WX,ay,rfl⟩:=ar;exact aTd R s0 ht ad ay hk h bo
 | mapUpdate t m k v0=>
  simp only[s',A',hC,gC]at ar;obtain⟨⟨ht,ri⟩,hD,ad,WX,ay,rfl⟩:=ar;exact aSr R s0 ht ri ad ay hk h bo
 | call c=>simp only[s']at ar;exact aT0 R s0 ar hk h bo
 | _=>simp[s']at ar
def JI(n:Nat->Bool)(k:Nat):Nat->Bool:=λb=>n b || (decide (k<=b) && decide (b < k+16))
theorem XH{b:Nat}(h:n b=true):JI n key b=true:=by simp[JI,h]
theorem aGR{b:Nat}(h:ins n key b=true):JI n key b=true:=by
 simp only[ins,Qp,RF]at h;simp only[JI,Qp,k0,ye]
 grind
theorem aCT{Ri:Bool}{op:Op}{tw:py}(h:ahq P Ri op=some tw):s' P op=some tw\/∃t len parts e m z ps,op= .buildSlice t len parts/\P.underlying t=some (.slice e)/\JR P e=some m/\Ww P e=some z/\abd parts.toList=some ps/\m≠0/\z.length=m/\len*m<=2 ^ 24/\tw= .bsliceT e m len z ps:=by
 unfold ahq at h;split at h
 . split at h
   . rename_i e hu;simp only[hC,A',hQ]at h
     grind
   . cases h
 grind
theorem aQp{op:Op}{e e8:Nat}(h:s' P op=some (.allocS e e8)):op= .alloc e/\akB P e=some e8:=by
 cases op with
 | alloc sK=>
  simp only[s']at h;split at h
  . rename_i al;cases h;exact⟨rfl,al⟩
  . simp only[hC]at h;obtain⟨cs,y1,h⟩:=h;split at h
    . split at h <;> cases h
    . cases h
 | buildSlice t len parts=>
  simp only[s']at h;split at h
  . simp only[hC,A',hQ]at h;obtain⟨m,hm,z,ga,ps,JH,_,h⟩:=h;cases h
  . cases h
 | build t parts=>
  simp only[s']at h;split at h
  . simp only[A',hC,gC]at h;obtain⟨h1,z,ga,ps,JH,h⟩:=h;cases h
  . simp only[hC,gC]at h;obtain⟨z,ga,m,hm,ps,JH,h⟩:=h;cases h
  . cases h
 | call c=>
  simp only[s']at h;unfold Yz at h
  repeat' (first | (split at h) | (cases h;done))
  all_goals (try (cases h;done))
  all_goals simp only[hC,gC,A',hQ,reduceCtorEq,Wh,Zg,ajn]at h
 | binOp op t x y K'=>
  simp only[s']at h
  repeat' (first | (split at h) | (cases h;done))
  all_goals (try (cases h;done))
  all_goals simp only[hC,gC,A',hQ,reduceCtorEq,Wh,Zg,ajn]at h
 | unOp u t x=>
  cases u <;> simp only[s']at h
  all_goals repeat' (first | (split at h) | (cases h;done))
  all_goals (try (cases h;done))
  all_goals simp only[hC,gC,A',hQ,reduceCtorEq,Wh,Zg,ajn]at h
 | makeMap t r=>cases r <;> simp only[s',reduceCtorEq,A',hQ,Wh]at h
 | lookup t x i c=>cases c <;> simp only[s',reduceCtorEq,A',hC,gC,Wh,Zg]at h
 | makeFunc fn first caps=>cases fn <;> simp only[s',A',gC,reduceCtorEq,Wh,Zg]at h
 | convert s d x=>
  simp only[s']at h
  repeat' (first | (split at h) | (cases h;done))
  all_goals (try (cases h;done))
  all_goals simp only[hC,gC,A',hQ,reduceCtorEq,Wh,Zg,ajn]at h
 | _=>
  simp only[s']at h
  try repeat' (first | (split at h) | (cases h;done))
  all_goals (try (cases h;done))
  all_goals simp only[hC,gC,A',asv,hQ,reduceCtorEq,Wh,Zg,ajn]at h
theorem aT1 (R:Rel c9 nt φ S env J n a w) {o:Oper} {tw:py} {Ri:Bool} (ar:ahq P Ri o.op=some tw)
 {p v J'} (dy:∀b,key<=b->b < key+16->n b=false) (h:ep tw env J key=some (p,v,J')) (bo:p):Good P c9 nt env J' (JI n key) a v ((execOp a.eval o).run P w):=by
 have hk:n key=false:=dy key (JK _) (by omega);rcases aCT ar with ar | ⟨t,len,parts,e,m,z,ps,s0,hu,hm,ga,JH,h1,ah,b',rfl⟩
 . by_cases hs:∃e e8,tw= .allocS e e8
   . obtain⟨e,e8,rfl⟩:=hs;obtain⟨s0,axG⟩:=aQp ar;refine(aRm R s0 axG hk (dy _ (by omega) (by omega)) h bo).mono λb al=>?_
     simp only[ins,Qp,RF]at al;simp only[JI,Qp,k0,ye];rcases al with(al | al) | al
     . exact .inl al
     . exact .inr ⟨by omega,by omega⟩
     . exact .inr ⟨by omega,by omega⟩
   . exact(aSu R ar (λe e8 he=>hs ⟨e,e8,he⟩) hk h bo).mono λb al=>aGR al
 . exact(aRz R s0 hu hm ga JH h1 ah b' hk h bo).mono λb al=>aGR al
end
def Pv(P:Program)(f:Nat)(args:List V)(J:fu)(key:Nat)(K:V->fu->Prop):Prop:=
 ∀c9 nt φ S env n a w,Rel c9 nt φ S env J n a w->(∀b,key<=b->b < key+16->n b=false)->V.c'.V.Is n args=true->∀vs:List Value,f' (k' φ w S) args vs->
  Calls P f vs.toArray w λe w'=>∃v r hK ik J',e= .returned v/\K r J'/\k' hK w' ik r v/\r.c' (JI n key)=true/\Rel c9 nt hK ik env J' (JI n key) a w'
theorem Pv.mono{P:Program}{f:Nat}{args:List V}{J:fu}{key:Nat}{K aAv:V->fu->Prop}(h:Pv P f args J key K)(hk:∀r J',K r J'->aAv r J'):Pv P f args J key aAv:=
 λc9 nt φ S env n a w R dy al vs cv=>(h c9 nt φ S env n a w R dy al vs cv).mono λe w' ⟨v,r,hK,ik,J',h1,ah,b'⟩=>⟨v,r,hK,ik,J',h1,hk _ _ ah,b'⟩
def Nc(env:Env):Option (Nat×Bool)->Option Bool
 | none=>some true
 | some (t,b)=>match look env t with
  | some (g,.c (.t (.bool x)))=>some (g && (x==b))
  | _=>none
def JB(env:Env)(dst:Option Nat)(g:Bool)(v:V):Env:=
 match dst with
 | none=>env
 | some d=>(d,g,v)::env
def afG(b:Bool):V:= .c (.t (.bool b))
def O4(P:Program)(o:kx)(key:Nat)(env:Env)(J:fu)(K:Env->fu->Prop):Prop:=
 match Nc env o.guard with
 | none=>False
 | some g=>(g=false/\∃v,K (JB env o.dst g v) J)\/
  match o.op with
  | .call f args=>match O7 env args with
   | some (p,vs)=>match o.guard with
    | none=>p/\Pv P f vs J key (λr J'=>K (JB env o.dst true r) J')
    | some _=>(g=true/\p/\Pv P f vs J key (λr J'=>K (JB env o.dst true r) J'))\/∃r,(g=true->p/\Pv P f vs J key (λI1 J'=>I1=r/\J'=J))/\K (JB env o.dst g r) J
   | none=>False
  | .Re x args=>match x.get env,O7 env args with
   | some (q,.c (.fn f caps)),some (p,vs)=>o.guard=none/\PE P f=true/\q/\p/\Pv P f (vs++caps.map (λb=>V.c (.ptr b 0))) J key (λr J'=>K (JB env o.dst true r) J')
   | _,_=>False
  | .eqNil neg x=>match x.get env with
   | some (p,.c (.t (.slice es)))=>o.guard=none/\p/\∀b:Bool,(es≠[]->b=false)->K (JB env o.dst true (afG (if neg then !b else b))) J
   | some (p,.c .ee)=>o.guard=none/\p/\∀b:Bool,K (JB env o.dst true (afG (if neg then !b else b))) J
   | some (p,.c (.arr _ _ _ l))=>o.guard=none/\p/\∀b:Bool,(l≠0->b=false)->K (JB env o.dst true (afG (if neg then !b else b))) J
   | _=>False
  | op=>match ep op env J key with
   | some (p,v,J')=>(g=true->p)/\(op.neutral=true\/g=true)/\K (JB env o.dst g v) (if op.neutral then J else J')
   | none=>False
def VU(P:Program):List kx->Nat->Env->fu->(Env->fu->Prop)->Prop
 | [],_,env,J,K=>K env J
 | o::r,key,env,J,K=>O4 P o key env J λenv' J'=>VU P r (key+16) env' J' K
section
variable {P:Program} {c9:Ctx} {nt:Nat} {φ:vt} {S:y0} {env:Env} {J:fu} {n:Nat->Bool} {key:Nat} {a:Act} {w:World}
theorem aaY{dst:Option Nat}{g:Bool}{v:V}{k:Nat}:look (JB env dst g v) k=if dst=some k then some (g,v)else look env k:=by
 unfold JB;cases dst with
 | none=>simp
 | some d=>simp[look]
theorem Rel.are(R:Rel c9 nt φ S env J n a w){dst:Option Nat}(a7:∀d,dst=some d -> d < nt){g:Bool}{x:Value}{v:V}(ad:g=true -> k' φ w S v x)(hu:g=false -> x=undef)(al:g=true -> v.c' n=true):
 Rel c9 nt φ S (JB env dst g v) J n (a.put dst x) w:=by
 have aKh:∀k:Nat,(a.put dst x).tmps[k]?=if dst=some k then some x else a.tmps[k]?:=by
  intro k;cases dst with
  | none=>simp[Act.put]
  | some d=>
   have ec:d < a.tmps.size:=by rw[R.size];exact a7 d rfl
   simp only[Act.put,aK0,hQ]
   grind
 refine⟨R.h',λk Ou Lr a6 b9=>?_,λk Ou Lr a6 b9=>?_,λk Ou Lr a6 b9=>?_,R.HJ,?_,?_,R.ext,R.own,R.fix,R.Nu⟩
 . rw[aaY]at a6;rw[aKh];split at a6
   . rename_i h;cases a6;rw[ao h];exact⟨x,rfl,ad b9⟩
   . rename_i h;rw[aJ h];exact R.Ot k Ou Lr a6 b9
 . rw[aaY]at a6;rw[aKh];split at a6
   . rename_i h;cases a6;rw[ao h,hu b9]
   . rename_i h;rw[aJ h];exact R.PK k Ou Lr a6 b9
 . rw[aaY]at a6;split at a6
   . cases a6;exact al b9
   . exact R.Oq k Ou Lr a6 b9
 . cases dst <;> simp[Act.put,R.size]
 . cases dst <;> simp[Act.put,R.defers]
theorem aDP(R:Rel c9 nt φ S env J n a w){ops:Array Oper}{o:Oper}{gd:Option (Nat×Bool)}(ar:aet ops o.guard=some gd){g:Bool}(b9:Nc env gd=some g):Region.wanted o (yielded ops a.tmps)=g:=by
 unfold Region.wanted;cases aKa:o.guard with
 | none=>
  rw[aKa]at ar;simp[aet]at ar;subst ar;simp[Nc]at b9
  grind
 | some a0Y=>
  obtain⟨j,b⟩:=a0Y;rw[aKa]at ar;simp only[aet,gC]at ar;obtain⟨d,a7,rfl⟩:=ar;simp only[Nc]at b9;split at b9
  . rename_i Ou x a6;simp only[hQ]at b9;subst b9;simp only[yielded,a7,cm];cases am6:Ou with
    | true=>
     obtain⟨y,bJ,ar⟩:=R.Ot d Ou _ a6 am6;have:=ar.TC
     grind
    | false=>
     have:=R.PK d Ou _ a6 am6;simp only[this];rfl
  . cases b9
def UL(c9:Ctx)(nt:Nat)(n:Nat->Bool)(K:Env->fu->Prop)(a:Act)(w:World):Prop:=∃φ S env J,K env J/\Rel c9 nt φ S env J n a w
theorem aSv {f : Nat} (h : PE P f = true): ∃ fn, P.funcs[f]? = some fn /\ fn.body.isSome = true /\ (fn.name == "runtime.NumGoroutine") = false := by
 unfold PE at h
 grind
theorem aRq{f:Nat}(h:PE P f=true)(args:Array Value)(w:World):(callFunc f args).run P w= .ok (.enter f args) w:=by
 obtain⟨fn,h1,ah,b'⟩:=aSv h;obtain⟨c,b7⟩:=aob.1 ah;simp only[callFunc,Sem.run_bind,run_program,Result.andThen_ok,h1,b',b7,q2,uJ,Option.isNone_some,Sem.run_pure]
theorem alg{o:py}(h:o.neutral=true){p v J'}(ch:ep o env J key=some (p,v,J')):J'=J:=by
 cases o <;> simp only[py.neutral,reduceCtorEq,q2]at h <;> simp only[ep,hC,gC,hO]at ch
 all_goals
  (try (obtain⟨a1,h1,ch⟩:=ch))
  (try (obtain⟨a2,ah,ch⟩:=ch))
  (try (obtain⟨a3,b',ch⟩:=ch))
  (try dsimp only at ch)
  (try split at ch)
  (try (simp_all;done))
  (try split at ch)
  (try (simp_all;done))
  (try (obtain⟨_,_,_,_,rfl⟩:=ch;rfl))
 all_goals first
  | (cases ch;rfl)
  | (cases ch;done)
  | (simp only[gC,hO]at ch;obtain⟨_,_,_,_,rfl⟩:=ch;rfl)
  | (split at ch <;> first
   | (cases ch;rfl)
   | (cases ch;done)
   | (simp only[gC,hO]at ch;obtain⟨_,_,_,_,rfl⟩:=ch;rfl))
  | skip
 all_goals repeat' (first | (cases ch;done) | (cases ch;rfl) | (simp only[gC,hO]at ch;obtain⟨_,_,_,_,rfl⟩:=ch;rfl) | split at ch)
theorem aDg{ops:Array Oper}{o:Oper}{tw:kx}(h:ahm P nt ops o=some tw):
 ahq P (aE4 ops o) o.op=some tw.op/\aet ops o.guard=some tw.guard/\tw.dst=o.dst/\∀d,tw.dst=some d->d < nt:=by
 simp only[ahm,hC]at h;obtain⟨p,bo,g,b9,h⟩:=h;split at h
 . rename_i a7;cases h;exact⟨bo,b9,a7.symm,by simp⟩
 . rename_i d a7;simp only[A',hQ]at h;obtain⟨ec,rfl⟩:=h;exact⟨bo,b9,a7.symm,λzv h=>by cases h;exact ec⟩
theorem ak3{Ri:Bool}{op:Op}{tw:py}(h:ahq P Ri op=some tw)(al:∀e m l z ps,tw≠.bsliceT e m l z ps):s' P op=some tw:=by
 rcases aCT h with h | ⟨t,len,parts,e,m,z,ps,_,_,_,_,_,_,_,_,rfl⟩
 . exact h
 grind
theorem aui{ops:Array Oper}{o:Oper}{g:Option (Nat×Bool)}(h:aet ops o.guard=some g)(b9:g=none):o.guard=none:=by
 subst b9;cases c8:o.guard with
 | none=>rfl
 | some x=>
  rw[c8]at h;obtain⟨j,b⟩:=x;simp only[aet,gC]at h
  grind
theorem awI{e:TypeId}{tw:py}(h:s' P (.alloc e)=some tw)(h1:∀cs,tw≠.alloc cs)(ah:∀cs,tw≠.allocA cs)(b':∀e e8,tw≠.allocS e e8):False:=by
 simp only[s']at h;split at h
 . grind
 . simp only[hC]at h
   grind
theorem aC9{op:Op}{f:Nat}{args:List er}(h:s' P op=some (.call f args)):∃c,op= .call c/\Yz P c=some (.call f args):=by
 cases op with
 | call c=>exact⟨c,rfl,h⟩
 | alloc e=>exfalso;exact awI h (by simp) (by simp) (by simp)
 | makeMap t r=>exfalso;cases r <;> simp[s']at h
 | lookup t x i c=>exfalso;cases c <;> simp[s',hC,gC]at h
 | unOp u t x=>
  exfalso
  cases u <;> simp only[s']at h
  all_goals (repeat' split at h) <;> (first | (cases h;done) | simp[hC,gC]at h)
 | makeFunc fn b c=>exfalso;cases fn <;> simp[s']at h
 | _=>
  exfalso
  simp only[s']at h
  (repeat' split at h) <;> (first | (cases h;done) | simp[hC,gC]at h)
theorem aC2{op:Op}{x:er}{args:List er}(h:s' P op=some (.Re x args)):∃c,op= .call c/\Yz P c=some (.Re x args):=by
 cases op with
 | call c=>exact⟨c,rfl,h⟩
 | alloc e=>exfalso;exact awI h (by simp) (by simp) (by simp)
 | makeMap t r=>exfalso;cases r <;> simp[s']at h
 | lookup t x i c=>exfalso;cases c <;> simp[s',hC,gC]at h
 | unOp u t x=>
  exfalso
  cases u <;> simp only[s']at h
  all_goals (repeat' split at h) <;> (first | (cases h;done) | simp[hC,gC]at h)
 | makeFunc fn b c=>exfalso;cases fn <;> simp[s']at h
 | _=>
  exfalso
  simp only[s']at h
  (repeat' split at h) <;> (first | (cases h;done) | simp[hC,gC]at h)
theorem aC'{c:Call}{f:Nat}{args:List er}(h:Yz P c=some (.call f args)):c.callee= .value (.func f)/\PE P f=true/\Zi c.args.toList=some args:=by
 unfold Yz at h
 (repeat' split at h) <;> simp[hC,gC]at h
 grind
theorem aC3{c:Call}{x:er}{args:List er}(h:Yz P c=some (.Re x args)):∃t,x= .tmp t/\c.callee= .value (.tmp t)/\Zi c.args.toList=some args:=by
 unfold Yz at h
 (repeat' split at h) <;> simp[hC,gC]at h
 grind
theorem aQF{op:Op}{neg:Bool}{x:er}(h:s' P op=some (.eqNil neg x)):
 ∃X2 t y z K' e,op= .binOp X2 t y z K'/\(X2= .eql\/X2= .neq)/\neg=(X2== .neq)/\P.underlying t=some (.slice e)/\auh z=true/\hT y=some x:=by
 cases op with
 | binOp X2 t y z K'=>
  simp only[s']at h
  (repeat' split at h) <;> (try (cases h;done)) <;> simp only[hC,gC,py.eqNil.injEq,reduceCtorEq,Wh,Zg,ajn]at h
  rename_i s0 _ _ hu ga;obtain⟨hD,h1,ah,rfl⟩:=h;exact⟨X2,t,y,z,K',_,rfl,s0,ah.symm,hu,ga,h1⟩
 | call c=>
  exfalso
  simp only[s']at h;unfold Yz at h
  (repeat' split at h) <;> (first | (cases h;done) | simp[hC,gC]at h)
 | alloc e=>exfalso;exact awI h (by simp) (by simp) (by simp)
 | makeMap t r=>exfalso;cases r <;> simp[s']at h
 | lookup t x i c=>exfalso;cases c <;> simp[s',hC,gC]at h
 | unOp u t x=>
  exfalso
  cases u <;> simp only[s']at h
  all_goals (repeat' split at h) <;> (first | (cases h;done) | simp[hC,gC]at h)
 | makeFunc fn b c=>exfalso;cases fn <;> simp[s']at h
 | _=>
  exfalso
  simp only[s']at h
  (repeat' split at h) <;> (first | (cases h;done) | simp[hC,gC]at h)
theorem aq1{o:Oper}{c:Call}(c8:o.op= .call c){x:Operand}(b7:c.callee= .value x){f:Nat}{caps:List Value}(ad:a.eval x= .func (.func f) #[] caps.toArray)(al:PE P f=true):
 (execOp a.eval o).run P w= .ok (.enter f (c.args.toList.map a.eval++caps).toArray) w:=by
 have e:(c.args.map a.eval++caps.toArray)=(c.args.toList.map a.eval++caps).toArray:=by apply Array.ext';simp
 simp only[execOp,c8,Go.resolve,b7,ad,Deferred.ofValue,Sem.run_bind,Sem.run_pure,Result.andThen_ok,invoke];rw[show(#[]++c.args.map a.eval)=c.args.map a.eval by simp,e];exact aRq al _ _
theorem Calls.next {f:Nat} {args:Array Value} {key:Nat} {K:Env -> fu -> Prop} {dst:Option Nat} {Q:Exit -> Act -> World -> Prop} {o:Oper} (aZF:dst=o.dst) (a7:∀d,dst=some d -> d < nt) {g:Bool} (b9:g=true) {K2:V -> fu -> Prop}
 (qs:∀r s,K2 r s->K (JB env dst g r) s)
 (h:Calls P f args w λe w'=>∃v r hK ik J',e= .returned v/\K2 r J'/\k' hK w' ik r v/\r.c' (JI n key)=true/\Rel c9 nt hK ik env J' (JI n key) a w')
 (C':(execOp a.eval o).run P w= .ok (.enter f args) w):o.wp P a w (UL c9 nt (JI n key) K) Q:=by
 unfold Oper.wp;rw[C',Oper.upon_enter];refine h.mono ?_
 rintro e w' ⟨v,r,hK,ik,J',rfl,h1,ah,b',ea⟩
 subst aZF;exact⟨hK,ik,_,J',qs _ _ h1,ea.are a7 (λ_=>ah) (λh=>by rw[b9]at h;cases h) (λ_=>b')⟩
theorem apt(R:Rel c9 nt φ S env J n a w)(dy:∀b,key <=b -> b < key+16 -> n b=false){ops:Array Oper}{o:Oper}{tw:kx}(ar:ahm P nt ops o=some tw){K:Env -> fu -> Prop}(h:O4 P tw key env J K){Q:Exit -> Act -> World -> Prop}:
 if Region.wanted o (yielded ops a.tmps)then o.wp P a w (UL c9 nt (JI n key) K) Q else UL c9 nt (JI n key) K (a.put o.dst undef) w:=by
 obtain⟨h1,ah,b',ea⟩:=aDg ar;have hk:n key=false:=dy key (JK _) (by omega);unfold O4 at h;split at h
 . exact h.elim
 . rename_i g b9;have hw:=aDP R ah b9;rw[hw];have atp:∀{v:V} {s:fu},K (JB env tw.dst g v) s->s=J->g=false->UL c9 nt (JI n key) K (a.put o.dst undef) w:=by
    intro v s qs hs abN;subst hs;rw[<-b'];exact⟨φ,S,_,_,qs,(R.more λ_ h=>XH h).are ea (λh=>by rw[abN]at h;cases h) (λ_=>rfl) (λh=>by rw[abN]at h;cases h)⟩
   rcases h with⟨abN,v,qs⟩ | h
   . rw[abN];simp only[q2,uJ];exact atp qs rfl abN
   split at h
   ·
    rename_i f args s0;rw[s0]at h1;have aZv:∃c,o.op= .call c/\c.callee= .value (.func f)/\PE P f=true/\Zi c.args.toList=some args:=by
     obtain⟨c,b7,ar⟩:=aC9 (ak3 h1 (by simp));exact⟨c,b7,aC' ar⟩
    obtain⟨c,V6,adw,al,PO⟩:=aZv;split at h
    . rename_i p vs LR;have C':∀w':World,(execOp a.eval o).run P w= .ok (.enter f (c.args.toList.map a.eval).toArray) w:=by
       intro _;have:=aq1 (P:=P) (w:=w) (a:=a) V6 adw (f:=f) (caps:=[]) rfl al
       grind
      split at h
      . rename_i t';have KW:g=true:=by rw[t']at b9;simp[Nc]at b9;exact b9
        subst KW;obtain⟨bo,vJ⟩:=h;obtain⟨g1,g2⟩:=acP R PO LR bo;exact Calls.next b' ea rfl (λ_ _ h=>h) (vJ c9 nt φ S env n a w R dy g2 _ g1) (C' w)
      . rcases h with⟨KW,bo,vJ⟩ | ⟨r,vJ,qs⟩
        . subst KW;obtain⟨g1,g2⟩:=acP R PO LR bo;exact Calls.next b' ea rfl (λ_ _ h=>h) (vJ c9 nt φ S env n a w R dy g2 _ g1) (C' w)
        cases SL:g with
        | true=>
         obtain⟨bo,vJ⟩:=vJ SL;obtain⟨g1,g2⟩:=acP R PO LR bo;simp only[qb];refine Calls.next (K2:=λI1 J'=>I1=r/\J'=J) b' ea SL (λI1 s ai=>?_) (vJ c9 nt φ S env n a w R dy g2 _ g1) (C' w)
         obtain⟨rfl,rfl⟩:=ai;exact qs
        | false=>
         simp only[q2,uJ];exact atp qs rfl SL
    . exact h.elim
   . rename_i x args s0;rw[s0]at h1;obtain⟨c,V6,ar⟩:=aC2 (ak3 h1 (by simp));obtain⟨t,rfl,adw,PO⟩:=aC3 ar;split at h
     . rename_i q f caps p vs k3 LR;obtain⟨t',al,eg,bo,vJ⟩:=h;have KW:g=true:=by rw[t']at b9;simp[Nc]at b9;exact b9
       subst KW;obtain⟨g1,g2⟩:=acP R PO LR bo;have ad:=ni (x:= .tmp t) R rfl k3 eg;have anD:a.eval (.tmp t)= .func (.func f) #[] (caps.map λb=>Value.pointer (some ⟨(φ b).1,0,none⟩)).toArray:=ad.1.Ji;have axQ:f' (k' φ w S) (caps.map λb=>V.c (.ptr b 0)) (caps.map λb=>Value.pointer (some ⟨(φ b).1,0,none⟩)):=by
        refine f'.Xp (by simp) ?_;intro i v x h1 ah;simp only[aai,gC]at h1 ah;obtain⟨b,Nn,rfl⟩:=h1;obtain⟨hq,ML,rfl⟩:=ah;rw[Nn]at ML;cases ML;exact .c rfl
       have NW:V.c'.V.Is n (vs++caps.map λb=>V.c (.ptr b 0))=true:=by
        refine aeu ?_;intro i v cv;by_cases ay:i < vs.length
        . rw[aag ay]at cv;exact ZL g2 cv
        . rw[adU (by omega)]at cv;simp only[aai,gC]at cv;obtain⟨b,Nn,rfl⟩:=cv;have ai:=ad.2;simp only[V.c',C.c',r0]at ai ⊢
          grind
       exact Calls.next b' ea rfl (λ_ _ h=>h) (vJ c9 nt φ S env n a w R dy NW _ (g1.append axQ)) (aq1 V6 adw anD al)
     . exact h.elim
   . rename_i neg x s0;rw[s0]at h1;obtain⟨X2,ty,y,z,K',e,LS,aZt,rfl,hu,ga,bJ⟩:=aQF (ak3 h1 (by simp));have a01:∀(b:Bool) (kc:Option Addr) (l c:Nat),a.eval y= .slice kc l c->kc.isNone=b->(execOp a.eval o).run P w= .ok (.value (.bool (if(X2== .neq)then !b else b))) w:=by
      intro b kc l c cv al;subst al;obtain⟨aAl,aKD,anH⟩:∃aAl:Value,a.eval z=aAl/\aAl= .slice none 0 0:=by
       unfold auh at ga;split at ga
       . exact⟨_,rfl,rfl⟩
       . cases ga
      subst anH;have abB:(eqGuard X2 ty y z (a.eval y) (a.eval z)).run P w= .ok () w:=atY (by rw[cv];simp) (by rw[cv];simp);have amI:(Op.equal ty (.slice kc l c) (.slice none 0 0)).run P w= .ok kc.isNone w:=by
       obtain⟨d,a7⟩:∃d,Op.maxDepth=d+1:=⟨9999,rfl⟩
       unfold Op.equal;rw[a7];unfold Op.equalIn;cases kc with
       | none=>simp only[Sem.run_bind,run_underlying hu,Result.andThen_ok];rfl
       | some kc=>simp only[Sem.run_bind,run_underlying hu,Result.andThen_ok];rfl
      have abC:(binOp X2 ty (a.eval y) (a.eval z)).run P w= .ok (.bool (if(X2== .neq)then !kc.isNone else kc.isNone)) w:=by
       rcases aZt with rfl | rfl
       . rw[cv,aKD];simp only[binOp,Sem.run_bind,amI];rfl
       . rw[cv,aKD];simp only[binOp,Sem.run_bind,amI];rfl
      simp[execOp,LS,abB,abC]
     have fin : ∀ (b : Bool) (kc : Option Addr) (l c : Nat), o.guard = none -> a.eval y = .slice kc l c -> kc.isNone = b -> K (JB env tw.dst true (afG (if (X2 == .neq) then !b else b))) J ->
      (if g=true then o.wp P a w (UL c9 nt (JI n key) K) Q else UL c9 nt (JI n key) K (a.put o.dst undef) w):=by
      intro b kc l c t' cv al qs;have KW:g=true:=by
       have:Region.wanted o (yielded ops a.tmps)=true:=by simp[Region.wanted,t']
       grind
      rw[ao KW];unfold Oper.wp;rw[a01 b kc l c cv al];show UL c9 nt (JI n key) K (a.put o.dst _) w;rw[<-b'];exact⟨φ,S,_,_,qs,(R.more λ_ h=>XH h).are ea (λ_=>.afF _) (λh=>by cases h) (λ_=>rfl)⟩
     split at h
     . rename_i p es k3;obtain⟨t',bo,qs⟩:=h;obtain⟨kc,cap,sz,b,off,f,cv,_,_,_,hG,_⟩:=k1.Vs (ni R bJ k3 bo).1.Ji;exact fin kc.isNone kc _ _ (aui ah t') cv rfl (qs _ λh=>by rw[hG h];rfl)
     . rename_i p k3;obtain⟨t',bo,qs⟩:=h;obtain⟨kc,cv⟩:=(ni R bJ k3 bo).1.Ji;exact fin kc.isNone kc _ _ (aui ah t') cv rfl (qs _)
     . rename_i p b sz off l k3;obtain⟨t',bo,qs⟩:=h;obtain⟨kc,cv,ch,hle⟩:=ho.O3 (ni R bJ k3 bo).1.Ji;exact fin kc.isNone kc _ _ (aui ah t') cv rfl (qs _ λh=>by rw[ch (by omega)];rfl)
     . exact h.elim
   . rename_i V6 adw a3q;split at h
     . rename_i p v J' ch;obtain⟨bo,hG,qs⟩:=h;cases SL:g with
       | true=>
        simp only[qb];obtain⟨x,hK,ik,w',hres,OA,NV,R'⟩:=aT1 R h1 dy ch (bo SL);have l1:(if tw.op.neutral=true then J else J')=J':=by
         split
         . rename_i Uk;exact(alg Uk ch).symm
         . rfl
        rw[l1]at qs;have fin:UL c9 nt (JI n key) K (a.put o.dst x) w':=by
         rw[<-b'];exact⟨hK,ik,_,_,qs,R'.are ea (λ_=>OA) (λh=>by rw[SL]at h;cases h) (λ_=>NV)⟩
        unfold Oper.wp;rcases hres with hres | ⟨hres,rfl⟩
        . rw[hres];exact fin
        . rw[hres];exact fin
       | false=>
        simp only[q2,uJ];rcases hG with hG | hG
        . rw[ao hG]at qs;exact atp qs rfl SL
        . rw[SL]at hG;cases hG
     . exact h.elim
end
def lt(N:Nat):Nat->Bool:=λb=>decide (b < N)
theorem av'{N b:Nat}(h:JI (lt N) N b=true):lt (N+16) b=true:=by
 simp only[JI,lt,Qp,ye,k0]at*;omega
theorem awb{N b:Nat}(h:N<=b):lt N b=false:=by simp[lt];omega
theorem aHI{N M b:Nat}(h:N<=M)(al:lt N b=true):lt M b=true:=by simp only[lt,ye]at*;omega
section
variable {P:Program} {c9:Ctx} {nt kk:Nat} {φ:vt} {S:y0} {env:Env} {J:fu} {N:Nat} {a:Act} {w:World}
theorem aF1{ops:Array Oper}{Q:Exit -> Act -> World -> Prop}{K:Env -> fu -> Nat -> Prop}:∀{l:List Oper} {fJ:List kx} {k N:Nat} {env:Env} {J:fu} {φ:vt} {S:y0} {a:Act} {w:World},To P nt ops l=some fJ -> (∀i:Nat,i < l.length -> l[i]?=ops[k+i]?) ->
 Rel c9 nt φ S env J (lt N) a w->VU P fJ N env J (λe s=>K e s (N+16*fJ.length))->(∀φ S e s N a w,K e s N->Rel c9 nt φ S e s (lt N) a w->Q .normal a w)->wpOps P ops Q (List.range' k l.length) a w
 | [],fJ,k,N,env,J,φ,S,a,w,ar,ay,R,h,Jb=>by
  simp[To]at ar;subst ar;simp only[Qo,List.range'_zero,wpOps];exact Jb _ _ _ _ _ _ _ h R
 | o::l,fJ,k,N,env,J,φ,S,a,w,ar,ay,R,h,Jb=>by
  simp only[To,hC,gC]at ar;obtain⟨tw,TE,ZZ,amW,rfl⟩:=ar;have c8:ops[k]?=some o:=by have:=ay 0 (by simp);simpa using this.symm
  rw[Pg,ay7,wpOps_cons];unfold wpOp;rw[c8];simp only;have hs:=apt R (λb h1 _=>awb h1) TE (K:=λe s=>VU P ZZ (N+16) e s λe s=>K e s (N+16*(ZZ.length+1))) (by simp only[VU,Pg]at h;exact h) (Q:=Q)
  have next:∀q' w',UL c9 nt (JI (lt N) N) (λe s=>VU P ZZ (N+16) e s λe s=>K e s (N+16*(ZZ.length+1))) q' w'->wpOps P ops Q (List.range' (k+1) l.length) q' w':=by
   rintro q' w' ⟨hK,ik,e,s,qs,R'⟩
   refine aF1 (k:=k+1) (N:=N+16) amW (λi ec=>?_) (R'.more λ_ h=>av' h) (K:=K) ?_ Jb
   . have:=ay (i+1) (by simp;omega)
     grind
   grind
  split at hs
  . rename_i hw;rw[ao hw];exact .inl (Oper.wp_mono next hs)
  grind
def aMH(P:Program)(nt kk:Nat)(c:Code)(env:Env)(J:fu)(N:Nat)(Q:Exit->Env->fu->Nat->Prop):Prop:=
 ∀c9 φ S a w,c9.k=kk->Rel c9 nt φ S env J (lt N) a w->c.wp P (λe q' w'=>∃hK ik env' J' N',Q e env' J' N'/\Rel c9 nt hK ik env' J' (lt N') q' w') a w
def l'(P:Program)(nt kk:Nat)(c:y')(env:Env)(J:fu)(N:Nat)(Q:Exit->Env->fu->Nat->Prop):Prop:=
 ∀code,resolve P nt code=some c->aMH P nt kk code env J N Q
variable {Q ZX:Exit->Env->fu->Nat->Prop}
theorem l'.mono{c:y'}(h:l' P nt kk c env J N Q)(eg:∀e env J N,Q e env J N->ZX e env J N):l' P nt kk c env J N ZX:=
 λcode b7 c9 φ S a w k6 R=>wp_mono (h code b7 c9 φ S a w k6 R) λe a w ⟨hK,ik,env',J',N',h1,ah⟩=>⟨hK,ik,env',J',N',eg _ _ _ _ h1,ah⟩
theorem l'.skip(h:Q .normal env J N):l' P nt kk .skip env J N Q:=by
 intro code b7 c9 φ S a w k6 R;cases code <;> simp only[resolve,hC,gC,reduceCtorEq,Wh,Zg]at b7 <;> (try (first | (cases b7;done) | (obtain⟨l,_,b7⟩:=b7;(repeat' split at b7) <;> cases b7;done)))
 exact wp_skip ⟨φ,S,env,J,N,h,R⟩
theorem l'.ret(h:Q .ret env J N):l' P nt kk .ret env J N Q:=by
 intro code b7 c9 φ S a w k6 R;cases code <;> simp only[resolve,hC,gC,reduceCtorEq,Wh,Zg]at b7 <;> (try (first | (cases b7;done) | (obtain⟨l,_,b7⟩:=b7;(repeat' split at b7) <;> cases b7;done)))
 exact wp_ret ⟨φ,S,env,J,N,h,R⟩
theorem l'.exit{id:Nat}(h:Q (.exit id) env J N):l' P nt kk (.exit id) env J N Q:=by
 intro code b7 c9 φ S a w k6 R;cases code <;> simp only[resolve,hC,gC,reduceCtorEq,Wh,Zg]at b7 <;> (try (first | (cases b7;done) | (obtain⟨l,_,b7⟩:=b7;(repeat' split at b7) <;> cases b7;done)))
 cases b7;exact wp_exit ⟨φ,S,env,J,N,h,R⟩
def andThen(next:Env->fu->Nat->Prop)(Q:Exit->Env->fu->Nat->Prop):Exit->Env->fu->Nat->Prop
 | .normal,env,J,N=>next env J N
 | e,env,J,N=>Q e env J N
theorem aSw{code:Code}{x y:y'}(h:resolve P nt code=some (.seq x y)):∃a b,code= .seq a b/\resolve P nt a=some x/\resolve P nt b=some y:=by
 cases code with
 | seq a b=>
  simp only[resolve,hC,gC]at h
  grind
 | region id ops draw=>
  simp only[resolve,hC]at h
  grind
 | _=>simp[resolve,hC,gC]at h
theorem aRr{code:Code}{c:er}{x y:y'}(h:resolve P nt code=some (.cond c x y)):∃o a b,code= .cond o a b/\hT o=some c/\resolve P nt a=some x/\resolve P nt b=some y:=by
 cases code with
 | cond o a b=>
  simp only[resolve,hC,gC]at h
  grind
 | region id ops draw=>
  simp only[resolve,hC]at h
  grind
 | _=>simp[resolve,hC,gC]at h
theorem aRB{code:Code}{id:Nat}{x:y'}(h:resolve P nt code=some (.block id x)):∃b,code= .block id b/\resolve P nt b=some x:=by
 cases code with
 | block i b=>
  simp only[resolve,gC]at h
  grind
 | region id ops draw=>
  simp only[resolve,hC]at h
  grind
 | _=>simp[resolve,hC,gC]at h
theorem aRs{code:Code}{x:y'}(h:resolve P nt code=some (.loop x)):∃b,code= .loop b/\resolve P nt b=some x:=by
 cases code with
 | loop b=>
  simp only[resolve,gC]at h
  grind
 | region id ops draw=>
  simp only[resolve,hC]at h
  grind
 | _=>simp[resolve,hC,gC]at h
theorem aDX{code:Code}{fJ:List kx}(h:resolve P nt code=some (.region fJ)):∃id ops,code= .region id ops false/\To P nt ops ops.toList=some fJ:=by
 cases code with
 | region id ops draw=>
  simp only[resolve,hC]at h;obtain⟨l,a6,h⟩:=h;split at h
  . grind
  . rename_i a7;cases h;simp at a7;subst a7
    grind
 | _=>simp[resolve,hC,gC]at h
theorem aDh{code:Code}{fJ:List kx}{ND:List (Nat×Nat)}(h:resolve P nt code=some (.aar fJ ND)):
 ∃id ops,code= .region id ops true/\To P nt ops ops.toList=some fJ/\ae0 (LX ops fJ)=true/\P.follows .mixedOrders=true/\ND=afL (LX ops fJ):=by
 cases code with
 | region id ops draw=>
  simp only[resolve,hC]at h;obtain⟨l,a6,h⟩:=h;split at h
  . rename_i a7;split at h
    . rename_i ah;cases h;subst a7;simp only[k0]at ah;exact⟨id,ops,rfl,a6,ah.1,ah.2,rfl⟩
    . cases h
  . cases h
 | _=>simp[resolve,hC,gC]at h
theorem l'.seq{x y:y'}(h:l' P nt kk x env J N (andThen (λenv J N=>l' P nt kk y env J N Q) Q)):l' P nt kk (.seq x y) env J N Q:=by
 intro code b7 c9 φ S a w k6 R;obtain⟨aiq,aNr,rfl,ad,bJ⟩:=aSw b7;refine wp_seq (wp_mono (h _ ad c9 φ S a w k6 R) ?_)
 rintro e q' w' ⟨hK,ik,env',J',N',eg,R'⟩
 cases e with
 | normal=>exact eg _ bJ c9 hK ik q' w' k6 R'
 | _=>exact⟨hK,ik,env',J',N',eg,R'⟩
theorem l'.cond{c:er}{x y:y'}{p:Prop}{b:Bool}(b7:c.get env=some (p,afG b))(bo:p)(ad:b=true->l' P nt kk x env J N Q)(bJ:b=false->l' P nt kk y env J N Q):l' P nt kk (.cond c x y) env J N Q:=by
 intro code amZ c9 φ S a w k6 R;obtain⟨o,aiq,aNr,rfl,c8,Ly,ON⟩:=aRr amZ;have al:=(ni R c8 b7 bo).1.TC;refine wp_cond al ?_;cases b with
 | true=>exact ad rfl _ Ly c9 φ S a w k6 R
 | false=>exact bJ rfl _ ON c9 φ S a w k6 R
def inBlock(id:Nat)(Q:Exit->Env->fu->Nat->Prop):Exit->Env->fu->Nat->Prop
 | .exit i,env,J,N=>if i=id then Q .normal env J N else Q (.exit i) env J N
 | e,env,J,N=>Q e env J N
theorem l'.block{id:Nat}{x:y'}(h:l' P nt kk x env J N (inBlock id Q)):l' P nt kk (.block id x) env J N Q:=by
 intro code b7 c9 φ S a w k6 R;obtain⟨b,rfl,al⟩:=aRB b7;refine wp_block (wp_mono (h _ al c9 φ S a w k6 R) ?_)
 rintro e q' w' ⟨hK,ik,env',J',N',eg,R'⟩
 cases e with
 | exit i=>
  simp only[inBlock]at eg;simp only[Exit.inBlock]
  grind
 | _=>exact⟨hK,ik,env',J',N',eg,R'⟩
theorem l'.region{fJ:List kx}(h:VU P fJ N env J (λe s=>Q .normal e s (N+16*fJ.length))):l' P nt kk (.region fJ) env J N Q:=by
 intro code b7 c9 φ S a w k6 R;obtain⟨id,ops,rfl,ar⟩:=aDX b7;refine wp_region ?_;have:=aF1 (P:=P) (ops:=ops) (K:=λe s N=>Q .normal e s N) (Q:=λe q' w'=>∃hK ik env' J' N',Q e env' J' N'/\Rel c9 nt hK ik env' J' (lt N') q' w') (k:=0) ar (λi ay=>by simp) R h
  (λφ S e s N a w qs JG=>⟨φ,S,e,s,N,qs,JG⟩)
 rw[List.range_eq_range'];omega
end
def pos :List Nat->Nat->Option Nat
 | [],_=>none
 | x::r,b=>if x=b then some 0 else(pos r b).map (· +1)
theorem ZP :∀{bs:List Nat} {b i:Nat},pos bs b=some i->bs[i]?=some b
 | [],b,i,h=>by simp[pos]at h
 | x::r,b,i,h=>by
  unfold pos at h;split at h
  . grind
  . simp only[gC]at h;obtain⟨j,c7,rfl⟩:=h
    simpa using ZP c7
def ZS(bs:List Nat):List Nat->Option (List Nat)
 | []=>some []
 | c::r=>match pos bs c,ZS bs r with
  | some i,some l=>some (i::l)
  | _,_=>none
def C.hZ(bs:List Nat):C->C
 | .t x=>.t x
 | .ptr b o=>match pos bs b with | some i=>.ptr i o | none=>.dead
 | .pr b sz i o=>match pos bs b with | some j=>.pr j sz i o | none=>.dead
 | .IJ ts o=>.IJ ts o
 | .arr b sz off len=>match pos bs b with | some i=>.arr i sz off len | none=>.dead
 | .MW b sz off len=>match pos bs b with | some i=>.MW i sz off len | none=>.dead
 | .mp b=>match pos bs b with | some i=>.mp i | none=>.dead
 | .Jx b=>match pos bs b with | some i=>.Jx i | none=>.dead
 | .pq b len=>match pos bs b with | some i=>.pq i len | none=>.dead
 | .ee=>.ee
 | .Ln=>.Ln
 | .Lm=>.Lm
 | .fn f caps=>match ZS bs caps with | some l=>.fn f l | none=>.dead
 | .dead=>.dead
def V.hZ(bs:List Nat):V->V
 | .c x=>.c (x.hZ bs)
 | .agg cs=>.agg (cs.map (C.hZ bs))
 | .gJ vs=>.gJ (go bs vs)
where go (bs:List Nat):List V->List V
 | []=>[]
 | v::vs=>v.hZ bs::go bs vs
def h2.hZ(bs:List Nat):h2->h2
 | .box cs=>.box (cs.map (C.hZ bs))
 | .arr sz es=>.arr sz es
 | .set ks=>.set ks
 | .buf E s=>.buf E s
 | .kn E c=>.kn E (c.hZ bs)
 | .nJ sz es i o c=>.nJ sz es i o (c.hZ bs)
def ZQ(bs:List Nat)(env:Env):List Nat->Env
 | []=>[]
 | k::ks=>match look env k with
  | some (g,v)=>(k,g,v.hZ bs)::ZQ bs env ks
  | none=>ZQ bs env ks
def MC(bs:List Nat)(J:fu):Nat->List Nat->fu
 | _,[]=>[]
 | i,b::r=>match e1 J b with
  | some x=>(i,x.hZ bs)::MC bs J (i+1) r
  | none=>MC bs J (i+1) r
def keeps(k:Nat)(bs:List Nat):Bool:=(List.range k).all λi=>bs[i]?==some i
section
variable {P:Program} {c9:Ctx} {nt kk:Nat} {φ:vt} {S:y0} {env:Env} {J:fu} {N:Nat} {n:Nat->Bool} {a:Act} {w:World}
theorem atD :∀{bs caps l:List Nat},ZS bs caps=some l->caps.length=l.length/\∀(i b j:Nat),caps[i]?=some b->l[i]?=some j->bs[j]?=some b
 | bs,[],l,h=>by simp[ZS]at h;subst h;simp
 | bs,c::r,l,h=>by
  unfold ZS at h;split at h
  . rename_i j z' c7 a6;cases h;obtain⟨h1,ah⟩:=atD a6;refine⟨by simp[h1],?_⟩;intro i b Vh al SN;cases i with
    | zero=>simp at al SN;subst al;subst SN;exact ZP c7
    | succ i=>exact ah i b Vh (by simpa using al) (by simpa using SN)
  . cases h
theorem ho.hZ{hK:vt}{bs:List Nat}(n1:∀(i:Nat) b,bs[i]?=some b->hK i=φ b){c:C}{v:Value}(h:ho φ w S c v):ho hK w S (c.hZ bs) v:=by
 have c8:=ho.S1 h;cases c with
 | ptr b o=>
  simp only[C.hZ];split
  . rename_i i ay;simp only[ho,n1 i b (ZP ay)];exact h
  . exact c8
 | pr b sz i o=>
  simp only[C.hZ];split
  . rename_i j c7;simp only[ho,n1 j b (ZP c7)];exact h
  . exact c8
 | arr b sz off len=>
  simp only[C.hZ];split
  . rename_i i ay;simp only[ho,n1 i b (ZP ay)];exact h
  . exact c8
 | MW b sz off len=>
  simp only[C.hZ];split
  . rename_i i ay;simp only[ho,n1 i b (ZP ay)];exact h
  . exact c8
 | mp b=>
  simp only[C.hZ];split
  . rename_i i ay;simp only[ho,n1 i b (ZP ay)];exact h
  . exact c8
 | Jx b=>
  simp only[C.hZ];split
  . rename_i i ay;simp only[ho,n1 i b (ZP ay)];exact h
  . exact c8
 | pq b len=>
  simp only[C.hZ];split
  . rename_i i ay;simp only[ho,n1 i b (ZP ay)];exact h
  . exact c8
 | fn f caps=>
  simp only[C.hZ];split
  . rename_i l a6;obtain⟨h1,ah⟩:=atD a6;simp only[ho]at h ⊢;rw[h]
    congr 2
    apply List.ext_getElem (by simp[h1]);intro i aJX aiQ;simp at aJX aiQ;simp only[List.getElem_map];rw[n1 _ _ (ah i _ _ (J9 aJX) (J9 aiQ))]
  . exact c8
 | _=>exact h
theorem apu{bs:List Nat}:∀{vs:List V} {i:Nat},(V.hZ.go bs vs)[i]?=(vs[i]?).map (V.hZ bs)
 | [],i=>by simp[V.hZ.go]
 | v::vs,0=>by simp[V.hZ.go]
 | v::vs,i+1=>by simp[V.hZ.go,apu]
theorem aqf{bs:List Nat}:∀{vs:List V},(V.hZ.go bs vs).length=vs.length
 | []=>rfl
 | v::vs=>by simp[V.hZ.go,aqf]
theorem f'.abZ{α β Ky:Type}{R:α->β->Prop}{R':Ky->β->Prop}{f:α->Ky}{l:List α}{m:List β}(h:f' R l m)(k:∀a b,R a b->R' (f a) b):f' R' (l.map f) m:=by
 induction h with
 | nil=>exact .nil
 | cons JC _ ih=>exact .cons (k _ _ JC) ih
theorem k'.hZ{hK:vt}{bs:List Nat}(n1:∀(i:Nat) b,bs[i]?=some b->hK i=φ b){v:V}{x:Value}(h:k' φ w S v x):k' hK w S (v.hZ bs) x:=by
 induction h with
 | c h=>exact .c (ho.hZ n1 h)
 | agg h=>exact .agg (h.abZ λ_ _=>ho.hZ n1)
 | gJ vs xs a6 h ih=>
  refine .gJ _ xs (by rw[aqf];exact a6) ?_;intro i v x cv ad;rw[apu,gC]at cv
  grind
theorem ae1{bs:List Nat}{b i:Nat}(h:pos bs b=some i):i < bs.length:=(sb.1 (ZP h)).1
theorem C.Uy{bs:List Nat}(c:C):(c.hZ bs).c' (lt bs.length)=true:=by
 cases c with
 | ptr b o=>simp only[C.hZ];split <;> simp[C.c',lt];rename_i h;exact ae1 h
 | pr b sz i o=>simp only[C.hZ];split <;> simp[C.c',lt];rename_i h;exact ae1 h
 | arr b sz off len=>simp only[C.hZ];split <;> simp[C.c',lt];rename_i h;exact ae1 h
 | MW b sz off len=>simp only[C.hZ];split <;> simp[C.c',lt];rename_i h;exact ae1 h
 | mp b=>simp only[C.hZ];split <;> simp[C.c',lt];rename_i h;exact ae1 h
 | Jx b=>simp only[C.hZ];split <;> simp[C.c',lt];rename_i h;exact ae1 h
 | pq b len=>simp only[C.hZ];split <;> simp[C.c',lt];rename_i h;exact ae1 h
 | fn f caps=>
  simp only[C.hZ];split
  . rename_i l a6;obtain⟨h1,ah⟩:=atD a6;simp only[C.c',r0,lt,ye];intro j c7;obtain⟨i,ay,rfl⟩:=OR c7;exact(sb.1 (ah i _ _ (J9 (by omega)) (J9 ay))).1
  . rfl
 | _=>rfl
theorem V.Uy{bs:List Nat}:∀(v:V),(v.hZ bs).c' (lt bs.length)=true
 | .c x=>by simp only[V.hZ,V.c'];exact C.Uy x
 | .agg cs=>by simp only[V.hZ,V.c',Zh,r0];intro c _;exact C.Uy c
 | .gJ vs=>by simp only[V.hZ,V.c'];exact go vs
where go:∀vs,V.c'.V.Is (lt bs.length) (V.hZ.go bs vs)=true
 | []=>rfl
 | v::vs=>by simp only[V.hZ.go,V.c'.V.Is,k0];exact⟨V.Uy v,go vs⟩
theorem akV{bs:List Nat}:∀{ks:List Nat} {k:Nat} {g:Bool} {v:V},look (ZQ bs env ks) k=some (g,v)->∃v0,look env k=some (g,v0)/\v=v0.hZ bs
 | [],k,g,v,h=>by simp[ZQ,look]at h
 | x::ks,k,g,v,h=>by
  unfold ZQ at h;split at h
  . rename_i Ou Lr a6;unfold look at h;split at h
    . grind
    . exact akV h
  . exact akV h
theorem aaK{bs:List Nat}:∀{r:List Nat} {i:Nat} {b:Nat} {x:h2},e1 (MC bs J i r) b=some x->∃j c a',b=i+j/\r[j]?=some c/\e1 J c=some a'/\x=a'.hZ bs
 | [],i,b,x,h=>by simp[MC,e1]at h
 | c::r,i,b,x,h=>by
  unfold MC at h;split at h
  . rename_i a' MO;unfold e1 at h;split at h
    . simp_all
    . obtain⟨j,C4,TR,h1,ah,b',ea⟩:=aaK h;exact⟨j+1,C4,TR,by omega,by simpa using ah,b',ea⟩
  . obtain⟨j,C4,TR,h1,ah,b',ea⟩:=aaK h;exact⟨j+1,C4,TR,by omega,by simpa using ah,b',ea⟩
theorem r2.hZ{hK:vt}{bs:List Nat}(n1:∀(i:Nat) b,bs[i]?=some b->hK i=φ b){i b:Nat}(ay:bs[i]?=some b){x:h2}(h:r2 φ w S b x):r2 hK w S i (x.hZ bs):=by
 cases x with
 | box cs=>
  obtain⟨h0,vs,E,h1,ah,b'⟩:=h;simp only[h2.hZ,r2,n1 i b ay];exact⟨h0,vs,E,h1,ah.abZ λ_ _=>ho.hZ n1,b'⟩
 | arr sz es=>simp only[h2.hZ,r2,n1 i b ay];exact h
 | set ks=>simp only[h2.hZ,r2,n1 i b ay];exact h
 | buf E s=>simp only[h2.hZ,r2,n1 i b ay];exact h
 | kn E c=>
  obtain⟨h0,⟨p,v,h1,ah,b'⟩,ea⟩:=h;simp only[h2.hZ,r2,n1 i b ay];exact⟨h0,⟨p,v,h1,ah,ho.hZ n1 b'⟩,ea⟩
 | nJ sz es i o c=>
  obtain⟨h1,⟨vs,E,hg,hv,h3,v,oo,u2⟩,s3⟩:=h;simp only[h2.hZ,r2,n1 _ b ay];exact⟨h1,⟨vs,E,hg,hv,h3,v,oo,ho.hZ n1 u2⟩,s3⟩
theorem Rel.tidy(R:Rel c9 nt φ S env J (lt N) a w)(ks bs:List Nat)(ix:bs.Nodup)(hk:keeps c9.k bs=true):
 ∃hK,Rel c9 nt hK S (ZQ bs env ks) (MC bs J 0 bs) (lt bs.length) a w:=by
 have n1:∀(i:Nat) b,bs[i]?=some b->(λi=>φ ((bs[i]?).getD 0)) i=φ b:=by intro i b h;simp[h]
 have arP:∀i:Nat,i < c9.k->bs[i]?=some i:=by
  intro i ay;simp only[keeps,r0,aji,RF]at hk
  grind
 refine⟨λi=>φ ((bs[i]?).getD 0),⟨⟨λb x ad=>?_,λb hq x y ad bJ hG h0 Jj=>?_,R.h'.st⟩,λk g v a6 b9=>?_,λk g v a6 b9=>?_,λk g v a6 b9=>?_,λb x ad=>?_,R.size,R.defers,R.ext,λb x ad h0=>?_,λb al=>?_,λb al=>?_⟩⟩
 . obtain⟨j,c,a',rfl,ah,b',rfl⟩:=aaK ad;rw[NI];exact r2.hZ n1 ah (R.h'.blk c a' b')
 . obtain⟨j,c,a',rfl,ah,b',rfl⟩:=aaK ad;obtain⟨Vh,C4,TR,rfl,Xd,adr,rfl⟩:=aaK bJ;simp only[NI,ah,Xd,Xo]at h0 Jj ⊢;refine R.h'.inj c C4 a' TR b' adr ?_ h0 Jj;intro e;subst e;have M5:=(sb.1 ah)
   have l2:=(sb.1 Xd)
   obtain⟨a1,b1⟩:=M5;obtain⟨a2,b2⟩:=l2;have bo:=adV.1 ix;rcases ay3 j Vh with h | h | h
   . exact bo j Vh a1 a2 h (b1.trans b2.symm)
   . subst h;exact hG rfl
   . exact bo Vh j a2 a1 h (b2.trans b1.symm)
 . obtain⟨v0,h1,rfl⟩:=akV a6;obtain⟨x,ad,ar⟩:=R.Ot k g v0 h1 b9;exact⟨x,ad,k'.hZ n1 ar⟩
 . obtain⟨v0,h1,rfl⟩:=akV a6;exact R.PK k g v0 h1 b9
 . obtain⟨v0,h1,rfl⟩:=akV a6;exact V.Uy v0
 . obtain⟨j,c,a',rfl,ah,b',rfl⟩:=aaK ad;refine⟨by simp[lt];exact(sb.1 ah).1,?_⟩;cases a' with
   | box cs=>simp only[h2.hZ,h2.c',Zh,r0];intro c _;exact C.Uy c
   | arr sz es=>rfl
   | set ks=>rfl
   | buf E s=>rfl
   | kn E c=>exact C.Uy c
   | nJ sz es i o c=>exact C.Uy c
 . obtain⟨j,c,a',rfl,ah,b',rfl⟩:=aaK ad;simp only[NI,ah,Xo]at h0 ⊢;exact R.own c a' b' h0
 . simp only[arP b al,Xo];exact R.fix b al
 . simp only[lt,ye];exact(sb.1 (arP b al)).1
theorem l'.tidy{c:y'}{Q:Exit->Env->fu->Nat->Prop}(ks bs:List Nat)(ix:bs.Nodup)(hk:keeps kk bs=true)(h:l' P nt kk c (ZQ bs env ks) (MC bs J 0 bs) bs.length Q):l' P nt kk c env J N Q:=by
 intro code b7 c9 φ S a w k6 R;subst k6;obtain⟨hK,R'⟩:=R.tidy ks bs ix hk;exact h code b7 c9 hK S a w rfl R'
end
def cut(es:List (List T))(off len:Nat):List (List T):=if off=0/\len=es.length then es else(es.drop off).take len
def C.k4(b0 y2:Nat)(es:List (List T)):C->C
 | .arr b sz off len=>if b=b0 then(if sz=y2/\off+len<=es.length then .t (.slice (cut es off len))else .dead)else .arr b sz off len
 | .pr b sz i o=>if b=b0 then .dead else .pr b sz i o
 | c=>c
def V.k4(b0 y2:Nat)(es:List (List T)):V->V
 | .c x=>.c (x.k4 b0 y2 es)
 | .agg cs=>.agg (cs.map (C.k4 b0 y2 es))
 | .gJ vs=>.gJ (go b0 y2 es vs)
where go (b0 y2:Nat) (es:List (List T)):List V->List V
 | []=>[]
 | v::vs=>v.k4 b0 y2 es::go b0 y2 es vs
def h2.k4(b0 y2:Nat)(es:List (List T)):h2->h2
 | .box cs=>.box (cs.map (C.k4 b0 y2 es))
 | .arr sz l=>.arr sz l
 | .set ks=>.set ks
 | .buf E s=>.buf E s
 | .kn E c=>.kn E (c.k4 b0 y2 es)
 | .nJ sz l i o c=>.nJ sz l i o (c.k4 b0 y2 es)
def acu(b0 y2:Nat)(es:List (List T)):Env->Env
 | []=>[]
 | (k,g,v)::r=>(k,g,v.k4 b0 y2 es)::acu b0 y2 es r
def YY(b0 y2:Nat)(es:List (List T)):fu->fu
 | []=>[]
 | (k,x)::r=>if k=b0 then YY b0 y2 es r else(k,x.k4 b0 y2 es)::YY b0 y2 es r
section
variable {P:Program} {c9:Ctx} {nt kk:Nat} {φ:vt} {S:y0} {env:Env} {J:fu} {N:Nat} {n:Nat->Bool} {a:Act} {w:World}
theorem aku{b0 y2:Nat}{es:List (List T)}:∀{env:Env} {k:Nat},look (acu b0 y2 es env) k=(look env k).map λx=>(x.1,x.2.k4 b0 y2 es)
 | [],k=>rfl
 | (i,g,v)::r,k=>by
  simp only[acu,look];split
  . rfl
  . exact aku
theorem aq2{b0 y2:Nat}{es:List (List T)}:∀{J:fu} {k:Nat},e1 (YY b0 y2 es J) k=if k=b0 then none else(e1 J k).map (h2.k4 b0 y2 es)
 | [],k=>by simp[YY,e1]
 | (i,x)::r,k=>by
  simp only[YY,e1];by_cases h:i=b0
  . rw[ao h,aq2]
    grind
  . rw[aJ h];simp only[e1];by_cases ah:i=k
    . grind
    . rw[aJ ah,aJ ah,aq2]
def ahG(S:y0)(q:Nat×Nat):y0:=λb j=>S b j\/(q.2≠0/\b=q.1)
theorem aU'{es:List (List T)}{off len:Nat}{e:List T}(h:e∈cut es off len):e∈es:=by
 unfold cut at h
 grind
theorem aVa{es:List (List T)}{off len i:Nat}{e:List T}(hle:off+len<=es.length)(h:(cut es off len)[i]?=some e):es[off+i]?=some e/\i < len:=by
 unfold cut at h
 grind
theorem aT2{es:List (List T)}{off len:Nat}(hle:off+len<=es.length):(cut es off len).length=len:=by
 unfold cut
 grind
theorem ho.k4{b0 y2:Nat}{es:List (List T)}(E1:r2 φ w S b0 (.arr y2 es)){c:C}{v:Value}(h:ho φ w S c v):ho φ w (ahG S (φ b0)) (c.k4 b0 y2 es) v:=by
 have m:N7 w S w (ahG S (φ b0)):=⟨λ_ _ h=>.inl h,λ_ _ _=>rfl⟩
 have c8:=ho.S1 h;cases c with
 | arr b sz off len=>
  simp only[C.k4];by_cases al:b=b0
  . subst al;rw[ao rfl];split
    . rename_i b7;obtain⟨rfl,hle⟩:=b7;obtain⟨h1,ah,b',ea,hf⟩:=E1;obtain⟨kc,rfl,ch,aZ5⟩:=ho.O3 h;have a6:=aT2 hle;show k1 w _ (.slice (cut es off len)) _;have eh:Value.slice kc len ((φ b).2 - off)=Value.slice kc (cut es off len).length ((φ b).2 - off):=by rw[a6]
      rw[eh];by_cases h0:(φ b).2=0
      . have:cut es off len=[]:=Uu (by omega);rw[this];exact k1.slice [] _ _ 0 0 0 (λ_ _=>undef) (by simp) (by simp) (by simp) (by simp) (by simp) (by simp)
      . obtain⟨vs,E,ai,PU,ar,hs⟩:=hf h0;refine k1.slice _ _ _ sz (φ b).1 (off*sz) (λi j=>(vs.getD ((off+i)*sz+j) undef)) (by omega) (by omega) (λe he=>b' e (aU' he)) (λ_=>ch h0) ?_ ?_
        . intro i j ay c7;rw[a6]at ay;refine⟨.inr ⟨h0,rfl⟩,?_⟩;rw[Tn ai,show off*sz+i*sz+j=(off+i)*sz+j by rw[NJ]];have ec:(off+i)*sz+j < vs.length:=by
           have:=K0 sz (show off+i+1<=(φ b).2 by omega)
           grind
          grind
        . intro i j e t he ht;obtain⟨axV,ay⟩:=aVa hle he;obtain⟨v,cv,Y9⟩:=ar _ _ _ _ axV ht;simp only[List.getD,cv,Xo];exact k1.mono m Y9
    . exact c8
  . rw[aJ al];exact ho.mono (n:=λ_=>true) m (λ_ _=>rfl) (C.YR _) h
 | pr b sz i o=>
  simp only[C.k4];split
  . exact c8
  . exact h
 | _=>exact ho.mono (n:=λ_=>true) m (λ_ _=>rfl) (C.YR _) h
theorem atE{b0 y2:Nat}{es:List (List T)}:∀{vs:List V} {i:Nat},(V.k4.go b0 y2 es vs)[i]?=(vs[i]?).map (V.k4 b0 y2 es)
 | [],i=>by simp[V.k4.go]
 | v::vs,0=>by simp[V.k4.go]
 | v::vs,i+1=>by simp[V.k4.go,atE]
theorem auD{b0 y2:Nat}{es:List (List T)}:∀{vs:List V},(V.k4.go b0 y2 es vs).length=vs.length
 | []=>rfl
 | v::vs=>by simp[V.k4.go,auD]
theorem k'.k4{b0 y2:Nat}{es:List (List T)}(E1:r2 φ w S b0 (.arr y2 es)){v:V}{x:Value}(h:k' φ w S v x):k' φ w (ahG S (φ b0)) (v.k4 b0 y2 es) x:=by
 induction h with
 | c h=>exact .c (ho.k4 E1 h)
 | agg h=>exact .agg (h.abZ λ_ _=>ho.k4 E1)
 | gJ vs xs a6 h ih=>
  refine .gJ _ xs (by rw[auD];exact a6) ?_;intro i v x cv ad;rw[atE,gC]at cv
  grind
theorem C.adp{b0 y2:Nat}{es:List (List T)}{c:C}(h:c.c' n=true):(c.k4 b0 y2 es).c' n=true:=by
 cases c with
 | arr b sz off len=>simp only[C.k4];split;split;rfl;rfl;exact h
 | pr b sz i o=>simp only[C.k4];split;rfl;exact h
 | _=>exact h
theorem V.adp{b0 y2:Nat}{es:List (List T)}:∀{v:V},v.c' n=true->(v.k4 b0 y2 es).c' n=true
 | .c x,h=>by simp only[V.k4,V.c']at h ⊢;exact C.adp h
 | .agg cs,h=>by simp only[V.k4,V.c',Zh,r0]at h ⊢;intro c b7;exact C.adp (h c b7)
 | .gJ vs,h=>by simp only[V.k4,V.c']at h ⊢;exact go vs h
where go:∀vs,V.c'.V.Is n vs=true->V.c'.V.Is n (V.k4.go b0 y2 es vs)=true
 | [],_=>rfl
 | v::vs,h=>by simp only[V.k4.go,V.c'.V.Is,k0]at h ⊢;exact⟨V.adp h.1,go vs h.2⟩
theorem Rel.freeze(R:Rel c9 nt φ S env J n a w){b0 y2:Nat}{es:List (List T)}(l1:e1 J b0=some (.arr y2 es)):
 Rel c9 nt φ (ahG S (φ b0)) (acu b0 y2 es env) (YY b0 y2 es J) n a w:=by
 have E1:=R.h'.blk b0 _ l1;have m:N7 w S w (ahG S (φ b0)):=⟨λ_ _ h=>.inl h,λ_ _ _=>rfl⟩
 have L6:∀b x,e1 (YY b0 y2 es J) b=some x->b≠b0/\∃a',e1 J b=some a'/\x=a'.k4 b0 y2 es:=by
  intro b x ad;rw[aq2]at ad;split at ad
  . cases ad
  . rename_i h;simp only[gC]at ad
    grind
 have aiU:∀b x,b≠b0->e1 J b=some x->(φ b).2≠0->∀j,¬ahG S (φ b0) (φ b).1 j:=by
  intro b x hG ad h0 j c7;rcases c7 with c7 | ⟨am9,c7⟩
  . exact(R.h'.blk b x ad).ab2 h0 j c7
  . exact R.h'.inj b b0 x _ ad l1 hG h0 am9 c7
 refine⟨⟨λb x ad=>?_,λb hq x y ad bJ hG h0 Jj=>?_,λb j c7=>?_⟩,λk g v a6 b9=>?_,λk g v a6 b9=>?_,λk g v a6 b9=>?_,λb x ad=>?_,R.size,R.defers,?_,λb x ad h0=>?_,R.fix,R.Nu⟩
 . obtain⟨hG,a',MO,rfl⟩:=L6 b x ad;have JG:=R.h'.blk b a' MO;cases a' with
   | box cs=>
    obtain⟨h0,vs,E,h1,ah,b'⟩:=JG;exact⟨h0,vs,E,h1,ah.abZ λ_ _=>ho.k4 E1,aiU b _ hG MO h0⟩
   | arr sz l=>
    obtain⟨h1,ah,b',ea,hf⟩:=JG;refine⟨h1,ah,b',ea,λh0=>?_⟩;obtain⟨vs,E,hg,hv,h3,oo⟩:=hf h0;exact⟨vs,E,hg,hv,λi j e t he ht=>let⟨v,cv,ar⟩:=h3 i j e t he ht;⟨v,cv,k1.mono m ar⟩,aiU b _ hG MO h0⟩
   | set ks=>exact⟨JG.1,JG.2.1,aiU b _ hG MO JG.1⟩
   | buf E s=>exact⟨JG.1,JG.2.1,λh0=>⟨(JG.2.2 h0).1,aiU b _ hG MO h0⟩⟩
   | kn E c=>
    obtain⟨h0,⟨p,v,h1,ah,b'⟩,ea⟩:=JG;exact⟨h0,⟨p,v,h1,ah,ho.k4 E1 b'⟩,aiU b _ hG MO h0⟩
   | nJ sz l i o c=>
    obtain⟨⟨h1,ah,b',ea,hf,tJ⟩,⟨vs,E,hg,hv,h3,v,oo,u2⟩,s3⟩:=JG;exact⟨⟨h1,ah,b',ea,hf,tJ⟩,⟨vs,E,hg,hv,λi j e t he ht dy=>let⟨v,cv,ar⟩:=h3 i j e t he ht dy;⟨v,cv,k1.mono m ar⟩,v,oo,ho.k4 E1 u2⟩,aiU b _ hG MO (by omega)⟩
 . obtain⟨_,a',MO,rfl⟩:=L6 b x ad;obtain⟨_,Vz,Xk,rfl⟩:=L6 hq y bJ;exact R.h'.inj b hq a' Vz MO Xk hG h0 Jj
 . rcases c7 with c7 | ⟨am9,rfl⟩
   . exact R.h'.st b j c7
   . exact E1.Vq am9
 . rw[aku,gC]at a6;obtain⟨⟨g0,v0⟩,Ql,he⟩:=a6;cases he;obtain⟨x,ad,ar⟩:=R.Ot k g0 v0 Ql b9;exact⟨x,ad,k'.k4 E1 ar⟩
 . rw[aku,gC]at a6;obtain⟨⟨g0,v0⟩,Ql,he⟩:=a6;cases he;exact R.PK k g0 v0 Ql b9
 . rw[aku,gC]at a6;obtain⟨⟨g0,v0⟩,Ql,he⟩:=a6;cases he;exact V.adp (R.Oq k g0 v0 Ql b9)
 . obtain⟨_,a',MO,rfl⟩:=L6 b x ad;refine⟨(R.HJ b a' MO).1,?_⟩;have:=(R.HJ b a' MO).2;cases a' with
   | box cs=>simp only[h2.k4,h2.c',Zh,r0]at this ⊢;intro c b7;exact C.adp (this c b7)
   | arr sz l=>rfl
   | set ks=>rfl
   | buf E s=>rfl
   | kn E c=>simp only[h2.k4,h2.c']at this ⊢;exact C.adp this
   | nJ sz l i o c=>simp only[h2.k4,h2.c']at this ⊢;exact C.adp this
 . refine⟨R.ext.os,R.ext.tape,R.ext.output,R.ext.size,R.ext.block,R.ext.mono.trans m,λb j c7=>?_⟩;rcases c7 with c7 | ⟨am9,rfl⟩
   . exact R.ext.ad' b j c7
   . rcases R.own b0 _ l1 am9 with h | h
     . exact .inr (.inl h)
     . exact .inr (.inr h)
 . obtain⟨_,a',MO,rfl⟩:=L6 b x ad;exact R.own b a' MO h0
theorem l'.freeze{c:y'}{Q:Exit->Env->fu->Nat->Prop}(b0:Nat){y2:Nat}{es:List (List T)}(l1:e1 J b0=some (.arr y2 es))(h:l' P nt kk c (acu b0 y2 es env) (YY b0 y2 es J) N Q):l' P nt kk c env J N Q:=by
 intro code b7 c9 φ S a w k6 R;exact h code b7 c9 φ _ a w k6 (R.freeze l1)
inductive S' where
 | tmp (t:Nat)
 | cell (t:Nat) (agg:Bool) (n:Nat)
def P9(P:Program):List ResultVar->Option (List S')
 | []=>some []
 | .tmp t::r=>(P9 P r).map (.tmp t::·)
 | .cell a ty::r=>(afl P ty).bind λg=>(P9 P r).map (.cell a g.1 g.2::·)
def ae2(env:Env)(J:fu):S'->Option (Prop×V)
 | .tmp t=>(look env t).map λx=>(x.1=true,x.2)
 | .cell t g k=>match look env t with
  | some (g0,.c (.ptr b o))=>match e1 J b with
   | some (.box cs)=>(Us g k cs o).map λv=>(g0=true,v)
   | _=>none
  | _=>none
def ZT(env:Env)(J:fu):List S'->Option (Prop×List V)
 | []=>some (True,[])
 | r::rs=>(ae2 env J r).bind λx=>(ZT env J rs).map λy=>(x.1/\y.1,x.2::y.2)
def Yj :List V->V
 | [v]=>v
 | vs=>.gJ vs
def Ju(P:Program)(f:Nat)(args:List V)(J:fu)(k:Nat)(Q:V->fu->Nat->Prop):Prop:=
 ∀(φ:vt) (S:y0) (w:World) (B:Nat->Prop),ac6 φ w S J->(∀(b:Nat) x,e1 J b=some x->b < k/\x.c' (lt k)=true)->(∀(b:Nat) x,e1 J b=some x->(φ b).2≠0->B (φ b).1)->
  V.c'.V.Is (lt k) args=true->∀vs:List Value,f' (k' φ w S) args vs->
  Calls P f vs.toArray w λe w'=>∃v r hK ik J' N',e= .returned v/\Q r J' N'/\k' hK w' ik r v/\r.c' (lt N')=true/\ac6 hK w' ik J'/\(∀(b:Nat) x,e1 J' b=some x->b < N'/\x.c' (lt N')=true)/\Ext B S ik w w'/\
   (∀(b:Nat) x,e1 J' b=some x->(hK b).2≠0->B (hK b).1\/w.heap.size<=(hK b).1)/\∀b,b < k->hK b=φ b
theorem Ext.refl{B:Nat->Prop}:Ext B S S w w:=⟨rfl,rfl,rfl,JK _,λ_ _ _=>rfl,N7.refl _ _,λ_ _ h=>.inl h⟩
def Nk :Nat->List V->Env
 | _,[]=>[]
 | i,v::vs=>(i,true,v)::Nk (i+1) vs
theorem aqK :∀{vs:List V} {i k:Nat} {g:Bool} {v:V},look (Nk i vs) k=some (g,v)->g=true/\∃j,k=i+j/\vs[j]?=some v
 | [],i,k,g,v,h=>by simp[Nk,look]at h
 | x::vs,i,k,g,v,h=>by
  simp only[Nk,look]at h;split at h
  . simp_all
  . obtain⟨h1,j,ah,b'⟩:=aqK h;exact⟨h1,j+1,by omega,by simpa using b'⟩
def ajA(a:Act):ResultVar->Sem Value
 | .tmp t=>Pure.pure (a.tmps.getD t undef)
 | .cell kc ty=>do loadVar ty (<-asAddr (a.tmps.getD kc undef))
theorem aT3(fn:Func)(a:Act):results fn a.tmps=(fn.results.mapM (ajA a) >>=λvs=>Pure.pure (if h:vs.size=1 then vs[0]else .tuple vs)):=by rfl
theorem aSQ(R:Rel c9 nt φ S env J n a w){aas:ResultVar}{Z0:S'}(ar:P9 P [aas]=some [Z0]){p:Prop}{v:V}(h:ae2 env J Z0=some (p,v))(bo:p):
 ∃x,(ajA a aas).run P w= .ok x w/\k' φ w S v x/\v.c' n=true:=by
 cases aas with
 | tmp t=>
  simp[P9]at ar;subst ar;simp only[ae2,gC,hO]at h;obtain⟨⟨g,v0⟩,a6,rfl,rfl⟩:=h;obtain⟨x,ad,OA⟩:=R.Ot t g v0 a6 bo;refine⟨x,?_,OA,R.Oq t g v0 a6 bo⟩;simp[ajA,ad]
 | cell kc ty=>
  simp only[P9,hC,gC]at ar;obtain⟨g,b9,l,a6,he⟩:=ar;simp at a6;subst a6;simp at he;subst he;simp only[ae2]at h;split at h
  . rename_i g0 b o a6;split at h
    . rename_i cs l1;simp only[gC,hO]at h;obtain⟨v0,ri,rfl,rfl⟩:=h;obtain⟨x,ad,OA⟩:=R.Ot kc g0 _ a6 bo;have:=OA.PZ;subst this;obtain⟨_,vs,E,ai,oj,_⟩:=R.h'.blk _ _ l1;obtain⟨y,bJ,h1,ah⟩:=afc (n:=n) b9 oj (R.HJ _ _ l1).2 (λj _=>by rw[Tn ai,NI]) ri;rw[NI]at bJ;refine⟨y,?_,h1,ah⟩
      simp[ajA,ad,asAddr,bJ]
    . cases h
  . cases h
theorem aEh(R:Rel c9 nt φ S env J n a w):∀{asT:List ResultVar} {LM:List S'} {p:Prop} {vs:List V},P9 P asT=some LM -> ZT env J LM=some (p,vs) -> p ->
 ∃xs:List Value,(asT.mapM (ajA a)).run P w= .ok xs w/\f' (k' φ w S) vs xs/\V.c'.V.Is n vs=true
 | [],LM,p,vs,ar,h,bo=>by
  simp[P9]at ar;subst ar;simp[ZT]at h;obtain⟨_,rfl⟩:=h;exact⟨[],by simp,.nil,rfl⟩
 | aas::asT,LM,p,vs,ar,h,bo=>by
  have a0u:∃Z0 auL,LM=Z0::auL/\P9 P [aas]=some [Z0]/\P9 P asT=some auL:=by
   cases aas with
   | tmp t=>
    simp only[P9,gC]at ar;obtain⟨l,a6,rfl⟩:=ar;exact⟨_,l,rfl,rfl,a6⟩
   | cell kc ty=>
    simp only[P9,hC,gC]at ar;obtain⟨g,b9,l,a6,rfl⟩:=ar;exact⟨_,l,rfl,by simp[P9,b9],a6⟩
  obtain⟨Z0,auL,rfl,h1,ah⟩:=a0u;simp only[ZT,hC,gC]at h;obtain⟨⟨q,v⟩,eg,⟨ad4,Xx⟩,abU,he⟩:=h;simp only[hO]at he;obtain⟨rfl,rfl⟩:=he;obtain⟨x,ad,cv,al⟩:=aSQ R h1 eg bo.1;obtain⟨xs,TM,Jl,QN⟩:=aEh R ah abU bo.2;refine⟨x::xs,?_,.cons cv Jl,by simp[V.c'.V.Is,al,QN]⟩;simp_all
theorem k'.Yj{vs:List V}{xs:List Value}(h:f' (k' φ w S) vs xs):k' φ w S (Yj vs) (if h:xs.toArray.size=1 then xs.toArray[0]else .tuple xs.toArray):=by
 cases h with
 | nil=>exact .gJ [] [] rfl (by simp)
 | cons h1 ah=>
  cases ah with
  | nil=>simpa[Shv.Yj]using h1
  | cons ah b'=>
   rw[dif_neg (by simp)];refine .gJ _ _ (by simp[b'.length]) ?_;intro i v x cv ad;have:=(f'.cons h1 (.cons ah b')).get cv
   grind
theorem aVO{vs:List V}(h:V.c'.V.Is n vs=true):(Yj vs).c' n=true:=by
 unfold Yj;split
 . simp[V.c'.V.Is]at h;exact h
 . simpa[V.c']using h
def atg(LM:List S')(Q:V->fu->Nat->Prop):Exit->Env->fu->Nat->Prop
 | .normal,env,J,N=>∃p vs,ZT env J LM=some (p,vs)/\p/\Q (Yj vs) J N
 | .ret,env,J,N=>∃p vs,ZT env J LM=some (p,vs)/\p/\Q (Yj vs) J N
 | _,_,_,_=>False
theorem Ju.ay' {f:Nat} {fn:Func} {code:Code} {c:y'} {LM:List S'} (cJ:P.funcs[f]?=some fn) (al:fn.body=some code) (b7:resolve P fn.ntmps code=some c) (ar:P9 P fn.results.toList=some LM)
 {args:List V} (dy:args.length<=fn.ntmps) {k:Nat} {Q:V->fu->Nat->Prop} (h:l' P fn.ntmps k c (Nk 0 args) J k (atg LM Q)):Ju P f args J k Q:=by
 intro φ S w B Og Jd Y7 JC vs Jl;have a6:=Jl.length;refine calls_of_wp cJ al ?_;have R:Rel ⟨w,S,B,φ,k⟩ fn.ntmps φ S (Nk 0 args) J (lt k) {tmps:=vs.toArray++Array.replicate (fn.ntmps - vs.toArray.size) undef,defers:=[]} w:=by
  refine⟨Og,λi g v L2 b9=>?_,λi g v L2 b9=>?_,λi g v L2 b9=>?_,λb x ad=>?_,?_,rfl,Ext.refl,λb x ad h0=>.inl (Y7 b x ad h0),λ_ _=>rfl,λb al=>by simp[lt];exact al⟩
  . obtain⟨_,j,rfl,c7⟩:=aqK L2;obtain⟨x,ad,ar⟩:=Jl.get c7
    grind
  . have:=(aqK L2).1;rw[this]at b9;cases b9
  . obtain⟨_,j,rfl,c7⟩:=aqK L2;exact ZL JC c7
  . obtain⟨h1,ah⟩:=Jd b x ad;exact⟨by simp[lt];exact h1,ah⟩
  grind
 refine wp_mono (h code b7 ⟨w,S,B,φ,k⟩ φ S _ w rfl R) ?_
 rintro e q' w' ⟨hK,ik,env',J',N',eg,R'⟩
 have fin : (∃ p vs, ZT env' J' LM = some (p, vs) /\ p /\ Q (Yj vs) J' N') -> q'.defers = [] /\ ∃ v, (results fn q'.tmps).run P w' = .ok v w' /\ (∃ Lr r ajS ag1 ao9 ao', Ending.returned v = .returned Lr /\ Q r ao9 ao' /\ k' ajS w' ag1 r Lr /\ r.c' (lt ao') = true /\ ac6 ajS w' ag1 ao9 /\ (∀ (b : Nat) x, e1 ao9 b = some x -> b < ao' /\ x.c' (lt ao') = true) /\ Ext B S ag1 w w' /\
  (∀(b:Nat) x,e1 ao9 b=some x->(ajS b).2≠0->B (ajS b).1\/w.heap.size<=(ajS b).1)/\∀b,b < k->ajS b=φ b):=by
  rintro ⟨p,rs,h1,ah,b'⟩
  obtain⟨xs,TM,OA,NV⟩:=aEh R' ar h1 ah;refine⟨R'.defers,_,?_,_,Yj rs,hK,ik,J',N',rfl,b',k'.Yj OA,aVO NV,R'.h',λb x ad=>?_,R'.ext,R'.own,R'.fix⟩
  . have hm:(fn.results.mapM (ajA q')).run P w'= .ok xs.toArray w':=by
     rw[Array.mapM_eq_mapM_toList];simp_all
    rw[aT3];simp only[Sem.run_bind,hm,Result.andThen_ok];rfl
  . obtain⟨h1,ah⟩:=R'.HJ b x ad;exact⟨by simpa[lt]using h1,ah⟩
 cases e with
 | normal=>exact fin eg
 | ret=>exact fin eg
 | exit id=>exact eg.elim
 | goto l=>exact eg.elim
 | panic aA0=>exact eg.elim
 | outgrown=>exact eg.elim
end
end
end Go.Proofs.YtijpinendaoleaaGreat.Shv
namespace Go.Proofs.YtijpinendaoleaaGreat.Shv
set_option linter.all false
open Go
def C.hL(k:Nat):C->C
 | .ptr b o=>.ptr (k+b) o
 | .pr b sz i o=>.pr (k+b) sz i o
 | .arr b sz off len=>.arr (k+b) sz off len
 | .MW b sz off len=>.MW (k+b) sz off len
 | .mp b=>.mp (k+b)
 | .Jx b=>.Jx (k+b)
 | .pq b len=>.pq (k+b) len
 | .fn f caps=>.fn f (caps.map (k+·))
 | c=>c
def V.hL(k:Nat):V->V
 | .c x=>.c (x.hL k)
 | .agg cs=>.agg (cs.map (C.hL k))
 | .gJ vs=>.gJ (go k vs)
where go (k:Nat):List V->List V
 | []=>[]
 | v::vs=>v.hL k::go k vs
def h2.hL(k:Nat):h2->h2
 | .box cs=>.box (cs.map (C.hL k))
 | .arr sz es=>.arr sz es
 | .set ks=>.set ks
 | .buf E s=>.buf E s
 | .kn E c=>.kn E (c.hL k)
 | .nJ sz es i o c=>.nJ sz es i o (c.hL k)
def XT(J:fu)(k:Nat):fu->fu
 | []=>J
 | (b,x)::r=>vc (XT J k r) (k+b) (x.hL k)
theorem akN{J:fu}{k:Nat}:∀{ki:fu} {b:Nat},e1 (XT J k ki) b=match (if k<=b then e1 ki (b - k)else none)with | some x=>some (x.hL k) | none=>e1 J b
 | [],b=>by simp[XT,e1]
 | (c,x)::r,b=>by
  simp only[XT,q6,akN,e1]
  grind
section
variable {P:Program} {c9:Ctx} {nt kk:Nat} {φ:vt} {S ik:y0} {env:Env} {J:fu} {N key:Nat} {n:Nat->Bool} {a:Act} {w w':World}
theorem Pv.aza{f:Nat}{args:List V}{r:V}(h:Ju P f args [] 0 (λI1 _ _=>I1=r))(al:V.c'.V.Is (lt 0) args=true)(ar:r.c' (lt 0)=true){K:V->fu->Prop}(qs:K r J):Pv P f args J key K:=by
 intro c9 nt φ S env n a w R dy Oe vs Jl;refine(h φ S w (λ_=>False) ⟨λb x ad=>by simp[e1]at ad,λb hq x y ad=>by simp[e1]at ad,R.h'.st⟩ (λb x ad=>by simp[e1]at ad) (λb x ad=>by simp[e1]at ad) al vs Jl).mono ?_
 rintro e w' ⟨v,I1,hK,ik,J',N',rfl,rfl,h1,ah,b',ea,hf,tJ,M1⟩
 refine⟨v,I1,φ,ik,J,rfl,qs,?_,V.O5 (λb h=>by simp[lt]at h) ar,(R.extend hf b'.st).more λ_ h=>XH h⟩;exact k'.mono (N7.refl _ _) (n:=lt 0) (λb h=>by simp[lt]at h) ar h1
theorem ho.hL{hK:vt}{k:Nat}{n:Nat->Bool}(n1:∀b,n b=true->hK (k+b)=φ b){c:C}{v:Value}(al:c.c' n=true)(h:ho φ w S c v):ho hK w S (c.hL k) v:=by
 cases c with
 | ptr b o=>simp only[C.c']at al;simp only[C.hL,ho,n1 b al];exact h
 | pr b sz i o=>simp only[C.c']at al;simp only[C.hL,ho,n1 b al];exact h
 | arr b sz off len=>simp only[C.c']at al;simp only[C.hL,ho,n1 b al];exact h
 | MW b sz off len=>simp only[C.c']at al;simp only[C.hL,ho,n1 b al];exact h
 | mp b=>simp only[C.c']at al;simp only[C.hL,ho,n1 b al];exact h
 | Jx b=>simp only[C.c']at al;simp only[C.hL,ho,n1 b al];exact h
 | pq b len=>simp only[C.c']at al;simp only[C.hL,ho,n1 b al];exact h
 | fn f caps=>
  simp only[C.c',r0]at al;simp only[C.hL,ho]at h ⊢;simp_all
 | _=>exact h
theorem aF2{k:Nat}:∀{vs:List V} {i:Nat},(V.hL.go k vs)[i]?=(vs[i]?).map (V.hL k)
 | [],i=>by simp[V.hL.go]
 | v::vs,0=>by simp[V.hL.go]
 | v::vs,i+1=>by simp[V.hL.go,aF2]
theorem aEi{k:Nat}:∀{vs:List V},(V.hL.go k vs).length=vs.length
 | []=>rfl
 | v::vs=>by simp[V.hL.go,aEi]
theorem k'.hL{hK:vt}{k:Nat}{n:Nat->Bool}(n1:∀b,n b=true->hK (k+b)=φ b){v:V}{x:Value}(al:v.c' n=true)(h:k' φ w S v x):k' hK w S (v.hL k) x:=by
 induction h with
 | c h=>exact .c (ho.hL n1 (by simpa[V.c']using al) h)
 | @agg cs vs h=>
  simp only[V.c',r0]at al;refine .agg ?_;have:=h.imp (R':=λc v=>ho hK w S (C.hL k c) v) λc v b7 ar=>ho.hL n1 (al c b7) ar
  exact this.abZ λ_ _ h=>h
 | gJ vs xs a6 h ih=>
  refine .gJ _ xs (by rw[aEi];exact a6) ?_;intro i v x cv ad;rw[aF2,gC]at cv;obtain⟨v0,ri,rfl⟩:=cv;exact ih i v0 x ri ad (ZL (by simpa[V.c']using al) ri)
theorem C.ad9{m:Nat}(hm:m<=16){c:C}(h:c.c' (lt m)=true):(c.hL key).c' (JI n key)=true:=by
 cases c <;> simp only[C.hL,C.c',lt,JI,ye,Qp,k0,r0,Lp]at h ⊢
 . right;omega
 . right;omega
 . right;omega
 . right;omega
 . right;omega
 . right;omega
 . right;omega
 grind
theorem V.ad9{m:Nat}(hm:m<=16):∀{v:V},v.c' (lt m)=true->(v.hL key).c' (JI n key)=true
 | .c x,h=>by simp only[V.hL,V.c']at h ⊢;exact C.ad9 hm h
 | .agg cs,h=>by simp only[V.hL,V.c',Zh,r0]at h ⊢;intro c b7;exact C.ad9 hm (h c b7)
 | .gJ vs,h=>by simp only[V.hL,V.c']at h ⊢;exact go vs h
where go:∀vs,V.c'.V.Is (lt m) vs=true->V.c'.V.Is (JI n key) (V.hL.go key vs)=true
 | [],_=>rfl
 | v::vs,h=>by simp only[V.hL.go,V.c'.V.Is,k0]at h ⊢;exact⟨V.ad9 hm h.1,go vs h.2⟩
theorem Pv.a1m {f:Nat} {args:List V} {Q:V -> fu -> Nat -> Prop} (h:Ju P f args [] 0 Q) (al:V.c'.V.Is (lt 0) args=true) {K:V -> fu -> Prop}
 (qs:∀r J' N',Q r J' N'->N'<=16/\K (r.hL key) (XT J key J')):Pv P f args J key K:=by
 intro c9 nt φ S env n a w R dy Oe vs Jl;refine(h φ S w (λ_=>False) ⟨λb x ad=>by simp[e1]at ad,λb hq x y ad=>by simp[e1]at ad,R.h'.st⟩ (λb x ad=>by simp[e1]at ad) (λb x ad=>by simp[e1]at ad) al vs Jl).mono ?_
 rintro e w' ⟨v,I1,hK,ik,J',N',rfl,Jb,h1,ah,b',ea,hf,tJ,M1⟩
 obtain⟨lo,qs⟩:=qs _ _ _ Jb;have k2:=R.extend hf b'.st
 let Pq:vt:=λb=>if key<=b/\b < key+16 then hK (b - key)else φ b
 have anK:∀b,n b=true->Pq b=φ b:=by grind
 have Up:∀b,lt N' b=true->Pq (key+b)=hK b:=by
  intro b al;simp only[lt,ye]at al
  grind
 have C0:=k2.aok anK;have x':∀b x,e1 (XT J key J') b=some x->(∃c a',b=key+c/\e1 J' c=some a'/\x=a'.hL key)\/e1 J b=some x:=by
  intro b x ad;rw[akN]at ad
  grind
 have abS:∀c a',e1 J' c=some a'->(Pq (key+c)).2≠0->w.heap.size<=(Pq (key+c)).1:=by grind
 have hold:∀b x,e1 J b=some x->(Pq b).2≠0->(Pq b).1 < w.heap.size:=by
  intro b x ad h0;rw[anK b (R.HJ b x ad).1]at h0 ⊢;exact(R.h'.blk b x ad).Vq h0
 refine⟨v,I1.hL key,Pq,ik,XT J key J',rfl,qs,k'.hL Up ah h1,V.ad9 lo ah,⟨⟨λb x ad=>?_,λb hq x y ad bJ hG h0 Jj=>?_,b'.st⟩,C0.Ot,C0.PK,λk g v a6 b9=>V.O5 (λ_ h=>XH h) (C0.Oq k g v a6 b9),λb x ad=>?_,C0.size,C0.defers,C0.ext,λb x ad h0=>?_,C0.fix,λb al=>XH (C0.Nu b al)⟩⟩
 . rcases x' b x ad with⟨c,a',rfl,b7,rfl⟩ | ad
   . have E1:=b'.blk c a' b7;have NW:=ea c a' b7;have eh:=Up c (by simp[lt];exact NW.1);cases a' with
     | box cs=>
      obtain⟨Nr,vs,E,hg,hv,h3⟩:=E1;simp only[h2.hL,r2,eh];refine⟨Nr,vs,E,hg,?_,h3⟩;have y1:=NW.2;simp only[h2.c',r0]at y1;have:=hv.imp (R':=λc v=>ho Pq w' ik (C.hL key c) v) λc v b7 ar=>ho.hL Up (y1 c b7) ar
      exact this.abZ λ_ _ h=>h
     | arr sz es=>simp only[h2.hL,r2,eh];exact E1
     | set ks=>simp only[h2.hL,r2,eh];exact E1
     | buf E s=>simp only[h2.hL,r2,eh];exact E1
     | kn E c=>
      obtain⟨Nr,⟨p,v,hg,hv,h3⟩,oo⟩:=E1;simp only[h2.hL,r2,eh];exact⟨Nr,⟨p,v,hg,hv,ho.hL Up (by simpa[h2.c']using NW.2) h3⟩,oo⟩
     | nJ sz es i o c=>
      obtain⟨h1,⟨vs,E,hg,hv,h3,v,oo,u2⟩,s3⟩:=E1;simp only[h2.hL,r2,eh];exact⟨h1,⟨vs,E,hg,hv,h3,v,oo,ho.hL Up (by simpa[h2.c']using NW.2) u2⟩,s3⟩
   . exact C0.h'.blk b x ad
 . rcases x' b x ad with⟨c,a',rfl,b7,rfl⟩ | ad <;> rcases x' hq y bJ with⟨C4,TR,rfl,O8,rfl⟩ | bJ
   . have eh:=Up c (by simp[lt];exact(ea c a' b7).1);have hj:=Up C4 (by simp[lt];exact(ea C4 TR O8).1);rw[eh]at h0 ⊢;rw[hj]at Jj ⊢;exact b'.inj c C4 a' TR b7 O8 (by omega) h0 Jj
   . have:=abS c a' b7 h0;have:=hold hq y bJ Jj;omega
   . have:=abS C4 TR O8 Jj;have:=hold b x ad h0;omega
   . exact C0.h'.inj b hq x y ad bJ hG h0 Jj
 . rcases x' b x ad with⟨c,a',rfl,b7,rfl⟩ | ad
   . obtain⟨hg,hv⟩:=ea c a' b7;refine⟨by simp[JI];right;omega,?_⟩;cases a' with
     | box cs=>
      simp only[h2.hL,h2.c',Zh,r0]at hv ⊢;intro c b7;exact C.ad9 lo (hv c b7)
     | arr sz es=>rfl
     | set ks=>rfl
     | buf E s=>rfl
     | kn E c=>simp only[h2.hL,h2.c']at hv ⊢;exact C.ad9 lo hv
     | nJ sz es i o c=>simp only[h2.hL,h2.c']at hv ⊢;exact C.ad9 lo hv
   . obtain⟨hg,hv⟩:=C0.HJ b x ad;exact⟨XH hg,h2.O5 (λ_ h=>XH h) hv⟩
 . rcases x' b x ad with⟨c,a',rfl,b7,rfl⟩ | ad
   . exact .inr (RD R.ext.size (abS c a' b7 h0))
   . exact C0.own b x ad h0
end
end Go.Proofs.YtijpinendaoleaaGreat.Shv
namespace Go.Proofs.YtijpinendaoleaaGreat.Shv
theorem Ju.mk {P:Program} {f:Nat} {fn:Func} {c:y'} {LM:List S'} {J:fu} (cJ:P.funcs[f]?=some fn) (b7:fn.body.bind (resolve P fn.ntmps)=some c) (ar:P9 P fn.results.toList=some LM)
 {args:List V} {nt:Nat} (af5:fn.ntmps=nt) (dy:args.length<=nt) {k:Nat} {Q:V->fu->Nat->Prop} (h:l' P nt k c (Nk 0 args) J k (atg LM Q)):Ju P f args J k Q:=by
 subst af5;obtain⟨code,h1,ah⟩:=agx.1 b7;exact Ju.ay' cJ h1 ah ar dy h
end Go.Proofs.YtijpinendaoleaaGreat.Shv
namespace Go.Proofs.YtijpinendaoleaaGreat.Shv
set_option linter.all false
section
open Go
def C.kp(f:Nat->Nat):C->C
 | .ptr b o=>.ptr (f b) o
 | .pr b sz i o=>.pr (f b) sz i o
 | .arr b sz off len=>.arr (f b) sz off len
 | .MW b sz off len=>.MW (f b) sz off len
 | .mp b=>.mp (f b)
 | .Jx b=>.Jx (f b)
 | .pq b len=>.pq (f b) len
 | .fn g caps=>.fn g (caps.map f)
 | c=>c
def V.kp(f:Nat->Nat):V->V
 | .c x=>.c (x.kp f)
 | .agg cs=>.agg (cs.map (C.kp f))
 | .gJ vs=>.gJ (go f vs)
where go (f:Nat->Nat):List V->List V
 | []=>[]
 | v::vs=>v.kp f::go f vs
def h2.kp(f:Nat->Nat):h2->h2
 | .box cs=>.box (cs.map (C.kp f))
 | .arr sz es=>.arr sz es
 | .set ks=>.set ks
 | .buf E s=>.buf E s
 | .kn E c=>.kn E (c.kp f)
 | .nJ sz es i o c=>.nJ sz es i o (c.kp f)
def Z4(J:fu):List Nat->fu
 | []=>J
 | b::r=>Qr (Z4 J r) b
theorem abb{J:fu}:∀{bs:List Nat} {b:Nat},e1 (Z4 J bs) b=if b∈bs then none else e1 J b
 | [],b=>by simp[Z4]
 | c::r,b=>by
  simp only[Z4,Nb,abb (bs:=r)]
  grind
def back(bs:List Nat)(key:Nat)(b:Nat):Nat:=(bs[b]?).getD (key+(b - bs.length))
def O0(J:fu)(bs:List Nat)(f:Nat->Nat):fu->fu
 | []=>Z4 J bs
 | (b,x)::r=>vc (O0 J bs f r) (f b) (x.kp f)
theorem aF3{J:fu}{bs:List Nat}{f:Nat->Nat}:∀{ki:fu} {c:Nat} {x:h2},e1 (O0 J bs f ki) c=some x->(∃b a',c=f b/\e1 ki b=some a'/\x=a'.kp f)\/(c ∉ bs/\e1 J c=some x)
 | [],c,x,h=>by
  simp only[O0,abb]at h
  grind
 | (b,y)::r,c,x,h=>by
  simp only[O0,q6]at h;split at h
  . rename_i al;cases h;exact .inl ⟨b,y,al.symm,by simp[e1],rfl⟩
  . rename_i al;rcases aF3 h with⟨hq,a',h1,ah,b'⟩ | h
    . refine .inl ⟨hq,a',h1,?_,b'⟩;simp only[e1]
      grind
    grind
section
variable {P:Program} {c9:Ctx} {nt kk:Nat} {φ:vt} {S ik:y0} {env:Env} {J:fu} {N key:Nat} {n:Nat->Bool} {a:Act} {w w':World} {f:Nat->Nat}
theorem ho.kp{hK:vt}{n:Nat->Bool}(n1:∀b,n b=true->hK (f b)=φ b){c:C}{v:Value}(al:c.c' n=true)(h:ho φ w S c v):ho hK w S (c.kp f) v:=by
 cases c with
 | ptr b o=>simp only[C.c']at al;simp only[C.kp,ho,n1 b al];exact h
 | pr b sz i o=>simp only[C.c']at al;simp only[C.kp,ho,n1 b al];exact h
 | arr b sz off len=>simp only[C.c']at al;simp only[C.kp,ho,n1 b al];exact h
 | MW b sz off len=>simp only[C.c']at al;simp only[C.kp,ho,n1 b al];exact h
 | mp b=>simp only[C.c']at al;simp only[C.kp,ho,n1 b al];exact h
 | Jx b=>simp only[C.c']at al;simp only[C.kp,ho,n1 b al];exact h
 | pq b len=>simp only[C.c']at al;simp only[C.kp,ho,n1 b al];exact h
 | fn g caps=>
  simp only[C.c',r0]at al;simp only[C.kp,ho]at h ⊢;simp_all
 | _=>exact h
theorem awJ :∀{vs:List V} {i:Nat},(V.kp.go f vs)[i]?=(vs[i]?).map (V.kp f)
 | [],i=>by simp[V.kp.go]
 | v::vs,0=>by simp[V.kp.go]
 | v::vs,i+1=>by simp[V.kp.go,awJ]
theorem auJ :∀{vs:List V},(V.kp.go f vs).length=vs.length
 | []=>rfl
 | v::vs=>by simp[V.kp.go,auJ]
theorem k'.kp{hK:vt}{n:Nat->Bool}(n1:∀b,n b=true->hK (f b)=φ b){v:V}{x:Value}(al:v.c' n=true)(h:k' φ w S v x):k' hK w S (v.kp f) x:=by
 induction h with
 | c h=>exact .c (ho.kp n1 (by simpa[V.c']using al) h)
 | @agg cs vs h=>
  simp only[V.c',r0]at al;refine .agg ?_;have:=h.imp (R':=λc v=>ho hK w S (C.kp f c) v) λc v b7 ar=>ho.kp n1 (al c b7) ar
  exact this.abZ λ_ _ h=>h
 | gJ vs xs a6 h ih=>
  refine .gJ _ xs (by rw[auJ];exact a6) ?_;intro i v x cv ad;rw[awJ,gC]at cv;obtain⟨v0,ri,rfl⟩:=cv;exact ih i v0 x ri ad (ZL (by simpa[V.c']using al) ri)
theorem C.adO{n m:Nat->Bool}(cJ:∀b,m b=true->n (f b)=true){c:C}(h:c.c' m=true):(c.kp f).c' n=true:=by
 cases c <;> simp only[C.kp,C.c',r0,Lp]at h ⊢
 . exact cJ _ h
 . exact cJ _ h
 . exact cJ _ h
 . exact cJ _ h
 . exact cJ _ h
 . exact cJ _ h
 . exact cJ _ h
 grind
theorem V.adO{n m:Nat->Bool}(cJ:∀b,m b=true->n (f b)=true):∀{v:V},v.c' m=true->(v.kp f).c' n=true
 | .c x,h=>by simp only[V.kp,V.c']at h ⊢;exact C.adO cJ h
 | .agg cs,h=>by simp only[V.kp,V.c',Zh,r0]at h ⊢;intro c b7;exact C.adO cJ (h c b7)
 | .gJ vs,h=>by simp only[V.kp,V.c']at h ⊢;exact go vs h
where go:∀vs,V.c'.V.Is m vs=true->V.c'.V.Is n (V.kp.go f vs)=true
 | [],_=>rfl
 | v::vs,h=>by simp only[V.kp.go,V.c'.V.Is,k0]at h ⊢;exact⟨V.adO cJ h.1,go vs h.2⟩
theorem Rel.aOK{B:Nat->Prop}(R:Rel c9 nt φ S env J n a w)(e:Ext B S ik w w')(u':∀b j,ik b j->b < w'.heap.size)(ayc:∀b x,e1 J b=some x->(φ b).2≠0->¬B (φ b).1)(E1:∀b,B b->c9.B b\/c9.TP.heap.size<=b):Rel c9 nt φ ik env J n a w':=by
 have ai:∀b x,e1 J b=some x->(φ b).2≠0->w'.heap[(φ b).1]?=w.heap[(φ b).1]?:=λb x ad h0=>e.block _ ((R.h'.blk b x ad).Vq h0) (ayc b x ad h0)
 have JP:∀b x,e1 J b=some x->(φ b).2≠0->∀j,¬ik (φ b).1 j:=by
  intro b x ad h0 j c7;have al:=R.h'.blk b x ad;rcases e.ad' _ _ c7 with h | h | h
  . exact al.ab2 h0 j h
  . grind
  grind
 refine⟨⟨λb x ad=>?_,R.h'.inj,u'⟩,λk g v a6 b9=>?_,R.PK,R.Oq,R.HJ,R.size,R.defers,?_,R.own,R.fix,R.Nu⟩
 . have al:=R.h'.blk b x ad;cases x with
   | box cs=>
    obtain⟨h0,vs,E,h1,ah,b'⟩:=al;refine⟨h0,vs,E,(ai _ _ ad h0).trans h1,ah.imp λc v b7 ar=>ho.mono (n:=λ_=>true) e.mono (λ_ _=>rfl) (C.YR _) ar,JP b _ ad h0⟩
   | arr sz es=>
    obtain⟨h1,ah,b',ea,hf⟩:=al;refine⟨h1,ah,b',ea,λh0=>?_⟩;obtain⟨vs,E,hg,hv,h3,oo⟩:=hf h0;exact⟨vs,E,(ai _ _ ad h0).trans hg,hv,λi j sK t he ht=>let⟨v,cv,ar⟩:=h3 i j sK t he ht;⟨v,cv,k1.mono e.mono ar⟩,JP b _ ad h0⟩
   | set ks=>
    obtain⟨h0,⟨es,c,h1,ah⟩,b'⟩:=al;exact⟨h0,⟨es,c,(ai _ _ ad h0).trans h1,ah⟩,JP b _ ad h0⟩
   | buf E s=>
    obtain⟨h1,ah,b'⟩:=al;refine⟨h1,ah,λh0=>?_⟩
    grind
   | kn E c=>
    obtain⟨h0,⟨p,v,h1,ah,b'⟩,ea⟩:=al;exact⟨h0,⟨p,v,(ai _ _ ad h0).trans h1,ah,ho.mono (n:=λ_=>true) e.mono (λ_ _=>rfl) (C.YR _) b'⟩,JP b _ ad h0⟩
   | nJ sz es i o c=>
    obtain⟨⟨h1,ah,b',ea,hf,tJ⟩,⟨vs,E,hg,hv,h3,v,oo,u2⟩,s3⟩:=al;exact⟨⟨h1,ah,b',ea,hf,tJ⟩,⟨vs,E,(ai _ _ ad (by omega)).trans hg,hv,λi j sK t he ht dy=>let⟨v,cv,ar⟩:=h3 i j sK t he ht dy;⟨v,cv,k1.mono e.mono ar⟩,v,oo,ho.mono (n:=λ_=>true) e.mono (λ_ _=>rfl) (C.YR _) u2⟩,JP b _ ad (by omega)⟩
 . obtain⟨x,ad,ar⟩:=R.Ot k g v a6 b9;exact⟨x,ad,k'.mono e.mono (λ_ _=>rfl) (R.Oq k g v a6 b9) ar⟩
 . refine⟨e.os.trans R.ext.os,e.tape.trans R.ext.tape,e.output.trans R.ext.output,RD R.ext.size e.size,λb ec al=>?_,R.ext.mono.trans e.mono,λb j c7=>?_⟩
   . refine(e.block b (Ya ec R.ext.size) λh=>?_).trans (R.ext.block b ec al)
     grind
   . rcases e.ad' _ _ c7 with h | h | h
     . exact R.ext.ad' b j h
     . grind
     . exact .inr (.inr (RD R.ext.size h))
theorem Pv.raw {fn:Nat} {args:List V} {bs:List Nat} {Q:V -> fu -> Nat -> Prop} (ix:bs.Nodup) (ec:∀b,b∈bs -> b < key) (h:Ju P fn (args.map (V.hZ bs)) (MC bs J 0 bs) bs.length Q) {K:V -> fu -> Prop}
 (qs:∀r J' N',Q r J' N'->N'<=bs.length+16/\K (r.kp (back bs key)) (O0 J bs (back bs key) J')):(∀b,b∈bs->n b=true)->∀c9 nt φ S env a w,Rel c9 nt φ S env J n a w->(∀b,key<=b->b < key+16->n b=false)->V.c'.V.Is n args=true->∀vs:List Value,f' (k' φ w S) args vs->
 Calls P fn vs.toArray w λe w'=>∃v r hK ik J',e= .returned v/\K r J'/\k' hK w' ik r v/\r.c' (JI n key)=true/\Rel c9 nt hK ik env J' (JI n key) a w':=by
 intro Rr c9 nt φ S env a w R dy Oe vs Jl
 let acj:vt:=λi=>φ ((bs[i]?).getD 0)
 have anJ:∀(i:Nat) b,bs[i]?=some b->acj i=φ b:=by intro i b h;simp[acj,h]
 let B:Nat->Prop:=λβ=>∃b x,b∈bs/\e1 J b=some x/\(φ b).2≠0/\β=(φ b).1
 have PT:∀b x,e1 (MC bs J 0 bs) b=some x->∃c a',bs[b]?=some c/\e1 J c=some a'/\x=a'.hZ bs:=by
  intro b x ad;obtain⟨j,c,a',rfl,ah,b',rfl⟩:=aaK ad
  grind
 have Og:ac6 acj w S (MC bs J 0 bs):=by
  refine⟨λb x ad=>?_,λb hq x y ad bJ hG h0 Jj=>?_,R.h'.st⟩
  . obtain⟨c,a',ah,b',rfl⟩:=PT b x ad;exact r2.hZ anJ ah (R.h'.blk c a' b')
  . obtain⟨c,a',ah,b',rfl⟩:=PT b x ad;obtain⟨C4,TR,Xd,adr,rfl⟩:=PT hq y bJ;rw[anJ b c ah]at h0 ⊢;rw[anJ hq C4 Xd]at Jj ⊢;refine R.h'.inj c C4 a' TR b' adr ?_ h0 Jj;intro e;subst e;obtain⟨a1,b1⟩:=sb.1 ah;obtain⟨a2,b2⟩:=sb.1 Xd;have bo:=adV.1 ix
    grind
 have PO:f' (k' acj w S) (args.map (V.hZ bs)) vs:=Jl.abZ λ_ _=>k'.hZ anJ
 have NV:V.c'.V.Is (lt bs.length) (args.map (V.hZ bs))=true:=by
  refine aeu λi v cv=>?_
  rw[aai,gC]at cv;obtain⟨v0,_,rfl⟩:=cv;exact V.Uy v0
 refine(h acj S w B Og (λb x ad=>?_) (λb x ad h0=>?_) NV vs PO).mono ?_
 . obtain⟨c,a',ah,b',rfl⟩:=PT b x ad;refine⟨(sb.1 ah).1,?_⟩;cases a' with
   | box cs=>simp only[h2.hZ,h2.c',Zh,r0];intro c _;exact C.Uy c
   | arr sz es=>rfl
   | set ks=>rfl
   | buf E s=>rfl
   | kn E c=>exact C.Uy c
   | nJ sz es i o c=>exact C.Uy c
 . obtain⟨c,a',ah,b',rfl⟩:=PT b x ad;rw[anJ b c ah]at h0 ⊢;exact⟨c,a',JX ah,b',h0,rfl⟩
 rintro e w' ⟨v,I1,hK,ik,J',N',rfl,Jb,h1,ah,b',ea,hf,tJ,M1⟩
 obtain⟨lo,qs⟩:=qs _ _ _ Jb
 have aJA:∀b,B b->c9.B b\/c9.TP.heap.size<=b:=by
  rintro β ⟨b,x,_,ad,h0,rfl⟩
  exact R.own b x ad h0
 have aj7:Rel c9 nt φ S env (Z4 J bs) n a w:=by
  have L6:∀b x,e1 (Z4 J bs) b=some x->b ∉ bs/\e1 J b=some x:=by
   intro b x ad;rw[abb]at ad
   grind
  exact⟨⟨λb x ad=>R.h'.blk b x (L6 b x ad).2,λb hq x y ad bJ=>R.h'.inj b hq x y (L6 b x ad).2 (L6 hq y bJ).2,R.h'.st⟩,R.Ot,R.PK,R.Oq,λb x ad=>R.HJ b x (L6 b x ad).2,R.size,R.defers,R.ext,λb x ad=>R.own b x (L6 b x ad).2,R.fix,R.Nu⟩
 have ayc:∀b x,b ∉ bs->e1 J b=some x->(φ b).2≠0->¬B (φ b).1:=by
  rintro b x Rr ad h0 ⟨c,y,b7,bJ,Jj,he⟩
  exact R.h'.inj b c x y ad bJ (λe=>Rr (e▸b7)) h0 Jj he
 have k2:=aj7.aOK hf b'.st (λb x ad h0=>by
  rw[abb]at ad
  grind) aJA
 let Pq:vt:=λb=>if key<=b/\b < key+16 then hK (bs.length+(b - key))else φ b
 have anK:∀b,n b=true->Pq b=φ b:=by grind
 have Up:∀b,lt N' b=true->Pq (back bs key b)=hK b:=by
  intro b al;simp only[lt,ye]at al;unfold back
  grind
 have am7:∀b,lt N' b=true->JI n key (back bs key b)=true:=by
  intro b al;simp only[lt,ye]at al;unfold back;cases b9:bs[b]? with
  | some c=>simp only[Xo];exact XH (Rr c (JX b9))
  | none=>
   have aJK:=agw.1 b9;simp only[Option.getD_none,JI,Qp,k0,ye];right;omega
 have C0:=k2.aok anK;have x':∀b x,e1 (O0 J bs (back bs key) J') b=some x->(∃c a',b=back bs key c/\e1 J' c=some a'/\x=a'.kp (back bs key))\/(b ∉ bs/\e1 J b=some x):=λb x ad=>aF3 ad
 have am3:∀b x,b ∉ bs->e1 J b=some x->e1 (Z4 J bs) b=some x:=by intro b x Rr ad;rw[abb,aJ Rr];exact ad
 have abS:∀c a',e1 J' c=some a'->(Pq (back bs key c)).2≠0->B (Pq (back bs key c)).1\/w.heap.size<=(Pq (back bs key c)).1:=by
  intro c a' b7 h0;rw[Up c (by simp[lt];exact(ea c a' b7).1)]at h0 ⊢
  grind
 have hold:∀b x,b ∉ bs->e1 J b=some x->(Pq b).2≠0->(Pq b).1 < w.heap.size/\¬B (Pq b).1:=by
  intro b x Rr ad h0;rw[anK b (R.HJ b x ad).1]at h0 ⊢;exact⟨(R.h'.blk b x ad).Vq h0,ayc b x Rr ad h0⟩
 refine⟨v,I1.kp (back bs key),Pq,ik,O0 J bs (back bs key) J',rfl,qs,k'.kp Up ah h1,V.adO am7 ah,⟨⟨λb x ad=>?_,λb hq x y ad bJ hG h0 Jj=>?_,b'.st⟩,C0.Ot,C0.PK,λk g v a6 b9=>V.O5 (λ_ h=>XH h) (C0.Oq k g v a6 b9),λb x ad=>?_,C0.size,C0.defers,C0.ext,λb x ad h0=>?_,C0.fix,λb al=>XH (C0.Nu b al)⟩⟩
 . rcases x' b x ad with⟨c,a',rfl,b7,rfl⟩ | ⟨Rr,ad⟩
   . have E1:=b'.blk c a' b7;have NW:=ea c a' b7;have eh:=Up c (by simp[lt];exact NW.1);cases a' with
     | box cs=>
      obtain⟨Nr,vs,E,hg,hv,h3⟩:=E1;simp only[h2.kp,r2,eh];refine⟨Nr,vs,E,hg,?_,h3⟩;have y1:=NW.2;simp only[h2.c',r0]at y1;have:=hv.imp (R':=λc v=>ho Pq w' ik (C.kp (back bs key) c) v) λc v b7 ar=>ho.kp Up (y1 c b7) ar
      exact this.abZ λ_ _ h=>h
     | arr sz es=>simp only[h2.kp,r2,eh];exact E1
     | set ks=>simp only[h2.kp,r2,eh];exact E1
     | buf E s=>simp only[h2.kp,r2,eh];exact E1
     | kn E c=>
      obtain⟨Nr,⟨p,v,hg,hv,h3⟩,oo⟩:=E1;simp only[h2.kp,r2,eh];exact⟨Nr,⟨p,v,hg,hv,ho.kp Up (by simpa[h2.c']using NW.2) h3⟩,oo⟩
     | nJ sz es i o c=>
      obtain⟨h1,⟨vs,E,hg,hv,h3,v,oo,u2⟩,s3⟩:=E1;simp only[h2.kp,r2,eh];exact⟨h1,⟨vs,E,hg,hv,h3,v,oo,ho.kp Up (by simpa[h2.c']using NW.2) u2⟩,s3⟩
   . exact C0.h'.blk b x (am3 b x Rr ad)
 . rcases x' b x ad with⟨c,a',rfl,b7,rfl⟩ | ⟨Rr,ad⟩ <;> rcases x' hq y bJ with⟨C4,TR,rfl,O8,rfl⟩ | ⟨aJ6,bJ⟩
   . have eh:=Up c (by simp[lt];exact(ea c a' b7).1);have hj:=Up C4 (by simp[lt];exact(ea C4 TR O8).1);rw[eh]at h0 ⊢;rw[hj]at Jj ⊢;exact b'.inj c C4 a' TR b7 O8 (by rintro rfl;exact hG rfl) h0 Jj
   . obtain⟨hg,hv⟩:=hold hq y aJ6 bJ Jj;rcases abS c a' b7 h0 with h | h
     . intro e;rw[e]at h;exact hv h
     . omega
   . obtain⟨hg,hv⟩:=hold b x Rr ad h0;rcases abS C4 TR O8 Jj with h | h
     . intro e;rw[<-e]at h;exact hv h
     . omega
   . exact C0.h'.inj b hq x y (am3 b x Rr ad) (am3 hq y aJ6 bJ) hG h0 Jj
 . rcases x' b x ad with⟨c,a',rfl,b7,rfl⟩ | ⟨Rr,ad⟩
   . obtain⟨hg,hv⟩:=ea c a' b7;refine⟨am7 c (by simp[lt];exact hg),?_⟩;cases a' with
     | box cs=>
      simp only[h2.kp,h2.c',Zh,r0]at hv ⊢;intro c b7;exact C.adO am7 (hv c b7)
     | arr sz es=>rfl
     | set ks=>rfl
     | buf E s=>rfl
     | kn E c=>simp only[h2.kp,h2.c']at hv ⊢;exact C.adO am7 hv
     | nJ sz es i o c=>simp only[h2.kp,h2.c']at hv ⊢;exact C.adO am7 hv
   . obtain⟨hg,hv⟩:=C0.HJ b x (am3 b x Rr ad);exact⟨XH hg,h2.O5 (λ_ h=>XH h) hv⟩
 . rcases x' b x ad with⟨c,a',rfl,b7,rfl⟩ | ⟨Rr,ad⟩
   . rcases abS c a' b7 h0 with h | h
     . exact aJA _ h
     . exact .inr (RD R.ext.size h)
   . exact C0.own b x (am3 b x Rr ad) h0
theorem Pv.a1n {fn:Nat} {args:List V} {bs:List Nat} {Q:V -> fu -> Nat -> Prop} (ix:bs.Nodup) (ec:∀b,b∈bs -> b < key) (yb:∀b,b∈bs -> ∃x,e1 J b=some x) (h:Ju P fn (args.map (V.hZ bs)) (MC bs J 0 bs) bs.length Q) {K:V -> fu -> Prop}
 (qs:∀r J' N',Q r J' N'->N'<=bs.length+16/\K (r.kp (back bs key)) (O0 J bs (back bs key) J')):Pv P fn args J key K:=by
 intro c9 nt φ S env n a w R dy al vs Jl;exact Pv.raw (n:=n) ix ec h qs (λb al=>let⟨x,ad⟩:=yb b al;(R.HJ b x ad).1) c9 nt φ S env a w R dy al vs Jl
theorem aEj{bs:List Nat}:∀{l:List Nat} {i:Nat} {J J':fu},(∀b,b∈l->e1 J' b=e1 J b)->MC bs J' i l=MC bs J i l
 | [],i,J,J',h=>rfl
 | b::r,i,J,J',h=>by
  simp only[MC];rw[h b (by simp),aEj λc b7=>h c (by simp[b7])]
theorem aEk{bs:List Nat}{f:Nat->Nat}:∀{ki:fu} {J J':fu} {c:Nat},(e1 (Z4 J' bs) c=e1 (Z4 J bs) c)->e1 (O0 J' bs f ki) c=e1 (O0 J bs f ki) c
 | [],J,J',c,h=>h
 | (b,x)::r,J,J',c,h=>by
  simp only[O0,q6];split
  . rfl
  . exact aEk h
theorem auu{bs:List Nat}{key:Nat}:∀{ki:fu} {J:fu} {c:Nat},ki.all (λx=>decide (x.1 < bs.length+16))=true->c ∉ bs->¬(key<=c/\c < key+16)->e1 (O0 J bs (back bs key) ki) c=e1 J c
 | [],J,c,hk,b7,ar=>by simp only[O0,abb,aJ b7]
 | (b,x)::r,J,c,hk,b7,ar=>by
  simp only[aao,k0,ye]at hk;simp only[O0,q6];rw[aJ ?_]
  . exact auu hk.2 b7 ar
  . intro e;unfold back at e
    grind
end
variable {xb:List Nat}
section
variable {P:Program} {c9:Ctx} {nt kk:Nat} {φ:vt} {S:y0} {env env':Env} {J J' J1:fu} {N key:Nat} {n:Nat->Bool} {a:Act} {w:World}
theorem x1{x:er}(h:∀t,t∈x.tmps->look env' t=look env t):x.get env'=x.get env:=by
 cases x with
 | const v=>rfl
 | tmp t=>simp only[er.get];rw[h t (by simp[er.tmps])]
theorem akO{xs:List er}(h:∀t,t∈xs.flatMap er.tmps->look env' t=look env t):O7 env' xs=O7 env xs:=by
 induction xs with
 | nil=>rfl
 | cons x xs ih=>
  simp only[O7];rw[x1 (λt ht=>h t (by simp[ht])),ih (λt ht=>h t (by simp only[MS,Nw];exact .inr ht))]
theorem ahr{x:Option er}(h:∀t,t∈agt x->look env' t=look env t):Ug env' x=Ug env x:=by
 cases x with
 | none=>rfl
 | some x=>simp only[Ug];rw[x1 h]
theorem aDy :∀{ps:List (Nat×Nat×er)} {cs:List C},(∀t,t∈(ps.flatMap λp=>p.2.2.tmps)->look env' t=look env t)->WR env' cs ps=WR env cs ps
 | [],cs,h=>rfl
 | (o,k,x)::r,cs,h=>by
  simp only[WR];rw[x1 (λt ht=>h t (by simp[ht]))]
  congr 1;funext a;congr 1;funext c
  split
  . rw[aDy (λt ht=>h t (by simp only[MS,Nw];exact .inr ht))]
  . rfl
theorem atN{sz:Nat}:∀{ps:List (Nat×er)} {es:List (List T)},(∀t,t∈(ps.flatMap λp=>p.2.tmps)->look env' t=look env t)->T0 env' sz es ps=T0 env sz es ps
 | [],cs,h=>rfl
 | (i,x)::r,es,h=>by
  simp only[T0];rw[x1 (λt ht=>h t (by simp[ht]))]
  congr 1;funext a;congr 1;funext c;congr 1;funext ts
  split
  . rw[atN (λt ht=>h t (by simp only[MS,Nw];exact .inr ht))]
  . rfl
theorem aVP{o:py}(h:∀t,t∈o.reads->look env' t=look env t):ep o env' J key=ep o env J key:=by
 cases o <;> simp only[py.reads,Nw]at h
 case mov x=>simp only[ep];rw[x1 h]
 case pick c x y=>simp only[ep];rw[x1 λt ht=>h t (.inl (.inl ht)),x1 λt ht=>h t (.inl (.inr ht)),x1 λt ht=>h t (.inr ht)]
 case alloc=>rfl
 case box x=>simp only[ep];rw[x1 h]
 case allocA=>rfl
 case b2s x=>simp only[ep];rw[x1 h]
 case allocS=>rfl
 case mkset=>rfl
 case bsliceT e sz len z ps=>simp only[ep];congr 1;funext Qw;rw[atN h]
 case lkset x y=>simp only[ep];rw[x1 λt ht=>h t (.inl ht),x1 λt ht=>h t (.inr ht)]
 case upset x y=>simp only[ep];rw[x1 λt ht=>h t (.inl ht),x1 λt ht=>h t (.inr ht)]
 case appendB e k x y=>simp only[ep];rw[x1 λt ht=>h t (.inl ht),x1 λt ht=>h t (.inr ht)]
 case sdata x=>simp only[ep];rw[x1 h]
 case ustr e x y=>simp only[ep];rw[x1 λt ht=>h t (.inl ht),x1 λt ht=>h t (.inr ht)]
 case idxP k x y=>simp only[ep];rw[x1 λt ht=>h t (.inl ht),x1 λt ht=>h t (.inr ht)]
 case slcP k x l i=>simp only[ep];rw[x1 λt ht=>h t (.inl (.inl ht)),ahr λt ht=>h t (.inl (.inr ht)),ahr λt ht=>h t (.inr ht)]
 case build z ps=>simp only[ep];rw[aDy h]
 case bslice sz len z ps=>simp only[ep];congr 1;funext Qw;rw[atN h]
 case load g k x=>simp only[ep];rw[x1 h]
 case store k x v=>simp only[ep];rw[x1 λt ht=>h t (.inl ht),x1 λt ht=>h t (.inr ht)]
 case nilCheck x=>simp only[ep];rw[x1 h]
 case bin op x y=>simp only[ep];rw[x1 λt ht=>h t (.inl ht),x1 λt ht=>h t (.inr ht)]
 case eqAgg op ks x y=>simp only[ep];rw[x1 λt ht=>h t (.inl ht),x1 λt ht=>h t (.inr ht)]
 case eqBool op x y=>simp only[ep];rw[x1 λt ht=>h t (.inl ht),x1 λt ht=>h t (.inr ht)]
 case eqNil=>rfl
 case not x=>simp only[ep];rw[x1 h]
 case conv k x=>simp only[ep];rw[x1 h]
 case i2s x=>simp only[ep];rw[x1 h]
 case s2s x=>simp only[ep];rw[x1 h]
 case fldA k x=>simp only[ep];rw[x1 h]
 case fld g k m x=>simp only[ep];rw[x1 h]
 case idxA op x y=>simp only[ep];rw[x1 λt ht=>h t (.inl ht),x1 λt ht=>h t (.inr ht)]
 case idxS x y=>simp only[ep];rw[x1 λt ht=>h t (.inl ht),x1 λt ht=>h t (.inr ht)]
 case slcS x l i=>simp only[ep];rw[x1 λt ht=>h t (.inl (.inl ht)),ahr λt ht=>h t (.inl (.inr ht)),ahr λt ht=>h t (.inr ht)]
 case slc k x l i=>simp only[ep];rw[x1 λt ht=>h t (.inl (.inl ht)),ahr λt ht=>h t (.inl (.inr ht)),ahr λt ht=>h t (.inr ht)]
 case slc0 x=>simp only[ep];rw[x1 h]
 case mkfn f xs=>simp only[ep];rw[akO h]
 case ext x i=>simp only[ep];rw[x1 h]
 case len s x=>simp only[ep];rw[x1 h]
 case append sz by' x y=>simp only[ep];rw[x1 λt ht=>h t (.inl ht),x1 λt ht=>h t (.inr ht)]
 case max2 x y=>simp only[ep];rw[x1 λt ht=>h t (.inl ht),x1 λt ht=>h t (.inr ht)]
 case min2 x y=>simp only[ep];rw[x1 λt ht=>h t (.inl ht),x1 λt ht=>h t (.inr ht)]
 case call=>rfl
 rfl
def Jo(env:Env)(x:er):List Nat:=
 match x.get env with
 | some (_,.c (.ptr b _))=>[b]
 | some (_,.c (.pr b _ _ _))=>[b]
 | some (_,.c (.arr b _ _ _))=>[b]
 | some (_,.c (.MW b _ _ _))=>[b]
 | some (_,.c (.mp b))=>[b]
 | some (_,.c (.Jx b))=>[b]
 | some (_,.c (.pq b _))=>[b]
 | _=>[]
def C.Ni :C->List Nat
 | .ptr b _ | .pr b _ _ _ | .arr b _ _ _ | .MW b _ _ _ | .mp b | .Jx b | .pq b _=>[b]
 | .fn _ caps=>caps
 | _=>[]
def V.Ni :V->List Nat
 | .c x=>x.Ni
 | .agg cs=>cs.flatMap C.Ni
 | .gJ _=>[]
def WY(env:Env)(args:List er):List Nat:=
 args.flatMap λx=>match x.get env with
  | some (_,v)=>v.Ni
  | none=>[]
def Jz(xb:List Nat)(o:py)(env:Env)(key:Nat):List Nat:=
 match o with
 | .alloc _ | .allocA _ | .box _ | .bslice .. | .mkset=>[key]
 | .allocS .. =>[key,key+1]
 | .lkset x _=>Jo env x
 | .upset x _=>Jo env x
 | .appendB _ _ x _=>key::Jo env x
 | .ustr _ x _=>Jo env x
 | .call _ args=>(List.range 16).map (key+·)++(WY env args++xb)
 | .load _ _ x=>Jo env x
 | .b2s x=>Jo env x
 | .store _ x _=>Jo env x
 | .append _ _ x y=>key::(Jo env x++Jo env y)
 | _=>[]
def o'(xb:List Nat)(o:py)(env:Env)(key b:Nat):Bool:=
 match o with
 | .alloc _ | .allocA _ | .box _ | .bslice .. | .mkset=>b==key
 | .allocS .. =>b==key || b==key+1
 | .upset x _=>(Jo env x).contains b
 | .appendB _ _ x _=>b==key || (Jo env x).contains b
 | .ustr _ x _=>(Jo env x).contains b
 | .store _ x _=>(Jo env x).contains b
 | .append _ _ x _=>b==key || (Jo env x).contains b
 | .call _ args=>(decide (key<=b) && decide (b < key+16)) || (WY env args++xb).contains b
 | _=>false
theorem aSR{o:py}(dy:o.neutral=true)(ht:o.QZ=false){p v J1}(ch:ep o env J key=some (p,v,J1)):ep o env J' key=some (p,v,J'):=by
 cases o <;> simp only[py.neutral,py.QZ,reduceCtorEq,q2]at dy ht <;> simp only[ep,hC,gC,hO]at ch ⊢
 all_goals
  (try (obtain⟨a1,h1,ch⟩:=ch;refine⟨a1,h1,?_⟩))
  (try (obtain⟨a2,ah,ch⟩:=ch;refine⟨a2,ah,?_⟩))
  (try (obtain⟨a3,b',ch⟩:=ch;refine⟨a3,b',?_⟩))
  (try dsimp only at ch ⊢)
  (try split at ch)
  (try (simp_all;done))
 all_goals first
  | (cases ch;rfl)
  | (cases ch;done)
  | (simp only[gC,hO]at ch ⊢;obtain⟨x,h1,ah,b',_⟩:=ch;exact⟨x,h1,ah,b',rfl⟩)
  | (simp only[gC]at ch ⊢;obtain⟨x,h1,ah⟩:=ch;simp only[hO]at ah ⊢;exact⟨x,h1,ah.1,ah.2.1,trivial⟩)
  | (simp only[A',hQ,hO]at ch ⊢;exact⟨ch.1,ch.2.1,ch.2.2.1,trivial⟩)
theorem aGS{x:er}{p:Prop}{b:Nat}(h:x.get env=some (p,.c (.mp b))):Jo env x=[b]:=by simp[Jo,h]
theorem aT4{x:er}{p:Prop}{b:Nat}(h:x.get env=some (p,.c (.Jx b))):Jo env x=[b]:=by simp[Jo,h]
theorem aT5{x:er}{p:Prop}{b l:Nat}(h:x.get env=some (p,.c (.pq b l))):Jo env x=[b]:=by simp[Jo,h]
theorem gen{x:er}{p:Prop}{b o:Nat}(h:x.get env=some (p,.c (.ptr b o))):Jo env x=[b]:=by simp[Jo,h]
theorem aFa{x:er}{p:Prop}{b sz i o:Nat}(h:x.get env=some (p,.c (.pr b sz i o))):Jo env x=[b]:=by simp[Jo,h]
theorem aUU{x:er}{p:Prop}{b sz i o:Nat}(h:x.get env=some (p,.c (.MW b sz i o))):Jo env x=[b]:=by simp[Jo,h]
theorem aqL{x:er}{p:Prop}{b sz i o:Nat}(h:x.get env=some (p,.c (.arr b sz i o))):Jo env x=[b]:=by simp[Jo,h]
theorem aT6{o:py}{p v}(ch:ep o env J key=some (p,v,J1))(ht:∀b,b∈Jz xb o env key -> e1 J' b=e1 J b):
 (∃hy,ep o env J' key=some (p,v,hy)/\∀b,e1 hy b=if o' xb o env key b then e1 J1 b else e1 J' b)/\∀b,o' xb o env key b=false->e1 J1 b=e1 J b:=by
 by_cases af5:o.neutral=true/\o.QZ=false
 . have hw:∀b,o' xb o env key b=false:=by intro b;cases o <;> simp only[py.neutral,py.QZ,reduceCtorEq,q2,false_and,Wh,and_self]at af5 <;> rfl
   have:=alg af5.1 ch;subst this;exact⟨⟨J',aSR af5.1 af5.2 ch,λb=>by rw[hw b];rfl⟩,λb _=>rfl⟩
 . cases o <;> simp only[py.neutral,py.QZ,reduceCtorEq,q2,false_and,Wh,and_self,not_true,not_false_eq_true]at af5
   case alloc cs=>
    simp only[ep,hQ,hO]at ch ⊢;obtain⟨rfl,rfl,rfl⟩:=ch;refine⟨⟨_,⟨rfl,rfl,rfl⟩,λb=>?_⟩,λb al=>?_⟩
    . simp only[q6,o',RF];by_cases h:b=key
      . subst h;simp
      . rw[aJ (EI h),aJ h]
    . simp only[o',Xm]at al;rw[q6,aJ (EI al)]
   case allocA cs=>
    simp only[ep,gC,hO]at ch ⊢;obtain⟨ts,M4,rfl,rfl,rfl⟩:=ch;refine⟨⟨_,⟨ts,M4,rfl,rfl,rfl⟩,λb=>?_⟩,λb al=>?_⟩
    . simp only[q6,o',RF];by_cases h:b=key
      . subst h;simp
      . rw[aJ (EI h),aJ h]
    . simp only[o',Xm]at al;rw[q6,aJ (EI al)]
   case b2s x=>
    simp only[ep,hC,gC,hO]at ch ⊢;obtain⟨⟨Pj,v0⟩,h1,⟨q,s⟩,ah,rfl,rfl,rfl⟩:=ch;refine⟨⟨J',⟨(Pj,v0),h1,(q,s),?_,rfl,rfl,rfl⟩,λb=>rfl⟩,λb _=>rfl⟩;dsimp only at ah ⊢;unfold Z1 at ah ⊢;split at ah
    . exact ah
    . exact ah
    . rename_i b off len;rw[ht b (by simp[Jz,aqL h1])];exact ah
    . rename_i b off len;rw[ht b (by simp[Jz,aUU h1])];exact ah
    . cases ah
   case box x=>
    simp only[ep,hC,gC,hO]at ch ⊢;obtain⟨aAb,h1,cs,ah,rfl,rfl,rfl⟩:=ch;refine⟨⟨_,⟨aAb,h1,cs,ah,rfl,rfl,rfl⟩,λb=>?_⟩,λb al=>?_⟩
    . simp only[q6,o',RF];by_cases h:b=key
      . subst h;simp
      . rw[aJ (EI h),aJ h]
    . simp only[o',Xm]at al;rw[q6,aJ (EI al)]
   case bslice sz len z ps=>
    simp only[ep,hC,gC,hO]at ch ⊢;obtain⟨aAb,h1,cs,ah,rfl,rfl,rfl⟩:=ch;refine⟨⟨_,⟨aAb,h1,cs,ah,rfl,rfl,rfl⟩,λb=>?_⟩,λb al=>?_⟩
    . simp only[q6,o',RF];by_cases h:b=key
      . subst h;simp
      . rw[aJ (EI h),aJ h]
    . simp only[o',Xm]at al;rw[q6,aJ (EI al)]
   case load g k x=>
    have:=alg rfl ch;subst this;refine⟨⟨J',?_,λb=>rfl⟩,λb _=>rfl⟩;simp only[ep,hC]at ch ⊢;obtain⟨⟨Pj,v0⟩,h1,ch⟩:=ch;refine⟨(Pj,v0),h1,?_⟩;dsimp only at ch ⊢;split at ch
    . rename_i b o;rw[ht b (by simp[Jz,gen h1])];split at ch
      . rename_i cs y1;simp only[gC]at ch ⊢;obtain⟨x,ah,b'⟩:=ch;simp only[hO]at b' ⊢;exact⟨x,ah,b'.1,b'.2.1,trivial⟩
      . rename_i E c b7;simp only[A',hQ,hO]at ch ⊢;exact⟨ch.1,ch.2.1,ch.2.2.1,trivial⟩
      . cases ch
    . rename_i b sz i o;rw[ht b (by simp[Jz,aFa h1])];split at ch
      . simp only[gC]at ch ⊢;obtain⟨x,ah,b'⟩:=ch;simp only[hO]at b' ⊢;exact⟨x,ah,b'.1,b'.2.1,trivial⟩
      . split at ch
        . cases ch
        . rename_i b9;rw[aJ b9];split at ch
          . rename_i LS;rw[ao LS];simp only[hQ,hO]at ch ⊢;exact⟨ch.1,ch.2.1,trivial⟩
          . rename_i LS;rw[aJ LS];simp only[gC]at ch ⊢;obtain⟨x,ah,b'⟩:=ch;simp only[hO]at b' ⊢;exact⟨x,ah,b'.1,b'.2.1,trivial⟩
      . cases ch
    . simp only[gC]at ch ⊢;obtain⟨x,ah,b'⟩:=ch;simp only[hO]at b' ⊢;exact⟨x,ah,b'.1,b'.2.1,trivial⟩
    . cases ch
   case store k x y=>
    simp only[ep,hC,A']at ch ⊢;obtain⟨⟨Pj,v0⟩,h1,d,ah,cs,b',ea,ch⟩:=ch;have fin:∀(b:Nat) (a':h2),Jo env x=[b]->J1=vc J b a'->(∀c,e1 (vc J' b a') c=if o' xb (.store k x y) env key c then e1 J1 c else e1 J' c)/\∀c,o' xb (.store k x y) env key c=false->e1 J1 c=e1 J c:=by
     intro b a' al hs;subst hs;refine⟨λc=>?_,λc b7=>?_⟩
     . simp only[o',al,Yb,Wg,S0,RF,q6]
       grind
     . simp only[o',al,Yb,Wg,S0,Xm]at b7;rw[q6,aJ (EI b7)]
    dsimp only at ch ⊢;split at ch
    . rename_i b o;have al:=gen h1;split at ch
      . rename_i ds V7;simp only[A',hQ,hO]at ch;obtain⟨hf,rfl,rfl,tJ⟩:=ch;obtain⟨f1,f2⟩:=fin b _ al tJ.symm;refine⟨⟨_,⟨(Pj,.c (.ptr b o)),h1,d,ah,cs,b',ea,?_⟩,f1⟩,f2⟩;dsimp only;rw[ht b (by simp[Jz,al]),V7];dsimp only;rw[ao hf]
      . rename_i E MH V7;split at ch
        . rename_i c;simp only[hQ,hO]at ch;obtain⟨rfl,rfl,tJ⟩:=ch;obtain⟨f1,f2⟩:=fin b _ al tJ.symm;refine⟨⟨_,⟨(Pj,.c (.ptr b 1)),h1,d,ah,_,b',ea,?_⟩,f1⟩,f2⟩;dsimp only;rw[ht b (by simp[Jz,al]),V7];rfl
        . cases ch
      . cases ch
    . rename_i b sz i o;have al:=aFa h1;split at ch
      . rename_i lJ es JV;split at ch
        . rename_i c b7;simp only[hQ,hO]at ch;obtain⟨rfl,rfl,tJ⟩:=ch;obtain⟨f1,f2⟩:=fin b _ al tJ.symm;refine⟨⟨_,⟨(Pj,.c (.pr b sz i o)),h1,d,ah,cs,b',ea,?_⟩,f1⟩,f2⟩;dsimp only;rw[ht b (by simp[Jz,al]),JV];dsimp only;rw[b7]
        rename_i b7;simp only[hC,hQ,hO]at ch;obtain⟨ts,hf,rfl,rfl,tJ⟩:=ch;obtain⟨f1,f2⟩:=fin b _ al tJ.symm;refine⟨⟨_,⟨(Pj,.c (.pr b sz i o)),h1,d,ah,cs,b',ea,?_⟩,f1⟩,f2⟩;dsimp only;rw[ht b (by simp[Jz,al]),JV];dsimp only;rw[b7];dsimp only;rw[hf];rfl
      . rename_i lJ es i2 KZ MH JV;split at ch
        . rename_i c;split at ch
          . rename_i LS;simp only[hQ,hO]at ch;obtain⟨rfl,rfl,tJ⟩:=ch;obtain⟨f1,f2⟩:=fin b _ al tJ.symm;refine⟨⟨_,⟨(Pj,.c (.pr b sz i o)),h1,d,ah,_,b',ea,?_⟩,f1⟩,f2⟩;dsimp only;rw[ht b (by simp[Jz,al]),JV];dsimp only;rw[ao LS]
          . rename_i LS;simp only[hC,hQ,hO]at ch;obtain⟨t,hf,rfl,rfl,tJ⟩:=ch;obtain⟨f1,f2⟩:=fin b _ al tJ.symm;refine⟨⟨_,⟨(Pj,.c (.pr b sz i o)),h1,d,ah,_,b',ea,?_⟩,f1⟩,f2⟩;dsimp only;rw[ht b (by simp[Jz,al]),JV];dsimp only;rw[aJ LS,hf];rfl
        . cases ch
      . cases ch
    . cases ch
   case append sz by' x y=>
    simp only[ep,hC]at ch ⊢;obtain⟨⟨Pj,v0⟩,h1,⟨d1,d2⟩,ah,ch⟩:=ch;dsimp only at ch;cases ai4:Zq v0 d2 with
    | some r=>
     rw[ai4]at ch;have ai5:=ai4;unfold Zq at ai5;split at ai5
     . rename_i b s1 off len hq s2 Xq QV;split at ai5
       . cases ai5;have Z9:=aqL h1;dsimp only at ch;unfold aii at ch;dsimp only at ch;split at ch
         . rename_i Wm es JV;simp only[hQ,hO]at ch;obtain⟨rfl,rfl,rfl⟩:=ch;refine⟨⟨vc (Qr J' b) key (.arr sz (es.take len++(es.drop Xq).take QV)),⟨(Pj,.c (.arr b s1 off len)),h1,(d1,.c (.MW hq s2 Xq QV)),ah,?_⟩,λc=>?_⟩,λc b7=>?_⟩
           . dsimp only;rw[ai4];dsimp only;unfold aii;dsimp only;rw[ht b (by simp[Jz,Z9]),JV]
           . simp only[q6,Nb,o',Z9,Yb,Wg,S0,Qp,RF];by_cases h:c=key
             . subst h;simp
             . rw[aJ (EI h)];by_cases rz:c=b
               . subst rz;simp[h,EI h]
               . rw[aJ (EI rz),aJ (by simp[h,rz])]
           . simp only[o',Z9,Yb,Wg,S0,ab5,Xm]at b7;rw[q6,Nb,aJ (EI b7.1),aJ (EI b7.2)]
         . cases ch
       . cases ai5
     . cases ai5
    | none=>
    rw[ai4]at ch;simp only[hC]at ch;obtain⟨ys,b',ch⟩:=ch;have abW:Yn J' d2=some ys:=by
     unfold Yn at b' ⊢;split at b'
     . exact b'
     . exact b'
     . rename_i b lJ off len;rw[ht b (by simp[Jz,aqL ah])];exact b'
     . cases b'
    split at ch
    . have Z9:Jo env x=[]:=by simp[Jo,h1]
      simp only[hQ,hO]at ch;obtain⟨rfl,rfl,rfl⟩:=ch;refine⟨⟨_,⟨(Pj,.c .ee),h1,(d1,d2),ah,by dsimp only;rw[ai4];simp only[hC];exact⟨ys,abW,rfl⟩⟩,λb=>?_⟩,λb al=>?_⟩
      . simp only[q6,o',Z9,Wg,S0,RF];by_cases h:b=key
        . subst h;simp
        . rw[aJ (EI h),aJ h]
      . simp only[o',Z9,Wg,S0,Xm]at al;rw[q6,aJ (EI al)]
    . rename_i b lJ off len;have Z9:=aqL h1;split at ch
      . rename_i aoy es JV;split at ch
        . cases ch
        . rename_i Rr;simp only[hQ,hO]at ch;obtain⟨rfl,rfl,rfl⟩:=ch
          refine⟨⟨_,⟨(Pj,.c (.arr b lJ off len)),h1,(d1,d2),ah,by
           dsimp only;rw[ai4];simp only[hC];refine⟨ys,abW,?_⟩;rw[ht b (by simp[Jz,Z9]),JV];dsimp only
           rw[aJ Rr]⟩,λc=>?_⟩,λc b7=>?_⟩
          . simp only[q6,Nb,o',Z9,Yb,Wg,S0,Qp,RF];by_cases h:c=key
            . subst h;simp
            . rw[aJ (EI h)];by_cases rz:c=b
              . subst rz;simp[h,EI h]
              . rw[aJ (EI rz),aJ (by simp[h,rz])]
          . simp only[o',Z9,Yb,Wg,S0,ab5,Xm]at b7;rw[q6,Nb,aJ (EI b7.1),aJ (EI b7.2)]
      . cases ch
    . cases ch
   case allocS e e8=>
    simp only[ep,hQ,hO]at ch ⊢;obtain⟨rfl,rfl,rfl⟩:=ch;refine⟨⟨_,⟨rfl,rfl,rfl⟩,λb=>?_⟩,λb al=>?_⟩
    . simp only[q6,o',Qp,RF];by_cases h:key=b
      . rw[ao h,ao (.inl h.symm),ao h]
      . rw[aJ h];by_cases rz:key+1=b
        . rw[ao rz,ao (.inr rz.symm),aJ h,ao rz]
        . rw[aJ rz,aJ (by omega)]
    . simp only[o',ab5,Xm]at al;rw[q6,aJ (EI al.1),q6,aJ (EI al.2)]
   case mkset=>
    simp only[ep,hQ,hO]at ch ⊢;obtain⟨rfl,rfl,rfl⟩:=ch;refine⟨⟨_,⟨rfl,rfl,rfl⟩,λb=>?_⟩,λb al=>?_⟩
    . simp only[q6,o',RF];by_cases h:b=key
      . subst h;simp
      . rw[aJ (EI h),aJ h]
    . simp only[o',Xm]at al;rw[q6,aJ (EI al)]
   case lkset x y=>
    have:=alg rfl ch;subst this;refine⟨⟨J',?_,λb=>rfl⟩,λb _=>rfl⟩;simp only[ep,hC]at ch ⊢;obtain⟨⟨Pj,v0⟩,h1,⟨d1,d2⟩,ah,ch⟩:=ch;refine⟨(Pj,v0),h1,(d1,d2),ah,?_⟩;dsimp only at ch ⊢;split at ch
    . rename_i b s;rw[ht b (by simp[Jz,aGS h1])];split at ch
      . simp only[hQ,hO]at ch ⊢;exact⟨ch.1,ch.2.1,trivial⟩
      . cases ch
    . cases ch
   case upset x y=>
    simp only[ep,hC]at ch ⊢;obtain⟨⟨Pj,v0⟩,h1,⟨d1,d2⟩,ah,ch⟩:=ch;dsimp only at ch ⊢;split at ch
    . rename_i b s;have al:=aGS h1;split at ch
      . rename_i ks Pe;simp only[hQ,hO]at ch;obtain⟨rfl,rfl,rfl⟩:=ch
        refine⟨⟨_,⟨(Pj,.c (.mp b)),h1,(d1,.c (.t (.str s))),ah,by
         dsimp only
         rw[ht b (by simp[Jz,al]),Pe]⟩,λc=>?_⟩,λc b7=>?_⟩
        . simp only[o',al,Yb,Wg,S0,RF,q6];by_cases h:c=b
          . subst h;simp
          . rw[aJ (EI h),aJ h]
        . simp only[o',al,Yb,Wg,S0,Xm]at b7;rw[q6,aJ (EI b7)]
      . cases ch
    . cases ch
   case appendB e by' x y=>
    simp only[ep,hC]at ch ⊢;obtain⟨⟨Pj,v0⟩,h1,⟨d1,d2⟩,ah,ch⟩:=ch;dsimp only at ch ⊢;split at ch
    . rename_i b len s;have al:=aT5 h1;split at ch
      . rename_i sK es JV;simp only[hQ,hO]at ch;obtain⟨rfl,rfl,rfl⟩:=ch
        refine⟨⟨_,⟨(Pj,.c (.pq b len)),h1,(d1,.c (.t (.str s))),ah,by
         dsimp only
         rw[ht b (by simp[Jz,al]),JV]⟩,λc=>?_⟩,λc b7=>?_⟩
        . simp only[q6,Nb,o',al,Yb,Wg,S0,Qp,RF];by_cases h:c=key
          . subst h;simp
          . rw[aJ (EI h)];by_cases rz:c=b
            . subst rz;simp[h,EI h]
            . rw[aJ (EI rz),aJ (by simp[h,rz])]
        . simp only[o',al,Yb,Wg,S0,ab5,Xm]at b7;rw[q6,Nb,aJ (EI b7.1),aJ (EI b7.2)]
      . cases ch
    . cases ch
   case ustr e x y=>
    simp only[ep,hC]at ch ⊢;obtain⟨⟨Pj,v0⟩,h1,⟨d1,d2⟩,ah,ch⟩:=ch;dsimp only at ch ⊢;split at ch
    . rename_i b m;have al:=aT4 h1;split at ch
      . rename_i sK es JV;simp only[hQ,hO]at ch;obtain⟨rfl,rfl,rfl⟩:=ch
        refine⟨⟨_,⟨(Pj,.c (.Jx b)),h1,(d1,.c (.t (.int .i64 m))),ah,by
         dsimp only
         rw[ht b (by simp[Jz,al]),JV]⟩,λc=>?_⟩,λc b7=>?_⟩
        . simp only[Nb,o',al,Yb,Wg,S0,RF];by_cases h:c=b
          . subst h;simp
          . rw[aJ (EI h),aJ h]
        . simp only[o',al,Yb,Wg,S0,Xm]at b7;rw[Nb,aJ (EI b7)]
      . cases ch
    . cases ch
   all_goals simp[ep]at ch
inductive DStep (xb:List Nat) (P:Program) (o:kx) (key:Nat) (env:Env) (J:fu) (g:Bool) (v:V):fu->Prop
 | op {p : Prop} {J2 : fu} (b9 : Nc env o.guard = some g) (a7 : o.op.drawn = true) (ch : ep o.op env J key = some (p, v, J2)) (bo : g = true -> p) (hG : o.op.neutral = true \/ g = true):
  DStep xb P o key env J g v (if o.op.neutral then J else J2)
 | skip (b9:Nc env o.guard=some g) (cJ:g=false):DStep xb P o key env J g v J
 | call {p : Prop} {f : Nat} {args : List er} {vs : List V} (c8 : o.op = .call f args) (b9 : Nc env o.guard = some g) (ch : O7 env args = some (p, vs)) (bo : g = true -> p /\ V.c'.V.Is (lt 0) vs = true /\ v.c' (lt 0) = true /\ Ju P f vs [] 0 (λI1 _ _ => I1 = v)):
  DStep xb P o key env J g v J
 | Re {p q : Prop} {f : Nat} {x : er} {args : List er} {vs : List V} (c8 : o.op = .Re x args) (dy : o.guard = none) (KW : g = true) (ad : x.get env = some (q, .c (.fn f []))) (eg : q) (al : PE P f = true) (ch : O7 env args = some (p, vs))
  (bo:p/\V.c'.V.Is (lt 0) vs=true/\v.c' (lt 0)=true/\Ju P f vs [] 0 (λI1 _ _=>I1=v)):DStep xb P o key env J g v J
 | own {p : Prop} {f : Nat} {args : List er} {vs : List V} {r : V} {s : fu} {M : Nat} (c8 : o.op = .call f args) (b9 : Nc env o.guard = some g) (dy : o.guard = none) (ch : O7 env args = some (p, vs)) (bo : p) (al : V.c'.V.Is (lt 0) vs = true) (J8 : M <= 16) (hk : s.all (λx => x.1 < 16) = true)
  (b7:Ju P f vs [] 0 (λI1 Wl aer=>I1=r/\Wl=s/\aer=M)) (cv:v=r.hL key):DStep xb P o key env J g v (XT J key s)
 | raw {p : Prop} {f : Nat} {args : List er} {vs : List V} {bs : List Nat} {r : V} {s : fu} {M : Nat} (c8 : o.op = .call f args) (b9 : Nc env o.guard = some g) (KW : g = true) (ch : O7 env args = some (p, vs)) (bo : p)
  (ix:bs.Nodup) (ec:∀b,b∈bs->b < key) (yb:∀b,b∈bs->∃x,e1 J b=some x) (L6:∀b,b∈bs->b∈WY env args++xb) (J8:M<=bs.length+16) (hk:s.all (λx=>decide (x.1 < bs.length+16))=true)
  (b7:Ju P f (vs.map (V.hZ bs)) (MC bs J 0 bs) bs.length (λI1 Wl aer=>I1=r/\Wl=s/\aer=M)) (cv:v=r.kp (back bs key)):DStep xb P o key env J g v (O0 J bs (back bs key) s)
theorem DStep.O4{o:kx}{g:Bool}{v:V}(h:DStep xb P o key env J g v J1){K:Env->fu->Prop}(qs:K (JB env o.dst g v) J1):O4 P o key env J K:=by
 cases h with
 | @op p J2 b9 a7 ch bo hG=>
  unfold Shv.O4;rw[b9];dsimp only;refine .inr ?_;split
  . rename_i f args c8;rw[c8]at ch;simp[ep]at ch
  . rename_i x args c8;rw[c8]at ch;simp[ep]at ch
  . rename_i neg x c8;rw[c8]at ch;simp[ep]at ch
  grind
 | skip b9 cJ=>
  unfold Shv.O4
  grind
 | @call p f args vs c8 b9 ch bo=>
  unfold Shv.O4;rw[b9];dsimp only;refine .inr ?_;rw[c8];dsimp only;rw[ch];dsimp only;split
  . rename_i t';rw[t']at b9;simp[Nc]at b9;subst b9;obtain⟨h1,ah,b',ea⟩:=bo rfl;exact⟨h1,Pv.aza ea ah b' qs⟩
  . refine .inr ⟨v,λKW=>?_,qs⟩;obtain⟨h1,ah,b',ea⟩:=bo KW;exact⟨h1,Pv.aza ea ah b' ⟨rfl,rfl⟩⟩
 | @Re p q f x args vs c8 dy KW ad eg al ch bo=>
  subst KW;unfold Shv.O4;rw[dy];simp only[Nc];refine .inr ?_;rw[c8];dsimp only;rw[ad,ch];dsimp only;obtain⟨h1,ah,b',ea⟩:=bo;simp only[agu,aam];exact⟨trivial,al,eg,h1,Pv.aza ea ah b' qs⟩
 | @raw p f args vs bs r s M c8 b9 KW ch bo ix ec yb L6 J8 hk b7 cv=>
  subst KW;unfold Shv.O4;rw[b9];dsimp only;refine .inr ?_;rw[c8];dsimp only;rw[ch];dsimp only;subst cv;have vJ:Pv P f vs J key (λI1 J'=>K (JB env o.dst true I1) J'):=by
   refine Pv.a1n ix ec yb b7 ?_
   grind
  grind
 | @own p f args vs r s M c8 b9 dy ch bo al J8 hk b7 cv=>
  unfold Shv.O4;rw[b9];dsimp only;refine .inr ?_;rw[c8];dsimp only;rw[ch];dsimp only;rw[dy];dsimp only;rw[dy]at b9;simp[Nc]at b9;subst b9;subst cv;refine⟨bo,Pv.a1m b7 al ?_⟩
  grind
theorem aGT{o:kx}{t:Nat}(h:t∈o.op.reads):t∈o.rd:=by simp[kx.rd,h]
theorem akC{o:kx}(h:∀t,t∈o.rd->look env' t=look env t):Nc env' o.guard=Nc env o.guard:=by
 cases b9:o.guard with
 | none=>rfl
 | some x=>
  obtain⟨t,b⟩:=x;simp only[Nc];rw[h t (by simp[kx.rd,b9])]
theorem auo{s:fu}(hk:s.all (λx=>x.1 < 16)=true){b:Nat}(al:¬(key<=b/\b < key+16))(J:fu):e1 (XT J key s) b=e1 J b:=by
 rw[akN];by_cases h:key<=b
 . rw[ao h];have:e1 s (b - key)=none:=by
    cases hs:e1 s (b - key)with
    | none=>rfl
    | some x=>
     exfalso
     have:∀{s:fu} {c:Nat} {x:h2},e1 s c=some x->s.all (λx=>x.1 < 16)=true->c < 16:=by
      intro s
      induction s with
      | nil=>intro c x h;simp[e1]at h
      | cons y r ih=>
       obtain⟨k,y⟩:=y;intro c x h oj;simp only[aao,k0,ye]at oj;simp only[e1]at h
       grind
     grind
   rw[this]
 grind
theorem VM{x:er}(h:∀t,t∈x.tmps->look env' t=look env t):Jo env' x=Jo env x:=by
 unfold Jo;rw[x1 h]
theorem at0{args:List er}(h:∀t,t∈args.flatMap er.tmps->look env' t=look env t):WY env' args=WY env args:=by
 induction args with
 | nil=>rfl
 | cons x r ih=>
  simp only[WY,MS]at ih ⊢;rw[x1 (λt ht=>h t (by simp[ht]))]
  grind
theorem aUV{o:py}(h:∀t,t∈o.reads->look env' t=look env t)(b:Nat):o' xb o env' key b=o' xb o env key b:=by
 cases o <;> try rfl
 case store k x v=>simp only[o'];rw[VM λt ht=>h t (by simp[py.reads,ht])]
 case append sz by' x y=>simp only[o'];rw[VM λt ht=>h t (by simp[py.reads,ht])]
 case upset x y=>simp only[o'];rw[VM λt ht=>h t (by simp[py.reads,ht])]
 case appendB e k x y=>simp only[o'];rw[VM λt ht=>h t (by simp[py.reads,ht])]
 case ustr e x y=>simp only[o'];rw[VM λt ht=>h t (by simp[py.reads,ht])]
 case call f args=>simp only[o'];rw[at0 h]
theorem aUW{o:py}(h:∀t,t∈o.reads->look env' t=look env t):Jz xb o env' key=Jz xb o env key:=by
 cases o <;> try rfl
 case b2s x=>simp only[Jz];rw[VM λt ht=>h t (by simp[py.reads,ht])]
 case load g k x=>simp only[Jz];rw[VM λt ht=>h t (by simp[py.reads,ht])]
 case store k x v=>simp only[Jz];rw[VM λt ht=>h t (by simp[py.reads,ht])]
 case lkset x y=>simp only[Jz];rw[VM λt ht=>h t (by simp[py.reads,ht])]
 case upset x y=>simp only[Jz];rw[VM λt ht=>h t (by simp[py.reads,ht])]
 case appendB e k x y=>simp only[Jz];rw[VM λt ht=>h t (by simp[py.reads,ht])]
 case ustr e x y=>simp only[Jz];rw[VM λt ht=>h t (by simp[py.reads,ht])]
 case call f args=>simp only[Jz];rw[at0 h]
 case append sz by' x y=>simp only[Jz];rw[VM (x:=x) λt ht=>h t (by simp[py.reads,ht]),VM (x:=y) λt ht=>h t (by simp[py.reads,ht])]
theorem DStep.local{o:kx}{g:Bool}{v:V}(h:DStep xb P o key env J g v J1)(he:∀t,t∈o.rd -> look env' t=look env t)(ht:∀b,b∈Jz xb o.op env key \/ o' xb o.op env key b=true -> e1 J' b=e1 J b):
 (∃hy,DStep xb P o key env' J' g v hy/\∀b,e1 hy b=if o' xb o.op env key b then e1 J1 b else e1 J' b)/\∀b,o' xb o.op env key b=false->e1 J1 b=e1 J b:=by
 have aiM:∀t,t∈o.op.reads->look env' t=look env t:=λt h=>he t (aGT h)
 cases h with
 | @op p J2 b9 a7 ch bo hG=>
  obtain⟨⟨hy,h1,ah⟩,b'⟩:=aT6 (J':=J') ch (λb al=>ht b (.inl al));have dy:o.op.neutral=true->∀b,o' xb o.op env key b=false:=by intro dy b;generalize o.op=azc at dy;cases azc <;> simp[py.neutral]at dy <;> rfl
  refine⟨⟨_,DStep.op (J2:=hy) (p:=p) (by rw[akC he];exact b9) a7 (by rw[aVP aiM];exact h1) bo hG,λb=>?_⟩,λb al=>?_⟩
  . by_cases Uk:o.op.neutral=true
    . rw[ao Uk,dy Uk b];rfl
    . rw[aJ Uk,aJ Uk];exact ah b
  . by_cases Uk:o.op.neutral=true
    . rw[ao Uk]
    . rw[aJ Uk];exact b' b al
 | skip b9 cJ=>
  refine⟨⟨J',DStep.skip (by rw[akC he];exact b9) cJ,λb=>?_⟩,λb _=>rfl⟩;split
  . rename_i hw;exact ht b (.inr hw)
  . rfl
 | @call p f args vs c8 b9 ch bo=>
  refine⟨⟨J',DStep.call c8 (by rw[akC he];exact b9) (by rw[akO λt h=>aiM t (by rw[c8];exact h)];exact ch) bo,λb=>?_⟩,λb _=>rfl⟩;split
  . rename_i hw;exact ht b (.inr hw)
  . rfl
 | @Re p q f x args vs c8 dy KW ad eg al ch bo=>
  refine⟨⟨J',DStep.Re c8 dy KW (by rw[x1 λt h=>aiM t (by rw[c8];simp[py.reads,h])];exact ad) eg al (by rw[akO λt h=>aiM t (by rw[c8];simp only[py.reads,Nw];exact .inr h)];exact ch) bo,λb=>?_⟩,λb _=>rfl⟩;split
  . rename_i hw;exact ht b (.inr hw)
  . rfl
 | @own p f args vs r s M c8 b9 dy ch bo al J8 hk b7 cv=>
  refine⟨⟨_,DStep.own c8 (by rw[akC he];exact b9) dy (by rw[akO λt h=>aiM t (by rw[c8];exact h)];exact ch) bo al J8 hk b7 cv,λb=>?_⟩,λb Oe=>?_⟩
  . by_cases ar:key<=b/\b < key+16
    . have hw:o' xb o.op env key b=true:=by rw[c8];simp[o',ar.1,ar.2]
      rw[ao hw];have e:=ht b (.inr hw);rw[akN,akN,e]
    . rw[auo hk ar];split
      . rename_i hw;rw[auo hk ar];exact ht b (.inr hw)
      . rfl
  . have ar:¬(key<=b/\b < key+16):=by intro h;rw[c8]at Oe;simp[o',h.1,h.2]at Oe
    exact auo hk ar J
 | @raw p f args vs bs r s M c8 b9 KW ch bo ix ec yb L6 J8 hk b7 cv=>
  have a0A:∀b,b∈WY env args++xb->b∈Jz xb o.op env key:=by intro b al;rw[c8];simp only[Jz,Nw];exact .inr (Nw.1 al)
  have QN:∀b,b∈bs->e1 J' b=e1 J b:=λb al=>ht b (.inl (a0A b (L6 b al)))
  have aJR:∀t,t∈args.flatMap er.tmps->look env' t=look env t:=λt h=>aiM t (by rw[c8];exact h)
  refine⟨⟨_,DStep.raw (bs:=bs) c8 (by rw[akC he];exact b9) KW (by rw[akO aJR];exact ch) bo ix ec (λb al=>by rw[QN b al];exact yb b al) (λb al=>by rw[at0 aJR];exact L6 b al) J8 hk
   (by rw[aEj QN];exact b7) cv,λb=>?_⟩,λb Oe=>?_⟩
  . by_cases hw:o' xb o.op env key b=true
    . rw[ao hw];refine aEk ?_;rw[abb,abb,ht b (.inr hw)]
    . rw[aJ hw];have anC:o' xb o.op env key b=false:=by simpa using hw
      rw[c8]at anC;simp only[o',ab5,ayW,aod]at anC;refine auu hk (λal=>?_) (by omega);have:=L6 b al;simp[ayX,this]at anC
  . rw[c8]at Oe;simp only[o',ab5,ayW,aod]at Oe;refine auu hk (λal=>?_) (by omega);have:=L6 b al;simp[ayX,this]at Oe
def aml(xb:List Nat)(P:Program):List kx->Nat->Env->fu->(Env->fu->Prop)->Prop
 | [],_,env,J,K=>K env J
 | o::r,key,env,J,K=>∃g v J1,DStep xb P o key env J g v J1/\aml xb P r (key+16) (JB env o.dst g v) J1 K
structure aax (xb:List Nat) (P:Program) (fJ:List kx) (N:Nat) (E:Nat->Env) (T:Nat->fu) (G:Nat->Bool) (W:Nat->V):Prop where
 step:∀(i:Nat) o,fJ[i]?=some o->DStep xb P o (N+16*i) (E i) (T i) (G i) (W i) (T (i+1))/\E (i+1)=JB (E i) o.dst (G i) (W i)
theorem awc :∀{fJ:List kx} {key:Nat} {env:Env} {J:fu} {K:Env->fu->Prop},aml xb P fJ key env J K->∃E T G W,aax xb P fJ key E T G W/\E 0=env/\T 0=J/\K (E fJ.length) (T fJ.length)
 | [],key,env,J,K,h=>⟨λ_=>env,λ_=>J,λ_=>true,λ_=>.gJ [],⟨λi o h=>by simp at h⟩,rfl,rfl,h⟩
 | o::r,key,env,J,K,h=>by
  obtain⟨g,v,J1,h1,ah⟩:=h;obtain⟨E,T,G,W,ar,eh,hj,qs⟩:=awc ah;refine⟨λi=>if i=0 then env else E (i - 1),λi=>if i=0 then J else T (i - 1),λi=>if i=0 then g else G (i - 1),λi=>if i=0 then v else W (i - 1),⟨λi q1 c8=>?_⟩,rfl,rfl,by simpa using qs⟩;cases i with
  | zero=>grind
  | succ i=>
   have:=ar.step i q1 (by simpa using c8)
   grind
end
end
section
open Go
variable {xb:List Nat}
theorem axb{p:Nat->Bool}:∀{m:Nat},(∃i,i < m/\p i=true)->∃i,i < m/\p i=true/\∀j,j < m->p j=true->j<=i
 | 0,⟨i,h,_⟩=>by omega
 | m+1,⟨i,h1,ah⟩=>by
  cases hm:p m with
  | true=>exact⟨m,by omega,hm,λj c7 _=>by omega⟩
  | false=>
   have:i < m:=by grind
   obtain⟨k,b',ea,hf⟩:=axb (m:=m) ⟨i,this,ah⟩
   grind
theorem akX{P:Program}{nt:Nat}{ops:Array Oper}:∀{l:List Oper} {fJ:List kx},To P nt ops l=some fJ->fJ.length=l.length
 | [],fJ,h=>by simp[To]at h;subst h;rfl
 | o::l,fJ,h=>by
  simp only[To,hC,gC]at h;obtain⟨tw,TE,r,ar,rfl⟩:=h;simp[akX ar]
theorem auv{P:Program}{nt:Nat}{ops:Array Oper}:∀{l:List Oper} {fJ:List kx} {i:Nat} {o:Oper},To P nt ops l=some fJ->l[i]?=some o->∃tw,fJ[i]?=some tw/\ahm P nt ops o=some tw
 | [],fJ,i,o,h,c8=>by simp at c8
 | x::l,fJ,i,o,h,c8=>by
  simp only[To,hC,gC]at h;obtain⟨tw,TE,r,ar,rfl⟩:=h;cases i with
  | zero=>simp at c8;subst c8;exact⟨tw,rfl,TE⟩
  | succ i=>simpa using auv ar (by simpa using c8)
theorem atO :∀{l:List (kx×List Nat)} {k i:Nat} {x:kx×List Nat},aqY k l=true->l[i]?=some x->∀d,d∈x.2->d < k+i
 | [],k,i,x,h,ad,d,a7=>by simp at ad
 | y::r,k,i,x,h,ad,d,a7=>by
  simp only[aqY,k0,r0,ye]at h;cases i with
  | zero=>simp at ad;subst ad;exact h.1 d a7
  | succ i=>
   have:=atO h.2 (by simpa using ad) d a7;omega
theorem aUX{L:List (kx×List Nat)}{j i:Nat}(h:ahead L j i=true):j < i/\∃x,L[i]?=some x/\j∈x.2:=by
 simp only[ahead,k0,ye]at h
 grind
theorem aFb{o:py}{env:Env}{key b:Nat}(ht:o.QZ=true)(hw:o' xb o env key b=true):b∈Jz xb o env key:=by
 cases o
 case call f args=>
  simp only[o',Qp,k0,ye,ayX]at hw;simp only[Jz,Nw,Lp,aji];rcases hw with h | h
  . exact .inl ⟨b - key,by omega,by omega⟩
  grind
 all_goals simp[py.QZ]at ht <;> simp[o',Jz]at hw ⊢ <;> first | exact hw | (rcases hw with h | h;exact .inl h;exact .inr (.inl h))
theorem aSx{o:py}{env:Env}{key:Nat}(ht:o.QZ=false):Jz xb o env key=[]:=by
 cases o <;> simp[py.QZ]at ht <;> rfl
theorem aF4{o:py}{env:Env}{key b:Nat}(hw:o' xb o env key b=true):o.neutral=false:=by
 cases o <;> simp[o']at hw <;> rfl
theorem aHJ{o:py}{env:Env}{key b:Nat}(ht:o.QZ=false)(hw:o' xb o env key b=true):key<=b/\b < key+16:=by
 cases o <;> simp[py.QZ]at ht <;> simp[o']at hw
section
variable {P:Program} {c9:Ctx} {nt kk:Nat} {N:Nat} {ops:Array Oper} {fJ:List kx} {E:Nat->Env} {T:Nat->fu} {G:Nat->Bool} {W:Nat->V}
theorem Rel.aOJ{φ:vt}{S:y0}{env env':Env}{J:fu}{n:Nat->Bool}{a:Act}{w:World}(R:Rel c9 nt φ S env J n a w)(h:∀t,look env' t=look env t):Rel c9 nt φ S env' J n a w:=
 ⟨R.h',λk g v a6=>R.Ot k g v (h k▸a6),λk g v a6=>R.PK k g v (h k▸a6),λk g v a6=>R.Oq k g v (h k▸a6),R.HJ,R.size,R.defers,R.ext,R.own,R.fix,R.Nu⟩
def Qu(xb:List Nat)(fJ:List kx)(E:Nat->Env)(N i b:Nat):Bool:=match fJ[i]? with | some o=>o' xb o.op (E i) (N+16*i) b | none=>false
theorem ahX(ar:aax xb P fJ N E T G W){t:Nat}{i:Nat}:∀{k:Nat},i<=k->k<=fJ.length->(∀(j:Nat) (o:kx),i<=j->j < k->fJ[j]?=some o->o.dst≠some t)->look (E k) t=look (E i) t:=by
 intro k
 induction k with
 | zero => intro h1 _ _; have : i = 0 := by omega
           subst this;rfl
 | succ k ih=>
  intro h1 ah b';by_cases ax0:i=k+1
  . grind
  . have hk:k < fJ.length:=by omega
    have c8:fJ[k]?=some fJ[k]:=J9 hk;rw[(ar.step k _ c8).2,aaY,aJ (b' k _ (by omega) (by omega) c8)]
    grind
theorem aq3(ar:aax xb P fJ N E T G W){b:Nat}{i:Nat}:∀{k:Nat},i<=k->k<=fJ.length->(∀j:Nat,i<=j->j < k->Qu xb fJ E N j b=false)->e1 (T k) b=e1 (T i) b:=by
 intro k
 induction k with
 | zero => intro h1 _ _; have : i = 0 := by omega
           subst this;rfl
 | succ k ih=>
  intro h1 ah b';by_cases ax0:i=k+1
  . grind
  . have hk:k < fJ.length:=by omega
    have c8:fJ[k]?=some fJ[k]:=J9 hk;have hw:=b' k (by omega) (by omega);unfold Qu at hw;rw[c8]at hw;have:=((ar.step k _ c8).1.local (env':=E k) (J':=T k) (λ_ _=>rfl) (λ_ _=>rfl)).2 b hw
    grind
inductive Ta (D:Nat->List Nat) (j:Nat):Nat->Prop
 | one {i:Nat} (h:j∈D i):Ta D j i
 | step {e i:Nat} (h:Ta D j e) (he:e∈D i):Ta D j i
theorem Ta.ready{D:Nat->List Nat}{n:Nat}{p:Nat->Bool}(al:∀i d,i < n->d∈D i->d < i)(aZE:∀e,e < n->p e=true->∀d,d∈D e->p d=true){j i:Nat}(h:Ta D j i)(ay:i < n)(a7:∀d,d∈D i->p d=true):p j=true:=by
 induction h with
 | one h=>exact a7 _ h
 | step h he ih=>grind
theorem Ta.congr{D aAq:Nat->List Nat}{n:Nat}(al:∀i d,i < n->d∈D i->d < i)(NG:∀i,i < n->D i=aAq i){j i:Nat}(h:Ta D j i)(ay:i < n):Ta aAq j i:=by
 induction h with
 | one h=>exact .one (by rw[<-NG _ ay];exact h)
 | step h he ih=>
  have:=al _ _ ay he;exact .step (ih (by omega)) (by rw[<-NG _ ay];exact he)
theorem aDQ{D:Nat->List Nat}:∀{l:List (kx×List Nat)} {acc:List (List Nat)},(∀(k:Nat) x,l[k]?=some x->D (acc.length+k)=x.2)->(∀i j,j∈acc.getD i []->Ta D j i)->∀i j,j∈(YU l acc).getD i []->Ta D j i
 | [],acc,_,ch,i,j,h=>ch i j h
 | x::r,acc,NG,ch,i,j,h=>by
  simp only[YU]at h;refine aDQ (acc:=acc++[(x.2++x.2.flatMap λe=>acc.getD e []).eraseDups]) (λk y bJ=>?_) (λi j c7=>?_) i j h
  . have:=NG (k+1) y (by simpa using bJ)
    grind
  . rw[List.getD_eq_getElem?_getD,List.getElem?_append]at c7;split at c7
    . grind
    . rename_i ay;cases hk:i - acc.length with
      | succ k=>rw[hk]at c7;simp at c7
      | zero=>
       rw[hk]at c7;have OK:i=acc.length:=by omega
       subst OK;have ad:D acc.length=x.2:=by simpa using NG 0 x rfl
       simp only[aoc,Xo,List.mem_eraseDups,Nw,ay8]at c7;rcases c7 with c7 | ⟨e,he,c7⟩
       . exact .one (by rw[ad];exact c7)
       . exact .step (ch e j c7) (by rw[ad];exact he)
structure Stat (xb:List Nat) (fJ:List kx) (D:Nat->List Nat) (E:Nat->Env) (N:Nat):Prop where
 back:∀i d,i < fJ.length->d∈D i->d < i
 ajD:∀(i j:Nat) (x y:kx) (d:Nat),fJ[i]?=some x->fJ[j]?=some y->y.dst=some d->(d∈x.rd->(j < i/\j∈D i)\/(x.op.neutral=true/\x.op.QZ=false/\i < j/\i∈D j))/\(i=j\/x.dst≠some d)
 ord:∀i j b,i≠j->i < fJ.length->j < fJ.length->Qu xb fJ E N i b=true->((∃y:kx,fJ[j]?=some y/\b∈Jz xb y.op (E j) (N+16*j))\/Qu xb fJ E N j b=true)->(i < j/\Ta D i j)\/(j < i/\Ta D j i)
def used(N m:Nat)(listed:Array Bool):Nat->Bool:=λb=>lt N b || (List.range m).any λi=>listed.getD i false && (decide (N+16*i<=b) && decide (b < N+16*i+16))
structure Inv (xb:List Nat) (c9:Ctx) (nt:Nat) (fJ:List kx) (D:Nat->List Nat) (N:Nat) (E:Nat->Env) (T:Nat->fu) (G:Nat->Bool) (W:Nat->V) (listed:Array Bool) (φ:vt) (S:y0) (env:Env) (J:fu) (a:Act) (w:World):Prop where
 rel:Rel c9 nt φ S env J (used N fJ.length listed) a w
 size:listed.size=fJ.length
 down:∀i,i < fJ.length->listed.getD i false=true->∀d,d∈D i->listed.getD d false=true
 u1:∀t,(∀(i:Nat) (o:kx),fJ[i]?=some o->listed.getD i false=true->o.dst≠some t)->look env t=look (E 0) t
 eh:∀t (i:Nat) (o:kx),fJ[i]?=some o->listed.getD i false=true->o.dst=some t->look env t=some (G i,W i)
 ad7:∀b,(∀i,i < fJ.length->listed.getD i false=true->Qu xb fJ E N i b=false)->e1 J b=e1 (T 0) b
 s1:∀b i,i < fJ.length->listed.getD i false=true->Qu xb fJ E N i b=true->(∀j,j < fJ.length->listed.getD j false=true->Qu xb fJ E N j b=true->j<=i)->e1 J b=e1 (T (i+1)) b
theorem WM{listed:Array Bool}{i j:Nat}(ay:i < listed.size):(listed.setIfInBounds i true).getD j false=if j=i then true else listed.getD j false:=by
 by_cases h:j=i
 . simp_all
 . rw[aJ h,getD_set_ne false (EI h)]
theorem Inv.agree {listed:Array Bool} {D:Nat -> List Nat} {φ:vt} {S:y0} {env:Env} {J:fu} {a:Act} {w:World} (ns:Inv xb c9 nt fJ D N E T G W listed φ S env J a w) (st:Stat xb fJ D E N) (ar:aax xb P fJ N E T G W)
 {i:Nat} {o:kx} (c8:fJ[i]?=some o) (dy:listed.getD i false=false) (a7:∀d,d∈D i->listed.getD d false=true):
 (∀t,t∈o.rd->look env t=look (E i) t)/\∀b,b∈Jz xb o.op (E i) (N+16*i)\/o' xb o.op (E i) (N+16*i) b=true->e1 J b=e1 (T i) b:=by
 have ay:i < fJ.length:=(sb.1 c8).1;refine⟨λt ht=>?_,λb al=>?_⟩
 . by_cases hw:∃(j:Nat) (y:kx),fJ[j]?=some y/\y.dst=some t
   . obtain⟨j,y,bJ,KX⟩:=hw;rcases (st.ajD i j o y t c8 bJ KX).1 ht with⟨h1,ah⟩ | ⟨_,_,h1,ah⟩
     . rw[ns.eh t j y bJ (a7 j ah) KX];have:look (E (j+1)) t=some (G j,W j):=by rw[(ar.step j y bJ).2,aaY,ao KX]
       rw[<-this]
       symm
       refine ahX ar (by omega) (by omega) λk z Oy TI ga Wa=>?_
       rcases (st.ajD k j z y t ga bJ KX).2 with h | h
       . omega
       . exact h Wa
     . have c7:j < fJ.length:=(sb.1 bJ).1;have adE:∀(k:Nat) (z:kx),fJ[k]?=some z->z.dst=some t->k=j:=by
        intro k z ga Wa;rcases (st.ajD k j z y t ga bJ KX).2 with h | h
        . exact h
        grind
       rw[ns.u1 t λk z ga a6 Wa=>by
        have:=adE k z ga Wa;subst this;have:=ns.down k c7 a6 i ah
        grind]
       symm
       refine ahX ar (RE _) (by omega) λk z _ hk ga Wa=>?_
       have:=adE k z ga Wa;omega
   . have aab:∀(j:Nat) (y:kx),fJ[j]?=some y->y.dst≠some t:=λj y bJ h=>hw ⟨j,y,bJ,h⟩
     rw[ns.u1 t λj y bJ _=>aab j y bJ]
     symm
     exact ahX ar (RE _) (by omega) λj y _ _ bJ=>aab j y bJ
 . have Za:∀j,j≠i->j < fJ.length->Qu xb fJ E N j b=true->(j < i/\Ta D j i)\/(i < j/\Ta D i j):=by
    intro j c7 TG anc;refine st.ord j i b c7 TG ay anc ?_;rcases al with al | al
    . grind
    . exact .inr (by unfold Qu;rw[c8];exact al)
   have a6:∀j,j < fJ.length->listed.getD j false=true->Qu xb fJ E N j b=true->j < i:=by
    intro j TG arS anc;have hG:j≠i:=by rintro rfl;rw[dy]at arS;cases arS
    rcases Za j hG TG anc with h | h
    . exact h.1
    . have:=h.2.ready (p:=λk=>listed.getD k false) st.back ns.down TG (ns.down j TG arS)
      grind
   have E8:∀j,j < i->Qu xb fJ E N j b=true->listed.getD j false=true:=by
    intro j Xi anc;rcases Za j (by omega) (by omega) anc with h | h
    . exact h.2.ready (p:=λk=>listed.getD k false) st.back ns.down ay a7
    . omega
   by_cases hex:∃j,j < i/\Qu xb fJ E N j b=true
   . obtain⟨j,am',ana,anb⟩:=axb hex;rw[ns.s1 b j (by omega) (E8 j am' ana) ana (λk Oy TI arO=>anb k (a6 k Oy TI arO) arO)]
     symm
     refine aq3 ar (by omega) (by omega) λk Oy TI=>?_
     cases ax3:Qu xb fJ E N k b with
     | false=>rfl
     | true=>have:=anb k TI ax3;omega
   . have aab:∀j,j < i->Qu xb fJ E N j b=false:=by grind
     rw[ns.ad7 b λj TG arS=>by grind]
     symm
     exact aq3 ar (RE _) (by omega) λj _ c7=>aab j c7
theorem aVQ{m:Nat}{listed:Array Bool}{i b:Nat}(ay:i < listed.size)(h:JI (used N m listed) (N+16*i) b=true)(abO:i < m):used N m (listed.setIfInBounds i true) b=true:=by
 simp only[JI,used,Qp,ajg,aji,k0,ye]at h ⊢;rcases h with(h | ⟨j,h1,ah,b'⟩) | h
 . exact .inl h
 . exact .inr ⟨j,h1,by rw[WM ay];split;rfl;exact ah,b'⟩
 . exact .inr ⟨i,abO,by rw[WM ay,ao rfl],h⟩
theorem aFc{m:Nat}{listed:Array Bool}{i:Nat}(dy:listed.getD i false=false){b:Nat}(h1:N+16*i<=b)(ah:b < N+16*i+16):used N m listed b=false:=by
 simp only[used,ab5,ay4,aji,k0,ye];refine⟨by simp[lt];omega,λj c7 h=>?_⟩
 grind
theorem Inv.step {listed:Array Bool} {D:Nat -> List Nat} {φ hK:vt} {S ik:y0} {env:Env} {J hy:fu} {a q':Act} {w w':World} (ns:Inv xb c9 nt fJ D N E T G W listed φ S env J a w) (st:Stat xb fJ D E N) (ar:aax xb P fJ N E T G W)
 {i:Nat} {o:kx} (c8:fJ[i]?=some o) (dy:listed.getD i false=false) (a7:∀d,d∈D i->listed.getD d false=true)
 (l1:∀b,e1 hy b=if o' xb o.op (E i) (N+16*i) b then e1 (T (i+1)) b else e1 J b)
 (R:Rel c9 nt hK ik (JB env o.dst (G i) (W i)) hy (JI (used N fJ.length listed) (N+16*i)) q' w'):
 Inv xb c9 nt fJ D N E T G W (listed.setIfInBounds i true) hK ik (JB env o.dst (G i) (W i)) hy q' w':=by
 have ay:i < fJ.length:=(sb.1 c8).1;have Ox:i < listed.size:=by rw[ns.size];exact ay
 have ar6:∀b,Qu xb fJ E N i b=o' xb o.op (E i) (N+16*i) b:=λb=>by unfold Qu;rw[c8]
 refine⟨R.more λb al=>aVQ Ox al ay,by simp[ns.size],λj c7 a6 d SK=>?_,λt ht=>?_,λt j y bJ a6 KX=>?_,λb al=>?_,λb j c7 a6 hw NX=>?_⟩
 . rw[WM Ox]at a6 ⊢;split
   . rfl
   . split at a6
     . rename_i e;subst e;exact a7 d SK
     . exact ns.down j c7 a6 d SK
 . rw[aaY,aJ (ht i o c8 (by rw[WM Ox,ao rfl]))];exact ns.u1 t λj y bJ a6=>ht j y bJ (by rw[WM Ox];split;rfl;exact a6)
 . rw[aaY];rw[WM Ox]at a6;by_cases Xi:j=i
   . subst Xi;rw[c8]at bJ;cases bJ;rw[ao KX]
   . rw[aJ Xi]at a6;rw[aJ (λh=>?_)]
     . exact ns.eh t j y bJ a6 KX
     . rcases (st.ajD i j o y t c8 bJ KX).2 with rz | rz
       . exact Xi rz.symm
       . exact rz h
 . rw[l1 b];have Za:=al i ay (by rw[WM Ox,ao rfl]);rw[ar6]at Za;rw[Za];exact ns.ad7 b λj c7 a6=>al j c7 (by rw[WM Ox];split;rfl;exact a6)
 . rw[l1 b];rw[WM Ox]at a6;by_cases Za:o' xb o.op (E i) (N+16*i) b=true
   . rw[ao Za];have aJZ:i<=j:=NX i ay (by rw[WM Ox,ao rfl]) (by rw[ar6];exact Za);by_cases Xi:j=i
     . subst Xi;rfl
     ·
      exfalso
      rw[aJ Xi]at a6;rcases st.ord i j b (EI Xi) ay c7 (by rw[ar6];exact Za) (.inr hw)with h | h
      . have:=h.2.ready (p:=λk=>listed.getD k false) st.back ns.down c7 (ns.down j c7 a6);rw[dy]at this;cases this
      . omega
   . rw[aJ Za];by_cases Xi:j=i
     . subst Xi;rw[ar6]at hw;exact absurd hw Za
     . rw[aJ Xi]at a6;exact ns.s1 b j c7 a6 hw λk hk L2 agh=>NX k hk (by rw[WM Ox];split;rfl;exact L2) agh
theorem Inv.done {listed:Array Bool} {D:Nat -> List Nat} {φ:vt} {S:y0} {env:Env} {J:fu} {a:Act} {w:World} (ns:Inv xb c9 nt fJ D N E T G W listed φ S env J a w) (st:Stat xb fJ D E N) (ar:aax xb P fJ N E T G W)
 (oj:∀i,i < fJ.length->listed.getD i false=true):Rel c9 nt φ S (E fJ.length) (T fJ.length) (lt (N+16*fJ.length)) a w:=by
 refine((ns.rel.aOJ λt=>?_).congr λb=>?_).more λb al=>?_
 . by_cases hw:∃(j:Nat) (y:kx),fJ[j]?=some y/\y.dst=some t
   . obtain⟨j,y,bJ,KX⟩:=hw;have c7:j < fJ.length:=(sb.1 bJ).1;rw[ns.eh t j y bJ (oj j c7) KX];have:look (E (j+1)) t=some (G j,W j):=by rw[(ar.step j y bJ).2,aaY,ao KX]
     rw[<-this];refine ahX ar (by omega) (JK _) λk z Oy TI ga Wa=>?_
     rcases (st.ajD k j z y t ga bJ KX).2 with h | h
     . omega
     . exact h Wa
   . have aab:∀(j:Nat) (y:kx),fJ[j]?=some y->y.dst≠some t:=λj y bJ h=>hw ⟨j,y,bJ,h⟩
     rw[ns.u1 t λj y bJ _=>aab j y bJ];exact ahX ar (RE _) (JK _) λj y _ _ bJ=>aab j y bJ
 . by_cases hex:∃j,j < fJ.length/\Qu xb fJ E N j b=true
   . obtain⟨j,am',ana,anb⟩:=axb hex;rw[ns.s1 b j am' (oj j am') ana (λk Oy _ arO=>anb k Oy arO)];refine aq3 ar (by omega) (JK _) λk Oy TI=>?_
     cases ax3:Qu xb fJ E N k b with
     | false=>rfl
     | true=>have:=anb k TI ax3;omega
   . have aab:∀j,j < fJ.length->Qu xb fJ E N j b=false:=by grind
     rw[ns.ad7 b λj TG _=>aab j TG];exact aq3 ar (RE _) (JK _) λj _ c7=>aab j c7
 . simp only[used,lt,Qp,ajg,aji,k0,ye]at al ⊢;rcases al with h | ⟨j,h1,ah,b',ea⟩
   . omega
   . omega
theorem aSS {D:Nat -> List Nat} (st:Stat xb fJ D E N) (ar:aax xb P fJ N E T G W) (hres:To P nt ops ops.toList=some fJ) (NG:∀(i:Nat) o,ops[i]?=some o -> D i=OZ o) {Q:Exit -> Act -> World -> Prop}
 (Jb:∀φ S a w,Rel c9 nt φ S (E fJ.length) (T fJ.length) (lt (N+16*fJ.length)) a w->Q .normal a w):
 ∀(fuel:Nat) (listed:Array Bool) φ S env J a w,listed.toList.countP (· ==false)<=fuel->Inv xb c9 nt fJ D N E T G W listed φ S env J a w->wpAny P .any ops Q fuel listed a w:=by
 have hlen:=akX hres;simp at hlen;have ayo:∀(listed:Array Bool) (φ:vt) (S:y0) (env:Env) (J:fu) (a:Act) (w:World),Inv xb c9 nt fJ D N E T G W listed φ S env J a w->Region.ready .any ops listed=[]->∀i,i < fJ.length->listed.getD i false=true:=by
  intro listed φ S env J a w ns PS i
  induction i using Nat.strongRecOn with
  | _ i ih=>
   intro ay;cases a6:listed.getD i false with
   | true=>rfl
   | false=>
    exfalso
    have af0:i < ops.size:=by omega
    have c8:ops[i]?=some ops[i]:=asg af0;have:i∈Region.ready .any ops listed:=by
     rw[mem_ready];refine⟨?_,ops[i],c8,λe he al=>?_⟩
     . have Ox:i < listed.size:=by rw[ns.size];exact ay
       grind
     . have a7:e.on∈D i:=by
        rw[NG i _ c8];simp only[OZ,Lp,adZ]
        grind
       exact ih e.on (st.back i _ ay a7) (by have:=st.back i _ ay a7;omega)
    grind
 have aJN:∀(listed:Array Bool) (φ:vt) (S:y0) (env:Env) (J:fu) (a:Act) (w:World),Inv xb c9 nt fJ D N E T G W listed φ S env J a w->Region.ready .any ops listed=[]->Q .normal a w:=by
  intro listed φ S env J a w ns PS;exact Jb φ S a w (ns.done st ar (ayo listed φ S env J a w ns PS))
 intro fuel
 induction fuel with
 | zero=>
  intro listed φ S env J a w b7 ns;have oj:∀i,i < fJ.length->listed.getD i false=true:=by
   intro i ay;have Ox:i < listed.size:=by rw[ns.size];exact ay
   cases a6:listed.getD i false with
   | true=>rfl
   | false=>
    exfalso
    have h0:listed.toList.countP (· ==false)=0:=by omega
    rw[List.countP_eq_zero]at h0;simp[Ox]at a6;exact h0 listed[i] (by simp) (by simp[a6])
  have PS:Region.ready .any ops listed=[]:=by
   rw[aKZ];intro i ay;rw[mem_ready]at ay
   grind
  exact⟨PS,aJN listed φ S env J a w ns PS⟩
 | succ fuel ih=>
  intro listed φ S env J a w b7 ns;refine⟨aJN listed φ S env J a w ns,λi ay=>?_⟩;rw[mem_ready]at ay;obtain⟨h1,o,c8,aZC⟩:=ay;have af0:i < ops.size:=(an'.1 c8).1;have abO:i < fJ.length:=by omega
  have Ox:i < listed.size:=by rw[ns.size];exact abO
  have dy:listed.getD i false=false:=by simp[Ox]at h1 ⊢;exact h1
  obtain⟨tw,TE,arZ⟩:=auv hres (i:=i) (o:=o) (by simpa using c8);have a7:∀d,d∈D i->listed.getD d false=true:=by
   intro d a7;rw[NG i o c8]at a7;simp only[OZ,Lp,adZ]at a7
   grind
  obtain⟨axE,abI⟩:=ns.agree st ar TE dy a7;obtain⟨⟨hy,hs,l1⟩,_⟩:=(ar.step i tw TE).1.local (env':=env) (J':=J) axE abI;have QR:=apt ns.rel (key:=N+16*i) (λb Nn ML=>aFc dy Nn ML) arZ (K:=λe s=>e=JB env tw.dst (G i) (W i)/\s=hy) (hs.O4 ⟨rfl,rfl⟩) (Q:=Q)
  have next:∀q' w',UL c9 nt (JI (used N fJ.length listed) (N+16*i)) (λe s=>e=JB env tw.dst (G i) (W i)/\s=hy) q' w'->wpAny P .any ops Q fuel (listed.setIfInBounds i true) q' w':=by
   rintro q' w' ⟨hK,ik,e,s,⟨rfl,rfl⟩,R'⟩
   refine ih _ hK ik _ _ q' w' ?_ (ns.step st ar TE dy a7 l1 R');have:listed.toList[i]?=some false:=by simp[Ox]at dy ⊢;exact dy
   grind
  unfold wpOp;rw[c8];dsimp only;split at QR
  . rename_i hw;rw[ao hw];exact .inl (Oper.wp_mono next QR)
  . rename_i hw;rw[aJ hw];exact next _ _ QR
end
end
end Go.Proofs.YtijpinendaoleaaGreat.Shv
