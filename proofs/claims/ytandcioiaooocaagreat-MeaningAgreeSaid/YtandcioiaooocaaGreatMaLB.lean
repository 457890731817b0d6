/- The library of this proof, part B: an abstract machine for the code of the program, and its soundness. -/
import Derived.Lib.UnsafeStr
import Derived.Orders
import Derived.LoopN
import Derived.Test.YtandcioiaooocaaGreatMaLA

namespace Go.Proofs.YtandcioiaooocaaGreat.Shv
set_option linter.all false
section
open Go
theorem C.UY(c:C):c.cv (λ_=>true)=true:=by cases c<;>simp[C.cv]
section
variable {P:Program}{cm:K5}{nt kk:Nat}{φ:q3}{S hJ:r'}{env:hc}{J:ee}{N key:Nat}{n:Nat->Bool}{a:Act}{w w':World}
theorem ga.extend(R:ga cm nt φ S env J n a w)(e:Rk (λ_=>False) S hJ w w')(qy:∀b j,hJ b j->b<w'.heap.size):ga cm nt φ hJ env J n a w':=by
 have ak:∀b:Nat,b<w.heap.size->w'.heap[b]?=w.heap[b]?:=λb ai=>e.block b ai (λh=>h)
 have E1:∀b x,eb J b=some x->(φ b).2≠0->∀j,¬hJ (φ b).1 j:=by
  intro b x aa h0 j ea;have u':=R.hI.blk b x aa;rcases e.ZW _ _ ea with h|h|h
  . exact u'.Yj h0 j h
  . exact h
  . have:=u'.Q7 h0;omega
 refine⟨⟨λb x aa=>?_,R.hI.inj,qy⟩,λk g v ar a8=>?_,R.Np,R.LZ,R.vi,R.size,R.defers,?_,R.own,R.fix,R.OU⟩
 . have u':=R.hI.blk b x aa;cases x with
   |box cs=>
    obtain⟨h0,vs,E,h1,ad,a'⟩:=u';refine⟨h0,vs,E,(ak _ (TC h1)).trans h1,ad.imp λc v a7 al=>fJ.mono (n:=λ_=>true) e.mono (λ_ _=>rfl) (C.UY _) al,E1 b _ aa h0⟩
   |arr sz es=>
    obtain⟨h1,ad,a',d',hy⟩:=u';refine⟨h1,ad,a',d',λh0=>?_⟩;obtain⟨vs,E,ha,hg,hQ,oi⟩:=hy h0;exact⟨vs,E,(ak _ (TC ha)).trans ha,hg,λi j pJ t he ht=>let⟨v,ch,al⟩:=hQ i j pJ t he ht;⟨v,ch,hY.mono e.mono al⟩,E1 b _ aa h0⟩
   |set ks=>
    obtain⟨h0,⟨es,c,h1,ad⟩,a'⟩:=u';exact⟨h0,⟨es,c,(ak _ (TC h1)).trans h1,ad⟩,E1 b _ aa h0⟩
   |buf E s=>
    obtain⟨h1,ad,a'⟩:=u';refine⟨h1,ad,λh0=>?_⟩
    grind
   |hZ E c=>
    obtain⟨h0,⟨p,v,h1,ad,a'⟩,d'⟩:=u';exact⟨h0,⟨p,v,(ak _ (TC h1)).trans h1,ad,fJ.mono (n:=λ_=>true) e.mono (λ_ _=>rfl) (C.UY _) a'⟩,E1 b _ aa h0⟩
   |kx sz es i o c=>
    obtain⟨⟨h1,ad,a',d',hy,B'⟩,⟨vs,E,ha,hg,hQ,v,oi,te⟩,q'⟩:=u';exact⟨⟨h1,ad,a',d',hy,B'⟩,⟨vs,E,(ak _ (TC ha)).trans ha,hg,λi j pJ t he ht eJ=>let⟨v,ch,al⟩:=hQ i j pJ t he ht eJ;⟨v,ch,hY.mono e.mono al⟩,v,oi,fJ.mono (n:=λ_=>true) e.mono (λ_ _=>rfl) (C.UY _) te⟩,E1 b _ aa (by omega)⟩
 . obtain⟨x,aa,al⟩:=R.L0 k g v ar a8;exact⟨x,aa,jJ.mono e.mono (λ_ _=>rfl) (R.LZ k g v ar a8) al⟩
 . refine⟨e.os.trans R.ext.os,e.tape.trans R.ext.tape,e.output.trans R.ext.output,Ug R.ext.size e.size,λb e' u'=>?_,R.ext.mono.trans e.mono,λb j ea=>?_⟩
   . exact(ak b (Uc e' R.ext.size)).trans (R.ext.block b e' u')
   . rcases e.ZW _ _ ea with h|h|h
     . exact R.ext.ZW b j h
     . exact h.elim
     . exact .inr (.inr (Ug R.ext.size h))
theorem aEJ (R:ga cm nt φ S env J n a w){o:Oper}{ty:TypeId}{len:Nat}{parts:Array (Nat×Operand)}(cJ:o.op= .buildSlice ty len parts){e:TypeId}(oo:P.underlying ty=some (.slice e)){sz:Nat}(hG:D' P e=some sz)
 {z:List C}(gb:Sr P e=some z){ps:List (Nat×dy)}(E8:Xq parts.toList=some ps)(h0:sz≠0)(MZ:z.length=sz)(q4:len*sz<=2^24)
 {p v J'}(hk:n key=false)(h:dx (.bsliceT e sz len z ps) env J key=some (p,v,J'))(aJ:p):Good P cm nt env J' (l0 n key) a v ((execOp a.eval o).run P w):=by
 simp only[dx,gA,e0,ho]at h;obtain⟨N8,RQ,⟨q,ds⟩,ai,rfl,rfl,rfl⟩:=h;obtain⟨i,Jm,ao,RR,k4,Lj⟩:=acN (φ:=φ) (w:=w) (S:=S) (n:=n) gb;have Ou:=aaj RQ k4;have apE:Jm.cells.size=sz:=by rw[<-ZG,<-k4.length,MZ]
 have Zv:0<sz:=by omega
 have aL7:N8.length=sz:=by rw[ae3 RQ,MZ]
 obtain ⟨us,h1,ad,a',d',hy,_⟩:= ami R Zv E8 ai aJ (es:= List.replicate len N8) (vs:= ((Array.range (len*sz)).map (Jm.cells[· % Jm.cells.size]!)).toList) (by
  grind) (by simp) (by
  intro i j e t he ht;have ao:=(pv.1 he).1;simp at ao;have:e=N8:=by
   have:=F' he;exact ala this
  subst this;have ea:=(pv.1 ht).1;obtain⟨x,aa,al⟩:=Ou.get ht;refine⟨x,?_,al⟩;rw[apV,asj apE Zv i j ao (by omega)]
  simpa using aa)
 simp at a';have akR:us.length=len*sz:=by rw[d'];simp
 have n':len<=I':=by
  have:len<=len*sz:=alb len Zv;unfold I';omega
 have qy:∀b j,S b j->b<w.heap.size:=R.hI.st;have m0:LF w S (w.alloc (.cells us.toArray e)) (λb j=>S b j\/b=w.heap.size):=⟨λ_ _ h=>.inl h,λb j h=>YS (aiK (qy b j h)) j⟩
 have aAM:Rk (λ_=>False) S (λb j=>S b j\/b=w.heap.size) w (w.alloc (.cells us.toArray e)):=
  ⟨rfl,rfl,rfl,by simp,λb ai _=>aiK ai,m0,λb j h=>by grind⟩
 have h':=R.extend aAM (λb j h=>by
  rcases h with h|h
  . have:=qy b j h;simp;omega
  simp_all)
 refine⟨.slice (some ⟨w.heap.size,0,none⟩) len len,φ,_,_,.inl ?_,?_,rfl,h'.more λ_ h=>Rm h⟩
 . have LK:Instr.fill (λi=>some (i*sz,sz)) ((Array.range (len*sz)).map (Jm.cells[· % Jm.cells.size]!)) ((parts.map λ(i,x)=>(i,a.eval x)).toList)=some us.toArray:=by
    rw[Array.toList_map];exact h1
   have al:=arE (P:=P) (w:=w) oo hG ao RR h0 q4 rfl LK;simp only[execOp,cJ,Sem.run_bind,al,Result.andThen_ok];rfl
 . refine .c ?_;have RN:ds.length=len:=a';show hY _ _ (.slice ds) _;rw[<-RN]at n'⊢;have t':∀j,(w.alloc (.cells us.toArray e)).cell? ⟨w.heap.size,j,none⟩=us[j]?:=λj=>PR Xg j
   refine hY.slice ds _ _ sz w.heap.size 0 (λi j=>(us[i*sz+j]?).getD undef) (DJ _) n' ad (λ_=>rfl) (λi j ao ea=>⟨.inr rfl,?_⟩) (λi j pJ t he ht=>?_)
   . rw[Lt,t'];have e':i*sz+j<us.length:=by
      have:=Ja sz (show i+1<=ds.length from ao)
      grind
     rw[HJ e'];rfl
   . obtain⟨v,ch,al⟩:=hy i j pJ t he ht;rw[ch];exact hY.mono m0 al
theorem aFx{ty:TypeId}{e8:Nat}(h:ae1 P ty=some e8):∃i z,P.info? ty=some i/\i.zero=some z/\z.cells=#[.pointer none,.slice none 0 0]:=by
 unfold ae1 at h;by_cases a7:asS P ty=true/\anU P ty=true
 . obtain⟨_,a7⟩:=a7;unfold anU at a7;cases gb:(P.info? ty).bind (·.zero)with
   |none=>rw[gb]at a7;cases a7
   |some z=>
    rw[gb]at a7;simp only[gA]at gb;obtain⟨i,ao,gb⟩:=gb;refine⟨i,z,ao,gb,?_⟩;dsimp only at a7;unfold asf at a7
    grind
 grind
theorem gen (R:ga cm nt φ S env J n a w){o:Oper}{ty:TypeId}(cJ:o.op= .alloc ty){e8:Nat}(aoO:ae1 P ty=some e8)
 {p v J'}(hk:n key=false)(L8:n (key+1)=false)(h:dx (.allocS ty e8) env J key=some (p,v,J'))(aJ:p):Good P cm nt env J' (l0 (l0 n (key+1)) key) a v ((execOp a.eval o).run P w):=by
 simp only[dx,hr,ho]at h;obtain⟨rfl,rfl,rfl⟩:=h;obtain⟨i,z,ao,gb,abv⟩:=aFx aoO;have Zt:∀j,¬S w.heap.size j:=λj h=>by have:=R.hI.st _ _ h;omega
 have h':=(R.alloc (.cells #[.pointer none,.slice none 0 0] ty)).Qv L8 (x:= .buf e8 []) (0,0) rfl (by simp[o1,s3]) (by simp);have Zs:l0 n (key+1) key=false:=by simp[l0,hk]
 have tJ:=h'.Qv Zs (x:= .hZ ty (.lJ (key+1) 0)) (w.heap.size,1) (by simp[hF.cv,C.cv,l0]) (by
  simp only[o1,s3];refine⟨by simp,⟨.pointer none,.slice none 0 0,Xg,.inl rfl,?_⟩,Zt⟩
  simp[fJ,Ks]) (λ_=>⟨λk y bo h0=>by
   rw[n2]at bo;split at bo
   . rename_i e;subst e;simp[s3]at h0
   . rename_i hn;have BJ:(φ k).2≠0:=by simpa[Ks,u4 hn]using h0
     have:=(R.hI.blk k y bo).Q7 BJ;simp only[Ks,u4 hn,Jb]
     omega,.inr R.ext.size⟩)
 refine⟨.pointer (some ⟨w.heap.size,0,none⟩),_,S,_,.inl ?_,.c ?_,by simp[V.cv,C.cv,l0],tJ⟩
 . simp[execOp,cJ,Instr.alloc,zeroValue,typeInfo,ao,gb,newVar,newRow,abv]
 . simp[fJ,s3]
theorem asO{t:TypeId}(h:aam P t=true):∃k v i,P.underlying t=some (.map k v)/\P.underlying k=some .string/\P.info? v=some i/\i.zero=some (.bool false):=by
 unfold aam at h;split at h
 . rename_i k v hu;simp only[h5]at h;obtain⟨h1,ad⟩:=h;split at h1
   . rename_i hk ch;split at ad
     . rename_i gb;simp only[gA]at gb
       grind
     . cases ad
   . cases h1
 . cases h
theorem aF0 (R:ga cm nt φ S env J n a w){o:Oper}{t:TypeId}(cJ:o.op= .makeMap t none)
 {p v J'}(hk:n key=false)(h:dx .mkset env J key=some (p,v,J'))(aJ:p):Good P cm nt env J' (l0 n key) a v ((execOp a.eval o).run P w):=by
 simp only[dx,hr,ho]at h;obtain⟨rfl,rfl,rfl⟩:=h;have Zt:∀j,¬S w.heap.size j:=λj h=>by have:=R.hI.st _ _ h;omega
 have tJ:=(R.alloc (.map #[] 0)).Qv hk (x:= .set []) (w.heap.size,1) rfl (by
  simp only[o1,s3]
  exact⟨by simp,⟨[],0,Xg,.nil⟩,Zt⟩) (λ_=>⟨λk y bo h0=>by
   have:=(R.hI.blk k y bo).Q7 h0
   omega,.inr R.ext.size⟩)
 refine⟨.map (some w.heap.size),_,S,_,.inl ?_,.c ?_,by simp[V.cv,C.cv,l0],tJ⟩
 . simp[execOp,cJ,Instr.makeMap]
 . simp[fJ,s3]
theorem aGl{s:ByteArray}{k:b8}:(s==(⟨k.toArray⟩:ByteArray))=decide (k=s.data.toList):=by
 rw[beq_toListBytes,ByteArray.toList_eq,ByteArray.toList_eq]
 grind
theorem anp(s:ByteArray):∀{ks:List b8} {es:List MapEntry} (i:Nat),ah' ks es->
 (Pn ks s.data.toList=false/\Instr.findNow .string (.string s) es i=some none)\/
 (Pn ks s.data.toList=true/\∃j e,Instr.findNow .string (.string s) es i=some (some (i+j,.bool true))/\es[j]?=some e/\e.key= .string s/\e.val= .bool true)
 |_,_,i,.nil=>.inl ⟨rfl,rfl⟩
 |k::ks,e::es,i,.cons h al=>by
  obtain⟨h1,ad⟩:=h;have ai:(s==(⟨k.toArray⟩:ByteArray))=decide (k=s.data.toList):=aGl;by_cases NT:k=s.data.toList
  . refine .inr ⟨by simp[Pn,NT],0,e,?_,rfl,?_,ad⟩
    . rw[show decide (k=s.data.toList)=true by simp[NT]]at ai;simp only[Instr.findNow,h1,Instr.sameNow,ai,ad,Uf]
    simp_all
  . rcases anp s (i+1) al with⟨g1,g2⟩|⟨g1,j,pJ,g2,g3,g4,g5⟩
    . refine .inl ⟨by simpa[Pn,NT]using g1,?_⟩;rw[show decide (k=s.data.toList)=false by simp[NT]]at ai;simp only[Instr.findNow,h1,Instr.sameNow,ai];exact g2
    . refine .inr ⟨by simpa[Pn,NT]using g1,j+1,pJ,?_,by simpa using g3,g4,g5⟩;rw[show decide (k=s.data.toList)=false by simp[NT]]at ai;simp only[Instr.findNow,h1,Instr.sameNow,ai]
      grind
theorem ajF{Zz:TypeId}(hk:P.underlying Zz=some .string){s:ByteArray}{es:List MapEntry}{r:Option (Nat×Value)}(h:Instr.findNow .string (.string s) es 0=some r)(w:World):(Instr.findKey Zz (.string s) es).run P w= .ok r w:=by
 unfold Instr.findKey;simp only[Sem.run_bind,run_underlying hk,Result.andThen_ok,h,Sem.run_pure]
theorem ajA{Zz:TypeId}(hk:P.underlying Zz=some .string){s:ByteArray}(b:Bool)(w:World):(Instr.checkKey b 10000 Zz (.string s)).run P w= .ok () w:=by
 show(Instr.checkKey b (9999+1) Zz (.string s)).run P w= .ok () w;unfold Instr.checkKey;simp only[Sem.run_bind,run_underlying hk,Result.andThen_ok,Sem.run_pure]
theorem ajd{b:Nat}{es:Array MapEntry}{c:Nat}(h:w.heap[b]?=some (.map es c)):(getObj b).run P w= .ok (.map es c) w:=by simp[getObj,Sem.run,h]
theorem atE{b:Nat}{es:Array MapEntry}{c:Nat}(o:Obj)(h:w.heap[b]?=some (.map es c)):(setObj b o).run P w= .ok () {w with heap:=w.heap.setIfInBounds b o}:=by
 simp[setObj,Sem.run,h]
theorem aF1 (R:ga cm nt φ S env J n a w){o:Oper}{t:TypeId}{x k:Operand}(cJ:o.op= .lookup t x k false)(ht:aam P t=true){gC aga:dy}(aa:hC x=some gC)(j1:hC k=some aga)
 {p v J'}(hk:n key=false)(h:dx (.lkset gC aga) env J key=some (p,v,J'))(aJ:p):Good P cm nt env J' (l0 n key) a v ((execOp a.eval o).run P w):=by
 simp only[dx,gA]at h;obtain⟨⟨ID,Jf⟩,ik,⟨aME,aNs⟩,ao6,he⟩:=h;simp only at he;obtain⟨Zz,aAg,i,hu,X',ao,gb⟩:=asO ht;split at he
 . rename_i b s;split at he
   . rename_i ks j';simp only[hr,ho]at he;obtain⟨rfl,rfl,rfl⟩:=he;have h1:a.eval x= .map (some (φ b).1):=(kt R aa ik aJ.1).1.xJ;obtain⟨bs,ad,rfl,_⟩:=jJ.Q9 (kt R j1 ao6 aJ.2).1;obtain⟨h0,⟨es,aa7,ak,EJ⟩,E1⟩:=R.hI.blk _ _ j';refine Good.pure R (x:= .bool (Pn ks bs.data.toList)) ?_ (.aa3 _) rfl
     have Ou:(zeroValue aAg).run P w= .ok (.bool false) w:=by simp[zeroValue,typeInfo,ao,gb]
     have c9:=anp bs 0 EJ;rcases c9 with⟨g1,g2⟩|⟨g1,j,e,g2,_⟩
     . simp[execOp,cJ,h1,ad,Instr.lookup,run_underlying hu,ajd ak,ajA X',ajF X' g2,Ou,g1]
     . simp[execOp,cJ,h1,ad,Instr.lookup,run_underlying hu,ajd ak,ajA X',ajF X' g2,g1]
   . cases he
 . cases he
theorem aHo{ks:List b8}{es:List MapEntry}(h:ah' ks es)(s:ByteArray)(aa7:Nat):ah' (ks++[s.data.toList]) (es++[{key:= .string s,val:= .bool true,born:=aa7}]):=
 h.append (.cons ⟨by cases s;simp,rfl⟩ .nil)
theorem er.modify{α β:Type}{R:α->β->Prop}{f:β->β}:∀{l:List α} {m:List β} {j:Nat},er R l m->(∀a b,R a b->m[j]?=some b->R a (f b))->er R l (m.modify j f)
 |_,_,_,.nil,_=>by simpa using er.nil
 |_,_,0,.cons h al,k=>.cons (k _ _ h rfl) al
 |_,_,j+1,.cons h al,k=>by
  simp only[List.modify_succ_cons];exact .cons h (er.modify al λa b zv ai=>k a b zv (by simpa using ai))
theorem aF2 (R:ga cm nt φ S env J n a w){o:Oper}{t:TypeId}{x k v0:Operand}(cJ:o.op= .mapUpdate t x k v0)(ht:aam P t=true)(ob:ann v0=true){gC aga:dy}(aa:hC x=some gC)(j1:hC k=some aga)
 {p v J'}(hk:n key=false)(h:dx (.upset gC aga) env J key=some (p,v,J'))(aJ:p):Good P cm nt env J' (l0 n key) a v ((execOp a.eval o).run P w):=by
 simp only[dx,gA]at h;obtain⟨⟨ID,Jf⟩,ik,⟨aME,aNs⟩,ao6,he⟩:=h;simp only at he;obtain⟨Zz,aAg,i,hu,X',ao,gb⟩:=asO ht;have Zu:a.eval v0= .bool true:=by
  unfold ann at ob;split at ob
  . rfl
  . cases ob
 split at he
 . rename_i b s;split at he
   . rename_i ks j';simp only[hr,ho]at he;obtain⟨rfl,rfl,rfl⟩:=he;have h1:a.eval x= .map (some (φ b).1):=(kt R aa ik aJ.1).1.xJ;obtain⟨bs,ad,rfl,_⟩:=jJ.Q9 (kt R j1 ao6 aJ.2).1;obtain⟨h0,⟨es,aa7,ak,EJ⟩,E1⟩:=R.hI.blk _ _ j';have e':=TC ak
     have aMc:∃es' aok,(execOp a.eval o).run P w= .ok .skip {w with heap:=w.heap.setIfInBounds (φ b).1 (.map es' aok)}/\ah' (O7 ks bs.data.toList) es'.toList:=by
      have c9:=anp bs 0 EJ;rcases c9 with⟨g1,g2⟩|⟨g1,j,e,g2,g3,g4,g5⟩
      . refine⟨es.toArray.push {key:= .string bs,val:= .bool true,born:=aa7},aa7+1,?_,?_⟩
        . simp[execOp,cJ,h1,ad,Zu,Instr.mapUpdate,run_underlying hu,ajd ak,ajA X',ajF X' g2,atE _ ak]
        . simp only[O7,g1,y0,Jb,List.push_toArray,Array.toList_push]
          simpa using aHo EJ bs aa7
      . refine⟨es.toArray.modify j λe=>{e with key:= .string bs,val:= .bool true},aa7,?_,?_⟩
        . have wm:Instr.sameBits 10000 (Value.string bs) (Value.string bs)=true:=by
           show Instr.sameBits (9999+1) _ _=true;simp only[Instr.sameBits];rw[beq_toListBytes];simp
          have NT:∀w,(Instr.keyThatStays (Value.string bs) (Value.string bs)).run P w= .ok (Value.string bs) w:=by intro w;unfold Instr.keyThatStays;rw[wm];rfl
          rw[Lt]at g2;simp[execOp,cJ,h1,ad,Zu,Instr.mapUpdate,run_underlying hu,ajd ak,ajA X',ajF X' g2,atE _ ak,g3,g4,NT]
        . simp only[O7,g1,xe];rw[Array.toList_modify];refine er.modify EJ λh8 pJ aN7 J5=>?_
          grind
     obtain⟨es',aok,u0,aK9⟩:=aMc;refine⟨undef,φ,S,_,.inr ⟨u0,rfl⟩,.undef,rfl,ga.more ?_ λ_ h=>Rm h⟩;refine R.rewrite j' h0 rfl rfl rfl rfl (by simp) (λhf L1=>by simp[azp,u4 L1]) (λm=>?_);exact⟨h0,⟨es'.toList,aok,by simp[e'],aK9⟩,E1⟩
   . cases he
 . cases he
theorem aEU {st Jl e:TypeId}{i:TypeInfo}{Jm:Value}(qy:P.underlying st=some (.slice e))(I1:P.underlying Jl=some .string)(ao:P.info? e=some i)(gb:i.zero=some Jm)(Zw:Jm.cells.size=i.size)
 {base:Option Addr}{sl sc wJ:Nat}{y:Value}{xs tw:List Value}(JO:(Builtin.lenOf y).run P w= .ok wJ w)
 (aa:(Builtin.firstCells i.size sl (.slice base sl sc)).run P w.drew= .ok xs.toArray w.drew)(bo:(Builtin.firstCells i.size wJ y).run P w.drew= .ok tw.toArray w.drew)
 (LL:sc<sl+wJ)(Po:TY (sl+wJ) i.bytes)(Ln:sl+wJ<=I'){tt:TypeId}:
 ∃(Lq:Nat) (r:List Value),sl+wJ<=Lq/\r.length=(Lq-(sl+wJ))*i.size/\
  (Builtin.append_ #[st,Jl] tt #[.slice base sl sc,y]).run P w= .ok (.slice (some ⟨w.heap.size,0,none⟩) (sl+wJ) Lq) (w.drew.alloc (.cells (xs++tw++r).toArray e)):=by
 have abo:∀w,(sizeOf e).run P w= .ok i.size w:=λw=>by simp[sizeOf,typeInfo,ao]
 have X9:∀w,(typeInfo e).run P w= .ok i w:=λw=>by simp[typeInfo,ao]
 have apD:∀w,(zeroValue e).run P w= .ok Jm w:=λw=>by simp[zeroValue,X9,gb]
 generalize ahe:(Question.appendCap (sl+wJ) sc e).cut (w.tape w.drawn (Question.appendCap (sl+wJ) sc e))=Lq;have aph:sl+wJ<=Lq:=by rw[<-ahe];simp[Question.cut]
 have h1:¬(sl+wJ<=sc):=by omega
 have ad:¬(((sl+wJ:Nat):Int)>IntKind.i64.max/\(False\/i.bytes=0)):=by intro h;have:=h.1;simp[IntKind.max,IntKind.signed,IntKind.bits]at this;unfold I' at Ln;omega
 have a':¬(Builtin.nextslicecap (sl+wJ) sc*i.bytes>2^48):=by
  exact Po.not LL
 refine⟨Lq,(Builtin.zeroCells Jm.cells (Lq-(sl+wJ))).toList,aph,by simp[asq,Zw],?_⟩;have aoZ:(choose (.appendCap (sl+wJ) sc e)).run P w= .ok Lq w.drew:=by rw[run_choose];simp only[Question.forced,y0,Jb,ahe];rfl
 have ep:(xs++tw++(Builtin.zeroCells Jm.cells (Lq-(sl+wJ))).toList).toArray=xs.toArray++tw.toArray++Builtin.zeroCells Jm.cells (Lq-(sl+wJ)):=by grind
 rw[ep];unfold Builtin.append_;simp only[ak1,ahT,alc,Sem.run_bind,run_underlying qy,run_underlying I1,Result.andThen_ok,abo,Sem.run_pure,y0,Jb,JO,cx h1,X9];rw[cx (by simpa using ad)];simp only[Sem.run_bind,Sem.run_pure,Result.andThen_ok,X9];rw[cx a']
 simp only[Sem.run_bind,Sem.run_pure,Result.andThen_ok,X9,aoZ,run_askRoom,aa,bo,apD,Tf,xe];simp only[newRow,Sem.run_bind,run_newObj,Result.andThen_ok,Sem.run_pure];rfl
theorem arR {st Jl e:TypeId}{i:TypeInfo}(qy:P.underlying st=some (.slice e))(I1:P.underlying Jl=some .string)(ao:P.info? e=some i)
 {base:Option Addr}{sl sc wJ:Nat}{y:Value}{tw:List Value}(JO:(Builtin.lenOf y).run P w= .ok wJ w)(bo:(Builtin.firstCells i.size wJ y).run P w= .ok tw.toArray w)(LL:sl+wJ<=sc){w':World}
 (hs:∀hT,base=some hT->(storeCells (hT.add (sl*i.size)) tw 0).run P w= .ok () w') (ai:base=none->w'=w) {tt:TypeId}:
  (Builtin.append_ #[st,Jl] tt #[.slice base sl sc,y]).run P w= .ok (.slice base (sl+wJ) sc) w':=by
 have abo:∀w,(sizeOf e).run P w= .ok i.size w:=λw=>by simp[sizeOf,typeInfo,ao]
 unfold Builtin.append_;simp only[ak1,ahT,alc,Sem.run_bind,run_underlying qy,run_underlying I1,Result.andThen_ok,abo,Sem.run_pure,y0,Jb,JO,bJ LL,bo,Tf,xe];cases base with
 |none=>rw[ai rfl];rfl
 |some hT=>
  simp only[Sem.run_bind,hs hT rfl,Result.andThen_ok];rfl
theorem aED(w:World)(bs:ByteArray):(Builtin.firstCells 1 bs.size (.string bs)).run P w= .ok (bs.data.toList.map λb=>Value.int .u8 b.toNat).toArray w:=by
 have e:(bs.extract 0 bs.size).data=bs.data:=by simp_all
 simp only[Builtin.firstCells,e,Sem.run_pure]
 congr 1
 grind
theorem aGm(l:b8):∀x,x∈(l.map λb=>Value.int .u8 b.toNat)->x.oneCell'=true:=by
 intro x aa;simp only[PG]at aa;obtain⟨b,_,rfl⟩:=aa;rfl
theorem aEK (R:ga cm nt φ S env J n a w){o:Oper}{x y:Operand}{st Jl e:TypeId}(cJ:o.op= .call {callee:= .builtin .append,args:=#[x,y],argTypes:=#[st,Jl]})
 (qy:P.underlying st=some (.slice e))(I1:P.underlying Jl=some .string){i:TypeInfo}(ao:P.info? e=some i)(P5:i.size=1)(gb:(i.zero.map (·.cells.size))=some 1)
 {gC vy:dy}(aa:hC x=some gC)(bo:hC y=some vy)
 {p v J'}(hk:n key=false)(h:dx (.appendB e i.bytes gC vy) env J key=some (p,v,J'))(aJ:p):Good P cm nt env J' (l0 n key) a v ((execOp a.eval o).run P w):=by
 simp only[dx,gA]at h;obtain⟨⟨ID,Jf⟩,ik,⟨Uj,Up⟩,J6,he⟩:=h;simp only at he;simp only[e0]at gb;obtain⟨Jm,RR,Zw⟩:=gb;have u0:∀r w',(Builtin.append_ #[st,Jl] o.type #[a.eval x,a.eval y]).run P w= .ok r w'->(execOp a.eval o).run P w= .ok (.value r) w':=by
  intro r w' al;simp[execOp,cJ,Go.resolve,invoke,builtin,al]
 have Zt:∀b,w.heap.size<=b->∀j,¬S b j:=λb ai j cy=>by have:=R.hI.st _ _ cy;omega
 split at he
 . rename_i b len s;split at he
   . rename_i pJ es j';simp only[hr,ho]at he;obtain⟨rfl,rfl,rfl⟩:=he;obtain⟨x0,vx,rfl,rfl,Po,Ln⟩:=aJ;obtain⟨q4,M3,ha⟩:=(kt R aa ik x0).1.xJ;obtain⟨bs,Ol,rfl,_⟩:=jJ.Q9 (kt R bo J6 vx).1;have U9:bs.data.toList.length=bs.size:=by rw[<-YY]
     have ON:=R.hI.blk _ _ j';obtain⟨g1,g2,g3⟩:=ON;have JO:∀w,(Builtin.lenOf (a.eval y)).run P w= .ok bs.size w:=by intro w;simp[Ol,Builtin.lenOf]
     have Px:∀w,(Builtin.firstCells i.size bs.size (a.eval y)).run P w= .ok (bs.data.toList.map λb=>Value.int .u8 b.toNat).toArray w:=by intro w;rw[Ol,P5];exact aED w bs
     by_cases LL:es.length+bs.size<=(φ b).2
     . by_cases ob:(φ b).2=0
       . have OQ:es=[]:=Qw (by omega);have X3:bs.data.toList=[]:=Qw (by omega);have JG:=M3 ob;have al:=arR (P:=P) (w:=w) (tt:=o.type) qy I1 ao (base:=none) (sl:=0) (sc:=0) (JO w) (Px w) (by omega) (w':=w) (λhT S1=>by cases S1) (λ_=>rfl);rw[<-JG]at al
         have R':=(R.del b).Qv hk (x:= .buf pJ (es++bs.data.toList)) (0,0) rfl (by rw[X3,OQ];simp only[o1,s3];exact⟨by simp,by simp,by simp⟩) (by simp);refine⟨_,_,S,w,.inl (u0 _ _ al),.c ?_,by simp[V.cv,C.cv,l0],R'⟩;rw[X3,OQ];have akC:bs.size=0:=by omega
         refine⟨by simp,λ_=>?_,λh=>?_⟩
         . rw[akC]
         . simp[s3]at h
       . obtain⟨⟨vs,ak,Ns,Yf⟩,E1⟩:=g3 ob;have JG:=ha ob;have Zn:es.length+(bs.data.toList.map λb=>Value.int .u8 b.toNat).length<=vs.length:=by simp only[PE,U9,Ns];exact LL
         obtain⟨w',Ye,Jd,HS,Q5,ah4,azD,aMG⟩:=VV (P:=P) (bs.data.toList.map λb=>Value.int .u8 b.toNat) es.length 0 vs w ak (by omega) (aGm _);rw[Uf]at azD
         have al:=arR (P:=P) (w:=w) (tt:=o.type) qy I1 ao (base:=some ⟨(φ b).1,0,none⟩) (sl:=es.length) (sc:=(φ b).2) (JO w) (Px w) LL (w':=w') (λhT S1=>by
          cases S1;have OO:Addr.add ⟨(φ b).1,0,none⟩ (es.length*i.size)=⟨(φ b).1,es.length,none⟩:=by rw[P5,Nat.mul_one];unfold Addr.add;split<;>simp_all
          grind) (λai=>by cases ai)
         rw[<-JG]at al
         have h':=(R.del b).world (w':=w') (λk=>k=(φ b).1) Jd HS Q5 (adN ah4.symm) (λk _ hk=>aMG k hk) (λk hk=>by
          subst hk;refine⟨E1,λk y bo hk=>?_,R.own b _ j' ob⟩;rw[li]at bo;split at bo
          . cases bo
          . rename_i hn
            exactλe=>R.hI.inj k b y _ bo j' (u4 hn) hk ob e)
         have tJ:=h'.Qv hk (x:= .buf pJ (es++bs.data.toList)) (φ b) rfl (by
          simp only[o1,s3];refine⟨by simp[U9];omega,by rw[ZI];exact Ln,λ_=>⟨⟨_,azD,by rw[Xi Zn];exact Ns,?_⟩,E1⟩⟩;intro py c a7;rw[UD Zn]
          grind) (λ_=>⟨λk y bo hk=>by
           rw[li]at bo;split at bo
           . cases bo
           . rename_i hn
             exact R.hI.inj k b y _ bo j' (u4 hn) hk ob,R.own b _ j' ob⟩)
         refine⟨_,_,S,w',.inl (u0 _ _ al),.c ?_,by simp[V.cv,C.cv,l0],tJ⟩;refine⟨by simp[s3,U9];omega,λh=>?_,λ_=>?_⟩
         . simp[s3,ob]at h
         . simp[s3,U9]
     . have h':=R.drew;have U7:∃base,a.eval x= .slice base es.length (φ b).2/\∃xs:List Value,(Builtin.firstCells i.size es.length (.slice base es.length (φ b).2)).run P w.drew= .ok xs.toArray w.drew/\xs.length=es.length/\∀(i:Nat) c,es[i]?=some c->xs[i]?=some (.int .u8 (UInt8.toNat c)):=by
        by_cases ob:(φ b).2=0
        . have OQ:es=[]:=Qw (by omega);subst OQ;exact⟨none,by rw[M3 ob,ob];rfl,[],by simp[Builtin.firstCells],rfl,by simp⟩
        . obtain⟨⟨vs,ak,Ns,Yf⟩,E1⟩:=g3 ob;refine⟨_,ha ob,vs.take es.length,?_,by simp;omega,λj c a7=>?_⟩
          . rw[P5];show(loadCells ⟨(φ b).1,0,none⟩ (es.length*1)).run P w.drew=_;rw[Nat.mul_one];refine aeF (by simp;omega) (λj ea=>?_);rw[Lt,Td,bJ ea];exact PR (w:=w.drew) ak j
          grind
       obtain⟨base,JG,xs,adB,P7,S7⟩:=U7;obtain⟨Lq,r,h1,ad,al⟩:=aEU (P:=P) (w:=w) (tt:=o.type) qy I1 ao RR (by rw[Zw,P5]) (JO w) adB (Px w.drew) (by omega) (by rw[U9]at Po;exact Po) (by rw[U9]at Ln;exact Ln);rw[<-JG]at al;have tJ:=(h'.del b).alloc (.cells (xs++(bs.data.toList.map λb=>Value.int .u8 b.toNat)++r).toArray pJ)
       have afy:=tJ.Qv hk (x:= .buf pJ (es++bs.data.toList)) (w.heap.size,Lq) rfl (by
        simp only[o1,s3];refine⟨by simp[U9];omega,by rw[ZI];exact Ln,λ_=>⟨⟨_,Xg,?_,?_⟩,Zt _ (DJ _)⟩⟩
        . grind
        grind) (λ_=>⟨λk y bo h0=>by
         rw[li]at bo;split at bo
         . cases bo
         . have:=(R.hI.blk k y bo).Q7 h0
           simp;omega,.inr R.ext.size⟩)
       refine⟨_,_,S,_,.inl (u0 _ _ al),.c ?_,by simp[V.cv,C.cv,l0],afy⟩;refine⟨by simp[s3,U9];omega,λh=>?_,λ_=>?_⟩
       . simp[s3]at h;omega
       . simp[s3,U9]
   . cases he
 . cases he
theorem aF3 (R:ga cm nt φ S env J n a w){o:Oper}{x:Operand}{t:TypeId}(cJ:o.op= .call {callee:= .builtin .unsafeSliceData,args:=#[x],argTypes:=#[t]}){gC:dy}(aa:hC x=some gC)
 {p v J'}(hk:n key=false)(h:dx (.sdata gC) env J key=some (p,v,J'))(aJ:p):Good P cm nt env J' (l0 n key) a v ((execOp a.eval o).run P w):=by
 simp only[dx,gA]at h;obtain⟨⟨ID,Jf⟩,ik,he⟩:=h;simp only at he;split at he
 . rename_i b len;simp only[hr,ho]at he;obtain⟨rfl,rfl,rfl⟩:=he;have a8:=kt R aa ik aJ;obtain⟨q4,M3,ha⟩:=a8.1.xJ;by_cases h0:(φ b).2=0
   . refine Good.pure R (x:= .pointer none) ?_ (.c ⟨none,rfl,λh=>absurd h0 h⟩) (by simpa[V.cv,C.cv]using a8.2);simp[execOp,cJ,Go.resolve,invoke,builtin,M3 h0,Go.Lib.run_unsafeSliceData_nil]
   . refine Good.pure R (x:= .pointer (some ⟨(φ b).1,0,none⟩)) ?_ (.c ⟨_,rfl,λ_=>rfl⟩) (by simpa[V.cv,C.cv]using a8.2);simp[execOp,cJ,Go.resolve,invoke,builtin,ha h0,Go.Lib.run_unsafeSliceData_row _ _ _ _ _ _ h0]
 . cases he
theorem aF4{b m:Nat}{hT:Addr}(ai:b≠hT.block):(w.freeze hT m).heap[b]?=w.heap[b]?:=by
 unfold World.freeze
 grind
theorem aGn(hT:Addr)(m:Nat):(w.freeze hT m).os=w.os/\(w.freeze hT m).tape=w.tape/\(w.freeze hT m).output=w.output/\(w.freeze hT m).heap.size=w.heap.size:=by
 unfold World.freeze
 grind
theorem aHp (R:ga cm nt φ S env J n a w){o:Oper}{x y:Operand}{k1 it e:TypeId}(cJ:o.op= .call {callee:= .builtin .unsafeString,args:=#[x,y],argTypes:=#[k1,it]})
 (aLD:P.underlying k1=some (.pointer e))(aKU:P.cellsOf e=1){gC vy:dy}(aa:hC x=some gC)(bo:hC y=some vy)
 {p v J'}(hk:n key=false)(h:dx (.ustr e gC vy) env J key=some (p,v,J'))(aJ:p):Good P cm nt env J' (l0 n key) a v ((execOp a.eval o).run P w):=by
 simp only[dx,gA]at h;obtain⟨⟨ID,Jf⟩,ik,⟨Uj,Up⟩,J6,he⟩:=h;simp only at he;split at he
 . rename_i b m;split at he
   . rename_i pJ es j';simp only[hr,ho]at he;obtain⟨rfl,rfl,rfl⟩:=he;obtain⟨x0,vx,rfl,rfl⟩:=aJ;obtain⟨pp,h1,aLC⟩:=(kt R aa ik x0).1.xJ;have ad:a.eval y= .int .i64 es.length:=(kt R bo J6 vx).1.Lp;have ON:=R.hI.blk _ _ j';obtain⟨g1,g2,g3⟩:=ON;have ayU:∀w',hY w' S (.str es) (.string ⟨es.toArray⟩):=by
      intro w';have:=hY.str (w:=w') (S:=S) (⟨es.toArray⟩:ByteArray) (by rw[<-YY];unfold I' at g2;unfold TG;simp;omega);omega
     have u0:∀r w',(Builtin.unsafeString_ #[k1,it] o.type #[a.eval x,a.eval y]).run P w= .ok r w'->(execOp a.eval o).run P w= .ok (.value r) w':=by
      intro r w' al;simp[execOp,cJ,Go.resolve,invoke,builtin,al]
     by_cases hn:es=[]
     . subst hn;refine⟨.string ⟨#[]⟩,φ,S,w,.inl (u0 _ _ ?_),.c (ayU w),rfl,(R.del b).more λ_ h=>Rm h⟩;rw[h1,ad];exact Go.Lib.run_unsafeString_none w k1 it o.type pp
     . have Yd:0<es.length:=ahV.2 hn;have ob:(φ b).2≠0:=by omega
       obtain⟨⟨vs,ak,Ns,Yf⟩,E1⟩:=g3 ob;have apv:w.shape? (φ b).1=some (pJ,vs.length):=by simp[World.shape?,ak]
       have al:=Go.Lib.run_unsafeString_row (P:=P) w k1 it o.type pJ aLD aKU (φ b).1 vs.length apv es hn (by omega) (by unfold I' at g2;omega) (λj c a7=>by
        have OO:Addr.add ⟨(φ b).1,0,none⟩ j=⟨(φ b).1,j,none⟩:=by unfold Addr.add;split<;>simp_all
        rw[OO,PR ak];exact Yf j c a7)
       obtain⟨Jd,HS,Q5,ah4⟩:=aGn (w:=w) ⟨(φ b).1,0,none⟩ es.length
       have h':=(R.del b).world (w':=w.freeze ⟨(φ b).1,0,none⟩ es.length) (λk=>k=(φ b).1) Jd HS Q5 (adN ah4.symm) (λk _ hk=>aF4 hk) (λk hk=>by
        subst hk;refine⟨E1,λk y bo hk=>?_,R.own b _ j' ob⟩;rw[li]at bo;split at bo
        . cases bo
        . rename_i hn
          exactλe=>R.hI.inj k b y _ bo j' (u4 hn) hk ob e)
       refine⟨.string ⟨es.toArray⟩,φ,S,_,.inl (u0 _ _ ?_),.c (ayU _),rfl,h'.more λ_ h=>Rm h⟩;rw[h1,aLC ob,ad];exact al
   . cases he
 . cases he
end
section
variable {P:Program}{cm:K5}{nt:Nat}{φ:q3}{S:r'}{env:hc}{J:ee}{n:Nat->Bool}{key:Nat}{a:Act}{w:World}
theorem acw{α:Type}{x:Array α}{a b:α}(h:x.toList=[a,b]):x=#[a,b]:=by grind
theorem ajR{α:Type}{x:Array α}{a:α}(h:x.toList=[a]):x=#[a]:=by grind
theorem aHq (R:ga cm nt φ S env J n a w){o:Oper}{c:Call}(cJ:o.op= .call c){qi:l1}(al:LE P c=some qi)
 {p v J'}(hk:n key=false)(h:dx qi env J key=some (p,v,J'))(aJ:p):Good P cm nt env J' (l0 n key) a v ((execOp a.eval o).run P w):=by
 obtain⟨callee,args,argTypes⟩:=c;unfold LE at al;split at al
 . rename_i a7;split at al
   . rename_i x t aa ht;simp only at a7 aa ht;have aa:=ajR aa;have ht:=ajR ht;subst a7;subst aa;subst ht;split at al
     . rename_i hu;simp only[e0]at al;obtain⟨gC,QR,rfl⟩:=al;exact asV (str:=true) R cJ (by simpa using hu) QR hk h aJ
     . rename_i e hu;simp only[e0]at al;obtain⟨gC,QR,rfl⟩:=al;exact asV (str:=false) R cJ (by simpa using⟨e,hu⟩) QR hk h aJ
     . cases al
   . cases al
 . rename_i a7;split at al
   . rename_i x y t u aa ht;simp only at a7 aa ht;have aa:=acw aa;have ht:=acw ht;subst a7;subst aa;subst ht;split at al
     . rename_i e hu apy;simp only[gA,tr,hr]at al;obtain⟨i,ao,gC,QR,vy,X2,⟨h1,ad,a'⟩,rfl⟩:=al;exact aEK R cJ hu apy ao h1 ad QR X2 hk h aJ
     . rename_i e pJ hu apy;simp only[gA,tr,hr]at al;obtain⟨i,ao,gC,QR,vy,X2,⟨h1,ad⟩,rfl⟩:=al;exact aGi R cJ hu apy ao h1 ad QR X2 hk h aJ
     . cases al
   . cases al
 . rename_i a7;split at al
   . rename_i x y aa;simp only at a7 aa;have aa:=acw aa;subst a7;subst aa;simp only[gA,e0]at al;obtain⟨gC,QR,vy,X2,rfl⟩:=al;exact aG8 R cJ QR X2 hk h aJ
   . cases al
 . rename_i a7;split at al
   . rename_i x y aa;simp only at a7 aa;have aa:=acw aa;subst a7;subst aa;simp only[gA,e0]at al;obtain⟨gC,QR,vy,X2,rfl⟩:=al;exact aG9 R cJ QR X2 hk h aJ
   . cases al
 . rename_i a7;split at al
   . rename_i x t aa ht;simp only at a7 aa ht;have aa:=ajR aa;have ht:=ajR ht;subst a7;subst aa;subst ht;split at al
     . simp only[tr,e0]at al;obtain⟨_,gC,QR,rfl⟩:=al;exact aF3 R cJ QR hk h aJ
     . cases al
   . cases al
 . rename_i a7;split at al
   . rename_i x y t u aa ht;simp only at a7 aa ht;have aa:=acw aa;have ht:=acw ht;subst a7;subst aa;subst ht;split at al
     . rename_i e hu;simp only[tr,gA,e0]at al;obtain⟨⟨_,_,a'⟩,gC,QR,vy,X2,rfl⟩:=al;exact aHp R cJ hu a' QR X2 hk h aJ
     . cases al
   . cases al
 . split at al
   . simp only[e0]at al;obtain⟨l,ar,rfl⟩:=al;simp[dx]at h
   . cases al
 . simp only[e0]at al;obtain⟨l,ar,rfl⟩:=al;simp[dx]at h
 . cases al
theorem Good.mono{v:V}{J':ee}{Ww Wx:Nat->Bool}(h:∀b,Ww b=true->Wx b=true){r:Result Next}(g:Good P cm nt env J' Ww a v r):Good P cm nt env J' Wx a v r:=by
 obtain⟨x,hi,hJ,w',h1,ad,a',R'⟩:=g;exact⟨x,hi,hJ,w',h1,ad,V.MV h a',R'.more h⟩
theorem aF5 (R:ga cm nt φ S env J n a w){o:Oper}{qi:l1}(al:pK P o.op=some qi)
 (E1:∀e e8,qi≠.allocS e e8){p v J'}(hk:n key=false)(h:dx qi env J key=some (p,v,J'))(aJ:p):Good P cm nt env J' (l0 n key) a v ((execOp a.eval o).run P w):=by
 generalize px:o.op=op at al;cases op with
 |move x=>simp only[pK,e0]at al;obtain⟨gC,aa,rfl⟩:=al;exact asT R (.inl px) aa hk h aJ
 |assign x=>simp only[pK,e0]at al;obtain⟨gC,aa,rfl⟩:=al;exact asT R (.inr px) aa hk h aJ
 |pick c x y=>
  simp only[pK,gA,e0]at al;obtain⟨ac,a7,gC,aa,vy,bo,rfl⟩:=al;exact aG4 R px a7 aa bo hk h aJ
 |alloc e=>
  simp only[pK]at al;split at al
  . cases al;exact absurd rfl (E1 _ _)
  . simp only[gA]at al;obtain⟨cs,sa,al⟩:=al;split at al
    . split at al
      . rename_i a7;cases al;exact aGk R px sa (by omega) (by omega) hk h aJ
      . cases al;exact asi R px sa hk h aJ
    . cases al;exact asi R px sa hk h aJ
 |box e x=>simp only[pK,e0]at al;obtain⟨gC,aa,rfl⟩:=al;exact aH8 R px aa hk h aJ
 |build t parts=>
  simp only[pK]at al;split at al
  . rename_i fs Vb;simp only[tr,gA,e0]at al;obtain⟨h1,z,gb,ps,E8,rfl⟩:=al;exact aFY R px Vb h1 gb E8 hk h aJ
  . simp only[gA,e0]at al;rename_i len e hu;obtain⟨z,gb,m,hm,ps,E8,rfl⟩:=al;exact aFa R px hu hm gb E8 hk h aJ
  . cases al
 |buildSlice t len parts=>
  simp only[pK]at al;split at al
  . rename_i e hu;simp only[gA,tr,hr]at al;obtain⟨m,hm,z,gb,ps,E8,⟨h1,ad,a'⟩,rfl⟩:=al;exact aGh R px hu hm gb E8 h1 ad a' hk h aJ
  . cases al
 |load t x=>
  simp only[pK,gA,e0]at al;obtain⟨g,a8,gC,aa,rfl⟩:=al;exact aHe R px a8 aa hk h aJ
 |store t x y=>
  simp only[pK,gA,e0]at al;obtain⟨m,hm,gC,aa,vy,bo,rfl⟩:=al;exact aFX R px hm aa bo hk h aJ
 |nilCheck x=>simp only[pK,e0]at al;obtain⟨gC,aa,rfl⟩:=al;exact aE' R px aa hk h aJ
 |binOp op t x y Jl=>
  simp only[pK]at al;split at al
  . rename_i ayK;split at al
    . simp only[gA,e0]at al;obtain⟨ks,NT,gC,aa,vy,bo,rfl⟩:=al;exact aFW R px ayK NT aa bo hk h aJ
    . simp only[tr,e0]at al;obtain⟨_,gC,aa,rfl⟩:=al;simp[dx]at h
    . rename_i hu;simp only[gA,e0]at al;obtain⟨gC,aa,vy,bo,rfl⟩:=al;exact aGf R px ayK hu aa bo hk h aJ
    . simp only[gA,e0]at al;obtain⟨gC,aa,vy,bo,rfl⟩:=al;exact am2 R px aa bo hk h aJ
    . simp only[gA,e0]at al;obtain⟨gC,aa,vy,bo,rfl⟩:=al;exact am2 R px aa bo hk h aJ
    . cases al
  . simp only[gA,e0]at al;obtain⟨gC,aa,vy,bo,rfl⟩:=al;exact am2 R px aa bo hk h aJ
 |unOp u t x=>
  cases u<;>simp only[pK,e0,reduceCtorEq]at al
  . split at al
    . simp only[e0]at al;obtain⟨gC,aa,rfl⟩:=al;exact aHZ R px aa hk h aJ
    . cases al
  . split at al
    . simp only[e0]at al;obtain⟨gC,aa,rfl⟩:=al;exact aH0 R px aa hk h aJ
    . cases al
  . obtain⟨gC,aa,rfl⟩:=al;exact aHY R px aa hk h aJ
 |convert s d x=>
  simp only[pK]at al;split at al
  . rename_i hs ay;simp only[e0]at al;obtain⟨gC,aa,rfl⟩:=al;exact aG6 R px hs ay aa hk h aJ
  . rename_i hs ay;simp only[e0]at al;obtain⟨gC,aa,rfl⟩:=al;exact aH1 R px hs ay aa hk h aJ
  . rename_i hs ay;simp only[e0]at al;obtain⟨gC,aa,rfl⟩:=al;exact aH2 R px hs ay aa hk h aJ
  . rename_i e hs ay;simp only[tr,e0]at al;obtain⟨⟨he,hG⟩,gC,aa,rfl⟩:=al;have J5:P.underlying e=some (.int .u8):=by grind
    exact aH' R px hs J5 ay aa hk h aJ
  . cases al
 |fieldAddr t x f=>
  simp only[pK]at al;split at al
  . rename_i fs Vb;simp only[gA,ak7,e0]at al;obtain⟨fd,c9,m,hm,RP,gC,aa,rfl⟩:=al;exact aG7 R px Vb c9 hm RP aa hk h aJ
  . cases al
 |field t x f=>
  simp only[pK]at al;split at al
  . rename_i fs Vb;simp only[gA,e0]at al;obtain⟨fd,c9,g,a8,gC,aa,rfl⟩:=al;obtain⟨h1,ad,a'⟩:=atz a8;exact aH3 R px Vb c9 ad h1 a' aa hk h aJ
  . cases al
 |indexAddr t x i=>
  simp only[pK]at al;split at al
  . rename_i e hu;simp only[gA,ak7,e0]at al;obtain⟨m,hm,RP,gC,aa,SK,ao,rfl⟩:=al;exact aG' R px hu hm RP aa ao hk h aJ
  . rename_i k e hu;split at al
    . simp only[tr,gA,e0]at al;obtain⟨h0,s,hs,gC,aa,rfl⟩:=al;exact aHk R px hu h0 hs aa hk h aJ
    . simp only[tr,gA,e0]at al;obtain⟨hG,gC,aa,SK,ao,rfl⟩:=al;exact aHj R px hu hG aa ao hk h aJ
  . cases al
 |index t x i=>
  simp only[pK]at al;split at al
  . rename_i hu;simp only[gA,e0]at al;obtain⟨gC,aa,SK,ao,rfl⟩:=al;exact aHa R px hu aa ao hk h aJ
  . cases al
 |slice t x fu ao akY=>
  simp only[pK]at al;split at al
  . rename_i hu;simp only[tr,gA,e0,Option.isNone_iff_eq_none]at al;obtain⟨rfl,gC,aa,O8,ar,UR,ak,rfl⟩:=al;exact aHc R px hu aa ar ak hk h aJ
  . rename_i e hu;split at al
    . simp only[gA,ak7,e0]at al;obtain⟨m,hm,RP,gC,aa,O8,ar,UR,ak,rfl⟩:=al;exact aH5 R px hu hm aa ar ak hk h aJ
    . split at al
      . simp only[tr,e0]at al;obtain⟨h0,gC,aa,rfl⟩:=al;obtain⟨m,hm⟩:=ahS.1 h0;exact aHd R px hu hm aa hk h aJ
      . cases al
    . cases al
  . rename_i k e hu;simp only[tr,gA,e0,Option.isNone_iff_eq_none]at al;obtain⟨⟨rfl,hG⟩,gC,aa,O8,ar,UR,ak,rfl⟩:=al;exact aHl R px hu hG aa ar ak hk h aJ
  . cases al
 |makeFunc fn first caps=>
  cases fn<;>simp only[pK,tr,e0,reduceCtorEq]at al
  obtain⟨h1,O8,ar,rfl⟩:=al;have:first=#[]:=by simpa using h1
  subst this;exact aHb R px ar hk h aJ
 |extract x i=>simp only[pK,e0]at al;obtain⟨gC,aa,rfl⟩:=al;exact aH4 R px aa hk h aJ
 |makeMap t r=>
  cases r with
  |some _=>simp[pK]at al
  |none=>
   simp only[pK,tr,hr]at al;obtain⟨_,rfl⟩:=al;exact aF0 R px hk h aJ
 |lookup t x i c=>
  cases c with
  |true=>simp[pK]at al
  |false=>
   simp only[pK,tr,gA,e0]at al;obtain⟨ht,gC,aa,SK,ao,rfl⟩:=al;exact aF1 R px ht aa ao hk h aJ
 |mapUpdate t m k v0=>
  simp only[pK,tr,gA,e0]at al;obtain⟨⟨ht,ob⟩,gC,aa,SK,ao,rfl⟩:=al;exact aF2 R px ht ob aa ao hk h aJ
 |call c=>simp only[pK]at al;exact aHq R px al hk h aJ
 |_=>simp[pK]at al
def CJ(n:Nat->Bool)(k:Nat):Nat->Bool:=λb=>n b||(decide (k<=b)&&decide (b<k+16))
theorem TF{b:Nat}(h:n b=true):CJ n key b=true:=by simp[CJ,h]
theorem aug{b:Nat}(h:l0 n key b=true):CJ n key b=true:=by
 simp only[l0,Oz,OX]at h;simp only[CJ,Oz,h5,u2]
 grind
theorem ass{OM:Bool}{op:Op}{qi:l1}(h:acQ P OM op=some qi):pK P op=some qi\/∃t len parts e m z ps,op= .buildSlice t len parts/\P.underlying t=some (.slice e)/\D' P e=some m/\Sr P e=some z/\Xq parts.toList=some ps/\m≠0/\z.length=m/\len*m<=2^24/\qi= .bsliceT e m len z ps:=by
 unfold acQ at h;split at h
 . split at h
   . rename_i e hu;simp only[gA,tr,hr]at h
     grind
   . cases h
 grind
theorem aFy{op:Op}{e e8:Nat}(h:pK P op=some (.allocS e e8)):op= .alloc e/\ae1 P e=some e8:=by
 cases op with
 |alloc pJ=>
  simp only[pK]at h;split at h
  . rename_i ai;cases h;exact⟨rfl,ai⟩
  . simp only[gA]at h;obtain⟨cs,sa,h⟩:=h;split at h
    . split at h<;>cases h
    . cases h
 |buildSlice t len parts=>
  simp only[pK]at h;split at h
  . simp only[gA,tr,hr]at h;obtain⟨m,hm,z,gb,ps,E8,_,h⟩:=h;cases h
  . cases h
 |build t parts=>
  simp only[pK]at h;split at h
  . simp only[tr,gA,e0]at h;obtain⟨h1,z,gb,ps,E8,h⟩:=h;cases h
  . simp only[gA,e0]at h;obtain⟨z,gb,m,hm,ps,E8,h⟩:=h;cases h
  . cases h
 |call c=>
  simp only[pK]at h;unfold LE at h
  repeat' (first|(split at h)|(cases h;done))
  all_goals (try (cases h;done))
  all_goals simp only[gA,e0,tr,hr,reduceCtorEq,R1,Vn,adO]at h
 |binOp op t x y Jl=>
  simp only[pK]at h
  repeat' (first|(split at h)|(cases h;done))
  all_goals (try (cases h;done))
  all_goals simp only[gA,e0,tr,hr,reduceCtorEq,R1,Vn,adO]at h
 |unOp u t x=>
  cases u<;>simp only[pK]at h
  all_goals repeat' (first|(split at h)|(cases h;done))
  all_goals (try (cases h;done))
  all_goals simp only[gA,e0,tr,hr,reduceCtorEq,R1,Vn,adO]at h
 |makeMap t r=>cases r<;>simp only[pK,reduceCtorEq,tr,hr,R1]at h
 |lookup t x i c=>cases c<;>simp only[pK,reduceCtorEq,tr,gA,e0,R1,Vn]at h
 |makeFunc fn first caps=>cases fn<;>simp only[pK,tr,e0,reduceCtorEq,R1,Vn]at h
 |convert s d x=>
  simp only[pK]at h
  repeat' (first|(split at h)|(cases h;done))
  all_goals (try (cases h;done))
  all_goals simp only[gA,e0,tr,hr,reduceCtorEq,R1,Vn,adO]at h
 |_=>
  simp only[pK]at h
  try repeat' (first|(split at h)|(cases h;done))
  all_goals (try (cases h;done))
  all_goals simp only[gA,e0,tr,ak7,hr,reduceCtorEq,R1,Vn,adO]at h
theorem aHr (R:ga cm nt φ S env J n a w){o:Oper}{qi:l1}{OM:Bool}(al:acQ P OM o.op=some qi)
 {p v J'}(eJ:∀b,key<=b->b<key+16->n b=false)(h:dx qi env J key=some (p,v,J'))(aJ:p):Good P cm nt env J' (CJ n key) a v ((execOp a.eval o).run P w):=by
 have hk:n key=false:=eJ key (DJ _) (by omega);rcases ass al with al|⟨t,len,parts,e,m,z,ps,px,hu,hm,gb,E8,h1,ad,a',rfl⟩
 . by_cases hs:∃e e8,qi= .allocS e e8
   . obtain⟨e,e8,rfl⟩:=hs;obtain⟨px,aoO⟩:=aFy al;refine(gen R px aoO hk (eJ _ (by omega) (by omega)) h aJ).mono λb ai=>?_
     simp only[l0,Oz,OX]at ai;simp only[CJ,Oz,h5,u2];rcases ai with(ai|ai)|ai
     . exact .inl ai
     . exact .inr ⟨by omega,by omega⟩
     . exact .inr ⟨by omega,by omega⟩
   . exact(aF5 R al (λe e8 he=>hs ⟨e,e8,he⟩) hk h aJ).mono λb ai=>aug ai
 . exact(aEJ R px hu hm gb E8 h1 ad a' hk h aJ).mono λb ai=>aug ai
end
def Nj(P:Program)(f:Nat)(args:List V)(J:ee)(key:Nat)(K:V->ee->Prop):Prop:=
 ∀cm nt φ S env n a w,ga cm nt φ S env J n a w->(∀b,key<=b->b<key+16->n b=false)->V.cv.V.vn n args=true->∀vs:List Value,er (jJ φ w S) args vs->
  Calls P f vs.toArray w λe w'=>∃v r hi hJ J',e= .returned v/\K r J'/\jJ hi w' hJ r v/\r.cv (CJ n key)=true/\ga cm nt hi hJ env J' (CJ n key) a w'
theorem Nj.mono{P:Program}{f:Nat}{args:List V}{J:ee}{key:Nat}{K ari:V->ee->Prop}(h:Nj P f args J key K)(hk:∀r J',K r J'->ari r J'):Nj P f args J key ari:=
 λcm nt φ S env n a w R eJ ai vs ch=>(h cm nt φ S env n a w R eJ ai vs ch).mono λe w' ⟨v,r,hi,hJ,J',h1,ad,a'⟩=>⟨v,r,hi,hJ,J',h1,hk _ _ ad,a'⟩
def mt(env:hc):Option (Nat×Bool)->Option Bool
 |none=>some true
 |some (t,b)=>match look env t with
  |some (g,.c (.t (.bool x)))=>some (g&&(x==b))
  |_=>none
def ii(env:hc)(dst:Option Nat)(g:Bool)(v:V):hc:=
 match dst with
 |none=>env
 |some d=>(d,g,v)::env
def aa4(b:Bool):V:= .c (.t (.bool b))
def MS(P:Program)(o:h2)(key:Nat)(env:hc)(J:ee)(K:hc->ee->Prop):Prop:=
 match mt env o.guard with
 |none=>False
 |some g=>(g=false/\∃v,K (ii env o.dst g v) J)\/
  match o.op with
  |.call f args=>match MY env args with
   |some (p,vs)=>match o.guard with
    |none=>p/\Nj P f vs J key (λr J'=>K (ii env o.dst true r) J')
    |some _=>(g=true/\p/\Nj P f vs J key (λr J'=>K (ii env o.dst true r) J'))\/∃r,(g=true->p/\Nj P f vs J key (λJs J'=>Js=r/\J'=J))/\K (ii env o.dst g r) J
   |none=>False
  |.OK x args=>match x.get env,MY env args with
   |some (q,.c (.fn f caps)),some (p,vs)=>o.guard=none/\N6 P f=true/\q/\p/\Nj P f (vs++caps.map (λb=>V.c (.ptr b 0))) J key (λr J'=>K (ii env o.dst true r) J')
   |_,_=>False
  |.eqNil neg x=>match x.get env with
   |some (p,.c (.t (.slice es)))=>o.guard=none/\p/\∀b:Bool,(es≠[]->b=false)->K (ii env o.dst true (aa4 (if neg then !b else b))) J
   |some (p,.c .hN)=>o.guard=none/\p/\∀b:Bool,K (ii env o.dst true (aa4 (if neg then !b else b))) J
   |some (p,.c (.arr _ _ _ l))=>o.guard=none/\p/\∀b:Bool,(l≠0->b=false)->K (ii env o.dst true (aa4 (if neg then !b else b))) J
   |_=>False
  |op=>match dx op env J key with
   |some (p,v,J')=>(g=true->p)/\(op.neutral=true\/g=true)/\K (ii env o.dst g v) (if op.neutral then J else J')
   |none=>False
def Rz(P:Program):List h2->Nat->hc->ee->(hc->ee->Prop)->Prop
 |[],_,env,J,K=>K env J
 |o::r,key,env,J,K=>MS P o key env J λenv' J'=>Rz P r (key+16) env' J' K
section
variable {P:Program}{cm:K5}{nt:Nat}{φ:q3}{S:r'}{env:hc}{J:ee}{n:Nat->Bool}{key:Nat}{a:Act}{w:World}
theorem Xn{dst:Option Nat}{g:Bool}{v:V}{k:Nat}:look (ii env dst g v) k=if dst=some k then some (g,v)else look env k:=by
 unfold ii;cases dst with
 |none=>simp
 |some d=>simp[look]
theorem ga.akg(R:ga cm nt φ S env J n a w){dst:Option Nat}(ay:∀d,dst=some d->d<nt){g:Bool}{x:Value}{v:V}(aa:g=true->jJ φ w S v x)(hu:g=false->x=undef)(ai:g=true->v.cv n=true):
 ga cm nt φ S (ii env dst g v) J n (a.put dst x) w:=by
 have ayO:∀k:Nat,(a.put dst x).tmps[k]?=if dst=some k then some x else a.tmps[k]?:=by
  intro k;cases dst with
  |none=>simp[Act.put]
  |some d=>
   have e':d<a.tmps.size:=by rw[R.size];exact ay d rfl
   simp only[Act.put,azp,hr]
   grind
 refine⟨R.hI,λk NQ Ju ar a8=>?_,λk NQ Ju ar a8=>?_,λk NQ Ju ar a8=>?_,R.vi,?_,?_,R.ext,R.own,R.fix,R.OU⟩
 . rw[Xn]at ar;rw[ayO];split at ar
   . rename_i h;cases ar;rw[bJ h];exact⟨x,rfl,aa a8⟩
   . rename_i h;rw[cx h];exact R.L0 k NQ Ju ar a8
 . rw[Xn]at ar;rw[ayO];split at ar
   . rename_i h;cases ar;rw[bJ h,hu a8]
   . rename_i h;rw[cx h];exact R.Np k NQ Ju ar a8
 . rw[Xn]at ar;split at ar
   . cases ar;exact ai a8
   . exact R.LZ k NQ Ju ar a8
 . cases dst<;>simp[Act.put,R.size]
 . cases dst<;>simp[Act.put,R.defers]
theorem asm(R:ga cm nt φ S env J n a w){ops:Array Oper}{o:Oper}{gd:Option (Nat×Bool)}(al:aae ops o.guard=some gd){g:Bool}(a8:mt env gd=some g):Region.wanted o (yielded ops a.tmps)=g:=by
 unfold Region.wanted;cases ayH:o.guard with
 |none=>
  rw[ayH]at al;simp[aae]at al;subst al;simp[mt]at a8
  grind
 |some aMa=>
  obtain⟨j,b⟩:=aMa;rw[ayH]at al;simp only[aae,e0]at al;obtain⟨d,ay,rfl⟩:=al;simp only[mt]at a8;split at a8
  . rename_i NQ x ar;simp only[hr]at a8;subst a8;simp only[yielded,ay,ec];cases ag4:NQ with
    |true=>
     obtain⟨y,bo,al⟩:=R.L0 d NQ _ ar ag4;have:=al.P0
     grind
    |false=>
     have:=R.Np d NQ _ ar ag4;simp only[this];rfl
  . cases a8
def QK(cm:K5)(nt:Nat)(n:Nat->Bool)(K:hc->ee->Prop)(a:Act)(w:World):Prop:=∃φ S env J,K env J/\ga cm nt φ S env J n a w
theorem aF6 {f:Nat} (h:N6 P f = true):∃ fn,P.funcs[f]? = some fn/\fn.body.isSome = true/\(fn.name == "runtime.NumGoroutine") = false:= by
 unfold N6 at h
 grind
theorem aGo{f:Nat}(h:N6 P f=true)(args:Array Value)(w:World):(callFunc f args).run P w= .ok (.enter f args) w:=by
 obtain⟨fn,h1,ad,a'⟩:=aF6 h;obtain⟨c,a7⟩:=ahS.1 ad;simp only[callFunc,Sem.run_bind,run_program,Result.andThen_ok,h1,a',a7,y0,Jb,Option.isNone_some,Sem.run_pure]
theorem aeX{o:l1}(h:o.neutral=true){p v J'}(b6:dx o env J key=some (p,v,J')):J'=J:=by
 cases o<;>simp only[l1.neutral,reduceCtorEq,y0]at h<;>simp only[dx,gA,e0,ho]at b6
 all_goals
  (try (obtain⟨a1,h1,b6⟩:=b6))
  (try (obtain⟨a2,ad,b6⟩:=b6))
  (try (obtain⟨a3,a',b6⟩:=b6))
  (try dsimp only at b6)
  (try split at b6)
  (try (simp_all;done))
  (try split at b6)
  (try (simp_all;done))
  (try (obtain⟨_,_,_,_,rfl⟩:=b6;rfl))
 all_goals first
  |(cases b6;rfl)
  |(cases b6;done)
  |(simp only[e0,ho]at b6;obtain⟨_,_,_,_,rfl⟩:=b6;rfl)
  |(split at b6<;>first
   |(cases b6;rfl)
   |(cases b6;done)
   |(simp only[e0,ho]at b6;obtain⟨_,_,_,_,rfl⟩:=b6;rfl))
  |skip
 all_goals repeat' (first|(cases b6;done)|(cases b6;rfl)|(simp only[e0,ho]at b6;obtain⟨_,_,_,_,rfl⟩:=b6;rfl)|split at b6)
theorem ary{ops:Array Oper}{o:Oper}{qi:h2}(h:acM P nt ops o=some qi):
 acQ P (atx ops o) o.op=some qi.op/\aae ops o.guard=some qi.guard/\qi.dst=o.dst/\∀d,qi.dst=some d->d<nt:=by
 simp only[acM,gA]at h;obtain⟨p,aJ,g,a8,h⟩:=h;split at h
 . rename_i ay;cases h;exact⟨aJ,a8,ay.symm,by simp⟩
 . rename_i d ay;simp only[tr,hr]at h;obtain⟨e',rfl⟩:=h;exact⟨aJ,a8,ay.symm,λvv h=>by cases h;exact e'⟩
theorem afv{OM:Bool}{op:Op}{qi:l1}(h:acQ P OM op=some qi)(ai:∀e m l z ps,qi≠.bsliceT e m l z ps):pK P op=some qi:=by
 rcases ass h with h|⟨t,len,parts,e,m,z,ps,_,_,_,_,_,_,_,_,rfl⟩
 . exact h
 grind
theorem anD{ops:Array Oper}{o:Oper}{g:Option (Nat×Bool)}(h:aae ops o.guard=some g)(a8:g=none):o.guard=none:=by
 subst a8;cases cJ:o.guard with
 |none=>rfl
 |some x=>
  rw[cJ]at h;obtain⟨j,b⟩:=x;simp only[aae,e0]at h
  grind
theorem am4{e:TypeId}{qi:l1}(h:pK P (.alloc e)=some qi)(h1:∀cs,qi≠.alloc cs)(ad:∀cs,qi≠.allocA cs)(a':∀e e8,qi≠.allocS e e8):False:=by
 simp only[pK]at h;split at h
 . grind
 . simp only[gA]at h
   grind
theorem arS{op:Op}{f:Nat}{args:List dy}(h:pK P op=some (.call f args)):∃c,op= .call c/\LE P c=some (.call f args):=by
 cases op with
 |call c=>exact⟨c,rfl,h⟩
 |alloc e=>exfalso;exact am4 h (by simp) (by simp) (by simp)
 |makeMap t r=>exfalso;cases r<;>simp[pK]at h
 |lookup t x i c=>exfalso;cases c<;>simp[pK,gA,e0]at h
 |unOp u t x=>
  exfalso
  cases u<;>simp only[pK]at h
  all_goals (repeat' split at h)<;>(first|(cases h;done)|simp[gA,e0]at h)
 |makeFunc fn b c=>exfalso;cases fn<;>simp[pK]at h
 |_=>
  exfalso
  simp only[pK]at h
  (repeat' split at h)<;>(first|(cases h;done)|simp[gA,e0]at h)
theorem WP{op:Op}{x:dy}{args:List dy}(h:pK P op=some (.OK x args)):∃c,op= .call c/\LE P c=some (.OK x args):=by
 cases op with
 |call c=>exact⟨c,rfl,h⟩
 |alloc e=>exfalso;exact am4 h (by simp) (by simp) (by simp)
 |makeMap t r=>exfalso;cases r<;>simp[pK]at h
 |lookup t x i c=>exfalso;cases c<;>simp[pK,gA,e0]at h
 |unOp u t x=>
  exfalso
  cases u<;>simp only[pK]at h
  all_goals (repeat' split at h)<;>(first|(cases h;done)|simp[gA,e0]at h)
 |makeFunc fn b c=>exfalso;cases fn<;>simp[pK]at h
 |_=>
  exfalso
  simp only[pK]at h
  (repeat' split at h)<;>(first|(cases h;done)|simp[gA,e0]at h)
theorem arT{c:Call}{f:Nat}{args:List dy}(h:LE P c=some (.call f args)):c.callee= .value (.func f)/\N6 P f=true/\Vr c.args.toList=some args:=by
 unfold LE at h
 (repeat' split at h)<;>simp[gA,e0]at h
 grind
theorem arL{c:Call}{x:dy}{args:List dy}(h:LE P c=some (.OK x args)):∃t,x= .tmp t/\c.callee= .value (.tmp t)/\Vr c.args.toList=some args:=by
 unfold LE at h
 (repeat' split at h)<;>simp[gA,e0]at h
 grind
theorem aFk{op:Op}{neg:Bool}{x:dy}(h:pK P op=some (.eqNil neg x)):
 ∃TX t y z Jl e,op= .binOp TX t y z Jl/\(TX= .eql\/TX= .neq)/\neg=(TX== .neq)/\P.underlying t=some (.slice e)/\anC z=true/\hC y=some x:=by
 cases op with
 |binOp TX t y z Jl=>
  simp only[pK]at h
  (repeat' split at h)<;>(try (cases h;done))<;>simp only[gA,e0,l1.eqNil.injEq,reduceCtorEq,R1,Vn,adO]at h
  rename_i px _ _ hu gb;obtain⟨gC,h1,ad,rfl⟩:=h;exact⟨TX,t,y,z,Jl,_,rfl,px,ad.symm,hu,gb,h1⟩
 |call c=>
  exfalso
  simp only[pK]at h;unfold LE at h
  (repeat' split at h)<;>(first|(cases h;done)|simp[gA,e0]at h)
 |alloc e=>exfalso;exact am4 h (by simp) (by simp) (by simp)
 |makeMap t r=>exfalso;cases r<;>simp[pK]at h
 |lookup t x i c=>exfalso;cases c<;>simp[pK,gA,e0]at h
 |unOp u t x=>
  exfalso
  cases u<;>simp only[pK]at h
  all_goals (repeat' split at h)<;>(first|(cases h;done)|simp[gA,e0]at h)
 |makeFunc fn b c=>exfalso;cases fn<;>simp[pK]at h
 |_=>
  exfalso
  simp only[pK]at h
  (repeat' split at h)<;>(first|(cases h;done)|simp[gA,e0]at h)
theorem ai9{o:Oper}{c:Call}(cJ:o.op= .call c){x:Operand}(a7:c.callee= .value x){f:Nat}{caps:List Value}(aa:a.eval x= .func (.func f) #[] caps.toArray)(ai:N6 P f=true):
 (execOp a.eval o).run P w= .ok (.enter f (c.args.toList.map a.eval++caps).toArray) w:=by
 have e:(c.args.map a.eval++caps.toArray)=(c.args.toList.map a.eval++caps).toArray:=by apply Array.ext';simp
 simp only[execOp,cJ,Go.resolve,a7,aa,Deferred.ofValue,Sem.run_bind,Sem.run_pure,Result.andThen_ok,invoke];rw[show(#[]++c.args.map a.eval)=c.args.map a.eval by simp,e];exact aGo ai _ _
theorem Calls.next {f:Nat}{args:Array Value}{key:Nat}{K:hc->ee->Prop}{dst:Option Nat}{Q:Exit->Act->World->Prop}{o:Oper}(aK4:dst=o.dst)(ay:∀d,dst=some d->d<nt){g:Bool}(a8:g=true){K2:V->ee->Prop}
 (p':∀r s,K2 r s->K (ii env dst g r) s)
 (h:Calls P f args w λe w'=>∃v r hi hJ J',e= .returned v/\K2 r J'/\jJ hi w' hJ r v/\r.cv (CJ n key)=true/\ga cm nt hi hJ env J' (CJ n key) a w')
 (u0:(execOp a.eval o).run P w= .ok (.enter f args) w):o.wp P a w (QK cm nt (CJ n key) K) Q:=by
 unfold Oper.wp;rw[u0,Oper.upon_enter];refine h.mono ?_
 rintro e w' ⟨v,r,hi,hJ,J',rfl,h1,ad,a',d'⟩
 subst aK4;exact⟨hi,hJ,_,J',p' _ _ h1,d'.akg ay (λ_=>ad) (λh=>by rw[a8]at h;cases h) (λ_=>a')⟩
theorem aje(R:ga cm nt φ S env J n a w)(eJ:∀b,key<=b->b<key+16->n b=false){ops:Array Oper}{o:Oper}{qi:h2}(al:acM P nt ops o=some qi){K:hc->ee->Prop}(h:MS P qi key env J K){Q:Exit->Act->World->Prop}:
 if Region.wanted o (yielded ops a.tmps)then o.wp P a w (QK cm nt (CJ n key) K) Q else QK cm nt (CJ n key) K (a.put o.dst undef) w:=by
 obtain⟨h1,ad,a',d'⟩:=ary al;have hk:n key=false:=eJ key (DJ _) (by omega);unfold MS at h;split at h
 . exact h.elim
 . rename_i g a8;have hw:=asm R ad a8;rw[hw];have amc:∀{v:V} {s:ee},K (ii env qi.dst g v) s->s=J->g=false->QK cm nt (CJ n key) K (a.put o.dst undef) w:=by
    intro v s p' hs X7;subst hs;rw[<-a'];exact⟨φ,S,_,_,p',(R.more λ_ h=>TF h).akg d' (λh=>by rw[X7]at h;cases h) (λ_=>rfl) (λh=>by rw[X7]at h;cases h)⟩
   rcases h with⟨X7,v,p'⟩|h
   . rw[X7];simp only[y0,Jb];exact amc p' rfl X7
   split at h
   ·
    rename_i f args px;rw[px]at h1;have aKT:∃c,o.op= .call c/\c.callee= .value (.func f)/\N6 P f=true/\Vr c.args.toList=some args:=by
     obtain⟨c,a7,al⟩:=arS (afv h1 (by simp));exact⟨c,a7,arT al⟩
    obtain⟨c,T9,Zm,ai,Nq⟩:=aKT;split at h
    . rename_i p vs JE;have u0:∀w':World,(execOp a.eval o).run P w= .ok (.enter f (c.args.toList.map a.eval).toArray) w:=by
       intro _;have:=ai9 (P:=P) (w:=w) (a:=a) T9 Zm (f:=f) (caps:=[]) rfl ai
       grind
      split at h
      . rename_i qs;have I0:g=true:=by rw[qs]at a8;simp[mt]at a8;exact a8
        subst I0;obtain⟨aJ,JC⟩:=h;obtain⟨g1,g2⟩:=YW R Nq JE aJ;exact Calls.next a' d' rfl (λ_ _ h=>h) (JC cm nt φ S env n a w R eJ g2 _ g1) (u0 w)
      . rcases h with⟨I0,aJ,JC⟩|⟨r,JC,p'⟩
        . subst I0;obtain⟨g1,g2⟩:=YW R Nq JE aJ;exact Calls.next a' d' rfl (λ_ _ h=>h) (JC cm nt φ S env n a w R eJ g2 _ g1) (u0 w)
        cases Pv:g with
        |true=>
         obtain⟨aJ,JC⟩:=JC Pv;obtain⟨g1,g2⟩:=YW R Nq JE aJ;simp only[xe];refine Calls.next (K2:=λJs J'=>Js=r/\J'=J) a' d' Pv (λJs s ak=>?_) (JC cm nt φ S env n a w R eJ g2 _ g1) (u0 w)
         obtain⟨rfl,rfl⟩:=ak;exact p'
        |false=>
         simp only[y0,Jb];exact amc p' rfl Pv
    . exact h.elim
   . rename_i x args px;rw[px]at h1;obtain⟨c,T9,al⟩:=WP (afv h1 (by simp));obtain⟨t,rfl,Zm,Nq⟩:=arL al;split at h
     . rename_i q f caps p vs ik JE;obtain⟨qs,ai,e1,aJ,JC⟩:=h;have I0:g=true:=by rw[qs]at a8;simp[mt]at a8;exact a8
       subst I0;obtain⟨g1,g2⟩:=YW R Nq JE aJ;have aa:=kt (x:= .tmp t) R rfl ik e1;have aho:a.eval (.tmp t)= .func (.func f) #[] (caps.map λb=>Value.pointer (some ⟨(φ b).1,0,none⟩)).toArray:=aa.1.xJ;have aoX:er (jJ φ w S) (caps.map λb=>V.c (.ptr b 0)) (caps.map λb=>Value.pointer (some ⟨(φ b).1,0,none⟩)):=by
        refine er.Tj (by simp) ?_;intro i v x h1 ad;simp only[WA,e0]at h1 ad;obtain⟨b,KX,rfl⟩:=h1;obtain⟨hf,JS,rfl⟩:=ad;rw[KX]at JS;cases JS;exact .c rfl
       have Ll:V.cv.V.vn n (vs++caps.map λb=>V.c (.ptr b 0))=true:=by
        refine aag ?_;intro i v ch;by_cases ao:i<vs.length
        . rw[Wz ao]at ch;exact VL g2 ch
        . rw[ZF (by omega)]at ch;simp only[WA,e0]at ch;obtain⟨b,KX,rfl⟩:=ch;have ak:=aa.2;simp only[V.cv,C.cv,qa]at ak⊢
          grind
       exact Calls.next a' d' rfl (λ_ _ h=>h) (JC cm nt φ S env n a w R eJ Ll _ (g1.append aoX)) (ai9 T9 Zm aho ai)
     . exact h.elim
   . rename_i neg x px;rw[px]at h1;obtain⟨TX,ty,y,z,Jl,e,JF,aKR,rfl,hu,gb,bo⟩:=aFk (afv h1 (by simp));have aMb:∀(b:Bool) (hT:Option Addr) (l c:Nat),a.eval y= .slice hT l c->hT.isNone=b->(execOp a.eval o).run P w= .ok (.value (.bool (if(TX== .neq)then !b else b))) w:=by
      intro b hT l c ch ai;subst ai;obtain⟨aq3,ay5,ahs⟩:∃aq3:Value,a.eval z=aq3/\aq3= .slice none 0 0:=by
       unfold anC at gb;split at gb
       . exact⟨_,rfl,rfl⟩
       . cases gb
      subst ahs;have XX:(eqGuard TX ty y z (a.eval y) (a.eval z)).run P w= .ok () w:=ano (by rw[ch];simp) (by rw[ch];simp);have agL:(Op.equal ty (.slice hT l c) (.slice none 0 0)).run P w= .ok hT.isNone w:=by
       obtain⟨d,ay⟩:∃d,Op.maxDepth=d+1:=⟨9999,rfl⟩
       unfold Op.equal;rw[ay];unfold Op.equalIn;cases hT with
       |none=>simp only[Sem.run_bind,run_underlying hu,Result.andThen_ok];rfl
       |some hT=>simp only[Sem.run_bind,run_underlying hu,Result.andThen_ok];rfl
      have agM:(binOp TX ty (a.eval y) (a.eval z)).run P w= .ok (.bool (if(TX== .neq)then !hT.isNone else hT.isNone)) w:=by
       rcases aKR with rfl|rfl
       . rw[ch,ay5];simp only[binOp,Sem.run_bind,agL];rfl
       . rw[ch,ay5];simp only[binOp,Sem.run_bind,agL];rfl
      simp[execOp,JF,XX,agM]
     have LJ:∀ (b:Bool) (hT:Option Addr) (l c:Nat),o.guard = none->a.eval y = .slice hT l c->hT.isNone = b->K (ii env qi.dst true (aa4 (if (TX == .neq) then !b else b))) J->
      (if g=true then o.wp P a w (QK cm nt (CJ n key) K) Q else QK cm nt (CJ n key) K (a.put o.dst undef) w):=by
      intro b hT l c qs ch ai p';have I0:g=true:=by
       have:Region.wanted o (yielded ops a.tmps)=true:=by simp[Region.wanted,qs]
       grind
      rw[bJ I0];unfold Oper.wp;rw[aMb b hT l c ch ai];show QK cm nt (CJ n key) K (a.put o.dst _) w;rw[<-a'];exact⟨φ,S,_,_,p',(R.more λ_ h=>TF h).akg d' (λ_=>.aa3 _) (λh=>by cases h) (λ_=>rfl)⟩
     split at h
     . rename_i p es ik;obtain⟨qs,aJ,p'⟩:=h;obtain⟨hT,cap,sz,b,off,f,ch,_,_,_,hn,_⟩:=hY.Q8 (kt R bo ik aJ).1.xJ;exact LJ hT.isNone hT _ _ (anD ad qs) ch rfl (p' _ λh=>by rw[hn h];rfl)
     . rename_i p ik;obtain⟨qs,aJ,p'⟩:=h;obtain⟨hT,ch⟩:=(kt R bo ik aJ).1.xJ;exact LJ hT.isNone hT _ _ (anD ad qs) ch rfl (p' _)
     . rename_i p b sz off l ik;obtain⟨qs,aJ,p'⟩:=h;obtain⟨hT,ch,b6,q4⟩:=fJ.MR (kt R bo ik aJ).1.xJ;exact LJ hT.isNone hT _ _ (anD ad qs) ch rfl (p' _ λh=>by rw[b6 (by omega)];rfl)
     . exact h.elim
   . rename_i T9 Zm aN5;split at h
     . rename_i p v J' b6;obtain⟨aJ,hn,p'⟩:=h;cases Pv:g with
       |true=>
        simp only[xe];obtain⟨x,hi,hJ,w',hres,Mc,Lj,R'⟩:=aHr R h1 eJ b6 (aJ Pv);have j':(if qi.op.neutral=true then J else J')=J':=by
         split
         . rename_i Qo;exact(aeX Qo b6).symm
         . rfl
        rw[j']at p';have LJ:QK cm nt (CJ n key) K (a.put o.dst x) w':=by
         rw[<-a'];exact⟨hi,hJ,_,_,p',R'.akg d' (λ_=>Mc) (λh=>by rw[Pv]at h;cases h) (λ_=>Lj)⟩
        unfold Oper.wp;rcases hres with hres|⟨hres,rfl⟩
        . rw[hres];exact LJ
        . rw[hres];exact LJ
       |false=>
        simp only[y0,Jb];rcases hn with hn|hn
        . rw[bJ hn]at p';exact amc p' rfl Pv
        . rw[Pv]at hn;cases hn
     . exact h.elim
end
def lt(N:Nat):Nat->Bool:=λb=>decide (b<N)
theorem an5{N b:Nat}(h:CJ (lt N) N b=true):lt (N+16) b=true:=by
 simp only[CJ,lt,Oz,u2,h5]at*;omega
theorem amM{N b:Nat}(h:N<=b):lt N b=false:=by simp[lt];omega
theorem axj{N M b:Nat}(h:N<=M)(ai:lt N b=true):lt M b=true:=by simp only[lt,u2]at*;omega
section
variable {P:Program}{cm:K5}{nt kk:Nat}{φ:q3}{S:r'}{env:hc}{J:ee}{N:Nat}{a:Act}{w:World}
theorem asY{ops:Array Oper}{Q:Exit->Act->World->Prop}{K:hc->ee->Nat->Prop}:∀{l:List Oper} {eh:List h2} {k N:Nat} {env:hc} {J:ee} {φ:q3} {S:r'} {a:Act} {w:World},PU P nt ops l=some eh->(∀i:Nat,i<l.length->l[i]?=ops[k+i]?)->
 ga cm nt φ S env J (lt N) a w->Rz P eh N env J (λe s=>K e s (N+16*eh.length))->(∀φ S e s N a w,K e s N->ga cm nt φ S e s (lt N) a w->Q .normal a w)->wpOps P ops Q (List.range' k l.length) a w
 |[],eh,k,N,env,J,φ,S,a,w,al,ao,R,h,wk=>by
  simp[PU]at al;subst al;simp only[abL,List.range'_zero,wpOps];exact wk _ _ _ _ _ _ _ h R
 |o::l,eh,k,N,env,J,φ,S,a,w,al,ao,R,h,wk=>by
  simp only[PU,gA,e0]at al;obtain⟨qi,P2,V0,agV,rfl⟩:=al;have cJ:ops[k]?=some o:=by have:=ao 0 (by simp);simpa using this.symm
  rw[Yl,List.range'_succ,wpOps_cons];unfold wpOp;rw[cJ];simp only;have hs:=aje R (λb h1 _=>amM h1) P2 (K:=λe s=>Rz P V0 (N+16) e s λe s=>K e s (N+16*(V0.length+1))) (by simp only[Rz,Yl]at h;exact h) (Q:=Q)
  have next:∀n1 w',QK cm nt (CJ (lt N) N) (λe s=>Rz P V0 (N+16) e s λe s=>K e s (N+16*(V0.length+1))) n1 w'->wpOps P ops Q (List.range' (k+1) l.length) n1 w':=by
   rintro n1 w' ⟨hi,hJ,e,s,p',R'⟩
   refine asY (k:=k+1) (N:=N+16) agV (λi e'=>?_) (R'.more λ_ h=>an5 h) (K:=K) ?_ wk
   . have:=ao (i+1) (by simp;omega)
     grind
   grind
  split at hs
  . rename_i hw;rw[bJ hw];exact .inl (Oper.wp_mono next hs)
  grind
def aAK(P:Program)(nt kk:Nat)(c:Code)(env:hc)(J:ee)(N:Nat)(Q:Exit->hc->ee->Nat->Prop):Prop:=
 ∀cm φ S a w,cm.k=kk->ga cm nt φ S env J (lt N) a w->c.wp P (λe n1 w'=>∃hi hJ env' J' N',Q e env' J' N'/\ga cm nt hi hJ env' J' (lt N') n1 w') a w
def kc(P:Program)(nt kk:Nat)(c:sK)(env:hc)(J:ee)(N:Nat)(Q:Exit->hc->ee->Nat->Prop):Prop:=
 ∀code,resolve P nt code=some c->aAK P nt kk code env J N Q
variable {Q VY:Exit->hc->ee->Nat->Prop}
theorem kc.mono{c:sK}(h:kc P nt kk c env J N Q)(e1:∀e env J N,Q e env J N->VY e env J N):kc P nt kk c env J N VY:=
 λcode a7 cm φ S a w j1 R=>wp_mono (h code a7 cm φ S a w j1 R) λe a w ⟨hi,hJ,env',J',N',h1,ad⟩=>⟨hi,hJ,env',J',N',e1 _ _ _ _ h1,ad⟩
theorem kc.skip(h:Q .normal env J N):kc P nt kk .skip env J N Q:=by
 intro code a7 cm φ S a w j1 R;cases code<;>simp only[resolve,gA,e0,reduceCtorEq,R1,Vn]at a7<;>(try (first|(cases a7;done)|(obtain⟨l,_,a7⟩:=a7;(repeat' split at a7)<;>cases a7;done)))
 exact wp_skip ⟨φ,S,env,J,N,h,R⟩
theorem kc.ret(h:Q .ret env J N):kc P nt kk .ret env J N Q:=by
 intro code a7 cm φ S a w j1 R;cases code<;>simp only[resolve,gA,e0,reduceCtorEq,R1,Vn]at a7<;>(try (first|(cases a7;done)|(obtain⟨l,_,a7⟩:=a7;(repeat' split at a7)<;>cases a7;done)))
 exact wp_ret ⟨φ,S,env,J,N,h,R⟩
theorem kc.exit{id:Nat}(h:Q (.exit id) env J N):kc P nt kk (.exit id) env J N Q:=by
 intro code a7 cm φ S a w j1 R;cases code<;>simp only[resolve,gA,e0,reduceCtorEq,R1,Vn]at a7<;>(try (first|(cases a7;done)|(obtain⟨l,_,a7⟩:=a7;(repeat' split at a7)<;>cases a7;done)))
 cases a7;exact wp_exit ⟨φ,S,env,J,N,h,R⟩
def andThen(next:hc->ee->Nat->Prop)(Q:Exit->hc->ee->Nat->Prop):Exit->hc->ee->Nat->Prop
 |.normal,env,J,N=>next env J N
 |e,env,J,N=>Q e env J N
theorem aF7{code:Code}{x y:sK}(h:resolve P nt code=some (.seq x y)):∃a b,code= .seq a b/\resolve P nt a=some x/\resolve P nt b=some y:=by
 cases code with
 |seq a b=>
  simp only[resolve,gA,e0]at h
  grind
 |region id ops aa'=>
  simp only[resolve,gA]at h
  grind
 |_=>simp[resolve,gA,e0]at h
theorem aGp{code:Code}{c:dy}{x y:sK}(h:resolve P nt code=some (.cond c x y)):∃o a b,code= .cond o a b/\hC o=some c/\resolve P nt a=some x/\resolve P nt b=some y:=by
 cases code with
 |cond o a b=>
  simp only[resolve,gA,e0]at h
  grind
 |region id ops aa'=>
  simp only[resolve,gA]at h
  grind
 |_=>simp[resolve,gA,e0]at h
theorem aEL{code:Code}{id:Nat}{x:sK}(h:resolve P nt code=some (.block id x)):∃b,code= .block id b/\resolve P nt b=some x:=by
 cases code with
 |block i b=>
  simp only[resolve,e0]at h
  grind
 |region id ops aa'=>
  simp only[resolve,gA]at h
  grind
 |_=>simp[resolve,gA,e0]at h
theorem aGq{code:Code}{x:sK}(h:resolve P nt code=some (.loop x)):∃b,code= .loop b/\resolve P nt b=some x:=by
 cases code with
 |loop b=>
  simp only[resolve,e0]at h
  grind
 |region id ops aa'=>
  simp only[resolve,gA]at h
  grind
 |_=>simp[resolve,gA,e0]at h
theorem asu{code:Code}{eh:List h2}(h:resolve P nt code=some (.region eh)):∃id ops,code= .region id ops false/\PU P nt ops ops.toList=some eh:=by
 cases code with
 |region id ops aa'=>
  simp only[resolve,gA]at h;obtain⟨l,ar,h⟩:=h;split at h
  . grind
  . rename_i ay;cases h;simp at ay;subst ay
    grind
 |_=>simp[resolve,gA,e0]at h
theorem arz{code:Code}{eh:List h2}{Lc:List (Nat×Nat)}(h:resolve P nt code=some (.WG eh Lc)):
 ∃id ops,code= .region id ops true/\PU P nt ops ops.toList=some eh/\aaw (i4 ops eh)=true/\P.follows .mixedOrders=true/\Lc=aa9 (i4 ops eh):=by
 cases code with
 |region id ops aa'=>
  simp only[resolve,gA]at h;obtain⟨l,ar,h⟩:=h;split at h
  . rename_i ay;split at h
    . rename_i ad;cases h;subst ay;simp only[h5]at ad;exact⟨id,ops,rfl,ar,ad.1,ad.2,rfl⟩
    . cases h
  . cases h
 |_=>simp[resolve,gA,e0]at h
theorem kc.seq{x y:sK}(h:kc P nt kk x env J N (andThen (λenv J N=>kc P nt kk y env J N Q) Q)):kc P nt kk (.seq x y) env J N Q:=by
 intro code a7 cm φ S a w j1 R;obtain⟨adf,aBo,rfl,aa,bo⟩:=aF7 a7;refine wp_seq (wp_mono (h _ aa cm φ S a w j1 R) ?_)
 rintro e n1 w' ⟨hi,hJ,env',J',N',e1,R'⟩
 cases e with
 |normal=>exact e1 _ bo cm hi hJ n1 w' j1 R'
 |_=>exact⟨hi,hJ,env',J',N',e1,R'⟩
theorem kc.cond{c:dy}{x y:sK}{p:Prop}{b:Bool}(a7:c.get env=some (p,aa4 b))(aJ:p)(aa:b=true->kc P nt kk x env J N Q)(bo:b=false->kc P nt kk y env J N Q):kc P nt kk (.cond c x y) env J N Q:=by
 intro code agX cm φ S a w j1 R;obtain⟨o,adf,aBo,rfl,cJ,Jx,MN⟩:=aGp agX;have ai:=(kt R cJ a7 aJ).1.P0;refine wp_cond ai ?_;cases b with
 |true=>exact aa rfl _ Jx cm φ S a w j1 R
 |false=>exact bo rfl _ MN cm φ S a w j1 R
def inBlock(id:Nat)(Q:Exit->hc->ee->Nat->Prop):Exit->hc->ee->Nat->Prop
 |.exit i,env,J,N=>if i=id then Q .normal env J N else Q (.exit i) env J N
 |e,env,J,N=>Q e env J N
theorem kc.block{id:Nat}{x:sK}(h:kc P nt kk x env J N (inBlock id Q)):kc P nt kk (.block id x) env J N Q:=by
 intro code a7 cm φ S a w j1 R;obtain⟨b,rfl,ai⟩:=aEL a7;refine wp_block (wp_mono (h _ ai cm φ S a w j1 R) ?_)
 rintro e n1 w' ⟨hi,hJ,env',J',N',e1,R'⟩
 cases e with
 |exit i=>
  simp only[inBlock]at e1;simp only[Exit.inBlock]
  grind
 |_=>exact⟨hi,hJ,env',J',N',e1,R'⟩
theorem kc.region{eh:List h2}(h:Rz P eh N env J (λe s=>Q .normal e s (N+16*eh.length))):kc P nt kk (.region eh) env J N Q:=by
 intro code a7 cm φ S a w j1 R;obtain⟨id,ops,rfl,al⟩:=asu a7;refine wp_region ?_;have:=asY (P:=P) (ops:=ops) (K:=λe s N=>Q .normal e s N) (Q:=λe n1 w'=>∃hi hJ env' J' N',Q e env' J' N'/\ga cm nt hi hJ env' J' (lt N') n1 w') (k:=0) al (λi ao=>by simp) R h
  (λφ S e s N a w p' J4=>⟨φ,S,e,s,N,p',J4⟩)
 rw[List.range_eq_range'];omega
end
def pos:ey->Nat->Option Nat
 |[],_=>none
 |x::r,b=>if x=b then some 0 else(pos r b).map (· +1)
theorem VN:∀{bs:ey} {b i:Nat},pos bs b=some i->bs[i]?=some b
 |[],b,i,h=>by simp[pos]at h
 |x::r,b,i,h=>by
  unfold pos at h;split at h
  . grind
  . simp only[e0]at h;obtain⟨j,ea,rfl⟩:=h
    simpa using VN ea
def VQ(bs:ey):ey->Option ey
 |[]=>some []
 |c::r=>match pos bs c,VQ bs r with
  |some i,some l=>some (i::l)
  |_,_=>none
def C.hE(bs:ey):C->C
 |.t x=>.t x
 |.ptr b o=>match pos bs b with|some i=>.ptr i o|none=>.dead
 |.k' b sz i o=>match pos bs b with|some j=>.k' j sz i o|none=>.dead
 |.vt ts o=>.vt ts o
 |.arr b sz off len=>match pos bs b with|some i=>.arr i sz off len|none=>.dead
 |.J0 b sz off len=>match pos bs b with|some i=>.J0 i sz off len|none=>.dead
 |.mp b=>match pos bs b with|some i=>.mp i|none=>.dead
 |.y2 b=>match pos bs b with|some i=>.y2 i|none=>.dead
 |.lJ b len=>match pos bs b with|some i=>.lJ i len|none=>.dead
 |.hN=>.hN
 |.Jq=>.Jq
 |.Jp=>.Jp
 |.fn f caps=>match VQ bs caps with|some l=>.fn f l|none=>.dead
 |.dead=>.dead
def V.hE(bs:ey):V->V
 |.c x=>.c (x.hE bs)
 |.agg cs=>.agg (cs.map (C.hE bs))
 |.e2 vs=>.e2 (go bs vs)
where go (bs:ey):List V->List V
 |[]=>[]
 |v::vs=>v.hE bs::go bs vs
def hF.hE(bs:ey):hF->hF
 |.box cs=>.box (cs.map (C.hE bs))
 |.arr sz es=>.arr sz es
 |.set ks=>.set ks
 |.buf E s=>.buf E s
 |.hZ E c=>.hZ E (c.hE bs)
 |.kx sz es i o c=>.kx sz es i o (c.hE bs)
def VO(bs:ey)(env:hc):ey->hc
 |[]=>[]
 |k::ks=>match look env k with
  |some (g,v)=>(k,g,v.hE bs)::VO bs env ks
  |none=>VO bs env ks
def JX(bs:ey)(J:ee):Nat->ey->ee
 |_,[]=>[]
 |i,b::r=>match eb J b with
  |some x=>(i,x.hE bs)::JX bs J (i+1) r
  |none=>JX bs J (i+1) r
def S'(k:Nat)(bs:ey):Bool:=(List.range k).all λi=>bs[i]?==some i
section
variable {P:Program}{cm:K5}{nt kk:Nat}{φ:q3}{S:r'}{env:hc}{J:ee}{N:Nat}{n:Nat->Bool}{a:Act}{w:World}
theorem anE:∀{bs caps l:ey},VQ bs caps=some l->caps.length=l.length/\∀(i b j:Nat),caps[i]?=some b->l[i]?=some j->bs[j]?=some b
 |bs,[],l,h=>by simp[VQ]at h;subst h;simp
 |bs,c::r,l,h=>by
  unfold VQ at h;split at h
  . rename_i j C0 ea ar;cases h;obtain⟨h1,ad⟩:=anE ar;refine⟨by simp[h1],?_⟩;intro i b QZ ai QV;cases i with
    |zero=>simp at ai QV;subst ai;subst QV;exact VN ea
    |succ i=>exact ad i b QZ (by simpa using ai) (by simpa using QV)
  . cases h
theorem fJ.hE{hi:q3}{bs:ey}(kJ:∀(i:Nat) b,bs[i]?=some b->hi i=φ b){c:C}{v:Value}(h:fJ φ w S c v):fJ hi w S (c.hE bs) v:=by
 have cJ:=fJ.PH h;cases c with
 |ptr b o=>
  simp only[C.hE];split
  . rename_i i ao;simp only[fJ,kJ i b (VN ao)];exact h
  . exact cJ
 |k' b sz i o=>
  simp only[C.hE];split
  . rename_i j ea;simp only[fJ,kJ j b (VN ea)];exact h
  . exact cJ
 |arr b sz off len=>
  simp only[C.hE];split
  . rename_i i ao;simp only[fJ,kJ i b (VN ao)];exact h
  . exact cJ
 |J0 b sz off len=>
  simp only[C.hE];split
  . rename_i i ao;simp only[fJ,kJ i b (VN ao)];exact h
  . exact cJ
 |mp b=>
  simp only[C.hE];split
  . rename_i i ao;simp only[fJ,kJ i b (VN ao)];exact h
  . exact cJ
 |y2 b=>
  simp only[C.hE];split
  . rename_i i ao;simp only[fJ,kJ i b (VN ao)];exact h
  . exact cJ
 |lJ b len=>
  simp only[C.hE];split
  . rename_i i ao;simp only[fJ,kJ i b (VN ao)];exact h
  . exact cJ
 |fn f caps=>
  simp only[C.hE];split
  . rename_i l ar;obtain⟨h1,ad⟩:=anE ar;simp only[fJ]at h⊢;rw[h]
    congr 2
    apply List.ext_getElem (by simp[h1]);intro i ayt adp;simp at ayt adp;simp only[List.getElem_map];rw[kJ _ _ (ad i _ _ (HJ ayt) (HJ adp))]
  . exact cJ
 |_=>exact h
theorem ajf{bs:ey}:∀{vs:List V} {i:Nat},(V.hE.go bs vs)[i]?=(vs[i]?).map (V.hE bs)
 |[],i=>by simp[V.hE.go]
 |v::vs,0=>by simp[V.hE.go]
 |v::vs,i+1=>by simp[V.hE.go,ajf]
theorem aiL{bs:ey}:∀{vs:List V},(V.hE.go bs vs).length=vs.length
 |[]=>rfl
 |v::vs=>by simp[V.hE.go,aiL]
theorem er.Yi{α β LV:Type}{R:α->β->Prop}{R':LV->β->Prop}{f:α->LV}{l:List α}{m:List β}(h:er R l m)(k:∀a b,R a b->R' (f a) b):er R' (l.map f) m:=by
 induction h with
 |nil=>exact .nil
 |cons zv _ ih=>exact .cons (k _ _ zv) ih
theorem jJ.hE{hi:q3}{bs:ey}(kJ:∀(i:Nat) b,bs[i]?=some b->hi i=φ b){v:V}{x:Value}(h:jJ φ w S v x):jJ hi w S (v.hE bs) x:=by
 induction h with
 |c h=>exact .c (fJ.hE kJ h)
 |agg h=>exact .agg (h.Yi λ_ _=>fJ.hE kJ)
 |e2 vs xs ar h ih=>
  refine .e2 _ xs (by rw[aiL];exact ar) ?_;intro i v x ch aa;rw[ajf,e0]at ch
  grind
theorem aax{bs:ey}{b i:Nat}(h:pos bs b=some i):i<bs.length:=(pv.1 (VN h)).1
theorem C.Qy{bs:ey}(c:C):(c.hE bs).cv (lt bs.length)=true:=by
 cases c with
 |ptr b o=>simp only[C.hE];split<;>simp[C.cv,lt];rename_i h;exact aax h
 |k' b sz i o=>simp only[C.hE];split<;>simp[C.cv,lt];rename_i h;exact aax h
 |arr b sz off len=>simp only[C.hE];split<;>simp[C.cv,lt];rename_i h;exact aax h
 |J0 b sz off len=>simp only[C.hE];split<;>simp[C.cv,lt];rename_i h;exact aax h
 |mp b=>simp only[C.hE];split<;>simp[C.cv,lt];rename_i h;exact aax h
 |y2 b=>simp only[C.hE];split<;>simp[C.cv,lt];rename_i h;exact aax h
 |lJ b len=>simp only[C.hE];split<;>simp[C.cv,lt];rename_i h;exact aax h
 |fn f caps=>
  simp only[C.hE];split
  . rename_i l ar;obtain⟨h1,ad⟩:=anE ar;simp only[C.cv,qa,lt,u2];intro j ea;obtain⟨i,ao,rfl⟩:=OV ea;exact(pv.1 (ad i _ _ (HJ (by omega)) (HJ ao))).1
  . rfl
 |_=>rfl
theorem V.Qy{bs:ey}:∀(v:V),(v.hE bs).cv (lt bs.length)=true
 |.c x=>by simp only[V.hE,V.cv];exact C.Qy x
 |.agg cs=>by simp only[V.hE,V.cv,Vo,qa];intro c _;exact C.Qy c
 |.e2 vs=>by simp only[V.hE,V.cv];exact go vs
where go:∀vs,V.cv.V.vn (lt bs.length) (V.hE.go bs vs)=true
 |[]=>rfl
 |v::vs=>by simp only[V.hE.go,V.cv.V.vn,h5];exact⟨V.Qy v,go vs⟩
theorem aeG{bs:ey}:∀{ks:ey} {k:Nat} {g:Bool} {v:V},look (VO bs env ks) k=some (g,v)->∃v0,look env k=some (g,v0)/\v=v0.hE bs
 |[],k,g,v,h=>by simp[VO,look]at h
 |x::ks,k,g,v,h=>by
  unfold VO at h;split at h
  . rename_i NQ Ju ar;unfold look at h;split at h
    . grind
    . exact aeG h
  . exact aeG h
theorem Xo{bs:ey}:∀{r:ey} {i:Nat} {b:Nat} {x:hF},eb (JX bs J i r) b=some x->∃j c b9,b=i+j/\r[j]?=some c/\eb J c=some b9/\x=b9.hE bs
 |[],i,b,x,h=>by simp[JX,eb]at h
 |c::r,i,b,x,h=>by
  unfold JX at h;split at h
  . rename_i b9 JW;unfold eb at h;split at h
    . simp_all
    . obtain⟨j,vJ,Qc,h1,ad,a',d'⟩:=Xo h;exact⟨j+1,vJ,Qc,by omega,by simpa using ad,a',d'⟩
  . obtain⟨j,vJ,Qc,h1,ad,a',d'⟩:=Xo h;exact⟨j+1,vJ,Qc,by omega,by simpa using ad,a',d'⟩
theorem o1.hE{hi:q3}{bs:ey}(kJ:∀(i:Nat) b,bs[i]?=some b->hi i=φ b){i b:Nat}(ao:bs[i]?=some b){x:hF}(h:o1 φ w S b x):o1 hi w S i (x.hE bs):=by
 cases x with
 |box cs=>
  obtain⟨h0,vs,E,h1,ad,a'⟩:=h;simp only[hF.hE,o1,kJ i b ao];exact⟨h0,vs,E,h1,ad.Yi λ_ _=>fJ.hE kJ,a'⟩
 |arr sz es=>simp only[hF.hE,o1,kJ i b ao];exact h
 |set ks=>simp only[hF.hE,o1,kJ i b ao];exact h
 |buf E s=>simp only[hF.hE,o1,kJ i b ao];exact h
 |hZ E c=>
  obtain⟨h0,⟨p,v,h1,ad,a'⟩,d'⟩:=h;simp only[hF.hE,o1,kJ i b ao];exact⟨h0,⟨p,v,h1,ad,fJ.hE kJ a'⟩,d'⟩
 |kx sz es i o c=>
  obtain⟨h1,⟨vs,E,ha,hg,hQ,v,oi,te⟩,q'⟩:=h;simp only[hF.hE,o1,kJ _ b ao];exact⟨h1,⟨vs,E,ha,hg,hQ,v,oi,fJ.hE kJ te⟩,q'⟩
theorem ga.tidy(R:ga cm nt φ S env J (lt N) a w)(ks bs:ey)(hL:bs.Nodup)(hk:S' cm.k bs=true):
 ∃hi,ga cm nt hi S (VO bs env ks) (JX bs J 0 bs) (lt bs.length) a w:=by
 have kJ:∀(i:Nat) b,bs[i]?=some b->(λi=>φ ((bs[i]?).getD 0)) i=φ b:=by intro i b h;simp[h]
 have akG:∀i:Nat,i<cm.k->bs[i]?=some i:=by
  intro i ao;simp only[S',qa,adL,OX]at hk
  grind
 refine⟨λi=>φ ((bs[i]?).getD 0),⟨⟨λb x aa=>?_,λb hf x y aa bo hn h0 BJ=>?_,R.hI.st⟩,λk g v ar a8=>?_,λk g v ar a8=>?_,λk g v ar a8=>?_,λb x aa=>?_,R.size,R.defers,R.ext,λb x aa h0=>?_,λb ai=>?_,λb ai=>?_⟩⟩
 . obtain⟨j,c,b9,rfl,ad,a',rfl⟩:=Xo aa;rw[Lt];exact o1.hE kJ ad (R.hI.blk c b9 a')
 . obtain⟨j,c,b9,rfl,ad,a',rfl⟩:=Xo aa;obtain⟨QZ,vJ,Qc,rfl,XZ,agQ,rfl⟩:=Xo bo;simp only[Lt,ad,XZ,WC]at h0 BJ⊢;refine R.hI.inj c vJ b9 Qc a' agQ ?_ h0 BJ;intro e;subst e;have Qs:=(pv.1 ad)
   have l2:=(pv.1 XZ)
   obtain⟨a1,b1⟩:=Qs;obtain⟨a2,b2⟩:=l2;have aJ:=ahR.1 hL;rcases Nat.lt_trichotomy j QZ with h|h|h
   . exact aJ j QZ a1 a2 h (b1.trans b2.symm)
   . subst h;exact hn rfl
   . exact aJ QZ j a2 a1 h (b2.trans b1.symm)
 . obtain⟨v0,h1,rfl⟩:=aeG ar;obtain⟨x,aa,al⟩:=R.L0 k g v0 h1 a8;exact⟨x,aa,jJ.hE kJ al⟩
 . obtain⟨v0,h1,rfl⟩:=aeG ar;exact R.Np k g v0 h1 a8
 . obtain⟨v0,h1,rfl⟩:=aeG ar;exact V.Qy v0
 . obtain⟨j,c,b9,rfl,ad,a',rfl⟩:=Xo aa;refine⟨by simp[lt];exact(pv.1 ad).1,?_⟩;cases b9 with
   |box cs=>simp only[hF.hE,hF.cv,Vo,qa];intro c _;exact C.Qy c
   |arr sz es=>rfl
   |set ks=>rfl
   |buf E s=>rfl
   |hZ E c=>exact C.Qy c
   |kx sz es i o c=>exact C.Qy c
 . obtain⟨j,c,b9,rfl,ad,a',rfl⟩:=Xo aa;simp only[Lt,ad,WC]at h0⊢;exact R.own c b9 a' h0
 . simp only[akG b ai,WC];exact R.fix b ai
 . simp only[lt,u2];exact(pv.1 (akG b ai)).1
theorem kc.tidy{c:sK}{Q:Exit->hc->ee->Nat->Prop}(ks bs:ey)(hL:bs.Nodup)(hk:S' kk bs=true)(h:kc P nt kk c (VO bs env ks) (JX bs J 0 bs) bs.length Q):kc P nt kk c env J N Q:=by
 intro code a7 cm φ S a w j1 R;subst j1;obtain⟨hi,R'⟩:=R.tidy ks bs hL hk;exact h code a7 cm hi S a w rfl R'
end
def cut(es:List (List T))(off len:Nat):List (List T):=if off=0/\len=es.length then es else(es.drop off).take len
def C.iJ(b0 sr:Nat)(es:List (List T)):C->C
 |.arr b sz off len=>if b=b0 then(if sz=sr/\off+len<=es.length then .t (.slice (cut es off len))else .dead)else .arr b sz off len
 |.k' b sz i o=>if b=b0 then .dead else .k' b sz i o
 |c=>c
def V.iJ(b0 sr:Nat)(es:List (List T)):V->V
 |.c x=>.c (x.iJ b0 sr es)
 |.agg cs=>.agg (cs.map (C.iJ b0 sr es))
 |.e2 vs=>.e2 (go b0 sr es vs)
where go (b0 sr:Nat) (es:List (List T)):List V->List V
 |[]=>[]
 |v::vs=>v.iJ b0 sr es::go b0 sr es vs
def hF.iJ(b0 sr:Nat)(es:List (List T)):hF->hF
 |.box cs=>.box (cs.map (C.iJ b0 sr es))
 |.arr sz l=>.arr sz l
 |.set ks=>.set ks
 |.buf E s=>.buf E s
 |.hZ E c=>.hZ E (c.iJ b0 sr es)
 |.kx sz l i o c=>.kx sz l i o (c.iJ b0 sr es)
def YD(b0 sr:Nat)(es:List (List T)):hc->hc
 |[]=>[]
 |(k,g,v)::r=>(k,g,v.iJ b0 sr es)::YD b0 sr es r
def U3(b0 sr:Nat)(es:List (List T)):ee->ee
 |[]=>[]
 |(k,x)::r=>if k=b0 then U3 b0 sr es r else(k,x.iJ b0 sr es)::U3 b0 sr es r
section
variable {P:Program}{cm:K5}{nt kk:Nat}{φ:q3}{S:r'}{env:hc}{J:ee}{N:Nat}{n:Nat->Bool}{a:Act}{w:World}
theorem aeM{b0 sr:Nat}{es:List (List T)}:∀{env:hc} {k:Nat},look (YD b0 sr es env) k=(look env k).map λx=>(x.1,x.2.iJ b0 sr es)
 |[],k=>rfl
 |(i,g,v)::r,k=>by
  simp only[YD,look];split
  . rfl
  . exact aeM
theorem ajL{b0 sr:Nat}{es:List (List T)}:∀{J:ee} {k:Nat},eb (U3 b0 sr es J) k=if k=b0 then none else(eb J k).map (hF.iJ b0 sr es)
 |[],k=>by simp[U3,eb]
 |(i,x)::r,k=>by
  simp only[U3,eb];by_cases h:i=b0
  . rw[bJ h,ajL]
    grind
  . rw[cx h];simp only[eb];by_cases ad:i=k
    . grind
    . rw[cx ad,cx ad,ajL]
def acf(S:r')(q:Nat×Nat):r':=λb j=>S b j\/(q.2≠0/\b=q.1)
theorem aIz{es:List (List T)}{off len:Nat}{e:List T}(h:e∈cut es off len):e∈es:=by
 unfold cut at h
 grind
theorem aIA{es:List (List T)}{off len i:Nat}{e:List T}(q4:off+len<=es.length)(h:(cut es off len)[i]?=some e):es[off+i]?=some e/\i<len:=by
 unfold cut at h
 grind
theorem aGE{es:List (List T)}{off len:Nat}(q4:off+len<=es.length):(cut es off len).length=len:=by
 unfold cut
 grind
theorem fJ.iJ{b0 sr:Nat}{es:List (List T)}(u':o1 φ w S b0 (.arr sr es)){c:C}{v:Value}(h:fJ φ w S c v):fJ φ w (acf S (φ b0)) (c.iJ b0 sr es) v:=by
 have m:LF w S w (acf S (φ b0)):=⟨λ_ _ h=>.inl h,λ_ _ _=>rfl⟩
 have cJ:=fJ.PH h;cases c with
 |arr b sz off len=>
  simp only[C.iJ];by_cases ai:b=b0
  . subst ai;rw[bJ rfl];split
    . rename_i a7;obtain⟨rfl,q4⟩:=a7;obtain⟨h1,ad,a',d',hy⟩:=u';obtain⟨hT,rfl,b6,aLp⟩:=fJ.MR h;have ar:=aGE q4;show hY w _ (.slice (cut es off len)) _;have ep:Value.slice hT len ((φ b).2-off)=Value.slice hT (cut es off len).length ((φ b).2-off):=by rw[ar]
      rw[ep];by_cases h0:(φ b).2=0
      . have:cut es off len=[]:=Qw (by omega);rw[this];exact hY.slice [] _ _ 0 0 0 (λ_ _=>undef) (by simp) (by simp) (by simp) (by simp) (by simp) (by simp)
      . obtain⟨vs,E,ak,Ns,al,hs⟩:=hy h0;refine hY.slice _ _ _ sz (φ b).1 (off*sz) (λi j=>(vs.getD ((off+i)*sz+j) undef)) (by omega) (by omega) (λe he=>a' e (aIz he)) (λ_=>b6 h0) ?_ ?_
        . intro i j ao ea;rw[ar]at ao;refine⟨.inr ⟨h0,rfl⟩,?_⟩;rw[PR ak,show off*sz+i*sz+j=(off+i)*sz+j by rw[K0]];have e':(off+i)*sz+j<vs.length:=by
           have:=Ja sz (show off+i+1<=(φ b).2 by omega)
           grind
          grind
        . intro i j e t he ht;obtain⟨ao2,ao⟩:=aIA q4 he;obtain⟨v,ch,Wt⟩:=al _ _ _ _ ao2 ht;simp only[List.getD,ch,WC];exact hY.mono m Wt
    . exact cJ
  . rw[cx ai];exact fJ.mono (n:=λ_=>true) m (λ_ _=>rfl) (C.UY _) h
 |k' b sz i o=>
  simp only[C.iJ];split
  . exact cJ
  . exact h
 |_=>exact fJ.mono (n:=λ_=>true) m (λ_ _=>rfl) (C.UY _) h
theorem anF{b0 sr:Nat}{es:List (List T)}:∀{vs:List V} {i:Nat},(V.iJ.go b0 sr es vs)[i]?=(vs[i]?).map (V.iJ b0 sr es)
 |[],i=>by simp[V.iJ.go]
 |v::vs,0=>by simp[V.iJ.go]
 |v::vs,i+1=>by simp[V.iJ.go,anF]
theorem ame{b0 sr:Nat}{es:List (List T)}:∀{vs:List V},(V.iJ.go b0 sr es vs).length=vs.length
 |[]=>rfl
 |v::vs=>by simp[V.iJ.go,ame]
theorem jJ.iJ{b0 sr:Nat}{es:List (List T)}(u':o1 φ w S b0 (.arr sr es)){v:V}{x:Value}(h:jJ φ w S v x):jJ φ w (acf S (φ b0)) (v.iJ b0 sr es) x:=by
 induction h with
 |c h=>exact .c (fJ.iJ u' h)
 |agg h=>exact .agg (h.Yi λ_ _=>fJ.iJ u')
 |e2 vs xs ar h ih=>
  refine .e2 _ xs (by rw[ame];exact ar) ?_;intro i v x ch aa;rw[anF,e0]at ch
  grind
theorem C.Zg{b0 sr:Nat}{es:List (List T)}{c:C}(h:c.cv n=true):(c.iJ b0 sr es).cv n=true:=by
 cases c with
 |arr b sz off len=>simp only[C.iJ];split;split;rfl;rfl;exact h
 |k' b sz i o=>simp only[C.iJ];split;rfl;exact h
 |_=>exact h
theorem V.Zg{b0 sr:Nat}{es:List (List T)}:∀{v:V},v.cv n=true->(v.iJ b0 sr es).cv n=true
 |.c x,h=>by simp only[V.iJ,V.cv]at h⊢;exact C.Zg h
 |.agg cs,h=>by simp only[V.iJ,V.cv,Vo,qa]at h⊢;intro c a7;exact C.Zg (h c a7)
 |.e2 vs,h=>by simp only[V.iJ,V.cv]at h⊢;exact go vs h
where go:∀vs,V.cv.V.vn n vs=true->V.cv.V.vn n (V.iJ.go b0 sr es vs)=true
 |[],_=>rfl
 |v::vs,h=>by simp only[V.iJ.go,V.cv.V.vn,h5]at h⊢;exact⟨V.Zg h.1,go vs h.2⟩
theorem ga.freeze(R:ga cm nt φ S env J n a w){b0 sr:Nat}{es:List (List T)}(j':eb J b0=some (.arr sr es)):
 ga cm nt φ (acf S (φ b0)) (YD b0 sr es env) (U3 b0 sr es J) n a w:=by
 have u':=R.hI.blk b0 _ j';have m:LF w S w (acf S (φ b0)):=⟨λ_ _ h=>.inl h,λ_ _ _=>rfl⟩
 have JM:∀b x,eb (U3 b0 sr es J) b=some x->b≠b0/\∃b9,eb J b=some b9/\x=b9.iJ b0 sr es:=by
  intro b x aa;rw[ajL]at aa;split at aa
  . cases aa
  . rename_i h;simp only[e0]at aa
    grind
 have adq:∀b x,b≠b0->eb J b=some x->(φ b).2≠0->∀j,¬acf S (φ b0) (φ b).1 j:=by
  intro b x hn aa h0 j ea;rcases ea with ea|⟨ag6,ea⟩
  . exact(R.hI.blk b x aa).Yj h0 j ea
  . exact R.hI.inj b b0 x _ aa j' hn h0 ag6 ea
 refine⟨⟨λb x aa=>?_,λb hf x y aa bo hn h0 BJ=>?_,λb j ea=>?_⟩,λk g v ar a8=>?_,λk g v ar a8=>?_,λk g v ar a8=>?_,λb x aa=>?_,R.size,R.defers,?_,λb x aa h0=>?_,R.fix,R.OU⟩
 . obtain⟨hn,b9,JW,rfl⟩:=JM b x aa;have J4:=R.hI.blk b b9 JW;cases b9 with
   |box cs=>
    obtain⟨h0,vs,E,h1,ad,a'⟩:=J4;exact⟨h0,vs,E,h1,ad.Yi λ_ _=>fJ.iJ u',adq b _ hn JW h0⟩
   |arr sz l=>
    obtain⟨h1,ad,a',d',hy⟩:=J4;refine⟨h1,ad,a',d',λh0=>?_⟩;obtain⟨vs,E,ha,hg,hQ,oi⟩:=hy h0;exact⟨vs,E,ha,hg,λi j e t he ht=>let⟨v,ch,al⟩:=hQ i j e t he ht;⟨v,ch,hY.mono m al⟩,adq b _ hn JW h0⟩
   |set ks=>exact⟨J4.1,J4.2.1,adq b _ hn JW J4.1⟩
   |buf E s=>exact⟨J4.1,J4.2.1,λh0=>⟨(J4.2.2 h0).1,adq b _ hn JW h0⟩⟩
   |hZ E c=>
    obtain⟨h0,⟨p,v,h1,ad,a'⟩,d'⟩:=J4;exact⟨h0,⟨p,v,h1,ad,fJ.iJ u' a'⟩,adq b _ hn JW h0⟩
   |kx sz l i o c=>
    obtain⟨⟨h1,ad,a',d',hy,B'⟩,⟨vs,E,ha,hg,hQ,v,oi,te⟩,q'⟩:=J4;exact⟨⟨h1,ad,a',d',hy,B'⟩,⟨vs,E,ha,hg,λi j e t he ht eJ=>let⟨v,ch,al⟩:=hQ i j e t he ht eJ;⟨v,ch,hY.mono m al⟩,v,oi,fJ.iJ u' te⟩,adq b _ hn JW (by omega)⟩
 . obtain⟨_,b9,JW,rfl⟩:=JM b x aa;obtain⟨_,Ri,S8,rfl⟩:=JM hf y bo;exact R.hI.inj b hf b9 Ri JW S8 hn h0 BJ
 . rcases ea with ea|⟨ag6,rfl⟩
   . exact R.hI.st b j ea
   . exact u'.Q7 ag6
 . rw[aeM,e0]at ar;obtain⟨⟨g0,v0⟩,NU,he⟩:=ar;cases he;obtain⟨x,aa,al⟩:=R.L0 k g0 v0 NU a8;exact⟨x,aa,jJ.iJ u' al⟩
 . rw[aeM,e0]at ar;obtain⟨⟨g0,v0⟩,NU,he⟩:=ar;cases he;exact R.Np k g0 v0 NU a8
 . rw[aeM,e0]at ar;obtain⟨⟨g0,v0⟩,NU,he⟩:=ar;cases he;exact V.Zg (R.LZ k g0 v0 NU a8)
 . obtain⟨_,b9,JW,rfl⟩:=JM b x aa;refine⟨(R.vi b b9 JW).1,?_⟩;have:=(R.vi b b9 JW).2;cases b9 with
   |box cs=>simp only[hF.iJ,hF.cv,Vo,qa]at this⊢;intro c a7;exact C.Zg (this c a7)
   |arr sz l=>rfl
   |set ks=>rfl
   |buf E s=>rfl
   |hZ E c=>simp only[hF.iJ,hF.cv]at this⊢;exact C.Zg this
   |kx sz l i o c=>simp only[hF.iJ,hF.cv]at this⊢;exact C.Zg this
 . refine⟨R.ext.os,R.ext.tape,R.ext.output,R.ext.size,R.ext.block,R.ext.mono.trans m,λb j ea=>?_⟩;rcases ea with ea|⟨ag6,rfl⟩
   . exact R.ext.ZW b j ea
   . rcases R.own b0 _ j' ag6 with h|h
     . exact .inr (.inl h)
     . exact .inr (.inr h)
 . obtain⟨_,b9,JW,rfl⟩:=JM b x aa;exact R.own b b9 JW h0
theorem kc.freeze{c:sK}{Q:Exit->hc->ee->Nat->Prop}(b0:Nat){sr:Nat}{es:List (List T)}(j':eb J b0=some (.arr sr es))(h:kc P nt kk c (YD b0 sr es env) (U3 b0 sr es J) N Q):kc P nt kk c env J N Q:=by
 intro code a7 cm φ S a w j1 R;exact h code a7 cm φ _ a w j1 (R.freeze j')
inductive PO where
 |tmp (t:Nat)
 |cell (t:Nat)(agg:Bool)(n:Nat)
def N3(P:Program):List ResultVar->Option (List PO)
 |[]=>some []
 |.tmp t::r=>(N3 P r).map (.tmp t::·)
 |.cell a ty::r=>(aav P ty).bind λg=>(N3 P r).map (.cell a g.1 g.2::·)
def aay(env:hc)(J:ee):PO->Option (Prop×V)
 |.tmp t=>(look env t).map λx=>(x.1=true,x.2)
 |.cell t g k=>match look env t with
  |some (g0,.c (.ptr b o))=>match eb J b with
   |some (.box cs)=>(Qu g k cs o).map λv=>(g0=true,v)
   |_=>none
  |_=>none
def VS(env:hc)(J:ee):List PO->Option (Prop×List V)
 |[]=>some (True,[])
 |r::rs=>(aay env J r).bind λx=>(VS env J rs).map λy=>(x.1/\y.1,x.2::y.2)
def Uk:List V->V
 |[v]=>v
 |vs=>.e2 vs
def y1(P:Program)(f:Nat)(args:List V)(J:ee)(k:Nat)(Q:V->ee->Nat->Prop):Prop:=
 ∀(φ:q3) (S:r') (w:World) (B:Nat->Prop),Y5 φ w S J->(∀(b:Nat) x,eb J b=some x->b<k/\x.cv (lt k)=true)->(∀(b:Nat) x,eb J b=some x->(φ b).2≠0->B (φ b).1)->
  V.cv.V.vn (lt k) args=true->∀vs:List Value,er (jJ φ w S) args vs->
  Calls P f vs.toArray w λe w'=>∃v r hi hJ J' N',e= .returned v/\Q r J' N'/\jJ hi w' hJ r v/\r.cv (lt N')=true/\Y5 hi w' hJ J'/\(∀(b:Nat) x,eb J' b=some x->b<N'/\x.cv (lt N')=true)/\Rk B S hJ w w'/\
   (∀(b:Nat) x,eb J' b=some x->(hi b).2≠0->B (hi b).1\/w.heap.size<=(hi b).1)/\∀b,b<k->hi b=φ b
theorem Rk.refl{B:Nat->Prop}:Rk B S S w w:=⟨rfl,rfl,rfl,DJ _,λ_ _ _=>rfl,LF.refl _ _,λ_ _ h=>.inl h⟩
def KW:Nat->List V->hc
 |_,[]=>[]
 |i,v::vs=>(i,true,v)::KW (i+1) vs
theorem ajm:∀{vs:List V} {i k:Nat} {g:Bool} {v:V},look (KW i vs) k=some (g,v)->g=true/\∃j,k=i+j/\vs[j]?=some v
 |[],i,k,g,v,h=>by simp[KW,look]at h
 |x::vs,i,k,g,v,h=>by
  simp only[KW,look]at h;split at h
  . simp_all
  . obtain⟨h1,j,ad,a'⟩:=ajm h;exact⟨h1,j+1,by omega,by simpa using a'⟩
def ad9(a:Act):ResultVar->Sem Value
 |.tmp t=>Pure.pure (a.tmps.getD t undef)
 |.cell hT ty=>do loadVar ty (<-asAddr (a.tmps.getD hT undef))
theorem aGF(fn:Func)(a:Act):results fn a.tmps=(fn.results.mapM (ad9 a)>>=λvs=>Pure.pure (if h:vs.size=1 then vs[0]else .tuple vs)):=by rfl
theorem aGr(R:ga cm nt φ S env J n a w){WH:ResultVar}{V1:PO}(al:N3 P [WH]=some [V1]){p:Prop}{v:V}(h:aay env J V1=some (p,v))(aJ:p):
 ∃x,(ad9 a WH).run P w= .ok x w/\jJ φ w S v x/\v.cv n=true:=by
 cases WH with
 |tmp t=>
  simp[N3]at al;subst al;simp only[aay,e0,ho]at h;obtain⟨⟨g,v0⟩,ar,rfl,rfl⟩:=h;obtain⟨x,aa,Mc⟩:=R.L0 t g v0 ar aJ;refine⟨x,?_,Mc,R.LZ t g v0 ar aJ⟩;simp[ad9,aa]
 |cell hT ty=>
  simp only[N3,gA,e0]at al;obtain⟨g,a8,l,ar,he⟩:=al;simp at ar;subst ar;simp at he;subst he;simp only[aay]at h;split at h
  . rename_i g0 b o ar;split at h
    . rename_i cs j';simp only[e0,ho]at h;obtain⟨v0,ob,rfl,rfl⟩:=h;obtain⟨x,aa,Mc⟩:=R.L0 hT g0 _ ar aJ;have:=Mc.Ny;subst this;obtain⟨_,vs,E,ak,k4,_⟩:=R.hI.blk _ _ j';obtain⟨y,bo,h1,ad⟩:=aan (n:=n) a8 k4 (R.vi _ _ j').2 (λj _=>by rw[PR ak,Lt]) ob;rw[Lt]at bo;refine⟨y,?_,h1,ad⟩
      simp[ad9,aa,asAddr,bo]
    . cases h
  . cases h
theorem asP(R:ga cm nt φ S env J n a w):∀{alo:List ResultVar} {Jz:List PO} {p:Prop} {vs:List V},N3 P alo=some Jz->VS env J Jz=some (p,vs)->p->
 ∃xs:List Value,(alo.mapM (ad9 a)).run P w= .ok xs w/\er (jJ φ w S) vs xs/\V.cv.V.vn n vs=true
 |[],Jz,p,vs,al,h,aJ=>by
  simp[N3]at al;subst al;simp[VS]at h;obtain⟨_,rfl⟩:=h;exact⟨[],by simp,.nil,rfl⟩
 |WH::alo,Jz,p,vs,al,h,aJ=>by
  have aLN:∃V1 aob,Jz=V1::aob/\N3 P [WH]=some [V1]/\N3 P alo=some aob:=by
   cases WH with
   |tmp t=>
    simp only[N3,e0]at al;obtain⟨l,ar,rfl⟩:=al;exact⟨_,l,rfl,rfl,ar⟩
   |cell hT ty=>
    simp only[N3,gA,e0]at al;obtain⟨g,a8,l,ar,rfl⟩:=al;exact⟨_,l,rfl,by simp[N3,a8],ar⟩
  obtain⟨V1,aob,rfl,h1,ad⟩:=aLN;simp only[VS,gA,e0]at h;obtain⟨⟨q,v⟩,e1,⟨ZP,Tu⟩,ahh,he⟩:=h;simp only[ho]at he;obtain⟨rfl,rfl⟩:=he;obtain⟨x,aa,ch,ai⟩:=aGr R h1 e1 aJ.1;obtain⟨xs,P8,x1,Ol⟩:=asP R ad ahh aJ.2;refine⟨x::xs,?_,.cons ch x1,by simp[V.cv.V.vn,ai,Ol]⟩;simp_all
theorem jJ.Uk{vs:List V}{xs:List Value}(h:er (jJ φ w S) vs xs):jJ φ w S (Uk vs) (if h:xs.toArray.size=1 then xs.toArray[0]else .tuple xs.toArray):=by
 cases h with
 |nil=>exact .e2 [] [] rfl (by simp)
 |cons h1 ad=>
  cases ad with
  |nil=>simpa[Shv.Uk]using h1
  |cons ad a'=>
   rw[dif_neg (by simp)];refine .e2 _ _ (by simp[a'.length]) ?_;intro i v x ch aa;have:=(er.cons h1 (.cons ad a')).get ch
   grind
theorem aHw{vs:List V}(h:V.cv.V.vn n vs=true):(Uk vs).cv n=true:=by
 unfold Uk;split
 . simp[V.cv.V.vn]at h;exact h
 . simpa[V.cv]using h
def al5(Jz:List PO)(Q:V->ee->Nat->Prop):Exit->hc->ee->Nat->Prop
 |.normal,env,J,N=>∃p vs,VS env J Jz=some (p,vs)/\p/\Q (Uk vs) J N
 |.ret,env,J,N=>∃p vs,VS env J Jz=some (p,vs)/\p/\Q (Uk vs) J N
 |_,_,_,_=>False
theorem y1.ap7 {f:Nat}{fn:Func}{code:Code}{c:sK}{Jz:List PO}(c9:P.funcs[f]?=some fn)(ai:fn.body=some code)(a7:resolve P fn.ntmps code=some c)(al:N3 P fn.results.toList=some Jz)
 {args:List V}(eJ:args.length<=fn.ntmps){k:Nat}{Q:V->ee->Nat->Prop}(h:kc P fn.ntmps k c (KW 0 args) J k (al5 Jz Q)):y1 P f args J k Q:=by
 intro φ S w B LN wm Vg zv vs x1;have ar:=x1.length;refine calls_of_wp c9 ai ?_;have R:ga ⟨w,S,B,φ,k⟩ fn.ntmps φ S (KW 0 args) J (lt k) {tmps:=vs.toArray++Array.replicate (fn.ntmps-vs.toArray.size) undef,defers:=[]} w:=by
  refine⟨LN,λi g v JL a8=>?_,λi g v JL a8=>?_,λi g v JL a8=>?_,λb x aa=>?_,?_,rfl,Rk.refl,λb x aa h0=>.inl (Vg b x aa h0),λ_ _=>rfl,λb ai=>by simp[lt];exact ai⟩
  . obtain⟨_,j,rfl,ea⟩:=ajm JL;obtain⟨x,aa,al⟩:=x1.get ea
    grind
  . have:=(ajm JL).1;rw[this]at a8;cases a8
  . obtain⟨_,j,rfl,ea⟩:=ajm JL;exact VL zv ea
  . obtain⟨h1,ad⟩:=wm b x aa;exact⟨by simp[lt];exact h1,ad⟩
  grind
 refine wp_mono (h code a7 ⟨w,S,B,φ,k⟩ φ S _ w rfl R) ?_
 rintro e n1 w' ⟨hi,hJ,env',J',N',e1,R'⟩
 have LJ:(∃ p vs,VS env' J' Jz = some (p,vs)/\p/\Q (Uk vs) J' N')->n1.defers = []/\∃ v,(results fn n1.tmps).run P w' = .ok v w'/\(∃ Ju r aeA acV aiD aiE,Ending.returned v = .returned Ju/\Q r aiD aiE/\jJ aeA w' acV r Ju/\r.cv (lt aiE) = true/\Y5 aeA w' acV aiD/\(∀ (b:Nat) x,eb aiD b = some x->b<aiE/\x.cv (lt aiE) = true)/\Rk B S acV w w'/\
  (∀(b:Nat) x,eb aiD b=some x->(aeA b).2≠0->B (aeA b).1\/w.heap.size<=(aeA b).1)/\∀b,b<k->aeA b=φ b):=by
  rintro ⟨p,rs,h1,ad,a'⟩
  obtain⟨xs,P8,Mc,Lj⟩:=asP R' al h1 ad;refine⟨R'.defers,_,?_,_,Uk rs,hi,hJ,J',N',rfl,a',jJ.Uk Mc,aHw Lj,R'.hI,λb x aa=>?_,R'.ext,R'.own,R'.fix⟩
  . have hm:(fn.results.mapM (ad9 n1)).run P w'= .ok xs.toArray w':=by
     rw[Array.mapM_eq_mapM_toList];simp_all
    rw[aGF];simp only[Sem.run_bind,hm,Result.andThen_ok];rfl
  . obtain⟨h1,ad⟩:=R'.vi b x aa;exact⟨by simpa[lt]using h1,ad⟩
 cases e with
 |normal=>exact LJ e1
 |ret=>exact LJ e1
 |exit id=>exact e1.elim
 |goto l=>exact e1.elim
 |panic avn=>exact e1.elim
 |outgrown=>exact e1.elim
end
end
end Go.Proofs.YtandcioiaooocaaGreat.Shv
namespace Go.Proofs.YtandcioiaooocaaGreat.Shv
set_option linter.all false
open Go
def C.hj(k:Nat):C->C
 |.ptr b o=>.ptr (k+b) o
 |.k' b sz i o=>.k' (k+b) sz i o
 |.arr b sz off len=>.arr (k+b) sz off len
 |.J0 b sz off len=>.J0 (k+b) sz off len
 |.mp b=>.mp (k+b)
 |.y2 b=>.y2 (k+b)
 |.lJ b len=>.lJ (k+b) len
 |.fn f caps=>.fn f (caps.map (k+·))
 |c=>c
def V.hj(k:Nat):V->V
 |.c x=>.c (x.hj k)
 |.agg cs=>.agg (cs.map (C.hj k))
 |.e2 vs=>.e2 (go k vs)
where go (k:Nat):List V->List V
 |[]=>[]
 |v::vs=>v.hj k::go k vs
def hF.hj(k:Nat):hF->hF
 |.box cs=>.box (cs.map (C.hj k))
 |.arr sz es=>.arr sz es
 |.set ks=>.set ks
 |.buf E s=>.buf E s
 |.hZ E c=>.hZ E (c.hj k)
 |.kx sz es i o c=>.kx sz es i o (c.hj k)
def TL(J:ee)(k:Nat):ee->ee
 |[]=>J
 |(b,x)::r=>qJ (TL J k r) (k+b) (x.hj k)
theorem ae9{J:ee}{k:Nat}:∀{hU:ee} {b:Nat},eb (TL J k hU) b=match (if k<=b then eb hU (b-k)else none)with|some x=>some (x.hj k)|none=>eb J b
 |[],b=>by simp[TL,eb]
 |(c,x)::r,b=>by
  simp only[TL,n2,ae9,eb]
  grind
section
variable {P:Program}{cm:K5}{nt kk:Nat}{φ:q3}{S hJ:r'}{env:hc}{J:ee}{N key:Nat}{n:Nat->Bool}{a:Act}{w w':World}
theorem Nj.ap8{f:Nat}{args:List V}{r:V}(h:y1 P f args [] 0 (λJs _ _=>Js=r))(ai:V.cv.V.vn (lt 0) args=true)(al:r.cv (lt 0)=true){K:V->ee->Prop}(p':K r J):Nj P f args J key K:=by
 intro cm nt φ S env n a w R eJ L1 vs x1;refine(h φ S w (λ_=>False) ⟨λb x aa=>by simp[eb]at aa,λb hf x y aa=>by simp[eb]at aa,R.hI.st⟩ (λb x aa=>by simp[eb]at aa) (λb x aa=>by simp[eb]at aa) ai vs x1).mono ?_
 rintro e w' ⟨v,Js,hi,hJ,J',N',rfl,rfl,h1,ad,a',d',hy,B',Oi⟩
 refine⟨v,Js,φ,hJ,J,rfl,p',?_,V.MV (λb h=>by simp[lt]at h) al,(R.extend hy a'.st).more λ_ h=>TF h⟩;exact jJ.mono (LF.refl _ _) (n:=lt 0) (λb h=>by simp[lt]at h) al h1
theorem fJ.hj{hi:q3}{k:Nat}{n:Nat->Bool}(kJ:∀b,n b=true->hi (k+b)=φ b){c:C}{v:Value}(ai:c.cv n=true)(h:fJ φ w S c v):fJ hi w S (c.hj k) v:=by
 cases c with
 |ptr b o=>simp only[C.cv]at ai;simp only[C.hj,fJ,kJ b ai];exact h
 |k' b sz i o=>simp only[C.cv]at ai;simp only[C.hj,fJ,kJ b ai];exact h
 |arr b sz off len=>simp only[C.cv]at ai;simp only[C.hj,fJ,kJ b ai];exact h
 |J0 b sz off len=>simp only[C.cv]at ai;simp only[C.hj,fJ,kJ b ai];exact h
 |mp b=>simp only[C.cv]at ai;simp only[C.hj,fJ,kJ b ai];exact h
 |y2 b=>simp only[C.cv]at ai;simp only[C.hj,fJ,kJ b ai];exact h
 |lJ b len=>simp only[C.cv]at ai;simp only[C.hj,fJ,kJ b ai];exact h
 |fn f caps=>
  simp only[C.cv,qa]at ai;simp only[C.hj,fJ]at h⊢;simp_all
 |_=>exact h
theorem asZ{k:Nat}:∀{vs:List V} {i:Nat},(V.hj.go k vs)[i]?=(vs[i]?).map (V.hj k)
 |[],i=>by simp[V.hj.go]
 |v::vs,0=>by simp[V.hj.go]
 |v::vs,i+1=>by simp[V.hj.go,asZ]
theorem asQ{k:Nat}:∀{vs:List V},(V.hj.go k vs).length=vs.length
 |[]=>rfl
 |v::vs=>by simp[V.hj.go,asQ]
theorem jJ.hj{hi:q3}{k:Nat}{n:Nat->Bool}(kJ:∀b,n b=true->hi (k+b)=φ b){v:V}{x:Value}(ai:v.cv n=true)(h:jJ φ w S v x):jJ hi w S (v.hj k) x:=by
 induction h with
 |c h=>exact .c (fJ.hj kJ (by simpa[V.cv]using ai) h)
 | @agg cs vs h=>
  simp only[V.cv,qa]at ai;refine .agg ?_;have:=h.imp (R':=λc v=>fJ hi w S (C.hj k c) v) λc v a7 al=>fJ.hj kJ (ai c a7) al
  exact this.Yi λ_ _ h=>h
 |e2 vs xs ar h ih=>
  refine .e2 _ xs (by rw[asQ];exact ar) ?_;intro i v x ch aa;rw[asZ,e0]at ch;obtain⟨v0,ob,rfl⟩:=ch;exact ih i v0 x ob aa (VL (by simpa[V.cv]using ai) ob)
theorem C.ZV{m:Nat}(hm:m<=16){c:C}(h:c.cv (lt m)=true):(c.hj key).cv (CJ n key)=true:=by
 cases c<;>simp only[C.hj,C.cv,lt,CJ,u2,Oz,h5,qa,PG]at h⊢
 . right;omega
 . right;omega
 . right;omega
 . right;omega
 . right;omega
 . right;omega
 . right;omega
 grind
theorem V.ZV{m:Nat}(hm:m<=16):∀{v:V},v.cv (lt m)=true->(v.hj key).cv (CJ n key)=true
 |.c x,h=>by simp only[V.hj,V.cv]at h⊢;exact C.ZV hm h
 |.agg cs,h=>by simp only[V.hj,V.cv,Vo,qa]at h⊢;intro c a7;exact C.ZV hm (h c a7)
 |.e2 vs,h=>by simp only[V.hj,V.cv]at h⊢;exact go vs h
where go:∀vs,V.cv.V.vn (lt m) vs=true->V.cv.V.vn (CJ n key) (V.hj.go key vs)=true
 |[],_=>rfl
 |v::vs,h=>by simp only[V.hj.go,V.cv.V.vn,h5]at h⊢;exact⟨V.ZV hm h.1,go vs h.2⟩
theorem Nj.aMu {f:Nat}{args:List V}{Q:V->ee->Nat->Prop}(h:y1 P f args [] 0 Q)(ai:V.cv.V.vn (lt 0) args=true){K:V->ee->Prop}
 (p':∀r J' N',Q r J' N'->N'<=16/\K (r.hj key) (TL J key J')):Nj P f args J key K:=by
 intro cm nt φ S env n a w R eJ L1 vs x1;refine(h φ S w (λ_=>False) ⟨λb x aa=>by simp[eb]at aa,λb hf x y aa=>by simp[eb]at aa,R.hI.st⟩ (λb x aa=>by simp[eb]at aa) (λb x aa=>by simp[eb]at aa) ai vs x1).mono ?_
 rintro e w' ⟨v,Js,hi,hJ,J',N',rfl,wk,h1,ad,a',d',hy,B',Oi⟩
 obtain⟨vc,p'⟩:=p' _ _ _ wk;have h':=R.extend hy a'.st
 let Ni:q3:=λb=>if key<=b/\b<key+16 then hi (b-key)else φ b
 have ahv:∀b,n b=true->Ni b=φ b:=by grind
 have Qr:∀b,lt N' b=true->Ni (key+b)=hi b:=by
  intro b ai;simp only[lt,u2]at ai
  grind
 have tJ:=h'.ah3 ahv;have t':∀b x,eb (TL J key J') b=some x->(∃c b9,b=key+c/\eb J' c=some b9/\x=b9.hj key)\/eb J b=some x:=by
  intro b x aa;rw[ae9]at aa
  grind
 have Yb:∀c b9,eb J' c=some b9->(Ni (key+c)).2≠0->w.heap.size<=(Ni (key+c)).1:=by grind
 have Qp:∀b x,eb J b=some x->(Ni b).2≠0->(Ni b).1<w.heap.size:=by
  intro b x aa h0;rw[ahv b (R.vi b x aa).1]at h0⊢;exact(R.hI.blk b x aa).Q7 h0
 refine⟨v,Js.hj key,Ni,hJ,TL J key J',rfl,p',jJ.hj Qr ad h1,V.ZV vc ad,⟨⟨λb x aa=>?_,λb hf x y aa bo hn h0 BJ=>?_,a'.st⟩,tJ.L0,tJ.Np,λk g v ar a8=>V.MV (λ_ h=>TF h) (tJ.LZ k g v ar a8),λb x aa=>?_,tJ.size,tJ.defers,tJ.ext,λb x aa h0=>?_,tJ.fix,λb ai=>TF (tJ.OU b ai)⟩⟩
 . rcases t' b x aa with⟨c,b9,rfl,a7,rfl⟩|aa
   . have u':=a'.blk c b9 a7;have Ll:=d' c b9 a7;have ep:=Qr c (by simp[lt];exact Ll.1);cases b9 with
     |box cs=>
      obtain⟨M3,vs,E,ha,hg,hQ⟩:=u';simp only[hF.hj,o1,ep];refine⟨M3,vs,E,ha,?_,hQ⟩;have sa:=Ll.2;simp only[hF.cv,qa]at sa;have:=hg.imp (R':=λc v=>fJ Ni w' hJ (C.hj key c) v) λc v a7 al=>fJ.hj Qr (sa c a7) al
      exact this.Yi λ_ _ h=>h
     |arr sz es=>simp only[hF.hj,o1,ep];exact u'
     |set ks=>simp only[hF.hj,o1,ep];exact u'
     |buf E s=>simp only[hF.hj,o1,ep];exact u'
     |hZ E c=>
      obtain⟨M3,⟨p,v,ha,hg,hQ⟩,oi⟩:=u';simp only[hF.hj,o1,ep];exact⟨M3,⟨p,v,ha,hg,fJ.hj Qr (by simpa[hF.cv]using Ll.2) hQ⟩,oi⟩
     |kx sz es i o c=>
      obtain⟨h1,⟨vs,E,ha,hg,hQ,v,oi,te⟩,q'⟩:=u';simp only[hF.hj,o1,ep];exact⟨h1,⟨vs,E,ha,hg,hQ,v,oi,fJ.hj Qr (by simpa[hF.cv]using Ll.2) te⟩,q'⟩
   . exact tJ.hI.blk b x aa
 . rcases t' b x aa with⟨c,b9,rfl,a7,rfl⟩|aa<;>rcases t' hf y bo with⟨vJ,Qc,rfl,NS,rfl⟩|bo
   . have ep:=Qr c (by simp[lt];exact(d' c b9 a7).1);have hp:=Qr vJ (by simp[lt];exact(d' vJ Qc NS).1);rw[ep]at h0⊢;rw[hp]at BJ⊢;exact a'.inj c vJ b9 Qc a7 NS (by omega) h0 BJ
   . have:=Yb c b9 a7 h0;have:=Qp hf y bo BJ;omega
   . have:=Yb vJ Qc NS BJ;have:=Qp b x aa h0;omega
   . exact tJ.hI.inj b hf x y aa bo hn h0 BJ
 . rcases t' b x aa with⟨c,b9,rfl,a7,rfl⟩|aa
   . obtain⟨ha,hg⟩:=d' c b9 a7;refine⟨by simp[CJ];right;omega,?_⟩;cases b9 with
     |box cs=>
      simp only[hF.hj,hF.cv,Vo,qa]at hg⊢;intro c a7;exact C.ZV vc (hg c a7)
     |arr sz es=>rfl
     |set ks=>rfl
     |buf E s=>rfl
     |hZ E c=>simp only[hF.hj,hF.cv]at hg⊢;exact C.ZV vc hg
     |kx sz es i o c=>simp only[hF.hj,hF.cv]at hg⊢;exact C.ZV vc hg
   . obtain⟨ha,hg⟩:=tJ.vi b x aa;exact⟨TF ha,hF.MV (λ_ h=>TF h) hg⟩
 . rcases t' b x aa with⟨c,b9,rfl,a7,rfl⟩|aa
   . exact .inr (Ug R.ext.size (Yb c b9 a7 h0))
   . exact tJ.own b x aa h0
end
end Go.Proofs.YtandcioiaooocaaGreat.Shv
namespace Go.Proofs.YtandcioiaooocaaGreat.Shv
theorem y1.mk {P:Program}{f:Nat}{fn:Func}{c:sK}{Jz:List PO}{J:ee}(c9:P.funcs[f]?=some fn)(a7:fn.body.bind (resolve P fn.ntmps)=some c)(al:N3 P fn.results.toList=some Jz)
 {args:List V}{nt:Nat}(abk:fn.ntmps=nt)(eJ:args.length<=nt){k:Nat}{Q:V->ee->Nat->Prop}(h:kc P nt k c (KW 0 args) J k (al5 Jz Q)):y1 P f args J k Q:=by
 subst abk;obtain⟨code,h1,ad⟩:=abI.1 a7;exact y1.ap7 c9 h1 ad al eJ h
end Go.Proofs.YtandcioiaooocaaGreat.Shv
namespace Go.Proofs.YtandcioiaooocaaGreat.Shv
set_option linter.all false
section
open Go
def C.hX(f:Nat->Nat):C->C
 |.ptr b o=>.ptr (f b) o
 |.k' b sz i o=>.k' (f b) sz i o
 |.arr b sz off len=>.arr (f b) sz off len
 |.J0 b sz off len=>.J0 (f b) sz off len
 |.mp b=>.mp (f b)
 |.y2 b=>.y2 (f b)
 |.lJ b len=>.lJ (f b) len
 |.fn g caps=>.fn g (caps.map f)
 |c=>c
def V.hX(f:Nat->Nat):V->V
 |.c x=>.c (x.hX f)
 |.agg cs=>.agg (cs.map (C.hX f))
 |.e2 vs=>.e2 (go f vs)
where go (f:Nat->Nat):List V->List V
 |[]=>[]
 |v::vs=>v.hX f::go f vs
def hF.hX(f:Nat->Nat):hF->hF
 |.box cs=>.box (cs.map (C.hX f))
 |.arr sz es=>.arr sz es
 |.set ks=>.set ks
 |.buf E s=>.buf E s
 |.hZ E c=>.hZ E (c.hX f)
 |.kx sz es i o c=>.kx sz es i o (c.hX f)
def We(J:ee):ey->ee
 |[]=>J
 |b::r=>N1 (We J r) b
theorem Xp{J:ee}:∀{bs:ey} {b:Nat},eb (We J bs) b=if b∈bs then none else eb J b
 |[],b=>by simp[We]
 |c::r,b=>by
  simp only[We,li,Xp (bs:=r)]
  grind
def back(bs:ey)(key:Nat)(b:Nat):Nat:=(bs[b]?).getD (key+(b-bs.length))
def M6(J:ee)(bs:ey)(f:Nat->Nat):ee->ee
 |[]=>We J bs
 |(b,x)::r=>qJ (M6 J bs f r) (f b) (x.hX f)
theorem as0{J:ee}{bs:ey}{f:Nat->Nat}:∀{hU:ee} {c:Nat} {x:hF},eb (M6 J bs f hU) c=some x->(∃b b9,c=f b/\eb hU b=some b9/\x=b9.hX f)\/(c ∉ bs/\eb J c=some x)
 |[],c,x,h=>by
  simp only[M6,Xp]at h
  grind
 |(b,y)::r,c,x,h=>by
  simp only[M6,n2]at h;split at h
  . rename_i ai;cases h;exact .inl ⟨b,y,ai.symm,by simp[eb],rfl⟩
  . rename_i ai;rcases as0 h with⟨hf,b9,h1,ad,a'⟩|h
    . refine .inl ⟨hf,b9,h1,?_,a'⟩;simp only[eb]
      grind
    grind
section
variable {P:Program}{cm:K5}{nt kk:Nat}{φ:q3}{S hJ:r'}{env:hc}{J:ee}{N key:Nat}{n:Nat->Bool}{a:Act}{w w':World}{f:Nat->Nat}
theorem fJ.hX{hi:q3}{n:Nat->Bool}(kJ:∀b,n b=true->hi (f b)=φ b){c:C}{v:Value}(ai:c.cv n=true)(h:fJ φ w S c v):fJ hi w S (c.hX f) v:=by
 cases c with
 |ptr b o=>simp only[C.cv]at ai;simp only[C.hX,fJ,kJ b ai];exact h
 |k' b sz i o=>simp only[C.cv]at ai;simp only[C.hX,fJ,kJ b ai];exact h
 |arr b sz off len=>simp only[C.cv]at ai;simp only[C.hX,fJ,kJ b ai];exact h
 |J0 b sz off len=>simp only[C.cv]at ai;simp only[C.hX,fJ,kJ b ai];exact h
 |mp b=>simp only[C.cv]at ai;simp only[C.hX,fJ,kJ b ai];exact h
 |y2 b=>simp only[C.cv]at ai;simp only[C.hX,fJ,kJ b ai];exact h
 |lJ b len=>simp only[C.cv]at ai;simp only[C.hX,fJ,kJ b ai];exact h
 |fn g caps=>
  simp only[C.cv,qa]at ai;simp only[C.hX,fJ]at h⊢;simp_all
 |_=>exact h
theorem am5:∀{vs:List V} {i:Nat},(V.hX.go f vs)[i]?=(vs[i]?).map (V.hX f)
 |[],i=>by simp[V.hX.go]
 |v::vs,0=>by simp[V.hX.go]
 |v::vs,i+1=>by simp[V.hX.go,am5]
theorem amj:∀{vs:List V},(V.hX.go f vs).length=vs.length
 |[]=>rfl
 |v::vs=>by simp[V.hX.go,amj]
theorem jJ.hX{hi:q3}{n:Nat->Bool}(kJ:∀b,n b=true->hi (f b)=φ b){v:V}{x:Value}(ai:v.cv n=true)(h:jJ φ w S v x):jJ hi w S (v.hX f) x:=by
 induction h with
 |c h=>exact .c (fJ.hX kJ (by simpa[V.cv]using ai) h)
 | @agg cs vs h=>
  simp only[V.cv,qa]at ai;refine .agg ?_;have:=h.imp (R':=λc v=>fJ hi w S (C.hX f c) v) λc v a7 al=>fJ.hX kJ (ai c a7) al
  exact this.Yi λ_ _ h=>h
 |e2 vs xs ar h ih=>
  refine .e2 _ xs (by rw[amj];exact ar) ?_;intro i v x ch aa;rw[am5,e0]at ch;obtain⟨v0,ob,rfl⟩:=ch;exact ih i v0 x ob aa (VL (by simpa[V.cv]using ai) ob)
theorem C.ZD{n m:Nat->Bool}(c9:∀b,m b=true->n (f b)=true){c:C}(h:c.cv m=true):(c.hX f).cv n=true:=by
 cases c<;>simp only[C.hX,C.cv,qa,PG]at h⊢
 . exact c9 _ h
 . exact c9 _ h
 . exact c9 _ h
 . exact c9 _ h
 . exact c9 _ h
 . exact c9 _ h
 . exact c9 _ h
 grind
theorem V.ZD{n m:Nat->Bool}(c9:∀b,m b=true->n (f b)=true):∀{v:V},v.cv m=true->(v.hX f).cv n=true
 |.c x,h=>by simp only[V.hX,V.cv]at h⊢;exact C.ZD c9 h
 |.agg cs,h=>by simp only[V.hX,V.cv,Vo,qa]at h⊢;intro c a7;exact C.ZD c9 (h c a7)
 |.e2 vs,h=>by simp only[V.hX,V.cv]at h⊢;exact go vs h
where go:∀vs,V.cv.V.vn m vs=true->V.cv.V.vn n (V.hX.go f vs)=true
 |[],_=>rfl
 |v::vs,h=>by simp only[V.hX.go,V.cv.V.vn,h5]at h⊢;exact⟨V.ZD c9 h.1,go vs h.2⟩
theorem ga.aC8{B:Nat->Prop}(R:ga cm nt φ S env J n a w)(e:Rk B S hJ w w')(qy:∀b j,hJ b j->b<w'.heap.size)(apg:∀b x,eb J b=some x->(φ b).2≠0->¬B (φ b).1)(u':∀b,B b->cm.B b\/cm.abV.heap.size<=b):ga cm nt φ hJ env J n a w':=by
 have ak:∀b x,eb J b=some x->(φ b).2≠0->w'.heap[(φ b).1]?=w.heap[(φ b).1]?:=λb x aa h0=>e.block _ ((R.hI.blk b x aa).Q7 h0) (apg b x aa h0)
 have E1:∀b x,eb J b=some x->(φ b).2≠0->∀j,¬hJ (φ b).1 j:=by
  intro b x aa h0 j ea;have ai:=R.hI.blk b x aa;rcases e.ZW _ _ ea with h|h|h
  . exact ai.Yj h0 j h
  . grind
  grind
 refine⟨⟨λb x aa=>?_,R.hI.inj,qy⟩,λk g v ar a8=>?_,R.Np,R.LZ,R.vi,R.size,R.defers,?_,R.own,R.fix,R.OU⟩
 . have ai:=R.hI.blk b x aa;cases x with
   |box cs=>
    obtain⟨h0,vs,E,h1,ad,a'⟩:=ai;refine⟨h0,vs,E,(ak _ _ aa h0).trans h1,ad.imp λc v a7 al=>fJ.mono (n:=λ_=>true) e.mono (λ_ _=>rfl) (C.UY _) al,E1 b _ aa h0⟩
   |arr sz es=>
    obtain⟨h1,ad,a',d',hy⟩:=ai;refine⟨h1,ad,a',d',λh0=>?_⟩;obtain⟨vs,E,ha,hg,hQ,oi⟩:=hy h0;exact⟨vs,E,(ak _ _ aa h0).trans ha,hg,λi j pJ t he ht=>let⟨v,ch,al⟩:=hQ i j pJ t he ht;⟨v,ch,hY.mono e.mono al⟩,E1 b _ aa h0⟩
   |set ks=>
    obtain⟨h0,⟨es,c,h1,ad⟩,a'⟩:=ai;exact⟨h0,⟨es,c,(ak _ _ aa h0).trans h1,ad⟩,E1 b _ aa h0⟩
   |buf E s=>
    obtain⟨h1,ad,a'⟩:=ai;refine⟨h1,ad,λh0=>?_⟩
    grind
   |hZ E c=>
    obtain⟨h0,⟨p,v,h1,ad,a'⟩,d'⟩:=ai;exact⟨h0,⟨p,v,(ak _ _ aa h0).trans h1,ad,fJ.mono (n:=λ_=>true) e.mono (λ_ _=>rfl) (C.UY _) a'⟩,E1 b _ aa h0⟩
   |kx sz es i o c=>
    obtain⟨⟨h1,ad,a',d',hy,B'⟩,⟨vs,E,ha,hg,hQ,v,oi,te⟩,q'⟩:=ai;exact⟨⟨h1,ad,a',d',hy,B'⟩,⟨vs,E,(ak _ _ aa (by omega)).trans ha,hg,λi j pJ t he ht eJ=>let⟨v,ch,al⟩:=hQ i j pJ t he ht eJ;⟨v,ch,hY.mono e.mono al⟩,v,oi,fJ.mono (n:=λ_=>true) e.mono (λ_ _=>rfl) (C.UY _) te⟩,E1 b _ aa (by omega)⟩
 . obtain⟨x,aa,al⟩:=R.L0 k g v ar a8;exact⟨x,aa,jJ.mono e.mono (λ_ _=>rfl) (R.LZ k g v ar a8) al⟩
 . refine⟨e.os.trans R.ext.os,e.tape.trans R.ext.tape,e.output.trans R.ext.output,Ug R.ext.size e.size,λb e' ai=>?_,R.ext.mono.trans e.mono,λb j ea=>?_⟩
   . refine(e.block b (Uc e' R.ext.size) λh=>?_).trans (R.ext.block b e' ai)
     grind
   . rcases e.ZW _ _ ea with h|h|h
     . exact R.ext.ZW b j h
     . grind
     . exact .inr (.inr (Ug R.ext.size h))
theorem Nj.raw {fn:Nat}{args:List V}{bs:ey}{Q:V->ee->Nat->Prop}(hL:bs.Nodup)(e':∀b,b∈bs->b<key)(h:y1 P fn (args.map (V.hE bs)) (JX bs J 0 bs) bs.length Q){K:V->ee->Prop}
 (p':∀r J' N',Q r J' N'->N'<=bs.length+16/\K (r.hX (back bs key)) (M6 J bs (back bs key) J')):(∀b,b∈bs->n b=true)->∀cm nt φ S env a w,ga cm nt φ S env J n a w->(∀b,key<=b->b<key+16->n b=false)->V.cv.V.vn n args=true->∀vs:List Value,er (jJ φ w S) args vs->
 Calls P fn vs.toArray w λe w'=>∃v r hi hJ J',e= .returned v/\K r J'/\jJ hi w' hJ r v/\r.cv (CJ n key)=true/\ga cm nt hi hJ env J' (CJ n key) a w':=by
 intro OR cm nt φ S env a w R eJ L1 vs x1
 let Yy:q3:=λi=>φ ((bs[i]?).getD 0)
 have ahu:∀(i:Nat) b,bs[i]?=some b->Yy i=φ b:=by intro i b h;simp[Yy,h]
 let B:Nat->Prop:=λβ=>∃b x,b∈bs/\eb J b=some x/\(φ b).2≠0/\β=(φ b).1
 have P5:∀b x,eb (JX bs J 0 bs) b=some x->∃c b9,bs[b]?=some c/\eb J c=some b9/\x=b9.hE bs:=by
  intro b x aa;obtain⟨j,c,b9,rfl,ad,a',rfl⟩:=Xo aa
  grind
 have LN:Y5 Yy w S (JX bs J 0 bs):=by
  refine⟨λb x aa=>?_,λb hf x y aa bo hn h0 BJ=>?_,R.hI.st⟩
  . obtain⟨c,b9,ad,a',rfl⟩:=P5 b x aa;exact o1.hE ahu ad (R.hI.blk c b9 a')
  . obtain⟨c,b9,ad,a',rfl⟩:=P5 b x aa;obtain⟨vJ,Qc,XZ,agQ,rfl⟩:=P5 hf y bo;rw[ahu b c ad]at h0⊢;rw[ahu hf vJ XZ]at BJ⊢;refine R.hI.inj c vJ b9 Qc a' agQ ?_ h0 BJ;intro e;subst e;obtain⟨a1,b1⟩:=pv.1 ad;obtain⟨a2,b2⟩:=pv.1 XZ;have aJ:=ahR.1 hL
    grind
 have Nq:er (jJ Yy w S) (args.map (V.hE bs)) vs:=x1.Yi λ_ _=>jJ.hE ahu
 have Lj:V.cv.V.vn (lt bs.length) (args.map (V.hE bs))=true:=by
  refine aag λi v ch=>?_
  rw[WA,e0]at ch;obtain⟨v0,_,rfl⟩:=ch;exact V.Qy v0
 refine(h Yy S w B LN (λb x aa=>?_) (λb x aa h0=>?_) Lj vs Nq).mono ?_
 . obtain⟨c,b9,ad,a',rfl⟩:=P5 b x aa;refine⟨(pv.1 ad).1,?_⟩;cases b9 with
   |box cs=>simp only[hF.hE,hF.cv,Vo,qa];intro c _;exact C.Qy c
   |arr sz es=>rfl
   |set ks=>rfl
   |buf E s=>rfl
   |hZ E c=>exact C.Qy c
   |kx sz es i o c=>exact C.Qy c
 . obtain⟨c,b9,ad,a',rfl⟩:=P5 b x aa;rw[ahu b c ad]at h0⊢;exact⟨c,b9,F' ad,a',h0,rfl⟩
 rintro e w' ⟨v,Js,hi,hJ,J',N',rfl,wk,h1,ad,a',d',hy,B',Oi⟩
 obtain⟨vc,p'⟩:=p' _ _ _ wk
 have ax':∀b,B b->cm.B b\/cm.abV.heap.size<=b:=by
  rintro β ⟨b,x,_,aa,h0,rfl⟩
  exact R.own b x aa h0
 have afx:ga cm nt φ S env (We J bs) n a w:=by
  have JM:∀b x,eb (We J bs) b=some x->b ∉ bs/\eb J b=some x:=by
   intro b x aa;rw[Xp]at aa
   grind
  exact⟨⟨λb x aa=>R.hI.blk b x (JM b x aa).2,λb hf x y aa bo=>R.hI.inj b hf x y (JM b x aa).2 (JM hf y bo).2,R.hI.st⟩,R.L0,R.Np,R.LZ,λb x aa=>R.vi b x (JM b x aa).2,R.size,R.defers,R.ext,λb x aa=>R.own b x (JM b x aa).2,R.fix,R.OU⟩
 have apg:∀b x,b ∉ bs->eb J b=some x->(φ b).2≠0->¬B (φ b).1:=by
  rintro b x OR aa h0 ⟨c,y,a7,bo,BJ,he⟩
  exact R.hI.inj b c x y aa bo (λe=>OR (e▸a7)) h0 BJ he
 have h':=afx.aC8 hy a'.st (λb x aa h0=>by
  rw[Xp]at aa
  grind) ax'
 let Ni:q3:=λb=>if key<=b/\b<key+16 then hi (bs.length+(b-key))else φ b
 have ahv:∀b,n b=true->Ni b=φ b:=by grind
 have Qr:∀b,lt N' b=true->Ni (back bs key b)=hi b:=by
  intro b ai;simp only[lt,u2]at ai;unfold back
  grind
 have ag5:∀b,lt N' b=true->CJ n key (back bs key b)=true:=by
  intro b ai;simp only[lt,u2]at ai;unfold back;cases a8:bs[b]? with
  |some c=>simp only[WC];exact TF (OR c (F' a8))
  |none=>
   have ayh:=abH.1 a8;simp only[Option.getD_none,CJ,Oz,h5,u2];right;omega
 have tJ:=h'.ah3 ahv;have t':∀b x,eb (M6 J bs (back bs key) J') b=some x->(∃c b9,b=back bs key c/\eb J' c=some b9/\x=b9.hX (back bs key))\/(b ∉ bs/\eb J b=some x):=λb x aa=>as0 aa
 have ag1:∀b x,b ∉ bs->eb J b=some x->eb (We J bs) b=some x:=by intro b x OR aa;rw[Xp,cx OR];exact aa
 have Yb:∀c b9,eb J' c=some b9->(Ni (back bs key c)).2≠0->B (Ni (back bs key c)).1\/w.heap.size<=(Ni (back bs key c)).1:=by
  intro c b9 a7 h0;rw[Qr c (by simp[lt];exact(d' c b9 a7).1)]at h0⊢
  grind
 have Qp:∀b x,b ∉ bs->eb J b=some x->(Ni b).2≠0->(Ni b).1<w.heap.size/\¬B (Ni b).1:=by
  intro b x OR aa h0;rw[ahv b (R.vi b x aa).1]at h0⊢;exact⟨(R.hI.blk b x aa).Q7 h0,apg b x OR aa h0⟩
 refine⟨v,Js.hX (back bs key),Ni,hJ,M6 J bs (back bs key) J',rfl,p',jJ.hX Qr ad h1,V.ZD ag5 ad,⟨⟨λb x aa=>?_,λb hf x y aa bo hn h0 BJ=>?_,a'.st⟩,tJ.L0,tJ.Np,λk g v ar a8=>V.MV (λ_ h=>TF h) (tJ.LZ k g v ar a8),λb x aa=>?_,tJ.size,tJ.defers,tJ.ext,λb x aa h0=>?_,tJ.fix,λb ai=>TF (tJ.OU b ai)⟩⟩
 . rcases t' b x aa with⟨c,b9,rfl,a7,rfl⟩|⟨OR,aa⟩
   . have u':=a'.blk c b9 a7;have Ll:=d' c b9 a7;have ep:=Qr c (by simp[lt];exact Ll.1);cases b9 with
     |box cs=>
      obtain⟨M3,vs,E,ha,hg,hQ⟩:=u';simp only[hF.hX,o1,ep];refine⟨M3,vs,E,ha,?_,hQ⟩;have sa:=Ll.2;simp only[hF.cv,qa]at sa;have:=hg.imp (R':=λc v=>fJ Ni w' hJ (C.hX (back bs key) c) v) λc v a7 al=>fJ.hX Qr (sa c a7) al
      exact this.Yi λ_ _ h=>h
     |arr sz es=>simp only[hF.hX,o1,ep];exact u'
     |set ks=>simp only[hF.hX,o1,ep];exact u'
     |buf E s=>simp only[hF.hX,o1,ep];exact u'
     |hZ E c=>
      obtain⟨M3,⟨p,v,ha,hg,hQ⟩,oi⟩:=u';simp only[hF.hX,o1,ep];exact⟨M3,⟨p,v,ha,hg,fJ.hX Qr (by simpa[hF.cv]using Ll.2) hQ⟩,oi⟩
     |kx sz es i o c=>
      obtain⟨h1,⟨vs,E,ha,hg,hQ,v,oi,te⟩,q'⟩:=u';simp only[hF.hX,o1,ep];exact⟨h1,⟨vs,E,ha,hg,hQ,v,oi,fJ.hX Qr (by simpa[hF.cv]using Ll.2) te⟩,q'⟩
   . exact tJ.hI.blk b x (ag1 b x OR aa)
 . rcases t' b x aa with⟨c,b9,rfl,a7,rfl⟩|⟨OR,aa⟩<;>rcases t' hf y bo with⟨vJ,Qc,rfl,NS,rfl⟩|⟨ayC,bo⟩
   . have ep:=Qr c (by simp[lt];exact(d' c b9 a7).1);have hp:=Qr vJ (by simp[lt];exact(d' vJ Qc NS).1);rw[ep]at h0⊢;rw[hp]at BJ⊢;exact a'.inj c vJ b9 Qc a7 NS (by rintro rfl;exact hn rfl) h0 BJ
   . obtain⟨ha,hg⟩:=Qp hf y ayC bo BJ;rcases Yb c b9 a7 h0 with h|h
     . intro e;rw[e]at h;exact hg h
     . omega
   . obtain⟨ha,hg⟩:=Qp b x OR aa h0;rcases Yb vJ Qc NS BJ with h|h
     . intro e;rw[<-e]at h;exact hg h
     . omega
   . exact tJ.hI.inj b hf x y (ag1 b x OR aa) (ag1 hf y ayC bo) hn h0 BJ
 . rcases t' b x aa with⟨c,b9,rfl,a7,rfl⟩|⟨OR,aa⟩
   . obtain⟨ha,hg⟩:=d' c b9 a7;refine⟨ag5 c (by simp[lt];exact ha),?_⟩;cases b9 with
     |box cs=>
      simp only[hF.hX,hF.cv,Vo,qa]at hg⊢;intro c a7;exact C.ZD ag5 (hg c a7)
     |arr sz es=>rfl
     |set ks=>rfl
     |buf E s=>rfl
     |hZ E c=>simp only[hF.hX,hF.cv]at hg⊢;exact C.ZD ag5 hg
     |kx sz es i o c=>simp only[hF.hX,hF.cv]at hg⊢;exact C.ZD ag5 hg
   . obtain⟨ha,hg⟩:=tJ.vi b x (ag1 b x OR aa);exact⟨TF ha,hF.MV (λ_ h=>TF h) hg⟩
 . rcases t' b x aa with⟨c,b9,rfl,a7,rfl⟩|⟨OR,aa⟩
   . rcases Yb c b9 a7 h0 with h|h
     . exact ax' _ h
     . exact .inr (Ug R.ext.size h)
   . exact tJ.own b x (ag1 b x OR aa) h0
theorem Nj.aMv {fn:Nat}{args:List V}{bs:ey}{Q:V->ee->Nat->Prop}(hL:bs.Nodup)(e':∀b,b∈bs->b<key)(JV:∀b,b∈bs->∃x,eb J b=some x)(h:y1 P fn (args.map (V.hE bs)) (JX bs J 0 bs) bs.length Q){K:V->ee->Prop}
 (p':∀r J' N',Q r J' N'->N'<=bs.length+16/\K (r.hX (back bs key)) (M6 J bs (back bs key) J')):Nj P fn args J key K:=by
 intro cm nt φ S env n a w R eJ ai vs x1;exact Nj.raw (n:=n) hL e' h p' (λb ai=>let⟨x,aa⟩:=JV b ai;(R.vi b x aa).1) cm nt φ S env a w R eJ ai vs x1
theorem ar6{bs:ey}:∀{l:ey} {i:Nat} {J J':ee},(∀b,b∈l->eb J' b=eb J b)->JX bs J' i l=JX bs J i l
 |[],i,J,J',h=>rfl
 |b::r,i,J,J',h=>by
  simp only[JX];rw[h b (by simp),ar6 λc a7=>h c (by simp[a7])]
theorem ar7{bs:ey}{f:Nat->Nat}:∀{hU:ee} {J J':ee} {c:Nat},(eb (We J' bs) c=eb (We J bs) c)->eb (M6 J' bs f hU) c=eb (M6 J bs f hU) c
 |[],J,J',c,h=>h
 |(b,x)::r,J,J',c,h=>by
  simp only[M6,n2];split
  . rfl
  . exact ar7 h
theorem amG{bs:ey}{key:Nat}:∀{hU:ee} {J:ee} {c:Nat},hU.all (λx=>decide (x.1<bs.length+16))=true->c ∉ bs->¬(key<=c/\c<key+16)->eb (M6 J bs (back bs key) hU) c=eb J c
 |[],J,c,hk,a7,al=>by simp only[M6,Xp,cx a7]
 |(b,x)::r,J,c,hk,a7,al=>by
  simp only[WE,h5,u2]at hk;simp only[M6,n2];rw[cx ?_]
  . exact amG hk.2 a7 al
  . intro e;unfold back at e
    grind
end
variable {xb:ey}
section
variable {P:Program}{cm:K5}{nt kk:Nat}{φ:q3}{S:r'}{env env':hc}{J J' J1:ee}{N key:Nat}{n:Nat->Bool}{a:Act}{w:World}
theorem rJ{x:dy}(h:∀t,t∈x.tmps->look env' t=look env t):x.get env'=x.get env:=by
 cases x with
 |const v=>rfl
 |tmp t=>simp only[dy.get];rw[h t (by simp[dy.tmps])]
theorem ae'{xs:List dy}(h:∀t,t∈xs.flatMap dy.tmps->look env' t=look env t):MY env' xs=MY env xs:=by
 induction xs with
 |nil=>rfl
 |cons x xs ih=>
  simp only[MY];rw[rJ (λt ht=>h t (by simp[ht])),ih (λt ht=>h t (by simp only[WB,Oy];exact .inr ht))]
theorem acj{x:Option dy}(h:∀t,t∈abE x->look env' t=look env t):Ql env' x=Ql env x:=by
 cases x with
 |none=>rfl
 |some x=>simp only[Ql];rw[rJ h]
theorem ar8:∀{ps:List (Nat×Nat×dy)} {cs:List C},(∀t,t∈(ps.flatMap λp=>p.2.2.tmps)->look env' t=look env t)->SG env' cs ps=SG env cs ps
 |[],cs,h=>rfl
 |(o,k,x)::r,cs,h=>by
  simp only[SG];rw[rJ (λt ht=>h t (by simp[ht]))]
  congr 1;funext a;congr 1;funext c
  split
  . rw[ar8 (λt ht=>h t (by simp only[WB,Oy];exact .inr ht))]
  . rfl
theorem amk{sz:Nat}:∀{ps:List (Nat×dy)} {es:List (List T)},(∀t,t∈(ps.flatMap λp=>p.2.tmps)->look env' t=look env t)->Qh env' sz es ps=Qh env sz es ps
 |[],cs,h=>rfl
 |(i,x)::r,es,h=>by
  simp only[Qh];rw[rJ (λt ht=>h t (by simp[ht]))]
  congr 1;funext a;congr 1;funext c;congr 1;funext ts
  split
  . rw[amk (λt ht=>h t (by simp only[WB,Oy];exact .inr ht))]
  . rfl
theorem aHx{o:l1}(h:∀t,t∈o.reads->look env' t=look env t):dx o env' J key=dx o env J key:=by
 cases o<;>simp only[l1.reads,Oy]at h
 case mov x=>simp only[dx];rw[rJ h]
 case pick c x y=>simp only[dx];rw[rJ λt ht=>h t (.inl (.inl ht)),rJ λt ht=>h t (.inl (.inr ht)),rJ λt ht=>h t (.inr ht)]
 case alloc=>rfl
 case box x=>simp only[dx];rw[rJ h]
 case allocA=>rfl
 case b2s x=>simp only[dx];rw[rJ h]
 case allocS=>rfl
 case mkset=>rfl
 case bsliceT e sz len z ps=>simp only[dx];congr 1;funext N8;rw[amk h]
 case lkset x y=>simp only[dx];rw[rJ λt ht=>h t (.inl ht),rJ λt ht=>h t (.inr ht)]
 case upset x y=>simp only[dx];rw[rJ λt ht=>h t (.inl ht),rJ λt ht=>h t (.inr ht)]
 case appendB e k x y=>simp only[dx];rw[rJ λt ht=>h t (.inl ht),rJ λt ht=>h t (.inr ht)]
 case sdata x=>simp only[dx];rw[rJ h]
 case ustr e x y=>simp only[dx];rw[rJ λt ht=>h t (.inl ht),rJ λt ht=>h t (.inr ht)]
 case idxP k x y=>simp only[dx];rw[rJ λt ht=>h t (.inl ht),rJ λt ht=>h t (.inr ht)]
 case slcP k x l i=>simp only[dx];rw[rJ λt ht=>h t (.inl (.inl ht)),acj λt ht=>h t (.inl (.inr ht)),acj λt ht=>h t (.inr ht)]
 case build z ps=>simp only[dx];rw[ar8 h]
 case bslice sz len z ps=>simp only[dx];congr 1;funext N8;rw[amk h]
 case load g k x=>simp only[dx];rw[rJ h]
 case store k x v=>simp only[dx];rw[rJ λt ht=>h t (.inl ht),rJ λt ht=>h t (.inr ht)]
 case nilCheck x=>simp only[dx];rw[rJ h]
 case bin op x y=>simp only[dx];rw[rJ λt ht=>h t (.inl ht),rJ λt ht=>h t (.inr ht)]
 case eqAgg op ks x y=>simp only[dx];rw[rJ λt ht=>h t (.inl ht),rJ λt ht=>h t (.inr ht)]
 case eqBool op x y=>simp only[dx];rw[rJ λt ht=>h t (.inl ht),rJ λt ht=>h t (.inr ht)]
 case eqNil=>rfl
 case not x=>simp only[dx];rw[rJ h]
 case conv k x=>simp only[dx];rw[rJ h]
 case i2s x=>simp only[dx];rw[rJ h]
 case s2s x=>simp only[dx];rw[rJ h]
 case fldA k x=>simp only[dx];rw[rJ h]
 case fld g k m x=>simp only[dx];rw[rJ h]
 case idxA op x y=>simp only[dx];rw[rJ λt ht=>h t (.inl ht),rJ λt ht=>h t (.inr ht)]
 case idxS x y=>simp only[dx];rw[rJ λt ht=>h t (.inl ht),rJ λt ht=>h t (.inr ht)]
 case slcS x l i=>simp only[dx];rw[rJ λt ht=>h t (.inl (.inl ht)),acj λt ht=>h t (.inl (.inr ht)),acj λt ht=>h t (.inr ht)]
 case slc k x l i=>simp only[dx];rw[rJ λt ht=>h t (.inl (.inl ht)),acj λt ht=>h t (.inl (.inr ht)),acj λt ht=>h t (.inr ht)]
 case slc0 x=>simp only[dx];rw[rJ h]
 case mkfn f xs=>simp only[dx];rw[ae' h]
 case ext x i=>simp only[dx];rw[rJ h]
 case len s x=>simp only[dx];rw[rJ h]
 case append sz by' x y=>simp only[dx];rw[rJ λt ht=>h t (.inl ht),rJ λt ht=>h t (.inr ht)]
 case max2 x y=>simp only[dx];rw[rJ λt ht=>h t (.inl ht),rJ λt ht=>h t (.inr ht)]
 case min2 x y=>simp only[dx];rw[rJ λt ht=>h t (.inl ht),rJ λt ht=>h t (.inr ht)]
 case call=>rfl
 rfl
def ye(env:hc)(x:dy):ey:=
 match x.get env with
 |some (_,.c (.ptr b _))=>[b]
 |some (_,.c (.k' b _ _ _))=>[b]
 |some (_,.c (.arr b _ _ _))=>[b]
 |some (_,.c (.J0 b _ _ _))=>[b]
 |some (_,.c (.mp b))=>[b]
 |some (_,.c (.y2 b))=>[b]
 |some (_,.c (.lJ b _))=>[b]
 |_=>[]
def C.KT:C->ey
 |.ptr b _|.k' b _ _ _|.arr b _ _ _|.J0 b _ _ _|.mp b|.y2 b|.lJ b _=>[b]
 |.fn _ caps=>caps
 |_=>[]
def V.KT:V->ey
 |.c x=>x.KT
 |.agg cs=>cs.flatMap C.KT
 |.e2 _=>[]
def SL(env:hc)(args:List dy):ey:=
 args.flatMap λx=>match x.get env with
  |some (_,v)=>v.KT
  |none=>[]
def y'(xb:ey)(o:l1)(env:hc)(key:Nat):ey:=
 match o with
 |.alloc _|.allocA _|.box _|.bslice .. |.mkset=>[key]
 |.allocS .. =>[key,key+1]
 |.lkset x _=>ye env x
 |.upset x _=>ye env x
 |.appendB _ _ x _=>key::ye env x
 |.ustr _ x _=>ye env x
 |.call _ args=>(List.range 16).map (key+·)++(SL env args++xb)
 |.load _ _ x=>ye env x
 |.b2s x=>ye env x
 |.store _ x _=>ye env x
 |.append _ _ x y=>key::(ye env x++ye env y)
 |_=>[]
def k2(xb:ey)(o:l1)(env:hc)(key b:Nat):Bool:=
 match o with
 |.alloc _|.allocA _|.box _|.bslice .. |.mkset=>b==key
 |.allocS .. =>b==key||b==key+1
 |.upset x _=>(ye env x).contains b
 |.appendB _ _ x _=>b==key||(ye env x).contains b
 |.ustr _ x _=>(ye env x).contains b
 |.store _ x _=>(ye env x).contains b
 |.append _ _ x _=>b==key||(ye env x).contains b
 |.call _ args=>(decide (key<=b)&&decide (b<key+16))||(SL env args++xb).contains b
 |_=>false
theorem aGs{o:l1}(eJ:o.neutral=true)(ht:o.OD=false){p v J1}(b6:dx o env J key=some (p,v,J1)):dx o env J' key=some (p,v,J'):=by
 cases o<;>simp only[l1.neutral,l1.OD,reduceCtorEq,y0]at eJ ht<;>simp only[dx,gA,e0,ho]at b6⊢
 all_goals
  (try (obtain⟨a1,h1,b6⟩:=b6;refine⟨a1,h1,?_⟩))
  (try (obtain⟨a2,ad,b6⟩:=b6;refine⟨a2,ad,?_⟩))
  (try (obtain⟨a3,a',b6⟩:=b6;refine⟨a3,a',?_⟩))
  (try dsimp only at b6⊢)
  (try split at b6)
  (try (simp_all;done))
 all_goals first
  |(cases b6;rfl)
  |(cases b6;done)
  |(simp only[e0,ho]at b6⊢;obtain⟨x,h1,ad,a',_⟩:=b6;exact⟨x,h1,ad,a',rfl⟩)
  |(simp only[e0]at b6⊢;obtain⟨x,h1,ad⟩:=b6;simp only[ho]at ad⊢;exact⟨x,h1,ad.1,ad.2.1,trivial⟩)
  |(simp only[tr,hr,ho]at b6⊢;exact⟨b6.1,b6.2.1,b6.2.2.1,trivial⟩)
theorem auh{x:dy}{p:Prop}{b:Nat}(h:x.get env=some (p,.c (.mp b))):ye env x=[b]:=by simp[ye,h]
theorem aGG{x:dy}{p:Prop}{b:Nat}(h:x.get env=some (p,.c (.y2 b))):ye env x=[b]:=by simp[ye,h]
theorem aGH{x:dy}{p:Prop}{b l:Nat}(h:x.get env=some (p,.c (.lJ b l))):ye env x=[b]:=by simp[ye,h]
theorem auv{x:dy}{p:Prop}{b o:Nat}(h:x.get env=some (p,.c (.ptr b o))):ye env x=[b]:=by simp[ye,h]
theorem atF{x:dy}{p:Prop}{b sz i o:Nat}(h:x.get env=some (p,.c (.k' b sz i o))):ye env x=[b]:=by simp[ye,h]
theorem aIa{x:dy}{p:Prop}{b sz i o:Nat}(h:x.get env=some (p,.c (.J0 b sz i o))):ye env x=[b]:=by simp[ye,h]
theorem ajn{x:dy}{p:Prop}{b sz i o:Nat}(h:x.get env=some (p,.c (.arr b sz i o))):ye env x=[b]:=by simp[ye,h]
theorem aGI{o:l1}{p v}(b6:dx o env J key=some (p,v,J1))(ht:∀b,b∈y' xb o env key->eb J' b=eb J b):
 (∃f',dx o env J' key=some (p,v,f')/\∀b,eb f' b=if k2 xb o env key b then eb J1 b else eb J' b)/\∀b,k2 xb o env key b=false->eb J1 b=eb J b:=by
 by_cases abk:o.neutral=true/\o.OD=false
 . have hw:∀b,k2 xb o env key b=false:=by intro b;cases o<;>simp only[l1.neutral,l1.OD,reduceCtorEq,y0,false_and,R1,and_self]at abk<;>rfl
   have:=aeX abk.1 b6;subst this;exact⟨⟨J',aGs abk.1 abk.2 b6,λb=>by rw[hw b];rfl⟩,λb _=>rfl⟩
 . cases o<;>simp only[l1.neutral,l1.OD,reduceCtorEq,y0,false_and,R1,and_self,not_true,not_false_eq_true]at abk
   case alloc cs=>
    simp only[dx,hr,ho]at b6⊢;obtain⟨rfl,rfl,rfl⟩:=b6;refine⟨⟨_,⟨rfl,rfl,rfl⟩,λb=>?_⟩,λb ai=>?_⟩
    . simp only[n2,k2,OX];by_cases h:b=key
      . subst h;simp
      . rw[cx (u4 h),cx h]
    . simp only[k2,Tc]at ai;rw[n2,cx (u4 ai)]
   case allocA cs=>
    simp only[dx,e0,ho]at b6⊢;obtain⟨ts,J7,rfl,rfl,rfl⟩:=b6;refine⟨⟨_,⟨ts,J7,rfl,rfl,rfl⟩,λb=>?_⟩,λb ai=>?_⟩
    . simp only[n2,k2,OX];by_cases h:b=key
      . subst h;simp
      . rw[cx (u4 h),cx h]
    . simp only[k2,Tc]at ai;rw[n2,cx (u4 ai)]
   case b2s x=>
    simp only[dx,gA,e0,ho]at b6⊢;obtain⟨⟨M5,v0⟩,h1,⟨q,s⟩,ad,rfl,rfl,rfl⟩:=b6;refine⟨⟨J',⟨(M5,v0),h1,(q,s),?_,rfl,rfl,rfl⟩,λb=>rfl⟩,λb _=>rfl⟩;dsimp only at ad⊢;unfold V2 at ad⊢;split at ad
    . exact ad
    . exact ad
    . rename_i b off len;rw[ht b (by simp[y',ajn h1])];exact ad
    . rename_i b off len;rw[ht b (by simp[y',aIa h1])];exact ad
    . cases ad
   case box x=>
    simp only[dx,gA,e0,ho]at b6⊢;obtain⟨aqU,h1,cs,ad,rfl,rfl,rfl⟩:=b6;refine⟨⟨_,⟨aqU,h1,cs,ad,rfl,rfl,rfl⟩,λb=>?_⟩,λb ai=>?_⟩
    . simp only[n2,k2,OX];by_cases h:b=key
      . subst h;simp
      . rw[cx (u4 h),cx h]
    . simp only[k2,Tc]at ai;rw[n2,cx (u4 ai)]
   case bslice sz len z ps=>
    simp only[dx,gA,e0,ho]at b6⊢;obtain⟨aqU,h1,cs,ad,rfl,rfl,rfl⟩:=b6;refine⟨⟨_,⟨aqU,h1,cs,ad,rfl,rfl,rfl⟩,λb=>?_⟩,λb ai=>?_⟩
    . simp only[n2,k2,OX];by_cases h:b=key
      . subst h;simp
      . rw[cx (u4 h),cx h]
    . simp only[k2,Tc]at ai;rw[n2,cx (u4 ai)]
   case load g k x=>
    have:=aeX rfl b6;subst this;refine⟨⟨J',?_,λb=>rfl⟩,λb _=>rfl⟩;simp only[dx,gA]at b6⊢;obtain⟨⟨M5,v0⟩,h1,b6⟩:=b6;refine⟨(M5,v0),h1,?_⟩;dsimp only at b6⊢;split at b6
    . rename_i b o;rw[ht b (by simp[y',auv h1])];split at b6
      . rename_i cs sa;simp only[e0]at b6⊢;obtain⟨x,ad,a'⟩:=b6;simp only[ho]at a'⊢;exact⟨x,ad,a'.1,a'.2.1,trivial⟩
      . rename_i E c a7;simp only[tr,hr,ho]at b6⊢;exact⟨b6.1,b6.2.1,b6.2.2.1,trivial⟩
      . cases b6
    . rename_i b sz i o;rw[ht b (by simp[y',atF h1])];split at b6
      . simp only[e0]at b6⊢;obtain⟨x,ad,a'⟩:=b6;simp only[ho]at a'⊢;exact⟨x,ad,a'.1,a'.2.1,trivial⟩
      . split at b6
        . cases b6
        . rename_i a8;rw[cx a8];split at b6
          . rename_i JF;rw[bJ JF];simp only[hr,ho]at b6⊢;exact⟨b6.1,b6.2.1,trivial⟩
          . rename_i JF;rw[cx JF];simp only[e0]at b6⊢;obtain⟨x,ad,a'⟩:=b6;simp only[ho]at a'⊢;exact⟨x,ad,a'.1,a'.2.1,trivial⟩
      . cases b6
    . simp only[e0]at b6⊢;obtain⟨x,ad,a'⟩:=b6;simp only[ho]at a'⊢;exact⟨x,ad,a'.1,a'.2.1,trivial⟩
    . cases b6
   case store k x y=>
    simp only[dx,gA,tr]at b6⊢;obtain⟨⟨M5,v0⟩,h1,d,ad,cs,a',d',b6⟩:=b6;have LJ:∀(b:Nat) (b9:hF),ye env x=[b]->J1=qJ J b b9->(∀c,eb (qJ J' b b9) c=if k2 xb (.store k x y) env key c then eb J1 c else eb J' c)/\∀c,k2 xb (.store k x y) env key c=false->eb J1 c=eb J c:=by
     intro b b9 ai hs;subst hs;refine⟨λc=>?_,λc a7=>?_⟩
     . simp only[k2,ai,Ud,RZ,Qx,OX,n2]
       grind
     . simp only[k2,ai,Ud,RZ,Qx,Tc]at a7;rw[n2,cx (u4 a7)]
    dsimp only at b6⊢;split at b6
    . rename_i b o;have ai:=auv h1;split at b6
      . rename_i ds RN;simp only[tr,hr,ho]at b6;obtain⟨hy,rfl,rfl,B'⟩:=b6;obtain⟨f1,f2⟩:=LJ b _ ai B'.symm;refine⟨⟨_,⟨(M5,.c (.ptr b o)),h1,d,ad,cs,a',d',?_⟩,f1⟩,f2⟩;dsimp only;rw[ht b (by simp[y',ai]),RN];dsimp only;rw[bJ hy]
      . rename_i E KU RN;split at b6
        . rename_i c;simp only[hr,ho]at b6;obtain⟨rfl,rfl,B'⟩:=b6;obtain⟨f1,f2⟩:=LJ b _ ai B'.symm;refine⟨⟨_,⟨(M5,.c (.ptr b 1)),h1,d,ad,_,a',d',?_⟩,f1⟩,f2⟩;dsimp only;rw[ht b (by simp[y',ai]),RN];rfl
        . cases b6
      . cases b6
    . rename_i b sz i o;have ai:=atF h1;split at b6
      . rename_i j2 es EJ;split at b6
        . rename_i c a7;simp only[hr,ho]at b6;obtain⟨rfl,rfl,B'⟩:=b6;obtain⟨f1,f2⟩:=LJ b _ ai B'.symm;refine⟨⟨_,⟨(M5,.c (.k' b sz i o)),h1,d,ad,cs,a',d',?_⟩,f1⟩,f2⟩;dsimp only;rw[ht b (by simp[y',ai]),EJ];dsimp only;rw[a7]
        rename_i a7;simp only[gA,hr,ho]at b6;obtain⟨ts,hy,rfl,rfl,B'⟩:=b6;obtain⟨f1,f2⟩:=LJ b _ ai B'.symm;refine⟨⟨_,⟨(M5,.c (.k' b sz i o)),h1,d,ad,cs,a',d',?_⟩,f1⟩,f2⟩;dsimp only;rw[ht b (by simp[y',ai]),EJ];dsimp only;rw[a7];dsimp only;rw[hy];rfl
      . rename_i j2 es i2 K8 KU EJ;split at b6
        . rename_i c;split at b6
          . rename_i JF;simp only[hr,ho]at b6;obtain⟨rfl,rfl,B'⟩:=b6;obtain⟨f1,f2⟩:=LJ b _ ai B'.symm;refine⟨⟨_,⟨(M5,.c (.k' b sz i o)),h1,d,ad,_,a',d',?_⟩,f1⟩,f2⟩;dsimp only;rw[ht b (by simp[y',ai]),EJ];dsimp only;rw[bJ JF]
          . rename_i JF;simp only[gA,hr,ho]at b6;obtain⟨t,hy,rfl,rfl,B'⟩:=b6;obtain⟨f1,f2⟩:=LJ b _ ai B'.symm;refine⟨⟨_,⟨(M5,.c (.k' b sz i o)),h1,d,ad,_,a',d',?_⟩,f1⟩,f2⟩;dsimp only;rw[ht b (by simp[y',ai]),EJ];dsimp only;rw[cx JF,hy];rfl
        . cases b6
      . cases b6
    . cases b6
   case append sz by' x y=>
    simp only[dx,gA]at b6⊢;obtain⟨⟨M5,v0⟩,h1,⟨d1,d2⟩,ad,b6⟩:=b6;dsimp only at b6;cases adz:Vy v0 d2 with
    |some r=>
     rw[adz]at b6;have adA:=adz;unfold Vy at adA;split at adA
     . rename_i b s1 off len hf s2 Tm Ox;split at adA
       . cases adA;have Wm:=ajn h1;dsimp only at b6;unfold acY at b6;dsimp only at b6;split at b6
         . rename_i Ul es EJ;simp only[hr,ho]at b6;obtain⟨rfl,rfl,rfl⟩:=b6;refine⟨⟨qJ (N1 J' b) key (.arr sz (es.take len++(es.drop Tm).take Ox)),⟨(M5,.c (.arr b s1 off len)),h1,(d1,.c (.J0 hf s2 Tm Ox)),ad,?_⟩,λc=>?_⟩,λc a7=>?_⟩
           . dsimp only;rw[adz];dsimp only;unfold acY;dsimp only;rw[ht b (by simp[y',Wm]),EJ]
           . simp only[n2,li,k2,Wm,Ud,RZ,Qx,Oz,OX];by_cases h:c=key
             . subst h;simp
             . rw[cx (u4 h)];by_cases s':c=b
               . subst s';simp[h,u4 h]
               . rw[cx (u4 s'),cx (by simp[h,s'])]
           . simp only[k2,Wm,Ud,RZ,Qx,Yk,Tc]at a7;rw[n2,li,cx (u4 a7.1),cx (u4 a7.2)]
         . cases b6
       . cases adA
     . cases adA
    |none=>
    rw[adz]at b6;simp only[gA]at b6;obtain⟨ys,a',b6⟩:=b6;have Yg:Ut J' d2=some ys:=by
     unfold Ut at a'⊢;split at a'
     . exact a'
     . exact a'
     . rename_i b j2 off len;rw[ht b (by simp[y',ajn ad])];exact a'
     . cases a'
    split at b6
    . have Wm:ye env x=[]:=by simp[ye,h1]
      simp only[hr,ho]at b6;obtain⟨rfl,rfl,rfl⟩:=b6;refine⟨⟨_,⟨(M5,.c .hN),h1,(d1,d2),ad,by dsimp only;rw[adz];simp only[gA];exact⟨ys,Yg,rfl⟩⟩,λb=>?_⟩,λb ai=>?_⟩
      . simp only[n2,k2,Wm,RZ,Qx,OX];by_cases h:b=key
        . subst h;simp
        . rw[cx (u4 h),cx h]
      . simp only[k2,Wm,RZ,Qx,Tc]at ai;rw[n2,cx (u4 ai)]
    . rename_i b j2 off len;have Wm:=ajn h1;split at b6
      . rename_i aib es EJ;split at b6
        . cases b6
        . rename_i OR;simp only[hr,ho]at b6;obtain⟨rfl,rfl,rfl⟩:=b6
          refine⟨⟨_,⟨(M5,.c (.arr b j2 off len)),h1,(d1,d2),ad,by
           dsimp only;rw[adz];simp only[gA];refine⟨ys,Yg,?_⟩;rw[ht b (by simp[y',Wm]),EJ];dsimp only
           rw[cx OR]⟩,λc=>?_⟩,λc a7=>?_⟩
          . simp only[n2,li,k2,Wm,Ud,RZ,Qx,Oz,OX];by_cases h:c=key
            . subst h;simp
            . rw[cx (u4 h)];by_cases s':c=b
              . subst s';simp[h,u4 h]
              . rw[cx (u4 s'),cx (by simp[h,s'])]
          . simp only[k2,Wm,Ud,RZ,Qx,Yk,Tc]at a7;rw[n2,li,cx (u4 a7.1),cx (u4 a7.2)]
      . cases b6
    . cases b6
   case allocS e e8=>
    simp only[dx,hr,ho]at b6⊢;obtain⟨rfl,rfl,rfl⟩:=b6;refine⟨⟨_,⟨rfl,rfl,rfl⟩,λb=>?_⟩,λb ai=>?_⟩
    . simp only[n2,k2,Oz,OX];by_cases h:key=b
      . rw[bJ h,bJ (.inl h.symm),bJ h]
      . rw[cx h];by_cases s':key+1=b
        . rw[bJ s',bJ (.inr s'.symm),cx h,bJ s']
        . rw[cx s',I2]
    . simp only[k2,Yk,Tc]at ai;rw[n2,cx (u4 ai.1),n2,cx (u4 ai.2)]
   case mkset=>
    simp only[dx,hr,ho]at b6⊢;obtain⟨rfl,rfl,rfl⟩:=b6;refine⟨⟨_,⟨rfl,rfl,rfl⟩,λb=>?_⟩,λb ai=>?_⟩
    . simp only[n2,k2,OX];by_cases h:b=key
      . subst h;simp
      . rw[cx (u4 h),cx h]
    . simp only[k2,Tc]at ai;rw[n2,cx (u4 ai)]
   case lkset x y=>
    have:=aeX rfl b6;subst this;refine⟨⟨J',?_,λb=>rfl⟩,λb _=>rfl⟩;simp only[dx,gA]at b6⊢;obtain⟨⟨M5,v0⟩,h1,⟨d1,d2⟩,ad,b6⟩:=b6;refine⟨(M5,v0),h1,(d1,d2),ad,?_⟩;dsimp only at b6⊢;split at b6
    . rename_i b s;rw[ht b (by simp[y',auh h1])];split at b6
      . simp only[hr,ho]at b6⊢;exact⟨b6.1,b6.2.1,trivial⟩
      . cases b6
    . cases b6
   case upset x y=>
    simp only[dx,gA]at b6⊢;obtain⟨⟨M5,v0⟩,h1,⟨d1,d2⟩,ad,b6⟩:=b6;dsimp only at b6⊢;split at b6
    . rename_i b s;have ai:=auh h1;split at b6
      . rename_i ks NT;simp only[hr,ho]at b6;obtain⟨rfl,rfl,rfl⟩:=b6
        refine⟨⟨_,⟨(M5,.c (.mp b)),h1,(d1,.c (.t (.str s))),ad,by
         dsimp only
         rw[ht b (by simp[y',ai]),NT]⟩,λc=>?_⟩,λc a7=>?_⟩
        . simp only[k2,ai,Ud,RZ,Qx,OX,n2];by_cases h:c=b
          . subst h;simp
          . rw[cx (u4 h),cx h]
        . simp only[k2,ai,Ud,RZ,Qx,Tc]at a7;rw[n2,cx (u4 a7)]
      . cases b6
    . cases b6
   case appendB e by' x y=>
    simp only[dx,gA]at b6⊢;obtain⟨⟨M5,v0⟩,h1,⟨d1,d2⟩,ad,b6⟩:=b6;dsimp only at b6⊢;split at b6
    . rename_i b len s;have ai:=aGH h1;split at b6
      . rename_i pJ es EJ;simp only[hr,ho]at b6;obtain⟨rfl,rfl,rfl⟩:=b6
        refine⟨⟨_,⟨(M5,.c (.lJ b len)),h1,(d1,.c (.t (.str s))),ad,by
         dsimp only
         rw[ht b (by simp[y',ai]),EJ]⟩,λc=>?_⟩,λc a7=>?_⟩
        . simp only[n2,li,k2,ai,Ud,RZ,Qx,Oz,OX];by_cases h:c=key
          . subst h;simp
          . rw[cx (u4 h)];by_cases s':c=b
            . subst s';simp[h,u4 h]
            . rw[cx (u4 s'),cx (by simp[h,s'])]
        . simp only[k2,ai,Ud,RZ,Qx,Yk,Tc]at a7;rw[n2,li,cx (u4 a7.1),cx (u4 a7.2)]
      . cases b6
    . cases b6
   case ustr e x y=>
    simp only[dx,gA]at b6⊢;obtain⟨⟨M5,v0⟩,h1,⟨d1,d2⟩,ad,b6⟩:=b6;dsimp only at b6⊢;split at b6
    . rename_i b m;have ai:=aGG h1;split at b6
      . rename_i pJ es EJ;simp only[hr,ho]at b6;obtain⟨rfl,rfl,rfl⟩:=b6
        refine⟨⟨_,⟨(M5,.c (.y2 b)),h1,(d1,.c (.t (.int .i64 m))),ad,by
         dsimp only
         rw[ht b (by simp[y',ai]),EJ]⟩,λc=>?_⟩,λc a7=>?_⟩
        . simp only[li,k2,ai,Ud,RZ,Qx,OX];by_cases h:c=b
          . subst h;simp
          . rw[cx (u4 h),cx h]
        . simp only[k2,ai,Ud,RZ,Qx,Tc]at a7;rw[li,cx (u4 a7)]
      . cases b6
    . cases b6
   all_goals simp[dx]at b6
inductive K' (xb:ey)(P:Program)(o:h2)(key:Nat)(env:hc)(J:ee)(g:Bool)(v:V):ee->Prop
 |op {p:Prop} {J2:ee} (a8:mt env o.guard = some g) (ay:o.op.drawn = true) (b6:dx o.op env J key = some (p,v,J2)) (aJ:g = true->p) (hn:o.op.neutral = true\/g = true):
  K' xb P o key env J g v (if o.op.neutral then J else J2)
 |skip (a8:mt env o.guard=some g) (c9:g=false):K' xb P o key env J g v J
 |call {p:Prop} {f:Nat} {args:List dy} {vs:List V} (cJ:o.op = .call f args) (a8:mt env o.guard = some g) (b6:MY env args = some (p,vs)) (aJ:g = true->p/\V.cv.V.vn (lt 0) vs = true/\v.cv (lt 0) = true/\y1 P f vs [] 0 (λJs _ _=>Js = v)):
  K' xb P o key env J g v J
 |OK {p q:Prop} {f:Nat} {x:dy} {args:List dy} {vs:List V} (cJ:o.op = .OK x args) (eJ:o.guard = none) (I0:g = true) (aa:x.get env = some (q, .c (.fn f []))) (e1:q) (ai:N6 P f = true) (b6:MY env args = some (p,vs))
  (aJ:p/\V.cv.V.vn (lt 0) vs=true/\v.cv (lt 0)=true/\y1 P f vs [] 0 (λJs _ _=>Js=v)):K' xb P o key env J g v J
 |own {p:Prop} {f:Nat} {args:List dy} {vs:List V} {r:V} {s:ee} {M:Nat} (cJ:o.op = .call f args) (a8:mt env o.guard = some g) (eJ:o.guard = none) (b6:MY env args = some (p,vs)) (aJ:p) (ai:V.cv.V.vn (lt 0) vs = true) (Lh:M<=16) (hk:s.all (λx=>x.1<16) = true)
  (a7:y1 P f vs [] 0 (λJs Yr Z8=>Js=r/\Yr=s/\Z8=M)) (ch:v=r.hj key):K' xb P o key env J g v (TL J key s)
 |raw {p:Prop} {f:Nat} {args:List dy} {vs:List V} {bs:ey} {r:V} {s:ee} {M:Nat} (cJ:o.op = .call f args) (a8:mt env o.guard = some g) (I0:g = true) (b6:MY env args = some (p,vs)) (aJ:p)
  (hL:bs.Nodup) (e':∀b,b∈bs->b<key) (JV:∀b,b∈bs->∃x,eb J b=some x) (JM:∀b,b∈bs->b∈SL env args++xb) (Lh:M<=bs.length+16) (hk:s.all (λx=>decide (x.1<bs.length+16))=true)
  (a7:y1 P f (vs.map (V.hE bs)) (JX bs J 0 bs) bs.length (λJs Yr Z8=>Js=r/\Yr=s/\Z8=M)) (ch:v=r.hX (back bs key)):K' xb P o key env J g v (M6 J bs (back bs key) s)
theorem K'.MS{o:h2}{g:Bool}{v:V}(h:K' xb P o key env J g v J1){K:hc->ee->Prop}(p':K (ii env o.dst g v) J1):MS P o key env J K:=by
 cases h with
 | @op p J2 a8 ay b6 aJ hn=>
  unfold Shv.MS;rw[a8];dsimp only;refine .inr ?_;split
  . rename_i f args cJ;rw[cJ]at b6;simp[dx]at b6
  . rename_i x args cJ;rw[cJ]at b6;simp[dx]at b6
  . rename_i neg x cJ;rw[cJ]at b6;simp[dx]at b6
  grind
 |skip a8 c9=>
  unfold Shv.MS
  grind
 | @call p f args vs cJ a8 b6 aJ=>
  unfold Shv.MS;rw[a8];dsimp only;refine .inr ?_;rw[cJ];dsimp only;rw[b6];dsimp only;split
  . rename_i qs;rw[qs]at a8;simp[mt]at a8;subst a8;obtain⟨h1,ad,a',d'⟩:=aJ rfl;exact⟨h1,Nj.ap8 d' ad a' p'⟩
  . refine .inr ⟨v,λI0=>?_,p'⟩;obtain⟨h1,ad,a',d'⟩:=aJ I0;exact⟨h1,Nj.ap8 d' ad a' ⟨rfl,rfl⟩⟩
 | @OK p q f x args vs cJ eJ I0 aa e1 ai b6 aJ=>
  subst I0;unfold Shv.MS;rw[eJ];simp only[mt];refine .inr ?_;rw[cJ];dsimp only;rw[aa,b6];dsimp only;obtain⟨h1,ad,a',d'⟩:=aJ;simp only[List.map_nil,Ym];exact⟨trivial,ai,e1,h1,Nj.ap8 d' ad a' p'⟩
 | @raw p f args vs bs r s M cJ a8 I0 b6 aJ hL e' JV JM Lh hk a7 ch=>
  subst I0;unfold Shv.MS;rw[a8];dsimp only;refine .inr ?_;rw[cJ];dsimp only;rw[b6];dsimp only;subst ch;have JC:Nj P f vs J key (λJs J'=>K (ii env o.dst true Js) J'):=by
   refine Nj.aMv hL e' JV a7 ?_
   grind
  grind
 | @own p f args vs r s M cJ a8 eJ b6 aJ ai Lh hk a7 ch=>
  unfold Shv.MS;rw[a8];dsimp only;refine .inr ?_;rw[cJ];dsimp only;rw[b6];dsimp only;rw[eJ];dsimp only;rw[eJ]at a8;simp[mt]at a8;subst a8;subst ch;refine⟨aJ,Nj.aMu a7 ai ?_⟩
  grind
theorem aui{o:h2}{t:Nat}(h:t∈o.op.reads):t∈o.rd:=by simp[h2.rd,h]
theorem ae2{o:h2}(h:∀t,t∈o.rd->look env' t=look env t):mt env' o.guard=mt env o.guard:=by
 cases a8:o.guard with
 |none=>rfl
 |some x=>
  obtain⟨t,b⟩:=x;simp only[mt];rw[h t (by simp[h2.rd,a8])]
theorem amC{s:ee}(hk:s.all (λx=>x.1<16)=true){b:Nat}(ai:¬(key<=b/\b<key+16))(J:ee):eb (TL J key s) b=eb J b:=by
 rw[ae9];by_cases h:key<=b
 . rw[bJ h];have:eb s (b-key)=none:=by
    cases hs:eb s (b-key)with
    |none=>rfl
    |some x=>
     exfalso
     have:∀{s:ee} {c:Nat} {x:hF},eb s c=some x->s.all (λx=>x.1<16)=true->c<16:=by
      intro s
      induction s with
      |nil=>intro c x h;simp[eb]at h
      |cons y r ih=>
       obtain⟨k,y⟩:=y;intro c x h k4;simp only[WE,h5,u2]at k4;simp only[eb]at h
       grind
     grind
   rw[this]
 grind
theorem Rt{x:dy}(h:∀t,t∈x.tmps->look env' t=look env t):ye env' x=ye env x:=by
 unfold ye;rw[rJ h]
theorem anq{args:List dy}(h:∀t,t∈args.flatMap dy.tmps->look env' t=look env t):SL env' args=SL env args:=by
 induction args with
 |nil=>rfl
 |cons x r ih=>
  simp only[SL,WB]at ih⊢;rw[rJ (λt ht=>h t (by simp[ht]))]
  grind
theorem aIb{o:l1}(h:∀t,t∈o.reads->look env' t=look env t)(b:Nat):k2 xb o env' key b=k2 xb o env key b:=by
 cases o<;>try rfl
 case store k x v=>simp only[k2];rw[Rt λt ht=>h t (by simp[l1.reads,ht])]
 case append sz by' x y=>simp only[k2];rw[Rt λt ht=>h t (by simp[l1.reads,ht])]
 case upset x y=>simp only[k2];rw[Rt λt ht=>h t (by simp[l1.reads,ht])]
 case appendB e k x y=>simp only[k2];rw[Rt λt ht=>h t (by simp[l1.reads,ht])]
 case ustr e x y=>simp only[k2];rw[Rt λt ht=>h t (by simp[l1.reads,ht])]
 case call f args=>simp only[k2];rw[anq h]
theorem aIc{o:l1}(h:∀t,t∈o.reads->look env' t=look env t):y' xb o env' key=y' xb o env key:=by
 cases o<;>try rfl
 case b2s x=>simp only[y'];rw[Rt λt ht=>h t (by simp[l1.reads,ht])]
 case load g k x=>simp only[y'];rw[Rt λt ht=>h t (by simp[l1.reads,ht])]
 case store k x v=>simp only[y'];rw[Rt λt ht=>h t (by simp[l1.reads,ht])]
 case lkset x y=>simp only[y'];rw[Rt λt ht=>h t (by simp[l1.reads,ht])]
 case upset x y=>simp only[y'];rw[Rt λt ht=>h t (by simp[l1.reads,ht])]
 case appendB e k x y=>simp only[y'];rw[Rt λt ht=>h t (by simp[l1.reads,ht])]
 case ustr e x y=>simp only[y'];rw[Rt λt ht=>h t (by simp[l1.reads,ht])]
 case call f args=>simp only[y'];rw[anq h]
 case append sz by' x y=>simp only[y'];rw[Rt (x:=x) λt ht=>h t (by simp[l1.reads,ht]),Rt (x:=y) λt ht=>h t (by simp[l1.reads,ht])]
theorem K'.local{o:h2}{g:Bool}{v:V}(h:K' xb P o key env J g v J1)(he:∀t,t∈o.rd->look env' t=look env t)(ht:∀b,b∈y' xb o.op env key\/k2 xb o.op env key b=true->eb J' b=eb J b):
 (∃f',K' xb P o key env' J' g v f'/\∀b,eb f' b=if k2 xb o.op env key b then eb J1 b else eb J' b)/\∀b,k2 xb o.op env key b=false->eb J1 b=eb J b:=by
 have adm:∀t,t∈o.op.reads->look env' t=look env t:=λt h=>he t (aui h)
 cases h with
 | @op p J2 a8 ay b6 aJ hn=>
  obtain⟨⟨f',h1,ad⟩,a'⟩:=aGI (J':=J') b6 (λb ai=>ht b (.inl ai));have eJ:o.op.neutral=true->∀b,k2 xb o.op env key b=false:=by intro eJ b;generalize o.op=ap' at eJ;cases ap'<;>simp[l1.neutral]at eJ<;>rfl
  refine⟨⟨_,K'.op (J2:=f') (p:=p) (by rw[ae2 he];exact a8) ay (by rw[aHx adm];exact h1) aJ hn,λb=>?_⟩,λb ai=>?_⟩
  . by_cases Qo:o.op.neutral=true
    . rw[bJ Qo,eJ Qo b];rfl
    . rw[cx Qo,cx Qo];exact ad b
  . by_cases Qo:o.op.neutral=true
    . rw[bJ Qo]
    . rw[cx Qo];exact a' b ai
 |skip a8 c9=>
  refine⟨⟨J',K'.skip (by rw[ae2 he];exact a8) c9,λb=>?_⟩,λb _=>rfl⟩;split
  . rename_i hw;exact ht b (.inr hw)
  . rfl
 | @call p f args vs cJ a8 b6 aJ=>
  refine⟨⟨J',K'.call cJ (by rw[ae2 he];exact a8) (by rw[ae' λt h=>adm t (by rw[cJ];exact h)];exact b6) aJ,λb=>?_⟩,λb _=>rfl⟩;split
  . rename_i hw;exact ht b (.inr hw)
  . rfl
 | @OK p q f x args vs cJ eJ I0 aa e1 ai b6 aJ=>
  refine⟨⟨J',K'.OK cJ eJ I0 (by rw[rJ λt h=>adm t (by rw[cJ];simp[l1.reads,h])];exact aa) e1 ai (by rw[ae' λt h=>adm t (by rw[cJ];simp only[l1.reads,Oy];exact .inr h)];exact b6) aJ,λb=>?_⟩,λb _=>rfl⟩;split
  . rename_i hw;exact ht b (.inr hw)
  . rfl
 | @own p f args vs r s M cJ a8 eJ b6 aJ ai Lh hk a7 ch=>
  refine⟨⟨_,K'.own cJ (by rw[ae2 he];exact a8) eJ (by rw[ae' λt h=>adm t (by rw[cJ];exact h)];exact b6) aJ ai Lh hk a7 ch,λb=>?_⟩,λb L1=>?_⟩
  . by_cases al:key<=b/\b<key+16
    . have hw:k2 xb o.op env key b=true:=by rw[cJ];simp[k2,al.1,al.2]
      rw[bJ hw];have e:=ht b (.inr hw);rw[ae9,ae9,e]
    . rw[amC hk al];split
      . rename_i hw;rw[amC hk al];exact ht b (.inr hw)
      . rfl
  . have al:¬(key<=b/\b<key+16):=by intro h;rw[cJ]at L1;simp[k2,h.1,h.2]at L1
    exact amC hk al J
 | @raw p f args vs bs r s M cJ a8 I0 b6 aJ hL e' JV JM Lh hk a7 ch=>
  have aLT:∀b,b∈SL env args++xb->b∈y' xb o.op env key:=by intro b ai;rw[cJ];simp only[y',Oy];exact .inr (Oy.1 ai)
  have Ol:∀b,b∈bs->eb J' b=eb J b:=λb ai=>ht b (.inl (aLT b (JM b ai)))
  have ayn:∀t,t∈args.flatMap dy.tmps->look env' t=look env t:=λt h=>adm t (by rw[cJ];exact h)
  refine⟨⟨_,K'.raw (bs:=bs) cJ (by rw[ae2 he];exact a8) I0 (by rw[ae' ayn];exact b6) aJ hL e' (λb ai=>by rw[Ol b ai];exact JV b ai) (λb ai=>by rw[anq ayn];exact JM b ai) Lh hk
   (by rw[ar6 Ol];exact a7) ch,λb=>?_⟩,λb L1=>?_⟩
  . by_cases hw:k2 xb o.op env key b=true
    . rw[bJ hw];refine ar7 ?_;rw[Xp,Xp,ht b (.inr hw)]
    . rw[cx hw];have apA:k2 xb o.op env key b=false:=by simpa using hw
      rw[cJ]at apA;simp only[k2,Yk,Bool.and_eq_false_iff,decide_eq_false_iff_not]at apA;refine amG hk (λai=>?_) (by omega);have:=JM b ai;simp[apY,this]at apA
  . rw[cJ]at L1;simp only[k2,Yk,Bool.and_eq_false_iff,decide_eq_false_iff_not]at L1;refine amG hk (λai=>?_) (by omega);have:=JM b ai;simp[apY,this]at L1
def agB(xb:ey)(P:Program):List h2->Nat->hc->ee->(hc->ee->Prop)->Prop
 |[],_,env,J,K=>K env J
 |o::r,key,env,J,K=>∃g v J1,K' xb P o key env J g v J1/\agB xb P r (key+16) (ii env o.dst g v) J1 K
structure WR (xb:ey)(P:Program)(eh:List h2)(N:Nat)(E:Nat->hc)(T:Nat->ee)(G:Nat->Bool)(W:Nat->V):Prop where
 step:∀(i:Nat) o,eh[i]?=some o->K' xb P o (N+16*i) (E i) (T i) (G i) (W i) (T (i+1))/\E (i+1)=ii (E i) o.dst (G i) (W i)
theorem amN:∀{eh:List h2} {key:Nat} {env:hc} {J:ee} {K:hc->ee->Prop},agB xb P eh key env J K->∃E T G W,WR xb P eh key E T G W/\E 0=env/\T 0=J/\K (E eh.length) (T eh.length)
 |[],key,env,J,K,h=>⟨λ_=>env,λ_=>J,λ_=>true,λ_=>.e2 [],⟨λi o h=>by simp at h⟩,rfl,rfl,h⟩
 |o::r,key,env,J,K,h=>by
  obtain⟨g,v,J1,h1,ad⟩:=h;obtain⟨E,T,G,W,al,ep,hp,p'⟩:=amN ad;refine⟨λi=>if i=0 then env else E (i-1),λi=>if i=0 then J else T (i-1),λi=>if i=0 then g else G (i-1),λi=>if i=0 then v else W (i-1),⟨λi ny cJ=>?_⟩,rfl,rfl,by simpa using p'⟩;cases i with
  |zero=>grind
  |succ i=>
   have:=al.step i ny (by simpa using cJ)
   grind
end
end
section
open Go
variable {xb:ey}
theorem an6{p:Nat->Bool}:∀{m:Nat},(∃i,i<m/\p i=true)->∃i,i<m/\p i=true/\∀j,j<m->p j=true->j<=i
 |0,⟨i,h,_⟩=>by omega
 |m+1,⟨i,h1,ad⟩=>by
  cases hm:p m with
  |true=>exact⟨m,by omega,hm,λj ea _=>by omega⟩
  |false=>
   have:i<m:=by grind
   obtain⟨k,a',d',hy⟩:=an6 (m:=m) ⟨i,this,ad⟩
   grind
theorem afr{P:Program}{nt:Nat}{ops:Array Oper}:∀{l:List Oper} {eh:List h2},PU P nt ops l=some eh->eh.length=l.length
 |[],eh,h=>by simp[PU]at h;subst h;rfl
 |o::l,eh,h=>by
  simp only[PU,gA,e0]at h;obtain⟨qi,P2,r,al,rfl⟩:=h;simp[afr al]
theorem amH{P:Program}{nt:Nat}{ops:Array Oper}:∀{l:List Oper} {eh:List h2} {i:Nat} {o:Oper},PU P nt ops l=some eh->l[i]?=some o->∃qi,eh[i]?=some qi/\acM P nt ops o=some qi
 |[],eh,i,o,h,cJ=>by simp at cJ
 |x::l,eh,i,o,h,cJ=>by
  simp only[PU,gA,e0]at h;obtain⟨qi,P2,r,al,rfl⟩:=h;cases i with
  |zero=>simp at cJ;subst cJ;exact⟨qi,rfl,P2⟩
  |succ i=>simpa using amH al (by simpa using cJ)
theorem aml:∀{l:List (h2×ey)} {k i:Nat} {x:h2×ey},ajw k l=true->l[i]?=some x->∀d,d∈x.2->d<k+i
 |[],k,i,x,h,aa,d,ay=>by simp at aa
 |y::r,k,i,x,h,aa,d,ay=>by
  simp only[ajw,h5,qa,u2]at h;cases i with
  |zero=>simp at aa;subst aa;exact h.1 d ay
  |succ i=>
   have:=aml h.2 (by simpa using aa) d ay;omega
theorem aId{L:List (h2×ey)}{j i:Nat}(h:ahead L j i=true):j<i/\∃x,L[i]?=some x/\j∈x.2:=by
 simp only[ahead,h5,u2]at h
 grind
theorem atG{o:l1}{env:hc}{key b:Nat}(ht:o.OD=true)(hw:k2 xb o env key b=true):b∈y' xb o env key:=by
 cases o
 case call f args=>
  simp only[k2,Oz,h5,u2,apY]at hw;simp only[y',Oy,PG,adL];rcases hw with h|h
  . exact .inl ⟨b-key,by omega,by omega⟩
  grind
 all_goals simp[l1.OD]at ht<;>simp[k2,y']at hw⊢<;>first|exact hw|(rcases hw with h|h;exact .inl h;exact .inr (.inl h))
theorem aF8{o:l1}{env:hc}{key:Nat}(ht:o.OD=false):y' xb o env key=[]:=by
 cases o<;>simp[l1.OD]at ht<;>rfl
theorem auw{o:l1}{env:hc}{key b:Nat}(hw:k2 xb o env key b=true):o.neutral=false:=by
 cases o<;>simp[k2]at hw<;>rfl
theorem axk{o:l1}{env:hc}{key b:Nat}(ht:o.OD=false)(hw:k2 xb o env key b=true):key<=b/\b<key+16:=by
 cases o<;>simp[l1.OD]at ht<;>simp[k2]at hw
section
variable {P:Program}{cm:K5}{nt kk:Nat}{N:Nat}{ops:Array Oper}{eh:List h2}{E:Nat->hc}{T:Nat->ee}{G:Nat->Bool}{W:Nat->V}
theorem ga.aC7{φ:q3}{S:r'}{env env':hc}{J:ee}{n:Nat->Bool}{a:Act}{w:World}(R:ga cm nt φ S env J n a w)(h:∀t,look env' t=look env t):ga cm nt φ S env' J n a w:=
 ⟨R.hI,λk g v ar=>R.L0 k g v (h k▸ar),λk g v ar=>R.Np k g v (h k▸ar),λk g v ar=>R.LZ k g v (h k▸ar),R.vi,R.size,R.defers,R.ext,R.own,R.fix,R.OU⟩
def N7(xb:ey)(eh:List h2)(E:Nat->hc)(N i b:Nat):Bool:=match eh[i]? with|some o=>k2 xb o.op (E i) (N+16*i) b|none=>false
theorem acr(al:WR xb P eh N E T G W){t:Nat}{i:Nat}:∀{k:Nat},i<=k->k<=eh.length->(∀(j:Nat) (o:h2),i<=j->j<k->eh[j]?=some o->o.dst≠some t)->look (E k) t=look (E i) t:=by
 intro k
 induction k with
 |zero=> intro h1 _ _; have:i = 0:= by omega
         subst this;rfl
 |succ k ih=>
  intro h1 ad a';by_cases ao8:i=k+1
  . grind
  . have hk:k<eh.length:=by omega
    have cJ:eh[k]?=some eh[k]:=HJ hk;rw[(al.step k _ cJ).2,Xn,cx (a' k _ (by omega) (by omega) cJ)]
    grind
theorem ajM(al:WR xb P eh N E T G W){b:Nat}{i:Nat}:∀{k:Nat},i<=k->k<=eh.length->(∀j:Nat,i<=j->j<k->N7 xb eh E N j b=false)->eb (T k) b=eb (T i) b:=by
 intro k
 induction k with
 |zero=> intro h1 _ _; have:i = 0:= by omega
         subst this;rfl
 |succ k ih=>
  intro h1 ad a';by_cases ao8:i=k+1
  . grind
  . have hk:k<eh.length:=by omega
    have cJ:eh[k]?=some eh[k]:=HJ hk;have hw:=a' k (by omega) (by omega);unfold N7 at hw;rw[cJ]at hw;have:=((al.step k _ cJ).1.local (env':=E k) (J':=T k) (λ_ _=>rfl) (λ_ _=>rfl)).2 b hw
    grind
inductive PQ (D:Nat->ey)(j:Nat):Nat->Prop
 |one {i:Nat} (h:j∈D i):PQ D j i
 |step {e i:Nat} (h:PQ D j e) (he:e∈D i):PQ D j i
theorem PQ.ready{D:Nat->ey}{n:Nat}{p:Nat->Bool}(ai:∀i d,i<n->d∈D i->d<i)(aK3:∀e,e<n->p e=true->∀d,d∈D e->p d=true){j i:Nat}(h:PQ D j i)(ao:i<n)(ay:∀d,d∈D i->p d=true):p j=true:=by
 induction h with
 |one h=>exact ay _ h
 |step h he ih=>grind
theorem PQ.congr{D arf:Nat->ey}{n:Nat}(ai:∀i d,i<n->d∈D i->d<i)(Pm:∀i,i<n->D i=arf i){j i:Nat}(h:PQ D j i)(ao:i<n):PQ arf j i:=by
 induction h with
 |one h=>exact .one (by rw[<-Pm _ ao];exact h)
 |step h he ih=>
  have:=ai _ _ ao he;exact .step (ih (by omega)) (by rw[<-Pm _ ao];exact he)
theorem asn{D:Nat->ey}:∀{l:List (h2×ey)} {acc:List ey},(∀(k:Nat) x,l[k]?=some x->D (acc.length+k)=x.2)->(∀i j,j∈acc.getD i []->PQ D j i)->∀i j,j∈(U1 l acc).getD i []->PQ D j i
 |[],acc,_,b6,i,j,h=>b6 i j h
 |x::r,acc,Pm,b6,i,j,h=>by
  simp only[U1]at h;refine asn (acc:=acc++[(x.2++x.2.flatMap λe=>acc.getD e []).eraseDups]) (λk y bo=>?_) (λi j ea=>?_) i j h
  . have:=Pm (k+1) y (by simpa using bo)
    grind
  . rw[List.getD_eq_getElem?_getD,List.getElem?_append]at ea;split at ea
    . grind
    . rename_i ao;cases hk:i-acc.length with
      |succ k=>rw[hk]at ea;simp at ea
      |zero=>
       rw[hk]at ea;have Wp:i=acc.length:=by omega
       subst Wp;have aa:D acc.length=x.2:=by simpa using Pm 0 x rfl
       simp only[ahT,WC,List.mem_eraseDups,Oy,ap5]at ea;rcases ea with ea|⟨e,he,ea⟩
       . exact .one (by rw[aa];exact ea)
       . exact .step (b6 e j ea) (by rw[aa];exact he)
structure Stat (xb:ey)(eh:List h2)(D:Nat->ey)(E:Nat->hc)(N:Nat):Prop where
 back:∀i d,i<eh.length->d∈D i->d<i
 aeb:∀(i j:Nat) (x y:h2) (d:Nat),eh[i]?=some x->eh[j]?=some y->y.dst=some d->(d∈x.rd->(j<i/\j∈D i)\/(x.op.neutral=true/\x.op.OD=false/\i<j/\i∈D j))/\(i=j\/x.dst≠some d)
 ord:∀i j b,i≠j->i<eh.length->j<eh.length->N7 xb eh E N i b=true->((∃y:h2,eh[j]?=some y/\b∈y' xb y.op (E j) (N+16*j))\/N7 xb eh E N j b=true)->(i<j/\PQ D i j)\/(j<i/\PQ D j i)
def Um(N m:Nat)(listed:Array Bool):Nat->Bool:=λb=>lt N b||(List.range m).any λi=>listed.getD i false&&(decide (N+16*i<=b)&&decide (b<N+16*i+16))
structure Inv (xb:ey)(cm:K5)(nt:Nat)(eh:List h2)(D:Nat->ey)(N:Nat)(E:Nat->hc)(T:Nat->ee)(G:Nat->Bool)(W:Nat->V)(listed:Array Bool)(φ:q3)(S:r')(env:hc)(J:ee)(a:Act)(w:World):Prop where
 rel:ga cm nt φ S env J (Um N eh.length listed) a w
 size:listed.size=eh.length
 down:∀i,i<eh.length->listed.getD i false=true->∀d,d∈D i->listed.getD d false=true
 vK:∀t,(∀(i:Nat) (o:h2),eh[i]?=some o->listed.getD i false=true->o.dst≠some t)->look env t=look (E 0) t
 ep:∀t (i:Nat) (o:h2),eh[i]?=some o->listed.getD i false=true->o.dst=some t->look env t=some (G i,W i)
 ZT:∀b,(∀i,i<eh.length->listed.getD i false=true->N7 xb eh E N i b=false)->eb J b=eb (T 0) b
 s1:∀b i,i<eh.length->listed.getD i false=true->N7 xb eh E N i b=true->(∀j,j<eh.length->listed.getD j false=true->N7 xb eh E N j b=true->j<=i)->eb J b=eb (T (i+1)) b
theorem SD{listed:Array Bool}{i j:Nat}(ao:i<listed.size):(listed.setIfInBounds i true).getD j false=if j=i then true else listed.getD j false:=by
 by_cases h:j=i
 . simp_all
 . rw[cx h,getD_set_ne false (u4 h)]
theorem Inv.agree {listed:Array Bool}{D:Nat->ey}{φ:q3}{S:r'}{env:hc}{J:ee}{a:Act}{w:World}(ri:Inv xb cm nt eh D N E T G W listed φ S env J a w)(st:Stat xb eh D E N)(al:WR xb P eh N E T G W)
 {i:Nat}{o:h2}(cJ:eh[i]?=some o)(eJ:listed.getD i false=false)(ay:∀d,d∈D i->listed.getD d false=true):
 (∀t,t∈o.rd->look env t=look (E i) t)/\∀b,b∈y' xb o.op (E i) (N+16*i)\/k2 xb o.op (E i) (N+16*i) b=true->eb J b=eb (T i) b:=by
 have ao:i<eh.length:=(pv.1 cJ).1;refine⟨λt ht=>?_,λb ai=>?_⟩
 . by_cases hw:∃(j:Nat) (y:h2),eh[j]?=some y/\y.dst=some t
   . obtain⟨j,y,bo,I1⟩:=hw;rcases (st.aeb i j o y t cJ bo I1).1 ht with⟨h1,ad⟩|⟨_,_,h1,ad⟩
     . rw[ri.ep t j y bo (ay j ad) I1];have:look (E (j+1)) t=some (G j,W j):=by rw[(al.step j y bo).2,Xn,bJ I1]
       rw[<-this]
       symm
       refine acr al (by omega) (by omega) λk z L8 P4 gb RQ=>?_
       rcases (st.aeb k j z y t gb bo I1).2 with h|h
       . omega
       . exact h RQ
     . have ea:j<eh.length:=(pv.1 bo).1;have akL:∀(k:Nat) (z:h2),eh[k]?=some z->z.dst=some t->k=j:=by
        intro k z gb RQ;rcases (st.aeb k j z y t gb bo I1).2 with h|h
        . exact h
        grind
       rw[ri.vK t λk z gb ar RQ=>by
        have:=akL k z gb RQ;subst this;have:=ri.down k ea ar i ad
        grind]
       symm
       refine acr al (Q2 _) (by omega) λk z _ hk gb RQ=>?_
       have:=akL k z gb RQ;omega
   . have Ws:∀(j:Nat) (y:h2),eh[j]?=some y->y.dst≠some t:=λj y bo h=>hw ⟨j,y,bo,h⟩
     rw[ri.vK t λj y bo _=>Ws j y bo]
     symm
     exact acr al (Q2 _) (by omega) λj y _ _ bo=>Ws j y bo
 . have Vh:∀j,j≠i->j<eh.length->N7 xb eh E N j b=true->(j<i/\PQ D j i)\/(i<j/\PQ D i j):=by
    intro j ea Wq ag';refine st.ord j i b ea Wq ao ag' ?_;rcases ai with ai|ai
    . grind
    . exact .inr (by unfold N7;rw[cJ];exact ai)
   have ar:∀j,j<eh.length->listed.getD j false=true->N7 xb eh E N j b=true->j<i:=by
    intro j Wq akI ag';have hn:j≠i:=by rintro rfl;rw[eJ]at akI;cases akI
    rcases Vh j hn Wq ag' with h|h
    . exact h.1
    . have:=h.2.ready (p:=λk=>listed.getD k false) st.back ri.down Wq (ri.down j Wq akI)
      grind
   have Jo:∀j,j<i->N7 xb eh E N j b=true->listed.getD j false=true:=by
    intro j S4 ag';rcases Vh j (by omega) (by omega) ag' with h|h
    . exact h.2.ready (p:=λk=>listed.getD k false) st.back ri.down ao ay
    . omega
   by_cases ao3:∃j,j<i/\N7 xb eh E N j b=true
   . obtain⟨j,ag7,ag8,ag9⟩:=an6 ao3;rw[ri.s1 b j (by omega) (Jo j ag7 ag8) ag8 (λk L8 P4 akF=>ag9 k (ar k L8 P4 akF) akF)]
     symm
     refine ajM al (by omega) (by omega) λk L8 P4=>?_
     cases apb:N7 xb eh E N k b with
     |false=>rfl
     |true=>have:=ag9 k P4 apb;omega
   . have Ws:∀j,j<i->N7 xb eh E N j b=false:=by grind
     rw[ri.ZT b λj Wq akI=>by grind]
     symm
     exact ajM al (Q2 _) (by omega) λj _ ea=>Ws j ea
theorem aHy{m:Nat}{listed:Array Bool}{i b:Nat}(ao:i<listed.size)(h:CJ (Um N m listed) (N+16*i) b=true)(X8:i<m):Um N m (listed.setIfInBounds i true) b=true:=by
 simp only[CJ,Um,Oz,adW,adL,h5,u2]at h⊢;rcases h with(h|⟨j,h1,ad,a'⟩)|h
 . exact .inl h
 . exact .inr ⟨j,h1,by rw[SD ao];split;rfl;exact ad,a'⟩
 . exact .inr ⟨i,X8,by rw[SD ao,bJ rfl],h⟩
theorem atH{m:Nat}{listed:Array Bool}{i:Nat}(eJ:listed.getD i false=false){b:Nat}(h1:N+16*i<=b)(ad:b<N+16*i+16):Um N m listed b=false:=by
 simp only[Um,Yk,ap3,adL,h5,u2];refine⟨by simp[lt];omega,λj ea h=>?_⟩
 grind
theorem Inv.step {listed:Array Bool}{D:Nat->ey}{φ hi:q3}{S hJ:r'}{env:hc}{J f':ee}{a n1:Act}{w w':World}(ri:Inv xb cm nt eh D N E T G W listed φ S env J a w)(st:Stat xb eh D E N)(al:WR xb P eh N E T G W)
 {i:Nat}{o:h2}(cJ:eh[i]?=some o)(eJ:listed.getD i false=false)(ay:∀d,d∈D i->listed.getD d false=true)
 (j':∀b,eb f' b=if k2 xb o.op (E i) (N+16*i) b then eb (T (i+1)) b else eb J b)
 (R:ga cm nt hi hJ (ii env o.dst (G i) (W i)) f' (CJ (Um N eh.length listed) (N+16*i)) n1 w'):
 Inv xb cm nt eh D N E T G W (listed.setIfInBounds i true) hi hJ (ii env o.dst (G i) (W i)) f' n1 w':=by
 have ao:i<eh.length:=(pv.1 cJ).1;have L6:i<listed.size:=by rw[ri.size];exact ao
 have akT:∀b,N7 xb eh E N i b=k2 xb o.op (E i) (N+16*i) b:=λb=>by unfold N7;rw[cJ]
 refine⟨R.more λb ai=>aHy L6 ai ao,by simp[ri.size],λj ea ar d Pq=>?_,λt ht=>?_,λt j y bo ar I1=>?_,λb ai=>?_,λb j ea ar hw Ln=>?_⟩
 . rw[SD L6]at ar⊢;split
   . rfl
   . split at ar
     . rename_i e;subst e;exact ay d Pq
     . exact ri.down j ea ar d Pq
 . rw[Xn,cx (ht i o cJ (by rw[SD L6,bJ rfl]))];exact ri.vK t λj y bo ar=>ht j y bo (by rw[SD L6];split;rfl;exact ar)
 . rw[Xn];rw[SD L6]at ar;by_cases S4:j=i
   . subst S4;rw[cJ]at bo;cases bo;rw[bJ I1]
   . rw[cx S4]at ar;rw[cx (λh=>?_)]
     . exact ri.ep t j y bo ar I1
     . rcases (st.aeb i j o y t cJ bo I1).2 with s'|s'
       . exact S4 s'.symm
       . exact s' h
 . rw[j' b];have Vh:=ai i ao (by rw[SD L6,bJ rfl]);rw[akT]at Vh;rw[Vh];exact ri.ZT b λj ea ar=>ai j ea (by rw[SD L6];split;rfl;exact ar)
 . rw[j' b];rw[SD L6]at ar;by_cases Vh:k2 xb o.op (E i) (N+16*i) b=true
   . rw[bJ Vh];have ayv:i<=j:=Ln i ao (by rw[SD L6,bJ rfl]) (by rw[akT];exact Vh);by_cases S4:j=i
     . subst S4;rfl
     ·
      exfalso
      rw[cx S4]at ar;rcases st.ord i j b (u4 S4) ao ea (by rw[akT];exact Vh) (.inr hw)with h|h
      . have:=h.2.ready (p:=λk=>listed.getD k false) st.back ri.down ea (ri.down j ea ar);rw[eJ]at this;cases this
      . omega
   . rw[cx Vh];by_cases S4:j=i
     . subst S4;rw[akT]at hw;exact absurd hw Vh
     . rw[cx S4]at ar;exact ri.s1 b j ea ar hw λk hk JL aL1=>Ln k hk (by rw[SD L6];split;rfl;exact JL) aL1
theorem Inv.done {listed:Array Bool}{D:Nat->ey}{φ:q3}{S:r'}{env:hc}{J:ee}{a:Act}{w:World}(ri:Inv xb cm nt eh D N E T G W listed φ S env J a w)(st:Stat xb eh D E N)(al:WR xb P eh N E T G W)
 (k4:∀i,i<eh.length->listed.getD i false=true):ga cm nt φ S (E eh.length) (T eh.length) (lt (N+16*eh.length)) a w:=by
 refine((ri.rel.aC7 λt=>?_).congr λb=>?_).more λb ai=>?_
 . by_cases hw:∃(j:Nat) (y:h2),eh[j]?=some y/\y.dst=some t
   . obtain⟨j,y,bo,I1⟩:=hw;have ea:j<eh.length:=(pv.1 bo).1;rw[ri.ep t j y bo (k4 j ea) I1];have:look (E (j+1)) t=some (G j,W j):=by rw[(al.step j y bo).2,Xn,bJ I1]
     rw[<-this];refine acr al (by omega) (DJ _) λk z L8 P4 gb RQ=>?_
     rcases (st.aeb k j z y t gb bo I1).2 with h|h
     . omega
     . exact h RQ
   . have Ws:∀(j:Nat) (y:h2),eh[j]?=some y->y.dst≠some t:=λj y bo h=>hw ⟨j,y,bo,h⟩
     rw[ri.vK t λj y bo _=>Ws j y bo];exact acr al (Q2 _) (DJ _) λj y _ _ bo=>Ws j y bo
 . by_cases ao3:∃j,j<eh.length/\N7 xb eh E N j b=true
   . obtain⟨j,ag7,ag8,ag9⟩:=an6 ao3;rw[ri.s1 b j ag7 (k4 j ag7) ag8 (λk L8 _ akF=>ag9 k L8 akF)];refine ajM al (by omega) (DJ _) λk L8 P4=>?_
     cases apb:N7 xb eh E N k b with
     |false=>rfl
     |true=>have:=ag9 k P4 apb;omega
   . have Ws:∀j,j<eh.length->N7 xb eh E N j b=false:=by grind
     rw[ri.ZT b λj Wq _=>Ws j Wq];exact ajM al (Q2 _) (DJ _) λj _ ea=>Ws j ea
 . simp only[Um,lt,Oz,adW,adL,h5,u2]at ai⊢;rcases ai with h|⟨j,h1,ad,a',d'⟩
   . omega
   . omega
theorem aGt {D:Nat->ey}(st:Stat xb eh D E N)(al:WR xb P eh N E T G W)(hres:PU P nt ops ops.toList=some eh)(Pm:∀(i:Nat) o,ops[i]?=some o->D i=M9 o){Q:Exit->Act->World->Prop}
 (wk:∀φ S a w,ga cm nt φ S (E eh.length) (T eh.length) (lt (N+16*eh.length)) a w->Q .normal a w):
 ∀(Ld:Nat) (listed:Array Bool) φ S env J a w,listed.toList.countP (· ==false)<=Ld->Inv xb cm nt eh D N E T G W listed φ S env J a w->wpAny P .any ops Q Ld listed a w:=by
 have n':=afr hres;simp at n';have apq:∀(listed:Array Bool) (φ:q3) (S:r') (env:hc) (J:ee) (a:Act) (w:World),Inv xb cm nt eh D N E T G W listed φ S env J a w->Region.ready .any ops listed=[]->∀i,i<eh.length->listed.getD i false=true:=by
  intro listed φ S env J a w ri Nr i
  induction i using Nat.strongRecOn with
  |_ i ih=>
   intro ao;cases ar:listed.getD i false with
   |true=>rfl
   |false=>
    exfalso
    have abj:i<ops.size:=by omega
    have cJ:ops[i]?=some ops[i]:=ak' abj;have:i∈Region.ready .any ops listed:=by
     rw[mem_ready];refine⟨?_,ops[i],cJ,λe he ai=>?_⟩
     . have L6:i<listed.size:=by rw[ri.size];exact ao
       grind
     . have ay:e.on∈D i:=by
        rw[Pm i _ cJ];simp only[M9,PG,adZ]
        grind
       exact ih e.on (st.back i _ ao ay) (by have:=st.back i _ ao ay;omega)
    grind
 have ayj:∀(listed:Array Bool) (φ:q3) (S:r') (env:hc) (J:ee) (a:Act) (w:World),Inv xb cm nt eh D N E T G W listed φ S env J a w->Region.ready .any ops listed=[]->Q .normal a w:=by
  intro listed φ S env J a w ri Nr;exact wk φ S a w (ri.done st al (apq listed φ S env J a w ri Nr))
 intro Ld
 induction Ld with
 |zero=>
  intro listed φ S env J a w a7 ri;have k4:∀i,i<eh.length->listed.getD i false=true:=by
   intro i ao;have L6:i<listed.size:=by rw[ri.size];exact ao
   cases ar:listed.getD i false with
   |true=>rfl
   |false=>
    exfalso
    have h0:listed.toList.countP (· ==false)=0:=by omega
    rw[List.countP_eq_zero]at h0;simp[L6]at ar;exact h0 listed[i] (by simp) (by simp[ar])
  have Nr:Region.ready .any ops listed=[]:=by
   rw[azn];intro i ao;rw[mem_ready]at ao
   grind
  exact⟨Nr,ayj listed φ S env J a w ri Nr⟩
 |succ Ld ih=>
  intro listed φ S env J a w a7 ri;refine⟨ayj listed φ S env J a w ri,λi ao=>?_⟩;rw[mem_ready]at ao;obtain⟨h1,o,cJ,aK1⟩:=ao;have abj:i<ops.size:=(ahP.1 cJ).1;have X8:i<eh.length:=by omega
  have L6:i<listed.size:=by rw[ri.size];exact X8
  have eJ:listed.getD i false=false:=by simp[L6]at h1⊢;exact h1
  obtain⟨qi,P2,akO⟩:=amH hres (i:=i) (o:=o) (by simpa using cJ);have ay:∀d,d∈D i->listed.getD d false=true:=by
   intro d ay;rw[Pm i o cJ]at ay;simp only[M9,PG,adZ]at ay
   grind
  obtain⟨aoL,X1⟩:=ri.agree st al P2 eJ ay;obtain⟨⟨f',hs,j'⟩,_⟩:=(al.step i qi P2).1.local (env':=env) (J':=J) aoL X1;have Ot:=aje ri.rel (key:=N+16*i) (λb KX JS=>atH eJ KX JS) akO (K:=λe s=>e=ii env qi.dst (G i) (W i)/\s=f') (hs.MS ⟨rfl,rfl⟩) (Q:=Q)
  have next:∀n1 w',QK cm nt (CJ (Um N eh.length listed) (N+16*i)) (λe s=>e=ii env qi.dst (G i) (W i)/\s=f') n1 w'->wpAny P .any ops Q Ld (listed.setIfInBounds i true) n1 w':=by
   rintro n1 w' ⟨hi,hJ,e,s,⟨rfl,rfl⟩,R'⟩
   refine ih _ hi hJ _ _ n1 w' ?_ (ri.step st al P2 eJ ay j' R');have:listed.toList[i]?=some false:=by simp[L6]at eJ⊢;exact eJ
   grind
  unfold wpOp;rw[cJ];dsimp only;split at Ot
  . rename_i hw;rw[bJ hw];exact .inl (Oper.wp_mono next Ot)
  . rename_i hw;rw[cx hw];exact next _ _ Ot
end
end
end Go.Proofs.YtandcioiaooocaaGreat.Shv
