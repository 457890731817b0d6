/- The functions of the program as functions of Lean, that its code does what they say, and what they answer; part D. -/
import Derived.Test.YtijpinendaoleaaGreatRtC

namespace Go.Proofs.YtijpinendaoleaaGreat
set_option linter.all false
section
open Go Go.Proofs.YtijpinendaoleaaGreat.Shv Go.Sort
set_option maxRecDepth 100000
theorem zx :∀{A B:List Fd},A.Pairwise (fun a b=>a.id < b.id)->B.Pairwise (fun a b=>a.id < b.id)->(∀x,x∈A↔x∈B)->A=B
 | [],[],_,_,_=>rfl
 | [],b::B,_,_,h=>by have:=(h b).2 (.head _);cases this
 | a::A,[],_,_,h=>by have:=(h a).1 (.head _);cases this
 | a::A,b::B,hA,hB,h=>by
  rw[List.pairwise_cons]at hA hB;have e:a=b:=by grind
  subst e;rw[zx hA.2 hB.2 fun x=>?_]
  grind
theorem Fb :∀(a b:List UInt8),Op.bytesLess a b=true->Op.bytesLess b a=true->False:=by
 intro a b h1 h2;rw[bytesLess_eq,decide_eq_true_eq]at h1 h2
 grind
theorem wc{a b:List UInt8}(h1:bQ a b=true)(h2:bQ b a=true):False:=by
 rw[oN]at h1 h2;rcases h1 with h1 | h1 <;> rcases h2 with h2 | h2
 . omega
 . omega
 . omega
 . exact Fb _ _ h1.2 h2.2
theorem I6 {ts : List ae} {t : Int} {a b : ab} (hk : 1 <= (ts.getD t.toNat af).Kind /\ (ts.getD t.toNat af).Kind <= 4) (ha : I64 a.Int_) (hb : I64 b.Int_) (ka : a.Kind = (ts.getD t.toNat af).Kind) (kb : b.Kind = (ts.getD t.toNat af).Kind)
 (h:vcmp a b=0):vpay ts t a=vpay ts t b:=by
 have h1:=pB ha hb;rw[h]at h1;have hv1:=fun v=>@vpay1 ts t v
 have hv2:=fun v=>@vpay2 ts t v
 have hv3:=fun v=>@vpay3 ts t v
 have hv4:=fun v=>@vpay4 ts t v
 generalize (ts.getD t.toNat af).Kind=k at*;rw[gp]at h1;rw[if_neg (by simp[ka,kb])]at h1;by_cases k1:k=1
 . rw[if_pos (by simp[ka,k1])]at h1;rw[hv1 _ k1,hv1 _ k1];simp only[ce,eqB]at h1;cases hA:a.Bool_ <;> cases hB:b.Bool_ <;> simp[hA,hB]at h1 <;> rfl
 rw[if_neg (by simp[ka,k1])]at h1;by_cases k2:k=2
 . rw[if_pos (by simp[ka,k2]),fV ha,fV hb]at h1;rw[hv2 _ k2,hv2 _ k2];simp only[oZ4,oZ3,ce]at h1;by_cases e:a.Int_=b.Int_
   . rw[e]
   . by_cases hl:zig a.Int_ < zig b.Int_
     . simp[e,hl]at h1
     . simp[e,hl]at h1
 rw[if_neg (by simp[ka,k2])]at h1;by_cases k3:k=3
 . rw[if_pos (by simp[ka,k3])]at h1;rw[hv3 _ k3,hv3 _ k3];simp only[oZ4,oZ3,ce]at h1;by_cases hl:a.Str.length=b.Str.length
   . rw[if_neg (by simp[hl])]at h1;by_cases e:a.Str=b.Str
     . exact e
     . cases hb':Op.bytesLess a.Str b.Str <;> simp[e,hb']at h1
   . have hl1:¬(a.Str.length:Int)=(b.Str.length:Int):=by omega
     rw[if_pos (by simp[hl1])]at h1;by_cases hlt:(a.Str.length:Int) < (b.Str.length:Int) <;> simp[hlt]at h1
 . have k4:k=4:=by omega
   rw[if_neg (by simp[ka,k3]),if_pos (by simp[ka,k4])]at h1;rw[hv4 _ k4,hv4 _ k4];simp only[oZ4,oZ3,ce]at h1;by_cases e:a.ID=b.ID
   . rw[e]
   . by_cases hl:a.ID < b.ID <;> simp[e,hl]at h1
theorem I7 {ts : List ae} {t : Int} {a b : ab} (hk : 1 <= (ts.getD t.toNat af).Kind /\ (ts.getD t.toNat af).Kind <= 4) (ha : OkV a) (hb : OkV b) (ka : a.Kind = (ts.getD t.toNat af).Kind) (kb : b.Kind = (ts.getD t.toNat af).Kind)
 (na:0<=a.ID\/a.Kind≠4) (nb:0<=b.ID\/b.Kind≠4) (h:bQ (vpay ts t a) (vpay ts t b)=true):vcmp a b < 0:=by
 have ia:I64 a.Int_:=by cases ha with | mk _ _ _ _ _ _ _ _ _ n2 _ _=>exact n2
 have ib:I64 b.Int_:=by cases hb with | mk _ _ _ _ _ _ _ _ _ n2 _ _=>exact n2
 by_cases h1:vcmp a b < 0
 . exact h1
 . exfalso
   by_cases h2:vcmp a b=0
   . rw[I6 hk ia ib ka kb h2]at h;exact wc h h
   . have:=IQ ia ib (by omega);exact wc h (ya hk hb ha kb ka nb na this)
theorem B9 :∀(l:List (List UInt8)),l.length % 2=0->ilv (evens l) (odds l)=l.flatMap aP
 | [],_=>by rw[show evens ([]:List (List UInt8))=[]from rfl,ilv] <;> first | rfl | simp
 | [a],h=>by simp at h
 | a::b::l,h=>by rw[evens,odds,ilv,B9 l (by simp at h;omega),List.flatMap_cons,List.flatMap_cons]
theorem sj{α:Type}(d:α):∀{l:List α} {i:Nat},2*i+1 < l.length->(evens l).getD i d=l.getD (2*i) d
 | [],i,h=>by simp at h
 | [a],i,h=>by simp at h
 | a::b::l,0,h=>rfl
 | a::b::l,i+1,h=>by rw[evens,List.getD_cons_succ,sj d (by simp at h;omega),show 2*(i+1)=2*i+1+1 by omega,List.getD_cons_succ,List.getD_cons_succ]
theorem zy{α:Type}(d:α):∀{l:List α} {i:Nat},2*i+1 < l.length->(odds l).getD i d=l.getD (2*i+1) d
 | [],i,h=>by simp at h
 | [a],i,h=>by simp at h
 | a::b::l,0,h=>rfl
 | a::b::l,i+1,h=>by rw[odds,List.getD_cons_succ,zy d (by simp at h;omega),show 2*(i+1)+1=2*i+1+1+1 by omega,List.getD_cons_succ,List.getD_cons_succ]
theorem pN{α:Type}{l:List α}{y:α}(d:α)(h:y∈l):∃i,i < l.length/\l.getD i d=y:=by
 obtain⟨i,hi,rfl⟩:=List.getElem_of_mem h;exact⟨i,hi,bl hi d⟩
section
variable {ts:List ae}
theorem zz : ∀ {ms : List aj} {l : List ab} {j : Nat}, j < ms.length -> j < l.length -> om (ms.getD j ap) (l.getD j ag) = false ->
 (⟨(ms.getD j ap).ID.toNat,(ms.getD j ap).Critical,vpay ts (ms.getD j ap).Type_ (l.getD j ag)⟩:Fd)∈vents ts ms l
 | [],l,j,h,_,_=>by simp at h
 | m::ms,[],j,_,h,_=>by simp at h
 | m::ms,v::l,0,_,_,h=>by
  rw[vents]
  grind
 | m::ms,v::l,j+1,h1,h2,h=>by
  rw[vents];have:=zz (ms:=ms) (l:=l) (j:=j) (by simpa using h1) (by simpa using h2) h
  grind
theorem zA{r:Nat}:∀{ms:List aj} {l:List ab},(∀j,j < ms.length->j < l.length->om (ms.getD j ap) (l.getD j ag)=false->vlev ts (ms.getD j ap).Type_ (l.getD j ag)<=r)->vlevm ts ms l<=r
 | [],l,_=>by
  have:vlevm ts [] l=0:=by rw[vlevm] <;> simp
  omega
 | m::ms,[],_=>by
  have:vlevm ts (m::ms) []=0:=by rw[vlevm] <;> simp
  omega
 | m::ms,v::l,h=>by
  have ih:=zA (ms:=ms) (l:=l) fun j h1 h2 h3=>h (j+1) (by simpa using h1) (by simpa using h2) h3
  rw[vlevm];split
  . exact ih
  . rename_i ho;have:=h 0 (by simp) (by simp) (by simpa using ho)
    grind
theorem pF{t:Int}{r:Nat}:∀{l:List ab},(∀y,y∈l->vlev ts t y<=r)->vlevs ts t l<=r
 | [],_=>by rw[vlevs];exact Nat.zero_le _
 | v::l,h=>by
  rw[vlevs];exact Nat.max_le.2 ⟨h v (.head _),pF fun y hy=>h y (.tail _ hy)⟩
def CanD(ts:List ae)(r:Nat)(t:Int)(p:List UInt8):Prop:=∃v,vdec ts r t p=some v/\vpay ts t v=p/\vlev ts t v<=r
theorem zB{t:Int}{r:Nat}{l:List (List UInt8)}{m:List ab}(hl:m.length=l.length)(h:∀i,i < l.length->vpay ts t (m.getD i ag)=l.getD i []/\vlev ts t (m.getD i ag)<=r):vpays ts t m=l/\vlevs ts t m<=r:=by
 constructor
 . refine List.ext_getElem (by rw[dw,hl]) fun i h1 h2=>?_
   have:=(h i h2).1;have hm:i < m.length:=by omega
   have e:=jS (ts:=ts) (t:=t) hm
   grind
 . refine pF fun y hy=>?_
   obtain⟨i,hi,rfl⟩:=pN ag hy
   grind
theorem KW(H:DrOk ts){r:Nat}(ih:∀(t:Int) (p:List UInt8),p.length<=90000->0<=t->t < ts.length->vcan ts r t p->CanD ts r t p){t:Int}{p:List UInt8}(hp:p.length<=90000)(t0:0<=t)(t1:t < ts.length)(h:vcan ts (r+1) t p):CanD ts (r+1) t p:=by
 rw[sZ]at h;have hj:t.toNat < ts.length:=by omega
 have hx:=aB hj af;have hC:=H.dc;obtain⟨K1,K9⟩:=hC.S.K _ hx;unfold CanD;rw[sg];rcases h with(⟨k,h⟩ | ⟨k,h⟩ | ⟨k,h⟩ | ⟨k,h⟩) | ⟨k,h⟩ | ⟨k,h⟩ | ⟨k,h⟩ | ⟨k,h⟩ | ⟨k,h⟩
 . unfold vdK;rw[if_pos k];unfold vd1;rcases h with h | h
   . subst h;exact⟨_,if_pos rfl,by rw[vpay1 k];rfl,by rw[fI rfl rfl];omega⟩
   . subst h;exact⟨_,by rw[if_neg (by simp),if_pos rfl],by rw[vpay1 k];rfl,by rw[fI rfl rfl];omega⟩
 . unfold vdK;rw[if_neg (by omega),if_pos k];obtain⟨n,n1,n2⟩:=h;unfold vd2;rw[n1];refine⟨_,if_pos n2,?_,by rw[fI rfl rfl];omega⟩;rw[vpay2 k];show vbig (zig (unz n)).toNat=p;rw[LU,zq n1]
 . unfold vdK;rw[if_neg (by omega),if_neg (by omega),if_pos k];unfold vd3;exact⟨_,if_pos h,by rw[vpay3 k],by rw[fI rfl rfl];omega⟩
 . unfold vdK;rw[if_neg (by omega),if_neg (by omega),if_neg (by omega),if_pos k];obtain⟨n,n1,n2,n3⟩:=h;unfold vd4;rw[n1];refine⟨_,if_pos ⟨n2.1,n2.2,?_⟩,?_,by rw[fI rfl rfl];omega⟩
   . rw[vpay4 k];show vbig (n:Int).toNat=p;rw[aw,zq n1]
   grind
 ·
  unfold vdK;rw[if_neg (by omega),if_neg (by omega),if_neg (by omega),if_neg (by omega),if_neg (by omega),if_neg (by omega),if_neg (by omega),if_neg (by omega)];obtain⟨l,hl,hf,hm⟩:=h;obtain⟨hA1,hA2⟩:=hC.S.A _ hx (.inl k);obtain⟨o,o1,_,o2,o3⟩:=lZ hp
  have hl2:(∀f,f∈l->f.Data.length<=p.length/\I1000 f.ID)/\l.Pairwise (fun a b=>a.ID < b.ID)/\l.length<=p.length:=by grind
  have e5:=fun v=>@vpay5 ts t v k
  have lv:=fun v=>gS (ts:=ts) t v
  generalize ts.getD t.toNat af=x at*
  obtain⟨is,is1,is2⟩:=mz (f:=vmem (vdec ts r) l) (P:=fun m w=>(∃f,f∈l/\f.ID=m.ID/\om m w=false/\vpay ts m.Type_ w=f.Data/\f.Critical=m.Critical/\vlev ts m.Type_ w<=r)\/((∀f,f∈l->f.ID≠m.ID)/\om m w=true)) ap ag (l:=x.Members) (fun m hmm=>by
   unfold vmem;cases hfd:l.find? (fun f=>decide (f.ID=m.ID))with
   | some f=>
    have fm:=List.mem_of_find?_eq_some hfd;have fi:f.ID=m.ID:=by have:=List.find?_some hfd;simpa using this
    have hF:findM x.Members f.ID=some m:=by
     cases hF:findM x.Members f.ID with
     | none=>exact absurd fi.symm (fD hF m hmm)
     | some m'=>
      obtain⟨q1,q2⟩:=gN hF;rw[sH hA1 q1 hmm (by rw[q2,fi])]
    obtain⟨c1,c2,c3⟩:=(hf f fm).2 m hF;obtain⟨v,v1,v2,v3⟩:=ih _ _ (by have:=(hl2.1 f fm).1;omega) (hC.mem hx hmm).1 (hC.mem hx hmm).2 c2;refine⟨v,v1,.inl ⟨f,fm,fi,?_,v2,c1,v3⟩⟩;unfold om
    grind
   | none=>
    have hno:∀f,f∈l->f.ID≠m.ID:=fun f hf=>by grind
    cases hd:m.HasDefault with
    | false=>grind
    | true=>
     dsimp only;rw[if_pos rfl]
     exact⟨_,rfl,.inr ⟨hno,by unfold om;simp[hd]⟩⟩)
  have hlen:=dX is1;have hall:l.all (okU x)=true:=by
   rw[List.all_eq_true];intro f hfm;unfold okU;cases hF:findM x.Members f.ID with
   | some m=>rfl
   | none=>rw[(hf f hfm).1 hF];rfl
  have hro:cb x.Members (restU x l):=zw hl2.2.1 (fun f hf=>(hl2.1 f hf).2);refine⟨⟨5,false,0,[],0,[],is,restU x l⟩,?_,?_,?_⟩
  . unfold vd5
    grind
  . rw[e5];dsimp only;have hiso:isoB ltF (aZ ts x.Members is (restU x l))=l.map fun f=>(⟨f.ID.toNat,f.Critical,f.Data⟩:Fd):=by
     refine zx (zd (lN hA1 hro) (xZ hA1 hro)) ?_ fun y=>?_
     . rw[List.pairwise_map];refine hl2.2.1.imp_of_mem fun {a b} ha hb hlt=>?_
       have i1:=(hl2.1 a ha).2;have i2:=(hl2.1 b hb).2;unfold I1000 at i1 i2
       grind
     . rw[(cX ltF _).mem_iff];unfold aZ;rw[List.mem_append,List.mem_map,List.mem_map];constructor
       . rintro (hy | ⟨a,a1,rfl⟩)
         . obtain⟨j,j1,j2,j3,rfl⟩:=oO hy
           grind
         . obtain⟨f,f1,f2,rfl⟩:=si a1;refine⟨f,f1,?_⟩;have:=(hf f f1).1 f2;unfold rawF;rw[this]
       . rintro ⟨f,f1,rfl⟩
         cases hF:findM x.Members f.ID with
         | some m=>
          left;obtain⟨m1,m2⟩:=gN hF;obtain⟨j,j1,rfl⟩:=pN ap m1;rcases is2 j j1 with⟨g,g1,g2,g3,g4,g5,_⟩ | ⟨q,_⟩
          . have:g=f:=by
             obtain⟨a,a1,a2⟩:=List.getElem_of_mem g1;obtain⟨b,b1,b2⟩:=List.getElem_of_mem f1;rcases Nat.lt_trichotomy a b with hab | hab | hab
             . have:=List.pairwise_iff_getElem.1 hl2.2.1 a b a1 b1 hab
               grind
             . grind
             . have:=List.pairwise_iff_getElem.1 hl2.2.1 b a b1 a1 hab
               grind
            subst this;have:=zz (ts:=ts) (ms:=x.Members) (l:=is) j1 (by omega) g3
            grind
          grind
         | none=>
          right;refine⟨⟨f.ID,f.Data⟩,?_,?_⟩
          . unfold restU
            grind
          . unfold rawF;rw[(hf f f1).1 hF]
    rw[hiso,List.flatMap_map];exact Ax hp hl
  . rw[lv,if_pos rfl,if_pos k];have:=zA (ts:=ts) (r:=r) (ms:=x.Members) (l:=is) fun j j1 j2 j3=>by grind
    grind
 ·
  unfold vdK;rw[if_neg (by omega),if_neg (by omega),if_neg (by omega),if_neg (by omega),if_neg (by omega),if_pos k];obtain⟨id,q,q1,q2,q3⟩:=h;have einv:=B5 q1;have hpos:=fL id.toNat;have hql:q.length+1<=p.length:=by rw[einv,List.length_append];omega
  have e6:=fun v=>@vpay6 ts t v k
  have lv:=fun v=>gS (ts:=ts) t v
  unfold vd6;rw[q1];dsimp only;generalize ts.getD t.toNat af=x at*;cases hF:findM x.Members id with
  | some m=>
   obtain⟨m1,m2⟩:=gN hF;obtain⟨v,v1,v2,v3⟩:=ih _ _ (by omega) (hC.mem hx m1).1 (hC.mem hx m1).2 (q3 m hF);refine⟨_,by dsimp only;rw[v1];rfl,?_,?_⟩
   . rw[e6];dsimp only;rw[hF];dsimp only;rw[vpays,v2]
     grind
   . rw[lv,if_pos rfl,if_neg (by omega),if_pos k];dsimp only;rw[hF];dsimp only;have:vlevs ts m.Type_ [v]<=r:=pF fun y hy=>by rcases List.mem_cons.1 hy with rfl | hy;exact v3;cases hy
     omega
  | none=>simp_all
 ·
  unfold vdK;rw[if_neg (by omega),if_neg (by omega),if_neg (by omega),if_neg (by omega),if_neg (by omega),if_neg (by omega),if_pos k];obtain⟨l,l1,l2,l3⟩:=h;obtain⟨e1,e2⟩:=hC.elem hx (by omega);obtain⟨o,o1,_,o2,o3⟩:=dW hp;have hl:(∀q,q∈l->q.length<=p.length)/\l.length<=p.length:=by grind
  have e7:=fun v=>@vpay7 ts t v k
  have lv:=fun v=>gS (ts:=ts) t v
  unfold vd7;rw[l1];dsimp only;generalize ts.getD t.toNat af=x at*
  obtain⟨m,m1,m2⟩:=mz (f:=vdec ts r x.Elem) (P:=fun q w=>vpay ts x.Elem w=q/\vlev ts x.Elem w<=r) ([]:List UInt8) ag (l:=l) (fun q hq=>by
   obtain⟨v,v1,v2,v3⟩:=ih _ _ (by have:=hl.1 q hq;omega) e1 e2 (l3 q hq)
   grind)
  obtain⟨f1,f2⟩:=zB (dX m1) m2;refine⟨⟨7,false,0,[],0,[],m,[]⟩,by rw[if_pos l2,m1];rfl,?_,?_⟩
  . rw[e7];dsimp only;rw[f1];exact pY hp l1
  grind
 ·
  unfold vdK;rw[if_neg (by omega),if_neg (by omega),if_neg (by omega),if_neg (by omega),if_neg (by omega),if_neg (by omega),if_neg (by omega),if_pos k];obtain⟨l,l1,l0,l2,l3⟩:=h;obtain⟨e1,e2⟩:=hC.elem hx (by omega);obtain⟨d1,d2⟩:=hC.key hx k;have hky:=hC.S.Ky _ hx k;obtain⟨o,o1,_,o2,o3⟩:=dW hp
  have hl:(∀q,q∈l->q.length<=p.length)/\l.length<=p.length:=by grind
  obtain⟨g1,g2⟩:=tr l0;have e8:=fun v=>@vpay8 ts t v k
  have lv:=fun v=>gS (ts:=ts) t v
  unfold vd8;rw[l1];dsimp only;generalize ts.getD t.toNat af=x at*
  obtain⟨ks,ks1,ks2⟩:=mz (f:=vdec ts r x.Key) (P:=fun q w=>vdec ts r x.Key q=some w/\vpay ts x.Key w=q/\q.length<=90000) ([]:List UInt8) ag (l:=evens l) (fun q hq=>by
   obtain⟨i,i1,i2⟩:=pN ([]:List UInt8) hq;have hql:=hl.1 q (o7 hq);rw[sj [] (by omega)]at i2;have hc:=(l3 i (by omega)).1;rw[i2]at hc;obtain⟨v,v1,v2,v3⟩:=ih _ _ (by omega) d1 d2 hc
   grind)
  obtain⟨m,m1,m2⟩:=mz (f:=vdec ts r x.Elem) (P:=fun q w=>vpay ts x.Elem w=q/\vlev ts x.Elem w<=r) ([]:List UInt8) ag (l:=odds l) (fun q hq=>by
   obtain⟨i,i1,i2⟩:=pN ([]:List UInt8) hq;have hql:=hl.1 q (pE hq);rw[zy [] (by omega)]at i2;have hc:=(l3 i (by omega)).2.1;rw[i2]at hc;obtain⟨v,v1,v2,v3⟩:=ih _ _ (by omega) e1 e2 hc
   grind)
  have hlk:=dX ks1;have hfk:∀i,i < ks.length->FitN ts x.Key ((evens l).getD i []) (ks.getD i ag)/\vpay ts x.Key (ks.getD i ag)=(evens l).getD i []:=fun i hi=>by
   obtain⟨q1,q2,q3⟩:=ks2 i (by omega);exact⟨sM H r _ _ _ q3 d1 d2 q1,q2⟩
  have hkp:vpays ts x.Key ks=evens l:=by
   refine List.ext_getElem (by rw[dw,hlk]) fun i h1 h2=>?_
   have hm:i < ks.length:=by omega
   have e:=jS (ts:=ts) (t:=x.Key) hm
   grind
  have hid:∀i,i < ks.length->(ks.getD i ag).Kind=(ts.getD x.Key.toNat af).Kind/\(0<=(ks.getD i ag).ID\/(ks.getD i ag).Kind≠4):=fun i hi=>by
   have hfit:=(hfk i hi).1.1;rw[cZ]at hfit;obtain⟨⟨_,_,q3,_⟩,q⟩:=hfit;refine⟨q3,?_⟩;have hS:=hC.S.S _ (aB (by omega:x.Key.toNat < ts.length) af);rcases q with q | q | q | q | q | q | q | q | q
   . right;omega
   . right;omega
   . right;omega
   . left;obtain⟨a1,_,_,_,_,_,_,a8⟩:=q;rcases a8 with⟨y,y1,y2⟩ | ⟨_,_,y3⟩
     . have:=hS (by omega) y y1;unfold I1000 at this;omega
     . unfold I1000 at y3;omega
   . right;omega
   . right;omega
   . right;omega
   . right;omega
   omega
  have hasc:ew ks:=by
   intro i hi;have hs:=(l3 (i+1) (by omega)).2.2 (by omega);rw[show 2*(i+1) - 2=2*i by omega]at hs;have p1:=(hfk i (by omega)).2;have p2:=(hfk (i+1) (by omega)).2;rw[sj [] (by omega)]at p1 p2;rw[<-p1,<-p2]at hs
   exact I7 hky (hfk i (by omega)).1.2.1 (hfk (i+1) (by omega)).1.2.1 (hid i (by omega)).1 (hid (i+1) (by omega)).1 (hid i (by omega)).2 (hid (i+1) (by omega)).2 hs
  obtain⟨f1,f2⟩:=zB (dX m1) m2;refine⟨⟨8,false,0,[],0,ks,m,[]⟩,by rw[if_pos ⟨l0,l2⟩,ks1];dsimp only;rw[if_pos (pD.2 hasc),m1];rfl,?_,?_⟩
  . rw[e8];dsimp only;rw[f1,hkp,B9 l l0];exact pY hp l1
  . rw[lv,if_neg (show ¬x.Kind=5 by omega),if_neg (show ¬x.Kind=6 by omega)];dsimp only;have hr:(if ks=[]then 0 else 1)<=r:=by
     by_cases he:ks=[]
     . grind
     . have:0 < ks.length:=List.length_pos_iff.2 he;have hc:=(l3 0 (by omega)).1;cases r with
       | zero=>exact absurd hc (by simp[vcan])
       | succ r=>rw[if_neg he];omega
    omega
 ·
  unfold vdK;rw[if_neg (by omega),if_neg (by omega),if_neg (by omega),if_neg (by omega),if_pos k];obtain⟨e1,e2⟩:=hC.elem hx (by omega);have e9:=fun v=>@vpay9 ts t v k
  have lv:=fun v=>gS (ts:=ts) t v
  generalize ts.getD t.toNat af=x at*;rcases h with h | ⟨q,h,hc⟩
  . subst h;refine⟨_,rfl,?_,by rw[fI rfl rfl];omega⟩;rw[e9];dsimp only;rw[vpays]
  . subst h;obtain⟨v,v1,v2,v3⟩:=ih _ _ (by simp at hp;omega) e1 e2 hc;refine⟨⟨9,false,0,[],0,[],[v],[]⟩,by rw[vd9,if_pos rfl,v1];rfl,?_,?_⟩
    . rw[e9];dsimp only;rw[vpays,v2]
    . rw[lv,if_pos rfl,if_neg (by omega),if_neg (by omega)];dsimp only;have:vlevs ts x.Elem [v]<=r:=pF fun y hy=>by rcases List.mem_cons.1 hy with rfl | hy;exact v3;cases hy
      omega
theorem AC(H:DrOk ts):∀(r:Nat) (t:Int) (p:List UInt8),p.length<=90000->0<=t->t < ts.length->vcan ts r t p->CanD ts r t p
 | 0,t,p,_,_,_,h=>by rw[vcan]at h;exact absurd h id
 | r+1,t,p,hp,t0,t1,h=>KW H (AC H r) hp t0 t1 h
end
theorem HZ {s : av} (H : SOk s.Types) {v : ab} (hv : OkV v) (hw : wt v <= 1099511627776) {t : Int} (hf : vfit s.Types false t v) (hc : ft (s, t, v) = some 0):
 lM (s,t,v)=some (encA s.Types t v):=by
 have h1:=Ag H hv hw hf;have hc':ft ((⟨s.Types⟩:av),t,v)=some 0:=hc;rw[lM];simp only[ab.aD];rw[hc',h1];simp only[oZ4,oZ3];rw[if_neg (by simp)];unfold encA;generalize vpay s.Types t v=p;generalize vlev s.Types t v=l;by_cases g:4096 < p.length
 . rw [if_pos (by have : (4096 : Int) < p.length := by omega
                  simp[this]),if_pos (.inl g)]
 . by_cases g2:200 < l
   . rw [if_pos (by have : ¬ (4096 : Int) < p.length := by omega
                    have h2:(200:Int) < l:=by omega
                    simp[this,h2]),if_pos (.inr g2)]
   . rw [if_neg (by have : ¬ (4096 : Int) < p.length := by omega
                    have h2:¬(200:Int) < l:=by omega
                    simp[this,h2]),if_neg (by omega)]
theorem KX{ts:List ae}(H:DrOk ts){t:Int}{v:ab}(hv:FitW ts t v):lM ((⟨ts⟩:av),t,v)=some (encA ts t v):=
 HZ (s:=⟨ts⟩) (H.V.sok H.T) hv.2.1 (Nat.le_trans hv.2.2 (by decide)) hv.1 (HT H.T H.V hv.2.1 hv.1).1
noncomputable def decA (ts:List ae) (t:Int) (m:List UInt8):ab×Int:=
 if t < 0\/(ts.length:Int)<=t then(vz,4)else if 4096 < m.length then(vz,12)else match vdec ts 200 t m with
  | some v=>(v,0)
  | none=>(vz,12)
theorem xa(ts:List ae)(t:Int)(m:List UInt8):(∃e,e≠0/\decA ts t m=(vz,e))\/∃v,decA ts t m=(v,0)/\(0<=t/\t < ts.length)/\m.length<=4096/\vdec ts 200 t m=some v:=by
 unfold decA;by_cases h1:t < 0\/(ts.length:Int)<=t
 . rw[if_pos h1];exact .inl ⟨4,by omega,rfl⟩
 . rw[if_neg h1];by_cases h2:4096 < m.length
   . rw[if_pos h2];exact .inl ⟨12,by omega,rfl⟩
   . rw[if_neg h2];cases hv:vdec ts 200 t m with
     | none=>exact .inl ⟨12,by omega,rfl⟩
     | some v=>exact .inr ⟨v,rfl,by omega,by omega,rfl⟩
section
variable {ts:List ae}
theorem H0(H:DcOk ts)(t:Int)(m:List UInt8):nS ((⟨ts⟩:av),t,m)=some (decA ts t m):=by
 rw[nS,rA,(se H.S.T H.V).1];simp only[oZ4,oZ3];unfold decA;by_cases h1:t < 0\/(ts.length:Int)<=t
 . have c:(bif decide (t < 0)then true else decide ((ts.length:Int)<=t))=true:=by rcases h1 with h1 | h1 <;> simp[h1]
   rw[if_neg (by simp),if_pos c,if_pos h1];rfl
 . have c:¬(bif decide (t < 0)then true else decide ((ts.length:Int)<=t))=true:=by
    have a:¬t < 0:=fun h=>h1 (.inl h)
    have b:¬(ts.length:Int)<=t:=fun h=>h1 (.inr h)
    simp[a,b]
   by_cases h2:4096 < m.length
   . rw[if_neg (by simp),if_neg c,if_pos (by simp;omega),if_neg h1,if_pos h2];rfl
   . have d1:=Av H 200 (by omega) t m [] 0 [] (by omega) (by omega) (by omega) rfl;rw[if_neg (by simp),if_neg c,if_neg (by simp;omega),if_neg h1,if_neg h2];cases hv:vdec ts 200 t m with
     | none=>
      obtain⟨w,f1,f2,hw⟩:=d1.2 hv;rw[hw];rfl
     | some v=>
      rw[d1.1 v hv];simp[ab.aD]
noncomputable def fwdA (ts:List ae) (t:Int) (m:List UInt8):List UInt8×Int:=if(decA ts t m).2=0 then encA ts t (decA ts t m).1 else([],(decA ts t m).2)
theorem zC(H:DrOk ts){t:Int}{m:List UInt8}(ht:0<=t/\t < ts.length)(hm:m.length<=4096){v:ab}(h:vdec ts 200 t m=some v):FitW ts t v:=by
 obtain⟨a,b,c⟩:=sM H 200 t m v (by omega) ht.1 ht.2 h;exact⟨a,b,by omega⟩
theorem GG(H:DrOk ts)(t:Int)(m:List UInt8):nT ((⟨ts⟩:av),t,m)=some (fwdA ts t m):=by
 rw[nT,H0 H.dc];unfold fwdA;rcases xa ts t m with⟨e,he,hd⟩ | ⟨v,hd,ht,hm,hv⟩
 . rw[hd];simp[he]
 . rw[hd];simp only[oZ4,oZ3,ab.aD];rw[KX H (zC H ht hm hv)];simp
theorem LW(H:DrOk ts){t:Int}{m:List UInt8}(ht:0<=t/\t < ts.length)(hm:m.length<=4096)(h:vcan ts 200 t m):fwdA ts t m=(m,0):=by
 obtain⟨v,v1,v2,v3⟩:=AC H 200 t m (by omega) ht.1 ht.2 h;have hd:decA ts t m=(v,0):=by
  unfold decA;rw[if_neg (by omega),if_neg (by omega),v1]
 unfold fwdA;rw[hd,if_pos rfl];unfold encA;rw[v2,if_neg]
 rintro (h | h)
 . omega
 . have:vlev ts t v > 200:=h;omega
theorem LX(H:DrOk ts){t:Int}{m a:List UInt8}(h:fwdA ts t m=(a,0)):(0<=t/\t < ts.length)/\a.length<=4096/\vcan ts 200 t a:=by
 unfold fwdA at h;rcases xa ts t m with⟨e,he,hd⟩ | ⟨v,hd,ht,hm,hv⟩
 . rw[hd,if_neg he]at h;have:e=0:=by simpa using congrArg Prod.snd h
   exact absurd this he
 . rw[hd,if_pos rfl]at h;unfold encA at h;obtain⟨f1,f2,f3⟩:=zC H ht hm hv;split at h
   . have:=congrArg Prod.snd h;simp at this
   . rename_i hc;have e:vpay ts t v=a:=congrArg Prod.fst h;have hl:¬4096 < (vpay ts t v).length:=fun h=>hc (.inl h)
     have hv2:¬200 < vlev ts t v:=fun h=>hc (.inr h)
     refine⟨ht,by rw[<-e];exact Nat.le_of_not_lt hl,?_⟩;rw[<-e];exact HV H f2 (Nat.le_trans f3 (by decide)) (Nat.le_trans (Nat.le_of_not_lt hl) (by decide)) f1 (Nat.le_of_not_lt hv2)
theorem E0{d:aU}(hd:DOk d)(t:Int)(m:List UInt8):nv (d,t,m)=some true:=by
 rw[nv];rcases of_ok hd with h | ⟨l,h,H⟩
 . rw[h,tC];rfl
 . rw[h,tC];simp only[oZ4,oZ3];split
   . rfl
   . rename_i hc;obtain⟨b,b1,b2,b3⟩:=Fa H t m;have F1:=GG H t m;have ht:nF ((⟨l⟩:av),t,m)=some b:=by
      rw[nF,F1];simp only[oZ4,oZ3]
      congr 1
      cases hb:b with
      | true=>
       obtain⟨t0,t1,t2,t3⟩:=b3.1 hb;rw[LW H ⟨t0,t1⟩ t2 t3];simp
      | false=>
       by_cases h0:(fwdA l t m).2=0
       . by_cases h1:(fwdA l t m).1=m
         . exfalso
           obtain⟨a,b',c⟩:=LX H (show fwdA l t m=(m,0)from Prod.ext h1 h0);have:=b3.2 ⟨a.1,a.2,b',c⟩;rw[hb]at this;cases this
         . simp[h0,h1]
       . simp[h0]
     rw[ht,b1,b2];cases b <;> rfl
theorem law_RelayTransparent(h:Hs Un.D [.nm tM,.int .i64,.str])(hk:Ok Un [.nm tM,.int .i64,.str] h):nv h=some true:=by
 obtain⟨d,t,m⟩:=h;exact E0 (LE (NT hk ⟨.slice (.nm qo),d.Nodes⟩ (.head _))) t m
end
end
end Go.Proofs.YtijpinendaoleaaGreat
