/- The functions of the program as functions of Lean, that its code does what they say, and what they answer; part D. -/
import Derived.Test.YtandcioiaooocaaGreatMdC

namespace Go.Proofs.YtandcioiaooocaaGreat
set_option linter.all false
section
open Go Go.Proofs.YtandcioiaooocaaGreat.Shv Go.Sort
set_option maxRecDepth 100000
theorem sM{α β:Type}{f:α->Option β}(da:α)(db:β):∀{l:List α} {m:List β},m.length=l.length->(∀j,j < l.length->f (l.getD j da)=some (m.getD j db))->seqO f l=some m
 | [],[],_,_=>rfl
 | [],b::m,h,_=>by simp at h
 | a::l,[],h,_=>by simp at h
 | a::l,b::m,h,hf=>by
  have h0:f a=some b:=hf 0 (by simp);rw[se,h0,sM da db (l:=l) (m:=m) (by simpa using h) fun j hj=>hf (j+1) (by simpa using hj)];rfl
theorem wc :∀{a b:List (List UInt8)},a.length=b.length->evens (weave a b)=a/\odds (weave a b)=b
 | [],[],_=>⟨rfl,rfl⟩
 | [],_::_,h=>by simp at h
 | _::_,[],h=>by simp at h
 | x::a,y::b,h=>by
  obtain⟨h1,h2⟩:=wc (a:=a) (b:=b) (by simpa using h);exact⟨by rw[weave,evens,h1],by rw[weave,odds,h2]⟩
theorem NZ{m:aj}{v:ab}:om m v=true↔m.HasDefault=true/\m.Default=v:=by unfold om;simp
theorem LR(m:aj)(l:List aj)(id:Int):fI (m::l) id=if m.ID=id then some 0 else(fI l id).map (· +1):=by
 unfold fI;rw[List.findIdx?_cons];by_cases h:m.ID=id <;> simp[h]
section
variable {tw tr:List ae}
theorem HI {ms : List aj} (hm : ∀ m, m ∈ ms -> I1000 m.ID): ∀ {l : List ab}, l.length = ms.length -> (ms.Pairwise fun a b => a.ID < b.ID) -> ∀ id : Int, ((vents tw ms l).map fdS).find? (fun f => decide (f.ID = id)) =
 match fI ms id with
 | none=>none
 | some i=>if om (ms.getD i ag) (l.getD i af)=true then none else some ⟨id,(ms.getD i ag).Critical,vpay tw (ms.getD i ag).Type_ (l.getD i af)⟩:=by
 induction ms with
 | nil=>intro l hl _ id;rw[vents] <;> simp[fI]
 | cons m ms ih=>
  intro l hl hp id;cases l with
  | nil=>simp at hl
  | cons v l=>
   rw[List.pairwise_cons]at hp;have hmi:=hm m (.head _);unfold I1000 at hmi;have e:((m.ID.toNat:Nat):Int)=m.ID:=by omega
   have rc:=ih (fun q hq=>hm q (.tail _ hq)) (l:=l) (by simpa using hl) hp.2 id;rw[vents,LR];by_cases hid:m.ID=id
   . rw[if_pos hid];by_cases ho:om m v=true
     . rw[if_pos ho,rc];have hn:fI ms id=none:=by
        cases hq:fI ms id with
        | none=>rfl
        | some j=>
         obtain⟨j1,j2,_⟩:=cB hq;have:=hp.1 _ (aB j1 ag);omega
       rw[hn];show none=if om m v=true then none else _
       rw[if_pos ho]
     . rw[if_neg ho,List.map_cons,List.find?_cons];have hd:decide ((fdS ⟨m.ID.toNat,m.Critical,vpay tw m.Type_ v⟩).ID=id)=true:=decide_eq_true (by show((m.ID.toNat:Nat):Int)=id;omega);rw[hd];show some _=if om m v=true then none else _
       rw[if_neg ho];show some (⟨((m.ID.toNat:Nat):Int),m.Critical,vpay tw m.Type_ v⟩:aY)=_;rw[e,hid];rfl
   . rw[if_neg hid];have tail:(((vents tw ms l).map fdS).find? fun f=>decide (f.ID=id))=match (fI ms id).map (· +1)with
      | none=>none
      | some i=>if om ((m::ms).getD i ag) ((v::l).getD i af)=true then none else some ⟨id,((m::ms).getD i ag).Critical,vpay tw ((m::ms).getD i ag).Type_ ((v::l).getD i af)⟩:=by
      rw[rc];cases fI ms id <;> rfl
     by_cases ho:om m v=true
     . rw[if_pos ho,tail]
     . rw[if_neg ho,List.map_cons,List.find?_cons];have hd:decide ((fdS ⟨m.ID.toNat,m.Critical,vpay tw m.Type_ v⟩).ID=id)=false:=decide_eq_false (by show ¬((m.ID.toNat:Nat):Int)=id;omega);rw[hd];simp only;rw[tail]
theorem xd{y:ae}{path:List Int}:∀{ms:List aj} {l:List ab} {r:List aG},(∀m,m∈ms->I1000 m.ID)->rrest tw y path ms l= .inl r->((vents tw ms l).map fdS).all (okU y)=true/\restU y ((vents tw ms l).map fdS)=r
 | [],l,r,_,h=>by
  rw[rrest]at h
  . cases h;rw[vents] <;> simp[restU]
  . intros;simp_all
 | m::ms,[],r,_,h=>by
  rw[rrest]at h
  . cases h;rw[vents] <;> simp[restU]
  . intros;simp_all
 | m::ms,v::l,r,hm,h=>by
  have hmi:=hm m (.head _);unfold I1000 at hmi;have e:((m.ID.toNat:Nat):Int)=m.ID:=by omega
  have rc:=fun {r}=>xd (y:=y) (path:=path) (ms:=ms) (l:=l) (r:=r) fun q hq=>hm q (.tail _ hq)
  have hf:fdS ⟨m.ID.toNat,m.Critical,vpay tw m.Type_ v⟩=⟨m.ID,m.Critical,vpay tw m.Type_ v⟩:=by show(⟨((m.ID.toNat:Nat):Int),m.Critical,vpay tw m.Type_ v⟩:aY)=_;rw[e]
  rw[rrest]at h;rw[vents];by_cases c1:(findM y.Members m.ID).isSome=true
  . rw[if_pos c1]at h;obtain⟨a,b⟩:=rc h;by_cases ho:om m v=true
    . rw[if_pos ho];exact⟨a,b⟩
    . rw[if_neg ho,List.map_cons,hf];refine⟨by rw[List.all_cons,a];simp[okU,c1],?_⟩;unfold restU at b ⊢;rw[List.filter_cons,if_neg (by simp[c1])];exact b
  rw[if_neg c1]at h;by_cases c2:m.Critical=true
  . rw[if_pos c2]at h;cases h
  rw[if_neg c2]at h;by_cases ho:om m v=true
  . rw[if_pos ho]at h ⊢;exact rc h
  . rw[if_neg ho]at h ⊢;obtain⟨u,us,e1,e2,rfl⟩:=o0 h;cases e1;obtain⟨a,b⟩:=rc e2;rw[List.map_cons,hf];refine⟨by rw[List.all_cons,a];simp[okU,c2],?_⟩;unfold restU at b ⊢;rw[List.filter_cons,if_pos (by simp[c1]),List.map_cons,b]
def DecRd(tw tr:List ae)(n:Nat):Prop:=∀{v:ab},OkV v->wt v<=3000->∀{t rt:Int} {path:List Int} {u:ab},vfit tw true t v->0<=rt->rt < tr.length->vread tw tr n t v rt path= .inl u->∀m,vlev tw t v<=m->vdec tr m rt (vpay tw t v)=some u
theorem HK(HW:DrOk tw)(HR:DrOk tr){n:Nat}(ih:DecRd tw tr n):DecRd tw tr (n+1):=by
 intro v hv hw t rt path u hf r0 r1 h m hm;have SW:=HW.V.sok HW.T;have SR:=HR.V.sok HR.T;have hwt:=wt_eq v;have hsm:=iM HW hv t hf hw;unfold Sm at hsm;have hlp:=KD (ts:=tw) t v;obtain⟨m,rfl⟩:∃k,m=k+1:=⟨m - 1,by omega⟩
 have hle:=sX (ts:=tw) t v;have hkk:∀q,q∈v.Keys->(if v.Keys=[]then 0 else 1)=1:=fun q hq=>if_neg fun e=>by rw[e]at hq;cases hq
 generalize (if v.Keys=[]then 0 else 1)=kk at hle hkk;obtain⟨⟨g1,g2,g3,g4⟩,hc⟩:=(cn _ _ _).1 hf;have hR:=g4 rfl;have hj:t.toNat < tw.length:=by omega
 have hjr:rt.toNat < tr.length:=by omega
 have hmem:=aB hj ap;have hmr:=aB hjr ap;have P1:=fun h=>vpay1 (ts:=tw) (t:=t) (v:=v) h
 have P2:=fun h=>vpay2 (ts:=tw) (t:=t) (v:=v) h
 have P3:=fun h=>vpay3 (ts:=tw) (t:=t) (v:=v) h
 have P4:=fun h=>vpay4 (ts:=tw) (t:=t) (v:=v) h
 have P5:=fun h h1 h2=>w9 (ts:=tw) (t:=t) (v:=v) h h1 h2
 have P6:=fun h=>vpay6 (ts:=tw) (t:=t) (v:=v) h
 have P7:=fun h=>vpay7 (ts:=tw) (t:=t) (v:=v) h
 have P8:=fun h=>vpay8 (ts:=tw) (t:=t) (v:=v) h
 have P9:=fun h=>vpay9 (ts:=tw) (t:=t) (v:=v) h
 rw[oM]at h;rw[x9];generalize hx:tw.getD t.toNat ap=x at*;generalize hy:tr.getD rt.toNat ap=y at*;cases hv with
 | mk _ hs h1 h2 h3 hk hi hrd n1 n2 n3 n4=>
 have hpl:(vpay tw t v).length<=90000:=by omega
 have LV5:x.Kind=5->∀c,c<=vlevm tw x.Members v.Items->c<=m:=fun h c hc=>by rw[if_pos h]at hle;exact tq hle hm hc
 have LV6:x.Kind=6->∀mm,findM x.Members v.ID=some mm->∀c,c<=vlevs tw mm.Type_ v.Items->c<=m:=fun h mm hF c hc=>by
  rw[if_neg (by rw[h];decide),if_pos h,hF]at hle;exact tq hle hm hc
 have LV7:7<=x.Kind->∀c,c<=vlevs tw x.Elem v.Items->c<=m:=fun h c hc=>by
  rw[if_neg (fun e=>by rw[e]at h;exact absurd h (by decide)),if_neg (fun e=>by rw[e]at h;exact absurd h (by decide))]at hle;exact tq hle hm hc
 have LVK:∀q,q∈v.Keys->1<=m:=fun q hq=>by
  rw[hkk q hq]at hle;exact LB hle hm rfl
 clear hle hm hlp hsm hkk;have sI:∀y,y∈v.Items->wt y<=3000:=fun y hy=>by have:=bp hy;omega
 have sK:∀y,y∈v.Keys->wt y<=3000:=fun y hy=>by have:=bp hy;omega
 have hK:x.Kind=y.Kind:=by
  by_cases e:x.Kind=y.Kind
  . exact e
  . rw[Bv e]at h;cases h
 have leaf:x.Kind<=4->u=v/\rleaf x y v:=fun h4=>by
  by_cases hl:rleaf x y v
  . rw[my hK h4 hl]at h;cases h;exact⟨rfl,hl⟩
  . rw[pU hK h4 hl]at h;cases h
 have seq:∀{t rt:Int} {i:Nat} {l us:List ab},(∀q,q∈l->OkV q/\wt q<=3000/\vfit tw true t q/\vlev tw t q<=m)->0<=rt->rt < tr.length->bO (vread tw tr n) path t rt i l= .inl us->seqO (vdec tr m rt) (vpays tw t l)=some us/\us.length=l.length:=fun {t rt i l us} hl a0 a1 hp=>by
  obtain⟨b1,b2⟩:=lY hp;refine⟨sM [] af (by rw[gD,b1]) fun j hj=>?_,b1⟩;rw[gD]at hj;rw[Hy hj];obtain⟨q1,q2,q3,q4⟩:=hl _ (aB hj af);exact ih q1 q2 q3 a0 a1 (b2 j hj) m q4
 unfold vdK;rcases hc with h' | h' | h' | h' | h' | h' | h' | h' | h'
 . obtain⟨rfl,_⟩:=leaf (by omega);rw[if_pos (by omega),P1 (by omega)];obtain⟨a1,a2,a3,a4,a5,a6,a7⟩:=h';unfold vd1;cases hb:u.Bool_ with
   | true=>
    rw[if_pos (show true=true from rfl),if_neg (show ¬([1]:List UInt8)=[] by simp),if_pos (show([1]:List UInt8)=[1]from rfl)];cases u;simp_all
   | false=>
    rw[if_neg (show ¬false=true by simp),if_pos (show([]:List UInt8)=[]from rfl)];cases u;simp_all
 . obtain⟨rfl,hl⟩:=leaf (by omega);obtain⟨a1,a2,a3,a4,a5,a6,a7,a8,a9⟩:=h';rw[if_neg (by omega),if_pos (by omega),P2 (by omega)];have hz:=Ly (n:=u.Int_) n2;unfold vd2;rw[yY (pT n2)];simp only;rw[hz,if_pos (hl.1 (by omega))];cases u;simp_all
 . obtain⟨rfl,hl⟩:=leaf (by omega);obtain⟨a1,a2,a3,a4,a5,a6,a7,a8⟩:=h';rw[if_neg (by omega),if_neg (by omega),if_pos (by omega),P3 (by omega)];unfold vd3;rw[if_pos (hl.2.1 (by omega))];cases u;simp_all
 . obtain⟨rfl,hl⟩:=leaf (by omega);obtain⟨a1,a2,a3,a4,a5,a6,a7,a8⟩:=h';have hI:I1000 u.ID:=by
    rcases a8 with⟨y,y1,y2⟩ | ⟨_,h,_⟩
    . rw[<-y2];exact SW.S _ hmem (by omega) y y1
    . cases h
   unfold I1000 at hI;obtain⟨k,hk⟩:∃k:Nat,u.ID=(k:Int):=⟨u.ID.toNat,by omega⟩
   rw[if_neg (by omega),if_neg (by omega),if_neg (by omega),if_pos (by omega),P4 (by omega),hk,av];unfold vd4;rw[yY (by omega)];simp only;have hs:((y.Symbols.any fun y=>decide (y.ID=(k:Int))) || y.Open)=true:=by
    rcases hl.2.2 (by omega)with q | q
    . rw[hk]at q;rw[Ag.1 q];rfl
    . rw[q];simp
   rw[if_pos ⟨by omega,by omega,hs⟩];cases u;simp_all
 . obtain⟨a1,a2,a3,a4,a5,a6,a7,a8⟩:=h';rw[rdK5 hK (by omega)]at h;obtain⟨m1,m2⟩:=SW.A _ hmem (.inl (by omega));obtain⟨f1,f2⟩:=dy.1 a8;obtain⟨is,e1,h⟩:=o4 h;obtain⟨r,e2,rfl⟩:=eB h;obtain⟨b1,b2⟩:=sf e1;obtain⟨c1,c2⟩:=xd m1.2 e2;have hp5:=P5 (by omega) hR m1
   rw[if_neg (by omega),if_neg (by omega),if_neg (by omega),if_neg (by omega),if_neg (by omega),if_neg (by omega),if_neg (by omega),if_neg (by omega),hp5];unfold vd5
   rw[KN (yd m1) (fun f hf=>by
    have:=vh (ts:=tw) (ms:=x.Members) (l:=v.Items) (r:=[]) m1 ⟨.nil,fun x hx=>by cases hx⟩ (x:=f) (by unfold dj;simpa using hf)
    exact this) (by rw[<-hp5];exact hpl)]
   simp only;have hseq:seqO (vmem (vdec tr m) ((vents tw x.Members v.Items).map fdS)) y.Members=some is:=sM ag af b1 fun j hj'=>by
    have hmy:=aB hj' ag;unfold vmem;rw[HI m1.2 f1 m1.1];rcases za (b2 j hj')with⟨c1,c2,c3⟩ | ⟨i,c1,c2,c3⟩
    . rw[c1];simp only;rw[if_pos c2,c3]
    . rw[c1];obtain⟨d1,_,_⟩:=cB c1;simp only;by_cases ho:om (x.Members.getD i ag) (v.Items.getD i af)=true
      . rw[if_pos ho];obtain⟨o1,o2⟩:=NZ.1 (c3 ho);simp only;rw[if_pos o1,o2]
      . rw[if_neg ho];simp only;have hmv:=aB (by omega:i < v.Items.length) af;obtain⟨q0,q1⟩:=HR.dc.mem hmr hmy;have hlv:=x3 (ts:=tw) (ms:=x.Members) (l:=v.Items) d1 (by rw[f1];exact d1) (by simpa using ho);exact ih (hi _ hmv) (sI _ hmv) (f2 i d1) q0 q1 c2 m (LV5 (by omega) _ hlv)
   rw[hseq];simp only;rw[if_pos c1,c2]
 . obtain⟨a1,a2,a3,a4,a5,a6⟩:=h';rw[rdK6 hK (by omega)]at h;unfold rd6 at h;obtain⟨m1,m2⟩:=SW.A _ hmem (.inr (by omega));cases hF:findM x.Members v.ID with
   | none=>rw[hF]at a6;cases a6.2.1
   | some mm=>
    rw[hF]at a6;obtain⟨b1,b2,b3⟩:=a6;have hsome:=kh x.Members v.ID;rw[hF]at hsome;cases hI:fI x.Members v.ID with
    | none=>rw[hI]at hsome;cases hsome
    | some i=>
    obtain⟨d1,d2,_⟩:=cB hI;obtain⟨d3,d4⟩:=fH hF;have em:x.Members.getD i ag=mm:=mg m1 (aB d1 ag) d3 (by rw[d2,d4]);have hid:I1000 v.ID:=by rw[<-d4];exact m1.2 mm d3
    unfold I1000 at hid;obtain⟨k,hk'⟩:∃k:Nat,v.ID=(k:Int):=⟨v.ID.toNat,by omega⟩
    have hmv:=aB (by omega:0 < v.Items.length) af;have hq:vpays tw mm.Type_ v.Items=[vpay tw mm.Type_ (v.Items.getD 0 af)]:=by
     match hv:v.Items,b2 with
     | [a],_=>rw[vpays,vpays];rfl
    have hp:vpay tw t v=vput k++vpay tw mm.Type_ (v.Items.getD 0 af):=by
     rw[P6 (by omega),hF];show _++(vpays tw mm.Type_ v.Items).headD []=_;rw[hq,hk',av];rfl
    rw[if_neg (by omega),if_neg (by omega),if_neg (by omega),if_neg (by omega),if_neg (by omega),if_pos (by omega),hp];unfold vd6;rw[NY (by omega)];simp only;rw[<-hk'];simp only[hI,em]at h;cases hY:fI y.Members v.ID with
    | some j=>
     simp only[hY]at h;obtain⟨w,e1,rfl⟩:=eB h;obtain⟨j1,j2,_⟩:=cB hY;have hmy:=aB j1 ag;obtain⟨q0,q1⟩:=HR.dc.mem hmr hmy;have hFy:findM y.Members v.ID=some (y.Members.getD j ag):=by rw[<-j2];exact yZ (SR.A _ hmr (.inr (by omega))).1 hmy
     rw[hFy];simp only;have hlv:=lX (ts:=tw) (t:=mm.Type_) hmv;rw[ih (hi _ hmv) (sI _ hmv) (aU.1 b3 _ hmv) q0 q1 e1 m (LV6 (by omega) mm hF _ hlv)];rfl
    | none=>
     simp only[hY]at h;have hFy:findM y.Members v.ID=none:=by
      have:=kh y.Members v.ID;rw[hY]at this;cases hq:findM y.Members v.ID with
      | none=>rfl
      | some _=>rw[hq]at this;cases this
     rw[hFy];simp only;split at h
     . cases h;rename_i ho;rw[if_pos ho]
     . cases h
 . obtain⟨a1,a2,a3,a4,a5,a6,a7,a8,a9⟩:=h';rw[rdK7 hK (by omega)]at h;unfold rd7 at h;split at h
   . rename_i hM;obtain⟨is,e1,rfl⟩:=eB h;obtain⟨q0,q1⟩:=HR.dc.elem hmr (by omega);have hp:=P7 (by omega);obtain⟨s1,s2⟩:=seq (fun q hq=>⟨hi q hq,sI q hq,aU.1 a9 q hq,LV7 (by omega) _ (lX hq)⟩) q0 q1 e1;rw[if_neg (by omega),if_neg (by omega),if_neg (by omega),if_neg (by omega),if_neg (by omega),if_neg (by omega),if_pos (by omega),hp];unfold vd7
     rw[Ae (by rw[<-hp];exact hpl)];simp only;rw[if_pos (by rw[gD];omega),s1];rfl
   . cases h
 . obtain⟨a1,a2,a3,a4,a5,a6,a7,a8,a9,a10,a11⟩:=h';rw[rdK8 hK (by omega)]at h;unfold rd8 at h;split at h
   . rename_i hM;obtain⟨ks,e0,h⟩:=o4 h;obtain⟨is,e1,rfl⟩:=eB h;obtain⟨q0,q1⟩:=HR.dc.elem hmr (by omega);obtain⟨q2,q3⟩:=HR.dc.key hmr (by omega);have hp:=P8 (by omega);obtain⟨s1,s2⟩:=seq (fun q hq=>⟨hi q hq,sI q hq,aU.1 a10 q hq,LV7 (by omega) _ (lX hq)⟩) q0 q1 e1;have hKy:=(SW.Ky _ hmem (by omega))
     have hkl:∀q,q∈v.Keys->vlev tw x.Key q<=m:=fun q hq=>by
      have hl1:=LVK q hq;have e:vlev tw x.Key q=1:=by
       obtain⟨⟨_,_,k3,_⟩,kc⟩:=(cn _ _ _).1 (aU.1 a9 q hq);refine Iz ?_ ?_
       . rcases kc with k | k | k | k | k | k | k | k | k
         . exact k.2.2.2.2.1
         . exact k.2.2.2.2.1
         . exact k.2.2.2.2.1
         . exact k.2.2.2.2.1
         all_goals (exfalso;omega)
       . rcases kc with k | k | k | k | k | k | k | k | k
         . exact k.2.2.2.2.2.1
         . exact k.2.2.2.2.2.1
         . exact k.2.2.2.2.2.1
         . exact k.2.2.2.2.2.1
         all_goals (exfalso;omega)
      rw[e];exact hl1
     obtain⟨s3,s4⟩:=seq (fun q hq=>⟨hk q hq,sK q hq,aU.1 a9 q hq,hkl q hq⟩) q2 q3 e0;have ek:=yc (fun v rt path u h=>ya hKy.2 h) e0;subst ek;have hlen:(vpays tw x.Key v.Keys).length=(vpays tw x.Elem v.Items).length:=by rw[gD,gD];omega
     obtain⟨w1,w2⟩:=wc hlen;have wl:=xY _ _ hlen;rw[gD,gD]at wl;rw[if_neg (by omega),if_neg (by omega),if_neg (by omega),if_neg (by omega),if_neg (by omega),if_neg (by omega),if_neg (by omega),if_pos (by omega),hp,sd];unfold vd8;rw[Ae (by rw[<-sd,<-hp];exact hpl)];simp only;rw[if_pos ⟨by rw[wl];omega,by rw[wl];omega⟩,w1,w2,s3];simp only
     rw[if_pos (sH.2 a11),s1];rfl
   . cases h
 . obtain⟨a1,a2,a3,a4,a5,a6,a7,a8,a9⟩:=h';rw[rdK9 hK (by omega)]at h;obtain⟨is,e1,rfl⟩:=eB h;obtain⟨q0,q1⟩:=HR.dc.elem hmr (by omega);obtain⟨s1,s2⟩:=seq (fun q hq=>⟨hi q hq,sI q hq,aU.1 a9 q hq,LV7 (by omega) _ (lX hq)⟩) q0 q1 e1;rw[if_neg (by omega),if_neg (by omega),if_neg (by omega),if_neg (by omega),if_pos (by omega),P9 (by omega)]
   match hV:v.Items,a8 with
   | [],_=>
    rw[hV,vpays]at s1;cases s1;rw[vpays];rfl
   | [a],_=>
    rw[hV,vpays,vpays]at s1;rw[vpays,vpays];rw[se]at s1;show((if(1:UInt8)=1 then(vdec tr m y.Elem (vpay tw x.Elem a)).map _ else none):Option ab)=_;rw[if_pos rfl];cases hd:vdec tr m y.Elem (vpay tw x.Elem a)with
    | none=>rw[hd]at s1;cases s1
    | some w=>
     rw[hd]at s1;cases s1;rfl
theorem zi(HW:DrOk tw)(HR:DrOk tr):∀n,DecRd tw tr n
 | 0=>fun _ _ _ _ _ _ _ _ _ h=>by cases h
 | n+1=>HK HW HR (zi HW HR n)
end
theorem IZ{ts:List ae}(hT:∀t,t∈ts->OkT t)(hV:VOk ts){v:ab}(hv:OkV v){t:Int}(hf:vfit ts false t v):lg ((⟨ts⟩:az),t,v)=some 0:=by
 have HS:=hV.sok hT;obtain⟨⟨g1,g2,_⟩,_⟩:=(cn _ _ _).1 hf;obtain⟨q,q1,q2⟩:=yK (by have:=HS.n;omega) hT HS.K hv t false;have hr:=q2.2 hf;subst hr;have c1:¬t < 0:=by omega
 have c2:¬(ts.length:Int)<=t:=by omega
 rw[lg,(oZ hT hV).2];simp only[oZ4,oZ3];rw[if_neg (by simp),if_neg (by simp[c1,c2]),qp];simp only[ab.aA];rw[q1];rfl
theorem Gm{c:dI}(hc:CaseIn c):nb c=some true:=by
 rw[nb];rcases LP hc with⟨w,r,t,v,e⟩ | ⟨tw,tr,t,v,e,C⟩
 . rw[e];simp only[oZ4,oZ3,tA];rfl
 . rw[e];simp only[oZ4,oZ3,tA,Bool.not_true,cond_false,ab.aA];have hsm:=iM C.W C.o t C.f C.w;have hcw:=C.w;unfold Sm at hsm;rw[if_neg (by simp),HC (s:=⟨tw⟩) (C.W.V.sok C.W.T) C.o (by omega) (vfit_weak _ _ C.f) (IZ C.W.T C.W.V C.o (vfit_weak _ _ C.f))];simp only[oZ3];by_cases hl:200 < vlev tw t v
   . have he:encA tw t v=([],3):=by unfold encA;rw[if_pos (.inr hl)]
     rw[he];rfl
   . have he:encA tw t v=(vpay tw t v,0):=by
      unfold encA;rw[if_neg];omega
     have t0:=C.t0;have t2:=C.t2;have hp:(vpay tw t v).length<=4096:=by omega
     have hdec:lE ((⟨tr⟩:az),t,vpay tw t v)=some (decA tr t (vpay tw t v)):=HD C.R.dc _ _;have hA:∀{r:ab×Int},(match vdec tr 200 t (vpay tw t v)with | some v=>(v,0) | none=>(vz,12))=r->decA tr t (vpay tw t v)=r:=fun {r} h=>by
      unfold decA;rw[if_neg (by omega),if_neg (by omega)];rw[<-h];cases vdec tr 200 t (vpay tw t v) <;> rfl
     rw[he];simp only[decide_true,Bool.not_true,Bool.false_eq_true,if_false];rw[wb C.W C.R C.o C.w C.f C.t0 C.t2];simp only[oZ3];rw[hdec];cases h:vrd tw tr t v t with
     | inl u=>
      rw[hA (r:=(u,0)) (by rw[zi C.W C.R 3000 C.o C.w C.f C.t0 C.t2 h 200 (by omega)])];obtain⟨q,q1,q2⟩:=KO (zh C.W C.R C.o C.w C.f C.t0 C.t2 h).1 u;have hq:=q2.2 rfl;subst hq;simp only[RA,oZ3,decide_true,if_true];rw[q1];rfl
     | inr p=>
      cases hd:vdec tr 200 t (vpay tw t v)with
      | none=>
       rw[hA (r:=(vz,12)) (by rw[hd])];rfl
      | some w=>
       rw[hA (r:=(w,0)) (by rw[hd])];obtain⟨b,b1,b2⟩:=IY C.W C.R C.o C.w C.f C.t0 C.t2 w;have hb:b=false:=by
        cases b with
        | false=>rfl
        | true=>have:=b2.1 rfl;rw[h]at this;cases this
       subst hb;simp[RA,b1]
theorem law_MeaningDecode(h:Hs Un.D [.nm ql])(hk:Ok Un [.nm ql] h):nb h=some true:=Gm (law_in (okOne hk))
end
end Go.Proofs.YtandcioiaooocaaGreat
