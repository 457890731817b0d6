/- The library of this proof, part D: an abstract machine for the code of the program, and its soundness. -/
import Derived.KernelRfl
import Derived.Shelf.Strings.Builder1
import Derived.ChangeArms
import Derived.ChangeStays
import Derived.ChangeSame
import Derived.SizedLaws
import Derived.Below
import Derived.WalkKit
import Derived.ProofKit
import Derived.OpenShut
import Derived.Laws.BitsLemmas
import Derived.Laws.Bits64
import Derived.Shelf.GgSortFunc.InsertionK
import Derived.Shelf.SlSortCmp.Insertion
import Derived.Sort.AssemblyPlain
import Derived.Lib.BitFns
import Derived.Laws.IdiomRangeMap
import Derived.Shelf.Strconv.Itoa3
import Derived.Maps.RangeRun
import Derived.Test.YtopcfbelfjclmaaGreatDoorCkLC

namespace Go.Proofs.YtopcfbelfjclmaaGreatDoor.Shv
set_option linter.all false
section
open Go
variable {xb:ba}
variable {U:cM}{R:Type}
def oD(gl:eH)(gd:ag (Nat×J))(dst:ag Nat):J:=
 match dst with
 |none=>true
 |some d=>(gl.all λe=>!(Nat.beq e.1 d) && !(Nat.beq e.2.1 d))&&(match gd with
  |some g=>!(Nat.beq g.1 d)
  |none=>true)
def gX(dst:ag Nat)(v:bP U)(env:b3 U):b3 U:=
 match dst with
 |none=>env
 |some d=>(d,v)::env
def iP(gl:eH)(gd:ag (Nat×J))(dst:ag Nat):eH:=
 match gd,dst with
 |some g,some d=>(d,g)::gl
 |_,_=>gl
abbrev fQ(U:cM):=Nat->I (cP U)
abbrev ll(U:cM):=b3 U->ag (I (bP U))
def VC(s:cP U)(c:ll U)(env:b3 U)(σ:bl U)(key:Nat):ag (b3 U×bl U×ba×a6 U.D s.ts):=
 match c env with
 |none=>none
 |some vs=>match xT σ 0 0 s.st (DJ s.fJ vs ([],[])) []with
  |(bs,d)=>match kH d env σ with
   |none=>none
   |some (env',σ')=>match c env' with
    |none=>none
    |some e=>match tU bs&&((bs.all λb=>Nat.ble (b+1) key)&&(Nat.beq bs.length s.st.length&&Nat.ble s.eT.length (bs.length+16)))with
     |false=>none
     |true=>match mV bs s.fJ e,i' bs σ' 0 s.st with
      |some a,some b=>match a6.dec U.D s.ts (a++b)with
       |some h=>some (env',σ',bs,h)
       |none=>none
      |_,_=>none
def x8(b:ll U)(env:b3 U)(σ:bl U)(key:Nat)(k:b3 U->bl U->bP U->ag R):I (cP U)->ag R
 |[]=>none
 |s::r=>match VC s b env σ key with
  |none=>x8 b env σ key k r
  |some (env',σ',bs,h)=>(s.F h)>>=λa=>match o6 σ' (s.rest a) 0 bs with
   |none=>none
   |some c=>ite c (k env' (nO σ' bs (back bs key) (s.rest a)) ((s.res a).cu (back bs key))) none
def isNil{α:Type}:I α->J
 |[]=>true
 |_=>false
def Hq(s:cP U)(b:ll U)(env:b3 U):ag (a6 U.D s.ts):=
 match isNil s.st&&isNil s.eT,b env with
 |true,some vs=>match vs.all hb,mV [] s.fJ vs with
  |true,some a=>a6.dec U.D s.ts a
  |_,_=>none
 |_,_=>none
def x7(a:ll U)(env:b3 U)(g:J)(k:bP U->ag R):I (cP U)->ag R
 |[]=>none
 |s::r=>match Hq s a env with
  |none=>x7 a env g k r
  |some h=>(if g then s.F h else some (a6.mY U s.us))>>=λb=>match hb (s.res b)with
   |true=>k (s.res b)
   |false=>none
def hasB(σ:bl U)(b:Nat):J:=match a8 σ b with
 |some _=>true
 |none=>false
def bx.jJ(σ:bl U):bx U->J
 |.t _|.dY .. |.bV|.fp|.fm=>true
 |.ptr b _=>hasB σ b
 |.cW b _ _ _=>hasB σ b
 |.fn _ caps=>caps.all (hasB σ)
 |.arr b=>match a8 σ b with
  |some x=>(match x.dq with
   |some _=>true
   |none=>false)
  |none=>false
 |.sub .. =>false
 |.pre .. =>false
 |.hP .. =>false
 |.mp b=>hasB σ b
 |.eF _=>false
 |.cN b=>match a8 σ b with
  |some x=>(match x.dq with
   |some p=>Nat.beq p.1 1
   |none=>false)
  |none=>false
 |.dead=>false
def kV(σ:bl U):bP U->J
 |.c x=>x.jJ σ
 |.agg cs=>cs.all (bx.jJ σ)
 |.bf vs=>go σ vs
where go (σ:bl U):I (bP U)->J
 |[]=>true
 |v::vs=>kV σ v&&go σ vs
def bx.iz(σ:bl U):bx U->C
 |.t c=>.t (c.bJ U)
 |.dY ty x o=>.dY (ty.bJ U x) o
 |.bV=>.bV
 |.fp=>.fp
 |.fm=>.fm
 |.fn f caps=>.fn f caps
 |.ptr b o=>.ptr b o
 |.cW b ty i o=>.cW b (ty.sz U) i o
 |.arr b=>match a8 σ b with
  |some x=>(match x.dq with
   |some p=>.arr b p.1 0 p.2
   |none=>.dead)
  |none=>.dead
 |.sub b a len=>.gf b 1 a len
 |.pre _ _=>.dead
 |.hP .. =>.dead
 |.mp b=>.mp b
 |.eF b=>.eF b
 |.cN b=>match a8 σ b with
  |some x=>(match x.dq with
   |some p=>.cN b p.2
   |none=>.dead)
  |none=>.dead
 |.dead=>.dead
def ix(σ:bl U):bP U->V
 |.c x=>.c (x.iz σ)
 |.agg cs=>.agg (cs.map (bx.iz σ))
 |.bf vs=>.bf (go σ vs)
where go (σ:bl U):I (bP U)->I V
 |[]=>[]
 |v::vs=>ix σ v::go σ vs
def gE(σ:bl U):c1 U->J
 |.box cs=>cs.all (bx.jJ σ)
 |.arr _ _=>true
 |.rows .. =>false
 |.set _=>true
 |.buf _ _=>true
 |.cm _ c=>c.jJ σ
 |.cR .. =>false
def s0(σ:bl U):c1 U->b9
 |.box cs=>.box (cs.map (bx.iz σ))
 |.arr ty l=>.arr (ty.sz U) (l.map (ty.bJ U))
 |.rows sz _=>.arr sz []
 |.set ks=>.set ks
 |.buf E s=>.buf E s
 |.cm E c=>.cm E (c.iz σ)
 |.cR t l i o _=>.cR (t.sz U) (l.map (t.bJ U)) i o .dead
def kS(σ:bl U):bl U->bg
 |[]=>[]
 |(b,x)::r=>(b,s0 σ x)::kS σ r
def Kz(σ:bl U)(l:bl U):J:=l.all λp=>Nat.ble (p.1+1) 16&&gE σ p.2
def Hp(s:cP U)(b:ll U)(env:b3 U):ag (a6 U.D s.ts):=
 match isNil s.st&&Nat.ble s.eT.length 16,b env with
 |true,some vs=>match vs.all hb,mV [] s.fJ vs with
  |true,some a=>a6.dec U.D s.ts a
  |_,_=>none
 |_,_=>none
def BL(b:ll U)(env:b3 U)(σ:bl U)(key:Nat)(k:bl U->bP U->ag R):I (cP U)->ag R
 |[]=>none
 |s::r=>match Hp s b env with
  |none=>BL b env σ key k r
  |some h=>(s.F h)>>=λa=>match kV (s.rest a) (s.res a)&&Kz (s.rest a) (s.rest a)with
   |true=>k (nO σ [] (back [] key) (s.rest a)) ((s.res a).cu (back [] key))
   |false=>none
def bx.gq:bx U->ba
 |.ptr b _|.cW b _ _ _|.arr b|.sub b _ _|.pre b _|.hP b _ _|.mp b|.eF b|.cN b=>[b]
 |.fn _ caps=>caps
 |_=>[]
def bP.gq:bP U->ba
 |.c x=>x.gq
 |.agg cs=>cs.flatMap bx.gq
 |.bf _=>[]
def mu(l:ba)(b:Nat):J:=l.any λc=>Nat.beq c b
def VD(xb:ba)(s:cP U)(d:ll U)(env:b3 U)(σ:bl U)(key:Nat):ag (ba×a6 U.D s.ts):=
 match d env with
 |none=>none
 |some vs=>match xT σ 0 0 s.st (DJ s.fJ vs ([],[])) []with
  |(bs,c)=>match isNil c&&(tU bs&&((bs.all λb=>Nat.ble (b+1) key&&((mu (vs.flatMap bP.gq) b||mu xb b)&&hasB σ b))&&(Nat.beq bs.length s.st.length&&(Nat.ble bs.length s.eT.length&&Nat.ble s.eT.length (bs.length+16)))))with
   |false=>none
   |true=>match mV bs s.fJ vs,i' bs σ 0 s.st with
    |some a,some b=>match a6.dec U.D s.ts (a++b)with
     |some h=>some (bs,h)
     |none=>none
    |_,_=>none
def JU(n:Nat)(σ:bl U)(l:bl U):J:=l.all λp=>Nat.ble (p.1+1) n&&gE σ p.2
def xH(xb:ba)(b:ll U)(env:b3 U)(σ:bl U)(key:Nat)(k:bl U->bP U->ag R):I (cP U)->ag R
 |[]=>none
 |s::r=>match VD xb s b env σ key with
  |none=>xH xb b env σ key k r
  |some (bs,h)=>(s.F h)>>=λa=>match kV (s.rest a) (s.res a)&&JU (bs.length+16) (s.rest a) (s.rest a),o6 σ (s.rest a) 0 bs with
   |true,some c=>ite c (k (nO σ bs (back bs key) (s.rest a)) ((s.res a).cu (back bs key))) none
   |_,_=>none
def ahS(a:ll U)(env:b3 U)(l:I (cP U)):J:=l.any λs=>(Hp s a env).isSome
def ahT(a:ll U)(env:b3 U)(l:I (cP U)):J:=l.any λs=>(Hq s a env).isSome
def akb(gd:ag (Nat×J))(a:ll U)(env:b3 U)(l:I (cP U)):J:=
 match gd with
 |some _=>!(ahT a env l)
 |none=>false
def ah1(d:ag ba):ba:=match d with
 |some l=>l
 |none=>[]
def I9(fo:fQ U)(d:ag ba)(gd:ag (Nat×J))(f:Nat)(a:ll U)(gl:eH)(env:b3 U)(σ:bl U)(key:Nat)(k:b3 U->bl U->bP U->ag R):ag R:=
 match gd with
 |none=>match d with
  |none=>x8 a env σ key k (fo f)
  |some xb=>match ahS a env (fo f)with
   |true=>BL a env σ key (λσ v=>k env σ v) (fo f)
   |false=>xH xb a env σ key (λσ v=>k env σ v) (fo f)
 |some _=>match lK gl env qY gd with
  |some g=>x7 a env g (λv=>k env σ v) (fo f)
  |none=>none
abbrev kd:=I (Nat×J)
def vP(nf:kd)(gl:eH):Nat->ag (Nat×J)->J
 |0,_=>false
 |_,none=>false
 |a+1,some (t,b)=>(nf.any λg=>Nat.beq g.1 t&&(g.2==b))||vP nf gl a (a8 gl t)
def lx(nf:kd)(dst:ag Nat):J:=
 match dst with
 |none=>true
 |some d=>nf.all λg=>!(Nat.beq g.1 d)
def FV:bP U:= .c (.t ⟨.bool,false⟩)
def sM(fo:fQ U)(d:ag ba)(o:cf)(key:Nat)(gl:eH)(nf:kd)(env:b3 U)(σ:bl U)(k:eH->kd->b3 U->bl U->ag R):ag R:=
 match oD gl o.guard o.dst&&lx nf o.dst with
 |false=>none
 |true=>match vP nf gl qY o.guard with
  |true=>match lK gl env qY o.guard with
   |some _=>k (iP gl o.guard o.dst) nf (gX o.dst FV env) σ
   |none=>none
  |false=>match o.op with
   |.call f args=>match akb o.guard (λe=>lV gl o.guard e args) env (fo f)with
    |true=>match lK gl env qY o.guard,o.guard with
     |some g,some gd=>if g then xH (ah1 d) (λe=>lV gl o.guard e args) env σ key (λσ v=>k (iP gl o.guard o.dst) nf (gX o.dst v env) σ) (fo f)else k (iP gl o.guard o.dst) (gd::nf) (gX o.dst FV env) σ
     |_,_=>none
    |false=>I9 fo d o.guard f (λe=>lV gl o.guard e args) gl env σ key λenv σ v=>k (iP gl o.guard o.dst) nf (gX o.dst v env) σ
   |.iv x args=>match d,o.guard,dr gl none env x with
    |none,none,some (.c (.fn f _))=>x8 (λe=>match dr gl none e x,lV gl none e args with
     |some (.c (.fn i a)),some vs=>match Nat.beq i f with
      |true=>some (vs++a.map λb=>.c (.ptr b 0))
      |false=>none
     |_,_=>none) env σ key (λenv σ v=>k gl nf (gX o.dst v env) σ) (fo f)
    |some _,none,some (.c (.fn f []))=>x7 (λe=>lV gl none e args) env true (λv=>k gl nf (gX o.dst v env) σ) (fo f)
    |_,_,_=>none
   |op=>match cG gl o.guard env σ key op with
    |none=>none
    |some (c,v,σ')=>match o.guard with
     |none=>ite c (k gl nf (gX o.dst v env) σ') none
     |some gd=>match lK gl env qY (some gd)with
      |none=>none
      |some g=>match op.cE with
       |true=>ite (c || !g) (k (iP gl o.guard o.dst) nf (gX o.dst v env) σ) none
       |false=>if g then(ite c (k (iP gl o.guard o.dst) nf (gX o.dst v env) σ') none)else k (iP gl o.guard o.dst) (gd::nf) (gX o.dst FV env) σ
def Vw(σ:bl U):bx U->I (Nat×aL)
 |.arr b=>match a8 σ b with
  |some (.arr t _)=>[(b,t)]
  |_=>[]
 |_=>[]
def aka(σ:bl U):bP U->I (Nat×aL)
 |.c x=>Vw σ x
 |.agg cs=>cs.flatMap (Vw σ)
 |.bf _=>[]
def Hm(gl:eH)(gd:ag (Nat×J))(env:b3 U)(σ:bl U)(xs:I aS):I (Nat×aL):=
 xs.flatMap λx=>match dr gl gd env x with
  |some v=>aka σ v
  |none=>[]
def Cc(l:I (Nat×aL))(env:b3 U)(σ:bl U):ag (b3 U×bl U):=
 match l with
 |[]=>none
 |_=>kH l env σ
def Ho(gl:eH)(o:cf)(env:b3 U)(σ:bl U):ag (b3 U×bl U):=
 match o.op with
 |.slc _ x _ _=>match dr gl o.guard env x with
  |some (.c (.arr b))=>match a8 σ b with
   |some (.arr t _)=>kH [(b,t)] env σ
   |_=>none
  |_=>none
 |.call _ args=>match o.guard with
  |some _=>Cc (Hm gl o.guard env σ args) env σ
  |none=>none
 |.bsliceT _ _ _ _ ps=>Cc (Hm gl o.guard env σ (ps.map Prod.snd)) env σ
 |.bslice _ _ _ ps=>Cc (Hm gl o.guard env σ (ps.map Prod.snd)) env σ
 |_=>none
def FK(fo:fQ U)(d:ag ba)(o:cf)(key:Nat)(gl:eH)(nf:kd)(env:b3 U)(σ:bl U)(k:eH->kd->b3 U->bl U->ag R):ag R:=
 match d with
 |some xb=>sM fo (some xb) o key gl nf env σ k
 |none=>match Ho gl o env σ with
  |none=>sM fo none o key gl nf env σ k
  |some p=>sM fo none o key gl nf p.1 p.2 k
def oy(fo:fQ U)(d:ag ba):I cf->Nat->eH->kd->b3 U->bl U->(eH->b3 U->bl U->ag R)->ag R
 |[],_,gl,_,env,σ,k=>k gl env σ
 |o::r,key,gl,nf,env,σ,k=>FK fo d o key gl nf env σ λgl nf env σ=>oy fo d r (key+16) gl nf env σ k
def CM(gl:eH)(k:Nat):J:=gl.any λe=>Nat.beq e.1 k
def clean(gl:eH):b3 U->b3 U
 |[]=>[]
 |(k,v)::r=>match CM gl k with
  |true=>clean gl r
  |false=>(k,v)::clean gl r
def tV(gl:eH)(env:b3 U):b3 U:=
 match gl with
 |[]=>env
 |_=>clean gl env
structure eQ (key:Nat)(gl:eH)(nf:kd)(env:b3 U)(σ:bl U)(env1:Env)(σ1:bg)(G:Nat->Bool):Prop where
 hn:c6 key σ G env env1
 av:hf gl env G
 e1:cB key σ σ1
 aI:∀g,g∈nf->cU env G (some g)=false
variable{N:Nat}{o:cf}{K:Env->bg->Prop}
section
variable {P:Program}{kk key:Nat}{σ σ':bl U}{σ1 bz:bg}{env:b3 U}{env1:Env}{G:Nat->J}{gl:eH}{gd:ag (Nat×J)}{nf:kd}{dst:ag Nat}{v:bP U}{v1:V}
theorem Kg{d:ag Nat}{k:Nat}:a8 (gX d v env) k=if d=some k then some v else a8 env k:=by
 cases d with
 |none=>rfl
 |some d=>
  grind[gX,a8,c7,ib]
theorem FL{o:ag (Nat×J)}{g:J}(h:lK gl env qY o=some g):o=none\/∃t b y,o=some (t,b)/\fA env t b=some y:=by
 cases o with
 |none=>simp
 |some x=>
  grind[aeB]
theorem Od(av:hf gl env G)(aI:∀g,g∈nf->cU env G (some g)=false):∀{a:Nat} {gd:ag (Nat×J)},vP nf gl a gd->cU env G gd=false
 |0,gd,h=>by grind[vP]
 |a+1,none,h=>by grind[vP]
 |a+1,some (t,b),h=>by
  simp only[vP,lN,su,dh]at h;rcases h with⟨⟨f,c⟩,e,h1,d⟩|h;grind[c7];have:=Od av aI h;rw[av.a8 t]at this;grind[cU]
theorem eQ.bind(he:c6 key σ' G env env1)(av:hf gl env G)(aG:cB key σ' bz)(aI:∀g,g∈nf->cU env G (some g)=false)(H:b7 key σ' v v1)(u:gd=none\/∃t b y,gd=some (t,b)/\fA env t b=some y)(x:oD gl gd dst)(f:lx nf dst):
 eQ key (iP gl gd dst) nf (gX dst v env) σ' (eB env1 dst (cU env G gd) v1) bz (λk=>if dst=some k then cU env G gd else G k):=by
 refine⟨λk w a=>?_,?_,aG,λg j=>?_⟩
 . rw[Kg]at a;rw[nj];split at a
   grind;rename_i h;rw[au h,au h];exact he k w a
 . cases dst with
   |none=>
    have:iP gl gd none=gl:=by cases gd<;>rfl
    simp_all[gX,reduceCtorEq,cF]
   |some d=>
    simp only[oD,dh,gk,CX]at x;have E:∀k t b,a8 gl k=some (t,b)->k≠d/\t≠d:=by
     intro k t b a;have F:∀{l:eH},a8 l k=some (t,b)->(k,t,b)∈l:=by
      intro l;induction l with
      |nil=>grind[a8]
      |cons e r ih=>
       obtain⟨K,e⟩:=e;intro h;simp only[a8]at h;split at h;simp_all;grind
     grind[ib]
    have D:∀t b,t≠d->fA (gX (some d) v env) t b=fA env t b:=by
     intro t b ht;unfold fA;rw[Kg,au (by grind)]
    have p:∀k t b,a8 gl k=some (t,b)->∃y,fA (gX (some d) v env) t b=some y/\(if some d=some k then cU env G gd else G k)=((if some d=some t then cU env G gd else G t)&&y):=by
     intro k t b a;obtain⟨y,A,B⟩:=av.held k t b a;grind
    cases gd with
    |none=>
     refine⟨λk a=>?_,λk t b a=>p k t b a⟩;by_cases c:some d=some k;rw[ah c];rfl;rw[au c];exact av.free k a
    |some g=>
     obtain⟨t0,b0⟩:=g;have z:t0≠d:=by
      grind[Bool.not_eq_true',ib]
     refine⟨λk a=>?_,λk t b a=>?_⟩
     . simp only[iP,a8]at a;split at a
       grind;rw[au (by grind[ib])];exact av.free k a
     . simp only[iP,a8]at a;split at a
       . rename_i q;cases a;have:=c7 q;subst this;rcases u with h|⟨t,b,y,h,al⟩
         grind;cases h;refine⟨y,by grind,?_⟩;rw[ah rfl,au (by simp;exactλe=>z e.symm)];simp[cU,al]
       exact p k t b a
 . obtain⟨t,b⟩:=g;have h0:=aI _ j;cases dst with
   |none=>simpa[gX]using h0
   |some d=>
    simp only[lx,gk,CX]at f;have o:t≠d:=ib (f _ j);simp only[cU]at h0⊢;rw[au (by simp;exactλe=>o e.symm)];have:fA (gX (some d) v env) t b=fA env t b:=by
     unfold fA;rw[Kg,au (by simp;exactλe=>o e.symm)]
    rw[this];exact h0
theorem JV:b7 N σ FV (.c (.t (.bool false))):= .c (.t _)
theorem Fj(h:eQ key gl nf env σ env1 σ1 G)(c:o.guard=none\/∃t b y,o.guard=some (t,b)/\fA env t b=some y)(av:cU env G o.guard=false)(d:oD gl o.guard o.dst)(e:lx nf o.dst)(f:b7 (key+16) σ v v1):
 DStep xb P o key env1 σ1 false v1 σ1/\eQ (key+16) (iP gl o.guard o.dst) nf (gX o.dst v env) σ (eB env1 o.dst false v1) σ1 (λk=>if o.dst=some k then false else G k):=by
 have a:=Fh h.hn c;rw[av]at a;refine⟨.skip a rfl,?_⟩;have:=eQ.bind (h.hn.mono (du.more (by simp))) h.av (h.e1.mono (Nat.le_add_right _ 16)) h.aI f c d e;grind
theorem Pw{c:J}(h:eQ key gl nf env σ env1 σ1 G)(aa:cG gl o.guard env σ key o.op=some (c,v,σ'))(d:o.guard=none\/∃t b y,o.guard=some (t,b)/\fA env t b=some y)(i:oD gl o.guard o.dst)(j:lx nf o.dst):
 (cU env G o.guard->c=true->∃v1 bz,DStep xb P o key env1 σ1 true v1 bz/\eQ (key+16) (iP gl o.guard o.dst) nf (gX o.dst v env) σ' (eB env1 o.dst true v1) bz (λk=>if o.dst=some k then true else G k))/\
 (cU env G o.guard=false->o.op.cE->∃v1,DStep xb P o key env1 σ1 false v1 σ1/\eQ (key+16) (iP gl o.guard o.dst) nf (gX o.dst v env) σ (eB env1 o.dst false v1) σ1 (λk=>if o.dst=some k then false else G k)):=by
 obtain⟨⟨v1,f,m⟩,r,aI⟩:=Nc h.hn h.av h.e1 aa;have g:=Fh h.hn d;refine⟨λav n=>?_,λav s=>?_⟩
 . obtain⟨p,bz,h1,a,l⟩:=m av n;rw[av]at g;have q:o.op.drawn:=by
    generalize o.op=u at aa;cases u<;>first|rfl|(simp[cG]at aa)
   have hs:DStep xb P o _ _ σ1 _ v1 _:= .op g q h1 (λ_=>a) (.inr rfl);have e:(if o.op.cE then σ1 else bz)=bz:=by
    grind[zY]
   rw[e]at hs;refine⟨v1,bz,hs,?_⟩;have:=eQ.bind (h.hn.mono r) h.av l h.aI f d i j;grind
 rw[aI s]at f;obtain⟨h1,a⟩:=Fj h d av i j f;exact⟨v1,h1,a⟩
theorem Oe{x:bx U}(h:x.sF):x.pn.b8 []=x.pn:=by
 cases x<;>simp[bx.sF]at h<;>try rfl
 rename_i f caps;cases caps with
 |nil=>rfl
 |cons=>grind
theorem Kh:∀{x:bP U},hb x->(fW x).b8 []=fW x
 |.c x,h=>by grind[hb,fW,V.b8,Oe]
 |.agg cs,h=>by
  grind[hb,fW,V.b8,List.map_congr_left,Oe]
 |.bf vs,h=>by
  simp[fW,V.b8];rw[go vs h]
where go:∀(vs:I (bP U)),hb.go vs->V.b8.go [] (fW.go vs)=fW.go vs
 |[],_=>rfl
 |v::vs,h=>by
  simp[hb.go]at h;simp[fW.go,V.b8.go,Kh h.1,go vs h.2]
def fR(P:Program)(fo:fQ U):Prop:=∀f s,s∈fo f->s.f=f/\hE P f/\hU P s
theorem Ki{a:bl U}{x:bx U}{d:C}(h:cr N a x d)(hs:x.jJ a):d=x.iz a:=by
 cases h<;>simp[bx.jJ]at hs<;>try rfl
 grind[bx.iz];grind[bx.iz]
theorem Ep{a:bl U}:∀{vs:I (bP U)} {i:Nat},(ix.go a vs)[i]?=(vs[i]?).map (ix a)
 |[],i=>by rfl
 |v::vs,0=>by rfl
 |v::vs,i+1=>by simp[ix.go,Ep]
theorem KW{a:bl U}:∀{vs:I (bP U)} {i:Nat} {v:bP U},kV.go a vs->vs[i]?=some v->kV a v=true
 |[],i,v,_,h=>by grind
 |x::vs,0,v,hs,h=>by grind[kV.go]
 |x::vs,i+1,v,hs,h=>by simp[kV.go]at hs;exact KW hs.2 (by simpa using h)
theorem IC{a:bl U}:∀{xs:I (bx U)} {ds:I C},bb (cr N a) xs ds->(∀x,x∈xs->x.jJ a)->ds=xs.map (bx.iz a)
 |[],[],_,_=>rfl
 |x::xs,d::ds,.cons h1 b,hs=>by
  rw[mB,<-Ki h1 (hs x (by simp)),<-IC b (λx aa=>hs x (by grind))]
theorem Pc{a:bl U}{x:bP U}{d:V}(h:b7 N a x d):kV a x->d=ix a x:=by
 induction h with
 |c h=>intro hs;rw[Ki h hs];rfl
 |agg h=>
  grind[kV,ix,IC]
 |bf xs ds ak h ih=>
  intro hs;congr 1
  apply xz;intro i;rw[Ep];cases aa:xs[i]? with
  |none=>grind
  |some x=>
   have e:=(ed.1 aa).1;have b:=e0 (l:=ds) (i:=i) (by omega);rw[b];congr 1;exact ih i x _ aa b (KW hs aa)
theorem Px{a:bl U}{x:c1 U}{y:b9}(h:h8 N a x y)(hs:gE a x):y=s0 a x:=by
 cases h with
 |box h=>grind[gE,s0,IC]
 |arr t l=>rfl
 |set ks=>rfl
 |buf E s=>rfl
 |cm h=>grind[gE,s0,Ki]
 |cR=>grind[gE]
 |rows=>grind[gE]
theorem A2{a:bl U}:∀{l:bl U} {b:Nat},aV (kS a l) b=(a8 l b).map (s0 a)
 |[],b=>rfl
 |(k,x)::r,b=>by
  simp[kS,aV,a8];cases h:Nat.beq k b with
  |true=>simp_all
  |false=>rw[au (ib h)];exact A2
theorem RL{k:Nat}:∀{v:V},v.cu (back [] k)=v.sh k
 |.c x=>by rfl
 |.agg cs=>by rfl
 |.bf vs=>by simp[V.cu,V.sh];rw[go vs]
where go:∀(vs:I V),V.cu.go _ vs=V.sh.go k vs
 |[]=>rfl
 |v::vs=>by simp only[V.cu.go,V.sh.go];rw[RL,go vs]
theorem Nl{k:Nat}:∀{s:bg},hI σ1 [] (back [] k) s=mT σ1 k s
 |[]=>rfl
 |(b,x)::r=>by
  simp[hI];rw[Nl];rfl
theorem Fz:∀{ss:I dL} {j:Nat} {a:e2 U} {i:Nat} {x:c1 U},a8 (hL j ss a) i=some x->j<=i/\i<j+ss.length
 |[],j,a,i,x,h=>by grind[hL,a8]
 |s::ss,j,a,i,x,h=>by
  simp[hL]at h;split at h
  . simp[a8]at h;split at h
    simp_all;have:=Fz h;grind
  have:=Fz h;grind
theorem ME{bs:ba}:∀{caps:ba},(∀c,c∈caps->pos bs c=some c)->qh bs caps=some caps
 |[],_=>rfl
 |c::cs,h=>by simp[qh,h c _,ME (caps:=cs) (λx aa=>h x (by grind))]
theorem w1{a:bl U}(e:∀b x,a8 a b=some x->b<N){x:bx U}(hs:x.jJ a):cr N a x (x.iz a)/\dQ ((x.iz a).b8 (List.range N)) (x.iz a):=by
 have ar:∀b,hasB a b->pos (List.range N) b=some b:=by
  grind[hasB,ns]
 cases x with
 |t c=>exact⟨.t c,dQ.refl _⟩
 |ptr b o=>
  refine⟨.ptr b o,?_⟩;simp only[bx.iz,C.b8,ar b hs];exact dQ.refl _
 |cW b ty i o=>
  refine⟨.cW b ty i o,?_⟩;simp only[bx.iz,C.b8,ar b hs];exact dQ.refl _
 |dY ty x o=>exact⟨.dY ty x o,dQ.refl _⟩
 |arr b=>
  simp only[bx.jJ]at hs;split at hs
  . rename_i y al;split at hs
    . rename_i p d;simp only[bx.iz,al,d];refine⟨.arr b p.1 p.2 (e b y al) λz j q g=>?_,?_⟩
      grind;grind[C.b8,hasB,dQ.refl]
    grind
  grind
 |hP b k len=>grind[bx.jJ]
 |sub b k len=>grind[bx.jJ]
 |pre b h=>grind[bx.jJ]
 |mp b=>
  refine⟨.mp b,?_⟩;simp only[bx.iz,C.b8,ar b hs];exact dQ.refl _
 |eF b=>grind[bx.jJ]
 |cN b=>
  simp only[bx.jJ]at hs;split at hs
  . rename_i y al;split at hs
    . rename_i p d;simp only[bx.iz,al,d];refine⟨.cN b p.2 (e b y al) λz j q g=>?_,?_⟩
      grind[c7];grind[C.b8,hasB,dQ.refl]
    grind
  grind
 |bV=>exact⟨.bV,dQ.refl _⟩
 |fp=>exact⟨.fp,dQ.refl _⟩
 |fm=>exact⟨.fm,dQ.refl _⟩
 |fn f caps=>
  simp only[bx.jJ]at hs;refine⟨.fn f caps,?_⟩;grind[ME,bx.iz,C.b8,dQ.refl]
 |dead=>grind[bx.jJ]
theorem wO{a:bl U}(c:∀b x,a8 a b=some x->b<N):∀{xs:I (bx U)},(∀x,x∈xs->x.jJ a)->bb (cr N a) xs (xs.map (bx.iz a))/\bb dQ ((xs.map (bx.iz a)).map (C.b8 (List.range N))) (xs.map (bx.iz a))
 |[],_=>⟨.nil,.nil⟩
 |x::xs,hs=>by
  obtain⟨h1,d⟩:=w1 c (hs x (by simp));obtain⟨e,f⟩:=wO c (xs:=xs) (λx aa=>hs x (by grind));exact⟨.cons h1 e,.cons d f⟩
theorem Lk{a:bl U}:∀{vs:I (bP U)},(ix.go a vs).length=vs.length
 |[]=>rfl
 |v::vs=>by simp[ix.go,Lk]
theorem AO{N:Nat}{a:bl U}(e:∀b x,a8 a b=some x->b<N):∀{x:bP U},kV a x->b7 N a x (ix a x)/\gY ((ix a x).b8 (List.range N)) (ix a x)
 |.c x,hs=>by
  obtain⟨h1,f⟩:=w1 e (x:=x) (by grind[kV]);exact⟨.c h1,.c f⟩
 |.agg cs,hs=>by
  simp[kV,gk]at hs;obtain⟨h1,f⟩:=wO e hs;exact⟨.agg h1,.agg f⟩
 |.bf vs,hs=>by
  have:=go e vs hs;refine⟨.bf _ _ (by rw[Lk]) λi x d aa g=>?_,.bf _ _ (by rw[Eo]) λi x y aa al=>?_⟩;grind[Ep];grind[Ef,Ep]
where go {N:Nat} {a:bl U} (e:∀b x,a8 a b=some x->b<N):∀(vs:I _),kV.go a vs->∀x,x∈vs->b7 N a x (ix a x)/\gY ((ix a x).b8 (List.range N)) (ix a x)
 |[],_=>by simp
 |v::vs,hs=>by
  simp[kV.go]at hs;have h1:=AO e hs.1;have f:=go e vs hs.2;grind
theorem LP {fo:fQ U}(ab:fR P fo){o:cf}{f:Nat}{args:I aS}(ai:o.op= .call f args)(h:eQ key gl nf env σ env1 σ1 G)(w:o.guard=none)(Y:oD gl o.guard o.dst)(Z:lx nf o.dst)
 {k:bl U->bP U->ag R}{r:R}:∀{ss:I (cP U)},(∀s,s∈ss->s∈fo f)->BL (λe=>lV gl o.guard e args) env σ key k ss=some r->
 ∃v v1 σ' bz,k σ' v=some r/\DStep xb P o key env1 σ1 true v1 bz/\eQ (key+16) (iP gl o.guard o.dst) nf (gX o.dst v env) σ' (eB env1 o.dst true v1) bz (λi=>if o.dst=some i then true else G i)
 |[],_,aa=>by grind[BL]
 |s::ss,af,aa=>by
  simp only[BL]at aa;split at aa;exact LP ab ai h w Y Z (λs hs=>af s (by grind)) aa
  . rename_i ad ar;unfold Hp at ar;split at ar
    . rename_i vs ah aj;simp only[dh]at ah;split at ar
      . rename_i a H au;rw[gk]at H;obtain⟨aF,aR,aG⟩:=ab f s (af s (by simp));obtain⟨p,B,b1,b2,an⟩:=ub h.hn h.av aj;have aH:s.st=[]:=(by grind[isNil]);have O:=ic ah.2;obtain⟨g,hres,C⟩:=lb.1 aa;split at C
        . rename_i z;simp only[dh]at z;obtain⟨aP,f1,ak,g1⟩:=vB (N:=key) (σc:=([]:bl U)) (xm) (λj b aO aU=>by grind) au
          obtain⟨M,aJ,ao,c3⟩:=g1 B b2.length (λi x d aa q=>by
           obtain⟨L,h1,u⟩:=b2.get aa
           rw[q]at h1;cases h1;omega)
          have aT:a6.cells U.D s.ts ad=a:=a6.mX ar;have aw:s.args ad=aP:=by
           unfold cP.args;have:=f1 [];grind
          have T:s.iL ad=[]:=by unfold cP.iL;rw[aH];rfl
          have ae:s.st.length=0:=by grind
          have W:=aG ad g hres M [] (by
           rw[aw,T,ae]
           refine bb.lO (by rw[ak,aJ,b2.length]) λi x d aa q=>c3 i x d aa q) (by rw[T];intro b x aa;grind[a8])
          rw[aF,ae]at W;have aK:bb gY B M:=by
           refine bb.lO aJ.symm λi d L q aA=>?_;have aj:=ao i d L q aA;obtain⟨x,aa,F⟩:=(b2.flip (R':=λd x=>b7 key σ x d) λ_ _ h=>h).get q;have hs:=H x (fr aa);have:=AN F hs;grind[Kh]
          have ay:=eo.conv aK (σ:=[]) (λb aO aa=>by grind[aV]) W;have n:∀b x,a8 (s.rest g) b=some x->b<16/\gE (s.rest g) x:=by
           intro b x aa;have aD:∀{l:bl U},a8 l b=some x->(b,x)∈l:=by
            intro l;induction l with
            |nil=>grind[a8]
            |cons e r ih=>
             obtain⟨aW,e⟩:=e;intro h;simp only[a8]at h;split at h;simp_all;grind
           have:=z.2;unfold Kz at this;rw[gk]at this;have u:=this _ (aD aa);simp only[dh]at u;exact⟨by have:=ic u.1;omega,u.2⟩
          have t:∀b x,a8 (s.rest g) b=some x->b<s.eT.length:=by
           intro b x aa;have:=(Fz aa).2;omega
          have az:eo P f B [] 0 (λaN s' am=>aN=ix (s.rest g) (s.res g)/\s'=kS (s.rest g) (s.rest g)/\am=s.eT.length):=by
           refine eo.tidy ay ?_
           rintro aX s1 aQ ⟨rfl,aL,aM⟩;have aE:=Pc aL z.1;subst aE;refine⟨List.range s.eT.length,_,_,List.nodup_range,rfl,?_,?_,rfl,rfl,by simp⟩;exact(AO t z.1).2
           . intro b x aa;rw[A2,bF]at aa;obtain⟨K,A,rfl⟩:=aa;obtain⟨h1,y,u,ap⟩:=aM b K A;have al:=Px ap (n b K A).2;subst al;have ht:=AT (bs:=List.range s.eT.length) (i:=0) (j:=b) (r:=List.range s.eT.length) (by simp[h1]) u;rw[ij]at ht;refine⟨_,ht,?_⟩;cases K with
             |box cs=>
              have m:=(n b _ A).2;simp only[gE,gk]at m;exact .box (wO t m).2
             |arr ty l=>exact .arr
             |rows sz l=>have m:=(n b _ A).2;simp[gE]at m
             |set ks=>exact .same
             |buf E s=>exact .same
             |cm E c=>have m:=(n b _ A).2;exact .cm (w1 t (by simpa[gE]using m)).2
             |cR=>have m:=(n b _ A).2;simp[gE]at m
          have ax:V.aK.V.dI (lt 0) B:=by
           refine tY λi d q=>?_;obtain⟨x,aa,F⟩:=(b2.flip (R':=λd x=>b7 key σ x d) λ_ _ h=>h).get q;have hs:=H x (fr aa);have:=AN F hs;subst this;exact(w0 (N:=key) (σ:=σ) hs).2 _
          have av:gu env1 o.guard=some true:=by rw[w];rfl
          have aC:(kS (s.rest g) (s.rest g)).all (λx=>(x.1<16:J)):=by
           have aB:=z.2;unfold Kz at aB;have:∀{l:bl U},(l.all λp=>Nat.ble (p.1+1) 16&&gE (s.rest g) p.2)->(kS (s.rest g) l).all (λx=>(x.1<16:J)):=by
            intro l;induction l with
            |nil=>intro _;rfl
            |cons e r ih=>
             obtain⟨b,x⟩:=e;intro h;simp only[kB,dh]at h;simp only[kS,kB,dh,fI];exact⟨by have:=ic h.1.1;omega,ih h.2⟩
           grind
          have X:b7 s.eT.length (s.rest g) (s.res g) (ix (s.rest g) (s.res g))/\cB s.eT.length (s.rest g) (kS (s.rest g) (s.rest g)):=by
           refine⟨(AO t z.1).1,λb x aa=>?_⟩;refine⟨t b x aa,s0 (s.rest g) x,by rw[A2,aa];rfl,?_⟩;cases x with
           |box cs=>
            have m:=(n b _ aa).2;simp only[gE,gk]at m;exact .box (wO t m).1
           |arr ty l=>exact .arr ty l
           |rows sz l=>have m:=(n b _ aa).2;simp[gE]at m
           |set ks=>exact .set ks
           |buf E s=>exact .buf E s
           |cm E c=>have m:=(n b _ aa).2;exact .cm (w1 t (by simpa[gE]using m)).1
           |cR=>have m:=(n b _ aa).2;simp[gE]at m
          have ec:s.eT.length<=([]:ba).length+16:=(by simpa using O);have Q:=cB.GG (key:=key) (bs:=[]) xm (by simp) ec h.e1 rfl X.2;have S:=b7.cu (key:=key) (bs:=[]) (σ:=σ) xm (by simp) ec h.e1 X.1;have aq:=Fi (key:=key) (bs:=[]) (σr:=s.rest g) xm (by simp) h.e1 rfl;rw[RL]at S;rw[Nl]at Q;refine⟨_,(ix (s.rest g) (s.res g)).sh key,_,mT σ1 key (kS (s.rest g) (s.rest g)),C,.own ai av w b1 (an (by rw[w];rfl)) ax O aC az rfl,?_⟩;have:=eQ.bind (gd:=o.guard) (dst:=o.dst) (nf:=nf) (h.hn.mono aq) h.av Q h.aI S (.inl w) Y Z;rw[w]at this⊢;exact this
        cases C
      cases ar
    cases ar
theorem Nn:∀{args:I aS} {p:Prop} {a:I V},h2 env1 args=some (p,a)->lp env1 args=a.flatMap V.gq
 |[],p,a,h=>by simp[h2]at h;rw[h.2];rfl
 |x::xs,p,a,h=>by
  simp only[h2,bw,bF]at h;obtain⟨⟨c,v0⟩,h1,⟨d,e⟩,b,_,rfl⟩:=h;have ih:=Nn b;grind[lp]
theorem Py{c:bl U}{x:bx U}{d:C}(h:cr N c x d):∀b,b∈x.gq->b∈d.gq:=by
 intro b a;cases h<;>simp only[bx.gq]at a⊢<;>first|exact a|(simp at a)
theorem Pd{e:bl U}:∀{xs:I (bx U)} {ds:I C},bb (cr N e) xs ds->∀b,b∈xs.flatMap bx.gq->b∈ds.flatMap C.gq
 |[],[],_,b,a=>a
 |x::xs,d::ds,.cons h1 c,b,a=>by
  simp only[hd,iB]at a⊢;rcases a with a|a;grind[Py];exact .inr (Pd c b a)
theorem agE{e:bl U}{x:bP U}{d:V}(h:b7 N e x d):∀b,b∈x.gq->b∈d.gq:=by
 intro b a;cases h with
 |c h=>exact Py h b a
 |agg h=>exact Pd h b a
 |bf=>grind[bP.gq]
theorem Pe{e:bl U}:∀{xs:I (bP U)} {ds:I V},bb (b7 N e) xs ds->∀b,b∈xs.flatMap bP.gq->b∈ds.flatMap V.gq
 |[],[],_,b,a=>a
 |x::xs,d::ds,.cons h1 c,b,a=>by
  simp only[hd,iB]at a⊢;rcases a with a|a;grind[agE];exact .inr (Pe c b a)
theorem Pf{l:ba}{b:Nat}(h:mu l b):b∈l:=by
 simp_all[mu]
theorem Js {fo:fQ U}(ab:fR P fo){o:cf}{f:Nat}{args:I aS}(ah:o.op= .call f args)(h:eQ key gl nf env σ env1 σ1 G)(F:o.guard=none\/∃t b y,o.guard=some (t,b)/\fA env t b=some y)(Y:oD gl o.guard o.dst)(Z:lx nf o.dst)
 (H:cU env G o.guard){k:bl U->bP U->ag R}{r:R}:∀{ss:I (cP U)},(∀s,s∈ss->s∈fo f)->xH xb (λe=>lV gl o.guard e args) env σ key k ss=some r->
 ∃v v1 σ' bz,k σ' v=some r/\DStep xb P o key env1 σ1 true v1 bz/\eQ (key+16) (iP gl o.guard o.dst) nf (gX o.dst v env) σ' (eB env1 o.dst true v1) bz (λi=>if o.dst=some i then true else G i)
 |[],_,aa=>by grind[xH]
 |s::ss,af,aa=>by
  simp only[xH]at aa;split at aa;exact Js ab ah h F Y Z H (λs hs=>af s (by grind)) aa
  . rename_i bs ad ar;obtain⟨aN,a2,aO⟩:=ab f s (af s (by simp));obtain⟨g,hres,C⟩:=lb.1 aa;unfold VD at ar;split at ar
    grind
    . rename_i vs aR;split at ar;split at ar
      grind
      . rename_i q;simp only[dh,gk]at q;obtain⟨_,ax,D,ay,az,aA⟩:=q;split at ar
        . rename_i a b ap Q;split at ar
          . rename_i a4 aG;cases ar;have cd:=AU ax;have aD:=λb q=>ic (D b q).1;have ae:=c7 ay;have a5:=ic az;have ec:=ic aA;obtain⟨p,K,b1,b2,aj⟩:=ub h.hn h.av aR;have aB:=BK cd Q;obtain⟨aY,f1,ak,g1⟩:=vB (N:=key) cd aB ap
            obtain⟨M,aJ,a1,c3⟩:=g1 K b2.length (λi x d aa X=>by
             obtain⟨a0,h1,O⟩:=b2.get aa
             grind)
            obtain⟨aX,t1,t2⟩:=EO cd h.e1 Q;have a3:=a6.mX aG;have au:s.args ad=aY:=(by grind[cP.args]);have aw:s.iL ad=hL 0 s.st b:=by grind[cP.iL]
            have T:=aO ad g hres M aX (by
             rw[au,aw,<-ae]
             exact bb.lO (by rw[ak,aJ,b2.length]) λi x d aa X=>c3 i x d aa X) (by grind)
            rw[aN,<-ae]at T;have aP:bb gY (K.map (V.b8 bs)) M:=by
             grind[bb.lO]
            have aC:=eo.conv aP t1 T;split at C
            . rename_i c z S;simp only[dh]at z;split at C
              . rename_i aF;subst aF;have n:∀b x,a8 (s.rest g) b=some x->gE (s.rest g) x:=by
                 intro b x aa;have a7:∀{l:bl U},a8 l b=some x->(b,x)∈l:=by
                  intro l;induction l with
                  |nil=>intro h;simp[a8]at h
                  |cons e r ih=>
                   obtain⟨a9,e⟩:=e;intro h;simp only[a8]at h;split at h;simp_all;grind
                 have:=z.2;unfold JU at this;grind
                have u:∀b x,a8 (s.rest g) b=some x->b<s.eT.length:=by
                 intro b x aa;have:=(Fz aa).2;omega
                have aE:eo P f (K.map (V.b8 bs)) (fV bs σ1 0 bs) bs.length (λaW s' ai=>aW=ix (s.rest g) (s.res g)/\s'=kS (s.rest g) (s.rest g)/\ai=s.eT.length):=by
                 refine eo.tidy aC ?_
                 rintro a' s1 aZ ⟨rfl,aT,aU⟩;have aM:=Pc aT z.1;subst aM;refine⟨List.range s.eT.length,_,_,List.nodup_range,?_,?_,?_,rfl,rfl,by simp⟩;unfold keeps;grind;exact(AO u z.1).2
                 . intro b x aa;rw[A2,bF]at aa;obtain⟨L,A,rfl⟩:=aa;obtain⟨h1,y,O,B⟩:=aU b L A;have al:=Px B (n b L A);subst al;have ht:=AT (bs:=List.range s.eT.length) (i:=0) (j:=b) (r:=List.range s.eT.length) (by simp[h1]) O;rw[ij]at ht;refine⟨_,ht,?_⟩;cases L with
                   |box cs=>
                    have m:=n b _ A;simp only[gE,gk]at m;exact .box (wO u m).2
                   |arr ty l=>exact .arr
                   |rows sz l=>have m:=n b _ A;simp[gE]at m
                   |set ks=>exact .same
                   |buf E s=>exact .same
                   |cm E c=>have m:=n b _ A;exact .cm (w1 u (by simpa[gE]using m)).2
                   |cR=>have m:=n b _ A;simp[gE]at m
                have aq:=Fh h.hn F;have aL:(kS (s.rest g) (s.rest g)).all (λx=>(x.1<bs.length+16:J)):=by
                 have aH:=z.2;unfold JU at aH;have:∀{l:bl U},(l.all λp=>Nat.ble (p.1+1) (bs.length+16)&&gE (s.rest g) p.2)->(kS (s.rest g) l).all (λx=>(x.1<bs.length+16:J)):=by
                  intro l;induction l with
                  |nil=>intro _;rfl
                  |cons e r ih=>
                   obtain⟨b,x⟩:=e;intro h;simp only[kB,dh]at h;simp only[kS,kB,dh,fI];exact⟨by have:=ic h.1.1;omega,ih h.2⟩
                 grind
                have W:b7 s.eT.length (s.rest g) (s.res g) (ix (s.rest g) (s.res g))/\cB s.eT.length (s.rest g) (kS (s.rest g) (s.rest g)):=by
                 refine⟨(AO u z.1).1,λb x aa=>?_⟩;refine⟨u b x aa,s0 (s.rest g) x,by rw[A2,aa];rfl,?_⟩;cases x with
                 |box cs=>
                  have m:=n b _ aa;simp only[gE,gk]at m;exact .box (wO u m).1
                 |arr ty l=>exact .arr ty l
                 |rows sz l=>have m:=n b _ aa;simp[gE]at m
                 |set ks=>exact .set ks
                 |buf E s=>exact .buf E s
                 |cm E c=>have m:=n b _ aa;exact .cm (w1 u (by simpa[gE]using m)).1
                 |cR=>have m:=n b _ aa;simp[gE]at m
                have an:=cB.GG (key:=key) (bs:=bs) cd aD ec h.e1 S W.2;have ao:=b7.cu (key:=key) (bs:=bs) (σ:=σ) cd aD ec h.e1 W.1;have am:=Fi (key:=key) (bs:=bs) (σr:=s.rest g) cd aD h.e1 S;have aK:∀b,b∈bs->∃x,aV σ1 b=some x:=by
                 intro b q;have B:=(D b q).2.2;unfold hasB at B;split at B;rename_i x aa;obtain⟨_,y,al,_⟩:=h.e1 b x aa;grind;cases B
                have aQ:∀b,b∈bs->b∈lp env1 args++xb:=by
                 intro b q;rw[Nn b1];have w:=(D b q).2.1;rw[lN]at w;rcases w with w|w;exact List.mem_append_left _ (Pe b2 b (Pf w));exact G' _ (Pf w)
                refine⟨_,(ix (s.rest g) (s.res g)).cu (back bs key),_,_,C,.raw ah (by rw[aq,H]) rfl b1 (aj H) cd aD aK aQ ec aL aE rfl,?_⟩;have:=eQ.bind (gd:=o.guard) (dst:=o.dst) (nf:=nf) (h.hn.mono am) h.av an h.aI ao F Y Z;simp_all
              cases C
            cases C
          cases ar
        cases ar
theorem IV {fo:fQ U}(S:fR P fo){o:cf}{f:Nat}{args:I aS}(u:o.op= .call f args\/(o.guard=none/\∃x q,o.op= .iv x args/\x.get env1=some (q,.c (.fn f []))/\q))(h:eQ key gl nf env σ env1 σ1 G)(C:o.guard=none\/∃t b y,o.guard=some (t,b)/\fA env t b=some y)(O:oD gl o.guard o.dst)(Q:lx nf o.dst)
 {g:J}(av:g=cU env G o.guard){k:bP U->ag R}{r:R}:∀{ss:I (cP U)},(∀s,s∈ss->s∈fo f)->x7 (λe=>lV gl o.guard e args) env g k ss=some r->
 ∃v v1,k v=some r/\DStep xb P o key env1 σ1 g v1 σ1/\eQ (key+16) (iP gl o.guard o.dst) nf (gX o.dst v env) σ (eB env1 o.dst g v1) σ1 (λi=>if o.dst=some i then g else G i)
 |[],_,aa=>by grind[x7]
 |s::ss,Y,aa=>by
  simp only[x7]at aa;split at aa;exact IV S u h C O Q av (λs hs=>Y s (by grind)) aa
  . rename_i ad ar;unfold Hq at ar;split at ar
    . rename_i vs aF A;split at ar
      . rename_i a F ai;rw[gk]at F;obtain⟨ap,al,aq⟩:=S f s (Y s (by simp));obtain⟨p,B,b1,b2,ab⟩:=ub h.hn h.av A;have au:s.st=[]:=(by grind[isNil]);obtain⟨n,hres,E⟩:=lb.1 aa;split at E
        . rename_i Z;obtain⟨ax,ay⟩:=w0 (N:=key+16) (σ:=σ) Z;have K:=Fh h.hn C;rw[<-av]at K;have af:eQ (key+16) (iP gl o.guard o.dst) nf (gX o.dst (s.res n) env) σ (eB env1 o.dst g (fW (s.res n))) σ1 (λi=>if o.dst=some i then g else G i):=by
           have:=eQ.bind (dst:=o.dst) (h.hn.mono (du.more (by simp:key<=key+16))) h.av (h.e1.mono (Nat.le_add_right key 16)) h.aI ax C O Q;grind
          refine⟨s.res n,fW (s.res n),E,?_,af⟩;have W:g=true->p/\V.aK.V.dI (lt 0) B/\(fW (s.res n)).aK (lt 0)/\eo P f B [] 0 (λaz _ _=>az=fW (s.res n)):=?_
          . rcases u with u|⟨T,x,q,u,aa,ao⟩
            exact .call u K b1 W
            . have z:g=true:=by rw[av,T];rfl
              exact .iv u T z aa ao al b1 (W z)
          intro z;rw[ah z]at hres;obtain⟨aB,f1,ak,g1⟩:=vB (N:=key) (σc:=([]:bl U)) (xm) (λj b aA aE=>by grind) ai
          obtain⟨H,aJ,ae,c3⟩:=g1 B b2.length (λi x d aa l=>by
           obtain⟨w,h1,aC⟩:=b2.get aa
           rw[l]at h1;cases h1;omega)
          have aD:a6.cells U.D s.ts ad=a:=a6.mX ar;have aj:s.args ad=aB:=by
           unfold cP.args;have:=f1 [];grind
          have L:s.iL ad=[]:=by unfold cP.iL;rw[au];rfl
          have X:s.st.length=0:=by grind
          have M:=aq ad n hres H [] (by
           rw[aj,L,X]
           refine bb.lO (by rw[ak,aJ,b2.length]) λi x d aa l=>c3 i x d aa l) (by rw[L];intro b x aa;grind[a8])
          rw[ap,X]at M;have aw:bb gY B H:=by
           refine bb.lO aJ.symm λi d w l am=>?_;have A:=ae i d w l am;obtain⟨x,aa,m⟩:=(b2.flip λ_ _ h=>h).get l;exact aj3 (F x (fr aa)) A m
          refine⟨ab (by grind),?_,ay _,?_⟩
          . refine tY λi d l=>?_;obtain⟨x,aa,m⟩:=(b2.flip (R':=λd x=>b7 key σ x d) λ_ _ h=>h).get l;exact aj4 (F x (fr aa)) m
          refine eo.conv aw (λb aA aa=>by simp[aV]at aa) (M.mono λaG bz N' an=>?_);exact AN an.2.1 Z
        cases E
      grind
    grind
where
 aj3 {x:bP U} {d w:V} (hs:hb x) (A:gY (d.b8 []) w) (m:b7 key σ x d):gY d w:=by
  have:=AN m hs;grind[Kh]
 aj4 {x:bP U} {d:V} (hs:hb x) (m:b7 key σ x d):d.aK (lt 0)=true:=by
  have:=AN m hs;grind[w0]
theorem E5 {fo:fQ U}(Q:fR P fo){f:Nat}{F:ll U}{cal:Env->I V->Prop}
 (X:∀{env':b3 U} {σ2:bl U} {g:Env} {vs:I (bP U)},c6 key σ2 G env' g->hf gl env' G->F env'=some vs->∃j,bb (b7 key σ2) vs j/\cal g j)
 (he:c6 key σ G env env1)(av:hf gl env G)(aG:cB key σ σ1){k:b3 U->bl U->bP U->ag R}{r:R}:∀{ss:I (cP U)},(∀s,s∈ss->s∈fo f)->x8 F env σ key k ss=some r->
 ∃env' σ2 g bz j,Conv kk key env1 σ1 key g bz/\c6 key σ2 G env' g/\hf gl env' G/\(∀t b,fA env' t b=fA env t b)/\cal g j/\hE P f/\
  RK P f j bz key g (λZ s1=>∃y v,k env' y v=some r/\c6 (key+16) y G env' g/\cB (key+16) y s1/\b7 (key+16) y v Z)
 |[],_,aa=>by grind[x8]
 |s::ss,Y,aa=>by
  simp only[x8]at aa;split at aa;exact E5 Q X he av aG (λs hs=>Y s (by grind)) aa
  . rename_i env' σ2 bs h ar;obtain⟨aB,ao,aC⟩:=Q f s (Y s (by simp));obtain⟨aM,hres,q⟩:=lb.1 aa;unfold VC at ar;split at ar
    grind
    . split at ar;split at ar
      cases ar
      . rename_i aR aV T;split at ar
        cases ar
        . rename_i vs aF;split at ar
          cases ar
          . rename_i m;simp only[dh,gk]at m;obtain⟨ai,aj,al,am⟩:=m;split at ar
            . rename_i a b af K;split at ar
              . rename_i ad ay;cases ar;have cd:=AU ai;have aD:∀b,b∈bs->b<key:=λb m=>ic (aj b m);have C:=c7 al;have az:=ic am;obtain⟨g,bz,aw,B,u,W⟩:=xh (kk:=kk) (gl:=gl) T he aG;obtain⟨j,b2,ap⟩:=X B (W av) aF;have aq:=BK cd K;obtain⟨aP,f1,ak,g1⟩:=vB (N:=key) cd aq af
                obtain⟨E,aJ,aQ,c3⟩:=g1 j b2.length (λi x d aa A=>by
                 obtain⟨ab,h1,ae⟩:=b2.get aa
                 grind)
                obtain⟨aN,t1,t2⟩:=EO cd u K;have M:a6.cells U.D s.ts h=a++b:=a6.mX ay;have ah:s.args h=aP:=by unfold cP.args;rw[M,f1]
                have H:s.iL h=hL 0 s.st b:=by unfold cP.iL;rw[M,f1]
                have O:=aC h aM hres E aN (by
                 rw[ah,H,<-C]
                 exact bb.lO (by rw[ak,aJ,b2.length]) λi x d aa A=>c3 i x d aa A) (by rw[H,<-C];exact t2)
                rw[aB,<-C]at O;have aE:bb gY (j.map (V.b8 bs)) E:=by
                 refine bb.lO (by simp[aJ]) λi d ab A aS=>?_;grind
                have au:=eo.conv aE t1 O;split at q;cases q
                . rename_i c L;split at q
                  . rename_i ax;subst ax;have ec:s.eT.length<=bs.length+16:=az;refine⟨env',σ2,g,bz,j,aw,B,W av,λt b=>S0 T,ap,ao,?_⟩;intro aA nt φ S a w R an aO aH;refine(h7.raw (n:=lt key) (key:=key) cd aD au ?_ (λb m=>by simp[lt];exact aD b m) aA nt φ S g a w R (λb h1 _=>Ax h1) an aO aH)
                    rintro Z s1 N' ⟨rfl,aI,aK⟩;refine⟨ec,_,_,q,B.mono (Fi cd aD u L),cB.GG cd aD ec u L aK,b7.cu cd aD ec u aI⟩
                  cases q
              cases ar
            cases ar
where
 S1 {env:b3 U} {b0:Nat} {ty:aL} {l:I (ty.den U.D)} {t:Nat} {b:J}:fA (sK b0 (⟨.slice ty,l⟩:bL U.D) env) t b=fA env t b:=by
  unfold fA;rw[EB];cases a8 env t with
  |none=>rfl
  |some v=>
   cases v with
   |c x=>
    cases x with
    |arr z=>grind[bP.cz,bx.cz]
    |cW z aU i o=>grind[bP.cz,bx.cz]
    |pre z h=>grind[bP.cz,bx.cz]
    |hP z aT h=>grind[bP.cz,bx.cz]
    |_=>rfl
   |agg cs=>rfl
   |bf vs=>rfl
 S0 {l:I (Nat×aL)} {env env':b3 U} {σ σ':bl U} {t:Nat} {b:J} (h:kH l env σ=some (env',σ')):fA env' t b=fA env t b:=by
  induction l generalizing env σ with
  |nil=>grind[kH]
  |cons p l ih=>
   simp only[kH]at h;split at h
   . rename_i e s h1;have ae:fA e t b=fA env t b:=by
      unfold x4 at h1;split at h1
      . split at h1
        cases h1;exact S1;grind
      . split at h1
        cases h1;exact S1;grind
      grind
     grind
   grind
theorem No{fo:fQ U}(u:fR P fo)(h:eQ key gl nf env σ env1 σ1 G){k:eH->kd->b3 U->bl U->ag R}{r:R}(aa:sM fo (some xb) o key gl nf env σ k=some r):
 ∃g v1 bz L S env' σ' T,DStep xb P o key env1 σ1 g v1 bz/\k L S env' σ'=some r/\eQ (key+16) L S env' σ' (eB env1 o.dst g v1) bz T:=by
 unfold sM at aa;split at aa;grind
 . rename_i M;simp only[dh]at M;obtain⟨i,l⟩:=M;split at aa
   . rename_i bK;split at aa
     rename_i z w;have V:=Od h.av h.aI bK;obtain⟨h1,e⟩:=Fj (P:=P) h (FL w) V i l (JV (U:=U) (N:=key+16) (σ:=σ));exact⟨_,_,_,_,_,_,_,_,h1,aa,e⟩;grind
   . split at aa
     . rename_i f args n;split at aa
       . split at aa
         . rename_i g gd av a;have p:o.guard=none\/∃t b y,o.guard=some (t,b)/\fA env t b=some y:=(by grind[FL]);have m:g=cU env G o.guard:=E3 h.av av;split at aa
           obtain⟨v,v1,σ',bz,h1,e,j⟩:=Js (fo:=fo) u n h p i l (by grind) (λs hs=>hs) aa;exact⟨_,_,_,_,_,_,_,_,e,h1,j⟩
           . have H:cU env G o.guard=false:=by grind
             have B:eQ key gl (gd::nf) env σ env1 σ1 G:=⟨h.hn,h.av,h.e1,λz w=>by
              rcases eE.1 w with rfl|J;grind
              . exact h.aI z J⟩
             have F:lx (gd::nf) o.dst:=by
              cases E:o.dst with
              |none=>rfl
              |some d=>
               simp_all[lx,kB,dh,oD]
             obtain⟨h1,e⟩:=Fj (P:=P) B p H i F (JV (U:=U) (N:=key+16) (σ:=σ));exact⟨_,_,_,_,_,_,_,_,h1,aa,e⟩
         grind
       unfold I9 at aa;split at aa
       . rename_i a;simp only at aa;split at aa
         case h_2=>
          obtain⟨v,v1,σ',bz,h1,e,j⟩:=Js (fo:=fo) u n h (.inl a) i l (by rw[a];rfl) (λs hs=>hs) aa;grind
         rw[a]at aa;obtain⟨v,v1,σ',bz,h1,e,j⟩:=LP (fo:=fo) u n h a i l (k:=λσ v=>k (iP gl o.guard o.dst) nf (gX o.dst v env) σ) (λs hs=>hs) (by rw[a];omega);exact⟨_,_,_,_,_,_,_,_,e,h1,j⟩
       . rename_i gd a;split at aa
         rename_i g av;rw[a]at aa av;obtain⟨v,v1,h1,e,j⟩:=IV (fo:=fo) u (.inl n) h (by grind[FL]) i l (g:=g) (by rw[a];exact E3 h.av av) (λs hs=>hs) (by rw[a];omega);rw[a]at j;exact⟨_,_,_,_,_,_,_,_,e,h1,j⟩;grind
     . rename_i x args n;split at aa
       grind;rename_i Y f E a W;obtain⟨q,v1,a1,a2,a3⟩:=cC h.hn h.av W;have:=a2.GD;subst this;obtain⟨v,v1,h1,e,j⟩:=IV (xb:=xb) (fo:=fo) u (.inr ⟨a,x,q,n,a1,a3 rfl⟩) h (.inl a) i l (g:=true) (by rw[a];rfl) (λs hs=>hs) (by rw[a];omega);rw[a]at j;exact⟨_,_,_,_,_,_,_,_,e,h1,j⟩;grind
     . split at aa
       cases aa
       . rename_i c v σ' A;split at aa
         . rename_i a;split at aa
           rename_i C;rw[a]at A;obtain⟨v1,bz,h1,e⟩:=(Pw (P:=P) (o:=o) h (by rw[a];exact A) (.inl a) i l).1 (by rw[a];rfl) C;rw[a]at e;exact⟨_,_,_,_,_,_,_,_,h1,aa,e⟩;cases aa
         . rename_i gd a;split at aa
           cases aa
           . rename_i g av;have p:o.guard=none\/∃t b y,o.guard=some (t,b)/\fA env t b=some y:=by rw[a];exact FL av
             have m:g=cU env G o.guard:=by rw[a];exact E3 h.av av
             have K:=Pw (P:=P) (o:=o) (xb:=xb) h A p i l;split at aa
             . rename_i Q;split at aa
               . rename_i D;cases O:g with
                 |true=>
                  rw[O]at D m;simp at D;obtain⟨v1,bz,h1,e⟩:=K.1 m.symm D;have X:σ'=σ:=(Nc h.hn h.av h.e1 A).aj2 Q;rw[X]at e;exact⟨_,_,_,_,_,_,_,_,h1,aa,e⟩
                 |false=>
                  rw[O]at m;obtain⟨v1,h1,e⟩:=K.2 m.symm Q;exact⟨_,_,_,_,_,_,_,_,h1,aa,e⟩
               cases aa
             . split at aa
               . rename_i I;split at aa
                 rename_i C;obtain⟨v1,bz,h1,e⟩:=K.1 (by rw[<-m];exact I) C;exact⟨_,_,_,_,_,_,_,_,h1,aa,e⟩;cases aa
               . rename_i I;have H:cU env G o.guard=false:=by rw[<-m];simpa using I
                 have B:eQ key gl (gd::nf) env σ env1 σ1 G:=⟨h.hn,h.av,h.e1,λz w=>by
                  rcases eE.1 w with rfl|J;grind
                  . exact h.aI z J⟩
                 have F:lx (gd::nf) o.dst:=by
                  cases E:o.dst with
                  |none=>rfl
                  |some d=>
                   rw[E]at l i;rw[a]at i;simp only[lx,kB,dh];simp only[lx]at l;simp only[oD,dh]at i;grind
                 obtain⟨h1,e⟩:=Fj (P:=P) B p H i F (JV (U:=U) (N:=key+16) (σ:=σ));exact⟨_,_,_,_,_,_,_,_,h1,aa,e⟩
theorem LQ{fo:fQ U}(L:fR P fo)(h:eQ key gl nf env σ env1 σ1 G){k:eH->kd->b3 U->bl U->ag R}{r:R}(aa:sM fo none o key gl nf env σ k=some r)
 (bW:∀D T env' σ' m bz ad,k D T env' σ'=some r->eQ (key+16) D T env' σ' m bz ad->K m bz):
 ∃fF ah,Conv kk key env1 σ1 key fF ah/\ys P o key fF ah K:=by
 by_cases d:sM fo (some []) o key gl nf env σ k=some r;obtain⟨g,v1,bz,D,T,env',σ',ad,h1,al,am⟩:=No L h d;exact⟨env1,σ1,Conv.refl,.inl (h1.hB (bW _ _ _ _ _ _ _ al am))⟩
 . unfold sM at aa d;split at aa
   grind
   . rename_i J;rw[J]at d;simp only[dh]at J;obtain⟨y,af⟩:=J;split at aa
     grind
     . rename_i bK;rw[bK]at d;simp only at d;split at aa
       . rename_i f args i;rw[i]at d;simp only at d;split at aa
         rename_i O;rw[O]at d;exact absurd aa d;rename_i O;rw[O]at d;unfold I9 at aa d;split at aa
         . rename_i n;rw[n]at aa;obtain⟨env',σ2,m,bz,j,B,ai,C,aj,⟨p,M,N⟩,ae,E⟩:=E5 (kk:=kk) (P:=P) L (f:=f) (cal:=λe vs=>∃p,h2 e args=some (p,vs)/\p)
            (λhe av u=>by
             obtain⟨p,j,b1,b2,A⟩:=ub he av u
             exact⟨j,b2,p,b1,A rfl⟩) h.hn h.av h.e1 (λs hs=>hs) aa
           refine⟨m,bz,B,.inr ⟨by rw[n];rfl,f,j,.inl ⟨args,p,i,M,N⟩,?_⟩⟩;intro aA nt φ S a w F I ab Q;refine(E aA nt φ S a w F I ab Q).mono ?_
           rintro e w' ⟨v,Z,bq,bu,s1,rfl,⟨aw,v3,k1,k2,k3,k4⟩,W,X,Y⟩;refine⟨v,Z,bq,bu,s1,rfl,?_,W,X,Y⟩
           have H:=eQ.bind (gd:=none) (dst:=o.dst) (nf:=nf) k2 C k3 (λg av=>by
            obtain⟨t,b⟩:=g;have h0:=h.aI _ av;simp only[cU]at h0⊢
            grind) k4 (.inl rfl) (by rw[n]at y;exact y) af
           exact bW _ _ _ _ _ _ _ k1 H
         grind
       . rename_i x args i;split at aa
         . rename_i f caps ay n az;obtain⟨env',σ2,m,bz,j,B,ai,C,aj,⟨q,p,l,z,ar,au,M,N,aq⟩,ae,E⟩:=E5 (kk:=kk) (P:=P) L (f:=f) (cal:=λe vs=>∃q p l z,x.get e=some (q,.c (.fn f l))/\q/\h2 e args=some (p,z)/\p/\vs=z++l.map λb=>V.c (.ptr b 0))
            (λhe av u=>by
             split at u
             . rename_i ax l aB aJ ak;split at u
               rename_i an;have:=c7 an;subst this;cases u;obtain⟨q,v1,a1,a2,a3⟩:=cC he av aJ;have:=a2.GD;subst this;obtain⟨p,j,b1,b2,A⟩:=ub he av ak;refine⟨j++l.map λb=>V.c (.ptr b 0),b2.append ?_,q,p,l,j,a1,a3 rfl,b1,A rfl,rfl⟩;exact bb.map_map (bb.self (λb=>.c (.ptr b 0)) _);cases u
             grind) h.hn h.av h.e1 (λs hs=>hs) aa
           refine⟨m,bz,B,.inr ⟨by rw[n];rfl,f,j,.inr ⟨x,args,q,p,l,z,i,ar,au,M,N,ae,aq⟩,?_⟩⟩;intro aA nt φ S a w F I ab Q;refine(E aA nt φ S a w F I ab Q).mono ?_
           rintro e w' ⟨v,Z,bq,bu,s1,rfl,⟨aw,v3,k1,k2,k3,k4⟩,W,X,Y⟩;refine⟨v,Z,bq,bu,s1,rfl,?_,W,X,Y⟩
           have H:=eQ.bind (gd:=none) (dst:=o.dst) (nf:=nf) k2 C k3 (λg av=>by
            obtain⟨t,b⟩:=g;have h0:=h.aI _ av;simp only[cU]at h0⊢
            grind) k4 (.inl rfl) (by rw[n]at y;exact y) af
           exact bW _ _ _ _ _ _ _ k1 H
         contradiction;cases aa
       . rename_i op ao ap;exfalso;refine d ?_;split
         rename_i f args i;exact absurd i (ao f args);rename_i x args i;exact absurd i (ap x args);exact aa
theorem adI{l:I (Nat×aL)}{p:b3 U×bl U}(h:Cc l env σ=some p):∃l,kH l env σ=some p:=by
 grind[Cc]
theorem adn{p:b3 U×bl U}(h:Ho gl o env σ=some p):∃l,kH l env σ=some p:=by
 grind[Ho,adI]
theorem abW{fo:fQ U}(c:fR P fo)(h:eQ key gl nf env σ env1 σ1 G){k:eH->kd->b3 U->bl U->ag R}{r:R}(aa:FK fo none o key gl nf env σ k=some r)
 (bW:∀b d env' σ' a bz f,k b d env' σ'=some r->eQ (key+16) b d env' σ' a bz f->K a bz):
 ∃fF e,Conv kk key env1 σ1 key fF e/\ys P o key fF e K:=by
 simp[FK]at aa;split at aa;exact LQ c h aa bW
 . rename_i p ar;obtain⟨l,ak⟩:=adn ar;obtain⟨aJ,s1,i,j,m,n⟩:=xh ak h.hn h.e1
   obtain⟨q,s,d1,d2⟩:=LQ c ⟨j,n h.av,m,λg av=>by
    have h0:=h.aI _ av
    grind[cU,E5.S0]⟩ aa bW
   exact⟨q,s,i.trans d1,d2⟩
end
end
section
open Go
variable {xb:ba}
variable {U:cM}{R:Type}
def j'(env:b3 U):aS->ag ba
 |.const (.c (.t _))=>some []
 |.const (.c .bV)=>some []
 |.const (.agg _)=>some []
 |.const _=>none
 |.tmp k=>match a8 env k with
  |some (.c (.ptr b _))=>some [b]
  |some (.c (.cW b _ _ _))=>some [b]
  |some (.c (.arr b))=>some [b]
  |some (.c (.sub b _ _))=>some [b]
  |some (.c (.pre b _))=>some [b]
  |some (.c (.hP b _ _))=>some [b]
  |some (.c (.mp b))=>some [b]
  |some (.c (.eF b))=>some [b]
  |some (.c (.cN b))=>some [b]
  |some (.c .dead)=>none
  |some _=>some []
  |none=>none
def BM:bx U->J
 |.dead=>true
 |_=>false
def BO:bP U->ag ba
 |.c x=>match BM x with
  |true=>none
  |false=>some x.gq
 |.agg cs=>match cs.any BM with
  |true=>none
  |false=>some (cs.flatMap bx.gq)
 |.bf _=>some []
def sI(env:b3 U):I aS->ag ba
 |[]=>some []
 |.const v::r=>match sI env r with
  |some l=>some (v.gq++l)
  |none=>none
 |.tmp k::r=>match a8 env k with
  |some v=>match BO v,sI env r with
   |some a,some l=>some (a++l)
   |_,_=>none
  |none=>none
def Jp(xb:ba)(o:c0)(env:b3 U)(key:Nat):ag ba:=
 match o with
 |.alloc _|.allocA _|.box _|.bslice .. |.mslice .. |.mkset=>some [key]
 |.allocS .. =>some [key,key+1]
 |.lkset x _=>j' env x
 |.upset x _=>j' env x
 |.appendB _ _ x _=>match j' env x with
  |some a=>some (key::a)
  |none=>none
 |.ustr _ x _=>j' env x
 |.call _ args=>match sI env args with
  |some l=>some ((List.range 16).map (key+·)++(l++xb))
  |none=>none
 |.load _ _ x=>j' env x
 |.b2s x=>j' env x
 |.store _ x _=>j' env x
 |.append _ _ _ x y=>match j' env x,j' env y with
  |some a,some b=>some (key::(a++b))
  |_,_=>none
 |_=>some []
def ka(xb:ba)(o:c0)(env:b3 U)(key b:Nat):ag J:=
 match o with
 |.alloc _|.allocA _|.box _|.bslice .. |.mslice .. |.mkset=>some (Nat.beq b key)
 |.allocS .. =>some (Nat.beq b key||Nat.beq b (key+1))
 |.upset x _=>match j' env x with
  |some l=>some (mu l b)
  |none=>none
 |.appendB _ _ x _=>match j' env x with
  |some l=>some (Nat.beq b key||mu l b)
  |none=>none
 |.ustr _ x _=>match j' env x with
  |some l=>some (mu l b)
  |none=>none
 |.store _ x _=>match j' env x with
  |some l=>some (mu l b)
  |none=>none
 |.append _ _ _ x _=>match j' env x with
  |some l=>some (Nat.beq b key||mu l b)
  |none=>none
 |.call _ args=>match sI env args with
  |some l=>some ((Nat.ble key b&&Nat.ble (b+1) (key+16))||mu (l++xb) b)
  |none=>none
 |_=>some false
def Ca(xb:ba)(bd:I cf)(env:b3 U)(N:Nat):I (Nat×Nat)->J
 |[]=>true
 |(i,j)::r=>(match q0 bd i,q0 bd j with
  |some x,some y=>match Jp xb y.op env (N+16*j)with
   |some l=>l.all λb=>match ka xb x.op env (N+16*i) b with
    |some w=>!w
    |none=>false
   |none=>false
  |_,_=>true)&&Ca xb bd env N r
variable{o:c0}{gl:eH}{Q:Exit->Env->bg->Nat->Prop}
section
variable {P:Program}{kk N key:Nat}{σ:bl U}{σ1:bg}{env:b3 U}{env1:Env}{G:Nat->J}
theorem rE(he:c6 N σ G env env1){x:aS}{l:ba}(h:j' env x=some l):ep env1 x=l:=by
 unfold j' at h;split at h;cases h;rfl;cases h;rfl;cases h;rfl;grind
 . rename_i k;split at h
   all_goals (try (cases h;done))
   rename_i b o d;obtain⟨v1,h1,a⟩:=he k _ d;have:=a.hr;grind[ep,aS.get];rename_i b t i o d;obtain⟨v1,h1,a⟩:=he k _ d;have:=a.jh;grind[ep,aS.get];rename_i b d;obtain⟨v1,h1,a⟩:=he k _ d;obtain⟨sz,n,rfl,_⟩:=a.hA;grind[ep,aS.get]
   . rename_i b f len d;obtain⟨v1,h1,a⟩:=he k _ d;have:v1= .c (.gf b 1 f len):=by cases a with|c h=>cases h;rfl
     grind[ep,aS.get]
   . rename_i b e d;obtain⟨v1,h1,a⟩:=he k _ d;have:∃sz,v1= .c (.arr b sz 0 e):=by cases a with|c h=>cases h;simp
     grind[ep,aS.get]
   . rename_i b f e d;obtain⟨v1,h1,a⟩:=he k _ d;have:∃sz,v1= .c (.gf b sz f e):=by cases a with|c h=>cases h;simp
     grind[ep,aS.get]
   rename_i b d;obtain⟨v1,h1,a⟩:=he k _ d;have:=a.CN;grind[ep,aS.get];rename_i b d;obtain⟨v1,h1,a⟩:=he k _ d;have:=a.VY;grind[ep,aS.get];rename_i b d;obtain⟨v1,h1,a⟩:=he k _ d;obtain⟨n,rfl,_⟩:=a.yn;grind[ep,aS.get]
   . rename_i v g m p r y j s u w q d;cases h;obtain⟨v1,h1,a⟩:=he k _ d;unfold ep;simp only[aS.get,h1,mA];cases a with
     |c a=>
      cases a<;>grind
     |agg a=>rfl
     |bf=>rfl
theorem w2{l:ba}{b:Nat}:mu l b=l.contains b:=by
 unfold mu;rw[xl];simp
theorem Np{x:bx U}{d:C}(h:cr N σ x d)(a:BM x=false):d.gq=x.gq:=by
 cases h<;>first|rfl|(simp[BM]at a)
theorem LR:∀{xs:I (bx U)} {ds:I C},bb (cr N σ) xs ds->xs.any BM=false->ds.flatMap C.gq=xs.flatMap bx.gq
 |[],[],_,_=>rfl
 |x::xs,d::ds,.cons h1 b,a=>by
  simp only[zA,xv]at a;simp;rw[Np h1 a.1,LR b a.2]
theorem abX{v:bP U}{v1:V}{l:ba}(h:b7 N σ v v1)(ak:BO v=some l):v1.gq=l:=by
 cases h with
 |c h=>
  simp[BO]at ak;split at ak;grind;rename_i a;cases ak;exact Np h a
 |agg h=>
  simp[BO]at ak;split at ak;grind;rename_i a;cases ak;exact LR h a
 |bf=>simp only[BO,dW]at ak;rw[<-ak];rfl
theorem D5(he:c6 N σ G env env1):∀{args:I aS} {l:ba},sI env args=some l->lp env1 args=l
 |[],l,h=>by simp[sI]at h;subst h;rfl
 |.const v::r,l,h=>by
  simp[sI]at h;split at h;rename_i d b;cases h;have ih:=D5 he b;simp[lp]at ih⊢;rw[ih];rfl;grind
 |.tmp k::r,l,h=>by
  simp only[sI]at h;split at h
  . rename_i v c;split at h
    rename_i a d f b;have ih:=D5 he b;obtain⟨v1,h1,e⟩:=he k v c;grind[lp,aS.get,abX];grind
  grind
theorem ado(he:c6 N σ G env env1){l:ba}(h:Jp xb o env key=some l):ew xb o env1 key=l:=by
 cases o<;>simp[Jp,ew]at h⊢<;>first|exact h|exact rE he h|skip
 grind[rE];grind[rE];grind[D5]
theorem beq_eq(a b:Nat):(a==b)=Nat.beq a b:=by
 grind[c7,ib]
theorem adp(he:c6 N σ G env env1){b:Nat}{w:J}(h:ka xb o env key b=some w):cT xb o env1 key b=w:=by
 cases o with
 |alloc cs=>simp[ka]at h;rw[<-h];exact beq_eq _ _
 |allocA cs=>simp[ka]at h;rw[<-h];exact beq_eq _ _
 |box x=>simp[ka]at h;rw[<-h];simp only[cT];exact beq_eq _ _
 |bslice a c d e=>simp only[ka,dW]at h;rw[<-h];simp only[cT];exact beq_eq _ _
 |mslice a c d e=>simp only[ka,dW]at h;rw[<-h];simp only[cT];exact beq_eq _ _
 |store n x y=>
  simp only[ka]at h;split at h;rename_i l ak;cases h;simp only[cT];rw[rE he ak,w2];cases h
 |append te sz by' x y=>
  simp only[ka]at h;split at h;rename_i l ak;cases h;simp only[cT];rw[rE he ak,w2,beq_eq];cases h
 |mkset=>grind[ka,cT,beq_eq]
 |allocS e e8=>grind[ka,cT,beq_eq]
 |upset x y=>
  simp only[ka]at h;split at h;rename_i l ak;cases h;simp only[cT];rw[rE he ak,w2];cases h
 |ustr e x y=>
  grind[ka,cT,rE,w2]
 |appendB e by' x y=>
  grind[ka,cT,rE,w2,beq_eq]
 |call f args=>
  simp only[ka]at h;split at h
  . rename_i l ak;cases h;simp only[cT];rw[D5 he ak,w2]
    congr 1;rw[xl];simp only[dh,fI,Nat.ble_eq];rfl
  grind
 |_=>simp only[ka,dW]at h;rw[<-h];rfl
theorem Jt(he:c6 N σ G env env1){bd:I cf}{a:Nat}:∀{fw:I (Nat×Nat)},Ca xb bd env a fw->kZ xb bd env1 a fw=true
 |[],_=>rfl
 |(i,j)::r,h=>by
  simp[Ca]at h;simp[kZ];refine⟨?_,Jt he h.2⟩;grind[Fy,ado,adp]
theorem Er{fo:fQ U}(d:fR P fo){k:eH->b3 U->bl U->ag R}{r:R}:∀{l:I cf} {key:Nat} {gl:eH} {nf:kd} {env:b3 U} {σ:bl U} {env1:Env} {σ1:bg} {G:Nat->J} {K:Env->bg->Prop},
 eQ key gl nf env σ env1 σ1 G->oy fo none l key gl nf env σ k=some r->
 (∀b e env' σ' a bz c,k b env' σ'=some r->eQ (key+16*l.length) b e env' σ' a bz c->K a bz)->nY P kk l key env1 σ1 K
 |[],key,gl,nf,env,σ,env1,σ1,G,K,h,aa,bW=>bW _ _ _ _ _ _ _ aa h
 |o::l,key,gl,nf,env,σ,env1,σ1,G,K,h,aa,bW=>by
  refine abW d h aa λb e env' σ' a bz c h1 i=>?_;refine Er d i h1 λp m g n qT s f j q=>bW _ m g n _ _ f j ?_;grind
theorem I8{fo:fQ U}(d:fR P fo){k:eH->b3 U->bl U->ag R}{r:R}:∀{l:I cf} {key:Nat} {gl:eH} {nf:kd} {env:b3 U} {σ:bl U} {env1:Env} {σ1:bg} {G:Nat->J} {K:Env->bg->Prop},
 eQ key gl nf env σ env1 σ1 G->oy fo (some xb) l key gl nf env σ k=some r->
 (∀a e env' σ' c bz b,k a env' σ'=some r->eQ (key+16*l.length) a e env' σ' c bz b->K c bz)->yu xb P l key env1 σ1 K
 |[],key,gl,nf,env,σ,env1,σ1,G,K,h,aa,bW=>bW _ _ _ _ _ _ _ aa h
 |o::l,key,gl,nf,env,σ,env1,σ1,G,K,h,aa,bW=>by
  simp[oy]at aa;obtain⟨g,v1,bz,a,e,env',σ',b,h1,j,m⟩:=No d h (by simpa[FK]using aa);refine⟨g,v1,bz,h1,I8 d m j λs p i q qT u f n t=>bW _ p i q _ _ f n ?_⟩;grind
theorem JB:∀{env:b3 U} {k:Nat} {v:bP U},a8 (clean gl env) k=some v->a8 env k=some v/\CM gl k=false
 |[],k,v,h=>by grind[clean,a8]
 |(i,w)::r,k,v,h=>by
  simp[clean]at h;split at h;obtain⟨h1,b⟩:=JB h;grind[a8,c7]
  . simp[a8]at h⊢;cases a:Nat.beq i k with
    |true=>simp_all
    |false=>rw[a]at h;exact JB h
theorem adJ{k:Nat}(h:CM gl k=false):a8 gl k=none:=by
 induction gl with
 |nil=>rfl
 |cons e r ih=>
  grind[CM,a8]
theorem eQ.clean{nf:kd}(h:eQ key gl nf env σ env1 σ1 G):c6 key σ (λ_=>true) (tV gl env) env1:=by
 intro k v a;have:a8 env k=some v/\G k:=by
  unfold tV at a;split at a;exact⟨a,h.av.free k rfl⟩;obtain⟨h1,c⟩:=JB a;exact⟨h1,h.av.free k (adJ c)⟩
 obtain⟨v1,h1,c⟩:=h.hn k v this.1;grind
theorem eQ.begin(he:c6 key σ (λ_=>true) env env1)(aG:cB key σ σ1):eQ key [] [] env σ env1 σ1 (λ_=>true):=
 ⟨he,⟨λ_ _=>rfl,λk t b h=>by grind[a8]⟩,aG,λ_ h=>by grind⟩
end
structure iX where
 e:Exit
 sh:Shape
 own:List (Pos×aL)
 us:List aL
def ez(U:cM):I iX->Type
 |[]=>Empty
 |[a]=>a6 U.D a.us
 |a::b::r=>a6 U.D a.us ⊕ ez U (b::r)
structure hz (U:cM) where
 sh:Shape
 own:List (Pos×aL)
 ts:List aL
 outs:List iX
 F:a6 U.D ts->Option (ez U outs)
def CH:Exit->Exit->J
 |.normal,.normal=>true
 |.ret,.ret=>true
 |.exit i,.exit j=>Nat.beq i j
 |_,_=>false
theorem Of{a b:Exit}(h:CH a b):a=b:=by
 cases a<;>cases b<;>simp[CH]at h<;>try rfl
 grind
abbrev vv(U:cM)(R:Type):=Exit->b3 U->bl U->Nat->ag R
def fZ:(outs:I iX)->ez U outs->Exit×b3 U×bl U×Nat
 |[],o=>Empty.elim o
 |[a],h=>(a.e,(fN U a.sh (a6.cells U.D a.us h)).1,(fN U a.sh (a6.cells U.D a.us h)).2,a.sh.st.length)
 |a::b::r,.inl h=>(a.e,(fN U a.sh (a6.cells U.D a.us h)).1,(fN U a.sh (a6.cells U.D a.us h)).2,a.sh.st.length)
 |a::b::r,.inr o=>fZ (b::r) o
def akF{α c:Type}(o:α ⊕ c)(f:α->ag R)(g:c->ag R):ag R:=
 match o with
 |.inl a=>f a
 |.inr b=>g b
def ak2(k:vv U R)(a:iX):(r:I iX)->(ez U r->ag R)->ez U (a::r)->ag R
 |[],_=>λh=>k a.e (fN U a.sh (a6.cells U.D a.us h)).1 (fN U a.sh (a6.cells U.D a.us h)).2 a.sh.st.length
 |_::_,f=>λo=>akF o (λh=>k a.e (fN U a.sh (a6.cells U.D a.us h)).1 (fN U a.sh (a6.cells U.D a.us h)).2 a.sh.st.length) f
def Jj(k:vv U R):(outs:I iX)->ez U outs->ag R
 |[]=>λo=>Empty.elim o
 |a::r=>ak2 k a r (Jj k r)
theorem Pz(k:vv U R):∀{outs:I iX} {o:ez U outs},Jj k outs o=k (fZ outs o).1 (fZ outs o).2.1 (fZ outs o).2.2.1 (fZ outs o).2.2.2
 |[],o=>Empty.elim o
 |[a],h=>rfl
 |a::b::r,.inl h=>rfl
 |a::b::r,.inr o=>Pz k (outs:=b::r)
def oZ(kk:Nat):(outs:I iX)->Exit->b3 U->bl U->Nat->ag (ez U outs)
 |[],_,_,_,_=>none
 |[a],e,env,σ,N=>match CH e a.e with
  |true=>nP kk a.own a.sh a.us env σ N
  |false=>none
 |a::b::r,e,env,σ,N=>match CH e a.e with
  |true=>match nP (U:=U) kk a.own a.sh a.us env σ N with
   |some h=>some (.inl h)
   |none=>none
  |false=>match oZ kk (b::r) e env σ N with
   |some o=>some (.inr o)
   |none=>none
abbrev lo(U:cM):=Nat->ag (hz U)
def gR:dG->Nat
 |.seq a b=>gR a+gR b
 |.cond _ a b=>gR a+gR b
 |.block _ b=>gR b
 |.loop b=>gR b+1
 |_=>0
def ajJ(x:J)(a b:ag R):ag R:=if x then a else b
def bx.inner:gB->J
 |.ptr .. |.arr _=>true
 |_=>false
def ahy:dL->J
 |.box cs=>cs.any bx.inner
 |_=>false
def S5(fo:fQ U)(σ:bl U)(ops:I cf):ba:=
 match ops.any λo=>match o.op with
  |.call f _=>(fo f).any λs=>s.st.any ahy
  |_=>false with
 |true=>σ.map Prod.fst
 |false=>[]
def JC(ops:I cf)(fw:I (Nat×Nat)):ag (I cf×cf):=
 match FJ ops.length fw,ops.getLast? with
 |true,some o=>match o.op,o.guard with
  |.call ..,none=>some (ops.dropLast,o)
  |.iv ..,none=>some (ops.dropLast,o)
  |_,_=>none
 |_,_=>none
theorem abY{ops:I cf}{fw:I (Nat×Nat)}{init:I cf}{last:cf}(h:JC ops fw=some (init,last)):ops=init++[last]/\FJ (init.length+1) fw:=by
 unfold JC at h;split at h;grind[List.getLast?_eq_some_iff];grind
def agF(t:Nat)(o:cf):J:=match o.op with
 |.build _ ps=>ps.any λp=>match p.2.2 with
  |.tmp k=>Nat.beq k t
  |_=>false
 |_=>false
def yT(t:aL)(ops:I cf)(env:b3 U)(σ:bl U):I cf->I (Nat×aL)
 |[]=>[]
 |o::r=>match o.op,o.dst with
  |.mov (.tmp s),some d=>match a8 env s with
   |some (.c (.arr b))=>match ops.any (agF d),x4 b t env σ with
    |true,some _=>(b,t)::yT t ops env σ r
    |_,_=>yT t ops env σ r
   |_=>yT t ops env σ r
  |_,_=>yT t ops env σ r
def ajB(ops:I cf)(env:b3 U)(σ:bl U):I (Nat×aL):=match U.cz with
 |none=>[]
 |some t=>yT t ops env σ ops
def kG(fo:fQ U)(d:lo U)(kk:Nat):dG->Nat->b3 U->bl U->Nat->vv U R->ag R
 |.skip,_,env,σ,N,k=>k .normal env σ N
 |.ret,_,env,σ,N,k=>k .ret env σ N
 |.exit i,_,env,σ,N,k=>k (.exit i) env σ N
 |.region ops,_,env,σ,N,k=>oy fo none ops N [] [] env σ λgl env σ=>FU (tV gl env) σ (N+16*ops.length) λenv σ N=>k .normal env σ N
 |.o2 ops fw,_,env,σ,N,k=>match JC ops fw with
  |some (init,last)=>oy fo (some []) init N [] [] env σ λgl env σ=>match Ca [] init env N fw with
   |true=>oy fo none [last] (N+16*init.length) gl [] env σ λgl env σ=>k .normal (tV gl env) σ (N+16*init.length+16)
   |false=>none
  |none=>match kH (ajB ops env σ) env σ with
   |some (env,σ)=>oy fo (some (S5 fo σ ops)) ops N [] [] env σ λgl env' σ'=>match Ca (S5 fo σ ops) ops env' N fw with
    |true=>FU (tV gl env') σ' (N+16*ops.length) λenv σ N=>k .normal env σ N
    |false=>none
   |none=>none
 |.seq a b,pos,env,σ,N,k=>kG fo d kk a pos env σ N λe env σ N=>match e with
  |.normal=>kG fo d kk b (pos+gR a) env σ N k
  |e=>k e env σ N
 |.cond c a b,pos,env,σ,N,k=>match dr [] none env c with
  |some (.c (.t ⟨.bool,x⟩))=>ajJ x (kG fo d kk a pos env σ N k) (kG fo d kk b (pos+gR a) env σ N k)
  |_=>none
 |.block id b,pos,env,σ,N,k=>kG fo d kk b pos env σ N λe env σ N=>match e with
  |.exit i=>match Nat.beq i id with
   |true=>k .normal env σ N
   |false=>k (.exit i) env σ N
  |e=>k e env σ N
 |.loop b,pos,env,σ,N,k=>match d pos with
  |none=>none
  |some L=>match nP kk L.own L.sh L.ts env σ N with
   |none=>none
   |some h=>(L.F h)>>=λo=>Jj k L.outs o
section
variable {P:Program}{nt kk N:Nat}{env:b3 U}{σ:bl U}{env1:Env}{σ1:bg}
def vj(kk:Nat)(Q:Exit->Env->bg->Nat->Prop):Prop:=∀e N env σ N' env' σ',Conv kk N env σ N' env' σ'->Q e env' σ' N'->Q e env σ N
def mQ(P:Program)(nt kk:Nat)(b:dG)(sh:Shape)(ts:I aL)(outs:I iX)(h:a6 U.D ts)(o:ez U outs):Prop:=
 ∀env1 σ1,c6 sh.st.length (fN U sh (a6.cells U.D ts h)).2 (λ_=>true) (fN U sh (a6.cells U.D ts h)).1 env1->cB sh.st.length (fN U sh (a6.cells U.D ts h)).2 σ1->kk<=sh.st.length->
  ∀Q,vj kk Q->(∀a bz,c6 (fZ outs o).2.2.2 (fZ outs o).2.2.1 (λ_=>true) (fZ outs o).2.1 a->cB (fZ outs o).2.2.2 (fZ outs o).2.2.1 bz->kk<=(fZ outs o).2.2.2->Q (fZ outs o).1 a bz (fZ outs o).2.2.2)->
   mM P nt kk b env1 σ1 sh.st.length Q
def vp(P:Program)(nt kk:Nat)(a:dG)(L:hz U):Prop:=
 ∀h o,L.F h=some o->mQ P nt kk a L.sh L.ts L.outs h o
def gM(P:Program)(nt kk:Nat)(c:lo U):Nat->dG->Prop
 |pos,.seq a b=>gM P nt kk c pos a/\gM P nt kk c (pos+gR a) b
 |pos,.cond _ a b=>gM P nt kk c pos a/\gM P nt kk c (pos+gR a) b
 |pos,.block _ b=>gM P nt kk c pos b
 |pos,.loop b=>(∀L,c pos=some L->vp P nt kk b L)
 |_,_=>True
theorem vj.andThen{next:Env->bg->Nat->Prop}(h:vj kk Q)(aI:∀N env σ N' env' σ',Conv kk N env σ N' env' σ'->next env' σ' N'->next env σ N):vj kk (andThen next Q):=by
 intro e N env σ N' env' σ' a c;cases e with
 |normal=>exact aI _ _ _ _ _ _ a c
 |_=>exact h _ _ _ _ _ _ _ a c
theorem ru{fo:fQ U}(s:fR P fo){E:lo U}:∀{c:dG} {pos:Nat} {env:b3 U} {σ:bl U} {N:Nat} {k:vv U R} {r:R} {env1:Env} {σ1:bg} {Q:Exit->Env->bg->Nat->Prop},
 gM P nt kk E pos c->kG fo E kk c pos env σ N k=some r->c6 N σ (λ_=>true) env env1->cB N σ σ1->kk<=N->vj kk Q->
 (∀e env' σ' N' q bz,k e env' σ' N'=some r->c6 N' σ' (λ_=>true) env' q->cB N' σ' bz->kk<=N'->Q e q bz N')->cH P nt kk c env1 σ1 N Q
 |.skip,pos,env,σ,N,k,r,env1,σ1,Q,ak,aa,he,aG,m,j,d=>cH.skip (d _ _ _ _ _ _ aa he aG m)
 |.ret,pos,env,σ,N,k,r,env1,σ1,Q,ak,aa,he,aG,m,j,d=>cH.ret (d _ _ _ _ _ _ aa he aG m)
 |.exit i,pos,env,σ,N,k,r,env1,σ1,Q,ak,aa,he,aG,m,j,d=>cH.exit (d _ _ _ _ _ _ aa he aG m)
 |.region ops,pos,env,σ,N,k,r,env1,σ1,Q,ak,aa,he,aG,m,j,d=>
  cH.ake (Er s (eQ.begin he aG) aa λC F env' σ' q bz A h1 f=>by
   obtain⟨B,H,I,qT,G,g1,g2,g3,g4,S⟩:=MB h1 f.clean f.e1 (show kk<=_ by omega)
   exact j _ _ _ _ _ _ _ g2 (d _ _ _ _ _ _ g1 g3 g4 (by omega)))
 |.o2 ops fw,pos,env,σ,N,k,r,env1,σ1,Q,ak,aa,he,aG,m,j,d=>by
  simp only[kG]at aa;split at aa
  . rename_i init last Y;obtain⟨rfl,Z⟩:=abY Y;refine cH.akf Z (I8 s (eQ.begin he aG) aa λC F env' σ' q bz A h1 f=>?_);split at h1
    rename_i n;refine⟨Jt f.hn n,Er s (l:=[last]) (nf:=[]) ⟨f.hn,f.av,f.e1,λg av=>by grind⟩ h1 λaf ag B H qT G ad u v=>d _ _ _ _ _ _ u v.clean v.e1 (by omega)⟩;grind
  . split at aa
    . rename_i fF aj W;obtain⟨pq,ai,V,he,aG,_⟩:=xh (kk:=kk) (gl:=[]) W he aG;refine cH.conv V (cH.o2 (I8 s (eQ.begin he aG) aa λC F env' σ' q bz A h1 f=>?_));split at h1
      rename_i n;obtain⟨B,H,I,qT,G,g1,g2,g3,g4,S⟩:=MB h1 f.clean f.e1 (show kk<=_ by omega);exact⟨Jt f.hn n,j _ _ _ _ _ _ _ g2 (d _ _ _ _ _ _ g1 g3 g4 (by omega))⟩;grind
    cases aa
 |.seq a b,pos,env,σ,N,k,r,env1,σ1,Q,ak,aa,he,aG,m,j,d=>by
  refine cH.seq (ru s ak.1 aa he aG m (j.andThen λN env σ N' env' σ' n h=>cH.conv n h) λe env' σ' N' q bz h1 f u v=>?_);cases e with
  |normal=>exact ru s ak.2 h1 f u v j d
  |_=>exact d _ _ _ _ _ _ h1 f u v
 |.cond c a b,pos,env,σ,N,k,r,env1,σ1,Q,ak,aa,he,aG,m,j,d=>by
  simp only[kG]at aa;split at aa
  . rename_i x n;have av:hf [] env (λ_=>true):=⟨λ_ _=>rfl,λk t b h=>by grind[a8]⟩
    obtain⟨p,v1,a1,a2,a3⟩:=cC he av n;have:=a2.js;subst this;refine cH.cond a1 (a3 rfl) (λw=>?_) (λw=>?_);subst w;exact ru s ak.1 aa he aG m j d;subst w;exact ru s ak.2 aa he aG m j d
  grind
 |.block id b,pos,env,σ,N,k,r,env1,σ1,Q,ak,aa,he,aG,m,j,d=>by
  refine cH.block (ru s ak aa he aG m ?_ λe env' σ' N' q bz h1 f u v=>?_)
  . intro e N env σ N' env' σ' n y;cases e with
    |exit i=>
     simp only[inBlock]at y⊢;split at y;rename_i z;rw[ah z];exact j _ _ _ _ _ _ _ n y;rename_i z;rw[au z];exact j _ _ _ _ _ _ _ n y
    |_=>exact j _ _ _ _ _ _ _ n y
  . cases e with
    |exit i=>
     simp only[inBlock];simp only at h1;split at h1;rename_i w;rw[ah (c7 w)];grind;rename_i w;rw[au (ib w)];grind
    |_=>exact d _ _ _ _ _ _ h1 f u v
 |.loop b,pos,env,σ,N,k,r,env1,σ1,Q,ak,aa,he,aG,m,j,d=>by
  simp only[kG]at aa;split at aa;grind
  . rename_i L T;split at aa
    grind;rename_i h X;obtain⟨o,ab,D⟩:=lb.1 aa;rw[Pz]at D;obtain⟨q,bz,J,K,M,O⟩:=w7 X he aG m;exact cH.conv J (cH.ajT (ak L T h o ab q bz K M O Q j λae al h1 f u=>d _ _ _ _ _ _ D h1 f u))
theorem mQ.Vu {fo:fQ U}(O:fR P fo){H:lo U}{t:dG}{sh:Shape}{own:I (Pos×aL)}{ts:I aL}{outs:I iX}{h:a6 U.D ts}{o:ez U outs}{A:a6 U.D ts->ag (ez U outs)}
 (W:gM P nt kk H 0 t)(K:∀h o,A h=some o->mQ P nt kk t sh ts outs h o)
 (aa:kG fo H kk t 0 (fN U sh (a6.cells U.D ts h)).1 (fN U sh (a6.cells U.D ts h)).2 sh.st.length (λe env σ N=>match e with
  |.normal=>match nP kk own sh ts env σ N with
   |some w=>A w
   |none=>none
  |e=>oZ kk outs e env σ N)=some o):mQ P nt kk t sh ts outs h o:=by
 intro env1 σ1 he aG p Q x S;refine mM.round (ru O W aa he aG p (x.andThen λN env σ N' env' σ' L h=>mM.conv L h) λe env' σ' N' v bz h1 E F G=>?_);have q:∀u,u=e->u≠.normal->oZ kk _ u env' σ' N'=some o->Q e v bz N':=by
  intro u Z ak ar;obtain⟨aJ,s1,c,f,g,j,B⟩:=Hl ar E F G;exact x _ _ _ _ _ _ _ c (by grind)
 cases e with
 |normal=>
  simp at h1;split at h1;rename_i w z;obtain⟨aJ,s1,c,f,g,j⟩:=w7 z E F G;exact mM.conv c (K w o h1 aJ s1 f g j Q x S);grind
 |exit i=>exact q _ rfl (by simp) h1
 |ret=>exact q _ rfl (by simp) h1
 |goto l=>exact q _ rfl (by simp) h1
 |panic Y=>exact q _ rfl (by simp) h1
 |outgrown=>exact q _ rfl (by simp) h1
where
 Hl {N:Nat} {env:b3 U} {σ:bl U} {env1:Env} {σ1:bg}:∀ {outs:I iX} {e:Exit} {o:ez U outs},oZ kk outs e env σ N = some o->c6 N σ (λ_=>true) env env1->cB N σ σ1->kk<=N->
  ∃v bz,Conv kk N env1 σ1 (fZ outs o).2.2.2 v bz/\c6 (fZ outs o).2.2.2 (fZ outs o).2.2.1 _ (fZ outs o).2.1 v/\cB (fZ outs o).2.2.2 (fZ outs o).2.2.1 bz/\kk<=(fZ outs o).2.2.2/\e=(fZ outs o).1
  |[],e,o,h,_,_,_=>by grind[oZ]
  |[a],e,o,h,he,aG,p=>by
   simp[oZ]at h;split at h;rename_i y;obtain⟨aJ,s1,c,f,g,j⟩:=w7 h he aG p;exact⟨aJ,s1,c,f,g,j,Of y⟩;grind
  |a::b::r,e,o,h,he,aG,p=>by
   simp only[oZ]at h;split at h
   . rename_i y;split at h
     rename_i ad z;cases h;obtain⟨aJ,s1,c,f,g,j⟩:=w7 z he aG p;exact⟨aJ,s1,c,f,g,j,Of y⟩;grind
   . split at h
     rename_i al X;cases h;obtain⟨aJ,s1,c,f,g,j,B⟩:=Hl X he aG p;exact⟨aJ,s1,c,f,g,j,B⟩;grind
end
end
open Go
variable {U:cM}{R:Type}
def nM:Nat->I (bP U)->b3 U
 |_,[]=>[]
 |i,v::vs=>(i,v)::nM (i+1) vs
def JW(env:b3 U)(σ:bl U):jm->ag (bP U)
 |.tmp t=>a8 env t
 |.cell t g k=>match a8 env t with
  |some (.c (.ptr b o))=>match a8 σ b with
   |some (.box cs)=>rS g k cs o
   |_=>none
  |_=>none
def w3(env:b3 U)(σ:bl U):I jm->ag (I (bP U))
 |[]=>some []
 |r::a=>match JW env σ r,w3 env σ a with
  |some v,some vs=>some (v::vs)
  |_,_=>none
def Jo:I (bP U)->bP U
 |[]=>.bf []
 |[v]=>v
 |v::w::vs=>.bf (v::w::vs)
def Ce(kk:Nat)(c:I jm)(e1:dy)(eT:I dL)(us:I aL)(env:b3 U)(σ:bl U):ag (a6 U.D us):=
 match w3 env σ c with
 |none=>none
 |some vs=>match xT σ kk 0 eT (HA e1 (Jo vs) ([],[])) []with
  |(bs,d)=>match kH d env σ with
   |none=>none
   |some (env',σ')=>match w3 env' σ' c with
    |none=>none
    |some e=>match tU bs&&(keeps kk bs&&Nat.beq bs.length eT.length)with
     |false=>none
     |true=>match jX bs e1 (Jo e),i' bs σ' 0 eT with
      |some a,some b=>a6.dec U.D us (a++b)
      |_,_=>none
def Wa(kk:Nat)(a:I jm)(e1:dy)(eT:I dL)(us:I aL):vv U (a6 U.D us)
 |.normal,env,σ,_=>Ce kk a e1 eT us env σ
 |.ret,env,σ,_=>Ce kk a e1 eT us env σ
 |_,_,_,_=>none
variable{Q:Exit->Env->bg->Nat->Prop}{nt kk f:Nat}{p:ba}
section
variable {P:Program}{nt kk N:Nat}{env:b3 U}{σ:bl U}{env1:Env}{σ1:bg}
def sR(kk:Nat)(Q:Exit->Env->bg->Nat->Prop):Exit->Env->bg->Nat->Prop:=
 λe env σ N=>∃N' env' σ',Conv kk N env σ N' env' σ'/\Q e env' σ' N'
theorem sR.S2:vj kk (sR kk Q):=
 λe N env σ N' env' σ' h ⟨a,c,j,f,g⟩=>⟨a,c,j,h.trans f,g⟩
variable{c:dG}
theorem cH.V4{env:Env}{σ:bg}(h:cH P nt kk c env σ N (sR kk Q)):cH P nt kk c env σ N Q:=
 λy t aA φ S a w f R=>wp_mono (h _ t aA φ S a w f R) λe a w ⟨bq,bu,env',σ',N',⟨g,p,v,q,u⟩,R'⟩=>
  let⟨x,o,j⟩:=q aA nt _ bu a w f R';⟨x,o,p,v,g,u,j⟩
theorem aap(he:c6 N σ (λ_=>true) env env1)(aG:cB N σ σ1){a:jm}{v:bP U}(h:JW env σ a=some v):∃p v1,tT env1 σ1 a=some (p,v1)/\p/\b7 N σ v v1:=by
 cases a with
 |tmp t=>
  obtain⟨v1,h1,c⟩:=he t v h;exact⟨True,v1,by grind[tT],trivial,c⟩
 |cell t g k=>
  simp[JW]at h;split at h
  . rename_i b o i;split at h
    . rename_i cs f;obtain⟨v1,h1,c⟩:=he t _ i;have:=c.hr;obtain⟨_,y,j,d⟩:=aG b _ f;cases d with
      |box d=>
       obtain⟨v2,l,e⟩:=wm d h;exact⟨True,v2,by grind[tT],trivial,e⟩
    grind
  grind
theorem K5(he:c6 N σ (λ_=>true) env env1)(aG:cB N σ σ1):∀{b:I jm} {vs:I (bP U)},w3 env σ b=some vs->∃p a,qi env1 σ1 b=some (p,a)/\p/\bb (b7 N σ) vs a
 |[],vs,h=>by simp[w3]at h;subst h;exact⟨_,[],rfl,trivial,.nil⟩
 |r::e,vs,h=>by
  simp[w3]at h;split at h;rename_i v f h1 d;cases h;obtain⟨p,v1,a1,a2,a3⟩:=aap he aG h1;obtain⟨q,a,b1,b2,c⟩:=K5 he aG d;exact⟨p/\q,v1::a,by grind[qi],⟨a2,b2⟩,.cons a3 c⟩;grind
theorem acG{vs:I (bP U)}{c:I V}(h:bb (b7 N σ) vs c):b7 N σ (Jo vs) (mE c):=by
 cases h with
 |nil=>exact .bf [] [] rfl (by simp)
 |cons h1 a=>
  cases a with
  |nil=>exact h1
  |cons a b=>
   refine .bf _ _ (by simp[b.length]) λi x d aa g=>?_;obtain⟨e,aJ,f⟩:=(bb.cons h1 (.cons a b)).get aa;grind
def Gd(s:cP U)(r:a6 U.D s.us):V->bg->Nat->Prop:=λa bz N'=>N'=s.eT.length/\b7 N' (s.rest r) (s.res r) a/\cB N' (s.rest r) bz
theorem acH{e:I jm}{s:cP U}{r:a6 U.D s.us}(h:Ce kk e s.e1 s.eT s.us env σ=some r)(he:c6 N σ (λ_=>true) env env1)(aG:cB N σ σ1):
 ∃j bz,Conv kk N env1 σ1 N j bz/\∃p d,qi j bz e=some (p,d)/\p/\
  ∃bs c σ2,bs.Nodup/\keeps kk bs/\gY ((mE d).b8 bs) c/\sU (fV bs bz 0 bs) σ2/\Gd s r c σ2 bs.length:=by
 unfold Ce at h;split at h;grind
 . split at h;rename_i bs B _;split at h
   grind
   . rename_i env' σ' v;obtain⟨aJ,s1,m,n,i,_⟩:=xh (kk:=kk) (gl:=[]) v he aG;split at h
     grind
     . rename_i E x;split at h
       grind
       . rename_i k;simp only[dh]at k;obtain⟨q,t,u⟩:=k;have cd:=AU q;have w:=c7 u;split at h
         rename_i a b o l;obtain⟨p,d,d1,d2,d3⟩:=K5 n i x;obtain⟨y,f,g⟩:=Gj cd (BK cd l) o;obtain⟨c,g1,g2⟩:=g _ (acG d3);obtain⟨z,t1,t2⟩:=EO cd i l;have C:=a6.mX h;have aJ:s.res r=y:=(by grind[cP.res]);have A:s.rest r=hL 0 s.eT b:=(by grind[cP.rest]);exact⟨_,_,m,p,d,d1,d2,bs,c,z,cd,t,g1,t1,w,by grind,by grind⟩;grind
def vm(P:Program)(s:cP U)(h:a6 U.D s.ts)(r:a6 U.D s.us):Prop:=
 ∀(a:I V) σ1,bb (b7 s.st.length (s.iL h)) (s.args h) a->cB s.st.length (s.iL h) σ1->eo P s.f a σ1 s.st.length (Gd s r)
theorem hU.of{s:cP U}(h:∀h r,s.F h=some r->vm P s h r):hU P s:=h
theorem vm.Hj {s:cP U}{fn:Func}{c:dG}{g:I jm}{fo:fQ U}{u:lo U}(W:P.funcs[s.f]?=some fn)(L:fn.body.bind (resolve P fn.ntmps)=some c)(al:ir P fn.results.toList=some g)(aI:Nat.ble s.fJ.length fn.ntmps)
 (X:fR P fo)(ak:gM P fn.ntmps s.st.length u 0 c)
 {h:a6 U.D s.ts}{r:a6 U.D s.us}(aa:FP s.st.length (s.iL h) (λσ N=>kG fo u s.st.length c 0 (nM 0 (s.args h)) σ N (Wa s.st.length g s.e1 s.eT s.us))=some r):vm P s h r:=by
 intro j σ1 K aG;have Z:j.length<=fn.ntmps:=by
  rw[<-K.length];refine hN (uS ?_) (ic aI);exact U6
 have O:c6 s.st.length (s.iL h) (λ_=>true) (nM 0 (s.args h)) (fF 0 j):=by
  intro k v ax;have key:∀{xs:I _} {ds:I V} {i:Nat},bb (b7 s.st.length (s.iL h)) xs ds->a8 (nM i xs) k=some v->∃v1,look (fF i ds) k=some (true,v1)/\b7 s.st.length (s.iL h) v v1:=by
   intro xs;induction xs with
   |nil=>grind[nM,a8]
   |cons x xs ih=>
    intro ds i an t;cases an with
    |cons h1 q=>
     simp[nM,a8]at t;simp[fF,look];split at t;simp_all;simp_all[au,ib]
  grind
 obtain⟨aA,Nm,aD,aa,E,S,H,Y⟩:=acD aa O aG;refine eo.tidy (eo.mk W L al rfl Z (cH.conv E (cH.V4 (ru X ak aa S H Y sR.S2 λe env' σ' N' F bz h1 q G ap=>?_)))) (λw s1 A ad=>ad)
 . have o:Ce s.st.length g s.e1 s.eT s.us env' σ'=some r->(e= .normal\/e= .ret)->sR s.st.length (F7 g λw s1 A=>∃bs y σ2,bs.Nodup/\keeps s.st.length bs/\gY (w.b8 bs) y/\sU (fV bs s1 0 bs) σ2/\Gd s r y σ2 bs.length) e F bz N':=by
    intro am Q;obtain⟨aJ,s1,B,p,z,d1,d2,rest⟩:=acH am q G;refine⟨N',aJ,s1,B,?_⟩;rcases Q with rfl|rfl;exact⟨p,z,d1,d2,rest⟩;exact⟨p,z,d1,d2,rest⟩
   cases e with
   |normal=>exact o h1 (.inl rfl)
   |ret=>exact o h1 (.inr rfl)
   |_=>cases h1
where
 U6:∀{ss:I dy} {a:e2 U},(ku ss a).1.length=ss.length
  |[],a=>rfl
  |s::ss,a=>by
   simp[ku];have:=U6 (ss:=ss) (a:=(mr s a).2);grind
def ie:dG->Nat->ag dG
 |.seq a b,q=>match Nat.ble (gR a) q with
  |true=>ie b (q-gR a)
  |false=>ie a q
 |.cond _ a b,q=>match Nat.ble (gR a) q with
  |true=>ie b (q-gR a)
  |false=>ie a q
 |.block _ b,q=>ie b q
 |.loop b,q=>match q with
  |0=>some b
  |q+1=>ie b q
 |_,_=>none
theorem gM.of{g:lo U}:∀{c:dG} {pos:Nat},(∀q b L,ie c q=some b->g (pos+q)=some L->vp P nt kk b L)->gM P nt kk g pos c
 |.seq a b,pos,h=>by
  refine⟨gM.of λq e L h1 f=>h q e L ?_ f,gM.of λq e L h1 f=>h (gR a+q) e L ?_ (by grind)⟩
  . simp[ie];cases o:Nat.ble _ q with
    |true=>exact absurd (sj h1) (by simp_all)
    |false=>grind
  simp[ie];have:Nat.ble (gR a) (gR a+q):=(by simp);grind
 |.cond c a b,pos,h=>by
  refine⟨gM.of λq e L h1 f=>h q e L ?_ f,gM.of λq e L h1 f=>h (gR a+q) e L ?_ (by grind)⟩
  . simp only[ie];cases o:Nat.ble (gR a) q with
    |true=>exact absurd (sj h1) (by simp_all)
    |false=>grind
  simp only[ie];have:Nat.ble (gR a) (gR a+q):=(by simp);grind
 |.block id b,pos,h=>gM.of (c:=b) h
 |.loop b,pos,h=>λL j=>h 0 b L rfl j
 |.skip,pos,h=>trivial
 |.region _,pos,h=>trivial
 |.o2 _ _,pos,h=>trivial
 |.exit _,pos,h=>trivial
 |.ret,pos,h=>trivial
where
 sj:∀{c:dG} {q:Nat} {b:dG},ie c q=some b->q<gR c
  |.seq a b,q,e,h=>by
   simp[ie]at h;simp[gR];split at h;have:=sj h;grind;have:=sj h;omega
  |.cond _ a b,q,e,h=>by
   simp only[ie]at h;simp only[gR];split at h;have:=sj h;grind;have:=sj h;omega
  |.block _ b,q,e,h=>sj (c:=b) h
  |.loop b,0,e,h=>by simp[gR]
  |.loop b,q+1,e,h=>by have:=sj (c:=b) h;grind[gR]
  |.skip,q,e,h=>by grind[ie]
  |.region _,q,e,h=>by grind[ie]
  |.o2 _ _,q,e,h=>by grind[ie]
  |.exit _,q,e,h=>by grind[ie]
  |.ret,q,e,h=>by grind[ie]
theorem gM.Vr{a:lo U}(h:∀q L,a q=some L->vp P nt kk ((ie c q).getD .skip) L):gM P nt kk a 0 c:=
 gM.of λq b L h1 e=>by grind
theorem gM.none:gM P nt kk (λ_=>none:lo U) 0 c:=gM.Vr λq L h=>by grind
theorem fR.none:fR P (λ_=>[]:fQ U):=λf s h=>by grind
end
open Go
def KA(P:Program)(fn:Func):dG:=
 match fn.body.bind (Shv.resolve P fn.ntmps)with
 |some c=>c
 |none=>.skip
def xI(c:dG)(q:Nat):dG:=(ie c q).getD .skip
def ho{U:cM}:I (cP U)->fQ U
 |[],_=>[]
 |s::l,f=>match Nat.beq s.f f with
  |true=>s::ho l f
  |false=>ho l f
def la{U:cM}(l:I (Nat×hz U)):lo U:=λq=>a8 l q
theorem fR.nil{U:cM}{P:Program}:fR P (ho ([]:I (cP U))):=λf s h=>by grind[ho]
theorem fR.cons{U:cM}{P:Program}{s:cP U}{l:I (cP U)}(c:hE P s.f)(hs:hU P s)(h:fR P (ho l)):fR P (ho (s::l)):=by
 intro f t ht;simp[ho]at ht;split at ht
 . rename_i a;have:=c7 a;rcases eE.1 ht with rfl|ht
   grind;exact h f t ht
 exact h f t ht
def jq{U:cM}(P:Program)(nt kk:Nat)(c:dG)(l:I (Nat×hz U)):Prop:=∀q L,a8 l q=some L->vp P nt kk (xI c q) L
theorem jq.nil{U:cM}{P:Program}{nt kk:Nat}{c:dG}:jq P nt kk c ([]:I (Nat×hz U)):=λq L h=>by grind[a8]
theorem jq.cons{U:cM}{P:Program}{nt kk:Nat}{c:dG}{q:Nat}{L:hz U}{l:I (Nat×hz U)}(f:vp P nt kk (xI c q) L)(h:jq P nt kk c l):jq P nt kk c ((q,L)::l):=by
 intro e L' a;simp[a8]at a;split at a;simp_all;exact h e L' a
theorem jq.snd{U:cM}{P:Program}{c:dG}{l:I (Nat×hz U)}(h:jq P nt kk c l):gM P nt kk (la l) 0 c:=gM.Vr λq L a=>h q L a
def a'(k:IntKind)(a b:Int):Int:=k.wrap (a+b)
def dD(k:IntKind)(a b:Int):Int:=k.wrap (a-b)
def fH(k:IntKind)(a b:Int):Int:=k.wrap (a*b)
def gA(k:IntKind)(a b:Int):Int:=k.wrap (a.tdiv b)
def f'(a b:Int):Int:=a.tmod b
def Co(k:IntKind)(a b:Int):Int:=k.wrap (BitVec.ofInt k.bits a &&& BitVec.ofInt k.bits b).toNat
def sw(k:IntKind)(a b:Int):Int:=k.wrap (BitVec.ofInt k.bits a ||| BitVec.ofInt k.bits b).toNat
def x6(k:IntKind)(a b:Int):Int:=k.wrap (BitVec.ofInt k.bits a ^^^ BitVec.ofInt k.bits b).toNat
def o3(k:IntKind)(a b:Int):Int:=k.wrap (a*2^min b.toNat k.bits)
def mG(k:IntKind)(a b:Int):Int:=a.fdiv (2^min b.toNat k.bits)
open Go
variable {U:cM}
structure gL where
 q:Nat
 sh:Shape
 own:List (Pos×aL)
 Dg:List (Pos×aL)
 ts:List aL
 outs:List iX
 sub:List gL
structure eD where
 f:Nat
 fJ:List dy
 st:List dL
 ts:List aL
 e1:dy
 eT:List dL
 us:List aL
 sub:List gL
def gL.l(e:gL)(F:a6 U.D e.ts->ag (ez U e.outs)):hz U:=⟨e.sh,e.own,e.ts,e.outs,F⟩
def eD.s(e:eD)(F:a6 U.D e.ts->ag (a6 U.D e.us)):cP U:=⟨e.f,e.fJ,e.st,e.ts,e.e1,e.eT,e.us,F⟩
def codeF(P:Program)(f:Nat):dG:=match P.funcs[f]? with
 |some fn=>KA P fn
 |none=>.skip
def y3(P:Program)(f:Nat):Nat:=match P.funcs[f]? with
 |some fn=>fn.ntmps
 |none=>0
def SX(P:Program)(f:Nat):I jm:=match P.funcs[f]? with
 |some fn=>(match ir P fn.results.toList with
  |some r=>r
  |none=>[])
 |none=>[]
def u1(P:Program)(e:eD):J:=match P.funcs[e.f]? with
 |some fn=>hE P e.f&&((fn.body.bind (resolve P fn.ntmps)).isSome&&((ir P fn.results.toList).isSome&&Nat.ble e.fJ.length fn.ntmps))
 |none=>false
def iJ(P:Program)(e:eD):Prop:=u1 P e=true
theorem iJ.m{P:Program}{e:eD}(h:u1 P e):iJ P e:=h
def rT(fo:fQ U)(d:lo U)(kk:Nat)(b:dG)(e:gL)(a:a6 U.D e.ts->ag (ez U e.outs))(h:a6 U.D e.ts):ag (ez U e.outs):=
 kG fo d kk b 0 (fN U e.sh (a6.cells U.D e.ts h)).1 (fN U e.sh (a6.cells U.D e.ts h)).2 e.sh.st.length (λx env σ N=>match x with
  |.normal=>match nP kk e.Dg e.sh e.ts env σ N with
   |some c=>a c
   |none=>none
  |x=>oZ kk e.outs x env σ N)
def qH(fo:fQ U)(a:lo U)(P:Program)(e:eD)(h:a6 U.D e.ts):ag (a6 U.D e.us):=
 FP e.st.length (hL 0 e.st (ku e.fJ (a6.cells U.D e.ts h)).2) λσ N=>kG fo a e.st.length (codeF P e.f) 0 (nM 0 (ku e.fJ (a6.cells U.D e.ts h)).1) σ N (Wa e.st.length (SX P e.f) e.e1 e.eT e.us)
variable{e:eD}
section
variable {P:Program}
variable{fo:fQ U}
theorem Nq(f:fR P fo){c:lo U}{b:dG}{e:gL}{h:a6 U.D e.ts}{o:ez U e.outs}{a:a6 U.D e.ts->ag (ez U e.outs)}
 (g:gM P nt kk c 0 b)(d:∀h o,a h=some o->mQ P nt kk b e.sh e.ts e.outs h o)(aa:rT fo c kk b e a h=some o):mQ P nt kk b e.sh e.ts e.outs h o:=by
 refine mQ.Vu (own:=e.Dg) f g d (Eq.trans ?_ aa);grind[rT]
theorem Og{i:lo U}(b:iJ P e)(F:a6 U.D e.ts->ag (a6 U.D e.us))(o:fR P fo)(a:gM P (y3 P e.f) e.st.length i 0 (codeF P e.f))
 {h:a6 U.D e.ts}{r:a6 U.D e.us}(aa:qH fo i P e h=some r):vm P (e.s F) h r:=by
 unfold iJ u1 at b;unfold codeF at a;unfold y3 at a;unfold qH codeF SX at aa;split at b;rename_i fn d;simp[d]at a aa;simp only[dh]at b;obtain⟨q,k,l,m⟩:=b;obtain⟨c,n⟩:=G3.1 k;obtain⟨p,g⟩:=G3.1 l;have j:KA P fn=c:=(by grind[KA]);rw[j]at a aa;simp[g]at aa;exact vm.Hj d n g m o a aa;grind
theorem iJ.b{e:eD}(a:iJ P e):hE P e.f:=by
 grind[iJ,u1]
def yP(fo:fQ U)(kk:Nat):Nat->dG->(e:gL)->a6 U.D e.ts->ag (ez U e.outs)
 |0,_,_,_=>none
 |n+1,b,e,h=>rT fo (la (e.sub.map λs=>(s.q,s.l (yP fo kk n (xI b s.q) s)))) kk b e (yP fo kk n b e) h
def x0(g:(e:eD)->a6 U.D e.ts->ag (a6 U.D e.us))(r:I (cP U)):I eD->fQ U
 |[],f=>ho r f
 |e::T,f=>match Nat.beq e.f f with
  |true=>e.s (g e)::x0 g r T f
  |false=>x0 g r T f
def kr(P:Program)(T:I eD)(a:I (cP U)):Nat->(e:eD)->a6 U.D e.ts->ag (a6 U.D e.us)
 |0,_,_=>none
 |n+1,e,h=>qH (x0 (kr P T a n) a T) (la (e.sub.map λs=>(s.q,s.l (yP (x0 (kr P T a n) a T) e.st.length n (xI (codeF P e.f) s.q) s)))) P e h
theorem GP{b:dG}{g:(s:gL)->a6 U.D s.ts->ag (ez U s.outs)}:∀{l:I gL},(∀s h o,g s h=some o->mQ P nt kk (xI b s.q) s.sh s.ts s.outs h o)->jq P nt kk b (l.map λs=>(s.q,s.l (g s)))
 |[],_=>jq.nil
 |s::l,av=>jq.cons (λh o a=>av s h o a) (GP av)
theorem JX(a:fR P fo):∀(n:Nat) (b:dG) (e:gL) (h:a6 U.D e.ts) (o:ez U e.outs),yP fo kk n b e h=some o->mQ P nt kk b e.sh e.ts e.outs h o
 |0,_,_,_,_,aa=>by grind[yP]
 |n+1,b,e,h,o,aa=>Nq a (jq.snd (GP λs h o c=>JX a n _ s h o c)) (λh o c=>JX a n b e h o c) aa
theorem PA{g:(e:eD)->a6 U.D e.ts->ag (a6 U.D e.us)}{r:I (cP U)}(c:fR P (ho r)):∀{T:I eD},(∀e,e∈T->iJ P e)->(∀e,e∈T->hU P (e.s (g e)))->fR P (x0 g r T)
 |[],_,_=>c
 |e::T,a,av=>by
  intro f t ht;simp[x0]at ht;have ih:=PA c (λe he=>a e (CT _ he)) (λe he=>av e (CT _ he));split at ht
  . rename_i d;have:=c7 d;rcases eE.1 ht with rfl|ht
    exact⟨this,by rw[<-this];exact(a e He).b,av e He⟩;exact ih f t ht
  exact ih f t ht
theorem PB{T:I eD}(a:∀e,e∈T->iJ P e){c:I (cP U)}(f:fR P (ho c)):∀(n:Nat) (e:eD),iJ P e->hU P (e.s (kr P T c n e))
 |0,e,_=>λh r b=>by simp[eD.s,kr]at b
 |n+1,e,he=>hU.of λh r b=>
  have g:=PA f a λd i=>PB a f n d (a d i)
  Og he _ g (jq.snd (GP λs h o j=>JX g n _ s h o j)) b
end
open Go
variable {U:cM}{P:Program}
def fz(P:Program)(s:cP U):Prop:=hE P s.f=true/\hU P s
def qx(P:Program)(f:Nat):ba->dG
 |[]=>codeF P f
 |q::p=>xI (qx P f p) q
def nT(P:Program)(f kk:Nat)(p:ba)(e:gL)(F:a6 U.D e.ts->ag (ez U e.outs)):Prop:=vp P (y3 P f) kk (qx P f p) (e.l F)
def iI(P:Program)(l:I (cP U)):Prop:=fR P (ho l)
theorem iI.n:iI P ([]:I (cP U)):=fR.nil
theorem iI.k{s:cP U}{l:I (cP U)}(h:fz P s)(ak:iI P l):iI P (s::l):=fR.cons h.1 h.2 ak
def jM(P:Program)(f kk:Nat)(p:ba)(l:I (Nat×hz U)):Prop:=jq P (y3 P f) kk (qx P f p) l
theorem jM.n:jM P f kk p ([]:I (Nat×hz U)):=jq.nil
theorem jM.k{f kk q:Nat}{p:ba}{e:gL}{F:a6 U.D e.ts->ag (ez U e.outs)}{l:I (Nat×hz U)}(h:nT P f kk (q::p) e F)(ak:jM P f kk p l):jM P f kk p ((q,e.l F)::l):=jq.cons h ak
def Ch(P:Program)(U:cM)(e:eD)(h:a6 U.D e.ts)(r:a6 U.D e.us):Prop:=vm P (e.s λ_=>none) h r
def yg(P:Program)(U:cM)(f kk:Nat)(p:ba)(e:gL)(h:a6 U.D e.ts)(o:ez U e.outs):Prop:=mQ P (y3 P f) kk (qx P f p) e.sh e.ts e.outs h o
theorem Ch.at(g:iJ P e){fs:I (cP U)}(c:iI P fs){a:I (Nat×hz U)}(ak:jM P e.f e.st.length [] a){h:a6 U.D e.ts}{r:a6 U.D e.us}(aa:qH (ho fs) (la a) P e h=some r):Ch P U e h r:=
 Og g _ c (jq.snd ak) aa
theorem yg.at{e:gL}{a:a6 U.D e.ts->ag (ez U e.outs)}(bK:∀h o,a h=some o->yg P U f kk p e h o){fs:I (cP U)}(g:iI P fs){c:I (Nat×hz U)}(ak:jM P f kk p c){h:a6 U.D e.ts}{o:ez U e.outs}
 (aa:rT (ho fs) (la c) kk (qx P f p) e a h=some o):yg P U f kk p e h o:=
 Nq g (jq.snd ak) bK aa
theorem fz.of(a:iJ P e){F:a6 U.D e.ts->ag (a6 U.D e.us)}(h:∀h r,F h=some r->Ch P U e h r):fz P (e.s F):=⟨a.b,hU.of h⟩
theorem nT.of{e:gL}{F:a6 U.D e.ts->ag (ez U e.outs)}(h:∀h o,F h=some o->yg P U f kk p e h o):nT P f kk p e F:=h
theorem fz.fn(a:iJ P e){F:a6 U.D e.ts->ag (a6 U.D e.us)}{fs:I (cP U)}(g:iI P fs){c:I (Nat×hz U)}(ak:jM P e.f e.st.length [] c)(aa:∀h,qH (ho fs) (la c) P e h=F h):fz P (e.s F):=
 .of a λh r j=>.at a g ak ((aa h).trans j)
theorem nT.ale{e:gL}{F:a6 U.D e.ts->ag (ez U e.outs)}{fs:I (cP U)}(c:iI P fs){a:I (Nat×hz U)}(ak:jM P f kk p a)(aa:∀h,rT (ho fs) (la a) kk (qx P f p) e (λ_=>none) h=F h):nT P f kk p e F:=
 .of λh o g=>.at (λ_ _ h=>by grind) c ak ((aa h).trans g)
theorem fz.rc {e:eD}(c:iJ P e){F:a6 U.D e.ts->ag (a6 U.D e.us)}{b:(a6 U.D e.ts->ag (a6 U.D e.us))->a6 U.D e.ts->ag (a6 U.D e.us)}
 (gJ:∀m:a6 U.D e.ts->a6 U.D e.us->Prop,(∀a,(∀h r,a h=some r->m h r)->∀h r,b a h=some r->m h r)->∀h r,F h=some r->m h r)
 {fs:(a6 U.D e.ts->ag (a6 U.D e.us))->I (cP U)}(j:∀a,fz P (e.s a)->iI P (fs a)){g:I (Nat×hz U)}(ak:jM P e.f e.st.length [] g)(aa:∀a h,qH (ho (fs a)) (la g) P e h=b a h):fz P (e.s F):=
 .of c (gJ _ λa bK h r o=>.at c (j a (.of c bK)) ak ((aa a h).trans o))
theorem nT.rc {f kk:Nat}{p:ba}{e:gL}{F:a6 U.D e.ts->ag (ez U e.outs)}{b:(a6 U.D e.ts->ag (ez U e.outs))->a6 U.D e.ts->ag (ez U e.outs)}
 (gJ:∀m:a6 U.D e.ts->ez U e.outs->Prop,(∀a,(∀h r,a h=some r->m h r)->∀h r,b a h=some r->m h r)->∀h r,F h=some r->m h r)
 {fs:I (cP U)}(g:iI P fs){c:I (Nat×hz U)}(ak:jM P f kk p c)(aa:∀a h,rT (ho fs) (la c) kk (qx P f p) e a h=b a h):nT P f kk p e F:=
 .of (gJ _ λa bK h o j=>.at bK g ak ((aa a h).trans j))
theorem fz.bo{F:a6 U.D e.ts->ag (a6 U.D e.us)}{fs:I (cP U)}(c:iI P fs:=by exact .n){a:I (Nat×hz U)}(ak:jM P e.f e.st.length [] a:=by exact .n)(g:iJ P e:=by exact .m (by kernel_rfl))
 (aa:∀h,qH (ho fs) (la a) P e h=F h:=by intro _;kernel_rfl):fz P (e.s F):= .fn g c ak aa
theorem fz.rx{F:a6 U.D e.ts->ag (a6 U.D e.us)}{b:(a6 U.D e.ts->ag (a6 U.D e.us))->a6 U.D e.ts->ag (a6 U.D e.us)}
 (gJ:∀m:a6 U.D e.ts->a6 U.D e.us->Prop,(∀a,(∀h r,a h=some r->m h r)->∀h r,b a h=some r->m h r)->∀h r,F h=some r->m h r)
 {fs:(a6 U.D e.ts->ag (a6 U.D e.us))->I (cP U)}(g:∀a,fz P (e.s a)->iI P (fs a)){c:I (Nat×hz U)}(ak:jM P e.f e.st.length [] c:=by exact .n)(j:iJ P e:=by exact .m (by kernel_rfl))
 (aa:∀a h,qH (ho (fs a)) (la c) P e h=b a h:=by intro _ _;kernel_rfl):fz P (e.s F):= .rc j gJ g ak aa
theorem nT.rx {f kk:Nat}{p:ba}{e:gL}{F:a6 U.D e.ts->ag (ez U e.outs)}{b:(a6 U.D e.ts->ag (ez U e.outs))->a6 U.D e.ts->ag (ez U e.outs)}
 (gJ:∀m:a6 U.D e.ts->ez U e.outs->Prop,(∀a,(∀h r,a h=some r->m h r)->∀h r,b a h=some r->m h r)->∀h r,F h=some r->m h r)
 {fs:I (cP U)}(g:iI P fs:=by exact .n){c:I (Nat×hz U)}(ak:jM P f kk p c:=by exact .n)(aa:∀a h,rT (ho fs) (la c) kk (qx P f p) e a h=b a h:=by intro _ _;kernel_rfl):nT P f kk p e F:= .rc gJ g ak aa
theorem agG{T:I eD}(h:T.all (u1 P)):∀e,e∈T->iJ P e:=λe he=>gk.1 h e he
theorem fz.run{T:I eD}(dw:T.all (u1 P)){a:I (cP U)}(f:iI P a)(c:iJ P e){F:a6 U.D e.ts->ag (a6 U.D e.us)}(n:Nat)(h:∀h,F h=kr P T a n e h):fz P (e.s F):=
 ⟨c.b,λx r g=>PB (agG dw) f n e c x r ((h x).symm.trans g)⟩
abbrev ao:aL:= .int .i64
abbrev aO(n:Nat):aL:= .slice (.nm n)
abbrev j8:aL:= .slice .str
abbrev dP:aL:= .slice (.int .i64)
abbrev ad(t:aL):dy:= .c (.hole t)
abbrev aB(b o:Nat):dy:= .c (.ptr b o)
abbrev ck(t:aL):dL:= .box [.hole t]
def fB:gB->I aL
 |.hole t=>[t]
 |.cW _ _ _=>[.int .i64]
 |.dY t _=>[t]
 |_=>[]
def bK{α:Type}(f:α->I aL):I α->I aL
 |[]=>[]
 |a::l=>f a++bK f l
def U':dy->I aL
 |.c s=>fB s
 |.agg l=>bK fB l
 |.row n=>[.nm n]
 |.bf _=>[]
def iQ:dy->I aL
 |.bf l=>bK U' l
 |v=>U' v
def cZ:dL->I aL
 |.box l=>bK fB l
 |.arr t=>[.slice t]
 |.bk n=>[.nm n]
 |.set=>[.slice .str]
 |.buf _=>[.str]
 |.cm _ s=>fB s
 |.gone=>[]
def er(l:I (Nat×dy))(st:I dL):I aL:=bK (λp=>iQ p.2) l++bK cZ st
abbrev aZ(f:Nat)(fJ:I dy)(e1:dy)(sub:I gL:=[])(st:I dL:=[])(eT:I dL:=[]):eD:=⟨f,fJ,st,bK iQ fJ++bK cZ st,e1,eT,iQ e1++bK cZ eT,sub⟩
abbrev bR(q:Nat)(l:I (Nat×dy))(st:I dL)(outs:I iX)(sub:I gL:=[])(own:I (Pos×aL):=[])(Dg:I (Pos×aL):=own):gL:=⟨q,⟨l,st⟩,own,Dg,er l st,outs,sub⟩
abbrev bp(e:Exit)(l:I (Nat×dy))(st:I dL:=[])(own:I (Pos×aL):=[]):iX:=⟨e,⟨l,st⟩,own,er l st⟩
abbrev dR(k:Nat)(t:aL):iX:=⟨.ret,⟨[(k,ad t)],[]⟩,[],[t]⟩
abbrev fq(i:Nat):iX:=⟨.exit i,⟨[],[]⟩,[],[]⟩
section
open Go
variable {U:cM}
def Fk(te sz bytes:Nat)(z:I C):dG:=
 .seq (.region [⟨some 2,.mov (.const (.c .bV)),none⟩])
  (.seq (.seq (.region [⟨some 3, .mov (.tmp 0),none⟩,⟨some 4, .eqNil false (.tmp 3),none⟩])
   (.cond (.tmp 4) (.seq (.region [⟨some 2,.mov (.const (.c .bV)),none⟩]) .ret) .skip))
   (.seq (.region [⟨some 5,.bslice sz 0 z [],none⟩,⟨some 6,.mov (.tmp 0),none⟩,⟨some 7,.append te sz bytes (.tmp 5) (.tmp 6),none⟩,⟨some 2,.mov (.tmp 7),none⟩]) .ret))
def u9(bytes n:Nat):J:=(((2*n+192)*bytes<=hD:J)||((n+n/4+512)*bytes<=hD:J))&&(n<=dB:J)
theorem qa{bytes n:Nat}(h:cn bytes n):u9 bytes n:=by
 grind[Kf,u9]
theorem PC{bytes n:Nat}(h:u9 bytes n):jW n bytes/\n<=dB:=by
 unfold u9 at h;simp at h;exact h
def gF{α:Type}(bytes:Nat)(l:I α):ag (I α):=ite (u9 bytes l.length) (some l) none
def FM(U:cM)(f:Nat)(t:aL)(bytes:Nat):cP U:=
 ⟨f,[.c (.hole (.slice t))],[],[.slice t],.c (.arr 0),[.arr t],[.slice t],λ(l:I (t.den U.D))=>gF bytes l⟩
variable{f te:Nat}{z:I C}{es:I (I T)}
section
variable {P:Program}
theorem adK{fn:Func}{sz bytes:Nat}{p:I T}(g:P.funcs[f]?=some fn)(a:fn.body.bind (Shv.resolve P fn.ntmps)=some (Fk te sz bytes z))(j:ir P fn.results.toList=some [.tmp 2])
 (aI:1<=fn.ntmps)(n:toTs z=some p)(m:0<sz)(he:∀e,e∈es->e.length=sz)(l:u9 bytes es.length):
 eo P f [.c (.t (.slice es))] [] 0 (λr σ' N'=>N'=1/\r= .c (.arr 0 sz 0 es.length)/\aV σ' 0=some (.arr sz es)):=by
 have w:=PC l;refine eo.tidy (Q:=λr σ' N'=>∃b,r= .c (.arr b sz 0 es.length)/\aV σ' b=some (.arr sz es)) (eo.mk g a j rfl (by grind) ?_) ?_
 . refine cH.seq (cH.region ?_);simp only[kO,hB,gu,aQ,aS.get,eB,fF,c0.cE,cl,andThen];refine .inr ⟨λ_=>trivial,.inl trivial,?_⟩;refine cH.seq (cH.seq (cH.region ?_));simp only[kO,hB,gu,aQ,aS.get,mA,eB,c0.cE,cl,andThen,look];refine .inr ⟨λ_=>by rfl,.inl trivial,?_⟩;refine .inr ?_;simp only[cF,cl,true_and];intro b q;refine cH.cond (b:=b) (by simp[aS.get,look,sY]) trivial (λv=>?_) (λu=>?_)
   ·
    have d:es=[]:=(by grind);subst d;refine cH.seq (cH.region ?_);simp only[kO,hB,gu,aQ,aS.get,mA,eB,c0.cE,cl,andThen];refine .inr ⟨λ_=>trivial,.inl trivial,?_⟩;refine cH.conv (Conv.own (k:=2) rfl m (iD _)) (cH.ret ?_);refine⟨_,_,rfl,⟨rfl,trivial⟩,_,rfl,?_⟩;rfl
   . refine cH.skip ?_;refine cH.seq (cH.region ?_);simp only[kO,hB,gu,aQ,aS.get,mA,eB,c0.cE,cl,andThen,look,jU,n,ay,Nat.reduceEqDiff,cF,reduceCtorEq,lW,c9,List.replicate];refine .inr ⟨λ_=>trivial,.inr trivial,?_⟩;refine .inr ⟨λ_=>by simp,.inl trivial,?_⟩;refine .inr ⟨λ_=>⟨trivial,trivial,trivial,trivial,trivial,by rfl,he,by grind,by grind⟩,.inr trivial,?_⟩;refine .inr ⟨λ_=>by simp,.inl trivial,?_⟩;refine cH.ret ⟨_,[.c (.arr 80 sz 0 _)],rfl,⟨rfl,trivial⟩,80,by rw[ij];rfl,?_⟩;rfl
 . rintro r σ' N' ⟨b,rfl,hs⟩
   refine⟨[b],_,_,by simp,rfl,?_,λi x aa=>⟨x,aa,?_⟩,rfl,rfl,?_⟩;simp only[V.b8,C.b8,pos,cl];exact .c (dQ.refl _)
   . cases x with
     |box cs=>exact .box (bb.self dQ.refl _)
     |arr sz es=>exact .arr
     |set ks=>exact .same
     |buf E s=>exact .same
     |cm E c=>exact .cm (dQ.refl _)
     |cR sz es i o c=>exact .cR (dQ.refl _)
   grind[fV,aV,b9.b8]
theorem Oh{fn:Func}{sz bytes:Nat}{s:I T}{t:aL}(m:P.funcs[f]?=some fn)(k:fn.body.bind (Shv.resolve P fn.ntmps)=some (Fk te sz bytes z))(n:ir P fn.results.toList=some [.tmp 2])
 (aI:Nat.ble 1 fn.ntmps)(q:toTs z=some s)(o:t.sz U=sz):hU P (FM U f t bytes):=by
 intro l r bK v σ1 i aG;subst o;have a:gF _ l=some r:=bK;unfold gF at a;split at a
 . cases a;cases i with
   |cons h1 g=>
    cases g;have:=b7.jI h1;subst this
    refine eo.conv (.cons (.c (dQ.refl _)) .nil) (λb x aa=>by grind[aV]) ((adK m k n (ic aI) q aL.nK (λe he=>by
     obtain⟨y,_,rfl⟩:=fY.1 he
     exact aL.s8) (by grind)).mono ?_)
    rintro w s1 u ⟨rfl,rfl,hs⟩;refine⟨rfl,.c (.arr 0 _ _ (by simp) λx aa p ar=>?_),λb x aa=>?_⟩
    . have:x=c1.arr t l:=by
       simp[cP.rest,FM,mr,vM,a6.cells,fC.cells,hL,jY,a8]at aa;grind
      grind[c1.dq]
    . have d:(if b=0 then some (c1.arr t l)else none)=some x:=by
       rw[<-aa];cases b<;>rfl
      split at d;rename_i j;cases d;subst j;exact⟨by simp,_,hs,.arr t l⟩;grind
 grind
def uJ{α:Type}(bytes:Nat)(l:I α):ag (I α×I α):=(gF bytes l).map λr=>(l,r)
def KB(U:cM)(f:Nat)(t:aL)(bytes:Nat):cP U:=
 ⟨f,[.c (.arr 0)],[.arr t],[.slice t],.c (.arr 1),[.arr t,.arr t],[.slice t,.slice t],λ(l:I (t.den U.D))=>uJ bytes l⟩
theorem adq{fn:Func}{sz bytes:Nat}{u:I T}{a:bg}(l:P.funcs[f]?=some fn)(d:fn.body.bind (Shv.resolve P fn.ntmps)=some (Fk te sz bytes z))(m:ir P fn.results.toList=some [.tmp 2])
 (aI:1<=fn.ntmps)(t:toTs z=some u)(q:0<sz)(he:∀e,e∈es->e.length=sz)(n:u9 bytes es.length)(h0:aV a 0=some (.arr sz es)):
 eo P f [.c (.arr 0 sz 0 es.length)] a 1 (λr σ' N'=>N'=2/\r= .c (.arr 1 sz 0 es.length)/\aV σ' 0=some (.arr sz es)/\aV σ' 1=some (.arr sz es)):=by
 have D:=PC n;refine eo.tidy (Q:=λr σ' N'=>∃b,1<=b/\r= .c (.arr b sz 0 es.length)/\aV σ' 0=some (.arr sz es)/\aV σ' b=some (.arr sz es)) (eo.mk l d m rfl (by grind) ?_) ?_
 . refine cH.seq (cH.region ?_);simp only[kO,hB,gu,aQ,aS.get,mA,eB,fF,c0.cE,cl,andThen];refine .inr ⟨λ_=>trivial,.inl trivial,?_⟩;refine cH.seq (cH.seq (cH.region ?_));simp only[kO,hB,gu,aQ,aS.get,mA,eB,c0.cE,cl,andThen,look,lg,lM];refine .inr ⟨λ_=>by rfl,.inl trivial,?_⟩;refine .inr ?_;simp only[Nat.reduceEqDiff,cF,cl,mA,true_and];intro b w;refine cH.cond (b:=b) (p:=True) (by simp[aS.get,look,sY]) trivial (λB=>?_) (λA=>?_)
   . have j:es=[]:=(by grind);subst j;refine cH.seq (cH.region ?_);simp only[kO,hB,gu,aQ,aS.get,mA,eB,c0.cE,cl,andThen];refine .inr ⟨λ_=>trivial,.inl trivial,?_⟩;refine cH.conv (Conv.own (k:=2) (g:=true) (sz:=sz) rfl q (by simp)) (cH.ret ?_);refine⟨_,_,rfl,⟨rfl,trivial⟩,_,by simp,rfl,?_,?_⟩
     simp_all[c9,au];rw[c9,ah rfl]
   . refine cH.skip ?_;refine cH.seq (cH.region ?_);simp only[kO,hB,gu,aQ,aS.get,mA,eB,c0.cE,cl,andThen,look,jU,t,ay,Nat.reduceEqDiff,cF,cx,reduceCtorEq,List.replicate];refine .inr ⟨λ_=>trivial,.inr trivial,?_⟩;refine .inr ⟨λ_=>by simp,.inl trivial,?_⟩;have al:∀v,lW (dn a (1+16*1+16*2) (.arr sz v)) (.c (.arr 0 sz 0 es.length))=some (es,some 0):=by
      grind[lW,c9]
     refine .inr ?_;simp only[lg,lM,ij]at al⊢;rw[al];simp only[ay,c9,cl,dW,Nat.reduceMul,Nat.reduceAdd,cF];refine⟨λ_=>⟨trivial,trivial,trivial,trivial,trivial,by rfl,he,by grind,by grind⟩,.inr trivial,?_⟩;refine .inr ⟨λ_=>by simp,.inl trivial,?_⟩;refine cH.ret ⟨_,[.c _],rfl,⟨rfl,trivial⟩,81,by simp,rfl,?_,?_⟩
     simp_all[c9,au,fD];simp_all[c9,ah]
 . rintro r σ' N' ⟨b,y,rfl,F,hs⟩
   refine⟨[0,b],_,_,by grind,rfl,?_,λi x aa=>⟨x,aa,?_⟩,rfl,rfl,?_⟩;simp only[V.b8,C.b8,pos,au (show ¬0=b by omega),cl];exact .c (dQ.refl _)
   . cases x with
     |box cs=>exact .box (bb.self dQ.refl _)
     |arr sz es=>exact .arr
     |set ks=>exact .same
     |buf E s=>exact .same
     |cm E c=>exact .cm (dQ.refl _)
     |cR sz es i o c=>exact .cR (dQ.refl _)
   grind[fV,aV,b9.b8]
theorem adr{fn:Func}{sz bytes:Nat}{E:I T}{t:aL}(o:P.funcs[f]?=some fn)(k:fn.body.bind (Shv.resolve P fn.ntmps)=some (Fk te sz bytes z))(s:ir P fn.results.toList=some [.tmp 2])
 (aI:Nat.ble 1 fn.ntmps)(D:toTs z=some E)(w:t.sz U=sz):hU P (KB U f t bytes):=by
 intro l r bK G σ1 i aG;subst w;have a:(gF _ l).map _=some r:=bK;unfold gF at a;split at a
 . cases a;cases i with
   |cons h1 g=>
    cases g;obtain⟨sz,n,rfl,_,m⟩:=h1.hA;obtain⟨_,y,A,B⟩:=aG 0 _ rfl;cases B;have:=m _ rfl _ rfl;obtain⟨rfl,rfl⟩:=this;have q:l.length=(l.map (t.bJ U)).length:=(by grind);rw[q]
    refine(adq o k s (ic aI) D aL.nK (λe he=>by
     obtain⟨y,_,rfl⟩:=fY.1 he
     exact aL.s8) (by grind) A).mono ?_
    rintro J s1 F ⟨rfl,rfl,u,v⟩
    have d:∀b x,a8 ((KB U f t bytes).rest (l,l)) b=some x->(b=0\/b=1)/\x=c1.arr t l:=by
     intro b x aa;have H:(if b=0 then some (c1.arr t l)else if b=1 then some (c1.arr t l)else none)=some x:=by
      rw[<-aa]
      match b with
      |0=>rfl
      |1=>rfl
      |_+2=>rfl
     grind
    refine⟨rfl,.c (.arr 1 _ _ (by simp) λx aa p ar=>?_),λb x aa=>?_⟩;obtain⟨_,rfl⟩:=d _ _ aa;grind[c1.dq]
    . obtain⟨j,rfl⟩:=d _ _ aa;rcases j with rfl|rfl
      exact⟨by simp,_,u,.arr t l⟩;exact⟨by simp,_,v,.arr t l⟩
 grind
end
end
section
open Go Go.Proofs Go.Proofs.YtopcfbelfjclmaaGreatDoor Go.Shelf
variable {U:cM}
def FN(U:cM)(f E a:Nat):cP U:=
 ⟨f,[.c (.ptr 0 0)],[.cm E (.cN 1),.buf a],[.str],.bf [],[.cm E (.cN 1),.buf a],[.str],λ(s:aq)=>some s⟩
section
variable {P:Program}{ρ:Ren}
theorem adL(L:Lays.n240 P ρ)(q:Builder.X72 P ρ){σ:bg}{z n:Nat}{s:aq}(h0:aV σ 0=some (.cm (ρ.t 72) (.cN 1 n)))(h1:aV σ 1=some (.buf z s)):
 eo P (ρ.f 240) [.c (.ptr 0 0)] σ 2 (λr σ' N'=>r= .bf []/\σ'=σ/\N'=2):=by
 intro φ S w B d y i J vs k;cases k with|cons H k=>
 cases k;have E:=H.hr;subst E;obtain⟨l,⟨p,v,ad,ar,F⟩,u⟩:=d.blk 0 _ h0;have same:∀ w',w' = w->∃ (v:Value) (r:V) (bq:dk) (bu:dm) (σ':bg) (N':Nat),Ending.returned (Value.tuple #[]) = Ending.returned v/\(r = .bf []/\σ' = σ/\N' = 2)/\cc bq w' bu r v/\r.aK (lt N')/\qO bq w' bu σ'/\(∀ (b:Nat) x,aV σ' b = some x->b<N'/\x.aK (lt N'))/\Ext B S bu w w'/\
  (∀(b:Nat) x,aV σ' b=some x->(bq b).2≠0->B (bq b).1\/w.heap.size<=(bq b).1)/\∀b,b<2->bq b=φ b:=by
  rintro w' rfl;exact⟨_,.bf [],φ,S,σ,2,rfl,⟨rfl,rfl,rfl⟩,.bf [] [] rfl (by simp),rfl,d,y,Ext.refl,λb x aa a=>.inl (i b x aa a),λ_ _=>rfl⟩
 rcases ar with rfl|rfl
 . have g:w.cell? ⟨(φ 0).1,0,none⟩=some (.pointer none):=by rw[jd ad];rfl
   have G:w.shape? (φ 0).1=some (ρ.t 72,2):=(by simp[World.shape?,ad]);have D:w.frozen? ⟨(φ 0).1,0,none⟩=false:=(by simp[World.frozen?,ad]);refine(Any.Builder_copyCheck_fresh L q _ w g G D).mono ?_
   rintro e w' ⟨rfl,rfl⟩;obtain⟨I,o⟩:=La ad 0 _;have m:gN w S _ S:=⟨λ_ _ h=>h,λb j h=>sb (o b (λe=>u j (e▸h))) j⟩;refine⟨_,.bf [],φ,S,σ,2,rfl,⟨rfl,rfl,rfl⟩,.bf [] [] rfl (by simp),rfl,⟨λb x aa=>?_,d.inj,λb j h=>?_⟩,y,⟨rfl,rfl,rfl,by simp,λb a cZ=>o b (λe=>cZ (e▸i 0 _ h0 l)),m,λ_ _ h=>.inl h⟩,λb x aa a=>.inl (i b x aa a),λ_ _=>rfl⟩
   . by_cases a:b=0
     subst a;rw[h0]at aa;cases aa;exact⟨l,⟨_,v,I,.inr rfl,bD.mono m (λ_ _=>rfl) (C.mU _) F⟩,u⟩;exact c8.mono (n:=λ_=>true) m (λ_ _=>rfl) rfl (by cases x<;>simp[b9.aK,C.mU]) (λA=>o _ (d.inj b 0 x _ aa h0 a A l)) (d.blk b x aa)
   have:=d.st b j h;simpa using this
 . have g:w.cell? ⟨(φ 0).1,0,none⟩=some (.pointer (some ⟨(φ 0).1,0,none⟩)):=by rw[jd (vs:=[_,_]) ad];rfl
   refine(Any.Builder_copyCheck_used L q _ w g).mono ?_
   rintro e w' ⟨rfl,rfl⟩;exact same _ rfl
theorem adM(L:Lays.n240 P ρ)(c:Builder.X72 P ρ){E a:Nat}(i:ρ.f 240=f)(er:ρ.t 72=E):hU P (FN U f E a):=by
 subst i;subst er;intro s r bK o σ1 b aG;have j:=oX bK.symm;subst j;cases b with|cons b g=>
 cases g;have:=b.hr;subst this;have k:a8 ((FN U (ρ.f 240) (ρ.t 72) a).iL r) 0=some _:=rfl;have l:a8 ((FN U (ρ.f 240) (ρ.t 72) a).iL r) 1=some _:=rfl;obtain⟨_,v,e,b0⟩:=aG 0 _ k;obtain⟨_,w,g1,b1⟩:=aG 1 _ l;cases b1;cases b0 with| @cm _ _ d b0=>
 cases b0 with|cN _ n p q=>
 refine(adL L c e g1).mono ?_
 rintro u s1 m ⟨rfl,rfl,rfl⟩;exact⟨rfl,.bf [] [] rfl (by simp),aG⟩
end
end
section
open Go Go.ChangeShapes Go.WideShapes Go.RowKit
variable {U:cM}
def aL.V8:aL->Nat
 |.bool=>1
 |.int k=>k.bits/8
 |.str=>16
 |.slice _=>24
 |.nm _=>0
def KC:I aL->Nat
 |[]=>0
 |t::r=>t.V8+KC r
def uK(l:I aL):Nat:=bif l.any λt=>Nat.ble 8 t.V8 then(KC l+7)/8*8 else KC l
def aL.bytes(U:cM)(t:aL):Nat:=uK (t.cells U)
inductive WF (U:cM):bL U.D->Prop
 |bool (b:Bool):WF U ⟨.bool,b⟩
 |int (k:IntKind) (n:Int) (h:(Lit.int k n).wf):WF U ⟨.int k,n⟩
 |str (s:aq) (h:s.length<=reachBytes):WF U ⟨.str,s⟩
 |slice (t:aL) (l:List (t.den U.D)) (h:l.length<=reachBytes) (ajC:l.length*t.bytes U<=reachBytes) (ak:∀x,x∈l->∀c,c∈t.row U x->WF U c):WF U ⟨.slice t,l⟩
mutual
inductive nW (U:cM):bL U.D->Nat->Prop
 |bool {b:Bool} {n:Nat} (h:1<=n):nW U ⟨.bool,b⟩ n
 |int {k:IntKind} {x:Int} {n:Nat} (h:1<=n):nW U ⟨.int k,x⟩ n
 |str {s:aq} {n:Nat} (h:s.length+1<=n):nW U ⟨.str,s⟩ n
 |slice {t:aL} {l:List (t.den U.D)} {m n:Nat} (h:lY U t l m) (aI:m+1<=n):nW U ⟨.slice t,l⟩ n
inductive lY (U:cM):(t:aL)->List (t.den U.D)->Nat->Prop
 |nil {t:aL} {n:Nat}:lY U t [] n
 |cons {t:aL} {x:t.den U.D} {l:List (t.den U.D)} {a b n:Nat} (h:eA U (t.row U x) a) (ak:lY U t l b) (aI:a+b<=n):lY U t (x::l) n
inductive eA (U:cM):List (bL U.D)->Nat->Prop
 |nil {n:Nat}:eA U [] n
 |cons {c:bL U.D} {l:List (bL U.D)} {a b n:Nat} (h:nW U c a) (ak:eA U l b) (aI:a+b<=n):eA U (c::l) n
end
theorem eA.mono{l:I (bL U.D)}{a b:Nat}(h:eA U l a)(c:a<=b):eA U l b:=by
 cases h with
 |nil=>exact .nil
 |cons h ak aI=>exact .cons h ak (by omega)
theorem eA.app:∀{l m:I (bL U.D)} {a b n:Nat},eA U l a->eA U m b->a+b<=n->eA U (l++m) n
 |[],m,a,b,n,_,h,aI=>h.mono (by omega)
 |c::l,m,a,b,n,.cons (a:=a1) (b:=b1) h1 e f,h,aI=>.cons h1 (eA.app (n:=b1+b) e h (ek _)) (by omega)
theorem eA.one{c:bL U.D}{n:Nat}(h:nW U c n):eA U [c] n:= .cons h (.nil (n:=0)) (by omega)
structure ye {H:Type}(B:DataW H->Nat):Prop where
 lit:∀l,1<=B (.lit l)
 str:∀b,b.length+1<=B (.lit (.string b))
 nil:1<=B .nil
 slice:∀e s,(e.map B).sum+1<=B (.slice e s)
 agg:∀p,(p.map B).sum<=B (.agg p)
def cM.Total(U:cM):Prop:=∀n (l:I (bL U.D)),l.map bL.ty=U.dx n->∃x,U.make n l=some x
def Ex:I aL->I aL->J
 |[],[]=>true
 |a::l,b::m=>aL.beq a b&&Ex l m
 |_,_=>false
theorem Pg:∀{l m:I aL},Ex l m->l=m
 |[],[],_=>rfl
 |a::l,b::m,h=>by
  simp[Ex]at h;rw[aL.beq_eq h.1,Pg h.2]
 |[],_::_,h=>by cases h
 |_::_,[],h=>by cases h
def Be(P:Program)(g:TypeId->ag (I aL)):I Field->Nat->Nat->ag (I aL)
 |[],off,c=>match Nat.beq off c with
  |true=>some []
  |false=>none
 |f::r,off,c=>match g f.type with
  |none=>none
  |some a=>match Nat.beq f.offset off&&Nat.beq (P.cellsOf f.type) a.length with
   |false=>none
   |true=>match Be P g r (off+a.length) c with
    |none=>none
    |some b=>some (a++b)
def flat(P:Program)(U:cM)(st:TypeId->ag Nat):Nat->TypeId->ag (I aL)
 |0,_=>none
 |n+1,t=>match P.underlying t with
  |some .bool=>some [.bool]
  |some (.int k)=>some [.int k]
  |some .string=>some [.str]
  |some (.slice e)=>match st e with
   |some m=>match Nat.ble 1 (P.bytesOf e)&&Nat.ble (uK (U.dx m)) (P.bytesOf e)with
    |true=>some [.slice (.nm m)]
    |false=>none
   |none=>match flat P U st n e with
    |none=>none
    |some a=>match Nat.ble 1 (P.bytesOf e)&&Nat.ble (uK a) (P.bytesOf e)with
     |false=>none
     |true=>match a with
      |[ty]=>match ty.vQ with
       |true=>none
       |false=>some [.slice ty]
      |_=>none
  |some (.struct fs)=>Be P (flat P U st n) fs.toList 0 (P.cellsOf t)
  |some (.array k e)=>match flat P U st n e with
   |none=>none
   |some a=>match Nat.beq (P.cellsOf t) (k*a.length)&&Nat.beq (P.cellsOf e) a.length with
    |false=>none
    |true=>some (List.replicate k a).flatten
  |_=>none
theorem LS{α:Type}{R:Nat->α->Prop}:∀(n:Nat),(∀i,i<n->∃x,R i x)->∃l:I α,l.length=n/\∀(i:Nat) x,l[i]?=some x->R i x
 |0,_=>⟨[],rfl,by simp⟩
 |n+1,h=>by
  obtain⟨l,ak,b⟩:=LS n λi a=>h i (by omega);obtain⟨x,aa⟩:=h n (by simp);refine⟨l++[x],by grind,λi y al=>?_⟩;grind
variable{v:Value}{t:TypeId}{a:Addr}{dx:I aL}
section
variable {H:Type}{bJ:TypeId×Value->H}{P:Program}{w:World}
abbrev Old(w:World):dm:=λb _=>b<w.heap.size
structure Rd (U:cM)(w:World)(dx:List aL)(cs:List Value)(l:List (bL U.D)):Prop where
 ty:l.map bL.ty=dx
 wf:∀c,c∈l->WF U c
 rt:bb (λc v=>b6 w (Old w) (bL.bJ U c) v) l cs
theorem Bf{t:aL}{x:t.den U.D}(h1:WF U ⟨t,x⟩)(a:b6 w (Old w) (bL.bJ U ⟨t,x⟩) v):Rd U w [t] [v] [⟨t,x⟩]:=
 ⟨rfl,by grind,.cons a .nil⟩
theorem H2:∀{ds:I (DataW H)} {d:DataW H},d∈ds->∀n∈d.weights P t,n∈DataW.weightsAll P t ds
 |d0::ds,d,a,n,aI=>by
  simp[DataW.weightsAll];rcases eE.1 a with rfl|a;grind;exact .inr (H2 a n aI)
theorem Oi{g:TypeId->ag (I aL)}{cs:I Value}:∀{fs:I Field} {bs:ba} {off k:Nat} {dx:I aL},bs.length=fs.length->
 (∀(i:Nat) f,fs[i]?=some f->∀a,g f.type=some a->∃l,Rd U w a ((cs.drop f.offset).take (P.cellsOf f.type)) l/\eA U l (bs.getD i 0))->
 Be P g fs off k=some dx->cs.length=k->∃l,Rd U w dx (cs.drop off) l/\eA U l bs.sum
 |[],_,off,k,dx,_,_,h,ak=>by
  simp[Be]at h;split at h;rename_i e;cases h;have:=c7 e;refine⟨[],⟨rfl,by simp,?_⟩,.nil⟩;rw[fx (by omega)];exact .nil;grind
 |f::r,[],off,k,dx,d,_,_,_=>by cases d
 |f::r,q::bs,off,k,dx,s,av,h,ak=>by
  simp only[Be]at h;split at h;grind
  . rename_i a m;split at h
    grind
    . rename_i d;simp only[dh]at d;have h1:=c7 d.1;have y:=c7 d.2;split at h
      grind
      . rename_i b p;cases h;obtain⟨u,n,v⟩:=av 0 f (by simp) a m
        obtain⟨l2,o,x⟩:=Oi (fs:=r) (bs:=bs) (by simpa using s) (λi f t a m=>by
         have:=av (i+1) f (by simpa using t) a m
         simpa using this) p ak
        refine⟨u++l2,⟨by simp[n.ty,o.ty],?_,?_⟩,eA.app v x (by simp)⟩
        . intro c j;rcases iB.1 j with j|j
          exact n.wf c j;exact o.wf c j
        . have e:cs.drop off=(cs.drop off).take a.length++cs.drop (off+a.length):=by rw[<-uY,Ha]
          rw[e];refine bb.append ?_ o.rt;have:=n.rt;grind
theorem RM{a:I aL}{cs:I Value}:∀(bs:ba) (off:Nat),(∀i,i<bs.length->∃l,Rd U w a ((cs.drop (off+i*a.length)).take a.length) l/\eA U l (bs.getD i 0))->cs.length=off+bs.length*a.length->
 ∃l,Rd U w (List.replicate bs.length a).flatten (cs.drop off) l/\eA U l bs.sum
 |[],off,_,ak=>by
  refine⟨[],⟨rfl,by simp,?_⟩,.nil⟩;rw[fx (by simp at ak;omega)];exact .nil
 |b::bs,off,av,ak=>by
  obtain⟨k,f,m⟩:=av 0 (by simp);rw[C3]at f
  obtain⟨l2,g,n⟩:=RM (a:=a) (cs:=cs) bs (off+a.length) (λi o=>by
   obtain⟨l,h1,j⟩:=av (i+1) (by simp;omega);refine⟨l,?_,by simpa using j⟩;have e:off+(i+1)*a.length=off+a.length+i*a.length:=by rw[h4];omega
   rw[<-e];exact h1) (by rw[lg,h4]at ak;omega)
  refine⟨k++l2,⟨by simp[f.ty,g.ty,List.replicate_succ],?_,?_⟩,eA.app m n (by simp)⟩
  . intro c d;rcases iB.1 d with d|d
    exact f.wf c d;exact g.wf c d
  . have e:cs.drop off=(cs.drop off).take a.length++cs.drop (off+a.length):=by rw[<-uY,Ha]
    rw[e];exact bb.append f.rt g.rt
variable{B:DataW H->Nat}
theorem RN{t:aL}:∀{xs:I (t.den U.D)} {es:I (DataW H)},xs.length=es.length->(∀(i:Nat) x e,xs[i]?=some x->es[i]?=some e->eA U (t.row U x) (B e))->lY U t xs (es.map B).sum
 |[],_,_,_=>.nil
 |x::xs,[],h,_=>by cases h
 |x::xs,e::es,h,aa=>.cons (aa 0 x e rfl rfl) (RN (by simpa using h) λi x e h1 a=>aa (i+1) x e (by simpa using h1) (by simpa using a)) (by simp)
theorem adN{n:Nat}{cs:I Value}(h:w.cells? 0 a n=some cs):cs.length=n/\∀j,j<n->w.cell? (a.add j)=cs[j]?:=by
 exact⟨by simpa using mapM_some_length h,λj b=>mapM_some_get h j j (by grind)⟩
theorem Oj(h:w.cell? a=some v):a.spot=none/\a.block<w.heap.size:=by
 unfold World.cell? at h;split at h
 . rename_i b;split at h
   grind;refine⟨by simp_all,(zF.1 b).1⟩
 grind
theorem QK{i j:Nat}(h:a.spot=none):(a.add i).add j=⟨a.block,a.off+i+j,none⟩:=by
 obtain⟨b,o,c⟩:=a;grind[Addr.add]
theorem Vk(a:U.Total){t:aL}{l:I (bL U.D)}(h:l.map bL.ty=t.cells U):∃x,t.row U x=l:=by
 have one:∀t,l.map bL.ty=[t]->∃x:t.den _,l=[⟨t,x⟩]:=by
  intro t h
  match l,h with
  |[⟨b,x⟩],h=>grind
 cases t with
 |nm n=>
  obtain⟨x,aa⟩:=a n l h;exact⟨x,U.mk_eq n l x aa⟩
 |bool=>obtain⟨x,aa⟩:=one _ h;exact⟨x,aa.symm⟩
 |int k=>obtain⟨x,aa⟩:=one _ h;exact⟨x,aa.symm⟩
 |str=>obtain⟨x,aa⟩:=one _ h;exact⟨x,aa.symm⟩
 |slice t=>obtain⟨x,aa⟩:=one _ h;exact⟨x,aa.symm⟩
def sT(P:Program)(U:cM)(st:TypeId->ag Nat):Prop:=∀e m,st e=some m->flat P U st 60 e=some (U.dx m)
def xW:I (TypeId×Nat)->TypeId->ag Nat
 |[],_=>none
 |p::l,t=>match Nat.beq p.1 t with
  |true=>some p.2
  |false=>xW l t
def Bg(P:Program)(U:cM)(st:TypeId->ag Nat)(t:TypeId)(dx:I aL):J:=
 match flat P U st 60 t with
 |some a=>Ex a dx
 |none=>false
theorem Ju{st:TypeId->ag Nat}(h:Bg P U st t dx):flat P U st 60 t=some dx:=by
 grind[Bg,Pg]
theorem Ph:∀{l:I (TypeId×Nat)} {t m},xW l t=some m->(t,m)∈l
 |p::l,t,m,h=>by
  simp[xW]at h;split at h;grind[c7];exact .tail _ (Ph h)
theorem ahj{l:I (TypeId×Nat)}(h:(l.all λp=>Bg P U (xW l) p.1 (U.dx p.2))):sT P U (xW l):=by
 intro e m he;rw[gk]at h;exact Ju (h _ (Ph he))
theorem ads{st:TypeId->ag Nat}(g:sT P U st){n:Nat}{e:TypeId}(ht:P.underlying t=some (.slice e))(h:flat P U st (n+1) t=some dx):
 ∃ty a c5,dx=[.slice ty]/\flat P U st c5 e=some a/\a=ty.cells U/\1<=P.bytesOf e/\uK a<=P.bytesOf e:=by
 simp[flat,ht]at h;split at h
 . rename_i m f;split at h
   rename_i b;cases h;simp only[dh]at b;exact⟨.nm m,U.dx m,60,rfl,g e m f,rfl,uT b.1,uT b.2⟩;grind
 . split at h
   grind
   . rename_i a c;split at h
     grind
     . rename_i b;have d:1<=P.bytesOf e/\uK a<=P.bytesOf e:=(by simp_all);split at h
       . rename_i ty;split at h
         grind
         . rename_i aI;cases h;refine⟨ty,[ty],n,rfl,c,?_,d⟩;cases ty<;>first|rfl|cases aI
       grind
theorem Ol(aH:U.Total)(cZ:ye B){st:TypeId->ag Nat}(aF:sT P U st):∀(fuel n:Nat) (t:TypeId) (cs:I Value) (x:DataW H×I MemPlace) (dx:I aL),
 DataW.trod bJ P w 0 (λ_=>true) true fuel t cs=some x->flat P U st n t=some dx->(∀k,k∈x.1.weights P t->k<=reachBytes)->∃l,Rd U w dx cs l/\eA U l (B x.1):=by
 intro fuel;induction fuel with
 |zero=>simp_all[DataW.trod]
 |succ m ih=>
  intro n t cs x dx h u W;cases n with
  |zero=>cases u
  |succ n=>
  have aB:=u;simp only[flat]at u;split at u;rename_i p;cases u;obtain⟨b,rfl,rfl⟩:=DataW.trod_bool p h;exact⟨_,Bf (.bool b) (.bool b),.one (.bool (cZ.lit _))⟩;rename_i k p;cases u;obtain⟨i,rfl,rfl,aG⟩:=DataW.trod_int p h;exact⟨_,Bf (.int k i aG) (.int k i),.one (.int (cZ.lit _))⟩;rename_i p;cases u;obtain⟨s,rfl,rfl,hs⟩:=DataW.trod_string p h;have h1:s.data.toList.length<=reachBytes:=W _ (by simp[DataW.weights]);have o:s.data.toList.length=s.size:=CU;refine⟨_,Bf (.str s.data.toList h1) (.str s ?_),.one (.str (cZ.str _))⟩;grind[reachBytes,eS]
  . rename_i e p;obtain⟨ty,a,c5,rfl,L,ao,aA,T⟩:=ads aF p aB;rcases DataW.trod_slice p h with⟨rfl,rfl⟩|⟨g,len,cap,E,rest,az,Q,rfl,rfl,_,aK,_,aI,M,_,_⟩
    refine⟨_,Bf (.slice ty [] (iD _) (by simp) (by simp)) ?_,.one (.slice (m:=0) .nil cZ.nil)⟩;exact .slice [] none 0 0 0 0 (λ_ _=>default) (by simp) (by simp) (by simp) (by simp) (by simp) (by simp)
    . cases Q;have aM:(E.length+rest.length)*P.bytesOf e<=reachBytes:=by
       simp_all[DataW.weights]
      have N:len<=reachBytes:=by
       have h1:E.length+rest.length<=(E.length+rest.length)*P.bytesOf e:=G5 _ aA;omega
      have O:len*uK a<=reachBytes:=by
       have h1:len*uK a<=(E.length+rest.length)*P.bytesOf e:=Nat.mul_le_mul (by omega) T;omega
      have er:∀i,i<len->∃G:ty.den U.D,∃A,A.length=P.cellsOf e/\(∀j,j<P.cellsOf e->w.cell? ((g.add (i*P.cellsOf e)).add j)=A[j]?)/\Rd U w a A (ty.row U G)/\∀S,E[i]?=some S->eA U (ty.row U G) (B S.1):=by
       intro i z;have ab:=M i z;have aq:E[i]?=some E[i]:=e0 (by omega);rw[aq]at ab;cases J:w.cells? 0 (g.add (i*P.cellsOf e)) (P.cellsOf e)with
       |none=>grind
       |some A=>
        rw[J]at ab;obtain⟨h1,o⟩:=adN J
        obtain⟨l,ak,ah⟩:=ih c5 e A _ a ab L (λk af=>W k (by
         simp only[DataW.weights,p,eE,iB];right;left
         exact H2 (fY.2 ⟨E[i],zt _,rfl⟩) k af))
        obtain⟨G,aw⟩:=Vk aH (t:=ty) (by rw[ak.ty,ao])
        exact⟨G,A,h1,o,by rw[aw];exact ak,λS ap=>by
         rw[aq]at ap;cases ap
         rw[aw];exact ah⟩
      obtain⟨xs,ax,am⟩:=LS len er;have al:len≠0->P.cellsOf e=ty.sz U/\0<P.cellsOf e:=by
       intro R;obtain⟨G,A,h1,_,F,_⟩:=er 0 (by omega);have C:=F.rt.length;rw[aL.VR,h1]at C;exact⟨C.symm,by rw[<-C];exact aL.nK⟩
      have aj:len≠0->g.spot=none:=by
       intro R;obtain⟨G,A,h1,o,F,_⟩:=er 0 (by omega);have h0:=o 0 (al R).2;rw[e0 (by rw[h1];exact(al R).2)]at h0;have Y:=(Oj h0).1;simpa[Addr.add]using Y
      have ay:∀x,x∈xs->∃i:Nat,xs[i]?=some x/\i<len:=by
       intro x aa;obtain⟨i,z⟩:=List.mem_iff_getElem?.1 aa;grind
      refine⟨_,Bf (t:= .slice ty) (x:=xs) (.slice ty xs (by omega) (by rw[ax];unfold aL.bytes;rw[<-ao];exact O) ?_) ?_,.one (.slice (m:=((E.map λy=>y.1).map B).sum) (RN (by simp;omega) λi x S h1 o=>by
       obtain⟨A,_,_,_,Y⟩:=am i x h1;rw[qu,bF]at o;obtain⟨y,o,rfl⟩:=o
       exact Y y o) (cZ.slice _ _))⟩
      intro x aa c J;obtain⟨i,z,_⟩:=ay x aa;obtain⟨A,_,_,F,_⟩:=am i x z;exact F.wf c J
      . have O:(xs.map (ty.bJ U)).length=len:=(by simp[ax]);rw[<-O];refine .slice (xs.map (ty.bJ U)) (some g) cap (P.cellsOf e) g.block g.off (λi j=>(w.cell? ⟨g.block,g.off+i*P.cellsOf e+j,none⟩).getD default) (by omega) ?_ ?_ ?_ ?_ ?_
        rw[O];unfold reachBytes at N;unfold dB;omega;intro r V;obtain⟨x,aa,rfl⟩:=fY.1 V;obtain⟨i,_,z⟩:=ay x aa;rw[aL.s8];exact(al (by omega)).1.symm
        . intro R;have aC:len≠0:=by intro h0;apply R;rw[<-List.length_eq_zero_iff];omega
          have:=aj aC;rw[show g=⟨g.block,g.off,g.spot⟩from rfl,this]
        intro i j z ae;rw[O]at z;obtain⟨G,A,h1,o,F,_⟩:=er i z;have C:=o j ae;rw[e0 (by omega)]at C;have ai:=aj (by omega);have aJ:(g.add (i*P.cellsOf e)).add j=⟨g.block,g.off+i*P.cellsOf e+j,none⟩:=QK ai;rw[aJ]at C;exact⟨(Oj C).2,by rw[C];rfl⟩
        . intro i j r aN V ar;rw[qu,bF]at V;obtain⟨x,aa,rfl⟩:=V;obtain⟨A,h1,o,F,_⟩:=am i x aa;have z:i<len:=by have:=(ed.1 aa).1;omega
          rw[aL.vK,qu,bF]at ar;obtain⟨c,J,rfl⟩:=ar;obtain⟨v,au,aE⟩:=F.rt.get J;have ae:j<P.cellsOf e:=by have:=(ed.1 au).1;omega
          have C:=o j ae;have ai:=aj (by omega);have aJ:(g.add (i*P.cellsOf e)).add j=⟨g.block,g.off+i*P.cellsOf e+j,none⟩:=QK ai;rw[aJ,au]at C;rw[C];exact aE
  . rename_i fs p;obtain⟨xs,az,Q,rfl,ak,N,M⟩:=DataW.trod_struct p h;cases Q
    obtain⟨l,X,an⟩:=Oi (U:=U) (w:=w) (P:=P) (cs:=cs) (fs:=fs.toList) (bs:=xs.map λy=>B y.1) (off:=0) (by rw[sv,N];simp) (λi f z a L=>by
     have ad:fs[i]?=some f:=(by simpa using z);have av:=M i f ad;have K:i<xs.length:=by rw[N];exact(zF.1 ad).1
     rw[e0 K]at av
     have:=ih n f.type _ _ a av L (λk af=>W k (by
      simp only[DataW.weights,p]
      exact DataW.weights_mem_each (j:=i) (t:=f.type) (d:=xs[i].1) (by simp[ad]) (by simp[K]) k af))
     have e:(xs.map λy=>B y.1).getD i 0=B xs[i].1:=(by simp[K]);rw[e]
     exact this) u ak
    refine⟨l,by simpa using X,an.mono ?_⟩;have:=cZ.agg (xs.map (·.1));rw[List.map_map]at this;exact this
  . rename_i k e p;split at u
    cases u
    . rename_i a L;split at u
      cases u
      . rename_i Z;cases u;simp only[dh]at Z;have h1:=c7 Z.1;have o:=c7 Z.2;obtain⟨xs,az,Q,rfl,ak,N,M⟩:=DataW.trod_array p h;cases Q;have T:(xs.map λy=>B y.1).length=k:=by rw[sv];omega
        obtain⟨l,X,an⟩:=RM (U:=U) (w:=w) (a:=a) (cs:=cs) (xs.map λy=>B y.1) 0 (λi z=>by
         have z:i<k:=(by omega);have av:=M i z;have K:i<xs.length:=(by omega);rw[e0 K]at av
         obtain⟨l,ak,ah⟩:=ih n e _ _ a av L (λq aD=>W q (by
          simp only[DataW.weights,p]
          exact H2 (fY.2 ⟨xs[i],zt _,rfl⟩) q aD))
         rw[o]at ak;refine⟨l,by rw[ij];exact ak,?_⟩;have e:(xs.map λy=>B y.1).getD i 0=B xs[i].1:=(by simp[K]);rw[e]
         exact ah) (by rw[T,ak,h1,ij])
        rw[T]at X;refine⟨l,by simpa using X,an.mono ?_⟩;have:=cZ.agg (xs.map (·.1));rw[List.map_map]at this;exact this
  cases u
end
end
section
open Go Go.ChangeShapes Go.WideShapes Go.RowKit
variable {U:cM}
def isAgg(P:Program)(t:TypeId):J:=
 match P.underlying t with
 |some (.struct _)=>true
 |some (.array _ _)=>true
 |_=>false
def nH(P:Program)(U:cM)(st:TypeId->ag Nat):I TypeId->I dy->I aL->J
 |[],[],[]=>true
 |t::ts,.row m::a,.nm b::dx=>(Nat.beq m b&&(isAgg P t&&Bg P U st t (U.dx m)))&&nH P U st ts a dx
 |t::ts,.c (.hole ty)::a,d::dx=>(aL.beq ty d&&(!ty.vQ&&(!isAgg P t&&Bg P U st t [ty])))&&nH P U st ts a dx
 |_,_,_=>false
variable{v:Value}{b0 N f:Nat}{t:TypeId}{D:Nat->Type}{ts:I aL}{fJ:I dy}
section
variable {H:Type}{bJ:TypeId×Value->H}{P:Program}{w:World}{φ:dk}
theorem KT{st:TypeId->ag Nat}:∀{d:I TypeId} {b:I dy} {dx:I aL},nH P U st d b dx->d.length=dx.length
 |[],[],[],_=>rfl
 |[],[],_::_,h=>by cases h
 |[],_::_,_,h=>by cases h
 |_::_,[],_,h=>by cases h
 |_::_,a::_,[],h=>by
  cases a with
  |c x=>cases x<;>cases h
  |_=>cases h
 |t::ts,a::b,ty::dx,h=>by
  have:nH P U st ts b dx:=by
   cases a with
   |row m=>cases ty with
    |nm e=>grind[nH]
    |_=>cases h
   |c x=>cases x with
    |hole ty=>grind[nH]
    |_=>cases h
   |_=>cases h
  simp[KT this]
theorem adt{r:Reach}(hs:isAgg P t)(h:Value.okWide P w r b0 t v):∃cs,v= .agg cs:=by
 grind[isAgg,Value.okWide]
theorem adu{r:Reach}(hs:isAgg P t=false)(h:Value.okWide P w r b0 t v):v.cells=#[v]:=by
 unfold isAgg at hs;unfold Value.okWide at h;have a:Cell.okWide P w r b0 t v:=by grind
 cases v with
 |agg cs=>
  simp_all[Cell.okWide,Cell.ok]
 |_=>rfl
variable{B:DataW H->Nat}
theorem Nr{S:dm}:∀{l:I (bL U.D)} {vs:I Value},bb (λc v=>b6 w S (bL.bJ U c) v) l vs->bb (bD φ w S) ((l.map bx.t).map bx.pn) vs
 |[],[],.nil=>.nil
 |c::l,v::vs,.cons h1 a=>.cons h1 (Nr a)
theorem Om(g:U.Total){B:DataW H->Nat}(cZ:ye B)(φ:dk){st:TypeId->ag Nat}(C:sT P U st){b0:Nat}:∀(ts:I TypeId) (e:I dy) (dx:I aL) (args:I Value) (ds:I (DataW H)) (ps:I MemPlace),
 nH P U st ts e dx=true->(∀(j:Nat) t v,ts[j]?=some t->args[j]?=some v->Value.okWide P w .any b0 t v)->
 DataW.TrodAll bJ P w 0 (λ_=>true) true ts args ds ps->(∀k,k∈DataW.weightsEach P ts ds->k<=reachBytes)->
 ∃(l:e2 U) (xs:I (bP U)),l.map bL.ty=dx/\(∀c,c∈l->∀d,d∈c.ty.row U c.val->WF U d)/\ku e l=(xs,[])/\(∀x,x∈xs->hb x)/\bb (cc φ w (Old w)) (xs.map fW) args/\eA U (l.flatMap λc=>c.ty.row U c.val) (ds.map B).sum
 |[],[],[],args,ds,ps,_,_,ht,_=>by
  obtain⟨rfl,rfl,rfl⟩:=trodAll_nil ht;exact⟨[],[],rfl,by simp,rfl,by simp,.nil,.nil⟩
 |t::ts,L::e,ty::dx,args,ds,ps,ar,F,ht,J=>by
  obtain⟨v,vs,d,M,p,q,rfl,rfl,rfl,⟨fuel,h1⟩,N⟩:=trodAll_cons ht;have G:=F 0 t v rfl rfl;have K:∀k,k∈d.weights P t->k<=reachBytes:=λk Q=>J k (by simp_all[DataW.weightsEach,iB]);have rest:=λW=>Om g cZ φ (st:=st) C (b0:=b0) ts e dx vs M q W (λj t v af ah=>F (j+1) t v (by grind) (by grind)) N
   (λk Q=>J k (by simp_all[DataW.weightsEach,iB]))
  unfold nH at ar;split at ar;grind
  . rename_i t0 Z m Y ai ad aJ i c3;cases aJ;cases i;cases c3;simp only[dh]at ar;obtain⟨⟨u,hs,o⟩,z⟩:=ar;have V:=c7 u;obtain⟨l,xs,R,S,E,T,r,s⟩:=rest z;obtain⟨cs,rfl⟩:=adt hs G;obtain⟨D,a,A⟩:=Ol g cZ C fuel 60 t _ _ _ h1 (Ju o) K;obtain⟨x,aa⟩:=Vk g (t:= .nm m) a.ty;refine⟨⟨.nm m,x⟩::l,.agg ((aL.row U (.nm m) x).map .t)::xs,by grind,?_,?_,?_,?_,?_⟩
    . intro c b;rcases eE.1 b with rfl|b
      intro d n;exact a.wf d (aa▸n);grind
    grind[ku,mr];simp_all[eE,hb,bx.sF]
    . refine .cons ?_ r;have:=Nr (φ:=φ) a.rt;rw[<-aa]at this;exact cc.agg (vs:=cs.toList) this
    rw[hd,mB,xB];exact eA.app (by rw[show aL.row U (.nm m) x=D from aa];exact A) s (ek _)
  . rename_i t0 Z ab Y aj ad aJ i c3;cases aJ;cases i;cases c3;simp only[dh,CX]at ar;obtain⟨⟨u,aI,hs,o⟩,z⟩:=ar;have V:=aL.beq_eq u;obtain⟨l,xs,R,S,E,T,r,s⟩:=rest z;rw[adu hs G]at h1;obtain⟨D,a,A⟩:=Ol g cZ C fuel 60 t _ _ _ h1 (Ju o) K
    match D,a with
    |[],a=>cases a.ty
    |[⟨f,x⟩],a=>
     have X:f=ab:=by have:=a.ty;grind
     subst X;refine⟨⟨f,x⟩::l,.c (.t ⟨f,x⟩)::xs,by grind,?_,?_,?_,?_,?_⟩
     . intro c b;rcases eE.1 b with rfl|b
       . intro d n;refine a.wf d ?_;cases f<;>first|exact n|cases aI
       grind
     simp only[ku,mr,vM,E]
     . intro y al;rcases eE.1 al with rfl|al
       rfl;grind
     . refine .cons ?_ r;cases a.rt with
       |cons O ae=>exact .c O
     . rw[hd,mB,xB];refine eA.app ?_ s (ek _);cases f<;>first|exact A|cases aI
    |_::_::_,a=>have:=a.ty;simp at this
  grind
 |[],[],_::_,_,_,_,ar,_,_,_=>by cases ar
 |[],_::_,_,_,_,_,ar,_,_,_=>by cases ar
 |_::_,[],_,_,_,_,ar,_,_,_=>by cases ar
 |t::ts,L::e,[],_,_,_,ar,_,_,_=>by
  cases L with
  |row m=>cases ar
  |c x=>cases x<;>cases ar
  |agg l=>cases ar
  |bf l=>cases ar
theorem a6.Vs:∀(ts:I aL) (l:e2 U),l.map bL.ty=ts->∃h:a6 U.D ts,a6.cells U.D ts h=l
 |[],[],_=>⟨(),rfl⟩
 |[t],[⟨a,x⟩],h=>by
  have:a=t:=by grind
  subst this;exact⟨x,rfl⟩
 |t::u::r,⟨a,x⟩::l,h=>by
  simp at h;obtain⟨h1,c⟩:=h;subst h1;obtain⟨y,al⟩:=a6.Vs (u::r) l (by grind);exact⟨(x,y),by show⟨a,x⟩::a6.cells _ _ y=_;grind⟩
 |[],_::_,h=>by grind
 |_::_,[],h=>by grind
 |[_],_::_::_,h=>by grind
theorem fC.Cs:∀{ts:I aL} {t:aL} (h:fC D t ts),fC.dec D t ts (fC.cells D t ts h)=some h
 |[],t,x=>bL.SY
 |u::r,t,x=>by
  unfold fC.dec fC.cells;simp[vO,bL.SY];rw[fC.Cs];rfl
theorem a6.Cs:∀{ts:I aL} (h:a6 D ts),a6.dec D ts (a6.cells D ts h)=some h
 |[],_=>rfl
 |_::_,h=>fC.Cs h
theorem a6.ahZ:∀{ts:I aL} {l:I (bL D)},l.map bL.ty=ts->∃h,a6.dec D ts l=some h:=by
 have go:∀(ts:I aL) (l:I _),l.map bL.ty=ts->∃h:a6 D ts,a6.cells D ts h=l:=by
  intro ts;induction ts with
  |nil=>intro l h;cases l with
   |nil=>exact⟨(),rfl⟩
   |cons=>grind
  |cons t r ih=>
   intro l h;cases l with
   |nil=>grind
   |cons c l=>
    obtain⟨e,x⟩:=c;simp at h;obtain⟨h1,a⟩:=h;subst h1;obtain⟨y,al⟩:=ih l a;cases r with
    |nil=>
     cases l with
     |nil=>exact⟨x,rfl⟩
     |cons=>grind
    |cons u r=>exact⟨(x,y),by show⟨e,x⟩::a6.cells D _ y=_;grind⟩
 intro ts l h;obtain⟨y,al⟩:=go ts l h;grind[a6.Cs]
def Ok(U:cM)(ts:I aL)(h:a6 U.D ts):Prop:=∀c,c∈a6.cells U.D ts h->∀d,d∈c.ty.row U c.val->WF U d
theorem ahz:cB N ([]:bl U) []:=λb x h=>by cases h
theorem QL{σ:bl U}:∀{xs:I (bP U)},(∀x,x∈xs->hb x)->bb (b7 N σ) xs (xs.map fW)
 |[],_=>.nil
 |x::xs,h=>.cons (w0 (h x (by simp))).1 (QL λy al=>h y (by grind))
theorem Pj{k:Nat->J}:∀{xs:I (bP U)},(∀x,x∈xs->hb x)->V.aK.V.dI k (xs.map fW)=true
 |[],_=>rfl
 |x::xs,h=>by
  simp[V.aK.V.dI];exact⟨(w0 (N:=0) (σ:=[]) (h x (by simp))).2 k,Pj λy al=>h y (by grind)⟩
def yj(U:cM)(ts:I aL)(h:a6 U.D ts)(n:Nat):Prop:=eA U ((a6.cells U.D ts h).flatMap λc=>c.ty.row U c.val) n
theorem ajN(cZ:ye B){F:a6 U.D ts->ag (a6 U.D [.bool])}(O:U.Total)(hs:hU P ⟨f,fJ,[],ts,.c (.hole .bool),[],[.bool],F⟩)
 {st:TypeId->ag Nat}(K:sT P U st){g:I TypeId}(ar:nH P U st g fJ ts)
 {b0:Nat}{args:Array Value}{ds:I (DataW H)}(N:∀h:a6 U.D ts,Ok U ts h->yj U ts h (ds.map B).sum->F h=some true){ps:I MemPlace}(L:∀(j:Nat) t v,g[j]?=some t->args[j]?=some v->Value.okWide P w .any b0 t v)
 (ht:DataW.TrodAll bJ P w 0 (λ_=>true) true g args.toList ds ps)(M:∀k,k∈DataW.weightsEach P g ds->k<=reachBytes):
 Calls P f args w λe w'=>e= .returned (.bool true)/\Below w.heap.size w w':=by
 obtain⟨l,xs,s,u,R,z,A,C⟩:=Om O cZ _ K _ fJ ts _ ds ps ar (λj t v p S=>L j t v p (by grind)) ht M;obtain⟨h,ad⟩:=a6.Vs ts l s;have bK:=N h (λc i d o=>u c (ad▸i) d o) (by unfold yj;rw[ad];exact C)
 have n:=hs h _ bK (xs.map fW) [] (by
  show bb _ (ku fJ _).1 _;grind[QL]) (by
  exact ahz)
 have:=n (λb=>(b,0)) _ w (λ_=>False) {blk:=λb x aa=>(by cases aa),inj:=λb Q x y aa=>(by simp),st:=λb j m=>m} (λb x aa=>by cases aa) (λb x aa=>by simp)
  (Pj z) _ A
 refine this.mono λe w' ⟨v,r,bq,bu,σ',N',he,⟨_,E,_⟩,J,_,_,_,a,_⟩=>?_;cases E with
 |c i=>
  cases i with
  |t c=>
   cases J with
   |c G=>
    cases G;exact⟨he,a.os,a.tape,a.output,a.size,λk q=>a.block k q (λh=>h)⟩
theorem adv{f:Func}{s:ChangeSpec}{m AJ l:J}{W d:World}{args:Array Value}{ds gs:I (DataW H)}{a:I MemPlace}
 (dJ:DataW.Whole bJ P f.params.toList s.vars false W args.toList ds gs a)(g:Below W.heap.size W d)
 (hres:∀(b:Nat) (c:Nat->J) (n:J),DataW.TrodAll bJ P d b c n f.resultTypes.toList (v.resultList f.resultTypes.size) (s.fn H (ds++gs)).results [])
 (e:∀c:Nat->J,(∀p∈a,c p.block)->DataW.TrodAll bJ P d 0 c true f.params.toList args.toList (s.fn H (ds++gs)).args a)
 (k:∀c:Nat->J,(∀p∈a,c p.block)->DataW.TrodVars bJ P d c s.vars (s.fn H (ds++gs)).vars [])
 (o:∀(j:Nat) (t:TypeId) (r:Value),f.resultTypes[j]?=some t->(v.resultList f.resultTypes.size)[j]?=some r->Value.okWide P d .any 0 t r):
 s.post bJ P f false m AJ l W args v d:=by
 have aD:=dJ.lt;have i:∀p∈a,(λb=>(b<W.heap.size:J)) p.block=true:=λp ar=>by grind
 refine⟨ds,gs,a,[],a,[],dJ,hres _ _ _,e _ i,k _ i,g.frame _,λ_=>?_⟩;refine⟨o,(s.fn H (ds++gs)).results++(s.fn H (ds++gs)).args,(s.fn H _).vars,a,⟨a,[],?_,k _ (λ_ _=>rfl),by simp,?_,λh=>by grind⟩,λp ar _=>ar⟩;have:=trodAll_append (e _ (λ_ _=>rfl)) (hres 0 (λ_=>true) _);grind;intro b off ar;obtain⟨_,_,_,_,_,q,_⟩:=dJ;rw[World.frozen?_of_block (g.block b (aD _ ar))];exact q b _ ar
theorem ajO(cZ:ye B){fn:Func}{s:ChangeSpec}{F:a6 U.D ts->ag (a6 U.D [.bool])}(aj:U.Total)
 (hs:hU P ⟨f,fJ,[],ts,.c (.hole .bool),[],[.bool],F⟩)
 (ai:∀h:a6 U.D ts,Ok U ts h->yj U ts h N->F h=some true){st:TypeId->ag Nat}(Z:sT P U st)(ar:nH P U st fn.params.toList fJ ts)
 {C:TypeId}(hres:fn.resultTypes=#[C])(htb:P.underlying C=some .bool)(u:s.vars=[])
 (O:∀ds:I (DataW H),ds.length=ts.length->(s.fn H ds).results=[.lit (.bool true)]/\(s.fn H ds).args=ds/\(s.fn H ds).vars=[])
 (n:(laidOutB P&&mapsRowed P))(S:fn.params.toList.all (λt=>(t<P.types.size:J)))
 (Y:((List.range P.types.size).all λt=>match P.underlying t with|some (.slice e)=>(0<P.cellsOf e:J)|_=>true))
 {W:World}{base:Nat}{args:Array Value}{ds gs:I (DataW H)}{G:I MemPlace}{L AJ E:J}
 (ae:∀(j:Nat) t v,fn.params[j]?=some t->args[j]?=some v->Value.okWide P W .any base t v)
 (dJ:DataW.Whole bJ P fn.params.toList s.vars false W args.toList ds gs G)
 (Q:(DataW.weightsEach P (fn.params.toList++s.plain.varTypes P) (ds++gs)).all (· <=reachBytes))(ec:((ds++gs).map B).sum<=N):
 Calls P f args W λe l=>∃v,e= .returned v/\s.post bJ P fn false L AJ E W args v l:=by
 have y:=dJ;obtain⟨p,q,w,iQ,rfl,am,cd⟩:=dJ;rw[u]at iQ;obtain⟨rfl,rfl⟩:=trodVars_none iQ;have ah:s.plain.varTypes P=[]:=by show s.vars.filterMap _=[]<;>simp[u]
 rw[ah,nF,nF,gk]at Q;have R:ds.length=ts.length:=by
  have h1:∀{g:I TypeId} {vs:I Value} {ds:I (DataW H)} {ps:I MemPlace},DataW.TrodAll bJ P W 0 (λ_=>true) true g vs ds ps->ds.length=g.length:=by
   intro g;induction g with
   |nil=>grind[trodAll_nil]
   |cons t r ih=>grind[trodAll_cons]
  grind[KT]
 obtain⟨T,V,X⟩:=O ds R;simp only[dh]at n;have K:=kids_rows n.1 n.2;have ab:=slices_full_of P Y;refine(ajN cZ aj hs Z ar (ds:=ds) (λh h1 m=>ai h h1 (eA.mono m (by rw[nF]at ec;exact ec))) (λj t v an af=>ae j t v (by grind) af) w (λk ao=>by grind)).mono λe l ⟨he,z⟩=>?_;subst he;refine⟨_,rfl,adv y z ?_ ?_ ?_ ?_⟩
 intro b i al;rw[nF,T,hres];exact trodAll_cons_mk (shut_bool htb _) trodAll_mk0
 . intro i A;rw[nF,V];have aD:=y.lt;have dw:=λt ht=>by simpa using gk.1 S t ht
   have go:∀ {g:I TypeId} {vs:I Value} {ds:I (DataW H)} {ps:I MemPlace},(∀ t,t∈g->t<P.types.size)->(∀ p∈ps,p.block<W.heap.size/\i p.block)->
    DataW.TrodAll bJ P W 0 (λ_=>true) true g vs ds ps->DataW.TrodAll bJ P l 0 i true g vs ds ps:=by
    intro g;induction g with
    |nil=>intro vs ds ps _ _ h;obtain⟨rfl,rfl,rfl⟩:=trodAll_nil h;exact trodAll_mk0
    |cons t r ih=>
     intro vs ds ps dw o h;obtain⟨v,ap,d,ak,a,b,rfl,rfl,rfl,⟨M,h1⟩,m⟩:=trodAll_cons h;refine⟨a,b,⟨M,DataW.trod_stays K (λ{t e}=>ab t e) (by intro ad;cases ad) (dw t (by simp)) h1 (λx aa=>z.same (o x (by simp[aa])).1) (λx aa=>(o x (by simp[aa])).2)⟩,ih (λt ht=>dw t (by simp[ht])) (λx aa=>o x (by simp[aa])) m,rfl⟩
   rw[nF];exact go dw (λx aa=>⟨aD x (by simp[aa]),A x (by simp[aa])⟩) w
 intro i A;rw[nF,X,u];rfl;exact ok_one hres rfl (okWide_bool_mk htb _)
end
end
section
open Go
theorem GF{a b:Int}(h1: -9223372036854775808<=a+b)(c:a+b<=9223372036854775807):a' .i64 a b=a+b:=by grind[a',IntKind.wrap_i64]
theorem qZ{a b:Int}(h1: -9223372036854775808<=a+b:=by omega)(c:a+b<=9223372036854775807:=by omega):a' .i64 a b=a+b:=GF h1 c
theorem pk{a b:Int}(h1: -9223372036854775808<=a-b)(c:a-b<=9223372036854775807):dD .i64 a b=a-b:=by grind[dD,IntKind.wrap_i64]
theorem mW{a b:Int}(h1: -9223372036854775808<=a-b:=by omega)(c:a-b<=9223372036854775807:=by omega):dD .i64 a b=a-b:=pk h1 c
theorem B8{a:Int}(h1: -9223372036854775808<=a)(b:a<=9223372036854775807):da .i64 a=a:=by grind[da,IntKind.wrap_i64]
theorem lk{a:Int}(h1: -9223372036854775808<=a:=by omega)(b:a<=9223372036854775807:=by omega):da .i64 a=a:=B8 h1 b
theorem aY{k n:Nat}(h:k<n):aE (k:Int) n:=by grind[aE]
theorem fU{k n:Nat}(h:k<n:=by omega):aE (k:Int) n:=aY h
theorem bQ(k:Nat):(k:Int).toNat=k:=e3 k
theorem sH{a:Int}(h0:0<=a)(h1:a<18446744073709551616):IntKind.u64.wrap a=a:=by grind[IntKind.wrap_u64]
theorem ve{a:Int}(h0:0<=a:=by omega)(h1:a<18446744073709551616:=by omega):IntKind.u64.wrap a=a:=sH h0 h1
variable{a:Nat}{α:Type}
theorem hS(h1:a<18446744073709551616:=by omega):da .u64 (a:Int)=a:=sH (by simp) (by omega)
theorem HG:(2:Nat)^64=18446744073709551616:=by rfl
theorem QM{b:Nat}(c:a<18446744073709551616)(d:b<18446744073709551616):sw .u64 (a:Int) (b:Int)=((a ||| b:Nat):Int):=by
 have e:a ||| b<2^64:=Nat.or_lt_two_pow (by grind) (by grind);show IntKind.u64.wrap (BitVec.ofInt 64 _ ||| BitVec.ofInt 64 _).toNat=_;grind[sH]
theorem RO{n c i:Nat}(h:n<2^i):n ||| (c*2^i)=n+c*2^i:=by rw[Nat.or_comm,Nat.mul_comm,<-Nat.two_pow_add_eq_or_of_lt h,Nat.add_comm]
theorem afH{b:Nat}(a:b<256):Co .u8 (b:Int) 127=((b%128:Nat):Int):=by
 have e:(BitVec.ofInt 8 b &&& BitVec.ofInt 8 (127:Nat)).toNat=b%128:=by
  rw[xw,xw,BitVec.toNat_and,zs,oW (by omega)];exact Nat.and_two_pow_sub_one_eq_mod b 7
 show IntKind.u8.wrap (BitVec.ofInt 8 _ &&& BitVec.ofInt 8 (127:Nat)).toNat=_;grind[IntKind.wrap_u8]
theorem Pk{k:Nat}(b:k<=64)(h:a*2^k<18446744073709551616):o3 .u64 (a:Int) (k:Int)=((a*2^k:Nat):Int):=by
 grind[o3,IntKind.bits,sH]
theorem u4(h:a<18446744073709551616):gA .u64 (a:Int) 2=((a/2:Nat):Int):=by
 grind[gA,sH]
theorem xR{b:Nat}:f' (a:Int) (b:Int)=((a%b:Nat):Int):=by rfl
theorem uO{b:Nat}(h:a*b<18446744073709551616):fH .u64 (a:Int) (b:Int)=((a*b:Nat):Int):=by
 grind[fH,sH]
theorem RP{a b:Int}(h1: -9223372036854775808<=a*b)(c:a*b<=9223372036854775807):fH .i64 a b=a*b:=by grind[fH,IntKind.wrap_i64]
theorem sV{b:Nat}(h:a+b<18446744073709551616):a' .u64 (a:Int) (b:Int)=((a+b:Nat):Int):=by
 grind[a',sH]
theorem JY{b:Nat}(h:a+b<=9223372036854775807):a' .i64 (a:Int) (b:Int)=((a+b:Nat):Int):=by grind[GF]
theorem mS(h:a<9223372036854775807):a' .i64 (a:Int) 1=((a+1:Nat):Int):=by grind[GF]
theorem bN(h:a<9223372036854775807:=by omega):a' .i64 (a:Int) 1=((a+1:Nat):Int):=mS h
theorem xa(s:aq)(i:Nat):gj s (i:Int)=((s.getD i 0).toNat:Int):=by rfl
theorem As(s:aq)(i:Nat):(s.getD i 0).toNat<256:=C1 _
theorem wP(l:I α)(k:Nat):gG l (k:Int) (l.length:Int)=l.drop k:=by simp[gG]
theorem adw(l:I α)(k:Nat):gG l 0 (k:Int)=l.take k:=by rfl
theorem oz{b n:Nat}(h1:a<=b)(c:b<=n):fy (a:Int) (b:Int) n:=by grind[fy]
theorem afI(a b:Nat):c4 (a:Int) (b:Int)=((min a b:Nat):Int):=by grind[c4]
theorem ef{k n:Nat}(a:k<=1000:=by omega)(h:n<=100000:=by simp;omega):cn k n:=by
 unfold cn hD dB;simp;have:(2*n+192)*k<=200192*1000:=Nat.mul_le_mul (by omega) a;omega
end
section
open Go Go.Proofs Go.Proofs.YtopcfbelfjclmaaGreatDoor Go.Sort Go.RowKit
variable {P:Program}{α:Type}[Inhabited α]
theorem YR(w:World)(blk:Nat)(f:Array Value->Array Value){b:Nat}(h:b≠blk):(mapBlock w blk f).heap[b]?=w.heap[b]?:=by simp[mapBlock,G8,dN h]
theorem YM(w:World)(blk:Nat)(f:Array Value->Array Value){c:Array Value}{E:TypeId}{a:Nat×Nat}(h:w.heap[blk]?=some (.cells c E a)):(mapBlock w blk f).heap[blk]?=some (.cells (f c) E a):=by
 simp[mapBlock,G8,h,onCells]
theorem afJ{g k:Nat}(bJ:α->I Value)(l:α->I T)(F:Array α->Array α)(aQ:∀x,(bJ x).length=k)(K:∀x,(l x).length=k)(H:0<k)
 (aN:∀(w:World) (S:dm) (x:α) (j:Nat) (t:T) (v:Value),(l x)[j]?=some t->b6 w S t v->(bJ x)[j]?=some v)
 (bK:∀d:Array α,(F d).size=d.size/\∀x,x∈(F d).toList->x∈d.toList)
 (aq:∀(blk off cap:Nat) (d:Array α) (w:World),HoldsK bJ k w blk off d->blk<w.heap.size->d.size<4611686018427387904->
  Calls P f #[.slice (some ⟨blk,off,none⟩) d.size cap,.func (.func g) #[] #[]] w λe w'=>e= .returned (.tuple #[])/\∃n os,w'=sortWorldK bJ k w blk off n (F d) os)
 (aI:∀(p:ag Addr) (cap:Nat) (ai:Value) (w:World),Calls P f #[.slice p 0 cap,ai] w λe w'=>e= .returned (.tuple #[])/\w'=w)
 {σ:bg}{d:I α}(h0:aV σ 0=some (.arr k (d.map l)))(az:0<kk):
 eo P f [.c (.arr 0 k 0 d.length),.c (.fn g [])] σ kk (λr σ' N'=>r= .bf []/\σ'=dn σ 0 (.arr k ((F d.toArray).toList.map l))/\N'=kk):=by
 intro φ S w B o aT aK aO vs G;cases G with|cons u G=>
 cases G with|cons M G=>
 cases G;cases u with|c u=>
 cases M with|c M=>
 obtain⟨a,rfl,am,aR⟩:=u;have aL:_=Value.func (.func g) #[] #[]:=M;subst aL;obtain⟨ak,Y,aS,_,ao⟩:=o.blk 0 _ h0;rw[sv]at ak Y;obtain⟨af,aE⟩:=bK d.toArray;have U:∀ w':World,Ext B S S w w'->qO φ w' S (dn σ 0 (.arr k ((F d.toArray).toList.map l)))->∃ v r bq bu σ' N',Ending.returned (Value.tuple #[]) = Ending.returned v/\(r = V.bf []/\σ' = dn σ 0 (.arr k ((F d.toArray).toList.map l))/\N' = kk)/\cc bq w' bu r v/\r.aK (lt N')/\qO bq w' bu σ'/\(∀ (b:Nat) x,aV σ' b = some x->b<N'/\x.aK (lt N'))/\Ext B S bu w w'/\
  (∀(b:Nat) x,aV σ' b=some x->(bq b).2≠0->B (bq b).1\/w.heap.size<=(bq b).1)/\∀b,b<kk->bq b=φ b:=by
  intro w' er aG;refine⟨_,.bf [],φ,S,_,kk,rfl,⟨rfl,rfl,rfl⟩,.bf [] [] rfl (by simp),rfl,aG,λb x aa=>?_,er,λb x aa m=>?_,λ_ _=>rfl⟩
  . rw[c9]at aa;split at aa
    rename_i m;cases aa;subst m;exact⟨az,rfl⟩;grind
  grind[c9]
 by_cases J:(φ 0).2=0
 ·
  have ar:d=[]:=j3 (by omega);subst ar;refine(aI a _ _ w).mono ?_
  rintro e w' ⟨rfl,rfl⟩
  have he:(F ([]:I α).toArray).toList.map l=([]:I α).map l:=by grind
  refine U _ Ext.refl ?_;rw[he];refine⟨λb x aa=>?_,λb A x y aa al=>?_,o.st⟩
  . rw[c9]at aa;split at aa
    rename_i m;cases aa;subst m;exact o.blk _ _ h0;exact o.blk b x aa
  . have key:∀b x,aV (dn σ 0 (.arr k (([]:I α).map l))) b=some x->∃z,aV σ b=some z:=by
     intro b x aa;rw[c9]at aa;grind
    obtain⟨z,N⟩:=key b x aa;obtain⟨R,Q⟩:=key A y al;exact o.inj b A z R N Q
 . obtain⟨vs,E,ad,ah,ap,Z⟩:=ao J;rw[am J];have ae:∀(i j:Nat) (t:T) (x:α),d[i]?=some x->(l x)[j]?=some t->∃v,vs[i*k+j]?=some v/\b6 w S t v/\(bJ x)[j]?=some v:=by
    intro i j t x q s;obtain⟨v,u,ab⟩:=ap i j (l x) t (by rw[qu,q];rfl) s;grind
   have W:(φ 0).1<w.heap.size:=(by grind);have aj:HoldsK bJ k w (φ 0).1 (0*k) d.toArray:=by
    intro j s;rw[size_flatK]at s;have ax:j<d.length*k:=(by simpa using s);have q:j/k<d.length:=(Nat.div_lt_iff_lt_mul H).2 ax;have D:j%k<k:=zE _ H;have aa:d[j/k]?=some d[j/k]:=e0 q;have aC:j%k<(l d[j/k]).length:=by rw[K];exact D
    obtain⟨v,u,_,he⟩:=ae (j/k) (j%k) _ _ aa (e0 aC);have ay:j/k*k+j%k=j:=by rw[Nat.mul_comm];exact Nat.div_add_mod j k
    rw[ay]at u;refine⟨?_,by simp[World.frozen?,ad]⟩;rw[C3,ij,jd ad,u,get_flatK _ _ _ _ s];grind
   have aA:d.toArray.size<4611686018427387904:=by
    have:dB=281474976710656:=rfl;simp;omega
   refine(aq (φ 0).1 (0*k) _ d.toArray w aj W aA).mono ?_
   rintro e w' ⟨rfl,n,os,rfl⟩
   have L:∀b:Nat,b<w.heap.size->b≠(φ 0).1->(sortWorldK bJ k w (φ 0).1 (0*k) n (F d.toArray) os).heap[b]?=w.heap[b]?:=by
    intro b m aF;unfold sortWorldK putRowK putRow;rw[heap_grow_old _ _ (by simpa[mapBlock,Go.Sort.ahead]using m),YR _ _ _ aF];rfl
   have aH:(sortWorldK bJ k w (φ 0).1 (0*k) n (F d.toArray) os).heap[(φ 0).1]?=some (.cells (putCells id (0*k) (flatK bJ k (F d.toArray)) vs.toArray).toList.toArray E (0,0)):=by
    unfold sortWorldK putRowK putRow;rw[heap_grow_old _ _ (by simpa[mapBlock,Go.Sort.ahead]using W),YM (Go.Sort.ahead w n) _ _ (by exact ad)]
   have D:gN w S _ S:=⟨λ_ _ h=>h,λb j h=>sb (L b (o.st b j h) (λe=>Z j (e▸h))) j⟩;refine U _ ⟨rfl,rfl,rfl,?_,λb m cZ=>L b m (λe=>cZ (e▸aK 0 _ h0 J)),D,λ_ _ h=>.inl h⟩ ⟨λb x aa=>?_,λb A x y aa al=>?_,λb j h=>?_⟩;unfold sortWorldK putRowK putRow;simp[grow,mapBlock,Go.Sort.ahead]
   . rw[c9]at aa;split at aa
     . rename_i m;cases aa;subst m;refine⟨by simpa[af]using ak,by simpa[af]using Y,λe he=>?_,H,λ_=>⟨_,E,aH,by simpa[putCells]using ah,λi j e t q s=>?_,Z⟩⟩
       obtain⟨x,_,rfl⟩:=fY.1 he;exact K x
       . rw[qu]at q;cases O:(F d.toArray).toList[i]? with
         |none=>rw[O]at q;cases q
         |some x=>
          rw[O]at q;have:e=l x:=(oX q).symm;subst this;have aa:x∈d:=(by simpa using aE x (fr O));obtain⟨aM,av,au⟩:=gT aa;obtain⟨v,u,ab,he⟩:=ae aM j t x (by rw[e0 av,au]) s;refine⟨v,?_,b6.mono D ab⟩;have aP:j<k:=by rw[<-K x];exact(ed.1 s).1
          have aw:i<(F d.toArray).size:=(by grind);have aD:i*k+j<(F d.toArray).size*k:=by
           have:=fg k (show i+1<=(F d.toArray).size from aw);grind
          have aB:i*k+j<vs.length:=by
           rw[ah];refine jD aD (fg k ?_);grind
          have d1:(i*k+j)/k=i:=(blk_iff k i _ H).1 ⟨by omega,by omega⟩;have d2:(i*k+j)%k=j:=by rw[Nat.mod_eq_sub_div_mul,d1];omega
          have aJ:(F d.toArray)[i]! =x:=(by grind);have:(putCells id (0*k) (flatK bJ k (F d.toArray)) vs.toArray).toList[i*k+j]?=some ((flatK bJ k (F d.toArray))[i*k+j]!):=by
           rw[G9];simp only[putCells,Array.getElem?_mapIdx];rw[show vs.toArray[i*k+j]?=some vs[i*k+j] by simp[aB]];simp[size_flatK,aD]
          rw[this,get_flatK _ _ _ _ aD,d1,d2,aJ,List.getElem!_eq_getElem?_getD,he];rfl
     rename_i m;have an:b≠0:=λe=>m (by simp[e]);refine c8.mono (n:=λ_=>true) D (λ_ _=>rfl) rfl (by cases x<;>simp[b9.aK,C.mU]) (λX=>L _ ((o.blk b x aa).jG X) (o.inj b 0 x _ aa h0 an X J)) (o.blk b x aa)
   . have key:∀b x,aV (dn σ 0 (.arr k ((F d.toArray).toList.map l))) b=some x->∃z,aV σ b=some z:=by
      intro b x aa;rw[c9]at aa;grind
     obtain⟨z,N⟩:=key b x aa;obtain⟨R,Q⟩:=key A y al;exact o.inj b A z R N Q
   have:=o.st b j h;unfold sortWorldK putRowK putRow;simp[grow,mapBlock,Go.Sort.ahead];omega
def lh(lt:α->α->J)(l:I α):I α:=(pdq lt l.toArray 0 l.length (Lib.bitLen l.length) true true).toList
theorem IW{lt:α->α->J}(a:SWO lt)(l:I α):(lh lt l).Perm l:=by
 obtain⟨⟨hs,_,ar⟩,_⟩:=pdq_sorts lt a l.toArray 0 l.length (Lib.bitLen l.length) true true (iD _) (by simp) (Or.inl rfl);grind[Array.extract_size,lh]
theorem abZ{lt:α->α->J}(a:SWO lt)(l:I α):(lh lt l).length=l.length:=(IW a l).length_eq
theorem abm{lt:α->α->J}(a:SWO lt)(l:I α):(lh lt l).Pairwise λx y=>lt y x=false:=by
 obtain⟨⟨hs,_,_⟩,aG⟩:=pdq_sorts lt a l.toArray 0 l.length (Lib.bitLen l.length) true true (iD _) (by simp) (Or.inl rfl);have e:=abZ a l;rw[xt];intro i j c d b;have:=aG i j (iD _) b (by grind);grind[lh]
def HC(U:cM)(f n g:Nat)(F:I (U.D n)->I (U.D n)):cP U:=
 ⟨f,[.c (.arr 0),.c (.fn g [])],[.arr (.nm n)],[.slice (.nm n)],.bf [],[.arr (.nm n)],[.slice (.nm n)],λ(l:I (U.D n))=>some (F l)⟩
theorem afK{n g:Nat}[Inhabited (U.D n)](bJ:U.D n->I Value)(lt:U.D n->U.D n->J)(C:SWO lt)(L:∀x,(bJ x).length=(aL.nm n).sz U)
 (E:∀(w:World) (S:dm) (x:U.D n) (j:Nat) (t:T) (v:Value),((aL.nm n).bJ U x)[j]?=some t->b6 w S t v->(bJ x)[j]?=some v)
 (H:∀(blk off cap:Nat) (d:Array (U.D n)) (w:World),HoldsK bJ ((aL.nm n).sz U) w blk off d->blk<w.heap.size->d.size<4611686018427387904->
  Calls P f #[.slice (some ⟨blk,off,none⟩) d.size cap,.func (.func g) #[] #[]] w λe w'=>e= .returned (.tuple #[])/\∃O os,w'=sortWorldK bJ ((aL.nm n).sz U) w blk off O (pdq lt d 0 d.size (Lib.bitLen d.size) true true) os)
 (M:∀(p:ag Addr) (cap:Nat) (y:Value) (w:World),Calls P f #[.slice p 0 cap,y] w λe w'=>e= .returned (.tuple #[])/\w'=w):
 hU P (HC U f n g (lh lt)):=by
 intro l r bK R σ1 a aG;have N:=(oX bK).symm;subst N;cases a with|cons a c=>
 cases c with|cons c F=>
 cases F;obtain⟨sz,m,rfl,_,K⟩:=b7.hA a;have:=b7.GD c;subst this;have s:Shv.a8 ((HC U f n g _).iL l) 0=some _:=rfl;have k:=K _ s _ rfl;obtain⟨_,W,z,b0⟩:=aG 0 _ s;cases b0;have aJ:=(dA Prod.fst k).symm;have u:=(dA Prod.snd k).symm;subst aJ;subst u;have o:∀d:Array _,(lh lt d.toList).Perm d.toList:=λd=>IW C d.toList
 refine(afJ bJ _ (λd=>(lh lt d.toList).toArray) L (λx=>aL.s8) aL.nK E
  (λd=>⟨by simpa using(o d).length_eq,λx aa=>(o d).mem_iff.1 (by grind)⟩) (λblk off cap d w h1 A B=>?_) M z Nat.one_pos).mono ?_
 have:=H blk off cap d w h1 A B;simpa[lh]using this
 . rintro V s1 Q ⟨rfl,rfl,rfl⟩
   refine⟨rfl,.bf [] [] rfl (by simp),λb x aa=>?_⟩;generalize lh lt l=q at aa⊢;have i:(if b=0 then some (c1.arr (.nm n) q)else none)=some x:=by
    rw[<-aa];cases b<;>rfl
   split at i;rename_i G;cases i;subst G;refine⟨Nat.one_pos,_,?_,.arr (.nm n) q⟩;rw[c9];rfl;cases i
theorem adx(w:World)(S:dm)(i:Int)(s:aq)(j:Nat)(t:T)(v:Value)(h:[T.int .i64 i,T.str s][j]?=some t)(a:b6 w S t v):[Value.int .i64 i,Value.string ⟨s.toArray⟩][j]?=some v:=by
 match j,h with
 |0,h=>cases h;cases a;rfl
 |1,h=>cases h;cases a;rfl
theorem agH(key:α->Int):SWO (λx y=>(key x<key y:J)) where
 irrefl x:=by simp
 trans x y z h1 a:=by grind
 ntrans x y z h1 a:=by grind
end
section
open Go Go.Proofs Go.Proofs.YtopcfbelfjclmaaGreatDoor Go.Sort
def ln{α:Type}(a b:ag α):Prop:=∀r,a=some r->b=some r
theorem ln.r{α:Type}{a:ag α}:ln a a:=λ_ h=>h
theorem ln.n{α:Type}{a:ag α}:ln none a:=λ_ h=>by grind
theorem ln.b{α g:Type}{a b:ag α}{k c:α->ag g}(h:ln a b)(e:∀x,ln (k x) (c x)):ln (a>>=k) (b>>=c):=by
 intro r f;cases a with
 |none=>grind
 |some x=>rw[h x rfl];exact e x r f
theorem ln.i{α:Type}{p:Prop}[Decidable p]{a b c d:ag α}(h:ln a c)(k:ln b d):ln (if p then a else b) (if p then c else d):=by grind
variable {α:Type}[Inhabited α]
def oS(lt:α->α->J)(x:α):I α->I α
 |[]=>[x]
 |y::r=>if lt x y then x::y::r else y::oS lt x r
def hp(lt:α->α->J):I α->I α
 |[]=>[]
 |x::r=>oS lt x (hp lt r)
def kq(lt:α->α->J):I α->J
 |[]=>true
 |x::r=>r.all (λy=>lt x y||lt y x)&&kq lt r
theorem ID(lt:α->α->J)(x:α):∀l,(oS lt x l).Perm (x::l)
 |[]=>.refl _
 |y::r=>by
  simp[oS];split;rfl;exact((ID lt x r).cons y).trans (.swap x y r)
theorem lr(lt:α->α->J):∀l,(hp lt l).Perm l
 |[]=>.refl _
 |x::r=>(ID lt x _).trans ((lr lt r).cons x)
theorem LU{lt:α->α->J}(b:SWO lt)(x:α):∀{l:I α},l.Pairwise (λx y=>lt y x=false)->(oS lt x l).Pairwise λx y=>lt y x=false
 |[],_=>by simp[oS]
 |y::r,h=>by
  rw[kz]at h;simp[oS];split
  . rename_i d;have e:lt y x=false:=by
     cases c:lt y x with
     |false=>rfl
     |true=>have:=b.trans _ _ _ d c;rw[b.irrefl]at this;grind
    rw[kz];refine⟨λz a=>?_,kz.2 h⟩;rcases eE.1 a with rfl|a;grind;exact b.ntrans _ _ _ (h.1 z a) e
  . rw[kz];refine⟨λz a=>?_,LU b x h.2⟩;rcases eE.1 ((ID lt x r).mem_iff.1 a)with rfl|a
    grind;grind
theorem D6{lt:α->α->J}(a:SWO lt):∀l:I α,(hp lt l).Pairwise λx y=>lt y x=false
 |[]=>.nil
 |x::r=>LU a x (D6 a r)
theorem Nt{lt:α->α->J}:∀{l:I α},kq lt l->∀a b,a∈l->b∈l->a=b\/lt a b\/lt b a=true
 |x::r,h,a,b,c,e=>by
  simp[kq]at h;rcases eE.1 c with g|d<;>rcases eE.1 e with i|f;grind;grind;grind;exact Nt h.2 a b d f
theorem LV{lt:α->α->J}{l:I α}(ar:kq lt l):∀{a b:I α},a.Perm l->b.Perm l->a.Pairwise (λx y=>lt y x=false)->b.Pairwise (λx y=>lt y x=false)->a=b:=by
 intro a b d e h1 c;refine List.Perm.eq_of_pairwise (λx y aa al f g=>?_) h1 c (d.trans e.symm);grind[Nt]
theorem QN{lt:α->α->J}(a:SWO lt){l:I α}(ar:kq lt l):lh lt l=hp lt l:=
 LV ar (IW a l) (lr lt l) (abm a l) (D6 a l)
def HB(lt:α->α->J)(l:I α):ag (I α):=ite (kq lt l) (some (hp lt l)) none
theorem afL{lt:α->α->J}(a:SWO lt)(l:I α):ln (HB lt l) (some (lh lt l)):=by
 intro r h;grind[HB,QN]
end
section
open Go
def eu(x:Int×Int):Value:= .agg #[.int .i64 x.1,.int .i64 x.2]
structure nU (P:Program)(mt:TypeId):Prop where
 ex:∃gy V7 it i V6,P.underlying mt=some (.map gy V7)/\P.underlying gy=some (.array 2 it)/\P.underlying it=some (.int .i64)/\P.info? it=some i/\i.size=1/\P.info? V7=some V6/\V6.zero=some (.bool false)
def iA(ks:I (Int×Int))(x:Int×Int):J:=ks.any λk=>(k=x:J)
def nX(ks:I (Int×Int))(x:Int×Int):I (Int×Int):=if iA ks x then ks else ks++[x]
def kE:I (Int×Int)->I MapEntry->Prop:=bb λk e=>e.key=eu k/\e.val= .bool true
def oQ(es:I MapEntry)(cV:Nat):Prop:=(∀e,e∈es->e.born<cV)/\(es.map (·.born)).Nodup
variable{ks:I (Int×Int)}{es:Array MapEntry}{mt:TypeId}{cV:Nat}
section
variable {P:Program}{w:World}{gy it:TypeId}{i:TypeInfo}
theorem ady(a:P.underlying it=some (.int .i64))(w:World):(Go.isAgg it).run P w= .ok false w:=by
 simp[Go.isAgg,underlying,a]
theorem afM(k:P.underlying gy=some (.array 2 it))(n:P.underlying it=some (.int .i64))(j:P.info? it=some i)(hs:i.size=1)(x y:Int×Int)(w:World):
 (Op.equal gy (eu x) (eu y)).run P w= .ok (x=y:J) w:=by
 obtain⟨d,g⟩:∃d,Op.maxDepth=d+2:=⟨9998,rfl⟩
 have f:P.cellsOf it=1:=by grind[Program.cellsOf]
 have l:qm P it=some 1:=by grind[qm]
 unfold Op.equal;rw[g];unfold eu;rw[run_equalIn_array w (d+1) _ _ k j,f,List.range_eq_range'];have:=H8 (P:=P) (φ:=λ_=>(0,0)) (S:=λ_ _=>False) (w:=w) (d:=d) l (m:=2) (i:=0)
  (ps:=[.t (.int .i64 x.1),.t (.int .i64 x.2)]) (qs:=[.t (.int .i64 y.1),.t (.int .i64 y.2)]) (vs:=[.int .i64 y.1,.int .i64 y.2]) (r:=(x=y:J))
  (by
   obtain⟨a,b⟩:=x;obtain⟨c,e⟩:=y
   simp_all[List.replicate,lJ,yO,cl,ay,mA,dW,eg])
  (.cons (b6.int _ _) (.cons (b6.int _ _) .nil)) (.cons (b6.int _ _) (.cons (b6.int _ _) .nil)) rfl rfl
 grind
theorem D7(d:P.underlying gy=some (.array 2 it))(a:P.underlying it=some (.int .i64))(f:P.info? it=some i)(hs:i.size=1)(b:J)(x:Int×Int)(w:World):
 (Instr.checkKey b 10000 gy (eu x)).run P w= .ok () w:=by
 have e:∀w,(sizeOf it).run P w= .ok 1 w:=λw=>by simp_all[sizeOf,typeInfo]
 have c:∀v w,(Instr.checkKey b 9999 it v).run P w= .ok () w:=λv w=>by
  unfold Instr.checkKey;simp[run_underlying a]
 unfold Instr.checkKey;simp[run_underlying d,eu];simp[List.range',e,part,ady a,c]
theorem K6(f:P.underlying gy=some (.array 2 it))(c:P.underlying it=some (.int .i64))(d:P.info? it=some i)(hs:i.size=1)(x:Int×Int)(w:World):∀{ks:I (Int×Int)} {es:I MapEntry} (n:Nat),kE ks es->
 (iA ks x=false/\(Instr.findAsking gy (eu x) es n).run P w= .ok none w)\/
 (iA ks x/\∃j e,(Instr.findAsking gy (eu x) es n).run P w= .ok (some (n+j,.bool true)) w/\es[j]?=some e/\e.key=eu x/\e.val= .bool true)
 |_,_,n,.nil=>.inl ⟨rfl,by rfl⟩
 |k::ks,e::es,n,.cons h l=>by
  have he:(Op.equal gy (eu x) e.key).run P w= .ok (x=k:J) w:=by grind[afM]
  by_cases g:x=k;simp_all[iA,Instr.findAsking]
  . rcases K6 f c d hs x w (n+1) l with⟨g1,g2⟩|⟨g1,j,a,g2,g3,g4,b⟩
    refine .inl ⟨?_,by simp_all[Instr.findAsking]⟩;grind[iA]
    . refine .inr ⟨?_,j+1,a,?_,by grind,g4,b⟩
      simp_all[iA,zA,Bool.or_true];simp only[Instr.findAsking,Sem.run_bind,he,g,ee,Result.andThen_ok,cx,cF,g2];grind
theorem Nu(a:P.underlying gy=some (.array 2 it))(b:P.underlying it=some (.int .i64))(c:P.info? it=some i)(hs:i.size=1)(x:Int×Int)(w:World){es:I MapEntry}(h:kE ks es):
 (iA ks x=false/\(Instr.findKey gy (eu x) es).run P w= .ok none w)\/
 (iA ks x/\∃j e,(Instr.findKey gy (eu x) es).run P w= .ok (some (j,.bool true)) w/\es[j]?=some e/\e.key=eu x/\e.val= .bool true):=by
 cases h with
 |nil=>exact .inl ⟨rfl,by simp[Instr.findKey,run_underlying a,Instr.findNow]⟩
 | @cons k e ks es h1 d=>
  have aI:Instr.findNow (.array 2 it) (eu x) (e::es) 0=none:=by
   rfl
  have:=K6 a b c hs x w 0 (.cons h1 d);simp_all[Instr.findKey,run_underlying]
theorem adO(f:nU P mt){r:Nat}(ad:w.heap[r]?=some (.map es cV))(h:kE ks es.toList)(x:Int×Int):
 (Instr.lookup mt (.map (some r)) (eu x) false).run P w= .ok (.bool (iA ks x)) w:=by
 obtain⟨gy,k,it,i,n,d,c,a,b,hs,l,m⟩:=f.ex;have g:(zeroValue k).run P w= .ok (.bool false) w:=by simp_all [zeroValue,typeInfo]
 rcases Nu c a b hs x w h with⟨g1,g2⟩|⟨g1,j,e,g2,_⟩;simp[Instr.lookup,run_underlying d,rD ad,D7 c a b hs,g2,g,g1];simp[Instr.lookup,run_underlying d,rD ad,D7 c a b hs,g2,g1]
theorem adP(u:nU P mt){r:Nat}(ad:w.heap[r]?=some (.map es cV))(h:kE ks es.toList)(b:oQ es.toList cV)(x:Int×Int):
 ∃d m,(Instr.mapUpdate mt (.map (some r)) (eu x) (.bool true)).run P w= .ok () {w with heap:=w.heap.setIfInBounds r (.map d m)}/\kE (nX ks x) d.toList/\oQ d.toList m:=by
 obtain⟨gy,F,it,i,E,o,l,g,k,hs,B,C⟩:=u.ex;rcases Nu l g k hs x w h with⟨g1,g2⟩|⟨g1,j,e,g2,g3,g4,v⟩
 . refine⟨es.push {key:=eu x,val:= .bool true,born:=cV},cV+1,?_,?_,?_,?_⟩
   simp[Instr.mapUpdate,run_underlying o,rD ad,D7 l g k hs,g2,Ed _ ad];simp only[nX,g1,cx,cF,Hh];exact h.append (.cons ⟨rfl,rfl⟩ .nil)
   . intro e he;simp only[Hh,iB,zI]at he;rcases he with he|rfl
     have:=b.1 e he;omega;simp
   simp only[Hh,xk,mB,List.map_nil];rw[List.nodup_append];refine⟨b.2,by simp,?_⟩;intro a q c s;simp at s;obtain⟨e,he,rfl⟩:=fY.1 q;have:=b.1 e he;omega
 . refine⟨es.modify j λe=>{e with key:=eu x,val:= .bool true},cV,?_,?_,?_,?_⟩
   have A:Instr.sameBits 10000 (eu x) (eu x):=(by simp[eu,Instr.sameBits]);have t:∀w,(Instr.keyThatStays (eu x) (eu x)).run P w= .ok (eu x) w:=(by simp_all[Instr.keyThatStays]);simp[Instr.mapUpdate,run_underlying o,rD ad,D7 l g k hs,g2,Ed _ ad,g4,t,show es[j]?=some e by grind]
   . simp only[nX,g1,cl];rw[CV];refine bb.modify h λD p z f=>?_;grind
   intro p f;rw[CV]at f;obtain⟨n,aI,rfl⟩:=zH.1 f;rw[List.length_modify]at aI;have:=b.1 es.toList[n] (zt aI);grind
   . have:(es.modify j λe=>{e with key:=eu x,val:= .bool true}).toList.map (·.born)=es.toList.map (·.born):=by
      rw[CV];refine zw (by simp) λn h1 y=>?_;grind
     rw[this];exact b.2
end
end
section
open Go Go.Proofs Go.Proofs.YtopcfbelfjclmaaGreatDoor Go.Shelf Go.RowKit
variable {U:cM}
def vD(i:Nat):aq:=if i<10 then[UInt8.ofNat (48+i)]else[UInt8.ofNat (48+i/10),UInt8.ofNat (48+i%10)]
def GK(i:Int):ag aq:=ite ((0<=i:J)&&(i<100:J)) (some (vD i.toNat)) none
theorem agI{i:Nat}(h:i<100):Lib.decDigits i=vD i:=by
 unfold vD Lib.decDigits;split;rfl;rw[Lib.decDigits,dif_pos (by omega)];rfl
def Ve(U:cM)(f:Nat):cP U:=⟨f,[.c (.hole (.int .i64))],[],[.int .i64],.c (.hole .str),[],[.str],λ(a:Int)=>GK a⟩
section
variable {P:Program}{ρ:Ren}
theorem afN(L:Lays.n171 P ρ){i:Nat}{σ:bg}(g:i<100):
 eo P (ρ.f 171) [.c (.t (.int .i64 (i:Int)))] σ 0 (λr σ' N'=>r= .c (.t (.str (vD i)))/\σ'=[]/\N'=0):=by
 intro φ S w B l p o n vs d;cases d with|cons a d=>
 cases d;cases a with|c a=>
 cases a;refine(Any.strconv_Itoa_small L i g w).mono ?_
 rintro e w' ⟨rfl,rfl⟩;refine⟨_,.c _,φ,S,[],0,rfl,⟨rfl,rfl,rfl⟩,.c ?_,rfl,⟨λb x h=>by grind[aV],λb m x y h=>by grind[aV],λk j h=>l.st k j h⟩,λb x h=>by grind[aV],Ext.refl,λb x h=>by grind[aV],λ_ _=>rfl⟩;rw[agI g]
 have:=b6.str (w:=w') (S:=S) _ (by
  show(vD i).toArray.size<=eS;rw[List.size_toArray];have:2<=eS:=by decide
  unfold vD
  split<;>simp<;>omega)
 exact this
theorem afO(L:Lays.n171 P ρ)(i:ρ.f 171=f):hU P (Ve U f):=by
 subst i;intro(a:Int) r bK k σ1 e aG;have d:GK a=some r:=bK;unfold GK at d;split at d
 . rename_i g;simp at g;obtain⟨h0,h1⟩:=g;cases d;cases e with|cons a1 e=>
   cases e;have aJ:=b7.fG a1;subst aJ;obtain⟨n,rfl⟩:∃n:Nat,a=n:=⟨a.toNat,by omega⟩
   refine(afN L (by omega)).mono ?_
   rintro l s1 j ⟨rfl,rfl,rfl⟩;exact⟨rfl,.c (.t _),λb x aa=>by cases aa⟩
 grind
end
end
section
open Go
variable {U:cM}{P:Program}{nt:Nat}{aA:Ctx}
variable{vs:I Value}{c:bL U.D}{f q:Nat}{w:World}{Q:Exit->Act->World->Prop}{E:TypeId}{v:Value}{x y:Operand}{p:Int×Int}{seen:Array Nat}
section
variable {φ bq:dk}{S bu:dm}{env env':Env}{σ σ':bg}{n c5:Nat->J}{N k:Nat}{a ca:Act}{w w':World}
def Ctx.qz(w:World)(S:dm)(φ:dk)(σ:bg)(k:Nat):Ctx:=⟨w,S,λb=>∃c x,aV σ c=some x/\(φ c).2≠0/\b=(φ c).1,φ,k⟩
theorem Rel.qz(R:Rel aA nt φ S env σ (lt N) a w)(e:k<=N):Rel (Ctx.qz w S φ σ k) nt φ S env σ (lt N) a w:=
 ⟨R.bS,R.gx,R.hl,R.gw,R.dT,R.size,R.defers,Ext.refl,λb x aa h0=>.inl ⟨b,x,aa,h0,rfl⟩,λ_ _=>rfl,λb c=>by
  have:b<k:=c
  grind[lt]⟩
theorem Rel.un(R:Rel aA nt φ S env σ n a w)(R':Rel (Ctx.qz w S φ σ k) nt bq bu env' σ' c5 ca w')(g:aA.k<=k):Rel aA nt bq bu env' σ' c5 ca w':=by
 have e:=R'.ext;have own:∀b,(Ctx.qz w S φ σ k).B b->aA.B b\/aA.mH.heap.size<=b:=λb ⟨c,x,aa,h0,f⟩=>f▸R.own c x aa h0;refine⟨R'.bS,R'.gx,R'.hl,R'.gw,R'.dT,R'.size,R'.defers,⟨e.os.trans R.ext.os,e.tape.trans R.ext.tape,e.output.trans R.ext.output,hN R.ext.size e.size,λb aD cZ=>?_,R.ext.mono.trans e.mono,λb j o=>?_⟩,λb x aa h0=>?_,λb f=>?_,λb f=>R'.gS b (jD f g)⟩;refine(e.block b (jD aD R.ext.size) λh=>?_).trans (R.ext.block b aD cZ);grind
 . rcases e.lQ b j o with h|h|h
   exact R.ext.lQ b j h;grind;exact .inr (.inr (hN R.ext.size h))
 . rcases R'.own b x aa h0 with h|h
   grind;exact .inr (hN R.ext.size h)
 exact(R'.fix b (jD f g)).trans (R.fix b f)
theorem Rel.enter{args:I V}(e:bb (cc φ w S) args vs)(c:V.aK.V.dI (lt N) args)(o:∀b j,S b j->b<w.heap.size)(aI:args.length<=nt):
 Rel ⟨w,S,λ_=>False,φ,0⟩ nt φ S (fF 0 args) [] (lt N) {tmps:=vs.toArray++Array.replicate (nt-vs.toArray.size) undef,defers:=[]} w:=by
 have ak:=e.length;refine⟨⟨λb x aa=>by grind[aV],λb p x y aa=>by grind[aV],o⟩,λi g v a av=>?_,λi g v a av=>?_,λi g v a av=>?_,λb x aa=>by grind[aV],?_,rfl,Ext.refl,λb x aa=>by grind[aV],λ_ _=>rfl,λb c=>absurd c (Nat.not_lt_zero _)⟩;obtain⟨_,j,rfl,f⟩:=uc a;obtain⟨x,aa,q⟩:=e.get f;grind;grind[uc];grind[uc,nn];grind
end
abbrev yk(U:cM):=b3 U×bl U×Nat
structure cQ (aA:Ctx)(nt:Nat)(gs:ba)(s:yk U)(φ:dk)(S:dm)(a:Act)(w:World):Prop where
 ex:∃env1 σ1,c6 s.2.2 s.2.1 (λ_=>true) s.1 env1/\cB s.2.2 s.2.1 σ1/\Rel aA nt φ S env1 σ1 (lt s.2.2) a w/\∀b x,aV σ1 b=some x->(φ b).2≠0->(φ b).1 ∉ gs
 eY:∀g,g∈gs->g<w.heap.size/\∀j,¬S g j
section
variable {φ:dk}{S bu:dm}{gs:ba}{s:yk U}{qI:b3 U}{xs:bl U}{N kk:Nat}{a:Act}{w w':World}
structure sQ (gs:ba)(kk:Nat)(φ:dk)(w:World)(bq:dk)(w':World):Prop where
 fix:∀b,b<kk->bq b=φ b
 ar:∀g,g∈gs->w'.heap[g]?=w.heap[g]?
theorem cQ.next {bq:dk}{env1 f:Env}{σ1 bz:bg}{ca:Act}{s':yk U}(eY:∀g,g∈gs->g<w.heap.size/\∀j,¬S g j)(R:Rel aA nt φ S env1 σ1 (lt N) a w)(av:∀b x,aV σ1 b=some x->(φ b).2≠0->(φ b).1 ∉ gs)
 (R':Rel (Ctx.qz w S φ σ1 kk) nt bq bu f bz (lt s'.2.2) ca w')(q:aA.k<=kk)(he:c6 s'.2.2 s'.2.1 (λ_=>true) s'.1 f)(aG:cB s'.2.2 s'.2.1 bz):cQ aA nt gs s' bq bu ca w'/\sQ gs kk φ w bq w':=by
 have u:∀g,g∈gs->¬(Ctx.qz w S φ _ kk).B g:=λg h ⟨c,x,aa,h0,o⟩=>av c x aa h0 (o▸h);refine⟨⟨⟨f,bz,he,aG,R.un R' q,λb x aa h0 t=>?_⟩,λg h=>⟨jD (eY g h).1 R'.ext.size,λj p=>?_⟩⟩,R'.fix,λg h=>R'.ext.block g (eY g h).1 (u g h)⟩
 . rcases R'.own b x aa h0 with h|h
   grind;exact absurd (eY _ t).1 (Nat.not_lt.2 h)
 . rcases R'.ext.lQ g j p with e|e|e
   exact(eY g h).2 j e;grind;exact absurd (eY g h).1 (Nat.not_lt.2 e)
theorem cQ.piece (T:cQ aA nt gs s φ S a w){fo:fQ U}(z:fR P fo){g:Code}{ac:dG}(y:resolve P nt g=some ac)(j:kk<=s.2.2)(A:aA.k<=kk){outs:I iX}{o:ez U outs}
 (aa:kG fo (λ_=>none) kk ac 0 s.1 s.2.1 s.2.2 (oZ kk outs)=some o):
 g.wp P (λe ca w'=>e=(fZ outs o).1/\∃bq bu,cQ aA nt gs (fZ outs o).2 bq bu ca w'/\sQ gs kk φ w bq w') a w:=by
 obtain⟨⟨env1,σ1,he,aG,R,av⟩,eY⟩:=T
 have h:=cH.V4 (ru (Q:=sR kk λe env σ N=>e=(fZ _ o).1/\N=(fZ _ o).2.2.2/\c6 N _ _ _ _/\cB N _ σ) z gM.none aa he aG j sR.S2 λe env' σ' N' v bz h1 c f x=>by
  obtain⟨aJ,s1,p,q,t,B,u⟩:=mQ.Vu.Hl h1 c f x
  exact⟨_,aJ,s1,p,u,rfl,q,t⟩) _ y _ φ S a w rfl (R.qz j)
 refine wp_mono h ?_
 rintro e ca w' ⟨bq,bu,v,bz,N',⟨h1,rfl,c,f⟩,R'⟩;exact⟨h1,bq,bu,cQ.next eY R av R' A c f⟩
theorem Pl{kk:Nat}{aA:Ctx}(g:aA.k=kk){ops:Array Oper}{rest:ba}{Q:Exit->Act->World->Prop}{K:Env->bg->Nat->Prop}:∀{l:I Oper} {bd:I cf} {k N:Nat} {env:Env} {σ:bg} {φ:dk} {S:dm} {a:Act} {w:World},hh P nt ops l=some bd->(∀i:Nat,i<l.length->l[i]?=ops[k+i]?)->
 Rel aA nt φ S env σ (lt N) a w->nY P kk bd N env σ (λe s=>K e s (N+16*bd.length))->(∀φ S e s N a w,K e s N->Rel aA nt φ S e s (lt N) a w->wpOps P ops Q rest a w)->wpOps P ops Q (List.range' k l.length++rest) a w
 |[],bd,k,N,env,σ,φ,S,a,w,b,f,R,h,d=>by
  simp[hh]at b;subst b;exact d _ _ _ _ _ _ _ h R
 |o::l,bd,k,N,env,σ,φ,S,a,w,b,f,R,h,d=>by
  simp[hh,bw,bF]at b;obtain⟨r,m,c,n,rfl⟩:=b;have t:ops[k]?=some o:=by have:=f 0 (by simp);grind
  rw[lg,zv,xA,wpOps_cons];unfold wpOp;obtain⟨fF,u,p,q⟩:=h;obtain⟨v,yi,j⟩:=p aA nt φ S a w g R;have hs:=Jr j m (K:=λe s=>nY P kk c _ e s λe s=>K e s (N+16*(c.length+1))) q (Q:=Q);have next:∀ca w',jN aA nt (eK (lt N) N) (λe s=>nY P kk c (N+16) e s λe s=>K e s (N+16*(c.length+1))) ca w'->wpOps P ops Q (List.range' (k+1) l.length++rest) ca w':=by
   rintro ca w' ⟨bq,bu,e,s,bW,R'⟩
   refine Pl g n (λi aD=>?_) (R'.more λ_ h=>FH h) ?_ d
   have:=f (i+1) (by grind);grind;grind
  grind[Oper.wp_mono]
theorem cQ.ops (T:cQ aA nt gs s φ S a w){fo:fQ U}(p:fR P fo){ops:Array Oper}{rest:ba}{Q:Exit->Act->World->Prop}(k:Nat){l:I Oper}{bd:I cf}(v:hh P nt ops l=some bd)(q:∀i:Nat,i<l.length->l[i]?=ops[k+i]?)(u:kk<=s.2.2)(t:aA.k<=kk)
 {sh:Shape}{ts:I aL}{h:a6 U.D ts}(aa:oy fo none bd s.2.2 [] [] s.1 s.2.1 (λgl env σ=>nP kk [] sh ts (tV gl env) σ (s.2.2+16*bd.length))=some h)
 (G:∀bq bu ca w',cQ aA nt gs ((fN U sh (a6.cells U.D ts h)).1,(fN U sh (a6.cells U.D ts h)).2,sh.st.length) bq bu ca w'->sQ gs kk φ w bq w'->wpOps P ops Q rest ca w'):wpOps P ops Q (List.range' k l.length++rest) a w:=by
 obtain⟨⟨env1,σ1,he,aG,R,av⟩,eY⟩:=T;refine Pl rfl (K:=λaJ s1 N'=>∃env' σ',N'=s.2.2+16*bd.length/\nP kk [] sh ts env' σ' N'=some h/\c6 N' σ' (λ_=>true) env' aJ/\cB N' σ' s1) v q (R.qz u) (Er p (eQ.begin he aG) aa λF H env' σ' E bz x h1 c=>?_) ?_
 exact⟨_,_,rfl,h1,c.clean,c.e1⟩
 . rintro bq bu aJ s1 N' ca w' ⟨env',σ',rfl,h1,c,o⟩ R'
   obtain⟨B,N,f,g,j,A⟩:=w7 h1 c o (by omega);obtain⟨O,y,e⟩:=f _ nt _ bu ca w' rfl R';obtain⟨z,L⟩:=cQ.next (s':=((fN U sh _).1,(fN U sh _).2,sh.st.length)) eY R av e t g j;grind
theorem cQ.goto(T:cQ aA nt gs s φ S a w)(kk:Nat){sh:Shape}{ts:I aL}{h:a6 U.D ts}(aa:nP kk [] sh ts s.1 s.2.1 s.2.2=some h)(c:Nat.ble kk s.2.2:=by rfl)(p:aA.k<=kk:=by exact iD _):
 ∃bq bu,cQ aA nt gs ((fN U sh (a6.cells U.D ts h)).1,(fN U sh (a6.cells U.D ts h)).2,sh.st.length) bq bu a w/\sQ gs kk φ w bq w:=by
 obtain⟨⟨env1,σ1,he,aG,R,av⟩,eY⟩:=T;obtain⟨u,v,g,j,o,t⟩:=w7 aa he aG (ic c);obtain⟨q,f,e⟩:=g _ nt φ S a w rfl (R.qz (ic c));exact⟨q,f,cQ.next eY R av e p j o⟩
theorem cQ.slot(T:cQ aA nt gs s φ S a w){k:Nat}{v:bP U}(g:a8 s.1 k=some v):∃x v1,a.tmps[k]?=some x/\b7 s.2.2 s.2.1 v v1/\cc φ w S v1 x/\v1.aK (lt s.2.2):=by
 obtain⟨⟨env1,σ1,he,aG,R,av⟩,eY⟩:=T;obtain⟨v1,h1,c⟩:=he k v g;obtain⟨x,e,f⟩:=R.gx k _ v1 h1 rfl;exact⟨x,v1,e,c,f,R.gw k _ v1 h1 rfl⟩
theorem cQ.ptr(T:cQ aA nt gs s φ S a w){k b o:Nat}(g:a8 s.1 k=some (.c (.ptr b o))):a.tmps[k]?=some (.pointer (some ⟨(φ b).1,o,none⟩)):=by
 obtain⟨x,v1,h1,e,f,_⟩:=T.slot g;have:=e.hr;subst this;rw[h1,f.hr]
theorem cQ.mp(T:cQ aA nt gs s φ S a w){k b:Nat}(g:a8 s.1 k=some (.c (.mp b))):a.tmps[k]?=some (.map (some (φ b).1)):=by
 obtain⟨x,v1,h1,e,f,_⟩:=T.slot g;have:=e.CN;subst this;rw[h1,show x=_ from f.ea]
theorem cQ.pair(T:cQ aA nt gs s φ S a w){k:Nat}{p q:Int}(g:a8 s.1 k=some (.agg [.t ⟨.int .i64,p⟩,.t ⟨.int .i64,q⟩])):a.tmps[k]?=some (eu (p,q)):=by
 obtain⟨x,v1,h1,c,e,_⟩:=T.slot g;cases c with
 |agg c=>
  cases c with
  |cons g1 g2=>
   cases g2 with
   |cons g2 g3=>
    cases g1;cases g2;cases g3;obtain⟨vs,rfl,f⟩:=e.l1;cases f with
    |cons a1 a2=>
     cases a2 with
     |cons a2 a3=>
      cases a1;cases a2;cases a3;exact h1
theorem cQ.cell(T:cQ aA nt gs s φ S a w){k:Nat}(g:a8 s.1 k=some (.c (.t c))):∃x,a.tmps[k]?=some x/\b6 w S (c.bJ U) x:=by
 obtain⟨x,v1,h1,e,f,_⟩:=T.slot g;cases e with
 |c e=>cases e;exact⟨x,h1,f.ea⟩
theorem cQ.bool(T:cQ aA nt gs s φ S a w){k:Nat}{b:J}(f:a8 s.1 k=some (.c (.t ⟨.bool,b⟩))):a.tmps[k]?=some (.bool b):=by
 obtain⟨x,h1,e⟩:=T.cell f;rw[h1];cases e;rfl
theorem cQ.int(T:cQ aA nt gs s φ S a w){k:Nat}{n:Int}(f:a8 s.1 k=some (.c (.t ⟨.int .i64,n⟩))):a.tmps[k]?=some (.int .i64 n):=by
 obtain⟨x,h1,e⟩:=T.cell f;rw[h1];cases e;rfl
theorem cQ.fn(T:cQ aA nt gs s φ S a w){k b:Nat}(j:a8 s.1 k=some (.c (.fn f [b]))):a.tmps[k]?=some (.func (.func f) #[] #[.pointer (some ⟨(φ b).1,0,none⟩)]):=by
 obtain⟨x,v1,h1,e,g,_⟩:=T.slot j;cases e with
 |c e=>cases e;rw[h1,show x=_ from g.ea];rfl
theorem cQ.len(T:cQ aA nt gs s φ S a w){k:Nat}{t:aL}{l:I (t.den U.D)}(f:a8 s.1 k=some (.c (.t ⟨.slice t,l⟩))):l.length<=dB:=by
 obtain⟨x,h1,e⟩:=T.cell f;obtain⟨_,_,_,_,_,_,_,_,h,_⟩:=b6.jI e;grind
theorem cQ.box(T:cQ aA nt gs s φ S a w){b:Nat}{cs:I (bx U)}(e:a8 s.2.1 b=some (.box cs)):
 ∃(vs:I Value) (E:TypeId) (ds:I C),w.heap[(φ b).1]?=some (.cells vs.toArray E (0,0))/\bb (cr s.2.2 s.2.1) cs ds/\bb (bD φ w S) ds vs:=by
 obtain⟨⟨env1,σ1,he,aG,R,av⟩,eY⟩:=T;obtain⟨_,y,h1,c⟩:=aG b _ e;cases c with
 |box c=>
  obtain⟨_,vs,E,f,g,_⟩:=R.bS.blk b _ h1;grind
theorem cQ.put(T:cQ aA nt gs (qI,xs,N) φ S a w){d:Nat}{x:Value}{v:bP U}{v1:V}(j:b7 N xs v v1)(aa:cc φ w S v1 x)(f:v1.aK (lt N):=by rfl)(e:Nat.ble (d+1) nt:=by rfl):cQ aA nt gs ((d,v)::qI,xs,N) φ S (a.put (some d) x) w:=by
 have e:=ic e;obtain⟨⟨env1,σ1,he,aG,R,av⟩,eY⟩:=T;refine⟨⟨eB _ _ true v1,σ1,λk y c=>?_,aG,R.ym (by grind) (λ_=>aa) (λh=>by grind) (λ_=>f),av⟩,eY⟩;simp[a8]at c;split at c;simp_all[nj];obtain⟨o,h1,g⟩:=he k y c;simp_all[nj,ib]
theorem cQ.new(T:cQ aA nt gs (qI,xs,N) φ S a w)(o:Obj):cQ aA nt (w.heap.size::gs) (qI,xs,N+1) (eN φ N (w.heap.size,0)) S a (w.alloc o):=by
 obtain⟨⟨env1,σ1,he,aG,R,av⟩,eY⟩:=T;have ec:lt N N=false:=Ax (ek _);refine⟨⟨env1,σ1,he.mono (du.more (xo _)),aG.mono (xo _),((R.alloc o).u3 λb h=>tR ec h).more λb h=>EA (xo _) h,λb x aa h0=>?_⟩,λg h=>?_⟩;rw[tR ec (R.dT b x aa).1]at h0⊢;have:=(R.bS.blk b x aa).jG h0;grind
 . rcases eE.1 h with rfl|h
   exact⟨by simp,λj c=>by have:=R.bS.st _ _ c;omega⟩;have:=eY g h;exact⟨by simp;omega,this.2⟩
theorem cQ.num(T:cQ aA nt gs (qI,xs,N) φ S a w)(q:Nat):cQ aA nt gs (qI,xs,N+1) (eN φ N (q,0)) S a w:=by
 obtain⟨⟨env1,σ1,he,aG,R,av⟩,eY⟩:=T;have ec:lt N N=false:=Ax (ek _);refine⟨⟨env1,σ1,he.mono (du.more (xo _)),aG.mono (xo _),(R.u3 λb h=>tR ec h).more λb h=>EA (xo _) h,λb x aa h0=>?_⟩,eY⟩;rw[tR ec (R.dT b x aa).1]at h0⊢;grind
theorem cQ.drew(T:cQ aA nt gs s φ S a w):cQ aA nt gs s φ S a w.drew:=
 let⟨⟨env1,σ1,he,aG,R,av⟩,eY⟩:=T;⟨⟨env1,σ1,he,aG,R.drew,av⟩,eY⟩
theorem cQ.write(T:cQ aA nt gs s φ S a w){g:Nat}(p:g∈gs)(q:aA.mH.heap.size<=g)(h1:w'.os=w.os)(e:w'.tape=w.tape)(f:w'.output=w.output)(j:w'.heap.size=w.heap.size)(o:∀b,b≠g->w'.heap[b]?=w.heap[b]?):cQ aA nt gs s φ S a w':=by
 obtain⟨⟨env1,σ1,he,aG,R,av⟩,eY⟩:=T;refine⟨⟨env1,σ1,he,aG,R.world _ h1 e f (uS j.symm) (λb _ c=>o b c) (λb c=>?_),av⟩,λb h=>by grind⟩;grind
theorem cQ.extend(T:cQ aA nt gs s φ S a w)(e:Ext (λ_=>False) S bu w w')(o:∀b j,bu b j->b<w'.heap.size):cQ aA nt gs s φ bu a w':=by
 obtain⟨⟨env1,σ1,he,aG,R,av⟩,eY⟩:=T;refine⟨⟨env1,σ1,he,aG,R.extend e o,av⟩,λg h=>⟨jD (eY g h).1 e.size,λj f=>?_⟩⟩;rcases e.lQ g j f with c|c|c
 all_goals grind
theorem cQ.st(T:cQ aA nt gs s φ S a w):∀b j,S b j->b<w.heap.size:=let⟨⟨_,_,_,_,R,_⟩,_⟩:=T;R.bS.st
theorem cQ.ext(T:cQ aA nt gs s φ S a w):Ext aA.B aA.yi S aA.mH w:=let⟨⟨_,_,_,_,R,_⟩,_⟩:=T;R.ext
theorem cQ.defers(T:cQ aA nt gs s φ S a w):a.defers=[]:=let⟨⟨_,_,_,_,R,_⟩,_⟩:=T;R.defers
theorem cQ.enter{args:I (bP U)}{a:I V}(t:bb (b7 N []) args a)(o:bb (cc φ w S) a vs)(e:V.aK.V.dI (lt N) a)(f:∀b j,S b j->b<w.heap.size)(aI:a.length<=nt)(eY:∀g,g∈gs->g<w.heap.size/\∀j,¬S g j):
 cQ (U:=U) ⟨w,S,λ_=>False,φ,0⟩ nt gs (nM 0 args,[],N) φ S {tmps:=vs.toArray++Array.replicate (nt-vs.toArray.size) undef,defers:=[]} w:=by
 refine⟨⟨fF 0 a,[],?_,λb x h=>by grind[a8],Rel.enter o e f aI,λb x h=>by grind[aV]⟩,eY⟩;intro k v u;have key:∀{xs:I _} {ds:I V} {i:Nat},bb (b7 N []) xs ds->a8 (nM i xs) k=some v->∃v1,look (fF i ds) k=some (true,v1)/\b7 N [] v v1:=by
  intro xs;induction xs with
  |nil=>grind[nM,a8]
  |cons x xs ih=>
   intro ds i p c;cases p with
   |cons h1 q=>
    simp[nM,a8]at c;simp[fF,look];split at c;simp_all;simp_all[au,ib]
 grind
theorem b7.u'{xs:I (bP U)}{ds:I V}{a:bl U}(h:bb (b7 N a) xs ds):b7 N a (.bf xs) (.bf ds):=
 .bf _ _ h.length λi x d aa f=>by
  obtain⟨c,aJ,e⟩:=h.get aa;grind
theorem cc.u'{vs:I V}{xs:I Value}(h:bb (cc φ w S) vs xs):cc φ w S (.bf vs) (.tuple xs.toArray):=
 .bf _ _ h.length λi x d aa e=>by
  obtain⟨a,aJ,c⟩:=h.get aa;grind
theorem cc.Al(k:Int×Int):cc φ w S (.agg [.t (.int .i64 k.1),.t (.int .i64 k.2)]) (eu k):= .agg (.cons (b6.int _ _) (.cons (b6.int _ _) .nil))
theorem b7.Al{a:bl U}(k:Int×Int):b7 N a (.agg [.t ⟨.int .i64,k.1⟩,.t ⟨.int .i64,k.2⟩]) (.agg [.t (.int .i64 k.1),.t (.int .i64 k.2)]):= .agg (.cons (.t _) (.cons (.t _) .nil))
theorem IF{b:Nat}{o:Obj}(h:b≠q):(ChangeMaps.setBlock w q o).heap[b]?=w.heap[b]?:=by
 simp[ChangeMaps.setBlock,dN h]
theorem acI{o:Obj}(h:q<w.heap.size):(ChangeMaps.setBlock w q o).heap[q]?=some o:=by
 grind[ChangeMaps.setBlock]
theorem cQ.set(T:cQ aA nt gs s φ S a w)(o:Obj)(e:q∈gs)(f:aA.mH.heap.size<=q):cQ aA nt gs s φ S a (ChangeMaps.setBlock w q o):=
 T.write e f rfl rfl rfl (by simp[ChangeMaps.setBlock]) λb c=>IF c
theorem gi{k:Nat}{x:Value}(h:a.tmps[k]?=some x):a.eval (.tmp k)=x:=by simp[Act.eval,h]
section
variable {ops:Array Oper}{Q:Exit->Act->World->Prop}{i:Nat}{rest:ba}{o:Oper}
theorem oU(b:ops[i]?=some o){d:Nat}(e:o.dst=some d)(av:o.guard=none){x:Value}(c:(execOp a.eval o).run P w= .ok (.value x) w')(h:wpOps P ops Q rest (a.put (some d) x) w'):wpOps P ops Q (i::rest) a w:=by
 simp[wpOps,b,Region.wanted,av,Oper.wp,c];refine .inl ?_;show wpOps P _ Q _ _ w';grind
theorem Vj(c:ops[i]?=some o)(b:o.dst=none)(av:o.guard=none)(d:(execOp a.eval o).run P w= .ok .skip w')(h:wpOps P ops Q rest a w'):wpOps P ops Q (i::rest) a w:=by
 simp[wpOps,c,Region.wanted,av,Oper.wp,d];refine .inl ?_;show wpOps P _ Q _ _ w';rw[b];exact h
theorem GR(g:ops[i]?=some o){d:Nat}(k:o.dst=some d)(av:o.guard=none){args b:Array Value}(j:(execOp a.eval o).run P w= .ok (.enter f b) w)(c:b=args)(h:Calls P f args w λe w'=>∃v,e= .returned v/\wpOps P ops Q rest (a.put (some d) v) w'):wpOps P ops Q (i::rest) a w:=by
 subst c;simp[wpOps,g,Region.wanted,av,Oper.wp,j];refine .inl (h.mono ?_);grind
end
theorem Pm{α:Type}{o:ag α}{d:α}(h:o.isSome):o=some (o.getD d):=by cases o<;>simp_all
theorem qk(L:ba){id:Nat}{ops:Array Oper}(h:wpOps P ops Q L a w)(b:List.range ops.size=L:=by kernel_rfl):(Code.region id ops false).wp P Q a w:=wp_region (b▸h)
def sl(ops:Array Oper)(k m:Nat):I Oper:=(ops.toList.drop k).take m
theorem ahA{ops:Array Oper}{k m:Nat}(i:Nat)(h:i<(sl ops k m).length):(sl ops k m)[i]?=ops[k+i]?:=by
 grind[sl]
theorem cQ.op (T:cQ aA nt gs s φ S a w)(kk:Nat)(k m:Nat)(env:I (Nat×dy))(st:I dL){h:a6 U.D (er env st)}{ops:Array Oper}{L:ba}{Q:Exit->Act->World->Prop}{fs:I (cP U)}(g:iI P fs)
 (aa:oy (ho fs) none ((hh P nt ops (sl ops k m)).getD []) s.2.2 [] [] s.1 s.2.1 (λgl e σ=>nP kk [] ⟨env,st⟩ (er env st) (tV gl e) σ (s.2.2+16*((hh P nt ops (sl ops k m)).getD []).length))=some h)
 (f:∀bq bu ca w',cQ aA nt gs ((fN U ⟨env,st⟩ (a6.cells U.D (er env st) h)).1,(fN U ⟨env,st⟩ (a6.cells U.D (er env st) h)).2,st.length) bq bu ca w'->sQ gs kk φ w bq w'->wpOps P ops Q (L.drop m) ca w')
 (p:(hh P nt ops (sl ops k m)).isSome=true:=by kernel_rfl)(o:Nat.ble kk s.2.2=true:=by rfl)(j:aA.k<=kk:=by exact iD _)(c:List.range' k (sl ops k m).length++L.drop m=L:=by kernel_rfl):wpOps P ops Q L a w:=by
 rw[<-c];exact T.ops g k (Pm p) ahA (ic o) j aa f
theorem cQ.gJ(T:cQ aA nt gs s φ S a w)(kk:Nat)(outs:I iX){o:ez U outs}{c:Code}{fs:I (cP U)}(e:iI P fs)
 (aa:kG (ho fs) (λ_=>none) kk ((resolve P nt c).getD .skip) 0 s.1 s.2.1 s.2.2 (oZ kk outs)=some o)
 (p:∀bq bu ca w',cQ aA nt gs (fZ outs o).2 bq bu ca w'->sQ gs kk φ w bq w'->Q (fZ outs o).1 ca w')
 (j:(resolve P nt c).isSome=true:=by kernel_rfl)(g:Nat.ble kk s.2.2=true:=by rfl)(f:aA.k<=kk:=by exact iD _):c.wp P Q a w:=by
 refine wp_mono (T.piece e (Pm j) (ic g) f aa) ?_;grind
theorem ld1{o:Oper}{ty:TypeId}(g:o.op= .load ty x)(ak:nr P ty=some (false,1)){b off:Nat}(aa:a.eval x= .pointer (some ⟨b,off,none⟩))(ad:w.heap[b]?=some (.cells vs.toArray E (0,0)))(e:vs[off]?=some v):
 (execOp a.eval o).run P w= .ok (.value v) w:=by
 obtain⟨h1,c,d⟩:=IK ak;have:(loadVar ty ⟨b,off,none⟩).run P w= .ok v w:=by
  have:=Ml h1 c (vs:=[v]) (λj f=>by
   have:j=0:=(by grind);subst this
   rw[jd ad,uR,e];rfl) rfl d
  grind
 simp_all [execOp,Instr.loadAt,Instr.sureAddr]
theorem cQ.ret{fn:Func}{R:Ending->World->Prop}(T:cQ aA nt gs s φ S a w){t:Nat}(g:fn.results=#[.tmp t])(f:a8 s.1 t=some (.c (.t c)))(h:∀x,b6 w S (c.bJ U) x->R (.returned x) w):bodyPost P fn R .ret a w:=by
 obtain⟨x,h1,e⟩:=T.cell f;refine⟨T.defers,x,?_,h x e⟩;simp_all[LI,xS]
def pb(S:dm)(w:World)(bu:dm)(w':World):Prop:=Ext (λ_=>False) S bu w w'/\∀b j,bu b j->b<w'.heap.size
theorem pb.heap(h:pb S w bu w'){b:Nat}{o:Obj}(a:w.heap[b]?=some o):w'.heap[b]?=some o:=by
 rw[h.1.block b (zF.1 a).1 (λx=>x)];grind
theorem ql{d:Nat}{x:Value}(h:d<a.tmps.size):(a.put (some d) x).tmps[d]?=some x:=by grind[Act.put]
theorem cQ.size(T:cQ aA nt gs s φ S a w):a.tmps.size=nt:=let⟨⟨_,_,_,_,R,_⟩,_⟩:=T;R.size
def On(P:Program)(t:TypeId):J:=match P.underlying t with
 |some (.map gy b)=>match P.underlying gy with
  |some (.array 2 it)=>match P.underlying it,P.info? it,P.info? b with
   |some (.int .i64),some i,some a=>Nat.beq i.size 1&&(match a.zero with
    |some (.bool false)=>true
    |_=>false)
   |_,_,_=>false
  |_=>false
 |_=>false
theorem nU.of{t:TypeId}(h:On P t):nU P t:=by
 unfold On at h
 (repeat' split at h)<;>simp at h
 rename_i h1 _ _ g _ _ _ _ a c e _ f;exact⟨_,_,_,_,_,by omega,by grind,a,c,h,e,f⟩
section
variable {o:Oper}{ty:TypeId}{r:Nat}{es:Array MapEntry}{cV:Nat}{ks:I (Int×Int)}
theorem ajS{k:Operand}(d:o.op= .lookup ty x k false)(b:nU P ty)(aa:a.eval x= .map (some r))(c:a.eval k=eu p)(ad:w.heap[r]?=some (.map es cV))(hs:kE ks es.toList):
 (execOp a.eval o).run P w= .ok (.value (.bool (iA ks p))) w:=by
 have:=adO b ad hs p;simp_all[execOp]
theorem ajZ(c:o.op= .makeMap ty (some x))(b:nU P ty){k:IntKind}{n:Int}(aa:a.eval x= .int k n):
 (execOp a.eval o).run P w= .ok (.value (.map (some w.heap.size))) (w.alloc (.map #[] 0)):=by
 obtain⟨gy,f,it,i,e,d,_⟩:=b.ex;simp_all[execOp,Instr.makeMap,run_underlying,asInt,asIntOf]
theorem ahN(d:o.op= .alloc ty){z:Value}(b:(P.info? ty).bind TypeInfo.zero=some z)(h1:z.cells=#[z]):
 (execOp a.eval o).run P w= .ok (.value (.pointer (some ⟨w.heap.size,0,none⟩))) (w.alloc (.cells #[z] ty (0,0))):=by
 obtain⟨i,c,b⟩:=lb.1 b;simp_all[execOp,Instr.alloc,zeroValue,typeInfo,newVar,newRow]
variable{u:Value}
theorem st1(e:o.op= .store ty x y)(d:ev P ty=some 1){b:Nat}(aa:a.eval x= .pointer (some ⟨b,0,none⟩))(al:a.eval y=v)(f:v.cells=#[v])(h1:v.oneCell')(ad:w.heap[b]?=some (.cells #[u] E (0,0))):
 ∃w',(execOp a.eval o).run P w= .ok .skip w'/\w'.os=w.os/\w'.tape=w.tape/\w'.output=w.output/\w'.heap.size=w.heap.size/\w'.heap[b]?=some (.cells #[v] E (0,0))/\∀c:Nat,c≠b->w'.heap[c]?=w.heap[c]?:=by
 obtain⟨w',h,k1,k2,k3,k4,k5,k6⟩:=m' (P:=P) [v] 0 0 _ w ad (by simp) (by grind);refine⟨w',?_,k1,k2,k3,k4,by simpa[ji]using k5,k6⟩;simp_all[execOp,Instr.storeAt,Instr.sureAddr,storeVar,ju]
theorem ajV{ops:Array Oper}{i:Nat}{rest:ba}(f:ops[i]?=some o)(d:o.dst=none)(av:o.guard=none)(g:o.op= .store ty x y)(e:ev P ty=some 1){b:Nat}(aa:a.eval x= .pointer (some ⟨b,0,none⟩))(al:a.eval y=v)(j:v.cells=#[v])(h1:v.oneCell')(ad:w.heap[b]?=some (.cells #[u] E (0,0)))
 (h:∀w':World,w'.os=w.os->w'.tape=w.tape->w'.output=w.output->w'.heap.size=w.heap.size->w'.heap[b]?=some (.cells #[v] E (0,0))->(∀c:Nat,c≠b->w'.heap[c]?=w.heap[c]?)->wpOps P ops Q rest a w'):wpOps P ops Q (i::rest) a w:=
 let⟨w',h0,k1,k2,k3,k4,k5,k6⟩:=st1 g e aa al j h1 ad
 Vj f d av h0 (h w' k1 k2 k3 k4 k5 k6)
theorem akQ{k:Operand}(j:o.op= .mapUpdate ty x k y)(g:nU P ty)(aa:a.eval x= .map (some r))(i:a.eval k=eu p)(al:a.eval y= .bool true)(ad:w.heap[r]?=some (.map es cV))(hs:kE ks es.toList)(f:oQ es.toList cV):
 ∃b c,(execOp a.eval o).run P w= .ok .skip {w with heap:=w.heap.setIfInBounds r (.map b c)}/\kE (nX ks p) b.toList/\oQ b.toList c:=by
 obtain⟨b,c,h1,d,e⟩:=adP g ad hs f p;exact⟨b,c,by simp_all[execOp],d,e⟩
theorem ajW{ops:Array Oper}{i:Nat}{rest:ba}(l:ops[i]?=some o)(f:o.dst=none)(av:o.guard=none){k:Operand}(m:o.op= .mapUpdate ty x k y)(j:nU P ty)(aa:a.eval x= .map (some r))(g:a.eval k=eu p)(al:a.eval y= .bool true)(ad:w.heap[r]?=some (.map es cV))(hs:kE ks es.toList)(e:oQ es.toList cV)
 (h:∀b c,kE (nX ks p) b.toList->oQ b.toList c->wpOps P ops Q rest a {w with heap:=w.heap.setIfInBounds r (.map b c)}):wpOps P ops Q (i::rest) a w:=
 let⟨b,c,h0,h1,d⟩:=akQ m j aa g al ad hs e
 Vj l f av h0 (h _ _ h1 d)
theorem akh(d:o.op= .range ty x)(b:nU P ty)(aa:a.eval x= .map (some r))(ad:w.heap[r]?=some (.map es cV)):
 (execOp a.eval o).run P w= .ok (.value (.pointer (some ⟨w.heap.size,0,none⟩))) (w.alloc (.mapIter (some r) cV #[] cV)):=by
 obtain⟨gy,f,it,i,e,c,_⟩:=b.ex;have:=run_range_map w ty _ _ r es _ c ad;simp_all[execOp]
theorem aj6(g:o.op= .next x false)(aa:a.eval x= .pointer (some ⟨q,0,none⟩))(f:w.heap[q]?=some (.mapIter (some r) cV seen cV))(ad:w.heap[r]?=some (.map es cV))(d:oQ es.toList cV):
 ((leftOf es seen).size=0/\(execOp a.eval o).run P w= .ok (.value (.tuple #[.bool false])) w)\/
 ∃e∈(leftOf es seen).toList,∃b:World,(b=w\/b=w.drew)/\(execOp a.eval o).run P w= .ok (.value (.tuple #[.bool true,e.key,e.val])) (ChangeMaps.setBlock b q (.mapIter (some r) cV (seen.push e.born) cV)):=by
 rcases run_next_at (P:=P) w o.type q r _ _ _ es _ f ad d.1 (ek _)with⟨h1,c⟩|⟨e,he,b,h1,c⟩;simp_all[execOp];exact .inr ⟨e,he,b,h1,by simp_all[execOp]⟩
theorem ajU{ops:Array Oper}{i:Nat}{rest:ba}(m:ops[i]?=some o){d:Nat}(l:o.dst=some d)(av:o.guard=none)(f:o.op= .next x false)(aa:a.eval x= .pointer (some ⟨q,0,none⟩))(j:w.heap[q]?=some (.mapIter (some r) cV seen cV))(ad:w.heap[r]?=some (.map es cV))(c:oQ es.toList cV)
 (h0:(leftOf es seen).size=0->wpOps P ops Q rest (a.put (some d) (.tuple #[.bool false])) w)(h1:∀e,e∈(leftOf es seen).toList->∀b,(b=w\/b=w.drew)->wpOps P ops Q rest (a.put (some d) (.tuple #[.bool true,e.key,e.val])) (ChangeMaps.setBlock b q (.mapIter (some r) cV (seen.push e.born) cV))):wpOps P ops Q (i::rest) a w:=by
 rcases aj6 (P:=P) f aa j ad c with⟨g,k⟩|⟨e,he,b,n,k⟩;grind[oU];grind[oU]
theorem ajo(d:o.op= .entry x)(aa:a.eval x= .pointer (some ⟨q,0,none⟩)){e:MapEntry}(c:w.heap[q]?=some (.mapIter (some r) cV (seen.push e.born) cV))(ad:w.heap[r]?=some (.map es cV))(he:e∈es.toList)(b:oQ es.toList cV):
 (execOp a.eval o).run P w= .ok (.value (.tuple #[e.key,e.val])) w:=by
 have:=run_entry_at (P:=P) w q r _ _ es _ e c ad he b.2;simp_all[execOp]
end
theorem pb.refl(h:∀b j,S b j->b<w.heap.size):pb S w S w:=⟨Ext.refl,h⟩
theorem fz.hand{fJ:I dy}{F:a6 U.D (aZ f fJ (ad .bool)).ts->ag (a6 U.D (aZ f fJ (ad .bool)).us)}(p:hE P f)
 (h:∀(x:a6 U.D (aZ f fJ (ad .bool)).ts) (b:J),F x=some b->∀(φ:dk) (S:dm) (w:World) (a:I V) (vs:I Value),(∀b j,S b j->b<w.heap.size)->bb (b7 0 []) (ku fJ (a6.cells U.D _ x)).1 a->bb (cc φ w S) a vs->V.aK.V.dI (lt 0) a->
  Calls P f vs.toArray w λe w'=>∃bu,e= .returned (.bool b)/\pb S w bu w'):fz P ((aZ f fJ (ad .bool)).s F):=by
 refine⟨p,λx b aa a σ1 g aG φ S w B u E A o vs v=>?_⟩;refine(h x b aa φ S w a vs u.st g v o).mono ?_
 rintro e w' ⟨bu,rfl,k⟩;refine⟨_,.c _,φ,bu,[],0,rfl,⟨rfl,.c (.t _),λb x h=>by simp[a8,cP.rest,eD.s,hL]at h⟩,cc.ph b,rfl,⟨λb x aa=>by simp[aV]at aa,λb z x y aa=>by simp[aV]at aa,k.2⟩,λb x aa=>by simp[aV]at aa,⟨k.1.os,k.1.tape,k.1.output,k.1.size,λb h _=>k.1.block b h (λx=>x),k.1.mono,λb j q=>?_⟩,λb x aa=>by grind[aV],λ_ _=>rfl⟩;rcases k.1.lQ b j q with h|h|h
 all_goals grind
end
end
end Go.Proofs.YtopcfbelfjclmaaGreatDoor.Shv
