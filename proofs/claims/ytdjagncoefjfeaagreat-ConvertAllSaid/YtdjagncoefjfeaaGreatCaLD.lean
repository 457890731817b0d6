/- The library of this proof, part D: an abstract machine for the code of the program, and its soundness. -/
import Derived.KernelRfl
import Derived.Shelf.Strings.Builder1
import Derived.ChangeArms
import Derived.ChangeStays
import Derived.ChangeSame
import Derived.SizedLaws
import Derived.Below
import Derived.WalkKit
import Derived.ProofKit
import Derived.OpenShut
import Derived.Laws.BitsLemmas
import Derived.Laws.Bits64
import Derived.Shelf.GgSortFunc.InsertionK
import Derived.Shelf.SlSortCmp.Insertion
import Derived.Sort.AssemblyPlain
import Derived.Lib.BitFns
import Derived.Test.YtdjagncoefjfeaaGreatCaLC

namespace Go.Proofs.YtdjagncoefjfeaaGreat.Shv
set_option linter.all false
section
open Go
variable {xb:a8}
variable {U:cL}{R:Type}
def oi(gl:eB)(gd:Option (Nat×Bool))(dst:Option Nat):Bool:=
 match dst with
 |none=>true
 |some d=>(gl.all λe=>!(Nat.beq e.1 d) && !(Nat.beq e.2.1 d))&&(match gd with
  |some g=>!(Nat.beq g.1 d)
  |none=>true)
def gE(dst:Option Nat)(v:bG U)(env:bT U):bT U:=
 match dst with
 |none=>env
 |some d=>(d,v)::env
def iN(gl:eB)(gd:Option (Nat×Bool))(dst:Option Nat):eB:=
 match gd,dst with
 |some g,some d=>(d,g)::gl
 |_,_=>gl
abbrev fX(U:cL):=Nat->List (cD U)
abbrev kZ(U:cL):=bT U->Option (List (bG U))
def SI(s:cD U)(c:kZ U)(env:bT U)(J:bf U)(key:Nat):Option (bT U×bf U×a8×aO U.D s.ts):=
 match c env with
 |none=>none
 |some vs=>match wY J 0 0 s.st (C1 s.gC vs ([],[])) []with
  |(bs,d)=>match kX d env J with
   |none=>none
   |some (env',J')=>match c env' with
    |none=>none
    |some e=>match ue bs&&((bs.all λb=>Nat.ble (b+1) key)&&(Nat.beq bs.length s.st.length&&Nat.ble s.eL.length (bs.length+16)))with
     |false=>none
     |true=>match mz bs s.gC e,iX bs J' 0 s.st with
      |some a,some b=>match aO.dec U.D s.ts (a++b)with
       |some h=>some (env',J',bs,h)
       |none=>none
      |_,_=>none
def xj(b:kZ U)(env:bT U)(J:bf U)(key:Nat)(k:bT U->bf U->bG U->Option R):List (cD U)->Option R
 |[]=>none
 |s::r=>match SI s b env J key with
  |none=>xj b env J key k r
  |some (env',J',bs,h)=>(s.F h)>>=λa=>match oI J' (s.rest a) 0 bs with
   |none=>none
   |some c=>if c then k env' (nk J' bs (back bs key) (s.rest a)) ((s.res a).b8 (back bs key))else none
def isNil{α:Type}:List α->Bool
 |[]=>true
 |_=>false
def Ga(s:cD U)(b:kZ U)(env:bT U):Option (aO U.D s.ts):=
 match isNil s.st&&isNil s.eL,b env with
 |true,some vs=>match vs.all fQ,mz [] s.gC vs with
  |true,some a=>aO.dec U.D s.ts a
  |_,_=>none
 |_,_=>none
def xi(a:kZ U)(env:bT U)(g:Bool)(k:bG U->Option R):List (cD U)->Option R
 |[]=>none
 |s::r=>match Ga s a env with
  |none=>xi a env g k r
  |some h=>(if g then s.F h else some (aO.kd U s.us))>>=λb=>match fQ (s.res b)with
   |true=>k (s.res b)
   |false=>none
def hasB(J:bf U)(b:Nat):Bool:=match a6 J b with
 |some _=>true
 |none=>false
def bm.jA(J:bf U):bm U->Bool
 |.t _|.dN .. |.az|.e9|.e7=>true
 |.ptr b _=>hasB J b
 |.cG b _ _ _=>hasB J b
 |.fn _ caps=>caps.all (hasB J)
 |.arr b=>match a6 J b with
  |some x=>(match x.dd with
   |some _=>true
   |none=>false)
  |none=>false
 |.sub .. =>false
 |.pre .. =>false
 |.dP .. =>false
 |.mp b=>hasB J b
 |.ey _=>false
 |.cM b=>match a6 J b with
  |some x=>(match x.dd with
   |some p=>Nat.beq p.1 1
   |none=>false)
  |none=>false
 |.dead=>false
def kL(J:bf U):bG U->Bool
 |.c x=>x.jA J
 |.agg cs=>cs.all (bm.jA J)
 |.aY vs=>go J vs
where go (J:bf U):List (bG U)->Bool
 |[]=>true
 |v::vs=>kL J v&&go J vs
def bm.il(J:bf U):bm U->C
 |.t c=>.t (c.enc U)
 |.dN ty x o=>.dN (ty.enc U x) o
 |.az=>.az
 |.e9=>.e9
 |.e7=>.e7
 |.fn f caps=>.fn f caps
 |.ptr b o=>.ptr b o
 |.cG b ty i o=>.cG b (ty.sz U) i o
 |.arr b=>match a6 J b with
  |some x=>(match x.dd with
   |some p=>.arr b p.1 0 p.2
   |none=>.dead)
  |none=>.dead
 |.sub b a len=>.fJ b 1 a len
 |.pre _ _=>.dead
 |.dP .. =>.dead
 |.mp b=>.mp b
 |.ey b=>.ey b
 |.cM b=>match a6 J b with
  |some x=>(match x.dd with
   |some p=>.cM b p.2
   |none=>.dead)
  |none=>.dead
 |.dead=>.dead
def ik(J:bf U):bG U->V
 |.c x=>.c (x.il J)
 |.agg cs=>.agg (cs.map (bm.il J))
 |.aY vs=>.aY (go J vs)
where go (J:bf U):List (bG U)->List V
 |[]=>[]
 |v::vs=>ik J v::go J vs
def gp(J:bf U):cT U->Bool
 |.box cs=>cs.all (bm.jA J)
 |.arr _ _=>true
 |.rows .. =>false
 |.set _=>true
 |.buf _ _=>true
 |.b7 _ c=>c.jA J
 |.cA .. =>false
def sE(J:bf U):cT U->bP
 |.box cs=>.box (cs.map (bm.il J))
 |.arr ty l=>.arr (ty.sz U) (l.map (ty.enc U))
 |.rows sz _=>.arr sz []
 |.set ks=>.set ks
 |.buf E s=>.buf E s
 |.b7 E c=>.b7 E (c.il J)
 |.cA t l i o _=>.cA (t.sz U) (l.map (t.enc U)) i o .dead
def kv(J:bf U):bf U->a'
 |[]=>[]
 |(b,x)::r=>(b,sE J x)::kv J r
def Ji(J:bf U)(l:bf U):Bool:=l.all λp=>Nat.ble (p.1+1) 16&&gp J p.2
def F9(s:cD U)(b:kZ U)(env:bT U):Option (aO U.D s.ts):=
 match isNil s.st&&Nat.ble s.eL.length 16,b env with
 |true,some vs=>match vs.all fQ,mz [] s.gC vs with
  |true,some a=>aO.dec U.D s.ts a
  |_,_=>none
 |_,_=>none
def zM(b:kZ U)(env:bT U)(J:bf U)(key:Nat)(k:bf U->bG U->Option R):List (cD U)->Option R
 |[]=>none
 |s::r=>match F9 s b env with
  |none=>zM b env J key k r
  |some h=>(s.F h)>>=λa=>match kL (s.rest a) (s.res a)&&Ji (s.rest a) (s.rest a)with
   |true=>k (nk J [] (back [] key) (s.rest a)) ((s.res a).b8 (back [] key))
   |false=>none
def bm.ga:bm U->a8
 |.ptr b _|.cG b _ _ _|.arr b|.sub b _ _|.pre b _|.dP b _ _|.mp b|.ey b|.cM b=>[b]
 |.fn _ caps=>caps
 |_=>[]
def bG.ga:bG U->a8
 |.c x=>x.ga
 |.agg cs=>cs.flatMap bm.ga
 |.aY _=>[]
def l7(l:a8)(b:Nat):Bool:=l.any λc=>Nat.beq c b
def SJ(xb:a8)(s:cD U)(d:kZ U)(env:bT U)(J:bf U)(key:Nat):Option (a8×aO U.D s.ts):=
 match d env with
 |none=>none
 |some vs=>match wY J 0 0 s.st (C1 s.gC vs ([],[])) []with
  |(bs,c)=>match isNil c&&(ue bs&&((bs.all λb=>Nat.ble (b+1) key&&((l7 (vs.flatMap bG.ga) b||l7 xb b)&&hasB J b))&&(Nat.beq bs.length s.st.length&&(Nat.ble bs.length s.eL.length&&Nat.ble s.eL.length (bs.length+16)))))with
   |false=>none
   |true=>match mz bs s.gC vs,iX bs J 0 s.st with
    |some a,some b=>match aO.dec U.D s.ts (a++b)with
     |some h=>some (bs,h)
     |none=>none
    |_,_=>none
def I0(n:Nat)(J:bf U)(l:bf U):Bool:=l.all λp=>Nat.ble (p.1+1) n&&gp J p.2
def wP(xb:a8)(b:kZ U)(env:bT U)(J:bf U)(key:Nat)(k:bf U->bG U->Option R):List (cD U)->Option R
 |[]=>none
 |s::r=>match SJ xb s b env J key with
  |none=>wP xb b env J key k r
  |some (bs,h)=>(s.F h)>>=λa=>match kL (s.rest a) (s.res a)&&I0 (bs.length+16) (s.rest a) (s.rest a),oI J (s.rest a) 0 bs with
   |true,some c=>if c then k (nk J bs (back bs key) (s.rest a)) ((s.res a).b8 (back bs key))else none
   |_,_=>none
def aeX(a:kZ U)(env:bT U)(l:List (cD U)):Bool:=l.any λs=>(F9 s a env).isSome
def aeY(a:kZ U)(env:bT U)(l:List (cD U)):Bool:=l.any λs=>(Ga s a env).isSome
def ahB(gd:Option (Nat×Bool))(a:kZ U)(env:bT U)(l:List (cD U)):Bool:=
 match gd with
 |some _=>!(aeY a env l)
 |none=>false
def aff(d:Option a8):a8:=match d with
 |some l=>l
 |none=>[]
def Io(fo:fX U)(d:Option a8)(gd:Option (Nat×Bool))(f:Nat)(a:kZ U)(gl:eB)(env:bT U)(J:bf U)(key:Nat)(k:bT U->bf U->bG U->Option R):Option R:=
 match gd with
 |none=>match d with
  |none=>xj a env J key k (fo f)
  |some xb=>match aeX a env (fo f)with
   |true=>zM a env J key (λJ v=>k env J v) (fo f)
   |false=>wP xb a env J key (λJ v=>k env J v) (fo f)
 |some _=>match lA gl env qG gd with
  |some g=>xi a env g (λv=>k env J v) (fo f)
  |none=>none
abbrev j0:=List (Nat×Bool)
def vd(nf:j0)(gl:eB):Nat->Option (Nat×Bool)->Bool
 |0,_=>false
 |_,none=>false
 |a+1,some (t,b)=>(nf.any λg=>Nat.beq g.1 t&&(g.2==b))||vd nf gl a (a6 gl t)
def lu(nf:j0)(dst:Option Nat):Bool:=
 match dst with
 |none=>true
 |some d=>nf.all λg=>!(Nat.beq g.1 d)
def ES:bG U:= .c (.t ⟨.bool,false⟩)
def si(fo:fX U)(d:Option a8)(o:cb)(key:Nat)(gl:eB)(nf:j0)(env:bT U)(J:bf U)(k:eB->j0->bT U->bf U->Option R):Option R:=
 match oi gl o.guard o.dst&&lu nf o.dst with
 |false=>none
 |true=>match vd nf gl qG o.guard with
  |true=>match lA gl env qG o.guard with
   |some _=>k (iN gl o.guard o.dst) nf (gE o.dst ES env) J
   |none=>none
  |false=>match o.op with
   |.call f args=>match ahB o.guard (λe=>lK gl o.guard e args) env (fo f)with
    |true=>match lA gl env qG o.guard,o.guard with
     |some g,some gd=>if g then wP (aff d) (λe=>lK gl o.guard e args) env J key (λJ v=>k (iN gl o.guard o.dst) nf (gE o.dst v env) J) (fo f)else k (iN gl o.guard o.dst) (gd::nf) (gE o.dst ES env) J
     |_,_=>none
    |false=>Io fo d o.guard f (λe=>lK gl o.guard e args) gl env J key λenv J v=>k (iN gl o.guard o.dst) nf (gE o.dst v env) J
   |.iE x args=>match d,o.guard,dn gl none env x with
    |none,none,some (.c (.fn f _))=>xj (λe=>match dn gl none e x,lK gl none e args with
     |some (.c (.fn i a)),some vs=>match Nat.beq i f with
      |true=>some (vs++a.map λb=>.c (.ptr b 0))
      |false=>none
     |_,_=>none) env J key (λenv J v=>k gl nf (gE o.dst v env) J) (fo f)
    |some _,none,some (.c (.fn f []))=>xi (λe=>lK gl none e args) env true (λv=>k gl nf (gE o.dst v env) J) (fo f)
    |_,_,_=>none
   |op=>match cu gl o.guard env J key op with
    |none=>none
    |some (c,v,J')=>match o.guard with
     |none=>if c then k gl nf (gE o.dst v env) J' else none
     |some gd=>match lA gl env qG (some gd)with
      |none=>none
      |some g=>match op.neutral with
       |true=>if(c || !g) then k (iN gl o.guard o.dst) nf (gE o.dst v env) J else none
       |false=>if g then(if c then k (iN gl o.guard o.dst) nf (gE o.dst v env) J' else none)else k (iN gl o.guard o.dst) (gd::nf) (gE o.dst ES env) J
def SD(J:bf U):bm U->List (Nat×aL)
 |.arr b=>match a6 J b with
  |some (.arr t _)=>[(b,t)]
  |_=>[]
 |_=>[]
def ahA(J:bf U):bG U->List (Nat×aL)
 |.c x=>SD J x
 |.agg cs=>cs.flatMap (SD J)
 |.aY _=>[]
def F7(gl:eB)(gd:Option (Nat×Bool))(env:bT U)(J:bf U)(xs:List aQ):List (Nat×aL):=
 xs.flatMap λx=>match dn gl gd env x with
  |some v=>ahA J v
  |none=>[]
def A6(l:List (Nat×aL))(env:bT U)(J:bf U):Option (bT U×bf U):=
 match l with
 |[]=>none
 |_=>kX l env J
def F8(gl:eB)(o:cb)(env:bT U)(J:bf U):Option (bT U×bf U):=
 match o.op with
 |.slc _ x _ _=>match dn gl o.guard env x with
  |some (.c (.arr b))=>match a6 J b with
   |some (.arr t _)=>kX [(b,t)] env J
   |_=>none
  |_=>none
 |.call _ args=>match o.guard with
  |some _=>A6 (F7 gl o.guard env J args) env J
  |none=>none
 |.bsliceT _ _ _ _ ps=>A6 (F7 gl o.guard env J (ps.map Prod.snd)) env J
 |.bslice _ _ _ ps=>A6 (F7 gl o.guard env J (ps.map Prod.snd)) env J
 |_=>none
def Ee(fo:fX U)(d:Option a8)(o:cb)(key:Nat)(gl:eB)(nf:j0)(env:bT U)(J:bf U)(k:eB->j0->bT U->bf U->Option R):Option R:=
 match d with
 |some xb=>si fo (some xb) o key gl nf env J k
 |none=>match F8 gl o env J with
  |none=>si fo none o key gl nf env J k
  |some p=>si fo none o key gl nf p.1 p.2 k
def rM(fo:fX U)(d:Option a8):List cb->Nat->eB->j0->bT U->bf U->(eB->bT U->bf U->Option R)->Option R
 |[],_,gl,_,env,J,k=>k gl env J
 |o::r,key,gl,nf,env,J,k=>Ee fo d o key gl nf env J λgl nf env J=>rM fo d r (key+16) gl nf env J k
def BR(gl:eB)(k:Nat):Bool:=gl.any λe=>Nat.beq e.1 k
def clean(gl:eB):bT U->bT U
 |[]=>[]
 |(k,v)::r=>match BR gl k with
  |true=>clean gl r
  |false=>(k,v)::clean gl r
def zN(gl:eB)(env:bT U):bT U:=
 match gl with
 |[]=>env
 |_=>clean gl env
structure eP (key:Nat)(gl:eB)(nf:j0)(env:bT U)(J:bf U)(env1:Env)(J1:a')(G:Nat->Bool):Prop where
 gU:c4 key J G env env1
 aq:gP gl env G
 eT:cx key J J1
 aG:∀g,g∈nf->cE env G (some g)=false
variable{N:Nat}{o:cb}{K:Env->a'->Prop}
section
variable {P:Program}{kk key:Nat}{J J':bf U}{J1 bq:a'}{env:bT U}{env1:Env}{G:Nat->Bool}{gl:eB}{gd:Option (Nat×Bool)}{nf:j0}{dst:Option Nat}{v:bG U}{v1:V}
theorem H5{d:Option Nat}{k:Nat}:a6 (gE d v env) k=if d=some k then some v else a6 env k:=by
 cases d with
 |none=>rfl
 |some d=>
  grind[gE,a6,c5,iG]
theorem Ef{o:Option (Nat×Bool)}{g:Bool}(h:lA gl env qG o=some g):o=none\/∃t b y,o=some (t,b)/\fm env t b=some y:=by
 cases o with
 |none=>simp
 |some x=>
  grind[acq]
theorem Lg(aq:gP gl env G)(aG:∀g,g∈nf->cE env G (some g)=false):∀{a:Nat} {gd:Option (Nat×Bool)},vd nf gl a gd=true->cE env G gd=false
 |0,gd,h=>by grind[vd]
 |a+1,none,h=>by grind[vd]
 |a+1,some (t,b),h=>by
  simp only[vd,iv,F3,cC]at h;rcases h with⟨⟨f,c⟩,e,h1,d⟩|h
  . grind[c5]
  . have:=Lg aq aG h;rw[aq.a6 t]at this;grind[cE]
theorem eP.bind(he:c4 key J' G env env1)(aq:gP gl env G)(aI:cx key J' bq)(aG:∀g,g∈nf->cE env G (some g)=false)(L:ca key J' v v1)(x:gd=none\/∃t b y,gd=some (t,b)/\fm env t b=some y)(A:oi gl gd dst=true)(f:lu nf dst=true):
 eP key (iN gl gd dst) nf (gE dst v env) J' (eu env1 dst (cE env G gd) v1) bq (λk=>if dst=some k then cE env G gd else G k):=by
 refine⟨λk w a=>?_,?_,aI,λg j=>?_⟩
 . rw[H5]at a;rw[pI];split at a
   . grind
   . rename_i h;rw[al h,al h];exact he k w a
 . cases dst with
   |none=>
    have:iN gl gd none=gl:=by cases gd<;>rfl
    simp_all[gE,reduceCtorEq,b9]
   |some d=>
    simp only[oi,cC,dH,r0]at A;have J:∀k t b,a6 gl k=some (t,b)->k≠d/\t≠d:=by
     intro k t b a;have K:∀{l:eB},a6 l k=some (t,b)->(k,t,b)∈l:=by
      intro l;induction l with
      |nil=>grind[a6]
      |cons e r ih=>
       obtain⟨M,e⟩:=e;intro h;simp only[a6]at h;split at h
       . simp_all
       grind
     grind[iG]
    have H:∀t b,t≠d->fm (gE (some d) v env) t b=fm env t b:=by
     intro t b ht;unfold fm;rw[H5,al (by grind)]
    have p:∀k t b,a6 gl k=some (t,b)->∃y,fm (gE (some d) v env) t b=some y/\(if some d=some k then cE env G gd else G k)=((if some d=some t then cE env G gd else G t)&&y):=by
     intro k t b a;obtain⟨y,E,F⟩:=aq.held k t b a;grind
    cases gd with
    |none=>
     refine⟨λk a=>?_,λk t b a=>p k t b a⟩;by_cases c:some d=some k
     . rw[ae c];rfl
     . rw[al c];exact aq.free k a
    |some g=>
     obtain⟨t0,b0⟩:=g;have B:t0≠d:=by
      grind[Bool.not_eq_true',iG]
     refine⟨λk a=>?_,λk t b a=>?_⟩
     . simp only[iN,a6]at a;split at a
       . grind
       . rw[al (by grind[iG])];exact aq.free k a
     . simp only[iN,a6]at a;split at a
       . rename_i q;cases a;have:=c5 q;subst this;rcases x with h|⟨t,b,y,h,D⟩
         . grind
         . cases h;refine⟨y,by grind,?_⟩;rw[ae rfl,al (by simp;exactλe=>B e.symm)];simp[cE,D]
       . exact p k t b a
 . obtain⟨t,b⟩:=g;have h0:=aG _ j;cases dst with
   |none=>simpa[gE]using h0
   |some d=>
    simp only[lu,dH,r0]at f;have o:t≠d:=iG (f _ j);simp only[cE]at h0⊢;rw[al (by simp;exactλe=>o e.symm)];have:fm (gE (some d) v env) t b=fm env t b:=by
     unfold fm;rw[H5,al (by simp;exactλe=>o e.symm)]
    rw[this];exact h0
theorem I1:ca N J ES (.c (.t (.bool false))):= .c (.t _)
theorem Dx(h:eP key gl nf env J env1 J1 G)(c:o.guard=none\/∃t b y,o.guard=some (t,b)/\fm env t b=some y)(aq:cE env G o.guard=false)(d:oi gl o.guard o.dst=true)(e:lu nf o.dst=true)(f:ca (key+16) J v v1):
 DStep xb P o key env1 J1 false v1 J1/\eP (key+16) (iN gl o.guard o.dst) nf (gE o.dst v env) J (eu env1 o.dst false v1) J1 (λk=>if o.dst=some k then false else G k):=by
 have a:=Du h.gU c;rw[aq]at a;refine⟨.skip a rfl,?_⟩;have:=eP.bind (h.gU.mono (dw.more (by simp))) h.aq (h.eT.mono (Nat.le_add_right _ 16)) h.aG f c d e;grind
theorem M5{c:Bool}(h:eP key gl nf env J env1 J1 G)(g:cu gl o.guard env J key o.op=some (c,v,J'))(d:o.guard=none\/∃t b y,o.guard=some (t,b)/\fm env t b=some y)(j:oi gl o.guard o.dst=true)(l:lu nf o.dst=true):
 (cE env G o.guard=true->c=true->∃v1 bq,DStep xb P o key env1 J1 true v1 bq/\eP (key+16) (iN gl o.guard o.dst) nf (gE o.dst v env) J' (eu env1 o.dst true v1) bq (λk=>if o.dst=some k then true else G k))/\
 (cE env G o.guard=false->o.op.neutral=true->∃v1,DStep xb P o key env1 J1 false v1 J1/\eP (key+16) (iN gl o.guard o.dst) nf (gE o.dst v env) J (eu env1 o.dst false v1) J1 (λk=>if o.dst=some k then false else G k)):=by
 obtain⟨⟨v1,f,n⟩,s,aG⟩:=K7 h.gU h.aq h.eT g;have i:=Du h.gU d;refine⟨λaq q=>?_,λaq u=>?_⟩
 . obtain⟨p,bq,h1,a,m⟩:=n aq q;rw[aq]at i;have r:o.op.drawn=true:=by
    generalize o.op=w at g;cases w<;>first|rfl|(simp[cu]at g)
   have hs:DStep xb P o _ _ J1 _ v1 _:= .op i r h1 (λ_=>a) (.inr rfl);have e:(if o.op.neutral then J1 else bq)=bq:=by
    grind[y1]
   rw[e]at hs;refine⟨v1,bq,hs,?_⟩;have:=eP.bind (h.gU.mono s) h.aq m h.aG f d j l;grind
 . rw[aG u]at f;obtain⟨h1,a⟩:=Dx h d aq j l f;exact⟨v1,h1,a⟩
theorem Lh{x:bm U}(h:x.qk=true):x.oW.bO []=x.oW:=by
 cases x<;>simp[bm.qk]at h<;>try rfl
 rename_i f caps;cases caps with
 |nil=>rfl
 |cons=>grind
theorem H6:∀{x:bG U},fQ x=true->(fh x).bO []=fh x
 |.c x,h=>by grind[fQ,fh,V.bO,Lh]
 |.agg cs,h=>by
  grind[fQ,fh,V.bO,List.map_congr_left,Lh]
 |.aY vs,h=>by
  simp[fh,V.bO];rw[go vs h]
where go:∀(vs:List (bG U)),fQ.go vs=true->V.bO.go [] (fh.go vs)=fh.go vs
 |[],_=>rfl
 |v::vs,h=>by
  simp[fQ.go]at h;simp[fh.go,V.bO.go,H6 h.1,go vs h.2]
def fL(P:Program)(fo:fX U):Prop:=∀f s,s∈fo f->s.f=f/\hj P f=true/\hB P s
theorem H7{a:bf U}{x:bm U}{d:C}(h:cj N a x d)(hs:x.jA a=true):d=x.il a:=by
 cases h<;>simp[bm.jA]at hs<;>try rfl
 . grind[bm.il]
 grind[bm.il]
theorem CP{a:bf U}:∀{vs:List (bG U)} {i:Nat},(ik.go a vs)[i]?=(vs[i]?).map (ik a)
 |[],i=>by rfl
 |v::vs,0=>by rfl
 |v::vs,i+1=>by simp[ik.go,CP]
theorem TL{a:bf U}:∀{vs:List (bG U)} {i:Nat} {v:bG U},kL.go a vs=true->vs[i]?=some v->kL a v=true
 |[],i,v,_,h=>by grind
 |x::vs,0,v,hs,h=>by grind[kL.go]
 |x::vs,i+1,v,hs,h=>by simp[kL.go]at hs;exact TL hs.2 (by simpa using h)
theorem IC{a:bf U}:∀{xs:List (bm U)} {b:List C},ba (cj N a) xs b->(∀x,x∈xs->x.jA a=true)->b=xs.map (bm.il a)
 |[],[],_,_=>rfl
 |x::xs,d::b,.cons h1 c,hs=>by
  rw[fB,<-H7 h1 (hs x (by simp)),<-IC c (λx e=>hs x (by grind))]
theorem Mh{a:bf U}{x:bG U}{d:V}(h:ca N a x d):kL a x=true->d=ik a x:=by
 induction h with
 |c h=>intro hs;rw[H7 h hs];rfl
 |agg h=>
  grind[kL,ik,IC]
 |aY xs f af h ih=>
  intro hs
  congr 1
  apply yC;intro i;rw[CP];cases b:xs[i]? with
  |none=>grind
  |some x=>
   have g:=(ds.1 b).1;have e:=e' (l:=f) (i:=i) (by omega);rw[e]
   congr 1
   exact ih i x _ b e (TL hs b)
theorem M6{a:bf U}{x:cT U}{y:bP}(h:ic N a x y)(hs:gp a x=true):y=sE a x:=by
 cases h with
 |box h=>grind[gp,sE,IC]
 |arr t l=>rfl
 |set ks=>rfl
 |buf E s=>rfl
 |b7 h=>grind[gp,sE,H7]
 |cA=>grind[gp]
 |rows=>grind[gp]
theorem zR{a:bf U}:∀{l:bf U} {b:Nat},aX (kv a l) b=(a6 l b).map (sE a)
 |[],b=>rfl
 |(k,x)::r,b=>by
  simp[kv,aX,a6];cases h:Nat.beq k b with
  |true=>simp_all
  |false=>rw[al (iG h)];exact zR
theorem Po{k:Nat}:∀{v:V},v.b8 (back [] k)=v.bD k
 |.c x=>by rfl
 |.agg cs=>by rfl
 |.aY vs=>by simp[V.b8,V.bD];rw[go vs]
where go:∀(vs:List V),V.b8.go _ vs=V.bD.go k vs
 |[]=>rfl
 |v::vs=>by simp only[V.b8.go,V.bD.go];rw[Po,go vs]
theorem Kp{k:Nat}:∀{s:a'},ho J1 [] (back [] k) s=mv J1 k s
 |[]=>rfl
 |(b,x)::r=>by
  simp[ho];rw[Kp];rfl
theorem D2:∀{ss:List fN} {j:Nat} {a:eQ U} {i:Nat} {x:cT U},a6 (gL j ss a) i=some x->j<=i/\i<j+ss.length
 |[],j,a,i,x,h=>by grind[gL,a6]
 |s::ss,j,a,i,x,h=>by
  simp[gL]at h;split at h
  . simp[a6]at h;split at h
    . simp_all
    . have:=D2 h;grind
  . have:=D2 h;grind
theorem JM{bs:a8}:∀{caps:a8},(∀c,c∈caps->pos bs c=some c)->pS bs caps=some caps
 |[],_=>rfl
 |c::cs,h=>by simp[pS,h c _,JM (caps:=cs) (λx a=>h x (by grind))]
theorem v'{a:bf U}(j:∀b x,a6 a b=some x->b<N){x:bm U}(hs:x.jA a=true):cj N a x (x.il a)/\dz ((x.il a).bO (List.range N)) (x.il a):=by
 have g:∀b,hasB a b=true->pos (List.range N) b=some b:=by
  grind[hasB,mW]
 cases x with
 |t c=>exact⟨.t c,dz.refl _⟩
 |ptr b o=>
  refine⟨.ptr b o,?_⟩;simp only[bm.il,C.bO,g b hs];exact dz.refl _
 |cG b ty i o=>
  refine⟨.cG b ty i o,?_⟩;simp only[bm.il,C.bO,g b hs];exact dz.refl _
 |dN ty x o=>exact⟨.dN ty x o,dz.refl _⟩
 |arr b=>
  simp only[bm.jA]at hs;split at hs
  . rename_i y d;split at hs
    . rename_i p e;simp only[bm.il,d,e];refine⟨.arr b p.1 p.2 (j b y d) λz l q k=>?_,?_⟩
      . grind
      grind[C.bO,hasB,dz.refl]
    grind
  grind
 |dP b m len=>grind[bm.jA]
 |sub b m len=>grind[bm.jA]
 |pre b h=>grind[bm.jA]
 |mp b=>
  refine⟨.mp b,?_⟩;simp only[bm.il,C.bO,g b hs];exact dz.refl _
 |ey b=>grind[bm.jA]
 |cM b=>
  simp only[bm.jA]at hs;split at hs
  . rename_i y d;split at hs
    . rename_i p e;simp only[bm.il,d,e];refine⟨.cM b p.2 (j b y d) λz l q k=>?_,?_⟩
      . grind[c5]
      grind[C.bO,hasB,dz.refl]
    grind
  grind
 |az=>exact⟨.az,dz.refl _⟩
 |e9=>exact⟨.e9,dz.refl _⟩
 |e7=>exact⟨.e7,dz.refl _⟩
 |fn f caps=>
  simp only[bm.jA]at hs;refine⟨.fn f caps,?_⟩;grind[JM,bm.il,C.bO,dz.refl]
 |dead=>grind[bm.jA]
theorem vR{a:bf U}(c:∀b x,a6 a b=some x->b<N):∀{xs:List (bm U)},(∀x,x∈xs->x.jA a=true)->ba (cj N a) xs (xs.map (bm.il a))/\ba dz ((xs.map (bm.il a)).map (C.bO (List.range N))) (xs.map (bm.il a))
 |[],_=>⟨.nil,.nil⟩
 |x::xs,hs=>by
  obtain⟨h1,d⟩:=v' c (hs x (by simp));obtain⟨e,f⟩:=vR c (xs:=xs) (λx g=>hs x (by grind));exact⟨.cons h1 e,.cons d f⟩
theorem T'{a:bf U}:∀{vs:List (bG U)},(ik.go a vs).length=vs.length
 |[]=>rfl
 |v::vs=>by simp[ik.go,T']
theorem zG{N:Nat}{a:bf U}(e:∀b x,a6 a b=some x->b<N):∀{x:bG U},kL a x=true->ca N a x (ik a x)/\gm ((ik a x).bO (List.range N)) (ik a x)
 |.c x,hs=>by
  obtain⟨h1,f⟩:=v' e (x:=x) (by grind[kL]);exact⟨.c h1,.c f⟩
 |.agg cs,hs=>by
  simp[kL,dH]at hs;obtain⟨h1,f⟩:=vR e hs;exact⟨.agg h1,.agg f⟩
 |.aY vs,hs=>by
  have:=go e vs hs;refine⟨.aY _ _ (by rw[T']) λi x d g j=>?_,.aY _ _ (by rw[CO]) λi x y g k=>?_⟩
  . grind[CP]
  grind[Df,CP]
where go {N:Nat} {a:bf U} (e:∀b x,a6 a b=some x->b<N):∀(vs:List _),kL.go a vs=true->∀x,x∈vs->ca N a x (ik a x)/\gm ((ik a x).bO (List.range N)) (ik a x)
 |[],_=>by simp
 |v::vs,hs=>by
  simp[kL.go]at hs;have h1:=zG e hs.1;have f:=go e vs hs.2;grind
theorem JN {fo:fX U}(ab:fL P fo){o:cb}{f:Nat}{args:List aQ}(ai:o.op= .call f args)(h:eP key gl nf env J env1 J1 G)(z:o.guard=none)(Y:oi gl o.guard o.dst=true)(Z:lu nf o.dst=true)
 {k:bf U->bG U->Option R}{r:R}:∀{ss:List (cD U)},(∀s,s∈ss->s∈fo f)->zM (λe=>lK gl o.guard e args) env J key k ss=some r->
 ∃v v1 J' bq,k J' v=some r/\DStep xb P o key env1 J1 true v1 bq/\eP (key+16) (iN gl o.guard o.dst) nf (gE o.dst v env) J' (eu env1 o.dst true v1) bq (λi=>if o.dst=some i then true else G i)
 |[],_,g=>by grind[zM]
 |s::ss,ae,g=>by
  simp only[zM]at g;split at g
  . exact JN ab ai h z Y Z (λs hs=>ae s (by grind)) g
  . rename_i aa A;unfold F9 at A;split at A
    . rename_i vs ah aj;simp only[cC]at ah;split at A
      . rename_i a I ap;rw[dH]at I;obtain⟨aC,aS,aD⟩:=ab f s (ae s (by simp));obtain⟨p,F,b1,b2,b3⟩:=tE h.gU h.aq aj;have aE:s.st=[]:=(by grind[isNil]);have O:=ig ah.2;obtain⟨m,hres,H⟩:=rX.1 g;split at H
        . rename_i B;simp only[cC]at B;obtain⟨aP,f1,af,am⟩:=u2 (N:=key) (Jc:=([]:bf U)) (wC) (λj b aN aU=>by grind) ap
          obtain⟨M,aM,al,di⟩:=am F b2.length (λi x d g t=>by
           obtain⟨L,h1,w⟩:=b2.get g
           rw[t]at h1;cases h1;omega)
          have aT:aO.cells U.D s.ts aa=a:=aO.fp A;have ar:s.args aa=aP:=by
           unfold cD.args;have:=f1 [];grind
          have T:s.iC aa=[]:=by unfold cD.iC;rw[aE];rfl
          have ad:s.st.length=0:=by grind
          have W:=aD aa m hres M [] (by
           rw[ar,T,ad]
           refine ba.lE (by rw[af,aM,b2.length]) λi x d g t=>di i x d g t) (by rw[T];intro b x g;grind[a6])
          rw[aC,ad]at W;have aF:ba gm F M:=by
           refine ba.lE aM.symm λi d L t ax=>?_;have aj:=al i d L t ax;obtain⟨x,g,ag⟩:=(b2.flip (R':=λd x=>ca key J x d) λ_ _ h=>h).get t;have hs:=I x (fj g);have:=zF ag hs;grind[H6]
          have av:=eg.conv aF (J:=[]) (λb aN g=>by grind[aX]) W;have q:∀b x,a6 (s.rest m) b=some x->b<16/\gp (s.rest m) x=true:=by
           intro b x g;have aA:∀{l:bf U},a6 l b=some x->(b,x)∈l:=by
            intro l;induction l with
            |nil=>grind[a6]
            |cons e r ih=>
             obtain⟨aV,e⟩:=e;intro h;simp only[a6]at h;split at h
             . simp_all
             grind
           have:=B.2;unfold Ji at this;rw[dH]at this;have w:=this _ (aA g);simp only[cC]at w;exact⟨by have:=ig w.1;omega,w.2⟩
          have u:∀b x,a6 (s.rest m) b=some x->b<s.eL.length:=by
           intro b x g;have:=(D2 g).2;omega
          have aw:eg P f F [] 0 (λaK aL ak=>aK=ik (s.rest m) (s.res m)/\aL=kv (s.rest m) (s.rest m)/\ak=s.eL.length):=by
           refine eg.tidy av ?_
           rintro aW s1 aR ⟨rfl,aI,aJ⟩
           have aB:=Mh aI B.1;subst aB;refine⟨List.range s.eL.length,_,_,List.nodup_range,rfl,?_,?_,rfl,rfl,by simp⟩
           . exact(zG u B.1).2
           . intro b x g;rw[zR,bo]at g;obtain⟨K,C,rfl⟩:=g;obtain⟨h1,y,w,an⟩:=aJ b K C;have aH:=M6 an (q b K C).2;subst aH;have ht:=y9 (bs:=List.range s.eL.length) (i:=0) (j:=b) (r:=List.range s.eL.length) (by simp[h1]) w;rw[hR]at ht;refine⟨_,ht,?_⟩;cases K with
             |box cs=>
              have n:=(q b _ C).2;simp only[gp,dH]at n;exact .box (vR u n).2
             |arr ty l=>exact .arr
             |rows sz l=>have n:=(q b _ C).2;simp[gp]at n
             |set ks=>exact .same
             |buf E s=>exact .same
             |b7 E c=>have n:=(q b _ C).2;exact .b7 (v' u (by simpa[gp]using n)).2
             |cA=>have n:=(q b _ C).2;simp[gp]at n
          have au:V.aD.V.dI (lt 0) F=true:=by
           refine tz λi d t=>?_;obtain⟨x,g,ag⟩:=(b2.flip (R':=λd x=>ca key J x d) λ_ _ h=>h).get t;have hs:=I x (fj g);have:=zF ag hs;subst this;exact(v8 (N:=key) (J:=J) hs).2 _
          have aq:f' env1 o.guard=some true:=by rw[z];rfl
          have az:(kv (s.rest m) (s.rest m)).all (λx=>decide (x.1<16))=true:=by
           have ay:=B.2;unfold Ji at ay;have:∀{l:bf U},(l.all λp=>Nat.ble (p.1+1) 16&&gp (s.rest m) p.2)=true->(kv (s.rest m) l).all (λx=>decide (x.1<16))=true:=by
            intro l;induction l with
            |nil=>intro _;rfl
            |cons e r ih=>
             obtain⟨b,x⟩:=e;intro h;simp only[rU,cC]at h;simp only[kv,rU,cC,dO];exact⟨by have:=ig h.1.1;omega,ih h.2⟩
           grind
          have X:ca s.eL.length (s.rest m) (s.res m) (ik (s.rest m) (s.res m))/\cx s.eL.length (s.rest m) (kv (s.rest m) (s.rest m)):=by
           refine⟨(zG u B.1).1,λb x g=>?_⟩;refine⟨u b x g,sE (s.rest m) x,by rw[zR,g];rfl,?_⟩;cases x with
           |box cs=>
            have n:=(q b _ g).2;simp only[gp,dH]at n;exact .box (vR u n).1
           |arr ty l=>exact .arr ty l
           |rows sz l=>have n:=(q b _ g).2;simp[gp]at n
           |set ks=>exact .set ks
           |buf E s=>exact .buf E s
           |b7 E c=>have n:=(q b _ g).2;exact .b7 (v' u (by simpa[gp]using n)).1
           |cA=>have n:=(q b _ g).2;simp[gp]at n
          have cz:s.eL.length<=([]:a8).length+16:=(by simpa using O);have Q:=cx.Fy (key:=key) (bs:=[]) wC (by simp) cz h.eT rfl X.2;have S:=ca.b8 (key:=key) (bs:=[]) (J:=J) wC (by simp) cz h.eT X.1;have ao:=Dw (key:=key) (bs:=[]) (Jr:=s.rest m) wC (by simp) h.eT rfl;rw[Po]at S;rw[Kp]at Q;refine⟨_,(ik (s.rest m) (s.res m)).bD key,_,mv J1 key (kv (s.rest m) (s.rest m)),H,.own ai aq z b1 (b3 (by rw[z];rfl)) au O az aw rfl,?_⟩;have:=eP.bind (gd:=o.guard) (dst:=o.dst) (nf:=nf) (h.gU.mono ao) h.aq Q h.aG S (.inl z) Y Z;rw[z]at this⊢;exact this
        . cases H
      . cases A
    . cases A
theorem Kq:∀{args:List aQ} {p:Prop} {a:List V},hP env1 args=some (p,a)->lb env1 args=a.flatMap V.ga
 |[],p,a,h=>by simp[hP]at h;rw[h.2];rfl
 |x::xs,p,a,h=>by
  simp only[hP,br,bo]at h;obtain⟨⟨c,v0⟩,h1,⟨d,e⟩,b,_,rfl⟩:=h;have ih:=Kq b;grind[lb]
theorem M7{c:bf U}{x:bm U}{d:C}(h:cj N c x d):∀b,b∈x.ga->b∈d.ga:=by
 intro b a;cases h<;>simp only[bm.ga]at a⊢<;>first|exact a|(simp at a)
theorem Mi{e:bf U}:∀{xs:List (bm U)} {c:List C},ba (cj N e) xs c->∀b,b∈xs.flatMap bm.ga->b∈c.flatMap C.ga
 |[],[],_,b,a=>a
 |x::xs,d::c,.cons h1 f,b,a=>by
  simp only[eZ,hQ]at a⊢;rcases a with a|a
  . grind[M7]
  . exact .inr (Mi f b a)
theorem acW{e:bf U}{x:bG U}{d:V}(h:ca N e x d):∀b,b∈x.ga->b∈d.ga:=by
 intro b a;cases h with
 |c h=>exact M7 h b a
 |agg h=>exact Mi h b a
 |aY=>grind[bG.ga]
theorem Mj{e:bf U}:∀{xs:List (bG U)} {c:List V},ba (ca N e) xs c->∀b,b∈xs.flatMap bG.ga->b∈c.flatMap V.ga
 |[],[],_,b,a=>a
 |x::xs,d::c,.cons h1 f,b,a=>by
  simp only[eZ,hQ]at a⊢;rcases a with a|a
  . grind[acW]
  . exact .inr (Mj f b a)
theorem Mk{l:a8}{b:Nat}(h:l7 l b=true):b∈l:=by
 simp_all[l7]
theorem Hj {fo:fX U}(ad:fL P fo){o:cb}{f:Nat}{args:List aQ}(ah:o.op= .call f args)(h:eP key gl nf env J env1 J1 G)(I:o.guard=none\/∃t b y,o.guard=some (t,b)/\fm env t b=some y)(Z:oi gl o.guard o.dst=true)(ab:lu nf o.dst=true)
 (K:cE env G o.guard=true){k:bf U->bG U->Option R}{r:R}:∀{ss:List (cD U)},(∀s,s∈ss->s∈fo f)->wP xb (λe=>lK gl o.guard e args) env J key k ss=some r->
 ∃v v1 J' bq,k J' v=some r/\DStep xb P o key env1 J1 true v1 bq/\eP (key+16) (iN gl o.guard o.dst) nf (gE o.dst v env) J' (eu env1 o.dst true v1) bq (λi=>if o.dst=some i then true else G i)
 |[],_,g=>by grind[wP]
 |s::ss,ag,g=>by
  simp only[wP]at g;split at g
  . exact Hj ad ah h I Z ab K (λs hs=>ag s (by grind)) g
  . rename_i bs aa q;obtain⟨aK,a2,aL⟩:=ad f s (ag s (by simp));obtain⟨m,hres,F⟩:=rX.1 g;unfold SJ at q;split at q
    . grind
    . rename_i vs aR;split at q;split at q
      . grind
      . rename_i w;simp only[cC,dH]at w;obtain⟨_,av,H,aw,ax,ay⟩:=w;split at q
        . rename_i a b ao S;split at q
          . rename_i a4 aE;cases q;have bS:=y' av;have aC:=λb w=>ig (H b w).1;have ae:=c5 aw;have a5:=ig ax;have cz:=ig ay;obtain⟨p,L,b1,b2,b3⟩:=tE h.gU h.aq aR;have az:=zL bS S;obtain⟨aY,f1,af,ak⟩:=u2 (N:=key) bS az ao
            obtain⟨O,aM,a1,di⟩:=ak L b2.length (λi x d g Y=>by
             obtain⟨a0,h1,Q⟩:=b2.get g
             grind)
            obtain⟨aW,t1,t2⟩:=Ex bS h.eT S;have a3:=aO.fp aE;have ar:s.args aa=aY:=(by grind[cD.args]);have au:s.iC aa=gL 0 s.st b:=by grind[cD.iC]
            have W:=aL aa m hres O aW (by
             rw[ar,au,<-ae]
             exact ba.lE (by rw[af,aM,b2.length]) λi x d g Y=>di i x d g Y) (by grind)
            rw[aK,<-ae]at W;have aN:ba gm (L.map (V.bO bs)) O:=by
             grind[ba.lE]
            have aA:=eg.conv aN t1 W;split at F
            . rename_i c B T;simp only[cC]at B;split at F
              . rename_i aD;subst aD;have u:∀b x,a6 (s.rest m) b=some x->gp (s.rest m) x=true:=by
                 intro b x g;have a7:∀{l:bf U},a6 l b=some x->(b,x)∈l:=by
                  intro l;induction l with
                  |nil=>intro h;simp[a6]at h
                  |cons e r ih=>
                   obtain⟨a8,e⟩:=e;intro h;simp only[a6]at h;split at h
                   . simp_all
                   grind
                 have:=B.2;unfold I0 at this;grind
                have z:∀b x,a6 (s.rest m) b=some x->b<s.eL.length:=by
                 intro b x g;have:=(D2 g).2;omega
                have aB:eg P f (L.map (V.bO bs)) (fI bs J1 0 bs) bs.length (λaU aV aj=>aU=ik (s.rest m) (s.res m)/\aV=kv (s.rest m) (s.rest m)/\aj=s.eL.length):=by
                 refine eg.tidy aA ?_
                 rintro a9 s1 aZ ⟨rfl,aS,aT⟩
                 have aJ:=Mh aS B.1;subst aJ;refine⟨List.range s.eL.length,_,_,List.nodup_range,?_,?_,?_,rfl,rfl,by simp⟩
                 . unfold keeps;grind
                 . exact(zG z B.1).2
                 . intro b x g;rw[zR,bo]at g;obtain⟨M,C,rfl⟩:=g;obtain⟨h1,y,Q,D⟩:=aT b M C;have ai:=M6 D (u b M C);subst ai;have ht:=y9 (bs:=List.range s.eL.length) (i:=0) (j:=b) (r:=List.range s.eL.length) (by simp[h1]) Q;rw[hR]at ht;refine⟨_,ht,?_⟩;cases M with
                   |box cs=>
                    have n:=u b _ C;simp only[gp,dH]at n;exact .box (vR z n).2
                   |arr ty l=>exact .arr
                   |rows sz l=>have n:=u b _ C;simp[gp]at n
                   |set ks=>exact .same
                   |buf E s=>exact .same
                   |b7 E c=>have n:=u b _ C;exact .b7 (v' z (by simpa[gp]using n)).2
                   |cA=>have n:=u b _ C;simp[gp]at n
                have ap:=Du h.gU I;have aI:(kv (s.rest m) (s.rest m)).all (λx=>decide (x.1<bs.length+16))=true:=by
                 have aF:=B.2;unfold I0 at aF;have:∀{l:bf U},(l.all λp=>Nat.ble (p.1+1) (bs.length+16)&&gp (s.rest m) p.2)=true->(kv (s.rest m) l).all (λx=>decide (x.1<bs.length+16))=true:=by
                  intro l;induction l with
                  |nil=>intro _;rfl
                  |cons e r ih=>
                   obtain⟨b,x⟩:=e;intro h;simp only[rU,cC]at h;simp only[kv,rU,cC,dO];exact⟨by have:=ig h.1.1;omega,ih h.2⟩
                 grind
                have X:ca s.eL.length (s.rest m) (s.res m) (ik (s.rest m) (s.res m))/\cx s.eL.length (s.rest m) (kv (s.rest m) (s.rest m)):=by
                 refine⟨(zG z B.1).1,λb x g=>?_⟩;refine⟨z b x g,sE (s.rest m) x,by rw[zR,g];rfl,?_⟩;cases x with
                 |box cs=>
                  have n:=u b _ g;simp only[gp,dH]at n;exact .box (vR z n).1
                 |arr ty l=>exact .arr ty l
                 |rows sz l=>have n:=u b _ g;simp[gp]at n
                 |set ks=>exact .set ks
                 |buf E s=>exact .buf E s
                 |b7 E c=>have n:=u b _ g;exact .b7 (v' z (by simpa[gp]using n)).1
                 |cA=>have n:=u b _ g;simp[gp]at n
                have am:=cx.Fy (key:=key) (bs:=bs) bS aC cz h.eT T X.2;have an:=ca.b8 (key:=key) (bs:=bs) (J:=J) bS aC cz h.eT X.1;have al:=Dw (key:=key) (bs:=bs) (Jr:=s.rest m) bS aC h.eT T;have aH:∀b,b∈bs->∃x,aX J1 b=some x:=by
                 intro b w;have D:=(H b w).2.2;unfold hasB at D;split at D
                 . rename_i x g;obtain⟨_,y,ai,_⟩:=h.eT b x g;grind
                 . cases D
                have aP:∀b,b∈bs->b∈lb env1 args++xb:=by
                 intro b w;rw[Kq b1];have A:=(H b w).2.1;rw[iv]at A;rcases A with A|A
                 . exact B4 _ (Mj b2 b (Mk A))
                 . exact List.mem_append_right _ (Mk A)
                refine⟨_,(ik (s.rest m) (s.res m)).b8 (back bs key),_,_,F,.raw ah (by rw[ap,K]) rfl b1 (b3 K) bS aC aH aP cz aI aB rfl,?_⟩;have:=eP.bind (gd:=o.guard) (dst:=o.dst) (nf:=nf) (h.gU.mono al) h.aq am h.aG an I Z ab;simp_all
              . cases F
            . cases F
          . cases q
        . cases q
theorem G9 {fo:fX U}(S:fL P fo){o:cb}{f:Nat}{args:List aQ}(u:o.op= .call f args\/(o.guard=none/\∃x q,o.op= .iE x args/\x.get env1=some (q,.c (.fn f []))/\q))(h:eP key gl nf env J env1 J1 G)(E:o.guard=none\/∃t b y,o.guard=some (t,b)/\fm env t b=some y)(O:oi gl o.guard o.dst=true)(Q:lu nf o.dst=true)
 {g:Bool}(aq:g=cE env G o.guard){k:bG U->Option R}{r:R}:∀{ss:List (cD U)},(∀s,s∈ss->s∈fo f)->xi (λe=>lK gl o.guard e args) env g k ss=some r->
 ∃v v1,k v=some r/\DStep xb P o key env1 J1 g v1 J1/\eP (key+16) (iN gl o.guard o.dst) nf (gE o.dst v env) J (eu env1 o.dst g v1) J1 (λi=>if o.dst=some i then g else G i)
 |[],_,l=>by grind[xi]
 |s::ss,Y,l=>by
  simp only[xi]at l;split at l
  . exact G9 S u h E O Q aq (λs hs=>Y s (by grind)) l
  . rename_i aa A;unfold Ga at A;split at A
    . rename_i vs aD B;split at A
      . rename_i a H ai;rw[dH]at H;obtain⟨ao,ak,ap⟩:=S f s (Y s (by simp));obtain⟨p,C,b1,b2,b3⟩:=tE h.gU h.aq B;have ar:s.st=[]:=(by grind[isNil]);obtain⟨n,hres,F⟩:=rX.1 l;split at F
        . rename_i Z;obtain⟨av,aw⟩:=v8 (N:=key+16) (J:=J) Z;have K:=Du h.gU E;rw[<-aq]at K;have ah:eP (key+16) (iN gl o.guard o.dst) nf (gE o.dst (s.res n) env) J (eu env1 o.dst g (fh (s.res n))) J1 (λi=>if o.dst=some i then g else G i):=by
           have:=eP.bind (dst:=o.dst) (h.gU.mono (dw.more (by simp:key<=key+16))) h.aq (h.eT.mono (Nat.le_add_right key 16)) h.aG av E O Q;grind
          refine⟨s.res n,fh (s.res n),F,?_,ah⟩;have W:g=true->p/\V.aD.V.dI (lt 0) C=true/\(fh (s.res n)).aD (lt 0)=true/\eg P f C [] 0 (λax _ _=>ax=fh (s.res n)):=?_
          . rcases u with u|⟨T,x,q,u,l,an⟩
            . exact .call u K b1 W
            . have z:g=true:=by rw[aq,T];rfl
              exact .iE u T z l an ak b1 (W z)
          intro z;rw[ae z]at hres;obtain⟨az,f1,af,ad⟩:=u2 (N:=key) (Jc:=([]:bf U)) (wC) (λj b ay aC=>by grind) ai
          obtain⟨I,aM,ab,di⟩:=ad C b2.length (λi x d l m=>by
           obtain⟨w,h1,aA⟩:=b2.get l
           rw[m]at h1;cases h1;omega)
          have aB:aO.cells U.D s.ts aa=a:=aO.fp A;have aj:s.args aa=az:=by
           unfold cD.args;have:=f1 [];grind
          have L:s.iC aa=[]:=by unfold cD.iC;rw[ar];rfl
          have X:s.st.length=0:=by grind
          have M:=ap aa n hres I [] (by
           rw[aj,L,X]
           refine ba.lE (by rw[af,aM,b2.length]) λi x d l m=>di i x d l m) (by rw[L];intro b x l;grind[a6])
          rw[ao,X]at M;have au:ba gm C I:=by
           refine ba.lE aM.symm λi d w m al=>?_;have B:=ab i d w m al;obtain⟨x,l,ag⟩:=(b2.flip λ_ _ h=>h).get m;exact ahq (H x (fj l)) B ag
          refine⟨b3 (by grind),?_,aw _,?_⟩
          . refine tz λi d m=>?_;obtain⟨x,l,ag⟩:=(b2.flip (R':=λd x=>ca key J x d) λ_ _ h=>h).get m;exact ahr (H x (fj l)) ag
          . refine eg.conv au (λb ay l=>by simp[aX]at l) (M.mono λaE bq N' am=>?_);exact zF am.2.1 Z
        . cases F
      grind
    grind
where
 ahq {x:bG U} {d w:V} (hs:fQ x=true) (B:gm (d.bO []) w) (ag:ca key J x d):gm d w:=by
  have:=zF ag hs;grind[H6]
 ahr {x:bG U} {d:V} (hs:fQ x=true) (ag:ca key J x d):d.aD (lt 0)=true:=by
  have:=zF ag hs;grind[v8]
theorem Di {fo:fX U}(T:fL P fo){f:Nat}{I:kZ U}{cal:Env->List V->Prop}
 (Y:∀{env':bT U} {J2:bf U} {j:Env} {vs:List (bG U)},c4 key J2 G env' j->gP gl env' G->I env'=some vs->∃q,ba (ca key J2) vs q/\cal j q)
 (he:c4 key J G env env1)(aq:gP gl env G)(aI:cx key J J1){k:bT U->bf U->bG U->Option R}{r:R}:∀{ss:List (cD U)},(∀s,s∈ss->s∈fo f)->xj I env J key k ss=some r->
 ∃env' J2 j bq q,Conv kk key env1 J1 key j bq/\c4 key J2 G env' j/\gP gl env' G/\(∀t b,fm env' t b=fm env t b)/\cal j q/\hj P f=true/\
  Pn P f q bq key j (λab s1=>∃z v,k env' z v=some r/\c4 (key+16) z G env' j/\cx (key+16) z s1/\ca (key+16) z v ab)
 |[],_,m=>by grind[xj]
 |s::ss,Z,m=>by
  simp only[xj]at m;split at m
  . exact Di T Y he aq aI (λs hs=>Z s (by grind)) m
  . rename_i env' J2 bs h g;obtain⟨az,ao,aA⟩:=T f s (Z s (by simp));obtain⟨aJ,hres,y⟩:=rX.1 m;unfold SI at g;split at g
    . grind
    . split at g;split at g
      . cases g
      . rename_i aS aQ W;split at g
        . cases g
        . rename_i vs aD;split at g
          . cases g
          . rename_i u;simp only[cC,dH]at u;obtain⟨aj,ak,al,am⟩:=u;split at g
            . rename_i a b ah L;split at g
              . rename_i aa ax;cases g;have bS:=y' aj;have aC:∀b,b∈bs->b<key:=λb u=>ig (ak b u);have F:=c5 al;have ay:=ig am;obtain⟨j,bq,av,E,A,X⟩:=zY (kk:=kk) (gl:=gl) W he aI;obtain⟨q,b2,ap⟩:=Y E (X aq) aD;have ar:=zL bS L;obtain⟨aP,f1,af,ae⟩:=u2 (N:=key) bS ar ah
                obtain⟨H,aM,aR,di⟩:=ae q b2.length (λi x d m C=>by
                 obtain⟨ad,h1,ag⟩:=b2.get m
                 grind)
                obtain⟨aK,t1,t2⟩:=Ex bS A L;have O:aO.cells U.D s.ts h=a++b:=aO.fp ax;have ai:s.args h=aP:=by unfold cD.args;rw[O,f1]
                have K:s.iC h=gL 0 s.st b:=by unfold cD.iC;rw[O,f1]
                have Q:=aA h aJ hres H aK (by
                 rw[ai,K,<-F]
                 exact ba.lE (by rw[af,aM,b2.length]) λi x d m C=>di i x d m C) (by rw[K,<-F];exact t2)
                rw[az,<-F]at Q;have aB:ba gm (q.map (V.bO bs)) H:=by
                 refine ba.lE (by simp[aM]) λi d ad C aT=>?_;grind
                have au:=eg.conv aB t1 Q;split at y
                . cases y
                . rename_i c M;split at y
                  . rename_i aw;subst aw;have cz:s.eL.length<=bs.length+16:=ay;refine⟨env',J2,j,bq,q,av,E,X aq,λt b=>Qv W,ap,ao,?_⟩;intro aE nt φ S a w R an aN aF;refine(hU.raw (n:=lt key) (key:=key) bS aC au ?_ (λb u=>by simp[lt];exact aC b u) aE nt φ S j a w R (λb h1 _=>H2 h1) an aN aF)
                    rintro ab s1 N' ⟨rfl,aG,aH⟩
                    refine⟨cz,_,_,y,E.mono (Dw bS aC A M),cx.Fy bS aC cz A M aH,ca.b8 bS aC cz A aG⟩
                  . cases y
              . cases g
            . cases g
where
 Qw {env:bT U} {b0:Nat} {ty:aL} {l:List (ty.den U.D)} {t:Nat} {b:Bool}:fm (sf b0 (⟨.slice ty,l⟩:Cell U.D) env) t b=fm env t b:=by
  unfold fm;rw[DZ];cases a6 env t with
  |none=>rfl
  |some v=>
   cases v with
   |c x=>
    cases x with
    |arr B=>grind[bG.cp,bm.cp]
    |cG B aV i o=>grind[bG.cp,bm.cp]
    |pre B h=>grind[bG.cp,bm.cp]
    |dP B aU h=>grind[bG.cp,bm.cp]
    |_=>rfl
   |agg cs=>rfl
   |aY vs=>rfl
 Qv {l:List (Nat×aL)} {env env':bT U} {J J':bf U} {t:Nat} {b:Bool} (h:kX l env J=some (env',J')):fm env' t b=fm env t b:=by
  induction l generalizing env J with
  |nil=>grind[kX]
  |cons p l ih=>
   simp only[kX]at h;split at h
   . rename_i e s h1;have ag:fm e t b=fm env t b:=by
      unfold A5 at h1;split at h1
      . split at h1
        . cases h1;exact Qw
        grind
      . split at h1
        . cases h1;exact Qw
        grind
      grind
     grind
   grind
theorem Kr{fo:fX U}(w:fL P fo)(h:eP key gl nf env J env1 J1 G){k:eB->j0->bT U->bf U->Option R}{r:R}(a:si fo (some xb) o key gl nf env J k=some r):
 ∃g v1 bq O V env' J' W,DStep xb P o key env1 J1 g v1 bq/\k O V env' J'=some r/\eP (key+16) O V env' J' (eu env1 o.dst g v1) bq W:=by
 unfold si at a;split at a
 . grind
 . rename_i Q;simp only[cC]at Q;obtain⟨j,m⟩:=Q;split at a
   . rename_i bw;split at a
     . rename_i A z;have Y:=Lg h.aq h.aG bw;obtain⟨h1,i⟩:=Dx (P:=P) h (Ef z) Y j m (I1 (U:=U) (N:=key+16) (J:=J));exact⟨_,_,_,_,_,_,_,_,h1,a,i⟩
     grind
   . split at a
     . rename_i f args p;split at a
       . split at a
         . rename_i g gd aq e;have u:o.guard=none\/∃t b y,o.guard=some (t,b)/\fm env t b=some y:=(by grind[Ef]);have n:g=cE env G o.guard:=Dg h.aq aq;split at a
           . obtain⟨v,v1,J',bq,h1,i,l⟩:=Hj (fo:=fo) w p h u j m (by grind) (λs hs=>hs) a;exact⟨_,_,_,_,_,_,_,_,i,h1,l⟩
           . have I:cE env G o.guard=false:=by grind
             have C:eP key gl (gd::nf) env J env1 J1 G:=⟨h.gU,h.aq,h.eT,λA z=>by
              rcases eK.1 z with rfl|L
              . grind
              . exact h.aG A L⟩
             have H:lu (gd::nf) o.dst=true:=by
              cases F:o.dst with
              |none=>rfl
              |some d=>
               simp_all[lu,rU,cC,oi]
             obtain⟨h1,i⟩:=Dx (P:=P) C u I j H (I1 (U:=U) (N:=key+16) (J:=J));exact⟨_,_,_,_,_,_,_,_,h1,a,i⟩
         grind
       unfold Io at a;split at a
       . rename_i e;simp only at a;split at a
         case h_2=>
          obtain⟨v,v1,J',bq,h1,i,l⟩:=Hj (fo:=fo) w p h (.inl e) j m (by rw[e];rfl) (λs hs=>hs) a;grind
         rw[e]at a;obtain⟨v,v1,J',bq,h1,i,l⟩:=JN (fo:=fo) w p h e j m (k:=λJ v=>k (iN gl o.guard o.dst) nf (gE o.dst v env) J) (λs hs=>hs) (by rw[e];omega);exact⟨_,_,_,_,_,_,_,_,i,h1,l⟩
       . rename_i gd e;split at a
         . rename_i g aq;rw[e]at a aq;obtain⟨v,v1,h1,i,l⟩:=G9 (fo:=fo) w (.inl p) h (by grind[Ef]) j m (g:=g) (by rw[e];exact Dg h.aq aq) (λs hs=>hs) (by rw[e];omega);rw[e]at l;exact⟨_,_,_,_,_,_,_,_,i,h1,l⟩
         grind
     . rename_i x args p;split at a
       . grind
       . rename_i aa f F e Z;obtain⟨q,v1,a1,a2,a3⟩:=cr h.gU h.aq Z;have:=a2.Fx;subst this;obtain⟨v,v1,h1,i,l⟩:=G9 (xb:=xb) (fo:=fo) w (.inr ⟨e,x,q,p,a1,a3 rfl⟩) h (.inl e) j m (g:=true) (by rw[e];rfl) (λs hs=>hs) (by rw[e];omega);rw[e]at l;exact⟨_,_,_,_,_,_,_,_,i,h1,l⟩
       grind
     . split at a
       . cases a
       . rename_i c v J' B;split at a
         . rename_i e;split at a
           . rename_i D;rw[e]at B;obtain⟨v1,bq,h1,i⟩:=(M5 (P:=P) (o:=o) h (by rw[e];exact B) (.inl e) j m).1 (by rw[e];rfl) D;rw[e]at i;exact⟨_,_,_,_,_,_,_,_,h1,a,i⟩
           . cases a
         . rename_i gd e;split at a
           . cases a
           . rename_i g aq;have u:o.guard=none\/∃t b y,o.guard=some (t,b)/\fm env t b=some y:=by rw[e];exact Ef aq
             have n:g=cE env G o.guard:=by rw[e];exact Dg h.aq aq
             have M:=M5 (P:=P) (o:=o) (xb:=xb) h B u j m;split at a
             . rename_i T;split at a
               . rename_i E;cases S:g with
                 |true=>
                  rw[S]at E n;simp at E;obtain⟨v1,bq,h1,i⟩:=M.1 n.symm E;have X:J'=J:=(K7 h.gU h.aq h.eT B).ahp T;rw[X]at i;exact⟨_,_,_,_,_,_,_,_,h1,a,i⟩
                 |false=>
                  rw[S]at n;obtain⟨v1,h1,i⟩:=M.2 n.symm T;exact⟨_,_,_,_,_,_,_,_,h1,a,i⟩
               . cases a
             . split at a
               . rename_i K;split at a
                 . rename_i D;obtain⟨v1,bq,h1,i⟩:=M.1 (by rw[<-n];exact K) D;exact⟨_,_,_,_,_,_,_,_,h1,a,i⟩
                 . cases a
               . rename_i K;have I:cE env G o.guard=false:=by rw[<-n];simpa using K
                 have C:eP key gl (gd::nf) env J env1 J1 G:=⟨h.gU,h.aq,h.eT,λA z=>by
                  rcases eK.1 z with rfl|L
                  . grind
                  . exact h.aG A L⟩
                 have H:lu (gd::nf) o.dst=true:=by
                  cases F:o.dst with
                  |none=>rfl
                  |some d=>
                   rw[F]at m j;rw[e]at j;simp only[lu,rU,cC];simp only[lu]at m;simp only[oi,cC]at j;grind
                 obtain⟨h1,i⟩:=Dx (P:=P) C u I j H (I1 (U:=U) (N:=key+16) (J:=J));exact⟨_,_,_,_,_,_,_,_,h1,a,i⟩
theorem Jl{fo:fX U}(M:fL P fo)(h:eP key gl nf env J env1 J1 G){k:eB->j0->bT U->bf U->Option R}{r:R}(d:si fo none o key gl nf env J k=some r)
 (bC:∀D W env' J' n bq ae,k D W env' J'=some r->eP (key+16) D W env' J' n bq ae->K n bq):
 ∃fR af,Conv kk key env1 J1 key fR af/\u3 P o key fR af K:=by
 by_cases i:si fo (some []) o key gl nf env J k=some r
 . obtain⟨g,v1,bq,D,W,env',J',ae,h1,am,an⟩:=Kr M h i;exact⟨env1,J1,Conv.refl,.inl (h1.hf (bC _ _ _ _ _ _ _ am an))⟩
 . unfold si at d i;split at d
   . grind
   . rename_i L;rw[L]at i;simp only[cC]at L;obtain⟨z,ah⟩:=L;split at d
     . grind
     . rename_i bw;rw[bw]at i;simp only at i;split at d
       . rename_i f args j;rw[j]at i;simp only at i;split at d
         . rename_i Q;rw[Q]at i;exact absurd d i
         rename_i Q;rw[Q]at i;unfold Io at d i;split at d
         . rename_i u;rw[u]at d;obtain⟨env',J2,n,bq,l,B,aj,C,ak,⟨p,N,O⟩,ag,E⟩:=Di (kk:=kk) (P:=P) M (f:=f) (cal:=λe vs=>∃p,hP e args=some (p,vs)/\p)
            (λhe aq y=>by
             obtain⟨p,l,b1,b2,b3⟩:=tE he aq y
             exact⟨l,b2,p,b1,b3 rfl⟩) h.gU h.aq h.eT (λs hs=>hs) d
           refine⟨n,bq,B,.inr ⟨by rw[u];rfl,f,l,.inl ⟨args,p,j,N,O⟩,?_⟩⟩;intro aE nt φ S a w F I ab T;refine(E aE nt φ S a w F I ab T).mono ?_
           rintro e w' ⟨v,aa,ad,bR,s1,rfl,⟨ai,v3,k1,k2,k3,k4⟩,X,Y,Z⟩
           refine⟨v,aa,ad,bR,s1,rfl,?_,X,Y,Z⟩
           have H:=eP.bind (gd:=none) (dst:=o.dst) (nf:=nf) k2 C k3 (λg aq=>by
            obtain⟨t,b⟩:=g;have h0:=h.aG _ aq;simp only[cE]at h0⊢
            grind) k4 (.inl rfl) (by rw[u]at z;exact z) ah
           exact bC _ _ _ _ _ _ _ k1 H
         grind
       . rename_i x args j;split at d
         . rename_i f caps ay u az;obtain⟨env',J2,n,bq,l,B,aj,C,ak,⟨q,p,m,A,av,aw,N,O,au⟩,ag,E⟩:=Di (kk:=kk) (P:=P) M (f:=f) (cal:=λe vs=>∃q p m A,x.get e=some (q,.c (.fn f m))/\q/\hP e args=some (p,A)/\p/\vs=A++m.map λb=>V.c (.ptr b 0))
            (λhe aq y=>by
             split at y
             . rename_i ax m aA aM al;split at y
               . rename_i ao;have:=c5 ao;subst this;cases y;obtain⟨q,v1,a1,a2,a3⟩:=cr he aq aM;have:=a2.Fx;subst this;obtain⟨p,l,b1,b2,b3⟩:=tE he aq al;refine⟨l++m.map λb=>V.c (.ptr b 0),b2.append ?_,q,p,m,l,a1,a3 rfl,b1,b3 rfl,rfl⟩;exact ba.map_map (ba.self (λb=>.c (.ptr b 0)) _)
               . cases y
             grind) h.gU h.aq h.eT (λs hs=>hs) d
           refine⟨n,bq,B,.inr ⟨by rw[u];rfl,f,l,.inr ⟨x,args,q,p,m,A,j,av,aw,N,O,ag,au⟩,?_⟩⟩;intro aE nt φ S a w F I ab T;refine(E aE nt φ S a w F I ab T).mono ?_
           rintro e w' ⟨v,aa,ad,bR,s1,rfl,⟨ai,v3,k1,k2,k3,k4⟩,X,Y,Z⟩
           refine⟨v,aa,ad,bR,s1,rfl,?_,X,Y,Z⟩
           have H:=eP.bind (gd:=none) (dst:=o.dst) (nf:=nf) k2 C k3 (λg aq=>by
            obtain⟨t,b⟩:=g;have h0:=h.aG _ aq;simp only[cE]at h0⊢
            grind) k4 (.inl rfl) (by rw[u]at z;exact z) ah
           exact bC _ _ _ _ _ _ _ k1 H
         . contradiction
         . cases d
       . rename_i op ap ar;exfalso;refine i ?_;split
         . rename_i f args j;exact absurd j (ap f args)
         . rename_i x args j;exact absurd j (ar x args)
         . exact d
theorem aaf{l:List (Nat×aL)}{p:bT U×bf U}(h:A6 l env J=some p):∃l,kX l env J=some p:=by
 grind[A6]
theorem aad{p:bT U×bf U}(h:F8 gl o env J=some p):∃l,kX l env J=some p:=by
 grind[F8,aaf]
theorem XT{fo:fX U}(e:fL P fo)(h:eP key gl nf env J env1 J1 G){k:eB->j0->bT U->bf U->Option R}{r:R}(a:Ee fo none o key gl nf env J k=some r)
 (bC:∀d f env' J' c bq i,k d f env' J'=some r->eP (key+16) d f env' J' c bq i->K c bq):
 ∃fR b,Conv kk key env1 J1 key fR b/\u3 P o key fR b K:=by
 simp[Ee]at a;split at a
 . exact Jl e h a bC
 . rename_i p t;obtain⟨l,af⟩:=aad t;obtain⟨aM,s1,j,m,n,q⟩:=zY af h.gU h.eT
   obtain⟨s,u,d1,d2⟩:=Jl e ⟨m,q h.aq,n,λg aq=>by
    have h0:=h.aG _ aq
    grind[cE,Di.Qv]⟩ a bC
   exact⟨s,u,j.trans d1,d2⟩
end
end
section
open Go
variable {xb:a8}
variable {U:cL}{R:Type}
def jZ(env:bT U):aQ->Option a8
 |.const (.c (.t _))=>some []
 |.const (.c .az)=>some []
 |.const (.agg _)=>some []
 |.const _=>none
 |.tmp k=>match a6 env k with
  |some (.c (.ptr b _))=>some [b]
  |some (.c (.cG b _ _ _))=>some [b]
  |some (.c (.arr b))=>some [b]
  |some (.c (.sub b _ _))=>some [b]
  |some (.c (.pre b _))=>some [b]
  |some (.c (.dP b _ _))=>some [b]
  |some (.c (.mp b))=>some [b]
  |some (.c (.ey b))=>some [b]
  |some (.c (.cM b))=>some [b]
  |some (.c .dead)=>none
  |some _=>some []
  |none=>none
def zO:bm U->Bool
 |.dead=>true
 |_=>false
def zP:bG U->Option a8
 |.c x=>match zO x with
  |true=>none
  |false=>some x.ga
 |.agg cs=>match cs.any zO with
  |true=>none
  |false=>some (cs.flatMap bm.ga)
 |.aY _=>some []
def sd(env:bT U):List aQ->Option a8
 |[]=>some []
 |.const v::r=>match sd env r with
  |some l=>some (v.ga++l)
  |none=>none
 |.tmp k::r=>match a6 env k with
  |some v=>match zP v,sd env r with
   |some a,some l=>some (a++l)
   |_,_=>none
  |none=>none
def IG(xb:a8)(o:cP)(env:bT U)(key:Nat):Option a8:=
 match o with
 |.alloc _|.allocA _|.box _|.bslice .. |.mkset=>some [key]
 |.allocS .. =>some [key,key+1]
 |.lkset x _=>jZ env x
 |.upset x _=>jZ env x
 |.appendB _ _ x _=>match jZ env x with
  |some a=>some (key::a)
  |none=>none
 |.ustr _ x _=>jZ env x
 |.call _ args=>match sd env args with
  |some l=>some ((List.range 16).map (key+·)++(l++xb))
  |none=>none
 |.load _ _ x=>jZ env x
 |.b2s x=>jZ env x
 |.store _ x _=>jZ env x
 |.append _ _ x y=>match jZ env x,jZ env y with
  |some a,some b=>some (key::(a++b))
  |_,_=>none
 |_=>some []
def ko(xb:a8)(o:cP)(env:bT U)(key b:Nat):Option Bool:=
 match o with
 |.alloc _|.allocA _|.box _|.bslice .. |.mkset=>some (Nat.beq b key)
 |.allocS .. =>some (Nat.beq b key||Nat.beq b (key+1))
 |.upset x _=>match jZ env x with
  |some l=>some (l7 l b)
  |none=>none
 |.appendB _ _ x _=>match jZ env x with
  |some l=>some (Nat.beq b key||l7 l b)
  |none=>none
 |.ustr _ x _=>match jZ env x with
  |some l=>some (l7 l b)
  |none=>none
 |.store _ x _=>match jZ env x with
  |some l=>some (l7 l b)
  |none=>none
 |.append _ _ x _=>match jZ env x with
  |some l=>some (Nat.beq b key||l7 l b)
  |none=>none
 |.call _ args=>match sd env args with
  |some l=>some ((Nat.ble key b&&Nat.ble (b+1) (key+16))||l7 (l++xb) b)
  |none=>none
 |_=>some false
def A2(xb:a8)(bb:List cb)(env:bT U)(N:Nat):List (Nat×Nat)->Bool
 |[]=>true
 |(i,j)::r=>(match qH bb i,qH bb j with
  |some x,some y=>match IG xb y.op env (N+16*j)with
   |some l=>l.all λb=>match ko xb x.op env (N+16*i) b with
    |some w=>!w
    |none=>false
   |none=>false
  |_,_=>true)&&A2 xb bb env N r
variable{o:cP}{gl:eB}{gg:List (Nat×Nat)}{Q:Exit->Env->a'->Nat->Prop}
section
variable {P:Program}{kk N key:Nat}{J:bf U}{J1:a'}{env:bT U}{env1:Env}{G:Nat->Bool}
theorem rb(he:c4 N J G env env1){x:aQ}{l:a8}(h:jZ env x=some l):ed env1 x=l:=by
 unfold jZ at h;split at h
 . cases h;rfl
 . cases h;rfl
 . cases h;rfl
 . grind
 . rename_i k;split at h
   all_goals (try (cases h;done))
   . rename_i b o d;obtain⟨v1,h1,a⟩:=he k _ d;have:=a.hT;grind[ed,aQ.get]
   . rename_i b t i o d;obtain⟨v1,h1,a⟩:=he k _ d;have:=a.jd;grind[ed,aQ.get]
   . rename_i b d;obtain⟨v1,h1,a⟩:=he k _ d;obtain⟨sz,n,rfl,_⟩:=a.hd;grind[ed,aQ.get]
   . rename_i b f len d;obtain⟨v1,h1,a⟩:=he k _ d;have:v1= .c (.fJ b 1 f len):=by cases a with|c h=>cases h;rfl
     grind[ed,aQ.get]
   . rename_i b e d;obtain⟨v1,h1,a⟩:=he k _ d;have:∃sz,v1= .c (.arr b sz 0 e):=by cases a with|c h=>cases h;simp
     grind[ed,aQ.get]
   . rename_i b f e d;obtain⟨v1,h1,a⟩:=he k _ d;have:∃sz,v1= .c (.fJ b sz f e):=by cases a with|c h=>cases h;simp
     grind[ed,aQ.get]
   . rename_i b d;obtain⟨v1,h1,a⟩:=he k _ d;have:=a.FI;grind[ed,aQ.get]
   . rename_i b d;obtain⟨v1,h1,a⟩:=he k _ d;have:=a.S0;grind[ed,aQ.get]
   . rename_i b d;obtain⟨v1,h1,a⟩:=he k _ d;obtain⟨n,rfl,_⟩:=a.Bm;grind[ed,aQ.get]
   . rename_i v c' j m fA u g q r s p d;cases h;obtain⟨v1,h1,a⟩:=he k _ d;unfold ed;simp only[aQ.get,h1,jV];cases a with
     |c a=>
      cases a<;>grind
     |agg a=>rfl
     |aY=>rfl
theorem wa{l:a8}{b:Nat}:l7 l b=l.contains b:=by
 unfold l7;rw[Bool.eq_iff_iff];simp
theorem Ks{x:bm U}{d:C}(h:cj N J x d)(a:zO x=false):d.ga=x.ga:=by
 cases h<;>first|rfl|(simp[zO]at a)
theorem Jm:∀{xs:List (bm U)} {a:List C},ba (cj N J) xs a->xs.any zO=false->a.flatMap C.ga=xs.flatMap bm.ga
 |[],[],_,_=>rfl
 |x::xs,d::a,.cons h1 c,b=>by
  simp only[List.any_cons,yy]at b;simp;rw[Ks h1 b.1,Jm c b.2]
theorem XU{v:bG U}{v1:V}{l:a8}(h:ca N J v v1)(af:zP v=some l):v1.ga=l:=by
 cases h with
 |c h=>
  simp[zP]at af;split at af
  . grind
  . rename_i a;cases af;exact Ks h a
 |agg h=>
  simp[zP]at af;split at af
  . grind
  . rename_i a;cases af;exact Jm h a
 |aY=>simp only[zP,dp]at af;rw[<-af];rfl
theorem DI(he:c4 N J G env env1):∀{args:List aQ} {l:a8},sd env args=some l->lb env1 args=l
 |[],l,h=>by simp[sd]at h;subst h;rfl
 |.const v::r,l,h=>by
  simp[sd]at h;split at h
  . rename_i d b;cases h;have ih:=DI he b;simp[lb]at ih⊢;rw[ih];rfl
  grind
 |.tmp k::r,l,h=>by
  simp only[sd]at h;split at h
  . rename_i v c;split at h
    . rename_i a d f b;have ih:=DI he b;obtain⟨v1,h1,e⟩:=he k v c;grind[lb,aQ.get,XU]
    grind
  grind
theorem ZB(he:c4 N J G env env1){l:a8}(h:IG xb o env key=some l):ep xb o env1 key=l:=by
 cases o<;>simp[IG,ep]at h⊢<;>first|exact h|exact rb he h|skip
 . grind[rb]
 . grind[rb]
 grind[DI]
theorem beq_eq(a b:Nat):(a==b)=Nat.beq a b:=by
 grind[c5,iG]
theorem ZC(he:c4 N J G env env1){b:Nat}{w:Bool}(h:ko xb o env key b=some w):cJ xb o env1 key b=w:=by
 cases o with
 |alloc cs=>simp[ko]at h;rw[<-h];exact beq_eq _ _
 |allocA cs=>simp[ko]at h;rw[<-h];exact beq_eq _ _
 |box x=>simp[ko]at h;rw[<-h];simp only[cJ];exact beq_eq _ _
 |bslice a c d e=>simp only[ko,dp]at h;rw[<-h];simp only[cJ];exact beq_eq _ _
 |store n x y=>
  simp only[ko]at h;split at h
  . rename_i l af;cases h;simp only[cJ];rw[rb he af,wa]
  . cases h
 |append sz by' x y=>
  simp only[ko]at h;split at h
  . rename_i l af;cases h;simp only[cJ];rw[rb he af,wa,beq_eq]
  . cases h
 |mkset=>grind[ko,cJ,beq_eq]
 |allocS e e8=>grind[ko,cJ,beq_eq]
 |upset x y=>
  simp only[ko]at h;split at h
  . rename_i l af;cases h;simp only[cJ];rw[rb he af,wa]
  . cases h
 |ustr e x y=>
  grind[ko,cJ,rb,wa]
 |appendB e by' x y=>
  grind[ko,cJ,rb,wa,beq_eq]
 |call f args=>
  simp only[ko]at h;split at h
  . rename_i l af;cases h;simp only[cJ];rw[DI he af,wa]
    congr 1
    rw[Bool.eq_iff_iff];simp only[cC,dO,Nat.ble_eq];rfl
  grind
 |_=>simp only[ko,dp]at h;rw[<-h];rfl
theorem Hk(he:c4 N J G env env1){bb:List cb}{a:Nat}:∀{gg:List (Nat×Nat)},A2 xb bb env a gg=true->kx xb bb env1 a gg=true
 |[],_=>rfl
 |(i,j)::r,h=>by
  simp[A2]at h;simp[kx];refine⟨?_,Hk he h.2⟩;grind[D1,ZB,ZC]
theorem Gt{fo:fX U}(e:fL P fo){k:eB->bT U->bf U->Option R}{r:R}:∀{l:List cb} {key:Nat} {gl:eB} {nf:j0} {env:bT U} {J:bf U} {env1:Env} {J1:a'} {G:Nat->Bool} {K:Env->a'->Prop},
 eP key gl nf env J env1 J1 G->rM fo none l key gl nf env J k=some r->
 (∀b f env' J' a bq d,k b env' J'=some r->eP (key+16*l.length) b f env' J' a bq d->K a bq)->sw P kk l key env1 J1 K
 |[],key,gl,nf,env,J,env1,J1,G,K,h,c,bC=>bC _ _ _ _ _ _ _ c h
 |o::l,key,gl,nf,env,J,env1,J1,G,K,h,c,bC=>by
  refine XT e h c λb f env' J' a bq d h1 j=>?_;refine Gt e j h1 λq n i p sH t g m s=>bC _ n i p _ _ g m ?_;grind
theorem HH{fo:fX U}(e:fL P fo){k:eB->bT U->bf U->Option R}{r:R}:∀{l:List cb} {key:Nat} {gl:eB} {nf:j0} {env:bT U} {J:bf U} {env1:Env} {J1:a'} {G:Nat->Bool} {K:Env->a'->Prop},
 eP key gl nf env J env1 J1 G->rM fo (some xb) l key gl nf env J k=some r->
 (∀b f env' J' d bq c,k b env' J'=some r->eP (key+16*l.length) b f env' J' d bq c->K d bq)->xA xb P l key env1 J1 K
 |[],key,gl,nf,env,J,env1,J1,G,K,h,a,bC=>bC _ _ _ _ _ _ _ a h
 |o::l,key,gl,nf,env,J,env1,J1,G,K,h,a,bC=>by
  simp[rM]at a;obtain⟨g,v1,bq,b,f,env',J',c,h1,m,n⟩:=Kr e h (by simpa[Ee]using a);refine⟨g,v1,bq,h1,HH e n m λt q j s sH u i p bc=>bC _ q j s _ _ i p ?_⟩;grind
theorem H8:∀{env:bT U} {k:Nat} {v:bG U},a6 (clean gl env) k=some v->a6 env k=some v/\BR gl k=false
 |[],k,v,h=>by grind[clean,a6]
 |(i,w)::r,k,v,h=>by
  simp[clean]at h;split at h
  . obtain⟨h1,b⟩:=H8 h;grind[a6,c5]
  . simp[a6]at h⊢;cases a:Nat.beq i k with
    |true=>simp_all
    |false=>rw[a]at h;exact H8 h
theorem aag{k:Nat}(h:BR gl k=false):a6 gl k=none:=by
 induction gl with
 |nil=>rfl
 |cons e r ih=>
  grind[BR,a6]
theorem eP.clean{nf:j0}(h:eP key gl nf env J env1 J1 G):c4 key J (λ_=>true) (zN gl env) env1:=by
 intro k v a;have:a6 env k=some v/\G k=true:=by
  unfold zN at a;split at a
  . exact⟨a,h.aq.free k rfl⟩
  . obtain⟨h1,c⟩:=H8 a;exact⟨h1,h.aq.free k (aag c)⟩
 obtain⟨v1,h1,c⟩:=h.gU k v this.1;grind
theorem eP.begin(he:c4 key J (λ_=>true) env env1)(aI:cx key J J1):eP key [] [] env J env1 J1 (λ_=>true):=
 ⟨he,⟨λ_ _=>rfl,λk t b h=>by grind[a6]⟩,aI,λ_ h=>by grind⟩
end
structure jG where
 e:Exit
 bD:Shape
 own:List (Pos×aL)
 us:List aL
def eE(U:cL):List jG->Type
 |[]=>Empty
 |[a]=>aO U.D a.us
 |a::b::r=>aO U.D a.us ⊕ eE U (b::r)
structure hc (U:cL) where
 bD:Shape
 own:List (Pos×aL)
 ts:List aL
 outs:List jG
 F:aO U.D ts->Option (eE U outs)
def BM:Exit->Exit->Bool
 |.normal,.normal=>true
 |.ret,.ret=>true
 |.exit i,.exit j=>Nat.beq i j
 |_,_=>false
theorem Li{a b:Exit}(h:BM a b=true):a=b:=by
 cases a<;>cases b<;>simp[BM]at h<;>try rfl
 grind
abbrev uW(U:cL)(R:Type):=Exit->bT U->bf U->Nat->Option R
def h7:(outs:List jG)->eE U outs->Exit×bT U×bf U×Nat
 |[],o=>Empty.elim o
 |[a],h=>(a.e,(hr U a.bD (aO.cells U.D a.us h)).1,(hr U a.bD (aO.cells U.D a.us h)).2,a.bD.st.length)
 |a::b::r,.inl h=>(a.e,(hr U a.bD (aO.cells U.D a.us h)).1,(hr U a.bD (aO.cells U.D a.us h)).2,a.bD.st.length)
 |a::b::r,.inr o=>h7 (b::r) o
def ah0{α c:Type}(o:α ⊕ c)(f:α->Option R)(g:c->Option R):Option R:=
 match o with
 |.inl a=>f a
 |.inr b=>g b
def ain(k:uW U R)(a:jG):(r:List jG)->(eE U r->Option R)->eE U (a::r)->Option R
 |[],_=>λh=>k a.e (hr U a.bD (aO.cells U.D a.us h)).1 (hr U a.bD (aO.cells U.D a.us h)).2 a.bD.st.length
 |_::_,f=>λo=>ah0 o (λh=>k a.e (hr U a.bD (aO.cells U.D a.us h)).1 (hr U a.bD (aO.cells U.D a.us h)).2 a.bD.st.length) f
def Iz(k:uW U R):(outs:List jG)->eE U outs->Option R
 |[]=>λo=>Empty.elim o
 |a::r=>ain k a r (Iz k r)
theorem M8(k:uW U R):∀{outs:List jG} {o:eE U outs},Iz k outs o=k (h7 outs o).1 (h7 outs o).2.1 (h7 outs o).2.2.1 (h7 outs o).2.2.2
 |[],o=>Empty.elim o
 |[a],h=>rfl
 |a::b::r,.inl h=>rfl
 |a::b::r,.inr o=>M8 k (outs:=b::r)
def r4(kk:Nat):(outs:List jG)->Exit->bT U->bf U->Nat->Option (eE U outs)
 |[],_,_,_,_=>none
 |[a],e,env,J,N=>match BM e a.e with
  |true=>sg kk a.own a.bD a.us env J N
  |false=>none
 |a::b::r,e,env,J,N=>match BM e a.e with
  |true=>match sg (U:=U) kk a.own a.bD a.us env J N with
   |some h=>some (.inl h)
   |none=>none
  |false=>match r4 kk (b::r) e env J N with
   |some o=>some (.inr o)
   |none=>none
abbrev k'(U:cL):=Nat->Option (hc U)
def gq:dA->Nat
 |.seq a b=>gq a+gq b
 |.cond _ a b=>gq a+gq b
 |.block _ b=>gq b
 |.loop b=>gq b+1
 |_=>0
def ahd(x:Bool)(a b:Option R):Option R:=if x then a else b
def bm.inner:kr->Bool
 |.ptr .. |.arr _=>true
 |_=>false
def adS:fN->Bool
 |.box cs=>cs.any bm.inner
 |_=>false
def Qz(fo:fX U)(J:bf U)(ops:List cb):a8:=
 match ops.any λo=>match o.op with
  |.call f _=>(fo f).any λs=>s.st.any adS
  |_=>false with
 |true=>J.map Prod.fst
 |false=>[]
def H9(ops:List cb)(gg:List (Nat×Nat)):Option (List cb×cb):=
 match Ed ops.length gg,ops.getLast? with
 |true,some o=>match o.op,o.guard with
  |.call ..,none=>some (ops.dropLast,o)
  |_,_=>none
 |_,_=>none
theorem XV{ops:List cb}{init:List cb}{last:cb}(h:H9 ops gg=some (init,last)):ops=init++[last]/\Ed (init.length+1) gg=true:=by
 unfold H9 at h;split at h
 . grind[List.getLast?_eq_some_iff]
 grind
def lJ(fo:fX U)(d:k' U)(kk:Nat):dA->Nat->bT U->bf U->Nat->uW U R->Option R
 |.skip,_,env,J,N,k=>k .normal env J N
 |.ret,_,env,J,N,k=>k .ret env J N
 |.exit i,_,env,J,N,k=>k (.exit i) env J N
 |.region ops,_,env,J,N,k=>rM fo none ops N [] [] env J λgl env J=>ER (zN gl env) J (N+16*ops.length) λenv J N=>k .normal env J N
 |.oA ops gg,_,env,J,N,k=>match H9 ops gg with
  |some (init,last)=>rM fo (some []) init N [] [] env J λgl env J=>match A2 [] init env N gg with
   |true=>rM fo none [last] (N+16*init.length) gl [] env J λgl env J=>k .normal (zN gl env) J (N+16*init.length+16)
   |false=>none
  |none=>rM fo (some (Qz fo J ops)) ops N [] [] env J λgl env' J'=>match A2 (Qz fo J ops) ops env' N gg with
   |true=>ER (zN gl env') J' (N+16*ops.length) λenv J N=>k .normal env J N
   |false=>none
 |.seq a b,pos,env,J,N,k=>lJ fo d kk a pos env J N λe env J N=>match e with
  |.normal=>lJ fo d kk b (pos+gq a) env J N k
  |e=>k e env J N
 |.cond c a b,pos,env,J,N,k=>match dn [] none env c with
  |some (.c (.t ⟨.bool,x⟩))=>ahd x (lJ fo d kk a pos env J N k) (lJ fo d kk b (pos+gq a) env J N k)
  |_=>none
 |.block id b,pos,env,J,N,k=>lJ fo d kk b pos env J N λe env J N=>match e with
  |.exit i=>match Nat.beq i id with
   |true=>k .normal env J N
   |false=>k (.exit i) env J N
  |e=>k e env J N
 |.loop b,pos,env,J,N,k=>match d pos with
  |none=>none
  |some L=>match sg kk L.own L.bD L.ts env J N with
   |none=>none
   |some h=>(L.F h)>>=λo=>Iz k L.outs o
section
variable {P:Program}{nt kk N:Nat}{env:bT U}{J:bf U}{env1:Env}{J1:a'}
def uN(kk:Nat)(Q:Exit->Env->a'->Nat->Prop):Prop:=∀e N env J N' env' J',Conv kk N env J N' env' J'->Q e env' J' N'->Q e env J N
def nn(P:Program)(nt kk:Nat)(b:dA)(bD:Shape)(ts:List aL)(outs:List jG)(h:aO U.D ts)(o:eE U outs):Prop:=
 ∀env1 J1,c4 bD.st.length (hr U bD (aO.cells U.D ts h)).2 (λ_=>true) (hr U bD (aO.cells U.D ts h)).1 env1->cx bD.st.length (hr U bD (aO.cells U.D ts h)).2 J1->kk<=bD.st.length->
  ∀Q,uN kk Q->(∀a bq,c4 (h7 outs o).2.2.2 (h7 outs o).2.2.1 (λ_=>true) (h7 outs o).2.1 a->cx (h7 outs o).2.2.2 (h7 outs o).2.2.1 bq->kk<=(h7 outs o).2.2.2->Q (h7 outs o).1 a bq (h7 outs o).2.2.2)->
   mo P nt kk b env1 J1 bD.st.length Q
def uR(P:Program)(nt kk:Nat)(a:dA)(L:hc U):Prop:=
 ∀h o,L.F h=some o->nn P nt kk a L.bD L.ts L.outs h o
def gG(P:Program)(nt kk:Nat)(c:k' U):Nat->dA->Prop
 |pos,.seq a b=>gG P nt kk c pos a/\gG P nt kk c (pos+gq a) b
 |pos,.cond _ a b=>gG P nt kk c pos a/\gG P nt kk c (pos+gq a) b
 |pos,.block _ b=>gG P nt kk c pos b
 |pos,.loop b=>(∀L,c pos=some L->uR P nt kk b L)
 |_,_=>True
theorem uN.andThen{next:Env->a'->Nat->Prop}(h:uN kk Q)(aG:∀N env J N' env' J',Conv kk N env J N' env' J'->next env' J' N'->next env J N):uN kk (andThen next Q):=by
 intro e N env J N' env' J' a c;cases e with
 |normal=>exact aG _ _ _ _ _ _ a c
 |_=>exact h _ _ _ _ _ _ _ a c
theorem tB{fo:fX U}(u:fL P fo){K:k' U}:∀{c:dA} {pos:Nat} {env:bT U} {J:bf U} {N:Nat} {k:uW U R} {r:R} {env1:Env} {J1:a'} {Q:Exit->Env->a'->Nat->Prop},
 gG P nt kk K pos c->lJ fo K kk c pos env J N k=some r->c4 N J (λ_=>true) env env1->cx N J J1->kk<=N->uN kk Q->
 (∀e env' J' N' s bq,k e env' J' N'=some r->c4 N' J' (λ_=>true) env' s->cx N' J' bq->kk<=N'->Q e s bq N')->cq P nt kk c env1 J1 N Q
 |.skip,pos,env,J,N,k,r,env1,J1,Q,af,d,he,aI,n,m,f=>cq.skip (f _ _ _ _ _ _ d he aI n)
 |.ret,pos,env,J,N,k,r,env1,J1,Q,af,d,he,aI,n,m,f=>cq.ret (f _ _ _ _ _ _ d he aI n)
 |.exit i,pos,env,J,N,k,r,env1,J1,Q,af,d,he,aI,n,m,f=>cq.exit (f _ _ _ _ _ _ d he aI n)
 |.region ops,pos,env,J,N,k,r,env1,J1,Q,af,d,he,aI,n,m,f=>
  cq.ahE (Gt u (eP.begin he aI) d λH M env' J' s bq F h1 j=>by
   obtain⟨G,S,T,sH,O,A,B,C,D,Z⟩:=JI h1 j.clean j.eT (show kk<=_ by omega)
   exact m _ _ _ _ _ _ _ B (f _ _ _ _ _ _ A C D (by omega)))
 |.oA ops gg,pos,env,J,N,k,r,env1,J1,Q,af,d,he,aI,n,m,f=>by
  simp only[lJ]at d;split at d
  . rename_i init last ad;obtain⟨rfl,ag⟩:=XV ad;refine cq.ahF ag (HH u (eP.begin he aI) d λH M env' J' s bq F h1 j=>?_);split at h1
    . rename_i q;refine⟨Hk j.gU q,Gt u (l:=[last]) (nf:=[]) ⟨j.gU,j.aq,j.eT,λg aq=>by grind⟩ h1 λam an G S sH O ai v w=>f _ _ _ _ _ _ v w.clean w.eT (by omega)⟩
    grind
  . refine cq.oA (HH u (eP.begin he aI) d λH M env' J' s bq F h1 j=>?_);split at h1
    . rename_i q;obtain⟨G,S,T,sH,O,A,B,C,D,Z⟩:=JI h1 j.clean j.eT (show kk<=_ by omega);exact⟨Hk j.gU q,m _ _ _ _ _ _ _ B (f _ _ _ _ _ _ A C D (by omega))⟩
    grind
 |.seq a b,pos,env,J,N,k,r,env1,J1,Q,af,d,he,aI,n,m,f=>by
  refine cq.seq (tB u af.1 d he aI n (m.andThen λN env J N' env' J' q h=>cq.conv q h) λe env' J' N' s bq h1 j v w=>?_);cases e with
  |normal=>exact tB u af.2 h1 j v w m f
  |_=>exact f _ _ _ _ _ _ h1 j v w
 |.cond c a b,pos,env,J,N,k,r,env1,J1,Q,af,d,he,aI,n,m,f=>by
  simp only[lJ]at d;split at d
  . rename_i x q;have aq:gP [] env (λ_=>true):=⟨λ_ _=>rfl,λk t b h=>by grind[a6]⟩
    obtain⟨p,v1,a1,a2,a3⟩:=cr he aq q;have:=a2.jq;subst this;refine cq.cond a1 (a3 rfl) (λy=>?_) (λy=>?_)
    . subst y;exact tB u af.1 d he aI n m f
    . subst y;exact tB u af.2 d he aI n m f
  grind
 |.block id b,pos,env,J,N,k,r,env1,J1,Q,af,d,he,aI,n,m,f=>by
  refine cq.block (tB u af d he aI n ?_ λe env' J' N' s bq h1 j v w=>?_)
  . intro e N env J N' env' J' q z;cases e with
    |exit i=>
     simp only[inBlock]at z⊢;split at z
     . rename_i E;rw[ae E];exact m _ _ _ _ _ _ _ q z
     . rename_i E;rw[al E];exact m _ _ _ _ _ _ _ q z
    |_=>exact m _ _ _ _ _ _ _ q z
  . cases e with
    |exit i=>
     simp only[inBlock];simp only at h1;split at h1
     . rename_i y;rw[ae (c5 y)];grind
     . rename_i y;rw[al (iG y)];grind
    |_=>exact f _ _ _ _ _ _ h1 j v w
 |.loop b,pos,env,J,N,k,r,env1,J1,Q,af,d,he,aI,n,m,f=>by
  simp only[lJ]at d;split at d
  . grind
  . rename_i L aa;split at d
    . grind
    . rename_i h ab;obtain⟨o,ah,I⟩:=rX.1 d;rw[M8]at I;obtain⟨s,bq,V,W,X,Y⟩:=DH ab he aI n;exact cq.conv V (cq.ahl (af L aa h o ah s bq W X Y Q m λak aj h1 j v=>f _ _ _ _ _ _ I h1 j v))
theorem nn.ahw {fo:fX U}(R:fL P fo){L:k' U}{v:dA}{bD:Shape}{own:List (Pos×aL)}{ts:List aL}{outs:List jG}{h:aO U.D ts}{o:eE U outs}{F':aO U.D ts->Option (eE U outs)}
 (W:gG P nt kk L 0 v)(M:∀h o,F' h=some o->nn P nt kk v bD ts outs h o)
 (Z:lJ fo L kk v 0 (hr U bD (aO.cells U.D ts h)).1 (hr U bD (aO.cells U.D ts h)).2 bD.st.length (λe env J N=>match e with
  |.normal=>match sg kk own bD ts env J N with
   |some y=>F' y
   |none=>none
  |e=>r4 kk outs e env J N)=some o):nn P nt kk v bD ts outs h o:=by
 intro env1 J1 he aI q Q A S;refine mo.round (tB R W Z he aI q (A.andThen λN env J N' env' J' O h=>mo.conv O h) λe env' J' N' x bq h1 G H K=>?_);have t:∀w,w=e->w≠.normal->r4 kk _ w env' J' N'=some o->Q e x bq N':=by
  intro w ag am Y;obtain⟨aM,s1,c,f,j,p,F⟩:=SC Y G H K;exact A _ _ _ _ _ _ _ c (by grind)
 cases e with
 |normal=>
  simp at h1;split at h1
  . rename_i y E;obtain⟨aM,s1,c,f,j,p⟩:=DH E G H K;exact mo.conv c (M y o h1 aM s1 f j p Q A S)
  grind
 |exit i=>exact t _ rfl (by simp) h1
 |ret=>exact t _ rfl (by simp) h1
 |goto l=>exact t _ rfl (by simp) h1
 |panic af=>exact t _ rfl (by simp) h1
 |outgrown=>exact t _ rfl (by simp) h1
where
 SC {N:Nat} {env:bT U} {J:bf U} {env1:Env} {J1:a'}:∀ {outs:List jG} {e:Exit} {o:eE U outs},r4 kk outs e env J N = some o->c4 N J (λ_=>true) env env1->cx N J J1->kk<=N->
  ∃x bq,Conv kk N env1 J1 (h7 outs o).2.2.2 x bq/\c4 (h7 outs o).2.2.2 (h7 outs o).2.2.1 _ (h7 outs o).2.1 x/\cx (h7 outs o).2.2.2 (h7 outs o).2.2.1 bq/\kk<=(h7 outs o).2.2.2/\e=(h7 outs o).1
  |[],e,o,h,_,_,_=>by grind[r4]
  |[a],e,o,h,he,aI,q=>by
   simp[r4]at h;split at h
   . rename_i B;obtain⟨aM,s1,c,f,j,p⟩:=DH h he aI q;exact⟨aM,s1,c,f,j,p,Li B⟩
   grind
  |a::b::r,e,o,h,he,aI,q=>by
   simp only[r4]at h;split at h
   . rename_i B;split at h
     . rename_i aa E;cases h;obtain⟨aM,s1,c,f,j,p⟩:=DH E he aI q;exact⟨aM,s1,c,f,j,p,Li B⟩
     grind
   . split at h
     . rename_i an X;cases h;obtain⟨aM,s1,c,f,j,p,F⟩:=SC X he aI q;exact⟨aM,s1,c,f,j,p,F⟩
     grind
end
end
open Go
variable {U:cL}{R:Type}
def uL:Nat->List (bG U)->bT U
 |_,[]=>[]
 |i,v::vs=>(i,v)::uL (i+1) vs
def I2(env:bT U)(J:bf U):jk->Option (bG U)
 |.tmp t=>a6 env t
 |.cell t g k=>match a6 env t with
  |some (.c (.ptr b o))=>match a6 J b with
   |some (.box cs)=>rP g k cs o
   |_=>none
  |_=>none
def wb(env:bT U)(J:bf U):List jk->Option (List (bG U))
 |[]=>some []
 |r::a=>match I2 env J r,wb env J a with
  |some v,some vs=>some (v::vs)
  |_,_=>none
def IE:List (bG U)->bG U
 |[]=>.aY []
 |[v]=>v
 |v::w::vs=>.aY (v::w::vs)
def A8(kk:Nat)(c:List jk)(eT:e5)(eL:List fN)(us:List aL)(env:bT U)(J:bf U):Option (aO U.D us):=
 match wb env J c with
 |none=>none
 |some vs=>match wY J kk 0 eL (Gl eT (IE vs) ([],[])) []with
  |(bs,d)=>match kX d env J with
   |none=>none
   |some (env',J')=>match wb env' J' c with
    |none=>none
    |some e=>match ue bs&&(keeps kk bs&&Nat.beq bs.length eL.length)with
     |false=>none
     |true=>match jQ bs eT (IE e),iX bs J' 0 eL with
      |some a,some b=>aO.dec U.D us (a++b)
      |_,_=>none
def S'(kk:Nat)(a:List jk)(eT:e5)(eL:List fN)(us:List aL):uW U (aO U.D us)
 |.normal,env,J,_=>A8 kk a eT eL us env J
 |.ret,env,J,_=>A8 kk a eT eL us env J
 |_,_,_,_=>none
variable{Q:Exit->Env->a'->Nat->Prop}{c:dA}{nt kk f:Nat}{p:a8}
section
variable {P:Program}{nt kk N:Nat}{env:bT U}{J:bf U}{env1:Env}{J1:a'}
def xt(kk:Nat)(Q:Exit->Env->a'->Nat->Prop):Exit->Env->a'->Nat->Prop:=
 λe env J N=>∃N' env' J',Conv kk N env J N' env' J'/\Q e env' J' N'
theorem xt.ae':uN kk (xt kk Q):=
 λe N env J N' env' J' h ⟨a,c,o,f,j⟩=>⟨a,c,o,h.trans f,j⟩
theorem cq.ah'{env:Env}{J:a'}(h:cq P nt kk c env J N (xt kk Q)):cq P nt kk c env J N Q:=
 λcode v aE φ S a w f R=>wp_mono (h code v aE φ S a w f R) λe a w ⟨A,bR,env',J',N',⟨j,q,y,t,x⟩,R'⟩=>
  let⟨B,p,o⟩:=t aE nt A bR a w f R';⟨B,p,q,y,j,x,o⟩
theorem YA(he:c4 N J (λ_=>true) env env1)(aI:cx N J J1){a:jk}{v:bG U}(h:I2 env J a=some v):∃p v1,ud env1 J1 a=some (p,v1)/\p/\ca N J v v1:=by
 cases a with
 |tmp t=>
  obtain⟨v1,h1,c⟩:=he t v h;exact⟨True,v1,by simp[ud,h1],trivial,c⟩
 |cell t g k=>
  simp only[I2]at h;split at h
  . rename_i b o j;split at h
    . rename_i cs i;obtain⟨v1,h1,c⟩:=he t _ j;have:=c.hT;subst this;obtain⟨_,y,e,d⟩:=aI b _ i;cases d with
      |box d=>
       obtain⟨l,bc,f⟩:=wi d h;exact⟨True,l,by simp[ud,h1,e,bc],trivial,f⟩
    . cases h
  . cases h
theorem TU(he:c4 N J (λ_=>true) env env1)(aI:cx N J J1):∀{b:List jk} {vs:List (bG U)},wb env J b=some vs->∃p a,pT env1 J1 b=some (p,a)/\p/\ba (ca N J) vs a
 |[],vs,h=>by simp[wb]at h;subst h;exact⟨_,[],rfl,trivial,.nil⟩
 |r::d,vs,h=>by
  simp only[wb]at h;split at h
  . rename_i v e h1 c;cases h;obtain⟨p,v1,a1,a2,a3⟩:=YA he aI h1;obtain⟨q,a,b1,b2,b3⟩:=TU he aI c;exact⟨p/\q,v1::a,by simp[pT,a1,b1],⟨a2,b2⟩,.cons a3 b3⟩
  . cases h
theorem YU{vs:List (bG U)}{c:List V}(h:ba (ca N J) vs c):ca N J (IE vs) (mh c):=by
 cases h with
 |nil=>exact .aY [] [] rfl (by simp)
 |cons h1 a=>
  cases a with
  |nil=>exact h1
  |cons a b=>
   refine .aY _ _ (by simp[b.length]) λi x d e j=>?_;obtain⟨f,aM,g⟩:=(ba.cons h1 (.cons a b)).get e;grind
def E2(s:cD U)(r:aO U.D s.us):V->a'->Nat->Prop:=λa bq N'=>N'=s.eL.length/\ca N' (s.rest r) (s.res r) a/\cx N' (s.rest r) bq
theorem YV{e:List jk}{s:cD U}{r:aO U.D s.us}(h:A8 kk e s.eT s.eL s.us env J=some r)(he:c4 N J (λ_=>true) env env1)(aI:cx N J J1):
 ∃k bq,Conv kk N env1 J1 N k bq/\∃p d,pT k bq e=some (p,d)/\p/\
  ∃bs c J2,bs.Nodup/\keeps kk bs=true/\gm ((mh d).bO bs) c/\sr (fI bs bq 0 bs) J2/\E2 s r c J2 bs.length:=by
 unfold A8 at h;split at h
 . cases h
 . split at h;rename_i bs F _;split at h
   . cases h
   . rename_i env' J' A;obtain⟨aM,s1,o,q,i,_⟩:=zY (kk:=kk) (gl:=[]) A he aI;split at h
     . cases h
     . rename_i G C;split at h
       . cases h
       . rename_i l;simp only[cC]at l;obtain⟨w,x,z⟩:=l;have bS:=y' w;have B:=c5 z;split at h
         . rename_i a b v m;obtain⟨p,d,d1,d2,d3⟩:=TU q i C;obtain⟨y,f,g⟩:=Fa bS (zL bS m) v;obtain⟨c,t,u⟩:=g _ (YU d3);obtain⟨E,t1,t2⟩:=Ex bS i m;have n:=aO.fp h;have aM:s.res r=y:=by unfold cD.res;rw[n,f]
           have j:s.rest r=gL 0 s.eL b:=by unfold cD.rest;rw[n,f]
           exact⟨_,_,o,p,d,d1,d2,bs,c,E,bS,x,t,t1,B,by rw[aM,j];exact u,by rw[j];exact t2⟩
         . cases h
def uP(P:Program)(s:cD U)(h:aO U.D s.ts)(r:aO U.D s.us):Prop:=
 ∀(a:List V) J1,ba (ca s.st.length (s.iC h)) (s.args h) a->cx s.st.length (s.iC h) J1->eg P s.f a J1 s.st.length (E2 s r)
theorem hB.of{s:cD U}(h:∀h r,s.F h=some r->uP P s h r):hB P s:=h
theorem uP.F4 {s:cD U}{fn:Func}{c:dA}{j:List jk}{fo:fX U}{B:k' U}(af:P.funcs[s.f]?=some fn)(W:fn.body.bind (resolve P fn.ntmps)=some c)(ag:ie P fn.results.toList=some j)(aG:Nat.ble s.gC.length fn.ntmps=true)
 (am:fL P fo)(ax:gG P fn.ntmps s.st.length B 0 c)
 {h:aO U.D s.ts}{r:aO U.D s.us}(w:EM s.st.length (s.iC h) (λJ N=>lJ fo B s.st.length c 0 (uL 0 (s.args h)) J N (S' s.st.length j s.eT s.eL s.us))=some r):uP P s h r:=by
 intro y J1 R aI;have ap:y.length<=fn.ntmps:=by
  rw[<-R.length];refine gv (wE ?_) (ig aG);unfold cD.args;exact Sd
 have X:c4 s.st.length (s.iC h) (λ_=>true) (uL 0 (s.args h)) (fR 0 y):=by
  intro k v a2;have key:∀{xs:List (bG U)} {o:List V} {i:Nat},ba (ca s.st.length (s.iC h)) xs o->a6 (uL i xs) k=some v->∃v1,look (fR i o) k=some (true,v1)/\ca s.st.length (s.iC h) v v1:=by
   intro xs;induction xs with
   |nil=>intro o i _ h;simp[uL,a6]at h
   |cons x xs ih=>
    intro o i aE t;cases aE with
    |cons h1 q=>
     simp only[uL,a6]at t;simp only[fR,look];split at t
     . simp_all
     . rename_i S;rw[al (iG S)];exact ih q t
  grind
 obtain⟨aK,Nm,a0,w,L,Z,Q,an⟩:=YR w X aI;refine eg.tidy (eg.mk (nt:=fn.ntmps) af W ag rfl ap (cq.conv L (cq.ah' (tB am ax w Z Q an xt.ae' λe env' J' N' M bq h1 q O a1=>?_)))) (λE s1 H aa=>aa)
 . have A:A8 s.st.length j s.eT s.eL s.us env' J'=some r->(e= .normal\/e= .ret)->xt s.st.length (EW j λE s1 H=>∃bs F J2,bs.Nodup/\keeps s.st.length bs=true/\gm (E.bO bs) F/\sr (fI bs s1 0 bs) J2/\E2 s r F J2 bs.length) e M bq N':=by
    intro aC Y;obtain⟨aM,s1,K,p,G,d1,d2,rest⟩:=YV aC q O;refine⟨N',aM,s1,K,?_⟩;rcases Y with rfl|rfl
    . exact⟨p,G,d1,d2,rest⟩
    . exact⟨p,G,d1,d2,rest⟩
   cases e with
   |normal=>exact A h1 (.inl rfl)
   |ret=>exact A h1 (.inr rfl)
   |_=>cases h1
where
 Sd:∀{ss:List e5} {a:eQ U},(kP ss a).1.length=ss.length
  |[],a=>rfl
  |s::ss,a=>by
   simp only[kP];have:=Sd (ss:=ss) (a:=(kO s a).2);simp[this]
def hZ:dA->Nat->Option dA
 |.seq a b,q=>match Nat.ble (gq a) q with
  |true=>hZ b (q-gq a)
  |false=>hZ a q
 |.cond _ a b,q=>match Nat.ble (gq a) q with
  |true=>hZ b (q-gq a)
  |false=>hZ a q
 |.block _ b,q=>hZ b q
 |.loop b,q=>match q with
  |0=>some b
  |q+1=>hZ b q
 |_,_=>none
theorem gG.of{o:k' U}:∀{c:dA} {pos:Nat},(∀q b L,hZ c q=some b->o (pos+q)=some L->uR P nt kk b L)->gG P nt kk o pos c
 |.seq a b,pos,h=>by
  refine⟨gG.of λq e L h1 f=>h q e L ?_ f,gG.of λq e L h1 f=>h (gq a+q) e L ?_ (by rw[<-wD];exact f)⟩
  . simp only[hZ];cases j:Nat.ble (gq a) q with
    |true=>exact absurd (rR h1) (by have:=ig j;omega)
    |false=>exact h1
  . simp only[hZ];have:Nat.ble (gq a) (gq a+q)=true:=(by simp);grind
 |.cond c a b,pos,h=>by
  refine⟨gG.of λq e L h1 f=>h q e L ?_ f,gG.of λq e L h1 f=>h (gq a+q) e L ?_ (by rw[<-wD];exact f)⟩
  . simp only[hZ];cases j:Nat.ble (gq a) q with
    |true=>exact absurd (rR h1) (by have:=ig j;omega)
    |false=>exact h1
  . simp only[hZ];have:Nat.ble (gq a) (gq a+q)=true:=(by simp);grind
 |.block id b,pos,h=>gG.of (c:=b) h
 |.loop b,pos,h=>λL p=>h 0 b L rfl p
 |.skip,pos,h=>trivial
 |.region _,pos,h=>trivial
 |.oA _ _,pos,h=>trivial
 |.exit _,pos,h=>trivial
 |.ret,pos,h=>trivial
where
 rR:∀{c:dA} {q:Nat} {b:dA},hZ c q=some b->q<gq c
  |.seq a b,q,e,h=>by
   simp only[hZ]at h;simp only[gq];split at h
   . rename_i j;have:=rR h;have:=ig j;omega
   . have:=rR h;omega
  |.cond _ a b,q,e,h=>by
   simp only[hZ]at h;simp only[gq];split at h
   . rename_i j;have:=rR h;have:=ig j;omega
   . have:=rR h;omega
  |.block _ b,q,e,h=>rR (c:=b) h
  |.loop b,0,e,h=>by simp[gq]
  |.loop b,q+1,e,h=>by have:=rR (c:=b) h;simp only[gq];omega
  |.skip,q,e,h=>by simp[hZ]at h
  |.region _,q,e,h=>by simp[hZ]at h
  |.oA _ _,q,e,h=>by simp[hZ]at h
  |.exit _,q,e,h=>by simp[hZ]at h
  |.ret,q,e,h=>by simp[hZ]at h
theorem gG.Sv{a:k' U}(h:∀q L,a q=some L->uR P nt kk ((hZ c q).getD .skip) L):gG P nt kk a 0 c:=
 gG.of λq b L h1 e=>by grind
theorem gG.none:gG P nt kk (λ_=>none:k' U) 0 c:=gG.Sv λq L h=>by cases h
theorem fL.none:fL P (λ_=>[]:fX U):=λf s h=>by simp at h
end
open Go
def Jj(P:Program)(fn:Func):dA:=
 match fn.body.bind (Shv.resolve P fn.ntmps)with
 |some c=>c
 |none=>.skip
def wQ(c:dA)(q:Nat):dA:=(hZ c q).getD .skip
def hO{U:cL}:List (cD U)->fX U
 |[],_=>[]
 |s::l,f=>match Nat.beq s.f f with
  |true=>s::hO l f
  |false=>hO l f
def kQ{U:cL}(l:List (Nat×hc U)):k' U:=λq=>a6 l q
theorem fL.nil{U:cL}{P:Program}:fL P (hO ([]:List (cD U))):=λf s h=>by simp[hO]at h
theorem fL.cons{U:cL}{P:Program}{s:cD U}{l:List (cD U)}(c:hj P s.f=true)(hs:hB P s)(h:fL P (hO l)):fL P (hO (s::l)):=by
 intro f t ht;simp only[hO]at ht;split at ht
 . rename_i a;have:=c5 a;rcases eK.1 ht with rfl|ht
   . grind
   . exact h f t ht
 . exact h f t ht
def jo{U:cL}(P:Program)(nt kk:Nat)(c:dA)(l:List (Nat×hc U)):Prop:=∀q L,a6 l q=some L->uR P nt kk (wQ c q) L
theorem jo.nil{U:cL}{P:Program}{nt kk:Nat}{c:dA}:jo P nt kk c ([]:List (Nat×hc U)):=λq L h=>by simp[a6]at h
theorem jo.cons{U:cL}{P:Program}{nt kk:Nat}{c:dA}{q:Nat}{L:hc U}{l:List (Nat×hc U)}(f:uR P nt kk (wQ c q) L)(h:jo P nt kk c l):jo P nt kk c ((q,L)::l):=by
 intro e L' a;simp only[a6]at a;split at a
 . simp_all
 . exact h e L' a
theorem jo.snd{U:cL}{P:Program}{l:List (Nat×hc U)}(h:jo P nt kk c l):gG P nt kk (kQ l) 0 c:=gG.Sv λq L a=>h q L a
def aN(k:IntKind)(a b:Int):Int:=k.wrap (a+b)
def dq(k:IntKind)(a b:Int):Int:=k.wrap (a-b)
def gB(k:IntKind)(a b:Int):Int:=k.wrap (a*b)
def fC(k:IntKind)(a b:Int):Int:=k.wrap (a.tdiv b)
def b6(a b:Int):Int:=a.tmod b
def Bj(k:IntKind)(a b:Int):Int:=k.wrap (BitVec.ofInt k.bits a &&& BitVec.ofInt k.bits b).toNat
def r5(k:IntKind)(a b:Int):Int:=k.wrap (BitVec.ofInt k.bits a ||| BitVec.ofInt k.bits b).toNat
def uM(k:IntKind)(a b:Int):Int:=k.wrap (BitVec.ofInt k.bits a ^^^ BitVec.ofInt k.bits b).toNat
def nd(k:IntKind)(a b:Int):Int:=k.wrap (a*2^min b.toNat k.bits)
def lG(k:IntKind)(a b:Int):Int:=a.fdiv (2^min b.toNat k.bits)
open Go
variable {U:cL}
structure gw where
 q:Nat
 bD:Shape
 own:List (Pos×aL)
 AQ:List (Pos×aL)
 ts:List aL
 outs:List jG
 sub:List gw
structure eA where
 f:Nat
 gC:List e5
 st:List fN
 ts:List aL
 eT:e5
 eL:List fN
 us:List aL
 sub:List gw
def gw.l(e:gw)(F:aO U.D e.ts->Option (eE U e.outs)):hc U:=⟨e.bD,e.own,e.ts,e.outs,F⟩
def eA.s(e:eA)(F:aO U.D e.ts->Option (aO U.D e.us)):cD U:=⟨e.f,e.gC,e.st,e.ts,e.eT,e.eL,e.us,F⟩
def codeF(P:Program)(f:Nat):dA:=match P.funcs[f]? with
 |some fn=>Jj P fn
 |none=>.skip
def x6(P:Program)(f:Nat):Nat:=match P.funcs[f]? with
 |some fn=>fn.ntmps
 |none=>0
def Qn(P:Program)(f:Nat):List jk:=match P.funcs[f]? with
 |some fn=>(match ie P fn.results.toList with
  |some r=>r
  |none=>[])
 |none=>[]
def uC(P:Program)(e:eA):Bool:=match P.funcs[e.f]? with
 |some fn=>hj P e.f&&((fn.body.bind (resolve P fn.ntmps)).isSome&&((ie P fn.results.toList).isSome&&Nat.ble e.gC.length fn.ntmps))
 |none=>false
def iB(P:Program)(e:eA):Prop:=uC P e=true
theorem iB.m{P:Program}{e:eA}(h:uC P e=true):iB P e:=h
def rQ(fo:fX U)(c:k' U)(kk:Nat)(b:dA)(e:gw)(F':aO U.D e.ts->Option (eE U e.outs))(h:aO U.D e.ts):Option (eE U e.outs):=
 lJ fo c kk b 0 (hr U e.bD (aO.cells U.D e.ts h)).1 (hr U e.bD (aO.cells U.D e.ts h)).2 e.bD.st.length (λx env J N=>match x with
  |.normal=>match sg kk e.AQ e.bD e.ts env J N with
   |some a=>F' a
   |none=>none
  |x=>r4 kk e.outs x env J N)
def qs(fo:fX U)(a:k' U)(P:Program)(e:eA)(h:aO U.D e.ts):Option (aO U.D e.us):=
 EM e.st.length (gL 0 e.st (kP e.gC (aO.cells U.D e.ts h)).2) λJ N=>lJ fo a e.st.length (codeF P e.f) 0 (uL 0 (kP e.gC (aO.cells U.D e.ts h)).1) J N (S' e.st.length (Qn P e.f) e.eT e.eL e.us)
variable{e:eA}
section
variable {P:Program}
variable{fo:fX U}
theorem Kt(d:fL P fo){a:k' U}{b:dA}{e:gw}{h:aO U.D e.ts}{o:eE U e.outs}{F':aO U.D e.ts->Option (eE U e.outs)}
 (f:gG P nt kk a 0 b)(c:∀h o,F' h=some o->nn P nt kk b e.bD e.ts e.outs h o)(g:rQ fo a kk b e F' h=some o):nn P nt kk b e.bD e.ts e.outs h o:=by
 refine nn.ahw (own:=e.AQ) d f c (Eq.trans ?_ g);unfold rQ
 congr 1
 funext x env J N
 cases x with
 |normal=>
  dsimp only;generalize sg kk e.AQ e.bD e.ts env J N=z;cases z<;>rfl
 |_=>rfl
theorem Lj{j:k' U}(a:iB P e)(F:aO U.D e.ts->Option (aO U.D e.us))(n:fL P fo)(b:gG P (x6 P e.f) e.st.length j 0 (codeF P e.f))
 {h:aO U.D e.ts}{r:aO U.D e.us}(d:qs fo j P e h=some r):uP P (e.s F) h r:=by
 unfold iB uC at a;unfold codeF at b;unfold x6 at b;unfold qs codeF Qn at d;split at a
 . rename_i fn i;simp only[i]at b d;simp only[cC]at a;obtain⟨p,l,bc,m⟩:=a;obtain⟨c,g⟩:=yK.1 l;obtain⟨o,ag⟩:=yK.1 bc;have k:Jj P fn=c:=by unfold Jj;rw[g]
   rw[k]at b d;simp only[ag]at d;exact uP.F4 (s:=e.s F) i g ag m n b d
 . cases a
theorem iB.b{e:eA}(a:iB P e):hj P e.f=true:=by
 unfold iB uC at a;grind
def xW(fo:fX U)(kk:Nat):Nat->dA->(e:gw)->aO U.D e.ts->Option (eE U e.outs)
 |0,_,_,_=>none
 |n+1,b,e,h=>rQ fo (kQ (e.sub.map λs=>(s.q,s.l (xW fo kk n (wQ b s.q) s)))) kk b e (xW fo kk n b e) h
def uJ(g:(e:eA)->aO U.D e.ts->Option (aO U.D e.us))(r:List (cD U)):List eA->fX U
 |[],f=>hO r f
 |e::T,f=>match Nat.beq e.f f with
  |true=>e.s (g e)::uJ g r T f
  |false=>uJ g r T f
def lz(P:Program)(T:List eA)(a:List (cD U)):Nat->(e:eA)->aO U.D e.ts->Option (aO U.D e.us)
 |0,_,_=>none
 |n+1,e,h=>qs (uJ (lz P T a n) a T) (kQ (e.sub.map λs=>(s.q,s.l (xW (uJ (lz P T a n) a T) e.st.length n (wQ (codeF P e.f) s.q) s)))) P e h
theorem FE{b:dA}{g:(s:gw)->aO U.D s.ts->Option (eE U s.outs)}:∀{l:List gw},(∀s h o,g s h=some o->nn P nt kk (wQ b s.q) s.bD s.ts s.outs h o)->jo P nt kk b (l.map λs=>(s.q,s.l (g s)))
 |[],_=>jo.nil
 |s::l,aq=>jo.cons (λh o a=>aq s h o a) (FE (l:=l) aq)
theorem I3(a:fL P fo):∀(n:Nat) (b:dA) (e:gw) (h:aO U.D e.ts) (o:eE U e.outs),xW fo kk n b e h=some o->nn P nt kk b e.bD e.ts e.outs h o
 |0,_,_,_,_,d=>by simp[xW]at d
 |n+1,b,e,h,o,d=>Kt a (jo.snd (FE λs h o c=>I3 a n _ s h o c)) (λh o c=>I3 a n b e h o c) d
theorem M9{g:(e:eA)->aO U.D e.ts->Option (aO U.D e.us)}{r:List (cD U)}(ag:fL P (hO r)):∀{T:List eA},(∀e,e∈T->iB P e)->(∀e,e∈T->hB P (e.s (g e)))->fL P (uJ g r T)
 |[],_,_=>ag
 |e::T,a,aq=>by
  intro f t ht;simp only[uJ]at ht;have ih:=M9 ag (λe he=>a e (FW _ he)) (λe he=>aq e (FW _ he));split at ht
  . rename_i c;have:=c5 c;rcases eK.1 ht with rfl|ht
    . exact⟨this,by rw[<-this];exact(a e FY).b,aq e FY⟩
    . exact ih f t ht
  . exact ih f t ht
theorem Oo{T:List eA}(b:∀e,e∈T->iB P e){a:List (cD U)}(d:fL P (hO a)):∀(n:Nat) (e:eA),iB P e->hB P (e.s (lz P T a n e))
 |0,e,_=>λh r ag=>by simp[eA.s,lz]at ag
 |n+1,e,he=>hB.of λh r ag=>
  have f:fL P (uJ (lz P T a n) a T):=M9 d b λc g=>Oo b d n c (b c g)
  Lj he _ f (jo.snd (FE λs h o i=>I3 f n _ s h o i)) ag
end
open Go
variable {U:cL}{P:Program}
def gO(P:Program)(s:cD U):Prop:=hj P s.f=true/\hB P s
def qi(P:Program)(f:Nat):a8->dA
 |[]=>codeF P f
 |q::p=>wQ (qi P f p) q
def nq(P:Program)(f kk:Nat)(p:a8)(e:gw)(F:aO U.D e.ts->Option (eE U e.outs)):Prop:=uR P (x6 P f) kk (qi P f p) (e.l F)
def jn(P:Program)(l:List (cD U)):Prop:=fL P (hO l)
theorem jn.n:jn P ([]:List (cD U)):=fL.nil
theorem jn.k{s:cD U}{l:List (cD U)}(h:gO P s)(af:jn P l):jn P (s::l):=fL.cons h.1 h.2 af
def jE(P:Program)(f kk:Nat)(p:a8)(l:List (Nat×hc U)):Prop:=jo P (x6 P f) kk (qi P f p) l
theorem jE.n{f kk:Nat}{p:a8}:jE P f kk p ([]:List (Nat×hc U)):=jo.nil
theorem jE.k{f kk q:Nat}{p:a8}{e:gw}{F:aO U.D e.ts->Option (eE U e.outs)}{l:List (Nat×hc U)}(h:nq P f kk (q::p) e F)(af:jE P f kk p l):jE P f kk p ((q,e.l F)::l):=jo.cons h af
def Bc(P:Program)(U:cL)(e:eA)(h:aO U.D e.ts)(r:aO U.D e.us):Prop:=uP P (e.s λ_=>none) h r
def xp(P:Program)(U:cL)(f kk:Nat)(p:a8)(e:gw)(h:aO U.D e.ts)(o:eE U e.outs):Prop:=nn P (x6 P f) kk (qi P f p) e.bD e.ts e.outs h o
theorem Bc.at(j:iB P e){fs:List (cD U)}(c:jn P fs){a:List (Nat×hc U)}(af:jE P e.f e.st.length [] a){h:aO U.D e.ts}{r:aO U.D e.us}(o:qs (hO fs) (kQ a) P e h=some r):Bc P U e h r:=
 Lj j _ c (jo.snd af) o
theorem xp.at{e:gw}{F':aO U.D e.ts->Option (eE U e.outs)}(bw:∀h o,F' h=some o->xp P U f kk p e h o){fs:List (cD U)}(c:jn P fs){a:List (Nat×hc U)}(af:jE P f kk p a){h:aO U.D e.ts}{o:eE U e.outs}
 (j:rQ (hO fs) (kQ a) kk (qi P f p) e F' h=some o):xp P U f kk p e h o:=
 Kt c (jo.snd af) bw j
theorem gO.of(a:iB P e){F:aO U.D e.ts->Option (aO U.D e.us)}(h:∀h r,F h=some r->Bc P U e h r):gO P (e.s F):=⟨a.b,hB.of h⟩
theorem nq.of{e:gw}{F:aO U.D e.ts->Option (eE U e.outs)}(h:∀h o,F h=some o->xp P U f kk p e h o):nq P f kk p e F:=h
theorem gO.fn(a:iB P e){F:aO U.D e.ts->Option (aO U.D e.us)}{fs:List (cD U)}(j:jn P fs){c:List (Nat×hc U)}(af:jE P e.f e.st.length [] c)(o:∀h,qs (hO fs) (kQ c) P e h=F h):gO P (e.s F):=
 .of a λh r ag=>.at a j af ((o h).trans ag)
theorem nq.aiA{e:gw}{F:aO U.D e.ts->Option (eE U e.outs)}{fs:List (cD U)}(c:jn P fs){a:List (Nat×hc U)}(af:jE P f kk p a)(q:∀h,rQ (hO fs) (kQ a) kk (qi P f p) e (λ_=>none) h=F h):nq P f kk p e F:=
 .of λh o j=>.at (F':=λ_=>none) (λ_ _ h=>by cases h) c af ((q h).trans j)
theorem gO.rc(a:iB P e){F:aO U.D e.ts->Option (aO U.D e.us)}{b:(aO U.D e.ts->Option (aO U.D e.us))->aO U.D e.ts->Option (aO U.D e.us)}
 (p:∀m:aO U.D e.ts->aO U.D e.us->Prop,(∀F',(∀h r,F' h=some r->m h r)->∀h r,b F' h=some r->m h r)->∀h r,F h=some r->m h r)
 {fs:(aO U.D e.ts->Option (aO U.D e.us))->List (cD U)}(j:∀F',gO P (e.s F')->jn P (fs F')){c:List (Nat×hc U)}(af:jE P e.f e.st.length [] c)(o:∀F' h,qs (hO (fs F')) (kQ c) P e h=b F' h):gO P (e.s F):=
 .of a (p _ λF' bw h r ag=>.at a (j F' (.of a bw)) af ((o F' h).trans ag))
theorem nq.rc{e:gw}{F:aO U.D e.ts->Option (eE U e.outs)}{b:(aO U.D e.ts->Option (eE U e.outs))->aO U.D e.ts->Option (eE U e.outs)}
 (t:∀m:aO U.D e.ts->eE U e.outs->Prop,(∀F',(∀h r,F' h=some r->m h r)->∀h r,b F' h=some r->m h r)->∀h r,F h=some r->m h r)
 {fs:List (cD U)}(c:jn P fs){a:List (Nat×hc U)}(af:jE P f kk p a)(q:∀F' h,rQ (hO fs) (kQ a) kk (qi P f p) e F' h=b F' h):nq P f kk p e F:=
 .of (t _ λF' bw h o j=>.at bw c af ((q F' h).trans j))
theorem gO.bk{F:aO U.D e.ts->Option (aO U.D e.us)}{fs:List (cD U)}(c:jn P fs:=by exact .n){a:List (Nat×hc U)}(af:jE P e.f e.st.length [] a:=by exact .n)(j:iB P e:=by exact .m (by kernel_rfl))
 (o:∀h,qs (hO fs) (kQ a) P e h=F h:=by intro _;kernel_rfl):gO P (e.s F):= .fn j c af o
theorem gO.rx{F:aO U.D e.ts->Option (aO U.D e.us)}{b:(aO U.D e.ts->Option (aO U.D e.us))->aO U.D e.ts->Option (aO U.D e.us)}
 (p:∀m:aO U.D e.ts->aO U.D e.us->Prop,(∀F',(∀h r,F' h=some r->m h r)->∀h r,b F' h=some r->m h r)->∀h r,F h=some r->m h r)
 {fs:(aO U.D e.ts->Option (aO U.D e.us))->List (cD U)}(c:∀F',gO P (e.s F')->jn P (fs F')){a:List (Nat×hc U)}(af:jE P e.f e.st.length [] a:=by exact .n)(j:iB P e:=by exact .m (by kernel_rfl))
 (o:∀F' h,qs (hO (fs F')) (kQ a) P e h=b F' h:=by intro _ _;kernel_rfl):gO P (e.s F):= .rc j p c af o
theorem nq.rx {f kk:Nat}{p:a8}{e:gw}{F:aO U.D e.ts->Option (eE U e.outs)}{b:(aO U.D e.ts->Option (eE U e.outs))->aO U.D e.ts->Option (eE U e.outs)}
 (o:∀m:aO U.D e.ts->eE U e.outs->Prop,(∀F',(∀h r,F' h=some r->m h r)->∀h r,b F' h=some r->m h r)->∀h r,F h=some r->m h r)
 {fs:List (cD U)}(c:jn P fs:=by exact .n){a:List (Nat×hc U)}(af:jE P f kk p a:=by exact .n)(j:∀F' h,rQ (hO fs) (kQ a) kk (qi P f p) e F' h=b F' h:=by intro _ _;kernel_rfl):nq P f kk p e F:= .rc o c af j
theorem acX{T:List eA}(h:T.all (uC P)=true):∀e,e∈T->iB P e:=λe he=>dH.1 h e he
theorem gO.run{T:List eA}(c9:T.all (uC P)=true){a:List (cD U)}(f:jn P a)(c:iB P e){F:aO U.D e.ts->Option (aO U.D e.us)}(n:Nat)(h:∀h,F h=lz P T a n e h):gO P (e.s F):=
 ⟨c.b,λx r ag=>Oo (acX c9) f n e c x r ((h x).symm.trans ag)⟩
abbrev ab:aL:= .int .i64
abbrev aA(n:Nat):aL:= .slice (.nm n)
abbrev g':aL:= .slice .str
abbrev bK:aL:= .slice (.int .i64)
abbrev aa(t:aL):e5:= .c (.hole t)
abbrev au(b o:Nat):e5:= .c (.ptr b o)
abbrev b'(t:aL):fN:= .box [.hole t]
def ct:kr->List aL
 |.hole t=>[t]
 |.cG _ _ _=>[.int .i64]
 |.dN t _=>[t]
 |_=>[]
def bw{α:Type}(f:α->List aL):List α->List aL
 |[]=>[]
 |a::l=>f a++bw f l
def Sh:e5->List aL
 |.c s=>ct s
 |.agg l=>bw ct l
 |.row n=>[.nm n]
 |.aY _=>[]
def gV:e5->List aL
 |.aY l=>bw Sh l
 |v=>Sh v
def dy:fN->List aL
 |.box l=>bw ct l
 |.arr t=>[.slice t]
 |.bj n=>[.nm n]
 |.set=>[.slice .str]
 |.buf _=>[.str]
 |.b7 _ s=>ct s
 |.gone=>[]
def dM(l:List (Nat×e5))(st:List fN):List aL:=bw (λp=>gV p.2) l++bw dy st
abbrev aW(f:Nat)(gC:List e5)(eT:e5)(sub:List gw:=[])(st:List fN:=[])(eL:List fN:=[]):eA:=⟨f,gC,st,bw gV gC++bw dy st,eT,eL,gV eT++bw dy eL,sub⟩
abbrev bL(q:Nat)(l:List (Nat×e5))(st:List fN)(outs:List jG)(sub:List gw:=[])(own:List (Pos×aL):=[])(AQ:List (Pos×aL):=own):gw:=⟨q,⟨l,st⟩,own,AQ,dM l st,outs,sub⟩
abbrev bI(e:Exit)(l:List (Nat×e5))(st:List fN:=[])(own:List (Pos×aL):=[]):jG:=⟨e,⟨l,st⟩,own,dM l st⟩
abbrev eU(k:Nat)(t:aL):jG:=⟨.ret,⟨[(k,aa t)],[]⟩,[],[t]⟩
abbrev gu(i:Nat):jG:=⟨.exit i,⟨[],[]⟩,[],[]⟩
section
open Go
variable {U:cL}
def wz(sz bytes:Nat)(z:List C):dA:=
 .seq (.region [⟨some 2,.mov (.const (.c .az)),none⟩])
  (.seq (.seq (.region [⟨some 3, .mov (.tmp 0),none⟩,⟨some 4, .eqNil false (.tmp 3),none⟩])
   (.cond (.tmp 4) (.seq (.region [⟨some 2,.mov (.const (.c .az)),none⟩]) .ret) .skip))
   (.seq (.region [⟨some 5,.bslice sz 0 z [],none⟩,⟨some 6,.mov (.tmp 0),none⟩,⟨some 7,.append sz bytes (.tmp 5) (.tmp 6),none⟩,⟨some 2,.mov (.tmp 7),none⟩]) .ret))
def uI(bytes n:Nat):Bool:=(decide ((2*n+192)*bytes<=ka)||decide ((n+n/4+512)*bytes<=ka))&&decide (n<=eI)
theorem mS{bytes n:Nat}(h:room bytes n=true):uI bytes n=true:=by
 have:=H4.1 h;unfold uI;simp[this]
theorem Oq{bytes n:Nat}(h:uI bytes n=true):lR n bytes/\n<=eI:=by
 unfold uI at h;simp only[cC,iv,dO]at h;exact h
def fx{α:Type}(bytes:Nat)(l:List α):Option (List α):=if uI bytes l.length then some l else none
def wR(U:cL)(f:Nat)(t:aL)(bytes:Nat):cD U:=
 ⟨f,[.c (.hole (.slice t))],[],[.slice t],.c (.arr 0),[.arr t],[.slice t],λ(l:List (t.den U.D))=>fx bytes l⟩
variable{f:Nat}{es:List (List T)}{v:List T}
section
variable {P:Program}
theorem aah{fn:Func}{sz bytes:Nat}{z:List C}(l:P.funcs[f]?=some fn)(d:fn.body.bind (Shv.resolve P fn.ntmps)=some (wz sz bytes z))(ag:ie P fn.results.toList=some [.tmp 2])
 (aG:1<=fn.ntmps)(u:toTs z=some v)(n:0<sz)(he:∀e,e∈es->e.length=sz)(m:uI bytes es.length=true):
 eg P f [.c (.t (.slice es))] [] 0 (λr J' N'=>N'=1/\r= .c (.arr 0 sz 0 es.length)/\aX J' 0=some (.arr sz es)):=by
 have a:=Oq m;refine eg.tidy (Q:=λr J' N'=>∃b,r= .c (.arr b sz 0 es.length)/\aX J' b=some (.arr sz es)) (eg.mk l d ag rfl (by simpa using aG) ?_) ?_
 . unfold wz;refine cq.seq (cq.region ?_);simp only[kt,hf,f',aR,aQ.get,jV,eu,fR,cP.neutral,b5,andThen];refine .inr ⟨λ_=>trivial,.inl trivial,?_⟩;refine cq.seq (cq.seq (cq.region ?_));simp only[kt,hf,f',aR,aQ.get,jV,eu,cP.neutral,b5,andThen,look,gi,h6];refine .inr ⟨λ_=>by simp,.inl trivial,?_⟩;refine .inr ?_;simp only[Nat.reduceEqDiff,b9,b5,jV,rV];intro b w;refine cq.cond (b:=b) (p:=True) (by simp[aQ.get,look,sC]) trivial (λA=>?_) (λy=>?_)
   ·
    have j:es=[]:=(by grind);subst j;refine cq.seq (cq.region ?_);simp only[kt,hf,f',aR,aQ.get,jV,eu,cP.neutral,b5,andThen];refine .inr ⟨λ_=>trivial,.inl trivial,?_⟩;refine cq.conv (Conv.own (k:=2) (g:=true) (sz:=sz) rfl n (hv _)) (cq.ret ?_);refine⟨_,_,rfl,⟨rfl,trivial⟩,_,rfl,?_⟩;rw[c2,ae rfl]
   . refine cq.skip ?_;refine cq.seq (cq.region ?_);simp only[kt,hf,f',aR,aQ.get,jV,eu,cP.neutral,b5,andThen,look,jO,u,ao,Nat.reduceEqDiff,b9,bZ,reduceCtorEq,mn,c2,List.replicate];refine .inr ⟨λ_=>trivial,.inr trivial,?_⟩;refine .inr ⟨λ_=>by simp,.inl trivial,?_⟩;refine .inr ⟨λ_=>⟨trivial,trivial,trivial,trivial,trivial,by simp,he,by simpa using a.1,by simpa using a.2⟩,.inr trivial,?_⟩;refine .inr ⟨λ_=>by simp,.inl trivial,?_⟩;refine cq.ret ⟨_,[.c (.arr 80 sz 0 (0+es.length))],rfl,⟨rfl,trivial⟩,80,by rw[hR];rfl,?_⟩;rw[c2,ae rfl];simp
 . rintro r J' N' ⟨b,rfl,hs⟩
   refine⟨[b],_,_,by simp,rfl,?_,λi x q=>⟨x,q,?_⟩,rfl,rfl,?_⟩
   . simp only[V.bO,C.bO,pos,b5];exact .c (dz.refl _)
   . cases x with
     |box cs=>exact .box (ba.self dz.refl _)
     |arr sz es=>exact .arr
     |set ks=>exact .same
     |buf E s=>exact .same
     |b7 E c=>exact .b7 (dz.refl _)
     |cA sz es i o c=>exact .cA (dz.refl _)
   . simp[fI,hs,aX,bP.bO]
theorem ID{fn:Func}{sz bytes:Nat}{z:List C}{t:aL}(o:P.funcs[f]?=some fn)(n:fn.body.bind (Shv.resolve P fn.ntmps)=some (wz sz bytes z))(ag:ie P fn.results.toList=some [.tmp 2])
 (aG:Nat.ble 1 fn.ntmps=true)(u:toTs z=some v)(s:t.sz U=sz):hB P (wR U f t bytes):=by
 intro(l:List (t.den U.D)) r bw A J1 k aI;subst s;have d:fx bytes l=some r:=bw;unfold fx at d;split at d
 . rename_i q;cases d;cases k with
   |cons h1 j=>
    cases j;have:=ca.km (t:=t) (l:=l) h1;subst this
    refine eg.conv (J':=[]) (.cons (.c (dz.refl _)) .nil) (λb x a=>by simp[aX]at a) ((aah (bytes:=bytes) o n ag (ig aG) u aL.r' (es:=List.map (t.enc U) l) (λe he=>by
     obtain⟨y,_,rfl⟩:=e0.1 he
     exact aL.sL) (by rw[iu];exact q)).mono ?_)
    rintro B s1 w ⟨rfl,rfl,hs⟩
    refine⟨rfl,.c (.arr 0 _ _ (by omega) λx a p i=>?_),λb x a=>?_⟩
    . have:x=cT.arr t l:=by
       simp only[cD.rest,wR,kO,qD,aO.cells,fe.cells,gL,je,a6,Nat.beq,dp]at a;grind
      subst this;simp only[cT.dd,dp]at i;rw[<-i,iu]
    . have g:(if b=0 then some (cT.arr t l)else none)=some x:=by
       rw[<-a];simp only[cD.rest,wR,kO,qD,aO.cells,fe.cells,gL,je,a6];cases b<;>rfl
      split at g
      . rename_i m;cases g;subst m;exact⟨by omega,_,hs,.arr t l⟩
      . cases g
 . cases d
def oj{α:Type}(bytes:Nat)(l:List α):Option (List α×List α):=(fx bytes l).map λr=>(l,r)
def zQ(U:cL)(f:Nat)(t:aL)(bytes:Nat):cD U:=
 ⟨f,[.c (.arr 0)],[.arr t],[.slice t],.c (.arr 1),[.arr t,.arr t],[.slice t,.slice t],λ(l:List (t.den U.D))=>oj bytes l⟩
theorem ZD{fn:Func}{sz bytes:Nat}{z:List C}{A:List T}{a:a'}(n:P.funcs[f]?=some fn)(l:fn.body.bind (Shv.resolve P fn.ntmps)=some (wz sz bytes z))(ag:ie P fn.results.toList=some [.tmp 2])
 (aG:1<=fn.ntmps)(y:toTs z=some A)(u:0<sz)(he:∀e,e∈es->e.length=sz)(q:uI bytes es.length=true)(h0:aX a 0=some (.arr sz es)):
 eg P f [.c (.arr 0 sz 0 es.length)] a 1 (λr J' N'=>N'=2/\r= .c (.arr 1 sz 0 es.length)/\aX J' 0=some (.arr sz es)/\aX J' 1=some (.arr sz es)):=by
 have d:=Oq q;refine eg.tidy (Q:=λr J' N'=>∃b,1<=b/\r= .c (.arr b sz 0 es.length)/\aX J' 0=some (.arr sz es)/\aX J' b=some (.arr sz es)) (eg.mk n l ag rfl (by simpa using aG) ?_) ?_
 . unfold wz;refine cq.seq (cq.region ?_);simp only[kt,hf,f',aR,aQ.get,jV,eu,fR,cP.neutral,b5,andThen];refine .inr ⟨λ_=>trivial,.inl trivial,?_⟩;refine cq.seq (cq.seq (cq.region ?_));simp only[kt,hf,f',aR,aQ.get,jV,eu,cP.neutral,b5,andThen,look,gi,h6];refine .inr ⟨λ_=>by simp,.inl trivial,?_⟩;refine .inr ?_;simp only[Nat.reduceEqDiff,b9,b5,jV,rV];intro b B;refine cq.cond (b:=b) (p:=True) (by simp[aQ.get,look,sC]) trivial (λG=>?_) (λF=>?_)
   . have m:es=[]:=(by grind);subst m;refine cq.seq (cq.region ?_);simp only[kt,hf,f',aR,aQ.get,jV,eu,cP.neutral,b5,andThen];refine .inr ⟨λ_=>trivial,.inl trivial,?_⟩;refine cq.conv (Conv.own (k:=2) (g:=true) (sz:=sz) rfl u (by omega)) (cq.ret ?_);refine⟨_,_,rfl,⟨rfl,trivial⟩,_,by omega,rfl,?_,?_⟩
     . rw[c2,bx];exact h0
     . rw[c2,ae rfl]
   . refine cq.skip ?_;refine cq.seq (cq.region ?_);simp only[kt,hf,f',aR,aQ.get,jV,eu,cP.neutral,b5,andThen,look,jO,y,ao,Nat.reduceEqDiff,b9,bZ,reduceCtorEq,List.replicate];refine .inr ⟨λ_=>trivial,.inr trivial,?_⟩;refine .inr ⟨λ_=>by simp,.inl trivial,?_⟩;have j:∀v:List (List T),mn (df a (1+16*1+16*2) (.arr sz v)) (.c (.arr 0 sz 0 es.length))=some (es,some 0):=by
      intro v;simp[mn,c2,h0]
     refine .inr ?_;simp only[gi,h6,hR]at j⊢;rw[j];simp only[ao,c2,b5,dp,Nat.reduceMul,Nat.reduceAdd,show ¬(0=49) by omega,show ¬(49=0) by omega,b9];refine⟨λ_=>⟨trivial,trivial,trivial,trivial,trivial,by simp,he,by simpa using d.1,by simpa using d.2⟩,.inr trivial,?_⟩;refine .inr ⟨λ_=>by simp,.inl trivial,?_⟩;refine cq.ret ⟨_,[.c (.arr 81 sz 0 es.length)],rfl,⟨rfl,trivial⟩,81,by omega,rfl,?_,?_⟩
     . rw[c2,bx,fP,bx,c2,bx];exact h0
     . rw[c2,ae rfl];simp
 . rintro r J' N' ⟨b,D,rfl,t,hs⟩
   refine⟨[0,b],_,_,by simp;omega,rfl,?_,λi x w=>⟨x,w,?_⟩,rfl,rfl,?_⟩
   . simp only[V.bO,C.bO,pos,al (show ¬0=b by omega),b5];exact .c (dz.refl _)
   . cases x with
     |box cs=>exact .box (ba.self dz.refl _)
     |arr sz es=>exact .arr
     |set ks=>exact .same
     |buf E s=>exact .same
     |b7 E c=>exact .b7 (dz.refl _)
     |cA sz es i o c=>exact .cA (dz.refl _)
   . simp[fI,hs,t,aX,bP.bO]
theorem Ku{fn:Func}{sz bytes:Nat}{z:List C}{H:List T}{t:aL}(s:P.funcs[f]?=some fn)(o:fn.body.bind (Shv.resolve P fn.ntmps)=some (wz sz bytes z))(ag:ie P fn.results.toList=some [.tmp 2])
 (aG:Nat.ble 1 fn.ntmps=true)(G:toTs z=some H)(B:t.sz U=sz):hB P (zQ U f t bytes):=by
 intro(l:List (t.den U.D)) r bw J J1 k aI;subst B;have d:(fx bytes l).map (λr=>(l,r))=some r:=bw;unfold fx at d;split at d
 . rename_i v;cases d;cases k with
   |cons h1 j=>
    cases j;obtain⟨sz,n,rfl,_,q⟩:=h1.hd;obtain⟨_,y,E,F⟩:=aI 0 (.arr t l) rfl;cases F;have:=q (.arr t l) rfl (t.sz U,l.length) rfl;simp only[dv]at this;obtain⟨rfl,rfl⟩:=this;have u:l.length=(l.map (t.enc U)).length:=by rw[iu]
    rw[u]
    refine(ZD (bytes:=bytes) s o ag (ig aG) G aL.r' (es:=List.map (t.enc U) l) (λe he=>by
     obtain⟨y,_,rfl⟩:=e0.1 he
     exact aL.sL) (by rw[iu];exact v) E).mono ?_
    rintro L s1 I ⟨rfl,rfl,w,A⟩
    have g:∀b x,a6 ((zQ U f t bytes).rest (l,l)) b=some x->(b=0\/b=1)/\x=cT.arr t l:=by
     intro b x a;have K:(if b=0 then some (cT.arr t l)else if b=1 then some (cT.arr t l)else none)=some x:=by
      rw[<-a];simp only[cD.rest,zQ,kO,qD,aO.cells,fe.cells,gL,je,a6]
      match b with
      |0=>rfl
      |1=>rfl
      |_+2=>rfl
     grind
    refine⟨rfl,.c (.arr 1 _ _ (by omega) λx a p i=>?_),λb x a=>?_⟩
    . obtain⟨_,rfl⟩:=g _ _ a;simp only[cT.dd,dp]at i;rw[<-i,iu]
    . obtain⟨m,rfl⟩:=g _ _ a;rcases m with rfl|rfl
      . exact⟨by omega,_,w,.arr t l⟩
      . exact⟨by omega,_,A,.arr t l⟩
 . cases d
end
end
section
open Go Go.Proofs Go.Proofs.YtdjagncoefjfeaaGreat Go.Shelf
variable {U:cL}
def Eg(U:cL)(f E a:Nat):cD U:=
 ⟨f,[.c (.ptr 0 0)],[.b7 E (.cM 1),.buf a],[.str],.aY [],[.b7 E (.cM 1),.buf a],[.str],λ(s:ak)=>some s⟩
section
variable {P:Program}{ρ:Ren}
theorem aai(L:Lays.n240 P ρ)(y:Builder.X72 P ρ){J:a'}{D n:Nat}{s:ak}(h0:aX J 0=some (.b7 (ρ.t 72) (.cM 1 n)))(h1:aX J 1=some (.buf D s)):
 eg P (ρ.f 240) [.c (.ptr 0 0)] J 2 (λr J' N'=>r= .aY []/\J'=J/\N'=2):=by
 intro φ S w B g A l O vs o;cases o with|cons M o=>
 cases o;have H:=M.hT;subst H;obtain⟨q,⟨p,v,aa,G,I⟩,z⟩:=g.blk 0 _ h0;have same:∀ w',w' = w->∃ (v:Value) (r:V) (i:dE) (bR:dT) (J':a') (N':Nat),Ending.returned (Value.tuple #[]) = Ending.returned v/\(r = .aY []/\J' = J/\N' = 2)/\cl i w' bR r v/\r.aD (lt N') = true/\qy i w' bR J'/\(∀ (b:Nat) x,aX J' b = some x->b<N'/\x.aD (lt N') = true)/\Ext B S bR w w'/\
  (∀(b:Nat) x,aX J' b=some x->(i b).2≠0->B (i b).1\/w.heap.size<=(i b).1)/\∀b,b<2->i b=φ b:=by
  rintro w' rfl
  exact⟨_,.aY [],φ,S,J,2,rfl,⟨rfl,rfl,rfl⟩,.aY [] [] rfl (by simp),rfl,g,A,Ext.refl,λb x a d=>.inl (l b x a d),λ_ _=>rfl⟩
 rcases G with rfl|rfl
 . have k:w.cell? ⟨(φ 0).1,0,none⟩=some (.pointer none):=by rw[js (vs:=[_,_]) aa];rfl
   have K:w.shape? (φ 0).1=some (ρ.t 72,2):=(by simp[World.shape?,aa]);have F:w.frozen? ⟨(φ 0).1,0,none⟩=false:=(by simp[World.frozen?,aa]);refine(Any.Builder_copyCheck_fresh L y (φ 0).1 w k K F).mono ?_
   rintro e w' ⟨rfl,rfl⟩
   obtain⟨N,u⟩:=JS (vs:=[.pointer none,v]) aa 0 (.pointer (some ⟨(φ 0).1,0,none⟩));have m:gx w S (w.setCell ⟨(φ 0).1,0,none⟩ (.pointer (some ⟨(φ 0).1,0,none⟩))) S:=⟨λ_ _ h=>h,λb j h=>q5 (u b (λe=>z j (e▸h))) j⟩
   refine⟨_,.aY [],φ,S,J,2,rfl,⟨rfl,rfl,rfl⟩,.aY [] [] rfl (by simp),rfl,⟨λb x a=>?_,g.inj,λb j h=>?_⟩,A,⟨rfl,rfl,rfl,by simp,λb d dy=>u b (λe=>dy (e▸l 0 _ h0 q)),m,λ_ _ h=>.inl h⟩,λb x a d=>.inl (l b x a d),λ_ _=>rfl⟩
   . by_cases d:b=0
     . subst d;rw[h0]at a;cases a;exact⟨q,⟨_,v,N,.inr rfl,bn.mono (n:=λ_=>true) m (λ_ _=>rfl) (C.my _) I⟩,z⟩
     . exact c1.mono (n:=λ_=>true) m (λ_ _=>rfl) rfl (by cases x<;>simp[bP.aD,C.my]) (λE=>u _ (g.inj b 0 x _ a h0 d E q)) (g.blk b x a)
   . have:=g.st b j h;simpa using this
 . have k:w.cell? ⟨(φ 0).1,0,none⟩=some (.pointer (some ⟨(φ 0).1,0,none⟩)):=by rw[js (vs:=[_,_]) aa];rfl
   refine(Any.Builder_copyCheck_used L y (φ 0).1 w k).mono ?_
   rintro e w' ⟨rfl,rfl⟩
   exact same _ rfl
theorem aaj(L:Lays.n240 P ρ)(c:Builder.X72 P ρ){E a:Nat}(j:ρ.f 240=f)(dM:ρ.t 72=E):hB P (Eg U f E a):=by
 subst j;subst dM;intro(s:ak) r bw o J1 b aI;have ag:r=s:=mc bw.symm;subst ag;cases b with|cons b i=>
 cases i;have:=b.hT;subst this;have k:a6 ((Eg U (ρ.f 240) (ρ.t 72) a).iC r) 0=some (.b7 (ρ.t 72) (.cM 1)):=rfl;have l:a6 ((Eg U (ρ.f 240) (ρ.t 72) a).iC r) 1=some (.buf a r):=rfl;obtain⟨_,v,e,b0⟩:=aI 0 _ k;obtain⟨_,w,g,b1⟩:=aI 1 _ l;cases b1;cases b0 with| @b7 _ _ d b0=>
 cases b0 with|cM _ n p q=>
 refine(aai L c e g).mono ?_
 rintro u s1 m ⟨rfl,rfl,rfl⟩
 exact⟨rfl,.aY [] [] rfl (by simp),aI⟩
end
end
section
open Go Go.ChangeShapes Go.WideShapes Go.RowKit
variable {U:cL}
def aL.S7:aL->Nat
 |.bool=>1
 |.int k=>k.bits/8
 |.str=>16
 |.slice _=>24
 |.nm _=>0
def IM:List aL->Nat
 |[]=>0
 |t::r=>t.S7+IM r
def uf(l:List aL):Nat:=bif l.any λt=>Nat.ble 8 t.S7 then(IM l+7)/8*8 else IM l
def aL.bytes(U:cL)(t:aL):Nat:=uf (t.cells U)
inductive WF (U:cL):Cell U.D->Prop
 |bool (b:Bool):WF U ⟨.bool,b⟩
 |int (k:IntKind) (n:Int) (h:(Lit.int k n).wf=true):WF U ⟨.int k,n⟩
 |str (s:ak) (h:s.length<=reachBytes):WF U ⟨.str,s⟩
 |slice (t:aL) (l:List (t.den U.D)) (h:l.length<=reachBytes) (ag':l.length*t.bytes U<=reachBytes) (af:∀x,x∈l->∀c,c∈t.row U x->WF U c):WF U ⟨.slice t,l⟩
def cL.Total(U:cL):Prop:=∀n (l:List (Cell U.D)),l.map Cell.ty=U.dg n->∃x,U.make n l=some x
def DT:List aL->List aL->Bool
 |[],[]=>true
 |a::l,b::m=>aL.beq a b&&DT l m
 |_,_=>false
theorem Ml:∀{l m:List aL},DT l m=true->l=m
 |[],[],_=>rfl
 |a::l,b::m,h=>by
  simp only[DT,cC]at h;rw[aL.beq_eq h.1,Ml h.2]
 |[],_::_,h=>by cases h
 |_::_,[],h=>by cases h
def zp(P:Program)(g:TypeId->Option (List aL)):List Field->Nat->Nat->Option (List aL)
 |[],off,c=>match Nat.beq off c with
  |true=>some []
  |false=>none
 |f::r,off,c=>match g f.type with
  |none=>none
  |some a=>match Nat.beq f.offset off&&Nat.beq (P.cellsOf f.type) a.length with
   |false=>none
   |true=>match zp P g r (off+a.length) c with
    |none=>none
    |some b=>some (a++b)
def flat(P:Program)(U:cL)(st:TypeId->Option Nat):Nat->TypeId->Option (List aL)
 |0,_=>none
 |n+1,t=>match P.underlying t with
  |some .bool=>some [.bool]
  |some (.int k)=>some [.int k]
  |some .string=>some [.str]
  |some (.slice e)=>match st e with
   |some m=>match Nat.ble 1 (P.bytesOf e)&&Nat.ble (uf (U.dg m)) (P.bytesOf e)with
    |true=>some [.slice (.nm m)]
    |false=>none
   |none=>match flat P U st n e with
    |none=>none
    |some a=>match Nat.ble 1 (P.bytesOf e)&&Nat.ble (uf a) (P.bytesOf e)with
     |false=>none
     |true=>match a with
      |[ty]=>match ty.x2 with
       |true=>none
       |false=>some [.slice ty]
      |_=>none
  |some (.struct fs)=>zp P (flat P U st n) fs.toList 0 (P.cellsOf t)
  |some (.array k e)=>match flat P U st n e with
   |none=>none
   |some a=>match Nat.beq (P.cellsOf t) (k*a.length)&&Nat.beq (P.cellsOf e) a.length with
    |false=>none
    |true=>some (List.replicate k a).flatten
  |_=>none
theorem Jn{α:Type}{R:Nat->α->Prop}:∀(n:Nat),(∀i,i<n->∃x,R i x)->∃l:List α,l.length=n/\∀(i:Nat) x,l[i]?=some x->R i x
 |0,_=>⟨[],rfl,by simp⟩
 |n+1,h=>by
  obtain⟨l,af,ag⟩:=Jn n λi a=>h i (by omega);obtain⟨x,b⟩:=h n (by omega);refine⟨l++[x],by simp[af],λi y c=>?_⟩;grind
variable{v:Value}{t:TypeId}{a:Addr}{st:TypeId->Option Nat}{dg:List aL}
section
variable {H:Type}{enc:TypeId×Value->H}{P:Program}{w:World}
abbrev Old(w:World):dT:=λb _=>b<w.heap.size
structure Rd (U:cL)(w:World)(dg:List aL)(cs:List Value)(l:List (Cell U.D)):Prop where
 ty:l.map Cell.ty=dg
 wf:∀c,c∈l->WF U c
 rt:ba (λc v=>cd w (Old w) (Cell.enc U c) v) l cs
theorem zq{t:aL}{x:t.den U.D}(h1:WF U ⟨t,x⟩)(a:cd w (Old w) (Cell.enc U ⟨t,x⟩) v):Rd U w [t] [v] [⟨t,x⟩]:=
 ⟨rfl,by simpa using h1,.cons a .nil⟩
theorem GM:∀{a:List (DataW H)} {d:DataW H},d∈a->∀n∈d.weights P t,n∈DataW.weightsAll P t a
 |d0::a,d,b,n,aG=>by
  simp only[DataW.weightsAll,hQ];rcases eK.1 b with rfl|b
  . grind
  . exact .inr (GM b n aG)
theorem Lk{g:TypeId->Option (List aL)}{cs:List Value}:∀{fs:List Field} {off i:Nat} {dg:List aL},
 (∀f,f∈fs->∀a,g f.type=some a->∃l,Rd U w a ((cs.drop f.offset).take (P.cellsOf f.type)) l)->
 zp P g fs off i=some dg->cs.length=i->∃l,Rd U w dg (cs.drop off) l
 |[],off,i,dg,_,h,af=>by
  simp only[zp]at h;split at h
  . rename_i e;cases h;have:=c5 e;refine⟨[],rfl,by simp,?_⟩;rw[en (by omega)];exact .nil
  . cases h
 |f::r,off,i,dg,aq,h,af=>by
  simp only[zp]at h;split at h
  . cases h
  . rename_i a n;split at h
    . cases h
    . rename_i j;simp only[cC]at j;have h1:=c5 j.1;have s:=c5 j.2;split at h
      . cases h
      . rename_i b o;cases h;obtain⟨q,k⟩:=aq f (by simp) a n;obtain⟨l2,m⟩:=Lk (λf p=>aq f (by simp[p])) o af;refine⟨q++l2,by simp[k.ty,m.ty],?_,?_⟩
        . intro c d;rcases hQ.1 d with d|d
          . exact k.wf c d
          . exact m.wf c d
        . have e:cs.drop off=(cs.drop off).take a.length++cs.drop (off+a.length):=by rw[<-yF,yL]
          rw[e];refine ba.append ?_ m.rt;have:=k.rt;grind
theorem Pp{a:List aL}{cs:List Value}:∀(k off:Nat),(∀i,i<k->∃l,Rd U w a ((cs.drop (off+i*a.length)).take a.length) l)->cs.length=off+k*a.length->
 ∃l,Rd U w (List.replicate k a).flatten (cs.drop off) l
 |0,off,_,af=>by
  refine⟨[],rfl,by simp,?_⟩;rw[en (by omega)];exact .nil
 |k+1,off,aq,af=>by
  obtain⟨g,d⟩:=aq 0 (by omega);rw[Cd,uu]at d
  obtain⟨l2,f⟩:=Pp (a:=a) (cs:=cs) k (off+a.length) (λi j=>by
   have:=aq (i+1) (by omega)
   rwa [Nat.succ_mul,Cc (i*a.length),<-wD]at this) (by rw[af,Nat.succ_mul];omega)
  refine⟨g++l2,by simp[d.ty,f.ty,List.replicate_succ],?_,?_⟩
  . intro c b;rcases hQ.1 b with b|b
    . exact d.wf c b
    . exact f.wf c b
  . have e:cs.drop off=(cs.drop off).take a.length++cs.drop (off+a.length):=by rw[<-yF,yL]
    rw[e];exact ba.append d.rt f.rt
theorem aak{n:Nat}{cs:List Value}(h:w.cells? 0 a n=some cs):cs.length=n/\∀j,j<n->w.cell? (a.add j)=cs[j]?:=by
 unfold World.cells? at h;rw[ae (hv _)]at h;exact⟨by simpa using mapM_some_length h,λj b=>mapM_some_get h j j (by simp[b])⟩
theorem Ll(h:w.cell? a=some v):a.spot=none/\a.block<w.heap.size:=by
 unfold World.cell? at h;split at h
 . rename_i b;split at h
   . cases h
   . rename_i hs;refine⟨by simpa using hs,(BU.1 b).1⟩
 . cases h
theorem Ot{i j:Nat}(h:a.spot=none):(a.add i).add j=⟨a.block,a.off+i+j,none⟩:=by
 obtain⟨b,o,c⟩:=a;dsimp only at h;subst h;unfold Addr.add;grind
theorem Sn(b:U.Total){t:aL}{l:List (Cell U.D)}(h:l.map Cell.ty=t.cells U):∃x,t.row U x=l:=by
 have one:∀t:aL,l.map Cell.ty=[t]->∃x:t.den U.D,l=[⟨t,x⟩]:=by
  intro t h
  match l,h with
  |[⟨c,x⟩],h=>simp at h;subst h;exact⟨x,rfl⟩
 cases t with
 |nm n=>
  obtain⟨x,a⟩:=b n l h;exact⟨x,U.mk_eq n l x a⟩
 |bool=>obtain⟨x,a⟩:=one _ h;exact⟨x,a.symm⟩
 |int k=>obtain⟨x,a⟩:=one _ h;exact⟨x,a.symm⟩
 |str=>obtain⟨x,a⟩:=one _ h;exact⟨x,a.symm⟩
 |slice t=>obtain⟨x,a⟩:=one _ h;exact⟨x,a.symm⟩
def sq(P:Program)(U:cL)(st:TypeId->Option Nat):Prop:=∀e m,st e=some m->flat P U st 60 e=some (U.dg m)
def w1:List (TypeId×Nat)->TypeId->Option Nat
 |[],_=>none
 |p::l,t=>match Nat.beq p.1 t with
  |true=>some p.2
  |false=>w1 l t
def zr(P:Program)(U:cL)(st:TypeId->Option Nat)(t:TypeId)(dg:List aL):Bool:=
 match flat P U st 60 t with
 |some a=>DT a dg
 |none=>false
theorem Hl(h:zr P U st t dg=true):flat P U st 60 t=some dg:=by
 unfold zr at h;split at h
 . rename_i a b;rw[b,Ml h]
 . cases h
theorem Mm:∀{l:List (TypeId×Nat)} {t m},w1 l t=some m->(t,m)∈l
 |p::l,t,m,h=>by
  simp only[w1]at h;split at h
  . rename_i e;cases h;have:=c5 e;grind
  . exact .tail _ (Mm h)
theorem aeI{l:List (TypeId×Nat)}(h:(l.all λp=>zr P U (w1 l) p.1 (U.dg p.2))=true):sq P U (w1 l):=by
 intro e m he;rw[dH]at h;exact Hl (h _ (Mm he))
theorem ZE(g:sq P U st){n:Nat}{e:TypeId}(ht:P.underlying t=some (.slice e))(h:flat P U st (n+1) t=some dg):
 ∃ty a i,dg=[.slice ty]/\flat P U st i e=some a/\a=ty.cells U/\1<=P.bytesOf e/\uf a<=P.bytesOf e:=by
 simp only[flat,ht]at h;split at h
 . rename_i m f;split at h
   . rename_i b;cases h;simp only[cC]at b;exact⟨.nm m,U.dg m,60,rfl,g e m f,rfl,FU b.1,FU b.2⟩
   . cases h
 . split at h
   . cases h
   . rename_i a c;split at h
     . cases h
     . rename_i b;have d:1<=P.bytesOf e/\uf a<=P.bytesOf e:=(by simp_all);split at h
       . rename_i ty;split at h
         . cases h
         . rename_i aG;cases h;refine⟨ty,[ty],n,rfl,c,?_,d⟩;cases ty<;>first|rfl|cases aG
       . cases h
theorem Lm(aA:U.Total)(ax:sq P U st):∀(S n:Nat) (t:TypeId) (cs:List Value) (x:DataW H×List MemPlace) (dg:List aL),
 DataW.trod enc P w 0 (λ_=>true) true S t cs=some x->flat P U st n t=some dg->(∀k,k∈x.1.weights P t->k<=reachBytes)->∃l,Rd U w dg cs l:=by
 intro S;induction S with
 |zero=>intro n t cs x dg h;simp[DataW.trod]at h
 |succ m ih=>
  intro n t cs x dg h p N;cases n with
  |zero=>cases p
  |succ n=>
  have ap:=p;simp only[flat]at p;split at p
  . rename_i o;cases p;obtain⟨b,rfl,rfl⟩:=DataW.trod_bool o h;exact⟨_,zq (.bool b) (.bool b)⟩
  . rename_i k o;cases p;obtain⟨i,rfl,rfl,ay⟩:=DataW.trod_int o h;exact⟨_,zq (.int k i ay) (.int k i)⟩
  . rename_i o;cases p;obtain⟨s,rfl,rfl,hs⟩:=DataW.trod_string o h;have h1:s.data.toList.length<=reachBytes:=N _ (by simp[DataW.weights]);have A:s.data.toList.length=s.size:=rY;refine⟨_,zq (.str s.data.toList h1) (.str s ?_)⟩;unfold reachBytes at h1;unfold eG;omega
  . rename_i e o;obtain⟨ty,a,az,rfl,G,ab,am,an⟩:=ZE ax o ap;rcases DataW.trod_slice o h with⟨rfl,rfl⟩|⟨g,len,cap,B,O,al,L,rfl,rfl,_,aC,_,aB,I,_,_⟩
    . refine⟨_,zq (.slice ty [] (hv _) (by simp) (by simp)) ?_⟩;exact .slice [] none 0 0 0 0 (λ_ _=>default) (by simp) (by simp) (by simp) (by simp) (by simp) (by simp)
    . cases L;have aD:(B.length+O.length)*P.bytesOf e<=reachBytes:=by
       have:=N ((B.length+O.length)*P.bytesOf e) (by simp[DataW.weights,o]);exact this
      have R:len<=reachBytes:=by
       have h1:B.length+O.length<=(B.length+O.length)*P.bytesOf e:=FN _ am;omega
      have K:len*uf a<=reachBytes:=by
       have h1:len*uf a<=(B.length+O.length)*P.bytesOf e:=Nat.mul_le_mul (by omega) an;omega
      have dM:∀i,i<len->∃Q:ty.den U.D,∃z,z.length=P.cellsOf e/\(∀j,j<P.cellsOf e->w.cell? ((g.add (i*P.cellsOf e)).add j)=z[j]?)/\Rd U w a z (ty.row U Q):=by
       intro i u;have J:=I i u;have ao:B[i]?=some B[i]:=e' (by omega);rw[ao]at J;cases F:w.cells? 0 (g.add (i*P.cellsOf e)) (P.cellsOf e)with
       |none=>rw[F]at J;cases J
       |some z=>
        rw[F]at J;obtain⟨h1,A⟩:=aak F
        obtain⟨l,af⟩:=ih az e z _ a J G (λk X=>N k (by
         simp only[DataW.weights,o,eK,hQ];right;left
         exact GM (e0.2 ⟨B[i],B7 _,rfl⟩) k X))
        obtain⟨Q,aE⟩:=Sn aA (t:=ty) (by rw[af.ty,ab]);grind
      obtain⟨xs,ai,ak⟩:=Jn len dM;have aa:len≠0->P.cellsOf e=ty.sz U/\0<P.cellsOf e:=by
       intro M;obtain⟨Q,z,h1,_,E⟩:=dM 0 (by omega);have y:=E.rt.length;rw[aL.SY,h1]at y;exact⟨y.symm,by rw[<-y];exact aL.r'⟩
      have Z:len≠0->g.spot=none:=by
       intro M;obtain⟨Q,z,h1,A,E⟩:=dM 0 (by omega);have h0:=A 0 (aa M).2;rw[e' (by rw[h1];exact(aa M).2)]at h0;have bc:=(Ll h0).1;simpa[Addr.add]using bc
      have aj:∀x,x∈xs->∃i:Nat,xs[i]?=some x/\i<len:=by
       intro x C;obtain⟨i,u⟩:=FT.1 C;grind
      refine⟨_,zq (t:= .slice ty) (x:=xs) (.slice ty xs (by omega) (by rw[ai];unfold aL.bytes;rw[<-ab];exact K) ?_) ?_⟩
      . intro x C c F;obtain⟨i,u,_⟩:=aj x C;obtain⟨z,_,_,E⟩:=ak i x u;exact E.wf c F
      . have K:(xs.map (ty.enc U)).length=len:=(by simp[ai]);show cd w (Old w) (.slice (xs.map (ty.enc U))) (.slice (some g) len cap);rw[<-K];refine .slice (xs.map (ty.enc U)) (some g) cap (P.cellsOf e) g.block g.off (λi j=>(w.cell? ⟨g.block,g.off+i*P.cellsOf e+j,none⟩).getD default) (by omega) ?_ ?_ ?_ ?_ ?_
        . rw[K];unfold reachBytes at R;unfold eI;omega
        . intro r ag;obtain⟨x,C,rfl⟩:=e0.1 ag;obtain⟨i,_,u⟩:=aj x C;rw[aL.sL];exact(aa (by omega)).1.symm
        . intro M;have au:len≠0:=by intro h0;apply M;rw[<-List.length_eq_zero_iff];omega
          have:=Z au;rw[show g=⟨g.block,g.off,g.spot⟩from rfl,this]
        . intro i j u W;rw[K]at u;obtain⟨Q,z,h1,A,E⟩:=dM i u;have y:=A j W;rw[e' (by omega)]at y;have Y:=Z (by omega);have aM:(g.add (i*P.cellsOf e)).add j=⟨g.block,g.off+i*P.cellsOf e+j,none⟩:=Ot Y;rw[aM]at y;exact⟨(Ll y).2,by rw[y];rfl⟩
        . intro i j r aF ag ae;rw[qe,bo]at ag;obtain⟨x,C,rfl⟩:=ag;obtain⟨z,h1,A,E⟩:=ak i x C;have u:i<len:=by have:=(ds.1 C).1;omega
          rw[aL.u9,qe,bo]at ae;obtain⟨c,F,rfl⟩:=ae;obtain⟨v,ah,aw⟩:=E.rt.get F;have W:j<P.cellsOf e:=by have:=(ds.1 ah).1;omega
          have y:=A j W;have Y:=Z (by omega);have aM:(g.add (i*P.cellsOf e)).add j=⟨g.block,g.off+i*P.cellsOf e+j,none⟩:=Ot Y;rw[aM,ah]at y;show cd w (Old w) _ ((w.cell? ⟨g.block,g.off+i*P.cellsOf e+j,none⟩).getD default);rw[y];exact aw
  . rename_i fs o;obtain⟨xs,al,L,rfl,af,R,I⟩:=DataW.trod_struct o h;cases L
    have:=Lk (U:=U) (w:=w) (P:=P) (cs:=cs) (fs:=fs.toList) (off:=0) (λf ar a G=>by
     obtain⟨i,u⟩:=FT.1 ar;have V:fs[i]?=some f:=(by simpa using u);have aq:=I i f V;have ad:i<xs.length:=by rw[R];exact(BU.1 V).1
     rw[e' ad]at aq
     exact ih n f.type _ _ a aq G (λk X=>N k (by
      simp only[DataW.weights,o]
      exact DataW.weights_mem_each (j:=i) (t:=f.type) (d:=xs[i].1) (by simp[V]) (by simp[ad]) k X))) p af
    simpa using this
  . rename_i k e o;split at p
    . cases p
    . rename_i a G;split at p
      . cases p
      . rename_i T;cases p;simp only[cC]at T;have h1:=c5 T.1;have A:=c5 T.2;obtain⟨xs,al,L,rfl,af,R,I⟩:=DataW.trod_array o h;cases L
        have:=Pp (U:=U) (w:=w) (a:=a) (cs:=cs) k 0 (λi u=>by
         have aq:=I i u;rw[e' (by omega)]at aq
         obtain⟨l,af⟩:=ih n e _ _ a aq G (λq av=>N q (by
          simp only[DataW.weights,o]
          exact GM (e0.2 ⟨xs[i],B7 _,rfl⟩) q av))
         rw[A]at af
         exact⟨l,by rw[hR];exact af⟩) (by rw[af,h1,hR])
        simpa using this
  . cases p
end
end
section
open Go Go.ChangeShapes Go.WideShapes Go.RowKit
variable {U:cL}
def isAgg(P:Program)(t:TypeId):Bool:=
 match P.underlying t with
 |some (.struct _)=>true
 |some (.array _ _)=>true
 |_=>false
def mg(P:Program)(U:cL)(st:TypeId->Option Nat):List TypeId->List e5->List aL->Bool
 |[],[],[]=>true
 |t::ts,.row m::a,.nm b::dg=>(Nat.beq m b&&(isAgg P t&&zr P U st t (U.dg m)))&&mg P U st ts a dg
 |t::ts,.c (.hole ty)::a,d::dg=>(aL.beq ty d&&(!ty.x2&&(!isAgg P t&&zr P U st t [ty])))&&mg P U st ts a dg
 |_,_,_=>false
variable{st:TypeId->Option Nat}{b0 N f:Nat}{v:Value}{t:TypeId}{D:Nat->Type}{gC:List e5}{ts:List aL}{c:List MemPlace}
section
variable {H:Type}{enc:TypeId×Value->H}{P:Program}{w:World}{φ:dE}
theorem J5:∀{d:List TypeId} {b:List e5} {dg:List aL},mg P U st d b dg=true->d.length=dg.length
 |[],[],[],_=>rfl
 |[],[],_::_,h=>by cases h
 |[],_::_,_,h=>by cases h
 |_::_,[],_,h=>by cases h
 |_::_,a::_,[],h=>by
  cases a with
  |c x=>cases x<;>cases h
  |_=>cases h
 |t::ts,a::b,ty::dg,h=>by
  have:mg P U st ts b dg=true:=by
   cases a with
   |row m=>cases ty with
    |nm e=>simp only[mg,cC]at h;exact h.2
    |_=>cases h
   |c x=>cases x with
    |hole ty=>simp only[mg,cC]at h;exact h.2
    |_=>cases h
   |_=>cases h
  simp[J5 this]
theorem ZF{r:Reach}(hs:isAgg P t=true)(h:Value.okWide P w r b0 t v):∃cs,v= .agg cs:=by
 unfold isAgg at hs;unfold Value.okWide at h;grind
theorem ZG{r:Reach}(hs:isAgg P t=false)(h:Value.okWide P w r b0 t v):v.cells=#[v]:=by
 unfold isAgg at hs;unfold Value.okWide at h;have a:Cell.okWide P w r b0 t v:=by grind
 cases v with
 |agg cs=>
  unfold Cell.okWide at a;split at a<;>first|(rename_i e;cases e)|(rename_i e _;cases e)|skip
  unfold Cell.ok at a;grind
 |_=>rfl
theorem Kv{S:dT}:∀{l:List (Cell U.D)} {vs:List Value},ba (λc v=>cd w S (Cell.enc U c) v) l vs->ba (bn φ w S) ((l.map bm.t).map bm.oW) vs
 |[],[],.nil=>.nil
 |c::l,v::vs,.cons h1 a=>.cons h1 (Kv a)
theorem Ln(n:U.Total)(φ:dE){st:TypeId->Option Nat}(G:sq P U st){b0:Nat}:∀(ts:List TypeId) (e:List e5) (dg:List aL) (args:List Value) (i:List (DataW H)) (ps:List MemPlace),
 mg P U st ts e dg=true->(∀(j:Nat) t v,ts[j]?=some t->args[j]?=some v->Value.okWide P w .any b0 t v)->
 DataW.TrodAll enc P w 0 (λ_=>true) true ts args i ps->(∀k,k∈DataW.weightsEach P ts i->k<=reachBytes)->
 ∃(l:eQ U) (xs:List (bG U)),l.map Cell.ty=dg/\(∀c,c∈l->∀d,d∈c.ty.row U c.val->WF U d)/\kP e l=(xs,[])/\(∀x,x∈xs->fQ x=true)/\ba (cl φ w (Old w)) (xs.map fh) args
 |[],[],[],args,i,ps,_,_,ht,_=>by
  obtain⟨rfl,rfl,rfl⟩:=trodAll_nil ht;exact⟨[],[],rfl,by simp,rfl,by simp,.nil⟩
 |t::ts,S::e,ty::dg,args,i,ps,a,K,ht,M=>by
  obtain⟨v,vs,d,T,p,q,rfl,rfl,rfl,⟨I,h1⟩,V⟩:=trodAll_cons ht;have L:=K 0 t v rfl rfl;have N:∀k,k∈d.weights P t->k<=reachBytes:=λk z=>M k (by simp only[DataW.weightsEach,hQ];exact .inl z);have R:∀(J:mg P U st ts e dg=true),_:=λJ=>Ln n φ (st:=st) G (b0:=b0) ts e dg vs T q J (λj t v X ab=>K (j+1) t v (by simpa using X) (by simpa using ab)) V
   (λk z=>M k (by simp only[DataW.weightsEach,hQ];exact .inr z))
  unfold mg at a;split at a
  . grind
  . rename_i t0 ae m ad ai ag aM r di;cases aM;cases r;cases di;simp only[cC]at a;obtain⟨⟨D,hs,u⟩,F⟩:=a;have E:=c5 D;subst E;obtain⟨l,xs,A,Y,B,Z,C⟩:=R F;obtain⟨cs,rfl⟩:=ZF hs L;obtain⟨Q,b⟩:=Lm n G I 60 t _ _ _ h1 (Hl u) N;obtain⟨x,O⟩:=Sn n (t:= .nm m) b.ty;refine⟨⟨.nm m,x⟩::l,.agg ((aL.row U (.nm m) x).map .t)::xs,by simp[A],?_,?_,?_,?_⟩
    . intro c f;rcases eK.1 f with rfl|f
      . intro d s;exact b.wf d (O▸s)
      grind
    . simp only[kP,kO,B]
    . intro y g;rcases eK.1 g with rfl|g
      . simp[fQ,bm.qk]
      grind
    . refine .cons ?_ C;have:=Kv (φ:=φ) b.rt;rw[<-O]at this;exact cl.agg (vs:=cs.toList) this
  . rename_i t0 ae af ad aj ag aM r di;cases aM;cases r;cases di;simp only[cC,r0]at a;obtain⟨⟨D,aG,hs,u⟩,F⟩:=a;have E:=aL.beq_eq D;subst E;obtain⟨l,xs,A,Y,B,Z,C⟩:=R F;rw[ZG hs L]at h1;obtain⟨Q,b⟩:=Lm n G I 60 t _ _ _ h1 (Hl u) N
    match Q,b with
    |[],b=>cases b.ty
    |[⟨o,x⟩],b=>
     have aa:o=af:=by have:=b.ty;simpa using this
     subst aa;refine⟨⟨o,x⟩::l,.c (.t ⟨o,x⟩)::xs,by simp[A],?_,?_,?_,?_⟩
     . intro c f;rcases eK.1 f with rfl|f
       . intro d s;refine b.wf d ?_;cases o<;>first|exact s|cases aG
       grind
     . simp only[kP,kO,qD,B]
     . intro y g;rcases eK.1 g with rfl|g
       . rfl
       grind
     . refine .cons ?_ C;cases b.rt with
       |cons W ah=>exact .c W
    |_::_::_,b=>have:=b.ty;simp at this
  . cases a
 |[],[],_::_,_,_,_,a,_,_,_=>by cases a
 |[],_::_,_,_,_,_,a,_,_,_=>by cases a
 |_::_,[],_,_,_,_,a,_,_,_=>by cases a
 |t::ts,S::e,[],_,_,_,a,_,_,_=>by
  cases S with
  |row m=>cases a
  |c x=>cases x<;>cases a
  |agg l=>cases a
  |aY l=>cases a
theorem aO.Sw:∀(ts:List aL) (l:eQ U),l.map Cell.ty=ts->∃h:aO U.D ts,aO.cells U.D ts h=l
 |[],[],_=>⟨(),rfl⟩
 |[t],[⟨a,x⟩],h=>by
  have:a=t:=by simpa using h
  subst this;exact⟨x,rfl⟩
 |t::u::r,⟨a,x⟩::l,h=>by
  simp only[fB,yE]at h;obtain⟨h1,c⟩:=h;subst h1;obtain⟨y,e⟩:=aO.Sw (u::r) l (by simpa using c);exact⟨(x,y),by show⟨a,x⟩::aO.cells U.D (u::r) y=_;rw[e]⟩
 |[],_::_,h=>by simp at h
 |_::_,[],h=>by simp at h
 |[_],_::_::_,h=>by simp at h
theorem fe.Bp:∀{ts:List aL} {t:aL} (h:fe D t ts),fe.dec D t ts (fe.cells D t ts h)=some h
 |[],t,x=>Cell.Qp
 |u::r,t,x=>by
  unfold fe.dec fe.cells;simp only[vb,Cell.Qp];rw[fe.Bp];rfl
theorem aO.Bp:∀{ts:List aL} (h:aO D ts),aO.dec D ts (aO.cells D ts h)=some h
 |[],_=>rfl
 |_::_,h=>fe.Bp h
theorem aO.gT:∀{ts:List aL} {l:List (Cell D)},l.map Cell.ty=ts->∃h,aO.dec D ts l=some h:=by
 have go:∀(ts:List aL) (l:List (Cell D)),l.map Cell.ty=ts->∃h:aO D ts,aO.cells D ts h=l:=by
  intro ts;induction ts with
  |nil=>intro l h;cases l with
   |nil=>exact⟨(),rfl⟩
   |cons=>cases h
  |cons t r ih=>
   intro l h;cases l with
   |nil=>cases h
   |cons c l=>
    obtain⟨f,x⟩:=c;simp only[fB,yE]at h;obtain⟨h1,e⟩:=h;subst h1;obtain⟨y,a⟩:=ih l e;cases r with
    |nil=>
     cases l with
     |nil=>exact⟨x,rfl⟩
     |cons=>cases e
    |cons u r=>exact⟨(x,y),by show⟨f,x⟩::aO.cells D (u::r) y=_;rw[a]⟩
 intro ts l h;obtain⟨y,a⟩:=go ts l h;exact⟨y,by rw[<-a];exact aO.Bp y⟩
def Ok(U:cL)(ts:List aL)(h:aO U.D ts):Prop:=∀c,c∈aO.cells U.D ts h->∀d,d∈c.ty.row U c.val->WF U d
theorem adT:cx N ([]:bf U) []:=λb x h=>by cases h
theorem Ou{J:bf U}:∀{xs:List (bG U)},(∀x,x∈xs->fQ x=true)->ba (ca N J) xs (xs.map fh)
 |[],_=>.nil
 |x::xs,h=>.cons (v8 (h x (by simp))).1 (Ou λy a=>h y (by simp[a]))
theorem Mn{k:Nat->Bool}:∀{xs:List (bG U)},(∀x,x∈xs->fQ x=true)->V.aD.V.dI k (xs.map fh)=true
 |[],_=>rfl
 |x::xs,h=>by
  simp only[fB,V.aD.V.dI,cC];exact⟨(v8 (N:=0) (J:=[]) (h x (by simp))).2 k,Mn λy a=>h y (by simp[a])⟩
variable{F:aO U.D ts->Option (aO U.D [.bool])}
theorem ahg(Q:U.Total)(hs:hB P ⟨f,gC,[],ts,.c (.hole .bool),[],[.bool],F⟩)
 (O:∀h:aO U.D ts,Ok U ts h->F h=some true){st:TypeId->Option Nat}(K:sq P U st){i:List TypeId}(G:mg P U st i gC ts=true)
 {b0:Nat}{args:Array Value}{m:List (DataW H)}{ps:List MemPlace}(L:∀(j:Nat) t v,i[j]?=some t->args[j]?=some v->Value.okWide P w .any b0 t v)
 (ht:DataW.TrodAll enc P w 0 (λ_=>true) true i args.toList m ps)(N:∀k,k∈DataW.weightsEach P i m->k<=reachBytes):
 Calls P f args w λe w'=>e= .returned (.bool true)/\Below w.heap.size w w':=by
 obtain⟨l,xs,A,B,C,o,E⟩:=Ln Q (λb=>(b,0)) K i gC ts args.toList m ps G (λj t v u M=>L j t v u (by simpa using M)) ht N;obtain⟨h,aa⟩:=aO.Sw ts l A;have bw:=O h (λc n d s=>B c (aa▸n) d s)
 have q:=hs h true bw (xs.map fh) [] (by
  show ba (ca 0 _) (kP gC (aO.cells U.D ts h)).1 _;rw[aa,C];exact Ou o) (by
  show cx 0 (gL 0 [] _) []
  exact adT)
 have:=q (λb=>(b,0)) (Old w) w (λ_=>False) {blk:=λb x a=>(by cases a),inj:=λb R x y a=>(by cases a),st:=λb j p=>p} (λb x a=>by cases a) (λb x a=>by cases a)
  (Mn o) args.toList E
 rw[Array.toArray_toList]at this;refine this.mono λe w' ⟨v,r,S,bR,J',N',he,⟨_,ag,_⟩,J,_,_,_,g,_⟩=>?_;cases ag with
 |c n=>
  cases n with
  |t c=>
   cases J with
   |c I=>
    cases I;exact⟨he,g.os,g.tape,g.output,g.size,λk z=>g.block k z (λh=>h)⟩
theorem ZH{f:Func}{s:ChangeSpec}{q zC o:Bool}{W g:World}{args:Array Value}{d gs:List (DataW H)}
 (dj:DataW.Whole enc P f.params.toList s.vars false W args.toList d gs c)(l:Below W.heap.size W g)
 (hres:∀(b:Nat) (e:Nat->Bool) (u:Bool),DataW.TrodAll enc P g b e u f.resultTypes.toList (v.resultList f.resultTypes.size) (s.fn H (d++gs)).results [])
 (k:∀e:Nat->Bool,(∀p∈c,e p.block=true)->DataW.TrodAll enc P g 0 e true f.params.toList args.toList (s.fn H (d++gs)).args c)
 (n:∀e:Nat->Bool,(∀p∈c,e p.block=true)->DataW.TrodVars enc P g e s.vars (s.fn H (d++gs)).vars [])
 (x:∀(j:Nat) (t:TypeId) (r:Value),f.resultTypes[j]?=some t->(v.resultList f.resultTypes.size)[j]?=some r->Value.okWide P g .any 0 t r):
 s.post enc P f false q zC o W args v g:=by
 have aC:=dj.lt;have m:∀p∈c,(λb=>decide (b<W.heap.size)) p.block=true:=λp i=>by simpa using aC p i
 refine⟨d,gs,c,[],c,[],dj,hres _ _ _,k _ m,n _ m,l.frame _,λ_=>?_⟩;refine⟨x,(s.fn H (d++gs)).results++(s.fn H (d++gs)).args,(s.fn H (d++gs)).vars,c,⟨c,[],?_,n _ (λ_ _=>rfl),by simp,?_,λh=>by cases h⟩,λp i _=>i⟩
 . have:=trodAll_append (k (λ_=>true) (λ_ _=>rfl)) (hres 0 (λ_=>true) true);simpa using this
 . intro b off i;obtain⟨_,_,_,_,_,y,_⟩:=dj;rw[World.frozen?_of_block (w:=W) (a:=⟨b,off,none⟩) (l.block b (aC _ i))];exact y b off i
theorem ahh{fn:Func}{s:ChangeSpec}(ak:U.Total)
 (hs:hB P ⟨f,gC,[],ts,.c (.hole .bool),[],[.bool],F⟩)
 (aj:∀h:aO U.D ts,Ok U ts h->F h=some true){st:TypeId->Option Nat}(af:sq P U st)(G:mg P U st fn.params.toList gC ts=true)
 {L:TypeId}(hres:fn.resultTypes=#[L])(htb:P.underlying L=some .bool)(B:s.vars=[])
 (R:∀g:List (DataW H),g.length=ts.length->(s.fn H g).results=[.lit (.bool true)]/\(s.fn H g).args=g/\(s.fn H g).vars=[])
 (z:(laidOutB P&&mapsRowed P)=true)(Y:fn.params.toList.all (λt=>decide (t<P.types.size))=true)
 (ae:((List.range P.types.size).all λt=>match P.underlying t with|some (.slice e)=>decide (0<P.cellsOf e)|_=>true)=true)
 {W:World}{base:Nat}{args:Array Value}{g gs:List (DataW H)}{N:List MemPlace}{O zC M:Bool}
 (J:∀(j:Nat) t v,fn.params[j]?=some t->args[j]?=some v->Value.okWide P W .any base t v)
 (dj:DataW.Whole enc P fn.params.toList s.vars false W args.toList g gs N)
 (y:(DataW.weightsEach P (fn.params.toList++s.plain.varTypes P) (g++gs)).all (· <=reachBytes)=true):
 Calls P f args W λe n=>∃v,e= .returned v/\s.post enc P fn false O zC M W args v n:=by
 have w:=dj;obtain⟨p,q,u,gV,rfl,S,bS⟩:=dj;rw[B]at gV;obtain⟨rfl,rfl⟩:=trodVars_none gV;have ai:s.plain.varTypes P=[]:=by show s.vars.filterMap _=[]<;>simp[B]
 rw[ai,lD,lD,dH]at y;have E:g.length=ts.length:=by
  have h1:∀{i:List TypeId} {vs:List Value} {g:List (DataW H)} {ps:List MemPlace},DataW.TrodAll enc P W 0 (λ_=>true) true i vs g ps->g.length=i.length:=by
   intro i;induction i with
   |nil=>intro vs g ps h;obtain⟨_,rfl,_⟩:=trodAll_nil h;rfl
   |cons t r ih=>intro vs g ps h;obtain⟨_,_,_,_,_,_,_,rfl,_,_,o⟩:=trodAll_cons h;simp[ih o]
  rw[h1 u,J5 G]
 obtain⟨Z,ab,ad⟩:=R g E;simp only[cC]at z;have K:=kids_rows z.1 z.2;have ag:=slices_full_of P ae;refine(ahg ak hs aj af G (λj t v V ah=>J j t v (by simpa using V) ah) u (λk X=>by simpa using y k X)).mono λe n ⟨he,C⟩=>?_;subst he;refine⟨_,rfl,ZH w C ?_ ?_ ?_ ?_⟩
 . intro b m am;rw[lD,Z,hres];exact trodAll_cons_mk (shut_bool htb _) trodAll_mk0
 . intro m I;rw[lD,ab];have aC:=w.lt;clear w S bS y J E;have c9:∀t,t∈fn.params.toList->t<P.types.size:=λt ht=>by simpa using dH.1 Y t ht
   have go:∀ {i:List TypeId} {vs:List Value} {g:List (DataW H)} {ps:List MemPlace},(∀ t,t∈i->t<P.types.size)->(∀ p∈ps,p.block<W.heap.size/\m p.block = true)->
    DataW.TrodAll enc P W 0 (λ_=>true) true i vs g ps->DataW.TrodAll enc P n 0 m true i vs g ps:=by
    intro i;induction i with
    |nil=>intro vs g ps _ _ h;obtain⟨rfl,rfl,rfl⟩:=trodAll_nil h;exact trodAll_mk0
    |cons t r ih=>
     intro vs g ps c9 A h;obtain⟨v,an,d,al,a,b,rfl,rfl,rfl,⟨Q,h1⟩,o⟩:=trodAll_cons h;refine⟨a,b,⟨Q,DataW.trod_stays (T:=(· < P.types.size)) K (λ{t e}=>ag t e) (by intro aa;cases aa) (c9 t (by simp)) h1 (λx l=>C.same (A x (by simp[l])).1) (λx l=>(A x (by simp[l])).2)⟩,ih (λt ht=>c9 t (by simp[ht])) (λx l=>A x (by simp[l])) o,rfl⟩
   rw[lD];exact go c9 (λx l=>⟨aC x (by simp[l]),I x (by simp[l])⟩) u
 . intro m I;rw[lD,ad,B];exact rfl
 . exact ok_one hres rfl (okWide_bool_mk htb _)
end
end
section
open Go
theorem kc{a b:Int}(h1: -9223372036854775808<=a+b:=by omega)(c:a+b<=9223372036854775807:=by omega):aN .i64 a b=a+b:=by unfold aN;rw[IntKind.wrap_i64];omega
theorem hK{a b:Int}(h1: -9223372036854775808<=a-b:=by omega)(c:a-b<=9223372036854775807:=by omega):dq .i64 a b=a-b:=by unfold dq;rw[IntKind.wrap_i64];omega
theorem jD{a:Int}(h1: -9223372036854775808<=a:=by omega)(b:a<=9223372036854775807:=by omega):bU .i64 a=a:=by unfold bU;rw[IntKind.wrap_i64];omega
theorem aP{k n:Nat}(h:k<n):aH (k:Int) n=true:=by unfold aH;simp[h]
theorem a7(k:Nat):(k:Int).toNat=k:=ou k
theorem kV{a:Int}(h0:0<=a:=by omega)(h1:a<18446744073709551616:=by omega):IntKind.u64.wrap a=a:=by rw[IntKind.wrap_u64];omega
variable{a:Nat}{α:Type}
theorem hA(h1:a<18446744073709551616:=by omega):bU .u64 (a:Int)=a:=kV
theorem w5:(2:Nat)^64=18446744073709551616:=by decide
theorem Ov{b:Nat}(c:a<18446744073709551616)(d:b<18446744073709551616):r5 .u64 (a:Int) (b:Int)=((a ||| b:Nat):Int):=by
 have f:a ||| b<2^64:=Nat.or_lt_two_pow (by rw[w5];exact c) (by rw[w5];exact d);have e:(BitVec.ofInt 64 (a:Int) ||| BitVec.ofInt 64 (b:Int)).toNat=a ||| b:=by grind
 show IntKind.u64.wrap (((BitVec.ofInt 64 (a:Int) ||| BitVec.ofInt 64 (b:Int)).toNat:Nat):Int)=_;rw[e];rw[w5]at f;exact kV
theorem Pq{n c i:Nat}(h:n<2^i):n ||| (c*2^i)=n+c*2^i:=by rw[Nat.or_comm,Cf,<-Nat.two_pow_add_eq_or_of_lt h,Cc]
theorem acB{b:Nat}(a:b<256):Bj .u8 (b:Int) 127=((b%128:Nat):Int):=by
 have e:(BitVec.ofInt 8 (b:Int) &&& BitVec.ofInt 8 (127:Nat)).toNat=b%128:=by
  rw[wG,wG,BitVec.toNat_and,wJ,wJ,ow (by omega)];exact Nat.and_two_pow_sub_one_eq_mod b 7
 show IntKind.u8.wrap (((BitVec.ofInt 8 (b:Int) &&& BitVec.ofInt 8 (127:Nat)).toNat:Nat):Int)=_;rw[e,IntKind.wrap_u8];omega
theorem Mo{k:Nat}(b:k<=64)(h:a*2^k<18446744073709551616):nd .u64 (a:Int) (k:Int)=((a*2^k:Nat):Int):=by
 unfold nd;have:min ((k:Int).toNat) IntKind.u64.bits=k:=by simp[IntKind.bits];omega
 rw[this];have e:(a:Int)*2^k=((a*2^k:Nat):Int):=by push_cast;rfl
 rw[e];exact kV
theorem uD(h:a<18446744073709551616):fC .u64 (a:Int) 2=((a/2:Nat):Int):=by
 unfold fC;have e:(a:Int).tdiv 2=((a/2:Nat):Int):=by rw[yJ (by omega)];omega
 rw[e];exact kV
theorem AK{b:Nat}:b6 (a:Int) (b:Int)=((a%b:Nat):Int):=by rfl
theorem uo{b:Nat}(h:a*b<18446744073709551616):gB .u64 (a:Int) (b:Int)=((a*b:Nat):Int):=by
 unfold gB;have e:(a:Int)*b=((a*b:Nat):Int):=by push_cast;rfl
 rw[e];exact kV
theorem Pr{a b:Int}(h1: -9223372036854775808<=a*b)(c:a*b<=9223372036854775807):gB .i64 a b=a*b:=by unfold gB;rw[IntKind.wrap_i64];omega
theorem su{b:Nat}(h:a+b<18446744073709551616):aN .u64 (a:Int) (b:Int)=((a+b:Nat):Int):=by
 unfold aN;have e:(a:Int)+b=((a+b:Nat):Int):=by push_cast;rfl
 rw[e];exact kV
theorem wc{b:Nat}(h:a+b<=9223372036854775807):aN .i64 (a:Int) (b:Int)=((a+b:Nat):Int):=by rw[kc];norm_cast
theorem bE(h:a<9223372036854775807:=by omega):aN .i64 (a:Int) 1=((a+1:Nat):Int):=by rw[kc];norm_cast
theorem re(s:ak)(i:Nat):fw s (i:Int)=((s.getD i 0).toNat:Int):=by simp[fw]
theorem zZ(s:ak)(i:Nat):(s.getD i 0).toNat<256:=B' _
theorem nV(l:List α)(k:Nat):ej l (k:Int) (l.length:Int)=l.drop k:=by simp[ej]
theorem tF(l:List α)(k:Nat):ej l 0 (k:Int)=l.take k:=by simp[ej]
theorem jM{b n:Nat}(h1:a<=b)(c:b<=n):dY (a:Int) (b:Int) n=true:=by unfold dY;simp;omega
theorem H'(a b:Nat):jf (a:Int) (b:Int)=((min a b:Nat):Int):=by unfold jf;omega
theorem cN{k n:Nat}(a:k<=1000:=by omega)(h:n<=100000:=by simp;omega):room k n=true:=by
 unfold room ka eI;simp only[cC,dO];refine⟨?_,by omega⟩;have:(2*n+192)*k<=200192*1000:=Nat.mul_le_mul (by omega) a;omega
end
section
open Go Go.Proofs Go.Proofs.YtdjagncoefjfeaaGreat Go.Sort Go.RowKit
variable {P:Program}{α:Type}[Inhabited α]
theorem Vp(w:World)(blk:Nat)(f:Array Value->Array Value){b:Nat}(h:b≠blk):(mapBlock w blk f).heap[b]?=w.heap[b]?:=by simp[mapBlock,FR,dX h]
theorem WT(w:World)(blk:Nat)(f:Array Value->Array Value){c:Array Value}{E:TypeId}{a:Nat×Nat}(h:w.heap[blk]?=some (.cells c E a)):(mapBlock w blk f).heap[blk]?=some (.cells (f c) E a):=by
 simp[mapBlock,FR,h,onCells]
theorem acC{g k:Nat}(enc:α->List Value)(m:α->List T)(F:Array α->Array α)(aS:∀x,(enc x).length=k)(M:∀x,(m x).length=k)(K:0<k)
 (aP:∀(w:World) (S:dT) (x:α) (j:Nat) (t:T) (v:Value),(m x)[j]?=some t->cd w S t v->(enc x)[j]?=some v)
 (bw:∀d:Array α,(F d).size=d.size/\∀x,x∈(F d).toList->x∈d.toList)
 (au:∀(blk off cap:Nat) (d:Array α) (w:World),HoldsK enc k w blk off d->blk<w.heap.size->d.size<4611686018427387904->
  Calls P f #[.slice (some ⟨blk,off,none⟩) d.size cap,.func (.func g) #[] #[]] w λe w'=>e= .returned (.tuple #[])/\∃n os,w'=sortWorldK enc k w blk off n (F d) os)
 (aK:∀(p:Option Addr) (cap:Nat) (al:Value) (w:World),Calls P f #[.slice p 0 cap,al] w λe w'=>e= .returned (.tuple #[])/\w'=w)
 {J:a'}{d:List α}(h0:aX J 0=some (.arr k (d.map m)))(aB:0<kk):
 eg P f [.c (.arr 0 k 0 d.length),.c (.fn g [])] J kk (λr J' N'=>r= .aY []/\J'=df J 0 (.arr k ((F d.toArray).toList.map m))/\N'=kk):=by
 intro φ S w B q aL O aQ vs I;cases I with|cons z I=>
 cases I with|cons Q I=>
 cases I;cases z with|c z=>
 cases Q with|c Q=>
 obtain⟨a,rfl,an,aT⟩:=z;have aN:_=Value.func (.func g) #[] #[]:=Q;subst aN;obtain⟨af,ae,aU,_,aq⟩:=q.blk 0 _ h0;rw[iu]at af ae;obtain⟨aj,aG⟩:=bw d.toArray;have Z:∀ w':World,Ext B S S w w'->qy φ w' S (df J 0 (.arr k ((F d.toArray).toList.map m)))->∃ v r D bR J' N',Ending.returned (Value.tuple #[]) = Ending.returned v/\(r = V.aY []/\J' = df J 0 (.arr k ((F d.toArray).toList.map m))/\N' = kk)/\cl D w' bR r v/\r.aD (lt N') = true/\qy D w' bR J'/\(∀ (b:Nat) x,aX J' b = some x->b<N'/\x.aD (lt N') = true)/\Ext B S bR w w'/\
  (∀(b:Nat) x,aX J' b=some x->(D b).2≠0->B (D b).1\/w.heap.size<=(D b).1)/\∀b,b<kk->D b=φ b:=by
  intro w' dM aI;refine⟨_,.aY [],φ,S,_,kk,rfl,⟨rfl,rfl,rfl⟩,.aY [] [] rfl (by simp),rfl,aI,λb x l=>?_,dM,λb x l o=>?_,λ_ _=>rfl⟩
  . rw[c2]at l;split at l
    . rename_i o;cases l;subst o;exact⟨aB,rfl⟩
    . exact aL b x l
  . rw[c2]at l;split at l
    . rename_i ao;subst ao;exact .inl (O _ _ h0 o)
    . exact .inl (O b x l o)
 by_cases L:(φ 0).2=0
 ·
  have av:d=[]:=jx (by omega);subst av;refine(aK a _ _ w).mono ?_
  rintro e w' ⟨rfl,rfl⟩
  have he:(F ([]:List α).toArray).toList.map m=([]:List α).map m:=by grind
  refine Z _ Ext.refl ?_;rw[he];refine⟨λb x l=>?_,λb G x y l W=>?_,q.st⟩
  . rw[c2]at l;split at l
    . rename_i o;cases l;subst o;exact q.blk _ _ h0
    . exact q.blk b x l
  . have key:∀b x,aX (df J 0 (.arr k (([]:List α).map m))) b=some x->∃A,aX J b=some A:=by
     intro b x l;rw[c2]at l;grind
    obtain⟨A,R⟩:=key b x l;obtain⟨Y,X⟩:=key G y W;exact q.inj b G A Y R X
 . obtain⟨vs,E,aa,ak,ar,ah⟩:=aq L;rw[an L];have ai:∀(i j:Nat) (t:T) (x:α),d[i]?=some x->(m x)[j]?=some t->∃v,vs[i*k+j]?=some v/\cd w S t v/\(enc x)[j]?=some v:=by
    intro i j t x s u;obtain⟨v,z,ag⟩:=ar i j (m x) t (by rw[qe,s];rfl) u;grind
   have ab:(φ 0).1<w.heap.size:=(by grind);have am:HoldsK enc k w (φ 0).1 (0*k) d.toArray:=by
    intro j u;rw[size_flatK]at u;have az:j<d.length*k:=(by simpa using u);have s:j/k<d.length:=(Nat.div_lt_iff_lt_mul K).2 az;have H:j%k<k:=yI _ K;have l:d[j/k]?=some d[j/k]:=e' s;have aF:j%k<(m d[j/k]).length:=by rw[M];exact H
    obtain⟨v,z,_,he⟩:=ai (j/k) (j%k) _ _ l (e' aF);have aA:j/k*k+j%k=j:=by rw[Cf];exact Nat.div_add_mod j k
    rw[aA]at z;refine⟨?_,by simp[World.frozen?,aa]⟩;rw[Cd,hR,js aa,z,get_flatK _ _ _ _ u];grind
   have aD:d.toArray.size<4611686018427387904:=by
    have:eI=281474976710656:=rfl;simp;omega
   refine(au (φ 0).1 (0*k) _ d.toArray w am ab aD).mono ?_
   rintro e w' ⟨rfl,n,os,rfl⟩
   have N:∀b:Nat,b<w.heap.size->b≠(φ 0).1->(sortWorldK enc k w (φ 0).1 (0*k) n (F d.toArray) os).heap[b]?=w.heap[b]?:=by
    intro b o aH;unfold sortWorldK putRowK putRow;rw[heap_grow_old _ _ (by simpa[mapBlock,Go.Sort.ahead]using o),Vp _ _ _ aH];rfl
   have aJ:(sortWorldK enc k w (φ 0).1 (0*k) n (F d.toArray) os).heap[(φ 0).1]?=some (.cells (putCells id (0*k) (flatK enc k (F d.toArray)) vs.toArray).toList.toArray E (0,0)):=by
    unfold sortWorldK putRowK putRow;rw[heap_grow_old _ _ (by simpa[mapBlock,Go.Sort.ahead]using ab),WT (Go.Sort.ahead w n) _ _ (by exact aa)]
   have H:gx w S (sortWorldK enc k w (φ 0).1 (0*k) n (F d.toArray) os) S:=⟨λ_ _ h=>h,λb j h=>q5 (N b (q.st b j h) (λe=>ah j (e▸h))) j⟩
   refine Z _ ⟨rfl,rfl,rfl,?_,λb o dy=>N b o (λe=>dy (e▸O 0 _ h0 L)),H,λ_ _ h=>.inl h⟩ ⟨λb x l=>?_,λb G x y l W=>?_,λb j h=>?_⟩
   . unfold sortWorldK putRowK putRow;simp[grow,mapBlock,Go.Sort.ahead]
   . rw[c2]at l;split at l
     . rename_i o;cases l;subst o;refine⟨by simpa[aj]using af,by simpa[aj]using ae,λe he=>?_,K,λ_=>⟨_,E,aJ,by simpa[putCells]using ak,λi j e t s u=>?_,ah⟩⟩
       . obtain⟨x,_,rfl⟩:=e0.1 he;exact M x
       . rw[qe]at s;cases U:(F d.toArray).toList[i]? with
         |none=>rw[U]at s;cases s
         |some x=>
          rw[U]at s;have:e=m x:=(mc s).symm;subst this;have l:x∈d:=(by simpa using aG x (fj U));obtain⟨aO,ax,aw⟩:=e3 l;obtain⟨v,z,ag,he⟩:=ai aO j t x (by rw[e' ax,aw]) u;refine⟨v,?_,cd.mono H ag⟩;have aR:j<k:=by rw[<-M x];exact(ds.1 u).1
          have ay:i<(F d.toArray).size:=(by grind);have aC:i*k+j<(F d.toArray).size*k:=by
           have:=eY k (show i+1<=(F d.toArray).size from ay);grind
          have aE:i*k+j<vs.length:=by
           rw[ak];refine l9 aC (eY k ?_);grind
          have d1:(i*k+j)/k=i:=(blk_iff k i _ K).1 ⟨by omega,by omega⟩;have d2:(i*k+j)%k=j:=by rw[Nat.mod_eq_sub_div_mul,d1];omega
          have aM:(F d.toArray)[i]! =x:=(by grind);have:(putCells id (0*k) (flatK enc k (F d.toArray)) vs.toArray).toList[i*k+j]?=some ((flatK enc k (F d.toArray))[i*k+j]!):=by
           rw[Array.getElem?_toList];simp only[putCells,Array.getElem?_mapIdx];rw[show vs.toArray[i*k+j]?=some vs[i*k+j] by simp[aE]];simp[size_flatK,aC]
          rw[this,get_flatK _ _ _ _ aC,d1,d2,aM,List.getElem!_eq_getElem?_getD,he];rfl
     . rename_i o;have ap:b≠0:=λe=>o (by simp[e]);refine c1.mono (n:=λ_=>true) H (λ_ _=>rfl) rfl (by cases x<;>simp[bP.aD,C.my]) (λad=>N _ ((q.blk b x l).kj ad) (q.inj b 0 x _ l h0 ap ad L)) (q.blk b x l)
   . have key:∀b x,aX (df J 0 (.arr k ((F d.toArray).toList.map m))) b=some x->∃A,aX J b=some A:=by
      intro b x l;rw[c2]at l;grind
     obtain⟨A,R⟩:=key b x l;obtain⟨Y,X⟩:=key G y W;exact q.inj b G A Y R X
   . have:=q.st b j h;unfold sortWorldK putRowK putRow;simp[grow,mapBlock,Go.Sort.ahead];omega
def hS(lt:α->α->Bool)(l:List α):List α:=(pdq lt l.toArray 0 l.length (Lib.bitLen l.length) true true).toList
theorem G'{lt:α->α->Bool}(b:SWO lt)(l:List α):(hS lt l).Perm l:=by
 obtain⟨⟨hs,_,a⟩,_⟩:=pdq_sorts lt b l.toArray 0 l.length (Lib.bitLen l.length) true true (hv _) (by simp) (Or.inl rfl);have aM:∀d:Array α,d.size=l.length->d.extract 0 l.length=d:=λd h=>by rw[<-h];exact Array.extract_size
 rw[aM _ (by simpa using hs),aM _ (by simp)]at a;simpa[hS]using a
theorem XW{lt:α->α->Bool}(a:SWO lt)(l:List α):(hS lt l).length=l.length:=(G' a l).length_eq
theorem XX{lt:α->α->Bool}(a:SWO lt)(l:List α):(hS lt l).Pairwise λx y=>lt y x=false:=by
 obtain⟨⟨hs,_,_⟩,aI⟩:=pdq_sorts lt a l.toArray 0 l.length (Lib.bitLen l.length) true true (hv _) (by simp) (Or.inl rfl);have f:(hS lt l).length=l.length:=XW a l;rw[rW];intro i j g d c;have:=aI i j (hv _) c (by rw[<-f];exact d);have e:∀i (h:i<(hS lt l).length),(pdq lt l.toArray 0 l.length (Lib.bitLen l.length) true true)[i]! =(hS lt l)[i]:=by
  intro i h;have b:i<(pdq lt l.toArray 0 l.length (Lib.bitLen l.length) true true).size:=by simpa[hS]using h
  rw[getElem!_pos _ i b];simp[hS]
 grind
def Gn(U:cL)(f n g:Nat)(F:List (U.D n)->List (U.D n)):cD U:=
 ⟨f,[.c (.arr 0),.c (.fn g [])],[.arr (.nm n)],[.slice (.nm n)],.aY [],[.arr (.nm n)],[.slice (.nm n)],λ(l:List (U.D n))=>some (F l)⟩
theorem acD{n g:Nat}[Inhabited (U.D n)](enc:U.D n->List Value)(lt:U.D n->U.D n->Bool)(E:SWO lt)(K:∀x,(enc x).length=(aL.nm n).sz U)
 (F:∀(w:World) (S:dT) (x:U.D n) (j:Nat) (t:T) (v:Value),((aL.nm n).enc U x)[j]?=some t->cd w S t v->(enc x)[j]?=some v)
 (I:∀(blk off cap:Nat) (d:Array (U.D n)) (w:World),HoldsK enc ((aL.nm n).sz U) w blk off d->blk<w.heap.size->d.size<4611686018427387904->
  Calls P f #[.slice (some ⟨blk,off,none⟩) d.size cap,.func (.func g) #[] #[]] w λe w'=>e= .returned (.tuple #[])/\∃M os,w'=sortWorldK enc ((aL.nm n).sz U) w blk off M (pdq lt d 0 d.size (Lib.bitLen d.size) true true) os)
 (L:∀(p:Option Addr) (cap:Nat) (z:Value) (w:World),Calls P f #[.slice p 0 cap,z] w λe w'=>e= .returned (.tuple #[])/\w'=w):
 hB P (Gn U f n g (hS lt)):=by
 intro(l:List (U.D n)) r bw O J1 c aI;have ag:r=hS lt l:=(mc bw).symm;subst ag;cases c with|cons c i=>
 cases i with|cons i G=>
 cases G;obtain⟨sz,m,rfl,_,J⟩:=ca.hd c;have:=ca.Fx i;subst this;have u:Shv.a6 ((Gn U f n g (hS lt)).iC l) 0=some (.arr (.nm n) l):=rfl;have o:=J _ u _ rfl;obtain⟨_,R,A,b0⟩:=aI 0 _ u;cases b0;have aM:sz=(aL.nm n).sz U:=(ee Prod.fst o).symm;have y:m=l.length:=(ee Prod.snd o).symm;subst aM;subst y;have s:∀d:Array (U.D n),(hS lt d.toList).Perm d.toList:=λd=>G' E d.toList
 refine(acC (α:=U.D n) (kk:=1) enc ((aL.nm n).enc U) (λd:Array (U.D n)=>(hS (α:=U.D n) lt d.toList).toArray) K (λx=>aL.sL) aL.r' F
  (λd=>⟨by simpa using(s d).length_eq,λx a=>(s d).mem_iff.1 (by simpa using a)⟩) (λblk off cap d w h1 B C=>?_) L A Nat.one_pos).mono ?_
 . have:=I blk off cap d w h1 B C;simpa[hS]using this
 . rintro Q s1 N ⟨rfl,rfl,rfl⟩
   refine⟨rfl,.aY [] [] rfl (by simp),λb x a=>?_⟩;have di:(hS lt l.toArray.toList).toArray.toList=hS lt l:=(by simp);simp only[di];clear di bw;generalize hS lt l=q at a⊢;have k:(if b=0 then some (cT.arr (U:=U) (.nm n) q)else none)=some x:=by
    rw[<-a];cases b<;>rfl
   split at k
   . rename_i H;cases k;subst H;refine⟨Nat.one_pos,_,?_,.arr (U:=U) (.nm n) q⟩;rw[c2];simp;rfl
   . cases k
theorem ZI(w:World)(S:dT)(i:Int)(s:ak)(j:Nat)(t:T)(v:Value)(h:[T.int .i64 i,T.str s][j]?=some t)(ag:cd w S t v):[Value.int .i64 i,Value.string ⟨s.toArray⟩][j]?=some v:=by
 match j,h with
 |0,h=>cases h;cases ag;rfl
 |1,h=>cases h;cases ag;rfl
theorem acY(key:α->Int):SWO (λx y=>decide (key x<key y)) where
 irrefl x:=by simp
 trans x y z h1 a:=by simp at*;omega
 ntrans x y z h1 a:=by simp at*;omega
end
section
open Go Go.Proofs Go.Proofs.YtdjagncoefjfeaaGreat Go.Sort
def k0{α:Type}(a b:Option α):Prop:=∀r,a=some r->b=some r
theorem k0.r{α:Type}{a:Option α}:k0 a a:=λ_ h=>h
theorem k0.n{α:Type}{a:Option α}:k0 none a:=λ_ h=>by cases h
theorem k0.b{α f:Type}{a b:Option α}{k c:α->Option f}(h:k0 a b)(e:∀x,k0 (k x) (c x)):k0 (a>>=k) (b>>=c):=by
 intro r ag;cases a with
 |none=>cases ag
 |some x=>rw[h x rfl];exact e x r ag
theorem k0.i{α:Type}{p:Prop}[Decidable p]{a b c d:Option α}(h:k0 a c)(k:k0 b d):k0 (if p then a else b) (if p then c else d):=by grind
variable {α:Type}[Inhabited α]
def oo(lt:α->α->Bool)(x:α):List α->List α
 |[]=>[x]
 |y::r=>if lt x y then x::y::r else y::oo lt x r
def gW(lt:α->α->Bool):List α->List α
 |[]=>[]
 |x::r=>oo lt x (gW lt r)
def ke(lt:α->α->Bool):List α->Bool
 |[]=>true
 |x::r=>r.all (λy=>lt x y||lt y x)&&ke lt r
theorem IF(lt:α->α->Bool)(x:α):∀l,(oo lt x l).Perm (x::l)
 |[]=>.refl _
 |y::r=>by
  simp only[oo];split
  . simp_all
  . exact((IF lt x r).cons y).trans (.swap x y r)
theorem kK(lt:α->α->Bool):∀l,(gW lt l).Perm l
 |[]=>.refl _
 |x::r=>(IF lt x _).trans ((kK lt r).cons x)
theorem Jo{lt:α->α->Bool}(b:SWO lt)(x:α):∀{l:List α},l.Pairwise (λx y=>lt y x=false)->(oo lt x l).Pairwise λx y=>lt y x=false
 |[],_=>by simp[oo]
 |y::r,h=>by
  rw[h5]at h;simp only[oo];split
  . rename_i c;have d:lt y x=false:=by
     cases e:lt y x with
     |false=>rfl
     |true=>have:=b.trans _ _ _ c e;rw[b.irrefl]at this;cases this
    rw[h5];refine⟨λz a=>?_,h5.2 h⟩;rcases eK.1 a with rfl|a
    . exact d
    . exact b.ntrans _ _ _ (h.1 z a) d
  . rename_i c;rw[h5];refine⟨λz a=>?_,Jo b x h.2⟩;rcases eK.1 ((IF lt x r).mem_iff.1 a)with rfl|a
    . grind
    grind
theorem DJ{lt:α->α->Bool}(a:SWO lt):∀l:List α,(gW lt l).Pairwise λx y=>lt y x=false
 |[]=>.nil
 |x::r=>Jo a x (DJ a r)
theorem Kw{lt:α->α->Bool}:∀{l:List α},ke lt l=true->∀a b,a∈l->b∈l->a=b\/lt a b=true\/lt b a=true
 |x::r,h,a,b,c,e=>by
  simp only[ke,cC,dH,iv]at h;rcases eK.1 c with g|d<;>rcases eK.1 e with i|f
  . grind
  . grind
  . grind
  . exact Kw h.2 a b d f
theorem Jp{lt:α->α->Bool}{l:List α}(f:ke lt l=true):∀{a b:List α},a.Perm l->b.Perm l->a.Pairwise (λx y=>lt y x=false)->b.Pairwise (λx y=>lt y x=false)->a=b:=by
 intro a b c d h1 e;refine List.Perm.eq_of_pairwise (le:=λx y=>lt y x=false) (λx y g i j k=>?_) h1 e (c.trans d.symm);rcases Kw f x y (c.mem_iff.1 g) (d.mem_iff.1 i)with h|h|h
 . exact h
 . grind
 grind
theorem Ow{lt:α->α->Bool}(a:SWO lt){l:List α}(b:ke lt l=true):hS lt l=gW lt l:=
 Jp b (G' a l) (kK lt l) (XX a l) (DJ a l)
def Gm(lt:α->α->Bool)(l:List α):Option (List α):=if ke lt l then some (gW lt l)else none
theorem acE{lt:α->α->Bool}(a:SWO lt)(l:List α):k0 (Gm lt l) (some (hS lt l)):=by
 intro r h;unfold Gm at h;split at h
 . rename_i b;rw[Ow a b];exact h
 . cases h
end
end Go.Proofs.YtdjagncoefjfeaaGreat.Shv
