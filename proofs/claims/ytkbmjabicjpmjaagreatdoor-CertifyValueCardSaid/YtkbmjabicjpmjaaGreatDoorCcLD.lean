/- The library of this proof, part D: an abstract machine for the code of the program, and its soundness. -/
import Derived.KernelRfl
import Derived.Shelf.Strings.Builder1
import Derived.ChangeArms
import Derived.ChangeStays
import Derived.ChangeSame
import Derived.SizedLaws
import Derived.Below
import Derived.WalkKit
import Derived.ProofKit
import Derived.OpenShut
import Derived.Laws.BitsLemmas
import Derived.Laws.Bits64
import Derived.Shelf.GgSortFunc.InsertionK
import Derived.Shelf.SlSortCmp.Insertion
import Derived.Sort.AssemblyPlain
import Derived.Lib.BitFns
import Derived.Laws.IdiomRangeMap
import Derived.Shelf.Strconv.Itoa3
import Derived.Maps.RangeRun
import Derived.Test.YtkbmjabicjpmjaaGreatDoorCcLC

namespace Go.Proofs.YtkbmjabicjpmjaaGreatDoor.Shv
set_option linter.all false
section
open Go
variable {xb:aW}
variable {U:cE}{R:Type}
def nu(gl:ev)(gd:Option (Nat×Bool))(dst:Option Nat):Bool:=
 match dst with
 |none=>true
 |some d=>(gl.all λe=>!(Nat.beq e.1 d) && !(Nat.beq e.2.1 d))&&(match gd with
  |some g=>!(Nat.beq g.1 d)
  |none=>true)
def gA(dst:Option Nat)(v:bC U)(env:bK U):bK U:=
 match dst with
 |none=>env
 |some d=>(d,v)::env
def ir(gl:ev)(gd:Option (Nat×Bool))(dst:Option Nat):ev:=
 match gd,dst with
 |some g,some d=>(d,g)::gl
 |_,_=>gl
abbrev fA(U:cE):=Nat->List (cw U)
abbrev kP(U:cE):=bK U->Option (List (bC U))
def OC(s:cw U)(c:kP U)(env:bK U)(J:a7 U)(key:Nat):Option (bK U×a7 U×aW×aJ U.D s.ts):=
 match c env with
 |none=>none
 |some vs=>match vE J 0 0 s.st (Cu s.ft vs ([],[])) []with
  |(bs,d)=>match kl d env J with
   |none=>none
   |some (env',J')=>match c env' with
    |none=>none
    |some e=>match sn bs&&((bs.all λb=>Nat.ble (b+1) key)&&(Nat.beq bs.length s.st.length&&Nat.ble s.eG.length (bs.length+16)))with
     |false=>none
     |true=>match me bs s.ft e,iF bs J' 0 s.st with
      |some a,some b=>match aJ.dec U.D s.ts (a++b)with
       |some h=>some (env',J',bs,h)
       |none=>none
      |_,_=>none
def vT(b:kP U)(env:bK U)(J:a7 U)(key:Nat)(k:bK U->a7 U->bC U->Option R):List (cw U)->Option R
 |[]=>none
 |s::r=>match OC s b env J key with
  |none=>vT b env J key k r
  |some (env',J',bs,h)=>(s.F h)>>=λa=>match nW J' (s.rest a) 0 bs with
   |none=>none
   |some c=>if c then k env' (mO J' bs (back bs key) (s.rest a)) ((s.res a).b' (back bs key))else none
def isNil{α:Type}:List α->Bool
 |[]=>true
 |_=>false
def Ea(s:cw U)(b:kP U)(env:bK U):Option (aJ U.D s.ts):=
 match isNil s.st&&isNil s.eG,b env with
 |true,some vs=>match vs.all gD,me [] s.ft vs with
  |true,some a=>aJ.dec U.D s.ts a
  |_,_=>none
 |_,_=>none
def vS(a:kP U)(env:bK U)(g:Bool)(k:bC U->Option R):List (cw U)->Option R
 |[]=>none
 |s::r=>match Ea s a env with
  |none=>vS a env g k r
  |some h=>(if g then s.F h else some (aJ.j2 U s.us))>>=λb=>match gD (s.res b)with
   |true=>k (s.res b)
   |false=>none
def hasB(J:a7 U)(b:Nat):Bool:=match aT J b with
 |some _=>true
 |none=>false
def bh.jn(J:a7 U):bh U->Bool
 |.t _|.dO .. |.aL|.e6|.e5=>true
 |.ptr b _=>hasB J b
 |.cG b _ _ _=>hasB J b
 |.fn _ caps=>caps.all (hasB J)
 |.arr b=>match aT J b with
  |some x=>(match x.c8 with
   |some _=>true
   |none=>false)
  |none=>false
 |.sub .. =>false
 |.pre .. =>false
 |.dQ .. =>false
 |.mp b=>hasB J b
 |.eu _=>false
 |.cb b=>match aT J b with
  |some x=>(match x.c8 with
   |some p=>Nat.beq p.1 1
   |none=>false)
  |none=>false
 |.dead=>false
def kC(J:a7 U):bC U->Bool
 |.c x=>x.jn J
 |.agg cs=>cs.all (bh.jn J)
 |.a6 vs=>go J vs
where go (J:a7 U):List (bC U)->Bool
 |[]=>true
 |v::vs=>kC J v&&go J vs
def bh.hX(J:a7 U):bh U->C
 |.t c=>.t (c.enc U)
 |.dO ty x o=>.dO (ty.enc U x) o
 |.aL=>.aL
 |.e6=>.e6
 |.e5=>.e5
 |.fn f caps=>.fn f caps
 |.ptr b o=>.ptr b o
 |.cG b ty i o=>.cG b (ty.sz U) i o
 |.arr b=>match aT J b with
  |some x=>(match x.c8 with
   |some p=>.arr b p.1 0 p.2
   |none=>.dead)
  |none=>.dead
 |.sub b a len=>.fL b 1 a len
 |.pre _ _=>.dead
 |.dQ .. =>.dead
 |.mp b=>.mp b
 |.eu b=>.eu b
 |.cb b=>match aT J b with
  |some x=>(match x.c8 with
   |some p=>.cb b p.2
   |none=>.dead)
  |none=>.dead
 |.dead=>.dead
def hV(J:a7 U):bC U->V
 |.c x=>.c (x.hX J)
 |.agg cs=>.agg (cs.map (bh.hX J))
 |.a6 vs=>.a6 (go J vs)
where go (J:a7 U):List (bC U)->List V
 |[]=>[]
 |v::vs=>hV J v::go J vs
def gf(J:a7 U):cI U->Bool
 |.box cs=>cs.all (bh.jn J)
 |.arr _ _=>true
 |.rows .. =>false
 |.set _=>true
 |.buf _ _=>true
 |.bT _ c=>c.jn J
 |.cz .. =>false
def rj(J:a7 U):cI U->bP
 |.box cs=>.box (cs.map (bh.hX J))
 |.arr ty l=>.arr (ty.sz U) (l.map (ty.enc U))
 |.rows sz _=>.arr sz []
 |.set ks=>.set ks
 |.buf E s=>.buf E s
 |.bT E c=>.bT E (c.hX J)
 |.cz t l i o _=>.cz (t.sz U) (l.map (t.enc U)) i o .dead
def kA(J:a7 U):a7 U->aZ
 |[]=>[]
 |(b,x)::r=>(b,rj J x)::kA J r
def GP(J:a7 U)(l:a7 U):Bool:=l.all λp=>Nat.ble (p.1+1) 16&&gf J p.2
def D'(s:cw U)(b:kP U)(env:bK U):Option (aJ U.D s.ts):=
 match isNil s.st&&Nat.ble s.eG.length 16,b env with
 |true,some vs=>match vs.all gD,me [] s.ft vs with
  |true,some a=>aJ.dec U.D s.ts a
  |_,_=>none
 |_,_=>none
def y4(b:kP U)(env:bK U)(J:a7 U)(key:Nat)(k:a7 U->bC U->Option R):List (cw U)->Option R
 |[]=>none
 |s::r=>match D' s b env with
  |none=>y4 b env J key k r
  |some h=>(s.F h)>>=λa=>match kC (s.rest a) (s.res a)&&GP (s.rest a) (s.rest a)with
   |true=>k (mO J [] (back [] key) (s.rest a)) ((s.res a).b' (back [] key))
   |false=>none
def bh.fV:bh U->aW
 |.ptr b _|.cG b _ _ _|.arr b|.sub b _ _|.pre b _|.dQ b _ _|.mp b|.eu b|.cb b=>[b]
 |.fn _ caps=>caps
 |_=>[]
def bC.fV:bC U->aW
 |.c x=>x.fV
 |.agg cs=>cs.flatMap bh.fV
 |.a6 _=>[]
def lS(l:aW)(b:Nat):Bool:=l.any λc=>Nat.beq c b
def OD(xb:aW)(s:cw U)(d:kP U)(env:bK U)(J:a7 U)(key:Nat):Option (aW×aJ U.D s.ts):=
 match d env with
 |none=>none
 |some vs=>match vE J 0 0 s.st (Cu s.ft vs ([],[])) []with
  |(bs,c)=>match isNil c&&(sn bs&&((bs.all λb=>Nat.ble (b+1) key&&((lS (vs.flatMap bC.fV) b||lS xb b)&&hasB J b))&&(Nat.beq bs.length s.st.length&&(Nat.ble bs.length s.eG.length&&Nat.ble s.eG.length (bs.length+16)))))with
   |false=>none
   |true=>match me bs s.ft vs,iF bs J 0 s.st with
    |some a,some b=>match aJ.dec U.D s.ts (a++b)with
     |some h=>some (bs,h)
     |none=>none
    |_,_=>none
def G'(n:Nat)(J:a7 U)(l:a7 U):Bool:=l.all λp=>Nat.ble (p.1+1) n&&gf J p.2
def uT(xb:aW)(b:kP U)(env:bK U)(J:a7 U)(key:Nat)(k:a7 U->bC U->Option R):List (cw U)->Option R
 |[]=>none
 |s::r=>match OD xb s b env J key with
  |none=>uT xb b env J key k r
  |some (bs,h)=>(s.F h)>>=λa=>match kC (s.rest a) (s.res a)&&G' (bs.length+16) (s.rest a) (s.rest a),nW J (s.rest a) 0 bs with
   |true,some c=>if c then k (mO J bs (back bs key) (s.rest a)) ((s.res a).b' (back bs key))else none
   |_,_=>none
def abu(a:kP U)(env:bK U)(l:List (cw U)):Bool:=l.any λs=>(D' s a env).isSome
def abv(a:kP U)(env:bK U)(l:List (cw U)):Bool:=l.any λs=>(Ea s a env).isSome
def aec(gd:Option (Nat×Bool))(a:kP U)(env:bK U)(l:List (cw U)):Bool:=
 match gd with
 |some _=>!(abv a env l)
 |none=>false
def abH(d:Option aW):aW:=match d with
 |some l=>l
 |none=>[]
def Hi(fo:fA U)(d:Option aW)(gd:Option (Nat×Bool))(f:Nat)(a:kP U)(gl:ev)(env:bK U)(J:a7 U)(key:Nat)(k:bK U->a7 U->bC U->Option R):Option R:=
 match gd with
 |none=>match d with
  |none=>vT a env J key k (fo f)
  |some xb=>match abu a env (fo f)with
   |true=>y4 a env J key (λJ v=>k env J v) (fo f)
   |false=>uT xb a env J key (λJ v=>k env J v) (fo f)
 |some _=>match la gl env pO gd with
  |some g=>vS a env g (λv=>k env J v) (fo f)
  |none=>none
abbrev jP:=List (Nat×Bool)
def tP(nf:jP)(gl:ev):Nat->Option (Nat×Bool)->Bool
 |0,_=>false
 |_,none=>false
 |a+1,some (t,b)=>(nf.any λg=>Nat.beq g.1 t&&(g.2==b))||tP nf gl a (aT gl t)
def kX(nf:jP)(dst:Option Nat):Bool:=
 match dst with
 |none=>true
 |some d=>nf.all λg=>!(Nat.beq g.1 d)
def CU:bC U:= .c (.t ⟨.bool,false⟩)
def q2(fo:fA U)(d:Option aW)(o:bZ)(key:Nat)(gl:ev)(nf:jP)(env:bK U)(J:a7 U)(k:ev->jP->bK U->a7 U->Option R):Option R:=
 match nu gl o.guard o.dst&&kX nf o.dst with
 |false=>none
 |true=>match tP nf gl pO o.guard with
  |true=>match la gl env pO o.guard with
   |some _=>k (ir gl o.guard o.dst) nf (gA o.dst CU env) J
   |none=>none
  |false=>match o.op with
   |.call f args=>match aec o.guard (λe=>lo gl o.guard e args) env (fo f)with
    |true=>match la gl env pO o.guard,o.guard with
     |some g,some gd=>if g then uT (abH d) (λe=>lo gl o.guard e args) env J key (λJ v=>k (ir gl o.guard o.dst) nf (gA o.dst v env) J) (fo f)else k (ir gl o.guard o.dst) (gd::nf) (gA o.dst CU env) J
     |_,_=>none
    |false=>Hi fo d o.guard f (λe=>lo gl o.guard e args) gl env J key λenv J v=>k (ir gl o.guard o.dst) nf (gA o.dst v env) J
   |.hW x args=>match d,o.guard,c9 gl none env x with
    |none,none,some (.c (.fn f _))=>vT (λe=>match c9 gl none e x,lo gl none e args with
     |some (.c (.fn i a)),some vs=>match Nat.beq i f with
      |true=>some (vs++a.map λb=>.c (.ptr b 0))
      |false=>none
     |_,_=>none) env J key (λenv J v=>k gl nf (gA o.dst v env) J) (fo f)
    |some _,none,some (.c (.fn f []))=>vS (λe=>lo gl none e args) env true (λv=>k gl nf (gA o.dst v env) J) (fo f)
    |_,_,_=>none
   |op=>match cj gl o.guard env J key op with
    |none=>none
    |some (c,v,J')=>match o.guard with
     |none=>if c then k gl nf (gA o.dst v env) J' else none
     |some gd=>match la gl env pO (some gd)with
      |none=>none
      |some g=>match op.neutral with
       |true=>if(c || !g) then k (ir gl o.guard o.dst) nf (gA o.dst v env) J else none
       |false=>if g then(if c then k (ir gl o.guard o.dst) nf (gA o.dst v env) J' else none)else k (ir gl o.guard o.dst) (gd::nf) (gA o.dst CU env) J
def Ov(J:a7 U):bh U->List (Nat×aF)
 |.arr b=>match aT J b with
  |some (.arr t _)=>[(b,t)]
  |_=>[]
 |_=>[]
def aea(J:a7 U):bC U->List (Nat×aF)
 |.c x=>Ov J x
 |.agg cs=>cs.flatMap (Ov J)
 |.a6 _=>[]
def D8(gl:ev)(gd:Option (Nat×Bool))(env:bK U)(J:a7 U)(xs:List aO):List (Nat×aF):=
 xs.flatMap λx=>match c9 gl gd env x with
  |some v=>aea J v
  |none=>[]
def zy(l:List (Nat×aF))(env:bK U)(J:a7 U):Option (bK U×a7 U):=
 match l with
 |[]=>none
 |_=>kl l env J
def D9(gl:ev)(o:bZ)(env:bK U)(J:a7 U):Option (bK U×a7 U):=
 match o.op with
 |.slc _ x _ _=>match c9 gl o.guard env x with
  |some (.c (.arr b))=>match aT J b with
   |some (.arr t _)=>kl [(b,t)] env J
   |_=>none
  |_=>none
 |.call _ args=>match o.guard with
  |some _=>zy (D8 gl o.guard env J args) env J
  |none=>none
 |.bsliceT _ _ _ _ ps=>zy (D8 gl o.guard env J (ps.map Prod.snd)) env J
 |.bslice _ _ _ ps=>zy (D8 gl o.guard env J (ps.map Prod.snd)) env J
 |_=>none
def Co(fo:fA U)(d:Option aW)(o:bZ)(key:Nat)(gl:ev)(nf:jP)(env:bK U)(J:a7 U)(k:ev->jP->bK U->a7 U->Option R):Option R:=
 match d with
 |some xb=>q2 fo (some xb) o key gl nf env J k
 |none=>match D9 gl o env J with
  |none=>q2 fo none o key gl nf env J k
  |some p=>q2 fo none o key gl nf p.1 p.2 k
def nq(fo:fA U)(d:Option aW):List bZ->Nat->ev->jP->bK U->a7 U->(ev->bK U->a7 U->Option R)->Option R
 |[],_,gl,_,env,J,k=>k gl env J
 |o::r,key,gl,nf,env,J,k=>Co fo d o key gl nf env J λgl nf env J=>nq fo d r (key+16) gl nf env J k
def Aj(gl:ev)(k:Nat):Bool:=gl.any λe=>Nat.beq e.1 k
def clean(gl:ev):bK U->bK U
 |[]=>[]
 |(k,v)::r=>match Aj gl k with
  |true=>clean gl r
  |false=>(k,v)::clean gl r
def sq(gl:ev)(env:bK U):bK U:=
 match gl with
 |[]=>env
 |_=>clean gl env
structure eC (key:Nat)(gl:ev)(nf:jP)(env:bK U)(J:a7 U)(env1:Env)(J1:aZ)(G:Nat->Bool):Prop where
 gO:cN key J G env env1
 ak:gJ gl env G
 eJ:cm key J J1
 aP:∀g,g∈nf->cD env G (some g)=false
variable{N:Nat}{o:bZ}{K:Env->aZ->Prop}
section
variable {P:Program}{kk key:Nat}{J J':a7 U}{J1 bj:aZ}{env:bK U}{env1:Env}{G:Nat->Bool}{gl:ev}{gd:Option (Nat×Bool)}{nf:jP}{dst:Option Nat}{v:bC U}{v1:V}
theorem F'{d:Option Nat}{k:Nat}:aT (gA d v env) k=if d=some k then some v else aT env k:=by
 cases d with
 |none=>rfl
 |some d=>
  grind[gA,aT,cM,hJ]
theorem Cp{o:Option (Nat×Bool)}{g:Bool}(h:la gl env pO o=some g):o=none\/∃t b y,o=some (t,b)/\fe env t b=some y:=by
 cases o with
 |none=>simp
 |some x=>
  grind[YD]
theorem Hz(ak:gJ gl env G)(aP:∀g,g∈nf->cD env G (some g)=false):∀{a:Nat} {gd:Option (Nat×Bool)},tP nf gl a gd=true->cD env G gd=false
 |0,gd,h=>by grind[tP]
 |a+1,none,h=>by grind[tP]
 |a+1,some (t,b),h=>by
  simp only[tP,lV,vx,cX]at h;rcases h with⟨⟨f,c⟩,e,h1,d⟩|h
  . grind[cM]
  . have:=Hz ak aP h;rw[ak.aT t]at this;grind[cD]
theorem eC.bind(he:cN key J' G env env1)(ak:gJ gl env G)(aA:cm key J' bj)(aP:∀g,g∈nf->cD env G (some g)=false)(L:bN key J' v v1)(x:gd=none\/∃t b y,gd=some (t,b)/\fe env t b=some y)(A:nu gl gd dst=true)(f:kX nf dst=true):
 eC key (ir gl gd dst) nf (gA dst v env) J' (en env1 dst (cD env G gd) v1) bj (λk=>if dst=some k then cD env G gd else G k):=by
 refine⟨λk w a=>?_,?_,aA,λg j=>?_⟩
 . rw[F']at a;rw[mm];split at a
   . grind
   . rename_i h;rw[al h,al h];exact he k w a
 . cases dst with
   |none=>
    have:ir gl gd none=gl:=by cases gd<;>rfl
    simp_all[gA,reduceCtorEq,b4]
   |some d=>
    simp only[nu,cX,f',vt]at A;have J:∀k t b,aT gl k=some (t,b)->k≠d/\t≠d:=by
     intro k t b a;have K:∀{l:ev},aT l k=some (t,b)->(k,t,b)∈l:=by
      intro l;induction l with
      |nil=>grind[aT]
      |cons e r ih=>
       obtain⟨M,e⟩:=e;intro h;simp only[aT]at h;split at h
       . simp_all
       grind
     grind[hJ]
    have H:∀t b,t≠d->fe (gA (some d) v env) t b=fe env t b:=by
     intro t b ht;unfold fe;rw[F',al (by grind)]
    have p:∀k t b,aT gl k=some (t,b)->∃y,fe (gA (some d) v env) t b=some y/\(if some d=some k then cD env G gd else G k)=((if some d=some t then cD env G gd else G t)&&y):=by
     intro k t b a;obtain⟨y,E,F⟩:=ak.held k t b a;grind
    cases gd with
    |none=>
     refine⟨λk a=>?_,λk t b a=>p k t b a⟩;by_cases c:some d=some k
     . rw[af c];rfl
     . rw[al c];exact ak.free k a
    |some g=>
     obtain⟨t0,b0⟩:=g;have B:t0≠d:=by
      grind[Bool.not_eq_true',hJ]
     refine⟨λk a=>?_,λk t b a=>?_⟩
     . simp only[ir,aT]at a;split at a
       . grind
       . rw[al (by grind[hJ])];exact ak.free k a
     . simp only[ir,aT]at a;split at a
       . rename_i q;cases a;have:=cM q;subst this;rcases x with h|⟨t,b,y,h,D⟩
         . grind
         . cases h;refine⟨y,by grind,?_⟩;rw[af rfl,al (by simp;exactλe=>B e.symm)];simp[cD,D]
       . exact p k t b a
 . obtain⟨t,b⟩:=g;have h0:=aP _ j;cases dst with
   |none=>simpa[gA]using h0
   |some d=>
    simp only[kX,f',vt]at f;have o:t≠d:=hJ (f _ j);simp only[cD]at h0⊢;rw[al (by simp;exactλe=>o e.symm)];have:fe (gA (some d) v env) t b=fe env t b:=by
     unfold fe;rw[F',al (by simp;exactλe=>o e.symm)]
    rw[this];exact h0
theorem Ha:bN N J CU (.c (.t (.bool false))):= .c (.t _)
theorem BQ(h:eC key gl nf env J env1 J1 G)(c:o.guard=none\/∃t b y,o.guard=some (t,b)/\fe env t b=some y)(ak:cD env G o.guard=false)(d:nu gl o.guard o.dst=true)(e:kX nf o.dst=true)(f:bN (key+16) J v v1):
 DStep xb P o key env1 J1 false v1 J1/\eC (key+16) (ir gl o.guard o.dst) nf (gA o.dst v env) J (en env1 o.dst false v1) J1 (λk=>if o.dst=some k then false else G k):=by
 have a:=BO h.gO c;rw[ak]at a;refine⟨.skip a rfl,?_⟩;have:=eC.bind (h.gO.mono (dc.more (by simp))) h.ak (h.eJ.mono (Nat.le_add_right _ 16)) h.aP f c d e;grind
theorem Jh{c:Bool}(h:eC key gl nf env J env1 J1 G)(g:cj gl o.guard env J key o.op=some (c,v,J'))(d:o.guard=none\/∃t b y,o.guard=some (t,b)/\fe env t b=some y)(j:nu gl o.guard o.dst=true)(l:kX nf o.dst=true):
 (cD env G o.guard=true->c=true->∃v1 bj,DStep xb P o key env1 J1 true v1 bj/\eC (key+16) (ir gl o.guard o.dst) nf (gA o.dst v env) J' (en env1 o.dst true v1) bj (λk=>if o.dst=some k then true else G k))/\
 (cD env G o.guard=false->o.op.neutral=true->∃v1,DStep xb P o key env1 J1 false v1 J1/\eC (key+16) (ir gl o.guard o.dst) nf (gA o.dst v env) J (en env1 o.dst false v1) J1 (λk=>if o.dst=some k then false else G k)):=by
 obtain⟨⟨v1,f,n⟩,s,aP⟩:=QW h.gO h.ak h.eJ g;have i:=BO h.gO d;refine⟨λak q=>?_,λak u=>?_⟩
 . obtain⟨p,bj,h1,a,m⟩:=n ak q;rw[ak]at i;have r:o.op.drawn=true:=by
    generalize o.op=w at g;cases w<;>first|rfl|(simp[cj]at g)
   have hs:DStep xb P o _ _ J1 _ v1 _:= .op i r h1 (λ_=>a) (.inr rfl);have e:(if o.op.neutral then J1 else bj)=bj:=by
    grind[xl]
   rw[e]at hs;refine⟨v1,bj,hs,?_⟩;have:=eC.bind (h.gO.mono s) h.ak m h.aP f d j l;grind
 . rw[aP u]at f;obtain⟨h1,a⟩:=BQ h d ak j l f;exact⟨v1,h1,a⟩
theorem HA{x:bh U}(h:x.qV=true):x.ob.bO []=x.ob:=by
 cases x<;>simp[bh.qV]at h<;>try rfl
 rename_i f caps;cases caps with
 |nil=>rfl
 |cons=>grind
theorem Ga:∀{x:bC U},gD x=true->(fJ x).bO []=fJ x
 |.c x,h=>by grind[gD,fJ,V.bO,HA]
 |.agg cs,h=>by
  grind[gD,fJ,V.bO,List.map_congr_left,HA]
 |.a6 vs,h=>by
  simp[fJ,V.bO];rw[go vs h]
where go:∀(vs:List (bC U)),gD.go vs=true->V.bO.go [] (fJ.go vs)=fJ.go vs
 |[],_=>rfl
 |v::vs,h=>by
  simp[gD.go]at h;simp[fJ.go,V.bO.go,Ga h.1,go vs h.2]
def fB(P:Program)(fo:fA U):Prop:=∀f s,s∈fo f->s.f=f/\hb P f=true/\hn P s
theorem Gb{a:a7 U}{x:bh U}{d:C}(h:b8 N a x d)(hs:x.jn a=true):d=x.hX a:=by
 cases h<;>simp[bh.jn]at hs<;>try rfl
 . grind[bh.hX]
 grind[bh.hX]
theorem A3{a:a7 U}:∀{vs:List (bC U)} {i:Nat},(hV.go a vs)[i]?=(vs[i]?).map (hV a)
 |[],i=>by rfl
 |v::vs,0=>by rfl
 |v::vs,i+1=>by simp[hV.go,A3]
theorem PA{a:a7 U}:∀{vs:List (bC U)} {i:Nat} {v:bC U},kC.go a vs=true->vs[i]?=some v->kC a v=true
 |[],i,v,_,h=>by grind
 |x::vs,0,v,hs,h=>by grind[kC.go]
 |x::vs,i+1,v,hs,h=>by simp[kC.go]at hs;exact PA hs.2 (by simpa using h)
theorem GF{a:a7 U}:∀{xs:List (bh U)} {b:List C},aX (b8 N a) xs b->(∀x,x∈xs->x.jn a=true)->b=xs.map (bh.hX a)
 |[],[],_,_=>rfl
 |x::xs,d::b,.cons h1 c,hs=>by
  rw[kd,<-Gb h1 (hs x (by simp)),<-GF c (λx e=>hs x (by grind))]
theorem Iv{a:a7 U}{x:bC U}{d:V}(h:bN N a x d):kC a x=true->d=hV a x:=by
 induction h with
 |c h=>intro hs;rw[Gb h hs];rfl
 |agg h=>
  grind[kC,hV,GF]
 |a6 xs f ad h ih=>
  intro hs
  congr 1
  apply vv;intro i;rw[A3];cases b:xs[i]? with
  |none=>grind
  |some x=>
   have g:=(dV.1 b).1;have e:=eF (l:=f) (i:=i) (by omega);rw[e]
   congr 1
   exact ih i x _ b e (PA hs b)
theorem Ji{a:a7 U}{x:cI U}{y:bP}(h:hC N a x y)(hs:gf a x=true):y=rj a x:=by
 cases h with
 |box h=>grind[gf,rj,GF]
 |arr t l=>rfl
 |set ks=>rfl
 |buf E s=>rfl
 |bT h=>grind[gf,rj,Gb]
 |cz=>grind[gf]
 |rows=>grind[gf]
theorem yu{a:a7 U}:∀{l:a7 U} {b:Nat},aR (kA a l) b=(aT l b).map (rj a)
 |[],b=>rfl
 |(k,x)::r,b=>by
  simp[kA,aR,aT];cases h:Nat.beq k b with
  |true=>simp_all
  |false=>rw[al (hJ h)];exact yu
theorem KC{k:Nat}:∀{v:V},v.b' (back [] k)=v.sh k
 |.c x=>by rfl
 |.agg cs=>by rfl
 |.a6 vs=>by simp[V.b',V.sh];rw[go vs]
where go:∀(vs:List V),V.b'.go _ vs=V.sh.go k vs
 |[]=>rfl
 |v::vs=>by simp only[V.b'.go,V.sh.go];rw[KC,go vs]
theorem Q4{k:Nat}:∀{s:aZ},hf J1 [] (back [] k) s=ma J1 k s
 |[]=>rfl
 |(b,x)::r=>by
  simp[hf];rw[Q4];rfl
theorem Cb:∀{ss:List fE} {j:Nat} {a:eL U} {i:Nat} {x:cI U},aT (hi j ss a) i=some x->j<=i/\i<j+ss.length
 |[],j,a,i,x,h=>by grind[hi,aT]
 |s::ss,j,a,i,x,h=>by
  simp[hi]at h;split at h
  . simp[aT]at h;split at h
    . simp_all
    . have:=Cb h;grind
  . have:=Cb h;grind
theorem Qx{bs:aW}:∀{caps:aW},(∀c,c∈caps->pos bs c=some c)->oS bs caps=some caps
 |[],_=>rfl
 |c::cs,h=>by simp[oS,h c _,Qx (caps:=cs) (λx a=>h x (by grind))]
theorem u6{a:a7 U}(g:∀b x,aT a b=some x->b<N){x:bh U}(hs:x.jn a=true):b8 N a x (x.hX a)/\dC ((x.hX a).bO (List.range N)) (x.hX a):=by
 have aj:∀b,hasB a b=true->pos (List.range N) b=some b:=by
  grind[hasB,mv]
 cases x with
 |t c=>exact⟨.t c,dC.refl _⟩
 |ptr b o=>
  refine⟨.ptr b o,?_⟩;simp only[bh.hX,C.bO,aj b hs];exact dC.refl _
 |cG b ty i o=>
  refine⟨.cG b ty i o,?_⟩;simp only[bh.hX,C.bO,aj b hs];exact dC.refl _
 |dO ty x o=>exact⟨.dO ty x o,dC.refl _⟩
 |arr b=>
  simp only[bh.jn]at hs;split at hs
  . rename_i y d;split at hs
    . rename_i p e;simp only[bh.hX,d,e];refine⟨.arr b p.1 p.2 (g b y d) λz k q j=>?_,?_⟩
      . grind
      grind[C.bO,hasB,dC.refl]
    grind
  grind
 |dQ b l len=>grind[bh.jn]
 |sub b l len=>grind[bh.jn]
 |pre b h=>grind[bh.jn]
 |mp b=>
  refine⟨.mp b,?_⟩;simp only[bh.hX,C.bO,aj b hs];exact dC.refl _
 |eu b=>grind[bh.jn]
 |cb b=>
  simp only[bh.jn]at hs;split at hs
  . rename_i y d;split at hs
    . rename_i p e;simp only[bh.hX,d,e];refine⟨.cb b p.2 (g b y d) λz k q j=>?_,?_⟩
      . grind[cM]
      grind[C.bO,hasB,dC.refl]
    grind
  grind
 |aL=>exact⟨.aL,dC.refl _⟩
 |e6=>exact⟨.e6,dC.refl _⟩
 |e5=>exact⟨.e5,dC.refl _⟩
 |fn f caps=>
  simp only[bh.jn]at hs;refine⟨.fn f caps,?_⟩;grind[Qx,bh.hX,C.bO,dC.refl]
 |dead=>grind[bh.jn]
theorem t'{a:a7 U}(c:∀b x,aT a b=some x->b<N):∀{xs:List (bh U)},(∀x,x∈xs->x.jn a=true)->aX (b8 N a) xs (xs.map (bh.hX a))/\aX dC ((xs.map (bh.hX a)).map (C.bO (List.range N))) (xs.map (bh.hX a))
 |[],_=>⟨.nil,.nil⟩
 |x::xs,hs=>by
  obtain⟨h1,d⟩:=u6 c (hs x (by simp));obtain⟨e,f⟩:=t' c (xs:=xs) (λx g=>hs x (by grind));exact⟨.cons h1 e,.cons d f⟩
theorem Pg{a:a7 U}:∀{vs:List (bC U)},(hV.go a vs).length=vs.length
 |[]=>rfl
 |v::vs=>by simp[hV.go,Pg]
theorem xI{N:Nat}{a:a7 U}(e:∀b x,aT a b=some x->b<N):∀{x:bC U},kC a x=true->bN N a x (hV a x)/\gC ((hV a x).bO (List.range N)) (hV a x)
 |.c x,hs=>by
  obtain⟨h1,f⟩:=u6 e (x:=x) (by grind[kC]);exact⟨.c h1,.c f⟩
 |.agg cs,hs=>by
  simp[kC,f']at hs;obtain⟨h1,f⟩:=t' e hs;exact⟨.agg h1,.agg f⟩
 |.a6 vs,hs=>by
  have:=go e vs hs;refine⟨.a6 _ _ (by rw[Pg]) λi x d g j=>?_,.a6 _ _ (by rw[A2]) λi x y g k=>?_⟩
  . grind[A3]
  grind[BB,A3]
where go {N:Nat} {a:a7 U} (e:∀b x,aT a b=some x->b<N):∀(vs:List _),kC.go a vs=true->∀x,x∈vs->bN N a x (hV a x)/\gC ((hV a x).bO (List.range N)) (hV a x)
 |[],_=>by simp
 |v::vs,hs=>by
  simp[kC.go]at hs;have h1:=xI e hs.1;have f:=go e vs hs.2;grind
theorem P3 {fo:fA U}(ab:fB P fo){o:bZ}{f:Nat}{args:List aO}(ah:o.op= .call f args)(h:eC key gl nf env J env1 J1 G)(z:o.guard=none)(Y:nu gl o.guard o.dst=true)(Z:kX nf o.dst=true)
 {k:a7 U->bC U->Option R}{r:R}:∀{ss:List (cw U)},(∀s,s∈ss->s∈fo f)->y4 (λe=>lo gl o.guard e args) env J key k ss=some r->
 ∃v v1 J' bj,k J' v=some r/\DStep xb P o key env1 J1 true v1 bj/\eC (key+16) (ir gl o.guard o.dst) nf (gA o.dst v env) J' (en env1 o.dst true v1) bj (λi=>if o.dst=some i then true else G i)
 |[],_,g=>by grind[y4]
 |s::ss,af,g=>by
  simp only[y4]at g;split at g
  . exact P3 ab ah h z Y Z (λs hs=>af s (by grind)) g
  . rename_i aa aj;unfold D' at aj;split at aj
    . rename_i vs ag ai;simp only[cX]at ag;split at aj
      . rename_i a I aq;rw[f']at I;obtain⟨aC,aQ,aD⟩:=ab f s (af s (by simp));obtain⟨p,C,b1,b2,am⟩:=sB h.gO h.ak ai;have aE:s.st=[]:=(by grind[isNil]);have O:=hK ag.2;obtain⟨m,hres,F⟩:=kI.1 g;split at F
        . rename_i A;simp only[cX]at A;obtain⟨ys,f1,ad,g1⟩:=tD (N:=key) (Jc:=([]:a7 U)) (vj) (λj b aM aU=>by grind) aq
          obtain⟨M,aK,an,dD⟩:=g1 C b2.length (λi x d g t=>by
           obtain⟨L,h1,w⟩:=b2.get g
           rw[t]at h1;cases h1;omega)
          have aS:aJ.cells U.D s.ts aa=a:=aJ.fl aj;have ar:s.args aa=ys:=by
           unfold cw.args;have:=f1 [];grind
          have T:s.ia aa=[]:=by unfold cw.ia;rw[aE];rfl
          have ae:s.st.length=0:=by grind
          have W:=aD aa m hres M [] (by
           rw[ar,T,ae]
           refine aX.lf (by rw[ad,aK,b2.length]) λi x d g t=>dD i x d g t) (by rw[T];intro b x g;grind[aT])
          rw[aC,ae]at W;have aF:aX gC C M:=by
           refine aX.lf aK.symm λi d L t ax=>?_;have ai:=an i d L t ax;obtain⟨x,g,H⟩:=(b2.flip (R':=λd x=>bN key J x d) λ_ _ h=>h).get t;have hs:=I x (e7 g);have:=xH H hs;grind[Ga]
          have av:=eb.conv aF (J:=[]) (λb aM g=>by grind[aR]) W;have q:∀b x,aT (s.rest m) b=some x->b<16/\gf (s.rest m) x=true:=by
           intro b x g;have aA:∀{l:a7 U},aT l b=some x->(b,x)∈l:=by
            intro l;induction l with
            |nil=>grind[aT]
            |cons e r ih=>
             obtain⟨aV,e⟩:=e;intro h;simp only[aT]at h;split at h
             . simp_all
             grind
           have:=A.2;unfold GP at this;rw[f']at this;have w:=this _ (aA g);simp only[cX]at w;exact⟨by have:=hK w.1;omega,w.2⟩
          have u:∀b x,aT (s.rest m) b=some x->b<s.eG.length:=by
           intro b x g;have:=(Cb g).2;omega
          have aw:eb P f C [] 0 (λaL s' al=>aL=hV (s.rest m) (s.res m)/\s'=kA (s.rest m) (s.rest m)/\al=s.eG.length):=by
           refine eb.tidy av ?_
           rintro aY s1 aN ⟨rfl,aH,aI⟩
           have aB:=Iv aH A.1;subst aB;refine⟨List.range s.eG.length,_,_,List.nodup_range,rfl,?_,?_,rfl,rfl,by simp⟩
           . exact(xI u A.1).2
           . intro b x g;rw[yu,bu]at g;obtain⟨K,B,rfl⟩:=g;obtain⟨h1,y,w,ao⟩:=aI b K B;have aG:=Ji ao (q b K B).2;subst aG;have ht:=yk (bs:=List.range s.eG.length) (i:=0) (j:=b) (r:=List.range s.eG.length) (by simp[h1]) w;rw[hx]at ht;refine⟨_,ht,?_⟩;cases K with
             |box cs=>
              have n:=(q b _ B).2;simp only[gf,f']at n;exact .box (t' u n).2
             |arr ty l=>exact .arr
             |rows sz l=>have n:=(q b _ B).2;simp[gf]at n
             |set ks=>exact .same
             |buf E s=>exact .same
             |bT E c=>have n:=(q b _ B).2;exact .bT (u6 u (by simpa[gf]using n)).2
             |cz=>have n:=(q b _ B).2;simp[gf]at n
          have au:V.ay.V.dw (lt 0) C=true:=by
           refine rA λi d t=>?_;obtain⟨x,g,H⟩:=(b2.flip (R':=λd x=>bN key J x d) λ_ _ h=>h).get t;have hs:=I x (e7 g);have:=xH H hs;subst this;exact(u5 (N:=key) (J:=J) hs).2 _
          have ak:fX env1 o.guard=some true:=by rw[z];rfl
          have az:(kA (s.rest m) (s.rest m)).all (λx=>decide (x.1<16))=true:=by
           have ay:=A.2;unfold GP at ay;have:∀{l:a7 U},(l.all λp=>Nat.ble (p.1+1) 16&&gf (s.rest m) p.2)=true->(kA (s.rest m) l).all (λx=>decide (x.1<16))=true:=by
            intro l;induction l with
            |nil=>intro _;rfl
            |cons e r ih=>
             obtain⟨b,x⟩:=e;intro h;simp only[pq,cX]at h;simp only[kA,pq,cX,gE];exact⟨by have:=hK h.1.1;omega,ih h.2⟩
           grind
          have X:bN s.eG.length (s.rest m) (s.res m) (hV (s.rest m) (s.res m))/\cm s.eG.length (s.rest m) (kA (s.rest m) (s.rest m)):=by
           refine⟨(xI u A.1).1,λb x g=>?_⟩;refine⟨u b x g,rj (s.rest m) x,by rw[yu,g];rfl,?_⟩;cases x with
           |box cs=>
            have n:=(q b _ g).2;simp only[gf,f']at n;exact .box (t' u n).1
           |arr ty l=>exact .arr ty l
           |rows sz l=>have n:=(q b _ g).2;simp[gf]at n
           |set ks=>exact .set ks
           |buf E s=>exact .buf E s
           |bT E c=>have n:=(q b _ g).2;exact .bT (u6 u (by simpa[gf]using n)).1
           |cz=>have n:=(q b _ g).2;simp[gf]at n
          have cp:s.eG.length<=([]:aW).length+16:=(by simpa using O);have Q:=cm.Du (key:=key) (bs:=[]) vj (by simp) cp h.eJ rfl X.2;have S:=bN.b' (key:=key) (bs:=[]) (J:=J) vj (by simp) cp h.eJ X.1;have ap:=BP (key:=key) (bs:=[]) (Jr:=s.rest m) vj (by simp) h.eJ rfl;rw[KC]at S;rw[Q4]at Q;refine⟨_,(hV (s.rest m) (s.res m)).sh key,_,ma J1 key (kA (s.rest m) (s.rest m)),F,.own ah ak z b1 (am (by rw[z];rfl)) au O az aw rfl,?_⟩;have:=eC.bind (gd:=o.guard) (dst:=o.dst) (nf:=nf) (h.gO.mono ap) h.ak Q h.aP S (.inl z) Y Z;rw[z]at this⊢;exact this
        . cases F
      . cases aj
    . cases aj
theorem Q5:∀{args:List aO} {p:Prop} {a:List V},hv env1 args=some (p,a)->kT env1 args=a.flatMap V.fV
 |[],p,a,h=>by simp[hv]at h;rw[h.2];rfl
 |x::xs,p,a,h=>by
  simp only[hv,bf,bu]at h;obtain⟨⟨c,v0⟩,h1,⟨d,e⟩,b,_,rfl⟩:=h;have ih:=Q5 b;grind[kT]
theorem Jj{c:a7 U}{x:bh U}{d:C}(h:b8 N c x d):∀b,b∈x.fV->b∈d.fV:=by
 intro b a;cases h<;>simp only[bh.fV]at a⊢<;>first|exact a|(simp at a)
theorem Iw{e:a7 U}:∀{xs:List (bh U)} {c:List C},aX (b8 N e) xs c->∀b,b∈xs.flatMap bh.fV->b∈c.flatMap C.fV
 |[],[],_,b,a=>a
 |x::xs,d::c,.cons h1 f,b,a=>by
  simp only[hO,hP]at a⊢;rcases a with a|a
  . grind[Jj]
  . exact .inr (Iw f b a)
theorem aam{e:a7 U}{x:bC U}{d:V}(h:bN N e x d):∀b,b∈x.fV->b∈d.fV:=by
 intro b a;cases h with
 |c h=>exact Jj h b a
 |agg h=>exact Iw h b a
 |a6=>grind[bC.fV]
theorem Ix{e:a7 U}:∀{xs:List (bC U)} {c:List V},aX (bN N e) xs c->∀b,b∈xs.flatMap bC.fV->b∈c.flatMap V.fV
 |[],[],_,b,a=>a
 |x::xs,d::c,.cons h1 f,b,a=>by
  simp only[hO,hP]at a⊢;rcases a with a|a
  . grind[aam]
  . exact .inr (Ix f b a)
theorem Iy{l:aW}{b:Nat}(h:lS l b=true):b∈l:=by
 simp_all[lS]
theorem Fi {fo:fA U}(ab:fB P fo){o:bZ}{f:Nat}{args:List aO}(ag:o.op= .call f args)(h:eC key gl nf env J env1 J1 G)(H:o.guard=none\/∃t b y,o.guard=some (t,b)/\fe env t b=some y)(Y:nu gl o.guard o.dst=true)(Z:kX nf o.dst=true)
 (I:cD env G o.guard=true){k:a7 U->bC U->Option R}{r:R}:∀{ss:List (cw U)},(∀s,s∈ss->s∈fo f)->uT xb (λe=>lo gl o.guard e args) env J key k ss=some r->
 ∃v v1 J' bj,k J' v=some r/\DStep xb P o key env1 J1 true v1 bj/\eC (key+16) (ir gl o.guard o.dst) nf (gA o.dst v env) J' (en env1 o.dst true v1) bj (λi=>if o.dst=some i then true else G i)
 |[],_,g=>by grind[uT]
 |s::ss,af,g=>by
  simp only[uT]at g;split at g
  . exact Fi ab ag h H Y Z I (λs hs=>af s (by grind)) g
  . rename_i bs aa aj;obtain⟨aL,a2,aM⟩:=ab f s (af s (by simp));obtain⟨m,hres,D⟩:=kI.1 g;unfold OD at aj;split at aj
    . grind
    . rename_i vs aS;split at aj;split at aj
      . grind
      . rename_i u;simp only[cX,f']at u;obtain⟨_,av,F,aw,ax,ay⟩:=u;split at aj
        . rename_i a b ap Q;split at aj
          . rename_i a4 aD;cases aj;have bY:=yl av;have aE:=λb u=>hK (F b u).1;have ae:=cM aw;have a5:=hK ax;have cp:=hK ay;obtain⟨p,K,b1,b2,al⟩:=sB h.gO h.ak aS;have az:=y3 bY Q;obtain⟨ys,f1,ad,g1⟩:=tD (N:=key) bY az ap
            obtain⟨M,aK,a1,dD⟩:=g1 K b2.length (λi x d g X=>by
             obtain⟨a0,h1,O⟩:=b2.get g
             grind)
            obtain⟨aY,t1,t2⟩:=CB bY h.eJ Q;have a3:=aJ.fl aD;have ar:s.args aa=ys:=(by grind[cw.args]);have au:s.ia aa=hi 0 s.st b:=by grind[cw.ia]
            have T:=aM aa m hres M aY (by
             rw[ar,au,<-ae]
             exact aX.lf (by rw[ad,aK,b2.length]) λi x d g X=>dD i x d g X) (by grind)
            rw[aL,<-ae]at T;have aN:aX gC (K.map (V.bO bs)) M:=by
             grind[aX.lf]
            have aA:=eb.conv aN t1 T;split at D
            . rename_i c A S;simp only[cX]at A;split at D
              . rename_i aC;subst aC;have q:∀b x,aT (s.rest m) b=some x->gf (s.rest m) x=true:=by
                 intro b x g;have a6:∀{l:a7 U},aT l b=some x->(b,x)∈l:=by
                  intro l;induction l with
                  |nil=>intro h;simp[aT]at h
                  |cons e r ih=>
                   obtain⟨a8,e⟩:=e;intro h;simp only[aT]at h;split at h
                   . simp_all
                   grind
                 have:=A.2;unfold G' at this;grind
                have w:∀b x,aT (s.rest m) b=some x->b<s.eG.length:=by
                 intro b x g;have:=(Cb g).2;omega
                have aB:eb P f (K.map (V.bO bs)) (fH bs J1 0 bs) bs.length (λaW s' ai=>aW=hV (s.rest m) (s.res m)/\s'=kA (s.rest m) (s.rest m)/\ai=s.eG.length):=by
                 refine eb.tidy aA ?_
                 rintro a9 s1 aZ ⟨rfl,aU,aV⟩
                 have aI:=Iv aU A.1;subst aI;refine⟨List.range s.eG.length,_,_,List.nodup_range,?_,?_,?_,rfl,rfl,by simp⟩
                 . unfold keeps;grind
                 . exact(xI w A.1).2
                 . intro b x g;rw[yu,bu]at g;obtain⟨L,B,rfl⟩:=g;obtain⟨h1,y,O,C⟩:=aV b L B;have ah:=Ji C (q b L B);subst ah;have ht:=yk (bs:=List.range s.eG.length) (i:=0) (j:=b) (r:=List.range s.eG.length) (by simp[h1]) O;rw[hx]at ht;refine⟨_,ht,?_⟩;cases L with
                   |box cs=>
                    have n:=q b _ B;simp only[gf,f']at n;exact .box (t' w n).2
                   |arr ty l=>exact .arr
                   |rows sz l=>have n:=q b _ B;simp[gf]at n
                   |set ks=>exact .same
                   |buf E s=>exact .same
                   |bT E c=>have n:=q b _ B;exact .bT (u6 w (by simpa[gf]using n)).2
                   |cz=>have n:=q b _ B;simp[gf]at n
                have aq:=BO h.gO H;have aH:(kA (s.rest m) (s.rest m)).all (λx=>decide (x.1<bs.length+16))=true:=by
                 have aF:=A.2;unfold G' at aF;have:∀{l:a7 U},(l.all λp=>Nat.ble (p.1+1) (bs.length+16)&&gf (s.rest m) p.2)=true->(kA (s.rest m) l).all (λx=>decide (x.1<bs.length+16))=true:=by
                  intro l;induction l with
                  |nil=>intro _;rfl
                  |cons e r ih=>
                   obtain⟨b,x⟩:=e;intro h;simp only[pq,cX]at h;simp only[kA,pq,cX,gE];exact⟨by have:=hK h.1.1;omega,ih h.2⟩
                 grind
                have W:bN s.eG.length (s.rest m) (s.res m) (hV (s.rest m) (s.res m))/\cm s.eG.length (s.rest m) (kA (s.rest m) (s.rest m)):=by
                 refine⟨(xI w A.1).1,λb x g=>?_⟩;refine⟨w b x g,rj (s.rest m) x,by rw[yu,g];rfl,?_⟩;cases x with
                 |box cs=>
                  have n:=q b _ g;simp only[gf,f']at n;exact .box (t' w n).1
                 |arr ty l=>exact .arr ty l
                 |rows sz l=>have n:=q b _ g;simp[gf]at n
                 |set ks=>exact .set ks
                 |buf E s=>exact .buf E s
                 |bT E c=>have n:=q b _ g;exact .bT (u6 w (by simpa[gf]using n)).1
                 |cz=>have n:=q b _ g;simp[gf]at n
                have an:=cm.Du (key:=key) (bs:=bs) bY aE cp h.eJ S W.2;have ao:=bN.b' (key:=key) (bs:=bs) (J:=J) bY aE cp h.eJ W.1;have am:=BP (key:=key) (bs:=bs) (Jr:=s.rest m) bY aE h.eJ S;have aG:∀b,b∈bs->∃x,aR J1 b=some x:=by
                 intro b u;have C:=(F b u).2.2;unfold hasB at C;split at C
                 . rename_i x g;obtain⟨_,y,ah,_⟩:=h.eJ b x g;grind
                 . cases C
                have aQ:∀b,b∈bs->b∈kT env1 args++xb:=by
                 intro b u;rw[Q5 b1];have z:=(F b u).2.1;rw[lV]at z;rcases z with z|z
                 . exact DU _ (Ix b2 b (Iy z))
                 . exact List.mem_append_right _ (Iy z)
                refine⟨_,(hV (s.rest m) (s.res m)).b' (back bs key),_,_,D,.raw ag (by rw[aq,I]) rfl b1 (al I) bY aE aG aQ cp aH aB rfl,?_⟩;have:=eC.bind (gd:=o.guard) (dst:=o.dst) (nf:=nf) (h.gO.mono am) h.ak an h.aP ao H Y Z;simp_all
              . cases D
            . cases D
          . cases aj
        . cases aj
theorem E7 {fo:fA U}(S:fB P fo){o:bZ}{f:Nat}{args:List aO}(w:o.op= .call f args\/(o.guard=none/\∃x q,o.op= .hW x args/\x.get env1=some (q,.c (.fn f []))/\q))(h:eC key gl nf env J env1 J1 G)(E:o.guard=none\/∃t b y,o.guard=some (t,b)/\fe env t b=some y)(O:nu gl o.guard o.dst=true)(Q:kX nf o.dst=true)
 {g:Bool}(ak:g=cD env G o.guard){k:bC U->Option R}{r:R}:∀{ss:List (cw U)},(∀s,s∈ss->s∈fo f)->vS (λe=>lo gl o.guard e args) env g k ss=some r->
 ∃v v1,k v=some r/\DStep xb P o key env1 J1 g v1 J1/\eC (key+16) (ir gl o.guard o.dst) nf (gA o.dst v env) J (en env1 o.dst g v1) J1 (λi=>if o.dst=some i then g else G i)
 |[],_,l=>by grind[vS]
 |s::ss,Y,l=>by
  simp only[vS]at l;split at l
  . exact E7 S w h E O Q ak (λs hs=>Y s (by grind)) l
  . rename_i aa aj;unfold Ea at aj;split at aj
    . rename_i vs aC B;split at aj
      . rename_i a H ah;rw[f']at H;obtain⟨ap,al,aq⟩:=S f s (Y s (by simp));obtain⟨p,C,b1,b2,ab⟩:=sB h.gO h.ak B;have ar:s.st=[]:=(by grind[isNil]);obtain⟨u,hres,F⟩:=kI.1 l;split at F
        . rename_i Z;obtain⟨av,aw⟩:=u5 (N:=key+16) (J:=J) Z;have K:=BO h.gO E;rw[<-ak]at K;have ag:eC (key+16) (ir gl o.guard o.dst) nf (gA o.dst (s.res u) env) J (en env1 o.dst g (fJ (s.res u))) J1 (λi=>if o.dst=some i then g else G i):=by
           have:=eC.bind (dst:=o.dst) (h.gO.mono (dc.more (by simp:key<=key+16))) h.ak (h.eJ.mono (Nat.le_add_right key 16)) h.aP av E O Q;grind
          refine⟨s.res u,fJ (s.res u),F,?_,ag⟩;have W:g=true->p/\V.ay.V.dw (lt 0) C=true/\(fJ (s.res u)).ay (lt 0)=true/\eb P f C [] 0 (λax _ _=>ax=fJ (s.res u)):=?_
          . rcases w with w|⟨T,x,q,w,l,ao⟩
            . exact .call w K b1 W
            . have A:g=true:=by rw[ak,T];rfl
              exact .hW w T A l ao al b1 (W A)
          intro A;rw[af A]at hres;obtain⟨ys,f1,ad,g1⟩:=tD (N:=key) (Jc:=([]:a7 U)) (vj) (λj b ay aB=>by grind) ah
          obtain⟨I,aK,ae,dD⟩:=g1 C b2.length (λi x d l m=>by
           obtain⟨z,h1,az⟩:=b2.get l
           rw[m]at h1;cases h1;omega)
          have aA:aJ.cells U.D s.ts aa=a:=aJ.fl aj;have ai:s.args aa=ys:=by
           unfold cw.args;have:=f1 [];grind
          have L:s.ia aa=[]:=by unfold cw.ia;rw[ar];rfl
          have X:s.st.length=0:=by grind
          have M:=aq aa u hres I [] (by
           rw[ai,L,X]
           refine aX.lf (by rw[ad,aK,b2.length]) λi x d l m=>dD i x d l m) (by rw[L];intro b x l;grind[aT])
          rw[ap,X]at M;have au:aX gC C I:=by
           refine aX.lf aK.symm λi d z m am=>?_;have B:=ae i d z m am;obtain⟨x,l,n⟩:=(b2.flip λ_ _ h=>h).get m;exact adZ (H x (e7 l)) B n
          refine⟨ab (by grind),?_,aw _,?_⟩
          . refine rA λi d m=>?_;obtain⟨x,l,n⟩:=(b2.flip (R':=λd x=>bN key J x d) λ_ _ h=>h).get m;exact ad0 (H x (e7 l)) n
          . refine eb.conv au (λb ay l=>by simp[aR]at l) (M.mono λaD bj N' an=>?_);exact xH an.2.1 Z
        . cases F
      grind
    grind
where
 adZ {x:bC U} {d z:V} (hs:gD x=true) (B:gC (d.bO []) z) (n:bN key J x d):gC d z:=by
  have:=xH n hs;grind[Ga]
 ad0 {x:bC U} {d:V} (hs:gD x=true) (n:bN key J x d):d.ay (lt 0)=true:=by
  have:=xH n hs;grind[u5]
theorem BF {fo:fA U}(Q:fB P fo){f:Nat}{H:kP U}{cal:Env->List V->Prop}
 (X:∀{env':bK U} {J2:a7 U} {g:Env} {vs:List (bC U)},cN key J2 G env' g->gJ gl env' G->H env'=some vs->∃m,aX (bN key J2) vs m/\cal g m)
 (he:cN key J G env env1)(ak:gJ gl env G)(aA:cm key J J1){k:bK U->a7 U->bC U->Option R}{r:R}:∀{ss:List (cw U)},(∀s,s∈ss->s∈fo f)->vT H env J key k ss=some r->
 ∃env' J2 g bj m,Conv kk key env1 J1 key g bj/\cN key J2 G env' g/\gJ gl env' G/\(∀t b,fe env' t b=fe env t b)/\cal g m/\hb P f=true/\
  KB P f m bj key g (λZ s1=>∃y v,k env' y v=some r/\cN (key+16) y G env' g/\cm (key+16) y s1/\bN (key+16) y v Z)
 |[],_,j=>by grind[vT]
 |s::ss,Y,j=>by
  simp only[vT]at j;split at j
  . exact BF Q X he ak aA (λs hs=>Y s (by grind)) j
  . rename_i env' J2 bs h aj;obtain⟨az,ao,aB⟩:=Q f s (Y s (by simp));obtain⟨aL,hres,u⟩:=kI.1 j;unfold OC at aj;split at aj
    . grind
    . split at aj;split at aj
      . cases aj
      . rename_i aQ aO T;split at aj
        . cases aj
        . rename_i vs aD;split at aj
          . cases aj
          . rename_i q;simp only[cX,f']at q;obtain⟨ah,ai,al,am⟩:=q;split at aj
            . rename_i a b af K;split at aj
              . rename_i aa ax;cases aj;have bY:=yl ah;have aE:∀b,b∈bs->b<key:=λb q=>hK (ai b q);have E:=cM al;have ay:=hK am;obtain⟨g,bj,au,C,z,W⟩:=uy (kk:=kk) (gl:=gl) T he aA;obtain⟨m,b2,ap⟩:=X C (W ak) aD;have aq:=y3 bY K;obtain⟨ys,f1,ad,g1⟩:=tD (N:=key) bY aq af
                obtain⟨F,aK,aP,dD⟩:=g1 m b2.length (λi x d j B=>by
                 obtain⟨ab,h1,ae⟩:=b2.get j
                 grind)
                obtain⟨aM,t1,t2⟩:=CB bY z K;have M:aJ.cells U.D s.ts h=a++b:=aJ.fl ax;have ag:s.args h=ys:=by unfold cw.args;rw[M,f1]
                have I:s.ia h=hi 0 s.st b:=by unfold cw.ia;rw[M,f1]
                have O:=aB h aL hres F aM (by
                 rw[ag,I,<-E]
                 exact aX.lf (by rw[ad,aK,b2.length]) λi x d j B=>dD i x d j B) (by rw[I,<-E];exact t2)
                rw[az,<-E]at O;have aC:aX gC (m.map (V.bO bs)) F:=by
                 refine aX.lf (by simp[aK]) λi d ab B aR=>?_;grind
                have ar:=eb.conv aC t1 O;split at u
                . cases u
                . rename_i c L;split at u
                  . rename_i aw;subst aw;have cp:s.eG.length<=bs.length+16:=ay;refine⟨env',J2,g,bj,m,au,C,W ak,λt b=>Mn T,ap,ao,?_⟩;intro av nt φ S a w R an aN aG;refine(hB.raw (n:=lt key) (key:=key) bY aE ar ?_ (λb q=>by simp[lt];exact aE b q) av nt φ S g a w R (λb h1 _=>xS h1) an aN aG)
                    rintro Z s1 N' ⟨rfl,aH,aI⟩
                    refine⟨cp,_,_,u,C.mono (BP bY aE z L),cm.Du bY aE cp z L aI,bN.b' bY aE cp z aH⟩
                  . cases u
              . cases aj
            . cases aj
where
 Mo {env:bK U} {b0:Nat} {ty:aF} {l:List (ty.den U.D)} {t:Nat} {b:Bool}:fe (q0 b0 (⟨.slice ty,l⟩:Cell U.D) env) t b=fe env t b:=by
  unfold fe;rw[B9];cases aT env t with
  |none=>rfl
  |some v=>
   cases v with
   |c x=>
    cases x with
    |arr A=>grind[bC.cc,bh.cc]
    |cG A aU i o=>grind[bC.cc,bh.cc]
    |pre A h=>grind[bC.cc,bh.cc]
    |dQ A aS h=>grind[bC.cc,bh.cc]
    |_=>rfl
   |agg cs=>rfl
   |a6 vs=>rfl
 Mn {l:List (Nat×aF)} {env env':bK U} {J J':a7 U} {t:Nat} {b:Bool} (h:kl l env J=some (env',J')):fe env' t b=fe env t b:=by
  induction l generalizing env J with
  |nil=>grind[kl]
  |cons p l ih=>
   simp only[kl]at h;split at h
   . rename_i e s h1;have ae:fe e t b=fe env t b:=by
      unfold vQ at h1;split at h1
      . split at h1
        . cases h1;exact Mo
        grind
      . split at h1
        . cases h1;exact Mo
        grind
      grind
     grind
   grind
theorem Q6{fo:fA U}(w:fB P fo)(h:eC key gl nf env J env1 J1 G){k:ev->jP->bK U->a7 U->Option R}{r:R}(a:q2 fo (some xb) o key gl nf env J k=some r):
 ∃g v1 bj O V env' J' W,DStep xb P o key env1 J1 g v1 bj/\k O V env' J'=some r/\eC (key+16) O V env' J' (en env1 o.dst g v1) bj W:=by
 unfold q2 at a;split at a
 . grind
 . rename_i Q;simp only[cX]at Q;obtain⟨j,m⟩:=Q;split at a
   . rename_i bI;split at a
     . rename_i A z;have Y:=Hz h.ak h.aP bI;obtain⟨h1,i⟩:=BQ (P:=P) h (Cp z) Y j m (Ha (U:=U) (N:=key+16) (J:=J));exact⟨_,_,_,_,_,_,_,_,h1,a,i⟩
     grind
   . split at a
     . rename_i f args p;split at a
       . split at a
         . rename_i g gd ak e;have u:o.guard=none\/∃t b y,o.guard=some (t,b)/\fe env t b=some y:=(by grind[Cp]);have n:g=cD env G o.guard:=BD h.ak ak;split at a
           . obtain⟨v,v1,J',bj,h1,i,l⟩:=Fi (fo:=fo) w p h u j m (by grind) (λs hs=>hs) a;exact⟨_,_,_,_,_,_,_,_,i,h1,l⟩
           . have I:cD env G o.guard=false:=by grind
             have C:eC key gl (gd::nf) env J env1 J1 G:=⟨h.gO,h.ak,h.eJ,λA z=>by
              rcases e2.1 z with rfl|L
              . grind
              . exact h.aP A L⟩
             have H:kX (gd::nf) o.dst=true:=by
              cases F:o.dst with
              |none=>rfl
              |some d=>
               simp_all[kX,pq,cX,nu]
             obtain⟨h1,i⟩:=BQ (P:=P) C u I j H (Ha (U:=U) (N:=key+16) (J:=J));exact⟨_,_,_,_,_,_,_,_,h1,a,i⟩
         grind
       unfold Hi at a;split at a
       . rename_i e;simp only at a;split at a
         case h_2=>
          obtain⟨v,v1,J',bj,h1,i,l⟩:=Fi (fo:=fo) w p h (.inl e) j m (by rw[e];rfl) (λs hs=>hs) a;grind
         rw[e]at a;obtain⟨v,v1,J',bj,h1,i,l⟩:=P3 (fo:=fo) w p h e j m (k:=λJ v=>k (ir gl o.guard o.dst) nf (gA o.dst v env) J) (λs hs=>hs) (by rw[e];omega);exact⟨_,_,_,_,_,_,_,_,i,h1,l⟩
       . rename_i gd e;split at a
         . rename_i g ak;rw[e]at a ak;obtain⟨v,v1,h1,i,l⟩:=E7 (fo:=fo) w (.inl p) h (by grind[Cp]) j m (g:=g) (by rw[e];exact BD h.ak ak) (λs hs=>hs) (by rw[e];omega);rw[e]at l;exact⟨_,_,_,_,_,_,_,_,i,h1,l⟩
         grind
     . rename_i x args p;split at a
       . grind
       . rename_i aa f F e Z;obtain⟨q,v1,a1,a2,a3⟩:=cd h.gO h.ak Z;have:=a2.Dt;subst this;obtain⟨v,v1,h1,i,l⟩:=E7 (xb:=xb) (fo:=fo) w (.inr ⟨e,x,q,p,a1,a3 rfl⟩) h (.inl e) j m (g:=true) (by rw[e];rfl) (λs hs=>hs) (by rw[e];omega);rw[e]at l;exact⟨_,_,_,_,_,_,_,_,i,h1,l⟩
       grind
     . split at a
       . cases a
       . rename_i c v J' B;split at a
         . rename_i e;split at a
           . rename_i D;rw[e]at B;obtain⟨v1,bj,h1,i⟩:=(Jh (P:=P) (o:=o) h (by rw[e];exact B) (.inl e) j m).1 (by rw[e];rfl) D;rw[e]at i;exact⟨_,_,_,_,_,_,_,_,h1,a,i⟩
           . cases a
         . rename_i gd e;split at a
           . cases a
           . rename_i g ak;have u:o.guard=none\/∃t b y,o.guard=some (t,b)/\fe env t b=some y:=by rw[e];exact Cp ak
             have n:g=cD env G o.guard:=by rw[e];exact BD h.ak ak
             have M:=Jh (P:=P) (o:=o) (xb:=xb) h B u j m;split at a
             . rename_i T;split at a
               . rename_i E;cases S:g with
                 |true=>
                  rw[S]at E n;simp at E;obtain⟨v1,bj,h1,i⟩:=M.1 n.symm E;have X:J'=J:=(QW h.gO h.ak h.eJ B).adY T;rw[X]at i;exact⟨_,_,_,_,_,_,_,_,h1,a,i⟩
                 |false=>
                  rw[S]at n;obtain⟨v1,h1,i⟩:=M.2 n.symm T;exact⟨_,_,_,_,_,_,_,_,h1,a,i⟩
               . cases a
             . split at a
               . rename_i K;split at a
                 . rename_i D;obtain⟨v1,bj,h1,i⟩:=M.1 (by rw[<-n];exact K) D;exact⟨_,_,_,_,_,_,_,_,h1,a,i⟩
                 . cases a
               . rename_i K;have I:cD env G o.guard=false:=by rw[<-n];simpa using K
                 have C:eC key gl (gd::nf) env J env1 J1 G:=⟨h.gO,h.ak,h.eJ,λA z=>by
                  rcases e2.1 z with rfl|L
                  . grind
                  . exact h.aP A L⟩
                 have H:kX (gd::nf) o.dst=true:=by
                  cases F:o.dst with
                  |none=>rfl
                  |some d=>
                   rw[F]at m j;rw[e]at j;simp only[kX,pq,cX];simp only[kX]at m;simp only[nu,cX]at j;grind
                 obtain⟨h1,i⟩:=BQ (P:=P) C u I j H (Ha (U:=U) (N:=key+16) (J:=J));exact⟨_,_,_,_,_,_,_,_,h1,a,i⟩
theorem P4{fo:fA U}(L:fB P fo)(h:eC key gl nf env J env1 J1 G){k:ev->jP->bK U->a7 U->Option R}{r:R}(d:q2 fo none o key gl nf env J k=some r)
 (bJ:∀C T env' J' n bj ab,k C T env' J'=some r->eC (key+16) C T env' J' n bj ab->K n bj):
 ∃fm ad,Conv kk key env1 J1 key fm ad/\wh P o key fm ad K:=by
 by_cases i:q2 fo (some []) o key gl nf env J k=some r
 . obtain⟨g,v1,bj,C,T,env',J',ab,h1,ai,aj⟩:=Q6 L h i;exact⟨env1,J1,Conv.refl,.inl (h1.ha (bJ _ _ _ _ _ _ _ ai aj))⟩
 . unfold q2 at d i;split at d
   . grind
   . rename_i I;rw[I]at i;simp only[cX]at I;obtain⟨z,af⟩:=I;split at d
     . grind
     . rename_i bI;rw[bI]at i;simp only at i;split at d
       . rename_i f args j;rw[j]at i;simp only at i;split at d
         . rename_i O;rw[O]at i;exact absurd d i
         rename_i O;rw[O]at i;unfold Hi at d i;split at d
         . rename_i u;rw[u]at d;obtain⟨env',J2,n,bj,l,c1,c2,c3,c4,⟨p,M,N⟩,ae,D⟩:=BF (kk:=kk) (P:=P) L (f:=f) (cal:=λe vs=>∃p,hv e args=some (p,vs)/\p)
            (λhe ak y=>by
             obtain⟨p,l,b1,b2,B⟩:=sB he ak y
             exact⟨l,b2,p,b1,B rfl⟩) h.gO h.ak h.eJ (λs hs=>hs) d
           refine⟨n,bj,c1,.inr ⟨by rw[u];rfl,f,l,.inl ⟨args,p,j,M,N⟩,?_⟩⟩;intro av nt φ S a w E H aa Q;refine(D av nt φ S a w E H aa Q).mono ?_
           rintro e w' ⟨v,Z,bc,bd,s1,rfl,⟨ag,v3,bb,bq,bU,cu⟩,W,X,Y⟩
           refine⟨v,Z,bc,bd,s1,rfl,?_,W,X,Y⟩
           have F:=eC.bind (gd:=none) (dst:=o.dst) (nf:=nf) bq c3 bU (λg ak=>by
            obtain⟨t,b⟩:=g;have h0:=h.aP _ ak;simp only[cD]at h0⊢
            grind) cu (.inl rfl) (by rw[u]at z;exact z) af
           exact bJ _ _ _ _ _ _ _ bb F
         grind
       . rename_i x args j;split at d
         . rename_i f caps au u aw;obtain⟨env',J2,n,bj,l,c1,c2,c3,c4,⟨q,p,m,A,ap,aq,M,N,ao⟩,ae,D⟩:=BF (kk:=kk) (P:=P) L (f:=f) (cal:=λe vs=>∃q p m A,x.get e=some (q,.c (.fn f m))/\q/\hv e args=some (p,A)/\p/\vs=A++m.map λb=>V.c (.ptr b 0))
            (λhe ak y=>by
             split at y
             . rename_i ar m ax aK ah;split at y
               . rename_i al;have:=cM al;subst this;cases y;obtain⟨q,v1,a1,a2,a3⟩:=cd he ak aK;have:=a2.Dt;subst this;obtain⟨p,l,b1,b2,B⟩:=sB he ak ah;refine⟨l++m.map λb=>V.c (.ptr b 0),b2.append ?_,q,p,m,l,a1,a3 rfl,b1,B rfl,rfl⟩;exact aX.map_map (aX.self (λb=>.c (.ptr b 0)) _)
               . cases y
             grind) h.gO h.ak h.eJ (λs hs=>hs) d
           refine⟨n,bj,c1,.inr ⟨by rw[u];rfl,f,l,.inr ⟨x,args,q,p,m,A,j,ap,aq,M,N,ae,ao⟩,?_⟩⟩;intro av nt φ S a w E H aa Q;refine(D av nt φ S a w E H aa Q).mono ?_
           rintro e w' ⟨v,Z,bc,bd,s1,rfl,⟨ag,v3,bb,bq,bU,cu⟩,W,X,Y⟩
           refine⟨v,Z,bc,bd,s1,rfl,?_,W,X,Y⟩
           have F:=eC.bind (gd:=none) (dst:=o.dst) (nf:=nf) bq c3 bU (λg ak=>by
            obtain⟨t,b⟩:=g;have h0:=h.aP _ ak;simp only[cD]at h0⊢
            grind) cu (.inl rfl) (by rw[u]at z;exact z) af
           exact bJ _ _ _ _ _ _ _ bb F
         . contradiction
         . cases d
       . rename_i op am an;exfalso;refine i ?_;split
         . rename_i f args j;exact absurd j (am f args)
         . rename_i x args j;exact absurd j (an x args)
         . exact d
theorem XF{l:List (Nat×aF)}{p:bK U×a7 U}(h:zy l env J=some p):∃l,kl l env J=some p:=by
 grind[zy]
theorem Wy{p:bK U×a7 U}(h:D9 gl o env J=some p):∃l,kl l env J=some p:=by
 grind[D9,XF]
theorem Vh{fo:fA U}(e:fB P fo)(h:eC key gl nf env J env1 J1 G){k:ev->jP->bK U->a7 U->Option R}{r:R}(a:Co fo none o key gl nf env J k=some r)
 (bJ:∀d f env' J' c bj i,k d f env' J'=some r->eC (key+16) d f env' J' c bj i->K c bj):
 ∃fm b,Conv kk key env1 J1 key fm b/\wh P o key fm b K:=by
 simp[Co]at a;split at a
 . exact P4 e h a bJ
 . rename_i p aj;obtain⟨l,ad⟩:=Wy aj;obtain⟨aK,s1,c1,c2,c3,c4⟩:=uy ad h.gO h.eJ
   obtain⟨j,m,d1,d2⟩:=P4 e ⟨c2,c4 h.ak,c3,λg ak=>by
    have h0:=h.aP _ ak
    grind[cD,BF.Mn]⟩ a bJ
   exact⟨j,m,c1.trans d1,d2⟩
end
end
section
open Go
variable {xb:aW}
variable {U:cE}{R:Type}
def jM(env:bK U):aO->Option aW
 |.const (.c (.t _))=>some []
 |.const (.c .aL)=>some []
 |.const (.agg _)=>some []
 |.const _=>none
 |.tmp k=>match aT env k with
  |some (.c (.ptr b _))=>some [b]
  |some (.c (.cG b _ _ _))=>some [b]
  |some (.c (.arr b))=>some [b]
  |some (.c (.sub b _ _))=>some [b]
  |some (.c (.pre b _))=>some [b]
  |some (.c (.dQ b _ _))=>some [b]
  |some (.c (.mp b))=>some [b]
  |some (.c (.eu b))=>some [b]
  |some (.c (.cb b))=>some [b]
  |some (.c .dead)=>none
  |some _=>some []
  |none=>none
def y6:bh U->Bool
 |.dead=>true
 |_=>false
def y7:bC U->Option aW
 |.c x=>match y6 x with
  |true=>none
  |false=>some x.fV
 |.agg cs=>match cs.any y6 with
  |true=>none
  |false=>some (cs.flatMap bh.fV)
 |.a6 _=>some []
def qY(env:bK U):List aO->Option aW
 |[]=>some []
 |.const v::r=>match qY env r with
  |some l=>some (v.fV++l)
  |none=>none
 |.tmp k::r=>match aT env k with
  |some v=>match y7 v,qY env r with
   |some a,some l=>some (a++l)
   |_,_=>none
  |none=>none
def Hn(xb:aW)(o:cH)(env:bK U)(key:Nat):Option aW:=
 match o with
 |.alloc _|.allocA _|.box _|.bslice .. |.mslice .. |.mkset=>some [key]
 |.allocS .. =>some [key,key+1]
 |.lkset x _=>jM env x
 |.upset x _=>jM env x
 |.appendB _ _ x _=>match jM env x with
  |some a=>some (key::a)
  |none=>none
 |.ustr _ x _=>jM env x
 |.call _ args=>match qY env args with
  |some l=>some ((List.range 16).map (key+·)++(l++xb))
  |none=>none
 |.load _ _ x=>jM env x
 |.b2s x=>jM env x
 |.store _ x _=>jM env x
 |.append _ _ _ x y=>match jM env x,jM env y with
  |some a,some b=>some (key::(a++b))
  |_,_=>none
 |_=>some []
def jN(xb:aW)(o:cH)(env:bK U)(key b:Nat):Option Bool:=
 match o with
 |.alloc _|.allocA _|.box _|.bslice .. |.mslice .. |.mkset=>some (Nat.beq b key)
 |.allocS .. =>some (Nat.beq b key||Nat.beq b (key+1))
 |.upset x _=>match jM env x with
  |some l=>some (lS l b)
  |none=>none
 |.appendB _ _ x _=>match jM env x with
  |some l=>some (Nat.beq b key||lS l b)
  |none=>none
 |.ustr _ x _=>match jM env x with
  |some l=>some (lS l b)
  |none=>none
 |.store _ x _=>match jM env x with
  |some l=>some (lS l b)
  |none=>none
 |.append _ _ _ x _=>match jM env x with
  |some l=>some (Nat.beq b key||lS l b)
  |none=>none
 |.call _ args=>match qY env args with
  |some l=>some ((Nat.ble key b&&Nat.ble (b+1) (key+16))||lS (l++xb) b)
  |none=>none
 |_=>some false
def zw(xb:aW)(aY:List bZ)(env:bK U)(N:Nat):List (Nat×Nat)->Bool
 |[]=>true
 |(i,j)::r=>(match pR aY i,pR aY j with
  |some x,some y=>match Hn xb y.op env (N+16*j)with
   |some l=>l.all λb=>match jN xb x.op env (N+16*i) b with
    |some w=>!w
    |none=>false
   |none=>false
  |_,_=>true)&&zw xb aY env N r
variable{o:cH}{gl:ev}{Q:Exit->Env->aZ->Nat->Prop}
section
variable {P:Program}{kk N key:Nat}{J:a7 U}{J1:aZ}{env:bK U}{env1:Env}{G:Nat->Bool}
theorem qf(he:cN N J G env env1){x:aO}{l:aW}(h:jM env x=some l):ee env1 x=l:=by
 unfold jM at h;split at h
 . cases h;rfl
 . cases h;rfl
 . cases h;rfl
 . grind
 . rename_i k;split at h
   all_goals (try (cases h;done))
   . rename_i b o d;obtain⟨v1,h1,a⟩:=he k _ d;have:=a.gU;grind[ee,aO.get]
   . rename_i b t i o d;obtain⟨v1,h1,a⟩:=he k _ d;have:=a.iM;grind[ee,aO.get]
   . rename_i b d;obtain⟨v1,h1,a⟩:=he k _ d;obtain⟨sz,n,rfl,_⟩:=a.g';grind[ee,aO.get]
   . rename_i b f len d;obtain⟨v1,h1,a⟩:=he k _ d;have:v1= .c (.fL b 1 f len):=by cases a with|c h=>cases h;rfl
     grind[ee,aO.get]
   . rename_i b e d;obtain⟨v1,h1,a⟩:=he k _ d;have:∃sz,v1= .c (.arr b sz 0 e):=by cases a with|c h=>cases h;simp
     grind[ee,aO.get]
   . rename_i b f e d;obtain⟨v1,h1,a⟩:=he k _ d;have:∃sz,v1= .c (.fL b sz f e):=by cases a with|c h=>cases h;simp
     grind[ee,aO.get]
   . rename_i b d;obtain⟨v1,h1,a⟩:=he k _ d;have:=a.Am;grind[ee,aO.get]
   . rename_i b d;obtain⟨v1,h1,a⟩:=he k _ d;have:=a.OR;grind[ee,aO.get]
   . rename_i b d;obtain⟨v1,h1,a⟩:=he k _ d;obtain⟨n,rfl,_⟩:=a.wb;grind[ee,aO.get]
   . rename_i v cV j m eO u g q r s p d;cases h;obtain⟨v1,h1,a⟩:=he k _ d;unfold ee;simp only[aO.get,h1,lW];cases a with
     |c a=>
      cases a<;>grind
     |agg a=>rfl
     |a6=>rfl
theorem u7{l:aW}{b:Nat}:lS l b=l.contains b:=by
 unfold lS;rw[Bool.eq_iff_iff];simp
theorem Q7{x:bh U}{d:C}(h:b8 N J x d)(a:y6 x=false):d.fV=x.fV:=by
 cases h<;>first|rfl|(simp[y6]at a)
theorem P5:∀{xs:List (bh U)} {a:List C},aX (b8 N J) xs a->xs.any y6=false->a.flatMap C.fV=xs.flatMap bh.fV
 |[],[],_,_=>rfl
 |x::xs,d::a,.cons h1 c,b=>by
  simp only[List.any_cons,vq]at b;simp;rw[Q7 h1 b.1,P5 c b.2]
theorem Vi{v:bC U}{v1:V}{l:aW}(h:bN N J v v1)(ad:y7 v=some l):v1.fV=l:=by
 cases h with
 |c h=>
  simp[y7]at ad;split at ad
  . grind
  . rename_i a;cases ad;exact Q7 h a
 |agg h=>
  simp[y7]at ad;split at ad
  . grind
  . rename_i a;cases ad;exact P5 h a
 |a6=>simp only[y7,dP]at ad;rw[<-ad];rfl
theorem B1(he:cN N J G env env1):∀{args:List aO} {l:aW},qY env args=some l->kT env1 args=l
 |[],l,h=>by simp[qY]at h;subst h;rfl
 |.const v::r,l,h=>by
  simp[qY]at h;split at h
  . rename_i d b;cases h;have ih:=B1 he b;simp[kT]at ih⊢;rw[ih];rfl
  grind
 |.tmp k::r,l,h=>by
  simp only[qY]at h;split at h
  . rename_i v c;split at h
    . rename_i a d f b;have ih:=B1 he b;obtain⟨v1,h1,e⟩:=he k v c;grind[kT,aO.get,Vi]
    grind
  grind
theorem Wz(he:cN N J G env env1){l:aW}(h:Hn xb o env key=some l):eh xb o env1 key=l:=by
 cases o<;>simp[Hn,eh]at h⊢<;>first|exact h|exact qf he h|skip
 . grind[qf]
 . grind[qf]
 grind[B1]
theorem beq_eq(a b:Nat):(a==b)=Nat.beq a b:=by
 grind[cM,hJ]
theorem WA(he:cN N J G env env1){b:Nat}{w:Bool}(h:jN xb o env key b=some w):cB xb o env1 key b=w:=by
 cases o with
 |alloc cs=>simp[jN]at h;rw[<-h];exact beq_eq _ _
 |allocA cs=>simp[jN]at h;rw[<-h];exact beq_eq _ _
 |box x=>simp[jN]at h;rw[<-h];simp only[cB];exact beq_eq _ _
 |bslice a c d e=>simp only[jN,dP]at h;rw[<-h];simp only[cB];exact beq_eq _ _
 |mslice a c d e=>simp only[jN,dP]at h;rw[<-h];simp only[cB];exact beq_eq _ _
 |store n x y=>
  simp only[jN]at h;split at h
  . rename_i l ad;cases h;simp only[cB];rw[qf he ad,u7]
  . cases h
 |append te sz by' x y=>
  simp only[jN]at h;split at h
  . rename_i l ad;cases h;simp only[cB];rw[qf he ad,u7,beq_eq]
  . cases h
 |mkset=>grind[jN,cB,beq_eq]
 |allocS e e8=>grind[jN,cB,beq_eq]
 |upset x y=>
  simp only[jN]at h;split at h
  . rename_i l ad;cases h;simp only[cB];rw[qf he ad,u7]
  . cases h
 |ustr e x y=>
  grind[jN,cB,qf,u7]
 |appendB e by' x y=>
  grind[jN,cB,qf,u7,beq_eq]
 |call f args=>
  simp only[jN]at h;split at h
  . rename_i l ad;cases h;simp only[cB];rw[B1 he ad,u7]
    congr 1
    rw[Bool.eq_iff_iff];simp only[cX,gE,Nat.ble_eq];rfl
  grind
 |_=>simp only[jN,dP]at h;rw[<-h];rfl
theorem Fj(he:cN N J G env env1){aY:List bZ}{a:Nat}:∀{fS:List (Nat×Nat)},zw xb aY env a fS=true->kE xb aY env1 a fS=true
 |[],_=>rfl
 |(i,j)::r,h=>by
  simp[zw]at h;simp[kE];refine⟨?_,Fj he h.2⟩;grind[Ca,Wz,WA]
theorem A4{fo:fA U}(e:fB P fo){k:ev->bK U->a7 U->Option R}{r:R}:∀{l:List bZ} {key:Nat} {gl:ev} {nf:jP} {env:bK U} {J:a7 U} {env1:Env} {J1:aZ} {G:Nat->Bool} {K:Env->aZ->Prop},
 eC key gl nf env J env1 J1 G->nq fo none l key gl nf env J k=some r->
 (∀b f env' J' a bj d,k b env' J'=some r->eC (key+16*l.length) b f env' J' a bj d->K a bj)->mW P kk l key env1 J1 K
 |[],key,gl,nf,env,J,env1,J1,G,K,h,c,bJ=>bJ _ _ _ _ _ _ _ c h
 |o::l,key,gl,nf,env,J,env1,J1,G,K,h,c,bJ=>by
  refine Vh e h c λb f env' J' a bj d h1 j=>?_;refine A4 e j h1 λq n i p pK t g m s=>bJ _ n i p _ _ g m ?_;grind
theorem FO{fo:fA U}(e:fB P fo){k:ev->bK U->a7 U->Option R}{r:R}:∀{l:List bZ} {key:Nat} {gl:ev} {nf:jP} {env:bK U} {J:a7 U} {env1:Env} {J1:aZ} {G:Nat->Bool} {K:Env->aZ->Prop},
 eC key gl nf env J env1 J1 G->nq fo (some xb) l key gl nf env J k=some r->
 (∀b f env' J' d bj c,k b env' J'=some r->eC (key+16*l.length) b f env' J' d bj c->K d bj)->wi xb P l key env1 J1 K
 |[],key,gl,nf,env,J,env1,J1,G,K,h,a,bJ=>bJ _ _ _ _ _ _ _ a h
 |o::l,key,gl,nf,env,J,env1,J1,G,K,h,a,bJ=>by
  simp[nq]at a;obtain⟨g,v1,bj,b,f,env',J',c,h1,m,n⟩:=Q6 e h (by simpa[Co]using a);refine⟨g,v1,bj,h1,FO e n m λt q j s pK u i p bp=>bJ _ q j s _ _ i p ?_⟩;grind
theorem Gc:∀{env:bK U} {k:Nat} {v:bC U},aT (clean gl env) k=some v->aT env k=some v/\Aj gl k=false
 |[],k,v,h=>by grind[clean,aT]
 |(i,w)::r,k,v,h=>by
  simp[clean]at h;split at h
  . obtain⟨h1,b⟩:=Gc h;grind[aT,cM]
  . simp[aT]at h⊢;cases a:Nat.beq i k with
    |true=>simp_all
    |false=>rw[a]at h;exact Gc h
theorem XG{k:Nat}(h:Aj gl k=false):aT gl k=none:=by
 induction gl with
 |nil=>rfl
 |cons e r ih=>
  grind[Aj,aT]
theorem eC.clean{nf:jP}(h:eC key gl nf env J env1 J1 G):cN key J (λ_=>true) (sq gl env) env1:=by
 intro k v a;have:aT env k=some v/\G k=true:=by
  unfold sq at a;split at a
  . exact⟨a,h.ak.free k rfl⟩
  . obtain⟨h1,c⟩:=Gc a;exact⟨h1,h.ak.free k (XG c)⟩
 obtain⟨v1,h1,c⟩:=h.gO k v this.1;grind
theorem eC.begin(he:cN key J (λ_=>true) env env1)(aA:cm key J J1):eC key [] [] env J env1 J1 (λ_=>true):=
 ⟨he,⟨λ_ _=>rfl,λk t b h=>by grind[aT]⟩,aA,λ_ h=>by grind⟩
end
structure iB where
 e:Exit
 sh:Shape
 own:List (Pos×aF)
 us:List aF
def ej(U:cE):List iB->Type
 |[]=>Empty
 |[a]=>aJ U.D a.us
 |a::b::r=>aJ U.D a.us ⊕ ej U (b::r)
structure gY (U:cE) where
 sh:Shape
 own:List (Pos×aF)
 ts:List aF
 outs:List iB
 F:aJ U.D ts->Option (ej U outs)
def Ag:Exit->Exit->Bool
 |.normal,.normal=>true
 |.ret,.ret=>true
 |.exit i,.exit j=>Nat.beq i j
 |_,_=>false
theorem HB{a b:Exit}(h:Ag a b=true):a=b:=by
 cases a<;>cases b<;>simp[Ag]at h<;>try rfl
 grind
abbrev tv(U:cE)(R:Type):=Exit->bK U->a7 U->Nat->Option R
def fi:(outs:List iB)->ej U outs->Exit×bK U×a7 U×Nat
 |[],o=>Empty.elim o
 |[a],h=>(a.e,(fh U a.sh (aJ.cells U.D a.us h)).1,(fh U a.sh (aJ.cells U.D a.us h)).2,a.sh.st.length)
 |a::b::r,.inl h=>(a.e,(fh U a.sh (aJ.cells U.D a.us h)).1,(fh U a.sh (aJ.cells U.D a.us h)).2,a.sh.st.length)
 |a::b::r,.inr o=>fi (b::r) o
def aeC{α c:Type}(o:α ⊕ c)(f:α->Option R)(g:c->Option R):Option R:=
 match o with
 |.inl a=>f a
 |.inr b=>g b
def ae1(k:tv U R)(a:iB):(r:List iB)->(ej U r->Option R)->ej U (a::r)->Option R
 |[],_=>λh=>k a.e (fh U a.sh (aJ.cells U.D a.us h)).1 (fh U a.sh (aJ.cells U.D a.us h)).2 a.sh.st.length
 |_::_,f=>λo=>aeC o (λh=>k a.e (fh U a.sh (aJ.cells U.D a.us h)).1 (fh U a.sh (aJ.cells U.D a.us h)).2 a.sh.st.length) f
def Hk(k:tv U R):(outs:List iB)->ej U outs->Option R
 |[]=>λo=>Empty.elim o
 |a::r=>ae1 k a r (Hk k r)
theorem Jk(k:tv U R):∀{outs:List iB} {o:ej U outs},Hk k outs o=k (fi outs o).1 (fi outs o).2.1 (fi outs o).2.2.1 (fi outs o).2.2.2
 |[],o=>Empty.elim o
 |[a],h=>rfl
 |a::b::r,.inl h=>rfl
 |a::b::r,.inr o=>Jk k (outs:=b::r)
def nR(kk:Nat):(outs:List iB)->Exit->bK U->a7 U->Nat->Option (ej U outs)
 |[],_,_,_,_=>none
 |[a],e,env,J,N=>match Ag e a.e with
  |true=>mP kk a.own a.sh a.us env J N
  |false=>none
 |a::b::r,e,env,J,N=>match Ag e a.e with
  |true=>match mP (U:=U) kk a.own a.sh a.us env J N with
   |some h=>some (.inl h)
   |none=>none
  |false=>match nR kk (b::r) e env J N with
   |some o=>some (.inr o)
   |none=>none
abbrev kR(U:cE):=Nat->Option (gY U)
def gu:dv->Nat
 |.seq a b=>gu a+gu b
 |.cond _ a b=>gu a+gu b
 |.block _ b=>gu b
 |.loop b=>gu b+1
 |_=>0
def adC(x:Bool)(a b:Option R):Option R:=if x then a else b
def bh.inner:kq->Bool
 |.ptr .. |.arr _=>true
 |_=>false
def aa9:fE->Bool
 |.box cs=>cs.any bh.inner
 |_=>false
def Mr(fo:fA U)(J:a7 U)(ops:List bZ):aW:=
 match ops.any λo=>match o.op with
  |.call f _=>(fo f).any λs=>s.st.any aa9
  |_=>false with
 |true=>J.map Prod.fst
 |false=>[]
def Gd(ops:List bZ)(fS:List (Nat×Nat)):Option (List bZ×bZ):=
 match Cn ops.length fS,ops.getLast? with
 |true,some o=>match o.op,o.guard with
  |.call ..,none=>some (ops.dropLast,o)
  |.hW ..,none=>some (ops.dropLast,o)
  |_,_=>none
 |_,_=>none
theorem Vj{ops:List bZ}{fS:List (Nat×Nat)}{init:List bZ}{last:bZ}(h:Gd ops fS=some (init,last)):ops=init++[last]/\Cn (init.length+1) fS=true:=by
 unfold Gd at h;split at h
 . grind[List.getLast?_eq_some_iff]
 grind
def aan(t:Nat)(o:bZ):Bool:=match o.op with
 |.build _ ps=>ps.any λp=>match p.2.2 with
  |.tmp k=>Nat.beq k t
  |_=>false
 |_=>false
def wH(t:aF)(ops:List bZ)(env:bK U)(J:a7 U):List bZ->List (Nat×aF)
 |[]=>[]
 |o::r=>match o.op,o.dst with
  |.mov (.tmp s),some d=>match aT env s with
   |some (.c (.arr b))=>match ops.any (aan d),vQ b t env J with
    |true,some _=>(b,t)::wH t ops env J r
    |_,_=>wH t ops env J r
   |_=>wH t ops env J r
  |_,_=>wH t ops env J r
def adx(ops:List bZ)(env:bK U)(J:a7 U):List (Nat×aF):=match U.cc with
 |none=>[]
 |some t=>wH t ops env J ops
def kj(fo:fA U)(d:kR U)(kk:Nat):dv->Nat->bK U->a7 U->Nat->tv U R->Option R
 |.skip,_,env,J,N,k=>k .normal env J N
 |.ret,_,env,J,N,k=>k .ret env J N
 |.exit i,_,env,J,N,k=>k (.exit i) env J N
 |.region ops,_,env,J,N,k=>nq fo none ops N [] [] env J λgl env J=>CT (sq gl env) J (N+16*ops.length) λenv J N=>k .normal env J N
 |.nT ops fS,_,env,J,N,k=>match Gd ops fS with
  |some (init,last)=>nq fo (some []) init N [] [] env J λgl env J=>match zw [] init env N fS with
   |true=>nq fo none [last] (N+16*init.length) gl [] env J λgl env J=>k .normal (sq gl env) J (N+16*init.length+16)
   |false=>none
  |none=>match kl (adx ops env J) env J with
   |some (env,J)=>nq fo (some (Mr fo J ops)) ops N [] [] env J λgl env' J'=>match zw (Mr fo J ops) ops env' N fS with
    |true=>CT (sq gl env') J' (N+16*ops.length) λenv J N=>k .normal env J N
    |false=>none
   |none=>none
 |.seq a b,pos,env,J,N,k=>kj fo d kk a pos env J N λe env J N=>match e with
  |.normal=>kj fo d kk b (pos+gu a) env J N k
  |e=>k e env J N
 |.cond c a b,pos,env,J,N,k=>match c9 [] none env c with
  |some (.c (.t ⟨.bool,x⟩))=>adC x (kj fo d kk a pos env J N k) (kj fo d kk b (pos+gu a) env J N k)
  |_=>none
 |.block id b,pos,env,J,N,k=>kj fo d kk b pos env J N λe env J N=>match e with
  |.exit i=>match Nat.beq i id with
   |true=>k .normal env J N
   |false=>k (.exit i) env J N
  |e=>k e env J N
 |.loop b,pos,env,J,N,k=>match d pos with
  |none=>none
  |some L=>match mP kk L.own L.sh L.ts env J N with
   |none=>none
   |some h=>(L.F h)>>=λo=>Hk k L.outs o
section
variable {P:Program}{nt kk N:Nat}{env:bK U}{J:a7 U}{env1:Env}{J1:aZ}
def tg(kk:Nat)(Q:Exit->Env->aZ->Nat->Prop):Prop:=∀e N env J N' env' J',Conv kk N env J N' env' J'->Q e env' J' N'->Q e env J N
def l8(P:Program)(nt kk:Nat)(b:dv)(sh:Shape)(ts:List aF)(outs:List iB)(h:aJ U.D ts)(o:ej U outs):Prop:=
 ∀env1 J1,cN sh.st.length (fh U sh (aJ.cells U.D ts h)).2 (λ_=>true) (fh U sh (aJ.cells U.D ts h)).1 env1->cm sh.st.length (fh U sh (aJ.cells U.D ts h)).2 J1->kk<=sh.st.length->
  ∀Q,tg kk Q->(∀a bj,cN (fi outs o).2.2.2 (fi outs o).2.2.1 (λ_=>true) (fi outs o).2.1 a->cm (fi outs o).2.2.2 (fi outs o).2.2.1 bj->kk<=(fi outs o).2.2.2->Q (fi outs o).1 a bj (fi outs o).2.2.2)->
   l5 P nt kk b env1 J1 sh.st.length Q
def tk(P:Program)(nt kk:Nat)(a:dv)(L:gY U):Prop:=
 ∀h o,L.F h=some o->l8 P nt kk a L.sh L.ts L.outs h o
def gp(P:Program)(nt kk:Nat)(c:kR U):Nat->dv->Prop
 |pos,.seq a b=>gp P nt kk c pos a/\gp P nt kk c (pos+gu a) b
 |pos,.cond _ a b=>gp P nt kk c pos a/\gp P nt kk c (pos+gu a) b
 |pos,.block _ b=>gp P nt kk c pos b
 |pos,.loop b=>(∀L,c pos=some L->tk P nt kk b L)
 |_,_=>True
theorem tg.andThen{next:Env->aZ->Nat->Prop}(h:tg kk Q)(aP:∀N env J N' env' J',Conv kk N env J N' env' J'->next env' J' N'->next env J N):tg kk (andThen next Q):=by
 intro e N env J N' env' J' a c;cases e with
 |normal=>exact aP _ _ _ _ _ _ a c
 |_=>exact h _ _ _ _ _ _ _ a c
theorem p'{fo:fA U}(u:fB P fo){F:kR U}:∀{c:dv} {pos:Nat} {env:bK U} {J:a7 U} {N:Nat} {k:tv U R} {r:R} {env1:Env} {J1:aZ} {Q:Exit->Env->aZ->Nat->Prop},
 gp P nt kk F pos c->kj fo F kk c pos env J N k=some r->cN N J (λ_=>true) env env1->cm N J J1->kk<=N->tg kk Q->
 (∀e env' J' N' s bj,k e env' J' N'=some r->cN N' J' (λ_=>true) env' s->cm N' J' bj->kk<=N'->Q e s bj N')->ck P nt kk c env1 J1 N Q
 |.skip,pos,env,J,N,k,r,env1,J1,Q,ad,d,he,aA,n,m,f=>ck.skip (f _ _ _ _ _ _ d he aA n)
 |.ret,pos,env,J,N,k,r,env1,J1,Q,ad,d,he,aA,n,m,f=>ck.ret (f _ _ _ _ _ _ d he aA n)
 |.exit i,pos,env,J,N,k,r,env1,J1,Q,ad,d,he,aA,n,m,f=>ck.exit (f _ _ _ _ _ _ d he aA n)
 |.region ops,pos,env,J,N,k,r,env1,J1,Q,ad,d,he,aA,n,m,f=>
  ck.aef (A4 u (eC.begin he aA) d λD G env' J' s bj B h1 j=>by
   obtain⟨C,I,K,pK,H,g1,g2,g3,g4,M⟩:=Qu h1 j.clean j.eJ (show kk<=_ by omega)
   exact m _ _ _ _ _ _ _ g2 (f _ _ _ _ _ _ g1 g3 g4 (by omega)))
 |.nT ops fS,pos,env,J,N,k,r,env1,J1,Q,ad,d,he,aA,n,m,f=>by
  simp only[kj]at d;split at d
  . rename_i init last W;obtain⟨rfl,X⟩:=Vj W;refine ck.aeg X (FO u (eC.begin he aA) d λD G env' J' s bj B h1 j=>?_);split at h1
    . rename_i q;refine⟨Fj j.gO q,A4 u (l:=[last]) (nf:=[]) ⟨j.gO,j.ak,j.eJ,λg ak=>by grind⟩ h1 λah ai C I pK H Z v w=>f _ _ _ _ _ _ v w.clean w.eJ (by omega)⟩
    grind
  . split at d
    . rename_i fm aa T;obtain⟨ae,aj,S,he,aA,_⟩:=uy (kk:=kk) (gl:=[]) T he aA;refine ck.conv S (ck.nT (FO u (eC.begin he aA) d λD G env' J' s bj B h1 j=>?_));split at h1
      . rename_i q;obtain⟨C,I,K,pK,H,g1,g2,g3,g4,M⟩:=Qu h1 j.clean j.eJ (show kk<=_ by omega);exact⟨Fj j.gO q,m _ _ _ _ _ _ _ g2 (f _ _ _ _ _ _ g1 g3 g4 (by omega))⟩
      grind
    . cases d
 |.seq a b,pos,env,J,N,k,r,env1,J1,Q,ad,d,he,aA,n,m,f=>by
  refine ck.seq (p' u ad.1 d he aA n (m.andThen λN env J N' env' J' q h=>ck.conv q h) λe env' J' N' s bj h1 j v w=>?_);cases e with
  |normal=>exact p' u ad.2 h1 j v w m f
  |_=>exact f _ _ _ _ _ _ h1 j v w
 |.cond c a b,pos,env,J,N,k,r,env1,J1,Q,ad,d,he,aA,n,m,f=>by
  simp only[kj]at d;split at d
  . rename_i x q;have ak:gJ [] env (λ_=>true):=⟨λ_ _=>rfl,λk t b h=>by grind[aT]⟩
    obtain⟨p,v1,a1,a2,a3⟩:=cd he ak q;have:=a2.iX;subst this;refine ck.cond a1 (a3 rfl) (λy=>?_) (λy=>?_)
    . subst y;exact p' u ad.1 d he aA n m f
    . subst y;exact p' u ad.2 d he aA n m f
  grind
 |.block id b,pos,env,J,N,k,r,env1,J1,Q,ad,d,he,aA,n,m,f=>by
  refine ck.block (p' u ad d he aA n ?_ λe env' J' N' s bj h1 j v w=>?_)
  . intro e N env J N' env' J' q z;cases e with
    |exit i=>
     simp only[inBlock]at z⊢;split at z
     . rename_i A;rw[af A];exact m _ _ _ _ _ _ _ q z
     . rename_i A;rw[al A];exact m _ _ _ _ _ _ _ q z
    |_=>exact m _ _ _ _ _ _ _ q z
  . cases e with
    |exit i=>
     simp only[inBlock];simp only at h1;split at h1
     . rename_i y;rw[af (cM y)];grind
     . rename_i y;rw[al (hJ y)];grind
    |_=>exact f _ _ _ _ _ _ h1 j v w
 |.loop b,pos,env,J,N,k,r,env1,J1,Q,ad,d,he,aA,n,m,f=>by
  simp only[kj]at d;split at d
  . grind
  . rename_i L O;split at d
    . grind
    . rename_i h V;obtain⟨o,Y,E⟩:=kI.1 d;rw[Jk]at E;obtain⟨s,bj,c1,c2,c3,c4⟩:=uq V he aA n;exact ck.conv c1 (ck.adQ (ad L O h o Y s bj c2 c3 c4 Q m λag ab h1 j v=>f _ _ _ _ _ _ E h1 j v))
theorem l8.Ot {fo:fA U}(H:fB P fo){E:kR U}{g:dv}{sh:Shape}{own:List (Pos×aF)}{ts:List aF}{outs:List iB}{h:aJ U.D ts}{o:ej U outs}{x:aJ U.D ts->Option (ej U outs)}
 (L:gp P nt kk E 0 g)(F:∀h o,x h=some o->l8 P nt kk g sh ts outs h o)
 (O:kj fo E kk g 0 (fh U sh (aJ.cells U.D ts h)).1 (fh U sh (aJ.cells U.D ts h)).2 sh.st.length (λe env J N=>match e with
  |.normal=>match mP kk own sh ts env J N with
   |some q=>x q
   |none=>none
  |e=>nR kk outs e env J N)=some o):l8 P nt kk g sh ts outs h o:=by
 intro env1 J1 he aA c Q t K;refine l5.round (p' H L O he aA c (t.andThen λN env J N' env' J' G h=>l5.conv G h) λe env' J' N' p bj h1 y A B=>?_);have f:∀j,j=e->j≠.normal->nR kk _ j env' J' N'=some o->Q e p bj N':=by
  intro j R S aj;obtain⟨aK,s1,c1,c2,c3,c4,c5⟩:=D7 aj y A B;exact t _ _ _ _ _ _ _ c1 (by grind)
 cases e with
 |normal=>
  simp at h1;split at h1
  . rename_i q w;obtain⟨aK,s1,c1,c2,c3,c4⟩:=uq w y A B;exact l5.conv c1 (F q o h1 aK s1 c2 c3 c4 Q t K)
  grind
 |exit i=>exact f _ rfl (by simp) h1
 |ret=>exact f _ rfl (by simp) h1
 |goto l=>exact f _ rfl (by simp) h1
 |panic ly=>exact f _ rfl (by simp) h1
 |outgrown=>exact f _ rfl (by simp) h1
where
 D7 {N:Nat} {env:bK U} {J:a7 U} {env1:Env} {J1:aZ}:∀ {outs:List iB} {e:Exit} {o:ej U outs},nR kk outs e env J N = some o->cN N J (λ_=>true) env env1->cm N J J1->kk<=N->
  ∃p bj,Conv kk N env1 J1 (fi outs o).2.2.2 p bj/\cN (fi outs o).2.2.2 (fi outs o).2.2.1 _ (fi outs o).2.1 p/\cm (fi outs o).2.2.2 (fi outs o).2.2.1 bj/\kk<=(fi outs o).2.2.2/\e=(fi outs o).1
  |[],e,o,h,_,_,_=>by grind[nR]
  |[a],e,o,h,he,aA,c=>by
   simp[nR]at h;split at h
   . rename_i v;obtain⟨aK,s1,c1,c2,c3,c4⟩:=uq h he aA c;exact⟨aK,s1,c1,c2,c3,c4,HB v⟩
   grind
  |a::b::r,e,o,h,he,aA,c=>by
   simp only[nR]at h;split at h
   . rename_i v;split at h
     . rename_i aa w;cases h;obtain⟨aK,s1,c1,c2,c3,c4⟩:=uq w he aA c;exact⟨aK,s1,c1,c2,c3,c4,HB v⟩
     grind
   . split at h
     . rename_i W M;cases h;obtain⟨aK,s1,c1,c2,c3,c4,c5⟩:=D7 M he aA c;exact⟨aK,s1,c1,c2,c3,c4,c5⟩
     grind
end
end
open Go
variable {U:cE}{R:Type}
def mM:Nat->List (bC U)->bK U
 |_,[]=>[]
 |i,v::vs=>(i,v)::mM (i+1) vs
def Hb(env:bK U)(J:a7 U):iU->Option (bC U)
 |.tmp t=>aT env t
 |.cell t g k=>match aT env t with
  |some (.c (.ptr b o))=>match aT J b with
   |some (.box cs)=>qJ g k cs o
   |_=>none
  |_=>none
def u9(env:bK U)(J:a7 U):List iU->Option (List (bC U))
 |[]=>some []
 |r::a=>match Hb env J r,u9 env J a with
  |some v,some vs=>some (v::vs)
  |_,_=>none
def Hm:List (bC U)->bC U
 |[]=>.a6 []
 |[v]=>v
 |v::w::vs=>.a6 (v::w::vs)
def zA(kk:Nat)(c:List iU)(eJ:eU)(eG:List fE)(us:List aF)(env:bK U)(J:a7 U):Option (aJ U.D us):=
 match u9 env J c with
 |none=>none
 |some vs=>match vE J kk 0 eG (En eJ (Hm vs) ([],[])) []with
  |(bs,d)=>match kl d env J with
   |none=>none
   |some (env',J')=>match u9 env' J' c with
    |none=>none
    |some e=>match sn bs&&(keeps kk bs&&Nat.beq bs.length eG.length)with
     |false=>none
     |true=>match jD bs eJ (Hm e),iF bs J' 0 eG with
      |some a,some b=>aJ.dec U.D us (a++b)
      |_,_=>none
def PL(kk:Nat)(a:List iU)(eJ:eU)(eG:List fE)(us:List aF):tv U (aJ U.D us)
 |.normal,env,J,_=>zA kk a eJ eG us env J
 |.ret,env,J,_=>zA kk a eJ eG us env J
 |_,_,_,_=>none
variable{Q:Exit->Env->aZ->Nat->Prop}{nt kk f:Nat}{p:aW}
section
variable {P:Program}{nt kk N:Nat}{env:bK U}{J:a7 U}{env1:Env}{J1:aZ}
def ra(kk:Nat)(Q:Exit->Env->aZ->Nat->Prop):Exit->Env->aZ->Nat->Prop:=
 λe env J N=>∃N' env' J',Conv kk N env J N' env' J'/\Q e env' J' N'
theorem ra.Mp:tg kk (ra kk Q):=
 λe N env J N' env' J' h ⟨a,c,j,f,g⟩=>⟨a,c,j,h.trans f,g⟩
variable{c:dv}
theorem ck.OX{env:Env}{J:aZ}(h:ck P nt kk c env J N (ra kk Q)):ck P nt kk c env J N Q:=
 λcode t av φ S a w f R=>wp_mono (h _ t av φ S a w f R) λe a w ⟨bc,bd,env',J',N',⟨g,p,x,q,v⟩,R'⟩=>
  let⟨y,o,j⟩:=q av nt _ bd a w f R';⟨y,o,p,x,g,v,j⟩
theorem Vx(he:cN N J (λ_=>true) env env1)(aA:cm N J J1){a:iU}{v:bC U}(h:Hb env J a=some v):∃p v1,sk env1 J1 a=some (p,v1)/\p/\bN N J v v1:=by
 cases a with
 |tmp t=>
  obtain⟨v1,h1,c⟩:=he t v h;exact⟨True,v1,by grind[sk],trivial,c⟩
 |cell t g k=>
  simp[Hb]at h;split at h
  . rename_i b o i;split at h
    . rename_i cs f;obtain⟨v1,h1,c⟩:=he t _ i;have:=c.gU;obtain⟨_,y,j,d⟩:=aA b _ f;cases d with
      |box d=>
       obtain⟨v2,bp,e⟩:=ui d h;exact⟨True,v2,by grind[sk],trivial,e⟩
    grind
  grind
theorem Pd(he:cN N J (λ_=>true) env env1)(aA:cm N J J1):∀{b:List iU} {vs:List (bC U)},u9 env J b=some vs->∃p a,oT env1 J1 b=some (p,a)/\p/\aX (bN N J) vs a
 |[],vs,h=>by simp[u9]at h;subst h;exact⟨_,[],rfl,trivial,.nil⟩
 |r::e,vs,h=>by
  simp[u9]at h;split at h
  . rename_i v f h1 d;cases h;obtain⟨p,v1,a1,a2,a3⟩:=Vx he aA h1;obtain⟨q,a,b1,b2,c⟩:=Pd he aA d;exact⟨p/\q,v1::a,by grind[oT],⟨a2,b2⟩,.cons a3 c⟩
  grind
theorem Wl{vs:List (bC U)}{c:List V}(h:aX (bN N J) vs c):bN N J (Hm vs) (lY c):=by
 cases h with
 |nil=>exact .a6 [] [] rfl (by simp)
 |cons h1 a=>
  cases a with
  |nil=>exact h1
  |cons a b=>
   refine .a6 _ _ (by simp[b.length]) λi x d e j=>?_;obtain⟨f,aK,g⟩:=(aX.cons h1 (.cons a b)).get e;grind
def C6(s:cw U)(r:aJ U.D s.us):V->aZ->Nat->Prop:=λa bj N'=>N'=s.eG.length/\bN N' (s.rest r) (s.res r) a/\cm N' (s.rest r) bj
theorem Wm{e:List iU}{s:cw U}{r:aJ U.D s.us}(h:zA kk e s.eJ s.eG s.us env J=some r)(he:cN N J (λ_=>true) env env1)(aA:cm N J J1):
 ∃i bj,Conv kk N env1 J1 N i bj/\∃p d,oT i bj e=some (p,d)/\p/\
  ∃bs c J2,bs.Nodup/\keeps kk bs=true/\gC ((lY d).bO bs) c/\re (fH bs bj 0 bs) J2/\C6 s r c J2 bs.length:=by
 unfold zA at h;split at h
 . grind
 . split at h;rename_i bs x _;split at h
   . grind
   . rename_i env' J' q;obtain⟨aK,s1,c1,c2,c3,_⟩:=uy (kk:=kk) (gl:=[]) q he aA;split at h
     . grind
     . rename_i A u;split at h
       . grind
       . rename_i j;simp only[cX]at j;obtain⟨m,n,o⟩:=j;have bY:=yl m;have t:=cM o;split at h
         . rename_i a b l k;obtain⟨p,d,d1,d2,d3⟩:=Pd c2 c3 u;obtain⟨y,f,g⟩:=Dd bY (y3 bY k) l;obtain⟨c,g1,g2⟩:=g _ (Wl d3);obtain⟨v,t1,t2⟩:=CB bY c3 k;have z:=aJ.fl h;have aK:s.res r=y:=(by grind[cw.res]);have w:s.rest r=hi 0 s.eG b:=(by grind[cw.rest]);exact⟨_,_,c1,p,d,d1,d2,bs,c,v,bY,n,g1,t1,t,by grind,by grind⟩
         grind
def ti(P:Program)(s:cw U)(h:aJ U.D s.ts)(r:aJ U.D s.us):Prop:=
 ∀(a:List V) J1,aX (bN s.st.length (s.ia h)) (s.args h) a->cm s.st.length (s.ia h) J1->eb P s.f a J1 s.st.length (C6 s r)
theorem hn.of{s:cw U}(h:∀h r,s.F h=some r->ti P s h r):hn P s:=h
theorem ti.D4 {s:cw U}{fn:Func}{c:dv}{g:List iU}{fo:fA U}{A:kR U}(X:P.funcs[s.f]?=some fn)(Q:fn.body.bind (resolve P fn.ntmps)=some c)(an:hT P fn.results.toList=some g)(aP:Nat.ble s.ft.length fn.ntmps=true)
 (Y:fB P fo)(am:gp P fn.ntmps s.st.length A 0 c)
 {h:aJ U.D s.ts}{r:aJ U.D s.us}(o:CP s.st.length (s.ia h) (λJ N=>kj fo A s.st.length c 0 (mM 0 (s.args h)) J N (PL s.st.length g s.eJ s.eG s.us))=some r):ti P s h r:=by
 intro q J1 O aA;have ad:q.length<=fn.ntmps:=by
  rw[<-O.length];refine gz (sR ?_) (hK aP);exact N0
 have R:cN s.st.length (s.ia h) (λ_=>true) (mM 0 (s.args h)) (fm 0 q):=by
  intro k v aY;have key:∀{xs:List _} {j:List V} {i:Nat},aX (bN s.st.length (s.ia h)) xs j->aT (mM i xs) k=some v->∃v1,look (fm i j) k=some (true,v1)/\bN s.st.length (s.ia h) v v1:=by
   intro xs;induction xs with
   |nil=>grind[mM,aT]
   |cons x xs ih=>
    intro j i av y;cases av with
    |cons h1 w=>
     simp[mM,aT]at y;simp[fm,look];split at y
     . simp_all
     simp_all[al,hJ]
  grind
 obtain⟨ax,Nm,aE,o,H,W,M,Z⟩:=Wi o R aA;refine eb.tidy (eb.mk X Q an rfl ad (ck.conv H (ck.OX (p' Y am o W M Z ra.Mp λe env' J' N' K bj h1 w L aH=>?_)))) (λB s1 G aa=>aa)
 . have t:zA s.st.length g s.eJ s.eG s.us env' J'=some r->(e= .normal\/e= .ret)->ra s.st.length (CY g λB s1 G=>∃bs E J2,bs.Nodup/\keeps s.st.length bs=true/\gC (B.bO bs) E/\re (fH bs s1 0 bs) J2/\C6 s r E J2 bs.length) e K bj N':=by
    intro ap S;obtain⟨aK,s1,c1,p,F,d1,d2,rest⟩:=Wm ap w L;refine⟨N',aK,s1,c1,?_⟩;rcases S with rfl|rfl
    . exact⟨p,F,d1,d2,rest⟩
    . exact⟨p,F,d1,d2,rest⟩
   cases e with
   |normal=>exact t h1 (.inl rfl)
   |ret=>exact t h1 (.inr rfl)
   |_=>cases h1
where
 N0:∀{ss:List eU} {a:eL U},(j6 ss a).1.length=ss.length
  |[],a=>rfl
  |s::ss,a=>by
   simp[j6];have:=N0 (ss:=ss) (a:=(lR s a).2);grind
def hM:dv->Nat->Option dv
 |.seq a b,q=>match Nat.ble (gu a) q with
  |true=>hM b (q-gu a)
  |false=>hM a q
 |.cond _ a b,q=>match Nat.ble (gu a) q with
  |true=>hM b (q-gu a)
  |false=>hM a q
 |.block _ b,q=>hM b q
 |.loop b,q=>match q with
  |0=>some b
  |q+1=>hM b q
 |_,_=>none
theorem gp.of{g:kR U}:∀{c:dv} {pos:Nat},(∀q b L,hM c q=some b->g (pos+q)=some L->tk P nt kk b L)->gp P nt kk g pos c
 |.seq a b,pos,h=>by
  refine⟨gp.of λq e L h1 f=>h q e L ?_ f,gp.of λq e L h1 f=>h (gu a+q) e L ?_ (by grind)⟩
  . simp[hM];cases o:Nat.ble _ q with
    |true=>exact absurd (qM h1) (by simp_all)
    |false=>grind
  . simp[hM];have:Nat.ble (gu a) (gu a+q)=true:=(by simp);grind
 |.cond c a b,pos,h=>by
  refine⟨gp.of λq e L h1 f=>h q e L ?_ f,gp.of λq e L h1 f=>h (gu a+q) e L ?_ (by grind)⟩
  . simp only[hM];cases o:Nat.ble (gu a) q with
    |true=>exact absurd (qM h1) (by simp_all)
    |false=>grind
  . simp only[hM];have:Nat.ble (gu a) (gu a+q)=true:=(by simp);grind
 |.block id b,pos,h=>gp.of (c:=b) h
 |.loop b,pos,h=>λL j=>h 0 b L rfl j
 |.skip,pos,h=>trivial
 |.region _,pos,h=>trivial
 |.nT _ _,pos,h=>trivial
 |.exit _,pos,h=>trivial
 |.ret,pos,h=>trivial
where
 qM:∀{c:dv} {q:Nat} {b:dv},hM c q=some b->q<gu c
  |.seq a b,q,e,h=>by
   simp[hM]at h;simp[gu];split at h
   . have:=qM h;grind
   . have:=qM h;omega
  |.cond _ a b,q,e,h=>by
   simp only[hM]at h;simp only[gu];split at h
   . have:=qM h;grind
   . have:=qM h;omega
  |.block _ b,q,e,h=>qM (c:=b) h
  |.loop b,0,e,h=>by simp[gu]
  |.loop b,q+1,e,h=>by have:=qM (c:=b) h;grind[gu]
  |.skip,q,e,h=>by grind[hM]
  |.region _,q,e,h=>by grind[hM]
  |.nT _ _,q,e,h=>by grind[hM]
  |.exit _,q,e,h=>by grind[hM]
  |.ret,q,e,h=>by grind[hM]
theorem gp.Om{a:kR U}(h:∀q L,a q=some L->tk P nt kk ((hM c q).getD .skip) L):gp P nt kk a 0 c:=
 gp.of λq b L h1 e=>by grind
theorem gp.none:gp P nt kk (λ_=>none:kR U) 0 c:=gp.Om λq L h=>by grind
theorem fB.none:fB P (λ_=>[]:fA U):=λf s h=>by grind
end
open Go
def GQ(P:Program)(fn:Func):dv:=
 match fn.body.bind (Shv.resolve P fn.ntmps)with
 |some c=>c
 |none=>.skip
def uU(c:dv)(q:Nat):dv:=(hM c q).getD .skip
def gQ{U:cE}:List (cw U)->fA U
 |[],_=>[]
 |s::l,f=>match Nat.beq s.f f with
  |true=>s::gQ l f
  |false=>gQ l f
def kH{U:cE}(l:List (Nat×gY U)):kR U:=λq=>aT l q
theorem fB.nil{U:cE}{P:Program}:fB P (gQ ([]:List (cw U))):=λf s h=>by grind[gQ]
theorem fB.cons{U:cE}{P:Program}{s:cw U}{l:List (cw U)}(c:hb P s.f=true)(hs:hn P s)(h:fB P (gQ l)):fB P (gQ (s::l)):=by
 intro f t ht;simp[gQ]at ht;split at ht
 . rename_i a;have:=cM a;rcases e2.1 ht with rfl|ht
   . grind
   . exact h f t ht
 . exact h f t ht
def iW{U:cE}(P:Program)(nt kk:Nat)(c:dv)(l:List (Nat×gY U)):Prop:=∀q L,aT l q=some L->tk P nt kk (uU c q) L
theorem iW.nil{U:cE}{P:Program}{nt kk:Nat}{c:dv}:iW P nt kk c ([]:List (Nat×gY U)):=λq L h=>by grind[aT]
theorem iW.cons{U:cE}{P:Program}{nt kk:Nat}{c:dv}{q:Nat}{L:gY U}{l:List (Nat×gY U)}(f:tk P nt kk (uU c q) L)(h:iW P nt kk c l):iW P nt kk c ((q,L)::l):=by
 intro e L' a;simp[aT]at a;split at a
 . simp_all
 . exact h e L' a
theorem iW.snd{U:cE}{P:Program}{c:dv}{l:List (Nat×gY U)}(h:iW P nt kk c l):gp P nt kk (kH l) 0 c:=gp.Om λq L a=>h q L a
def aQ(k:IntKind)(a b:Int):Int:=k.wrap (a+b)
def dL(k:IntKind)(a b:Int):Int:=k.wrap (a-b)
def jH(k:IntKind)(a b:Int):Int:=k.wrap (a*b)
def gF(k:IntKind)(a b:Int):Int:=k.wrap (a.tdiv b)
def cf(a b:Int):Int:=a.tmod b
def zN(k:IntKind)(a b:Int):Int:=k.wrap (BitVec.ofInt k.bits a &&& BitVec.ofInt k.bits b).toNat
def qR(k:IntKind)(a b:Int):Int:=k.wrap (BitVec.ofInt k.bits a ||| BitVec.ofInt k.bits b).toNat
def td(k:IntKind)(a b:Int):Int:=k.wrap (BitVec.ofInt k.bits a ^^^ BitVec.ofInt k.bits b).toNat
def mK(k:IntKind)(a b:Int):Int:=k.wrap (a*2^min b.toNat k.bits)
def lh(k:IntKind)(a b:Int):Int:=a.fdiv (2^min b.toNat k.bits)
open Go
variable {U:cE}
structure gn where
 q:Nat
 sh:Shape
 own:List (Pos×aF)
 B0:List (Pos×aF)
 ts:List aF
 outs:List iB
 sub:List gn
structure et where
 f:Nat
 ft:List eU
 st:List fE
 ts:List aF
 eJ:eU
 eG:List fE
 us:List aF
 sub:List gn
def gn.l(e:gn)(F:aJ U.D e.ts->Option (ej U e.outs)):gY U:=⟨e.sh,e.own,e.ts,e.outs,F⟩
def et.s(e:et)(F:aJ U.D e.ts->Option (aJ U.D e.us)):cw U:=⟨e.f,e.ft,e.st,e.ts,e.eJ,e.eG,e.us,F⟩
def codeF(P:Program)(f:Nat):dv:=match P.funcs[f]? with
 |some fn=>GQ P fn
 |none=>.skip
def xC(P:Program)(f:Nat):Nat:=match P.funcs[f]? with
 |some fn=>fn.ntmps
 |none=>0
def Mk(P:Program)(f:Nat):List iU:=match P.funcs[f]? with
 |some fn=>(match hT P fn.results.toList with
  |some r=>r
  |none=>[])
 |none=>[]
def sY(P:Program)(e:et):Bool:=match P.funcs[e.f]? with
 |some fn=>hb P e.f&&((fn.body.bind (resolve P fn.ntmps)).isSome&&((hT P fn.results.toList).isSome&&Nat.ble e.ft.length fn.ntmps))
 |none=>false
def h9(P:Program)(e:et):Prop:=sY P e=true
variable{e:et}
theorem h9.m{P:Program}(h:sY P e=true):h9 P e:=h
def qK(fo:fA U)(d:kR U)(kk:Nat)(b:dv)(e:gn)(a:aJ U.D e.ts->Option (ej U e.outs))(h:aJ U.D e.ts):Option (ej U e.outs):=
 kj fo d kk b 0 (fh U e.sh (aJ.cells U.D e.ts h)).1 (fh U e.sh (aJ.cells U.D e.ts h)).2 e.sh.st.length (λx env J N=>match x with
  |.normal=>match mP kk e.B0 e.sh e.ts env J N with
   |some c=>a c
   |none=>none
  |x=>nR kk e.outs x env J N)
def pB(fo:fA U)(a:kR U)(P:Program)(e:et)(h:aJ U.D e.ts):Option (aJ U.D e.us):=
 CP e.st.length (hi 0 e.st (j6 e.ft (aJ.cells U.D e.ts h)).2) λJ N=>kj fo a e.st.length (codeF P e.f) 0 (mM 0 (j6 e.ft (aJ.cells U.D e.ts h)).1) J N (PL e.st.length (Mk P e.f) e.eJ e.eG e.us)
section
variable {P:Program}
variable{fo:fA U}
theorem Q8(f:fB P fo){c:kR U}{b:dv}{e:gn}{h:aJ U.D e.ts}{o:ej U e.outs}{a:aJ U.D e.ts->Option (ej U e.outs)}
 (g:gp P nt kk c 0 b)(d:∀h o,a h=some o->l8 P nt kk b e.sh e.ts e.outs h o)(i:qK fo c kk b e a h=some o):l8 P nt kk b e.sh e.ts e.outs h o:=by
 refine l8.Ot (own:=e.B0) f g d (Eq.trans ?_ i);grind[qK]
theorem HC{j:kR U}(d:h9 P e)(F:aJ U.D e.ts->Option (aJ U.D e.us))(o:fB P fo)(a:gp P (xC P e.f) e.st.length j 0 (codeF P e.f))
 {h:aJ U.D e.ts}{r:aJ U.D e.us}(b:pB fo j P e h=some r):ti P (e.s F) h r:=by
 unfold h9 sY at d;unfold codeF at a;unfold xC at a;unfold pB codeF Mk at b;split at d
 . rename_i fn g;simp[g]at a b;simp only[cX]at d;obtain⟨q,l,bp,m⟩:=d;obtain⟨c,n⟩:=DN.1 l;obtain⟨p,i⟩:=DN.1 bp;have k:GQ P fn=c:=(by grind[GQ]);rw[k]at a b;simp[i]at b;exact ti.D4 g n i m o a b
 grind
theorem h9.b{e:et}(a:h9 P e):hb P e.f=true:=by
 grind[h9,sY]
def wF(fo:fA U)(kk:Nat):Nat->dv->(e:gn)->aJ U.D e.ts->Option (ej U e.outs)
 |0,_,_,_=>none
 |n+1,b,e,h=>qK fo (kH (e.sub.map λs=>(s.q,s.l (wF fo kk n (uU b s.q) s)))) kk b e (wF fo kk n b e) h
def vL(g:(e:et)->aJ U.D e.ts->Option (aJ U.D e.us))(r:List (cw U)):List et->fA U
 |[],f=>gQ r f
 |e::T,f=>match Nat.beq e.f f with
  |true=>e.s (g e)::vL g r T f
  |false=>vL g r T f
def j4(P:Program)(T:List et)(X:List (cw U)):Nat->(e:et)->aJ U.D e.ts->Option (aJ U.D e.us)
 |0,_,_=>none
 |n+1,e,h=>pB (vL (j4 P T X n) X T) (kH (e.sub.map λs=>(s.q,s.l (wF (vL (j4 P T X n) X T) e.st.length n (uU (codeF P e.f) s.q) s)))) P e h
theorem DD{b:dv}{g:(s:gn)->aJ U.D s.ts->Option (ej U s.outs)}:∀{l:List gn},(∀s h o,g s h=some o->l8 P nt kk (uU b s.q) s.sh s.ts s.outs h o)->iW P nt kk b (l.map λs=>(s.q,s.l (g s)))
 |[],_=>iW.nil
 |s::l,ak=>iW.cons (λh o a=>ak s h o a) (DD ak)
theorem Hc(a:fB P fo):∀(n:Nat) (b:dv) (e:gn) (h:aJ U.D e.ts) (o:ej U e.outs),wF fo kk n b e h=some o->l8 P nt kk b e.sh e.ts e.outs h o
 |0,_,_,_,_,d=>by grind[wF]
 |n+1,b,e,h,o,d=>Q8 a (iW.snd (DD λs h o c=>Hc a n _ s h o c)) (λh o c=>Hc a n b e h o c) d
theorem KH{g:(e:et)->aJ U.D e.ts->Option (aJ U.D e.us)}{r:List (cw U)}(c:fB P (gQ r)):∀{T:List et},(∀e,e∈T->h9 P e)->(∀e,e∈T->hn P (e.s (g e)))->fB P (vL g r T)
 |[],_,_=>c
 |e::T,a,ak=>by
  intro f t ht;simp[vL]at ht;have ih:=KH c (λe he=>a e (DT _ he)) (λe he=>ak e (DT _ he));split at ht
  . rename_i d;have:=cM d;rcases e2.1 ht with rfl|ht
    . exact⟨this,by rw[<-this];exact(a e D0).b,ak e D0⟩
    . exact ih f t ht
  . exact ih f t ht
theorem KI{T:List et}(a:∀e,e∈T->h9 P e){X:List (cw U)}(d:fB P (gQ X)):∀(n:Nat) (e:et),h9 P e->hn P (e.s (j4 P T X n e))
 |0,e,_=>λh r b=>by simp[et.s,j4]at b
 |n+1,e,he=>hn.of λh r b=>
  have f:=KH d a λc g=>KI a d n c (a c g)
  HC he _ f (iW.snd (DD λs h o i=>Hc f n _ s h o i)) b
end
open Go
variable {U:cE}{P:Program}
def fc(P:Program)(s:cw U):Prop:=hb P s.f=true/\hn P s
def pw(P:Program)(f:Nat):aW->dv
 |[]=>codeF P f
 |q::p=>uU (pw P f p) q
def mS(P:Program)(f kk:Nat)(p:aW)(e:gn)(F:aJ U.D e.ts->Option (ej U e.outs)):Prop:=tk P (xC P f) kk (pw P f p) (e.l F)
def h8(P:Program)(l:List (cw U)):Prop:=fB P (gQ l)
theorem h8.n:h8 P ([]:List (cw U)):=fB.nil
theorem h8.k{s:cw U}{l:List (cw U)}(h:fc P s)(ad:h8 P l):h8 P (s::l):=fB.cons h.1 h.2 ad
def jo(P:Program)(f kk:Nat)(p:aW)(l:List (Nat×gY U)):Prop:=iW P (xC P f) kk (pw P f p) l
theorem jo.n{f kk:Nat}{p:aW}:jo P f kk p ([]:List (Nat×gY U)):=iW.nil
theorem jo.k{q:Nat}{e:gn}{F:aJ U.D e.ts->Option (ej U e.outs)}{l:List (Nat×gY U)}(h:mS P f kk (q::p) e F)(ad:jo P f kk p l):jo P f kk p ((q,e.l F)::l):=iW.cons h ad
def zD(P:Program)(U:cE)(e:et)(h:aJ U.D e.ts)(r:aJ U.D e.us):Prop:=ti P (e.s λ_=>none) h r
def vX(P:Program)(U:cE)(f kk:Nat)(p:aW)(e:gn)(h:aJ U.D e.ts)(o:ej U e.outs):Prop:=l8 P (xC P f) kk (pw P f p) e.sh e.ts e.outs h o
theorem zD.at(g:h9 P e){fs:List (cw U)}(c:h8 P fs){a:List (Nat×gY U)}(ad:jo P e.f e.st.length [] a){h:aJ U.D e.ts}{r:aJ U.D e.us}(j:pB (gQ fs) (kH a) P e h=some r):zD P U e h r:=
 HC g _ c (iW.snd ad) j
theorem vX.at{e:gn}{a:aJ U.D e.ts->Option (ej U e.outs)}(bI:∀h o,a h=some o->vX P U f kk p e h o){fs:List (cw U)}(g:h8 P fs){c:List (Nat×gY U)}(ad:jo P f kk p c){h:aJ U.D e.ts}{o:ej U e.outs}
 (j:qK (gQ fs) (kH c) kk (pw P f p) e a h=some o):vX P U f kk p e h o:=
 Q8 g (iW.snd ad) bI j
theorem fc.of(a:h9 P e){F:aJ U.D e.ts->Option (aJ U.D e.us)}(h:∀h r,F h=some r->zD P U e h r):fc P (e.s F):=⟨a.b,hn.of h⟩
theorem mS.of{e:gn}{F:aJ U.D e.ts->Option (ej U e.outs)}(h:∀h o,F h=some o->vX P U f kk p e h o):mS P f kk p e F:=h
theorem fc.fn(a:h9 P e){F:aJ U.D e.ts->Option (aJ U.D e.us)}{fs:List (cw U)}(g:h8 P fs){c:List (Nat×gY U)}(ad:jo P e.f e.st.length [] c)(o:∀h,pB (gQ fs) (kH c) P e h=F h):fc P (e.s F):=
 .of a λh r j=>.at a g ad ((o h).trans j)
theorem mS.afj{e:gn}{F:aJ U.D e.ts->Option (ej U e.outs)}{fs:List (cw U)}(c:h8 P fs){a:List (Nat×gY U)}(ad:jo P f kk p a)(j:∀h,qK (gQ fs) (kH a) kk (pw P f p) e (λ_=>none) h=F h):mS P f kk p e F:=
 .of λh o g=>.at (λ_ _ h=>by grind) c ad ((j h).trans g)
theorem fc.rc(c:h9 P e){F:aJ U.D e.ts->Option (aJ U.D e.us)}{b:(aJ U.D e.ts->Option (aJ U.D e.us))->aJ U.D e.ts->Option (aJ U.D e.us)}
 (gm:∀m:aJ U.D e.ts->aJ U.D e.us->Prop,(∀a,(∀h r,a h=some r->m h r)->∀h r,b a h=some r->m h r)->∀h r,F h=some r->m h r)
 {fs:(aJ U.D e.ts->Option (aJ U.D e.us))->List (cw U)}(j:∀a,fc P (e.s a)->h8 P (fs a)){g:List (Nat×gY U)}(ad:jo P e.f e.st.length [] g)(p:∀a h,pB (gQ (fs a)) (kH g) P e h=b a h):fc P (e.s F):=
 .of c (gm _ λa bI h r o=>.at c (j a (.of c bI)) ad ((p a h).trans o))
theorem mS.rc{e:gn}{F:aJ U.D e.ts->Option (ej U e.outs)}{b:(aJ U.D e.ts->Option (ej U e.outs))->aJ U.D e.ts->Option (ej U e.outs)}
 (gm:∀m:aJ U.D e.ts->ej U e.outs->Prop,(∀a,(∀h r,a h=some r->m h r)->∀h r,b a h=some r->m h r)->∀h r,F h=some r->m h r)
 {fs:List (cw U)}(g:h8 P fs){c:List (Nat×gY U)}(ad:jo P f kk p c)(q:∀a h,qK (gQ fs) (kH c) kk (pw P f p) e a h=b a h):mS P f kk p e F:=
 .of (gm _ λa bI h o j=>.at bI g ad ((q a h).trans j))
theorem fc.bA{F:aJ U.D e.ts->Option (aJ U.D e.us)}{fs:List (cw U)}(c:h8 P fs:=by exact .n){a:List (Nat×gY U)}(ad:jo P e.f e.st.length [] a:=by exact .n)(g:h9 P e:=by exact .m (by kernel_rfl))
 (j:∀h,pB (gQ fs) (kH a) P e h=F h:=by intro _;kernel_rfl):fc P (e.s F):= .fn g c ad j
theorem fc.rx{F:aJ U.D e.ts->Option (aJ U.D e.us)}{b:(aJ U.D e.ts->Option (aJ U.D e.us))->aJ U.D e.ts->Option (aJ U.D e.us)}
 (gm:∀m:aJ U.D e.ts->aJ U.D e.us->Prop,(∀a,(∀h r,a h=some r->m h r)->∀h r,b a h=some r->m h r)->∀h r,F h=some r->m h r)
 {fs:(aJ U.D e.ts->Option (aJ U.D e.us))->List (cw U)}(g:∀a,fc P (e.s a)->h8 P (fs a)){c:List (Nat×gY U)}(ad:jo P e.f e.st.length [] c:=by exact .n)(j:h9 P e:=by exact .m (by kernel_rfl))
 (o:∀a h,pB (gQ (fs a)) (kH c) P e h=b a h:=by intro _ _;kernel_rfl):fc P (e.s F):= .rc j gm g ad o
theorem mS.rx {f kk:Nat}{p:aW}{e:gn}{F:aJ U.D e.ts->Option (ej U e.outs)}{b:(aJ U.D e.ts->Option (ej U e.outs))->aJ U.D e.ts->Option (ej U e.outs)}
 (gm:∀m:aJ U.D e.ts->ej U e.outs->Prop,(∀a,(∀h r,a h=some r->m h r)->∀h r,b a h=some r->m h r)->∀h r,F h=some r->m h r)
 {fs:List (cw U)}(g:h8 P fs:=by exact .n){c:List (Nat×gY U)}(ad:jo P f kk p c:=by exact .n)(j:∀a h,qK (gQ fs) (kH c) kk (pw P f p) e a h=b a h:=by intro _ _;kernel_rfl):mS P f kk p e F:= .rc gm g ad j
theorem aao{T:List et}(h:T.all (sY P)=true):∀e,e∈T->h9 P e:=λe he=>f'.1 h e he
theorem fc.run{T:List et}(dr:T.all (sY P)=true){X:List (cw U)}(c:h8 P X)(a:h9 P e){F:aJ U.D e.ts->Option (aJ U.D e.us)}(n:Nat)(h:∀h,F h=j4 P T X n e h):fc P (e.s F):=
 ⟨a.b,λx r f=>KI (aao dr) c n e a x r ((h x).symm.trans f)⟩
abbrev ab:aF:= .int .i64
abbrev aw(n:Nat):aF:= .slice (.nm n)
abbrev pz:aF:= .slice .str
abbrev cJ:aF:= .slice (.int .i64)
abbrev aa(t:aF):eU:= .c (.hole t)
abbrev ar(b o:Nat):eU:= .c (.ptr b o)
abbrev cg(t:aF):fE:= .box [.hole t]
def de:kq->List aF
 |.hole t=>[t]
 |.cG _ _ _=>[.int .i64]
 |.dO t _=>[t]
 |_=>[]
def bI{α:Type}(f:α->List aF):List α->List aF
 |[]=>[]
 |a::l=>f a++bI f l
def N4:eU->List aF
 |.c s=>de s
 |.agg l=>bI de l
 |.row n=>[.nm n]
 |.a6 _=>[]
def hN:eU->List aF
 |.a6 l=>bI N4 l
 |v=>N4 v
def di:fE->List aF
 |.box l=>bI de l
 |.arr t=>[.slice t]
 |.ba n=>[.nm n]
 |.set=>[.slice .str]
 |.buf _=>[.str]
 |.bT _ s=>de s
 |.gone=>[]
def dY(l:List (Nat×eU))(st:List fE):List aF:=bI (λp=>hN p.2) l++bI di st
abbrev aV(f:Nat)(ft:List eU)(eJ:eU)(sub:List gn:=[])(st:List fE:=[])(eG:List fE:=[]):et:=⟨f,ft,st,bI hN ft++bI di st,eJ,eG,hN eJ++bI di eG,sub⟩
abbrev bQ(q:Nat)(l:List (Nat×eU))(st:List fE)(outs:List iB)(sub:List gn:=[])(own:List (Pos×aF):=[])(B0:List (Pos×aF):=own):gn:=⟨q,⟨l,st⟩,own,B0,dY l st,outs,sub⟩
abbrev bw(e:Exit)(l:List (Nat×eU))(st:List fE:=[])(own:List (Pos×aF):=[]):iB:=⟨e,⟨l,st⟩,own,dY l st⟩
abbrev eI(k:Nat)(t:aF):iB:=⟨.ret,⟨[(k,aa t)],[]⟩,[],[t]⟩
abbrev gj(i:Nat):iB:=⟨.exit i,⟨[],[]⟩,[],[]⟩
section
open Go
variable {U:cE}
def BR(te sz bytes:Nat)(z:List C):dv:=
 .seq (.region [⟨some 2,.mov (.const (.c .aL)),none⟩])
  (.seq (.seq (.region [⟨some 3, .mov (.tmp 0),none⟩,⟨some 4, .eqNil false (.tmp 3),none⟩])
   (.cond (.tmp 4) (.seq (.region [⟨some 2,.mov (.const (.c .aL)),none⟩]) .ret) .skip))
   (.seq (.region [⟨some 5,.bslice sz 0 z [],none⟩,⟨some 6,.mov (.tmp 0),none⟩,⟨some 7,.append te sz bytes (.tmp 5) (.tmp 6),none⟩,⟨some 2,.mov (.tmp 7),none⟩]) .ret))
def s5(bytes n:Nat):Bool:=(decide ((2*n+192)*bytes<=hr)||decide ((n+n/4+512)*bytes<=hr))&&decide (n<=dm)
theorem oN{bytes n:Nat}(h:room bytes n=true):s5 bytes n=true:=by
 grind[F9,s5]
theorem KJ{bytes n:Nat}(h:s5 bytes n=true):jC n bytes/\n<=dm:=by
 unfold s5 at h;simp at h;exact h
def gg{α:Type}(bytes:Nat)(l:List α):Option (List α):=if s5 bytes l.length then some l else none
def Cq(U:cE)(f:Nat)(t:aF)(bytes:Nat):cw U:=
 ⟨f,[.c (.hole (.slice t))],[],[.slice t],.c (.arr 0),[.arr t],[.slice t],λ(l:List (t.den U.D))=>gg bytes l⟩
variable{f te:Nat}{es:List (List T)}
section
variable {P:Program}
theorem XH{fn:Func}{sz bytes:Nat}{z:List C}{q:List T}(g:P.funcs[f]?=some fn)(a:fn.body.bind (Shv.resolve P fn.ntmps)=some (BR te sz bytes z))(j:hT P fn.results.toList=some [.tmp 2])
 (aP:1<=fn.ntmps)(p:toTs z=some q)(m:0<sz)(he:∀e,e∈es->e.length=sz)(l:s5 bytes es.length=true):
 eb P f [.c (.t (.slice es))] [] 0 (λr J' N'=>N'=1/\r= .c (.arr 0 sz 0 es.length)/\aR J' 0=some (.arr sz es)):=by
 have y:=KJ l;refine eb.tidy (Q:=λr J' N'=>∃b,r= .c (.arr b sz 0 es.length)/\aR J' b=some (.arr sz es)) (eb.mk g a j rfl (by grind) ?_) ?_
 . refine ck.seq (ck.region ?_);simp only[kr,ha,fX,aM,aO.get,en,fm,cH.neutral,b7,andThen];refine .inr ⟨λ_=>trivial,.inl trivial,?_⟩;refine ck.seq (ck.seq (ck.region ?_));simp only[kr,ha,fX,aM,aO.get,lW,en,cH.neutral,b7,andThen,look];refine .inr ⟨λ_=>by rfl,.inl trivial,?_⟩;refine .inr ?_;simp only[b4,b7,true_and];intro b u;refine ck.cond (b:=b) (by simp[aO.get,look,rh]) trivial (λw=>?_) (λv=>?_)
   ·
    have d:es=[]:=(by grind);subst d;refine ck.seq (ck.region ?_);simp only[kr,ha,fX,aM,aO.get,lW,en,cH.neutral,b7,andThen];refine .inr ⟨λ_=>trivial,.inl trivial,?_⟩;refine ck.conv (Conv.own (k:=2) rfl m (jJ _)) (ck.ret ?_);refine⟨_,_,rfl,⟨rfl,trivial⟩,_,rfl,?_⟩;rfl
   . refine ck.skip ?_;refine ck.seq (ck.region ?_);simp only[kr,ha,fX,aM,aO.get,lW,en,cH.neutral,b7,andThen,look,jB,p,aq,Nat.reduceEqDiff,b4,reduceCtorEq,lp,cR,List.replicate];refine .inr ⟨λ_=>trivial,.inr trivial,?_⟩;refine .inr ⟨λ_=>by simp,.inl trivial,?_⟩;refine .inr ⟨λ_=>⟨trivial,trivial,trivial,trivial,trivial,by rfl,he,by grind,by grind⟩,.inr trivial,?_⟩;refine .inr ⟨λ_=>by simp,.inl trivial,?_⟩;refine ck.ret ⟨_,[.c (.arr 80 sz 0 _)],rfl,⟨rfl,trivial⟩,80,by rw[hx];rfl,?_⟩;rfl
 . rintro r J' N' ⟨b,rfl,hs⟩
   refine⟨[b],_,_,by simp,rfl,?_,λi x n=>⟨x,n,?_⟩,rfl,rfl,?_⟩
   . simp only[V.bO,C.bO,pos,b7];exact .c (dC.refl _)
   . cases x with
     |box cs=>exact .box (aX.self dC.refl _)
     |arr sz es=>exact .arr
     |set ks=>exact .same
     |buf E s=>exact .same
     |bT E c=>exact .bT (dC.refl _)
     |cz sz es i o c=>exact .cz (dC.refl _)
   grind[fH,aR,bP.bO]
theorem HD{fn:Func}{sz bytes:Nat}{z:List C}{u:List T}{t:aF}(n:P.funcs[f]?=some fn)(m:fn.body.bind (Shv.resolve P fn.ntmps)=some (BR te sz bytes z))(o:hT P fn.results.toList=some [.tmp 2])
 (aP:Nat.ble 1 fn.ntmps=true)(s:toTs z=some u)(q:t.sz U=sz):hn P (Cq U f t bytes):=by
 intro l r bI w J1 j aA;subst q;have d:gg _ l=some r:=bI;unfold gg at d;split at d
 . cases d;cases j with
   |cons h1 i=>
    cases i;have:=bN.jm h1;subst this
    refine eb.conv (.cons (.c (dC.refl _)) .nil) (λb x a=>by grind[aR]) ((XH n m o (hK aP) s aF.vJ (λe he=>by
     obtain⟨y,_,rfl⟩:=fT.1 he
     exact aF.rq) (by grind)).mono ?_)
    rintro A s1 v ⟨rfl,rfl,hs⟩
    refine⟨rfl,.c (.arr 0 _ _ (by simp) λx a p aj=>?_),λb x a=>?_⟩
    . have:x=cI.arr t l:=by
       simp[cw.rest,Cq,lR,tL,aJ.cells,fj.cells,hi,jE,aT]at a;grind
      grind[cI.c8]
    . have g:(if b=0 then some (cI.arr t l)else none)=some x:=by
       rw[<-a];cases b<;>rfl
      split at g
      . rename_i k;cases g;subst k;exact⟨by simp,_,hs,.arr t l⟩
      grind
 grind
def sr{α:Type}(bytes:Nat)(l:List α):Option (List α×List α):=(gg bytes l).map λr=>(l,r)
def GR(U:cE)(f:Nat)(t:aF)(bytes:Nat):cw U:=
 ⟨f,[.c (.arr 0)],[.arr t],[.slice t],.c (.arr 1),[.arr t,.arr t],[.slice t,.slice t],λ(l:List (t.den U.D))=>sr bytes l⟩
theorem WB{fn:Func}{sz bytes:Nat}{z:List C}{y:List T}{a:aZ}(m:P.funcs[f]?=some fn)(j:fn.body.bind (Shv.resolve P fn.ntmps)=some (BR te sz bytes z))(n:hT P fn.results.toList=some [.tmp 2])
 (aP:1<=fn.ntmps)(w:toTs z=some y)(t:0<sz)(he:∀e,e∈es->e.length=sz)(q:s5 bytes es.length=true)(h0:aR a 0=some (.arr sz es)):
 eb P f [.c (.arr 0 sz 0 es.length)] a 1 (λr J' N'=>N'=2/\r= .c (.arr 1 sz 0 es.length)/\aR J' 0=some (.arr sz es)/\aR J' 1=some (.arr sz es)):=by
 have G:=KJ q;refine eb.tidy (Q:=λr J' N'=>∃b,1<=b/\r= .c (.arr b sz 0 es.length)/\aR J' 0=some (.arr sz es)/\aR J' b=some (.arr sz es)) (eb.mk m j n rfl (by grind) ?_) ?_
 . refine ck.seq (ck.region ?_);simp only[kr,ha,fX,aM,aO.get,lW,en,fm,cH.neutral,b7,andThen];refine .inr ⟨λ_=>trivial,.inl trivial,?_⟩;refine ck.seq (ck.seq (ck.region ?_));simp only[kr,ha,fX,aM,aO.get,lW,en,cH.neutral,b7,andThen,look,iP,kc];refine .inr ⟨λ_=>by rfl,.inl trivial,?_⟩;refine .inr ?_;simp only[Nat.reduceEqDiff,b4,b7,lW,true_and];intro b A;refine ck.cond (b:=b) (p:=True) (by simp[aO.get,look,rh]) trivial (λF=>?_) (λD=>?_)
   . have l:es=[]:=(by grind);subst l;refine ck.seq (ck.region ?_);simp only[kr,ha,fX,aM,aO.get,lW,en,cH.neutral,b7,andThen];refine .inr ⟨λ_=>trivial,.inl trivial,?_⟩;refine ck.conv (Conv.own (k:=2) (g:=true) (sz:=sz) rfl t (by simp)) (ck.ret ?_);refine⟨_,_,rfl,⟨rfl,trivial⟩,_,by simp,rfl,?_,?_⟩
     . simp_all[cR,al]
     . rw[cR,af rfl]
   . refine ck.skip ?_;refine ck.seq (ck.region ?_);simp only[kr,ha,fX,aM,aO.get,lW,en,cH.neutral,b7,andThen,look,jB,w,aq,Nat.reduceEqDiff,b4,ca,reduceCtorEq,List.replicate];refine .inr ⟨λ_=>trivial,.inr trivial,?_⟩;refine .inr ⟨λ_=>by simp,.inl trivial,?_⟩;have d:∀v,lp (c7 a (1+16*1+16*2) (.arr sz v)) (.c (.arr 0 sz 0 es.length))=some (es,some 0):=by
      grind[lp,cR]
     refine .inr ?_;simp only[iP,kc,hx]at d⊢;rw[d];simp only[aq,cR,b7,dP,Nat.reduceMul,Nat.reduceAdd,b4];refine⟨λ_=>⟨trivial,trivial,trivial,trivial,trivial,by rfl,he,by grind,by grind⟩,.inr trivial,?_⟩;refine .inr ⟨λ_=>by simp,.inl trivial,?_⟩;refine ck.ret ⟨_,[.c _],rfl,⟨rfl,trivial⟩,81,by simp,rfl,?_,?_⟩
     . simp_all[cR,al,fk]
     simp_all[cR,af]
 . rintro r J' N' ⟨b,B,rfl,H,hs⟩
   refine⟨[0,b],_,_,by grind,rfl,?_,λi x u=>⟨x,u,?_⟩,rfl,rfl,?_⟩
   . simp only[V.bO,C.bO,pos,al (show ¬0=b by omega),b7];exact .c (dC.refl _)
   . cases x with
     |box cs=>exact .box (aX.self dC.refl _)
     |arr sz es=>exact .arr
     |set ks=>exact .same
     |buf E s=>exact .same
     |bT E c=>exact .bT (dC.refl _)
     |cz sz es i o c=>exact .cz (dC.refl _)
   grind[fH,aR,bP.bO]
theorem WC{fn:Func}{sz bytes:Nat}{z:List C}{F:List T}{t:aF}(q:P.funcs[f]?=some fn)(m:fn.body.bind (Shv.resolve P fn.ntmps)=some (BR te sz bytes z))(u:hT P fn.results.toList=some [.tmp 2])
 (aP:Nat.ble 1 fn.ntmps=true)(E:toTs z=some F)(A:t.sz U=sz):hn P (GR U f t bytes):=by
 intro l r bI H J1 j aA;subst A;have d:(gg _ l).map _=some r:=bI;unfold gg at d;split at d
 . cases d;cases j with
   |cons h1 i=>
    cases i;obtain⟨sz,n,rfl,_,o⟩:=h1.g';obtain⟨_,y,B,D⟩:=aA 0 _ rfl;cases D;have:=o _ rfl _ rfl;obtain⟨rfl,rfl⟩:=this;have s:l.length=(l.map (t.enc U)).length:=(by grind);rw[s]
    refine(WB q m u (hK aP) E aF.vJ (λe he=>by
     obtain⟨y,_,rfl⟩:=fT.1 he
     exact aF.rq) (by grind) B).mono ?_
    rintro J s1 G ⟨rfl,rfl,v,w⟩
    have g:∀b x,aT ((GR U f t bytes).rest (l,l)) b=some x->(b=0\/b=1)/\x=cI.arr t l:=by
     intro b x a;have I:(if b=0 then some (cI.arr t l)else if b=1 then some (cI.arr t l)else none)=some x:=by
      rw[<-a]
      match b with
      |0=>rfl
      |1=>rfl
      |_+2=>rfl
     grind
    refine⟨rfl,.c (.arr 1 _ _ (by simp) λx a p aj=>?_),λb x a=>?_⟩
    . obtain⟨_,rfl⟩:=g _ _ a;grind[cI.c8]
    . obtain⟨k,rfl⟩:=g _ _ a;rcases k with rfl|rfl
      . exact⟨by simp,_,v,.arr t l⟩
      . exact⟨by simp,_,w,.arr t l⟩
 grind
end
end
section
open Go Go.Proofs Go.Proofs.YtkbmjabicjpmjaaGreatDoor Go.Shelf
variable {U:cE}
def Cr(U:cE)(f E a:Nat):cw U:=
 ⟨f,[.c (.ptr 0 0)],[.bT E (.cb 1),.buf a],[.str],.a6 [],[.bT E (.cb 1),.buf a],[.str],λ(s:ao)=>some s⟩
section
variable {P:Program}{ρ:Ren}
theorem XI(L:Lays.n240 P ρ)(X:Builder.X72 P ρ){J:aZ}{z n:Nat}{s:ao}(h0:aR J 0=some (.bT (ρ.t 72) (.cb 1 n)))(h1:aR J 1=some (.buf z s)):
 eb P (ρ.f 240) [.c (.ptr 0 0)] J 2 (λr J' N'=>r= .a6 []/\J'=J/\N'=2):=by
 intro φ S w B g y k K vs l;cases l with|cons H l=>
 cases l;have E:=H.gU;subst E;obtain⟨o,⟨p,v,aa,aj,F⟩,u⟩:=g.blk 0 _ h0;have same:∀ w',w' = w->∃ (v:Value) (r:V) (bc:cZ) (bd:c0) (J':aZ) (N':Nat),Ending.returned (Value.tuple #[]) = Ending.returned v/\(r = .a6 []/\J' = J/\N' = 2)/\bW bc w' bd r v/\r.ay (lt N') = true/\pE bc w' bd J'/\(∀ (b:Nat) x,aR J' b = some x->b<N'/\x.ay (lt N') = true)/\Ext B S bd w w'/\
  (∀(b:Nat) x,aR J' b=some x->(bc b).2≠0->B (bc b).1\/w.heap.size<=(bc b).1)/\∀b,b<2->bc b=φ b:=by
  rintro w' rfl
  exact⟨_,.a6 [],φ,S,J,2,rfl,⟨rfl,rfl,rfl⟩,.a6 [] [] rfl (by simp),rfl,g,y,Ext.refl,λb x a d=>.inl (k b x a d),λ_ _=>rfl⟩
 rcases aj with rfl|rfl
 . have i:w.cell? ⟨(φ 0).1,0,none⟩=some (.pointer none):=by rw[iH aa];rfl
   have G:w.shape? (φ 0).1=some (ρ.t 72,2):=(by simp[World.shape?,aa]);have D:w.frozen? ⟨(φ 0).1,0,none⟩=false:=(by simp[World.frozen?,aa]);refine(Any.Builder_copyCheck_fresh L X _ w i G D).mono ?_
   rintro e w' ⟨rfl,rfl⟩
   obtain⟨I,q⟩:=QD aa 0 _;have m:gq w S _ S:=⟨λ_ _ h=>h,λb j h=>p5 (q b (λe=>u j (e▸h))) j⟩
   refine⟨_,.a6 [],φ,S,J,2,rfl,⟨rfl,rfl,rfl⟩,.a6 [] [] rfl (by simp),rfl,⟨λb x a=>?_,g.inj,λb j h=>?_⟩,y,⟨rfl,rfl,rfl,by simp,λb d di=>q b (λe=>di (e▸k 0 _ h0 o)),m,λ_ _ h=>.inl h⟩,λb x a d=>.inl (k b x a d),λ_ _=>rfl⟩
   . by_cases d:b=0
     . subst d;rw[h0]at a;cases a;exact⟨o,⟨_,v,I,.inr rfl,bn.mono m (λ_ _=>rfl) (C.mc _) F⟩,u⟩
     . exact cP.mono (n:=λ_=>true) m (λ_ _=>rfl) rfl (by cases x<;>simp[bP.ay,C.mc]) (λA=>q _ (g.inj b 0 x _ a h0 d A o)) (g.blk b x a)
   . have:=g.st b j h;simpa using this
 . have i:w.cell? ⟨(φ 0).1,0,none⟩=some (.pointer (some ⟨(φ 0).1,0,none⟩)):=by rw[iH (vs:=[_,_]) aa];rfl
   refine(Any.Builder_copyCheck_used L X _ w i).mono ?_
   rintro e w' ⟨rfl,rfl⟩
   exact same _ rfl
theorem XJ(L:Lays.n240 P ρ)(X:Builder.X72 P ρ){E a:Nat}(g:ρ.f 240=f)(dY:ρ.t 72=E):hn P (Cr U f E a):=by
 subst g;subst dY;intro s r bI m J1 b aA;have i:=qO bI.symm;subst i;cases b with|cons b e=>
 cases e;have:=b.gU;subst this;have j:aT ((Cr U (ρ.f 240) (ρ.t 72) a).ia r) 0=some _:=rfl;have k:aT ((Cr U (ρ.f 240) (ρ.t 72) a).ia r) 1=some _:=rfl;obtain⟨_,u,c,b0⟩:=aA 0 _ j;obtain⟨_,v,g1,b1⟩:=aA 1 _ k;cases b1;cases b0 with| @bT _ _ d b0=>
 cases b0 with|cb _ n o p=>
 refine(XI L X c g1).mono ?_
 rintro q s1 l ⟨rfl,rfl,rfl⟩
 exact⟨rfl,.a6 [] [] rfl (by simp),aA⟩
end
end
section
open Go Go.ChangeShapes Go.WideShapes Go.RowKit
variable {U:cE}
def aF.O4:aF->Nat
 |.bool=>1
 |.int k=>k.bits/8
 |.str=>16
 |.slice _=>24
 |.nm _=>0
def GS:List aF->Nat
 |[]=>0
 |t::r=>t.O4+GS r
def su(l:List aF):Nat:=bif l.any λt=>Nat.ble 8 t.O4 then(GS l+7)/8*8 else GS l
def aF.bytes(U:cE)(t:aF):Nat:=su (t.cells U)
inductive WF (U:cE):Cell U.D->Prop
 |bool (b:Bool):WF U ⟨.bool,b⟩
 |int (k:IntKind) (n:Int) (h:(Lit.int k n).wf=true):WF U ⟨.int k,n⟩
 |str (s:ao) (h:s.length<=reachBytes):WF U ⟨.str,s⟩
 |slice (t:aF) (l:List (t.den U.D)) (h:l.length<=reachBytes) (ady:l.length*t.bytes U<=reachBytes) (ad:∀x,x∈l->∀c,c∈t.row U x->WF U c):WF U ⟨.slice t,l⟩
def cE.Total(U:cE):Prop:=∀n (l:List (Cell U.D)),l.map Cell.ty=U.df n->∃x,U.make n l=some x
def CK:List aF->List aF->Bool
 |[],[]=>true
 |a::l,b::m=>aF.beq a b&&CK l m
 |_,_=>false
theorem Iz:∀{l m:List aF},CK l m=true->l=m
 |[],[],_=>rfl
 |a::l,b::m,h=>by
  simp[CK]at h;rw[aF.beq_eq h.1,Iz h.2]
 |[],_::_,h=>by cases h
 |_::_,[],h=>by cases h
def y8(P:Program)(g:TypeId->Option (List aF)):List Field->Nat->Nat->Option (List aF)
 |[],off,c=>match Nat.beq off c with
  |true=>some []
  |false=>none
 |f::r,off,c=>match g f.type with
  |none=>none
  |some a=>match Nat.beq f.offset off&&Nat.beq (P.cellsOf f.type) a.length with
   |false=>none
   |true=>match y8 P g r (off+a.length) c with
    |none=>none
    |some b=>some (a++b)
def flat(P:Program)(U:cE)(st:TypeId->Option Nat):Nat->TypeId->Option (List aF)
 |0,_=>none
 |n+1,t=>match P.underlying t with
  |some .bool=>some [.bool]
  |some (.int k)=>some [.int k]
  |some .string=>some [.str]
  |some (.slice e)=>match st e with
   |some m=>match Nat.ble 1 (P.bytesOf e)&&Nat.ble (su (U.df m)) (P.bytesOf e)with
    |true=>some [.slice (.nm m)]
    |false=>none
   |none=>match flat P U st n e with
    |none=>none
    |some a=>match Nat.ble 1 (P.bytesOf e)&&Nat.ble (su a) (P.bytesOf e)with
     |false=>none
     |true=>match a with
      |[ty]=>match ty.tQ with
       |true=>none
       |false=>some [.slice ty]
      |_=>none
  |some (.struct fs)=>y8 P (flat P U st n) fs.toList 0 (P.cellsOf t)
  |some (.array k e)=>match flat P U st n e with
   |none=>none
   |some a=>match Nat.beq (P.cellsOf t) (k*a.length)&&Nat.beq (P.cellsOf e) a.length with
    |false=>none
    |true=>some (List.replicate k a).flatten
  |_=>none
theorem P6{α:Type}{R:Nat->α->Prop}:∀(n:Nat),(∀i,i<n->∃x,R i x)->∃l:List α,l.length=n/\∀(i:Nat) x,l[i]?=some x->R i x
 |0,_=>⟨[],rfl,by simp⟩
 |n+1,h=>by
  obtain⟨l,ad,b⟩:=P6 n λi a=>h i (by omega);obtain⟨x,c⟩:=h n (by simp);refine⟨l++[x],by grind,λi y d=>?_⟩;grind
variable{v:Value}{t:TypeId}{a:Addr}{df:List aF}
section
variable {H:Type}{enc:TypeId×Value->H}{P:Program}{w:World}
abbrev Old(w:World):c0:=λb _=>b<w.heap.size
structure Rd (U:cE)(w:World)(df:List aF)(cs:List Value)(l:List (Cell U.D)):Prop where
 ty:l.map Cell.ty=df
 wf:∀c,c∈l->WF U c
 rt:aX (λc v=>bM w (Old w) (Cell.enc U c) v) l cs
theorem y9{t:aF}{x:t.den U.D}(h1:WF U ⟨t,x⟩)(a:bM w (Old w) (Cell.enc U ⟨t,x⟩) v):Rd U w [t] [v] [⟨t,x⟩]:=
 ⟨rfl,by grind,.cons a .nil⟩
theorem EH:∀{a:List (DataW H)} {d:DataW H},d∈a->∀n∈d.weights P t,n∈DataW.weightsAll P t a
 |d0::a,d,b,n,aP=>by
  simp[DataW.weightsAll];rcases e2.1 b with rfl|b
  . grind
  . exact .inr (EH b n aP)
theorem HE{g:TypeId->Option (List aF)}{cs:List Value}:∀{fs:List Field} {off i:Nat} {df:List aF},
 (∀f,f∈fs->∀a,g f.type=some a->∃l,Rd U w a ((cs.drop f.offset).take (P.cellsOf f.type)) l)->
 y8 P g fs off i=some df->cs.length=i->∃l,Rd U w df (cs.drop off) l
 |[],off,i,df,_,h,ad=>by
  simp[y8]at h;split at h
  . rename_i e;cases h;have:=cM e;refine⟨[],rfl,by simp,?_⟩;rw[fr (by omega)];exact .nil
  grind
 |f::r,off,i,df,ak,h,ad=>by
  simp only[y8]at h;split at h
  . grind
  . rename_i a n;split at h
    . grind
    . rename_i j;simp only[cX]at j;have h1:=cM j.1;have q:=cM j.2;split at h
      . grind
      . rename_i b o;cases h;obtain⟨p,k⟩:=ak f (by simp) a n;obtain⟨l2,m⟩:=HE (λf s=>ak f (by grind)) o ad;refine⟨p++l2,by simp[k.ty,m.ty],?_,?_⟩
        . intro c d;rcases hP.1 d with d|d
          . exact k.wf c d
          . exact m.wf c d
        . have e:cs.drop off=(cs.drop off).take a.length++cs.drop (off+a.length):=by rw[<-vi,List.take_append_drop]
          rw[e];refine aX.append ?_ m.rt;have:=k.rt;grind
theorem KD{a:List aF}{cs:List Value}:∀(k off:Nat),(∀i,i<k->∃l,Rd U w a ((cs.drop (off+i*a.length)).take a.length) l)->cs.length=off+k*a.length->
 ∃l,Rd U w (List.replicate k a).flatten (cs.drop off) l
 |0,off,_,ad=>by
  refine⟨[],rfl,by simp,?_⟩;rw[fr (by omega)];exact .nil
 |k+1,off,ak,ad=>by
  obtain⟨g,d⟩:=ak 0 (by simp);rw[AA]at d
  obtain⟨l2,f⟩:=KD (a:=a) (cs:=cs) k (off+a.length) (λi j=>by
   grind) (by grind)
  refine⟨g++l2,by simp[d.ty,f.ty,List.replicate_succ],?_,?_⟩
  . intro c b;rcases hP.1 b with b|b
    . exact d.wf c b
    . exact f.wf c b
  . have e:cs.drop off=(cs.drop off).take a.length++cs.drop (off+a.length):=by rw[<-vi,List.take_append_drop]
    rw[e];exact aX.append d.rt f.rt
theorem XK{n:Nat}{cs:List Value}(h:w.cells? 0 a n=some cs):cs.length=n/\∀j,j<n->w.cell? (a.add j)=cs[j]?:=by
 exact⟨by simpa using mapM_some_length h,λj b=>mapM_some_get h j j (by grind)⟩
theorem HF(h:w.cell? a=some v):a.spot=none/\a.block<w.heap.size:=by
 unfold World.cell? at h;split at h
 . rename_i b;split at h
   . grind
   . refine⟨by simp_all,(yc.1 b).1⟩
 grind
theorem KK{i j:Nat}(h:a.spot=none):(a.add i).add j=⟨a.block,a.off+i+j,none⟩:=by
 obtain⟨b,o,c⟩:=a;grind[Addr.add]
theorem Oe(b:U.Total){t:aF}{l:List (Cell U.D)}(h:l.map Cell.ty=t.cells U):∃x,t.row U x=l:=by
 have one:∀t,l.map Cell.ty=[t]->∃x:t.den _,l=[⟨t,x⟩]:=by
  intro t h
  match l,h with
  |[⟨c,x⟩],h=>grind
 cases t with
 |nm n=>
  obtain⟨x,a⟩:=b n l h;exact⟨x,U.mk_eq n l x a⟩
 |bool=>obtain⟨x,a⟩:=one _ h;exact⟨x,a.symm⟩
 |int k=>obtain⟨x,a⟩:=one _ h;exact⟨x,a.symm⟩
 |str=>obtain⟨x,a⟩:=one _ h;exact⟨x,a.symm⟩
 |slice t=>obtain⟨x,a⟩:=one _ h;exact⟨x,a.symm⟩
def rb(P:Program)(U:cE)(st:TypeId->Option Nat):Prop:=∀e m,st e=some m->flat P U st 60 e=some (U.df m)
def vG:List (TypeId×Nat)->TypeId->Option Nat
 |[],_=>none
 |p::l,t=>match Nat.beq p.1 t with
  |true=>some p.2
  |false=>vG l t
def yD(P:Program)(U:cE)(st:TypeId->Option Nat)(t:TypeId)(df:List aF):Bool:=
 match flat P U st 60 t with
 |some a=>CK a df
 |none=>false
theorem Fk{st:TypeId->Option Nat}(h:yD P U st t df=true):flat P U st 60 t=some df:=by
 grind[yD,Iz]
theorem IA:∀{l:List (TypeId×Nat)} {t m},vG l t=some m->(t,m)∈l
 |p::l,t,m,h=>by
  simp[vG]at h;split at h
  . grind[cM]
  . exact .tail _ (IA h)
theorem abi{l:List (TypeId×Nat)}(h:(l.all λp=>yD P U (vG l) p.1 (U.df p.2))=true):rb P U (vG l):=by
 intro e m he;rw[f']at h;exact Fk (h _ (IA he))
theorem WD{st:TypeId->Option Nat}(g:rb P U st){n:Nat}{e:TypeId}(ht:P.underlying t=some (.slice e))(h:flat P U st (n+1) t=some df):
 ∃ty a cF,df=[.slice ty]/\flat P U st cF e=some a/\a=ty.cells U/\1<=P.bytesOf e/\su a<=P.bytesOf e:=by
 simp[flat,ht]at h;split at h
 . rename_i m f;split at h
   . rename_i b;cases h;simp only[cX]at b;exact⟨.nm m,U.df m,60,rfl,g e m f,rfl,sS b.1,sS b.2⟩
   grind
 . split at h
   . grind
   . rename_i a c;split at h
     . grind
     . rename_i b;have d:1<=P.bytesOf e/\su a<=P.bytesOf e:=(by simp_all);split at h
       . rename_i ty;split at h
         . grind
         . rename_i aP;cases h;refine⟨ty,[ty],n,rfl,c,?_,d⟩;cases ty<;>first|rfl|cases aP
       grind
theorem HG(ax:U.Total){st:TypeId->Option Nat}(av:rb P U st):∀(fuel n:Nat) (t:TypeId) (cs:List Value) (x:DataW H×List MemPlace) (df:List aF),
 DataW.trod enc P w 0 (λ_=>true) true fuel t cs=some x->flat P U st n t=some df->(∀k,k∈x.1.weights P t->k<=reachBytes)->∃l,Rd U w df cs l:=by
 intro fuel;induction fuel with
 |zero=>simp_all[DataW.trod]
 |succ m ih=>
  intro n t cs x df h p Q;cases n with
  |zero=>cases p
  |succ n=>
  have ao:=p;simp only[flat]at p;split at p
  . rename_i o;cases p;obtain⟨b,rfl,rfl⟩:=DataW.trod_bool o h;exact⟨_,y9 (.bool b) (.bool b)⟩
  . rename_i k o;cases p;obtain⟨i,rfl,rfl,aw⟩:=DataW.trod_int o h;exact⟨_,y9 (.int k i aw) (.int k i)⟩
  . rename_i o;cases p;obtain⟨s,rfl,rfl,hs⟩:=DataW.trod_string o h;have h1:s.data.toList.length<=reachBytes:=Q _ (by simp[DataW.weights]);have A:s.data.toList.length=s.size:=As;refine⟨_,y9 (.str s.data.toList h1) (.str s ?_)⟩;grind[reachBytes,eo]
  . rename_i e o;obtain⟨ty,a,cF,rfl,G,aa,al,am⟩:=WD av o ao;rcases DataW.trod_slice o h with⟨rfl,rfl⟩|⟨g,len,cap,C,rest,aj,K,rfl,rfl,_,az,_,ay,I,_,_⟩
    . refine⟨_,y9 (.slice ty [] (jJ _) (by simp) (by simp)) ?_⟩;exact .slice [] none 0 0 0 0 (λ_ _=>default) (by simp) (by simp) (by simp) (by simp) (by simp) (by simp)
    . cases K;have aA:(C.length+rest.length)*P.bytesOf e<=reachBytes:=by
       simp_all[DataW.weights]
      have N:len<=reachBytes:=by
       have h1:C.length+rest.length<=(C.length+rest.length)*P.bytesOf e:=DO _ al;omega
      have J:len*su a<=reachBytes:=by
       have h1:len*su a<=(C.length+rest.length)*P.bytesOf e:=Nat.mul_le_mul (by omega) am;omega
      have dY:∀i,i<len->∃M:ty.den U.D,∃z,z.length=P.cellsOf e/\(∀j,j<P.cellsOf e->w.cell? ((g.add (i*P.cellsOf e)).add j)=z[j]?)/\Rd U w a z (ty.row U M):=by
       intro i u;have S:=I i u;have an:C[i]?=some C[i]:=eF (by omega);rw[an]at S;cases F:w.cells? 0 (g.add (i*P.cellsOf e)) (P.cellsOf e)with
       |none=>grind
       |some z=>
        rw[F]at S;obtain⟨h1,A⟩:=XK F
        obtain⟨l,ad⟩:=ih cF e z _ a S G (λk W=>Q k (by
         simp only[DataW.weights,o,e2,hP];right;left
         exact EH (fT.2 ⟨C[i],x6 _,rfl⟩) k W))
        obtain⟨M,aB⟩:=Oe ax (t:=ty) (by rw[ad.ty,aa]);grind
      obtain⟨xs,ag,ai⟩:=P6 len dY;have Z:len≠0->P.cellsOf e=ty.sz U/\0<P.cellsOf e:=by
       intro L;obtain⟨M,z,h1,_,E⟩:=dY 0 (by omega);have y:=E.rt.length;rw[aF.OO,h1]at y;exact⟨y.symm,by rw[<-y];exact aF.vJ⟩
      have Y:len≠0->g.spot=none:=by
       intro L;obtain⟨M,z,h1,A,E⟩:=dY 0 (by omega);have h0:=A 0 (Z L).2;rw[eF (by rw[h1];exact(Z L).2)]at h0;have bp:=(HF h0).1;simpa[Addr.add]using bp
      have ah:∀x,x∈xs->∃i:Nat,xs[i]?=some x/\i<len:=by
       intro x B;obtain⟨i,u⟩:=DR.1 B;grind
      refine⟨_,y9 (t:= .slice ty) (x:=xs) (.slice ty xs (by omega) (by rw[ag];unfold aF.bytes;rw[<-aa];exact J) ?_) ?_⟩
      . intro x B c F;obtain⟨i,u,_⟩:=ah x B;obtain⟨z,_,_,E⟩:=ai i x u;exact E.wf c F
      . have J:(xs.map (ty.enc U)).length=len:=(by simp[ag]);rw[<-J];refine .slice (xs.map (ty.enc U)) (some g) cap (P.cellsOf e) g.block g.off (λi j=>(w.cell? ⟨g.block,g.off+i*P.cellsOf e+j,none⟩).getD default) (by omega) ?_ ?_ ?_ ?_ ?_
        . rw[J];unfold reachBytes at N;unfold dm;omega
        . intro r O;obtain⟨x,B,rfl⟩:=fT.1 O;obtain⟨i,_,u⟩:=ah x B;rw[aF.rq];exact(Z (by omega)).1.symm
        . intro L;have aq:len≠0:=by intro h0;apply L;rw[<-List.length_eq_zero_iff];omega
          have:=Y aq;rw[show g=⟨g.block,g.off,g.spot⟩from rfl,this]
        . intro i j u V;rw[J]at u;obtain⟨M,z,h1,A,E⟩:=dY i u;have y:=A j V;rw[eF (by omega)]at y;have X:=Y (by omega);have aK:(g.add (i*P.cellsOf e)).add j=⟨g.block,g.off+i*P.cellsOf e+j,none⟩:=KK X;rw[aK]at y;exact⟨(HF y).2,by rw[y];rfl⟩
        . intro i j r aC O ae;rw[qP,bu]at O;obtain⟨x,B,rfl⟩:=O;obtain⟨z,h1,A,E⟩:=ai i x B;have u:i<len:=by have:=(dV.1 B).1;omega
          rw[aF.tK,qP,bu]at ae;obtain⟨c,F,rfl⟩:=ae;obtain⟨v,af,au⟩:=E.rt.get F;have V:j<P.cellsOf e:=by have:=(dV.1 af).1;omega
          have y:=A j V;have X:=Y (by omega);have aK:(g.add (i*P.cellsOf e)).add j=⟨g.block,g.off+i*P.cellsOf e+j,none⟩:=KK X;rw[aK,af]at y;rw[y];exact au
  . rename_i fs o;obtain⟨xs,aj,K,rfl,ad,N,I⟩:=DataW.trod_struct o h;cases K
    have:=HE (U:=U) (w:=w) (P:=P) (cs:=cs) (fs:=fs.toList) (off:=0) (λf ap a G=>by
     obtain⟨i,u⟩:=DR.1 ap;have T:fs[i]?=some f:=(by simpa using u);have ak:=I i f T;have ab:i<xs.length:=by rw[N];exact(yc.1 T).1
     rw[eF ab]at ak
     exact ih n f.type _ _ a ak G (λk W=>Q k (by
      simp only[DataW.weights,o]
      exact DataW.weights_mem_each (j:=i) (t:=f.type) (d:=xs[i].1) (by simp[T]) (by simp[ab]) k W))) p ad
    simpa using this
  . rename_i k e o;split at p
    . cases p
    . rename_i a G;split at p
      . cases p
      . rename_i R;cases p;simp only[cX]at R;have h1:=cM R.1;have A:=cM R.2;obtain⟨xs,aj,K,rfl,ad,N,I⟩:=DataW.trod_array o h;cases K
        have:=KD (U:=U) (w:=w) (a:=a) (cs:=cs) k 0 (λi u=>by
         have ak:=I i u;rw[eF (by omega)]at ak
         obtain⟨l,ad⟩:=ih n e _ _ a ak G (λq ar=>Q q (by
          simp only[DataW.weights,o]
          exact EH (fT.2 ⟨xs[i],x6 _,rfl⟩) q ar))
         rw[A]at ad
         exact⟨l,by rw[hx];exact ad⟩) (by rw[ad,h1,hx])
        simpa using this
  . cases p
end
end
section
open Go Go.ChangeShapes Go.WideShapes Go.RowKit
variable {U:cE}
def isAgg(P:Program)(t:TypeId):Bool:=
 match P.underlying t with
 |some (.struct _)=>true
 |some (.array _ _)=>true
 |_=>false
def mI(P:Program)(U:cE)(st:TypeId->Option Nat):List TypeId->List eU->List aF->Bool
 |[],[],[]=>true
 |t::ts,.row m::a,.nm b::df=>(Nat.beq m b&&(isAgg P t&&yD P U st t (U.df m)))&&mI P U st ts a df
 |t::ts,.c (.hole ty)::a,d::df=>(aF.beq ty d&&(!ty.tQ&&(!isAgg P t&&yD P U st t [ty])))&&mI P U st ts a df
 |_,_,_=>false
variable{v:Value}{t:TypeId}{b0 N f:Nat}{D:Nat->Type}{ts:List aF}{ft:List eU}{a:List MemPlace}
section
variable {H:Type}{enc:TypeId×Value->H}{P:Program}{w:World}{φ:cZ}
theorem QO{st:TypeId->Option Nat}:∀{d:List TypeId} {b:List eU} {df:List aF},mI P U st d b df=true->d.length=df.length
 |[],[],[],_=>rfl
 |[],[],_::_,h=>by cases h
 |[],_::_,_,h=>by cases h
 |_::_,[],_,h=>by cases h
 |_::_,a::_,[],h=>by
  cases a with
  |c x=>cases x<;>cases h
  |_=>cases h
 |t::ts,a::b,ty::df,h=>by
  have:mI P U st ts b df=true:=by
   cases a with
   |row m=>cases ty with
    |nm e=>grind[mI]
    |_=>cases h
   |c x=>cases x with
    |hole ty=>grind[mI]
    |_=>cases h
   |_=>cases h
  simp[QO this]
theorem WE{r:Reach}(hs:isAgg P t=true)(h:Value.okWide P w r b0 t v):∃cs,v= .agg cs:=by
 grind[isAgg,Value.okWide]
theorem WG{r:Reach}(hs:isAgg P t=false)(h:Value.okWide P w r b0 t v):v.cells=#[v]:=by
 unfold isAgg at hs;unfold Value.okWide at h;have a:Cell.okWide P w r b0 t v:=by grind
 cases v with
 |agg cs=>
  simp_all[Cell.okWide,Cell.ok]
 |_=>rfl
theorem Q9{S:c0}:∀{l:List (Cell U.D)} {vs:List Value},aX (λc v=>bM w S (Cell.enc U c) v) l vs->aX (bn φ w S) ((l.map bh.t).map bh.ob) vs
 |[],[],.nil=>.nil
 |c::l,v::vs,.cons h1 a=>.cons h1 (Q9 a)
theorem HH(g:U.Total)(φ:cZ){st:TypeId->Option Nat}(A:rb P U st){b0:Nat}:∀(ts:List TypeId) (e:List eU) (df:List aF) (args:List Value) (f:List (DataW H)) (ps:List MemPlace),
 mI P U st ts e df=true->(∀(j:Nat) t v,ts[j]?=some t->args[j]?=some v->Value.okWide P w .any b0 t v)->
 DataW.TrodAll enc P w 0 (λ_=>true) true ts args f ps->(∀k,k∈DataW.weightsEach P ts f->k<=reachBytes)->
 ∃(l:eL U) (xs:List (bC U)),l.map Cell.ty=df/\(∀c,c∈l->∀d,d∈c.ty.row U c.val->WF U d)/\j6 e l=(xs,[])/\(∀x,x∈xs->gD x=true)/\aX (bW φ w (Old w)) (xs.map fJ) args
 |[],[],[],args,f,ps,_,_,ht,_=>by
  obtain⟨rfl,rfl,rfl⟩:=trodAll_nil ht;exact⟨[],[],rfl,by simp,rfl,by simp,.nil⟩
 |t::ts,K::e,ty::df,args,f,ps,aj,C,ht,E=>by
  obtain⟨v,vs,d,L,p,q,rfl,rfl,rfl,⟨fuel,h1⟩,M⟩:=trodAll_cons ht;have D:=C 0 t v rfl rfl;have F:∀k,k∈d.weights P t->k<=reachBytes:=λk O=>E k (by simp_all[DataW.weightsEach,hP]);have rest:=λV=>HH g φ (st:=st) A (b0:=b0) ts e df vs L q V (λj t v ad ae=>C (j+1) t v (by grind) (by grind)) M
   (λk O=>E k (by simp_all[DataW.weightsEach,hP]))
  unfold mI at aj;split at aj
  . grind
  . rename_i t0 Y m X af aa aK n dD;cases aK;cases n;cases dD;simp only[cX]at aj;obtain⟨⟨u,hs,r⟩,z⟩:=aj;have T:=cM u;obtain⟨l,xs,Q,R,B,S,s⟩:=rest z;obtain⟨cs,rfl⟩:=WE hs D;obtain⟨J,a⟩:=HG g A fuel 60 t _ _ _ h1 (Fk r) F;obtain⟨x,G⟩:=Oe g (t:= .nm m) a.ty;refine⟨⟨.nm m,x⟩::l,.agg ((aF.row U (.nm m) x).map .t)::xs,by grind,?_,?_,?_,?_⟩
    . intro c b;rcases e2.1 b with rfl|b
      . intro d o;exact a.wf d (G▸o)
      grind
    . grind[j6,lR]
    . simp_all[e2,gD,bh.qV]
    . refine .cons ?_ s;have:=Q9 (φ:=φ) a.rt;rw[<-G]at this;exact bW.agg (vs:=cs.toList) this
  . rename_i t0 Y Z X ag aa aK n dD;cases aK;cases n;cases dD;simp only[cX,vt]at aj;obtain⟨⟨u,aP,hs,r⟩,z⟩:=aj;have T:=aF.beq_eq u;obtain⟨l,xs,Q,R,B,S,s⟩:=rest z;rw[WG hs D]at h1;obtain⟨J,a⟩:=HG g A fuel 60 t _ _ _ h1 (Fk r) F
    match J,a with
    |[],a=>cases a.ty
    |[⟨i,x⟩],a=>
     have W:i=Z:=by have:=a.ty;grind
     subst W;refine⟨⟨i,x⟩::l,.c (.t ⟨i,x⟩)::xs,by grind,?_,?_,?_,?_⟩
     . intro c b;rcases e2.1 b with rfl|b
       . intro d o;refine a.wf d ?_;cases i<;>first|exact o|cases aP
       grind
     . simp only[j6,lR,tL,B]
     . intro y I;rcases e2.1 I with rfl|I
       . rfl
       grind
     . refine .cons ?_ s;cases a.rt with
       |cons N ab=>exact .c N
    |_::_::_,a=>have:=a.ty;simp at this
  grind
 |[],[],_::_,_,_,_,aj,_,_,_=>by cases aj
 |[],_::_,_,_,_,_,aj,_,_,_=>by cases aj
 |_::_,[],_,_,_,_,aj,_,_,_=>by cases aj
 |t::ts,K::e,[],_,_,_,aj,_,_,_=>by
  cases K with
  |row m=>cases aj
  |c x=>cases x<;>cases aj
  |agg l=>cases aj
  |a6 l=>cases aj
theorem aJ.On:∀(ts:List aF) (l:eL U),l.map Cell.ty=ts->∃h:aJ U.D ts,aJ.cells U.D ts h=l
 |[],[],_=>⟨(),rfl⟩
 |[t],[⟨a,x⟩],h=>by
  have:a=t:=by grind
  subst this;exact⟨x,rfl⟩
 |t::u::r,⟨a,x⟩::l,h=>by
  simp at h;obtain⟨h1,c⟩:=h;subst h1;obtain⟨y,e⟩:=aJ.On (u::r) l (by grind);exact⟨(x,y),by show⟨a,x⟩::aJ.cells _ _ y=_;grind⟩
 |[],_::_,h=>by grind
 |_::_,[],h=>by grind
 |[_],_::_::_,h=>by grind
theorem fj.zT:∀{ts:List aF} {t:aF} (h:fj D t ts),fj.dec D t ts (fj.cells D t ts h)=some h
 |[],t,x=>Cell.Ml
 |u::r,t,x=>by
  unfold fj.dec fj.cells;simp[tN,Cell.Ml];rw[fj.zT];rfl
theorem aJ.zT:∀{ts:List aF} (h:aJ D ts),aJ.dec D ts (aJ.cells D ts h)=some h
 |[],_=>rfl
 |_::_,h=>fj.zT h
theorem aJ.hh:∀{ts:List aF} {l:List (Cell D)},l.map Cell.ty=ts->∃h,aJ.dec D ts l=some h:=by
 have go:∀(ts:List aF) (l:List _),l.map Cell.ty=ts->∃h:aJ D ts,aJ.cells D ts h=l:=by
  intro ts;induction ts with
  |nil=>intro l h;cases l with
   |nil=>exact⟨(),rfl⟩
   |cons=>grind
  |cons t r ih=>
   intro l h;cases l with
   |nil=>grind
   |cons c l=>
    obtain⟨f,x⟩:=c;simp at h;obtain⟨h1,a⟩:=h;subst h1;obtain⟨y,e⟩:=ih l a;cases r with
    |nil=>
     cases l with
     |nil=>exact⟨x,rfl⟩
     |cons=>grind
    |cons u r=>exact⟨(x,y),by show⟨f,x⟩::aJ.cells D _ y=_;grind⟩
 intro ts l h;obtain⟨y,e⟩:=go ts l h;grind[aJ.zT]
def Ok(U:cE)(ts:List aF)(h:aJ U.D ts):Prop:=∀c,c∈aJ.cells U.D ts h->∀d,d∈c.ty.row U c.val->WF U d
theorem aa':cm N ([]:a7 U) []:=λb x h=>by cases h
theorem KL{J:a7 U}:∀{xs:List (bC U)},(∀x,x∈xs->gD x=true)->aX (bN N J) xs (xs.map fJ)
 |[],_=>.nil
 |x::xs,h=>.cons (u5 (h x (by simp))).1 (KL λy a=>h y (by grind))
theorem IB{k:Nat->Bool}:∀{xs:List (bC U)},(∀x,x∈xs->gD x=true)->V.ay.V.dw k (xs.map fJ)=true
 |[],_=>rfl
 |x::xs,h=>by
  simp[V.ay.V.dw];exact⟨(u5 (N:=0) (J:=[]) (h x (by simp))).2 k,IB λy a=>h y (by grind)⟩
theorem adJ{F:aJ U.D ts->Option (aJ U.D [.bool])}(N:U.Total)(hs:hn P ⟨f,ft,[],ts,.c (.hole .bool),[],[.bool],F⟩)
 (M:∀h:aJ U.D ts,Ok U ts h->F h=some true){st:TypeId->Option Nat}(J:rb P U st){i:List TypeId}(aj:mI P U st i ft ts=true)
 {b0:Nat}{args:Array Value}{m:List (DataW H)}{ps:List MemPlace}(K:∀(j:Nat) t v,i[j]?=some t->args[j]?=some v->Value.okWide P w .any b0 t v)
 (ht:DataW.TrodAll enc P w 0 (λ_=>true) true i args.toList m ps)(L:∀k,k∈DataW.weightsEach P i m->k<=reachBytes):
 Calls P f args w λe w'=>e= .returned (.bool true)/\Below w.heap.size w w':=by
 obtain⟨l,xs,z,A,Q,B,C⟩:=HH N _ J _ ft ts _ m ps aj (λj t v s R=>K j t v s (by grind)) ht L;obtain⟨h,aa⟩:=aJ.On ts l z;have bI:=M h (λc n d q=>A c (aa▸n) d q)
 have p:=hs h _ bI (xs.map fJ) [] (by
  show aX _ (j6 ft _).1 _;grind[KL]) (by
  exact aa')
 have:=p (λb=>(b,0)) _ w (λ_=>False) {blk:=λb x g=>(by cases g),inj:=λb O x y g=>(by simp),st:=λb j o=>o} (λb x g=>by cases g) (λb x g=>by simp)
  (IB B) _ C
 refine this.mono λe w' ⟨v,r,bc,bd,J',N',he,⟨_,E,_⟩,I,_,_,_,a,_⟩=>?_;cases E with
 |c n=>
  cases n with
  |t c=>
   cases I with
   |c G=>
    cases G;exact⟨he,a.os,a.tape,a.output,a.size,λk u=>a.block k u (λh=>h)⟩
theorem WH{f:Func}{s:ChangeSpec}{n x3 m:Bool}{W e:World}{args:Array Value}{c gs:List (DataW H)}
 (dN:DataW.Whole enc P f.params.toList s.vars false W args.toList c gs a)(i:Below W.heap.size W e)
 (hres:∀(b:Nat) (d:Nat->Bool) (o:Bool),DataW.TrodAll enc P e b d o f.resultTypes.toList (v.resultList f.resultTypes.size) (s.fn H (c++gs)).results [])
 (g:∀d:Nat->Bool,(∀p∈a,d p.block=true)->DataW.TrodAll enc P e 0 d true f.params.toList args.toList (s.fn H (c++gs)).args a)
 (l:∀d:Nat->Bool,(∀p∈a,d p.block=true)->DataW.TrodVars enc P e d s.vars (s.fn H (c++gs)).vars [])
 (q:∀(j:Nat) (t:TypeId) (r:Value),f.resultTypes[j]?=some t->(v.resultList f.resultTypes.size)[j]?=some r->Value.okWide P e .any 0 t r):
 s.post enc P f false n x3 m W args v e:=by
 have aE:=dN.lt;have k:∀p∈a,(λb=>decide (b<W.heap.size)) p.block=true:=λp aj=>by grind
 refine⟨c,gs,a,[],a,[],dN,hres _ _ _,g _ k,l _ k,i.frame _,λ_=>?_⟩;refine⟨q,(s.fn H (c++gs)).results++(s.fn H (c++gs)).args,(s.fn H _).vars,a,⟨a,[],?_,l _ (λ_ _=>rfl),by simp,?_,λh=>by grind⟩,λp aj _=>aj⟩
 . have:=trodAll_append (g _ (λ_ _=>rfl)) (hres 0 (λ_=>true) _);grind
 . intro b off aj;obtain⟨_,_,_,_,_,u,_⟩:=dN;rw[World.frozen?_of_block (i.block b (aE _ aj))];exact u b _ aj
theorem adK{fn:Func}{s:ChangeSpec}{F:aJ U.D ts->Option (aJ U.D [.bool])}(af:U.Total)
 (hs:hn P ⟨f,ft,[],ts,.c (.hole .bool),[],[.bool],F⟩)
 (ae:∀h:aJ U.D ts,Ok U ts h->F h=some true){st:TypeId->Option Nat}(X:rb P U st)(aj:mI P U st fn.params.toList ft ts=true)
 {C:TypeId}(hres:fn.resultTypes=#[C])(htb:P.underlying C=some .bool)(w:s.vars=[])
 (M:∀g:List (DataW H),g.length=ts.length->(s.fn H g).results=[.lit (.bool true)]/\(s.fn H g).args=g/\(s.fn H g).vars=[])
 (o:(laidOutB P&&mapsRowed P)=true)(Q:fn.params.toList.all (λt=>decide (t<P.types.size))=true)
 (V:((List.range P.types.size).all λt=>match P.underlying t with|some (.slice e)=>decide (0<P.cellsOf e)|_=>true)=true)
 {W:World}{base:Nat}{args:Array Value}{g gs:List (DataW H)}{G:List MemPlace}{I x3 E:Bool}
 (Z:∀(j:Nat) t v,fn.params[j]?=some t->args[j]?=some v->Value.okWide P W .any base t v)
 (dN:DataW.Whole enc P fn.params.toList s.vars false W args.toList g gs G)
 (N:(DataW.weightsEach P (fn.params.toList++s.plain.varTypes P) (g++gs)).all (· <=reachBytes)=true):
 Calls P f args W λe n=>∃v,e= .returned v/\s.post enc P fn false I x3 E W args v n:=by
 have z:=dN;obtain⟨p,q,y,hN,rfl,ai,bY⟩:=dN;rw[w]at hN;obtain⟨rfl,rfl⟩:=trodVars_none hN;have ad:s.plain.varTypes P=[]:=by show s.vars.filterMap _=[]<;>simp[w]
 rw[ad,nQ,nQ,f']at N;have O:g.length=ts.length:=by
  have h1:∀{i:List TypeId} {vs:List Value} {g:List (DataW H)} {ps:List MemPlace},DataW.TrodAll enc P W 0 (λ_=>true) true i vs g ps->g.length=i.length:=by
   intro i;induction i with
   |nil=>grind[trodAll_nil]
   |cons t r ih=>grind[trodAll_cons]
  grind[QO]
 obtain⟨R,S,T⟩:=M g O;simp only[cX]at o;have K:=kids_rows o.1 o.2;have Y:=slices_full_of P V;refine(adJ af hs ae X aj (λj t v ak ab=>Z j t v (by grind) ab) y (λk al=>by grind)).mono λe n ⟨he,A⟩=>?_;subst he;refine⟨_,rfl,WH z A ?_ ?_ ?_ ?_⟩
 . intro b m ah;rw[nQ,R,hres];exact trodAll_cons_mk (shut_bool htb _) trodAll_mk0
 . intro m B;rw[nQ,S];have aE:=z.lt;have dr:=λt ht=>by simpa using f'.1 Q t ht
   have go:∀ {i:List TypeId} {vs:List Value} {g:List (DataW H)} {ps:List MemPlace},(∀ t,t∈i->t<P.types.size)->(∀ p∈ps,p.block<W.heap.size/\m p.block = true)->
    DataW.TrodAll enc P W 0 (λ_=>true) true i vs g ps->DataW.TrodAll enc P n 0 m true i vs g ps:=by
    intro i;induction i with
    |nil=>intro vs g ps _ _ h;obtain⟨rfl,rfl,rfl⟩:=trodAll_nil h;exact trodAll_mk0
    |cons t r ih=>
     intro vs g ps dr u h;obtain⟨v,am,d,ag,a,b,rfl,rfl,rfl,⟨J,h1⟩,L⟩:=trodAll_cons h;refine⟨a,b,⟨J,DataW.trod_stays K (λ{t e}=>Y t e) (by intro aa;cases aa) (dr t (by simp)) h1 (λx l=>A.same (u x (by simp[l])).1) (λx l=>(u x (by simp[l])).2)⟩,ih (λt ht=>dr t (by simp[ht])) (λx l=>u x (by simp[l])) L,rfl⟩
   rw[nQ];exact go dr (λx l=>⟨aE x (by simp[l]),B x (by simp[l])⟩) y
 . intro m B;rw[nQ,T,w];rfl
 . exact ok_one hres rfl (okWide_bool_mk htb _)
end
end
section
open Go
theorem jb{a b:Int}(h1: -9223372036854775808<=a+b)(c:a+b<=9223372036854775807):aQ .i64 a b=a+b:=by grind[aQ,IntKind.wrap_i64]
theorem iL{a b:Int}(h1: -9223372036854775808<=a-b)(c:a-b<=9223372036854775807):dL .i64 a b=a-b:=by grind[dL,IntKind.wrap_i64]
theorem pA{a:Int}(h1: -9223372036854775808<=a:=by omega)(b:a<=9223372036854775807:=by omega):b9 .i64 a=a:=by grind[b9,IntKind.wrap_i64]
theorem aS{k n:Nat}(h:k<n):aI (k:Int) n=true:=by grind[aI]
theorem a'(k:Nat):(k:Int).toNat=k:=kb k
theorem kO{a:Int}(h0:0<=a)(h1:a<18446744073709551616):IntKind.u64.wrap a=a:=by grind[IntKind.wrap_u64]
variable{a:Nat}{α:Type}
theorem h7(h1:a<18446744073709551616:=by omega):b9 .u64 (a:Int)=a:=kO (by simp) (by omega)
theorem E5:(2:Nat)^64=18446744073709551616:=by rfl
theorem KM{b:Nat}(c:a<18446744073709551616)(d:b<18446744073709551616):qR .u64 (a:Int) (b:Int)=((a ||| b:Nat):Int):=by
 have e:a ||| b<2^64:=Nat.or_lt_two_pow (by grind) (by grind);show IntKind.u64.wrap (BitVec.ofInt 64 _ ||| BitVec.ofInt 64 _).toNat=_;grind[kO]
theorem KE{n c i:Nat}(h:n<2^i):n ||| (c*2^i)=n+c*2^i:=by rw[Nat.or_comm,Nat.mul_comm,<-Nat.two_pow_add_eq_or_of_lt h,Nat.add_comm]
theorem Yg{b:Nat}(a:b<256):zN .u8 (b:Int) 127=((b%128:Nat):Int):=by
 have e:(BitVec.ofInt 8 b &&& BitVec.ofInt 8 (127:Nat)).toNat=b%128:=by
  rw[vr,vr,BitVec.toNat_and,yh,po (by omega)];exact Nat.and_two_pow_sub_one_eq_mod b 7
 show IntKind.u8.wrap (BitVec.ofInt 8 _ &&& BitVec.ofInt 8 (127:Nat)).toNat=_;grind[IntKind.wrap_u8]
theorem IC{k:Nat}(b:k<=64)(h:a*2^k<18446744073709551616):mK .u64 (a:Int) (k:Int)=((a*2^k:Nat):Int):=by
 grind[mK,IntKind.bits,kO]
theorem Eb(h:a<18446744073709551616):gF .u64 (a:Int) 2=((a/2:Nat):Int):=by
 grind[gF,kO]
theorem Ee{b:Nat}:cf (a:Int) (b:Int)=((a%b:Nat):Int):=by rfl
theorem DI{b:Nat}(h:a*b<18446744073709551616):jH .u64 (a:Int) (b:Int)=((a*b:Nat):Int):=by
 grind[jH,kO]
theorem KF{a b:Int}(h1: -9223372036854775808<=a*b)(c:a*b<=9223372036854775807):jH .i64 a b=a*b:=by grind[jH,IntKind.wrap_i64]
theorem zM{b:Nat}(h:a+b<18446744073709551616):aQ .u64 (a:Int) (b:Int)=((a+b:Nat):Int):=by
 grind[aQ,kO]
theorem xJ{b:Nat}(h:a+b<=9223372036854775807):aQ .i64 (a:Int) (b:Int)=((a+b:Nat):Int):=by grind[jb]
theorem bH(h:a<9223372036854775807):aQ .i64 (a:Int) 1=((a+1:Nat):Int):=by grind[jb]
theorem yw(s:ao)(i:Nat):hU s (i:Int)=((s.getD i 0).toNat:Int):=by rfl
theorem GG(s:ao)(i:Nat):(s.getD i 0).toNat<256:=UInt8.toNat_lt _
theorem sL(l:List α)(k:Nat):e1 l (k:Int) (l.length:Int)=l.drop k:=by simp[e1]
theorem sC(l:List α)(k:Nat):e1 l 0 (k:Int)=l.take k:=by rfl
theorem lO{b n:Nat}(h1:a<=b)(c:b<=n):ez (a:Int) (b:Int) n=true:=by grind[ez]
theorem Ge(a b:Nat):eN (a:Int) (b:Int)=((min a b:Nat):Int):=by grind[eN]
theorem dB{k n:Nat}(a:k<=1000:=by omega)(h:n<=100000:=by simp;omega):room k n=true:=by
 unfold room hr dm;simp;have:(2*n+192)*k<=200192*1000:=Nat.mul_le_mul (by omega) a;omega
end
section
open Go Go.Proofs Go.Proofs.YtkbmjabicjpmjaaGreatDoor Go.Sort Go.RowKit
variable {P:Program}{α:Type}[Inhabited α]
theorem Sp(w:World)(blk:Nat)(f:Array Value->Array Value){b:Nat}(h:b≠blk):(mapBlock w blk f).heap[b]?=w.heap[b]?:=by simp[mapBlock,DP,dx h]
theorem Tm(w:World)(blk:Nat)(f:Array Value->Array Value){c:Array Value}{E:TypeId}{a:Nat×Nat}(h:w.heap[blk]?=some (.cells c E a)):(mapBlock w blk f).heap[blk]?=some (.cells (f c) E a):=by
 simp[mapBlock,DP,h,onCells]
theorem Yh{g k:Nat}(enc:α->List Value)(m:α->List T)(F:Array α->Array α)(aP:∀x,(enc x).length=k)(L:∀x,(m x).length=k)(I:0<k)
 (aM:∀(w:World) (S:c0) (x:α) (j:Nat) (t:T) (v:Value),(m x)[j]?=some t->bM w S t v->(enc x)[j]?=some v)
 (bI:∀d:Array α,(F d).size=d.size/\∀x,x∈(F d).toList->x∈d.toList)
 (ap:∀(blk off cap:Nat) (d:Array α) (w:World),HoldsK enc k w blk off d->blk<w.heap.size->d.size<4611686018427387904->
  Calls P f #[.slice (some ⟨blk,off,none⟩) d.size cap,.func (.func g) #[] #[]] w λe w'=>e= .returned (.tuple #[])/\∃n os,w'=sortWorldK enc k w blk off n (F d) os)
 (aH:∀(p:Option Addr) (cap:Nat) (aj:Value) (w:World),Calls P f #[.slice p 0 cap,aj] w λe w'=>e= .returned (.tuple #[])/\w'=w)
 {J:aZ}{d:List α}(h0:aR J 0=some (.arr k (d.map m)))(ay:0<kk):
 eb P f [.c (.arr 0 k 0 d.length),.c (.fn g [])] J kk (λr J' N'=>r= .a6 []/\J'=c7 J 0 (.arr k ((F d.toArray).toList.map m))/\N'=kk):=by
 intro φ S w B q aT aI aN vs H;cases H with|cons z H=>
 cases H with|cons N H=>
 cases H;cases z with|c z=>
 cases N with|c N=>
 obtain⟨a,rfl,al,aQ⟩:=z;have aJ:_=Value.func (.func g) #[] #[]:=N;subst aJ;obtain⟨ad,ab,aS,_,an⟩:=q.blk 0 _ h0;rw[sU]at ad ab;obtain⟨ah,aD⟩:=bI d.toArray;have X:∀ w':World,Ext B S S w w'->pE φ w' S (c7 J 0 (.arr k ((F d.toArray).toList.map m)))->∃ v r bc bd J' N',Ending.returned (Value.tuple #[]) = Ending.returned v/\(r = V.a6 []/\J' = c7 J 0 (.arr k ((F d.toArray).toList.map m))/\N' = kk)/\bW bc w' bd r v/\r.ay (lt N') = true/\pE bc w' bd J'/\(∀ (b:Nat) x,aR J' b = some x->b<N'/\x.ay (lt N') = true)/\Ext B S bd w w'/\
  (∀(b:Nat) x,aR J' b=some x->(bc b).2≠0->B (bc b).1\/w.heap.size<=(bc b).1)/\∀b,b<kk->bc b=φ b:=by
  intro w' dY aA;refine⟨_,.a6 [],φ,S,_,kk,rfl,⟨rfl,rfl,rfl⟩,.a6 [] [] rfl (by simp),rfl,aA,λb x l=>?_,dY,λb x l o=>?_,λ_ _=>rfl⟩
  . rw[cR]at l;split at l
    . rename_i o;cases l;subst o;exact⟨ay,rfl⟩
    grind
  grind[cR]
 by_cases K:(φ 0).2=0
 ·
  have aq:d=[]:=lb (by omega);subst aq;refine(aH a _ _ w).mono ?_
  rintro e w' ⟨rfl,rfl⟩
  have he:(F ([]:List α).toArray).toList.map m=([]:List α).map m:=by grind
  refine X _ Ext.refl ?_;rw[he];refine⟨λb x l=>?_,λb D x y l R=>?_,q.st⟩
  . rw[cR]at l;split at l
    . rename_i o;cases l;subst o;exact q.blk _ _ h0
    . exact q.blk b x l
  . have key:∀b x,aR (c7 J 0 (.arr k (([]:List α).map m))) b=some x->∃A,aR J b=some A:=by
     intro b x l;rw[cR]at l;grind
    obtain⟨A,O⟩:=key b x l;obtain⟨W,U⟩:=key D y R;exact q.inj b D A W O U
 . obtain⟨vs,E,aa,ai,ao,ae⟩:=an K;rw[al K];have ag:∀(i j:Nat) (t:T) (x:α),d[i]?=some x->(m x)[j]?=some t->∃v,vs[i*k+j]?=some v/\bM w S t v/\(enc x)[j]?=some v:=by
    intro i j t x s u;obtain⟨v,z,af⟩:=ao i j (m x) t (by rw[qP,s];rfl) u;grind
   have Y:(φ 0).1<w.heap.size:=(by grind);have ak:HoldsK enc k w (φ 0).1 (0*k) d.toArray:=by
    intro j u;rw[size_flatK]at u;have aw:j<d.length*k:=(by simpa using u);have s:j/k<d.length:=(Nat.div_lt_iff_lt_mul I).2 aw;have G:j%k<k:=Nat.mod_lt _ I;have l:d[j/k]?=some d[j/k]:=eF s;have aC:j%k<(m d[j/k]).length:=by rw[L];exact G
    obtain⟨v,z,_,he⟩:=ag (j/k) (j%k) _ _ l (eF aC);have ax:j/k*k+j%k=j:=by rw[Nat.mul_comm];exact Nat.div_add_mod j k
    rw[ax]at z;refine⟨?_,by simp[World.frozen?,aa]⟩;rw[AA,hx,iH aa,z,get_flatK _ _ _ _ u];grind
   have az:d.toArray.size<4611686018427387904:=by
    have:dm=281474976710656:=rfl;simp;omega
   refine(ap (φ 0).1 (0*k) _ d.toArray w ak Y az).mono ?_
   rintro e w' ⟨rfl,n,os,rfl⟩
   have M:∀b:Nat,b<w.heap.size->b≠(φ 0).1->(sortWorldK enc k w (φ 0).1 (0*k) n (F d.toArray) os).heap[b]?=w.heap[b]?:=by
    intro b o aF;unfold sortWorldK putRowK putRow;rw[heap_grow_old _ _ (by simpa[mapBlock,Go.Sort.ahead]using o),Sp _ _ _ aF];rfl
   have aG:(sortWorldK enc k w (φ 0).1 (0*k) n (F d.toArray) os).heap[(φ 0).1]?=some (.cells (putCells id (0*k) (flatK enc k (F d.toArray)) vs.toArray).toList.toArray E (0,0)):=by
    unfold sortWorldK putRowK putRow;rw[heap_grow_old _ _ (by simpa[mapBlock,Go.Sort.ahead]using Y),Tm (Go.Sort.ahead w n) _ _ (by exact aa)]
   have G:gq w S _ S:=⟨λ_ _ h=>h,λb j h=>p5 (M b (q.st b j h) (λe=>ae j (e▸h))) j⟩
   refine X _ ⟨rfl,rfl,rfl,?_,λb o di=>M b o (λe=>di (e▸aI 0 _ h0 K)),G,λ_ _ h=>.inl h⟩ ⟨λb x l=>?_,λb D x y l R=>?_,λb j h=>?_⟩
   . unfold sortWorldK putRowK putRow;simp[grow,mapBlock,Go.Sort.ahead]
   . rw[cR]at l;split at l
     . rename_i o;cases l;subst o;refine⟨by simpa[ah]using ad,by simpa[ah]using ab,λe he=>?_,I,λ_=>⟨_,E,aG,by simpa[putCells]using ai,λi j e t s u=>?_,ae⟩⟩
       . obtain⟨x,_,rfl⟩:=fT.1 he;exact L x
       . rw[qP]at s;cases Q:(F d.toArray).toList[i]? with
         |none=>rw[Q]at s;cases s
         |some x=>
          rw[Q]at s;have:e=m x:=(qO s).symm;subst this;have l:x∈d:=(by simpa using aD x (e7 Q));obtain⟨aL,au,ar⟩:=jf l;obtain⟨v,z,af,he⟩:=ag aL j t x (by rw[eF au,ar]) u;refine⟨v,?_,bM.mono G af⟩;have aO:j<k:=by rw[<-L x];exact(dV.1 u).1
          have av:i<(F d.toArray).size:=(by grind);have aE:i*k+j<(F d.toArray).size*k:=by
           have:=eV k (show i+1<=(F d.toArray).size from av);grind
          have aB:i*k+j<vs.length:=by
           rw[ai];refine jg aE (eV k ?_);grind
          have d1:(i*k+j)/k=i:=(blk_iff k i _ I).1 ⟨by omega,by omega⟩;have d2:(i*k+j)%k=j:=by rw[Nat.mod_eq_sub_div_mul,d1];omega
          have aK:(F d.toArray)[i]! =x:=(by grind);have:(putCells id (0*k) (flatK enc k (F d.toArray)) vs.toArray).toList[i*k+j]?=some ((flatK enc k (F d.toArray))[i*k+j]!):=by
           rw[DQ];simp only[putCells,Array.getElem?_mapIdx];rw[show vs.toArray[i*k+j]?=some vs[i*k+j] by simp[aB]];simp[size_flatK,aE]
          rw[this,get_flatK _ _ _ _ aE,d1,d2,aK,List.getElem!_eq_getElem?_getD,he];rfl
     . rename_i o;have am:b≠0:=λe=>o (by simp[e]);refine cP.mono (n:=λ_=>true) G (λ_ _=>rfl) rfl (by cases x<;>simp[bP.ay,C.mc]) (λZ=>M _ ((q.blk b x l).jk Z) (q.inj b 0 x _ l h0 am Z K)) (q.blk b x l)
   . have key:∀b x,aR (c7 J 0 (.arr k ((F d.toArray).toList.map m))) b=some x->∃A,aR J b=some A:=by
      intro b x l;rw[cR]at l;grind
     obtain⟨A,O⟩:=key b x l;obtain⟨W,U⟩:=key D y R;exact q.inj b D A W O U
   . have:=q.st b j h;unfold sortWorldK putRowK putRow;simp[grow,mapBlock,Go.Sort.ahead];omega
def kK(lt:α->α->Bool)(l:List α):List α:=(pdq lt l.toArray 0 l.length (Lib.bitLen l.length) true true).toList
theorem E8{lt:α->α->Bool}(a:SWO lt)(l:List α):(kK lt l).Perm l:=by
 obtain⟨⟨hs,_,aj⟩,_⟩:=pdq_sorts lt a l.toArray 0 l.length (Lib.bitLen l.length) true true (jJ _) (by simp) (Or.inl rfl);grind[Array.extract_size,kK]
theorem UQ{lt:α->α->Bool}(a:SWO lt)(l:List α):(kK lt l).length=l.length:=(E8 a l).length_eq
theorem UR{lt:α->α->Bool}(a:SWO lt)(l:List α):(kK lt l).Pairwise λx y=>lt y x=false:=by
 obtain⟨⟨hs,_,_⟩,aA⟩:=pdq_sorts lt a l.toArray 0 l.length (Lib.bitLen l.length) true true (jJ _) (by simp) (Or.inl rfl);have e:=UQ a l;rw[yf];intro i j c d b;have:=aA i j (jJ _) b (by grind);grind[kK]
def Ep(U:cE)(f n g:Nat)(F:List (U.D n)->List (U.D n)):cw U:=
 ⟨f,[.c (.arr 0),.c (.fn g [])],[.arr (.nm n)],[.slice (.nm n)],.a6 [],[.arr (.nm n)],[.slice (.nm n)],λ(l:List (U.D n))=>some (F l)⟩
theorem Zi{n g:Nat}[Inhabited (U.D n)](enc:U.D n->List Value)(lt:U.D n->U.D n->Bool)(E:SWO lt)(K:∀x,(enc x).length=(aF.nm n).sz U)
 (F:∀(w:World) (S:c0) (x:U.D n) (j:Nat) (t:T) (v:Value),((aF.nm n).enc U x)[j]?=some t->bM w S t v->(enc x)[j]?=some v)
 (I:∀(blk off cap:Nat) (d:Array (U.D n)) (w:World),HoldsK enc ((aF.nm n).sz U) w blk off d->blk<w.heap.size->d.size<4611686018427387904->
  Calls P f #[.slice (some ⟨blk,off,none⟩) d.size cap,.func (.func g) #[] #[]] w λe w'=>e= .returned (.tuple #[])/\∃N os,w'=sortWorldK enc ((aF.nm n).sz U) w blk off N (pdq lt d 0 d.size (Lib.bitLen d.size) true true) os)
 (L:∀(p:Option Addr) (cap:Nat) (z:Value) (w:World),Calls P f #[.slice p 0 cap,z] w λe w'=>e= .returned (.tuple #[])/\w'=w):
 hn P (Ep U f n g (kK lt)):=by
 intro l r bI Q J1 a aA;have M:=(qO bI).symm;subst M;cases a with|cons a c=>
 cases c with|cons c G=>
 cases G;obtain⟨sz,m,rfl,_,J⟩:=bN.g' a;have:=bN.Dt c;subst this;have u:Shv.aT ((Ep U f n g _).ia l) 0=some _:=rfl;have o:=J _ u _ rfl;obtain⟨_,V,A,b0⟩:=aA 0 _ u;cases b0;have aK:=(dK Prod.fst o).symm;have y:=(dK Prod.snd o).symm;subst aK;subst y;have s:∀d:Array _,(kK lt d.toList).Perm d.toList:=λd=>E8 E d.toList
 refine(Yh enc _ (λd=>(kK lt d.toList).toArray) K (λx=>aF.rq) aF.vJ F
  (λd=>⟨by simpa using(s d).length_eq,λx i=>(s d).mem_iff.1 (by grind)⟩) (λblk off cap d w h1 B C=>?_) L A Nat.one_pos).mono ?_
 . have:=I blk off cap d w h1 B C;simpa[kK]using this
 . rintro R s1 O ⟨rfl,rfl,rfl⟩
   refine⟨rfl,.a6 [] [] rfl (by simp),λb x i=>?_⟩;generalize kK lt l=q at i⊢;have k:(if b=0 then some (cI.arr (.nm n) q)else none)=some x:=by
    rw[<-i];cases b<;>rfl
   split at k
   . rename_i H;cases k;subst H;refine⟨Nat.one_pos,_,?_,.arr (.nm n) q⟩;rw[cR];rfl
   . cases k
theorem WI(w:World)(S:c0)(i:Int)(s:ao)(j:Nat)(t:T)(v:Value)(h:[T.int .i64 i,T.str s][j]?=some t)(a:bM w S t v):[Value.int .i64 i,Value.string ⟨s.toArray⟩][j]?=some v:=by
 match j,h with
 |0,h=>cases h;cases a;rfl
 |1,h=>cases h;cases a;rfl
theorem aap(key:α->Int):SWO (λx y=>decide (key x<key y)) where
 irrefl x:=by simp
 trans x y z h1 a:=by grind
 ntrans x y z h1 a:=by grind
end
section
open Go Go.Proofs Go.Proofs.YtkbmjabicjpmjaaGreatDoor Go.Sort
def kQ{α:Type}(a b:Option α):Prop:=∀r,a=some r->b=some r
theorem kQ.r{α:Type}{a:Option α}:kQ a a:=λ_ h=>h
theorem kQ.n{α:Type}{a:Option α}:kQ none a:=λ_ h=>by grind
theorem kQ.b{α g:Type}{a b:Option α}{k c:α->Option g}(h:kQ a b)(e:∀x,kQ (k x) (c x)):kQ (a>>=k) (b>>=c):=by
 intro r f;cases a with
 |none=>grind
 |some x=>rw[h x rfl];exact e x r f
theorem kQ.i{α:Type}{p:Prop}[Decidable p]{a b c d:Option α}(h:kQ a c)(k:kQ b d):kQ (if p then a else b) (if p then c else d):=by grind
variable {α:Type}[Inhabited α]
def nM(lt:α->α->Bool)(x:α):List α->List α
 |[]=>[x]
 |y::r=>if lt x y then x::y::r else y::nM lt x r
def gR(lt:α->α->Bool):List α->List α
 |[]=>[]
 |x::r=>nM lt x (gR lt r)
def j1(lt:α->α->Bool):List α->Bool
 |[]=>true
 |x::r=>r.all (λy=>lt x y||lt y x)&&j1 lt r
theorem GH(lt:α->α->Bool)(x:α):∀l,(nM lt x l).Perm (x::l)
 |[]=>.refl _
 |y::r=>by
  simp[nM];split
  . rfl
  . exact((GH lt x r).cons y).trans (.swap x y r)
theorem mn(lt:α->α->Bool):∀l,(gR lt l).Perm l
 |[]=>.refl _
 |x::r=>(GH lt x _).trans ((mn lt r).cons x)
theorem P7{lt:α->α->Bool}(b:SWO lt)(x:α):∀{l:List α},l.Pairwise (λx y=>lt y x=false)->(nM lt x l).Pairwise λx y=>lt y x=false
 |[],_=>by simp[nM]
 |y::r,h=>by
  rw[ka]at h;simp[nM];split
  . rename_i d;have e:lt y x=false:=by
     cases c:lt y x with
     |false=>rfl
     |true=>have:=b.trans _ _ _ d c;rw[b.irrefl]at this;grind
    rw[ka];refine⟨λz a=>?_,ka.2 h⟩;rcases e2.1 a with rfl|a
    . grind
    . exact b.ntrans _ _ _ (h.1 z a) e
  . rw[ka];refine⟨λz a=>?_,P7 b x h.2⟩;rcases e2.1 ((GH lt x r).mem_iff.1 a)with rfl|a
    . grind
    grind
theorem B2{lt:α->α->Bool}(a:SWO lt):∀l:List α,(gR lt l).Pairwise λx y=>lt y x=false
 |[]=>.nil
 |x::r=>P7 a x (B2 a r)
theorem Q'{lt:α->α->Bool}:∀{l:List α},j1 lt l=true->∀a b,a∈l->b∈l->a=b\/lt a b=true\/lt b a=true
 |x::r,h,a,b,c,e=>by
  simp[j1]at h;rcases e2.1 c with g|d<;>rcases e2.1 e with i|f
  . grind
  . grind
  . grind
  . exact Q' h.2 a b d f
theorem P8{lt:α->α->Bool}{l:List α}(aj:j1 lt l=true):∀{a b:List α},a.Perm l->b.Perm l->a.Pairwise (λx y=>lt y x=false)->b.Pairwise (λx y=>lt y x=false)->a=b:=by
 intro a b d e h1 c;refine List.Perm.eq_of_pairwise (λx y i j f g=>?_) h1 c (d.trans e.symm);grind[Q']
theorem KN{lt:α->α->Bool}(a:SWO lt){l:List α}(aj:j1 lt l=true):kK lt l=gR lt l:=
 P8 aj (E8 a l) (mn lt l) (UR a l) (B2 a l)
def Eo(lt:α->α->Bool)(l:List α):Option (List α):=if j1 lt l then some (gR lt l)else none
theorem Zj{lt:α->α->Bool}(a:SWO lt)(l:List α):kQ (Eo lt l) (some (kK lt l)):=by
 intro r h;grind[Eo,KN]
end
section
open Go
def d'(x:Int×Int):Value:= .agg #[.int .i64 x.1,.int .i64 x.2]
structure mT (P:Program)(mt:TypeId):Prop where
 ex:∃fK O3 it i O1,P.underlying mt=some (.map fK O3)/\P.underlying fK=some (.array 2 it)/\P.underlying it=some (.int .i64)/\P.info? it=some i/\i.size=1/\P.info? O3=some O1/\O1.zero=some (.bool false)
def hY(ks:List (Int×Int))(x:Int×Int):Bool:=ks.any λk=>decide (k=x)
def mV(ks:List (Int×Int))(x:Int×Int):List (Int×Int):=if hY ks x then ks else ks++[x]
def iT:List (Int×Int)->List MapEntry->Prop:=aX λk e=>e.key=d' k/\e.val= .bool true
def nv(es:List MapEntry)(ct:Nat):Prop:=(∀e,e∈es->e.born<ct)/\(es.map (·.born)).Nodup
variable{ks:List (Int×Int)}{mt:TypeId}{ct:Nat}{es:Array MapEntry}
section
variable {P:Program}{w:World}{fK it:TypeId}{i:TypeInfo}
theorem WJ(a:P.underlying it=some (.int .i64))(w:World):(Go.isAgg it).run P w= .ok false w:=by
 simp[Go.isAgg,underlying,a]
theorem Zk(n:P.underlying fK=some (.array 2 it))(l:P.underlying it=some (.int .i64))(f:P.info? it=some i)(hs:i.size=1)(x y:Int×Int)(w:World):
 (Op.equal fK (d' x) (d' y)).run P w= .ok (decide (x=y)) w:=by
 obtain⟨d,k⟩:∃d,Op.maxDepth=d+2:=⟨9998,rfl⟩
 have j:P.cellsOf it=1:=by simp[Program.cellsOf,f,hs]
 have o:pf P it=some 1:=by simp[pf,l]
 unfold Op.equal;rw[k];unfold d';rw[run_equalIn_array w (d+1) _ _ n f,j,List.range_eq_range'];have:=EO (P:=P) (φ:=λ_=>(0,0)) (S:=λ_ _=>False) (w:=w) (d:=d) o (xs:=#[.int .i64 x.1,.int .i64 x.2]) (ys:=#[.int .i64 y.1,.int .i64 y.2]) (m:=2) (i:=0)
  (ps:=[.t (.int .i64 x.1),.t (.int .i64 x.2)]) (qs:=[.t (.int .i64 y.1),.t (.int .i64 y.2)]) (us:=[.int .i64 x.1,.int .i64 x.2]) (vs:=[.int .i64 y.1,.int .i64 y.2]) (r:=decide (x=y))
  (by
   obtain⟨a,b⟩:=x;obtain⟨c,e⟩:=y;simp only[List.replicate,k',wE,b7,aq,lW,dP,ef]
   by_cases h1:a=c<;>by_cases g:b=e<;>simp[h1,g])
  (.cons (bM.int _ _) (.cons (bM.int _ _) .nil)) (.cons (bM.int _ _) (.cons (bM.int _ _) .nil)) rfl rfl
 exact this
theorem B3(e:P.underlying fK=some (.array 2 it))(a:P.underlying it=some (.int .i64))(d:P.info? it=some i)(hs:i.size=1)(b:Bool)(x:Int×Int)(w:World):
 (Instr.checkKey b 10000 fK (d' x)).run P w= .ok () w:=by
 have f:∀w,(sizeOf it).run P w= .ok 1 w:=λw=>by simp[sizeOf,typeInfo,d,hs]
 have c:∀v w,(Instr.checkKey b 9999 it v).run P w= .ok () w:=λv w=>by
  unfold Instr.checkKey;simp[run_underlying a]
 unfold Instr.checkKey;simp only[Sem.run_bind,run_underlying e,Result.andThen_ok,d'];simp[Std.Legacy.Range.forIn_eq_forIn_range',Std.Legacy.Range.size,List.range',f,part,WJ a,c]
theorem Pe(f:P.underlying fK=some (.array 2 it))(c:P.underlying it=some (.int .i64))(d:P.info? it=some i)(hs:i.size=1)(x:Int×Int)(w:World):∀{ks:List (Int×Int)} {es:List MapEntry} (n:Nat),iT ks es->
 (hY ks x=false/\(Instr.findAsking fK (d' x) es n).run P w= .ok none w)\/
 (hY ks x=true/\∃j e,(Instr.findAsking fK (d' x) es n).run P w= .ok (some (n+j,.bool true)) w/\es[j]?=some e/\e.key=d' x/\e.val= .bool true)
 |_,_,n,.nil=>.inl ⟨rfl,by simp[Instr.findAsking]⟩
 |k::ks,e::es,n,.cons h m=>by
  obtain⟨h1,b⟩:=h;have he:(Op.equal fK (d' x) e.key).run P w= .ok (decide (x=k)) w:=by rw[h1];exact Zk f c d hs x k w
  by_cases a:x=k
  . subst a;exact .inr ⟨by simp[hY],0,e,by simp[Instr.findAsking,he,b],rfl,h1,b⟩
  . rcases Pe f c d hs x w (n+1) m with⟨g1,g2⟩|⟨g1,j,g,g2,g3,g4,l⟩
    . refine .inl ⟨?_,by simp[Instr.findAsking,he,a,g2]⟩;unfold hY at g1⊢;simp[g1,dx a]
    . refine .inr ⟨?_,j+1,g,?_,by simpa using g3,g4,l⟩
      . unfold hY at g1⊢;simp only[List.any_cons,g1,AB]
      . simp only[Instr.findAsking,Sem.run_bind,he,a,dF,Result.andThen_ok,ca,b4,g2];rw[show n+1+j=n+(j+1) by omega]
theorem Ra(a:P.underlying fK=some (.array 2 it))(b:P.underlying it=some (.int .i64))(c:P.info? it=some i)(hs:i.size=1)(x:Int×Int)(w:World){es:List MapEntry}(h:iT ks es):
 (hY ks x=false/\(Instr.findKey fK (d' x) es).run P w= .ok none w)\/
 (hY ks x=true/\∃j e,(Instr.findKey fK (d' x) es).run P w= .ok (some (j,.bool true)) w/\es[j]?=some e/\e.key=d' x/\e.val= .bool true):=by
 cases h with
 |nil=>exact .inl ⟨rfl,by simp[Instr.findKey,run_underlying a,Instr.findNow]⟩
 | @cons k e ks es h1 d=>
  have aP:Instr.findNow (.array 2 it) (d' x) (e::es) 0=none:=by
   simp[Instr.findNow,Instr.sameNow]
  have:=Pe a b c hs x w 0 (.cons h1 d);simp only[hx]at this;have aK:(Instr.findKey fK (d' x) (e::es)).run P w=(Instr.findAsking fK (d' x) (e::es) 0).run P w:=by
   simp[Instr.findKey,run_underlying a,aP]
  rw[aK];exact this
theorem XL(f:mT P mt){r:Nat}(aa:w.heap[r]?=some (.map es ct))(h:iT ks es.toList)(x:Int×Int):
 (Instr.lookup mt (.map (some r)) (d' x) false).run P w= .ok (.bool (hY ks x)) w:=by
 obtain⟨fK,k,it,i,n,d,c,a,b,hs,l,m⟩:=f.ex;have g:(zeroValue k).run P w= .ok (.bool false) w:=by simp_all [zeroValue,typeInfo]
 rcases Ra c a b hs x w h with⟨g1,g2⟩|⟨g1,j,e,g2,_⟩
 . simp[Instr.lookup,run_underlying d,qe aa,B3 c a b hs,g2,g,g1]
 . simp[Instr.lookup,run_underlying d,qe aa,B3 c a b hs,g2,g1]
theorem XM(v:mT P mt){r:Nat}(aa:w.heap[r]?=some (.map es ct))(h:iT ks es.toList)(b:nv es.toList ct)(x:Int×Int):
 ∃f m,(Instr.mapUpdate mt (.map (some r)) (d' x) (.bool true)).run P w= .ok () {w with heap:=w.heap.setIfInBounds r (.map f m)}/\iT (mV ks x) f.toList/\nv f.toList m:=by
 obtain⟨fK,F,it,i,E,p,l,g,k,hs,B,C⟩:=v.ex;rcases Ra l g k hs x w h with⟨g1,g2⟩|⟨g1,j,e,g2,g3,g4,z⟩
 . refine⟨es.push {key:=d' x,val:= .bool true,born:=ct},ct+1,?_,?_,?_,?_⟩
   . simp[Instr.mapUpdate,run_underlying p,qe aa,B3 l g k hs,g2,Bz _ aa]
   . simp only[mV,g1,ca,b4,D1];exact h.append (.cons ⟨rfl,rfl⟩ .nil)
   . intro e he;simp only[D1,hP,pn]at he;rcases he with he|rfl
     . have:=b.1 e he;omega
     . exact Nat.lt_succ_self _
   . simp only[D1,vz,kd,pt];rw[List.nodup_append];refine⟨b.2,by simp,?_⟩;intro a s c o;simp at o;subst o;obtain⟨e,he,rfl⟩:=fT.1 s;have:=b.1 e he;omega
 . refine⟨es.modify j λe=>{e with key:=d' x,val:= .bool true},ct,?_,?_,?_,?_⟩
   . have y:Instr.sameBits 10000 (d' x) (d' x)=true:=(by simp[d',Instr.sameBits]);have u:∀w,(Instr.keyThatStays (d' x) (d' x)).run P w= .ok (d' x) w:=by intro w;unfold Instr.keyThatStays;rw[y];rfl
     simp[Instr.mapUpdate,run_underlying p,qe aa,B3 l g k hs,g2,Bz _ aa,g4,u,show es[j]?=some e by simpa using g3]
   . simp only[mV,g1,b7];rw[Au];refine aX.modify h λD q t d=>?_;rw[g3]at d;cases d;exact⟨by rw[<-g4];exact t.1,rfl⟩
   . intro q d;rw[Au]at d;obtain⟨n,aP,rfl⟩:=DV.1 d;rw[List.length_modify]at aP;have:=b.1 es.toList[n] (x6 aP);rw[List.getElem_modify];split
     . exact this
     . exact this
   . have:(es.modify j λe=>{e with key:=d' x,val:= .bool true}).toList.map (·.born)=es.toList.map (·.born):=by
      rw[Au];refine D2 (by simp) λn h1 A=>?_;simp only[List.getElem_map,List.getElem_modify];split<;>rfl
     rw[this];exact b.2
end
end
section
open Go Go.Proofs Go.Proofs.YtkbmjabicjpmjaaGreatDoor Go.Shelf Go.RowKit
variable {U:cE}
def tE(i:Nat):ao:=if i<10 then[UInt8.ofNat (48+i)]else[UInt8.ofNat (48+i/10),UInt8.ofNat (48+i%10)]
def Dz(i:Int):Option ao:=if(0<=i:Bool)&&(i<100:Bool)then some (tE i.toNat)else none
theorem aaq{i:Nat}(h:i<100):Lib.decDigits i=tE i:=by
 unfold tE Lib.decDigits;split
 . rfl
 . rw[Lib.decDigits,dif_pos (by omega)];rfl
def N8(U:cE)(f:Nat):cw U:=⟨f,[.c (.hole (.int .i64))],[],[.int .i64],.c (.hole .str),[],[.str],λ(a:Int)=>Dz a⟩
section
variable {P:Program}{ρ:Ren}
theorem Zl(L:Lays.n171 P ρ){i:Nat}{J:aZ}(g:i<100):
 eb P (ρ.f 171) [.c (.t (.int .i64 (i:Int)))] J 0 (λr J' N'=>r= .c (.t (.str (tE i)))/\J'=[]/\N'=0):=by
 intro φ S w B l p o n vs d;cases d with|cons a d=>
 cases d;cases a with|c a=>
 cases a;refine(Any.strconv_Itoa_small L i g w).mono ?_
 rintro e w' ⟨rfl,rfl⟩
 refine⟨_,.c _,φ,S,[],0,rfl,⟨rfl,rfl,rfl⟩,.c ?_,rfl,⟨λb x h=>by grind[aR],λb m x y h=>by grind[aR],λk j h=>l.st k j h⟩,λb x h=>by grind[aR],Ext.refl,λb x h=>by grind[aR],λ_ _=>rfl⟩;rw[aaq g]
 have:=bM.str (w:=w') (S:=S) _ (by
  show(tE i).toArray.size<=eo;rw[List.size_toArray];have:2<=eo:=by decide
  unfold tE
  split<;>simp<;>omega)
 exact this
theorem Zm(L:Lays.n171 P ρ)(i:ρ.f 171=f):hn P (N8 U f):=by
 subst i;intro(a:Int) r bI l J1 e aA;have d:Dz a=some r:=bI;unfold Dz at d;split at d
 . rename_i g;simp at g;obtain⟨h0,h1⟩:=g;cases d;cases e with|cons a1 e=>
   cases e;have aK:=bN.fp a1;subst aK;obtain⟨n,rfl⟩:∃n:Nat,a=n:=⟨a.toNat,by omega⟩
   refine(Zl L (by omega)).mono ?_
   rintro m s1 k ⟨rfl,rfl,rfl⟩
   exact⟨rfl,.c (.t _),λb x j=>by cases j⟩
 grind
end
end
section
open Go
variable {U:cE}{P:Program}{nt:Nat}{av:Ctx}
variable{vs:List Value}{code:Code}{c:Cell U.D}{f q:Nat}{w:World}{Q:Exit->Act->World->Prop}{v:Value}{E:TypeId}{x y:Operand}{p:Int×Int}{seen:Array Nat}
section
variable {φ bc:cZ}{S bd:c0}{env env':Env}{J J':aZ}{n cF:Nat->Bool}{N k:Nat}{a bX:Act}{w w':World}
def Ctx.nS(w:World)(S:c0)(φ:cZ)(J:aZ)(k:Nat):Ctx:=⟨w,S,λb=>∃c x,aR J c=some x/\(φ c).2≠0/\b=(φ c).1,φ,k⟩
theorem Rel.nS(R:Rel av nt φ S env J (lt N) a w)(f:k<=N):Rel (Ctx.nS w S φ J k) nt φ S env J (lt N) a w:=
 ⟨R.bD,R.fZ,R.gN,R.fY,R.dG,R.size,R.defers,Ext.refl,λb x e h0=>.inl ⟨b,x,e,h0,rfl⟩,λ_ _=>rfl,λb c=>by
  have:b<k:=c
  simp[lt];omega⟩
theorem Rel.un(R:Rel av nt φ S env J n a w)(R':Rel (Ctx.nS w S φ J k) nt bc bd env' J' cF bX w')(o:av.k<=k):Rel av nt bc bd env' J' cF bX w':=by
 have e:=R'.ext;have own:∀b,(Ctx.nS w S φ J k).B b->av.B b\/av.kN.heap.size<=b:=λb ⟨c,x,g,h0,f⟩=>f▸R.own c x g h0;refine⟨R'.bD,R'.fZ,R'.gN,R'.fY,R'.dG,R'.size,R'.defers,⟨e.os.trans R.ext.os,e.tape.trans R.ext.tape,e.output.trans R.ext.output,gz R.ext.size e.size,λb aE di=>?_,R.ext.mono.trans e.mono,λb j p=>?_⟩,λb x g h0=>?_,λb f=>?_,λb f=>R'.gy b (jg f o)⟩
 . refine(e.block b (jg aE R.ext.size) λh=>?_).trans (R.ext.block b aE di);rcases own b h with h|h
   . exact di h
   . omega
 . rcases e.lj b j p with h|h|h
   . exact R.ext.lj b j h
   . exact .inr (own b h)
   . exact .inr (.inr (gz R.ext.size h))
 . rcases R'.own b x g h0 with h|h
   . exact own _ h
   . exact .inr (gz R.ext.size h)
 . exact(R'.fix b (jg f o)).trans (R.fix b f)
theorem Rel.enter{args:List V}(f:aX (bW φ w S) args vs)(e:V.ay.V.dw (lt N) args=true)(p:∀b j,S b j->b<w.heap.size)(aP:args.length<=nt):
 Rel ⟨w,S,λ_=>False,φ,0⟩ nt φ S (fm 0 args) [] (lt N) {tmps:=vs.toArray++Array.replicate (nt-vs.toArray.size) undef,defers:=[]} w:=by
 have ad:=f.length;refine⟨⟨λb x a=>by simp[aR]at a,λb q x y a=>by simp[aR]at a,p⟩,λi g v c ak=>?_,λi g v c ak=>?_,λi g v c ak=>?_,λb x a=>by simp[aR]at a,?_,rfl,Ext.refl,λb x a=>by simp[aR]at a,λ_ _=>rfl,λb e=>absurd e (Ax _)⟩
 . obtain⟨_,j,rfl,o⟩:=sF c;obtain⟨x,a,t⟩:=f.get o;grind
 . grind[sF]
 . grind[sF,mo]
 . grind
end
abbrev v8(U:cE):=bK U×a7 U×Nat
structure cy (av:Ctx)(nt:Nat)(gs:aW)(s:v8 U)(φ:cZ)(S:c0)(a:Act)(w:World):Prop where
 ex:∃env1 J1,cN s.2.2 s.2.1 (λ_=>true) s.1 env1/\cm s.2.2 s.2.1 J1/\Rel av nt φ S env1 J1 (lt s.2.2) a w/\∀b x,aR J1 b=some x->(φ b).2≠0->(φ b).1 ∉ gs
 ea:∀g,g∈gs->g<w.heap.size/\∀j,¬S g j
section
variable {φ:cZ}{S bd:c0}{gs:aW}{s:v8 U}{pC:bK U}{xs:a7 U}{N kk:Nat}{a:Act}{w w':World}
structure q' (gs:aW)(kk:Nat)(φ:cZ)(w:World)(bc:cZ)(w':World):Prop where
 fix:∀b,b<kk->bc b=φ b
 aj:∀g,g∈gs->w'.heap[g]?=w.heap[g]?
theorem cy.next {bc:cZ}{env1 f:Env}{J1 bj:aZ}{bX:Act}{s':v8 U}(ea:∀g,g∈gs->g<w.heap.size/\∀j,¬S g j)(R:Rel av nt φ S env1 J1 (lt N) a w)(ak:∀b x,aR J1 b=some x->(φ b).2≠0->(φ b).1 ∉ gs)
 (R':Rel (Ctx.nS w S φ J1 kk) nt bc bd f bj (lt s'.2.2) bX w')(y:av.k<=kk)(he:cN s'.2.2 s'.2.1 (λ_=>true) s'.1 f)(aA:cm s'.2.2 s'.2.1 bj):cy av nt gs s' bc bd bX w'/\q' gs kk φ w bc w':=by
 have p:∀g,g∈gs->¬(Ctx.nS w S φ J1 kk).B g:=λg h ⟨c,x,o,h0,t⟩=>ak c x o h0 (t▸h);refine⟨⟨⟨f,bj,he,aA,R.un R' y,λb x o h0 q=>?_⟩,λg h=>⟨jg (ea g h).1 R'.ext.size,λj v=>?_⟩⟩,R'.fix,λg h=>R'.ext.block g (ea g h).1 (p g h)⟩
 . rcases R'.own b x o h0 with h|h
   . exact p _ q h
   . exact absurd (ea _ q).1 (Nat.not_lt.2 h)
 . rcases R'.ext.lj g j v with e|e|e
   . exact(ea g h).2 j e
   . exact p g h e
   . exact absurd (ea g h).1 (Nat.not_lt.2 e)
theorem cy.piece(T:cy av nt gs s φ S a w){fo:fA U}(t:fB P fo){ac:dv}(q:resolve P nt code=some ac)(g:kk<=s.2.2)(v:av.k<=kk){outs:List iB}{o:ej U outs}
 (x:kj fo (λ_=>none) kk ac 0 s.1 s.2.1 s.2.2 (nR kk outs)=some o):
 code.wp P (λe bX w'=>e=(fi outs o).1/\∃bc bd,cy av nt gs (fi outs o).2 bc bd bX w'/\q' gs kk φ w bc w') a w:=by
 obtain⟨⟨env1,J1,he,aA,R,ak⟩,ea⟩:=T
 have h:=ck.OX (p' (nt:=nt) (Q:=ra kk λe env J N=>e=(fi outs o).1/\N=(fi outs o).2.2.2/\cN N (fi outs o).2.2.1 (λ_=>true) (fi outs o).2.1 env/\cm N (fi outs o).2.2.1 J) t gp.none x he aA g ra.Mp λe env' J' N' j bj h1 c f p=>by
  obtain⟨aK,s1,c1,c2,c3,c4,c5⟩:=l8.Ot.D7 h1 c f p
  exact⟨_,aK,s1,c1,c5,rfl,c2,c3⟩) _ q _ φ S a w rfl (R.nS g)
 refine wp_mono h ?_
 rintro e bX w' ⟨bc,bd,j,bj,N',⟨h1,rfl,c,f⟩,R'⟩
 exact⟨h1,bc,bd,cy.next ea R ak R' v c f⟩
theorem ID{kk:Nat}{av:Ctx}(g:av.k=kk){ops:Array Oper}{rest:aW}{Q:Exit->Act->World->Prop}{K:Env->aZ->Nat->Prop}:∀{l:List Oper} {aY:List bZ} {k N:Nat} {env:Env} {J:aZ} {φ:cZ} {S:c0} {a:Act} {w:World},gK P nt ops l=some aY->(∀i:Nat,i<l.length->l[i]?=ops[k+i]?)->
 Rel av nt φ S env J (lt N) a w->mW P kk aY N env J (λe s=>K e s (N+16*aY.length))->(∀φ S e s N a w,K e s N->Rel av nt φ S e s (lt N) a w->wpOps P ops Q rest a w)->wpOps P ops Q (List.range' k l.length++rest) a w
 |[],aY,k,N,env,J,φ,S,a,w,b,f,R,h,d=>by
  simp[gK]at b;subst b;exact d _ _ _ _ _ _ _ h R
 |o::l,aY,k,N,env,J,φ,S,a,w,b,f,R,h,d=>by
  simp[gK,bf,bu]at b;obtain⟨t,m,c,n,rfl⟩:=b;have u:ops[k]?=some o:=by have:=f 0 (by simp);grind
  rw[iP,x7,qQ,wpOps_cons];unfold wpOp;obtain⟨fm,r,p,q⟩:=h;obtain⟨v,v7,j⟩:=p av nt φ S a w g R;have hs:=Fh j m (K:=λe s=>mW P kk c (N+16) e s λe s=>K e s (N+16*(c.length+1))) q (Q:=Q);have next:∀bX w',jr av nt (ew (lt N) N) (λe s=>mW P kk c (N+16) e s λe s=>K e s (N+16*(c.length+1))) bX w'->wpOps P ops Q (List.range' (k+1) l.length++rest) bX w':=by
   rintro bX w' ⟨bc,bd,e,s,bJ,R'⟩
   refine ID g n (λi aE=>?_) (R'.more λ_ h=>Cl h) ?_ d
   . have:=f (i+1) (by grind);grind
   grind
  split at hs
  . grind[Oper.wp_mono]
  grind
theorem cy.ops (T:cy av nt gs s φ S a w){fo:fA U}(o:fB P fo){ops:Array Oper}{rest:aW}{Q:Exit->Act->World->Prop}(k:Nat){l:List Oper}{aY:List bZ}(v:gK P nt ops l=some aY)(p:∀i:Nat,i<l.length->l[i]?=ops[k+i]?)(t:kk<=s.2.2)(q:av.k<=kk)
 {sh:Shape}{ts:List aF}{h:aJ U.D ts}(x:nq fo none aY s.2.2 [] [] s.1 s.2.1 (λgl env J=>mP kk [] sh ts (sq gl env) J (s.2.2+16*aY.length))=some h)
 (j:∀bc bd bX w',cy av nt gs ((fh U sh (aJ.cells U.D ts h)).1,(fh U sh (aJ.cells U.D ts h)).2,sh.st.length) bc bd bX w'->q' gs kk φ w bc w'->wpOps P ops Q rest bX w'):wpOps P ops Q (List.range' k l.length++rest) a w:=by
 obtain⟨⟨env1,J1,he,aA,R,ak⟩,ea⟩:=T;refine ID (av:=Ctx.nS w S φ J1 kk) rfl (K:=λaK s1 N'=>∃env' J',N'=s.2.2+16*aY.length/\mP kk [] sh ts env' J' N'=some h/\cN N' J' (λ_=>true) env' aK/\cm N' J' s1) v p (R.nS t) (A4 o (eC.begin he aA) x λG H env' J' F bj A h1 c=>?_) ?_
 . exact⟨_,_,rfl,h1,c.clean,c.eJ⟩
 . rintro bc bd aK s1 N' bX w' ⟨env',J',rfl,h1,c,g⟩ R'
   obtain⟨E,L,c1,c2,c3,c4⟩:=uq h1 c g (by omega);obtain⟨M,B,e⟩:=c1 _ nt bc bd bX w' rfl R';obtain⟨f,y⟩:=cy.next (s':=((fh U sh (aJ.cells U.D ts h)).1,(fh U sh (aJ.cells U.D ts h)).2,sh.st.length)) ea R ak e q c2 c3;exact j _ _ _ _ f y
theorem cy.goto(T:cy av nt gs s φ S a w)(kk:Nat){sh:Shape}{ts:List aF}{h:aJ U.D ts}(j:mP kk [] sh ts s.1 s.2.1 s.2.2=some h)(c:Nat.ble kk s.2.2=true:=by rfl)(g:av.k<=kk:=by exact jJ _):
 ∃bc bd,cy av nt gs ((fh U sh (aJ.cells U.D ts h)).1,(fh U sh (aJ.cells U.D ts h)).2,sh.st.length) bc bd a w/\q' gs kk φ w bc w:=by
 obtain⟨⟨env1,J1,he,aA,R,ak⟩,ea⟩:=T;obtain⟨p,q,c1,c2,c3,c4⟩:=uq j he aA (hK c);obtain⟨o,f,e⟩:=c1 _ nt φ S a w rfl (R.nS (hK c));exact⟨o,f,cy.next (s':=((fh U sh (aJ.cells U.D ts h)).1,(fh U sh (aJ.cells U.D ts h)).2,sh.st.length)) ea R ak e g c2 c3⟩
theorem cy.slot(T:cy av nt gs s φ S a w){k:Nat}{v:bC U}(g:aT s.1 k=some v):∃x v1,a.tmps[k]?=some x/\bN s.2.2 s.2.1 v v1/\bW φ w S v1 x/\v1.ay (lt s.2.2)=true:=by
 obtain⟨⟨env1,J1,he,aA,R,ak⟩,ea⟩:=T;obtain⟨v1,h1,c⟩:=he k v g;obtain⟨x,e,f⟩:=R.fZ k _ v1 h1 rfl;exact⟨x,v1,e,c,f,R.fY k _ v1 h1 rfl⟩
theorem cy.ptr(T:cy av nt gs s φ S a w){k b o:Nat}(g:aT s.1 k=some (.c (.ptr b o))):a.tmps[k]?=some (.pointer (some ⟨(φ b).1,o,none⟩)):=by
 obtain⟨x,v1,h1,e,f,_⟩:=T.slot g;have:=e.gU;subst this;rw[h1,f.gU]
theorem cy.mp(T:cy av nt gs s φ S a w){k b:Nat}(g:aT s.1 k=some (.c (.mp b))):a.tmps[k]?=some (.map (some (φ b).1)):=by
 obtain⟨x,v1,h1,e,f,_⟩:=T.slot g;have:=e.Am;subst this;rw[h1,show x=_ from f.dT]
theorem cy.pair(T:cy av nt gs s φ S a w){k:Nat}{p q:Int}(g:aT s.1 k=some (.agg [.t ⟨.int .i64,p⟩,.t ⟨.int .i64,q⟩])):a.tmps[k]?=some (d' (p,q)):=by
 obtain⟨x,v1,h1,c,e,_⟩:=T.slot g;cases c with
 |agg c=>
  cases c with
  |cons g1 g2=>
   cases g2 with
   |cons g2 g3=>
    cases g1;cases g2;cases g3;obtain⟨vs,rfl,f⟩:=e.lu;cases f with
    |cons a1 a2=>
     cases a2 with
     |cons a2 a3=>
      cases a1;cases a2;cases a3;exact h1
theorem cy.cell(T:cy av nt gs s φ S a w){k:Nat}(g:aT s.1 k=some (.c (.t c))):∃x,a.tmps[k]?=some x/\bM w S (c.enc U) x:=by
 obtain⟨x,v1,h1,e,f,_⟩:=T.slot g;cases e with
 |c e=>cases e;exact⟨x,h1,f.dT⟩
theorem cy.bool(T:cy av nt gs s φ S a w){k:Nat}{b:Bool}(f:aT s.1 k=some (.c (.t ⟨.bool,b⟩))):a.tmps[k]?=some (.bool b):=by
 obtain⟨x,h1,e⟩:=T.cell f;rw[h1];cases e;rfl
theorem cy.int(T:cy av nt gs s φ S a w){k:Nat}{n:Int}(f:aT s.1 k=some (.c (.t ⟨.int .i64,n⟩))):a.tmps[k]?=some (.int .i64 n):=by
 obtain⟨x,h1,e⟩:=T.cell f;rw[h1];cases e;rfl
theorem cy.fn(T:cy av nt gs s φ S a w){k b:Nat}(j:aT s.1 k=some (.c (.fn f [b]))):a.tmps[k]?=some (.func (.func f) #[] #[.pointer (some ⟨(φ b).1,0,none⟩)]):=by
 obtain⟨x,v1,h1,e,g,_⟩:=T.slot j;cases e with
 |c e=>cases e;rw[h1,show x=_ from g.dT];rfl
theorem cy.len(T:cy av nt gs s φ S a w){k:Nat}{t:aF}{l:List (t.den U.D)}(f:aT s.1 k=some (.c (.t ⟨.slice t,l⟩))):l.length<=dm:=by
 obtain⟨x,h1,e⟩:=T.cell f;obtain⟨_,_,_,_,_,_,_,_,h,_⟩:=bM.jm e;simpa using h
theorem cy.box(T:cy av nt gs s φ S a w){b:Nat}{cs:List (bh U)}(j:aT s.2.1 b=some (.box cs)):
 ∃(vs:List Value) (E:TypeId) (e:List C),w.heap[(φ b).1]?=some (.cells vs.toArray E (0,0))/\aX (b8 s.2.2 s.2.1) cs e/\aX (bn φ w S) e vs:=by
 obtain⟨⟨env1,J1,he,aA,R,ak⟩,ea⟩:=T;obtain⟨_,y,h1,c⟩:=aA b _ j;cases c with
 |box c=>
  obtain⟨_,vs,E,f,g,_⟩:=R.bD.blk b _ h1;exact⟨vs,E,_,f,c,g⟩
theorem cy.put(T:cy av nt gs (pC,xs,N) φ S a w){d:Nat}{x:Value}{v:bC U}{v1:V}(j:bN N xs v v1)(o:bW φ w S v1 x)(g:v1.ay (lt N)=true:=by rfl)(e:Nat.ble (d+1) nt=true:=by rfl):cy av nt gs ((d,v)::pC,xs,N) φ S (a.put (some d) x) w:=by
 have e:=hK e;obtain⟨⟨env1,J1,he,aA,R,ak⟩,ea⟩:=T;refine⟨⟨en env1 (some d) true v1,J1,λk y c=>?_,aA,R.wa (by grind) (λ_=>o) (λh=>by grind) (λ_=>g),ak⟩,ea⟩;simp only[aT]at c;split at c
 . rename_i h;cases c;exact⟨v1,by rw[mm,af (by rw[cM h])],j⟩
 . rename_i h;obtain⟨p,h1,f⟩:=he k y c;exact⟨p,by rw[mm,al (by simpa using hJ h)];exact h1,f⟩
theorem cy.new(T:cy av nt gs (pC,xs,N) φ S a w)(o:Obj):cy av nt (w.heap.size::gs) (pC,xs,N+1) (eA φ N (w.heap.size,0)) S a (w.alloc o):=by
 obtain⟨⟨env1,J1,he,aA,R,ak⟩,ea⟩:=T;have cp:lt N N=false:=xS (e9 _);refine⟨⟨env1,J1,he.mono (dc.more (vm _)),aA.mono (vm _),((R.alloc o).sZ λb h=>si cp h).more λb h=>B8 (vm _) h,λb x c h0=>?_⟩,λg h=>?_⟩
 . rw[si cp (R.dG b x c).1]at h0⊢;have:=(R.bD.blk b x c).jk h0;have:=ak b x c h0;grind
 . rcases e2.1 h with rfl|h
   . exact⟨by simp,λj e=>by have:=R.bD.st _ _ e;omega⟩
   . have:=ea g h;exact⟨by have:=this.1;simp;omega,this.2⟩
theorem cy.num(T:cy av nt gs (pC,xs,N) φ S a w)(q:Nat):cy av nt gs (pC,xs,N+1) (eA φ N (q,0)) S a w:=by
 obtain⟨⟨env1,J1,he,aA,R,ak⟩,ea⟩:=T;have cp:lt N N=false:=xS (e9 _);refine⟨⟨env1,J1,he.mono (dc.more (vm _)),aA.mono (vm _),(R.sZ λb h=>si cp h).more λb h=>B8 (vm _) h,λb x c h0=>?_⟩,ea⟩;rw[si cp (R.dG b x c).1]at h0⊢;exact ak b x c h0
theorem cy.drew(T:cy av nt gs s φ S a w):cy av nt gs s φ S a w.drew:=
 let⟨⟨env1,J1,he,aA,R,ak⟩,ea⟩:=T;⟨⟨env1,J1,he,aA,R.drew,ak⟩,ea⟩
theorem cy.write(T:cy av nt gs s φ S a w){g:Nat}(f:g∈gs)(p:av.kN.heap.size<=g)(h1:w'.os=w.os)(j:w'.tape=w.tape)(o:w'.output=w.output)(e:w'.heap.size=w.heap.size)(bp:∀b,b≠g->w'.heap[b]?=w.heap[b]?):cy av nt gs s φ S a w':=by
 obtain⟨⟨env1,J1,he,aA,R,ak⟩,ea⟩:=T;refine⟨⟨env1,J1,he,aA,R.world (λb=>b=g) h1 j o (sR e.symm) (λb _ c=>bp b c) (λb c=>?_),ak⟩,λb h=>by rw[e];exact ea b h⟩;subst c;exact⟨(ea _ f).2,λk y q h0 he=>ak k y q h0 (he▸f),.inr p⟩
theorem cy.extend(T:cy av nt gs s φ S a w)(e:Ext (λ_=>False) S bd w w')(o:∀b j,bd b j->b<w'.heap.size):cy av nt gs s φ bd a w':=by
 obtain⟨⟨env1,J1,he,aA,R,ak⟩,ea⟩:=T;refine⟨⟨env1,J1,he,aA,R.extend e o,ak⟩,λg h=>⟨jg (ea g h).1 e.size,λj f=>?_⟩⟩;rcases e.lj g j f with c|c|c
 . exact(ea g h).2 j c
 . exact c
 . exact absurd (ea g h).1 (Nat.not_lt.2 c)
theorem cy.st(T:cy av nt gs s φ S a w):∀b j,S b j->b<w.heap.size:=let⟨⟨_,_,_,_,R,_⟩,_⟩:=T;R.bD.st
theorem cy.ext(T:cy av nt gs s φ S a w):Ext av.B av.v7 S av.kN w:=let⟨⟨_,_,_,_,R,_⟩,_⟩:=T;R.ext
theorem cy.defers(T:cy av nt gs s φ S a w):a.defers=[]:=let⟨⟨_,_,_,_,R,_⟩,_⟩:=T;R.defers
theorem cy.enter{args:List (bC U)}{a:List V}(y:aX (bN N []) args a)(p:aX (bW φ w S) a vs)(f:V.ay.V.dw (lt N) a=true)(o:∀b j,S b j->b<w.heap.size)(aP:a.length<=nt)(ea:∀g,g∈gs->g<w.heap.size/\∀j,¬S g j):
 cy (U:=U) ⟨w,S,λ_=>False,φ,0⟩ nt gs (mM 0 args,[],N) φ S {tmps:=vs.toArray++Array.replicate (nt-vs.toArray.size) undef,defers:=[]} w:=by
 refine⟨⟨fm 0 a,[],?_,λb x h=>by simp[aT]at h,Rel.enter p f o aP,λb x h=>by simp[aR]at h⟩,ea⟩;intro k v A;have key:∀{xs:List _} {c:List V} {i:Nat},aX (bN N []) xs c->aT (mM i xs) k=some v->∃v1,look (fm i c) k=some (true,v1)/\bN N [] v v1:=by
  intro xs;induction xs with
  |nil=>grind[mM,aT]
  |cons x xs ih=>
   intro c i q e;cases q with
   |cons h1 t=>
    simp[mM,aT]at e;simp[fm,look];split at e
    . simp_all
    simp_all[al,hJ]
 grind
theorem bN.s7{xs:List (bC U)}{a:List V}{c:a7 U}(h:aX (bN N c) xs a):bN N c (.a6 xs) (.a6 a):=
 .a6 _ _ h.length λi x d e j=>by
  obtain⟨f,aK,g⟩:=h.get e;grind
theorem bW.s7{vs:List V}{xs:List Value}(h:aX (bW φ w S) vs xs):bW φ w S (.a6 vs) (.tuple xs.toArray):=
 .a6 _ _ h.length λi x d a f=>by
  obtain⟨c,aK,e⟩:=h.get a;grind
theorem bW.y5(k:Int×Int):bW φ w S (.agg [.t (.int .i64 k.1),.t (.int .i64 k.2)]) (d' k):= .agg (.cons (bM.int _ _) (.cons (bM.int _ _) .nil))
theorem bN.y5{a:a7 U}(k:Int×Int):bN N a (.agg [.t ⟨.int .i64,k.1⟩,.t ⟨.int .i64,k.2⟩]) (.agg [.t (.int .i64 k.1),.t (.int .i64 k.2)]):= .agg (.cons (.t _) (.cons (.t _) .nil))
theorem Fl{b:Nat}{o:Obj}(h:b≠q):(ChangeMaps.setBlock w q o).heap[b]?=w.heap[b]?:=by
 simp[ChangeMaps.setBlock,yb,dx h]
theorem Wn{o:Obj}(h:q<w.heap.size):(ChangeMaps.setBlock w q o).heap[q]?=some o:=by
 simp[ChangeMaps.setBlock,yb,h]
theorem cy.set(T:cy av nt gs s φ S a w)(o:Obj)(e:q∈gs)(f:av.kN.heap.size<=q):cy av nt gs s φ S a (ChangeMaps.setBlock w q o):=
 T.write e f rfl rfl rfl (by simp[ChangeMaps.setBlock]) λb c=>Fl c
theorem fQ{k:Nat}{x:Value}(h:a.tmps[k]?=some x):a.eval (.tmp k)=x:=by simp[Act.eval,h]
section
variable {ops:Array Oper}{Q:Exit->Act->World->Prop}{i:Nat}{rest:aW}{o:Oper}
theorem nO(c:ops[i]?=some o){d:Nat}(b:o.dst=some d)(ak:o.guard=none){x:Value}(e:(execOp a.eval o).run P w= .ok (.value x) w')(h:wpOps P ops Q rest (a.put (some d) x) w'):wpOps P ops Q (i::rest) a w:=by
 simp only[wpOps,c,Region.wanted,ak,Oper.wp,e];refine .inl ?_;show wpOps P ops Q rest (a.put o.dst x) w';rw[b];exact h
theorem Od(c:ops[i]?=some o)(b:o.dst=none)(ak:o.guard=none)(d:(execOp a.eval o).run P w= .ok .skip w')(h:wpOps P ops Q rest a w'):wpOps P ops Q (i::rest) a w:=by
 simp only[wpOps,c,Region.wanted,ak,Oper.wp,d];refine .inl ?_;show wpOps P ops Q rest (a.put o.dst undef) w';rw[b];exact h
theorem DF(j:ops[i]?=some o){d:Nat}(g:o.dst=some d)(ak:o.guard=none){args b:Array Value}(k:(execOp a.eval o).run P w= .ok (.enter f b) w)(c:b=args)(h:Calls P f args w λe w'=>∃v,e= .returned v/\wpOps P ops Q rest (a.put (some d) v) w'):wpOps P ops Q (i::rest) a w:=by
 subst c;simp only[wpOps,j,Region.wanted,ak,Oper.wp,k];refine .inl (h.mono ?_)
 rintro e w' ⟨v,rfl,h⟩
 show wpOps P ops Q rest (a.put o.dst v) w';rw[g];exact h
end
theorem IE{α:Type}{o:Option α}{d:α}(h:o.isSome=true):o=some (o.getD d):=by cases o<;>simp_all
theorem oV(L:aW){id:Nat}{ops:Array Oper}(h:wpOps P ops Q L a w)(b:List.range ops.size=L:=by kernel_rfl):(Code.region id ops false).wp P Q a w:=wp_region (b▸h)
def sl(ops:Array Oper)(k m:Nat):List Oper:=(ops.toList.drop k).take m
theorem aba{ops:Array Oper}{k m:Nat}(i:Nat)(h:i<(sl ops k m).length):(sl ops k m)[i]?=ops[k+i]?:=by
 unfold sl at*;simp at h;rw[vu,gh,DZ];simp
theorem cy.op (T:cy av nt gs s φ S a w)(kk:Nat)(k m:Nat)(env:List (Nat×eU))(st:List fE){h:aJ U.D (dY env st)}{ops:Array Oper}{L:aW}{Q:Exit->Act->World->Prop}{fs:List (cw U)}(g:h8 P fs)
 (q:nq (gQ fs) none ((gK P nt ops (sl ops k m)).getD []) s.2.2 [] [] s.1 s.2.1 (λgl e J=>mP kk [] ⟨env,st⟩ (dY env st) (sq gl e) J (s.2.2+16*((gK P nt ops (sl ops k m)).getD []).length))=some h)
 (f:∀bc bd bX w',cy av nt gs ((fh U ⟨env,st⟩ (aJ.cells U.D (dY env st) h)).1,(fh U ⟨env,st⟩ (aJ.cells U.D (dY env st) h)).2,st.length) bc bd bX w'->q' gs kk φ w bc w'->wpOps P ops Q (L.drop m) bX w')
 (p:(gK P nt ops (sl ops k m)).isSome=true:=by kernel_rfl)(o:Nat.ble kk s.2.2=true:=by rfl)(j:av.k<=kk:=by exact jJ _)(c:List.range' k (sl ops k m).length++L.drop m=L:=by kernel_rfl):wpOps P ops Q L a w:=by
 rw[<-c];exact T.ops g k (IE p) aba (hK o) j q f
theorem cy.gm(T:cy av nt gs s φ S a w)(kk:Nat)(outs:List iB){o:ej U outs}{fs:List (cw U)}(g:h8 P fs)
 (t:kj (gQ fs) (λ_=>none) kk ((resolve P nt code).getD .skip) 0 s.1 s.2.1 s.2.2 (nR kk outs)=some o)
 (f:∀bc bd bX w',cy av nt gs (fi outs o).2 bc bd bX w'->q' gs kk φ w bc w'->Q (fi outs o).1 bX w')
 (q:(resolve P nt code).isSome=true:=by kernel_rfl)(p:Nat.ble kk s.2.2=true:=by rfl)(j:av.k<=kk:=by exact jJ _):code.wp P Q a w:=by
 refine wp_mono (T.piece g (IE q) (hK p) j t) ?_
 rintro e bX w' ⟨rfl,bc,bd,c,v⟩
 exact f bc bd bX w' c v
theorem ld1{o:Oper}{ty:TypeId}(g:o.op= .load ty x)(ad:mu P ty=some (false,1)){b off:Nat}(i:a.eval x= .pointer (some ⟨b,off,none⟩))(aa:w.heap[b]?=some (.cells vs.toArray E (0,0)))(f:vs[off]?=some v):
 (execOp a.eval o).run P w= .ok (.value v) w:=by
 obtain⟨h1,c,d⟩:=Fs ad;have:(loadVar ty ⟨b,off,none⟩).run P w= .ok v w:=by
  have:=Qf (P:=P) h1 c (w:=w) (b:=b) (o:=off) (vs:=[v]) (λj e=>by
   have:j=0:=(by simpa using e);subst this
   rw[iH aa,sQ,f];rfl) rfl d
  simpa using this
 simp_all [execOp,Instr.loadAt,Instr.sureAddr]
theorem cy.ret{fn:Func}{R:Ending->World->Prop}(T:cy av nt gs s φ S a w){t:Nat}(g:fn.results=#[.tmp t])(f:aT s.1 t=some (.c (.t c)))(h:∀x,bM w S (c.enc U) x->R (.returned x) w):bodyPost P fn R .ret a w:=by
 obtain⟨x,h1,e⟩:=T.cell f;refine⟨T.defers,x,?_,h x e⟩;rw[Ry,g];simp[vC,h1]
def n2(S:c0)(w:World)(bd:c0)(w':World):Prop:=Ext (λ_=>False) S bd w w'/\∀b j,bd b j->b<w'.heap.size
theorem n2.heap(h:n2 S w bd w'){b:Nat}{o:Obj}(a:w.heap[b]?=some o):w'.heap[b]?=some o:=by
 rw[h.1.block b (yc.1 a).1 (λx=>x)];exact a
theorem oW{d:Nat}{x:Value}(h:d<a.tmps.size):(a.put (some d) x).tmps[d]?=some x:=by simp[Act.put,h]
theorem cy.size(T:cy av nt gs s φ S a w):a.tmps.size=nt:=let⟨⟨_,_,_,_,R,_⟩,_⟩:=T;R.size
def HI(P:Program)(t:TypeId):Bool:=match P.underlying t with
 |some (.map fK b)=>match P.underlying fK with
  |some (.array 2 it)=>match P.underlying it,P.info? it,P.info? b with
   |some (.int .i64),some i,some a=>Nat.beq i.size 1&&(match a.zero with
    |some (.bool false)=>true
    |_=>false)
   |_,_,_=>false
  |_=>false
 |_=>false
theorem mT.of{t:TypeId}(h:HI P t=true):mT P t:=by
 unfold HI at h
 (repeat' split at h)<;>simp at h
 rename_i h1 _ _ f _ _ _ _ a c bp _ e;exact⟨_,_,_,_,_,by assumption,by assumption,a,c,h,bp,e⟩
section
variable {o:Oper}{ty:TypeId}{r:Nat}{es:Array MapEntry}{ct:Nat}{ks:List (Int×Int)}
theorem adP{k:Operand}(d:o.op= .lookup ty x k false)(c:mT P ty)(e:a.eval x= .map (some r))(b:a.eval k=d' p)(aa:w.heap[r]?=some (.map es ct))(hs:iT ks es.toList):
 (execOp a.eval o).run P w= .ok (.value (.bool (hY ks p))) w:=by
 have:=XL c aa hs p;simp[execOp,d,e,b,this]
theorem adW(c:o.op= .makeMap ty (some x))(b:mT P ty){k:IntKind}{n:Int}(e:a.eval x= .int k n):
 (execOp a.eval o).run P w= .ok (.value (.map (some w.heap.size))) (w.alloc (.map #[] 0)):=by
 obtain⟨fK,g,it,i,f,d,_⟩:=b.ex;simp[execOp,c,e,Instr.makeMap,run_underlying d,asInt,asIntOf]
theorem abo(d:o.op= .alloc ty){z:Value}(b:(P.info? ty).bind TypeInfo.zero=some z)(h1:z.cells=#[z]):
 (execOp a.eval o).run P w= .ok (.value (.pointer (some ⟨w.heap.size,0,none⟩))) (w.alloc (.cells #[z] ty (0,0))):=by
 obtain⟨i,c,b⟩:=kI.1 b;simp[execOp,d,Instr.alloc,zeroValue,typeInfo,c,b,newVar,newRow,h1]
theorem st1(e:o.op= .store ty x y)(d:eg P ty=some 1){b:Nat}{u:Value}(g:a.eval x= .pointer (some ⟨b,0,none⟩))(i:a.eval y=v)(f:v.cells=#[v])(h1:v.oneCell'=true)(aa:w.heap[b]?=some (.cells #[u] E (0,0))):
 ∃w',(execOp a.eval o).run P w= .ok .skip w'/\w'.os=w.os/\w'.tape=w.tape/\w'.output=w.output/\w'.heap.size=w.heap.size/\w'.heap[b]?=some (.cells #[v] E (0,0))/\∀c:Nat,c≠b->w'.heap[c]?=w.heap[c]?:=by
 obtain⟨w',h,bb,bq,bU,cu,cW,da⟩:=mC (P:=P) (b:=b) (E:=E) [v] 0 0 [u] w aa (by simp) (by simp[h1]);refine⟨w',?_,bb,bq,bU,cu,by simpa[iN]using cW,da⟩;simp[execOp,e,g,i,Instr.storeAt,Instr.sureAddr,storeVar,i' d,f,h]
theorem adS{ops:Array Oper}{i:Nat}{rest:aW}(f:ops[i]?=some o)(d:o.dst=none)(ak:o.guard=none)(g:o.op= .store ty x y)(e:eg P ty=some 1){b:Nat}{u:Value}(k:a.eval x= .pointer (some ⟨b,0,none⟩))(l:a.eval y=v)(j:v.cells=#[v])(h1:v.oneCell'=true)(aa:w.heap[b]?=some (.cells #[u] E (0,0)))
 (h:∀w':World,w'.os=w.os->w'.tape=w.tape->w'.output=w.output->w'.heap.size=w.heap.size->w'.heap[b]?=some (.cells #[v] E (0,0))->(∀c:Nat,c≠b->w'.heap[c]?=w.heap[c]?)->wpOps P ops Q rest a w'):wpOps P ops Q (i::rest) a w:=
 let⟨w',h0,bb,bq,bU,cu,cW,da⟩:=st1 g e k l j h1 aa
 Od f d ak h0 (h w' bb bq bU cu cW da)
theorem aeM{k:Operand}(j:o.op= .mapUpdate ty x k y)(i:mT P ty)(l:a.eval x= .map (some r))(g:a.eval k=d' p)(m:a.eval y= .bool true)(aa:w.heap[r]?=some (.map es ct))(hs:iT ks es.toList)(f:nv es.toList ct):
 ∃b c,(execOp a.eval o).run P w= .ok .skip {w with heap:=w.heap.setIfInBounds r (.map b c)}/\iT (mV ks p) b.toList/\nv b.toList c:=by
 obtain⟨b,c,h1,d,e⟩:=XM i aa hs f p;exact⟨b,c,by simp[execOp,j,l,g,m,h1],d,e⟩
theorem adT{ops:Array Oper}{i:Nat}{rest:aW}(l:ops[i]?=some o)(f:o.dst=none)(ak:o.guard=none){k:Operand}(m:o.op= .mapUpdate ty x k y)(j:mT P ty)(n:a.eval x= .map (some r))(g:a.eval k=d' p)(q:a.eval y= .bool true)(aa:w.heap[r]?=some (.map es ct))(hs:iT ks es.toList)(e:nv es.toList ct)
 (h:∀b c,iT (mV ks p) b.toList->nv b.toList c->wpOps P ops Q rest a {w with heap:=w.heap.setIfInBounds r (.map b c)}):wpOps P ops Q (i::rest) a w:=
 let⟨b,c,h0,h1,d⟩:=aeM m j n g q aa hs e
 Od l f ak h0 (h b c h1 d)
theorem aei(c:o.op= .range ty x)(b:mT P ty)(e:a.eval x= .map (some r))(aa:w.heap[r]?=some (.map es ct)):
 (execOp a.eval o).run P w= .ok (.value (.pointer (some ⟨w.heap.size,0,none⟩))) (w.alloc (.mapIter (some r) ct #[] ct)):=by
 obtain⟨fK,g,it,i,f,d,_⟩:=b.ex;have:=run_range_map w ty _ _ r es ct d aa;simp[execOp,c,e,this]
theorem ad1(d:o.op= .next x false)(f:a.eval x= .pointer (some ⟨q,0,none⟩))(i:w.heap[q]?=some (.mapIter (some r) ct seen ct))(aa:w.heap[r]?=some (.map es ct))(g:nv es.toList ct):
 ((leftOf es seen).size=0/\(execOp a.eval o).run P w= .ok (.value (.tuple #[.bool false])) w)\/
 ∃e∈(leftOf es seen).toList,∃b:World,(b=w\/b=w.drew)/\(execOp a.eval o).run P w= .ok (.value (.tuple #[.bool true,e.key,e.val])) (ChangeMaps.setBlock b q (.mapIter (some r) ct (seen.push e.born) ct)):=by
 rcases run_next_at (P:=P) w o.type q r ct ct seen es ct i aa g.1 (e9 _)with⟨h1,c⟩|⟨e,he,b,h1,c⟩
 . exact .inl ⟨h1,by simp[execOp,d,f,c]⟩
 . exact .inr ⟨e,he,b,h1,by simp[execOp,d,f,c]⟩
theorem adR{ops:Array Oper}{i:Nat}{rest:aW}(j:ops[i]?=some o){d:Nat}(f:o.dst=some d)(ak:o.guard=none)(l:o.op= .next x false)(p:a.eval x= .pointer (some ⟨q,0,none⟩))(m:w.heap[q]?=some (.mapIter (some r) ct seen ct))(aa:w.heap[r]?=some (.map es ct))(k:nv es.toList ct)
 (h0:(leftOf es seen).size=0->wpOps P ops Q rest (a.put (some d) (.tuple #[.bool false])) w)(h1:∀e,e∈(leftOf es seen).toList->∀b,(b=w\/b=w.drew)->wpOps P ops Q rest (a.put (some d) (.tuple #[.bool true,e.key,e.val])) (ChangeMaps.setBlock b q (.mapIter (some r) ct (seen.push e.born) ct))):wpOps P ops Q (i::rest) a w:=by
 rcases ad1 (P:=P) l p m aa k with⟨g,c⟩|⟨e,he,b,n,c⟩
 . exact nO j f ak c (h0 g)
 . exact nO j f ak c (h1 e he b n)
theorem adl(c:o.op= .entry x)(f:a.eval x= .pointer (some ⟨q,0,none⟩)){e:MapEntry}(d:w.heap[q]?=some (.mapIter (some r) ct (seen.push e.born) ct))(aa:w.heap[r]?=some (.map es ct))(he:e∈es.toList)(b:nv es.toList ct):
 (execOp a.eval o).run P w= .ok (.value (.tuple #[e.key,e.val])) w:=by
 have:=run_entry_at (P:=P) w q r ct seen es ct e d aa he b.2;simp[execOp,c,f,this]
end
theorem n2.refl(h:∀b j,S b j->b<w.heap.size):n2 S w S w:=⟨Ext.refl,h⟩
theorem fc.hand{ft:List eU}{F:aJ U.D (aV f ft (aa .bool)).ts->Option (aJ U.D (aV f ft (aa .bool)).us)}(q:hb P f=true)
 (h:∀(x:aJ U.D (aV f ft (aa .bool)).ts) (b:Bool),F x=some b->∀(φ:cZ) (S:c0) (w:World) (g:List V) (vs:List Value),(∀b j,S b j->b<w.heap.size)->aX (bN 0 []) (j6 ft (aJ.cells U.D _ x)).1 g->aX (bW φ w S) g vs->V.ay.V.dw (lt 0) g=true->
  Calls P f vs.toArray w λe w'=>∃bd,e= .returned (.bool b)/\n2 S w bd w'):fc P ((aV f ft (aa .bool)).s F):=by
 refine⟨q,λx b a g J1 o aA φ S w B A J H p vs E=>?_⟩;refine(h x b a φ S w g vs A.st o E p).mono ?_
 rintro e w' ⟨bd,rfl,k⟩
 refine⟨_,.c (.t (.bool b)),φ,bd,[],0,rfl,⟨rfl,.c (.t _),λb x h=>by simp[aT,cw.rest,et.s,hi]at h⟩,bW.n' b,rfl,⟨λb x a=>by simp[aR]at a,λb G x y a=>by simp[aR]at a,k.2⟩,λb x a=>by simp[aR]at a,⟨k.1.os,k.1.tape,k.1.output,k.1.size,λb h _=>k.1.block b h (λx=>x),k.1.mono,λb j v=>?_⟩,λb x a=>by simp[aR]at a,λ_ _=>rfl⟩;rcases k.1.lj b j v with h|h|h
 . exact .inl h
 . exact h.elim
 . exact .inr (.inr h)
end
end
end Go.Proofs.YtkbmjabicjpmjaaGreatDoor.Shv
