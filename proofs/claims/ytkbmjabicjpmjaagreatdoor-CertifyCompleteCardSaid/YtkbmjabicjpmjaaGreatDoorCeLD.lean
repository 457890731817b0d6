/- The library of this proof, part D: an abstract machine for the code of the program, and its soundness. -/
import Derived.KernelRfl
import Derived.Shelf.Strings.Builder1
import Derived.ChangeArms
import Derived.ChangeStays
import Derived.ChangeSame
import Derived.SizedLaws
import Derived.Below
import Derived.WalkKit
import Derived.ProofKit
import Derived.OpenShut
import Derived.Laws.BitsLemmas
import Derived.Laws.Bits64
import Derived.Shelf.GgSortFunc.InsertionK
import Derived.Shelf.SlSortCmp.Insertion
import Derived.Sort.AssemblyPlain
import Derived.Lib.BitFns
import Derived.Laws.IdiomRangeMap
import Derived.Shelf.Strconv.Itoa3
import Derived.Maps.RangeRun
import Derived.Test.YtkbmjabicjpmjaaGreatDoorCeLC

namespace Go.Proofs.YtkbmjabicjpmjaaGreatDoor.Shv
set_option linter.all false
section
open Go
variable {xb:aZ}
variable {U:cE}{R:Type}
def nn(gl:eo)(gd:Option (Nat×Bool))(dst:Option Nat):Bool:=
 match dst with
 |none=>true
 |some d=>(gl.all λe=>!(Nat.beq e.1 d) && !(Nat.beq e.2.1 d))&&(match gd with
  |some g=>!(Nat.beq g.1 d)
  |none=>true)
def gi(dst:Option Nat)(v:bF U)(env:bQ U):bQ U:=
 match dst with
 |none=>env
 |some d=>(d,v)::env
def hY(gl:eo)(gd:Option (Nat×Bool))(dst:Option Nat):eo:=
 match gd,dst with
 |some g,some d=>(d,g)::gl
 |_,_=>gl
abbrev fl(U:cE):=Nat->List (cA U)
abbrev kc(U:cE):=bQ U->Option (List (bF U))
def O1(s:cA U)(c:kc U)(env:bQ U)(J:bf U)(key:Nat):Option (bQ U×bf U×aZ×aJ U.D s.ts):=
 match c env with
 |none=>none
 |some vs=>match u7 J 0 0 s.st (Cf s.fh vs ([],[])) []with
  |(bs,d)=>match jN d env J with
   |none=>none
   |some (env',J')=>match c env' with
    |none=>none
    |some e=>match r' bs&&((bs.all λb=>Nat.ble (b+1) key)&&(Nat.beq bs.length s.st.length&&Nat.ble s.eA.length (bs.length+16)))with
     |false=>none
     |true=>match lB bs s.fh e,il bs J' 0 s.st with
      |some a,some b=>match aJ.dec U.D s.ts (a++b)with
       |some h=>some (env',J',bs,h)
       |none=>none
      |_,_=>none
def vm(b:kc U)(env:bQ U)(J:bf U)(key:Nat)(k:bQ U->bf U->bF U->Option R):List (cA U)->Option R
 |[]=>none
 |s::r=>match O1 s b env J key with
  |none=>vm b env J key k r
  |some (env',J',bs,h)=>(s.F h)>>=λa=>match nD J' (s.rest a) 0 bs with
   |none=>none
   |some c=>if c then k env' (mj J' bs (back bs key) (s.rest a)) ((s.res a).b' (back bs key))else none
def isNil{α:Type}:List α->Bool
 |[]=>true
 |_=>false
def DQ(s:cA U)(b:kc U)(env:bQ U):Option (aJ U.D s.ts):=
 match isNil s.st&&isNil s.eA,b env with
 |true,some vs=>match vs.all gn,lB [] s.fh vs with
  |true,some a=>aJ.dec U.D s.ts a
  |_,_=>none
 |_,_=>none
def vl(a:kc U)(env:bQ U)(g:Bool)(k:bF U->Option R):List (cA U)->Option R
 |[]=>none
 |s::r=>match DQ s a env with
  |none=>vl a env g k r
  |some h=>(if g then s.F h else some (aJ.jD U s.us))>>=λb=>match gn (s.res b)with
   |true=>k (s.res b)
   |false=>none
def hasB(J:bf U)(b:Nat):Bool:=match aX J b with
 |some _=>true
 |none=>false
def bo.iT(J:bf U):bo U->Bool
 |.t _|.dF .. |.aT|.eU|.eT=>true
 |.ptr b _=>hasB J b
 |.cH b _ _ _=>hasB J b
 |.fn _ caps=>caps.all (hasB J)
 |.arr b=>match aX J b with
  |some x=>(match x.db with
   |some _=>true
   |none=>false)
  |none=>false
 |.sub .. =>false
 |.pre .. =>false
 |.gG .. =>false
 |.mp b=>hasB J b
 |.en _=>false
 |.cj b=>match aX J b with
  |some x=>(match x.db with
   |some p=>Nat.beq p.1 1
   |none=>false)
  |none=>false
 |.dead=>false
def jZ(J:bf U):bF U->Bool
 |.c x=>x.iT J
 |.agg cs=>cs.all (bo.iT J)
 |.ba vs=>go J vs
where go (J:bf U):List (bF U)->Bool
 |[]=>true
 |v::vs=>jZ J v&&go J vs
def bo.hE(J:bf U):bo U->C
 |.t c=>.t (c.enc U)
 |.dF ty x o=>.dF (ty.enc U x) o
 |.aT=>.aT
 |.eU=>.eU
 |.eT=>.eT
 |.fn f caps=>.fn f caps
 |.ptr b o=>.ptr b o
 |.cH b ty i o=>.cH b (ty.sz U) i o
 |.arr b=>match aX J b with
  |some x=>(match x.db with
   |some p=>.arr b p.1 0 p.2
   |none=>.dead)
  |none=>.dead
 |.sub b a len=>.fC b 1 a len
 |.pre _ _=>.dead
 |.gG .. =>.dead
 |.mp b=>.mp b
 |.en b=>.en b
 |.cj b=>match aX J b with
  |some x=>(match x.db with
   |some p=>.cj b p.2
   |none=>.dead)
  |none=>.dead
 |.dead=>.dead
def hC(J:bf U):bF U->V
 |.c x=>.c (x.hE J)
 |.agg cs=>.agg (cs.map (bo.hE J))
 |.ba vs=>.ba (go J vs)
where go (J:bf U):List (bF U)->List V
 |[]=>[]
 |v::vs=>hC J v::go J vs
def fQ(J:bf U):cM U->Bool
 |.box cs=>cs.all (bo.iT J)
 |.arr _ _=>true
 |.rows .. =>false
 |.set _=>true
 |.buf _ _=>true
 |.b1 _ c=>c.iT J
 |.cx .. =>false
def q1(J:bf U):cM U->bT
 |.box cs=>.box (cs.map (bo.hE J))
 |.arr ty l=>.arr (ty.sz U) (l.map (ty.enc U))
 |.rows sz _=>.arr sz []
 |.set ks=>.set ks
 |.buf E s=>.buf E s
 |.b1 E c=>.b1 E (c.hE J)
 |.cx t l i o _=>.cx (t.sz U) (l.map (t.enc U)) i o .dead
def j3(J:bf U):bf U->a8
 |[]=>[]
 |(b,x)::r=>(b,q1 J x)::j3 J r
def Gz(J:bf U)(l:bf U):Bool:=l.all λp=>Nat.ble (p.1+1) 16&&fQ J p.2
def DP(s:cA U)(b:kc U)(env:bQ U):Option (aJ U.D s.ts):=
 match isNil s.st&&Nat.ble s.eA.length 16,b env with
 |true,some vs=>match vs.all gn,lB [] s.fh vs with
  |true,some a=>aJ.dec U.D s.ts a
  |_,_=>none
 |_,_=>none
def xL(b:kc U)(env:bQ U)(J:bf U)(key:Nat)(k:bf U->bF U->Option R):List (cA U)->Option R
 |[]=>none
 |s::r=>match DP s b env with
  |none=>xL b env J key k r
  |some h=>(s.F h)>>=λa=>match jZ (s.rest a) (s.res a)&&Gz (s.rest a) (s.rest a)with
   |true=>k (mj J [] (back [] key) (s.rest a)) ((s.res a).b' (back [] key))
   |false=>none
def bo.fN:bo U->aZ
 |.ptr b _|.cH b _ _ _|.arr b|.sub b _ _|.pre b _|.gG b _ _|.mp b|.en b|.cj b=>[b]
 |.fn _ caps=>caps
 |_=>[]
def bF.fN:bF U->aZ
 |.c x=>x.fN
 |.agg cs=>cs.flatMap bo.fN
 |.ba _=>[]
def kG(l:aZ)(b:Nat):Bool:=l.any λc=>Nat.beq c b
def O2(xb:aZ)(s:cA U)(d:kc U)(env:bQ U)(J:bf U)(key:Nat):Option (aZ×aJ U.D s.ts):=
 match d env with
 |none=>none
 |some vs=>match u7 J 0 0 s.st (Cf s.fh vs ([],[])) []with
  |(bs,c)=>match isNil c&&(r' bs&&((bs.all λb=>Nat.ble (b+1) key&&((kG (vs.flatMap bF.fN) b||kG xb b)&&hasB J b))&&(Nat.beq bs.length s.st.length&&(Nat.ble bs.length s.eA.length&&Nat.ble s.eA.length (bs.length+16)))))with
   |false=>none
   |true=>match lB bs s.fh vs,il bs J 0 s.st with
    |some a,some b=>match aJ.dec U.D s.ts (a++b)with
     |some h=>some (bs,h)
     |none=>none
    |_,_=>none
def FN(n:Nat)(J:bf U)(l:bf U):Bool:=l.all λp=>Nat.ble (p.1+1) n&&fQ J p.2
def tO(xb:aZ)(b:kc U)(env:bQ U)(J:bf U)(key:Nat)(k:bf U->bF U->Option R):List (cA U)->Option R
 |[]=>none
 |s::r=>match O2 xb s b env J key with
  |none=>tO xb b env J key k r
  |some (bs,h)=>(s.F h)>>=λa=>match jZ (s.rest a) (s.res a)&&FN (bs.length+16) (s.rest a) (s.rest a),nD J (s.rest a) 0 bs with
   |true,some c=>if c then k (mj J bs (back bs key) (s.rest a)) ((s.res a).b' (back bs key))else none
   |_,_=>none
def abV(a:kc U)(env:bQ U)(l:List (cA U)):Bool:=l.any λs=>(DP s a env).isSome
def abW(a:kc U)(env:bQ U)(l:List (cA U)):Bool:=l.any λs=>(DQ s a env).isSome
def aem(gd:Option (Nat×Bool))(a:kc U)(env:bQ U)(l:List (cA U)):Bool:=
 match gd with
 |some _=>!(abW a env l)
 |none=>false
def ab8(d:Option aZ):aZ:=match d with
 |some l=>l
 |none=>[]
def G7(fo:fl U)(d:Option aZ)(gd:Option (Nat×Bool))(f:Nat)(a:kc U)(gl:eo)(env:bQ U)(J:bf U)(key:Nat)(k:bQ U->bf U->bF U->Option R):Option R:=
 match gd with
 |none=>match d with
  |none=>vm a env J key k (fo f)
  |some xb=>match abV a env (fo f)with
   |true=>xL a env J key (λJ v=>k env J v) (fo f)
   |false=>tO xb a env J key (λJ v=>k env J v) (fo f)
 |some _=>match kF gl env o7 gd with
  |some g=>vl a env g (λv=>k env J v) (fo f)
  |none=>none
abbrev ju:=List (Nat×Bool)
def tj(nf:ju)(gl:eo):Nat->Option (Nat×Bool)->Bool
 |0,_=>false
 |_,none=>false
 |a+1,some (t,b)=>(nf.any λg=>Nat.beq g.1 t&&(g.2==b))||tj nf gl a (aX gl t)
def kx(nf:ju)(dst:Option Nat):Bool:=
 match dst with
 |none=>true
 |some d=>nf.all λg=>!(Nat.beq g.1 d)
def CD:bF U:= .c (.t ⟨.bool,false⟩)
def qL(fo:fl U)(d:Option aZ)(o:b5)(key:Nat)(gl:eo)(nf:ju)(env:bQ U)(J:bf U)(k:eo->ju->bQ U->bf U->Option R):Option R:=
 match nn gl o.guard o.dst&&kx nf o.dst with
 |false=>none
 |true=>match tj nf gl o7 o.guard with
  |true=>match kF gl env o7 o.guard with
   |some _=>k (hY gl o.guard o.dst) nf (gi o.dst CD env) J
   |none=>none
  |false=>match o.op with
   |.call f args=>match aem o.guard (λe=>kP gl o.guard e args) env (fo f)with
    |true=>match kF gl env o7 o.guard,o.guard with
     |some g,some gd=>if g then tO (ab8 d) (λe=>kP gl o.guard e args) env J key (λJ v=>k (hY gl o.guard o.dst) nf (gi o.dst v env) J) (fo f)else k (hY gl o.guard o.dst) (gd::nf) (gi o.dst CD env) J
     |_,_=>none
    |false=>G7 fo d o.guard f (λe=>kP gl o.guard e args) gl env J key λenv J v=>k (hY gl o.guard o.dst) nf (gi o.dst v env) J
   |.hD x args=>match d,o.guard,c9 gl none env x with
    |none,none,some (.c (.fn f _))=>vm (λe=>match c9 gl none e x,kP gl none e args with
     |some (.c (.fn i a)),some vs=>match Nat.beq i f with
      |true=>some (vs++a.map λb=>.c (.ptr b 0))
      |false=>none
     |_,_=>none) env J key (λenv J v=>k gl nf (gi o.dst v env) J) (fo f)
    |some _,none,some (.c (.fn f []))=>vl (λe=>kP gl none e args) env true (λv=>k gl nf (gi o.dst v env) J) (fo f)
    |_,_,_=>none
   |op=>match ck gl o.guard env J key op with
    |none=>none
    |some (c,v,J')=>match o.guard with
     |none=>if c then k gl nf (gi o.dst v env) J' else none
     |some gd=>match kF gl env o7 (some gd)with
      |none=>none
      |some g=>match op.neutral with
       |true=>if(c || !g) then k (hY gl o.guard o.dst) nf (gi o.dst v env) J else none
       |false=>if g then(if c then k (hY gl o.guard o.dst) nf (gi o.dst v env) J' else none)else k (hY gl o.guard o.dst) (gd::nf) (gi o.dst CD env) J
def OW(J:bf U):bo U->List (Nat×aH)
 |.arr b=>match aX J b with
  |some (.arr t _)=>[(b,t)]
  |_=>[]
 |_=>[]
def aek(J:bf U):bF U->List (Nat×aH)
 |.c x=>OW J x
 |.agg cs=>cs.flatMap (OW J)
 |.ba _=>[]
def DM(gl:eo)(gd:Option (Nat×Bool))(env:bQ U)(J:bf U)(xs:List aO):List (Nat×aH):=
 xs.flatMap λx=>match c9 gl gd env x with
  |some v=>aek J v
  |none=>[]
def y1(l:List (Nat×aH))(env:bQ U)(J:bf U):Option (bQ U×bf U):=
 match l with
 |[]=>none
 |_=>jN l env J
def DO(gl:eo)(o:b5)(env:bQ U)(J:bf U):Option (bQ U×bf U):=
 match o.op with
 |.slc _ x _ _=>match c9 gl o.guard env x with
  |some (.c (.arr b))=>match aX J b with
   |some (.arr t _)=>jN [(b,t)] env J
   |_=>none
  |_=>none
 |.call _ args=>match o.guard with
  |some _=>y1 (DM gl o.guard env J args) env J
  |none=>none
 |.bsliceT _ _ _ _ ps=>y1 (DM gl o.guard env J (ps.map Prod.snd)) env J
 |.bslice _ _ _ ps=>y1 (DM gl o.guard env J (ps.map Prod.snd)) env J
 |_=>none
def B5(fo:fl U)(d:Option aZ)(o:b5)(key:Nat)(gl:eo)(nf:ju)(env:bQ U)(J:bf U)(k:eo->ju->bQ U->bf U->Option R):Option R:=
 match d with
 |some xb=>qL fo (some xb) o key gl nf env J k
 |none=>match DO gl o env J with
  |none=>qL fo none o key gl nf env J k
  |some p=>qL fo none o key gl nf p.1 p.2 k
def nh(fo:fl U)(d:Option aZ):List b5->Nat->eo->ju->bQ U->bf U->(eo->bQ U->bf U->Option R)->Option R
 |[],_,gl,_,env,J,k=>k gl env J
 |o::r,key,gl,nf,env,J,k=>B5 fo d o key gl nf env J λgl nf env J=>nh fo d r (key+16) gl nf env J k
def zG(gl:eo)(k:Nat):Bool:=gl.any λe=>Nat.beq e.1 k
def clean(gl:eo):bQ U->bQ U
 |[]=>[]
 |(k,v)::r=>match zG gl k with
  |true=>clean gl r
  |false=>(k,v)::clean gl r
def sa(gl:eo)(env:bQ U):bQ U:=
 match gl with
 |[]=>env
 |_=>clean gl env
structure ev (key:Nat)(gl:eo)(nf:ju)(env:bQ U)(J:bf U)(env1:Env)(J1:a8)(G:Nat->Bool):Prop where
 gC:cS key J G env env1
 ao:gw gl env G
 eD:cm key J J1
 aV:∀g,g∈nf->cB env G (some g)=false
variable{N:Nat}{o:b5}{K:Env->a8->Prop}
section
variable {P:Program}{kk key:Nat}{J J':bf U}{J1 bp:a8}{env:bQ U}{env1:Env}{G:Nat->Bool}{gl:eo}{gd:Option (Nat×Bool)}{nf:ju}{dst:Option Nat}{v:bF U}{v1:V}
theorem FT{d:Option Nat}{k:Nat}:aX (gi d v env) k=if d=some k then some v else aX env k:=by
 cases d with
 |none=>rfl
 |some d=>
  grind[gi,aX,cR,hh]
theorem B6{o:Option (Nat×Bool)}{g:Bool}(h:kF gl env o7 o=some g):o=none\/∃t b y,o=some (t,b)/\e3 env t b=some y:=by
 cases o with
 |none=>simp
 |some x=>
  grind[ZX]
theorem Hg(ao:gw gl env G)(aV:∀g,g∈nf->cB env G (some g)=false):∀{a:Nat} {gd:Option (Nat×Bool)},tj nf gl a gd=true->cB env G gd=false
 |0,gd,h=>by grind[tj]
 |a+1,none,h=>by grind[tj]
 |a+1,some (t,b),h=>by
  simp only[tj,lj,qw,cO]at h;rcases h with⟨⟨f,c⟩,e,h1,d⟩|h
  . grind[cR]
  . have:=Hg ao aV h;rw[ao.aX t]at this;grind[cB]
theorem ev.bind(he:cS key J' G env env1)(ao:gw gl env G)(aE:cm key J' bp)(aV:∀g,g∈nf->cB env G (some g)=false)(I:bR key J' v v1)(aj:gd=none\/∃t b y,gd=some (t,b)/\e3 env t b=some y)(x:nn gl gd dst=true)(f:kx nf dst=true):
 ev key (hY gl gd dst) nf (gi dst v env) J' (ee env1 dst (cB env G gd) v1) bp (λk=>if dst=some k then cB env G gd else G k):=by
 refine⟨λk w a=>?_,?_,aE,λg j=>?_⟩
 . rw[FT]at a;rw[lP];split at a
   . grind
   . rename_i h;rw[av h,av h];exact he k w a
 . cases dst with
   |none=>
    have:hY gl gd none=gl:=by cases gd<;>rfl
    simp_all[gi,reduceCtorEq,bN]
   |some d=>
    simp only[nn,cO,fk,x6]at x;have F:∀k t b,aX gl k=some (t,b)->k≠d/\t≠d:=by
     intro k t b a;have H:∀{l:eo},aX l k=some (t,b)->(k,t,b)∈l:=by
      intro l;induction l with
      |nil=>grind[aX]
      |cons e r ih=>
       obtain⟨J,e⟩:=e;intro h;simp only[aX]at h;split at h
       . simp_all
       grind
     grind[hh]
    have E:∀t b,t≠d->e3 (gi (some d) v env) t b=e3 env t b:=by
     intro t b ht;unfold e3;rw[FT,av (by grind)]
    have p:∀k t b,aX gl k=some (t,b)->∃y,e3 (gi (some d) v env) t b=some y/\(if some d=some k then cB env G gd else G k)=((if some d=some t then cB env G gd else G t)&&y):=by
     intro k t b a;obtain⟨y,B,D⟩:=ao.held k t b a;grind
    cases gd with
    |none=>
     refine⟨λk a=>?_,λk t b a=>p k t b a⟩;by_cases c:some d=some k
     . rw[ai c];rfl
     . rw[av c];exact ao.free k a
    |some g=>
     obtain⟨t0,b0⟩:=g;have A:t0≠d:=by
      grind[Bool.not_eq_true',hh]
     refine⟨λk a=>?_,λk t b a=>?_⟩
     . simp only[hY,aX]at a;split at a
       . grind
       . rw[av (by grind[hh])];exact ao.free k a
     . simp only[hY,aX]at a;split at a
       . rename_i q;cases a;have:=cR q;subst this;rcases aj with h|⟨t,b,y,h,ak⟩
         . grind
         . cases h;refine⟨y,by grind,?_⟩;rw[ai rfl,av (by simp;exactλe=>A e.symm)];simp[cB,ak]
       . exact p k t b a
 . obtain⟨t,b⟩:=g;have h0:=aV _ j;cases dst with
   |none=>simpa[gi]using h0
   |some d=>
    simp only[kx,fk,x6]at f;have o:t≠d:=hh (f _ j);simp only[cB]at h0⊢;rw[av (by simp;exactλe=>o e.symm)];have:e3 (gi (some d) v env) t b=e3 env t b:=by
     unfold e3;rw[FT,av (by simp;exactλe=>o e.symm)]
    rw[this];exact h0
theorem GQ:bR N J CD (.c (.t (.bool false))):= .c (.t _)
theorem BB(h:ev key gl nf env J env1 J1 G)(c:o.guard=none\/∃t b y,o.guard=some (t,b)/\e3 env t b=some y)(ao:cB env G o.guard=false)(d:nn gl o.guard o.dst=true)(e:kx nf o.dst=true)(f:bR (key+16) J v v1):
 DStep xb P o key env1 J1 false v1 J1/\ev (key+16) (hY gl o.guard o.dst) nf (gi o.dst v env) J (ee env1 o.dst false v1) J1 (λk=>if o.dst=some k then false else G k):=by
 have a:=Bz h.gC c;rw[ao]at a;refine⟨.skip a rfl,?_⟩;have:=ev.bind (h.gC.mono (c'.more (by simp))) h.ao (h.eD.mono (Nat.le_add_right _ 16)) h.aV f c d e;grind
theorem JE{c:Bool}(h:ev key gl nf env J env1 J1 G)(I:ck gl o.guard env J key o.op=some (c,v,J'))(d:o.guard=none\/∃t b y,o.guard=some (t,b)/\e3 env t b=some y)(i:nn gl o.guard o.dst=true)(j:kx nf o.dst=true):
 (cB env G o.guard=true->c=true->∃v1 bp,DStep xb P o key env1 J1 true v1 bp/\ev (key+16) (hY gl o.guard o.dst) nf (gi o.dst v env) J' (ee env1 o.dst true v1) bp (λk=>if o.dst=some k then true else G k))/\
 (cB env G o.guard=false->o.op.neutral=true->∃v1,DStep xb P o key env1 J1 false v1 J1/\ev (key+16) (hY gl o.guard o.dst) nf (gi o.dst v env) J (ee env1 o.dst false v1) J1 (λk=>if o.dst=some k then false else G k)):=by
 obtain⟨⟨v1,f,m⟩,q,aV⟩:=RA h.gC h.ao h.eD I;have g:=Bz h.gC d;refine⟨λao n=>?_,λao r=>?_⟩
 . obtain⟨p,bp,h1,a,l⟩:=m ao n;rw[ao]at g;have aj:o.op.drawn=true:=by
    generalize o.op=s at I;cases s<;>first|rfl|(simp[ck]at I)
   have hs:DStep xb P o _ _ J1 _ v1 _:= .op g aj h1 (λ_=>a) (.inr rfl);have e:(if o.op.neutral then J1 else bp)=bp:=by
    grind[xp]
   rw[e]at hs;refine⟨v1,bp,hs,?_⟩;have:=ev.bind (h.gC.mono q) h.ao l h.aV f d i j;grind
 . rw[aV r]at f;obtain⟨h1,a⟩:=BB h d ao i j f;exact⟨v1,h1,a⟩
theorem Hh{x:bo U}(h:x.qD=true):x.nQ.bS []=x.nQ:=by
 cases x<;>simp[bo.qD]at h<;>try rfl
 rename_i f caps;cases caps with
 |nil=>rfl
 |cons=>grind
theorem FU:∀{x:bF U},gn x=true->(fx x).bS []=fx x
 |.c x,h=>by grind[gn,fx,V.bS,Hh]
 |.agg cs,h=>by
  grind[gn,fx,V.bS,List.map_congr_left,Hh]
 |.ba vs,h=>by
  simp[fx,V.bS];rw[go vs h]
where go:∀(vs:List (bF U)),gn.go vs=true->V.bS.go [] (fx.go vs)=fx.go vs
 |[],_=>rfl
 |v::vs,h=>by
  simp[gn.go]at h;simp[fx.go,V.bS.go,FU h.1,go vs h.2]
def fm(P:Program)(fo:fl U):Prop:=∀f s,s∈fo f->s.f=f/\gL P f=true/\gT P s
theorem FV{a:bf U}{x:bo U}{d:C}(h:b8 N a x d)(hs:x.iT a=true):d=x.hE a:=by
 cases h<;>simp[bo.iT]at hs<;>try rfl
 . grind[bo.hE]
 grind[bo.hE]
theorem AH{a:bf U}:∀{vs:List (bF U)} {i:Nat},(hC.go a vs)[i]?=(vs[i]?).map (hC a)
 |[],i=>by rfl
 |v::vs,0=>by rfl
 |v::vs,i+1=>by simp[hC.go,AH]
theorem QY{a:bf U}:∀{vs:List (bF U)} {i:Nat} {v:bF U},jZ.go a vs=true->vs[i]?=some v->jZ a v=true
 |[],i,v,_,h=>by grind
 |x::vs,0,v,hs,h=>by grind[jZ.go]
 |x::vs,i+1,v,hs,h=>by simp[jZ.go]at hs;exact QY hs.2 (by simpa using h)
theorem Gk{a:bf U}:∀{xs:List (bo U)} {b:List C},a6 (b8 N a) xs b->(∀x,x∈xs->x.iT a=true)->b=xs.map (bo.hE a)
 |[],[],_,_=>rfl
 |x::xs,d::b,.cons h1 c,hs=>by
  rw[l6,<-FV h1 (hs x (by simp)),<-Gk c (λx I=>hs x (by grind))]
theorem Iz{a:bf U}{x:bF U}{d:V}(h:bR N a x d):jZ a x=true->d=hC a x:=by
 induction h with
 |c h=>intro hs;rw[FV h hs];rfl
 |agg h=>
  grind[jZ,hC,Gk]
 |ba xs b ag h ih=>
  intro hs
  congr 1
  apply uY;intro i;rw[AH];cases I:xs[i]? with
  |none=>grind
  |some x=>
   have e:=(dL.1 I).1;have aj:=df (l:=b) (i:=i) (by omega);rw[aj]
   congr 1
   exact ih i x _ I aj (QY hs I)
theorem JF{a:bf U}{x:cM U}{y:bT}(h:hc N a x y)(hs:fQ a x=true):y=q1 a x:=by
 cases h with
 |box h=>grind[fQ,q1,Gk]
 |arr t l=>rfl
 |set ks=>rfl
 |buf E s=>rfl
 |b1 h=>grind[fQ,q1,FV]
 |cx=>grind[fQ]
 |rows=>grind[fQ]
theorem w5{a:bf U}:∀{l:bf U} {b:Nat},aP (j3 a l) b=(aX l b).map (q1 a)
 |[],b=>rfl
 |(k,x)::r,b=>by
  simp[j3,aP,aX];cases h:Nat.beq k b with
  |true=>simp_all
  |false=>rw[av (hh h)];exact w5
theorem J7{k:Nat}:∀{v:V},v.b' (back [] k)=v.sh k
 |.c x=>by rfl
 |.agg cs=>by rfl
 |.ba vs=>by simp[V.b',V.sh];rw[go vs]
where go:∀(vs:List V),V.b'.go _ vs=V.sh.go k vs
 |[]=>rfl
 |v::vs=>by simp only[V.b'.go,V.sh.go];rw[J7,go vs]
theorem HH{k:Nat}:∀{s:a8},gN J1 [] (back [] k) s=lz J1 k s
 |[]=>rfl
 |(b,x)::r=>by
  simp[gN];rw[HH];rfl
theorem Cl:∀{ss:List ft} {j:Nat} {a:eE U} {i:Nat} {x:cM U},aX (gQ j ss a) i=some x->j<=i/\i<j+ss.length
 |[],j,a,i,x,h=>by grind[gQ,aX]
 |s::ss,j,a,i,x,h=>by
  simp[gQ]at h;split at h
  . simp[aX]at h;split at h
    . simp_all
    . have:=Cl h;grind
  . have:=Cl h;grind
theorem RR{bs:aZ}:∀{caps:aZ},(∀c,c∈caps->pos bs c=some c)->oB bs caps=some caps
 |[],_=>rfl
 |c::cs,h=>by simp[oB,h c _,RR (caps:=cs) (λx I=>h x (by grind))]
theorem uj{a:bf U}(d:∀b x,aX a b=some x->b<N){x:bo U}(hs:x.iT a=true):b8 N a x (x.hE a)/\dC ((x.hE a).bS (List.range N)) (x.hE a):=by
 have al:∀b,hasB a b=true->pos (List.range N) b=some b:=by
  grind[hasB,lV]
 cases x with
 |t c=>exact⟨.t c,dC.refl _⟩
 |ptr b o=>
  refine⟨.ptr b o,?_⟩;simp only[bo.hE,C.bS,al b hs];exact dC.refl _
 |cH b ty i o=>
  refine⟨.cH b ty i o,?_⟩;simp only[bo.hE,C.bS,al b hs];exact dC.refl _
 |dF ty x o=>exact⟨.dF ty x o,dC.refl _⟩
 |arr b=>
  simp only[bo.iT]at hs;split at hs
  . rename_i y ak;split at hs
    . rename_i p aj;simp only[bo.hE,ak,aj];refine⟨.arr b p.1 p.2 (d b y ak) λz g q e=>?_,?_⟩
      . grind
      grind[C.bS,hasB,dC.refl]
    grind
  grind
 |gG b j len=>grind[bo.iT]
 |sub b j len=>grind[bo.iT]
 |pre b h=>grind[bo.iT]
 |mp b=>
  refine⟨.mp b,?_⟩;simp only[bo.hE,C.bS,al b hs];exact dC.refl _
 |en b=>grind[bo.iT]
 |cj b=>
  simp only[bo.iT]at hs;split at hs
  . rename_i y ak;split at hs
    . rename_i p aj;simp only[bo.hE,ak,aj];refine⟨.cj b p.2 (d b y ak) λz g q e=>?_,?_⟩
      . grind[cR]
      grind[C.bS,hasB,dC.refl]
    grind
  grind
 |aT=>exact⟨.aT,dC.refl _⟩
 |eU=>exact⟨.eU,dC.refl _⟩
 |eT=>exact⟨.eT,dC.refl _⟩
 |fn f caps=>
  simp only[bo.iT]at hs;refine⟨.fn f caps,?_⟩;grind[RR,bo.hE,C.bS,dC.refl]
 |dead=>grind[bo.iT]
theorem uc{a:bf U}(c:∀b x,aX a b=some x->b<N):∀{xs:List (bo U)},(∀x,x∈xs->x.iT a=true)->a6 (b8 N a) xs (xs.map (bo.hE a))/\a6 dC ((xs.map (bo.hE a)).map (C.bS (List.range N))) (xs.map (bo.hE a))
 |[],_=>⟨.nil,.nil⟩
 |x::xs,hs=>by
  obtain⟨h1,d⟩:=uj c (hs x (by simp));obtain⟨e,f⟩:=uc c (xs:=xs) (λx I=>hs x (by grind));exact⟨.cons h1 e,.cons d f⟩
theorem PS{a:bf U}:∀{vs:List (bF U)},(hC.go a vs).length=vs.length
 |[]=>rfl
 |v::vs=>by simp[hC.go,PS]
theorem xE{N:Nat}{a:bf U}(e:∀b x,aX a b=some x->b<N):∀{x:bF U},jZ a x=true->bR N a x (hC a x)/\gj ((hC a x).bS (List.range N)) (hC a x)
 |.c x,hs=>by
  obtain⟨h1,f⟩:=uj e (x:=x) (by grind[jZ]);exact⟨.c h1,.c f⟩
 |.agg cs,hs=>by
  simp[jZ,fk]at hs;obtain⟨h1,f⟩:=uc e hs;exact⟨.agg h1,.agg f⟩
 |.ba vs,hs=>by
  have:=go e vs hs;refine⟨.ba _ _ (by rw[PS]) λi x d I aj=>?_,.ba _ _ (by rw[AG]) λi x y I ak=>?_⟩
  . grind[AH]
  grind[Bo,AH]
where go {N:Nat} {a:bf U} (e:∀b x,aX a b=some x->b<N):∀(vs:List _),jZ.go a vs=true->∀x,x∈vs->bR N a x (hC a x)/\gj ((hC a x).bS (List.range N)) (hC a x)
 |[],_=>by simp
 |v::vs,hs=>by
  simp[jZ.go]at hs;have h1:=xE e hs.1;have f:=go e vs hs.2;grind
theorem RS {fo:fl U}(ab:fm P fo){o:b5}{f:Nat}{args:List aO}(ah:o.op= .call f args)(h:ev key gl nf env J env1 J1 G)(u:o.guard=none)(Y:nn gl o.guard o.dst=true)(Z:kx nf o.dst=true)
 {k:bf U->bF U->Option R}{r:R}:∀{ss:List (cA U)},(∀s,s∈ss->s∈fo f)->xL (λe=>kP gl o.guard e args) env J key k ss=some r->
 ∃v v1 J' bp,k J' v=some r/\DStep xb P o key env1 J1 true v1 bp/\ev (key+16) (hY gl o.guard o.dst) nf (gi o.dst v env) J' (ee env1 o.dst true v1) bp (λi=>if o.dst=some i then true else G i)
 |[],_,I=>by grind[xL]
 |s::ss,ae,I=>by
  simp only[xL]at I;split at I
  . exact RS ab ah h u Y Z (λs hs=>ae s (by grind)) I
  . rename_i aa al;unfold DP at al;split at al
    . rename_i vs af ai;simp only[cO]at af;split at al
      . rename_i a H av;rw[fk]at H;obtain⟨aF,aS,aG⟩:=ab f s (ae s (by simp));obtain⟨p,B,an,A,ap⟩:=rI h.gC h.ao ai;have aH:s.st=[]:=(by grind[isNil]);have O:=hj af.2;obtain⟨g,hres,C⟩:=j5.1 I;split at C
        . rename_i w;simp only[cO]at w;obtain⟨ys,f1,ag,g1⟩:=s3 (N:=key) (Jc:=([]:bf U)) (uP) (λj b aQ aU=>by grind) av
          obtain⟨M,aN,aq,dw⟩:=g1 B A.length (λi x d I aj=>by
           obtain⟨L,h1,t⟩:=A.get I
           rw[aj]at h1;cases h1;omega)
          have aT:aJ.cells U.D s.ts aa=a:=aJ.fa al;have aw:s.args aa=ys:=by
           unfold cA.args;have:=f1 [];grind
          have T:s.hS aa=[]:=by unfold cA.hS;rw[aH];rfl
          have ad:s.st.length=0:=by grind
          have W:=aG aa g hres M [] (by
           rw[aw,T,ad]
           refine a6.kM (by rw[ag,aN,A.length]) λi x d I aj=>dw i x d I aj) (by rw[T];intro b x I;grind[aX])
          rw[aF,ad]at W;have aI:a6 gj B M:=by
           refine a6.kM aN.symm λi d L aj aA=>?_;have ai:=aq i d L aj aA;obtain⟨x,I,F⟩:=(A.flip (R':=λd x=>bR key J x d) λ_ _ h=>h).get aj;have hs:=H x (eV I);have:=xD F hs;grind[FU]
          have ay:=dY.conv aI (J:=[]) (λb aQ I=>by grind[aP]) W;have n:∀b x,aX (s.rest g) b=some x->b<16/\fQ (s.rest g) x=true:=by
           intro b x I;have aD:∀{l:bf U},aX l b=some x->(b,x)∈l:=by
            intro l;induction l with
            |nil=>grind[aX]
            |cons e r ih=>
             obtain⟨aW,e⟩:=e;intro h;simp only[aX]at h;split at h
             . simp_all
             grind
           have:=w.2;unfold Gz at this;rw[fk]at this;have t:=this _ (aD I);simp only[cO]at t;exact⟨by have:=hj t.1;omega,t.2⟩
          have q:∀b x,aX (s.rest g) b=some x->b<s.eA.length:=by
           intro b x I;have:=(Cl I).2;omega
          have az:dY P f B [] 0 (λaM s' am=>aM=hC (s.rest g) (s.res g)/\s'=j3 (s.rest g) (s.rest g)/\am=s.eA.length):=by
           refine dY.tidy ay ?_
           rintro aY s1 aR ⟨rfl,aK,aL⟩
           have aE:=Iz aK w.1;subst aE;refine⟨List.range s.eA.length,_,_,List.nodup_range,rfl,?_,?_,rfl,rfl,by simp⟩
           . exact(xE q w.1).2
           . intro b x I;rw[w5,bx]at I;obtain⟨K,z,rfl⟩:=I;obtain⟨h1,y,t,ar⟩:=aL b K z;have ak:=JF ar (n b K z).2;subst ak;have ht:=wX (bs:=List.range s.eA.length) (i:=0) (j:=b) (r:=List.range s.eA.length) (by simp[h1]) t;rw[gS]at ht;refine⟨_,ht,?_⟩;cases K with
             |box cs=>
              have m:=(n b _ z).2;simp only[fQ,fk]at m;exact .box (uc q m).2
             |arr ty l=>exact .arr
             |rows sz l=>have m:=(n b _ z).2;simp[fQ]at m
             |set ks=>exact .same
             |buf E s=>exact .same
             |b1 E c=>have m:=(n b _ z).2;exact .b1 (uj q (by simpa[fQ]using m)).2
             |cx=>have m:=(n b _ z).2;simp[fQ]at m
          have ax:V.aA.V.dr (lt 0) B=true:=by
           refine rE λi d aj=>?_;obtain⟨x,I,F⟩:=(A.flip (R':=λd x=>bR key J x d) λ_ _ h=>h).get aj;have hs:=H x (eV I);have:=xD F hs;subst this;exact(ui (N:=key) (J:=J) hs).2 _
          have ao:fO env1 o.guard=some true:=by rw[u];rfl
          have aC:(j3 (s.rest g) (s.rest g)).all (λx=>decide (x.1<16))=true:=by
           have aB:=w.2;unfold Gz at aB;have:∀{l:bf U},(l.all λp=>Nat.ble (p.1+1) 16&&fQ (s.rest g) p.2)=true->(j3 (s.rest g) l).all (λx=>decide (x.1<16))=true:=by
            intro l;induction l with
            |nil=>intro _;rfl
            |cons e r ih=>
             obtain⟨b,x⟩:=e;intro h;simp only[l5,cO]at h;simp only[j3,l5,cO,gg];exact⟨by have:=hj h.1.1;omega,ih h.2⟩
           grind
          have X:bR s.eA.length (s.rest g) (s.res g) (hC (s.rest g) (s.res g))/\cm s.eA.length (s.rest g) (j3 (s.rest g) (s.rest g)):=by
           refine⟨(xE q w.1).1,λb x I=>?_⟩;refine⟨q b x I,q1 (s.rest g) x,by rw[w5,I];rfl,?_⟩;cases x with
           |box cs=>
            have m:=(n b _ I).2;simp only[fQ,fk]at m;exact .box (uc q m).1
           |arr ty l=>exact .arr ty l
           |rows sz l=>have m:=(n b _ I).2;simp[fQ]at m
           |set ks=>exact .set ks
           |buf E s=>exact .buf E s
           |b1 E c=>have m:=(n b _ I).2;exact .b1 (uj q (by simpa[fQ]using m)).1
           |cx=>have m:=(n b _ I).2;simp[fQ]at m
          have cr:s.eA.length<=([]:aZ).length+16:=(by simpa using O);have Q:=cm.Da (key:=key) (bs:=[]) uP (by simp) cr h.eD rfl X.2;have S:=bR.b' (key:=key) (bs:=[]) (J:=J) uP (by simp) cr h.eD X.1;have au:=BA (key:=key) (bs:=[]) (Jr:=s.rest g) uP (by simp) h.eD rfl;rw[J7]at S;rw[HH]at Q;refine⟨_,(hC (s.rest g) (s.res g)).sh key,_,lz J1 key (j3 (s.rest g) (s.rest g)),C,.own ah ao u an (ap (by rw[u];rfl)) ax O aC az rfl,?_⟩;have:=ev.bind (gd:=o.guard) (dst:=o.dst) (nf:=nf) (h.gC.mono au) h.ao Q h.aV S (.inl u) Y Z;rw[u]at this⊢;exact this
        . cases C
      . cases al
    . cases al
theorem HI:∀{args:List aO} {p:Prop} {a:List V},gW env1 args=some (p,a)->kg env1 args=a.flatMap V.fN
 |[],p,a,h=>by simp[gW]at h;rw[h.2];rfl
 |x::xs,p,a,h=>by
  simp only[gW,bk,bx]at h;obtain⟨⟨c,v0⟩,h1,⟨d,e⟩,b,_,rfl⟩:=h;have ih:=HI b;grind[kg]
theorem JG{c:bf U}{x:bo U}{d:C}(h:b8 N c x d):∀b,b∈x.fN->b∈d.fN:=by
 intro b a;cases h<;>simp only[bo.fN]at a⊢<;>first|exact a|(simp at a)
theorem IA{e:bf U}:∀{xs:List (bo U)} {c:List C},a6 (b8 N e) xs c->∀b,b∈xs.flatMap bo.fN->b∈c.flatMap C.fN
 |[],[],_,b,a=>a
 |x::xs,d::c,.cons h1 f,b,a=>by
  simp only[j6,gY]at a⊢;rcases a with a|a
  . grind[JG]
  . exact .inr (IA f b a)
theorem aam{e:bf U}{x:bF U}{d:V}(h:bR N e x d):∀b,b∈x.fN->b∈d.fN:=by
 intro b a;cases h with
 |c h=>exact JG h b a
 |agg h=>exact IA h b a
 |ba=>grind[bF.fN]
theorem IB{e:bf U}:∀{xs:List (bF U)} {c:List V},a6 (bR N e) xs c->∀b,b∈xs.flatMap bF.fN->b∈c.flatMap V.fN
 |[],[],_,b,a=>a
 |x::xs,d::c,.cons h1 f,b,a=>by
  simp only[j6,gY]at a⊢;rcases a with a|a
  . grind[aam]
  . exact .inr (IB f b a)
theorem IC{l:aZ}{b:Nat}(h:kG l b=true):b∈l:=by
 simp_all[kG]
theorem E8 {fo:fl U}(ad:fm P fo){o:b5}{f:Nat}{args:List aO}(ah:o.op= .call f args)(h:ev key gl nf env J env1 J1 G)(H:o.guard=none\/∃t b y,o.guard=some (t,b)/\e3 env t b=some y)(Z:nn gl o.guard o.dst=true)(ab:kx nf o.dst=true)
 (K:cB env G o.guard=true){k:bf U->bF U->Option R}{r:R}:∀{ss:List (cA U)},(∀s,s∈ss->s∈fo f)->tO xb (λe=>kP gl o.guard e args) env J key k ss=some r->
 ∃v v1 J' bp,k J' v=some r/\DStep xb P o key env1 J1 true v1 bp/\ev (key+16) (hY gl o.guard o.dst) nf (gi o.dst v env) J' (ee env1 o.dst true v1) bp (λi=>if o.dst=some i then true else G i)
 |[],_,I=>by grind[tO]
 |s::ss,af,I=>by
  simp only[tO]at I;split at I
  . exact E8 ad ah h H Z ab K (λs hs=>af s (by grind)) I
  . rename_i bs aa al;obtain⟨aM,a3,aQ⟩:=ad f s (af s (by simp));obtain⟨g,hres,C⟩:=j5.1 I;unfold O2 at al;split at al
    . grind
    . rename_i vs aT;split at al;split at al
      . grind
      . rename_i q;simp only[cO,fk]at q;obtain⟨_,ax,F,ay,az,aA⟩:=q;split at al
        . rename_i a b ar T;split at al
          . rename_i a5 aG;cases al;have b3:=wY ax;have aF:=λb q=>hj (F b q).1;have ae:=cR ay;have a7:=hj az;have cr:=hj aA;obtain⟨p,L,O,D,am⟩:=rI h.gC h.ao aT;have aB:=xK b3 T;obtain⟨ys,f1,ag,g1⟩:=s3 (N:=key) b3 aB ar
            obtain⟨Q,aN,a2,dw⟩:=g1 L D.length (λi x d I aj=>by
             obtain⟨a1,h1,S⟩:=D.get I
             grind)
            obtain⟨aZ,t1,t2⟩:=Bj b3 h.eD T;have a4:=aJ.fa aG;have av:s.args aa=ys:=(by grind[cA.args]);have aw:s.hS aa=gQ 0 s.st b:=by grind[cA.hS]
            have X:=aQ aa g hres Q aZ (by
             rw[av,aw,<-ae]
             exact a6.kM (by rw[ag,aN,D.length]) λi x d I aj=>dw i x d I aj) (by grind)
            rw[aM,<-ae]at X;have aR:a6 gj (L.map (V.bS bs)) Q:=by
             grind[a6.kM]
            have aC:=dY.conv aR t1 X;split at C
            . rename_i c z W;simp only[cO]at z;split at C
              . rename_i aE;subst aE;have n:∀b x,aX (s.rest g) b=some x->fQ (s.rest g) x=true:=by
                 intro b x I;have a8:∀{l:bf U},aX l b=some x->(b,x)∈l:=by
                  intro l;induction l with
                  |nil=>intro h;simp[aX]at h
                  |cons e r ih=>
                   obtain⟨a9,e⟩:=e;intro h;simp only[aX]at h;split at h
                   . simp_all
                   grind
                 have:=z.2;unfold FN at this;grind
                have u:∀b x,aX (s.rest g) b=some x->b<s.eA.length:=by
                 intro b x I;have:=(Cl I).2;omega
                have aD:dY P f (L.map (V.bS bs)) (fv bs J1 0 bs) bs.length (λaY s' ai=>aY=hC (s.rest g) (s.res g)/\s'=j3 (s.rest g) (s.rest g)/\ai=s.eA.length):=by
                 refine dY.tidy aC ?_
                 rintro a' s1 a0 ⟨rfl,aU,aW⟩
                 have aL:=Iz aU z.1;subst aL;refine⟨List.range s.eA.length,_,_,List.nodup_range,?_,?_,?_,rfl,rfl,by simp⟩
                 . unfold keeps;grind
                 . exact(xE u z.1).2
                 . intro b x I;rw[w5,bx]at I;obtain⟨M,A,rfl⟩:=I;obtain⟨h1,y,S,B⟩:=aW b M A;have ak:=JF B (n b M A);subst ak;have ht:=wX (bs:=List.range s.eA.length) (i:=0) (j:=b) (r:=List.range s.eA.length) (by simp[h1]) S;rw[gS]at ht;refine⟨_,ht,?_⟩;cases M with
                   |box cs=>
                    have m:=n b _ A;simp only[fQ,fk]at m;exact .box (uc u m).2
                   |arr ty l=>exact .arr
                   |rows sz l=>have m:=n b _ A;simp[fQ]at m
                   |set ks=>exact .same
                   |buf E s=>exact .same
                   |b1 E c=>have m:=n b _ A;exact .b1 (uj u (by simpa[fQ]using m)).2
                   |cx=>have m:=n b _ A;simp[fQ]at m
                have au:=Bz h.gC H;have aK:(j3 (s.rest g) (s.rest g)).all (λx=>decide (x.1<bs.length+16))=true:=by
                 have aH:=z.2;unfold FN at aH;have:∀{l:bf U},(l.all λp=>Nat.ble (p.1+1) (bs.length+16)&&fQ (s.rest g) p.2)=true->(j3 (s.rest g) l).all (λx=>decide (x.1<bs.length+16))=true:=by
                  intro l;induction l with
                  |nil=>intro _;rfl
                  |cons e r ih=>
                   obtain⟨b,x⟩:=e;intro h;simp only[l5,cO]at h;simp only[j3,l5,cO,gg];exact⟨by have:=hj h.1.1;omega,ih h.2⟩
                 grind
                have Y:bR s.eA.length (s.rest g) (s.res g) (hC (s.rest g) (s.res g))/\cm s.eA.length (s.rest g) (j3 (s.rest g) (s.rest g)):=by
                 refine⟨(xE u z.1).1,λb x I=>?_⟩;refine⟨u b x I,q1 (s.rest g) x,by rw[w5,I];rfl,?_⟩;cases x with
                 |box cs=>
                  have m:=n b _ I;simp only[fQ,fk]at m;exact .box (uc u m).1
                 |arr ty l=>exact .arr ty l
                 |rows sz l=>have m:=n b _ I;simp[fQ]at m
                 |set ks=>exact .set ks
                 |buf E s=>exact .buf E s
                 |b1 E c=>have m:=n b _ I;exact .b1 (uj u (by simpa[fQ]using m)).1
                 |cx=>have m:=n b _ I;simp[fQ]at m
                have ap:=cm.Da (key:=key) (bs:=bs) b3 aF cr h.eD W Y.2;have aq:=bR.b' (key:=key) (bs:=bs) (J:=J) b3 aF cr h.eD Y.1;have an:=BA (key:=key) (bs:=bs) (Jr:=s.rest g) b3 aF h.eD W;have aI:∀b,b∈bs->∃x,aP J1 b=some x:=by
                 intro b q;have B:=(F b q).2.2;unfold hasB at B;split at B
                 . rename_i x I;obtain⟨_,y,ak,_⟩:=h.eD b x I;grind
                 . cases B
                have aS:∀b,b∈bs->b∈kg env1 args++xb:=by
                 intro b q;rw[HI O];have w:=(F b q).2.1;rw[lj]at w;rcases w with w|w
                 . exact List.mem_append_left _ (IB D b (IC w))
                 . exact List.mem_append_right _ (IC w)
                refine⟨_,(hC (s.rest g) (s.res g)).b' (back bs key),_,_,C,.raw ah (by rw[au,K]) rfl O (am K) b3 aF aI aS cr aK aD rfl,?_⟩;have:=ev.bind (gd:=o.guard) (dst:=o.dst) (nf:=nf) (h.gC.mono an) h.ao ap h.aV aq H Z ab;simp_all
              . cases C
            . cases C
          . cases al
        . cases al
theorem EV {fo:fl U}(T:fm P fo){o:b5}{f:Nat}{args:List aO}(n:o.op= .call f args\/(o.guard=none/\∃x q,o.op= .hD x args/\x.get env1=some (q,.c (.fn f []))/\q))(h:ev key gl nf env J env1 J1 G)(C:o.guard=none\/∃t b y,o.guard=some (t,b)/\e3 env t b=some y)(Q:nn gl o.guard o.dst=true)(S:kx nf o.dst=true)
 {g:Bool}(ao:g=cB env G o.guard){k:bF U->Option R}{r:R}:∀{ss:List (cA U)},(∀s,s∈ss->s∈fo f)->vl (λe=>kP gl o.guard e args) env g k ss=some r->
 ∃v v1,k v=some r/\DStep xb P o key env1 J1 g v1 J1/\ev (key+16) (hY gl o.guard o.dst) nf (gi o.dst v env) J (ee env1 o.dst g v1) J1 (λi=>if o.dst=some i then g else G i)
 |[],_,I=>by grind[vl]
 |s::ss,Z,I=>by
  simp only[vl]at I;split at I
  . exact EV T n h C Q S ao (λs hs=>Z s (by grind)) I
  . rename_i aa al;unfold DQ at al;split at al
    . rename_i vs aE A;split at al
      . rename_i a F ah;rw[fk]at F;obtain⟨ar,am,au⟩:=T f s (Z s (by simp));obtain⟨p,B,H,u,ad⟩:=rI h.gC h.ao A;have av:s.st=[]:=(by grind[isNil]);obtain⟨m,hres,E⟩:=j5.1 I;split at E
        . rename_i ab;obtain⟨ax,ay⟩:=ui (N:=key+16) (J:=J) ab;have L:=Bz h.gC C;rw[<-ao]at L;have af:ev (key+16) (hY gl o.guard o.dst) nf (gi o.dst (s.res m) env) J (ee env1 o.dst g (fx (s.res m))) J1 (λi=>if o.dst=some i then g else G i):=by
           have:=ev.bind (dst:=o.dst) (h.gC.mono (c'.more (by simp:key<=key+16))) h.ao (h.eD.mono (Nat.le_add_right key 16)) h.aV ax C Q S;grind
          refine⟨s.res m,fx (s.res m),E,?_,af⟩;have X:g=true->p/\V.aA.V.dr (lt 0) B=true/\(fx (s.res m)).aA (lt 0)=true/\dY P f B [] 0 (λaz _ _=>az=fx (s.res m)):=?_
          . rcases n with n|⟨W,x,q,n,I,aq⟩
            . exact .call n L H X
            . have z:g=true:=by rw[ao,W];rfl
              exact .hD n W z I aq am H (X z)
          intro z;rw[ai z]at hres;obtain⟨ys,f1,ag,g1⟩:=s3 (N:=key) (Jc:=([]:bf U)) (uP) (λj b aA aD=>by grind) ah
          obtain⟨K,aN,ae,dw⟩:=g1 B u.length (λi x d I aj=>by
           obtain⟨w,h1,aB⟩:=u.get I
           rw[aj]at h1;cases h1;omega)
          have aC:aJ.cells U.D s.ts aa=a:=aJ.fa al;have ak:s.args aa=ys:=by
           unfold cA.args;have:=f1 [];grind
          have M:s.hS aa=[]:=by unfold cA.hS;rw[av];rfl
          have Y:s.st.length=0:=by grind
          have O:=au aa m hres K [] (by
           rw[ak,M,Y]
           refine a6.kM (by rw[ag,aN,u.length]) λi x d I aj=>dw i x d I aj) (by rw[M];intro b x I;grind[aX])
          rw[ar,Y]at O;have aw:a6 gj B K:=by
           refine a6.kM aN.symm λi d w aj an=>?_;have A:=ae i d w aj an;obtain⟨x,I,l⟩:=(u.flip λ_ _ h=>h).get aj;exact aea (F x (eV I)) A l
          refine⟨ad (by grind),?_,ay _,?_⟩
          . refine rE λi d aj=>?_;obtain⟨x,I,l⟩:=(u.flip (R':=λd x=>bR key J x d) λ_ _ h=>h).get aj;exact aeb (F x (eV I)) l
          . refine dY.conv aw (λb aA I=>by simp[aP]at I) (O.mono λaF bp N' ap=>?_);exact xD ap.2.1 ab
        . cases E
      grind
    grind
where
 aea {x:bF U} {d w:V} (hs:gn x=true) (A:gj (d.bS []) w) (l:bR key J x d):gj d w:=by
  have:=xD l hs;grind[FU]
 aeb {x:bF U} {d:V} (hs:gn x=true) (l:bR key J x d):d.aA (lt 0)=true:=by
  have:=xD l hs;grind[ui]
theorem Bs {fo:fl U}(Q:fm P fo){f:Nat}{F:kc U}{cal:Env->List V->Prop}
 (X:∀{env':bQ U} {J2:bf U} {g:Env} {vs:List (bF U)},cS key J2 G env' g->gw gl env' G->F env'=some vs->∃j,a6 (bR key J2) vs j/\cal g j)
 (he:cS key J G env env1)(ao:gw gl env G)(aE:cm key J J1){k:bQ U->bf U->bF U->Option R}{r:R}:∀{ss:List (cA U)},(∀s,s∈ss->s∈fo f)->vm F env J key k ss=some r->
 ∃env' J2 g bp j,Conv kk key env1 J1 key g bp/\cS key J2 G env' g/\gw gl env' G/\(∀t b,e3 env' t b=e3 env t b)/\cal g j/\gL P f=true/\
  KE P f j bp key g (λZ s1=>∃u v,k env' u v=some r/\cS (key+16) u G env' g/\cm (key+16) u s1/\bR (key+16) u v Z)
 |[],_,I=>by grind[vm]
 |s::ss,Y,I=>by
  simp only[vm]at I;split at I
  . exact Bs Q X he ao aE (λs hs=>Y s (by grind)) I
  . rename_i env' J2 bs h al;obtain⟨aA,ap,aB⟩:=Q f s (Y s (by simp));obtain⟨aL,hres,q⟩:=j5.1 I;unfold O1 at al;split at al
    . grind
    . split at al;split at al
      . cases al
      . rename_i aR aP T;split at al
        . cases al
        . rename_i vs aD;split at al
          . cases al
          . rename_i m;simp only[cO,fk]at m;obtain⟨ah,ai,ak,am⟩:=m;split at al
            . rename_i a b ae K;split at al
              . rename_i aa ay;cases al;have b3:=wY ah;have aF:∀b,b∈bs->b<key:=λb m=>hj (ai b m);have C:=cR ak;have az:=hj am;obtain⟨g,bp,aw,B,y,W⟩:=tU (kk:=kk) (gl:=gl) T he aE;obtain⟨j,A,aq⟩:=X B (W ao) aD;have ar:=xK b3 K;obtain⟨ys,f1,ag,g1⟩:=s3 (N:=key) b3 ar ae
                obtain⟨E,aN,aQ,dw⟩:=g1 j A.length (λi x d I aj=>by
                 obtain⟨ab,h1,ad⟩:=A.get I
                 grind)
                obtain⟨aM,t1,t2⟩:=Bj b3 y K;have M:aJ.cells U.D s.ts h=a++b:=aJ.fa ay;have af:s.args h=ys:=by unfold cA.args;rw[M,f1]
                have H:s.hS h=gQ 0 s.st b:=by unfold cA.hS;rw[M,f1]
                have O:=aB h aL hres E aM (by
                 rw[af,H,<-C]
                 exact a6.kM (by rw[ag,aN,A.length]) λi x d I aj=>dw i x d I aj) (by rw[H,<-C];exact t2)
                rw[aA,<-C]at O;have aC:a6 gj (j.map (V.bS bs)) E:=by
                 refine a6.kM (by simp[aN]) λi d ab aj aS=>?_;grind
                have av:=dY.conv aC t1 O;split at q
                . cases q
                . rename_i c L;split at q
                  . rename_i ax;subst ax;have cr:s.eA.length<=bs.length+16:=az;refine⟨env',J2,g,bp,j,aw,B,W ao,λt b=>Mq T,aq,ap,?_⟩;intro au nt φ S a w R an aO aG;refine(hb.raw (n:=lt key) (key:=key) b3 aF av ?_ (λb m=>by simp[lt];exact aF b m) au nt φ S g a w R (λb h1 _=>yd h1) an aO aG)
                    rintro Z s1 N' ⟨rfl,aI,aK⟩
                    refine⟨cr,_,_,q,B.mono (BA b3 aF y L),cm.Da b3 aF cr y L aK,bR.b' b3 aF cr y aI⟩
                  . cases q
              . cases al
            . cases al
where
 Mr {env:bQ U} {b0:Nat} {ty:aH} {l:List (ty.den U.D)} {t:Nat} {b:Bool}:e3 (qJ b0 (⟨.slice ty,l⟩:Cell U.D) env) t b=e3 env t b:=by
  unfold e3;rw[Ci];cases aX env t with
  |none=>rfl
  |some v=>
   cases v with
   |c x=>
    cases x with
    |arr z=>grind[bF.cc,bo.cc]
    |cH z aU i o=>grind[bF.cc,bo.cc]
    |pre z h=>grind[bF.cc,bo.cc]
    |gG z aT h=>grind[bF.cc,bo.cc]
    |_=>rfl
   |agg cs=>rfl
   |ba vs=>rfl
 Mq {l:List (Nat×aH)} {env env':bQ U} {J J':bf U} {t:Nat} {b:Bool} (h:jN l env J=some (env',J')):e3 env' t b=e3 env t b:=by
  induction l generalizing env J with
  |nil=>grind[jN]
  |cons p l ih=>
   simp only[jN]at h;split at h
   . rename_i e s h1;have ad:e3 e t b=e3 env t b:=by
      unfold vj at h1;split at h1
      . split at h1
        . cases h1;exact Mr
        grind
      . split at h1
        . cases h1;exact Mr
        grind
      grind
     grind
   grind
theorem HJ{fo:fl U}(u:fm P fo)(h:ev key gl nf env J env1 J1 G){k:eo->ju->bQ U->bf U->Option R}{r:R}(I:qL fo (some xb) o key gl nf env J k=some r):
 ∃g v1 bp M T env' J' V,DStep xb P o key env1 J1 g v1 bp/\k M T env' J'=some r/\ev (key+16) M T env' J' (ee env1 o.dst g v1) bp V:=by
 unfold qL at I;split at I
 . grind
 . rename_i O;simp only[cO]at O;obtain⟨i,l⟩:=O;split at I
   . rename_i bV;split at I
     . rename_i z w;have X:=Hg h.ao h.aV bV;obtain⟨h1,e⟩:=BB (P:=P) h (B6 w) X i l (GQ (U:=U) (N:=key+16) (J:=J));exact⟨_,_,_,_,_,_,_,_,h1,I,e⟩
     grind
   . split at I
     . rename_i f args n;split at I
       . split at I
         . rename_i g gd ao a;have p:o.guard=none\/∃t b y,o.guard=some (t,b)/\e3 env t b=some y:=(by grind[B6]);have m:g=cB env G o.guard:=Bq h.ao ao;split at I
           . obtain⟨v,v1,J',bp,h1,e,j⟩:=E8 (fo:=fo) u n h p i l (by grind) (λs hs=>hs) I;exact⟨_,_,_,_,_,_,_,_,e,h1,j⟩
           . have F:cB env G o.guard=false:=by grind
             have B:ev key gl (gd::nf) env J env1 J1 G:=⟨h.gC,h.ao,h.eD,λz w=>by
              rcases fg.1 w with rfl|K
              . grind
              . exact h.aV z K⟩
             have E:kx (gd::nf) o.dst=true:=by
              cases aj:o.dst with
              |none=>rfl
              |some d=>
               simp_all[kx,l5,cO,nn]
             obtain⟨h1,e⟩:=BB (P:=P) B p F i E (GQ (U:=U) (N:=key+16) (J:=J));exact⟨_,_,_,_,_,_,_,_,h1,I,e⟩
         grind
       unfold G7 at I;split at I
       . rename_i a;simp only at I;split at I
         case h_2=>
          obtain⟨v,v1,J',bp,h1,e,j⟩:=E8 (fo:=fo) u n h (.inl a) i l (by rw[a];rfl) (λs hs=>hs) I;grind
         rw[a]at I;obtain⟨v,v1,J',bp,h1,e,j⟩:=RS (fo:=fo) u n h a i l (k:=λJ v=>k (hY gl o.guard o.dst) nf (gi o.dst v env) J) (λs hs=>hs) (by rw[a];omega);exact⟨_,_,_,_,_,_,_,_,e,h1,j⟩
       . rename_i gd a;split at I
         . rename_i g ao;rw[a]at I ao;obtain⟨v,v1,h1,e,j⟩:=EV (fo:=fo) u (.inl n) h (by grind[B6]) i l (g:=g) (by rw[a];exact Bq h.ao ao) (λs hs=>hs) (by rw[a];omega);rw[a]at j;exact⟨_,_,_,_,_,_,_,_,e,h1,j⟩
         grind
     . rename_i x args n;split at I
       . grind
       . rename_i Z f aj a Y;obtain⟨q,v1,a1,a2,a3⟩:=cf h.gC h.ao Y;have:=a2.C9;subst this;obtain⟨v,v1,h1,e,j⟩:=EV (xb:=xb) (fo:=fo) u (.inr ⟨a,x,q,n,a1,a3 rfl⟩) h (.inl a) i l (g:=true) (by rw[a];rfl) (λs hs=>hs) (by rw[a];omega);rw[a]at j;exact⟨_,_,_,_,_,_,_,_,e,h1,j⟩
       grind
     . split at I
       . cases I
       . rename_i c v J' A;split at I
         . rename_i a;split at I
           . rename_i C;rw[a]at A;obtain⟨v1,bp,h1,e⟩:=(JE (P:=P) (o:=o) h (by rw[a];exact A) (.inl a) i l).1 (by rw[a];rfl) C;rw[a]at e;exact⟨_,_,_,_,_,_,_,_,h1,I,e⟩
           . cases I
         . rename_i gd a;split at I
           . cases I
           . rename_i g ao;have p:o.guard=none\/∃t b y,o.guard=some (t,b)/\e3 env t b=some y:=by rw[a];exact B6 ao
             have m:g=cB env G o.guard:=by rw[a];exact Bq h.ao ao
             have L:=JE (P:=P) (o:=o) (xb:=xb) h A p i l;split at I
             . rename_i S;split at I
               . rename_i D;cases Q:g with
                 |true=>
                  rw[Q]at D m;simp at D;obtain⟨v1,bp,h1,e⟩:=L.1 m.symm D;have W:J'=J:=(RA h.gC h.ao h.eD A).ad' S;rw[W]at e;exact⟨_,_,_,_,_,_,_,_,h1,I,e⟩
                 |false=>
                  rw[Q]at m;obtain⟨v1,h1,e⟩:=L.2 m.symm S;exact⟨_,_,_,_,_,_,_,_,h1,I,e⟩
               . cases I
             . split at I
               . rename_i H;split at I
                 . rename_i C;obtain⟨v1,bp,h1,e⟩:=L.1 (by rw[<-m];exact H) C;exact⟨_,_,_,_,_,_,_,_,h1,I,e⟩
                 . cases I
               . rename_i H;have F:cB env G o.guard=false:=by rw[<-m];simpa using H
                 have B:ev key gl (gd::nf) env J env1 J1 G:=⟨h.gC,h.ao,h.eD,λz w=>by
                  rcases fg.1 w with rfl|K
                  . grind
                  . exact h.aV z K⟩
                 have E:kx (gd::nf) o.dst=true:=by
                  cases aj:o.dst with
                  |none=>rfl
                  |some d=>
                   rw[aj]at l i;rw[a]at i;simp only[kx,l5,cO];simp only[kx]at l;simp only[nn,cO]at i;grind
                 obtain⟨h1,e⟩:=BB (P:=P) B p F i E (GQ (U:=U) (N:=key+16) (J:=J));exact⟨_,_,_,_,_,_,_,_,h1,I,e⟩
theorem RT{fo:fl U}(N:fm P fo)(h:ev key gl nf env J env1 J1 G){k:eo->ju->bQ U->bf U->Option R}{r:R}(I:qL fo none o key gl nf env J k=some r)
 (bE:∀D X env' J' m bp ae,k D X env' J'=some r->ev (key+16) D X env' J' m bp ae->K m bp):
 ∃fb af,Conv kk key env1 J1 key fb af/\vz P o key fb af K:=by
 by_cases d:qL fo (some []) o key gl nf env J k=some r
 . obtain⟨g,v1,bp,D,X,env',J',ae,h1,al,am⟩:=HJ N h d;exact⟨env1,J1,Conv.refl,.inl (h1.gK (bE _ _ _ _ _ _ _ al am))⟩
 . unfold qL at I d;split at I
   . grind
   . rename_i M;rw[M]at d;simp only[cO]at M;obtain⟨y,ah⟩:=M;split at I
     . grind
     . rename_i bV;rw[bV]at d;simp only at d;split at I
       . rename_i f args i;rw[i]at d;simp only at d;split at I
         . rename_i T;rw[T]at d;exact absurd I d
         rename_i T;rw[T]at d;unfold G7 at I d;split at I
         . rename_i n;rw[n]at I;obtain⟨env',J2,m,bp,j,c1,c2,c3,c4,⟨p,O,Q⟩,ag,E⟩:=Bs (kk:=kk) (P:=P) N (f:=f) (cal:=λe vs=>∃p,gW e args=some (p,vs)/\p)
            (λhe ao u=>by
             obtain⟨p,j,A,B,C⟩:=rI he ao u
             exact⟨j,B,p,A,C rfl⟩) h.gC h.ao h.eD (λs hs=>hs) I
           refine⟨m,bp,c1,.inr ⟨by rw[n];rfl,f,j,.inl ⟨args,p,i,O,Q⟩,?_⟩⟩;intro au nt φ S a w F L ad W;refine(E au nt φ S a w F L ad W).mono ?_
           rintro e w' ⟨v,ab,bg,bj,s1,rfl,⟨ai,v3,bn,bt,bY,cw⟩,Y,Z,aa⟩
           refine⟨v,ab,bg,bj,s1,rfl,?_,Y,Z,aa⟩
           have H:=ev.bind (gd:=none) (dst:=o.dst) (nf:=nf) bt c3 bY (λg ao=>by
            obtain⟨t,b⟩:=g;have h0:=h.aV _ ao;simp only[cB]at h0⊢
            grind) cw (.inl rfl) (by rw[n]at y;exact y) ah
           exact bE _ _ _ _ _ _ _ bn H
         grind
       . rename_i x args i;split at I
         . rename_i f caps aj n ay;obtain⟨env',J2,m,bp,j,c1,c2,c3,c4,⟨q,p,l,z,av,aw,O,Q,ar⟩,ag,E⟩:=Bs (kk:=kk) (P:=P) N (f:=f) (cal:=λe vs=>∃q p l z,x.get e=some (q,.c (.fn f l))/\q/\gW e args=some (p,z)/\p/\vs=z++l.map λb=>V.c (.ptr b 0))
            (λhe ao u=>by
             split at u
             . rename_i ax l az aN ak;split at u
               . rename_i an;have:=cR an;subst this;cases u;obtain⟨q,v1,a1,a2,a3⟩:=cf he ao aN;have:=a2.C9;subst this;obtain⟨p,j,A,B,C⟩:=rI he ao ak;refine⟨j++l.map λb=>V.c (.ptr b 0),B.append ?_,q,p,l,j,a1,a3 rfl,A,C rfl,rfl⟩;exact a6.map_map (a6.self (λb=>.c (.ptr b 0)) _)
               . cases u
             grind) h.gC h.ao h.eD (λs hs=>hs) I
           refine⟨m,bp,c1,.inr ⟨by rw[n];rfl,f,j,.inr ⟨x,args,q,p,l,z,i,av,aw,O,Q,ag,ar⟩,?_⟩⟩;intro au nt φ S a w F L ad W;refine(E au nt φ S a w F L ad W).mono ?_
           rintro e w' ⟨v,ab,bg,bj,s1,rfl,⟨ai,v3,bn,bt,bY,cw⟩,Y,Z,aa⟩
           refine⟨v,ab,bg,bj,s1,rfl,?_,Y,Z,aa⟩
           have H:=ev.bind (gd:=none) (dst:=o.dst) (nf:=nf) bt c3 bY (λg ao=>by
            obtain⟨t,b⟩:=g;have h0:=h.aV _ ao;simp only[cB]at h0⊢
            grind) cw (.inl rfl) (by rw[n]at y;exact y) ah
           exact bE _ _ _ _ _ _ _ bn H
         . contradiction
         . cases I
       . rename_i op ap aq;exfalso;refine d ?_;split
         . rename_i f args i;exact absurd i (ap f args)
         . rename_i x args i;exact absurd i (aq x args)
         . exact I
theorem YF{l:List (Nat×aH)}{p:bQ U×bf U}(h:y1 l env J=some p):∃l,jN l env J=some p:=by
 grind[y1]
theorem Yg{p:bQ U×bf U}(h:DO gl o env J=some p):∃l,jN l env J=some p:=by
 grind[DO,YF]
theorem Wf{fo:fl U}(d:fm P fo)(h:ev key gl nf env J env1 J1 G){k:eo->ju->bQ U->bf U->Option R}{r:R}(I:B5 fo none o key gl nf env J k=some r)
 (bE:∀c e env' J' b bp f,k c e env' J'=some r->ev (key+16) c e env' J' b bp f->K b bp):
 ∃fb a,Conv kk key env1 J1 key fb a/\vz P o key fb a K:=by
 simp[B5]at I;split at I
 . exact RT d h I bE
 . rename_i p al;obtain⟨l,ag⟩:=Yg al;obtain⟨aN,s1,c1,c2,c3,c4⟩:=tU ag h.gC h.eD
   obtain⟨i,j,d1,d2⟩:=RT d ⟨c2,c4 h.ao,c3,λg ao=>by
    have h0:=h.aV _ ao
    grind[cB,Bs.Mq]⟩ I bE
   exact⟨i,j,c1.trans d1,d2⟩
end
end
section
open Go
variable {xb:aZ}
variable {U:cE}{R:Type}
def h8(env:bQ U):aO->Option aZ
 |.const (.c (.t _))=>some []
 |.const (.c .aT)=>some []
 |.const (.agg _)=>some []
 |.const _=>none
 |.tmp k=>match aX env k with
  |some (.c (.ptr b _))=>some [b]
  |some (.c (.cH b _ _ _))=>some [b]
  |some (.c (.arr b))=>some [b]
  |some (.c (.sub b _ _))=>some [b]
  |some (.c (.pre b _))=>some [b]
  |some (.c (.gG b _ _))=>some [b]
  |some (.c (.mp b))=>some [b]
  |some (.c (.en b))=>some [b]
  |some (.c (.cj b))=>some [b]
  |some (.c .dead)=>none
  |some _=>some []
  |none=>none
def xM:bo U->Bool
 |.dead=>true
 |_=>false
def xN:bF U->Option aZ
 |.c x=>match xM x with
  |true=>none
  |false=>some x.fN
 |.agg cs=>match cs.any xM with
  |true=>none
  |false=>some (cs.flatMap bo.fN)
 |.ba _=>some []
def qI(env:bQ U):List aO->Option aZ
 |[]=>some []
 |.const v::r=>match qI env r with
  |some l=>some (v.fN++l)
  |none=>none
 |.tmp k::r=>match aX env k with
  |some v=>match xN v,qI env r with
   |some a,some l=>some (a++l)
   |_,_=>none
  |none=>none
def Hb(xb:aZ)(o:cF)(env:bQ U)(key:Nat):Option aZ:=
 match o with
 |.alloc _|.allocA _|.box _|.bslice .. |.mslice .. |.mkset=>some [key]
 |.allocS .. =>some [key,key+1]
 |.lkset x _=>h8 env x
 |.upset x _=>h8 env x
 |.appendB _ _ x _=>match h8 env x with
  |some a=>some (key::a)
  |none=>none
 |.ustr _ x _=>h8 env x
 |.call _ args=>match qI env args with
  |some l=>some ((List.range 16).map (key+·)++(l++xb))
  |none=>none
 |.load _ _ x=>h8 env x
 |.b2s x=>h8 env x
 |.store _ x _=>h8 env x
 |.append _ _ _ x y=>match h8 env x,h8 env y with
  |some a,some b=>some (key::(a++b))
  |_,_=>none
 |.appendT _ _ _ x y=>match h8 env x,h8 env y with
  |some a,some b=>some (a++b)
  |_,_=>none
 |_=>some []
def iW(xb:aZ)(o:cF)(env:bQ U)(key b:Nat):Option Bool:=
 match o with
 |.alloc _|.allocA _|.box _|.bslice .. |.mslice .. |.mkset=>some (Nat.beq b key)
 |.allocS .. =>some (Nat.beq b key||Nat.beq b (key+1))
 |.upset x _=>match h8 env x with
  |some l=>some (kG l b)
  |none=>none
 |.appendB _ _ x _=>match h8 env x with
  |some l=>some (Nat.beq b key||kG l b)
  |none=>none
 |.ustr _ x _=>match h8 env x with
  |some l=>some (kG l b)
  |none=>none
 |.store _ x _=>match h8 env x with
  |some l=>some (kG l b)
  |none=>none
 |.append _ _ _ x _=>match h8 env x with
  |some l=>some (Nat.beq b key||kG l b)
  |none=>none
 |.appendT _ _ _ x _=>match h8 env x with
  |some l=>some (kG l b)
  |none=>none
 |.call _ args=>match qI env args with
  |some l=>some ((Nat.ble key b&&Nat.ble (b+1) (key+16))||kG (l++xb) b)
  |none=>none
 |_=>some false
def yZ(xb:aZ)(a':List b5)(env:bQ U)(N:Nat):List (Nat×Nat)->Bool
 |[]=>true
 |(i,j)::r=>(match pA a' i,pA a' j with
  |some x,some y=>match Hb xb y.op env (N+16*j)with
   |some l=>l.all λb=>match iW xb x.op env (N+16*i) b with
    |some w=>!w
    |none=>false
   |none=>false
  |_,_=>true)&&yZ xb a' env N r
variable{o:cF}{gl:eo}{Q:Exit->Env->a8->Nat->Prop}
section
variable {P:Program}{kk N key:Nat}{J:bf U}{J1:a8}{env:bQ U}{env1:Env}{G:Nat->Bool}
theorem mR(he:cS N J G env env1){x:aO}{l:aZ}(h:h8 env x=some l):dO env1 x=l:=by
 unfold h8 at h;split at h
 . cases h;rfl
 . cases h;rfl
 . cases h;rfl
 . grind
 . rename_i k;split at h
   all_goals (try (cases h;done))
   . rename_i b o d;obtain⟨v1,h1,a⟩:=he k _ d;have:=a.gF;grind[dO,aO.get]
   . rename_i b t i o d;obtain⟨v1,h1,a⟩:=he k _ d;have:=a.ir;grind[dO,aO.get]
   . rename_i b d;obtain⟨v1,h1,a⟩:=he k _ d;obtain⟨sz,n,rfl,_⟩:=a.gx;grind[dO,aO.get]
   . rename_i b f len d;obtain⟨v1,h1,a⟩:=he k _ d;have:v1= .c (.fC b 1 f len):=by cases a with|c h=>cases h;rfl
     grind[dO,aO.get]
   . rename_i b e d;obtain⟨v1,h1,a⟩:=he k _ d;have:∃sz,v1= .c (.arr b sz 0 e):=by cases a with|c h=>cases h;simp
     grind[dO,aO.get]
   . rename_i b f e d;obtain⟨v1,h1,a⟩:=he k _ d;have:∃sz,v1= .c (.fC b sz f e):=by cases a with|c h=>cases h;simp
     grind[dO,aO.get]
   . rename_i b d;obtain⟨v1,h1,a⟩:=he k _ d;have:=a.zI;grind[dO,aO.get]
   . rename_i b d;obtain⟨v1,h1,a⟩:=he k _ d;have:=a.Pc;grind[dO,aO.get]
   . rename_i b d;obtain⟨v1,h1,a⟩:=he k _ d;obtain⟨n,rfl,_⟩:=a.vv;grind[dO,aO.get]
   . rename_i v dR j m ew u g q r s p d;cases h;obtain⟨v1,h1,a⟩:=he k _ d;unfold dO;simp only[aO.get,h1,lk];cases a with
     |c a=>
      cases a<;>grind
     |agg a=>rfl
     |ba=>rfl
theorem rf{l:aZ}{b:Nat}:kG l b=l.contains b:=by
 unfold kG;rw[qz];simp
theorem HK{x:bo U}{d:C}(h:b8 N J x d)(aj:xM x=false):d.fN=x.fN:=by
 cases h<;>first|rfl|(simp[xM]at aj)
theorem RU:∀{xs:List (bo U)} {a:List C},a6 (b8 N J) xs a->xs.any xM=false->a.flatMap C.fN=xs.flatMap bo.fN
 |[],[],_,_=>rfl
 |x::xs,d::a,.cons h1 b,aj=>by
  simp only[List.any_cons,uV]at aj;simp;rw[HK h1 aj.1,RU b aj.2]
theorem Wg{v:bF U}{v1:V}{l:aZ}(h:bR N J v v1)(ag:xN v=some l):v1.fN=l:=by
 cases h with
 |c h=>
  simp[xN]at ag;split at ag
  . grind
  . rename_i aj;cases ag;exact HK h aj
 |agg h=>
  simp[xN]at ag;split at ag
  . grind
  . rename_i aj;cases ag;exact RU h aj
 |ba=>simp only[xN,dK]at ag;rw[<-ag];rfl
theorem Az(he:cS N J G env env1):∀{args:List aO} {l:aZ},qI env args=some l->kg env1 args=l
 |[],l,h=>by simp[qI]at h;subst h;rfl
 |.const v::r,l,h=>by
  simp[qI]at h;split at h
  . rename_i d b;cases h;have ih:=Az he b;simp[kg]at ih⊢;rw[ih];rfl
  grind
 |.tmp k::r,l,h=>by
  simp only[qI]at h;split at h
  . rename_i v c;split at h
    . rename_i a d f b;have ih:=Az he b;obtain⟨v1,h1,e⟩:=he k v c;grind[kg,aO.get,Wg]
    grind
  grind
theorem Yh(he:cS N J G env env1){l:aZ}(h:Hb xb o env key=some l):dN xb o env1 key=l:=by
 cases o<;>simp[Hb,dN]at h⊢<;>first|exact h|exact mR he h|skip
 . grind[mR]
 . grind[mR]
 . grind[mR]
 grind[Az]
theorem beq_eq(a b:Nat):(a==b)=Nat.beq a b:=by
 grind[cR,hh]
theorem Yi(he:cS N J G env env1){b:Nat}{w:Bool}(h:iW xb o env key b=some w):ct xb o env1 key b=w:=by
 cases o with
 |alloc cs=>simp[iW]at h;rw[<-h];exact beq_eq _ _
 |allocA cs=>simp[iW]at h;rw[<-h];exact beq_eq _ _
 |box x=>simp[iW]at h;rw[<-h];simp only[ct];exact beq_eq _ _
 |bslice a c d e=>simp only[iW,dK]at h;rw[<-h];simp only[ct];exact beq_eq _ _
 |mslice a c d e=>simp only[iW,dK]at h;rw[<-h];simp only[ct];exact beq_eq _ _
 |store n x y=>
  simp only[iW]at h;split at h
  . rename_i l ag;cases h;simp only[ct];rw[mR he ag,rf]
  . cases h
 |appendT te sz by' x y=>
  simp only[iW]at h;split at h
  . rename_i l ag;cases h;simp only[ct];rw[mR he ag,rf]
  . cases h
 |append te sz by' x y=>
  simp only[iW]at h;split at h
  . rename_i l ag;cases h;simp only[ct];rw[mR he ag,rf,beq_eq]
  . cases h
 |mkset=>grind[iW,ct,beq_eq]
 |allocS e e8=>grind[iW,ct,beq_eq]
 |upset x y=>
  simp only[iW]at h;split at h
  . rename_i l ag;cases h;simp only[ct];rw[mR he ag,rf]
  . cases h
 |ustr e x y=>
  grind[iW,ct,mR,rf]
 |appendB e by' x y=>
  grind[iW,ct,mR,rf,beq_eq]
 |call f args=>
  simp only[iW]at h;split at h
  . rename_i l ag;cases h;simp only[ct];rw[Az he ag,rf]
    congr 1
    rw[qz];simp only[cO,gg,Nat.ble_eq];rfl
  grind
 |_=>simp only[iW,dK]at h;rw[<-h];rfl
theorem E9(he:cS N J G env env1){a':List b5}{a:Nat}:∀{eB:List (Nat×Nat)},yZ xb a' env a eB=true->j1 xb a' env1 a eB=true
 |[],_=>rfl
 |(i,j)::r,h=>by
  simp[yZ]at h;simp[j1];refine⟨?_,E9 he h.2⟩;grind[Ck,Yh,Yi]
theorem AI{fo:fl U}(d:fm P fo){k:eo->bQ U->bf U->Option R}{r:R}:∀{l:List b5} {key:Nat} {gl:eo} {nf:ju} {env:bQ U} {J:bf U} {env1:Env} {J1:a8} {G:Nat->Bool} {K:Env->a8->Prop},
 ev key gl nf env J env1 J1 G->nh fo none l key gl nf env J k=some r->
 (∀b e env' J' a bp c,k b env' J'=some r->ev (key+16*l.length) b e env' J' a bp c->K a bp)->mu P kk l key env1 J1 K
 |[],key,gl,nf,env,J,env1,J1,G,K,h,I,bE=>bE _ _ _ _ _ _ _ I h
 |o::l,key,gl,nf,env,J,env1,J1,G,K,h,I,bE=>by
  refine Wf d h I λb e env' J' a bp c h1 i=>?_;refine AI d i h1 λp m g n o4 s f j q=>bE _ m g n _ _ f j ?_;grind
theorem FD{fo:fl U}(d:fm P fo){k:eo->bQ U->bf U->Option R}{r:R}:∀{l:List b5} {key:Nat} {gl:eo} {nf:ju} {env:bQ U} {J:bf U} {env1:Env} {J1:a8} {G:Nat->Bool} {K:Env->a8->Prop},
 ev key gl nf env J env1 J1 G->nh fo (some xb) l key gl nf env J k=some r->
 (∀a e env' J' c bp b,k a env' J'=some r->ev (key+16*l.length) a e env' J' c bp b->K c bp)->vA xb P l key env1 J1 K
 |[],key,gl,nf,env,J,env1,J1,G,K,h,I,bE=>bE _ _ _ _ _ _ _ I h
 |o::l,key,gl,nf,env,J,env1,J1,G,K,h,I,bE=>by
  simp[nh]at I;obtain⟨g,v1,bp,a,e,env',J',b,h1,j,m⟩:=HJ d h (by simpa[B5]using I);refine⟨g,v1,bp,h1,FD d m j λs p i q o4 t f n bh=>bE _ p i q _ _ f n ?_⟩;grind
theorem FW:∀{env:bQ U} {k:Nat} {v:bF U},aX (clean gl env) k=some v->aX env k=some v/\zG gl k=false
 |[],k,v,h=>by grind[clean,aX]
 |(i,w)::r,k,v,h=>by
  simp[clean]at h;split at h
  . obtain⟨h1,b⟩:=FW h;grind[aX,cR]
  . simp[aX]at h⊢;cases a:Nat.beq i k with
    |true=>simp_all
    |false=>rw[a]at h;exact FW h
theorem YG{k:Nat}(h:zG gl k=false):aX gl k=none:=by
 induction gl with
 |nil=>rfl
 |cons e r ih=>
  grind[zG,aX]
theorem ev.clean{nf:ju}(h:ev key gl nf env J env1 J1 G):cS key J (λ_=>true) (sa gl env) env1:=by
 intro k v a;have:aX env k=some v/\G k=true:=by
  unfold sa at a;split at a
  . exact⟨a,h.ao.free k rfl⟩
  . obtain⟨h1,c⟩:=FW a;exact⟨h1,h.ao.free k (YG c)⟩
 obtain⟨v1,h1,c⟩:=h.gC k v this.1;grind
theorem ev.begin(he:cS key J (λ_=>true) env env1)(aE:cm key J J1):ev key [] [] env J env1 J1 (λ_=>true):=
 ⟨he,⟨λ_ _=>rfl,λk t b h=>by grind[aX]⟩,aE,λ_ h=>by grind⟩
end
structure h9 where
 e:Exit
 sh:Shape
 own:List (Pos×aH)
 us:List aH
def ec(U:cE):List h9->Type
 |[]=>Empty
 |[a]=>aJ U.D a.us
 |a::b::r=>aJ U.D a.us ⊕ ec U (b::r)
structure gJ (U:cE) where
 sh:Shape
 own:List (Pos×aH)
 ts:List aH
 outs:List h9
 F:aJ U.D ts->Option (ec U outs)
def zC:Exit->Exit->Bool
 |.normal,.normal=>true
 |.ret,.ret=>true
 |.exit i,.exit j=>Nat.beq i j
 |_,_=>false
theorem Hi{a b:Exit}(h:zC a b=true):a=b:=by
 cases a<;>cases b<;>simp[zC]at h<;>try rfl
 grind
abbrev sV(U:cE)(R:Type):=Exit->bQ U->bf U->Nat->Option R
def e7:(outs:List h9)->ec U outs->Exit×bQ U×bf U×Nat
 |[],o=>Empty.elim o
 |[a],h=>(a.e,(e4 U a.sh (aJ.cells U.D a.us h)).1,(e4 U a.sh (aJ.cells U.D a.us h)).2,a.sh.st.length)
 |a::b::r,.inl h=>(a.e,(e4 U a.sh (aJ.cells U.D a.us h)).1,(e4 U a.sh (aJ.cells U.D a.us h)).2,a.sh.st.length)
 |a::b::r,.inr o=>e7 (b::r) o
def aeI{α c:Type}(o:α ⊕ c)(f:α->Option R)(g:c->Option R):Option R:=
 match o with
 |.inl a=>f a
 |.inr b=>g b
def ae7(k:sV U R)(a:h9):(r:List h9)->(ec U r->Option R)->ec U (a::r)->Option R
 |[],_=>λh=>k a.e (e4 U a.sh (aJ.cells U.D a.us h)).1 (e4 U a.sh (aJ.cells U.D a.us h)).2 a.sh.st.length
 |_::_,f=>λo=>aeI o (λh=>k a.e (e4 U a.sh (aJ.cells U.D a.us h)).1 (e4 U a.sh (aJ.cells U.D a.us h)).2 a.sh.st.length) f
def G9(k:sV U R):(outs:List h9)->ec U outs->Option R
 |[]=>λo=>Empty.elim o
 |a::r=>ae7 k a r (G9 k r)
theorem JH(k:sV U R):∀{outs:List h9} {o:ec U outs},G9 k outs o=k (e7 outs o).1 (e7 outs o).2.1 (e7 outs o).2.2.1 (e7 outs o).2.2.2
 |[],o=>Empty.elim o
 |[a],h=>rfl
 |a::b::r,.inl h=>rfl
 |a::b::r,.inr o=>JH k (outs:=b::r)
def nz(kk:Nat):(outs:List h9)->Exit->bQ U->bf U->Nat->Option (ec U outs)
 |[],_,_,_,_=>none
 |[a],e,env,J,N=>match zC e a.e with
  |true=>ml kk a.own a.sh a.us env J N
  |false=>none
 |a::b::r,e,env,J,N=>match zC e a.e with
  |true=>match ml (U:=U) kk a.own a.sh a.us env J N with
   |some h=>some (.inl h)
   |none=>none
  |false=>match nz kk (b::r) e env J N with
   |some o=>some (.inr o)
   |none=>none
abbrev ke(U:cE):=Nat->Option (gJ U)
def f':dx->Nat
 |.seq a b=>f' a+f' b
 |.cond _ a b=>f' a+f' b
 |.block _ b=>f' b
 |.loop b=>f' b+1
 |_=>0
def adR(x:Bool)(a b:Option R):Option R:=if x then a else b
def bo.inner:jR->Bool
 |.ptr .. |.arr _=>true
 |_=>false
def aa8:ft->Bool
 |.box cs=>cs.any bo.inner
 |_=>false
def Mv(fo:fl U)(J:bf U)(ops:List b5):aZ:=
 match ops.any λo=>match o.op with
  |.call f _=>(fo f).any λs=>s.st.any aa8
  |_=>false with
 |true=>J.map Prod.fst
 |false=>[]
def FX(ops:List b5)(eB:List (Nat×Nat)):Option (List b5×b5):=
 match B4 ops.length eB,ops.getLast? with
 |true,some o=>match o.op,o.guard with
  |.call ..,none=>some (ops.dropLast,o)
  |.hD ..,none=>some (ops.dropLast,o)
  |_,_=>none
 |_,_=>none
theorem Wh{ops:List b5}{eB:List (Nat×Nat)}{init:List b5}{last:b5}(h:FX ops eB=some (init,last)):ops=init++[last]/\B4 (init.length+1) eB=true:=by
 unfold FX at h;split at h
 . grind[List.getLast?_eq_some_iff]
 grind
def aan(t:Nat)(o:b5):Bool:=match o.op with
 |.build _ ps=>ps.any λp=>match p.2.2 with
  |.tmp k=>Nat.beq k t
  |_=>false
 |_=>false
def vR(t:aH)(ops:List b5)(env:bQ U)(J:bf U):List b5->List (Nat×aH)
 |[]=>[]
 |o::r=>match o.op,o.dst with
  |.mov (.tmp s),some d=>match aX env s with
   |some (.c (.arr b))=>match ops.any (aan d),vj b t env J with
    |true,some _=>(b,t)::vR t ops env J r
    |_,_=>vR t ops env J r
   |_=>vR t ops env J r
  |_,_=>vR t ops env J r
def adL(ops:List b5)(env:bQ U)(J:bf U):List (Nat×aH):=match U.cc with
 |none=>[]
 |some t=>vR t ops env J ops
def jM(fo:fl U)(d:ke U)(kk:Nat):dx->Nat->bQ U->bf U->Nat->sV U R->Option R
 |.skip,_,env,J,N,k=>k .normal env J N
 |.ret,_,env,J,N,k=>k .ret env J N
 |.exit i,_,env,J,N,k=>k (.exit i) env J N
 |.region ops,_,env,J,N,k=>nh fo none ops N [] [] env J λgl env J=>CC (sa gl env) J (N+16*ops.length) λenv J N=>k .normal env J N
 |.nB ops eB,_,env,J,N,k=>match FX ops eB with
  |some (init,last)=>nh fo (some []) init N [] [] env J λgl env J=>match yZ [] init env N eB with
   |true=>nh fo none [last] (N+16*init.length) gl [] env J λgl env J=>k .normal (sa gl env) J (N+16*init.length+16)
   |false=>none
  |none=>match jN (adL ops env J) env J with
   |some (env,J)=>nh fo (some (Mv fo J ops)) ops N [] [] env J λgl env' J'=>match yZ (Mv fo J ops) ops env' N eB with
    |true=>CC (sa gl env') J' (N+16*ops.length) λenv J N=>k .normal env J N
    |false=>none
   |none=>none
 |.seq a b,pos,env,J,N,k=>jM fo d kk a pos env J N λe env J N=>match e with
  |.normal=>jM fo d kk b (pos+f' a) env J N k
  |e=>k e env J N
 |.cond c a b,pos,env,J,N,k=>match c9 [] none env c with
  |some (.c (.t ⟨.bool,x⟩))=>adR x (jM fo d kk a pos env J N k) (jM fo d kk b (pos+f' a) env J N k)
  |_=>none
 |.block id b,pos,env,J,N,k=>jM fo d kk b pos env J N λe env J N=>match e with
  |.exit i=>match Nat.beq i id with
   |true=>k .normal env J N
   |false=>k (.exit i) env J N
  |e=>k e env J N
 |.loop b,pos,env,J,N,k=>match d pos with
  |none=>none
  |some L=>match ml kk L.own L.sh L.ts env J N with
   |none=>none
   |some h=>(L.F h)>>=λo=>G9 k L.outs o
section
variable {P:Program}{nt kk N:Nat}{env:bQ U}{J:bf U}{env1:Env}{J1:a8}
def sJ(kk:Nat)(Q:Exit->Env->a8->Nat->Prop):Prop:=∀e N env J N' env' J',Conv kk N env J N' env' J'->Q e env' J' N'->Q e env J N
def lx(P:Program)(nt kk:Nat)(b:dx)(sh:Shape)(ts:List aH)(outs:List h9)(h:aJ U.D ts)(o:ec U outs):Prop:=
 ∀env1 J1,cS sh.st.length (e4 U sh (aJ.cells U.D ts h)).2 (λ_=>true) (e4 U sh (aJ.cells U.D ts h)).1 env1->cm sh.st.length (e4 U sh (aJ.cells U.D ts h)).2 J1->kk<=sh.st.length->
  ∀Q,sJ kk Q->(∀a bp,cS (e7 outs o).2.2.2 (e7 outs o).2.2.1 (λ_=>true) (e7 outs o).2.1 a->cm (e7 outs o).2.2.2 (e7 outs o).2.2.1 bp->kk<=(e7 outs o).2.2.2->Q (e7 outs o).1 a bp (e7 outs o).2.2.2)->
   lu P nt kk b env1 J1 sh.st.length Q
def sP(P:Program)(nt kk:Nat)(a:dx)(L:gJ U):Prop:=
 ∀h o,L.F h=some o->lx P nt kk a L.sh L.ts L.outs h o
def fW(P:Program)(nt kk:Nat)(c:ke U):Nat->dx->Prop
 |pos,.seq a b=>fW P nt kk c pos a/\fW P nt kk c (pos+f' a) b
 |pos,.cond _ a b=>fW P nt kk c pos a/\fW P nt kk c (pos+f' a) b
 |pos,.block _ b=>fW P nt kk c pos b
 |pos,.loop b=>(∀L,c pos=some L->sP P nt kk b L)
 |_,_=>True
theorem sJ.andThen{next:Env->a8->Nat->Prop}(h:sJ kk Q)(aV:∀N env J N' env' J',Conv kk N env J N' env' J'->next env' J' N'->next env J N):sJ kk (andThen next Q):=by
 intro e N env J N' env' J' a c;cases e with
 |normal=>exact aV _ _ _ _ _ _ a c
 |_=>exact h _ _ _ _ _ _ _ a c
theorem pQ{fo:fl U}(s:fm P fo){E:ke U}:∀{c:dx} {pos:Nat} {env:bQ U} {J:bf U} {N:Nat} {k:sV U R} {r:R} {env1:Env} {J1:a8} {Q:Exit->Env->a8->Nat->Prop},
 fW P nt kk E pos c->jM fo E kk c pos env J N k=some r->cS N J (λ_=>true) env env1->cm N J J1->kk<=N->sJ kk Q->
 (∀e env' J' N' q bp,k e env' J' N'=some r->cS N' J' (λ_=>true) env' q->cm N' J' bp->kk<=N'->Q e q bp N')->cl P nt kk c env1 J1 N Q
 |.skip,pos,env,J,N,k,r,env1,J1,Q,ag,I,he,aE,m,j,d=>cl.skip (d _ _ _ _ _ _ I he aE m)
 |.ret,pos,env,J,N,k,r,env1,J1,Q,ag,I,he,aE,m,j,d=>cl.ret (d _ _ _ _ _ _ I he aE m)
 |.exit i,pos,env,J,N,k,r,env1,J1,Q,ag,I,he,aE,m,j,d=>cl.exit (d _ _ _ _ _ _ I he aE m)
 |.region ops,pos,env,J,N,k,r,env1,J1,Q,ag,I,he,aE,m,j,d=>
  cl.aeo (AI s (ev.begin he aE) I λC F env' J' q bp A h1 f=>by
   obtain⟨B,H,K,o4,G,g1,g2,g3,g4,M⟩:=RO h1 f.clean f.eD (show kk<=_ by omega)
   exact j _ _ _ _ _ _ _ g2 (d _ _ _ _ _ _ g1 g3 g4 (by omega)))
 |.nB ops eB,pos,env,J,N,k,r,env1,J1,Q,ag,I,he,aE,m,j,d=>by
  simp only[jM]at I;split at I
  . rename_i init last W;obtain⟨rfl,X⟩:=Wh W;refine cl.aep X (FD s (ev.begin he aE) I λC F env' J' q bp A h1 f=>?_);split at h1
    . rename_i n;refine⟨E9 f.gC n,AI s (l:=[last]) (nf:=[]) ⟨f.gC,f.ao,f.eD,λg ao=>by grind⟩ h1 λaf ah B H o4 G Z u v=>d _ _ _ _ _ _ u v.clean v.eD (by omega)⟩
    grind
  . split at I
    . rename_i fb aa T;obtain⟨ad,aj,S,he,aE,_⟩:=tU (kk:=kk) (gl:=[]) T he aE;refine cl.conv S (cl.nB (FD s (ev.begin he aE) I λC F env' J' q bp A h1 f=>?_));split at h1
      . rename_i n;obtain⟨B,H,K,o4,G,g1,g2,g3,g4,M⟩:=RO h1 f.clean f.eD (show kk<=_ by omega);exact⟨E9 f.gC n,j _ _ _ _ _ _ _ g2 (d _ _ _ _ _ _ g1 g3 g4 (by omega))⟩
      grind
    . cases I
 |.seq a b,pos,env,J,N,k,r,env1,J1,Q,ag,I,he,aE,m,j,d=>by
  refine cl.seq (pQ s ag.1 I he aE m (j.andThen λN env J N' env' J' n h=>cl.conv n h) λe env' J' N' q bp h1 f u v=>?_);cases e with
  |normal=>exact pQ s ag.2 h1 f u v j d
  |_=>exact d _ _ _ _ _ _ h1 f u v
 |.cond c a b,pos,env,J,N,k,r,env1,J1,Q,ag,I,he,aE,m,j,d=>by
  simp only[jM]at I;split at I
  . rename_i x n;have ao:gw [] env (λ_=>true):=⟨λ_ _=>rfl,λk t b h=>by grind[aX]⟩
    obtain⟨p,v1,a1,a2,a3⟩:=cf he ao n;have:=a2.iG;subst this;refine cl.cond a1 (a3 rfl) (λw=>?_) (λw=>?_)
    . subst w;exact pQ s ag.1 I he aE m j d
    . subst w;exact pQ s ag.2 I he aE m j d
  grind
 |.block id b,pos,env,J,N,k,r,env1,J1,Q,ag,I,he,aE,m,j,d=>by
  refine cl.block (pQ s ag I he aE m ?_ λe env' J' N' q bp h1 f u v=>?_)
  . intro e N env J N' env' J' n y;cases e with
    |exit i=>
     simp only[inBlock]at y⊢;split at y
     . rename_i z;rw[ai z];exact j _ _ _ _ _ _ _ n y
     . rename_i z;rw[av z];exact j _ _ _ _ _ _ _ n y
    |_=>exact j _ _ _ _ _ _ _ n y
  . cases e with
    |exit i=>
     simp only[inBlock];simp only at h1;split at h1
     . rename_i w;rw[ai (cR w)];grind
     . rename_i w;rw[av (hh w)];grind
    |_=>exact d _ _ _ _ _ _ h1 f u v
 |.loop b,pos,env,J,N,k,r,env1,J1,Q,ag,I,he,aE,m,j,d=>by
  simp only[jM]at I;split at I
  . grind
  . rename_i L O;split at I
    . grind
    . rename_i h V;obtain⟨o,Y,D⟩:=j5.1 I;rw[JH]at D;obtain⟨q,bp,c1,c2,c3,c4⟩:=uD V he aE m;exact cl.conv c1 (cl.ad3 (ag L O h o Y q bp c2 c3 c4 Q j λae ab h1 f u=>d _ _ _ _ _ _ D h1 f u))
theorem lx.OU {fo:fl U}(H:fm P fo){E:ke U}{g:dx}{sh:Shape}{own:List (Pos×aH)}{ts:List aH}{outs:List h9}{h:aJ U.D ts}{o:ec U outs}{x:aJ U.D ts->Option (ec U outs)}
 (L:fW P nt kk E 0 g)(F:∀h o,x h=some o->lx P nt kk g sh ts outs h o)
 (I:jM fo E kk g 0 (e4 U sh (aJ.cells U.D ts h)).1 (e4 U sh (aJ.cells U.D ts h)).2 sh.st.length (λe env J N=>match e with
  |.normal=>match ml kk own sh ts env J N with
   |some q=>x q
   |none=>none
  |e=>nz kk outs e env J N)=some o):lx P nt kk g sh ts outs h o:=by
 intro env1 J1 he aE c Q t K;refine lu.round (pQ H L I he aE c (t.andThen λN env J N' env' J' G h=>lu.conv G h) λe env' J' N' p bp h1 y A B=>?_);have f:∀j,j=e->j≠.normal->nz kk _ j env' J' N'=some o->Q e p bp N':=by
  intro j O R al;obtain⟨aN,s1,c1,c2,c3,c4,c5⟩:=DL al y A B;exact t _ _ _ _ _ _ _ c1 (by grind)
 cases e with
 |normal=>
  simp at h1;split at h1
  . rename_i q w;obtain⟨aN,s1,c1,c2,c3,c4⟩:=uD w y A B;exact lu.conv c1 (F q o h1 aN s1 c2 c3 c4 Q t K)
  grind
 |exit i=>exact f _ rfl (by simp) h1
 |ret=>exact f _ rfl (by simp) h1
 |goto l=>exact f _ rfl (by simp) h1
 |panic ik=>exact f _ rfl (by simp) h1
 |outgrown=>exact f _ rfl (by simp) h1
where
 DL {N:Nat} {env:bQ U} {J:bf U} {env1:Env} {J1:a8}:∀ {outs:List h9} {e:Exit} {o:ec U outs},nz kk outs e env J N = some o->cS N J (λ_=>true) env env1->cm N J J1->kk<=N->
  ∃p bp,Conv kk N env1 J1 (e7 outs o).2.2.2 p bp/\cS (e7 outs o).2.2.2 (e7 outs o).2.2.1 _ (e7 outs o).2.1 p/\cm (e7 outs o).2.2.2 (e7 outs o).2.2.1 bp/\kk<=(e7 outs o).2.2.2/\e=(e7 outs o).1
  |[],e,o,h,_,_,_=>by grind[nz]
  |[a],e,o,h,he,aE,c=>by
   simp[nz]at h;split at h
   . rename_i v;obtain⟨aN,s1,c1,c2,c3,c4⟩:=uD h he aE c;exact⟨aN,s1,c1,c2,c3,c4,Hi v⟩
   grind
  |a::b::r,e,o,h,he,aE,c=>by
   simp only[nz]at h;split at h
   . rename_i v;split at h
     . rename_i aa w;cases h;obtain⟨aN,s1,c1,c2,c3,c4⟩:=uD w he aE c;exact⟨aN,s1,c1,c2,c3,c4,Hi v⟩
     grind
   . split at h
     . rename_i S M;cases h;obtain⟨aN,s1,c1,c2,c3,c4,c5⟩:=DL M he aE c;exact⟨aN,s1,c1,c2,c3,c4,c5⟩
     grind
end
end
open Go
variable {U:cE}{R:Type}
def mg:Nat->List (bF U)->bQ U
 |_,[]=>[]
 |i,v::vs=>(i,v)::mg (i+1) vs
def GR(env:bQ U)(J:bf U):iD->Option (bF U)
 |.tmp t=>aX env t
 |.cell t g k=>match aX env t with
  |some (.c (.ptr b o))=>match aX J b with
   |some (.box cs)=>qn g k cs o
   |_=>none
  |_=>none
def uk(env:bQ U)(J:bf U):List iD->Option (List (bF U))
 |[]=>some []
 |r::a=>match GR env J r,uk env J a with
  |some v,some vs=>some (v::vs)
  |_,_=>none
def Ha:List (bF U)->bF U
 |[]=>.ba []
 |[v]=>v
 |v::w::vs=>.ba (v::w::vs)
def y4(kk:Nat)(c:List iD)(eD:eJ)(eA:List ft)(us:List aH)(env:bQ U)(J:bf U):Option (aJ U.D us):=
 match uk env J c with
 |none=>none
 |some vs=>match u7 J kk 0 eA (Ea eD (Ha vs) ([],[])) []with
  |(bs,d)=>match jN d env J with
   |none=>none
   |some (env',J')=>match uk env' J' c with
    |none=>none
    |some e=>match r' bs&&(keeps kk bs&&Nat.beq bs.length eA.length)with
     |false=>none
     |true=>match jb bs eD (Ha e),il bs J' 0 eA with
      |some a,some b=>aJ.dec U.D us (a++b)
      |_,_=>none
def P6(kk:Nat)(a:List iD)(eD:eJ)(eA:List ft)(us:List aH):sV U (aJ U.D us)
 |.normal,env,J,_=>y4 kk a eD eA us env J
 |.ret,env,J,_=>y4 kk a eD eA us env J
 |_,_,_,_=>none
variable{Q:Exit->Env->a8->Nat->Prop}{kk nt f:Nat}{p:aZ}
section
variable {P:Program}{nt kk N:Nat}{env:bQ U}{J:bf U}{env1:Env}{J1:a8}
def qS(kk:Nat)(Q:Exit->Env->a8->Nat->Prop):Exit->Env->a8->Nat->Prop:=
 λe env J N=>∃N' env' J',Conv kk N env J N' env' J'/\Q e env' J' N'
theorem qS.Ms:sJ kk (qS kk Q):=
 λe N env J N' env' J' h ⟨a,c,j,f,g⟩=>⟨a,c,j,h.trans f,g⟩
variable{c:dx}
theorem cl.Ph{env:Env}{J:a8}(h:cl P nt kk c env J N (qS kk Q)):cl P nt kk c env J N Q:=
 λcode t au φ S a w f R=>wp_mono (h _ t au φ S a w f R) λe a w ⟨bg,bj,env',J',N',⟨g,p,x,q,v⟩,R'⟩=>
  let⟨y,o,j⟩:=q au nt _ bj a w f R';⟨y,o,p,x,g,v,j⟩
theorem Wp(he:cS N J (λ_=>true) env env1)(aE:cm N J J1){a:iD}{v:bF U}(h:GR env J a=some v):∃p v1,r9 env1 J1 a=some (p,v1)/\p/\bR N J v v1:=by
 cases a with
 |tmp t=>
  obtain⟨v1,h1,c⟩:=he t v h;exact⟨True,v1,by grind[r9],trivial,c⟩
 |cell t g k=>
  simp[GR]at h;split at h
  . rename_i b o i;split at h
    . rename_i cs f;obtain⟨v1,h1,c⟩:=he t _ i;have:=c.gF;obtain⟨_,y,j,d⟩:=aE b _ f;cases d with
      |box d=>
       obtain⟨v2,bh,e⟩:=uy d h;exact⟨True,v2,by grind[r9],trivial,e⟩
    grind
  grind
theorem Q9(he:cS N J (λ_=>true) env env1)(aE:cm N J J1):∀{b:List iD} {vs:List (bF U)},uk env J b=some vs->∃p a,oC env1 J1 b=some (p,a)/\p/\a6 (bR N J) vs a
 |[],vs,h=>by simp[uk]at h;subst h;exact⟨_,[],rfl,trivial,.nil⟩
 |r::g,vs,h=>by
  simp[uk]at h;split at h
  . rename_i v i h1 e;cases h;obtain⟨p,v1,a1,a2,a3⟩:=Wp he aE h1;obtain⟨q,a,f,c,d⟩:=Q9 he aE e;exact⟨p/\q,v1::a,by grind[oC],⟨a2,c⟩,.cons a3 d⟩
  grind
theorem XA{vs:List (bF U)}{c:List V}(h:a6 (bR N J) vs c):bR N J (Ha vs) (ln c):=by
 cases h with
 |nil=>exact .ba [] [] rfl (by simp)
 |cons h1 a=>
  cases a with
  |nil=>exact h1
  |cons a b=>
   refine .ba _ _ (by simp[b.length]) λi x d I aj=>?_;obtain⟨e,aN,f⟩:=(a6.cons h1 (.cons a b)).get I;grind
def CO(s:cA U)(r:aJ U.D s.us):V->a8->Nat->Prop:=λa bp N'=>N'=s.eA.length/\bR N' (s.rest r) (s.res r) a/\cm N' (s.rest r) bp
theorem XB{e:List iD}{s:cA U}{r:aJ U.D s.us}(h:y4 kk e s.eD s.eA s.us env J=some r)(he:cS N J (λ_=>true) env env1)(aE:cm N J J1):
 ∃i bp,Conv kk N env1 J1 N i bp/\∃p d,oC i bp e=some (p,d)/\p/\
  ∃bs c J2,bs.Nodup/\keeps kk bs=true/\gj ((ln d).bS bs) c/\qV (fv bs bp 0 bs) J2/\CO s r c J2 bs.length:=by
 unfold y4 at h;split at h
 . grind
 . split at h;rename_i bs x _;split at h
   . grind
   . rename_i env' J' q;obtain⟨aN,s1,c1,c2,c3,_⟩:=tU (kk:=kk) (gl:=[]) q he aE;split at h
     . grind
     . rename_i A u;split at h
       . grind
       . rename_i j;simp only[cO]at j;obtain⟨m,n,o⟩:=j;have b3:=wY m;have t:=cR o;split at h
         . rename_i a b l k;obtain⟨p,d,d1,d2,d3⟩:=Q9 c2 c3 u;obtain⟨y,f,g⟩:=CT b3 (xK b3 k) l;obtain⟨c,g1,g2⟩:=g _ (XA d3);obtain⟨v,t1,t2⟩:=Bj b3 c3 k;have z:=aJ.fa h;have aN:s.res r=y:=(by grind[cA.res]);have w:s.rest r=gQ 0 s.eA b:=(by grind[cA.rest]);exact⟨_,_,c1,p,d,d1,d2,bs,c,v,b3,n,g1,t1,t,by grind,by grind⟩
         grind
def sM(P:Program)(s:cA U)(h:aJ U.D s.ts)(r:aJ U.D s.us):Prop:=
 ∀(a:List V) J1,a6 (bR s.st.length (s.hS h)) (s.args h) a->cm s.st.length (s.hS h) J1->dY P s.f a J1 s.st.length (CO s r)
theorem gT.of{s:cA U}(h:∀h r,s.F h=some r->sM P s h r):gT P s:=h
theorem sM.DI {s:cA U}{fn:Func}{c:dx}{g:List iD}{fo:fl U}{y:ke U}(W:P.funcs[s.f]?=some fn)(O:fn.body.bind (resolve P fn.ntmps)=some c)(ak:hy P fn.results.toList=some g)(aV:Nat.ble s.fh.length fn.ntmps=true)
 (X:fm P fo)(ag:fW P fn.ntmps s.st.length y 0 c)
 {h:aJ U.D s.ts}{r:aJ U.D s.us}(I:Cy s.st.length (s.hS h) (λJ N=>jM fo y s.st.length c 0 (mg 0 (s.args h)) J N (P6 s.st.length g s.eD s.eA s.us))=some r):sM P s h r:=by
 intro o J1 M aE;have Z:o.length<=fn.ntmps:=by
  rw[<-M.length];refine hK (sn ?_) (hj aV);exact Ov
 have Q:cS s.st.length (s.hS h) (λ_=>true) (mg 0 (s.args h)) (fb 0 o):=by
  intro k v aF;have key:∀{xs:List _} {j:List V} {i:Nat},a6 (bR s.st.length (s.hS h)) xs j->aX (mg i xs) k=some v->∃v1,look (fb i j) k=some (true,v1)/\bR s.st.length (s.hS h) v v1:=by
   intro xs;induction xs with
   |nil=>grind[mg,aX]
   |cons x xs ih=>
    intro j i an w;cases an with
    |cons h1 t=>
     simp[mg,aX]at w;simp[fb,look];split at w
     . simp_all
     simp_all[av,hh]
  grind
 obtain⟨ap,Nm,au,I,G,S,L,Y⟩:=Xx I Q aE;refine dY.tidy (dY.mk W O ak rfl Z (cl.conv G (cl.Ph (pQ X ag I S L Y qS.Ms λe env' J' N' H bp h1 t K ax=>?_)))) (λA s1 F aa=>aa)
 . have q:y4 s.st.length g s.eD s.eA s.us env' J'=some r->(e= .normal\/e= .ret)->qS s.st.length (CH g λA s1 F=>∃bs B J2,bs.Nodup/\keeps s.st.length bs=true/\gj (A.bS bs) B/\qV (fv bs s1 0 bs) J2/\CO s r B J2 bs.length) e H bp N':=by
    intro am R;obtain⟨aN,s1,c1,p,E,d1,d2,rest⟩:=XB am t K;refine⟨N',aN,s1,c1,?_⟩;rcases R with rfl|rfl
    . exact⟨p,E,d1,d2,rest⟩
    . exact⟨p,E,d1,d2,rest⟩
   cases e with
   |normal=>exact q h1 (.inl rfl)
   |ret=>exact q h1 (.inr rfl)
   |_=>cases h1
where
 Ov:∀{ss:List eJ} {a:eE U},(jG ss a).1.length=ss.length
  |[],a=>rfl
  |s::ss,a=>by
   simp[jG];have:=Ov (ss:=ss) (a:=(k' s a).2);grind
def hl:dx->Nat->Option dx
 |.seq a b,q=>match Nat.ble (f' a) q with
  |true=>hl b (q-f' a)
  |false=>hl a q
 |.cond _ a b,q=>match Nat.ble (f' a) q with
  |true=>hl b (q-f' a)
  |false=>hl a q
 |.block _ b,q=>hl b q
 |.loop b,q=>match q with
  |0=>some b
  |q+1=>hl b q
 |_,_=>none
theorem fW.of{g:ke U}:∀{c:dx} {pos:Nat},(∀q b L,hl c q=some b->g (pos+q)=some L->sP P nt kk b L)->fW P nt kk g pos c
 |.seq a b,pos,h=>by
  refine⟨fW.of λq e L h1 f=>h q e L ?_ f,fW.of λq e L h1 f=>h (f' a+q) e L ?_ (by grind)⟩
  . simp[hl];cases o:Nat.ble _ q with
    |true=>exact absurd (qq h1) (by simp_all)
    |false=>grind
  . simp[hl];have:Nat.ble (f' a) (f' a+q)=true:=(by simp);grind
 |.cond c a b,pos,h=>by
  refine⟨fW.of λq e L h1 f=>h q e L ?_ f,fW.of λq e L h1 f=>h (f' a+q) e L ?_ (by grind)⟩
  . simp only[hl];cases o:Nat.ble (f' a) q with
    |true=>exact absurd (qq h1) (by simp_all)
    |false=>grind
  . simp only[hl];have:Nat.ble (f' a) (f' a+q)=true:=(by simp);grind
 |.block id b,pos,h=>fW.of (c:=b) h
 |.loop b,pos,h=>λL j=>h 0 b L rfl j
 |.skip,pos,h=>trivial
 |.region _,pos,h=>trivial
 |.nB _ _,pos,h=>trivial
 |.exit _,pos,h=>trivial
 |.ret,pos,h=>trivial
where
 qq:∀{c:dx} {q:Nat} {b:dx},hl c q=some b->q<f' c
  |.seq a b,q,e,h=>by
   simp[hl]at h;simp[f'];split at h
   . have:=qq h;grind
   . have:=qq h;omega
  |.cond _ a b,q,e,h=>by
   simp only[hl]at h;simp only[f'];split at h
   . have:=qq h;grind
   . have:=qq h;omega
  |.block _ b,q,e,h=>qq (c:=b) h
  |.loop b,0,e,h=>by simp[f']
  |.loop b,q+1,e,h=>by have:=qq (c:=b) h;grind[f']
  |.skip,q,e,h=>by grind[hl]
  |.region _,q,e,h=>by grind[hl]
  |.nB _ _,q,e,h=>by grind[hl]
  |.exit _,q,e,h=>by grind[hl]
  |.ret,q,e,h=>by grind[hl]
theorem fW.OQ{a:ke U}(h:∀q L,a q=some L->sP P nt kk ((hl c q).getD .skip) L):fW P nt kk a 0 c:=
 fW.of λq b L h1 e=>by grind
theorem fW.none:fW P nt kk (λ_=>none:ke U) 0 c:=fW.OQ λq L h=>by grind
theorem fm.none:fm P (λ_=>[]:fl U):=λf s h=>by grind
end
open Go
def GA(P:Program)(fn:Func):dx:=
 match fn.body.bind (Shv.resolve P fn.ntmps)with
 |some c=>c
 |none=>.skip
def tP(c:dx)(q:Nat):dx:=(hl c q).getD .skip
def gD{U:cE}:List (cA U)->fl U
 |[],_=>[]
 |s::l,f=>match Nat.beq s.f f with
  |true=>s::gD l f
  |false=>gD l f
def j4{U:cE}(l:List (Nat×gJ U)):ke U:=λq=>aX l q
theorem fm.nil{U:cE}{P:Program}:fm P (gD ([]:List (cA U))):=λf s h=>by grind[gD]
theorem fm.cons{U:cE}{P:Program}{s:cA U}{l:List (cA U)}(c:gL P s.f=true)(hs:gT P s)(h:fm P (gD l)):fm P (gD (s::l)):=by
 intro f t ht;simp[gD]at ht;split at ht
 . rename_i a;have:=cR a;rcases fg.1 ht with rfl|ht
   . grind
   . exact h f t ht
 . exact h f t ht
def iF{U:cE}(P:Program)(nt kk:Nat)(c:dx)(l:List (Nat×gJ U)):Prop:=∀q L,aX l q=some L->sP P nt kk (tP c q) L
theorem iF.nil{U:cE}{P:Program}{nt kk:Nat}{c:dx}:iF P nt kk c ([]:List (Nat×gJ U)):=λq L h=>by grind[aX]
theorem iF.cons{U:cE}{P:Program}{nt kk:Nat}{c:dx}{q:Nat}{L:gJ U}{l:List (Nat×gJ U)}(f:sP P nt kk (tP c q) L)(h:iF P nt kk c l):iF P nt kk c ((q,L)::l):=by
 intro e L' a;simp[aX]at a;split at a
 . simp_all
 . exact h e L' a
theorem iF.snd{U:cE}{P:Program}{c:dx}{l:List (Nat×gJ U)}(h:iF P nt kk c l):fW P nt kk (j4 l) 0 c:=fW.OQ λq L a=>h q L a
def aS(k:IntKind)(a b:Int):Int:=k.wrap (a+b)
def dM(k:IntKind)(a b:Int):Int:=k.wrap (a-b)
def hG(k:IntKind)(a b:Int):Int:=k.wrap (a*b)
def h4(k:IntKind)(a b:Int):Int:=k.wrap (a.tdiv b)
def cy(a b:Int):Int:=a.tmod b
def Mk(k:IntKind)(a b:Int):Int:=k.wrap (BitVec.ofInt k.bits a &&& BitVec.ofInt k.bits b).toNat
def u3(k:IntKind)(a b:Int):Int:=k.wrap (BitVec.ofInt k.bits a ||| BitVec.ofInt k.bits b).toNat
def y2(k:IntKind)(a b:Int):Int:=k.wrap (BitVec.ofInt k.bits a ^^^ BitVec.ofInt k.bits b).toNat
def sD(k:IntKind)(a b:Int):Int:=k.wrap (a*2^min b.toNat k.bits)
def mc(k:IntKind)(a b:Int):Int:=a.fdiv (2^min b.toNat k.bits)
open Go
variable {U:cE}
structure fV where
 q:Nat
 sh:Shape
 own:List (Pos×aH)
 BW:List (Pos×aH)
 ts:List aH
 outs:List h9
 sub:List fV
structure eh where
 f:Nat
 fh:List eJ
 st:List ft
 ts:List aH
 eD:eJ
 eA:List ft
 us:List aH
 sub:List fV
def fV.l(e:fV)(F:aJ U.D e.ts->Option (ec U e.outs)):gJ U:=⟨e.sh,e.own,e.ts,e.outs,F⟩
def eh.s(e:eh)(F:aJ U.D e.ts->Option (aJ U.D e.us)):cA U:=⟨e.f,e.fh,e.st,e.ts,e.eD,e.eA,e.us,F⟩
def codeF(P:Program)(f:Nat):dx:=match P.funcs[f]? with
 |some fn=>GA P fn
 |none=>.skip
def xq(P:Program)(f:Nat):Nat:=match P.funcs[f]? with
 |some fn=>fn.ntmps
 |none=>0
def Ml(P:Program)(f:Nat):List iD:=match P.funcs[f]? with
 |some fn=>(match hy P fn.results.toList with
  |some r=>r
  |none=>[])
 |none=>[]
def sv(P:Program)(e:eh):Bool:=match P.funcs[e.f]? with
 |some fn=>gL P e.f&&((fn.body.bind (resolve P fn.ntmps)).isSome&&((hy P fn.results.toList).isSome&&Nat.ble e.fh.length fn.ntmps))
 |none=>false
def hQ(P:Program)(e:eh):Prop:=sv P e=true
theorem hQ.m{P:Program}{e:eh}(h:sv P e=true):hQ P e:=h
def qo(fo:fl U)(d:ke U)(kk:Nat)(b:dx)(e:fV)(a:aJ U.D e.ts->Option (ec U e.outs))(h:aJ U.D e.ts):Option (ec U e.outs):=
 jM fo d kk b 0 (e4 U e.sh (aJ.cells U.D e.ts h)).1 (e4 U e.sh (aJ.cells U.D e.ts h)).2 e.sh.st.length (λx env J N=>match x with
  |.normal=>match ml kk e.BW e.sh e.ts env J N with
   |some c=>a c
   |none=>none
  |x=>nz kk e.outs x env J N)
def oV(fo:fl U)(a:ke U)(P:Program)(e:eh)(h:aJ U.D e.ts):Option (aJ U.D e.us):=
 Cy e.st.length (gQ 0 e.st (jG e.fh (aJ.cells U.D e.ts h)).2) λJ N=>jM fo a e.st.length (codeF P e.f) 0 (mg 0 (jG e.fh (aJ.cells U.D e.ts h)).1) J N (P6 e.st.length (Ml P e.f) e.eD e.eA e.us)
variable{e:eh}
section
variable {P:Program}
variable{fo:fl U}
theorem HL(f:fm P fo){c:ke U}{b:dx}{e:fV}{h:aJ U.D e.ts}{o:ec U e.outs}{a:aJ U.D e.ts->Option (ec U e.outs)}
 (g:fW P nt kk c 0 b)(d:∀h o,a h=some o->lx P nt kk b e.sh e.ts e.outs h o)(I:qo fo c kk b e a h=some o):lx P nt kk b e.sh e.ts e.outs h o:=by
 refine lx.OU (own:=e.BW) f g d (Eq.trans ?_ I);grind[qo]
theorem Hj{i:ke U}(b:hQ P e)(F:aJ U.D e.ts->Option (aJ U.D e.us))(n:fm P fo)(a:fW P (xq P e.f) e.st.length i 0 (codeF P e.f))
 {h:aJ U.D e.ts}{r:aJ U.D e.us}(I:oV fo i P e h=some r):sM P (e.s F) h r:=by
 unfold hQ sv at b;unfold codeF at a;unfold xq at a;unfold oV codeF Ml at I;split at b
 . rename_i fn d;simp[d]at a I;simp only[cO]at b;obtain⟨p,k,bh,l⟩:=b;obtain⟨c,m⟩:=Dt.1 k;obtain⟨o,g⟩:=Dt.1 bh;have j:GA P fn=c:=(by grind[GA]);rw[j]at a I;simp[g]at I;exact sM.DI d m g l n a I
 grind
theorem hQ.b{e:eh}(a:hQ P e):gL P e.f=true:=by
 grind[hQ,sv]
def vP(fo:fl U)(kk:Nat):Nat->dx->(e:fV)->aJ U.D e.ts->Option (ec U e.outs)
 |0,_,_,_=>none
 |n+1,b,e,h=>qo fo (j4 (e.sub.map λs=>(s.q,s.l (vP fo kk n (tP b s.q) s)))) kk b e (vP fo kk n b e) h
def ve(g:(e:eh)->aJ U.D e.ts->Option (aJ U.D e.us))(r:List (cA U)):List eh->fl U
 |[],f=>gD r f
 |e::T,f=>match Nat.beq e.f f with
  |true=>e.s (g e)::ve g r T f
  |false=>ve g r T f
def jE(P:Program)(T:List eh)(X:List (cA U)):Nat->(e:eh)->aJ U.D e.ts->Option (aJ U.D e.us)
 |0,_,_=>none
 |n+1,e,h=>oV (ve (jE P T X n) X T) (j4 (e.sub.map λs=>(s.q,s.l (vP (ve (jE P T X n) X T) e.st.length n (tP (codeF P e.f) s.q) s)))) P e h
theorem Dj{b:dx}{g:(s:fV)->aJ U.D s.ts->Option (ec U s.outs)}:∀{l:List fV},(∀s h o,g s h=some o->lx P nt kk (tP b s.q) s.sh s.ts s.outs h o)->iF P nt kk b (l.map λs=>(s.q,s.l (g s)))
 |[],_=>iF.nil
 |s::l,ao=>iF.cons (λh o a=>ao s h o a) (Dj ao)
theorem GS(a:fm P fo):∀(n:Nat) (b:dx) (e:fV) (h:aJ U.D e.ts) (o:ec U e.outs),vP fo kk n b e h=some o->lx P nt kk b e.sh e.ts e.outs h o
 |0,_,_,_,_,I=>by grind[vP]
 |n+1,b,e,h,o,I=>HL a (iF.snd (Dj λs h o c=>GS a n _ s h o c)) (λh o c=>GS a n b e h o c) I
theorem I'{g:(e:eh)->aJ U.D e.ts->Option (aJ U.D e.us)}{r:List (cA U)}(c:fm P (gD r)):∀{T:List eh},(∀e,e∈T->hQ P e)->(∀e,e∈T->gT P (e.s (g e)))->fm P (ve g r T)
 |[],_,_=>c
 |e::T,a,ao=>by
  intro f t ht;simp[ve]at ht;have ih:=I' c (λe he=>a e (zR _ he)) (λe he=>ao e (zR _ he));split at ht
  . rename_i d;have:=cR d;rcases fg.1 ht with rfl|ht
    . exact⟨this,by rw[<-this];exact(a e uX).b,ao e uX⟩
    . exact ih f t ht
  . exact ih f t ht
theorem Ja{T:List eh}(a:∀e,e∈T->hQ P e){X:List (cA U)}(d:fm P (gD X)):∀(n:Nat) (e:eh),hQ P e->gT P (e.s (jE P T X n e))
 |0,e,_=>λh r b=>by simp[eh.s,jE]at b
 |n+1,e,he=>gT.of λh r b=>
  have f:=I' d a λc g=>Ja a d n c (a c g)
  Hj he _ f (iF.snd (Dj λs h o i=>GS f n _ s h o i)) b
end
open Go
variable {U:cE}{P:Program}
def eZ(P:Program)(s:cA U):Prop:=gL P s.f=true/\gT P s
def oN(P:Program)(f:Nat):aZ->dx
 |[]=>codeF P f
 |q::p=>tP (oN P f p) q
def mn(P:Program)(f kk:Nat)(p:aZ)(e:fV)(F:aJ U.D e.ts->Option (ec U e.outs)):Prop:=sP P (xq P f) kk (oN P f p) (e.l F)
def hP(P:Program)(l:List (cA U)):Prop:=fm P (gD l)
theorem hP.n:hP P ([]:List (cA U)):=fm.nil
theorem hP.k{s:cA U}{l:List (cA U)}(h:eZ P s)(ag:hP P l):hP P (s::l):=fm.cons h.1 h.2 ag
def iY(P:Program)(f kk:Nat)(p:aZ)(l:List (Nat×gJ U)):Prop:=iF P (xq P f) kk (oN P f p) l
theorem iY.n:iY P f kk p ([]:List (Nat×gJ U)):=iF.nil
theorem iY.k{q:Nat}{e:fV}{F:aJ U.D e.ts->Option (ec U e.outs)}{l:List (Nat×gJ U)}(h:mn P f kk (q::p) e F)(ag:iY P f kk p l):iY P f kk p ((q,e.l F)::l):=iF.cons h ag
def y9(P:Program)(U:cE)(e:eh)(h:aJ U.D e.ts)(r:aJ U.D e.us):Prop:=sM P (e.s λ_=>none) h r
def vp(P:Program)(U:cE)(f kk:Nat)(p:aZ)(e:fV)(h:aJ U.D e.ts)(o:ec U e.outs):Prop:=lx P (xq P f) kk (oN P f p) e.sh e.ts e.outs h o
theorem y9.at(g:hQ P e){fs:List (cA U)}(c:hP P fs){a:List (Nat×gJ U)}(ag:iY P e.f e.st.length [] a){h:aJ U.D e.ts}{r:aJ U.D e.us}(I:oV (gD fs) (j4 a) P e h=some r):y9 P U e h r:=
 Hj g _ c (iF.snd ag) I
theorem vp.at{e:fV}{a:aJ U.D e.ts->Option (ec U e.outs)}(bV:∀h o,a h=some o->vp P U f kk p e h o){fs:List (cA U)}(g:hP P fs){c:List (Nat×gJ U)}(ag:iY P f kk p c){h:aJ U.D e.ts}{o:ec U e.outs}
 (I:qo (gD fs) (j4 c) kk (oN P f p) e a h=some o):vp P U f kk p e h o:=
 HL g (iF.snd ag) bV I
theorem eZ.of(a:hQ P e){F:aJ U.D e.ts->Option (aJ U.D e.us)}(h:∀h r,F h=some r->y9 P U e h r):eZ P (e.s F):=⟨a.b,gT.of h⟩
theorem mn.of{e:fV}{F:aJ U.D e.ts->Option (ec U e.outs)}(h:∀h o,F h=some o->vp P U f kk p e h o):mn P f kk p e F:=h
theorem eZ.fn(a:hQ P e){F:aJ U.D e.ts->Option (aJ U.D e.us)}{fs:List (cA U)}(g:hP P fs){c:List (Nat×gJ U)}(ag:iY P e.f e.st.length [] c)(I:∀h,oV (gD fs) (j4 c) P e h=F h):eZ P (e.s F):=
 .of a λh r j=>.at a g ag ((I h).trans j)
theorem mn.afn{e:fV}{F:aJ U.D e.ts->Option (ec U e.outs)}{fs:List (cA U)}(c:hP P fs){a:List (Nat×gJ U)}(ag:iY P f kk p a)(I:∀h,qo (gD fs) (j4 a) kk (oN P f p) e (λ_=>none) h=F h):mn P f kk p e F:=
 .of λh o g=>.at (λ_ _ h=>by grind) c ag ((I h).trans g)
theorem eZ.rc(c:hQ P e){F:aJ U.D e.ts->Option (aJ U.D e.us)}{b:(aJ U.D e.ts->Option (aJ U.D e.us))->aJ U.D e.ts->Option (aJ U.D e.us)}
 (fU:∀m:aJ U.D e.ts->aJ U.D e.us->Prop,(∀a,(∀h r,a h=some r->m h r)->∀h r,b a h=some r->m h r)->∀h r,F h=some r->m h r)
 {fs:(aJ U.D e.ts->Option (aJ U.D e.us))->List (cA U)}(j:∀a,eZ P (e.s a)->hP P (fs a)){g:List (Nat×gJ U)}(ag:iY P e.f e.st.length [] g)(I:∀a h,oV (gD (fs a)) (j4 g) P e h=b a h):eZ P (e.s F):=
 .of c (fU _ λa bV h r o=>.at c (j a (.of c bV)) ag ((I a h).trans o))
theorem mn.rc{e:fV}{F:aJ U.D e.ts->Option (ec U e.outs)}{b:(aJ U.D e.ts->Option (ec U e.outs))->aJ U.D e.ts->Option (ec U e.outs)}
 (fU:∀m:aJ U.D e.ts->ec U e.outs->Prop,(∀a,(∀h r,a h=some r->m h r)->∀h r,b a h=some r->m h r)->∀h r,F h=some r->m h r)
 {fs:List (cA U)}(g:hP P fs){c:List (Nat×gJ U)}(ag:iY P f kk p c)(I:∀a h,qo (gD fs) (j4 c) kk (oN P f p) e a h=b a h):mn P f kk p e F:=
 .of (fU _ λa bV h o j=>.at bV g ag ((I a h).trans j))
theorem eZ.bm{F:aJ U.D e.ts->Option (aJ U.D e.us)}{fs:List (cA U)}(c:hP P fs:=by exact .n){a:List (Nat×gJ U)}(ag:iY P e.f e.st.length [] a:=by exact .n)(g:hQ P e:=by exact .m (by kernel_rfl))
 (I:∀h,oV (gD fs) (j4 a) P e h=F h:=by intro _;kernel_rfl):eZ P (e.s F):= .fn g c ag I
theorem eZ.rx{F:aJ U.D e.ts->Option (aJ U.D e.us)}{b:(aJ U.D e.ts->Option (aJ U.D e.us))->aJ U.D e.ts->Option (aJ U.D e.us)}
 (fU:∀m:aJ U.D e.ts->aJ U.D e.us->Prop,(∀a,(∀h r,a h=some r->m h r)->∀h r,b a h=some r->m h r)->∀h r,F h=some r->m h r)
 {fs:(aJ U.D e.ts->Option (aJ U.D e.us))->List (cA U)}(g:∀a,eZ P (e.s a)->hP P (fs a)){c:List (Nat×gJ U)}(ag:iY P e.f e.st.length [] c:=by exact .n)(j:hQ P e:=by exact .m (by kernel_rfl))
 (I:∀a h,oV (gD (fs a)) (j4 c) P e h=b a h:=by intro _ _;kernel_rfl):eZ P (e.s F):= .rc j fU g ag I
theorem mn.rx {f kk:Nat}{p:aZ}{e:fV}{F:aJ U.D e.ts->Option (ec U e.outs)}{b:(aJ U.D e.ts->Option (ec U e.outs))->aJ U.D e.ts->Option (ec U e.outs)}
 (fU:∀m:aJ U.D e.ts->ec U e.outs->Prop,(∀a,(∀h r,a h=some r->m h r)->∀h r,b a h=some r->m h r)->∀h r,F h=some r->m h r)
 {fs:List (cA U)}(g:hP P fs:=by exact .n){c:List (Nat×gJ U)}(ag:iY P f kk p c:=by exact .n)(I:∀a h,qo (gD fs) (j4 c) kk (oN P f p) e a h=b a h:=by intro _ _;kernel_rfl):mn P f kk p e F:= .rc fU g ag I
theorem aao{T:List eh}(h:T.all (sv P)=true):∀e,e∈T->hQ P e:=λe he=>fk.1 h e he
theorem eZ.run{T:List eh}(dy:T.all (sv P)=true){X:List (cA U)}(c:hP P X)(a:hQ P e){F:aJ U.D e.ts->Option (aJ U.D e.us)}(n:Nat)(h:∀h,F h=jE P T X n e h):eZ P (e.s F):=
 ⟨a.b,λx r f=>Ja (aao dy) c n e a x r ((h x).symm.trans f)⟩
abbrev ad:aH:= .int .i64
abbrev ay(n:Nat):aH:= .slice (.nm n)
abbrev oT:aH:= .slice .str
abbrev cK:aH:= .slice (.int .i64)
abbrev aa(t:aH):eJ:= .c (.hole t)
abbrev aq(b o:Nat):eJ:= .c (.ptr b o)
abbrev b6(t:aH):ft:= .box [.hole t]
def zF:jR->List aH
 |.hole t=>[t]
 |.cH _ _ _=>[.int .i64]
 |.dF t _=>[t]
 |_=>[]
def bV{α:Type}(f:α->List aH):List α->List aH
 |[]=>[]
 |a::l=>f a++bV f l
def Oz:eJ->List aH
 |.c s=>zF s
 |.agg l=>bV zF l
 |.row n=>[.nm n]
 |.ba _=>[]
def iN:eJ->List aH
 |.ba l=>bV Oz l
 |v=>Oz v
def c7:ft->List aH
 |.box l=>bV zF l
 |.arr t=>[.slice t]
 |.bd n=>[.nm n]
 |.set=>[.slice .str]
 |.buf _=>[.str]
 |.b1 _ s=>zF s
 |.gone=>[]
def ek(l:List (Nat×eJ))(st:List ft):List aH:=bV (λp=>iN p.2) l++bV c7 st
abbrev aW(f:Nat)(fh:List eJ)(eD:eJ)(sub:List fV:=[])(st:List ft:=[])(eA:List ft:=[]):eh:=⟨f,fh,st,bV iN fh++bV c7 st,eD,eA,iN eD++bV c7 eA,sub⟩
abbrev bI(q:Nat)(l:List (Nat×eJ))(st:List ft)(outs:List h9)(sub:List fV:=[])(own:List (Pos×aH):=[])(BW:List (Pos×aH):=own):fV:=⟨q,⟨l,st⟩,own,BW,ek l st,outs,sub⟩
abbrev bu(e:Exit)(l:List (Nat×eJ))(st:List ft:=[])(own:List (Pos×aH):=[]):h9:=⟨e,⟨l,st⟩,own,ek l st⟩
abbrev dV(k:Nat)(t:aH):h9:=⟨.ret,⟨[(k,aa t)],[]⟩,[],[t]⟩
abbrev e5(i:Nat):h9:=⟨.exit i,⟨[],[]⟩,[],[]⟩
section
open Go
variable {U:cE}
def BC(te sz bytes:Nat)(z:List C):dx:=
 .seq (.region [⟨some 2,.mov (.const (.c .aT)),none⟩])
  (.seq (.seq (.region [⟨some 3, .mov (.tmp 0),none⟩,⟨some 4, .eqNil false (.tmp 3),none⟩])
   (.cond (.tmp 4) (.seq (.region [⟨some 2,.mov (.const (.c .aT)),none⟩]) .ret) .skip))
   (.seq (.region [⟨some 5,.bslice sz 0 z [],none⟩,⟨some 6,.mov (.tmp 0),none⟩,⟨some 7,.append te sz bytes (.tmp 5) (.tmp 6),none⟩,⟨some 2,.mov (.tmp 7),none⟩]) .ret))
def sB(bytes n:Nat):Bool:=(decide ((2*n+192)*bytes<=hi)||decide ((n+n/4+512)*bytes<=hi))&&decide (n<=dk)
theorem p5{bytes n:Nat}(h:room bytes n=true):sB bytes n=true:=by
 grind[FR,sB]
theorem Jb{bytes n:Nat}(h:sB bytes n=true):ie n bytes/\n<=dk:=by
 unfold sB at h;simp at h;exact h
def ga{α:Type}(bytes:Nat)(l:List α):Option (List α):=if sB bytes l.length then some l else none
def B7(U:cE)(f:Nat)(t:aH)(bytes:Nat):cA U:=
 ⟨f,[.c (.hole (.slice t))],[],[.slice t],.c (.arr 0),[.arr t],[.slice t],λ(l:List (t.den U.D))=>ga bytes l⟩
variable{es:List (List T)}{f te:Nat}
section
variable {P:Program}
theorem YH{fn:Func}{sz bytes:Nat}{z:List C}{p:List T}(g:P.funcs[f]?=some fn)(a:fn.body.bind (Shv.resolve P fn.ntmps)=some (BC te sz bytes z))(j:hy P fn.results.toList=some [.tmp 2])
 (aV:1<=fn.ntmps)(n:toTs z=some p)(m:0<sz)(he:∀e,e∈es->e.length=sz)(l:sB bytes es.length=true):
 dY P f [.c (.t (.slice es))] [] 0 (λr J' N'=>N'=1/\r= .c (.arr 0 sz 0 es.length)/\aP J' 0=some (.arr sz es)):=by
 have w:=Jb l;refine dY.tidy (Q:=λr J' N'=>∃b,r= .c (.arr b sz 0 es.length)/\aP J' b=some (.arr sz es)) (dY.mk g a j rfl (by grind) ?_) ?_
 . refine cl.seq (cl.region ?_);simp only[jS,gK,fO,aM,aO.get,ee,fb,cF.neutral,bJ,andThen];refine .inr ⟨λ_=>trivial,.inl trivial,?_⟩;refine cl.seq (cl.seq (cl.region ?_));simp only[jS,gK,fO,aM,aO.get,lk,ee,cF.neutral,bJ,andThen,look];refine .inr ⟨λ_=>by rfl,.inl trivial,?_⟩;refine .inr ?_;simp only[bN,bJ,true_and];intro b q;refine cl.cond (b:=b) (by simp[aO.get,look,qZ]) trivial (λv=>?_) (λu=>?_)
   ·
    have d:es=[]:=(by grind);subst d;refine cl.seq (cl.region ?_);simp only[jS,gK,fO,aM,aO.get,lk,ee,cF.neutral,bJ,andThen];refine .inr ⟨λ_=>trivial,.inl trivial,?_⟩;refine cl.conv (Conv.own (k:=2) rfl m (kL _)) (cl.ret ?_);refine⟨_,_,rfl,⟨rfl,trivial⟩,_,rfl,?_⟩;rfl
   . refine cl.skip ?_;refine cl.seq (cl.region ?_);simp only[jS,gK,fO,aM,aO.get,lk,ee,cF.neutral,bJ,andThen,look,je,n,aw,Nat.reduceEqDiff,bN,reduceCtorEq,iX,cQ,List.replicate];refine .inr ⟨λ_=>trivial,.inr trivial,?_⟩;refine .inr ⟨λ_=>by simp,.inl trivial,?_⟩;refine .inr ⟨λ_=>⟨trivial,trivial,trivial,trivial,trivial,by rfl,he,by grind,by grind⟩,.inr trivial,?_⟩;refine .inr ⟨λ_=>by simp,.inl trivial,?_⟩;refine cl.ret ⟨_,[.c (.arr 80 sz 0 _)],rfl,⟨rfl,trivial⟩,80,by rw[gS];rfl,?_⟩;rfl
 . rintro r J' N' ⟨b,rfl,hs⟩
   refine⟨[b],_,_,by simp,rfl,?_,λi x I=>⟨x,I,?_⟩,rfl,rfl,?_⟩
   . simp only[V.bS,C.bS,pos,bJ];exact .c (dC.refl _)
   . cases x with
     |box cs=>exact .box (a6.self dC.refl _)
     |arr sz es=>exact .arr
     |set ks=>exact .same
     |buf E s=>exact .same
     |b1 E c=>exact .b1 (dC.refl _)
     |cx sz es i o c=>exact .cx (dC.refl _)
   grind[fv,aP,bT.bS]
theorem IH{fn:Func}{sz bytes:Nat}{z:List C}{s:List T}{t:aH}(m:P.funcs[f]?=some fn)(k:fn.body.bind (Shv.resolve P fn.ntmps)=some (BC te sz bytes z))(n:hy P fn.results.toList=some [.tmp 2])
 (aV:Nat.ble 1 fn.ntmps=true)(q:toTs z=some s)(o:t.sz U=sz):gT P (B7 U f t bytes):=by
 intro l r bV v J1 i aE;subst o;have a:ga _ l=some r:=bV;unfold ga at a;split at a
 . cases a;cases i with
   |cons h1 g=>
    cases g;have:=bR.iS h1;subst this
    refine dY.conv (.cons (.c (dC.refl _)) .nil) (λb x I=>by grind[aP]) ((YH m k n (hj aV) q aH.vc (λe he=>by
     obtain⟨y,_,rfl⟩:=g'.1 he
     exact aH.q6) (by grind)).mono ?_)
    rintro w s1 u ⟨rfl,rfl,hs⟩
    refine⟨rfl,.c (.arr 0 _ _ (by simp) λx I p al=>?_),λb x I=>?_⟩
    . have:x=cM.arr t l:=by
       simp[cA.rest,B7,k',tc,aJ.cells,e'.cells,gQ,jg,aX]at I;grind
      grind[cM.db]
    . have d:(if b=0 then some (cM.arr t l)else none)=some x:=by
       rw[<-I];cases b<;>rfl
      split at d
      . rename_i j;cases d;subst j;exact⟨by simp,_,hs,.arr t l⟩
      grind
 grind
def tQ{α:Type}(bytes:Nat)(l:List α):Option (List α×List α):=(ga bytes l).map λr=>(l,r)
def GB(U:cE)(f:Nat)(t:aH)(bytes:Nat):cA U:=
 ⟨f,[.c (.arr 0)],[.arr t],[.slice t],.c (.arr 1),[.arr t,.arr t],[.slice t,.slice t],λ(l:List (t.den U.D))=>tQ bytes l⟩
theorem Yj{fn:Func}{sz bytes:Nat}{z:List C}{u:List T}{a:a8}(l:P.funcs[f]?=some fn)(d:fn.body.bind (Shv.resolve P fn.ntmps)=some (BC te sz bytes z))(m:hy P fn.results.toList=some [.tmp 2])
 (aV:1<=fn.ntmps)(t:toTs z=some u)(q:0<sz)(he:∀e,e∈es->e.length=sz)(n:sB bytes es.length=true)(h0:aP a 0=some (.arr sz es)):
 dY P f [.c (.arr 0 sz 0 es.length)] a 1 (λr J' N'=>N'=2/\r= .c (.arr 1 sz 0 es.length)/\aP J' 0=some (.arr sz es)/\aP J' 1=some (.arr sz es)):=by
 have D:=Jb n;refine dY.tidy (Q:=λr J' N'=>∃b,1<=b/\r= .c (.arr b sz 0 es.length)/\aP J' 0=some (.arr sz es)/\aP J' b=some (.arr sz es)) (dY.mk l d m rfl (by grind) ?_) ?_
 . refine cl.seq (cl.region ?_);simp only[jS,gK,fO,aM,aO.get,lk,ee,fb,cF.neutral,bJ,andThen];refine .inr ⟨λ_=>trivial,.inl trivial,?_⟩;refine cl.seq (cl.seq (cl.region ?_));simp only[jS,gK,fO,aM,aO.get,lk,ee,cF.neutral,bJ,andThen,look,kJ,qx];refine .inr ⟨λ_=>by rfl,.inl trivial,?_⟩;refine .inr ?_;simp only[Nat.reduceEqDiff,bN,bJ,lk,true_and];intro b w;refine cl.cond (b:=b) (p:=True) (by simp[aO.get,look,qZ]) trivial (λB=>?_) (λA=>?_)
   . have j:es=[]:=(by grind);subst j;refine cl.seq (cl.region ?_);simp only[jS,gK,fO,aM,aO.get,lk,ee,cF.neutral,bJ,andThen];refine .inr ⟨λ_=>trivial,.inl trivial,?_⟩;refine cl.conv (Conv.own (k:=2) (g:=true) (sz:=sz) rfl q (by simp)) (cl.ret ?_);refine⟨_,_,rfl,⟨rfl,trivial⟩,_,by simp,rfl,?_,?_⟩
     . simp_all[cQ,av]
     . rw[cQ,ai rfl]
   . refine cl.skip ?_;refine cl.seq (cl.region ?_);simp only[jS,gK,fO,aM,aO.get,lk,ee,cF.neutral,bJ,andThen,look,je,t,aw,Nat.reduceEqDiff,bN,bU,reduceCtorEq,List.replicate];refine .inr ⟨λ_=>trivial,.inr trivial,?_⟩;refine .inr ⟨λ_=>by simp,.inl trivial,?_⟩;have ak:∀v,iX (cZ a (1+16*1+16*2) (.arr sz v)) (.c (.arr 0 sz 0 es.length))=some (es,some 0):=by
      grind[iX,cQ]
     refine .inr ?_;simp only[kJ,qx,gS]at ak⊢;rw[ak];simp only[aw,cQ,bJ,dK,Nat.reduceMul,Nat.reduceAdd,bN];refine⟨λ_=>⟨trivial,trivial,trivial,trivial,trivial,by rfl,he,by grind,by grind⟩,.inr trivial,?_⟩;refine .inr ⟨λ_=>by simp,.inl trivial,?_⟩;refine cl.ret ⟨_,[.c _],rfl,⟨rfl,trivial⟩,81,by simp,rfl,?_,?_⟩
     . simp_all[cQ,av,eK]
     simp_all[cQ,ai]
 . rintro r J' N' ⟨b,y,rfl,F,hs⟩
   refine⟨[0,b],_,_,by grind,rfl,?_,λi x I=>⟨x,I,?_⟩,rfl,rfl,?_⟩
   . simp only[V.bS,C.bS,pos,av (show ¬0=b by omega),bJ];exact .c (dC.refl _)
   . cases x with
     |box cs=>exact .box (a6.self dC.refl _)
     |arr sz es=>exact .arr
     |set ks=>exact .same
     |buf E s=>exact .same
     |b1 E c=>exact .b1 (dC.refl _)
     |cx sz es i o c=>exact .cx (dC.refl _)
   grind[fv,aP,bT.bS]
theorem Yk{fn:Func}{sz bytes:Nat}{z:List C}{D:List T}{t:aH}(m:P.funcs[f]?=some fn)(k:fn.body.bind (Shv.resolve P fn.ntmps)=some (BC te sz bytes z))(q:hy P fn.results.toList=some [.tmp 2])
 (aV:Nat.ble 1 fn.ntmps=true)(B:toTs z=some D)(v:t.sz U=sz):gT P (GB U f t bytes):=by
 intro l r bV F J1 i aE;subst v;have a:(ga _ l).map _=some r:=bV;unfold ga at a;split at a
 . cases a;cases i with
   |cons h1 g=>
    cases g;obtain⟨sz,n,rfl,_,aj⟩:=h1.gx;obtain⟨_,y,w,A⟩:=aE 0 _ rfl;cases A;have:=aj _ rfl _ rfl;obtain⟨rfl,rfl⟩:=this;have o:l.length=(l.map (t.enc U)).length:=(by grind);rw[o]
    refine(Yj m k q (hj aV) B aH.vc (λe he=>by
     obtain⟨y,_,rfl⟩:=g'.1 he
     exact aH.q6) (by grind) w).mono ?_
    rintro H s1 E ⟨rfl,rfl,s,u⟩
    have d:∀b x,aX ((GB U f t bytes).rest (l,l)) b=some x->(b=0\/b=1)/\x=cM.arr t l:=by
     intro b x I;have G:(if b=0 then some (cM.arr t l)else if b=1 then some (cM.arr t l)else none)=some x:=by
      rw[<-I]
      match b with
      |0=>rfl
      |1=>rfl
      |_+2=>rfl
     grind
    refine⟨rfl,.c (.arr 1 _ _ (by simp) λx I p al=>?_),λb x I=>?_⟩
    . obtain⟨_,rfl⟩:=d _ _ I;grind[cM.db]
    . obtain⟨j,rfl⟩:=d _ _ I;rcases j with rfl|rfl
      . exact⟨by simp,_,s,.arr t l⟩
      . exact⟨by simp,_,u,.arr t l⟩
 grind
end
end
section
open Go Go.Proofs Go.Proofs.YtkbmjabicjpmjaaGreatDoor Go.Shelf
variable {U:cE}
def B8(U:cE)(f E a:Nat):cA U:=
 ⟨f,[.c (.ptr 0 0)],[.b1 E (.cj 1),.buf a],[.str],.ba [],[.b1 E (.cj 1),.buf a],[.str],λ(s:aD)=>some s⟩
section
variable {P:Program}{ρ:Ren}
theorem YI(L:Lays.n240 P ρ)(X:Builder.X72 P ρ){J:a8}{y n:Nat}{s:aD}(h0:aP J 0=some (.b1 (ρ.t 72) (.cj 1 n)))(h1:aP J 1=some (.buf y s)):
 dY P (ρ.f 240) [.c (.ptr 0 0)] J 2 (λr J' N'=>r= .ba []/\J'=J/\N'=2):=by
 intro φ S w B d u i K vs k;cases k with|cons G k=>
 cases k;have D:=G.gF;subst D;obtain⟨l,⟨p,v,aa,al,E⟩,q⟩:=d.blk 0 _ h0;have same:∀ w',w' = w->∃ (v:Value) (r:V) (bg:c0) (bj:c6) (J':a8) (N':Nat),Ending.returned (Value.tuple #[]) = Ending.returned v/\(r = .ba []/\J' = J/\N' = 2)/\b2 bg w' bj r v/\r.aA (lt N') = true/\oY bg w' bj J'/\(∀ (b:Nat) x,aP J' b = some x->b<N'/\x.aA (lt N') = true)/\Ext B S bj w w'/\
  (∀(b:Nat) x,aP J' b=some x->(bg b).2≠0->B (bg b).1\/w.heap.size<=(bg b).1)/\∀b,b<2->bg b=φ b:=by
  rintro w' rfl
  exact⟨_,.ba [],φ,S,J,2,rfl,⟨rfl,rfl,rfl⟩,.ba [] [] rfl (by simp),rfl,d,u,Ext.refl,λb x I a=>.inl (i b x I a),λ_ _=>rfl⟩
 rcases al with rfl|rfl
 . have g:w.cell? ⟨(φ 0).1,0,none⟩=some (.pointer none):=by rw[ic aa];rfl
   have F:w.shape? (φ 0).1=some (ρ.t 72,2):=(by simp[World.shape?,aa]);have A:w.frozen? ⟨(φ 0).1,0,none⟩=false:=(by simp[World.frozen?,aa]);refine(Any.Builder_copyCheck_fresh L X _ w g F A).mono ?_
   rintro e w' ⟨rfl,rfl⟩
   obtain⟨H,o⟩:=Qz aa 0 _;have m:fP w S _ S:=⟨λ_ _ h=>h,λb j h=>pJ (o b (λe=>q j (e▸h))) j⟩
   refine⟨_,.ba [],φ,S,J,2,rfl,⟨rfl,rfl,rfl⟩,.ba [] [] rfl (by simp),rfl,⟨λb x I=>?_,d.inj,λb j h=>?_⟩,u,⟨rfl,rfl,rfl,by simp,λb a c7=>o b (λe=>c7 (e▸i 0 _ h0 l)),m,λ_ _ h=>.inl h⟩,λb x I a=>.inl (i b x I a),λ_ _=>rfl⟩
   . by_cases a:b=0
     . subst a;rw[h0]at I;cases I;exact⟨l,⟨_,v,H,.inr rfl,bq.mono m (λ_ _=>rfl) (C.jT _) E⟩,q⟩
     . exact cU.mono (n:=λ_=>true) m (λ_ _=>rfl) rfl (by cases x<;>simp[bT.aA,C.jT]) (λz=>o _ (d.inj b 0 x _ I h0 a z l)) (d.blk b x I)
   . have:=d.st b j h;simpa using this
 . have g:w.cell? ⟨(φ 0).1,0,none⟩=some (.pointer (some ⟨(φ 0).1,0,none⟩)):=by rw[ic (vs:=[_,_]) aa];rfl
   refine(Any.Builder_copyCheck_used L X _ w g).mono ?_
   rintro e w' ⟨rfl,rfl⟩
   exact same _ rfl
theorem YJ(L:Lays.n240 P ρ)(X:Builder.X72 P ρ){E a:Nat}(i:ρ.f 240=f)(ek:ρ.t 72=E):gT P (B8 U f E a):=by
 subst i;subst ek;intro s r bV o J1 b aE;have j:=zM bV.symm;subst j;cases b with|cons b g=>
 cases g;have:=b.gF;subst this;have k:aX ((B8 U (ρ.f 240) (ρ.t 72) a).hS r) 0=some _:=rfl;have l:aX ((B8 U (ρ.f 240) (ρ.t 72) a).hS r) 1=some _:=rfl;obtain⟨_,u,e,b0⟩:=aE 0 _ k;obtain⟨_,v,g1,c⟩:=aE 1 _ l;cases c;cases b0 with| @b1 _ _ d b0=>
 cases b0 with|cj _ n p aj=>
 refine(YI L X e g1).mono ?_
 rintro q s1 m ⟨rfl,rfl,rfl⟩
 exact⟨rfl,.ba [] [] rfl (by simp),aE⟩
end
end
section
open Go Go.ChangeShapes Go.WideShapes Go.RowKit
variable {U:cE}
def aH.Pm:aH->Nat
 |.bool=>1
 |.int k=>k.bits/8
 |.str=>16
 |.slice _=>24
 |.nm _=>0
def GC:List aH->Nat
 |[]=>0
 |t::r=>t.Pm+GC r
def sb(l:List aH):Nat:=bif l.any λt=>Nat.ble 8 t.Pm then(GC l+7)/8*8 else GC l
def aH.bytes(U:cE)(t:aH):Nat:=sb (t.cells U)
inductive WF (U:cE):Cell U.D->Prop
 |bool (b:Bool):WF U ⟨.bool,b⟩
 |int (k:IntKind) (n:Int) (h:(Lit.int k n).wf=true):WF U ⟨.int k,n⟩
 |str (s:aD) (h:s.length<=reachBytes):WF U ⟨.str,s⟩
 |slice (t:aH) (l:List (t.den U.D)) (h:l.length<=reachBytes) (adN:l.length*t.bytes U<=reachBytes) (ag:∀x,x∈l->∀c,c∈t.row U x->WF U c):WF U ⟨.slice t,l⟩
def cE.Total(U:cE):Prop:=∀n (l:List (Cell U.D)),l.map Cell.ty=U.dh n->∃x,U.make n l=some x
def Cu:List aH->List aH->Bool
 |[],[]=>true
 |a::l,b::m=>aH.beq a b&&Cu l m
 |_,_=>false
theorem ID:∀{l m:List aH},Cu l m=true->l=m
 |[],[],_=>rfl
 |a::l,b::m,h=>by
  simp[Cu]at h;rw[aH.beq_eq h.1,ID h.2]
 |[],_::_,h=>by cases h
 |_::_,[],h=>by cases h
def xO(P:Program)(g:TypeId->Option (List aH)):List Field->Nat->Nat->Option (List aH)
 |[],off,c=>match Nat.beq off c with
  |true=>some []
  |false=>none
 |f::r,off,c=>match g f.type with
  |none=>none
  |some a=>match Nat.beq f.offset off&&Nat.beq (P.cellsOf f.type) a.length with
   |false=>none
   |true=>match xO P g r (off+a.length) c with
    |none=>none
    |some b=>some (a++b)
def flat(P:Program)(U:cE)(st:TypeId->Option Nat):Nat->TypeId->Option (List aH)
 |0,_=>none
 |n+1,t=>match P.underlying t with
  |some .bool=>some [.bool]
  |some (.int k)=>some [.int k]
  |some .string=>some [.str]
  |some (.slice e)=>match st e with
   |some m=>match Nat.ble 1 (P.bytesOf e)&&Nat.ble (sb (U.dh m)) (P.bytesOf e)with
    |true=>some [.slice (.nm m)]
    |false=>none
   |none=>match flat P U st n e with
    |none=>none
    |some a=>match Nat.ble 1 (P.bytesOf e)&&Nat.ble (sb a) (P.bytesOf e)with
     |false=>none
     |true=>match a with
      |[ty]=>match ty.tk with
       |true=>none
       |false=>some [.slice ty]
      |_=>none
  |some (.struct fs)=>xO P (flat P U st n) fs.toList 0 (P.cellsOf t)
  |some (.array k e)=>match flat P U st n e with
   |none=>none
   |some a=>match Nat.beq (P.cellsOf t) (k*a.length)&&Nat.beq (P.cellsOf e) a.length with
    |false=>none
    |true=>some (List.replicate k a).flatten
  |_=>none
theorem RV{α:Type}{R:Nat->α->Prop}:∀(n:Nat),(∀i,i<n->∃x,R i x)->∃l:List α,l.length=n/\∀(i:Nat) x,l[i]?=some x->R i x
 |0,_=>⟨[],rfl,by simp⟩
 |n+1,h=>by
  obtain⟨l,ag,b⟩:=RV n λi a=>h i (by omega);obtain⟨x,I⟩:=h n (by simp);refine⟨l++[x],by grind,λi y ak=>?_⟩;grind
variable{v:Value}{t:TypeId}{a:Addr}{dh:List aH}
section
variable {H:Type}{enc:TypeId×Value->H}{P:Program}{w:World}
abbrev Old(w:World):c6:=λb _=>b<w.heap.size
structure Rd (U:cE)(w:World)(dh:List aH)(cs:List Value)(l:List (Cell U.D)):Prop where
 ty:l.map Cell.ty=dh
 wf:∀c,c∈l->WF U c
 rt:a6 (λc v=>bP w (Old w) (Cell.enc U c) v) l cs
theorem xP{t:aH}{x:t.den U.D}(h1:WF U ⟨t,x⟩)(a:bP w (Old w) (Cell.enc U ⟨t,x⟩) v):Rd U w [t] [v] [⟨t,x⟩]:=
 ⟨rfl,by grind,.cons a .nil⟩
theorem Eo:∀{a:List (DataW H)} {d:DataW H},d∈a->∀n∈d.weights P t,n∈DataW.weightsAll P t a
 |d0::a,d,aj,n,aV=>by
  simp[DataW.weightsAll];rcases fg.1 aj with rfl|aj
  . grind
  . exact .inr (Eo aj n aV)
theorem II{g:TypeId->Option (List aH)}{cs:List Value}:∀{fs:List Field} {off i:Nat} {dh:List aH},
 (∀f,f∈fs->∀a,g f.type=some a->∃l,Rd U w a ((cs.drop f.offset).take (P.cellsOf f.type)) l)->
 xO P g fs off i=some dh->cs.length=i->∃l,Rd U w dh (cs.drop off) l
 |[],off,i,dh,_,h,ag=>by
  simp[xO]at h;split at h
  . rename_i e;cases h;have:=cR e;refine⟨[],rfl,by simp,?_⟩;rw[iw (by omega)];exact .nil
  grind
 |f::r,off,i,dh,ao,h,ag=>by
  simp only[xO]at h;split at h
  . grind
  . rename_i a n;split at h
    . grind
    . rename_i j;simp only[cO]at j;have h1:=cR j.1;have q:=cR j.2;split at h
      . grind
      . rename_i b o;cases h;obtain⟨p,k⟩:=ao f (by simp) a n;obtain⟨l2,m⟩:=II (λf s=>ao f (by grind)) o ag;refine⟨p++l2,by simp[k.ty,m.ty],?_,?_⟩
        . intro c d;rcases gY.1 d with d|d
          . exact k.wf c d
          . exact m.wf c d
        . have e:cs.drop off=(cs.drop off).take a.length++cs.drop (off+a.length):=by rw[<-uO,List.take_append_drop]
          rw[e];refine a6.append ?_ m.rt;have:=k.rt;grind
theorem J8{a:List aH}{cs:List Value}:∀(k off:Nat),(∀i,i<k->∃l,Rd U w a ((cs.drop (off+i*a.length)).take a.length) l)->cs.length=off+k*a.length->
 ∃l,Rd U w (List.replicate k a).flatten (cs.drop off) l
 |0,off,_,ag=>by
  refine⟨[],rfl,by simp,?_⟩;rw[iw (by omega)];exact .nil
 |k+1,off,ao,ag=>by
  obtain⟨g,d⟩:=ao 0 (by simp);rw[zY]at d
  obtain⟨l2,f⟩:=J8 (a:=a) (cs:=cs) k (off+a.length) (λi j=>by
   grind) (by grind)
  refine⟨g++l2,by simp[d.ty,f.ty,List.replicate_succ],?_,?_⟩
  . intro c b;rcases gY.1 b with b|b
    . exact d.wf c b
    . exact f.wf c b
  . have e:cs.drop off=(cs.drop off).take a.length++cs.drop (off+a.length):=by rw[<-uO,List.take_append_drop]
    rw[e];exact a6.append d.rt f.rt
theorem YK{n:Nat}{cs:List Value}(h:w.cells? 0 a n=some cs):cs.length=n/\∀j,j<n->w.cell? (a.add j)=cs[j]?:=by
 exact⟨by simpa using mapM_some_length h,λj b=>mapM_some_get h j j (by grind)⟩
theorem IJ(h:w.cell? a=some v):a.spot=none/\a.block<w.heap.size:=by
 unfold World.cell? at h;split at h
 . rename_i b;split at h
   . grind
   . refine⟨by simp_all,(x3.1 b).1⟩
 grind
theorem Jd{i j:Nat}(h:a.spot=none):(a.add i).add j=⟨a.block,a.off+i+j,none⟩:=by
 obtain⟨b,o,c⟩:=a;grind[Addr.add]
theorem OK(a:U.Total){t:aH}{l:List (Cell U.D)}(h:l.map Cell.ty=t.cells U):∃x,t.row U x=l:=by
 have one:∀t,l.map Cell.ty=[t]->∃x:t.den _,l=[⟨t,x⟩]:=by
  intro t h
  match l,h with
  |[⟨b,x⟩],h=>grind
 cases t with
 |nm n=>
  obtain⟨x,I⟩:=a n l h;exact⟨x,U.mk_eq n l x I⟩
 |bool=>obtain⟨x,I⟩:=one _ h;exact⟨x,I.symm⟩
 |int k=>obtain⟨x,I⟩:=one _ h;exact⟨x,I.symm⟩
 |str=>obtain⟨x,I⟩:=one _ h;exact⟨x,I.symm⟩
 |slice t=>obtain⟨x,I⟩:=one _ h;exact⟨x,I.symm⟩
def qU(P:Program)(U:cE)(st:TypeId->Option Nat):Prop:=∀e m,st e=some m->flat P U st 60 e=some (U.dh m)
def u':List (TypeId×Nat)->TypeId->Option Nat
 |[],_=>none
 |p::l,t=>match Nat.beq p.1 t with
  |true=>some p.2
  |false=>u' l t
def xQ(P:Program)(U:cE)(st:TypeId->Option Nat)(t:TypeId)(dh:List aH):Bool:=
 match flat P U st 60 t with
 |some a=>Cu a dh
 |none=>false
theorem E'{st:TypeId->Option Nat}(h:xQ P U st t dh=true):flat P U st 60 t=some dh:=by
 grind[xQ,ID]
theorem IE:∀{l:List (TypeId×Nat)} {t m},u' l t=some m->(t,m)∈l
 |p::l,t,m,h=>by
  simp[u']at h;split at h
  . grind[cR]
  . exact .tail _ (IE h)
theorem abM{l:List (TypeId×Nat)}(h:(l.all λp=>xQ P U (u' l) p.1 (U.dh p.2))=true):qU P U (u' l):=by
 intro e m he;rw[fk]at h;exact E' (h _ (IE he))
theorem Yl{st:TypeId->Option Nat}(g:qU P U st){n:Nat}{e:TypeId}(ht:P.underlying t=some (.slice e))(h:flat P U st (n+1) t=some dh):
 ∃ty a cp,dh=[.slice ty]/\flat P U st cp e=some a/\a=ty.cells U/\1<=P.bytesOf e/\sb a<=P.bytesOf e:=by
 simp[flat,ht]at h;split at h
 . rename_i m f;split at h
   . rename_i b;cases h;simp only[cO]at b;exact⟨.nm m,U.dh m,60,rfl,g e m f,rfl,sr b.1,sr b.2⟩
   grind
 . split at h
   . grind
   . rename_i a c;split at h
     . grind
     . rename_i b;have d:1<=P.bytesOf e/\sb a<=P.bytesOf e:=(by simp_all);split at h
       . rename_i ty;split at h
         . grind
         . rename_i aV;cases h;refine⟨ty,[ty],n,rfl,c,?_,d⟩;cases ty<;>first|rfl|cases aV
       grind
theorem IK(ax:U.Total){st:TypeId->Option Nat}(av:qU P U st):∀(fuel n:Nat) (t:TypeId) (cs:List Value) (x:DataW H×List MemPlace) (dh:List aH),
 DataW.trod enc P w 0 (λ_=>true) true fuel t cs=some x->flat P U st n t=some dh->(∀k,k∈x.1.weights P t->k<=reachBytes)->∃l,Rd U w dh cs l:=by
 intro fuel;induction fuel with
 |zero=>simp_all[DataW.trod]
 |succ m ih=>
  intro n t cs x dh h p Q;cases n with
  |zero=>cases p
  |succ n=>
  have an:=p;simp only[flat]at p;split at p
  . rename_i o;cases p;obtain⟨b,rfl,rfl⟩:=DataW.trod_bool o h;exact⟨_,xP (.bool b) (.bool b)⟩
  . rename_i k o;cases p;obtain⟨i,rfl,rfl,aw⟩:=DataW.trod_int o h;exact⟨_,xP (.int k i aw) (.int k i)⟩
  . rename_i o;cases p;obtain⟨s,rfl,rfl,hs⟩:=DataW.trod_string o h;have h1:s.data.toList.length<=reachBytes:=Q _ (by simp[DataW.weights]);have A:s.data.toList.length=s.size:=zS;refine⟨_,xP (.str s.data.toList h1) (.str s ?_)⟩;grind[reachBytes,ej]
  . rename_i e o;obtain⟨ty,a,cp,rfl,F,aa,ak,al⟩:=Yl av o an;rcases DataW.trod_slice o h with⟨rfl,rfl⟩|⟨g,len,cap,B,rest,aj,K,rfl,rfl,_,az,_,ay,G,_,_⟩
    . refine⟨_,xP (.slice ty [] (kL _) (by simp) (by simp)) ?_⟩;exact .slice [] none 0 0 0 0 (λ_ _=>default) (by simp) (by simp) (by simp) (by simp) (by simp) (by simp)
    . cases K;have aA:(B.length+rest.length)*P.bytesOf e<=reachBytes:=by
       simp_all[DataW.weights]
      have N:len<=reachBytes:=by
       have h1:B.length+rest.length<=(B.length+rest.length)*P.bytesOf e:=Du _ ak;omega
      have J:len*sb a<=reachBytes:=by
       have h1:len*sb a<=(B.length+rest.length)*P.bytesOf e:=Nat.mul_le_mul (by omega) al;omega
      have ek:∀i,i<len->∃M:ty.den U.D,∃z,z.length=P.cellsOf e/\(∀j,j<P.cellsOf e->w.cell? ((g.add (i*P.cellsOf e)).add j)=z[j]?)/\Rd U w a z (ty.row U M):=by
       intro i u;have S:=G i u;have am:B[i]?=some B[i]:=df (by omega);rw[am]at S;cases E:w.cells? 0 (g.add (i*P.cellsOf e)) (P.cellsOf e)with
       |none=>grind
       |some z=>
        rw[E]at S;obtain⟨h1,A⟩:=YK E
        obtain⟨l,ag⟩:=ih cp e z _ a S F (λk W=>Q k (by
         simp only[DataW.weights,o,fg,gY];right;left
         exact Eo (g'.2 ⟨B[i],xV _,rfl⟩) k W))
        obtain⟨M,aB⟩:=OK ax (t:=ty) (by rw[ag.ty,aa]);grind
      obtain⟨xs,af,ai⟩:=RV len ek;have Z:len≠0->P.cellsOf e=ty.sz U/\0<P.cellsOf e:=by
       intro L;obtain⟨M,z,h1,_,C⟩:=ek 0 (by omega);have y:=C.rt.length;rw[aH.Pa,h1]at y;exact⟨y.symm,by rw[<-y];exact aH.vc⟩
      have Y:len≠0->g.spot=none:=by
       intro L;obtain⟨M,z,h1,A,C⟩:=ek 0 (by omega);have h0:=A 0 (Z L).2;rw[df (by rw[h1];exact(Z L).2)]at h0;have bh:=(IJ h0).1;simpa[Addr.add]using bh
      have ah:∀x,x∈xs->∃i:Nat,xs[i]?=some x/\i<len:=by
       intro x I;obtain⟨i,u⟩:=zP.1 I;grind
      refine⟨_,xP (t:= .slice ty) (x:=xs) (.slice ty xs (by omega) (by rw[af];unfold aH.bytes;rw[<-aa];exact J) ?_) ?_⟩
      . intro x I c E;obtain⟨i,u,_⟩:=ah x I;obtain⟨z,_,_,C⟩:=ai i x u;exact C.wf c E
      . have J:(xs.map (ty.enc U)).length=len:=(by simp[af]);rw[<-J];refine .slice (xs.map (ty.enc U)) (some g) cap (P.cellsOf e) g.block g.off (λi j=>(w.cell? ⟨g.block,g.off+i*P.cellsOf e+j,none⟩).getD default) (by omega) ?_ ?_ ?_ ?_ ?_
        . rw[J];unfold reachBytes at N;unfold dk;omega
        . intro r O;obtain⟨x,I,rfl⟩:=g'.1 O;obtain⟨i,_,u⟩:=ah x I;rw[aH.q6];exact(Z (by omega)).1.symm
        . intro L;have aq:len≠0:=by intro h0;apply L;rw[<-List.length_eq_zero_iff];omega
          have:=Y aq;rw[show g=⟨g.block,g.off,g.spot⟩from rfl,this]
        . intro i j u V;rw[J]at u;obtain⟨M,z,h1,A,C⟩:=ek i u;have y:=A j V;rw[df (by omega)]at y;have X:=Y (by omega);have aN:(g.add (i*P.cellsOf e)).add j=⟨g.block,g.off+i*P.cellsOf e+j,none⟩:=Jd X;rw[aN]at y;exact⟨(IJ y).2,by rw[y];rfl⟩
        . intro i j r aC O ad;rw[qv,bx]at O;obtain⟨x,I,rfl⟩:=O;obtain⟨z,h1,A,C⟩:=ai i x I;have u:i<len:=by have:=(dL.1 I).1;omega
          rw[aH.ta,qv,bx]at ad;obtain⟨c,E,rfl⟩:=ad;obtain⟨v,ae,au⟩:=C.rt.get E;have V:j<P.cellsOf e:=by have:=(dL.1 ae).1;omega
          have y:=A j V;have X:=Y (by omega);have aN:(g.add (i*P.cellsOf e)).add j=⟨g.block,g.off+i*P.cellsOf e+j,none⟩:=Jd X;rw[aN,ae]at y;rw[y];exact au
  . rename_i fs o;obtain⟨xs,aj,K,rfl,ag,N,G⟩:=DataW.trod_struct o h;cases K
    have:=II (U:=U) (w:=w) (P:=P) (cs:=cs) (fs:=fs.toList) (off:=0) (λf ap a F=>by
     obtain⟨i,u⟩:=zP.1 ap;have T:fs[i]?=some f:=(by simpa using u);have ao:=G i f T;have ab:i<xs.length:=by rw[N];exact(x3.1 T).1
     rw[df ab]at ao
     exact ih n f.type _ _ a ao F (λk W=>Q k (by
      simp only[DataW.weights,o]
      exact DataW.weights_mem_each (j:=i) (t:=f.type) (d:=xs[i].1) (by simp[T]) (by simp[ab]) k W))) p ag
    simpa using this
  . rename_i k e o;split at p
    . cases p
    . rename_i a F;split at p
      . cases p
      . rename_i R;cases p;simp only[cO]at R;have h1:=cR R.1;have A:=cR R.2;obtain⟨xs,aj,K,rfl,ag,N,G⟩:=DataW.trod_array o h;cases K
        have:=J8 (U:=U) (w:=w) (a:=a) (cs:=cs) k 0 (λi u=>by
         have ao:=G i u;rw[df (by omega)]at ao
         obtain⟨l,ag⟩:=ih n e _ _ a ao F (λq ar=>Q q (by
          simp only[DataW.weights,o]
          exact Eo (g'.2 ⟨xs[i],xV _,rfl⟩) q ar))
         rw[A]at ag
         exact⟨l,by rw[gS];exact ag⟩) (by rw[ag,h1,gS])
        simpa using this
  . cases p
end
end
section
open Go Go.ChangeShapes Go.WideShapes Go.RowKit
variable {U:cE}
def isAgg(P:Program)(t:TypeId):Bool:=
 match P.underlying t with
 |some (.struct _)=>true
 |some (.array _ _)=>true
 |_=>false
def ma(P:Program)(U:cE)(st:TypeId->Option Nat):List TypeId->List eJ->List aH->Bool
 |[],[],[]=>true
 |t::ts,.row m::a,.nm b::dh=>(Nat.beq m b&&(isAgg P t&&xQ P U st t (U.dh m)))&&ma P U st ts a dh
 |t::ts,.c (.hole ty)::a,d::dh=>(aH.beq ty d&&(!ty.tk&&(!isAgg P t&&xQ P U st t [ty])))&&ma P U st ts a dh
 |_,_,_=>false
variable{b0 N f:Nat}{t:TypeId}{v:Value}{D:Nat->Type}{ts:List aH}{fh:List eJ}{a:List MemPlace}
section
variable {H:Type}{enc:TypeId×Value->H}{P:Program}{w:World}{φ:c0}
theorem QK{st:TypeId->Option Nat}:∀{d:List TypeId} {b:List eJ} {dh:List aH},ma P U st d b dh=true->d.length=dh.length
 |[],[],[],_=>rfl
 |[],[],_::_,h=>by cases h
 |[],_::_,_,h=>by cases h
 |_::_,[],_,h=>by cases h
 |_::_,a::_,[],h=>by
  cases a with
  |c x=>cases x<;>cases h
  |_=>cases h
 |t::ts,a::b,ty::dh,h=>by
  have:ma P U st ts b dh=true:=by
   cases a with
   |row m=>cases ty with
    |nm e=>grind[ma]
    |_=>cases h
   |c x=>cases x with
    |hole ty=>grind[ma]
    |_=>cases h
   |_=>cases h
  simp[QK this]
theorem Ym{r:Reach}(hs:isAgg P t=true)(h:Value.okWide P w r b0 t v):∃cs,v= .agg cs:=by
 grind[isAgg,Value.okWide]
theorem Yn{r:Reach}(hs:isAgg P t=false)(h:Value.okWide P w r b0 t v):v.cells=#[v]:=by
 unfold isAgg at hs;unfold Value.okWide at h;have a:Cell.okWide P w r b0 t v:=by grind
 cases v with
 |agg cs=>
  simp_all[Cell.okWide,Cell.ok]
 |_=>rfl
theorem HM{S:c6}:∀{l:List (Cell U.D)} {vs:List Value},a6 (λc v=>bP w S (Cell.enc U c) v) l vs->a6 (bq φ w S) ((l.map bo.t).map bo.nQ) vs
 |[],[],.nil=>.nil
 |c::l,v::vs,.cons h1 a=>.cons h1 (HM a)
theorem IL(g:U.Total)(φ:c0){st:TypeId->Option Nat}(z:qU P U st){b0:Nat}:∀(ts:List TypeId) (e:List eJ) (dh:List aH) (args:List Value) (f:List (DataW H)) (ps:List MemPlace),
 ma P U st ts e dh=true->(∀(j:Nat) t v,ts[j]?=some t->args[j]?=some v->Value.okWide P w .any b0 t v)->
 DataW.TrodAll enc P w 0 (λ_=>true) true ts args f ps->(∀k,k∈DataW.weightsEach P ts f->k<=reachBytes)->
 ∃(l:eE U) (xs:List (bF U)),l.map Cell.ty=dh/\(∀c,c∈l->∀d,d∈c.ty.row U c.val->WF U d)/\jG e l=(xs,[])/\(∀x,x∈xs->gn x=true)/\a6 (b2 φ w (Old w)) (xs.map fx) args
 |[],[],[],args,f,ps,_,_,ht,_=>by
  obtain⟨rfl,rfl,rfl⟩:=trodAll_nil ht;exact⟨[],[],rfl,by simp,rfl,by simp,.nil⟩
 |t::ts,G::e,ty::dh,args,f,ps,al,B,ht,D=>by
  obtain⟨v,vs,d,J,p,q,rfl,rfl,rfl,⟨fuel,h1⟩,K⟩:=trodAll_cons ht;have C:=B 0 t v rfl rfl;have E:∀k,k∈d.weights P t->k<=reachBytes:=λk M=>D k (by simp_all[DataW.weightsEach,gY]);have rest:=λS=>IL g φ (st:=st) z (b0:=b0) ts e dh vs J q S (λj t v aa ab=>B (j+1) t v (by grind) (by grind)) K
   (λk M=>D k (by simp_all[DataW.weightsEach,gY]))
  unfold ma at al;split at al
  . grind
  . rename_i t0 W m V ad Y aN n dw;cases aN;cases n;cases dw;simp only[cO]at al;obtain⟨⟨s,hs,o⟩,u⟩:=al;have R:=cR s;obtain⟨l,xs,N,O,A,Q,r⟩:=rest u;obtain⟨cs,rfl⟩:=Ym hs C;obtain⟨F,a⟩:=IK g z fuel 60 t _ _ _ h1 (E' o) E;obtain⟨x,I⟩:=OK g (t:= .nm m) a.ty;refine⟨⟨.nm m,x⟩::l,.agg ((aH.row U (.nm m) x).map .t)::xs,by grind,?_,?_,?_,?_⟩
    . intro c b;rcases fg.1 b with rfl|b
      . intro d aj;exact a.wf d (I▸aj)
      grind
    . grind[jG,k']
    . simp_all[fg,gn,bo.qD]
    . refine .cons ?_ r;have:=HM (φ:=φ) a.rt;rw[<-I]at this;exact b2.agg (vs:=cs.toList) this
  . rename_i t0 W X V ae Y aN n dw;cases aN;cases n;cases dw;simp only[cO,x6]at al;obtain⟨⟨s,aV,hs,o⟩,u⟩:=al;have R:=aH.beq_eq s;obtain⟨l,xs,N,O,A,Q,r⟩:=rest u;rw[Yn hs C]at h1;obtain⟨F,a⟩:=IK g z fuel 60 t _ _ _ h1 (E' o) E
    match F,a with
    |[],a=>cases a.ty
    |[⟨i,x⟩],a=>
     have T:i=X:=by have:=a.ty;grind
     subst T;refine⟨⟨i,x⟩::l,.c (.t ⟨i,x⟩)::xs,by grind,?_,?_,?_,?_⟩
     . intro c b;rcases fg.1 b with rfl|b
       . intro d aj;refine a.wf d ?_;cases i<;>first|exact aj|cases aV
       grind
     . simp only[jG,k',tc,A]
     . intro y ak;rcases fg.1 ak with rfl|ak
       . rfl
       grind
     . refine .cons ?_ r;cases a.rt with
       |cons L Z=>exact .c L
    |_::_::_,a=>have:=a.ty;simp at this
  grind
 |[],[],_::_,_,_,_,al,_,_,_=>by cases al
 |[],_::_,_,_,_,_,al,_,_,_=>by cases al
 |_::_,[],_,_,_,_,al,_,_,_=>by cases al
 |t::ts,G::e,[],_,_,_,al,_,_,_=>by
  cases G with
  |row m=>cases al
  |c x=>cases x<;>cases al
  |agg l=>cases al
  |ba l=>cases al
theorem aJ.OR:∀(ts:List aH) (l:eE U),l.map Cell.ty=ts->∃h:aJ U.D ts,aJ.cells U.D ts h=l
 |[],[],_=>⟨(),rfl⟩
 |[t],[⟨a,x⟩],h=>by
  have:a=t:=by grind
  subst this;exact⟨x,rfl⟩
 |t::u::r,⟨a,x⟩::l,h=>by
  simp at h;obtain⟨h1,c⟩:=h;subst h1;obtain⟨y,ak⟩:=aJ.OR (u::r) l (by grind);exact⟨(x,y),by show⟨a,x⟩::aJ.cells _ _ y=_;grind⟩
 |[],_::_,h=>by grind
 |_::_,[],h=>by grind
 |[_],_::_::_,h=>by grind
theorem e'.zk:∀{ts:List aH} {t:aH} (h:e' D t ts),e'.dec D t ts (e'.cells D t ts h)=some h
 |[],t,x=>Cell.Mm
 |u::r,t,x=>by
  unfold e'.dec e'.cells;simp[tg,Cell.Mm];rw[e'.zk];rfl
theorem aJ.zk:∀{ts:List aH} (h:aJ D ts),aJ.dec D ts (aJ.cells D ts h)=some h
 |[],_=>rfl
 |_::_,h=>e'.zk h
theorem aJ.gP:∀{ts:List aH} {l:List (Cell D)},l.map Cell.ty=ts->∃h,aJ.dec D ts l=some h:=by
 have go:∀(ts:List aH) (l:List _),l.map Cell.ty=ts->∃h:aJ D ts,aJ.cells D ts h=l:=by
  intro ts;induction ts with
  |nil=>intro l h;cases l with
   |nil=>exact⟨(),rfl⟩
   |cons=>grind
  |cons t r ih=>
   intro l h;cases l with
   |nil=>grind
   |cons c l=>
    obtain⟨e,x⟩:=c;simp at h;obtain⟨h1,a⟩:=h;subst h1;obtain⟨y,ak⟩:=ih l a;cases r with
    |nil=>
     cases l with
     |nil=>exact⟨x,rfl⟩
     |cons=>grind
    |cons u r=>exact⟨(x,y),by show⟨e,x⟩::aJ.cells D _ y=_;grind⟩
 intro ts l h;obtain⟨y,ak⟩:=go ts l h;grind[aJ.zk]
def Ok(U:cE)(ts:List aH)(h:aJ U.D ts):Prop:=∀c,c∈aJ.cells U.D ts h->∀d,d∈c.ty.row U c.val->WF U d
theorem aa9:cm N ([]:bf U) []:=λb x h=>by cases h
theorem Je{J:bf U}:∀{xs:List (bF U)},(∀x,x∈xs->gn x=true)->a6 (bR N J) xs (xs.map fx)
 |[],_=>.nil
 |x::xs,h=>.cons (ui (h x (by simp))).1 (Je λy ak=>h y (by grind))
theorem IF{k:Nat->Bool}:∀{xs:List (bF U)},(∀x,x∈xs->gn x=true)->V.aA.V.dr k (xs.map fx)=true
 |[],_=>rfl
 |x::xs,h=>by
  simp[V.aA.V.dr];exact⟨(ui (N:=0) (J:=[]) (h x (by simp))).2 k,IF λy ak=>h y (by grind)⟩
theorem adX{F:aJ U.D ts->Option (aJ U.D [.bool])}(M:U.Total)(hs:gT P ⟨f,fh,[],ts,.c (.hole .bool),[],[.bool],F⟩)
 (L:∀h:aJ U.D ts,Ok U ts h->F h=some true){st:TypeId->Option Nat}(G:qU P U st){g:List TypeId}(al:ma P U st g fh ts=true)
 {b0:Nat}{args:Array Value}{i:List (DataW H)}{ps:List MemPlace}(J:∀(j:Nat) t v,g[j]?=some t->args[j]?=some v->Value.okWide P w .any b0 t v)
 (ht:DataW.TrodAll enc P w 0 (λ_=>true) true g args.toList i ps)(K:∀k,k∈DataW.weightsEach P g i->k<=reachBytes):
 Calls P f args w λe w'=>e= .returned (.bool true)/\Below w.heap.size w w':=by
 obtain⟨l,xs,s,u,O,z,A⟩:=IL M _ G _ fh ts _ i ps al (λj t v p Q=>J j t v p (by grind)) ht K;obtain⟨h,aa⟩:=aJ.OR ts l s;have bV:=L h (λc m d aj=>u c (aa▸m) d aj)
 have o:=hs h _ bV (xs.map fx) [] (by
  show a6 _ (jG fh _).1 _;grind[Je]) (by
  exact aa9)
 have:=o (λb=>(b,0)) _ w (λ_=>False) {blk:=λb x I=>(by cases I),inj:=λb N x y I=>(by simp),st:=λb j n=>n} (λb x I=>by cases I) (λb x I=>by simp)
  (IF z) _ A
 refine this.mono λe w' ⟨v,r,bg,bj,J',N',he,⟨_,B,_⟩,E,_,_,_,a,_⟩=>?_;cases B with
 |c m=>
  cases m with
  |t c=>
   cases E with
   |c C=>
    cases C;exact⟨he,a.os,a.tape,a.output,a.size,λk q=>a.block k q (λh=>h)⟩
theorem Yo{f:Func}{s:ChangeSpec}{n xA m:Bool}{W e:World}{args:Array Value}{c gs:List (DataW H)}
 (fc:DataW.Whole enc P f.params.toList s.vars false W args.toList c gs a)(i:Below W.heap.size W e)
 (hres:∀(b:Nat) (d:Nat->Bool) (aj:Bool),DataW.TrodAll enc P e b d aj f.resultTypes.toList (v.resultList f.resultTypes.size) (s.fn H (c++gs)).results [])
 (g:∀d:Nat->Bool,(∀p∈a,d p.block=true)->DataW.TrodAll enc P e 0 d true f.params.toList args.toList (s.fn H (c++gs)).args a)
 (l:∀d:Nat->Bool,(∀p∈a,d p.block=true)->DataW.TrodVars enc P e d s.vars (s.fn H (c++gs)).vars [])
 (o:∀(j:Nat) (t:TypeId) (r:Value),f.resultTypes[j]?=some t->(v.resultList f.resultTypes.size)[j]?=some r->Value.okWide P e .any 0 t r):
 s.post enc P f false n xA m W args v e:=by
 have aF:=fc.lt;have k:∀p∈a,(λb=>decide (b<W.heap.size)) p.block=true:=λp al=>by grind
 refine⟨c,gs,a,[],a,[],fc,hres _ _ _,g _ k,l _ k,i.frame _,λ_=>?_⟩;refine⟨o,(s.fn H (c++gs)).results++(s.fn H (c++gs)).args,(s.fn H _).vars,a,⟨a,[],?_,l _ (λ_ _=>rfl),by simp,?_,λh=>by grind⟩,λp al _=>al⟩
 . have:=trodAll_append (g _ (λ_ _=>rfl)) (hres 0 (λ_=>true) _);grind
 . intro b off al;obtain⟨_,_,_,_,_,q,_⟩:=fc;rw[World.frozen?_of_block (i.block b (aF _ al))];exact q b _ al
theorem adY{fn:Func}{s:ChangeSpec}{F:aJ U.D ts->Option (aJ U.D [.bool])}(af:U.Total)
 (hs:gT P ⟨f,fh,[],ts,.c (.hole .bool),[],[.bool],F⟩)
 (ae:∀h:aJ U.D ts,Ok U ts h->F h=some true){st:TypeId->Option Nat}(X:qU P U st)(al:ma P U st fn.params.toList fh ts=true)
 {B:TypeId}(hres:fn.resultTypes=#[B])(htb:P.underlying B=some .bool)(u:s.vars=[])
 (M:∀g:List (DataW H),g.length=ts.length->(s.fn H g).results=[.lit (.bool true)]/\(s.fn H g).args=g/\(s.fn H g).vars=[])
 (n:(laidOutB P&&mapsRowed P)=true)(Q:fn.params.toList.all (λt=>decide (t<P.types.size))=true)
 (V:((List.range P.types.size).all λt=>match P.underlying t with|some (.slice e)=>decide (0<P.cellsOf e)|_=>true)=true)
 {W:World}{base:Nat}{args:Array Value}{g gs:List (DataW H)}{E:List MemPlace}{G xA C:Bool}
 (Z:∀(j:Nat) t v,fn.params[j]?=some t->args[j]?=some v->Value.okWide P W .any base t v)
 (fc:DataW.Whole enc P fn.params.toList s.vars false W args.toList g gs E)
 (N:(DataW.weightsEach P (fn.params.toList++s.plain.varTypes P) (g++gs)).all (· <=reachBytes)=true):
 Calls P f args W λe m=>∃v,e= .returned v/\s.post enc P fn false G xA C W args v m:=by
 have y:=fc;obtain⟨p,q,w,iN,rfl,ah,b3⟩:=fc;rw[u]at iN;obtain⟨rfl,rfl⟩:=trodVars_none iN;have ad:s.plain.varTypes P=[]:=by show s.vars.filterMap _=[]<;>simp[u]
 rw[ad,ny,ny,fk]at N;have O:g.length=ts.length:=by
  have h1:∀{i:List TypeId} {vs:List Value} {g:List (DataW H)} {ps:List MemPlace},DataW.TrodAll enc P W 0 (λ_=>true) true i vs g ps->g.length=i.length:=by
   intro i;induction i with
   |nil=>grind[trodAll_nil]
   |cons t r ih=>grind[trodAll_cons]
  grind[QK]
 obtain⟨R,S,T⟩:=M g O;simp only[cO]at n;have K:=kids_rows n.1 n.2;have Y:=slices_full_of P V;refine(adX af hs ae X al (λj t v ai ab=>Z j t v (by grind) ab) w (λk ak=>by grind)).mono λe m ⟨he,z⟩=>?_;subst he;refine⟨_,rfl,Yo y z ?_ ?_ ?_ ?_⟩
 . intro b l aj;rw[ny,R,hres];exact trodAll_cons_mk (shut_bool htb _) trodAll_mk0
 . intro l A;rw[ny,S];have aF:=y.lt;have dy:=λt ht=>by simpa using fk.1 Q t ht
   have go:∀ {i:List TypeId} {vs:List Value} {g:List (DataW H)} {ps:List MemPlace},(∀ t,t∈i->t<P.types.size)->(∀ p∈ps,p.block<W.heap.size/\l p.block = true)->
    DataW.TrodAll enc P W 0 (λ_=>true) true i vs g ps->DataW.TrodAll enc P m 0 l true i vs g ps:=by
    intro i;induction i with
    |nil=>intro vs g ps _ _ h;obtain⟨rfl,rfl,rfl⟩:=trodAll_nil h;exact trodAll_mk0
    |cons t r ih=>
     intro vs g ps dy o h;obtain⟨v,am,d,ag,a,b,rfl,rfl,rfl,⟨J,h1⟩,L⟩:=trodAll_cons h;refine⟨a,b,⟨J,DataW.trod_stays K (λ{t e}=>Y t e) (by intro aa;cases aa) (dy t (by simp)) h1 (λx I=>z.same (o x (by simp[I])).1) (λx I=>(o x (by simp[I])).2)⟩,ih (λt ht=>dy t (by simp[ht])) (λx I=>o x (by simp[I])) L,rfl⟩
   rw[ny];exact go dy (λx I=>⟨aF x (by simp[I]),A x (by simp[I])⟩) w
 . intro l A;rw[ny,T,u];rfl
 . exact ok_one hres rfl (okWide_bool_mk htb _)
end
end
section
open Go
theorem jy{a b:Int}(h1: -9223372036854775808<=a+b)(c:a+b<=9223372036854775807):aS .i64 a b=a+b:=by grind[aS,IntKind.wrap_i64]
theorem sd{a b:Int}(h1: -9223372036854775808<=a-b:=by omega)(c:a-b<=9223372036854775807:=by omega):dM .i64 a b=a-b:=by grind[dM,IntKind.wrap_i64]
theorem aU{k n:Nat}(h:k<n):aB (k:Int) n=true:=by grind[aB]
theorem bz(k:Nat):(k:Int).toNat=k:=ey k
theorem qH{a:Int}(h0:0<=a)(h1:a<18446744073709551616):IntKind.u64.wrap a=a:=by grind[IntKind.wrap_u64]
variable{a:Nat}
theorem kO(h1:a<18446744073709551616:=by omega):ca .u64 (a:Int)=a:=qH (by simp) (by omega)
theorem aeR:(2:Nat)^64=18446744073709551616:=by rfl
theorem O'{b:Nat}:cy (a:Int) (b:Int)=((a%b:Nat):Int):=by rfl
theorem Dp{b:Nat}(h:a*b<18446744073709551616):hG .u64 (a:Int) (b:Int)=((a*b:Nat):Int):=by
 grind[hG,qH]
theorem aa'{a b:Int}(h1: -9223372036854775808<=a*b)(c:a*b<=9223372036854775807):hG .i64 a b=a*b:=by grind[hG,IntKind.wrap_i64]
theorem zg{b:Nat}(h:a+b<18446744073709551616):aS .u64 (a:Int) (b:Int)=((a+b:Nat):Int):=by
 grind[aS,qH]
theorem bO(h:a<9223372036854775807):aS .i64 (a:Int) 1=((a+1:Nat):Int):=by grind[jy]
theorem HN(s:aD)(i:Nat):jf s (i:Int)=((s.getD i 0).toNat:Int):=by rfl
theorem Jf{b n:Nat}(h1:a<=b)(c:b<=n):gu (a:Int) (b:Int) n=true:=by grind[gu]
theorem e2{k n:Nat}(a:k<=1000:=by omega)(h:n<=100000:=by simp;omega):room k n=true:=by
 unfold room hi dk;simp;have:(2*n+192)*k<=200192*1000:=Nat.mul_le_mul (by omega) a;omega
end
section
open Go Go.Proofs Go.Proofs.YtkbmjabicjpmjaaGreatDoor Go.Sort Go.RowKit
variable {P:Program}{α:Type}[Inhabited α]
theorem TJ(w:World)(blk:Nat)(f:Array Value->Array Value){b:Nat}(h:b≠blk):(mapBlock w blk f).heap[b]?=w.heap[b]?:=by simp[mapBlock,Dv,du h]
theorem US(w:World)(blk:Nat)(f:Array Value->Array Value){c:Array Value}{E:TypeId}{a:Nat×Nat}(h:w.heap[blk]?=some (.cells c E a)):(mapBlock w blk f).heap[blk]?=some (.cells (f c) E a):=by
 simp[mapBlock,Dv,h,onCells]
theorem Zt{g k:Nat}(enc:α->List Value)(l:α->List T)(F:Array α->Array α)(aQ:∀x,(enc x).length=k)(L:∀x,(l x).length=k)(H:0<k)
 (aL:∀(w:World) (S:c6) (x:α) (j:Nat) (t:T) (v:Value),(l x)[j]?=some t->bP w S t v->(enc x)[j]?=some v)
 (bV:∀d:Array α,(F d).size=d.size/\∀x,x∈(F d).toList->x∈d.toList)
 (aq:∀(blk off cap:Nat) (d:Array α) (w:World),HoldsK enc k w blk off d->blk<w.heap.size->d.size<4611686018427387904->
  Calls P f #[.slice (some ⟨blk,off,none⟩) d.size cap,.func (.func g) #[] #[]] w λe w'=>e= .returned (.tuple #[])/\∃n os,w'=sortWorldK enc k w blk off n (F d) os)
 (aH:∀(p:Option Addr) (cap:Nat) (ai:Value) (w:World),Calls P f #[.slice p 0 cap,ai] w λe w'=>e= .returned (.tuple #[])/\w'=w)
 {J:a8}{d:List α}(h0:aP J 0=some (.arr k (d.map l)))(ay:0<kk):
 dY P f [.c (.arr 0 k 0 d.length),.c (.fn g [])] J kk (λr J' N'=>r= .ba []/\J'=cZ J 0 (.arr k ((F d.toArray).toList.map l))/\N'=kk):=by
 intro φ S w B o aT aI aM vs G;cases G with|cons u G=>
 cases G with|cons N G=>
 cases G;cases u with|c u=>
 cases N with|c N=>
 obtain⟨a,rfl,am,aR⟩:=u;have aJ:_=Value.func (.func g) #[] #[]:=N;subst aJ;obtain⟨ag,Z,aS,_,ao⟩:=o.blk 0 _ h0;rw[qy]at ag Z;obtain⟨af,aC⟩:=bV d.toArray;have W:∀ w':World,Ext B S S w w'->oY φ w' S (cZ J 0 (.arr k ((F d.toArray).toList.map l)))->∃ v r bg bj J' N',Ending.returned (Value.tuple #[]) = Ending.returned v/\(r = V.ba []/\J' = cZ J 0 (.arr k ((F d.toArray).toList.map l))/\N' = kk)/\b2 bg w' bj r v/\r.aA (lt N') = true/\oY bg w' bj J'/\(∀ (b:Nat) x,aP J' b = some x->b<N'/\x.aA (lt N') = true)/\Ext B S bj w w'/\
  (∀(b:Nat) x,aP J' b=some x->(bg b).2≠0->B (bg b).1\/w.heap.size<=(bg b).1)/\∀b,b<kk->bg b=φ b:=by
  intro w' ek aE;refine⟨_,.ba [],φ,S,_,kk,rfl,⟨rfl,rfl,rfl⟩,.ba [] [] rfl (by simp),rfl,aE,λb x I=>?_,ek,λb x I m=>?_,λ_ _=>rfl⟩
  . rw[cQ]at I;split at I
    . rename_i m;cases I;subst m;exact⟨ay,rfl⟩
    grind
  grind[cQ]
 by_cases K:(φ 0).2=0
 ·
  have aj:d=[]:=lg (by omega);subst aj;refine(aH a _ _ w).mono ?_
  rintro e w' ⟨rfl,rfl⟩
  have he:(F ([]:List α).toArray).toList.map l=([]:List α).map l:=by grind
  refine W _ Ext.refl ?_;rw[he];refine⟨λb x I=>?_,λb A x y I ak=>?_,o.st⟩
  . rw[cQ]at I;split at I
    . rename_i m;cases I;subst m;exact o.blk _ _ h0
    . exact o.blk b x I
  . have key:∀b x,aP (cZ J 0 (.arr k (([]:List α).map l))) b=some x->∃z,aP J b=some z:=by
     intro b x I;rw[cQ]at I;grind
    obtain⟨z,O⟩:=key b x I;obtain⟨U,R⟩:=key A y ak;exact o.inj b A z U O R
 . obtain⟨vs,E,aa,ah,ap,ab⟩:=ao K;rw[am K];have ae:∀(i j:Nat) (t:T) (x:α),d[i]?=some x->(l x)[j]?=some t->∃v,vs[i*k+j]?=some v/\bP w S t v/\(enc x)[j]?=some v:=by
    intro i j t x q s;obtain⟨v,u,ad⟩:=ap i j (l x) t (by rw[qv,q];rfl) s;grind
   have X:(φ 0).1<w.heap.size:=(by grind);have al:HoldsK enc k w (φ 0).1 (0*k) d.toArray:=by
    intro j s;rw[size_flatK]at s;have aw:j<d.length*k:=(by simpa using s);have q:j/k<d.length:=(Nat.div_lt_iff_lt_mul H).2 aw;have D:j%k<k:=Nat.mod_lt _ H;have I:d[j/k]?=some d[j/k]:=df q;have aB:j%k<(l d[j/k]).length:=by rw[L];exact D
    obtain⟨v,u,_,he⟩:=ae (j/k) (j%k) _ _ I (df aB);have ax:j/k*k+j%k=j:=by rw[Nat.mul_comm];exact Nat.div_add_mod j k
    rw[ax]at u;refine⟨?_,by simp[World.frozen?,aa]⟩;rw[zY,gS,ic aa,u,get_flatK _ _ _ _ s];grind
   have az:d.toArray.size<4611686018427387904:=by
    have:dk=281474976710656:=rfl;simp;omega
   refine(aq (φ 0).1 (0*k) _ d.toArray w al X az).mono ?_
   rintro e w' ⟨rfl,n,os,rfl⟩
   have M:∀b:Nat,b<w.heap.size->b≠(φ 0).1->(sortWorldK enc k w (φ 0).1 (0*k) n (F d.toArray) os).heap[b]?=w.heap[b]?:=by
    intro b m aD;unfold sortWorldK putRowK putRow;rw[heap_grow_old _ _ (by simpa[mapBlock,Go.Sort.ahead]using m),TJ _ _ _ aD];rfl
   have aG:(sortWorldK enc k w (φ 0).1 (0*k) n (F d.toArray) os).heap[(φ 0).1]?=some (.cells (putCells id (0*k) (flatK enc k (F d.toArray)) vs.toArray).toList.toArray E (0,0)):=by
    unfold sortWorldK putRowK putRow;rw[heap_grow_old _ _ (by simpa[mapBlock,Go.Sort.ahead]using X),US (Go.Sort.ahead w n) _ _ (by exact aa)]
   have D:fP w S _ S:=⟨λ_ _ h=>h,λb j h=>pJ (M b (o.st b j h) (λe=>ab j (e▸h))) j⟩
   refine W _ ⟨rfl,rfl,rfl,?_,λb m c7=>M b m (λe=>c7 (e▸aI 0 _ h0 K)),D,λ_ _ h=>.inl h⟩ ⟨λb x I=>?_,λb A x y I ak=>?_,λb j h=>?_⟩
   . unfold sortWorldK putRowK putRow;simp[grow,mapBlock,Go.Sort.ahead]
   . rw[cQ]at I;split at I
     . rename_i m;cases I;subst m;refine⟨by simpa[af]using ag,by simpa[af]using Z,λe he=>?_,H,λ_=>⟨_,E,aG,by simpa[putCells]using ah,λi j e t q s=>?_,ab⟩⟩
       . obtain⟨x,_,rfl⟩:=g'.1 he;exact L x
       . rw[qv]at q;cases Q:(F d.toArray).toList[i]? with
         |none=>rw[Q]at q;cases q
         |some x=>
          rw[Q]at q;have:e=l x:=(zM q).symm;subst this;have I:x∈d:=(by simpa using aC x (eV Q));obtain⟨aK,au,ar⟩:=jk I;obtain⟨v,u,ad,he⟩:=ae aK j t x (by rw[df au,ar]) s;refine⟨v,?_,bP.mono D ad⟩;have aO:j<k:=by rw[<-L x];exact(dL.1 s).1
          have av:i<(F d.toArray).size:=(by grind);have aF:i*k+j<(F d.toArray).size*k:=by
           have:=eY k (show i+1<=(F d.toArray).size from av);grind
          have aA:i*k+j<vs.length:=by
           rw[ah];refine ix aF (eY k ?_);grind
          have d1:(i*k+j)/k=i:=(blk_iff k i _ H).1 ⟨by omega,by omega⟩;have d2:(i*k+j)%k=j:=by rw[Nat.mod_eq_sub_div_mul,d1];omega
          have aN:(F d.toArray)[i]! =x:=(by grind);have:(putCells id (0*k) (flatK enc k (F d.toArray)) vs.toArray).toList[i*k+j]?=some ((flatK enc k (F d.toArray))[i*k+j]!):=by
           rw[Dw];simp only[putCells,Array.getElem?_mapIdx];rw[show vs.toArray[i*k+j]?=some vs[i*k+j] by simp[aA]];simp[size_flatK,aF]
          rw[this,get_flatK _ _ _ _ aF,d1,d2,aN,List.getElem!_eq_getElem?_getD,he];rfl
     . rename_i m;have an:b≠0:=λe=>m (by simp[e]);refine cU.mono (n:=λ_=>true) D (λ_ _=>rfl) rfl (by cases x<;>simp[bT.aA,C.jT]) (λY=>M _ ((o.blk b x I).iA Y) (o.inj b 0 x _ I h0 an Y K)) (o.blk b x I)
   . have key:∀b x,aP (cZ J 0 (.arr k ((F d.toArray).toList.map l))) b=some x->∃z,aP J b=some z:=by
      intro b x I;rw[cQ]at I;grind
     obtain⟨z,O⟩:=key b x I;obtain⟨U,R⟩:=key A y ak;exact o.inj b A z U O R
   . have:=o.st b j h;unfold sortWorldK putRowK putRow;simp[grow,mapBlock,Go.Sort.ahead];omega
def j8(lt:α->α->Bool)(l:List α):List α:=(pdq lt l.toArray 0 l.length (Lib.bitLen l.length) true true).toList
theorem EW{lt:α->α->Bool}(a:SWO lt)(l:List α):(j8 lt l).Perm l:=by
 obtain⟨⟨hs,_,al⟩,_⟩:=pdq_sorts lt a l.toArray 0 l.length (Lib.bitLen l.length) true true (kL _) (by simp) (Or.inl rfl);grind[Array.extract_size,j8]
theorem Wi{lt:α->α->Bool}(a:SWO lt)(l:List α):(j8 lt l).length=l.length:=(EW a l).length_eq
theorem Wj{lt:α->α->Bool}(a:SWO lt)(l:List α):(j8 lt l).Pairwise λx y=>lt y x=false:=by
 obtain⟨⟨hs,_,_⟩,aE⟩:=pdq_sorts lt a l.toArray 0 l.length (Lib.bitLen l.length) true true (kL _) (by simp) (Or.inl rfl);have e:=Wi a l;rw[List.pairwise_iff_getElem];intro i j c d b;have:=aE i j (kL _) b (by grind);grind[j8]
def Ec(U:cE)(f n g:Nat)(F:List (U.D n)->List (U.D n)):cA U:=
 ⟨f,[.c (.arr 0),.c (.fn g [])],[.arr (.nm n)],[.slice (.nm n)],.ba [],[.arr (.nm n)],[.slice (.nm n)],λ(l:List (U.D n))=>some (F l)⟩
theorem Zu{n g:Nat}[Inhabited (U.D n)](enc:U.D n->List Value)(lt:U.D n->U.D n->Bool)(B:SWO lt)(J:∀x,(enc x).length=(aH.nm n).sz U)
 (C:∀(w:World) (S:c6) (x:U.D n) (j:Nat) (t:T) (v:Value),((aH.nm n).enc U x)[j]?=some t->bP w S t v->(enc x)[j]?=some v)
 (G:∀(blk off cap:Nat) (d:Array (U.D n)) (w:World),HoldsK enc ((aH.nm n).sz U) w blk off d->blk<w.heap.size->d.size<4611686018427387904->
  Calls P f #[.slice (some ⟨blk,off,none⟩) d.size cap,.func (.func g) #[] #[]] w λe w'=>e= .returned (.tuple #[])/\∃M os,w'=sortWorldK enc ((aH.nm n).sz U) w blk off M (pdq lt d 0 d.size (Lib.bitLen d.size) true true) os)
 (K:∀(p:Option Addr) (cap:Nat) (u:Value) (w:World),Calls P f #[.slice p 0 cap,u] w λe w'=>e= .returned (.tuple #[])/\w'=w):
 gT P (Ec U f n g (j8 lt)):=by
 intro l r bV O J1 a aE;have L:=(zM bV).symm;subst L;cases a with|cons a c=>
 cases c with|cons c E=>
 cases E;obtain⟨sz,m,rfl,_,H⟩:=bR.gx a;have:=bR.C9 c;subst this;have o:Shv.aX ((Ec U f n g _).hS l) 0=some _:=rfl;have aj:=H _ o _ rfl;obtain⟨_,R,y,b0⟩:=aE 0 _ o;cases b0;have aN:=(dP Prod.fst aj).symm;have s:=(dP Prod.snd aj).symm;subst aN;subst s;have k:∀d:Array _,(j8 lt d.toList).Perm d.toList:=λd=>EW B d.toList
 refine(Zt enc _ (λd=>(j8 lt d.toList).toArray) J (λx=>aH.q6) aH.vc C
  (λd=>⟨by simpa using(k d).length_eq,λx I=>(k d).mem_iff.1 (by grind)⟩) (λblk off cap d w h1 z A=>?_) K y Nat.one_pos).mono ?_
 . have:=G blk off cap d w h1 z A;simpa[j8]using this
 . rintro Q s1 N ⟨rfl,rfl,rfl⟩
   refine⟨rfl,.ba [] [] rfl (by simp),λb x I=>?_⟩;generalize j8 lt l=q at I⊢;have i:(if b=0 then some (cM.arr (.nm n) q)else none)=some x:=by
    rw[<-I];cases b<;>rfl
   split at i
   . rename_i F;cases i;subst F;refine⟨Nat.one_pos,_,?_,.arr (.nm n) q⟩;rw[cQ];rfl
   . cases i
theorem Yp(w:World)(S:c6)(i:Int)(s:aD)(j:Nat)(t:T)(v:Value)(h:[T.int .i64 i,T.str s][j]?=some t)(a:bP w S t v):[Value.int .i64 i,Value.string ⟨s.toArray⟩][j]?=some v:=by
 match j,h with
 |0,h=>cases h;cases a;rfl
 |1,h=>cases h;cases a;rfl
theorem aap(key:α->Int):SWO (λx y=>decide (key x<key y)) where
 irrefl x:=by simp
 trans x y z h1 a:=by grind
 ntrans x y z h1 a:=by grind
end
section
open Go Go.Proofs Go.Proofs.YtkbmjabicjpmjaaGreatDoor Go.Sort
def kd{α:Type}(a b:Option α):Prop:=∀r,a=some r->b=some r
theorem kd.r{α:Type}{a:Option α}:kd a a:=λ_ h=>h
theorem kd.n{α:Type}{a:Option α}:kd none a:=λ_ h=>by grind
theorem kd.b{α g:Type}{a b:Option α}{k c:α->Option g}(h:kd a b)(e:∀x,kd (k x) (c x)):kd (a>>=k) (b>>=c):=by
 intro r f;cases a with
 |none=>grind
 |some x=>rw[h x rfl];exact e x r f
theorem kd.i{α:Type}{p:Prop}[Decidable p]{a b c d:Option α}(h:kd a c)(k:kd b d):kd (if p then a else b) (if p then c else d):=by grind
variable {α:Type}[Inhabited α]
def q8(lt:α->α->Bool)(x:α):List α->List α
 |[]=>[x]
 |y::r=>if lt x y then x::y::r else y::q8 lt x r
def nr(lt:α->α->Bool):List α->List α
 |[]=>[]
 |x::r=>q8 lt x (nr lt r)
def ky(lt:α->α->Bool):List α->Bool
 |[]=>true
 |x::r=>r.all (λy=>lt x y||lt y x)&&ky lt r
theorem Gl(lt:α->α->Bool)(x:α):∀l,(q8 lt x l).Perm (x::l)
 |[]=>.refl _
 |y::r=>by
  simp[q8];split
  . rfl
  . exact((Gl lt x r).cons y).trans (.swap x y r)
theorem pY(lt:α->α->Bool):∀l,(nr lt l).Perm l
 |[]=>.refl _
 |x::r=>(Gl lt x _).trans ((pY lt r).cons x)
theorem RW{lt:α->α->Bool}(b:SWO lt)(x:α):∀{l:List α},l.Pairwise (λx y=>lt y x=false)->(q8 lt x l).Pairwise λx y=>lt y x=false
 |[],_=>by simp[q8]
 |y::r,h=>by
  rw[kI]at h;simp[q8];split
  . rename_i d;have e:lt y x=false:=by
     cases c:lt y x with
     |false=>rfl
     |true=>have:=b.trans _ _ _ d c;rw[b.irrefl]at this;grind
    rw[kI];refine⟨λz a=>?_,kI.2 h⟩;rcases fg.1 a with rfl|a
    . grind
    . exact b.ntrans _ _ _ (h.1 z a) e
  . rw[kI];refine⟨λz a=>?_,RW b x h.2⟩;rcases fg.1 ((Gl lt x r).mem_iff.1 a)with rfl|a
    . grind
    grind
theorem AA{lt:α->α->Bool}(a:SWO lt):∀l:List α,(nr lt l).Pairwise λx y=>lt y x=false
 |[]=>.nil
 |x::r=>RW a x (AA a r)
theorem HO{lt:α->α->Bool}:∀{l:List α},ky lt l=true->∀a b,a∈l->b∈l->a=b\/lt a b=true\/lt b a=true
 |x::r,h,a,b,c,e=>by
  simp[ky]at h;rcases fg.1 c with g|d<;>rcases fg.1 e with i|f
  . grind
  . grind
  . grind
  . exact HO h.2 a b d f
theorem RX{lt:α->α->Bool}{l:List α}(al:ky lt l=true):∀{a b:List α},a.Perm l->b.Perm l->a.Pairwise (λx y=>lt y x=false)->b.Pairwise (λx y=>lt y x=false)->a=b:=by
 intro a b d e h1 c;refine List.Perm.eq_of_pairwise (λx y I ak f g=>?_) h1 c (d.trans e.symm);grind[HO]
theorem aaq{lt:α->α->Bool}(a:SWO lt){l:List α}(al:ky lt l=true):j8 lt l=nr lt l:=
 RX al (EW a l) (pY lt l) (Wj a l) (AA a l)
def Eb(lt:α->α->Bool)(l:List α):Option (List α):=if ky lt l then some (nr lt l)else none
theorem Zv{lt:α->α->Bool}(a:SWO lt)(l:List α):kd (Eb lt l) (some (j8 lt l)):=by
 intro r h;grind[Eb,aaq]
end
section
open Go
def dS(x:Int×Int):Value:= .agg #[.int .i64 x.1,.int .i64 x.2]
structure mo (P:Program)(mt:TypeId):Prop where
 ex:∃fz Pl it i Pk,P.underlying mt=some (.map fz Pl)/\P.underlying fz=some (.array 2 it)/\P.underlying it=some (.int .i64)/\P.info? it=some i/\i.size=1/\P.info? Pl=some Pk/\Pk.zero=some (.bool false)
def hF(ks:List (Int×Int))(x:Int×Int):Bool:=ks.any λk=>decide (k=x)
def mr(ks:List (Int×Int))(x:Int×Int):List (Int×Int):=if hF ks x then ks else ks++[x]
def iC:List (Int×Int)->List MapEntry->Prop:=a6 λk e=>e.key=dS k/\e.val= .bool true
def np(es:List MapEntry)(cv:Nat):Prop:=(∀e,e∈es->e.born<cv)/\(es.map (·.born)).Nodup
variable{ks:List (Int×Int)}{cv:Nat}{es:Array MapEntry}{mt:TypeId}
section
variable {P:Program}{w:World}{fz it:TypeId}{i:TypeInfo}
theorem Yq(a:P.underlying it=some (.int .i64))(w:World):(Go.isAgg it).run P w= .ok false w:=by
 simp[Go.isAgg,underlying,a]
theorem Zw(l:P.underlying fz=some (.array 2 it))(k:P.underlying it=some (.int .i64))(f:P.info? it=some i)(hs:i.size=1)(x y:Int×Int)(w:World):
 (Op.equal fz (dS x) (dS y)).run P w= .ok (decide (x=y)) w:=by
 obtain⟨d,aj⟩:∃d,Op.maxDepth=d+2:=⟨9998,rfl⟩
 have j:P.cellsOf it=1:=by simp[Program.cellsOf,f,hs]
 have n:oI P it=some 1:=by simp[oI,k]
 unfold Op.equal;rw[aj];unfold dS;rw[run_equalIn_array w (d+1) _ _ l f,j,List.range_eq_range'];have:=Ey (P:=P) (φ:=λ_=>(0,0)) (S:=λ_ _=>False) (w:=w) (d:=d) n (xs:=#[.int .i64 x.1,.int .i64 x.2]) (ys:=#[.int .i64 y.1,.int .i64 y.2]) (m:=2) (i:=0)
  (ps:=[.t (.int .i64 x.1),.t (.int .i64 x.2)]) (qs:=[.t (.int .i64 y.1),.t (.int .i64 y.2)]) (us:=[.int .i64 x.1,.int .i64 x.2]) (vs:=[.int .i64 y.1,.int .i64 y.2]) (r:=decide (x=y))
  (by
   obtain⟨a,b⟩:=x;obtain⟨c,e⟩:=y;simp only[List.replicate,kE,vO,bJ,aw,lk,dK,dW]
   by_cases h1:a=c<;>by_cases g:b=e<;>simp[h1,g])
  (.cons (bP.int _ _) (.cons (bP.int _ _) .nil)) (.cons (bP.int _ _) (.cons (bP.int _ _) .nil)) rfl rfl
 exact this
theorem AB(e:P.underlying fz=some (.array 2 it))(a:P.underlying it=some (.int .i64))(d:P.info? it=some i)(hs:i.size=1)(b:Bool)(x:Int×Int)(w:World):
 (Instr.checkKey b 10000 fz (dS x)).run P w= .ok () w:=by
 have f:∀w,(sizeOf it).run P w= .ok 1 w:=λw=>by simp[sizeOf,typeInfo,d,hs]
 have c:∀v w,(Instr.checkKey b 9999 it v).run P w= .ok () w:=λv w=>by
  unfold Instr.checkKey;simp[run_underlying a]
 unfold Instr.checkKey;simp only[Sem.run_bind,run_underlying e,Result.andThen_ok,dS];simp[Std.Legacy.Range.forIn_eq_forIn_range',Std.Legacy.Range.size,List.range',f,part,Yq a,c]
theorem Q'(f:P.underlying fz=some (.array 2 it))(c:P.underlying it=some (.int .i64))(d:P.info? it=some i)(hs:i.size=1)(x:Int×Int)(w:World):∀{ks:List (Int×Int)} {es:List MapEntry} (n:Nat),iC ks es->
 (hF ks x=false/\(Instr.findAsking fz (dS x) es n).run P w= .ok none w)\/
 (hF ks x=true/\∃j e,(Instr.findAsking fz (dS x) es n).run P w= .ok (some (n+j,.bool true)) w/\es[j]?=some e/\e.key=dS x/\e.val= .bool true)
 |_,_,n,.nil=>.inl ⟨rfl,by simp[Instr.findAsking]⟩
 |k::ks,e::es,n,.cons h m=>by
  obtain⟨h1,b⟩:=h;have he:(Op.equal fz (dS x) e.key).run P w= .ok (decide (x=k)) w:=by rw[h1];exact Zw f c d hs x k w
  by_cases a:x=k
  . subst a;exact .inr ⟨by simp[hF],0,e,by simp[Instr.findAsking,he,b],rfl,h1,b⟩
  . rcases Q' f c d hs x w (n+1) m with⟨g1,g2⟩|⟨g1,j,g,g2,g3,g4,l⟩
    . refine .inl ⟨?_,by simp[Instr.findAsking,he,a,g2]⟩;unfold hF at g1⊢;simp[g1,du a]
    . refine .inr ⟨?_,j+1,g,?_,by simpa using g3,g4,l⟩
      . unfold hF at g1⊢;simp only[List.any_cons,g1,Bool.or_true]
      . simp only[Instr.findAsking,Sem.run_bind,he,a,dn,Result.andThen_ok,bU,bN,g2];rw[show n+1+j=n+(j+1) by omega]
theorem HP(a:P.underlying fz=some (.array 2 it))(b:P.underlying it=some (.int .i64))(c:P.info? it=some i)(hs:i.size=1)(x:Int×Int)(w:World){es:List MapEntry}(h:iC ks es):
 (hF ks x=false/\(Instr.findKey fz (dS x) es).run P w= .ok none w)\/
 (hF ks x=true/\∃j e,(Instr.findKey fz (dS x) es).run P w= .ok (some (j,.bool true)) w/\es[j]?=some e/\e.key=dS x/\e.val= .bool true):=by
 cases h with
 |nil=>exact .inl ⟨rfl,by simp[Instr.findKey,run_underlying a,Instr.findNow]⟩
 | @cons k e ks es h1 d=>
  have aV:Instr.findNow (.array 2 it) (dS x) (e::es) 0=none:=by
   simp[Instr.findNow,Instr.sameNow]
  have:=Q' a b c hs x w 0 (.cons h1 d);simp only[gS]at this;have aN:(Instr.findKey fz (dS x) (e::es)).run P w=(Instr.findAsking fz (dS x) (e::es) 0).run P w:=by
   simp[Instr.findKey,run_underlying a,aV]
  rw[aN];exact this
theorem YL(f:mo P mt){r:Nat}(aa:w.heap[r]?=some (.map es cv))(h:iC ks es.toList)(x:Int×Int):
 (Instr.lookup mt (.map (some r)) (dS x) false).run P w= .ok (.bool (hF ks x)) w:=by
 obtain⟨fz,k,it,i,n,d,c,a,b,hs,l,m⟩:=f.ex;have g:(zeroValue k).run P w= .ok (.bool false) w:=by simp_all [zeroValue,typeInfo]
 rcases HP c a b hs x w h with⟨g1,g2⟩|⟨g1,j,e,g2,_⟩
 . simp[Instr.lookup,run_underlying d,pV aa,AB c a b hs,g2,g,g1]
 . simp[Instr.lookup,run_underlying d,pV aa,AB c a b hs,g2,g1]
theorem YM(v:mo P mt){r:Nat}(aa:w.heap[r]?=some (.map es cv))(h:iC ks es.toList)(b:np es.toList cv)(x:Int×Int):
 ∃f m,(Instr.mapUpdate mt (.map (some r)) (dS x) (.bool true)).run P w= .ok () {w with heap:=w.heap.setIfInBounds r (.map f m)}/\iC (mr ks x) f.toList/\np f.toList m:=by
 obtain⟨fz,F,it,i,E,p,l,g,k,hs,B,C⟩:=v.ex;rcases HP l g k hs x w h with⟨g1,g2⟩|⟨g1,j,e,g2,g3,g4,z⟩
 . refine⟨es.push {key:=dS x,val:= .bool true,born:=cv},cv+1,?_,?_,?_,?_⟩
   . simp[Instr.mapUpdate,run_underlying p,pV aa,AB l g k hs,g2,BZ _ aa]
   . simp only[mr,g1,bU,bN,DE];exact h.append (.cons ⟨rfl,rfl⟩ .nil)
   . intro e he;simp only[DE,gY,kH]at he;rcases he with he|rfl
     . have:=b.1 e he;omega
     . exact Nat.lt_succ_self _
   . simp only[DE,xY,l6,List.map_nil];rw[DF];refine⟨b.2,by simp,?_⟩;intro a s c o;simp at o;subst o;obtain⟨e,he,rfl⟩:=g'.1 s;have:=b.1 e he;omega
 . refine⟨es.modify j λe=>{e with key:=dS x,val:= .bool true},cv,?_,?_,?_,?_⟩
   . have y:Instr.sameBits 10000 (dS x) (dS x)=true:=(by simp[dS,Instr.sameBits]);have u:∀w,(Instr.keyThatStays (dS x) (dS x)).run P w= .ok (dS x) w:=by intro w;unfold Instr.keyThatStays;rw[y];rfl
     simp[Instr.mapUpdate,run_underlying p,pV aa,AB l g k hs,g2,BZ _ aa,g4,u,show es[j]?=some e by simpa using g3]
   . simp only[mr,g1,bJ];rw[zU];refine a6.modify h λD q t d=>?_;rw[g3]at d;cases d;exact⟨by rw[<-g4];exact t.1,rfl⟩
   . intro q d;rw[zU]at d;obtain⟨n,aV,rfl⟩:=l1.1 d;rw[List.length_modify]at aV;have:=b.1 es.toList[n] (xV aV);rw[List.getElem_modify];split
     . exact this
     . exact this
   . have:(es.modify j λe=>{e with key:=dS x,val:= .bool true}).toList.map (·.born)=es.toList.map (·.born):=by
      rw[zU];refine DG (by simp) λn h1 A=>?_;simp only[List.getElem_map,List.getElem_modify];split<;>rfl
     rw[this];exact b.2
end
end
section
open Go Go.Proofs Go.Proofs.YtkbmjabicjpmjaaGreatDoor Go.Shelf Go.RowKit
variable {U:cE}
def s4(i:Nat):aD:=if i<10 then[UInt8.ofNat (48+i)]else[UInt8.ofNat (48+i/10),UInt8.ofNat (48+i%10)]
def Df(i:Int):Option aD:=if(0<=i:Bool)&&(i<100:Bool)then some (s4 i.toNat)else none
theorem aar{i:Nat}(h:i<100):Lib.decDigits i=s4 i:=by
 unfold s4 Lib.decDigits;split
 . rfl
 . rw[Lib.decDigits,dif_pos (by omega)];rfl
def OD(U:cE)(f:Nat):cA U:=⟨f,[.c (.hole (.int .i64))],[],[.int .i64],.c (.hole .str),[],[.str],λ(a:Int)=>Df a⟩
section
variable {P:Program}{ρ:Ren}
theorem Zx(L:Lays.n171 P ρ){i:Nat}{J:a8}(g:i<100):
 dY P (ρ.f 171) [.c (.t (.int .i64 (i:Int)))] J 0 (λr J' N'=>r= .c (.t (.str (s4 i)))/\J'=[]/\N'=0):=by
 intro φ S w B l p o n vs d;cases d with|cons a d=>
 cases d;cases a with|c a=>
 cases a;refine(Any.strconv_Itoa_small L i g w).mono ?_
 rintro e w' ⟨rfl,rfl⟩
 refine⟨_,.c _,φ,S,[],0,rfl,⟨rfl,rfl,rfl⟩,.c ?_,rfl,⟨λb x h=>by grind[aP],λb m x y h=>by grind[aP],λk j h=>l.st k j h⟩,λb x h=>by grind[aP],Ext.refl,λb x h=>by grind[aP],λ_ _=>rfl⟩;rw[aar g]
 have:=bP.str (w:=w') (S:=S) _ (by
  show(s4 i).toArray.size<=ej;rw[List.size_toArray];have:2<=ej:=by decide
  unfold s4
  split<;>simp<;>omega)
 exact this
theorem Zy(L:Lays.n171 P ρ)(i:ρ.f 171=f):gT P (OD U f):=by
 subst i;intro(a:Int) r bV k J1 e aE;have d:Df a=some r:=bV;unfold Df at d;split at d
 . rename_i g;simp at g;obtain⟨h0,h1⟩:=g;cases d;cases e with|cons a1 e=>
   cases e;have aN:=bR.fe a1;subst aN;obtain⟨n,rfl⟩:∃n:Nat,a=n:=⟨a.toNat,by omega⟩
   refine(Zx L (by omega)).mono ?_
   rintro l s1 j ⟨rfl,rfl,rfl⟩
   exact⟨rfl,.c (.t _),λb x I=>by cases I⟩
 grind
end
end
section
open Go
variable {U:cE}{P:Program}{nt:Nat}{au:Ctx}
variable{vs:List Value}{code:Code}{c:Cell U.D}{f q:Nat}{w:World}{Q:Exit->Act->World->Prop}{E:TypeId}{v:Value}{x y:Operand}{p:Int×Int}{seen:Array Nat}
section
variable {φ bg:c0}{S bj:c6}{env env':Env}{J J':a8}{n cp:Nat->Bool}{N k:Nat}{a b4:Act}{w w':World}
def Ctx.nA(w:World)(S:c6)(φ:c0)(J:a8)(k:Nat):Ctx:=⟨w,S,λb=>∃c x,aP J c=some x/\(φ c).2≠0/\b=(φ c).1,φ,k⟩
theorem Rel.nA(R:Rel au nt φ S env J (lt N) a w)(e:k<=N):Rel (Ctx.nA w S φ J k) nt φ S env J (lt N) a w:=
 ⟨R.bD,R.fJ,R.gp,R.fI,R.dz,R.size,R.defers,Ext.refl,λb x I h0=>.inl ⟨b,x,I,h0,rfl⟩,λ_ _=>rfl,λb c=>by
  have:b<k:=c
  simp[lt];omega⟩
theorem Rel.un(R:Rel au nt φ S env J n a w)(R':Rel (Ctx.nA w S φ J k) nt bg bj env' J' cp b4 w')(g:au.k<=k):Rel au nt bg bj env' J' cp b4 w':=by
 have e:=R'.ext;have own:∀b,(Ctx.nA w S φ J k).B b->au.B b\/au.ka.heap.size<=b:=λb ⟨c,x,I,h0,f⟩=>f▸R.own c x I h0;refine⟨R'.bD,R'.fJ,R'.gp,R'.fI,R'.dz,R'.size,R'.defers,⟨e.os.trans R.ext.os,e.tape.trans R.ext.tape,e.output.trans R.ext.output,hK R.ext.size e.size,λb aF c7=>?_,R.ext.mono.trans e.mono,λb j o=>?_⟩,λb x I h0=>?_,λb f=>?_,λb f=>R'.fT b (ix f g)⟩
 . refine(e.block b (ix aF R.ext.size) λh=>?_).trans (R.ext.block b aF c7);rcases own b h with h|h
   . exact c7 h
   . omega
 . rcases e.j9 b j o with h|h|h
   . exact R.ext.j9 b j h
   . exact .inr (own b h)
   . exact .inr (.inr (hK R.ext.size h))
 . rcases R'.own b x I h0 with h|h
   . exact own _ h
   . exact .inr (hK R.ext.size h)
 . exact(R'.fix b (ix f g)).trans (R.fix b f)
theorem Rel.enter{args:List V}(e:a6 (b2 φ w S) args vs)(c:V.aA.V.dr (lt N) args=true)(o:∀b j,S b j->b<w.heap.size)(aV:args.length<=nt):
 Rel ⟨w,S,λ_=>False,φ,0⟩ nt φ S (fb 0 args) [] (lt N) {tmps:=vs.toArray++Array.replicate (nt-vs.toArray.size) undef,defers:=[]} w:=by
 have ag:=e.length;refine⟨⟨λb x I=>by simp[aP]at I,λb p x y I=>by simp[aP]at I,o⟩,λi g v a ao=>?_,λi g v a ao=>?_,λi g v a ao=>?_,λb x I=>by simp[aP]at I,?_,rfl,Ext.refl,λb x I=>by simp[aP]at I,λ_ _=>rfl,λb c=>absurd c (uN _)⟩
 . obtain⟨_,j,rfl,f⟩:=rJ a;obtain⟨x,I,q⟩:=e.get f;grind
 . grind[rJ]
 . grind[rJ,lR]
 . grind
end
abbrev vt(U:cE):=bQ U×bf U×Nat
structure cC (au:Ctx)(nt:Nat)(gs:aZ)(s:vt U)(φ:c0)(S:c6)(a:Act)(w:World):Prop where
 ex:∃env1 J1,cS s.2.2 s.2.1 (λ_=>true) s.1 env1/\cm s.2.2 s.2.1 J1/\Rel au nt φ S env1 J1 (lt s.2.2) a w/\∀b x,aP J1 b=some x->(φ b).2≠0->(φ b).1 ∉ gs
 dU:∀g,g∈gs->g<w.heap.size/\∀j,¬S g j
section
variable {φ:c0}{S bj:c6}{gs:aZ}{s:vt U}{lq:bQ U}{xs:bf U}{N kk:Nat}{a:Act}{w w':World}
structure qR (gs:aZ)(kk:Nat)(φ:c0)(w:World)(bg:c0)(w':World):Prop where
 fix:∀b,b<kk->bg b=φ b
 al:∀g,g∈gs->w'.heap[g]?=w.heap[g]?
theorem cC.next {bg:c0}{env1 f:Env}{J1 bp:a8}{b4:Act}{s':vt U}(dU:∀g,g∈gs->g<w.heap.size/\∀j,¬S g j)(R:Rel au nt φ S env1 J1 (lt N) a w)(ao:∀b x,aP J1 b=some x->(φ b).2≠0->(φ b).1 ∉ gs)
 (R':Rel (Ctx.nA w S φ J1 kk) nt bg bj f bp (lt s'.2.2) b4 w')(v:au.k<=kk)(he:cS s'.2.2 s'.2.1 (λ_=>true) s'.1 f)(aE:cm s'.2.2 s'.2.1 bp):cC au nt gs s' bg bj b4 w'/\qR gs kk φ w bg w':=by
 have o:∀g,g∈gs->¬(Ctx.nA w S φ J1 kk).B g:=λg h ⟨c,x,I,h0,q⟩=>ao c x I h0 (q▸h);refine⟨⟨⟨f,bp,he,aE,R.un R' v,λb x I h0 p=>?_⟩,λg h=>⟨ix (dU g h).1 R'.ext.size,λj t=>?_⟩⟩,R'.fix,λg h=>R'.ext.block g (dU g h).1 (o g h)⟩
 . rcases R'.own b x I h0 with h|h
   . exact o _ p h
   . exact absurd (dU _ p).1 (Nat.not_lt.2 h)
 . rcases R'.ext.j9 g j t with e|e|e
   . exact(dU g h).2 j e
   . exact o g h e
   . exact absurd (dU g h).1 (Nat.not_lt.2 e)
theorem cC.piece(T:cC au nt gs s φ S a w){fo:fl U}(t:fm P fo){ac:dx}(q:resolve P nt code=some ac)(g:kk<=s.2.2)(v:au.k<=kk){outs:List h9}{o:ec U outs}
 (I:jM fo (λ_=>none) kk ac 0 s.1 s.2.1 s.2.2 (nz kk outs)=some o):
 code.wp P (λe b4 w'=>e=(e7 outs o).1/\∃bg bj,cC au nt gs (e7 outs o).2 bg bj b4 w'/\qR gs kk φ w bg w') a w:=by
 obtain⟨⟨env1,J1,he,aE,R,ao⟩,dU⟩:=T
 have h:=cl.Ph (pQ (nt:=nt) (Q:=qS kk λe env J N=>e=(e7 outs o).1/\N=(e7 outs o).2.2.2/\cS N (e7 outs o).2.2.1 (λ_=>true) (e7 outs o).2.1 env/\cm N (e7 outs o).2.2.1 J) t fW.none I he aE g qS.Ms λe env' J' N' j bp h1 c f p=>by
  obtain⟨aN,s1,c1,c2,c3,c4,c5⟩:=lx.OU.DL h1 c f p
  exact⟨_,aN,s1,c1,c5,rfl,c2,c3⟩) _ q _ φ S a w rfl (R.nA g)
 refine wp_mono h ?_
 rintro e b4 w' ⟨bg,bj,j,bp,N',⟨h1,rfl,c,f⟩,R'⟩
 exact⟨h1,bg,bj,cC.next dU R ao R' v c f⟩
theorem IG{kk:Nat}{au:Ctx}(g:au.k=kk){ops:Array Oper}{rest:aZ}{Q:Exit->Act->World->Prop}{K:Env->a8->Nat->Prop}:∀{l:List Oper} {a':List b5} {k N:Nat} {env:Env} {J:a8} {φ:c0} {S:c6} {a:Act} {w:World},gA P nt ops l=some a'->(∀i:Nat,i<l.length->l[i]?=ops[k+i]?)->
 Rel au nt φ S env J (lt N) a w->mu P kk a' N env J (λe s=>K e s (N+16*a'.length))->(∀φ S e s N a w,K e s N->Rel au nt φ S e s (lt N) a w->wpOps P ops Q rest a w)->wpOps P ops Q (List.range' k l.length++rest) a w
 |[],a',k,N,env,J,φ,S,a,w,b,f,R,h,d=>by
  simp[gA]at b;subst b;exact d _ _ _ _ _ _ _ h R
 |o::l,a',k,N,env,J,φ,S,a,w,b,f,R,h,d=>by
  simp[gA,bk,bx]at b;obtain⟨t,m,c,n,rfl⟩:=b;have u:ops[k]?=some o:=by have:=f 0 (by simp);grind
  rw[kJ,xW,u1,wpOps_cons];unfold wpOp;obtain⟨fb,r,p,q⟩:=h;obtain⟨v,vr,j⟩:=p au nt φ S a w g R;have hs:=E7 j m (K:=λe s=>mu P kk c (N+16) e s λe s=>K e s (N+16*(c.length+1))) q (Q:=Q);have next:∀b4 w',i' au nt (ep (lt N) N) (λe s=>mu P kk c (N+16) e s λe s=>K e s (N+16*(c.length+1))) b4 w'->wpOps P ops Q (List.range' (k+1) l.length++rest) b4 w':=by
   rintro b4 w' ⟨bg,bj,e,s,bE,R'⟩
   refine IG g n (λi aF=>?_) (R'.more λ_ h=>B2 h) ?_ d
   . have:=f (i+1) (by grind);grind
   grind
  split at hs
  . grind[Oper.wp_mono]
  grind
theorem cC.ops (T:cC au nt gs s φ S a w){fo:fl U}(o:fm P fo){ops:Array Oper}{rest:aZ}{Q:Exit->Act->World->Prop}(k:Nat){l:List Oper}{a':List b5}(v:gA P nt ops l=some a')(p:∀i:Nat,i<l.length->l[i]?=ops[k+i]?)(t:kk<=s.2.2)(q:au.k<=kk)
 {sh:Shape}{ts:List aH}{h:aJ U.D ts}(I:nh fo none a' s.2.2 [] [] s.1 s.2.1 (λgl env J=>ml kk [] sh ts (sa gl env) J (s.2.2+16*a'.length))=some h)
 (j:∀bg bj b4 w',cC au nt gs ((e4 U sh (aJ.cells U.D ts h)).1,(e4 U sh (aJ.cells U.D ts h)).2,sh.st.length) bg bj b4 w'->qR gs kk φ w bg w'->wpOps P ops Q rest b4 w'):wpOps P ops Q (List.range' k l.length++rest) a w:=by
 obtain⟨⟨env1,J1,he,aE,R,ao⟩,dU⟩:=T;refine IG (au:=Ctx.nA w S φ J1 kk) rfl (K:=λaN s1 N'=>∃env' J',N'=s.2.2+16*a'.length/\ml kk [] sh ts env' J' N'=some h/\cS N' J' (λ_=>true) env' aN/\cm N' J' s1) v p (R.nA t) (AI o (ev.begin he aE) I λE F env' J' B bp x h1 c=>?_) ?_
 . exact⟨_,_,rfl,h1,c.clean,c.eD⟩
 . rintro bg bj aN s1 N' b4 w' ⟨env',J',rfl,h1,c,g⟩ R'
   obtain⟨A,G,c1,c2,c3,c4⟩:=uD h1 c g (by omega);obtain⟨H,y,e⟩:=c1 _ nt bg bj b4 w' rfl R';obtain⟨f,uM⟩:=cC.next (s':=((e4 U sh (aJ.cells U.D ts h)).1,(e4 U sh (aJ.cells U.D ts h)).2,sh.st.length)) dU R ao e q c2 c3;exact j _ _ _ _ f uM
theorem cC.goto(T:cC au nt gs s φ S a w)(kk:Nat){sh:Shape}{ts:List aH}{h:aJ U.D ts}(I:ml kk [] sh ts s.1 s.2.1 s.2.2=some h)(c:Nat.ble kk s.2.2=true:=by rfl)(g:au.k<=kk:=by exact kL _):
 ∃bg bj,cC au nt gs ((e4 U sh (aJ.cells U.D ts h)).1,(e4 U sh (aJ.cells U.D ts h)).2,sh.st.length) bg bj a w/\qR gs kk φ w bg w:=by
 obtain⟨⟨env1,J1,he,aE,R,ao⟩,dU⟩:=T;obtain⟨o,p,c1,c2,c3,c4⟩:=uD I he aE (hj c);obtain⟨j,f,e⟩:=c1 _ nt φ S a w rfl (R.nA (hj c));exact⟨j,f,cC.next (s':=((e4 U sh (aJ.cells U.D ts h)).1,(e4 U sh (aJ.cells U.D ts h)).2,sh.st.length)) dU R ao e g c2 c3⟩
theorem cC.slot(T:cC au nt gs s φ S a w){k:Nat}{v:bF U}(g:aX s.1 k=some v):∃x v1,a.tmps[k]?=some x/\bR s.2.2 s.2.1 v v1/\b2 φ w S v1 x/\v1.aA (lt s.2.2)=true:=by
 obtain⟨⟨env1,J1,he,aE,R,ao⟩,dU⟩:=T;obtain⟨v1,h1,c⟩:=he k v g;obtain⟨x,e,f⟩:=R.fJ k _ v1 h1 rfl;exact⟨x,v1,e,c,f,R.fI k _ v1 h1 rfl⟩
theorem cC.ptr(T:cC au nt gs s φ S a w){k b o:Nat}(g:aX s.1 k=some (.c (.ptr b o))):a.tmps[k]?=some (.pointer (some ⟨(φ b).1,o,none⟩)):=by
 obtain⟨x,v1,h1,e,f,_⟩:=T.slot g;have:=e.gF;subst this;rw[h1,f.gF]
theorem cC.mp(T:cC au nt gs s φ S a w){k b:Nat}(g:aX s.1 k=some (.c (.mp b))):a.tmps[k]?=some (.map (some (φ b).1)):=by
 obtain⟨x,v1,h1,e,f,_⟩:=T.slot g;have:=e.zI;subst this;rw[h1,show x=_ from f.dJ]
theorem cC.pair(T:cC au nt gs s φ S a w){k:Nat}{p q:Int}(g:aX s.1 k=some (.agg [.t ⟨.int .i64,p⟩,.t ⟨.int .i64,q⟩])):a.tmps[k]?=some (dS (p,q)):=by
 obtain⟨x,v1,h1,c,e,_⟩:=T.slot g;cases c with
 |agg c=>
  cases c with
  |cons g1 g2=>
   cases g2 with
   |cons g2 g3=>
    cases g1;cases g2;cases g3;obtain⟨vs,rfl,f⟩:=e.kS;cases f with
    |cons a1 a2=>
     cases a2 with
     |cons a2 a3=>
      cases a1;cases a2;cases a3;exact h1
theorem cC.cell(T:cC au nt gs s φ S a w){k:Nat}(g:aX s.1 k=some (.c (.t c))):∃x,a.tmps[k]?=some x/\bP w S (c.enc U) x:=by
 obtain⟨x,v1,h1,e,f,_⟩:=T.slot g;cases e with
 |c e=>cases e;exact⟨x,h1,f.dJ⟩
theorem cC.bool(T:cC au nt gs s φ S a w){k:Nat}{b:Bool}(f:aX s.1 k=some (.c (.t ⟨.bool,b⟩))):a.tmps[k]?=some (.bool b):=by
 obtain⟨x,h1,e⟩:=T.cell f;rw[h1];cases e;rfl
theorem cC.int(T:cC au nt gs s φ S a w){k:Nat}{n:Int}(f:aX s.1 k=some (.c (.t ⟨.int .i64,n⟩))):a.tmps[k]?=some (.int .i64 n):=by
 obtain⟨x,h1,e⟩:=T.cell f;rw[h1];cases e;rfl
theorem cC.fn(T:cC au nt gs s φ S a w){k b:Nat}(j:aX s.1 k=some (.c (.fn f [b]))):a.tmps[k]?=some (.func (.func f) #[] #[.pointer (some ⟨(φ b).1,0,none⟩)]):=by
 obtain⟨x,v1,h1,e,g,_⟩:=T.slot j;cases e with
 |c e=>cases e;rw[h1,show x=_ from g.dJ];rfl
theorem cC.len(T:cC au nt gs s φ S a w){k:Nat}{t:aH}{l:List (t.den U.D)}(f:aX s.1 k=some (.c (.t ⟨.slice t,l⟩))):l.length<=dk:=by
 obtain⟨x,h1,e⟩:=T.cell f;obtain⟨_,_,_,_,_,_,_,_,h,_⟩:=bP.iS e;simpa using h
theorem cC.box(T:cC au nt gs s φ S a w){b:Nat}{cs:List (bo U)}(j:aX s.2.1 b=some (.box cs)):
 ∃(vs:List Value) (E:TypeId) (e:List C),w.heap[(φ b).1]?=some (.cells vs.toArray E (0,0))/\a6 (b8 s.2.2 s.2.1) cs e/\a6 (bq φ w S) e vs:=by
 obtain⟨⟨env1,J1,he,aE,R,ao⟩,dU⟩:=T;obtain⟨_,y,h1,c⟩:=aE b _ j;cases c with
 |box c=>
  obtain⟨_,vs,E,f,g,_⟩:=R.bD.blk b _ h1;exact⟨vs,E,_,f,c,g⟩
theorem cC.put(T:cC au nt gs (lq,xs,N) φ S a w){d:Nat}{x:Value}{v:bF U}{v1:V}(g:bR N xs v v1)(I:b2 φ w S v1 x)(f:v1.aA (lt N)=true:=by rfl)(aj:Nat.ble (d+1) nt=true:=by rfl):cC au nt gs ((d,v)::lq,xs,N) φ S (a.put (some d) x) w:=by
 have aj:=hj aj;obtain⟨⟨env1,J1,he,aE,R,ao⟩,dU⟩:=T;refine⟨⟨ee env1 (some d) true v1,J1,λk y c=>?_,aE,R.vu (by grind) (λ_=>I) (λh=>by grind) (λ_=>f),ao⟩,dU⟩;simp only[aX]at c;split at c
 . rename_i h;cases c;exact⟨v1,by rw[lP,ai (by rw[cR h])],g⟩
 . rename_i h;obtain⟨j,h1,e⟩:=he k y c;exact⟨j,by rw[lP,av (by simpa using hh h)];exact h1,e⟩
theorem cC.new(T:cC au nt gs (lq,xs,N) φ S a w)(o:Obj):cC au nt (w.heap.size::gs) (lq,xs,N+1) (et φ N (w.heap.size,0)) S a (w.alloc o):=by
 obtain⟨⟨env1,J1,he,aE,R,ao⟩,dU⟩:=T;have cr:lt N N=false:=yd (e6 _);refine⟨⟨env1,J1,he.mono (c'.more (uR _)),aE.mono (uR _),((R.alloc o).sw λb h=>r7 cr h).more λb h=>Ch (uR _) h,λb x I h0=>?_⟩,λg h=>?_⟩
 . rw[r7 cr (R.dz b x I).1]at h0⊢;have:=(R.bD.blk b x I).iA h0;have:=ao b x I h0;grind
 . rcases fg.1 h with rfl|h
   . exact⟨by simp,λj c=>by have:=R.bD.st _ _ c;omega⟩
   . have:=dU g h;exact⟨by have:=this.1;simp;omega,this.2⟩
theorem cC.num(T:cC au nt gs (lq,xs,N) φ S a w)(q:Nat):cC au nt gs (lq,xs,N+1) (et φ N (q,0)) S a w:=by
 obtain⟨⟨env1,J1,he,aE,R,ao⟩,dU⟩:=T;have cr:lt N N=false:=yd (e6 _);refine⟨⟨env1,J1,he.mono (c'.more (uR _)),aE.mono (uR _),(R.sw λb h=>r7 cr h).more λb h=>Ch (uR _) h,λb x I h0=>?_⟩,dU⟩;rw[r7 cr (R.dz b x I).1]at h0⊢;exact ao b x I h0
theorem cC.drew(T:cC au nt gs s φ S a w):cC au nt gs s φ S a w.drew:=
 let⟨⟨env1,J1,he,aE,R,ao⟩,dU⟩:=T;⟨⟨env1,J1,he,aE,R.drew,ao⟩,dU⟩
theorem cC.write(T:cC au nt gs s φ S a w){g:Nat}(f:g∈gs)(p:au.ka.heap.size<=g)(h1:w'.os=w.os)(j:w'.tape=w.tape)(o:w'.output=w.output)(e:w'.heap.size=w.heap.size)(bh:∀b,b≠g->w'.heap[b]?=w.heap[b]?):cC au nt gs s φ S a w':=by
 obtain⟨⟨env1,J1,he,aE,R,ao⟩,dU⟩:=T;refine⟨⟨env1,J1,he,aE,R.world (λb=>b=g) h1 j o (sn e.symm) (λb _ c=>bh b c) (λb c=>?_),ao⟩,λb h=>by rw[e];exact dU b h⟩;subst c;exact⟨(dU _ f).2,λk y ak h0 he=>ao k y ak h0 (he▸f),.inr p⟩
theorem cC.extend(T:cC au nt gs s φ S a w)(e:Ext (λ_=>False) S bj w w')(o:∀b j,bj b j->b<w'.heap.size):cC au nt gs s φ bj a w':=by
 obtain⟨⟨env1,J1,he,aE,R,ao⟩,dU⟩:=T;refine⟨⟨env1,J1,he,aE,R.extend e o,ao⟩,λg h=>⟨ix (dU g h).1 e.size,λj f=>?_⟩⟩;rcases e.j9 g j f with c|c|c
 . exact(dU g h).2 j c
 . exact c
 . exact absurd (dU g h).1 (Nat.not_lt.2 c)
theorem cC.st(T:cC au nt gs s φ S a w):∀b j,S b j->b<w.heap.size:=let⟨⟨_,_,_,_,R,_⟩,_⟩:=T;R.bD.st
theorem cC.ext(T:cC au nt gs s φ S a w):Ext au.B au.vr S au.ka w:=let⟨⟨_,_,_,_,R,_⟩,_⟩:=T;R.ext
theorem cC.defers(T:cC au nt gs s φ S a w):a.defers=[]:=let⟨⟨_,_,_,_,R,_⟩,_⟩:=T;R.defers
theorem cC.enter{args:List (bF U)}{a:List V}(y:a6 (bR N []) args a)(p:a6 (b2 φ w S) a vs)(f:V.aA.V.dr (lt N) a=true)(o:∀b j,S b j->b<w.heap.size)(aV:a.length<=nt)(dU:∀g,g∈gs->g<w.heap.size/\∀j,¬S g j):
 cC (U:=U) ⟨w,S,λ_=>False,φ,0⟩ nt gs (mg 0 args,[],N) φ S {tmps:=vs.toArray++Array.replicate (nt-vs.toArray.size) undef,defers:=[]} w:=by
 refine⟨⟨fb 0 a,[],?_,λb x h=>by simp[aX]at h,Rel.enter p f o aV,λb x h=>by simp[aP]at h⟩,dU⟩;intro k v A;have key:∀{xs:List _} {c:List V} {i:Nat},a6 (bR N []) xs c->aX (mg i xs) k=some v->∃v1,look (fb i c) k=some (true,v1)/\bR N [] v v1:=by
  intro xs;induction xs with
  |nil=>grind[mg,aX]
  |cons x xs ih=>
   intro c i q e;cases q with
   |cons h1 t=>
    simp[mg,aX]at e;simp[fb,look];split at e
    . simp_all
    simp_all[av,hh]
 grind
theorem bR.sF{xs:List (bF U)}{a:List V}{c:bf U}(h:a6 (bR N c) xs a):bR N c (.ba xs) (.ba a):=
 .ba _ _ h.length λi x d I aj=>by
  obtain⟨e,aN,f⟩:=h.get I;grind
theorem b2.sF{vs:List V}{xs:List Value}(h:a6 (b2 φ w S) vs xs):b2 φ w S (.ba vs) (.tuple xs.toArray):=
 .ba _ _ h.length λi x d I aj=>by
  obtain⟨a,aN,c⟩:=h.get I;grind
theorem b2.yD(k:Int×Int):b2 φ w S (.agg [.t (.int .i64 k.1),.t (.int .i64 k.2)]) (dS k):= .agg (.cons (bP.int _ _) (.cons (bP.int _ _) .nil))
theorem bR.yD{a:bf U}(k:Int×Int):bR N a (.agg [.t ⟨.int .i64,k.1⟩,.t ⟨.int .i64,k.2⟩]) (.agg [.t (.int .i64 k.1),.t (.int .i64 k.2)]):= .agg (.cons (.t _) (.cons (.t _) .nil))
theorem Fa{b:Nat}{o:Obj}(h:b≠q):(ChangeMaps.setBlock w q o).heap[b]?=w.heap[b]?:=by
 simp[ChangeMaps.setBlock,x2,du h]
theorem XC{o:Obj}(h:q<w.heap.size):(ChangeMaps.setBlock w q o).heap[q]?=some o:=by
 simp[ChangeMaps.setBlock,x2,h]
theorem cC.set(T:cC au nt gs s φ S a w)(o:Obj)(e:q∈gs)(f:au.ka.heap.size<=q):cC au nt gs s φ S a (ChangeMaps.setBlock w q o):=
 T.write e f rfl rfl rfl (by simp[ChangeMaps.setBlock]) λb c=>Fa c
theorem fH{k:Nat}{x:Value}(h:a.tmps[k]?=some x):a.eval (.tmp k)=x:=by simp[Act.eval,h]
section
variable {ops:Array Oper}{Q:Exit->Act->World->Prop}{i:Nat}{rest:aZ}{o:Oper}
theorem nu(b:ops[i]?=some o){d:Nat}(aj:o.dst=some d)(ao:o.guard=none){x:Value}(c:(execOp a.eval o).run P w= .ok (.value x) w')(h:wpOps P ops Q rest (a.put (some d) x) w'):wpOps P ops Q (i::rest) a w:=by
 simp only[wpOps,b,Region.wanted,ao,Oper.wp,c];refine .inl ?_;show wpOps P ops Q rest (a.put o.dst x) w';rw[aj];exact h
theorem OJ(b:ops[i]?=some o)(aj:o.dst=none)(ao:o.guard=none)(c:(execOp a.eval o).run P w= .ok .skip w')(h:wpOps P ops Q rest a w'):wpOps P ops Q (i::rest) a w:=by
 simp only[wpOps,b,Region.wanted,ao,Oper.wp,c];refine .inl ?_;show wpOps P ops Q rest (a.put o.dst undef) w';rw[aj];exact h
theorem Dl(g:ops[i]?=some o){d:Nat}(aj:o.dst=some d)(ao:o.guard=none){args b:Array Value}(j:(execOp a.eval o).run P w= .ok (.enter f b) w)(c:b=args)(h:Calls P f args w λe w'=>∃v,e= .returned v/\wpOps P ops Q rest (a.put (some d) v) w'):wpOps P ops Q (i::rest) a w:=by
 subst c;simp only[wpOps,g,Region.wanted,ao,Oper.wp,j];refine .inl (h.mono ?_)
 rintro e w' ⟨v,rfl,h⟩
 show wpOps P ops Q rest (a.put o.dst v) w';rw[aj];exact h
end
theorem H7{α:Type}{o:Option α}{d:α}(h:o.isSome=true):o=some (o.getD d):=by cases o<;>simp_all
theorem oE(L:aZ){id:Nat}{ops:Array Oper}(h:wpOps P ops Q L a w)(b:List.range ops.size=L:=by kernel_rfl):(Code.region id ops false).wp P Q a w:=wp_region (b▸h)
def sl(ops:Array Oper)(k m:Nat):List Oper:=(ops.toList.drop k).take m
theorem aba{ops:Array Oper}{k m:Nat}(i:Nat)(h:i<(sl ops k m).length):(sl ops k m)[i]?=ops[k+i]?:=by
 unfold sl at*;simp at h;rw[uW,fS,DD];simp
theorem cC.op (T:cC au nt gs s φ S a w)(kk:Nat)(k m:Nat)(env:List (Nat×eJ))(st:List ft){h:aJ U.D (ek env st)}{ops:Array Oper}{L:aZ}{Q:Exit->Act->World->Prop}{fs:List (cA U)}(g:hP P fs)
 (I:nh (gD fs) none ((gA P nt ops (sl ops k m)).getD []) s.2.2 [] [] s.1 s.2.1 (λgl e J=>ml kk [] ⟨env,st⟩ (ek env st) (sa gl e) J (s.2.2+16*((gA P nt ops (sl ops k m)).getD []).length))=some h)
 (f:∀bg bj b4 w',cC au nt gs ((e4 U ⟨env,st⟩ (aJ.cells U.D (ek env st) h)).1,(e4 U ⟨env,st⟩ (aJ.cells U.D (ek env st) h)).2,st.length) bg bj b4 w'->qR gs kk φ w bg w'->wpOps P ops Q (L.drop m) b4 w')
 (p:(gA P nt ops (sl ops k m)).isSome=true:=by kernel_rfl)(o:Nat.ble kk s.2.2=true:=by rfl)(j:au.k<=kk:=by exact kL _)(c:List.range' k (sl ops k m).length++L.drop m=L:=by kernel_rfl):wpOps P ops Q L a w:=by
 rw[<-c];exact T.ops g k (H7 p) aba (hj o) j I f
theorem cC.fU(T:cC au nt gs s φ S a w)(kk:Nat)(outs:List h9){o:ec U outs}{fs:List (cA U)}(g:hP P fs)
 (I:jM (gD fs) (λ_=>none) kk ((resolve P nt code).getD .skip) 0 s.1 s.2.1 s.2.2 (nz kk outs)=some o)
 (f:∀bg bj b4 w',cC au nt gs (e7 outs o).2 bg bj b4 w'->qR gs kk φ w bg w'->Q (e7 outs o).1 b4 w')
 (q:(resolve P nt code).isSome=true:=by kernel_rfl)(p:Nat.ble kk s.2.2=true:=by rfl)(j:au.k<=kk:=by exact kL _):code.wp P Q a w:=by
 refine wp_mono (T.piece g (H7 q) (hj p) j I) ?_
 rintro e b4 w' ⟨rfl,bg,bj,c,uM⟩
 exact f bg bj b4 w' c uM
theorem ld1{o:Oper}{ty:TypeId}(g:o.op= .load ty x)(ag:lT P ty=some (false,1)){b off:Nat}(I:a.eval x= .pointer (some ⟨b,off,none⟩))(aa:w.heap[b]?=some (.cells vs.toArray E (0,0)))(f:vs[off]?=some v):
 (execOp a.eval o).run P w= .ok (.value v) w:=by
 obtain⟨h1,c,d⟩:=Fg ag;have:(loadVar ty ⟨b,off,none⟩).run P w= .ok v w:=by
  have:=Qn (P:=P) h1 c (w:=w) (b:=b) (o:=off) (vs:=[v]) (λj e=>by
   have:j=0:=(by simpa using e);subst this
   rw[ic aa,sk,f];rfl) rfl d
  simpa using this
 simp_all [execOp,Instr.loadAt,Instr.sureAddr]
theorem cC.ret{fn:Func}{R:Ending->World->Prop}(T:cC au nt gs s φ S a w){t:Nat}(g:fn.results=#[.tmp t])(f:aX s.1 t=some (.c (.t c)))(h:∀x,bP w S (c.enc U) x->R (.returned x) w):bodyPost P fn R .ret a w:=by
 obtain⟨x,h1,e⟩:=T.cell f;refine⟨T.defers,x,?_,h x e⟩;rw[Rr,g];simp[u6,h1]
def nJ(S:c6)(w:World)(bj:c6)(w':World):Prop:=Ext (λ_=>False) S bj w w'/\∀b j,bj b j->b<w'.heap.size
theorem nJ.heap(h:nJ S w bj w'){b:Nat}{o:Obj}(a:w.heap[b]?=some o):w'.heap[b]?=some o:=by
 rw[h.1.block b (x3.1 a).1 (λx=>x)];exact a
theorem se{d:Nat}{x:Value}(h:d<a.tmps.size):(a.put (some d) x).tmps[d]?=some x:=by simp[Act.put,h]
theorem cC.size(T:cC au nt gs s φ S a w):a.tmps.size=nt:=let⟨⟨_,_,_,_,R,_⟩,_⟩:=T;R.size
def IM(P:Program)(t:TypeId):Bool:=match P.underlying t with
 |some (.map fz b)=>match P.underlying fz with
  |some (.array 2 it)=>match P.underlying it,P.info? it,P.info? b with
   |some (.int .i64),some i,some a=>Nat.beq i.size 1&&(match a.zero with
    |some (.bool false)=>true
    |_=>false)
   |_,_,_=>false
  |_=>false
 |_=>false
theorem mo.of{t:TypeId}(h:IM P t=true):mo P t:=by
 unfold IM at h
 (repeat' split at h)<;>simp at h
 rename_i h1 _ _ f _ _ _ _ a c bh _ e;exact⟨_,_,_,_,_,by assumption,by assumption,a,c,h,bh,e⟩
section
variable {o:Oper}{ty:TypeId}{r:Nat}{es:Array MapEntry}{cv:Nat}{ks:List (Int×Int)}
theorem ad2{k:Operand}(d:o.op= .lookup ty x k false)(c:mo P ty)(I:a.eval x= .map (some r))(b:a.eval k=dS p)(aa:w.heap[r]?=some (.map es cv))(hs:iC ks es.toList):
 (execOp a.eval o).run P w= .ok (.value (.bool (hF ks p))) w:=by
 have:=YL c aa hs p;simp[execOp,d,I,b,this]
theorem ad9(c:o.op= .makeMap ty (some x))(b:mo P ty){k:IntKind}{n:Int}(I:a.eval x= .int k n):
 (execOp a.eval o).run P w= .ok (.value (.map (some w.heap.size))) (w.alloc (.map #[] 0)):=by
 obtain⟨fz,f,it,i,e,d,_⟩:=b.ex;simp[execOp,c,I,Instr.makeMap,run_underlying d,asInt,asIntOf]
theorem abR(d:o.op= .alloc ty){z:Value}(b:(P.info? ty).bind TypeInfo.zero=some z)(h1:z.cells=#[z]):
 (execOp a.eval o).run P w= .ok (.value (.pointer (some ⟨w.heap.size,0,none⟩))) (w.alloc (.cells #[z] ty (0,0))):=by
 obtain⟨i,c,b⟩:=j5.1 b;simp[execOp,d,Instr.alloc,zeroValue,typeInfo,c,b,newVar,newRow,h1]
theorem st1(e:o.op= .store ty x y)(d:ea P ty=some 1){b:Nat}{u:Value}(I:a.eval x= .pointer (some ⟨b,0,none⟩))(ak:a.eval y=v)(f:v.cells=#[v])(h1:v.oneCell'=true)(aa:w.heap[b]?=some (.cells #[u] E (0,0))):
 ∃w',(execOp a.eval o).run P w= .ok .skip w'/\w'.os=w.os/\w'.tape=w.tape/\w'.output=w.output/\w'.heap.size=w.heap.size/\w'.heap[b]?=some (.cells #[v] E (0,0))/\∀c:Nat,c≠b->w'.heap[c]?=w.heap[c]?:=by
 obtain⟨w',h,bn,bt,bY,cw,cW,dm⟩:=lK (P:=P) (b:=b) (E:=E) [v] 0 0 [u] w aa (by simp) (by simp[h1]);refine⟨w',?_,bn,bt,bY,cw,by simpa[iu]using cW,dm⟩;simp[execOp,e,I,ak,Instr.storeAt,Instr.sureAddr,storeVar,iI d,f,h]
theorem ad5{ops:Array Oper}{i:Nat}{rest:aZ}(e:ops[i]?=some o)(aj:o.dst=none)(ao:o.guard=none)(f:o.op= .store ty x y)(d:ea P ty=some 1){b:Nat}{u:Value}(I:a.eval x= .pointer (some ⟨b,0,none⟩))(ak:a.eval y=v)(g:v.cells=#[v])(h1:v.oneCell'=true)(aa:w.heap[b]?=some (.cells #[u] E (0,0)))
 (h:∀w':World,w'.os=w.os->w'.tape=w.tape->w'.output=w.output->w'.heap.size=w.heap.size->w'.heap[b]?=some (.cells #[v] E (0,0))->(∀c:Nat,c≠b->w'.heap[c]?=w.heap[c]?)->wpOps P ops Q rest a w'):wpOps P ops Q (i::rest) a w:=
 let⟨w',h0,bn,bt,bY,cw,cW,dm⟩:=st1 f d I ak g h1 aa
 OJ e aj ao h0 (h w' bn bt bY cw cW dm)
theorem aeU{k:Operand}(j:o.op= .mapUpdate ty x k y)(i:mo P ty)(I:a.eval x= .map (some r))(g:a.eval k=dS p)(ak:a.eval y= .bool true)(aa:w.heap[r]?=some (.map es cv))(hs:iC ks es.toList)(f:np es.toList cv):
 ∃b c,(execOp a.eval o).run P w= .ok .skip {w with heap:=w.heap.setIfInBounds r (.map b c)}/\iC (mr ks p) b.toList/\np b.toList c:=by
 obtain⟨b,c,h1,d,e⟩:=YM i aa hs f p;exact⟨b,c,by simp[execOp,j,I,g,ak,h1],d,e⟩
theorem ad6{ops:Array Oper}{i:Nat}{rest:aZ}(j:ops[i]?=some o)(aj:o.dst=none)(ao:o.guard=none){k:Operand}(l:o.op= .mapUpdate ty x k y)(g:mo P ty)(I:a.eval x= .map (some r))(f:a.eval k=dS p)(ak:a.eval y= .bool true)(aa:w.heap[r]?=some (.map es cv))(hs:iC ks es.toList)(e:np es.toList cv)
 (h:∀b c,iC (mr ks p) b.toList->np b.toList c->wpOps P ops Q rest a {w with heap:=w.heap.setIfInBounds r (.map b c)}):wpOps P ops Q (i::rest) a w:=
 let⟨b,c,h0,h1,d⟩:=aeU l g I f ak aa hs e
 OJ j aj ao h0 (h b c h1 d)
theorem aes(c:o.op= .range ty x)(b:mo P ty)(I:a.eval x= .map (some r))(aa:w.heap[r]?=some (.map es cv)):
 (execOp a.eval o).run P w= .ok (.value (.pointer (some ⟨w.heap.size,0,none⟩))) (w.alloc (.mapIter (some r) cv #[] cv)):=by
 obtain⟨fz,f,it,i,e,d,_⟩:=b.ex;have:=run_range_map w ty _ _ r es cv d aa;simp[execOp,c,I,this]
theorem aec(d:o.op= .next x false)(I:a.eval x= .pointer (some ⟨q,0,none⟩))(g:w.heap[q]?=some (.mapIter (some r) cv seen cv))(aa:w.heap[r]?=some (.map es cv))(f:np es.toList cv):
 ((leftOf es seen).size=0/\(execOp a.eval o).run P w= .ok (.value (.tuple #[.bool false])) w)\/
 ∃e∈(leftOf es seen).toList,∃b:World,(b=w\/b=w.drew)/\(execOp a.eval o).run P w= .ok (.value (.tuple #[.bool true,e.key,e.val])) (ChangeMaps.setBlock b q (.mapIter (some r) cv (seen.push e.born) cv)):=by
 rcases run_next_at (P:=P) w o.type q r cv cv seen es cv g aa f.1 (e6 _)with⟨h1,c⟩|⟨e,he,b,h1,c⟩
 . exact .inl ⟨h1,by simp[execOp,d,I,c]⟩
 . exact .inr ⟨e,he,b,h1,by simp[execOp,d,I,c]⟩
theorem ad4{ops:Array Oper}{i:Nat}{rest:aZ}(f:ops[i]?=some o){d:Nat}(aj:o.dst=some d)(ao:o.guard=none)(k:o.op= .next x false)(I:a.eval x= .pointer (some ⟨q,0,none⟩))(l:w.heap[q]?=some (.mapIter (some r) cv seen cv))(aa:w.heap[r]?=some (.map es cv))(j:np es.toList cv)
 (h0:(leftOf es seen).size=0->wpOps P ops Q rest (a.put (some d) (.tuple #[.bool false])) w)(h1:∀e,e∈(leftOf es seen).toList->∀b,(b=w\/b=w.drew)->wpOps P ops Q rest (a.put (some d) (.tuple #[.bool true,e.key,e.val])) (ChangeMaps.setBlock b q (.mapIter (some r) cv (seen.push e.born) cv))):wpOps P ops Q (i::rest) a w:=by
 rcases aec (P:=P) k I l aa j with⟨g,c⟩|⟨e,he,b,m,c⟩
 . exact nu f aj ao c (h0 g)
 . exact nu f aj ao c (h1 e he b m)
theorem ady(c:o.op= .entry x)(I:a.eval x= .pointer (some ⟨q,0,none⟩)){e:MapEntry}(d:w.heap[q]?=some (.mapIter (some r) cv (seen.push e.born) cv))(aa:w.heap[r]?=some (.map es cv))(he:e∈es.toList)(b:np es.toList cv):
 (execOp a.eval o).run P w= .ok (.value (.tuple #[e.key,e.val])) w:=by
 have:=run_entry_at (P:=P) w q r cv seen es cv e d aa he b.2;simp[execOp,c,I,this]
end
theorem nJ.refl(h:∀b j,S b j->b<w.heap.size):nJ S w S w:=⟨Ext.refl,h⟩
theorem eZ.hand{fh:List eJ}{F:aJ U.D (aW f fh (aa .bool)).ts->Option (aJ U.D (aW f fh (aa .bool)).us)}(p:gL P f=true)
 (h:∀(x:aJ U.D (aW f fh (aa .bool)).ts) (b:Bool),F x=some b->∀(φ:c0) (S:c6) (w:World) (a:List V) (vs:List Value),(∀b j,S b j->b<w.heap.size)->a6 (bR 0 []) (jG fh (aJ.cells U.D _ x)).1 a->a6 (b2 φ w S) a vs->V.aA.V.dr (lt 0) a=true->
  Calls P f vs.toArray w λe w'=>∃bj,e= .returned (.bool b)/\nJ S w bj w'):eZ P ((aW f fh (aa .bool)).s F):=by
 refine⟨p,λx b I a J1 g aE φ S w B v H G o vs A=>?_⟩;refine(h x b I φ S w a vs v.st g A o).mono ?_
 rintro e w' ⟨bj,rfl,k⟩
 refine⟨_,.c (.t (.bool b)),φ,bj,[],0,rfl,⟨rfl,.c (.t _),λb x h=>by simp[aX,cA.rest,eh.s,gQ]at h⟩,b2.nO b,rfl,⟨λb x I=>by simp[aP]at I,λb E x y I=>by simp[aP]at I,k.2⟩,λb x I=>by simp[aP]at I,⟨k.1.os,k.1.tape,k.1.output,k.1.size,λb h _=>k.1.block b h (λx=>x),k.1.mono,λb j q=>?_⟩,λb x I=>by simp[aP]at I,λ_ _=>rfl⟩;rcases k.1.j9 b j q with h|h|h
 . exact .inl h
 . exact h.elim
 . exact .inr (.inr h)
end
end
end Go.Proofs.YtkbmjabicjpmjaaGreatDoor.Shv
