/- The library of this proof, part D: an abstract machine for the code of the program, and its soundness. -/
import Derived.KernelRfl
import Derived.Shelf.Strings.Builder1
import Derived.ChangeArms
import Derived.ChangeStays
import Derived.ChangeSame
import Derived.SizedLaws
import Derived.Below
import Derived.WalkKit
import Derived.ProofKit
import Derived.OpenShut
import Derived.Laws.BitsLemmas
import Derived.Laws.Bits64
import Derived.Shelf.GgSortFunc.InsertionK
import Derived.Shelf.SlSortCmp.Insertion
import Derived.Sort.AssemblyPlain
import Derived.Lib.BitFns
import Derived.Laws.IdiomRangeMap
import Derived.Shelf.Strconv.Itoa3
import Derived.Maps.RangeRun
import Derived.Test.YtklfhpkljddjbaaGreatDoorTpLC

namespace Go.Proofs.YtklfhpkljddjbaaGreatDoor.Shv
set_option linter.all false
section
open Go
variable {xb:aY}
variable {U:cF}{R:Type}
def ob(gl:ek)(gd:Option (Nat×Bool))(dst:Option Nat):Bool:=
 match dst with
 |none=>true
 |some d=>(gl.all λe=>!(Nat.beq e.1 d) && !(Nat.beq e.2.1 d))&&(match gd with
  |some g=>!(Nat.beq g.1 d)
  |none=>true)
def gh(dst:Option Nat)(v:bA U)(env:bI U):bI U:=
 match dst with
 |none=>env
 |some d=>(d,v)::env
def ix(gl:ek)(gd:Option (Nat×Bool))(dst:Option Nat):ek:=
 match gd,dst with
 |some g,some d=>(d,g)::gl
 |_,_=>gl
abbrev fm(U:cF):=Nat->List (ca U)
abbrev kM(U:cF):=bI U->Option (List (bA U))
def Q5(s:ca U)(c:kM U)(env:bI U)(J:a7 U)(key:Nat):Option (bI U×a7 U×aY×aP U.D s.ts):=
 match c env with
 |none=>none
 |some vs=>match wT J 0 0 s.st (EX s.eK vs ([],[])) []with
  |(bs,d)=>match j' d env J with
   |none=>none
   |some (env',J')=>match c env' with
    |none=>none
    |some e=>match tD bs&&((bs.all λb=>Nat.ble (b+1) key)&&(Nat.beq bs.length s.st.length&&Nat.ble s.dE.length (bs.length+16)))with
     |false=>none
     |true=>match mx bs s.eK e,iI bs J' 0 s.st with
      |some a,some b=>match aP.dec U.D s.ts (a++b)with
       |some h=>some (env',J',bs,h)
       |none=>none
      |_,_=>none
def xk(b:kM U)(env:bI U)(J:a7 U)(key:Nat)(k:bI U->a7 U->bA U->Option R):List (ca U)->Option R
 |[]=>none
 |s::r=>match Q5 s b env J key with
  |none=>xk b env J key k r
  |some (env',J',bs,h)=>(s.F h)>>=λa=>match ow J' (s.rest a) 0 bs with
   |none=>none
   |some c=>if c then k env' (np J' bs (back bs key) (s.rest a)) ((s.res a).b6 (back bs key))else none
def isNil{α:Type}:List α->Bool
 |[]=>true
 |_=>false
def GX(s:ca U)(b:kM U)(env:bI U):Option (aP U.D s.ts):=
 match isNil s.st&&isNil s.dE,b env with
 |true,some vs=>match vs.all gp,mx [] s.eK vs with
  |true,some a=>aP.dec U.D s.ts a
  |_,_=>none
 |_,_=>none
def xj(a:kM U)(env:bI U)(g:Bool)(k:bA U->Option R):List (ca U)->Option R
 |[]=>none
 |s::r=>match GX s a env with
  |none=>xj a env g k r
  |some h=>(if g then s.F h else some (aP.jZ U s.us))>>=λb=>match gp (s.res b)with
   |true=>k (s.res b)
   |false=>none
def hasB(J:a7 U)(b:Nat):Bool:=match aS J b with
 |some _=>true
 |none=>false
def bd.jk(J:a7 U):bd U->Bool
 |.t _|.dF .. |.bD|.eQ|.eP=>true
 |.ptr b _=>hasB J b
 |.cA b _ _ _=>hasB J b
 |.fn _ caps=>caps.all (hasB J)
 |.arr b=>match aS J b with
  |some x=>(match x.cV with
   |some _=>true
   |none=>false)
  |none=>false
 |.sub .. =>false
 |.pre .. =>false
 |.dI .. =>false
 |.mp b=>hasB J b
 |.ei _=>false
 |.cr b=>match aS J b with
  |some x=>(match x.cV with
   |some p=>Nat.beq p.1 1
   |none=>false)
  |none=>false
 |.dead=>false
def kl(J:a7 U):bA U->Bool
 |.c x=>x.jk J
 |.agg cs=>cs.all (bd.jk J)
 |.aX vs=>go J vs
where go (J:a7 U):List (bA U)->Bool
 |[]=>true
 |v::vs=>kl J v&&go J vs
def bd.h7(J:a7 U):bd U->C
 |.t c=>.t (c.enc U)
 |.dF ty x o=>.dF (ty.enc U x) o
 |.bD=>.bD
 |.eQ=>.eQ
 |.eP=>.eP
 |.fn f caps=>.fn f caps
 |.ptr b o=>.ptr b o
 |.cA b ty i o=>.cA b (ty.sz U) i o
 |.arr b=>match aS J b with
  |some x=>(match x.cV with
   |some p=>.arr b p.1 0 p.2
   |none=>.dead)
  |none=>.dead
 |.sub b a len=>.fA b 1 a len
 |.pre _ _=>.dead
 |.dI .. =>.dead
 |.mp b=>.mp b
 |.ei b=>.ei b
 |.cr b=>match aS J b with
  |some x=>(match x.cV with
   |some p=>.cr b p.2
   |none=>.dead)
  |none=>.dead
 |.dead=>.dead
def h5(J:a7 U):bA U->V
 |.c x=>.c (x.h7 J)
 |.agg cs=>.agg (cs.map (bd.h7 J))
 |.aX vs=>.aX (go J vs)
where go (J:a7 U):List (bA U)->List V
 |[]=>[]
 |v::vs=>h5 J v::go J vs
def fS(J:a7 U):cx U->Bool
 |.box cs=>cs.all (bd.jk J)
 |.arr _ _=>true
 |.rows .. =>false
 |.set _=>true
 |.buf _ _=>true
 |.b3 _ c=>c.jk J
 |.cw .. =>false
def r'(J:a7 U):cx U->bJ
 |.box cs=>.box (cs.map (bd.h7 J))
 |.arr ty l=>.arr (ty.sz U) (l.map (ty.enc U))
 |.rows sz _=>.arr sz []
 |.set ks=>.set ks
 |.buf E s=>.buf E s
 |.b3 E c=>.b3 E (c.h7 J)
 |.cw t l i o _=>.cw (t.sz U) (l.map (t.enc U)) i o .dead
def kt(J:a7 U):a7 U->a6
 |[]=>[]
 |(b,x)::r=>(b,r' J x)::kt J r
def J0(J:a7 U)(l:a7 U):Bool:=l.all λp=>Nat.ble (p.1+1) 16&&fS J p.2
def GW(s:ca U)(b:kM U)(env:bI U):Option (aP U.D s.ts):=
 match isNil s.st&&Nat.ble s.dE.length 16,b env with
 |true,some vs=>match vs.all gp,mx [] s.eK vs with
  |true,some a=>aP.dec U.D s.ts a
  |_,_=>none
 |_,_=>none
def zg(b:kM U)(env:bI U)(J:a7 U)(key:Nat)(k:a7 U->bA U->Option R):List (ca U)->Option R
 |[]=>none
 |s::r=>match GW s b env with
  |none=>zg b env J key k r
  |some h=>(s.F h)>>=λa=>match kl (s.rest a) (s.res a)&&J0 (s.rest a) (s.rest a)with
   |true=>k (np J [] (back [] key) (s.rest a)) ((s.res a).b6 (back [] key))
   |false=>none
def bd.e5:bd U->aY
 |.ptr b _|.cA b _ _ _|.arr b|.sub b _ _|.pre b _|.dI b _ _|.mp b|.ei b|.cr b=>[b]
 |.fn _ caps=>caps
 |_=>[]
def bA.e5:bA U->aY
 |.c x=>x.e5
 |.agg cs=>cs.flatMap bd.e5
 |.aX _=>[]
def l1(l:aY)(b:Nat):Bool:=l.any λc=>Nat.beq c b
def Q6(xb:aY)(s:ca U)(d:kM U)(env:bI U)(J:a7 U)(key:Nat):Option (aY×aP U.D s.ts):=
 match d env with
 |none=>none
 |some vs=>match wT J 0 0 s.st (EX s.eK vs ([],[])) []with
  |(bs,c)=>match isNil c&&(tD bs&&((bs.all λb=>Nat.ble (b+1) key&&((l1 (vs.flatMap bA.e5) b||l1 xb b)&&hasB J b))&&(Nat.beq bs.length s.st.length&&(Nat.ble bs.length s.dE.length&&Nat.ble s.dE.length (bs.length+16)))))with
   |false=>none
   |true=>match mx bs s.eK vs,iI bs J 0 s.st with
    |some a,some b=>match aP.dec U.D s.ts (a++b)with
     |some h=>some (bs,h)
     |none=>none
    |_,_=>none
def Kj(n:Nat)(J:a7 U)(l:a7 U):Bool:=l.all λp=>Nat.ble (p.1+1) n&&fS J p.2
def vy(xb:aY)(b:kM U)(env:bI U)(J:a7 U)(key:Nat)(k:a7 U->bA U->Option R):List (ca U)->Option R
 |[]=>none
 |s::r=>match Q6 xb s b env J key with
  |none=>vy xb b env J key k r
  |some (bs,h)=>(s.F h)>>=λa=>match kl (s.rest a) (s.res a)&&Kj (bs.length+16) (s.rest a) (s.rest a),ow J (s.rest a) 0 bs with
   |true,some c=>if c then k (np J bs (back bs key) (s.rest a)) ((s.res a).b6 (back bs key))else none
   |_,_=>none
def aen(a:kM U)(env:bI U)(l:List (ca U)):Bool:=l.any λs=>(GW s a env).isSome
def aeo(a:kM U)(env:bI U)(l:List (ca U)):Bool:=l.any λs=>(GX s a env).isSome
def ags(gd:Option (Nat×Bool))(a:kM U)(env:bI U)(l:List (ca U)):Bool:=
 match gd with
 |some _=>!(aeo a env l)
 |none=>false
def aes(d:Option aY):aY:=match d with
 |some l=>l
 |none=>[]
def Kr(fo:fm U)(d:Option aY)(gd:Option (Nat×Bool))(f:Nat)(a:kM U)(gl:ek)(env:bI U)(J:a7 U)(key:Nat)(k:bI U->a7 U->bA U->Option R):Option R:=
 match gd with
 |none=>match d with
  |none=>xk a env J key k (fo f)
  |some xb=>match aen a env (fo f)with
   |true=>zg a env J key (λJ v=>k env J v) (fo f)
   |false=>vy xb a env J key (λJ v=>k env J v) (fo f)
 |some _=>match lu gl env qj gd with
  |some g=>xj a env g (λv=>k env J v) (fo f)
  |none=>none
abbrev jQ:=List (Nat×Bool)
def u6(nf:jQ)(gl:ek):Nat->Option (Nat×Bool)->Bool
 |0,_=>false
 |_,none=>false
 |a+1,some (t,b)=>(nf.any λg=>Nat.beq g.1 t&&(g.2==b))||u6 nf gl a (aS gl t)
def lo(nf:jQ)(dst:Option Nat):Bool:=
 match dst with
 |none=>true
 |some d=>nf.all λg=>!(Nat.beq g.1 d)
def Fm:bA U:= .c (.t ⟨.bool,false⟩)
def rV(fo:fm U)(d:Option aY)(o:bX)(key:Nat)(gl:ek)(nf:jQ)(env:bI U)(J:a7 U)(k:ek->jQ->bI U->a7 U->Option R):Option R:=
 match ob gl o.guard o.dst&&lo nf o.dst with
 |false=>none
 |true=>match u6 nf gl qj o.guard with
  |true=>match lu gl env qj o.guard with
   |some _=>k (ix gl o.guard o.dst) nf (gh o.dst Fm env) J
   |none=>none
  |false=>match o.op with
   |.call f args=>match ags o.guard (λe=>lF gl o.guard e args) env (fo f)with
    |true=>match lu gl env qj o.guard,o.guard with
     |some g,some gd=>if g then vy (aes d) (λe=>lF gl o.guard e args) env J key (λJ v=>k (ix gl o.guard o.dst) nf (gh o.dst v env) J) (fo f)else k (ix gl o.guard o.dst) (gd::nf) (gh o.dst Fm env) J
     |_,_=>none
    |false=>Kr fo d o.guard f (λe=>lF gl o.guard e args) gl env J key λenv J v=>k (ix gl o.guard o.dst) nf (gh o.dst v env) J
   |.h6 x args=>match d,o.guard,c3 gl none env x with
    |none,none,some (.c (.fn f _))=>xk (λe=>match c3 gl none e x,lF gl none e args with
     |some (.c (.fn i a)),some vs=>match Nat.beq i f with
      |true=>some (vs++a.map λb=>.c (.ptr b 0))
      |false=>none
     |_,_=>none) env J key (λenv J v=>k gl nf (gh o.dst v env) J) (fo f)
    |some _,none,some (.c (.fn f []))=>xj (λe=>lF gl none e args) env true (λv=>k gl nf (gh o.dst v env) J) (fo f)
    |_,_,_=>none
   |op=>match cj gl o.guard env J key op with
    |none=>none
    |some (c,v,J')=>match o.guard with
     |none=>if c then k gl nf (gh o.dst v env) J' else none
     |some gd=>match lu gl env qj (some gd)with
      |none=>none
      |some g=>match op.neutral with
       |true=>if(c || !g) then k (ix gl o.guard o.dst) nf (gh o.dst v env) J else none
       |false=>if g then(if c then k (ix gl o.guard o.dst) nf (gh o.dst v env) J' else none)else k (ix gl o.guard o.dst) (gd::nf) (gh o.dst Fm env) J
def QX(J:a7 U):bd U->List (Nat×aD)
 |.arr b=>match aS J b with
  |some (.arr t _)=>[(b,t)]
  |_=>[]
 |_=>[]
def agp(J:a7 U):bA U->List (Nat×aD)
 |.c x=>QX J x
 |.agg cs=>cs.flatMap (QX J)
 |.aX _=>[]
def GR(gl:ek)(gd:Option (Nat×Bool))(env:bI U)(J:a7 U)(xs:List aO):List (Nat×aD):=
 xs.flatMap λx=>match c3 gl gd env x with
  |some v=>agp J v
  |none=>[]
def Av(l:List (Nat×aD))(env:bI U)(J:a7 U):Option (bI U×a7 U):=
 match l with
 |[]=>none
 |_=>j' l env J
def GV(gl:ek)(o:bX)(env:bI U)(J:a7 U):Option (bI U×a7 U):=
 match o.op with
 |.slc _ x _ _=>match c3 gl o.guard env x with
  |some (.c (.arr b))=>match aS J b with
   |some (.arr t _)=>j' [(b,t)] env J
   |_=>none
  |_=>none
 |.call _ args=>match o.guard with
  |some _=>Av (GR gl o.guard env J args) env J
  |none=>none
 |.bsliceT _ _ _ _ ps=>Av (GR gl o.guard env J (ps.map Prod.snd)) env J
 |.bslice _ _ _ ps=>Av (GR gl o.guard env J (ps.map Prod.snd)) env J
 |_=>none
def E5(fo:fm U)(d:Option aY)(o:bX)(key:Nat)(gl:ek)(nf:jQ)(env:bI U)(J:a7 U)(k:ek->jQ->bI U->a7 U->Option R):Option R:=
 match d with
 |some xb=>rV fo (some xb) o key gl nf env J k
 |none=>match GV gl o env J with
  |none=>rV fo none o key gl nf env J k
  |some p=>rV fo none o key gl nf p.1 p.2 k
def n3(fo:fm U)(d:Option aY):List bX->Nat->ek->jQ->bI U->a7 U->(ek->bI U->a7 U->Option R)->Option R
 |[],_,gl,_,env,J,k=>k gl env J
 |o::r,key,gl,nf,env,J,k=>E5 fo d o key gl nf env J λgl nf env J=>n3 fo d r (key+16) gl nf env J k
def Co(gl:ek)(k:Nat):Bool:=gl.any λe=>Nat.beq e.1 k
def clean(gl:ek):bI U->bI U
 |[]=>[]
 |(k,v)::r=>match Co gl k with
  |true=>clean gl r
  |false=>(k,v)::clean gl r
def tE(gl:ek)(env:bI U):bI U:=
 match gl with
 |[]=>env
 |_=>clean gl env
structure er (key:Nat)(gl:ek)(nf:jQ)(env:bI U)(J:a7 U)(env1:Env)(J1:a6)(G:Nat->Bool):Prop where
 gO:cP key J G env env1
 al:gC gl env G
 dX:ck key J J1
 aN:∀g,g∈nf->cz env G (some g)=false
variable{N:Nat}{o:bX}{K:Env->a6->Prop}
section
variable {P:Program}{kk key:Nat}{J J':a7 U}{J1 bh:a6}{env:bI U}{env1:Env}{G:Nat->Bool}{gl:ek}{gd:Option (Nat×Bool)}{nf:jQ}{dst:Option Nat}{v:bA U}{v1:V}
theorem Jh{d:Option Nat}{k:Nat}:aS (gh d v env) k=if d=some k then some v else aS env k:=by
 cases d with
 |none=>rfl
 |some d=>
  grind[gh,aS,cL,hP]
theorem E8{o:Option (Nat×Bool)}{g:Bool}(h:lu gl env qj o=some g):o=none\/∃t b y,o=some (t,b)/\eY env t b=some y:=by
 cases o with
 |none=>simp
 |some x=>
  grind[aaW]
theorem K7(al:gC gl env G)(aN:∀g,g∈nf->cz env G (some g)=false):∀{a:Nat} {gd:Option (Nat×Bool)},u6 nf gl a gd=true->cz env G gd=false
 |0,gd,h=>by grind[u6]
 |a+1,none,h=>by grind[u6]
 |a+1,some (t,b),h=>by
  simp only[u6,l',pP,cK]at h;rcases h with⟨⟨f,c⟩,e,h1,d⟩|h
  . grind[cL]
  . have:=K7 al aN h;rw[al.aS t]at this;grind[cz]
theorem er.bind(he:cP key J' G env env1)(al:gC gl env G)(aA:ck key J' bh)(aN:∀g,g∈nf->cz env G (some g)=false)(J:bL key J' v v1)(x:gd=none\/∃t b y,gd=some (t,b)/\eY env t b=some y)(A:ob gl gd dst=true)(f:lo nf dst=true):
 er key (ix gl gd dst) nf (gh dst v env) J' (eb env1 dst (cz env G gd) v1) bh (λk=>if dst=some k then cz env G gd else G k):=by
 refine⟨λk w a=>?_,?_,aA,λg j=>?_⟩
 . rw[Jh]at a;rw[mJ];split at a
   . grind
   . rename_i h;rw[ao h,ao h];exact he k w a
 . cases dst with
   |none=>
    have:ix gl gd none=gl:=by cases gd<;>rfl
    simp_all[gh,reduceCtorEq,cE]
   |some d=>
    simp only[ob,cK,e',zy]at A;have H:∀k t b,aS gl k=some (t,b)->k≠d/\t≠d:=by
     intro k t b a;have I:∀{l:ek},aS l k=some (t,b)->(k,t,b)∈l:=by
      intro l;induction l with
      |nil=>grind[aS]
      |cons e r ih=>
       obtain⟨K,e⟩:=e;intro h;simp only[aS]at h;split at h
       . simp_all
       grind
     grind[hP]
    have F:∀t b,t≠d->eY (gh (some d) v env) t b=eY env t b:=by
     intro t b ht;unfold eY;rw[Jh,ao (by grind)]
    have p:∀k t b,aS gl k=some (t,b)->∃y,eY (gh (some d) v env) t b=some y/\(if some d=some k then cz env G gd else G k)=((if some d=some t then cz env G gd else G t)&&y):=by
     intro k t b a;obtain⟨y,D,E⟩:=al.held k t b a;grind
    cases gd with
    |none=>
     refine⟨λk a=>?_,λk t b a=>p k t b a⟩;by_cases c:some d=some k
     . rw[ad c];rfl
     . rw[ao c];exact al.free k a
    |some g=>
     obtain⟨t0,b0⟩:=g;have B:t0≠d:=by
      grind[Bool.not_eq_true',hP]
     refine⟨λk a=>?_,λk t b a=>?_⟩
     . simp only[ix,aS]at a;split at a
       . grind
       . rw[ao (by grind[hP])];exact al.free k a
     . simp only[ix,aS]at a;split at a
       . rename_i q;cases a;have:=cL q;subst this;rcases x with h|⟨t,b,y,h,ag⟩
         . grind
         . cases h;refine⟨y,by grind,?_⟩;rw[ad rfl,ao (by simp;exactλe=>B e.symm)];simp[cz,ag]
       . exact p k t b a
 . obtain⟨t,b⟩:=g;have h0:=aN _ j;cases dst with
   |none=>simpa[gh]using h0
   |some d=>
    simp only[lo,e',zy]at f;have o:t≠d:=hP (f _ j);simp only[cz]at h0⊢;rw[ao (by simp;exactλe=>o e.symm)];have:eY (gh (some d) v env) t b=eY env t b:=by
     unfold eY;rw[Jh,ao (by simp;exactλe=>o e.symm)]
    rw[this];exact h0
theorem Kk:bL N J Fm (.c (.t (.bool false))):= .c (.t _)
theorem Dn(h:er key gl nf env J env1 J1 G)(c:o.guard=none\/∃t b y,o.guard=some (t,b)/\eY env t b=some y)(al:cz env G o.guard=false)(d:ob gl o.guard o.dst=true)(e:lo nf o.dst=true)(f:bL (key+16) J v v1):
 DStep xb P o key env1 J1 false v1 J1/\er (key+16) (ix gl o.guard o.dst) nf (gh o.dst v env) J (eb env1 o.dst false v1) J1 (λk=>if o.dst=some k then false else G k):=by
 have a:=Dl h.gO c;rw[al]at a;refine⟨.skip a rfl,?_⟩;have:=er.bind (h.gO.mono (c0.more (by simp))) h.al (h.dX.mono (Nat.le_add_right _ 16)) h.aN f c d e;grind
theorem N2{c:Bool}(h:er key gl nf env J env1 J1 G)(I:cj gl o.guard env J key o.op=some (c,v,J'))(d:o.guard=none\/∃t b y,o.guard=some (t,b)/\eY env t b=some y)(i:ob gl o.guard o.dst=true)(j:lo nf o.dst=true):
 (cz env G o.guard=true->c=true->∃v1 bh,DStep xb P o key env1 J1 true v1 bh/\er (key+16) (ix gl o.guard o.dst) nf (gh o.dst v env) J' (eb env1 o.dst true v1) bh (λk=>if o.dst=some k then true else G k))/\
 (cz env G o.guard=false->o.op.neutral=true->∃v1,DStep xb P o key env1 J1 false v1 J1/\er (key+16) (ix gl o.guard o.dst) nf (gh o.dst v env) J (eb env1 o.dst false v1) J1 (λk=>if o.dst=some k then false else G k)):=by
 obtain⟨⟨v1,f,m⟩,r,aN⟩:=Tl h.gO h.al h.dX I;have g:=Dl h.gO d;refine⟨λal n=>?_,λal s=>?_⟩
 . obtain⟨p,bh,h1,a,l⟩:=m al n;rw[al]at g;have q:o.op.drawn=true:=by
    generalize o.op=u at I;cases u<;>first|rfl|(simp[cj]at I)
   have hs:DStep xb P o _ _ J1 _ v1 _:= .op g q h1 (λ_=>a) (.inr rfl);have e:(if o.op.neutral then J1 else bh)=bh:=by
    grind[yk]
   rw[e]at hs;refine⟨v1,bh,hs,?_⟩;have:=er.bind (h.gO.mono r) h.al l h.aN f d i j;grind
 . rw[aN s]at f;obtain⟨h1,a⟩:=Dn h d al i j f;exact⟨v1,h1,a⟩
theorem K8{x:bd U}(h:x.rH=true):x.oO.bN []=x.oO:=by
 cases x<;>simp[bd.rH]at h<;>try rfl
 rename_i f caps;cases caps with
 |nil=>rfl
 |cons=>grind
theorem Ji:∀{x:bA U},gp x=true->(fw x).bN []=fw x
 |.c x,h=>by grind[gp,fw,V.bN,K8]
 |.agg cs,h=>by
  grind[gp,fw,V.bN,List.map_congr_left,K8]
 |.aX vs,h=>by
  simp[fw,V.bN];rw[go vs h]
where go:∀(vs:List (bA U)),gp.go vs=true->V.bN.go [] (fw.go vs)=fw.go vs
 |[],_=>rfl
 |v::vs,h=>by
  simp[gp.go]at h;simp[fw.go,V.bN.go,Ji h.1,go vs h.2]
def fp(P:Program)(fo:fm U):Prop:=∀f s,s∈fo f->s.f=f/\gL P f=true/\hN P s
theorem Jj{a:a7 U}{x:bd U}{d:C}(h:b5 N a x d)(hs:x.jk a=true):d=x.h7 a:=by
 cases h<;>simp[bd.jk]at hs<;>try rfl
 . grind[bd.h7]
 grind[bd.h7]
theorem Db{a:a7 U}:∀{vs:List (bA U)} {i:Nat},(h5.go a vs)[i]?=(vs[i]?).map (h5 a)
 |[],i=>by rfl
 |v::vs,0=>by rfl
 |v::vs,i+1=>by simp[h5.go,Db]
theorem Rv{a:a7 U}:∀{vs:List (bA U)} {i:Nat} {v:bA U},kl.go a vs=true->vs[i]?=some v->kl a v=true
 |[],i,v,_,h=>by grind
 |x::vs,0,v,hs,h=>by grind[kl.go]
 |x::vs,i+1,v,hs,h=>by simp[kl.go]at hs;exact Rv hs.2 (by simpa using h)
theorem JA{a:a7 U}:∀{xs:List (bd U)} {b:List C},aV (b5 N a) xs b->(∀x,x∈xs->x.jk a=true)->b=xs.map (bd.h7 a)
 |[],[],_,_=>rfl
 |x::xs,d::b,.cons h1 c,hs=>by
  rw[jI,<-Jj h1 (hs x (by simp)),<-JA c (λx I=>hs x (by grind))]
theorem LZ{a:a7 U}{x:bA U}{d:V}(h:bL N a x d):kl a x=true->d=h5 a x:=by
 induction h with
 |c h=>intro hs;rw[Jj h hs];rfl
 |agg h=>
  grind[kl,h5,JA]
 |aX xs e ae h ih=>
  intro hs
  congr 1
  apply wP;intro i;rw[Db];cases I:xs[i]? with
  |none=>grind
  |some x=>
   have f:=(dH.1 I).1;have b:=eC (l:=e) (i:=i) (by omega);rw[b]
   congr 1
   exact ih i x _ I b (Rv hs I)
theorem N3{a:a7 U}{x:cx U}{y:bJ}(h:hM N a x y)(hs:fS a x=true):y=r' a x:=by
 cases h with
 |box h=>grind[fS,r',JA]
 |arr t l=>rfl
 |set ks=>rfl
 |buf E s=>rfl
 |b3 h=>grind[fS,r',Jj]
 |cw=>grind[fS]
 |rows=>grind[fS]
theorem yE{a:a7 U}:∀{l:a7 U} {b:Nat},aR (kt a l) b=(aS l b).map (r' a)
 |[],b=>rfl
 |(k,x)::r,b=>by
  simp[kt,aR,aS];cases h:Nat.beq k b with
  |true=>simp_all
  |false=>rw[ao (hP h)];exact yE
theorem OT{k:Nat}:∀{v:V},v.b6 (back [] k)=v.sh k
 |.c x=>by rfl
 |.agg cs=>by rfl
 |.aX vs=>by simp[V.b6,V.sh];rw[go vs]
where go:∀(vs:List V),V.b6.go _ vs=V.sh.go k vs
 |[]=>rfl
 |v::vs=>by simp only[V.b6.go,V.sh.go];rw[OT,go vs]
theorem TT{k:Nat}:∀{s:a6},hg J1 [] (back [] k) s=mv J1 k s
 |[]=>rfl
 |(b,x)::r=>by
  simp[hg];rw[TT];rfl
theorem Ez:∀{ss:List dh} {j:Nat} {a:ep U} {i:Nat} {x:cx U},aS (hj j ss a) i=some x->j<=i/\i<j+ss.length
 |[],j,a,i,x,h=>by grind[hj,aS]
 |s::ss,j,a,i,x,h=>by
  simp[hj]at h;split at h
  . simp[aS]at h;split at h
    . simp_all
    . have:=Ez h;grind
  . have:=Ez h;grind
theorem T1{bs:aY}:∀{caps:aY},(∀c,c∈caps->pos bs c=some c)->ph bs caps=some caps
 |[],_=>rfl
 |c::cs,h=>by simp[ph,h c _,T1 (caps:=cs) (λx I=>h x (by grind))]
theorem vT{a:a7 U}(e:∀b x,aS a b=some x->b<N){x:bd U}(hs:x.jk a=true):b5 N a x (x.h7 a)/\dz ((x.h7 a).bN (List.range N)) (x.h7 a):=by
 have ai:∀b,hasB a b=true->pos (List.range N) b=some b:=by
  grind[hasB,mP]
 cases x with
 |t c=>exact⟨.t c,dz.refl _⟩
 |ptr b o=>
  refine⟨.ptr b o,?_⟩;simp only[bd.h7,C.bN,ai b hs];exact dz.refl _
 |cA b ty i o=>
  refine⟨.cA b ty i o,?_⟩;simp only[bd.h7,C.bN,ai b hs];exact dz.refl _
 |dF ty x o=>exact⟨.dF ty x o,dz.refl _⟩
 |arr b=>
  simp only[bd.jk]at hs;split at hs
  . rename_i y ag;split at hs
    . rename_i p d;simp only[bd.h7,ag,d];refine⟨.arr b p.1 p.2 (e b y ag) λz j q g=>?_,?_⟩
      . grind
      grind[C.bN,hasB,dz.refl]
    grind
  grind
 |dI b k len=>grind[bd.jk]
 |sub b k len=>grind[bd.jk]
 |pre b h=>grind[bd.jk]
 |mp b=>
  refine⟨.mp b,?_⟩;simp only[bd.h7,C.bN,ai b hs];exact dz.refl _
 |ei b=>grind[bd.jk]
 |cr b=>
  simp only[bd.jk]at hs;split at hs
  . rename_i y ag;split at hs
    . rename_i p d;simp only[bd.h7,ag,d];refine⟨.cr b p.2 (e b y ag) λz j q g=>?_,?_⟩
      . grind[cL]
      grind[C.bN,hasB,dz.refl]
    grind
  grind
 |bD=>exact⟨.bD,dz.refl _⟩
 |eQ=>exact⟨.eQ,dz.refl _⟩
 |eP=>exact⟨.eP,dz.refl _⟩
 |fn f caps=>
  simp only[bd.jk]at hs;refine⟨.fn f caps,?_⟩;grind[T1,bd.h7,C.bN,dz.refl]
 |dead=>grind[bd.jk]
theorem vJ{a:a7 U}(c:∀b x,aS a b=some x->b<N):∀{xs:List (bd U)},(∀x,x∈xs->x.jk a=true)->aV (b5 N a) xs (xs.map (bd.h7 a))/\aV dz ((xs.map (bd.h7 a)).map (C.bN (List.range N))) (xs.map (bd.h7 a))
 |[],_=>⟨.nil,.nil⟩
 |x::xs,hs=>by
  obtain⟨h1,d⟩:=vT c (hs x (by simp));obtain⟨e,f⟩:=vJ c (xs:=xs) (λx I=>hs x (by grind));exact⟨.cons h1 e,.cons d f⟩
theorem RI{a:a7 U}:∀{vs:List (bA U)},(h5.go a vs).length=vs.length
 |[]=>rfl
 |v::vs=>by simp[h5.go,RI]
theorem zZ{N:Nat}{a:a7 U}(e:∀b x,aS a b=some x->b<N):∀{x:bA U},kl a x=true->bL N a x (h5 a x)/\gm ((h5 a x).bN (List.range N)) (h5 a x)
 |.c x,hs=>by
  obtain⟨h1,f⟩:=vT e (x:=x) (by grind[kl]);exact⟨.c h1,.c f⟩
 |.agg cs,hs=>by
  simp[kl,e']at hs;obtain⟨h1,f⟩:=vJ e hs;exact⟨.agg h1,.agg f⟩
 |.aX vs,hs=>by
  have:=go e vs hs;refine⟨.aX _ _ (by rw[RI]) λi x d I g=>?_,.aX _ _ (by rw[Da]) λi x y I ag=>?_⟩
  . grind[Db]
  grind[DF,Db]
where go {N:Nat} {a:a7 U} (e:∀b x,aS a b=some x->b<N):∀(vs:List _),kl.go a vs=true->∀x,x∈vs->bL N a x (h5 a x)/\gm ((h5 a x).bN (List.range N)) (h5 a x)
 |[],_=>by simp
 |v::vs,hs=>by
  simp[kl.go]at hs;have h1:=zZ e hs.1;have f:=go e vs hs.2;grind
theorem T2 {fo:fm U}(aa:fp P fo){o:bX}{f:Nat}{args:List aO}(aj:o.op= .call f args)(h:er key gl nf env J env1 J1 G)(w:o.guard=none)(Y:ob gl o.guard o.dst=true)(Z:lo nf o.dst=true)
 {k:a7 U->bA U->Option R}{r:R}:∀{ss:List (ca U)},(∀s,s∈ss->s∈fo f)->zg (λe=>lF gl o.guard e args) env J key k ss=some r->
 ∃v v1 J' bh,k J' v=some r/\DStep xb P o key env1 J1 true v1 bh/\er (key+16) (ix gl o.guard o.dst) nf (gh o.dst v env) J' (eb env1 o.dst true v1) bh (λi=>if o.dst=some i then true else G i)
 |[],_,I=>by grind[zg]
 |s::ss,af,I=>by
  simp only[zg]at I;split at I
  . exact T2 aa aj h w Y Z (λs hs=>af s (by grind)) I
  . rename_i ab ai;unfold GW at ai;split at ai
    . rename_i vs ah ak;simp only[cK]at ah;split at ai
      . rename_i a H ar;rw[e']at H;obtain⟨aE,aT,aF⟩:=aa f s (af s (by simp));obtain⟨p,B,b1,b2,an⟩:=sP h.gO h.al ak;have aG:s.st=[]:=(by grind[isNil]);have O:=gK ah.2;obtain⟨g,hres,C⟩:=jF.1 I;split at C
        . rename_i z;simp only[cK]at z;obtain⟨aM,f1,ae,g1⟩:=uH (N:=key) (Jc:=([]:a7 U)) (wE) (λj b aL aW=>by grind) ar
          obtain⟨M,aC,ao,dw⟩:=g1 B b2.length (λi x d I q=>by
           obtain⟨L,h1,u⟩:=b2.get I
           rw[q]at h1;cases h1;omega)
          have aU:aP.cells U.D s.ts ab=a:=aP.mL ai;have au:s.args ab=aM:=by
           unfold ca.args;have:=f1 [];grind
          have T:s.il ab=[]:=by unfold ca.il;rw[aG];rfl
          have ad:s.st.length=0:=by grind
          have W:=aF ab g hres M [] (by
           rw[au,T,ad]
           refine aV.kF (by rw[ae,aC,b2.length]) λi x d I q=>dw i x d I q) (by rw[T];intro b x I;grind[aS])
          rw[aE,ad]at W;have aH:aV gm B M:=by
           refine aV.kF aC.symm λi d L q ay=>?_;have ak:=ao i d L q ay;obtain⟨x,I,F⟩:=(b2.flip (R':=λd x=>bL key J x d) λ_ _ h=>h).get q;have hs:=H x (eN I);have:=zX F hs;grind[Ji]
          have aw:=d'.conv aH (J:=[]) (λb aL I=>by grind[aR]) W;have n:∀b x,aS (s.rest g) b=some x->b<16/\fS (s.rest g) x=true:=by
           intro b x I;have aB:∀{l:a7 U},aS l b=some x->(b,x)∈l:=by
            intro l;induction l with
            |nil=>grind[aS]
            |cons e r ih=>
             obtain⟨aX,e⟩:=e;intro h;simp only[aS]at h;split at h
             . simp_all
             grind
           have:=z.2;unfold J0 at this;rw[e']at this;have u:=this _ (aB I);simp only[cK]at u;exact⟨by have:=gK u.1;omega,u.2⟩
          have t:∀b x,aS (s.rest g) b=some x->b<s.dE.length:=by
           intro b x I;have:=(Ez I).2;omega
          have ax:d' P f B [] 0 (λaK s' am=>aK=h5 (s.rest g) (s.res g)/\s'=kt (s.rest g) (s.rest g)/\am=s.dE.length):=by
           refine d'.tidy aw ?_
           rintro aZ s1 aQ ⟨rfl,aI,aJ⟩
           have aD:=LZ aI z.1;subst aD;refine⟨List.range s.dE.length,_,_,List.nodup_range,rfl,?_,?_,rfl,rfl,by simp⟩
           . exact(zZ t z.1).2
           . intro b x I;rw[yE,bn]at I;obtain⟨K,A,rfl⟩:=I;obtain⟨h1,y,u,ap⟩:=aJ b K A;have ag:=N3 ap (n b K A).2;subst ag;have ht:=y6 (bs:=List.range s.dE.length) (i:=0) (j:=b) (r:=List.range s.dE.length) (by simp[h1]) u;rw[gx]at ht;refine⟨_,ht,?_⟩;cases K with
             |box cs=>
              have m:=(n b _ A).2;simp only[fS,e']at m;exact .box (vJ t m).2
             |arr ty l=>exact .arr
             |rows sz l=>have m:=(n b _ A).2;simp[fS]at m
             |set ks=>exact .same
             |buf E s=>exact .same
             |b3 E c=>have m:=(n b _ A).2;exact .b3 (vT t (by simpa[fS]using m)).2
             |cw=>have m:=(n b _ A).2;simp[fS]at m
          have av:V.az.V.dj (lt 0) B=true:=by
           refine sM λi d q=>?_;obtain⟨x,I,F⟩:=(b2.flip (R':=λd x=>bL key J x d) λ_ _ h=>h).get q;have hs:=H x (eN I);have:=zX F hs;subst this;exact(vS (N:=key) (J:=J) hs).2 _
          have al:fM env1 o.guard=some true:=by rw[w];rfl
          have aA:(kt (s.rest g) (s.rest g)).all (λx=>decide (x.1<16))=true:=by
           have az:=z.2;unfold J0 at az;have:∀{l:a7 U},(l.all λp=>Nat.ble (p.1+1) 16&&fS (s.rest g) p.2)=true->(kt (s.rest g) l).all (λx=>decide (x.1<16))=true:=by
            intro l;induction l with
            |nil=>intro _;rfl
            |cons e r ih=>
             obtain⟨b,x⟩:=e;intro h;simp only[lA,cK]at h;simp only[kt,lA,cK,e9];exact⟨by have:=gK h.1.1;omega,ih h.2⟩
           grind
          have X:bL s.dE.length (s.rest g) (s.res g) (h5 (s.rest g) (s.res g))/\ck s.dE.length (s.rest g) (kt (s.rest g) (s.rest g)):=by
           refine⟨(zZ t z.1).1,λb x I=>?_⟩;refine⟨t b x I,r' (s.rest g) x,by rw[yE,I];rfl,?_⟩;cases x with
           |box cs=>
            have m:=(n b _ I).2;simp only[fS,e']at m;exact .box (vJ t m).1
           |arr ty l=>exact .arr ty l
           |rows sz l=>have m:=(n b _ I).2;simp[fS]at m
           |set ks=>exact .set ks
           |buf E s=>exact .buf E s
           |b3 E c=>have m:=(n b _ I).2;exact .b3 (vT t (by simpa[fS]using m)).1
           |cw=>have m:=(n b _ I).2;simp[fS]at m
          have cp:s.dE.length<=([]:aY).length+16:=(by simpa using O);have Q:=ck.Gk (key:=key) (bs:=[]) wE (by simp) cp h.dX rfl X.2;have S:=bL.b6 (key:=key) (bs:=[]) (J:=J) wE (by simp) cp h.dX X.1;have aq:=Dm (key:=key) (bs:=[]) (Jr:=s.rest g) wE (by simp) h.dX rfl;rw[OT]at S;rw[TT]at Q;refine⟨_,(h5 (s.rest g) (s.res g)).sh key,_,mv J1 key (kt (s.rest g) (s.rest g)),C,.own aj al w b1 (an (by rw[w];rfl)) av O aA ax rfl,?_⟩;have:=er.bind (gd:=o.guard) (dst:=o.dst) (nf:=nf) (h.gO.mono aq) h.al Q h.aN S (.inl w) Y Z;rw[w]at this⊢;exact this
        . cases C
      . cases ai
    . cases ai
theorem TU:∀{args:List aO} {p:Prop} {a:List V},hF env1 args=some (p,a)->kS env1 args=a.flatMap V.e5
 |[],p,a,h=>by simp[hF]at h;rw[h.2];rfl
 |x::xs,p,a,h=>by
  simp only[hF,bf,bn]at h;obtain⟨⟨c,v0⟩,h1,⟨d,e⟩,b,_,rfl⟩:=h;have ih:=TU b;grind[kS]
theorem N4{c:a7 U}{x:bd U}{d:C}(h:b5 N c x d):∀b,b∈x.e5->b∈d.e5:=by
 intro b a;cases h<;>simp only[bd.e5]at a⊢<;>first|exact a|(simp at a)
theorem L0{e:a7 U}:∀{xs:List (bd U)} {c:List C},aV (b5 N e) xs c->∀b,b∈xs.flatMap bd.e5->b∈c.flatMap C.e5
 |[],[],_,b,a=>a
 |x::xs,d::c,.cons h1 f,b,a=>by
  simp only[hJ,fH]at a⊢;rcases a with a|a
  . grind[N4]
  . exact .inr (L0 f b a)
theorem acU{e:a7 U}{x:bA U}{d:V}(h:bL N e x d):∀b,b∈x.e5->b∈d.e5:=by
 intro b a;cases h with
 |c h=>exact N4 h b a
 |agg h=>exact L0 h b a
 |aX=>grind[bA.e5]
theorem L1{e:a7 U}:∀{xs:List (bA U)} {c:List V},aV (bL N e) xs c->∀b,b∈xs.flatMap bA.e5->b∈c.flatMap V.e5
 |[],[],_,b,a=>a
 |x::xs,d::c,.cons h1 f,b,a=>by
  simp only[hJ,fH]at a⊢;rcases a with a|a
  . grind[acU]
  . exact .inr (L1 f b a)
theorem L2{l:aY}{b:Nat}(h:l1 l b=true):b∈l:=by
 simp_all[l1]
theorem IX {fo:fm U}(aa:fp P fo){o:bX}{f:Nat}{args:List aO}(ah:o.op= .call f args)(h:er key gl nf env J env1 J1 G)(F:o.guard=none\/∃t b y,o.guard=some (t,b)/\eY env t b=some y)(Y:ob gl o.guard o.dst=true)(Z:lo nf o.dst=true)
 (H:cz env G o.guard=true){k:a7 U->bA U->Option R}{r:R}:∀{ss:List (ca U)},(∀s,s∈ss->s∈fo f)->vy xb (λe=>lF gl o.guard e args) env J key k ss=some r->
 ∃v v1 J' bh,k J' v=some r/\DStep xb P o key env1 J1 true v1 bh/\er (key+16) (ix gl o.guard o.dst) nf (gh o.dst v env) J' (eb env1 o.dst true v1) bh (λi=>if o.dst=some i then true else G i)
 |[],_,I=>by grind[vy]
 |s::ss,af,I=>by
  simp only[vy]at I;split at I
  . exact IX aa ah h F Y Z H (λs hs=>af s (by grind)) I
  . rename_i bs ab ai;obtain⟨aK,a3,aL⟩:=aa f s (af s (by simp));obtain⟨g,hres,C⟩:=jF.1 I;unfold Q6 at ai;split at ai
    . grind
    . rename_i vs aT;split at ai;split at ai
      . grind
      . rename_i q;simp only[cK,e']at q;obtain⟨_,av,D,aw,ax,ay⟩:=q;split at ai
        . rename_i a b ap Q;split at ai
          . rename_i a5 aF;cases ai;have bV:=yy av;have aE:=λb q=>gK (D b q).1;have ad:=cL aw;have a6:=gK ax;have cp:=gK ay;obtain⟨p,K,b1,b2,ak⟩:=sP h.gO h.al aT;have az:=zf bV Q;obtain⟨aZ,f1,ae,g1⟩:=uH (N:=key) bV az ap
            obtain⟨M,aC,a2,dw⟩:=g1 K b2.length (λi x d I X=>by
             obtain⟨a1,h1,O⟩:=b2.get I
             grind)
            obtain⟨aY,t1,t2⟩:=Eh bV h.dX Q;have a4:=aP.mL aF;have ar:s.args ab=aZ:=(by grind[ca.args]);have au:s.il ab=hj 0 s.st b:=by grind[ca.il]
            have T:=aL ab g hres M aY (by
             rw[ar,au,<-ad]
             exact aV.kF (by rw[ae,aC,b2.length]) λi x d I X=>dw i x d I X) (by grind)
            rw[aK,<-ad]at T;have aM:aV gm (K.map (V.bN bs)) M:=by
             grind[aV.kF]
            have aA:=d'.conv aM t1 T;split at C
            . rename_i c z S;simp only[cK]at z;split at C
              . rename_i aD;subst aD;have n:∀b x,aS (s.rest g) b=some x->fS (s.rest g) x=true:=by
                 intro b x I;have a8:∀{l:a7 U},aS l b=some x->(b,x)∈l:=by
                  intro l;induction l with
                  |nil=>intro h;simp[aS]at h
                  |cons e r ih=>
                   obtain⟨a9,e⟩:=e;intro h;simp only[aS]at h;split at h
                   . simp_all
                   grind
                 have:=z.2;unfold Kj at this;grind
                have u:∀b x,aS (s.rest g) b=some x->b<s.dE.length:=by
                 intro b x I;have:=(Ez I).2;omega
                have aB:d' P f (K.map (V.bN bs)) (fu bs J1 0 bs) bs.length (λaX s' aj=>aX=h5 (s.rest g) (s.res g)/\s'=kt (s.rest g) (s.rest g)/\aj=s.dE.length):=by
                 refine d'.tidy aA ?_
                 rintro a' s1 a0 ⟨rfl,aU,aW⟩
                 have aJ:=LZ aU z.1;subst aJ;refine⟨List.range s.dE.length,_,_,List.nodup_range,?_,?_,?_,rfl,rfl,by simp⟩
                 . unfold keeps;grind
                 . exact(zZ u z.1).2
                 . intro b x I;rw[yE,bn]at I;obtain⟨L,A,rfl⟩:=I;obtain⟨h1,y,O,B⟩:=aW b L A;have ag:=N3 B (n b L A);subst ag;have ht:=y6 (bs:=List.range s.dE.length) (i:=0) (j:=b) (r:=List.range s.dE.length) (by simp[h1]) O;rw[gx]at ht;refine⟨_,ht,?_⟩;cases L with
                   |box cs=>
                    have m:=n b _ A;simp only[fS,e']at m;exact .box (vJ u m).2
                   |arr ty l=>exact .arr
                   |rows sz l=>have m:=n b _ A;simp[fS]at m
                   |set ks=>exact .same
                   |buf E s=>exact .same
                   |b3 E c=>have m:=n b _ A;exact .b3 (vT u (by simpa[fS]using m)).2
                   |cw=>have m:=n b _ A;simp[fS]at m
                have aq:=Dl h.gO F;have aI:(kt (s.rest g) (s.rest g)).all (λx=>decide (x.1<bs.length+16))=true:=by
                 have aG:=z.2;unfold Kj at aG;have:∀{l:a7 U},(l.all λp=>Nat.ble (p.1+1) (bs.length+16)&&fS (s.rest g) p.2)=true->(kt (s.rest g) l).all (λx=>decide (x.1<bs.length+16))=true:=by
                  intro l;induction l with
                  |nil=>intro _;rfl
                  |cons e r ih=>
                   obtain⟨b,x⟩:=e;intro h;simp only[lA,cK]at h;simp only[kt,lA,cK,e9];exact⟨by have:=gK h.1.1;omega,ih h.2⟩
                 grind
                have W:bL s.dE.length (s.rest g) (s.res g) (h5 (s.rest g) (s.res g))/\ck s.dE.length (s.rest g) (kt (s.rest g) (s.rest g)):=by
                 refine⟨(zZ u z.1).1,λb x I=>?_⟩;refine⟨u b x I,r' (s.rest g) x,by rw[yE,I];rfl,?_⟩;cases x with
                 |box cs=>
                  have m:=n b _ I;simp only[fS,e']at m;exact .box (vJ u m).1
                 |arr ty l=>exact .arr ty l
                 |rows sz l=>have m:=n b _ I;simp[fS]at m
                 |set ks=>exact .set ks
                 |buf E s=>exact .buf E s
                 |b3 E c=>have m:=n b _ I;exact .b3 (vT u (by simpa[fS]using m)).1
                 |cw=>have m:=n b _ I;simp[fS]at m
                have an:=ck.Gk (key:=key) (bs:=bs) bV aE cp h.dX S W.2;have ao:=bL.b6 (key:=key) (bs:=bs) (J:=J) bV aE cp h.dX W.1;have am:=Dm (key:=key) (bs:=bs) (Jr:=s.rest g) bV aE h.dX S;have aH:∀b,b∈bs->∃x,aR J1 b=some x:=by
                 intro b q;have B:=(D b q).2.2;unfold hasB at B;split at B
                 . rename_i x I;obtain⟨_,y,ag,_⟩:=h.dX b x I;grind
                 . cases B
                have aQ:∀b,b∈bs->b∈kS env1 args++xb:=by
                 intro b q;rw[TU b1];have w:=(D b q).2.1;rw[l']at w;rcases w with w|w
                 . exact GF _ (L1 b2 b (L2 w))
                 . exact List.mem_append_right _ (L2 w)
                refine⟨_,(h5 (s.rest g) (s.res g)).b6 (back bs key),_,_,C,.raw ah (by rw[aq,H]) rfl b1 (ak H) bV aE aH aQ cp aI aB rfl,?_⟩;have:=er.bind (gd:=o.guard) (dst:=o.dst) (nf:=nf) (h.gO.mono am) h.al an h.aN ao F Y Z;simp_all
              . cases C
            . cases C
          . cases ai
        . cases ai
theorem Ix {fo:fm U}(S:fp P fo){o:bX}{f:Nat}{args:List aO}(u:o.op= .call f args\/(o.guard=none/\∃x q,o.op= .h6 x args/\x.get env1=some (q,.c (.fn f []))/\q))(h:er key gl nf env J env1 J1 G)(C:o.guard=none\/∃t b y,o.guard=some (t,b)/\eY env t b=some y)(O:ob gl o.guard o.dst=true)(Q:lo nf o.dst=true)
 {g:Bool}(al:g=cz env G o.guard){k:bA U->Option R}{r:R}:∀{ss:List (ca U)},(∀s,s∈ss->s∈fo f)->xj (λe=>lF gl o.guard e args) env g k ss=some r->
 ∃v v1,k v=some r/\DStep xb P o key env1 J1 g v1 J1/\er (key+16) (ix gl o.guard o.dst) nf (gh o.dst v env) J (eb env1 o.dst g v1) J1 (λi=>if o.dst=some i then g else G i)
 |[],_,I=>by grind[xj]
 |s::ss,Y,I=>by
  simp only[xj]at I;split at I
  . exact Ix S u h C O Q al (λs hs=>Y s (by grind)) I
  . rename_i ab ai;unfold GX at ai;split at ai
    . rename_i vs aE A;split at ai
      . rename_i a F ah;rw[e']at F;obtain⟨ap,ak,aq⟩:=S f s (Y s (by simp));obtain⟨p,B,b1,b2,aa⟩:=sP h.gO h.al A;have ar:s.st=[]:=(by grind[isNil]);obtain⟨n,hres,E⟩:=jF.1 I;split at E
        . rename_i Z;obtain⟨av,aw⟩:=vS (N:=key+16) (J:=J) Z;have K:=Dl h.gO C;rw[<-al]at K;have ag:er (key+16) (ix gl o.guard o.dst) nf (gh o.dst (s.res n) env) J (eb env1 o.dst g (fw (s.res n))) J1 (λi=>if o.dst=some i then g else G i):=by
           have:=er.bind (dst:=o.dst) (h.gO.mono (c0.more (by simp:key<=key+16))) h.al (h.dX.mono (Nat.le_add_right key 16)) h.aN av C O Q;grind
          refine⟨s.res n,fw (s.res n),E,?_,ag⟩;have W:g=true->p/\V.az.V.dj (lt 0) B=true/\(fw (s.res n)).az (lt 0)=true/\d' P f B [] 0 (λax _ _=>ax=fw (s.res n)):=?_
          . rcases u with u|⟨T,x,q,u,I,ao⟩
            . exact .call u K b1 W
            . have z:g=true:=by rw[al,T];rfl
              exact .h6 u T z I ao ak b1 (W z)
          intro z;rw[ad z]at hres;obtain⟨az,f1,ae,g1⟩:=uH (N:=key) (Jc:=([]:a7 U)) (wE) (λj b ay aD=>by grind) ah
          obtain⟨H,aC,af,dw⟩:=g1 B b2.length (λi x d I l=>by
           obtain⟨w,h1,aA⟩:=b2.get I
           rw[l]at h1;cases h1;omega)
          have aB:aP.cells U.D s.ts ab=a:=aP.mL ai;have aj:s.args ab=az:=by
           unfold ca.args;have:=f1 [];grind
          have L:s.il ab=[]:=by unfold ca.il;rw[ar];rfl
          have X:s.st.length=0:=by grind
          have M:=aq ab n hres H [] (by
           rw[aj,L,X]
           refine aV.kF (by rw[ae,aC,b2.length]) λi x d I l=>dw i x d I l) (by rw[L];intro b x I;grind[aS])
          rw[ap,X]at M;have au:aV gm B H:=by
           refine aV.kF aC.symm λi d w l am=>?_;have A:=af i d w l am;obtain⟨x,I,m⟩:=(b2.flip λ_ _ h=>h).get l;exact agf (F x (eN I)) A m
          refine⟨aa (by grind),?_,aw _,?_⟩
          . refine sM λi d l=>?_;obtain⟨x,I,m⟩:=(b2.flip (R':=λd x=>bL key J x d) λ_ _ h=>h).get l;exact agh (F x (eN I)) m
          . refine d'.conv au (λb ay I=>by simp[aR]at I) (M.mono λaF bh N' an=>?_);exact zX an.2.1 Z
        . cases E
      grind
    grind
where
 agf {x:bA U} {d w:V} (hs:gp x=true) (A:gm (d.bN []) w) (m:bL key J x d):gm d w:=by
  have:=zX m hs;grind[Ji]
 agh {x:bA U} {d:V} (hs:gp x=true) (m:bL key J x d):d.az (lt 0)=true:=by
  have:=zX m hs;grind[vS]
theorem DI {fo:fm U}(Q:fp P fo){f:Nat}{F:kM U}{cal:Env->List V->Prop}
 (X:∀{env':bI U} {J2:a7 U} {g:Env} {vs:List (bA U)},cP key J2 G env' g->gC gl env' G->F env'=some vs->∃j,aV (bL key J2) vs j/\cal g j)
 (he:cP key J G env env1)(al:gC gl env G)(aA:ck key J J1){k:bI U->a7 U->bA U->Option R}{r:R}:∀{ss:List (ca U)},(∀s,s∈ss->s∈fo f)->xk F env J key k ss=some r->
 ∃env' J2 g bh j,Conv kk key env1 J1 key g bh/\cP key J2 G env' g/\gC gl env' G/\(∀t b,eY env' t b=eY env t b)/\cal g j/\gL P f=true/\
  OS P f j bh key g (λZ s1=>∃u v,k env' u v=some r/\cP (key+16) u G env' g/\ck (key+16) u s1/\bL (key+16) u v Z)
 |[],_,I=>by grind[xk]
 |s::ss,Y,I=>by
  simp only[xk]at I;split at I
  . exact DI Q X he al aA (λs hs=>Y s (by grind)) I
  . rename_i env' J2 bs h ai;obtain⟨az,ao,aB⟩:=Q f s (Y s (by simp));obtain⟨aK,hres,q⟩:=jF.1 I;unfold Q5 at ai;split at ai
    . grind
    . split at ai;split at ai
      . cases ai
      . rename_i aR aO T;split at ai
        . cases ai
        . rename_i vs aG;split at ai
          . cases ai
          . rename_i m;simp only[cK,e']at m;obtain⟨ah,aj,ak,am⟩:=m;split at ai
            . rename_i a b af K;split at ai
              . rename_i ab ax;cases ai;have bV:=yy ah;have aE:∀b,b∈bs->b<key:=λb m=>gK (aj b m);have C:=cL ak;have ay:=gK am;obtain⟨g,bh,au,B,y,W⟩:=vA (kk:=kk) (gl:=gl) T he aA;obtain⟨j,b2,ap⟩:=X B (W al) aG;have aq:=zf bV K;obtain⟨aN,f1,ae,g1⟩:=uH (N:=key) bV aq af
                obtain⟨E,aC,aQ,dw⟩:=g1 j b2.length (λi x d I A=>by
                 obtain⟨aa,h1,ad⟩:=b2.get I
                 grind)
                obtain⟨aL,t1,t2⟩:=Eh bV y K;have M:aP.cells U.D s.ts h=a++b:=aP.mL ax;have ag:s.args h=aN:=by unfold ca.args;rw[M,f1]
                have H:s.il h=hj 0 s.st b:=by unfold ca.il;rw[M,f1]
                have O:=aB h aK hres E aL (by
                 rw[ag,H,<-C]
                 exact aV.kF (by rw[ae,aC,b2.length]) λi x d I A=>dw i x d I A) (by rw[H,<-C];exact t2)
                rw[az,<-C]at O;have aF:aV gm (j.map (V.bN bs)) E:=by
                 refine aV.kF (by simp[aC]) λi d aa A aT=>?_;grind
                have ar:=d'.conv aF t1 O;split at q
                . cases q
                . rename_i c L;split at q
                  . rename_i aw;subst aw;have cp:s.dE.length<=bs.length+16:=ay;refine⟨env',J2,g,bh,j,au,B,W al,λt b=>PN T,ap,ao,?_⟩;intro av nt φ S a w R an aM aH;refine(hL.raw (n:=lt key) (key:=key) bV aE ar ?_ (λb m=>by simp[lt];exact aE b m) av nt φ S g a w R (λb h1 _=>yU h1) an aM aH)
                    rintro Z s1 N' ⟨rfl,aI,aJ⟩
                    refine⟨cp,_,_,q,B.mono (Dm bV aE y L),ck.Gk bV aE cp y L aJ,bL.b6 bV aE cp y aI⟩
                  . cases q
              . cases ai
            . cases ai
where
 PO {env:bI U} {b0:Nat} {ty:aD} {l:List (ty.den U.D)} {t:Nat} {b:Bool}:eY (rT b0 (⟨.slice ty,l⟩:Cell U.D) env) t b=eY env t b:=by
  unfold eY;rw[Ew];cases aS env t with
  |none=>rfl
  |some v=>
   cases v with
   |c x=>
    cases x with
    |arr z=>grind[bA.cb,bd.cb]
    |cA z aW i o=>grind[bA.cb,bd.cb]
    |pre z h=>grind[bA.cb,bd.cb]
    |dI z aU h=>grind[bA.cb,bd.cb]
    |_=>rfl
   |agg cs=>rfl
   |aX vs=>rfl
 PN {l:List (Nat×aD)} {env env':bI U} {J J':a7 U} {t:Nat} {b:Bool} (h:j' l env J=some (env',J')):eY env' t b=eY env t b:=by
  induction l generalizing env J with
  |nil=>grind[j']
  |cons p l ih=>
   simp only[j']at h;split at h
   . rename_i e s h1;have ad:eY e t b=eY env t b:=by
      unfold xh at h1;split at h1
      . split at h1
        . cases h1;exact PO
        grind
      . split at h1
        . cases h1;exact PO
        grind
      grind
     grind
   grind
theorem TV{fo:fm U}(u:fp P fo)(h:er key gl nf env J env1 J1 G){k:ek->jQ->bI U->a7 U->Option R}{r:R}(I:rV fo (some xb) o key gl nf env J k=some r):
 ∃g v1 bh O V env' J' W,DStep xb P o key env1 J1 g v1 bh/\k O V env' J'=some r/\er (key+16) O V env' J' (eb env1 o.dst g v1) bh W:=by
 unfold rV at I;split at I
 . grind
 . rename_i Q;simp only[cK]at Q;obtain⟨i,l⟩:=Q;split at I
   . rename_i bc;split at I
     . rename_i z w;have Y:=K7 h.al h.aN bc;obtain⟨h1,e⟩:=Dn (P:=P) h (E8 w) Y i l (Kk (U:=U) (N:=key+16) (J:=J));exact⟨_,_,_,_,_,_,_,_,h1,I,e⟩
     grind
   . split at I
     . rename_i f args n;split at I
       . split at I
         . rename_i g gd al a;have p:o.guard=none\/∃t b y,o.guard=some (t,b)/\eY env t b=some y:=(by grind[E8]);have m:g=cz env G o.guard:=DG h.al al;split at I
           . obtain⟨v,v1,J',bh,h1,e,j⟩:=IX (fo:=fo) u n h p i l (by grind) (λs hs=>hs) I;exact⟨_,_,_,_,_,_,_,_,e,h1,j⟩
           . have H:cz env G o.guard=false:=by grind
             have B:er key gl (gd::nf) env J env1 J1 G:=⟨h.gO,h.al,h.dX,λz w=>by
              rcases dK.1 w with rfl|L
              . grind
              . exact h.aN z L⟩
             have F:lo (gd::nf) o.dst=true:=by
              cases E:o.dst with
              |none=>rfl
              |some d=>
               simp_all[lo,lA,cK,ob]
             obtain⟨h1,e⟩:=Dn (P:=P) B p H i F (Kk (U:=U) (N:=key+16) (J:=J));exact⟨_,_,_,_,_,_,_,_,h1,I,e⟩
         grind
       unfold Kr at I;split at I
       . rename_i a;simp only at I;split at I
         case h_2=>
          obtain⟨v,v1,J',bh,h1,e,j⟩:=IX (fo:=fo) u n h (.inl a) i l (by rw[a];rfl) (λs hs=>hs) I;grind
         rw[a]at I;obtain⟨v,v1,J',bh,h1,e,j⟩:=T2 (fo:=fo) u n h a i l (k:=λJ v=>k (ix gl o.guard o.dst) nf (gh o.dst v env) J) (λs hs=>hs) (by rw[a];omega);exact⟨_,_,_,_,_,_,_,_,e,h1,j⟩
       . rename_i gd a;split at I
         . rename_i g al;rw[a]at I al;obtain⟨v,v1,h1,e,j⟩:=Ix (fo:=fo) u (.inl n) h (by grind[E8]) i l (g:=g) (by rw[a];exact DG h.al al) (λs hs=>hs) (by rw[a];omega);rw[a]at j;exact⟨_,_,_,_,_,_,_,_,e,h1,j⟩
         grind
     . rename_i x args n;split at I
       . grind
       . rename_i aa f E a Z;obtain⟨q,v1,a1,a2,a3⟩:=b4 h.gO h.al Z;have:=a2.Gj;subst this;obtain⟨v,v1,h1,e,j⟩:=Ix (xb:=xb) (fo:=fo) u (.inr ⟨a,x,q,n,a1,a3 rfl⟩) h (.inl a) i l (g:=true) (by rw[a];rfl) (λs hs=>hs) (by rw[a];omega);rw[a]at j;exact⟨_,_,_,_,_,_,_,_,e,h1,j⟩
       grind
     . split at I
       . cases I
       . rename_i c v J' A;split at I
         . rename_i a;split at I
           . rename_i C;rw[a]at A;obtain⟨v1,bh,h1,e⟩:=(N2 (P:=P) (o:=o) h (by rw[a];exact A) (.inl a) i l).1 (by rw[a];rfl) C;rw[a]at e;exact⟨_,_,_,_,_,_,_,_,h1,I,e⟩
           . cases I
         . rename_i gd a;split at I
           . cases I
           . rename_i g al;have p:o.guard=none\/∃t b y,o.guard=some (t,b)/\eY env t b=some y:=by rw[a];exact E8 al
             have m:g=cz env G o.guard:=by rw[a];exact DG h.al al
             have M:=N2 (P:=P) (o:=o) (xb:=xb) h A p i l;split at I
             . rename_i T;split at I
               . rename_i D;cases S:g with
                 |true=>
                  rw[S]at D m;simp at D;obtain⟨v1,bh,h1,e⟩:=M.1 m.symm D;have X:J'=J:=(Tl h.gO h.al h.dX A).age T;rw[X]at e;exact⟨_,_,_,_,_,_,_,_,h1,I,e⟩
                 |false=>
                  rw[S]at m;obtain⟨v1,h1,e⟩:=M.2 m.symm T;exact⟨_,_,_,_,_,_,_,_,h1,I,e⟩
               . cases I
             . split at I
               . rename_i K;split at I
                 . rename_i C;obtain⟨v1,bh,h1,e⟩:=M.1 (by rw[<-m];exact K) C;exact⟨_,_,_,_,_,_,_,_,h1,I,e⟩
                 . cases I
               . rename_i K;have H:cz env G o.guard=false:=by rw[<-m];simpa using K
                 have B:er key gl (gd::nf) env J env1 J1 G:=⟨h.gO,h.al,h.dX,λz w=>by
                  rcases dK.1 w with rfl|L
                  . grind
                  . exact h.aN z L⟩
                 have F:lo (gd::nf) o.dst=true:=by
                  cases E:o.dst with
                  |none=>rfl
                  |some d=>
                   rw[E]at l i;rw[a]at i;simp only[lo,lA,cK];simp only[lo]at l;simp only[ob,cK]at i;grind
                 obtain⟨h1,e⟩:=Dn (P:=P) B p H i F (Kk (U:=U) (N:=key+16) (J:=J));exact⟨_,_,_,_,_,_,_,_,h1,I,e⟩
theorem T3{fo:fm U}(N:fp P fo)(h:er key gl nf env J env1 J1 G){k:ek->jQ->bI U->a7 U->Option R}{r:R}(I:rV fo none o key gl nf env J k=some r)
 (bM:∀D X env' J' m bh ae,k D X env' J'=some r->er (key+16) D X env' J' m bh ae->K m bh):
 ∃e6 af,Conv kk key env1 J1 key e6 af/\xE P o key e6 af K:=by
 by_cases d:rV fo (some []) o key gl nf env J k=some r
 . obtain⟨g,v1,bh,D,X,env',J',ae,h1,an,ao⟩:=TV N h d;exact⟨env1,J1,Conv.refl,.inl (h1.hb (bM _ _ _ _ _ _ _ an ao))⟩
 . unfold rV at I d;split at I
   . grind
   . rename_i M;rw[M]at d;simp only[cK]at M;obtain⟨y,ah⟩:=M;split at I
     . grind
     . rename_i bc;rw[bc]at d;simp only at d;split at I
       . rename_i f args i;rw[i]at d;simp only at d;split at I
         . rename_i T;rw[T]at d;exact absurd I d
         rename_i T;rw[T]at d;unfold Kr at I d;split at I
         . rename_i n;rw[n]at I;obtain⟨env',J2,m,bh,j,B,aj,C,ak,⟨p,O,Q⟩,ag,E⟩:=DI (kk:=kk) (P:=P) N (f:=f) (cal:=λe vs=>∃p,hF e args=some (p,vs)/\p)
            (λhe al u=>by
             obtain⟨p,j,b1,b2,A⟩:=sP he al u
             exact⟨j,b2,p,b1,A rfl⟩) h.gO h.al h.dX (λs hs=>hs) I
           refine⟨m,bh,B,.inr ⟨by rw[n];rfl,f,j,.inl ⟨args,p,i,O,Q⟩,?_⟩⟩;intro av nt φ S a w F L ad W;refine(E av nt φ S a w F L ad W).mono ?_
           rintro e w' ⟨v,ab,a8,ba,s1,rfl,⟨ai,v3,k1,k2,k3,k4⟩,Y,Z,aa⟩
           refine⟨v,ab,a8,ba,s1,rfl,?_,Y,Z,aa⟩
           have H:=er.bind (gd:=none) (dst:=o.dst) (nf:=nf) k2 C k3 (λg al=>by
            obtain⟨t,b⟩:=g;have h0:=h.aN _ al;simp only[cz]at h0⊢
            grind) k4 (.inl rfl) (by rw[n]at y;exact y) ah
           exact bM _ _ _ _ _ _ _ k1 H
         grind
       . rename_i x args i;split at I
         . rename_i f caps az n aA;obtain⟨env',J2,m,bh,j,B,aj,C,ak,⟨q,p,l,z,aw,ax,O,Q,au⟩,ag,E⟩:=DI (kk:=kk) (P:=P) N (f:=f) (cal:=λe vs=>∃q p l z,x.get e=some (q,.c (.fn f l))/\q/\hF e args=some (p,z)/\p/\vs=z++l.map λb=>V.c (.ptr b 0))
            (λhe al u=>by
             split at u
             . rename_i ay l aB aC am;split at u
               . rename_i ap;have:=cL ap;subst this;cases u;obtain⟨q,v1,a1,a2,a3⟩:=b4 he al aC;have:=a2.Gj;subst this;obtain⟨p,j,b1,b2,A⟩:=sP he al am;refine⟨j++l.map λb=>V.c (.ptr b 0),b2.append ?_,q,p,l,j,a1,a3 rfl,b1,A rfl,rfl⟩;exact aV.map_map (aV.self (λb=>.c (.ptr b 0)) _)
               . cases u
             grind) h.gO h.al h.dX (λs hs=>hs) I
           refine⟨m,bh,B,.inr ⟨by rw[n];rfl,f,j,.inr ⟨x,args,q,p,l,z,i,aw,ax,O,Q,ag,au⟩,?_⟩⟩;intro av nt φ S a w F L ad W;refine(E av nt φ S a w F L ad W).mono ?_
           rintro e w' ⟨v,ab,a8,ba,s1,rfl,⟨ai,v3,k1,k2,k3,k4⟩,Y,Z,aa⟩
           refine⟨v,ab,a8,ba,s1,rfl,?_,Y,Z,aa⟩
           have H:=er.bind (gd:=none) (dst:=o.dst) (nf:=nf) k2 C k3 (λg al=>by
            obtain⟨t,b⟩:=g;have h0:=h.aN _ al;simp only[cz]at h0⊢
            grind) k4 (.inl rfl) (by rw[n]at y;exact y) ah
           exact bM _ _ _ _ _ _ _ k1 H
         . contradiction
         . cases I
       . rename_i op aq ar;exfalso;refine d ?_;split
         . rename_i f args i;exact absurd i (aq f args)
         . rename_i x args i;exact absurd i (ar x args)
         . exact I
theorem Z1{l:List (Nat×aD)}{p:bI U×a7 U}(h:Av l env J=some p):∃l,j' l env J=some p:=by
 grind[Av]
theorem ZP{p:bI U×a7 U}(h:GV gl o env J=some p):∃l,j' l env J=some p:=by
 grind[GV,Z1]
theorem XN{fo:fm U}(d:fp P fo)(h:er key gl nf env J env1 J1 G){k:ek->jQ->bI U->a7 U->Option R}{r:R}(I:E5 fo none o key gl nf env J k=some r)
 (bM:∀c e env' J' b bh f,k c e env' J'=some r->er (key+16) c e env' J' b bh f->K b bh):
 ∃e6 a,Conv kk key env1 J1 key e6 a/\xE P o key e6 a K:=by
 simp[E5]at I;split at I
 . exact T3 d h I bM
 . rename_i p ai;obtain⟨l,ae⟩:=ZP ai;obtain⟨aC,s1,i,j,m,n⟩:=vA ae h.gO h.dX
   obtain⟨q,s,d1,d2⟩:=T3 d ⟨j,n h.al,m,λg al=>by
    have h0:=h.aN _ al
    grind[cz,DI.PN]⟩ I bM
   exact⟨q,s,i.trans d1,d2⟩
end
end
section
open Go
variable {xb:aY}
variable {U:cF}{R:Type}
def jM(env:bI U):aO->Option aY
 |.const (.c (.t _))=>some []
 |.const (.c .bD)=>some []
 |.const (.agg _)=>some []
 |.const _=>none
 |.tmp k=>match aS env k with
  |some (.c (.ptr b _))=>some [b]
  |some (.c (.cA b _ _ _))=>some [b]
  |some (.c (.arr b))=>some [b]
  |some (.c (.sub b _ _))=>some [b]
  |some (.c (.pre b _))=>some [b]
  |some (.c (.dI b _ _))=>some [b]
  |some (.c (.mp b))=>some [b]
  |some (.c (.ei b))=>some [b]
  |some (.c (.cr b))=>some [b]
  |some (.c .dead)=>none
  |some _=>some []
  |none=>none
def zh:bd U->Bool
 |.dead=>true
 |_=>false
def zi:bA U->Option aY
 |.c x=>match zh x with
  |true=>none
  |false=>some x.e5
 |.agg cs=>match cs.any zh with
  |true=>none
  |false=>some (cs.flatMap bd.e5)
 |.aX _=>some []
def rR(env:bI U):List aO->Option aY
 |[]=>some []
 |.const v::r=>match rR env r with
  |some l=>some (v.e5++l)
  |none=>none
 |.tmp k::r=>match aS env k with
  |some v=>match zi v,rR env r with
   |some a,some l=>some (a++l)
   |_,_=>none
  |none=>none
def KB(xb:aY)(o:cH)(env:bI U)(key:Nat):Option aY:=
 match o with
 |.alloc _|.allocA _|.box _|.bslice .. |.mslice .. |.mkset=>some [key]
 |.allocS .. =>some [key,key+1]
 |.lkset x _=>jM env x
 |.upset x _=>jM env x
 |.appendB _ _ x _=>match jM env x with
  |some a=>some (key::a)
  |none=>none
 |.ustr _ x _=>jM env x
 |.call _ args=>match rR env args with
  |some l=>some ((List.range 16).map (key+·)++(l++xb))
  |none=>none
 |.load _ _ x=>jM env x
 |.b2s x=>jM env x
 |.store _ x _=>jM env x
 |.append _ _ _ x y=>match jM env x,jM env y with
  |some a,some b=>some (key::(a++b))
  |_,_=>none
 |_=>some []
def jN(xb:aY)(o:cH)(env:bI U)(key b:Nat):Option Bool:=
 match o with
 |.alloc _|.allocA _|.box _|.bslice .. |.mslice .. |.mkset=>some (Nat.beq b key)
 |.allocS .. =>some (Nat.beq b key||Nat.beq b (key+1))
 |.upset x _=>match jM env x with
  |some l=>some (l1 l b)
  |none=>none
 |.appendB _ _ x _=>match jM env x with
  |some l=>some (Nat.beq b key||l1 l b)
  |none=>none
 |.ustr _ x _=>match jM env x with
  |some l=>some (l1 l b)
  |none=>none
 |.store _ x _=>match jM env x with
  |some l=>some (l1 l b)
  |none=>none
 |.append _ _ _ x _=>match jM env x with
  |some l=>some (Nat.beq b key||l1 l b)
  |none=>none
 |.call _ args=>match rR env args with
  |some l=>some ((Nat.ble key b&&Nat.ble (b+1) (key+16))||l1 (l++xb) b)
  |none=>none
 |_=>some false
def As(xb:aY)(aZ:List bX)(env:bI U)(N:Nat):List (Nat×Nat)->Bool
 |[]=>true
 |(i,j)::r=>(match qC aZ i,qC aZ j with
  |some x,some y=>match KB xb y.op env (N+16*j)with
   |some l=>l.all λb=>match jN xb x.op env (N+16*i) b with
    |some w=>!w
    |none=>false
   |none=>false
  |_,_=>true)&&As xb aZ env N r
variable{o:cH}{gl:ek}{Q:Exit->Env->a6->Nat->Prop}
section
variable {P:Program}{kk N key:Nat}{J:a7 U}{J1:a6}{env:bI U}{env1:Env}{G:Nat->Bool}
theorem qL(he:cP N J G env env1){x:aO}{l:aY}(h:jM env x=some l):dT env1 x=l:=by
 unfold jM at h;split at h
 . cases h;rfl
 . cases h;rfl
 . cases h;rfl
 . grind
 . rename_i k;split at h
   all_goals (try (cases h;done))
   . rename_i b o d;obtain⟨v1,h1,a⟩:=he k _ d;have:=a.gT;grind[dT,aO.get]
   . rename_i b t i o d;obtain⟨v1,h1,a⟩:=he k _ d;have:=a.hE;grind[dT,aO.get]
   . rename_i b d;obtain⟨v1,h1,a⟩:=he k _ d;obtain⟨sz,n,rfl,_⟩:=a.gn;grind[dT,aO.get]
   . rename_i b f len d;obtain⟨v1,h1,a⟩:=he k _ d;have:v1= .c (.fA b 1 f len):=by cases a with|c h=>cases h;rfl
     grind[dT,aO.get]
   . rename_i b e d;obtain⟨v1,h1,a⟩:=he k _ d;have:∃sz,v1= .c (.arr b sz 0 e):=by cases a with|c h=>cases h;simp
     grind[dT,aO.get]
   . rename_i b f e d;obtain⟨v1,h1,a⟩:=he k _ d;have:∃sz,v1= .c (.fA b sz f e):=by cases a with|c h=>cases h;simp
     grind[dT,aO.get]
   . rename_i b d;obtain⟨v1,h1,a⟩:=he k _ d;have:=a.Cs;grind[dT,aO.get]
   . rename_i b d;obtain⟨v1,h1,a⟩:=he k _ d;have:=a.Re;grind[dT,aO.get]
   . rename_i b d;obtain⟨v1,h1,a⟩:=he k _ d;obtain⟨n,rfl,_⟩:=a.xz;grind[dT,aO.get]
   . rename_i v cI j m dV u g q r s p d;cases h;obtain⟨v1,h1,a⟩:=he k _ d;unfold dT;simp only[aO.get,h1,ly];cases a with
     |c a=>
      cases a<;>grind
     |agg a=>rfl
     |aX=>rfl
theorem vU{l:aY}{b:Nat}:l1 l b=l.contains b:=by
 unfold l1;rw[zB];simp
theorem S5{x:bd U}{d:C}(h:b5 N J x d)(a:zh x=false):d.e5=x.e5:=by
 cases h<;>first|rfl|(simp[zh]at a)
theorem T4:∀{xs:List (bd U)} {a:List C},aV (b5 N J) xs a->xs.any zh=false->a.flatMap C.e5=xs.flatMap bd.e5
 |[],[],_,_=>rfl
 |x::xs,d::a,.cons h1 c,b=>by
  simp only[List.any_cons,wM]at b;simp;rw[S5 h1 b.1,T4 c b.2]
theorem XO{v:bA U}{v1:V}{l:aY}(h:bL N J v v1)(ae:zi v=some l):v1.e5=l:=by
 cases h with
 |c h=>
  simp[zi]at ae;split at ae
  . grind
  . rename_i a;cases ae;exact S5 h a
 |agg h=>
  simp[zi]at ae;split at ae
  . grind
  . rename_i a;cases ae;exact T4 h a
 |aX=>simp only[zi,dy]at ae;rw[<-ae];rfl
theorem Dq(he:cP N J G env env1):∀{args:List aO} {l:aY},rR env args=some l->kS env1 args=l
 |[],l,h=>by simp[rR]at h;subst h;rfl
 |.const v::r,l,h=>by
  simp[rR]at h;split at h
  . rename_i d b;cases h;have ih:=Dq he b;simp[kS]at ih⊢;rw[ih];rfl
  grind
 |.tmp k::r,l,h=>by
  simp only[rR]at h;split at h
  . rename_i v c;split at h
    . rename_i a d f b;have ih:=Dq he b;obtain⟨v1,h1,e⟩:=he k v c;grind[kS,aO.get,XO]
    grind
  grind
theorem ZQ(he:cP N J G env env1){l:aY}(h:KB xb o env key=some l):dS xb o env1 key=l:=by
 cases o<;>simp[KB,dS]at h⊢<;>first|exact h|exact qL he h|skip
 . grind[qL]
 . grind[qL]
 grind[Dq]
theorem beq_eq(a b:Nat):(a==b)=Nat.beq a b:=by
 grind[cL,hP]
theorem ZR(he:cP N J G env env1){b:Nat}{w:Bool}(h:jN xb o env key b=some w):cy xb o env1 key b=w:=by
 cases o with
 |alloc cs=>simp[jN]at h;rw[<-h];exact beq_eq _ _
 |allocA cs=>simp[jN]at h;rw[<-h];exact beq_eq _ _
 |box x=>simp[jN]at h;rw[<-h];simp only[cy];exact beq_eq _ _
 |bslice a c d e=>simp only[jN,dy]at h;rw[<-h];simp only[cy];exact beq_eq _ _
 |mslice a c d e=>simp only[jN,dy]at h;rw[<-h];simp only[cy];exact beq_eq _ _
 |store n x y=>
  simp only[jN]at h;split at h
  . rename_i l ae;cases h;simp only[cy];rw[qL he ae,vU]
  . cases h
 |append te sz by' x y=>
  simp only[jN]at h;split at h
  . rename_i l ae;cases h;simp only[cy];rw[qL he ae,vU,beq_eq]
  . cases h
 |mkset=>grind[jN,cy,beq_eq]
 |allocS e e8=>grind[jN,cy,beq_eq]
 |upset x y=>
  simp only[jN]at h;split at h
  . rename_i l ae;cases h;simp only[cy];rw[qL he ae,vU]
  . cases h
 |ustr e x y=>
  grind[jN,cy,qL,vU]
 |appendB e by' x y=>
  grind[jN,cy,qL,vU,beq_eq]
 |call f args=>
  simp only[jN]at h;split at h
  . rename_i l ae;cases h;simp only[cy];rw[Dq he ae,vU]
    congr 1
    rw[zB];simp only[cK,e9,Nat.ble_eq];rfl
  grind
 |_=>simp only[jN,dy]at h;rw[<-h];rfl
theorem IY(he:cP N J G env env1){aZ:List bX}{a:Nat}:∀{eL:List (Nat×Nat)},As xb aZ env a eL=true->ko xb aZ env1 a eL=true
 |[],_=>rfl
 |(i,j)::r,h=>by
  simp[As]at h;simp[ko];refine⟨?_,IY he h.2⟩;grind[Ey,ZQ,ZR]
theorem Dc{fo:fm U}(d:fp P fo){k:ek->bI U->a7 U->Option R}{r:R}:∀{l:List bX} {key:Nat} {gl:ek} {nf:jQ} {env:bI U} {J:a7 U} {env1:Env} {J1:a6} {G:Nat->Bool} {K:Env->a6->Prop},
 er key gl nf env J env1 J1 G->n3 fo none l key gl nf env J k=some r->
 (∀b e env' J' a bh c,k b env' J'=some r->er (key+16*l.length) b e env' J' a bh c->K a bh)->nu P kk l key env1 J1 K
 |[],key,gl,nf,env,J,env1,J1,G,K,h,I,bM=>bM _ _ _ _ _ _ _ I h
 |o::l,key,gl,nf,env,J,env1,J1,G,K,h,I,bM=>by
  refine XN d h I λb e env' J' a bh c h1 i=>?_;refine Dc d i h1 λp m g n uR s f j q=>bM _ m g n _ _ f j ?_;grind
theorem IH{fo:fm U}(d:fp P fo){k:ek->bI U->a7 U->Option R}{r:R}:∀{l:List bX} {key:Nat} {gl:ek} {nf:jQ} {env:bI U} {J:a7 U} {env1:Env} {J1:a6} {G:Nat->Bool} {K:Env->a6->Prop},
 er key gl nf env J env1 J1 G->n3 fo (some xb) l key gl nf env J k=some r->
 (∀a e env' J' c bh b,k a env' J'=some r->er (key+16*l.length) a e env' J' c bh b->K c bh)->xF xb P l key env1 J1 K
 |[],key,gl,nf,env,J,env1,J1,G,K,h,I,bM=>bM _ _ _ _ _ _ _ I h
 |o::l,key,gl,nf,env,J,env1,J1,G,K,h,I,bM=>by
  simp[n3]at I;obtain⟨g,v1,bh,a,e,env',J',b,h1,j,m⟩:=TV d h (by simpa[E5]using I);refine⟨g,v1,bh,h1,IH d m j λs p i q uR t f n bj=>bM _ p i q _ _ f n ?_⟩;grind
theorem Jk:∀{env:bI U} {k:Nat} {v:bA U},aS (clean gl env) k=some v->aS env k=some v/\Co gl k=false
 |[],k,v,h=>by grind[clean,aS]
 |(i,w)::r,k,v,h=>by
  simp[clean]at h;split at h
  . obtain⟨h1,b⟩:=Jk h;grind[aS,cL]
  . simp[aS]at h⊢;cases a:Nat.beq i k with
    |true=>simp_all
    |false=>rw[a]at h;exact Jk h
theorem Z2{k:Nat}(h:Co gl k=false):aS gl k=none:=by
 induction gl with
 |nil=>rfl
 |cons e r ih=>
  grind[Co,aS]
theorem er.clean{nf:jQ}(h:er key gl nf env J env1 J1 G):cP key J (λ_=>true) (tE gl env) env1:=by
 intro k v a;have:aS env k=some v/\G k=true:=by
  unfold tE at a;split at a
  . exact⟨a,h.al.free k rfl⟩
  . obtain⟨h1,c⟩:=Jk a;exact⟨h1,h.al.free k (Z2 c)⟩
 obtain⟨v1,h1,c⟩:=h.gO k v this.1;grind
theorem er.begin(he:cP key J (λ_=>true) env env1)(aA:ck key J J1):er key [] [] env J env1 J1 (λ_=>true):=
 ⟨he,⟨λ_ _=>rfl,λk t b h=>by grind[aS]⟩,aA,λ_ h=>by grind⟩
end
structure iG where
 e:Exit
 sh:Shape
 own:List (Pos×aD)
 us:List aD
def ea(U:cF):List iG->Type
 |[]=>Empty
 |[a]=>aP U.D a.us
 |a::b::r=>aP U.D a.us ⊕ ea U (b::r)
structure gG (U:cF) where
 sh:Shape
 own:List (Pos×aD)
 ts:List aD
 outs:List iG
 F:aP U.D ts->Option (ea U outs)
def Ck:Exit->Exit->Bool
 |.normal,.normal=>true
 |.ret,.ret=>true
 |.exit i,.exit j=>Nat.beq i j
 |_,_=>false
theorem K9{a b:Exit}(h:Ck a b=true):a=b:=by
 cases a<;>cases b<;>simp[Ck]at h<;>try rfl
 grind
abbrev uA(U:cF)(R:Type):=Exit->bI U->a7 U->Nat->Option R
def fa:(outs:List iG)->ea U outs->Exit×bI U×a7 U×Nat
 |[],o=>Empty.elim o
 |[a],h=>(a.e,(fh U a.sh (aP.cells U.D a.us h)).1,(fh U a.sh (aP.cells U.D a.us h)).2,a.sh.st.length)
 |a::b::r,.inl h=>(a.e,(fh U a.sh (aP.cells U.D a.us h)).1,(fh U a.sh (aP.cells U.D a.us h)).2,a.sh.st.length)
 |a::b::r,.inr o=>fa (b::r) o
def agV{α c:Type}(o:α ⊕ c)(f:α->Option R)(g:c->Option R):Option R:=
 match o with
 |.inl a=>f a
 |.inr b=>g b
def ahz(k:uA U R)(a:iG):(r:List iG)->(ea U r->Option R)->ea U (a::r)->Option R
 |[],_=>λh=>k a.e (fh U a.sh (aP.cells U.D a.us h)).1 (fh U a.sh (aP.cells U.D a.us h)).2 a.sh.st.length
 |_::_,f=>λo=>agV o (λh=>k a.e (fh U a.sh (aP.cells U.D a.us h)).1 (fh U a.sh (aP.cells U.D a.us h)).2 a.sh.st.length) f
def Ax(k:uA U R):(outs:List iG)->ea U outs->Option R
 |[]=>λo=>Empty.elim o
 |a::r=>ahz k a r (Ax k r)
theorem N5(k:uA U R):∀{outs:List iG} {o:ea U outs},Ax k outs o=k (fa outs o).1 (fa outs o).2.1 (fa outs o).2.2.1 (fa outs o).2.2.2
 |[],o=>Empty.elim o
 |[a],h=>rfl
 |a::b::r,.inl h=>rfl
 |a::b::r,.inr o=>N5 k (outs:=b::r)
def oi(kk:Nat):(outs:List iG)->Exit->bI U->a7 U->Nat->Option (ea U outs)
 |[],_,_,_,_=>none
 |[a],e,env,J,N=>match Ck e a.e with
  |true=>lE kk a.own a.sh a.us env J N
  |false=>none
 |a::b::r,e,env,J,N=>match Ck e a.e with
  |true=>match lE (U:=U) kk a.own a.sh a.us env J N with
   |some h=>some (.inl h)
   |none=>none
  |false=>match oi kk (b::r) e env J N with
   |some o=>some (.inr o)
   |none=>none
abbrev kP(U:cF):=Nat->Option (gG U)
def f':dq->Nat
 |.seq a b=>f' a+f' b
 |.cond _ a b=>f' a+f' b
 |.block _ b=>f' b
 |.loop b=>f' b+1
 |_=>0
def afw(x:Bool)(a b:Option R):Option R:=if x then a else b
def bd.inner:fK->Bool
 |.ptr .. |.arr _=>true
 |_=>false
def adX:dh->Bool
 |.box cs=>cs.any bd.inner
 |_=>false
def afy:cx U->aY
 |.box cs=>cs.flatMap bd.e5
 |.rows _ r=>r.flatMap λcs=>cs.flatMap bd.e5
 |.b3 _ c=>c.e5
 |.cw _ _ _ _ c=>c.e5
 |_=>[]
def PU(fo:fm U)(J:a7 U)(ops:List bX):aY:=
 match ops.any λo=>match o.op with
  |.call f _=>(fo f).any λs=>s.st.any adX
  |_=>false with
 |true=>J.flatMap λp=>afy p.2
 |false=>[]
def Jl(ops:List bX)(eL:List (Nat×Nat)):Option (List bX×bX):=
 match E4 ops.length eL,ops.getLast? with
 |true,some o=>match o.op,o.guard with
  |.call ..,none=>some (ops.dropLast,o)
  |.h6 ..,none=>some (ops.dropLast,o)
  |_,_=>none
 |_,_=>none
theorem XP{ops:List bX}{eL:List (Nat×Nat)}{init:List bX}{last:bX}(h:Jl ops eL=some (init,last)):ops=init++[last]/\E4 (init.length+1) eL=true:=by
 unfold Jl at h;split at h
 . grind[List.getLast?_eq_some_iff]
 grind
def acV(t:Nat)(o:bX):Bool:=match o.op with
 |.build _ ps=>ps.any λp=>match p.2.2 with
  |.tmp k=>Nat.beq k t
  |_=>false
 |_=>false
def xU(t:aD)(ops:List bX)(env:bI U)(J:a7 U):List bX->List (Nat×aD)
 |[]=>[]
 |o::r=>match o.op,o.dst with
  |.mov (.tmp s),some d=>match aS env s with
   |some (.c (.arr b))=>match ops.any (acV d),xh b t env J with
    |true,some _=>(b,t)::xU t ops env J r
    |_,_=>xU t ops env J r
   |_=>xU t ops env J r
  |_,_=>xU t ops env J r
def afq(ops:List bX)(env:bI U)(J:a7 U):List (Nat×aD):=match U.cb with
 |none=>[]
 |some t=>xU t ops env J ops
def j9(fo:fm U)(d:kP U)(kk:Nat):dq->Nat->bI U->a7 U->Nat->uA U R->Option R
 |.skip,_,env,J,N,k=>k .normal env J N
 |.ret,_,env,J,N,k=>k .ret env J N
 |.exit i,_,env,J,N,k=>k (.exit i) env J N
 |.region ops,_,env,J,N,k=>n3 fo none ops N [] [] env J λgl env J=>Fl (tE gl env) J (N+16*ops.length) λenv J N=>k .normal env J N
 |.om ops eL,_,env,J,N,k=>match Jl ops eL with
  |some (init,last)=>n3 fo (some []) init N [] [] env J λgl env J=>match As [] init env N eL with
   |true=>n3 fo none [last] (N+16*init.length) gl [] env J λgl env J=>k .normal (tE gl env) J (N+16*init.length+16)
   |false=>none
  |none=>match j' (afq ops env J) env J with
   |some (env,J)=>n3 fo (some (PU fo J ops)) ops N [] [] env J λgl env' J'=>match As (PU fo J ops) ops env' N eL with
    |true=>Fl (tE gl env') J' (N+16*ops.length) λenv J N=>k .normal env J N
    |false=>none
   |none=>none
 |.seq a b,pos,env,J,N,k=>j9 fo d kk a pos env J N λe env J N=>match e with
  |.normal=>j9 fo d kk b (pos+f' a) env J N k
  |e=>k e env J N
 |.cond c a b,pos,env,J,N,k=>match c3 [] none env c with
  |some (.c (.t ⟨.bool,x⟩))=>afw x (j9 fo d kk a pos env J N k) (j9 fo d kk b (pos+f' a) env J N k)
  |_=>none
 |.block id b,pos,env,J,N,k=>j9 fo d kk b pos env J N λe env J N=>match e with
  |.exit i=>match Nat.beq i id with
   |true=>k .normal env J N
   |false=>k (.exit i) env J N
  |e=>k e env J N
 |.loop b,pos,env,J,N,k=>match Nat.ble pos 999 with
  |false=>none
  |true=>match d pos with
   |none=>none
   |some L=>match lE kk L.own L.sh L.ts env J N with
    |some h=>(L.F h)>>=λo=>Ax k L.outs o
    |none=>match d (pos+1000)with
     |none=>none
     |some L=>match lE kk L.own L.sh L.ts env J N with
      |none=>none
      |some h=>(L.F h)>>=λo=>Ax k L.outs o
section
variable {P:Program}{nt kk N:Nat}{env:bI U}{J:a7 U}{env1:Env}{J1:a6}
def uj(kk:Nat)(Q:Exit->Env->a6->Nat->Prop):Prop:=∀e N env J N' env' J',Conv kk N env J N' env' J'->Q e env' J' N'->Q e env J N
def mo(P:Program)(nt kk:Nat)(b:dq)(sh:Shape)(ts:List aD)(outs:List iG)(h:aP U.D ts)(o:ea U outs):Prop:=
 ∀env1 J1,cP sh.st.length (fh U sh (aP.cells U.D ts h)).2 (λ_=>true) (fh U sh (aP.cells U.D ts h)).1 env1->ck sh.st.length (fh U sh (aP.cells U.D ts h)).2 J1->kk<=sh.st.length->
  ∀Q,uj kk Q->(∀a bh,cP (fa outs o).2.2.2 (fa outs o).2.2.1 (λ_=>true) (fa outs o).2.1 a->ck (fa outs o).2.2.2 (fa outs o).2.2.1 bh->kk<=(fa outs o).2.2.2->Q (fa outs o).1 a bh (fa outs o).2.2.2)->
   mi P nt kk b env1 J1 sh.st.length Q
def ur(P:Program)(nt kk:Nat)(a:dq)(L:gG U):Prop:=
 ∀h o,L.F h=some o->mo P nt kk a L.sh L.ts L.outs h o
def fX(P:Program)(nt kk:Nat)(c:kP U):Nat->dq->Prop
 |pos,.seq a b=>fX P nt kk c pos a/\fX P nt kk c (pos+f' a) b
 |pos,.cond _ a b=>fX P nt kk c pos a/\fX P nt kk c (pos+f' a) b
 |pos,.block _ b=>fX P nt kk c pos b
 |pos,.loop b=>∀L,pos<=999->(c pos=some L\/c (pos+1000)=some L)->ur P nt kk b L
 |_,_=>True
theorem uj.andThen{next:Env->a6->Nat->Prop}(h:uj kk Q)(aN:∀N env J N' env' J',Conv kk N env J N' env' J'->next env' J' N'->next env J N):uj kk (andThen next Q):=by
 intro e N env J N' env' J' a c;cases e with
 |normal=>exact aN _ _ _ _ _ _ a c
 |_=>exact h _ _ _ _ _ _ _ a c
theorem qF{fo:fm U}(s:fp P fo){B:kP U}:∀{c:dq} {pos:Nat} {env:bI U} {J:a7 U} {N:Nat} {k:uA U R} {r:R} {env1:Env} {J1:a6} {Q:Exit->Env->a6->Nat->Prop},
 fX P nt kk B pos c->j9 fo B kk c pos env J N k=some r->cP N J (λ_=>true) env env1->ck N J J1->kk<=N->uj kk Q->
 (∀e env' J' N' q bh,k e env' J' N'=some r->cP N' J' (λ_=>true) env' q->ck N' J' bh->kk<=N'->Q e q bh N')->ch P nt kk c env1 J1 N Q
 |.skip,pos,env,J,N,k,r,env1,J1,Q,ae,I,he,aA,m,j,d=>ch.skip (d _ _ _ _ _ _ I he aA m)
 |.ret,pos,env,J,N,k,r,env1,J1,Q,ae,I,he,aA,m,j,d=>ch.ret (d _ _ _ _ _ _ I he aA m)
 |.exit i,pos,env,J,N,k,r,env1,J1,Q,ae,I,he,aA,m,j,d=>ch.exit (d _ _ _ _ _ _ I he aA m)
 |.region ops,pos,env,J,N,k,r,env1,J1,Q,ae,I,he,aA,m,j,d=>
  ch.agt (Dc s (er.begin he aA) I λH M env' J' q bh E h1 f=>by
   obtain⟨G,T,W,uR,S,g1,g2,g3,g4,ab⟩:=TY h1 f.clean f.dX (show kk<=_ by omega)
   exact j _ _ _ _ _ _ _ g2 (d _ _ _ _ _ _ g1 g3 g4 (by omega)))
 |.om ops eL,pos,env,J,N,k,r,env1,J1,Q,ae,I,he,aA,m,j,d=>by
  simp only[j9]at I;split at I
  . rename_i init last aj;obtain⟨rfl,ak⟩:=XP aj;refine ch.agu ak (IH s (er.begin he aA) I λH M env' J' q bh E h1 f=>?_);split at h1
    . rename_i n;refine⟨IY f.gO n,Dc s (l:=[last]) (nf:=[]) ⟨f.gO,f.al,f.dX,λg al=>by grind⟩ h1 λau av G T uR S an u v=>d _ _ _ _ _ _ u v.clean v.dX (by omega)⟩
    grind
  . split at I
    . rename_i e6 ap ah;obtain⟨FR,aw,ag,he,aA,_⟩:=vA (kk:=kk) (gl:=[]) ah he aA;refine ch.conv ag (ch.om (IH s (er.begin he aA) I λH M env' J' q bh E h1 f=>?_));split at h1
      . rename_i n;obtain⟨G,T,W,uR,S,g1,g2,g3,g4,ab⟩:=TY h1 f.clean f.dX (show kk<=_ by omega);exact⟨IY f.gO n,j _ _ _ _ _ _ _ g2 (d _ _ _ _ _ _ g1 g3 g4 (by omega))⟩
      grind
    . cases I
 |.seq a b,pos,env,J,N,k,r,env1,J1,Q,ae,I,he,aA,m,j,d=>by
  refine ch.seq (qF s ae.1 I he aA m (j.andThen λN env J N' env' J' n h=>ch.conv n h) λe env' J' N' q bh h1 f u v=>?_);cases e with
  |normal=>exact qF s ae.2 h1 f u v j d
  |_=>exact d _ _ _ _ _ _ h1 f u v
 |.cond c a b,pos,env,J,N,k,r,env1,J1,Q,ae,I,he,aA,m,j,d=>by
  simp only[j9]at I;split at I
  . rename_i x n;have al:gC [] env (λ_=>true):=⟨λ_ _=>rfl,λk t b h=>by grind[aS]⟩
    obtain⟨p,v1,a1,a2,a3⟩:=b4 he al n;have:=a2.iZ;subst this;refine ch.cond a1 (a3 rfl) (λw=>?_) (λw=>?_)
    . subst w;exact qF s ae.1 I he aA m j d
    . subst w;exact qF s ae.2 I he aA m j d
  grind
 |.block id b,pos,env,J,N,k,r,env1,J1,Q,ae,I,he,aA,m,j,d=>by
  refine ch.block (qF s ae I he aA m ?_ λe env' J' N' q bh h1 f u v=>?_)
  . intro e N env J N' env' J' n z;cases e with
    |exit i=>
     simp only[inBlock]at z⊢;split at z
     . rename_i C;rw[ad C];exact j _ _ _ _ _ _ _ n z
     . rename_i C;rw[ao C];exact j _ _ _ _ _ _ _ n z
    |_=>exact j _ _ _ _ _ _ _ n z
  . cases e with
    |exit i=>
     simp only[inBlock];simp only at h1;split at h1
     . rename_i w;rw[ad (cL w)];grind
     . rename_i w;rw[ao (hP w)];grind
    |_=>exact d _ _ _ _ _ _ h1 f u v
 |.loop b,pos,env,J,N,k,r,env1,J1,Q,ae,I,he,aA,m,j,d=>by
  have O:∀(L:gG U) (h:aP U.D L.ts),(pos<=999/\(B pos=some L\/B (pos+1000)=some L))->lE kk L.own L.sh L.ts env J N=some h->((L.F h)>>=λo=>Ax k L.outs o)=some r->ch P nt kk (.loop b) env1 J1 N Q:=by
   intro L h A y I;obtain⟨o,am,K⟩:=jF.1 I;rw[N5]at K;obtain⟨q,bh,X,Y,Z,aa⟩:=v7 y he aA m;exact ch.conv X (ch.afF (ae L A.1 A.2 h o am q bh Y Z aa Q j λar aq h1 f u=>d _ _ _ _ _ _ K h1 f u))
  simp only[j9]at I;split at I
  . cases I
  . rename_i ai;have ai:=gK ai;split at I
    . cases I
    . rename_i L A;split at I
      . rename_i h y;exact O L h ⟨ai,.inl A⟩ y I
      . split at I
        . cases I
        . rename_i V af;split at I
          . cases I
          . rename_i h y;exact O V h ⟨ai,.inr af⟩ y I
theorem mo.QU {fo:fm U}(S:fp P fo){M:kP U}{v:dq}{sh:Shape}{own:List (Pos×aD)}{ts:List aD}{outs:List iG}{h:aP U.D ts}{o:ea U outs}{F:aP U.D ts->Option (ea U outs)}
 (X:fX P nt kk M 0 v)(O:∀h o,F h=some o->mo P nt kk v sh ts outs h o)
 (I:j9 fo M kk v 0 (fh U sh (aP.cells U.D ts h)).1 (fh U sh (aP.cells U.D ts h)).2 sh.st.length (λe env J N=>match e with
  |.normal=>match lE kk own sh ts env J N with
   |some y=>F y
   |none=>none
  |e=>oi kk outs e env J N)=some o):mo P nt kk v sh ts outs h o:=by
 intro env1 J1 he aA q Q A W;refine mi.round (qF S X I he aA q (A.andThen λN env J N' env' J' R h=>mi.conv R h) λe env' J' N' x bh h1 H K L=>?_);have t:∀w,w=e->w≠.normal->oi kk _ w env' J' N'=some o->Q e x bh N':=by
  intro w Z ae ai;obtain⟨aC,s1,c,f,j,p,G⟩:=GQ ai H K L;exact A _ _ _ _ _ _ _ c (by grind)
 cases e with
 |normal=>
  simp at h1;split at h1
  . rename_i y E;obtain⟨aC,s1,c,f,j,p⟩:=v7 E H K L;exact mi.conv c (O y o h1 aC s1 f j p Q A W)
  grind
 |exit i=>exact t _ rfl (by simp) h1
 |ret=>exact t _ rfl (by simp) h1
 |goto l=>exact t _ rfl (by simp) h1
 |panic kX=>exact t _ rfl (by simp) h1
 |outgrown=>exact t _ rfl (by simp) h1
where
 GQ {N:Nat} {env:bI U} {J:a7 U} {env1:Env} {J1:a6}:∀ {outs:List iG} {e:Exit} {o:ea U outs},oi kk outs e env J N = some o->cP N J (λ_=>true) env env1->ck N J J1->kk<=N->
  ∃x bh,Conv kk N env1 J1 (fa outs o).2.2.2 x bh/\cP (fa outs o).2.2.2 (fa outs o).2.2.1 _ (fa outs o).2.1 x/\ck (fa outs o).2.2.2 (fa outs o).2.2.1 bh/\kk<=(fa outs o).2.2.2/\e=(fa outs o).1
  |[],e,o,h,_,_,_=>by grind[oi]
  |[a],e,o,h,he,aA,q=>by
   simp[oi]at h;split at h
   . rename_i B;obtain⟨aC,s1,c,f,j,p⟩:=v7 h he aA q;exact⟨aC,s1,c,f,j,p,K9 B⟩
   grind
  |a::b::r,e,o,h,he,aA,q=>by
   simp only[oi]at h;split at h
   . rename_i B;split at h
     . rename_i ab E;cases h;obtain⟨aC,s1,c,f,j,p⟩:=v7 E he aA q;exact⟨aC,s1,c,f,j,p,K9 B⟩
     grind
   . split at h
     . rename_i ag Y;cases h;obtain⟨aC,s1,c,f,j,p,G⟩:=GQ Y he aA q;exact⟨aC,s1,c,f,j,p,G⟩
     grind
end
end
open Go
variable {U:cF}{R:Type}
def nk:Nat->List (bA U)->bI U
 |_,[]=>[]
 |i,v::vs=>(i,v)::nk (i+1) vs
def Kl(env:bI U)(J:a7 U):iV->Option (bA U)
 |.tmp t=>aS env t
 |.cell t g k=>match aS env t with
  |some (.c (.ptr b o))=>match aS J b with
   |some (.box cs)=>pn g k cs o
   |_=>none
  |_=>none
def vV(env:bI U)(J:a7 U):List iV->Option (List (bA U))
 |[]=>some []
 |r::a=>match Kl env J r,vV env J a with
  |some v,some vs=>some (v::vs)
  |_,_=>none
def KA:List (bA U)->bA U
 |[]=>.aX []
 |[v]=>v
 |v::w::vs=>.aX (v::w::vs)
def Az(kk:Nat)(c:List iV)(dX:du)(dE:List dh)(us:List aD)(env:bI U)(J:a7 U):Option (aP U.D us):=
 match vV env J c with
 |none=>none
 |some vs=>match wT J kk 0 dE (Hu dX (KA vs) ([],[])) []with
  |(bs,d)=>match j' d env J with
   |none=>none
   |some (env',J')=>match vV env' J' c with
    |none=>none
    |some e=>match tD bs&&(keeps kk bs&&Nat.beq bs.length dE.length)with
     |false=>none
     |true=>match jy bs dX (KA e),iI bs J' 0 dE with
      |some a,some b=>aP.dec U.D us (a++b)
      |_,_=>none
def RZ(kk:Nat)(a:List iV)(dX:du)(dE:List dh)(us:List aD):uA U (aP U.D us)
 |.normal,env,J,_=>Az kk a dX dE us env J
 |.ret,env,J,_=>Az kk a dX dE us env J
 |_,_,_,_=>none
variable{Q:Exit->Env->a6->Nat->Prop}{nt kk f:Nat}{p:aY}
section
variable {P:Program}{nt kk N:Nat}{env:bI U}{J:a7 U}{env1:Env}{J1:a6}
def r4(kk:Nat)(Q:Exit->Env->a6->Nat->Prop):Exit->Env->a6->Nat->Prop:=
 λe env J N=>∃N' env' J',Conv kk N env J N' env' J'/\Q e env' J' N'
theorem r4.PQ:uj kk (r4 kk Q):=
 λe N env J N' env' J' h ⟨a,c,o,f,j⟩=>⟨a,c,o,h.trans f,j⟩
variable{c:dq}
theorem ch.Rn{env:Env}{J:a6}(h:ch P nt kk c env J N (r4 kk Q)):ch P nt kk c env J N Q:=
 λcode v av φ S a w f R=>wp_mono (h _ v av φ S a w f R) λe a w ⟨a8,ba,env',J',N',⟨j,q,y,t,x⟩,R'⟩=>
  let⟨A,p,o⟩:=t av nt _ ba a w f R';⟨A,p,q,y,j,x,o⟩
theorem X0(he:cP N J (λ_=>true) env env1)(aA:ck N J J1){a:iV}{v:bA U}(h:Kl env J a=some v):∃p v1,tC env1 J1 a=some (p,v1)/\p/\bL N J v v1:=by
 cases a with
 |tmp t=>
  obtain⟨v1,h1,c⟩:=he t v h;exact⟨True,v1,by grind[tC],trivial,c⟩
 |cell t g k=>
  simp[Kl]at h;split at h
  . rename_i b o i;split at h
    . rename_i cs f;obtain⟨v1,h1,c⟩:=he t _ i;have:=c.gT;obtain⟨_,y,l,d⟩:=aA b _ f;cases d with
      |box d=>
       obtain⟨j,bj,e⟩:=sL d h;exact⟨True,j,by grind[tC],trivial,e⟩
    grind
  grind
theorem SP(he:cP N J (λ_=>true) env env1)(aA:ck N J J1):∀{b:List iV} {vs:List (bA U)},vV env J b=some vs->∃p a,pj env1 J1 b=some (p,a)/\p/\aV (bL N J) vs a
 |[],vs,h=>by simp[vV]at h;subst h;exact⟨_,[],rfl,trivial,.nil⟩
 |r::e,vs,h=>by
  simp[vV]at h;split at h
  . rename_i v f h1 d;cases h;obtain⟨p,v1,a1,a2,a3⟩:=X0 he aA h1;obtain⟨q,a,b1,b2,c⟩:=SP he aA d;exact⟨p/\q,v1::a,by grind[pj],⟨a2,b2⟩,.cons a3 c⟩
  grind
theorem YQ{vs:List (bA U)}{c:List V}(h:aV (bL N J) vs c):bL N J (KA vs) (ma c):=by
 cases h with
 |nil=>exact .aX [] [] rfl (by simp)
 |cons h1 a=>
  cases a with
  |nil=>exact h1
  |cons a b=>
   refine .aX _ _ (by simp[b.length]) λi x d I g=>?_;obtain⟨e,aC,f⟩:=(aV.cons h1 (.cons a b)).get I;grind
def AI(s:ca U)(r:aP U.D s.us):V->a6->Nat->Prop:=λa bh N'=>N'=s.dE.length/\bL N' (s.rest r) (s.res r) a/\ck N' (s.rest r) bh
theorem YR{e:List iV}{s:ca U}{r:aP U.D s.us}(h:Az kk e s.dX s.dE s.us env J=some r)(he:cP N J (λ_=>true) env env1)(aA:ck N J J1):
 ∃j bh,Conv kk N env1 J1 N j bh/\∃p d,pj j bh e=some (p,d)/\p/\
  ∃bs c J2,bs.Nodup/\keeps kk bs=true/\gm ((ma d).bN bs) c/\r6 (fu bs bh 0 bs) J2/\AI s r c J2 bs.length:=by
 unfold Az at h;split at h
 . grind
 . split at h;rename_i bs B _;split at h
   . grind
   . rename_i env' J' v;obtain⟨aC,s1,m,n,i,_⟩:=vA (kk:=kk) (gl:=[]) v he aA;split at h
     . grind
     . rename_i E x;split at h
       . grind
       . rename_i k;simp only[cK]at k;obtain⟨q,t,u⟩:=k;have bV:=yy q;have w:=cL u;split at h
         . rename_i a b o l;obtain⟨p,d,d1,d2,d3⟩:=SP n i x;obtain⟨y,f,g⟩:=FO bV (zf bV l) o;obtain⟨c,g1,g2⟩:=g _ (YQ d3);obtain⟨z,t1,t2⟩:=Eh bV i l;have C:=aP.mL h;have aC:s.res r=y:=(by grind[ca.res]);have A:s.rest r=hj 0 s.dE b:=(by grind[ca.rest]);exact⟨_,_,m,p,d,d1,d2,bs,c,z,bV,t,g1,t1,w,by grind,by grind⟩
         grind
def uo(P:Program)(s:ca U)(h:aP U.D s.ts)(r:aP U.D s.us):Prop:=
 ∀(a:List V) J1,aV (bL s.st.length (s.il h)) (s.args h) a->ck s.st.length (s.il h) J1->d' P s.f a J1 s.st.length (AI s r)
theorem hN.of{s:ca U}(h:∀h r,s.F h=some r->uo P s h r):hN P s:=h
theorem uo.GN {s:ca U}{fn:Func}{c:dq}{j:List iV}{fo:fm U}{A:kP U}(Y:P.funcs[s.f]?=some fn)(R:fn.body.bind (resolve P fn.ntmps)=some c)(an:h2 P fn.results.toList=some j)(aN:Nat.ble s.eK.length fn.ntmps=true)
 (Z:fp P fo)(am:fX P fn.ntmps s.st.length A 0 c)
 {h:aP U.D s.ts}{r:aP U.D s.us}(I:Fi s.st.length (s.il h) (λJ N=>j9 fo A s.st.length c 0 (nk 0 (s.args h)) J N (RZ s.st.length j s.dX s.dE s.us))=some r):uo P s h r:=by
 intro q J1 Q aA;have ag:q.length<=fn.ntmps:=by
  rw[<-Q.length];refine fQ (tJ ?_) (gK aN);exact Qt
 have S:cP s.st.length (s.il h) (λ_=>true) (nk 0 (s.args h)) (e6 0 q):=by
  intro k v aZ;have key:∀{xs:List _} {o:List V} {i:Nat},aV (bL s.st.length (s.il h)) xs o->aS (nk i xs) k=some v->∃v1,look (e6 i o) k=some (true,v1)/\bL s.st.length (s.il h) v v1:=by
   intro xs;induction xs with
   |nil=>grind[nk,aS]
   |cons x xs ih=>
    intro o i av y;cases av with
    |cons h1 w=>
     simp[nk,aS]at y;simp[e6,look];split at y
     . simp_all
     simp_all[ao,hP]
  grind
 obtain⟨ax,Nm,aE,I,K,X,O,ae⟩:=YN I S aA;refine d'.tidy (d'.mk Y R an rfl ag (ch.conv K (ch.Rn (qF Z am I X O ae r4.PQ λe env' J' N' L bh h1 w M aF=>?_)))) (λB s1 G ab=>ab)
 . have t:Az s.st.length j s.dX s.dE s.us env' J'=some r->(e= .normal\/e= .ret)->r4 s.st.length (Fz j λB s1 G=>∃bs E J2,bs.Nodup/\keeps s.st.length bs=true/\gm (B.bN bs) E/\r6 (fu bs s1 0 bs) J2/\AI s r E J2 bs.length) e L bh N':=by
    intro ap W;obtain⟨aC,s1,H,p,F,d1,d2,rest⟩:=YR ap w M;refine⟨N',aC,s1,H,?_⟩;rcases W with rfl|rfl
    . exact⟨p,F,d1,d2,rest⟩
    . exact⟨p,F,d1,d2,rest⟩
   cases e with
   |normal=>exact t h1 (.inl rfl)
   |ret=>exact t h1 (.inr rfl)
   |_=>cases h1
where
 Qt:∀{ss:List du} {a:ep U},(jD ss a).1.length=ss.length
  |[],a=>rfl
  |s::ss,a=>by
   simp[jD];have:=Qt (ss:=ss) (a:=(l0 s a).2);grind
def hR:dq->Nat->Option dq
 |.seq a b,q=>match Nat.ble (f' a) q with
  |true=>hR b (q-f' a)
  |false=>hR a q
 |.cond _ a b,q=>match Nat.ble (f' a) q with
  |true=>hR b (q-f' a)
  |false=>hR a q
 |.block _ b,q=>hR b q
 |.loop b,q=>match q with
  |0=>some b
  |q+1=>hR b q
 |_,_=>none
def wi(q:Nat):Nat:=match Nat.ble q 999 with
 |true=>q
 |false=>q-1000
theorem fX.of{j:kP U}:∀{c:dq} {pos:Nat},(∀q b L,hR c q=some b->pos+q<=999/\(j (pos+q)=some L\/j (pos+q+1000)=some L)->ur P nt kk b L)->fX P nt kk j pos c
 |.seq a b,pos,h=>by
  refine⟨fX.of λq e L h1 f=>h q e L ?_ f,fX.of λq e L h1 f=>h (f' a+q) e L ?_ (by grind)⟩
  . simp[hR];cases p:Nat.ble _ q with
    |true=>exact absurd (rl h1) (by simp_all)
    |false=>grind
  . simp[hR];have:Nat.ble (f' a) (f' a+q)=true:=(by simp);grind
 |.cond c a b,pos,h=>by
  refine⟨fX.of λq e L h1 f=>h q e L ?_ f,fX.of λq e L h1 f=>h (f' a+q) e L ?_ (by grind)⟩
  . simp only[hR];cases p:Nat.ble (f' a) q with
    |true=>exact absurd (rl h1) (by simp_all)
    |false=>grind
  . simp only[hR];have:Nat.ble (f' a) (f' a+q)=true:=(by simp);grind
 |.block id b,pos,h=>fX.of (c:=b) h
 |.loop b,pos,h=>λL ai o=>h 0 b L rfl ⟨ai,o⟩
 |.skip,pos,h=>trivial
 |.region _,pos,h=>trivial
 |.om _ _,pos,h=>trivial
 |.exit _,pos,h=>trivial
 |.ret,pos,h=>trivial
where
 rl:∀{c:dq} {q:Nat} {b:dq},hR c q=some b->q<f' c
  |.seq a b,q,e,h=>by
   simp[hR]at h;simp[f'];split at h
   . have:=rl h;grind
   . have:=rl h;omega
  |.cond _ a b,q,e,h=>by
   simp only[hR]at h;simp only[f'];split at h
   . have:=rl h;grind
   . have:=rl h;omega
  |.block _ b,q,e,h=>rl (c:=b) h
  |.loop b,0,e,h=>by simp[f']
  |.loop b,q+1,e,h=>by have:=rl (c:=b) h;grind[f']
  |.skip,q,e,h=>by grind[hR]
  |.region _,q,e,h=>by grind[hR]
  |.om _ _,q,e,h=>by grind[hR]
  |.exit _,q,e,h=>by grind[hR]
  |.ret,q,e,h=>by grind[hR]
theorem fX.QQ{o:kP U}(h:∀q L,o q=some L->ur P nt kk ((hR c (wi q)).getD .skip) L):fX P nt kk o 0 c:=
 fX.of λq b L h1 a=>by
  rw[gx]at a;obtain⟨a,f|f⟩:=a
  . have:=h q L f;have e:wi q=q:=by
     unfold wi;split
     . rfl
     . rename_i j;exact absurd (Nat.ble_eq_true_of_le a) (by simp[j])
    rw[e,h1]at this;exact this
  . have:=h (q+1000) L f;have e:wi (q+1000)=q:=by
     unfold wi;split
     . rename_i j;have:=gK j;omega
     . omega
    rw[e,h1]at this;exact this
theorem fX.none:fX P nt kk (λ_=>none:kP U) 0 c:=fX.QQ λq L h=>by grind
theorem fp.none:fp P (λ_=>[]:fm U):=λf s h=>by grind
end
open Go
def J3(P:Program)(fn:Func):dq:=
 match fn.body.bind (Shv.resolve P fn.ntmps)with
 |some c=>c
 |none=>.skip
def wj(c:dq)(q:Nat):dq:=(hR c (wi q)).getD .skip
def gP{U:cF}:List (ca U)->fm U
 |[],_=>[]
 |s::l,f=>match Nat.beq s.f f with
  |true=>s::gP l f
  |false=>gP l f
def kx{U:cF}(l:List (Nat×gG U)):kP U:=λq=>aS l q
theorem fp.nil{U:cF}{P:Program}:fp P (gP ([]:List (ca U))):=λf s h=>by grind[gP]
theorem fp.cons{U:cF}{P:Program}{s:ca U}{l:List (ca U)}(c:gL P s.f=true)(hs:hN P s)(h:fp P (gP l)):fp P (gP (s::l)):=by
 intro f t ht;simp[gP]at ht;split at ht
 . rename_i a;have:=cL a;rcases dK.1 ht with rfl|ht
   . grind
   . exact h f t ht
 . exact h f t ht
def iX{U:cF}(P:Program)(nt kk:Nat)(c:dq)(l:List (Nat×gG U)):Prop:=∀q L,aS l q=some L->ur P nt kk (wj c q) L
theorem iX.nil{U:cF}{P:Program}{nt kk:Nat}{c:dq}:iX P nt kk c ([]:List (Nat×gG U)):=λq L h=>by grind[aS]
theorem iX.cons{U:cF}{P:Program}{nt kk:Nat}{c:dq}{q:Nat}{L:gG U}{l:List (Nat×gG U)}(j:ur P nt kk (wj c q) L)(h:iX P nt kk c l):iX P nt kk c ((q,L)::l):=by
 intro f e a;simp[aS]at a;split at a
 . simp_all
 . exact h f e a
theorem iX.snd{U:cF}{P:Program}{c:dq}{l:List (Nat×gG U)}(h:iX P nt kk c l):fX P nt kk (kx l) 0 c:=fX.QQ λq L a=>h q L a
def aT(k:IntKind)(a b:Int):Int:=k.wrap (a+b)
def dY(k:IntKind)(a b:Int):Int:=k.wrap (a-b)
def ky(k:IntKind)(a b:Int):Int:=k.wrap (a*b)
def iC(k:IntKind)(a b:Int):Int:=k.wrap (a.tdiv b)
def cd(a b:Int):Int:=a.tmod b
def AN(k:IntKind)(a b:Int):Int:=k.wrap (BitVec.ofInt k.bits a &&& BitVec.ofInt k.bits b).toNat
def rD(k:IntKind)(a b:Int):Int:=k.wrap (BitVec.ofInt k.bits a ||| BitVec.ofInt k.bits b).toNat
def ud(k:IntKind)(a b:Int):Int:=k.wrap (BitVec.ofInt k.bits a ^^^ BitVec.ofInt k.bits b).toNat
def ni(k:IntKind)(a b:Int):Int:=k.wrap (a*2^min b.toNat k.bits)
def lC(k:IntKind)(a b:Int):Int:=a.fdiv (2^min b.toNat k.bits)
open Go
variable {U:cF}
structure fV where
 q:Nat
 sh:Shape
 own:List (Pos×aD)
 EI:List (Pos×aD)
 ts:List aD
 outs:List iG
 sub:List fV
structure dr where
 f:Nat
 eK:List du
 st:List dh
 ts:List aD
 dX:du
 dE:List dh
 us:List aD
 sub:List fV
def fV.l(e:fV)(F:aP U.D e.ts->Option (ea U e.outs)):gG U:=⟨e.sh,e.own,e.ts,e.outs,F⟩
def dr.s(e:dr)(F:aP U.D e.ts->Option (aP U.D e.us)):ca U:=⟨e.f,e.eK,e.st,e.ts,e.dX,e.dE,e.us,F⟩
def codeF(P:Program)(f:Nat):dq:=match P.funcs[f]? with
 |some fn=>J3 P fn
 |none=>.skip
def y3(P:Program)(f:Nat):Nat:=match P.funcs[f]? with
 |some fn=>fn.ntmps
 |none=>0
def PK(P:Program)(f:Nat):List iV:=match P.funcs[f]? with
 |some fn=>(match h2 P fn.results.toList with
  |some r=>r
  |none=>[])
 |none=>[]
def pQ(P:Program)(e:dr):Bool:=match P.funcs[e.f]? with
 |some fn=>gL P e.f&&((fn.body.bind (resolve P fn.ntmps)).isSome&&((h2 P fn.results.toList).isSome&&Nat.ble e.eK.length fn.ntmps))
 |none=>false
def ij(P:Program)(e:dr):Prop:=pQ P e=true
theorem ij.m{P:Program}{e:dr}(h:pQ P e=true):ij P e:=h
def q0(fo:fm U)(d:kP U)(kk:Nat)(b:dq)(e:fV)(a:aP U.D e.ts->Option (ea U e.outs))(h:aP U.D e.ts):Option (ea U e.outs):=
 j9 fo d kk b 0 (fh U e.sh (aP.cells U.D e.ts h)).1 (fh U e.sh (aP.cells U.D e.ts h)).2 e.sh.st.length (λx env J N=>match x with
  |.normal=>match lE kk e.EI e.sh e.ts env J N with
   |some c=>a c
   |none=>none
  |x=>oi kk e.outs x env J N)
def p1(fo:fm U)(a:kP U)(P:Program)(e:dr)(h:aP U.D e.ts):Option (aP U.D e.us):=
 Fi e.st.length (hj 0 e.st (jD e.eK (aP.cells U.D e.ts h)).2) λJ N=>j9 fo a e.st.length (codeF P e.f) 0 (nk 0 (jD e.eK (aP.cells U.D e.ts h)).1) J N (RZ e.st.length (PK P e.f) e.dX e.dE e.us)
variable{e:dr}
section
variable {P:Program}
variable{fo:fm U}
theorem S6(f:fp P fo){c:kP U}{b:dq}{e:fV}{h:aP U.D e.ts}{o:ea U e.outs}{a:aP U.D e.ts->Option (ea U e.outs)}
 (g:fX P nt kk c 0 b)(d:∀h o,a h=some o->mo P nt kk b e.sh e.ts e.outs h o)(I:q0 fo c kk b e a h=some o):mo P nt kk b e.sh e.ts e.outs h o:=by
 refine mo.QU (own:=e.EI) f g d (Eq.trans ?_ I);grind[q0]
theorem K'{i:kP U}(b:ij P e)(F:aP U.D e.ts->Option (aP U.D e.us))(n:fp P fo)(a:fX P (y3 P e.f) e.st.length i 0 (codeF P e.f))
 {h:aP U.D e.ts}{r:aP U.D e.us}(I:p1 fo i P e h=some r):uo P (e.s F) h r:=by
 unfold ij pQ at b;unfold codeF at a;unfold y3 at a;unfold p1 codeF PK at I;split at b
 . rename_i fn d;simp[d]at a I;simp only[cK]at b;obtain⟨p,k,bj,l⟩:=b;obtain⟨c,m⟩:=zI.1 k;obtain⟨o,g⟩:=zI.1 bj;have j:J3 P fn=c:=(by grind[J3]);rw[j]at a I;simp[g]at I;exact uo.GN d m g l n a I
 grind
theorem ij.b{e:dr}(a:ij P e):gL P e.f=true:=by
 grind[ij,pQ]
def xS(fo:fm U)(kk:Nat):Nat->dq->(e:fV)->aP U.D e.ts->Option (ea U e.outs)
 |0,_,_,_=>none
 |n+1,b,e,h=>q0 fo (kx (e.sub.map λs=>(s.q,s.l (xS fo kk n (wj b s.q) s)))) kk b e (xS fo kk n b e) h
def w0(g:(e:dr)->aP U.D e.ts->Option (aP U.D e.us))(r:List (ca U)):List dr->fm U
 |[],f=>gP r f
 |e::T,f=>match Nat.beq e.f f with
  |true=>e.s (g e)::w0 g r T f
  |false=>w0 g r T f
def ed(P:Program)(T:List dr)(a:List (ca U)):Nat->(e:dr)->aP U.D e.ts->Option (aP U.D e.us)
 |0,_,_=>none
 |n+1,e,h=>p1 (w0 (ed P T a n) a T) (kx (e.sub.map λs=>(s.q,s.l (xS (w0 (ed P T a n) a T) e.st.length n (wj (codeF P e.f) s.q) s)))) P e h
theorem Gp{b:dq}{g:(s:fV)->aP U.D s.ts->Option (ea U s.outs)}:∀{l:List fV},(∀s h o,g s h=some o->mo P nt kk (wj b s.q) s.sh s.ts s.outs h o)->iX P nt kk b (l.map λs=>(s.q,s.l (g s)))
 |[],_=>iX.nil
 |s::l,al=>iX.cons (λh o a=>al s h o a) (Gp al)
theorem Km(a:fp P fo):∀(n:Nat) (b:dq) (e:fV) (h:aP U.D e.ts) (o:ea U e.outs),xS fo kk n b e h=some o->mo P nt kk b e.sh e.ts e.outs h o
 |0,_,_,_,_,I=>by grind[xS]
 |n+1,b,e,h,o,I=>S6 a (iX.snd (Gp λs h o c=>Km a n _ s h o c)) (λh o c=>Km a n b e h o c) I
theorem N6{g:(e:dr)->aP U.D e.ts->Option (aP U.D e.us)}{r:List (ca U)}(c:fp P (gP r)):∀{T:List dr},(∀e,e∈T->ij P e)->(∀e,e∈T->hN P (e.s (g e)))->fp P (w0 g r T)
 |[],_,_=>c
 |e::T,a,al=>by
  intro f t ht;simp[w0]at ht;have ih:=N6 c (λe he=>a e (Cy _ he)) (λe he=>al e (Cy _ he));split at ht
  . rename_i d;have:=cL d;rcases dK.1 ht with rfl|ht
    . exact⟨this,by rw[<-this];exact(a e GI).b,al e GI⟩
    . exact ih f t ht
  . exact ih f t ht
theorem N7{T:List dr}(a:∀e,e∈T->ij P e){c:List (ca U)}(f:fp P (gP c)):∀(n:Nat) (e:dr),ij P e->hN P (e.s (ed P T c n e))
 |0,e,_=>λh r b=>by simp[dr.s,ed]at b
 |n+1,e,he=>hN.of λh r b=>
  have g:=N6 f a λd i=>N7 a f n d (a d i)
  K' he _ g (iX.snd (Gp λs h o j=>Km g n _ s h o j)) b
end
open Go
variable {U:cF}{P:Program}
def dP(P:Program)(s:ca U):Prop:=gL P s.f=true/\hN P s
def pR(P:Program)(f:Nat):aY->dq
 |[]=>codeF P f
 |q::p=>wj (pR P f p) q
def nr(P:Program)(f kk:Nat)(p:aY)(e:fV)(F:aP U.D e.ts->Option (ea U e.outs)):Prop:=ur P (y3 P f) kk (pR P f p) (e.l F)
def hr(P:Program)(l:List (ca U)):Prop:=fp P (gP l)
theorem hr.n:hr P ([]:List (ca U)):=fp.nil
theorem hr.k{s:ca U}{l:List (ca U)}(h:dP P s)(ae:hr P l):hr P (s::l):=fp.cons h.1 h.2 ae
def jn(P:Program)(f kk:Nat)(p:aY)(l:List (Nat×gG U)):Prop:=iX P (y3 P f) kk (pR P f p) l
theorem jn.n:jn P f kk p ([]:List (Nat×gG U)):=iX.nil
theorem jn.k{q:Nat}{e:fV}{F:aP U.D e.ts->Option (ea U e.outs)}{l:List (Nat×gG U)}(h:nr P f kk (q::p) e F)(ae:jn P f kk p l):jn P f kk p ((q,e.l F)::l):=iX.cons h ae
def AF(P:Program)(U:cF)(e:dr)(h:aP U.D e.ts)(r:aP U.D e.us):Prop:=uo P (e.s λ_=>none) h r
def xv(P:Program)(U:cF)(f kk:Nat)(p:aY)(e:fV)(h:aP U.D e.ts)(o:ea U e.outs):Prop:=mo P (y3 P f) kk (pR P f p) e.sh e.ts e.outs h o
theorem AF.at(j:ij P e){fs:List (ca U)}(c:hr P fs){a:List (Nat×gG U)}(ae:jn P e.f e.st.length [] a){h:aP U.D e.ts}{r:aP U.D e.us}(I:p1 (gP fs) (kx a) P e h=some r):AF P U e h r:=
 K' j _ c (iX.snd ae) I
theorem xv.at{e:fV}{a:aP U.D e.ts->Option (ea U e.outs)}(bc:∀h o,a h=some o->xv P U f kk p e h o){fs:List (ca U)}(j:hr P fs){c:List (Nat×gG U)}(ae:jn P f kk p c){h:aP U.D e.ts}{o:ea U e.outs}
 (I:q0 (gP fs) (kx c) kk (pR P f p) e a h=some o):xv P U f kk p e h o:=
 S6 j (iX.snd ae) bc I
theorem dP.of(a:ij P e){F:aP U.D e.ts->Option (aP U.D e.us)}(h:∀h r,F h=some r->AF P U e h r):dP P (e.s F):=⟨a.b,hN.of h⟩
theorem nr.of{e:fV}{F:aP U.D e.ts->Option (ea U e.outs)}(h:∀h o,F h=some o->xv P U f kk p e h o):nr P f kk p e F:=h
theorem dP.fn(a:ij P e){F:aP U.D e.ts->Option (aP U.D e.us)}{fs:List (ca U)}(j:hr P fs){c:List (Nat×gG U)}(ae:jn P e.f e.st.length [] c)(I:∀h,p1 (gP fs) (kx c) P e h=F h):dP P (e.s F):=
 .of a λh r o=>.at a j ae ((I h).trans o)
theorem nr.ahR{e:fV}{F:aP U.D e.ts->Option (ea U e.outs)}{fs:List (ca U)}(c:hr P fs){a:List (Nat×gG U)}(ae:jn P f kk p a)(I:∀h,q0 (gP fs) (kx a) kk (pR P f p) e (λ_=>none) h=F h):nr P f kk p e F:=
 .of λh o j=>.at (λ_ _ h=>by grind) c ae ((I h).trans j)
theorem dP.rc(c:ij P e){F:aP U.D e.ts->Option (aP U.D e.us)}{b:(aP U.D e.ts->Option (aP U.D e.us))->aP U.D e.ts->Option (aP U.D e.us)}
 (eD:∀m:aP U.D e.ts->aP U.D e.us->Prop,(∀a,(∀h r,a h=some r->m h r)->∀h r,b a h=some r->m h r)->∀h r,F h=some r->m h r)
 {fs:(aP U.D e.ts->Option (aP U.D e.us))->List (ca U)}(o:∀a,dP P (e.s a)->hr P (fs a)){j:List (Nat×gG U)}(ae:jn P e.f e.st.length [] j)(I:∀a h,p1 (gP (fs a)) (kx j) P e h=b a h):dP P (e.s F):=
 .of c (eD _ λa bc h r p=>.at c (o a (.of c bc)) ae ((I a h).trans p))
theorem nr.rc{e:fV}{F:aP U.D e.ts->Option (ea U e.outs)}{b:(aP U.D e.ts->Option (ea U e.outs))->aP U.D e.ts->Option (ea U e.outs)}
 (eD:∀m:aP U.D e.ts->ea U e.outs->Prop,(∀a,(∀h r,a h=some r->m h r)->∀h r,b a h=some r->m h r)->∀h r,F h=some r->m h r)
 {fs:List (ca U)}(j:hr P fs){c:List (Nat×gG U)}(ae:jn P f kk p c)(I:∀a h,q0 (gP fs) (kx c) kk (pR P f p) e a h=b a h):nr P f kk p e F:=
 .of (eD _ λa bc h o q=>.at bc j ae ((I a h).trans q))
theorem dP.bC{F:aP U.D e.ts->Option (aP U.D e.us)}{fs:List (ca U)}(c:hr P fs:=by exact .n){a:List (Nat×gG U)}(ae:jn P e.f e.st.length [] a:=by exact .n)(j:ij P e:=by exact .m (by kernel_rfl))
 (I:∀h,p1 (gP fs) (kx a) P e h=F h:=by intro _;kernel_rfl):dP P (e.s F):= .fn j c ae I
theorem dP.rx{F:aP U.D e.ts->Option (aP U.D e.us)}{b:(aP U.D e.ts->Option (aP U.D e.us))->aP U.D e.ts->Option (aP U.D e.us)}
 (eD:∀m:aP U.D e.ts->aP U.D e.us->Prop,(∀a,(∀h r,a h=some r->m h r)->∀h r,b a h=some r->m h r)->∀h r,F h=some r->m h r)
 {fs:(aP U.D e.ts->Option (aP U.D e.us))->List (ca U)}(j:∀a,dP P (e.s a)->hr P (fs a)){c:List (Nat×gG U)}(ae:jn P e.f e.st.length [] c:=by exact .n)(o:ij P e:=by exact .m (by kernel_rfl))
 (I:∀a h,p1 (gP (fs a)) (kx c) P e h=b a h:=by intro _ _;kernel_rfl):dP P (e.s F):= .rc o eD j ae I
theorem nr.rx {f kk:Nat}{p:aY}{e:fV}{F:aP U.D e.ts->Option (ea U e.outs)}{b:(aP U.D e.ts->Option (ea U e.outs))->aP U.D e.ts->Option (ea U e.outs)}
 (eD:∀m:aP U.D e.ts->ea U e.outs->Prop,(∀a,(∀h r,a h=some r->m h r)->∀h r,b a h=some r->m h r)->∀h r,F h=some r->m h r)
 {fs:List (ca U)}(j:hr P fs:=by exact .n){c:List (Nat×gG U)}(ae:jn P f kk p c:=by exact .n)(I:∀a h,q0 (gP fs) (kx c) kk (pR P f p) e a h=b a h:=by intro _ _;kernel_rfl):nr P f kk p e F:= .rc eD j ae I
theorem acW{T:List dr}(h:T.all (pQ P)=true):∀e,e∈T->ij P e:=λe he=>e'.1 h e he
theorem dP.run{T:List dr}(ee:T.all (pQ P)=true){a:List (ca U)}(f:hr P a)(c:ij P e){F:aP U.D e.ts->Option (aP U.D e.us)}(n:Nat)(h:∀h,F h=ed P T a n e h):dP P (e.s F):=
 ⟨c.b,λx r j=>N7 (acW ee) f n e c x r ((h x).symm.trans j)⟩
abbrev ak:aD:= .int .i64
abbrev aI(n:Nat):aD:= .slice (.nm n)
abbrev rJ:aD:= .slice .str
abbrev gy:aD:= .slice (.int .i64)
abbrev ab(t:aD):du:= .c (.hole t)
abbrev aw(b o:Nat):du:= .c (.ptr b o)
abbrev cv(t:aD):dh:= .box [.hole t]
def ct:fK->List aD
 |.hole t=>[t]
 |.cA _ _ _=>[.int .i64]
 |.dF t _=>[t]
 |_=>[]
def bc{α:Type}(f:α->List aD):List α->List aD
 |[]=>[]
 |a::l=>f a++bc f l
def Qw:du->List aD
 |.c s=>ct s
 |.agg l=>bc ct l
 |.row n=>[.nm n]
 |.aX _=>[]
def hS:du->List aD
 |.aX l=>bc Qw l
 |v=>Qw v
def c9:dh->List aD
 |.box l=>bc ct l
 |.arr t=>[.slice t]
 |.bb n=>[.nm n]
 |.set=>[.slice .str]
 |.buf _=>[.str]
 |.b3 _ s=>ct s
 |.gone=>[]
def dA(l:List (Nat×du))(st:List dh):List aD:=bc (λp=>hS p.2) l++bc c9 st
abbrev aW(f:Nat)(eK:List du)(dX:du)(sub:List fV:=[])(st:List dh:=[])(dE:List dh:=[]):dr:=⟨f,eK,st,bc hS eK++bc c9 st,dX,dE,hS dX++bc c9 dE,sub⟩
abbrev bZ(q:Nat)(l:List (Nat×du))(st:List dh)(outs:List iG)(sub:List fV:=[])(own:List (Pos×aD):=[])(EI:List (Pos×aD):=own):fV:=⟨q,⟨l,st⟩,own,EI,dA l st,outs,sub⟩
abbrev bl(e:Exit)(l:List (Nat×du))(st:List dh:=[])(own:List (Pos×aD):=[]):iG:=⟨e,⟨l,st⟩,own,dA l st⟩
abbrev gf(k:Nat)(t:aD):iG:=⟨.ret,⟨[(k,ab t)],[]⟩,[],[t]⟩
abbrev hG(i:Nat):iG:=⟨.exit i,⟨[],[]⟩,[],[]⟩
section
open Go
variable {U:cF}
def EB(te sz bytes:Nat)(z:List C):dq:=
 .seq (.region [⟨some 2,.mov (.const (.c .bD)),none⟩])
  (.seq (.seq (.region [⟨some 3, .mov (.tmp 0),none⟩,⟨some 4, .eqNil false (.tmp 3),none⟩])
   (.cond (.tmp 4) (.seq (.region [⟨some 2,.mov (.const (.c .bD)),none⟩]) .ret) .skip))
   (.seq (.region [⟨some 5,.bslice sz 0 z [],none⟩,⟨some 6,.mov (.tmp 0),none⟩,⟨some 7,.append te sz bytes (.tmp 5) (.tmp 6),none⟩,⟨some 2,.mov (.tmp 7),none⟩]) .ret))
def tY(bytes n:Nat):Bool:=(decide ((2*n+192)*bytes<=gJ)||decide ((n+n/4+512)*bytes<=gJ))&&decide (n<=c1)
theorem n4{bytes n:Nat}(h:room bytes n=true):tY bytes n=true:=by
 grind[Jg,tY]
theorem N8{bytes n:Nat}(h:tY bytes n=true):jx n bytes/\n<=c1:=by
 unfold tY at h;simp at h;exact h
def fv{α:Type}(bytes:Nat)(l:List α):Option (List α):=if tY bytes l.length then some l else none
def E9(U:cF)(f:Nat)(t:aD)(bytes:Nat):ca U:=
 ⟨f,[.c (.hole (.slice t))],[],[.slice t],.c (.arr 0),[.arr t],[.slice t],λ(l:List (t.den U.D))=>fv bytes l⟩
variable{es:List (List T)}{te f:Nat}
section
variable {P:Program}
theorem Z3{fn:Func}{sz bytes:Nat}{z:List C}{p:List T}(g:P.funcs[f]?=some fn)(a:fn.body.bind (Shv.resolve P fn.ntmps)=some (EB te sz bytes z))(j:h2 P fn.results.toList=some [.tmp 2])
 (aN:1<=fn.ntmps)(n:toTs z=some p)(m:0<sz)(he:∀e,e∈es->e.length=sz)(l:tY bytes es.length=true):
 d' P f [.c (.t (.slice es))] [] 0 (λr J' N'=>N'=1/\r= .c (.arr 0 sz 0 es.length)/\aR J' 0=some (.arr sz es)):=by
 have w:=N8 l;refine d'.tidy (Q:=λr J' N'=>∃b,r= .c (.arr b sz 0 es.length)/\aR J' b=some (.arr sz es)) (d'.mk g a j rfl (by grind) ?_) ?_
 . refine ch.seq (ch.region ?_);simp only[ke,hb,fM,aL,aO.get,eb,e6,cH.neutral,cm,andThen];refine .inr ⟨λ_=>trivial,.inl trivial,?_⟩;refine ch.seq (ch.seq (ch.region ?_));simp only[ke,hb,fM,aL,aO.get,ly,eb,cH.neutral,cm,andThen,look];refine .inr ⟨λ_=>by rfl,.inl trivial,?_⟩;refine .inr ?_;simp only[cE,cm,true_and];intro b q;refine ch.cond (b:=b) (by simp[aO.get,look,r8]) trivial (λv=>?_) (λu=>?_)
   ·
    have d:es=[]:=(by grind);subst d;refine ch.seq (ch.region ?_);simp only[ke,hb,fM,aL,aO.get,ly,eb,cH.neutral,cm,andThen];refine .inr ⟨λ_=>trivial,.inl trivial,?_⟩;refine ch.conv (Conv.own (k:=2) rfl m (ia _)) (ch.ret ?_);refine⟨_,_,rfl,⟨rfl,trivial⟩,_,rfl,?_⟩;rfl
   . refine ch.skip ?_;refine ch.seq (ch.region ?_);simp only[ke,hb,fM,aL,aO.get,ly,eb,cH.neutral,cm,andThen,look,jw,n,ay,Nat.reduceEqDiff,cE,reduceCtorEq,lG,cS,List.replicate];refine .inr ⟨λ_=>trivial,.inr trivial,?_⟩;refine .inr ⟨λ_=>by simp,.inl trivial,?_⟩;refine .inr ⟨λ_=>⟨trivial,trivial,trivial,trivial,trivial,by rfl,he,by grind,by grind⟩,.inr trivial,?_⟩;refine .inr ⟨λ_=>by simp,.inl trivial,?_⟩;refine ch.ret ⟨_,[.c (.arr 80 sz 0 _)],rfl,⟨rfl,trivial⟩,80,by rw[gx];rfl,?_⟩;rfl
 . rintro r J' N' ⟨b,rfl,hs⟩
   refine⟨[b],_,_,by simp,rfl,?_,λi x I=>⟨x,I,?_⟩,rfl,rfl,?_⟩
   . simp only[V.bN,C.bN,pos,cm];exact .c (dz.refl _)
   . cases x with
     |box cs=>exact .box (aV.self dz.refl _)
     |arr sz es=>exact .arr
     |set ks=>exact .same
     |buf E s=>exact .same
     |b3 E c=>exact .b3 (dz.refl _)
     |cw sz es i o c=>exact .cw (dz.refl _)
   grind[fu,aR,bJ.bN]
theorem La{fn:Func}{sz bytes:Nat}{z:List C}{s:List T}{t:aD}(m:P.funcs[f]?=some fn)(k:fn.body.bind (Shv.resolve P fn.ntmps)=some (EB te sz bytes z))(n:h2 P fn.results.toList=some [.tmp 2])
 (aN:Nat.ble 1 fn.ntmps=true)(q:toTs z=some s)(o:t.sz U=sz):hN P (E9 U f t bytes):=by
 intro l r bc v J1 i aA;subst o;have a:fv _ l=some r:=bc;unfold fv at a;split at a
 . cases a;cases i with
   |cons h1 g=>
    cases g;have:=bL.jj h1;subst this
    refine d'.conv (.cons (.c (dz.refl _)) .nil) (λb x I=>by grind[aR]) ((Z3 m k n (gK aN) q aD.rI (λe he=>by
     obtain⟨y,_,rfl⟩:=eA.1 he
     exact aD.sj) (by grind)).mono ?_)
    rintro w s1 u ⟨rfl,rfl,hs⟩
    refine⟨rfl,.c (.arr 0 _ _ (by simp) λx I p ai=>?_),λb x I=>?_⟩
    . have:x=cx.arr t l:=by
       simp[ca.rest,E9,l0,u2,aP.cells,e3.cells,hj,jC,aS]at I;grind
      grind[cx.cV]
    . have d:(if b=0 then some (cx.arr t l)else none)=some x:=by
       rw[<-I];cases b<;>rfl
      split at d
      . rename_i j;cases d;subst j;exact⟨by simp,_,hs,.arr t l⟩
      grind
 grind
def tF{α:Type}(bytes:Nat)(l:List α):Option (List α×List α):=(fv bytes l).map λr=>(l,r)
def J4(U:cF)(f:Nat)(t:aD)(bytes:Nat):ca U:=
 ⟨f,[.c (.arr 0)],[.arr t],[.slice t],.c (.arr 1),[.arr t,.arr t],[.slice t,.slice t],λ(l:List (t.den U.D))=>tF bytes l⟩
theorem ZS{fn:Func}{sz bytes:Nat}{z:List C}{u:List T}{a:a6}(l:P.funcs[f]?=some fn)(d:fn.body.bind (Shv.resolve P fn.ntmps)=some (EB te sz bytes z))(m:h2 P fn.results.toList=some [.tmp 2])
 (aN:1<=fn.ntmps)(t:toTs z=some u)(q:0<sz)(he:∀e,e∈es->e.length=sz)(n:tY bytes es.length=true)(h0:aR a 0=some (.arr sz es)):
 d' P f [.c (.arr 0 sz 0 es.length)] a 1 (λr J' N'=>N'=2/\r= .c (.arr 1 sz 0 es.length)/\aR J' 0=some (.arr sz es)/\aR J' 1=some (.arr sz es)):=by
 have D:=N8 n;refine d'.tidy (Q:=λr J' N'=>∃b,1<=b/\r= .c (.arr b sz 0 es.length)/\aR J' 0=some (.arr sz es)/\aR J' b=some (.arr sz es)) (d'.mk l d m rfl (by grind) ?_) ?_
 . refine ch.seq (ch.region ?_);simp only[ke,hb,fM,aL,aO.get,ly,eb,e6,cH.neutral,cm,andThen];refine .inr ⟨λ_=>trivial,.inl trivial,?_⟩;refine ch.seq (ch.seq (ch.region ?_));simp only[ke,hb,fM,aL,aO.get,ly,eb,cH.neutral,cm,andThen,look,gS,kE];refine .inr ⟨λ_=>by rfl,.inl trivial,?_⟩;refine .inr ?_;simp only[Nat.reduceEqDiff,cE,cm,ly,true_and];intro b w;refine ch.cond (b:=b) (p:=True) (by simp[aO.get,look,r8]) trivial (λB=>?_) (λA=>?_)
   . have j:es=[]:=(by grind);subst j;refine ch.seq (ch.region ?_);simp only[ke,hb,fM,aL,aO.get,ly,eb,cH.neutral,cm,andThen];refine .inr ⟨λ_=>trivial,.inl trivial,?_⟩;refine ch.conv (Conv.own (k:=2) (g:=true) (sz:=sz) rfl q (by simp)) (ch.ret ?_);refine⟨_,_,rfl,⟨rfl,trivial⟩,_,by simp,rfl,?_,?_⟩
     . simp_all[cS,ao]
     . rw[cS,ad rfl]
   . refine ch.skip ?_;refine ch.seq (ch.region ?_);simp only[ke,hb,fM,aL,aO.get,ly,eb,cH.neutral,cm,andThen,look,jw,t,ay,Nat.reduceEqDiff,cE,cJ,reduceCtorEq,List.replicate];refine .inr ⟨λ_=>trivial,.inr trivial,?_⟩;refine .inr ⟨λ_=>by simp,.inl trivial,?_⟩;have ag:∀v,lG (cW a (1+16*1+16*2) (.arr sz v)) (.c (.arr 0 sz 0 es.length))=some (es,some 0):=by
      grind[lG,cS]
     refine .inr ?_;simp only[gS,kE,gx]at ag⊢;rw[ag];simp only[ay,cS,cm,dy,Nat.reduceMul,Nat.reduceAdd,cE];refine⟨λ_=>⟨trivial,trivial,trivial,trivial,trivial,by rfl,he,by grind,by grind⟩,.inr trivial,?_⟩;refine .inr ⟨λ_=>by simp,.inl trivial,?_⟩;refine ch.ret ⟨_,[.c _],rfl,⟨rfl,trivial⟩,81,by simp,rfl,?_,?_⟩
     . simp_all[cS,ao,e4]
     simp_all[cS,ad]
 . rintro r J' N' ⟨b,y,rfl,F,hs⟩
   refine⟨[0,b],_,_,by grind,rfl,?_,λi x I=>⟨x,I,?_⟩,rfl,rfl,?_⟩
   . simp only[V.bN,C.bN,pos,ao (show ¬0=b by omega),cm];exact .c (dz.refl _)
   . cases x with
     |box cs=>exact .box (aV.self dz.refl _)
     |arr sz es=>exact .arr
     |set ks=>exact .same
     |buf E s=>exact .same
     |b3 E c=>exact .b3 (dz.refl _)
     |cw sz es i o c=>exact .cw (dz.refl _)
   grind[fu,aR,bJ.bN]
theorem Y8{fn:Func}{sz bytes:Nat}{z:List C}{E:List T}{t:aD}(o:P.funcs[f]?=some fn)(k:fn.body.bind (Shv.resolve P fn.ntmps)=some (EB te sz bytes z))(s:h2 P fn.results.toList=some [.tmp 2])
 (aN:Nat.ble 1 fn.ntmps=true)(D:toTs z=some E)(w:t.sz U=sz):hN P (J4 U f t bytes):=by
 intro l r bc G J1 i aA;subst w;have a:(fv _ l).map _=some r:=bc;unfold fv at a;split at a
 . cases a;cases i with
   |cons h1 g=>
    cases g;obtain⟨sz,n,rfl,_,m⟩:=h1.gn;obtain⟨_,y,A,B⟩:=aA 0 _ rfl;cases B;have:=m _ rfl _ rfl;obtain⟨rfl,rfl⟩:=this;have q:l.length=(l.map (t.enc U)).length:=(by grind);rw[q]
    refine(ZS o k s (gK aN) D aD.rI (λe he=>by
     obtain⟨y,_,rfl⟩:=eA.1 he
     exact aD.sj) (by grind) A).mono ?_
    rintro J s1 F ⟨rfl,rfl,u,v⟩
    have d:∀b x,aS ((J4 U f t bytes).rest (l,l)) b=some x->(b=0\/b=1)/\x=cx.arr t l:=by
     intro b x I;have H:(if b=0 then some (cx.arr t l)else if b=1 then some (cx.arr t l)else none)=some x:=by
      rw[<-I]
      match b with
      |0=>rfl
      |1=>rfl
      |_+2=>rfl
     grind
    refine⟨rfl,.c (.arr 1 _ _ (by simp) λx I p ai=>?_),λb x I=>?_⟩
    . obtain⟨_,rfl⟩:=d _ _ I;grind[cx.cV]
    . obtain⟨j,rfl⟩:=d _ _ I;rcases j with rfl|rfl
      . exact⟨by simp,_,u,.arr t l⟩
      . exact⟨by simp,_,v,.arr t l⟩
 grind
end
end
section
open Go Go.Proofs Go.Proofs.YtklfhpkljddjbaaGreatDoor Go.Shelf
variable {U:cF}
def Fa(U:cF)(f E a:Nat):ca U:=
 ⟨f,[.c (.ptr 0 0)],[.b3 E (.cr 1),.buf a],[.str],.aX [],[.b3 E (.cr 1),.buf a],[.str],λ(s:ar)=>some s⟩
section
variable {P:Program}{ρ:Ren}
theorem Z4(L:Lays.n240 P ρ)(q:Builder.X72 P ρ){J:a6}{z n:Nat}{s:ar}(h0:aR J 0=some (.b3 (ρ.t 72) (.cr 1 n)))(h1:aR J 1=some (.buf z s)):
 d' P (ρ.f 240) [.c (.ptr 0 0)] J 2 (λr J' N'=>r= .aX []/\J'=J/\N'=2):=by
 intro φ S w B d y i M vs k;cases k with|cons H k=>
 cases k;have E:=H.gT;subst E;obtain⟨l,⟨p,v,ab,ai,F⟩,u⟩:=d.blk 0 _ h0;have same:∀ w',w' = w->∃ (v:Value) (r:V) (a8:cU) (ba:cR) (J':a6) (N':Nat),Ending.returned (Value.tuple #[]) = Ending.returned v/\(r = .aX []/\J' = J/\N' = 2)/\bS a8 w' ba r v/\r.az (lt N') = true/\oJ a8 w' ba J'/\(∀ (b:Nat) x,aR J' b = some x->b<N'/\x.az (lt N') = true)/\Ext B S ba w w'/\
  (∀(b:Nat) x,aR J' b=some x->(a8 b).2≠0->B (a8 b).1\/w.heap.size<=(a8 b).1)/\∀b,b<2->a8 b=φ b:=by
  rintro w' rfl
  exact⟨_,.aX [],φ,S,J,2,rfl,⟨rfl,rfl,rfl⟩,.aX [] [] rfl (by simp),rfl,d,y,Ext.refl,λb x I a=>.inl (i b x I a),λ_ _=>rfl⟩
 rcases ai with rfl|rfl
 . have g:w.cell? ⟨(φ 0).1,0,none⟩=some (.pointer none):=by rw[iq ab];rfl
   have G:w.shape? (φ 0).1=some (ρ.t 72,2):=(by simp[World.shape?,ab]);have D:w.frozen? ⟨(φ 0).1,0,none⟩=false:=(by simp[World.frozen?,ab]);refine(Any.Builder_copyCheck_fresh L q _ w g G D).mono ?_
   rintro e w' ⟨rfl,rfl⟩
   obtain⟨K,o⟩:=SZ ab 0 _;have m:fY w S _ S:=⟨λ_ _ h=>h,λb j h=>rh (o b (λe=>u j (e▸h))) j⟩
   refine⟨_,.aX [],φ,S,J,2,rfl,⟨rfl,rfl,rfl⟩,.aX [] [] rfl (by simp),rfl,⟨λb x I=>?_,d.inj,λb j h=>?_⟩,y,⟨rfl,rfl,rfl,by simp,λb a c9=>o b (λe=>c9 (e▸i 0 _ h0 l)),m,λ_ _ h=>.inl h⟩,λb x I a=>.inl (i b x I a),λ_ _=>rfl⟩
   . by_cases a:b=0
     . subst a;rw[h0]at I;cases I;exact⟨l,⟨_,v,K,.inr rfl,bk.mono m (λ_ _=>rfl) (C.mw _) F⟩,u⟩
     . exact cQ.mono (n:=λ_=>true) m (λ_ _=>rfl) rfl (by cases x<;>simp[bJ.az,C.mw]) (λA=>o _ (d.inj b 0 x _ I h0 a A l)) (d.blk b x I)
   . have:=d.st b j h;simpa using this
 . have g:w.cell? ⟨(φ 0).1,0,none⟩=some (.pointer (some ⟨(φ 0).1,0,none⟩)):=by rw[iq (vs:=[_,_]) ab];rfl
   refine(Any.Builder_copyCheck_used L q _ w g).mono ?_
   rintro e w' ⟨rfl,rfl⟩
   exact same _ rfl
theorem Z5(L:Lays.n240 P ρ)(c:Builder.X72 P ρ){E a:Nat}(i:ρ.f 240=f)(dA:ρ.t 72=E):hN P (Fa U f E a):=by
 subst i;subst dA;intro s r bc o J1 b aA;have j:=oh bc.symm;subst j;cases b with|cons b g=>
 cases g;have:=b.gT;subst this;have k:aS ((Fa U (ρ.f 240) (ρ.t 72) a).il r) 0=some _:=rfl;have l:aS ((Fa U (ρ.f 240) (ρ.t 72) a).il r) 1=some _:=rfl;obtain⟨_,v,e,b0⟩:=aA 0 _ k;obtain⟨_,w,g1,b1⟩:=aA 1 _ l;cases b1;cases b0 with| @b3 _ _ d b0=>
 cases b0 with|cr _ n p q=>
 refine(Z4 L c e g1).mono ?_
 rintro u s1 m ⟨rfl,rfl,rfl⟩
 exact⟨rfl,.aX [] [] rfl (by simp),aA⟩
end
end
section
open Go Go.ChangeShapes Go.WideShapes Go.RowKit
variable {U:cF}
def aD.Rr:aD->Nat
 |.bool=>1
 |.int k=>k.bits/8
 |.str=>16
 |.slice _=>24
 |.nm _=>0
def J5:List aD->Nat
 |[]=>0
 |t::r=>t.Rr+J5 r
def tG(l:List aD):Nat:=bif l.any λt=>Nat.ble 8 t.Rr then(J5 l+7)/8*8 else J5 l
def aD.bytes(U:cF)(t:aD):Nat:=tG (t.cells U)
inductive WF (U:cF):Cell U.D->Prop
 |bool (b:Bool):WF U ⟨.bool,b⟩
 |int (k:IntKind) (n:Int) (h:(Lit.int k n).wf=true):WF U ⟨.int k,n⟩
 |str (s:ar) (h:s.length<=reachBytes):WF U ⟨.str,s⟩
 |slice (t:aD) (l:List (t.den U.D)) (h:l.length<=reachBytes) (afr:l.length*t.bytes U<=reachBytes) (ae:∀x,x∈l->∀c,c∈t.row U x->WF U c):WF U ⟨.slice t,l⟩
def cF.Total(U:cF):Prop:=∀n (l:List (Cell U.D)),l.map Cell.ty=U.de n->∃x,U.make n l=some x
def Fg:List aD->List aD->Bool
 |[],[]=>true
 |a::l,b::m=>aD.beq a b&&Fg l m
 |_,_=>false
theorem L3:∀{l m:List aD},Fg l m=true->l=m
 |[],[],_=>rfl
 |a::l,b::m,h=>by
  simp[Fg]at h;rw[aD.beq_eq h.1,L3 h.2]
 |[],_::_,h=>by cases h
 |_::_,[],h=>by cases h
def zj(P:Program)(g:TypeId->Option (List aD)):List Field->Nat->Nat->Option (List aD)
 |[],off,c=>match Nat.beq off c with
  |true=>some []
  |false=>none
 |f::r,off,c=>match g f.type with
  |none=>none
  |some a=>match Nat.beq f.offset off&&Nat.beq (P.cellsOf f.type) a.length with
   |false=>none
   |true=>match zj P g r (off+a.length) c with
    |none=>none
    |some b=>some (a++b)
def flat(P:Program)(U:cF)(st:TypeId->Option Nat):Nat->TypeId->Option (List aD)
 |0,_=>none
 |n+1,t=>match P.underlying t with
  |some .bool=>some [.bool]
  |some (.int k)=>some [.int k]
  |some .string=>some [.str]
  |some (.slice e)=>match st e with
   |some m=>match Nat.ble 1 (P.bytesOf e)&&Nat.ble (tG (U.de m)) (P.bytesOf e)with
    |true=>some [.slice (.nm m)]
    |false=>none
   |none=>match flat P U st n e with
    |none=>none
    |some a=>match Nat.ble 1 (P.bytesOf e)&&Nat.ble (tG a) (P.bytesOf e)with
     |false=>none
     |true=>match a with
      |[ty]=>match ty.u7 with
       |true=>none
       |false=>some [.slice ty]
      |_=>none
  |some (.struct fs)=>zj P (flat P U st n) fs.toList 0 (P.cellsOf t)
  |some (.array k e)=>match flat P U st n e with
   |none=>none
   |some a=>match Nat.beq (P.cellsOf t) (k*a.length)&&Nat.beq (P.cellsOf e) a.length with
    |false=>none
    |true=>some (List.replicate k a).flatten
  |_=>none
theorem T5{α:Type}{R:Nat->α->Prop}:∀(n:Nat),(∀i,i<n->∃x,R i x)->∃l:List α,l.length=n/\∀(i:Nat) x,l[i]?=some x->R i x
 |0,_=>⟨[],rfl,by simp⟩
 |n+1,h=>by
  obtain⟨l,ae,b⟩:=T5 n λi a=>h i (by omega);obtain⟨x,I⟩:=h n (by simp);refine⟨l++[x],by grind,λi y ag=>?_⟩;grind
variable{v:Value}{t:TypeId}{a:Addr}{de:List aD}
section
variable {H:Type}{enc:TypeId×Value->H}{P:Program}{w:World}
abbrev Old(w:World):cR:=λb _=>b<w.heap.size
structure Rd (U:cF)(w:World)(de:List aD)(cs:List Value)(l:List (Cell U.D)):Prop where
 ty:l.map Cell.ty=de
 wf:∀c,c∈l->WF U c
 rt:aV (λc v=>bK w (Old w) (Cell.enc U c) v) l cs
theorem zk{t:aD}{x:t.den U.D}(h1:WF U ⟨t,x⟩)(a:bK w (Old w) (Cell.enc U ⟨t,x⟩) v):Rd U w [t] [v] [⟨t,x⟩]:=
 ⟨rfl,by grind,.cons a .nil⟩
theorem H8:∀{a:List (DataW H)} {d:DataW H},d∈a->∀n∈d.weights P t,n∈DataW.weightsAll P t a
 |d0::a,d,b,n,aN=>by
  simp[DataW.weightsAll];rcases dK.1 b with rfl|b
  . grind
  . exact .inr (H8 b n aN)
theorem KJ{g:TypeId->Option (List aD)}{cs:List Value}:∀{fs:List Field} {off i:Nat} {de:List aD},
 (∀f,f∈fs->∀a,g f.type=some a->∃l,Rd U w a ((cs.drop f.offset).take (P.cellsOf f.type)) l)->
 zj P g fs off i=some de->cs.length=i->∃l,Rd U w de (cs.drop off) l
 |[],off,i,de,_,h,ae=>by
  simp[zj]at h;split at h
  . rename_i e;cases h;have:=cL e;refine⟨[],rfl,by simp,?_⟩;rw[hI (by omega)];exact .nil
  grind
 |f::r,off,i,de,al,h,ae=>by
  simp only[zj]at h;split at h
  . grind
  . rename_i a n;split at h
    . grind
    . rename_i j;simp only[cK]at j;have h1:=cL j.1;have q:=cL j.2;split at h
      . grind
      . rename_i b o;cases h;obtain⟨p,k⟩:=al f (by simp) a n;obtain⟨l2,m⟩:=KJ (λf s=>al f (by grind)) o ae;refine⟨p++l2,by simp[k.ty,m.ty],?_,?_⟩
        . intro c d;rcases fH.1 d with d|d
          . exact k.wf c d
          . exact m.wf c d
        . have e:cs.drop off=(cs.drop off).take a.length++cs.drop (off+a.length):=by rw[<-wD,GB]
          rw[e];refine aV.append ?_ m.rt;have:=k.rt;grind
theorem OU{a:List aD}{cs:List Value}:∀(k off:Nat),(∀i,i<k->∃l,Rd U w a ((cs.drop (off+i*a.length)).take a.length) l)->cs.length=off+k*a.length->
 ∃l,Rd U w (List.replicate k a).flatten (cs.drop off) l
 |0,off,_,ae=>by
  refine⟨[],rfl,by simp,?_⟩;rw[hI (by omega)];exact .nil
 |k+1,off,al,ae=>by
  obtain⟨g,d⟩:=al 0 (by simp);rw[CK]at d
  obtain⟨l2,f⟩:=OU (a:=a) (cs:=cs) k (off+a.length) (λi j=>by
   grind) (by grind)
  refine⟨g++l2,by simp[d.ty,f.ty,List.replicate_succ],?_,?_⟩
  . intro c b;rcases fH.1 b with b|b
    . exact d.wf c b
    . exact f.wf c b
  . have e:cs.drop off=(cs.drop off).take a.length++cs.drop (off+a.length):=by rw[<-wD,GB]
    rw[e];exact aV.append d.rt f.rt
theorem Z6{n:Nat}{cs:List Value}(h:w.cells? 0 a n=some cs):cs.length=n/\∀j,j<n->w.cell? (a.add j)=cs[j]?:=by
 exact⟨by simpa using mapM_some_length h,λj b=>mapM_some_get h j j (by grind)⟩
theorem KK(h:w.cell? a=some v):a.spot=none/\a.block<w.heap.size:=by
 unfold World.cell? at h;split at h
 . rename_i b;split at h
   . grind
   . refine⟨by simp_all,(zF.1 b).1⟩
 grind
theorem N9{i j:Nat}(h:a.spot=none):(a.add i).add j=⟨a.block,a.off+i+j,none⟩:=by
 obtain⟨b,o,c⟩:=a;grind[Addr.add]
theorem QJ(a:U.Total){t:aD}{l:List (Cell U.D)}(h:l.map Cell.ty=t.cells U):∃x,t.row U x=l:=by
 have one:∀t,l.map Cell.ty=[t]->∃x:t.den _,l=[⟨t,x⟩]:=by
  intro t h
  match l,h with
  |[⟨b,x⟩],h=>grind
 cases t with
 |nm n=>
  obtain⟨x,I⟩:=a n l h;exact⟨x,U.mk_eq n l x I⟩
 |bool=>obtain⟨x,I⟩:=one _ h;exact⟨x,I.symm⟩
 |int k=>obtain⟨x,I⟩:=one _ h;exact⟨x,I.symm⟩
 |str=>obtain⟨x,I⟩:=one _ h;exact⟨x,I.symm⟩
 |slice t=>obtain⟨x,I⟩:=one _ h;exact⟨x,I.symm⟩
def r5(P:Program)(U:cF)(st:TypeId->Option Nat):Prop:=∀e m,st e=some m->flat P U st 60 e=some (U.de m)
def wV:List (TypeId×Nat)->TypeId->Option Nat
 |[],_=>none
 |p::l,t=>match Nat.beq p.1 t with
  |true=>some p.2
  |false=>wV l t
def zl(P:Program)(U:cF)(st:TypeId->Option Nat)(t:TypeId)(de:List aD):Bool:=
 match flat P U st 60 t with
 |some a=>Fg a de
 |none=>false
theorem IZ{st:TypeId->Option Nat}(h:zl P U st t de=true):flat P U st 60 t=some de:=by
 grind[zl,L3]
theorem L4:∀{l:List (TypeId×Nat)} {t m},wV l t=some m->(t,m)∈l
 |p::l,t,m,h=>by
  simp[wV]at h;split at h
  . grind[cL]
  . exact .tail _ (L4 h)
theorem aei{l:List (TypeId×Nat)}(h:(l.all λp=>zl P U (wV l) p.1 (U.de p.2))=true):r5 P U (wV l):=by
 intro e m he;rw[e']at h;exact IZ (h _ (L4 he))
theorem Y9{st:TypeId->Option Nat}(g:r5 P U st){n:Nat}{e:TypeId}(ht:P.underlying t=some (.slice e))(h:flat P U st (n+1) t=some de):
 ∃ty a cT,de=[.slice ty]/\flat P U st cT e=some a/\a=ty.cells U/\1<=P.bytesOf e/\tG a<=P.bytesOf e:=by
 simp[flat,ht]at h;split at h
 . rename_i m f;split at h
   . rename_i b;cases h;simp only[cK]at b;exact⟨.nm m,U.de m,60,rfl,g e m f,rfl,rr b.1,rr b.2⟩
   grind
 . split at h
   . grind
   . rename_i a c;split at h
     . grind
     . rename_i b;have d:1<=P.bytesOf e/\tG a<=P.bytesOf e:=(by simp_all);split at h
       . rename_i ty;split at h
         . grind
         . rename_i aN;cases h;refine⟨ty,[ty],n,rfl,c,?_,d⟩;cases ty<;>first|rfl|cases aN
       grind
theorem KL(ay:U.Total){st:TypeId->Option Nat}(aw:r5 P U st):∀(R n:Nat) (t:TypeId) (cs:List Value) (x:DataW H×List MemPlace) (de:List aD),
 DataW.trod enc P w 0 (λ_=>true) true R t cs=some x->flat P U st n t=some de->(∀k,k∈x.1.weights P t->k<=reachBytes)->∃l,Rd U w de cs l:=by
 intro R;induction R with
 |zero=>simp_all[DataW.trod]
 |succ m ih=>
  intro n t cs x de h p Q;cases n with
  |zero=>cases p
  |succ n=>
  have ap:=p;simp only[flat]at p;split at p
  . rename_i o;cases p;obtain⟨b,rfl,rfl⟩:=DataW.trod_bool o h;exact⟨_,zk (.bool b) (.bool b)⟩
  . rename_i k o;cases p;obtain⟨i,rfl,rfl,ax⟩:=DataW.trod_int o h;exact⟨_,zk (.int k i ax) (.int k i)⟩
  . rename_i o;cases p;obtain⟨s,rfl,rfl,hs⟩:=DataW.trod_string o h;have h1:s.data.toList.length<=reachBytes:=Q _ (by simp[DataW.weights]);have A:s.data.toList.length=s.size:=zv;refine⟨_,zk (.str s.data.toList h1) (.str s ?_)⟩;grind[reachBytes,ft]
  . rename_i e o;obtain⟨ty,a,cT,rfl,F,ab,am,an⟩:=Y9 aw o ap;rcases DataW.trod_slice o h with⟨rfl,rfl⟩|⟨g,len,cap,B,rest,ak,K,rfl,rfl,_,aA,_,az,G,_,_⟩
    . refine⟨_,zk (.slice ty [] (ia _) (by simp) (by simp)) ?_⟩;exact .slice [] none 0 0 0 0 (λ_ _=>default) (by simp) (by simp) (by simp) (by simp) (by simp) (by simp)
    . cases K;have aB:(B.length+rest.length)*P.bytesOf e<=reachBytes:=by
       simp_all[DataW.weights]
      have N:len<=reachBytes:=by
       have h1:B.length+rest.length<=(B.length+rest.length)*P.bytesOf e:=Gy _ am;omega
      have J:len*tG a<=reachBytes:=by
       have h1:len*tG a<=(B.length+rest.length)*P.bytesOf e:=Nat.mul_le_mul (by omega) an;omega
      have dA:∀i,i<len->∃M:ty.den U.D,∃z,z.length=P.cellsOf e/\(∀j,j<P.cellsOf e->w.cell? ((g.add (i*P.cellsOf e)).add j)=z[j]?)/\Rd U w a z (ty.row U M):=by
       intro i u;have T:=G i u;have ao:B[i]?=some B[i]:=eC (by omega);rw[ao]at T;cases E:w.cells? 0 (g.add (i*P.cellsOf e)) (P.cellsOf e)with
       |none=>grind
       |some z=>
        rw[E]at T;obtain⟨h1,A⟩:=Z6 E
        obtain⟨l,ae⟩:=ih cT e z _ a T F (λk X=>Q k (by
         simp only[DataW.weights,o,dK,fH];right;left
         exact H8 (eA.2 ⟨B[i],wC _,rfl⟩) k X))
        obtain⟨M,aE⟩:=QJ ay (t:=ty) (by rw[ae.ty,ab]);grind
      obtain⟨xs,ah,aj⟩:=T5 len dA;have aa:len≠0->P.cellsOf e=ty.sz U/\0<P.cellsOf e:=by
       intro L;obtain⟨M,z,h1,_,C⟩:=dA 0 (by omega);have y:=C.rt.length;rw[aD.G5,h1]at y;exact⟨y.symm,by rw[<-y];exact aD.rI⟩
      have Z:len≠0->g.spot=none:=by
       intro L;obtain⟨M,z,h1,A,C⟩:=dA 0 (by omega);have h0:=A 0 (aa L).2;rw[eC (by rw[h1];exact(aa L).2)]at h0;have bj:=(KK h0).1;simpa[Addr.add]using bj
      have ai:∀x,x∈xs->∃i:Nat,xs[i]?=some x/\i<len:=by
       intro x I;obtain⟨i,u⟩:=GC.1 I;grind
      refine⟨_,zk (t:= .slice ty) (x:=xs) (.slice ty xs (by omega) (by rw[ah];unfold aD.bytes;rw[<-ab];exact J) ?_) ?_⟩
      . intro x I c E;obtain⟨i,u,_⟩:=ai x I;obtain⟨z,_,_,C⟩:=aj i x u;exact C.wf c E
      . have J:(xs.map (ty.enc U)).length=len:=(by simp[ah]);rw[<-J];refine .slice (xs.map (ty.enc U)) (some g) cap (P.cellsOf e) g.block g.off (λi j=>(w.cell? ⟨g.block,g.off+i*P.cellsOf e+j,none⟩).getD default) (by omega) ?_ ?_ ?_ ?_ ?_
        . rw[J];unfold reachBytes at N;unfold c1;omega
        . intro r O;obtain⟨x,I,rfl⟩:=eA.1 O;obtain⟨i,_,u⟩:=ai x I;rw[aD.sj];exact(aa (by omega)).1.symm
        . intro L;have ar:len≠0:=by intro h0;apply L;rw[<-List.length_eq_zero_iff];omega
          have:=Z ar;rw[show g=⟨g.block,g.off,g.spot⟩from rfl,this]
        . intro i j u W;rw[J]at u;obtain⟨M,z,h1,A,C⟩:=dA i u;have y:=A j W;rw[eC (by omega)]at y;have Y:=Z (by omega);have aC:(g.add (i*P.cellsOf e)).add j=⟨g.block,g.off+i*P.cellsOf e+j,none⟩:=N9 Y;rw[aC]at y;exact⟨(KK y).2,by rw[y];rfl⟩
        . intro i j r aF O af;rw[ru,bn]at O;obtain⟨x,I,rfl⟩:=O;obtain⟨z,h1,A,C⟩:=aj i x I;have u:i<len:=by have:=(dH.1 I).1;omega
          rw[aD.u0,ru,bn]at af;obtain⟨c,E,rfl⟩:=af;obtain⟨v,ag,av⟩:=C.rt.get E;have W:j<P.cellsOf e:=by have:=(dH.1 ag).1;omega
          have y:=A j W;have Y:=Z (by omega);have aC:(g.add (i*P.cellsOf e)).add j=⟨g.block,g.off+i*P.cellsOf e+j,none⟩:=N9 Y;rw[aC,ag]at y;rw[y];exact av
  . rename_i fs o;obtain⟨xs,ak,K,rfl,ae,N,G⟩:=DataW.trod_struct o h;cases K
    have:=KJ (U:=U) (w:=w) (P:=P) (cs:=cs) (fs:=fs.toList) (off:=0) (λf aq a F=>by
     obtain⟨i,u⟩:=GC.1 aq;have V:fs[i]?=some f:=(by simpa using u);have al:=G i f V;have ad:i<xs.length:=by rw[N];exact(zF.1 V).1
     rw[eC ad]at al
     exact ih n f.type _ _ a al F (λk X=>Q k (by
      simp only[DataW.weights,o]
      exact DataW.weights_mem_each (j:=i) (t:=f.type) (d:=xs[i].1) (by simp[V]) (by simp[ad]) k X))) p ae
    simpa using this
  . rename_i k e o;split at p
    . cases p
    . rename_i a F;split at p
      . cases p
      . rename_i S;cases p;simp only[cK]at S;have h1:=cL S.1;have A:=cL S.2;obtain⟨xs,ak,K,rfl,ae,N,G⟩:=DataW.trod_array o h;cases K
        have:=OU (U:=U) (w:=w) (a:=a) (cs:=cs) k 0 (λi u=>by
         have al:=G i u;rw[eC (by omega)]at al
         obtain⟨l,ae⟩:=ih n e _ _ a al F (λq au=>Q q (by
          simp only[DataW.weights,o]
          exact H8 (eA.2 ⟨xs[i],wC _,rfl⟩) q au))
         rw[A]at ae
         exact⟨l,by rw[gx];exact ae⟩) (by rw[ae,h1,gx])
        simpa using this
  . cases p
end
end
section
open Go Go.ChangeShapes Go.WideShapes Go.RowKit
variable {U:cF}
def isAgg(P:Program)(t:TypeId):Bool:=
 match P.underlying t with
 |some (.struct _)=>true
 |some (.array _ _)=>true
 |_=>false
def nc(P:Program)(U:cF)(st:TypeId->Option Nat):List TypeId->List du->List aD->Bool
 |[],[],[]=>true
 |t::ts,.row m::a,.nm b::de=>(Nat.beq m b&&(isAgg P t&&zl P U st t (U.de m)))&&nc P U st ts a de
 |t::ts,.c (.hole ty)::a,d::de=>(aD.beq ty d&&(!ty.u7&&(!isAgg P t&&zl P U st t [ty])))&&nc P U st ts a de
 |_,_,_=>false
variable{b0 N f:Nat}{v:Value}{t:TypeId}{D:Nat->Type}{ts:List aD}{eK:List du}{a:List MemPlace}
section
variable {H:Type}{enc:TypeId×Value->H}{P:Program}{w:World}{φ:cU}
theorem Sr{st:TypeId->Option Nat}:∀{d:List TypeId} {b:List du} {de:List aD},nc P U st d b de=true->d.length=de.length
 |[],[],[],_=>rfl
 |[],[],_::_,h=>by cases h
 |[],_::_,_,h=>by cases h
 |_::_,[],_,h=>by cases h
 |_::_,a::_,[],h=>by
  cases a with
  |c x=>cases x<;>cases h
  |_=>cases h
 |t::ts,a::b,ty::de,h=>by
  have:nc P U st ts b de=true:=by
   cases a with
   |row m=>cases ty with
    |nm e=>grind[nc]
    |_=>cases h
   |c x=>cases x with
    |hole ty=>grind[nc]
    |_=>cases h
   |_=>cases h
  simp[Sr this]
theorem Y'{r:Reach}(hs:isAgg P t=true)(h:Value.okWide P w r b0 t v):∃cs,v= .agg cs:=by
 grind[isAgg,Value.okWide]
theorem Za{r:Reach}(hs:isAgg P t=false)(h:Value.okWide P w r b0 t v):v.cells=#[v]:=by
 unfold isAgg at hs;unfold Value.okWide at h;have a:Cell.okWide P w r b0 t v:=by grind
 cases v with
 |agg cs=>
  simp_all[Cell.okWide,Cell.ok]
 |_=>rfl
theorem S7{S:cR}:∀{l:List (Cell U.D)} {vs:List Value},aV (λc v=>bK w S (Cell.enc U c) v) l vs->aV (bk φ w S) ((l.map bd.t).map bd.oO) vs
 |[],[],.nil=>.nil
 |c::l,v::vs,.cons h1 a=>.cons h1 (S7 a)
theorem KM(g:U.Total)(φ:cU){st:TypeId->Option Nat}(A:r5 P U st){b0:Nat}:∀(ts:List TypeId) (e:List du) (de:List aD) (args:List Value) (f:List (DataW H)) (ps:List MemPlace),
 nc P U st ts e de=true->(∀(j:Nat) t v,ts[j]?=some t->args[j]?=some v->Value.okWide P w .any b0 t v)->
 DataW.TrodAll enc P w 0 (λ_=>true) true ts args f ps->(∀k,k∈DataW.weightsEach P ts f->k<=reachBytes)->
 ∃(l:ep U) (xs:List (bA U)),l.map Cell.ty=de/\(∀c,c∈l->∀d,d∈c.ty.row U c.val->WF U d)/\jD e l=(xs,[])/\(∀x,x∈xs->gp x=true)/\aV (bS φ w (Old w)) (xs.map fw) args
 |[],[],[],args,f,ps,_,_,ht,_=>by
  obtain⟨rfl,rfl,rfl⟩:=trodAll_nil ht;exact⟨[],[],rfl,by simp,rfl,by simp,.nil⟩
 |t::ts,K::e,ty::de,args,f,ps,ai,D,ht,F=>by
  obtain⟨v,vs,d,L,p,q,rfl,rfl,rfl,⟨B,h1⟩,M⟩:=trodAll_cons ht;have E:=D 0 t v rfl rfl;have G:∀k,k∈d.weights P t->k<=reachBytes:=λk O=>F k (by simp_all[DataW.weightsEach,fH]);have rest:=λV=>KM g φ (st:=st) A (b0:=b0) ts e de vs L q V (λj t v ad ae=>D (j+1) t v (by grind) (by grind)) M
   (λk O=>F k (by simp_all[DataW.weightsEach,fH]))
  unfold nc at ai;split at ai
  . grind
  . rename_i t0 Y m X af aa aC n dw;cases aC;cases n;cases dw;simp only[cK]at ai;obtain⟨⟨u,hs,r⟩,z⟩:=ai;have T:=cL u;obtain⟨l,xs,Q,R,C,S,s⟩:=rest z;obtain⟨cs,rfl⟩:=Y' hs E;obtain⟨J,a⟩:=KL g A B 60 t _ _ _ h1 (IZ r) G;obtain⟨x,I⟩:=QJ g (t:= .nm m) a.ty;refine⟨⟨.nm m,x⟩::l,.agg ((aD.row U (.nm m) x).map .t)::xs,by grind,?_,?_,?_,?_⟩
    . intro c b;rcases dK.1 b with rfl|b
      . intro d o;exact a.wf d (I▸o)
      grind
    . grind[jD,l0]
    . simp_all[dK,gp,bd.rH]
    . refine .cons ?_ s;have:=S7 (φ:=φ) a.rt;rw[<-I]at this;exact bS.agg (vs:=cs.toList) this
  . rename_i t0 Y Z X ah aa aC n dw;cases aC;cases n;cases dw;simp only[cK,zy]at ai;obtain⟨⟨u,aN,hs,r⟩,z⟩:=ai;have T:=aD.beq_eq u;obtain⟨l,xs,Q,R,C,S,s⟩:=rest z;rw[Za hs E]at h1;obtain⟨J,a⟩:=KL g A B 60 t _ _ _ h1 (IZ r) G
    match J,a with
    |[],a=>cases a.ty
    |[⟨i,x⟩],a=>
     have W:i=Z:=by have:=a.ty;grind
     subst W;refine⟨⟨i,x⟩::l,.c (.t ⟨i,x⟩)::xs,by grind,?_,?_,?_,?_⟩
     . intro c b;rcases dK.1 b with rfl|b
       . intro d o;refine a.wf d ?_;cases i<;>first|exact o|cases aN
       grind
     . simp only[jD,l0,u2,C]
     . intro y ag;rcases dK.1 ag with rfl|ag
       . rfl
       grind
     . refine .cons ?_ s;cases a.rt with
       |cons N ab=>exact .c N
    |_::_::_,a=>have:=a.ty;simp at this
  grind
 |[],[],_::_,_,_,_,ai,_,_,_=>by cases ai
 |[],_::_,_,_,_,_,ai,_,_,_=>by cases ai
 |_::_,[],_,_,_,_,ai,_,_,_=>by cases ai
 |t::ts,K::e,[],_,_,_,ai,_,_,_=>by
  cases K with
  |row m=>cases ai
  |c x=>cases x<;>cases ai
  |agg l=>cases ai
  |aX l=>cases ai
theorem aP.QR:∀(ts:List aD) (l:ep U),l.map Cell.ty=ts->∃h:aP U.D ts,aP.cells U.D ts h=l
 |[],[],_=>⟨(),rfl⟩
 |[t],[⟨a,x⟩],h=>by
  have:a=t:=by grind
  subst this;exact⟨x,rfl⟩
 |t::u::r,⟨a,x⟩::l,h=>by
  simp at h;obtain⟨h1,c⟩:=h;subst h1;obtain⟨y,ag⟩:=aP.QR (u::r) l (by grind);exact⟨(x,y),by show⟨a,x⟩::aP.cells _ _ y=_;grind⟩
 |[],_::_,h=>by grind
 |_::_,[],h=>by grind
 |[_],_::_::_,h=>by grind
theorem e3.AT:∀{ts:List aD} {t:aD} (h:e3 D t ts),e3.dec D t ts (e3.cells D t ts h)=some h
 |[],t,x=>Cell.PL
 |u::r,t,x=>by
  unfold e3.dec e3.cells;simp[u4,Cell.PL];rw[e3.AT];rfl
theorem aP.AT:∀{ts:List aD} (h:aP D ts),aP.dec D ts (aP.cells D ts h)=some h
 |[],_=>rfl
 |_::_,h=>e3.AT h
theorem aP.aeq:∀{ts:List aD} {l:List (Cell D)},l.map Cell.ty=ts->∃h,aP.dec D ts l=some h:=by
 have go:∀(ts:List aD) (l:List _),l.map Cell.ty=ts->∃h:aP D ts,aP.cells D ts h=l:=by
  intro ts;induction ts with
  |nil=>intro l h;cases l with
   |nil=>exact⟨(),rfl⟩
   |cons=>grind
  |cons t r ih=>
   intro l h;cases l with
   |nil=>grind
   |cons c l=>
    obtain⟨e,x⟩:=c;simp at h;obtain⟨h1,a⟩:=h;subst h1;obtain⟨y,ag⟩:=ih l a;cases r with
    |nil=>
     cases l with
     |nil=>exact⟨x,rfl⟩
     |cons=>grind
    |cons u r=>exact⟨(x,y),by show⟨e,x⟩::aP.cells D _ y=_;grind⟩
 intro ts l h;obtain⟨y,ag⟩:=go ts l h;grind[aP.AT]
def Ok(U:cF)(ts:List aD)(h:aP U.D ts):Prop:=∀c,c∈aP.cells U.D ts h->∀d,d∈c.ty.row U c.val->WF U d
theorem adY:ck N ([]:a7 U) []:=λb x h=>by cases h
theorem Oa{J:a7 U}:∀{xs:List (bA U)},(∀x,x∈xs->gp x=true)->aV (bL N J) xs (xs.map fw)
 |[],_=>.nil
 |x::xs,h=>.cons (vS (h x (by simp))).1 (Oa λy ag=>h y (by grind))
theorem L5{k:Nat->Bool}:∀{xs:List (bA U)},(∀x,x∈xs->gp x=true)->V.az.V.dj k (xs.map fw)=true
 |[],_=>rfl
 |x::xs,h=>by
  simp[V.az.V.dj];exact⟨(vS (N:=0) (J:=[]) (h x (by simp))).2 k,L5 λy ag=>h y (by grind)⟩
theorem afA{F:aP U.D ts->Option (aP U.D [.bool])}(N:U.Total)(hs:hN P ⟨f,eK,[],ts,.c (.hole .bool),[],[.bool],F⟩)
 (M:∀h:aP U.D ts,Ok U ts h->F h=some true){st:TypeId->Option Nat}(J:r5 P U st){g:List TypeId}(ai:nc P U st g eK ts=true)
 {b0:Nat}{args:Array Value}{i:List (DataW H)}{ps:List MemPlace}(K:∀(j:Nat) t v,g[j]?=some t->args[j]?=some v->Value.okWide P w .any b0 t v)
 (ht:DataW.TrodAll enc P w 0 (λ_=>true) true g args.toList i ps)(L:∀k,k∈DataW.weightsEach P g i->k<=reachBytes):
 Calls P f args w λe w'=>e= .returned (.bool true)/\Below w.heap.size w w':=by
 obtain⟨l,xs,u,z,Q,A,B⟩:=KM N _ J _ eK ts _ i ps ai (λj t v q R=>K j t v q (by grind)) ht L;obtain⟨h,ab⟩:=aP.QR ts l u;have bc:=M h (λc m d p=>z c (ab▸m) d p)
 have o:=hs h _ bc (xs.map fw) [] (by
  show aV _ (jD eK _).1 _;grind[Oa]) (by
  exact adY)
 have:=o (λb=>(b,0)) _ w (λ_=>False) {blk:=λb x I=>(by cases I),inj:=λb O x y I=>(by simp),st:=λb j n=>n} (λb x I=>by cases I) (λb x I=>by simp)
  (L5 A) _ B
 refine this.mono λe w' ⟨v,r,a8,ba,J',N',he,⟨_,C,_⟩,G,_,_,_,a,_⟩=>?_;cases C with
 |c m=>
  cases m with
  |t c=>
   cases G with
   |c E=>
    cases E;exact⟨he,a.os,a.tape,a.output,a.size,λk s=>a.block k s (λh=>h)⟩
theorem Zb{f:Func}{s:ChangeSpec}{n zS m:Bool}{W e:World}{args:Array Value}{c gs:List (DataW H)}
 (eO:DataW.Whole enc P f.params.toList s.vars false W args.toList c gs a)(i:Below W.heap.size W e)
 (hres:∀(b:Nat) (d:Nat->Bool) (o:Bool),DataW.TrodAll enc P e b d o f.resultTypes.toList (v.resultList f.resultTypes.size) (s.fn H (c++gs)).results [])
 (g:∀d:Nat->Bool,(∀p∈a,d p.block=true)->DataW.TrodAll enc P e 0 d true f.params.toList args.toList (s.fn H (c++gs)).args a)
 (l:∀d:Nat->Bool,(∀p∈a,d p.block=true)->DataW.TrodVars enc P e d s.vars (s.fn H (c++gs)).vars [])
 (q:∀(j:Nat) (t:TypeId) (r:Value),f.resultTypes[j]?=some t->(v.resultList f.resultTypes.size)[j]?=some r->Value.okWide P e .any 0 t r):
 s.post enc P f false n zS m W args v e:=by
 have aE:=eO.lt;have k:∀p∈a,(λb=>decide (b<W.heap.size)) p.block=true:=λp ai=>by grind
 refine⟨c,gs,a,[],a,[],eO,hres _ _ _,g _ k,l _ k,i.frame _,λ_=>?_⟩;refine⟨q,(s.fn H (c++gs)).results++(s.fn H (c++gs)).args,(s.fn H _).vars,a,⟨a,[],?_,l _ (λ_ _=>rfl),by simp,?_,λh=>by grind⟩,λp ai _=>ai⟩
 . have:=trodAll_append (g _ (λ_ _=>rfl)) (hres 0 (λ_=>true) _);grind
 . intro b off ai;obtain⟨_,_,_,_,_,u,_⟩:=eO;rw[World.frozen?_of_block (i.block b (aE _ ai))];exact u b _ ai
theorem afB{fn:Func}{s:ChangeSpec}{F:aP U.D ts->Option (aP U.D [.bool])}(af:U.Total)
 (hs:hN P ⟨f,eK,[],ts,.c (.hole .bool),[],[.bool],F⟩)
 (ae:∀h:aP U.D ts,Ok U ts h->F h=some true){st:TypeId->Option Nat}(X:r5 P U st)(ai:nc P U st fn.params.toList eK ts=true)
 {B:TypeId}(hres:fn.resultTypes=#[B])(htb:P.underlying B=some .bool)(u:s.vars=[])
 (M:∀g:List (DataW H),g.length=ts.length->(s.fn H g).results=[.lit (.bool true)]/\(s.fn H g).args=g/\(s.fn H g).vars=[])
 (n:(laidOutB P&&mapsRowed P)=true)(Q:fn.params.toList.all (λt=>decide (t<P.types.size))=true)
 (V:((List.range P.types.size).all λt=>match P.underlying t with|some (.slice e)=>decide (0<P.cellsOf e)|_=>true)=true)
 {W:World}{base:Nat}{args:Array Value}{g gs:List (DataW H)}{E:List MemPlace}{G zS C:Bool}
 (Z:∀(j:Nat) t v,fn.params[j]?=some t->args[j]?=some v->Value.okWide P W .any base t v)
 (eO:DataW.Whole enc P fn.params.toList s.vars false W args.toList g gs E)
 (N:(DataW.weightsEach P (fn.params.toList++s.plain.varTypes P) (g++gs)).all (· <=reachBytes)=true):
 Calls P f args W λe m=>∃v,e= .returned v/\s.post enc P fn false G zS C W args v m:=by
 have y:=eO;obtain⟨p,q,w,hS,rfl,aj,bV⟩:=eO;rw[u]at hS;obtain⟨rfl,rfl⟩:=trodVars_none hS;have ad:s.plain.varTypes P=[]:=by show s.vars.filterMap _=[]<;>simp[u]
 rw[ad,rC,rC,e']at N;have O:g.length=ts.length:=by
  have h1:∀{i:List TypeId} {vs:List Value} {g:List (DataW H)} {ps:List MemPlace},DataW.TrodAll enc P W 0 (λ_=>true) true i vs g ps->g.length=i.length:=by
   intro i;induction i with
   |nil=>grind[trodAll_nil]
   |cons t r ih=>grind[trodAll_cons]
  grind[Sr]
 obtain⟨R,S,T⟩:=M g O;simp only[cK]at n;have K:=kids_rows n.1 n.2;have Y:=slices_full_of P V;refine(afA af hs ae X ai (λj t v ak aa=>Z j t v (by grind) aa) w (λk al=>by grind)).mono λe m ⟨he,z⟩=>?_;subst he;refine⟨_,rfl,Zb y z ?_ ?_ ?_ ?_⟩
 . intro b l ah;rw[rC,R,hres];exact trodAll_cons_mk (shut_bool htb _) trodAll_mk0
 . intro l A;rw[rC,S];have aE:=y.lt;have ee:=λt ht=>by simpa using e'.1 Q t ht
   have go:∀ {i:List TypeId} {vs:List Value} {g:List (DataW H)} {ps:List MemPlace},(∀ t,t∈i->t<P.types.size)->(∀ p∈ps,p.block<W.heap.size/\l p.block = true)->
    DataW.TrodAll enc P W 0 (λ_=>true) true i vs g ps->DataW.TrodAll enc P m 0 l true i vs g ps:=by
    intro i;induction i with
    |nil=>intro vs g ps _ _ h;obtain⟨rfl,rfl,rfl⟩:=trodAll_nil h;exact trodAll_mk0
    |cons t r ih=>
     intro vs g ps ee o h;obtain⟨v,am,d,ag,a,b,rfl,rfl,rfl,⟨J,h1⟩,L⟩:=trodAll_cons h;refine⟨a,b,⟨J,DataW.trod_stays K (λ{t e}=>Y t e) (by intro ab;cases ab) (ee t (by simp)) h1 (λx I=>z.same (o x (by simp[I])).1) (λx I=>(o x (by simp[I])).2)⟩,ih (λt ht=>ee t (by simp[ht])) (λx I=>o x (by simp[I])) L,rfl⟩
   rw[rC];exact go ee (λx I=>⟨aE x (by simp[I]),A x (by simp[I])⟩) w
 . intro l A;rw[rC,T,u];rfl
 . exact ok_one hres rfl (okWide_bool_mk htb _)
end
end
section
open Go
theorem xB{a b:Int}(h1: -9223372036854775808<=a+b)(c:a+b<=9223372036854775807):aT .i64 a b=a+b:=by grind[aT,IntKind.wrap_i64]
theorem jX{a b:Int}(h1: -9223372036854775808<=a+b:=by omega)(c:a+b<=9223372036854775807:=by omega):aT .i64 a b=a+b:=xB h1 c
theorem uI{a b:Int}(h1: -9223372036854775808<=a-b)(c:a-b<=9223372036854775807):dY .i64 a b=a-b:=by grind[dY,IntKind.wrap_i64]
theorem kY{a b:Int}(h1: -9223372036854775808<=a-b:=by omega)(c:a-b<=9223372036854775807:=by omega):dY .i64 a b=a-b:=uI h1 c
theorem nj{a:Int}(h1: -9223372036854775808<=a:=by omega)(b:a<=9223372036854775807:=by omega):b7 .i64 a=a:=by grind[b7,IntKind.wrap_i64]
theorem bu{k n:Nat}(h:k<n):aQ (k:Int) n=true:=by grind[aQ]
theorem hY{k n:Nat}(h:k<n:=by omega):aQ (k:Int) n=true:=bu h
theorem bx(k:Nat):(k:Int).toNat=k:=gR k
theorem me{a:Int}(h0:0<=a)(h1:a<18446744073709551616):IntKind.u64.wrap a=a:=by grind[IntKind.wrap_u64]
variable{a:Nat}{α:Type}
theorem j8(h1:a<18446744073709551616:=by omega):b7 .u64 (a:Int)=a:=me (by simp) (by omega)
theorem Ia:(2:Nat)^64=18446744073709551616:=by rfl
theorem Ob{b:Nat}(c:a<18446744073709551616)(d:b<18446744073709551616):rD .u64 (a:Int) (b:Int)=((a ||| b:Nat):Int):=by
 have e:a ||| b<2^64:=Nat.or_lt_two_pow (by grind) (by grind);show IntKind.u64.wrap (BitVec.ofInt 64 _ ||| BitVec.ofInt 64 _).toNat=_;grind[me]
theorem OV{n c i:Nat}(h:n<2^i):n ||| (c*2^i)=n+c*2^i:=by rw[Nat.or_comm,Nat.mul_comm,<-Nat.two_pow_add_eq_or_of_lt h,Nat.add_comm]
theorem aa8{b:Nat}(a:b<256):AN .u8 (b:Int) 127=((b%128:Nat):Int):=by
 have e:(BitVec.ofInt 8 b &&& BitVec.ofInt 8 (127:Nat)).toNat=b%128:=by
  rw[wN,wN,BitVec.toNat_and,zx,rv (by omega)];exact Nat.and_two_pow_sub_one_eq_mod b 7
 show IntKind.u8.wrap (BitVec.ofInt 8 _ &&& BitVec.ofInt 8 (127:Nat)).toNat=_;grind[IntKind.wrap_u8]
theorem L6{k:Nat}(b:k<=64)(h:a*2^k<18446744073709551616):ni .u64 (a:Int) (k:Int)=((a*2^k:Nat):Int):=by
 grind[ni,IntKind.bits,me]
theorem Ae(h:a<18446744073709551616):iC .u64 (a:Int) 2=((a/2:Nat):Int):=by
 grind[iC,me]
theorem agv{b:Nat}:cd (a:Int) (b:Int)=((a%b:Nat):Int):=by rfl
theorem Gv{b:Nat}(h:a*b<18446744073709551616):ky .u64 (a:Int) (b:Int)=((a*b:Nat):Int):=by
 grind[ky,me]
theorem adZ{a b:Int}(h1: -9223372036854775808<=a*b)(c:a*b<=9223372036854775807):ky .i64 a b=a*b:=by grind[ky,IntKind.wrap_i64]
theorem PJ{b:Nat}(h:a+b<18446744073709551616):aT .u64 (a:Int) (b:Int)=((a+b:Nat):Int):=by
 grind[aT,me]
theorem acX{b:Nat}(h:a+b<=9223372036854775807):aT .i64 (a:Int) (b:Int)=((a+b:Nat):Int):=by grind[xB]
theorem FK(h:a<9223372036854775807):aT .i64 (a:Int) 1=((a+1:Nat):Int):=by grind[xB]
theorem cg(h:a<9223372036854775807:=by omega):aT .i64 (a:Int) 1=((a+1:Nat):Int):=FK h
theorem yF(s:ar)(i:Nat):h4 s (i:Int)=((s.getD i 0).toNat:Int):=by rfl
theorem JB(s:ar)(i:Nat):(s.getD i 0).toNat<256:=CH _
theorem sv(l:List α)(k:Nat):eZ l (k:Int) (l.length:Int)=l.drop k:=by simp[eZ]
theorem we(l:List α)(k:Nat):eZ l 0 (k:Int)=l.take k:=by rfl
theorem mU{b n:Nat}(h1:a<=b)(c:b<=n):eH (a:Int) (b:Int) n=true:=by grind[eH]
theorem Lz(a b:Nat):dU (a:Int) (b:Int)=((min a b:Nat):Int):=by grind[dU]
theorem dv{k n:Nat}(a:k<=1000:=by omega)(h:n<=100000:=by simp;omega):room k n=true:=by
 unfold room gJ c1;simp;have:(2*n+192)*k<=200192*1000:=Nat.mul_le_mul (by omega) a;omega
end
section
open Go Go.Proofs Go.Proofs.YtklfhpkljddjbaaGreatDoor Go.Sort Go.RowKit
variable {P:Program}{α:Type}[Inhabited α]
theorem UW(w:World)(blk:Nat)(f:Array Value->Array Value){b:Nat}(h:b≠blk):(mapBlock w blk f).heap[b]?=w.heap[b]?:=by simp[mapBlock,GA,dn h]
theorem Wn(w:World)(blk:Nat)(f:Array Value->Array Value){c:Array Value}{E:TypeId}{a:Nat×Nat}(h:w.heap[blk]?=some (.cells c E a)):(mapBlock w blk f).heap[blk]?=some (.cells (f c) E a):=by
 simp[mapBlock,GA,h,onCells]
theorem aa9{g k:Nat}(enc:α->List Value)(l:α->List T)(F:Array α->Array α)(aP:∀x,(enc x).length=k)(L:∀x,(l x).length=k)(H:0<k)
 (aM:∀(w:World) (S:cR) (x:α) (j:Nat) (t:T) (v:Value),(l x)[j]?=some t->bK w S t v->(enc x)[j]?=some v)
 (bc:∀d:Array α,(F d).size=d.size/\∀x,x∈(F d).toList->x∈d.toList)
 (ap:∀(blk off cap:Nat) (d:Array α) (w:World),HoldsK enc k w blk off d->blk<w.heap.size->d.size<4611686018427387904->
  Calls P f #[.slice (some ⟨blk,off,none⟩) d.size cap,.func (.func g) #[] #[]] w λe w'=>e= .returned (.tuple #[])/\∃n os,w'=sortWorldK enc k w blk off n (F d) os)
 (aI:∀(p:Option Addr) (cap:Nat) (aj:Value) (w:World),Calls P f #[.slice p 0 cap,aj] w λe w'=>e= .returned (.tuple #[])/\w'=w)
 {J:a6}{d:List α}(h0:aR J 0=some (.arr k (d.map l)))(ay:0<kk):
 d' P f [.c (.arr 0 k 0 d.length),.c (.fn g [])] J kk (λr J' N'=>r= .aX []/\J'=cW J 0 (.arr k ((F d.toArray).toList.map l))/\N'=kk):=by
 intro φ S w B o aT aJ aN vs G;cases G with|cons u G=>
 cases G with|cons N G=>
 cases G;cases u with|c u=>
 cases N with|c N=>
 obtain⟨a,rfl,al,aQ⟩:=u;have aK:_=Value.func (.func g) #[] #[]:=N;subst aK;obtain⟨ae,Z,aS,_,an⟩:=o.blk 0 _ h0;rw[jH]at ae Z;obtain⟨ah,aF⟩:=bc d.toArray;have W:∀ w':World,Ext B S S w w'->oJ φ w' S (cW J 0 (.arr k ((F d.toArray).toList.map l)))->∃ v r a8 ba J' N',Ending.returned (Value.tuple #[]) = Ending.returned v/\(r = V.aX []/\J' = cW J 0 (.arr k ((F d.toArray).toList.map l))/\N' = kk)/\bS a8 w' ba r v/\r.az (lt N') = true/\oJ a8 w' ba J'/\(∀ (b:Nat) x,aR J' b = some x->b<N'/\x.az (lt N') = true)/\Ext B S ba w w'/\
  (∀(b:Nat) x,aR J' b=some x->(a8 b).2≠0->B (a8 b).1\/w.heap.size<=(a8 b).1)/\∀b,b<kk->a8 b=φ b:=by
  intro w' dA aA;refine⟨_,.aX [],φ,S,_,kk,rfl,⟨rfl,rfl,rfl⟩,.aX [] [] rfl (by simp),rfl,aA,λb x I=>?_,dA,λb x I m=>?_,λ_ _=>rfl⟩
  . rw[cS]at I;split at I
    . rename_i m;cases I;subst m;exact⟨ay,rfl⟩
    grind
  grind[cS]
 by_cases K:(φ 0).2=0
 ·
  have aq:d=[]:=kz (by omega);subst aq;refine(aI a _ _ w).mono ?_
  rintro e w' ⟨rfl,rfl⟩
  have he:(F ([]:List α).toArray).toList.map l=([]:List α).map l:=by grind
  refine W _ Ext.refl ?_;rw[he];refine⟨λb x I=>?_,λb A x y I ag=>?_,o.st⟩
  . rw[cS]at I;split at I
    . rename_i m;cases I;subst m;exact o.blk _ _ h0
    . exact o.blk b x I
  . have key:∀b x,aR (cW J 0 (.arr k (([]:List α).map l))) b=some x->∃z,aR J b=some z:=by
     intro b x I;rw[cS]at I;grind
    obtain⟨z,O⟩:=key b x I;obtain⟨U,R⟩:=key A y ag;exact o.inj b A z U O R
 . obtain⟨vs,E,ab,ai,ao,aa⟩:=an K;rw[al K];have af:∀(i j:Nat) (t:T) (x:α),d[i]?=some x->(l x)[j]?=some t->∃v,vs[i*k+j]?=some v/\bK w S t v/\(enc x)[j]?=some v:=by
    intro i j t x q s;obtain⟨v,u,ad⟩:=ao i j (l x) t (by rw[ru,q];rfl) s;grind
   have X:(φ 0).1<w.heap.size:=(by grind);have ak:HoldsK enc k w (φ 0).1 (0*k) d.toArray:=by
    intro j s;rw[size_flatK]at s;have aw:j<d.length*k:=(by simpa using s);have q:j/k<d.length:=(Nat.div_lt_iff_lt_mul H).2 aw;have D:j%k<k:=Nat.mod_lt _ H;have I:d[j/k]?=some d[j/k]:=eC q;have aD:j%k<(l d[j/k]).length:=by rw[L];exact D
    obtain⟨v,u,_,he⟩:=af (j/k) (j%k) _ _ I (eC aD);have ax:j/k*k+j%k=j:=by rw[Nat.mul_comm];exact Nat.div_add_mod j k
    rw[ax]at u;refine⟨?_,by simp[World.frozen?,ab]⟩;rw[CK,gx,iq ab,u,get_flatK _ _ _ _ s];grind
   have az:d.toArray.size<4611686018427387904:=by
    have:c1=281474976710656:=rfl;simp;omega
   refine(ap (φ 0).1 (0*k) _ d.toArray w ak X az).mono ?_
   rintro e w' ⟨rfl,n,os,rfl⟩
   have M:∀b:Nat,b<w.heap.size->b≠(φ 0).1->(sortWorldK enc k w (φ 0).1 (0*k) n (F d.toArray) os).heap[b]?=w.heap[b]?:=by
    intro b m aG;unfold sortWorldK putRowK putRow;rw[heap_grow_old _ _ (by simpa[mapBlock,Go.Sort.ahead]using m),UW _ _ _ aG];rfl
   have aH:(sortWorldK enc k w (φ 0).1 (0*k) n (F d.toArray) os).heap[(φ 0).1]?=some (.cells (putCells id (0*k) (flatK enc k (F d.toArray)) vs.toArray).toList.toArray E (0,0)):=by
    unfold sortWorldK putRowK putRow;rw[heap_grow_old _ _ (by simpa[mapBlock,Go.Sort.ahead]using X),Wn (Go.Sort.ahead w n) _ _ (by exact ab)]
   have D:fY w S _ S:=⟨λ_ _ h=>h,λb j h=>rh (M b (o.st b j h) (λe=>aa j (e▸h))) j⟩
   refine W _ ⟨rfl,rfl,rfl,?_,λb m c9=>M b m (λe=>c9 (e▸aJ 0 _ h0 K)),D,λ_ _ h=>.inl h⟩ ⟨λb x I=>?_,λb A x y I ag=>?_,λb j h=>?_⟩
   . unfold sortWorldK putRowK putRow;simp[grow,mapBlock,Go.Sort.ahead]
   . rw[cS]at I;split at I
     . rename_i m;cases I;subst m;refine⟨by simpa[ah]using ae,by simpa[ah]using Z,λe he=>?_,H,λ_=>⟨_,E,aH,by simpa[putCells]using ai,λi j e t q s=>?_,aa⟩⟩
       . obtain⟨x,_,rfl⟩:=eA.1 he;exact L x
       . rw[ru]at q;cases Q:(F d.toArray).toList[i]? with
         |none=>rw[Q]at q;cases q
         |some x=>
          rw[Q]at q;have:e=l x:=(oh q).symm;subst this;have I:x∈d:=(by simpa using aF x (eN Q));obtain⟨aL,au,ar⟩:=gQ I;obtain⟨v,u,ad,he⟩:=af aL j t x (by rw[eC au,ar]) s;refine⟨v,?_,bK.mono D ad⟩;have aO:j<k:=by rw[<-L x];exact(dH.1 s).1
          have av:i<(F d.toArray).size:=(by grind);have aE:i*k+j<(F d.toArray).size*k:=by
           have:=eM k (show i+1<=(F d.toArray).size from av);grind
          have aB:i*k+j<vs.length:=by
           rw[ai];refine jf aE (eM k ?_);grind
          have d1:(i*k+j)/k=i:=(blk_iff k i _ H).1 ⟨by omega,by omega⟩;have d2:(i*k+j)%k=j:=by rw[Nat.mod_eq_sub_div_mul,d1];omega
          have aC:(F d.toArray)[i]! =x:=(by grind);have:(putCells id (0*k) (flatK enc k (F d.toArray)) vs.toArray).toList[i*k+j]?=some ((flatK enc k (F d.toArray))[i*k+j]!):=by
           rw[zK];simp only[putCells,Array.getElem?_mapIdx];rw[show vs.toArray[i*k+j]?=some vs[i*k+j] by simp[aB]];simp[size_flatK,aE]
          rw[this,get_flatK _ _ _ _ aE,d1,d2,aC,List.getElem!_eq_getElem?_getD,he];rfl
     . rename_i m;have am:b≠0:=λe=>m (by simp[e]);refine cQ.mono (n:=λ_=>true) D (λ_ _=>rfl) rfl (by cases x<;>simp[bJ.az,C.mw]) (λY=>M _ ((o.blk b x I).jh Y) (o.inj b 0 x _ I h0 am Y K)) (o.blk b x I)
   . have key:∀b x,aR (cW J 0 (.arr k ((F d.toArray).toList.map l))) b=some x->∃z,aR J b=some z:=by
      intro b x I;rw[cS]at I;grind
     obtain⟨z,O⟩:=key b x I;obtain⟨U,R⟩:=key A y ag;exact o.inj b A z U O R
   . have:=o.st b j h;unfold sortWorldK putRowK putRow;simp[grow,mapBlock,Go.Sort.ahead];omega
def j4(lt:α->α->Bool)(l:List α):List α:=(pdq lt l.toArray 0 l.length (Lib.bitLen l.length) true true).toList
theorem Iy{lt:α->α->Bool}(a:SWO lt)(l:List α):(j4 lt l).Perm l:=by
 obtain⟨⟨hs,_,ai⟩,_⟩:=pdq_sorts lt a l.toArray 0 l.length (Lib.bitLen l.length) true true (ia _) (by simp) (Or.inl rfl);grind[Array.extract_size,j4]
theorem XQ{lt:α->α->Bool}(a:SWO lt)(l:List α):(j4 lt l).length=l.length:=(Iy a l).length_eq
theorem XR{lt:α->α->Bool}(a:SWO lt)(l:List α):(j4 lt l).Pairwise λx y=>lt y x=false:=by
 obtain⟨⟨hs,_,_⟩,aA⟩:=pdq_sorts lt a l.toArray 0 l.length (Lib.bitLen l.length) true true (ia _) (by simp) (Or.inl rfl);have e:=XQ a l;rw[wJ];intro i j c d b;have:=aA i j (ia _) b (by grind);grind[j4]
def E7(U:cF)(f n g:Nat)(F:List (U.D n)->List (U.D n)):ca U:=
 ⟨f,[.c (.arr 0),.c (.fn g [])],[.arr (.nm n)],[.slice (.nm n)],.aX [],[.arr (.nm n)],[.slice (.nm n)],λ(l:List (U.D n))=>some (F l)⟩
theorem LA{n g:Nat}[Inhabited (U.D n)](enc:U.D n->List Value)(lt:U.D n->U.D n->Bool)(C:SWO lt)(K:∀x,(enc x).length=(aD.nm n).sz U)
 (E:∀(w:World) (S:cR) (x:U.D n) (j:Nat) (t:T) (v:Value),((aD.nm n).enc U x)[j]?=some t->bK w S t v->(enc x)[j]?=some v)
 (H:∀(blk off cap:Nat) (d:Array (U.D n)) (w:World),HoldsK enc ((aD.nm n).sz U) w blk off d->blk<w.heap.size->d.size<4611686018427387904->
  Calls P f #[.slice (some ⟨blk,off,none⟩) d.size cap,.func (.func g) #[] #[]] w λe w'=>e= .returned (.tuple #[])/\∃N os,w'=sortWorldK enc ((aD.nm n).sz U) w blk off N (pdq lt d 0 d.size (Lib.bitLen d.size) true true) os)
 (L:∀(p:Option Addr) (cap:Nat) (y:Value) (w:World),Calls P f #[.slice p 0 cap,y] w λe w'=>e= .returned (.tuple #[])/\w'=w):
 hN P (E7 U f n g (j4 lt)):=by
 intro l r bc Q J1 a aA;have M:=(oh bc).symm;subst M;cases a with|cons a c=>
 cases c with|cons c F=>
 cases F;obtain⟨sz,m,rfl,_,J⟩:=bL.gn a;have:=bL.Gj c;subst this;have s:Shv.aS ((E7 U f n g _).il l) 0=some _:=rfl;have k:=J _ s _ rfl;obtain⟨_,V,z,b0⟩:=aA 0 _ s;cases b0;have aC:=(dd Prod.fst k).symm;have u:=(dd Prod.snd k).symm;subst aC;subst u;have o:∀d:Array _,(j4 lt d.toList).Perm d.toList:=λd=>Iy C d.toList
 refine(aa9 enc _ (λd=>(j4 lt d.toList).toArray) K (λx=>aD.sj) aD.rI E
  (λd=>⟨by simpa using(o d).length_eq,λx I=>(o d).mem_iff.1 (by grind)⟩) (λblk off cap d w h1 A B=>?_) L z Nat.one_pos).mono ?_
 . have:=H blk off cap d w h1 A B;simpa[j4]using this
 . rintro R s1 O ⟨rfl,rfl,rfl⟩
   refine⟨rfl,.aX [] [] rfl (by simp),λb x I=>?_⟩;generalize j4 lt l=q at I⊢;have i:(if b=0 then some (cx.arr (.nm n) q)else none)=some x:=by
    rw[<-I];cases b<;>rfl
   split at i
   . rename_i G;cases i;subst G;refine⟨Nat.one_pos,_,?_,.arr (.nm n) q⟩;rw[cS];rfl
   . cases i
theorem Zc(w:World)(S:cR)(i:Int)(s:ar)(j:Nat)(t:T)(v:Value)(h:[T.int .i64 i,T.str s][j]?=some t)(a:bK w S t v):[Value.int .i64 i,Value.string ⟨s.toArray⟩][j]?=some v:=by
 match j,h with
 |0,h=>cases h;cases a;rfl
 |1,h=>cases h;cases a;rfl
theorem acY(key:α->Int):SWO (λx y=>decide (key x<key y)) where
 irrefl x:=by simp
 trans x y z h1 a:=by grind
 ntrans x y z h1 a:=by grind
end
section
open Go Go.Proofs Go.Proofs.YtklfhpkljddjbaaGreatDoor Go.Sort
def kO{α:Type}(a b:Option α):Prop:=∀r,a=some r->b=some r
theorem kO.r{α:Type}{a:Option α}:kO a a:=λ_ h=>h
theorem kO.n{α:Type}{a:Option α}:kO none a:=λ_ h=>by grind
theorem kO.b{α j:Type}{a b:Option α}{k c:α->Option j}(h:kO a b)(e:∀x,kO (k x) (c x)):kO (a>>=k) (b>>=c):=by
 intro r f;cases a with
 |none=>grind
 |some x=>rw[h x rfl];exact e x r f
theorem kO.i{α:Type}{p:Prop}[Decidable p]{a b c d:Option α}(h:kO a c)(k:kO b d):kO (if p then a else b) (if p then c else d):=by grind
variable {α:Type}[Inhabited α]
def oc(lt:α->α->Bool)(x:α):List α->List α
 |[]=>[x]
 |y::r=>if lt x y then x::y::r else y::oc lt x r
def hl(lt:α->α->Bool):List α->List α
 |[]=>[]
 |x::r=>oc lt x (hl lt r)
def kp(lt:α->α->Bool):List α->Bool
 |[]=>true
 |x::r=>r.all (λy=>lt x y||lt y x)&&kp lt r
theorem JC(lt:α->α->Bool)(x:α):∀l,(oc lt x l).Perm (x::l)
 |[]=>.refl _
 |y::r=>by
  simp[oc];split
  . rfl
  . exact((JC lt x r).cons y).trans (.swap x y r)
theorem mK(lt:α->α->Bool):∀l,(hl lt l).Perm l
 |[]=>.refl _
 |x::r=>(JC lt x _).trans ((mK lt r).cons x)
theorem T6{lt:α->α->Bool}(b:SWO lt)(x:α):∀{l:List α},l.Pairwise (λx y=>lt y x=false)->(oc lt x l).Pairwise λx y=>lt y x=false
 |[],_=>by simp[oc]
 |y::r,h=>by
  rw[h9]at h;simp[oc];split
  . rename_i d;have e:lt y x=false:=by
     cases c:lt y x with
     |false=>rfl
     |true=>have:=b.trans _ _ _ d c;rw[b.irrefl]at this;grind
    rw[h9];refine⟨λz a=>?_,h9.2 h⟩;rcases dK.1 a with rfl|a
    . grind
    . exact b.ntrans _ _ _ (h.1 z a) e
  . rw[h9];refine⟨λz a=>?_,T6 b x h.2⟩;rcases dK.1 ((JC lt x r).mem_iff.1 a)with rfl|a
    . grind
    grind
theorem I0{lt:α->α->Bool}(a:SWO lt):∀l:List α,(hl lt l).Pairwise λx y=>lt y x=false
 |[]=>.nil
 |x::r=>T6 a x (I0 a r)
theorem Lb{lt:α->α->Bool}:∀{l:List α},kp lt l=true->∀a b,a∈l->b∈l->a=b\/lt a b=true\/lt b a=true
 |x::r,h,a,b,c,e=>by
  simp[kp]at h;rcases dK.1 c with g|d<;>rcases dK.1 e with i|f
  . grind
  . grind
  . grind
  . exact Lb h.2 a b d f
theorem YS{lt:α->α->Bool}{l:List α}(ai:kp lt l=true):∀{a b:List α},a.Perm l->b.Perm l->a.Pairwise (λx y=>lt y x=false)->b.Pairwise (λx y=>lt y x=false)->a=b:=by
 intro a b d e h1 c;refine List.Perm.eq_of_pairwise (λx y I ag f g=>?_) h1 c (d.trans e.symm);grind[Lb]
theorem Oc{lt:α->α->Bool}(a:SWO lt){l:List α}(ai:kp lt l=true):j4 lt l=hl lt l:=
 YS ai (Iy a l) (mK lt l) (XR a l) (I0 a l)
def E6(lt:α->α->Bool)(l:List α):Option (List α):=if kp lt l then some (hl lt l)else none
theorem LB{lt:α->α->Bool}(a:SWO lt)(l:List α):kO (E6 lt l) (some (j4 lt l)):=by
 intro r h;grind[E6,Oc]
end
section
open Go
def dR(x:Int×Int):Value:= .agg #[.int .i64 x.1,.int .i64 x.2]
structure lH (P:Program)(mt:TypeId):Prop where
 ex:∃eG Rq it i Rp,P.underlying mt=some (.map eG Rq)/\P.underlying eG=some (.array 2 it)/\P.underlying it=some (.int .i64)/\P.info? it=some i/\i.size=1/\P.info? Rq=some Rp/\Rp.zero=some (.bool false)
def ga(ks:List (Int×Int))(x:Int×Int):Bool:=ks.any λk=>decide (k=x)
def kR(ks:List (Int×Int))(x:Int×Int):List (Int×Int):=if ga ks x then ks else ks++[x]
def hK:List (Int×Int)->List MapEntry->Prop:=aV λk e=>e.key=dR k/\e.val= .bool true
def kq(es:List MapEntry)(b':Nat):Prop:=(∀e,e∈es->e.born<b')/\(es.map (·.born)).Nodup
variable{ks:List (Int×Int)}{b':Nat}{es:Array MapEntry}{mt:TypeId}
section
variable {P:Program}{w:World}{eG it:TypeId}{i:TypeInfo}
theorem Zd(a:P.underlying it=some (.int .i64))(w:World):(Go.isAgg it).run P w= .ok false w:=by
 simp[Go.isAgg,underlying,a]
theorem aa'(k:P.underlying eG=some (.array 2 it))(n:P.underlying it=some (.int .i64))(j:P.info? it=some i)(hs:i.size=1)(x y:Int×Int)(w:World):
 (Op.equal eG (dR x) (dR y)).run P w= .ok (decide (x=y)) w:=by
 obtain⟨d,g⟩:∃d,Op.maxDepth=d+2:=⟨9998,rfl⟩
 have f:P.cellsOf it=1:=by grind[Program.cellsOf]
 have l:pK P it=some 1:=by grind[pK]
 unfold Op.equal;rw[g];unfold dR;rw[run_equalIn_array w (d+1) _ _ k j,f,List.range_eq_range'];have:=Hz (P:=P) (φ:=λ_=>(0,0)) (S:=λ_ _=>False) (w:=w) (d:=d) l (m:=2) (i:=0)
  (ps:=[.t (.int .i64 x.1),.t (.int .i64 x.2)]) (qs:=[.t (.int .i64 y.1),.t (.int .i64 y.2)]) (vs:=[.int .i64 y.1,.int .i64 y.2]) (r:=decide (x=y))
  (by
   obtain⟨a,b⟩:=x;obtain⟨c,e⟩:=y
   simp_all[List.replicate,lr,xR,cm,ay,ly,dy,dG])
  (.cons (bK.int _ _) (.cons (bK.int _ _) .nil)) (.cons (bK.int _ _) (.cons (bK.int _ _) .nil)) rfl rfl
 grind
theorem Dr(d:P.underlying eG=some (.array 2 it))(a:P.underlying it=some (.int .i64))(f:P.info? it=some i)(hs:i.size=1)(b:Bool)(x:Int×Int)(w:World):
 (Instr.checkKey b 10000 eG (dR x)).run P w= .ok () w:=by
 have e:∀w,(sizeOf it).run P w= .ok 1 w:=λw=>by simp_all[sizeOf,typeInfo]
 have c:∀v w,(Instr.checkKey b 9999 it v).run P w= .ok () w:=λv w=>by
  unfold Instr.checkKey;simp[run_underlying a]
 unfold Instr.checkKey;simp[run_underlying d,dR];simp[List.range',e,part,Zd a,c]
theorem SQ(f:P.underlying eG=some (.array 2 it))(c:P.underlying it=some (.int .i64))(d:P.info? it=some i)(hs:i.size=1)(x:Int×Int)(w:World):∀{ks:List (Int×Int)} {es:List MapEntry} (n:Nat),hK ks es->
 (ga ks x=false/\(Instr.findAsking eG (dR x) es n).run P w= .ok none w)\/
 (ga ks x=true/\∃j e,(Instr.findAsking eG (dR x) es n).run P w= .ok (some (n+j,.bool true)) w/\es[j]?=some e/\e.key=dR x/\e.val= .bool true)
 |_,_,n,.nil=>.inl ⟨rfl,by rfl⟩
 |k::ks,e::es,n,.cons h l=>by
  have he:(Op.equal eG (dR x) e.key).run P w= .ok (decide (x=k)) w:=by grind[aa']
  by_cases g:x=k
  . simp_all[ga,Instr.findAsking]
  . rcases SQ f c d hs x w (n+1) l with⟨g1,g2⟩|⟨g1,j,a,g2,g3,g4,b⟩
    . refine .inl ⟨?_,by simp_all[Instr.findAsking]⟩;grind[ga]
    . refine .inr ⟨?_,j+1,a,?_,by grind,g4,b⟩
      . simp_all[ga,List.any_cons,zE]
      . simp only[Instr.findAsking,Sem.run_bind,he,g,ew,Result.andThen_ok,cJ,cE,g2];grind
theorem Lc(a:P.underlying eG=some (.array 2 it))(b:P.underlying it=some (.int .i64))(c:P.info? it=some i)(hs:i.size=1)(x:Int×Int)(w:World){es:List MapEntry}(h:hK ks es):
 (ga ks x=false/\(Instr.findKey eG (dR x) es).run P w= .ok none w)\/
 (ga ks x=true/\∃j e,(Instr.findKey eG (dR x) es).run P w= .ok (some (j,.bool true)) w/\es[j]?=some e/\e.key=dR x/\e.val= .bool true):=by
 cases h with
 |nil=>exact .inl ⟨rfl,by simp[Instr.findKey,run_underlying a,Instr.findNow]⟩
 | @cons k e ks es h1 d=>
  have aN:Instr.findNow (.array 2 it) (dR x) (e::es) 0=none:=by
   rfl
  have:=SQ a b c hs x w 0 (.cons h1 d);simp_all[Instr.findKey,run_underlying]
theorem Z7(f:lH P mt){r:Nat}(ab:w.heap[r]?=some (.map es b'))(h:hK ks es.toList)(x:Int×Int):
 (Instr.lookup mt (.map (some r)) (dR x) false).run P w= .ok (.bool (ga ks x)) w:=by
 obtain⟨eG,k,it,i,n,d,c,a,b,hs,l,m⟩:=f.ex;have g:(zeroValue k).run P w= .ok (.bool false) w:=by simp_all [zeroValue,typeInfo]
 rcases Lc c a b hs x w h with⟨g1,g2⟩|⟨g1,j,e,g2,_⟩
 . simp[Instr.lookup,run_underlying d,qK ab,Dr c a b hs,g2,g,g1]
 . simp[Instr.lookup,run_underlying d,qK ab,Dr c a b hs,g2,g1]
theorem KN(u:lH P mt){r:Nat}(ab:w.heap[r]?=some (.map es b'))(h:hK ks es.toList)(b:kq es.toList b')(x:Int×Int):
 ∃d m,(Instr.mapUpdate mt (.map (some r)) (dR x) (.bool true)).run P w= .ok () {w with heap:=w.heap.setIfInBounds r (.map d m)}/\hK (kR ks x) d.toList/\kq d.toList m:=by
 obtain⟨eG,F,it,i,E,o,l,g,k,hs,B,C⟩:=u.ex;rcases Lc l g k hs x w h with⟨g1,g2⟩|⟨g1,j,e,g2,g3,g4,v⟩
 . refine⟨es.push {key:=dR x,val:= .bool true,born:=b'},b'+1,?_,?_,?_,?_⟩
   . simp[Instr.mapUpdate,run_underlying o,qK ab,Dr l g k hs,g2,DD _ ab]
   . simp only[kR,g1,cJ,cE,GJ];exact h.append (.cons ⟨rfl,rfl⟩ .nil)
   . intro e he;simp only[GJ,fH,na]at he;rcases he with he|rfl
     . have:=b.1 e he;omega
     simp
   . simp only[GJ,rB,jI,rq];rw[List.nodup_append];refine⟨b.2,by simp,?_⟩;intro a q c s;simp at s;obtain⟨e,he,rfl⟩:=eA.1 q;have:=b.1 e he;omega
 . refine⟨es.modify j λe=>{e with key:=dR x,val:= .bool true},b',?_,?_,?_,?_⟩
   . have A:Instr.sameBits 10000 (dR x) (dR x)=true:=(by simp[dR,Instr.sameBits]);have t:∀w,(Instr.keyThatStays (dR x) (dR x)).run P w= .ok (dR x) w:=(by simp_all[Instr.keyThatStays]);simp[Instr.mapUpdate,run_underlying o,qK ab,Dr l g k hs,g2,DD _ ab,g4,t,show es[j]?=some e by grind]
   . simp only[kR,g1,cm];rw[CA];refine aV.modify h λD p z f=>?_;grind
   . intro p f;rw[CA]at f;obtain⟨n,aN,rfl⟩:=wO.1 f;rw[List.length_modify]at aN;have:=b.1 es.toList[n] (wC aN);grind
   . have:(es.modify j λe=>{e with key:=dR x,val:= .bool true}).toList.map (·.born)=es.toList.map (·.born):=by
      rw[CA];refine GL (by simp) λn h1 y=>?_;grind
     rw[this];exact b.2
end
end
section
open Go
variable {U:cF}{P:Program}{nt:Nat}{av:Ctx}
variable{vs:List Value}{code:Code}{c:Cell U.D}{f q:Nat}{w:World}{Q:Exit->Act->World->Prop}{v:Value}{E:TypeId}{x y:Operand}{p:Int×Int}{seen:Array Nat}
section
variable {φ a8:cU}{S ba:cR}{env env':Env}{J J':a6}{n cT:Nat->Bool}{N k:Nat}{a bR:Act}{w w':World}
def Ctx.pU(w:World)(S:cR)(φ:cU)(J:a6)(k:Nat):Ctx:=⟨w,S,λb=>∃c x,aR J c=some x/\(φ c).2≠0/\b=(φ c).1,φ,k⟩
theorem Rel.pU(R:Rel av nt φ S env J (lt N) a w)(e:k<=N):Rel (Ctx.pU w S φ J k) nt φ S env J (lt N) a w:=
 ⟨R.bB,R.fP,R.gN,R.fO,R.dp,R.size,R.defers,Ext.refl,λb x I h0=>.inl ⟨b,x,I,h0,rfl⟩,λ_ _=>rfl,λb c=>by
  have:b<k:=c
  grind[lt]⟩
theorem Rel.un(R:Rel av nt φ S env J n a w)(R':Rel (Ctx.pU w S φ J k) nt a8 ba env' J' cT bR w')(o:av.k<=k):Rel av nt a8 ba env' J' cT bR w':=by
 have e:=R'.ext;have own:∀b,(Ctx.pU w S φ J k).B b->av.B b\/av.iU.heap.size<=b:=λb ⟨c,x,I,h0,f⟩=>f▸R.own c x I h0;refine⟨R'.bB,R'.fP,R'.gN,R'.fO,R'.dp,R'.size,R'.defers,⟨e.os.trans R.ext.os,e.tape.trans R.ext.tape,e.output.trans R.ext.output,fQ R.ext.size e.size,λb aE c9=>?_,R.ext.mono.trans e.mono,λb j p=>?_⟩,λb x I h0=>?_,λb f=>?_,λb f=>R'.gb b (jf f o)⟩
 . refine(e.block b (jf aE R.ext.size) λh=>?_).trans (R.ext.block b aE c9);grind
 . rcases e.kH b j p with h|h|h
   . exact R.ext.kH b j h
   . grind
   . exact .inr (.inr (fQ R.ext.size h))
 . rcases R'.own b x I h0 with h|h
   . grind
   . exact .inr (fQ R.ext.size h)
 . exact(R'.fix b (jf f o)).trans (R.fix b f)
theorem Rel.enter{args:List V}(e:aV (bS φ w S) args vs)(c:V.az.V.dj (lt N) args=true)(o:∀b j,S b j->b<w.heap.size)(aN:args.length<=nt):
 Rel ⟨w,S,λ_=>False,φ,0⟩ nt φ S (e6 0 args) [] (lt N) {tmps:=vs.toArray++Array.replicate (nt-vs.toArray.size) undef,defers:=[]} w:=by
 have ae:=e.length;refine⟨⟨λb x I=>by grind[aR],λb p x y I=>by grind[aR],o⟩,λi g v a al=>?_,λi g v a al=>?_,λi g v a al=>?_,λb x I=>by grind[aR],?_,rfl,Ext.refl,λb x I=>by grind[aR],λ_ _=>rfl,λb c=>absurd c (zA _)⟩
 . obtain⟨_,j,rfl,f⟩:=sU a;obtain⟨x,I,q⟩:=e.get f;grind
 . grind[sU]
 . grind[sU,mQ]
 grind
end
abbrev uB(U:cF):=bI U×a7 U×Nat
structure cl (av:Ctx)(nt:Nat)(gs:aY)(s:uB U)(φ:cU)(S:cR)(a:Act)(w:World):Prop where
 ex:∃env1 J1,cP s.2.2 s.2.1 (λ_=>true) s.1 env1/\ck s.2.2 s.2.1 J1/\Rel av nt φ S env1 J1 (lt s.2.2) a w/\∀b x,aR J1 b=some x->(φ b).2≠0->(φ b).1 ∉ gs
 dQ:∀g,g∈gs->g<w.heap.size/\∀j,¬S g j
section
variable {φ:cU}{S ba:cR}{gs:aY}{s:uB U}{p2:bI U}{xs:a7 U}{N kk:Nat}{a:Act}{w w':World}
structure r3 (gs:aY)(kk:Nat)(φ:cU)(w:World)(a8:cU)(w':World):Prop where
 fix:∀b,b<kk->a8 b=φ b
 ai:∀g,g∈gs->w'.heap[g]?=w.heap[g]?
theorem cl.next {a8:cU}{env1 f:Env}{J1 bh:a6}{bR:Act}{s':uB U}(dQ:∀g,g∈gs->g<w.heap.size/\∀j,¬S g j)(R:Rel av nt φ S env1 J1 (lt N) a w)(al:∀b x,aR J1 b=some x->(φ b).2≠0->(φ b).1 ∉ gs)
 (R':Rel (Ctx.pU w S φ J1 kk) nt a8 ba f bh (lt s'.2.2) bR w')(q:av.k<=kk)(he:cP s'.2.2 s'.2.1 (λ_=>true) s'.1 f)(aA:ck s'.2.2 s'.2.1 bh):cl av nt gs s' a8 ba bR w'/\r3 gs kk φ w a8 w':=by
 have v:∀g,g∈gs->¬(Ctx.pU w S φ _ kk).B g:=λg h ⟨c,x,I,h0,o⟩=>al c x I h0 (o▸h);refine⟨⟨⟨f,bh,he,aA,R.un R' q,λb x I h0 t=>?_⟩,λg h=>⟨jf (dQ g h).1 R'.ext.size,λj p=>?_⟩⟩,R'.fix,λg h=>R'.ext.block g (dQ g h).1 (v g h)⟩
 . rcases R'.own b x I h0 with h|h
   . grind
   . exact absurd (dQ _ t).1 (Nat.not_lt.2 h)
 . rcases R'.ext.kH g j p with e|e|e
   . exact(dQ g h).2 j e
   . grind
   . exact absurd (dQ g h).1 (Nat.not_lt.2 e)
theorem cl.piece(T:cl av nt gs s φ S a w){fo:fm U}(B:fp P fo){ac:dq}(A:resolve P nt code=some ac)(j:kk<=s.2.2)(D:av.k<=kk){outs:List iG}{o:ea U outs}
 (I:j9 fo (λ_=>none) kk ac 0 s.1 s.2.1 s.2.2 (oi kk outs)=some o):
 code.wp P (λe bR w'=>e=(fa outs o).1/\∃a8 ba,cl av nt gs (fa outs o).2 a8 ba bR w'/\r3 gs kk φ w a8 w') a w:=by
 obtain⟨⟨env1,J1,he,aA,R,al⟩,dQ⟩:=T
 have h:=ch.Rn (qF (Q:=r4 kk λe env J N=>e=(fa _ o).1/\N=(fa _ o).2.2.2/\cP N _ _ _ _/\ck N _ J) B fX.none I he aA j r4.PQ λe env' J' N' x bh h1 c f y=>by
  obtain⟨aC,s1,p,q,t,E,v⟩:=mo.QU.GQ h1 c f y
  exact⟨_,aC,s1,p,v,rfl,q,t⟩) _ A _ φ S a w rfl (R.pU j)
 refine wp_mono h ?_
 rintro e bR w' ⟨a8,ba,x,bh,N',⟨h1,rfl,c,f⟩,R'⟩
 exact⟨h1,a8,ba,cl.next dQ R al R' D c f⟩
theorem LC{kk:Nat}{av:Ctx}(g:av.k=kk){ops:Array Oper}{rest:aY}{Q:Exit->Act->World->Prop}{K:Env->a6->Nat->Prop}:∀{l:List Oper} {aZ:List bX} {k N:Nat} {env:Env} {J:a6} {φ:cU} {S:cR} {a:Act} {w:World},gI P nt ops l=some aZ->(∀i:Nat,i<l.length->l[i]?=ops[k+i]?)->
 Rel av nt φ S env J (lt N) a w->nu P kk aZ N env J (λe s=>K e s (N+16*aZ.length))->(∀φ S e s N a w,K e s N->Rel av nt φ S e s (lt N) a w->wpOps P ops Q rest a w)->wpOps P ops Q (List.range' k l.length++rest) a w
 |[],aZ,k,N,env,J,φ,S,a,w,b,f,R,h,d=>by
  simp[gI]at b;subst b;exact d _ _ _ _ _ _ _ h R
 |o::l,aZ,k,N,env,J,φ,S,a,w,b,f,R,h,d=>by
  simp[gI,bf,bn]at b;obtain⟨t,m,c,n,rfl⟩:=b;have u:ops[k]?=some o:=by have:=f 0 (by simp);grind
  rw[gS,CE,tS,wpOps_cons];unfold wpOp;obtain⟨e6,r,p,q⟩:=h;obtain⟨v,p6,j⟩:=p av nt φ S a w g R;have hs:=IW j m (K:=λe s=>nu P kk c _ e s λe s=>K e s (N+16*(c.length+1))) q (Q:=Q);have next:∀bR w',jo av nt (eo (lt N) N) (λe s=>nu P kk c (N+16) e s λe s=>K e s (N+16*(c.length+1))) bR w'->wpOps P ops Q (List.range' (k+1) l.length++rest) bR w':=by
   rintro bR w' ⟨a8,ba,e,s,bM,R'⟩
   refine LC g n (λi aE=>?_) (R'.more λ_ h=>E2 h) ?_ d
   . have:=f (i+1) (by grind);grind
   grind
  grind[Oper.wp_mono]
theorem cl.ops (T:cl av nt gs s φ S a w){fo:fm U}(q:fp P fo){ops:Array Oper}{rest:aY}{Q:Exit->Act->World->Prop}(k:Nat){l:List Oper}{aZ:List bX}(y:gI P nt ops l=some aZ)(t:∀i:Nat,i<l.length->l[i]?=ops[k+i]?)(x:kk<=s.2.2)(v:av.k<=kk)
 {sh:Shape}{ts:List aD}{h:aP U.D ts}(I:n3 fo none aZ s.2.2 [] [] s.1 s.2.1 (λgl env J=>lE kk [] sh ts (tE gl env) J (s.2.2+16*aZ.length))=some h)
 (M:∀a8 ba bR w',cl av nt gs ((fh U sh (aP.cells U.D ts h)).1,(fh U sh (aP.cells U.D ts h)).2,sh.st.length) a8 ba bR w'->r3 gs kk φ w a8 w'->wpOps P ops Q rest bR w'):wpOps P ops Q (List.range' k l.length++rest) a w:=by
 obtain⟨⟨env1,J1,he,aA,R,al⟩,dQ⟩:=T;refine LC rfl (K:=λaC s1 N'=>∃env' J',N'=s.2.2+16*aZ.length/\lE kk [] sh ts env' J' N'=some h/\cP N' J' (λ_=>true) env' aC/\ck N' J' s1) y t (R.pU x) (Dc q (er.begin he aA) I λL N env' J' H bh A h1 c=>?_) ?_
 . exact⟨_,_,rfl,h1,c.clean,c.dX⟩
 . rintro a8 ba aC s1 N' bR w' ⟨env',J',rfl,h1,c,p⟩ R'
   obtain⟨G,W,f,j,o,F⟩:=v7 h1 c p (by omega);obtain⟨X,B,e⟩:=f _ nt _ ba bR w' rfl R';obtain⟨E,O⟩:=cl.next (s':=((fh U sh _).1,(fh U sh _).2,sh.st.length)) dQ R al e v j o;grind
theorem cl.goto(T:cl av nt gs s φ S a w)(kk:Nat){sh:Shape}{ts:List aD}{h:aP U.D ts}(I:lE kk [] sh ts s.1 s.2.1 s.2.2=some h)(c:Nat.ble kk s.2.2=true:=by rfl)(q:av.k<=kk:=by exact ia _):
 ∃a8 ba,cl av nt gs ((fh U sh (aP.cells U.D ts h)).1,(fh U sh (aP.cells U.D ts h)).2,sh.st.length) a8 ba a w/\r3 gs kk φ w a8 w:=by
 obtain⟨⟨env1,J1,he,aA,R,al⟩,dQ⟩:=T;obtain⟨x,y,j,o,p,v⟩:=v7 I he aA (gK c);obtain⟨t,f,e⟩:=j _ nt φ S a w rfl (R.pU (gK c));exact⟨t,f,cl.next dQ R al e q o p⟩
theorem cl.slot(T:cl av nt gs s φ S a w){k:Nat}{v:bA U}(j:aS s.1 k=some v):∃x v1,a.tmps[k]?=some x/\bL s.2.2 s.2.1 v v1/\bS φ w S v1 x/\v1.az (lt s.2.2)=true:=by
 obtain⟨⟨env1,J1,he,aA,R,al⟩,dQ⟩:=T;obtain⟨v1,h1,c⟩:=he k v j;obtain⟨x,e,f⟩:=R.fP k _ v1 h1 rfl;exact⟨x,v1,e,c,f,R.fO k _ v1 h1 rfl⟩
theorem cl.ptr(T:cl av nt gs s φ S a w){k b o:Nat}(j:aS s.1 k=some (.c (.ptr b o))):a.tmps[k]?=some (.pointer (some ⟨(φ b).1,o,none⟩)):=by
 obtain⟨x,v1,h1,e,f,_⟩:=T.slot j;have:=e.gT;subst this;rw[h1,f.gT]
theorem cl.mp(T:cl av nt gs s φ S a w){k b:Nat}(j:aS s.1 k=some (.c (.mp b))):a.tmps[k]?=some (.map (some (φ b).1)):=by
 obtain⟨x,v1,h1,e,f,_⟩:=T.slot j;have:=e.Cs;subst this;rw[h1,show x=_ from f.dJ]
theorem cl.pair(T:cl av nt gs s φ S a w){k:Nat}{p q:Int}(j:aS s.1 k=some (.agg [.t ⟨.int .i64,p⟩,.t ⟨.int .i64,q⟩])):a.tmps[k]?=some (dR (p,q)):=by
 obtain⟨x,v1,h1,c,e,_⟩:=T.slot j;cases c with
 |agg c=>
  cases c with
  |cons g1 g2=>
   cases g2 with
   |cons g2 g3=>
    cases g1;cases g2;cases g3;obtain⟨vs,rfl,f⟩:=e.lJ;cases f with
    |cons a1 a2=>
     cases a2 with
     |cons a2 a3=>
      cases a1;cases a2;cases a3;exact h1
theorem cl.cell(T:cl av nt gs s φ S a w){k:Nat}(j:aS s.1 k=some (.c (.t c))):∃x,a.tmps[k]?=some x/\bK w S (c.enc U) x:=by
 obtain⟨x,v1,h1,e,f,_⟩:=T.slot j;cases e with
 |c e=>cases e;exact⟨x,h1,f.dJ⟩
theorem cl.bool(T:cl av nt gs s φ S a w){k:Nat}{b:Bool}(f:aS s.1 k=some (.c (.t ⟨.bool,b⟩))):a.tmps[k]?=some (.bool b):=by
 obtain⟨x,h1,e⟩:=T.cell f;rw[h1];cases e;rfl
theorem cl.int(T:cl av nt gs s φ S a w){k:Nat}{n:Int}(f:aS s.1 k=some (.c (.t ⟨.int .i64,n⟩))):a.tmps[k]?=some (.int .i64 n):=by
 obtain⟨x,h1,e⟩:=T.cell f;rw[h1];cases e;rfl
theorem cl.fn(T:cl av nt gs s φ S a w){k b:Nat}(o:aS s.1 k=some (.c (.fn f [b]))):a.tmps[k]?=some (.func (.func f) #[] #[.pointer (some ⟨(φ b).1,0,none⟩)]):=by
 obtain⟨x,v1,h1,e,j,_⟩:=T.slot o;cases e with
 |c e=>cases e;rw[h1,show x=_ from j.dJ];rfl
theorem cl.len(T:cl av nt gs s φ S a w){k:Nat}{t:aD}{l:List (t.den U.D)}(f:aS s.1 k=some (.c (.t ⟨.slice t,l⟩))):l.length<=c1:=by
 obtain⟨x,h1,e⟩:=T.cell f;obtain⟨_,_,_,_,_,_,_,_,h,_⟩:=bK.jj e;grind
theorem cl.box(T:cl av nt gs s φ S a w){b:Nat}{cs:List (bd U)}(f:aS s.2.1 b=some (.box cs)):
 ∃(vs:List Value) (E:TypeId) (c:List C),w.heap[(φ b).1]?=some (.cells vs.toArray E (0,0))/\aV (b5 s.2.2 s.2.1) cs c/\aV (bk φ w S) c vs:=by
 obtain⟨⟨env1,J1,he,aA,R,al⟩,dQ⟩:=T;obtain⟨_,y,h1,e⟩:=aA b _ f;cases e with
 |box e=>
  obtain⟨_,vs,E,j,o,_⟩:=R.bB.blk b _ h1;grind
theorem cl.put(T:cl av nt gs (p2,xs,N) φ S a w){d:Nat}{x:Value}{v:bA U}{v1:V}(o:bL N xs v v1)(I:bS φ w S v1 x)(f:v1.az (lt N)=true:=by rfl)(e:Nat.ble (d+1) nt=true:=by rfl):cl av nt gs ((d,v)::p2,xs,N) φ S (a.put (some d) x) w:=by
 have e:=gK e;obtain⟨⟨env1,J1,he,aA,R,al⟩,dQ⟩:=T;refine⟨⟨eb _ _ true v1,J1,λk y c=>?_,aA,R.xy (by grind) (λ_=>I) (λh=>by grind) (λ_=>f),al⟩,dQ⟩;simp[aS]at c;split at c
 . simp_all[mJ]
 . obtain⟨p,h1,j⟩:=he k y c;simp_all[mJ,hP]
theorem cl.new(T:cl av nt gs (p2,xs,N) φ S a w)(o:Obj):cl av nt (w.heap.size::gs) (p2,xs,N+1) (dZ φ N (w.heap.size,0)) S a (w.alloc o):=by
 obtain⟨⟨env1,J1,he,aA,R,al⟩,dQ⟩:=T;have cp:lt N N=false:=yU (eB _);refine⟨⟨env1,J1,he.mono (c0.more (wH _)),aA.mono (wH _),((R.alloc o).tT λb h=>tA cp h).more λb h=>Ev (wH _) h,λb x I h0=>?_⟩,λg h=>?_⟩
 . rw[tA cp (R.dp b x I).1]at h0⊢;have:=(R.bB.blk b x I).jh h0;grind
 . rcases dK.1 h with rfl|h
   . exact⟨by simp,λj c=>by have:=R.bB.st _ _ c;omega⟩
   . have:=dQ g h;exact⟨by simp;omega,this.2⟩
theorem cl.num(T:cl av nt gs (p2,xs,N) φ S a w)(q:Nat):cl av nt gs (p2,xs,N+1) (dZ φ N (q,0)) S a w:=by
 obtain⟨⟨env1,J1,he,aA,R,al⟩,dQ⟩:=T;have cp:lt N N=false:=yU (eB _);refine⟨⟨env1,J1,he.mono (c0.more (wH _)),aA.mono (wH _),(R.tT λb h=>tA cp h).more λb h=>Ev (wH _) h,λb x I h0=>?_⟩,dQ⟩;rw[tA cp (R.dp b x I).1]at h0⊢;grind
theorem cl.drew(T:cl av nt gs s φ S a w):cl av nt gs s φ S a w.drew:=
 let⟨⟨env1,J1,he,aA,R,al⟩,dQ⟩:=T;⟨⟨env1,J1,he,aA,R.drew,al⟩,dQ⟩
theorem cl.write(T:cl av nt gs s φ S a w){g:Nat}(o:g∈gs)(p:av.iU.heap.size<=g)(h1:w'.os=w.os)(e:w'.tape=w.tape)(f:w'.output=w.output)(j:w'.heap.size=w.heap.size)(bj:∀b,b≠g->w'.heap[b]?=w.heap[b]?):cl av nt gs s φ S a w':=by
 obtain⟨⟨env1,J1,he,aA,R,al⟩,dQ⟩:=T;refine⟨⟨env1,J1,he,aA,R.world _ h1 e f (tJ j.symm) (λb _ c=>bj b c) (λb c=>?_),al⟩,λb h=>by grind⟩;grind
theorem cl.extend(T:cl av nt gs s φ S a w)(e:Ext (λ_=>False) S ba w w')(o:∀b j,ba b j->b<w'.heap.size):cl av nt gs s φ ba a w':=by
 obtain⟨⟨env1,J1,he,aA,R,al⟩,dQ⟩:=T;refine⟨⟨env1,J1,he,aA,R.extend e o,al⟩,λg h=>⟨jf (dQ g h).1 e.size,λj f=>?_⟩⟩;rcases e.kH g j f with c|c|c
 all_goals grind
theorem cl.st(T:cl av nt gs s φ S a w):∀b j,S b j->b<w.heap.size:=let⟨⟨_,_,_,_,R,_⟩,_⟩:=T;R.bB.st
theorem cl.ext(T:cl av nt gs s φ S a w):Ext av.B av.p6 S av.iU w:=let⟨⟨_,_,_,_,R,_⟩,_⟩:=T;R.ext
theorem cl.defers(T:cl av nt gs s φ S a w):a.defers=[]:=let⟨⟨_,_,_,_,R,_⟩,_⟩:=T;R.defers
theorem cl.enter{args:List (bA U)}{a:List V}(y:aV (bL N []) args a)(p:aV (bS φ w S) a vs)(f:V.az.V.dj (lt N) a=true)(o:∀b j,S b j->b<w.heap.size)(aN:a.length<=nt)(dQ:∀g,g∈gs->g<w.heap.size/\∀j,¬S g j):
 cl (U:=U) ⟨w,S,λ_=>False,φ,0⟩ nt gs (nk 0 args,[],N) φ S {tmps:=vs.toArray++Array.replicate (nt-vs.toArray.size) undef,defers:=[]} w:=by
 refine⟨⟨e6 0 a,[],?_,λb x h=>by grind[aS],Rel.enter p f o aN,λb x h=>by grind[aR]⟩,dQ⟩;intro k v A;have key:∀{xs:List _} {c:List V} {i:Nat},aV (bL N []) xs c->aS (nk i xs) k=some v->∃v1,look (e6 i c) k=some (true,v1)/\bL N [] v v1:=by
  intro xs;induction xs with
  |nil=>grind[nk,aS]
  |cons x xs ih=>
   intro c i q e;cases q with
   |cons h1 t=>
    simp[nk,aS]at e;simp[e6,look];split at e
    . simp_all
    simp_all[ao,hP]
 grind
theorem bL.pZ{xs:List (bA U)}{a:List V}{c:a7 U}(h:aV (bL N c) xs a):bL N c (.aX xs) (.aX a):=
 .aX _ _ h.length λi x d I j=>by
  obtain⟨e,aC,f⟩:=h.get I;grind
theorem bS.pZ{vs:List V}{xs:List Value}(h:aV (bS φ w S) vs xs):bS φ w S (.aX vs) (.tuple xs.toArray):=
 .aX _ _ h.length λi x d I e=>by
  obtain⟨a,aC,c⟩:=h.get I;grind
theorem bS.Ad(k:Int×Int):bS φ w S (.agg [.t (.int .i64 k.1),.t (.int .i64 k.2)]) (dR k):= .agg (.cons (bK.int _ _) (.cons (bK.int _ _) .nil))
theorem bL.Ad{a:a7 U}(k:Int×Int):bL N a (.agg [.t ⟨.int .i64,k.1⟩,.t ⟨.int .i64,k.2⟩]) (.agg [.t (.int .i64 k.1),.t (.int .i64 k.2)]):= .agg (.cons (.t _) (.cons (.t _) .nil))
theorem I1{b:Nat}{o:Obj}(h:b≠q):(ChangeMaps.setBlock w q o).heap[b]?=w.heap[b]?:=by
 simp[ChangeMaps.setBlock,dn h]
theorem YT{o:Obj}(h:q<w.heap.size):(ChangeMaps.setBlock w q o).heap[q]?=some o:=by
 grind[ChangeMaps.setBlock]
theorem cl.set(T:cl av nt gs s φ S a w)(o:Obj)(e:q∈gs)(f:av.iU.heap.size<=q):cl av nt gs s φ S a (ChangeMaps.setBlock w q o):=
 T.write e f rfl rfl rfl (by simp[ChangeMaps.setBlock]) λb c=>I1 c
theorem et{k:Nat}{x:Value}(h:a.tmps[k]?=some x):a.eval (.tmp k)=x:=by simp[Act.eval,h]
section
variable {ops:Array Oper}{Q:Exit->Act->World->Prop}{i:Nat}{rest:aY}{o:Oper}
theorem l5(b:ops[i]?=some o){d:Nat}(e:o.dst=some d)(al:o.guard=none){x:Value}(c:(execOp a.eval o).run P w= .ok (.value x) w')(h:wpOps P ops Q rest (a.put (some d) x) w'):wpOps P ops Q (i::rest) a w:=by
 simp[wpOps,b,Region.wanted,al,Oper.wp,c];refine .inl ?_;show wpOps P _ Q _ _ w';grind
theorem Gr(c:ops[i]?=some o)(b:o.dst=none)(al:o.guard=none)(d:(execOp a.eval o).run P w= .ok .skip w')(h:wpOps P ops Q rest a w'):wpOps P ops Q (i::rest) a w:=by
 simp[wpOps,c,Region.wanted,al,Oper.wp,d];refine .inl ?_;show wpOps P _ Q _ _ w';rw[b];exact h
theorem Gs(g:ops[i]?=some o){d:Nat}(k:o.dst=some d)(al:o.guard=none){args b:Array Value}(j:(execOp a.eval o).run P w= .ok (.enter f b) w)(c:b=args)(h:Calls P f args w λe w'=>∃v,e= .returned v/\wpOps P ops Q rest (a.put (some d) v) w'):wpOps P ops Q (i::rest) a w:=by
 subst c;simp[wpOps,g,Region.wanted,al,Oper.wp,j];refine .inl (h.mono ?_);grind
end
theorem LD{α:Type}{o:Option α}{d:α}(h:o.isSome=true):o=some (o.getD d):=by cases o<;>simp_all
theorem lW(L:aY){id:Nat}{ops:Array Oper}(h:wpOps P ops Q L a w)(b:List.range ops.size=L:=by kernel_rfl):(Code.region id ops false).wp P Q a w:=wp_region (b▸h)
def sl(ops:Array Oper)(k m:Nat):List Oper:=(ops.toList.drop k).take m
theorem ad0{ops:Array Oper}{k m:Nat}(i:Nat)(h:i<(sl ops k m).length):(sl ops k m)[i]?=ops[k+i]?:=by
 grind[sl]
theorem cl.op (T:cl av nt gs s φ S a w)(kk:Nat)(k m:Nat)(env:List (Nat×du))(st:List dh){h:aP U.D (dA env st)}{ops:Array Oper}{L:aY}{Q:Exit->Act->World->Prop}{fs:List (ca U)}(j:hr P fs)
 (I:n3 (gP fs) none ((gI P nt ops (sl ops k m)).getD []) s.2.2 [] [] s.1 s.2.1 (λgl e J=>lE kk [] ⟨env,st⟩ (dA env st) (tE gl e) J (s.2.2+16*((gI P nt ops (sl ops k m)).getD []).length))=some h)
 (f:∀a8 ba bR w',cl av nt gs ((fh U ⟨env,st⟩ (aP.cells U.D (dA env st) h)).1,(fh U ⟨env,st⟩ (aP.cells U.D (dA env st) h)).2,st.length) a8 ba bR w'->r3 gs kk φ w a8 w'->wpOps P ops Q (L.drop m) bR w')
 (q:(gI P nt ops (sl ops k m)).isSome=true:=by kernel_rfl)(p:Nat.ble kk s.2.2=true:=by rfl)(o:av.k<=kk:=by exact ia _)(c:List.range' k (sl ops k m).length++L.drop m=L:=by kernel_rfl):wpOps P ops Q L a w:=by
 rw[<-c];exact T.ops j k (LD q) ad0 (gK p) o I f
theorem cl.eD(T:cl av nt gs s φ S a w)(kk:Nat)(outs:List iG){o:ea U outs}{fs:List (ca U)}(c:hr P fs)
 (I:j9 (gP fs) (λ_=>none) kk ((resolve P nt code).getD .skip) 0 s.1 s.2.1 s.2.2 (oi kk outs)=some o)
 (p:∀a8 ba bR w',cl av nt gs (fa outs o).2 a8 ba bR w'->r3 gs kk φ w a8 w'->Q (fa outs o).1 bR w')
 (j:(resolve P nt code).isSome=true:=by kernel_rfl)(f:Nat.ble kk s.2.2=true:=by rfl)(e:av.k<=kk:=by exact ia _):code.wp P Q a w:=by
 refine wp_mono (T.piece c (LD j) (gK f) e I) ?_;grind
theorem ld1{o:Oper}{ty:TypeId}(g:o.op= .load ty x)(ae:mO P ty=some (false,1)){b off:Nat}(I:a.eval x= .pointer (some ⟨b,off,none⟩))(ab:w.heap[b]?=some (.cells vs.toArray E (0,0)))(e:vs[off]?=some v):
 (execOp a.eval o).run P w= .ok (.value v) w:=by
 obtain⟨h1,c,d⟩:=Im ae;have:(loadVar ty ⟨b,off,none⟩).run P w= .ok v w:=by
  have:=SD h1 c (vs:=[v]) (λj f=>by
   have:j=0:=(by grind);subst this
   rw[iq ab,rp,e];rfl) rfl d
  grind
 simp_all [execOp,Instr.loadAt,Instr.sureAddr]
theorem cl.ret{fn:Func}{R:Ending->World->Prop}(T:cl av nt gs s φ S a w){t:Nat}(j:fn.results=#[.tmp t])(f:aS s.1 t=some (.c (.t c)))(h:∀x,bK w S (c.enc U) x->R (.returned x) w):bodyPost P fn R .ret a w:=by
 obtain⟨x,h1,e⟩:=T.cell f;refine⟨T.defers,x,?_,h x e⟩;simp_all[Ir,tZ]
def oG(S:cR)(w:World)(ba:cR)(w':World):Prop:=Ext (λ_=>False) S ba w w'/\∀b j,ba b j->b<w'.heap.size
theorem oG.heap(h:oG S w ba w'){b:Nat}{o:Obj}(a:w.heap[b]?=some o):w'.heap[b]?=some o:=by
 rw[h.1.block b (zF.1 a).1 (λx=>x)];grind
theorem po{d:Nat}{x:Value}(h:d<a.tmps.size):(a.put (some d) x).tmps[d]?=some x:=by grind[Act.put]
theorem cl.size(T:cl av nt gs s φ S a w):a.tmps.size=nt:=let⟨⟨_,_,_,_,R,_⟩,_⟩:=T;R.size
def KO(P:Program)(t:TypeId):Bool:=match P.underlying t with
 |some (.map eG b)=>match P.underlying eG with
  |some (.array 2 it)=>match P.underlying it,P.info? it,P.info? b with
   |some (.int .i64),some i,some a=>Nat.beq i.size 1&&(match a.zero with
    |some (.bool false)=>true
    |_=>false)
   |_,_,_=>false
  |_=>false
 |_=>false
theorem lH.of{t:TypeId}(h:KO P t=true):lH P t:=by
 unfold KO at h
 (repeat' split at h)<;>simp at h
 rename_i h1 _ _ f _ _ _ _ a c bj _ e;exact⟨_,_,_,_,_,by omega,by grind,a,c,h,bj,e⟩
section
variable {o:Oper}{ty:TypeId}{r:Nat}{es:Array MapEntry}{b':Nat}{ks:List (Int×Int)}
theorem QC{k:Operand}(d:o.op= .lookup ty x k false)(b:lH P ty)(I:a.eval x= .map (some r))(c:a.eval k=dR p)(ab:w.heap[r]?=some (.map es b'))(hs:hK ks es.toList):
 (execOp a.eval o).run P w= .ok (.value (.bool (ga ks p))) w:=by
 have:=Z7 b ab hs p;simp_all[execOp]
theorem agc(c:o.op= .makeMap ty (some x))(b:lH P ty){k:IntKind}{n:Int}(I:a.eval x= .int k n):
 (execOp a.eval o).run P w= .ok (.value (.map (some w.heap.size))) (w.alloc (.map #[] 0)):=by
 obtain⟨eG,f,it,i,e,d,_⟩:=b.ex;simp_all[execOp,Instr.makeMap,run_underlying,asInt,asIntOf]
theorem ael(d:o.op= .alloc ty){z:Value}(b:(P.info? ty).bind TypeInfo.zero=some z)(h1:z.cells=#[z]):
 (execOp a.eval o).run P w= .ok (.value (.pointer (some ⟨w.heap.size,0,none⟩))) (w.alloc (.cells #[z] ty (0,0))):=by
 obtain⟨i,c,b⟩:=jF.1 b;simp_all[execOp,Instr.alloc,zeroValue,typeInfo,newVar,newRow]
theorem st1(e:o.op= .store ty x y)(d:dW P ty=some 1){b:Nat}{u:Value}(I:a.eval x= .pointer (some ⟨b,0,none⟩))(ag:a.eval y=v)(f:v.cells=#[v])(h1:v.oneCell'=true)(ab:w.heap[b]?=some (.cells #[u] E (0,0))):
 ∃w',(execOp a.eval o).run P w= .ok .skip w'/\w'.os=w.os/\w'.tape=w.tape/\w'.output=w.output/\w'.heap.size=w.heap.size/\w'.heap[b]?=some (.cells #[v] E (0,0))/\∀c:Nat,c≠b->w'.heap[c]?=w.heap[c]?:=by
 obtain⟨w',h,k1,k2,k3,k4,k5,k6⟩:=lO (P:=P) [v] 0 0 _ w ab (by simp) (by grind);refine⟨w',?_,k1,k2,k3,k4,by simpa[iO]using k5,k6⟩;simp_all[execOp,Instr.storeAt,Instr.sureAddr,storeVar,i']
theorem af'{ops:Array Oper}{i:Nat}{rest:aY}(f:ops[i]?=some o)(d:o.dst=none)(al:o.guard=none)(g:o.op= .store ty x y)(e:dW P ty=some 1){b:Nat}{u:Value}(I:a.eval x= .pointer (some ⟨b,0,none⟩))(ag:a.eval y=v)(j:v.cells=#[v])(h1:v.oneCell'=true)(ab:w.heap[b]?=some (.cells #[u] E (0,0)))
 (h:∀w':World,w'.os=w.os->w'.tape=w.tape->w'.output=w.output->w'.heap.size=w.heap.size->w'.heap[b]?=some (.cells #[v] E (0,0))->(∀c:Nat,c≠b->w'.heap[c]?=w.heap[c]?)->wpOps P ops Q rest a w'):wpOps P ops Q (i::rest) a w:=
 let⟨w',h0,k1,k2,k3,k4,k5,k6⟩:=st1 g e I ag j h1 ab
 Gr f d al h0 (h w' k1 k2 k3 k4 k5 k6)
theorem ahn{k:Operand}(j:o.op= .mapUpdate ty x k y)(g:lH P ty)(I:a.eval x= .map (some r))(i:a.eval k=dR p)(ag:a.eval y= .bool true)(ab:w.heap[r]?=some (.map es b'))(hs:hK ks es.toList)(f:kq es.toList b'):
 ∃b c,(execOp a.eval o).run P w= .ok .skip {w with heap:=w.heap.setIfInBounds r (.map b c)}/\hK (kR ks p) b.toList/\kq b.toList c:=by
 obtain⟨b,c,h1,d,e⟩:=KN g ab hs f p;exact⟨b,c,by simp_all[execOp],d,e⟩
theorem QI{ops:Array Oper}{i:Nat}{rest:aY}(l:ops[i]?=some o)(f:o.dst=none)(al:o.guard=none){k:Operand}(m:o.op= .mapUpdate ty x k y)(j:lH P ty)(I:a.eval x= .map (some r))(g:a.eval k=dR p)(ag:a.eval y= .bool true)(ab:w.heap[r]?=some (.map es b'))(hs:hK ks es.toList)(e:kq es.toList b')
 (h:∀b c,hK (kR ks p) b.toList->kq b.toList c->wpOps P ops Q rest a {w with heap:=w.heap.setIfInBounds r (.map b c)}):wpOps P ops Q (i::rest) a w:=
 let⟨b,c,h0,h1,d⟩:=ahn m j I g ag ab hs e
 Gr l f al h0 (h _ _ h1 d)
theorem agw(d:o.op= .range ty x)(b:lH P ty)(I:a.eval x= .map (some r))(ab:w.heap[r]?=some (.map es b')):
 (execOp a.eval o).run P w= .ok (.value (.pointer (some ⟨w.heap.size,0,none⟩))) (w.alloc (.mapIter (some r) b' #[] b')):=by
 obtain⟨eG,f,it,i,e,c,_⟩:=b.ex;have:=run_range_map w ty _ _ r es _ c ab;simp_all[execOp]
theorem agi(g:o.op= .next x false)(I:a.eval x= .pointer (some ⟨q,0,none⟩))(f:w.heap[q]?=some (.mapIter (some r) b' seen b'))(ab:w.heap[r]?=some (.map es b'))(d:kq es.toList b'):
 ((leftOf es seen).size=0/\(execOp a.eval o).run P w= .ok (.value (.tuple #[.bool false])) w)\/
 ∃e∈(leftOf es seen).toList,∃b:World,(b=w\/b=w.drew)/\(execOp a.eval o).run P w= .ok (.value (.tuple #[.bool true,e.key,e.val])) (ChangeMaps.setBlock b q (.mapIter (some r) b' (seen.push e.born) b')):=by
 rcases run_next_at (P:=P) w o.type q r _ _ _ es _ f ab d.1 (eB _)with⟨h1,c⟩|⟨e,he,b,h1,c⟩
 . simp_all[execOp]
 . exact .inr ⟨e,he,b,h1,by simp_all[execOp]⟩
theorem af9{ops:Array Oper}{i:Nat}{rest:aY}(m:ops[i]?=some o){d:Nat}(l:o.dst=some d)(al:o.guard=none)(f:o.op= .next x false)(I:a.eval x= .pointer (some ⟨q,0,none⟩))(j:w.heap[q]?=some (.mapIter (some r) b' seen b'))(ab:w.heap[r]?=some (.map es b'))(c:kq es.toList b')
 (h0:(leftOf es seen).size=0->wpOps P ops Q rest (a.put (some d) (.tuple #[.bool false])) w)(h1:∀e,e∈(leftOf es seen).toList->∀b,(b=w\/b=w.drew)->wpOps P ops Q rest (a.put (some d) (.tuple #[.bool true,e.key,e.val])) (ChangeMaps.setBlock b q (.mapIter (some r) b' (seen.push e.born) b'))):wpOps P ops Q (i::rest) a w:=by
 rcases agi (P:=P) f I j ab c with⟨g,k⟩|⟨e,he,b,n,k⟩
 . grind[l5]
 grind[l5]
theorem afj(d:o.op= .entry x)(I:a.eval x= .pointer (some ⟨q,0,none⟩)){e:MapEntry}(c:w.heap[q]?=some (.mapIter (some r) b' (seen.push e.born) b'))(ab:w.heap[r]?=some (.map es b'))(he:e∈es.toList)(b:kq es.toList b'):
 (execOp a.eval o).run P w= .ok (.value (.tuple #[e.key,e.val])) w:=by
 have:=run_entry_at (P:=P) w q r _ _ es _ e c ab he b.2;simp_all[execOp]
end
theorem oG.refl(h:∀b j,S b j->b<w.heap.size):oG S w S w:=⟨Ext.refl,h⟩
theorem dP.hand{eK:List du}{F:aP U.D (aW f eK (ab .bool)).ts->Option (aP U.D (aW f eK (ab .bool)).us)}(q:gL P f=true)
 (h:∀(x:aP U.D (aW f eK (ab .bool)).ts) (b:Bool),F x=some b->∀(φ:cU) (S:cR) (w:World) (a:List V) (vs:List Value),(∀b j,S b j->b<w.heap.size)->aV (bL 0 []) (jD eK (aP.cells U.D _ x)).1 a->aV (bS φ w S) a vs->V.az.V.dj (lt 0) a=true->
  Calls P f vs.toArray w λe w'=>∃ba,e= .returned (.bool b)/\oG S w ba w'):dP P ((aW f eK (ab .bool)).s F):=by
 refine⟨q,λx b I a J1 o aA φ S w B A J H p vs E=>?_⟩;refine(h x b I φ S w a vs A.st o E p).mono ?_
 rintro e w' ⟨ba,rfl,k⟩
 refine⟨_,.c _,φ,ba,[],0,rfl,⟨rfl,.c (.t _),λb x h=>by simp[aS,ca.rest,dr.s,hj]at h⟩,bS.oL b,rfl,⟨λb x I=>by simp[aR]at I,λb G x y I=>by simp[aR]at I,k.2⟩,λb x I=>by simp[aR]at I,⟨k.1.os,k.1.tape,k.1.output,k.1.size,λb h _=>k.1.block b h (λx=>x),k.1.mono,λb j v=>?_⟩,λb x I=>by grind[aR],λ_ _=>rfl⟩;rcases k.1.kH b j v with h|h|h
 all_goals grind
end
end
section
open Go
variable {U:cF}{P:Program}{nt:Nat}{av:Ctx}
variable{Q:Exit->Act->World->Prop}
section
variable {φ:cU}{S:cR}{gs:aY}{s:uB U}{a:Act}{w w':World}{o:Oper}{ty:TypeId}{r:Nat}{es:Array MapEntry}{b':Nat}{ks:List (Int×Int)}
theorem agb(b:o.op= .makeMap ty none):(execOp a.eval o).run P w= .ok (.value (.map (some w.heap.size))) (w.alloc (.map #[] 0)):=by
 simp_all [execOp,Instr.makeMap]
theorem af8{ops:Array Oper}{i:Nat}{rest:aY}(l:ops[i]?=some o)(g:o.dst=none)(al:o.guard=none){x k y:Operand}(n:o.op= .insert ty x k y)(j:lH P ty)(I:a.eval x= .map (some r)){p:Int×Int}(m:a.eval k=dR p)(ag:a.eval y= .bool true)(ab:w.heap[r]?=some (.map es b'))(hs:hK ks es.toList)(f:kq es.toList b')
 (h:∀b c,hK (kR ks p) b.toList->kq b.toList c->wpOps P ops Q rest a {w with heap:=w.heap.setIfInBounds r (.map b c)}):wpOps P ops Q (i::rest) a w:=
 let⟨b,c,h1,d,e⟩:=KN (P:=P) j ab hs f p
 Gr l g al (by simp_all [execOp]) (h b c d e)
theorem cl.afE(T:cl av nt gs s φ S a w){b:Nat}{t:aD}{l:List (t.den U.D)}(e:aS s.2.1 b=some (.arr t l)):l.length<=c1:=by
 obtain⟨⟨env1,J1,he,aA,R,al⟩,dQ⟩:=T;obtain⟨_,y,h1,c⟩:=aA b _ e;cases c with
 |arr=>
  have:=(R.bB.blk b _ h1).2.1;simpa using this
def PG(s:ca U)(r:aP U.D s.us)(S:cR)(w:World):Ending->World->Prop:=λe w'=>∃v a a8 ba J',e= .returned v/\AI s r a J' s.dE.length/\bS a8 w' ba a v/\a.az (lt s.dE.length)=true/\oJ a8 w' ba J'/\
 (∀(b:Nat) x,aR J' b=some x->b<s.dE.length/\x.az (lt s.dE.length)=true)/\Ext (λ_=>False) S ba w w'/\∀(b:Nat) x,aR J' b=some x->(a8 b).2≠0->w.heap.size<=(a8 b).1
theorem dP.aft{eK:List du}{dX:du}{dE:List dh}{F:aP U.D (aW f eK dX [] [] dE).ts->Option (aP U.D (aW f eK dX [] [] dE).us)}(o:gL P f=true)
 (h:∀x r,F x=some r->∀(φ:cU) (S:cR) (w:World) (c:List V) (vs:List Value),(∀b j,S b j->b<w.heap.size)->aV (bL 0 []) (jD eK (aP.cells U.D _ x)).1 c->aV (bS φ w S) c vs->V.az.V.dj (lt 0) c=true->
  Calls P f vs.toArray w (PG ((aW f eK dX [] [] dE).s F) r S w)):dP P ((aW f eK dX [] [] dE).s F):=by
 refine⟨o,λx r I c J1 p aA φ S w B K O N q vs L=>?_⟩;refine(h x r I φ S w c vs K.st p L q).mono ?_
 rintro e w' ⟨v,M,a8,ba,J',rfl,E,G,t,H,J,a,A⟩
 refine⟨v,M,a8,ba,J',_,rfl,E,G,t,H,J,⟨a.os,a.tape,a.output,a.size,λb h _=>a.block b h (λx=>x),a.mono,λb j y=>?_⟩,λb x I h0=>.inr (A b x I h0),λb o=>absurd o (zA _)⟩;rcases a.kH b j y with h|h|h
 . exact .inl h
 . exact absurd h (λx=>x)
 . exact .inr (.inr h)
theorem cl.afo {j5:ca U}{e:aP U.D j5.us}{fn:Func}{iU:World}{p6:cR}{E:cU}(T:cl ⟨iU,p6,λ_=>False,E,0⟩ nt gs s φ S a w){t u:Nat}(F:fn.results=#[.tmp t,.tmp u])
 (h1:aS s.1 t=some (.c (.arr 0)))(q:aS s.1 u=some (.c (.arr 1)))(hres:j5.res e= .aX [.c (.arr 0),.c (.arr 1)]:=by rfl)(hs:s.2.1=j5.rest e:=by rfl)(aN:s.2.2=j5.dE.length:=by rfl):bodyPost P fn (PG j5 e p6 iU) .ret a w:=by
 obtain⟨A,v4,k4,o,v,f⟩:=T.slot h1;obtain⟨B,v5,k5,p,y,j⟩:=T.slot q;refine⟨T.defers,.tuple #[A,B],?_,?_⟩
 . simp_all [Ir,tZ]
 obtain⟨⟨env1,J1,he,aA,R,al⟩,dQ⟩:=T;rw[hs,aN]at o p aA;rw[aN]at f j;refine⟨_,.aX [v4,v5],φ,S,J1,rfl,⟨rfl,by rw[hres];exact .pZ (.cons o (.cons p .nil)),aA⟩,bS.pZ (.cons v (.cons y .nil)),by simp[V.az,V.az.V.dj,f,j],R.bB,λb x I=>?_,R.ext,λb x I h0=>(R.own b x I h0).resolve_left (λh=>h)⟩;have:=R.dp b x I;rw[aN]at this;exact⟨by simpa[lt]using this.1,this.2⟩
end
end
end Go.Proofs.YtklfhpkljddjbaaGreatDoor.Shv
