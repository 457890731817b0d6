/- The library of this proof, part D: an abstract machine for the code of the program, and its soundness. -/
import Derived.KernelRfl
import Derived.Shelf.Strings.Builder1
import Derived.ChangeArms
import Derived.ChangeStays
import Derived.ChangeSame
import Derived.SizedLaws
import Derived.Below
import Derived.WalkKit
import Derived.ProofKit
import Derived.OpenShut
import Derived.Laws.BitsLemmas
import Derived.Laws.Bits64
import Derived.Shelf.GgSortFunc.InsertionK
import Derived.Shelf.SlSortCmp.Insertion
import Derived.Sort.AssemblyPlain
import Derived.Lib.BitFns
import Derived.Test.YtdjagncoefjfeaaGreatCsLC

namespace Go.Proofs.YtdjagncoefjfeaaGreat.Shv
set_option linter.all false
section
open Go
variable {xb:a6}
variable {U:cK}{R:Type}
def n0(gl:ev)(gd:Option (Nat×Bool))(dst:Option Nat):Bool:=
 match dst with
 |none=>true
 |some d=>(gl.all λe=>!(Nat.beq e.1 d) && !(Nat.beq e.2.1 d))&&(match gd with
  |some g=>!(Nat.beq g.1 d)
  |none=>true)
def fU(dst:Option Nat)(v:bz U)(env:bU U):bU U:=
 match dst with
 |none=>env
 |some d=>(d,v)::env
def h9(gl:ev)(gd:Option (Nat×Bool))(dst:Option Nat):ev:=
 match gd,dst with
 |some g,some d=>(d,g)::gl
 |_,_=>gl
abbrev fV(U:cK):=Nat->List (cC U)
abbrev kX(U:cK):=bU U->Option (List (bz U))
def Rn(s:cC U)(getv:kX U)(env:bU U)(J:bf U)(key:Nat):Option (bU U×bf U×a6×aL U.D s.ts):=
 match getv env with
 |none=>none
 |some vs=>match wC J 0 0 s.st (CW s.gC vs ([],[])) []with
  |(bs,c)=>match kV c env J with
   |none=>none
   |some (env',J')=>match getv env' with
    |none=>none
    |some d=>match tn bs&&((bs.all λb=>Nat.ble (b+1) key)&&(Nat.beq bs.length s.st.length&&Nat.ble s.eo.length (bs.length+16)))with
     |false=>none
     |true=>match mj bs s.gC d,iY bs J' 0 s.st with
      |some a,some b=>match aL.dec U.D s.ts (a++b)with
       |some h=>some (env',J',bs,h)
       |none=>none
      |_,_=>none
def wP(getv:kX U)(env:bU U)(J:bf U)(key:Nat)(k:bU U->bf U->bz U->Option R):List (cC U)->Option R
 |[]=>none
 |s::r=>match Rn s getv env J key with
  |none=>wP getv env J key k r
  |some (env',J',bs,h)=>(s.F h)>>=λa=>match ot J' (s.rest a) 0 bs with
   |none=>none
   |some c=>if c then k env' (mX J' bs (back bs key) (s.rest a)) ((s.res a).b9 (back bs key))else none
def isNil{α:Type}:List α->Bool
 |[]=>true
 |_=>false
def Fv(s:cC U)(getv:kX U)(env:bU U):Option (aL U.D s.ts):=
 match isNil s.st&&isNil s.eo,getv env with
 |true,some vs=>match vs.all fC,mj [] s.gC vs with
  |true,some a=>aL.dec U.D s.ts a
  |_,_=>none
 |_,_=>none
def wO(getv:kX U)(env:bU U)(g:Bool)(k:bz U->Option R):List (cC U)->Option R
 |[]=>none
 |s::r=>match Fv s getv env with
  |none=>wO getv env g k r
  |some h=>(if g then s.F h else some (aL.kc U s.us))>>=λa=>match fC (s.res a)with
   |true=>k (s.res a)
   |false=>none
def hasB(J:bf U)(b:Nat):Bool:=match aX J b with
 |some _=>true
 |none=>false
def bj.iB(J:bf U):bj U->Bool
 |.t _|.dO .. |.aF|.e4|.e3=>true
 |.ptr b _=>hasB J b
 |.cH b _ _ _=>hasB J b
 |.fn _ caps=>caps.all (hasB J)
 |.arr b=>match aX J b with
  |some x=>(match x.df with
   |some _=>true
   |none=>false)
  |none=>false
 |.sub .. =>false
 |.pre .. =>false
 |.dH .. =>false
 |.mp b=>hasB J b
 |.eg _=>false
 |.cI b=>match aX J b with
  |some x=>(match x.df with
   |some p=>Nat.beq p.1 1
   |none=>false)
  |none=>false
 |.dead=>false
def jz(J:bf U):bz U->Bool
 |.c x=>x.iB J
 |.agg cs=>cs.all (bj.iB J)
 |.aY vs=>go J vs
where go (J:bf U):List (bz U)->Bool
 |[]=>true
 |v::vs=>jz J v&&go J vs
def bj.ir(J:bf U):bj U->C
 |.t c=>.t (c.enc U)
 |.dO ty x o=>.dO (ty.enc U x) o
 |.aF=>.aF
 |.e4=>.e4
 |.e3=>.e3
 |.fn f caps=>.fn f caps
 |.ptr b o=>.ptr b o
 |.cH b ty i o=>.cH b (ty.sz U) i o
 |.arr b=>match aX J b with
  |some x=>(match x.df with
   |some p=>.arr b p.1 0 p.2
   |none=>.dead)
  |none=>.dead
 |.sub b a len=>.fx b 1 a len
 |.pre _ _=>.dead
 |.dH .. =>.dead
 |.mp b=>.mp b
 |.eg b=>.eg b
 |.cI b=>match aX J b with
  |some x=>(match x.df with
   |some p=>.cI b p.2
   |none=>.dead)
  |none=>.dead
 |.dead=>.dead
def hi(J:bf U):bz U->V
 |.c x=>.c (x.ir J)
 |.agg cs=>.agg (cs.map (bj.ir J))
 |.aY vs=>.aY (go J vs)
where go (J:bf U):List (bz U)->List V
 |[]=>[]
 |v::vs=>hi J v::go J vs
def gm(J:bf U):cP U->Bool
 |.box cs=>cs.all (bj.iB J)
 |.arr _ _=>true
 |.rows .. =>false
 |.set _=>true
 |.buf _ _=>true
 |.b8 _ c=>c.iB J
 |.cA .. =>false
def sd(J:bf U):cP U->bO
 |.box cs=>.box (cs.map (bj.ir J))
 |.arr ty l=>.arr (ty.sz U) (l.map (ty.enc U))
 |.rows sz _=>.arr sz []
 |.set ks=>.set ks
 |.buf E s=>.buf E s
 |.b8 E c=>.b8 E (c.ir J)
 |.cA t l i o _=>.cA (t.sz U) (l.map (t.enc U)) i o .dead
def kz(J:bf U):bf U->a7
 |[]=>[]
 |(b,x)::r=>(b,sd J x)::kz J r
def H8(J:bf U)(l:bf U):Bool:=l.all λp=>Nat.ble (p.1+1) 16&&gm J p.2
def Fu(s:cC U)(getv:kX U)(env:bU U):Option (aL U.D s.ts):=
 match isNil s.st&&Nat.ble s.eo.length 16,getv env with
 |true,some vs=>match vs.all fC,mj [] s.gC vs with
  |true,some a=>aL.dec U.D s.ts a
  |_,_=>none
 |_,_=>none
def zX(getv:kX U)(env:bU U)(J:bf U)(key:Nat)(k:bf U->bz U->Option R):List (cC U)->Option R
 |[]=>none
 |s::r=>match Fu s getv env with
  |none=>zX getv env J key k r
  |some h=>(s.F h)>>=λa=>match jz (s.rest a) (s.res a)&&H8 (s.rest a) (s.rest a)with
   |true=>k (mX J [] (back [] key) (s.rest a)) ((s.res a).b9 (back [] key))
   |false=>none
def bj.fM:bj U->a6
 |.ptr b _|.cH b _ _ _|.arr b|.sub b _ _|.pre b _|.dH b _ _|.mp b|.eg b|.cI b=>[b]
 |.fn _ caps=>caps
 |_=>[]
def bz.fM:bz U->a6
 |.c x=>x.fM
 |.agg cs=>cs.flatMap bj.fM
 |.aY _=>[]
def lV(l:a6)(b:Nat):Bool:=l.any λc=>Nat.beq c b
def Ro(xb:a6)(s:cC U)(getv:kX U)(env:bU U)(J:bf U)(key:Nat):Option (a6×aL U.D s.ts):=
 match getv env with
 |none=>none
 |some vs=>match wC J 0 0 s.st (CW s.gC vs ([],[])) []with
  |(bs,c)=>match isNil c&&(tn bs&&((bs.all λb=>Nat.ble (b+1) key&&((lV (vs.flatMap bz.fM) b||lV xb b)&&hasB J b))&&(Nat.beq bs.length s.st.length&&(Nat.ble bs.length s.eo.length&&Nat.ble s.eo.length (bs.length+16)))))with
   |false=>none
   |true=>match mj bs s.gC vs,iY bs J 0 s.st with
    |some a,some b=>match aL.dec U.D s.ts (a++b)with
     |some h=>some (bs,h)
     |none=>none
    |_,_=>none
def HQ(n:Nat)(J:bf U)(l:bf U):Bool:=l.all λp=>Nat.ble (p.1+1) n&&gm J p.2
def vQ(xb:a6)(getv:kX U)(env:bU U)(J:bf U)(key:Nat)(k:bf U->bz U->Option R):List (cC U)->Option R
 |[]=>none
 |s::r=>match Ro xb s getv env J key with
  |none=>vQ xb getv env J key k r
  |some (bs,h)=>(s.F h)>>=λa=>match jz (s.rest a) (s.res a)&&HQ (bs.length+16) (s.rest a) (s.rest a),ot J (s.rest a) 0 bs with
   |true,some c=>if c then k (mX J bs (back bs key) (s.rest a)) ((s.res a).b9 (back bs key))else none
   |_,_=>none
def adV(getv:kX U)(env:bU U)(l:List (cC U)):Bool:=l.any λs=>(Fu s getv env).isSome
def adW(getv:kX U)(env:bU U)(l:List (cC U)):Bool:=l.any λs=>(Fv s getv env).isSome
def agp(gd:Option (Nat×Bool))(getv:kX U)(env:bU U)(l:List (cC U)):Bool:=
 match gd with
 |some _=>!(adW getv env l)
 |none=>false
def aec(d:Option a6):a6:=match d with
 |some l=>l
 |none=>[]
def Ij(fo:fV U)(d:Option a6)(gd:Option (Nat×Bool))(f:Nat)(getv:kX U)(gl:ev)(env:bU U)(J:bf U)(key:Nat)(k:bU U->bf U->bz U->Option R):Option R:=
 match gd with
 |none=>match d with
  |none=>wP getv env J key k (fo f)
  |some xb=>match adV getv env (fo f)with
   |true=>zX getv env J key (λJ v=>k env J v) (fo f)
   |false=>vQ xb getv env J key (λJ v=>k env J v) (fo f)
 |some _=>match lo gl env qq gd with
  |some g=>wO getv env g (λv=>k env J v) (fo f)
  |none=>none
abbrev jZ:=List (Nat×Bool)
def uN(nf:jZ)(gl:ev):Nat->Option (Nat×Bool)->Bool
 |0,_=>false
 |_,none=>false
 |a+1,some (t,b)=>(nf.any λg=>Nat.beq g.1 t&&(g.2==b))||uN nf gl a (aX gl t)
def kA(nf:jZ)(dst:Option Nat):Bool:=
 match dst with
 |none=>true
 |some d=>nf.all λg=>!(Nat.beq g.1 d)
def Eb:bz U:= .c (.t ⟨.bool,false⟩)
def rY(fo:fV U)(d:Option a6)(o:cb)(key:Nat)(gl:ev)(nf:jZ)(env:bU U)(J:bf U)(k:ev->jZ->bU U->bf U->Option R):Option R:=
 match n0 gl o.guard o.dst&&kA nf o.dst with
 |false=>none
 |true=>match uN nf gl qq o.guard with
  |true=>match lo gl env qq o.guard with
   |some _=>k (h9 gl o.guard o.dst) nf (fU o.dst Eb env) J
   |none=>none
  |false=>match o.op with
   |.call f args=>match agp o.guard (λe=>kr gl o.guard e args) env (fo f)with
    |true=>match lo gl env qq o.guard,o.guard with
     |some g,some gd=>if g then vQ (aec d) (λe=>kr gl o.guard e args) env J key (λJ v=>k (h9 gl o.guard o.dst) nf (fU o.dst v env) J) (fo f)else k (h9 gl o.guard o.dst) (gd::nf) (fU o.dst Eb env) J
     |_,_=>none
    |false=>Ij fo d o.guard f (λe=>kr gl o.guard e args) gl env J key λenv J v=>k (h9 gl o.guard o.dst) nf (fU o.dst v env) J
   |.iI x args=>match d,o.guard,dg gl none env x with
    |none,none,some (.c (.fn f _))=>wP (λe=>match dg gl none e x,kr gl none e args with
     |some (.c (.fn i a)),some vs=>match Nat.beq i f with
      |true=>some (vs++a.map λb=>.c (.ptr b 0))
      |false=>none
     |_,_=>none) env J key (λenv J v=>k gl nf (fU o.dst v env) J) (fo f)
    |some _,none,some (.c (.fn f []))=>wO (λe=>kr gl none e args) env true (λv=>k gl nf (fU o.dst v env) J) (fo f)
    |_,_,_=>none
   |op=>match ct gl o.guard env J key op with
    |none=>none
    |some (c,v,J')=>match o.guard with
     |none=>if c then k gl nf (fU o.dst v env) J' else none
     |some gd=>match lo gl env qq (some gd)with
      |none=>none
      |some g=>match op.neutral with
       |true=>if(c || !g) then k (h9 gl o.guard o.dst) nf (fU o.dst v env) J else none
       |false=>if g then(if c then k (h9 gl o.guard o.dst) nf (fU o.dst v env) J' else none)else k (h9 gl o.guard o.dst) (gd::nf) (fU o.dst Eb env) J
def Ri(J:bf U):bj U->List (Nat×aJ)
 |.arr b=>match aX J b with
  |some (.arr t _)=>[(b,t)]
  |_=>[]
 |_=>[]
def ago(J:bf U):bz U->List (Nat×aJ)
 |.c x=>Ri J x
 |.agg cs=>cs.flatMap (Ri J)
 |.aY _=>[]
def Fs(gl:ev)(gd:Option (Nat×Bool))(env:bU U)(J:bf U)(xs:List aS):List (Nat×aJ):=
 xs.flatMap λx=>match dg gl gd env x with
  |some v=>ago J v
  |none=>[]
def AK(l:List (Nat×aJ))(env:bU U)(J:bf U):Option (bU U×bf U):=
 match l with
 |[]=>none
 |_=>kV l env J
def Ft(gl:ev)(o:cb)(env:bU U)(J:bf U):Option (bU U×bf U):=
 match o.op with
 |.slc _ x _ _=>match dg gl o.guard env x with
  |some (.c (.arr b))=>match aX J b with
   |some (.arr t _)=>kV [(b,t)] env J
   |_=>none
  |_=>none
 |.call _ args=>match o.guard with
  |some _=>AK (Fs gl o.guard env J args) env J
  |none=>none
 |.bsliceT _ _ _ _ ps=>AK (Fs gl o.guard env J (ps.map Prod.snd)) env J
 |.bslice _ _ _ ps=>AK (Fs gl o.guard env J (ps.map Prod.snd)) env J
 |_=>none
def DS(fo:fV U)(d:Option a6)(o:cb)(key:Nat)(gl:ev)(nf:jZ)(env:bU U)(J:bf U)(k:ev->jZ->bU U->bf U->Option R):Option R:=
 match d with
 |some xb=>rY fo (some xb) o key gl nf env J k
 |none=>match Ft gl o env J with
  |none=>rY fo none o key gl nf env J k
  |some p=>rY fo none o key gl nf p.1 p.2 k
def pE(fo:fV U)(d:Option a6):List cb->Nat->ev->jZ->bU U->bf U->(ev->bU U->bf U->Option R)->Option R
 |[],_,gl,_,env,J,k=>k gl env J
 |o::r,key,gl,nf,env,J,k=>DS fo d o key gl nf env J λgl nf env J=>pE fo d r (key+16) gl nf env J k
def xy(gl:ev)(k:Nat):Bool:=gl.any λe=>Nat.beq e.1 k
def clean(gl:ev):bU U->bU U
 |[]=>[]
 |(k,v)::r=>match xy gl k with
  |true=>clean gl r
  |false=>(k,v)::clean gl r
def zY(gl:ev)(env:bU U):bU U:=
 match gl with
 |[]=>env
 |_=>clean gl env
structure eD (key:Nat)(gl:ev)(nf:jZ)(env:bU U)(J:bf U)(env1:Env)(J1:a7)(G:Nat->Bool):Prop where
 gQ:c5 key J G env env1
 ao:gL gl env G
 eQ:cx key J J1
 aD:∀g,g∈nf->cG env G (some g)=false
variable{N:Nat}{o:cb}{K:Env->a7->Prop}
section
variable {P:Program}{kk key:Nat}{J J':bf U}{J1 bn:a7}{env:bU U}{env1:Env}{G:Nat->Bool}{gl:ev}{gd:Option (Nat×Bool)}{nf:jZ}{dst:Option Nat}{v:bz U}{v1:V}
theorem Ig{d:Option Nat}{k:Nat}:aX (fU d v env) k=if d=some k then some v else aX env k:=by
 cases d with
 |none=>simp[fU]
 |some d=>
  simp only[fU,aX];cases h:Nat.beq d k with
  |true=>rw[cV h];simp
  |false=>
   have:=hG h;simp[this]
theorem DT{o:Option (Nat×Bool)}{g:Bool}(h:lo gl env qq o=some g):o=none\/∃t b y,o=some (t,b)/\fa env t b=some y:=by
 cases o with
 |none=>exact .inl rfl
 |some x=>
  obtain⟨t,b⟩:=x;obtain⟨y,a⟩:=aad h;grind
theorem J9(ao:gL gl env G)(aD:∀g,g∈nf->cG env G (some g)=false):∀{a:Nat} {gd:Option (Nat×Bool)},uN nf gl a gd=true->cG env G gd=false
 |0,gd,h=>by simp[uN]at h
 |a+1,none,h=>by simp[uN]at h
 |a+1,some (t,b),h=>by
  simp only[uN,hO,wj,cc,iP]at h;rcases h with⟨⟨f,c⟩,e,h1,d⟩|h
  . have:=cV h1;grind
  . have:=J9 ao aD h;rw[ao.aX t]at this;simp[cG,this]
theorem eD.bind(he:c5 key J' G env env1)(ao:gL gl env G)(aE:cx key J' bn)(aD:∀g,g∈nf->cG env G (some g)=false)(F:ca key J' v v1)(B:gd=none\/∃t b y,gd=some (t,b)/\fa env t b=some y)(f:n0 gl gd dst=true)(o:kA nf dst=true):
 eD key (h9 gl gd dst) nf (fU dst v env) J' (en env1 dst (cG env G gd) v1) bn (λk=>if dst=some k then cG env G gd else G k):=by
 refine⟨λk w a=>?_,?_,aE,λg p=>?_⟩
 . rw[Ig]at a;rw[px];split at a
   . rename_i h;cases a;rw[ad h,ad h];exact⟨v1,rfl,F⟩
   . rename_i h;rw[al h,al h];exact he k w a
 . cases dst with
   |none=>
    have:h9 gl gd none=gl:=by cases gd<;>rfl
    rw[this];simp only[fU,reduceCtorEq,bT];exact ao
   |some d=>
    simp only[n0,cc,c0,p7]at f;have D:∀k t b,aX gl k=some (t,b)->k≠d/\t≠d:=by
     intro k t b a;have E:∀{l:ev},aX l k=some (t,b)->(k,t,b)∈l:=by
      intro l;induction l with
      |nil=>intro h;simp[aX]at h
      |cons e r ih=>
       obtain⟨L,e⟩:=e;intro h;simp only[aX]at h;split at h
       . simp_all
       grind
     have:=f.1 _ (E a);exact⟨hG this.1,hG this.2⟩
    have A:∀t b,t≠d->fa (fU (some d) v env) t b=fa env t b:=by
     intro t b ht;unfold fa;rw[Ig,al (by simp;exactλe=>ht e.symm)]
    have z:∀k t b,aX gl k=some (t,b)->∃y,fa (fU (some d) v env) t b=some y/\(if some d=some k then cG env G gd else G k)=((if some d=some t then cG env G gd else G t)&&y):=by
     intro k t b a;obtain⟨h1,H⟩:=D k t b a;obtain⟨y,J,K⟩:=ao.held k t b a;grind
    cases gd with
    |none=>
     refine⟨λk a=>?_,λk t b a=>z k t b a⟩;by_cases j:some d=some k
     . rw[ad j];rfl
     . rw[al j];exact ao.free k a
    |some g=>
     obtain⟨t0,b0⟩:=g;have q:t0≠d:=by
      have:=f.2;simp only[p7]at this;exact hG this
     refine⟨λk a=>?_,λk t b a=>?_⟩
     . simp only[h9,aX]at a;split at a
       . cases a
       . rename_i c;rw[al (by simp;exact hG c)];exact ao.free k a
     . simp only[h9,aX]at a;split at a
       . rename_i c;cases a;have:=cV c;subst this;rcases B with h|⟨t,b,y,h,x⟩
         . cases h
         . cases h;refine⟨y,by rw[A _ _ q];exact x,?_⟩;rw[ad rfl,al (by simp;exactλe=>q e.symm)];simp[cG,x]
       . exact z k t b a
 . obtain⟨t,b⟩:=g;have h0:=aD _ p;cases dst with
   |none=>simpa[fU]using h0
   |some d=>
    simp only[kA,c0,p7]at o;have u:t≠d:=hG (o _ p);simp only[cG]at h0⊢;rw[al (by simp;exactλe=>u e.symm)];have:fa (fU (some d) v env) t b=fa env t b:=by
     unfold fa;rw[Ig,al (by simp;exactλe=>u e.symm)]
    rw[this];exact h0
theorem HR:ca N J Eb (.c (.t (.bool false))):= .c (.t (U:=U) ⟨.bool,false⟩)
theorem DA(h:eD key gl nf env J env1 J1 G)(c:o.guard=none\/∃t b y,o.guard=some (t,b)/\fa env t b=some y)(ao:cG env G o.guard=false)(d:n0 gl o.guard o.dst=true)(e:kA nf o.dst=true)(f:ca (key+16) J v v1):
 DStep xb P o key env1 J1 false v1 J1/\eD (key+16) (h9 gl o.guard o.dst) nf (fU o.dst v env) J (en env1 o.dst false v1) J1 (λk=>if o.dst=some k then false else G k):=by
 have a:=Cx h.gQ c;rw[ao]at a;refine⟨.skip a rfl,?_⟩;have:=eD.bind (dst:=o.dst) (h.gQ.mono (dm.more (by omega))) h.ao (h.eQ.mono (Nat.le_add_right key 16)) h.aD f c d e;rw[ao]at this;exact this
theorem M8{c:Bool}(h:eD key gl nf env J env1 J1 G)(i:ct gl o.guard env J key o.op=some (c,v,J'))(d:o.guard=none\/∃t b y,o.guard=some (t,b)/\fa env t b=some y)(l:n0 gl o.guard o.dst=true)(m:kA nf o.dst=true):
 (cG env G o.guard=true->c=true->∃v1 bn,DStep xb P o key env1 J1 true v1 bn/\eD (key+16) (h9 gl o.guard o.dst) nf (fU o.dst v env) J' (en env1 o.dst true v1) bn (λk=>if o.dst=some k then true else G k))/\
 (cG env G o.guard=false->o.op.neutral=true->∃v1,DStep xb P o key env1 J1 false v1 J1/\eD (key+16) (h9 gl o.guard o.dst) nf (fU o.dst v env) J (en env1 o.dst false v1) J1 (λk=>if o.dst=some k then false else G k)):=by
 obtain⟨⟨v1,g,q⟩,u,aD⟩:=I9 h.gQ h.ao h.eQ i;have j:=Cx h.gQ d;refine⟨λao r=>?_,λao f=>?_⟩
 . obtain⟨p,bn,h1,a,n⟩:=q ao r;rw[ao]at j;have s:o.op.drawn=true:=by
    generalize o.op=w at i;cases w<;>first|rfl|(simp[ct]at i)
   have hs:DStep xb P o key env1 J1 true v1 (if o.op.neutral then J1 else bn):= .op j s h1 (λ_=>a) (.inr rfl);have e:(if o.op.neutral then J1 else bn)=bn:=by
    split
    . rename_i f;exact(xL f h1).symm
    . rfl
   rw[e]at hs;refine⟨v1,bn,hs,?_⟩;have:=eD.bind (dst:=o.dst) (h.gQ.mono u) h.ao n h.aD g d l m;rw[ao]at this;exact this
 . rw[aD f]at g;obtain⟨h1,a⟩:=DA (P:=P) h d ao l m g;exact⟨v1,h1,a⟩
theorem JC{x:bj U}(h:x.oj=true):x.oH.bN []=x.oH:=by
 cases x<;>simp[bj.oj]at h<;>try rfl
 rename_i f caps;cases caps with
 |nil=>rfl
 |cons=>simp[bj.oj]at h
theorem Ii:∀{x:bz U},fC x=true->(e6 x).bN []=e6 x
 |.c x,h=>by simp only[fC]at h;simp only[e6,V.bN,JC h]
 |.agg cs,h=>by
  simp only[fC,c0]at h;simp only[e6,V.bN,List.map_map]
  congr 1
  exact List.map_congr_left λc a=>JC (h c a)
 |.aY vs,h=>by
  simp only[fC]at h;simp only[e6,V.bN];rw[go vs h]
where go:∀(vs:List (bz U)),fC.go vs=true->V.bN.go [] (e6.go vs)=e6.go vs
 |[],_=>rfl
 |v::vs,h=>by
  simp only[fC.go,cc]at h;simp only[e6.go,V.bN.go,Ii h.1,go vs h.2]
def fI(P:Program)(fo:fV U):Prop:=∀f s,s∈fo f->s.f=f/\hI P f=true/\hX P s
theorem Ik{a:bf U}{x:bj U}{d:C}(h:cg N a x d)(hs:x.iB a=true):d=x.ir a:=by
 cases h<;>simp only[bj.iB,bK]at hs<;>try rfl
 . rename_i b sz n c aa;simp only[bj.ir];grind
 . rename_i b n c aa;simp only[bj.ir];grind
theorem BP{a:bf U}:∀{vs:List (bz U)} {i:Nat},(hi.go a vs)[i]?=(vs[i]?).map (hi a)
 |[],i=>by simp[hi.go]
 |v::vs,0=>by simp[hi.go]
 |v::vs,i+1=>by simp[hi.go,BP]
theorem S9{a:bf U}:∀{vs:List (bz U)} {i:Nat} {v:bz U},jz.go a vs=true->vs[i]?=some v->jz a v=true
 |[],i,v,_,h=>by simp at h
 |x::vs,0,v,hs,h=>by simp[jz.go]at hs;simp at h;subst h;exact hs.1
 |x::vs,i+1,v,hs,h=>by simp[jz.go]at hs;exact S9 hs.2 (by simpa using h)
theorem Hf{a:bf U}:∀{xs:List (bj U)} {ds:List C},a8 (cg N a) xs ds->(∀x,x∈xs->x.iB a=true)->ds=xs.map (bj.ir a)
 |[],[],_,_=>rfl
 |x::xs,d::ds,.cons h1 b,hs=>by
  rw[gB,<-Ik h1 (hs x (by simp)),<-Hf b (λx c=>hs x (by simp[c]))]
theorem KE{a:bf U}{x:bz U}{d:V}(h:ca N a x d):jz a x=true->d=hi a x:=by
 induction h with
 |c h=>intro hs;simp only[jz]at hs;rw[Ik h hs];rfl
 |agg h=>
  intro hs;simp only[jz,c0]at hs;simp only[hi];rw[Hf h hs]
 |aY xs ds ae h ih=>
  intro hs;simp only[jz]at hs;simp only[hi]
  congr 1
  apply yf;intro i;rw[BP];cases b:xs[i]? with
  |none=>grind
  |some x=>
   have f:=(c7.1 b).1;have e:=eF (l:=ds) (i:=i) (by omega);rw[e,f']
   congr 1
   exact ih i x _ b e (S9 hs b)
theorem M9{a:bf U}{x:cP U}{y:bO}(h:hW N a x y)(hs:gm a x=true):y=sd a x:=by
 cases h with
 |box h=>simp only[gm,c0]at hs;simp only[sd];rw[Hf h hs]
 |arr t l=>rfl
 |set ks=>rfl
 |buf E s=>rfl
 |b8 h=>simp only[gm]at hs;simp only[sd];rw[Ik h hs]
 |cA=>simp[gm]at hs
 |rows=>simp[gm]at hs
theorem yM{a:bf U}:∀{l:bf U} {b:Nat},aV (kz a l) b=(aX l b).map (sd a)
 |[],b=>rfl
 |(k,x)::r,b=>by
  simp only[kz,aV,aX];cases h:Nat.beq k b with
  |true=>rw[ad (cV h)];rfl
  |false=>rw[al (hG h)];exact yM
theorem af9{k:Nat}{c:C}:c.b9 (back [] k)=c.bx k:=by rfl
theorem N3{k:Nat}:∀{v:V},v.b9 (back [] k)=v.bx k
 |.c x=>by simp only[V.b9,V.bx,af9]
 |.agg cs=>by rfl
 |.aY vs=>by simp only[V.b9,V.bx];rw[go vs]
where go:∀(vs:List V),V.b9.go (back [] k) vs=V.bx.go k vs
 |[]=>rfl
 |v::vs=>by simp only[V.b9.go,V.bx.go];rw[N3,go vs]
theorem IN{k:Nat}:∀{s:a7},hh J1 [] (back [] k) s=lE J1 k s
 |[]=>rfl
 |(b,x)::r=>by
  simp only[hh,lE];rw[IN];rfl
theorem Dm:∀{ss:List fK} {j:Nat} {a:eL U} {i:Nat} {x:cP U},aX (gx j ss a) i=some x->j<=i/\i<j+ss.length
 |[],j,a,i,x,h=>by simp[gx,aX]at h
 |s::ss,j,a,i,x,h=>by
  simp only[gx]at h;split at h
  . simp only[aX]at h;split at h
    . simp_all
    . have:=Dm h;simp;omega
  . have:=Dm h;simp;omega
theorem Jm{bs:a6}:∀{caps:a6},(∀c,c∈caps->pos bs c=some c)->nJ bs caps=some caps
 |[],_=>rfl
 |c::cs,h=>by simp only[nJ,h c (by simp),Jm (caps:=cs) (λx a=>h x (by simp[a]))]
theorem vD{d:bf U}(j:∀b x,aX d b=some x->b<N){x:bj U}(hs:x.iB d=true):cg N d x (x.ir d)/\dx ((x.ir d).bN (List.range N)) (x.ir d):=by
 have e:∀b,hasB d b=true->pos (List.range N) b=some b:=by
  intro b h;unfold hasB at h;split at h
  . rename_i y a;exact mJ Fl (by simp[j b y a])
  . cases h
 cases x with
 |t c=>exact⟨.t c,dx.refl _⟩
 |ptr b o=>
  simp only[bj.iB]at hs;refine⟨.ptr b o,?_⟩;simp only[bj.ir,C.bN,e b hs];exact dx.refl _
 |cH b ty i o=>
  simp only[bj.iB]at hs;refine⟨.cH b ty i o,?_⟩;simp only[bj.ir,C.bN,e b hs];exact dx.refl _
 |dO ty x o=>exact⟨.dO ty x o,dx.refl _⟩
 |arr b=>
  simp only[bj.iB]at hs;split at hs
  . rename_i y a;split at hs
    . rename_i p g;simp only[bj.ir,a,g];refine⟨.arr b p.1 p.2 (j b y a) λz l q k=>?_,?_⟩
      . grind
      . simp only[C.bN,e b (by simp[hasB,a])];exact dx.refl _
    . cases hs
  . cases hs
 |dH b n len=>simp[bj.iB]at hs
 |sub b n len=>simp[bj.iB]at hs
 |pre b h=>simp[bj.iB]at hs
 |mp b=>
  simp only[bj.iB]at hs;refine⟨.mp b,?_⟩;simp only[bj.ir,C.bN,e b hs];exact dx.refl _
 |eg b=>simp[bj.iB]at hs
 |cI b=>
  simp only[bj.iB]at hs;split at hs
  . rename_i y a;split at hs
    . rename_i p g;simp only[bj.ir,a,g];refine⟨.cI b p.2 (j b y a) λz l q k=>?_,?_⟩
      . rw[a]at l;cases l;rw[g]at k;cases k;have:=cV hs;grind
      . simp only[C.bN,e b (by simp[hasB,a])];exact dx.refl _
    . cases hs
  . cases hs
 |aF=>exact⟨.aF,dx.refl _⟩
 |e4=>exact⟨.e4,dx.refl _⟩
 |e3=>exact⟨.e3,dx.refl _⟩
 |fn f caps=>
  simp only[bj.iB,c0]at hs;refine⟨.fn f caps,?_⟩;have:nJ (List.range N) caps=some caps:=Jm λc m=>e c (hs c m);simp only[bj.ir,C.bN,this];exact dx.refl _
 |dead=>simp[bj.iB]at hs
theorem vY{a:bf U}(c:∀b x,aX a b=some x->b<N):∀{xs:List (bj U)},(∀x,x∈xs->x.iB a=true)->a8 (cg N a) xs (xs.map (bj.ir a))/\a8 dx ((xs.map (bj.ir a)).map (C.bN (List.range N))) (xs.map (bj.ir a))
 |[],_=>⟨.nil,.nil⟩
 |x::xs,hs=>by
  obtain⟨h1,d⟩:=vD c (hs x (by simp));obtain⟨e,f⟩:=vY c (xs:=xs) (λx g=>hs x (by simp[g]));exact⟨.cons h1 e,.cons d f⟩
theorem R7{a:bf U}:∀{vs:List (bz U)},(hi.go a vs).length=vs.length
 |[]=>rfl
 |v::vs=>by simp[hi.go,R7]
theorem zR{N:Nat}{a:bf U}(f:∀b x,aX a b=some x->b<N):∀{x:bz U},jz a x=true->ca N a x (hi a x)/\gj ((hi a x).bN (List.range N)) (hi a x)
 |.c x,hs=>by
  obtain⟨h1,g⟩:=vD f (x:=x) (by simpa[jz]using hs);exact⟨.c h1,.c g⟩
 |.agg cs,hs=>by
  simp only[jz,c0]at hs;obtain⟨h1,g⟩:=vY f hs;exact⟨.agg h1,.agg g⟩
 |.aY vs,hs=>by
  simp only[jz]at hs;have:=go f vs hs;refine⟨.aY _ _ (by rw[R7]) λi x d e k=>?_,.aY _ _ (by rw[Ch]) λi x y e j=>?_⟩
  . rw[BP,e]at k;grind
  . rw[CL,j]at e;simp at e;subst e;rw[BP,bc]at j;grind
where go {N:Nat} {a:bf U} (f:∀b x,aX a b=some x->b<N):∀(vs:List (bz U)),jz.go a vs=true->∀x,x∈vs->ca N a x (hi a x)/\gj ((hi a x).bN (List.range N)) (hi a x)
 |[],_=>by simp
 |v::vs,hs=>by
  simp only[jz.go,cc]at hs;have h1:=zR f hs.1;have g:=go f vs hs.2;intro x e;rcases fe.1 e with rfl|e
  . exact h1
  . exact g x e
theorem Jn {fo:fV U}(ag:fI P fo){o:cb}{f:Nat}{args:List aS}(aj:o.op= .call f args)(h:eD key gl nf env J env1 J1 G)(z:o.guard=none)(ad:n0 gl o.guard o.dst=true)(af:kA nf o.dst=true)
 {k:bf U->bz U->Option R}{r:R}:∀{ss:List (cC U)},(∀s,s∈ss->s∈fo f)->zX (λe=>kr gl o.guard e args) env J key k ss=some r->
 ∃v v1 J' bn,k J' v=some r/\DStep xb P o key env1 J1 true v1 bn/\eD (key+16) (h9 gl o.guard o.dst) nf (fU o.dst v env) J' (en env1 o.dst true v1) bn (λi=>if o.dst=some i then true else G i)
 |[],_,g=>by simp[zX]at g
 |s::ss,ai,g=>by
  simp only[zX]at g;split at g
  . exact Jn ag aj h z ad af (λs hs=>ai s (by simp[hs])) g
  . rename_i aa A;unfold Fu at A;split at A
    . rename_i vs F I;simp only[cc]at F;split at A
      . rename_i a M aq;rw[c0]at M;obtain⟨aF,aR,aG⟩:=ag f s (ai s (by simp));obtain⟨p,vs1,b1,b2,b3⟩:=s6 h.gQ h.ao I;have H:s.st=[]:=by cases H:s.st with|nil=>rfl|cons=>rw[H]at F;simp[isNil]at F
        have T:=h5 F.2;obtain⟨m,hres,K⟩:=tV.1 g;split at K
        . rename_i B;simp only[cc]at B;obtain⟨ys,f1,ae,am⟩:=uA (N:=key) (Jc:=([]:bf U)) (wm) (λj b aP aA=>by simp at aA) aq
          obtain⟨S,aK,al,dn⟩:=am vs1 b2.length (λi x d g t=>by
           obtain⟨Q,h1,u⟩:=b2.get g
           rw[t]at h1;cases h1;exact u)
          have av:aL.cells U.D s.ts aa=a:=aL.fb A;have ar:s.args aa=ys:=by
           unfold cC.args;rw[av];have:=f1 [];grind
          have Y:s.iG aa=[]:=by unfold cC.iG;rw[H];rfl
          have ah:s.st.length=0:=by rw[H];rfl
          have Z:=aG aa m hres S [] (by
           rw[ar,Y,ah]
           refine a8.lv (by rw[ae,aK,b2.length]) λi x d g t=>dn i x d g t) (by rw[Y];intro b x g;simp[aX]at g)
          rw[aF,ah]at Z;have aH:a8 gj vs1 S:=by
           refine a8.lv aK.symm λi d Q t ay=>?_;have I:=al i d Q t ay;obtain⟨x,g,L⟩:=(b2.flip (R':=λd x=>ca key J x d) λ_ _ h=>h).get t;have hs:=M x (eJ g);have:=zQ L hs;subst this;rw[Ii hs]at I;exact I
          have aw:=ec.conv aH (J:=[]) (λb aP g=>by simp[aV]at g) Z;have q:∀b x,aX (s.rest m) b=some x->b<16/\gm (s.rest m) x=true:=by
           intro b x g;have aC:∀{l:bf U},aX l b=some x->(b,x)∈l:=by
            intro l;induction l with
            |nil=>intro h;simp[aX]at h
            |cons e r ih=>
             obtain⟨aT,e⟩:=e;intro h;simp only[aX]at h;split at h
             . simp_all
             grind
           have:=B.2;unfold H8 at this;rw[c0]at this;have u:=this _ (aC g);simp only[cc]at u;exact⟨by have:=h5 u.1;omega,u.2⟩
          have w:∀b x,aX (s.rest m) b=some x->b<s.eo.length:=by
           intro b x g;have:=(Dm g).2;omega
          have ax:ec P f vs1 [] 0 (λaN aO ak=>aN=hi (s.rest m) (s.res m)/\aO=kz (s.rest m) (s.rest m)/\ak=s.eo.length):=by
           refine ec.tidy aw ?_
           rintro aU s1 aQ ⟨rfl,aJ,aM⟩
           have aE:=KE aJ B.1;subst aE;refine⟨List.range s.eo.length,_,_,Fl,rfl,?_,?_,rfl,rfl,by simp⟩
           . exact(zR w B.1).2
           . intro b x g;rw[yM,bc]at g;obtain⟨O,C,rfl⟩:=g;obtain⟨h1,y,u,an⟩:=aM b O C;have aI:=M9 an (q b O C).2;subst aI;have ht:=zb (bs:=List.range s.eo.length) (i:=0) (j:=b) (r:=List.range s.eo.length) (by simp[h1]) u;rw[gb]at ht;refine⟨_,ht,?_⟩;cases O with
             |box cs=>
              have n:=(q b _ C).2;simp only[gm,c0]at n;exact .box (vY w n).2
             |arr ty l=>exact .arr
             |rows sz l=>have n:=(q b _ C).2;simp[gm]at n
             |set ks=>exact .same
             |buf E s=>exact .same
             |b8 E c=>have n:=(q b _ C).2;exact .b8 (vD w (by simpa[gm]using n)).2
             |cA=>have n:=(q b _ C).2;simp[gm]at n
          have au:V.az.V.dF (lt 0) vs1=true:=by
           refine tJ λi d t=>?_;obtain⟨x,g,L⟩:=(b2.flip (R':=λd x=>ca key J x d) λ_ _ h=>h).get t;have hs:=M x (eJ g);have:=zQ L hs;subst this;exact(vC (N:=key) (J:=J) hs).2 _
          have ao:fP env1 o.guard=some true:=by rw[z];rfl
          have aB:(kz (s.rest m) (s.rest m)).all (λx=>decide (x.1<16))=true:=by
           have az:=B.2;unfold H8 at az;have:∀{l:bf U},(l.all λp=>Nat.ble (p.1+1) 16&&gm (s.rest m) p.2)=true->(kz (s.rest m) l).all (λx=>decide (x.1<16))=true:=by
            intro l;induction l with
            |nil=>intro _;rfl
            |cons e r ih=>
             obtain⟨b,x⟩:=e;intro h;simp only[oe,cc]at h;simp only[kz,oe,cc,dq];exact⟨by have:=h5 h.1.1;omega,ih h.2⟩
           grind
          have ab:ca s.eo.length (s.rest m) (s.res m) (hi (s.rest m) (s.res m))/\cx s.eo.length (s.rest m) (kz (s.rest m) (s.rest m)):=by
           refine⟨(zR w B.1).1,λb x g=>?_⟩;refine⟨w b x g,sd (s.rest m) x,by rw[yM,g];rfl,?_⟩;cases x with
           |box cs=>
            have n:=(q b _ g).2;simp only[gm,c0]at n;exact .box (vY w n).1
           |arr ty l=>exact .arr ty l
           |rows sz l=>have n:=(q b _ g).2;simp[gm]at n
           |set ks=>exact .set ks
           |buf E s=>exact .buf E s
           |b8 E c=>have n:=(q b _ g).2;exact .b8 (vD w (by simpa[gm]using n)).1
           |cA=>have n:=(q b _ g).2;simp[gm]at n
          have cp:s.eo.length<=([]:a6).length+16:=(by simpa using T);have W:=cx.EO (key:=key) (bs:=[]) wm (by simp) cp h.eQ rfl ab.2;have X:=ca.b9 (key:=key) (bs:=[]) (J:=J) wm (by simp) cp h.eQ ab.1;have ap:=Dz (key:=key) (bs:=[]) (Jr:=s.rest m) wm (by simp) h.eQ rfl;rw[N3]at X;rw[IN]at W;refine⟨_,(hi (s.rest m) (s.res m)).bx key,_,lE J1 key (kz (s.rest m) (s.rest m)),K,.own aj ao z b1 (b3 (by rw[z];rfl)) au T aB ax rfl,?_⟩;have:=eD.bind (gd:=o.guard) (dst:=o.dst) (nf:=nf) (h.gQ.mono ap) h.ao W h.aD X (.inl z) ad af;rw[z]at this⊢;exact this
        . cases K
      . cases A
    . cases A
theorem IP:∀{args:List aS} {p:Prop} {vs1:List V},hp env1 args=some (p,vs1)->k1 env1 args=vs1.flatMap V.fM
 |[],p,vs1,h=>by simp[hp]at h;rw[h.2];rfl
 |x::xs,p,vs1,h=>by
  simp only[hp,bo,bc,bE]at h;obtain⟨⟨d,v0⟩,h1,⟨b,c⟩,a,_,rfl⟩:=h;have ih:=IP (p:=b) (vs1:=c) a;simp only[k1,e7]at ih⊢;rw[h1,ih]
theorem M'{c:bf U}{x:bj U}{d:C}(h:cg N c x d):∀b,b∈x.fM->b∈d.fM:=by
 intro b a;cases h<;>simp only[bj.fM,C.fM]at a⊢<;>first|exact a|(simp at a)
theorem KF{c:bf U}:∀{xs:List (bj U)} {ds:List C},a8 (cg N c) xs ds->∀b,b∈xs.flatMap bj.fM->b∈ds.flatMap C.fM
 |[],[],_,b,a=>a
 |x::xs,d::ds,.cons h1 e,b,a=>by
  simp only[e7,ga]at a⊢;rcases a with a|a
  . exact .inl (M' h1 b a)
  . exact .inr (KF e b a)
theorem abX{e:bf U}{x:bz U}{d:V}(h:ca N e x d):∀b,b∈x.fM->b∈d.fM:=by
 intro b a;cases h with
 |c h=>exact M' h b a
 |agg h=>exact KF h b a
 |aY=>simp[bz.fM]at a
theorem L1{c:bf U}:∀{xs:List (bz U)} {ds:List V},a8 (ca N c) xs ds->∀b,b∈xs.flatMap bz.fM->b∈ds.flatMap V.fM
 |[],[],_,b,a=>a
 |x::xs,d::ds,.cons h1 e,b,a=>by
  simp only[e7,ga]at a⊢;rcases a with a|a
  . exact .inl (abX h1 b a)
  . exact .inr (L1 e b a)
theorem L2{l:a6}{b:Nat}(h:lV l b=true):b∈l:=by
 simp only[lV,wj]at h;simp_all
theorem GA {fo:fV U}(ah:fI P fo){o:cb}{f:Nat}{args:List aS}(aj:o.op= .call f args)(h:eD key gl nf env J env1 J1 G)(L:o.guard=none\/∃t b y,o.guard=some (t,b)/\fa env t b=some y)(af:n0 gl o.guard o.dst=true)(ag:kA nf o.dst=true)
 (M:cG env G o.guard=true){k:bf U->bz U->Option R}{r:R}:∀{ss:List (cC U)},(∀s,s∈ss->s∈fo f)->vQ xb (λe=>kr gl o.guard e args) env J key k ss=some r->
 ∃v v1 J' bn,k J' v=some r/\DStep xb P o key env1 J1 true v1 bn/\eD (key+16) (h9 gl o.guard o.dst) nf (fU o.dst v env) J' (en env1 o.dst true v1) bn (λi=>if o.dst=some i then true else G i)
 |[],_,g=>by simp[vQ]at g
 |s::ss,ai,g=>by
  simp only[vQ]at g;split at g
  . exact GA ah aj h L af ag M (λs hs=>ai s (by simp[hs])) g
  . rename_i bs aa q;obtain⟨aO,a5,aP⟩:=ah f s (ai s (by simp));obtain⟨m,hres,H⟩:=tV.1 g;unfold Ro at q;split at q
    . cases q
    . rename_i vs aT;split at q;rename_i a2 a4 _;split at q
      . cases q
      . rename_i w;simp only[cc,c0]at w;obtain⟨_,ax,I,az,aA,aB⟩:=w;split at q
        . rename_i a b au X;split at q
          . rename_i a7 aH;cases q;have bS:=zc ax;have ay:∀b,b∈bs->b<key:=λb w=>h5 (I b w).1;have O:=cV az;have a9:=h5 aA;have cp:=h5 aB;obtain⟨p,vs1,b1,b2,b3⟩:=s6 h.gQ h.ao aT;have aC:=zW bS X;obtain⟨ys,f1,ae,an⟩:=uA (N:=key) bS aC au
            obtain⟨S,aK,a3,dn⟩:=an vs1 b2.length (λi x d g K=>by
             obtain⟨am,h1,T⟩:=b2.get g
             grind)
            obtain⟨a0,t1,t2⟩:=Da bS h.eQ X;have Z:aL.cells U.D s.ts aa=a++b:=aL.fb aH;have aw:s.args aa=ys:=by unfold cC.args;rw[Z,f1]
            have W:s.iG aa=gx 0 s.st b:=by unfold cC.iG;rw[Z,f1]
            have ab:=aP aa m hres S a0 (by
             rw[aw,W,<-O]
             exact a8.lv (by rw[ae,aK,b2.length]) λi x d g K=>dn i x d g K) (by rw[W,<-O];exact t2)
            rw[aO,<-O]at ab;have aQ:a8 gj (vs1.map (V.bN bs)) S:=by
             refine a8.lv (by simp[aK]) λi d am K a6=>?_;grind
            have aE:=ec.conv aQ t1 ab;split at H
            . rename_i c B Y;simp only[cc]at B;split at H
              . rename_i aG;subst aG;have u:∀b x,aX (s.rest m) b=some x->gm (s.rest m) x=true:=by
                 intro b x g;have a':∀{l:bf U},aX l b=some x->(b,x)∈l:=by
                  intro l;induction l with
                  |nil=>intro h;simp[aX]at h
                  |cons e r ih=>
                   obtain⟨ba,e⟩:=e;intro h;simp only[aX]at h;split at h
                   . simp_all
                   grind
                 have:=B.2;unfold HQ at this;grind
                have z:∀b x,aX (s.rest m) b=some x->b<s.eo.length:=by
                 intro b x g;have:=(Dm g).2;omega
                have aF:ec P f (vs1.map (V.bN bs)) (fq bs J1 0 bs) bs.length (λaY aZ al=>aY=hi (s.rest m) (s.res m)/\aZ=kz (s.rest m) (s.rest m)/\al=s.eo.length):=by
                 refine ec.tidy aE ?_
                 rintro bb s1 a1 ⟨rfl,aU,aW⟩
                 have aN:=KE aU B.1;subst aN;refine⟨List.range s.eo.length,_,_,Fl,?_,?_,?_,rfl,rfl,by simp⟩
                 . unfold keeps;grind
                 . exact(zR z B.1).2
                 . intro b x g;rw[yM,bc]at g;obtain⟨Q,C,rfl⟩:=g;obtain⟨h1,y,T,F⟩:=aW b Q C;have ak:=M9 F (u b Q C);subst ak;have ht:=zb (bs:=List.range s.eo.length) (i:=0) (j:=b) (r:=List.range s.eo.length) (by simp[h1]) T;rw[gb]at ht;refine⟨_,ht,?_⟩;cases Q with
                   |box cs=>
                    have n:=u b _ C;simp only[gm,c0]at n;exact .box (vY z n).2
                   |arr ty l=>exact .arr
                   |rows sz l=>have n:=u b _ C;simp[gm]at n
                   |set ks=>exact .same
                   |buf E s=>exact .same
                   |b8 E c=>have n:=u b _ C;exact .b8 (vD z (by simpa[gm]using n)).2
                   |cA=>have n:=u b _ C;simp[gm]at n
                have av:=Cx h.gQ L;have aM:(kz (s.rest m) (s.rest m)).all (λx=>decide (x.1<bs.length+16))=true:=by
                 have aI:=B.2;unfold HQ at aI;have:∀{l:bf U},(l.all λp=>Nat.ble (p.1+1) (bs.length+16)&&gm (s.rest m) p.2)=true->(kz (s.rest m) l).all (λx=>decide (x.1<bs.length+16))=true:=by
                  intro l;induction l with
                  |nil=>intro _;rfl
                  |cons e r ih=>
                   obtain⟨b,x⟩:=e;intro h;simp only[oe,cc]at h;simp only[kz,oe,cc,dq];exact⟨by have:=h5 h.1.1;omega,ih h.2⟩
                 grind
                have ad:ca s.eo.length (s.rest m) (s.res m) (hi (s.rest m) (s.res m))/\cx s.eo.length (s.rest m) (kz (s.rest m) (s.rest m)):=by
                 refine⟨(zR z B.1).1,λb x g=>?_⟩;refine⟨z b x g,sd (s.rest m) x,by rw[yM,g];rfl,?_⟩;cases x with
                 |box cs=>
                  have n:=u b _ g;simp only[gm,c0]at n;exact .box (vY z n).1
                 |arr ty l=>exact .arr ty l
                 |rows sz l=>have n:=u b _ g;simp[gm]at n
                 |set ks=>exact .set ks
                 |buf E s=>exact .buf E s
                 |b8 E c=>have n:=u b _ g;exact .b8 (vD z (by simpa[gm]using n)).1
                 |cA=>have n:=u b _ g;simp[gm]at n
                have aq:=cx.EO (key:=key) (bs:=bs) bS ay cp h.eQ Y ad.2;have ar:=ca.b9 (key:=key) (bs:=bs) (J:=J) bS ay cp h.eQ ad.1;have ap:=Dz (key:=key) (bs:=bs) (Jr:=s.rest m) bS ay h.eQ Y;have aJ:∀b,b∈bs->∃x,aV J1 b=some x:=by
                 intro b w;have F:=(I b w).2.2;unfold hasB at F;split at F
                 . rename_i x g;obtain⟨_,y,ak,_⟩:=h.eQ b x g;grind
                 . cases F
                have aR:∀b,b∈bs->b∈k1 env1 args++xb:=by
                 intro b w;rw[IP b1];have A:=(I b w).2.1;rw[hO]at A;rcases A with A|A
                 . exact BH _ (L1 b2 b (L2 A))
                 . exact List.mem_append_right _ (L2 A)
                refine⟨_,(hi (s.rest m) (s.res m)).b9 (back bs key),_,_,H,.raw aj (by rw[av,M]) rfl b1 (b3 M) bS ay aJ aR cp aM aF rfl,?_⟩;have:=eD.bind (gd:=o.guard) (dst:=o.dst) (nf:=nf) (h.gQ.mono ap) h.ao aq h.aD ar L af ag;simp_all
              . cases H
            . cases H
          . cases q
        . cases q
theorem HD {fo:fV U}(W:fI P fo){o:cb}{f:Nat}{args:List aS}(w:o.op= .call f args\/(o.guard=none/\∃x q,o.op= .iI x args/\x.get env1=some (q,.c (.fn f []))/\q))(h:eD key gl nf env J env1 J1 G)(H:o.guard=none\/∃t b y,o.guard=some (t,b)/\fa env t b=some y)(S:n0 gl o.guard o.dst=true)(T:kA nf o.dst=true)
 {g:Bool}(ao:g=cG env G o.guard){k:bz U->Option R}{r:R}:∀{ss:List (cC U)},(∀s,s∈ss->s∈fo f)->wO (λe=>kr gl o.guard e args) env g k ss=some r->
 ∃v v1,k v=some r/\DStep xb P o key env1 J1 g v1 J1/\eD (key+16) (h9 gl o.guard o.dst) nf (fU o.dst v env) J (en env1 o.dst g v1) J1 (λi=>if o.dst=some i then g else G i)
 |[],_,l=>by simp[wO]at l
 |s::ss,ab,l=>by
  simp only[wO]at l;split at l
  . exact HD W w h H S T ao (λs hs=>ab s (by simp[hs])) l
  . rename_i aa z;unfold Fv at z;split at z
    . rename_i vs F B;simp only[cc]at F;split at z
      . rename_i a K ak;rw[c0]at K;obtain⟨av,am,aw⟩:=W f s (ab s (by simp));obtain⟨p,vs1,b1,b2,b3⟩:=s6 h.gQ h.ao B;have A:s.st=[]:=by cases A:s.st with|nil=>rfl|cons=>rw[A]at F;simp[isNil]at F
        have aC:s.eo=[]:=by cases A:s.eo with|nil=>rfl|cons=>rw[A]at F;simp[isNil]at F
        obtain⟨u,hres,I⟩:=tV.1 l;split at I
        . rename_i af;obtain⟨ay,az⟩:=vC (N:=key+16) (J:=J) af;have M:=Cx h.gQ H;rw[<-ao]at M;have aj:eD (key+16) (h9 gl o.guard o.dst) nf (fU o.dst (s.res u) env) J (en env1 o.dst g (e6 (s.res u))) J1 (λi=>if o.dst=some i then g else G i):=by
           have:=eD.bind (dst:=o.dst) (h.gQ.mono (dm.more (by omega:key<=key+16))) h.ao (h.eQ.mono (Nat.le_add_right key 16)) h.aD ay H S T;grind
          refine⟨s.res u,e6 (s.res u),I,?_,aj⟩;have Y:g=true->p/\V.az.V.dF (lt 0) vs1=true/\(e6 (s.res u)).az (lt 0)=true/\ec P f vs1 [] 0 (λaA _ _=>aA=e6 (s.res u)):=?_
          . rcases w with w|⟨X,x,q,w,l,au⟩
            . exact .call w M b1 Y
            . have E:g=true:=by rw[ao,X];rfl
              exact .iI w X E l au am b1 (Y E)
          intro E;rw[ad E]at hres;obtain⟨ys,f1,ae,ah⟩:=uA (N:=key) (Jc:=([]:bf U)) (wm) (λj b aB ar=>by simp at ar) ak
          obtain⟨L,aK,ag,dn⟩:=ah vs1 b2.length (λi x d l m=>by
           obtain⟨C,h1,ai⟩:=b2.get l
           rw[m]at h1;cases h1;exact ai)
          have an:aL.cells U.D s.ts aa=a:=aL.fb z;have al:s.args aa=ys:=by
           unfold cC.args;rw[an];have:=f1 [];grind
          have O:s.iG aa=[]:=by unfold cC.iG;rw[A];rfl
          have Z:s.st.length=0:=by rw[A];rfl
          have Q:=aw aa u hres L [] (by
           rw[al,O,Z]
           refine a8.lv (by rw[ae,aK,b2.length]) λi x d l m=>dn i x d l m) (by rw[O];intro b x l;simp[aX]at l)
          rw[av,Z]at Q;have ax:a8 gj vs1 L:=by
           refine a8.lv aK.symm λi d C m ap=>?_;have B:=ag i d C m ap;obtain⟨x,l,n⟩:=(b2.flip (R':=λd x=>ca key J x d) λ_ _ h=>h).get m;exact agc (K x (eJ l)) B n
          refine⟨b3 (by rw[<-ao];exact E),?_,az _,?_⟩
          . refine tJ λi d m=>?_;obtain⟨x,l,n⟩:=(b2.flip (R':=λd x=>ca key J x d) λ_ _ h=>h).get m;exact agd (K x (eJ l)) n
          . refine ec.conv ax (λb aB l=>by simp[aV]at l) (Q.mono λaE bn N' aq=>?_);exact zQ aq.2.1 af
        . cases I
      . cases z
    . cases z
where
 agc {x:bz U} {d C:V} (hs:fC x=true) (B:gj (d.bN []) C) (n:ca key J x d):gj d C:=by
  have:=zQ n hs;subst this;rw[Ii hs]at B;exact B
 agd {x:bz U} {d:V} (hs:fC x=true) (n:ca key J x d):d.az (lt 0)=true:=by
  have:=zQ n hs;subst this;exact(vC (N:=key) (J:=J) hs).2 _
theorem CO {fo:fV U}(W:fI P fo){f:Nat}{getv:kX U}{cal:Env->List V->Prop}
 (Z:∀{env':bU U} {J2:bf U} {j:Env} {vs:List (bz U)},c5 key J2 G env' j->gL gl env' G->getv env'=some vs->∃vs1,a8 (ca key J2) vs vs1/\cal j vs1)
 (he:c5 key J G env env1)(ao:gL gl env G)(aE:cx key J J1){k:bU U->bf U->bz U->Option R}{r:R}:∀{ss:List (cC U)},(∀s,s∈ss->s∈fo f)->wP getv env J key k ss=some r->
 ∃env' J2 j bn vs1,Conv kk key env1 J1 key j bn/\c5 key J2 G env' j/\gL gl env' G/\(∀t b,fa env' t b=fa env t b)/\cal j vs1/\hI P f=true/\
  N2 P f vs1 bn key j (λB s1=>∃q v,k env' q v=some r/\c5 (key+16) q G env' j/\cx (key+16) q s1/\ca (key+16) q v B)
 |[],_,m=>by simp[wP]at m
 |s::ss,ab,m=>by
  simp only[wP]at m;split at m
  . exact CO W Z he ao aE (λs hs=>ab s (by simp[hs])) m
  . rename_i env' J2 bs h g;obtain⟨az,an,aA⟩:=W f s (ab s (by simp));obtain⟨aI,hres,z⟩:=tV.1 m;unfold Rn at g;split at g
    . cases g
    . rename_i aW _;split at g;rename_i aP aS _;split at g
      . cases g
      . rename_i aR aO X;split at g
        . cases g
        . rename_i vs aD;split at g
          . cases g
          . rename_i y;simp only[cc,c0]at y;obtain⟨ai,aj,ak,al⟩:=y;split at g
            . rename_i a b ag M;split at g
              . rename_i aa aw;cases g;have bS:=zc ai;have ay:∀b,b∈bs->b<key:=λb y=>h5 (aj b y);have F:=cV ak;have ax:=h5 al;obtain⟨j,bn,au,E,A,Y⟩:=yV (kk:=kk) (gl:=gl) X he aE;obtain⟨vs1,b2,ap⟩:=Z E (Y ao) aD;have aq:=zW bS M;obtain⟨ys,f1,ae,af⟩:=uA (N:=key) bS aq ag
                obtain⟨H,aK,aQ,dn⟩:=af vs1 b2.length (λi x d m C=>by
                 obtain⟨ad,h1,I⟩:=b2.get m
                 grind)
                obtain⟨aM,t1,t2⟩:=Da bS A M;have Q:aL.cells U.D s.ts h=a++b:=aL.fb aw;have ah:s.args h=ys:=by unfold cC.args;rw[Q,f1]
                have L:s.iG h=gx 0 s.st b:=by unfold cC.iG;rw[Q,f1]
                have T:=aA h aI hres H aM (by
                 rw[ah,L,<-F]
                 exact a8.lv (by rw[ae,aK,b2.length]) λi x d m C=>dn i x d m C) (by rw[L,<-F];exact t2)
                rw[az,<-F]at T;have aC:a8 gj (vs1.map (V.bN bs)) H:=by
                 refine a8.lv (by simp[aK]) λi d ad C aT=>?_;grind
                have ar:=ec.conv aC t1 T;split at z
                . cases z
                . rename_i c O;split at z
                  . rename_i av;subst av;have cp:s.eo.length<=bs.length+16:=ax;refine⟨env',J2,j,bn,vs1,au,E,Y ao,λt b=>Pg X,ap,an,?_⟩;intro aB nt φ S a w R am aN aF;refine(hz.raw (n:=lt key) (key:=key) bS ay ar (K:=λB s1=>∃q v,k env' q v=some r/\c5 (key+16) q G env' j/\cx (key+16) q s1/\ca (key+16) q v B) ?_ (λb y=>by simp[lt];exact ay b y) aB nt φ S j a w R (λb h1 _=>G4 h1) am aN aF)
                    rintro B s1 N' ⟨rfl,aG,aH⟩
                    refine⟨cp,_,_,z,E.mono (Dz bS ay A O),cx.EO bS ay cp A O aH,ca.b9 bS ay cp A aG⟩
                  . cases z
              . cases g
            . cases g
where
 Ph {env:bU U} {b0:Nat} {ty:aJ} {l:List (ty.den U.D)} {t:Nat} {b:Bool}:fa (rV b0 (⟨.slice ty,l⟩:Cell U.D) env) t b=fa env t b:=by
  unfold fa;rw[Dk];cases aX env t with
  |none=>rfl
  |some v=>
   cases v with
   |c x=>
    cases x with
    |arr u=>simp only[f',bz.cf,bj.cf];cases Nat.beq u b0<;>rfl
    |cH u aV i o=>simp only[f',bz.cf,bj.cf];cases Nat.beq u b0<;>rfl
    |pre u h=>simp only[f',bz.cf,bj.cf];cases Nat.beq u b0<;>rfl
    |dH u aU h=>simp only[f',bz.cf,bj.cf];cases Nat.beq u b0<;>rfl
    |_=>rfl
   |agg cs=>rfl
   |aY vs=>rfl
 Pg {l:List (Nat×aJ)} {env env':bU U} {J J':bf U} {t:Nat} {b:Bool} (h:kV l env J=some (env',J')):fa env' t b=fa env t b:=by
  induction l generalizing env J with
  |nil=>simp[kV]at h;rw[h.1]
  |cons p l ih=>
   obtain⟨c,ty⟩:=p;simp only[kV]at h;split at h
   . rename_i e s h1;have I:fa e t b=fa env t b:=by
      unfold AJ at h1;split at h1
      . split at h1
        . cases h1;exact Ph
        . cases h1
      . split at h1
        . cases h1;exact Ph
        . cases h1
      . cases h1;rfl
     rw[ih h,I]
   . cases h
theorem IQ{fo:fV U}(z:fI P fo)(h:eD key gl nf env J env1 J1 G){k:ev->jZ->bU U->bf U->Option R}{r:R}(a:rY fo (some xb) o key gl nf env J k=some r):
 ∃g v1 bn O V env' J' W,DStep xb P o key env1 J1 g v1 bn/\k O V env' J'=some r/\eD (key+16) O V env' J' (en env1 o.dst g v1) bn W:=by
 unfold rY at a;split at a
 . cases a
 . rename_i Q;simp only[cc]at Q;obtain⟨j,l⟩:=Q;split at a
   . rename_i bD;split at a
     . rename_i B A;have Y:=J9 h.ao h.aD bD;obtain⟨h1,i⟩:=DA (P:=P) h (DT A) Y j l (HR (U:=U) (N:=key+16) (J:=J));exact⟨_,_,_,_,_,_,_,_,h1,a,i⟩
     . cases a
   . split at a
     . rename_i f args u;split at a
       . rename_i ad;split at a
         . rename_i g gd ao e;have w:o.guard=none\/∃t b y,o.guard=some (t,b)/\fa env t b=some y:=by rw[e];rw[e]at ao;exact DT ao
           have n:g=cG env G o.guard:=CM h.ao ao;split at a
           . rename_i p;obtain⟨v,v1,J',bn,h1,i,m⟩:=GA (fo:=fo) z u h w j l (by rw[<-n];exact p) (k:=λJ v=>k (h9 gl o.guard o.dst) nf (fU o.dst v env) J) (λs hs=>hs) a;exact⟨_,_,_,_,_,_,_,_,i,h1,m⟩
           . rename_i p;have K:cG env G o.guard=false:=by rw[<-n];simpa using p
             have E:eD key gl (gd::nf) env J env1 J1 G:=⟨h.gQ,h.ao,h.eQ,λB A=>by
              rcases fe.1 A with rfl|L
              . grind
              . exact h.aD B L⟩
             have I:kA (gd::nf) o.dst=true:=by
              cases C:o.dst with
              |none=>rfl
              |some d=>
               rw[C]at l j;rw[e]at j;simp only[kA,oe,cc];simp only[kA]at l;simp only[n0,cc]at j;grind
             obtain⟨h1,i⟩:=DA (P:=P) E w K j I (HR (U:=U) (N:=key+16) (J:=J));exact⟨_,_,_,_,_,_,_,_,h1,a,i⟩
         . cases a
       unfold Ij at a;split at a
       . rename_i e;simp only at a;split at a
         case h_2=>
          obtain⟨v,v1,J',bn,h1,i,m⟩:=GA (fo:=fo) z u h (.inl e) j l (by rw[e];rfl) (k:=λJ v=>k (h9 gl o.guard o.dst) nf (fU o.dst v env) J) (λs hs=>hs) a;exact⟨_,_,_,_,_,_,_,_,i,h1,m⟩
         rw[e]at a;obtain⟨v,v1,J',bn,h1,i,m⟩:=Jn (fo:=fo) z u h e j l (k:=λJ v=>k (h9 gl o.guard o.dst) nf (fU o.dst v env) J) (λs hs=>hs) (by rw[e];exact a);exact⟨_,_,_,_,_,_,_,_,i,h1,m⟩
       . rename_i gd e;split at a
         . rename_i g ao;rw[e]at a ao;obtain⟨v,v1,h1,i,m⟩:=HD (fo:=fo) z (.inl u) h (by rw[e];exact DT ao) j l (g:=g) (by rw[e];exact CM h.ao ao) (λs hs=>hs) (by rw[e];exact a);rw[e]at m;exact⟨_,_,_,_,_,_,_,_,i,h1,m⟩
         . cases a
     . rename_i x args u;split at a
       . contradiction
       . rename_i ae f C e Z;obtain⟨q,v1,a1,a2,a3⟩:=cv h.gQ h.ao Z;have:=a2.EN;subst this;obtain⟨v,v1,h1,i,m⟩:=HD (xb:=xb) (fo:=fo) z (.inr ⟨e,x,q,u,a1,a3 rfl⟩) h (.inl e) j l (g:=true) (by rw[e];rfl) (λs hs=>hs) (by rw[e];exact a);rw[e]at m;exact⟨_,_,_,_,_,_,_,_,i,h1,m⟩
       . cases a
     . rename_i op aa ab;split at a
       . cases a
       . rename_i c v J' D;split at a
         . rename_i e;split at a
           . rename_i F;rw[e]at D;obtain⟨v1,bn,h1,i⟩:=(M8 (P:=P) (o:=o) h (by rw[e];exact D) (.inl e) j l).1 (by rw[e];rfl) F;rw[e]at i;exact⟨_,_,_,_,_,_,_,_,h1,a,i⟩
           . cases a
         . rename_i gd e;split at a
           . cases a
           . rename_i g ao;have w:o.guard=none\/∃t b y,o.guard=some (t,b)/\fa env t b=some y:=by rw[e];exact DT ao
             have n:g=cG env G o.guard:=by rw[e];exact CM h.ao ao
             have M:=M8 (P:=P) (o:=o) (xb:=xb) h D w j l;split at a
             . rename_i T;split at a
               . rename_i H;cases S:g with
                 |true=>
                  rw[S]at H n;simp at H;obtain⟨v1,bn,h1,i⟩:=M.1 n.symm H;have X:J'=J:=(I9 h.gQ h.ao h.eQ D).agb T;rw[X]at i;exact⟨_,_,_,_,_,_,_,_,h1,a,i⟩
                 |false=>
                  rw[S]at n;obtain⟨v1,h1,i⟩:=M.2 n.symm T;exact⟨_,_,_,_,_,_,_,_,h1,a,i⟩
               . cases a
             . split at a
               . rename_i p;split at a
                 . rename_i F;obtain⟨v1,bn,h1,i⟩:=M.1 (by rw[<-n];exact p) F;exact⟨_,_,_,_,_,_,_,_,h1,a,i⟩
                 . cases a
               . rename_i p;have K:cG env G o.guard=false:=by rw[<-n];simpa using p
                 have E:eD key gl (gd::nf) env J env1 J1 G:=⟨h.gQ,h.ao,h.eQ,λB A=>by
                  rcases fe.1 A with rfl|L
                  . grind
                  . exact h.aD B L⟩
                 have I:kA (gd::nf) o.dst=true:=by
                  cases C:o.dst with
                  |none=>rfl
                  |some d=>
                   rw[C]at l j;rw[e]at j;simp only[kA,oe,cc];simp only[kA]at l;simp only[n0,cc]at j;grind
                 obtain⟨h1,i⟩:=DA (P:=P) E w K j I (HR (U:=U) (N:=key+16) (J:=J));exact⟨_,_,_,_,_,_,_,_,h1,a,i⟩
theorem Jo{fo:fV U}(L:fI P fo)(h:eD key gl nf env J env1 J1 G){k:ev->jZ->bU U->bf U->Option R}{r:R}(d:rY fo none o key gl nf env J k=some r)
 (bI:∀C Z env' J' n bn ah,k C Z env' J'=some r->eD (key+16) C Z env' J' n bn ah->K n bn):
 ∃fQ ai,Conv kk key env1 J1 key fQ ai/\uB P o key fQ ai K:=by
 by_cases i:rY fo (some []) o key gl nf env J k=some r
 . obtain⟨g,v1,bn,C,Z,env',J',ah,h1,ar,au⟩:=IQ L h i;exact⟨env1,J1,Conv.refl,.inl (h1.hc (bI _ _ _ _ _ _ _ ar au))⟩
 . unfold rY at d i;split at d
   . cases d
   . rename_i I;rw[I]at i;simp only at i;simp only[cc]at I;obtain⟨y,al⟩:=I;split at d
     . rename_i bD;rw[bD]at i;exact absurd d i
     . rename_i bD;rw[bD]at i;simp only at i;split at d
       . rename_i f args m;rw[m]at i;simp only at i;split at d
         . rename_i O;rw[O]at i;exact absurd d i
         rename_i O;rw[O]at i;simp only at i;unfold Ij at d i;split at d
         . rename_i l;simp only at d;rw[l]at d;obtain⟨env',J2,n,bn,vs1,A,an,B,ap,⟨p,M,N⟩,ak,D⟩:=CO (kk:=kk) (P:=P) L (f:=f) (getv:=λe=>kr gl none e args) (cal:=λe vs=>∃p,hp e args=some (p,vs)/\p)
            (λhe ao u=>by
             obtain⟨p,vs1,b1,b2,b3⟩:=s6 he ao u
             exact⟨vs1,b2,p,b1,b3 rfl⟩) h.gQ h.ao h.eQ (λs hs=>hs) d
           refine⟨n,bn,A,.inr ⟨by rw[l];rfl,f,vs1,.inl ⟨args,p,m,M,N⟩,?_⟩⟩;intro aB nt φ S a w E H af Q;refine(D aB nt φ S a w E H af Q).mono ?_
           rintro e w' ⟨v,ae,ag,bQ,s1,rfl,⟨am,v3,T,W,X,Y⟩,aa,ab,ad⟩
           refine⟨v,ae,ag,bQ,s1,rfl,?_,aa,ab,ad⟩
           have F:=eD.bind (gd:=none) (dst:=o.dst) (nf:=nf) W B X (λg ao=>by
            obtain⟨t,b⟩:=g;have h0:=h.aD _ ao;simp only[cG]at h0⊢
            grind) Y (.inl rfl) (by rw[l]at y;exact y) al
           exact bI _ _ _ _ _ _ _ T F
         . rename_i gd l;rw[l]at i d;exact absurd d i
       . rename_i x args m;split at d
         . rename_i f caps aC l aE
           obtain⟨env',J2,n,bn,vs1,A,an,B,ap,⟨q,p,j,z,az,aA,M,N,ay⟩,ak,D⟩:=CO (kk:=kk) (P:=P) L (f:=f) (getv:=λe=>match dg gl none e x,kr gl none e args with
            |some (.c (.fn aj j)),some vs=>match Nat.beq aj f with
             |true=>some (vs++j.map λb=>.c (.ptr b 0))
             |false=>none
            |_,_=>none) (cal:=λe vs=>∃ q p j z,x.get e = some (q, .c (.fn f j))/\q/\hp e args = some (p,z)/\p/\vs = z++j.map λb=>V.c (.ptr b 0))
            (λhe ao u=>by
             split at u
             . rename_i aj j aF aK aq;split at u
               . rename_i av;have:=cV av;subst this;cases u;obtain⟨q,v1,a1,a2,a3⟩:=cv he ao aK;have:=a2.EN;subst this;obtain⟨p,vs1,b1,b2,b3⟩:=s6 he ao aq;refine⟨vs1++j.map λb=>V.c (.ptr b 0),b2.append ?_,q,p,j,vs1,a1,a3 rfl,b1,b3 rfl,rfl⟩;exact a8.map_map (a8.self (R:=λa b=>ca key _ (.c (.ptr a 0)) (.c (.ptr b 0))) (λb=>.c (.ptr b 0)) _)
               . cases u
             grind) h.gQ h.ao h.eQ (λs hs=>hs) d
           refine⟨n,bn,A,.inr ⟨by rw[l];rfl,f,vs1,.inr ⟨x,args,q,p,j,z,m,az,aA,M,N,ak,ay⟩,?_⟩⟩;intro aB nt φ S a w E H af Q;refine(D aB nt φ S a w E H af Q).mono ?_
           rintro e w' ⟨v,ae,ag,bQ,s1,rfl,⟨am,v3,T,W,X,Y⟩,aa,ab,ad⟩
           refine⟨v,ae,ag,bQ,s1,rfl,?_,aa,ab,ad⟩
           have F:=eD.bind (gd:=none) (dst:=o.dst) (nf:=nf) W B X (λg ao=>by
            obtain⟨t,b⟩:=g;have h0:=h.aD _ ao;simp only[cG]at h0⊢
            grind) Y (.inl rfl) (by rw[l]at y;exact y) al
           exact bI _ _ _ _ _ _ _ T F
         . contradiction
         . cases d
       . rename_i op aw ax;exfalso;refine i ?_;split
         . rename_i f args m;exact absurd m (aw f args)
         . rename_i x args m;exact absurd m (ax x args)
         . exact d
theorem Hg{l:List (Nat×aJ)}{p:bU U×bf U}(h:AK l env J=some p):∃l,kV l env J=some p:=by
 unfold AK at h;grind
theorem YP{p:bU U×bf U}(h:Ft gl o env J=some p):∃l,kV l env J=some p:=by
 unfold Ft at h;split at h
 . grind
 . split at h
   . exact Hg h
   . cases h
 . exact Hg h
 . exact Hg h
 . cases h
theorem WU{fo:fV U}(f:fI P fo)(h:eD key gl nf env J env1 J1 G){k:ev->jZ->bU U->bf U->Option R}{r:R}(a:DS fo none o key gl nf env J k=some r)
 (bI:∀e i env' J' d bn j,k e i env' J'=some r->eD (key+16) e i env' J' d bn j->K d bn):
 ∃fQ c,Conv kk key env1 J1 key fQ c/\uB P o key fQ c K:=by
 simp only[DS]at a;split at a
 . exact Jo f h a bI
 . rename_i p v;obtain⟨l,ae⟩:=YP v;obtain⟨aK,s1,m,n,q,s⟩:=yV (kk:=kk) (gl:=gl) ae h.gQ h.eQ
   obtain⟨u,w,d1,d2⟩:=Jo (kk:=kk) (P:=P) f (⟨n,s h.ao,q,λg ao=>by
    obtain⟨t,b⟩:=g;have h0:=h.aD _ ao;simp only[cG]at h0⊢
    rw[CO.Pg ae];exact h0⟩:eD key gl nf p.1 p.2 aK s1 G) a bI
   exact⟨u,w,m.trans d1,d2⟩
end
end
section
open Go
variable {xb:a6}
variable {U:cK}{R:Type}
def jX(env:bU U):aS->Option a6
 |.const (.c (.t _))=>some []
 |.const (.c .aF)=>some []
 |.const (.agg _)=>some []
 |.const _=>none
 |.tmp k=>match aX env k with
  |some (.c (.ptr b _))=>some [b]
  |some (.c (.cH b _ _ _))=>some [b]
  |some (.c (.arr b))=>some [b]
  |some (.c (.sub b _ _))=>some [b]
  |some (.c (.pre b _))=>some [b]
  |some (.c (.dH b _ _))=>some [b]
  |some (.c (.mp b))=>some [b]
  |some (.c (.eg b))=>some [b]
  |some (.c (.cI b))=>some [b]
  |some (.c .dead)=>none
  |some _=>some []
  |none=>none
def zZ:bj U->Bool
 |.dead=>true
 |_=>false
def z':bz U->Option a6
 |.c x=>match zZ x with
  |true=>none
  |false=>some x.fM
 |.agg cs=>match cs.any zZ with
  |true=>none
  |false=>some (cs.flatMap bj.fM)
 |.aY _=>some []
def rT(env:bU U):List aS->Option a6
 |[]=>some []
 |.const v::r=>match rT env r with
  |some l=>some (v.fM++l)
  |none=>none
 |.tmp k::r=>match aX env k with
  |some v=>match z' v,rT env r with
   |some a,some l=>some (a++l)
   |_,_=>none
  |none=>none
def IC(xb:a6)(o:cJ)(env:bU U)(key:Nat):Option a6:=
 match o with
 |.alloc _|.allocA _|.box _|.bslice .. |.mkset=>some [key]
 |.allocS .. =>some [key,key+1]
 |.lkset x _=>jX env x
 |.upset x _=>jX env x
 |.appendB _ _ x _=>match jX env x with
  |some a=>some (key::a)
  |none=>none
 |.ustr _ x _=>jX env x
 |.call _ args=>match rT env args with
  |some l=>some ((List.range 16).map (key+·)++(l++xb))
  |none=>none
 |.load _ _ x=>jX env x
 |.b2s x=>jX env x
 |.store _ x _=>jX env x
 |.append _ _ x y=>match jX env x,jX env y with
  |some a,some b=>some (key::(a++b))
  |_,_=>none
 |_=>some []
def kt(xb:a6)(o:cJ)(env:bU U)(key b:Nat):Option Bool:=
 match o with
 |.alloc _|.allocA _|.box _|.bslice .. |.mkset=>some (Nat.beq b key)
 |.allocS .. =>some (Nat.beq b key||Nat.beq b (key+1))
 |.upset x _=>match jX env x with
  |some l=>some (lV l b)
  |none=>none
 |.appendB _ _ x _=>match jX env x with
  |some l=>some (Nat.beq b key||lV l b)
  |none=>none
 |.ustr _ x _=>match jX env x with
  |some l=>some (lV l b)
  |none=>none
 |.store _ x _=>match jX env x with
  |some l=>some (lV l b)
  |none=>none
 |.append _ _ x _=>match jX env x with
  |some l=>some (Nat.beq b key||lV l b)
  |none=>none
 |.call _ args=>match rT env args with
  |some l=>some ((Nat.ble key b&&Nat.ble (b+1) (key+16))||lV (l++xb) b)
  |none=>none
 |_=>some false
def AG(xb:a6)(aZ:List cb)(env:bU U)(N:Nat):List (Nat×Nat)->Bool
 |[]=>true
 |(i,j)::r=>(match nY aZ i,nY aZ j with
  |some x,some y=>match IC xb y.op env (N+16*j)with
   |some l=>l.all λb=>match kt xb x.op env (N+16*i) b with
    |some w=>!w
    |none=>false
   |none=>false
  |_,_=>true)&&AG xb aZ env N r
variable{o:cJ}{gl:ev}{fZ:List (Nat×Nat)}{Q:Exit->Env->a7->Nat->Prop}
section
variable {P:Program}{kk N key:Nat}{J:bf U}{J1:a7}{env:bU U}{env1:Env}{G:Nat->Bool}
theorem pv(he:c5 N J G env env1){x:aS}{l:a6}(h:jX env x=some l):dZ env1 x=l:=by
 unfold jX at h;split at h
 . cases h;rfl
 . cases h;rfl
 . cases h;rfl
 . cases h
 . rename_i k;split at h
   all_goals (try (cases h;done))
   . rename_i b o e;cases h;obtain⟨v1,h1,a⟩:=he k _ e;have:=a.hR;subst this;simp[dZ,aS.get,h1]
   . rename_i b t i o e;cases h;obtain⟨v1,h1,a⟩:=he k _ e;have:=a.je;subst this;simp[dZ,aS.get,h1]
   . rename_i b e;cases h;obtain⟨v1,h1,a⟩:=he k _ e;obtain⟨sz,n,rfl,_⟩:=a.hb;simp[dZ,aS.get,h1]
   . rename_i b g len e;cases h;obtain⟨v1,h1,a⟩:=he k _ e;have:v1= .c (.fx b 1 g len):=by cases a with|c h=>cases h;rfl
     subst this;simp[dZ,aS.get,h1]
   . rename_i b f e;cases h;obtain⟨v1,h1,a⟩:=he k _ e;have:∃sz,v1= .c (.arr b sz 0 f):=by cases a with|c h=>cases h;exact⟨_,rfl⟩
     obtain⟨sz,rfl⟩:=this;simp[dZ,aS.get,h1]
   . rename_i b g f e;cases h;obtain⟨v1,h1,a⟩:=he k _ e;have:∃sz,v1= .c (.fx b sz g f):=by cases a with|c h=>cases h;exact⟨_,rfl⟩
     obtain⟨sz,rfl⟩:=this;simp[dZ,aS.get,h1]
   . rename_i b e;cases h;obtain⟨v1,h1,a⟩:=he k _ e;have:=a.EZ;subst this;simp[dZ,aS.get,h1]
   . rename_i b e;cases h;obtain⟨v1,h1,a⟩:=he k _ e;have:=a.RD;subst this;simp[dZ,aS.get,h1]
   . rename_i b e;cases h;obtain⟨v1,h1,a⟩:=he k _ e;obtain⟨n,rfl,_⟩:=a.A0;simp[dZ,aS.get,h1]
   . rename_i v db p q fl y m s u w r e;cases h;obtain⟨v1,h1,a⟩:=he k _ e;unfold dZ;simp only[aS.get,h1,f'];cases a with
     |c a=>
      cases a with
      |ptr b o=>exact absurd rfl (db b o)
      |cH b t i o=>exact absurd rfl (p b t i o)
      |arr b sz n j aa=>exact absurd rfl (q b)
      |sub b g len=>exact absurd rfl (fl b g len)
      |pre b sz f j aa=>exact absurd rfl (y b f)
      |dH b sz g f j aa=>exact absurd rfl (m b g f)
      |mp b=>exact absurd rfl (s b)
      |eg b=>exact absurd rfl (u b)
      |cI b n j aa=>exact absurd rfl (w b)
      |dead d=>exact absurd rfl r
      |_=>rfl
     |agg a=>rfl
     |aY=>rfl
theorem vE{l:a6}{b:Nat}:lV l b=l.contains b:=by
 unfold lV;rw[Bool.eq_iff_iff];simp_all
theorem Ka{x:bj U}{d:C}(h:cg N J x d)(a:zZ x=false):d.fM=x.fM:=by
 cases h<;>first|rfl|(simp[zZ]at a)
theorem Jp:∀{xs:List (bj U)} {ds:List C},a8 (cg N J) xs ds->xs.any zZ=false->ds.flatMap C.fM=xs.flatMap bj.fM
 |[],[],_,_=>rfl
 |x::xs,d::ds,.cons h1 b,a=>by
  simp only[List.any_cons,p6]at a;simp only[e7];rw[Ka h1 a.1,Jp b a.2]
theorem WV{v:bz U}{v1:V}{l:a6}(h:ca N J v v1)(ae:z' v=some l):v1.fM=l:=by
 cases h with
 |c h=>
  simp only[z']at ae;split at ae
  . cases ae
  . rename_i a;cases ae;exact Ka h a
 |agg h=>
  simp only[z']at ae;split at ae
  . cases ae
  . rename_i a;cases ae;exact Jp h a
 |aY=>simp only[z',bG]at ae;rw[<-ae];rfl
theorem CA(he:c5 N J G env env1):∀{args:List aS} {l:a6},rT env args=some l->k1 env1 args=l
 |[],l,h=>by simp[rT]at h;subst h;rfl
 |.const v::r,l,h=>by
  simp only[rT]at h;split at h
  . rename_i f b;cases h;have ih:=CA he b;simp only[k1,e7]at ih⊢;rw[ih];rfl
  . cases h
 |.tmp k::r,l,h=>by
  simp only[rT]at h;split at h
  . rename_i v e;split at h
    . rename_i a f d b;cases h;have ih:=CA he b;obtain⟨v1,h1,c⟩:=he k v e;simp only[k1,e7]at ih⊢;rw[ih];simp only[aS.get,h1,f'];rw[WV c d]
    . cases h
  . cases h
theorem YQ(he:c5 N J G env env1){l:a6}(h:IC xb o env key=some l):eh xb o env1 key=l:=by
 cases o<;>simp only[IC,eh,bG]at h⊢<;>first|exact h|exact pv he h|skip
 all_goals split at h
 all_goals (try (cases h;done))
 . rename_i e c;cases h;rw[pv he c]
 . rename_i a b h1 d;cases h;rw[pv he h1,pv he d]
 . rename_i e c;cases h;rw[CA he c]
theorem beq_eq(a b:Nat):(a==b)=Nat.beq a b:=by
 cases h:Nat.beq a b with
 |true=>rw[cV h];simp
 |false=>simp[hG h]
theorem YR(he:c5 N J G env env1){b:Nat}{w:Bool}(h:kt xb o env key b=some w):cF xb o env1 key b=w:=by
 cases o with
 |alloc cs=>simp only[kt,bG]at h;rw[<-h];simp only[cF];exact beq_eq _ _
 |allocA cs=>simp only[kt,bG]at h;rw[<-h];simp only[cF];exact beq_eq _ _
 |box x=>simp only[kt,bG]at h;rw[<-h];simp only[cF];exact beq_eq _ _
 |bslice a c d e=>simp only[kt,bG]at h;rw[<-h];simp only[cF];exact beq_eq _ _
 |store n x y=>
  simp only[kt]at h;split at h
  . rename_i l ae;cases h;simp only[cF];rw[pv he ae,vE]
  . cases h
 |append sz by' x y=>
  simp only[kt]at h;split at h
  . rename_i l ae;cases h;simp only[cF];rw[pv he ae,vE,beq_eq]
  . cases h
 |mkset=>simp only[kt,bG]at h;rw[<-h];simp only[cF];exact beq_eq _ _
 |allocS e e8=>simp only[kt,bG]at h;rw[<-h];simp only[cF];rw[beq_eq,beq_eq]
 |upset x y=>
  simp only[kt]at h;split at h
  . rename_i l ae;cases h;simp only[cF];rw[pv he ae,vE]
  . cases h
 |ustr e x y=>
  simp only[kt]at h;split at h
  . rename_i l ae;cases h;simp only[cF];rw[pv he ae,vE]
  . cases h
 |appendB e by' x y=>
  simp only[kt]at h;split at h
  . rename_i l ae;cases h;simp only[cF];rw[pv he ae,vE,beq_eq]
  . cases h
 |call f args=>
  simp only[kt]at h;split at h
  . rename_i l ae;cases h;simp only[cF];rw[CA he ae,vE]
    congr 1
    rw[Bool.eq_iff_iff];simp only[cc,dq,Nat.ble_eq];omega
  . cases h
 |_=>simp only[kt,bG]at h;rw[<-h];rfl
theorem GB(he:c5 N J G env env1){aZ:List cb}{a:Nat}:∀{fZ:List (Nat×Nat)},AG xb aZ env a fZ=true->kM xb aZ env1 a fZ=true
 |[],_=>rfl
 |(i,j)::r,h=>by
  simp only[AG,cc]at h;simp only[kM,cc];refine⟨?_,GB he h.2⟩;have h1:=h.1;rw[zO,zO]at h1;split at h1
  . rename_i x y e f;rw[e,f];split at h1
    . rename_i l ae;dsimp only;rw[YQ he ae];simp only[c0]at h1⊢;intro b c;have:=h1 b c;split at this
      . rename_i w d;rw[YR he d];exact this
      . cases this
    . cases h1
  grind
theorem GP{fo:fV U}(e:fI P fo){k:ev->bU U->bf U->Option R}{r:R}:∀{l:List cb} {key:Nat} {gl:ev} {nf:jZ} {env:bU U} {J:bf U} {env1:Env} {J1:a7} {G:Nat->Bool} {K:Env->a7->Prop},
 eD key gl nf env J env1 J1 G->pE fo none l key gl nf env J k=some r->
 (∀c f env' J' b bn d,k c env' J'=some r->eD (key+16*l.length) c f env' J' b bn d->K b bn)->qk P kk l key env1 J1 K
 |[],key,gl,nf,env,J,env1,J1,G,K,h,a,bI=>bI _ _ _ _ _ _ _ a h
 |o::l,key,gl,nf,env,J,env1,J1,G,K,h,a,bI=>by
  simp only[pE]at a;simp only[qk];refine WU e h a λc f env' J' b bn d h1 m=>?_;refine GP e m h1 λj p i s ng q g n t=>bI j p i s ng q g n ?_;grind
theorem Gm{fo:fV U}(e:fI P fo){k:ev->bU U->bf U->Option R}{r:R}:∀{l:List cb} {key:Nat} {gl:ev} {nf:jZ} {env:bU U} {J:bf U} {env1:Env} {J1:a7} {G:Nat->Bool} {K:Env->a7->Prop},
 eD key gl nf env J env1 J1 G->pE fo (some xb) l key gl nf env J k=some r->
 (∀b f env' J' d bn c,k b env' J'=some r->eD (key+16*l.length) b f env' J' d bn c->K d bn)->w6 xb P l key env1 J1 K
 |[],key,gl,nf,env,J,env1,J1,G,K,h,a,bI=>bI _ _ _ _ _ _ _ a h
 |o::l,key,gl,nf,env,J,env1,J1,G,K,h,a,bI=>by
  simp only[pE]at a;obtain⟨g,v1,bn,b,f,env',J',c,h1,n,p⟩:=IQ e h (by simpa only[DS]using a);refine⟨g,v1,bn,h1,Gm e p n λm s j u ng t i q ba=>bI m s j u ng t i q ?_⟩;grind
theorem Im{gl:ev}:∀{env:bU U} {k:Nat} {v:bz U},aX (clean gl env) k=some v->aX env k=some v/\xy gl k=false
 |[],k,v,h=>by simp[clean,aX]at h
 |(i,w)::r,k,v,h=>by
  simp only[clean]at h;split at h
  . rename_i b;obtain⟨h1,c⟩:=Im h;simp only[aX];cases a:Nat.beq i k with
    |true=>rw[cV a]at b;rw[b]at c;cases c
    |false=>exact⟨h1,c⟩
  . rename_i b;simp only[aX]at h⊢;cases a:Nat.beq i k with
    |true=>rw[a]at h;cases h;rw[<-cV a];exact⟨rfl,b⟩
    |false=>rw[a]at h;exact Im h
theorem Zs{k:Nat}(h:xy gl k=false):aX gl k=none:=by
 induction gl with
 |nil=>rfl
 |cons e r ih=>
  obtain⟨i,e⟩:=e;simp only[xy,List.any_cons,p6]at h;simp only[aX,h.1];exact ih (by unfold xy;exact h.2)
theorem eD.clean{nf:jZ}(h:eD key gl nf env J env1 J1 G):c5 key J (λ_=>true) (zY gl env) env1:=by
 intro k v a;have:aX env k=some v/\G k=true:=by
  unfold zY at a;split at a
  . exact⟨a,h.ao.free k rfl⟩
  . obtain⟨h1,c⟩:=Im a;exact⟨h1,h.ao.free k (Zs c)⟩
 obtain⟨v1,h1,c⟩:=h.gQ k v this.1;grind
theorem eD.begin(he:c5 key J (λ_=>true) env env1)(aE:cx key J J1):eD key [] [] env J env1 J1 (λ_=>true):=
 ⟨he,⟨λ_ _=>rfl,λk t b h=>by simp[aX]at h⟩,aE,λ_ h=>by simp at h⟩
end
structure jF where
 e:Exit
 bx:Shape
 own:List (Pos×aJ)
 us:List aJ
def ew(U:cK):List jF->Type
 |[]=>Empty
 |[a]=>aL U.D a.us
 |a::b::r=>aL U.D a.us ⊕ ew U (b::r)
structure ha (U:cK) where
 bx:Shape
 own:List (Pos×aJ)
 ts:List aJ
 outs:List jF
 F:aL U.D ts->Option (ew U outs)
def Bo:Exit->Exit->Bool
 |.normal,.normal=>true
 |.ret,.ret=>true
 |.exit i,.exit j=>Nat.beq i j
 |_,_=>false
theorem JD{a b:Exit}(h:Bo a b=true):a=b:=by
 cases a<;>cases b<;>simp only[Bo,reduceCtorEq,bK]at h<;>try rfl
 simp_all
abbrev uu(U:cK)(R:Type):=Exit->bU U->bf U->Nat->Option R
def ie:(outs:List jF)->ew U outs->Exit×bU U×bf U×Nat
 |[],o=>Empty.elim o
 |[a],h=>(a.e,(ho U a.bx (aL.cells U.D a.us h)).1,(ho U a.bx (aL.cells U.D a.us h)).2,a.bx.st.length)
 |a::b::r,.inl h=>(a.e,(ho U a.bx (aL.cells U.D a.us h)).1,(ho U a.bx (aL.cells U.D a.us h)).2,a.bx.st.length)
 |a::b::r,.inr o=>ie (b::r) o
def agO{α c:Type}(o:α ⊕ c)(f:α->Option R)(g:c->Option R):Option R:=
 match o with
 |.inl a=>f a
 |.inr b=>g b
def aha(k:uu U R)(a:jF):(r:List jF)->(ew U r->Option R)->ew U (a::r)->Option R
 |[],_=>λh=>k a.e (ho U a.bx (aL.cells U.D a.us h)).1 (ho U a.bx (aL.cells U.D a.us h)).2 a.bx.st.length
 |_::_,f=>λo=>agO o (λh=>k a.e (ho U a.bx (aL.cells U.D a.us h)).1 (ho U a.bx (aL.cells U.D a.us h)).2 a.bx.st.length) f
def Iv(k:uu U R):(outs:List jF)->ew U outs->Option R
 |[]=>λo=>Empty.elim o
 |a::r=>aha k a r (Iv k r)
theorem Na(k:uu U R):∀{outs:List jF} {o:ew U outs},Iv k outs o=k (ie outs o).1 (ie outs o).2.1 (ie outs o).2.2.1 (ie outs o).2.2.2
 |[],o=>Empty.elim o
 |[a],h=>rfl
 |a::b::r,.inl h=>rfl
 |a::b::r,.inr o=>Na k (outs:=b::r)
def rI(kk:Nat):(outs:List jF)->Exit->bU U->bf U->Nat->Option (ew U outs)
 |[],_,_,_,_=>none
 |[a],e,env,J,N=>match Bo e a.e with
  |true=>rW kk a.own a.bx a.us env J N
  |false=>none
 |a::b::r,e,env,J,N=>match Bo e a.e with
  |true=>match rW (U:=U) kk a.own a.bx a.us env J N with
   |some h=>some (.inl h)
   |none=>none
  |false=>match rI kk (b::r) e env J N with
   |some o=>some (.inr o)
   |none=>none
abbrev kZ(U:cK):=Nat->Option (ha U)
def gn:dz->Nat
 |.seq a b=>gn a+gn b
 |.cond _ a b=>gn a+gn b
 |.block _ b=>gn b
 |.loop b=>gn b+1
 |_=>0
def afZ(x:Bool)(a b:Option R):Option R:=if x then a else b
def bj.inner:kv->Bool
 |.ptr .. |.arr _=>true
 |_=>false
def acU:fK->Bool
 |.box cs=>cs.any bj.inner
 |_=>false
def Pl(fo:fV U)(J:bf U)(ops:List cb):a6:=
 match ops.any λo=>match o.op with
  |.call f _=>(fo f).any λs=>s.st.any acU
  |_=>false with
 |true=>J.map Prod.fst
 |false=>[]
def Io(ops:List cb)(fZ:List (Nat×Nat)):Option (List cb×cb):=
 match DR ops.length fZ,ops.getLast? with
 |true,some o=>match o.op,o.guard with
  |.call ..,none=>some (ops.dropLast,o)
  |_,_=>none
 |_,_=>none
theorem WW{ops:List cb}{init:List cb}{last:cb}(h:Io ops fZ=some (init,last)):ops=init++[last]/\DR (init.length+1) fZ=true:=by
 unfold Io at h;split at h
 . rename_i o h1 a;split at h
   . cases h;have:ops=ops.dropLast++[last]:=by
      obtain⟨l,rfl⟩:=List.getLast?_eq_some_iff.1 a;simp
     grind
   . cases h
 . cases h
def kq(fo:fV U)(d:kZ U)(kk:Nat):dz->Nat->bU U->bf U->Nat->uu U R->Option R
 |.skip,_,env,J,N,k=>k .normal env J N
 |.ret,_,env,J,N,k=>k .ret env J N
 |.exit i,_,env,J,N,k=>k (.exit i) env J N
 |.region ops,_,env,J,N,k=>pE fo none ops N [] [] env J λgl env J=>Ea (zY gl env) J (N+16*ops.length) λenv J N=>k .normal env J N
 |.oh ops fZ,_,env,J,N,k=>match Io ops fZ with
  |some (init,last)=>pE fo (some []) init N [] [] env J λgl env J=>match AG [] init env N fZ with
   |true=>pE fo none [last] (N+16*init.length) gl [] env J λgl env J=>k .normal (zY gl env) J (N+16*init.length+16)
   |false=>none
  |none=>pE fo (some (Pl fo J ops)) ops N [] [] env J λgl env' J'=>match AG (Pl fo J ops) ops env' N fZ with
   |true=>Ea (zY gl env') J' (N+16*ops.length) λenv J N=>k .normal env J N
   |false=>none
 |.seq a b,pos,env,J,N,k=>kq fo d kk a pos env J N λe env J N=>match e with
  |.normal=>kq fo d kk b (pos+gn a) env J N k
  |e=>k e env J N
 |.cond c a b,pos,env,J,N,k=>match dg [] none env c with
  |some (.c (.t ⟨.bool,x⟩))=>afZ x (kq fo d kk a pos env J N k) (kq fo d kk b (pos+gn a) env J N k)
  |_=>none
 |.block id b,pos,env,J,N,k=>kq fo d kk b pos env J N λe env J N=>match e with
  |.exit i=>match Nat.beq i id with
   |true=>k .normal env J N
   |false=>k (.exit i) env J N
  |e=>k e env J N
 |.loop b,pos,env,J,N,k=>match d pos with
  |none=>none
  |some L=>match rW kk L.own L.bx L.ts env J N with
   |none=>none
   |some h=>(L.F h)>>=λo=>Iv k L.outs o
section
variable {P:Program}{nt kk N:Nat}{env:bU U}{J:bf U}{env1:Env}{J1:a7}
def ug(kk:Nat)(Q:Exit->Env->a7->Nat->Prop):Prop:=∀e N env J N' env' J',Conv kk N env J N' env' J'->Q e env' J' N'->Q e env J N
def mY(P:Program)(nt kk:Nat)(b:dz)(bx:Shape)(ts:List aJ)(outs:List jF)(h:aL U.D ts)(o:ew U outs):Prop:=
 ∀env1 J1,c5 bx.st.length (ho U bx (aL.cells U.D ts h)).2 (λ_=>true) (ho U bx (aL.cells U.D ts h)).1 env1->cx bx.st.length (ho U bx (aL.cells U.D ts h)).2 J1->kk<=bx.st.length->
  ∀Q,ug kk Q->(∀a bn,c5 (ie outs o).2.2.2 (ie outs o).2.2.1 (λ_=>true) (ie outs o).2.1 a->cx (ie outs o).2.2.2 (ie outs o).2.2.1 bn->kk<=(ie outs o).2.2.2->Q (ie outs o).1 a bn (ie outs o).2.2.2)->
   mb P nt kk b env1 J1 bx.st.length Q
def uk(P:Program)(nt kk:Nat)(a:dz)(L:ha U):Prop:=
 ∀h o,L.F h=some o->mY P nt kk a L.bx L.ts L.outs h o
def gE(P:Program)(nt kk:Nat)(c:kZ U):Nat->dz->Prop
 |pos,.seq a b=>gE P nt kk c pos a/\gE P nt kk c (pos+gn a) b
 |pos,.cond _ a b=>gE P nt kk c pos a/\gE P nt kk c (pos+gn a) b
 |pos,.block _ b=>gE P nt kk c pos b
 |pos,.loop b=>(∀L,c pos=some L->uk P nt kk b L)
 |_,_=>True
theorem ug.andThen{next:Env->a7->Nat->Prop}(h:ug kk Q)(aD:∀N env J N' env' J',Conv kk N env J N' env' J'->next env' J' N'->next env J N):ug kk (andThen next Q):=by
 intro e N env J N' env' J' a c;cases e with
 |normal=>exact aD _ _ _ _ _ _ a c
 |_=>exact h _ _ _ _ _ _ _ a c
theorem tL{fo:fV U}(w:fI P fo){K:kZ U}:∀{c:dz} {pos:Nat} {env:bU U} {J:bf U} {N:Nat} {k:uu U R} {r:R} {env1:Env} {J1:a7} {Q:Exit->Env->a7->Nat->Prop},
 gE P nt kk K pos c->kq fo K kk c pos env J N k=some r->c5 N J (λ_=>true) env env1->cx N J J1->kk<=N->ug kk Q->
 (∀e env' J' N' u bn,k e env' J' N'=some r->c5 N' J' (λ_=>true) env' u->cx N' J' bn->kk<=N'->Q e u bn N')->cu P nt kk c env1 J1 N Q
 |.skip,pos,env,J,N,k,r,env1,J1,Q,ae,d,he,aE,n,m,f=>cu.skip (f _ _ _ _ _ _ d he aE n)
 |.ret,pos,env,J,N,k,r,env1,J1,Q,ae,d,he,aE,n,m,f=>cu.ret (f _ _ _ _ _ _ d he aE n)
 |.exit i,pos,env,J,N,k,r,env1,J1,Q,ae,d,he,aE,n,m,f=>cu.exit (f _ _ _ _ _ _ d he aE n)
 |.region ops,pos,env,J,N,k,r,env1,J1,Q,ae,d,he,aE,n,m,f=>
  cu.ags (GP w (eD.begin he aE) d λH M env' J' u bn F h1 j=>by
   obtain⟨G,S,T,ng,O,A,B,C,D,Z⟩:=Ji h1 j.clean j.eQ (show kk<=_ by omega)
   exact m _ _ _ _ _ _ _ B (f _ _ _ _ _ _ A C D (by omega)))
 |.oh ops fZ,pos,env,J,N,k,r,env1,J1,Q,ae,d,he,aE,n,m,f=>by
  simp only[kq]at d;split at d
  . rename_i init last af;obtain⟨rfl,ag⟩:=WW af;refine cu.agt ag (Gm w (eD.begin he aE) d λH M env' J' u bn F h1 j=>?_);split at h1
    . rename_i q;refine⟨GB j.gQ q,GP w (l:=[last]) (nf:=[]) ⟨j.gQ,j.ao,j.eQ,λg ao=>by simp at ao⟩ h1 λam an G S ng O ai s v=>f _ _ _ _ _ _ s v.clean v.eQ (by omega)⟩
    . cases h1
  . refine cu.oh (Gm w (eD.begin he aE) d λH M env' J' u bn F h1 j=>?_);split at h1
    . rename_i q;obtain⟨G,S,T,ng,O,A,B,C,D,Z⟩:=Ji h1 j.clean j.eQ (show kk<=_ by omega);exact⟨GB j.gQ q,m _ _ _ _ _ _ _ B (f _ _ _ _ _ _ A C D (by omega))⟩
    . cases h1
 |.seq a b,pos,env,J,N,k,r,env1,J1,Q,ae,d,he,aE,n,m,f=>by
  simp only[kq]at d;refine cu.seq (tL w ae.1 d he aE n (m.andThen λN env J N' env' J' q h=>cu.conv q h) λe env' J' N' u bn h1 j s v=>?_);cases e with
  |normal=>exact tL w ae.2 h1 j s v m f
  |_=>exact f _ _ _ _ _ _ h1 j s v
 |.cond c a b,pos,env,J,N,k,r,env1,J1,Q,ae,d,he,aE,n,m,f=>by
  simp only[kq]at d;split at d
  . rename_i x q;have ao:gL [] env (λ_=>true):=⟨λ_ _=>rfl,λk t b h=>by simp[aX]at h⟩
    obtain⟨p,v1,a1,a2,a3⟩:=cv he ao q;have:=a2.ju;subst this;refine cu.cond a1 (a3 rfl) (λy=>?_) (λy=>?_)
    . subst y;exact tL w ae.1 d he aE n m f
    . subst y;exact tL w ae.2 d he aE n m f
  . cases d
 |.block id b,pos,env,J,N,k,r,env1,J1,Q,ae,d,he,aE,n,m,f=>by
  simp only[kq]at d;refine cu.block (tL w ae d he aE n ?_ λe env' J' N' u bn h1 j s v=>?_)
  . intro e N env J N' env' J' q z;cases e with
    |exit i=>
     simp only[inBlock]at z⊢;split at z
     . rename_i E;rw[ad E];exact m _ _ _ _ _ _ _ q z
     . rename_i E;rw[al E];exact m _ _ _ _ _ _ _ q z
    |_=>exact m _ _ _ _ _ _ _ q z
  . cases e with
    |exit i=>
     simp only[inBlock];simp only at h1;split at h1
     . rename_i y;rw[ad (cV y)];exact f _ _ _ _ _ _ h1 j s v
     . rename_i y;rw[al (hG y)];exact f _ _ _ _ _ _ h1 j s v
    |_=>exact f _ _ _ _ _ _ h1 j s v
 |.loop b,pos,env,J,N,k,r,env1,J1,Q,ae,d,he,aE,n,m,f=>by
  simp only[kq]at d;split at d
  . cases d
  . rename_i L aa;split at d
    . cases d
    . rename_i h ab;obtain⟨o,ah,I⟩:=tV.1 d;rw[Na]at I;obtain⟨u,bn,V,W,X,Y⟩:=Cz ab he aE n;exact cu.conv V (cu.af7 (ae L aa h o ah u bn W X Y Q m λak aj h1 j s=>f _ _ _ _ _ _ I h1 j s))
theorem mY.agj {fo:fV U}(R:fI P fo){K:kZ U}{u:dz}{bx:Shape}{own:List (Pos×aJ)}{ts:List aJ}{outs:List jF}{h:aL U.D ts}{o:ew U outs}{F':aL U.D ts->Option (ew U outs)}
 (S:gE P nt kk K 0 u)(L:∀h o,F' h=some o->mY P nt kk u bx ts outs h o)
 (Y:kq fo K kk u 0 (ho U bx (aL.cells U.D ts h)).1 (ho U bx (aL.cells U.D ts h)).2 bx.st.length (λe env J N=>match e with
  |.normal=>match rW kk own bx ts env J N with
   |some y=>F' y
   |none=>none
  |e=>rI kk outs e env J N)=some o):mY P nt kk u bx ts outs h o:=by
 intro env1 J1 he aE q Q z H;refine mb.round (tL R S Y he aE q (z.andThen λN env J N' env' J' M h=>mb.conv M h) λe env' J' N' w bn h1 E F G=>?_);have t:∀v,v=e->v≠.normal->rI kk outs v env' J' N'=some o->Q e w bn N':=by
  intro v O ae X;subst O;obtain⟨aK,s1,c,f,j,p,x⟩:=Rh X E F G;exact z _ _ _ _ _ _ _ c (by rw[x];exact H _ _ f j p)
 cases e with
 |normal=>
  simp only at h1;split at h1
  . rename_i y B;obtain⟨aK,s1,c,f,j,p⟩:=Cz B E F G;exact mb.conv c (L y o h1 aK s1 f j p Q z H)
  . cases h1
 |exit i=>exact t _ rfl (by simp) h1
 |ret=>exact t _ rfl (by simp) h1
 |goto l=>exact t _ rfl (by simp) h1
 |panic Z=>exact t _ rfl (by simp) h1
 |outgrown=>exact t _ rfl (by simp) h1
where
 Rh {N:Nat} {env:bU U} {J:bf U} {env1:Env} {J1:a7}:∀ {outs:List jF} {e:Exit} {o:ew U outs},rI kk outs e env J N = some o->c5 N J (λ_=>true) env env1->cx N J J1->kk<=N->
  ∃w bn,Conv kk N env1 J1 (ie outs o).2.2.2 w bn/\c5 (ie outs o).2.2.2 (ie outs o).2.2.1 (λ_=>true) (ie outs o).2.1 w/\cx (ie outs o).2.2.2 (ie outs o).2.2.1 bn/\kk<=(ie outs o).2.2.2/\e=(ie outs o).1
  |[],e,o,h,_,_,_=>by simp[rI]at h
  |[a],e,o,h,he,aE,q=>by
   simp only[rI]at h;split at h
   . rename_i A;obtain⟨aK,s1,c,f,j,p⟩:=Cz h he aE q;exact⟨aK,s1,c,f,j,p,JD A⟩
   . cases h
  |a::b::r,e,o,h,he,aE,q=>by
   simp only[rI]at h;split at h
   . rename_i A;split at h
     . rename_i aa B;cases h;obtain⟨aK,s1,c,f,j,p⟩:=Cz B he aE q;exact⟨aK,s1,c,f,j,p,JD A⟩
     . cases h
   . split at h
     . rename_i am W;cases h;obtain⟨aK,s1,c,f,j,p,x⟩:=Rh W he aE q;exact⟨aK,s1,c,f,j,p,x⟩
     . cases h
end
end
open Go
variable {U:cK}{R:Type}
def ue:Nat->List (bz U)->bU U
 |_,[]=>[]
 |i,v::vs=>(i,v)::ue (i+1) vs
def HS(env:bU U)(J:bf U):jo->Option (bz U)
 |.tmp t=>aX env t
 |.cell t g k=>match aX env t with
  |some (.c (.ptr b o))=>match aX J b with
   |some (.box cs)=>qC g k cs o
   |_=>none
  |_=>none
def vF(env:bU U)(J:bf U):List jo->Option (List (bz U))
 |[]=>some []
 |r::a=>match HS env J r,vF env J a with
  |some v,some vs=>some (v::vs)
  |_,_=>none
def IA:List (bz U)->bz U
 |[]=>.aY []
 |[v]=>v
 |v::w::vs=>.aY (v::w::vs)
def AN(kk:Nat)(c:List jo)(eQ:e1)(eo:List fK)(us:List aJ)(env:bU U)(J:bf U):Option (aL U.D us):=
 match vF env J c with
 |none=>none
 |some vs=>match wC J kk 0 eo (FG eQ (IA vs) ([],[])) []with
  |(bs,d)=>match kV d env J with
   |none=>none
   |some (env',J')=>match vF env' J' c with
    |none=>none
    |some e=>match tn bs&&(keeps kk bs&&Nat.beq bs.length eo.length)with
     |false=>none
     |true=>match jO bs eQ (IA e),iY bs J' 0 eo with
      |some a,some b=>aL.dec U.D us (a++b)
      |_,_=>none
def RO(kk:Nat)(a:List jo)(eQ:e1)(eo:List fK)(us:List aJ):uu U (aL U.D us)
 |.normal,env,J,_=>AN kk a eQ eo us env J
 |.ret,env,J,_=>AN kk a eQ eo us env J
 |_,_,_,_=>none
variable{Q:Exit->Env->a7->Nat->Prop}{c:dz}{nt kk f:Nat}{p:a6}
section
variable {P:Program}{nt kk N:Nat}{env:bU U}{J:bf U}{env1:Env}{J1:a7}
def wY(kk:Nat)(Q:Exit->Env->a7->Nat->Prop):Exit->Env->a7->Nat->Prop:=
 λe env J N=>∃N' env' J',Conv kk N env J N' env' J'/\Q e env' J' N'
theorem wY.ad8:ug kk (wY kk Q):=
 λe N env J N' env' J' h ⟨a,c,o,f,j⟩=>⟨a,c,o,h.trans f,j⟩
theorem cu.agY{env:Env}{J:a7}(h:cu P nt kk c env J N (wY kk Q)):cu P nt kk c env J N Q:=
 λcode u aB φ S a w f R=>wp_mono (h code u aB φ S a w f R) λe a w ⟨y,bQ,env',J',N',⟨j,q,x,t,v⟩,R'⟩=>
  let⟨z,p,o⟩:=t aB nt y bQ a w f R';⟨z,p,q,x,j,v,o⟩
theorem XJ(he:c5 N J (λ_=>true) env env1)(aE:cx N J J1){a:jo}{v:bz U}(h:HS env J a=some v):∃p v1,tm env1 J1 a=some (p,v1)/\p/\ca N J v v1:=by
 cases a with
 |tmp t=>
  obtain⟨v1,h1,c⟩:=he t v h;exact⟨True,v1,by simp[tm,h1],trivial,c⟩
 |cell t g k=>
  simp only[HS]at h;split at h
  . rename_i b o j;split at h
    . rename_i cs i;obtain⟨v1,h1,c⟩:=he t _ j;have:=c.hR;subst this;obtain⟨_,y,e,d⟩:=aE b _ i;cases d with
      |box d=>
       obtain⟨l,ba,f⟩:=uZ d h;exact⟨True,l,by simp[tm,h1,e,ba],trivial,f⟩
    . cases h
  . cases h
theorem Th(he:c5 N J (λ_=>true) env env1)(aE:cx N J J1):∀{a:List jo} {vs:List (bz U)},vF env J a=some vs->∃p vs1,nK env1 J1 a=some (p,vs1)/\p/\a8 (ca N J) vs vs1
 |[],vs,h=>by simp[vF]at h;subst h;exact⟨_,[],rfl,trivial,.nil⟩
 |r::c,vs,h=>by
  simp only[vF]at h;split at h
  . rename_i v d h1 b;cases h;obtain⟨p,v1,a1,a2,a3⟩:=XJ he aE h1;obtain⟨q,vs1,b1,b2,b3⟩:=Th he aE b;exact⟨p/\q,v1::vs1,by simp[nK,a1,b1],⟨a2,b2⟩,.cons a3 b3⟩
  . cases h
theorem XS{vs:List (bz U)}{vs1:List V}(h:a8 (ca N J) vs vs1):ca N J (IA vs) (l7 vs1):=by
 cases h with
 |nil=>exact .aY [] [] rfl (by simp)
 |cons h1 a=>
  cases a with
  |nil=>exact h1
  |cons a b=>
   refine .aY _ _ (by simp[b.length]) λi x d c g=>?_;obtain⟨e,aK,f⟩:=(a8.cons h1 (.cons a b)).get c;grind
def El(s:cC U)(r:aL U.D s.us):V->a7->Nat->Prop:=λa bn N'=>N'=s.eo.length/\ca N' (s.rest r) (s.res r) a/\cx N' (s.rest r) bn
theorem XT{d:List jo}{s:cC U}{r:aL U.D s.us}(h:AN kk d s.eQ s.eo s.us env J=some r)(he:c5 N J (λ_=>true) env env1)(aE:cx N J J1):
 ∃j bn,Conv kk N env1 J1 N j bn/\∃p vs1,nK j bn d=some (p,vs1)/\p/\
  ∃bs c J2,bs.Nodup/\keeps kk bs=true/\gj ((l7 vs1).bN bs) c/\r4 (fq bs bn 0 bs) J2/\El s r c J2 bs.length:=by
 unfold AN at h;split at h
 . cases h
 . split at h;rename_i bs E _;split at h
   . cases h
   . rename_i env' J' z;obtain⟨aK,s1,n,o,e,_⟩:=yV (kk:=kk) (gl:=[]) z he aE;split at h
     . cases h
     . rename_i F B;split at h
       . cases h
       . rename_i k;simp only[cc]at k;obtain⟨v,w,x⟩:=k;have bS:=zc v;have A:=cV x;split at h
         . rename_i a b u l;obtain⟨p,vs1,d1,d2,d3⟩:=Th o e B;obtain⟨y,f,g⟩:=Eu bS (zW bS l) u;obtain⟨c,q,t⟩:=g _ (XS d3);obtain⟨C,t1,t2⟩:=Da bS e l;have m:=aL.fb h;have aK:s.res r=y:=by unfold cC.res;rw[m,f]
           have i:s.rest r=gx 0 s.eo b:=by unfold cC.rest;rw[m,f]
           exact⟨_,_,n,p,vs1,d1,d2,bs,c,C,bS,w,q,t1,A,by rw[aK,i];exact t,by rw[i];exact t2⟩
         . cases h
def ui(P:Program)(s:cC U)(h:aL U.D s.ts)(r:aL U.D s.us):Prop:=
 ∀(a:List V) J1,a8 (ca s.st.length (s.iG h)) (s.args h) a->cx s.st.length (s.iG h) J1->ec P s.f a J1 s.st.length (El s r)
theorem hX.of{s:cC U}(h:∀h r,s.F h=some r->ui P s h r):hX P s:=h
theorem ui.Fm {s:cC U}{fn:Func}{c:dz}{j:List jo}{fo:fV U}{y:kZ U}(W:P.funcs[s.f]?=some fn)(O:fn.body.bind (resolve P fn.ntmps)=some c)(am:h3 P fn.results.toList=some j)(aD:Nat.ble s.gC.length fn.ntmps=true)
 (X:fI P fo)(ae:gE P fn.ntmps s.st.length y 0 c)
 {h:aL U.D s.ts}{r:aL U.D s.us}(t:D8 s.st.length (s.iG h) (λJ N=>kq fo y s.st.length c 0 (ue 0 (s.args h)) J N (RO s.st.length j s.eQ s.eo s.us))=some r):ui P s h r:=by
 intro u J1 L aE;have Z:u.length<=fn.ntmps:=by
  rw[<-L.length];refine hP (wq ?_) (h5 aD);unfold cC.args;exact QU
 have Q:c5 s.st.length (s.iG h) (λ_=>true) (ue 0 (s.args h)) (fQ 0 u):=by
  intro k v aI;have key:∀{xs:List (bz U)} {ds:List V} {i:Nat},a8 (ca s.st.length (s.iG h)) xs ds->aX (ue i xs) k=some v->∃v1,look (fQ i ds) k=some (true,v1)/\ca s.st.length (s.iG h) v v1:=by
   intro xs;induction xs with
   |nil=>intro ds i _ h;simp[ue,aX]at h
   |cons x xs ih=>
    intro ds i ap q;cases ap with
    |cons h1 o=>
     simp only[ue,aX]at q;simp only[fQ,look];split at q
     . simp_all
     . rename_i M;rw[al (hG M)];exact ih o q
  grind
 obtain⟨ax,Nm,ay,t,F,S,K,Y⟩:=Yy t Q aE;refine ec.tidy (ec.mk (nt:=fn.ntmps) W O am rfl Z (cu.conv F (cu.agY (tL X ae t S K Y wY.ad8 λe env' J' N' G bn h1 o H aB=>?_)))) (λz s1 B aa=>aa)
 . have w:AN s.st.length j s.eQ s.eo s.us env' J'=some r->(e= .normal\/e= .ret)->wY s.st.length (Ef j λz s1 B=>∃bs A J2,bs.Nodup/\keeps s.st.length bs=true/\gj (z.bN bs) A/\r4 (fq bs s1 0 bs) J2/\El s r A J2 bs.length) e G bn N':=by
    intro an R;obtain⟨aK,s1,E,p,vs1,d1,d2,rest⟩:=XT an o H;refine⟨N',aK,s1,E,?_⟩;rcases R with rfl|rfl
    . exact⟨p,vs1,d1,d2,rest⟩
    . exact⟨p,vs1,d1,d2,rest⟩
   cases e with
   |normal=>exact w h1 (.inl rfl)
   |ret=>exact w h1 (.inr rfl)
   |_=>cases h1
where
 QU:∀{ss:List e1} {a:eL U},(kO ss a).1.length=ss.length
  |[],a=>rfl
  |s::ss,a=>by
   simp only[kO];have:=QU (ss:=ss) (a:=(kN s a).2);simp[this]
def h7:dz->Nat->Option dz
 |.seq a b,q=>match Nat.ble (gn a) q with
  |true=>h7 b (q-gn a)
  |false=>h7 a q
 |.cond _ a b,q=>match Nat.ble (gn a) q with
  |true=>h7 b (q-gn a)
  |false=>h7 a q
 |.block _ b,q=>h7 b q
 |.loop b,q=>match q with
  |0=>some b
  |q+1=>h7 b q
 |_,_=>none
theorem gE.of{o:kZ U}:∀{c:dz} {pos:Nat},(∀q b L,h7 c q=some b->o (pos+q)=some L->uk P nt kk b L)->gE P nt kk o pos c
 |.seq a b,pos,h=>by
  refine⟨gE.of λq e L h1 f=>h q e L ?_ f,gE.of λq e L h1 f=>h (gn a+q) e L ?_ (by rw[<-p9];exact f)⟩
  . simp only[h7];cases j:Nat.ble (gn a) q with
    |true=>exact absurd (rz h1) (by have:=h5 j;omega)
    |false=>exact h1
  . simp only[h7];have:Nat.ble (gn a) (gn a+q)=true:=(by simp);grind
 |.cond c a b,pos,h=>by
  refine⟨gE.of λq e L h1 f=>h q e L ?_ f,gE.of λq e L h1 f=>h (gn a+q) e L ?_ (by rw[<-p9];exact f)⟩
  . simp only[h7];cases j:Nat.ble (gn a) q with
    |true=>exact absurd (rz h1) (by have:=h5 j;omega)
    |false=>exact h1
  . simp only[h7];have:Nat.ble (gn a) (gn a+q)=true:=(by simp);grind
 |.block id b,pos,h=>gE.of (c:=b) h
 |.loop b,pos,h=>λL p=>h 0 b L rfl p
 |.skip,pos,h=>trivial
 |.region _,pos,h=>trivial
 |.oh _ _,pos,h=>trivial
 |.exit _,pos,h=>trivial
 |.ret,pos,h=>trivial
where
 rz:∀{c:dz} {q:Nat} {b:dz},h7 c q=some b->q<gn c
  |.seq a b,q,e,h=>by
   simp only[h7]at h;simp only[gn];split at h
   . rename_i j;have:=rz h;have:=h5 j;omega
   . have:=rz h;omega
  |.cond _ a b,q,e,h=>by
   simp only[h7]at h;simp only[gn];split at h
   . rename_i j;have:=rz h;have:=h5 j;omega
   . have:=rz h;omega
  |.block _ b,q,e,h=>rz (c:=b) h
  |.loop b,0,e,h=>by simp[gn]
  |.loop b,q+1,e,h=>by have:=rz (c:=b) h;simp only[gn];omega
  |.skip,q,e,h=>by simp[h7]at h
  |.region _,q,e,h=>by simp[h7]at h
  |.oh _ _,q,e,h=>by simp[h7]at h
  |.exit _,q,e,h=>by simp[h7]at h
  |.ret,q,e,h=>by simp[h7]at h
theorem gE.Rb{a:kZ U}(h:∀q L,a q=some L->uk P nt kk ((h7 c q).getD .skip) L):gE P nt kk a 0 c:=
 gE.of λq b L h1 e=>by grind
theorem gE.none:gE P nt kk (λ_=>none:kZ U) 0 c:=gE.Rb λq L h=>by cases h
theorem fI.none:fI P (λ_=>[]:fV U):=λf s h=>by simp at h
end
open Go
def H9(P:Program)(fn:Func):dz:=
 match fn.body.bind (Shv.resolve P fn.ntmps)with
 |some c=>c
 |none=>.skip
def vR(c:dz)(q:Nat):dz:=(h7 c q).getD .skip
def hM{U:cK}:List (cC U)->fV U
 |[],_=>[]
 |s::l,f=>match Nat.beq s.f f with
  |true=>s::hM l f
  |false=>hM l f
def kP{U:cK}(l:List (Nat×ha U)):kZ U:=λq=>aX l q
theorem fI.nil{U:cK}{P:Program}:fI P (hM ([]:List (cC U))):=λf s h=>by simp[hM]at h
theorem fI.cons{U:cK}{P:Program}{s:cC U}{l:List (cC U)}(c:hI P s.f=true)(hs:hX P s)(h:fI P (hM l)):fI P (hM (s::l)):=by
 intro f t ht;simp only[hM]at ht;split at ht
 . rename_i a;have:=cV a;rcases fe.1 ht with rfl|ht
   . grind
   . exact h f t ht
 . exact h f t ht
def jt{U:cK}(P:Program)(nt kk:Nat)(c:dz)(l:List (Nat×ha U)):Prop:=∀q L,aX l q=some L->uk P nt kk (vR c q) L
theorem jt.nil{U:cK}{P:Program}{nt kk:Nat}{c:dz}:jt P nt kk c ([]:List (Nat×ha U)):=λq L h=>by simp[aX]at h
theorem jt.cons{U:cK}{P:Program}{nt kk:Nat}{c:dz}{q:Nat}{L:ha U}{l:List (Nat×ha U)}(f:uk P nt kk (vR c q) L)(h:jt P nt kk c l):jt P nt kk c ((q,L)::l):=by
 intro e L' a;simp only[aX]at a;split at a
 . simp_all
 . exact h e L' a
theorem jt.snd{U:cK}{P:Program}{l:List (Nat×ha U)}(h:jt P nt kk c l):gE P nt kk (kP l) 0 c:=gE.Rb λq L a=>h q L a
def aM(k:IntKind)(a b:Int):Int:=k.wrap (a+b)
def dh(k:IntKind)(a b:Int):Int:=k.wrap (a-b)
def gy(k:IntKind)(a b:Int):Int:=k.wrap (a*b)
def fw(k:IntKind)(a b:Int):Int:=k.wrap (a.tdiv b)
def b'(a b:Int):Int:=a.tmod b
def AX(k:IntKind)(a b:Int):Int:=k.wrap (BitVec.ofInt k.bits a &&& BitVec.ofInt k.bits b).toNat
def rJ(k:IntKind)(a b:Int):Int:=k.wrap (BitVec.ofInt k.bits a ||| BitVec.ofInt k.bits b).toNat
def uf(k:IntKind)(a b:Int):Int:=k.wrap (BitVec.ofInt k.bits a ^^^ BitVec.ofInt k.bits b).toNat
def mR(k:IntKind)(a b:Int):Int:=k.wrap (a*2^min b.toNat k.bits)
def ly(k:IntKind)(a b:Int):Int:=a.fdiv (2^min b.toNat k.bits)
open Go
variable {U:cK}
structure gr where
 q:Nat
 bx:Shape
 own:List (Pos×aJ)
 Al:List (Pos×aJ)
 ts:List aJ
 outs:List jF
 sub:List gr
structure et where
 f:Nat
 gC:List e1
 st:List fK
 ts:List aJ
 eQ:e1
 eo:List fK
 us:List aJ
 sub:List gr
def gr.l(e:gr)(F:aL U.D e.ts->Option (ew U e.outs)):ha U:=⟨e.bx,e.own,e.ts,e.outs,F⟩
def et.s(e:et)(F:aL U.D e.ts->Option (aL U.D e.us)):cC U:=⟨e.f,e.gC,e.st,e.ts,e.eQ,e.eo,e.us,F⟩
def codeF(P:Program)(f:Nat):dz:=match P.funcs[f]? with
 |some fn=>H9 P fn
 |none=>.skip
def xH(P:Program)(f:Nat):Nat:=match P.funcs[f]? with
 |some fn=>fn.ntmps
 |none=>0
def O9(P:Program)(f:Nat):List jo:=match P.funcs[f]? with
 |some fn=>(match h3 P fn.results.toList with
  |some r=>r
  |none=>[])
 |none=>[]
def tX(P:Program)(e:et):Bool:=match P.funcs[e.f]? with
 |some fn=>hI P e.f&&((fn.body.bind (resolve P fn.ntmps)).isSome&&((h3 P fn.results.toList).isSome&&Nat.ble e.gC.length fn.ntmps))
 |none=>false
def iD(P:Program)(e:et):Prop:=tX P e=true
theorem iD.m{P:Program}{e:et}(h:tX P e=true):iD P e:=h
def qD(fo:fV U)(c:kZ U)(kk:Nat)(b:dz)(e:gr)(F':aL U.D e.ts->Option (ew U e.outs))(h:aL U.D e.ts):Option (ew U e.outs):=
 kq fo c kk b 0 (ho U e.bx (aL.cells U.D e.ts h)).1 (ho U e.bx (aL.cells U.D e.ts h)).2 e.bx.st.length (λx env J N=>match x with
  |.normal=>match rW kk e.Al e.bx e.ts env J N with
   |some a=>F' a
   |none=>none
  |x=>rI kk e.outs x env J N)
def qe(fo:fV U)(a:kZ U)(P:Program)(e:et)(h:aL U.D e.ts):Option (aL U.D e.us):=
 D8 e.st.length (gx 0 e.st (kO e.gC (aL.cells U.D e.ts h)).2) λJ N=>kq fo a e.st.length (codeF P e.f) 0 (ue 0 (kO e.gC (aL.cells U.D e.ts h)).1) J N (RO e.st.length (O9 P e.f) e.eQ e.eo e.us)
variable{e:et}
section
variable {P:Program}
variable{fo:fV U}
theorem Kb(d:fI P fo){a:kZ U}{b:dz}{e:gr}{h:aL U.D e.ts}{o:ew U e.outs}{F':aL U.D e.ts->Option (ew U e.outs)}
 (f:gE P nt kk a 0 b)(c:∀h o,F' h=some o->mY P nt kk b e.bx e.ts e.outs h o)(g:qD fo a kk b e F' h=some o):mY P nt kk b e.bx e.ts e.outs h o:=by
 refine mY.agj (own:=e.Al) d f c (Eq.trans ?_ g);unfold qD
 congr 1
 funext x env J N
 cases x with
 |normal=>
  dsimp only;generalize rW kk e.Al e.bx e.ts env J N=z;cases z<;>rfl
 |_=>rfl
theorem JE{k:kZ U}(a:iD P e)(F:aL U.D e.ts->Option (aL U.D e.us))(o:fI P fo)(b:gE P (xH P e.f) e.st.length k 0 (codeF P e.f))
 {h:aL U.D e.ts}{r:aL U.D e.us}(d:qe fo k P e h=some r):ui P (e.s F) h r:=by
 unfold iD tX at a;unfold codeF at b;unfold xH at b;unfold qe codeF O9 at d;split at a
 . rename_i fn i;simp only[i]at b d;simp only[cc]at a;obtain⟨q,m,ba,n⟩:=a;obtain⟨c,g⟩:=yt.1 m;obtain⟨p,j⟩:=yt.1 ba;have l:H9 P fn=c:=by unfold H9;rw[g]
   rw[l]at b d;simp only[j]at d;exact ui.Fm (s:=e.s F) i g j n o b d
 . cases a
theorem iD.b{e:et}(a:iD P e):hI P e.f=true:=by
 unfold iD tX at a;grind
def xq(fo:fV U)(kk:Nat):Nat->dz->(e:gr)->aL U.D e.ts->Option (ew U e.outs)
 |0,_,_,_=>none
 |n+1,b,e,h=>qD fo (kP (e.sub.map λs=>(s.q,s.l (xq fo kk n (vR b s.q) s)))) kk b e (xq fo kk n b e) h
def ud(g:(e:et)->aL U.D e.ts->Option (aL U.D e.us))(r:List (cC U)):List et->fV U
 |[],f=>hM r f
 |e::T,f=>match Nat.beq e.f f with
  |true=>e.s (g e)::ud g r T f
  |false=>ud g r T f
def ln(P:Program)(T:List et)(a:List (cC U)):Nat->(e:et)->aL U.D e.ts->Option (aL U.D e.us)
 |0,_,_=>none
 |n+1,e,h=>qe (ud (ln P T a n) a T) (kP (e.sub.map λs=>(s.q,s.l (xq (ud (ln P T a n) a T) e.st.length n (vR (codeF P e.f) s.q) s)))) P e h
theorem EV{b:dz}{g:(s:gr)->aL U.D s.ts->Option (ew U s.outs)}:∀{l:List gr},(∀s h o,g s h=some o->mY P nt kk (vR b s.q) s.bx s.ts s.outs h o)->jt P nt kk b (l.map λs=>(s.q,s.l (g s)))
 |[],_=>jt.nil
 |s::l,ao=>jt.cons (λh o a=>ao s h o a) (EV (l:=l) ao)
theorem HT(a:fI P fo):∀(n:Nat) (b:dz) (e:gr) (h:aL U.D e.ts) (o:ew U e.outs),xq fo kk n b e h=some o->mY P nt kk b e.bx e.ts e.outs h o
 |0,_,_,_,_,d=>by simp[xq]at d
 |n+1,b,e,h,o,d=>Kb a (jt.snd (EV λs h o c=>HT a n _ s h o c)) (λh o c=>HT a n b e h o c) d
theorem Nb{g:(e:et)->aL U.D e.ts->Option (aL U.D e.us)}{r:List (cC U)}(c:fI P (hM r)):∀{T:List et},(∀e,e∈T->iD P e)->(∀e,e∈T->hX P (e.s (g e)))->fI P (ud g r T)
 |[],_,_=>c
 |e::T,a,ao=>by
  intro f t ht;simp only[ud]at ht;have ih:=Nb c (λe he=>a e (Fa _ he)) (λe he=>ao e (Fa _ he));split at ht
  . rename_i d;have:=cV d;rcases fe.1 ht with rfl|ht
    . exact⟨this,by rw[<-this];exact(a e Fe).b,ao e Fe⟩
    . exact ih f t ht
  . exact ih f t ht
theorem Nc{T:List et}(b:∀e,e∈T->iD P e){a:List (cC U)}(f:fI P (hM a)):∀(n:Nat) (e:et),iD P e->hX P (e.s (ln P T a n e))
 |0,e,_=>λh r c=>by simp[et.s,ln]at c
 |n+1,e,he=>hX.of λh r c=>
  have g:fI P (ud (ln P T a n) a T):=Nb f b λd i=>Nc b f n d (b d i)
  JE he _ g (jt.snd (EV λs h o j=>HT g n _ s h o j)) c
end
open Go
variable {U:cK}{P:Program}
def g'(P:Program)(s:cC U):Prop:=hI P s.f=true/\hX P s
def p'(P:Program)(f:Nat):a6->dz
 |[]=>codeF P f
 |q::p=>vR (p' P f p) q
def m'(P:Program)(f kk:Nat)(p:a6)(e:gr)(F:aL U.D e.ts->Option (ew U e.outs)):Prop:=uk P (xH P f) kk (p' P f p) (e.l F)
def js(P:Program)(l:List (cC U)):Prop:=fI P (hM l)
theorem js.n:js P ([]:List (cC U)):=fI.nil
theorem js.k{s:cC U}{l:List (cC U)}(h:g' P s)(ae:js P l):js P (s::l):=fI.cons h.1 h.2 ae
def jE(P:Program)(f kk:Nat)(p:a6)(l:List (Nat×ha U)):Prop:=jt P (xH P f) kk (p' P f p) l
theorem jE.n{f kk:Nat}{p:a6}:jE P f kk p ([]:List (Nat×ha U)):=jt.nil
theorem jE.k{f kk q:Nat}{p:a6}{e:gr}{F:aL U.D e.ts->Option (ew U e.outs)}{l:List (Nat×ha U)}(h:m' P f kk (q::p) e F)(ae:jE P f kk p l):jE P f kk p ((q,e.l F)::l):=jt.cons h ae
def AR(P:Program)(U:cK)(e:et)(h:aL U.D e.ts)(r:aL U.D e.us):Prop:=ui P (e.s λ_=>none) h r
def wV(P:Program)(U:cK)(f kk:Nat)(p:a6)(e:gr)(h:aL U.D e.ts)(o:ew U e.outs):Prop:=mY P (xH P f) kk (p' P f p) e.bx e.ts e.outs h o
theorem AR.at(j:iD P e){fs:List (cC U)}(c:js P fs){a:List (Nat×ha U)}(ae:jE P e.f e.st.length [] a){h:aL U.D e.ts}{r:aL U.D e.us}(o:qe (hM fs) (kP a) P e h=some r):AR P U e h r:=
 JE j _ c (jt.snd ae) o
theorem wV.at{e:gr}{F':aL U.D e.ts->Option (ew U e.outs)}(bD:∀h o,F' h=some o->wV P U f kk p e h o){fs:List (cC U)}(c:js P fs){a:List (Nat×ha U)}(ae:jE P f kk p a){h:aL U.D e.ts}{o:ew U e.outs}
 (j:qD (hM fs) (kP a) kk (p' P f p) e F' h=some o):wV P U f kk p e h o:=
 Kb c (jt.snd ae) bD j
theorem g'.of(a:iD P e){F:aL U.D e.ts->Option (aL U.D e.us)}(h:∀h r,F h=some r->AR P U e h r):g' P (e.s F):=⟨a.b,hX.of h⟩
theorem m'.of{e:gr}{F:aL U.D e.ts->Option (ew U e.outs)}(h:∀h o,F h=some o->wV P U f kk p e h o):m' P f kk p e F:=h
theorem g'.fn(a:iD P e){F:aL U.D e.ts->Option (aL U.D e.us)}{fs:List (cC U)}(j:js P fs){c:List (Nat×ha U)}(ae:jE P e.f e.st.length [] c)(p:∀h,qe (hM fs) (kP c) P e h=F h):g' P (e.s F):=
 .of a λh r o=>.at a j ae ((p h).trans o)
theorem m'.aho{e:gr}{F:aL U.D e.ts->Option (ew U e.outs)}{fs:List (cC U)}(c:js P fs){a:List (Nat×ha U)}(ae:jE P f kk p a)(q:∀h,qD (hM fs) (kP a) kk (p' P f p) e (λ_=>none) h=F h):m' P f kk p e F:=
 .of λh o j=>.at (F':=λ_=>none) (λ_ _ h=>by cases h) c ae ((q h).trans j)
theorem g'.rc(a:iD P e){F:aL U.D e.ts->Option (aL U.D e.us)}{b:(aL U.D e.ts->Option (aL U.D e.us))->aL U.D e.ts->Option (aL U.D e.us)}
 (q:∀m:aL U.D e.ts->aL U.D e.us->Prop,(∀F',(∀h r,F' h=some r->m h r)->∀h r,b F' h=some r->m h r)->∀h r,F h=some r->m h r)
 {fs:(aL U.D e.ts->Option (aL U.D e.us))->List (cC U)}(j:∀F',g' P (e.s F')->js P (fs F')){c:List (Nat×ha U)}(ae:jE P e.f e.st.length [] c)(p:∀F' h,qe (hM (fs F')) (kP c) P e h=b F' h):g' P (e.s F):=
 .of a (q _ λF' bD h r o=>.at a (j F' (.of a bD)) ae ((p F' h).trans o))
theorem m'.rc{e:gr}{F:aL U.D e.ts->Option (ew U e.outs)}{b:(aL U.D e.ts->Option (ew U e.outs))->aL U.D e.ts->Option (ew U e.outs)}
 (t:∀m:aL U.D e.ts->ew U e.outs->Prop,(∀F',(∀h r,F' h=some r->m h r)->∀h r,b F' h=some r->m h r)->∀h r,F h=some r->m h r)
 {fs:List (cC U)}(c:js P fs){a:List (Nat×ha U)}(ae:jE P f kk p a)(q:∀F' h,qD (hM fs) (kP a) kk (p' P f p) e F' h=b F' h):m' P f kk p e F:=
 .of (t _ λF' bD h o j=>.at bD c ae ((q F' h).trans j))
theorem g'.bm{F:aL U.D e.ts->Option (aL U.D e.us)}{fs:List (cC U)}(c:js P fs:=by exact .n){a:List (Nat×ha U)}(ae:jE P e.f e.st.length [] a:=by exact .n)(j:iD P e:=by exact .m (by kernel_rfl))
 (o:∀h,qe (hM fs) (kP a) P e h=F h:=by intro _;kernel_rfl):g' P (e.s F):= .fn j c ae o
theorem g'.rx{F:aL U.D e.ts->Option (aL U.D e.us)}{b:(aL U.D e.ts->Option (aL U.D e.us))->aL U.D e.ts->Option (aL U.D e.us)}
 (p:∀m:aL U.D e.ts->aL U.D e.us->Prop,(∀F',(∀h r,F' h=some r->m h r)->∀h r,b F' h=some r->m h r)->∀h r,F h=some r->m h r)
 {fs:(aL U.D e.ts->Option (aL U.D e.us))->List (cC U)}(c:∀F',g' P (e.s F')->js P (fs F')){a:List (Nat×ha U)}(ae:jE P e.f e.st.length [] a:=by exact .n)(j:iD P e:=by exact .m (by kernel_rfl))
 (o:∀F' h,qe (hM (fs F')) (kP a) P e h=b F' h:=by intro _ _;kernel_rfl):g' P (e.s F):= .rc j p c ae o
theorem m'.rx {f kk:Nat}{p:a6}{e:gr}{F:aL U.D e.ts->Option (ew U e.outs)}{b:(aL U.D e.ts->Option (ew U e.outs))->aL U.D e.ts->Option (ew U e.outs)}
 (o:∀m:aL U.D e.ts->ew U e.outs->Prop,(∀F',(∀h r,F' h=some r->m h r)->∀h r,b F' h=some r->m h r)->∀h r,F h=some r->m h r)
 {fs:List (cC U)}(c:js P fs:=by exact .n){a:List (Nat×ha U)}(ae:jE P f kk p a:=by exact .n)(j:∀F' h,qD (hM fs) (kP a) kk (p' P f p) e F' h=b F' h:=by intro _ _;kernel_rfl):m' P f kk p e F:= .rc o c ae j
theorem abY{T:List et}(h:T.all (tX P)=true):∀e,e∈T->iD P e:=λe he=>c0.1 h e he
theorem g'.run{T:List et}(c':T.all (tX P)=true){a:List (cC U)}(f:js P a)(c:iD P e){F:aL U.D e.ts->Option (aL U.D e.us)}(n:Nat)(h:∀h,F h=ln P T a n e h):g' P (e.s F):=
 ⟨c.b,λx r j=>Nc (abY c') f n e c x r ((h x).symm.trans j)⟩
abbrev ab:aJ:= .int .i64
abbrev aA(n:Nat):aJ:= .slice (.nm n)
abbrev jl:aJ:= .slice .str
abbrev bZ:aJ:= .slice (.int .i64)
abbrev aa(t:aJ):e1:= .c (.hole t)
abbrev aw(b o:Nat):e1:= .c (.ptr b o)
abbrev cl(t:aJ):fK:= .box [.hole t]
def cM:kv->List aJ
 |.hole t=>[t]
 |.cH _ _ _=>[.int .i64]
 |.dO t _=>[t]
 |_=>[]
def bD{α:Type}(f:α->List aJ):List α->List aJ
 |[]=>[]
 |a::l=>f a++bD f l
def QY:e1->List aJ
 |.c s=>cM s
 |.agg l=>bD cM l
 |.row n=>[.nm n]
 |.aY _=>[]
def gR:e1->List aJ
 |.aY l=>bD QY l
 |v=>QY v
def dp:fK->List aJ
 |.box l=>bD cM l
 |.arr t=>[.slice t]
 |.bt n=>[.nm n]
 |.set=>[.slice .str]
 |.buf _=>[.str]
 |.b8 _ s=>cM s
 |.gone=>[]
def dG(l:List (Nat×e1))(st:List fK):List aJ:=bD (λp=>gR p.2) l++bD dp st
abbrev aW(f:Nat)(gC:List e1)(eQ:e1)(sub:List gr:=[])(st:List fK:=[])(eo:List fK:=[]):et:=⟨f,gC,st,bD gR gC++bD dp st,eQ,eo,gR eQ++bD dp eo,sub⟩
abbrev b5(q:Nat)(l:List (Nat×e1))(st:List fK)(outs:List jF)(sub:List gr:=[])(own:List (Pos×aJ):=[])(Al:List (Pos×aJ):=own):gr:=⟨q,⟨l,st⟩,own,Al,dG l st,outs,sub⟩
abbrev bR(e:Exit)(l:List (Nat×e1))(st:List fK:=[])(own:List (Pos×aJ):=[]):jF:=⟨e,⟨l,st⟩,own,dG l st⟩
abbrev eX(k:Nat)(t:aJ):jF:=⟨.ret,⟨[(k,aa t)],[]⟩,[],[t]⟩
abbrev gz(i:Nat):jF:=⟨.exit i,⟨[],[]⟩,[],[]⟩
section
open Go
variable {U:cK}
def va(sz bytes:Nat)(z:List C):dz:=
 .seq (.region [⟨some 2,.mov (.const (.c .aF)),none⟩])
  (.seq (.seq (.region [⟨some 3, .mov (.tmp 0),none⟩,⟨some 4, .eqNil false (.tmp 3),none⟩])
   (.cond (.tmp 4) (.seq (.region [⟨some 2,.mov (.const (.c .aF)),none⟩]) .ret) .skip))
   (.seq (.region [⟨some 5,.bslice sz 0 z [],none⟩,⟨some 6,.mov (.tmp 0),none⟩,⟨some 7,.append sz bytes (.tmp 5) (.tmp 6),none⟩,⟨some 2,.mov (.tmp 7),none⟩]) .ret))
def uc(bytes n:Nat):Bool:=(decide ((2*n+192)*bytes<=j')||decide ((n+n/4+512)*bytes<=j'))&&decide (n<=eE)
theorem nH{bytes n:Nat}(h:room bytes n=true):uc bytes n=true:=by
 have:=G6.1 h;unfold uc;simp[this]
theorem Nd{bytes n:Nat}(h:uc bytes n=true):lG n bytes/\n<=eE:=by
 unfold uc at h;simp only[cc,hO,dq]at h;exact h
def fD{α:Type}(bytes:Nat)(l:List α):Option (List α):=if uc bytes l.length then some l else none
def vS(U:cK)(f:Nat)(t:aJ)(bytes:Nat):cC U:=
 ⟨f,[.c (.hole (.slice t))],[],[.slice t],.c (.arr 0),[.arr t],[.slice t],λ(l:List (t.den U.D))=>fD bytes l⟩
variable{z:List C}{f:Nat}{es:List (List T)}{w:List T}
section
variable {P:Program}
theorem aaE{fn:Func}{sz bytes:Nat}(l:P.funcs[f]?=some fn)(d:fn.body.bind (Shv.resolve P fn.ntmps)=some (va sz bytes z))(m:h3 P fn.results.toList=some [.tmp 2])
 (aD:1<=fn.ntmps)(v:toTs z=some w)(q:0<sz)(he:∀e,e∈es->e.length=sz)(n:uc bytes es.length=true):
 ec P f [.c (.t (.slice es))] [] 0 (λr J' N'=>N'=1/\r= .c (.arr 0 sz 0 es.length)/\aV J' 0=some (.arr sz es)):=by
 have a:=Nd n;refine ec.tidy (Q:=λr J' N'=>∃b,r= .c (.arr b sz 0 es.length)/\aV J' b=some (.arr sz es)) (ec.mk l d m rfl (by simpa using aD) ?_) ?_
 . unfold va;refine cu.seq (cu.region ?_);simp only[kx,hc,fP,aR,aS.get,f',en,fQ,cJ.neutral,bJ,andThen];refine .inr ⟨λ_=>trivial,.inl trivial,?_⟩;refine cu.seq (cu.seq (cu.region ?_));simp only[kx,hc,fP,aR,aS.get,f',en,cJ.neutral,bJ,andThen,look,ia,ib];refine .inr ⟨λ_=>by simp,.inl trivial,?_⟩;refine .inr ?_;simp only[Nat.reduceEqDiff,bT,bJ,f',rD];intro b y;refine cu.cond (b:=b) (p:=True) (by simp[aS.get,look,sa]) trivial (λB=>?_) (λA=>?_)
   ·
    have j:es=[]:=(by grind);subst j;refine cu.seq (cu.region ?_);simp only[kx,hc,fP,aR,aS.get,f',en,cJ.neutral,bJ,andThen];refine .inr ⟨λ_=>trivial,.inl trivial,?_⟩;refine cu.conv (Conv.own (k:=2) (g:=true) (sz:=sz) rfl q (ic _)) (cu.ret ?_);refine⟨_,_,rfl,⟨rfl,trivial⟩,_,rfl,?_⟩;rw[cX,ad rfl]
   . refine cu.skip ?_;refine cu.seq (cu.region ?_);simp only[kx,hc,fP,aR,aS.get,f',en,cJ.neutral,bJ,andThen,look,jN,v,ak,Nat.reduceEqDiff,bT,bK,reduceCtorEq,ma,cX,List.replicate];refine .inr ⟨λ_=>trivial,.inr trivial,?_⟩;refine .inr ⟨λ_=>by simp,.inl trivial,?_⟩;refine .inr ⟨λ_=>⟨trivial,trivial,trivial,trivial,trivial,by simp,he,by simpa using a.1,by simpa using a.2⟩,.inr trivial,?_⟩;refine .inr ⟨λ_=>by simp,.inl trivial,?_⟩;refine cu.ret ⟨_,[.c (.arr 80 sz 0 (0+es.length))],rfl,⟨rfl,trivial⟩,80,by rw[gb];rfl,?_⟩;rw[cX,ad rfl];simp
 . rintro r J' N' ⟨b,rfl,hs⟩
   refine⟨[b],_,_,by simp,rfl,?_,λi x u=>⟨x,u,?_⟩,rfl,rfl,?_⟩
   . simp only[V.bN,C.bN,pos,bJ];exact .c (dx.refl _)
   . cases x with
     |box cs=>exact .box (a8.self dx.refl _)
     |arr sz es=>exact .arr
     |set ks=>exact .same
     |buf E s=>exact .same
     |b8 E c=>exact .b8 (dx.refl _)
     |cA sz es i o c=>exact .cA (dx.refl _)
   . simp[fq,hs,aV,bO.bN]
theorem Hh{fn:Func}{sz bytes:Nat}{t:aJ}(o:P.funcs[f]?=some fn)(n:fn.body.bind (Shv.resolve P fn.ntmps)=some (va sz bytes z))(q:h3 P fn.results.toList=some [.tmp 2])
 (aD:Nat.ble 1 fn.ntmps=true)(v:toTs z=some w)(u:t.sz U=sz):hX P (vS U f t bytes):=by
 intro(l:List (t.den U.D)) r bD B J1 k aE;subst u;have d:fD bytes l=some r:=bD;unfold fD at d;split at d
 . rename_i s;cases d;cases k with
   |cons h1 j=>
    cases j;have:=ca.ko (t:=t) (l:=l) h1;subst this
    refine ec.conv (J':=[]) (.cons (.c (dx.refl _)) .nil) (λb x a=>by simp[aV]at a) ((aaE (bytes:=bytes) o n q (h5 aD) v aJ.wI (es:=List.map (t.enc U) l) (λe he=>by
     obtain⟨y,_,rfl⟩:=eK.1 he
     exact aJ.si) (by rw[gA];exact s)).mono ?_)
    rintro E s1 A ⟨rfl,rfl,hs⟩
    refine⟨rfl,.c (.arr 0 _ _ (by omega) λx a p i=>?_),λb x a=>?_⟩
    . have:x=cP.arr t l:=by
       simp only[cC.rest,vS,kN,qo,aL.cells,e5.cells,gx,iO,aX,Nat.beq,bG]at a;grind
      subst this;simp only[cP.df,bG]at i;rw[<-i,gA]
    . have g:(if b=0 then some (cP.arr t l)else none)=some x:=by
       rw[<-a];simp only[cC.rest,vS,kN,qo,aL.cells,e5.cells,gx,iO,aX];cases b<;>rfl
      split at g
      . rename_i m;cases g;subst m;exact⟨by omega,_,hs,.arr t l⟩
      . cases g
 . cases d
def tp{α:Type}(bytes:Nat)(l:List α):Option (List α×List α):=(fD bytes l).map λr=>(l,r)
def DU(U:cK)(f:Nat)(t:aJ)(bytes:Nat):cC U:=
 ⟨f,[.c (.arr 0)],[.arr t],[.slice t],.c (.arr 1),[.arr t,.arr t],[.slice t,.slice t],λ(l:List (t.den U.D))=>tp bytes l⟩
theorem YS{fn:Func}{sz bytes:Nat}{B:List T}{a:a7}(n:P.funcs[f]?=some fn)(l:fn.body.bind (Shv.resolve P fn.ntmps)=some (va sz bytes z))(q:h3 P fn.results.toList=some [.tmp 2])
 (aD:1<=fn.ntmps)(A:toTs z=some B)(w:0<sz)(he:∀e,e∈es->e.length=sz)(t:uc bytes es.length=true)(h0:aV a 0=some (.arr sz es)):
 ec P f [.c (.arr 0 sz 0 es.length)] a 1 (λr J' N'=>N'=2/\r= .c (.arr 1 sz 0 es.length)/\aV J' 0=some (.arr sz es)/\aV J' 1=some (.arr sz es)):=by
 have d:=Nd t;refine ec.tidy (Q:=λr J' N'=>∃b,1<=b/\r= .c (.arr b sz 0 es.length)/\aV J' 0=some (.arr sz es)/\aV J' b=some (.arr sz es)) (ec.mk n l q rfl (by simpa using aD) ?_) ?_
 . unfold va;refine cu.seq (cu.region ?_);simp only[kx,hc,fP,aR,aS.get,f',en,fQ,cJ.neutral,bJ,andThen];refine .inr ⟨λ_=>trivial,.inl trivial,?_⟩;refine cu.seq (cu.seq (cu.region ?_));simp only[kx,hc,fP,aR,aS.get,f',en,cJ.neutral,bJ,andThen,look,ia,ib];refine .inr ⟨λ_=>by simp,.inl trivial,?_⟩;refine .inr ?_;simp only[Nat.reduceEqDiff,bT,bJ,f',rD];intro b D;refine cu.cond (b:=b) (p:=True) (by simp[aS.get,look,sa]) trivial (λH=>?_) (λG=>?_)
   . have m:es=[]:=(by grind);subst m;refine cu.seq (cu.region ?_);simp only[kx,hc,fP,aR,aS.get,f',en,cJ.neutral,bJ,andThen];refine .inr ⟨λ_=>trivial,.inl trivial,?_⟩;refine cu.conv (Conv.own (k:=2) (g:=true) (sz:=sz) rfl w (by omega)) (cu.ret ?_);refine⟨_,_,rfl,⟨rfl,trivial⟩,_,by omega,rfl,?_,?_⟩
     . rw[cX,bp];exact h0
     . rw[cX,ad rfl]
   . refine cu.skip ?_;refine cu.seq (cu.region ?_);simp only[kx,hc,fP,aR,aS.get,f',en,cJ.neutral,bJ,andThen,look,jN,A,ak,Nat.reduceEqDiff,bT,bK,reduceCtorEq,List.replicate];refine .inr ⟨λ_=>trivial,.inr trivial,?_⟩;refine .inr ⟨λ_=>by simp,.inl trivial,?_⟩;have j:∀v:List (List T),ma (dd a (1+16*1+16*2) (.arr sz v)) (.c (.arr 0 sz 0 es.length))=some (es,some 0):=by
      intro v;simp[ma,cX,h0]
     refine .inr ?_;simp only[ia,ib,gb]at j⊢;rw[j];simp only[ak,cX,bJ,bG,Nat.reduceMul,Nat.reduceAdd,show ¬(0=49) by omega,show ¬(49=0) by omega,bT];refine⟨λ_=>⟨trivial,trivial,trivial,trivial,trivial,by simp,he,by simpa using d.1,by simpa using d.2⟩,.inr trivial,?_⟩;refine .inr ⟨λ_=>by simp,.inl trivial,?_⟩;refine cu.ret ⟨_,[.c (.arr 81 sz 0 es.length)],rfl,⟨rfl,trivial⟩,81,by omega,rfl,?_,?_⟩
     . rw[cX,bp,fO,bp,cX,bp];exact h0
     . rw[cX,ad rfl];simp
 . rintro r J' N' ⟨b,F,rfl,u,hs⟩
   refine⟨[0,b],_,_,by simp;omega,rfl,?_,λi x y=>⟨x,y,?_⟩,rfl,rfl,?_⟩
   . simp only[V.bN,C.bN,pos,al (show ¬0=b by omega),bJ];exact .c (dx.refl _)
   . cases x with
     |box cs=>exact .box (a8.self dx.refl _)
     |arr sz es=>exact .arr
     |set ks=>exact .same
     |buf E s=>exact .same
     |b8 E c=>exact .b8 (dx.refl _)
     |cA sz es i o c=>exact .cA (dx.refl _)
   . simp[fq,hs,u,aV,bO.bN]
theorem YT{fn:Func}{sz bytes:Nat}{I:List T}{t:aJ}(s:P.funcs[f]?=some fn)(o:fn.body.bind (Shv.resolve P fn.ntmps)=some (va sz bytes z))(v:h3 P fn.results.toList=some [.tmp 2])
 (aD:Nat.ble 1 fn.ntmps=true)(H:toTs z=some I)(E:t.sz U=sz):hX P (DU U f t bytes):=by
 intro(l:List (t.den U.D)) r bD K J1 k aE;subst E;have d:(fD bytes l).map (λr=>(l,r))=some r:=bD;unfold fD at d;split at d
 . rename_i w;cases d;cases k with
   |cons h1 j=>
    cases j;obtain⟨sz,n,rfl,_,q⟩:=h1.hb;obtain⟨_,y,F,G⟩:=aE 0 (.arr t l) rfl;cases G;have:=q (.arr t l) rfl (t.sz U,l.length) rfl;simp only[bE]at this;obtain⟨rfl,rfl⟩:=this;have u:l.length=(l.map (t.enc U)).length:=by rw[gA]
    rw[u]
    refine(YS (bytes:=bytes) s o v (h5 aD) H aJ.wI (es:=List.map (t.enc U) l) (λe he=>by
     obtain⟨y,_,rfl⟩:=eK.1 he
     exact aJ.si) (by rw[gA];exact w) F).mono ?_
    rintro M s1 J ⟨rfl,rfl,A,B⟩
    have g:∀b x,aX ((DU U f t bytes).rest (l,l)) b=some x->(b=0\/b=1)/\x=cP.arr t l:=by
     intro b x a;have L:(if b=0 then some (cP.arr t l)else if b=1 then some (cP.arr t l)else none)=some x:=by
      rw[<-a];simp only[cC.rest,DU,kN,qo,aL.cells,e5.cells,gx,iO,aX]
      match b with
      |0=>rfl
      |1=>rfl
      |_+2=>rfl
     grind
    refine⟨rfl,.c (.arr 1 _ _ (by omega) λx a p i=>?_),λb x a=>?_⟩
    . obtain⟨_,rfl⟩:=g _ _ a;simp only[cP.df,bG]at i;rw[<-i,gA]
    . obtain⟨m,rfl⟩:=g _ _ a;rcases m with rfl|rfl
      . exact⟨by omega,_,A,.arr t l⟩
      . exact⟨by omega,_,B,.arr t l⟩
 . cases d
end
end
section
open Go Go.Proofs Go.Proofs.YtdjagncoefjfeaaGreat Go.Shelf
variable {U:cK}
def DV(U:cK)(f E a:Nat):cC U:=
 ⟨f,[.c (.ptr 0 0)],[.b8 E (.cI 1),.buf a],[.str],.aY [],[.b8 E (.cI 1),.buf a],[.str],λ(s:aj)=>some s⟩
section
variable {P:Program}{ρ:Ren}
theorem aaF(L:Lays.n240 P ρ)(y:Builder.X72 P ρ){J:a7}{D n:Nat}{s:aj}(h0:aV J 0=some (.b8 (ρ.t 72) (.cI 1 n)))(h1:aV J 1=some (.buf D s)):
 ec P (ρ.f 240) [.c (.ptr 0 0)] J 2 (λr J' N'=>r= .aY []/\J'=J/\N'=2):=by
 intro φ S w B g A l O vs o;cases o with|cons M o=>
 cases o;have H:=M.hR;subst H;obtain⟨q,⟨p,v,aa,G,I⟩,z⟩:=g.blk 0 _ h0;have same:∀ w',w' = w->∃ (v:Value) (r:V) (i:dE) (bQ:dT) (J':a7) (N':Nat),Ending.returned (Value.tuple #[]) = Ending.returned v/\(r = .aY []/\J' = J/\N' = 2)/\ck i w' bQ r v/\r.az (lt N') = true/\qj i w' bQ J'/\(∀ (b:Nat) x,aV J' b = some x->b<N'/\x.az (lt N') = true)/\Ext B S bQ w w'/\
  (∀(b:Nat) x,aV J' b=some x->(i b).2≠0->B (i b).1\/w.heap.size<=(i b).1)/\∀b,b<2->i b=φ b:=by
  rintro w' rfl
  exact⟨_,.aY [],φ,S,J,2,rfl,⟨rfl,rfl,rfl⟩,.aY [] [] rfl (by simp),rfl,g,A,Ext.refl,λb x a d=>.inl (l b x a d),λ_ _=>rfl⟩
 rcases G with rfl|rfl
 . have k:w.cell? ⟨(φ 0).1,0,none⟩=some (.pointer none):=by rw[jw (vs:=[_,_]) aa];rfl
   have K:w.shape? (φ 0).1=some (ρ.t 72,2):=(by simp[World.shape?,aa]);have F:w.frozen? ⟨(φ 0).1,0,none⟩=false:=(by simp[World.frozen?,aa]);refine(Any.Builder_copyCheck_fresh L y (φ 0).1 w k K F).mono ?_
   rintro e w' ⟨rfl,rfl⟩
   obtain⟨N,u⟩:=Tp (vs:=[.pointer none,v]) aa 0 (.pointer (some ⟨(φ 0).1,0,none⟩));have m:gu w S (w.setCell ⟨(φ 0).1,0,none⟩ (.pointer (some ⟨(φ 0).1,0,none⟩))) S:=⟨λ_ _ h=>h,λb j h=>qP (u b (λe=>z j (e▸h))) j⟩
   refine⟨_,.aY [],φ,S,J,2,rfl,⟨rfl,rfl,rfl⟩,.aY [] [] rfl (by simp),rfl,⟨λb x a=>?_,g.inj,λb j h=>?_⟩,A,⟨rfl,rfl,rfl,by simp,λb d dp=>u b (λe=>dp (e▸l 0 _ h0 q)),m,λ_ _ h=>.inl h⟩,λb x a d=>.inl (l b x a d),λ_ _=>rfl⟩
   . by_cases d:b=0
     . subst d;rw[h0]at a;cases a;exact⟨q,⟨_,v,N,.inr rfl,bk.mono (n:=λ_=>true) m (λ_ _=>rfl) (C.mi _) I⟩,z⟩
     . exact c3.mono (n:=λ_=>true) m (λ_ _=>rfl) rfl (by cases x<;>simp[bO.az,C.mi]) (λE=>u _ (g.inj b 0 x _ a h0 d E q)) (g.blk b x a)
   . have:=g.st b j h;simpa using this
 . have k:w.cell? ⟨(φ 0).1,0,none⟩=some (.pointer (some ⟨(φ 0).1,0,none⟩)):=by rw[jw (vs:=[_,_]) aa];rfl
   refine(Any.Builder_copyCheck_used L y (φ 0).1 w k).mono ?_
   rintro e w' ⟨rfl,rfl⟩
   exact same _ rfl
theorem aaG(L:Lays.n240 P ρ)(c:Builder.X72 P ρ){E a:Nat}(j:ρ.f 240=f)(dG:ρ.t 72=E):hX P (DV U f E a):=by
 subst j;subst dG;intro(s:aj) r bD p J1 b aE;have k:r=s:=kR bD.symm;subst k;cases b with|cons b i=>
 cases i;have:=b.hR;subst this;have l:aX ((DV U (ρ.f 240) (ρ.t 72) a).iG r) 0=some (.b8 (ρ.t 72) (.cI 1)):=rfl;have m:aX ((DV U (ρ.f 240) (ρ.t 72) a).iG r) 1=some (.buf a r):=rfl;obtain⟨_,w,e,b0⟩:=aE 0 _ l;obtain⟨_,x,g,b1⟩:=aE 1 _ m;cases b1;cases b0 with| @b8 _ _ d b0=>
 cases b0 with|cI _ n q u=>
 refine(aaF L c e g).mono ?_
 rintro v s1 o ⟨rfl,rfl,rfl⟩
 exact⟨rfl,.aY [] [] rfl (by simp),aE⟩
end
end
section
open Go Go.ChangeShapes Go.WideShapes Go.RowKit
variable {U:cK}
def aJ.RK:aJ->Nat
 |.bool=>1
 |.int k=>k.bits/8
 |.str=>16
 |.slice _=>24
 |.nm _=>0
def H':List aJ->Nat
 |[]=>0
 |t::r=>t.RK+H' r
def tq(l:List aJ):Nat:=bif l.any λt=>Nat.ble 8 t.RK then(H' l+7)/8*8 else H' l
def aJ.bytes(U:cK)(t:aJ):Nat:=tq (t.cells U)
inductive WF (U:cK):Cell U.D->Prop
 |bool (b:Bool):WF U ⟨.bool,b⟩
 |int (k:IntKind) (n:Int) (h:(Lit.int k n).wf=true):WF U ⟨.int k,n⟩
 |str (s:aj) (h:s.length<=reachBytes):WF U ⟨.str,s⟩
 |slice (t:aJ) (l:List (t.den U.D)) (h:l.length<=reachBytes) (afV:l.length*t.bytes U<=reachBytes) (ae:∀x,x∈l->∀c,c∈t.row U x->WF U c):WF U ⟨.slice t,l⟩
def cK.Total(U:cK):Prop:=∀n (l:List (Cell U.D)),l.map Cell.ty=U.de n->∃x,U.make n l=some x
def DO:List aJ->List aJ->Bool
 |[],[]=>true
 |a::l,b::m=>aJ.beq a b&&DO l m
 |_,_=>false
theorem L3:∀{l m:List aJ},DO l m=true->l=m
 |[],[],_=>rfl
 |a::l,b::m,h=>by
  simp only[DO,cc]at h;rw[aJ.beq_eq h.1,L3 h.2]
 |[],_::_,h=>by cases h
 |_::_,[],h=>by cases h
def Aa(P:Program)(g:TypeId->Option (List aJ)):List Field->Nat->Nat->Option (List aJ)
 |[],off,c=>match Nat.beq off c with
  |true=>some []
  |false=>none
 |f::r,off,c=>match g f.type with
  |none=>none
  |some a=>match Nat.beq f.offset off&&Nat.beq (P.cellsOf f.type) a.length with
   |false=>none
   |true=>match Aa P g r (off+a.length) c with
    |none=>none
    |some b=>some (a++b)
def flat(P:Program)(U:cK)(st:TypeId->Option Nat):Nat->TypeId->Option (List aJ)
 |0,_=>none
 |n+1,t=>match P.underlying t with
  |some .bool=>some [.bool]
  |some (.int k)=>some [.int k]
  |some .string=>some [.str]
  |some (.slice e)=>match st e with
   |some m=>match Nat.ble 1 (P.bytesOf e)&&Nat.ble (tq (U.de m)) (P.bytesOf e)with
    |true=>some [.slice (.nm m)]
    |false=>none
   |none=>match flat P U st n e with
    |none=>none
    |some a=>match Nat.ble 1 (P.bytesOf e)&&Nat.ble (tq a) (P.bytesOf e)with
     |false=>none
     |true=>match a with
      |[ty]=>match ty.xz with
       |true=>none
       |false=>some [.slice ty]
      |_=>none
  |some (.struct fs)=>Aa P (flat P U st n) fs.toList 0 (P.cellsOf t)
  |some (.array k e)=>match flat P U st n e with
   |none=>none
   |some a=>match Nat.beq (P.cellsOf t) (k*a.length)&&Nat.beq (P.cellsOf e) a.length with
    |false=>none
    |true=>some (List.replicate k a).flatten
  |_=>none
theorem Jq{α:Type}{R:Nat->α->Prop}:∀(n:Nat),(∀i,i<n->∃x,R i x)->∃l:List α,l.length=n/\∀(i:Nat) x,l[i]?=some x->R i x
 |0,_=>⟨[],rfl,by simp⟩
 |n+1,h=>by
  obtain⟨l,ae,b⟩:=Jq n λi a=>h i (by omega);obtain⟨x,c⟩:=h n (by omega);refine⟨l++[x],by simp[ae],λi y d=>?_⟩;grind
variable{v:Value}{t:TypeId}{a:Addr}{de:List aJ}{st:TypeId->Option Nat}
section
variable {H:Type}{enc:TypeId×Value->H}{P:Program}{w:World}
abbrev Old(w:World):dT:=λb _=>b<w.heap.size
structure Rd (U:cK)(w:World)(de:List aJ)(cs:List Value)(l:List (Cell U.D)):Prop where
 ty:l.map Cell.ty=de
 wf:∀c,c∈l->WF U c
 rt:a8 (λc v=>cd w (Old w) (Cell.enc U c) v) l cs
theorem Ab{t:aJ}{x:t.den U.D}(h1:WF U ⟨t,x⟩)(a:cd w (Old w) (Cell.enc U ⟨t,x⟩) v):Rd U w [t] [v] [⟨t,x⟩]:=
 ⟨rfl,by simpa using h1,.cons a .nil⟩
theorem GI:∀{ds:List (DataW H)} {d:DataW H},d∈ds->∀n∈d.weights P t,n∈DataW.weightsAll P t ds
 |d0::ds,d,a,n,aD=>by
  simp only[DataW.weightsAll,ga];rcases fe.1 a with rfl|a
  . grind
  . exact .inr (GI a n aD)
theorem JF{g:TypeId->Option (List aJ)}{cs:List Value}:∀{fs:List Field} {off i:Nat} {de:List aJ},
 (∀f,f∈fs->∀a,g f.type=some a->∃l,Rd U w a ((cs.drop f.offset).take (P.cellsOf f.type)) l)->
 Aa P g fs off i=some de->cs.length=i->∃l,Rd U w de (cs.drop off) l
 |[],off,i,de,_,h,ae=>by
  simp only[Aa]at h;split at h
  . rename_i e;cases h;have:=cV e;refine⟨[],rfl,by simp,?_⟩;rw[ef (by omega)];exact .nil
  . cases h
 |f::r,off,i,de,ao,h,ae=>by
  simp only[Aa]at h;split at h
  . cases h
  . rename_i a n;split at h
    . cases h
    . rename_i j;simp only[cc]at j;have h1:=cV j.1;have s:=cV j.2;split at h
      . cases h
      . rename_i b o;cases h;obtain⟨q,k⟩:=ao f (by simp) a n;obtain⟨l2,m⟩:=JF (λf p=>ao f (by simp[p])) o ae;refine⟨q++l2,by simp[k.ty,m.ty],?_,?_⟩
        . intro c d;rcases ga.1 d with d|d
          . exact k.wf c d
          . exact m.wf c d
        . have e:cs.drop off=(cs.drop off).take a.length++cs.drop (off+a.length):=by rw[<-yj,yb]
          rw[e];refine a8.append ?_ m.rt;have:=k.rt;grind
theorem N4{a:List aJ}{cs:List Value}:∀(k off:Nat),(∀i,i<k->∃l,Rd U w a ((cs.drop (off+i*a.length)).take a.length) l)->cs.length=off+k*a.length->
 ∃l,Rd U w (List.replicate k a).flatten (cs.drop off) l
 |0,off,_,ae=>by
  refine⟨[],rfl,by simp,?_⟩;rw[ef (by omega)];exact .nil
 |k+1,off,ao,ae=>by
  obtain⟨g,d⟩:=ao 0 (by omega);rw[ym,l5]at d
  obtain⟨l2,f⟩:=N4 (a:=a) (cs:=cs) k (off+a.length) (λi j=>by
   have:=ao (i+1) (by omega)
   rwa [Nat.succ_mul,yl (i*a.length),<-p9]at this) (by rw[ae,Nat.succ_mul];omega)
  refine⟨g++l2,by simp[d.ty,f.ty,List.replicate_succ],?_,?_⟩
  . intro c b;rcases ga.1 b with b|b
    . exact d.wf c b
    . exact f.wf c b
  . have e:cs.drop off=(cs.drop off).take a.length++cs.drop (off+a.length):=by rw[<-yj,yb]
    rw[e];exact a8.append d.rt f.rt
theorem aaH{n:Nat}{cs:List Value}(h:w.cells? 0 a n=some cs):cs.length=n/\∀j,j<n->w.cell? (a.add j)=cs[j]?:=by
 unfold World.cells? at h;rw[ad (ic _)]at h;exact⟨by simpa using mapM_some_length h,λj b=>mapM_some_get h j j (by simp[b])⟩
theorem JG(h:w.cell? a=some v):a.spot=none/\a.block<w.heap.size:=by
 unfold World.cell? at h;split at h
 . rename_i b;split at h
   . cases h
   . rename_i hs;refine⟨by simpa using hs,(yq.1 b).1⟩
 . cases h
theorem Nf{i j:Nat}(h:a.spot=none):(a.add i).add j=⟨a.block,a.off+i+j,none⟩:=by
 obtain⟨b,o,c⟩:=a;dsimp only at h;subst h;unfold Addr.add;grind
theorem Q4(b:U.Total){t:aJ}{l:List (Cell U.D)}(h:l.map Cell.ty=t.cells U):∃x,t.row U x=l:=by
 have one:∀t:aJ,l.map Cell.ty=[t]->∃x:t.den U.D,l=[⟨t,x⟩]:=by
  intro t h
  match l,h with
  |[⟨c,x⟩],h=>simp at h;subst h;exact⟨x,rfl⟩
 cases t with
 |nm n=>
  obtain⟨x,a⟩:=b n l h;exact⟨x,U.mk_eq n l x a⟩
 |bool=>obtain⟨x,a⟩:=one _ h;exact⟨x,a.symm⟩
 |int k=>obtain⟨x,a⟩:=one _ h;exact⟨x,a.symm⟩
 |str=>obtain⟨x,a⟩:=one _ h;exact⟨x,a.symm⟩
 |slice t=>obtain⟨x,a⟩:=one _ h;exact⟨x,a.symm⟩
def r3(P:Program)(U:cK)(st:TypeId->Option Nat):Prop:=∀e m,st e=some m->flat P U st 60 e=some (U.de m)
def wF:List (TypeId×Nat)->TypeId->Option Nat
 |[],_=>none
 |p::l,t=>match Nat.beq p.1 t with
  |true=>some p.2
  |false=>wF l t
def zm(P:Program)(U:cK)(st:TypeId->Option Nat)(t:TypeId)(de:List aJ):Bool:=
 match flat P U st 60 t with
 |some a=>DO a de
 |none=>false
theorem GC(h:zm P U st t de=true):flat P U st 60 t=some de:=by
 unfold zm at h;split at h
 . rename_i a b;rw[b,L3 h]
 . cases h
theorem L4:∀{l:List (TypeId×Nat)} {t m},wF l t=some m->(t,m)∈l
 |p::l,t,m,h=>by
  simp only[wF]at h;split at h
  . rename_i e;cases h;have:=cV e;grind
  . exact .tail _ (L4 h)
theorem adG{l:List (TypeId×Nat)}(h:(l.all λp=>zm P U (wF l) p.1 (U.de p.2))=true):r3 P U (wF l):=by
 intro e m he;rw[c0]at h;exact GC (h _ (L4 he))
theorem YU(g:r3 P U st){n:Nat}{e:TypeId}(ht:P.underlying t=some (.slice e))(h:flat P U st (n+1) t=some de):
 ∃ty a i,de=[.slice ty]/\flat P U st i e=some a/\a=ty.cells U/\1<=P.bytesOf e/\tq a<=P.bytesOf e:=by
 simp only[flat,ht]at h;split at h
 . rename_i m f;split at h
   . rename_i b;cases h;simp only[cc]at b;exact⟨.nm m,U.de m,60,rfl,g e m f,rfl,BE b.1,BE b.2⟩
   . cases h
 . split at h
   . cases h
   . rename_i a c;split at h
     . cases h
     . rename_i b;have d:1<=P.bytesOf e/\tq a<=P.bytesOf e:=(by simp_all);split at h
       . rename_i ty;split at h
         . cases h
         . rename_i aD;cases h;refine⟨ty,[ty],n,rfl,c,?_,d⟩;cases ty<;>first|rfl|cases aD
       . cases h
theorem JH(aA:U.Total)(ax:r3 P U st):∀(T n:Nat) (t:TypeId) (cs:List Value) (x:DataW H×List MemPlace) (de:List aJ),
 DataW.trod enc P w 0 (λ_=>true) true T t cs=some x->flat P U st n t=some de->(∀k,k∈x.1.weights P t->k<=reachBytes)->∃l,Rd U w de cs l:=by
 intro T;induction T with
 |zero=>intro n t cs x de h;simp[DataW.trod]at h
 |succ m ih=>
  intro n t cs x de h p N;cases n with
  |zero=>cases p
  |succ n=>
  have aq:=p;simp only[flat]at p;split at p
  . rename_i o;cases p;obtain⟨b,rfl,rfl⟩:=DataW.trod_bool o h;exact⟨_,Ab (.bool b) (.bool b)⟩
  . rename_i k o;cases p;obtain⟨i,rfl,rfl,ay⟩:=DataW.trod_int o h;exact⟨_,Ab (.int k i ay) (.int k i)⟩
  . rename_i o;cases p;obtain⟨s,rfl,rfl,hs⟩:=DataW.trod_string o h;have h1:s.data.toList.length<=reachBytes:=N _ (by simp[DataW.weights]);have A:s.data.toList.length=s.size:=rE;refine⟨_,Ab (.str s.data.toList h1) (.str s ?_)⟩;unfold reachBytes at h1;unfold ez;omega
  . rename_i e o;obtain⟨ty,a,az,rfl,G,ad,am,an⟩:=YU ax o aq;rcases DataW.trod_slice o h with⟨rfl,rfl⟩|⟨g,len,cap,B,O,al,L,rfl,rfl,_,aC,_,aB,I,_,_⟩
    . refine⟨_,Ab (.slice ty [] (ic _) (by simp) (by simp)) ?_⟩;exact .slice [] none 0 0 0 0 (λ_ _=>default) (by simp) (by simp) (by simp) (by simp) (by simp) (by simp)
    . cases L;have aD:(B.length+O.length)*P.bytesOf e<=reachBytes:=by
       have:=N ((B.length+O.length)*P.bytesOf e) (by simp[DataW.weights,o]);exact this
      have R:len<=reachBytes:=by
       have h1:B.length+O.length<=(B.length+O.length)*P.bytesOf e:=E4 _ am;omega
      have K:len*tq a<=reachBytes:=by
       have h1:len*tq a<=(B.length+O.length)*P.bytesOf e:=Nat.mul_le_mul (by omega) an;omega
      have dG:∀i,i<len->∃Q:ty.den U.D,∃z,z.length=P.cellsOf e/\(∀j,j<P.cellsOf e->w.cell? ((g.add (i*P.cellsOf e)).add j)=z[j]?)/\Rd U w a z (ty.row U Q):=by
       intro i u;have J:=I i u;have ap:B[i]?=some B[i]:=eF (by omega);rw[ap]at J;cases F:w.cells? 0 (g.add (i*P.cellsOf e)) (P.cellsOf e)with
       |none=>rw[F]at J;cases J
       |some z=>
        rw[F]at J;obtain⟨h1,A⟩:=aaH F
        obtain⟨l,ae⟩:=ih az e z _ a J G (λk Y=>N k (by
         simp only[DataW.weights,o,fe,ga];right;left
         exact GI (eK.2 ⟨B[i],Fh _,rfl⟩) k Y))
        obtain⟨Q,aE⟩:=Q4 aA (t:=ty) (by rw[ae.ty,ad]);grind
      obtain⟨xs,ai,ak⟩:=Jq len dG;have ab:len≠0->P.cellsOf e=ty.sz U/\0<P.cellsOf e:=by
       intro M;obtain⟨Q,z,h1,_,E⟩:=dG 0 (by omega);have y:=E.rt.length;rw[aJ.RB,h1]at y;exact⟨y.symm,by rw[<-y];exact aJ.wI⟩
      have aa:len≠0->g.spot=none:=by
       intro M;obtain⟨Q,z,h1,A,E⟩:=dG 0 (by omega);have h0:=A 0 (ab M).2;rw[eF (by rw[h1];exact(ab M).2)]at h0;have ba:=(JG h0).1;simpa[Addr.add]using ba
      have aj:∀x,x∈xs->∃i:Nat,xs[i]?=some x/\i<len:=by
       intro x C;obtain⟨i,u⟩:=E8.1 C;grind
      refine⟨_,Ab (t:= .slice ty) (x:=xs) (.slice ty xs (by omega) (by rw[ai];unfold aJ.bytes;rw[<-ad];exact K) ?_) ?_⟩
      . intro x C c F;obtain⟨i,u,_⟩:=aj x C;obtain⟨z,_,_,E⟩:=ak i x u;exact E.wf c F
      . have K:(xs.map (ty.enc U)).length=len:=(by simp[ai]);show cd w (Old w) (.slice (xs.map (ty.enc U))) (.slice (some g) len cap);rw[<-K];refine .slice (xs.map (ty.enc U)) (some g) cap (P.cellsOf e) g.block g.off (λi j=>(w.cell? ⟨g.block,g.off+i*P.cellsOf e+j,none⟩).getD default) (by omega) ?_ ?_ ?_ ?_ ?_
        . rw[K];unfold reachBytes at R;unfold eE;omega
        . intro r S;obtain⟨x,C,rfl⟩:=eK.1 S;obtain⟨i,_,u⟩:=aj x C;rw[aJ.si];exact(ab (by omega)).1.symm
        . intro M;have au:len≠0:=by intro h0;apply M;rw[<-List.length_eq_zero_iff];omega
          have:=aa au;rw[show g=⟨g.block,g.off,g.spot⟩from rfl,this]
        . intro i j u X;rw[K]at u;obtain⟨Q,z,h1,A,E⟩:=dG i u;have y:=A j X;rw[eF (by omega)]at y;have Z:=aa (by omega);have aK:(g.add (i*P.cellsOf e)).add j=⟨g.block,g.off+i*P.cellsOf e+j,none⟩:=Nf Z;rw[aK]at y;exact⟨(JG y).2,by rw[y];rfl⟩
        . intro i j r aF S ag;rw[n',bc]at S;obtain⟨x,C,rfl⟩:=S;obtain⟨z,h1,A,E⟩:=ak i x C;have u:i<len:=by have:=(c7.1 C).1;omega
          rw[aJ.uH,n',bc]at ag;obtain⟨c,F,rfl⟩:=ag;obtain⟨v,ah,aw⟩:=E.rt.get F;have X:j<P.cellsOf e:=by have:=(c7.1 ah).1;omega
          have y:=A j X;have Z:=aa (by omega);have aK:(g.add (i*P.cellsOf e)).add j=⟨g.block,g.off+i*P.cellsOf e+j,none⟩:=Nf Z;rw[aK,ah]at y;show cd w (Old w) _ ((w.cell? ⟨g.block,g.off+i*P.cellsOf e+j,none⟩).getD default);rw[y];exact aw
  . rename_i fs o;obtain⟨xs,al,L,rfl,ae,R,I⟩:=DataW.trod_struct o h;cases L
    have:=JF (U:=U) (w:=w) (P:=P) (cs:=cs) (fs:=fs.toList) (off:=0) (λf ar a G=>by
     obtain⟨i,u⟩:=E8.1 ar;have W:fs[i]?=some f:=(by simpa using u);have ao:=I i f W;have af:i<xs.length:=by rw[R];exact(yq.1 W).1
     rw[eF af]at ao
     exact ih n f.type _ _ a ao G (λk Y=>N k (by
      simp only[DataW.weights,o]
      exact DataW.weights_mem_each (j:=i) (t:=f.type) (d:=xs[i].1) (by simp[W]) (by simp[af]) k Y))) p ae
    simpa using this
  . rename_i k e o;split at p
    . cases p
    . rename_i a G;split at p
      . cases p
      . rename_i V;cases p;simp only[cc]at V;have h1:=cV V.1;have A:=cV V.2;obtain⟨xs,al,L,rfl,ae,R,I⟩:=DataW.trod_array o h;cases L
        have:=N4 (U:=U) (w:=w) (a:=a) (cs:=cs) k 0 (λi u=>by
         have ao:=I i u;rw[eF (by omega)]at ao
         obtain⟨l,ae⟩:=ih n e _ _ a ao G (λq av=>N q (by
          simp only[DataW.weights,o]
          exact GI (eK.2 ⟨xs[i],Fh _,rfl⟩) q av))
         rw[A]at ae
         exact⟨l,by rw[gb];exact ae⟩) (by rw[ae,h1,gb])
        simpa using this
  . cases p
end
end
section
open Go Go.ChangeShapes Go.WideShapes Go.RowKit
variable {U:cK}
def isAgg(P:Program)(t:TypeId):Bool:=
 match P.underlying t with
 |some (.struct _)=>true
 |some (.array _ _)=>true
 |_=>false
def l6(P:Program)(U:cK)(st:TypeId->Option Nat):List TypeId->List e1->List aJ->Bool
 |[],[],[]=>true
 |t::ts,.row m::a,.nm b::de=>(Nat.beq m b&&(isAgg P t&&zm P U st t (U.de m)))&&l6 P U st ts a de
 |t::ts,.c (.hole ty)::a,d::de=>(aJ.beq ty d&&(!ty.xz&&(!isAgg P t&&zm P U st t [ty])))&&l6 P U st ts a de
 |_,_,_=>false
variable{st:TypeId->Option Nat}{t:TypeId}{v:Value}{b0 N f:Nat}{D:Nat->Type}{gC:List e1}{ts:List aJ}{c:List MemPlace}
section
variable {H:Type}{enc:TypeId×Value->H}{P:Program}{w:World}{φ:dE}
theorem SO:∀{d:List TypeId} {b:List e1} {de:List aJ},l6 P U st d b de=true->d.length=de.length
 |[],[],[],_=>rfl
 |[],[],_::_,h=>by cases h
 |[],_::_,_,h=>by cases h
 |_::_,[],_,h=>by cases h
 |_::_,a::_,[],h=>by
  cases a with
  |c x=>cases x<;>cases h
  |_=>cases h
 |t::ts,a::b,ty::de,h=>by
  have:l6 P U st ts b de=true:=by
   cases a with
   |row m=>cases ty with
    |nm e=>simp only[l6,cc]at h;exact h.2
    |_=>cases h
   |c x=>cases x with
    |hole ty=>simp only[l6,cc]at h;exact h.2
    |_=>cases h
   |_=>cases h
  simp[SO this]
theorem YV{r:Reach}(hs:isAgg P t=true)(h:Value.okWide P w r b0 t v):∃cs,v= .agg cs:=by
 unfold isAgg at hs;unfold Value.okWide at h;grind
theorem YW{r:Reach}(hs:isAgg P t=false)(h:Value.okWide P w r b0 t v):v.cells=#[v]:=by
 unfold isAgg at hs;unfold Value.okWide at h;have a:Cell.okWide P w r b0 t v:=by grind
 cases v with
 |agg cs=>
  unfold Cell.okWide at a;split at a<;>first|(rename_i e;cases e)|(rename_i e _;cases e)|skip
  unfold Cell.ok at a;grind
 |_=>rfl
theorem Kc{S:dT}:∀{l:List (Cell U.D)} {vs:List Value},a8 (λc v=>cd w S (Cell.enc U c) v) l vs->a8 (bk φ w S) ((l.map bj.t).map bj.oH) vs
 |[],[],.nil=>.nil
 |c::l,v::vs,.cons h1 a=>.cons h1 (Kc a)
theorem JI(i:U.Total)(φ:dE){st:TypeId->Option Nat}(F:r3 P U st){b0:Nat}:∀(ts:List TypeId) (e:List e1) (de:List aJ) (args:List Value) (ds:List (DataW H)) (ps:List MemPlace),
 l6 P U st ts e de=true->(∀(j:Nat) t v,ts[j]?=some t->args[j]?=some v->Value.okWide P w .any b0 t v)->
 DataW.TrodAll enc P w 0 (λ_=>true) true ts args ds ps->(∀k,k∈DataW.weightsEach P ts ds->k<=reachBytes)->
 ∃(l:eL U) (xs:List (bz U)),l.map Cell.ty=de/\(∀c,c∈l->∀d,d∈c.ty.row U c.val->WF U d)/\kO e l=(xs,[])/\(∀x,x∈xs->fC x=true)/\a8 (ck φ w (Old w)) (xs.map e6) args
 |[],[],[],args,ds,ps,_,_,ht,_=>by
  obtain⟨rfl,rfl,rfl⟩:=trodAll_nil ht;exact⟨[],[],rfl,by simp,rfl,by simp,.nil⟩
 |t::ts,R::e,ty::de,args,ds,ps,a,J,ht,L=>by
  obtain⟨v,vs,d,S,p,q,rfl,rfl,rfl,⟨G,h1⟩,T⟩:=trodAll_cons ht;have K:=J 0 t v rfl rfl;have M:∀k,k∈d.weights P t->k<=reachBytes:=λk u=>L k (by simp only[DataW.weightsEach,ga];exact .inl u);have Q:∀(I:l6 P U st ts e de=true),_:=λI=>JI i φ (st:=st) F (b0:=b0) ts e de vs S q I (λj t v W aa=>J (j+1) t v (by simpa using W) (by simpa using aa)) T
   (λk u=>L k (by simp only[DataW.weightsEach,ga];exact .inr u))
  unfold l6 at a;split at a
  . grind
  . rename_i t0 ad m ab ah af aK o dn;cases aK;cases o;cases dn;simp only[cc]at a;obtain⟨⟨C,hs,s⟩,E⟩:=a;have D:=cV C;subst D;obtain⟨l,xs,z,X,A,Y,B⟩:=Q E;obtain⟨cs,rfl⟩:=YV hs K;obtain⟨O,b⟩:=JH i F G 60 t _ _ _ h1 (GC s) M;obtain⟨x,N⟩:=Q4 i (t:= .nm m) b.ty;refine⟨⟨.nm m,x⟩::l,.agg ((aJ.row U (.nm m) x).map .t)::xs,by simp[z],?_,?_,?_,?_⟩
    . intro c f;rcases fe.1 f with rfl|f
      . intro d r;exact b.wf d (N▸r)
      grind
    . simp only[kO,kN,A]
    . intro y g;rcases fe.1 g with rfl|g
      . simp[fC,bj.oj]
      grind
    . refine .cons ?_ B;have:=Kc (φ:=φ) b.rt;rw[<-N]at this;exact ck.agg (vs:=cs.toList) this
  . rename_i t0 ad ae ab ai af aK o dn;cases aK;cases o;cases dn;simp only[cc,p7]at a;obtain⟨⟨C,aD,hs,s⟩,E⟩:=a;have D:=aJ.beq_eq C;subst D;obtain⟨l,xs,z,X,A,Y,B⟩:=Q E;rw[YW hs K]at h1;obtain⟨O,b⟩:=JH i F G 60 t _ _ _ h1 (GC s) M
    match O,b with
    |[],b=>cases b.ty
    |[⟨n,x⟩],b=>
     have Z:n=ae:=by have:=b.ty;simpa using this
     subst Z;refine⟨⟨n,x⟩::l,.c (.t ⟨n,x⟩)::xs,by simp[z],?_,?_,?_,?_⟩
     . intro c f;rcases fe.1 f with rfl|f
       . intro d r;refine b.wf d ?_;cases n<;>first|exact r|cases aD
       grind
     . simp only[kO,kN,qo,A]
     . intro y g;rcases fe.1 g with rfl|g
       . rfl
       grind
     . refine .cons ?_ B;cases b.rt with
       |cons V ag=>exact .c V
    |_::_::_,b=>have:=b.ty;simp at this
  . cases a
 |[],[],_::_,_,_,_,a,_,_,_=>by cases a
 |[],_::_,_,_,_,_,a,_,_,_=>by cases a
 |_::_,[],_,_,_,_,a,_,_,_=>by cases a
 |t::ts,R::e,[],_,_,_,a,_,_,_=>by
  cases R with
  |row m=>cases a
  |c x=>cases x<;>cases a
  |agg l=>cases a
  |aY l=>cases a
theorem aL.Rc:∀(ts:List aJ) (l:eL U),l.map Cell.ty=ts->∃h:aL U.D ts,aL.cells U.D ts h=l
 |[],[],_=>⟨(),rfl⟩
 |[t],[⟨a,x⟩],h=>by
  have:a=t:=by simpa using h
  subst this;exact⟨x,rfl⟩
 |t::u::r,⟨a,x⟩::l,h=>by
  simp only[gB,yi]at h;obtain⟨h1,c⟩:=h;subst h1;obtain⟨y,e⟩:=aL.Rc (u::r) l (by simpa using c);exact⟨(x,y),by show⟨a,x⟩::aL.cells U.D (u::r) y=_;rw[e]⟩
 |[],_::_,h=>by simp at h
 |_::_,[],h=>by simp at h
 |[_],_::_::_,h=>by simp at h
theorem e5.A3:∀{ts:List aJ} {t:aJ} (h:e5 D t ts),e5.dec D t ts (e5.cells D t ts h)=some h
 |[],t,x=>Cell.Pa
 |u::r,t,x=>by
  unfold e5.dec e5.cells;simp only[uL,Cell.Pa];rw[e5.A3];rfl
theorem aL.A3:∀{ts:List aJ} (h:aL D ts),aL.dec D ts (aL.cells D ts h)=some h
 |[],_=>rfl
 |_::_,h=>e5.A3 h
theorem aL.gP:∀{ts:List aJ} {l:List (Cell D)},l.map Cell.ty=ts->∃h,aL.dec D ts l=some h:=by
 have go:∀(ts:List aJ) (l:List (Cell D)),l.map Cell.ty=ts->∃h:aL D ts,aL.cells D ts h=l:=by
  intro ts;induction ts with
  |nil=>intro l h;cases l with
   |nil=>exact⟨(),rfl⟩
   |cons=>cases h
  |cons t r ih=>
   intro l h;cases l with
   |nil=>cases h
   |cons c l=>
    obtain⟨f,x⟩:=c;simp only[gB,yi]at h;obtain⟨h1,e⟩:=h;subst h1;obtain⟨y,a⟩:=ih l e;cases r with
    |nil=>
     cases l with
     |nil=>exact⟨x,rfl⟩
     |cons=>cases e
    |cons u r=>exact⟨(x,y),by show⟨f,x⟩::aL.cells D (u::r) y=_;rw[a]⟩
 intro ts l h;obtain⟨y,a⟩:=go ts l h;exact⟨y,by rw[<-a];exact aL.A3 y⟩
def Ok(U:cK)(ts:List aJ)(h:aL U.D ts):Prop:=∀c,c∈aL.cells U.D ts h->∀d,d∈c.ty.row U c.val->WF U d
theorem acV:cx N ([]:bf U) []:=λb x h=>by cases h
theorem Ng{J:bf U}:∀{xs:List (bz U)},(∀x,x∈xs->fC x=true)->a8 (ca N J) xs (xs.map e6)
 |[],_=>.nil
 |x::xs,h=>.cons (vC (h x (by simp))).1 (Ng λy a=>h y (by simp[a]))
theorem L5{k:Nat->Bool}:∀{xs:List (bz U)},(∀x,x∈xs->fC x=true)->V.az.V.dF k (xs.map e6)=true
 |[],_=>rfl
 |x::xs,h=>by
  simp only[gB,V.az.V.dF,cc];exact⟨(vC (N:=0) (J:=[]) (h x (by simp))).2 k,L5 λy a=>h y (by simp[a])⟩
variable{F:aL U.D ts->Option (aL U.D [.bool])}
theorem af2(Q:U.Total)(hs:hX P ⟨f,gC,[],ts,.c (.hole .bool),[],[.bool],F⟩)
 (O:∀h:aL U.D ts,Ok U ts h->F h=some true){st:TypeId->Option Nat}(K:r3 P U st){i:List TypeId}(E:l6 P U st i gC ts=true)
 {b0:Nat}{args:Array Value}{ds:List (DataW H)}{ps:List MemPlace}(L:∀(j:Nat) t v,i[j]?=some t->args[j]?=some v->Value.okWide P w .any b0 t v)
 (ht:DataW.TrodAll enc P w 0 (λ_=>true) true i args.toList ds ps)(N:∀k,k∈DataW.weightsEach P i ds->k<=reachBytes):
 Calls P f args w λe w'=>e= .returned (.bool true)/\Below w.heap.size w w':=by
 obtain⟨l,xs,z,A,B,n,C⟩:=JI Q (λb=>(b,0)) K i gC ts args.toList ds ps E (λj t v s M=>L j t v s (by simpa using M)) ht N;obtain⟨h,aa⟩:=aL.Rc ts l z;have bD:=O h (λc m d q=>A c (aa▸m) d q)
 have p:=hs h true bD (xs.map e6) [] (by
  show a8 (ca 0 _) (kO gC (aL.cells U.D ts h)).1 _;rw[aa,B];exact Ng n) (by
  show cx 0 (gx 0 [] _) []
  exact acV)
 have:=p (λb=>(b,0)) (Old w) w (λ_=>False) {blk:=λb x a=>(by cases a),inj:=λb R x y a=>(by cases a),st:=λb j o=>o} (λb x a=>by cases a) (λb x a=>by cases a)
  (L5 n) args.toList C
 rw[Array.toArray_toList]at this;refine this.mono λe w' ⟨v,r,S,bQ,J',N',he,⟨_,G,_⟩,J,_,_,_,g,_⟩=>?_;cases G with
 |c m=>
  cases m with
  |t c=>
   cases J with
   |c I=>
    cases I;exact⟨he,g.os,g.tape,g.output,g.size,λk u=>g.block k u (λh=>h)⟩
theorem YX{f:Func}{s:ChangeSpec}{o zM n:Bool}{W e:World}{args:Array Value}{ds gs:List (DataW H)}
 (dk:DataW.Whole enc P f.params.toList s.vars false W args.toList ds gs c)(k:Below W.heap.size W e)
 (hres:∀(b:Nat) (d:Nat->Bool) (q:Bool),DataW.TrodAll enc P e b d q f.resultTypes.toList (v.resultList f.resultTypes.size) (s.fn H (ds++gs)).results [])
 (i:∀d:Nat->Bool,(∀p∈c,d p.block=true)->DataW.TrodAll enc P e 0 d true f.params.toList args.toList (s.fn H (ds++gs)).args c)
 (m:∀d:Nat->Bool,(∀p∈c,d p.block=true)->DataW.TrodVars enc P e d s.vars (s.fn H (ds++gs)).vars [])
 (u:∀(j:Nat) (t:TypeId) (r:Value),f.resultTypes[j]?=some t->(v.resultList f.resultTypes.size)[j]?=some r->Value.okWide P e .any 0 t r):
 s.post enc P f false o zM n W args v e:=by
 have ay:=dk.lt;have l:∀p∈c,(λb=>decide (b<W.heap.size)) p.block=true:=λp g=>by simpa using ay p g
 refine⟨ds,gs,c,[],c,[],dk,hres _ _ _,i _ l,m _ l,k.frame _,λ_=>?_⟩;refine⟨u,(s.fn H (ds++gs)).results++(s.fn H (ds++gs)).args,(s.fn H (ds++gs)).vars,c,⟨c,[],?_,m _ (λ_ _=>rfl),by simp,?_,λh=>by cases h⟩,λp g _=>g⟩
 . have:=trodAll_append (i (λ_=>true) (λ_ _=>rfl)) (hres 0 (λ_=>true) true);simpa using this
 . intro b off g;obtain⟨_,_,_,_,_,x,_⟩:=dk;rw[World.frozen?_of_block (w:=W) (a:=⟨b,off,none⟩) (k.block b (ay _ g))];exact x b off g
theorem af3{fn:Func}{s:ChangeSpec}(aj:U.Total)
 (hs:hX P ⟨f,gC,[],ts,.c (.hole .bool),[],[.bool],F⟩)
 (ai:∀h:aL U.D ts,Ok U ts h->F h=some true){st:TypeId->Option Nat}(ae:r3 P U st)(E:l6 P U st fn.params.toList gC ts=true)
 {J:TypeId}(hres:fn.resultTypes=#[J])(htb:P.underlying J=some .bool)(A:s.vars=[])
 (Q:∀ds:List (DataW H),ds.length=ts.length->(s.fn H ds).results=[.lit (.bool true)]/\(s.fn H ds).args=ds/\(s.fn H ds).vars=[])
 (y:(laidOutB P&&mapsRowed P)=true)(X:fn.params.toList.all (λt=>decide (t<P.types.size))=true)
 (ad:((List.range P.types.size).all λt=>match P.underlying t with|some (.slice e)=>decide (0<P.cellsOf e)|_=>true)=true)
 {W:World}{base:Nat}{args:Array Value}{ds gs:List (DataW H)}{M:List MemPlace}{N zM L:Bool}
 (I:∀(j:Nat) t v,fn.params[j]?=some t->args[j]?=some v->Value.okWide P W .any base t v)
 (dk:DataW.Whole enc P fn.params.toList s.vars false W args.toList ds gs M)
 (w:(DataW.weightsEach P (fn.params.toList++s.plain.varTypes P) (ds++gs)).all (· <=reachBytes)=true):
 Calls P f args W λe m=>∃v,e= .returned v/\s.post enc P fn false N zM L W args v m:=by
 have u:=dk;obtain⟨p,q,o,gR,rfl,R,bS⟩:=dk;rw[A]at gR;obtain⟨rfl,rfl⟩:=trodVars_none gR;have ah:s.plain.varTypes P=[]:=by show s.vars.filterMap _=[]<;>simp[A]
 rw[ah,l3,l3,c0]at w;have C:ds.length=ts.length:=by
  have h1:∀{g:List TypeId} {vs:List Value} {ds:List (DataW H)} {ps:List MemPlace},DataW.TrodAll enc P W 0 (λ_=>true) true g vs ds ps->ds.length=g.length:=by
   intro g;induction g with
   |nil=>intro vs ds ps h;obtain⟨_,rfl,_⟩:=trodAll_nil h;rfl
   |cons t r ih=>intro vs ds ps h;obtain⟨_,_,_,_,_,_,_,rfl,_,_,n⟩:=trodAll_cons h;simp[ih n]
  rw[h1 o,SO E]
 obtain⟨Y,Z,ab⟩:=Q ds C;simp only[cc]at y;have K:=kids_rows y.1 y.2;have af:=slices_full_of P ad;refine(af2 aj hs ai ae E (λj t v S ag=>I j t v (by simpa using S) ag) o (λk V=>by simpa using w k V)).mono λe m ⟨he,B⟩=>?_;subst he;refine⟨_,rfl,YX u B ?_ ?_ ?_ ?_⟩
 . intro b l al;rw[l3,Y,hres];exact trodAll_cons_mk (shut_bool htb _) trodAll_mk0
 . intro l G;rw[l3,Z];have ay:=u.lt;clear u R bS w I C;have c':∀t,t∈fn.params.toList->t<P.types.size:=λt ht=>by simpa using c0.1 X t ht
   have go:∀ {g:List TypeId} {vs:List Value} {ds:List (DataW H)} {ps:List MemPlace},(∀ t,t∈g->t<P.types.size)->(∀ p∈ps,p.block<W.heap.size/\l p.block = true)->
    DataW.TrodAll enc P W 0 (λ_=>true) true g vs ds ps->DataW.TrodAll enc P m 0 l true g vs ds ps:=by
    intro g;induction g with
    |nil=>intro vs ds ps _ _ h;obtain⟨rfl,rfl,rfl⟩:=trodAll_nil h;exact trodAll_mk0
    |cons t r ih=>
     intro vs ds ps c' z h;obtain⟨v,am,d,ak,a,b,rfl,rfl,rfl,⟨O,h1⟩,n⟩:=trodAll_cons h;refine⟨a,b,⟨O,DataW.trod_stays (T:=(· < P.types.size)) K (λ{t e}=>af t e) (by intro aa;cases aa) (c' t (by simp)) h1 (λx i=>B.same (z x (by simp[i])).1) (λx i=>(z x (by simp[i])).2)⟩,ih (λt ht=>c' t (by simp[ht])) (λx i=>z x (by simp[i])) n,rfl⟩
   rw[l3];exact go c' (λx i=>⟨ay x (by simp[i]),G x (by simp[i])⟩) o
 . intro l G;rw[l3,ab,A];exact rfl
 . exact ok_one hres rfl (okWide_bool_mk htb _)
end
end
section
open Go
theorem kb{a b:Int}(h1: -9223372036854775808<=a+b:=by omega)(c:a+b<=9223372036854775807:=by omega):aM .i64 a b=a+b:=by unfold aM;rw[IntKind.wrap_i64];omega
theorem hj{a b:Int}(h1: -9223372036854775808<=a-b:=by omega)(c:a-b<=9223372036854775807:=by omega):dh .i64 a b=a-b:=by unfold dh;rw[IntKind.wrap_i64];omega
theorem jD{a:Int}(h1: -9223372036854775808<=a:=by omega)(b:a<=9223372036854775807:=by omega):bV .i64 a=a:=by unfold bV;rw[IntKind.wrap_i64];omega
theorem aN{k n:Nat}(h:k<n):aH (k:Int) n=true:=by unfold aH;simp[h]
theorem a'(k:Nat):(k:Int).toNat=k:=oa k
theorem kU{a:Int}(h0:0<=a:=by omega)(h1:a<18446744073709551616:=by omega):IntKind.u64.wrap a=a:=by rw[IntKind.wrap_u64];omega
variable{a:Nat}{α:Type}
theorem hy(h1:a<18446744073709551616:=by omega):bV .u64 (a:Int)=a:=kU
theorem wK:(2:Nat)^64=18446744073709551616:=by decide
theorem Nh{b:Nat}(c:a<18446744073709551616)(d:b<18446744073709551616):rJ .u64 (a:Int) (b:Int)=((a ||| b:Nat):Int):=by
 have f:a ||| b<2^64:=Nat.or_lt_two_pow (by rw[wK];exact c) (by rw[wK];exact d);have e:(BitVec.ofInt 64 (a:Int) ||| BitVec.ofInt 64 (b:Int)).toNat=a ||| b:=by grind
 show IntKind.u64.wrap (((BitVec.ofInt 64 (a:Int) ||| BitVec.ofInt 64 (b:Int)).toNat:Nat):Int)=_;rw[e];rw[wK]at f;exact kU
theorem N5{n c i:Nat}(h:n<2^i):n ||| (c*2^i)=n+c*2^i:=by rw[Nat.or_comm,wu,<-Nat.two_pow_add_eq_or_of_lt h,yl]
theorem abw{b:Nat}(a:b<256):AX .u8 (b:Int) 127=((b%128:Nat):Int):=by
 have e:(BitVec.ofInt 8 (b:Int) &&& BitVec.ofInt 8 (127:Nat)).toNat=b%128:=by
  rw[wx,wx,BitVec.toNat_and,wi,wi,oc (by omega)];exact Nat.and_two_pow_sub_one_eq_mod b 7
 show IntKind.u8.wrap (((BitVec.ofInt 8 (b:Int) &&& BitVec.ofInt 8 (127:Nat)).toNat:Nat):Int)=_;rw[e,IntKind.wrap_u8];omega
theorem L6{k:Nat}(b:k<=64)(h:a*2^k<18446744073709551616):mR .u64 (a:Int) (k:Int)=((a*2^k:Nat):Int):=by
 unfold mR;have:min ((k:Int).toNat) IntKind.u64.bits=k:=by simp[IntKind.bits];omega
 rw[this];have e:(a:Int)*2^k=((a*2^k:Nat):Int):=by push_cast;rfl
 rw[e];exact kU
theorem tY(h:a<18446744073709551616):fw .u64 (a:Int) 2=((a/2:Nat):Int):=by
 unfold fw;have e:(a:Int).tdiv 2=((a/2:Nat):Int):=by rw[yr (by omega)];omega
 rw[e];exact kU
theorem Aj{b:Nat}:b' (a:Int) (b:Int)=((a%b:Nat):Int):=by rfl
theorem tO{b:Nat}(h:a*b<18446744073709551616):gy .u64 (a:Int) (b:Int)=((a*b:Nat):Int):=by
 unfold gy;have e:(a:Int)*b=((a*b:Nat):Int):=by push_cast;rfl
 rw[e];exact kU
theorem N6{a b:Int}(h1: -9223372036854775808<=a*b)(c:a*b<=9223372036854775807):gy .i64 a b=a*b:=by unfold gy;rw[IntKind.wrap_i64];omega
theorem r5{b:Nat}(h:a+b<18446744073709551616):aM .u64 (a:Int) (b:Int)=((a+b:Nat):Int):=by
 unfold aM;have e:(a:Int)+b=((a+b:Nat):Int):=by push_cast;rfl
 rw[e];exact kU
theorem vG{b:Nat}(h:a+b<=9223372036854775807):aM .i64 (a:Int) (b:Int)=((a+b:Nat):Int):=by rw[kb];norm_cast
theorem bC(h:a<9223372036854775807:=by omega):aM .i64 (a:Int) 1=((a+1:Nat):Int):=by rw[kb];norm_cast
theorem qV(s:aj)(i:Nat):fr s (i:Int)=((s.getD i 0).toNat:Int):=by simp[fr]
theorem yW(s:aj)(i:Nat):(s.getD i 0).toNat<256:=UInt8.toNat_lt _
theorem nD(l:List α)(k:Nat):d' l (k:Int) (l.length:Int)=l.drop k:=by simp[d']
theorem s7(l:List α)(k:Nat):d' l 0 (k:Int)=l.take k:=by simp[d']
theorem jL{b n:Nat}(h1:a<=b)(c:b<=n):dU (a:Int) (b:Int) n=true:=by unfold dU;simp;omega
theorem Ip(a b:Nat):jg (a:Int) (b:Int)=((min a b:Nat):Int):=by unfold jg;omega
theorem cL{k n:Nat}(a:k<=1000:=by omega)(h:n<=100000:=by simp;omega):room k n=true:=by
 unfold room j' eE;simp only[cc,dq];refine⟨?_,by omega⟩;have:(2*n+192)*k<=200192*1000:=Nat.mul_le_mul (by omega) a;omega
end
section
open Go Go.Proofs Go.Proofs.YtdjagncoefjfeaaGreat Go.Sort Go.RowKit
variable {P:Program}{α:Type}[Inhabited α]
theorem Uw(w:World)(blk:Nat)(f:Array Value->Array Value){b:Nat}(h:b≠blk):(mapBlock w blk f).heap[b]?=w.heap[b]?:=by simp[mapBlock,BC,dL h]
theorem Vl(w:World)(blk:Nat)(f:Array Value->Array Value){c:Array Value}{E:TypeId}{a:Nat×Nat}(h:w.heap[blk]?=some (.cells c E a)):(mapBlock w blk f).heap[blk]?=some (.cells (f c) E a):=by
 simp[mapBlock,BC,h,onCells]
theorem abx{g k:Nat}(enc:α->List Value)(m:α->List T)(F:Array α->Array α)(aS:∀x,(enc x).length=k)(M:∀x,(m x).length=k)(K:0<k)
 (aP:∀(w:World) (S:dT) (x:α) (j:Nat) (t:T) (v:Value),(m x)[j]?=some t->cd w S t v->(enc x)[j]?=some v)
 (bD:∀d:Array α,(F d).size=d.size/\∀x,x∈(F d).toList->x∈d.toList)
 (au:∀(blk off cap:Nat) (d:Array α) (w:World),HoldsK enc k w blk off d->blk<w.heap.size->d.size<4611686018427387904->
  Calls P f #[.slice (some ⟨blk,off,none⟩) d.size cap,.func (.func g) #[] #[]] w λe w'=>e= .returned (.tuple #[])/\∃n os,w'=sortWorldK enc k w blk off n (F d) os)
 (aL:∀(p:Option Addr) (cap:Nat) (al:Value) (w:World),Calls P f #[.slice p 0 cap,al] w λe w'=>e= .returned (.tuple #[])/\w'=w)
 {J:a7}{d:List α}(h0:aV J 0=some (.arr k (d.map m)))(aC:0<kk):
 ec P f [.c (.arr 0 k 0 d.length),.c (.fn g [])] J kk (λr J' N'=>r= .aY []/\J'=dd J 0 (.arr k ((F d.toArray).toList.map m))/\N'=kk):=by
 intro φ S w B q aM O aQ vs I;cases I with|cons z I=>
 cases I with|cons Q I=>
 cases I;cases z with|c z=>
 cases Q with|c Q=>
 obtain⟨a,rfl,an,aT⟩:=z;have aN:_=Value.func (.func g) #[] #[]:=Q;subst aN;obtain⟨ae,af,aU,_,aq⟩:=q.blk 0 _ h0;rw[gA]at ae af;obtain⟨aj,aH⟩:=bD d.toArray;have Z:∀ w':World,Ext B S S w w'->qj φ w' S (dd J 0 (.arr k ((F d.toArray).toList.map m)))->∃ v r D bQ J' N',Ending.returned (Value.tuple #[]) = Ending.returned v/\(r = V.aY []/\J' = dd J 0 (.arr k ((F d.toArray).toList.map m))/\N' = kk)/\ck D w' bQ r v/\r.az (lt N') = true/\qj D w' bQ J'/\(∀ (b:Nat) x,aV J' b = some x->b<N'/\x.az (lt N') = true)/\Ext B S bQ w w'/\
  (∀(b:Nat) x,aV J' b=some x->(D b).2≠0->B (D b).1\/w.heap.size<=(D b).1)/\∀b,b<kk->D b=φ b:=by
  intro w' dG aE;refine⟨_,.aY [],φ,S,_,kk,rfl,⟨rfl,rfl,rfl⟩,.aY [] [] rfl (by simp),rfl,aE,λb x l=>?_,dG,λb x l o=>?_,λ_ _=>rfl⟩
  . rw[cX]at l;split at l
    . rename_i o;cases l;subst o;exact⟨aC,rfl⟩
    . exact aM b x l
  . rw[cX]at l;split at l
    . rename_i ao;subst ao;exact .inl (O _ _ h0 o)
    . exact .inl (O b x l o)
 by_cases L:(φ 0).2=0
 ·
  have av:d=[]:=jS (by omega);subst av;refine(aL a _ _ w).mono ?_
  rintro e w' ⟨rfl,rfl⟩
  have he:(F ([]:List α).toArray).toList.map m=([]:List α).map m:=by grind
  refine Z _ Ext.refl ?_;rw[he];refine⟨λb x l=>?_,λb G x y l W=>?_,q.st⟩
  . rw[cX]at l;split at l
    . rename_i o;cases l;subst o;exact q.blk _ _ h0
    . exact q.blk b x l
  . have key:∀b x,aV (dd J 0 (.arr k (([]:List α).map m))) b=some x->∃A,aV J b=some A:=by
     intro b x l;rw[cX]at l;grind
    obtain⟨A,R⟩:=key b x l;obtain⟨Y,X⟩:=key G y W;exact q.inj b G A Y R X
 . obtain⟨vs,E,aa,ak,ar,ag⟩:=aq L;rw[an L];have ai:∀(i j:Nat) (t:T) (x:α),d[i]?=some x->(m x)[j]?=some t->∃v,vs[i*k+j]?=some v/\cd w S t v/\(enc x)[j]?=some v:=by
    intro i j t x s u;obtain⟨v,z,ah⟩:=ar i j (m x) t (by rw[n',s];rfl) u;grind
   have ab:(φ 0).1<w.heap.size:=(by grind);have am:HoldsK enc k w (φ 0).1 (0*k) d.toArray:=by
    intro j u;rw[size_flatK]at u;have aA:j<d.length*k:=(by simpa using u);have s:j/k<d.length:=(Nat.div_lt_iff_lt_mul K).2 aA;have H:j%k<k:=yp _ K;have l:d[j/k]?=some d[j/k]:=eF s;have aG:j%k<(m d[j/k]).length:=by rw[M];exact H
    obtain⟨v,z,_,he⟩:=ai (j/k) (j%k) _ _ l (eF aG);have aB:j/k*k+j%k=j:=by rw[wu];exact Nat.div_add_mod j k
    rw[aB]at z;refine⟨?_,by simp[World.frozen?,aa]⟩;rw[ym,gb,jw aa,z,get_flatK _ _ _ _ u];grind
   have aD:d.toArray.size<4611686018427387904:=by
    have:eE=281474976710656:=rfl;simp;omega
   refine(au (φ 0).1 (0*k) _ d.toArray w am ab aD).mono ?_
   rintro e w' ⟨rfl,n,os,rfl⟩
   have N:∀b:Nat,b<w.heap.size->b≠(φ 0).1->(sortWorldK enc k w (φ 0).1 (0*k) n (F d.toArray) os).heap[b]?=w.heap[b]?:=by
    intro b o aI;unfold sortWorldK putRowK putRow;rw[heap_grow_old _ _ (by simpa[mapBlock,Go.Sort.ahead]using o),Uw _ _ _ aI];rfl
   have aJ:(sortWorldK enc k w (φ 0).1 (0*k) n (F d.toArray) os).heap[(φ 0).1]?=some (.cells (putCells id (0*k) (flatK enc k (F d.toArray)) vs.toArray).toList.toArray E (0,0)):=by
    unfold sortWorldK putRowK putRow;rw[heap_grow_old _ _ (by simpa[mapBlock,Go.Sort.ahead]using ab),Vl (Go.Sort.ahead w n) _ _ (by exact aa)]
   have H:gu w S (sortWorldK enc k w (φ 0).1 (0*k) n (F d.toArray) os) S:=⟨λ_ _ h=>h,λb j h=>qP (N b (q.st b j h) (λe=>ag j (e▸h))) j⟩
   refine Z _ ⟨rfl,rfl,rfl,?_,λb o dp=>N b o (λe=>dp (e▸O 0 _ h0 L)),H,λ_ _ h=>.inl h⟩ ⟨λb x l=>?_,λb G x y l W=>?_,λb j h=>?_⟩
   . unfold sortWorldK putRowK putRow;simp[grow,mapBlock,Go.Sort.ahead]
   . rw[cX]at l;split at l
     . rename_i o;cases l;subst o;refine⟨by simpa[aj]using ae,by simpa[aj]using af,λe he=>?_,K,λ_=>⟨_,E,aJ,by simpa[putCells]using ak,λi j e t s u=>?_,ag⟩⟩
       . obtain⟨x,_,rfl⟩:=eK.1 he;exact M x
       . rw[n']at s;cases U:(F d.toArray).toList[i]? with
         |none=>rw[U]at s;cases s
         |some x=>
          rw[U]at s;have:e=m x:=(kR s).symm;subst this;have l:x∈d:=(by simpa using aH x (eJ U));obtain⟨aO,ax,aw⟩:=eS l;obtain⟨v,z,ah,he⟩:=ai aO j t x (by rw[eF ax,aw]) u;refine⟨v,?_,cd.mono H ah⟩;have aR:j<k:=by rw[<-M x];exact(c7.1 u).1
          have az:i<(F d.toArray).size:=(by grind);have ay:i*k+j<(F d.toArray).size*k:=by
           have:=eY k (show i+1<=(F d.toArray).size from az);grind
          have aF:i*k+j<vs.length:=by
           rw[ak];refine lY ay (eY k ?_);grind
          have d1:(i*k+j)/k=i:=(blk_iff k i _ K).1 ⟨by omega,by omega⟩;have d2:(i*k+j)%k=j:=by rw[Nat.mod_eq_sub_div_mul,d1];omega
          have aK:(F d.toArray)[i]! =x:=(by grind);have:(putCells id (0*k) (flatK enc k (F d.toArray)) vs.toArray).toList[i*k+j]?=some ((flatK enc k (F d.toArray))[i*k+j]!):=by
           rw[E7];simp only[putCells,Array.getElem?_mapIdx];rw[show vs.toArray[i*k+j]?=some vs[i*k+j] by simp[aF]];simp[size_flatK,ay]
          rw[this,get_flatK _ _ _ _ ay,d1,d2,aK,List.getElem!_eq_getElem?_getD,he];rfl
     . rename_i o;have ap:b≠0:=λe=>o (by simp[e]);refine c3.mono (n:=λ_=>true) H (λ_ _=>rfl) rfl (by cases x<;>simp[bO.az,C.mi]) (λad=>N _ ((q.blk b x l).km ad) (q.inj b 0 x _ l h0 ap ad L)) (q.blk b x l)
   . have key:∀b x,aV (dd J 0 (.arr k ((F d.toArray).toList.map m))) b=some x->∃A,aV J b=some A:=by
      intro b x l;rw[cX]at l;grind
     obtain⟨A,R⟩:=key b x l;obtain⟨Y,X⟩:=key G y W;exact q.inj b G A Y R X
   . have:=q.st b j h;unfold sortWorldK putRowK putRow;simp[grow,mapBlock,Go.Sort.ahead];omega
def hQ(lt:α->α->Bool)(l:List α):List α:=(pdq lt l.toArray 0 l.length (Lib.bitLen l.length) true true).toList
theorem HE{lt:α->α->Bool}(b:SWO lt)(l:List α):(hQ lt l).Perm l:=by
 obtain⟨⟨hs,_,a⟩,_⟩:=pdq_sorts lt b l.toArray 0 l.length (Lib.bitLen l.length) true true (ic _) (by simp) (Or.inl rfl);have aK:∀d:Array α,d.size=l.length->d.extract 0 l.length=d:=λd h=>by rw[<-h];exact Array.extract_size
 rw[aK _ (by simpa using hs),aK _ (by simp)]at a;simpa[hQ]using a
theorem WX{lt:α->α->Bool}(a:SWO lt)(l:List α):(hQ lt l).length=l.length:=(HE a l).length_eq
theorem WY{lt:α->α->Bool}(a:SWO lt)(l:List α):(hQ lt l).Pairwise λx y=>lt y x=false:=by
 obtain⟨⟨hs,_,_⟩,aE⟩:=pdq_sorts lt a l.toArray 0 l.length (Lib.bitLen l.length) true true (ic _) (by simp) (Or.inl rfl);have f:(hQ lt l).length=l.length:=WX a l;rw[p4];intro i j g d c;have:=aE i j (ic _) c (by rw[<-f];exact d);have e:∀i (h:i<(hQ lt l).length),(pdq lt l.toArray 0 l.length (Lib.bitLen l.length) true true)[i]! =(hQ lt l)[i]:=by
  intro i h;have b:i<(pdq lt l.toArray 0 l.length (Lib.bitLen l.length) true true).size:=by simpa[hQ]using h
  rw[getElem!_pos _ i b];simp[hQ]
 grind
def FI(U:cK)(f n g:Nat)(F:List (U.D n)->List (U.D n)):cC U:=
 ⟨f,[.c (.arr 0),.c (.fn g [])],[.arr (.nm n)],[.slice (.nm n)],.aY [],[.arr (.nm n)],[.slice (.nm n)],λ(l:List (U.D n))=>some (F l)⟩
theorem aby{n g:Nat}[Inhabited (U.D n)](enc:U.D n->List Value)(lt:U.D n->U.D n->Bool)(E:SWO lt)(K:∀x,(enc x).length=(aJ.nm n).sz U)
 (F:∀(w:World) (S:dT) (x:U.D n) (j:Nat) (t:T) (v:Value),((aJ.nm n).enc U x)[j]?=some t->cd w S t v->(enc x)[j]?=some v)
 (I:∀(blk off cap:Nat) (d:Array (U.D n)) (w:World),HoldsK enc ((aJ.nm n).sz U) w blk off d->blk<w.heap.size->d.size<4611686018427387904->
  Calls P f #[.slice (some ⟨blk,off,none⟩) d.size cap,.func (.func g) #[] #[]] w λe w'=>e= .returned (.tuple #[])/\∃N os,w'=sortWorldK enc ((aJ.nm n).sz U) w blk off N (pdq lt d 0 d.size (Lib.bitLen d.size) true true) os)
 (L:∀(p:Option Addr) (cap:Nat) (z:Value) (w:World),Calls P f #[.slice p 0 cap,z] w λe w'=>e= .returned (.tuple #[])/\w'=w):
 hX P (FI U f n g (hQ lt)):=by
 intro(l:List (U.D n)) r bD Q J1 c aE;have M:r=hQ lt l:=(kR bD).symm;subst M;cases c with|cons c i=>
 cases i with|cons i G=>
 cases G;obtain⟨sz,m,rfl,_,J⟩:=ca.hb c;have:=ca.EN i;subst this;have u:Shv.aX ((FI U f n g (hQ lt)).iG l) 0=some (.arr (.nm n) l):=rfl;have o:=J _ u _ rfl;obtain⟨_,V,A,b0⟩:=aE 0 _ u;cases b0;have aK:sz=(aJ.nm n).sz U:=(dS Prod.fst o).symm;have y:m=l.length:=(dS Prod.snd o).symm;subst aK;subst y;have s:∀d:Array (U.D n),(hQ lt d.toList).Perm d.toList:=λd=>HE E d.toList
 refine(abx (α:=U.D n) (kk:=1) enc ((aJ.nm n).enc U) (λd:Array (U.D n)=>(hQ (α:=U.D n) lt d.toList).toArray) K (λx=>aJ.si) aJ.wI F
  (λd=>⟨by simpa using(s d).length_eq,λx a=>(s d).mem_iff.1 (by simpa using a)⟩) (λblk off cap d w h1 B C=>?_) L A Nat.one_pos).mono ?_
 . have:=I blk off cap d w h1 B C;simpa[hQ]using this
 . rintro R s1 O ⟨rfl,rfl,rfl⟩
   refine⟨rfl,.aY [] [] rfl (by simp),λb x a=>?_⟩;have dn:(hQ lt l.toArray.toList).toArray.toList=hQ lt l:=(by simp);simp only[dn];clear dn bD;generalize hQ lt l=q at a⊢;have k:(if b=0 then some (cP.arr (U:=U) (.nm n) q)else none)=some x:=by
    rw[<-a];cases b<;>rfl
   split at k
   . rename_i H;cases k;subst H;refine⟨Nat.one_pos,_,?_,.arr (U:=U) (.nm n) q⟩;rw[cX];simp;rfl
   . cases k
theorem YY(w:World)(S:dT)(i:Int)(s:aj)(j:Nat)(t:T)(v:Value)(h:[T.int .i64 i,T.str s][j]?=some t)(a:cd w S t v):[Value.int .i64 i,Value.string ⟨s.toArray⟩][j]?=some v:=by
 match j,h with
 |0,h=>cases h;cases a;rfl
 |1,h=>cases h;cases a;rfl
theorem abZ(key:α->Int):SWO (λx y=>decide (key x<key y)) where
 irrefl x:=by simp
 trans x y z h1 a:=by simp at*;omega
 ntrans x y z h1 a:=by simp at*;omega
end
section
open Go Go.Proofs Go.Proofs.YtdjagncoefjfeaaGreat Go.Sort
def kY{α:Type}(a b:Option α):Prop:=∀r,a=some r->b=some r
theorem kY.r{α:Type}{a:Option α}:kY a a:=λ_ h=>h
theorem kY.n{α:Type}{a:Option α}:kY none a:=λ_ h=>by cases h
theorem kY.b{α j:Type}{a b:Option α}{k e:α->Option j}(h:kY a b)(f:∀x,kY (k x) (e x)):kY (a>>=k) (b>>=e):=by
 intro r c;cases a with
 |none=>cases c
 |some x=>rw[h x rfl];exact f x r c
theorem kY.i{α:Type}{p:Prop}[Decidable p]{a b c d:Option α}(h:kY a c)(k:kY b d):kY (if p then a else b) (if p then c else d):=by grind
variable {α:Type}[Inhabited α]
def n2(lt:α->α->Bool)(x:α):List α->List α
 |[]=>[x]
 |y::r=>if lt x y then x::y::r else y::n2 lt x r
def gT(lt:α->α->Bool):List α->List α
 |[]=>[]
 |x::r=>n2 lt x (gT lt r)
def kd(lt:α->α->Bool):List α->Bool
 |[]=>true
 |x::r=>r.all (λy=>lt x y||lt y x)&&kd lt r
theorem Hi(lt:α->α->Bool)(x:α):∀l,(n2 lt x l).Perm (x::l)
 |[]=>.refl _
 |y::r=>by
  simp only[n2];split
  . simp_all
  . exact((Hi lt x r).cons y).trans (.swap x y r)
theorem nz(lt:α->α->Bool):∀l,(gT lt l).Perm l
 |[]=>.refl _
 |x::r=>(Hi lt x _).trans ((nz lt r).cons x)
theorem Js{lt:α->α->Bool}(b:SWO lt)(x:α):∀{l:List α},l.Pairwise (λx y=>lt y x=false)->(n2 lt x l).Pairwise λx y=>lt y x=false
 |[],_=>by simp[n2]
 |y::r,h=>by
  rw[jh]at h;simp only[n2];split
  . rename_i c;have d:lt y x=false:=by
     cases e:lt y x with
     |false=>rfl
     |true=>have:=b.trans _ _ _ c e;rw[b.irrefl]at this;cases this
    rw[jh];refine⟨λz a=>?_,jh.2 h⟩;rcases fe.1 a with rfl|a
    . exact d
    . exact b.ntrans _ _ _ (h.1 z a) d
  . rename_i c;rw[jh];refine⟨λz a=>?_,Js b x h.2⟩;rcases fe.1 ((Hi lt x r).mem_iff.1 a)with rfl|a
    . grind
    grind
theorem CB{lt:α->α->Bool}(a:SWO lt):∀l:List α,(gT lt l).Pairwise λx y=>lt y x=false
 |[]=>.nil
 |x::r=>Js a x (CB a r)
theorem Kd{lt:α->α->Bool}:∀{l:List α},kd lt l=true->∀a b,a∈l->b∈l->a=b\/lt a b=true\/lt b a=true
 |x::r,h,a,b,c,e=>by
  simp only[kd,cc,c0,hO]at h;rcases fe.1 c with g|d<;>rcases fe.1 e with i|f
  . grind
  . grind
  . grind
  . exact Kd h.2 a b d f
theorem Jt{lt:α->α->Bool}{l:List α}(f:kd lt l=true):∀{a b:List α},a.Perm l->b.Perm l->a.Pairwise (λx y=>lt y x=false)->b.Pairwise (λx y=>lt y x=false)->a=b:=by
 intro a b c d h1 e;refine List.Perm.eq_of_pairwise (le:=λx y=>lt y x=false) (λx y g i j k=>?_) h1 e (c.trans d.symm);rcases Kd f x y (c.mem_iff.1 g) (d.mem_iff.1 i)with h|h|h
 . exact h
 . grind
 grind
theorem Ni{lt:α->α->Bool}(a:SWO lt){l:List α}(b:kd lt l=true):hQ lt l=gT lt l:=
 Jt b (HE a l) (nz lt l) (WY a l) (CB a l)
def FH(lt:α->α->Bool)(l:List α):Option (List α):=if kd lt l then some (gT lt l)else none
theorem abz{lt:α->α->Bool}(a:SWO lt)(l:List α):kY (FH lt l) (some (hQ lt l)):=by
 intro r h;unfold FH at h;split at h
 . rename_i b;rw[Ni a b];exact h
 . cases h
end
end Go.Proofs.YtdjagncoefjfeaaGreat.Shv
