/- The library of this proof, part D: an abstract machine for the code of the program, and its soundness. -/
import Derived.KernelRfl
import Derived.Shelf.Strings.Builder1
import Derived.ChangeArms
import Derived.ChangeStays
import Derived.ChangeSame
import Derived.SizedLaws
import Derived.Below
import Derived.WalkKit
import Derived.ProofKit
import Derived.OpenShut
import Derived.Laws.BitsLemmas
import Derived.Laws.Bits64
import Derived.Shelf.GgSortFunc.InsertionK
import Derived.Shelf.SlSortCmp.Insertion
import Derived.Sort.AssemblyPlain
import Derived.Lib.BitFns
import Derived.Test.YtdjagncoefjfeaaGreatCmLC

namespace Go.Proofs.YtdjagncoefjfeaaGreat.Shv
set_option linter.all false
section
open Go
variable {xb:a7}
variable {U:cK}{R:Type}
def n2(gl:ew)(gd:Option (Nat×Bool))(dst:Option Nat):Bool:=
 match dst with
 |none=>true
 |some d=>(gl.all λe=>!(Nat.beq e.1 d) && !(Nat.beq e.2.1 d))&&(match gd with
  |some g=>!(Nat.beq g.1 d)
  |none=>true)
def fT(dst:Option Nat)(v:bz U)(env:bU U):bU U:=
 match dst with
 |none=>env
 |some d=>(d,v)::env
def h6(gl:ew)(gd:Option (Nat×Bool))(dst:Option Nat):ew:=
 match gd,dst with
 |some g,some d=>(d,g)::gl
 |_,_=>gl
abbrev fU(U:cK):=Nat->List (cB U)
abbrev kV(U:cK):=bU U->Option (List (bz U))
def Rg(s:cB U)(getv:kV U)(env:bU U)(J:bf U)(key:Nat):Option (bU U×bf U×a7×aL U.D s.ts):=
 match getv env with
 |none=>none
 |some vs=>match wz J 0 0 s.st (CX s.gA vs ([],[])) []with
  |(bs,c)=>match kT c env J with
   |none=>none
   |some (env',J')=>match getv env' with
    |none=>none
    |some d=>match tf bs&&((bs.all λb=>Nat.ble (b+1) key)&&(Nat.beq bs.length s.st.length&&Nat.ble s.er.length (bs.length+16)))with
     |false=>none
     |true=>match mf bs s.gA d,iV bs J' 0 s.st with
      |some a,some b=>match aL.dec U.D s.ts (a++b)with
       |some h=>some (env',J',bs,h)
       |none=>none
      |_,_=>none
def wM(getv:kV U)(env:bU U)(J:bf U)(key:Nat)(k:bU U->bf U->bz U->Option R):List (cB U)->Option R
 |[]=>none
 |s::r=>match Rg s getv env J key with
  |none=>wM getv env J key k r
  |some (env',J',bs,h)=>(s.F h)>>=λa=>match ow J' (s.rest a) 0 bs with
   |none=>none
   |some c=>if c then k env' (mU J' bs (back bs key) (s.rest a)) ((s.res a).b9 (back bs key))else none
def isNil{α:Type}:List α->Bool
 |[]=>true
 |_=>false
def FD(s:cB U)(getv:kV U)(env:bU U):Option (aL U.D s.ts):=
 match isNil s.st&&isNil s.er,getv env with
 |true,some vs=>match vs.all fB,mf [] s.gA vs with
  |true,some a=>aL.dec U.D s.ts a
  |_,_=>none
 |_,_=>none
def wL(getv:kV U)(env:bU U)(g:Bool)(k:bz U->Option R):List (cB U)->Option R
 |[]=>none
 |s::r=>match FD s getv env with
  |none=>wL getv env g k r
  |some h=>(if g then s.F h else some (aL.kb U s.us))>>=λa=>match fB (s.res a)with
   |true=>k (s.res a)
   |false=>none
def hasB(J:bf U)(b:Nat):Bool:=match aX J b with
 |some _=>true
 |none=>false
def bl.iA(J:bf U):bl U->Bool
 |.t _|.dM .. |.ay|.e3|.e2=>true
 |.ptr b _=>hasB J b
 |.cF b _ _ _=>hasB J b
 |.fn _ caps=>caps.all (hasB J)
 |.arr b=>match aX J b with
  |some x=>(match x.dc with
   |some _=>true
   |none=>false)
  |none=>false
 |.sub .. =>false
 |.pre .. =>false
 |.dG .. =>false
 |.mp b=>hasB J b
 |.eg _=>false
 |.cG b=>match aX J b with
  |some x=>(match x.dc with
   |some p=>Nat.beq p.1 1
   |none=>false)
  |none=>false
 |.dead=>false
def jy(J:bf U):bz U->Bool
 |.c x=>x.iA J
 |.agg cs=>cs.all (bl.iA J)
 |.aY vs=>go J vs
where go (J:bf U):List (bz U)->Bool
 |[]=>true
 |v::vs=>jy J v&&go J vs
def bl.im(J:bf U):bl U->C
 |.t c=>.t (c.enc U)
 |.dM ty x o=>.dM (ty.enc U x) o
 |.ay=>.ay
 |.e3=>.e3
 |.e2=>.e2
 |.fn f caps=>.fn f caps
 |.ptr b o=>.ptr b o
 |.cF b ty i o=>.cF b (ty.sz U) i o
 |.arr b=>match aX J b with
  |some x=>(match x.dc with
   |some p=>.arr b p.1 0 p.2
   |none=>.dead)
  |none=>.dead
 |.sub b a len=>.fw b 1 a len
 |.pre _ _=>.dead
 |.dG .. =>.dead
 |.mp b=>.mp b
 |.eg b=>.eg b
 |.cG b=>match aX J b with
  |some x=>(match x.dc with
   |some p=>.cG b p.2
   |none=>.dead)
  |none=>.dead
 |.dead=>.dead
def hg(J:bf U):bz U->V
 |.c x=>.c (x.im J)
 |.agg cs=>.agg (cs.map (bl.im J))
 |.aY vs=>.aY (go J vs)
where go (J:bf U):List (bz U)->List V
 |[]=>[]
 |v::vs=>hg J v::go J vs
def gk(J:bf U):cO U->Bool
 |.box cs=>cs.all (bl.iA J)
 |.arr _ _=>true
 |.rows .. =>false
 |.set _=>true
 |.buf _ _=>true
 |.b8 _ c=>c.iA J
 |.cA .. =>false
def r6(J:bf U):cO U->bO
 |.box cs=>.box (cs.map (bl.im J))
 |.arr ty l=>.arr (ty.sz U) (l.map (ty.enc U))
 |.rows sz _=>.arr sz []
 |.set ks=>.set ks
 |.buf E s=>.buf E s
 |.b8 E c=>.b8 E (c.im J)
 |.cA t l i o _=>.cA (t.sz U) (l.map (t.enc U)) i o .dead
def kv(J:bf U):bf U->a8
 |[]=>[]
 |(b,x)::r=>(b,r6 J x)::kv J r
def H5(J:bf U)(l:bf U):Bool:=l.all λp=>Nat.ble (p.1+1) 16&&gk J p.2
def FC(s:cB U)(getv:kV U)(env:bU U):Option (aL U.D s.ts):=
 match isNil s.st&&Nat.ble s.er.length 16,getv env with
 |true,some vs=>match vs.all fB,mf [] s.gA vs with
  |true,some a=>aL.dec U.D s.ts a
  |_,_=>none
 |_,_=>none
def Aa(getv:kV U)(env:bU U)(J:bf U)(key:Nat)(k:bf U->bz U->Option R):List (cB U)->Option R
 |[]=>none
 |s::r=>match FC s getv env with
  |none=>Aa getv env J key k r
  |some h=>(s.F h)>>=λa=>match jy (s.rest a) (s.res a)&&H5 (s.rest a) (s.rest a)with
   |true=>k (mU J [] (back [] key) (s.rest a)) ((s.res a).b9 (back [] key))
   |false=>none
def bl.fL:bl U->a7
 |.ptr b _|.cF b _ _ _|.arr b|.sub b _ _|.pre b _|.dG b _ _|.mp b|.eg b|.cG b=>[b]
 |.fn _ caps=>caps
 |_=>[]
def bz.fL:bz U->a7
 |.c x=>x.fL
 |.agg cs=>cs.flatMap bl.fL
 |.aY _=>[]
def lR(l:a7)(b:Nat):Bool:=l.any λc=>Nat.beq c b
def Rh(xb:a7)(s:cB U)(getv:kV U)(env:bU U)(J:bf U)(key:Nat):Option (a7×aL U.D s.ts):=
 match getv env with
 |none=>none
 |some vs=>match wz J 0 0 s.st (CX s.gA vs ([],[])) []with
  |(bs,c)=>match isNil c&&(tf bs&&((bs.all λb=>Nat.ble (b+1) key&&((lR (vs.flatMap bz.fL) b||lR xb b)&&hasB J b))&&(Nat.beq bs.length s.st.length&&(Nat.ble bs.length s.er.length&&Nat.ble s.er.length (bs.length+16)))))with
   |false=>none
   |true=>match mf bs s.gA vs,iV bs J 0 s.st with
    |some a,some b=>match aL.dec U.D s.ts (a++b)with
     |some h=>some (bs,h)
     |none=>none
    |_,_=>none
def IH(n:Nat)(J:bf U)(l:bf U):Bool:=l.all λp=>Nat.ble (p.1+1) n&&gk J p.2
def vO(xb:a7)(getv:kV U)(env:bU U)(J:bf U)(key:Nat)(k:bf U->bz U->Option R):List (cB U)->Option R
 |[]=>none
 |s::r=>match Rh xb s getv env J key with
  |none=>vO xb getv env J key k r
  |some (bs,h)=>(s.F h)>>=λa=>match jy (s.rest a) (s.res a)&&IH (bs.length+16) (s.rest a) (s.rest a),ow J (s.rest a) 0 bs with
   |true,some c=>if c then k (mU J bs (back bs key) (s.rest a)) ((s.res a).b9 (back bs key))else none
   |_,_=>none
def adY(getv:kV U)(env:bU U)(l:List (cB U)):Bool:=l.any λs=>(FC s getv env).isSome
def adZ(getv:kV U)(env:bU U)(l:List (cB U)):Bool:=l.any λs=>(FD s getv env).isSome
def agB(gd:Option (Nat×Bool))(getv:kV U)(env:bU U)(l:List (cB U)):Bool:=
 match gd with
 |some _=>!(adZ getv env l)
 |none=>false
def aef(d:Option a7):a7:=match d with
 |some l=>l
 |none=>[]
def Ik(fo:fU U)(d:Option a7)(gd:Option (Nat×Bool))(f:Nat)(getv:kV U)(gl:ew)(env:bU U)(J:bf U)(key:Nat)(k:bU U->bf U->bz U->Option R):Option R:=
 match gd with
 |none=>match d with
  |none=>wM getv env J key k (fo f)
  |some xb=>match adY getv env (fo f)with
   |true=>Aa getv env J key (λJ v=>k env J v) (fo f)
   |false=>vO xb getv env J key (λJ v=>k env J v) (fo f)
 |some _=>match lj gl env ql gd with
  |some g=>wL getv env g (λv=>k env J v) (fo f)
  |none=>none
abbrev jY:=List (Nat×Bool)
def uJ(nf:jY)(gl:ew):Nat->Option (Nat×Bool)->Bool
 |0,_=>false
 |_,none=>false
 |a+1,some (t,b)=>(nf.any λg=>Nat.beq g.1 t&&(g.2==b))||uJ nf gl a (aX gl t)
def kx(nf:jY)(dst:Option Nat):Bool:=
 match dst with
 |none=>true
 |some d=>nf.all λg=>!(Nat.beq g.1 d)
def Ef:bz U:= .c (.t ⟨.bool,false⟩)
def rR(fo:fU U)(d:Option a7)(o:cb)(key:Nat)(gl:ew)(nf:jY)(env:bU U)(J:bf U)(k:ew->jY->bU U->bf U->Option R):Option R:=
 match n2 gl o.guard o.dst&&kx nf o.dst with
 |false=>none
 |true=>match uJ nf gl ql o.guard with
  |true=>match lj gl env ql o.guard with
   |some _=>k (h6 gl o.guard o.dst) nf (fT o.dst Ef env) J
   |none=>none
  |false=>match o.op with
   |.call f args=>match agB o.guard (λe=>ko gl o.guard e args) env (fo f)with
    |true=>match lj gl env ql o.guard,o.guard with
     |some g,some gd=>if g then vO (aef d) (λe=>ko gl o.guard e args) env J key (λJ v=>k (h6 gl o.guard o.dst) nf (fT o.dst v env) J) (fo f)else k (h6 gl o.guard o.dst) (gd::nf) (fT o.dst Ef env) J
     |_,_=>none
    |false=>Ik fo d o.guard f (λe=>ko gl o.guard e args) gl env J key λenv J v=>k (h6 gl o.guard o.dst) nf (fT o.dst v env) J
   |.iG x args=>match d,o.guard,dd gl none env x with
    |none,none,some (.c (.fn f _))=>wM (λe=>match dd gl none e x,ko gl none e args with
     |some (.c (.fn i a)),some vs=>match Nat.beq i f with
      |true=>some (vs++a.map λb=>.c (.ptr b 0))
      |false=>none
     |_,_=>none) env J key (λenv J v=>k gl nf (fT o.dst v env) J) (fo f)
    |some _,none,some (.c (.fn f []))=>wL (λe=>ko gl none e args) env true (λv=>k gl nf (fT o.dst v env) J) (fo f)
    |_,_,_=>none
   |op=>match ct gl o.guard env J key op with
    |none=>none
    |some (c,v,J')=>match o.guard with
     |none=>if c then k gl nf (fT o.dst v env) J' else none
     |some gd=>match lj gl env ql (some gd)with
      |none=>none
      |some g=>match op.neutral with
       |true=>if(c || !g) then k (h6 gl o.guard o.dst) nf (fT o.dst v env) J else none
       |false=>if g then(if c then k (h6 gl o.guard o.dst) nf (fT o.dst v env) J' else none)else k (h6 gl o.guard o.dst) (gd::nf) (fT o.dst Ef env) J
def Ra(J:bf U):bl U->List (Nat×aJ)
 |.arr b=>match aX J b with
  |some (.arr t _)=>[(b,t)]
  |_=>[]
 |_=>[]
def agA(J:bf U):bz U->List (Nat×aJ)
 |.c x=>Ra J x
 |.agg cs=>cs.flatMap (Ra J)
 |.aY _=>[]
def FA(gl:ew)(gd:Option (Nat×Bool))(env:bU U)(J:bf U)(xs:List aP):List (Nat×aJ):=
 xs.flatMap λx=>match dd gl gd env x with
  |some v=>agA J v
  |none=>[]
def AO(l:List (Nat×aJ))(env:bU U)(J:bf U):Option (bU U×bf U):=
 match l with
 |[]=>none
 |_=>kT l env J
def FB(gl:ew)(o:cb)(env:bU U)(J:bf U):Option (bU U×bf U):=
 match o.op with
 |.slc _ x _ _=>match dd gl o.guard env x with
  |some (.c (.arr b))=>match aX J b with
   |some (.arr t _)=>kT [(b,t)] env J
   |_=>none
  |_=>none
 |.call _ args=>match o.guard with
  |some _=>AO (FA gl o.guard env J args) env J
  |none=>none
 |.bsliceT _ _ _ _ ps=>AO (FA gl o.guard env J (ps.map Prod.snd)) env J
 |.bslice _ _ _ ps=>AO (FA gl o.guard env J (ps.map Prod.snd)) env J
 |_=>none
def DW(fo:fU U)(d:Option a7)(o:cb)(key:Nat)(gl:ew)(nf:jY)(env:bU U)(J:bf U)(k:ew->jY->bU U->bf U->Option R):Option R:=
 match d with
 |some xb=>rR fo (some xb) o key gl nf env J k
 |none=>match FB gl o env J with
  |none=>rR fo none o key gl nf env J k
  |some p=>rR fo none o key gl nf p.1 p.2 k
def pB(fo:fU U)(d:Option a7):List cb->Nat->ew->jY->bU U->bf U->(ew->bU U->bf U->Option R)->Option R
 |[],_,gl,_,env,J,k=>k gl env J
 |o::r,key,gl,nf,env,J,k=>DW fo d o key gl nf env J λgl nf env J=>pB fo d r (key+16) gl nf env J k
def xx(gl:ew)(k:Nat):Bool:=gl.any λe=>Nat.beq e.1 k
def clean(gl:ew):bU U->bU U
 |[]=>[]
 |(k,v)::r=>match xx gl k with
  |true=>clean gl r
  |false=>(k,v)::clean gl r
def Ab(gl:ew)(env:bU U):bU U:=
 match gl with
 |[]=>env
 |_=>clean gl env
structure eF (key:Nat)(gl:ew)(nf:jY)(env:bU U)(J:bf U)(env1:Env)(J1:a8)(G:Nat->Bool):Prop where
 gM:c3 key J G env env1
 al:gI gl env G
 eR:cx key J J1
 aD:∀g,g∈nf->cE env G (some g)=false
variable{N:Nat}{o:cb}{K:Env->a8->Prop}
section
variable {P:Program}{kk key:Nat}{J J':bf U}{J1 bo:a8}{env:bU U}{env1:Env}{G:Nat->Bool}{gl:ew}{gd:Option (Nat×Bool)}{nf:jY}{dst:Option Nat}{v:bz U}{v1:V}
theorem Ha{d:Option Nat}{k:Nat}:aX (fT d v env) k=if d=some k then some v else aX env k:=by
 cases d with
 |none=>simp[fT]
 |some d=>
  simp only[fT,aX];cases h:Nat.beq d k with
  |true=>rw[cT h];simp
  |false=>
   have:=hE h;simp[this]
theorem DX{o:Option (Nat×Bool)}{g:Bool}(h:lj gl env ql o=some g):o=none\/∃t b y,o=some (t,b)/\fa env t b=some y:=by
 cases o with
 |none=>exact .inl rfl
 |some x=>
  obtain⟨t,b⟩:=x;obtain⟨y,a⟩:=aah h;grind
theorem J0(al:gI gl env G)(aD:∀g,g∈nf->cE env G (some g)=false):∀{a:Nat} {gd:Option (Nat×Bool)},uJ nf gl a gd=true->cE env G gd=false
 |0,gd,h=>by simp[uJ]at h
 |a+1,none,h=>by simp[uJ]at h
 |a+1,some (t,b),h=>by
  simp only[uJ,hO,wh,cd,iM]at h;rcases h with⟨⟨f,c⟩,e,h1,d⟩|h
  . have:=cT h1;grind
  . have:=J0 al aD h;rw[al.aX t]at this;simp[cE,this]
theorem eF.bind(he:c3 key J' G env env1)(al:gI gl env G)(aF:cx key J' bo)(aD:∀g,g∈nf->cE env G (some g)=false)(F:ca key J' v v1)(B:gd=none\/∃t b y,gd=some (t,b)/\fa env t b=some y)(f:n2 gl gd dst=true)(o:kx nf dst=true):
 eF key (h6 gl gd dst) nf (fT dst v env) J' (en env1 dst (cE env G gd) v1) bo (λk=>if dst=some k then cE env G gd else G k):=by
 refine⟨λk w a=>?_,?_,aF,λg p=>?_⟩
 . rw[Ha]at a;rw[pt];split at a
   . rename_i h;cases a;rw[ad h,ad h];exact⟨v1,rfl,F⟩
   . rename_i h;rw[ak h,ak h];exact he k w a
 . cases dst with
   |none=>
    have:h6 gl gd none=gl:=by cases gd<;>rfl
    rw[this];simp only[fT,reduceCtorEq,b6];exact al
   |some d=>
    simp only[n2,cd,cY,p3]at f;have D:∀k t b,aX gl k=some (t,b)->k≠d/\t≠d:=by
     intro k t b a;have E:∀{l:ew},aX l k=some (t,b)->(k,t,b)∈l:=by
      intro l;induction l with
      |nil=>intro h;simp[aX]at h
      |cons e r ih=>
       obtain⟨L,e⟩:=e;intro h;simp only[aX]at h;split at h
       . simp_all
       grind
     have:=f.1 _ (E a);exact⟨hE this.1,hE this.2⟩
    have A:∀t b,t≠d->fa (fT (some d) v env) t b=fa env t b:=by
     intro t b ht;unfold fa;rw[Ha,ak (by simp;exactλe=>ht e.symm)]
    have z:∀k t b,aX gl k=some (t,b)->∃y,fa (fT (some d) v env) t b=some y/\(if some d=some k then cE env G gd else G k)=((if some d=some t then cE env G gd else G t)&&y):=by
     intro k t b a;obtain⟨h1,H⟩:=D k t b a;obtain⟨y,J,K⟩:=al.held k t b a;grind
    cases gd with
    |none=>
     refine⟨λk a=>?_,λk t b a=>z k t b a⟩;by_cases j:some d=some k
     . rw[ad j];rfl
     . rw[ak j];exact al.free k a
    |some g=>
     obtain⟨t0,b0⟩:=g;have q:t0≠d:=by
      have:=f.2;simp only[p3]at this;exact hE this
     refine⟨λk a=>?_,λk t b a=>?_⟩
     . simp only[h6,aX]at a;split at a
       . cases a
       . rename_i c;rw[ak (by simp;exact hE c)];exact al.free k a
     . simp only[h6,aX]at a;split at a
       . rename_i c;cases a;have:=cT c;subst this;rcases B with h|⟨t,b,y,h,x⟩
         . cases h
         . cases h;refine⟨y,by rw[A _ _ q];exact x,?_⟩;rw[ad rfl,ak (by simp;exactλe=>q e.symm)];simp[cE,x]
       . exact z k t b a
 . obtain⟨t,b⟩:=g;have h0:=aD _ p;cases dst with
   |none=>simpa[fT]using h0
   |some d=>
    simp only[kx,cY,p3]at o;have u:t≠d:=hE (o _ p);simp only[cE]at h0⊢;rw[ak (by simp;exactλe=>u e.symm)];have:fa (fT (some d) v env) t b=fa env t b:=by
     unfold fa;rw[Ha,ak (by simp;exactλe=>u e.symm)]
    rw[this];exact h0
theorem II:ca N J Ef (.c (.t (.bool false))):= .c (.t (U:=U) ⟨.bool,false⟩)
theorem DE(h:eF key gl nf env J env1 J1 G)(c:o.guard=none\/∃t b y,o.guard=some (t,b)/\fa env t b=some y)(al:cE env G o.guard=false)(d:n2 gl o.guard o.dst=true)(e:kx nf o.dst=true)(f:ca (key+16) J v v1):
 DStep xb P o key env1 J1 false v1 J1/\eF (key+16) (h6 gl o.guard o.dst) nf (fT o.dst v env) J (en env1 o.dst false v1) J1 (λk=>if o.dst=some k then false else G k):=by
 have a:=DB h.gM c;rw[al]at a;refine⟨.skip a rfl,?_⟩;have:=eF.bind (dst:=o.dst) (h.gM.mono (dk.more (by omega))) h.al (h.eR.mono (Nat.le_add_right key 16)) h.aD f c d e;rw[al]at this;exact this
theorem MZ{c:Bool}(h:eF key gl nf env J env1 J1 G)(i:ct gl o.guard env J key o.op=some (c,v,J'))(d:o.guard=none\/∃t b y,o.guard=some (t,b)/\fa env t b=some y)(l:n2 gl o.guard o.dst=true)(m:kx nf o.dst=true):
 (cE env G o.guard=true->c=true->∃v1 bo,DStep xb P o key env1 J1 true v1 bo/\eF (key+16) (h6 gl o.guard o.dst) nf (fT o.dst v env) J' (en env1 o.dst true v1) bo (λk=>if o.dst=some k then true else G k))/\
 (cE env G o.guard=false->o.op.neutral=true->∃v1,DStep xb P o key env1 J1 false v1 J1/\eF (key+16) (h6 gl o.guard o.dst) nf (fT o.dst v env) J (en env1 o.dst false v1) J1 (λk=>if o.dst=some k then false else G k)):=by
 obtain⟨⟨v1,g,q⟩,u,aD⟩:=I3 h.gM h.al h.eR i;have j:=DB h.gM d;refine⟨λal r=>?_,λal f=>?_⟩
 . obtain⟨p,bo,h1,a,n⟩:=q al r;rw[al]at j;have s:o.op.drawn=true:=by
    generalize o.op=w at i;cases w<;>first|rfl|(simp[ct]at i)
   have hs:DStep xb P o key env1 J1 true v1 (if o.op.neutral then J1 else bo):= .op j s h1 (λ_=>a) (.inr rfl);have e:(if o.op.neutral then J1 else bo)=bo:=by
    split
    . rename_i f;exact(xQ f h1).symm
    . rfl
   rw[e]at hs;refine⟨v1,bo,hs,?_⟩;have:=eF.bind (dst:=o.dst) (h.gM.mono u) h.al n h.aD g d l m;rw[al]at this;exact this
 . rw[aD f]at g;obtain⟨h1,a⟩:=DE (P:=P) h d al l m g;exact⟨v1,h1,a⟩
theorem J3{x:bl U}(h:x.oq=true):x.oJ.bN []=x.oJ:=by
 cases x<;>simp[bl.oq]at h<;>try rfl
 rename_i f caps;cases caps with
 |nil=>rfl
 |cons=>simp[bl.oq]at h
theorem Ih:∀{x:bz U},fB x=true->(e5 x).bN []=e5 x
 |.c x,h=>by simp only[fB]at h;simp only[e5,V.bN,J3 h]
 |.agg cs,h=>by
  simp only[fB,cY]at h;simp only[e5,V.bN,List.map_map]
  congr 1
  exact List.map_congr_left λc a=>J3 (h c a)
 |.aY vs,h=>by
  simp only[fB]at h;simp only[e5,V.bN];rw[go vs h]
where go:∀(vs:List (bz U)),fB.go vs=true->V.bN.go [] (e5.go vs)=e5.go vs
 |[],_=>rfl
 |v::vs,h=>by
  simp only[fB.go,cd]at h;simp only[e5.go,V.bN.go,Ih h.1,go vs h.2]
def fH(P:Program)(fo:fU U):Prop:=∀f s,s∈fo f->s.f=f/\hF P f=true/\hV P s
theorem Ij{a:bf U}{x:bl U}{d:C}(h:cj N a x d)(hs:x.iA a=true):d=x.im a:=by
 cases h<;>simp only[bl.iA,bV]at hs<;>try rfl
 . rename_i b sz n c aa;simp only[bl.im];grind
 . rename_i b n c aa;simp only[bl.im];grind
theorem BW{a:bf U}:∀{vs:List (bz U)} {i:Nat},(hg.go a vs)[i]?=(vs[i]?).map (hg a)
 |[],i=>by simp[hg.go]
 |v::vs,0=>by simp[hg.go]
 |v::vs,i+1=>by simp[hg.go,BW]
theorem RQ{a:bf U}:∀{vs:List (bz U)} {i:Nat} {v:bz U},jy.go a vs=true->vs[i]?=some v->jy a v=true
 |[],i,v,_,h=>by simp at h
 |x::vs,0,v,hs,h=>by simp[jy.go]at hs;simp at h;subst h;exact hs.1
 |x::vs,i+1,v,hs,h=>by simp[jy.go]at hs;exact RQ hs.2 (by simpa using h)
theorem Hl{a:bf U}:∀{xs:List (bl U)} {ds:List C},a' (cj N a) xs ds->(∀x,x∈xs->x.iA a=true)->ds=xs.map (bl.im a)
 |[],[],_,_=>rfl
 |x::xs,d::ds,.cons h1 b,hs=>by
  rw[gz,<-Ij h1 (hs x (by simp)),<-Hl b (λx c=>hs x (by simp[c]))]
theorem KZ{a:bf U}{x:bz U}{d:V}(h:ca N a x d):jy a x=true->d=hg a x:=by
 induction h with
 |c h=>intro hs;simp only[jy]at hs;rw[Ij h hs];rfl
 |agg h=>
  intro hs;simp only[jy,cY]at hs;simp only[hg];rw[Hl h hs]
 |aY xs ds af h ih=>
  intro hs;simp only[jy]at hs;simp only[hg]
  congr 1
  apply yh;intro i;rw[BW];cases b:xs[i]? with
  |none=>grind
  |some x=>
   have f:=(c5.1 b).1;have e:=eH (l:=ds) (i:=i) (by omega);rw[e,fZ]
   congr 1
   exact ih i x _ b e (RQ hs b)
theorem M0{a:bf U}{x:cO U}{y:bO}(h:hU N a x y)(hs:gk a x=true):y=r6 a x:=by
 cases h with
 |box h=>simp only[gk,cY]at hs;simp only[r6];rw[Hl h hs]
 |arr t l=>rfl
 |set ks=>rfl
 |buf E s=>rfl
 |b8 h=>simp only[gk]at hs;simp only[r6];rw[Ij h hs]
 |cA=>simp[gk]at hs
 |rows=>simp[gk]at hs
theorem yR{a:bf U}:∀{l:bf U} {b:Nat},aW (kv a l) b=(aX l b).map (r6 a)
 |[],b=>rfl
 |(k,x)::r,b=>by
  simp only[kv,aW,aX];cases h:Nat.beq k b with
  |true=>rw[ad (cT h)];rfl
  |false=>rw[ak (hE h)];exact yR
theorem agl{k:Nat}{c:C}:c.b9 (back [] k)=c.bx k:=by rfl
theorem NV{k:Nat}:∀{v:V},v.b9 (back [] k)=v.bx k
 |.c x=>by simp only[V.b9,V.bx,agl]
 |.agg cs=>by rfl
 |.aY vs=>by simp only[V.b9,V.bx];rw[go vs]
where go:∀(vs:List V),V.b9.go (back [] k) vs=V.bx.go k vs
 |[]=>rfl
 |v::vs=>by simp only[V.b9.go,V.bx.go];rw[NV,go vs]
theorem Ja{k:Nat}:∀{s:a8},hf J1 [] (back [] k) s=lA J1 k s
 |[]=>rfl
 |(b,x)::r=>by
  simp only[hf,lA];rw[Ja];rfl
theorem Dr:∀{ss:List fJ} {j:Nat} {a:eP U} {i:Nat} {x:cO U},aX (gv j ss a) i=some x->j<=i/\i<j+ss.length
 |[],j,a,i,x,h=>by simp[gv,aX]at h
 |s::ss,j,a,i,x,h=>by
  simp only[gv]at h;split at h
  . simp only[aX]at h;split at h
    . simp_all
    . have:=Dr h;simp;omega
  . have:=Dr h;simp;omega
theorem Ji{bs:a7}:∀{caps:a7},(∀c,c∈caps->pos bs c=some c)->nZ bs caps=some caps
 |[],_=>rfl
 |c::cs,h=>by simp only[nZ,h c (by simp),Ji (caps:=cs) (λx a=>h x (by simp[a]))]
theorem wc{d:bf U}(j:∀b x,aX d b=some x->b<N){x:bl U}(hs:x.iA d=true):cj N d x (x.im d)/\dx ((x.im d).bN (List.range N)) (x.im d):=by
 have e:∀b,hasB d b=true->pos (List.range N) b=some b:=by
  intro b h;unfold hasB at h;split at h
  . rename_i y a;exact mD Fv (by simp[j b y a])
  . cases h
 cases x with
 |t c=>exact⟨.t c,dx.refl _⟩
 |ptr b o=>
  simp only[bl.iA]at hs;refine⟨.ptr b o,?_⟩;simp only[bl.im,C.bN,e b hs];exact dx.refl _
 |cF b ty i o=>
  simp only[bl.iA]at hs;refine⟨.cF b ty i o,?_⟩;simp only[bl.im,C.bN,e b hs];exact dx.refl _
 |dM ty x o=>exact⟨.dM ty x o,dx.refl _⟩
 |arr b=>
  simp only[bl.iA]at hs;split at hs
  . rename_i y a;split at hs
    . rename_i p g;simp only[bl.im,a,g];refine⟨.arr b p.1 p.2 (j b y a) λz l q k=>?_,?_⟩
      . grind
      . simp only[C.bN,e b (by simp[hasB,a])];exact dx.refl _
    . cases hs
  . cases hs
 |dG b n len=>simp[bl.iA]at hs
 |sub b n len=>simp[bl.iA]at hs
 |pre b h=>simp[bl.iA]at hs
 |mp b=>
  simp only[bl.iA]at hs;refine⟨.mp b,?_⟩;simp only[bl.im,C.bN,e b hs];exact dx.refl _
 |eg b=>simp[bl.iA]at hs
 |cG b=>
  simp only[bl.iA]at hs;split at hs
  . rename_i y a;split at hs
    . rename_i p g;simp only[bl.im,a,g];refine⟨.cG b p.2 (j b y a) λz l q k=>?_,?_⟩
      . rw[a]at l;cases l;rw[g]at k;cases k;have:=cT hs;grind
      . simp only[C.bN,e b (by simp[hasB,a])];exact dx.refl _
    . cases hs
  . cases hs
 |ay=>exact⟨.ay,dx.refl _⟩
 |e3=>exact⟨.e3,dx.refl _⟩
 |e2=>exact⟨.e2,dx.refl _⟩
 |fn f caps=>
  simp only[bl.iA,cY]at hs;refine⟨.fn f caps,?_⟩;have:nZ (List.range N) caps=some caps:=Ji λc m=>e c (hs c m);simp only[bl.im,C.bN,this];exact dx.refl _
 |dead=>simp[bl.iA]at hs
theorem vh{a:bf U}(c:∀b x,aX a b=some x->b<N):∀{xs:List (bl U)},(∀x,x∈xs->x.iA a=true)->a' (cj N a) xs (xs.map (bl.im a))/\a' dx ((xs.map (bl.im a)).map (C.bN (List.range N))) (xs.map (bl.im a))
 |[],_=>⟨.nil,.nil⟩
 |x::xs,hs=>by
  obtain⟨h1,d⟩:=wc c (hs x (by simp));obtain⟨e,f⟩:=vh c (xs:=xs) (λx g=>hs x (by simp[g]));exact⟨.cons h1 e,.cons d f⟩
theorem R0{a:bf U}:∀{vs:List (bz U)},(hg.go a vs).length=vs.length
 |[]=>rfl
 |v::vs=>by simp[hg.go,R0]
theorem zV{N:Nat}{a:bf U}(f:∀b x,aX a b=some x->b<N):∀{x:bz U},jy a x=true->ca N a x (hg a x)/\gi ((hg a x).bN (List.range N)) (hg a x)
 |.c x,hs=>by
  obtain⟨h1,g⟩:=wc f (x:=x) (by simpa[jy]using hs);exact⟨.c h1,.c g⟩
 |.agg cs,hs=>by
  simp only[jy,cY]at hs;obtain⟨h1,g⟩:=vh f hs;exact⟨.agg h1,.agg g⟩
 |.aY vs,hs=>by
  simp only[jy]at hs;have:=go f vs hs;refine⟨.aY _ _ (by rw[R0]) λi x d e k=>?_,.aY _ _ (by rw[BV]) λi x y e j=>?_⟩
  . rw[BW,e]at k;grind
  . rw[CQ,j]at e;simp at e;subst e;rw[BW,bb]at j;grind
where go {N:Nat} {a:bf U} (f:∀b x,aX a b=some x->b<N):∀(vs:List (bz U)),jy.go a vs=true->∀x,x∈vs->ca N a x (hg a x)/\gi ((hg a x).bN (List.range N)) (hg a x)
 |[],_=>by simp
 |v::vs,hs=>by
  simp only[jy.go,cd]at hs;have h1:=zV f hs.1;have g:=go f vs hs.2;intro x e;rcases fe.1 e with rfl|e
  . exact h1
  . exact g x e
theorem Jj {fo:fU U}(ag:fH P fo){o:cb}{f:Nat}{args:List aP}(aj:o.op= .call f args)(h:eF key gl nf env J env1 J1 G)(z:o.guard=none)(ad:n2 gl o.guard o.dst=true)(ae:kx nf o.dst=true)
 {k:bf U->bz U->Option R}{r:R}:∀{ss:List (cB U)},(∀s,s∈ss->s∈fo f)->Aa (λe=>ko gl o.guard e args) env J key k ss=some r->
 ∃v v1 J' bo,k J' v=some r/\DStep xb P o key env1 J1 true v1 bo/\eF (key+16) (h6 gl o.guard o.dst) nf (fT o.dst v env) J' (en env1 o.dst true v1) bo (λi=>if o.dst=some i then true else G i)
 |[],_,g=>by simp[Aa]at g
 |s::ss,ai,g=>by
  simp only[Aa]at g;split at g
  . exact Jj ag aj h z ad ae (λs hs=>ai s (by simp[hs])) g
  . rename_i aa A;unfold FC at A;split at A
    . rename_i vs F I;simp only[cd]at F;split at A
      . rename_i a M aq;rw[cY]at M;obtain⟨aF,aS,aG⟩:=ag f s (ai s (by simp));obtain⟨p,vs1,b1,b2,b3⟩:=tD h.gM h.al I;have H:s.st=[]:=by cases H:s.st with|nil=>rfl|cons=>rw[H]at F;simp[isNil]at F
        have T:=h2 F.2;obtain⟨m,hres,K⟩:=tQ.1 g;split at K
        . rename_i B;simp only[cd]at B;obtain⟨ys,f1,af,an⟩:=uw (N:=key) (Jc:=([]:bf U)) (wj) (λj b aQ aA=>by simp at aA) aq
          obtain⟨S,aK,am,c9⟩:=an vs1 b2.length (λi x d g t=>by
           obtain⟨Q,h1,u⟩:=b2.get g
           rw[t]at h1;cases h1;exact u)
          have av:aL.cells U.D s.ts aa=a:=aL.fb A;have ar:s.args aa=ys:=by
           unfold cB.args;rw[av];have:=f1 [];grind
          have Y:s.iE aa=[]:=by unfold cB.iE;rw[H];rfl
          have ah:s.st.length=0:=by rw[H];rfl
          have Z:=aG aa m hres S [] (by
           rw[ar,Y,ah]
           refine a'.lp (by rw[af,aK,b2.length]) λi x d g t=>c9 i x d g t) (by rw[Y];intro b x g;simp[aX]at g)
          rw[aF,ah]at Z;have aH:a' gi vs1 S:=by
           refine a'.lp aK.symm λi d Q t ay=>?_;have I:=am i d Q t ay;obtain⟨x,g,L⟩:=(b2.flip (R':=λd x=>ca key J x d) λ_ _ h=>h).get t;have hs:=M x (eM g);have:=zU L hs;subst this;rw[Ih hs]at I;exact I
          have aw:=ea.conv aH (J:=[]) (λb aQ g=>by simp[aW]at g) Z;have q:∀b x,aX (s.rest m) b=some x->b<16/\gk (s.rest m) x=true:=by
           intro b x g;have aC:∀{l:bf U},aX l b=some x->(b,x)∈l:=by
            intro l;induction l with
            |nil=>intro h;simp[aX]at h
            |cons e r ih=>
             obtain⟨aT,e⟩:=e;intro h;simp only[aX]at h;split at h
             . simp_all
             grind
           have:=B.2;unfold H5 at this;rw[cY]at this;have u:=this _ (aC g);simp only[cd]at u;exact⟨by have:=h2 u.1;omega,u.2⟩
          have w:∀b x,aX (s.rest m) b=some x->b<s.er.length:=by
           intro b x g;have:=(Dr g).2;omega
          have ax:ea P f vs1 [] 0 (λaN aO ak=>aN=hg (s.rest m) (s.res m)/\aO=kv (s.rest m) (s.rest m)/\ak=s.er.length):=by
           refine ea.tidy aw ?_
           rintro aU s1 aR ⟨rfl,aJ,aM⟩
           have aE:=KZ aJ B.1;subst aE;refine⟨List.range s.er.length,_,_,Fv,rfl,?_,?_,rfl,rfl,by simp⟩
           . exact(zV w B.1).2
           . intro b x g;rw[yR,bb]at g;obtain⟨O,C,rfl⟩:=g;obtain⟨h1,y,u,ao⟩:=aM b O C;have aI:=M0 ao (q b O C).2;subst aI;have ht:=zh (bs:=List.range s.er.length) (i:=0) (j:=b) (r:=List.range s.er.length) (by simp[h1]) u;rw[ga]at ht;refine⟨_,ht,?_⟩;cases O with
             |box cs=>
              have n:=(q b _ C).2;simp only[gk,cY]at n;exact .box (vh w n).2
             |arr ty l=>exact .arr
             |rows sz l=>have n:=(q b _ C).2;simp[gk]at n
             |set ks=>exact .same
             |buf E s=>exact .same
             |b8 E c=>have n:=(q b _ C).2;exact .b8 (wc w (by simpa[gk]using n)).2
             |cA=>have n:=(q b _ C).2;simp[gk]at n
          have au:V.aA.V.dF (lt 0) vs1=true:=by
           refine tx λi d t=>?_;obtain⟨x,g,L⟩:=(b2.flip (R':=λd x=>ca key J x d) λ_ _ h=>h).get t;have hs:=M x (eM g);have:=zU L hs;subst this;exact(wb (N:=key) (J:=J) hs).2 _
          have al:fO env1 o.guard=some true:=by rw[z];rfl
          have aB:(kv (s.rest m) (s.rest m)).all (λx=>decide (x.1<16))=true:=by
           have az:=B.2;unfold H5 at az;have:∀{l:bf U},(l.all λp=>Nat.ble (p.1+1) 16&&gk (s.rest m) p.2)=true->(kv (s.rest m) l).all (λx=>decide (x.1<16))=true:=by
            intro l;induction l with
            |nil=>intro _;rfl
            |cons e r ih=>
             obtain⟨b,x⟩:=e;intro h;simp only[oi,cd]at h;simp only[kv,oi,cd,dn];exact⟨by have:=h2 h.1.1;omega,ih h.2⟩
           grind
          have ab:ca s.er.length (s.rest m) (s.res m) (hg (s.rest m) (s.res m))/\cx s.er.length (s.rest m) (kv (s.rest m) (s.rest m)):=by
           refine⟨(zV w B.1).1,λb x g=>?_⟩;refine⟨w b x g,r6 (s.rest m) x,by rw[yR,g];rfl,?_⟩;cases x with
           |box cs=>
            have n:=(q b _ g).2;simp only[gk,cY]at n;exact .box (vh w n).1
           |arr ty l=>exact .arr ty l
           |rows sz l=>have n:=(q b _ g).2;simp[gk]at n
           |set ks=>exact .set ks
           |buf E s=>exact .buf E s
           |b8 E c=>have n:=(q b _ g).2;exact .b8 (wc w (by simpa[gk]using n)).1
           |cA=>have n:=(q b _ g).2;simp[gk]at n
          have cq:s.er.length<=([]:a7).length+16:=(by simpa using T);have W:=cx.EV (key:=key) (bs:=[]) wj (by simp) cq h.eR rfl ab.2;have X:=ca.b9 (key:=key) (bs:=[]) (J:=J) wj (by simp) cq h.eR ab.1;have ap:=DD (key:=key) (bs:=[]) (Jr:=s.rest m) wj (by simp) h.eR rfl;rw[NV]at X;rw[Ja]at W;refine⟨_,(hg (s.rest m) (s.res m)).bx key,_,lA J1 key (kv (s.rest m) (s.rest m)),K,.own aj al z b1 (b3 (by rw[z];rfl)) au T aB ax rfl,?_⟩;have:=eF.bind (gd:=o.guard) (dst:=o.dst) (nf:=nf) (h.gM.mono ap) h.al W h.aD X (.inl z) ad ae;rw[z]at this⊢;exact this
        . cases K
      . cases A
    . cases A
theorem Jb:∀{args:List aP} {p:Prop} {vs1:List V},ho env1 args=some (p,vs1)->kZ env1 args=vs1.flatMap V.fL
 |[],p,vs1,h=>by simp[ho]at h;rw[h.2];rfl
 |x::xs,p,vs1,h=>by
  simp only[ho,bp,bb,bB]at h;obtain⟨⟨d,v0⟩,h1,⟨b,c⟩,a,_,rfl⟩:=h;have ih:=Jb (p:=b) (vs1:=c) a;simp only[kZ,e6]at ih⊢;rw[h1,ih]
theorem M1{c:bf U}{x:bl U}{d:C}(h:cj N c x d):∀b,b∈x.fL->b∈d.fL:=by
 intro b a;cases h<;>simp only[bl.fL,C.fL]at a⊢<;>first|exact a|(simp at a)
theorem K0{c:bf U}:∀{xs:List (bl U)} {ds:List C},a' (cj N c) xs ds->∀b,b∈xs.flatMap bl.fL->b∈ds.flatMap C.fL
 |[],[],_,b,a=>a
 |x::xs,d::ds,.cons h1 e,b,a=>by
  simp only[e6,f']at a⊢;rcases a with a|a
  . exact .inl (M1 h1 b a)
  . exact .inr (K0 e b a)
theorem ab1{e:bf U}{x:bz U}{d:V}(h:ca N e x d):∀b,b∈x.fL->b∈d.fL:=by
 intro b a;cases h with
 |c h=>exact M1 h b a
 |agg h=>exact K0 h b a
 |aY=>simp[bz.fL]at a
theorem K1{c:bf U}:∀{xs:List (bz U)} {ds:List V},a' (ca N c) xs ds->∀b,b∈xs.flatMap bz.fL->b∈ds.flatMap V.fL
 |[],[],_,b,a=>a
 |x::xs,d::ds,.cons h1 e,b,a=>by
  simp only[e6,f']at a⊢;rcases a with a|a
  . exact .inl (ab1 h1 b a)
  . exact .inr (K1 e b a)
theorem K3{l:a7}{b:Nat}(h:lR l b=true):b∈l:=by
 simp only[lR,wh]at h;simp_all
theorem GI {fo:fU U}(ah:fH P fo){o:cb}{f:Nat}{args:List aP}(aj:o.op= .call f args)(h:eF key gl nf env J env1 J1 G)(L:o.guard=none\/∃t b y,o.guard=some (t,b)/\fa env t b=some y)(ae:n2 gl o.guard o.dst=true)(ag:kx nf o.dst=true)
 (M:cE env G o.guard=true){k:bf U->bz U->Option R}{r:R}:∀{ss:List (cB U)},(∀s,s∈ss->s∈fo f)->vO xb (λe=>ko gl o.guard e args) env J key k ss=some r->
 ∃v v1 J' bo,k J' v=some r/\DStep xb P o key env1 J1 true v1 bo/\eF (key+16) (h6 gl o.guard o.dst) nf (fT o.dst v env) J' (en env1 o.dst true v1) bo (λi=>if o.dst=some i then true else G i)
 |[],_,g=>by simp[vO]at g
 |s::ss,ai,g=>by
  simp only[vO]at g;split at g
  . exact GI ah aj h L ae ag M (λs hs=>ai s (by simp[hs])) g
  . rename_i bs aa q;obtain⟨aO,a5,aQ⟩:=ah f s (ai s (by simp));obtain⟨m,hres,H⟩:=tQ.1 g;unfold Rh at q;split at q
    . cases q
    . rename_i vs aT;split at q;rename_i a2 a4 _;split at q
      . cases q
      . rename_i w;simp only[cd,cY]at w;obtain⟨_,ax,I,ay,az,aA⟩:=w;split at q
        . rename_i a b au X;split at q
          . rename_i a7 aH;cases q;have bT:=zi ax;have aB:∀b,b∈bs->b<key:=λb w=>h2 (I b w).1;have O:=cT ay;have a8:=h2 az;have cq:=h2 aA;obtain⟨p,vs1,b1,b2,b3⟩:=tD h.gM h.al aT;have aC:=z' bT X;obtain⟨ys,f1,af,ao⟩:=uw (N:=key) bT aC au
            obtain⟨S,aK,a3,c9⟩:=ao vs1 b2.length (λi x d g K=>by
             obtain⟨an,h1,T⟩:=b2.get g
             grind)
            obtain⟨a0,t1,t2⟩:=De bT h.eR X;have Z:aL.cells U.D s.ts aa=a++b:=aL.fb aH;have aw:s.args aa=ys:=by unfold cB.args;rw[Z,f1]
            have W:s.iE aa=gv 0 s.st b:=by unfold cB.iE;rw[Z,f1]
            have ab:=aQ aa m hres S a0 (by
             rw[aw,W,<-O]
             exact a'.lp (by rw[af,aK,b2.length]) λi x d g K=>c9 i x d g K) (by rw[W,<-O];exact t2)
            rw[aO,<-O]at ab;have aR:a' gi (vs1.map (V.bN bs)) S:=by
             refine a'.lp (by simp[aK]) λi d an K a6=>?_;grind
            have aE:=ea.conv aR t1 ab;split at H
            . rename_i c B Y;simp only[cd]at B;split at H
              . rename_i aG;subst aG;have u:∀b x,aX (s.rest m) b=some x->gk (s.rest m) x=true:=by
                 intro b x g;have a9:∀{l:bf U},aX l b=some x->(b,x)∈l:=by
                  intro l;induction l with
                  |nil=>intro h;simp[aX]at h
                  |cons e r ih=>
                   obtain⟨ba,e⟩:=e;intro h;simp only[aX]at h;split at h
                   . simp_all
                   grind
                 have:=B.2;unfold IH at this;grind
                have z:∀b x,aX (s.rest m) b=some x->b<s.er.length:=by
                 intro b x g;have:=(Dr g).2;omega
                have aF:ea P f (vs1.map (V.bN bs)) (fp bs J1 0 bs) bs.length (λaY aZ am=>aY=hg (s.rest m) (s.res m)/\aZ=kv (s.rest m) (s.rest m)/\am=s.er.length):=by
                 refine ea.tidy aE ?_
                 rintro bc s1 a1 ⟨rfl,aU,aV⟩
                 have aN:=KZ aU B.1;subst aN;refine⟨List.range s.er.length,_,_,Fv,?_,?_,?_,rfl,rfl,by simp⟩
                 . unfold keeps;grind
                 . exact(zV z B.1).2
                 . intro b x g;rw[yR,bb]at g;obtain⟨Q,C,rfl⟩:=g;obtain⟨h1,y,T,F⟩:=aV b Q C;have ak:=M0 F (u b Q C);subst ak;have ht:=zh (bs:=List.range s.er.length) (i:=0) (j:=b) (r:=List.range s.er.length) (by simp[h1]) T;rw[ga]at ht;refine⟨_,ht,?_⟩;cases Q with
                   |box cs=>
                    have n:=u b _ C;simp only[gk,cY]at n;exact .box (vh z n).2
                   |arr ty l=>exact .arr
                   |rows sz l=>have n:=u b _ C;simp[gk]at n
                   |set ks=>exact .same
                   |buf E s=>exact .same
                   |b8 E c=>have n:=u b _ C;exact .b8 (wc z (by simpa[gk]using n)).2
                   |cA=>have n:=u b _ C;simp[gk]at n
                have av:=DB h.gM L;have aM:(kv (s.rest m) (s.rest m)).all (λx=>decide (x.1<bs.length+16))=true:=by
                 have aI:=B.2;unfold IH at aI;have:∀{l:bf U},(l.all λp=>Nat.ble (p.1+1) (bs.length+16)&&gk (s.rest m) p.2)=true->(kv (s.rest m) l).all (λx=>decide (x.1<bs.length+16))=true:=by
                  intro l;induction l with
                  |nil=>intro _;rfl
                  |cons e r ih=>
                   obtain⟨b,x⟩:=e;intro h;simp only[oi,cd]at h;simp only[kv,oi,cd,dn];exact⟨by have:=h2 h.1.1;omega,ih h.2⟩
                 grind
                have ad:ca s.er.length (s.rest m) (s.res m) (hg (s.rest m) (s.res m))/\cx s.er.length (s.rest m) (kv (s.rest m) (s.rest m)):=by
                 refine⟨(zV z B.1).1,λb x g=>?_⟩;refine⟨z b x g,r6 (s.rest m) x,by rw[yR,g];rfl,?_⟩;cases x with
                 |box cs=>
                  have n:=u b _ g;simp only[gk,cY]at n;exact .box (vh z n).1
                 |arr ty l=>exact .arr ty l
                 |rows sz l=>have n:=u b _ g;simp[gk]at n
                 |set ks=>exact .set ks
                 |buf E s=>exact .buf E s
                 |b8 E c=>have n:=u b _ g;exact .b8 (wc z (by simpa[gk]using n)).1
                 |cA=>have n:=u b _ g;simp[gk]at n
                have aq:=cx.EV (key:=key) (bs:=bs) bT aB cq h.eR Y ad.2;have ar:=ca.b9 (key:=key) (bs:=bs) (J:=J) bT aB cq h.eR ad.1;have ap:=DD (key:=key) (bs:=bs) (Jr:=s.rest m) bT aB h.eR Y;have aJ:∀b,b∈bs->∃x,aW J1 b=some x:=by
                 intro b w;have F:=(I b w).2.2;unfold hasB at F;split at F
                 . rename_i x g;obtain⟨_,y,ak,_⟩:=h.eR b x g;grind
                 . cases F
                have aS:∀b,b∈bs->b∈kZ env1 args++xb:=by
                 intro b w;rw[Jb b1];have A:=(I b w).2.1;rw[hO]at A;rcases A with A|A
                 . exact BL _ (K1 b2 b (K3 A))
                 . exact List.mem_append_right _ (K3 A)
                refine⟨_,(hg (s.rest m) (s.res m)).b9 (back bs key),_,_,H,.raw aj (by rw[av,M]) rfl b1 (b3 M) bT aB aJ aS cq aM aF rfl,?_⟩;have:=eF.bind (gd:=o.guard) (dst:=o.dst) (nf:=nf) (h.gM.mono ap) h.al aq h.aD ar L ae ag;simp_all
              . cases H
            . cases H
          . cases q
        . cases q
theorem HJ {fo:fU U}(W:fH P fo){o:cb}{f:Nat}{args:List aP}(w:o.op= .call f args\/(o.guard=none/\∃x q,o.op= .iG x args/\x.get env1=some (q,.c (.fn f []))/\q))(h:eF key gl nf env J env1 J1 G)(H:o.guard=none\/∃t b y,o.guard=some (t,b)/\fa env t b=some y)(S:n2 gl o.guard o.dst=true)(T:kx nf o.dst=true)
 {g:Bool}(al:g=cE env G o.guard){k:bz U->Option R}{r:R}:∀{ss:List (cB U)},(∀s,s∈ss->s∈fo f)->wL (λe=>ko gl o.guard e args) env g k ss=some r->
 ∃v v1,k v=some r/\DStep xb P o key env1 J1 g v1 J1/\eF (key+16) (h6 gl o.guard o.dst) nf (fT o.dst v env) J (en env1 o.dst g v1) J1 (λi=>if o.dst=some i then g else G i)
 |[],_,l=>by simp[wL]at l
 |s::ss,ab,l=>by
  simp only[wL]at l;split at l
  . exact HJ W w h H S T al (λs hs=>ab s (by simp[hs])) l
  . rename_i aa z;unfold FD at z;split at z
    . rename_i vs F B;simp only[cd]at F;split at z
      . rename_i a K ak;rw[cY]at K;obtain⟨av,an,aw⟩:=W f s (ab s (by simp));obtain⟨p,vs1,b1,b2,b3⟩:=tD h.gM h.al B;have A:s.st=[]:=by cases A:s.st with|nil=>rfl|cons=>rw[A]at F;simp[isNil]at F
        have aC:s.er=[]:=by cases A:s.er with|nil=>rfl|cons=>rw[A]at F;simp[isNil]at F
        obtain⟨u,hres,I⟩:=tQ.1 l;split at I
        . rename_i ae;obtain⟨ay,az⟩:=wb (N:=key+16) (J:=J) ae;have M:=DB h.gM H;rw[<-al]at M;have aj:eF (key+16) (h6 gl o.guard o.dst) nf (fT o.dst (s.res u) env) J (en env1 o.dst g (e5 (s.res u))) J1 (λi=>if o.dst=some i then g else G i):=by
           have:=eF.bind (dst:=o.dst) (h.gM.mono (dk.more (by omega:key<=key+16))) h.al (h.eR.mono (Nat.le_add_right key 16)) h.aD ay H S T;grind
          refine⟨s.res u,e5 (s.res u),I,?_,aj⟩;have Y:g=true->p/\V.aA.V.dF (lt 0) vs1=true/\(e5 (s.res u)).aA (lt 0)=true/\ea P f vs1 [] 0 (λaA _ _=>aA=e5 (s.res u)):=?_
          . rcases w with w|⟨X,x,q,w,l,au⟩
            . exact .call w M b1 Y
            . have E:g=true:=by rw[al,X];rfl
              exact .iG w X E l au an b1 (Y E)
          intro E;rw[ad E]at hres;obtain⟨ys,f1,af,ah⟩:=uw (N:=key) (Jc:=([]:bf U)) (wj) (λj b aB ar=>by simp at ar) ak
          obtain⟨L,aK,ag,c9⟩:=ah vs1 b2.length (λi x d l m=>by
           obtain⟨C,h1,ai⟩:=b2.get l
           rw[m]at h1;cases h1;exact ai)
          have ao:aL.cells U.D s.ts aa=a:=aL.fb z;have am:s.args aa=ys:=by
           unfold cB.args;rw[ao];have:=f1 [];grind
          have O:s.iE aa=[]:=by unfold cB.iE;rw[A];rfl
          have Z:s.st.length=0:=by rw[A];rfl
          have Q:=aw aa u hres L [] (by
           rw[am,O,Z]
           refine a'.lp (by rw[af,aK,b2.length]) λi x d l m=>c9 i x d l m) (by rw[O];intro b x l;simp[aX]at l)
          rw[av,Z]at Q;have ax:a' gi vs1 L:=by
           refine a'.lp aK.symm λi d C m ap=>?_;have B:=ag i d C m ap;obtain⟨x,l,n⟩:=(b2.flip (R':=λd x=>ca key J x d) λ_ _ h=>h).get m;exact agp (K x (eM l)) B n
          refine⟨b3 (by rw[<-al];exact E),?_,az _,?_⟩
          . refine tx λi d m=>?_;obtain⟨x,l,n⟩:=(b2.flip (R':=λd x=>ca key J x d) λ_ _ h=>h).get m;exact agq (K x (eM l)) n
          . refine ea.conv ax (λb aB l=>by simp[aW]at l) (Q.mono λaE bo N' aq=>?_);exact zU aq.2.1 ae
        . cases I
      . cases z
    . cases z
where
 agp {x:bz U} {d C:V} (hs:fB x=true) (B:gi (d.bN []) C) (n:ca key J x d):gi d C:=by
  have:=zU n hs;subst this;rw[Ih hs]at B;exact B
 agq {x:bz U} {d:V} (hs:fB x=true) (n:ca key J x d):d.aA (lt 0)=true:=by
  have:=zU n hs;subst this;exact(wb (N:=key) (J:=J) hs).2 _
theorem CT {fo:fU U}(W:fH P fo){f:Nat}{getv:kV U}{cal:Env->List V->Prop}
 (Z:∀{env':bU U} {J2:bf U} {j:Env} {vs:List (bz U)},c3 key J2 G env' j->gI gl env' G->getv env'=some vs->∃vs1,a' (ca key J2) vs vs1/\cal j vs1)
 (he:c3 key J G env env1)(al:gI gl env G)(aF:cx key J J1){k:bU U->bf U->bz U->Option R}{r:R}:∀{ss:List (cB U)},(∀s,s∈ss->s∈fo f)->wM getv env J key k ss=some r->
 ∃env' J2 j bo vs1,Conv kk key env1 J1 key j bo/\c3 key J2 G env' j/\gI gl env' G/\(∀t b,fa env' t b=fa env t b)/\cal j vs1/\hF P f=true/\
  NU P f vs1 bo key j (λB s1=>∃q v,k env' q v=some r/\c3 (key+16) q G env' j/\cx (key+16) q s1/\ca (key+16) q v B)
 |[],_,m=>by simp[wM]at m
 |s::ss,ab,m=>by
  simp only[wM]at m;split at m
  . exact CT W Z he al aF (λs hs=>ab s (by simp[hs])) m
  . rename_i env' J2 bs h g;obtain⟨ay,ao,az⟩:=W f s (ab s (by simp));obtain⟨aI,hres,z⟩:=tQ.1 m;unfold Rg at g;split at g
    . cases g
    . rename_i aW _;split at g;rename_i aP aS _;split at g
      . cases g
      . rename_i aR aO X;split at g
        . cases g
        . rename_i vs aD;split at g
          . cases g
          . rename_i y;simp only[cd,cY]at y;obtain⟨ai,aj,ak,am⟩:=y;split at g
            . rename_i a b ag M;split at g
              . rename_i aa aw;cases g;have bT:=zi ai;have aB:∀b,b∈bs->b<key:=λb y=>h2 (aj b y);have F:=cT ak;have ax:=h2 am;obtain⟨j,bo,au,E,A,Y⟩:=yZ (kk:=kk) (gl:=gl) X he aF;obtain⟨vs1,b2,ap⟩:=Z E (Y al) aD;have aq:=z' bT M;obtain⟨ys,f1,af,ae⟩:=uw (N:=key) bT aq ag
                obtain⟨H,aK,aQ,c9⟩:=ae vs1 b2.length (λi x d m C=>by
                 obtain⟨ad,h1,I⟩:=b2.get m
                 grind)
                obtain⟨aM,t1,t2⟩:=De bT A M;have Q:aL.cells U.D s.ts h=a++b:=aL.fb aw;have ah:s.args h=ys:=by unfold cB.args;rw[Q,f1]
                have L:s.iE h=gv 0 s.st b:=by unfold cB.iE;rw[Q,f1]
                have T:=az h aI hres H aM (by
                 rw[ah,L,<-F]
                 exact a'.lp (by rw[af,aK,b2.length]) λi x d m C=>c9 i x d m C) (by rw[L,<-F];exact t2)
                rw[ay,<-F]at T;have aA:a' gi (vs1.map (V.bN bs)) H:=by
                 refine a'.lp (by simp[aK]) λi d ad C aT=>?_;grind
                have ar:=ea.conv aA t1 T;split at z
                . cases z
                . rename_i c O;split at z
                  . rename_i av;subst av;have cq:s.er.length<=bs.length+16:=ax;refine⟨env',J2,j,bo,vs1,au,E,Y al,λt b=>O9 X,ap,ao,?_⟩;intro aC nt φ S a w R an aN aE;refine(hx.raw (n:=lt key) (key:=key) bT aB ar (K:=λB s1=>∃q v,k env' q v=some r/\c3 (key+16) q G env' j/\cx (key+16) q s1/\ca (key+16) q v B) ?_ (λb y=>by simp[lt];exact aB b y) aC nt φ S j a w R (λb h1 _=>G8 h1) an aN aE)
                    rintro B s1 N' ⟨rfl,aG,aH⟩
                    refine⟨cq,_,_,z,E.mono (DD bT aB A O),cx.EV bT aB cq A O aH,ca.b9 bT aB cq A aG⟩
                  . cases z
              . cases g
            . cases g
where
 O' {env:bU U} {b0:Nat} {ty:aJ} {l:List (ty.den U.D)} {t:Nat} {b:Bool}:fa (rO b0 (⟨.slice ty,l⟩:Cell U.D) env) t b=fa env t b:=by
  unfold fa;rw[Dp];cases aX env t with
  |none=>rfl
  |some v=>
   cases v with
   |c x=>
    cases x with
    |arr u=>simp only[fZ,bz.ch,bl.ch];cases Nat.beq u b0<;>rfl
    |cF u aV i o=>simp only[fZ,bz.ch,bl.ch];cases Nat.beq u b0<;>rfl
    |pre u h=>simp only[fZ,bz.ch,bl.ch];cases Nat.beq u b0<;>rfl
    |dG u aU h=>simp only[fZ,bz.ch,bl.ch];cases Nat.beq u b0<;>rfl
    |_=>rfl
   |agg cs=>rfl
   |aY vs=>rfl
 O9 {l:List (Nat×aJ)} {env env':bU U} {J J':bf U} {t:Nat} {b:Bool} (h:kT l env J=some (env',J')):fa env' t b=fa env t b:=by
  induction l generalizing env J with
  |nil=>simp[kT]at h;rw[h.1]
  |cons p l ih=>
   obtain⟨c,ty⟩:=p;simp only[kT]at h;split at h
   . rename_i e s h1;have I:fa e t b=fa env t b:=by
      unfold AN at h1;split at h1
      . split at h1
        . cases h1;exact O'
        . cases h1
      . split at h1
        . cases h1;exact O'
        . cases h1
      . cases h1;rfl
     rw[ih h,I]
   . cases h
theorem Jd{fo:fU U}(z:fH P fo)(h:eF key gl nf env J env1 J1 G){k:ew->jY->bU U->bf U->Option R}{r:R}(a:rR fo (some xb) o key gl nf env J k=some r):
 ∃g v1 bo O V env' J' W,DStep xb P o key env1 J1 g v1 bo/\k O V env' J'=some r/\eF (key+16) O V env' J' (en env1 o.dst g v1) bo W:=by
 unfold rR at a;split at a
 . cases a
 . rename_i Q;simp only[cd]at Q;obtain⟨j,l⟩:=Q;split at a
   . rename_i bE;split at a
     . rename_i B A;have Y:=J0 h.al h.aD bE;obtain⟨h1,i⟩:=DE (P:=P) h (DX A) Y j l (II (U:=U) (N:=key+16) (J:=J));exact⟨_,_,_,_,_,_,_,_,h1,a,i⟩
     . cases a
   . split at a
     . rename_i f args u;split at a
       . rename_i ad;split at a
         . rename_i g gd al e;have w:o.guard=none\/∃t b y,o.guard=some (t,b)/\fa env t b=some y:=by rw[e];rw[e]at al;exact DX al
           have n:g=cE env G o.guard:=CR h.al al;split at a
           . rename_i p;obtain⟨v,v1,J',bo,h1,i,m⟩:=GI (fo:=fo) z u h w j l (by rw[<-n];exact p) (k:=λJ v=>k (h6 gl o.guard o.dst) nf (fT o.dst v env) J) (λs hs=>hs) a;exact⟨_,_,_,_,_,_,_,_,i,h1,m⟩
           . rename_i p;have K:cE env G o.guard=false:=by rw[<-n];simpa using p
             have E:eF key gl (gd::nf) env J env1 J1 G:=⟨h.gM,h.al,h.eR,λB A=>by
              rcases fe.1 A with rfl|L
              . grind
              . exact h.aD B L⟩
             have I:kx (gd::nf) o.dst=true:=by
              cases C:o.dst with
              |none=>rfl
              |some d=>
               rw[C]at l j;rw[e]at j;simp only[kx,oi,cd];simp only[kx]at l;simp only[n2,cd]at j;grind
             obtain⟨h1,i⟩:=DE (P:=P) E w K j I (II (U:=U) (N:=key+16) (J:=J));exact⟨_,_,_,_,_,_,_,_,h1,a,i⟩
         . cases a
       unfold Ik at a;split at a
       . rename_i e;simp only at a;split at a
         case h_2=>
          obtain⟨v,v1,J',bo,h1,i,m⟩:=GI (fo:=fo) z u h (.inl e) j l (by rw[e];rfl) (k:=λJ v=>k (h6 gl o.guard o.dst) nf (fT o.dst v env) J) (λs hs=>hs) a;exact⟨_,_,_,_,_,_,_,_,i,h1,m⟩
         rw[e]at a;obtain⟨v,v1,J',bo,h1,i,m⟩:=Jj (fo:=fo) z u h e j l (k:=λJ v=>k (h6 gl o.guard o.dst) nf (fT o.dst v env) J) (λs hs=>hs) (by rw[e];exact a);exact⟨_,_,_,_,_,_,_,_,i,h1,m⟩
       . rename_i gd e;split at a
         . rename_i g al;rw[e]at a al;obtain⟨v,v1,h1,i,m⟩:=HJ (fo:=fo) z (.inl u) h (by rw[e];exact DX al) j l (g:=g) (by rw[e];exact CR h.al al) (λs hs=>hs) (by rw[e];exact a);rw[e]at m;exact⟨_,_,_,_,_,_,_,_,i,h1,m⟩
         . cases a
     . rename_i x args u;split at a
       . contradiction
       . rename_i ae f C e Z;obtain⟨q,v1,a1,a2,a3⟩:=cv h.gM h.al Z;have:=a2.EU;subst this;obtain⟨v,v1,h1,i,m⟩:=HJ (xb:=xb) (fo:=fo) z (.inr ⟨e,x,q,u,a1,a3 rfl⟩) h (.inl e) j l (g:=true) (by rw[e];rfl) (λs hs=>hs) (by rw[e];exact a);rw[e]at m;exact⟨_,_,_,_,_,_,_,_,i,h1,m⟩
       . cases a
     . rename_i op aa ab;split at a
       . cases a
       . rename_i c v J' D;split at a
         . rename_i e;split at a
           . rename_i F;rw[e]at D;obtain⟨v1,bo,h1,i⟩:=(MZ (P:=P) (o:=o) h (by rw[e];exact D) (.inl e) j l).1 (by rw[e];rfl) F;rw[e]at i;exact⟨_,_,_,_,_,_,_,_,h1,a,i⟩
           . cases a
         . rename_i gd e;split at a
           . cases a
           . rename_i g al;have w:o.guard=none\/∃t b y,o.guard=some (t,b)/\fa env t b=some y:=by rw[e];exact DX al
             have n:g=cE env G o.guard:=by rw[e];exact CR h.al al
             have M:=MZ (P:=P) (o:=o) (xb:=xb) h D w j l;split at a
             . rename_i T;split at a
               . rename_i H;cases S:g with
                 |true=>
                  rw[S]at H n;simp at H;obtain⟨v1,bo,h1,i⟩:=M.1 n.symm H;have X:J'=J:=(I3 h.gM h.al h.eR D).ago T;rw[X]at i;exact⟨_,_,_,_,_,_,_,_,h1,a,i⟩
                 |false=>
                  rw[S]at n;obtain⟨v1,h1,i⟩:=M.2 n.symm T;exact⟨_,_,_,_,_,_,_,_,h1,a,i⟩
               . cases a
             . split at a
               . rename_i p;split at a
                 . rename_i F;obtain⟨v1,bo,h1,i⟩:=M.1 (by rw[<-n];exact p) F;exact⟨_,_,_,_,_,_,_,_,h1,a,i⟩
                 . cases a
               . rename_i p;have K:cE env G o.guard=false:=by rw[<-n];simpa using p
                 have E:eF key gl (gd::nf) env J env1 J1 G:=⟨h.gM,h.al,h.eR,λB A=>by
                  rcases fe.1 A with rfl|L
                  . grind
                  . exact h.aD B L⟩
                 have I:kx (gd::nf) o.dst=true:=by
                  cases C:o.dst with
                  |none=>rfl
                  |some d=>
                   rw[C]at l j;rw[e]at j;simp only[kx,oi,cd];simp only[kx]at l;simp only[n2,cd]at j;grind
                 obtain⟨h1,i⟩:=DE (P:=P) E w K j I (II (U:=U) (N:=key+16) (J:=J));exact⟨_,_,_,_,_,_,_,_,h1,a,i⟩
theorem Jk{fo:fU U}(L:fH P fo)(h:eF key gl nf env J env1 J1 G){k:ew->jY->bU U->bf U->Option R}{r:R}(d:rR fo none o key gl nf env J k=some r)
 (bH:∀C Z env' J' n bo ah,k C Z env' J'=some r->eF (key+16) C Z env' J' n bo ah->K n bo):
 ∃fP ai,Conv kk key env1 J1 key fP ai/\ux P o key fP ai K:=by
 by_cases i:rR fo (some []) o key gl nf env J k=some r
 . obtain⟨g,v1,bo,C,Z,env',J',ah,h1,ar,au⟩:=Jd L h i;exact⟨env1,J1,Conv.refl,.inl (h1.gZ (bH _ _ _ _ _ _ _ ar au))⟩
 . unfold rR at d i;split at d
   . cases d
   . rename_i I;rw[I]at i;simp only at i;simp only[cd]at I;obtain⟨y,am⟩:=I;split at d
     . rename_i bE;rw[bE]at i;exact absurd d i
     . rename_i bE;rw[bE]at i;simp only at i;split at d
       . rename_i f args m;rw[m]at i;simp only at i;split at d
         . rename_i O;rw[O]at i;exact absurd d i
         rename_i O;rw[O]at i;simp only at i;unfold Ik at d i;split at d
         . rename_i l;simp only at d;rw[l]at d;obtain⟨env',J2,n,bo,vs1,A,ao,B,ap,⟨p,M,N⟩,ak,D⟩:=CT (kk:=kk) (P:=P) L (f:=f) (getv:=λe=>ko gl none e args) (cal:=λe vs=>∃p,ho e args=some (p,vs)/\p)
            (λhe al u=>by
             obtain⟨p,vs1,b1,b2,b3⟩:=tD he al u
             exact⟨vs1,b2,p,b1,b3 rfl⟩) h.gM h.al h.eR (λs hs=>hs) d
           refine⟨n,bo,A,.inr ⟨by rw[l];rfl,f,vs1,.inl ⟨args,p,m,M,N⟩,?_⟩⟩;intro aC nt φ S a w E H af Q;refine(D aC nt φ S a w E H af Q).mono ?_
           rintro e w' ⟨v,ae,ag,bQ,s1,rfl,⟨an,v3,T,W,X,Y⟩,aa,ab,ad⟩
           refine⟨v,ae,ag,bQ,s1,rfl,?_,aa,ab,ad⟩
           have F:=eF.bind (gd:=none) (dst:=o.dst) (nf:=nf) W B X (λg al=>by
            obtain⟨t,b⟩:=g;have h0:=h.aD _ al;simp only[cE]at h0⊢
            grind) Y (.inl rfl) (by rw[l]at y;exact y) am
           exact bH _ _ _ _ _ _ _ T F
         . rename_i gd l;rw[l]at i d;exact absurd d i
       . rename_i x args m;split at d
         . rename_i f caps aB l aE
           obtain⟨env',J2,n,bo,vs1,A,ao,B,ap,⟨q,p,j,z,az,aA,M,N,ay⟩,ak,D⟩:=CT (kk:=kk) (P:=P) L (f:=f) (getv:=λe=>match dd gl none e x,ko gl none e args with
            |some (.c (.fn aj j)),some vs=>match Nat.beq aj f with
             |true=>some (vs++j.map λb=>.c (.ptr b 0))
             |false=>none
            |_,_=>none) (cal:=λe vs=>∃ q p j z,x.get e = some (q, .c (.fn f j))/\q/\ho e args = some (p,z)/\p/\vs = z++j.map λb=>V.c (.ptr b 0))
            (λhe al u=>by
             split at u
             . rename_i aj j aF aK aq;split at u
               . rename_i av;have:=cT av;subst this;cases u;obtain⟨q,v1,a1,a2,a3⟩:=cv he al aK;have:=a2.EU;subst this;obtain⟨p,vs1,b1,b2,b3⟩:=tD he al aq;refine⟨vs1++j.map λb=>V.c (.ptr b 0),b2.append ?_,q,p,j,vs1,a1,a3 rfl,b1,b3 rfl,rfl⟩;exact a'.map_map (a'.self (R:=λa b=>ca key _ (.c (.ptr a 0)) (.c (.ptr b 0))) (λb=>.c (.ptr b 0)) _)
               . cases u
             grind) h.gM h.al h.eR (λs hs=>hs) d
           refine⟨n,bo,A,.inr ⟨by rw[l];rfl,f,vs1,.inr ⟨x,args,q,p,j,z,m,az,aA,M,N,ak,ay⟩,?_⟩⟩;intro aC nt φ S a w E H af Q;refine(D aC nt φ S a w E H af Q).mono ?_
           rintro e w' ⟨v,ae,ag,bQ,s1,rfl,⟨an,v3,T,W,X,Y⟩,aa,ab,ad⟩
           refine⟨v,ae,ag,bQ,s1,rfl,?_,aa,ab,ad⟩
           have F:=eF.bind (gd:=none) (dst:=o.dst) (nf:=nf) W B X (λg al=>by
            obtain⟨t,b⟩:=g;have h0:=h.aD _ al;simp only[cE]at h0⊢
            grind) Y (.inl rfl) (by rw[l]at y;exact y) am
           exact bH _ _ _ _ _ _ _ T F
         . contradiction
         . cases d
       . rename_i op aw ax;exfalso;refine i ?_;split
         . rename_i f args m;exact absurd m (aw f args)
         . rename_i x args m;exact absurd m (ax x args)
         . exact d
theorem Hm{l:List (Nat×aJ)}{p:bU U×bf U}(h:AO l env J=some p):∃l,kT l env J=some p:=by
 unfold AO at h;grind
theorem YR{p:bU U×bf U}(h:FB gl o env J=some p):∃l,kT l env J=some p:=by
 unfold FB at h;split at h
 . grind
 . split at h
   . exact Hm h
   . cases h
 . exact Hm h
 . exact Hm h
 . cases h
theorem WY{fo:fU U}(f:fH P fo)(h:eF key gl nf env J env1 J1 G){k:ew->jY->bU U->bf U->Option R}{r:R}(a:DW fo none o key gl nf env J k=some r)
 (bH:∀e i env' J' d bo j,k e i env' J'=some r->eF (key+16) e i env' J' d bo j->K d bo):
 ∃fP c,Conv kk key env1 J1 key fP c/\ux P o key fP c K:=by
 simp only[DW]at a;split at a
 . exact Jk f h a bH
 . rename_i p v;obtain⟨l,af⟩:=YR v;obtain⟨aK,s1,m,n,q,s⟩:=yZ (kk:=kk) (gl:=gl) af h.gM h.eR
   obtain⟨u,w,d1,d2⟩:=Jk (kk:=kk) (P:=P) f (⟨n,s h.al,q,λg al=>by
    obtain⟨t,b⟩:=g;have h0:=h.aD _ al;simp only[cE]at h0⊢
    rw[CT.O9 af];exact h0⟩:eF key gl nf p.1 p.2 aK s1 G) a bH
   exact⟨u,w,m.trans d1,d2⟩
end
end
section
open Go
variable {xb:a7}
variable {U:cK}{R:Type}
def jW(env:bU U):aP->Option a7
 |.const (.c (.t _))=>some []
 |.const (.c .ay)=>some []
 |.const (.agg _)=>some []
 |.const _=>none
 |.tmp k=>match aX env k with
  |some (.c (.ptr b _))=>some [b]
  |some (.c (.cF b _ _ _))=>some [b]
  |some (.c (.arr b))=>some [b]
  |some (.c (.sub b _ _))=>some [b]
  |some (.c (.pre b _))=>some [b]
  |some (.c (.dG b _ _))=>some [b]
  |some (.c (.mp b))=>some [b]
  |some (.c (.eg b))=>some [b]
  |some (.c (.cG b))=>some [b]
  |some (.c .dead)=>none
  |some _=>some []
  |none=>none
def Ac:bl U->Bool
 |.dead=>true
 |_=>false
def Ad:bz U->Option a7
 |.c x=>match Ac x with
  |true=>none
  |false=>some x.fL
 |.agg cs=>match cs.any Ac with
  |true=>none
  |false=>some (cs.flatMap bl.fL)
 |.aY _=>some []
def rM(env:bU U):List aP->Option a7
 |[]=>some []
 |.const v::r=>match rM env r with
  |some l=>some (v.fL++l)
  |none=>none
 |.tmp k::r=>match aX env k with
  |some v=>match Ad v,rM env r with
   |some a,some l=>some (a++l)
   |_,_=>none
  |none=>none
def ID(xb:a7)(o:cJ)(env:bU U)(key:Nat):Option a7:=
 match o with
 |.alloc _|.allocA _|.box _|.bslice .. |.mkset=>some [key]
 |.allocS .. =>some [key,key+1]
 |.lkset x _=>jW env x
 |.upset x _=>jW env x
 |.appendB _ _ x _=>match jW env x with
  |some a=>some (key::a)
  |none=>none
 |.ustr _ x _=>jW env x
 |.call _ args=>match rM env args with
  |some l=>some ((List.range 16).map (key+·)++(l++xb))
  |none=>none
 |.load _ _ x=>jW env x
 |.b2s x=>jW env x
 |.store _ x _=>jW env x
 |.append _ _ x y=>match jW env x,jW env y with
  |some a,some b=>some (key::(a++b))
  |_,_=>none
 |_=>some []
def kp(xb:a7)(o:cJ)(env:bU U)(key b:Nat):Option Bool:=
 match o with
 |.alloc _|.allocA _|.box _|.bslice .. |.mkset=>some (Nat.beq b key)
 |.allocS .. =>some (Nat.beq b key||Nat.beq b (key+1))
 |.upset x _=>match jW env x with
  |some l=>some (lR l b)
  |none=>none
 |.appendB _ _ x _=>match jW env x with
  |some l=>some (Nat.beq b key||lR l b)
  |none=>none
 |.ustr _ x _=>match jW env x with
  |some l=>some (lR l b)
  |none=>none
 |.store _ x _=>match jW env x with
  |some l=>some (lR l b)
  |none=>none
 |.append _ _ x _=>match jW env x with
  |some l=>some (Nat.beq b key||lR l b)
  |none=>none
 |.call _ args=>match rM env args with
  |some l=>some ((Nat.ble key b&&Nat.ble (b+1) (key+16))||lR (l++xb) b)
  |none=>none
 |_=>some false
def AK(xb:a7)(aZ:List cb)(env:bU U)(N:Nat):List (Nat×Nat)->Bool
 |[]=>true
 |(i,j)::r=>(match nY aZ i,nY aZ j with
  |some x,some y=>match ID xb y.op env (N+16*j)with
   |some l=>l.all λb=>match kp xb x.op env (N+16*i) b with
    |some w=>!w
    |none=>false
   |none=>false
  |_,_=>true)&&AK xb aZ env N r
variable{o:cJ}{gl:ew}{fY:List (Nat×Nat)}{Q:Exit->Env->a8->Nat->Prop}
section
variable {P:Program}{kk N key:Nat}{J:bf U}{J1:a8}{env:bU U}{env1:Env}{G:Nat->Bool}
theorem pq(he:c3 N J G env env1){x:aP}{l:a7}(h:jW env x=some l):dZ env1 x=l:=by
 unfold jW at h;split at h
 . cases h;rfl
 . cases h;rfl
 . cases h;rfl
 . cases h
 . rename_i k;split at h
   all_goals (try (cases h;done))
   . rename_i b o e;cases h;obtain⟨v1,h1,a⟩:=he k _ e;have:=a.hQ;subst this;simp[dZ,aP.get,h1]
   . rename_i b t i o e;cases h;obtain⟨v1,h1,a⟩:=he k _ e;have:=a.jc;subst this;simp[dZ,aP.get,h1]
   . rename_i b e;cases h;obtain⟨v1,h1,a⟩:=he k _ e;obtain⟨sz,n,rfl,_⟩:=a.gY;simp[dZ,aP.get,h1]
   . rename_i b g len e;cases h;obtain⟨v1,h1,a⟩:=he k _ e;have:v1= .c (.fw b 1 g len):=by cases a with|c h=>cases h;rfl
     subst this;simp[dZ,aP.get,h1]
   . rename_i b f e;cases h;obtain⟨v1,h1,a⟩:=he k _ e;have:∃sz,v1= .c (.arr b sz 0 f):=by cases a with|c h=>cases h;exact⟨_,rfl⟩
     obtain⟨sz,rfl⟩:=this;simp[dZ,aP.get,h1]
   . rename_i b g f e;cases h;obtain⟨v1,h1,a⟩:=he k _ e;have:∃sz,v1= .c (.fw b sz g f):=by cases a with|c h=>cases h;exact⟨_,rfl⟩
     obtain⟨sz,rfl⟩:=this;simp[dZ,aP.get,h1]
   . rename_i b e;cases h;obtain⟨v1,h1,a⟩:=he k _ e;have:=a.E5;subst this;simp[dZ,aP.get,h1]
   . rename_i b e;cases h;obtain⟨v1,h1,a⟩:=he k _ e;have:=a.Rw;subst this;simp[dZ,aP.get,h1]
   . rename_i b e;cases h;obtain⟨v1,h1,a⟩:=he k _ e;obtain⟨n,rfl,_⟩:=a.A4;simp[dZ,aP.get,h1]
   . rename_i v c' p q fk y m s u w r e;cases h;obtain⟨v1,h1,a⟩:=he k _ e;unfold dZ;simp only[aP.get,h1,fZ];cases a with
     |c a=>
      cases a with
      |ptr b o=>exact absurd rfl (c' b o)
      |cF b t i o=>exact absurd rfl (p b t i o)
      |arr b sz n j aa=>exact absurd rfl (q b)
      |sub b g len=>exact absurd rfl (fk b g len)
      |pre b sz f j aa=>exact absurd rfl (y b f)
      |dG b sz g f j aa=>exact absurd rfl (m b g f)
      |mp b=>exact absurd rfl (s b)
      |eg b=>exact absurd rfl (u b)
      |cG b n j aa=>exact absurd rfl (w b)
      |dead d=>exact absurd rfl r
      |_=>rfl
     |agg a=>rfl
     |aY=>rfl
theorem vC{l:a7}{b:Nat}:lR l b=l.contains b:=by
 unfold lR;rw[Bool.eq_iff_iff];simp_all
theorem IK{x:bl U}{d:C}(h:cj N J x d)(a:Ac x=false):d.fL=x.fL:=by
 cases h<;>first|rfl|(simp[Ac]at a)
theorem Jl:∀{xs:List (bl U)} {ds:List C},a' (cj N J) xs ds->xs.any Ac=false->ds.flatMap C.fL=xs.flatMap bl.fL
 |[],[],_,_=>rfl
 |x::xs,d::ds,.cons h1 b,a=>by
  simp only[List.any_cons,p2]at a;simp only[e6];rw[IK h1 a.1,Jl b a.2]
theorem WZ{v:bz U}{v1:V}{l:a7}(h:ca N J v v1)(af:Ad v=some l):v1.fL=l:=by
 cases h with
 |c h=>
  simp only[Ad]at af;split at af
  . cases af
  . rename_i a;cases af;exact IK h a
 |agg h=>
  simp only[Ad]at af;split at af
  . cases af
  . rename_i a;cases af;exact Jl h a
 |aY=>simp only[Ad,bF]at af;rw[<-af];rfl
theorem CF(he:c3 N J G env env1):∀{args:List aP} {l:a7},rM env args=some l->kZ env1 args=l
 |[],l,h=>by simp[rM]at h;subst h;rfl
 |.const v::r,l,h=>by
  simp only[rM]at h;split at h
  . rename_i f b;cases h;have ih:=CF he b;simp only[kZ,e6]at ih⊢;rw[ih];rfl
  . cases h
 |.tmp k::r,l,h=>by
  simp only[rM]at h;split at h
  . rename_i v e;split at h
    . rename_i a f d b;cases h;have ih:=CF he b;obtain⟨v1,h1,c⟩:=he k v e;simp only[kZ,e6]at ih⊢;rw[ih];simp only[aP.get,h1,fZ];rw[WZ c d]
    . cases h
  . cases h
theorem YS(he:c3 N J G env env1){l:a7}(h:ID xb o env key=some l):eh xb o env1 key=l:=by
 cases o<;>simp only[ID,eh,bF]at h⊢<;>first|exact h|exact pq he h|skip
 all_goals split at h
 all_goals (try (cases h;done))
 . rename_i e c;cases h;rw[pq he c]
 . rename_i a b h1 d;cases h;rw[pq he h1,pq he d]
 . rename_i e c;cases h;rw[CF he c]
theorem beq_eq(a b:Nat):(a==b)=Nat.beq a b:=by
 cases h:Nat.beq a b with
 |true=>rw[cT h];simp
 |false=>simp[hE h]
theorem YT(he:c3 N J G env env1){b:Nat}{w:Bool}(h:kp xb o env key b=some w):cD xb o env1 key b=w:=by
 cases o with
 |alloc cs=>simp only[kp,bF]at h;rw[<-h];simp only[cD];exact beq_eq _ _
 |allocA cs=>simp only[kp,bF]at h;rw[<-h];simp only[cD];exact beq_eq _ _
 |box x=>simp only[kp,bF]at h;rw[<-h];simp only[cD];exact beq_eq _ _
 |bslice a c d e=>simp only[kp,bF]at h;rw[<-h];simp only[cD];exact beq_eq _ _
 |store n x y=>
  simp only[kp]at h;split at h
  . rename_i l af;cases h;simp only[cD];rw[pq he af,vC]
  . cases h
 |append sz by' x y=>
  simp only[kp]at h;split at h
  . rename_i l af;cases h;simp only[cD];rw[pq he af,vC,beq_eq]
  . cases h
 |mkset=>simp only[kp,bF]at h;rw[<-h];simp only[cD];exact beq_eq _ _
 |allocS e e8=>simp only[kp,bF]at h;rw[<-h];simp only[cD];rw[beq_eq,beq_eq]
 |upset x y=>
  simp only[kp]at h;split at h
  . rename_i l af;cases h;simp only[cD];rw[pq he af,vC]
  . cases h
 |ustr e x y=>
  simp only[kp]at h;split at h
  . rename_i l af;cases h;simp only[cD];rw[pq he af,vC]
  . cases h
 |appendB e by' x y=>
  simp only[kp]at h;split at h
  . rename_i l af;cases h;simp only[cD];rw[pq he af,vC,beq_eq]
  . cases h
 |call f args=>
  simp only[kp]at h;split at h
  . rename_i l af;cases h;simp only[cD];rw[CF he af,vC]
    congr 1
    rw[Bool.eq_iff_iff];simp only[cd,dn,Nat.ble_eq];omega
  . cases h
 |_=>simp only[kp,bF]at h;rw[<-h];rfl
theorem GJ(he:c3 N J G env env1){aZ:List cb}{a:Nat}:∀{fY:List (Nat×Nat)},AK xb aZ env a fY=true->kK xb aZ env1 a fY=true
 |[],_=>rfl
 |(i,j)::r,h=>by
  simp only[AK,cd]at h;simp only[kK,cd];refine⟨?_,GJ he h.2⟩;have h1:=h.1;rw[zS,zS]at h1;split at h1
  . rename_i x y e f;rw[e,f];split at h1
    . rename_i l af;dsimp only;rw[YS he af];simp only[cY]at h1⊢;intro b c;have:=h1 b c;split at this
      . rename_i w d;rw[YT he d];exact this
      . cases this
    . cases h1
  grind
theorem GZ{fo:fU U}(e:fH P fo){k:ew->bU U->bf U->Option R}{r:R}:∀{l:List cb} {key:Nat} {gl:ew} {nf:jY} {env:bU U} {J:bf U} {env1:Env} {J1:a8} {G:Nat->Bool} {K:Env->a8->Prop},
 eF key gl nf env J env1 J1 G->pB fo none l key gl nf env J k=some r->
 (∀c f env' J' b bo d,k c env' J'=some r->eF (key+16*l.length) c f env' J' b bo d->K b bo)->qf P kk l key env1 J1 K
 |[],key,gl,nf,env,J,env1,J1,G,K,h,a,bH=>bH _ _ _ _ _ _ _ a h
 |o::l,key,gl,nf,env,J,env1,J1,G,K,h,a,bH=>by
  simp only[pB]at a;simp only[qf];refine WY e h a λc f env' J' b bo d h1 m=>?_;refine GZ e m h1 λj p i s nb q g n t=>bH j p i s nb q g n ?_;grind
theorem Gu{fo:fU U}(e:fH P fo){k:ew->bU U->bf U->Option R}{r:R}:∀{l:List cb} {key:Nat} {gl:ew} {nf:jY} {env:bU U} {J:bf U} {env1:Env} {J1:a8} {G:Nat->Bool} {K:Env->a8->Prop},
 eF key gl nf env J env1 J1 G->pB fo (some xb) l key gl nf env J k=some r->
 (∀b f env' J' d bo c,k b env' J'=some r->eF (key+16*l.length) b f env' J' d bo c->K d bo)->w3 xb P l key env1 J1 K
 |[],key,gl,nf,env,J,env1,J1,G,K,h,a,bH=>bH _ _ _ _ _ _ _ a h
 |o::l,key,gl,nf,env,J,env1,J1,G,K,h,a,bH=>by
  simp only[pB]at a;obtain⟨g,v1,bo,b,f,env',J',c,h1,n,p⟩:=Jd e h (by simpa only[DW]using a);refine⟨g,v1,bo,h1,Gu e p n λm s j u nb t i q ba=>bH m s j u nb t i q ?_⟩;grind
theorem Il{gl:ew}:∀{env:bU U} {k:Nat} {v:bz U},aX (clean gl env) k=some v->aX env k=some v/\xx gl k=false
 |[],k,v,h=>by simp[clean,aX]at h
 |(i,w)::r,k,v,h=>by
  simp only[clean]at h;split at h
  . rename_i b;obtain⟨h1,c⟩:=Il h;simp only[aX];cases a:Nat.beq i k with
    |true=>rw[cT a]at b;rw[b]at c;cases c
    |false=>exact⟨h1,c⟩
  . rename_i b;simp only[aX]at h⊢;cases a:Nat.beq i k with
    |true=>rw[a]at h;cases h;rw[<-cT a];exact⟨rfl,b⟩
    |false=>rw[a]at h;exact Il h
theorem ZM{k:Nat}(h:xx gl k=false):aX gl k=none:=by
 induction gl with
 |nil=>rfl
 |cons e r ih=>
  obtain⟨i,e⟩:=e;simp only[xx,List.any_cons,p2]at h;simp only[aX,h.1];exact ih (by unfold xx;exact h.2)
theorem eF.clean{nf:jY}(h:eF key gl nf env J env1 J1 G):c3 key J (λ_=>true) (Ab gl env) env1:=by
 intro k v a;have:aX env k=some v/\G k=true:=by
  unfold Ab at a;split at a
  . exact⟨a,h.al.free k rfl⟩
  . obtain⟨h1,c⟩:=Il a;exact⟨h1,h.al.free k (ZM c)⟩
 obtain⟨v1,h1,c⟩:=h.gM k v this.1;grind
theorem eF.begin(he:c3 key J (λ_=>true) env env1)(aF:cx key J J1):eF key [] [] env J env1 J1 (λ_=>true):=
 ⟨he,⟨λ_ _=>rfl,λk t b h=>by simp[aX]at h⟩,aF,λ_ h=>by simp at h⟩
end
structure jE where
 e:Exit
 bx:Shape
 own:List (Pos×aJ)
 us:List aJ
def eA(U:cK):List jE->Type
 |[]=>Empty
 |[a]=>aL U.D a.us
 |a::b::r=>aL U.D a.us ⊕ eA U (b::r)
structure gX (U:cK) where
 bx:Shape
 own:List (Pos×aJ)
 ts:List aJ
 outs:List jE
 F:aL U.D ts->Option (eA U outs)
def Bs:Exit->Exit->Bool
 |.normal,.normal=>true
 |.ret,.ret=>true
 |.exit i,.exit j=>Nat.beq i j
 |_,_=>false
theorem J4{a b:Exit}(h:Bs a b=true):a=b:=by
 cases a<;>cases b<;>simp only[Bs,reduceCtorEq,bV]at h<;>try rfl
 simp_all
abbrev um(U:cK)(R:Type):=Exit->bU U->bf U->Nat->Option R
def ia:(outs:List jE)->eA U outs->Exit×bU U×bf U×Nat
 |[],o=>Empty.elim o
 |[a],h=>(a.e,(hn U a.bx (aL.cells U.D a.us h)).1,(hn U a.bx (aL.cells U.D a.us h)).2,a.bx.st.length)
 |a::b::r,.inl h=>(a.e,(hn U a.bx (aL.cells U.D a.us h)).1,(hn U a.bx (aL.cells U.D a.us h)).2,a.bx.st.length)
 |a::b::r,.inr o=>ia (b::r) o
def ag0{α c:Type}(o:α ⊕ c)(f:α->Option R)(g:c->Option R):Option R:=
 match o with
 |.inl a=>f a
 |.inr b=>g b
def ahm(k:um U R)(a:jE):(r:List jE)->(eA U r->Option R)->eA U (a::r)->Option R
 |[],_=>λh=>k a.e (hn U a.bx (aL.cells U.D a.us h)).1 (hn U a.bx (aL.cells U.D a.us h)).2 a.bx.st.length
 |_::_,f=>λo=>ag0 o (λh=>k a.e (hn U a.bx (aL.cells U.D a.us h)).1 (hn U a.bx (aL.cells U.D a.us h)).2 a.bx.st.length) f
def Iw(k:um U R):(outs:List jE)->eA U outs->Option R
 |[]=>λo=>Empty.elim o
 |a::r=>ahm k a r (Iw k r)
theorem M3(k:um U R):∀{outs:List jE} {o:eA U outs},Iw k outs o=k (ia outs o).1 (ia outs o).2.1 (ia outs o).2.2.1 (ia outs o).2.2.2
 |[],o=>Empty.elim o
 |[a],h=>rfl
 |a::b::r,.inl h=>rfl
 |a::b::r,.inr o=>M3 k (outs:=b::r)
def rB(kk:Nat):(outs:List jE)->Exit->bU U->bf U->Nat->Option (eA U outs)
 |[],_,_,_,_=>none
 |[a],e,env,J,N=>match Bs e a.e with
  |true=>rP kk a.own a.bx a.us env J N
  |false=>none
 |a::b::r,e,env,J,N=>match Bs e a.e with
  |true=>match rP (U:=U) kk a.own a.bx a.us env J N with
   |some h=>some (.inl h)
   |none=>none
  |false=>match rB kk (b::r) e env J N with
   |some o=>some (.inr o)
   |none=>none
abbrev kX(U:cK):=Nat->Option (gX U)
def gm:dy->Nat
 |.seq a b=>gm a+gm b
 |.cond _ a b=>gm a+gm b
 |.block _ b=>gm b
 |.loop b=>gm b+1
 |_=>0
def aga(x:Bool)(a b:Option R):Option R:=if x then a else b
def bl.inner:kr->Bool
 |.ptr .. |.arr _=>true
 |_=>false
def acX:fJ->Bool
 |.box cs=>cs.any bl.inner
 |_=>false
def Pc(fo:fU U)(J:bf U)(ops:List cb):a7:=
 match ops.any λo=>match o.op with
  |.call f _=>(fo f).any λs=>s.st.any acX
  |_=>false with
 |true=>J.map Prod.fst
 |false=>[]
def Io(ops:List cb)(fY:List (Nat×Nat)):Option (List cb×cb):=
 match DV ops.length fY,ops.getLast? with
 |true,some o=>match o.op,o.guard with
  |.call ..,none=>some (ops.dropLast,o)
  |_,_=>none
 |_,_=>none
theorem W0{ops:List cb}{init:List cb}{last:cb}(h:Io ops fY=some (init,last)):ops=init++[last]/\DV (init.length+1) fY=true:=by
 unfold Io at h;split at h
 . rename_i o h1 a;split at h
   . cases h;have:ops=ops.dropLast++[last]:=by
      obtain⟨l,rfl⟩:=List.getLast?_eq_some_iff.1 a;simp
     grind
   . cases h
 . cases h
def kn(fo:fU U)(d:kX U)(kk:Nat):dy->Nat->bU U->bf U->Nat->um U R->Option R
 |.skip,_,env,J,N,k=>k .normal env J N
 |.ret,_,env,J,N,k=>k .ret env J N
 |.exit i,_,env,J,N,k=>k (.exit i) env J N
 |.region ops,_,env,J,N,k=>pB fo none ops N [] [] env J λgl env J=>Ee (Ab gl env) J (N+16*ops.length) λenv J N=>k .normal env J N
 |.om ops fY,_,env,J,N,k=>match Io ops fY with
  |some (init,last)=>pB fo (some []) init N [] [] env J λgl env J=>match AK [] init env N fY with
   |true=>pB fo none [last] (N+16*init.length) gl [] env J λgl env J=>k .normal (Ab gl env) J (N+16*init.length+16)
   |false=>none
  |none=>pB fo (some (Pc fo J ops)) ops N [] [] env J λgl env' J'=>match AK (Pc fo J ops) ops env' N fY with
   |true=>Ee (Ab gl env') J' (N+16*ops.length) λenv J N=>k .normal env J N
   |false=>none
 |.seq a b,pos,env,J,N,k=>kn fo d kk a pos env J N λe env J N=>match e with
  |.normal=>kn fo d kk b (pos+gm a) env J N k
  |e=>k e env J N
 |.cond c a b,pos,env,J,N,k=>match dd [] none env c with
  |some (.c (.t ⟨.bool,x⟩))=>aga x (kn fo d kk a pos env J N k) (kn fo d kk b (pos+gm a) env J N k)
  |_=>none
 |.block id b,pos,env,J,N,k=>kn fo d kk b pos env J N λe env J N=>match e with
  |.exit i=>match Nat.beq i id with
   |true=>k .normal env J N
   |false=>k (.exit i) env J N
  |e=>k e env J N
 |.loop b,pos,env,J,N,k=>match d pos with
  |none=>none
  |some L=>match rP kk L.own L.bx L.ts env J N with
   |none=>none
   |some h=>(L.F h)>>=λo=>Iw k L.outs o
section
variable {P:Program}{nt kk N:Nat}{env:bU U}{J:bf U}{env1:Env}{J1:a8}
def uc(kk:Nat)(Q:Exit->Env->a8->Nat->Prop):Prop:=∀e N env J N' env' J',Conv kk N env J N' env' J'->Q e env' J' N'->Q e env J N
def mV(P:Program)(nt kk:Nat)(b:dy)(bx:Shape)(ts:List aJ)(outs:List jE)(h:aL U.D ts)(o:eA U outs):Prop:=
 ∀env1 J1,c3 bx.st.length (hn U bx (aL.cells U.D ts h)).2 (λ_=>true) (hn U bx (aL.cells U.D ts h)).1 env1->cx bx.st.length (hn U bx (aL.cells U.D ts h)).2 J1->kk<=bx.st.length->
  ∀Q,uc kk Q->(∀a bo,c3 (ia outs o).2.2.2 (ia outs o).2.2.1 (λ_=>true) (ia outs o).2.1 a->cx (ia outs o).2.2.2 (ia outs o).2.2.1 bo->kk<=(ia outs o).2.2.2->Q (ia outs o).1 a bo (ia outs o).2.2.2)->
   l8 P nt kk b env1 J1 bx.st.length Q
def ug(P:Program)(nt kk:Nat)(a:dy)(L:gX U):Prop:=
 ∀h o,L.F h=some o->mV P nt kk a L.bx L.ts L.outs h o
def gC(P:Program)(nt kk:Nat)(c:kX U):Nat->dy->Prop
 |pos,.seq a b=>gC P nt kk c pos a/\gC P nt kk c (pos+gm a) b
 |pos,.cond _ a b=>gC P nt kk c pos a/\gC P nt kk c (pos+gm a) b
 |pos,.block _ b=>gC P nt kk c pos b
 |pos,.loop b=>(∀L,c pos=some L->ug P nt kk b L)
 |_,_=>True
theorem uc.andThen{next:Env->a8->Nat->Prop}(h:uc kk Q)(aD:∀N env J N' env' J',Conv kk N env J N' env' J'->next env' J' N'->next env J N):uc kk (andThen next Q):=by
 intro e N env J N' env' J' a c;cases e with
 |normal=>exact aD _ _ _ _ _ _ a c
 |_=>exact h _ _ _ _ _ _ _ a c
theorem tA{fo:fU U}(w:fH P fo){K:kX U}:∀{c:dy} {pos:Nat} {env:bU U} {J:bf U} {N:Nat} {k:um U R} {r:R} {env1:Env} {J1:a8} {Q:Exit->Env->a8->Nat->Prop},
 gC P nt kk K pos c->kn fo K kk c pos env J N k=some r->c3 N J (λ_=>true) env env1->cx N J J1->kk<=N->uc kk Q->
 (∀e env' J' N' u bo,k e env' J' N'=some r->c3 N' J' (λ_=>true) env' u->cx N' J' bo->kk<=N'->Q e u bo N')->cu P nt kk c env1 J1 N Q
 |.skip,pos,env,J,N,k,r,env1,J1,Q,af,d,he,aF,n,m,f=>cu.skip (f _ _ _ _ _ _ d he aF n)
 |.ret,pos,env,J,N,k,r,env1,J1,Q,af,d,he,aF,n,m,f=>cu.ret (f _ _ _ _ _ _ d he aF n)
 |.exit i,pos,env,J,N,k,r,env1,J1,Q,af,d,he,aF,n,m,f=>cu.exit (f _ _ _ _ _ _ d he aF n)
 |.region ops,pos,env,J,N,k,r,env1,J1,Q,af,d,he,aF,n,m,f=>
  cu.agE (GZ w (eF.begin he aF) d λH M env' J' u bo F h1 j=>by
   obtain⟨G,S,T,nb,O,A,B,C,D,Z⟩:=Je h1 j.clean j.eR (show kk<=_ by omega)
   exact m _ _ _ _ _ _ _ B (f _ _ _ _ _ _ A C D (by omega)))
 |.om ops fY,pos,env,J,N,k,r,env1,J1,Q,af,d,he,aF,n,m,f=>by
  simp only[kn]at d;split at d
  . rename_i init last ae;obtain⟨rfl,ag⟩:=W0 ae;refine cu.agF ag (Gu w (eF.begin he aF) d λH M env' J' u bo F h1 j=>?_);split at h1
    . rename_i q;refine⟨GJ j.gM q,GZ w (l:=[last]) (nf:=[]) ⟨j.gM,j.al,j.eR,λg al=>by simp at al⟩ h1 λan ao G S nb O ai s v=>f _ _ _ _ _ _ s v.clean v.eR (by omega)⟩
    . cases h1
  . refine cu.om (Gu w (eF.begin he aF) d λH M env' J' u bo F h1 j=>?_);split at h1
    . rename_i q;obtain⟨G,S,T,nb,O,A,B,C,D,Z⟩:=Je h1 j.clean j.eR (show kk<=_ by omega);exact⟨GJ j.gM q,m _ _ _ _ _ _ _ B (f _ _ _ _ _ _ A C D (by omega))⟩
    . cases h1
 |.seq a b,pos,env,J,N,k,r,env1,J1,Q,af,d,he,aF,n,m,f=>by
  simp only[kn]at d;refine cu.seq (tA w af.1 d he aF n (m.andThen λN env J N' env' J' q h=>cu.conv q h) λe env' J' N' u bo h1 j s v=>?_);cases e with
  |normal=>exact tA w af.2 h1 j s v m f
  |_=>exact f _ _ _ _ _ _ h1 j s v
 |.cond c a b,pos,env,J,N,k,r,env1,J1,Q,af,d,he,aF,n,m,f=>by
  simp only[kn]at d;split at d
  . rename_i x q;have al:gI [] env (λ_=>true):=⟨λ_ _=>rfl,λk t b h=>by simp[aX]at h⟩
    obtain⟨p,v1,a1,a2,a3⟩:=cv he al q;have:=a2.js;subst this;refine cu.cond a1 (a3 rfl) (λy=>?_) (λy=>?_)
    . subst y;exact tA w af.1 d he aF n m f
    . subst y;exact tA w af.2 d he aF n m f
  . cases d
 |.block id b,pos,env,J,N,k,r,env1,J1,Q,af,d,he,aF,n,m,f=>by
  simp only[kn]at d;refine cu.block (tA w af d he aF n ?_ λe env' J' N' u bo h1 j s v=>?_)
  . intro e N env J N' env' J' q z;cases e with
    |exit i=>
     simp only[inBlock]at z⊢;split at z
     . rename_i E;rw[ad E];exact m _ _ _ _ _ _ _ q z
     . rename_i E;rw[ak E];exact m _ _ _ _ _ _ _ q z
    |_=>exact m _ _ _ _ _ _ _ q z
  . cases e with
    |exit i=>
     simp only[inBlock];simp only at h1;split at h1
     . rename_i y;rw[ad (cT y)];exact f _ _ _ _ _ _ h1 j s v
     . rename_i y;rw[ak (hE y)];exact f _ _ _ _ _ _ h1 j s v
    |_=>exact f _ _ _ _ _ _ h1 j s v
 |.loop b,pos,env,J,N,k,r,env1,J1,Q,af,d,he,aF,n,m,f=>by
  simp only[kn]at d;split at d
  . cases d
  . rename_i L aa;split at d
    . cases d
    . rename_i h ab;obtain⟨o,ah,I⟩:=tQ.1 d;rw[M3]at I;obtain⟨u,bo,V,W,X,Y⟩:=CE ab he aF n;exact cu.conv V (cu.agj (af L aa h o ah u bo W X Y Q m λam aj h1 j s=>f _ _ _ _ _ _ I h1 j s))
theorem mV.agv {fo:fU U}(R:fH P fo){K:kX U}{u:dy}{bx:Shape}{own:List (Pos×aJ)}{ts:List aJ}{outs:List jE}{h:aL U.D ts}{o:eA U outs}{F':aL U.D ts->Option (eA U outs)}
 (S:gC P nt kk K 0 u)(L:∀h o,F' h=some o->mV P nt kk u bx ts outs h o)
 (Y:kn fo K kk u 0 (hn U bx (aL.cells U.D ts h)).1 (hn U bx (aL.cells U.D ts h)).2 bx.st.length (λe env J N=>match e with
  |.normal=>match rP kk own bx ts env J N with
   |some y=>F' y
   |none=>none
  |e=>rB kk outs e env J N)=some o):mV P nt kk u bx ts outs h o:=by
 intro env1 J1 he aF q Q z H;refine l8.round (tA R S Y he aF q (z.andThen λN env J N' env' J' M h=>l8.conv M h) λe env' J' N' w bo h1 E F G=>?_);have t:∀v,v=e->v≠.normal->rB kk outs v env' J' N'=some o->Q e w bo N':=by
  intro v O af X;subst O;obtain⟨aK,s1,c,f,j,p,x⟩:=Q' X E F G;exact z _ _ _ _ _ _ _ c (by rw[x];exact H _ _ f j p)
 cases e with
 |normal=>
  simp only at h1;split at h1
  . rename_i y B;obtain⟨aK,s1,c,f,j,p⟩:=CE B E F G;exact l8.conv c (L y o h1 aK s1 f j p Q z H)
  . cases h1
 |exit i=>exact t _ rfl (by simp) h1
 |ret=>exact t _ rfl (by simp) h1
 |goto l=>exact t _ rfl (by simp) h1
 |panic Z=>exact t _ rfl (by simp) h1
 |outgrown=>exact t _ rfl (by simp) h1
where
 Q' {N:Nat} {env:bU U} {J:bf U} {env1:Env} {J1:a8}:∀ {outs:List jE} {e:Exit} {o:eA U outs},rB kk outs e env J N = some o->c3 N J (λ_=>true) env env1->cx N J J1->kk<=N->
  ∃w bo,Conv kk N env1 J1 (ia outs o).2.2.2 w bo/\c3 (ia outs o).2.2.2 (ia outs o).2.2.1 (λ_=>true) (ia outs o).2.1 w/\cx (ia outs o).2.2.2 (ia outs o).2.2.1 bo/\kk<=(ia outs o).2.2.2/\e=(ia outs o).1
  |[],e,o,h,_,_,_=>by simp[rB]at h
  |[a],e,o,h,he,aF,q=>by
   simp only[rB]at h;split at h
   . rename_i A;obtain⟨aK,s1,c,f,j,p⟩:=CE h he aF q;exact⟨aK,s1,c,f,j,p,J4 A⟩
   . cases h
  |a::b::r,e,o,h,he,aF,q=>by
   simp only[rB]at h;split at h
   . rename_i A;split at h
     . rename_i aa B;cases h;obtain⟨aK,s1,c,f,j,p⟩:=CE B he aF q;exact⟨aK,s1,c,f,j,p,J4 A⟩
     . cases h
   . split at h
     . rename_i am W;cases h;obtain⟨aK,s1,c,f,j,p,x⟩:=Q' W he aF q;exact⟨aK,s1,c,f,j,p,x⟩
     . cases h
end
end
open Go
variable {U:cK}{R:Type}
def ua:Nat->List (bz U)->bU U
 |_,[]=>[]
 |i,v::vs=>(i,v)::ua (i+1) vs
def HQ(env:bU U)(J:bf U):jm->Option (bz U)
 |.tmp t=>aX env t
 |.cell t g k=>match aX env t with
  |some (.c (.ptr b o))=>match aX J b with
   |some (.box cs)=>qU g k cs o
   |_=>none
  |_=>none
def vD(env:bU U)(J:bf U):List jm->Option (List (bz U))
 |[]=>some []
 |r::a=>match HQ env J r,vD env J a with
  |some v,some vs=>some (v::vs)
  |_,_=>none
def IB:List (bz U)->bz U
 |[]=>.aY []
 |[v]=>v
 |v::w::vs=>.aY (v::w::vs)
def AR(kk:Nat)(c:List jm)(eR:e1)(er:List fJ)(us:List aJ)(env:bU U)(J:bf U):Option (aL U.D us):=
 match vD env J c with
 |none=>none
 |some vs=>match wz J kk 0 er (FO eR (IB vs) ([],[])) []with
  |(bs,d)=>match kT d env J with
   |none=>none
   |some (env',J')=>match vD env' J' c with
    |none=>none
    |some e=>match tf bs&&(keeps kk bs&&Nat.beq bs.length er.length)with
     |false=>none
     |true=>match jN bs eR (IB e),iV bs J' 0 er with
      |some a,some b=>aL.dec U.D us (a++b)
      |_,_=>none
def RL(kk:Nat)(a:List jm)(eR:e1)(er:List fJ)(us:List aJ):um U (aL U.D us)
 |.normal,env,J,_=>AR kk a eR er us env J
 |.ret,env,J,_=>AR kk a eR er us env J
 |_,_,_,_=>none
variable{Q:Exit->Env->a8->Nat->Prop}{c:dy}{kk nt f:Nat}{p:a7}
section
variable {P:Program}{nt kk N:Nat}{env:bU U}{J:bf U}{env1:Env}{J1:a8}
def wV(kk:Nat)(Q:Exit->Env->a8->Nat->Prop):Exit->Env->a8->Nat->Prop:=
 λe env J N=>∃N' env' J',Conv kk N env J N' env' J'/\Q e env' J' N'
theorem wV.aea:uc kk (wV kk Q):=
 λe N env J N' env' J' h ⟨a,c,o,f,j⟩=>⟨a,c,o,h.trans f,j⟩
theorem cu.ag'{env:Env}{J:a8}(h:cu P nt kk c env J N (wV kk Q)):cu P nt kk c env J N Q:=
 λcode u aC φ S a w f R=>wp_mono (h code u aC φ S a w f R) λe a w ⟨y,bQ,env',J',N',⟨j,q,x,t,v⟩,R'⟩=>
  let⟨z,p,o⟩:=t aC nt y bQ a w f R';⟨z,p,q,x,j,v,o⟩
theorem XN(he:c3 N J (λ_=>true) env env1)(aF:cx N J J1){a:jm}{v:bz U}(h:HQ env J a=some v):∃p v1,te env1 J1 a=some (p,v1)/\p/\ca N J v v1:=by
 cases a with
 |tmp t=>
  obtain⟨v1,h1,c⟩:=he t v h;exact⟨True,v1,by simp[te,h1],trivial,c⟩
 |cell t g k=>
  simp only[HQ]at h;split at h
  . rename_i b o j;split at h
    . rename_i cs i;obtain⟨v1,h1,c⟩:=he t _ j;have:=c.hQ;subst this;obtain⟨_,y,e,d⟩:=aF b _ i;cases d with
      |box d=>
       obtain⟨l,ba,f⟩:=uX d h;exact⟨True,l,by simp[te,h1,e,ba],trivial,f⟩
    . cases h
  . cases h
theorem Ta(he:c3 N J (λ_=>true) env env1)(aF:cx N J J1):∀{a:List jm} {vs:List (bz U)},vD env J a=some vs->∃p vs1,n0 env1 J1 a=some (p,vs1)/\p/\a' (ca N J) vs vs1
 |[],vs,h=>by simp[vD]at h;subst h;exact⟨_,[],rfl,trivial,.nil⟩
 |r::c,vs,h=>by
  simp only[vD]at h;split at h
  . rename_i v d h1 b;cases h;obtain⟨p,v1,a1,a2,a3⟩:=XN he aF h1;obtain⟨q,vs1,b1,b2,b3⟩:=Ta he aF b;exact⟨p/\q,v1::vs1,by simp[n0,a1,b1],⟨a2,b2⟩,.cons a3 b3⟩
  . cases h
theorem XW{vs:List (bz U)}{vs1:List V}(h:a' (ca N J) vs vs1):ca N J (IB vs) (l3 vs1):=by
 cases h with
 |nil=>exact .aY [] [] rfl (by simp)
 |cons h1 a=>
  cases a with
  |nil=>exact h1
  |cons a b=>
   refine .aY _ _ (by simp[b.length]) λi x d c g=>?_;obtain⟨e,aK,f⟩:=(a'.cons h1 (.cons a b)).get c;grind
def Ep(s:cB U)(r:aL U.D s.us):V->a8->Nat->Prop:=λa bo N'=>N'=s.er.length/\ca N' (s.rest r) (s.res r) a/\cx N' (s.rest r) bo
theorem XX{d:List jm}{s:cB U}{r:aL U.D s.us}(h:AR kk d s.eR s.er s.us env J=some r)(he:c3 N J (λ_=>true) env env1)(aF:cx N J J1):
 ∃j bo,Conv kk N env1 J1 N j bo/\∃p vs1,n0 j bo d=some (p,vs1)/\p/\
  ∃bs c J2,bs.Nodup/\keeps kk bs=true/\gi ((l3 vs1).bN bs) c/\rX (fp bs bo 0 bs) J2/\Ep s r c J2 bs.length:=by
 unfold AR at h;split at h
 . cases h
 . split at h;rename_i bs E _;split at h
   . cases h
   . rename_i env' J' z;obtain⟨aK,s1,n,o,e,_⟩:=yZ (kk:=kk) (gl:=[]) z he aF;split at h
     . cases h
     . rename_i F B;split at h
       . cases h
       . rename_i k;simp only[cd]at k;obtain⟨v,w,x⟩:=k;have bT:=zi v;have A:=cT x;split at h
         . rename_i a b u l;obtain⟨p,vs1,d1,d2,d3⟩:=Ta o e B;obtain⟨y,f,g⟩:=Ey bT (z' bT l) u;obtain⟨c,q,t⟩:=g _ (XW d3);obtain⟨C,t1,t2⟩:=De bT e l;have m:=aL.fb h;have aK:s.res r=y:=by unfold cB.res;rw[m,f]
           have i:s.rest r=gv 0 s.er b:=by unfold cB.rest;rw[m,f]
           exact⟨_,_,n,p,vs1,d1,d2,bs,c,C,bT,w,q,t1,A,by rw[aK,i];exact t,by rw[i];exact t2⟩
         . cases h
def ue(P:Program)(s:cB U)(h:aL U.D s.ts)(r:aL U.D s.us):Prop:=
 ∀(a:List V) J1,a' (ca s.st.length (s.iE h)) (s.args h) a->cx s.st.length (s.iE h) J1->ea P s.f a J1 s.st.length (Ep s r)
theorem hV.of{s:cB U}(h:∀h r,s.F h=some r->ue P s h r):hV P s:=h
theorem ue.Fw {s:cB U}{fn:Func}{c:dy}{j:List jm}{fo:fU U}{y:kX U}(W:P.funcs[s.f]?=some fn)(O:fn.body.bind (resolve P fn.ntmps)=some c)(am:hZ P fn.results.toList=some j)(aD:Nat.ble s.gA.length fn.ntmps=true)
 (X:fH P fo)(af:gC P fn.ntmps s.st.length y 0 c)
 {h:aL U.D s.ts}{r:aL U.D s.us}(t:Eb s.st.length (s.iE h) (λJ N=>kn fo y s.st.length c 0 (ua 0 (s.args h)) J N (RL s.st.length j s.eR s.er s.us))=some r):ue P s h r:=by
 intro u J1 L aF;have Z:u.length<=fn.ntmps:=by
  rw[<-L.length];refine h9 (wk ?_) (h2 aD);unfold cB.args;exact QN
 have Q:c3 s.st.length (s.iE h) (λ_=>true) (ua 0 (s.args h)) (fP 0 u):=by
  intro k v aI;have key:∀{xs:List (bz U)} {ds:List V} {i:Nat},a' (ca s.st.length (s.iE h)) xs ds->aX (ua i xs) k=some v->∃v1,look (fP i ds) k=some (true,v1)/\ca s.st.length (s.iE h) v v1:=by
   intro xs;induction xs with
   |nil=>intro ds i _ h;simp[ua,aX]at h
   |cons x xs ih=>
    intro ds i ap q;cases ap with
    |cons h1 o=>
     simp only[ua,aX]at q;simp only[fP,look];split at q
     . simp_all
     . rename_i M;rw[ak (hE M)];exact ih o q
  grind
 obtain⟨ax,Nm,aB,t,F,S,K,Y⟩:=YC t Q aF;refine ea.tidy (ea.mk (nt:=fn.ntmps) W O am rfl Z (cu.conv F (cu.ag' (tA X af t S K Y wV.aea λe env' J' N' G bo h1 o H aC=>?_)))) (λz s1 B aa=>aa)
 . have w:AR s.st.length j s.eR s.er s.us env' J'=some r->(e= .normal\/e= .ret)->wV s.st.length (Ej j λz s1 B=>∃bs A J2,bs.Nodup/\keeps s.st.length bs=true/\gi (z.bN bs) A/\rX (fp bs s1 0 bs) J2/\Ep s r A J2 bs.length) e G bo N':=by
    intro an R;obtain⟨aK,s1,E,p,vs1,d1,d2,rest⟩:=XX an o H;refine⟨N',aK,s1,E,?_⟩;rcases R with rfl|rfl
    . exact⟨p,vs1,d1,d2,rest⟩
    . exact⟨p,vs1,d1,d2,rest⟩
   cases e with
   |normal=>exact w h1 (.inl rfl)
   |ret=>exact w h1 (.inr rfl)
   |_=>cases h1
where
 QN:∀{ss:List e1} {a:eP U},(kN ss a).1.length=ss.length
  |[],a=>rfl
  |s::ss,a=>by
   simp only[kN];have:=QN (ss:=ss) (a:=(kM s a).2);simp[this]
def h4:dy->Nat->Option dy
 |.seq a b,q=>match Nat.ble (gm a) q with
  |true=>h4 b (q-gm a)
  |false=>h4 a q
 |.cond _ a b,q=>match Nat.ble (gm a) q with
  |true=>h4 b (q-gm a)
  |false=>h4 a q
 |.block _ b,q=>h4 b q
 |.loop b,q=>match q with
  |0=>some b
  |q+1=>h4 b q
 |_,_=>none
theorem gC.of{o:kX U}:∀{c:dy} {pos:Nat},(∀q b L,h4 c q=some b->o (pos+q)=some L->ug P nt kk b L)->gC P nt kk o pos c
 |.seq a b,pos,h=>by
  refine⟨gC.of λq e L h1 f=>h q e L ?_ f,gC.of λq e L h1 f=>h (gm a+q) e L ?_ (by rw[<-p5];exact f)⟩
  . simp only[h4];cases j:Nat.ble (gm a) q with
    |true=>exact absurd (rm h1) (by have:=h2 j;omega)
    |false=>exact h1
  . simp only[h4];have:Nat.ble (gm a) (gm a+q)=true:=(by simp);grind
 |.cond c a b,pos,h=>by
  refine⟨gC.of λq e L h1 f=>h q e L ?_ f,gC.of λq e L h1 f=>h (gm a+q) e L ?_ (by rw[<-p5];exact f)⟩
  . simp only[h4];cases j:Nat.ble (gm a) q with
    |true=>exact absurd (rm h1) (by have:=h2 j;omega)
    |false=>exact h1
  . simp only[h4];have:Nat.ble (gm a) (gm a+q)=true:=(by simp);grind
 |.block id b,pos,h=>gC.of (c:=b) h
 |.loop b,pos,h=>λL p=>h 0 b L rfl p
 |.skip,pos,h=>trivial
 |.region _,pos,h=>trivial
 |.om _ _,pos,h=>trivial
 |.exit _,pos,h=>trivial
 |.ret,pos,h=>trivial
where
 rm:∀{c:dy} {q:Nat} {b:dy},h4 c q=some b->q<gm c
  |.seq a b,q,e,h=>by
   simp only[h4]at h;simp only[gm];split at h
   . rename_i j;have:=rm h;have:=h2 j;omega
   . have:=rm h;omega
  |.cond _ a b,q,e,h=>by
   simp only[h4]at h;simp only[gm];split at h
   . rename_i j;have:=rm h;have:=h2 j;omega
   . have:=rm h;omega
  |.block _ b,q,e,h=>rm (c:=b) h
  |.loop b,0,e,h=>by simp[gm]
  |.loop b,q+1,e,h=>by have:=rm (c:=b) h;simp only[gm];omega
  |.skip,q,e,h=>by simp[h4]at h
  |.region _,q,e,h=>by simp[h4]at h
  |.om _ _,q,e,h=>by simp[h4]at h
  |.exit _,q,e,h=>by simp[h4]at h
  |.ret,q,e,h=>by simp[h4]at h
theorem gC.Q5{a:kX U}(h:∀q L,a q=some L->ug P nt kk ((h4 c q).getD .skip) L):gC P nt kk a 0 c:=
 gC.of λq b L h1 e=>by grind
theorem gC.none:gC P nt kk (λ_=>none:kX U) 0 c:=gC.Q5 λq L h=>by cases h
theorem fH.none:fH P (λ_=>[]:fU U):=λf s h=>by simp at h
end
open Go
def H6(P:Program)(fn:Func):dy:=
 match fn.body.bind (Shv.resolve P fn.ntmps)with
 |some c=>c
 |none=>.skip
def vP(c:dy)(q:Nat):dy:=(h4 c q).getD .skip
def hL{U:cK}:List (cB U)->fU U
 |[],_=>[]
 |s::l,f=>match Nat.beq s.f f with
  |true=>s::hL l f
  |false=>hL l f
def kO{U:cK}(l:List (Nat×gX U)):kX U:=λq=>aX l q
theorem fH.nil{U:cK}{P:Program}:fH P (hL ([]:List (cB U))):=λf s h=>by simp[hL]at h
theorem fH.cons{U:cK}{P:Program}{s:cB U}{l:List (cB U)}(c:hF P s.f=true)(hs:hV P s)(h:fH P (hL l)):fH P (hL (s::l)):=by
 intro f t ht;simp only[hL]at ht;split at ht
 . rename_i a;have:=cT a;rcases fe.1 ht with rfl|ht
   . grind
   . exact h f t ht
 . exact h f t ht
def jr{U:cK}(P:Program)(nt kk:Nat)(c:dy)(l:List (Nat×gX U)):Prop:=∀q L,aX l q=some L->ug P nt kk (vP c q) L
theorem jr.nil{U:cK}{P:Program}{nt kk:Nat}{c:dy}:jr P nt kk c ([]:List (Nat×gX U)):=λq L h=>by simp[aX]at h
theorem jr.cons{U:cK}{P:Program}{nt kk:Nat}{c:dy}{q:Nat}{L:gX U}{l:List (Nat×gX U)}(f:ug P nt kk (vP c q) L)(h:jr P nt kk c l):jr P nt kk c ((q,L)::l):=by
 intro e L' a;simp only[aX]at a;split at a
 . simp_all
 . exact h e L' a
theorem jr.snd{U:cK}{P:Program}{l:List (Nat×gX U)}(h:jr P nt kk c l):gC P nt kk (kO l) 0 c:=gC.Q5 λq L a=>h q L a
def aM(k:IntKind)(a b:Int):Int:=k.wrap (a+b)
def df(k:IntKind)(a b:Int):Int:=k.wrap (a-b)
def gw(k:IntKind)(a b:Int):Int:=k.wrap (a*b)
def fv(k:IntKind)(a b:Int):Int:=k.wrap (a.tdiv b)
def b'(a b:Int):Int:=a.tmod b
def A1(k:IntKind)(a b:Int):Int:=k.wrap (BitVec.ofInt k.bits a &&& BitVec.ofInt k.bits b).toNat
def rC(k:IntKind)(a b:Int):Int:=k.wrap (BitVec.ofInt k.bits a ||| BitVec.ofInt k.bits b).toNat
def ub(k:IntKind)(a b:Int):Int:=k.wrap (BitVec.ofInt k.bits a ^^^ BitVec.ofInt k.bits b).toNat
def mO(k:IntKind)(a b:Int):Int:=k.wrap (a*2^min b.toNat k.bits)
def lr(k:IntKind)(a b:Int):Int:=a.fdiv (2^min b.toNat k.bits)
open Go
variable {U:cK}
structure gp where
 q:Nat
 bx:Shape
 own:List (Pos×aJ)
 Ap:List (Pos×aJ)
 ts:List aJ
 outs:List jE
 sub:List gp
structure ev where
 f:Nat
 gA:List e1
 st:List fJ
 ts:List aJ
 eR:e1
 er:List fJ
 us:List aJ
 sub:List gp
def gp.l(e:gp)(F:aL U.D e.ts->Option (eA U e.outs)):gX U:=⟨e.bx,e.own,e.ts,e.outs,F⟩
def ev.s(e:ev)(F:aL U.D e.ts->Option (aL U.D e.us)):cB U:=⟨e.f,e.gA,e.st,e.ts,e.eR,e.er,e.us,F⟩
def codeF(P:Program)(f:Nat):dy:=match P.funcs[f]? with
 |some fn=>H6 P fn
 |none=>.skip
def xJ(P:Program)(f:Nat):Nat:=match P.funcs[f]? with
 |some fn=>fn.ntmps
 |none=>0
def O1(P:Program)(f:Nat):List jm:=match P.funcs[f]? with
 |some fn=>(match hZ P fn.results.toList with
  |some r=>r
  |none=>[])
 |none=>[]
def tS(P:Program)(e:ev):Bool:=match P.funcs[e.f]? with
 |some fn=>hF P e.f&&((fn.body.bind (resolve P fn.ntmps)).isSome&&((hZ P fn.results.toList).isSome&&Nat.ble e.gA.length fn.ntmps))
 |none=>false
def iC(P:Program)(e:ev):Prop:=tS P e=true
theorem iC.m{P:Program}{e:ev}(h:tS P e=true):iC P e:=h
def qV(fo:fU U)(c:kX U)(kk:Nat)(b:dy)(e:gp)(F':aL U.D e.ts->Option (eA U e.outs))(h:aL U.D e.ts):Option (eA U e.outs):=
 kn fo c kk b 0 (hn U e.bx (aL.cells U.D e.ts h)).1 (hn U e.bx (aL.cells U.D e.ts h)).2 e.bx.st.length (λx env J N=>match x with
  |.normal=>match rP kk e.Ap e.bx e.ts env J N with
   |some a=>F' a
   |none=>none
  |x=>rB kk e.outs x env J N)
def p'(fo:fU U)(a:kX U)(P:Program)(e:ev)(h:aL U.D e.ts):Option (aL U.D e.us):=
 Eb e.st.length (gv 0 e.st (kN e.gA (aL.cells U.D e.ts h)).2) λJ N=>kn fo a e.st.length (codeF P e.f) 0 (ua 0 (kN e.gA (aL.cells U.D e.ts h)).1) J N (RL e.st.length (O1 P e.f) e.eR e.er e.us)
variable{e:ev}
section
variable {P:Program}
variable{fo:fU U}
theorem IL(d:fH P fo){a:kX U}{b:dy}{e:gp}{h:aL U.D e.ts}{o:eA U e.outs}{F':aL U.D e.ts->Option (eA U e.outs)}
 (f:gC P nt kk a 0 b)(c:∀h o,F' h=some o->mV P nt kk b e.bx e.ts e.outs h o)(g:qV fo a kk b e F' h=some o):mV P nt kk b e.bx e.ts e.outs h o:=by
 refine mV.agv (own:=e.Ap) d f c (Eq.trans ?_ g);unfold qV
 congr 1
 funext x env J N
 cases x with
 |normal=>
  dsimp only;generalize rP kk e.Ap e.bx e.ts env J N=z;cases z<;>rfl
 |_=>rfl
theorem J5{k:kX U}(a:iC P e)(F:aL U.D e.ts->Option (aL U.D e.us))(o:fH P fo)(b:gC P (xJ P e.f) e.st.length k 0 (codeF P e.f))
 {h:aL U.D e.ts}{r:aL U.D e.us}(d:p' fo k P e h=some r):ue P (e.s F) h r:=by
 unfold iC tS at a;unfold codeF at b;unfold xJ at b;unfold p' codeF O1 at d;split at a
 . rename_i fn i;simp only[i]at b d;simp only[cd]at a;obtain⟨q,m,ba,n⟩:=a;obtain⟨c,g⟩:=yv.1 m;obtain⟨p,j⟩:=yv.1 ba;have l:H6 P fn=c:=by unfold H6;rw[g]
   rw[l]at b d;simp only[j]at d;exact ue.Fw (s:=e.s F) i g j n o b d
 . cases a
theorem iC.b{e:ev}(a:iC P e):hF P e.f=true:=by
 unfold iC tS at a;grind
def xq(fo:fU U)(kk:Nat):Nat->dy->(e:gp)->aL U.D e.ts->Option (eA U e.outs)
 |0,_,_,_=>none
 |n+1,b,e,h=>qV fo (kO (e.sub.map λs=>(s.q,s.l (xq fo kk n (vP b s.q) s)))) kk b e (xq fo kk n b e) h
def tZ(g:(e:ev)->aL U.D e.ts->Option (aL U.D e.us))(r:List (cB U)):List ev->fU U
 |[],f=>hL r f
 |e::T,f=>match Nat.beq e.f f with
  |true=>e.s (g e)::tZ g r T f
  |false=>tZ g r T f
def lh(P:Program)(T:List ev)(a:List (cB U)):Nat->(e:ev)->aL U.D e.ts->Option (aL U.D e.us)
 |0,_,_=>none
 |n+1,e,h=>p' (tZ (lh P T a n) a T) (kO (e.sub.map λs=>(s.q,s.l (xq (tZ (lh P T a n) a T) e.st.length n (vP (codeF P e.f) s.q) s)))) P e h
theorem E1{b:dy}{g:(s:gp)->aL U.D s.ts->Option (eA U s.outs)}:∀{l:List gp},(∀s h o,g s h=some o->mV P nt kk (vP b s.q) s.bx s.ts s.outs h o)->jr P nt kk b (l.map λs=>(s.q,s.l (g s)))
 |[],_=>jr.nil
 |s::l,al=>jr.cons (λh o a=>al s h o a) (E1 (l:=l) al)
theorem HR(a:fH P fo):∀(n:Nat) (b:dy) (e:gp) (h:aL U.D e.ts) (o:eA U e.outs),xq fo kk n b e h=some o->mV P nt kk b e.bx e.ts e.outs h o
 |0,_,_,_,_,d=>by simp[xq]at d
 |n+1,b,e,h,o,d=>IL a (jr.snd (E1 λs h o c=>HR a n _ s h o c)) (λh o c=>HR a n b e h o c) d
theorem M4{g:(e:ev)->aL U.D e.ts->Option (aL U.D e.us)}{r:List (cB U)}(c:fH P (hL r)):∀{T:List ev},(∀e,e∈T->iC P e)->(∀e,e∈T->hV P (e.s (g e)))->fH P (tZ g r T)
 |[],_,_=>c
 |e::T,a,al=>by
  intro f t ht;simp only[tZ]at ht;have ih:=M4 c (λe he=>a e (Fh _ he)) (λe he=>al e (Fh _ he));split at ht
  . rename_i d;have:=cT d;rcases fe.1 ht with rfl|ht
    . exact⟨this,by rw[<-this];exact(a e Fk).b,al e Fk⟩
    . exact ih f t ht
  . exact ih f t ht
theorem M5{T:List ev}(b:∀e,e∈T->iC P e){a:List (cB U)}(f:fH P (hL a)):∀(n:Nat) (e:ev),iC P e->hV P (e.s (lh P T a n e))
 |0,e,_=>λh r c=>by simp[ev.s,lh]at c
 |n+1,e,he=>hV.of λh r c=>
  have g:fH P (tZ (lh P T a n) a T):=M4 f b λd i=>M5 b f n d (b d i)
  J5 he _ g (jr.snd (E1 λs h o j=>HR g n _ s h o j)) c
end
open Go
variable {U:cK}{P:Program}
def gW(P:Program)(s:cB U):Prop:=hF P s.f=true/\hV P s
def p6(P:Program)(f:Nat):a7->dy
 |[]=>codeF P f
 |q::p=>vP (p6 P f p) q
def mX(P:Program)(f kk:Nat)(p:a7)(e:gp)(F:aL U.D e.ts->Option (eA U e.outs)):Prop:=ug P (xJ P f) kk (p6 P f p) (e.l F)
def jq(P:Program)(l:List (cB U)):Prop:=fH P (hL l)
theorem jq.n:jq P ([]:List (cB U)):=fH.nil
theorem jq.k{s:cB U}{l:List (cB U)}(h:gW P s)(af:jq P l):jq P (s::l):=fH.cons h.1 h.2 af
def jD(P:Program)(f kk:Nat)(p:a7)(l:List (Nat×gX U)):Prop:=jr P (xJ P f) kk (p6 P f p) l
theorem jD.n{f kk:Nat}{p:a7}:jD P f kk p ([]:List (Nat×gX U)):=jr.nil
theorem jD.k{f kk q:Nat}{p:a7}{e:gp}{F:aL U.D e.ts->Option (eA U e.outs)}{l:List (Nat×gX U)}(h:mX P f kk (q::p) e F)(af:jD P f kk p l):jD P f kk p ((q,e.l F)::l):=jr.cons h af
def AV(P:Program)(U:cK)(e:ev)(h:aL U.D e.ts)(r:aL U.D e.us):Prop:=ue P (e.s λ_=>none) h r
def wS(P:Program)(U:cK)(f kk:Nat)(p:a7)(e:gp)(h:aL U.D e.ts)(o:eA U e.outs):Prop:=mV P (xJ P f) kk (p6 P f p) e.bx e.ts e.outs h o
theorem AV.at(j:iC P e){fs:List (cB U)}(c:jq P fs){a:List (Nat×gX U)}(af:jD P e.f e.st.length [] a){h:aL U.D e.ts}{r:aL U.D e.us}(o:p' (hL fs) (kO a) P e h=some r):AV P U e h r:=
 J5 j _ c (jr.snd af) o
theorem wS.at{e:gp}{F':aL U.D e.ts->Option (eA U e.outs)}(bE:∀h o,F' h=some o->wS P U f kk p e h o){fs:List (cB U)}(c:jq P fs){a:List (Nat×gX U)}(af:jD P f kk p a){h:aL U.D e.ts}{o:eA U e.outs}
 (j:qV (hL fs) (kO a) kk (p6 P f p) e F' h=some o):wS P U f kk p e h o:=
 IL c (jr.snd af) bE j
theorem gW.of(a:iC P e){F:aL U.D e.ts->Option (aL U.D e.us)}(h:∀h r,F h=some r->AV P U e h r):gW P (e.s F):=⟨a.b,hV.of h⟩
theorem mX.of{e:gp}{F:aL U.D e.ts->Option (eA U e.outs)}(h:∀h o,F h=some o->wS P U f kk p e h o):mX P f kk p e F:=h
theorem gW.fn(a:iC P e){F:aL U.D e.ts->Option (aL U.D e.us)}{fs:List (cB U)}(j:jq P fs){c:List (Nat×gX U)}(af:jD P e.f e.st.length [] c)(p:∀h,p' (hL fs) (kO c) P e h=F h):gW P (e.s F):=
 .of a λh r o=>.at a j af ((p h).trans o)
theorem mX.ahA{e:gp}{F:aL U.D e.ts->Option (eA U e.outs)}{fs:List (cB U)}(c:jq P fs){a:List (Nat×gX U)}(af:jD P f kk p a)(q:∀h,qV (hL fs) (kO a) kk (p6 P f p) e (λ_=>none) h=F h):mX P f kk p e F:=
 .of λh o j=>.at (F':=λ_=>none) (λ_ _ h=>by cases h) c af ((q h).trans j)
theorem gW.rc(a:iC P e){F:aL U.D e.ts->Option (aL U.D e.us)}{b:(aL U.D e.ts->Option (aL U.D e.us))->aL U.D e.ts->Option (aL U.D e.us)}
 (q:∀m:aL U.D e.ts->aL U.D e.us->Prop,(∀F',(∀h r,F' h=some r->m h r)->∀h r,b F' h=some r->m h r)->∀h r,F h=some r->m h r)
 {fs:(aL U.D e.ts->Option (aL U.D e.us))->List (cB U)}(j:∀F',gW P (e.s F')->jq P (fs F')){c:List (Nat×gX U)}(af:jD P e.f e.st.length [] c)(p:∀F' h,p' (hL (fs F')) (kO c) P e h=b F' h):gW P (e.s F):=
 .of a (q _ λF' bE h r o=>.at a (j F' (.of a bE)) af ((p F' h).trans o))
theorem mX.rc{e:gp}{F:aL U.D e.ts->Option (eA U e.outs)}{b:(aL U.D e.ts->Option (eA U e.outs))->aL U.D e.ts->Option (eA U e.outs)}
 (t:∀m:aL U.D e.ts->eA U e.outs->Prop,(∀F',(∀h r,F' h=some r->m h r)->∀h r,b F' h=some r->m h r)->∀h r,F h=some r->m h r)
 {fs:List (cB U)}(c:jq P fs){a:List (Nat×gX U)}(af:jD P f kk p a)(q:∀F' h,qV (hL fs) (kO a) kk (p6 P f p) e F' h=b F' h):mX P f kk p e F:=
 .of (t _ λF' bE h o j=>.at bE c af ((q F' h).trans j))
theorem gW.bh{F:aL U.D e.ts->Option (aL U.D e.us)}{fs:List (cB U)}(c:jq P fs:=by exact .n){a:List (Nat×gX U)}(af:jD P e.f e.st.length [] a:=by exact .n)(j:iC P e:=by exact .m (by kernel_rfl))
 (o:∀h,p' (hL fs) (kO a) P e h=F h:=by intro _;kernel_rfl):gW P (e.s F):= .fn j c af o
theorem gW.rx{F:aL U.D e.ts->Option (aL U.D e.us)}{b:(aL U.D e.ts->Option (aL U.D e.us))->aL U.D e.ts->Option (aL U.D e.us)}
 (p:∀m:aL U.D e.ts->aL U.D e.us->Prop,(∀F',(∀h r,F' h=some r->m h r)->∀h r,b F' h=some r->m h r)->∀h r,F h=some r->m h r)
 {fs:(aL U.D e.ts->Option (aL U.D e.us))->List (cB U)}(c:∀F',gW P (e.s F')->jq P (fs F')){a:List (Nat×gX U)}(af:jD P e.f e.st.length [] a:=by exact .n)(j:iC P e:=by exact .m (by kernel_rfl))
 (o:∀F' h,p' (hL (fs F')) (kO a) P e h=b F' h:=by intro _ _;kernel_rfl):gW P (e.s F):= .rc j p c af o
theorem mX.rx {f kk:Nat}{p:a7}{e:gp}{F:aL U.D e.ts->Option (eA U e.outs)}{b:(aL U.D e.ts->Option (eA U e.outs))->aL U.D e.ts->Option (eA U e.outs)}
 (o:∀m:aL U.D e.ts->eA U e.outs->Prop,(∀F',(∀h r,F' h=some r->m h r)->∀h r,b F' h=some r->m h r)->∀h r,F h=some r->m h r)
 {fs:List (cB U)}(c:jq P fs:=by exact .n){a:List (Nat×gX U)}(af:jD P f kk p a:=by exact .n)(j:∀F' h,qV (hL fs) (kO a) kk (p6 P f p) e F' h=b F' h:=by intro _ _;kernel_rfl):mX P f kk p e F:= .rc o c af j
theorem ab2{T:List ev}(h:T.all (tS P)=true):∀e,e∈T->iC P e:=λe he=>cY.1 h e he
theorem gW.run{T:List ev}(c7:T.all (tS P)=true){a:List (cB U)}(f:jq P a)(c:iC P e){F:aL U.D e.ts->Option (aL U.D e.us)}(n:Nat)(h:∀h,F h=lh P T a n e h):gW P (e.s F):=
 ⟨c.b,λx r j=>M5 (ab2 c7) f n e c x r ((h x).symm.trans j)⟩
abbrev ab:aJ:= .int .i64
abbrev az(n:Nat):aJ:= .slice (.nm n)
abbrev jj:aJ:= .slice .str
abbrev bI:aJ:= .slice (.int .i64)
abbrev aa(t:aJ):e1:= .c (.hole t)
abbrev ar(b o:Nat):e1:= .c (.ptr b o)
abbrev cc(t:aJ):fJ:= .box [.hole t]
def cL:kr->List aJ
 |.hole t=>[t]
 |.cF _ _ _=>[.int .i64]
 |.dM t _=>[t]
 |_=>[]
def bE{α:Type}(f:α->List aJ):List α->List aJ
 |[]=>[]
 |a::l=>f a++bE f l
def QR:e1->List aJ
 |.c s=>cL s
 |.agg l=>bE cL l
 |.row n=>[.nm n]
 |.aY _=>[]
def gN:e1->List aJ
 |.aY l=>bE QR l
 |v=>QR v
def dm:fJ->List aJ
 |.box l=>bE cL l
 |.arr t=>[.slice t]
 |.bj n=>[.nm n]
 |.set=>[.slice .str]
 |.buf _=>[.str]
 |.b8 _ s=>cL s
 |.gone=>[]
def dR(l:List (Nat×e1))(st:List fJ):List aJ:=bE (λp=>gN p.2) l++bE dm st
abbrev aV(f:Nat)(gA:List e1)(eR:e1)(sub:List gp:=[])(st:List fJ:=[])(er:List fJ:=[]):ev:=⟨f,gA,st,bE gN gA++bE dm st,eR,er,gN eR++bE dm er,sub⟩
abbrev bR(q:Nat)(l:List (Nat×e1))(st:List fJ)(outs:List jE)(sub:List gp:=[])(own:List (Pos×aJ):=[])(Ap:List (Pos×aJ):=own):gp:=⟨q,⟨l,st⟩,own,Ap,dR l st,outs,sub⟩
abbrev bJ(e:Exit)(l:List (Nat×e1))(st:List fJ:=[])(own:List (Pos×aJ):=[]):jE:=⟨e,⟨l,st⟩,own,dR l st⟩
abbrev eV(k:Nat)(t:aJ):jE:=⟨.ret,⟨[(k,aa t)],[]⟩,[],[t]⟩
abbrev gx(i:Nat):jE:=⟨.exit i,⟨[],[]⟩,[],[]⟩
section
open Go
variable {U:cK}
def u9(sz bytes:Nat)(z:List C):dy:=
 .seq (.region [⟨some 2,.mov (.const (.c .ay)),none⟩])
  (.seq (.seq (.region [⟨some 3, .mov (.tmp 0),none⟩,⟨some 4, .eqNil false (.tmp 3),none⟩])
   (.cond (.tmp 4) (.seq (.region [⟨some 2,.mov (.const (.c .ay)),none⟩]) .ret) .skip))
   (.seq (.region [⟨some 5,.bslice sz 0 z [],none⟩,⟨some 6,.mov (.tmp 0),none⟩,⟨some 7,.append sz bytes (.tmp 5) (.tmp 6),none⟩,⟨some 2,.mov (.tmp 7),none⟩]) .ret))
def tY(bytes n:Nat):Bool:=(decide ((2*n+192)*bytes<=j8)||decide ((n+n/4+512)*bytes<=j8))&&decide (n<=eG)
theorem nI{bytes n:Nat}(h:room bytes n=true):tY bytes n=true:=by
 have:=G'.1 h;unfold tY;simp[this]
theorem M6{bytes n:Nat}(h:tY bytes n=true):lC n bytes/\n<=eG:=by
 unfold tY at h;simp only[cd,hO,dn]at h;exact h
def fC{α:Type}(bytes:Nat)(l:List α):Option (List α):=if tY bytes l.length then some l else none
def vQ(U:cK)(f:Nat)(t:aJ)(bytes:Nat):cB U:=
 ⟨f,[.c (.hole (.slice t))],[],[.slice t],.c (.arr 0),[.arr t],[.slice t],λ(l:List (t.den U.D))=>fC bytes l⟩
variable{f:Nat}{z:List C}{w:List T}{es:List (List T)}
section
variable {P:Program}
theorem ZN{fn:Func}{sz bytes:Nat}(l:P.funcs[f]?=some fn)(d:fn.body.bind (Shv.resolve P fn.ntmps)=some (u9 sz bytes z))(m:hZ P fn.results.toList=some [.tmp 2])
 (aD:1<=fn.ntmps)(v:toTs z=some w)(q:0<sz)(he:∀e,e∈es->e.length=sz)(n:tY bytes es.length=true):
 ea P f [.c (.t (.slice es))] [] 0 (λr J' N'=>N'=1/\r= .c (.arr 0 sz 0 es.length)/\aW J' 0=some (.arr sz es)):=by
 have a:=M6 n;refine ea.tidy (Q:=λr J' N'=>∃b,r= .c (.arr b sz 0 es.length)/\aW J' b=some (.arr sz es)) (ea.mk l d m rfl (by simpa using aD) ?_) ?_
 . unfold u9;refine cu.seq (cu.region ?_);simp only[kt,gZ,fO,aO,aP.get,fZ,en,fP,cJ.neutral,bS,andThen];refine .inr ⟨λ_=>trivial,.inl trivial,?_⟩;refine cu.seq (cu.seq (cu.region ?_));simp only[kt,gZ,fO,aO,aP.get,fZ,en,cJ.neutral,bS,andThen,look,iw,h8];refine .inr ⟨λ_=>by simp,.inl trivial,?_⟩;refine .inr ?_;simp only[Nat.reduceEqDiff,b6,bS,fZ,rr];intro b y;refine cu.cond (b:=b) (p:=True) (by simp[aP.get,look,r4]) trivial (λB=>?_) (λA=>?_)
   ·
    have j:es=[]:=(by grind);subst j;refine cu.seq (cu.region ?_);simp only[kt,gZ,fO,aO,aP.get,fZ,en,cJ.neutral,bS,andThen];refine .inr ⟨λ_=>trivial,.inl trivial,?_⟩;refine cu.conv (Conv.own (k:=2) (g:=true) (sz:=sz) rfl q (h' _)) (cu.ret ?_);refine⟨_,_,rfl,⟨rfl,trivial⟩,_,rfl,?_⟩;rw[cV,ad rfl]
   . refine cu.skip ?_;refine cu.seq (cu.region ?_);simp only[kt,gZ,fO,aO,aP.get,fZ,en,cJ.neutral,bS,andThen,look,jM,v,ao,Nat.reduceEqDiff,b6,bV,reduceCtorEq,l7,cV,List.replicate];refine .inr ⟨λ_=>trivial,.inr trivial,?_⟩;refine .inr ⟨λ_=>by simp,.inl trivial,?_⟩;refine .inr ⟨λ_=>⟨trivial,trivial,trivial,trivial,trivial,by simp,he,by simpa using a.1,by simpa using a.2⟩,.inr trivial,?_⟩;refine .inr ⟨λ_=>by simp,.inl trivial,?_⟩;refine cu.ret ⟨_,[.c (.arr 80 sz 0 (0+es.length))],rfl,⟨rfl,trivial⟩,80,by rw[ga];rfl,?_⟩;rw[cV,ad rfl];simp
 . rintro r J' N' ⟨b,rfl,hs⟩
   refine⟨[b],_,_,by simp,rfl,?_,λi x u=>⟨x,u,?_⟩,rfl,rfl,?_⟩
   . simp only[V.bN,C.bN,pos,bS];exact .c (dx.refl _)
   . cases x with
     |box cs=>exact .box (a'.self dx.refl _)
     |arr sz es=>exact .arr
     |set ks=>exact .same
     |buf E s=>exact .same
     |b8 E c=>exact .b8 (dx.refl _)
     |cA sz es i o c=>exact .cA (dx.refl _)
   . simp[fp,hs,aW,bO.bN]
theorem Hn{fn:Func}{sz bytes:Nat}{t:aJ}(o:P.funcs[f]?=some fn)(n:fn.body.bind (Shv.resolve P fn.ntmps)=some (u9 sz bytes z))(q:hZ P fn.results.toList=some [.tmp 2])
 (aD:Nat.ble 1 fn.ntmps=true)(v:toTs z=some w)(u:t.sz U=sz):hV P (vQ U f t bytes):=by
 intro(l:List (t.den U.D)) r bE B J1 k aF;subst u;have d:fC bytes l=some r:=bE;unfold fC at d;split at d
 . rename_i s;cases d;cases k with
   |cons h1 j=>
    cases j;have:=ca.kl (t:=t) (l:=l) h1;subst this
    refine ea.conv (J':=[]) (.cons (.c (dx.refl _)) .nil) (λb x a=>by simp[aW]at a) ((ZN (bytes:=bytes) o n q (h2 aD) v aJ.wF (es:=List.map (t.enc U) l) (λe he=>by
     obtain⟨y,_,rfl⟩:=eO.1 he
     exact aJ.sb) (by rw[gy];exact s)).mono ?_)
    rintro E s1 A ⟨rfl,rfl,hs⟩
    refine⟨rfl,.c (.arr 0 _ _ (by omega) λx a p i=>?_),λb x a=>?_⟩
    . have:x=cO.arr t l:=by
       simp only[cB.rest,vQ,kM,qj,aL.cells,e4.cells,gv,iL,aX,Nat.beq,bF]at a;grind
      subst this;simp only[cO.dc,bF]at i;rw[<-i,gy]
    . have g:(if b=0 then some (cO.arr t l)else none)=some x:=by
       rw[<-a];simp only[cB.rest,vQ,kM,qj,aL.cells,e4.cells,gv,iL,aX];cases b<;>rfl
      split at g
      . rename_i m;cases g;subst m;exact⟨by omega,_,hs,.arr t l⟩
      . cases g
 . cases d
def tg{α:Type}(bytes:Nat)(l:List α):Option (List α×List α):=(fC bytes l).map λr=>(l,r)
def DY(U:cK)(f:Nat)(t:aJ)(bytes:Nat):cB U:=
 ⟨f,[.c (.arr 0)],[.arr t],[.slice t],.c (.arr 1),[.arr t,.arr t],[.slice t,.slice t],λ(l:List (t.den U.D))=>tg bytes l⟩
theorem YU{fn:Func}{sz bytes:Nat}{B:List T}{a:a8}(n:P.funcs[f]?=some fn)(l:fn.body.bind (Shv.resolve P fn.ntmps)=some (u9 sz bytes z))(q:hZ P fn.results.toList=some [.tmp 2])
 (aD:1<=fn.ntmps)(A:toTs z=some B)(w:0<sz)(he:∀e,e∈es->e.length=sz)(t:tY bytes es.length=true)(h0:aW a 0=some (.arr sz es)):
 ea P f [.c (.arr 0 sz 0 es.length)] a 1 (λr J' N'=>N'=2/\r= .c (.arr 1 sz 0 es.length)/\aW J' 0=some (.arr sz es)/\aW J' 1=some (.arr sz es)):=by
 have d:=M6 t;refine ea.tidy (Q:=λr J' N'=>∃b,1<=b/\r= .c (.arr b sz 0 es.length)/\aW J' 0=some (.arr sz es)/\aW J' b=some (.arr sz es)) (ea.mk n l q rfl (by simpa using aD) ?_) ?_
 . unfold u9;refine cu.seq (cu.region ?_);simp only[kt,gZ,fO,aO,aP.get,fZ,en,fP,cJ.neutral,bS,andThen];refine .inr ⟨λ_=>trivial,.inl trivial,?_⟩;refine cu.seq (cu.seq (cu.region ?_));simp only[kt,gZ,fO,aO,aP.get,fZ,en,cJ.neutral,bS,andThen,look,iw,h8];refine .inr ⟨λ_=>by simp,.inl trivial,?_⟩;refine .inr ?_;simp only[Nat.reduceEqDiff,b6,bS,fZ,rr];intro b D;refine cu.cond (b:=b) (p:=True) (by simp[aP.get,look,r4]) trivial (λH=>?_) (λG=>?_)
   . have m:es=[]:=(by grind);subst m;refine cu.seq (cu.region ?_);simp only[kt,gZ,fO,aO,aP.get,fZ,en,cJ.neutral,bS,andThen];refine .inr ⟨λ_=>trivial,.inl trivial,?_⟩;refine cu.conv (Conv.own (k:=2) (g:=true) (sz:=sz) rfl w (by omega)) (cu.ret ?_);refine⟨_,_,rfl,⟨rfl,trivial⟩,_,by omega,rfl,?_,?_⟩
     . rw[cV,bq];exact h0
     . rw[cV,ad rfl]
   . refine cu.skip ?_;refine cu.seq (cu.region ?_);simp only[kt,gZ,fO,aO,aP.get,fZ,en,cJ.neutral,bS,andThen,look,jM,A,ao,Nat.reduceEqDiff,b6,bV,reduceCtorEq,List.replicate];refine .inr ⟨λ_=>trivial,.inr trivial,?_⟩;refine .inr ⟨λ_=>by simp,.inl trivial,?_⟩;have j:∀v:List (List T),l7 (da a (1+16*1+16*2) (.arr sz v)) (.c (.arr 0 sz 0 es.length))=some (es,some 0):=by
      intro v;simp[l7,cV,h0]
     refine .inr ?_;simp only[iw,h8,ga]at j⊢;rw[j];simp only[ao,cV,bS,bF,Nat.reduceMul,Nat.reduceAdd,show ¬(0=49) by omega,show ¬(49=0) by omega,b6];refine⟨λ_=>⟨trivial,trivial,trivial,trivial,trivial,by simp,he,by simpa using d.1,by simpa using d.2⟩,.inr trivial,?_⟩;refine .inr ⟨λ_=>by simp,.inl trivial,?_⟩;refine cu.ret ⟨_,[.c (.arr 81 sz 0 es.length)],rfl,⟨rfl,trivial⟩,81,by omega,rfl,?_,?_⟩
     . rw[cV,bq,fN,bq,cV,bq];exact h0
     . rw[cV,ad rfl];simp
 . rintro r J' N' ⟨b,F,rfl,u,hs⟩
   refine⟨[0,b],_,_,by simp;omega,rfl,?_,λi x y=>⟨x,y,?_⟩,rfl,rfl,?_⟩
   . simp only[V.bN,C.bN,pos,ak (show ¬0=b by omega),bS];exact .c (dx.refl _)
   . cases x with
     |box cs=>exact .box (a'.self dx.refl _)
     |arr sz es=>exact .arr
     |set ks=>exact .same
     |buf E s=>exact .same
     |b8 E c=>exact .b8 (dx.refl _)
     |cA sz es i o c=>exact .cA (dx.refl _)
   . simp[fp,hs,u,aW,bO.bN]
theorem YV{fn:Func}{sz bytes:Nat}{I:List T}{t:aJ}(s:P.funcs[f]?=some fn)(o:fn.body.bind (Shv.resolve P fn.ntmps)=some (u9 sz bytes z))(v:hZ P fn.results.toList=some [.tmp 2])
 (aD:Nat.ble 1 fn.ntmps=true)(H:toTs z=some I)(E:t.sz U=sz):hV P (DY U f t bytes):=by
 intro(l:List (t.den U.D)) r bE K J1 k aF;subst E;have d:(fC bytes l).map (λr=>(l,r))=some r:=bE;unfold fC at d;split at d
 . rename_i w;cases d;cases k with
   |cons h1 j=>
    cases j;obtain⟨sz,n,rfl,_,q⟩:=h1.gY;obtain⟨_,y,F,G⟩:=aF 0 (.arr t l) rfl;cases G;have:=q (.arr t l) rfl (t.sz U,l.length) rfl;simp only[bB]at this;obtain⟨rfl,rfl⟩:=this;have u:l.length=(l.map (t.enc U)).length:=by rw[gy]
    rw[u]
    refine(YU (bytes:=bytes) s o v (h2 aD) H aJ.wF (es:=List.map (t.enc U) l) (λe he=>by
     obtain⟨y,_,rfl⟩:=eO.1 he
     exact aJ.sb) (by rw[gy];exact w) F).mono ?_
    rintro M s1 J ⟨rfl,rfl,A,B⟩
    have g:∀b x,aX ((DY U f t bytes).rest (l,l)) b=some x->(b=0\/b=1)/\x=cO.arr t l:=by
     intro b x a;have L:(if b=0 then some (cO.arr t l)else if b=1 then some (cO.arr t l)else none)=some x:=by
      rw[<-a];simp only[cB.rest,DY,kM,qj,aL.cells,e4.cells,gv,iL,aX]
      match b with
      |0=>rfl
      |1=>rfl
      |_+2=>rfl
     grind
    refine⟨rfl,.c (.arr 1 _ _ (by omega) λx a p i=>?_),λb x a=>?_⟩
    . obtain⟨_,rfl⟩:=g _ _ a;simp only[cO.dc,bF]at i;rw[<-i,gy]
    . obtain⟨m,rfl⟩:=g _ _ a;rcases m with rfl|rfl
      . exact⟨by omega,_,A,.arr t l⟩
      . exact⟨by omega,_,B,.arr t l⟩
 . cases d
end
end
section
open Go Go.Proofs Go.Proofs.YtdjagncoefjfeaaGreat Go.Shelf
variable {U:cK}
def DZ(U:cK)(f E a:Nat):cB U:=
 ⟨f,[.c (.ptr 0 0)],[.b8 E (.cG 1),.buf a],[.str],.aY [],[.b8 E (.cG 1),.buf a],[.str],λ(s:aj)=>some s⟩
section
variable {P:Program}{ρ:Ren}
theorem ZO(L:Lays.n240 P ρ)(y:Builder.X72 P ρ){J:a8}{D n:Nat}{s:aj}(h0:aW J 0=some (.b8 (ρ.t 72) (.cG 1 n)))(h1:aW J 1=some (.buf D s)):
 ea P (ρ.f 240) [.c (.ptr 0 0)] J 2 (λr J' N'=>r= .aY []/\J'=J/\N'=2):=by
 intro φ S w B g A l O vs o;cases o with|cons M o=>
 cases o;have H:=M.hQ;subst H;obtain⟨q,⟨p,v,aa,G,I⟩,z⟩:=g.blk 0 _ h0;have same:∀ w',w' = w->∃ (v:Value) (r:V) (i:dE) (bQ:dQ) (J':a8) (N':Nat),Ending.returned (Value.tuple #[]) = Ending.returned v/\(r = .aY []/\J' = J/\N' = 2)/\cm i w' bQ r v/\r.aA (lt N') = true/\qe i w' bQ J'/\(∀ (b:Nat) x,aW J' b = some x->b<N'/\x.aA (lt N') = true)/\Ext B S bQ w w'/\
  (∀(b:Nat) x,aW J' b=some x->(i b).2≠0->B (i b).1\/w.heap.size<=(i b).1)/\∀b,b<2->i b=φ b:=by
  rintro w' rfl
  exact⟨_,.aY [],φ,S,J,2,rfl,⟨rfl,rfl,rfl⟩,.aY [] [] rfl (by simp),rfl,g,A,Ext.refl,λb x a d=>.inl (l b x a d),λ_ _=>rfl⟩
 rcases G with rfl|rfl
 . have k:w.cell? ⟨(φ 0).1,0,none⟩=some (.pointer none):=by rw[ju (vs:=[_,_]) aa];rfl
   have K:w.shape? (φ 0).1=some (ρ.t 72,2):=(by simp[World.shape?,aa]);have F:w.frozen? ⟨(φ 0).1,0,none⟩=false:=(by simp[World.frozen?,aa]);refine(Any.Builder_copyCheck_fresh L y (φ 0).1 w k K F).mono ?_
   rintro e w' ⟨rfl,rfl⟩
   obtain⟨N,u⟩:=Th (vs:=[.pointer none,v]) aa 0 (.pointer (some ⟨(φ 0).1,0,none⟩));have m:gq w S (w.setCell ⟨(φ 0).1,0,none⟩ (.pointer (some ⟨(φ 0).1,0,none⟩))) S:=⟨λ_ _ h=>h,λb j h=>qB (u b (λe=>z j (e▸h))) j⟩
   refine⟨_,.aY [],φ,S,J,2,rfl,⟨rfl,rfl,rfl⟩,.aY [] [] rfl (by simp),rfl,⟨λb x a=>?_,g.inj,λb j h=>?_⟩,A,⟨rfl,rfl,rfl,by simp,λb d dm=>u b (λe=>dm (e▸l 0 _ h0 q)),m,λ_ _ h=>.inl h⟩,λb x a d=>.inl (l b x a d),λ_ _=>rfl⟩
   . by_cases d:b=0
     . subst d;rw[h0]at a;cases a;exact⟨q,⟨_,v,N,.inr rfl,bm.mono (n:=λ_=>true) m (λ_ _=>rfl) (C.me _) I⟩,z⟩
     . exact c1.mono (n:=λ_=>true) m (λ_ _=>rfl) rfl (by cases x<;>simp[bO.aA,C.me]) (λE=>u _ (g.inj b 0 x _ a h0 d E q)) (g.blk b x a)
   . have:=g.st b j h;simpa using this
 . have k:w.cell? ⟨(φ 0).1,0,none⟩=some (.pointer (some ⟨(φ 0).1,0,none⟩)):=by rw[ju (vs:=[_,_]) aa];rfl
   refine(Any.Builder_copyCheck_used L y (φ 0).1 w k).mono ?_
   rintro e w' ⟨rfl,rfl⟩
   exact same _ rfl
theorem Zy(L:Lays.n240 P ρ)(c:Builder.X72 P ρ){E a:Nat}(j:ρ.f 240=f)(dR:ρ.t 72=E):hV P (DZ U f E a):=by
 subst j;subst dR;intro(s:aj) r bE p J1 b aF;have k:r=s:=lY bE.symm;subst k;cases b with|cons b i=>
 cases i;have:=b.hQ;subst this;have l:aX ((DZ U (ρ.f 240) (ρ.t 72) a).iE r) 0=some (.b8 (ρ.t 72) (.cG 1)):=rfl;have m:aX ((DZ U (ρ.f 240) (ρ.t 72) a).iE r) 1=some (.buf a r):=rfl;obtain⟨_,w,e,b0⟩:=aF 0 _ l;obtain⟨_,x,g,b1⟩:=aF 1 _ m;cases b1;cases b0 with| @b8 _ _ d b0=>
 cases b0 with|cG _ n q u=>
 refine(ZO L c e g).mono ?_
 rintro v s1 o ⟨rfl,rfl,rfl⟩
 exact⟨rfl,.aY [] [] rfl (by simp),aF⟩
end
end
section
open Go Go.ChangeShapes Go.WideShapes Go.RowKit
variable {U:cK}
def aJ.RD:aJ->Nat
 |.bool=>1
 |.int k=>k.bits/8
 |.str=>16
 |.slice _=>24
 |.nm _=>0
def H7:List aJ->Nat
 |[]=>0
 |t::r=>t.RD+H7 r
def th(l:List aJ):Nat:=bif l.any λt=>Nat.ble 8 t.RD then(H7 l+7)/8*8 else H7 l
def aJ.bytes(U:cK)(t:aJ):Nat:=th (t.cells U)
inductive WF (U:cK):Cell U.D->Prop
 |bool (b:Bool):WF U ⟨.bool,b⟩
 |int (k:IntKind) (n:Int) (h:(Lit.int k n).wf=true):WF U ⟨.int k,n⟩
 |str (s:aj) (h:s.length<=reachBytes):WF U ⟨.str,s⟩
 |slice (t:aJ) (l:List (t.den U.D)) (h:l.length<=reachBytes) (af7:l.length*t.bytes U<=reachBytes) (af:∀x,x∈l->∀c,c∈t.row U x->WF U c):WF U ⟨.slice t,l⟩
def cK.Total(U:cK):Prop:=∀n (l:List (Cell U.D)),l.map Cell.ty=U.db n->∃x,U.make n l=some x
def DP:List aJ->List aJ->Bool
 |[],[]=>true
 |a::l,b::m=>aJ.beq a b&&DP l m
 |_,_=>false
theorem K4:∀{l m:List aJ},DP l m=true->l=m
 |[],[],_=>rfl
 |a::l,b::m,h=>by
  simp only[DP,cd]at h;rw[aJ.beq_eq h.1,K4 h.2]
 |[],_::_,h=>by cases h
 |_::_,[],h=>by cases h
def zo(P:Program)(g:TypeId->Option (List aJ)):List Field->Nat->Nat->Option (List aJ)
 |[],off,c=>match Nat.beq off c with
  |true=>some []
  |false=>none
 |f::r,off,c=>match g f.type with
  |none=>none
  |some a=>match Nat.beq f.offset off&&Nat.beq (P.cellsOf f.type) a.length with
   |false=>none
   |true=>match zo P g r (off+a.length) c with
    |none=>none
    |some b=>some (a++b)
def flat(P:Program)(U:cK)(st:TypeId->Option Nat):Nat->TypeId->Option (List aJ)
 |0,_=>none
 |n+1,t=>match P.underlying t with
  |some .bool=>some [.bool]
  |some (.int k)=>some [.int k]
  |some .string=>some [.str]
  |some (.slice e)=>match st e with
   |some m=>match Nat.ble 1 (P.bytesOf e)&&Nat.ble (th (U.db m)) (P.bytesOf e)with
    |true=>some [.slice (.nm m)]
    |false=>none
   |none=>match flat P U st n e with
    |none=>none
    |some a=>match Nat.ble 1 (P.bytesOf e)&&Nat.ble (th a) (P.bytesOf e)with
     |false=>none
     |true=>match a with
      |[ty]=>match ty.xy with
       |true=>none
       |false=>some [.slice ty]
      |_=>none
  |some (.struct fs)=>zo P (flat P U st n) fs.toList 0 (P.cellsOf t)
  |some (.array k e)=>match flat P U st n e with
   |none=>none
   |some a=>match Nat.beq (P.cellsOf t) (k*a.length)&&Nat.beq (P.cellsOf e) a.length with
    |false=>none
    |true=>some (List.replicate k a).flatten
  |_=>none
theorem Jm{α:Type}{R:Nat->α->Prop}:∀(n:Nat),(∀i,i<n->∃x,R i x)->∃l:List α,l.length=n/\∀(i:Nat) x,l[i]?=some x->R i x
 |0,_=>⟨[],rfl,by simp⟩
 |n+1,h=>by
  obtain⟨l,af,b⟩:=Jm n λi a=>h i (by omega);obtain⟨x,c⟩:=h n (by omega);refine⟨l++[x],by simp[af],λi y d=>?_⟩;grind
variable{v:Value}{t:TypeId}{a:Addr}{db:List aJ}{st:TypeId->Option Nat}
section
variable {H:Type}{enc:TypeId×Value->H}{P:Program}{w:World}
abbrev Old(w:World):dQ:=λb _=>b<w.heap.size
structure Rd (U:cK)(w:World)(db:List aJ)(cs:List Value)(l:List (Cell U.D)):Prop where
 ty:l.map Cell.ty=db
 wf:∀c,c∈l->WF U c
 rt:a' (λc v=>cf w (Old w) (Cell.enc U c) v) l cs
theorem zp{t:aJ}{x:t.den U.D}(h1:WF U ⟨t,x⟩)(a:cf w (Old w) (Cell.enc U ⟨t,x⟩) v):Rd U w [t] [v] [⟨t,x⟩]:=
 ⟨rfl,by simpa using h1,.cons a .nil⟩
theorem GP:∀{ds:List (DataW H)} {d:DataW H},d∈ds->∀n∈d.weights P t,n∈DataW.weightsAll P t ds
 |d0::ds,d,a,n,aD=>by
  simp only[DataW.weightsAll,f'];rcases fe.1 a with rfl|a
  . grind
  . exact .inr (GP a n aD)
theorem J6{g:TypeId->Option (List aJ)}{cs:List Value}:∀{fs:List Field} {off i:Nat} {db:List aJ},
 (∀f,f∈fs->∀a,g f.type=some a->∃l,Rd U w a ((cs.drop f.offset).take (P.cellsOf f.type)) l)->
 zo P g fs off i=some db->cs.length=i->∃l,Rd U w db (cs.drop off) l
 |[],off,i,db,_,h,af=>by
  simp only[zo]at h;split at h
  . rename_i e;cases h;have:=cT e;refine⟨[],rfl,by simp,?_⟩;rw[ee (by omega)];exact .nil
  . cases h
 |f::r,off,i,db,al,h,af=>by
  simp only[zo]at h;split at h
  . cases h
  . rename_i a n;split at h
    . cases h
    . rename_i j;simp only[cd]at j;have h1:=cT j.1;have s:=cT j.2;split at h
      . cases h
      . rename_i b o;cases h;obtain⟨q,k⟩:=al f (by simp) a n;obtain⟨l2,m⟩:=J6 (λf p=>al f (by simp[p])) o af;refine⟨q++l2,by simp[k.ty,m.ty],?_,?_⟩
        . intro c d;rcases f'.1 d with d|d
          . exact k.wf c d
          . exact m.wf c d
        . have e:cs.drop off=(cs.drop off).take a.length++cs.drop (off+a.length):=by rw[<-yk,yd]
          rw[e];refine a'.append ?_ m.rt;have:=k.rt;grind
theorem NW{a:List aJ}{cs:List Value}:∀(k off:Nat),(∀i,i<k->∃l,Rd U w a ((cs.drop (off+i*a.length)).take a.length) l)->cs.length=off+k*a.length->
 ∃l,Rd U w (List.replicate k a).flatten (cs.drop off) l
 |0,off,_,af=>by
  refine⟨[],rfl,by simp,?_⟩;rw[ee (by omega)];exact .nil
 |k+1,off,al,af=>by
  obtain⟨g,d⟩:=al 0 (by omega);rw[yo,l0]at d
  obtain⟨l2,f⟩:=NW (a:=a) (cs:=cs) k (off+a.length) (λi j=>by
   have:=al (i+1) (by omega)
   rwa [Nat.succ_mul,yn (i*a.length),<-p5]at this) (by rw[af,Nat.succ_mul];omega)
  refine⟨g++l2,by simp[d.ty,f.ty,List.replicate_succ],?_,?_⟩
  . intro c b;rcases f'.1 b with b|b
    . exact d.wf c b
    . exact f.wf c b
  . have e:cs.drop off=(cs.drop off).take a.length++cs.drop (off+a.length):=by rw[<-yk,yd]
    rw[e];exact a'.append d.rt f.rt
theorem aaK{n:Nat}{cs:List Value}(h:w.cells? 0 a n=some cs):cs.length=n/\∀j,j<n->w.cell? (a.add j)=cs[j]?:=by
 unfold World.cells? at h;rw[ad (h' _)]at h;exact⟨by simpa using mapM_some_length h,λj b=>mapM_some_get h j j (by simp[b])⟩
theorem J7(h:w.cell? a=some v):a.spot=none/\a.block<w.heap.size:=by
 unfold World.cell? at h;split at h
 . rename_i b;split at h
   . cases h
   . rename_i hs;refine⟨by simpa using hs,(yt.1 b).1⟩
 . cases h
theorem M7{i j:Nat}(h:a.spot=none):(a.add i).add j=⟨a.block,a.off+i+j,none⟩:=by
 obtain⟨b,o,c⟩:=a;dsimp only at h;subst h;unfold Addr.add;grind
theorem QX(b:U.Total){t:aJ}{l:List (Cell U.D)}(h:l.map Cell.ty=t.cells U):∃x,t.row U x=l:=by
 have one:∀t:aJ,l.map Cell.ty=[t]->∃x:t.den U.D,l=[⟨t,x⟩]:=by
  intro t h
  match l,h with
  |[⟨c,x⟩],h=>simp at h;subst h;exact⟨x,rfl⟩
 cases t with
 |nm n=>
  obtain⟨x,a⟩:=b n l h;exact⟨x,U.mk_eq n l x a⟩
 |bool=>obtain⟨x,a⟩:=one _ h;exact⟨x,a.symm⟩
 |int k=>obtain⟨x,a⟩:=one _ h;exact⟨x,a.symm⟩
 |str=>obtain⟨x,a⟩:=one _ h;exact⟨x,a.symm⟩
 |slice t=>obtain⟨x,a⟩:=one _ h;exact⟨x,a.symm⟩
def rW(P:Program)(U:cK)(st:TypeId->Option Nat):Prop:=∀e m,st e=some m->flat P U st 60 e=some (U.db m)
def wC:List (TypeId×Nat)->TypeId->Option Nat
 |[],_=>none
 |p::l,t=>match Nat.beq p.1 t with
  |true=>some p.2
  |false=>wC l t
def zq(P:Program)(U:cK)(st:TypeId->Option Nat)(t:TypeId)(db:List aJ):Bool:=
 match flat P U st 60 t with
 |some a=>DP a db
 |none=>false
theorem GK(h:zq P U st t db=true):flat P U st 60 t=some db:=by
 unfold zq at h;split at h
 . rename_i a b;rw[b,K4 h]
 . cases h
theorem KC:∀{l:List (TypeId×Nat)} {t m},wC l t=some m->(t,m)∈l
 |p::l,t,m,h=>by
  simp only[wC]at h;split at h
  . rename_i e;cases h;have:=cT e;grind
  . exact .tail _ (KC h)
theorem adJ{l:List (TypeId×Nat)}(h:(l.all λp=>zq P U (wC l) p.1 (U.db p.2))=true):rW P U (wC l):=by
 intro e m he;rw[cY]at h;exact GK (h _ (KC he))
theorem YW(g:rW P U st){n:Nat}{e:TypeId}(ht:P.underlying t=some (.slice e))(h:flat P U st (n+1) t=some db):
 ∃ty a i,db=[.slice ty]/\flat P U st i e=some a/\a=ty.cells U/\1<=P.bytesOf e/\th a<=P.bytesOf e:=by
 simp only[flat,ht]at h;split at h
 . rename_i m f;split at h
   . rename_i b;cases h;simp only[cd]at b;exact⟨.nm m,U.db m,60,rfl,g e m f,rfl,BI b.1,BI b.2⟩
   . cases h
 . split at h
   . cases h
   . rename_i a c;split at h
     . cases h
     . rename_i b;have d:1<=P.bytesOf e/\th a<=P.bytesOf e:=(by simp_all);split at h
       . rename_i ty;split at h
         . cases h
         . rename_i aD;cases h;refine⟨ty,[ty],n,rfl,c,?_,d⟩;cases ty<;>first|rfl|cases aD
       . cases h
theorem J8(aA:U.Total)(ax:rW P U st):∀(T n:Nat) (t:TypeId) (cs:List Value) (x:DataW H×List MemPlace) (db:List aJ),
 DataW.trod enc P w 0 (λ_=>true) true T t cs=some x->flat P U st n t=some db->(∀k,k∈x.1.weights P t->k<=reachBytes)->∃l,Rd U w db cs l:=by
 intro T;induction T with
 |zero=>intro n t cs x db h;simp[DataW.trod]at h
 |succ m ih=>
  intro n t cs x db h p N;cases n with
  |zero=>cases p
  |succ n=>
  have aq:=p;simp only[flat]at p;split at p
  . rename_i o;cases p;obtain⟨b,rfl,rfl⟩:=DataW.trod_bool o h;exact⟨_,zp (.bool b) (.bool b)⟩
  . rename_i k o;cases p;obtain⟨i,rfl,rfl,ay⟩:=DataW.trod_int o h;exact⟨_,zp (.int k i ay) (.int k i)⟩
  . rename_i o;cases p;obtain⟨s,rfl,rfl,hs⟩:=DataW.trod_string o h;have h1:s.data.toList.length<=reachBytes:=N _ (by simp[DataW.weights]);have A:s.data.toList.length=s.size:=rv;refine⟨_,zp (.str s.data.toList h1) (.str s ?_)⟩;unfold reachBytes at h1;unfold eC;omega
  . rename_i e o;obtain⟨ty,a,az,rfl,G,ad,an,ao⟩:=YW ax o aq;rcases DataW.trod_slice o h with⟨rfl,rfl⟩|⟨g,len,cap,B,O,am,L,rfl,rfl,_,aC,_,aB,I,_,_⟩
    . refine⟨_,zp (.slice ty [] (h' _) (by simp) (by simp)) ?_⟩;exact .slice [] none 0 0 0 0 (λ_ _=>default) (by simp) (by simp) (by simp) (by simp) (by simp) (by simp)
    . cases L;have aD:(B.length+O.length)*P.bytesOf e<=reachBytes:=by
       have:=N ((B.length+O.length)*P.bytesOf e) (by simp[DataW.weights,o]);exact this
      have R:len<=reachBytes:=by
       have h1:B.length+O.length<=(B.length+O.length)*P.bytesOf e:=E' _ an;omega
      have K:len*th a<=reachBytes:=by
       have h1:len*th a<=(B.length+O.length)*P.bytesOf e:=Nat.mul_le_mul (by omega) ao;omega
      have dR:∀i,i<len->∃Q:ty.den U.D,∃z,z.length=P.cellsOf e/\(∀j,j<P.cellsOf e->w.cell? ((g.add (i*P.cellsOf e)).add j)=z[j]?)/\Rd U w a z (ty.row U Q):=by
       intro i u;have J:=I i u;have ap:B[i]?=some B[i]:=eH (by omega);rw[ap]at J;cases F:w.cells? 0 (g.add (i*P.cellsOf e)) (P.cellsOf e)with
       |none=>rw[F]at J;cases J
       |some z=>
        rw[F]at J;obtain⟨h1,A⟩:=aaK F
        obtain⟨l,af⟩:=ih az e z _ a J G (λk Y=>N k (by
         simp only[DataW.weights,o,fe,f'];right;left
         exact GP (eO.2 ⟨B[i],Fq _,rfl⟩) k Y))
        obtain⟨Q,aE⟩:=QX aA (t:=ty) (by rw[af.ty,ad]);grind
      obtain⟨xs,ai,ak⟩:=Jm len dR;have ab:len≠0->P.cellsOf e=ty.sz U/\0<P.cellsOf e:=by
       intro M;obtain⟨Q,z,h1,_,E⟩:=dR 0 (by omega);have y:=E.rt.length;rw[aJ.Ru,h1]at y;exact⟨y.symm,by rw[<-y];exact aJ.wF⟩
      have aa:len≠0->g.spot=none:=by
       intro M;obtain⟨Q,z,h1,A,E⟩:=dR 0 (by omega);have h0:=A 0 (ab M).2;rw[eH (by rw[h1];exact(ab M).2)]at h0;have ba:=(J7 h0).1;simpa[Addr.add]using ba
      have aj:∀x,x∈xs->∃i:Nat,xs[i]?=some x/\i<len:=by
       intro x C;obtain⟨i,u⟩:=Fe.1 C;grind
      refine⟨_,zp (t:= .slice ty) (x:=xs) (.slice ty xs (by omega) (by rw[ai];unfold aJ.bytes;rw[<-ad];exact K) ?_) ?_⟩
      . intro x C c F;obtain⟨i,u,_⟩:=aj x C;obtain⟨z,_,_,E⟩:=ak i x u;exact E.wf c F
      . have K:(xs.map (ty.enc U)).length=len:=(by simp[ai]);show cf w (Old w) (.slice (xs.map (ty.enc U))) (.slice (some g) len cap);rw[<-K];refine .slice (xs.map (ty.enc U)) (some g) cap (P.cellsOf e) g.block g.off (λi j=>(w.cell? ⟨g.block,g.off+i*P.cellsOf e+j,none⟩).getD default) (by omega) ?_ ?_ ?_ ?_ ?_
        . rw[K];unfold reachBytes at R;unfold eG;omega
        . intro r S;obtain⟨x,C,rfl⟩:=eO.1 S;obtain⟨i,_,u⟩:=aj x C;rw[aJ.sb];exact(ab (by omega)).1.symm
        . intro M;have au:len≠0:=by intro h0;apply M;rw[<-List.length_eq_zero_iff];omega
          have:=aa au;rw[show g=⟨g.block,g.off,g.spot⟩from rfl,this]
        . intro i j u X;rw[K]at u;obtain⟨Q,z,h1,A,E⟩:=dR i u;have y:=A j X;rw[eH (by omega)]at y;have Z:=aa (by omega);have aK:(g.add (i*P.cellsOf e)).add j=⟨g.block,g.off+i*P.cellsOf e+j,none⟩:=M7 Z;rw[aK]at y;exact⟨(J7 y).2,by rw[y];rfl⟩
        . intro i j r aF S ag;rw[oc,bb]at S;obtain⟨x,C,rfl⟩:=S;obtain⟨z,h1,A,E⟩:=ak i x C;have u:i<len:=by have:=(c5.1 C).1;omega
          rw[aJ.uD,oc,bb]at ag;obtain⟨c,F,rfl⟩:=ag;obtain⟨v,ah,aw⟩:=E.rt.get F;have X:j<P.cellsOf e:=by have:=(c5.1 ah).1;omega
          have y:=A j X;have Z:=aa (by omega);have aK:(g.add (i*P.cellsOf e)).add j=⟨g.block,g.off+i*P.cellsOf e+j,none⟩:=M7 Z;rw[aK,ah]at y;show cf w (Old w) _ ((w.cell? ⟨g.block,g.off+i*P.cellsOf e+j,none⟩).getD default);rw[y];exact aw
  . rename_i fs o;obtain⟨xs,am,L,rfl,af,R,I⟩:=DataW.trod_struct o h;cases L
    have:=J6 (U:=U) (w:=w) (P:=P) (cs:=cs) (fs:=fs.toList) (off:=0) (λf ar a G=>by
     obtain⟨i,u⟩:=Fe.1 ar;have W:fs[i]?=some f:=(by simpa using u);have al:=I i f W;have ae:i<xs.length:=by rw[R];exact(yt.1 W).1
     rw[eH ae]at al
     exact ih n f.type _ _ a al G (λk Y=>N k (by
      simp only[DataW.weights,o]
      exact DataW.weights_mem_each (j:=i) (t:=f.type) (d:=xs[i].1) (by simp[W]) (by simp[ae]) k Y))) p af
    simpa using this
  . rename_i k e o;split at p
    . cases p
    . rename_i a G;split at p
      . cases p
      . rename_i V;cases p;simp only[cd]at V;have h1:=cT V.1;have A:=cT V.2;obtain⟨xs,am,L,rfl,af,R,I⟩:=DataW.trod_array o h;cases L
        have:=NW (U:=U) (w:=w) (a:=a) (cs:=cs) k 0 (λi u=>by
         have al:=I i u;rw[eH (by omega)]at al
         obtain⟨l,af⟩:=ih n e _ _ a al G (λq av=>N q (by
          simp only[DataW.weights,o]
          exact GP (eO.2 ⟨xs[i],Fq _,rfl⟩) q av))
         rw[A]at af
         exact⟨l,by rw[ga];exact af⟩) (by rw[af,h1,ga])
        simpa using this
  . cases p
end
end
section
open Go Go.ChangeShapes Go.WideShapes Go.RowKit
variable {U:cK}
def isAgg(P:Program)(t:TypeId):Bool:=
 match P.underlying t with
 |some (.struct _)=>true
 |some (.array _ _)=>true
 |_=>false
def l1(P:Program)(U:cK)(st:TypeId->Option Nat):List TypeId->List e1->List aJ->Bool
 |[],[],[]=>true
 |t::ts,.row m::a,.nm b::db=>(Nat.beq m b&&(isAgg P t&&zq P U st t (U.db m)))&&l1 P U st ts a db
 |t::ts,.c (.hole ty)::a,d::db=>(aJ.beq ty d&&(!ty.xy&&(!isAgg P t&&zq P U st t [ty])))&&l1 P U st ts a db
 |_,_,_=>false
variable{st:TypeId->Option Nat}{b0 N f:Nat}{v:Value}{t:TypeId}{D:Nat->Type}{gA:List e1}{ts:List aJ}{c:List MemPlace}
section
variable {H:Type}{enc:TypeId×Value->H}{P:Program}{w:World}{φ:dE}
theorem SG:∀{d:List TypeId} {b:List e1} {db:List aJ},l1 P U st d b db=true->d.length=db.length
 |[],[],[],_=>rfl
 |[],[],_::_,h=>by cases h
 |[],_::_,_,h=>by cases h
 |_::_,[],_,h=>by cases h
 |_::_,a::_,[],h=>by
  cases a with
  |c x=>cases x<;>cases h
  |_=>cases h
 |t::ts,a::b,ty::db,h=>by
  have:l1 P U st ts b db=true:=by
   cases a with
   |row m=>cases ty with
    |nm e=>simp only[l1,cd]at h;exact h.2
    |_=>cases h
   |c x=>cases x with
    |hole ty=>simp only[l1,cd]at h;exact h.2
    |_=>cases h
   |_=>cases h
  simp[SG this]
theorem YX{r:Reach}(hs:isAgg P t=true)(h:Value.okWide P w r b0 t v):∃cs,v= .agg cs:=by
 unfold isAgg at hs;unfold Value.okWide at h;grind
theorem YY{r:Reach}(hs:isAgg P t=false)(h:Value.okWide P w r b0 t v):v.cells=#[v]:=by
 unfold isAgg at hs;unfold Value.okWide at h;have a:Cell.okWide P w r b0 t v:=by grind
 cases v with
 |agg cs=>
  unfold Cell.okWide at a;split at a<;>first|(rename_i e;cases e)|(rename_i e _;cases e)|skip
  unfold Cell.ok at a;grind
 |_=>rfl
theorem IM{S:dQ}:∀{l:List (Cell U.D)} {vs:List Value},a' (λc v=>cf w S (Cell.enc U c) v) l vs->a' (bm φ w S) ((l.map bl.t).map bl.oJ) vs
 |[],[],.nil=>.nil
 |c::l,v::vs,.cons h1 a=>.cons h1 (IM a)
theorem J9(i:U.Total)(φ:dE){st:TypeId->Option Nat}(F:rW P U st){b0:Nat}:∀(ts:List TypeId) (e:List e1) (db:List aJ) (args:List Value) (ds:List (DataW H)) (ps:List MemPlace),
 l1 P U st ts e db=true->(∀(j:Nat) t v,ts[j]?=some t->args[j]?=some v->Value.okWide P w .any b0 t v)->
 DataW.TrodAll enc P w 0 (λ_=>true) true ts args ds ps->(∀k,k∈DataW.weightsEach P ts ds->k<=reachBytes)->
 ∃(l:eP U) (xs:List (bz U)),l.map Cell.ty=db/\(∀c,c∈l->∀d,d∈c.ty.row U c.val->WF U d)/\kN e l=(xs,[])/\(∀x,x∈xs->fB x=true)/\a' (cm φ w (Old w)) (xs.map e5) args
 |[],[],[],args,ds,ps,_,_,ht,_=>by
  obtain⟨rfl,rfl,rfl⟩:=trodAll_nil ht;exact⟨[],[],rfl,by simp,rfl,by simp,.nil⟩
 |t::ts,R::e,ty::db,args,ds,ps,a,J,ht,L=>by
  obtain⟨v,vs,d,S,p,q,rfl,rfl,rfl,⟨G,h1⟩,T⟩:=trodAll_cons ht;have K:=J 0 t v rfl rfl;have M:∀k,k∈d.weights P t->k<=reachBytes:=λk u=>L k (by simp only[DataW.weightsEach,f'];exact .inl u);have Q:∀(I:l1 P U st ts e db=true),_:=λI=>J9 i φ (st:=st) F (b0:=b0) ts e db vs S q I (λj t v W aa=>J (j+1) t v (by simpa using W) (by simpa using aa)) T
   (λk u=>L k (by simp only[DataW.weightsEach,f'];exact .inr u))
  unfold l1 at a;split at a
  . grind
  . rename_i t0 ad m ab ah af aK o c9;cases aK;cases o;cases c9;simp only[cd]at a;obtain⟨⟨C,hs,s⟩,E⟩:=a;have D:=cT C;subst D;obtain⟨l,xs,z,X,A,Y,B⟩:=Q E;obtain⟨cs,rfl⟩:=YX hs K;obtain⟨O,b⟩:=J8 i F G 60 t _ _ _ h1 (GK s) M;obtain⟨x,N⟩:=QX i (t:= .nm m) b.ty;refine⟨⟨.nm m,x⟩::l,.agg ((aJ.row U (.nm m) x).map .t)::xs,by simp[z],?_,?_,?_,?_⟩
    . intro c f;rcases fe.1 f with rfl|f
      . intro d r;exact b.wf d (N▸r)
      grind
    . simp only[kN,kM,A]
    . intro y g;rcases fe.1 g with rfl|g
      . simp[fB,bl.oq]
      grind
    . refine .cons ?_ B;have:=IM (φ:=φ) b.rt;rw[<-N]at this;exact cm.agg (vs:=cs.toList) this
  . rename_i t0 ad ae ab ai af aK o c9;cases aK;cases o;cases c9;simp only[cd,p3]at a;obtain⟨⟨C,aD,hs,s⟩,E⟩:=a;have D:=aJ.beq_eq C;subst D;obtain⟨l,xs,z,X,A,Y,B⟩:=Q E;rw[YY hs K]at h1;obtain⟨O,b⟩:=J8 i F G 60 t _ _ _ h1 (GK s) M
    match O,b with
    |[],b=>cases b.ty
    |[⟨n,x⟩],b=>
     have Z:n=ae:=by have:=b.ty;simpa using this
     subst Z;refine⟨⟨n,x⟩::l,.c (.t ⟨n,x⟩)::xs,by simp[z],?_,?_,?_,?_⟩
     . intro c f;rcases fe.1 f with rfl|f
       . intro d r;refine b.wf d ?_;cases n<;>first|exact r|cases aD
       grind
     . simp only[kN,kM,qj,A]
     . intro y g;rcases fe.1 g with rfl|g
       . rfl
       grind
     . refine .cons ?_ B;cases b.rt with
       |cons V ag=>exact .c V
    |_::_::_,b=>have:=b.ty;simp at this
  . cases a
 |[],[],_::_,_,_,_,a,_,_,_=>by cases a
 |[],_::_,_,_,_,_,a,_,_,_=>by cases a
 |_::_,[],_,_,_,_,a,_,_,_=>by cases a
 |t::ts,R::e,[],_,_,_,a,_,_,_=>by
  cases R with
  |row m=>cases a
  |c x=>cases x<;>cases a
  |agg l=>cases a
  |aY l=>cases a
theorem aL.Q6:∀(ts:List aJ) (l:eP U),l.map Cell.ty=ts->∃h:aL U.D ts,aL.cells U.D ts h=l
 |[],[],_=>⟨(),rfl⟩
 |[t],[⟨a,x⟩],h=>by
  have:a=t:=by simpa using h
  subst this;exact⟨x,rfl⟩
 |t::u::r,⟨a,x⟩::l,h=>by
  simp only[gz,yj]at h;obtain⟨h1,c⟩:=h;subst h1;obtain⟨y,e⟩:=aL.Q6 (u::r) l (by simpa using c);exact⟨(x,y),by show⟨a,x⟩::aL.cells U.D (u::r) y=_;rw[e]⟩
 |[],_::_,h=>by simp at h
 |_::_,[],h=>by simp at h
 |[_],_::_::_,h=>by simp at h
theorem e4.A7:∀{ts:List aJ} {t:aJ} (h:e4 D t ts),e4.dec D t ts (e4.cells D t ts h)=some h
 |[],t,x=>Cell.O3
 |u::r,t,x=>by
  unfold e4.dec e4.cells;simp only[uH,Cell.O3];rw[e4.A7];rfl
theorem aL.A7:∀{ts:List aJ} (h:aL D ts),aL.dec D ts (aL.cells D ts h)=some h
 |[],_=>rfl
 |_::_,h=>e4.A7 h
theorem aL.gL:∀{ts:List aJ} {l:List (Cell D)},l.map Cell.ty=ts->∃h,aL.dec D ts l=some h:=by
 have go:∀(ts:List aJ) (l:List (Cell D)),l.map Cell.ty=ts->∃h:aL D ts,aL.cells D ts h=l:=by
  intro ts;induction ts with
  |nil=>intro l h;cases l with
   |nil=>exact⟨(),rfl⟩
   |cons=>cases h
  |cons t r ih=>
   intro l h;cases l with
   |nil=>cases h
   |cons c l=>
    obtain⟨f,x⟩:=c;simp only[gz,yj]at h;obtain⟨h1,e⟩:=h;subst h1;obtain⟨y,a⟩:=ih l e;cases r with
    |nil=>
     cases l with
     |nil=>exact⟨x,rfl⟩
     |cons=>cases e
    |cons u r=>exact⟨(x,y),by show⟨f,x⟩::aL.cells D (u::r) y=_;rw[a]⟩
 intro ts l h;obtain⟨y,a⟩:=go ts l h;exact⟨y,by rw[<-a];exact aL.A7 y⟩
def Ok(U:cK)(ts:List aJ)(h:aL U.D ts):Prop:=∀c,c∈aL.cells U.D ts h->∀d,d∈c.ty.row U c.val->WF U d
theorem acY:cx N ([]:bf U) []:=λb x h=>by cases h
theorem M8{J:bf U}:∀{xs:List (bz U)},(∀x,x∈xs->fB x=true)->a' (ca N J) xs (xs.map e5)
 |[],_=>.nil
 |x::xs,h=>.cons (wb (h x (by simp))).1 (M8 λy a=>h y (by simp[a]))
theorem KD{k:Nat->Bool}:∀{xs:List (bz U)},(∀x,x∈xs->fB x=true)->V.aA.V.dF k (xs.map e5)=true
 |[],_=>rfl
 |x::xs,h=>by
  simp only[gz,V.aA.V.dF,cd];exact⟨(wb (N:=0) (J:=[]) (h x (by simp))).2 k,KD λy a=>h y (by simp[a])⟩
variable{F:aL U.D ts->Option (aL U.D [.bool])}
theorem agd(Q:U.Total)(hs:hV P ⟨f,gA,[],ts,.c (.hole .bool),[],[.bool],F⟩)
 (O:∀h:aL U.D ts,Ok U ts h->F h=some true){st:TypeId->Option Nat}(K:rW P U st){i:List TypeId}(E:l1 P U st i gA ts=true)
 {b0:Nat}{args:Array Value}{ds:List (DataW H)}{ps:List MemPlace}(L:∀(j:Nat) t v,i[j]?=some t->args[j]?=some v->Value.okWide P w .any b0 t v)
 (ht:DataW.TrodAll enc P w 0 (λ_=>true) true i args.toList ds ps)(N:∀k,k∈DataW.weightsEach P i ds->k<=reachBytes):
 Calls P f args w λe w'=>e= .returned (.bool true)/\Below w.heap.size w w':=by
 obtain⟨l,xs,z,A,B,n,C⟩:=J9 Q (λb=>(b,0)) K i gA ts args.toList ds ps E (λj t v s M=>L j t v s (by simpa using M)) ht N;obtain⟨h,aa⟩:=aL.Q6 ts l z;have bE:=O h (λc m d q=>A c (aa▸m) d q)
 have p:=hs h true bE (xs.map e5) [] (by
  show a' (ca 0 _) (kN gA (aL.cells U.D ts h)).1 _;rw[aa,B];exact M8 n) (by
  show cx 0 (gv 0 [] _) []
  exact acY)
 have:=p (λb=>(b,0)) (Old w) w (λ_=>False) {blk:=λb x a=>(by cases a),inj:=λb R x y a=>(by cases a),st:=λb j o=>o} (λb x a=>by cases a) (λb x a=>by cases a)
  (KD n) args.toList C
 rw[Array.toArray_toList]at this;refine this.mono λe w' ⟨v,r,S,bQ,J',N',he,⟨_,G,_⟩,J,_,_,_,g,_⟩=>?_;cases G with
 |c m=>
  cases m with
  |t c=>
   cases J with
   |c I=>
    cases I;exact⟨he,g.os,g.tape,g.output,g.size,λk u=>g.block k u (λh=>h)⟩
theorem YZ{f:Func}{s:ChangeSpec}{o zQ n:Bool}{W e:World}{args:Array Value}{ds gs:List (DataW H)}
 (di:DataW.Whole enc P f.params.toList s.vars false W args.toList ds gs c)(k:Below W.heap.size W e)
 (hres:∀(b:Nat) (d:Nat->Bool) (q:Bool),DataW.TrodAll enc P e b d q f.resultTypes.toList (v.resultList f.resultTypes.size) (s.fn H (ds++gs)).results [])
 (i:∀d:Nat->Bool,(∀p∈c,d p.block=true)->DataW.TrodAll enc P e 0 d true f.params.toList args.toList (s.fn H (ds++gs)).args c)
 (m:∀d:Nat->Bool,(∀p∈c,d p.block=true)->DataW.TrodVars enc P e d s.vars (s.fn H (ds++gs)).vars [])
 (u:∀(j:Nat) (t:TypeId) (r:Value),f.resultTypes[j]?=some t->(v.resultList f.resultTypes.size)[j]?=some r->Value.okWide P e .any 0 t r):
 s.post enc P f false o zQ n W args v e:=by
 have aB:=di.lt;have l:∀p∈c,(λb=>decide (b<W.heap.size)) p.block=true:=λp g=>by simpa using aB p g
 refine⟨ds,gs,c,[],c,[],di,hres _ _ _,i _ l,m _ l,k.frame _,λ_=>?_⟩;refine⟨u,(s.fn H (ds++gs)).results++(s.fn H (ds++gs)).args,(s.fn H (ds++gs)).vars,c,⟨c,[],?_,m _ (λ_ _=>rfl),by simp,?_,λh=>by cases h⟩,λp g _=>g⟩
 . have:=trodAll_append (i (λ_=>true) (λ_ _=>rfl)) (hres 0 (λ_=>true) true);simpa using this
 . intro b off g;obtain⟨_,_,_,_,_,x,_⟩:=di;rw[World.frozen?_of_block (w:=W) (a:=⟨b,off,none⟩) (k.block b (aB _ g))];exact x b off g
theorem age{fn:Func}{s:ChangeSpec}(aj:U.Total)
 (hs:hV P ⟨f,gA,[],ts,.c (.hole .bool),[],[.bool],F⟩)
 (ai:∀h:aL U.D ts,Ok U ts h->F h=some true){st:TypeId->Option Nat}(ae:rW P U st)(E:l1 P U st fn.params.toList gA ts=true)
 {J:TypeId}(hres:fn.resultTypes=#[J])(htb:P.underlying J=some .bool)(A:s.vars=[])
 (Q:∀ds:List (DataW H),ds.length=ts.length->(s.fn H ds).results=[.lit (.bool true)]/\(s.fn H ds).args=ds/\(s.fn H ds).vars=[])
 (y:(laidOutB P&&mapsRowed P)=true)(X:fn.params.toList.all (λt=>decide (t<P.types.size))=true)
 (ad:((List.range P.types.size).all λt=>match P.underlying t with|some (.slice e)=>decide (0<P.cellsOf e)|_=>true)=true)
 {W:World}{base:Nat}{args:Array Value}{ds gs:List (DataW H)}{M:List MemPlace}{N zQ L:Bool}
 (I:∀(j:Nat) t v,fn.params[j]?=some t->args[j]?=some v->Value.okWide P W .any base t v)
 (di:DataW.Whole enc P fn.params.toList s.vars false W args.toList ds gs M)
 (w:(DataW.weightsEach P (fn.params.toList++s.plain.varTypes P) (ds++gs)).all (· <=reachBytes)=true):
 Calls P f args W λe m=>∃v,e= .returned v/\s.post enc P fn false N zQ L W args v m:=by
 have u:=di;obtain⟨p,q,o,gN,rfl,R,bT⟩:=di;rw[A]at gN;obtain⟨rfl,rfl⟩:=trodVars_none gN;have ah:s.plain.varTypes P=[]:=by show s.vars.filterMap _=[]<;>simp[A]
 rw[ah,lX,lX,cY]at w;have C:ds.length=ts.length:=by
  have h1:∀{g:List TypeId} {vs:List Value} {ds:List (DataW H)} {ps:List MemPlace},DataW.TrodAll enc P W 0 (λ_=>true) true g vs ds ps->ds.length=g.length:=by
   intro g;induction g with
   |nil=>intro vs ds ps h;obtain⟨_,rfl,_⟩:=trodAll_nil h;rfl
   |cons t r ih=>intro vs ds ps h;obtain⟨_,_,_,_,_,_,_,rfl,_,_,n⟩:=trodAll_cons h;simp[ih n]
  rw[h1 o,SG E]
 obtain⟨Y,Z,ab⟩:=Q ds C;simp only[cd]at y;have K:=kids_rows y.1 y.2;have af:=slices_full_of P ad;refine(agd aj hs ai ae E (λj t v S ag=>I j t v (by simpa using S) ag) o (λk V=>by simpa using w k V)).mono λe m ⟨he,B⟩=>?_;subst he;refine⟨_,rfl,YZ u B ?_ ?_ ?_ ?_⟩
 . intro b l al;rw[lX,Y,hres];exact trodAll_cons_mk (shut_bool htb _) trodAll_mk0
 . intro l G;rw[lX,Z];have aB:=u.lt;clear u R bT w I C;have c7:∀t,t∈fn.params.toList->t<P.types.size:=λt ht=>by simpa using cY.1 X t ht
   have go:∀ {g:List TypeId} {vs:List Value} {ds:List (DataW H)} {ps:List MemPlace},(∀ t,t∈g->t<P.types.size)->(∀ p∈ps,p.block<W.heap.size/\l p.block = true)->
    DataW.TrodAll enc P W 0 (λ_=>true) true g vs ds ps->DataW.TrodAll enc P m 0 l true g vs ds ps:=by
    intro g;induction g with
    |nil=>intro vs ds ps _ _ h;obtain⟨rfl,rfl,rfl⟩:=trodAll_nil h;exact trodAll_mk0
    |cons t r ih=>
     intro vs ds ps c7 z h;obtain⟨v,am,d,ak,a,b,rfl,rfl,rfl,⟨O,h1⟩,n⟩:=trodAll_cons h;refine⟨a,b,⟨O,DataW.trod_stays (T:=(· < P.types.size)) K (λ{t e}=>af t e) (by intro aa;cases aa) (c7 t (by simp)) h1 (λx i=>B.same (z x (by simp[i])).1) (λx i=>(z x (by simp[i])).2)⟩,ih (λt ht=>c7 t (by simp[ht])) (λx i=>z x (by simp[i])) n,rfl⟩
   rw[lX];exact go c7 (λx i=>⟨aB x (by simp[i]),G x (by simp[i])⟩) o
 . intro l G;rw[lX,ab,A];exact rfl
 . exact ok_one hres rfl (okWide_bool_mk htb _)
end
end
section
open Go
theorem j'{a b:Int}(h1: -9223372036854775808<=a+b:=by omega)(c:a+b<=9223372036854775807:=by omega):aM .i64 a b=a+b:=by unfold aM;rw[IntKind.wrap_i64];omega
theorem hG{a b:Int}(h1: -9223372036854775808<=a-b:=by omega)(c:a-b<=9223372036854775807:=by omega):df .i64 a b=a-b:=by unfold df;rw[IntKind.wrap_i64];omega
theorem jC{a:Int}(h1: -9223372036854775808<=a:=by omega)(b:a<=9223372036854775807:=by omega):bW .i64 a=a:=by unfold bW;rw[IntKind.wrap_i64];omega
theorem aQ{k n:Nat}(h:k<n):aH (k:Int) n=true:=by unfold aH;simp[h]
theorem bd(k:Nat):(k:Int).toNat=k:=od k
theorem kS{a:Int}(h0:0<=a:=by omega)(h1:a<18446744073709551616:=by omega):IntKind.u64.wrap a=a:=by rw[IntKind.wrap_u64];omega
variable{a:Nat}{α:Type}
theorem hv(h1:a<18446744073709551616:=by omega):bW .u64 (a:Int)=a:=kS
theorem wH:(2:Nat)^64=18446744073709551616:=by decide
theorem M9{b:Nat}(c:a<18446744073709551616)(d:b<18446744073709551616):rC .u64 (a:Int) (b:Int)=((a ||| b:Nat):Int):=by
 have f:a ||| b<2^64:=Nat.or_lt_two_pow (by rw[wH];exact c) (by rw[wH];exact d);have e:(BitVec.ofInt 64 (a:Int) ||| BitVec.ofInt 64 (b:Int)).toNat=a ||| b:=by grind
 show IntKind.u64.wrap (((BitVec.ofInt 64 (a:Int) ||| BitVec.ofInt 64 (b:Int)).toNat:Nat):Int)=_;rw[e];rw[wH]at f;exact kS
theorem NX{n c i:Nat}(h:n<2^i):n ||| (c*2^i)=n+c*2^i:=by rw[Nat.or_comm,wm,<-Nat.two_pow_add_eq_or_of_lt h,yn]
theorem abA{b:Nat}(a:b<256):A1 .u8 (b:Int) 127=((b%128:Nat):Int):=by
 have e:(BitVec.ofInt 8 (b:Int) &&& BitVec.ofInt 8 (127:Nat)).toNat=b%128:=by
  rw[wq,wq,BitVec.toNat_and,wg,wg,og (by omega)];exact Nat.and_two_pow_sub_one_eq_mod b 7
 show IntKind.u8.wrap (((BitVec.ofInt 8 (b:Int) &&& BitVec.ofInt 8 (127:Nat)).toNat:Nat):Int)=_;rw[e,IntKind.wrap_u8];omega
theorem KE{k:Nat}(b:k<=64)(h:a*2^k<18446744073709551616):mO .u64 (a:Int) (k:Int)=((a*2^k:Nat):Int):=by
 unfold mO;have:min ((k:Int).toNat) IntKind.u64.bits=k:=by simp[IntKind.bits];omega
 rw[this];have e:(a:Int)*2^k=((a*2^k:Nat):Int):=by push_cast;rfl
 rw[e];exact kS
theorem tT(h:a<18446744073709551616):fv .u64 (a:Int) 2=((a/2:Nat):Int):=by
 unfold fv;have e:(a:Int).tdiv 2=((a/2:Nat):Int):=by rw[yu (by omega)];omega
 rw[e];exact kS
theorem Am{b:Nat}:b' (a:Int) (b:Int)=((a%b:Nat):Int):=by rfl
theorem tJ{b:Nat}(h:a*b<18446744073709551616):gw .u64 (a:Int) (b:Int)=((a*b:Nat):Int):=by
 unfold gw;have e:(a:Int)*b=((a*b:Nat):Int):=by push_cast;rfl
 rw[e];exact kS
theorem NY{a b:Int}(h1: -9223372036854775808<=a*b)(c:a*b<=9223372036854775807):gw .i64 a b=a*b:=by unfold gw;rw[IntKind.wrap_i64];omega
theorem rY{b:Nat}(h:a+b<18446744073709551616):aM .u64 (a:Int) (b:Int)=((a+b:Nat):Int):=by
 unfold aM;have e:(a:Int)+b=((a+b:Nat):Int):=by push_cast;rfl
 rw[e];exact kS
theorem vE{b:Nat}(h:a+b<=9223372036854775807):aM .i64 (a:Int) (b:Int)=((a+b:Nat):Int):=by rw[j'];norm_cast
theorem bD(h:a<9223372036854775807:=by omega):aM .i64 (a:Int) 1=((a+1:Nat):Int):=by rw[j'];norm_cast
theorem qI(s:aj)(i:Nat):fq s (i:Int)=((s.getD i 0).toNat:Int):=by simp[fq]
theorem y0(s:aj)(i:Nat):(s.getD i 0).toNat<256:=UInt8.toNat_lt _
theorem nE(l:List α)(k:Nat):d' l (k:Int) (l.length:Int)=l.drop k:=by simp[d']
theorem tE(l:List α)(k:Nat):d' l 0 (k:Int)=l.take k:=by simp[d']
theorem jK{b n:Nat}(h1:a<=b)(c:b<=n):dS (a:Int) (b:Int) n=true:=by unfold dS;simp;omega
theorem Ip(a b:Nat):je (a:Int) (b:Int)=((min a b:Nat):Int):=by unfold je;omega
theorem cP{k n:Nat}(a:k<=1000:=by omega)(h:n<=100000:=by simp;omega):room k n=true:=by
 unfold room j8 eG;simp only[cd,dn];refine⟨?_,by omega⟩;have:(2*n+192)*k<=200192*1000:=Nat.mul_le_mul (by omega) a;omega
end
section
open Go Go.Proofs Go.Proofs.YtdjagncoefjfeaaGreat Go.Sort Go.RowKit
variable {P:Program}{α:Type}[Inhabited α]
theorem Uy(w:World)(blk:Nat)(f:Array Value->Array Value){b:Nat}(h:b≠blk):(mapBlock w blk f).heap[b]?=w.heap[b]?:=by simp[mapBlock,BG,dJ h]
theorem V7(w:World)(blk:Nat)(f:Array Value->Array Value){c:Array Value}{E:TypeId}{a:Nat×Nat}(h:w.heap[blk]?=some (.cells c E a)):(mapBlock w blk f).heap[blk]?=some (.cells (f c) E a):=by
 simp[mapBlock,BG,h,onCells]
theorem abB{g k:Nat}(enc:α->List Value)(m:α->List T)(F:Array α->Array α)(aS:∀x,(enc x).length=k)(M:∀x,(m x).length=k)(K:0<k)
 (aP:∀(w:World) (S:dQ) (x:α) (j:Nat) (t:T) (v:Value),(m x)[j]?=some t->cf w S t v->(enc x)[j]?=some v)
 (bE:∀d:Array α,(F d).size=d.size/\∀x,x∈(F d).toList->x∈d.toList)
 (au:∀(blk off cap:Nat) (d:Array α) (w:World),HoldsK enc k w blk off d->blk<w.heap.size->d.size<4611686018427387904->
  Calls P f #[.slice (some ⟨blk,off,none⟩) d.size cap,.func (.func g) #[] #[]] w λe w'=>e= .returned (.tuple #[])/\∃n os,w'=sortWorldK enc k w blk off n (F d) os)
 (aL:∀(p:Option Addr) (cap:Nat) (al:Value) (w:World),Calls P f #[.slice p 0 cap,al] w λe w'=>e= .returned (.tuple #[])/\w'=w)
 {J:a8}{d:List α}(h0:aW J 0=some (.arr k (d.map m)))(aC:0<kk):
 ea P f [.c (.arr 0 k 0 d.length),.c (.fn g [])] J kk (λr J' N'=>r= .aY []/\J'=da J 0 (.arr k ((F d.toArray).toList.map m))/\N'=kk):=by
 intro φ S w B q aM O aQ vs I;cases I with|cons z I=>
 cases I with|cons Q I=>
 cases I;cases z with|c z=>
 cases Q with|c Q=>
 obtain⟨a,rfl,an,aT⟩:=z;have aN:_=Value.func (.func g) #[] #[]:=Q;subst aN;obtain⟨af,ae,aU,_,aq⟩:=q.blk 0 _ h0;rw[gy]at af ae;obtain⟨aj,aH⟩:=bE d.toArray;have Z:∀ w':World,Ext B S S w w'->qe φ w' S (da J 0 (.arr k ((F d.toArray).toList.map m)))->∃ v r D bQ J' N',Ending.returned (Value.tuple #[]) = Ending.returned v/\(r = V.aY []/\J' = da J 0 (.arr k ((F d.toArray).toList.map m))/\N' = kk)/\cm D w' bQ r v/\r.aA (lt N') = true/\qe D w' bQ J'/\(∀ (b:Nat) x,aW J' b = some x->b<N'/\x.aA (lt N') = true)/\Ext B S bQ w w'/\
  (∀(b:Nat) x,aW J' b=some x->(D b).2≠0->B (D b).1\/w.heap.size<=(D b).1)/\∀b,b<kk->D b=φ b:=by
  intro w' dR aF;refine⟨_,.aY [],φ,S,_,kk,rfl,⟨rfl,rfl,rfl⟩,.aY [] [] rfl (by simp),rfl,aF,λb x l=>?_,dR,λb x l o=>?_,λ_ _=>rfl⟩
  . rw[cV]at l;split at l
    . rename_i o;cases l;subst o;exact⟨aC,rfl⟩
    . exact aM b x l
  . rw[cV]at l;split at l
    . rename_i ao;subst ao;exact .inl (O _ _ h0 o)
    . exact .inl (O b x l o)
 by_cases L:(φ 0).2=0
 ·
  have av:d=[]:=jR (by omega);subst av;refine(aL a _ _ w).mono ?_
  rintro e w' ⟨rfl,rfl⟩
  have he:(F ([]:List α).toArray).toList.map m=([]:List α).map m:=by grind
  refine Z _ Ext.refl ?_;rw[he];refine⟨λb x l=>?_,λb G x y l W=>?_,q.st⟩
  . rw[cV]at l;split at l
    . rename_i o;cases l;subst o;exact q.blk _ _ h0
    . exact q.blk b x l
  . have key:∀b x,aW (da J 0 (.arr k (([]:List α).map m))) b=some x->∃A,aW J b=some A:=by
     intro b x l;rw[cV]at l;grind
    obtain⟨A,R⟩:=key b x l;obtain⟨Y,X⟩:=key G y W;exact q.inj b G A Y R X
 . obtain⟨vs,E,aa,ak,ar,ag⟩:=aq L;rw[an L];have ai:∀(i j:Nat) (t:T) (x:α),d[i]?=some x->(m x)[j]?=some t->∃v,vs[i*k+j]?=some v/\cf w S t v/\(enc x)[j]?=some v:=by
    intro i j t x s u;obtain⟨v,z,ah⟩:=ar i j (m x) t (by rw[oc,s];rfl) u;grind
   have ab:(φ 0).1<w.heap.size:=(by grind);have am:HoldsK enc k w (φ 0).1 (0*k) d.toArray:=by
    intro j u;rw[size_flatK]at u;have az:j<d.length*k:=(by simpa using u);have s:j/k<d.length:=(Nat.div_lt_iff_lt_mul K).2 az;have H:j%k<k:=yr _ K;have l:d[j/k]?=some d[j/k]:=eH s;have aG:j%k<(m d[j/k]).length:=by rw[M];exact H
    obtain⟨v,z,_,he⟩:=ai (j/k) (j%k) _ _ l (eH aG);have aA:j/k*k+j%k=j:=by rw[wm];exact Nat.div_add_mod j k
    rw[aA]at z;refine⟨?_,by simp[World.frozen?,aa]⟩;rw[yo,ga,ju aa,z,get_flatK _ _ _ _ u];grind
   have aD:d.toArray.size<4611686018427387904:=by
    have:eG=281474976710656:=rfl;simp;omega
   refine(au (φ 0).1 (0*k) _ d.toArray w am ab aD).mono ?_
   rintro e w' ⟨rfl,n,os,rfl⟩
   have N:∀b:Nat,b<w.heap.size->b≠(φ 0).1->(sortWorldK enc k w (φ 0).1 (0*k) n (F d.toArray) os).heap[b]?=w.heap[b]?:=by
    intro b o aI;unfold sortWorldK putRowK putRow;rw[heap_grow_old _ _ (by simpa[mapBlock,Go.Sort.ahead]using o),Uy _ _ _ aI];rfl
   have aJ:(sortWorldK enc k w (φ 0).1 (0*k) n (F d.toArray) os).heap[(φ 0).1]?=some (.cells (putCells id (0*k) (flatK enc k (F d.toArray)) vs.toArray).toList.toArray E (0,0)):=by
    unfold sortWorldK putRowK putRow;rw[heap_grow_old _ _ (by simpa[mapBlock,Go.Sort.ahead]using ab),V7 (Go.Sort.ahead w n) _ _ (by exact aa)]
   have H:gq w S (sortWorldK enc k w (φ 0).1 (0*k) n (F d.toArray) os) S:=⟨λ_ _ h=>h,λb j h=>qB (N b (q.st b j h) (λe=>ag j (e▸h))) j⟩
   refine Z _ ⟨rfl,rfl,rfl,?_,λb o dm=>N b o (λe=>dm (e▸O 0 _ h0 L)),H,λ_ _ h=>.inl h⟩ ⟨λb x l=>?_,λb G x y l W=>?_,λb j h=>?_⟩
   . unfold sortWorldK putRowK putRow;simp[grow,mapBlock,Go.Sort.ahead]
   . rw[cV]at l;split at l
     . rename_i o;cases l;subst o;refine⟨by simpa[aj]using af,by simpa[aj]using ae,λe he=>?_,K,λ_=>⟨_,E,aJ,by simpa[putCells]using ak,λi j e t s u=>?_,ag⟩⟩
       . obtain⟨x,_,rfl⟩:=eO.1 he;exact M x
       . rw[oc]at s;cases U:(F d.toArray).toList[i]? with
         |none=>rw[U]at s;cases s
         |some x=>
          rw[U]at s;have:e=m x:=(lY s).symm;subst this;have l:x∈d:=(by simpa using aH x (eM U));obtain⟨aO,ax,aw⟩:=eZ l;obtain⟨v,z,ah,he⟩:=ai aO j t x (by rw[eH ax,aw]) u;refine⟨v,?_,cf.mono H ah⟩;have aR:j<k:=by rw[<-M x];exact(c5.1 u).1
          have ay:i<(F d.toArray).size:=(by grind);have aB:i*k+j<(F d.toArray).size*k:=by
           have:=eW k (show i+1<=(F d.toArray).size from ay);grind
          have aE:i*k+j<vs.length:=by
           rw[ak];refine lT aB (eW k ?_);grind
          have d1:(i*k+j)/k=i:=(blk_iff k i _ K).1 ⟨by omega,by omega⟩;have d2:(i*k+j)%k=j:=by rw[Nat.mod_eq_sub_div_mul,d1];omega
          have aK:(F d.toArray)[i]! =x:=(by grind);have:(putCells id (0*k) (flatK enc k (F d.toArray)) vs.toArray).toList[i*k+j]?=some ((flatK enc k (F d.toArray))[i*k+j]!):=by
           rw[Fc];simp only[putCells,Array.getElem?_mapIdx];rw[show vs.toArray[i*k+j]?=some vs[i*k+j] by simp[aE]];simp[size_flatK,aB]
          rw[this,get_flatK _ _ _ _ aB,d1,d2,aK,List.getElem!_eq_getElem?_getD,he];rfl
     . rename_i o;have ap:b≠0:=λe=>o (by simp[e]);refine c1.mono (n:=λ_=>true) H (λ_ _=>rfl) rfl (by cases x<;>simp[bO.aA,C.me]) (λad=>N _ ((q.blk b x l).ki ad) (q.inj b 0 x _ l h0 ap ad L)) (q.blk b x l)
   . have key:∀b x,aW (da J 0 (.arr k ((F d.toArray).toList.map m))) b=some x->∃A,aW J b=some A:=by
      intro b x l;rw[cV]at l;grind
     obtain⟨A,R⟩:=key b x l;obtain⟨Y,X⟩:=key G y W;exact q.inj b G A Y R X
   . have:=q.st b j h;unfold sortWorldK putRowK putRow;simp[grow,mapBlock,Go.Sort.ahead];omega
def hP(lt:α->α->Bool)(l:List α):List α:=(pdq lt l.toArray 0 l.length (Lib.bitLen l.length) true true).toList
theorem HK{lt:α->α->Bool}(b:SWO lt)(l:List α):(hP lt l).Perm l:=by
 obtain⟨⟨hs,_,a⟩,_⟩:=pdq_sorts lt b l.toArray 0 l.length (Lib.bitLen l.length) true true (h' _) (by simp) (Or.inl rfl);have aK:∀d:Array α,d.size=l.length->d.extract 0 l.length=d:=λd h=>by rw[<-h];exact Array.extract_size
 rw[aK _ (by simpa using hs),aK _ (by simp)]at a;simpa[hP]using a
theorem W1{lt:α->α->Bool}(a:SWO lt)(l:List α):(hP lt l).length=l.length:=(HK a l).length_eq
theorem W2{lt:α->α->Bool}(a:SWO lt)(l:List α):(hP lt l).Pairwise λx y=>lt y x=false:=by
 obtain⟨⟨hs,_,_⟩,aF⟩:=pdq_sorts lt a l.toArray 0 l.length (Lib.bitLen l.length) true true (h' _) (by simp) (Or.inl rfl);have f:(hP lt l).length=l.length:=W1 a l;rw[ru];intro i j g d c;have:=aF i j (h' _) c (by rw[<-f];exact d);have e:∀i (h:i<(hP lt l).length),(pdq lt l.toArray 0 l.length (Lib.bitLen l.length) true true)[i]! =(hP lt l)[i]:=by
  intro i h;have b:i<(pdq lt l.toArray 0 l.length (Lib.bitLen l.length) true true).size:=by simpa[hP]using h
  rw[getElem!_pos _ i b];simp[hP]
 grind
def FQ(U:cK)(f n g:Nat)(F:List (U.D n)->List (U.D n)):cB U:=
 ⟨f,[.c (.arr 0),.c (.fn g [])],[.arr (.nm n)],[.slice (.nm n)],.aY [],[.arr (.nm n)],[.slice (.nm n)],λ(l:List (U.D n))=>some (F l)⟩
theorem abC{n g:Nat}[Inhabited (U.D n)](enc:U.D n->List Value)(lt:U.D n->U.D n->Bool)(E:SWO lt)(K:∀x,(enc x).length=(aJ.nm n).sz U)
 (F:∀(w:World) (S:dQ) (x:U.D n) (j:Nat) (t:T) (v:Value),((aJ.nm n).enc U x)[j]?=some t->cf w S t v->(enc x)[j]?=some v)
 (I:∀(blk off cap:Nat) (d:Array (U.D n)) (w:World),HoldsK enc ((aJ.nm n).sz U) w blk off d->blk<w.heap.size->d.size<4611686018427387904->
  Calls P f #[.slice (some ⟨blk,off,none⟩) d.size cap,.func (.func g) #[] #[]] w λe w'=>e= .returned (.tuple #[])/\∃N os,w'=sortWorldK enc ((aJ.nm n).sz U) w blk off N (pdq lt d 0 d.size (Lib.bitLen d.size) true true) os)
 (L:∀(p:Option Addr) (cap:Nat) (z:Value) (w:World),Calls P f #[.slice p 0 cap,z] w λe w'=>e= .returned (.tuple #[])/\w'=w):
 hV P (FQ U f n g (hP lt)):=by
 intro(l:List (U.D n)) r bE Q J1 c aF;have M:r=hP lt l:=(lY bE).symm;subst M;cases c with|cons c i=>
 cases i with|cons i G=>
 cases G;obtain⟨sz,m,rfl,_,J⟩:=ca.gY c;have:=ca.EU i;subst this;have u:Shv.aX ((FQ U f n g (hP lt)).iE l) 0=some (.arr (.nm n) l):=rfl;have o:=J _ u _ rfl;obtain⟨_,V,A,b0⟩:=aF 0 _ u;cases b0;have aK:sz=(aJ.nm n).sz U:=(ep Prod.fst o).symm;have y:m=l.length:=(ep Prod.snd o).symm;subst aK;subst y;have s:∀d:Array (U.D n),(hP lt d.toList).Perm d.toList:=λd=>HK E d.toList
 refine(abB (α:=U.D n) (kk:=1) enc ((aJ.nm n).enc U) (λd:Array (U.D n)=>(hP (α:=U.D n) lt d.toList).toArray) K (λx=>aJ.sb) aJ.wF F
  (λd=>⟨by simpa using(s d).length_eq,λx a=>(s d).mem_iff.1 (by simpa using a)⟩) (λblk off cap d w h1 B C=>?_) L A Nat.one_pos).mono ?_
 . have:=I blk off cap d w h1 B C;simpa[hP]using this
 . rintro R s1 O ⟨rfl,rfl,rfl⟩
   refine⟨rfl,.aY [] [] rfl (by simp),λb x a=>?_⟩;have c9:(hP lt l.toArray.toList).toArray.toList=hP lt l:=(by simp);simp only[c9];clear c9 bE;generalize hP lt l=q at a⊢;have k:(if b=0 then some (cO.arr (U:=U) (.nm n) q)else none)=some x:=by
    rw[<-a];cases b<;>rfl
   split at k
   . rename_i H;cases k;subst H;refine⟨Nat.one_pos,_,?_,.arr (U:=U) (.nm n) q⟩;rw[cV];simp;rfl
   . cases k
theorem Y0(w:World)(S:dQ)(i:Int)(s:aj)(j:Nat)(t:T)(v:Value)(h:[T.int .i64 i,T.str s][j]?=some t)(a:cf w S t v):[Value.int .i64 i,Value.string ⟨s.toArray⟩][j]?=some v:=by
 match j,h with
 |0,h=>cases h;cases a;rfl
 |1,h=>cases h;cases a;rfl
theorem ab3(key:α->Int):SWO (λx y=>decide (key x<key y)) where
 irrefl x:=by simp
 trans x y z h1 a:=by simp at*;omega
 ntrans x y z h1 a:=by simp at*;omega
end
section
open Go Go.Proofs Go.Proofs.YtdjagncoefjfeaaGreat Go.Sort
def kW{α:Type}(a b:Option α):Prop:=∀r,a=some r->b=some r
theorem kW.r{α:Type}{a:Option α}:kW a a:=λ_ h=>h
theorem kW.n{α:Type}{a:Option α}:kW none a:=λ_ h=>by cases h
theorem kW.b{α j:Type}{a b:Option α}{k e:α->Option j}(h:kW a b)(f:∀x,kW (k x) (e x)):kW (a>>=k) (b>>=e):=by
 intro r c;cases a with
 |none=>cases c
 |some x=>rw[h x rfl];exact f x r c
theorem kW.i{α:Type}{p:Prop}[Decidable p]{a b c d:Option α}(h:kW a c)(k:kW b d):kW (if p then a else b) (if p then c else d):=by grind
variable {α:Type}[Inhabited α]
def n4(lt:α->α->Bool)(x:α):List α->List α
 |[]=>[x]
 |y::r=>if lt x y then x::y::r else y::n4 lt x r
def gP(lt:α->α->Bool):List α->List α
 |[]=>[]
 |x::r=>n4 lt x (gP lt r)
def ka(lt:α->α->Bool):List α->Bool
 |[]=>true
 |x::r=>r.all (λy=>lt x y||lt y x)&&ka lt r
theorem Ho(lt:α->α->Bool)(x:α):∀l,(n4 lt x l).Perm (x::l)
 |[]=>.refl _
 |y::r=>by
  simp only[n4];split
  . simp_all
  . exact((Ho lt x r).cons y).trans (.swap x y r)
theorem nA(lt:α->α->Bool):∀l,(gP lt l).Perm l
 |[]=>.refl _
 |x::r=>(Ho lt x _).trans ((nA lt r).cons x)
theorem Jn{lt:α->α->Bool}(b:SWO lt)(x:α):∀{l:List α},l.Pairwise (λx y=>lt y x=false)->(n4 lt x l).Pairwise λx y=>lt y x=false
 |[],_=>by simp[n4]
 |y::r,h=>by
  rw[jf]at h;simp only[n4];split
  . rename_i c;have d:lt y x=false:=by
     cases e:lt y x with
     |false=>rfl
     |true=>have:=b.trans _ _ _ c e;rw[b.irrefl]at this;cases this
    rw[jf];refine⟨λz a=>?_,jf.2 h⟩;rcases fe.1 a with rfl|a
    . exact d
    . exact b.ntrans _ _ _ (h.1 z a) d
  . rename_i c;rw[jf];refine⟨λz a=>?_,Jn b x h.2⟩;rcases fe.1 ((Ho lt x r).mem_iff.1 a)with rfl|a
    . grind
    grind
theorem CG{lt:α->α->Bool}(a:SWO lt):∀l:List α,(gP lt l).Pairwise λx y=>lt y x=false
 |[]=>.nil
 |x::r=>Jn a x (CG a r)
theorem IN{lt:α->α->Bool}:∀{l:List α},ka lt l=true->∀a b,a∈l->b∈l->a=b\/lt a b=true\/lt b a=true
 |x::r,h,a,b,c,e=>by
  simp only[ka,cd,cY,hO]at h;rcases fe.1 c with g|d<;>rcases fe.1 e with i|f
  . grind
  . grind
  . grind
  . exact IN h.2 a b d f
theorem Jo{lt:α->α->Bool}{l:List α}(f:ka lt l=true):∀{a b:List α},a.Perm l->b.Perm l->a.Pairwise (λx y=>lt y x=false)->b.Pairwise (λx y=>lt y x=false)->a=b:=by
 intro a b c d h1 e;refine List.Perm.eq_of_pairwise (le:=λx y=>lt y x=false) (λx y g i j k=>?_) h1 e (c.trans d.symm);rcases IN f x y (c.mem_iff.1 g) (d.mem_iff.1 i)with h|h|h
 . exact h
 . grind
 grind
theorem M'{lt:α->α->Bool}(a:SWO lt){l:List α}(b:ka lt l=true):hP lt l=gP lt l:=
 Jo b (HK a l) (nA lt l) (W2 a l) (CG a l)
def FP(lt:α->α->Bool)(l:List α):Option (List α):=if ka lt l then some (gP lt l)else none
theorem abD{lt:α->α->Bool}(a:SWO lt)(l:List α):kW (FP lt l) (some (hP lt l)):=by
 intro r h;unfold FP at h;split at h
 . rename_i b;rw[M' a b];exact h
 . cases h
end
end Go.Proofs.YtdjagncoefjfeaaGreat.Shv
