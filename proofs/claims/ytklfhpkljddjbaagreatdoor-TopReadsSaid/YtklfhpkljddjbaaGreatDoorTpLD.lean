/- The library of this proof, part D: an abstract machine for the code of the program, and its soundness. -/
import Derived.KernelRfl
import Derived.Shelf.Strings.Builder1
import Derived.ChangeArms
import Derived.ChangeStays
import Derived.ChangeSame
import Derived.SizedLaws
import Derived.Below
import Derived.WalkKit
import Derived.ProofKit
import Derived.OpenShut
import Derived.Laws.BitsLemmas
import Derived.Laws.Bits64
import Derived.Shelf.GgSortFunc.InsertionK
import Derived.Shelf.SlSortCmp.Insertion
import Derived.Sort.AssemblyPlain
import Derived.Lib.BitFns
import Derived.Laws.IdiomRangeMap
import Derived.Shelf.Strconv.Itoa3
import Derived.Maps.RangeRun
import Derived.Test.YtklfhpkljddjbaaGreatDoorTpLC

namespace Go.Proofs.YtklfhpkljddjbaaGreatDoor.Shv
set_option linter.all false
section
open Go
variable {xb:List Nat}
variable {U:dC}{R:Type}
def wK(gl:gy)(gd:Option (Nat×Bool))(dst:Option Nat):Bool:=
 match dst with
 |none=>true
 |some d=>(gl.all λe=>!(Nat.beq e.1 d) && !(Nat.beq e.2.1 d))&&(match gd with
  |some g=>!(Nat.beq g.1 d)
  |none=>true)
def j8(dst:Option Nat)(v:b9 U)(env:cj U):cj U:=
 match dst with
 |none=>env
 |some d=>(d,v)::env
def nI(gl:gy)(gd:Option (Nat×Bool))(dst:Option Nat):gy:=
 match gd,dst with
 |some g,some d=>(d,g)::gl
 |_,_=>gl
abbrev iL(U:dC):=Nat->List (cY U)
abbrev rT(U:dC):=cj U->Option (List (b9 U))
def ajz(s:cY U)(hx:rT U)(env:cj U)(J:bA U)(key:Nat):Option (cj U×bA U×List Nat×bb U.D s.ts):=
 match hx env with
 |none=>none
 |some vs=>match HO J 0 0 s.st (Tg s.hb vs ([],[])) []with
  |(bs,o3)=>match qW o3 env J with
   |none=>none
   |some (env',J')=>match hx env' with
    |none=>none
    |some sQ=>match DY bs&&((bs.all λb=>Nat.ble (b+1) key)&&(Nat.beq bs.length s.st.length&&Nat.ble s.fq.length (bs.length+16)))with
     |false=>none
     |true=>match uz bs s.hb sQ,od bs J' 0 s.st with
      |some a,some b=>match bb.dec U.D s.ts (a++b)with
       |some h=>some (env',J',bs,h)
       |none=>none
      |_,_=>none
def Ik(hx:rT U)(env:cj U)(J:bA U)(key:Nat)(k:cj U->bA U->b9 U->Option R):List (cY U)->Option R
 |[]=>none
 |s::r=>match ajz s hx env J key with
  |none=>Ik hx env J key k r
  |some (env',J',bs,h)=>(s.F h)>>=λres=>match xk J' (s.rest res) 0 bs with
   |none=>none
   |some c=>if c=true then k env' (vy J' bs (back bs key) (s.rest res)) ((s.res res).cW (back bs key))else none
def isNil{α:Type}:List α->Bool
 |[]=>true
 |_=>false
def Xi(s:cY U)(hx:rT U)(env:cj U):Option (bb U.D s.ts):=
 match isNil s.st&&isNil s.fq,hx env with
 |true,some vs=>match vs.all ke,uz [] s.hb vs with
  |true,some a=>bb.dec U.D s.ts a
  |_,_=>none
 |_,_=>none
def Ij(hx:rT U)(env:cj U)(g:Bool)(k:b9 U->Option R):List (cY U)->Option R
 |[]=>none
 |s::r=>match Xi s hx env with
  |none=>Ij hx env g k r
  |some h=>(if g=true then s.F h else some (bb.qB U s.us))>>=λres=>match ke (s.res res)with
   |true=>k (s.res res)
   |false=>none
def hasB(J:bA U)(b:Nat):Bool:=match bh J b with
 |some _=>true
 |none=>false
def bH.pk(J:bA U):bH U->Bool
 |.t _|.ft .. |.aT|.hE|.hD=>true
 |.ptr b _=>hasB J b
 |.dw b _ _ _=>hasB J b
 |.fn _ caps=>caps.all (hasB J)
 |.arr b=>match bh J b with
  |some x=>(match x.ep with
   |some _=>true
   |none=>false)
  |none=>false
 |.sub .. =>false
 |.pre .. =>false
 |.fx .. =>false
 |.mp b=>hasB J b
 |.gw _=>false
 |.df b=>match bh J b with
  |some x=>(match x.ep with
   |some p=>Nat.beq p.1 1
   |none=>false)
  |none=>false
 |.dead=>false
def rh(J:bA U):b9 U->Bool
 |.c x=>x.pk J
 |.agg cs=>cs.all (bH.pk J)
 |.bn vs=>go J vs
where go (J:bA U):List (b9 U)->Bool
 |[]=>true
 |v::vs=>rh J v&&go J vs
def bH.mW(J:bA U):bH U->C
 |.t c=>.t (c.enc U)
 |.ft ty x o=>.ft (ty.enc U x) o
 |.aT=>.aT
 |.hE=>.hE
 |.hD=>.hD
 |.fn f caps=>.fn f caps
 |.ptr b o=>.ptr b o
 |.dw b ty i o=>.dw b (ty.sz U) i o
 |.arr b=>match bh J b with
  |some x=>(match x.ep with
   |some p=>.arr b p.1 0 p.2
   |none=>.dead)
  |none=>.dead
 |.sub b bE len=>.je b 1 bE len
 |.pre _ _=>.dead
 |.fx .. =>.dead
 |.mp b=>.mp b
 |.gw b=>.gw b
 |.df b=>match bh J b with
  |some x=>(match x.ep with
   |some p=>.df b p.2
   |none=>.dead)
  |none=>.dead
 |.dead=>.dead
def mS(J:bA U):b9 U->V
 |.c x=>.c (x.mW J)
 |.agg cs=>.agg (cs.map (bH.mW J))
 |.bn vs=>.bn (go J vs)
where go (J:bA U):List (b9 U)->List V
 |[]=>[]
 |v::vs=>mS J v::go J vs
def jN(J:bA U):ds U->Bool
 |.box cs=>cs.all (bH.pk J)
 |.arr _ _=>true
 |.rows .. =>false
 |.set _=>true
 |.buf _ _=>true
 |.cL _ c=>c.pk J
 |.dr .. =>false
def Cr(J:bA U):ds U->ck
 |.box cs=>.box (cs.map (bH.mW J))
 |.arr ty l=>.arr (ty.sz U) (l.map (ty.enc U))
 |.rows sz _=>.arr sz []
 |.set ks=>.set ks
 |.buf E s=>.buf E s
 |.cL E c=>.cL E (c.mW J)
 |.dr t l i o _=>.dr (t.sz U) (l.map (t.enc U)) i o .dead
def rp(J:bA U):bA U->br
 |[]=>[]
 |(b,x)::r=>(b,Cr J x)::rp J r
def aau(J:bA U)(l:bA U):Bool:=l.all λp=>Nat.ble (p.1+1) 16&&jN J p.2
def Xh(s:cY U)(hx:rT U)(env:cj U):Option (bb U.D s.ts):=
 match isNil s.st&&Nat.ble s.fq.length 16,hx env with
 |true,some vs=>match vs.all ke,uz [] s.hb vs with
  |true,some a=>bb.dec U.D s.ts a
  |_,_=>none
 |_,_=>none
def LG(hx:rT U)(env:cj U)(J:bA U)(key:Nat)(k:bA U->b9 U->Option R):List (cY U)->Option R
 |[]=>none
 |s::r=>match Xh s hx env with
  |none=>LG hx env J key k r
  |some h=>(s.F h)>>=λres=>match rh (s.rest res) (s.res res)&&aau (s.rest res) (s.rest res)with
   |true=>k (vy J [] (back [] key) (s.rest res)) ((s.res res).cW (back [] key))
   |false=>none
def bH.ic:bH U->List Nat
 |.ptr b _|.dw b _ _ _|.arr b|.sub b _ _|.pre b _|.fx b _ _|.mp b|.gw b|.df b=>[b]
 |.fn _ caps=>caps
 |_=>[]
def b9.ic:b9 U->List Nat
 |.c x=>x.ic
 |.agg cs=>cs.flatMap bH.ic
 |.bn _=>[]
def tx(l:List Nat)(b:Nat):Bool:=l.any λc=>Nat.beq c b
def ajA(xb:List Nat)(s:cY U)(hx:rT U)(env:cj U)(J:bA U)(key:Nat):Option (List Nat×bb U.D s.ts):=
 match hx env with
 |none=>none
 |some vs=>match HO J 0 0 s.st (Tg s.hb vs ([],[])) []with
  |(bs,o3)=>match isNil o3&&(DY bs&&((bs.all λb=>Nat.ble (b+1) key&&((tx (vs.flatMap b9.ic) b||tx xb b)&&hasB J b))&&(Nat.beq bs.length s.st.length&&(Nat.ble bs.length s.fq.length&&Nat.ble s.fq.length (bs.length+16)))))with
   |false=>none
   |true=>match uz bs s.hb vs,od bs J 0 s.st with
    |some a,some b=>match bb.dec U.D s.ts (a++b)with
     |some h=>some (bs,h)
     |none=>none
    |_,_=>none
def aaK(n:Nat)(J:bA U)(l:bA U):Bool:=l.all λp=>Nat.ble (p.1+1) n&&jN J p.2
def Gw(xb:List Nat)(hx:rT U)(env:cj U)(J:bA U)(key:Nat)(k:bA U->b9 U->Option R):List (cY U)->Option R
 |[]=>none
 |s::r=>match ajA xb s hx env J key with
  |none=>Gw xb hx env J key k r
  |some (bs,h)=>(s.F h)>>=λres=>match rh (s.rest res) (s.res res)&&aaK (bs.length+16) (s.rest res) (s.rest res),xk J (s.rest res) 0 bs with
   |true,some c=>if c=true then k (vy J bs (back bs key) (s.rest res)) ((s.res res).cW (back bs key))else none
   |_,_=>none
def axu(hx:rT U)(env:cj U)(l:List (cY U)):Bool:=l.any λs=>(Xh s hx env).isSome
def axv(hx:rT U)(env:cj U)(l:List (cY U)):Bool:=l.any λs=>(Xi s hx env).isSome
def aCA(gd:Option (Nat×Bool))(hx:rT U)(env:cj U)(l:List (cY U)):Bool:=
 match gd with
 |some _=>!(axv hx env l)
 |none=>false
def axJ(d:Option (List Nat)):List Nat:=match d with
 |some l=>l
 |none=>[]
def aaW(fo:iL U)(d:Option (List Nat))(gd:Option (Nat×Bool))(f:Nat)(hx:rT U)(gl:gy)(env:cj U)(J:bA U)(key:Nat)(k:cj U->bA U->b9 U->Option R):Option R:=
 match gd with
 |none=>match d with
  |none=>Ik hx env J key k (fo f)
  |some xb=>match axu hx env (fo f)with
   |true=>LG hx env J key (λJ v=>k env J v) (fo f)
   |false=>Gw xb hx env J key (λJ v=>k env J v) (fo f)
 |some _=>match su gl env z' gd with
  |some g=>Ij hx env g (λv=>k env J v) (fo f)
  |none=>none
abbrev qg:=List (Nat×Bool)
def F5(nf:qg)(gl:gy):Nat->Option (Nat×Bool)->Bool
 |0,_=>false
 |_,none=>false
 |mY+1,some (t,b)=>(nf.any λg=>Nat.beq g.1 t&&(g.2==b))||F5 nf gl mY (bh gl t)
def sk(nf:qg)(dst:Option Nat):Bool:=
 match dst with
 |none=>true
 |some d=>nf.all λg=>!(Nat.beq g.1 d)
def TN:b9 U:= .c (.t ⟨.bool,false⟩)
def B5(fo:iL U)(d:Option (List Nat))(o:cF)(key:Nat)(gl:gy)(nf:qg)(env:cj U)(J:bA U)(k:gy->qg->cj U->bA U->Option R):Option R:=
 match wK gl o.guard o.dst&&sk nf o.dst with
 |false=>none
 |true=>match F5 nf gl z' o.guard with
  |true=>match su gl env z' o.guard with
   |some _=>k (nI gl o.guard o.dst) nf (j8 o.dst TN env) J
   |none=>none
  |false=>match o.op with
   |.call f args=>match aCA o.guard (λe=>sT gl o.guard e args) env (fo f)with
    |true=>match su gl env z' o.guard,o.guard with
     |some g,some gd=>if g=true then Gw (axJ d) (λe=>sT gl o.guard e args) env J key (λJ v=>k (nI gl o.guard o.dst) nf (j8 o.dst v env) J) (fo f)else k (nI gl o.guard o.dst) (gd::nf) (j8 o.dst TN env) J
     |_,_=>none
    |false=>aaW fo d o.guard f (λe=>sT gl o.guard e args) gl env J key λenv J v=>k (nI gl o.guard o.dst) nf (j8 o.dst v env) J
   |.mV x args=>match d,o.guard,eu gl none env x with
    |none,none,some (.c (.fn f _))=>Ik (λe=>match eu gl none e x,sT gl none e args with
     |some (.c (.fn Js xN)),some vs=>match Nat.beq Js f with
      |true=>some (vs++xN.map λb=>.c (.ptr b 0))
      |false=>none
     |_,_=>none) env J key (λenv J v=>k gl nf (j8 o.dst v env) J) (fo f)
    |some _,none,some (.c (.fn f []))=>Ij (λe=>sT gl none e args) env true (λv=>k gl nf (j8 o.dst v env) J) (fo f)
    |_,_,_=>none
   |op=>match c' gl o.guard env J key op with
    |none=>none
    |some (c,v,J')=>match o.guard with
     |none=>if c=true then k gl nf (j8 o.dst v env) J' else none
     |some gd=>match su gl env z' (some gd)with
      |none=>none
      |some g=>match op.neutral with
       |true=>if(c || !g)=true then k (nI gl o.guard o.dst) nf (j8 o.dst v env) J else none
       |false=>if g=true then(if c=true then k (nI gl o.guard o.dst) nf (j8 o.dst v env) J' else none)else k (nI gl o.guard o.dst) (gd::nf) (j8 o.dst TN env) J
def ajm(J:bA U):bH U->List (Nat×aS)
 |.arr b=>match bh J b with
  |some (.arr t _)=>[(b,t)]
  |_=>[]
 |_=>[]
def aCg(J:bA U):b9 U->List (Nat×aS)
 |.c x=>ajm J x
 |.agg cs=>cs.flatMap (ajm J)
 |.bn _=>[]
def Xc(gl:gy)(gd:Option (Nat×Bool))(env:cj U)(J:bA U)(xs:List ba):List (Nat×aS):=
 xs.flatMap λx=>match eu gl gd env x with
  |some v=>aCg J v
  |none=>[]
def Ni(l:List (Nat×aS))(env:cj U)(J:bA U):Option (cj U×bA U):=
 match l with
 |[]=>none
 |_=>qW l env J
def Xg(gl:gy)(o:cF)(env:cj U)(J:bA U):Option (cj U×bA U):=
 match o.op with
 |.slc _ x _ _=>match eu gl o.guard env x with
  |some (.c (.arr b))=>match bh J b with
   |some (.arr t _)=>qW [(b,t)] env J
   |_=>none
  |_=>none
 |.call _ args=>match o.guard with
  |some _=>Ni (Xc gl o.guard env J args) env J
  |none=>none
 |.bsliceT _ _ _ _ ps=>Ni (Xc gl o.guard env J (ps.map Prod.snd)) env J
 |.bslice _ _ _ ps=>Ni (Xc gl o.guard env J (ps.map Prod.snd)) env J
 |_=>none
def Tn(fo:iL U)(d:Option (List Nat))(o:cF)(key:Nat)(gl:gy)(nf:qg)(env:cj U)(J:bA U)(k:gy->qg->cj U->bA U->Option R):Option R:=
 match d with
 |some xb=>B5 fo (some xb) o key gl nf env J k
 |none=>match Xg gl o env J with
  |none=>B5 fo none o key gl nf env J k
  |some p=>B5 fo none o key gl nf p.1 p.2 k
def wE(fo:iL U)(d:Option (List Nat)):List cF->Nat->gy->qg->cj U->bA U->(gy->cj U->bA U->Option R)->Option R
 |[],_,gl,_,env,J,k=>k gl env J
 |o::r,key,gl,nf,env,J,k=>Tn fo d o key gl nf env J λgl nf env J=>wE fo d r (key+16) gl nf env J k
def Qi(gl:gy)(k:Nat):Bool:=gl.any λe=>Nat.beq e.1 k
def clean(gl:gy):cj U->cj U
 |[]=>[]
 |(k,v)::r=>match Qi gl k with
  |true=>clean gl r
  |false=>(k,v)::clean gl r
def DZ(gl:gy)(env:cj U):cj U:=
 match gl with
 |[]=>env
 |_=>clean gl env
structure gF (key:Nat)(gl:gy)(nf:qg)(env:cj U)(J:bA U)(env1:Env)(J1:br)(G:Nat->Bool):Prop where
 kR:dT key J G env env1
 az:kz gl env G
 f':da key J J1
 a':∀g,g∈nf->dv env G (some g)=false
section
variable {P:Program}{kk key:Nat}{J J':bA U}{J1 bM:br}{env:cj U}{env1:Env}{G:Nat->Bool}{gl:gy}{gd:Option (Nat×Bool)}{nf:qg}{dst:Option Nat}{v:b9 U}{v1:V}
theorem ZK{d:Option Nat}{v:b9 U}{env:cj U}{k:Nat}:bh (j8 d v env) k=if d=some k then some v else bh env k:=by
 cases d with
 |none=>rfl
 |some d=>
  grind[j8,bh,dN,mr]
theorem To{o:Option (Nat×Bool)}{g:Bool}(h:su gl env z' o=some g):o=none\/∃t b y,o=some (t,b)/\hT env t b=some y:=by
 cases o with
 |none=>simp
 |some x=>
  grind[at0]
theorem abw(az:kz gl env G)(a':∀g,g∈nf->dv env G (some g)=false):∀{mY:Nat} {gd:Option (Nat×Bool)},F5 nf gl mY gd=true->dv env G gd=false
 |0,gd,h=>by grind[F5]
 |mY+1,none,h=>by grind[F5]
 |mY+1,some (t,b),h=>by
  simp only[F5,tK,zd,dM]at h;rcases h with⟨⟨hF,bI⟩,hm,h1,aa⟩|h
  . grind[dN]
  . have:=abw az a' h;rw[az.bh t]at this
    grind[dv]
theorem gF.bind(he:dT key J' G env env1)(az:kz gl env G)(aN:da key J' bM)(a':∀g,g∈nf->dv env G (some g)=false)(aF:cn key J' v v1)(av:gd=none\/∃t b y,gd=some (t,b)/\hT env t b=some y)(aJ:wK gl gd dst=true)(hz:sk nf dst=true):
 gF key (nI gl gd dst) nf (j8 dst v env) J' (gh env1 dst (dv env G gd) v1) bM (λk=>if dst=some k then dv env G gd else G k):=by
 refine⟨λk w hk=>?_,?_,aN,λg ahU=>?_⟩
 . rw[ZK]at hk;rw[uL];split at hk
   . grind
   . rename_i h;rw[ah h,ah h];exact he k w hk
 . cases dst with
   |none=>
    have:nI gl gd none=gl:=by cases gd<;>rfl
    simp_all[j8,reduceCtorEq,dB]
   |some d=>
    simp only[wK,dM,ik,L0]at aJ;have aEJ:∀k t b,bh gl k=some (t,b)->k≠d/\t≠d:=by
     intro k t b hk;have hm:∀{l:gy},bh l k=some (t,b)->(k,t,b)∈l:=by
      intro l
      induction l with
      |nil=>grind[bh]
      |cons e r ih=>
       obtain⟨cI,e⟩:=e;intro h;simp only[bh]at h;split at h
       . simp_all
       grind
     grind[mr]
    have sv:∀t b,t≠d->hT (j8 (some d) v env) t b=hT env t b:=by
     intro t b ht;unfold hT;rw[ZK,ah (by grind)]
    have sK:∀k t b,bh gl k=some (t,b)->∃y,hT (j8 (some d) v env) t b=some y/\(if some d=some k then dv env G gd else G k)=((if some d=some t then dv env G gd else G t)&&y):=by
     intro k t b hk;obtain⟨y,aA,aU⟩:=az.held k t b hk
     grind
    cases gd with
    |none=>
     refine⟨λk hk=>?_,λk t b hk=>sK k t b hk⟩;by_cases ahG:some d=some k
     . rw[af ahG];rfl
     . rw[ah ahG];exact az.free k hk
    |some g=>
     obtain⟨t0,b0⟩:=g;have aAK:t0≠d:=by
      grind[Bool.not_eq_true',mr]
     refine⟨λk hk=>?_,λk t b hk=>?_⟩
     . simp only[nI,bh]at hk;split at hk
       . grind
       . rw[ah (by grind[mr])];exact az.free k hk
     . simp only[nI,bh]at hk;split at hk
       . rename_i ag;cases hk;have:=dN ag;subst this;rcases av with h|⟨t,b,y,h,ao⟩
         . grind
         . cases h;refine⟨y,by grind,?_⟩;rw[af rfl,ah (by simp;exactλe=>aAK e.symm)];simp[dv,ao]
       . exact sK k t b hk
 . obtain⟨t,b⟩:=g;have h0:=a' _ ahU;cases dst with
   |none=>simpa[j8]using h0
   |some d=>
    simp only[sk,ik,L0]at hz;have aiB:t≠d:=mr (hz _ ahU);simp only[dv]at h0⊢;rw[ah (by simp;exactλe=>aiB e.symm)];have:hT (j8 (some d) v env) t b=hT env t b:=by
     unfold hT;rw[ZK,ah (by simp;exactλe=>aiB e.symm)]
    rw[this];exact h0
theorem aaL{N:Nat}{J:bA U}:cn N J TN (.c (.t (.bool false))):= .c (.t _)
theorem Rr{o:cF}(h:gF key gl nf env J env1 J1 G)(l6:o.guard=none\/∃t b y,o.guard=some (t,b)/\hT env t b=some y)(az:dv env G o.guard=false)(aJ:wK gl o.guard o.dst=true)(hz:sk nf o.dst=true){v:b9 U}{v1:V}(aF:cn (key+16) J v v1):
 DStep xb P o key env1 J1 false v1 J1/\gF (key+16) (nI gl o.guard o.dst) nf (j8 o.dst v env) J (gh env1 o.dst false v1) J1 (λk=>if o.dst=some k then false else G k):=by
 have qD:=RR h.kR l6;rw[az]at qD;refine⟨.skip qD rfl,?_⟩;have:=gF.bind (h.kR.mono (ek.more (by simp))) h.az (h.f'.mono (Nat.le_add_right _ 16)) h.a' aF l6 aJ hz
 grind
theorem aer{o:cF}{c:Bool}(h:gF key gl nf env J env1 J1 G)(I:c' gl o.guard env J key o.op=some (c,v,J'))(l6:o.guard=none\/∃t b y,o.guard=some (t,b)/\hT env t b=some y)(aJ:wK gl o.guard o.dst=true)(hz:sk nf o.dst=true):
 (dv env G o.guard=true->c=true->∃v1 bM,DStep xb P o key env1 J1 true v1 bM/\gF (key+16) (nI gl o.guard o.dst) nf (j8 o.dst v env) J' (gh env1 o.dst true v1) bM (λk=>if o.dst=some k then true else G k))/\
 (dv env G o.guard=false->o.op.neutral=true->∃v1,DStep xb P o key env1 J1 false v1 J1/\gF (key+16) (nI gl o.guard o.dst) nf (j8 o.dst v env) J (gh env1 o.dst false v1) J1 (λk=>if o.dst=some k then false else G k)):=by
 obtain⟨⟨v1,aF,aC⟩,hk,a'⟩:=amE h.kR h.az h.f' I;have qD:=RR h.kR l6;refine⟨λaz ay=>?_,λaz rA=>?_⟩
 . obtain⟨p,bM,h1,aa,aA⟩:=aC az ay;rw[az]at qD;have av:o.op.drawn=true:=by
    generalize o.op=W9 at I;cases W9<;>first|rfl|(simp[c']at I)
   have hs:DStep xb P o _ _ J1 _ v1 _:= .op qD av h1 (λ_=>aa) (.inr rfl);have e:(if o.op.neutral=true then J1 else bM)=bM:=by
    grind[KK]
   rw[e]at hs;refine⟨v1,bM,hs,?_⟩;have:=gF.bind (h.kR.mono hk) h.az aA h.a' aF l6 aJ hz
   grind
 . rw[a' rA]at aF;obtain⟨h1,aa⟩:=Rr h l6 az aJ hz aF;exact⟨v1,h1,aa⟩
theorem abx{x:bH U}(h:x.BQ=true):x.xR.cu []=x.xR:=by
 cases x<;>simp[bH.BQ]at h<;>try rfl
 rename_i f caps;cases caps with
 |nil=>rfl
 |cons=>grind
theorem ZL:∀{x:b9 U},ke x=true->(iT x).cu []=iT x
 |.c x,h=>by grind[ke,iT,V.cu,abx]
 |.agg cs,h=>by
  grind[ke,iT,V.cu,List.map_congr_left,abx]
 |.bn vs,h=>by
  simp[iT,V.cu];rw[go vs h]
where go:∀(vs:List (b9 U)),ke.go vs=true->V.cu.go [] (iT.go vs)=iT.go vs
 |[],_=>rfl
 |v::vs,h=>by
  simp[ke.go]at h;simp[iT.go,V.cu.go,ZL h.1,go vs h.2]
def iM(P:Program)(fo:iL U):Prop:=∀f s,s∈fo f->s.f=f/\kL P f=true/\mm P s
theorem ZM{N:Nat}{cO:bA U}{x:bH U}{d:C}(h:cR N cO x d)(hs:x.pk cO=true):d=x.mW cO:=by
 cases h<;>simp[bH.pk]at hs<;>try rfl
 . grind[bH.mW]
 grind[bH.mW]
theorem Re{cO:bA U}:∀{vs:List (b9 U)} {i:Nat},(mS.go cO vs)[i]?=(vs[i]?).map (mS cO)
 |[],i=>by rfl
 |v::vs,0=>by rfl
 |v::vs,i+1=>by simp[mS.go,Re]
theorem akO{cO:bA U}:∀{vs:List (b9 U)} {i:Nat} {v:b9 U},rh.go cO vs=true->vs[i]?=some v->rh cO v=true
 |[],i,v,_,h=>by grind
 |x::vs,0,v,hs,h=>by grind[rh.go]
 |x::vs,i+1,v,hs,h=>by simp[rh.go]at hs;exact akO hs.2 (by simpa using h)
theorem Z2{N:Nat}{cO:bA U}:∀{xs:List (bH U)} {bc:List C},bk (cR N cO) xs bc->(∀x,x∈xs->x.pk cO=true)->bc=xs.map (bH.mW cO)
 |[],[],_,_=>rfl
 |x::xs,d::bc,.cons h1 aa,hs=>by
  rw[p4,<-ZM h1 (hs x (by simp)),<-Z2 aa (λx I=>hs x (by grind))]
theorem aco{N:Nat}{cO:bA U}{x:b9 U}{d:V}(h:cn N cO x d):rh cO x=true->d=mS cO x:=by
 induction h with
 |c h=>intro hs;rw[ZM h hs];rfl
 |agg h=>
  grind[rh,mS,Z2]
 |bn xs bc aj h ih=>
  intro hs
  congr 1
  apply Hz;intro i;rw[Re];cases I:xs[i]? with
  |none=>grind
  |some x=>
   have ak:=(fv.1 I).1;have av:=gQ (l:=bc) (i:=i) (by omega);rw[av]
   congr 1
   exact ih i x _ I av (akO hs I)
theorem aes{N:Nat}{cO:bA U}{x:ds U}{y:ck}(h:ml N cO x y)(hs:jN cO x=true):y=Cr cO x:=by
 cases h with
 |box h=>grind[jN,Cr,Z2]
 |arr t l=>rfl
 |set ks=>rfl
 |buf E s=>rfl
 |cL h=>grind[jN,Cr,ZM]
 |dr=>grind[jN]
 |rows=>grind[jN]
theorem K1{cO:bA U}:∀{l:bA U} {b:Nat},bf (rp cO l) b=(bh l b).map (Cr cO)
 |[],b=>rfl
 |(k,x)::r,b=>by
  simp[rp,bf,bh];cases h:Nat.beq k b with
  |true=>simp_all
  |false=>rw[ah (mr h)];exact K1
theorem afd{k:Nat}:∀{v:V},v.cW (back [] k)=v.sh k
 |.c x=>by rfl
 |.agg cs=>by rfl
 |.bn vs=>by simp[V.cW,V.sh];rw[go vs]
where go:∀(vs:List V),V.cW.go _ vs=V.sh.go k vs
 |[]=>rfl
 |v::vs=>by simp only[V.cW.go,V.sh.go];rw[afd,go vs]
theorem amM{k:Nat}{J1:br}:∀{s:br},lz J1 [] (back [] k) s=um J1 k s
 |[]=>rfl
 |(b,x)::r=>by
  simp[lz];rw[amM];rfl
theorem SD:∀{ss:List iw} {j:Nat} {a:gE U} {i:Nat} {x:ds U},bh (lD j ss a) i=some x->j<=i/\i<j+ss.length
 |[],j,a,i,x,h=>by grind[lD,bh]
 |s::ss,j,a,i,x,h=>by
  simp[lD]at h;split at h
  . simp[bh]at h;split at h
    . simp_all
    . have:=SD h;grind
  . have:=SD h;grind
theorem amU{bs:List Nat}:∀{caps:List Nat},(∀c,c∈caps->pos bs c=some c)->yl bs caps=some caps
 |[],_=>rfl
 |c::cs,h=>by simp[yl,h c _,amU (caps:=cs) (λx I=>h x (by grind))]
theorem GS{N:Nat}{cO:bA U}(ag:∀b x,bh cO b=some x->b<N){x:bH U}(hs:x.pk cO=true):cR N cO x (x.mW cO)/\fb ((x.mW cO).cu (List.range N)) (x.mW cO):=by
 have ar:∀b,hasB cO b=true->pos (List.range N) b=some b:=by
  grind[hasB,uR]
 cases x with
 |t c=>exact⟨.t c,fb.refl _⟩
 |ptr b o=>
  refine⟨.ptr b o,?_⟩;simp only[bH.mW,C.cu,ar b hs];exact fb.refl _
 |dw b ty i o=>
  refine⟨.dw b ty i o,?_⟩;simp only[bH.mW,C.cu,ar b hs];exact fb.refl _
 |ft ty x o=>exact⟨.ft ty x o,fb.refl _⟩
 |arr b=>
  simp only[bH.pk]at hs;split at hs
  . rename_i y ao;split at hs
    . rename_i p av;simp only[bH.mW,ao,av];refine⟨.arr b p.1 p.2 (ag b y ao) λz bq q aE=>?_,?_⟩
      . grind
      grind[C.cu,hasB,fb.refl]
    grind
  grind
 |fx b bE len=>grind[bH.pk]
 |sub b bE len=>grind[bH.pk]
 |pre b h=>grind[bH.pk]
 |mp b=>
  refine⟨.mp b,?_⟩;simp only[bH.mW,C.cu,ar b hs];exact fb.refl _
 |gw b=>grind[bH.pk]
 |df b=>
  simp only[bH.pk]at hs;split at hs
  . rename_i y ao;split at hs
    . rename_i p av;simp only[bH.mW,ao,av];refine⟨.df b p.2 (ag b y ao) λz bq q aE=>?_,?_⟩
      . grind[dN]
      grind[C.cu,hasB,fb.refl]
    grind
  grind
 |aT=>exact⟨.aT,fb.refl _⟩
 |hE=>exact⟨.hE,fb.refl _⟩
 |hD=>exact⟨.hD,fb.refl _⟩
 |fn f caps=>
  simp only[bH.pk]at hs;refine⟨.fn f caps,?_⟩
  grind[amU,bH.mW,C.cu,fb.refl]
 |dead=>grind[bH.pk]
theorem GI{N:Nat}{cO:bA U}(ag:∀b x,bh cO b=some x->b<N):∀{xs:List (bH U)},(∀x,x∈xs->x.pk cO=true)->bk (cR N cO) xs (xs.map (bH.mW cO))/\bk fb ((xs.map (bH.mW cO)).map (C.cu (List.range N))) (xs.map (bH.mW cO))
 |[],_=>⟨.nil,.nil⟩
 |x::xs,hs=>by
  obtain⟨h1,aa⟩:=GS ag (hs x (by simp));obtain⟨aA,aU⟩:=GI ag (xs:=xs) (λx I=>hs x (by grind));exact⟨.cons h1 aA,.cons aa aU⟩
theorem ak2{cO:bA U}:∀{vs:List (b9 U)},(mS.go cO vs).length=vs.length
 |[]=>rfl
 |v::vs=>by simp[mS.go,ak2]
theorem Mp{N:Nat}{cO:bA U}(ag:∀b x,bh cO b=some x->b<N):∀{x:b9 U},rh cO x=true->cn N cO x (mS cO x)/\kc ((mS cO x).cu (List.range N)) (mS cO x)
 |.c x,hs=>by
  obtain⟨h1,aa⟩:=GS ag (x:=x) (by grind[rh]);exact⟨.c h1,.c aa⟩
 |.agg cs,hs=>by
  simp[rh,ik]at hs;obtain⟨h1,aa⟩:=GI ag hs;exact⟨.agg h1,.agg aa⟩
 |.bn vs,hs=>by
  have:=go ag vs hs;refine⟨.bn _ _ (by rw[ak2]) λi x d I av=>?_,.bn _ _ (by rw[Rc]) λi x y I ao=>?_⟩
  . grind[Re]
  grind[RI,Re]
where go {N:Nat} {cO:bA U} (ag:∀b x,bh cO b=some x->b<N):∀(vs:List _),rh.go cO vs=true->∀x,x∈vs->cn N cO x (mS cO x)/\kc ((mS cO x).cu (List.range N)) (mS cO x)
 |[],_=>by simp
 |v::vs,hs=>by
  simp[rh.go]at hs;have h1:=Mp ag hs.1;have aa:=go ag vs hs.2
  grind
theorem amV {fo:iL U}(dH:iM P fo){o:cF}{f:Nat}{args:List ba}(aO:o.op= .call f args)(h:gF key gl nf env J env1 J1 G)(e':o.guard=none)(aJ:wK gl o.guard o.dst=true)(hz:sk nf o.dst=true)
 {k:bA U->b9 U->Option R}{r:R}:∀{ss:List (cY U)},(∀s,s∈ss->s∈fo f)->LG (λe=>sT gl o.guard e args) env J key k ss=some r->
 ∃v v1 J' bM,k J' v=some r/\DStep xb P o key env1 J1 true v1 bM/\gF (key+16) (nI gl o.guard o.dst) nf (j8 o.dst v env) J' (gh env1 o.dst true v1) bM (λi=>if o.dst=some i then true else G i)
 |[],_,I=>by grind[LG]
 |s::ss,hm,I=>by
  simp only[LG]at I;split at I
  . exact amV dH aO h e' aJ hz (λs hs=>hm s (by grind)) I
  . rename_i ab ar;unfold Xh at ar;split at ar
    . rename_i vs rB fP;simp only[dM]at rB;split at ar
      . rename_i a CR aC;rw[ik]at CR;obtain⟨CO,JF,CQ⟩:=dH f s (hm s (by simp));obtain⟨p,eR,b1,b2,cf⟩:=Dh h.kR h.az fP;have ec:s.st=[]:=by grind[isNil]
        have fN:=kK rB.2;obtain⟨res,hres,hk⟩:=p1.1 I;split at hk
        . rename_i pY;simp only[dM]at pY;obtain⟨bG,f1,aj,g1⟩:=E6 (N:=key) (Jc:=([]:bA U)) (Ho) (λj b cH aM=>by grind) aC
          obtain⟨gj,aR,bw,e7⟩:=g1 eR b2.length (λi x d I av=>by
           obtain⟨fj,h1,aa⟩:=b2.get I
           rw[av]at h1;cases h1;omega)
          have FF:bb.cells U.D s.ts ab=a:=bb.uP ar;have l5:s.args ab=bG:=by
           unfold cY.args;have:=f1 []
           grind
          have wM:s.nx ab=[]:=by unfold cY.nx;rw[ec];rfl
          have CK:s.st.length=0:=by grind
          have lF:=CQ ab res hres gj [] (by
           rw[l5,wM,CK]
           refine bk.rK (by rw[aj,aR,b2.length]) λi x d I av=>e7 i x d I av) (by rw[wM];intro b x I;grind[bh])
          rw[CO,CK]at lF;have j3:bk kc eR gj:=by
           refine bk.rK aR.symm λi d fj av iB=>?_
           have fP:=bw i d fj av iB;obtain⟨x,I,ai⟩:=(b2.flip (R':=λd x=>cn key J x d) λ_ _ h=>h).get av;have hs:=CR x (hp I);have:=Mo ai hs
           grind[ZL]
          have JH:=gf.conv j3 (J:=[]) (λb cH I=>by grind[bf]) lF
          have nP:∀b x,bh (s.rest res) b=some x->b<16/\jN (s.rest res) x=true:=by
           intro b x I;have sA:∀{l:bA U},bh l b=some x->(b,x)∈l:=by
            intro l
            induction l with
            |nil=>grind[bh]
            |cons e r ih=>
             obtain⟨cI,e⟩:=e;intro h;simp only[bh]at h;split at h
             . simp_all
             grind
           have:=pY.2;unfold aau at this;rw[ik]at this;have aa:=this _ (sA I);simp only[dM]at aa;exact⟨by have:=kK aa.1;omega,aa.2⟩
          have hbound:∀b x,bh (s.rest res) b=some x->b<s.fq.length:=by
           intro b x I;have:=(SD I).2;omega
          have Vz:gf P f eR [] 0 (λfw s' Ce=>fw=mS (s.rest res) (s.res res)/\s'=rp (s.rest res) (s.rest res)/\Ce=s.fq.length):=by
           refine gf.tidy JH ?_
           rintro cc s1 rW ⟨rfl,c3,dE⟩
           have nd:=aco c3 pY.1;subst nd;refine⟨List.range s.fq.length,_,_,List.nodup_range,rfl,?_,?_,rfl,rfl,by simp⟩
           . exact(Mp hbound pY.1).2
           . intro b x I;rw[K1,bV]at I;obtain⟨aw,jr,rfl⟩:=I;obtain⟨h1,y,aa,aA⟩:=dE b aw jr;have ao:=aes aA (nP b aw jr).2;subst ao;have ht:=Lu (bs:=List.range s.fq.length) (i:=0) (j:=b) (r:=List.range s.fq.length) (by simp[h1]) aa;rw[kt]at ht;refine⟨_,ht,?_⟩;cases aw with
             |box cs=>
              have fH:=(nP b _ jr).2;simp only[jN,ik]at fH;exact .box (GI hbound fH).2
             |arr ty l=>exact .arr
             |rows sz l=>have fH:=(nP b _ jr).2;simp[jN]at fH
             |set ks=>exact .same
             |buf E s=>exact .same
             |cL E c=>have fH:=(nP b _ jr).2;exact .cL (GS hbound (by simpa[jN]using fH)).2
             |dr=>have fH:=(nP b _ jr).2;simp[jN]at fH
          have azj:V.aP.V.e3 (lt 0) eR=true:=by
           refine De λi d av=>?_
           obtain⟨x,I,ai⟩:=(b2.flip (R':=λd x=>cn key J x d) λ_ _ h=>h).get av;have hs:=CR x (hp I);have:=Mo ai hs;subst this;exact(GR (N:=key) (J:=J) hs).2 _
          have az:jB env1 o.guard=some true:=by rw[e'];rfl
          have VQ:(rp (s.rest res) (s.rest res)).all (λx=>decide (x.1<16))=true:=by
           have yT:=pY.2;unfold aau at yT;have:∀{l:bA U},(l.all λp=>Nat.ble (p.1+1) 16&&jN (s.rest res) p.2)=true->(rp (s.rest res) l).all (λx=>decide (x.1<16))=true:=by
            intro l
            induction l with
            |nil=>intro _;rfl
            |cons e r ih=>
             obtain⟨b,x⟩:=e;intro h;simp only[sJ,dM]at h;simp only[rp,sJ,dM,ij];exact⟨by have:=kK h.1.1;omega,ih h.2⟩
           grind
          have pV:cn s.fq.length (s.rest res) (s.res res) (mS (s.rest res) (s.res res))/\da s.fq.length (s.rest res) (rp (s.rest res) (s.rest res)):=by
           refine⟨(Mp hbound pY.1).1,λb x I=>?_⟩;refine⟨hbound b x I,Cr (s.rest res) x,by rw[K1,I];rfl,?_⟩;cases x with
           |box cs=>
            have fH:=(nP b _ I).2;simp only[jN,ik]at fH;exact .box (GI hbound fH).1
           |arr ty l=>exact .arr ty l
           |rows sz l=>have fH:=(nP b _ I).2;simp[jN]at fH
           |set ks=>exact .set ks
           |buf E s=>exact .buf E s
           |cL E c=>have fH:=(nP b _ I).2;exact .cL (GS hbound (by simpa[jN]using fH)).1
           |dr=>have fH:=(nP b _ I).2;simp[jN]at fH
          have dh:s.fq.length<=([]:List Nat).length+16:=by simpa using fN
          have qC:=da.U9 (key:=key) (bs:=[]) Ho (by simp) dh h.f' rfl pV.2;have PI:=cn.cW (key:=key) (bs:=[]) (J:=J) Ho (by simp) dh h.f' pV.1;have Fz:=Rq (key:=key) (bs:=[]) (Jr:=s.rest res) Ho (by simp) h.f' rfl;rw[afd]at PI;rw[amM]at qC
          refine⟨_,(mS (s.rest res) (s.res res)).sh key,_,um J1 key (rp (s.rest res) (s.rest res)),hk,.own aO az e' b1 (cf (by rw[e'];rfl)) azj fN VQ Vz rfl,?_⟩;have:=gF.bind (gd:=o.guard) (dst:=o.dst) (nf:=nf) (h.kR.mono Fz) h.az qC h.a' PI (.inl e') aJ hz;rw[e']at this⊢;exact this
        . cases hk
      . cases ar
    . cases ar
theorem amN:∀{args:List ba} {p:Prop} {eR:List V},l4 env1 args=some (p,eR)->r1 env1 args=eR.flatMap V.ic
 |[],p,eR,h=>by simp[l4]at h;rw[h.2];rfl
 |x::xs,p,eR,h=>by
  simp only[l4,bK,bV]at h;obtain⟨⟨i',v0⟩,h1,⟨tM,vt⟩,aa,_,rfl⟩:=h;have ih:=amN aa
  grind[r1]
theorem aet{N:Nat}{cO:bA U}{x:bH U}{d:C}(h:cR N cO x d):∀b,b∈x.ic->b∈d.ic:=by
 intro b ag;cases h<;>simp only[bH.ic]at ag⊢<;>first|exact ag|(simp at ag)
theorem acp{N:Nat}{cO:bA U}:∀{xs:List (bH U)} {bc:List C},bk (cR N cO) xs bc->∀b,b∈xs.flatMap bH.ic->b∈bc.flatMap C.ic
 |[],[],_,b,ag=>ag
 |x::xs,d::bc,.cons h1 aa,b,ag=>by
  simp only[me,ju]at ag⊢;rcases ag with ag|ag
  . grind[aet]
  . exact .inr (acp aa b ag)
theorem au2{N:Nat}{cO:bA U}{x:b9 U}{d:V}(h:cn N cO x d):∀b,b∈x.ic->b∈d.ic:=by
 intro b ag;cases h with
 |c h=>exact aet h b ag
 |agg h=>exact acp h b ag
 |bn=>grind[b9.ic]
theorem acq{N:Nat}{cO:bA U}:∀{xs:List (b9 U)} {bc:List V},bk (cn N cO) xs bc->∀b,b∈xs.flatMap b9.ic->b∈bc.flatMap V.ic
 |[],[],_,b,ag=>ag
 |x::xs,d::bc,.cons h1 aa,b,ag=>by
  simp only[me,ju]at ag⊢;rcases ag with ag|ag
  . grind[au2]
  . exact .inr (acq aa b ag)
theorem acr{l:List Nat}{b:Nat}(h:tx l b=true):b∈l:=by
 simp_all[tx]
theorem Zq {fo:iL U}(dH:iM P fo){o:cF}{f:Nat}{args:List ba}(aO:o.op= .call f args)(h:gF key gl nf env J env1 J1 G)(l6:o.guard=none\/∃t b y,o.guard=some (t,b)/\hT env t b=some y)(aJ:wK gl o.guard o.dst=true)(hz:sk nf o.dst=true)
 (jG:dv env G o.guard=true){k:bA U->b9 U->Option R}{r:R}:∀{ss:List (cY U)},(∀s,s∈ss->s∈fo f)->Gw xb (λe=>sT gl o.guard e args) env J key k ss=some r->
 ∃v v1 J' bM,k J' v=some r/\DStep xb P o key env1 J1 true v1 bM/\gF (key+16) (nI gl o.guard o.dst) nf (j8 o.dst v env) J' (gh env1 o.dst true v1) bM (λi=>if o.dst=some i then true else G i)
 |[],_,I=>by grind[Gw]
 |s::ss,hm,I=>by
  simp only[Gw]at I;split at I
  . exact Zq dH aO h l6 aJ hz jG (λs hs=>hm s (by grind)) I
  . rename_i bs ab ar;obtain⟨CO,JF,CQ⟩:=dH f s (hm s (by simp));obtain⟨res,hres,hk⟩:=p1.1 I;unfold ajA at ar;split at ar
    . grind
    . rename_i vs fP;split at ar;split at ar
      . grind
      . rename_i ag;simp only[dM,ik]at ag;obtain⟨_,kU,jn,CH,Vk,PJ⟩:=ag;split at ar
        . rename_i a b aC pT;split at ar
          . rename_i Az VA;cases ar;have cC:=Lv kU;have aV:=λb ag=>kK (jn b ag).1
            have hlen:=dN CH;have hle:=kK Vk;have dh:=kK PJ;obtain⟨p,eR,b1,b2,cf⟩:=Dh h.kR h.az fP;have kj:=LF cC pT;obtain⟨bG,f1,aj,g1⟩:=E6 (N:=key) cC kj aC
            obtain⟨gj,aR,bw,e7⟩:=g1 eR b2.length (λi x d I av=>by
             obtain⟨fj,h1,aa⟩:=b2.get I
             grind)
            obtain⟨Xy,t1,t2⟩:=Sl cC h.f' pT;have FF:=bb.uP VA;have l5:s.args ab=bG:=by grind[cY.args]
            have wM:s.nx ab=lD 0 s.st b:=by grind[cY.nx]
            have lF:=CQ ab res hres gj Xy (by
             rw[l5,wM,<-hlen]
             exact bk.rK (by rw[aj,aR,b2.length]) λi x d I av=>e7 i x d I av) (by grind)
            rw[CO,<-hlen]at lF;have j3:bk kc (eR.map (V.cu bs)) gj:=by
             grind[bk.rK]
            have JH:=gf.conv j3 t1 lF
            split at hk
            . rename_i c pY ay;simp only[dM]at pY;split at hk
              . rename_i JI;subst JI
                have nP:∀b x,bh (s.rest res) b=some x->jN (s.rest res) x=true:=by
                 intro b x I;have sA:∀{l:bA U},bh l b=some x->(b,x)∈l:=by
                  intro l
                  induction l with
                  |nil=>intro h;simp[bh]at h
                  |cons e r ih=>
                   obtain⟨cI,e⟩:=e;intro h;simp only[bh]at h;split at h
                   . simp_all
                   grind
                 have:=pY.2;unfold aaK at this
                 grind
                have hbound:∀b x,bh (s.rest res) b=some x->b<s.fq.length:=by
                 intro b x I;have:=(SD I).2;omega
                have Vz:gf P f (eR.map (V.cu bs)) (iR bs J1 0 bs) bs.length (λfw s' Ce=>fw=mS (s.rest res) (s.res res)/\s'=rp (s.rest res) (s.rest res)/\Ce=s.fq.length):=by
                 refine gf.tidy JH ?_
                 rintro cc s1 rW ⟨rfl,c3,dE⟩
                 have nd:=aco c3 pY.1;subst nd;refine⟨List.range s.fq.length,_,_,List.nodup_range,?_,?_,?_,rfl,rfl,by simp⟩
                 . unfold keeps
                   grind
                 . exact(Mp hbound pY.1).2
                 . intro b x I;rw[K1,bV]at I;obtain⟨aw,jr,rfl⟩:=I;obtain⟨h1,y,aa,aA⟩:=dE b aw jr;have ao:=aes aA (nP b aw jr);subst ao;have ht:=Lu (bs:=List.range s.fq.length) (i:=0) (j:=b) (r:=List.range s.fq.length) (by simp[h1]) aa;rw[kt]at ht;refine⟨_,ht,?_⟩;cases aw with
                   |box cs=>
                    have fH:=nP b _ jr;simp only[jN,ik]at fH;exact .box (GI hbound fH).2
                   |arr ty l=>exact .arr
                   |rows sz l=>have fH:=nP b _ jr;simp[jN]at fH
                   |set ks=>exact .same
                   |buf E s=>exact .same
                   |cL E c=>have fH:=nP b _ jr;exact .cL (GS hbound (by simpa[jN]using fH)).2
                   |dr=>have fH:=nP b _ jr;simp[jN]at fH
                have qD:=RR h.kR l6;have VQ:(rp (s.rest res) (s.rest res)).all (λx=>decide (x.1<bs.length+16))=true:=by
                 have yT:=pY.2;unfold aaK at yT;have:∀{l:bA U},(l.all λp=>Nat.ble (p.1+1) (bs.length+16)&&jN (s.rest res) p.2)=true->(rp (s.rest res) l).all (λx=>decide (x.1<bs.length+16))=true:=by
                  intro l
                  induction l with
                  |nil=>intro _;rfl
                  |cons e r ih=>
                   obtain⟨b,x⟩:=e;intro h;simp only[sJ,dM]at h;simp only[rp,sJ,dM,ij];exact⟨by have:=kK h.1.1;omega,ih h.2⟩
                 grind
                have pV:cn s.fq.length (s.rest res) (s.res res) (mS (s.rest res) (s.res res))/\da s.fq.length (s.rest res) (rp (s.rest res) (s.rest res)):=by
                 refine⟨(Mp hbound pY.1).1,λb x I=>?_⟩;refine⟨hbound b x I,Cr (s.rest res) x,by rw[K1,I];rfl,?_⟩;cases x with
                 |box cs=>
                  have fH:=nP b _ I;simp only[jN,ik]at fH;exact .box (GI hbound fH).1
                 |arr ty l=>exact .arr ty l
                 |rows sz l=>have fH:=nP b _ I;simp[jN]at fH
                 |set ks=>exact .set ks
                 |buf E s=>exact .buf E s
                 |cL E c=>have fH:=nP b _ I;exact .cL (GS hbound (by simpa[jN]using fH)).1
                 |dr=>have fH:=nP b _ I;simp[jN]at fH
                have qC:=da.U9 (key:=key) (bs:=bs) cC aV dh h.f' ay pV.2;have PI:=cn.cW (key:=key) (bs:=bs) (J:=J) cC aV dh h.f' pV.1;have Fz:=Rq (key:=key) (bs:=bs) (Jr:=s.rest res) cC aV h.f' ay;have et:∀b,b∈bs->∃x,bf J1 b=some x:=by
                 intro b ag;have aA:=(jn b ag).2.2;unfold hasB at aA;split at aA
                 . rename_i x I;obtain⟨_,y,ao,_⟩:=h.f' b x I
                   grind
                 . cases aA
                have aAG:∀b,b∈bs->b∈r1 env1 args++xb:=by
                 intro b ag;rw[amN b1];have aE:=(jn b ag).2.1;rw[tK]at aE;rcases aE with aE|aE
                 . exact WW _ (acq b2 b (acr aE))
                 . exact List.mem_append_right _ (acr aE)
                refine⟨_,(mS (s.rest res) (s.res res)).cW (back bs key),_,_,hk,.raw aO (by rw[qD,jG]) rfl b1 (cf jG) cC aV et aAG dh VQ Vz rfl,?_⟩;have:=gF.bind (gd:=o.guard) (dst:=o.dst) (nf:=nf) (h.kR.mono Fz) h.az qC h.a' PI l6 aJ hz;simp_all
              . cases hk
            . cases hk
          . cases ar
        . cases ar
theorem Y3 {fo:iL U}(dH:iM P fo){o:cF}{f:Nat}{args:List ba}(aO:o.op= .call f args\/(o.guard=none/\∃x q,o.op= .mV x args/\x.get env1=some (q,.c (.fn f []))/\q))(h:gF key gl nf env J env1 J1 G)(l6:o.guard=none\/∃t b y,o.guard=some (t,b)/\hT env t b=some y)(aJ:wK gl o.guard o.dst=true)(hz:sk nf o.dst=true)
 {g:Bool}(az:g=dv env G o.guard){k:b9 U->Option R}{r:R}:∀{ss:List (cY U)},(∀s,s∈ss->s∈fo f)->Ij (λe=>sT gl o.guard e args) env g k ss=some r->
 ∃v v1,k v=some r/\DStep xb P o key env1 J1 g v1 J1/\gF (key+16) (nI gl o.guard o.dst) nf (j8 o.dst v env) J (gh env1 o.dst g v1) J1 (λi=>if o.dst=some i then g else G i)
 |[],_,I=>by grind[Ij]
 |s::ss,hm,I=>by
  simp only[Ij]at I;split at I
  . exact Y3 dH aO h l6 aJ hz az (λs hs=>hm s (by grind)) I
  . rename_i ab ar;unfold Xi at ar;split at ar
    . rename_i vs rB fP;split at ar
      . rename_i a CR aC;rw[ik]at CR;obtain⟨CO,JF,CQ⟩:=dH f s (hm s (by simp));obtain⟨p,eR,b1,b2,cf⟩:=Dh h.kR h.az fP;have ec:s.st=[]:=by grind[isNil]
        obtain⟨res,hres,hk⟩:=p1.1 I;split at hk
        . rename_i pY;obtain⟨u7,FX⟩:=GR (N:=key+16) (J:=J) pY;have qD:=RR h.kR l6;rw[<-az]at qD;have ay0:gF (key+16) (nI gl o.guard o.dst) nf (j8 o.dst (s.res res) env) J (gh env1 o.dst g (iT (s.res res))) J1 (λi=>if o.dst=some i then g else G i):=by
           have:=gF.bind (dst:=o.dst) (h.kR.mono (ek.more (by simp:key<=key+16))) h.az (h.f'.mono (Nat.le_add_right key 16)) h.a' u7 l6 aJ hz
           grind
          refine⟨s.res res,iT (s.res res),hk,?_,ay0⟩;have ahV:g=true->p/\V.aP.V.e3 (lt 0) eR=true/\(iT (s.res res)).aP (lt 0)=true/\gf P f eR [] 0 (λfw _ _=>fw=iT (s.res res)):=?_
          . rcases aO with aO|⟨e',x,q,aO,I,aE⟩
            . exact .call aO qD b1 ahV
            . have jG:g=true:=by rw[az,e'];rfl
              exact .mV aO e' jG I aE JF b1 (ahV jG)
          intro jG;rw[af jG]at hres
          obtain⟨bG,f1,aj,g1⟩:=E6 (N:=key) (Jc:=([]:bA U)) (Ho) (λj b cH aM=>by grind) aC
          obtain⟨gj,aR,bw,e7⟩:=g1 eR b2.length (λi x d I av=>by
           obtain⟨fj,h1,aa⟩:=b2.get I
           rw[av]at h1;cases h1;omega)
          have FF:bb.cells U.D s.ts ab=a:=bb.uP ar;have l5:s.args ab=bG:=by
           unfold cY.args;have:=f1 []
           grind
          have wM:s.nx ab=[]:=by unfold cY.nx;rw[ec];rfl
          have CK:s.st.length=0:=by grind
          have lF:=CQ ab res hres gj [] (by
           rw[l5,wM,CK]
           refine bk.rK (by rw[aj,aR,b2.length]) λi x d I av=>e7 i x d I av) (by rw[wM];intro b x I;grind[bh])
          rw[CO,CK]at lF;have j3:bk kc eR gj:=by
           refine bk.rK aR.symm λi d fj av iB=>?_
           have fP:=bw i d fj av iB;obtain⟨x,I,ai⟩:=(b2.flip λ_ _ h=>h).get av
           exact aB5 (CR x (hp I)) fP ai
          refine⟨cf (by grind),?_,FX _,?_⟩
          . refine De λi d av=>?_
            obtain⟨x,I,ai⟩:=(b2.flip (R':=λd x=>cn key J x d) λ_ _ h=>h).get av;exact aB6 (CR x (hp I)) ai
          . refine gf.conv j3 (λb cH I=>by simp[bf]at I) (lF.mono λcc bM N' Az=>?_)
            exact Mo Az.2.1 pY
        . cases hk
      grind
    grind
where
 aB5 {x:b9 U} {d fj:V} (hs:ke x=true) (fP:kc (d.cu []) fj) (ai:cn key J x d):kc d fj:=by
  have:=Mo ai hs
  grind[ZL]
 aB6 {x:b9 U} {d:V} (hs:ke x=true) (ai:cn key J x d):d.aP (lt 0)=true:=by
  have:=Mo ai hs
  grind[GR]
theorem RL {fo:iL U}(dH:iM P fo){f:Nat}{hx:rT U}{cal:Env->List V->Prop}
 (ahS:∀{env':cj U} {J2:bA U} {cT:Env} {vs:List (b9 U)},dT key J2 G env' cT->kz gl env' G->hx env'=some vs->∃eR,bk (cn key J2) vs eR/\cal cT eR)
 (he:dT key J G env env1)(az:kz gl env G)(aN:da key J J1){k:cj U->bA U->b9 U->Option R}{r:R}:∀{ss:List (cY U)},(∀s,s∈ss->s∈fo f)->Ik hx env J key k ss=some r->
 ∃env' J2 cT bM eR,Conv kk key env1 J1 key cT bM/\dT key J2 G env' cT/\kz gl env' G/\(∀t b,hT env' t b=hT env t b)/\cal cT eR/\kL P f=true/\
  afc P f eR bM key cT (λcc s1=>∃Cc v,k env' Cc v=some r/\dT (key+16) Cc G env' cT/\da (key+16) Cc s1/\cn (key+16) Cc v cc)
 |[],_,I=>by grind[Ik]
 |s::ss,hm,I=>by
  simp only[Ik]at I;split at I
  . exact RL dH ahS he az aN (λs hs=>hm s (by grind)) I
  . rename_i env' J2 bs h ar;obtain⟨CO,JF,CQ⟩:=dH f s (hm s (by simp));obtain⟨res,hres,hk⟩:=p1.1 I;unfold ajz at ar;split at ar
    . grind
    . split at ar;split at ar
      . cases ar
      . rename_i ayC aEg yS;split at ar
        . cases ar
        . rename_i vs fP;split at ar
          . cases ar
          . rename_i ag;simp only[dM,ik]at ag;obtain⟨kU,jn,CH,Vk⟩:=ag;split at ar
            . rename_i a b aC pT;split at ar
              . rename_i ab VA;cases ar;have cC:=Lv kU;have aV:∀b,b∈bs->b<key:=λb ag=>kK (jn b ag)
                have hlen:=dN CH;have aAA:=kK Vk;obtain⟨cT,bM,yR,jF,qC,JL⟩:=Gy (kk:=kk) (gl:=gl) yS he aN;obtain⟨eR,b2,Vu⟩:=ahS jF (JL az) fP;have kj:=LF cC pT;obtain⟨bG,f1,aj,g1⟩:=E6 (N:=key) cC kj aC
                obtain⟨gj,aR,bw,e7⟩:=g1 eR b2.length (λi x d I av=>by
                 obtain⟨fj,h1,aa⟩:=b2.get I
                 grind)
                obtain⟨Xy,t1,t2⟩:=Sl cC qC pT;have FF:bb.cells U.D s.ts h=a++b:=bb.uP VA;have l5:s.args h=bG:=by unfold cY.args;rw[FF,f1]
                have wM:s.nx h=lD 0 s.st b:=by unfold cY.nx;rw[FF,f1]
                have lF:=CQ h res hres gj Xy (by
                 rw[l5,wM,<-hlen]
                 exact bk.rK (by rw[aj,aR,b2.length]) λi x d I av=>e7 i x d I av) (by rw[wM,<-hlen];exact t2)
                rw[CO,<-hlen]at lF;have j3:bk kc (eR.map (V.cu bs)) gj:=by
                 refine bk.rK (by simp[aR]) λi d fj av iB=>?_
                 grind
                have JH:=gf.conv j3 t1 lF
                split at hk
                . cases hk
                . rename_i c ay;split at hk
                  . rename_i JI;subst JI;have dh:s.fq.length<=bs.length+16:=aAA;refine⟨env',J2,cT,bM,eR,yR,jF,JL az,λt b=>ags yS,Vu,JF,?_⟩;intro aG nt φ S a w R iV zx J9;refine(mj.raw (n:=lt key) (key:=key) cC aV JH ?_ (λb ag=>by simp[lt];exact aV b ag) aG nt φ S cT a w R (λb h1 _=>Lh h1) iV zx J9)
                    rintro cc s1 N' ⟨rfl,c3,dE⟩
                    refine⟨dh,_,_,hk,jF.mono (Rq cC aV qC ay),da.U9 cC aV dh qC ay dE,cn.cW cC aV dh qC c3⟩
                  . cases hk
              . cases ar
            . cases ar
where
 agt {env:cj U} {b0:Nat} {ty:aS} {l:List (ty.den U.D)} {t:Nat} {b:Bool}:hT (B3 b0 (⟨.slice ty,l⟩:Cell U.D) env) t b=hT env t b:=by
  unfold hT;rw[SA];cases bh env t with
  |none=>rfl
  |some v=>
   cases v with
   |c x=>
    cases x with
    |arr bI=>grind[b9.c2,bH.c2]
    |dw bI zv i o=>grind[b9.c2,bH.c2]
    |pre bI h=>grind[b9.c2,bH.c2]
    |fx bI bE h=>grind[b9.c2,bH.c2]
    |_=>rfl
   |agg cs=>rfl
   |bn vs=>rfl
 ags {l:List (Nat×aS)} {env env':cj U} {J J':bA U} {t:Nat} {b:Bool} (h:qW l env J=some (env',J')):hT env' t b=hT env t b:=by
  induction l generalizing env J with
  |nil=>grind[qW]
  |cons p l ih=>
   simp only[qW]at h;split at h
   . rename_i e s h1;have aa:hT e t b=hT env t b:=by
      unfold Ih at h1;split at h1
      . split at h1
        . cases h1;exact agt
        grind
      . split at h1
        . cases h1;exact agt
        grind
      grind
     grind
   grind
theorem amO{fo:iL U}(dH:iM P fo){o:cF}(h:gF key gl nf env J env1 J1 G){k:gy->qg->cj U->bA U->Option R}{r:R}(I:B5 fo (some xb) o key gl nf env J k=some r):
 ∃g v1 bM mw nT env' J' px,DStep xb P o key env1 J1 g v1 bM/\k mw nT env' J'=some r/\gF (key+16) mw nT env' J' (gh env1 o.dst g v1) bM px:=by
 unfold B5 at I;split at I
 . grind
 . rename_i FI;simp only[dM]at FI;obtain⟨aJ,hz⟩:=FI;split at I
   . rename_i bF;split at I
     . rename_i g0 FK;have azB:=abw h.az h.a' bF;obtain⟨h1,aa⟩:=Rr (P:=P) h (To FK) azB aJ hz (aaL (U:=U) (N:=key+16) (J:=J));exact⟨_,_,_,_,_,_,_,_,h1,I,aa⟩
     grind
   . split at I
     . rename_i f args aO;split at I
       . split at I
         . rename_i g gd az e';have l6:o.guard=none\/∃t b y,o.guard=some (t,b)/\hT env t b=some y:=by grind[To]
           have qG:g=dv env G o.guard:=RJ h.az az;split at I
           . obtain⟨v,v1,J',bM,h1,aa,aA⟩:=Zq (fo:=fo) dH aO h l6 aJ hz (by grind) (λs hs=>hs) I;exact⟨_,_,_,_,_,_,_,_,aa,h1,aA⟩
           . have JM:dv env G o.guard=false:=by grind
             have bg:gF key gl (gd::nf) env J env1 J1 G:=⟨h.kR,h.az,h.f',λg0 FK=>by
              rcases fz.1 FK with rfl|hm
              . grind
              . exact h.a' g0 hm⟩
             have VE:sk (gd::nf) o.dst=true:=by
              cases av:o.dst with
              |none=>rfl
              |some d=>
               simp_all[sk,sJ,dM,wK]
             obtain⟨h1,aa⟩:=Rr (P:=P) bg l6 JM aJ VE (aaL (U:=U) (N:=key+16) (J:=J));exact⟨_,_,_,_,_,_,_,_,h1,I,aa⟩
         grind
       unfold aaW at I;split at I
       . rename_i e';simp only at I;split at I
         case h_2=>
          obtain⟨v,v1,J',bM,h1,aa,aA⟩:=Zq (fo:=fo) dH aO h (.inl e') aJ hz (by rw[e'];rfl) (λs hs=>hs) I
          grind
         rw[e']at I;obtain⟨v,v1,J',bM,h1,aa,aA⟩:=amV (fo:=fo) dH aO h e' aJ hz (k:=λJ v=>k (nI gl o.guard o.dst) nf (j8 o.dst v env) J) (λs hs=>hs) (by rw[e'];omega);exact⟨_,_,_,_,_,_,_,_,aa,h1,aA⟩
       . rename_i gd e';split at I
         . rename_i g az;rw[e']at I az;obtain⟨v,v1,h1,aa,aA⟩:=Y3 (fo:=fo) dH (.inl aO) h (by grind[To]) aJ hz (g:=g) (by rw[e'];exact RJ h.az az) (λs hs=>hs) (by rw[e'];omega);rw[e']at aA;exact⟨_,_,_,_,_,_,_,_,aa,h1,aA⟩
         grind
     . rename_i x args aO;split at I
       . grind
       . rename_i aFM f av e' h2;obtain⟨q,v1,a1,a2,a3⟩:=cP h.kR h.az h2;have:=a2.U6;subst this;obtain⟨v,v1,h1,aa,aA⟩:=Y3 (xb:=xb) (fo:=fo) dH (.inr ⟨e',x,q,aO,a1,a3 rfl⟩) h (.inl e') aJ hz (g:=true) (by rw[e'];rfl) (λs hs=>hs) (by rw[e'];omega);rw[e']at aA;exact⟨_,_,_,_,_,_,_,_,aa,h1,aA⟩
       grind
     . split at I
       . cases I
       . rename_i c v J' aF;split at I
         . rename_i e';split at I
           . rename_i ay;rw[e']at aF;obtain⟨v1,bM,h1,aa⟩:=(aer (P:=P) (o:=o) h (by rw[e'];exact aF) (.inl e') aJ hz).1 (by rw[e'];rfl) ay;rw[e']at aa;exact⟨_,_,_,_,_,_,_,_,h1,I,aa⟩
           . cases I
         . rename_i gd e';split at I
           . cases I
           . rename_i g az;have l6:o.guard=none\/∃t b y,o.guard=some (t,b)/\hT env t b=some y:=by rw[e'];exact To az
             have qG:g=dv env G o.guard:=by rw[e'];exact RJ h.az az
             have eb:=aer (P:=P) (o:=o) (xb:=xb) h aF l6 aJ hz;split at I
             . rename_i rA;split at I
               . rename_i Vw;cases ahR:g with
                 |true=>
                  rw[ahR]at Vw qG;simp at Vw;obtain⟨v1,bM,h1,aa⟩:=eb.1 qG.symm Vw;have cQ:J'=J:=(amE h.kR h.az h.f' aF).aB4 rA;rw[cQ]at aa;exact⟨_,_,_,_,_,_,_,_,h1,I,aa⟩
                 |false=>
                  rw[ahR]at qG;obtain⟨v1,h1,aa⟩:=eb.2 qG.symm rA;exact⟨_,_,_,_,_,_,_,_,h1,I,aa⟩
               . cases I
             . split at I
               . rename_i jG;split at I
                 . rename_i ay;obtain⟨v1,bM,h1,aa⟩:=eb.1 (by rw[<-qG];exact jG) ay;exact⟨_,_,_,_,_,_,_,_,h1,I,aa⟩
                 . cases I
               . rename_i jG;have JM:dv env G o.guard=false:=by rw[<-qG];simpa using jG
                 have bg:gF key gl (gd::nf) env J env1 J1 G:=⟨h.kR,h.az,h.f',λg0 FK=>by
                  rcases fz.1 FK with rfl|hm
                  . grind
                  . exact h.a' g0 hm⟩
                 have VE:sk (gd::nf) o.dst=true:=by
                  cases av:o.dst with
                  |none=>rfl
                  |some d=>
                   rw[av]at hz aJ;rw[e']at aJ;simp only[sk,sJ,dM];simp only[sk]at hz;simp only[wK,dM]at aJ
                   grind
                 obtain⟨h1,aa⟩:=Rr (P:=P) bg l6 JM aJ VE (aaL (U:=U) (N:=key+16) (J:=J));exact⟨_,_,_,_,_,_,_,_,h1,I,aa⟩
theorem amW {fo:iL U}(dH:iM P fo){o:cF}(h:gF key gl nf env J env1 J1 G){k:gy->qg->cj U->bA U->Option R}{r:R}(I:B5 fo none o key gl nf env J k=some r){K:Env->br->Prop}
 (cq:∀mw nT env' J' cT bM px,k mw nT env' J'=some r->gF (key+16) mw nT env' J' cT bM px->K cT bM):
 ∃ie cO,Conv kk key env1 J1 key ie cO/\I2 P o key ie cO K:=by
 by_cases rC:B5 fo (some []) o key gl nf env J k=some r
 . obtain⟨g,v1,bM,mw,nT,env',J',px,h1,aa,aA⟩:=amO dH h rC;exact⟨env1,J1,Conv.refl,.inl (h1.lu (cq _ _ _ _ _ _ _ aa aA))⟩
 . unfold B5 at I rC;split at I
   . grind
   . rename_i FI;rw[FI]at rC;simp only[dM]at FI;obtain⟨aJ,hz⟩:=FI;split at I
     . grind
     . rename_i bF;rw[bF]at rC;simp only at rC;split at I
       . rename_i f args aO;rw[aO]at rC;simp only at rC;split at I
         . rename_i J0;rw[J0]at rC;exact absurd I rC
         rename_i J0;rw[J0]at rC;unfold aaW at I rC;split at I
         . rename_i e';rw[e']at I;obtain⟨env',J2,cT,bM,eR,bD,bJ,c1,gr,⟨p,eV,e5⟩,ag,fr⟩:=RL (kk:=kk) (P:=P) dH (f:=f) (cal:=λe vs=>∃p,l4 e args=some (p,vs)/\p)
            (λhe az aF=>by
             obtain⟨p,eR,b1,b2,cf⟩:=Dh he az aF
             exact⟨eR,b2,p,b1,cf rfl⟩) h.kR h.az h.f' (λs hs=>hs) I
           refine⟨cT,bM,bD,.inr ⟨by rw[e'];rfl,f,eR,.inl ⟨args,p,aO,eV,e5⟩,?_⟩⟩;intro aG nt φ S a w fG iV zx J9;refine(fr aG nt φ S a w fG iV zx J9).mono ?_
           rintro e w' ⟨v,cc,bB,bC,s1,rfl,⟨Cc,v3,k1,k2,k3,k4⟩,c3,dE,hl⟩
           refine⟨v,cc,bB,bC,s1,rfl,?_,c3,dE,hl⟩
           have Vo:=gF.bind (gd:=none) (dst:=o.dst) (nf:=nf) k2 c1 k3 (λg az=>by
            obtain⟨t,b⟩:=g;have h0:=h.a' _ az;simp only[dv]at h0⊢
            grind) k4 (.inl rfl) (by rw[e']at aJ;exact aJ) hz
           exact cq _ _ _ _ _ _ _ k1 Vo
         grind
       . rename_i x args aO;split at I
         . rename_i f caps av e' h2;obtain⟨env',J2,cT,bM,eR,bD,bJ,c1,gr,⟨q,p,xN,vt,aAs,V',eV,e5,y0⟩,ag,fr⟩:=RL (kk:=kk) (P:=P) dH (f:=f) (cal:=λe vs=>∃q p xN vt,x.get e=some (q,.c (.fn f xN))/\q/\l4 e args=some (p,vt)/\p/\vs=vt++xN.map λb=>V.c (.ptr b 0))
            (λhe az aF=>by
             split at aF
             . rename_i Js xN sQ aR bw;split at aF
               . rename_i azC;have:=dN azC;subst this;cases aF;obtain⟨q,v1,a1,a2,a3⟩:=cP he az aR;have:=a2.U6;subst this;obtain⟨p,eR,b1,b2,cf⟩:=Dh he az bw;refine⟨eR++xN.map λb=>V.c (.ptr b 0),b2.append ?_,q,p,xN,eR,a1,a3 rfl,b1,cf rfl,rfl⟩;exact bk.map_map (bk.self (λb=>.c (.ptr b 0)) _)
               . cases aF
             grind) h.kR h.az h.f' (λs hs=>hs) I
           refine⟨cT,bM,bD,.inr ⟨by rw[e'];rfl,f,eR,.inr ⟨x,args,q,p,xN,vt,aO,aAs,V',eV,e5,ag,y0⟩,?_⟩⟩;intro aG nt φ S a w fG iV zx J9;refine(fr aG nt φ S a w fG iV zx J9).mono ?_
           rintro e w' ⟨v,cc,bB,bC,s1,rfl,⟨Cc,v3,k1,k2,k3,k4⟩,c3,dE,hl⟩
           refine⟨v,cc,bB,bC,s1,rfl,?_,c3,dE,hl⟩
           have Vo:=gF.bind (gd:=none) (dst:=o.dst) (nf:=nf) k2 c1 k3 (λg az=>by
            obtain⟨t,b⟩:=g;have h0:=h.a' _ az;simp only[dv]at h0⊢
            grind) k4 (.inl rfl) (by rw[e']at aJ;exact aJ) hz
           exact cq _ _ _ _ _ _ _ k1 Vo
         . contradiction
         . cases I
       . rename_i op aAf aAg
         exfalso
         refine rC ?_;split
         . rename_i f args aO;exact absurd aO (aAf f args)
         . rename_i x args aO;exact absurd aO (aAg x args)
         . exact I
theorem as4{l:List (Nat×aS)}{p:cj U×bA U}(h:Ni l env J=some p):∃l,qW l env J=some p:=by
 grind[Ni]
theorem asS{o:cF}{p:cj U×bA U}(h:Xg gl o env J=some p):∃l,qW l env J=some p:=by
 grind[Xg,as4]
theorem aqK {fo:iL U}(dH:iM P fo){o:cF}(h:gF key gl nf env J env1 J1 G){k:gy->qg->cj U->bA U->Option R}{r:R}(I:Tn fo none o key gl nf env J k=some r){K:Env->br->Prop}
 (cq:∀mw nT env' J' cT bM px,k mw nT env' J'=some r->gF (key+16) mw nT env' J' cT bM px->K cT bM):
 ∃ie cO,Conv kk key env1 J1 key ie cO/\I2 P o key ie cO K:=by
 simp[Tn]at I;split at I
 . exact amW dH h I cq
 . rename_i p ar;obtain⟨l,aj⟩:=asS ar;obtain⟨aR,s1,bD,bJ,c1,gr⟩:=Gy aj h.kR h.f'
   obtain⟨bw,s2,d1,d2⟩:=amW dH ⟨bJ,gr h.az,c1,λg az=>by
    have h0:=h.a' _ az
    grind[dv,RL.ags]⟩ I cq
   exact⟨bw,s2,bD.trans d1,d2⟩
end
end
section
open Go
variable {xb:List Nat}
variable {U:dC}{R:Type}
def qb(env:cj U):ba->Option (List Nat)
 |.const (.c (.t _))=>some []
 |.const (.c .aT)=>some []
 |.const (.agg _)=>some []
 |.const _=>none
 |.tmp k=>match bh env k with
  |some (.c (.ptr b _))=>some [b]
  |some (.c (.dw b _ _ _))=>some [b]
  |some (.c (.arr b))=>some [b]
  |some (.c (.sub b _ _))=>some [b]
  |some (.c (.pre b _))=>some [b]
  |some (.c (.fx b _ _))=>some [b]
  |some (.c (.mp b))=>some [b]
  |some (.c (.gw b))=>some [b]
  |some (.c (.df b))=>some [b]
  |some (.c .dead)=>none
  |some _=>some []
  |none=>none
def LH:bH U->Bool
 |.dead=>true
 |_=>false
def LI:b9 U->Option (List Nat)
 |.c x=>match LH x with
  |true=>none
  |false=>some x.ic
 |.agg cs=>match cs.any LH with
  |true=>none
  |false=>some (cs.flatMap bH.ic)
 |.bn _=>some []
def B1(env:cj U):List ba->Option (List Nat)
 |[]=>some []
 |.const v::r=>match B1 env r with
  |some l=>some (v.ic++l)
  |none=>none
 |.tmp k::r=>match bh env k with
  |some v=>match LI v,B1 env r with
   |some a,some l=>some (a++l)
   |_,_=>none
  |none=>none
def aa5(xb:List Nat)(o:dG)(env:cj U)(key:Nat):Option (List Nat):=
 match o with
 |.alloc _|.allocA _|.box _|.bslice .. |.mslice .. |.mkset=>some [key]
 |.allocS .. =>some [key,key+1]
 |.lkset x _=>qb env x
 |.upset x _=>qb env x
 |.appendB _ _ x _=>match qb env x with
  |some a=>some (key::a)
  |none=>none
 |.ustr _ x _=>qb env x
 |.call _ args=>match B1 env args with
  |some l=>some ((List.range 16).map (key+·)++(l++xb))
  |none=>none
 |.load _ _ x=>qb env x
 |.b2s x=>qb env x
 |.store _ x _=>qb env x
 |.append _ _ _ x y=>match qb env x,qb env y with
  |some a,some b=>some (key::(a++b))
  |_,_=>none
 |_=>some []
def qc(xb:List Nat)(o:dG)(env:cj U)(key b:Nat):Option Bool:=
 match o with
 |.alloc _|.allocA _|.box _|.bslice .. |.mslice .. |.mkset=>some (Nat.beq b key)
 |.allocS .. =>some (Nat.beq b key||Nat.beq b (key+1))
 |.upset x _=>match qb env x with
  |some l=>some (tx l b)
  |none=>none
 |.appendB _ _ x _=>match qb env x with
  |some l=>some (Nat.beq b key||tx l b)
  |none=>none
 |.ustr _ x _=>match qb env x with
  |some l=>some (tx l b)
  |none=>none
 |.store _ x _=>match qb env x with
  |some l=>some (tx l b)
  |none=>none
 |.append _ _ _ x _=>match qb env x with
  |some l=>some (Nat.beq b key||tx l b)
  |none=>none
 |.call _ args=>match B1 env args with
  |some l=>some ((Nat.ble key b&&Nat.ble (b+1) (key+16))||tx (l++xb) b)
  |none=>none
 |_=>some false
def Ng(xb:List Nat)(bp:List cF)(env:cj U)(N:Nat):List (Nat×Nat)->Bool
 |[]=>true
 |(i,j)::r=>(match Aq bp i,Aq bp j with
  |some x,some y=>match aa5 xb y.op env (N+16*j)with
   |some l=>l.all λb=>match qc xb x.op env (N+16*i) b with
    |some w=>!w
    |none=>false
   |none=>false
  |_,_=>true)&&Ng xb bp env N r
section
variable {P:Program}{kk N key:Nat}{J:bA U}{J1:br}{env:cj U}{env1:Env}{G:Nat->Bool}
theorem AW(he:dT N J G env env1){x:ba}{l:List Nat}(h:qb env x=some l):fU env1 x=l:=by
 unfold qb at h;split at h
 . cases h;rfl
 . cases h;rfl
 . cases h;rfl
 . grind
 . rename_i k;split at h
   all_goals (try (cases h;done))
   . rename_i b o hk;obtain⟨v1,h1,aa⟩:=he k _ hk;have:=aa.lg;grind[fU,ba.get]
   . rename_i b t i o hk;obtain⟨v1,h1,aa⟩:=he k _ hk;have:=aa.l3;grind[fU,ba.get]
   . rename_i b hk;obtain⟨v1,h1,aa⟩:=he k _ hk;obtain⟨sz,n,rfl,_⟩:=aa.kd
     grind[fU,ba.get]
   . rename_i b bE len hk;obtain⟨v1,h1,aa⟩:=he k _ hk;have:v1= .c (.je b 1 bE len):=by cases aa with|c h=>cases h;rfl
     grind[fU,ba.get]
   . rename_i b Wz hk;obtain⟨v1,h1,aa⟩:=he k _ hk;have:∃sz,v1= .c (.arr b sz 0 Wz):=by cases aa with|c h=>cases h;simp
     grind[fU,ba.get]
   . rename_i b bE Wz hk;obtain⟨v1,h1,aa⟩:=he k _ hk;have:∃sz,v1= .c (.je b sz bE Wz):=by cases aa with|c h=>cases h;simp
     grind[fU,ba.get]
   . rename_i b hk;obtain⟨v1,h1,aa⟩:=he k _ hk;have:=aa.Qo;grind[fU,ba.get]
   . rename_i b hk;obtain⟨v1,h1,aa⟩:=he k _ hk;have:=aa.ajN;grind[fU,ba.get]
   . rename_i b hk;obtain⟨v1,h1,aa⟩:=he k _ hk;obtain⟨n,rfl,_⟩:=aa.IZ
     grind[fU,ba.get]
   . rename_i v dJ dn ej fW WL n10 n6 n7 n8 cJ hk;cases h;obtain⟨v1,h1,aa⟩:=he k _ hk;unfold fU;simp only[ba.get,h1,sH];cases aa with
     |c aa=>
      cases aa<;>grind
     |agg aa=>rfl
     |bn=>rfl
theorem GU{l:List Nat}{b:Nat}:tx l b=l.contains b:=by
 unfold tx;rw[L3];simp
theorem amP{x:bH U}{d:C}(h:cR N J x d)(av:LH x=false):d.ic=x.ic:=by
 cases h<;>first|rfl|(simp[LH]at av)
theorem amX:∀{xs:List (bH U)} {bc:List C},bk (cR N J) xs bc->xs.any LH=false->bc.flatMap C.ic=xs.flatMap bH.ic
 |[],[],_,_=>rfl
 |x::xs,d::bc,.cons h1 aa,av=>by
  simp only[List.any_cons,Hw]at av;simp;rw[amP h1 av.1,amX aa av.2]
theorem aqL{v:b9 U}{v1:V}{l:List Nat}(h:cn N J v v1)(aj:LI v=some l):v1.ic=l:=by
 cases h with
 |c h=>
  simp[LI]at aj;split at aj
  . grind
  . rename_i av;cases aj;exact amP h av
 |agg h=>
  simp[LI]at aj;split at aj
  . grind
  . rename_i av;cases aj;exact amX h av
 |bn=>simp only[LI,fa]at aj;rw[<-aj];rfl
theorem Rt(he:dT N J G env env1):∀{args:List ba} {l:List Nat},B1 env args=some l->r1 env1 args=l
 |[],l,h=>by simp[B1]at h;subst h;rfl
 |.const v::r,l,h=>by
  simp[B1]at h;split at h
  . rename_i fm kX;cases h;have ih:=Rt he kX;simp[r1]at ih⊢;rw[ih];rfl
  grind
 |.tmp k::r,l,h=>by
  simp only[B1]at h;split at h
  . rename_i v aF;split at h
    . rename_i a fm aC kX;have ih:=Rt he kX;obtain⟨v1,h1,aa⟩:=he k v aF
      grind[r1,ba.get,aqL]
    grind
  grind
theorem asT(he:dT N J G env env1){o:dG}{l:List Nat}(h:aa5 xb o env key=some l):fS xb o env1 key=l:=by
 cases o<;>simp[aa5,fS]at h⊢<;>first|exact h|exact AW he h|skip
 . grind[AW]
 . grind[AW]
 grind[Rt]
theorem beq_eq(a b:Nat):(a==b)=Nat.beq a b:=by
 grind[dN,mr]
theorem asU(he:dT N J G env env1){o:dG}{b:Nat}{w:Bool}(h:qc xb o env key b=some w):du xb o env1 key b=w:=by
 cases o with
 |alloc cs=>simp[qc]at h;rw[<-h];exact beq_eq _ _
 |allocA cs=>simp[qc]at h;rw[<-h];exact beq_eq _ _
 |box x=>simp[qc]at h;rw[<-h];simp only[du];exact beq_eq _ _
 |bslice a c d e=>simp only[qc,fa]at h;rw[<-h];simp only[du];exact beq_eq _ _
 |mslice a c d e=>simp only[qc,fa]at h;rw[<-h];simp only[du];exact beq_eq _ _
 |store n x y=>
  simp only[qc]at h;split at h
  . rename_i l aj;cases h;simp only[du];rw[AW he aj,GU]
  . cases h
 |append te sz by' x y=>
  simp only[qc]at h;split at h
  . rename_i l aj;cases h;simp only[du];rw[AW he aj,GU,beq_eq]
  . cases h
 |mkset=>grind[qc,du,beq_eq]
 |allocS e e8=>grind[qc,du,beq_eq]
 |upset x y=>
  simp only[qc]at h;split at h
  . rename_i l aj;cases h;simp only[du];rw[AW he aj,GU]
  . cases h
 |ustr e x y=>
  grind[qc,du,AW,GU]
 |appendB e by' x y=>
  grind[qc,du,AW,GU,beq_eq]
 |call f args=>
  simp only[qc]at h;split at h
  . rename_i l aj;cases h;simp only[du];rw[Rt he aj,GU]
    congr 1
    rw[L3];simp only[dM,ij,Nat.ble_eq];rfl
  grind
 |_=>simp only[qc,fa]at h;rw[<-h];rfl
theorem Zr(he:dT N J G env env1){bp:List cF}{af5:Nat}:∀{hg:List (Nat×Nat)},Ng xb bp env af5 hg=true->rk xb bp env1 af5 hg=true
 |[],_=>rfl
 |(i,j)::r,h=>by
  simp[Ng]at h;simp[rk];refine⟨?_,Zr he h.2⟩
  grind[SC,asT,asU]
theorem Rf{fo:iL U}(dH:iM P fo){k:gy->cj U->bA U->Option R}{r:R}:∀{l:List cF} {key:Nat} {gl:gy} {nf:qg} {env:cj U} {J:bA U} {env1:Env} {J1:br} {G:Nat->Bool} {K:Env->br->Prop},
 gF key gl nf env J env1 J1 G->wE fo none l key gl nf env J k=some r->
 (∀mw nT env' J' cT bM px,k mw env' J'=some r->gF (key+16*l.length) mw nT env' J' cT bM px->K cT bM)->vJ P kk l key env1 J1 K
 |[],key,gl,nf,env,J,env1,J1,G,K,h,I,cq=>cq _ _ _ _ _ _ _ I h
 |o::l,key,gl,nf,env,J,env1,J1,G,K,h,I,cq=>by
  refine aqK dH h I λmw nT env' J' cT bM px h1 aa=>?_
  refine Rf dH aa h1 λahk Qt bw s2 Fh HN Ny aA aU=>cq _ Qt bw s2 _ _ Ny aA ?_
  grind
theorem Yq{fo:iL U}(dH:iM P fo){k:gy->cj U->bA U->Option R}{r:R}:∀{l:List cF} {key:Nat} {gl:gy} {nf:qg} {env:cj U} {J:bA U} {env1:Env} {J1:br} {G:Nat->Bool} {K:Env->br->Prop},
 gF key gl nf env J env1 J1 G->wE fo (some xb) l key gl nf env J k=some r->
 (∀mw nT env' J' cT bM px,k mw env' J'=some r->gF (key+16*l.length) mw nT env' J' cT bM px->K cT bM)->I6 xb P l key env1 J1 K
 |[],key,gl,nf,env,J,env1,J1,G,K,h,I,cq=>cq _ _ _ _ _ _ _ I h
 |o::l,key,gl,nf,env,J,env1,J1,G,K,h,I,cq=>by
  simp[wE]at I;obtain⟨g,v1,bM,mw,nT,env',J',px,h1,aa,aA⟩:=amO dH h (by simpa[Tn]using I);refine⟨g,v1,bM,h1,Yq dH aA aa λahk Qt bw s2 Fh HN Ny aU bN=>cq _ Qt bw s2 _ _ Ny aU ?_⟩
  grind
theorem ZN{gl:gy}:∀{env:cj U} {k:Nat} {v:b9 U},bh (clean gl env) k=some v->bh env k=some v/\Qi gl k=false
 |[],k,v,h=>by grind[clean,bh]
 |(i,w)::r,k,v,h=>by
  simp[clean]at h;split at h
  . obtain⟨h1,aa⟩:=ZN h
    grind[bh,dN]
  . simp[bh]at h⊢;cases ag:Nat.beq i k with
    |true=>simp_all
    |false=>rw[ag]at h;exact ZN h
theorem as5{gl:gy}{k:Nat}(h:Qi gl k=false):bh gl k=none:=by
 induction gl with
 |nil=>rfl
 |cons e r ih=>
  grind[Qi,bh]
theorem gF.clean{gl:gy}{nf:qg}(h:gF key gl nf env J env1 J1 G):dT key J (λ_=>true) (DZ gl env) env1:=by
 intro k v hk;have:bh env k=some v/\G k=true:=by
  unfold DZ at hk;split at hk
  . exact⟨hk,h.az.free k rfl⟩
  . obtain⟨h1,aa⟩:=ZN hk;exact⟨h1,h.az.free k (as5 aa)⟩
 obtain⟨v1,h1,aa⟩:=h.kR k v this.1
 grind
theorem gF.begin(he:dT key J (λ_=>true) env env1)(aN:da key J J1):gF key [] [] env J env1 J1 (λ_=>true):=
 ⟨he,⟨λ_ _=>rfl,λk t b h=>by grind[bh]⟩,aN,λ_ h=>by grind⟩
end
structure n1 where
 e:Exit
 sh:Shape
 own:List (Pos×aS)
 us:List aS
def gg(U:dC):List n1->Type
 |[]=>Empty
 |[a]=>bb U.D a.us
 |a::b::r=>bb U.D a.us ⊕ gg U (b::r)
structure kE (U:dC) where
 sh:Shape
 own:List (Pos×aS)
 ts:List aS
 outs:List n1
 F:bb U.D ts->Option (gg U outs)
def Py:Exit->Exit->Bool
 |.normal,.normal=>true
 |.ret,.ret=>true
 |.exit i,.exit j=>Nat.beq i j
 |_,_=>false
theorem aby{a b:Exit}(h:Py a b=true):a=b:=by
 cases a<;>cases b<;>simp[Py]at h<;>try rfl
 grind
abbrev EU(U:dC)(R:Type):=Exit->cj U->bA U->Nat->Option R
def im:(outs:List n1)->gg U outs->Exit×cj U×bA U×Nat
 |[],o=>Empty.elim o
 |[a],h=>(a.e,(iA U a.sh (bb.cells U.D a.us h)).1,(iA U a.sh (bb.cells U.D a.us h)).2,a.sh.st.length)
 |a::b::r,.inl h=>(a.e,(iA U a.sh (bb.cells U.D a.us h)).1,(iA U a.sh (bb.cells U.D a.us h)).2,a.sh.st.length)
 |a::b::r,.inr o=>im (b::r) o
def aC8{α β:Type}(o:α ⊕ β)(f:α->Option R)(g:β->Option R):Option R:=
 match o with
 |.inl a=>f a
 |.inr b=>g b
def aD3(k:EU U R)(a:n1):(r:List n1)->(gg U r->Option R)->gg U (a::r)->Option R
 |[],_=>λh=>k a.e (iA U a.sh (bb.cells U.D a.us h)).1 (iA U a.sh (bb.cells U.D a.us h)).2 a.sh.st.length
 |_::_,f=>λo=>aC8 o (λh=>k a.e (iA U a.sh (bb.cells U.D a.us h)).1 (iA U a.sh (bb.cells U.D a.us h)).2 a.sh.st.length) f
def Nl(k:EU U R):(outs:List n1)->gg U outs->Option R
 |[]=>λo=>Empty.elim o
 |a::r=>aD3 k a r (Nl k r)
theorem aeu(k:EU U R):∀{outs:List n1} {o:gg U outs},Nl k outs o=k (im outs o).1 (im outs o).2.1 (im outs o).2.2.1 (im outs o).2.2.2
 |[],o=>Empty.elim o
 |[a],h=>rfl
 |a::b::r,.inl h=>rfl
 |a::b::r,.inr o=>aeu k (outs:=b::r)
def w4(kk:Nat):(outs:List n1)->Exit->cj U->bA U->Nat->Option (gg U outs)
 |[],_,_,_,_=>none
 |[a],e,env,J,N=>match Py e a.e with
  |true=>sS kk a.own a.sh a.us env J N
  |false=>none
 |a::b::r,e,env,J,N=>match Py e a.e with
  |true=>match sS (U:=U) kk a.own a.sh a.us env J N with
   |some h=>some (.inl h)
   |none=>none
  |false=>match w4 kk (b::r) e env J N with
   |some o=>some (.inr o)
   |none=>none
abbrev rV(U:dC):=Nat->Option (kE U)
def jY:eY->Nat
 |.seq a b=>jY a+jY b
 |.cond _ a b=>jY a+jY b
 |.block _ b=>jY b
 |.loop b=>jY b+1
 |_=>0
def aA5(x:Bool)(a b:Option R):Option R:=if x=true then a else b
def bH.inner:pA->Bool
 |.ptr .. |.arr _=>true
 |_=>false
def awW:iw->Bool
 |.box cs=>cs.any bH.inner
 |_=>false
def aBa:ds U->List Nat
 |.box cs=>cs.flatMap bH.ic
 |.rows _ r=>r.flatMap λcs=>cs.flatMap bH.ic
 |.cL _ c=>c.ic
 |.dr _ _ _ _ c=>c.ic
 |_=>[]
def agD(fo:iL U)(J:bA U)(ops:List cF):List Nat:=
 match ops.any λo=>match o.op with
  |.call f _=>(fo f).any λs=>s.st.any awW
  |_=>false with
 |true=>J.flatMap λp=>aBa p.2
 |false=>[]
def ZO(ops:List cF)(hg:List (Nat×Nat)):Option (List cF×cF):=
 match Tm ops.length hg,ops.getLast? with
 |true,some o=>match o.op,o.guard with
  |.call ..,none=>some (ops.dropLast,o)
  |.mV ..,none=>some (ops.dropLast,o)
  |_,_=>none
 |_,_=>none
theorem aqM{ops:List cF}{hg:List (Nat×Nat)}{init:List cF}{last:cF}(h:ZO ops hg=some (init,last)):ops=init++[last]/\Tm (init.length+1) hg=true:=by
 unfold ZO at h;split at h
 . grind[List.getLast?_eq_some_iff]
 grind
def auH(t:Nat)(o:cF):Bool:=match o.op with
 |.build _ ps=>ps.any λp=>match p.2.2 with
  |.tmp k=>Nat.beq k t
  |_=>false
 |_=>false
def Ju(t:aS)(ops:List cF)(env:cj U)(J:bA U):List cF->List (Nat×aS)
 |[]=>[]
 |o::r=>match o.op,o.dst with
  |.mov (.tmp s),some d=>match bh env s with
   |some (.c (.arr b))=>match ops.any (auH d),Ih b t env J with
    |true,some _=>(b,t)::Ju t ops env J r
    |_,_=>Ju t ops env J r
   |_=>Ju t ops env J r
  |_,_=>Ju t ops env J r
def ayO(ops:List cF)(env:cj U)(J:bA U):List (Nat×aS):=match U.c2 with
 |none=>[]
 |some t=>Ju t ops env J ops
def qV(fo:iL U)(bE:rV U)(kk:Nat):eY->Nat->cj U->bA U->Nat->EU U R->Option R
 |.skip,_,env,J,N,k=>k .normal env J N
 |.ret,_,env,J,N,k=>k .ret env J N
 |.exit i,_,env,J,N,k=>k (.exit i) env J N
 |.region ops,_,env,J,N,k=>wE fo none ops N [] [] env J λgl env J=>TM (DZ gl env) J (N+16*ops.length) λenv J N=>k .normal env J N
 |.xc ops hg,_,env,J,N,k=>match ZO ops hg with
  |some (init,last)=>wE fo (some []) init N [] [] env J λgl env J=>match Ng [] init env N hg with
   |true=>wE fo none [last] (N+16*init.length) gl [] env J λgl env J=>k .normal (DZ gl env) J (N+16*init.length+16)
   |false=>none
  |none=>match qW (ayO ops env J) env J with
   |some (env,J)=>wE fo (some (agD fo J ops)) ops N [] [] env J λgl env' J'=>match Ng (agD fo J ops) ops env' N hg with
    |true=>TM (DZ gl env') J' (N+16*ops.length) λenv J N=>k .normal env J N
    |false=>none
   |none=>none
 |.seq a b,pos,env,J,N,k=>qV fo bE kk a pos env J N λe env J N=>match e with
  |.normal=>qV fo bE kk b (pos+jY a) env J N k
  |e=>k e env J N
 |.cond c a b,pos,env,J,N,k=>match eu [] none env c with
  |some (.c (.t ⟨.bool,x⟩))=>aA5 x (qV fo bE kk a pos env J N k) (qV fo bE kk b (pos+jY a) env J N k)
  |_=>none
 |.block id b,pos,env,J,N,k=>qV fo bE kk b pos env J N λe env J N=>match e with
  |.exit i=>match Nat.beq i id with
   |true=>k .normal env J N
   |false=>k (.exit i) env J N
  |e=>k e env J N
 |.loop b,pos,env,J,N,k=>match Nat.ble pos 999 with
  |false=>none
  |true=>match bE pos with
   |none=>none
   |some L=>match sS kk L.own L.sh L.ts env J N with
    |some h=>(L.F h)>>=λo=>Nl k L.outs o
    |none=>match bE (pos+1000)with
     |none=>none
     |some L=>match sS kk L.own L.sh L.ts env J N with
      |none=>none
      |some h=>(L.F h)>>=λo=>Nl k L.outs o
section
variable {P:Program}{nt kk N:Nat}{env:cj U}{J:bA U}{env1:Env}{J1:br}
def EA(kk:Nat)(Q:Exit->Env->br->Nat->Prop):Prop:=∀e N env J N' env' J',Conv kk N env J N' env' J'->Q e env' J' N'->Q e env J N
def ue(P:Program)(nt kk:Nat)(body:eY)(sh:Shape)(ts:List aS)(outs:List n1)(h:bb U.D ts)(o:gg U outs):Prop:=
 ∀env1 J1,dT sh.st.length (iA U sh (bb.cells U.D ts h)).2 (λ_=>true) (iA U sh (bb.cells U.D ts h)).1 env1->da sh.st.length (iA U sh (bb.cells U.D ts h)).2 J1->kk<=sh.st.length->
  ∀Q,EA kk Q->(∀cT bM,dT (im outs o).2.2.2 (im outs o).2.2.1 (λ_=>true) (im outs o).2.1 cT->da (im outs o).2.2.2 (im outs o).2.2.1 bM->kk<=(im outs o).2.2.2->Q (im outs o).1 cT bM (im outs o).2.2.2)->
   t' P nt kk body env1 J1 sh.st.length Q
def EF(P:Program)(nt kk:Nat)(body:eY)(L:kE U):Prop:=
 ∀h o,L.F h=some o->ue P nt kk body L.sh L.ts L.outs h o
def jU(P:Program)(nt kk:Nat)(bE:rV U):Nat->eY->Prop
 |pos,.seq a b=>jU P nt kk bE pos a/\jU P nt kk bE (pos+jY a) b
 |pos,.cond _ a b=>jU P nt kk bE pos a/\jU P nt kk bE (pos+jY a) b
 |pos,.block _ b=>jU P nt kk bE pos b
 |pos,.loop b=>∀L,pos<=999->(bE pos=some L\/bE (pos+1000)=some L)->EF P nt kk b L
 |_,_=>True
theorem EA.andThen{Q:Exit->Env->br->Nat->Prop}{next:Env->br->Nat->Prop}(h:EA kk Q)(a':∀N env J N' env' J',Conv kk N env J N' env' J'->next env' J' N'->next env J N):EA kk (andThen next Q):=by
 intro e N env J N' env' J' ay aE;cases e with
 |normal=>exact a' _ _ _ _ _ _ ay aE
 |_=>exact h _ _ _ _ _ _ _ ay aE
theorem AQ{fo:iL U}(dH:iM P fo){bE:rV U}:∀{c:eY} {pos:Nat} {env:cj U} {J:bA U} {N:Nat} {k:EU U R} {r:R} {env1:Env} {J1:br} {Q:Exit->Env->br->Nat->Prop},
 jU P nt kk bE pos c->qV fo bE kk c pos env J N k=some r->dT N J (λ_=>true) env env1->da N J J1->kk<=N->EA kk Q->
 (∀e env' J' N' cT bM,k e env' J' N'=some r->dT N' J' (λ_=>true) env' cT->da N' J' bM->kk<=N'->Q e cT bM N')->c9 P nt kk c env1 J1 N Q
 |.skip,pos,env,J,N,k,r,env1,J1,Q,aj,I,he,aN,ct,e1,hk=>c9.skip (hk _ _ _ _ _ _ I he aN ct)
 |.ret,pos,env,J,N,k,r,env1,J1,Q,aj,I,he,aN,ct,e1,hk=>c9.ret (hk _ _ _ _ _ _ I he aN ct)
 |.exit i,pos,env,J,N,k,r,env1,J1,Q,aj,I,he,aN,ct,e1,hk=>c9.exit (hk _ _ _ _ _ _ I he aN ct)
 |.region ops,pos,env,J,N,k,r,env1,J1,Q,aj,I,he,aN,ct,e1,hk=>
  c9.aCD (Rf dH (gF.begin he aN) I λmw nT env' J' cT bM px h1 aa=>by
   obtain⟨bw,s2,qZ,Fh,HN,g1,g2,g3,g4,g5⟩:=amR h1 aa.clean aa.f' (show kk<=_ by omega)
   exact e1 _ _ _ _ _ _ _ g2 (hk _ _ _ _ _ _ g1 g3 g4 (by omega)))
 |.xc ops hg,pos,env,J,N,k,r,env1,J1,Q,aj,I,he,aN,ct,e1,hk=>by
  simp only[qV]at I;split at I
  . rename_i init last AF;obtain⟨rfl,PZ⟩:=aqM AF;refine c9.aCE PZ (Yq dH (gF.begin he aN) I λmw nT env' J' cT bM px h1 aa=>?_);split at h1
    . rename_i ay;refine⟨Zr aa.kR ay,Rf dH (l:=[last]) (nf:=[]) ⟨aa.kR,aa.az,aa.f',λg az=>by grind⟩ h1 λahk Qt bw s2 Fh HN Ny aA aU=>hk _ _ _ _ _ _ aA aU.clean aU.f' (by omega)⟩
    grind
  . split at I
    . rename_i ie cO yS;obtain⟨Uy,aFE,yR,he,aN,_⟩:=Gy (kk:=kk) (gl:=[]) yS he aN;refine c9.conv yR (c9.xc (Yq dH (gF.begin he aN) I λmw nT env' J' cT bM px h1 aa=>?_))
      split at h1
      . rename_i ay;obtain⟨bw,s2,qZ,Fh,HN,g1,g2,g3,g4,g5⟩:=amR h1 aa.clean aa.f' (show kk<=_ by omega);exact⟨Zr aa.kR ay,e1 _ _ _ _ _ _ _ g2 (hk _ _ _ _ _ _ g1 g3 g4 (by omega))⟩
      grind
    . cases I
 |.seq a b,pos,env,J,N,k,r,env1,J1,Q,aj,I,he,aN,ct,e1,hk=>by
  refine c9.seq (AQ dH aj.1 I he aN ct (e1.andThen λN env J N' env' J' ay h=>c9.conv ay h) λe env' J' N' cT bM h1 aa aA aU=>?_);cases e with
  |normal=>exact AQ dH aj.2 h1 aa aA aU e1 hk
  |_=>exact hk _ _ _ _ _ _ h1 aa aA aU
 |.cond c a b,pos,env,J,N,k,r,env1,J1,Q,aj,I,he,aN,ct,e1,hk=>by
  simp only[qV]at I;split at I
  . rename_i x ay;have az:kz [] env (λ_=>true):=⟨λ_ _=>rfl,λk t b h=>by grind[bh]⟩
    obtain⟨p,v1,a1,a2,a3⟩:=cP he az ay;have:=a2.oX;subst this;refine c9.cond a1 (a3 rfl) (λag=>?_) (λag=>?_)
    . subst ag;exact AQ dH aj.1 I he aN ct e1 hk
    . subst ag;exact AQ dH aj.2 I he aN ct e1 hk
  grind
 |.block id b,pos,env,J,N,k,r,env1,J1,Q,aj,I,he,aN,ct,e1,hk=>by
  refine c9.block (AQ dH aj I he aN ct ?_ λe env' J' N' cT bM h1 aa aA aU=>?_)
  . intro e N env J N' env' J' ay aE;cases e with
    |exit i=>
     simp only[inBlock]at aE⊢;split at aE
     . rename_i ak;rw[af ak];exact e1 _ _ _ _ _ _ _ ay aE
     . rename_i ak;rw[ah ak];exact e1 _ _ _ _ _ _ _ ay aE
    |_=>exact e1 _ _ _ _ _ _ _ ay aE
  . cases e with
    |exit i=>
     simp only[inBlock];simp only at h1;split at h1
     . rename_i ag;rw[af (dN ag)];grind
     . rename_i ag;rw[ah (mr ag)];grind
    |_=>exact hk _ _ _ _ _ _ h1 aa aA aU
 |.loop b,pos,env,J,N,k,r,env1,J1,Q,aj,I,he,aN,ct,e1,hk=>by
  have run:∀(L:kE U) (h:bb U.D L.ts),(pos<=999/\(bE pos=some L\/bE (pos+1000)=some L))->sS kk L.own L.sh L.ts env J N=some h->((L.F h)>>=λo=>Nl k L.outs o)=some r->c9 P nt kk (.loop b) env1 J1 N Q:=by
   intro L h gB rz I;obtain⟨o,aO,ah1⟩:=p1.1 I;rw[aeu]at ah1;obtain⟨cT,bM,bD,bJ,c1,gr⟩:=G1 rz he aN ct;exact c9.conv bD (c9.aBq (aj L gB.1 gB.2 h o aO cT bM bJ c1 gr Q e1 λaEv aEe h1 aa aA=>hk _ _ _ _ _ _ ah1 h1 aa aA))
  simp only[qV]at I;split at I
  . cases I
  . rename_i ar;have ar:=kK ar;split at I
    . cases I
    . rename_i L gB;split at I
      . rename_i h rz;exact run L h ⟨ar,.inl gB⟩ rz I
      . split at I
        . cases I
        . rename_i are ayV;split at I
          . cases I
          . rename_i h rz;exact run are h ⟨ar,.inr ayV⟩ rz I
theorem ue.ajj {fo:iL U}(dH:iM P fo){bE:rV U}{body:eY}{sh:Shape}{own:List (Pos×aS)}{ts:List aS}{outs:List n1}{h:bb U.D ts}{o:gg U outs}{fT:bb U.D ts->Option (gg U outs)}
 (km:jU P nt kk bE 0 body)(u0:∀h o,fT h=some o->ue P nt kk body sh ts outs h o)
 (I:qV fo bE kk body 0 (iA U sh (bb.cells U.D ts h)).1 (iA U sh (bb.cells U.D ts h)).2 sh.st.length (λe env J N=>match e with
  |.normal=>match sS kk own sh ts env J N with
   |some bg=>fT bg
   |none=>none
  |e=>w4 kk outs e env J N)=some o):ue P nt kk body sh ts outs h o:=by
 intro env1 J1 he aN ct Q e1 hk;refine t'.round (AQ dH km I he aN ct (e1.andThen λN env J N' env' J' ay h=>t'.conv ay h) λe env' J' N' cT bM h1 aa aA aU=>?_);have CN:∀c7,c7=e->c7≠.normal->w4 kk _ c7 env' J' N'=some o->Q e cT bM N':=by
  intro c7 jF b4 ar;obtain⟨aR,s1,bD,bJ,c1,gr,hv⟩:=W' ar aa aA aU;exact e1 _ _ _ _ _ _ _ bD (by grind)
 cases e with
 |normal=>
  simp at h1;split at h1
  . rename_i bg rz;obtain⟨aR,s1,bD,bJ,c1,gr⟩:=G1 rz aa aA aU;exact t'.conv bD (u0 bg o h1 aR s1 bJ c1 gr Q e1 hk)
  grind
 |exit i=>exact CN _ rfl (by simp) h1
 |ret=>exact CN _ rfl (by simp) h1
 |goto l=>exact CN _ rfl (by simp) h1
 |panic r9=>exact CN _ rfl (by simp) h1
 |outgrown=>exact CN _ rfl (by simp) h1
where
 W' {N:Nat} {env:cj U} {J:bA U} {env1:Env} {J1:br}:∀ {outs:List n1} {e:Exit} {o:gg U outs},w4 kk outs e env J N = some o->dT N J (λ_=>true) env env1->da N J J1->kk<=N->
  ∃cT bM,Conv kk N env1 J1 (im outs o).2.2.2 cT bM/\dT (im outs o).2.2.2 (im outs o).2.2.1 _ (im outs o).2.1 cT/\da (im outs o).2.2.2 (im outs o).2.2.1 bM/\kk<=(im outs o).2.2.2/\e=(im outs o).1
  |[],e,o,h,_,_,_=>by grind[w4]
  |[a],e,o,h,he,aN,ct=>by
   simp[w4]at h;split at h
   . rename_i sw;obtain⟨aR,s1,bD,bJ,c1,gr⟩:=G1 h he aN ct;exact⟨aR,s1,bD,bJ,c1,gr,aby sw⟩
   grind
  |a::b::r,e,o,h,he,aN,ct=>by
   simp only[w4]at h;split at h
   . rename_i sw;split at h
     . rename_i ab rz;cases h;obtain⟨aR,s1,bD,bJ,c1,gr⟩:=G1 rz he aN ct;exact⟨aR,s1,bD,bJ,c1,gr,aby sw⟩
     grind
   . split at h
     . rename_i ed aO;cases h;obtain⟨aR,s1,bD,bJ,c1,gr,hv⟩:=W' aO he aN ct;exact⟨aR,s1,bD,bJ,c1,gr,hv⟩
     grind
end
end
open Go
variable {U:dC}{R:Type}
def vw:Nat->List (b9 U)->cj U
 |_,[]=>[]
 |i,v::vs=>(i,v)::vw (i+1) vs
def aaN(env:cj U)(J:bA U):oI->Option (b9 U)
 |.tmp t=>bh env t
 |.cell t g k=>match bh env t with
  |some (.c (.ptr b o))=>match bh J b with
   |some (.box cs)=>yo g k cs o
   |_=>none
  |_=>none
def GV(env:cj U)(J:bA U):List oI->Option (List (b9 U))
 |[]=>some []
 |r::rs=>match aaN env J r,GV env J rs with
  |some v,some vs=>some (v::vs)
  |_,_=>none
def aa4:List (b9 U)->b9 U
 |[]=>.bn []
 |[v]=>v
 |v::w::vs=>.bn (v::w::vs)
def No(kk:Nat)(hS:List oI)(f':gS)(fq:List iw)(us:List aS)(env:cj U)(J:bA U):Option (bb U.D us):=
 match GV env J hS with
 |none=>none
 |some vs=>match HO J kk 0 fq (XY f' (aa4 vs) ([],[])) []with
  |(bs,o3)=>match qW o3 env J with
   |none=>none
   |some (env',J')=>match GV env' J' hS with
    |none=>none
    |some sQ=>match DY bs&&(keeps kk bs&&Nat.beq bs.length fq.length)with
     |false=>none
     |true=>match pL bs f' (aa4 sQ),od bs J' 0 fq with
      |some a,some b=>bb.dec U.D us (a++b)
      |_,_=>none
def ali(kk:Nat)(hS:List oI)(f':gS)(fq:List iw)(us:List aS):EU U (bb U.D us)
 |.normal,env,J,_=>No kk hS f' fq us env J
 |.ret,env,J,_=>No kk hS f' fq us env J
 |_,_,_,_=>none
section
variable {P:Program}{nt kk N:Nat}{env:cj U}{J:bA U}{env1:Env}{J1:br}
def Ch(kk:Nat)(Q:Exit->Env->br->Nat->Prop):Exit->Env->br->Nat->Prop:=
 λe env J N=>∃N' env' J',Conv kk N env J N' env' J'/\Q e env' J' N'
theorem Ch.xO{Q:Exit->Env->br->Nat->Prop}:EA kk (Ch kk Q):=
 λe N env J N' env' J' h ⟨qZ,bw,s2,aa,aE⟩=>⟨qZ,bw,s2,h.trans aa,aE⟩
theorem c9.akE{c:eY}{env:Env}{J:br}{Q:Exit->Env->br->Nat->Prop}(h:c9 P nt kk c env J N (Ch kk Q)):c9 P nt kk c env J N Q:=
 λcode ay aG φ S a w ct R=>wp_mono (h _ ay aG φ S a w ct R) λe a w ⟨bB,bC,env',J',N',⟨qZ,bw,s2,aa,aE⟩,R'⟩=>
  let⟨pw,q0,eI⟩:=aa aG nt _ bC a w ct R';⟨pw,q0,bw,s2,qZ,aE,eI⟩
theorem aqX(he:dT N J (λ_=>true) env env1)(aN:da N J J1){vK:oI}{v:b9 U}(h:aaN env J vK=some v):∃p v1,DX env1 J1 vK=some (p,v1)/\p/\cn N J v v1:=by
 cases vK with
 |tmp t=>
  obtain⟨v1,h1,aa⟩:=he t v h;exact⟨True,v1,by grind[DX],trivial,aa⟩
 |cell t g k=>
  simp[aaN]at h;split at h
  . rename_i b o hk;split at h
    . rename_i cs eJ;obtain⟨v1,h1,aa⟩:=he t _ hk;have:=aa.lg;obtain⟨_,y,aA,aU⟩:=aN b _ eJ;cases aU with
      |box aU=>
       obtain⟨v2,bN,dO⟩:=Dd aU h;exact⟨True,v2,by grind[DX],trivial,dO⟩
    grind
  grind
theorem al'(he:dT N J (λ_=>true) env env1)(aN:da N J J1):∀{hS:List oI} {vs:List (b9 U)},GV env J hS=some vs->∃p eR,ym env1 J1 hS=some (p,eR)/\p/\bk (cn N J) vs eR
 |[],vs,h=>by simp[GV]at h;subst h;exact⟨_,[],rfl,trivial,.nil⟩
 |r::rs,vs,h=>by
  simp[GV]at h;split at h
  . rename_i v sQ h1 aa;cases h;obtain⟨p,v1,a1,a2,a3⟩:=aqX he aN h1;obtain⟨q,eR,b1,b2,cf⟩:=al' he aN aa;exact⟨p/\q,v1::eR,by grind[ym],⟨a2,b2⟩,.cons a3 cf⟩
  grind
theorem arS{vs:List (b9 U)}{eR:List V}(h:bk (cn N J) vs eR):cn N J (aa4 vs) (tQ eR):=by
 cases h with
 |nil=>exact .bn [] [] rfl (by simp)
 |cons h1 aa=>
  cases aa with
  |nil=>exact h1
  |cons aa aA=>
   refine .bn _ _ (by simp[aA.length]) λi x d I av=>?_
   obtain⟨fj,aR,bw⟩:=(bk.cons h1 (.cons aa aA)).get I
   grind
def NC(s:cY U)(r:bb U.D s.us):V->br->Nat->Prop:=λcc bM N'=>N'=s.fq.length/\cn N' (s.rest r) (s.res r) cc/\da N' (s.rest r) bM
theorem arT{hS:List oI}{s:cY U}{r:bb U.D s.us}(h:No kk hS s.f' s.fq s.us env J=some r)(he:dT N J (λ_=>true) env env1)(aN:da N J J1):
 ∃cT bM,Conv kk N env1 J1 N cT bM/\∃p eR,ym cT bM hS=some (p,eR)/\p/\
  ∃bs eC J2,bs.Nodup/\keeps kk bs=true/\kc ((tQ eR).cu bs) eC/\Ck (iR bs bM 0 bs) J2/\NC s r eC J2 bs.length:=by
 unfold No at h;split at h
 . grind
 . split at h;rename_i bs o3 _;split at h
   . grind
   . rename_i env' J' yS;obtain⟨aR,s1,bD,bJ,c1,_⟩:=Gy (kk:=kk) (gl:=[]) yS he aN;split at h
     . grind
     . rename_i sQ aAR;split at h
       . grind
       . rename_i ag;simp only[dM]at ag;obtain⟨kU,jn,CH⟩:=ag;have cC:=Lv kU;have hlen:=dN CH;split at h
         . rename_i a b aC pS;obtain⟨p,eR,d1,d2,d3⟩:=al' bJ c1 aAR;obtain⟨y,f,g⟩:=Us cC (LF cC pS) aC;obtain⟨eC,g1,g2⟩:=g _ (arS d3);obtain⟨s2,t1,t2⟩:=Sl cC c1 pS;have FF:=bb.uP h;have aR:s.res r=y:=by grind[cY.res]
           have bw:s.rest r=lD 0 s.fq b:=by grind[cY.rest]
           exact⟨_,_,bD,p,eR,d1,d2,bs,eC,s2,cC,jn,g1,t1,hlen,by grind,by grind⟩
         grind
def EC(P:Program)(s:cY U)(h:bb U.D s.ts)(r:bb U.D s.us):Prop:=
 ∀(h':List V) J1,bk (cn s.st.length (s.nx h)) (s.args h) h'->da s.st.length (s.nx h) J1->gf P s.f h' J1 s.st.length (NC s r)
theorem mm.of{s:cY U}(h:∀h r,s.F h=some r->EC P s h r):mm P s:=h
theorem EC.W6 {s:cY U}{fn:Func}{c:eY}{hS:List oI}{fo:iL U}{bE:rV U}(aJ:P.funcs[s.f]?=some fn)(ay:fn.body.bind (resolve P fn.ntmps)=some c)(ai:mP P fn.results.toList=some hS)(a':Nat.ble s.hb.length fn.ntmps=true)
 (dH:iM P fo)(km:jU P fn.ntmps s.st.length bE 0 c)
 {h:bb U.D s.ts}{r:bb U.D s.us}(I:TJ s.st.length (s.nx h) (λJ N=>qV fo bE s.st.length c 0 (vw 0 (s.args h)) J N (ali s.st.length hS s.f' s.fq s.us))=some r):EC P s h r:=by
 intro h' J1 aC aN;have az2:h'.length<=fn.ntmps:=by
  rw[<-aC.length];refine jJ (D5 ?_) (kK a');exact ahf
 have pW:dT s.st.length (s.nx h) (λ_=>true) (vw 0 (s.args h)) (ie 0 h'):=by
  intro k v hk;have key:∀{xs:List _} {bc:List V} {i:Nat},bk (cn s.st.length (s.nx h)) xs bc->bh (vw i xs) k=some v->∃v1,look (ie i bc) k=some (true,v1)/\cn s.st.length (s.nx h) v v1:=by
   intro xs
   induction xs with
   |nil=>grind[vw,bh]
   |cons x xs ih=>
    intro bc i ov hZ;cases ov with
    |cons h1 aa=>
     simp[vw,bh]at hZ;simp[ie,look];split at hZ
     . simp_all
     simp_all[ah,mr]
  grind
 obtain⟨aEh,Nm,aEi,I,Uu,azy,ay5,azW⟩:=arP I pW aN;refine gf.tidy (gf.mk aJ ay ai rfl az2 (c9.conv Uu (c9.akE (AQ dH km I azy ay5 azW Ch.xO λe env' J' N' cT bM h1 aa aA aU=>?_)))) (λcc s1 rW ab=>ab)
 . have fin:No s.st.length hS s.f' s.fq s.us env' J'=some r->(e= .normal\/e= .ret)->Ch s.st.length (TZ hS λcc s1 rW=>∃bs eC J2,bs.Nodup/\keeps s.st.length bs=true/\kc (cc.cu bs) eC/\Ck (iR bs s1 0 bs) J2/\NC s r eC J2 bs.length) e cT bM N':=by
    intro aAx sw;obtain⟨aR,s1,bD,p,eR,d1,d2,rest⟩:=arT aAx aa aA;refine⟨N',aR,s1,bD,?_⟩;rcases sw with rfl|rfl
    . exact⟨p,eR,d1,d2,rest⟩
    . exact⟨p,eR,d1,d2,rest⟩
   cases e with
   |normal=>exact fin h1 (.inl rfl)
   |ret=>exact fin h1 (.inr rfl)
   |_=>cases h1
where
 ahf:∀{ss:List gS} {a:gE U},(pP ss a).1.length=ss.length
  |[],a=>rfl
  |s::ss,a=>by
   simp[pP];have:=ahf (ss:=ss) (a:=(tu s a).2)
   grind
def mv:eY->Nat->Option eY
 |.seq a b,q=>match Nat.ble (jY a) q with
  |true=>mv b (q-jY a)
  |false=>mv a q
 |.cond _ a b,q=>match Nat.ble (jY a) q with
  |true=>mv b (q-jY a)
  |false=>mv a q
 |.block _ b,q=>mv b q
 |.loop b,q=>match q with
  |0=>some b
  |q+1=>mv b q
 |_,_=>none
def G'(q:Nat):Nat:=match Nat.ble q 999 with
 |true=>q
 |false=>q-1000
theorem jU.of{bE:rV U}:∀{c:eY} {pos:Nat},(∀q b L,mv c q=some b->pos+q<=999/\(bE (pos+q)=some L\/bE (pos+q+1000)=some L)->EF P nt kk b L)->jU P nt kk bE pos c
 |.seq a b,pos,h=>by
  refine⟨jU.of λq bI L h1 aa=>h q bI L ?_ aa,jU.of λq bI L h1 aa=>h (jY a+q) bI L ?_ (by grind)⟩
  . simp[mv];cases ag:Nat.ble _ q with
    |true=>exact absurd (Bv h1) (by simp_all)
    |false=>grind
  . simp[mv];have:Nat.ble (jY a) (jY a+q)=true:=by simp
    grind
 |.cond c a b,pos,h=>by
  refine⟨jU.of λq bI L h1 aa=>h q bI L ?_ aa,jU.of λq bI L h1 aa=>h (jY a+q) bI L ?_ (by grind)⟩
  . simp only[mv];cases ag:Nat.ble (jY a) q with
    |true=>exact absurd (Bv h1) (by simp_all)
    |false=>grind
  . simp only[mv];have:Nat.ble (jY a) (jY a+q)=true:=by simp
    grind
 |.block id b,pos,h=>jU.of (c:=b) h
 |.loop b,pos,h=>λL ar gB=>h 0 b L rfl ⟨ar,gB⟩
 |.skip,pos,h=>trivial
 |.region _,pos,h=>trivial
 |.xc _ _,pos,h=>trivial
 |.exit _,pos,h=>trivial
 |.ret,pos,h=>trivial
where
 Bv:∀{c:eY} {q:Nat} {b:eY},mv c q=some b->q<jY c
  |.seq a b,q,bI,h=>by
   simp[mv]at h;simp[jY];split at h
   . have:=Bv h;grind
   . have:=Bv h;omega
  |.cond _ a b,q,bI,h=>by
   simp only[mv]at h;simp only[jY];split at h
   . have:=Bv h;grind
   . have:=Bv h;omega
  |.block _ b,q,bI,h=>Bv (c:=b) h
  |.loop b,0,bI,h=>by simp[jY]
  |.loop b,q+1,bI,h=>by have:=Bv (c:=b) h;grind[jY]
  |.skip,q,bI,h=>by grind[mv]
  |.region _,q,bI,h=>by grind[mv]
  |.xc _ _,q,bI,h=>by grind[mv]
  |.exit _,q,bI,h=>by grind[mv]
  |.ret,q,bI,h=>by grind[mv]
theorem jU.ajf{bE:rV U}{c:eY}(h:∀q L,bE q=some L->EF P nt kk ((mv c (G' q)).getD .skip) L):jU P nt kk bE 0 c:=
 jU.of λq b L h1 aa=>by
  rw[kt]at aa;obtain⟨aa,aA|aA⟩:=aa
  . have:=h q L aA;have e:G' q=q:=by
     unfold G';split
     . rfl
     . rename_i ag;exact absurd (Nat.ble_eq_true_of_le aa) (by simp[ag])
    rw[e,h1]at this;exact this
  . have:=h (q+1000) L aA;have e:G' (q+1000)=q:=by
     unfold G';split
     . rename_i ag;have:=kK ag;omega
     . omega
    rw[e,h1]at this;exact this
theorem jU.none{c:eY}:jU P nt kk (λ_=>none:rV U) 0 c:=jU.ajf λq L h=>by grind
theorem iM.none:iM P (λ_=>[]:iL U):=λf s h=>by grind
end
open Go
def aav(P:Program)(fn:Func):eY:=
 match fn.body.bind (Shv.resolve P fn.ntmps)with
 |some c=>c
 |none=>.skip
def Ha(c:eY)(q:Nat):eY:=(mv c (G' q)).getD .skip
def kS{U:dC}:List (cY U)->iL U
 |[],_=>[]
 |s::l,f=>match Nat.beq s.f f with
  |true=>s::kS l f
  |false=>kS l f
def rD{U:dC}(l:List (Nat×kE U)):rV U:=λq=>bh l q
theorem iM.nil{U:dC}{P:Program}:iM P (kS ([]:List (cY U))):=λf s h=>by grind[kS]
theorem iM.cons{U:dC}{P:Program}{s:cY U}{l:List (cY U)}(ag:kL P s.f=true)(hs:mm P s)(h:iM P (kS l)):iM P (kS (s::l)):=by
 intro f t ht;simp[kS]at ht;split at ht
 . rename_i aJ;have:=dN aJ;rcases fz.1 ht with rfl|ht
   . grind
   . exact h f t ht
 . exact h f t ht
def oK{U:dC}(P:Program)(nt kk:Nat)(c:eY)(l:List (Nat×kE U)):Prop:=∀q L,bh l q=some L->EF P nt kk (Ha c q) L
theorem oK.nil{U:dC}{P:Program}{nt kk:Nat}{c:eY}:oK P nt kk c ([]:List (Nat×kE U)):=λq L h=>by grind[bh]
theorem oK.cons{U:dC}{P:Program}{nt kk:Nat}{c:eY}{q:Nat}{L:kE U}{l:List (Nat×kE U)}(gB:EF P nt kk (Ha c q) L)(h:oK P nt kk c l):oK P nt kk c ((q,L)::l):=by
 intro w6 af2 aE;simp[bh]at aE;split at aE
 . simp_all
 . exact h w6 af2 aE
theorem oK.snd{U:dC}{P:Program}{nt kk:Nat}{c:eY}{l:List (Nat×kE U)}(h:oK P nt kk c l):jU P nt kk (rD l) 0 c:=jU.ajf λq L aE=>h q L aE
def bl(k:IntKind)(a b:Int):Int:=k.wrap (a+b)
def gq(k:IntKind)(a b:Int):Int:=k.wrap (a-b)
def rE(k:IntKind)(a b:Int):Int:=k.wrap (a*b)
def nW(k:IntKind)(a b:Int):Int:=k.wrap (a.tdiv b)
def c5(a b:Int):Int:=a.tmod b
def NL(k:IntKind)(a b:Int):Int:=k.wrap (BitVec.ofInt k.bits a &&& BitVec.ofInt k.bits b).toNat
def BJ(k:IntKind)(a b:Int):Int:=k.wrap (BitVec.ofInt k.bits a ||| BitVec.ofInt k.bits b).toNat
def Ex(k:IntKind)(a b:Int):Int:=k.wrap (BitVec.ofInt k.bits a ^^^ BitVec.ofInt k.bits b).toNat
def vq(k:IntKind)(a b:Int):Int:=k.wrap (a*2^min b.toNat k.bits)
def sM(k:IntKind)(a b:Int):Int:=a.fdiv (2^min b.toNat k.bits)
open Go
variable {U:dC}
structure jS where
 q:Nat
 sh:Shape
 own:List (Pos×aS)
 S2:List (Pos×aS)
 ts:List aS
 outs:List n1
 sub:List jS
structure eZ where
 f:Nat
 hb:List gS
 st:List iw
 ts:List aS
 f':gS
 fq:List iw
 us:List aS
 sub:List jS
def jS.l(e:jS)(F:bb U.D e.ts->Option (gg U e.outs)):kE U:=⟨e.sh,e.own,e.ts,e.outs,F⟩
def eZ.s(e:eZ)(F:bb U.D e.ts->Option (bb U.D e.us)):cY U:=⟨e.f,e.hb,e.st,e.ts,e.f',e.fq,e.us,F⟩
def codeF(P:Program)(f:Nat):eY:=match P.funcs[f]? with
 |some fn=>aav P fn
 |none=>.skip
def Ls(P:Program)(f:Nat):Nat:=match P.funcs[f]? with
 |some fn=>fn.ntmps
 |none=>0
def age(P:Program)(f:Nat):List oI:=match P.funcs[f]? with
 |some fn=>(match mP P fn.results.toList with
  |some r=>r
  |none=>[])
 |none=>[]
def ze(P:Program)(e:eZ):Bool:=match P.funcs[e.f]? with
 |some fn=>kL P e.f&&((fn.body.bind (resolve P fn.ntmps)).isSome&&((mP P fn.results.toList).isSome&&Nat.ble e.hb.length fn.ntmps))
 |none=>false
def nv(P:Program)(e:eZ):Prop:=ze P e=true
theorem nv.m{P:Program}{e:eZ}(h:ze P e=true):nv P e:=h
def Ba(fo:iL U)(bE:rV U)(kk:Nat)(b:eY)(e:jS)(fT:bb U.D e.ts->Option (gg U e.outs))(h:bb U.D e.ts):Option (gg U e.outs):=
 qV fo bE kk b 0 (iA U e.sh (bb.cells U.D e.ts h)).1 (iA U e.sh (bb.cells U.D e.ts h)).2 e.sh.st.length (λx env J N=>match x with
  |.normal=>match sS kk e.S2 e.sh e.ts env J N with
   |some bg=>fT bg
   |none=>none
  |x=>w4 kk e.outs x env J N)
def zz(fo:iL U)(bE:rV U)(P:Program)(e:eZ)(h:bb U.D e.ts):Option (bb U.D e.us):=
 TJ e.st.length (lD 0 e.st (pP e.hb (bb.cells U.D e.ts h)).2) λJ N=>qV fo bE e.st.length (codeF P e.f) 0 (vw 0 (pP e.hb (bb.cells U.D e.ts h)).1) J N (ali e.st.length (age P e.f) e.f' e.fq e.us)
section
variable {P:Program}
theorem amo {fo:iL U}(dH:iM P fo){bE:rV U}{nt kk:Nat}{b:eY}{e:jS}{h:bb U.D e.ts}{o:gg U e.outs}{fT:bb U.D e.ts->Option (gg U e.outs)}
 (km:jU P nt kk bE 0 b)(u0:∀h o,fT h=some o->ue P nt kk b e.sh e.ts e.outs h o)(I:Ba fo bE kk b e fT h=some o):ue P nt kk b e.sh e.ts e.outs h o:=by
 refine ue.ajj (own:=e.S2) dH km u0 (Eq.trans ?_ I)
 grind[Ba]
theorem abz {fo:iL U}{bE:rV U}{e:eZ}(hk:nv P e)(F:bb U.D e.ts->Option (bb U.D e.us))(dH:iM P fo)(km:jU P (Ls P e.f) e.st.length bE 0 (codeF P e.f))
 {h:bb U.D e.ts}{r:bb U.D e.us}(I:zz fo bE P e h=some r):EC P (e.s F) h r:=by
 unfold nv ze at hk;unfold codeF at km;unfold Ls at km;unfold zz codeF age at I;split at hk
 . rename_i fn hz;simp[hz]at km I;simp only[dM]at hk;obtain⟨aA,aU,bN,dO⟩:=hk;obtain⟨c,ay⟩:=L'.1 aU;obtain⟨hS,ai⟩:=L'.1 bN;have Pv:aav P fn=c:=by grind[aav]
   rw[Pv]at km I;simp[ai]at I;exact EC.W6 hz ay ai dO dH km I
 grind
theorem nv.b{e:eZ}(hk:nv P e):kL P e.f=true:=by
 grind[nv,ze]
def Jq(fo:iL U)(kk:Nat):Nat->eY->(e:jS)->bb U.D e.ts->Option (gg U e.outs)
 |0,_,_,_=>none
 |n+1,b,e,h=>Ba fo (rD (e.sub.map λs=>(s.q,s.l (Jq fo kk n (Ha b s.q) s)))) kk b e (Jq fo kk n b e) h
def HZ(g:(e:eZ)->bb U.D e.ts->Option (bb U.D e.us))(r:List (cY U)):List eZ->iL U
 |[],f=>kS r f
 |e::T,f=>match Nat.beq e.f f with
  |true=>e.s (g e)::HZ g r T f
  |false=>HZ g r T f
def fk(P:Program)(T:List eZ)(X:List (cY U)):Nat->(e:eZ)->bb U.D e.ts->Option (bb U.D e.us)
 |0,_,_=>none
 |n+1,e,h=>zz (HZ (fk P T X n) X T) (rD (e.sub.map λs=>(s.q,s.l (Jq (HZ (fk P T X n) X T) e.st.length n (Ha (codeF P e.f) s.q) s)))) P e h
theorem WA{nt kk:Nat}{b:eY}{g:(s:jS)->bb U.D s.ts->Option (gg U s.outs)}:∀{l:List jS},(∀s h o,g s h=some o->ue P nt kk (Ha b s.q) s.sh s.ts s.outs h o)->oK P nt kk b (l.map λs=>(s.q,s.l (g s)))
 |[],_=>oK.nil
 |s::l,az=>oK.cons (λh o aO=>az s h o aO) (WA az)
theorem aaO{fo:iL U}(dH:iM P fo){nt kk:Nat}:∀(n:Nat) (b:eY) (e:jS) (h:bb U.D e.ts) (o:gg U e.outs),Jq fo kk n b e h=some o->ue P nt kk b e.sh e.ts e.outs h o
 |0,_,_,_,_,I=>by grind[Jq]
 |n+1,b,e,h,o,I=>amo dH (oK.snd (WA λs h o aO=>aaO dH n _ s h o aO)) (λh o aO=>aaO dH n b e h o aO) I
theorem aev{g:(e:eZ)->bb U.D e.ts->Option (bb U.D e.us)}{r:List (cY U)}(ai:iM P (kS r)):∀{T:List eZ},(∀e,e∈T->nv P e)->(∀e,e∈T->mm P (e.s (g e)))->iM P (HZ g r T)
 |[],_,_=>ai
 |e::T,hk,az=>by
  intro f t ht;simp[HZ]at ht;have ih:=aev ai (λe he=>hk e (Qy _ he)) (λe he=>az e (Qy _ he));split at ht
  . rename_i aJ;have:=dN aJ;rcases fz.1 ht with rfl|ht
    . exact⟨this,by rw[<-this];exact(hk e WZ).b,az e WZ⟩
    . exact ih f t ht
  . exact ih f t ht
theorem aew{T:List eZ}(hk:∀e,e∈T->nv P e){X:List (cY U)}(pR:iM P (kS X)):∀(n:Nat) (e:eZ),nv P e->mm P (e.s (fk P T X n e))
 |0,e,_=>λh r ai=>by simp[eZ.s,fk]at ai
 |n+1,e,he=>mm.of λh r ai=>
  have dH:=aev pR hk λc7 jF=>aew hk pR n c7 (hk c7 jF)
  abz he _ dH (oK.snd (WA λs h o aO=>aaO dH n _ s h o aO)) ai
end
open Go
variable {U:dC}{P:Program}
def fJ(P:Program)(s:cY U):Prop:=kL P s.f=true/\mm P s
def zg(P:Program)(f:Nat):List Nat->eY
 |[]=>codeF P f
 |q::p=>Ha (zg P f p) q
def vD(P:Program)(f kk:Nat)(p:List Nat)(e:jS)(F:bb U.D e.ts->Option (gg U e.outs)):Prop:=EF P (Ls P f) kk (zg P f p) (e.l F)
def lq(P:Program)(l:List (cY U)):Prop:=iM P (kS l)
theorem lq.n:lq P ([]:List (cY U)):=iM.nil
theorem lq.k{s:cY U}{l:List (cY U)}(h:fJ P s)(aj:lq P l):lq P (s::l):=iM.cons h.1 h.2 aj
def py(P:Program)(f kk:Nat)(p:List Nat)(l:List (Nat×kE U)):Prop:=oK P (Ls P f) kk (zg P f p) l
theorem py.n{f kk:Nat}{p:List Nat}:py P f kk p ([]:List (Nat×kE U)):=oK.nil
theorem py.k{f kk q:Nat}{p:List Nat}{e:jS}{F:bb U.D e.ts->Option (gg U e.outs)}{l:List (Nat×kE U)}(h:vD P f kk (q::p) e F)(aj:py P f kk p l):py P f kk p ((q,e.l F)::l):=oK.cons h aj
def Nw(P:Program)(U:dC)(e:eZ)(h:bb U.D e.ts)(r:bb U.D e.us):Prop:=EC P (e.s λ_=>none) h r
def Is(P:Program)(U:dC)(f kk:Nat)(p:List Nat)(e:jS)(h:bb U.D e.ts)(o:gg U e.outs):Prop:=ue P (Ls P f) kk (zg P f p) e.sh e.ts e.outs h o
theorem Nw.at{e:eZ}(hk:nv P e){fs:List (cY U)}(aJ:lq P fs){ls:List (Nat×kE U)}(aj:py P e.f e.st.length [] ls){h:bb U.D e.ts}{r:bb U.D e.us}(I:zz (kS fs) (rD ls) P e h=some r):Nw P U e h r:=
 abz hk _ aJ (oK.snd aj) I
theorem Is.at {f kk:Nat}{p:List Nat}{e:jS}{fT:bb U.D e.ts->Option (gg U e.outs)}(bF:∀h o,fT h=some o->Is P U f kk p e h o){fs:List (cY U)}(aJ:lq P fs){ls:List (Nat×kE U)}(aj:py P f kk p ls){h:bb U.D e.ts}{o:gg U e.outs}
 (I:Ba (kS fs) (rD ls) kk (zg P f p) e fT h=some o):Is P U f kk p e h o:=
 amo aJ (oK.snd aj) bF I
theorem fJ.of{e:eZ}(hk:nv P e){F:bb U.D e.ts->Option (bb U.D e.us)}(h:∀h r,F h=some r->Nw P U e h r):fJ P (e.s F):=⟨hk.b,mm.of h⟩
theorem vD.of{f kk:Nat}{p:List Nat}{e:jS}{F:bb U.D e.ts->Option (gg U e.outs)}(h:∀h o,F h=some o->Is P U f kk p e h o):vD P f kk p e F:=h
theorem fJ.fn{e:eZ}(hk:nv P e){F:bb U.D e.ts->Option (bb U.D e.us)}{fs:List (cY U)}(aJ:lq P fs){ls:List (Nat×kE U)}(aj:py P e.f e.st.length [] ls)(I:∀h,zz (kS fs) (rD ls) P e h=F h):fJ P (e.s F):=
 .of hk λh r ai=>.at hk aJ aj ((I h).trans ai)
theorem vD.aBr{f kk:Nat}{p:List Nat}{e:jS}{F:bb U.D e.ts->Option (gg U e.outs)}{fs:List (cY U)}(aJ:lq P fs){ls:List (Nat×kE U)}(aj:py P f kk p ls)(I:∀h,Ba (kS fs) (rD ls) kk (zg P f p) e (λ_=>none) h=F h):vD P f kk p e F:=
 .of λh o aO=>.at (λ_ _ h=>by grind) aJ aj ((I h).trans aO)
theorem fJ.rc {e:eZ}(hk:nv P e){F:bb U.D e.ts->Option (bb U.D e.us)}{b:(bb U.D e.ts->Option (bb U.D e.us))->bb U.D e.ts->Option (bb U.D e.us)}
 (fA:∀m:bb U.D e.ts->bb U.D e.us->Prop,(∀fT,(∀h r,fT h=some r->m h r)->∀h r,b fT h=some r->m h r)->∀h r,F h=some r->m h r)
 {fs:(bb U.D e.ts->Option (bb U.D e.us))->List (cY U)}(aJ:∀fT,fJ P (e.s fT)->lq P (fs fT)){ls:List (Nat×kE U)}(aj:py P e.f e.st.length [] ls)(I:∀fT h,zz (kS (fs fT)) (rD ls) P e h=b fT h):fJ P (e.s F):=
 .of hk (fA _ λfT bF h r ai=>.at hk (aJ fT (.of hk bF)) aj ((I fT h).trans ai))
theorem vD.rc {f kk:Nat}{p:List Nat}{e:jS}{F:bb U.D e.ts->Option (gg U e.outs)}{b:(bb U.D e.ts->Option (gg U e.outs))->bb U.D e.ts->Option (gg U e.outs)}
 (fA:∀m:bb U.D e.ts->gg U e.outs->Prop,(∀fT,(∀h r,fT h=some r->m h r)->∀h r,b fT h=some r->m h r)->∀h r,F h=some r->m h r)
 {fs:List (cY U)}(aJ:lq P fs){ls:List (Nat×kE U)}(aj:py P f kk p ls)(I:∀fT h,Ba (kS fs) (rD ls) kk (zg P f p) e fT h=b fT h):vD P f kk p e F:=
 .of (fA _ λfT bF h o aO=>.at bF aJ aj ((I fT h).trans aO))
theorem fJ.ca {e:eZ}{F:bb U.D e.ts->Option (bb U.D e.us)}{fs:List (cY U)}(aJ:lq P fs:=by exact .n){ls:List (Nat×kE U)}(aj:py P e.f e.st.length [] ls:=by exact .n)(hk:nv P e:=by exact .m (by kernel_rfl))
 (I:∀h,zz (kS fs) (rD ls) P e h=F h:=by intro _;kernel_rfl):fJ P (e.s F):= .fn hk aJ aj I
theorem fJ.rx {e:eZ}{F:bb U.D e.ts->Option (bb U.D e.us)}{b:(bb U.D e.ts->Option (bb U.D e.us))->bb U.D e.ts->Option (bb U.D e.us)}
 (fA:∀m:bb U.D e.ts->bb U.D e.us->Prop,(∀fT,(∀h r,fT h=some r->m h r)->∀h r,b fT h=some r->m h r)->∀h r,F h=some r->m h r)
 {fs:(bb U.D e.ts->Option (bb U.D e.us))->List (cY U)}(aJ:∀fT,fJ P (e.s fT)->lq P (fs fT)){ls:List (Nat×kE U)}(aj:py P e.f e.st.length [] ls:=by exact .n)(hk:nv P e:=by exact .m (by kernel_rfl))
 (I:∀fT h,zz (kS (fs fT)) (rD ls) P e h=b fT h:=by intro _ _;kernel_rfl):fJ P (e.s F):= .rc hk fA aJ aj I
theorem vD.rx {f kk:Nat}{p:List Nat}{e:jS}{F:bb U.D e.ts->Option (gg U e.outs)}{b:(bb U.D e.ts->Option (gg U e.outs))->bb U.D e.ts->Option (gg U e.outs)}
 (fA:∀m:bb U.D e.ts->gg U e.outs->Prop,(∀fT,(∀h r,fT h=some r->m h r)->∀h r,b fT h=some r->m h r)->∀h r,F h=some r->m h r)
 {fs:List (cY U)}(aJ:lq P fs:=by exact .n){ls:List (Nat×kE U)}(aj:py P f kk p ls:=by exact .n)(I:∀fT h,Ba (kS fs) (rD ls) kk (zg P f p) e fT h=b fT h:=by intro _ _;kernel_rfl):vD P f kk p e F:= .rc fA aJ aj I
theorem avX{T:List eZ}(h:T.all (ze P)=true):∀e,e∈T->nv P e:=λe he=>ik.1 h e he
theorem fJ.run{T:List eZ}(gk:T.all (ze P)=true){X:List (cY U)}(pR:lq P X){e:eZ}(hk:nv P e){F:bb U.D e.ts->Option (bb U.D e.us)}(n:Nat)(h:∀h,F h=fk P T X n e h):fJ P (e.s F):=
 ⟨hk.b,λx r ai=>aew (avX gk) pR n e hk x r ((h x).symm.trans ai)⟩
abbrev ae:aS:= .int .i64
abbrev aH(n:Nat):aS:= .slice (.nm n)
abbrev zs:aS:= .slice .str
abbrev eA:aS:= .slice (.int .i64)
abbrev ab(t:aS):gS:= .c (.hole t)
abbrev aD(b o:Nat):gS:= .c (.ptr b o)
abbrev dm(t:aS):iw:= .box [.hole t]
def dj:pA->List aS
 |.hole t=>[t]
 |.dw _ _ _=>[.int .i64]
 |.ft t _=>[t]
 |_=>[]
def bF{α:Type}(f:α->List aS):List α->List aS
 |[]=>[]
 |a::l=>f a++bF f l
def ahu:gS->List aS
 |.c s=>dj s
 |.agg l=>bF dj l
 |.row n=>[.nm n]
 |.bn _=>[]
def mx:gS->List aS
 |.bn l=>bF ahu l
 |v=>ahu v
def eF:iw->List aS
 |.box l=>bF dj l
 |.arr t=>[.slice t]
 |.bz n=>[.nm n]
 |.set=>[.slice .str]
 |.buf _=>[.str]
 |.cL _ s=>dj s
 |.gone=>[]
def fe(l:List (Nat×gS))(st:List iw):List aS:=bF (λp=>mx p.2) l++bF eF st
abbrev bm(f:Nat)(hb:List gS)(f':gS)(sub:List jS:=[])(st:List iw:=[])(fq:List iw:=[]):eZ:=⟨f,hb,st,bF mx hb++bF eF st,f',fq,mx f'++bF eF fq,sub⟩
abbrev cN(q:Nat)(l:List (Nat×gS))(st:List iw)(outs:List n1)(sub:List jS:=[])(own:List (Pos×aS):=[])(S2:List (Pos×aS):=own):jS:=⟨q,⟨l,st⟩,own,S2,fe l st,outs,sub⟩
abbrev bS(e:Exit)(l:List (Nat×gS))(st:List iw:=[])(own:List (Pos×aS):=[]):n1:=⟨e,⟨l,st⟩,own,fe l st⟩
abbrev j6(k:Nat)(t:aS):n1:=⟨.ret,⟨[(k,ab t)],[]⟩,[],[t]⟩
abbrev mb(i:Nat):n1:=⟨.exit i,⟨[],[]⟩,[],[]⟩
section
open Go
variable {U:dC}
def Rs(te sz bytes:Nat)(z:List C):eY:=
 .seq (.region [⟨some 2,.mov (.const (.c .aT)),none⟩])
  (.seq (.seq (.region [⟨some 3, .mov (.tmp 0),none⟩,⟨some 4, .eqNil false (.tmp 3),none⟩])
   (.cond (.tmp 4) (.seq (.region [⟨some 2,.mov (.const (.c .aT)),none⟩]) .ret) .skip))
   (.seq (.region [⟨some 5,.bslice sz 0 z [],none⟩,⟨some 6,.mov (.tmp 0),none⟩,⟨some 7,.append te sz bytes (.tmp 5) (.tmp 6),none⟩,⟨some 2,.mov (.tmp 7),none⟩]) .ret))
def Em(bytes n:Nat):Bool:=(decide ((2*n+192)*bytes<=kJ)||decide ((n+n/4+512)*bytes<=kJ))&&decide (n<=en)
theorem wF{bytes n:Nat}(h:room bytes n=true):Em bytes n=true:=by
 grind[ZJ,Em]
theorem aex{bytes n:Nat}(h:Em bytes n=true):pK n bytes/\n<=en:=by
 unfold Em at h;simp at h;exact h
def iS{α:Type}(bytes:Nat)(l:List α):Option (List α):=if Em bytes l.length=true then some l else none
def Tr(U:dC)(f:Nat)(t:aS)(bytes:Nat):cY U:=
 ⟨f,[.c (.hole (.slice t))],[],[.slice t],.c (.arr 0),[.arr t],[.slice t],λ(l:List (t.den U.D))=>iS bytes l⟩
section
variable {P:Program}
theorem as6 {f:Nat}{fn:Func}{te sz bytes:Nat}{z:List C}{j9:List T}{es:List (List T)}(aJ:P.funcs[f]?=some fn)(ay:fn.body.bind (Shv.resolve P fn.ntmps)=some (Rs te sz bytes z))(ai:mP P fn.results.toList=some [.tmp 2])
 (a':1<=fn.ntmps)(bq:toTs z=some j9)(b8:0<sz)(he:∀e,e∈es->e.length=sz)(kZ:Em bytes es.length=true):
 gf P f [.c (.t (.slice es))] [] 0 (λr J' N'=>N'=1/\r= .c (.arr 0 sz 0 es.length)/\bf J' 0=some (.arr sz es)):=by
 have aAB:=aex kZ;refine gf.tidy (Q:=λr J' N'=>∃b,r= .c (.arr b sz 0 es.length)/\bf J' b=some (.arr sz es)) (gf.mk aJ ay ai rfl (by grind) ?_) ?_
 . refine c9.seq (c9.region ?_);simp only[q2,lu,jB,a7,ba.get,gh,ie,dG.neutral,dc,andThen];refine .inr ⟨λ_=>trivial,.inl trivial,?_⟩;refine c9.seq (c9.seq (c9.region ?_));simp only[q2,lu,jB,a7,ba.get,sH,gh,dG.neutral,dc,andThen,look];refine .inr ⟨λ_=>by rfl,.inl trivial,?_⟩;refine .inr ?_
   simp only[dB,dc,true_and];intro b ag;refine c9.cond (b:=b) (by simp[ba.get,look,Co]) trivial (λVq=>?_) (λazh=>?_)
   ·
    have fO:es=[]:=by grind
    subst fO;refine c9.seq (c9.region ?_);simp only[q2,lu,jB,a7,ba.get,sH,gh,dG.neutral,dc,andThen];refine .inr ⟨λ_=>trivial,.inl trivial,?_⟩;refine c9.conv (Conv.own (k:=2) rfl b8 (nj _)) (c9.ret ?_)
    refine⟨_,_,rfl,⟨rfl,trivial⟩,_,rfl,?_⟩;rfl
   . refine c9.skip ?_;refine c9.seq (c9.region ?_);simp only[q2,lu,jB,a7,ba.get,sH,gh,dG.neutral,dc,andThen,look,pJ,bq,aK,Nat.reduceEqDiff,dB,reduceCtorEq,sV,dX,List.replicate];refine .inr ⟨λ_=>trivial,.inr trivial,?_⟩;refine .inr ⟨λ_=>by simp,.inl trivial,?_⟩
     refine .inr ⟨λ_=>⟨trivial,trivial,trivial,trivial,trivial,by rfl,he,by grind,by grind⟩,.inr trivial,?_⟩;refine .inr ⟨λ_=>by simp,.inl trivial,?_⟩;refine c9.ret ⟨_,[.c (.arr 80 sz 0 _)],rfl,⟨rfl,trivial⟩,80,by rw[kt];rfl,?_⟩;rfl
 . rintro r J' N' ⟨b,rfl,hs⟩
   refine⟨[b],_,_,by simp,rfl,?_,λi x I=>⟨x,I,?_⟩,rfl,rfl,?_⟩
   . simp only[V.cu,C.cu,pos,dc];exact .c (fb.refl _)
   . cases x with
     |box cs=>exact .box (bk.self fb.refl _)
     |arr sz es=>exact .arr
     |set ks=>exact .same
     |buf E s=>exact .same
     |cL E c=>exact .cL (fb.refl _)
     |dr sz es i o c=>exact .dr (fb.refl _)
   grind[iR,bf,ck.cu]
theorem abA {f:Nat}{fn:Func}{te sz bytes:Nat}{z:List C}{j9:List T}{t:aS}(aJ:P.funcs[f]?=some fn)(ay:fn.body.bind (Shv.resolve P fn.ntmps)=some (Rs te sz bytes z))(ai:mP P fn.results.toList=some [.tmp 2])
 (a':Nat.ble 1 fn.ntmps=true)(bq:toTs z=some j9)(b8:t.sz U=sz):mm P (Tr U f t bytes):=by
 intro l r bF h' J1 aC aN;subst b8;have u0:iS _ l=some r:=bF;unfold iS at u0;split at u0
 . cases u0;cases aC with
   |cons h1 aa=>
    cases aa;have:=cn.pj h1;subst this
    refine gf.conv (.cons (.c (fb.refl _)) .nil) (λb x I=>by grind[bf]) ((as6 aJ ay ai (kK a') bq aS.BR (λe he=>by
     obtain⟨y,_,rfl⟩:=gO.1 he
     exact aS.CB) (by grind)).mono ?_)
    rintro cc s1 rW ⟨rfl,rfl,hs⟩
    refine⟨rfl,.c (.arr 0 _ _ (by simp) λx I p ar=>?_),λb x I=>?_⟩
    . have:x=ds.arr t l:=by
       simp[cY.rest,Tr,tu,Fu,bb.cells,h7.cells,lD,pO,bh]at I
       grind
      grind[ds.ep]
    . have hB:(if b=0 then some (ds.arr t l)else none)=some x:=by
       rw[<-I];cases b<;>rfl
      split at hB
      . rename_i ag;cases hB;subst ag;exact⟨by simp,_,hs,.arr t l⟩
      grind
 grind
def D0{α:Type}(bytes:Nat)(l:List α):Option (List α×List α):=(iS bytes l).map λr=>(l,r)
def aaw(U:dC)(f:Nat)(t:aS)(bytes:Nat):cY U:=
 ⟨f,[.c (.arr 0)],[.arr t],[.slice t],.c (.arr 1),[.arr t,.arr t],[.slice t,.slice t],λ(l:List (t.den U.D))=>D0 bytes l⟩
theorem asV {f:Nat}{fn:Func}{te sz bytes:Nat}{z:List C}{j9:List T}{es:List (List T)}{cO:br}(aJ:P.funcs[f]?=some fn)(ay:fn.body.bind (Shv.resolve P fn.ntmps)=some (Rs te sz bytes z))(ai:mP P fn.results.toList=some [.tmp 2])
 (a':1<=fn.ntmps)(bq:toTs z=some j9)(b8:0<sz)(he:∀e,e∈es->e.length=sz)(kZ:Em bytes es.length=true)(h0:bf cO 0=some (.arr sz es)):
 gf P f [.c (.arr 0 sz 0 es.length)] cO 1 (λr J' N'=>N'=2/\r= .c (.arr 1 sz 0 es.length)/\bf J' 0=some (.arr sz es)/\bf J' 1=some (.arr sz es)):=by
 have aAB:=aex kZ;refine gf.tidy (Q:=λr J' N'=>∃b,1<=b/\r= .c (.arr b sz 0 es.length)/\bf J' 0=some (.arr sz es)/\bf J' b=some (.arr sz es)) (gf.mk aJ ay ai rfl (by grind) ?_) ?_
 . refine c9.seq (c9.region ?_);simp only[q2,lu,jB,a7,ba.get,sH,gh,ie,dG.neutral,dc,andThen];refine .inr ⟨λ_=>trivial,.inl trivial,?_⟩;refine c9.seq (c9.seq (c9.region ?_));simp only[q2,lu,jB,a7,ba.get,sH,gh,dG.neutral,dc,andThen,look,lf,rJ]
   refine .inr ⟨λ_=>by rfl,.inl trivial,?_⟩;refine .inr ?_;simp only[Nat.reduceEqDiff,dB,dc,sH,true_and];intro b ag;refine c9.cond (b:=b) (p:=True) (by simp[ba.get,look,Co]) trivial (λVq=>?_) (λazh=>?_)
   . have fO:es=[]:=by grind
     subst fO;refine c9.seq (c9.region ?_);simp only[q2,lu,jB,a7,ba.get,sH,gh,dG.neutral,dc,andThen];refine .inr ⟨λ_=>trivial,.inl trivial,?_⟩;refine c9.conv (Conv.own (k:=2) (g:=true) (sz:=sz) rfl b8 (by simp)) (c9.ret ?_)
     refine⟨_,_,rfl,⟨rfl,trivial⟩,_,by simp,rfl,?_,?_⟩
     . simp_all[dX,ah]
     . rw[dX,af rfl]
   . refine c9.skip ?_;refine c9.seq (c9.region ?_);simp only[q2,lu,jB,a7,ba.get,sH,gh,dG.neutral,dc,andThen,look,pJ,bq,aK,Nat.reduceEqDiff,dB,dK,reduceCtorEq,List.replicate];refine .inr ⟨λ_=>trivial,.inr trivial,?_⟩;refine .inr ⟨λ_=>by simp,.inl trivial,?_⟩
     have ao:∀v,sV (ee cO (1+16*1+16*2) (.arr sz v)) (.c (.arr 0 sz 0 es.length))=some (es,some 0):=by
      grind[sV,dX]
     refine .inr ?_;simp only[lf,rJ,kt]at ao⊢;rw[ao];simp only[aK,dX,dc,fa,Nat.reduceMul,Nat.reduceAdd,dB];refine⟨λ_=>⟨trivial,trivial,trivial,trivial,trivial,by rfl,he,by grind,by grind⟩,.inr trivial,?_⟩;refine .inr ⟨λ_=>by simp,.inl trivial,?_⟩
     refine c9.ret ⟨_,[.c _],rfl,⟨rfl,trivial⟩,81,by simp,rfl,?_,?_⟩
     . simp_all[dX,ah,ib]
     simp_all[dX,af]
 . rintro r J' N' ⟨b,kU,rfl,l9,hs⟩
   refine⟨[0,b],_,_,by grind,rfl,?_,λi x I=>⟨x,I,?_⟩,rfl,rfl,?_⟩
   . simp only[V.cu,C.cu,pos,ah (show ¬0=b by omega),dc];exact .c (fb.refl _)
   . cases x with
     |box cs=>exact .box (bk.self fb.refl _)
     |arr sz es=>exact .arr
     |set ks=>exact .same
     |buf E s=>exact .same
     |cL E c=>exact .cL (fb.refl _)
     |dr sz es i o c=>exact .dr (fb.refl _)
   grind[iR,bf,ck.cu]
theorem asW {f:Nat}{fn:Func}{te sz bytes:Nat}{z:List C}{j9:List T}{t:aS}(aJ:P.funcs[f]?=some fn)(ay:fn.body.bind (Shv.resolve P fn.ntmps)=some (Rs te sz bytes z))(ai:mP P fn.results.toList=some [.tmp 2])
 (a':Nat.ble 1 fn.ntmps=true)(bq:toTs z=some j9)(b8:t.sz U=sz):mm P (aaw U f t bytes):=by
 intro l r bF h' J1 aC aN;subst b8;have u0:(iS _ l).map _=some r:=bF;unfold iS at u0;split at u0
 . cases u0;cases aC with
   |cons h1 aa=>
    cases aa;obtain⟨sz,n,rfl,_,av⟩:=h1.kd;obtain⟨_,y,Kc,Qe⟩:=aN 0 _ rfl;cases Qe;have:=av _ rfl _ rfl;obtain⟨rfl,rfl⟩:=this;have hlen:l.length=(l.map (t.enc U)).length:=by grind
    rw[hlen]
    refine(asV aJ ay ai (kK a') bq aS.BR (λe he=>by
     obtain⟨y,_,rfl⟩:=gO.1 he
     exact aS.CB) (by grind) Kc).mono ?_
    rintro cc s1 rW ⟨rfl,rfl,l9,P5⟩
    have hZ:∀b x,bh ((aaw U f t bytes).rest (l,l)) b=some x->(b=0\/b=1)/\x=ds.arr t l:=by
     intro b x I;have hB:(if b=0 then some (ds.arr t l)else if b=1 then some (ds.arr t l)else none)=some x:=by
      rw[<-I]
      match b with
      |0=>rfl
      |1=>rfl
      |_+2=>rfl
     grind
    refine⟨rfl,.c (.arr 1 _ _ (by simp) λx I p ar=>?_),λb x I=>?_⟩
    . obtain⟨_,rfl⟩:=hZ _ _ I
      grind[ds.ep]
    . obtain⟨ag,rfl⟩:=hZ _ _ I;rcases ag with rfl|rfl
      . exact⟨by simp,_,l9,.arr t l⟩
      . exact⟨by simp,_,P5,.arr t l⟩
 grind
end
end
section
open Go Go.Proofs Go.Proofs.YtklfhpkljddjbaaGreatDoor Go.Shelf
variable {U:dC}
def Ts(U:dC)(f E zC:Nat):cY U:=
 ⟨f,[.c (.ptr 0 0)],[.cL E (.df 1),.buf zC],[.str],.bn [],[.cL E (.df 1),.buf zC],[.str],λ(s:List UInt8)=>some s⟩
section
variable {P:Program}{ρ:Ren}
theorem as7(L:Lays.n240 P ρ)(X:Builder.X72 P ρ){J:br}{zC n:Nat}{s:List UInt8}(h0:bf J 0=some (.cL (ρ.t 72) (.df 1 n)))(h1:bf J 1=some (.buf zC s)):
 gf P (ρ.f 240) [.c (.ptr 0 0)] J 2 (λr J' N'=>r= .bn []/\J'=J/\N'=2):=by
 intro φ S w B iX fH wT j0 vs fP;cases fP with|cons aF fP=>
 cases fP;have aAn:=aF.lg;subst aAn;obtain⟨fQ,⟨p,v,ab,ar,FT⟩,gv⟩:=iX.blk 0 _ h0
 have same:∀ w',w' = w->∃ (v:Value) (r:V) (bB:ea) (bC:dV) (J':br) (N':Nat),Ending.returned (Value.tuple #[]) = Ending.returned v/\(r = .bn []/\J' = J/\N' = 2)/\cy bB w' bC r v/\r.aP (lt N') = true/\xA bB w' bC J'/\(∀ (b:Nat) x,bf J' b = some x->b<N'/\x.aP (lt N') = true)/\Ext B S bC w w'/\
  (∀(b:Nat) x,bf J' b=some x->(bB b).2≠0->B (bB b).1\/w.heap.size<=(bB b).1)/\∀b,b<2->bB b=φ b:=by
  rintro w' rfl
  exact⟨_,.bn [],φ,S,J,2,rfl,⟨rfl,rfl,rfl⟩,.bn [] [] rfl (by simp),rfl,iX,fH,Ext.refl,λb x I ag=>.inl (wT b x I ag),λ_ _=>rfl⟩
 rcases ar with rfl|rfl
 . have Vs:w.cell? ⟨(φ 0).1,0,none⟩=some (.pointer none):=by rw[nB ab];rfl
   have We:w.shape? (φ 0).1=some (ρ.t 72,2):=by simp[World.shape?,ab]
   have yS:w.frozen? ⟨(φ 0).1,0,none⟩=false:=by simp[World.frozen?,ab]
   refine(Any.Builder_copyCheck_fresh L X _ w Vs We yS).mono ?_
   rintro e w' ⟨rfl,rfl⟩
   obtain⟨c3,dE⟩:=amh ab 0 _;have m:jV w S _ S:=⟨λ_ _ h=>h,λb j h=>Bq (dE b (λe=>gv j (e▸h))) j⟩
   refine⟨_,.bn [],φ,S,J,2,rfl,⟨rfl,rfl,rfl⟩,.bn [] [] rfl (by simp),rfl,⟨λb x I=>?_,iX.inj,λb j h=>?_⟩,fH,⟨rfl,rfl,rfl,by simp,λb ag eF=>dE b (λe=>eF (e▸wT 0 _ h0 fQ)),m,λ_ _ h=>.inl h⟩,λb x I ag=>.inl (wT b x I ag),λ_ _=>rfl⟩
   . by_cases ag:b=0
     . subst ag;rw[h0]at I;cases I;exact⟨fQ,⟨_,v,c3,.inr rfl,bP.mono m (λ_ _=>rfl) (C.ux _) FT⟩,gv⟩
     . exact dU.mono (n:=λ_=>true) m (λ_ _=>rfl) rfl (by cases x<;>simp[ck.aP,C.ux]) (λwN=>dE _ (iX.inj b 0 x _ I h0 ag wN fQ)) (iX.blk b x I)
   . have:=iX.st b j h
     simpa using this
 . have Vs:w.cell? ⟨(φ 0).1,0,none⟩=some (.pointer (some ⟨(φ 0).1,0,none⟩)):=by rw[nB (vs:=[_,_]) ab];rfl
   refine(Any.Builder_copyCheck_used L X _ w Vs).mono ?_
   rintro e w' ⟨rfl,rfl⟩
   exact same _ rfl
theorem as8(L:Lays.n240 P ρ)(X:Builder.X72 P ρ){f E zC:Nat}(aJ:ρ.f 240=f)(fe:ρ.t 72=E):mm P (Ts U f E zC):=by
 subst aJ;subst fe;intro s r bF h' J1 aC aN;have ai:=w3 bF.symm;subst ai;cases aC with|cons aC yN=>
 cases yN;have:=aC.lg;subst this;have ng:bh ((Ts U (ρ.f 240) (ρ.t 72) zC).nx r) 0=some _:=rfl;have hC:bh ((Ts U (ρ.f 240) (ρ.t 72) zC).nx r) 1=some _:=rfl;obtain⟨_,pt,g0,b0⟩:=aN 0 _ ng;obtain⟨_,jQ,g1,b1⟩:=aN 1 _ hC;cases b1;cases b0 with| @cL _ _ d b0=>
 cases b0 with|df _ n ag av=>
 refine(as7 L X g0 g1).mono ?_
 rintro cc s1 rW ⟨rfl,rfl,rfl⟩
 exact⟨rfl,.bn [] [] rfl (by simp),aN⟩
end
end
section
open Go Go.ChangeShapes Go.WideShapes Go.RowKit
variable {U:dC}
def aS.gb:aS->Nat
 |.bool=>1
 |.int k=>k.bits/8
 |.str=>16
 |.slice _=>24
 |.nm _=>0
def aax:List aS->Nat
 |[]=>0
 |t::r=>t.gb+aax r
def D1(l:List aS):Nat:=bif l.any λt=>Nat.ble 8 t.gb then(aax l+7)/8*8 else aax l
def aS.bytes(U:dC)(t:aS):Nat:=D1 (t.cells U)
inductive WF (U:dC):Cell U.D->Prop
 |bool (b:Bool):WF U ⟨.bool,b⟩
 |int (k:IntKind) (n:Int) (h:(Lit.int k n).wf=true):WF U ⟨.int k,n⟩
 |str (s:List UInt8) (h:s.length<=reachBytes):WF U ⟨.str,s⟩
 |slice (t:aS) (l:List (t.den U.D)) (h:l.length<=reachBytes) (aa:l.length*t.bytes U<=reachBytes) (aj:∀x,x∈l->∀c,c∈t.row U x->WF U c):WF U ⟨.slice t,l⟩
def dC.Total(U:dC):Prop:=∀n (l:List (Cell U.D)),l.map Cell.ty=U.eM n->∃x,U.make n l=some x
def TF:List aS->List aS->Bool
 |[],[]=>true
 |a::l,b::m=>aS.beq a b&&TF l m
 |_,_=>false
theorem acs:∀{l m:List aS},TF l m=true->l=m
 |[],[],_=>rfl
 |a::l,b::m,h=>by
  simp[TF]at h;rw[aS.beq_eq h.1,acs h.2]
 |[],_::_,h=>by cases h
 |_::_,[],h=>by cases h
def LJ(P:Program)(g:TypeId->Option (List aS)):List Field->Nat->Nat->Option (List aS)
 |[],off,mJ=>match Nat.beq off mJ with
  |true=>some []
  |false=>none
 |f::r,off,mJ=>match g f.type with
  |none=>none
  |some a=>match Nat.beq f.offset off&&Nat.beq (P.cellsOf f.type) a.length with
   |false=>none
   |true=>match LJ P g r (off+a.length) mJ with
    |none=>none
    |some b=>some (a++b)
def flat(P:Program)(U:dC)(st:TypeId->Option Nat):Nat->TypeId->Option (List aS)
 |0,_=>none
 |n+1,t=>match P.underlying t with
  |some .bool=>some [.bool]
  |some (.int k)=>some [.int k]
  |some .string=>some [.str]
  |some (.slice e)=>match st e with
   |some m=>match Nat.ble 1 (P.bytesOf e)&&Nat.ble (D1 (U.eM m)) (P.bytesOf e)with
    |true=>some [.slice (.nm m)]
    |false=>none
   |none=>match flat P U st n e with
    |none=>none
    |some a=>match Nat.ble 1 (P.bytesOf e)&&Nat.ble (D1 a) (P.bytesOf e)with
     |false=>none
     |true=>match a with
      |[ty]=>match ty.F6 with
       |true=>none
       |false=>some [.slice ty]
      |_=>none
  |some (.struct fs)=>LJ P (flat P U st n) fs.toList 0 (P.cellsOf t)
  |some (.array k e)=>match flat P U st n e with
   |none=>none
   |some a=>match Nat.beq (P.cellsOf t) (k*a.length)&&Nat.beq (P.cellsOf e) a.length with
    |false=>none
    |true=>some (List.replicate k a).flatten
  |_=>none
theorem amY{α:Type}{R:Nat->α->Prop}:∀(n:Nat),(∀i,i<n->∃x,R i x)->∃l:List α,l.length=n/\∀(i:Nat) x,l[i]?=some x->R i x
 |0,_=>⟨[],rfl,by simp⟩
 |n+1,h=>by
  obtain⟨l,aj,ai⟩:=amY n λi ak=>h i (by omega)
  obtain⟨x,I⟩:=h n (by simp);refine⟨l++[x],by grind,λi y ao=>?_⟩
  grind
section
variable {H:Type}{enc:TypeId×Value->H}{P:Program}{w:World}
abbrev Old(w:World):dV:=λb _=>b<w.heap.size
structure Rd (U:dC)(w:World)(eM:List aS)(cs:List Value)(l:List (Cell U.D)):Prop where
 ty:l.map Cell.ty=eM
 wf:∀c,c∈l->WF U c
 rt:bk (λc v=>cl w (Old w) (Cell.enc U c) v) l cs
theorem LK{t:aS}{x:t.den U.D}{v:Value}(h1:WF U ⟨t,x⟩)(aa:cl w (Old w) (Cell.enc U ⟨t,x⟩) v):Rd U w [t] [v] [⟨t,x⟩]:=
 ⟨rfl,by grind,.cons aa .nil⟩
theorem YF{t:TypeId}:∀{bc:List (DataW H)} {d:DataW H},d∈bc->∀n∈d.weights P t,n∈DataW.weightsAll P t bc
 |d0::bc,d,av,n,a'=>by
  simp[DataW.weightsAll];rcases fz.1 av with rfl|av
  . grind
  . exact .inr (YF av n a')
theorem abB{g:TypeId->Option (List aS)}{cs:List Value}:∀{fs:List Field} {off mJ:Nat} {eM:List aS},
 (∀f,f∈fs->∀a,g f.type=some a->∃l,Rd U w a ((cs.drop f.offset).take (P.cellsOf f.type)) l)->
 LJ P g fs off mJ=some eM->cs.length=mJ->∃l,Rd U w eM (cs.drop off) l
 |[],off,mJ,eM,_,h,aj=>by
  simp[LJ]at h;split at h
  . rename_i e;cases h;have:=dN e;refine⟨[],rfl,by simp,?_⟩;rw[mc (by omega)];exact .nil
  grind
 |f::r,off,mJ,eM,az,h,aj=>by
  simp only[LJ]at h;split at h
  . grind
  . rename_i a aC;split at h
    . grind
    . rename_i ag;simp only[dM]at ag;have h1:=dN ag.1;have aa:=dN ag.2;split at h
      . grind
      . rename_i b jn;cases h;obtain⟨hC,nO⟩:=az f (by simp) a aC;obtain⟨l2,e4⟩:=abB (λf aJ=>az f (by grind)) jn aj;refine⟨hC++l2,by simp[nO.ty,e4.ty],?_,?_⟩
        . intro c ay;rcases ju.1 ay with ay|ay
          . exact nO.wf c ay
          . exact e4.wf c ay
        . have e:cs.drop off=(cs.drop off).take a.length++cs.drop (off+a.length):=by rw[<-Hn,WT]
          rw[e];refine bk.append ?_ e4.rt;have:=nO.rt
          grind
theorem afe{a:List aS}{cs:List Value}:∀(k off:Nat),(∀i,i<k->∃l,Rd U w a ((cs.drop (off+i*a.length)).take a.length) l)->cs.length=off+k*a.length->
 ∃l,Rd U w (List.replicate k a).flatten (cs.drop off) l
 |0,off,_,aj=>by
  refine⟨[],rfl,by simp,?_⟩;rw[mc (by omega)];exact .nil
 |k+1,off,az,aj=>by
  obtain⟨hC,nO⟩:=az 0 (by simp);rw[QK]at nO
  obtain⟨l2,e4⟩:=afe (a:=a) (cs:=cs) k (off+a.length) (λi ak=>by
   grind) (by grind)
  refine⟨hC++l2,by simp[nO.ty,e4.ty,List.replicate_succ],?_,?_⟩
  . intro c ay;rcases ju.1 ay with ay|ay
    . exact nO.wf c ay
    . exact e4.wf c ay
  . have e:cs.drop off=(cs.drop off).take a.length++cs.drop (off+a.length):=by rw[<-Hn,WT]
    rw[e];exact bk.append nO.rt e4.rt
theorem as9{a:Addr}{n:Nat}{cs:List Value}(h:w.cells? 0 a n=some cs):cs.length=n/\∀j,j<n->w.cell? (a.add j)=cs[j]?:=by
 exact⟨by simpa using mapM_some_length h,λj aM=>mapM_some_get h j j (by grind)⟩
theorem aa'{a:Addr}{v:Value}(h:w.cell? a=some v):a.spot=none/\a.block<w.heap.size:=by
 unfold World.cell? at h;split at h
 . rename_i ag;split at h
   . grind
   . refine⟨by simp_all,(L7.1 ag).1⟩
 grind
theorem aey{a:Addr}{i j:Nat}(h:a.spot=none):(a.add i).add j=⟨a.block,a.off+i+j,none⟩:=by
 obtain⟨b,o,sp⟩:=a
 grind[Addr.add]
theorem ai7(mJ:U.Total){t:aS}{l:List (Cell U.D)}(h:l.map Cell.ty=t.cells U):∃x,t.row U x=l:=by
 have one:∀t,l.map Cell.ty=[t]->∃x:t.den _,l=[⟨t,x⟩]:=by
  intro t h
  match l,h with
  |[⟨hF,x⟩],h=>grind
 cases t with
 |nm n=>
  obtain⟨x,I⟩:=mJ n l h;exact⟨x,U.mk_eq n l x I⟩
 |bool=>obtain⟨x,I⟩:=one _ h;exact⟨x,I.symm⟩
 |int k=>obtain⟨x,I⟩:=one _ h;exact⟨x,I.symm⟩
 |str=>obtain⟨x,I⟩:=one _ h;exact⟨x,I.symm⟩
 |slice t=>obtain⟨x,I⟩:=one _ h;exact⟨x,I.symm⟩
def Cj(P:Program)(U:dC)(st:TypeId->Option Nat):Prop:=∀e m,st e=some m->flat P U st 60 e=some (U.eM m)
def HQ:List (TypeId×Nat)->TypeId->Option Nat
 |[],_=>none
 |p::l,t=>match Nat.beq p.1 t with
  |true=>some p.2
  |false=>HQ l t
def LL(P:Program)(U:dC)(st:TypeId->Option Nat)(t:TypeId)(eM:List aS):Bool:=
 match flat P U st 60 t with
 |some a=>TF a eM
 |none=>false
theorem Zs{P:Program}{st:TypeId->Option Nat}{t:TypeId}{eM:List aS}(h:LL P U st t eM=true):flat P U st 60 t=some eM:=by
 grind[LL,acs]
theorem acu:∀{l:List (TypeId×Nat)} {t m},HQ l t=some m->(t,m)∈l
 |p::l,t,m,h=>by
  simp[HQ]at h;split at h
  . grind[dN]
  . exact .tail _ (acu h)
theorem axk{P:Program}{l:List (TypeId×Nat)}(h:(l.all λp=>LL P U (HQ l) p.1 (U.eM p.2))=true):Cj P U (HQ l):=by
 intro e m he;rw[ik]at h;exact Zs (h _ (acu he))
theorem asX{st:TypeId->Option Nat}(ec:Cj P U st){n:Nat}{t e:TypeId}{eM:List aS}(ht:P.underlying t=some (.slice e))(h:flat P U st (n+1) t=some eM):
 ∃ty a dY,eM=[.slice ty]/\flat P U st dY e=some a/\a=ty.cells U/\1<=P.bytesOf e/\D1 a<=P.bytesOf e:=by
 simp[flat,ht]at h;split at h
 . rename_i m hm;split at h
   . rename_i ag;cases h;simp only[dM]at ag;exact⟨.nm m,U.eM m,60,rfl,ec e m hm,rfl,BA ag.1,BA ag.2⟩
   grind
 . split at h
   . grind
   . rename_i a aC;split at h
     . grind
     . rename_i ag;have m':1<=P.bytesOf e/\D1 a<=P.bytesOf e:=by simp_all
       split at h
       . rename_i ty;split at h
         . grind
         . rename_i a';cases h;refine⟨ty,[ty],n,rfl,aC,?_,m'⟩;cases ty<;>first|rfl|cases a'
       grind
theorem aba(mJ:U.Total){st:TypeId->Option Nat}(ec:Cj P U st):∀(fuel n:Nat) (t:TypeId) (cs:List Value) (x:DataW H×List MemPlace) (eM:List aS),
 DataW.trod enc P w 0 (λ_=>true) true fuel t cs=some x->flat P U st n t=some eM->(∀k,k∈x.1.weights P t->k<=reachBytes)->∃l,Rd U w eM cs l:=by
 intro fuel
 induction fuel with
 |zero=>simp_all[DataW.trod]
 |succ m ih=>
  intro n t cs x eM h aJ hw;cases n with
  |zero=>cases aJ
  |succ n=>
  have ahK:=aJ;simp only[flat]at aJ;split at aJ
  . rename_i hu;cases aJ;obtain⟨b,rfl,rfl⟩:=DataW.trod_bool hu h;exact⟨_,LK (.bool b) (.bool b)⟩
  . rename_i k hu;cases aJ;obtain⟨i,rfl,rfl,aAW⟩:=DataW.trod_int hu h;exact⟨_,LK (.int k i aAW) (.int k i)⟩
  . rename_i hu;cases aJ;obtain⟨s,rfl,rfl,hs⟩:=DataW.trod_string hu h;have h1:s.data.toList.length<=reachBytes:=hw _ (by simp[DataW.weights]);have aa:s.data.toList.length=s.size:=LX;refine⟨_,LK (.str s.data.toList h1) (.str s ?_)⟩
    grind[reachBytes,iQ]
  . rename_i e hu;obtain⟨ty,a,dY,rfl,aC,ahx,azg,PK⟩:=asX ec hu ahK;rcases DataW.trod_slice hu h with⟨rfl,rfl⟩|⟨cK,len,cap,elems,rest,j5,hm,rfl,rfl,_,AF,_,my,eU,_,_⟩
    . refine⟨_,LK (.slice ty [] (nj _) (by simp) (by simp)) ?_⟩;exact .slice [] none 0 0 0 0 (λ_ _=>default) (by simp) (by simp) (by simp) (by simp) (by simp) (by simp)
    . cases hm;have aE':(elems.length+rest.length)*P.bytesOf e<=reachBytes:=by
       simp_all[DataW.weights]
      have hlen:len<=reachBytes:=by
       have h1:elems.length+rest.length<=(elems.length+rest.length)*P.bytesOf e:=WQ _ azg;omega
      have JT:len*D1 a<=reachBytes:=by
       have h1:len*D1 a<=(elems.length+rest.length)*P.bytesOf e:=Nat.mul_le_mul (by omega) PK;omega
      have fe:∀i,i<len->∃Nj:ty.den U.D,∃kP,kP.length=P.cellsOf e/\(∀j,j<P.cellsOf e->w.cell? ((cK.add (i*P.cellsOf e)).add j)=kP[j]?)/\Rd U w a kP (ty.row U Nj):=by
       intro i ak;have ry:=eU i ak;have VC:elems[i]?=some elems[i]:=gQ (by omega);rw[VC]at ry;cases ay:w.cells? 0 (cK.add (i*P.cellsOf e)) (P.cellsOf e)with
       |none=>grind
       |some kP=>
        rw[ay]at ry;obtain⟨h1,aa⟩:=as9 ay
        obtain⟨l,aj⟩:=ih dY e kP _ a ry aC (λk hk=>hw k (by
         simp only[DataW.weights,hu,fz,ju];right;left
         exact YF (gO.2 ⟨elems[i],Hm _,rfl⟩) k hk))
        obtain⟨Nj,Qd⟩:=ai7 mJ (t:=ty) (by rw[aj.ty,ahx])
        grind
      obtain⟨xs,mD,ov⟩:=amY len fe;have b8:len≠0->P.cellsOf e=ty.sz U/\0<P.cellsOf e:=by
       intro b4;obtain⟨Nj,kP,h1,_,aA⟩:=fe 0 (by omega);have aU:=aA.rt.length;rw[aS.Xw,h1]at aU;exact⟨aU.symm,by rw[<-aU];exact aS.BR⟩
      have FV:len≠0->cK.spot=none:=by
       intro b4;obtain⟨Nj,kP,h1,aa,aA⟩:=fe 0 (by omega);have h0:=aa 0 (b8 b4).2;rw[gQ (by rw[h1];exact(b8 b4).2)]at h0;have bN:=(aa' h0).1
       simpa[Addr.add]using bN
      have pa:∀x,x∈xs->∃i:Nat,xs[i]?=some x/\i<len:=by
       intro x I;obtain⟨i,ak⟩:=WU.1 I
       grind
      refine⟨_,LK (t:= .slice ty) (x:=xs) (.slice ty xs (by omega) (by rw[mD];unfold aS.bytes;rw[<-ahx];exact JT) ?_) ?_⟩
      . intro x I c ay;obtain⟨i,ak,_⟩:=pa x I;obtain⟨kP,_,_,aA⟩:=ov i x ak;exact aA.wf c ay
      . have JT:(xs.map (ty.enc U)).length=len:=by simp[mD]
        rw[<-JT];refine .slice (xs.map (ty.enc U)) (some cK) cap (P.cellsOf e) cK.block cK.off (λi j=>(w.cell? ⟨cK.block,cK.off+i*P.cellsOf e+j,none⟩).getD default) (by omega) ?_ ?_ ?_ ?_ ?_
        . rw[JT];unfold reachBytes at hlen;unfold en;omega
        . intro r ai;obtain⟨x,I,rfl⟩:=gO.1 ai;obtain⟨i,_,ak⟩:=pa x I;rw[aS.CB];exact(b8 (by omega)).1.symm
        . intro b4;have aAd:len≠0:=by intro h0;apply b4;rw[<-List.length_eq_zero_iff];omega
          have:=FV aAd;rw[show cK=⟨cK.block,cK.off,cK.spot⟩from rfl,this]
        . intro i j ak aM;rw[JT]at ak;obtain⟨Nj,kP,h1,aa,aA⟩:=fe i ak;have aU:=aa j aM;rw[gQ (by omega)]at aU;have Wf:=FV (by omega);have aR:(cK.add (i*P.cellsOf e)).add j=⟨cK.block,cK.off+i*P.cellsOf e+j,none⟩:=aey Wf;rw[aR]at aU;exact⟨(aa' aU).2,by rw[aU];rfl⟩
        . intro i j r hF ai aiA;rw[BB,bV]at ai;obtain⟨x,I,rfl⟩:=ai;obtain⟨kP,h1,aa,aA⟩:=ov i x I;have ak:i<len:=by have:=(fv.1 I).1;omega
          rw[aS.Fq,BB,bV]at aiA;obtain⟨c,ay,rfl⟩:=aiA;obtain⟨v,aF,u6⟩:=aA.rt.get ay;have aM:j<P.cellsOf e:=by have:=(fv.1 aF).1;omega
          have aU:=aa j aM;have Wf:=FV (by omega);have aR:(cK.add (i*P.cellsOf e)).add j=⟨cK.block,cK.off+i*P.cellsOf e+j,none⟩:=aey Wf;rw[aR,aF]at aU;rw[aU];exact u6
  . rename_i fs hu;obtain⟨xs,j5,hm,rfl,aj,hlen,eU⟩:=DataW.trod_struct hu h;cases hm
    have:=abB (U:=U) (w:=w) (P:=P) (cs:=cs) (fs:=fs.toList) (off:=0) (λf PQ a aC=>by
     obtain⟨i,ak⟩:=WU.1 PQ;have hY:fs[i]?=some f:=by simpa using ak
     have az:=eU i f hY;have nM:i<xs.length:=by rw[hlen];exact(L7.1 hY).1
     rw[gQ nM]at az
     exact ih n f.type _ _ a az aC (λk hk=>hw k (by
      simp only[DataW.weights,hu]
      exact DataW.weights_mem_each (j:=i) (t:=f.type) (d:=xs[i].1) (by simp[hY]) (by simp[nM]) k hk))) aJ aj
    simpa using this
  . rename_i k e hu;split at aJ
    . cases aJ
    . rename_i a aC;split at aJ
      . cases aJ
      . rename_i ag;cases aJ;simp only[dM]at ag;have h1:=dN ag.1;have aa:=dN ag.2;obtain⟨xs,j5,hm,rfl,aj,hlen,eU⟩:=DataW.trod_array hu h;cases hm
        have:=afe (U:=U) (w:=w) (a:=a) (cs:=cs) k 0 (λi ak=>by
         have az:=eU i ak;rw[gQ (by omega)]at az
         obtain⟨l,aj⟩:=ih n e _ _ a az aC (λq aE=>hw q (by
          simp only[DataW.weights,hu]
          exact YF (gO.2 ⟨xs[i],Hm _,rfl⟩) q aE))
         rw[aa]at aj
         exact⟨l,by rw[kt];exact aj⟩) (by rw[aj,h1,kt])
        simpa using this
  . cases aJ
end
end
section
open Go Go.ChangeShapes Go.WideShapes Go.RowKit
variable {U:dC}
def isAgg(P:Program)(t:TypeId):Bool:=
 match P.underlying t with
 |some (.struct _)=>true
 |some (.array _ _)=>true
 |_=>false
def vi(P:Program)(U:dC)(st:TypeId->Option Nat):List TypeId->List gS->List aS->Bool
 |[],[],[]=>true
 |t::ts,.row m::sO,.nm j5::eM=>(Nat.beq m j5&&(isAgg P t&&LL P U st t (U.eM m)))&&vi P U st ts sO eM
 |t::ts,.c (.hole ty)::sO,zv::eM=>(aS.beq ty zv&&(!ty.F6&&(!isAgg P t&&LL P U st t [ty])))&&vi P U st ts sO eM
 |_,_,_=>false
section
variable {H:Type}{enc:TypeId×Value->H}{P:Program}{w:World}{φ:ea}
theorem alM{st:TypeId->Option Nat}:∀{oC:List TypeId} {sO:List gS} {eM:List aS},vi P U st oC sO eM=true->oC.length=eM.length
 |[],[],[],_=>rfl
 |[],[],_::_,h=>by cases h
 |[],_::_,_,h=>by cases h
 |_::_,[],_,h=>by cases h
 |_::_,HU::_,[],h=>by
  cases HU with
  |c x=>cases x<;>cases h
  |_=>cases h
 |t::ts,HU::sO,ty::eM,h=>by
  have:vi P U st ts sO eM=true:=by
   cases HU with
   |row m=>cases ty with
    |nm j5=>grind[vi]
    |_=>cases h
   |c x=>cases x with
    |hole ty=>grind[vi]
    |_=>cases h
   |_=>cases h
  simp[alM this]
theorem asb{b0:Nat}{r:Reach}{t:TypeId}{v:Value}(hs:isAgg P t=true)(h:Value.okWide P w r b0 t v):∃cs,v= .agg cs:=by
 grind[isAgg,Value.okWide]
theorem asc{b0:Nat}{r:Reach}{t:TypeId}{v:Value}(hs:isAgg P t=false)(h:Value.okWide P w r b0 t v):v.cells=#[v]:=by
 unfold isAgg at hs;unfold Value.okWide at h;have aa:Cell.okWide P w r b0 t v:=by grind
 cases v with
 |agg cs=>
  simp_all[Cell.okWide,Cell.ok]
 |_=>rfl
theorem amp{w:World}{S:dV}:∀{l:List (Cell U.D)} {vs:List Value},bk (λc v=>cl w S (Cell.enc U c) v) l vs->bk (bP φ w S) ((l.map bH.t).map bH.xR) vs
 |[],[],.nil=>.nil
 |c::l,v::vs,.cons h1 aa=>.cons h1 (amp aa)
theorem abb(mJ:U.Total)(φ:ea){st:TypeId->Option Nat}(ec:Cj P U st){b0:Nat}:∀(ts:List TypeId) (sO:List gS) (eM:List aS) (args:List Value) (bc:List (DataW H)) (ps:List MemPlace),
 vi P U st ts sO eM=true->(∀(j:Nat) t v,ts[j]?=some t->args[j]?=some v->Value.okWide P w .any b0 t v)->
 DataW.TrodAll enc P w 0 (λ_=>true) true ts args bc ps->(∀k,k∈DataW.weightsEach P ts bc->k<=reachBytes)->
 ∃(l:gE U) (xs:List (b9 U)),l.map Cell.ty=eM/\(∀c,c∈l->∀d,d∈c.ty.row U c.val->WF U d)/\pP sO l=(xs,[])/\(∀x,x∈xs->ke x=true)/\bk (cy φ w (Old w)) (xs.map iT) args
 |[],[],[],args,bc,ps,_,_,ht,_=>by
  obtain⟨rfl,rfl,rfl⟩:=trodAll_nil ht;exact⟨[],[],rfl,by simp,rfl,by simp,.nil⟩
 |t::ts,HU::sO,ty::eM,args,bc,ps,ar,aF,ht,hw=>by
  obtain⟨v,vs,d,gj,p,q,rfl,rfl,rfl,⟨fuel,h1⟩,aa⟩:=trodAll_cons ht;have eK:=aF 0 t v rfl rfl;have aiG:∀k,k∈d.weights P t->k<=reachBytes:=λk hk=>hw k (by simp_all[DataW.weightsEach,ju])
  have rest:=λP1=>abb mJ φ (st:=st) ec (b0:=b0) ts sO eM vs gj q P1 (λj t v aM Wn=>aF (j+1) t v (by grind) (by grind)) aa
   (λk hk=>hw k (by simp_all[DataW.weightsEach,ju]))
  unfold vi at ar;split at ar
  . grind
  . rename_i t0 aDC m aC9 j5 aDF aR bw e7;cases aR;cases bw;cases e7;simp only[dM]at ar;obtain⟨⟨hm,hs,aJ⟩,e5⟩:=ar;have sA:=dN hm;obtain⟨l,xs,nO,e4,PV,VS,JS⟩:=rest e5;obtain⟨cs,rfl⟩:=asb hs eK;obtain⟨ng,l8⟩:=aba mJ ec fuel 60 t _ _ _ h1 (Zs aJ) aiG;obtain⟨x,I⟩:=ai7 mJ (t:= .nm m) l8.ty
    refine⟨⟨.nm m,x⟩::l,.agg ((aS.row U (.nm m) x).map .t)::xs,by grind,?_,?_,?_,?_⟩
    . intro c ay;rcases fz.1 ay with rfl|ay
      . intro d av;exact l8.wf d (I▸av)
      grind
    . grind[pP,tu]
    . simp_all[fz,ke,bH.BQ]
    . refine .cons ?_ JS;have:=amp (φ:=φ) l8.rt;rw[<-I]at this;exact cy.agg (vs:=cs.toList) this
  . rename_i t0 aDC aDE aC9 zv aDF aR bw e7;cases aR;cases bw;cases e7;simp only[dM,L0]at ar;obtain⟨⟨hm,a',hs,aJ⟩,e5⟩:=ar;have sA:=aS.beq_eq hm;obtain⟨l,xs,nO,e4,PV,VS,JS⟩:=rest e5;rw[asc hs eK]at h1;obtain⟨ng,l8⟩:=aba mJ ec fuel 60 t _ _ _ h1 (Zs aJ) aiG
    match ng,l8 with
    |[],l8=>cases l8.ty
    |[⟨TE,x⟩],l8=>
     have Wh:TE=aDE:=by have:=l8.ty;grind
     subst Wh;refine⟨⟨TE,x⟩::l,.c (.t ⟨TE,x⟩)::xs,by grind,?_,?_,?_,?_⟩
     . intro c ay;rcases fz.1 ay with rfl|ay
       . intro d av;refine l8.wf d ?_;cases TE<;>first|exact av|cases a'
       grind
     . simp only[pP,tu,Fu,PV]
     . intro y ao;rcases fz.1 ao with rfl|ao
       . rfl
       grind
     . refine .cons ?_ JS;cases l8.rt with
       |cons aA aU=>exact .c aA
    |_::_::_,l8=>have:=l8.ty;simp at this
  grind
 |[],[],_::_,_,_,_,ar,_,_,_=>by cases ar
 |[],_::_,_,_,_,_,ar,_,_,_=>by cases ar
 |_::_,[],_,_,_,_,ar,_,_,_=>by cases ar
 |t::ts,HU::sO,[],_,_,_,ar,_,_,_=>by
  cases HU with
  |row m=>cases ar
  |c x=>cases x<;>cases ar
  |agg l=>cases ar
  |bn l=>cases ar
theorem bb.ajg:∀(ts:List aS) (l:gE U),l.map Cell.ty=ts->∃h:bb U.D ts,bb.cells U.D ts h=l
 |[],[],_=>⟨(),rfl⟩
 |[t],[⟨hF,x⟩],h=>by
  have:hF=t:=by grind
  subst this;exact⟨x,rfl⟩
 |t::u::r,⟨hF,x⟩::l,h=>by
  simp at h;obtain⟨h1,aa⟩:=h;subst h1;obtain⟨y,ao⟩:=bb.ajg (u::r) l (by grind);exact⟨(x,y),by show⟨hF,x⟩::bb.cells _ _ y=_;grind⟩
 |[],_::_,h=>by grind
 |_::_,[],h=>by grind
 |[_],_::_::_,h=>by grind
theorem h7.N4{D:Nat->Type}:∀{ts:List aS} {t:aS} (h:h7 D t ts),h7.dec D t ts (h7.cells D t ts h)=some h
 |[],t,x=>Cell.agf
 |u::r,t,x=>by
  unfold h7.dec h7.cells;simp[FG,Cell.agf];rw[h7.N4];rfl
theorem bb.N4{D:Nat->Type}:∀{ts:List aS} (h:bb D ts),bb.dec D ts (bb.cells D ts h)=some h
 |[],_=>rfl
 |_::_,h=>h7.N4 h
theorem bb.axH{D:Nat->Type}:∀{ts:List aS} {l:List (Cell D)},l.map Cell.ty=ts->∃h,bb.dec D ts l=some h:=by
 have go:∀(ts:List aS) (l:List _),l.map Cell.ty=ts->∃h:bb D ts,bb.cells D ts h=l:=by
  intro ts
  induction ts with
  |nil=>intro l h;cases l with
   |nil=>exact⟨(),rfl⟩
   |cons=>grind
  |cons t r ih=>
   intro l h;cases l with
   |nil=>grind
   |cons c l=>
    obtain⟨hF,x⟩:=c;simp at h;obtain⟨h1,aa⟩:=h;subst h1;obtain⟨y,ao⟩:=ih l aa;cases r with
    |nil=>
     cases l with
     |nil=>exact⟨x,rfl⟩
     |cons=>grind
    |cons u r=>exact⟨(x,y),by show⟨hF,x⟩::bb.cells D _ y=_;grind⟩
 intro ts l h;obtain⟨y,ao⟩:=go ts l h
 grind[bb.N4]
def Ok(U:dC)(ts:List aS)(h:bb U.D ts):Prop:=∀c,c∈bb.cells U.D ts h->∀d,d∈c.ty.row U c.val->WF U d
theorem awX{N:Nat}:da N ([]:bA U) []:=λb x h=>by cases h
theorem aez{N:Nat}{J:bA U}:∀{xs:List (b9 U)},(∀x,x∈xs->ke x=true)->bk (cn N J) xs (xs.map iT)
 |[],_=>.nil
 |x::xs,h=>.cons (GR (h x (by simp))).1 (aez λy ao=>h y (by grind))
theorem acv{k:Nat->Bool}:∀{xs:List (b9 U)},(∀x,x∈xs->ke x=true)->V.aP.V.e3 k (xs.map iT)=true
 |[],_=>rfl
 |x::xs,h=>by
  simp[V.aP.V.e3];exact⟨(GR (N:=0) (J:=[]) (h x (by simp))).2 k,acv λy ao=>h y (by grind)⟩
theorem aBl {f:Nat}{hb:List gS}{ts:List aS}{F:bb U.D ts->Option (bb U.D [.bool])}(mJ:U.Total)(hs:mm P ⟨f,hb,[],ts,.c (.hole .bool),[],[.bool],F⟩)
 (law:∀h:bb U.D ts,Ok U ts h->F h=some true){st:TypeId->Option Nat}(ec:Cj P U st){oC:List TypeId}(ar:vi P U st oC hb ts=true)
 {b0:Nat}{args:Array Value}{bc:List (DataW H)}{ps:List MemPlace}(aF:∀(j:Nat) t v,oC[j]?=some t->args[j]?=some v->Value.okWide P w .any b0 t v)
 (ht:DataW.TrodAll enc P w 0 (λ_=>true) true oC args.toList bc ps)(hw:∀k,k∈DataW.weightsEach P oC bc->k<=reachBytes):
 Calls P f args w λe w'=>e= .returned (.bool true)/\Below w.heap.size w w':=by
 obtain⟨l,xs,nO,e4,PV,VS,JS⟩:=abb mJ _ ec _ hb ts _ bc ps ar (λj t v aM Wn=>aF j t v aM (by grind)) ht hw;obtain⟨h,ab⟩:=bb.ajg ts l nO;have bF:=law h (λc ay d av=>e4 c (ab▸ay) d av)
 have lF:=hs h _ bF (xs.map iT) [] (by
  show bk _ (pP hb _).1 _
  grind[aez]) (by
  exact awX)
 have:=lF (λb=>(b,0)) _ w (λ_=>False) {blk:=λb x I=>(by cases I),inj:=λb bI x y I=>(by simp),st:=λb j ag=>ag} (λb x I=>by cases I) (λb x I=>by simp)
  (acv VS) _ JS
 refine this.mono λe w' ⟨v,r,bB,bC,J',N',he,⟨_,ai,_⟩,k',_,_,_,sx,_⟩=>?_
 cases ai with
 |c ay=>
  cases ay with
  |t c=>
   cases k' with
   |c FT=>
    cases FT;exact⟨he,sx.os,sx.tape,sx.output,sx.size,λk hk=>sx.block k hk (λh=>h)⟩
theorem asd {f:Func}{s:ChangeSpec}{fresh Mi again:Bool}{W q1:World}{args:Array Value}{v:Value}{bc gs:List (DataW H)}{before:List MemPlace}
 (hy:DataW.Whole enc P f.params.toList s.vars false W args.toList bc gs before)(ag:Below W.heap.size W q1)
 (hres:∀(b:Nat) (sp:Nat->Bool) (av:Bool),DataW.TrodAll enc P q1 b sp av f.resultTypes.toList (v.resultList f.resultTypes.size) (s.fn H (bc++gs)).results [])
 (l5:∀sp:Nat->Bool,(∀p∈before,sp p.block=true)->DataW.TrodAll enc P q1 0 sp true f.params.toList args.toList (s.fn H (bc++gs)).args before)
 (FW:∀sp:Nat->Bool,(∀p∈before,sp p.block=true)->DataW.TrodVars enc P q1 sp s.vars (s.fn H (bc++gs)).vars [])
 (ot:∀(j:Nat) (t:TypeId) (r:Value),f.resultTypes[j]?=some t->(v.resultList f.resultTypes.size)[j]?=some r->Value.okWide P q1 .any 0 t r):
 s.post enc P f false fresh Mi again W args v q1:=by
 have aV:=hy.lt;have hold:∀p∈before,(λb=>decide (b<W.heap.size)) p.block=true:=λp ar=>by grind
 refine⟨bc,gs,before,[],before,[],hy,hres _ _ _,l5 _ hold,FW _ hold,ag.frame _,λ_=>?_⟩;refine⟨ot,(s.fn H (bc++gs)).results++(s.fn H (bc++gs)).args,(s.fn H _).vars,before,⟨before,[],?_,FW _ (λ_ _=>rfl),by simp,?_,λh=>by grind⟩,λp ar _=>ar⟩
 . have:=trodAll_append (l5 _ (λ_ _=>rfl)) (hres 0 (λ_=>true) _)
   grind
 . intro b off ar;obtain⟨_,_,_,_,_,bq,_⟩:=hy;rw[World.frozen?_of_block (ag.block b (aV _ ar))];exact bq b _ ar
theorem aBm {f:Nat}{fn:Func}{s:ChangeSpec}{hb:List gS}{ts:List aS}{F:bb U.D ts->Option (bb U.D [.bool])}(mJ:U.Total)
 (hs:mm P ⟨f,hb,[],ts,.c (.hole .bool),[],[.bool],F⟩)
 (law:∀h:bb U.D ts,Ok U ts h->F h=some true){st:TypeId->Option Nat}(ec:Cj P U st)(ar:vi P U st fn.params.toList hb ts=true)
 {akx:TypeId}(hres:fn.resultTypes=#[akx])(htb:P.underlying akx=some .bool)(FW:s.vars=[])
 (hz:∀bc:List (DataW H),bc.length=ts.length->(s.fn H bc).results=[.lit (.bool true)]/\(s.fn H bc).args=bc/\(s.fn H bc).vars=[])
 (VT:(laidOutB P&&mapsRowed P)=true)(aAp:fn.params.toList.all (λt=>decide (t<P.types.size))=true)
 (AK:((List.range P.types.size).all λt=>match P.underlying t with|some (.slice e)=>decide (0<P.cellsOf e)|_=>true)=true)
 {W:World}{base:Nat}{args:Array Value}{bc gs:List (DataW H)}{before:List MemPlace}{fresh Mi again:Bool}
 (J8:∀(j:Nat) t v,fn.params[j]?=some t->args[j]?=some v->Value.okWide P W .any base t v)
 (hy:DataW.Whole enc P fn.params.toList s.vars false W args.toList bc gs before)
 (hk:(DataW.weightsEach P (fn.params.toList++s.plain.varTypes P) (bc++gs)).all (· <=reachBytes)=true):
 Calls P f args W λe q1=>∃v,e= .returned v/\s.post enc P fn false fresh Mi again W args v q1:=by
 have ahv:=hy;obtain⟨p,q,fr,mx,rfl,yS,cC⟩:=hy;rw[FW]at mx;obtain⟨rfl,rfl⟩:=trodVars_none mx;have aAS:s.plain.varTypes P=[]:=by show s.vars.filterMap _=[]<;>simp[FW]
 rw[aAS,BH,BH,ik]at hk;have hlen:bc.length=ts.length:=by
  have h1:∀{oC:List TypeId} {vs:List Value} {bc:List (DataW H)} {ps:List MemPlace},DataW.TrodAll enc P W 0 (λ_=>true) true oC vs bc ps->bc.length=oC.length:=by
   intro oC
   induction oC with
   |nil=>grind[trodAll_nil]
   |cons t r ih=>grind[trodAll_cons]
  grind[alM]
 obtain⟨nd,y3,aip⟩:=hz bc hlen;simp only[dM]at VT;have K:=kids_rows VT.1 VT.2;have b8:=slices_full_of P AK;refine(aBl mJ hs law ec ar (λj t v aM Wn=>J8 j t v (by grind) Wn) fr (λk pX=>by grind)).mono λe q1 ⟨he,ag⟩=>?_
 subst he;refine⟨_,rfl,asd ahv ag ?_ ?_ ?_ ?_⟩
 . intro b sp av;rw[BH,nd,hres];exact trodAll_cons_mk (shut_bool htb _) trodAll_mk0
 . intro sp FV;rw[BH,y3];have aV:=ahv.lt;have gk:=λt ht=>by simpa using ik.1 aAp t ht
   have go:∀ {oC:List TypeId} {vs:List Value} {bc:List (DataW H)} {ps:List MemPlace},(∀ t,t∈oC->t<P.types.size)->(∀ p∈ps,p.block<W.heap.size/\sp p.block = true)->
    DataW.TrodAll enc P W 0 (λ_=>true) true oC vs bc ps->DataW.TrodAll enc P q1 0 sp true oC vs bc ps:=by
    intro oC
    induction oC with
    |nil=>intro vs bc ps _ _ h;obtain⟨rfl,rfl,rfl⟩:=trodAll_nil h;exact trodAll_mk0
    |cons t r ih=>
     intro vs bc ps gk iC h;obtain⟨v,sQ,d,gj,a,b,rfl,rfl,rfl,⟨mY,h1⟩,aa⟩:=trodAll_cons h;refine⟨a,b,⟨mY,DataW.trod_stays K (λ{t e}=>b8 t e) (by intro ab;cases ab) (gk t (by simp)) h1 (λx I=>ag.same (iC x (by simp[I])).1) (λx I=>(iC x (by simp[I])).2)⟩,ih (λt ht=>gk t (by simp[ht])) (λx I=>iC x (by simp[I])) aa,rfl⟩
   rw[BH];exact go gk (λx I=>⟨aV x (by simp[I]),FV x (by simp[I])⟩) fr
 . intro sp FV;rw[BH,aip,FW];rfl
 . exact ok_one hres rfl (okWide_bool_mk htb _)
end
end
section
open Go
theorem nE{a b:Int}(h1: -9223372036854775808<=a+b)(aa:a+b<=9223372036854775807):bl .i64 a b=a+b:=by grind[bl,IntKind.wrap_i64]
theorem om{a b:Int}(h1: -9223372036854775808<=a-b)(aa:a-b<=9223372036854775807):gq .i64 a b=a-b:=by grind[gq,IntKind.wrap_i64]
theorem vu{a:Int}(h1: -9223372036854775808<=a)(aa:a<=9223372036854775807):cU .i64 a=a:=by grind[cU,IntKind.wrap_i64]
theorem bQ{k n:Nat}(h:k<n):bd (k:Int) n=true:=by grind[bd]
theorem b6(k:Nat):(k:Int).toNat=k:=lb k
theorem tW{a:Int}(h0:0<=a)(h1:a<18446744073709551616):IntKind.u64.wrap a=a:=by grind[IntKind.wrap_u64]
theorem qU{a:Nat}(h1:a<18446744073709551616):cU .u64 (a:Int)=a:=tW (by simp) (by omega)
theorem YL:(2:Nat)^64=18446744073709551616:=by rfl
theorem aeA{a b:Nat}(aC:a<18446744073709551616)(ag:b<18446744073709551616):BJ .u64 (a:Int) (b:Int)=((a ||| b:Nat):Int):=by
 have aAk:a ||| b<2^64:=Nat.or_lt_two_pow (by grind) (by grind);show IntKind.u64.wrap (BitVec.ofInt 64 _ ||| BitVec.ofInt 64 _).toNat=_
 grind[tW]
theorem aff{n c i:Nat}(h:n<2^i):n ||| (c*2^i)=n+c*2^i:=by rw[Nat.or_comm,Nat.mul_comm,<-Nat.two_pow_add_eq_or_of_lt h,Nat.add_comm]
theorem aub{b:Nat}(ag:b<256):NL .u8 (b:Int) 127=((b%128:Nat):Int):=by
 have e:(BitVec.ofInt 8 b &&& BitVec.ofInt 8 (127:Nat)).toNat=b%128:=by
  rw[Hx,Hx,BitVec.toNat_and,LZ,BC (by omega)];exact Nat.and_two_pow_sub_one_eq_mod b 7
 show IntKind.u8.wrap (BitVec.ofInt 8 _ &&& BitVec.ofInt 8 (127:Nat)).toNat=_
 grind[IntKind.wrap_u8]
theorem acw{a k:Nat}(hk:k<=64)(h:a*2^k<18446744073709551616):vq .u64 (a:Int) (k:Int)=((a*2^k:Nat):Int):=by
 grind[vq,IntKind.bits,tW]
theorem MC{a:Nat}(h:a<18446744073709551616):nW .u64 (a:Int) 2=((a/2:Nat):Int):=by
 grind[nW,tW]
theorem aCF{a b:Nat}:c5 (a:Int) (b:Int)=((a%b:Nat):Int):=by rfl
theorem WK{a b:Nat}(h:a*b<18446744073709551616):rE .u64 (a:Int) (b:Int)=((a*b:Nat):Int):=by
 grind[rE,tW]
theorem awY{a b:Int}(h1: -9223372036854775808<=a*b)(aa:a*b<=9223372036854775807):rE .i64 a b=a*b:=by grind[rE,IntKind.wrap_i64]
theorem agd{a b:Nat}(h:a+b<18446744073709551616):bl .u64 (a:Int) (b:Int)=((a+b:Nat):Int):=by
 grind[bl,tW]
theorem avY{a b:Nat}(h:a+b<=9223372036854775807):bl .i64 (a:Int) (b:Int)=((a+b:Nat):Int):=by grind[nE]
theorem c0{a:Nat}(h:a<9223372036854775807):bl .i64 (a:Int) 1=((a+1:Nat):Int):=by grind[nE]
theorem K3(s:List UInt8)(i:Nat):mR s (i:Int)=((s.getD i 0).toNat:Int):=by rfl
theorem Z4(s:List UInt8)(i:Nat):(s.getD i 0).toNat<256:=QH _
theorem CZ{α:Type}(l:List α)(k:Nat):hU l (k:Int) (l.length:Int)=l.drop k:=by simp[hU]
theorem G7{α:Type}(l:List α)(k:Nat):hU l 0 (k:Int)=l.take k:=by rfl
theorem uV{a b n:Nat}(h1:a<=b)(aa:b<=n):gW (a:Int) (b:Int) n=true:=by grind[gW]
theorem acx(a b:Nat):fV (a:Int) (b:Int)=((min a b:Nat):Int):=by grind[fV]
theorem e6{k n:Nat}(hk:k<=1000)(h:n<=100000):room k n=true:=by
 unfold room kJ en;simp;have:(2*n+192)*k<=200192*1000:=Nat.mul_le_mul (by omega) hk;omega
end
section
open Go Go.Proofs Go.Proofs.YtklfhpkljddjbaaGreatDoor Go.Sort Go.RowKit
variable {P:Program}{α:Type}[Inhabited α]
theorem anU(w:World)(blk:Nat)(f:Array Value->Array Value){b:Nat}(h:b≠blk):(mapBlock w blk f).heap[b]?=w.heap[b]?:=by simp[mapBlock,WS,eW h]
theorem apm(w:World)(blk:Nat)(f:Array Value->Array Value){c:Array Value}{E:TypeId}{PA:Nat×Nat}(h:w.heap[blk]?=some (.cells c E PA)):(mapBlock w blk f).heap[blk]?=some (.cells (f c) E PA):=by
 simp[mapBlock,WS,h,onCells]
theorem auc {f g k kk:Nat}(enc:α->List Value)(ru:α->List T)(F:Array α->Array α)(hk:∀x,(enc x).length=k)(sy:∀x,(ru x).length=k)(nc:0<k)
 (fG:∀(w:World) (S:dV) (x:α) (j:Nat) (t:T) (v:Value),(ru x)[j]?=some t->cl w S t v->(enc x)[j]?=some v)
 (bF:∀d:Array α,(F d).size=d.size/\∀x,x∈(F d).toList->x∈d.toList)
 (lF:∀(blk off cap:Nat) (d:Array α) (w:World),HoldsK enc k w blk off d->blk<w.heap.size->d.size<4611686018427387904->
  Calls P f #[.slice (some ⟨blk,off,none⟩) d.size cap,.func (.func g) #[] #[]] w λe w'=>e= .returned (.tuple #[])/\∃n os,w'=sortWorldK enc k w blk off n (F d) os)
 (V3:∀(p:Option Addr) (cap:Nat) (nH:Value) (w:World),Calls P f #[.slice p 0 cap,nH] w λe w'=>e= .returned (.tuple #[])/\w'=w)
 {J:br}{d:List α}(h0:bf J 0=some (.arr k (d.map ru)))(ct:0<kk):
 gf P f [.c (.arr 0 k 0 d.length),.c (.fn g [])] J kk (λr J' N'=>r= .bn []/\J'=ee J 0 (.arr k ((F d.toArray).toList.map ru))/\N'=kk):=by
 intro φ S w B iX fH wT j0 vs fP;cases fP with|cons aF fP=>
 cases fP with|cons wW fP=>
 cases fP;cases aF with|c aF=>
 cases wW with|c wW=>
 obtain⟨a,rfl,aC,hle⟩:=aF;have aAQ:_=Value.func (.func g) #[] #[]:=wW;subst aAQ;obtain⟨aj,kn,hlen,_,hblk⟩:=iX.blk 0 _ h0;rw[p3]at aj kn;obtain⟨b8,dx⟩:=bF d.toArray
 have fin:∀ w':World,Ext B S S w w'->xA φ w' S (ee J 0 (.arr k ((F d.toArray).toList.map ru)))->∃ v r bB bC J' N',Ending.returned (Value.tuple #[]) = Ending.returned v/\(r = V.bn []/\J' = ee J 0 (.arr k ((F d.toArray).toList.map ru))/\N' = kk)/\cy bB w' bC r v/\r.aP (lt N') = true/\xA bB w' bC J'/\(∀ (b:Nat) x,bf J' b = some x->b<N'/\x.aP (lt N') = true)/\Ext B S bC w w'/\
  (∀(b:Nat) x,bf J' b=some x->(bB b).2≠0->B (bB b).1\/w.heap.size<=(bB b).1)/\∀b,b<kk->bB b=φ b:=by
  intro w' fe aN;refine⟨_,.bn [],φ,S,_,kk,rfl,⟨rfl,rfl,rfl⟩,.bn [] [] rfl (by simp),rfl,aN,λb x I=>?_,fe,λb x I ag=>?_,λ_ _=>rfl⟩
  . rw[dX]at I;split at I
    . rename_i ag;cases I;subst ag;exact⟨ct,rfl⟩
    grind
  grind[dX]
 by_cases bq:(φ 0).2=0
 ·
  have av:d=[]:=rF (by omega);subst av;refine(V3 a _ _ w).mono ?_
  rintro e w' ⟨rfl,rfl⟩
  have he:(F ([]:List α).toArray).toList.map ru=([]:List α).map ru:=by grind
  refine fin _ Ext.refl ?_;rw[he];refine⟨λb x I=>?_,λb bI x y I ao=>?_,iX.st⟩
  . rw[dX]at I;split at I
    . rename_i ag;cases I;subst ag;exact iX.blk _ _ h0
    . exact iX.blk b x I
  . have key:∀b x,bf (ee J 0 (.arr k (([]:List α).map ru))) b=some x->∃cH,bf J b=some cH:=by
     intro b x I;rw[dX]at I
     grind
    obtain⟨cH,hB⟩:=key b x I;obtain⟨mM,l'⟩:=key bI y ao;exact iX.inj b bI cH mM hB l'
 . obtain⟨vs,E,ab,ou,ay,gv⟩:=hblk bq;rw[aC bq]
   have k0:∀(i j:Nat) (t:T) (x:α),d[i]?=some x->(ru x)[j]?=some t->∃v,vs[i*k+j]?=some v/\cl w S t v/\(enc x)[j]?=some v:=by
    intro i j t x ak aM;obtain⟨v,aF,ai⟩:=ay i j (ru x) t (by rw[BB,ak];rfl) aM
    grind
   have pT:(φ 0).1<w.heap.size:=by grind
   have ayT:HoldsK enc k w (φ 0).1 (0*k) d.toArray:=by
    intro j aM;rw[size_flatK]at aM;have o6:j<d.length*k:=by simpa using aM
    have ak:j/k<d.length:=(Nat.div_lt_iff_lt_mul nc).2 o6;have hm:j%k<k:=Nat.mod_lt _ nc;have I:d[j/k]?=some d[j/k]:=gQ ak;have wR:j%k<(ru d[j/k]).length:=by rw[sy];exact hm
    obtain⟨v,aF,_,he⟩:=k0 (j/k) (j%k) _ _ I (gQ wR);have azQ:j/k*k+j%k=j:=by rw[Nat.mul_comm];exact Nat.div_add_mod j k
    rw[azQ]at aF;refine⟨?_,by simp[World.frozen?,ab]⟩;rw[QK,kt,nB ab,aF,get_flatK _ _ _ _ aM]
    grind
   have az4:d.toArray.size<4611686018427387904:=by
    have:en=281474976710656:=rfl;simp;omega
   refine(lF (φ 0).1 (0*k) _ d.toArray w ayT pT az4).mono ?_
   rintro e w' ⟨rfl,n,os,rfl⟩
   have hold:∀b:Nat,b<w.heap.size->b≠(φ 0).1->(sortWorldK enc k w (φ 0).1 (0*k) n (F d.toArray) os).heap[b]?=w.heap[b]?:=by
    intro b ag b4;unfold sortWorldK putRowK putRow;rw[heap_grow_old _ _ (by simpa[mapBlock,Go.Sort.ahead]using ag),anU _ _ _ b4];rfl
   have yY:(sortWorldK enc k w (φ 0).1 (0*k) n (F d.toArray) os).heap[(φ 0).1]?=some (.cells (putCells id (0*k) (flatK enc k (F d.toArray)) vs.toArray).toList.toArray E (0,0)):=by
    unfold sortWorldK putRowK putRow;rw[heap_grow_old _ _ (by simpa[mapBlock,Go.Sort.ahead]using pT),apm (Go.Sort.ahead w n) _ _ (by exact ab)]
   have hm:jV w S _ S:=⟨λ_ _ h=>h,λb j h=>Bq (hold b (iX.st b j h) (λe=>gv j (e▸h))) j⟩
   refine fin _ ⟨rfl,rfl,rfl,?_,λb ag eF=>hold b ag (λe=>eF (e▸wT 0 _ h0 bq)),hm,λ_ _ h=>.inl h⟩ ⟨λb x I=>?_,λb bI x y I ao=>?_,λb j h=>?_⟩
   . unfold sortWorldK putRowK putRow;simp[grow,mapBlock,Go.Sort.ahead]
   . rw[dX]at I;split at I
     . rename_i ag;cases I;subst ag;refine⟨by simpa[b8]using aj,by simpa[b8]using kn,λe he=>?_,nc,λ_=>⟨_,E,yY,by simpa[putCells]using ou,λi j e t ak aM=>?_,gv⟩⟩
       . obtain⟨x,_,rfl⟩:=gO.1 he;exact sy x
       . rw[BB]at ak;cases Qd:(F d.toArray).toList[i]? with
         |none=>rw[Qd]at ak;cases ak
         |some x=>
          rw[Qd]at ak;have:e=ru x:=(w3 ak).symm;subst this;have I:x∈d:=by simpa using dx x (hp Qd)
          obtain⟨i0,CI,azq⟩:=la I;obtain⟨v,aF,ai,he⟩:=k0 i0 j t x (by rw[gQ CI,azq]) aM;refine⟨v,?_,cl.mono hm ai⟩;have aEL:j<k:=by rw[<-sy x];exact(fv.1 aM).1
          have VK:i<(F d.toArray).size:=by grind
          have aV:i*k+j<(F d.toArray).size*k:=by
           have:=hj k (show i+1<=(F d.toArray).size from VK)
           grind
          have u2:i*k+j<vs.length:=by
           rw[ou];refine pd aV (hj k ?_)
           grind
          have d1:(i*k+j)/k=i:=(blk_iff k i _ nc).1 ⟨by omega,by omega⟩;have d2:(i*k+j)%k=j:=by rw[Nat.mod_eq_sub_div_mul,d1];omega
          have aR:(F d.toArray)[i]! =x:=by grind
          have:(putCells id (0*k) (flatK enc k (F d.toArray)) vs.toArray).toList[i*k+j]?=some ((flatK enc k (F d.toArray))[i*k+j]!):=by
           rw[Mb];simp only[putCells,Array.getElem?_mapIdx];rw[show vs.toArray[i*k+j]?=some vs[i*k+j] by simp[u2]];simp[size_flatK,aV]
          rw[this,get_flatK _ _ _ _ aV,d1,d2,aR,List.getElem!_eq_getElem?_getD,he];rfl
     . rename_i ag;have wN:b≠0:=λe=>ag (by simp[e])
       refine dU.mono (n:=λ_=>true) hm (λ_ _=>rfl) rfl (by cases x<;>simp[ck.aP,C.ux]) (λVr=>hold _ ((iX.blk b x I).pg Vr) (iX.inj b 0 x _ I h0 wN Vr bq)) (iX.blk b x I)
   . have key:∀b x,bf (ee J 0 (.arr k ((F d.toArray).toList.map ru))) b=some x->∃cH,bf J b=some cH:=by
      intro b x I;rw[dX]at I
      grind
     obtain⟨cH,hB⟩:=key b x I;obtain⟨mM,l'⟩:=key bI y ao;exact iX.inj b bI cH mM hB l'
   . have:=iX.st b j h;unfold sortWorldK putRowK putRow;simp[grow,mapBlock,Go.Sort.ahead];omega
def qO(lt:α->α->Bool)(l:List α):List α:=(pdq lt l.toArray 0 l.length (Lib.bitLen l.length) true true).toList
theorem Y4{lt:α->α->Bool}(kT:SWO lt)(l:List α):(qO lt l).Perm l:=by
 obtain⟨⟨hs,_,ar⟩,_⟩:=pdq_sorts lt kT l.toArray 0 l.length (Lib.bitLen l.length) true true (nj _) (by simp) (Or.inl rfl)
 grind[Array.extract_size,qO]
theorem aqN{lt:α->α->Bool}(kT:SWO lt)(l:List α):(qO lt l).length=l.length:=(Y4 kT l).length_eq
theorem aqO{lt:α->α->Bool}(kT:SWO lt)(l:List α):(qO lt l).Pairwise λx y=>lt y x=false:=by
 obtain⟨⟨hs,_,_⟩,aN⟩:=pdq_sorts lt kT l.toArray 0 l.length (Lib.bitLen l.length) true true (nj _) (by simp) (Or.inl rfl);have b8:=aqN kT l;rw[Ht];intro i j ak aM VJ;have:=aN i j (nj _) VJ (by grind)
 grind[qO]
def Tq(U:dC)(f n g:Nat)(F:List (U.D n)->List (U.D n)):cY U:=
 ⟨f,[.c (.arr 0),.c (.fn g [])],[.arr (.nm n)],[.slice (.nm n)],.bn [],[.arr (.nm n)],[.slice (.nm n)],λ(l:List (U.D n))=>some (F l)⟩
theorem ab0 {U:dC}{f n g:Nat}[Inhabited (U.D n)](enc:U.D n->List Value)(lt:U.D n->U.D n->Bool)(kT:SWO lt)(hk:∀x,(enc x).length=(aS.nm n).sz U)
 (fG:∀(w:World) (S:dV) (x:U.D n) (j:Nat) (t:T) (v:Value),((aS.nm n).enc U x)[j]?=some t->cl w S t v->(enc x)[j]?=some v)
 (lF:∀(blk off cap:Nat) (d:Array (U.D n)) (w:World),HoldsK enc ((aS.nm n).sz U) w blk off d->blk<w.heap.size->d.size<4611686018427387904->
  Calls P f #[.slice (some ⟨blk,off,none⟩) d.size cap,.func (.func g) #[] #[]] w λe w'=>e= .returned (.tuple #[])/\∃ow os,w'=sortWorldK enc ((aS.nm n).sz U) w blk off ow (pdq lt d 0 d.size (Lib.bitLen d.size) true true) os)
 (V3:∀(p:Option Addr) (cap:Nat) (nH:Value) (w:World),Calls P f #[.slice p 0 cap,nH] w λe w'=>e= .returned (.tuple #[])/\w'=w):
 mm P (Tq U f n g (qO lt)):=by
 intro l r bF h' J1 aC aN;have ai:=(w3 bF).symm;subst ai;cases aC with|cons aC yN=>
 cases yN with|cons yN ay'=>
 cases ay';obtain⟨sz,m,rfl,_,azs⟩:=cn.kd aC;have:=cn.U6 yN;subst this;have ng:Shv.bh ((Tq U f n g _).nx l) 0=some _:=rfl;have av:=azs _ ng _ rfl;obtain⟨_,pt,g0,b0⟩:=aN 0 _ ng;cases b0;have aR:=(eL Prod.fst av).symm;have bw:=(eL Prod.snd av).symm;subst aR;subst bw
 have JY:∀d:Array _,(qO lt d.toList).Perm d.toList:=λd=>Y4 kT d.toList
 refine(auc enc _ (λd=>(qO lt d.toList).toArray) hk (λx=>aS.CB) aS.BR fG
  (λd=>⟨by simpa using(JY d).length_eq,λx I=>(JY d).mem_iff.1 (by grind)⟩) (λblk off cap d w h1 aa aA=>?_) V3 g0 Nat.one_pos).mono ?_
 . have:=lF blk off cap d w h1 aa aA
   simpa[qO]using this
 . rintro cc s1 rW ⟨rfl,rfl,rfl⟩
   refine⟨rfl,.bn [] [] rfl (by simp),λb x I=>?_⟩;generalize qO lt l=q at I⊢;have hB:(if b=0 then some (ds.arr (.nm n) q)else none)=some x:=by
    rw[<-I];cases b<;>rfl
   split at hB
   . rename_i ag;cases hB;subst ag;refine⟨Nat.one_pos,_,?_,.arr (.nm n) q⟩;rw[dX];rfl
   . cases hB
theorem ase(w:World)(S:dV)(i:Int)(s:List UInt8)(j:Nat)(t:T)(v:Value)(h:[T.int .i64 i,T.str s][j]?=some t)(ai:cl w S t v):[Value.int .i64 i,Value.string ⟨s.toArray⟩][j]?=some v:=by
 match j,h with
 |0,h=>cases h;cases ai;rfl
 |1,h=>cases h;cases ai;rfl
theorem avZ(key:α->Int):SWO (λx y=>decide (key x<key y)) where
 irrefl x:=by simp
 trans x y z h1 aa:=by grind
 ntrans x y z h1 aa:=by grind
end
section
open Go Go.Proofs Go.Proofs.YtklfhpkljddjbaaGreatDoor Go.Sort
def rU{α:Type}(a b:Option α):Prop:=∀r,a=some r->b=some r
theorem rU.r{α:Type}{a:Option α}:rU a a:=λ_ h=>h
theorem rU.n{α:Type}{a:Option α}:rU none a:=λ_ h=>by grind
theorem rU.b{α β:Type}{a b:Option α}{k cI:α->Option β}(h:rU a b)(hk:∀x,rU (k x) (cI x)):rU (a>>=k) (b>>=cI):=by
 intro r ai;cases a with
 |none=>grind
 |some x=>rw[h x rfl];exact hk x r ai
theorem rU.i{α:Type}{p:Prop}[Decidable p]{a b c d:Option α}(h:rU a c)(k:rU b d):rU (if p then a else b) (if p then c else d):=by grind
variable {α:Type}[Inhabited α]
def wZ(lt:α->α->Bool)(x:α):List α->List α
 |[]=>[x]
 |y::r=>if lt x y then x::y::r else y::wZ lt x r
def lJ(lt:α->α->Bool):List α->List α
 |[]=>[]
 |x::r=>wZ lt x (lJ lt r)
def rl(lt:α->α->Bool):List α->Bool
 |[]=>true
 |x::r=>r.all (λy=>lt x y||lt y x)&&rl lt r
theorem Z5(lt:α->α->Bool)(x:α):∀l,(wZ lt x l).Perm (x::l)
 |[]=>.refl _
 |y::r=>by
  simp[wZ];split
  . rfl
  . exact((Z5 lt x r).cons y).trans (.swap x y r)
theorem uM(lt:α->α->Bool):∀l,(lJ lt l).Perm l
 |[]=>.refl _
 |x::r=>(Z5 lt x _).trans ((uM lt r).cons x)
theorem amZ{lt:α->α->Bool}(kT:SWO lt)(x:α):∀{l:List α},l.Pairwise (λx y=>lt y x=false)->(wZ lt x l).Pairwise λx y=>lt y x=false
 |[],_=>by simp[wZ]
 |y::r,h=>by
  rw[nh]at h;simp[wZ];split
  . rename_i u';have aA0:lt y x=false:=by
     cases ay:lt y x with
     |false=>rfl
     |true=>have:=kT.trans _ _ _ u' ay;rw[kT.irrefl]at this;grind
    rw[nh];refine⟨λz bq=>?_,nh.2 h⟩;rcases fz.1 bq with rfl|bq
    . grind
    . exact kT.ntrans _ _ _ (h.1 z bq) aA0
  . rw[nh];refine⟨λz bq=>?_,amZ kT x h.2⟩;rcases fz.1 ((Z5 lt x r).mem_iff.1 bq)with rfl|bq
    . grind
    grind
theorem Zt{lt:α->α->Bool}(kT:SWO lt):∀l:List α,(lJ lt l).Pairwise λx y=>lt y x=false
 |[]=>.nil
 |x::r=>amZ kT x (Zt kT r)
theorem amq{lt:α->α->Bool}:∀{l:List α},rl lt l=true->∀a b,a∈l->b∈l->a=b\/lt a b=true\/lt b a=true
 |x::r,h,a,b,aC,ag=>by
  simp[rl]at h;rcases fz.1 aC with Pt|ay9<;>rcases fz.1 ag with Pu|m'
  . grind
  . grind
  . grind
  . exact amq h.2 a b ay9 m'
theorem arU{lt:α->α->Bool}{l:List α}(ar:rl lt l=true):∀{a b:List α},a.Perm l->b.Perm l->a.Pairwise (λx y=>lt y x=false)->b.Pairwise (λx y=>lt y x=false)->a=b:=by
 intro a b aC ag h1 aa;refine List.Perm.eq_of_pairwise (λx y I ao aA aU=>?_) h1 aa (aC.trans ag.symm)
 grind[amq]
theorem aeB{lt:α->α->Bool}(kT:SWO lt){l:List α}(ar:rl lt l=true):qO lt l=lJ lt l:=
 arU ar (Y4 kT l) (uM lt l) (aqO kT l) (Zt kT l)
def Tp(lt:α->α->Bool)(l:List α):Option (List α):=if rl lt l=true then some (lJ lt l)else none
theorem ab1{lt:α->α->Bool}(kT:SWO lt)(l:List α):rU (Tp lt l) (some (qO lt l)):=by
 intro r h
 grind[Tp,aeB]
end
section
open Go
def fR(x:Int×Int):Value:= .agg #[.int .i64 x.1,.int .i64 x.2]
structure sY (P:Program)(mt:TypeId):Prop where
 ex:∃gV tT it i tS,P.underlying mt=some (.map gV tT)/\P.underlying gV=some (.array 2 it)/\P.underlying it=some (.int .i64)/\P.info? it=some i/\i.size=1/\P.info? tT=some tS/\tS.zero=some (.bool false)
def j1(ks:List (Int×Int))(x:Int×Int):Bool:=ks.any λk=>decide (k=x)
def r0(ks:List (Int×Int))(x:Int×Int):List (Int×Int):=if j1 ks x=true then ks else ks++[x]
def mg:List (Int×Int)->List MapEntry->Prop:=bk λk e=>e.key=fR k/\e.val= .bool true
def rm(es:List MapEntry)(cZ:Nat):Prop:=(∀e,e∈es->e.born<cZ)/\(es.map (·.born)).Nodup
section
variable {P:Program}{w:World}{gV it:TypeId}{i:TypeInfo}
theorem asf(ak:P.underlying it=some (.int .i64))(w:World):(Go.isAgg it).run P w= .ok false w:=by
 simp[Go.isAgg,underlying,ak]
theorem aud(hk:P.underlying gV=some (.array 2 it))(ak:P.underlying it=some (.int .i64))(jH:P.info? it=some i)(hs:i.size=1)(x y:Int×Int)(w:World):
 (Op.equal gV (fR x) (fR y)).run P w= .ok (decide (x=y)) w:=by
 obtain⟨d,av⟩:∃d,Op.maxDepth=d+2:=⟨9998,rfl⟩
 have ay:P.cellsOf it=1:=by grind[Program.cellsOf]
 have VP:y6 P it=some 1:=by grind[y6]
 unfold Op.equal;rw[av];unfold fR;rw[run_equalIn_array w (d+1) _ _ hk jH,ay,List.range_eq_range'];have:=X8 (P:=P) (φ:=λ_=>(0,0)) (S:=λ_ _=>False) (w:=w) (d:=d) VP (m:=2) (i:=0)
  (ps:=[.t (.int .i64 x.1),.t (.int .i64 x.2)]) (qs:=[.t (.int .i64 y.1),.t (.int .i64 y.2)]) (vs:=[.int .i64 y.1,.int .i64 y.2]) (r:=decide (x=y))
  (by
   obtain⟨a,b⟩:=x;obtain⟨c,e⟩:=y
   simp_all[List.replicate,sr,Jp,dc,aK,sH,fa,fu])
  (.cons (cl.int _ _) (.cons (cl.int _ _) .nil)) (.cons (cl.int _ _) (.cons (cl.int _ _) .nil)) rfl rfl
 grind
theorem Ru(hk:P.underlying gV=some (.array 2 it))(ak:P.underlying it=some (.int .i64))(jH:P.info? it=some i)(hs:i.size=1)(b:Bool)(x:Int×Int)(w:World):
 (Instr.checkKey b 10000 gV (fR x)).run P w= .ok () w:=by
 have bq:∀w,(sizeOf it).run P w= .ok 1 w:=λw=>by simp_all[sizeOf,typeInfo]
 have ay:∀v w,(Instr.checkKey b 9999 it v).run P w= .ok () w:=λv w=>by
  unfold Instr.checkKey;simp[run_underlying ak]
 unfold Instr.checkKey;simp[run_underlying hk,fR];simp[List.range',bq,part,asf ak,ay]
theorem ama(hk:P.underlying gV=some (.array 2 it))(ak:P.underlying it=some (.int .i64))(jH:P.info? it=some i)(hs:i.size=1)(x:Int×Int)(w:World):∀{ks:List (Int×Int)} {es:List MapEntry} (n:Nat),mg ks es->
 (j1 ks x=false/\(Instr.findAsking gV (fR x) es n).run P w= .ok none w)\/
 (j1 ks x=true/\∃j e,(Instr.findAsking gV (fR x) es n).run P w= .ok (some (n+j,.bool true)) w/\es[j]?=some e/\e.key=fR x/\e.val= .bool true)
 |_,_,n,.nil=>.inl ⟨rfl,by rfl⟩
 |k::ks,e::es,n,.cons h ai=>by
  have he:(Op.equal gV (fR x) e.key).run P w= .ok (decide (x=k)) w:=by grind[aud]
  by_cases jo:x=k
  . simp_all[j1,Instr.findAsking]
  . rcases ama hk ak jH hs x w (n+1) ai with⟨g1,g2⟩|⟨g1,j,c7,g2,g3,g4,g5⟩
    . refine .inl ⟨?_,by simp_all[Instr.findAsking]⟩
      grind[j1]
    . refine .inr ⟨?_,j+1,c7,?_,by grind,g4,g5⟩
      . simp_all[j1,List.any_cons,L6]
      . simp only[Instr.findAsking,Sem.run_bind,he,jo,gL,Result.andThen_ok,dK,dB,g2]
        grind
theorem abC(hk:P.underlying gV=some (.array 2 it))(ak:P.underlying it=some (.int .i64))(jH:P.info? it=some i)(hs:i.size=1)(x:Int×Int)(w:World){ks:List (Int×Int)}{es:List MapEntry}(h:mg ks es):
 (j1 ks x=false/\(Instr.findKey gV (fR x) es).run P w= .ok none w)\/
 (j1 ks x=true/\∃j e,(Instr.findKey gV (fR x) es).run P w= .ok (some (j,.bool true)) w/\es[j]?=some e/\e.key=fR x/\e.val= .bool true):=by
 cases h with
 |nil=>exact .inl ⟨rfl,by simp[Instr.findKey,run_underlying hk,Instr.findNow]⟩
 | @cons k e ks es h1 ai=>
  have a':Instr.findNow (.array 2 it) (fR x) (e::es) 0=none:=by
   rfl
  have:=ama hk ak jH hs x w 0 (.cons h1 ai);simp_all[Instr.findKey,run_underlying]
theorem as'{mt:TypeId}(hm:sY P mt){r:Nat}{es:Array MapEntry}{cZ:Nat}(ab:w.heap[r]?=some (.map es cZ)){ks:List (Int×Int)}(h:mg ks es.toList)(x:Int×Int):
 (Instr.lookup mt (.map (some r)) (fR x) false).run P w= .ok (.bool (j1 ks x)) w:=by
 obtain⟨gV,tT,it,i,tS,hu,hk,ak,jH,hs,aF,bq⟩:=hm.ex;have jI:(zeroValue tT).run P w= .ok (.bool false) w:=by simp_all [zeroValue,typeInfo]
 rcases abC hk ak jH hs x w h with⟨g1,g2⟩|⟨g1,j,e,g2,_⟩
 . simp[Instr.lookup,run_underlying hu,AV ab,Ru hk ak jH hs,g2,jI,g1]
 . simp[Instr.lookup,run_underlying hu,AV ab,Ru hk ak jH hs,g2,g1]
theorem abc{mt:TypeId}(hm:sY P mt){r:Nat}{es:Array MapEntry}{cZ:Nat}(ab:w.heap[r]?=some (.map es cZ)){ks:List (Int×Int)}(h:mg ks es.toList)(ag:rm es.toList cZ)(x:Int×Int):
 ∃gJ jZ,(Instr.mapUpdate mt (.map (some r)) (fR x) (.bool true)).run P w= .ok () {w with heap:=w.heap.setIfInBounds r (.map gJ jZ)}/\mg (r0 ks x) gJ.toList/\rm gJ.toList jZ:=by
 obtain⟨gV,tT,it,i,tS,hu,hk,ak,jH,hs,aF,bq⟩:=hm.ex;rcases abC hk ak jH hs x w h with⟨g1,g2⟩|⟨g1,j,e,g2,g3,g4,g5⟩
 . refine⟨es.push {key:=fR x,val:= .bool true,born:=cZ},cZ+1,?_,?_,?_,?_⟩
   . simp[Instr.mapUpdate,run_underlying hu,AV ab,Ru hk ak jH hs,g2,RG _ ab]
   . simp only[r0,g1,dK,dB,W0];exact h.append (.cons ⟨rfl,rfl⟩ .nil)
   . intro e he;simp only[W0,ju,ve]at he;rcases he with he|rfl
     . have:=ag.1 e he;omega
     simp
   . simp only[W0,BG,p4,Bz];rw[List.nodup_append];refine⟨ag.2,by simp,?_⟩;intro a aC c ay;simp at ay;obtain⟨e,he,rfl⟩:=gO.1 aC;have:=ag.1 e he;omega
 . refine⟨es.modify j λe=>{e with key:=fR x,val:= .bool true},cZ,?_,?_,?_,?_⟩
   . have fH:Instr.sameBits 10000 (fR x) (fR x)=true:=by simp[fR,Instr.sameBits]
     have jo:∀w,(Instr.keyThatStays (fR x) (fR x)).run P w= .ok (fR x) w:=by simp_all[Instr.keyThatStays]
     simp[Instr.mapUpdate,run_underlying hu,AV ab,Ru hk ak jH hs,g2,RG _ ab,g4,jo,show es[j]?=some e by grind]
   . simp only[r0,g1,dc];rw[QA];refine bk.modify h λcI c7 azT jF=>?_
     grind
   . intro c7 jF;rw[QA]at jF;obtain⟨n,a',rfl⟩:=Hy.1 jF;rw[List.length_modify]at a';have:=ag.1 es.toList[n] (Hm a')
     grind
   . have:(es.modify j λe=>{e with key:=fR x,val:= .bool true}).toList.map (·.born)=es.toList.map (·.born):=by
      rw[QA];refine W2 (by simp) λn h1 aa=>?_
      grind
     rw[this];exact ag.2
end
end
section
open Go
variable {U:dC}{P:Program}{nt:Nat}{aG:Ctx}
section
variable {φ bB:ea}{S bC:dV}{env env':Env}{J J':br}{n dY:Nat->Bool}{N k:Nat}{a cx:Act}{w w':World}
def Ctx.zk(w:World)(S:dV)(φ:ea)(J:br)(k:Nat):Ctx:=⟨w,S,λb=>∃c x,bf J c=some x/\(φ c).2≠0/\b=(φ c).1,φ,k⟩
theorem Rel.zk(R:Rel aG nt φ S env J (lt N) a w)(hk:k<=N):Rel (Ctx.zk w S φ J k) nt φ S env J (lt N) a w:=
 ⟨R.b',R.jE,R.kQ,R.jD,R.eX,R.size,R.defers,Ext.refl,λb x I h0=>.inl ⟨b,x,I,h0,rfl⟩,λ_ _=>rfl,λb ag=>by
  have:b<k:=ag
  grind[lt]⟩
theorem Rel.un(R:Rel aG nt φ S env J n a w)(R':Rel (Ctx.zk w S φ J k) nt bB bC env' J' dY cx w')(hk:aG.k<=k):Rel aG nt bB bC env' J' dY cx w':=by
 have e:=R'.ext;have own:∀b,(Ctx.zk w S φ J k).B b->aG.B b\/aG.oE.heap.size<=b:=λb ⟨c,x,I,h0,ag⟩=>ag▸R.own c x I h0
 refine⟨R'.b',R'.jE,R'.kQ,R'.jD,R'.eX,R'.size,R'.defers,⟨e.os.trans R.ext.os,e.tape.trans R.ext.tape,e.output.trans R.ext.output,jJ R.ext.size e.size,λb aV eF=>?_,R.ext.mono.trans e.mono,λb j aM=>?_⟩,λb x I h0=>?_,λb ag=>?_,λb ag=>R'.j4 b (pd ag hk)⟩
 . refine(e.block b (pd aV R.ext.size) λh=>?_).trans (R.ext.block b aV eF)
   grind
 . rcases e.rO b j aM with h|h|h
   . exact R.ext.rO b j h
   . grind
   . exact .inr (.inr (jJ R.ext.size h))
 . rcases R'.own b x I h0 with h|h
   . grind
   . exact .inr (jJ R.ext.size h)
 . exact(R'.fix b (pd ag hk)).trans (R.fix b ag)
theorem Rel.enter{args:List V}{vs:List Value}(aF:bk (cy φ w S) args vs)(ag:V.aP.V.e3 (lt N) args=true)(ec:∀b j,S b j->b<w.heap.size)(a':args.length<=nt):
 Rel ⟨w,S,λ_=>False,φ,0⟩ nt φ S (ie 0 args) [] (lt N) {tmps:=vs.toArray++Array.replicate (nt-vs.toArray.size) undef,defers:=[]} w:=by
 have aj:=aF.length;refine⟨⟨λb x I=>by grind[bf],λb bI x y I=>by grind[bf],ec⟩,λi g v hZ az=>?_,λi g v hZ az=>?_,λi g v hZ az=>?_,λb x I=>by grind[bf],?_,rfl,Ext.refl,λb x I=>by grind[bf],λ_ _=>rfl,λb ag=>absurd ag (L2 _)⟩
 . obtain⟨_,j,rfl,aM⟩:=Dm hZ;obtain⟨x,I,ai⟩:=aF.get aM
   grind
 . grind[Dm]
 . grind[Dm,uN]
 grind
end
abbrev EV(U:dC):=cj U×bA U×Nat
structure db (aG:Ctx)(nt:Nat)(gs:List Nat)(s:EV U)(φ:ea)(S:dV)(a:Act)(w:World):Prop where
 ex:∃env1 J1,dT s.2.2 s.2.1 (λ_=>true) s.1 env1/\da s.2.2 s.2.1 J1/\Rel aG nt φ S env1 J1 (lt s.2.2) a w/\∀b x,bf J1 b=some x->(φ b).2≠0->(φ b).1 ∉ gs
 fM:∀g,g∈gs->g<w.heap.size/\∀j,¬S g j
section
variable {φ:ea}{S bC:dV}{gs:List Nat}{s:EV U}{zA:cj U}{xs:bA U}{N kk:Nat}{a:Act}{w w':World}
structure Cg (gs:List Nat)(kk:Nat)(φ:ea)(w:World)(bB:ea)(w':World):Prop where
 fix:∀b,b<kk->bB b=φ b
 ar:∀g,g∈gs->w'.heap[g]?=w.heap[g]?
theorem db.next {bB:ea}{env1 cT:Env}{J1 bM:br}{cx:Act}{s':EV U}(fM:∀g,g∈gs->g<w.heap.size/\∀j,¬S g j)(R:Rel aG nt φ S env1 J1 (lt N) a w)(az:∀b x,bf J1 b=some x->(φ b).2≠0->(φ b).1 ∉ gs)
 (R':Rel (Ctx.zk w S φ J1 kk) nt bB bC cT bM (lt s'.2.2) cx w')(hk:aG.k<=kk)(he:dT s'.2.2 s'.2.1 (λ_=>true) s'.1 cT)(aN:da s'.2.2 s'.2.1 bM):db aG nt gs s' bB bC cx w'/\Cg gs kk φ w bB w':=by
 have sK:∀g,g∈gs->¬(Ctx.zk w S φ _ kk).B g:=λg h ⟨c,x,I,h0,ag⟩=>az c x I h0 (ag▸h)
 refine⟨⟨⟨cT,bM,he,aN,R.un R' hk,λb x I h0 hm=>?_⟩,λg h=>⟨pd (fM g h).1 R'.ext.size,λj aM=>?_⟩⟩,R'.fix,λg h=>R'.ext.block g (fM g h).1 (sK g h)⟩
 . rcases R'.own b x I h0 with h|h
   . grind
   . exact absurd (fM _ hm).1 (Nat.not_lt.2 h)
 . rcases R'.ext.rO g j aM with bg|bg|bg
   . exact(fM g h).2 j bg
   . grind
   . exact absurd (fM g h).1 (Nat.not_lt.2 bg)
theorem db.piece (T:db aG nt gs s φ S a w){fo:iL U}(dH:iM P fo){code:Code}{ac:eY}(ay:resolve P nt code=some ac)(ct:kk<=s.2.2)(hk:aG.k<=kk){outs:List n1}{o:gg U outs}
 (I:qV fo (λ_=>none) kk ac 0 s.1 s.2.1 s.2.2 (w4 kk outs)=some o):
 code.wp P (λe cx w'=>e=(im outs o).1/\∃bB bC,db aG nt gs (im outs o).2 bB bC cx w'/\Cg gs kk φ w bB w') a w:=by
 obtain⟨⟨env1,J1,he,aN,R,az⟩,fM⟩:=T
 have h:=c9.akE (AQ (Q:=Ch kk λe env J N=>e=(im _ o).1/\N=(im _ o).2.2.2/\dT N _ _ _ _/\da N _ J) dH jU.none I he aN ct Ch.xO λe env' J' N' cT bM h1 aa aA aU=>by
  obtain⟨aR,s1,bD,bJ,c1,gr,hv⟩:=ue.ajj.W' h1 aa aA aU
  exact⟨_,aR,s1,bD,hv,rfl,bJ,c1⟩) _ ay _ φ S a w rfl (R.zk ct)
 refine wp_mono h ?_
 rintro e cx w' ⟨bB,bC,cT,bM,N',⟨h1,rfl,aa,aA⟩,R'⟩
 exact⟨h1,bB,bC,db.next fM R az R' hk aa aA⟩
theorem ab2{kk:Nat}{aG:Ctx}(ct:aG.k=kk){ops:Array Oper}{rest:List Nat}{Q:Exit->Act->World->Prop}{K:Env->br->Nat->Prop}:∀{l:List Oper} {bp:List cF} {k N:Nat} {env:Env} {J:br} {φ:ea} {S:dV} {a:Act} {w:World},kH P nt ops l=some bp->(∀i:Nat,i<l.length->l[i]?=ops[k+i]?)->
 Rel aG nt φ S env J (lt N) a w->vJ P kk bp N env J (λe s=>K e s (N+16*bp.length))->(∀φ S e s N a w,K e s N->Rel aG nt φ S e s (lt N) a w->wpOps P ops Q rest a w)->wpOps P ops Q (List.range' k l.length++rest) a w
 |[],bp,k,N,env,J,φ,S,a,w,ai,ak,R,h,e1=>by
  simp[kH]at ai;subst ai;exact e1 _ _ _ _ _ _ _ h R
 |o::l,bp,k,N,env,J,φ,S,a,w,ai,ak,R,h,e1=>by
  simp[kH,bK,bV]at ai;obtain⟨eo,oq,q3,CG,rfl⟩:=ai;have aO:ops[k]?=some o:=by have:=ak 0 (by simp);grind
  rw[lf,QE,Ed,wpOps_cons];unfold wpOp;obtain⟨ie,cO,yR,mC⟩:=h;obtain⟨sW,zG,Ci⟩:=yR aG nt φ S a w ct R;have hs:=Zp Ci oq (K:=λe s=>vJ P kk q3 _ e s λe s=>K e s (N+16*(q3.length+1))) mC (Q:=Q)
  have next:∀cx w',pz aG nt (gC (lt N) N) (λe s=>vJ P kk q3 (N+16) e s λe s=>K e s (N+16*(q3.length+1))) cx w'->wpOps P ops Q (List.range' (k+1) l.length++rest) cx w':=by
   rintro cx w' ⟨bB,bC,e,s,cq,R'⟩
   refine ab2 ct CG (λi aV=>?_) (R'.more λ_ h=>Tk h) ?_ e1
   . have:=ak (i+1) (by grind)
     grind
   grind
  grind[Oper.wp_mono]
theorem db.ops (T:db aG nt gs s φ S a w){fo:iL U}(dH:iM P fo){ops:Array Oper}{rest:List Nat}{Q:Exit->Act->World->Prop}(k:Nat){l:List Oper}{bp:List cF}(ai:kH P nt ops l=some bp)(ak:∀i:Nat,i<l.length->l[i]?=ops[k+i]?)(ct:kk<=s.2.2)(hk:aG.k<=kk)
 {sh:Shape}{ts:List aS}{h:bb U.D ts}(I:wE fo none bp s.2.2 [] [] s.1 s.2.1 (λgl env J=>sS kk [] sh ts (DZ gl env) J (s.2.2+16*bp.length))=some h)
 (e1:∀bB bC cx w',db aG nt gs ((iA U sh (bb.cells U.D ts h)).1,(iA U sh (bb.cells U.D ts h)).2,sh.st.length) bB bC cx w'->Cg gs kk φ w bB w'->wpOps P ops Q rest cx w'):wpOps P ops Q (List.range' k l.length++rest) a w:=by
 obtain⟨⟨env1,J1,he,aN,R,az⟩,fM⟩:=T;refine ab2 rfl (K:=λaR s1 N'=>∃env' J',N'=s.2.2+16*bp.length/\sS kk [] sh ts env' J' N'=some h/\dT N' J' (λ_=>true) env' aR/\da N' J' s1) ai ak (R.zk ct) (Rf dH (gF.begin he aN) I λmw nT env' J' cT bM px h1 aa=>?_) ?_
 . exact⟨_,_,rfl,h1,aa.clean,aa.f'⟩
 . rintro bB bC aR s1 N' cx w' ⟨env',J',rfl,h1,aa,aA⟩ R'
   obtain⟨bw,s2,bD,bJ,c1,gr⟩:=G1 h1 aa aA (by omega);obtain⟨pw,q0,eI⟩:=bD _ nt _ bC cx w' rfl R';obtain⟨aEp,aFz⟩:=db.next (s':=((iA U sh _).1,(iA U sh _).2,sh.st.length)) fM R az eI hk bJ c1
   grind
theorem db.goto(T:db aG nt gs s φ S a w)(kk:Nat){sh:Shape}{ts:List aS}{h:bb U.D ts}(I:sS kk [] sh ts s.1 s.2.1 s.2.2=some h)(ct:Nat.ble kk s.2.2=true:=by rfl)(hk:aG.k<=kk:=by exact nj _):
 ∃bB bC,db aG nt gs ((iA U sh (bb.cells U.D ts h)).1,(iA U sh (bb.cells U.D ts h)).2,sh.st.length) bB bC a w/\Cg gs kk φ w bB w:=by
 obtain⟨⟨env1,J1,he,aN,R,az⟩,fM⟩:=T;obtain⟨bw,s2,bD,bJ,c1,gr⟩:=G1 I he aN (kK ct);obtain⟨pw,q0,eI⟩:=bD _ nt φ S a w rfl (R.zk (kK ct));exact⟨pw,q0,db.next fM R az eI hk bJ c1⟩
theorem db.slot(T:db aG nt gs s φ S a w){k:Nat}{v:b9 U}(hk:bh s.1 k=some v):∃x v1,a.tmps[k]?=some x/\cn s.2.2 s.2.1 v v1/\cy φ w S v1 x/\v1.aP (lt s.2.2)=true:=by
 obtain⟨⟨env1,J1,he,aN,R,az⟩,fM⟩:=T;obtain⟨v1,h1,aa⟩:=he k v hk;obtain⟨x,aA,aU⟩:=R.jE k _ v1 h1 rfl;exact⟨x,v1,aA,aa,aU,R.jD k _ v1 h1 rfl⟩
theorem db.ptr(T:db aG nt gs s φ S a w){k b o:Nat}(hk:bh s.1 k=some (.c (.ptr b o))):a.tmps[k]?=some (.pointer (some ⟨(φ b).1,o,none⟩)):=by
 obtain⟨x,v1,h1,aa,aA,_⟩:=T.slot hk;have:=aa.lg;subst this;rw[h1,aA.lg]
theorem db.mp(T:db aG nt gs s φ S a w){k b:Nat}(hk:bh s.1 k=some (.c (.mp b))):a.tmps[k]?=some (.map (some (φ b).1)):=by
 obtain⟨x,v1,h1,aa,aA,_⟩:=T.slot hk;have:=aa.Qo;subst this;rw[h1,show x=_ from aA.fy]
theorem db.pair(T:db aG nt gs s φ S a w){k:Nat}{p q:Int}(hk:bh s.1 k=some (.agg [.t ⟨.int .i64,p⟩,.t ⟨.int .i64,q⟩])):a.tmps[k]?=some (fR (p,q)):=by
 obtain⟨x,v1,h1,aa,aA,_⟩:=T.slot hk;cases aa with
 |agg aa=>
  cases aa with
  |cons g1 g2=>
   cases g2 with
   |cons g2 g3=>
    cases g1;cases g2;cases g3;obtain⟨vs,rfl,aU⟩:=aA.s0;cases aU with
    |cons a1 a2=>
     cases a2 with
     |cons a2 a3=>
      cases a1;cases a2;cases a3;exact h1
theorem db.cell(T:db aG nt gs s φ S a w){k:Nat}{c:Cell U.D}(hk:bh s.1 k=some (.c (.t c))):∃x,a.tmps[k]?=some x/\cl w S (c.enc U) x:=by
 obtain⟨x,v1,h1,aa,aA,_⟩:=T.slot hk;cases aa with
 |c aa=>cases aa;exact⟨x,h1,aA.fy⟩
theorem db.bool(T:db aG nt gs s φ S a w){k:Nat}{b:Bool}(hk:bh s.1 k=some (.c (.t ⟨.bool,b⟩))):a.tmps[k]?=some (.bool b):=by
 obtain⟨x,h1,aa⟩:=T.cell hk;rw[h1];cases aa;rfl
theorem db.int(T:db aG nt gs s φ S a w){k:Nat}{n:Int}(hk:bh s.1 k=some (.c (.t ⟨.int .i64,n⟩))):a.tmps[k]?=some (.int .i64 n):=by
 obtain⟨x,h1,aa⟩:=T.cell hk;rw[h1];cases aa;rfl
theorem db.fn(T:db aG nt gs s φ S a w){k f b:Nat}(hk:bh s.1 k=some (.c (.fn f [b]))):a.tmps[k]?=some (.func (.func f) #[] #[.pointer (some ⟨(φ b).1,0,none⟩)]):=by
 obtain⟨x,v1,h1,aa,aA,_⟩:=T.slot hk;cases aa with
 |c aa=>cases aa;rw[h1,show x=_ from aA.fy];rfl
theorem db.len(T:db aG nt gs s φ S a w){k:Nat}{t:aS}{l:List (t.den U.D)}(hk:bh s.1 k=some (.c (.t ⟨.slice t,l⟩))):l.length<=en:=by
 obtain⟨x,h1,aa⟩:=T.cell hk;obtain⟨_,_,_,_,_,_,_,_,h,_⟩:=cl.pj aa
 grind
theorem db.box(T:db aG nt gs s φ S a w){b:Nat}{cs:List (bH U)}(ag:bh s.2.1 b=some (.box cs)):
 ∃(vs:List Value) (E:TypeId) (bc:List C),w.heap[(φ b).1]?=some (.cells vs.toArray E (0,0))/\bk (cR s.2.2 s.2.1) cs bc/\bk (bP φ w S) bc vs:=by
 obtain⟨⟨env1,J1,he,aN,R,az⟩,fM⟩:=T;obtain⟨_,y,h1,aa⟩:=aN b _ ag;cases aa with
 |box aa=>
  obtain⟨_,vs,E,aA,aU,_⟩:=R.b'.blk b _ h1
  grind
theorem db.put(T:db aG nt gs (zA,xs,N) φ S a w){d:Nat}{x:Value}{v:b9 U}{v1:V}(aF:cn N xs v v1)(I:cy φ w S v1 x)(ag:v1.aP (lt N)=true:=by rfl)(av:Nat.ble (d+1) nt=true:=by rfl):db aG nt gs ((d,v)::zA,xs,N) φ S (a.put (some d) x) w:=by
 have av:=kK av;obtain⟨⟨env1,J1,he,aN,R,az⟩,fM⟩:=T;refine⟨⟨gh _ _ true v1,J1,λk y hk=>?_,aN,R.IY (by grind) (λ_=>I) (λh=>by grind) (λ_=>ag),az⟩,fM⟩;simp[bh]at hk;split at hk
 . simp_all[uL]
 . obtain⟨jQ,h1,aa⟩:=he k y hk;simp_all[uL,mr]
theorem db.new(T:db aG nt gs (zA,xs,N) φ S a w)(o:Obj):db aG nt (w.heap.size::gs) (zA,xs,N+1) (ga φ N (w.heap.size,0)) S a (w.alloc o):=by
 obtain⟨⟨env1,J1,he,aN,R,az⟩,fM⟩:=T;have dh:lt N N=false:=Lh (gP _);refine⟨⟨env1,J1,he.mono (ek.more (Hr _)),aN.mono (Hr _),((R.alloc o).Ee λb h=>DV dh h).more λb h=>Sz (Hr _) h,λb x I h0=>?_⟩,λg h=>?_⟩
 . rw[DV dh (R.eX b x I).1]at h0⊢;have:=(R.b'.blk b x I).pg h0
   grind
 . rcases fz.1 h with rfl|h
   . exact⟨by simp,λj aM=>by have:=R.b'.st _ _ aM;omega⟩
   . have:=fM g h;exact⟨by simp;omega,this.2⟩
theorem db.num(T:db aG nt gs (zA,xs,N) φ S a w)(q:Nat):db aG nt gs (zA,xs,N+1) (ga φ N (q,0)) S a w:=by
 obtain⟨⟨env1,J1,he,aN,R,az⟩,fM⟩:=T;have dh:lt N N=false:=Lh (gP _);refine⟨⟨env1,J1,he.mono (ek.more (Hr _)),aN.mono (Hr _),(R.Ee λb h=>DV dh h).more λb h=>Sz (Hr _) h,λb x I h0=>?_⟩,fM⟩;rw[DV dh (R.eX b x I).1]at h0⊢
 grind
theorem db.drew(T:db aG nt gs s φ S a w):db aG nt gs s φ S a w.drew:=
 let⟨⟨env1,J1,he,aN,R,az⟩,fM⟩:=T;⟨⟨env1,J1,he,aN,R.drew,az⟩,fM⟩
theorem db.write(T:db aG nt gs s φ S a w){g:Nat}(hm:g∈gs)(hw:aG.oE.heap.size<=g)(h1:w'.os=w.os)(aa:w'.tape=w.tape)(aA:w'.output=w.output)(aU:w'.heap.size=w.heap.size)(bN:∀b,b≠g->w'.heap[b]?=w.heap[b]?):db aG nt gs s φ S a w':=by
 obtain⟨⟨env1,J1,he,aN,R,az⟩,fM⟩:=T;refine⟨⟨env1,J1,he,aN,R.world _ h1 aa aA (D5 aU.symm) (λb _ ag=>bN b ag) (λb ag=>?_),az⟩,λb h=>by grind⟩
 grind
theorem db.extend(T:db aG nt gs s φ S a w)(e:Ext (λ_=>False) S bC w w')(ec:∀b j,bC b j->b<w'.heap.size):db aG nt gs s φ bC a w':=by
 obtain⟨⟨env1,J1,he,aN,R,az⟩,fM⟩:=T;refine⟨⟨env1,J1,he,aN,R.extend e ec,az⟩,λg h=>⟨pd (fM g h).1 e.size,λj aM=>?_⟩⟩;rcases e.rO g j aM with bg|bg|bg
 all_goals grind
theorem db.st(T:db aG nt gs s φ S a w):∀b j,S b j->b<w.heap.size:=let⟨⟨_,_,_,_,R,_⟩,_⟩:=T;R.b'.st
theorem db.ext(T:db aG nt gs s φ S a w):Ext aG.B aG.zG S aG.oE w:=let⟨⟨_,_,_,_,R,_⟩,_⟩:=T;R.ext
theorem db.defers(T:db aG nt gs s φ S a w):a.defers=[]:=let⟨⟨_,_,_,_,R,_⟩,_⟩:=T;R.defers
theorem db.enter{args:List (b9 U)}{h':List V}{vs:List Value}(aC:bk (cn N []) args h')(aF:bk (cy φ w S) h' vs)(ag:V.aP.V.e3 (lt N) h'=true)(ec:∀b j,S b j->b<w.heap.size)(a':h'.length<=nt)(fM:∀g,g∈gs->g<w.heap.size/\∀j,¬S g j):
 db (U:=U) ⟨w,S,λ_=>False,φ,0⟩ nt gs (vw 0 args,[],N) φ S {tmps:=vs.toArray++Array.replicate (nt-vs.toArray.size) undef,defers:=[]} w:=by
 refine⟨⟨ie 0 h',[],?_,λb x h=>by grind[bh],Rel.enter aF ag ec a',λb x h=>by grind[bf]⟩,fM⟩;intro k v hk;have key:∀{xs:List _} {bc:List V} {i:Nat},bk (cn N []) xs bc->bh (vw i xs) k=some v->∃v1,look (ie i bc) k=some (true,v1)/\cn N [] v v1:=by
  intro xs
  induction xs with
  |nil=>grind[vw,bh]
  |cons x xs ih=>
   intro bc i ov hZ;cases ov with
   |cons h1 aa=>
    simp[vw,bh]at hZ;simp[ie,look];split at hZ
    . simp_all
    simp_all[ah,mr]
 grind
theorem cn.zu{xs:List (b9 U)}{bc:List V}{TO:bA U}(h:bk (cn N TO) xs bc):cn N TO (.bn xs) (.bn bc):=
 .bn _ _ h.length λi x d I av=>by
  obtain⟨fj,aR,bw⟩:=h.get I
  grind
theorem cy.zu{vs:List V}{xs:List Value}(h:bk (cy φ w S) vs xs):cy φ w S (.bn vs) (.tuple xs.toArray):=
 .bn _ _ h.length λi x d I av=>by
  obtain⟨fj,aR,bw⟩:=h.get I
  grind
theorem cy.MA(k:Int×Int):cy φ w S (.agg [.t (.int .i64 k.1),.t (.int .i64 k.2)]) (fR k):= .agg (.cons (cl.int _ _) (.cons (cl.int _ _) .nil))
theorem cn.MA{TO:bA U}(k:Int×Int):cn N TO (.agg [.t ⟨.int .i64,k.1⟩,.t ⟨.int .i64,k.2⟩]) (.agg [.t (.int .i64 k.1),.t (.int .i64 k.2)]):= .agg (.cons (.t _) (.cons (.t _) .nil))
theorem Zu{w:World}{q b:Nat}{o:Obj}(h:b≠q):(ChangeMaps.setBlock w q o).heap[b]?=w.heap[b]?:=by
 simp[ChangeMaps.setBlock,eW h]
theorem arV{w:World}{q:Nat}{o:Obj}(h:q<w.heap.size):(ChangeMaps.setBlock w q o).heap[q]?=some o:=by
 grind[ChangeMaps.setBlock]
theorem db.set(T:db aG nt gs s φ S a w){q:Nat}(o:Obj)(hm:q∈gs)(hw:aG.oE.heap.size<=q):db aG nt gs s φ S a (ChangeMaps.setBlock w q o):=
 T.write hm hw rfl rfl rfl (by simp[ChangeMaps.setBlock]) λb ag=>Zu ag
theorem gH{k:Nat}{x:Value}(h:a.tmps[k]?=some x):a.eval (.tmp k)=x:=by simp[Act.eval,h]
section
variable {ops:Array Oper}{Q:Exit->Act->World->Prop}{i:Nat}{rest:List Nat}{o:Oper}
theorem tF(aO:ops[i]?=some o){d:Nat}(av:o.dst=some d)(az:o.guard=none){x:Value}(eQ:(execOp a.eval o).run P w= .ok (.value x) w')(h:wpOps P ops Q rest (a.put (some d) x) w'):wpOps P ops Q (i::rest) a w:=by
 simp[wpOps,aO,Region.wanted,az,Oper.wp,eQ];refine .inl ?_;show wpOps P _ Q _ _ w'
 grind
theorem WE(aO:ops[i]?=some o)(av:o.dst=none)(az:o.guard=none)(eQ:(execOp a.eval o).run P w= .ok .skip w')(h:wpOps P ops Q rest a w'):wpOps P ops Q (i::rest) a w:=by
 simp[wpOps,aO,Region.wanted,az,Oper.wp,eQ];refine .inl ?_;show wpOps P _ Q _ _ w';rw[av];exact h
theorem WG(aO:ops[i]?=some o){d:Nat}(av:o.dst=some d)(az:o.guard=none){f:Nat}{args IA:Array Value}(eQ:(execOp a.eval o).run P w= .ok (.enter f IA) w)(aC:IA=args)(h:Calls P f args w λe w'=>∃v,e= .returned v/\wpOps P ops Q rest (a.put (some d) v) w'):wpOps P ops Q (i::rest) a w:=by
 subst aC;simp[wpOps,aO,Region.wanted,az,Oper.wp,eQ];refine .inl (h.mono ?_)
 grind
end
theorem ab3{α:Type}{o:Option α}{d:α}(h:o.isSome=true):o=some (o.getD d):=by cases o<;>simp_all
theorem tk(L:List Nat){id:Nat}{ops:Array Oper}{Q:Exit->Act->World->Prop}(h:wpOps P ops Q L a w)(gB:List.range ops.size=L:=by kernel_rfl):(Code.region id ops false).wp P Q a w:=wp_region (gB▸h)
def sl(ops:Array Oper)(k m:Nat):List Oper:=(ops.toList.drop k).take m
theorem awZ{ops:Array Oper}{k m:Nat}(i:Nat)(h:i<(sl ops k m).length):(sl ops k m)[i]?=ops[k+i]?:=by
 grind[sl]
theorem db.op (T:db aG nt gs s φ S a w)(kk:Nat)(k m:Nat)(env:List (Nat×gS))(st:List iw){h:bb U.D (fe env st)}{ops:Array Oper}{L:List Nat}{Q:Exit->Act->World->Prop}{fs:List (cY U)}(dH:lq P fs)
 (I:wE (kS fs) none ((kH P nt ops (sl ops k m)).getD []) s.2.2 [] [] s.1 s.2.1 (λgl e J=>sS kk [] ⟨env,st⟩ (fe env st) (DZ gl e) J (s.2.2+16*((kH P nt ops (sl ops k m)).getD []).length))=some h)
 (e1:∀bB bC cx w',db aG nt gs ((iA U ⟨env,st⟩ (bb.cells U.D (fe env st) h)).1,(iA U ⟨env,st⟩ (bb.cells U.D (fe env st) h)).2,st.length) bB bC cx w'->Cg gs kk φ w bB w'->wpOps P ops Q (L.drop m) cx w')
 (ai:(kH P nt ops (sl ops k m)).isSome=true:=by kernel_rfl)(ct:Nat.ble kk s.2.2=true:=by rfl)(hk:aG.k<=kk:=by exact nj _)(gB:List.range' k (sl ops k m).length++L.drop m=L:=by kernel_rfl):wpOps P ops Q L a w:=by
 rw[<-gB];exact T.ops dH k (ab3 ai) awZ (kK ct) hk I e1
theorem db.fA (T:db aG nt gs s φ S a w)(kk:Nat)(outs:List n1){o:gg U outs}{code:Code}{Q:Exit->Act->World->Prop}{fs:List (cY U)}(dH:lq P fs)
 (I:qV (kS fs) (λ_=>none) kk ((resolve P nt code).getD .skip) 0 s.1 s.2.1 s.2.2 (w4 kk outs)=some o)
 (e1:∀bB bC cx w',db aG nt gs (im outs o).2 bB bC cx w'->Cg gs kk φ w bB w'->Q (im outs o).1 cx w')
 (ai:(resolve P nt code).isSome=true:=by kernel_rfl)(ct:Nat.ble kk s.2.2=true:=by rfl)(hk:aG.k<=kk:=by exact nj _):code.wp P Q a w:=by
 refine wp_mono (T.piece dH (ab3 ai) (kK ct) hk I) ?_
 grind
theorem ld1{o:Oper}{ty:TypeId}{x:Operand}(aO:o.op= .load ty x)(aj:uY P ty=some (false,1)){b off:Nat}{vs:List Value}{E:TypeId}(I:a.eval x= .pointer (some ⟨b,off,none⟩))(ab:w.heap[b]?=some (.cells vs.toArray E (0,0))){v:Value}(aF:vs[off]?=some v):
 (execOp a.eval o).run P w= .ok (.value v) w:=by
 obtain⟨h1,aa,aA⟩:=YT aj;have:(loadVar ty ⟨b,off,none⟩).run P w= .ok v w:=by
  have:=alY h1 aa (vs:=[v]) (λj aM=>by
   have:j=0:=by grind
   subst this
   rw[nB ab,By,aF];rfl) rfl aA
  grind
 simp_all [execOp,Instr.loadAt,Instr.sureAddr]
theorem db.ret{fn:Func}{R:Ending->World->Prop}(T:db aG nt gs s φ S a w){t:Nat}{c:Cell U.D}(ai:fn.results=#[.tmp t])(hk:bh s.1 t=some (.c (.t c)))(h:∀x,cl w S (c.enc U) x->R (.returned x) w):bodyPost P fn R .ret a w:=by
 obtain⟨x,h1,aa⟩:=T.cell hk;refine⟨T.defers,x,?_,h x aa⟩;simp_all[YX,En]
def xw(S:dV)(w:World)(bC:dV)(w':World):Prop:=Ext (λ_=>False) S bC w w'/\∀b j,bC b j->b<w'.heap.size
theorem xw.heap{S bC:dV}{w w':World}(h:xw S w bC w'){b:Nat}{o:Obj}(ag:w.heap[b]?=some o):w'.heap[b]?=some o:=by
 rw[h.1.block b (L7.1 ag).1 (λx=>x)]
 grind
theorem yp{a:Act}{d:Nat}{x:Value}(h:d<a.tmps.size):(a.put (some d) x).tmps[d]?=some x:=by grind[Act.put]
theorem db.size(T:db aG nt gs s φ S a w):a.tmps.size=nt:=let⟨⟨_,_,_,_,R,_⟩,_⟩:=T;R.size
def abd(P:Program)(t:TypeId):Bool:=match P.underlying t with
 |some (.map gV tT)=>match P.underlying gV with
  |some (.array 2 it)=>match P.underlying it,P.info? it,P.info? tT with
   |some (.int .i64),some i,some tS=>Nat.beq i.size 1&&(match tS.zero with
    |some (.bool false)=>true
    |_=>false)
   |_,_,_=>false
  |_=>false
 |_=>false
theorem sY.of{t:TypeId}(h:abd P t=true):sY P t:=by
 unfold abd at h
 (repeat' split at h)<;>simp at h
 rename_i h1 _ _ aa _ _ _ _ aA aU bN _ dO;exact⟨_,_,_,_,_,by omega,by grind,aA,aU,h,bN,dO⟩
section
variable {o:Oper}{ty:TypeId}{r:Nat}{es:Array MapEntry}{cZ:Nat}{ks:List (Int×Int)}
theorem aiZ{x k:Operand}(aO:o.op= .lookup ty x k false)(hm:sY P ty)(I:a.eval x= .map (some r)){p:Int×Int}(hk:a.eval k=fR p)(ab:w.heap[r]?=some (.map es cZ))(hs:mg ks es.toList):
 (execOp a.eval o).run P w= .ok (.value (.bool (j1 ks p))) w:=by
 have:=as' hm ab hs p;simp_all[execOp]
theorem aB2{x:Operand}(aO:o.op= .makeMap ty (some x))(hm:sY P ty){k:IntKind}{n:Int}(I:a.eval x= .int k n):
 (execOp a.eval o).run P w= .ok (.value (.map (some w.heap.size))) (w.alloc (.map #[] 0)):=by
 obtain⟨gV,tT,it,i,tS,hu,_⟩:=hm.ex;simp_all[execOp,Instr.makeMap,run_underlying,asInt,asIntOf]
theorem axs(aO:o.op= .alloc ty){z:Value}(bq:(P.info? ty).bind TypeInfo.zero=some z)(h1:z.cells=#[z]):
 (execOp a.eval o).run P w= .ok (.value (.pointer (some ⟨w.heap.size,0,none⟩))) (w.alloc (.cells #[z] ty (0,0))):=by
 obtain⟨i,ak,bq⟩:=p1.1 bq;simp_all[execOp,Instr.alloc,zeroValue,typeInfo,newVar,newRow]
theorem st1{x y:Operand}(aO:o.op= .store ty x y)(jo:fZ P ty=some 1){b:Nat}{u v:Value}{E:TypeId}(I:a.eval x= .pointer (some ⟨b,0,none⟩))(ao:a.eval y=v)(aF:v.cells=#[v])(h1:v.oneCell'=true)(ab:w.heap[b]?=some (.cells #[u] E (0,0))):
 ∃w',(execOp a.eval o).run P w= .ok .skip w'/\w'.os=w.os/\w'.tape=w.tape/\w'.output=w.output/\w'.heap.size=w.heap.size/\w'.heap[b]?=some (.cells #[v] E (0,0))/\∀bI:Nat,bI≠b->w'.heap[bI]?=w.heap[bI]?:=by
 obtain⟨w',h,k1,k2,k3,k4,k5,k6⟩:=tb (P:=P) [v] 0 0 _ w ab (by simp) (by grind);refine⟨w',?_,k1,k2,k3,k4,by simpa[oo]using k5,k6⟩;simp_all[execOp,Instr.storeAt,Instr.sureAddr,storeVar,oY]
theorem aBY {ops:Array Oper}{Q:Exit->Act->World->Prop}{i:Nat}{rest:List Nat}(aO:ops[i]?=some o)(av:o.dst=none)(az:o.guard=none){x y:Operand}(eb:o.op= .store ty x y)(jo:fZ P ty=some 1){b:Nat}{u v:Value}{E:TypeId}(I:a.eval x= .pointer (some ⟨b,0,none⟩))(ao:a.eval y=v)(aF:v.cells=#[v])(h1:v.oneCell'=true)(ab:w.heap[b]?=some (.cells #[u] E (0,0)))
 (h:∀w':World,w'.os=w.os->w'.tape=w.tape->w'.output=w.output->w'.heap.size=w.heap.size->w'.heap[b]?=some (.cells #[v] E (0,0))->(∀bI:Nat,bI≠b->w'.heap[bI]?=w.heap[bI]?)->wpOps P ops Q rest a w'):wpOps P ops Q (i::rest) a w:=
 let⟨w',h0,k1,k2,k3,k4,k5,k6⟩:=st1 eb jo I ao aF h1 ab
 WE aO av az h0 (h w' k1 k2 k3 k4 k5 k6)
theorem aDJ{x k y:Operand}(aO:o.op= .mapUpdate ty x k y)(hm:sY P ty)(I:a.eval x= .map (some r)){p:Int×Int}(hk:a.eval k=fR p)(ao:a.eval y= .bool true)(ab:w.heap[r]?=some (.map es cZ))(hs:mg ks es.toList)(ag:rm es.toList cZ):
 ∃gJ jZ,(execOp a.eval o).run P w= .ok .skip {w with heap:=w.heap.setIfInBounds r (.map gJ jZ)}/\mg (r0 ks p) gJ.toList/\rm gJ.toList jZ:=by
 obtain⟨gJ,jZ,h1,aa,aA⟩:=abc hm ab hs ag p;exact⟨gJ,jZ,by simp_all[execOp],aa,aA⟩
theorem ai5 {ops:Array Oper}{Q:Exit->Act->World->Prop}{i:Nat}{rest:List Nat}(aO:ops[i]?=some o)(av:o.dst=none)(az:o.guard=none){x k y:Operand}(eb:o.op= .mapUpdate ty x k y)(hm:sY P ty)(I:a.eval x= .map (some r)){p:Int×Int}(hk:a.eval k=fR p)(ao:a.eval y= .bool true)(ab:w.heap[r]?=some (.map es cZ))(hs:mg ks es.toList)(ag:rm es.toList cZ)
 (h:∀gJ jZ,mg (r0 ks p) gJ.toList->rm gJ.toList jZ->wpOps P ops Q rest a {w with heap:=w.heap.setIfInBounds r (.map gJ jZ)}):wpOps P ops Q (i::rest) a w:=
 let⟨gJ,jZ,h0,h1,aa⟩:=aDJ eb hm I hk ao ab hs ag
 WE aO av az h0 (h _ _ h1 aa)
theorem aCG{x:Operand}(aO:o.op= .range ty x)(hm:sY P ty)(I:a.eval x= .map (some r))(ab:w.heap[r]?=some (.map es cZ)):
 (execOp a.eval o).run P w= .ok (.value (.pointer (some ⟨w.heap.size,0,none⟩))) (w.alloc (.mapIter (some r) cZ #[] cZ)):=by
 obtain⟨gV,tT,it,i,tS,hu,_⟩:=hm.ex;have:=run_range_map w ty _ _ r es _ hu ab;simp_all[execOp]
theorem aB7{x:Operand}(aO:o.op= .next x false){q:Nat}{seen:Array Nat}(I:a.eval x= .pointer (some ⟨q,0,none⟩))(aE:w.heap[q]?=some (.mapIter (some r) cZ seen cZ))(ab:w.heap[r]?=some (.map es cZ))(ag:rm es.toList cZ):
 ((leftOf es seen).size=0/\(execOp a.eval o).run P w= .ok (.value (.tuple #[.bool false])) w)\/
 ∃e∈(leftOf es seen).toList,∃gb:World,(gb=w\/gb=w.drew)/\(execOp a.eval o).run P w= .ok (.value (.tuple #[.bool true,e.key,e.val])) (ChangeMaps.setBlock gb q (.mapIter (some r) cZ (seen.push e.born) cZ)):=by
 rcases run_next_at (P:=P) w o.type q r _ _ _ es _ aE ab ag.1 (gP _)with⟨h1,aa⟩|⟨e,he,gb,h1,aa⟩
 . simp_all[execOp]
 . exact .inr ⟨e,he,gb,h1,by simp_all[execOp]⟩
theorem aBX {ops:Array Oper}{Q:Exit->Act->World->Prop}{i:Nat}{rest:List Nat}(aO:ops[i]?=some o){d:Nat}(av:o.dst=some d)(az:o.guard=none){x:Operand}(eb:o.op= .next x false){q:Nat}{seen:Array Nat}(I:a.eval x= .pointer (some ⟨q,0,none⟩))(aE:w.heap[q]?=some (.mapIter (some r) cZ seen cZ))(ab:w.heap[r]?=some (.map es cZ))(ag:rm es.toList cZ)
 (h0:(leftOf es seen).size=0->wpOps P ops Q rest (a.put (some d) (.tuple #[.bool false])) w)(h1:∀e,e∈(leftOf es seen).toList->∀gb,(gb=w\/gb=w.drew)->wpOps P ops Q rest (a.put (some d) (.tuple #[.bool true,e.key,e.val])) (ChangeMaps.setBlock gb q (.mapIter (some r) cZ (seen.push e.born) cZ))):wpOps P ops Q (i::rest) a w:=by
 rcases aB7 (P:=P) eb I aE ab ag with⟨g,ai⟩|⟨e,he,gb,hw,ai⟩
 . grind[tF]
 grind[tF]
theorem ayB{x:Operand}(aO:o.op= .entry x){q:Nat}{seen:Array Nat}(I:a.eval x= .pointer (some ⟨q,0,none⟩)){e:MapEntry}(aE:w.heap[q]?=some (.mapIter (some r) cZ (seen.push e.born) cZ))(ab:w.heap[r]?=some (.map es cZ))(he:e∈es.toList)(ag:rm es.toList cZ):
 (execOp a.eval o).run P w= .ok (.value (.tuple #[e.key,e.val])) w:=by
 have:=run_entry_at (P:=P) w q r _ _ es _ e aE ab he ag.2;simp_all[execOp]
end
theorem xw.refl{S:dV}{w:World}(h:∀b j,S b j->b<w.heap.size):xw S w S w:=⟨Ext.refl,h⟩
theorem fJ.hand {f:Nat}{hb:List gS}{F:bb U.D (bm f hb (ab .bool)).ts->Option (bb U.D (bm f hb (ab .bool)).us)}(ag:kL P f=true)
 (h:∀(x:bb U.D (bm f hb (ab .bool)).ts) (b:Bool),F x=some b->∀(φ:ea) (S:dV) (w:World) (h':List V) (vs:List Value),(∀b j,S b j->b<w.heap.size)->bk (cn 0 []) (pP hb (bb.cells U.D _ x)).1 h'->bk (cy φ w S) h' vs->V.aP.V.e3 (lt 0) h'=true->
  Calls P f vs.toArray w λe w'=>∃bC,e= .returned (.bool b)/\xw S w bC w'):fJ P ((bm f hb (ab .bool)).s F):=by
 refine⟨ag,λx b I h' J1 aC aN φ S w B iX fH wT j0 vs fP=>?_⟩;refine(h x b I φ S w h' vs iX.st aC fP j0).mono ?_
 rintro e w' ⟨bC,rfl,k⟩
 refine⟨_,.c _,φ,bC,[],0,rfl,⟨rfl,.c (.t _),λb x h=>by simp[bh,cY.rest,eZ.s,lD]at h⟩,cy.xL b,rfl,⟨λb x I=>by simp[bf]at I,λb bI x y I=>by simp[bf]at I,k.2⟩,λb x I=>by simp[bf]at I,⟨k.1.os,k.1.tape,k.1.output,k.1.size,λb h _=>k.1.block b h (λx=>x),k.1.mono,λb j aM=>?_⟩,λb x I=>by grind[bf],λ_ _=>rfl⟩
 rcases k.1.rO b j aM with h|h|h
 all_goals grind
end
end
section
open Go
variable {U:dC}{P:Program}{nt:Nat}{aG:Ctx}
section
variable {φ:ea}{S:dV}{gs:List Nat}{s:EV U}{a:Act}{w w':World}{o:Oper}{ty:TypeId}{r:Nat}{es:Array MapEntry}{cZ:Nat}{ks:List (Int×Int)}
theorem aB1(aO:o.op= .makeMap ty none):(execOp a.eval o).run P w= .ok (.value (.map (some w.heap.size))) (w.alloc (.map #[] 0)):=by
 simp_all [execOp,Instr.makeMap]
theorem aBW {ops:Array Oper}{Q:Exit->Act->World->Prop}{i:Nat}{rest:List Nat}(aO:ops[i]?=some o)(av:o.dst=none)(az:o.guard=none){x k y:Operand}(eb:o.op= .insert ty x k y)(hm:sY P ty)(I:a.eval x= .map (some r)){p:Int×Int}(hk:a.eval k=fR p)(ao:a.eval y= .bool true)(ab:w.heap[r]?=some (.map es cZ))(hs:mg ks es.toList)(ag:rm es.toList cZ)
 (h:∀gJ jZ,mg (r0 ks p) gJ.toList->rm gJ.toList jZ->wpOps P ops Q rest a {w with heap:=w.heap.setIfInBounds r (.map gJ jZ)}):wpOps P ops Q (i::rest) a w:=
 let⟨gJ,jZ,h1,aa,aA⟩:=abc (P:=P) hm ab hs ag p
 WE aO av az (by simp_all [execOp]) (h gJ jZ aa aA)
theorem db.aBp(T:db aG nt gs s φ S a w){b:Nat}{t:aS}{l:List (t.den U.D)}(ag:bh s.2.1 b=some (.arr t l)):l.length<=en:=by
 obtain⟨⟨env1,J1,he,aN,R,az⟩,fM⟩:=T;obtain⟨_,y,h1,aa⟩:=aN b _ ag;cases aa with
 |arr=>
  have:=(R.b'.blk b _ h1).2.1
  simpa using this
def af6(s:cY U)(r:bb U.D s.us)(S:dV)(w:World):Ending->World->Prop:=λe w'=>∃v cc bB bC J',e= .returned v/\NC s r cc J' s.fq.length/\cy bB w' bC cc v/\cc.aP (lt s.fq.length)=true/\xA bB w' bC J'/\
 (∀(b:Nat) x,bf J' b=some x->b<s.fq.length/\x.aP (lt s.fq.length)=true)/\Ext (λ_=>False) S bC w w'/\∀(b:Nat) x,bf J' b=some x->(bB b).2≠0->w.heap.size<=(bB b).1
theorem fJ.azb {f:Nat}{hb:List gS}{f':gS}{fq:List iw}{F:bb U.D (bm f hb f' [] [] fq).ts->Option (bb U.D (bm f hb f' [] [] fq).us)}(ag:kL P f=true)
 (h:∀x r,F x=some r->∀(φ:ea) (S:dV) (w:World) (h':List V) (vs:List Value),(∀b j,S b j->b<w.heap.size)->bk (cn 0 []) (pP hb (bb.cells U.D _ x)).1 h'->bk (cy φ w S) h' vs->V.aP.V.e3 (lt 0) h'=true->
  Calls P f vs.toArray w (af6 ((bm f hb f' [] [] fq).s F) r S w)):fJ P ((bm f hb f' [] [] fq).s F):=by
 refine⟨ag,λx r I h' J1 aC aN φ S w B iX fH wT j0 vs fP=>?_⟩;refine(h x r I φ S w h' vs iX.st aC fP j0).mono ?_
 rintro e w' ⟨v,cc,bB,bC,J',rfl,aE,ai,iV,ko,aAD,sx,aAl⟩
 refine⟨v,cc,bB,bC,J',_,rfl,aE,ai,iV,ko,aAD,⟨sx.os,sx.tape,sx.output,sx.size,λb h _=>sx.block b h (λx=>x),sx.mono,λb j aM=>?_⟩,λb x I h0=>.inr (aAl b x I h0),λb ag=>absurd ag (L2 _)⟩;rcases sx.rO b j aM with h|h|h
 . exact .inl h
 . exact absurd h (λx=>x)
 . exact .inr (.inr h)
theorem db.ayM {qQ:cY U}{jb:bb U.D qQ.us}{fn:Func}{oE:World}{zG:dV}{sW:ea}(T:db ⟨oE,zG,λ_=>False,sW,0⟩ nt gs s φ S a w){t u:Nat}(ai:fn.results=#[.tmp t,.tmp u])
 (h1:bh s.1 t=some (.c (.arr 0)))(aa:bh s.1 u=some (.c (.arr 1)))(hres:qQ.res jb= .bn [.c (.arr 0),.c (.arr 1)]:=by rfl)(hs:s.2.1=qQ.rest jb:=by rfl)(a':s.2.2=qQ.fq.length:=by rfl):bodyPost P fn (af6 qQ jb zG oE) .ret a w:=by
 obtain⟨aaS,v4,k4,w7,aCr,hI⟩:=T.slot h1;obtain⟨aDR,v5,k5,Xl,aCs,hn⟩:=T.slot aa;refine⟨T.defers,.tuple #[aaS,aDR],?_,?_⟩
 . simp_all [YX,En]
 obtain⟨⟨env1,J1,he,aN,R,az⟩,fM⟩:=T;rw[hs,a']at w7 Xl aN;rw[a']at hI hn;refine⟨_,.bn [v4,v5],φ,S,J1,rfl,⟨rfl,by rw[hres];exact .zu (.cons w7 (.cons Xl .nil)),aN⟩,cy.zu (.cons aCr (.cons aCs .nil)),by simp[V.aP,V.aP.V.e3,hI,hn],R.b',λb x I=>?_,R.ext,λb x I h0=>(R.own b x I h0).resolve_left (λh=>h)⟩;have:=R.eX b x I;rw[a']at this
 exact⟨by simpa[lt]using this.1,this.2⟩
end
end
end Go.Proofs.YtklfhpkljddjbaaGreatDoor.Shv
