/- The library of this proof, part D: an abstract machine for the code of the program, and its soundness. -/
import Derived.KernelRfl
import Derived.Shelf.Strings.Builder1
import Derived.ChangeArms
import Derived.ChangeStays
import Derived.ChangeSame
import Derived.SizedLaws
import Derived.Below
import Derived.WalkKit
import Derived.ProofKit
import Derived.OpenShut
import Derived.Laws.BitsLemmas
import Derived.Laws.Bits64
import Derived.Shelf.GgSortFunc.InsertionK
import Derived.Shelf.SlSortCmp.Insertion
import Derived.Sort.AssemblyPlain
import Derived.Lib.BitFns
import Derived.Shelf.Strconv.Itoa3
import Derived.Test.YtfcnkdegapjgnaaGreatDoorTrLC

namespace Go.Proofs.YtfcnkdegapjgnaaGreatDoor.Shv
set_option linter.all false
section
open Go
variable [da]
variable {xb:List Nat}
variable {U:cK}{R:Type}
def nE(gl:ej)(gd:Option (Nat×Bool))(dst:Option Nat):Bool:=
 match dst with
 |none=>true
 |some d=>(gl.all λe=>!(Nat.beq e.1 d) && !(Nat.beq e.2.1 d))&&(match gd with
  |some g=>!(Nat.beq g.1 d)
  |none=>true)
def gn(dst:Option Nat)(v:bF U)(env:bO U):bO U:=
 match dst with
 |none=>env
 |some d=>(d,v)::env
def im(gl:ej)(gd:Option (Nat×Bool))(dst:Option Nat):ej:=
 match gd,dst with
 |some g,some d=>(d,g)::gl
 |_,_=>gl
abbrev fG(U:cK):=Nat->List (cx U)
abbrev kB(U:cK):=bO U->Option (List (bF U))
def Qi(s:cx U)(c:kB U)(env:bO U)(J:a' U)(key:Nat):Option (bO U×a' U×List Nat×aR U.D s.ts):=
 match c env with
 |none=>none
 |some vs=>match vF J 0 0 s.st (CX s.gk vs ([],[])) []with
  |(bs,d)=>match j1 d env J with
   |none=>none
   |some (env',J')=>match c env' with
    |none=>none
    |some e=>match sQ bs&&((bs.all λb=>Nat.ble (b+1) key)&&(Nat.beq bs.length s.st.length&&Nat.ble s.ev.length (bs.length+16)))with
     |false=>none
     |true=>match mb bs s.gk e,iz bs J' 0 s.st with
      |some a,some b=>match aR.dec U.D s.ts (a++b)with
       |some h=>some (env',J',bs,h)
       |none=>none
      |_,_=>none
def vV(b:kB U)(env:bO U)(J:a' U)(key:Nat)(k:bO U->a' U->bF U->Option R):List (cx U)->Option R
 |[]=>none
 |s::r=>match Qi s b env J key with
  |none=>vV b env J key k r
  |some (env',J',bs,h)=>(s.F h)>>=λa=>match n9 J' (s.rest a) 0 bs with
   |none=>none
   |some c=>if c=true then k env' (mP J' bs (back bs key) (s.rest a)) ((s.res a).bV (back bs key))else none
def isNil{α:Type}:List α->Bool
 |[]=>true
 |_=>false
def ED(s:cx U)(b:kB U)(env:bO U):Option (aR U.D s.ts):=
 match isNil s.st&&isNil s.ev,b env with
 |true,some vs=>match vs.all gu,mb [] s.gk vs with
  |true,some a=>aR.dec U.D s.ts a
  |_,_=>none
 |_,_=>none
def vU(a:kB U)(env:bO U)(g:Bool)(k:bF U->Option R):List (cx U)->Option R
 |[]=>none
 |s::r=>match ED s a env with
  |none=>vU a env g k r
  |some h=>(if g=true then s.F h else some (aR.jP U s.us))>>=λb=>match gu (s.res b)with
   |true=>k (s.res b)
   |false=>none
def hasB(J:a' U)(b:Nat):Bool:=match aU J b with
 |some _=>true
 |none=>false
def bc.jf(J:a' U):bc U->Bool
 |.t _|.dx .. |.bC|.eT|.eS=>true
 |.ptr b _=>hasB J b
 |.cl b _ _ _=>hasB J b
 |.fn _ caps=>caps.all (hasB J)
 |.arr b=>match aU J b with
  |some x=>(match x.cU with
   |some _=>true
   |none=>false)
  |none=>false
 |.sub .. =>false
 |.pre .. =>false
 |.dS .. =>false
 |.mp b=>hasB J b
 |.eh _=>false
 |.cr b=>match aU J b with
  |some x=>(match x.cU with
   |some p=>Nat.beq p.1 1
   |none=>false)
  |none=>false
 |.dead=>false
def kc(J:a' U):bF U->Bool
 |.c x=>x.jf J
 |.agg cs=>cs.all (bc.jf J)
 |.aS vs=>go J vs
where go (J:a' U):List (bF U)->Bool
 |[]=>true
 |v::vs=>kc J v&&go J vs
def bc.h2(J:a' U):bc U->C
 |.t c=>.t (c.enc U)
 |.dx ty x o=>.dx (ty.enc U x) o
 |.bC=>.bC
 |.eT=>.eT
 |.eS=>.eS
 |.fn f caps=>.fn f caps
 |.ptr b o=>.ptr b o
 |.cl b ty i o=>.cl b (ty.sz U) i o
 |.arr b=>match aU J b with
  |some x=>(match x.cU with
   |some p=>.arr b p.1 0 p.2
   |none=>.dead)
  |none=>.dead
 |.sub b lo len=>.fq b 1 lo len
 |.pre _ _=>.dead
 |.dS .. =>.dead
 |.mp b=>.mp b
 |.eh b=>.eh b
 |.cr b=>match aU J b with
  |some x=>(match x.cU with
   |some p=>.cr b p.2
   |none=>.dead)
  |none=>.dead
 |.dead=>.dead
def hZ(J:a' U):bF U->V
 |.c x=>.c (x.h2 J)
 |.agg cs=>.agg (cs.map (bc.h2 J))
 |.aS vs=>.aS (go J vs)
where go (J:a' U):List (bF U)->List V
 |[]=>[]
 |v::vs=>hZ J v::go J vs
def fQ(J:a' U):ct U->Bool
 |.box cs=>cs.all (bc.jf J)
 |.arr _ _=>true
 |.rows .. =>false
 |.set _=>true
 |.buf _ _=>true
 |.bX _ c=>c.jf J
 |.cu .. =>false
def p0(J:a' U):ct U->bp
 |.box cs=>.box (cs.map (bc.h2 J))
 |.arr ty l=>.arr (ty.sz U) (l.map (ty.enc U))
 |.rows sz _=>.arr sz []
 |.set ks=>.set ks
 |.buf E s=>.buf E s
 |.bX E c=>.bX E (c.h2 J)
 |.cu t l i o _=>.cu (t.sz U) (l.map (t.enc U)) i o .dead
def ja(J:a' U):a' U->aF
 |[]=>[]
 |(b,x)::r=>(b,p0 J x)::ja J r
def Hk(J:a' U)(l:a' U):Bool:=l.all λp=>Nat.ble (p.1+1) 16&&fQ J p.2
def EC(s:cx U)(b:kB U)(env:bO U):Option (aR U.D s.ts):=
 match isNil s.st&&Nat.ble s.ev.length 16,b env with
 |true,some vs=>match vs.all gu,mb [] s.gk vs with
  |true,some a=>aR.dec U.D s.ts a
  |_,_=>none
 |_,_=>none
def ze(b:kB U)(env:bO U)(J:a' U)(key:Nat)(k:a' U->bF U->Option R):List (cx U)->Option R
 |[]=>none
 |s::r=>match EC s b env with
  |none=>ze b env J key k r
  |some h=>(s.F h)>>=λa=>match kc (s.rest a) (s.res a)&&Hk (s.rest a) (s.rest a)with
   |true=>k (mP J [] (back [] key) (s.rest a)) ((s.res a).bV (back [] key))
   |false=>none
def bc.eE:bc U->List Nat
 |.ptr b _|.cl b _ _ _|.arr b|.sub b _ _|.pre b _|.dS b _ _|.mp b|.eh b|.cr b=>[b]
 |.fn _ caps=>caps
 |_=>[]
def bF.eE:bF U->List Nat
 |.c x=>x.eE
 |.agg cs=>cs.flatMap bc.eE
 |.aS _=>[]
def fJ(l:List Nat)(b:Nat):Bool:=l.any λc=>Nat.beq c b
def Qj(xb:List Nat)(s:cx U)(d:kB U)(env:bO U)(J:a' U)(key:Nat):Option (List Nat×aR U.D s.ts):=
 match d env with
 |none=>none
 |some vs=>match vF J 0 0 s.st (CX s.gk vs ([],[])) []with
  |(bs,c)=>match isNil c&&(sQ bs&&((bs.all λb=>Nat.ble (b+1) key&&((fJ (vs.flatMap bF.eE) b||fJ xb b)&&hasB J b))&&(Nat.beq bs.length s.st.length&&(Nat.ble bs.length s.ev.length&&Nat.ble s.ev.length (bs.length+16)))))with
   |false=>none
   |true=>match mb bs s.gk vs,iz bs J 0 s.st with
    |some a,some b=>match aR.dec U.D s.ts (a++b)with
     |some h=>some (bs,h)
     |none=>none
    |_,_=>none
def Hr(n:Nat)(J:a' U)(l:a' U):Bool:=l.all λp=>Nat.ble (p.1+1) n&&fQ J p.2
def QB(s:cx U)(bs:List Nat)(X:a' U):Bool:=!(fJ U.ro s.f)||(match bs,X with
 |[_],[(0,.arr _ _)]=>true
 |_,_=>false)
def u0(xb:List Nat)(b:kB U)(env:bO U)(J:a' U)(key:Nat)(k:a' U->bF U->Option R):List (cx U)->Option R
 |[]=>none
 |s::r=>match Qj xb s b env J key with
  |none=>u0 xb b env J key k r
  |some (bs,h)=>(s.F h)>>=λa=>match kc (s.rest a) (s.res a)&&Hr (bs.length+16) (s.rest a) (s.rest a),n9 J (s.rest a) 0 bs with
   |true,some c=>match QB s bs (s.rest a)with
    |true=>if c=true then k (mP J bs (back bs key) (s.rest a)) ((s.res a).bV (back bs key))else none
    |false=>none
   |_,_=>none
def adO(a:kB U)(env:bO U)(l:List (cx U)):Bool:=l.any λs=>(EC s a env).isSome
def adP(a:kB U)(env:bO U)(l:List (cx U)):Bool:=l.any λs=>(ED s a env).isSome
def agi(gd:Option (Nat×Bool))(a:kB U)(env:bO U)(l:List (cx U)):Bool:=
 match gd with
 |some _=>!(adP a env l)
 |none=>false
def ad1(d:Option (List Nat)):List Nat:=match d with
 |some l=>l
 |none=>[]
def H5(fo:fG U)(d:Option (List Nat))(gd:Option (Nat×Bool))(f:Nat)(a:kB U)(gl:ej)(env:bO U)(J:a' U)(key:Nat)(k:bO U->a' U->bF U->Option R):Option R:=
 match gd with
 |none=>match d with
  |none=>vV a env J key k (fo f)
  |some xb=>match !(fJ U.ro f)&&adO a env (fo f)with
   |true=>ze a env J key (λJ v=>k env J v) (fo f)
   |false=>u0 xb a env J key (λJ v=>k env J v) (fo f)
 |some _=>match k7 gl env p4 gd with
  |some g=>vU a env g (λv=>k env J v) (fo f)
  |none=>none
abbrev jB:=List (Nat×Bool)
def ub(nf:jB)(gl:ej):Nat->Option (Nat×Bool)->Bool
 |0,_=>false
 |_,none=>false
 |a+1,some (t,b)=>(nf.any λg=>Nat.beq g.1 t&&(g.2==b))||ub nf gl a (aU gl t)
def kQ(nf:jB)(dst:Option Nat):Bool:=
 match dst with
 |none=>true
 |some d=>nf.all λg=>!(Nat.beq g.1 d)
def Dk:bF U:= .c (.t ⟨.bool,false⟩)
def rl(fo:fG U)(d:Option (List Nat))(o:bL)(key:Nat)(gl:ej)(nf:jB)(env:bO U)(J:a' U)(k:ej->jB->bO U->a' U->Option R):Option R:=
 match nE gl o.guard o.dst&&kQ nf o.dst with
 |false=>none
 |true=>match ub nf gl p4 o.guard with
  |true=>match k7 gl env p4 o.guard with
   |some _=>k (im gl o.guard o.dst) nf (gn o.dst Dk env) J
   |none=>none
  |false=>match o.op with
   |.call f args=>match agi o.guard (λe=>lq gl o.guard e args) env (fo f)with
    |true=>match k7 gl env p4 o.guard,o.guard with
     |some g,some gd=>if g=true then u0 (ad1 d) (λe=>lq gl o.guard e args) env J key (λJ v=>k (im gl o.guard o.dst) nf (gn o.dst v env) J) (fo f)else k (im gl o.guard o.dst) (gd::nf) (gn o.dst Dk env) J
     |_,_=>none
    |false=>H5 fo d o.guard f (λe=>lq gl o.guard e args) gl env J key λenv J v=>k (im gl o.guard o.dst) nf (gn o.dst v env) J
   |.callv x args=>match d,o.guard,de gl none env x with
    |none,none,some (.c (.fn f _))=>vV (λe=>match de gl none e x,lq gl none e args with
     |some (.c (.fn i a)),some vs=>match Nat.beq i f with
      |true=>some (vs++a.map λb=>.c (.ptr b 0))
      |false=>none
     |_,_=>none) env J key (λenv J v=>k gl nf (gn o.dst v env) J) (fo f)
    |some _,none,some (.c (.fn f []))=>vU (λe=>lq gl none e args) env true (λv=>k gl nf (gn o.dst v env) J) (fo f)
    |_,_,_=>none
   |op=>match cc gl o.guard env J key op with
    |none=>none
    |some (c,v,J')=>match o.guard with
     |none=>if c=true then k gl nf (gn o.dst v env) J' else none
     |some gd=>match k7 gl env p4 (some gd)with
      |none=>none
      |some g=>match op.neutral with
       |true=>if(c || !g)=true then k (im gl o.guard o.dst) nf (gn o.dst v env) J else none
       |false=>if g=true then(if c=true then k (im gl o.guard o.dst) nf (gn o.dst v env) J' else none)else k (im gl o.guard o.dst) (gd::nf) (gn o.dst Dk env) J
def Qc(J:a' U):bc U->List (Nat×aD)
 |.arr b=>match aU J b with
  |some (.arr t _)=>[(b,t)]
  |_=>[]
 |_=>[]
def agh(J:a' U):bF U->List (Nat×aD)
 |.c x=>Qc J x
 |.agg cs=>cs.flatMap (Qc J)
 |.aS _=>[]
def Ey(gl:ej)(gd:Option (Nat×Bool))(env:bO U)(J:a' U)(xs:List aL):List (Nat×aD):=
 xs.flatMap λx=>match de gl gd env x with
  |some v=>agh J v
  |none=>[]
def zE(l:List (Nat×aD))(env:bO U)(J:a' U):Option (bO U×a' U):=
 match l with
 |[]=>none
 |_=>j1 l env J
def EB(gl:ej)(o:bL)(env:bO U)(J:a' U):Option (bO U×a' U):=
 match o.op with
 |.slc _ x _ _=>match de gl o.guard env x with
  |some (.c (.arr b))=>match aU J b with
   |some (.arr t _)=>j1 [(b,t)] env J
   |_=>none
  |_=>none
 |.call _ args=>match o.guard with
  |some _=>zE (Ey gl o.guard env J args) env J
  |none=>none
 |.bsliceT _ _ _ _ ps=>zE (Ey gl o.guard env J (ps.map Prod.snd)) env J
 |.bslice _ _ _ ps=>zE (Ey gl o.guard env J (ps.map Prod.snd)) env J
 |_=>none
def CR(fo:fG U)(d:Option (List Nat))(o:bL)(key:Nat)(gl:ej)(nf:jB)(env:bO U)(J:a' U)(k:ej->jB->bO U->a' U->Option R):Option R:=
 match d with
 |some xb=>rl fo (some xb) o key gl nf env J k
 |none=>match EB gl o env J with
  |none=>rl fo none o key gl nf env J k
  |some p=>rl fo none o key gl nf p.1 p.2 k
def qC(fo:fG U)(d:Option (List Nat)):List bL->Nat->ej->jB->bO U->a' U->(ej->bO U->a' U->Option R)->Option R
 |[],_,gl,_,env,J,k=>k gl env J
 |o::r,key,gl,nf,env,J,k=>CR fo d o key gl nf env J λgl nf env J=>qC fo d r (key+16) gl nf env J k
def Az(gl:ej)(k:Nat):Bool:=gl.any λe=>Nat.beq e.1 k
def clean(gl:ej):bO U->bO U
 |[]=>[]
 |(k,v)::r=>match Az gl k with
  |true=>clean gl r
  |false=>(k,v)::clean gl r
def zf(gl:ej)(env:bO U):bO U:=
 match gl with
 |[]=>env
 |_=>clean gl env
structure ey (key:Nat)(gl:ej)(nf:jB)(env:bO U)(J:a' U)(env1:Env)(J1:aF)(G:Nat->Bool):Prop where
 gh:c6 key J G env env1
 aj:gE gl env G
 eC:cq key J J1
 aA:∀g,g∈nf->cy env G (some g)=false
section
variable {P:Program}{kk key:Nat}{J J':a' U}{J1 bg:aF}{env:bO U}{env1:Env}{G:Nat->Bool}{gl:ej}{gd:Option (Nat×Bool)}{nf:jB}{dst:Option Nat}{v:bF U}{v1:V}
theorem GR{d:Option Nat}{v:bF U}{env:bO U}{k:Nat}:aU (gn d v env) k=if d=some k then some v else aU env k:=by
 cases d with
 |none=>rfl
 |some d=>
  grind[gn,aU,cR,ij]
theorem CS{o:Option (Nat×Bool)}{g:Bool}(h:k7 gl env p4 o=some g):o=none\/∃t b y,o=some (t,b)/\e5 env t b=some y:=by
 cases o with
 |none=>simp
 |some x=>
  grind[abD]
theorem Kc(aj:gE gl env G)(aA:∀g,g∈nf->cy env G (some g)=false):∀{a:Nat} {gd:Option (Nat×Bool)},ub nf gl a gd=true->cy env G gd=false
 |0,gd,h=>by grind[ub]
 |a+1,none,h=>by grind[ub]
 |a+1,some (t,b),h=>by
  simp only[ub,ko,List.any_eq_true,cH]at h;rcases h with⟨⟨f,c⟩,e,h1,d⟩|h
  . grind[cR]
  . have:=Kc aj aA h;rw[aj.aU t]at this
    grind[cy]
theorem ey.bind(he:c6 key J' G env env1)(aj:gE gl env G)(ay:cq key J' bg)(aA:∀g,g∈nf->cy env G (some g)=false)(L:b6 key J' v v1)(x:gd=none\/∃t b y,gd=some (t,b)/\e5 env t b=some y)(A:nE gl gd dst=true)(f:kQ nf dst=true):
 ey key (im gl gd dst) nf (gn dst v env) J' (dX env1 dst (cy env G gd) v1) bg (λk=>if dst=some k then cy env G gd else G k):=by
 refine⟨λk w a=>?_,?_,ay,λg j=>?_⟩
 . rw[GR]at a;rw[oR];split at a
   . grind
   . rename_i h;rw[ag h,ag h];exact he k w a
 . cases dst with
   |none=>
    have:im gl gd none=gl:=by cases gd<;>rfl
    simp_all[gn,reduceCtorEq,cv]
   |some d=>
    simp only[nE,cH,dW,s3]at A;have J:∀k t b,aU gl k=some (t,b)->k≠d/\t≠d:=by
     intro k t b a;have K:∀{l:ej},aU l k=some (t,b)->(k,t,b)∈l:=by
      intro l
      induction l with
      |nil=>grind[aU]
      |cons e r ih=>
       obtain⟨M,e⟩:=e;intro h;simp only[aU]at h;split at h
       . simp_all
       grind
     grind[ij]
    have H:∀t b,t≠d->e5 (gn (some d) v env) t b=e5 env t b:=by
     intro t b ht;unfold e5;rw[GR,ag (by grind)]
    have p:∀k t b,aU gl k=some (t,b)->∃y,e5 (gn (some d) v env) t b=some y/\(if some d=some k then cy env G gd else G k)=((if some d=some t then cy env G gd else G t)&&y):=by
     intro k t b a;obtain⟨y,E,F⟩:=aj.held k t b a
     grind
    cases gd with
    |none=>
     refine⟨λk a=>?_,λk t b a=>p k t b a⟩;by_cases c:some d=some k
     . rw[ab c];rfl
     . rw[ag c];exact aj.free k a
    |some g=>
     obtain⟨t0,b0⟩:=g;have B:t0≠d:=by
      grind[Bool.not_eq_true',ij]
     refine⟨λk a=>?_,λk t b a=>?_⟩
     . simp only[im,aU]at a;split at a
       . grind
       . rw[ag (by grind[ij])];exact aj.free k a
     . simp only[im,aU]at a;split at a
       . rename_i q;cases a;have:=cR q;subst this;rcases x with h|⟨t,b,y,h,D⟩
         . grind
         . cases h;refine⟨y,by grind,?_⟩;rw[ab rfl,ag (by simp;exactλe=>B e.symm)];simp[cy,D]
       . exact p k t b a
 . obtain⟨t,b⟩:=g;have h0:=aA _ j;cases dst with
   |none=>simpa[gn]using h0
   |some d=>
    simp only[kQ,dW,s3]at f;have o:t≠d:=ij (f _ j);simp only[cy]at h0⊢;rw[ag (by simp;exactλe=>o e.symm)];have:e5 (gn (some d) v env) t b=e5 env t b:=by
     unfold e5;rw[GR,ag (by simp;exactλe=>o e.symm)]
    rw[this];exact h0
theorem Hs{N:Nat}{J:a' U}:b6 N J Dk (.c (.t (.bool false))):= .c (.t _)
theorem Cf{o:bL}(h:ey key gl nf env J env1 J1 G)(c:o.guard=none\/∃t b y,o.guard=some (t,b)/\e5 env t b=some y)(aj:cy env G o.guard=false)(d:nE gl o.guard o.dst=true)(e:kQ nf o.dst=true){v:bF U}{v1:V}(f:b6 (key+16) J v v1):
 DStep xb P o key env1 J1 false v1 J1/\ey (key+16) (im gl o.guard o.dst) nf (gn o.dst v env) J (dX env1 o.dst false v1) J1 (λk=>if o.dst=some k then false else G k):=by
 have a:=Cd h.gh c;rw[aj]at a;refine⟨.skip a rfl,?_⟩;have:=ey.bind (h.gh.mono (c7.more (by simp))) h.aj (h.eC.mono (Nat.le_add_right _ 16)) h.aA f c d e
 grind
theorem Ma{o:bL}{c:Bool}(h:ey key gl nf env J env1 J1 G)(g:cc gl o.guard env J key o.op=some (c,v,J'))(d:o.guard=none\/∃t b y,o.guard=some (t,b)/\e5 env t b=some y)(j:nE gl o.guard o.dst=true)(l:kQ nf o.dst=true):
 (cy env G o.guard=true->c=true->∃v1 bg,DStep xb P o key env1 J1 true v1 bg/\ey (key+16) (im gl o.guard o.dst) nf (gn o.dst v env) J' (dX env1 o.dst true v1) bg (λk=>if o.dst=some k then true else G k))/\
 (cy env G o.guard=false->o.op.neutral=true->∃v1,DStep xb P o key env1 J1 false v1 J1/\ey (key+16) (im gl o.guard o.dst) nf (gn o.dst v env) J (dX env1 o.dst false v1) J1 (λk=>if o.dst=some k then false else G k)):=by
 obtain⟨⟨v1,f,n⟩,s,aA⟩:=I' h.gh h.aj h.eC g;have i:=Cd h.gh d;refine⟨λaj q=>?_,λaj u=>?_⟩
 . obtain⟨p,bg,h1,a,m⟩:=n aj q;rw[aj]at i;have r:o.op.drawn=true:=by
    generalize o.op=w at g;cases w<;>first|rfl|(simp[cc]at g)
   have hs:DStep xb P o _ _ J1 _ v1 _:= .op i r h1 (λ_=>a) (.inr rfl);have e:(if o.op.neutral=true then J1 else bg)=bg:=by
    grind[uB]
   rw[e]at hs;refine⟨v1,bg,hs,?_⟩;have:=ey.bind (h.gh.mono s) h.aj m h.aA f d j l
   grind
 . rw[aA u]at f;obtain⟨h1,a⟩:=Cf h d aj j l f;exact⟨v1,h1,a⟩
theorem Ke{x:bc U}(h:x.ra=true):x.om.bG []=x.om:=by
 cases x<;>simp[bc.ra]at h<;>try rfl
 rename_i f caps;cases caps with
 |nil=>rfl
 |cons=>grind
theorem GS:∀{x:bF U},gu x=true->(fb x).bG []=fb x
 |.c x,h=>by grind[gu,fb,V.bG,Ke]
 |.agg cs,h=>by
  grind[gu,fb,V.bG,List.map_congr_left,Ke]
 |.aS vs,h=>by
  simp[fb,V.bG];rw[go vs h]
where go:∀(vs:List (bF U)),gu.go vs=true->V.bG.go [] (fb.go vs)=fb.go vs
 |[],_=>rfl
 |v::vs,h=>by
  simp[gu.go]at h;simp[fb.go,V.bG.go,GS h.1,go vs h.2]
def wi(s:cx U):Prop:=fJ U.ro s.f=true->∀h r,s.F h=some r->s.rest r=s.hc h
theorem wi.no{s:cx U}(h:fJ U.ro s.f=false):wi s:=λa=>by rw[h]at a;cases a
def fu(P:Program)(fo:fG U):Prop:=∀f s,s∈fo f->s.f=f/\gS P f=true/\hz P s/\wi s
theorem GU{N:Nat}{a:a' U}{x:bc U}{d:C}(h:ca N a x d)(hs:x.jf a=true):d=x.h2 a:=by
 cases h<;>simp[bc.jf]at hs<;>try rfl
 . grind[bc.h2]
 grind[bc.h2]
theorem Bs{a:a' U}:∀{vs:List (bF U)} {i:Nat},(hZ.go a vs)[i]?=(vs[i]?).map (hZ a)
 |[],i=>by rfl
 |v::vs,0=>by rfl
 |v::vs,i+1=>by simp[hZ.go,Bs]
theorem Sd{a:a' U}:∀{vs:List (bF U)} {i:Nat} {v:bF U},kc.go a vs=true->vs[i]?=some v->kc a v=true
 |[],i,v,_,h=>by grind
 |x::vs,0,v,hs,h=>by grind[kc.go]
 |x::vs,i+1,v,hs,h=>by simp[kc.go]at hs;exact Sd hs.2 (by simpa using h)
theorem Hf{N:Nat}{a:a' U}:∀{xs:List (bc U)} {b:List C},aQ (ca N a) xs b->(∀x,x∈xs->x.jf a=true)->b=xs.map (bc.h2 a)
 |[],[],_,_=>rfl
 |x::xs,d::b,.cons h1 c,hs=>by
  rw[je,<-GU h1 (hs x (by simp)),<-Hf c (λx e=>hs x (by grind))]
theorem KW{N:Nat}{a:a' U}{x:bF U}{d:V}(h:b6 N a x d):kc a x=true->d=hZ a x:=by
 induction h with
 |c h=>intro hs;rw[GU h hs];rfl
 |agg h=>
  grind[kc,hZ,Hf]
 |aS xs f ad h ih=>
  intro hs
  congr 1
  apply s5;intro i;rw[Bs];cases b:xs[i]? with
  |none=>grind
  |some x=>
   have hi:=(dO.1 b).1;have e:=eu (l:=f) (i:=i) (by omega);rw[e]
   congr 1
   exact ih i x _ b e (Sd hs b)
theorem Mb{N:Nat}{a:a' U}{x:ct U}{y:bp}(h:hb N a x y)(hs:fQ a x=true):y=p0 a x:=by
 cases h with
 |box h=>grind[fQ,p0,Hf]
 |arr t l=>rfl
 |set ks=>rfl
 |buf E s=>rfl
 |bX h=>grind[fQ,p0,GU]
 |cu=>grind[fQ]
 |rows=>grind[fQ]
theorem yG{a:a' U}:∀{l:a' U} {b:Nat},aJ (ja a l) b=(aU l b).map (p0 a)
 |[],b=>rfl
 |(k,x)::r,b=>by
  simp[ja,aJ,aU];cases h:Nat.beq k b with
  |true=>simp_all
  |false=>rw[ag (ij h)];exact yG
theorem Mk{k:Nat}:∀{v:V},v.bV (back [] k)=v.bu k
 |.c x=>by rfl
 |.agg cs=>by rfl
 |.aS vs=>by simp[V.bV,V.bu];rw[go vs]
where go:∀(vs:List V),V.bV.go _ vs=V.bu.go k vs
 |[]=>rfl
 |v::vs=>by simp only[V.bV.go,V.bu.go];rw[Mk,go vs]
theorem Ji{k:Nat}{J1:aF}:∀{s:aF},fI J1 [] (back [] k) s=l9 J1 k s
 |[]=>rfl
 |(b,x)::r=>by
  simp[fI];rw[Ji];rfl
theorem CI:∀{ss:List dJ} {j:Nat} {a:ep U} {i:Nat} {x:ct U},aU (hn j ss a) i=some x->j<=i/\i<j+ss.length
 |[],j,a,i,x,h=>by grind[hn,aU]
 |s::ss,j,a,i,x,h=>by
  simp[hn]at h;split at h
  . simp[aU]at h;split at h
    . simp_all
    . have:=CI h;grind
  . have:=CI h;grind
theorem Sq{bs:List Nat}:∀{caps:List Nat},(∀c,c∈caps->pos bs c=some c)->po bs caps=some caps
 |[],_=>rfl
 |c::cs,h=>by simp[po,h c _,Sq (caps:=cs) (λx a=>h x (by grind))]
theorem uQ{N:Nat}{a:a' U}(j:∀b x,aU a b=some x->b<N){x:bc U}(hs:x.jf a=true):ca N a x (x.h2 a)/\dv ((x.h2 a).bG (List.range N)) (x.h2 a):=by
 have g:∀b,hasB a b=true->pos (List.range N) b=some b:=by
  grind[hasB,mv]
 cases x with
 |t c=>exact⟨.t c,dv.refl _⟩
 |ptr b o=>
  refine⟨.ptr b o,?_⟩;simp only[bc.h2,C.bG,g b hs];exact dv.refl _
 |cl b ty i o=>
  refine⟨.cl b ty i o,?_⟩;simp only[bc.h2,C.bG,g b hs];exact dv.refl _
 |dx ty x o=>exact⟨.dx ty x o,dv.refl _⟩
 |arr b=>
  simp only[bc.jf]at hs;split at hs
  . rename_i y d;split at hs
    . rename_i p e;simp only[bc.h2,d,e];refine⟨.arr b p.1 p.2 (j b y d) λz l q k=>?_,?_⟩
      . grind
      grind[C.bG,hasB,dv.refl]
    grind
  grind
 |dS b lo len=>grind[bc.jf]
 |sub b lo len=>grind[bc.jf]
 |pre b h=>grind[bc.jf]
 |mp b=>
  refine⟨.mp b,?_⟩;simp only[bc.h2,C.bG,g b hs];exact dv.refl _
 |eh b=>grind[bc.jf]
 |cr b=>
  simp only[bc.jf]at hs;split at hs
  . rename_i y d;split at hs
    . rename_i p e;simp only[bc.h2,d,e];refine⟨.cr b p.2 (j b y d) λz l q k=>?_,?_⟩
      . grind[cR]
      grind[C.bG,hasB,dv.refl]
    grind
  grind
 |bC=>exact⟨.bC,dv.refl _⟩
 |eT=>exact⟨.eT,dv.refl _⟩
 |eS=>exact⟨.eS,dv.refl _⟩
 |fn f caps=>
  simp only[bc.jf]at hs;refine⟨.fn f caps,?_⟩
  grind[Sq,bc.h2,C.bG,dv.refl]
 |dead=>grind[bc.jf]
theorem vf{N:Nat}{a:a' U}(c:∀b x,aU a b=some x->b<N):∀{xs:List (bc U)},(∀x,x∈xs->x.jf a=true)->aQ (ca N a) xs (xs.map (bc.h2 a))/\aQ dv ((xs.map (bc.h2 a)).map (C.bG (List.range N))) (xs.map (bc.h2 a))
 |[],_=>⟨.nil,.nil⟩
 |x::xs,hs=>by
  obtain⟨h1,d⟩:=uQ c (hs x (by simp));obtain⟨e,f⟩:=vf c (xs:=xs) (λx g=>hs x (by grind));exact⟨.cons h1 e,.cons d f⟩
theorem QS{a:a' U}:∀{vs:List (bF U)},(hZ.go a vs).length=vs.length
 |[]=>rfl
 |v::vs=>by simp[hZ.go,QS]
theorem xR{N:Nat}{a:a' U}(e:∀b x,aU a b=some x->b<N):∀{x:bF U},kc a x=true->b6 N a x (hZ a x)/\fi ((hZ a x).bG (List.range N)) (hZ a x)
 |.c x,hs=>by
  obtain⟨h1,f⟩:=uQ e (x:=x) (by grind[kc]);exact⟨.c h1,.c f⟩
 |.agg cs,hs=>by
  simp[kc,dW]at hs;obtain⟨h1,f⟩:=vf e hs;exact⟨.agg h1,.agg f⟩
 |.aS vs,hs=>by
  have:=go e vs hs;refine⟨.aS _ _ (by rw[QS]) λi x d g j=>?_,.aS _ _ (by rw[Br]) λi x y g k=>?_⟩
  . grind[Bs]
  grind[B2,Bs]
where go {N:Nat} {a:a' U} (e:∀b x,aU a b=some x->b<N):∀(vs:List _),kc.go a vs=true->∀x,x∈vs->b6 N a x (hZ a x)/\fi ((hZ a x).bG (List.range N)) (hZ a x)
 |[],_=>by simp
 |v::vs,hs=>by
  simp[kc.go]at hs;have h1:=xR e hs.1;have f:=go e vs hs.2
  grind
theorem Sr {fo:fG U}(ae:fu P fo){o:bL}{f:Nat}{args:List aL}(ai:o.op= .call f args)(h:ey key gl nf env J env1 J1 G)(z:o.guard=none)(Z:nE gl o.guard o.dst=true)(ab:kQ nf o.dst=true)
 {k:a' U->bF U->Option R}{r:R}:∀{ss:List (cx U)},(∀s,s∈ss->s∈fo f)->ze (λe=>lq gl o.guard e args) env J key k ss=some r->
 ∃v v1 J' bg,k J' v=some r/\DStep xb P o key env1 J1 true v1 bg/\ey (key+16) (im gl o.guard o.dst) nf (gn o.dst v env) J' (dX env1 o.dst true v1) bg (λi=>if o.dst=some i then true else G i)
 |[],_,g=>by grind[ze]
 |s::ss,ag,g=>by
  simp only[ze]at g;split at g
  . exact Sr ae ai h z Z ab (λs hs=>ag s (by grind)) g
  . rename_i aa A;unfold EC at A;split at A
    . rename_i vs ah ak;simp only[cH]at ah;split at A
      . rename_i a K ar;rw[dW]at K;obtain⟨aF,aW,aG,aZ⟩:=ae f s (ag s (by simp));obtain⟨p,F,b1,b2,am⟩:=sh h.gh h.aj ak;have aH:s.st=[]:=by grind[isNil]
        have Q:=ik ah.2;obtain⟨m,hres,H⟩:=jt.1 g;split at H
        . rename_i B;simp only[cH]at B;obtain⟨aT,f1,ad,ao⟩:=tQ (N:=key) (Jc:=([]:a' U)) (vo) (λj b aS aY=>by grind) ar
          obtain⟨O,az,an,cz⟩:=ao F b2.length (λi x d g t=>by
           obtain⟨M,h1,w⟩:=b2.get g
           rw[t]at h1;cases h1;omega)
          have aX:aR.cells U.D s.ts aa=a:=aR.mc A;have au:s.args aa=aT:=by
           unfold cx.args;have:=f1 []
           grind
          have W:s.hc aa=[]:=by unfold cx.hc;rw[aH];rfl
          have af:s.st.length=0:=by grind
          have X:=aG aa m hres O [] (by
           rw[au,W,af]
           refine aQ.kr (by rw[ad,az,b2.length]) λi x d g t=>cz i x d g t) (by rw[W];intro b x g;grind[aU])
          rw[aF,af]at X;have aI:aQ fi F O:=by
           refine aQ.kr az.symm λi d M t ay=>?_
           have ak:=an i d M t ay;obtain⟨x,g,I⟩:=(b2.flip (R':=λd x=>b6 key J x d) λ_ _ h=>h).get t;have hs:=K x (eU g);have:=xQ I hs
           grind[GS]
          have aw:=dG.conv aI (J:=[]) (λb aS g=>by grind[aJ]) X
          have q:∀b x,aU (s.rest m) b=some x->b<16/\fQ (s.rest m) x=true:=by
           intro b x g;have aD:∀{l:a' U},aU l b=some x->(b,x)∈l:=by
            intro l
            induction l with
            |nil=>grind[aU]
            |cons e r ih=>
             obtain⟨a0,e⟩:=e;intro h;simp only[aU]at h;split at h
             . simp_all
             grind
           have:=B.2;unfold Hk at this;rw[dW]at this;have w:=this _ (aD g);simp only[cH]at w;exact⟨by have:=ik w.1;omega,w.2⟩
          have u:∀b x,aU (s.rest m) b=some x->b<s.ev.length:=by
           intro b x g;have:=(CI g).2;omega
          have ax:dG P f F [] 0 (λaO aP al=>aO=hZ (s.rest m) (s.res m)/\aP=ja (s.rest m) (s.rest m)/\al=s.ev.length):=by
           refine dG.tidy aw ?_
           rintro a1 s1 aV ⟨rfl,aM,aN⟩
           have aE:=KW aM B.1;subst aE;refine⟨List.range s.ev.length,_,_,List.nodup_range,rfl,?_,?_,rfl,rfl,by simp⟩
           . exact(xR u B.1).2
           . intro b x g;rw[yG,bb]at g;obtain⟨L,C,rfl⟩:=g;obtain⟨h1,y,w,ap⟩:=aN b L C;have aK:=Mb ap (q b L C).2;subst aK;have ht:=ys (bs:=List.range s.ev.length) (i:=0) (j:=b) (r:=List.range s.ev.length) (by simp[h1]) w;rw[fp]at ht;refine⟨_,ht,?_⟩;cases L with
             |box cs=>
              have n:=(q b _ C).2;simp only[fQ,dW]at n;exact .box (vf u n).2
             |arr ty l=>exact .arr
             |rows sz l=>have n:=(q b _ C).2;simp[fQ]at n
             |set ks=>exact .same
             |buf E s=>exact .same
             |bX E c=>have n:=(q b _ C).2;exact .bX (uQ u (by simpa[fQ]using n)).2
             |cu=>have n:=(q b _ C).2;simp[fQ]at n
          have av:V.aq.V.dI (lt 0) F=true:=by
           refine sb λi d t=>?_
           obtain⟨x,g,I⟩:=(b2.flip (R':=λd x=>b6 key J x d) λ_ _ h=>h).get t;have hs:=K x (eU g);have:=xQ I hs;subst this;exact(sK (N:=key) (J:=J) hs).2 _
          have aj:fB env1 o.guard=some true:=by rw[z];rfl
          have aC:(ja (s.rest m) (s.rest m)).all (λx=>decide (x.1<16))=true:=by
           have aB:=B.2;unfold Hk at aB;have:∀{l:a' U},(l.all λp=>Nat.ble (p.1+1) 16&&fQ (s.rest m) p.2)=true->(ja (s.rest m) l).all (λx=>decide (x.1<16))=true:=by
            intro l
            induction l with
            |nil=>intro _;rfl
            |cons e r ih=>
             obtain⟨b,x⟩:=e;intro h;simp only[lY,cH]at h;simp only[ja,lY,cH,hq];exact⟨by have:=ik h.1.1;omega,ih h.2⟩
           grind
          have Y:b6 s.ev.length (s.rest m) (s.res m) (hZ (s.rest m) (s.res m))/\cq s.ev.length (s.rest m) (ja (s.rest m) (s.rest m)):=by
           refine⟨(xR u B.1).1,λb x g=>?_⟩;refine⟨u b x g,p0 (s.rest m) x,by rw[yG,g];rfl,?_⟩;cases x with
           |box cs=>
            have n:=(q b _ g).2;simp only[fQ,dW]at n;exact .box (vf u n).1
           |arr ty l=>exact .arr ty l
           |rows sz l=>have n:=(q b _ g).2;simp[fQ]at n
           |set ks=>exact .set ks
           |buf E s=>exact .buf E s
           |bX E c=>have n:=(q b _ g).2;exact .bX (uQ u (by simpa[fQ]using n)).1
           |cu=>have n:=(q b _ g).2;simp[fQ]at n
          have cm:s.ev.length<=([]:List Nat).length+16:=by simpa using Q
          have S:=cq.D4 (key:=key) (bs:=[]) vo (by simp) cm h.eC rfl Y.2;have T:=b6.bV (key:=key) (bs:=[]) (J:=J) vo (by simp) cm h.eC Y.1;have aq:=Ce (key:=key) (bs:=[]) (Jr:=s.rest m) vo (by simp) h.eC rfl;rw[Mk]at T;rw[Ji]at S
          refine⟨_,(hZ (s.rest m) (s.res m)).bu key,_,l9 J1 key (ja (s.rest m) (s.rest m)),H,.own ai aj z b1 (am (by rw[z];rfl)) av Q aC ax rfl,?_⟩;have:=ey.bind (gd:=o.guard) (dst:=o.dst) (nf:=nf) (h.gh.mono aq) h.aj S h.aA T (.inl z) Z ab;rw[z]at this⊢;exact this
        . cases H
      . cases A
    . cases A
theorem Jj:∀{args:List aL} {p:Prop} {a:List V},gL env1 args=some (p,a)->kH env1 args=a.flatMap V.eE
 |[],p,a,h=>by simp[gL]at h;rw[h.2];rfl
 |x::xs,p,a,h=>by
  simp only[gL,a6,bb]at h;obtain⟨⟨c,v0⟩,h1,⟨d,e⟩,b,_,rfl⟩:=h;have ih:=Jj b
  grind[kH]
theorem Lo{N:Nat}{c:a' U}{x:bc U}{d:C}(h:ca N c x d):∀b,b∈x.eE->b∈d.eE:=by
 intro b a;cases h<;>simp only[bc.eE]at a⊢<;>first|exact a|(simp at a)
theorem KX{N:Nat}{e:a' U}:∀{xs:List (bc U)} {c:List C},aQ (ca N e) xs c->∀b,b∈xs.flatMap bc.eE->b∈c.flatMap C.eE
 |[],[],_,b,a=>a
 |x::xs,d::c,.cons h1 f,b,a=>by
  simp only[kl,fX]at a⊢;rcases a with a|a
  . grind[Lo]
  . exact .inr (KX f b a)
theorem acr{N:Nat}{e:a' U}{x:bF U}{d:V}(h:b6 N e x d):∀b,b∈x.eE->b∈d.eE:=by
 intro b a;cases h with
 |c h=>exact Lo h b a
 |agg h=>exact KX h b a
 |aS=>grind[bF.eE]
theorem KY{N:Nat}{e:a' U}:∀{xs:List (bF U)} {c:List V},aQ (b6 N e) xs c->∀b,b∈xs.flatMap bF.eE->b∈c.flatMap V.eE
 |[],[],_,b,a=>a
 |x::xs,d::c,.cons h1 f,b,a=>by
  simp only[kl,fX]at a⊢;rcases a with a|a
  . grind[acr]
  . exact .inr (KY f b a)
theorem KZ{l:List Nat}{b:Nat}(h:fJ l b=true):b∈l:=by
 simp_all[fJ]
theorem acs{b0:Nat}{s1:aF}{t:aD}{l:List (t.den U.D)}(t1:pX (eO [b0] J1 0 [b0]) s1)(t2:cq 1 ([(0,.arr t l)]:a' U) s1)(c:Nat):aJ (fI J1 [b0] (back [b0] key) (ja ([(0,.arr t l)]:a' U) [(0,.arr t l)])) c=aJ J1 c:=by
 obtain⟨_,y,o,n⟩:=t2 0 _ rfl;obtain⟨r,h1,a⟩:=t1 0 y o;obtain⟨j,d,p,q,b,bf,rfl⟩:=nr h1;have k:j=0:=by omega
 subst k;have i:b0=d:=by simpa using b
 subst i;have f:aJ J1 b0=some (.arr (t.sz U) (l.map (t.enc U))):=by
  rw[bf];cases n;cases p<;>simp only[bp.bG]at a<;>cases a<;>rfl
 simp only[ja,p0,fI,bp.bV,cE,oS];have g:back [b0] key 0=b0:=rfl;rw[g];split
 . rename_i e;rw[<-e,f]
 . rename_i m;rw[ag (by simpa usingλe=>m e.symm)]
theorem FR {fo:fG U}(ak:fu P fo){o:bL}{f:Nat}{args:List aL}(an:o.op= .call f args)(h:ey key gl nf env J env1 J1 G)(L:o.guard=none\/∃t b y,o.guard=some (t,b)/\e5 env t b=some y)(ah:nE gl o.guard o.dst=true)(ai:kQ nf o.dst=true)
 (M:cy env G o.guard=true){k:a' U->bF U->Option R}{r:R}:∀{ss:List (cx U)},(∀s,s∈ss->s∈fo f)->u0 xb (λe=>lq gl o.guard e args) env J key k ss=some r->
 ∃v v1 J' bg,k J' v=some r/\DStep xb P o key env1 J1 true v1 bg/\ey (key+16) (im gl o.guard o.dst) nf (gn o.dst v env) J' (dX env1 o.dst true v1) bg (λi=>if o.dst=some i then true else G i)/\(fJ U.ro f=true->∀b,aJ bg b=aJ J1 b)
 |[],_,m=>by grind[u0]
 |s::ss,am,m=>by
  simp only[u0]at m;split at m
  . exact FR ak an h L ah ai M (λs hs=>am s (by grind)) m
  . rename_i bs aa q;obtain⟨O,ba,aX,aV⟩:=ak f s (am s (by simp));obtain⟨g,hres,A⟩:=jt.1 m;unfold Qj at q;split at q
    . grind
    . rename_i vs a0;split at q;split at q
      . grind
      . rename_i w;simp only[cH,dW]at w;obtain⟨_,aD,K,aE,aF,aG⟩:=w;split at q
        . rename_i a b ay Z;split at q
          . rename_i bd aO;cases q;have bR:=yu aD;have aI:=λb w=>ik (K b w).1
            have al:=cR aE;have be:=ik aF;have cm:=ik aG;obtain⟨p,Q,b1,b2,ar⟩:=sh h.gh h.aj a0;have aH:=zd bR Z;obtain⟨a6,f1,ad,au⟩:=tQ (N:=key) bR aH ay
            obtain⟨T,az,a9,cz⟩:=au Q b2.length (λi x d m ag=>by
             obtain⟨a8,h1,W⟩:=b2.get m
             grind)
            obtain⟨ap,t1,t2⟩:=CA bR h.eC Z;have bc:=aR.mc aO;have aC:s.args aa=a6:=by grind[cx.args]
            have Y:s.hc aa=hn 0 s.st b:=by grind[cx.hc]
            have ae:=aX aa g hres T ap (by
             rw[aC,Y,<-al]
             exact aQ.kr (by rw[ad,az,b2.length]) λi x d m ag=>cz i x d m ag) (by grind)
            rw[O,<-al]at ae;have aY:aQ fi (Q.map (V.bG bs)) T:=by
             grind[aQ.kr]
            have aK:=dG.conv aY t1 ae
            split at A
            . rename_i c C ab;simp only[cH]at C;split at A
              rotate_left
              . cases A
              rename_i H;split at A
              . rename_i aN;subst aN;have aW:fJ U.ro f=true->∀b,aJ (fI J1 bs (back bs key) (ja (s.rest g) (s.rest g))) b=aJ J1 b:=by
                 intro I c;have he:=aV (by rw[O];exact I) aa g hres;have a5:cq bs.length (s.rest g) ap:=by rw[he,Y];exact t2
                 unfold QB at H;rw[O,I]at H;simp only[eb,AT]at H;generalize s.rest g=X at*;split at H
                 . exact acs t1 a5 c
                 . cases H
                have u:∀b x,aU (s.rest g) b=some x->fQ (s.rest g) x=true:=by
                 intro b x m;have bf:∀{l:a' U},aU l b=some x->(b,x)∈l:=by
                  intro l
                  induction l with
                  |nil=>intro h;simp[aU]at h
                  |cons e r ih=>
                   obtain⟨bh,e⟩:=e;intro h;simp only[aU]at h;split at h
                   . simp_all
                   grind
                 have:=C.2;unfold Hr at this
                 grind
                have z:∀b x,aU (s.rest g) b=some x->b<s.ev.length:=by
                 intro b x m;have:=(CI m).2;omega
                have aM:dG P f (Q.map (V.bG bs)) (eO bs J1 0 bs) bs.length (λa3 a4 aq=>a3=hZ (s.rest g) (s.res g)/\a4=ja (s.rest g) (s.rest g)/\aq=s.ev.length):=by
                 refine dG.tidy aK ?_
                 rintro bi s1 a7 ⟨rfl,a1,a2⟩
                 have aT:=KW a1 C.1;subst aT;refine⟨List.range s.ev.length,_,_,List.nodup_range,?_,?_,?_,rfl,rfl,by simp⟩
                 . unfold keeps
                   grind
                 . exact(xR z C.1).2
                 . intro b x m;rw[yG,bb]at m;obtain⟨S,D,rfl⟩:=m;obtain⟨h1,y,W,F⟩:=a2 b S D;have ao:=Mb F (u b S D);subst ao;have ht:=ys (bs:=List.range s.ev.length) (i:=0) (j:=b) (r:=List.range s.ev.length) (by simp[h1]) W;rw[fp]at ht;refine⟨_,ht,?_⟩;cases S with
                   |box cs=>
                    have n:=u b _ D;simp only[fQ,dW]at n;exact .box (vf z n).2
                   |arr ty l=>exact .arr
                   |rows sz l=>have n:=u b _ D;simp[fQ]at n
                   |set ks=>exact .same
                   |buf E s=>exact .same
                   |bX E c=>have n:=u b _ D;exact .bX (uQ z (by simpa[fQ]using n)).2
                   |cu=>have n:=u b _ D;simp[fQ]at n
                have aB:=Cd h.gh L;have aS:(ja (s.rest g) (s.rest g)).all (λx=>decide (x.1<bs.length+16))=true:=by
                 have aP:=C.2;unfold Hr at aP;have:∀{l:a' U},(l.all λp=>Nat.ble (p.1+1) (bs.length+16)&&fQ (s.rest g) p.2)=true->(ja (s.rest g) l).all (λx=>decide (x.1<bs.length+16))=true:=by
                  intro l
                  induction l with
                  |nil=>intro _;rfl
                  |cons e r ih=>
                   obtain⟨b,x⟩:=e;intro h;simp only[lY,cH]at h;simp only[ja,lY,cH,hq];exact⟨by have:=ik h.1.1;omega,ih h.2⟩
                 grind
                have af:b6 s.ev.length (s.rest g) (s.res g) (hZ (s.rest g) (s.res g))/\cq s.ev.length (s.rest g) (ja (s.rest g) (s.rest g)):=by
                 refine⟨(xR z C.1).1,λb x m=>?_⟩;refine⟨z b x m,p0 (s.rest g) x,by rw[yG,m];rfl,?_⟩;cases x with
                 |box cs=>
                  have n:=u b _ m;simp only[fQ,dW]at n;exact .box (vf z n).1
                 |arr ty l=>exact .arr ty l
                 |rows sz l=>have n:=u b _ m;simp[fQ]at n
                 |set ks=>exact .set ks
                 |buf E s=>exact .buf E s
                 |bX E c=>have n:=u b _ m;exact .bX (uQ z (by simpa[fQ]using n)).1
                 |cu=>have n:=u b _ m;simp[fQ]at n
                have aw:=cq.D4 (key:=key) (bs:=bs) bR aI cm h.eC ab af.2;have ax:=b6.bV (key:=key) (bs:=bs) (J:=J) bR aI cm h.eC af.1;have av:=Ce (key:=key) (bs:=bs) (Jr:=s.rest g) bR aI h.eC ab;have I:∀b,b∈bs->∃x,aJ J1 b=some x:=by
                 intro b w;have F:=(K b w).2.2;unfold hasB at F;split at F
                 . rename_i x m;obtain⟨_,y,ao,_⟩:=h.eC b x m
                   grind
                 . cases F
                have aZ:∀b,b∈bs->b∈kH env1 args++xb:=by
                 intro b w;rw[Jj b1];have B:=(K b w).2.1;rw[ko]at B;rcases B with B|B
                 . exact List.mem_append_left _ (KY b2 b (KZ B))
                 . exact Er _ (KZ B)
                refine⟨_,(hZ (s.rest g) (s.res g)).bV (back bs key),_,_,A,.raw an (by rw[aB,M]) rfl b1 (ar M) bR aI I aZ cm aS aM rfl,?_,aW⟩;have:=ey.bind (gd:=o.guard) (dst:=o.dst) (nf:=nf) (h.gh.mono av) h.aj aw h.aA ax L ah ai;simp_all
              . cases A
            . cases A
          . cases q
        . cases q
theorem F' {fo:fG U}(T:fu P fo){o:bL}{f:Nat}{args:List aL}(w:o.op= .call f args\/(o.guard=none/\∃x q,o.op= .callv x args/\x.get env1=some (q,.c (.fn f []))/\q))(h:ey key gl nf env J env1 J1 G)(F:o.guard=none\/∃t b y,o.guard=some (t,b)/\e5 env t b=some y)(Q:nE gl o.guard o.dst=true)(S:kQ nf o.dst=true)
 {g:Bool}(aj:g=cy env G o.guard){k:bF U->Option R}{r:R}:∀{ss:List (cx U)},(∀s,s∈ss->s∈fo f)->vU (λe=>lq gl o.guard e args) env g k ss=some r->
 ∃v v1,k v=some r/\DStep xb P o key env1 J1 g v1 J1/\ey (key+16) (im gl o.guard o.dst) nf (gn o.dst v env) J (dX env1 o.dst g v1) J1 (λi=>if o.dst=some i then g else G i)
 |[],_,l=>by grind[vU]
 |s::ss,Z,l=>by
  simp only[vU]at l;split at l
  . exact F' T w h F Q S aj (λs hs=>Z s (by grind)) l
  . rename_i aa B;unfold ED at B;split at B
    . rename_i vs aG C;split at B
      . rename_i a I ak;rw[dW]at I;obtain⟨aq,am,ar,aH⟩:=T f s (Z s (by simp));obtain⟨p,E,b1,b2,af⟩:=sh h.gh h.aj C;have au:s.st=[]:=by grind[isNil]
        obtain⟨u,hres,H⟩:=jt.1 l;split at H
        . rename_i ae;obtain⟨aw,ax⟩:=sK (N:=key+16) (J:=J) ae;have L:=Cd h.gh F;rw[<-aj]at L;have ai:ey (key+16) (im gl o.guard o.dst) nf (gn o.dst (s.res u) env) J (dX env1 o.dst g (fb (s.res u))) J1 (λi=>if o.dst=some i then g else G i):=by
           have:=ey.bind (dst:=o.dst) (h.gh.mono (c7.more (by simp:key<=key+16))) h.aj (h.eC.mono (Nat.le_add_right key 16)) h.aA aw F Q S
           grind
          refine⟨s.res u,fb (s.res u),H,?_,ai⟩;have X:g=true->p/\V.aq.V.dI (lt 0) E=true/\(fb (s.res u)).aq (lt 0)=true/\dG P f E [] 0 (λay _ _=>ay=fb (s.res u)):=?_
          . rcases w with w|⟨W,x,q,w,l,ap⟩
            . exact .call w L b1 X
            . have A:g=true:=by rw[aj,W];rfl
              exact .callv w W A l ap am b1 (X A)
          intro A;rw[ab A]at hres
          obtain⟨aC,f1,ad,ah⟩:=tQ (N:=key) (Jc:=([]:a' U)) (vo) (λj b aB aF=>by grind) ak
          obtain⟨K,az,ag,cz⟩:=ah E b2.length (λi x d l m=>by
           obtain⟨z,h1,aD⟩:=b2.get l
           rw[m]at h1;cases h1;omega)
          have aE:aR.cells U.D s.ts aa=a:=aR.mc B;have al:s.args aa=aC:=by
           unfold cx.args;have:=f1 []
           grind
          have M:s.hc aa=[]:=by unfold cx.hc;rw[au];rfl
          have Y:s.st.length=0:=by grind
          have O:=ar aa u hres K [] (by
           rw[al,M,Y]
           refine aQ.kr (by rw[ad,az,b2.length]) λi x d l m=>cz i x d l m) (by rw[M];intro b x l;grind[aU])
          rw[aq,Y]at O;have av:aQ fi E K:=by
           refine aQ.kr az.symm λi d z m an=>?_
           have C:=ag i d z m an;obtain⟨x,l,n⟩:=(b2.flip λ_ _ h=>h).get m
           exact af7 (I x (eU l)) C n
          refine⟨af (by grind),?_,ax _,?_⟩
          . refine sb λi d m=>?_
            obtain⟨x,l,n⟩:=(b2.flip (R':=λd x=>b6 key J x d) λ_ _ h=>h).get m;exact af8 (I x (eU l)) n
          . refine dG.conv av (λb aB l=>by simp[aJ]at l) (O.mono λaI bg N' ao=>?_)
            exact xQ ao.2.1 ae
        . cases H
      grind
    grind
where
 af7 {x:bF U} {d z:V} (hs:gu x=true) (C:fi (d.bG []) z) (n:b6 key J x d):fi d z:=by
  have:=xQ n hs
  grind[GS]
 af8 {x:bF U} {d:V} (hs:gu x=true) (n:b6 key J x d):d.aq (lt 0)=true:=by
  have:=xQ n hs
  grind[sK]
theorem B5 {fo:fG U}(T:fu P fo){f:Nat}{I:kB U}{cal:Env->List V->Prop}
 (Y:∀{env':bO U} {J2:a' U} {j:Env} {vs:List (bF U)},c6 key J2 G env' j->gE gl env' G->I env'=some vs->∃q,aQ (b6 key J2) vs q/\cal j q)
 (he:c6 key J G env env1)(aj:gE gl env G)(ay:cq key J J1){k:bO U->a' U->bF U->Option R}{r:R}:∀{ss:List (cx U)},(∀s,s∈ss->s∈fo f)->vV I env J key k ss=some r->
 ∃env' J2 j bg q,Conv kk key env1 J1 key j bg/\c6 key J2 G env' j/\gE gl env' G/\(∀t b,e5 env' t b=e5 env t b)/\cal j q/\gS P f=true/\
  Hj P f q bg key j (λab s1=>∃z v,k env' z v=some r/\c6 (key+16) z G env' j/\cq (key+16) z s1/\b6 (key+16) z v ab)
 |[],_,m=>by grind[vV]
 |s::ss,Z,m=>by
  simp only[vV]at m;split at m
  . exact B5 T Y he aj ay (λs hs=>Z s (by grind)) m
  . rename_i env' J2 bs h g;obtain⟨aC,aq,aE,aX⟩:=T f s (Z s (by simp));obtain⟨aL,hres,y⟩:=jt.1 m;unfold Qi at g;split at g
    . grind
    . split at g;split at g
      . cases g
      . rename_i aV aP W;split at g
        . cases g
        . rename_i vs aG;split at g
          . cases g
          . rename_i u;simp only[cH,dW]at u;obtain⟨ak,al,am,an⟩:=u;split at g
            . rename_i a b ah L;split at g
              . rename_i aa aA;cases g;have bR:=yu ak;have aI:∀b,b∈bs->b<key:=λb u=>ik (al b u)
                have F:=cR am;have aB:=ik an;obtain⟨j,bg,aw,E,A,X⟩:=uh (kk:=kk) (gl:=gl) W he ay;obtain⟨q,b2,ar⟩:=Y E (X aj) aG;have au:=zd bR L;obtain⟨aO,f1,ad,af⟩:=tQ (N:=key) bR au ah
                obtain⟨H,az,aT,cz⟩:=af q b2.length (λi x d m C=>by
                 obtain⟨ae,h1,ag⟩:=b2.get m
                 grind)
                obtain⟨aM,t1,t2⟩:=CA bR A L;have O:aR.cells U.D s.ts h=a++b:=aR.mc aA;have ai:s.args h=aO:=by unfold cx.args;rw[O,f1]
                have K:s.hc h=hn 0 s.st b:=by unfold cx.hc;rw[O,f1]
                have Q:=aE h aL hres H aM (by
                 rw[ai,K,<-F]
                 exact aQ.kr (by rw[ad,az,b2.length]) λi x d m C=>cz i x d m C) (by rw[K,<-F];exact t2)
                rw[aC,<-F]at Q;have aF:aQ fi (q.map (V.bG bs)) H:=by
                 refine aQ.kr (by simp[az]) λi d ae C aW=>?_
                 grind
                have av:=dG.conv aF t1 Q
                split at y
                . cases y
                . rename_i c M;split at y
                  . rename_i ax;subst ax;have cm:s.ev.length<=bs.length+16:=aB;refine⟨env',J2,j,bg,q,aw,E,X aj,λt b=>N5 W,ar,aq,?_⟩;intro ao nt φ S a w R ap aN aH;refine(gp.raw (n:=lt key) (key:=key) bR aI av ?_ (λb u=>by simp[lt];exact aI b u) ao nt φ S j a w R (λb h1 _=>C9 h1) ap aN aH)
                    rintro ab s1 N' ⟨rfl,aJ,aK⟩
                    refine⟨cm,_,_,y,E.mono (Ce bR aI A M),cq.D4 bR aI cm A M aK,b6.bV bR aI cm A aJ⟩
                  . cases y
              . cases g
            . cases g
where
 N6 {env:bO U} {b0:Nat} {ty:aD} {l:List (ty.den U.D)} {t:Nat} {b:Bool}:e5 (rj b0 (⟨.slice ty,l⟩:Cell U.D) env) t b=e5 env t b:=by
  unfold e5;rw[CG];cases aU env t with
  |none=>rfl
  |some v=>
   cases v with
   |c x=>
    cases x with
    |arr B=>grind[bF.cb,bc.cb]
    |cl B aY i o=>grind[bF.cb,bc.cb]
    |pre B h=>grind[bF.cb,bc.cb]
    |dS B lo h=>grind[bF.cb,bc.cb]
    |_=>rfl
   |agg cs=>rfl
   |aS vs=>rfl
 N5 {l:List (Nat×aD)} {env env':bO U} {J J':a' U} {t:Nat} {b:Bool} (h:j1 l env J=some (env',J')):e5 env' t b=e5 env t b:=by
  induction l generalizing env J with
  |nil=>grind[j1]
  |cons p l ih=>
   simp only[j1]at h;split at h
   . rename_i e s h1;have ag:e5 e t b=e5 env t b:=by
      unfold vR at h1;split at h1
      . split at h1
        . cases h1;exact N6
        grind
      . split at h1
        . cases h1;exact N6
        grind
      grind
     grind
   grind
theorem Zy{rof:List Nat}{o:b9}(h:gY rof o=true):∃f args,o= .call f args:=by
 unfold gY at h;split at h
 . exact⟨_,_,rfl⟩
 . cases h
theorem Ht{l:List Nat}{o:b9}{f:Nat}{args:List aL}(a:o= .call f args)(h:gY l o=true):fJ l f=true:=by
 subst a;simp only[gY,AF]at h;simp only[fJ,List.any_eq_true];exact⟨f,h,by simp⟩
theorem Jk{fo:fG U}(A:fu P fo){o:bL}(h:ey key gl nf env J env1 J1 G){k:ej->jB->bO U->a' U->Option R}{r:R}(a:rl fo (some xb) o key gl nf env J k=some r):
 ∃g v1 bg V aa env' J' ab,DStep xb P o key env1 J1 g v1 bg/\k V aa env' J'=some r/\ey (key+16) V aa env' J' (dX env1 o.dst g v1) bg ab/\(gY U.ro o.op=true->∀b,aJ bg b=aJ J1 b):=by
 unfold rl at a;split at a
 . grind
 . rename_i W;simp only[cH]at W;obtain⟨l,n⟩:=W;split at a
   . rename_i bP;split at a
     . rename_i D B;have ae:=Kc h.aj h.aA bP;obtain⟨h1,j⟩:=Cf (P:=P) h (CS B) ae l n (Hs (U:=U) (N:=key+16) (J:=J));exact⟨_,_,_,_,_,_,_,_,h1,a,j,λ_ _=>rfl⟩
     grind
   . split at a
     . rename_i f args p;split at a
       . split at a
         . rename_i g gd aj i;have z:o.guard=none\/∃t b y,o.guard=some (t,b)/\e5 env t b=some y:=by grind[CS]
           have u:g=cy env G o.guard:=B3 h.aj aj;split at a
           . obtain⟨v,v1,J',bg,h1,j,m,H⟩:=FR (fo:=fo) A p h z l n (by grind) (λs hs=>hs) a;exact⟨_,_,_,_,_,_,_,_,j,h1,m,λw=>H (Ht p w)⟩
           . have O:cy env G o.guard=false:=by grind
             have F:ey key gl (gd::nf) env J env1 J1 G:=⟨h.gh,h.aj,h.eC,λD B=>by
              rcases fF.1 B with rfl|S
              . grind
              . exact h.aA D S⟩
             have M:kQ (gd::nf) o.dst=true:=by
              cases L:o.dst with
              |none=>rfl
              |some d=>
               simp_all[kQ,lY,cH,nE]
             obtain⟨h1,j⟩:=Cf (P:=P) F z O l M (Hs (U:=U) (N:=key+16) (J:=J));exact⟨_,_,_,_,_,_,_,_,h1,a,j,λ_ _=>rfl⟩
         grind
       unfold H5 at a;split at a
       . rename_i i;simp only at a;split at a
         case h_2=>
          obtain⟨v,v1,J',bg,h1,j,m,H⟩:=FR (fo:=fo) A p h (.inl i) l n (by rw[i];rfl) (λs hs=>hs) a;exact⟨_,_,_,_,_,_,_,_,j,h1,m,λw=>H (Ht p w)⟩
         rename_i Z;simp only[cH,s3]at Z;rw[i]at a;obtain⟨v,v1,J',bg,h1,j,m⟩:=Sr (fo:=fo) A p h i l n (k:=λJ v=>k (im gl o.guard o.dst) nf (gn o.dst v env) J) (λs hs=>hs) (by rw[i];omega);exact⟨_,_,_,_,_,_,_,_,j,h1,m,λw=>by have:=Ht p w;rw[Z.1]at this;cases this⟩
       . rename_i gd i;split at a
         . rename_i g aj;rw[i]at a aj;obtain⟨v,v1,h1,j,m⟩:=F' (fo:=fo) A (.inl p) h (by grind[CS]) l n (g:=g) (by rw[i];exact B3 h.aj aj) (λs hs=>hs) (by rw[i];omega);rw[i]at m;exact⟨_,_,_,_,_,_,_,_,j,h1,m,λ_ _=>rfl⟩
         grind
     . rename_i x args p;split at a
       . grind
       . rename_i ah f L i ag;obtain⟨q,v1,a1,a2,a3⟩:=bZ h.gh h.aj ag;have:=a2.D2;subst this;obtain⟨v,v1,h1,j,m⟩:=F' (xb:=xb) (fo:=fo) A (.inr ⟨i,x,q,p,a1,a3 rfl⟩) h (.inl i) l n (g:=true) (by rw[i];rfl) (λs hs=>hs) (by rw[i];omega);rw[i]at m;exact⟨_,_,_,_,_,_,_,_,j,h1,m,λ_ _=>rfl⟩
       grind
     . rename_i af _;have C:∀{s1:aF},gY U.ro o.op=true->∀b,aJ s1 b=aJ J1 b:=λw=>by
        obtain⟨f,args,e⟩:=Zy w;exact absurd e (af f args)
       split at a
       . cases a
       . rename_i c v J' E;split at a
         . rename_i i;split at a
           . rename_i I;rw[i]at E;obtain⟨v1,bg,h1,j⟩:=(Ma (P:=P) (o:=o) h (by rw[i];exact E) (.inl i) l n).1 (by rw[i];rfl) I;rw[i]at j;exact⟨_,_,_,_,_,_,_,_,h1,a,j,C⟩
           . cases a
         . rename_i gd i;split at a
           . cases a
           . rename_i g aj;have z:o.guard=none\/∃t b y,o.guard=some (t,b)/\e5 env t b=some y:=by rw[i];exact CS aj
             have u:g=cy env G o.guard:=by rw[i];exact B3 h.aj aj
             have T:=Ma (P:=P) (o:=o) (xb:=xb) h E z l n;split at a
             . rename_i Y;split at a
               . rename_i K;cases X:g with
                 |true=>
                  rw[X]at K u;simp at K;obtain⟨v1,bg,h1,j⟩:=T.1 u.symm K;have ad:J'=J:=(I' h.gh h.aj h.eC E).af6 Y;rw[ad]at j;exact⟨_,_,_,_,_,_,_,_,h1,a,j,C⟩
                 |false=>
                  rw[X]at u;obtain⟨v1,h1,j⟩:=T.2 u.symm Y;exact⟨_,_,_,_,_,_,_,_,h1,a,j,C⟩
               . cases a
             . split at a
               . rename_i Q;split at a
                 . rename_i I;obtain⟨v1,bg,h1,j⟩:=T.1 (by rw[<-u];exact Q) I;exact⟨_,_,_,_,_,_,_,_,h1,a,j,C⟩
                 . cases a
               . rename_i Q;have O:cy env G o.guard=false:=by rw[<-u];simpa using Q
                 have F:ey key gl (gd::nf) env J env1 J1 G:=⟨h.gh,h.aj,h.eC,λD B=>by
                  rcases fF.1 B with rfl|S
                  . grind
                  . exact h.aA D S⟩
                 have M:kQ (gd::nf) o.dst=true:=by
                  cases L:o.dst with
                  |none=>rfl
                  |some d=>
                   rw[L]at n l;rw[i]at l;simp only[kQ,lY,cH];simp only[kQ]at n;simp only[nE,cH]at l
                   grind
                 obtain⟨h1,j⟩:=Cf (P:=P) F z O l M (Hs (U:=U) (N:=key+16) (J:=J));exact⟨_,_,_,_,_,_,_,_,h1,a,j,C⟩
theorem Ss {fo:fG U}(L:fu P fo){o:bL}(h:ey key gl nf env J env1 J1 G){k:ej->jB->bO U->a' U->Option R}{r:R}(d:rl fo none o key gl nf env J k=some r){K:Env->aF->Prop}
 (br:∀C T env' J' n bg ad,k C T env' J'=some r->ey (key+16) C T env' J' n bg ad->K n bg):
 ∃fD ae,Conv kk key env1 J1 key fD ae/\tR P o key fD ae K:=by
 by_cases i:rl fo (some []) o key gl nf env J k=some r
 . obtain⟨g,v1,bg,C,T,env',J',ad,h1,ak,al,_⟩:=Jk L h i;exact⟨env1,J1,Conv.refl,.inl (h1.fP (br _ _ _ _ _ _ _ ak al))⟩
 . unfold rl at d i;split at d
   . grind
   . rename_i I;rw[I]at i;simp only[cH]at I;obtain⟨z,ag⟩:=I;split at d
     . grind
     . rename_i bP;rw[bP]at i;simp only at i;split at d
       . rename_i f args j;rw[j]at i;simp only at i;split at d
         . rename_i O;rw[O]at i;exact absurd d i
         rename_i O;rw[O]at i;unfold H5 at d i;split at d
         . rename_i u;rw[u]at d;obtain⟨env',J2,n,bg,l,c1,c2,c3,c4,⟨p,M,N⟩,af,D⟩:=B5 (kk:=kk) (P:=P) L (f:=f) (cal:=λe vs=>∃p,gL e args=some (p,vs)/\p)
            (λhe aj y=>by
             obtain⟨p,l,b1,b2,B⟩:=sh he aj y
             exact⟨l,b2,p,b1,B rfl⟩) h.gh h.aj h.eC (λs hs=>hs) d
           refine⟨n,bg,c1,.inr ⟨by rw[u];rfl,f,l,.inl ⟨args,p,j,M,N⟩,?_⟩⟩;intro ao nt φ S a w E H aa Q;refine(D ao nt φ S a w E H aa Q).mono ?_
           rintro e w' ⟨v,Z,ab,bH,s1,rfl,⟨ah,v3,aZ,ba,bE,bU⟩,W,X,Y⟩
           refine⟨v,Z,ab,bH,s1,rfl,?_,W,X,Y⟩
           have F:=ey.bind (gd:=none) (dst:=o.dst) (nf:=nf) ba c3 bE (λg aj=>by
            obtain⟨t,b⟩:=g;have h0:=h.aA _ aj;simp only[cy]at h0⊢
            grind) bU (.inl rfl) (by rw[u]at z;exact z) ag
           exact br _ _ _ _ _ _ _ aZ F
         grind
       . rename_i x args j;split at d
         . rename_i f caps aw u ax;obtain⟨env',J2,n,bg,l,c1,c2,c3,c4,⟨q,p,m,A,ar,au,M,N,aq⟩,af,D⟩:=B5 (kk:=kk) (P:=P) L (f:=f) (cal:=λe vs=>∃q p m A,x.get e=some (q,.c (.fn f m))/\q/\gL e args=some (p,A)/\p/\vs=A++m.map λb=>V.c (.ptr b 0))
            (λhe aj y=>by
             split at y
             . rename_i av m ay az ai;split at y
               . rename_i am;have:=cR am;subst this;cases y;obtain⟨q,v1,a1,a2,a3⟩:=bZ he aj az;have:=a2.D2;subst this;obtain⟨p,l,b1,b2,B⟩:=sh he aj ai;refine⟨l++m.map λb=>V.c (.ptr b 0),b2.append ?_,q,p,m,l,a1,a3 rfl,b1,B rfl,rfl⟩;exact aQ.map_map (aQ.self (λb=>.c (.ptr b 0)) _)
               . cases y
             grind) h.gh h.aj h.eC (λs hs=>hs) d
           refine⟨n,bg,c1,.inr ⟨by rw[u];rfl,f,l,.inr ⟨x,args,q,p,m,A,j,ar,au,M,N,af,aq⟩,?_⟩⟩;intro ao nt φ S a w E H aa Q;refine(D ao nt φ S a w E H aa Q).mono ?_
           rintro e w' ⟨v,Z,ab,bH,s1,rfl,⟨ah,v3,aZ,ba,bE,bU⟩,W,X,Y⟩
           refine⟨v,Z,ab,bH,s1,rfl,?_,W,X,Y⟩
           have F:=ey.bind (gd:=none) (dst:=o.dst) (nf:=nf) ba c3 bE (λg aj=>by
            obtain⟨t,b⟩:=g;have h0:=h.aA _ aj;simp only[cy]at h0⊢
            grind) bU (.inl rfl) (by rw[u]at z;exact z) ag
           exact br _ _ _ _ _ _ _ aZ F
         . contradiction
         . cases d
       . rename_i op an ap
         exfalso
         refine i ?_;split
         . rename_i f args j;exact absurd j (an f args)
         . rename_i x args j;exact absurd j (ap x args)
         . exact d
theorem Zz{l:List (Nat×aD)}{p:bO U×a' U}(h:zE l env J=some p):∃l,j1 l env J=some p:=by
 grind[zE]
theorem YN{o:bL}{p:bO U×a' U}(h:EB gl o env J=some p):∃l,j1 l env J=some p:=by
 grind[EB,Zz]
theorem W6 {fo:fG U}(e:fu P fo){o:bL}(h:ey key gl nf env J env1 J1 G){k:ej->jB->bO U->a' U->Option R}{r:R}(a:CR fo none o key gl nf env J k=some r){K:Env->aF->Prop}
 (br:∀d f env' J' c bg i,k d f env' J'=some r->ey (key+16) d f env' J' c bg i->K c bg):
 ∃fD b,Conv kk key env1 J1 key fD b/\tR P o key fD b K:=by
 simp[CR]at a;split at a
 . exact Ss e h a br
 . rename_i p m;obtain⟨l,ad⟩:=YN m;obtain⟨az,s1,c1,c2,c3,c4⟩:=uh ad h.gh h.eC
   obtain⟨j,n,d1,d2⟩:=Ss e ⟨c2,c4 h.aj,c3,λg aj=>by
    have h0:=h.aA _ aj
    grind[cy,B5.N5]⟩ a br
   exact⟨j,n,c1.trans d1,d2⟩
end
end
section
open Go
variable [da]
variable {xb:List Nat}
variable {U:cK}{R:Type}
def gB(env:bO U):aL->Option (List Nat)
 |.const (.c (.t _))=>some []
 |.const (.c .bC)=>some []
 |.const (.agg _)=>some []
 |.const _=>none
 |.tmp k=>match aU env k with
  |some (.c (.ptr b _))=>some [b]
  |some (.c (.cl b _ _ _))=>some [b]
  |some (.c (.arr b))=>some [b]
  |some (.c (.sub b _ _))=>some [b]
  |some (.c (.pre b _))=>some [b]
  |some (.c (.dS b _ _))=>some [b]
  |some (.c (.mp b))=>some [b]
  |some (.c (.eh b))=>some [b]
  |some (.c (.cr b))=>some [b]
  |some (.c .dead)=>none
  |some _=>some []
  |none=>none
def zg:bc U->Bool
 |.dead=>true
 |_=>false
def yJ:bF U->Option (List Nat)
 |.c x=>match zg x with
  |true=>none
  |false=>some x.eE
 |.agg cs=>match cs.any zg with
  |true=>none
  |false=>some (cs.flatMap bc.eE)
 |.aS _=>some []
def ri(env:bO U):List aL->Option (List Nat)
 |[]=>some []
 |.const v::r=>match ri env r with
  |some l=>some (v.eE++l)
  |none=>none
 |.tmp k::r=>match aU env k with
  |some v=>match yJ v,ri env r with
   |some a,some l=>some (a++l)
   |_,_=>none
  |none=>none
def Il(xb:List Nat)(o:b9)(env:bO U)(key:Nat):Option (List Nat):=
 match o with
 |.alloc _|.allocA _|.box _|.bslice .. |.mslice .. |.mkset=>some [key]
 |.allocS .. =>some [key,key+1]
 |.lkset x _=>gB env x
 |.upset x _=>gB env x
 |.lkE _ x _=>gB env x
 |.upD x _ _=>gB env x
 |.bsliceC .. =>some [key]
 |.appendC _ _ x y=>match gB env x,gB env y with
  |some a,some b=>some (key::(a++b))
  |_,_=>none
 |.appendB _ _ x _=>match gB env x with
  |some a=>some (key::a)
  |none=>none
 |.ustr _ x _=>gB env x
 |.call _ args=>match ri env args with
  |some l=>some ((List.range 16).map (key+·)++(l++xb))
  |none=>none
 |.load _ _ x=>gB env x
 |.b2s x=>gB env x
 |.store _ x _=>gB env x
 |.append _ _ _ x y=>match gB env x,gB env y with
  |some a,some b=>some (key::(a++b))
  |_,_=>none
 |.appendT _ _ _ x y=>match gB env x,gB env y with
  |some a,some b=>some (a++b)
  |_,_=>none
 |_=>some []
def h'(xb:List Nat)(o:b9)(env:bO U)(key b:Nat):Option Bool:=
 match o with
 |.alloc _|.allocA _|.box _|.bslice .. |.mslice .. |.mkset=>some (Nat.beq b key)
 |.allocS .. =>some (Nat.beq b key||Nat.beq b (key+1))
 |.upset x _=>match gB env x with
  |some l=>some (fJ l b)
  |none=>none
 |.upD x _ _=>match gB env x with
  |some l=>some (fJ l b)
  |none=>none
 |.bsliceC .. =>some (Nat.beq b key)
 |.appendC _ _ x _=>match gB env x with
  |some l=>some (Nat.beq b key||fJ l b)
  |none=>none
 |.appendB _ _ x _=>match gB env x with
  |some l=>some (Nat.beq b key||fJ l b)
  |none=>none
 |.ustr _ x _=>match gB env x with
  |some l=>some (fJ l b)
  |none=>none
 |.store _ x _=>match gB env x with
  |some l=>some (fJ l b)
  |none=>none
 |.append _ _ _ x _=>match gB env x with
  |some l=>some (Nat.beq b key||fJ l b)
  |none=>none
 |.appendT _ _ _ x _=>match gB env x with
  |some l=>some (fJ l b)
  |none=>none
 |.call _ args=>match ri env args with
  |some l=>some ((Nat.ble key b&&Nat.ble (b+1) (key+16))||fJ (l++xb) b)
  |none=>none
 |_=>some false
def Ik(ro:List Nat):b9->Bool
 |.call f _=>fJ ro f
 |_=>false
def zC(xb:List Nat)(aP:List bL)(env:bO U)(N:Nat):List (Nat×Nat)->Bool
 |[]=>true
 |(i,j)::r=>(match p5 aP i,p5 aP j with
  |some x,some y=>match Ik U.ro x.op with
   |true=>true
   |false=>match Il xb y.op env (N+16*j)with
    |some l=>l.all λb=>match h' xb x.op env (N+16*i) b with
     |some w=>!w
     |none=>false
    |none=>false
  |_,_=>true)&&zC xb aP env N r
section
variable {P:Program}{kk N key:Nat}{J:a' U}{J1:aF}{env:bO U}{env1:Env}{G:Nat->Bool}
theorem kL(he:c6 N J G env env1){x:aL}{l:List Nat}(h:gB env x=some l):dC env1 x=l:=by
 unfold gB at h;split at h
 . cases h;rfl
 . cases h;rfl
 . cases h;rfl
 . grind
 . rename_i k;split at h
   all_goals (try (cases h;done))
   . rename_i b o d;obtain⟨v1,h1,a⟩:=he k _ d;have:=a.hx;grind[dC,aL.get]
   . rename_i b t i o d;obtain⟨v1,h1,a⟩:=he k _ d;have:=a.gK;grind[dC,aL.get]
   . rename_i b d;obtain⟨v1,h1,a⟩:=he k _ d;obtain⟨sz,n,rfl,_⟩:=a.fH
     grind[dC,aL.get]
   . rename_i b lo len d;obtain⟨v1,h1,a⟩:=he k _ d;have:v1= .c (.fq b 1 lo len):=by cases a with|c h=>cases h;rfl
     grind[dC,aL.get]
   . rename_i b q4 d;obtain⟨v1,h1,a⟩:=he k _ d;have:∃sz,v1= .c (.arr b sz 0 q4):=by cases a with|c h=>cases h;simp
     grind[dC,aL.get]
   . rename_i b lo q4 d;obtain⟨v1,h1,a⟩:=he k _ d;have:∃sz,v1= .c (.fq b sz lo q4):=by cases a with|c h=>cases h;simp
     grind[dC,aL.get]
   . rename_i b d;obtain⟨v1,h1,a⟩:=he k _ d;have:=a.Eg;grind[dC,aL.get]
   . rename_i b d;obtain⟨v1,h1,a⟩:=he k _ d;have:=a.QD;grind[dC,aL.get]
   . rename_i b d;obtain⟨v1,h1,a⟩:=he k _ d;obtain⟨n,rfl,_⟩:=a.wk
     grind[dC,aL.get]
   . rename_i v dy f g eB r e m p q j d;cases h;obtain⟨v1,h1,a⟩:=he k _ d;unfold dC;simp only[aL.get,h1,jW];cases a with
     |c a=>
      cases a<;>grind
     |agg a=>rfl
     |aS=>rfl
theorem nx{l:List Nat}{b:Nat}:fJ l b=l.contains b:=by
 unfold fJ;rw[Bool.eq_iff_iff];simp
theorem Jl{x:bc U}{d:C}(h:ca N J x d)(a:zg x=false):d.eE=x.eE:=by
 cases h<;>first|rfl|(simp[zg]at a)
theorem St:∀{xs:List (bc U)} {a:List C},aQ (ca N J) xs a->xs.any zg=false->a.flatMap C.eE=xs.flatMap bc.eE
 |[],[],_,_=>rfl
 |x::xs,d::a,.cons h1 c,b=>by
  simp only[List.any_cons,s0]at b;simp;rw[Jl h1 b.1,St c b.2]
theorem W7{v:bF U}{v1:V}{l:List Nat}(h:b6 N J v v1)(ad:yJ v=some l):v1.eE=l:=by
 cases h with
 |c h=>
  simp[yJ]at ad;split at ad
  . grind
  . rename_i a;cases ad;exact Jl h a
 |agg h=>
  simp[yJ]at ad;split at ad
  . grind
  . rename_i a;cases ad;exact St h a
 |aS=>simp only[yJ,cQ]at ad;rw[<-ad];rfl
theorem Cv(he:c6 N J G env env1):∀{args:List aL} {l:List Nat},ri env args=some l->kH env1 args=l
 |[],l,h=>by simp[ri]at h;subst h;rfl
 |.const v::r,l,h=>by
  simp[ri]at h;split at h
  . rename_i d b;cases h;have ih:=Cv he b;simp[kH]at ih⊢;rw[ih];rfl
  grind
 |.tmp k::r,l,h=>by
  simp only[ri]at h;split at h
  . rename_i v c;split at h
    . rename_i a d f b;have ih:=Cv he b;obtain⟨v1,h1,e⟩:=he k v c
      grind[kH,aL.get,W7]
    grind
  grind
theorem YO(he:c6 N J G env env1){o:b9}{l:List Nat}(h:Il xb o env key=some l):ds xb o env1 key=l:=by
 cases o<;>simp[Il,ds]at h⊢<;>first|exact h|exact kL he h|skip
 . grind[kL]
 . grind[kL]
 . grind[kL]
 . grind[Cv]
 grind[kL]
theorem beq_eq(a b:Nat):(a==b)=Nat.beq a b:=by
 grind[cR,ij]
theorem YP(he:c6 N J G env env1){o:b9}{b:Nat}{w:Bool}(h:h' xb o env key b=some w):b7 xb o env1 key b=w:=by
 cases o with
 |alloc cs=>simp[h']at h;rw[<-h];exact beq_eq _ _
 |allocA cs=>simp[h']at h;rw[<-h];exact beq_eq _ _
 |box x=>simp[h']at h;rw[<-h];simp only[b7];exact beq_eq _ _
 |bslice a c d e=>simp only[h',cQ]at h;rw[<-h];simp only[b7];exact beq_eq _ _
 |mslice a c d e=>simp only[h',cQ]at h;rw[<-h];simp only[b7];exact beq_eq _ _
 |store n x y=>
  simp only[h']at h;split at h
  . rename_i l ad;cases h;simp only[b7];rw[kL he ad,nx]
  . cases h
 |appendT te sz by' x y=>
  simp only[h']at h;split at h
  . rename_i l ad;cases h;simp only[b7];rw[kL he ad,nx]
  . cases h
 |append te sz by' x y=>
  simp only[h']at h;split at h
  . rename_i l ad;cases h;simp only[b7];rw[kL he ad,nx,beq_eq]
  . cases h
 |mkset=>grind[h',b7,beq_eq]
 |allocS e e8=>grind[h',b7,beq_eq]
 |upset x y=>
  simp only[h']at h;split at h
  . rename_i l ad;cases h;simp only[b7];rw[kL he ad,nx]
  . cases h
 |upD x y z=>
  grind[h',b7,kL,nx]
 |bsliceC a c d=>simp only[h',cQ]at h;rw[<-h];simp only[b7];exact beq_eq _ _
 |appendC a c x y=>
  simp only[h']at h;split at h
  . rename_i l ad;cases h;simp only[b7];rw[kL he ad,nx,beq_eq]
  . cases h
 |ustr e x y=>
  grind[h',b7,kL,nx]
 |appendB e by' x y=>
  grind[h',b7,kL,nx,beq_eq]
 |call f args=>
  simp only[h']at h;split at h
  . rename_i l ad;cases h;simp only[b7];rw[Cv he ad,nx]
    congr 1
    rw[Bool.eq_iff_iff];simp only[cH,hq,Nat.ble_eq];rfl
  grind
 |_=>simp only[h',cQ]at h;rw[<-h];rfl
theorem acV{ro:List Nat}{o:b9}:Ik ro o=gY ro o:=by
 cases o
 case call f args=>
  simp only[Ik,gY];exact nx
 all_goals rfl
theorem FT(he:c6 N J G env env1){aP:List bL}{c:Nat}:∀{dV:List (Nat×Nat)},zC xb aP env c dV=true->jq xb U.ro aP env1 c dV=true
 |[],_=>rfl
 |(i,j)::r,h=>by
  simp[zC]at h;simp[jq];refine⟨?_,FT he h.2⟩;have h1:=h.1;rw[xO,xO]at h1;split at h1
  . rename_i x y a b;rw[a,b];simp only;split at h1
    . rename_i d;rw[acV]at d;simp[d]
    . simp only[ko,dW];right
      grind[YO,YP]
  . rename_i e;split
    . rename_i x y a b;exact absurd b (e x y a)
    . rfl
theorem Fk{fo:fG U}(e:fu P fo){k:ej->bO U->a' U->Option R}{r:R}:∀{l:List bL} {key:Nat} {gl:ej} {nf:jB} {env:bO U} {J:a' U} {env1:Env} {J1:aF} {G:Nat->Bool} {K:Env->aF->Prop},
 ey key gl nf env J env1 J1 G->qC fo none l key gl nf env J k=some r->
 (∀b f env' J' a bg d,k b env' J'=some r->ey (key+16*l.length) b f env' J' a bg d->K a bg)->og P kk l key env1 J1 K
 |[],key,gl,nf,env,J,env1,J1,G,K,h,c,br=>br _ _ _ _ _ _ _ c h
 |o::l,key,gl,nf,env,J,env1,J1,G,K,h,c,br=>by
  refine W6 e h c λb f env' J' a bg d h1 j=>?_
  refine Fk e j h1 λq n i p tT t g m s=>br _ n i p _ _ g m ?_
  grind
theorem Gm{fo:fG U}(e:fu P fo){k:ej->bO U->a' U->Option R}{r:R}:∀{l:List bL} {key:Nat} {gl:ej} {nf:jB} {env:bO U} {J:a' U} {env1:Env} {J1:aF} {G:Nat->Bool} {K:Env->aF->Prop},
 ey key gl nf env J env1 J1 G->qC fo (some xb) l key gl nf env J k=some r->
 (∀b f env' J' d bg c,k b env' J'=some r->ey (key+16*l.length) b f env' J' d bg c->K d bg)->tS xb U.ro P l key env1 J1 K
 |[],key,gl,nf,env,J,env1,J1,G,K,h,a,br=>br _ _ _ _ _ _ _ a h
 |o::l,key,gl,nf,env,J,env1,J1,G,K,h,a,br=>by
  simp[qC]at a;obtain⟨g,v1,bg,b,f,env',J',c,h1,m,n,h0⟩:=Jk e h (by simpa[CR]using a);refine⟨g,v1,bg,h1,h0,Gm e n m λt q j s tT u i p bf=>br _ q j s _ _ i p ?_⟩
  grind
theorem GV{gl:ej}:∀{env:bO U} {k:Nat} {v:bF U},aU (clean gl env) k=some v->aU env k=some v/\Az gl k=false
 |[],k,v,h=>by grind[clean,aU]
 |(i,w)::r,k,v,h=>by
  simp[clean]at h;split at h
  . obtain⟨h1,b⟩:=GV h
    grind[aU,cR]
  . simp[aU]at h⊢;cases a:Nat.beq i k with
    |true=>simp_all
    |false=>rw[a]at h;exact GV h
theorem ZA{gl:ej}{k:Nat}(h:Az gl k=false):aU gl k=none:=by
 induction gl with
 |nil=>rfl
 |cons e r ih=>
  grind[Az,aU]
theorem ey.clean{gl:ej}{nf:jB}(h:ey key gl nf env J env1 J1 G):c6 key J (λ_=>true) (zf gl env) env1:=by
 intro k v a;have:aU env k=some v/\G k=true:=by
  unfold zf at a;split at a
  . exact⟨a,h.aj.free k rfl⟩
  . obtain⟨h1,c⟩:=GV a;exact⟨h1,h.aj.free k (ZA c)⟩
 obtain⟨v1,h1,c⟩:=h.gh k v this.1
 grind
theorem ey.begin(he:c6 key J (λ_=>true) env env1)(ay:cq key J J1):ey key [] [] env J env1 J1 (λ_=>true):=
 ⟨he,⟨λ_ _=>rfl,λk t b h=>by grind[aU]⟩,ay,λ_ h=>by grind⟩
end
structure jh where
 e:Exit
 bu:Shape
 own:List (Pos×aD)
 us:List aD
def en(U:cK):List jh->Type
 |[]=>Empty
 |[a]=>aR U.D a.us
 |a::b::r=>aR U.D a.us ⊕ en U (b::r)
structure gF (U:cK) where
 bu:Shape
 own:List (Pos×aD)
 ts:List aD
 outs:List jh
 F:aR U.D ts->Option (en U outs)
def Au:Exit->Exit->Bool
 |.normal,.normal=>true
 |.ret,.ret=>true
 |.exit i,.exit j=>Nat.beq i j
 |_,_=>false
theorem Kf{a b:Exit}(h:Au a b=true):a=b:=by
 cases a<;>cases b<;>simp[Au]at h<;>try rfl
 grind
abbrev tG(U:cK)(R:Type):=Exit->bO U->a' U->Nat->Option R
def hN:(outs:List jh)->en U outs->Exit×bO U×a' U×Nat
 |[],o=>Empty.elim o
 |[a],h=>(a.e,(gU U a.bu (aR.cells U.D a.us h)).1,(gU U a.bu (aR.cells U.D a.us h)).2,a.bu.st.length)
 |a::b::r,.inl h=>(a.e,(gU U a.bu (aR.cells U.D a.us h)).1,(gU U a.bu (aR.cells U.D a.us h)).2,a.bu.st.length)
 |a::b::r,.inr o=>hN (b::r) o
def agG{α c:Type}(o:α ⊕ c)(f:α->Option R)(g:c->Option R):Option R:=
 match o with
 |.inl a=>f a
 |.inr b=>g b
def ag5(k:tG U R)(a:jh):(r:List jh)->(en U r->Option R)->en U (a::r)->Option R
 |[],_=>λh=>k a.e (gU U a.bu (aR.cells U.D a.us h)).1 (gU U a.bu (aR.cells U.D a.us h)).2 a.bu.st.length
 |_::_,f=>λo=>agG o (λh=>k a.e (gU U a.bu (aR.cells U.D a.us h)).1 (gU U a.bu (aR.cells U.D a.us h)).2 a.bu.st.length) f
def zF(k:tG U R):(outs:List jh)->en U outs->Option R
 |[]=>λo=>Empty.elim o
 |a::r=>ag5 k a r (zF k r)
theorem Lp(k:tG U R):∀{outs:List jh} {o:en U outs},zF k outs o=k (hN outs o).1 (hN outs o).2.1 (hN outs o).2.2.1 (hN outs o).2.2.2
 |[],o=>Empty.elim o
 |[a],h=>rfl
 |a::b::r,.inl h=>rfl
 |a::b::r,.inr o=>Lp k (outs:=b::r)
def q9(kk:Nat):(outs:List jh)->Exit->bO U->a' U->Nat->Option (en U outs)
 |[],_,_,_,_=>none
 |[a],e,env,J,N=>match Au e a.e with
  |true=>pS kk a.own a.bu a.us env J N
  |false=>none
 |a::b::r,e,env,J,N=>match Au e a.e with
  |true=>match pS (U:=U) kk a.own a.bu a.us env J N with
   |some h=>some (.inl h)
   |none=>none
  |false=>match q9 kk (b::r) e env J N with
   |some o=>some (.inr o)
   |none=>none
abbrev kD(U:cK):=Nat->Option (gF U)
def gf:di->Nat
 |.seq a b=>gf a+gf b
 |.cond _ a b=>gf a+gf b
 |.block _ b=>gf b
 |.loop b=>gf b+1
 |_=>0
def afN(x:Bool)(a b:Option R):Option R:=if x=true then a else b
def bc.inner:fO->Bool
 |.ptr .. |.arr _=>true
 |_=>false
def acW:dJ->Bool
 |.box cs=>cs.any bc.inner
 |_=>false
def afO:ct U->List Nat
 |.box cs=>cs.flatMap bc.eE
 |.rows _ r=>r.flatMap λcs=>cs.flatMap bc.eE
 |.bX _ c=>c.eE
 |.cu _ _ _ _ c=>c.eE
 |_=>[]
def N8(fo:fG U)(J:a' U)(ops:List bL):List Nat:=
 match ops.any λo=>match o.op with
  |.call f _=>(fo f).any λs=>s.st.any acW
  |_=>false with
 |true=>J.flatMap λp=>afO p.2
 |false=>[]
def Gw(ops:List bL)(dV:List (Nat×Nat)):Option (List bL×bL):=
 match uZ ops.length dV,ops.getLast? with
 |true,some o=>match o.op,o.guard with
  |.call ..,none=>some (ops.dropLast,o)
  |.callv ..,none=>some (ops.dropLast,o)
  |_,_=>none
 |_,_=>none
theorem Yg{ops:List bL}{dV:List (Nat×Nat)}{init:List bL}{last:bL}(h:Gw ops dV=some (init,last)):ops=init++[last]/\uZ (init.length+1) dV=true:=by
 unfold Gw at h;split at h
 . grind[List.getLast?_eq_some_iff]
 grind
def acu(t:Nat)(o:bL):Bool:=match o.op with
 |.build _ ps=>ps.any λp=>match p.2.2 with
  |.tmp k=>Nat.beq k t
  |_=>false
 |_=>false
def wY(t:aD)(ops:List bL)(env:bO U)(J:a' U):List bL->List (Nat×aD)
 |[]=>[]
 |o::r=>match o.op,o.dst with
  |.mov (.tmp s),some d=>match aU env s with
   |some (.c (.arr b))=>match ops.any (acu d),vR b t env J with
    |true,some _=>(b,t)::wY t ops env J r
    |_,_=>wY t ops env J r
   |_=>wY t ops env J r
  |_,_=>wY t ops env J r
def afE(ops:List bL)(env:bO U)(J:a' U):List (Nat×aD):=match U.cb with
 |none=>[]
 |some t=>wY t ops env J ops
def ln(fo:fG U)(lo:kD U)(kk:Nat):di->Nat->bO U->a' U->Nat->tG U R->Option R
 |.skip,_,env,J,N,k=>k .normal env J N
 |.ret,_,env,J,N,k=>k .ret env J N
 |.exit i,_,env,J,N,k=>k (.exit i) env J N
 |.region ops,_,env,J,N,k=>qC fo none ops N [] [] env J λgl env J=>Dj (zf gl env) J (N+16*ops.length) λenv J N=>k .normal env J N
 |.jY ops dV,_,env,J,N,k=>match Gw ops dV with
  |some (init,last)=>qC fo (some []) init N [] [] env J λgl env J=>match zC [] init env N dV with
   |true=>qC fo none [last] (N+16*init.length) gl [] env J λgl env J=>k .normal (zf gl env) J (N+16*init.length+16)
   |false=>none
  |none=>match j1 (afE ops env J) env J with
   |some (env,J)=>qC fo (some (N8 fo J ops)) ops N [] [] env J λgl env' J'=>match zC (N8 fo J ops) ops env' N dV with
    |true=>Dj (zf gl env') J' (N+16*ops.length) λenv J N=>k .normal env J N
    |false=>none
   |none=>none
 |.seq a b,pos,env,J,N,k=>ln fo lo kk a pos env J N λe env J N=>match e with
  |.normal=>ln fo lo kk b (pos+gf a) env J N k
  |e=>k e env J N
 |.cond c a b,pos,env,J,N,k=>match de [] none env c with
  |some (.c (.t ⟨.bool,x⟩))=>afN x (ln fo lo kk a pos env J N k) (ln fo lo kk b (pos+gf a) env J N k)
  |_=>none
 |.block id b,pos,env,J,N,k=>ln fo lo kk b pos env J N λe env J N=>match e with
  |.exit i=>match Nat.beq i id with
   |true=>k .normal env J N
   |false=>k (.exit i) env J N
  |e=>k e env J N
 |.loop b,pos,env,J,N,k=>match Nat.ble pos 999 with
  |false=>none
  |true=>match lo pos with
   |none=>none
   |some L=>match pS kk L.own L.bu L.ts env J N with
    |some h=>(L.F h)>>=λo=>zF k L.outs o
    |none=>match lo (pos+1000)with
     |none=>none
     |some L=>match pS kk L.own L.bu L.ts env J N with
      |none=>none
      |some h=>(L.F h)>>=λo=>zF k L.outs o
section
variable {P:Program}{nt kk N:Nat}{env:bO U}{J:a' U}{env1:Env}{J1:aF}
def tn(kk:Nat)(Q:Exit->Env->aF->Nat->Prop):Prop:=∀e N env J N' env' J',Conv kk N env J N' env' J'->Q e env' J' N'->Q e env J N
def mT(P:Program)(nt kk:Nat)(b:di)(bu:Shape)(ts:List aD)(outs:List jh)(h:aR U.D ts)(o:en U outs):Prop:=
 ∀env1 J1,c6 bu.st.length (gU U bu (aR.cells U.D ts h)).2 (λ_=>true) (gU U bu (aR.cells U.D ts h)).1 env1->cq bu.st.length (gU U bu (aR.cells U.D ts h)).2 J1->kk<=bu.st.length->
  ∀Q,tn kk Q->(∀a bg,c6 (hN outs o).2.2.2 (hN outs o).2.2.1 (λ_=>true) (hN outs o).2.1 a->cq (hN outs o).2.2.2 (hN outs o).2.2.1 bg->kk<=(hN outs o).2.2.2->Q (hN outs o).1 a bg (hN outs o).2.2.2)->
   l4 P nt kk b env1 J1 bu.st.length Q
def tA(P:Program)(nt kk:Nat)(a:di)(L:gF U):Prop:=
 ∀h o,L.F h=some o->mT P nt kk a L.bu L.ts L.outs h o
def gq(P:Program)(nt kk:Nat)(lo:kD U):Nat->di->Prop
 |pos,.seq a b=>gq P nt kk lo pos a/\gq P nt kk lo (pos+gf a) b
 |pos,.cond _ a b=>gq P nt kk lo pos a/\gq P nt kk lo (pos+gf a) b
 |pos,.block _ b=>gq P nt kk lo pos b
 |pos,.loop b=>∀L,pos<=999->(lo pos=some L\/lo (pos+1000)=some L)->tA P nt kk b L
 |_,_=>True
theorem tn.andThen{Q:Exit->Env->aF->Nat->Prop}{next:Env->aF->Nat->Prop}(h:tn kk Q)(aA:∀N env J N' env' J',Conv kk N env J N' env' J'->next env' J' N'->next env J N):tn kk (andThen next Q):=by
 intro e N env J N' env' J' a c;cases e with
 |normal=>exact aA _ _ _ _ _ _ a c
 |_=>exact h _ _ _ _ _ _ _ a c
theorem se{fo:fG U}(u:fu P fo){lo:kD U}:∀{c:di} {pos:Nat} {env:bO U} {J:a' U} {N:Nat} {k:tG U R} {r:R} {env1:Env} {J1:aF} {Q:Exit->Env->aF->Nat->Prop},
 gq P nt kk lo pos c->ln fo lo kk c pos env J N k=some r->c6 N J (λ_=>true) env env1->cq N J J1->kk<=N->tn kk Q->
 (∀e env' J' N' s bg,k e env' J' N'=some r->c6 N' J' (λ_=>true) env' s->cq N' J' bg->kk<=N'->Q e s bg N')->bJ P nt kk c env1 J1 N Q
 |.skip,pos,env,J,N,k,r,env1,J1,Q,ad,d,he,ay,n,m,f=>bJ.skip (f _ _ _ _ _ _ d he ay n)
 |.ret,pos,env,J,N,k,r,env1,J1,Q,ad,d,he,ay,n,m,f=>bJ.ret (f _ _ _ _ _ _ d he ay n)
 |.exit i,pos,env,J,N,k,r,env1,J1,Q,ad,d,he,ay,n,m,f=>bJ.exit (f _ _ _ _ _ _ d he ay n)
 |.region ops,pos,env,J,N,k,r,env1,J1,Q,ad,d,he,ay,n,m,f=>
  bJ.Qt (Fk u (ey.begin he ay) d λO T env' J' s bg K h1 j=>by
   obtain⟨M,X,Z,tT,W,E,G,H,I,aa⟩:=Tz h1 j.clean j.eC (show kk<=_ by omega)
   exact m _ _ _ _ _ _ _ G (f _ _ _ _ _ _ E H I (by omega)))
 |.jY ops dV,pos,env,J,N,k,r,env1,J1,Q,ad,d,he,ay,n,m,f=>by
  simp only[ln]at d;split at d
  . rename_i init last ai;obtain⟨rfl,ak⟩:=Yg ai;refine bJ.Qv ak (Gm u (ey.begin he ay) d λO T env' J' s bg K h1 j=>?_);split at h1
    . rename_i q;refine⟨FT j.gh q,Fk u (l:=[last]) (nf:=[]) ⟨j.gh,j.aj,j.eC,λg aj=>by grind⟩ h1 λaq ar M X tT W am v w=>f _ _ _ _ _ _ v w.clean w.eC (by omega)⟩
    grind
  . split at d
    . rename_i fD an ah;obtain⟨wu,au,af,he,ay,_⟩:=uh (kk:=kk) (gl:=[]) ah he ay;refine bJ.conv af (bJ.Qu (Gm u (ey.begin he ay) d λO T env' J' s bg K h1 j=>?_))
      split at h1
      . rename_i q;obtain⟨M,X,Z,tT,W,E,G,H,I,aa⟩:=Tz h1 j.clean j.eC (show kk<=_ by omega);exact⟨FT j.gh q,m _ _ _ _ _ _ _ G (f _ _ _ _ _ _ E H I (by omega))⟩
      grind
    . cases d
 |.seq a b,pos,env,J,N,k,r,env1,J1,Q,ad,d,he,ay,n,m,f=>by
  refine bJ.seq (se u ad.1 d he ay n (m.andThen λN env J N' env' J' q h=>bJ.conv q h) λe env' J' N' s bg h1 j v w=>?_);cases e with
  |normal=>exact se u ad.2 h1 j v w m f
  |_=>exact f _ _ _ _ _ _ h1 j v w
 |.cond c a b,pos,env,J,N,k,r,env1,J1,Q,ad,d,he,ay,n,m,f=>by
  simp only[ln]at d;split at d
  . rename_i x q;have aj:gE [] env (λ_=>true):=⟨λ_ _=>rfl,λk t b h=>by grind[aU]⟩
    obtain⟨p,v1,a1,a2,a3⟩:=bZ he aj q;have:=a2.iW;subst this;refine bJ.cond a1 (a3 rfl) (λy=>?_) (λy=>?_)
    . subst y;exact se u ad.1 d he ay n m f
    . subst y;exact se u ad.2 d he ay n m f
  grind
 |.block id b,pos,env,J,N,k,r,env1,J1,Q,ad,d,he,ay,n,m,f=>by
  refine bJ.block (se u ad d he ay n ?_ λe env' J' N' s bg h1 j v w=>?_)
  . intro e N env J N' env' J' q A;cases e with
    |exit i=>
     simp only[inBlock]at A⊢;split at A
     . rename_i hi;rw[ab hi];exact m _ _ _ _ _ _ _ q A
     . rename_i hi;rw[ag hi];exact m _ _ _ _ _ _ _ q A
    |_=>exact m _ _ _ _ _ _ _ q A
  . cases e with
    |exit i=>
     simp only[inBlock];simp only at h1;split at h1
     . rename_i y;rw[ab (cR y)];grind
     . rename_i y;rw[ag (ij y)];grind
    |_=>exact f _ _ _ _ _ _ h1 j v w
 |.loop b,pos,env,J,N,k,r,env1,J1,Q,ad,d,he,ay,n,m,f=>by
  have V:∀(L:gF U) (h:aR U.D L.ts),(pos<=999/\(lo pos=some L\/lo (pos+1000)=some L))->pS kk L.own L.bu L.ts env J N=some h->((L.F h)>>=λo=>zF k L.outs o)=some r->bJ P nt kk (.loop b) env1 J1 N Q:=by
   intro L h B z d;obtain⟨o,al,S⟩:=jt.1 d;rw[Lp]at S;obtain⟨s,bg,c1,c2,c3,c4⟩:=Cu z he ay n;exact bJ.conv c1 (bJ.af2 (ad L B.1 B.2 h o al s bg c2 c3 c4 Q m λap ao h1 j v=>f _ _ _ _ _ _ S h1 j v))
  simp only[ln]at d;split at d
  . cases d
  . rename_i C;have C:=ik C;split at d
    . cases d
    . rename_i L B;split at d
      . rename_i h z;exact V L h ⟨C,.inl B⟩ z d
      . split at d
        . cases d
        . rename_i Y ae;split at d
          . cases d
          . rename_i h z;exact V Y h ⟨C,.inr ae⟩ z d
theorem mT.agb {fo:fG U}(G:fu P fo){lo:kD U}{g:di}{bu:Shape}{own:List (Pos×aD)}{ts:List aD}{outs:List jh}{h:aR U.D ts}{o:en U outs}{x:aR U.D ts->Option (en U outs)}
 (K:gq P nt kk lo 0 g)(E:∀h o,x h=some o->mT P nt kk g bu ts outs h o)
 (O:ln fo lo kk g 0 (gU U bu (aR.cells U.D ts h)).1 (gU U bu (aR.cells U.D ts h)).2 bu.st.length (λe env J N=>match e with
  |.normal=>match pS kk own bu ts env J N with
   |some q=>x q
   |none=>none
  |e=>q9 kk outs e env J N)=some o):mT P nt kk g bu ts outs h o:=by
 intro env1 J1 he ay c Q t H;refine l4.round (se G K O he ay c (t.andThen λN env J N' env' J' F h=>l4.conv F h) λe env' J' N' p bg h1 y A B=>?_);have f:∀j,j=e->j≠.normal->q9 kk _ j env' J' N'=some o->Q e p bg N':=by
  intro j S W M;obtain⟨az,s1,c1,c2,c3,c4,c5⟩:=Qb M y A B;exact t _ _ _ _ _ _ _ c1 (by grind)
 cases e with
 |normal=>
  simp at h1;split at h1
  . rename_i q w;obtain⟨az,s1,c1,c2,c3,c4⟩:=Cu w y A B;exact l4.conv c1 (E q o h1 az s1 c2 c3 c4 Q t H)
  grind
 |exit i=>exact f _ rfl (by simp) h1
 |ret=>exact f _ rfl (by simp) h1
 |goto l=>exact f _ rfl (by simp) h1
 |panic R=>exact f _ rfl (by simp) h1
 |outgrown=>exact f _ rfl (by simp) h1
where
 Qb {N:Nat} {env:bO U} {J:a' U} {env1:Env} {J1:aF}:∀ {outs:List jh} {e:Exit} {o:en U outs},q9 kk outs e env J N = some o->c6 N J (λ_=>true) env env1->cq N J J1->kk<=N->
  ∃p bg,Conv kk N env1 J1 (hN outs o).2.2.2 p bg/\c6 (hN outs o).2.2.2 (hN outs o).2.2.1 _ (hN outs o).2.1 p/\cq (hN outs o).2.2.2 (hN outs o).2.2.1 bg/\kk<=(hN outs o).2.2.2/\e=(hN outs o).1
  |[],e,o,h,_,_,_=>by grind[q9]
  |[a],e,o,h,he,ay,c=>by
   simp[q9]at h;split at h
   . rename_i v;obtain⟨az,s1,c1,c2,c3,c4⟩:=Cu h he ay c;exact⟨az,s1,c1,c2,c3,c4,Kf v⟩
   grind
  |a::b::r,e,o,h,he,ay,c=>by
   simp only[q9]at h;split at h
   . rename_i v;split at h
     . rename_i aa w;cases h;obtain⟨az,s1,c1,c2,c3,c4⟩:=Cu w he ay c;exact⟨az,s1,c1,c2,c3,c4,Kf v⟩
     grind
   . split at h
     . rename_i X L;cases h;obtain⟨az,s1,c1,c2,c3,c4,c5⟩:=Qb L he ay c;exact⟨az,s1,c1,c2,c3,c4,c5⟩
     grind
end
end
end Go.Proofs.YtfcnkdegapjgnaaGreatDoor.Shv
namespace Go.Proofs.YtfcnkdegapjgnaaGreatDoor.Shv
set_option linter.all false
open Go
variable [da]
variable {U:cK}{R:Type}
def ti:Nat->List (bF U)->bO U
 |_,[]=>[]
 |i,v::vs=>(i,v)::ti (i+1) vs
def Hu(env:bO U)(J:a' U):fZ->Option (bF U)
 |.tmp t=>aU env t
 |.cell t g k=>match aU env t with
  |some (.c (.ptr b o))=>match aU J b with
   |some (.box cs)=>pr g k cs o
   |_=>none
  |_=>none
def uR(env:bO U)(J:a' U):List fZ->Option (List (bF U))
 |[]=>some []
 |r::a=>match Hu env J r,uR env J a with
  |some v,some vs=>some (v::vs)
  |_,_=>none
def Ij:List (bF U)->bF U
 |[]=>.aS []
 |[v]=>v
 |v::w::vs=>.aS (v::w::vs)
def zH(kk:Nat)(c:List fZ)(eC:dw)(ev:List dJ)(us:List aD)(env:bO U)(J:a' U):Option (aR U.D us):=
 match uR env J c with
 |none=>none
 |some vs=>match vF J kk 0 ev (EW eC (Ij vs) ([],[])) []with
  |(bs,d)=>match j1 d env J with
   |none=>none
   |some (env',J')=>match uR env' J' c with
    |none=>none
    |some e=>match sQ bs&&(keeps kk bs&&Nat.beq bs.length ev.length)with
     |false=>none
     |true=>match jr bs eC (Ij e),iz bs J' 0 ev with
      |some a,some b=>aR.dec U.D us (a++b)
      |_,_=>none
def Ro(kk:Nat)(a:List fZ)(eC:dw)(ev:List dJ)(us:List aD):tG U (aR U.D us)
 |.normal,env,J,_=>zH kk a eC ev us env J
 |.ret,env,J,_=>zH kk a eC ev us env J
 |_,_,_,_=>none
section
variable {P:Program}{nt kk N:Nat}{env:bO U}{J:a' U}{env1:Env}{J1:aF}
def wh(kk:Nat)(Q:Exit->Env->aF->Nat->Prop):Exit->Env->aF->Nat->Prop:=
 λe env J N=>∃N' env' J',Conv kk N env J N' env' J'/\Q e env' J' N'
theorem wh.adQ{Q:Exit->Env->aF->Nat->Prop}:tn kk (wh kk Q):=
 λe N env J N' env' J' h ⟨a,c,j,f,g⟩=>⟨a,c,j,h.trans f,g⟩
theorem bJ.agQ{c:di}{env:Env}{J:aF}{Q:Exit->Env->aF->Nat->Prop}(h:bJ P nt kk c env J N (wh kk Q)):bJ P nt kk c env J N Q:=
 λcode t ao φ S a w f R=>wp_mono (h _ t ao φ S a w f R) λe a w ⟨A,bH,env',J',N',⟨g,p,x,q,v⟩,R'⟩=>
  let⟨y,o,j⟩:=q ao nt _ bH a w f R';⟨y,o,p,x,g,v,j⟩
theorem XD(he:c6 N J (λ_=>true) env env1)(ay:cq N J J1){a:fZ}{v:bF U}(h:Hu env J a=some v):∃p v1,nC env1 J1 a=some (p,v1)/\p/\b6 N J v v1:=by
 cases a with
 |tmp t=>
  obtain⟨v1,h1,c⟩:=he t v h;exact⟨True,v1,by grind[nC],trivial,c⟩
 |cell t g k=>
  simp[Hu]at h;split at h
  . rename_i b o i;split at h
    . rename_i cs f;obtain⟨v1,h1,c⟩:=he t _ i;have:=c.hx;obtain⟨_,y,j,d⟩:=ay b _ f;cases d with
      |box d=>
       obtain⟨v2,bf,e⟩:=r' d h;exact⟨True,v2,by grind[nC],trivial,e⟩
    grind
  grind
theorem RF(he:c6 N J (λ_=>true) env env1)(ay:cq N J J1):∀{b:List fZ} {vs:List (bF U)},uR env J b=some vs->∃p a,mu env1 J1 b=some (p,a)/\p/\aQ (b6 N J) vs a
 |[],vs,h=>by simp[uR]at h;subst h;exact⟨_,[],rfl,trivial,.nil⟩
 |r::e,vs,h=>by
  simp[uR]at h;split at h
  . rename_i v f h1 d;cases h;obtain⟨p,v1,a1,a2,a3⟩:=XD he ay h1;obtain⟨q,a,b1,b2,c⟩:=RF he ay d;exact⟨p/\q,v1::a,by grind[mu],⟨a2,b2⟩,.cons a3 c⟩
  grind
theorem X1{vs:List (bF U)}{c:List V}(h:aQ (b6 N J) vs c):b6 N J (Ij vs) (kv c):=by
 cases h with
 |nil=>exact .aS [] [] rfl (by simp)
 |cons h1 a=>
  cases a with
  |nil=>exact h1
  |cons a b=>
   refine .aS _ _ (by simp[b.length]) λi x d e j=>?_
   obtain⟨f,az,g⟩:=(aQ.cons h1 (.cons a b)).get e
   grind
def DF(s:cx U)(r:aR U.D s.us):V->aF->Nat->Prop:=λa bg N'=>N'=s.ev.length/\b6 N' (s.rest r) (s.res r) a/\cq N' (s.rest r) bg
theorem X2{e:List fZ}{s:cx U}{r:aR U.D s.us}(h:zH kk e s.eC s.ev s.us env J=some r)(he:c6 N J (λ_=>true) env env1)(ay:cq N J J1):
 ∃i bg,Conv kk N env1 J1 N i bg/\∃p d,mu i bg e=some (p,d)/\p/\
  ∃bs c J2,bs.Nodup/\keeps kk bs=true/\fi ((kv d).bG bs) c/\pX (eO bs bg 0 bs) J2/\DF s r c J2 bs.length:=by
 unfold zH at h;split at h
 . grind
 . split at h;rename_i bs z _;split at h
   . grind
   . rename_i env' J' t;obtain⟨az,s1,c1,c2,c3,_⟩:=uh (kk:=kk) (gl:=[]) t he ay;split at h
     . grind
     . rename_i C v;split at h
       . grind
       . rename_i j;simp only[cH]at j;obtain⟨n,o,q⟩:=j;have bR:=yu n;have u:=cR q;split at h
         . rename_i a b m k;obtain⟨p,d,d1,d2,d3⟩:=RF c2 c3 v;obtain⟨y,f,g⟩:=DO bR (zd bR k) m;obtain⟨c,l,A⟩:=g _ (X1 d3);obtain⟨w,t1,t2⟩:=CA bR c3 k;have B:=aR.mc h;have az:s.res r=y:=by grind[cx.res]
           have x:s.rest r=hn 0 s.ev b:=by grind[cx.rest]
           exact⟨_,_,c1,p,d,d1,d2,bs,c,w,bR,o,l,t1,u,by grind,by grind⟩
         grind
def tv(P:Program)(s:cx U)(h:aR U.D s.ts)(r:aR U.D s.us):Prop:=
 ∀(a:List V) J1,aQ (b6 s.st.length (s.hc h)) (s.args h) a->cq s.st.length (s.hc h) J1->dG P s.f a J1 s.st.length (DF s r)
theorem hz.of{s:cx U}(h:∀h r,s.F h=some r->tv P s h r):hz P s:=h
theorem tv.Ev {s:cx U}{fn:Func}{c:di}{g:List fZ}{fo:fG U}{lo:kD U}(W:P.funcs[s.f]?=some fn)(O:fn.body.bind (resolve P fn.ntmps)=some c)(am:hD P fn.results.toList=some g)(aA:Nat.ble s.gk.length fn.ntmps=true)
 (X:fu P fo)(ad:gq P fn.ntmps s.st.length lo 0 c)
 {h:aR U.D s.ts}{r:aR U.D s.us}(o:Dg s.st.length (s.hc h) (λJ N=>ln fo lo s.st.length c 0 (ti 0 (s.args h)) J N (Ro s.st.length g s.eC s.ev s.us))=some r):tv P s h r:=by
 intro q J1 M ay;have Z:q.length<=fn.ntmps:=by
  rw[<-M.length];refine iO (sX ?_) (ik aA);exact PM
 have Q:c6 s.st.length (s.hc h) (λ_=>true) (ti 0 (s.args h)) (fD 0 q):=by
  intro k v aI;have key:∀{xs:List _} {j:List V} {i:Nat},aQ (b6 s.st.length (s.hc h)) xs j->aU (ti i xs) k=some v->∃v1,look (fD i j) k=some (true,v1)/\b6 s.st.length (s.hc h) v v1:=by
   intro xs
   induction xs with
   |nil=>grind[ti,aU]
   |cons x xs ih=>
    intro j i ao y;cases ao with
    |cons h1 w=>
     simp[ti,aU]at y;simp[fD,look];split at y
     . simp_all
     simp_all[ag,ij]
  grind
 obtain⟨ap,Nm,ax,o,G,S,L,Y⟩:=XY o Q ay;refine dG.tidy (dG.mk W O am rfl Z (bJ.conv G (bJ.agQ (se X ad o S L Y wh.adQ λe env' J' N' H bg h1 w K aG=>?_)))) (λA s1 F aa=>aa)
 . have t:zH s.st.length g s.eC s.ev s.us env' J'=some r->(e= .normal\/e= .ret)->wh s.st.length (Dy g λA s1 F=>∃bs B J2,bs.Nodup/\keeps s.st.length bs=true/\fi (A.bG bs) B/\pX (eO bs s1 0 bs) J2/\DF s r B J2 bs.length) e H bg N':=by
    intro an R;obtain⟨az,s1,c1,p,E,d1,d2,rest⟩:=X2 an w K;refine⟨N',az,s1,c1,?_⟩;rcases R with rfl|rfl
    . exact⟨p,E,d1,d2,rest⟩
    . exact⟨p,E,d1,d2,rest⟩
   cases e with
   |normal=>exact t h1 (.inl rfl)
   |ret=>exact t h1 (.inr rfl)
   |_=>cases h1
where
 PM:∀{ss:List dw} {a:ep U},(kg ss a).1.length=ss.length
  |[],a=>rfl
  |s::ss,a=>by
   simp[kg];have:=PM (ss:=ss) (a:=(lQ s a).2)
   grind
def hF:di->Nat->Option di
 |.seq a b,q=>match Nat.ble (gf a) q with
  |true=>hF b (q-gf a)
  |false=>hF a q
 |.cond _ a b,q=>match Nat.ble (gf a) q with
  |true=>hF b (q-gf a)
  |false=>hF a q
 |.block _ b,q=>hF b q
 |.loop b,q=>match q with
  |0=>some b
  |q+1=>hF b q
 |_,_=>none
def u1(q:Nat):Nat:=match Nat.ble q 999 with
 |true=>q
 |false=>q-1000
theorem gq.of{lo:kD U}:∀{c:di} {pos:Nat},(∀q b L,hF c q=some b->pos+q<=999/\(lo (pos+q)=some L\/lo (pos+q+1000)=some L)->tA P nt kk b L)->gq P nt kk lo pos c
 |.seq a b,pos,h=>by
  refine⟨gq.of λq e L h1 f=>h q e L ?_ f,gq.of λq e L h1 f=>h (gf a+q) e L ?_ (by grind)⟩
  . simp[hF];cases j:Nat.ble _ q with
    |true=>exact absurd (q5 h1) (by simp_all)
    |false=>grind
  . simp[hF];have:Nat.ble (gf a) (gf a+q)=true:=by simp
    grind
 |.cond c a b,pos,h=>by
  refine⟨gq.of λq e L h1 f=>h q e L ?_ f,gq.of λq e L h1 f=>h (gf a+q) e L ?_ (by grind)⟩
  . simp only[hF];cases j:Nat.ble (gf a) q with
    |true=>exact absurd (q5 h1) (by simp_all)
    |false=>grind
  . simp only[hF];have:Nat.ble (gf a) (gf a+q)=true:=by simp
    grind
 |.block id b,pos,h=>gq.of (c:=b) h
 |.loop b,pos,h=>λL o g=>h 0 b L rfl ⟨o,g⟩
 |.skip,pos,h=>trivial
 |.region _,pos,h=>trivial
 |.jY _ _,pos,h=>trivial
 |.exit _,pos,h=>trivial
 |.ret,pos,h=>trivial
where
 q5:∀{c:di} {q:Nat} {b:di},hF c q=some b->q<gf c
  |.seq a b,q,e,h=>by
   simp[hF]at h;simp[gf];split at h
   . have:=q5 h;grind
   . have:=q5 h;omega
  |.cond _ a b,q,e,h=>by
   simp only[hF]at h;simp only[gf];split at h
   . have:=q5 h;grind
   . have:=q5 h;omega
  |.block _ b,q,e,h=>q5 (c:=b) h
  |.loop b,0,e,h=>by simp[gf]
  |.loop b,q+1,e,h=>by have:=q5 (c:=b) h;grind[gf]
  |.skip,q,e,h=>by grind[hF]
  |.region _,q,e,h=>by grind[hF]
  |.jY _ _,q,e,h=>by grind[hF]
  |.exit _,q,e,h=>by grind[hF]
  |.ret,q,e,h=>by grind[hF]
theorem gq.P6{lo:kD U}{c:di}(h:∀q L,lo q=some L->tA P nt kk ((hF c (u1 q)).getD .skip) L):gq P nt kk lo 0 c:=
 gq.of λq b L h1 a=>by
  rw[fp]at a;obtain⟨a,f|f⟩:=a
  . have:=h q L f;have e:u1 q=q:=by
     unfold u1;split
     . rfl
     . rename_i g;exact absurd (Nat.ble_eq_true_of_le a) (by simp[g])
    rw[e,h1]at this;exact this
  . have:=h (q+1000) L f;have e:u1 (q+1000)=q:=by
     unfold u1;split
     . rename_i g;have:=ik g;omega
     . omega
    rw[e,h1]at this;exact this
theorem gq.none{c:di}:gq P nt kk (λ_=>none:kD U) 0 c:=gq.P6 λq L h=>by grind
theorem fu.none:fu P (λ_=>[]:fG U):=λf s h=>by grind
end
end Go.Proofs.YtfcnkdegapjgnaaGreatDoor.Shv
namespace Go.Proofs.YtfcnkdegapjgnaaGreatDoor.Shv
variable [da]
open Go
def Hl(P:Program)(fn:Func):di:=
 match fn.body.bind (Shv.resolve P fn.ntmps)with
 |some c=>c
 |none=>.skip
def u2(c:di)(q:Nat):di:=(hF c (u1 q)).getD .skip
def ho{U:cK}:List (cx U)->fG U
 |[],_=>[]
 |s::l,f=>match Nat.beq s.f f with
  |true=>s::ho l f
  |false=>ho l f
def kh{U:cK}(l:List (Nat×gF U)):kD U:=λq=>aU l q
theorem fu.nil{U:cK}{P:Program}:fu P (ho ([]:List (cx U))):=λf s h=>by grind[ho]
theorem fu.cons{U:cK}{P:Program}{s:cx U}{l:List (cx U)}(c:gS P s.f=true)(hs:hz P s)(e:wi s)(h:fu P (ho l)):fu P (ho (s::l)):=by
 intro f t ht;simp[ho]at ht;split at ht
 . rename_i a;have:=cR a;rcases fF.1 ht with rfl|ht
   . grind
   . exact h f t ht
 . exact h f t ht
def iV{U:cK}(P:Program)(nt kk:Nat)(c:di)(l:List (Nat×gF U)):Prop:=∀q L,aU l q=some L->tA P nt kk (u2 c q) L
theorem iV.nil{U:cK}{P:Program}{nt kk:Nat}{c:di}:iV P nt kk c ([]:List (Nat×gF U)):=λq L h=>by grind[aU]
theorem iV.cons{U:cK}{P:Program}{nt kk:Nat}{c:di}{q:Nat}{L:gF U}{l:List (Nat×gF U)}(f:tA P nt kk (u2 c q) L)(h:iV P nt kk c l):iV P nt kk c ((q,L)::l):=by
 intro e L' a;simp[aU]at a;split at a
 . simp_all
 . exact h e L' a
theorem iV.snd{U:cK}{P:Program}{nt kk:Nat}{c:di}{l:List (Nat×gF U)}(h:iV P nt kk c l):gq P nt kk (kh l) 0 c:=gq.P6 λq L a=>h q L a
def aM(k:IntKind)(a b:Int):Int:=k.wrap (a+b)
def c'(k:IntKind)(a b:Int):Int:=k.wrap (a-b)
def iq(k:IntKind)(a b:Int):Int:=k.wrap (a*b)
def fY(k:IntKind)(a b:Int):Int:=k.wrap (a.tdiv b)
def cg(a b:Int):Int:=a.tmod b
def zX(k:IntKind)(a b:Int):Int:=k.wrap (BitVec.ofInt k.bits a &&& BitVec.ofInt k.bits b).toNat
def q'(k:IntKind)(a b:Int):Int:=k.wrap (BitVec.ofInt k.bits a ||| BitVec.ofInt k.bits b).toNat
def tj(k:IntKind)(a b:Int):Int:=k.wrap (BitVec.ofInt k.bits a ^^^ BitVec.ofInt k.bits b).toNat
def mL(k:IntKind)(a b:Int):Int:=k.wrap (a*2^min b.toNat k.bits)
def lh(k:IntKind)(a b:Int):Int:=a.fdiv (2^min b.toNat k.bits)
end Go.Proofs.YtfcnkdegapjgnaaGreatDoor.Shv
namespace Go.Proofs.YtfcnkdegapjgnaaGreatDoor.Shv
open Go
set_option linter.all false
variable [da]
variable {U:cK}
structure f' where
 q:Nat
 bu:Shape
 own:List (Pos×aD)
 Cr:List (Pos×aD)
 ts:List aD
 outs:List jh
 sub:List f'
structure eA where
 f:Nat
 gk:List dw
 st:List dJ
 ts:List aD
 eC:dw
 ev:List dJ
 us:List aD
 sub:List f'
def f'.l(e:f')(F:aR U.D e.ts->Option (en U e.outs)):gF U:=⟨e.bu,e.own,e.ts,e.outs,F⟩
def eA.s(e:eA)(F:aR U.D e.ts->Option (aR U.D e.us)):cx U:=⟨e.f,e.gk,e.st,e.ts,e.eC,e.ev,e.us,F⟩
def codeF(P:Program)(f:Nat):di:=match P.funcs[f]? with
 |some fn=>Hl P fn
 |none=>.skip
def xK(P:Program)(f:Nat):Nat:=match P.funcs[f]? with
 |some fn=>fn.ntmps
 |none=>0
def NZ(P:Program)(f:Nat):List fZ:=match P.funcs[f]? with
 |some fn=>(match hD P fn.results.toList with
  |some r=>r
  |none=>[])
 |none=>[]
def s8(P:Program)(e:eA):Bool:=match P.funcs[e.f]? with
 |some fn=>gS P e.f&&((fn.body.bind (resolve P fn.ntmps)).isSome&&((hD P fn.results.toList).isSome&&Nat.ble e.gk.length fn.ntmps))
 |none=>false
def ib(P:Program)(e:eA):Prop:=s8 P e=true
theorem ib.m{P:Program}{e:eA}(h:s8 P e=true):ib P e:=h
def qE(fo:fG U)(lo:kD U)(kk:Nat)(b:di)(e:f')(a:aR U.D e.ts->Option (en U e.outs))(h:aR U.D e.ts):Option (en U e.outs):=
 ln fo lo kk b 0 (gU U e.bu (aR.cells U.D e.ts h)).1 (gU U e.bu (aR.cells U.D e.ts h)).2 e.bu.st.length (λx env J N=>match x with
  |.normal=>match pS kk e.Cr e.bu e.ts env J N with
   |some c=>a c
   |none=>none
  |x=>q9 kk e.outs x env J N)
def pR(fo:fG U)(lo:kD U)(P:Program)(e:eA)(h:aR U.D e.ts):Option (aR U.D e.us):=
 Dg e.st.length (hn 0 e.st (kg e.gk (aR.cells U.D e.ts h)).2) λJ N=>ln fo lo e.st.length (codeF P e.f) 0 (ti 0 (kg e.gk (aR.cells U.D e.ts h)).1) J N (Ro e.st.length (NZ P e.f) e.eC e.ev e.us)
section
variable {P:Program}
theorem Jm {fo:fG U}(d:fu P fo){lo:kD U}{nt kk:Nat}{b:di}{e:f'}{h:aR U.D e.ts}{o:en U e.outs}{a:aR U.D e.ts->Option (en U e.outs)}
 (f:gq P nt kk lo 0 b)(c:∀h o,a h=some o->mT P nt kk b e.bu e.ts e.outs h o)(g:qE fo lo kk b e a h=some o):mT P nt kk b e.bu e.ts e.outs h o:=by
 refine mT.agb (own:=e.Cr) d f c (Eq.trans ?_ g)
 grind[qE]
theorem Kg {fo:fG U}{lo:kD U}{e:eA}(d:ib P e)(F:aR U.D e.ts->Option (aR U.D e.us))(n:fu P fo)(a:gq P (xK P e.f) e.st.length lo 0 (codeF P e.f))
 {h:aR U.D e.ts}{r:aR U.D e.us}(b:pR fo lo P e h=some r):tv P (e.s F) h r:=by
 unfold ib s8 at d;unfold codeF at a;unfold xK at a;unfold pR codeF NZ at b;split at d
 . rename_i fn g;simp[g]at a b;simp only[cH]at d;obtain⟨p,k,bf,l⟩:=d;obtain⟨c,m⟩:=A0.1 k;obtain⟨o,i⟩:=A0.1 bf;have j:Hl P fn=c:=by grind[Hl]
   rw[j]at a b;simp[i]at b;exact tv.Ev g m i l n a b
 grind
theorem ib.b{e:eA}(a:ib P e):gS P e.f=true:=by
 grind[ib,s8]
def wX(fo:fG U)(kk:Nat):Nat->di->(e:f')->aR U.D e.ts->Option (en U e.outs)
 |0,_,_,_=>none
 |n+1,b,e,h=>qE fo (kh (e.sub.map λs=>(s.q,s.l (wX fo kk n (u2 b s.q) s)))) kk b e (wX fo kk n b e) h
def vM(g:(e:eA)->aR U.D e.ts->Option (aR U.D e.us))(r:List (cx U)):List eA->fG U
 |[],f=>ho r f
 |e::T,f=>match Nat.beq e.f f with
  |true=>e.s (g e)::vM g r T f
  |false=>vM g r T f
def wW(P:Program)(T:List eA)(X:List (cx U)):Nat->(e:eA)->aR U.D e.ts->Option (aR U.D e.us)
 |0,_,_=>none
 |n+1,e,h=>pR (vM (wW P T X n) X T) (kh (e.sub.map λs=>(s.q,s.l (wX (vM (wW P T X n) X T) e.st.length n (u2 (codeF P e.f) s.q) s)))) P e h
theorem Ec{nt kk:Nat}{b:di}{g:(s:f')->aR U.D s.ts->Option (en U s.outs)}:∀{l:List f'},(∀s h o,g s h=some o->mT P nt kk (u2 b s.q) s.bu s.ts s.outs h o)->iV P nt kk b (l.map λs=>(s.q,s.l (g s)))
 |[],_=>iV.nil
 |s::l,aj=>iV.cons (λh o a=>aj s h o a) (Ec aj)
theorem Hv{fo:fG U}(a:fu P fo){nt kk:Nat}:∀(n:Nat) (b:di) (e:f') (h:aR U.D e.ts) (o:en U e.outs),wX fo kk n b e h=some o->mT P nt kk b e.bu e.ts e.outs h o
 |0,_,_,_,_,d=>by grind[wX]
 |n+1,b,e,h,o,d=>Jm a (iV.snd (Ec λs h o c=>Hv a n _ s h o c)) (λh o c=>Hv a n b e h o c) d
theorem Lq{g:(e:eA)->aR U.D e.ts->Option (aR U.D e.us)}{r:List (cx U)}(c:fu P (ho r)):∀{T:List eA},(∀e,e∈T->ib P e)->(∀e,e∈T->fJ U.ro e.f=false)->(∀e,e∈T->hz P (e.s (g e)))->fu P (vM g r T)
 |[],_,_,_=>c
 |e::T,a,aA,aj=>by
  intro f t ht;simp[vM]at ht;have ih:=Lq c (λe he=>a e (AH _ he)) (λe he=>aA e (AH _ he)) (λe he=>aj e (AH _ he));split at ht
  . rename_i d;have:=cR d;rcases fF.1 ht with rfl|ht
    . exact⟨this,by rw[<-this];exact(a e AJ).b,aj e AJ,wi.no (aA e AJ)⟩
    . exact ih f t ht
  . exact ih f t ht
theorem Lr{T:List eA}(a:∀e,e∈T->ib P e)(aA:∀e,e∈T->fJ U.ro e.f=false){X:List (cx U)}(d:fu P (ho X)):∀(n:Nat) (e:eA),ib P e->hz P (e.s (wW P T X n e))
 |0,e,_=>λh r b=>by simp[eA.s,wW]at b
 |n+1,e,he=>hz.of λh r b=>
  have g:=Lq d a aA λc i=>Lr a aA d n c (a c i)
  Kg he _ g (iV.snd (Ec λs h o j=>Hv g n _ s h o j)) b
end
end Go.Proofs.YtfcnkdegapjgnaaGreatDoor.Shv
namespace Go.Proofs.YtfcnkdegapjgnaaGreatDoor.Shv
variable [da]
open Go
set_option linter.all false
variable {U:cK}{P:Program}
def gD(P:Program)(s:cx U):Prop:=gS P s.f=true/\hz P s
def pK(P:Program)(f:Nat):List Nat->di
 |[]=>codeF P f
 |q::p=>u2 (pK P f p) q
def mU(P:Program)(f kk:Nat)(p:List Nat)(e:f')(F:aR U.D e.ts->Option (en U e.outs)):Prop:=tA P (xK P f) kk (pK P f p) (e.l F)
def hT(P:Program)(l:List (cx U)):Prop:=fu P (ho l)
theorem hT.n:hT P ([]:List (cx U)):=fu.nil
theorem hT.k{s:cx U}{l:List (cx U)}(h:gD P s)(ad:hT P l)(a:fJ U.ro s.f=false:=by rfl):hT P (s::l):=fu.cons h.1 h.2 (.no a) ad
theorem hT.afT{s:cx U}{l:List (cx U)}(h:gD P s)(a:∀h r,s.F h=some r->s.rest r=s.hc h)(ad:hT P l):hT P (s::l):=fu.cons h.1 h.2 (λ_=>a) ad
def jg(P:Program)(f kk:Nat)(p:List Nat)(l:List (Nat×gF U)):Prop:=iV P (xK P f) kk (pK P f p) l
theorem jg.n{f kk:Nat}{p:List Nat}:jg P f kk p ([]:List (Nat×gF U)):=iV.nil
theorem jg.k{f kk q:Nat}{p:List Nat}{e:f'}{F:aR U.D e.ts->Option (en U e.outs)}{l:List (Nat×gF U)}(h:mU P f kk (q::p) e F)(ad:jg P f kk p l):jg P f kk p ((q,e.l F)::l):=iV.cons h ad
def zP(P:Program)(U:cK)(e:eA)(h:aR U.D e.ts)(r:aR U.D e.us):Prop:=tv P (e.s λ_=>none) h r
def we(P:Program)(U:cK)(f kk:Nat)(p:List Nat)(e:f')(h:aR U.D e.ts)(o:en U e.outs):Prop:=mT P (xK P f) kk (pK P f p) e.bu e.ts e.outs h o
theorem zP.at{e:eA}(g:ib P e){fs:List (cx U)}(c:hT P fs){a:List (Nat×gF U)}(ad:jg P e.f e.st.length [] a){h:aR U.D e.ts}{r:aR U.D e.us}(j:pR (ho fs) (kh a) P e h=some r):zP P U e h r:=
 Kg g _ c (iV.snd ad) j
theorem we.at {f kk:Nat}{p:List Nat}{e:f'}{a:aR U.D e.ts->Option (en U e.outs)}(bP:∀h o,a h=some o->we P U f kk p e h o){fs:List (cx U)}(g:hT P fs){c:List (Nat×gF U)}(ad:jg P f kk p c){h:aR U.D e.ts}{o:en U e.outs}
 (j:qE (ho fs) (kh c) kk (pK P f p) e a h=some o):we P U f kk p e h o:=
 Jm g (iV.snd ad) bP j
theorem gD.of{e:eA}(a:ib P e){F:aR U.D e.ts->Option (aR U.D e.us)}(h:∀h r,F h=some r->zP P U e h r):gD P (e.s F):=⟨a.b,hz.of h⟩
theorem mU.of{f kk:Nat}{p:List Nat}{e:f'}{F:aR U.D e.ts->Option (en U e.outs)}(h:∀h o,F h=some o->we P U f kk p e h o):mU P f kk p e F:=h
theorem gD.fn{e:eA}(a:ib P e){F:aR U.D e.ts->Option (aR U.D e.us)}{fs:List (cx U)}(g:hT P fs){c:List (Nat×gF U)}(ad:jg P e.f e.st.length [] c)(o:∀h,pR (ho fs) (kh c) P e h=F h):gD P (e.s F):=
 .of a λh r j=>.at a g ad ((o h).trans j)
theorem mU.ahi{f kk:Nat}{p:List Nat}{e:f'}{F:aR U.D e.ts->Option (en U e.outs)}{fs:List (cx U)}(c:hT P fs){a:List (Nat×gF U)}(ad:jg P f kk p a)(j:∀h,qE (ho fs) (kh a) kk (pK P f p) e (λ_=>none) h=F h):mU P f kk p e F:=
 .of λh o g=>.at (λ_ _ h=>by grind) c ad ((j h).trans g)
theorem gD.rc {e:eA}(c:ib P e){F:aR U.D e.ts->Option (aR U.D e.us)}{b:(aR U.D e.ts->Option (aR U.D e.us))->aR U.D e.ts->Option (aR U.D e.us)}
 (q:∀m:aR U.D e.ts->aR U.D e.us->Prop,(∀a,(∀h r,a h=some r->m h r)->∀h r,b a h=some r->m h r)->∀h r,F h=some r->m h r)
 {fs:(aR U.D e.ts->Option (aR U.D e.us))->List (cx U)}(j:∀a,gD P (e.s a)->hT P (fs a)){g:List (Nat×gF U)}(ad:jg P e.f e.st.length [] g)(p:∀a h,pR (ho (fs a)) (kh g) P e h=b a h):gD P (e.s F):=
 .of c (q _ λa bP h r o=>.at c (j a (.of c bP)) ad ((p a h).trans o))
theorem mU.rc {f kk:Nat}{p:List Nat}{e:f'}{F:aR U.D e.ts->Option (en U e.outs)}{b:(aR U.D e.ts->Option (en U e.outs))->aR U.D e.ts->Option (en U e.outs)}
 (t:∀m:aR U.D e.ts->en U e.outs->Prop,(∀a,(∀h r,a h=some r->m h r)->∀h r,b a h=some r->m h r)->∀h r,F h=some r->m h r)
 {fs:List (cx U)}(g:hT P fs){c:List (Nat×gF U)}(ad:jg P f kk p c)(q:∀a h,qE (ho fs) (kh c) kk (pK P f p) e a h=b a h):mU P f kk p e F:=
 .of (t _ λa bP h o j=>.at bP g ad ((q a h).trans j))
theorem gD.bt {e:eA}{F:aR U.D e.ts->Option (aR U.D e.us)}{fs:List (cx U)}(c:hT P fs:=by exact .n){a:List (Nat×gF U)}(ad:jg P e.f e.st.length [] a:=by exact .n)(g:ib P e:=by exact .m (by kernel_rfl))
 (j:∀h,pR (ho fs) (kh a) P e h=F h:=by intro _;kernel_rfl):gD P (e.s F):= .fn g c ad j
theorem gD.rx {e:eA}{F:aR U.D e.ts->Option (aR U.D e.us)}{b:(aR U.D e.ts->Option (aR U.D e.us))->aR U.D e.ts->Option (aR U.D e.us)}
 (p:∀m:aR U.D e.ts->aR U.D e.us->Prop,(∀a,(∀h r,a h=some r->m h r)->∀h r,b a h=some r->m h r)->∀h r,F h=some r->m h r)
 {fs:(aR U.D e.ts->Option (aR U.D e.us))->List (cx U)}(g:∀a,gD P (e.s a)->hT P (fs a)){c:List (Nat×gF U)}(ad:jg P e.f e.st.length [] c:=by exact .n)(j:ib P e:=by exact .m (by kernel_rfl))
 (o:∀a h,pR (ho (fs a)) (kh c) P e h=b a h:=by intro _ _;kernel_rfl):gD P (e.s F):= .rc j p g ad o
theorem mU.rx {f kk:Nat}{p:List Nat}{e:f'}{F:aR U.D e.ts->Option (en U e.outs)}{b:(aR U.D e.ts->Option (en U e.outs))->aR U.D e.ts->Option (en U e.outs)}
 (o:∀m:aR U.D e.ts->en U e.outs->Prop,(∀a,(∀h r,a h=some r->m h r)->∀h r,b a h=some r->m h r)->∀h r,F h=some r->m h r)
 {fs:List (cx U)}(g:hT P fs:=by exact .n){c:List (Nat×gF U)}(ad:jg P f kk p c:=by exact .n)(j:∀a h,qE (ho fs) (kh c) kk (pK P f p) e a h=b a h:=by intro _ _;kernel_rfl):mU P f kk p e F:= .rc o g ad j
theorem acv{T:List eA}(h:T.all (s8 P)=true):∀e,e∈T->ib P e:=λe he=>dW.1 h e he
theorem gD.run{T:List eA}(cP:T.all (s8 P)=true){X:List (cx U)}(c:hT P X){e:eA}(a:ib P e){F:aR U.D e.ts->Option (aR U.D e.us)}(n:Nat)(h:∀h,F h=wW P T X n e h)(aA:(T.all λe=>!(fJ U.ro e.f))=true:=by kernel_rfl):gD P (e.s F):=
 ⟨a.b,λx r g=>Lr (acv cP) (λe he=>by have:=dW.1 aA e he;simpa using this) c n e a x r ((h x).symm.trans g)⟩
abbrev ai:aD:= .int .i64
abbrev aT(n:Nat):aD:= .slice (.nm n)
abbrev re:aD:= .slice .str
abbrev gm:aD:= .slice (.int .i64)
abbrev aa(t:aD):dw:= .c (.hole t)
abbrev aC(b o:Nat):dw:= .c (.ptr b o)
abbrev cf(t:aD):dJ:= .box [.hole t]
def dn:fO->List aD
 |.hole t=>[t]
 |.cl _ _ _=>[.int .i64]
 |.dx t _=>[t]
 |_=>[]
def bP{α:Type}(f:α->List aD):List α->List aD
 |[]=>[]
 |a::l=>f a++bP f l
def PR:dw->List aD
 |.c s=>dn s
 |.agg l=>bP dn l
 |.row n=>[.nm n]
 |.aS _=>[]
def gV:dw->List aD
 |.aS l=>bP PR l
 |v=>PR v
def cA:dJ->List aD
 |.box l=>bP dn l
 |.arr t=>[.slice t]
 |.bK n=>[.nm n]
 |.set=>[.slice .str]
 |.buf _=>[.str]
 |.bX _ s=>dn s
 |.gone=>[]
def cp(l:List (Nat×dw))(st:List dJ):List aD:=bP (λp=>gV p.2) l++bP cA st
abbrev a8(f:Nat)(gk:List dw)(eC:dw)(sub:List f':=[])(st:List dJ:=[])(ev:List dJ:=[]):eA:=⟨f,gk,st,bP gV gk++bP cA st,eC,ev,gV eC++bP cA ev,sub⟩
abbrev bI(q:Nat)(l:List (Nat×dw))(st:List dJ)(outs:List jh)(sub:List f':=[])(own:List (Pos×aD):=[])(Cr:List (Pos×aD):=own):f':=⟨q,⟨l,st⟩,own,Cr,cp l st,outs,sub⟩
abbrev bN(e:Exit)(l:List (Nat×dw))(st:List dJ:=[])(own:List (Pos×aD):=[]):jh:=⟨e,⟨l,st⟩,own,cp l st⟩
abbrev e1(k:Nat)(t:aD):jh:=⟨.ret,⟨[(k,aa t)],[]⟩,[],[t]⟩
abbrev gN(i:Nat):jh:=⟨.exit i,⟨[],[]⟩,[],[]⟩
end Go.Proofs.YtfcnkdegapjgnaaGreatDoor.Shv
namespace Go.Proofs.YtfcnkdegapjgnaaGreatDoor.Shv
set_option linter.all false
section
open Go
variable [da]
variable {U:cK}
def BO(te sz bytes:Nat)(z:List C):di:=
 .seq (.region [⟨some 2,.mov (.const (.c .bC)),none⟩])
  (.seq (.seq (.region [⟨some 3, .mov (.tmp 0),none⟩,⟨some 4, .eqNil false (.tmp 3),none⟩])
   (.cond (.tmp 4) (.seq (.region [⟨some 2,.mov (.const (.c .bC)),none⟩]) .ret) .skip))
   (.seq (.region [⟨some 5,.bslice sz 0 z [],none⟩,⟨some 6,.mov (.tmp 0),none⟩,⟨some 7,.append te sz bytes (.tmp 5) (.tmp 6),none⟩,⟨some 2,.mov (.tmp 7),none⟩]) .ret))
def tb(bytes n:Nat):Bool:=(decide ((2*n+192)*bytes<=gr)||decide ((n+n/4+512)*bytes<=gr))&&decide (n<=dd)
theorem pg{bytes n:Nat}(h:room bytes n=true):tb bytes n=true:=by
 grind[GQ,tb]
theorem Ls{bytes n:Nat}(h:tb bytes n=true):gv n bytes/\n<=dd:=by
 unfold tb at h;simp at h;exact h
def fR{α:Type}(bytes:Nat)(l:List α):Option (List α):=if tb bytes l.length=true then some l else none
def CT(U:cK)(f:Nat)(t:aD)(bytes:Nat):cx U:=
 ⟨f,[.c (.hole (.slice t))],[],[.slice t],.c (.arr 0),[.arr t],[.slice t],λ(l:List (t.den U.D))=>fR bytes l⟩
section
variable {P:Program}
theorem ZB {f:Nat}{fn:Func}{te sz bytes:Nat}{z:List C}{q:List T}{es:List (List T)}(g:P.funcs[f]?=some fn)(a:fn.body.bind (Shv.resolve P fn.ntmps)=some (BO te sz bytes z))(j:hD P fn.results.toList=some [.tmp 2])
 (aA:1<=fn.ntmps)(p:toTs z=some q)(m:0<sz)(he:∀e,e∈es->e.length=sz)(l:tb bytes es.length=true):
 dG P f [.c (.t (.slice es))] [] 0 (λr J' N'=>N'=1/\r= .c (.arr 0 sz 0 es.length)/\aJ J' 0=some (.arr sz es)):=by
 have y:=Ls l;refine dG.tidy (Q:=λr J' N'=>∃b,r= .c (.arr b sz 0 es.length)/\aJ J' b=some (.arr sz es)) (dG.mk g a j rfl (by grind) ?_) ?_
 . refine bJ.seq (bJ.region ?_);simp only[j4,fP,fB,aw,aL.get,dX,fD,b9.neutral,cw,andThen];refine .inr ⟨λ_=>trivial,.inl trivial,?_⟩;refine bJ.seq (bJ.seq (bJ.region ?_));simp only[j4,fP,fB,aw,aL.get,jW,dX,b9.neutral,cw,andThen,look];refine .inr ⟨λ_=>by rfl,.inl trivial,?_⟩;refine .inr ?_
   simp only[cv,cw,true_and];intro b u;refine bJ.cond (b:=b) (by simp[aL.get,look,ma]) trivial (λw=>?_) (λv=>?_)
   ·
    have d:es=[]:=by grind
    subst d;refine bJ.seq (bJ.region ?_);simp only[j4,fP,fB,aw,aL.get,jW,dX,b9.neutral,cw,andThen];refine .inr ⟨λ_=>trivial,.inl trivial,?_⟩;refine bJ.conv (Conv.own (k:=2) rfl m (lb _)) (bJ.ret ?_)
    refine⟨_,_,rfl,⟨rfl,trivial⟩,_,rfl,?_⟩;rfl
   . refine bJ.skip ?_;refine bJ.seq (bJ.region ?_);simp only[j4,fP,fB,aw,aL.get,jW,dX,b9.neutral,cw,andThen,look,iJ,p,ak,Nat.reduceEqDiff,cv,reduceCtorEq,ia,cE,List.replicate];refine .inr ⟨λ_=>trivial,.inr trivial,?_⟩;refine .inr ⟨λ_=>by simp,.inl trivial,?_⟩
     refine .inr ⟨λ_=>⟨trivial,trivial,trivial,trivial,trivial,by rfl,he,by grind,by grind⟩,.inr trivial,?_⟩;refine .inr ⟨λ_=>by simp,.inl trivial,?_⟩;refine bJ.ret ⟨_,[.c (.arr 80 sz 0 _)],rfl,⟨rfl,trivial⟩,80,by rw[fp];rfl,?_⟩;rfl
 . rintro r J' N' ⟨b,rfl,hs⟩
   refine⟨[b],_,_,by simp,rfl,?_,λi x n=>⟨x,n,?_⟩,rfl,rfl,?_⟩
   . simp only[V.bG,C.bG,pos,cw];exact .c (dv.refl _)
   . cases x with
     |box cs=>exact .box (aQ.self dv.refl _)
     |vec sz cs=>exact .vec (aQ.self dv.refl _)
     |arr sz es=>exact .arr
     |set ks=>exact .same
     |buf E s=>exact .same
     |bX E c=>exact .bX (dv.refl _)
     |cu sz es i o c=>exact .cu (dv.refl _)
   grind[eO,aJ,bp.bG]
theorem Kh {f:Nat}{fn:Func}{te sz bytes:Nat}{z:List C}{u:List T}{t:aD}(n:P.funcs[f]?=some fn)(m:fn.body.bind (Shv.resolve P fn.ntmps)=some (BO te sz bytes z))(o:hD P fn.results.toList=some [.tmp 2])
 (aA:Nat.ble 1 fn.ntmps=true)(s:toTs z=some u)(q:t.sz U=sz):hz P (CT U f t bytes):=by
 intro l r bP w J1 j ay;subst q;have d:fR _ l=some r:=bP;unfold fR at d;split at d
 . cases d;cases j with
   |cons h1 i=>
    cases i;have:=b6.jw h1;subst this
    refine dG.conv (.cons (.c (dv.refl _)) .nil) (λb x a=>by grind[aJ]) ((ZB n m o (ik aA) s aD.vK (λe he=>by
     obtain⟨y,_,rfl⟩:=hM.1 he
     exact aD.rC) (by grind)).mono ?_)
    rintro B s1 v ⟨rfl,rfl,hs⟩
    refine⟨rfl,.c (.arr 0 _ _ (by simp) λx a p A=>?_),λb x a=>?_⟩
    . have:x=ct.arr t l:=by
       simp[cx.rest,CT,lQ,tZ,aR.cells,e9.cells,hn,js,aU]at a
       grind
      grind[ct.cU]
    . have g:(if b=0 then some (ct.arr t l)else none)=some x:=by
       rw[<-a];cases b<;>rfl
      split at g
      . rename_i k;cases g;subst k;exact⟨by simp,_,hs,.arr t l⟩
      grind
 grind
def sR{α:Type}(bytes:Nat)(l:List α):Option (List α×List α):=(fR bytes l).map λr=>(l,r)
def Hm(U:cK)(f:Nat)(t:aD)(bytes:Nat):cx U:=
 ⟨f,[.c (.arr 0)],[.arr t],[.slice t],.c (.arr 1),[.arr t,.arr t],[.slice t,.slice t],λ(l:List (t.den U.D))=>sR bytes l⟩
theorem YQ {f:Nat}{fn:Func}{te sz bytes:Nat}{z:List C}{y:List T}{es:List (List T)}{a:aF}(m:P.funcs[f]?=some fn)(j:fn.body.bind (Shv.resolve P fn.ntmps)=some (BO te sz bytes z))(n:hD P fn.results.toList=some [.tmp 2])
 (aA:1<=fn.ntmps)(w:toTs z=some y)(t:0<sz)(he:∀e,e∈es->e.length=sz)(q:tb bytes es.length=true)(h0:aJ a 0=some (.arr sz es)):
 dG P f [.c (.arr 0 sz 0 es.length)] a 1 (λr J' N'=>N'=2/\r= .c (.arr 1 sz 0 es.length)/\aJ J' 0=some (.arr sz es)/\aJ J' 1=some (.arr sz es)):=by
 have G:=Ls q;refine dG.tidy (Q:=λr J' N'=>∃b,1<=b/\r= .c (.arr b sz 0 es.length)/\aJ J' 0=some (.arr sz es)/\aJ J' b=some (.arr sz es)) (dG.mk m j n rfl (by grind) ?_) ?_
 . refine bJ.seq (bJ.region ?_);simp only[j4,fP,fB,aw,aL.get,jW,dX,fD,b9.neutral,cw,andThen];refine .inr ⟨λ_=>trivial,.inl trivial,?_⟩;refine bJ.seq (bJ.seq (bJ.region ?_));simp only[j4,fP,fB,aw,aL.get,jW,dX,b9.neutral,cw,andThen,look,jv,km]
   refine .inr ⟨λ_=>by rfl,.inl trivial,?_⟩;refine .inr ?_;simp only[Nat.reduceEqDiff,cv,cw,jW,true_and];intro b A;refine bJ.cond (b:=b) (p:=True) (by simp[aL.get,look,ma]) trivial (λF=>?_) (λD=>?_)
   . have l:es=[]:=by grind
     subst l;refine bJ.seq (bJ.region ?_);simp only[j4,fP,fB,aw,aL.get,jW,dX,b9.neutral,cw,andThen];refine .inr ⟨λ_=>trivial,.inl trivial,?_⟩;refine bJ.conv (Conv.own (k:=2) (g:=true) (sz:=sz) rfl t (by simp)) (bJ.ret ?_)
     refine⟨_,_,rfl,⟨rfl,trivial⟩,_,by simp,rfl,?_,?_⟩
     . simp_all[cE,ag]
     . rw[cE,ab rfl]
   . refine bJ.skip ?_;refine bJ.seq (bJ.region ?_);simp only[j4,fP,fB,aw,aL.get,jW,dX,b9.neutral,cw,andThen,look,iJ,w,ak,Nat.reduceEqDiff,cv,cN,reduceCtorEq,List.replicate];refine .inr ⟨λ_=>trivial,.inr trivial,?_⟩;refine .inr ⟨λ_=>by simp,.inl trivial,?_⟩
     have d:∀v,ia (cn a (1+16*1+16*2) (.arr sz v)) (.c (.arr 0 sz 0 es.length))=some (es,some 0):=by
      grind[ia,cE]
     refine .inr ?_;simp only[jv,km,fp]at d⊢;rw[d];simp only[ak,cE,cw,cQ,Nat.reduceMul,Nat.reduceAdd,cv];refine⟨λ_=>⟨trivial,trivial,trivial,trivial,trivial,by rfl,he,by grind,by grind⟩,.inr trivial,?_⟩;refine .inr ⟨λ_=>by simp,.inl trivial,?_⟩
     refine bJ.ret ⟨_,[.c _],rfl,⟨rfl,trivial⟩,81,by simp,rfl,?_,?_⟩
     . simp_all[cE,ag,d']
     simp_all[cE,ab]
 . rintro r J' N' ⟨b,B,rfl,H,hs⟩
   refine⟨[0,b],_,_,by grind,rfl,?_,λi x u=>⟨x,u,?_⟩,rfl,rfl,?_⟩
   . simp only[V.bG,C.bG,pos,ag (show ¬0=b by omega),cw];exact .c (dv.refl _)
   . cases x with
     |box cs=>exact .box (aQ.self dv.refl _)
     |vec sz cs=>exact .vec (aQ.self dv.refl _)
     |arr sz es=>exact .arr
     |set ks=>exact .same
     |buf E s=>exact .same
     |bX E c=>exact .bX (dv.refl _)
     |cu sz es i o c=>exact .cu (dv.refl _)
   grind[eO,aJ,bp.bG]
theorem YR {f:Nat}{fn:Func}{te sz bytes:Nat}{z:List C}{F:List T}{t:aD}(q:P.funcs[f]?=some fn)(m:fn.body.bind (Shv.resolve P fn.ntmps)=some (BO te sz bytes z))(u:hD P fn.results.toList=some [.tmp 2])
 (aA:Nat.ble 1 fn.ntmps=true)(E:toTs z=some F)(A:t.sz U=sz):hz P (Hm U f t bytes):=by
 intro l r bP H J1 j ay;subst A;have d:(fR _ l).map _=some r:=bP;unfold fR at d;split at d
 . cases d;cases j with
   |cons h1 i=>
    cases i;obtain⟨sz,n,rfl,_,o⟩:=h1.fH;obtain⟨_,y,B,D⟩:=ay 0 _ rfl;cases D;have:=o _ rfl _ rfl;obtain⟨rfl,rfl⟩:=this;have s:l.length=(l.map (t.enc U)).length:=by grind
    rw[s]
    refine(YQ q m u (ik aA) E aD.vK (λe he=>by
     obtain⟨y,_,rfl⟩:=hM.1 he
     exact aD.rC) (by grind) B).mono ?_
    rintro K s1 G ⟨rfl,rfl,v,w⟩
    have g:∀b x,aU ((Hm U f t bytes).rest (l,l)) b=some x->(b=0\/b=1)/\x=ct.arr t l:=by
     intro b x a;have J:(if b=0 then some (ct.arr t l)else if b=1 then some (ct.arr t l)else none)=some x:=by
      rw[<-a]
      match b with
      |0=>rfl
      |1=>rfl
      |_+2=>rfl
     grind
    refine⟨rfl,.c (.arr 1 _ _ (by simp) λx a p I=>?_),λb x a=>?_⟩
    . obtain⟨_,rfl⟩:=g _ _ a
      grind[ct.cU]
    . obtain⟨k,rfl⟩:=g _ _ a;rcases k with rfl|rfl
      . exact⟨by simp,_,v,.arr t l⟩
      . exact⟨by simp,_,w,.arr t l⟩
 grind
end
end
section
open Go Go.Proofs Go.Proofs.YtfcnkdegapjgnaaGreatDoor Go.Shelf
variable [da]
variable {U:cK}
def CU(U:cK)(f E a:Nat):cx U:=
 ⟨f,[.c (.ptr 0 0)],[.bX E (.cr 1),.buf a],[.str],.aS [],[.bX E (.cr 1),.buf a],[.str],λ(s:List UInt8)=>some s⟩
section
variable {P:Program}{ρ:Ren}
theorem aaD(L:Lays.n240 P ρ)(X:Builder.X72 P ρ){J:aF}{A n:Nat}{s:List UInt8}(h0:aJ J 0=some (.bX (ρ.t 72) (.cr 1 n)))(h1:aJ J 1=some (.buf A s)):
 dG P (ρ.f 240) [.c (.ptr 0 0)] J 2 (λr J' N'=>r= .aS []/\J'=J/\N'=2):=by
 intro φ S w B g z l N O vs o;cases o with|cons K o=>
 cases o;have G:=K.hx;subst G;obtain⟨q,⟨p,v,aa,F,H⟩,y⟩:=g.blk 0 _ h0
 have same:∀ w',w' = w->∃ (v:Value) (r:V) (i:db) (bH:dj) (J':aF) (N':Nat),Ending.returned (Value.tuple #[]) = Ending.returned v/\(r = .aS []/\J' = J/\N' = 2)/\cd i w' bH r v/\r.aq (lt N') = true/\pW i w' bH J'/\(∀ (b:Nat) x,aJ J' b = some x->b<N'/\x.aq (lt N') = true)/\Ext B S bH w w'/\
  (∀(b:Nat) x,aJ J' b=some x->(i b).2≠0->B (i b).1\/w.heap.size<=(i b).1)/\∀b,b<2->i b=φ b:=by
  rintro w' rfl
  exact⟨_,.aS [],φ,S,J,2,rfl,⟨rfl,rfl,rfl⟩,.aS [] [] rfl (by simp),rfl,g,z,Ext.refl,λb x a d=>.inl (l b x a d),λ_ _=>rfl⟩
 rcases F with rfl|rfl
 . have k:w.cell? ⟨(φ 0).1,0,none⟩=some (.pointer none):=by rw[hV aa];rfl
   have I:w.shape? (φ 0).1=some (ρ.t 72,2):=by simp[World.shape?,aa]
   have E:w.frozen? ⟨(φ 0).1,0,none⟩=false:=by simp[World.frozen?,aa]
   refine(Any.Builder_copyCheck_fresh L X _ w k I E).mono ?_
   rintro e w' ⟨rfl,rfl⟩
   obtain⟨M,u⟩:=RM aa 0 _;have m:fw w S _ S:=⟨λ_ _ h=>h,λb j h=>nU (u b (λe=>y j (e▸h))) j⟩
   refine⟨_,.aS [],φ,S,J,2,rfl,⟨rfl,rfl,rfl⟩,.aS [] [] rfl (by simp),rfl,⟨λb x a=>?_,g.inj,λb j h=>?_⟩,z,⟨rfl,rfl,rfl,by simp,λb d cA=>u b (λe=>cA (e▸l 0 _ h0 q)),m,λ_ _ h=>.inl h⟩,λb x a d=>.inl (l b x a d),λ_ _=>rfl⟩
   . by_cases d:b=0
     . subst d;rw[h0]at a;cases a;exact⟨q,⟨_,v,M,.inr rfl,aX.mono m (λ_ _=>rfl) (C.ji _) H⟩,y⟩
     . exact cD.mono (n:=λ_=>true) m (λ_ _=>rfl) rfl (by cases x<;>simp[bp.aq,C.ji]) (λD=>u _ (g.inj b 0 x _ a h0 d D q)) (g.blk b x a)
   . have:=g.st b j h
     simpa using this
 . have k:w.cell? ⟨(φ 0).1,0,none⟩=some (.pointer (some ⟨(φ 0).1,0,none⟩)):=by rw[hV (vs:=[_,_]) aa];rfl
   refine(Any.Builder_copyCheck_used L X _ w k).mono ?_
   rintro e w' ⟨rfl,rfl⟩
   exact same _ rfl
theorem aaE(L:Lays.n240 P ρ)(X:Builder.X72 P ρ){f E a:Nat}(i:ρ.f 240=f)(cp:ρ.t 72=E):hz P (CU U f E a):=by
 subst i;subst cp;intro s r bP o J1 b ay;have j:=lW bP.symm;subst j;cases b with|cons b g=>
 cases g;have:=b.hx;subst this;have k:aU ((CU U (ρ.f 240) (ρ.t 72) a).hc r) 0=some _:=rfl;have l:aU ((CU U (ρ.f 240) (ρ.t 72) a).hc r) 1=some _:=rfl;obtain⟨_,v,c,b0⟩:=ay 0 _ k;obtain⟨_,w,e,b1⟩:=ay 1 _ l;cases b1;cases b0 with| @bX _ _ d b0=>
 cases b0 with|cr _ n p q=>
 refine(aaD L X c e).mono ?_
 rintro u s1 m ⟨rfl,rfl,rfl⟩
 exact⟨rfl,.aS [] [] rfl (by simp),ay⟩
end
end
section
open Go Go.ChangeShapes Go.WideShapes Go.RowKit
variable [da]
variable {U:cK}
def aD.QO:aD->Nat
 |.bool=>1
 |.int k=>k.bits/8
 |.str=>16
 |.slice _=>24
 |.nm _=>0
def Hn:List aD->Nat
 |[]=>0
 |t::r=>t.QO+Hn r
def sS(l:List aD):Nat:=bif l.any λt=>Nat.ble 8 t.QO then(Hn l+7)/8*8 else Hn l
def aD.bytes(U:cK)(t:aD):Nat:=sS (t.cells U)
inductive WF (U:cK):Cell U.D->Prop
 |bool (b:Bool):WF U ⟨.bool,b⟩
 |int (k:IntKind) (n:Int) (h:(Lit.int k n).wf=true):WF U ⟨.int k,n⟩
 |str (s:List UInt8) (h:s.length<=reachBytes):WF U ⟨.str,s⟩
 |slice (t:aD) (l:List (t.den U.D)) (h:l.length<=reachBytes) (afI:l.length*t.bytes U<=reachBytes) (ad:∀x,x∈l->∀c,c∈t.row U x->WF U c):WF U ⟨.slice t,l⟩
def cK.Total(U:cK):Prop:=∀n (l:List (Cell U.D)),l.map Cell.ty=U.du n->∃x,U.make n l=some x
def Da:List aD->List aD->Bool
 |[],[]=>true
 |a::l,b::m=>aD.beq a b&&Da l m
 |_,_=>false
theorem K0:∀{l m:List aD},Da l m=true->l=m
 |[],[],_=>rfl
 |a::l,b::m,h=>by
  simp[Da]at h;rw[aD.beq_eq h.1,K0 h.2]
 |[],_::_,h=>by cases h
 |_::_,[],h=>by cases h
def yK(P:Program)(g:TypeId->Option (List aD)):List Field->Nat->Nat->Option (List aD)
 |[],off,c=>match Nat.beq off c with
  |true=>some []
  |false=>none
 |f::r,off,c=>match g f.type with
  |none=>none
  |some a=>match Nat.beq f.offset off&&Nat.beq (P.cellsOf f.type) a.length with
   |false=>none
   |true=>match yK P g r (off+a.length) c with
    |none=>none
    |some b=>some (a++b)
def flat(P:Program)(U:cK)(st:TypeId->Option Nat):Nat->TypeId->Option (List aD)
 |0,_=>none
 |n+1,t=>match P.underlying t with
  |some .bool=>some [.bool]
  |some (.int k)=>some [.int k]
  |some .string=>some [.str]
  |some (.slice e)=>match st e with
   |some m=>match Nat.ble 1 (P.bytesOf e)&&Nat.ble (sS (U.du m)) (P.bytesOf e)with
    |true=>some [.slice (.nm m)]
    |false=>none
   |none=>match flat P U st n e with
    |none=>none
    |some a=>match Nat.ble 1 (P.bytesOf e)&&Nat.ble (sS a) (P.bytesOf e)with
     |false=>none
     |true=>match a with
      |[ty]=>match ty.uc with
       |true=>none
       |false=>some [.slice ty]
      |_=>none
  |some (.struct fs)=>yK P (flat P U st n) fs.toList 0 (P.cellsOf t)
  |some (.array k e)=>match flat P U st n e with
   |none=>none
   |some a=>match Nat.beq (P.cellsOf t) (k*a.length)&&Nat.beq (P.cellsOf e) a.length with
    |false=>none
    |true=>some (List.replicate k a).flatten
  |_=>none
theorem Su{α:Type}{R:Nat->α->Prop}:∀(n:Nat),(∀i,i<n->∃x,R i x)->∃l:List α,l.length=n/\∀(i:Nat) x,l[i]?=some x->R i x
 |0,_=>⟨[],rfl,by simp⟩
 |n+1,h=>by
  obtain⟨l,ad,a⟩:=Su n λi hi=>h i (by omega)
  obtain⟨x,b⟩:=h n (by simp);refine⟨l++[x],by grind,λi y c=>?_⟩
  grind
section
variable {H:Type}{enc:TypeId×Value->H}{P:Program}{w:World}
abbrev Old(w:World):dj:=λb _=>b<w.heap.size
structure Rd (U:cK)(w:World)(du:List aD)(cs:List Value)(l:List (Cell U.D)):Prop where
 ty:l.map Cell.ty=du
 wf:∀c,c∈l->WF U c
 rt:aQ (λc v=>b5 w (Old w) (Cell.enc U c) v) l cs
theorem yL{t:aD}{x:t.den U.D}{v:Value}(h1:WF U ⟨t,x⟩)(a:b5 w (Old w) (Cell.enc U ⟨t,x⟩) v):Rd U w [t] [v] [⟨t,x⟩]:=
 ⟨rfl,by grind,.cons a .nil⟩
theorem Fc{t:TypeId}:∀{a:List (DataW H)} {d:DataW H},d∈a->∀n∈d.weights P t,n∈DataW.weightsAll P t a
 |d0::a,d,b,n,aA=>by
  simp[DataW.weightsAll];rcases fF.1 b with rfl|b
  . grind
  . exact .inr (Fc b n aA)
theorem Ki{g:TypeId->Option (List aD)}{cs:List Value}:∀{fs:List Field} {off i:Nat} {du:List aD},
 (∀f,f∈fs->∀a,g f.type=some a->∃l,Rd U w a ((cs.drop f.offset).take (P.cellsOf f.type)) l)->
 yK P g fs off i=some du->cs.length=i->∃l,Rd U w du (cs.drop off) l
 |[],off,i,du,_,h,ad=>by
  simp[yK]at h;split at h
  . rename_i e;cases h;have:=cR e;refine⟨[],rfl,by simp,?_⟩;rw[gy (by omega)];exact .nil
  grind
 |f::r,off,i,du,aj,h,ad=>by
  simp only[yK]at h;split at h
  . grind
  . rename_i a n;split at h
    . grind
    . rename_i j;simp only[cH]at j;have h1:=cR j.1;have q:=cR j.2;split at h
      . grind
      . rename_i b o;cases h;obtain⟨p,k⟩:=aj f (by simp) a n;obtain⟨l2,m⟩:=Ki (λf s=>aj f (by grind)) o ad;refine⟨p++l2,by simp[k.ty,m.ty],?_,?_⟩
        . intro c d;rcases fX.1 d with d|d
          . exact k.wf c d
          . exact m.wf c d
        . have e:cs.drop off=(cs.drop off).take a.length++cs.drop (off+a.length):=by rw[<-s6,List.take_append_drop]
          rw[e];refine aQ.append ?_ m.rt;have:=k.rt
          grind
theorem Ml{a:List aD}{cs:List Value}:∀(k off:Nat),(∀i,i<k->∃l,Rd U w a ((cs.drop (off+i*a.length)).take a.length) l)->cs.length=off+k*a.length->
 ∃l,Rd U w (List.replicate k a).flatten (cs.drop off) l
 |0,off,_,ad=>by
  refine⟨[],rfl,by simp,?_⟩;rw[gy (by omega)];exact .nil
 |k+1,off,aj,ad=>by
  obtain⟨g,d⟩:=aj 0 (by simp);rw[vq]at d
  obtain⟨l2,f⟩:=Ml (a:=a) (cs:=cs) k (off+a.length) (λi hi=>by
   grind) (by grind)
  refine⟨g++l2,by simp[d.ty,f.ty,List.replicate_succ],?_,?_⟩
  . intro c b;rcases fX.1 b with b|b
    . exact d.wf c b
    . exact f.wf c b
  . have e:cs.drop off=(cs.drop off).take a.length++cs.drop (off+a.length):=by rw[<-s6,List.take_append_drop]
    rw[e];exact aQ.append d.rt f.rt
theorem NW{a:Addr}{n:Nat}{cs:List Value}(h:w.cells? 0 a n=some cs):cs.length=n/\∀j,j<n->w.cell? (a.add j)=cs[j]?:=by
 exact⟨by simpa using mapM_some_length h,λj b=>mapM_some_get h j j (by grind)⟩
theorem zK{a:Addr}{v:Value}(h:w.cell? a=some v):a.spot=none/\a.block<w.heap.size:=by
 unfold World.cell? at h;split at h
 . rename_i b;split at h
   . grind
   . refine⟨by simp_all,(vv.1 b).1⟩
 grind
theorem zN{a:Addr}{i j:Nat}(h:a.spot=none):(a.add i).add j=⟨a.block,a.off+i+j,none⟩:=by
 obtain⟨b,o,c⟩:=a
 grind[Addr.add]
theorem PZ(b:U.Total){t:aD}{l:List (Cell U.D)}(h:l.map Cell.ty=t.cells U):∃x,t.row U x=l:=by
 have one:∀t,l.map Cell.ty=[t]->∃x:t.den _,l=[⟨t,x⟩]:=by
  intro t h
  match l,h with
  |[⟨c,x⟩],h=>grind
 cases t with
 |nm n=>
  obtain⟨x,a⟩:=b n l h;exact⟨x,U.mk_eq n l x a⟩
 |bool=>obtain⟨x,a⟩:=one _ h;exact⟨x,a.symm⟩
 |int k=>obtain⟨x,a⟩:=one _ h;exact⟨x,a.symm⟩
 |str=>obtain⟨x,a⟩:=one _ h;exact⟨x,a.symm⟩
 |slice t=>obtain⟨x,a⟩:=one _ h;exact⟨x,a.symm⟩
def rq(P:Program)(U:cK)(st:TypeId->Option Nat):Prop:=∀e m,st e=some m->flat P U st 60 e=some (U.du m)
def vH:List (TypeId×Nat)->TypeId->Option Nat
 |[],_=>none
 |p::l,t=>match Nat.beq p.1 t with
  |true=>some p.2
  |false=>vH l t
def yM(P:Program)(U:cK)(st:TypeId->Option Nat)(t:TypeId)(du:List aD):Bool:=
 match flat P U st 60 t with
 |some a=>Da a du
 |none=>false
theorem FU{P:Program}{st:TypeId->Option Nat}{t:TypeId}{du:List aD}(h:yM P U st t du=true):flat P U st 60 t=some du:=by
 grind[yM,K0]
theorem K1:∀{l:List (TypeId×Nat)} {t m},vH l t=some m->(t,m)∈l
 |p::l,t,m,h=>by
  simp[vH]at h;split at h
  . grind[cR]
  . exact .tail _ (K1 h)
theorem adJ{P:Program}{l:List (TypeId×Nat)}(h:(l.all λp=>yM P U (vH l) p.1 (U.du p.2))=true):rq P U (vH l):=by
 intro e m he;rw[dW]at h;exact FU (h _ (K1 he))
theorem YS{st:TypeId->Option Nat}(g:rq P U st){n:Nat}{t e:TypeId}{du:List aD}(ht:P.underlying t=some (.slice e))(h:flat P U st (n+1) t=some du):
 ∃ty a b3,du=[.slice ty]/\flat P U st b3 e=some a/\a=ty.cells U/\1<=P.bytesOf e/\sS a<=P.bytesOf e:=by
 simp[flat,ht]at h;split at h
 . rename_i m f;split at h
   . rename_i b;cases h;simp only[cH]at b;exact⟨.nm m,U.du m,60,rfl,g e m f,rfl,yo b.1,yo b.2⟩
   grind
 . split at h
   . grind
   . rename_i a c;split at h
     . grind
     . rename_i b;have d:1<=P.bytesOf e/\sS a<=P.bytesOf e:=by simp_all
       split at h
       . rename_i ty;split at h
         . grind
         . rename_i aA;cases h;refine⟨ty,[ty],n,rfl,c,?_,d⟩;cases ty<;>first|rfl|cases aA
       grind
theorem Kj(ax:U.Total){st:TypeId->Option Nat}(av:rq P U st):∀(Q n:Nat) (t:TypeId) (cs:List Value) (x:DataW H×List MemPlace) (du:List aD),
 DataW.trod enc P w 0 (λ_=>true) true Q t cs=some x->flat P U st n t=some du->(∀k,k∈x.1.weights P t->k<=reachBytes)->∃l,Rd U w du cs l:=by
 intro Q
 induction Q with
 |zero=>simp_all[DataW.trod]
 |succ m ih=>
  intro n t cs x du h p O;cases n with
  |zero=>cases p
  |succ n=>
  have ao:=p;simp only[flat]at p;split at p
  . rename_i o;cases p;obtain⟨b,rfl,rfl⟩:=DataW.trod_bool o h;exact⟨_,yL (.bool b) (.bool b)⟩
  . rename_i k o;cases p;obtain⟨i,rfl,rfl,aw⟩:=DataW.trod_int o h;exact⟨_,yL (.int k i aw) (.int k i)⟩
  . rename_i o;cases p;obtain⟨s,rfl,rfl,hs⟩:=DataW.trod_string o h;have h1:s.data.toList.length<=reachBytes:=O _ (by simp[DataW.weights]);have z:s.data.toList.length=s.size:=vy;refine⟨_,yL (.str s.data.toList h1) (.str s ?_)⟩
    grind[reachBytes,dK]
  . rename_i e o;obtain⟨ty,a,b3,rfl,F,aa,al,am⟩:=YS av o ao;rcases DataW.trod_slice o h with⟨rfl,rfl⟩|⟨g,len,cap,B,rest,ak,J,rfl,rfl,_,aA,_,ay,G,_,_⟩
    . refine⟨_,yL (.slice ty [] (lb _) (by simp) (by simp)) ?_⟩;exact .slice [] none 0 0 0 0 (λ_ _=>default) (by simp) (by simp) (by simp) (by simp) (by simp) (by simp)
    . cases J;have aB:(B.length+rest.length)*P.bytesOf e<=reachBytes:=by
       simp_all[DataW.weights]
      have M:len<=reachBytes:=by
       have h1:B.length+rest.length<=(B.length+rest.length)*P.bytesOf e:=En _ al;omega
      have I:len*sS a<=reachBytes:=by
       have h1:len*sS a<=(B.length+rest.length)*P.bytesOf e:=AQ (by omega) am;omega
      have cp:∀i,i<len->∃L:ty.den U.D,∃y,y.length=P.cellsOf e/\(∀j,j<P.cellsOf e->w.cell? ((g.add (i*P.cellsOf e)).add j)=y[j]?)/\Rd U w a y (ty.row U L):=by
       intro i hi;have S:=G i hi;have an:B[i]?=some B[i]:=eu (by omega);rw[an]at S;cases E:w.cells? 0 (g.add (i*P.cellsOf e)) (P.cellsOf e)with
       |none=>grind
       |some y=>
        rw[E]at S;obtain⟨h1,z⟩:=NW E
        obtain⟨l,ad⟩:=ih b3 e y _ a S F (λk W=>O k (by
         simp only[DataW.weights,o,fF,fX];right;left
         exact Fc (hM.2 ⟨B[i],AL _,rfl⟩) k W))
        obtain⟨L,aC⟩:=PZ ax (t:=ty) (by rw[ad.ty,aa])
        grind
      obtain⟨xs,ag,ai⟩:=Su len cp;have Z:len≠0->P.cellsOf e=ty.sz U/\0<P.cellsOf e:=by
       intro K;obtain⟨L,y,h1,_,C⟩:=cp 0 (by omega);have u:=C.rt.length;rw[aD.EL,h1]at u;exact⟨u.symm,by rw[<-u];exact aD.vK⟩
      have Y:len≠0->g.spot=none:=by
       intro K;obtain⟨L,y,h1,z,C⟩:=cp 0 (by omega);have h0:=z 0 (Z K).2;rw[eu (by rw[h1];exact(Z K).2)]at h0;have bf:=(zK h0).1
       simpa[Addr.add]using bf
      have ah:∀x,x∈xs->∃i:Nat,xs[i]?=some x/\i<len:=by
       intro x A;obtain⟨i,hi⟩:=List.mem_iff_getElem?.1 A
       grind
      refine⟨_,yL (t:= .slice ty) (x:=xs) (.slice ty xs (by omega) (by rw[ag];unfold aD.bytes;rw[<-aa];exact I) ?_) ?_⟩
      . intro x A c E;obtain⟨i,hi,_⟩:=ah x A;obtain⟨y,_,_,C⟩:=ai i x hi;exact C.wf c E
      . have I:(xs.map (ty.enc U)).length=len:=by simp[ag]
        rw[<-I];refine .slice (xs.map (ty.enc U)) (some g) cap (P.cellsOf e) g.block g.off (λi j=>(w.cell? ⟨g.block,g.off+i*P.cellsOf e+j,none⟩).getD default) (by omega) ?_ ?_ ?_ ?_ ?_
        . rw[I];unfold reachBytes at M;unfold dd;omega
        . intro r N;obtain⟨x,A,rfl⟩:=hM.1 N;obtain⟨i,_,hi⟩:=ah x A;rw[aD.rC];exact(Z (by omega)).1.symm
        . intro K;have aq:len≠0:=by intro h0;apply K;rw[<-List.length_eq_zero_iff];omega
          have:=Y aq;rw[show g=⟨g.block,g.off,g.spot⟩from rfl,this]
        . intro i j hi V;rw[I]at hi;obtain⟨L,y,h1,z,C⟩:=cp i hi;have u:=z j V;rw[eu (by omega)]at u;have X:=Y (by omega);have az:(g.add (i*P.cellsOf e)).add j=⟨g.block,g.off+i*P.cellsOf e+j,none⟩:=zN X;rw[az]at u;exact⟨(zK u).2,by rw[u];rfl⟩
        . intro i j r aE N ae;rw[nY,bb]at N;obtain⟨x,A,rfl⟩:=N;obtain⟨y,h1,z,C⟩:=ai i x A;have hi:i<len:=by have:=(dO.1 A).1;omega
          rw[aD.tY,nY,bb]at ae;obtain⟨c,E,rfl⟩:=ae;obtain⟨v,af,au⟩:=C.rt.get E;have V:j<P.cellsOf e:=by have:=(dO.1 af).1;omega
          have u:=z j V;have X:=Y (by omega);have az:(g.add (i*P.cellsOf e)).add j=⟨g.block,g.off+i*P.cellsOf e+j,none⟩:=zN X;rw[az,af]at u;rw[u];exact au
  . rename_i fs o;obtain⟨xs,ak,J,rfl,ad,M,G⟩:=DataW.trod_struct o h;cases J
    have:=Ki (U:=U) (w:=w) (P:=P) (cs:=cs) (fs:=fs.toList) (off:=0) (λf ap a F=>by
     obtain⟨i,hi⟩:=List.mem_iff_getElem?.1 ap;have T:fs[i]?=some f:=by simpa using hi
     have aj:=G i f T;have ab:i<xs.length:=by rw[M];exact(vv.1 T).1
     rw[eu ab]at aj
     exact ih n f.type _ _ a aj F (λk W=>O k (by
      simp only[DataW.weights,o]
      exact DataW.weights_mem_each (j:=i) (t:=f.type) (d:=xs[i].1) (by simp[T]) (by simp[ab]) k W))) p ad
    simpa using this
  . rename_i k e o;split at p
    . cases p
    . rename_i a F;split at p
      . cases p
      . rename_i R;cases p;simp only[cH]at R;have h1:=cR R.1;have z:=cR R.2;obtain⟨xs,ak,J,rfl,ad,M,G⟩:=DataW.trod_array o h;cases J
        have:=Ml (U:=U) (w:=w) (a:=a) (cs:=cs) k 0 (λi hi=>by
         have aj:=G i hi;rw[eu (by omega)]at aj
         obtain⟨l,ad⟩:=ih n e _ _ a aj F (λq ar=>O q (by
          simp only[DataW.weights,o]
          exact Fc (hM.2 ⟨xs[i],AL _,rfl⟩) q ar))
         rw[z]at ad
         exact⟨l,by rw[fp];exact ad⟩) (by rw[ad,h1,fp])
        simpa using this
  . cases p
end
end
section
open Go Go.ChangeShapes Go.WideShapes Go.RowKit
variable [da]
variable {U:cK}
def isAgg(P:Program)(t:TypeId):Bool:=
 match P.underlying t with
 |some (.struct _)=>true
 |some (.array _ _)=>true
 |_=>false
def mH(P:Program)(U:cK)(st:TypeId->Option Nat):List TypeId->List dw->List aD->Bool
 |[],[],[]=>true
 |t::ts,.row m::a,.nm b::du=>(Nat.beq m b&&(isAgg P t&&yM P U st t (U.du m)))&&mH P U st ts a du
 |t::ts,.c (.hole ty)::a,d::du=>(aD.beq ty d&&(!ty.uc&&(!isAgg P t&&yM P U st t [ty])))&&mH P U st ts a du
 |_,_,_=>false
section
variable {H:Type}{enc:TypeId×Value->H}{P:Program}{w:World}{φ:db}
theorem Rx{st:TypeId->Option Nat}:∀{d:List TypeId} {b:List dw} {du:List aD},mH P U st d b du=true->d.length=du.length
 |[],[],[],_=>rfl
 |[],[],_::_,h=>by cases h
 |[],_::_,_,h=>by cases h
 |_::_,[],_,h=>by cases h
 |_::_,a::_,[],h=>by
  cases a with
  |c x=>cases x<;>cases h
  |_=>cases h
 |t::ts,a::b,ty::du,h=>by
  have:mH P U st ts b du=true:=by
   cases a with
   |row m=>cases ty with
    |nm e=>grind[mH]
    |_=>cases h
   |c x=>cases x with
    |hole ty=>grind[mH]
    |_=>cases h
   |_=>cases h
  simp[Rx this]
theorem YT{b0:Nat}{r:Reach}{t:TypeId}{v:Value}(hs:isAgg P t=true)(h:Value.okWide P w r b0 t v):∃cs,v= .agg cs:=by
 grind[isAgg,Value.okWide]
theorem YU{b0:Nat}{r:Reach}{t:TypeId}{v:Value}(hs:isAgg P t=false)(h:Value.okWide P w r b0 t v):v.cells=#[v]:=by
 unfold isAgg at hs;unfold Value.okWide at h;have a:Cell.okWide P w r b0 t v:=by grind
 cases v with
 |agg cs=>
  simp_all[Cell.okWide,Cell.ok]
 |_=>rfl
theorem Jn{w:World}{S:dj}:∀{l:List (Cell U.D)} {vs:List Value},aQ (λc v=>b5 w S (Cell.enc U c) v) l vs->aQ (aX φ w S) ((l.map bc.t).map bc.om) vs
 |[],[],.nil=>.nil
 |c::l,v::vs,.cons h1 a=>.cons h1 (Jn a)
theorem Kk(i:U.Total)(φ:db){st:TypeId->Option Nat}(B:rq P U st){b0:Nat}:∀(ts:List TypeId) (f:List dw) (du:List aD) (args:List Value) (g:List (DataW H)) (ps:List MemPlace),
 mH P U st ts f du=true->(∀(j:Nat) t v,ts[j]?=some t->args[j]?=some v->Value.okWide P w .any b0 t v)->
 DataW.TrodAll enc P w 0 (λ_=>true) true ts args g ps->(∀k,k∈DataW.weightsEach P ts g->k<=reachBytes)->
 ∃(l:ep U) (xs:List (bF U)),l.map Cell.ty=du/\(∀c,c∈l->∀d,d∈c.ty.row U c.val->WF U d)/\kg f l=(xs,[])/\(∀x,x∈xs->gu x=true)/\aQ (cd φ w (Old w)) (xs.map fb) args
 |[],[],[],args,g,ps,_,_,ht,_=>by
  obtain⟨rfl,rfl,rfl⟩:=trodAll_nil ht;exact⟨[],[],rfl,by simp,rfl,by simp,.nil⟩
 |t::ts,M::f,ty::du,args,g,ps,a,E,ht,G=>by
  obtain⟨v,vs,d,N,p,q,rfl,rfl,rfl,⟨C,h1⟩,O⟩:=trodAll_cons ht;have F:=E 0 t v rfl rfl;have I:∀k,k∈d.weights P t->k<=reachBytes:=λk R=>G k (by simp_all[DataW.weightsEach,fX])
  have rest:=λX=>Kk i φ (st:=st) B (b0:=b0) ts f du vs N q X (λj t v af ag=>E (j+1) t v (by grind) (by grind)) O
   (λk R=>G k (by simp_all[DataW.weightsEach,fX]))
  unfold mH at a;split at a
  . grind
  . rename_i t0 aa m Z ah ad az o cz;cases az;cases o;cases cz;simp only[cH]at a;obtain⟨⟨z,hs,s⟩,A⟩:=a;have W:=cR z;obtain⟨l,xs,S,T,D,V,u⟩:=rest A;obtain⟨cs,rfl⟩:=YT hs F;obtain⟨L,b⟩:=Kj i B C 60 t _ _ _ h1 (FU s) I;obtain⟨x,J⟩:=PZ i (t:= .nm m) b.ty
    refine⟨⟨.nm m,x⟩::l,.agg ((aD.row U (.nm m) x).map .t)::xs,by grind,?_,?_,?_,?_⟩
    . intro c e;rcases fF.1 e with rfl|e
      . intro d r;exact b.wf d (J▸r)
      grind
    . grind[kg,lQ]
    . simp_all[fF,gu,bc.ra]
    . refine .cons ?_ u;have:=Jn (φ:=φ) b.rt;rw[<-J]at this;exact cd.agg (vs:=cs.toList) this
  . rename_i t0 aa ab Z ai ad az o cz;cases az;cases o;cases cz;simp only[cH,s3]at a;obtain⟨⟨z,aA,hs,s⟩,A⟩:=a;have W:=aD.beq_eq z;obtain⟨l,xs,S,T,D,V,u⟩:=rest A;rw[YU hs F]at h1;obtain⟨L,b⟩:=Kj i B C 60 t _ _ _ h1 (FU s) I
    match L,b with
    |[],b=>cases b.ty
    |[⟨n,x⟩],b=>
     have Y:n=ab:=by have:=b.ty;grind
     subst Y;refine⟨⟨n,x⟩::l,.c (.t ⟨n,x⟩)::xs,by grind,?_,?_,?_,?_⟩
     . intro c e;rcases fF.1 e with rfl|e
       . intro d r;refine b.wf d ?_;cases n<;>first|exact r|cases aA
       grind
     . simp only[kg,lQ,tZ,D]
     . intro y K;rcases fF.1 K with rfl|K
       . rfl
       grind
     . refine .cons ?_ u;cases b.rt with
       |cons Q ae=>exact .c Q
    |_::_::_,b=>have:=b.ty;simp at this
  grind
 |[],[],_::_,_,_,_,a,_,_,_=>by cases a
 |[],_::_,_,_,_,_,a,_,_,_=>by cases a
 |_::_,[],_,_,_,_,a,_,_,_=>by cases a
 |t::ts,M::f,[],_,_,_,a,_,_,_=>by
  cases M with
  |row m=>cases a
  |c x=>cases x<;>cases a
  |agg l=>cases a
  |aS l=>cases a
theorem aR.P7:∀(ts:List aD) (l:ep U),l.map Cell.ty=ts->∃h:aR U.D ts,aR.cells U.D ts h=l
 |[],[],_=>⟨(),rfl⟩
 |[t],[⟨a,x⟩],h=>by
  have:a=t:=by grind
  subst this;exact⟨x,rfl⟩
 |t::u::r,⟨a,x⟩::l,h=>by
  simp at h;obtain⟨h1,c⟩:=h;subst h1;obtain⟨y,e⟩:=aR.P7 (u::r) l (by grind);exact⟨(x,y),by show⟨a,x⟩::aR.cells _ _ y=_;grind⟩
 |[],_::_,h=>by grind
 |_::_,[],h=>by grind
 |[_],_::_::_,h=>by grind
theorem e9.Aa{D:Nat->Type}:∀{ts:List aD} {t:aD} (h:e9 D t ts),e9.dec D t ts (e9.cells D t ts h)=some h
 |[],t,x=>Cell.N0
 |u::r,t,x=>by
  unfold e9.dec e9.cells;simp[t',Cell.N0];rw[e9.Aa];rfl
theorem aR.Aa{D:Nat->Type}:∀{ts:List aD} (h:aR D ts),aR.dec D ts (aR.cells D ts h)=some h
 |[],_=>rfl
 |_::_,h=>e9.Aa h
theorem aR.adW{D:Nat->Type}:∀{ts:List aD} {l:List (Cell D)},l.map Cell.ty=ts->∃h,aR.dec D ts l=some h:=by
 have go:∀(ts:List aD) (l:List _),l.map Cell.ty=ts->∃h:aR D ts,aR.cells D ts h=l:=by
  intro ts
  induction ts with
  |nil=>intro l h;cases l with
   |nil=>exact⟨(),rfl⟩
   |cons=>grind
  |cons t r ih=>
   intro l h;cases l with
   |nil=>grind
   |cons c l=>
    obtain⟨f,x⟩:=c;simp at h;obtain⟨h1,e⟩:=h;subst h1;obtain⟨y,a⟩:=ih l e;cases r with
    |nil=>
     cases l with
     |nil=>exact⟨x,rfl⟩
     |cons=>grind
    |cons u r=>exact⟨(x,y),by show⟨f,x⟩::aR.cells D _ y=_;grind⟩
 intro ts l h;obtain⟨y,a⟩:=go ts l h;exact⟨y,a▸aR.Aa y⟩
def Ok(U:cK)(ts:List aD)(h:aR U.D ts):Prop:=∀c,c∈aR.cells U.D ts h->∀d,d∈c.ty.row U c.val->WF U d
theorem acX{N:Nat}:cq N ([]:a' U) []:=λb x h=>by cases h
theorem Lt{N:Nat}{J:a' U}:∀{xs:List (bF U)},(∀x,x∈xs->gu x=true)->aQ (b6 N J) xs (xs.map fb)
 |[],_=>.nil
 |x::xs,h=>.cons (sK (h x (by simp))).1 (Lt λy a=>h y (by grind))
theorem K3{k:Nat->Bool}:∀{xs:List (bF U)},(∀x,x∈xs->gu x=true)->V.aq.V.dI k (xs.map fb)=true
 |[],_=>rfl
 |x::xs,h=>by
  simp[V.aq.V.dI];exact⟨(sK (N:=0) (J:=[]) (h x (by simp))).2 k,K3 λy a=>h y (by grind)⟩
theorem afV {f:Nat}{gk:List dw}{ts:List aD}{F:aR U.D ts->Option (aR U.D [.bool])}(Q:U.Total)(hs:hz P ⟨f,gk,[],ts,.c (.hole .bool),[],[.bool],F⟩)
 (O:∀h:aR U.D ts,Ok U ts h->F h=some true){st:TypeId->Option Nat}(L:rq P U st){i:List TypeId}(G:mH P U st i gk ts=true)
 {b0:Nat}{args:Array Value}{m:List (DataW H)}{ps:List MemPlace}(M:∀(j:Nat) t v,i[j]?=some t->args[j]?=some v->Value.okWide P w .any b0 t v)
 (ht:DataW.TrodAll enc P w 0 (λ_=>true) true i args.toList m ps)(N:∀k,k∈DataW.weightsEach P i m->k<=reachBytes)(o:pV w (λ_=>False) λb _=>b<w.heap.size):
 Calls P f args w λe w'=>e= .returned (.bool true)/\Below w.heap.size w w':=by
 obtain⟨l,xs,A,B,S,C,E⟩:=Kk Q _ L _ gk ts _ m ps G (λj t v u T=>M j t v u (by grind)) ht N;obtain⟨h,aa⟩:=aR.P7 ts l A;have bP:=O h (λc n d s=>B c (aa▸n) d s)
 have q:=hs h _ bP (xs.map fb) [] (by
  show aQ _ (kg gk _).1 _
  grind[Lt]) (by
  exact acX)
 have:=q (λb=>(b,0)) _ w (λ_=>False) {blk:=λb x g=>(by cases g),inj:=λb R x y g=>(by simp),st:=λb j p=>p} (λb x g=>by cases g) (λb x g=>by simp) o
  (K3 C) _ E
 refine this.mono λe w' ⟨v,r,V,bH,J',N',he,⟨_,I,_⟩,K,_,_,_,a,_⟩=>?_
 cases I with
 |c n=>
  cases n with
  |t c=>
   cases K with
   |c J=>
    cases J;exact⟨he,a.os,a.tape,a.output,a.size,λk z=>a.block k z (λh=>h)⟩
theorem YV {f:Func}{s:ChangeSpec}{q yc o:Bool}{W g:World}{args:Array Value}{v:Value}{c d:List (DataW H)}{a:List MemPlace}
 (e0:DataW.Whole enc P f.params.toList s.vars false W args.toList c d a)(l:Below W.heap.size W g)
 (hres:∀(b:Nat) (e:Nat->Bool) (u:Bool),DataW.TrodAll enc P g b e u f.resultTypes.toList (v.resultList f.resultTypes.size) (s.fn H (c++d)).results [])
 (k:∀e:Nat->Bool,(∀p∈a,e p.block=true)->DataW.TrodAll enc P g 0 e true f.params.toList args.toList (s.fn H (c++d)).args a)
 (n:∀e:Nat->Bool,(∀p∈a,e p.block=true)->DataW.TrodVars enc P g e s.vars (s.fn H (c++d)).vars [])
 (w:∀(j:Nat) (t:TypeId) (r:Value),f.resultTypes[j]?=some t->(v.resultList f.resultTypes.size)[j]?=some r->Value.okWide P g .any 0 t r):
 s.post enc P f false q yc o W args v g:=by
 have aI:=e0.lt;have m:∀p∈a,(λb=>decide (b<W.heap.size)) p.block=true:=λp i=>by grind
 refine⟨c,d,a,[],a,[],e0,hres _ _ _,k _ m,n _ m,l.frame _,λ_=>?_⟩;refine⟨w,(s.fn H (c++d)).results++(s.fn H (c++d)).args,(s.fn H _).vars,a,⟨a,[],?_,n _ (λ_ _=>rfl),by simp,?_,λh=>by grind⟩,λp i _=>i⟩
 . have:=trodAll_append (k _ (λ_ _=>rfl)) (hres 0 (λ_=>true) _)
   grind
 . intro b off i;obtain⟨_,_,_,_,_,x,_⟩:=e0;rw[World.frozen?_of_block (l.block b (aI _ i))];exact x b _ i
theorem afW {f:Nat}{fn:Func}{s:ChangeSpec}{gk:List dw}{ts:List aD}{F:aR U.D ts->Option (aR U.D [.bool])}(aj:U.Total)
 (hs:hz P ⟨f,gk,[],ts,.c (.hole .bool),[],[.bool],F⟩)
 (ai:∀h:aR U.D ts,Ok U ts h->F h=some true){st:TypeId->Option Nat}(ad:rq P U st)(T:mH P U st fn.params.toList gk ts=true)
 {G:TypeId}(hres:fn.resultTypes=#[G])(htb:P.underlying G=some .bool)(y:s.vars=[])
 (Q:∀i:List (DataW H),i.length=ts.length->(s.fn H i).results=[.lit (.bool true)]/\(s.fn H i).args=i/\(s.fn H i).vars=[])
 (u:(laidOutB P&&mapsRowed P)=true)(V:fn.params.toList.all (λt=>decide (t<P.types.size))=true)
 (ab:((List.range P.types.size).all λt=>match P.underlying t with|some (.slice e)=>decide (0<P.cellsOf e)|_=>true)=true)
 {W:World}{base:Nat}{args:Array Value}{i z:List (DataW H)}{J:List MemPlace}{L yc I:Bool}
 (af:∀(j:Nat) t v,fn.params[j]?=some t->args[j]?=some v->Value.okWide P W .any base t v)
 (e0:DataW.Whole enc P fn.params.toList s.vars false W args.toList i z J)
 (R:(DataW.weightsEach P (fn.params.toList++s.plain.varTypes P) (i++z)).all (· <=reachBytes)=true)(O:pV W (λ_=>False) (λb _=>b<W.heap.size):=by exact⟨λx l=>by cases l,λg=>⟨_,_,λ_=>undef,rfl,λj t ht=>by cases ht⟩⟩):
 Calls P f args W λe o=>∃v,e= .returned v/\s.post enc P fn false L yc I W args v o:=by
 have B:=e0;obtain⟨p,q,A,gV,rfl,am,bR⟩:=e0;rw[y]at gV;obtain⟨rfl,rfl⟩:=trodVars_none gV;have ah:s.plain.varTypes P=[]:=by show s.vars.filterMap _=[]<;>simp[y]
 rw[ah,pI,pI,dW]at R;have S:i.length=ts.length:=by
  have h1:∀{m:List TypeId} {vs:List Value} {i:List (DataW H)} {ps:List MemPlace},DataW.TrodAll enc P W 0 (λ_=>true) true m vs i ps->i.length=m.length:=by
   intro m
   induction m with
   |nil=>grind[trodAll_nil]
   |cons t r ih=>grind[trodAll_cons]
  grind[Rx]
 obtain⟨X,Y,Z⟩:=Q i S;simp only[cH]at u;have K:=kids_rows u.1 u.2;have ae:=slices_full_of P ab;refine(afV aj hs ai ad T (λj t v an ag=>af j t v (by grind) ag) A (λk ao=>by grind) O).mono λe o ⟨he,C⟩=>?_
 subst he;refine⟨_,rfl,YV B C ?_ ?_ ?_ ?_⟩
 . intro b n al;rw[pI,X,hres];exact trodAll_cons_mk (shut_bool htb _) trodAll_mk0
 . intro n E;rw[pI,Y];have aI:=B.lt;have cP:=λt ht=>by simpa using dW.1 V t ht
   have go:∀ {m:List TypeId} {vs:List Value} {i:List (DataW H)} {ps:List MemPlace},(∀ t,t∈m->t<P.types.size)->(∀ p∈ps,p.block<W.heap.size/\n p.block = true)->
    DataW.TrodAll enc P W 0 (λ_=>true) true m vs i ps->DataW.TrodAll enc P o 0 n true m vs i ps:=by
    intro m
    induction m with
    |nil=>intro vs i ps _ _ h;obtain⟨rfl,rfl,rfl⟩:=trodAll_nil h;exact trodAll_mk0
    |cons t r ih=>
     intro vs i ps cP w h;obtain⟨v,ap,d,ak,a,b,rfl,rfl,rfl,⟨M,h1⟩,N⟩:=trodAll_cons h;refine⟨a,b,⟨M,DataW.trod_stays K (λ{t e}=>ae t e) (by intro aa;cases aa) (cP t (by simp)) h1 (λx l=>C.same (w x (by simp[l])).1) (λx l=>(w x (by simp[l])).2)⟩,ih (λt ht=>cP t (by simp[ht])) (λx l=>w x (by simp[l])) N,rfl⟩
   rw[pI];exact go cP (λx l=>⟨aI x (by simp[l]),E x (by simp[l])⟩) A
 . intro n E;rw[pI,Z,y];rfl
 . exact ok_one hres rfl (okWide_bool_mk htb _)
end
end
section
open Go
variable [da]
theorem hG{a b:Int}(h1: -9223372036854775808<=a+b)(c:a+b<=9223372036854775807):aM .i64 a b=a+b:=by grind[aM,IntKind.wrap_i64]
theorem fC{a b:Int}(h1: -9223372036854775808<=a-b)(c:a-b<=9223372036854775807):c' .i64 a b=a-b:=by grind[c',IntKind.wrap_i64]
theorem pQ{a:Int}(h1: -9223372036854775808<=a)(b:a<=9223372036854775807):bW .i64 a=a:=by grind[bW,IntKind.wrap_i64]
theorem aN{k n:Nat}(h:k<n):aB (k:Int) n=true:=by grind[aB]
theorem acw{t a:Bool}:(if t=true then some a else some false)=some (t&&a):=by grind
theorem aW(k:Nat):(k:Int).toNat=k:=nZ k
end
section
open Go
variable [da]
theorem kA{a:Int}(h0:0<=a)(h1:a<18446744073709551616):IntKind.u64.wrap a=a:=by grind[IntKind.wrap_u64]
theorem h9{a:Nat}(h1:a<18446744073709551616):bW .u64 (a:Int)=a:=kA (by simp) (by omega)
theorem FG:(2:Nat)^64=18446744073709551616:=by rfl
theorem Lu{a b:Nat}(c:a<18446744073709551616)(d:b<18446744073709551616):q' .u64 (a:Int) (b:Int)=((a ||| b:Nat):Int):=by
 have e:a ||| b<2^64:=Nat.or_lt_two_pow (by grind) (by grind);show IntKind.u64.wrap (BitVec.ofInt 64 _ ||| BitVec.ofInt 64 _).toNat=_
 grind[kA]
theorem Mm{n c i:Nat}(h:n<2^i):n ||| (c*2^i)=n+c*2^i:=by rw[Nat.or_comm,yi,<-Nat.two_pow_add_eq_or_of_lt h,Nat.add_comm]
theorem abN{b:Nat}(a:b<256):zX .u8 (b:Int) 127=((b%128:Nat):Int):=by
 have e:(BitVec.ofInt 8 b &&& BitVec.ofInt 8 (127:Nat)).toNat=b%128:=by
  rw[vx,vx,BitVec.toNat_and,yd,n0 (by omega)];exact Nat.and_two_pow_sub_one_eq_mod b 7
 show IntKind.u8.wrap (BitVec.ofInt 8 _ &&& BitVec.ofInt 8 (127:Nat)).toNat=_
 grind[IntKind.wrap_u8]
theorem K4{a k:Nat}(b:k<=64)(h:a*2^k<18446744073709551616):mL .u64 (a:Int) (k:Int)=((a*2^k:Nat):Int):=by
 grind[mL,IntKind.bits,kA]
theorem EE{a:Nat}(h:a<18446744073709551616):fY .u64 (a:Int) 2=((a/2:Nat):Int):=by
 grind[fY,kA]
theorem EH{a b:Nat}:cg (a:Int) (b:Int)=((a%b:Nat):Int):=by rfl
theorem Eh{a b:Nat}(h:a*b<18446744073709551616):iq .u64 (a:Int) (b:Int)=((a*b:Nat):Int):=by
 grind[iq,kA]
theorem Mn{a b:Int}(h1: -9223372036854775808<=a*b)(c:a*b<=9223372036854775807):iq .i64 a b=a*b:=by grind[iq,IntKind.wrap_i64]
theorem zW{a b:Nat}(h:a+b<18446744073709551616):aM .u64 (a:Int) (b:Int)=((a+b:Nat):Int):=by
 grind[aM,kA]
theorem uS{a b:Nat}(h:a+b<=9223372036854775807):aM .i64 (a:Int) (b:Int)=((a+b:Nat):Int):=by grind[hG]
theorem bB{a:Nat}(h:a<9223372036854775807):aM .i64 (a:Int) 1=((a+1:Nat):Int):=by grind[hG]
theorem yH(s:List UInt8)(i:Nat):hY s (i:Int)=((s.getD i 0).toNat:Int):=by rfl
theorem Hg(s:List UInt8)(i:Nat):(s.getD i 0).toNat<256:=UInt8.toNat_lt _
theorem oX{α:Type}(l:List α)(k:Nat):eI l (k:Int) (l.length:Int)=l.drop k:=by simp[eI]
theorem qV{α:Type}(l:List α)(k:Nat):eI l 0 (k:Int)=l.take k:=by rfl
theorem jM{a b n:Nat}(h1:a<=b)(c:b<=n):ed (a:Int) (b:Int) n=true:=by grind[ed]
theorem Gx(a b:Nat):dD (a:Int) (b:Int)=((min a b:Nat):Int):=by grind[dD]
theorem dY{k n:Nat}(a:k<=1000)(h:n<=100000):room k n=true:=by
 unfold room gr dd;simp;have:(2*n+192)*k<=200192*1000:=AQ (by omega) a;omega
end
section
open Go Go.Proofs Go.Proofs.YtfcnkdegapjgnaaGreatDoor Go.Sort Go.RowKit
variable [da]
variable {P:Program}{α:Type}[Inhabited α]
theorem V0(w:World)(blk:Nat)(f:Array Value->Array Value){b:Nat}(h:b≠blk):(mapBlock w blk f).heap[b]?=w.heap[b]?:=by simp[mapBlock,Eo,cW h]
theorem VE(w:World)(blk:Nat)(f:Array Value->Array Value){c:Array Value}{E:TypeId}{a:Nat×Nat}(h:w.heap[blk]?=some (.cells c E a)):(mapBlock w blk f).heap[blk]?=some (.cells (f c) E a):=by
 simp[mapBlock,Eo,h,onCells]
theorem abO {f g k kk:Nat}(enc:α->List Value)(m:α->List T)(F:Array α->Array α)(aR:∀x,(enc x).length=k)(L:∀x,(m x).length=k)(I:0<k)
 (aO:∀(w:World) (S:dj) (x:α) (j:Nat) (t:T) (v:Value),(m x)[j]?=some t->b5 w S t v->(enc x)[j]?=some v)
 (bP:∀d:Array α,(F d).size=d.size/\∀x,x∈(F d).toList->x∈d.toList)
 (ap:∀(blk off cap:Nat) (d:Array α) (w:World),HoldsK enc k w blk off d->blk<w.heap.size->d.size<4611686018427387904->
  Calls P f #[.slice (some ⟨blk,off,none⟩) d.size cap,.func (.func g) #[] #[]] w λe w'=>e= .returned (.tuple #[])/\∃n os,w'=sortWorldK enc k w blk off n (F d) os)
 (aK:∀(p:Option Addr) (cap:Nat) (aj:Value) (w:World),Calls P f #[.slice p 0 cap,aj] w λe w'=>e= .returned (.tuple #[])/\w'=w)
 {J:aF}{d:List α}(h0:aJ J 0=some (.arr k (d.map m)))(aA:0<kk):
 dG P f [.c (.arr 0 k 0 d.length),.c (.fn g [])] J kk (λr J' N'=>r= .aS []/\J'=cn J 0 (.arr k ((F d.toArray).toList.map m))/\N'=kk):=by
 intro φ S w B q aV aL aN aP vs H;cases H with|cons u H=>
 cases H with|cons N H=>
 cases H;cases u with|c u=>
 cases N with|c N=>
 obtain⟨a,rfl,al,aT⟩:=u;have aM:_=Value.func (.func g) #[] #[]:=N;subst aM;obtain⟨ad,ab,aU,_,an⟩:=q.blk 0 _ h0;rw[kn]at ad ab;obtain⟨ah,aE⟩:=bP d.toArray
 have X:∀ w':World,Ext B S S w w'->pW φ w' S (cn J 0 (.arr k ((F d.toArray).toList.map m)))->∃ v r A bH J' N',Ending.returned (Value.tuple #[]) = Ending.returned v/\(r = V.aS []/\J' = cn J 0 (.arr k ((F d.toArray).toList.map m))/\N' = kk)/\cd A w' bH r v/\r.aq (lt N') = true/\pW A w' bH J'/\(∀ (b:Nat) x,aJ J' b = some x->b<N'/\x.aq (lt N') = true)/\Ext B S bH w w'/\
  (∀(b:Nat) x,aJ J' b=some x->(A b).2≠0->B (A b).1\/w.heap.size<=(A b).1)/\∀b,b<kk->A b=φ b:=by
  intro w' cp ay;refine⟨_,.aS [],φ,S,_,kk,rfl,⟨rfl,rfl,rfl⟩,.aS [] [] rfl (by simp),rfl,ay,λb x l=>?_,cp,λb x l o=>?_,λ_ _=>rfl⟩
  . rw[cE]at l;split at l
    . rename_i o;cases l;subst o;exact⟨aA,rfl⟩
    grind
  grind[cE]
 by_cases K:(φ 0).2=0
 ·
  have aq:d=[]:=k9 (by omega);subst aq;refine(aK a _ _ w).mono ?_
  rintro e w' ⟨rfl,rfl⟩
  have he:(F ([]:List α).toArray).toList.map m=([]:List α).map m:=by grind
  refine X _ Ext.refl ?_;rw[he];refine⟨λb x l=>?_,λb D x y l R=>?_,q.st⟩
  . rw[cE]at l;split at l
    . rename_i o;cases l;subst o;exact q.blk _ _ h0
    . exact q.blk b x l
  . have key:∀b x,aJ (cn J 0 (.arr k (([]:List α).map m))) b=some x->∃z,aJ J b=some z:=by
     intro b x l;rw[cE]at l
     grind
    obtain⟨z,O⟩:=key b x l;obtain⟨W,U⟩:=key D y R;exact q.inj b D z W O U
 . obtain⟨vs,E,aa,ai,ao,ae⟩:=an K;rw[al K]
   have ag:∀(i j:Nat) (t:T) (x:α),d[i]?=some x->(m x)[j]?=some t->∃v,vs[i*k+j]?=some v/\b5 w S t v/\(enc x)[j]?=some v:=by
    intro i j t x hi s;obtain⟨v,u,af⟩:=ao i j (m x) t (by rw[nY,hi];rfl) s
    grind
   have Y:(φ 0).1<w.heap.size:=by grind
   have ak:HoldsK enc k w (φ 0).1 (0*k) d.toArray:=by
    intro j s;rw[size_flatK]at s;have aw:j<d.length*k:=by simpa using s
    have hi:j/k<d.length:=(Nat.div_lt_iff_lt_mul I).2 aw;have G:j%k<k:=Nat.mod_lt _ I;have l:d[j/k]?=some d[j/k]:=eu hi;have aD:j%k<(m d[j/k]).length:=by rw[L];exact G
    obtain⟨v,u,_,he⟩:=ag (j/k) (j%k) _ _ l (eu aD);have ax:j/k*k+j%k=j:=by rw[yi];exact Nat.div_add_mod j k
    rw[ax]at u;refine⟨?_,by simp[World.frozen?,aa]⟩;rw[vq,fp,hV aa,u,get_flatK _ _ _ _ s]
    grind
   have aB:d.toArray.size<4611686018427387904:=by
    have:dd=281474976710656:=rfl;simp;omega
   refine(ap (φ 0).1 (0*k) _ d.toArray w ak Y aB).mono ?_
   rintro e w' ⟨rfl,n,os,rfl⟩
   have M:∀b:Nat,b<w.heap.size->b≠(φ 0).1->(sortWorldK enc k w (φ 0).1 (0*k) n (F d.toArray) os).heap[b]?=w.heap[b]?:=by
    intro b o aG;unfold sortWorldK putRowK putRow;rw[heap_grow_old _ _ (by simpa[mapBlock,Go.Sort.ahead]using o),V0 _ _ _ aG];rfl
   have aH:(sortWorldK enc k w (φ 0).1 (0*k) n (F d.toArray) os).heap[(φ 0).1]?=some (.cells (putCells id (0*k) (flatK enc k (F d.toArray)) vs.toArray).toList.toArray E (0,0)):=by
    unfold sortWorldK putRowK putRow;rw[heap_grow_old _ _ (by simpa[mapBlock,Go.Sort.ahead]using Y),VE (Go.Sort.ahead w n) _ _ (by exact aa)]
   have G:fw w S _ S:=⟨λ_ _ h=>h,λb j h=>nU (M b (q.st b j h) (λe=>ae j (e▸h))) j⟩
   refine X _ ⟨rfl,rfl,rfl,?_,λb o cA=>M b o (λe=>cA (e▸aL 0 _ h0 K)),G,λ_ _ h=>.inl h⟩ ⟨λb x l=>?_,λb D x y l R=>?_,λb j h=>?_⟩
   . unfold sortWorldK putRowK putRow;simp[grow,mapBlock,Go.Sort.ahead]
   . rw[cE]at l;split at l
     . rename_i o;cases l;subst o;refine⟨by simpa[ah]using ad,by simpa[ah]using ab,λe he=>?_,I,λ_=>⟨_,E,aH,by simpa[putCells]using ai,λi j e t hi s=>?_,ae⟩⟩
       . obtain⟨x,_,rfl⟩:=hM.1 he;exact L x
       . rw[nY]at hi;cases Q:(F d.toArray).toList[i]? with
         |none=>rw[Q]at hi;cases hi
         |some x=>
          rw[Q]at hi;have:e=m x:=(lW hi).symm;subst this;have l:x∈d:=by simpa using aE x (eU Q)
          obtain⟨i0,au,ar⟩:=jd l;obtain⟨v,u,af,he⟩:=ag i0 j t x (by rw[eu au,ar]) s;refine⟨v,?_,b5.mono G af⟩;have aQ:j<k:=by rw[<-L x];exact(dO.1 s).1
          have av:i<(F d.toArray).size:=by grind
          have aI:i*k+j<(F d.toArray).size*k:=by
           have:=et k (show i+1<=(F d.toArray).size from av)
           grind
          have aC:i*k+j<vs.length:=by
           rw[ai];refine k' aI (et k ?_)
           grind
          have d1:(i*k+j)/k=i:=(blk_iff k i _ I).1 ⟨by omega,by omega⟩;have d2:(i*k+j)%k=j:=by rw[Nat.mod_eq_sub_div_mul,d1];omega
          have az:(F d.toArray)[i]! =x:=by grind
          have:(putCells id (0*k) (flatK enc k (F d.toArray)) vs.toArray).toList[i*k+j]?=some ((flatK enc k (F d.toArray))[i*k+j]!):=by
           rw[yn];simp only[putCells,Array.getElem?_mapIdx];rw[show vs.toArray[i*k+j]?=some vs[i*k+j] by simp[aC]];simp[size_flatK,aI]
          rw[this,get_flatK _ _ _ _ aI,d1,d2,az,List.getElem!_eq_getElem?_getD,he];rfl
     . rename_i o;have am:b≠0:=λe=>o (by simp[e])
       refine cD.mono (n:=λ_=>true) G (λ_ _=>rfl) rfl (by cases x<;>simp[bp.aq,C.ji]) (λZ=>M _ ((q.blk b x l).h7 Z) (q.inj b 0 x _ l h0 am Z K)) (q.blk b x l)
   . have key:∀b x,aJ (cn J 0 (.arr k ((F d.toArray).toList.map m))) b=some x->∃z,aJ J b=some z:=by
      intro b x l;rw[cE]at l
      grind
     obtain⟨z,O⟩:=key b x l;obtain⟨W,U⟩:=key D y R;exact q.inj b D z W O U
   . have:=q.st b j h;unfold sortWorldK putRowK putRow;simp[grow,mapBlock,Go.Sort.ahead];omega
def kt(lt:α->α->Bool)(l:List α):List α:=(pdq lt l.toArray 0 l.length (Lib.bitLen l.length) true true).toList
theorem FI{lt:α->α->Bool}(a:SWO lt)(l:List α):(kt lt l).Perm l:=by
 obtain⟨⟨hs,_,b⟩,_⟩:=pdq_sorts lt a l.toArray 0 l.length (Lib.bitLen l.length) true true (lb _) (by simp) (Or.inl rfl)
 grind[Array.extract_size,kt]
theorem Yh{lt:α->α->Bool}(a:SWO lt)(l:List α):(kt lt l).length=l.length:=(FI a l).length_eq
theorem Yi{lt:α->α->Bool}(a:SWO lt)(l:List α):(kt lt l).Pairwise λx y=>lt y x=false:=by
 obtain⟨⟨hs,_,_⟩,ay⟩:=pdq_sorts lt a l.toArray 0 l.length (Lib.bitLen l.length) true true (lb _) (by simp) (Or.inl rfl);have d:=Yh a l;rw[Em];intro i j hi c b;have:=ay i j (lb _) b (by grind)
 grind[kt]
def EY(U:cK)(f n g:Nat)(F:List (U.D n)->List (U.D n)):cx U:=
 ⟨f,[.c (.arr 0),.c (.fn g [])],[.arr (.nm n)],[.slice (.nm n)],.aS [],[.arr (.nm n)],[.slice (.nm n)],λ(l:List (U.D n))=>some (F l)⟩
theorem abP {U:cK}{f n g:Nat}[Inhabited (U.D n)](enc:U.D n->List Value)(lt:U.D n->U.D n->Bool)(E:SWO lt)(K:∀x,(enc x).length=(aD.nm n).sz U)
 (F:∀(w:World) (S:dj) (x:U.D n) (j:Nat) (t:T) (v:Value),((aD.nm n).enc U x)[j]?=some t->b5 w S t v->(enc x)[j]?=some v)
 (I:∀(blk off cap:Nat) (d:Array (U.D n)) (w:World),HoldsK enc ((aD.nm n).sz U) w blk off d->blk<w.heap.size->d.size<4611686018427387904->
  Calls P f #[.slice (some ⟨blk,off,none⟩) d.size cap,.func (.func g) #[] #[]] w λe w'=>e= .returned (.tuple #[])/\∃N os,w'=sortWorldK enc ((aD.nm n).sz U) w blk off N (pdq lt d 0 d.size (Lib.bitLen d.size) true true) os)
 (L:∀(p:Option Addr) (cap:Nat) (z:Value) (w:World),Calls P f #[.slice p 0 cap,z] w λe w'=>e= .returned (.tuple #[])/\w'=w):
 hz P (EY U f n g (kt lt)):=by
 intro l r bP Q J1 a ay;have M:=(lW bP).symm;subst M;cases a with|cons a c=>
 cases c with|cons c G=>
 cases G;obtain⟨sz,m,rfl,_,J⟩:=b6.fH a;have:=b6.D2 c;subst this;have u:Shv.aU ((EY U f n g _).hc l) 0=some _:=rfl;have o:=J _ u _ rfl;obtain⟨_,V,A,b0⟩:=ay 0 _ u;cases b0;have az:=(cC Prod.fst o).symm;have y:=(cC Prod.snd o).symm;subst az;subst y
 have s:∀d:Array _,(kt lt d.toList).Perm d.toList:=λd=>FI E d.toList
 refine(abO enc _ (λd=>(kt lt d.toList).toArray) K (λx=>aD.rC) aD.vK F
  (λd=>⟨by simpa using(s d).length_eq,λx i=>(s d).mem_iff.1 (by grind)⟩) (λblk off cap d w h1 B C=>?_) L A Nat.one_pos).mono ?_
 . have:=I blk off cap d w h1 B C
   simpa[kt]using this
 . rintro R s1 O ⟨rfl,rfl,rfl⟩
   refine⟨rfl,.aS [] [] rfl (by simp),λb x i=>?_⟩;generalize kt lt l=q at i⊢;have k:(if b=0 then some (ct.arr (.nm n) q)else none)=some x:=by
    rw[<-i];cases b<;>rfl
   split at k
   . rename_i H;cases k;subst H;refine⟨Nat.one_pos,_,?_,.arr (.nm n) q⟩;rw[cE];rfl
   . cases k
theorem YW(w:World)(S:dj)(i:Int)(s:List UInt8)(j:Nat)(t:T)(v:Value)(h:[T.int .i64 i,T.str s][j]?=some t)(a:b5 w S t v):[Value.int .i64 i,Value.string ⟨s.toArray⟩][j]?=some v:=by
 match j,h with
 |0,h=>cases h;cases a;rfl
 |1,h=>cases h;cases a;rfl
theorem acx(key:α->Int):SWO (λx y=>decide (key x<key y)) where
 irrefl x:=by simp
 trans x y z h1 a:=by grind
 ntrans x y z h1 a:=by grind
end
section
open Go Go.Proofs Go.Proofs.YtfcnkdegapjgnaaGreatDoor Go.Sort
variable [da]
def kC{α:Type}(a b:Option α):Prop:=∀r,a=some r->b=some r
theorem kC.r{α:Type}{a:Option α}:kC a a:=λ_ h=>h
theorem kC.n{α:Type}{a:Option α}:kC none a:=λ_ h=>by grind
theorem kC.b{α g:Type}{a b:Option α}{k c:α->Option g}(h:kC a b)(e:∀x,kC (k x) (c x)):kC (a>>=k) (b>>=c):=by
 intro r f;cases a with
 |none=>grind
 |some x=>rw[h x rfl];exact e x r f
theorem kC.i{α:Type}{p:Prop}[Decidable p]{a b c d:Option α}(h:kC a c)(k:kC b d):kC (if p then a else b) (if p then c else d):=by grind
variable {α:Type}[Inhabited α]
def rG(lt:α->α->Bool)(x:α):List α->List α
 |[]=>[x]
 |y::r=>if lt x y then x::y::r else y::rG lt x r
def nV(lt:α->α->Bool):List α->List α
 |[]=>[]
 |x::r=>rG lt x (nV lt r)
def kR(lt:α->α->Bool):List α->Bool
 |[]=>true
 |x::r=>r.all (λy=>lt x y||lt y x)&&kR lt r
theorem Hh(lt:α->α->Bool)(x:α):∀l,(rG lt x l).Perm (x::l)
 |[]=>.refl _
 |y::r=>by
  simp[rG];split
  . rfl
  . exact((Hh lt x r).cons y).trans (.swap x y r)
theorem qZ(lt:α->α->Bool):∀l,(nV lt l).Perm l
 |[]=>.refl _
 |x::r=>(Hh lt x _).trans ((qZ lt r).cons x)
theorem Sv{lt:α->α->Bool}(b:SWO lt)(x:α):∀{l:List α},l.Pairwise (λx y=>lt y x=false)->(rG lt x l).Pairwise λx y=>lt y x=false
 |[],_=>by simp[rG]
 |y::r,h=>by
  rw[jU]at h;simp[rG];split
  . rename_i d;have e:lt y x=false:=by
     cases c:lt y x with
     |false=>rfl
     |true=>have:=b.trans _ _ _ d c;rw[b.irrefl]at this;grind
    rw[jU];refine⟨λz a=>?_,jU.2 h⟩;rcases fF.1 a with rfl|a
    . grind
    . exact b.ntrans _ _ _ (h.1 z a) e
  . rw[jU];refine⟨λz a=>?_,Sv b x h.2⟩;rcases fF.1 ((Hh lt x r).mem_iff.1 a)with rfl|a
    . grind
    grind
theorem BS{lt:α->α->Bool}(a:SWO lt):∀l:List α,(nV lt l).Pairwise λx y=>lt y x=false
 |[]=>.nil
 |x::r=>Sv a x (BS a r)
theorem Jo{lt:α->α->Bool}:∀{l:List α},kR lt l=true->∀a b,a∈l->b∈l->a=b\/lt a b=true\/lt b a=true
 |x::r,h,a,b,c,e=>by
  simp[kR]at h;rcases fF.1 c with g|d<;>rcases fF.1 e with i|f
  . grind
  . grind
  . grind
  . exact Jo h.2 a b d f
theorem Sw{lt:α->α->Bool}{l:List α}(i:kR lt l=true):∀{a b:List α},a.Perm l->b.Perm l->a.Pairwise (λx y=>lt y x=false)->b.Pairwise (λx y=>lt y x=false)->a=b:=by
 intro a b d e h1 c;refine List.Perm.eq_of_pairwise (λx y j k f g=>?_) h1 c (d.trans e.symm)
 grind[Jo]
theorem acy{lt:α->α->Bool}(a:SWO lt){l:List α}(b:kR lt l=true):kt lt l=nV lt l:=
 Sw b (FI a l) (qZ lt l) (Yi a l) (BS a l)
def EX(lt:α->α->Bool)(l:List α):Option (List α):=if kR lt l=true then some (nV lt l)else none
theorem abQ{lt:α->α->Bool}(a:SWO lt)(l:List α):kC (EX lt l) (some (kt lt l)):=by
 intro r h
 grind[EX,acy]
end
section
open Go Go.Proofs Go.Proofs.YtfcnkdegapjgnaaGreatDoor Go.Shelf Go.RowKit
variable [da]
variable {U:cK}
def Ab(i:Nat):List UInt8:=if i<10 then[UInt8.ofNat (48+i)]else[UInt8.ofNat (48+i/10),UInt8.ofNat (48+i%10)]
theorem acz{i:Nat}(h:i<100):Lib.decDigits i=Ab i:=by
 unfold Ab Lib.decDigits;split
 . rfl
 . rw[Lib.decDigits,dif_pos (by omega)];rfl
end
section
open Go
variable [da]
def dE(env:Env):aL->Option V
 |.const v=>some v
 |.tmp t=>match look env t with
  |some (true,v)=>some v
  |_=>none
def tK(env:Env):List aL->Option (List V)
 |[]=>some []
 |x::xs=>match dE env x,tK env xs with
  |some v,some vs=>some (v::vs)
  |_,_=>none
def tJ(env:Env):Option aL->Option (Option Int)
 |none=>some none
 |some x=>match dE env x with
  |some (.c (.t (.int _ n)))=>some (some n)
  |_=>none
theorem df{env:Env}{x:aL}{v:V}(h:dE env x=some v):∃p,x.get env=some (p,v)/\p:=by
 cases x with
 |const v=>cases h;exact⟨True,rfl,trivial⟩
 |tmp t=>
  simp only[dE]at h;split at h
  . rename_i ad;cases h;exact⟨True,by simp[aL.get,ad],trivial⟩
  . cases h
theorem BT{env:Env}:∀{xs:List aL} {vs:List V},tK env xs=some vs->∃p,gL env xs=some (p,vs)/\p
 |[],vs,h=>by cases h;exact⟨True,rfl,trivial⟩
 |x::xs,vs,h=>by
  simp only[tK]at h;split at h
  . rename_i v e h1 b;cases h;obtain⟨p,az,c⟩:=df h1;obtain⟨q,a,d⟩:=BT b;exact⟨p/\q,by simp[gL,az,a],c,d⟩
  . cases h
theorem BU{env:Env}{x:Option aL}{v:Option Int}(h:tJ env x=some v):∃p,iM env x=some (p,v)/\p:=by
 cases x with
 |none=>cases h;exact⟨True,rfl,trivial⟩
 |some x=>
  simp only[tJ]at h;split at h
  . rename_i ad;cases h;obtain⟨p,az,a⟩:=df ad;exact⟨p,by simp[iM,az],a⟩
  . cases h
def DM:BinOp->T->T->Option T
 |.add,.int k a,.int c b=>if k=c then some (.int k (k.wrap (a+b)))else none
 |.sub,.int k a,.int c b=>if k=c then some (.int k (k.wrap (a-b)))else none
 |.mul,.int k a,.int c b=>if k=c then some (.int k (k.wrap (a*b)))else none
 |.shl,.int k a,.int _ b=>if 0<=b then some (.int k (k.wrap (a*2^min b.toNat k.bits)))else none
 |.shr,.int k a,.int _ b=>if 0<=b then some (.int k (a.fdiv (2^min b.toNat k.bits)))else none
 |.and,.int k a,.int c b=>if k=c then some (.int k (k.wrap (BitVec.ofInt k.bits a &&& BitVec.ofInt k.bits b).toNat))else none
 |.or,.int k a,.int c b=>if k=c then some (.int k (k.wrap (BitVec.ofInt k.bits a ||| BitVec.ofInt k.bits b).toNat))else none
 |.xor,.int k a,.int c b=>if k=c then some (.int k (k.wrap (BitVec.ofInt k.bits a ^^^ BitVec.ofInt k.bits b).toNat))else none
 |.eql,.int k a,.int c b=>if k=c then some (.bool (decide (a=b)))else none
 |.neq,.int k a,.int c b=>if k=c then some (.bool (!decide (a=b)))else none
 |.lss,.int k a,.int c b=>if k=c then some (.bool (decide (a<b)))else none
 |.leq,.int k a,.int c b=>if k=c then some (.bool (decide (a<=b)))else none
 |.gtr,.int k a,.int c b=>if k=c then some (.bool (decide (b<a)))else none
 |.geq,.int k a,.int c b=>if k=c then some (.bool (decide (b<=a)))else none
 |.add,.str a,.str b=>if a.length+b.length<=dK then some (.str (a++b))else none
 |.eql,.str a,.str b=>some (.bool (decide (a=b)))
 |.neq,.str a,.str b=>some (.bool (!decide (a=b)))
 |.lss,.str a,.str b=>some (.bool (Op.bytesLess a b))
 |_,_,_=>none
theorem YX{op:BinOp}{x y r:T}(h:DM op x y=some r):∃p,mX op x y=some (p,r)/\p:=by
 unfold DM at h;split at h
 all_goals first
  |(cases h;done)
  |(cases h;exact⟨True,rfl,trivial⟩)
  |(split at h<;>first|(cases h;done)|(rename_i a;cases h;first|(subst a;exact⟨True,by simp only[mX,cw],trivial⟩)|exact⟨_,rfl,a⟩))
def Dc(env:Env):aL->Option V
 |.const v=>some v
 |.tmp t=>(look env t).map (·.2)
def yN(env:Env):List C->List (Nat×Nat×aL)->Option (List C)
 |b,[]=>some b
 |b,(off,n,x):: r=>(dE env x).bind λa=>(kP a).bind λcs=>
  if cs.length=n/\off+n<=b.length then yN env (k5 b off cs) r else none
theorem Gn{env:Env}:∀{ps:List (Nat×Nat×aL)} {cs b:List C},yN env cs ps=some b->∃p,iI env cs ps=some (p,b)/\p
 |[],cs,b,h=>by cases h;exact⟨True,rfl,trivial⟩
 |(off,n,x)::r,cs,b,h=>by
  simp only[yN,a6,cZ]at h;obtain⟨a,d,es,f,e,h⟩:=h;obtain⟨p,az,g⟩:=df d;obtain⟨q,c,i⟩:=Gn h;refine⟨p/\q,?_,g,i⟩;simp only[iI,az,ak,f,ab e,c,jW]
def xS(env:Env)(sz:Nat):List (List T)->List (Nat×aL)->Option (List (List T))
 |es,[]=>some es
 |es,(i,x):: r=>(dE env x).bind λa=>(kP a).bind λcs=>(toTs cs).bind λts=>
  if ts.length=sz/\i<es.length then xS env sz (es.set i ts) r else none
theorem Fl{env:Env}{sz:Nat}:∀{ps:List (Nat×aL)} {cs b:List (List T)},xS env sz cs ps=some b->∃p,iJ env sz cs ps=some (p,b)/\p
 |[],cs,b,h=>by cases h;exact⟨True,rfl,trivial⟩
 |(i,x)::r,cs,b,h=>by
  simp only[xS,a6,cZ]at h;obtain⟨a,d,es,f,ts,k,e,h⟩:=h;obtain⟨p,az,g⟩:=df d;obtain⟨q,c,j⟩:=Fl h;refine⟨p/\q,?_,g,j⟩;simp only[iJ,az,ak,f,k,ab e,c,jW]
instance {n bytes:Nat}:Decidable (gv n bytes):=inferInstanceAs (Decidable (_\/_))
def eQ(o:b9)(env:Env)(J:aF)(n:Nat):Option (V×aF):=
 match o with
 |.mov x=>(dE env x).map λv=>(v,J)
 |.pick c x y=>match dE env c,Dc env x,Dc env y with
  |some (.c (.t (.bool b))),some (.c (.t (.bool p))),some (.c (.t (.bool q)))=>
   if(b=true->(dE env x).isSome=true)/\(b=false->(dE env y).isSome=true)then some (.c (.t (.bool (bif b then p else q))),J)else none
  |_,_,_=>none
 |.alloc cs=>some (.c (.ptr n 0),cn J n (.box cs))
 |.box x=>(dE env x).bind λa=>(kP a).map λcs=>(.c (.ptr n 0),cn J n (.box cs))
 |.build z ps=>(yN env z ps).map λcs=>(.agg cs,J)
 |.bslice sz len z ps=>(toTs z).bind λA=>(xS env sz (List.replicate len A) ps).map λes=>(.c (.arr n sz 0 len),cn J n (.arr sz es))
 |.bsliceT _ sz len z ps=>(toTs z).bind λA=>(xS env sz (List.replicate len A) ps).map λes=>(.c (.t (.slice es)),J)
 |.load agg k x=>match dE env x with
  |some (.c (.ptr b o))=>match aJ J b with
   |some (.box cs)=>(hp agg k cs o).map λv=>(v,J)
   |_=>none
  |some (.c (.cl b sz i o))=>match aJ J b with
   |some (.arr u es)=>if sz=u/\i<es.length then(loadT agg k (el es i) o).map λv=>(v,J)else none
   |some (.vec _ cs)=>(hp agg k cs (i*sz+o)).map λv=>(v,J)
   |_=>none
  |some (.c (.dx ts o))=>(loadT agg k ts o).map λv=>(v,J)
  |_=>none
 |.store k x v=>match dE env x,(dE env v).bind kP with
  |some (.c (.ptr b o)),some cs=>match aJ J b with
   |some (.box g)=>if cs.length=k/\o+k<=g.length then some (.aS [],cn J b (.box (k5 g o cs)))else none
   |_=>none
  |some (.c (.cl b sz i o)),some cs=>match aJ J b with
   |some (.arr u es)=>match vB cs with
    |some _=>none
    |none=>(toTs cs).bind λts=>if cs.length = k/\sz = u/\i<es.length/\o+k<=sz then some (.aS [],cn J b (.arr u (es.set i ((el es i).take o++ts++(el es i).drop (o+k)))))else none
   |some (.vec E g)=>if cs.length=k/\i*sz+o+k<=g.length then some (.aS [],cn J b (.vec E (k5 g (i*sz+o) cs)))else none
   |_=>none
  |_,_=>none
 |.nilCheck x=>match dE env x with
  |some (.c (.ptr b o))=>some (.c (.ptr b o),J)
  |some (.c (.cl b sz i o))=>some (.c (.cl b sz i o),J)
  |some (.c (.dx ts o))=>some (.c (.dx ts o),J)
  |_=>none
 |.bin op x y=>match dE env x,dE env y with
  |some (.c (.t p)),some (.c (.t q))=>(DM op p q).map λr=>(.c (.t r),J)
  |_,_=>none
 |.eqAgg neg ks x y=>match dE env x,dE env y with
  |some (.agg p),some (.agg q)=>(k3 ks p q).map λr=>(.c (.t (.bool (if neg then !r else r))),J)
  |_,_=>none
 |.eqBool neg x y=>match dE env x,dE env y with
  |some (.c (.t (.bool p))),some (.c (.t (.bool q)))=>some (.c (.t (.bool (if neg then !(p==q)else(p==q)))),J)
  |_,_=>none
 |.not x=>match dE env x with
  |some (.c (.t (.bool b)))=>some (.c (.t (.bool (!b))),J)
  |_=>none
 |.conv k x=>match dE env x with
  |some (.c (.t (.int _ m)))=>some (.c (.t (.int k (k.wrap m))),J)
  |_=>none
 |.fldA off x=>match dE env x with
  |some (.c (.ptr b o))=>some (.c (.ptr b (o+off)),J)
  |some (.c (.cl b sz i o))=>some (.c (.cl b sz i (o+off)),J)
  |some (.c (.dx ts o))=>some (.c (.dx ts (o+off)),J)
  |_=>none
 |.fld agg off k x=>match dE env x with
  |some (.agg cs)=>(hp agg k cs off).map λv=>(v,J)
  |_=>none
 |.idxA sz x i=>match dE env x,dE env i with
  |some (.c (.t (.slice es))),some (.c (.t (.int _ m)))=>if 0<=m/\m.toNat<es.length/\(el es m.toNat).length=sz then some (.c (.dx (el es m.toNat) 0),J)else none
  |some (.c (.arr b u off len)),some (.c (.t (.int _ m)))=>if 0<=m/\m.toNat<len/\sz=u then some (.c (.cl b sz (off+m.toNat) 0),J)else none
  |_,_=>none
 |.idxS x i=>match dE env x,dE env i with
  |some (.c (.t (.str s))),some (.c (.t (.int _ m)))=>if 0<=m/\m.toNat<s.length then some (.c (.t (.int .u8 (s.getD m.toNat 0).toNat)),J)else none
  |_,_=>none
 |.slcS x lo hi=>match dE env x,tJ env lo,tJ env hi with
  |some (.c (.t (.str s))),some l,some h=>
   if 0<=l.getD 0/\l.getD 0<=h.getD s.length/\h.getD s.length<=s.length then some (.c (.t (.str ((s.take (h.getD s.length).toNat).drop (l.getD 0).toNat))),J)else none
  |_,_,_=>none
 |.slc sz x lo hi=>match dE env x,tJ env lo,tJ env hi with
  |some (.c (.t (.slice es))),some l,some h=>
   if 0<=l.getD 0/\l.getD 0<=h.getD es.length/\h.getD es.length<=es.length/\es.all (λe=>e.length==sz)=true then some (.c (.t (.slice ((es.take (h.getD es.length).toNat).drop (l.getD 0).toNat))),J)else none
  |_,_,_=>none
 |.mkfn f caps=>match (tK env caps).bind aw.pZ with
  |some l=>some (.c (.fn f l),J)
  |none=>none
 |.ext x i=>match dE env x with
  |some (.aS vs)=>(vs[i]?).map λv=>(v,J)
  |_=>none
 |.len str x=>match str,dE env x with
  |false,some (.c (.t (.slice es)))=>some (.c (.t (.int .i64 es.length)),J)
  |false,some (.c (.arr _ _ _ l))=>some (.c (.t (.int .i64 l)),J)
  |false,some (.c .bC)=>some (.c (.t (.int .i64 0)),J)
  |true,some (.c (.t (.str s)))=>some (.c (.t (.int .i64 s.length)),J)
  |_,_=>none
 |.max2 x y=>match dE env x,dE env y with
  |some (.c (.t (.int k p))),some (.c (.t (.int w q)))=>if k=w then some (.c (.t (.int k (max p q))),J)else none
  |_,_=>none
 |.min2 x y=>match dE env x,dE env y with
  |some (.c (.t (.int k p))),some (.c (.t (.int w q)))=>if k=w then some (.c (.t (.int k (min p q))),J)else none
  |_,_=>none
 |.append te sz bytes x y=>match dE env x,(dE env y).bind (ia J)with
  |some (.c .bC),some d=>if d.1.all (λe=>e.length==sz)=true/\gv d.1.length bytes/\d.1.length<=dd then some (.c (.arr n sz 0 d.1.length),cn J n (.arr sz d.1))else none
  |some (.c (.arr b u off len)),some d=>match aJ J b with
   |some (.arr F es)=>if d.2 = none/\u = sz/\F = sz/\off = 0/\len = es.length/\d.1.all (λe=>e.length==sz) = true/\gv (es.length+d.1.length) bytes/\es.length+d.1.length<=dd then some (.c (.arr n sz 0 (len+d.1.length)),cn (eM J b) n (.arr sz (es++d.1)))else none
   |_=>none
  |_,_=>none
 |.mkset=>some (.c (.mp n),cn J n (.set []))
 |.lkset x k=>match dE env x,dE env k with
  |some (.c (.mp b)),some (.c (.t (.str s)))=>match aJ J b with
   |some (.set ks)=>some (.c (.t (.bool (iN ks s))),J)
   |_=>none
  |_,_=>none
 |.upset x k=>match dE env x,dE env k with
  |some (.c (.mp b)),some (.c (.t (.str s)))=>match aJ J b with
   |some (.set ks)=>some (.aS [],cn J b (.set (ig ks s)))
   |_=>none
  |_,_=>none
 |.lkE z x k=>match dE env x,dE env k with
  |some (.c (.mp b)),some (.c (.t (.str _)))=>match aJ J b with
   |some (.set [])=>some (.aS [.c z,.c (.t (.bool false))],J)
   |_=>none
  |_,_=>none
 |.upD x k v=>match dE env x,dE env k,dE env v with
  |some (.c (.mp b)),some (.c (.t (.str _))),some _=>match aJ J b with
   |some (.set [])=>some (.aS [],eM J b)
   |_=>none
  |_,_,_=>none
 |.bsliceC sz z ps=>(yN env z ps).map λcs=>(.c (.arr n sz 0 1),cn J n (.vec sz cs))
 |.appendC sz bytes x y=>match dE env y with
  |some (.c (.arr B C 0 j))=>match aJ J B with
   |some (.vec D g)=>match dE env x with
    |some (.c .bC)=>if C=sz/\D=sz/\0<j/\g.length=j*sz/\gv j bytes/\j<=dd then some (.c (.arr n sz 0 j),cn J n (.vec sz g))else none
    |some (.c (.arr b G 0 len))=>match aJ J b with
     |some (.vec H cs)=>if b≠B/\C = sz/\D = sz/\G = sz/\H = sz/\0<j/\g.length = j*sz/\cs.length = len*sz/\gv (len+j) bytes/\len+j<=dd then some (.c (.arr n sz 0 (len+j)),cn (eM J b) n (.vec sz (cs++g)))else none
     |_=>none
    |_=>none
   |_=>none
  |_=>none
 |_=>none
end
section
open Go
set_option linter.unusedSimpArgs false
variable [da]
variable {o:b9}{env:Env}{J J':aF}{n:Nat}{v:V}
theorem IE{x:aL}{v:V}(h:Dc env x=some v):∃p,x.get env=some (p,v)/\((dE env x).isSome=true->p):=by
 cases x with
 |const a=>cases h;exact⟨True,rfl,λ_=>trivial⟩
 |tmp t=>
  simp only[Dc,bb]at h;obtain⟨⟨g,a⟩,ad,rfl⟩:=h;refine⟨g=true,by simp[aL.get,ad],λhs=>?_⟩;simp only[dE,ad]at hs;cases g
  . cases hs
  . rfl
theorem K5{J:aF}{d a:V}{b:List (List T)×Option Nat}(h:ia J d=some b):jy a d=none:=by
 unfold jy;split
 . simp[ia]at h
 . rfl
theorem Lv{sz:Nat}{l:List (List T)}(h:l.all (λe=>e.length==sz)=true):∀e,e∈l->e.length=sz:=λz a=>by simpa using dW.1 h z a
theorem YY(h:eQ o env J n=some (v,J')):∃p,aw o env J n=some (p,v,J')/\p:=by
 cases o
 case mov x=>
  simp only[eQ,bb]at h;obtain⟨A,t,he⟩:=h;cases he;obtain⟨p,e,d⟩:=df t;exact⟨p,by simp[aw,e],d⟩
 case pick c x y=>
  simp only[eQ]at h;split at h
  . rename_i b p q h1 g u;split at h
    . rename_i s;cases h;obtain⟨U,az,P⟩:=df h1;obtain⟨V,L,Q⟩:=IE g;obtain⟨W,cz,R⟩:=IE u;exact⟨U/\(b=true->V)/\(b=false->W),by simp only[aw,az,L,cz,ak],P,λE=>Q (s.1 E),λE=>R (s.2 E)⟩
    . cases h
  . cases h
 case alloc cs=>cases h;exact⟨True,rfl,trivial⟩
 case mkset=>cases h;exact⟨True,rfl,trivial⟩
 case box x=>
  simp only[eQ,a6,bb]at h;obtain⟨a,C,cs,N,he⟩:=h;cases he;obtain⟨p,e,d⟩:=df C;exact⟨p,by simp[aw,e,N],d⟩
 case build z ps=>
  simp only[eQ,bb]at h;obtain⟨a,C,he⟩:=h;cases he;obtain⟨p,e,d⟩:=Gn C;exact⟨p,by simp[aw,e],d⟩
 case bsliceC sz z ps=>
  simp only[eQ,bb]at h;obtain⟨a,C,he⟩:=h;cases he;obtain⟨p,e,d⟩:=Gn C;exact⟨p,by simp[aw,e],d⟩
 case bslice sz len z ps=>
  simp only[eQ,a6,bb]at h;obtain⟨Y,B,es,F,he⟩:=h;cases he;obtain⟨p,e,d⟩:=Fl F;exact⟨p,by simp[aw,B,e],d⟩
 case bsliceT te sz len z ps=>
  simp only[eQ,a6,bb]at h;obtain⟨Y,B,es,F,he⟩:=h;cases he;obtain⟨p,e,d⟩:=Fl F;exact⟨p,by simp[aw,B,e],d⟩
 case ext x i=>
  simp only[eQ]at h;split at h
  . rename_i vs h1;obtain⟨p,e,d⟩:=df h1;simp only[bb]at h;obtain⟨A,t,he⟩:=h;cases he;exact⟨p,by simp[aw,e,t],d⟩
  . cases h
 case nilCheck x=>
  simp only[eQ]at h;split at h
  . rename_i h1;obtain⟨p,e,d⟩:=df h1;cases h;exact⟨p,by simp[aw,e],d⟩
  . rename_i h1;obtain⟨p,e,d⟩:=df h1;cases h;exact⟨p,by simp[aw,e],d⟩
  . rename_i h1;obtain⟨p,e,d⟩:=df h1;cases h;exact⟨p,by simp[aw,e],d⟩
  . cases h
 case fldA off x=>
  simp only[eQ]at h;split at h
  . rename_i h1;obtain⟨p,e,d⟩:=df h1;cases h;exact⟨p,by simp[aw,e],d⟩
  . rename_i h1;obtain⟨p,e,d⟩:=df h1;cases h;exact⟨p,by simp[aw,e],d⟩
  . rename_i h1;obtain⟨p,e,d⟩:=df h1;cases h;exact⟨p,by simp[aw,e],d⟩
  . cases h
 case not x=>
  simp only[eQ]at h;split at h
  . rename_i h1;obtain⟨p,e,d⟩:=df h1;cases h;exact⟨p,by simp[aw,e],d⟩
  . cases h
 case conv k x=>
  simp only[eQ]at h;split at h
  . rename_i h1;obtain⟨p,e,d⟩:=df h1;cases h;exact⟨p,by simp[aw,e],d⟩
  . cases h
 case eqBool neg x y=>
  simp only[eQ]at h;split at h
  . rename_i h1 g;obtain⟨p,e,d⟩:=df h1;obtain⟨q,j,m⟩:=df g;cases h;exact⟨p/\q,by simp[aw,e,j],d,m⟩
  . cases h
 case bin op x y=>
  simp only[eQ]at h;split at h
  . rename_i h1 g;obtain⟨p,e,d⟩:=df h1;obtain⟨q,j,m⟩:=df g;simp only[bb]at h;obtain⟨r,w,he⟩:=h;cases he;obtain⟨z,cz,B⟩:=YX w;exact⟨p/\q/\z,by simp[aw,e,j,cz],d,m,B⟩
  . cases h
 case eqAgg neg ks x y=>
  simp only[eQ]at h;split at h
  . rename_i h1 g;obtain⟨p,e,d⟩:=df h1;obtain⟨q,j,m⟩:=df g;simp only[bb]at h;obtain⟨r,w,he⟩:=h;cases he;exact⟨p/\q,by simp[aw,e,j,w],d,m⟩
  . cases h
 case fld agg off k x=>
  simp only[eQ]at h;split at h
  . rename_i h1;obtain⟨p,e,d⟩:=df h1;simp only[bb]at h;obtain⟨r,w,he⟩:=h;cases he;exact⟨p,by simp[aw,e,w],d⟩
  . cases h
 case idxS x i=>
  simp only[eQ]at h;split at h
  . rename_i h1 g;obtain⟨p,e,d⟩:=df h1;obtain⟨q,j,m⟩:=df g;simp only[cZ,cQ,c8]at h;obtain⟨s,rfl,rfl⟩:=h;exact⟨_,by simp only[aw,e,j,ak],And.intro d (And.intro m s)⟩
  . cases h
 case idxA sz x i=>
  simp only[eQ]at h;split at h
  . rename_i h1 g;obtain⟨p,e,d⟩:=df h1;obtain⟨q,j,m⟩:=df g;simp only[cZ,cQ,c8]at h;obtain⟨s,rfl,rfl⟩:=h;exact⟨_,by simp only[aw,e,j,ak],And.intro d (And.intro m s)⟩
  . rename_i h1 g;obtain⟨p,e,d⟩:=df h1;obtain⟨q,j,m⟩:=df g;simp only[cZ,cQ,c8]at h;obtain⟨s,rfl,rfl⟩:=h;exact⟨_,by simp only[aw,e,j,ak],And.intro d (And.intro m s)⟩
  . cases h
 case slcS x lo hi=>
  simp only[eQ]at h;split at h
  . rename_i h1 g u;obtain⟨p,e,d⟩:=df h1;obtain⟨q,j,m⟩:=BU g;obtain⟨r,cz,w⟩:=BU u;simp only[cZ,cQ,c8]at h;obtain⟨s,rfl,rfl⟩:=h;exact⟨_,by simp only[aw,e,j,cz,ak],And.intro d (And.intro m (And.intro w s))⟩
  . cases h
 case max2 x y=>
  simp only[eQ]at h;split at h
  . rename_i h1 g;obtain⟨p,e,d⟩:=df h1;obtain⟨q,j,m⟩:=df g;split at h
    . rename_i s;subst s;cases h;exact⟨p/\q,by simp[aw,e,j],d,m⟩
    . cases h
  . cases h
 case min2 x y=>
  simp only[eQ]at h;split at h
  . rename_i h1 g;obtain⟨p,e,d⟩:=df h1;obtain⟨q,j,m⟩:=df g;split at h
    . rename_i s;subst s;cases h;exact⟨p/\q,by simp[aw,e,j],d,m⟩
    . cases h
  . cases h
 case mkfn f caps=>
  simp only[eQ]at h;split at h
  . rename_i l ad;cases h;obtain⟨vs,h1,g⟩:=jt.1 ad;obtain⟨p,e,d⟩:=BT h1;exact⟨p,by simp[aw,e,g],d⟩
  . cases h
 case len str x=>
  simp only[eQ]at h;split at h
  all_goals first
   |(cases h;done)
   |(rename_i h1;obtain⟨p,e,d⟩:=df h1;cases h;exact⟨p,by simp[aw,e],d⟩)
 case lkset x k=>
  simp only[eQ]at h;split at h
  . rename_i h1 g;obtain⟨p,e,d⟩:=df h1;obtain⟨q,j,m⟩:=df g;split at h
    . rename_i u;cases h;exact⟨p/\q,by simp[aw,e,j,u],d,m⟩
    . cases h
  . cases h
 case upset x k=>
  simp only[eQ]at h;split at h
  . rename_i h1 g;obtain⟨p,e,d⟩:=df h1;obtain⟨q,j,m⟩:=df g;split at h
    . rename_i u;cases h;exact⟨p/\q,by simp[aw,e,j,u],d,m⟩
    . cases h
  . cases h
 case lkE z x k=>
  simp only[eQ]at h;split at h
  . rename_i h1 g;obtain⟨p,e,d⟩:=df h1;obtain⟨q,j,m⟩:=df g;split at h
    . rename_i u;cases h;exact⟨p/\q,by simp[aw,e,j,u],d,m⟩
    . cases h
  . cases h
 case upD x k v0=>
  simp only[eQ]at h;split at h
  . rename_i h1 g M;obtain⟨p,e,d⟩:=df h1;obtain⟨q,j,m⟩:=df g;obtain⟨r,e6,w⟩:=df M;split at h
    . rename_i u;cases h;exact⟨p/\q/\r,by simp[aw,e,j,e6,u],d,m,w⟩
    . cases h
  . cases h
 case load agg k x=>
  simp only[eQ]at h;split at h
  . rename_i h1;obtain⟨p,e,d⟩:=df h1;split at h
    . rename_i g;simp only[bb]at h;obtain⟨A,t,he⟩:=h;cases he;exact⟨p,by simp[aw,e,g,t],d⟩
    . cases h
  . rename_i h1;obtain⟨p,e,d⟩:=df h1;split at h
    . rename_i g;simp only[cZ,bb]at h;obtain⟨s,A,t,he⟩:=h;cases he;exact⟨_,by simp only[aw,e,g,t,ak,jW],And.intro d s⟩
    . rename_i g;simp only[bb]at h;obtain⟨A,t,he⟩:=h;cases he;exact⟨p,by simp[aw,e,g,t],d⟩
    . cases h
  . rename_i h1;obtain⟨p,e,d⟩:=df h1;simp only[bb]at h;obtain⟨A,t,he⟩:=h;cases he;exact⟨p,by simp[aw,e,t],d⟩
  . cases h
 case slc sz x lo hi=>
  simp only[eQ]at h;split at h
  . rename_i es l aa h1 g u;obtain⟨p,e,d⟩:=df h1;obtain⟨q,j,m⟩:=BU g;obtain⟨r,cz,w⟩:=BU u;simp only[cZ,cQ,c8]at h;obtain⟨⟨c1,c2,c3,c4⟩,rfl,rfl⟩:=h;have c5:∀z,z∈es->z.length=sz:=λz B=>by simpa using dW.1 c4 z B
    exact⟨_,by simp only[aw,e,j,cz,ak],And.intro d (And.intro m (And.intro w (And.intro c1 (And.intro c2 (And.intro c3 c5)))))⟩
  . cases h
 case store k x v0=>
  simp only[eQ]at h;split at h
  . rename_i b o cs h1 g;obtain⟨A,t,s⟩:=jt.1 g;obtain⟨p,e,d⟩:=df h1;obtain⟨q,j,m⟩:=df t;split at h
    . rename_i G hs;simp only[cZ,cQ,c8]at h;obtain⟨⟨c1,c2⟩,rfl,rfl⟩:=h;exact⟨_,by simp only[aw,e,j,s,hs,ak,ab c1,ab c2],And.intro d m⟩
    . cases h
  . rename_i b sz i o cs h1 g;obtain⟨A,t,s⟩:=jt.1 g;obtain⟨p,e,d⟩:=df h1;obtain⟨q,j,m⟩:=df t;split at h
    . rename_i X es hs;split at h
      . cases h
      . rename_i O;obtain⟨ts,T,h⟩:=jt.1 h;simp only[cZ,cQ,c8]at h;obtain⟨⟨c1,c2⟩,rfl,rfl⟩:=h;exact⟨_,by simp only[aw,e,j,s,hs,O,T,ak,ab c1],And.intro d (And.intro m c2)⟩
    . rename_i af G hs;simp only[cZ,cQ,c8]at h;obtain⟨⟨c1,c2⟩,rfl,rfl⟩:=h;exact⟨_,by simp only[aw,e,j,s,hs,ak,ab c1,ab c2],And.intro d m⟩
    . cases h
  . cases h
 case append te sz bytes x y=>
  simp only[eQ]at h;split at h
  . rename_i H h1 g;obtain⟨A,t,D⟩:=jt.1 g;obtain⟨p,e,d⟩:=df h1;obtain⟨q,j,m⟩:=df t;simp only[cZ,cQ,c8]at h;obtain⟨⟨c1,c2,c3⟩,rfl,rfl⟩:=h;exact⟨_,by simp only[aw,e,j,D,ak,K5 D],And.intro d (And.intro m (And.intro (Lv c1) (And.intro c2 c3)))⟩
  . rename_i b X off len H h1 g;obtain⟨A,t,D⟩:=jt.1 g;obtain⟨p,e,d⟩:=df h1;obtain⟨q,j,m⟩:=df t;split at h
    . rename_i ah es hs;simp only[cZ,cQ,c8]at h;obtain⟨⟨c0,c1,c2,c3,c4,c5,I,K⟩,rfl,rfl⟩:=h;have aA:¬H.2=some b:=by rw[c0];simp
      exact⟨_,by simp only[aw,e,j,D,hs,ak,K5 D,ag aA],And.intro d (And.intro m (And.intro c1 (And.intro c2 (And.intro c3 (And.intro c4 (And.intro (Lv c5) (And.intro I K)))))))⟩
    . cases h
  . cases h
 case appendC sz bytes x y=>
  simp only[eQ]at h;split at h
  . rename_i Z ai ae h1;obtain⟨q,j,m⟩:=df h1;split at h
    . rename_i aj G hs;split at h
      . rename_i g;obtain⟨p,e,d⟩:=df g;simp only[cZ,cQ,c8]at h;obtain⟨s,rfl,rfl⟩:=h;exact⟨_,by simp only[aw,e,j,hs,ak],And.intro d (And.intro m s)⟩
      . rename_i b al len g;obtain⟨p,e,d⟩:=df g;split at h
        . rename_i am cs S;simp only[cZ,cQ,c8]at h;obtain⟨⟨c0,s⟩,rfl,rfl⟩:=h;exact⟨_,by simp only[aw,e,j,hs,S,ak,ag c0],And.intro d (And.intro m s)⟩
        . cases h
      . cases h
    . cases h
  . cases h
 all_goals cases h
end
section
open Go
set_option linter.unusedSimpArgs false
variable [da]
def V.bs:V->List Nat
 |.c x=>x.eE
 |.agg cs=>cs.flatMap C.eE
 |.aS vs=>go vs
where go:List V->List Nat
 |[]=>[]
 |v::vs=>v.bs++go vs
def bp.bs:bp->List Nat
 |.box cs=>cs.flatMap C.eE
 |.vec _ cs=>cs.flatMap C.eE
 |.bX _ c=>c.eE
 |.cu _ _ _ _ c=>c.eE
 |_=>[]
def rF(b:Nat):List Nat->Bool
 |[]=>false
 |c::r=>match Nat.beq b c with
  |true=>true
  |false=>rF b r
def ku(J:aF):Nat->List Nat->List Nat->List Nat
 |0,_,d=>d
 |_+1,[],d=>d
 |n+1,b::r,d=>match rF b d with
  |true=>ku J n r d
  |false=>match aJ J b with
   |none=>ku J n r d
   |some x=>ku J n (x.bs++r) (d++[b])
def u3:List Nat->Bool
 |[]=>true
 |b::r=>!(rF b r)&&u3 r
theorem Kl{b:Nat}:∀{l:List Nat},b∈l->rF b l=true
 |[],h=>by simp at h
 |c::r,h=>by
  unfold rF;split
  . rfl
  . rename_i a;rcases fF.1 h with rfl|h
    . simp at a
    . exact Kl h
theorem xx:∀{l:List Nat},u3 l=true->l.Nodup
 |[],_=>.nil
 |b::r,h=>by
  simp only[u3,cH,s3]at h;refine List.nodup_cons.2 ⟨λa=>?_,xx h.2⟩;rw[Kl a]at h;exact absurd h.1 (by simp)
abbrev tD:=Nat->List V->aF->Nat->Option (V×aF×Nat)
def pt(P:Program)(call:tD):Prop:=∀f args J k r s M,call f args J k=some (r,s,M)->dG P f args J k (λb c a=>b=r/\c=s/\a=M)
def D7(J:aF)(key:Nat)(b:Nat):Bool:=Nat.blt b key&&(aJ J b).isSome
def Mo(call:tD)(f:Nat)(vs:List V)(J:aF)(key:Nat)(bs:List Nat):Option (V×aF×List Nat):=
 match u3 bs&&bs.all (D7 J key)with
 |true=>match call f (vs.map (V.bG bs)) (eO bs J 0 bs) bs.length with
  |some (r,s,M)=>match Nat.ble M (bs.length+16)&&s.all (λx=>decide (x.1<bs.length+16))with
   |true=>some (r.bV (back bs key),fI J bs (back bs key) s,bs)
   |false=>none
  |none=>none
 |false=>none
def CJ(call:tD)(f:Nat)(vs:List V)(J:aF)(key:Nat):Option (V×aF×List Nat):=Mo call f vs J key (ku J 4000 (V.bs.go vs) [])
def w3:Env->List Nat->List Nat
 |[],d=>d
 |(k,_)::r,d=>match rF k d with
  |true=>w3 r d
  |false=>w3 r (d++[k])
def Ar(env:Env):List Nat->List Nat
 |[]=>[]
 |k::r=>match look env k with
  |some (_,v)=>v.bs++Ar env r
  |none=>Ar env r
def pv(k:Nat):List Nat->List Nat
 |[]=>[]
 |b::r=>match Nat.ble k b with
  |true=>b::pv k r
  |false=>pv k r
section
variable (P:Program)(call:tD)
def vD(o:b9)(gd:Bool)(env:Env)(J:aF)(key:Nat):Option (V×aF×List Nat):=
 match o with
 |.call f args=>match tK env args with
  |some vs=>CJ call f vs J key
  |none=>none
 |.callv x args=>match gd,dE env x,tK env args with
  |true,some (.c (.fn f caps)),some vs=>match gS P f with
   |true=>CJ call f (vs++caps.map λb=>V.c (.ptr b 0)) J key
   |false=>none
  |_,_,_=>none
 |.eqNil neg x=>match gd,dE env x with
  |true,some (.c (.t (.slice (_::_))))=>some (ma neg,J,[])
  |true,some (.c (.arr _ _ _ (_+1)))=>some (ma neg,J,[])
  |_,_=>none
 |o=>match eQ o env J key with
  |some (v,J')=>some (v,if o.neutral then J else J',[])
  |none=>none
def zo(o:bL)(env:Env)(J:aF)(key:Nat):Option (Env×aF×List Nat):=
 match fB env o.guard with
 |none=>none
 |some false=>some (dX env o.dst false (ma false),J,[])
 |some true=>match vD P call o.op o.guard.isNone env J key with
  |some (v,J',bs)=>some (dX env o.dst true v,J',bs)
  |none=>none
def mK:List bL->Nat->Env->aF->List Nat->Option (Env×aF×List Nat)
 |[],_,env,J,acc=>some (env,J,acc)
 |o::r,key,env,J,acc=>match zo P call o env J key with
  |some (e,s,bs)=>mK r (key+16) e s (bs++acc)
  |none=>none
def s7:b9->Bool
 |.eqNil .. =>false
 |.callv .. =>false
 |_=>true
abbrev od:=Option (Exit×Env×aF×Nat)
def EM(ops:List bL)(env:Env)(J:aF)(N:Nat):od:=
 match mK P call ops N env J []with
 |some (e,s,_)=>some (.normal,e,s,N+16*ops.length)
 |none=>none
def EN(ops:List bL)(dV:List (Nat×Nat))(env:Env)(J:aF)(N:Nat):od:=
 match uZ ops.length dV with
 |true=>match ops.getLast? with
  |some last=>match mK P call ops.dropLast N env J []with
   |some (e,s,xb)=>match ops.dropLast.all (λo=>s7 o.op)&&sP xb ops.dropLast e N dV with
    |true=>match mK P call [last] (N+16*ops.dropLast.length) e s []with
     |some (a,b,_)=>some (.normal,a,b,N+16*ops.dropLast.length+16)
     |none=>none
    |false=>none
   |none=>none
  |none=>none
 |false=>match mK P call ops N env J []with
  |some (e,s,xb)=>match ops.all (λo=>s7 o.op)&&sP xb ops e N dV with
   |true=>some (.normal,e,s,N+16*ops.length)
   |false=>none
  |none=>none
def Ho(step:Env->aF->Nat->od)(kk:Nat)(env:Env)(J:aF)(ks bs:List Nat):od:=
 match u3 bs&&keeps kk bs with
 |true=>step (mn bs env ks) (eO bs J 0 bs) bs.length
 |false=>none
def Co(step:Env->aF->Nat->od)(kk:Nat):Nat->Env->aF->od
 |0,_,_=>none
 |m+1,env,J=>match Ho step kk env J (w3 env []) (List.range kk++pv kk (ku J 4000 (Ar env (w3 env [])++List.range kk) []))with
  |some (.normal,e,s,_)=>Co step kk m e s
  |r=>r
def lf(m kk:Nat):di->Env->aF->Nat->od
 |.skip,env,J,N=>some (.normal,env,J,N)
 |.region ops,env,J,N=>EM P call ops env J N
 |.jY ops dV,env,J,N=>EN P call ops dV env J N
 |.seq a b,env,J,N=>match lf m kk a env J N with
  |some (.normal,e,s,n)=>lf m kk b e s n
  |r=>r
 |.cond c x y,env,J,N=>match dE env c with
  |some (.c (.t (.bool true)))=>lf m kk x env J N
  |some (.c (.t (.bool false)))=>lf m kk y env J N
  |_=>none
 |.block id b,env,J,N=>match lf m kk b env J N with
  |some (.exit i,e,s,n)=>match Nat.beq i id with
   |true=>some (.normal,e,s,n)
   |false=>some (.exit i,e,s,n)
  |r=>r
 |.loop b,env,J,N=>Co (lf m kk b) kk m env J
 |.exit id,env,J,N=>some (.exit id,env,J,N)
 |.ret,env,J,N=>some (.ret,env,J,N)
end
def z7(env:Env)(J:aF):fZ->Option V
 |.tmp t=>match look env t with
  |some (true,v)=>some v
  |_=>none
 |.cell t g k=>match look env t with
  |some (true,.c (.ptr b o))=>match aJ J b with
   |some (.box cs)=>hp g k cs o
   |_=>none
  |_=>none
def wj(env:Env)(J:aF):List fZ->Option (List V)
 |[]=>some []
 |r::a=>match z7 env J r,wj env J a with
  |some v,some vs=>some (v::vs)
  |_,_=>none
def chunk(sz:Nat):Nat->List T->List (List T)
 |0,_=>[]
 |n+1,l=>l.take sz::chunk sz n (l.drop sz)
def G7(sz:Nat)(ts:List T):Option (List (List T)):=
 match decide (0<sz/\ts.length/sz*sz=ts.length/\ts.length/sz<=dd)with
 |true=>some (chunk sz (ts.length/sz) ts)
 |false=>none
def lR:List Nat->Env->aF->Env×aF
 |[],e,s=>(e,s)
 |b::r,e,s=>match aJ s b with
  |some (.arr sz es)=>lR r (nB b sz es e) (k6 b sz es s)
  |_=>lR r e s
def nR:List Nat->Env->aF->Env×aF
 |[],e,s=>(e,s)
 |b::r,e,s=>match aJ s b with
  |some (.vec sz cs)=>match (toTs cs).bind (G7 sz)with
   |some es=>nR r (nB b sz es e) (k6 b sz es (cn s b (.arr sz es)))
   |none=>nR r e s
  |_=>nR r e s
def H2(l h:List Nat):List Nat:=l.filter λb=>!(rF b h)
def Qz(k:Nat)(r:V)(J:aF)(bs:List Nat):Option (V×aF×Nat):=
 match u3 bs&&keeps k bs with
 |true=>some (r.bG bs,eO bs J 0 bs,bs.length)
 |false=>none
def Qy(k:Nat)(a:List fZ)(es:Env×aF):Option (V×aF×Nat):=
 match wj es.1 es.2 a with
 |some vs=>Qz k (kv vs) es.2 (List.range k++pv k (ku es.2 4000 (V.bs.go vs++List.range k) []))
 |none=>none
def Qx(k:Nat)(a:List fZ)(b:List Nat)(es:Env×aF):Option (V×aF×Nat):=Qy k a (nR b es.1 es.2)
def Ck(k:Nat)(a:List fZ)(env:Env)(J:aF):Option (V×aF×Nat):=
 match wj env J a with
 |some vs=>Qx k a (H2 (pv k (ku J 4000 (V.bs.go vs) [])) (ku J 4000 (List.range k) [])) (lR (H2 (pv k (ku J 4000 (V.bs.go vs) [])) (ku J 4000 (List.range k) [])) env J)
 |none=>none
def QA(P:Program)(f:Nat):Option (di×List fZ×Nat):=
 match P.funcs[f]? with
 |some fn=>match fn.body.bind (resolve P fn.ntmps),hD P fn.results.toList with
  |some c,some a=>some (c,a,fn.ntmps)
  |_,_=>none
 |none=>none
def Qw(k:Nat)(a:List fZ):od->Option (V×aF×Nat)
 |some (.normal,e,s,_)=>Ck k a e s
 |some (.ret,e,s,_)=>Ck k a e s
 |_=>none
def zi(P:Program)(ext:Nat->List V->Option V)(m:Nat):Nat->tD
 |0,_,_,_,_=>none
 |n+1,f,args,J,k=>match ext f args with
  |some r=>match J,k with
   |[],0=>some (r,[],0)
   |_,_=>none
  |none=>match QA P f with
   |some (c,a,nt)=>match Nat.ble args.length nt with
    |true=>Qw k a (lf P (zi P ext m n) m k c (fD 0 args) J k)
    |false=>none
   |none=>none
end
section
open Go
set_option linter.unusedSimpArgs false
variable [da]
section
variable {P:Program}{call:tD}{nt kk key N m:Nat}{env env':Env}{J J':aF}
theorem IF{b:Nat}(h:D7 J key b=true):b<key/\∃x,aJ J b=some x:=by
 simp only[D7,cH,A0]at h;exact⟨by simpa[Nat.blt_eq]using h.1,h.2⟩
theorem RG(g:pt P call){f:Nat}{vs:List V}{v:V}{bs:List Nat}(h:CJ call f vs J key=some (v,J',bs)):
 bs.Nodup/\(∀b,b∈bs->b<key)/\(∀b,b∈bs->∃x,aJ J b=some x)/\∃r s M,M<=bs.length+16/\s.all (λx=>decide (x.1<bs.length+16))=true/\
  dG P f (vs.map (V.bG bs)) (eO bs J 0 bs) bs.length (λi j d=>i=r/\j=s/\d=M)/\v=r.bV (back bs key)/\J'=fI J bs (back bs key) s:=by
 unfold CJ at h;generalize ku J 4000 (V.bs.go vs) []=k at h;unfold Mo at h;split at h
 . rename_i h1;split at h
   . rename_i r s M e;split at h
     . rename_i a;cases h;simp only[cH,dW]at h1 a;exact⟨xx h1.1,λb c=>(IF (h1.2 b c)).1,λb c=>(IF (h1.2 b c)).2,r,s,M,yo a.1,dW.2 a.2,g _ _ _ _ _ _ _ e,rfl,rfl⟩
     . cases h
   . cases h
 . cases h
theorem gp.toN{f:Nat}{vs:List V}{K:V->aF->Prop}(h:gp P f vs J key K):Hj P f vs J key env K:=
 λao nt φ S a w R c vs e=>h ao nt φ S env (lt key) a w R (λb h1 _=>C9 h1) c vs e
theorem abR{o:b9}{gd:Bool}{v:V}{bs:List Nat}(h:vD P call o gd env J key=some (v,J',bs))(h1:∀f args,o≠.call f args)(a:∀x args,o≠.callv x args)(b:∀n x,o≠.eqNil n x):
 ∃s,eQ o env J key=some (v,s)/\J'=(if o.neutral then J else s):=by
 unfold vD at h;split at h
 . exact absurd rfl (h1 _ _)
 . exact absurd rfl (a _ _)
 . exact absurd rfl (b _ _)
 . split at h
   . rename_i s c;cases h;exact⟨_,c,rfl⟩
   . cases h
theorem Lw(k:pt P call){o:bL}{bs:List Nat}(h:zo P call o env J key=some (env',J',bs))(c:s7 o.op=true){xb:List Nat}(t:∀b,b∈bs->b∈xb):
 ∃g v,DStep xb P o key env J g v J'/\env'=dX env o.dst g v:=by
 unfold zo at h;split at h
 . cases h
 . rename_i aj;cases h;exact⟨false,ma false,.skip aj rfl,rfl⟩
 . rename_i aj;split at h
   . rename_i v s u a;cases h;refine⟨true,v,?_,rfl⟩;by_cases h1:∃f args,o.op= .call f args
     . obtain⟨f,args,e⟩:=h1;rw[e]at a;simp only[vD]at a;split at a
       . rename_i vs q;obtain⟨p,m,d⟩:=BT q;obtain⟨aZ,ba,bE,r,s,M,bU,cL,cM,rfl,rfl⟩:=RG k a;exact .raw e aj rfl m d aZ ba bE (λb j=>Er _ (t b j)) bU cL cM rfl
       . cases a
     . obtain⟨w,l,rfl⟩:=abR a (λf args e=>h1 ⟨f,args,e⟩) (λx args e=>by rw[e]at c;cases c) (λn x e=>by rw[e]at c;cases c);obtain⟨p,i,d⟩:=YY l;exact .op aj (by revert c;cases o.op<;>simp[s7,b9.drawn]) i (λ_=>d) (.inr rfl)
   . cases h
theorem acA(t:pt P call){o:bL}{bs:List Nat}(h:zo P call o env J key=some (env',J',bs)){K:Env->aF->Prop}(br:K env' J'):tR P o key env J K:=by
 cases m:s7 o.op with
 |true=>
  obtain⟨g,v,u,rfl⟩:=Lw t h m (xb:=bs) (λ_ h=>h);exact .inl (u.fP br)
 |false=>
  unfold zo at h;split at h
  . cases h
  . rename_i aj;cases h;exact .inl (DStep.fP (xb:=[]) (.skip aj rfl) br)
  . rename_i aj;split at h
    . rename_i v s B a;cases h;have aA:∀gd,(match gd with|true=>true|false=>false)=true->gd=true:=λgd h=>by cases gd<;>simp_all
      generalize n:o.op=op at a m;cases op
      case callv x args=>
       simp only[vD]at a;split at a
       . rename_i f caps vs k j z;split at a
         . rename_i c;obtain⟨q,d,i⟩:=df j;obtain⟨p,w,y⟩:=BT z;obtain⟨aZ,ba,bE,r,s,M,bU,cL,cM,rfl,rfl⟩:=RG t a;refine .inr ⟨aj,f,_,.inr ⟨x,args,q,p,caps,vs,n,d,i,w,y,c,rfl⟩,gp.toN (gp.P' aZ ba bE cM ?_)⟩
           rintro C D A ⟨rfl,rfl,rfl⟩
           exact⟨bU,br⟩
         . cases a
       . cases a
      case eqNil neg x=>
       simp only[vD]at a;split at a
       . rename_i e es k j;cases a;obtain⟨q,d,i⟩:=df j;refine .inl ?_;unfold fP;rw[aj,n];simp only[d];refine .inr ⟨by simpa using k,i,λb c=>?_⟩;have:b=false:=c (by simp);subst this;cases neg<;>exact br
       . rename_i b sz off l k j;cases a;obtain⟨q,d,i⟩:=df j;refine .inl ?_;unfold fP;rw[aj,n];simp only[d];refine .inr ⟨by simpa using k,i,λb c=>?_⟩;have:b=false:=c (by simp);subst this;cases neg<;>exact br
       . cases a
      all_goals simp[s7]at m
    . cases h
theorem H4(a:pt P call){K:Env->aF->Prop}:∀{l:List bL} {key:Nat} {env:Env} {J:aF} {acc xb:List Nat} {env':Env} {J':aF},mK P call l key env J acc=some (env',J',xb)->K env' J'->og P kk l key env J K
 |[],key,env,J,acc,xb,env',J',h,br=>by cases h;exact br
 |o::r,key,env,J,acc,xb,env',J',h,br=>by
  simp only[mK]at h;split at h
  . rename_i e s bs h1;exact⟨env,J,Conv.refl,acA a h1 (H4 a h br)⟩
  . cases h
theorem K6:∀{l:List bL} {key:Nat} {env:Env} {J:aF} {acc xb:List Nat} {env':Env} {J':aF},mK P call l key env J acc=some (env',J',xb)->∀b,b∈acc->b∈xb
 |[],key,env,J,acc,xb,env',J',h,b,a=>by cases h;exact a
 |o::r,key,env,J,acc,xb,env',J',h,b,a=>by
  simp only[mK]at h;split at h
  . exact K6 h b (Er _ a)
  . cases h
theorem H6(c:pt P call){K:Env->aF->Prop}:∀{l:List bL} {key:Nat} {env:Env} {J:aF} {acc xb:List Nat} {env':Env} {J':aF},mK P call l key env J acc=some (env',J',xb)->l.all (λo=>s7 o.op)=true->K env' J'->rv xb P l key env J K
 |[],key,env,J,acc,xb,env',J',h,a,br=>by cases h;exact br
 |o::r,key,env,J,acc,xb,env',J',h,a,br=>by
  simp only[lY,cH]at a;simp only[mK]at h;split at h
  . rename_i e s bs h1;obtain⟨g,v,f,rfl⟩:=Lw c h1 a.1 (xb:=xb) (λb d=>K6 h b (List.mem_append_left _ d));exact⟨g,v,s,f,H6 c h a.2 br⟩
  . cases h
theorem YZ(b:pt P call){ops:List bL}{e:Exit}(h:EM P call ops env J N=some (e,env',J',m)){Q:Exit->Env->aF->Nat->Prop}(a:Q e env' J' m):bJ P nt kk (.region ops) env J N Q:=by
 unfold EM at h;split at h
 . rename_i h1;cases h;exact bJ.Qt (H4 b h1 a)
 . cases h
theorem X3(b:pt P call){ops:List bL}{dV:List (Nat×Nat)}{e:Exit}(h:EN P call ops dV env J N=some (e,env',J',m)){Q:Exit->Env->aF->Nat->Prop}(c:Q e env' J' m):bJ P nt kk (.jY ops dV) env J N Q:=by
 unfold EN at h;split at h
 . rename_i g;split at h
   . rename_i last ad;have he:ops=ops.dropLast++[last]:=by
      obtain⟨i,rfl⟩:=List.getLast?_eq_some_iff.1 ad;simp
     split at h
     . rename_i az s1 xb h1;split at h
       . rename_i a;split at h
         . rename_i d;cases h;simp only[cH]at a;have f:ops.length=ops.dropLast.length+1:=by
            rw[he];simp
           rw[he];refine bJ.agk (xb:=xb) (f▸g) (H6 b h1 a.1 ⟨a.2,H4 b d c⟩)
         . cases h
       . cases h
     . cases h
   . cases h
 . split at h
   . rename_i az s1 xb h1;split at h
     . rename_i a;cases h;simp only[cH]at a;exact bJ.jY (xb:=xb) (H6 b h1 a.1 ⟨a.2,c⟩)
     . cases h
   . cases h
theorem Sx{c:di}{step:Env->aF->Nat->od}(hs:∀{env J N e env' J' N'},step env J N=some (e,env',J',N')->∀{Q:Exit->Env->aF->Nat->Prop},Q e env' J' N'->bJ P nt kk c env J N Q){Q:Exit->Env->aF->Nat->Prop}:
 ∀{m:Nat} {env:Env} {J:aF} {N:Nat} {e:Exit} {env':Env} {J':aF} {N':Nat},Co step kk m env J=some (e,env',J',N')->Q e env' J' N'->Hp P nt kk c Q m env J N
 |0,env,J,N,e,env',J',N',h,b=>by cases h
 |m+1,env,J,N,e,env',J',N',h,b=>by
  unfold Co at h;generalize w3 env []=ks at h;generalize List.range kk++pv kk (ku J 4000 (Ar env ks++List.range kk) [])=bs at h;split at h
  . rename_i az s1 dy h1;unfold Ho at h1;split at h1
    . rename_i a;simp only[cH]at a;exact bJ.tidy ks bs (xx a.1) a.2 (hs h1 (Q:=andThen _ Q) (Sx hs h b))
    . cases h1
  . rename_i d;unfold Ho at h d;split at h
    . rename_i a;simp only[a]at d;simp only[cH]at a;refine bJ.tidy ks bs (xx a.1) a.2 (hs h (Q:=andThen _ Q) ?_);cases e with
      |normal=>exact absurd h (d _ _ _)
      |_=>exact b
    . cases h
theorem np(f:pt P call){m:Nat}:∀{c:di} {env:Env} {J:aF} {N:Nat} {e:Exit} {env':Env} {J':aF} {N':Nat},lf P call m kk c env J N=some (e,env',J',N')->∀{Q:Exit->Env->aF->Nat->Prop},Q e env' J' N'->bJ P nt kk c env J N Q
 |.skip,env,J,N,e,env',J',N',h,Q,d=>by cases h;exact bJ.skip d
 |.ret,env,J,N,e,env',J',N',h,Q,d=>by cases h;exact bJ.ret d
 |.exit id,env,J,N,e,env',J',N',h,Q,d=>by cases h;exact bJ.exit d
 |.region ops,env,J,N,e,env',J',N',h,Q,d=>YZ f h d
 |.jY ops dV,env,J,N,e,env',J',N',h,Q,d=>X3 f h d
 |.seq a b,env,J,N,e,env',J',N',h,Q,d=>by
  simp only[lf]at h;split at h
  . rename_i h1;exact bJ.seq (np f h1 (Q:=andThen _ Q) (np f h d))
  . rename_i g;refine bJ.seq (np f h (Q:=andThen _ Q) ?_);cases e with
    |normal=>exact absurd h (g _ _ _)
    |_=>exact d
 |.cond c x y,env,J,N,e,env',J',N',h,Q,d=>by
  simp only[lf]at h;split at h
  . rename_i h1;obtain⟨p,aj,j⟩:=df h1;exact bJ.cond (b:=true) aj j (λ_=>np f h d) (λh=>by cases h)
  . rename_i h1;obtain⟨p,aj,j⟩:=df h1;exact bJ.cond (b:=false) aj j (λh=>by cases h) (λ_=>np f h d)
  . cases h
 |.block id b,env,J,N,e,env',J',N',h,Q,d=>by
  simp only[lf]at h;split at h
  . rename_i i az s1 dy h1;split at h
    . rename_i hi;cases h;have:=Ep hi;subst this;refine bJ.block (np f h1 (Q:=inBlock _ Q) ?_);simp only[inBlock,cw];exact d
    . rename_i hi;cases h;refine bJ.block (np f h1 (Q:=inBlock _ Q) ?_);have:¬i=id:=λe=>by subst e;simp at hi
      simp only[inBlock,ag this];exact d
  . rename_i g;refine bJ.block (np f h (Q:=inBlock _ Q) ?_);cases e with
    |exit i=>exact absurd h (g _ _ _ _)
    |_=>exact d
 |.loop b,env,J,N,e,env',J',N',h,Q,d=>by
  simp only[lf]at h;exact bJ.af3 m (Sx (λh=>np f h) h d)
theorem X4{r:fZ}{v:V}(h:z7 env J r=some v):∃p,nC env J r=some (p,v)/\p:=by
 cases r with
 |tmp t=>
  simp only[z7]at h;split at h
  . rename_i ad;cases h;exact⟨True,by simp[nC,ad],trivial⟩
  . cases h
 |cell t g k=>
  simp only[z7]at h;split at h
  . rename_i b o ad;split at h
    . rename_i cs hs;exact⟨True,by simp[nC,ad,hs,h],trivial⟩
    . cases h
  . cases h
theorem Sy:∀{a:List fZ} {vs:List V},wj env J a=some vs->∃p,mu env J a=some (p,vs)/\p
 |[],vs,h=>by cases h;exact⟨True,rfl,trivial⟩
 |r::a,vs,h=>by
  simp only[wj]at h;split at h
  . rename_i v f h1 c;cases h;obtain⟨p,az,d⟩:=X4 h1;obtain⟨q,b,e⟩:=Sy c;exact⟨p/\q,by simp[mu,az,b],d,e⟩
  . cases h
theorem bJ.post{c:di}{Q kG:Exit->Env->aF->Nat->Prop}(h:bJ P nt kk c env J N Q)(x:∀e env J N,Q e env J N->∃env' J',Conv kk N env J N env' J'/\kG e env' J' N):bJ P nt kk c env J N kG:=
 λcode t ao φ S a w f R=>wp_mono (h _ t ao φ S a w f R) λe a w ⟨A,bH,env',J',N',h1,q⟩=>
  let⟨p,g,v,y⟩:=x _ _ _ _ h1
  let⟨B,o,j⟩:=v ao nt A bH a w f q
  ⟨B,o,p,g,N',y,j⟩
theorem Hi{sz:Nat}:∀{n:Nat} {l:List T},(chunk sz n l).length=n
 |0,l=>rfl
 |n+1,l=>by simp[chunk,Hi]
theorem Gy{sz:Nat}:∀{n:Nat} {l:List T} {i:Nat} {e:List T},(chunk sz n l)[i]?=some e->i<n/\e=(l.drop (i*sz)).take sz
 |0,l,i,e,h=>by simp[chunk]at h
 |n+1,l,0,e,h=>by simp[chunk]at h;exact⟨by omega,by simp[h]⟩
 |n+1,l,i+1,e,h=>by
  simp only[chunk,ym]at h;obtain⟨h1,a⟩:=Gy h;refine⟨by omega,?_⟩;rw[a,s6]
  congr 2
  rw[Nat.succ_mul];omega
theorem Rel.agS{ao:Ctx}{φ:db}{S:dj}{n:Nat->Bool}{a:Act}{w:World}(R:Rel ao nt φ S env J n a w)(hs:∀b g,aJ J' b=some g->∃x,aJ J b=some x/\(cD φ w S b x->cD φ w S b g)/\(x.aq n=true->g.aq n=true)):Rel ao nt φ S env J' n a w:=by
 refine⟨⟨λb x e=>?_,λb j x y e o=>?_,R.bm.st⟩,R.fT,R.gJ,R.fS,λb x e=>?_,R.size,R.defers,R.ext,λb x e=>?_,R.fix,R.fV⟩
 . obtain⟨c,h1,f,_⟩:=hs b x e;exact f (R.bm.blk b c h1)
 . obtain⟨c,h1,_⟩:=hs b x e;obtain⟨p,aZ,_⟩:=hs j y o;exact R.bm.inj b j c p h1 aZ
 . obtain⟨c,h1,_,f⟩:=hs b x e;exact⟨(R.dp b c h1).1,f (R.dp b c h1).2⟩
 . obtain⟨c,h1,_⟩:=hs b x e;exact R.own b c h1
theorem Conv.agR{b sz:Nat}{cs:List C}{es:List (List T)}(y:aJ J b=some (.vec sz cs))(he:(toTs cs).bind (G7 sz)=some es):Conv kk N env J N env (cn J b (.arr sz es)):=by
 obtain⟨ts,p,he⟩:=jt.1 he;unfold G7 at he;split at he
 . rename_i A;cases he;obtain⟨h0,h1,q⟩:=fm A;generalize aA:ts.length/sz=n at*;intro ao nt φ S a w L R;refine⟨φ,S,R.agS λK H f=>?_⟩;rw[cE]at f;split at f
   . rename_i e;subst e;cases f;refine⟨_,y,?_,λ_=>rfl⟩
     rintro ⟨M,vs,E,aZ,⟨ba,bE⟩,bU⟩
     have aI:=sd p;have o:=oO p ba;have D:=o.length;rw[ju]at D;have G:∀e,e∈chunk sz n ts->e.length=sz:=by
      intro e he;obtain⟨i,hi,rfl⟩:=jd he;obtain⟨g,x⟩:=Gy (eu hi);rw[x,ju,pH,<-h1];have:(i+1)*sz<=n*sz:=et _ g;rw[Nat.succ_mul]at this;omega
     refine⟨?_,by rw[Hi];exact q,G,h0,λ_=>⟨vs,E,aZ,bE,?_,bU⟩⟩
     . rw[Hi];have:sz*n<=sz*(φ b).2:=by
        rw[yi sz n,yi sz,h1,<-bE];omega
       exact Nat.le_of_mul_le_mul_left this h0
     . intro i j e t he ht;obtain⟨g,rfl⟩:=Gy he;have B:j<sz:=by
        have:=(dO.1 ht).1;rw[ju]at this;omega
       rw[mF,ab B,Et]at ht;obtain⟨v,c,F⟩:=o.get ht;refine⟨v,?_,F⟩;rw[mF]at c;split at c
       . exact c
       . cases c
   . exact⟨H,f,λh=>h,λh=>h⟩
 . cases he
theorem FJ:∀{l:List Nat} {env:Env} {J:aF},Conv kk N env J N (lR l env J).1 (lR l env J).2
 |[],env,J=>Conv.refl
 |b::r,env,J=>by
  unfold lR;split
  . rename_i hs;exact(Conv.freeze b hs).trans FJ
  . exact FJ
theorem B6:∀{l:List Nat} {env:Env} {J:aF},Conv kk N env J N (nR l env J).1 (nR l env J).2
 |[],env,J=>Conv.refl
 |b::r,env,J=>by
  unfold nR;split
  . rename_i hs;split
    . rename_i es he;refine(Conv.agR hs he).trans ((Conv.freeze b (sz0:=_) (es:=es) ?_).trans B6);rw[cE,ab rfl]
    . exact B6
  . exact B6
theorem dv.all(l:List C):aQ dv l l:=by
 induction l with
 |nil=>exact .nil
 |cons c l ih=>exact .cons (.refl c) ih
theorem fi.id:∀(v:V),fi v v
 |.c x=>.c (.refl x)
 |.agg cs=>.agg (dv.all cs)
 |.aS vs=>.aS vs vs rfl λi x y h1 a=>by
  rw[h1]at a;cases a;exact go vs i x h1
where go:∀(vs:List V) (i:Nat) (x:V),vs[i]?=some x->fi x x
 |[],i,x,h=>by simp at h
 |v::vs,0,x,h=>by simp at h;subst h;exact fi.id v
 |v::vs,i+1,x,h=>go vs i x (by simpa using h)
theorem Sz{ext:Nat->List V->Option V}(v:∀f args r,ext f args=some r->dG P f args [] 0 (λj l g=>j=r/\l=[]/\g=0)){m:Nat}:∀n,pt P (zi P ext m n)
 |0=>λf args J k r s M h=>by cases h
 |n+1=>by
  intro f args J k r s M h;have ih:=Sz v (m:=m) n;unfold zi at h;split at h
  . rename_i N he;split at h
    . cases h;exact v _ _ _ he
    . cases h
  . split at h
    . rename_i c y nt i;unfold QA at i;split at i
      . rename_i fn C;split at i
        . rename_i K I h1 z;cases i;split at h
          . rename_i D;have key:∀e env' J' N',lf P (zi P ext m n) m k c (fD 0 args) J k=some (e,env',J',N')->(e= .normal\/e= .ret)->Ck k y env' J'=some (r,s,M)->dG P f args J k (λj l g=>j=r/\l=s/\g=M):=by
             intro e env' J' N' o B a;unfold Ck at a;split at a
             . rename_i H L;generalize H2 (pv k (ku J' 4000 (V.bs.go H) [])) (ku J' 4000 (List.range k) [])=d at a;unfold Qx Qy at a;split at a
               . rename_i vs w;unfold Qz at a;generalize List.range k++pv k _=bs at a;split at a
                 . rename_i q;cases a;simp only[cH]at q;have u:Conv k N' env' J' N' (nR d (lR d env' J').1 (lR d env' J').2).1 (nR d (lR d env' J').1 (lR d env' J').2).2:=FJ.trans B6;generalize (nR d (lR d env' J').1 (lR d env' J').2)=es at u w;obtain⟨p,E,F⟩:=Sy w
                   have A:dG P f args J k (λj l g=>j=kv vs/\l=es.2/\g=N'):=by
                    refine dG.mk C h1 z rfl (yo D) ?_;refine bJ.post (np ih o (Q:=λaz t cz e6=>az=e/\t=env'/\cz=J'/\e6=N') ⟨rfl,rfl,rfl,rfl⟩) ?_
                    rintro az t cz e6 ⟨rfl,rfl,rfl,rfl⟩
                    refine⟨es.1,es.2,u,?_⟩;rcases B with rfl|rfl<;>exact⟨p,vs,E,F,rfl,rfl,rfl⟩
                   refine A.tidy ?_
                   rintro j l g ⟨rfl,rfl,rfl⟩
                   exact⟨bs,_,_,xx q.1,q.2,fi.id _,λb x G=>⟨x,G,.same⟩,rfl,rfl,rfl⟩
                 . cases a
               . cases a
             . cases a
            unfold Qw at h;split at h
            . rename_i o;exact key _ _ _ _ o (.inl rfl) h
            . rename_i o;exact key _ _ _ _ o (.inr rfl) h
            . cases h
          . cases h
        . cases i
      . cases i
    . cases h
end
end
end Go.Proofs.YtfcnkdegapjgnaaGreatDoor.Shv
