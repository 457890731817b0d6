/- The library, part D: an abstract machine for the code of the program, and its soundness. -/
import Derived.KernelRfl
import Derived.Shelf.Strings.Builder1
import Derived.ChangeArms
import Derived.ChangeStays
import Derived.ChangeSame
import Derived.SizedLaws
import Derived.Below
import Derived.WalkKit
import Derived.ProofKit
import Derived.OpenShut
import Derived.Laws.BitsLemmas
import Derived.Laws.Bits64
import Derived.Shelf.GgSortFunc.InsertionK
import Derived.Shelf.SlSortCmp.Insertion
import Derived.Sort.AssemblyPlain
import Derived.Lib.BitFns
import Derived.Test.YtdjagncoefjfeaaGreatCkLC

namespace Go.Proofs.YtdjagncoefjfeaaGreat.Shv
set_option linter.all false
section
open Go
variable {xb:a7}
variable {U:cJ}{R:Type}
def ox(gl:eB)(gd:Option (Nat×Bool))(dst:Option Nat):Bool:=
 match dst with
 |none=>true
 |some d=>(gl.all λe=>!(Nat.beq e.1 d) && !(Nat.beq e.2.1 d))&&(match gd with
  |some g=>!(Nat.beq g.1 d)
  |none=>true)
def gE(dst:Option Nat)(v:bL U)(env:bX U):bX U:=
 match dst with
 |none=>env
 |some d=>(d,v)::env
def iH(gl:eB)(gd:Option (Nat×Bool))(dst:Option Nat):eB:=
 match gd,dst with
 |some g,some d=>(d,g)::gl
 |_,_=>gl
abbrev fT(U:cJ):=Nat->List (cI U)
abbrev lh(U:cJ):=bX U->Option (List (bL U))
def UW(s:cI U)(c:lh U)(env:bX U)(J:bh U)(key:Nat):Option (bX U×bh U×a7×aQ U.D s.ts):=
 match c env with
 |none=>none
 |some vs=>match xB J 0 0 s.st (Dl s.gD vs ([],[])) []with
  |(bs,d)=>match lg d env J with
   |none=>none
   |some (env',J')=>match c env' with
    |none=>none
    |some e=>match uc bs&&((bs.all λb=>Nat.ble (b+1) key)&&(Nat.beq bs.length s.st.length&&Nat.ble s.eJ.length (bs.length+16)))with
     |false=>none
     |true=>match mT bs s.gD e,iV bs J' 0 s.st with
      |some a,some b=>match aQ.dec U.D s.ts (a++b)with
       |some h=>some (env',J',bs,h)
       |none=>none
      |_,_=>none
def xS(b:lh U)(env:bX U)(J:bh U)(key:Nat)(k:bX U->bh U->bL U->Option R):List (cI U)->Option R
 |[]=>none
 |s::r=>match UW s b env J key with
  |none=>xS b env J key k r
  |some (env',J',bs,h)=>(s.F h)>>=λa=>match o0 J' (s.rest a) 0 bs with
   |none=>none
   |some c=>if c then k env' (nL J' bs (back bs key) (s.rest a)) ((s.res a).cf (back bs key))else none
def isNil{α:Type}:List α->Bool
 |[]=>true
 |_=>false
def GR(s:cI U)(b:lh U)(env:bX U):Option (aQ U.D s.ts):=
 match isNil s.st&&isNil s.eJ,b env with
 |true,some vs=>match vs.all gL,mT [] s.gD vs with
  |true,some a=>aQ.dec U.D s.ts a
  |_,_=>none
 |_,_=>none
def xR(a:lh U)(env:bX U)(g:Bool)(k:bL U->Option R):List (cI U)->Option R
 |[]=>none
 |s::r=>match GR s a env with
  |none=>xR a env g k r
  |some h=>(if g then s.F h else some (aQ.ki U s.us))>>=λb=>match gL (s.res b)with
   |true=>k (s.res b)
   |false=>none
def hasB(J:bh U)(b:Nat):Bool:=match a8 J b with
 |some _=>true
 |none=>false
def bk.jE(J:bh U):bk U->Bool
 |.t _|.dJ .. |.aA|.fa|.e'=>true
 |.ptr b _=>hasB J b
 |.cH b _ _ _=>hasB J b
 |.fn _ caps=>caps.all (hasB J)
 |.arr b=>match a8 J b with
  |some x=>(match x.db with
   |some _=>true
   |none=>false)
  |none=>false
 |.sub .. =>false
 |.pre .. =>false
 |.dK .. =>false
 |.mp b=>hasB J b
 |.ev _=>false
 |.cL b=>match a8 J b with
  |some x=>(match x.db with
   |some p=>Nat.beq p.1 1
   |none=>false)
  |none=>false
 |.dead=>false
def kO(J:bh U):bL U->Bool
 |.c x=>x.jE J
 |.agg cs=>cs.all (bk.jE J)
 |.a6 vs=>go J vs
where go (J:bh U):List (bL U)->Bool
 |[]=>true
 |v::vs=>kO J v&&go J vs
def bk.ik(J:bh U):bk U->C
 |.t c=>.t (c.enc U)
 |.dJ ty x o=>.dJ (ty.enc U x) o
 |.aA=>.aA
 |.fa=>.fa
 |.e'=>.e'
 |.fn f caps=>.fn f caps
 |.ptr b o=>.ptr b o
 |.cH b ty i o=>.cH b (ty.sz U) i o
 |.arr b=>match a8 J b with
  |some x=>(match x.db with
   |some p=>.arr b p.1 0 p.2
   |none=>.dead)
  |none=>.dead
 |.sub b a len=>.fI b 1 a len
 |.pre _ _=>.dead
 |.dK .. =>.dead
 |.mp b=>.mp b
 |.ev b=>.ev b
 |.cL b=>match a8 J b with
  |some x=>(match x.db with
   |some p=>.cL b p.2
   |none=>.dead)
  |none=>.dead
 |.dead=>.dead
def ij(J:bh U):bL U->V
 |.c x=>.c (x.ik J)
 |.agg cs=>.agg (cs.map (bk.ik J))
 |.a6 vs=>.a6 (go J vs)
where go (J:bh U):List (bL U)->List V
 |[]=>[]
 |v::vs=>ij J v::go J vs
def gn(J:bh U):cO U->Bool
 |.box cs=>cs.all (bk.jE J)
 |.arr _ _=>true
 |.rows .. =>false
 |.set _=>true
 |.buf _ _=>true
 |.b' _ c=>c.jE J
 |.cA .. =>false
def sO(J:bh U):cO U->bV
 |.box cs=>.box (cs.map (bk.ik J))
 |.arr ty l=>.arr (ty.sz U) (l.map (ty.enc U))
 |.rows sz _=>.arr sz []
 |.set ks=>.set ks
 |.buf E s=>.buf E s
 |.b' E c=>.b' E (c.ik J)
 |.cA t l i o _=>.cA (t.sz U) (l.map (t.enc U)) i o .dead
def kH(J:bh U):bh U->ba
 |[]=>[]
 |(b,x)::r=>(b,sO J x)::kH J r
def J4(J:bh U)(l:bh U):Bool:=l.all λp=>Nat.ble (p.1+1) 16&&gn J p.2
def GQ(s:cI U)(b:lh U)(env:bX U):Option (aQ U.D s.ts):=
 match isNil s.st&&Nat.ble s.eJ.length 16,b env with
 |true,some vs=>match vs.all gL,mT [] s.gD vs with
  |true,some a=>aQ.dec U.D s.ts a
  |_,_=>none
 |_,_=>none
def AM(b:lh U)(env:bX U)(J:bh U)(key:Nat)(k:bh U->bL U->Option R):List (cI U)->Option R
 |[]=>none
 |s::r=>match GQ s b env with
  |none=>AM b env J key k r
  |some h=>(s.F h)>>=λa=>match kO (s.rest a) (s.res a)&&J4 (s.rest a) (s.rest a)with
   |true=>k (nL J [] (back [] key) (s.rest a)) ((s.res a).cf (back [] key))
   |false=>none
def bk.fZ:bk U->a7
 |.ptr b _|.cH b _ _ _|.arr b|.sub b _ _|.pre b _|.dK b _ _|.mp b|.ev b|.cL b=>[b]
 |.fn _ caps=>caps
 |_=>[]
def bL.fZ:bL U->a7
 |.c x=>x.fZ
 |.agg cs=>cs.flatMap bk.fZ
 |.a6 _=>[]
def mu(l:a7)(b:Nat):Bool:=l.any λc=>Nat.beq c b
def UX(xb:a7)(s:cI U)(d:lh U)(env:bX U)(J:bh U)(key:Nat):Option (a7×aQ U.D s.ts):=
 match d env with
 |none=>none
 |some vs=>match xB J 0 0 s.st (Dl s.gD vs ([],[])) []with
  |(bs,c)=>match isNil c&&(uc bs&&((bs.all λb=>Nat.ble (b+1) key&&((mu (vs.flatMap bL.fZ) b||mu xb b)&&hasB J b))&&(Nat.beq bs.length s.st.length&&(Nat.ble bs.length s.eJ.length&&Nat.ble s.eJ.length (bs.length+16)))))with
   |false=>none
   |true=>match mT bs s.gD vs,iV bs J 0 s.st with
    |some a,some b=>match aQ.dec U.D s.ts (a++b)with
     |some h=>some (bs,h)
     |none=>none
    |_,_=>none
def Ko(n:Nat)(J:bh U)(l:bh U):Bool:=l.all λp=>Nat.ble (p.1+1) n&&gn J p.2
def xh(xb:a7)(b:lh U)(env:bX U)(J:bh U)(key:Nat)(k:bh U->bL U->Option R):List (cI U)->Option R
 |[]=>none
 |s::r=>match UX xb s b env J key with
  |none=>xh xb b env J key k r
  |some (bs,h)=>(s.F h)>>=λa=>match kO (s.rest a) (s.res a)&&Ko (bs.length+16) (s.rest a) (s.rest a),o0 J (s.rest a) 0 bs with
   |true,some c=>if c then k (nL J bs (back bs key) (s.rest a)) ((s.res a).cf (back bs key))else none
   |_,_=>none
def agn(a:lh U)(env:bX U)(l:List (cI U)):Bool:=l.any λs=>(GQ s a env).isSome
def ago(a:lh U)(env:bX U)(l:List (cI U)):Bool:=l.any λs=>(GR s a env).isSome
def ai1(gd:Option (Nat×Bool))(a:lh U)(env:bX U)(l:List (cI U)):Bool:=
 match gd with
 |some _=>!(ago a env l)
 |none=>false
def agG(d:Option a7):a7:=match d with
 |some l=>l
 |none=>[]
def II(fo:fT U)(d:Option a7)(gd:Option (Nat×Bool))(f:Nat)(a:lh U)(gl:eB)(env:bX U)(J:bh U)(key:Nat)(k:bX U->bh U->bL U->Option R):Option R:=
 match gd with
 |none=>match d with
  |none=>xS a env J key k (fo f)
  |some xb=>match agn a env (fo f)with
   |true=>AM a env J key (λJ v=>k env J v) (fo f)
   |false=>xh xb a env J key (λJ v=>k env J v) (fo f)
 |some _=>match lL gl env qX gd with
  |some g=>xR a env g (λv=>k env J v) (fo f)
  |none=>none
abbrev kc:=List (Nat×Bool)
def vE(nf:kc)(gl:eB):Nat->Option (Nat×Bool)->Bool
 |0,_=>false
 |_,none=>false
 |a+1,some (t,b)=>(nf.any λg=>Nat.beq g.1 t&&(g.2==b))||vE nf gl a (a8 gl t)
def lG(nf:kc)(dst:Option Nat):Bool:=
 match dst with
 |none=>true
 |some d=>nf.all λg=>!(Nat.beq g.1 d)
def Fx:bL U:= .c (.t ⟨.bool,false⟩)
def sA(fo:fT U)(d:Option a7)(o:ca)(key:Nat)(gl:eB)(nf:kc)(env:bX U)(J:bh U)(k:eB->kc->bX U->bh U->Option R):Option R:=
 match ox gl o.guard o.dst&&lG nf o.dst with
 |false=>none
 |true=>match vE nf gl qX o.guard with
  |true=>match lL gl env qX o.guard with
   |some _=>k (iH gl o.guard o.dst) nf (gE o.dst Fx env) J
   |none=>none
  |false=>match o.op with
   |.call f args=>match ai1 o.guard (λe=>lU gl o.guard e args) env (fo f)with
    |true=>match lL gl env qX o.guard,o.guard with
     |some g,some gd=>if g then xh (agG d) (λe=>lU gl o.guard e args) env J key (λJ v=>k (iH gl o.guard o.dst) nf (gE o.dst v env) J) (fo f)else k (iH gl o.guard o.dst) (gd::nf) (gE o.dst Fx env) J
     |_,_=>none
    |false=>II fo d o.guard f (λe=>lU gl o.guard e args) gl env J key λenv J v=>k (iH gl o.guard o.dst) nf (gE o.dst v env) J
   |.ic x args=>match d,o.guard,c' gl none env x with
    |none,none,some (.c (.fn f _))=>xS (λe=>match c' gl none e x,lU gl none e args with
     |some (.c (.fn i a)),some vs=>match Nat.beq i f with
      |true=>some (vs++a.map λb=>.c (.ptr b 0))
      |false=>none
     |_,_=>none) env J key (λenv J v=>k gl nf (gE o.dst v env) J) (fo f)
    |some _,none,some (.c (.fn f []))=>xR (λe=>lU gl none e args) env true (λv=>k gl nf (gE o.dst v env) J) (fo f)
    |_,_,_=>none
   |op=>match cn gl o.guard env J key op with
    |none=>none
    |some (c,v,J')=>match o.guard with
     |none=>if c then k gl nf (gE o.dst v env) J' else none
     |some gd=>match lL gl env qX (some gd)with
      |none=>none
      |some g=>match op.neutral with
       |true=>if(c || !g) then k (iH gl o.guard o.dst) nf (gE o.dst v env) J else none
       |false=>if g then(if c then k (iH gl o.guard o.dst) nf (gE o.dst v env) J' else none)else k (iH gl o.guard o.dst) (gd::nf) (gE o.dst Fx env) J
def UQ(J:bh U):bk U->List (Nat×aN)
 |.arr b=>match a8 J b with
  |some (.arr t _)=>[(b,t)]
  |_=>[]
 |_=>[]
def ai0(J:bh U):bL U->List (Nat×aN)
 |.c x=>UQ J x
 |.agg cs=>cs.flatMap (UQ J)
 |.a6 _=>[]
def GO(gl:eB)(gd:Option (Nat×Bool))(env:bX U)(J:bh U)(xs:List aU):List (Nat×aN):=
 xs.flatMap λx=>match c' gl gd env x with
  |some v=>ai0 J v
  |none=>[]
def BL(l:List (Nat×aN))(env:bX U)(J:bh U):Option (bX U×bh U):=
 match l with
 |[]=>none
 |_=>lg l env J
def GP(gl:eB)(o:ca)(env:bX U)(J:bh U):Option (bX U×bh U):=
 match o.op with
 |.slc _ x _ _=>match c' gl o.guard env x with
  |some (.c (.arr b))=>match a8 J b with
   |some (.arr t _)=>lg [(b,t)] env J
   |_=>none
  |_=>none
 |.call _ args=>match o.guard with
  |some _=>BL (GO gl o.guard env J args) env J
  |none=>none
 |.bsliceT _ _ _ _ ps=>BL (GO gl o.guard env J (ps.map Prod.snd)) env J
 |.bslice _ _ _ ps=>BL (GO gl o.guard env J (ps.map Prod.snd)) env J
 |_=>none
def EU(fo:fT U)(d:Option a7)(o:ca)(key:Nat)(gl:eB)(nf:kc)(env:bX U)(J:bh U)(k:eB->kc->bX U->bh U->Option R):Option R:=
 match d with
 |some xb=>sA fo (some xb) o key gl nf env J k
 |none=>match GP gl o env J with
  |none=>sA fo none o key gl nf env J k
  |some p=>sA fo none o key gl nf p.1 p.2 k
def rN(fo:fT U)(d:Option a7):List ca->Nat->eB->kc->bX U->bh U->(eB->bX U->bh U->Option R)->Option R
 |[],_,gl,_,env,J,k=>k gl env J
 |o::r,key,gl,nf,env,J,k=>EU fo d o key gl nf env J λgl nf env J=>rN fo d r (key+16) gl nf env J k
def CA(gl:eB)(k:Nat):Bool:=gl.any λe=>Nat.beq e.1 k
def clean(gl:eB):bX U->bX U
 |[]=>[]
 |(k,v)::r=>match CA gl k with
  |true=>clean gl r
  |false=>(k,v)::clean gl r
def AN(gl:eB)(env:bX U):bX U:=
 match gl with
 |[]=>env
 |_=>clean gl env
structure eL (key:Nat)(gl:eB)(nf:kc)(env:bX U)(J:bh U)(env1:Env)(J1:ba)(G:Nat->Bool):Prop where
 gZ:c3 key J G env env1
 aq:gT gl env G
 eT:cz key J J1
 aJ:∀g,g∈nf->cB env G (some g)=false
variable{N:Nat}{o:ca}{K:Env->ba->Prop}
section
variable {P:Program}{kk key:Nat}{J J':bh U}{J1 br:ba}{env:bX U}{env1:Env}{G:Nat->Bool}{gl:eB}{gd:Option (Nat×Bool)}{nf:kc}{dst:Option Nat}{v:bL U}{v1:V}
theorem Jt{d:Option Nat}{k:Nat}:a8 (gE d v env) k=if d=some k then some v else a8 env k:=by
 cases d with
 |none=>rfl
 |some d=>
  grind[gE,a8,cY,iC]
theorem EV{o:Option (Nat×Bool)}{g:Bool}(h:lL gl env qX o=some g):o=none\/∃t b y,o=some (t,b)/\fi env t b=some y:=by
 cases o with
 |none=>simp
 |some x=>
  grind[adg]
theorem NI(aq:gT gl env G)(aJ:∀g,g∈nf->cB env G (some g)=false):∀{a:Nat} {gd:Option (Nat×Bool)},vE nf gl a gd=true->cB env G gd=false
 |0,gd,h=>by grind[vE]
 |a+1,none,h=>by grind[vE]
 |a+1,some (t,b),h=>by
  simp only[vE,nB,GK,c7]at h;rcases h with⟨⟨f,c⟩,e,h1,d⟩|h
  . grind[cY]
  . have:=NI aq aJ h;rw[aq.a8 t]at this;grind[cB]
theorem eL.bind(he:c3 key J' G env env1)(aq:gT gl env G)(aI:cz key J' br)(aJ:∀g,g∈nf->cB env G (some g)=false)(L:cb key J' v v1)(x:gd=none\/∃t b y,gd=some (t,b)/\fi env t b=some y)(A:ox gl gd dst=true)(f:lG nf dst=true):
 eL key (iH gl gd dst) nf (gE dst v env) J' (er env1 dst (cB env G gd) v1) br (λk=>if dst=some k then cB env G gd else G k):=by
 refine⟨λk w a=>?_,?_,aI,λg j=>?_⟩
 . rw[Jt]at a;rw[qh];split at a
   . grind
   . rename_i h;rw[al h,al h];exact he k w a
 . cases dst with
   |none=>
    have:iH gl gd none=gl:=by cases gd<;>rfl
    simp_all[gE,reduceCtorEq,b6]
   |some d=>
    simp only[ox,c7,gh,xg]at A;have J:∀k t b,a8 gl k=some (t,b)->k≠d/\t≠d:=by
     intro k t b a;have K:∀{l:eB},a8 l k=some (t,b)->(k,t,b)∈l:=by
      intro l;induction l with
      |nil=>grind[a8]
      |cons e r ih=>
       obtain⟨M,e⟩:=e;intro h;simp only[a8]at h;split at h
       . simp_all
       grind
     grind[iC]
    have H:∀t b,t≠d->fi (gE (some d) v env) t b=fi env t b:=by
     intro t b ht;unfold fi;rw[Jt,al (by grind)]
    have p:∀k t b,a8 gl k=some (t,b)->∃y,fi (gE (some d) v env) t b=some y/\(if some d=some k then cB env G gd else G k)=((if some d=some t then cB env G gd else G t)&&y):=by
     intro k t b a;obtain⟨y,E,F⟩:=aq.held k t b a;grind
    cases gd with
    |none=>
     refine⟨λk a=>?_,λk t b a=>p k t b a⟩;by_cases c:some d=some k
     . rw[ae c];rfl
     . rw[al c];exact aq.free k a
    |some g=>
     obtain⟨t0,b0⟩:=g;have B:t0≠d:=by
      grind[Bool.not_eq_true',iC]
     refine⟨λk a=>?_,λk t b a=>?_⟩
     . simp only[iH,a8]at a;split at a
       . grind
       . rw[al (by grind[iC])];exact aq.free k a
     . simp only[iH,a8]at a;split at a
       . rename_i q;cases a;have:=cY q;subst this;rcases x with h|⟨t,b,y,h,D⟩
         . grind
         . cases h;refine⟨y,by grind,?_⟩;rw[ae rfl,al (by simp;exactλe=>B e.symm)];simp[cB,D]
       . exact p k t b a
 . obtain⟨t,b⟩:=g;have h0:=aJ _ j;cases dst with
   |none=>simpa[gE]using h0
   |some d=>
    simp only[lG,gh,xg]at f;have o:t≠d:=iC (f _ j);simp only[cB]at h0⊢;rw[al (by simp;exactλe=>o e.symm)];have:fi (gE (some d) v env) t b=fi env t b:=by
     unfold fi;rw[Jt,al (by simp;exactλe=>o e.symm)]
    rw[this];exact h0
theorem Kp:cb N J Fx (.c (.t (.bool false))):= .c (.t _)
theorem D9(h:eL key gl nf env J env1 J1 G)(c:o.guard=none\/∃t b y,o.guard=some (t,b)/\fi env t b=some y)(aq:cB env G o.guard=false)(d:ox gl o.guard o.dst=true)(e:lG nf o.dst=true)(f:cb (key+16) J v v1):
 DStep xb P o key env1 J1 false v1 J1/\eL (key+16) (iH gl o.guard o.dst) nf (gE o.dst v env) J (er env1 o.dst false v1) J1 (λk=>if o.dst=some k then false else G k):=by
 have a:=D7 h.gZ c;rw[aq]at a;refine⟨.skip a rfl,?_⟩;have:=eL.bind (h.gZ.mono (dn.more (by simp))) h.aq (h.eT.mono (Nat.le_add_right _ 16)) h.aJ f c d e;grind
theorem QE{c:Bool}(h:eL key gl nf env J env1 J1 G)(g:cn gl o.guard env J key o.op=some (c,v,J'))(d:o.guard=none\/∃t b y,o.guard=some (t,b)/\fi env t b=some y)(j:ox gl o.guard o.dst=true)(l:lG nf o.dst=true):
 (cB env G o.guard=true->c=true->∃v1 br,DStep xb P o key env1 J1 true v1 br/\eL (key+16) (iH gl o.guard o.dst) nf (gE o.dst v env) J' (er env1 o.dst true v1) br (λk=>if o.dst=some k then true else G k))/\
 (cB env G o.guard=false->o.op.neutral=true->∃v1,DStep xb P o key env1 J1 false v1 J1/\eL (key+16) (iH gl o.guard o.dst) nf (gE o.dst v env) J (er env1 o.dst false v1) J1 (λk=>if o.dst=some k then false else G k)):=by
 obtain⟨⟨v1,f,n⟩,s,aJ⟩:=MA h.gZ h.aq h.eT g;have i:=D7 h.gZ d;refine⟨λaq q=>?_,λaq u=>?_⟩
 . obtain⟨p,br,h1,a,m⟩:=n aq q;rw[aq]at i;have r:o.op.drawn=true:=by
    generalize o.op=w at g;cases w<;>first|rfl|(simp[cn]at g)
   have hs:DStep xb P o _ _ J1 _ v1 _:= .op i r h1 (λ_=>a) (.inr rfl);have e:(if o.op.neutral then J1 else br)=br:=by
    grind[Ai]
   rw[e]at hs;refine⟨v1,br,hs,?_⟩;have:=eL.bind (h.gZ.mono s) h.aq m h.aJ f d j l;grind
 . rw[aJ u]at f;obtain⟨h1,a⟩:=D9 h d aq j l f;exact⟨v1,h1,a⟩
theorem NJ{x:bk U}(h:x.sj=true):x.pc.bU []=x.pc:=by
 cases x<;>simp[bk.sj]at h<;>try rfl
 rename_i f caps;cases caps with
 |nil=>rfl
 |cons=>grind
theorem Ju:∀{x:bL U},gL x=true->(fG x).bU []=fG x
 |.c x,h=>by grind[gL,fG,V.bU,NJ]
 |.agg cs,h=>by
  grind[gL,fG,V.bU,List.map_congr_left,NJ]
 |.a6 vs,h=>by
  simp[fG,V.bU];rw[go vs h]
where go:∀(vs:List (bL U)),gL.go vs=true->V.bU.go [] (fG.go vs)=fG.go vs
 |[],_=>rfl
 |v::vs,h=>by
  simp[gL.go]at h;simp[fG.go,V.bU.go,Ju h.1,go vs h.2]
def fU(P:Program)(fo:fT U):Prop:=∀f s,s∈fo f->s.f=f/\hG P f=true/\hY P s
theorem Jv{a:bh U}{x:bk U}{d:C}(h:cd N a x d)(hs:x.jE a=true):d=x.ik a:=by
 cases h<;>simp[bk.jE]at hs<;>try rfl
 . grind[bk.ik]
 grind[bk.ik]
theorem Dq{a:bh U}:∀{vs:List (bL U)} {i:Nat},(ij.go a vs)[i]?=(vs[i]?).map (ij a)
 |[],i=>by rfl
 |v::vs,0=>by rfl
 |v::vs,i+1=>by simp[ij.go,Dq]
theorem L3{a:bh U}:∀{vs:List (bL U)} {i:Nat} {v:bL U},kO.go a vs=true->vs[i]?=some v->kO a v=true
 |[],i,v,_,h=>by grind
 |x::vs,0,v,hs,h=>by grind[kO.go]
 |x::vs,i+1,v,hs,h=>by simp[kO.go]at hs;exact L3 hs.2 (by simpa using h)
theorem JN{a:bh U}:∀{xs:List (bk U)} {b:List C},a' (cd N a) xs b->(∀x,x∈xs->x.jE a=true)->b=xs.map (bk.ik a)
 |[],[],_,_=>rfl
 |x::xs,d::b,.cons h1 c,hs=>by
  rw[iJ,<-Jv h1 (hs x (by simp)),<-JN c (λx e=>hs x (by grind))]
theorem OB{a:bh U}{x:bL U}{d:V}(h:cb N a x d):kO a x=true->d=ij a x:=by
 induction h with
 |c h=>intro hs;rw[Jv h hs];rfl
 |agg h=>
  grind[kO,ij,JN]
 |a6 xs f ah h ih=>
  intro hs
  congr 1
  apply yM;intro i;rw[Dq];cases b:xs[i]? with
  |none=>grind
  |some x=>
   have g:=(dQ.1 b).1;have e:=fb (l:=f) (i:=i) (by omega);rw[e]
   congr 1
   exact ih i x _ b e (L3 hs b)
theorem QF{a:bh U}{x:cO U}{y:bV}(h:hX N a x y)(hs:gn a x=true):y=sO a x:=by
 cases h with
 |box h=>grind[gn,sO,JN]
 |arr t l=>rfl
 |set ks=>rfl
 |buf E s=>rfl
 |b' h=>grind[gn,sO,Jv]
 |cA=>grind[gn]
 |rows=>grind[gn]
theorem zG{a:bh U}:∀{l:bh U} {b:Nat},aY (kH a l) b=(a8 l b).map (sO a)
 |[],b=>rfl
 |(k,x)::r,b=>by
  simp[kH,aY,a8];cases h:Nat.beq k b with
  |true=>simp_all
  |false=>rw[al (iC h)];exact zG
theorem RB{k:Nat}:∀{v:V},v.cf (back [] k)=v.bK k
 |.c x=>by rfl
 |.agg cs=>by rfl
 |.a6 vs=>by simp[V.cf,V.bK];rw[go vs]
where go:∀(vs:List V),V.cf.go _ vs=V.bK.go k vs
 |[]=>rfl
 |v::vs=>by simp only[V.cf.go,V.bK.go];rw[RB,go vs]
theorem MI{k:Nat}:∀{s:ba},hr J1 [] (back [] k) s=mO J1 k s
 |[]=>rfl
 |(b,x)::r=>by
  simp[hr];rw[MI];rfl
theorem Fg:∀{ss:List fL} {j:Nat} {a:eN U} {i:Nat} {x:cO U},a8 (hN j ss a) i=some x->j<=i/\i<j+ss.length
 |[],j,a,i,x,h=>by grind[hN,a8]
 |s::ss,j,a,i,x,h=>by
  simp[hN]at h;split at h
  . simp[a8]at h;split at h
    . simp_all
    . have:=Fg h;grind
  . have:=Fg h;grind
theorem Ly{bs:a7}:∀{caps:a7},(∀c,c∈caps->pos bs c=some c)->qt bs caps=some caps
 |[],_=>rfl
 |c::cs,h=>by simp[qt,h c _,Ly (caps:=cs) (λx a=>h x (by grind))]
theorem wS{a:bh U}(j:∀b x,a8 a b=some x->b<N){x:bk U}(hs:x.jE a=true):cd N a x (x.ik a)/\dA ((x.ik a).bU (List.range N)) (x.ik a):=by
 have g:∀b,hasB a b=true->pos (List.range N) b=some b:=by
  grind[hasB,nd]
 cases x with
 |t c=>exact⟨.t c,dA.refl _⟩
 |ptr b o=>
  refine⟨.ptr b o,?_⟩;simp only[bk.ik,C.bU,g b hs];exact dA.refl _
 |cH b ty i o=>
  refine⟨.cH b ty i o,?_⟩;simp only[bk.ik,C.bU,g b hs];exact dA.refl _
 |dJ ty x o=>exact⟨.dJ ty x o,dA.refl _⟩
 |arr b=>
  simp only[bk.jE]at hs;split at hs
  . rename_i y d;split at hs
    . rename_i p e;simp only[bk.ik,d,e];refine⟨.arr b p.1 p.2 (j b y d) λz l q k=>?_,?_⟩
      . grind
      grind[C.bU,hasB,dA.refl]
    grind
  grind
 |dK b m len=>grind[bk.jE]
 |sub b m len=>grind[bk.jE]
 |pre b h=>grind[bk.jE]
 |mp b=>
  refine⟨.mp b,?_⟩;simp only[bk.ik,C.bU,g b hs];exact dA.refl _
 |ev b=>grind[bk.jE]
 |cL b=>
  simp only[bk.jE]at hs;split at hs
  . rename_i y d;split at hs
    . rename_i p e;simp only[bk.ik,d,e];refine⟨.cL b p.2 (j b y d) λz l q k=>?_,?_⟩
      . grind[cY]
      grind[C.bU,hasB,dA.refl]
    grind
  grind
 |aA=>exact⟨.aA,dA.refl _⟩
 |fa=>exact⟨.fa,dA.refl _⟩
 |e'=>exact⟨.e',dA.refl _⟩
 |fn f caps=>
  simp only[bk.jE]at hs;refine⟨.fn f caps,?_⟩;grind[Ly,bk.ik,C.bU,dA.refl]
 |dead=>grind[bk.jE]
theorem xr{a:bh U}(c:∀b x,a8 a b=some x->b<N):∀{xs:List (bk U)},(∀x,x∈xs->x.jE a=true)->a' (cd N a) xs (xs.map (bk.ik a))/\a' dA ((xs.map (bk.ik a)).map (C.bU (List.range N))) (xs.map (bk.ik a))
 |[],_=>⟨.nil,.nil⟩
 |x::xs,hs=>by
  obtain⟨h1,d⟩:=wS c (hs x (by simp));obtain⟨e,f⟩:=xr c (xs:=xs) (λx g=>hs x (by grind));exact⟨.cons h1 e,.cons d f⟩
theorem KR{a:bh U}:∀{vs:List (bL U)},(ij.go a vs).length=vs.length
 |[]=>rfl
 |v::vs=>by simp[ij.go,KR]
theorem AA{N:Nat}{a:bh U}(e:∀b x,a8 a b=some x->b<N):∀{x:bL U},kO a x=true->cb N a x (ij a x)/\gJ ((ij a x).bU (List.range N)) (ij a x)
 |.c x,hs=>by
  obtain⟨h1,f⟩:=wS e (x:=x) (by grind[kO]);exact⟨.c h1,.c f⟩
 |.agg cs,hs=>by
  simp[kO,gh]at hs;obtain⟨h1,f⟩:=xr e hs;exact⟨.agg h1,.agg f⟩
 |.a6 vs,hs=>by
  have:=go e vs hs;refine⟨.a6 _ _ (by rw[KR]) λi x d g j=>?_,.a6 _ _ (by rw[Dp]) λi x y g k=>?_⟩
  . grind[Dq]
  grind[EE,Dq]
where go {N:Nat} {a:bh U} (e:∀b x,a8 a b=some x->b<N):∀(vs:List _),kO.go a vs=true->∀x,x∈vs->cb N a x (ij a x)/\gJ ((ij a x).bU (List.range N)) (ij a x)
 |[],_=>by simp
 |v::vs,hs=>by
  simp[kO.go]at hs;have h1:=AA e hs.1;have f:=go e vs hs.2;grind
theorem Lz {fo:fT U}(ad:fU P fo){o:ca}{f:Nat}{args:List aU}(ai:o.op= .call f args)(h:eL key gl nf env J env1 J1 G)(z:o.guard=none)(Z:ox gl o.guard o.dst=true)(ab:lG nf o.dst=true)
 {k:bh U->bL U->Option R}{r:R}:∀{ss:List (cI U)},(∀s,s∈ss->s∈fo f)->AM (λe=>lU gl o.guard e args) env J key k ss=some r->
 ∃v v1 J' br,k J' v=some r/\DStep xb P o key env1 J1 true v1 br/\eL (key+16) (iH gl o.guard o.dst) nf (gE o.dst v env) J' (er env1 o.dst true v1) br (λi=>if o.dst=some i then true else G i)
 |[],_,g=>by grind[AM]
 |s::ss,af,g=>by
  simp only[AM]at g;split at g
  . exact Lz ad ai h z Z ab (λs hs=>af s (by grind)) g
  . rename_i aa A;unfold GQ at A;split at A
    . rename_i vs ag aj;simp only[c7]at ag;split at A
      . rename_i a K ap;rw[gh]at K;obtain⟨aC,aR,aD⟩:=ad f s (af s (by simp));obtain⟨p,F,b1,b2,b3⟩:=ux h.gZ h.aq aj;have aE:s.st=[]:=(by grind[isNil]);have Q:=jV ag.2;obtain⟨m,hres,H⟩:=xa.1 g;split at H
        . rename_i B;simp only[c7]at B;obtain⟨aO,f1,ah,am⟩:=vp (N:=key) (Jc:=([]:bh U)) (w5) (λj b aN aT=>by grind) ap
          obtain⟨O,aM,al,c2⟩:=am F b2.length (λi x d g t=>by
           obtain⟨M,h1,w⟩:=b2.get g
           rw[t]at h1;cases h1;omega)
          have aS:aQ.cells U.D s.ts aa=a:=aQ.fj A;have ar:s.args aa=aO:=by
           unfold cI.args;have:=f1 [];grind
          have W:s.iy aa=[]:=by unfold cI.iy;rw[aE];rfl
          have ae:s.st.length=0:=by grind
          have X:=aD aa m hres O [] (by
           rw[ar,W,ae]
           refine a'.lM (by rw[ah,aM,b2.length]) λi x d g t=>c2 i x d g t) (by rw[W];intro b x g;grind[a8])
          rw[aC,ae]at X;have aF:a' gJ F O:=by
           refine a'.lM aM.symm λi d M t ax=>?_;have aj:=al i d M t ax;obtain⟨x,g,I⟩:=(b2.flip (R':=λd x=>cb key J x d) λ_ _ h=>h).get t;have hs:=K x (fl g);have:=Az I hs;grind[Ju]
          have av:=ej.conv aF (J:=[]) (λb aN g=>by grind[aY]) X;have q:∀b x,a8 (s.rest m) b=some x->b<16/\gn (s.rest m) x=true:=by
           intro b x g;have aA:∀{l:bh U},a8 l b=some x->(b,x)∈l:=by
            intro l;induction l with
            |nil=>grind[a8]
            |cons e r ih=>
             obtain⟨aV,e⟩:=e;intro h;simp only[a8]at h;split at h
             . simp_all
             grind
           have:=B.2;unfold J4 at this;rw[gh]at this;have w:=this _ (aA g);simp only[c7]at w;exact⟨by have:=jV w.1;omega,w.2⟩
          have u:∀b x,a8 (s.rest m) b=some x->b<s.eJ.length:=by
           intro b x g;have:=(Fg g).2;omega
          have aw:ej P f F [] 0 (λaK aL ak=>aK=ij (s.rest m) (s.res m)/\aL=kH (s.rest m) (s.rest m)/\ak=s.eJ.length):=by
           refine ej.tidy av ?_
           rintro aW s1 aP ⟨rfl,aH,aI⟩
           have aB:=OB aH B.1;subst aB;refine⟨List.range s.eJ.length,_,_,List.nodup_range,rfl,?_,?_,rfl,rfl,by simp⟩
           . exact(AA u B.1).2
           . intro b x g;rw[zG,bB]at g;obtain⟨L,C,rfl⟩:=g;obtain⟨h1,y,w,an⟩:=aI b L C;have aG:=QF an (q b L C).2;subst aG;have ht:=An (bs:=List.range s.eJ.length) (i:=0) (j:=b) (r:=List.range s.eJ.length) (by simp[h1]) w;rw[gC]at ht;refine⟨_,ht,?_⟩;cases L with
             |box cs=>
              have n:=(q b _ C).2;simp only[gn,gh]at n;exact .box (xr u n).2
             |arr ty l=>exact .arr
             |rows sz l=>have n:=(q b _ C).2;simp[gn]at n
             |set ks=>exact .same
             |buf E s=>exact .same
             |b' E c=>have n:=(q b _ C).2;exact .b' (wS u (by simpa[gn]using n)).2
             |cA=>have n:=(q b _ C).2;simp[gn]at n
          have au:V.aF.V.dC (lt 0) F=true:=by
           refine uq λi d t=>?_;obtain⟨x,g,I⟩:=(b2.flip (R':=λd x=>cb key J x d) λ_ _ h=>h).get t;have hs:=K x (fl g);have:=Az I hs;subst this;exact(wR (N:=key) (J:=J) hs).2 _
          have aq:gb env1 o.guard=some true:=by rw[z];rfl
          have az:(kH (s.rest m) (s.rest m)).all (λx=>decide (x.1<16))=true:=by
           have ay:=B.2;unfold J4 at ay;have:∀{l:bh U},(l.all λp=>Nat.ble (p.1+1) 16&&gn (s.rest m) p.2)=true->(kH (s.rest m) l).all (λx=>decide (x.1<16))=true:=by
            intro l;induction l with
            |nil=>intro _;rfl
            |cons e r ih=>
             obtain⟨b,x⟩:=e;intro h;simp only[sa,c7]at h;simp only[kH,sa,c7,e4];exact⟨by have:=jV h.1.1;omega,ih h.2⟩
           grind
          have Y:cb s.eJ.length (s.rest m) (s.res m) (ij (s.rest m) (s.res m))/\cz s.eJ.length (s.rest m) (kH (s.rest m) (s.rest m)):=by
           refine⟨(AA u B.1).1,λb x g=>?_⟩;refine⟨u b x g,sO (s.rest m) x,by rw[zG,g];rfl,?_⟩;cases x with
           |box cs=>
            have n:=(q b _ g).2;simp only[gn,gh]at n;exact .box (xr u n).1
           |arr ty l=>exact .arr ty l
           |rows sz l=>have n:=(q b _ g).2;simp[gn]at n
           |set ks=>exact .set ks
           |buf E s=>exact .buf E s
           |b' E c=>have n:=(q b _ g).2;exact .b' (wS u (by simpa[gn]using n)).1
           |cA=>have n:=(q b _ g).2;simp[gn]at n
          have cq:s.eJ.length<=([]:a7).length+16:=(by simpa using Q);have S:=cz.Ga (key:=key) (bs:=[]) w5 (by simp) cq h.eT rfl Y.2;have T:=cb.cf (key:=key) (bs:=[]) (J:=J) w5 (by simp) cq h.eT Y.1;have ao:=D8 (key:=key) (bs:=[]) (Jr:=s.rest m) w5 (by simp) h.eT rfl;rw[RB]at T;rw[MI]at S;refine⟨_,(ij (s.rest m) (s.res m)).bK key,_,mO J1 key (kH (s.rest m) (s.rest m)),H,.own ai aq z b1 (b3 (by rw[z];rfl)) au Q az aw rfl,?_⟩;have:=eL.bind (gd:=o.guard) (dst:=o.dst) (nf:=nf) (h.gZ.mono ao) h.aq S h.aJ T (.inl z) Z ab;rw[z]at this⊢;exact this
        . cases H
      . cases A
    . cases A
theorem MJ:∀{args:List aU} {p:Prop} {a:List V},hP env1 args=some (p,a)->lo env1 args=a.flatMap V.fZ
 |[],p,a,h=>by simp[hP]at h;rw[h.2];rfl
 |x::xs,p,a,h=>by
  simp only[hP,bo,bB]at h;obtain⟨⟨c,v0⟩,h1,⟨d,e⟩,b,_,rfl⟩:=h;have ih:=MJ b;grind[lo]
theorem QG{c:bh U}{x:bk U}{d:C}(h:cd N c x d):∀b,b∈x.fZ->b∈d.fZ:=by
 intro b a;cases h<;>simp only[bk.fZ]at a⊢<;>first|exact a|(simp at a)
theorem OC{e:bh U}:∀{xs:List (bk U)} {c:List C},a' (cd N e) xs c->∀b,b∈xs.flatMap bk.fZ->b∈c.flatMap C.fZ
 |[],[],_,b,a=>a
 |x::xs,d::c,.cons h1 f,b,a=>by
  simp only[gQ,hb]at a⊢;rcases a with a|a
  . grind[QG]
  . exact .inr (OC f b a)
theorem aep{e:bh U}{x:bL U}{d:V}(h:cb N e x d):∀b,b∈x.fZ->b∈d.fZ:=by
 intro b a;cases h with
 |c h=>exact QG h b a
 |agg h=>exact OC h b a
 |a6=>grind[bL.fZ]
theorem OD{e:bh U}:∀{xs:List (bL U)} {c:List V},a' (cb N e) xs c->∀b,b∈xs.flatMap bL.fZ->b∈c.flatMap V.fZ
 |[],[],_,b,a=>a
 |x::xs,d::c,.cons h1 f,b,a=>by
  simp only[gQ,hb]at a⊢;rcases a with a|a
  . grind[aep]
  . exact .inr (OD f b a)
theorem OE{l:a7}{b:Nat}(h:mu l b=true):b∈l:=by
 simp_all[mu]
theorem Il {fo:fT U}(ad:fU P fo){o:ca}{f:Nat}{args:List aU}(ag:o.op= .call f args)(h:eL key gl nf env J env1 J1 G)(I:o.guard=none\/∃t b y,o.guard=some (t,b)/\fi env t b=some y)(Z:ox gl o.guard o.dst=true)(ab:lG nf o.dst=true)
 (K:cB env G o.guard=true){k:bh U->bL U->Option R}{r:R}:∀{ss:List (cI U)},(∀s,s∈ss->s∈fo f)->xh xb (λe=>lU gl o.guard e args) env J key k ss=some r->
 ∃v v1 J' br,k J' v=some r/\DStep xb P o key env1 J1 true v1 br/\eL (key+16) (iH gl o.guard o.dst) nf (gE o.dst v env) J' (er env1 o.dst true v1) br (λi=>if o.dst=some i then true else G i)
 |[],_,g=>by grind[xh]
 |s::ss,af,g=>by
  simp only[xh]at g;split at g
  . exact Il ad ag h I Z ab K (λs hs=>af s (by grind)) g
  . rename_i bs aa q;obtain⟨aK,a2,aL⟩:=ad f s (af s (by simp));obtain⟨m,hres,F⟩:=xa.1 g;unfold UX at q;split at q
    . grind
    . rename_i vs aP;split at q;split at q
      . grind
      . rename_i w;simp only[c7,gh]at w;obtain⟨_,av,H,aw,ax,ay⟩:=w;split at q
        . rename_i a b ao S;split at q
          . rename_i a4 aE;cases q;have b7:=zy av;have aC:=λb w=>jV (H b w).1;have ae:=cY aw;have a5:=jV ax;have cq:=jV ay;obtain⟨p,L,b1,b2,b3⟩:=ux h.gZ h.aq aP;have az:=AL b7 S;obtain⟨aX,f1,ah,ak⟩:=vp (N:=key) b7 az ao
            obtain⟨O,aM,a1,c2⟩:=ak L b2.length (λi x d g Y=>by
             obtain⟨a0,h1,Q⟩:=b2.get g
             grind)
            obtain⟨aW,t1,t2⟩:=Es b7 h.eT S;have a3:=aQ.fj aE;have ar:s.args aa=aX:=(by grind[cI.args]);have au:s.iy aa=hN 0 s.st b:=by grind[cI.iy]
            have W:=aL aa m hres O aW (by
             rw[ar,au,<-ae]
             exact a'.lM (by rw[ah,aM,b2.length]) λi x d g Y=>c2 i x d g Y) (by grind)
            rw[aK,<-ae]at W;have aN:a' gJ (L.map (V.bU bs)) O:=by
             grind[a'.lM]
            have aA:=ej.conv aN t1 W;split at F
            . rename_i c B T;simp only[c7]at B;split at F
              . rename_i aD;subst aD;have u:∀b x,a8 (s.rest m) b=some x->gn (s.rest m) x=true:=by
                 intro b x g;have a6:∀{l:bh U},a8 l b=some x->(b,x)∈l:=by
                  intro l;induction l with
                  |nil=>intro h;simp[a8]at h
                  |cons e r ih=>
                   obtain⟨a7,e⟩:=e;intro h;simp only[a8]at h;split at h
                   . simp_all
                   grind
                 have:=B.2;unfold Ko at this;grind
                have z:∀b x,a8 (s.rest m) b=some x->b<s.eJ.length:=by
                 intro b x g;have:=(Fg g).2;omega
                have aB:ej P f (L.map (V.bU bs)) (fF bs J1 0 bs) bs.length (λaT aV aj=>aT=ij (s.rest m) (s.res m)/\aV=kH (s.rest m) (s.rest m)/\aj=s.eJ.length):=by
                 refine ej.tidy aA ?_
                 rintro a9 s1 aZ ⟨rfl,aR,aS⟩
                 have aI:=OB aR B.1;subst aI;refine⟨List.range s.eJ.length,_,_,List.nodup_range,?_,?_,?_,rfl,rfl,by simp⟩
                 . unfold keeps;grind
                 . exact(AA z B.1).2
                 . intro b x g;rw[zG,bB]at g;obtain⟨M,C,rfl⟩:=g;obtain⟨h1,y,Q,D⟩:=aS b M C;have ai:=QF D (u b M C);subst ai;have ht:=An (bs:=List.range s.eJ.length) (i:=0) (j:=b) (r:=List.range s.eJ.length) (by simp[h1]) Q;rw[gC]at ht;refine⟨_,ht,?_⟩;cases M with
                   |box cs=>
                    have n:=u b _ C;simp only[gn,gh]at n;exact .box (xr z n).2
                   |arr ty l=>exact .arr
                   |rows sz l=>have n:=u b _ C;simp[gn]at n
                   |set ks=>exact .same
                   |buf E s=>exact .same
                   |b' E c=>have n:=u b _ C;exact .b' (wS z (by simpa[gn]using n)).2
                   |cA=>have n:=u b _ C;simp[gn]at n
                have ap:=D7 h.gZ I;have aH:(kH (s.rest m) (s.rest m)).all (λx=>decide (x.1<bs.length+16))=true:=by
                 have aF:=B.2;unfold Ko at aF;have:∀{l:bh U},(l.all λp=>Nat.ble (p.1+1) (bs.length+16)&&gn (s.rest m) p.2)=true->(kH (s.rest m) l).all (λx=>decide (x.1<bs.length+16))=true:=by
                  intro l;induction l with
                  |nil=>intro _;rfl
                  |cons e r ih=>
                   obtain⟨b,x⟩:=e;intro h;simp only[sa,c7]at h;simp only[kH,sa,c7,e4];exact⟨by have:=jV h.1.1;omega,ih h.2⟩
                 grind
                have X:cb s.eJ.length (s.rest m) (s.res m) (ij (s.rest m) (s.res m))/\cz s.eJ.length (s.rest m) (kH (s.rest m) (s.rest m)):=by
                 refine⟨(AA z B.1).1,λb x g=>?_⟩;refine⟨z b x g,sO (s.rest m) x,by rw[zG,g];rfl,?_⟩;cases x with
                 |box cs=>
                  have n:=u b _ g;simp only[gn,gh]at n;exact .box (xr z n).1
                 |arr ty l=>exact .arr ty l
                 |rows sz l=>have n:=u b _ g;simp[gn]at n
                 |set ks=>exact .set ks
                 |buf E s=>exact .buf E s
                 |b' E c=>have n:=u b _ g;exact .b' (wS z (by simpa[gn]using n)).1
                 |cA=>have n:=u b _ g;simp[gn]at n
                have am:=cz.Ga (key:=key) (bs:=bs) b7 aC cq h.eT T X.2;have an:=cb.cf (key:=key) (bs:=bs) (J:=J) b7 aC cq h.eT X.1;have al:=D8 (key:=key) (bs:=bs) (Jr:=s.rest m) b7 aC h.eT T;have aG:∀b,b∈bs->∃x,aY J1 b=some x:=by
                 intro b w;have D:=(H b w).2.2;unfold hasB at D;split at D
                 . rename_i x g;obtain⟨_,y,ai,_⟩:=h.eT b x g;grind
                 . cases D
                have aO:∀b,b∈bs->b∈lo env1 args++xb:=by
                 intro b w;rw[MJ b1];have A:=(H b w).2.1;rw[nB]at A;rcases A with A|A
                 . exact xc _ (OD b2 b (OE A))
                 . exact List.mem_append_right _ (OE A)
                refine⟨_,(ij (s.rest m) (s.res m)).cf (back bs key),_,_,F,.raw ag (by rw[ap,K]) rfl b1 (b3 K) b7 aC aG aO cq aH aB rfl,?_⟩;have:=eL.bind (gd:=o.guard) (dst:=o.dst) (nf:=nf) (h.gZ.mono al) h.aq am h.aJ an I Z ab;simp_all
              . cases F
            . cases F
          . cases q
        . cases q
theorem IE {fo:fT U}(T:fU P fo){o:ca}{f:Nat}{args:List aU}(w:o.op= .call f args\/(o.guard=none/\∃x q,o.op= .ic x args/\x.get env1=some (q,.c (.fn f []))/\q))(h:eL key gl nf env J env1 J1 G)(F:o.guard=none\/∃t b y,o.guard=some (t,b)/\fi env t b=some y)(Q:ox gl o.guard o.dst=true)(S:lG nf o.dst=true)
 {g:Bool}(aq:g=cB env G o.guard){k:bL U->Option R}{r:R}:∀{ss:List (cI U)},(∀s,s∈ss->s∈fo f)->xR (λe=>lU gl o.guard e args) env g k ss=some r->
 ∃v v1,k v=some r/\DStep xb P o key env1 J1 g v1 J1/\eL (key+16) (iH gl o.guard o.dst) nf (gE o.dst v env) J (er env1 o.dst g v1) J1 (λi=>if o.dst=some i then g else G i)
 |[],_,l=>by grind[xR]
 |s::ss,Z,l=>by
  simp only[xR]at l;split at l
  . exact IE T w h F Q S aq (λs hs=>Z s (by grind)) l
  . rename_i aa B;unfold GR at B;split at B
    . rename_i vs aD C;split at B
      . rename_i a I ai;rw[gh]at I;obtain⟨ao,ak,ap⟩:=T f s (Z s (by simp));obtain⟨p,E,b1,b2,b3⟩:=ux h.gZ h.aq C;have ar:s.st=[]:=(by grind[isNil]);obtain⟨u,hres,H⟩:=xa.1 l;split at H
        . rename_i ab;obtain⟨av,aw⟩:=wR (N:=key+16) (J:=J) ab;have L:=D7 h.gZ F;rw[<-aq]at L;have ag:eL (key+16) (iH gl o.guard o.dst) nf (gE o.dst (s.res u) env) J (er env1 o.dst g (fG (s.res u))) J1 (λi=>if o.dst=some i then g else G i):=by
           have:=eL.bind (dst:=o.dst) (h.gZ.mono (dn.more (by simp:key<=key+16))) h.aq (h.eT.mono (Nat.le_add_right key 16)) h.aJ av F Q S;grind
          refine⟨s.res u,fG (s.res u),H,?_,ag⟩;have X:g=true->p/\V.aF.V.dC (lt 0) E=true/\(fG (s.res u)).aF (lt 0)=true/\ej P f E [] 0 (λax _ _=>ax=fG (s.res u)):=?_
          . rcases w with w|⟨W,x,q,w,l,an⟩
            . exact .call w L b1 X
            . have A:g=true:=by rw[aq,W];rfl
              exact .ic w W A l an ak b1 (X A)
          intro A;rw[ae A]at hres;obtain⟨az,f1,ah,af⟩:=vp (N:=key) (Jc:=([]:bh U)) (w5) (λj b ay aC=>by grind) ai
          obtain⟨K,aM,ad,c2⟩:=af E b2.length (λi x d l m=>by
           obtain⟨z,h1,aA⟩:=b2.get l
           rw[m]at h1;cases h1;omega)
          have aB:aQ.cells U.D s.ts aa=a:=aQ.fj B;have aj:s.args aa=az:=by
           unfold cI.args;have:=f1 [];grind
          have M:s.iy aa=[]:=by unfold cI.iy;rw[ar];rfl
          have Y:s.st.length=0:=by grind
          have O:=ap aa u hres K [] (by
           rw[aj,M,Y]
           refine a'.lM (by rw[ah,aM,b2.length]) λi x d l m=>c2 i x d l m) (by rw[M];intro b x l;grind[a8])
          rw[ao,Y]at O;have au:a' gJ E K:=by
           refine a'.lM aM.symm λi d z m al=>?_;have C:=ad i d z m al;obtain⟨x,l,n⟩:=(b2.flip λ_ _ h=>h).get m;exact aiN (I x (fl l)) C n
          refine⟨b3 (by grind),?_,aw _,?_⟩
          . refine uq λi d m=>?_;obtain⟨x,l,n⟩:=(b2.flip (R':=λd x=>cb key J x d) λ_ _ h=>h).get m;exact aiO (I x (fl l)) n
          . refine ej.conv au (λb ay l=>by simp[aY]at l) (O.mono λaE br N' am=>?_);exact Az am.2.1 ab
        . cases H
      grind
    grind
where
 aiN {x:bL U} {d z:V} (hs:gL x=true) (C:gJ (d.bU []) z) (n:cb key J x d):gJ d z:=by
  have:=Az n hs;grind[Ju]
 aiO {x:bL U} {d:V} (hs:gL x=true) (n:cb key J x d):d.aF (lt 0)=true:=by
  have:=Az n hs;grind[wR]
theorem EH {fo:fT U}(T:fU P fo){f:Nat}{I:lh U}{cal:Env->List V->Prop}
 (Y:∀{env':bX U} {J2:bh U} {j:Env} {vs:List (bL U)},c3 key J2 G env' j->gT gl env' G->I env'=some vs->∃q,a' (cb key J2) vs q/\cal j q)
 (he:c3 key J G env env1)(aq:gT gl env G)(aI:cz key J J1){k:bX U->bh U->bL U->Option R}{r:R}:∀{ss:List (cI U)},(∀s,s∈ss->s∈fo f)->xS I env J key k ss=some r->
 ∃env' J2 j br q,Conv kk key env1 J1 key j br/\c3 key J2 G env' j/\gT gl env' G/\(∀t b,fi env' t b=fi env t b)/\cal j q/\hG P f=true/\
  RA P f q br key j (λab s1=>∃z v,k env' z v=some r/\c3 (key+16) z G env' j/\cz (key+16) z s1/\cb (key+16) z v ab)
 |[],_,m=>by grind[xS]
 |s::ss,Z,m=>by
  simp only[xS]at m;split at m
  . exact EH T Y he aq aI (λs hs=>Z s (by grind)) m
  . rename_i env' J2 bs h g;obtain⟨az,ao,aA⟩:=T f s (Z s (by simp));obtain⟨aJ,hres,y⟩:=xa.1 m;unfold UW at g;split at g
    . grind
    . split at g;split at g
      . cases g
      . rename_i aS aP W;split at g
        . cases g
        . rename_i vs aD;split at g
          . cases g
          . rename_i u;simp only[c7,gh]at u;obtain⟨aj,ak,al,am⟩:=u;split at g
            . rename_i a b ag L;split at g
              . rename_i aa ax;cases g;have b7:=zy aj;have aC:∀b,b∈bs->b<key:=λb u=>jV (ak b u);have F:=cY al;have ay:=jV am;obtain⟨j,br,av,E,A,X⟩:=zR (kk:=kk) (gl:=gl) W he aI;obtain⟨q,b2,ap⟩:=Y E (X aq) aD;have ar:=AL b7 L;obtain⟨aO,f1,ah,ae⟩:=vp (N:=key) b7 ar ag
                obtain⟨H,aM,aR,c2⟩:=ae q b2.length (λi x d m C=>by
                 obtain⟨ad,h1,af⟩:=b2.get m
                 grind)
                obtain⟨aK,t1,t2⟩:=Es b7 A L;have O:aQ.cells U.D s.ts h=a++b:=aQ.fj ax;have ai:s.args h=aO:=by unfold cI.args;rw[O,f1]
                have K:s.iy h=hN 0 s.st b:=by unfold cI.iy;rw[O,f1]
                have Q:=aA h aJ hres H aK (by
                 rw[ai,K,<-F]
                 exact a'.lM (by rw[ah,aM,b2.length]) λi x d m C=>c2 i x d m C) (by rw[K,<-F];exact t2)
                rw[az,<-F]at Q;have aB:a' gJ (q.map (V.bU bs)) H:=by
                 refine a'.lM (by simp[aM]) λi d ad C aT=>?_;grind
                have au:=ej.conv aB t1 Q;split at y
                . cases y
                . rename_i c M;split at y
                  . rename_i aw;subst aw;have cq:s.eJ.length<=bs.length+16:=ay;refine⟨env',J2,j,br,q,av,E,X aq,λt b=>SI W,ap,ao,?_⟩;intro aE nt φ S a w R an aL aF;refine(hW.raw (n:=lt key) (key:=key) b7 aC au ?_ (λb u=>by simp[lt];exact aC b u) aE nt φ S j a w R (λb h1 _=>Jp h1) an aL aF)
                    rintro ab s1 N' ⟨rfl,aG,aH⟩
                    refine⟨cq,_,_,y,E.mono (D8 b7 aC A M),cz.Ga b7 aC cq A M aH,cb.cf b7 aC cq A aG⟩
                  . cases y
              . cases g
            . cases g
where
 SJ {env:bX U} {b0:Nat} {ty:aN} {l:List (ty.den U.D)} {t:Nat} {b:Bool}:fi (sx b0 (⟨.slice ty,l⟩:Cell U.D) env) t b=fi env t b:=by
  unfold fi;rw[Fc];cases a8 env t with
  |none=>rfl
  |some v=>
   cases v with
   |c x=>
    cases x with
    |arr B=>grind[bL.cm,bk.cm]
    |cH B aV i o=>grind[bL.cm,bk.cm]
    |pre B h=>grind[bL.cm,bk.cm]
    |dK B aU h=>grind[bL.cm,bk.cm]
    |_=>rfl
   |agg cs=>rfl
   |a6 vs=>rfl
 SI {l:List (Nat×aN)} {env env':bX U} {J J':bh U} {t:Nat} {b:Bool} (h:lg l env J=some (env',J')):fi env' t b=fi env t b:=by
  induction l generalizing env J with
  |nil=>grind[lg]
  |cons p l ih=>
   simp only[lg]at h;split at h
   . rename_i e s h1;have af:fi e t b=fi env t b:=by
      unfold BK at h1;split at h1
      . split at h1
        . cases h1;exact SJ
        grind
      . split at h1
        . cases h1;exact SJ
        grind
      grind
     grind
   grind
theorem MK{fo:fT U}(w:fU P fo)(h:eL key gl nf env J env1 J1 G){k:eB->kc->bX U->bh U->Option R}{r:R}(a:sA fo (some xb) o key gl nf env J k=some r):
 ∃g v1 br O V env' J' W,DStep xb P o key env1 J1 g v1 br/\k O V env' J'=some r/\eL (key+16) O V env' J' (er env1 o.dst g v1) br W:=by
 unfold sA at a;split at a
 . grind
 . rename_i Q;simp only[c7]at Q;obtain⟨j,m⟩:=Q;split at a
   . rename_i bn;split at a
     . rename_i A z;have Y:=NI h.aq h.aJ bn;obtain⟨h1,i⟩:=D9 (P:=P) h (EV z) Y j m (Kp (U:=U) (N:=key+16) (J:=J));exact⟨_,_,_,_,_,_,_,_,h1,a,i⟩
     grind
   . split at a
     . rename_i f args p;split at a
       . split at a
         . rename_i g gd aq e;have u:o.guard=none\/∃t b y,o.guard=some (t,b)/\fi env t b=some y:=(by grind[EV]);have n:g=cB env G o.guard:=EF h.aq aq;split at a
           . obtain⟨v,v1,J',br,h1,i,l⟩:=Il (fo:=fo) w p h u j m (by grind) (λs hs=>hs) a;exact⟨_,_,_,_,_,_,_,_,i,h1,l⟩
           . have I:cB env G o.guard=false:=by grind
             have C:eL key gl (gd::nf) env J env1 J1 G:=⟨h.gZ,h.aq,h.eT,λA z=>by
              rcases eR.1 z with rfl|L
              . grind
              . exact h.aJ A L⟩
             have H:lG (gd::nf) o.dst=true:=by
              cases F:o.dst with
              |none=>rfl
              |some d=>
               simp_all[lG,sa,c7,ox]
             obtain⟨h1,i⟩:=D9 (P:=P) C u I j H (Kp (U:=U) (N:=key+16) (J:=J));exact⟨_,_,_,_,_,_,_,_,h1,a,i⟩
         grind
       unfold II at a;split at a
       . rename_i e;simp only at a;split at a
         case h_2=>
          obtain⟨v,v1,J',br,h1,i,l⟩:=Il (fo:=fo) w p h (.inl e) j m (by rw[e];rfl) (λs hs=>hs) a;grind
         rw[e]at a;obtain⟨v,v1,J',br,h1,i,l⟩:=Lz (fo:=fo) w p h e j m (k:=λJ v=>k (iH gl o.guard o.dst) nf (gE o.dst v env) J) (λs hs=>hs) (by rw[e];omega);exact⟨_,_,_,_,_,_,_,_,i,h1,l⟩
       . rename_i gd e;split at a
         . rename_i g aq;rw[e]at a aq;obtain⟨v,v1,h1,i,l⟩:=IE (fo:=fo) w (.inl p) h (by grind[EV]) j m (g:=g) (by rw[e];exact EF h.aq aq) (λs hs=>hs) (by rw[e];omega);rw[e]at l;exact⟨_,_,_,_,_,_,_,_,i,h1,l⟩
         grind
     . rename_i x args p;split at a
       . grind
       . rename_i aa f F e Z;obtain⟨q,v1,a1,a2,a3⟩:=cl h.gZ h.aq Z;have:=a2.F';subst this;obtain⟨v,v1,h1,i,l⟩:=IE (xb:=xb) (fo:=fo) w (.inr ⟨e,x,q,p,a1,a3 rfl⟩) h (.inl e) j m (g:=true) (by rw[e];rfl) (λs hs=>hs) (by rw[e];omega);rw[e]at l;exact⟨_,_,_,_,_,_,_,_,i,h1,l⟩
       grind
     . split at a
       . cases a
       . rename_i c v J' B;split at a
         . rename_i e;split at a
           . rename_i D;rw[e]at B;obtain⟨v1,br,h1,i⟩:=(QE (P:=P) (o:=o) h (by rw[e];exact B) (.inl e) j m).1 (by rw[e];rfl) D;rw[e]at i;exact⟨_,_,_,_,_,_,_,_,h1,a,i⟩
           . cases a
         . rename_i gd e;split at a
           . cases a
           . rename_i g aq;have u:o.guard=none\/∃t b y,o.guard=some (t,b)/\fi env t b=some y:=by rw[e];exact EV aq
             have n:g=cB env G o.guard:=by rw[e];exact EF h.aq aq
             have M:=QE (P:=P) (o:=o) (xb:=xb) h B u j m;split at a
             . rename_i T;split at a
               . rename_i E;cases S:g with
                 |true=>
                  rw[S]at E n;simp at E;obtain⟨v1,br,h1,i⟩:=M.1 n.symm E;have X:J'=J:=(MA h.gZ h.aq h.eT B).aiM T;rw[X]at i;exact⟨_,_,_,_,_,_,_,_,h1,a,i⟩
                 |false=>
                  rw[S]at n;obtain⟨v1,h1,i⟩:=M.2 n.symm T;exact⟨_,_,_,_,_,_,_,_,h1,a,i⟩
               . cases a
             . split at a
               . rename_i K;split at a
                 . rename_i D;obtain⟨v1,br,h1,i⟩:=M.1 (by rw[<-n];exact K) D;exact⟨_,_,_,_,_,_,_,_,h1,a,i⟩
                 . cases a
               . rename_i K;have I:cB env G o.guard=false:=by rw[<-n];simpa using K
                 have C:eL key gl (gd::nf) env J env1 J1 G:=⟨h.gZ,h.aq,h.eT,λA z=>by
                  rcases eR.1 z with rfl|L
                  . grind
                  . exact h.aJ A L⟩
                 have H:lG (gd::nf) o.dst=true:=by
                  cases F:o.dst with
                  |none=>rfl
                  |some d=>
                   rw[F]at m j;rw[e]at j;simp only[lG,sa,c7];simp only[lG]at m;simp only[ox,c7]at j;grind
                 obtain⟨h1,i⟩:=D9 (P:=P) C u I j H (Kp (U:=U) (N:=key+16) (J:=J));exact⟨_,_,_,_,_,_,_,_,h1,a,i⟩
theorem LA{fo:fT U}(L:fU P fo)(h:eL key gl nf env J env1 J1 G){k:eB->kc->bX U->bh U->Option R}{r:R}(d:sA fo none o key gl nf env J k=some r)
 (bD:∀D T env' J' n br ad,k D T env' J'=some r->eL (key+16) D T env' J' n br ad->K n br):
 ∃gz ae,Conv kk key env1 J1 key gz ae/\x6 P o key gz ae K:=by
 by_cases i:sA fo (some []) o key gl nf env J k=some r
 . obtain⟨g,v1,br,D,T,env',J',ad,h1,al,am⟩:=MK L h i;exact⟨env1,J1,Conv.refl,.inl (h1.hn (bD _ _ _ _ _ _ _ al am))⟩
 . unfold sA at d i;split at d
   . grind
   . rename_i I;rw[I]at i;simp only[c7]at I;obtain⟨z,ag⟩:=I;split at d
     . grind
     . rename_i bn;rw[bn]at i;simp only at i;split at d
       . rename_i f args j;rw[j]at i;simp only at i;split at d
         . rename_i O;rw[O]at i;exact absurd d i
         rename_i O;rw[O]at i;unfold II at d i;split at d
         . rename_i u;rw[u]at d;obtain⟨env',J2,n,br,l,B,ai,C,aj,⟨p,M,N⟩,af,E⟩:=EH (kk:=kk) (P:=P) L (f:=f) (cal:=λe vs=>∃p,hP e args=some (p,vs)/\p)
            (λhe aq y=>by
             obtain⟨p,l,b1,b2,b3⟩:=ux he aq y
             exact⟨l,b2,p,b1,b3 rfl⟩) h.gZ h.aq h.eT (λs hs=>hs) d
           refine⟨n,br,B,.inr ⟨by rw[u];rfl,f,l,.inl ⟨args,p,j,M,N⟩,?_⟩⟩;intro aE nt φ S a w dm H aa Q;refine(E aE nt φ S a w dm H aa Q).mono ?_
           rintro e w' ⟨v,Z,ab,bT,s1,rfl,⟨ah,v3,k1,k2,k3,k4⟩,W,X,Y⟩
           refine⟨v,Z,ab,bT,s1,rfl,?_,W,X,Y⟩
           have F:=eL.bind (gd:=none) (dst:=o.dst) (nf:=nf) k2 C k3 (λg aq=>by
            obtain⟨t,b⟩:=g;have h0:=h.aJ _ aq;simp only[cB]at h0⊢
            grind) k4 (.inl rfl) (by rw[u]at z;exact z) ag
           exact bD _ _ _ _ _ _ _ k1 F
         grind
       . rename_i x args j;split at d
         . rename_i f caps ax u ay;obtain⟨env',J2,n,br,l,B,ai,C,aj,⟨q,p,m,A,au,av,M,N,ar⟩,af,E⟩:=EH (kk:=kk) (P:=P) L (f:=f) (cal:=λe vs=>∃q p m A,x.get e=some (q,.c (.fn f m))/\q/\hP e args=some (p,A)/\p/\vs=A++m.map λb=>V.c (.ptr b 0))
            (λhe aq y=>by
             split at y
             . rename_i aw m az aM ak;split at y
               . rename_i an;have:=cY an;subst this;cases y;obtain⟨q,v1,a1,a2,a3⟩:=cl he aq aM;have:=a2.F';subst this;obtain⟨p,l,b1,b2,b3⟩:=ux he aq ak;refine⟨l++m.map λb=>V.c (.ptr b 0),b2.append ?_,q,p,m,l,a1,a3 rfl,b1,b3 rfl,rfl⟩;exact a'.map_map (a'.self (λb=>.c (.ptr b 0)) _)
               . cases y
             grind) h.gZ h.aq h.eT (λs hs=>hs) d
           refine⟨n,br,B,.inr ⟨by rw[u];rfl,f,l,.inr ⟨x,args,q,p,m,A,j,au,av,M,N,af,ar⟩,?_⟩⟩;intro aE nt φ S a w dm H aa Q;refine(E aE nt φ S a w dm H aa Q).mono ?_
           rintro e w' ⟨v,Z,ab,bT,s1,rfl,⟨ah,v3,k1,k2,k3,k4⟩,W,X,Y⟩
           refine⟨v,Z,ab,bT,s1,rfl,?_,W,X,Y⟩
           have F:=eL.bind (gd:=none) (dst:=o.dst) (nf:=nf) k2 C k3 (λg aq=>by
            obtain⟨t,b⟩:=g;have h0:=h.aJ _ aq;simp only[cB]at h0⊢
            grind) k4 (.inl rfl) (by rw[u]at z;exact z) ag
           exact bD _ _ _ _ _ _ _ k1 F
         . contradiction
         . cases d
       . rename_i op ao ap;exfalso;refine i ?_;split
         . rename_i f args j;exact absurd j (ao f args)
         . rename_i x args j;exact absurd j (ap x args)
         . exact d
theorem acj{l:List (Nat×aN)}{p:bX U×bh U}(h:BL l env J=some p):∃l,lg l env J=some p:=by
 grind[BL]
theorem abM{p:bX U×bh U}(h:GP gl o env J=some p):∃l,lg l env J=some p:=by
 grind[GP,acj]
theorem aak{fo:fT U}(e:fU P fo)(h:eL key gl nf env J env1 J1 G){k:eB->kc->bX U->bh U->Option R}{r:R}(a:EU fo none o key gl nf env J k=some r)
 (bD:∀d f env' J' c br i,k d f env' J'=some r->eL (key+16) d f env' J' c br i->K c br):
 ∃gz b,Conv kk key env1 J1 key gz b/\x6 P o key gz b K:=by
 simp[EU]at a;split at a
 . exact LA e h a bD
 . rename_i p t;obtain⟨l,ah⟩:=abM t;obtain⟨aM,s1,j,m,n,q⟩:=zR ah h.gZ h.eT
   obtain⟨s,u,d1,d2⟩:=LA e ⟨m,q h.aq,n,λg aq=>by
    have h0:=h.aJ _ aq
    grind[cB,EH.SI]⟩ a bD
   exact⟨s,u,j.trans d1,d2⟩
end
end
section
open Go
variable {xb:a7}
variable {U:cJ}{R:Type}
def j'(env:bX U):aU->Option a7
 |.const (.c (.t _))=>some []
 |.const (.c .aA)=>some []
 |.const (.agg _)=>some []
 |.const _=>none
 |.tmp k=>match a8 env k with
  |some (.c (.ptr b _))=>some [b]
  |some (.c (.cH b _ _ _))=>some [b]
  |some (.c (.arr b))=>some [b]
  |some (.c (.sub b _ _))=>some [b]
  |some (.c (.pre b _))=>some [b]
  |some (.c (.dK b _ _))=>some [b]
  |some (.c (.mp b))=>some [b]
  |some (.c (.ev b))=>some [b]
  |some (.c (.cL b))=>some [b]
  |some (.c .dead)=>none
  |some _=>some []
  |none=>none
def AO:bk U->Bool
 |.dead=>true
 |_=>false
def AP:bL U->Option a7
 |.c x=>match AO x with
  |true=>none
  |false=>some x.fZ
 |.agg cs=>match cs.any AO with
  |true=>none
  |false=>some (cs.flatMap bk.fZ)
 |.a6 _=>some []
def sv(env:bX U):List aU->Option a7
 |[]=>some []
 |.const v::r=>match sv env r with
  |some l=>some (v.fZ++l)
  |none=>none
 |.tmp k::r=>match a8 env k with
  |some v=>match AP v,sv env r with
   |some a,some l=>some (a++l)
   |_,_=>none
  |none=>none
def I2(xb:a7)(o:cN)(env:bX U)(key:Nat):Option a7:=
 match o with
 |.alloc _|.allocA _|.box _|.bslice .. |.mslice .. |.mkset=>some [key]
 |.allocS .. =>some [key,key+1]
 |.lkset x _=>j' env x
 |.upset x _=>j' env x
 |.appendB _ _ x _=>match j' env x with
  |some a=>some (key::a)
  |none=>none
 |.ustr _ x _=>j' env x
 |.call _ args=>match sv env args with
  |some l=>some ((List.range 16).map (key+·)++(l++xb))
  |none=>none
 |.load _ _ x=>j' env x
 |.b2s x=>j' env x
 |.store _ x _=>j' env x
 |.append _ _ x y=>match j' env x,j' env y with
  |some a,some b=>some (key::(a++b))
  |_,_=>none
 |_=>some []
def ka(xb:a7)(o:cN)(env:bX U)(key b:Nat):Option Bool:=
 match o with
 |.alloc _|.allocA _|.box _|.bslice .. |.mslice .. |.mkset=>some (Nat.beq b key)
 |.allocS .. =>some (Nat.beq b key||Nat.beq b (key+1))
 |.upset x _=>match j' env x with
  |some l=>some (mu l b)
  |none=>none
 |.appendB _ _ x _=>match j' env x with
  |some l=>some (Nat.beq b key||mu l b)
  |none=>none
 |.ustr _ x _=>match j' env x with
  |some l=>some (mu l b)
  |none=>none
 |.store _ x _=>match j' env x with
  |some l=>some (mu l b)
  |none=>none
 |.append _ _ x _=>match j' env x with
  |some l=>some (Nat.beq b key||mu l b)
  |none=>none
 |.call _ args=>match sv env args with
  |some l=>some ((Nat.ble key b&&Nat.ble (b+1) (key+16))||mu (l++xb) b)
  |none=>none
 |_=>some false
def BI(xb:a7)(bb:List ca)(env:bX U)(N:Nat):List (Nat×Nat)->Bool
 |[]=>true
 |(i,j)::r=>(match qY bb i,qY bb j with
  |some x,some y=>match I2 xb y.op env (N+16*j)with
   |some l=>l.all λb=>match ka xb x.op env (N+16*i) b with
    |some w=>!w
    |none=>false
   |none=>false
  |_,_=>true)&&BI xb bb env N r
variable{o:cN}{gl:eB}{gf:List (Nat×Nat)}{Q:Exit->Env->ba->Nat->Prop}
section
variable {P:Program}{kk N key:Nat}{J:bh U}{J1:ba}{env:bX U}{env1:Env}{G:Nat->Bool}
theorem r3(he:c3 N J G env env1){x:aU}{l:a7}(h:j' env x=some l):eh env1 x=l:=by
 unfold j' at h;split at h
 . cases h;rfl
 . cases h;rfl
 . cases h;rfl
 . grind
 . rename_i k;split at h
   all_goals (try (cases h;done))
   . rename_i b o d;obtain⟨v1,h1,a⟩:=he k _ d;have:=a.hS;grind[eh,aU.get]
   . rename_i b t i o d;obtain⟨v1,h1,a⟩:=he k _ d;have:=a.i';grind[eh,aU.get]
   . rename_i b d;obtain⟨v1,h1,a⟩:=he k _ d;obtain⟨sz,n,rfl,_⟩:=a.hl;grind[eh,aU.get]
   . rename_i b f len d;obtain⟨v1,h1,a⟩:=he k _ d;have:v1= .c (.fI b 1 f len):=by cases a with|c h=>cases h;rfl
     grind[eh,aU.get]
   . rename_i b e d;obtain⟨v1,h1,a⟩:=he k _ d;have:∃sz,v1= .c (.arr b sz 0 e):=by cases a with|c h=>cases h;simp
     grind[eh,aU.get]
   . rename_i b f e d;obtain⟨v1,h1,a⟩:=he k _ d;have:∃sz,v1= .c (.fI b sz f e):=by cases a with|c h=>cases h;simp
     grind[eh,aU.get]
   . rename_i b d;obtain⟨v1,h1,a⟩:=he k _ d;have:=a.Gl;grind[eh,aU.get]
   . rename_i b d;obtain⟨v1,h1,a⟩:=he k _ d;have:=a.U7;grind[eh,aU.get]
   . rename_i b d;obtain⟨v1,h1,a⟩:=he k _ d;obtain⟨n,rfl,_⟩:=a.B2;grind[eh,aU.get]
   . rename_i v cZ j m fu u g q r s p d;cases h;obtain⟨v1,h1,a⟩:=he k _ d;unfold eh;simp only[aU.get,h1,mB];cases a with
     |c a=>
      cases a<;>grind
     |agg a=>rfl
     |a6=>rfl
theorem wT{l:a7}{b:Nat}:mu l b=l.contains b:=by
 unfold mu;rw[yP];simp
theorem ML{x:bk U}{d:C}(h:cd N J x d)(a:AO x=false):d.fZ=x.fZ:=by
 cases h<;>first|rfl|(simp[AO]at a)
theorem LB:∀{xs:List (bk U)} {a:List C},a' (cd N J) xs a->xs.any AO=false->a.flatMap C.fZ=xs.flatMap bk.fZ
 |[],[],_,_=>rfl
 |x::xs,d::a,.cons h1 c,b=>by
  simp only[List.any_cons,yU]at b;simp;rw[ML h1 b.1,LB c b.2]
theorem aal{v:bL U}{v1:V}{l:a7}(h:cb N J v v1)(ah:AP v=some l):v1.fZ=l:=by
 cases h with
 |c h=>
  simp[AP]at ah;split at ah
  . grind
  . rename_i a;cases ah;exact ML h a
 |agg h=>
  simp[AP]at ah;split at ah
  . grind
  . rename_i a;cases ah;exact LB h a
 |a6=>simp only[AP,dF]at ah;rw[<-ah];rfl
theorem DJ(he:c3 N J G env env1):∀{args:List aU} {l:a7},sv env args=some l->lo env1 args=l
 |[],l,h=>by simp[sv]at h;subst h;rfl
 |.const v::r,l,h=>by
  simp[sv]at h;split at h
  . rename_i d b;cases h;have ih:=DJ he b;simp[lo]at ih⊢;rw[ih];rfl
  grind
 |.tmp k::r,l,h=>by
  simp only[sv]at h;split at h
  . rename_i v c;split at h
    . rename_i a d f b;have ih:=DJ he b;obtain⟨v1,h1,e⟩:=he k v c;grind[lo,aU.get,aal]
    grind
  grind
theorem abN(he:c3 N J G env env1){l:a7}(h:I2 xb o env key=some l):eo xb o env1 key=l:=by
 cases o<;>simp[I2,eo]at h⊢<;>first|exact h|exact r3 he h|skip
 . grind[r3]
 . grind[r3]
 grind[DJ]
theorem beq_eq(a b:Nat):(a==b)=Nat.beq a b:=by
 grind[cY,iC]
theorem abO(he:c3 N J G env env1){b:Nat}{w:Bool}(h:ka xb o env key b=some w):cF xb o env1 key b=w:=by
 cases o with
 |alloc cs=>simp[ka]at h;rw[<-h];exact beq_eq _ _
 |allocA cs=>simp[ka]at h;rw[<-h];exact beq_eq _ _
 |box x=>simp[ka]at h;rw[<-h];simp only[cF];exact beq_eq _ _
 |bslice a c d e=>simp only[ka,dF]at h;rw[<-h];simp only[cF];exact beq_eq _ _
 |mslice a c d e=>simp only[ka,dF]at h;rw[<-h];simp only[cF];exact beq_eq _ _
 |store n x y=>
  simp only[ka]at h;split at h
  . rename_i l ah;cases h;simp only[cF];rw[r3 he ah,wT]
  . cases h
 |append sz by' x y=>
  simp only[ka]at h;split at h
  . rename_i l ah;cases h;simp only[cF];rw[r3 he ah,wT,beq_eq]
  . cases h
 |mkset=>grind[ka,cF,beq_eq]
 |allocS e e8=>grind[ka,cF,beq_eq]
 |upset x y=>
  simp only[ka]at h;split at h
  . rename_i l ah;cases h;simp only[cF];rw[r3 he ah,wT]
  . cases h
 |ustr e x y=>
  grind[ka,cF,r3,wT]
 |appendB e by' x y=>
  grind[ka,cF,r3,wT,beq_eq]
 |call f args=>
  simp only[ka]at h;split at h
  . rename_i l ah;cases h;simp only[cF];rw[DJ he ah,wT]
    congr 1
    rw[yP];simp only[c7,e4,Nat.ble_eq];rfl
  grind
 |_=>simp only[ka,dF]at h;rw[<-h];rfl
theorem Im(he:c3 N J G env env1){bb:List ca}{a:Nat}:∀{gf:List (Nat×Nat)},BI xb bb env a gf=true->kQ xb bb env1 a gf=true
 |[],_=>rfl
 |(i,j)::r,h=>by
  simp[BI]at h;simp[kQ];refine⟨?_,Im he h.2⟩;grind[Ff,abN,abO]
theorem HP{fo:fT U}(e:fU P fo){k:eB->bX U->bh U->Option R}{r:R}:∀{l:List ca} {key:Nat} {gl:eB} {nf:kc} {env:bX U} {J:bh U} {env1:Env} {J1:ba} {G:Nat->Bool} {K:Env->ba->Prop},
 eL key gl nf env J env1 J1 G->rN fo none l key gl nf env J k=some r->
 (∀b f env' J' a br d,k b env' J'=some r->eL (key+16*l.length) b f env' J' a br d->K a br)->sI P kk l key env1 J1 K
 |[],key,gl,nf,env,J,env1,J1,G,K,h,c,bD=>bD _ _ _ _ _ _ _ c h
 |o::l,key,gl,nf,env,J,env1,J1,G,K,h,c,bD=>by
  refine aak e h c λb f env' J' a br d h1 j=>?_;refine HP e j h1 λq n i p sR t g m s=>bD _ n i p _ _ g m ?_;grind
theorem IS{fo:fT U}(e:fU P fo){k:eB->bX U->bh U->Option R}{r:R}:∀{l:List ca} {key:Nat} {gl:eB} {nf:kc} {env:bX U} {J:bh U} {env1:Env} {J1:ba} {G:Nat->Bool} {K:Env->ba->Prop},
 eL key gl nf env J env1 J1 G->rN fo (some xb) l key gl nf env J k=some r->
 (∀b f env' J' d br c,k b env' J'=some r->eL (key+16*l.length) b f env' J' d br c->K d br)->x8 xb P l key env1 J1 K
 |[],key,gl,nf,env,J,env1,J1,G,K,h,a,bD=>bD _ _ _ _ _ _ _ a h
 |o::l,key,gl,nf,env,J,env1,J1,G,K,h,a,bD=>by
  simp[rN]at a;obtain⟨g,v1,br,b,f,env',J',c,h1,m,n⟩:=MK e h (by simpa[EU]using a);refine⟨g,v1,br,h1,IS e n m λt q j s sR u i p bf=>bD _ q j s _ _ i p ?_⟩;grind
theorem Jw:∀{env:bX U} {k:Nat} {v:bL U},a8 (clean gl env) k=some v->a8 env k=some v/\CA gl k=false
 |[],k,v,h=>by grind[clean,a8]
 |(i,w)::r,k,v,h=>by
  simp[clean]at h;split at h
  . obtain⟨h1,b⟩:=Jw h;grind[a8,cY]
  . simp[a8]at h⊢;cases a:Nat.beq i k with
    |true=>simp_all
    |false=>rw[a]at h;exact Jw h
theorem ack{k:Nat}(h:CA gl k=false):a8 gl k=none:=by
 induction gl with
 |nil=>rfl
 |cons e r ih=>
  grind[CA,a8]
theorem eL.clean{nf:kc}(h:eL key gl nf env J env1 J1 G):c3 key J (λ_=>true) (AN gl env) env1:=by
 intro k v a;have:a8 env k=some v/\G k=true:=by
  unfold AN at a;split at a
  . exact⟨a,h.aq.free k rfl⟩
  . obtain⟨h1,c⟩:=Jw a;exact⟨h1,h.aq.free k (ack c)⟩
 obtain⟨v1,h1,c⟩:=h.gZ k v this.1;grind
theorem eL.begin(he:c3 key J (λ_=>true) env env1)(aI:cz key J J1):eL key [] [] env J env1 J1 (λ_=>true):=
 ⟨he,⟨λ_ _=>rfl,λk t b h=>by grind[a8]⟩,aI,λ_ h=>by grind⟩
end
structure jK where
 e:Exit
 bK:Shape
 own:List (Pos×aN)
 us:List aN
def eC(U:cJ):List jK->Type
 |[]=>Empty
 |[a]=>aQ U.D a.us
 |a::b::r=>aQ U.D a.us ⊕ eC U (b::r)
structure hi (U:cJ) where
 bK:Shape
 own:List (Pos×aN)
 ts:List aN
 outs:List jK
 F:aQ U.D ts->Option (eC U outs)
def Cv:Exit->Exit->Bool
 |.normal,.normal=>true
 |.ret,.ret=>true
 |.exit i,.exit j=>Nat.beq i j
 |_,_=>false
theorem NK{a b:Exit}(h:Cv a b=true):a=b:=by
 cases a<;>cases b<;>simp[Cv]at h<;>try rfl
 grind
abbrev vj(U:cJ)(R:Type):=Exit->bX U->bh U->Nat->Option R
def h':(outs:List jK)->eC U outs->Exit×bX U×bh U×Nat
 |[],o=>Empty.elim o
 |[a],h=>(a.e,(hx U a.bK (aQ.cells U.D a.us h)).1,(hx U a.bK (aQ.cells U.D a.us h)).2,a.bK.st.length)
 |a::b::r,.inl h=>(a.e,(hx U a.bK (aQ.cells U.D a.us h)).1,(hx U a.bK (aQ.cells U.D a.us h)).2,a.bK.st.length)
 |a::b::r,.inr o=>h' (b::r) o
def ajq{α c:Type}(o:α ⊕ c)(f:α->Option R)(g:c->Option R):Option R:=
 match o with
 |.inl a=>f a
 |.inr b=>g b
def ajO(k:vj U R)(a:jK):(r:List jK)->(eC U r->Option R)->eC U (a::r)->Option R
 |[],_=>λh=>k a.e (hx U a.bK (aQ.cells U.D a.us h)).1 (hx U a.bK (aQ.cells U.D a.us h)).2 a.bK.st.length
 |_::_,f=>λo=>ajq o (λh=>k a.e (hx U a.bK (aQ.cells U.D a.us h)).1 (hx U a.bK (aQ.cells U.D a.us h)).2 a.bK.st.length) f
def IV(k:vj U R):(outs:List jK)->eC U outs->Option R
 |[]=>λo=>Empty.elim o
 |a::r=>ajO k a r (IV k r)
theorem QH(k:vj U R):∀{outs:List jK} {o:eC U outs},IV k outs o=k (h' outs o).1 (h' outs o).2.1 (h' outs o).2.2.1 (h' outs o).2.2.2
 |[],o=>Empty.elim o
 |[a],h=>rfl
 |a::b::r,.inl h=>rfl
 |a::b::r,.inr o=>QH k (outs:=b::r)
def sb(kk:Nat):(outs:List jK)->Exit->bX U->bh U->Nat->Option (eC U outs)
 |[],_,_,_,_=>none
 |[a],e,env,J,N=>match Cv e a.e with
  |true=>u6 kk a.own a.bK a.us env J N
  |false=>none
 |a::b::r,e,env,J,N=>match Cv e a.e with
  |true=>match u6 (U:=U) kk a.own a.bK a.us env J N with
   |some h=>some (.inl h)
   |none=>none
  |false=>match sb kk (b::r) e env J N with
   |some o=>some (.inr o)
   |none=>none
abbrev lk(U:cJ):=Nat->Option (hi U)
def gx:dw->Nat
 |.seq a b=>gx a+gx b
 |.cond _ a b=>gx a+gx b
 |.block _ b=>gx b
 |.loop b=>gx b+1
 |_=>0
def aiA(x:Bool)(a b:Option R):Option R:=if x then a else b
def bk.inner:kF->Bool
 |.ptr .. |.arr _=>true
 |_=>false
def afi:fL->Bool
 |.box cs=>cs.any bk.inner
 |_=>false
def SM(fo:fT U)(J:bh U)(ops:List ca):a7:=
 match ops.any λo=>match o.op with
  |.call f _=>(fo f).any λs=>s.st.any afi
  |_=>false with
 |true=>J.map Prod.fst
 |false=>[]
def Jx(ops:List ca)(gf:List (Nat×Nat)):Option (List ca×ca):=
 match ET ops.length gf,ops.getLast? with
 |true,some o=>match o.op,o.guard with
  |.call ..,none=>some (ops.dropLast,o)
  |.ic ..,none=>some (ops.dropLast,o)
  |_,_=>none
 |_,_=>none
theorem aam{ops:List ca}{init:List ca}{last:ca}(h:Jx ops gf=some (init,last)):ops=init++[last]/\ET (init.length+1) gf=true:=by
 unfold Jx at h;split at h
 . grind[List.getLast?_eq_some_iff]
 grind
def lT(fo:fT U)(d:lk U)(kk:Nat):dw->Nat->bX U->bh U->Nat->vj U R->Option R
 |.skip,_,env,J,N,k=>k .normal env J N
 |.ret,_,env,J,N,k=>k .ret env J N
 |.exit i,_,env,J,N,k=>k (.exit i) env J N
 |.region ops,_,env,J,N,k=>rN fo none ops N [] [] env J λgl env J=>Fw (AN gl env) J (N+16*ops.length) λenv J N=>k .normal env J N
 |.oW ops gf,_,env,J,N,k=>match Jx ops gf with
  |some (init,last)=>rN fo (some []) init N [] [] env J λgl env J=>match BI [] init env N gf with
   |true=>rN fo none [last] (N+16*init.length) gl [] env J λgl env J=>k .normal (AN gl env) J (N+16*init.length+16)
   |false=>none
  |none=>rN fo (some (SM fo J ops)) ops N [] [] env J λgl env' J'=>match BI (SM fo J ops) ops env' N gf with
   |true=>Fw (AN gl env') J' (N+16*ops.length) λenv J N=>k .normal env J N
   |false=>none
 |.seq a b,pos,env,J,N,k=>lT fo d kk a pos env J N λe env J N=>match e with
  |.normal=>lT fo d kk b (pos+gx a) env J N k
  |e=>k e env J N
 |.cond c a b,pos,env,J,N,k=>match c' [] none env c with
  |some (.c (.t ⟨.bool,x⟩))=>aiA x (lT fo d kk a pos env J N k) (lT fo d kk b (pos+gx a) env J N k)
  |_=>none
 |.block id b,pos,env,J,N,k=>lT fo d kk b pos env J N λe env J N=>match e with
  |.exit i=>match Nat.beq i id with
   |true=>k .normal env J N
   |false=>k (.exit i) env J N
  |e=>k e env J N
 |.loop b,pos,env,J,N,k=>match d pos with
  |none=>none
  |some L=>match u6 kk L.own L.bK L.ts env J N with
   |none=>none
   |some h=>(L.F h)>>=λo=>IV k L.outs o
section
variable {P:Program}{nt kk N:Nat}{env:bX U}{J:bh U}{env1:Env}{J1:ba}
def u'(kk:Nat)(Q:Exit->Env->ba->Nat->Prop):Prop:=∀e N env J N' env' J',Conv kk N env J N' env' J'->Q e env' J' N'->Q e env J N
def nP(P:Program)(nt kk:Nat)(b:dw)(bK:Shape)(ts:List aN)(outs:List jK)(h:aQ U.D ts)(o:eC U outs):Prop:=
 ∀env1 J1,c3 bK.st.length (hx U bK (aQ.cells U.D ts h)).2 (λ_=>true) (hx U bK (aQ.cells U.D ts h)).1 env1->cz bK.st.length (hx U bK (aQ.cells U.D ts h)).2 J1->kk<=bK.st.length->
  ∀Q,u' kk Q->(∀a br,c3 (h' outs o).2.2.2 (h' outs o).2.2.1 (λ_=>true) (h' outs o).2.1 a->cz (h' outs o).2.2.2 (h' outs o).2.2.1 br->kk<=(h' outs o).2.2.2->Q (h' outs o).1 a br (h' outs o).2.2.2)->
   mK P nt kk b env1 J1 bK.st.length Q
def ve(P:Program)(nt kk:Nat)(a:dw)(L:hi U):Prop:=
 ∀h o,L.F h=some o->nP P nt kk a L.bK L.ts L.outs h o
def gH(P:Program)(nt kk:Nat)(c:lk U):Nat->dw->Prop
 |pos,.seq a b=>gH P nt kk c pos a/\gH P nt kk c (pos+gx a) b
 |pos,.cond _ a b=>gH P nt kk c pos a/\gH P nt kk c (pos+gx a) b
 |pos,.block _ b=>gH P nt kk c pos b
 |pos,.loop b=>(∀L,c pos=some L->ve P nt kk b L)
 |_,_=>True
theorem u'.andThen{next:Env->ba->Nat->Prop}(h:u' kk Q)(aJ:∀N env J N' env' J',Conv kk N env J N' env' J'->next env' J' N'->next env J N):u' kk (andThen next Q):=by
 intro e N env J N' env' J' a c;cases e with
 |normal=>exact aJ _ _ _ _ _ _ a c
 |_=>exact h _ _ _ _ _ _ _ a c
theorem uu{fo:fT U}(u:fU P fo){K:lk U}:∀{c:dw} {pos:Nat} {env:bX U} {J:bh U} {N:Nat} {k:vj U R} {r:R} {env1:Env} {J1:ba} {Q:Exit->Env->ba->Nat->Prop},
 gH P nt kk K pos c->lT fo K kk c pos env J N k=some r->c3 N J (λ_=>true) env env1->cz N J J1->kk<=N->u' kk Q->
 (∀e env' J' N' s br,k e env' J' N'=some r->c3 N' J' (λ_=>true) env' s->cz N' J' br->kk<=N'->Q e s br N')->ct P nt kk c env1 J1 N Q
 |.skip,pos,env,J,N,k,r,env1,J1,Q,ah,d,he,aI,n,m,f=>ct.skip (f _ _ _ _ _ _ d he aI n)
 |.ret,pos,env,J,N,k,r,env1,J1,Q,ah,d,he,aI,n,m,f=>ct.ret (f _ _ _ _ _ _ d he aI n)
 |.exit i,pos,env,J,N,k,r,env1,J1,Q,ah,d,he,aI,n,m,f=>ct.exit (f _ _ _ _ _ _ d he aI n)
 |.region ops,pos,env,J,N,k,r,env1,J1,Q,ah,d,he,aI,n,m,f=>
  ct.ai4 (HP u (eL.begin he aI) d λH M env' J' s br F h1 j=>by
   obtain⟨G,S,T,sR,O,A,B,C,D,Z⟩:=L2 h1 j.clean j.eT (show kk<=_ by omega)
   exact m _ _ _ _ _ _ _ B (f _ _ _ _ _ _ A C D (by omega)))
 |.oW ops gf,pos,env,J,N,k,r,env1,J1,Q,ah,d,he,aI,n,m,f=>by
  simp only[lT]at d;split at d
  . rename_i init last ad;obtain⟨rfl,af⟩:=aam ad;refine ct.ai5 af (IS u (eL.begin he aI) d λH M env' J' s br F h1 j=>?_);split at h1
    . rename_i q;refine⟨Im j.gZ q,HP u (l:=[last]) (nf:=[]) ⟨j.gZ,j.aq,j.eT,λg aq=>by grind⟩ h1 λam an G S sR O ai v w=>f _ _ _ _ _ _ v w.clean w.eT (by omega)⟩
    grind
  . refine ct.oW (IS u (eL.begin he aI) d λH M env' J' s br F h1 j=>?_);split at h1
    . rename_i q;obtain⟨G,S,T,sR,O,A,B,C,D,Z⟩:=L2 h1 j.clean j.eT (show kk<=_ by omega);exact⟨Im j.gZ q,m _ _ _ _ _ _ _ B (f _ _ _ _ _ _ A C D (by omega))⟩
    grind
 |.seq a b,pos,env,J,N,k,r,env1,J1,Q,ah,d,he,aI,n,m,f=>by
  refine ct.seq (uu u ah.1 d he aI n (m.andThen λN env J N' env' J' q h=>ct.conv q h) λe env' J' N' s br h1 j v w=>?_);cases e with
  |normal=>exact uu u ah.2 h1 j v w m f
  |_=>exact f _ _ _ _ _ _ h1 j v w
 |.cond c a b,pos,env,J,N,k,r,env1,J1,Q,ah,d,he,aI,n,m,f=>by
  simp only[lT]at d;split at d
  . rename_i x q;have aq:gT [] env (λ_=>true):=⟨λ_ _=>rfl,λk t b h=>by grind[a8]⟩
    obtain⟨p,v1,a1,a2,a3⟩:=cl he aq q;have:=a2.jq;subst this;refine ct.cond a1 (a3 rfl) (λy=>?_) (λy=>?_)
    . subst y;exact uu u ah.1 d he aI n m f
    . subst y;exact uu u ah.2 d he aI n m f
  grind
 |.block id b,pos,env,J,N,k,r,env1,J1,Q,ah,d,he,aI,n,m,f=>by
  refine ct.block (uu u ah d he aI n ?_ λe env' J' N' s br h1 j v w=>?_)
  . intro e N env J N' env' J' q z;cases e with
    |exit i=>
     simp only[inBlock]at z⊢;split at z
     . rename_i E;rw[ae E];exact m _ _ _ _ _ _ _ q z
     . rename_i E;rw[al E];exact m _ _ _ _ _ _ _ q z
    |_=>exact m _ _ _ _ _ _ _ q z
  . cases e with
    |exit i=>
     simp only[inBlock];simp only at h1;split at h1
     . rename_i y;rw[ae (cY y)];grind
     . rename_i y;rw[al (iC y)];grind
    |_=>exact f _ _ _ _ _ _ h1 j v w
 |.loop b,pos,env,J,N,k,r,env1,J1,Q,ah,d,he,aI,n,m,f=>by
  simp only[lT]at d;split at d
  . grind
  . rename_i L aa;split at d
    . grind
    . rename_i h ab;obtain⟨o,ag,I⟩:=xa.1 d;rw[QH]at I;obtain⟨s,br,V,W,X,Y⟩:=DI ab he aI n;exact ct.conv V (ct.aiI (ah L aa h o ag s br W X Y Q m λak aj h1 j v=>f _ _ _ _ _ _ I h1 j v))
theorem nP.aiU {fo:fT U}(S:fU P fo){M:lk U}{v:dw}{bK:Shape}{own:List (Pos×aN)}{ts:List aN}{outs:List jK}{h:aQ U.D ts}{o:eC U outs}{F:aQ U.D ts->Option (eC U outs)}
 (X:gH P nt kk M 0 v)(O:∀h o,F h=some o->nP P nt kk v bK ts outs h o)
 (ah:lT fo M kk v 0 (hx U bK (aQ.cells U.D ts h)).1 (hx U bK (aQ.cells U.D ts h)).2 bK.st.length (λe env J N=>match e with
  |.normal=>match u6 kk own bK ts env J N with
   |some y=>F y
   |none=>none
  |e=>sb kk outs e env J N)=some o):nP P nt kk v bK ts outs h o:=by
 intro env1 J1 he aI q Q A W;refine mK.round (uu S X ah he aI q (A.andThen λN env J N' env' J' R h=>mK.conv R h) λe env' J' N' x br h1 H K L=>?_);have t:∀w,w=e->w≠.normal->sb kk _ w env' J' N'=some o->Q e x br N':=by
  intro w an ap Z;obtain⟨aM,s1,c,f,j,p,G⟩:=UP Z H K L;exact A _ _ _ _ _ _ _ c (by grind)
 cases e with
 |normal=>
  simp at h1;split at h1
  . rename_i y E;obtain⟨aM,s1,c,f,j,p⟩:=DI E H K L;exact mK.conv c (O y o h1 aM s1 f j p Q A W)
  grind
 |exit i=>exact t _ rfl (by simp) h1
 |ret=>exact t _ rfl (by simp) h1
 |goto l=>exact t _ rfl (by simp) h1
 |panic am=>exact t _ rfl (by simp) h1
 |outgrown=>exact t _ rfl (by simp) h1
where
 UP {N:Nat} {env:bX U} {J:bh U} {env1:Env} {J1:ba}:∀ {outs:List jK} {e:Exit} {o:eC U outs},sb kk outs e env J N = some o->c3 N J (λ_=>true) env env1->cz N J J1->kk<=N->
  ∃x br,Conv kk N env1 J1 (h' outs o).2.2.2 x br/\c3 (h' outs o).2.2.2 (h' outs o).2.2.1 _ (h' outs o).2.1 x/\cz (h' outs o).2.2.2 (h' outs o).2.2.1 br/\kk<=(h' outs o).2.2.2/\e=(h' outs o).1
  |[],e,o,h,_,_,_=>by grind[sb]
  |[a],e,o,h,he,aI,q=>by
   simp[sb]at h;split at h
   . rename_i B;obtain⟨aM,s1,c,f,j,p⟩:=DI h he aI q;exact⟨aM,s1,c,f,j,p,NK B⟩
   grind
  |a::b::r,e,o,h,he,aI,q=>by
   simp only[sb]at h;split at h
   . rename_i B;split at h
     . rename_i aa E;cases h;obtain⟨aM,s1,c,f,j,p⟩:=DI E he aI q;exact⟨aM,s1,c,f,j,p,NK B⟩
     grind
   . split at h
     . rename_i ax Y;cases h;obtain⟨aM,s1,c,f,j,p,G⟩:=UP Y he aI q;exact⟨aM,s1,c,f,j,p,G⟩
     grind
end
end
open Go
variable {U:cJ}{R:Type}
def u5:Nat->List (bL U)->bX U
 |_,[]=>[]
 |i,v::vs=>(i,v)::u5 (i+1) vs
def Kq(env:bX U)(J:bh U):jk->Option (bL U)
 |.tmp t=>a8 env t
 |.cell t g k=>match a8 env t with
  |some (.c (.ptr b o))=>match a8 J b with
   |some (.box cs)=>rR g k cs o
   |_=>none
  |_=>none
def wU(env:bX U)(J:bh U):List jk->Option (List (bL U))
 |[]=>some []
 |r::a=>match Kq env J r,wU env J a with
  |some v,some vs=>some (v::vs)
  |_,_=>none
def I0:List (bL U)->bL U
 |[]=>.a6 []
 |[v]=>v
 |v::w::vs=>.a6 (v::w::vs)
def BN(kk:Nat)(c:List jk)(eT:e7)(eJ:List fL)(us:List aN)(env:bX U)(J:bh U):Option (aQ U.D us):=
 match wU env J c with
 |none=>none
 |some vs=>match xB J kk 0 eJ (G9 eT (I0 vs) ([],[])) []with
  |(bs,d)=>match lg d env J with
   |none=>none
   |some (env',J')=>match wU env' J' c with
    |none=>none
    |some e=>match uc bs&&(keeps kk bs&&Nat.beq bs.length eJ.length)with
     |false=>none
     |true=>match jZ bs eT (I0 e),iV bs J' 0 eJ with
      |some a,some b=>aQ.dec U.D us (a++b)
      |_,_=>none
def Vh(kk:Nat)(a:List jk)(eT:e7)(eJ:List fL)(us:List aN):vj U (aQ U.D us)
 |.normal,env,J,_=>BN kk a eT eJ us env J
 |.ret,env,J,_=>BN kk a eT eJ us env J
 |_,_,_,_=>none
variable{Q:Exit->Env->ba->Nat->Prop}{nt kk f:Nat}{p:a7}
section
variable {P:Program}{nt kk N:Nat}{env:bX U}{J:bh U}{env1:Env}{J1:ba}
def xZ(kk:Nat)(Q:Exit->Env->ba->Nat->Prop):Exit->Env->ba->Nat->Prop:=
 λe env J N=>∃N' env' J',Conv kk N env J N' env' J'/\Q e env' J' N'
theorem xZ.agB:u' kk (xZ kk Q):=
 λe N env J N' env' J' h ⟨a,c,o,f,j⟩=>⟨a,c,o,h.trans f,j⟩
variable{c:dw}
theorem ct.ajA{env:Env}{J:ba}(h:ct P nt kk c env J N (xZ kk Q)):ct P nt kk c env J N Q:=
 λcode v aE φ S a w f R=>wp_mono (h _ v aE φ S a w f R) λe a w ⟨B,bT,env',J',N',⟨j,q,y,t,x⟩,R'⟩=>
  let⟨A,p,o⟩:=t aE nt _ bT a w f R';⟨A,p,q,y,j,x,o⟩
theorem Zl(he:c3 N J (λ_=>true) env env1)(aI:cz N J J1){a:jk}{v:bL U}(h:Kq env J a=some v):∃p v1,ub env1 J1 a=some (p,v1)/\p/\cb N J v v1:=by
 cases a with
 |tmp t=>
  obtain⟨v1,h1,c⟩:=he t v h;exact⟨True,v1,by grind[ub],trivial,c⟩
 |cell t g k=>
  simp[Kq]at h;split at h
  . rename_i b o i;split at h
    . rename_i cs f;obtain⟨v1,h1,c⟩:=he t _ i;have:=c.hS;obtain⟨_,y,l,d⟩:=aI b _ f;cases d with
      |box d=>
       obtain⟨j,bf,e⟩:=v8 d h;exact⟨True,j,by grind[ub],trivial,e⟩
    grind
  grind
theorem Md(he:c3 N J (λ_=>true) env env1)(aI:cz N J J1):∀{b:List jk} {vs:List (bL U)},wU env J b=some vs->∃p a,qu env1 J1 b=some (p,a)/\p/\a' (cb N J) vs a
 |[],vs,h=>by simp[wU]at h;subst h;exact⟨_,[],rfl,trivial,.nil⟩
 |r::d,vs,h=>by
  simp[wU]at h;split at h
  . rename_i v e h1 c;cases h;obtain⟨p,v1,a1,a2,a3⟩:=Zl he aI h1;obtain⟨q,a,b1,b2,b3⟩:=Md he aI c;exact⟨p/\q,v1::a,by grind[qu],⟨a2,b2⟩,.cons a3 b3⟩
  grind
theorem aa4{vs:List (bL U)}{c:List V}(h:a' (cb N J) vs c):cb N J (I0 vs) (mF c):=by
 cases h with
 |nil=>exact .a6 [] [] rfl (by simp)
 |cons h1 a=>
  cases a with
  |nil=>exact h1
  |cons a b=>
   refine .a6 _ _ (by simp[b.length]) λi x d e j=>?_;obtain⟨f,aM,g⟩:=(a'.cons h1 (.cons a b)).get e;grind
def FG(s:cI U)(r:aQ U.D s.us):V->ba->Nat->Prop:=λa br N'=>N'=s.eJ.length/\cb N' (s.rest r) (s.res r) a/\cz N' (s.rest r) br
theorem aa5{e:List jk}{s:cI U}{r:aQ U.D s.us}(h:BN kk e s.eT s.eJ s.us env J=some r)(he:c3 N J (λ_=>true) env env1)(aI:cz N J J1):
 ∃j br,Conv kk N env1 J1 N j br/\∃p d,qu j br e=some (p,d)/\p/\
  ∃bs c J2,bs.Nodup/\keeps kk bs=true/\gJ ((mF d).bU bs) c/\sG (fF bs br 0 bs) J2/\FG s r c J2 bs.length:=by
 unfold BN at h;split at h
 . grind
 . split at h;rename_i bs C _;split at h
   . grind
   . rename_i env' J' w;obtain⟨aM,s1,m,n,i,_⟩:=zR (kk:=kk) (gl:=[]) w he aI;split at h
     . grind
     . rename_i G z;split at h
       . grind
       . rename_i k;simp only[c7]at k;obtain⟨t,u,v⟩:=k;have b7:=zy t;have x:=cY v;split at h
         . rename_i a b q l;obtain⟨p,d,d1,d2,d3⟩:=Md n i z;obtain⟨y,f,g⟩:=FO b7 (AL b7 l) q;obtain⟨c,o,E⟩:=g _ (aa4 d3);obtain⟨A,t1,t2⟩:=Es b7 i l;have F:=aQ.fj h;have aM:s.res r=y:=(by grind[cI.res]);have B:s.rest r=hN 0 s.eJ b:=(by grind[cI.rest]);exact⟨_,_,m,p,d,d1,d2,bs,c,A,b7,u,o,t1,x,by grind,by grind⟩
         grind
def vc(P:Program)(s:cI U)(h:aQ U.D s.ts)(r:aQ U.D s.us):Prop:=
 ∀(a:List V) J1,a' (cb s.st.length (s.iy h)) (s.args h) a->cz s.st.length (s.iy h) J1->ej P s.f a J1 s.st.length (FG s r)
theorem hY.of{s:cI U}(h:∀h r,s.F h=some r->vc P s h r):hY P s:=h
theorem vc.GL {s:cI U}{fn:Func}{c:dw}{j:List jk}{fo:fT U}{B:lk U}(Z:P.funcs[s.f]?=some fn)(S:fn.body.bind (resolve P fn.ntmps)=some c)(ax:ie P fn.results.toList=some j)(aJ:Nat.ble s.gD.length fn.ntmps=true)
 (ah:fU P fo)(ap:gH P fn.ntmps s.st.length B 0 c)
 {h:aQ U.D s.ts}{r:aQ U.D s.us}(q:Fs s.st.length (s.iy h) (λJ N=>lT fo B s.st.length c 0 (u5 0 (s.args h)) J N (Vh s.st.length j s.eT s.eJ s.us))=some r):vc P s h r:=by
 intro t J1 R aI;have an:t.length<=fn.ntmps:=by
  rw[<-R.length];refine fg (w6 ?_) (jV aJ);exact Us
 have W:c3 s.st.length (s.iy h) (λ_=>true) (u5 0 (s.args h)) (gz 0 t):=by
  intro k v a2;have key:∀{xs:List _} {o:List V} {i:Nat},a' (cb s.st.length (s.iy h)) xs o->a8 (u5 i xs) k=some v->∃v1,look (gz i o) k=some (true,v1)/\cb s.st.length (s.iy h) v v1:=by
   intro xs;induction xs with
   |nil=>grind[u5,a8]
   |cons x xs ih=>
    intro o i aE A;cases aE with
    |cons h1 y=>
     simp[u5,a8]at A;simp[gz,look];split at A
     . simp_all
     simp_all[al,iC]
  grind
 obtain⟨aL,Nm,a0,q,L,Y,Q,am⟩:=aa1 q W aI;refine ej.tidy (ej.mk Z S ax rfl an (ct.conv L (ct.ajA (uu ah ap q Y Q am xZ.agB λe env' J' N' M br h1 y O a1=>?_)))) (λE s1 H aa=>aa)
 . have w:BN s.st.length j s.eT s.eJ s.us env' J'=some r->(e= .normal\/e= .ret)->xZ s.st.length (FB j λE s1 H=>∃bs F J2,bs.Nodup/\keeps s.st.length bs=true/\gJ (E.bU bs) F/\sG (fF bs s1 0 bs) J2/\FG s r F J2 bs.length) e M br N':=by
    intro aC X;obtain⟨aM,s1,K,p,G,d1,d2,rest⟩:=aa5 aC y O;refine⟨N',aM,s1,K,?_⟩;rcases X with rfl|rfl
    . exact⟨p,G,d1,d2,rest⟩
    . exact⟨p,G,d1,d2,rest⟩
   cases e with
   |normal=>exact w h1 (.inl rfl)
   |ret=>exact w h1 (.inr rfl)
   |_=>cases h1
where
 Us:∀{ss:List e7} {a:eN U},(kZ ss a).1.length=ss.length
  |[],a=>rfl
  |s::ss,a=>by
   simp[kZ];have:=Us (ss:=ss) (a:=(mr s a).2);grind
def h4:dw->Nat->Option dw
 |.seq a b,q=>match Nat.ble (gx a) q with
  |true=>h4 b (q-gx a)
  |false=>h4 a q
 |.cond _ a b,q=>match Nat.ble (gx a) q with
  |true=>h4 b (q-gx a)
  |false=>h4 a q
 |.block _ b,q=>h4 b q
 |.loop b,q=>match q with
  |0=>some b
  |q+1=>h4 b q
 |_,_=>none
theorem gH.of{j:lk U}:∀{c:dw} {pos:Nat},(∀q b L,h4 c q=some b->j (pos+q)=some L->ve P nt kk b L)->gH P nt kk j pos c
 |.seq a b,pos,h=>by
  refine⟨gH.of λq e L h1 f=>h q e L ?_ f,gH.of λq e L h1 f=>h (gx a+q) e L ?_ (by grind)⟩
  . simp[h4];cases p:Nat.ble _ q with
    |true=>exact absurd (r6 h1) (by simp_all)
    |false=>grind
  . simp[h4];have:Nat.ble (gx a) (gx a+q)=true:=(by simp);grind
 |.cond c a b,pos,h=>by
  refine⟨gH.of λq e L h1 f=>h q e L ?_ f,gH.of λq e L h1 f=>h (gx a+q) e L ?_ (by grind)⟩
  . simp only[h4];cases p:Nat.ble (gx a) q with
    |true=>exact absurd (r6 h1) (by simp_all)
    |false=>grind
  . simp only[h4];have:Nat.ble (gx a) (gx a+q)=true:=(by simp);grind
 |.block id b,pos,h=>gH.of (c:=b) h
 |.loop b,pos,h=>λL o=>h 0 b L rfl o
 |.skip,pos,h=>trivial
 |.region _,pos,h=>trivial
 |.oW _ _,pos,h=>trivial
 |.exit _,pos,h=>trivial
 |.ret,pos,h=>trivial
where
 r6:∀{c:dw} {q:Nat} {b:dw},h4 c q=some b->q<gx c
  |.seq a b,q,e,h=>by
   simp[h4]at h;simp[gx];split at h
   . have:=r6 h;grind
   . have:=r6 h;omega
  |.cond _ a b,q,e,h=>by
   simp only[h4]at h;simp only[gx];split at h
   . have:=r6 h;grind
   . have:=r6 h;omega
  |.block _ b,q,e,h=>r6 (c:=b) h
  |.loop b,0,e,h=>by simp[gx]
  |.loop b,q+1,e,h=>by have:=r6 (c:=b) h;grind[gx]
  |.skip,q,e,h=>by grind[h4]
  |.region _,q,e,h=>by grind[h4]
  |.oW _ _,q,e,h=>by grind[h4]
  |.exit _,q,e,h=>by grind[h4]
  |.ret,q,e,h=>by grind[h4]
theorem gH.UJ{a:lk U}(h:∀q L,a q=some L->ve P nt kk ((h4 c q).getD .skip) L):gH P nt kk a 0 c:=
 gH.of λq b L h1 e=>by grind
theorem gH.none:gH P nt kk (λ_=>none:lk U) 0 c:=gH.UJ λq L h=>by grind
theorem fU.none:fU P (λ_=>[]:fT U):=λf s h=>by grind
end
open Go
def J5(P:Program)(fn:Func):dw:=
 match fn.body.bind (Shv.resolve P fn.ntmps)with
 |some c=>c
 |none=>.skip
def wF(c:dw)(q:Nat):dw:=(h4 c q).getD .skip
def hO{U:cJ}:List (cI U)->fT U
 |[],_=>[]
 |s::l,f=>match Nat.beq s.f f with
  |true=>s::hO l f
  |false=>hO l f
def k0{U:cJ}(l:List (Nat×hi U)):lk U:=λq=>a8 l q
theorem fU.nil{U:cJ}{P:Program}:fU P (hO ([]:List (cI U))):=λf s h=>by grind[hO]
theorem fU.cons{U:cJ}{P:Program}{s:cI U}{l:List (cI U)}(c:hG P s.f=true)(hs:hY P s)(h:fU P (hO l)):fU P (hO (s::l)):=by
 intro f t ht;simp[hO]at ht;split at ht
 . rename_i a;have:=cY a;rcases eR.1 ht with rfl|ht
   . grind
   . exact h f t ht
 . exact h f t ht
def jo{U:cJ}(P:Program)(nt kk:Nat)(c:dw)(l:List (Nat×hi U)):Prop:=∀q L,a8 l q=some L->ve P nt kk (wF c q) L
theorem jo.nil{U:cJ}{P:Program}{nt kk:Nat}{c:dw}:jo P nt kk c ([]:List (Nat×hi U)):=λq L h=>by grind[a8]
theorem jo.cons{U:cJ}{P:Program}{nt kk:Nat}{c:dw}{q:Nat}{L:hi U}{l:List (Nat×hi U)}(f:ve P nt kk (wF c q) L)(h:jo P nt kk c l):jo P nt kk c ((q,L)::l):=by
 intro e L' a;simp[a8]at a;split at a
 . simp_all
 . exact h e L' a
theorem jo.snd{U:cJ}{P:Program}{c:dw}{l:List (Nat×hi U)}(h:jo P nt kk c l):gH P nt kk (k0 l) 0 c:=gH.UJ λq L a=>h q L a
def aK(k:IntKind)(a b:Int):Int:=k.wrap (a+b)
def di(k:IntKind)(a b:Int):Int:=k.wrap (a-b)
def gB(k:IntKind)(a b:Int):Int:=k.wrap (a*b)
def fB(k:IntKind)(a b:Int):Int:=k.wrap (a.tdiv b)
def b9(a b:Int):Int:=a.tmod b
def BZ(k:IntKind)(a b:Int):Int:=k.wrap (BitVec.ofInt k.bits a &&& BitVec.ofInt k.bits b).toNat
def sd(k:IntKind)(a b:Int):Int:=k.wrap (BitVec.ofInt k.bits a ||| BitVec.ofInt k.bits b).toNat
def u7(k:IntKind)(a b:Int):Int:=k.wrap (BitVec.ofInt k.bits a ^^^ BitVec.ofInt k.bits b).toNat
def nG(k:IntKind)(a b:Int):Int:=k.wrap (a*2^min b.toNat k.bits)
def lO(k:IntKind)(a b:Int):Int:=a.fdiv (2^min b.toNat k.bits)
open Go
variable {U:cJ}
structure gp where
 q:Nat
 bK:Shape
 own:List (Pos×aN)
 C2:List (Pos×aN)
 ts:List aN
 outs:List jK
 sub:List gp
structure eA where
 f:Nat
 gD:List e7
 st:List fL
 ts:List aN
 eT:e7
 eJ:List fL
 us:List aN
 sub:List gp
def gp.l(e:gp)(F:aQ U.D e.ts->Option (eC U e.outs)):hi U:=⟨e.bK,e.own,e.ts,e.outs,F⟩
def eA.s(e:eA)(F:aQ U.D e.ts->Option (aQ U.D e.us)):cI U:=⟨e.f,e.gD,e.st,e.ts,e.eT,e.eJ,e.us,F⟩
def codeF(P:Program)(f:Nat):dw:=match P.funcs[f]? with
 |some fn=>J5 P fn
 |none=>.skip
def yH(P:Program)(f:Nat):Nat:=match P.funcs[f]? with
 |some fn=>fn.ntmps
 |none=>0
def SA(P:Program)(f:Nat):List jk:=match P.funcs[f]? with
 |some fn=>(match ie P fn.results.toList with
  |some r=>r
  |none=>[])
 |none=>[]
def uV(P:Program)(e:eA):Bool:=match P.funcs[e.f]? with
 |some fn=>hG P e.f&&((fn.body.bind (resolve P fn.ntmps)).isSome&&((ie P fn.results.toList).isSome&&Nat.ble e.gD.length fn.ntmps))
 |none=>false
def ix(P:Program)(e:eA):Prop:=uV P e=true
variable{e:eA}
theorem ix.m{P:Program}(h:uV P e=true):ix P e:=h
def rS(fo:fT U)(d:lk U)(kk:Nat)(b:dw)(e:gp)(a:aQ U.D e.ts->Option (eC U e.outs))(h:aQ U.D e.ts):Option (eC U e.outs):=
 lT fo d kk b 0 (hx U e.bK (aQ.cells U.D e.ts h)).1 (hx U e.bK (aQ.cells U.D e.ts h)).2 e.bK.st.length (λx env J N=>match x with
  |.normal=>match u6 kk e.C2 e.bK e.ts env J N with
   |some c=>a c
   |none=>none
  |x=>sb kk e.outs x env J N)
def qL(fo:fT U)(a:lk U)(P:Program)(e:eA)(h:aQ U.D e.ts):Option (aQ U.D e.us):=
 Fs e.st.length (hN 0 e.st (kZ e.gD (aQ.cells U.D e.ts h)).2) λJ N=>lT fo a e.st.length (codeF P e.f) 0 (u5 0 (kZ e.gD (aQ.cells U.D e.ts h)).1) J N (Vh e.st.length (SA P e.f) e.eT e.eJ e.us)
section
variable {P:Program}
variable{fo:fT U}
theorem MM(f:fU P fo){c:lk U}{b:dw}{e:gp}{h:aQ U.D e.ts}{o:eC U e.outs}{a:aQ U.D e.ts->Option (eC U e.outs)}
 (g:gH P nt kk c 0 b)(d:∀h o,a h=some o->nP P nt kk b e.bK e.ts e.outs h o)(i:rS fo c kk b e a h=some o):nP P nt kk b e.bK e.ts e.outs h o:=by
 refine nP.aiU (own:=e.C2) f g d (Eq.trans ?_ i);grind[rS]
theorem NL{j:lk U}(d:ix P e)(F:aQ U.D e.ts->Option (aQ U.D e.us))(o:fU P fo)(a:gH P (yH P e.f) e.st.length j 0 (codeF P e.f))
 {h:aQ U.D e.ts}{r:aQ U.D e.us}(b:qL fo j P e h=some r):vc P (e.s F) h r:=by
 unfold ix uV at d;unfold codeF at a;unfold yH at a;unfold qL codeF SA at b;split at d
 . rename_i fn g;simp[g]at a b;simp only[c7]at d;obtain⟨q,l,bf,m⟩:=d;obtain⟨c,n⟩:=Gs.1 l;obtain⟨p,i⟩:=Gs.1 bf;have k:J5 P fn=c:=(by grind[J5]);rw[k]at a b;simp[i]at b;exact vc.GL g n i m o a b
 grind
theorem ix.b{e:eA}(a:ix P e):hG P e.f=true:=by
 grind[ix,uV]
def yA(fo:fT U)(kk:Nat):Nat->dw->(e:gp)->aQ U.D e.ts->Option (eC U e.outs)
 |0,_,_,_=>none
 |n+1,b,e,h=>rS fo (k0 (e.sub.map λs=>(s.q,s.l (yA fo kk n (wF b s.q) s)))) kk b e (yA fo kk n b e) h
def xJ(g:(e:eA)->aQ U.D e.ts->Option (aQ U.D e.us))(r:List (cI U)):List eA->fT U
 |[],f=>hO r f
 |e::T,f=>match Nat.beq e.f f with
  |true=>e.s (g e)::xJ g r T f
  |false=>xJ g r T f
def mn(P:Program)(T:List eA)(a:List (cI U)):Nat->(e:eA)->aQ U.D e.ts->Option (aQ U.D e.us)
 |0,_,_=>none
 |n+1,e,h=>qL (xJ (mn P T a n) a T) (k0 (e.sub.map λs=>(s.q,s.l (yA (xJ (mn P T a n) a T) e.st.length n (wF (codeF P e.f) s.q) s)))) P e h
theorem Gg{b:dw}{g:(s:gp)->aQ U.D s.ts->Option (eC U s.outs)}:∀{l:List gp},(∀s h o,g s h=some o->nP P nt kk (wF b s.q) s.bK s.ts s.outs h o)->jo P nt kk b (l.map λs=>(s.q,s.l (g s)))
 |[],_=>jo.nil
 |s::l,aq=>jo.cons (λh o a=>aq s h o a) (Gg aq)
theorem Kr(a:fU P fo):∀(n:Nat) (b:dw) (e:gp) (h:aQ U.D e.ts) (o:eC U e.outs),yA fo kk n b e h=some o->nP P nt kk b e.bK e.ts e.outs h o
 |0,_,_,_,_,d=>by grind[yA]
 |n+1,b,e,h,o,d=>MM a (jo.snd (Gg λs h o c=>Kr a n _ s h o c)) (λh o c=>Kr a n b e h o c) d
theorem QI{g:(e:eA)->aQ U.D e.ts->Option (aQ U.D e.us)}{r:List (cI U)}(c:fU P (hO r)):∀{T:List eA},(∀e,e∈T->ix P e)->(∀e,e∈T->hY P (e.s (g e)))->fU P (xJ g r T)
 |[],_,_=>c
 |e::T,a,aq=>by
  intro f t ht;simp[xJ]at ht;have ih:=QI c (λe he=>a e (GB _ he)) (λe he=>aq e (GB _ he));split at ht
  . rename_i d;have:=cY d;rcases eR.1 ht with rfl|ht
    . exact⟨this,by rw[<-this];exact(a e GG).b,aq e GG⟩
    . exact ih f t ht
  . exact ih f t ht
theorem QJ{T:List eA}(a:∀e,e∈T->ix P e){c:List (cI U)}(f:fU P (hO c)):∀(n:Nat) (e:eA),ix P e->hY P (e.s (mn P T c n e))
 |0,e,_=>λh r b=>by simp[eA.s,mn]at b
 |n+1,e,he=>hY.of λh r b=>
  have g:=QI f a λd i=>QJ a f n d (a d i)
  NL he _ g (jo.snd (Gg λs h o j=>Kr g n _ s h o j)) b
end
open Go
variable {U:cJ}{P:Program}
def hh(P:Program)(s:cI U):Prop:=hG P s.f=true/\hY P s
def qF(P:Program)(f:Nat):a7->dw
 |[]=>codeF P f
 |q::p=>wF (qF P f p) q
def nQ(P:Program)(f kk:Nat)(p:a7)(e:gp)(F:aQ U.D e.ts->Option (eC U e.outs)):Prop:=ve P (yH P f) kk (qF P f p) (e.l F)
def jn(P:Program)(l:List (cI U)):Prop:=fU P (hO l)
theorem jn.n:jn P ([]:List (cI U)):=fU.nil
theorem jn.k{s:cI U}{l:List (cI U)}(h:hh P s)(ah:jn P l):jn P (s::l):=fU.cons h.1 h.2 ah
def jI(P:Program)(f kk:Nat)(p:a7)(l:List (Nat×hi U)):Prop:=jo P (yH P f) kk (qF P f p) l
theorem jI.n{f kk:Nat}{p:a7}:jI P f kk p ([]:List (Nat×hi U)):=jo.nil
theorem jI.k{q:Nat}{e:gp}{F:aQ U.D e.ts->Option (eC U e.outs)}{l:List (Nat×hi U)}(h:nQ P f kk (q::p) e F)(ah:jI P f kk p l):jI P f kk p ((q,e.l F)::l):=jo.cons h ah
def BR(P:Program)(U:cJ)(e:eA)(h:aQ U.D e.ts)(r:aQ U.D e.us):Prop:=vc P (e.s λ_=>none) h r
def xX(P:Program)(U:cJ)(f kk:Nat)(p:a7)(e:gp)(h:aQ U.D e.ts)(o:eC U e.outs):Prop:=nP P (yH P f) kk (qF P f p) e.bK e.ts e.outs h o
theorem BR.at(j:ix P e){fs:List (cI U)}(c:jn P fs){a:List (Nat×hi U)}(ah:jI P e.f e.st.length [] a){h:aQ U.D e.ts}{r:aQ U.D e.us}(o:qL (hO fs) (k0 a) P e h=some r):BR P U e h r:=
 NL j _ c (jo.snd ah) o
theorem xX.at{e:gp}{a:aQ U.D e.ts->Option (eC U e.outs)}(bn:∀h o,a h=some o->xX P U f kk p e h o){fs:List (cI U)}(j:jn P fs){c:List (Nat×hi U)}(ah:jI P f kk p c){h:aQ U.D e.ts}{o:eC U e.outs}
 (q:rS (hO fs) (k0 c) kk (qF P f p) e a h=some o):xX P U f kk p e h o:=
 MM j (jo.snd ah) bn q
theorem hh.of(a:ix P e){F:aQ U.D e.ts->Option (aQ U.D e.us)}(h:∀h r,F h=some r->BR P U e h r):hh P (e.s F):=⟨a.b,hY.of h⟩
theorem nQ.of{e:gp}{F:aQ U.D e.ts->Option (eC U e.outs)}(h:∀h o,F h=some o->xX P U f kk p e h o):nQ P f kk p e F:=h
theorem hh.fn(a:ix P e){F:aQ U.D e.ts->Option (aQ U.D e.us)}{fs:List (cI U)}(j:jn P fs){c:List (Nat×hi U)}(ah:jI P e.f e.st.length [] c)(p:∀h,qL (hO fs) (k0 c) P e h=F h):hh P (e.s F):=
 .of a λh r o=>.at a j ah ((p h).trans o)
theorem nQ.aj2{e:gp}{F:aQ U.D e.ts->Option (eC U e.outs)}{fs:List (cI U)}(c:jn P fs){a:List (Nat×hi U)}(ah:jI P f kk p a)(q:∀h,rS (hO fs) (k0 a) kk (qF P f p) e (λ_=>none) h=F h):nQ P f kk p e F:=
 .of λh o j=>.at (λ_ _ h=>by grind) c ah ((q h).trans j)
theorem hh.rc(c:ix P e){F:aQ U.D e.ts->Option (aQ U.D e.us)}{b:(aQ U.D e.ts->Option (aQ U.D e.us))->aQ U.D e.ts->Option (aQ U.D e.us)}
 (t:∀m:aQ U.D e.ts->aQ U.D e.us->Prop,(∀a,(∀h r,a h=some r->m h r)->∀h r,b a h=some r->m h r)->∀h r,F h=some r->m h r)
 {fs:(aQ U.D e.ts->Option (aQ U.D e.us))->List (cI U)}(o:∀a,hh P (e.s a)->jn P (fs a)){j:List (Nat×hi U)}(ah:jI P e.f e.st.length [] j)(q:∀a h,qL (hO (fs a)) (k0 j) P e h=b a h):hh P (e.s F):=
 .of c (t _ λa bn h r p=>.at c (o a (.of c bn)) ah ((q a h).trans p))
theorem nQ.rc{e:gp}{F:aQ U.D e.ts->Option (eC U e.outs)}{b:(aQ U.D e.ts->Option (eC U e.outs))->aQ U.D e.ts->Option (eC U e.outs)}
 (v:∀m:aQ U.D e.ts->eC U e.outs->Prop,(∀a,(∀h r,a h=some r->m h r)->∀h r,b a h=some r->m h r)->∀h r,F h=some r->m h r)
 {fs:List (cI U)}(j:jn P fs){c:List (Nat×hi U)}(ah:jI P f kk p c)(t:∀a h,rS (hO fs) (k0 c) kk (qF P f p) e a h=b a h):nQ P f kk p e F:=
 .of (v _ λa bn h o q=>.at bn j ah ((t a h).trans q))
theorem hh.bd{F:aQ U.D e.ts->Option (aQ U.D e.us)}{fs:List (cI U)}(c:jn P fs:=by exact .n){a:List (Nat×hi U)}(ah:jI P e.f e.st.length [] a:=by exact .n)(j:ix P e:=by exact .m (by kernel_rfl))
 (o:∀h,qL (hO fs) (k0 a) P e h=F h:=by intro _;kernel_rfl):hh P (e.s F):= .fn j c ah o
theorem hh.rx{F:aQ U.D e.ts->Option (aQ U.D e.us)}{b:(aQ U.D e.ts->Option (aQ U.D e.us))->aQ U.D e.ts->Option (aQ U.D e.us)}
 (q:∀m:aQ U.D e.ts->aQ U.D e.us->Prop,(∀a,(∀h r,a h=some r->m h r)->∀h r,b a h=some r->m h r)->∀h r,F h=some r->m h r)
 {fs:(aQ U.D e.ts->Option (aQ U.D e.us))->List (cI U)}(j:∀a,hh P (e.s a)->jn P (fs a)){c:List (Nat×hi U)}(ah:jI P e.f e.st.length [] c:=by exact .n)(o:ix P e:=by exact .m (by kernel_rfl))
 (p:∀a h,qL (hO (fs a)) (k0 c) P e h=b a h:=by intro _ _;kernel_rfl):hh P (e.s F):= .rc o q j ah p
theorem nQ.rx {f kk:Nat}{p:a7}{e:gp}{F:aQ U.D e.ts->Option (eC U e.outs)}{b:(aQ U.D e.ts->Option (eC U e.outs))->aQ U.D e.ts->Option (eC U e.outs)}
 (q:∀m:aQ U.D e.ts->eC U e.outs->Prop,(∀a,(∀h r,a h=some r->m h r)->∀h r,b a h=some r->m h r)->∀h r,F h=some r->m h r)
 {fs:List (cI U)}(j:jn P fs:=by exact .n){c:List (Nat×hi U)}(ah:jI P f kk p c:=by exact .n)(o:∀a h,rS (hO fs) (k0 c) kk (qF P f p) e a h=b a h:=by intro _ _;kernel_rfl):nQ P f kk p e F:= .rc q j ah o
theorem adU{T:List eA}(h:T.all (uV P)=true):∀e,e∈T->ix P e:=λe he=>gh.1 h e he
theorem hh.run{T:List eA}(cS:T.all (uV P)=true){a:List (cI U)}(f:jn P a)(c:ix P e){F:aQ U.D e.ts->Option (aQ U.D e.us)}(n:Nat)(h:∀h,F h=mn P T a n e h):hh P (e.s F):=
 ⟨c.b,λx r j=>QJ (adU cS) f n e c x r ((h x).symm.trans j)⟩
abbrev ab:aN:= .int .i64
abbrev az(n:Nat):aN:= .slice (.nm n)
abbrev jh:aN:= .slice .str
abbrev bw:aN:= .slice (.int .i64)
abbrev aa(t:aN):e7:= .c (.hole t)
abbrev au(b o:Nat):e7:= .c (.ptr b o)
abbrev bZ(t:aN):fL:= .box [.hole t]
def cM:kF->List aN
 |.hole t=>[t]
 |.cH _ _ _=>[.int .i64]
 |.dJ t _=>[t]
 |_=>[]
def bn{α:Type}(f:α->List aN):List α->List aN
 |[]=>[]
 |a::l=>f a++bn f l
def Uw:e7->List aN
 |.c s=>cM s
 |.agg l=>bn cM l
 |.row n=>[.nm n]
 |.a6 _=>[]
def ft:e7->List aN
 |.a6 l=>bn Uw l
 |v=>Uw v
def du:fL->List aN
 |.box l=>bn cM l
 |.arr t=>[.slice t]
 |.bc n=>[.nm n]
 |.set=>[.slice .str]
 |.buf _=>[.str]
 |.b' _ s=>cM s
 |.gone=>[]
def ec(l:List (Nat×e7))(st:List fL):List aN:=bn (λp=>ft p.2) l++bn du st
abbrev aW(f:Nat)(gD:List e7)(eT:e7)(sub:List gp:=[])(st:List fL:=[])(eJ:List fL:=[]):eA:=⟨f,gD,st,bn ft gD++bn du st,eT,eJ,ft eT++bn du eJ,sub⟩
abbrev bI(q:Nat)(l:List (Nat×e7))(st:List fL)(outs:List jK)(sub:List gp:=[])(own:List (Pos×aN):=[])(C2:List (Pos×aN):=own):gp:=⟨q,⟨l,st⟩,own,C2,ec l st,outs,sub⟩
abbrev bH(e:Exit)(l:List (Nat×e7))(st:List fL:=[])(own:List (Pos×aN):=[]):jK:=⟨e,⟨l,st⟩,own,ec l st⟩
abbrev eH(k:Nat)(t:aN):jK:=⟨.ret,⟨[(k,aa t)],[]⟩,[],[t]⟩
abbrev fP(i:Nat):jK:=⟨.exit i,⟨[],[]⟩,[],[]⟩
section
open Go
variable {U:cJ}
def D'(sz bytes:Nat)(z:List C):dw:=
 .seq (.region [⟨some 2,.mov (.const (.c .aA)),none⟩])
  (.seq (.seq (.region [⟨some 3, .mov (.tmp 0),none⟩,⟨some 4, .eqNil false (.tmp 3),none⟩])
   (.cond (.tmp 4) (.seq (.region [⟨some 2,.mov (.const (.c .aA)),none⟩]) .ret) .skip))
   (.seq (.region [⟨some 5,.bslice sz 0 z [],none⟩,⟨some 6,.mov (.tmp 0),none⟩,⟨some 7,.append sz bytes (.tmp 5) (.tmp 6),none⟩,⟨some 2,.mov (.tmp 7),none⟩]) .ret))
def u0(bytes n:Nat):Bool:=(decide ((2*n+192)*bytes<=hF)||decide ((n+n/4+512)*bytes<=hF))&&decide (n<=dT)
theorem lA{bytes n:Nat}(h:room bytes n=true):u0 bytes n=true:=by
 grind[Js,u0]
theorem QK{bytes n:Nat}(h:u0 bytes n=true):l0 n bytes/\n<=dT:=by
 unfold u0 at h;simp at h;exact h
def eO{α:Type}(bytes:Nat)(l:List α):Option (List α):=if u0 bytes l.length then some l else none
def AQ(U:cJ)(f:Nat)(t:aN)(bytes:Nat):cI U:=
 ⟨f,[.c (.hole (.slice t))],[],[.slice t],.c (.arr 0),[.arr t],[.slice t],λ(l:List (t.den U.D))=>eO bytes l⟩
variable{f:Nat}{es:List (List T)}
section
variable {P:Program}
theorem acm{fn:Func}{sz bytes:Nat}{z:List C}{q:List T}(g:P.funcs[f]?=some fn)(a:fn.body.bind (Shv.resolve P fn.ntmps)=some (D' sz bytes z))(j:ie P fn.results.toList=some [.tmp 2])
 (aJ:1<=fn.ntmps)(p:toTs z=some q)(m:0<sz)(he:∀e,e∈es->e.length=sz)(l:u0 bytes es.length=true):
 ej P f [.c (.t (.slice es))] [] 0 (λr J' N'=>N'=1/\r= .c (.arr 0 sz 0 es.length)/\aY J' 0=some (.arr sz es)):=by
 have y:=QK l;refine ej.tidy (Q:=λr J' N'=>∃b,r= .c (.arr b sz 0 es.length)/\aY J' b=some (.arr sz es)) (ej.mk g a j rfl (by grind) ?_) ?_
 . refine ct.seq (ct.region ?_);simp only[kG,hn,gb,aT,aU.get,er,gz,cN.neutral,bM,andThen];refine .inr ⟨λ_=>trivial,.inl trivial,?_⟩;refine ct.seq (ct.seq (ct.region ?_));simp only[kG,hn,gb,aT,aU.get,mB,er,cN.neutral,bM,andThen,look];refine .inr ⟨λ_=>by rfl,.inl trivial,?_⟩;refine .inr ?_;simp only[b6,bM,uM];intro b u;refine ct.cond (b:=b) (by simp[aU.get,look,sM]) trivial (λw=>?_) (λv=>?_)
   ·
    have d:es=[]:=(by grind);subst d;refine ct.seq (ct.region ?_);simp only[kG,hn,gb,aT,aU.get,mB,er,cN.neutral,bM,andThen];refine .inr ⟨λ_=>trivial,.inl trivial,?_⟩;refine ct.conv (Conv.own (k:=2) rfl m (iq _)) (ct.ret ?_);refine⟨_,_,rfl,⟨rfl,trivial⟩,_,rfl,?_⟩;rfl
   . refine ct.skip ?_;refine ct.seq (ct.region ?_);simp only[kG,hn,gb,aT,aU.get,mB,er,cN.neutral,bM,andThen,look,jY,p,ak,Nat.reduceEqDiff,b6,reduceCtorEq,mJ,c0,List.replicate];refine .inr ⟨λ_=>trivial,.inr trivial,?_⟩;refine .inr ⟨λ_=>by simp,.inl trivial,?_⟩;refine .inr ⟨λ_=>⟨trivial,trivial,trivial,trivial,trivial,by rfl,he,by grind,by grind⟩,.inr trivial,?_⟩;refine .inr ⟨λ_=>by simp,.inl trivial,?_⟩;refine ct.ret ⟨_,[.c (.arr 80 sz 0 _)],rfl,⟨rfl,trivial⟩,80,by rw[gC];rfl,?_⟩;rfl
 . rintro r J' N' ⟨b,rfl,hs⟩
   refine⟨[b],_,_,by simp,rfl,?_,λi x n=>⟨x,n,?_⟩,rfl,rfl,?_⟩
   . simp only[V.bU,C.bU,pos,bM];exact .c (dA.refl _)
   . cases x with
     |box cs=>exact .box (a'.self dA.refl _)
     |arr sz es=>exact .arr
     |set ks=>exact .same
     |buf E s=>exact .same
     |b' E c=>exact .b' (dA.refl _)
     |cA sz es i o c=>exact .cA (dA.refl _)
   grind[fF,aY,bV.bU]
theorem JO{fn:Func}{sz bytes:Nat}{z:List C}{u:List T}{t:aN}(n:P.funcs[f]?=some fn)(m:fn.body.bind (Shv.resolve P fn.ntmps)=some (D' sz bytes z))(o:ie P fn.results.toList=some [.tmp 2])
 (aJ:Nat.ble 1 fn.ntmps=true)(s:toTs z=some u)(q:t.sz U=sz):hY P (AQ U f t bytes):=by
 intro l r bn w J1 j aI;subst q;have d:eO _ l=some r:=bn;unfold eO at d;split at d
 . cases d;cases j with
   |cons h1 i=>
    cases i;have:=cb.kz h1;subst this
    refine ej.conv (.cons (.c (dA.refl _)) .nil) (λb x a=>by grind[aY]) ((acm n m o (jV aJ) s aN.xH (λe he=>by
     obtain⟨y,_,rfl⟩:=eS.1 he
     exact aN.sV) (by grind)).mono ?_)
    rintro B s1 v ⟨rfl,rfl,hs⟩
    refine⟨rfl,.c (.arr 0 _ _ (by simp) λx a p A=>?_),λb x a=>?_⟩
    . have:x=cO.arr t l:=by
       simp[cI.rest,AQ,mr,vz,aQ.cells,fp.cells,hN,j1,a8]at a;grind
      grind[cO.db]
    . have g:(if b=0 then some (cO.arr t l)else none)=some x:=by
       rw[<-a];cases b<;>rfl
      split at g
      . rename_i k;cases g;subst k;exact⟨by simp,_,hs,.arr t l⟩
      grind
 grind
def ud{α:Type}(bytes:Nat)(l:List α):Option (List α×List α):=(eO bytes l).map λr=>(l,r)
def J6(U:cJ)(f:Nat)(t:aN)(bytes:Nat):cI U:=
 ⟨f,[.c (.arr 0)],[.arr t],[.slice t],.c (.arr 1),[.arr t,.arr t],[.slice t,.slice t],λ(l:List (t.den U.D))=>ud bytes l⟩
theorem abP{fn:Func}{sz bytes:Nat}{z:List C}{y:List T}{a:ba}(m:P.funcs[f]?=some fn)(j:fn.body.bind (Shv.resolve P fn.ntmps)=some (D' sz bytes z))(n:ie P fn.results.toList=some [.tmp 2])
 (aJ:1<=fn.ntmps)(w:toTs z=some y)(t:0<sz)(he:∀e,e∈es->e.length=sz)(q:u0 bytes es.length=true)(h0:aY a 0=some (.arr sz es)):
 ej P f [.c (.arr 0 sz 0 es.length)] a 1 (λr J' N'=>N'=2/\r= .c (.arr 1 sz 0 es.length)/\aY J' 0=some (.arr sz es)/\aY J' 1=some (.arr sz es)):=by
 have G:=QK q;refine ej.tidy (Q:=λr J' N'=>∃b,1<=b/\r= .c (.arr b sz 0 es.length)/\aY J' 0=some (.arr sz es)/\aY J' b=some (.arr sz es)) (ej.mk m j n rfl (by grind) ?_) ?_
 . refine ct.seq (ct.region ?_);simp only[kG,hn,gb,aT,aU.get,mB,er,gz,cN.neutral,bM,andThen];refine .inr ⟨λ_=>trivial,.inl trivial,?_⟩;refine ct.seq (ct.seq (ct.region ?_));simp only[kG,hn,gb,aT,aU.get,mB,er,cN.neutral,bM,andThen,look,h8,ku];refine .inr ⟨λ_=>by rfl,.inl trivial,?_⟩;refine .inr ?_;simp only[Nat.reduceEqDiff,b6,bM,mB,uM];intro b A;refine ct.cond (b:=b) (p:=True) (by simp[aU.get,look,sM]) trivial (λF=>?_) (λD=>?_)
   . have l:es=[]:=(by grind);subst l;refine ct.seq (ct.region ?_);simp only[kG,hn,gb,aT,aU.get,mB,er,cN.neutral,bM,andThen];refine .inr ⟨λ_=>trivial,.inl trivial,?_⟩;refine ct.conv (Conv.own (k:=2) (g:=true) (sz:=sz) rfl t (by simp)) (ct.ret ?_);refine⟨_,_,rfl,⟨rfl,trivial⟩,_,by simp,rfl,?_,?_⟩
     . simp_all[c0,al]
     . rw[c0,ae rfl]
   . refine ct.skip ?_;refine ct.seq (ct.region ?_);simp only[kG,hn,gb,aT,aU.get,mB,er,cN.neutral,bM,andThen,look,jY,w,ak,Nat.reduceEqDiff,b6,bW,reduceCtorEq,List.replicate];refine .inr ⟨λ_=>trivial,.inr trivial,?_⟩;refine .inr ⟨λ_=>by simp,.inl trivial,?_⟩;have d:∀v,mJ (c9 a (1+16*1+16*2) (.arr sz v)) (.c (.arr 0 sz 0 es.length))=some (es,some 0):=by
      grind[mJ,c0]
     refine .inr ?_;simp only[h8,ku,gC]at d⊢;rw[d];simp only[ak,c0,bM,dF,Nat.reduceMul,Nat.reduceAdd,b6];refine⟨λ_=>⟨trivial,trivial,trivial,trivial,trivial,by rfl,he,by grind,by grind⟩,.inr trivial,?_⟩;refine .inr ⟨λ_=>by simp,.inl trivial,?_⟩;refine ct.ret ⟨_,[.c _],rfl,⟨rfl,trivial⟩,81,by simp,rfl,?_,?_⟩
     . simp_all[c0,al,fN]
     simp_all[c0,ae]
 . rintro r J' N' ⟨b,B,rfl,H,hs⟩
   refine⟨[0,b],_,_,by grind,rfl,?_,λi x u=>⟨x,u,?_⟩,rfl,rfl,?_⟩
   . simp only[V.bU,C.bU,pos,al (show ¬0=b by omega),bM];exact .c (dA.refl _)
   . cases x with
     |box cs=>exact .box (a'.self dA.refl _)
     |arr sz es=>exact .arr
     |set ks=>exact .same
     |buf E s=>exact .same
     |b' E c=>exact .b' (dA.refl _)
     |cA sz es i o c=>exact .cA (dA.refl _)
   grind[fF,aY,bV.bU]
theorem abQ{fn:Func}{sz bytes:Nat}{z:List C}{F:List T}{t:aN}(q:P.funcs[f]?=some fn)(m:fn.body.bind (Shv.resolve P fn.ntmps)=some (D' sz bytes z))(u:ie P fn.results.toList=some [.tmp 2])
 (aJ:Nat.ble 1 fn.ntmps=true)(E:toTs z=some F)(A:t.sz U=sz):hY P (J6 U f t bytes):=by
 intro l r bn H J1 j aI;subst A;have d:(eO _ l).map _=some r:=bn;unfold eO at d;split at d
 . cases d;cases j with
   |cons h1 i=>
    cases i;obtain⟨sz,n,rfl,_,o⟩:=h1.hl;obtain⟨_,y,B,D⟩:=aI 0 _ rfl;cases D;have:=o _ rfl _ rfl;obtain⟨rfl,rfl⟩:=this;have s:l.length=(l.map (t.enc U)).length:=(by grind);rw[s]
    refine(abP q m u (jV aJ) E aN.xH (λe he=>by
     obtain⟨y,_,rfl⟩:=eS.1 he
     exact aN.sV) (by grind) B).mono ?_
    rintro K s1 G ⟨rfl,rfl,v,w⟩
    have g:∀b x,a8 ((J6 U f t bytes).rest (l,l)) b=some x->(b=0\/b=1)/\x=cO.arr t l:=by
     intro b x a;have J:(if b=0 then some (cO.arr t l)else if b=1 then some (cO.arr t l)else none)=some x:=by
      rw[<-a]
      match b with
      |0=>rfl
      |1=>rfl
      |_+2=>rfl
     grind
    refine⟨rfl,.c (.arr 1 _ _ (by simp) λx a p I=>?_),λb x a=>?_⟩
    . obtain⟨_,rfl⟩:=g _ _ a;grind[cO.db]
    . obtain⟨k,rfl⟩:=g _ _ a;rcases k with rfl|rfl
      . exact⟨by simp,_,v,.arr t l⟩
      . exact⟨by simp,_,w,.arr t l⟩
 grind
end
end
section
open Go Go.Proofs Go.Proofs.YtdjagncoefjfeaaGreat Go.Shelf
variable {U:cJ}
def EW(U:cJ)(f E a:Nat):cI U:=
 ⟨f,[.c (.ptr 0 0)],[.b' E (.cL 1),.buf a],[.str],.a6 [],[.b' E (.cL 1),.buf a],[.str],λ(s:aj)=>some s⟩
section
variable {P:Program}{ρ:Ren}
theorem acn(L:Lays.n240 P ρ)(y:Builder.X72 P ρ){J:ba}{D n:Nat}{s:aj}(h0:aY J 0=some (.b' (ρ.t 72) (.cL 1 n)))(h1:aY J 1=some (.buf D s)):
 ej P (ρ.f 240) [.c (.ptr 0 0)] J 2 (λr J' N'=>r= .a6 []/\J'=J/\N'=2):=by
 intro φ S w B g A l O vs o;cases o with|cons M o=>
 cases o;have H:=M.hS;subst H;obtain⟨q,⟨p,v,aa,G,I⟩,z⟩:=g.blk 0 _ h0;have same:∀ w',w' = w->∃ (v:Value) (r:V) (i:dz) (bT:dS) (J':ba) (N':Nat),Ending.returned (Value.tuple #[]) = Ending.returned v/\(r = .a6 []/\J' = J/\N' = 2)/\ck i w' bT r v/\r.aF (lt N') = true/\qP i w' bT J'/\(∀ (b:Nat) x,aY J' b = some x->b<N'/\x.aF (lt N') = true)/\Ext B S bT w w'/\
  (∀(b:Nat) x,aY J' b=some x->(i b).2≠0->B (i b).1\/w.heap.size<=(i b).1)/\∀b,b<2->i b=φ b:=by
  rintro w' rfl
  exact⟨_,.a6 [],φ,S,J,2,rfl,⟨rfl,rfl,rfl⟩,.a6 [] [] rfl (by simp),rfl,g,A,Ext.refl,λb x a d=>.inl (l b x a d),λ_ _=>rfl⟩
 rcases G with rfl|rfl
 . have k:w.cell? ⟨(φ 0).1,0,none⟩=some (.pointer none):=by rw[js aa];rfl
   have K:w.shape? (φ 0).1=some (ρ.t 72,2):=(by simp[World.shape?,aa]);have F:w.frozen? ⟨(φ 0).1,0,none⟩=false:=(by simp[World.frozen?,aa]);refine(Any.Builder_copyCheck_fresh L y _ w k K F).mono ?_
   rintro e w' ⟨rfl,rfl⟩
   obtain⟨N,u⟩:=Mk aa 0 _;have m:gq w S _ S:=⟨λ_ _ h=>h,λb j h=>q3 (u b (λe=>z j (e▸h))) j⟩
   refine⟨_,.a6 [],φ,S,J,2,rfl,⟨rfl,rfl,rfl⟩,.a6 [] [] rfl (by simp),rfl,⟨λb x a=>?_,g.inj,λb j h=>?_⟩,A,⟨rfl,rfl,rfl,by simp,λb d du=>u b (λe=>du (e▸l 0 _ h0 q)),m,λ_ _ h=>.inl h⟩,λb x a d=>.inl (l b x a d),λ_ _=>rfl⟩
   . by_cases d:b=0
     . subst d;rw[h0]at a;cases a;exact⟨q,⟨_,v,N,.inr rfl,bq.mono m (λ_ _=>rfl) (C.mS _) I⟩,z⟩
     . exact cW.mono (n:=λ_=>true) m (λ_ _=>rfl) rfl (by cases x<;>simp[bV.aF,C.mS]) (λE=>u _ (g.inj b 0 x _ a h0 d E q)) (g.blk b x a)
   . have:=g.st b j h;simpa using this
 . have k:w.cell? ⟨(φ 0).1,0,none⟩=some (.pointer (some ⟨(φ 0).1,0,none⟩)):=by rw[js (vs:=[_,_]) aa];rfl
   refine(Any.Builder_copyCheck_used L y _ w k).mono ?_
   rintro e w' ⟨rfl,rfl⟩
   exact same _ rfl
theorem aco(L:Lays.n240 P ρ)(c:Builder.X72 P ρ){E a:Nat}(j:ρ.f 240=f)(ec:ρ.t 72=E):hY P (EW U f E a):=by
 subst j;subst ec;intro s r bn p J1 b aI;have k:=mC bn.symm;subst k;cases b with|cons b i=>
 cases i;have:=b.hS;subst this;have l:a8 ((EW U (ρ.f 240) (ρ.t 72) a).iy r) 0=some _:=rfl;have m:a8 ((EW U (ρ.f 240) (ρ.t 72) a).iy r) 1=some _:=rfl;obtain⟨_,w,e,b0⟩:=aI 0 _ l;obtain⟨_,x,g,b1⟩:=aI 1 _ m;cases b1;cases b0 with| @b' _ _ d b0=>
 cases b0 with|cL _ n q u=>
 refine(acn L c e g).mono ?_
 rintro v s1 o ⟨rfl,rfl,rfl⟩
 exact⟨rfl,.a6 [] [] rfl (by simp),aI⟩
end
end
section
open Go Go.ChangeShapes Go.WideShapes Go.RowKit
variable {U:cJ}
def aN.Ve:aN->Nat
 |.bool=>1
 |.int k=>k.bits/8
 |.str=>16
 |.slice _=>24
 |.nm _=>0
def J7:List aN->Nat
 |[]=>0
 |t::r=>t.Ve+J7 r
def ue(l:List aN):Nat:=bif l.any λt=>Nat.ble 8 t.Ve then(J7 l+7)/8*8 else J7 l
def aN.bytes(U:cJ)(t:aN):Nat:=ue (t.cells U)
inductive WF (U:cJ):Cell U.D->Prop
 |bool (b:Bool):WF U ⟨.bool,b⟩
 |int (k:IntKind) (n:Int) (h:(Lit.int k n).wf=true):WF U ⟨.int k,n⟩
 |str (s:aj) (h:s.length<=reachBytes):WF U ⟨.str,s⟩
 |slice (t:aN) (l:List (t.den U.D)) (h:l.length<=reachBytes) (aiw:l.length*t.bytes U<=reachBytes) (ah:∀x,x∈l->∀c,c∈t.row U x->WF U c):WF U ⟨.slice t,l⟩
def cJ.Total(U:cJ):Prop:=∀n (l:List (Cell U.D)),l.map Cell.ty=U.dj n->∃x,U.make n l=some x
def D1:List aN->List aN->Bool
 |[],[]=>true
 |a::l,b::m=>aN.beq a b&&D1 l m
 |_,_=>false
theorem OF:∀{l m:List aN},D1 l m=true->l=m
 |[],[],_=>rfl
 |a::l,b::m,h=>by
  simp[D1]at h;rw[aN.beq_eq h.1,OF h.2]
 |[],_::_,h=>by cases h
 |_::_,[],h=>by cases h
def AR(P:Program)(g:TypeId->Option (List aN)):List Field->Nat->Nat->Option (List aN)
 |[],off,c=>match Nat.beq off c with
  |true=>some []
  |false=>none
 |f::r,off,c=>match g f.type with
  |none=>none
  |some a=>match Nat.beq f.offset off&&Nat.beq (P.cellsOf f.type) a.length with
   |false=>none
   |true=>match AR P g r (off+a.length) c with
    |none=>none
    |some b=>some (a++b)
def flat(P:Program)(U:cJ)(st:TypeId->Option Nat):Nat->TypeId->Option (List aN)
 |0,_=>none
 |n+1,t=>match P.underlying t with
  |some .bool=>some [.bool]
  |some (.int k)=>some [.int k]
  |some .string=>some [.str]
  |some (.slice e)=>match st e with
   |some m=>match Nat.ble 1 (P.bytesOf e)&&Nat.ble (ue (U.dj m)) (P.bytesOf e)with
    |true=>some [.slice (.nm m)]
    |false=>none
   |none=>match flat P U st n e with
    |none=>none
    |some a=>match Nat.ble 1 (P.bytesOf e)&&Nat.ble (ue a) (P.bytesOf e)with
     |false=>none
     |true=>match a with
      |[ty]=>match ty.vF with
       |true=>none
       |false=>some [.slice ty]
      |_=>none
  |some (.struct fs)=>AR P (flat P U st n) fs.toList 0 (P.cellsOf t)
  |some (.array k e)=>match flat P U st n e with
   |none=>none
   |some a=>match Nat.beq (P.cellsOf t) (k*a.length)&&Nat.beq (P.cellsOf e) a.length with
    |false=>none
    |true=>some (List.replicate k a).flatten
  |_=>none
theorem LC{α:Type}{R:Nat->α->Prop}:∀(n:Nat),(∀i,i<n->∃x,R i x)->∃l:List α,l.length=n/\∀(i:Nat) x,l[i]?=some x->R i x
 |0,_=>⟨[],rfl,by simp⟩
 |n+1,h=>by
  obtain⟨l,ah,b⟩:=LC n λi a=>h i (by omega);obtain⟨x,c⟩:=h n (by simp);refine⟨l++[x],by grind,λi y d=>?_⟩;grind
variable{v:Value}{t:TypeId}{a:Addr}{st:TypeId->Option Nat}{dj:List aN}
section
variable {H:Type}{enc:TypeId×Value->H}{P:Program}{w:World}
abbrev Old(w:World):dS:=λb _=>b<w.heap.size
structure Rd (U:cJ)(w:World)(dj:List aN)(cs:List Value)(l:List (Cell U.D)):Prop where
 ty:l.map Cell.ty=dj
 wf:∀c,c∈l->WF U c
 rt:a' (λc v=>ch w (Old w) (Cell.enc U c) v) l cs
theorem AS{t:aN}{x:t.den U.D}(h1:WF U ⟨t,x⟩)(a:ch w (Old w) (Cell.enc U ⟨t,x⟩) v):Rd U w [t] [v] [⟨t,x⟩]:=
 ⟨rfl,by grind,.cons a .nil⟩
theorem HI:∀{a:List (DataW H)} {d:DataW H},d∈a->∀n∈d.weights P t,n∈DataW.weightsAll P t a
 |d0::a,d,b,n,aJ=>by
  simp[DataW.weightsAll];rcases eR.1 b with rfl|b
  . grind
  . exact .inr (HI b n aJ)
theorem NM{g:TypeId->Option (List aN)}{cs:List Value}:∀{fs:List Field} {off i:Nat} {dj:List aN},
 (∀f,f∈fs->∀a,g f.type=some a->∃l,Rd U w a ((cs.drop f.offset).take (P.cellsOf f.type)) l)->
 AR P g fs off i=some dj->cs.length=i->∃l,Rd U w dj (cs.drop off) l
 |[],off,i,dj,_,h,ah=>by
  simp[AR]at h;split at h
  . rename_i e;cases h;have:=cY e;refine⟨[],rfl,by simp,?_⟩;rw[ei (by omega)];exact .nil
  grind
 |f::r,off,i,dj,aq,h,ah=>by
  simp only[AR]at h;split at h
  . grind
  . rename_i a n;split at h
    . grind
    . rename_i j;simp only[c7]at j;have h1:=cY j.1;have q:=cY j.2;split at h
      . grind
      . rename_i b o;cases h;obtain⟨p,k⟩:=aq f (by simp) a n;obtain⟨l2,m⟩:=NM (λf s=>aq f (by grind)) o ah;refine⟨p++l2,by simp[k.ty,m.ty],?_,?_⟩
        . intro c d;rcases hb.1 d with d|d
          . exact k.wf c d
          . exact m.wf c d
        . have e:cs.drop off=(cs.drop off).take a.length++cs.drop (off+a.length):=by rw[<-uT,Gz]
          rw[e];refine a'.append ?_ m.rt;have:=k.rt;grind
theorem RC{a:List aN}{cs:List Value}:∀(k off:Nat),(∀i,i<k->∃l,Rd U w a ((cs.drop (off+i*a.length)).take a.length) l)->cs.length=off+k*a.length->
 ∃l,Rd U w (List.replicate k a).flatten (cs.drop off) l
 |0,off,_,ah=>by
  refine⟨[],rfl,by simp,?_⟩;rw[ei (by omega)];exact .nil
 |k+1,off,aq,ah=>by
  obtain⟨g,d⟩:=aq 0 (by simp);rw[CQ]at d
  obtain⟨l2,f⟩:=RC (a:=a) (cs:=cs) k (off+a.length) (λi j=>by
   grind) (by grind)
  refine⟨g++l2,by simp[d.ty,f.ty,List.replicate_succ],?_,?_⟩
  . intro c b;rcases hb.1 b with b|b
    . exact d.wf c b
    . exact f.wf c b
  . have e:cs.drop off=(cs.drop off).take a.length++cs.drop (off+a.length):=by rw[<-uT,Gz]
    rw[e];exact a'.append d.rt f.rt
theorem acp{n:Nat}{cs:List Value}(h:w.cells? 0 a n=some cs):cs.length=n/\∀j,j<n->w.cell? (a.add j)=cs[j]?:=by
 exact⟨by simpa using mapM_some_length h,λj b=>mapM_some_get h j j (by grind)⟩
theorem NN(h:w.cell? a=some v):a.spot=none/\a.block<w.heap.size:=by
 unfold World.cell? at h;split at h
 . rename_i b;split at h
   . grind
   . refine⟨by simp_all,(CS.1 b).1⟩
 grind
theorem QL{i j:Nat}(h:a.spot=none):(a.add i).add j=⟨a.block,a.off+i+j,none⟩:=by
 obtain⟨b,o,c⟩:=a;grind[Addr.add]
theorem UC(b:U.Total){t:aN}{l:List (Cell U.D)}(h:l.map Cell.ty=t.cells U):∃x,t.row U x=l:=by
 have one:∀t,l.map Cell.ty=[t]->∃x:t.den _,l=[⟨t,x⟩]:=by
  intro t h
  match l,h with
  |[⟨c,x⟩],h=>grind
 cases t with
 |nm n=>
  obtain⟨x,a⟩:=b n l h;exact⟨x,U.mk_eq n l x a⟩
 |bool=>obtain⟨x,a⟩:=one _ h;exact⟨x,a.symm⟩
 |int k=>obtain⟨x,a⟩:=one _ h;exact⟨x,a.symm⟩
 |str=>obtain⟨x,a⟩:=one _ h;exact⟨x,a.symm⟩
 |slice t=>obtain⟨x,a⟩:=one _ h;exact⟨x,a.symm⟩
def sF(P:Program)(U:cJ)(st:TypeId->Option Nat):Prop:=∀e m,st e=some m->flat P U st 60 e=some (U.dj m)
def xE:List (TypeId×Nat)->TypeId->Option Nat
 |[],_=>none
 |p::l,t=>match Nat.beq p.1 t with
  |true=>some p.2
  |false=>xE l t
def AT(P:Program)(U:cJ)(st:TypeId->Option Nat)(t:TypeId)(dj:List aN):Bool:=
 match flat P U st 60 t with
 |some a=>D1 a dj
 |none=>false
theorem Io(h:AT P U st t dj=true):flat P U st 60 t=some dj:=by
 grind[AT,OF]
theorem OG:∀{l:List (TypeId×Nat)} {t m},xE l t=some m->(t,m)∈l
 |p::l,t,m,h=>by
  simp[xE]at h;split at h
  . grind[cY]
  . exact .tail _ (OG h)
theorem af8{l:List (TypeId×Nat)}(h:(l.all λp=>AT P U (xE l) p.1 (U.dj p.2))=true):sF P U (xE l):=by
 intro e m he;rw[gh]at h;exact Io (h _ (OG he))
theorem abR(g:sF P U st){n:Nat}{e:TypeId}(ht:P.underlying t=some (.slice e))(h:flat P U st (n+1) t=some dj):
 ∃ty a i,dj=[.slice ty]/\flat P U st i e=some a/\a=ty.cells U/\1<=P.bytesOf e/\ue a<=P.bytesOf e:=by
 simp[flat,ht]at h;split at h
 . rename_i m f;split at h
   . rename_i b;cases h;simp only[c7]at b;exact⟨.nm m,U.dj m,60,rfl,g e m f,rfl,Gy b.1,Gy b.2⟩
   grind
 . split at h
   . grind
   . rename_i a c;split at h
     . grind
     . rename_i b;have d:1<=P.bytesOf e/\ue a<=P.bytesOf e:=(by simp_all);split at h
       . rename_i ty;split at h
         . grind
         . rename_i aJ;cases h;refine⟨ty,[ty],n,rfl,c,?_,d⟩;cases ty<;>first|rfl|cases aJ
       grind
theorem NO(aA:U.Total)(ax:sF P U st):∀(S n:Nat) (t:TypeId) (cs:List Value) (x:DataW H×List MemPlace) (dj:List aN),
 DataW.trod enc P w 0 (λ_=>true) true S t cs=some x->flat P U st n t=some dj->(∀k,k∈x.1.weights P t->k<=reachBytes)->∃l,Rd U w dj cs l:=by
 intro S;induction S with
 |zero=>simp_all[DataW.trod]
 |succ m ih=>
  intro n t cs x dj h p Q;cases n with
  |zero=>cases p
  |succ n=>
  have ap:=p;simp only[flat]at p;split at p
  . rename_i o;cases p;obtain⟨b,rfl,rfl⟩:=DataW.trod_bool o h;exact⟨_,AS (.bool b) (.bool b)⟩
  . rename_i k o;cases p;obtain⟨i,rfl,rfl,ay⟩:=DataW.trod_int o h;exact⟨_,AS (.int k i ay) (.int k i)⟩
  . rename_i o;cases p;obtain⟨s,rfl,rfl,hs⟩:=DataW.trod_string o h;have h1:s.data.toList.length<=reachBytes:=Q _ (by simp[DataW.weights]);have A:s.data.toList.length=s.size:=CF;refine⟨_,AS (.str s.data.toList h1) (.str s ?_)⟩;grind[reachBytes,eE]
  . rename_i e o;obtain⟨ty,a,az,rfl,G,ad,am,an⟩:=abR ax o ap;rcases DataW.trod_slice o h with⟨rfl,rfl⟩|⟨g,len,cap,C,R,al,K,rfl,rfl,_,aC,_,aB,I,_,_⟩
    . refine⟨_,AS (.slice ty [] (iq _) (by simp) (by simp)) ?_⟩;exact .slice [] none 0 0 0 0 (λ_ _=>default) (by simp) (by simp) (by simp) (by simp) (by simp) (by simp)
    . cases K;have aD:(C.length+R.length)*P.bytesOf e<=reachBytes:=by
       simp_all[DataW.weights]
      have N:len<=reachBytes:=by
       have h1:C.length+R.length<=(C.length+R.length)*P.bytesOf e:=Gt _ am;omega
      have J:len*ue a<=reachBytes:=by
       have h1:len*ue a<=(C.length+R.length)*P.bytesOf e:=CN (by omega) an;omega
      have ec:∀i,i<len->∃M:ty.den U.D,∃z,z.length=P.cellsOf e/\(∀j,j<P.cellsOf e->w.cell? ((g.add (i*P.cellsOf e)).add j)=z[j]?)/\Rd U w a z (ty.row U M):=by
       intro i u;have V:=I i u;have ao:C[i]?=some C[i]:=fb (by omega);rw[ao]at V;cases F:w.cells? 0 (g.add (i*P.cellsOf e)) (P.cellsOf e)with
       |none=>grind
       |some z=>
        rw[F]at V;obtain⟨h1,A⟩:=acp F
        obtain⟨l,ah⟩:=ih az e z _ a V G (λk Y=>Q k (by
         simp only[DataW.weights,o,eR,hb];right;left
         exact HI (eS.2 ⟨C[i],yN _,rfl⟩) k Y))
        obtain⟨M,aE⟩:=UC aA (t:=ty) (by rw[ah.ty,ad]);grind
      obtain⟨xs,ai,ak⟩:=LC len ec;have ab:len≠0->P.cellsOf e=ty.sz U/\0<P.cellsOf e:=by
       intro L;obtain⟨M,z,h1,_,E⟩:=ec 0 (by omega);have y:=E.rt.length;rw[aN.U5,h1]at y;exact⟨y.symm,by rw[<-y];exact aN.xH⟩
      have aa:len≠0->g.spot=none:=by
       intro L;obtain⟨M,z,h1,A,E⟩:=ec 0 (by omega);have h0:=A 0 (ab L).2;rw[fb (by rw[h1];exact(ab L).2)]at h0;have bf:=(NN h0).1;simpa[Addr.add]using bf
      have aj:∀x,x∈xs->∃i:Nat,xs[i]?=some x/\i<len:=by
       intro x B;obtain⟨i,u⟩:=List.mem_iff_getElem?.1 B;grind
      refine⟨_,AS (t:= .slice ty) (x:=xs) (.slice ty xs (by omega) (by rw[ai];unfold aN.bytes;rw[<-ad];exact J) ?_) ?_⟩
      . intro x B c F;obtain⟨i,u,_⟩:=aj x B;obtain⟨z,_,_,E⟩:=ak i x u;exact E.wf c F
      . have J:(xs.map (ty.enc U)).length=len:=(by simp[ai]);rw[<-J];refine .slice (xs.map (ty.enc U)) (some g) cap (P.cellsOf e) g.block g.off (λi j=>(w.cell? ⟨g.block,g.off+i*P.cellsOf e+j,none⟩).getD default) (by omega) ?_ ?_ ?_ ?_ ?_
        . rw[J];unfold reachBytes at N;unfold dT;omega
        . intro r O;obtain⟨x,B,rfl⟩:=eS.1 O;obtain⟨i,_,u⟩:=aj x B;rw[aN.sV];exact(ab (by omega)).1.symm
        . intro L;have au:len≠0:=by intro h0;apply L;rw[<-List.length_eq_zero_iff];omega
          have:=aa au;rw[show g=⟨g.block,g.off,g.spot⟩from rfl,this]
        . intro i j u X;rw[J]at u;obtain⟨M,z,h1,A,E⟩:=ec i u;have y:=A j X;rw[fb (by omega)]at y;have Z:=aa (by omega);have aM:(g.add (i*P.cellsOf e)).add j=⟨g.block,g.off+i*P.cellsOf e+j,none⟩:=QL Z;rw[aM]at y;exact⟨(NN y).2,by rw[y];rfl⟩
        . intro i j r aF O af;rw[r9,bB]at O;obtain⟨x,B,rfl⟩:=O;obtain⟨z,h1,A,E⟩:=ak i x B;have u:i<len:=by have:=(dQ.1 B).1;omega
          rw[aN.vw,r9,bB]at af;obtain⟨c,F,rfl⟩:=af;obtain⟨v,ag,aw⟩:=E.rt.get F;have X:j<P.cellsOf e:=by have:=(dQ.1 ag).1;omega
          have y:=A j X;have Z:=aa (by omega);have aM:(g.add (i*P.cellsOf e)).add j=⟨g.block,g.off+i*P.cellsOf e+j,none⟩:=QL Z;rw[aM,ag]at y;rw[y];exact aw
  . rename_i fs o;obtain⟨xs,al,K,rfl,ah,N,I⟩:=DataW.trod_struct o h;cases K
    have:=NM (U:=U) (w:=w) (P:=P) (cs:=cs) (fs:=fs.toList) (off:=0) (λf ar a G=>by
     obtain⟨i,u⟩:=List.mem_iff_getElem?.1 ar;have W:fs[i]?=some f:=(by simpa using u);have aq:=I i f W;have ae:i<xs.length:=by rw[N];exact(CS.1 W).1
     rw[fb ae]at aq
     exact ih n f.type _ _ a aq G (λk Y=>Q k (by
      simp only[DataW.weights,o]
      exact DataW.weights_mem_each (j:=i) (t:=f.type) (d:=xs[i].1) (by simp[W]) (by simp[ae]) k Y))) p ah
    simpa using this
  . rename_i k e o;split at p
    . cases p
    . rename_i a G;split at p
      . cases p
      . rename_i T;cases p;simp only[c7]at T;have h1:=cY T.1;have A:=cY T.2;obtain⟨xs,al,K,rfl,ah,N,I⟩:=DataW.trod_array o h;cases K
        have:=RC (U:=U) (w:=w) (a:=a) (cs:=cs) k 0 (λi u=>by
         have aq:=I i u;rw[fb (by omega)]at aq
         obtain⟨l,ah⟩:=ih n e _ _ a aq G (λq av=>Q q (by
          simp only[DataW.weights,o]
          exact HI (eS.2 ⟨xs[i],yN _,rfl⟩) q av))
         rw[A]at ah
         exact⟨l,by rw[gC];exact ah⟩) (by rw[ah,h1,gC])
        simpa using this
  . cases p
end
end
section
open Go Go.ChangeShapes Go.WideShapes Go.RowKit
variable {U:cJ}
def isAgg(P:Program)(t:TypeId):Bool:=
 match P.underlying t with
 |some (.struct _)=>true
 |some (.array _ _)=>true
 |_=>false
def nE(P:Program)(U:cJ)(st:TypeId->Option Nat):List TypeId->List e7->List aN->Bool
 |[],[],[]=>true
 |t::ts,.row m::a,.nm b::dj=>(Nat.beq m b&&(isAgg P t&&AT P U st t (U.dj m)))&&nE P U st ts a dj
 |t::ts,.c (.hole ty)::a,d::dj=>(aN.beq ty d&&(!ty.vF&&(!isAgg P t&&AT P U st t [ty])))&&nE P U st ts a dj
 |_,_,_=>false
variable{st:TypeId->Option Nat}{b0 N f:Nat}{v:Value}{t:TypeId}{D:Nat->Type}{gD:List e7}{ts:List aN}{a:List MemPlace}
section
variable {H:Type}{enc:TypeId×Value->H}{P:Program}{w:World}{φ:dz}
theorem LF:∀{d:List TypeId} {b:List e7} {dj:List aN},nE P U st d b dj=true->d.length=dj.length
 |[],[],[],_=>rfl
 |[],[],_::_,h=>by cases h
 |[],_::_,_,h=>by cases h
 |_::_,[],_,h=>by cases h
 |_::_,a::_,[],h=>by
  cases a with
  |c x=>cases x<;>cases h
  |_=>cases h
 |t::ts,a::b,ty::dj,h=>by
  have:nE P U st ts b dj=true:=by
   cases a with
   |row m=>cases ty with
    |nm e=>grind[nE]
    |_=>cases h
   |c x=>cases x with
    |hole ty=>grind[nE]
    |_=>cases h
   |_=>cases h
  simp[LF this]
theorem abS{r:Reach}(hs:isAgg P t=true)(h:Value.okWide P w r b0 t v):∃cs,v= .agg cs:=by
 grind[isAgg,Value.okWide]
theorem abT{r:Reach}(hs:isAgg P t=false)(h:Value.okWide P w r b0 t v):v.cells=#[v]:=by
 unfold isAgg at hs;unfold Value.okWide at h;have a:Cell.okWide P w r b0 t v:=by grind
 cases v with
 |agg cs=>
  simp_all[Cell.okWide,Cell.ok]
 |_=>rfl
theorem MN{S:dS}:∀{l:List (Cell U.D)} {vs:List Value},a' (λc v=>ch w S (Cell.enc U c) v) l vs->a' (bq φ w S) ((l.map bk.t).map bk.pc) vs
 |[],[],.nil=>.nil
 |c::l,v::vs,.cons h1 a=>.cons h1 (MN a)
theorem NP(i:U.Total)(φ:dz){st:TypeId->Option Nat}(B:sF P U st){b0:Nat}:∀(ts:List TypeId) (f:List e7) (dj:List aN) (args:List Value) (g:List (DataW H)) (ps:List MemPlace),
 nE P U st ts f dj=true->(∀(j:Nat) t v,ts[j]?=some t->args[j]?=some v->Value.okWide P w .any b0 t v)->
 DataW.TrodAll enc P w 0 (λ_=>true) true ts args g ps->(∀k,k∈DataW.weightsEach P ts g->k<=reachBytes)->
 ∃(l:eN U) (xs:List (bL U)),l.map Cell.ty=dj/\(∀c,c∈l->∀d,d∈c.ty.row U c.val->WF U d)/\kZ f l=(xs,[])/\(∀x,x∈xs->gL x=true)/\a' (ck φ w (Old w)) (xs.map fG) args
 |[],[],[],args,g,ps,_,_,ht,_=>by
  obtain⟨rfl,rfl,rfl⟩:=trodAll_nil ht;exact⟨[],[],rfl,by simp,rfl,by simp,.nil⟩
 |t::ts,N::f,ty::dj,args,g,ps,a,E,ht,G=>by
  obtain⟨v,vs,d,O,p,q,rfl,rfl,rfl,⟨C,h1⟩,Q⟩:=trodAll_cons ht;have F:=E 0 t v rfl rfl;have I:∀k,k∈d.weights P t->k<=reachBytes:=λk S=>G k (by simp_all[DataW.weightsEach,hb]);have M:=λY=>NP i φ (st:=st) B (b0:=b0) ts f dj vs O q Y (λj t v ag ah=>E (j+1) t v (by grind) (by grind)) Q
   (λk S=>G k (by simp_all[DataW.weightsEach,hb]))
  unfold nE at a;split at a
  . grind
  . rename_i t0 ab m aa ai ae aM o c2;cases aM;cases o;cases c2;simp only[c7]at a;obtain⟨⟨z,hs,s⟩,A⟩:=a;have X:=cY z;obtain⟨l,xs,T,V,D,W,u⟩:=M A;obtain⟨cs,rfl⟩:=abS hs F;obtain⟨L,b⟩:=NO i B C 60 t _ _ _ h1 (Io s) I;obtain⟨x,J⟩:=UC i (t:= .nm m) b.ty;refine⟨⟨.nm m,x⟩::l,.agg ((aN.row U (.nm m) x).map .t)::xs,by grind,?_,?_,?_,?_⟩
    . intro c e;rcases eR.1 e with rfl|e
      . intro d r;exact b.wf d (J▸r)
      grind
    . grind[kZ,mr]
    . simp_all[eR,gL,bk.sj]
    . refine .cons ?_ u;have:=MN (φ:=φ) b.rt;rw[<-J]at this;exact ck.agg (vs:=cs.toList) this
  . rename_i t0 ab ad aa aj ae aM o c2;cases aM;cases o;cases c2;simp only[c7,xg]at a;obtain⟨⟨z,aJ,hs,s⟩,A⟩:=a;have X:=aN.beq_eq z;obtain⟨l,xs,T,V,D,W,u⟩:=M A;rw[abT hs F]at h1;obtain⟨L,b⟩:=NO i B C 60 t _ _ _ h1 (Io s) I
    match L,b with
    |[],b=>cases b.ty
    |[⟨n,x⟩],b=>
     have Z:n=ad:=by have:=b.ty;grind
     subst Z;refine⟨⟨n,x⟩::l,.c (.t ⟨n,x⟩)::xs,by grind,?_,?_,?_,?_⟩
     . intro c e;rcases eR.1 e with rfl|e
       . intro d r;refine b.wf d ?_;cases n<;>first|exact r|cases aJ
       grind
     . simp only[kZ,mr,vz,D]
     . intro y K;rcases eR.1 K with rfl|K
       . rfl
       grind
     . refine .cons ?_ u;cases b.rt with
       |cons R af=>exact .c R
    |_::_::_,b=>have:=b.ty;simp at this
  grind
 |[],[],_::_,_,_,_,a,_,_,_=>by cases a
 |[],_::_,_,_,_,_,a,_,_,_=>by cases a
 |_::_,[],_,_,_,_,a,_,_,_=>by cases a
 |t::ts,N::f,[],_,_,_,a,_,_,_=>by
  cases N with
  |row m=>cases a
  |c x=>cases x<;>cases a
  |agg l=>cases a
  |a6 l=>cases a
theorem aQ.UK:∀(ts:List aN) (l:eN U),l.map Cell.ty=ts->∃h:aQ U.D ts,aQ.cells U.D ts h=l
 |[],[],_=>⟨(),rfl⟩
 |[t],[⟨a,x⟩],h=>by
  have:a=t:=by grind
  subst this;exact⟨x,rfl⟩
 |t::u::r,⟨a,x⟩::l,h=>by
  simp at h;obtain⟨h1,c⟩:=h;subst h1;obtain⟨y,e⟩:=aQ.UK (u::r) l (by grind);exact⟨(x,y),by show⟨a,x⟩::aQ.cells _ _ y=_;grind⟩
 |[],_::_,h=>by grind
 |_::_,[],h=>by grind
 |[_],_::_::_,h=>by grind
theorem fp.B5:∀{ts:List aN} {t:aN} (h:fp D t ts),fp.dec D t ts (fp.cells D t ts h)=some h
 |[],t,x=>Cell.SC
 |u::r,t,x=>by
  unfold fp.dec fp.cells;simp[vC,Cell.SC];rw[fp.B5];rfl
theorem aQ.B5:∀{ts:List aN} (h:aQ D ts),aQ.dec D ts (aQ.cells D ts h)=some h
 |[],_=>rfl
 |_::_,h=>fp.B5 h
theorem aQ.gY:∀{ts:List aN} {l:List (Cell D)},l.map Cell.ty=ts->∃h,aQ.dec D ts l=some h:=by
 have go:∀(ts:List aN) (l:List _),l.map Cell.ty=ts->∃h:aQ D ts,aQ.cells D ts h=l:=by
  intro ts;induction ts with
  |nil=>intro l h;cases l with
   |nil=>exact⟨(),rfl⟩
   |cons=>grind
  |cons t r ih=>
   intro l h;cases l with
   |nil=>grind
   |cons c l=>
    obtain⟨f,x⟩:=c;simp at h;obtain⟨h1,a⟩:=h;subst h1;obtain⟨y,e⟩:=ih l a;cases r with
    |nil=>
     cases l with
     |nil=>exact⟨x,rfl⟩
     |cons=>grind
    |cons u r=>exact⟨(x,y),by show⟨f,x⟩::aQ.cells D _ y=_;grind⟩
 intro ts l h;obtain⟨y,e⟩:=go ts l h;grind[aQ.B5]
def Ok(U:cJ)(ts:List aN)(h:aQ U.D ts):Prop:=∀c,c∈aQ.cells U.D ts h->∀d,d∈c.ty.row U c.val->WF U d
theorem afj:cz N ([]:bh U) []:=λb x h=>by cases h
theorem QM{J:bh U}:∀{xs:List (bL U)},(∀x,x∈xs->gL x=true)->a' (cb N J) xs (xs.map fG)
 |[],_=>.nil
 |x::xs,h=>.cons (wR (h x (by simp))).1 (QM λy a=>h y (by grind))
theorem OH{k:Nat->Bool}:∀{xs:List (bL U)},(∀x,x∈xs->gL x=true)->V.aF.V.dC k (xs.map fG)=true
 |[],_=>rfl
 |x::xs,h=>by
  simp[V.aF.V.dC];exact⟨(wR (N:=0) (J:=[]) (h x (by simp))).2 k,OH λy a=>h y (by grind)⟩
variable{F:aQ U.D ts->Option (aQ U.D [.bool])}
theorem aiD(O:U.Total)(hs:hY P ⟨f,gD,[],ts,.c (.hole .bool),[],[.bool],F⟩)
 (N:∀h:aQ U.D ts,Ok U ts h->F h=some true){st:TypeId->Option Nat}(K:sF P U st){i:List TypeId}(E:nE P U st i gD ts=true)
 {b0:Nat}{args:Array Value}{m:List (DataW H)}{ps:List MemPlace}(L:∀(j:Nat) t v,i[j]?=some t->args[j]?=some v->Value.okWide P w .any b0 t v)
 (ht:DataW.TrodAll enc P w 0 (λ_=>true) true i args.toList m ps)(M:∀k,k∈DataW.weightsEach P i m->k<=reachBytes):
 Calls P f args w λe w'=>e= .returned (.bool true)/\Below w.heap.size w w':=by
 obtain⟨l,xs,z,A,R,B,C⟩:=NP O _ K _ gD ts _ m ps E (λj t v s S=>L j t v s (by grind)) ht M;obtain⟨h,aa⟩:=aQ.UK ts l z;have bn:=N h (λc n d q=>A c (aa▸n) d q)
 have p:=hs h _ bn (xs.map fG) [] (by
  show a' _ (kZ gD _).1 _;grind[QM]) (by
  exact afj)
 have:=p (λb=>(b,0)) _ w (λ_=>False) {blk:=λb x g=>(by cases g),inj:=λb Q x y g=>(by simp),st:=λb j o=>o} (λb x g=>by cases g) (λb x g=>by simp)
  (OH B) _ C
 refine this.mono λe w' ⟨v,r,T,bT,J',N',he,⟨_,G,_⟩,J,_,_,_,a,_⟩=>?_;cases G with
 |c n=>
  cases n with
  |t c=>
   cases J with
   |c I=>
    cases I;exact⟨he,a.os,a.tape,a.output,a.size,λk u=>a.block k u (λh=>h)⟩
theorem abU{f:Func}{s:ChangeSpec}{o Aw n:Bool}{W e:World}{args:Array Value}{c gs:List (DataW H)}
 (ds:DataW.Whole enc P f.params.toList s.vars false W args.toList c gs a)(k:Below W.heap.size W e)
 (hres:∀(b:Nat) (d:Nat->Bool) (q:Bool),DataW.TrodAll enc P e b d q f.resultTypes.toList (v.resultList f.resultTypes.size) (s.fn H (c++gs)).results [])
 (i:∀d:Nat->Bool,(∀p∈a,d p.block=true)->DataW.TrodAll enc P e 0 d true f.params.toList args.toList (s.fn H (c++gs)).args a)
 (m:∀d:Nat->Bool,(∀p∈a,d p.block=true)->DataW.TrodVars enc P e d s.vars (s.fn H (c++gs)).vars [])
 (u:∀(j:Nat) (t:TypeId) (r:Value),f.resultTypes[j]?=some t->(v.resultList f.resultTypes.size)[j]?=some r->Value.okWide P e .any 0 t r):
 s.post enc P f false o Aw n W args v e:=by
 have aC:=ds.lt;have l:∀p∈a,(λb=>decide (b<W.heap.size)) p.block=true:=λp g=>by grind
 refine⟨c,gs,a,[],a,[],ds,hres _ _ _,i _ l,m _ l,k.frame _,λ_=>?_⟩;refine⟨u,(s.fn H (c++gs)).results++(s.fn H (c++gs)).args,(s.fn H _).vars,a,⟨a,[],?_,m _ (λ_ _=>rfl),by simp,?_,λh=>by grind⟩,λp g _=>g⟩
 . have:=trodAll_append (i _ (λ_ _=>rfl)) (hres 0 (λ_=>true) _);grind
 . intro b off g;obtain⟨_,_,_,_,_,w,_⟩:=ds;rw[World.frozen?_of_block (k.block b (aC _ g))];exact w b _ g
theorem aiE{fn:Func}{s:ChangeSpec}(ag:U.Total)
 (hs:hY P ⟨f,gD,[],ts,.c (.hole .bool),[],[.bool],F⟩)
 (af:∀h:aQ U.D ts,Ok U ts h->F h=some true){st:TypeId->Option Nat}(Y:sF P U st)(Q:nE P U st fn.params.toList gD ts=true)
 {C:TypeId}(hres:fn.resultTypes=#[C])(htb:P.underlying C=some .bool)(w:s.vars=[])
 (M:∀g:List (DataW H),g.length=ts.length->(s.fn H g).results=[.lit (.bool true)]/\(s.fn H g).args=g/\(s.fn H g).vars=[])
 (o:(laidOutB P&&mapsRowed P)=true)(R:fn.params.toList.all (λt=>decide (t<P.types.size))=true)
 (X:((List.range P.types.size).all λt=>match P.underlying t with|some (.slice e)=>decide (0<P.cellsOf e)|_=>true)=true)
 {W:World}{base:Nat}{args:Array Value}{g gs:List (DataW H)}{G:List MemPlace}{I Aw E:Bool}
 (ab:∀(j:Nat) t v,fn.params[j]?=some t->args[j]?=some v->Value.okWide P W .any base t v)
 (ds:DataW.Whole enc P fn.params.toList s.vars false W args.toList g gs G)
 (N:(DataW.weightsEach P (fn.params.toList++s.plain.varTypes P) (g++gs)).all (· <=reachBytes)=true):
 Calls P f args W λe n=>∃v,e= .returned v/\s.post enc P fn false I Aw E W args v n:=by
 have z:=ds;obtain⟨p,q,y,ft,rfl,aj,b7⟩:=ds;rw[w]at ft;obtain⟨rfl,rfl⟩:=trodVars_none ft;have ae:s.plain.varTypes P=[]:=by show s.vars.filterMap _=[]<;>simp[w]
 rw[ae,h9,h9,gh]at N;have O:g.length=ts.length:=by
  have h1:∀{i:List TypeId} {vs:List Value} {g:List (DataW H)} {ps:List MemPlace},DataW.TrodAll enc P W 0 (λ_=>true) true i vs g ps->g.length=i.length:=by
   intro i;induction i with
   |nil=>grind[trodAll_nil]
   |cons t r ih=>grind[trodAll_cons]
  grind[LF]
 obtain⟨S,T,V⟩:=M g O;simp only[c7]at o;have K:=kids_rows o.1 o.2;have Z:=slices_full_of P X;refine(aiD ag hs af Y Q (λj t v ak ad=>ab j t v (by grind) ad) y (λk al=>by grind)).mono λe n ⟨he,A⟩=>?_;subst he;refine⟨_,rfl,abU z A ?_ ?_ ?_ ?_⟩
 . intro b m ai;rw[h9,S,hres];exact trodAll_cons_mk (shut_bool htb _) trodAll_mk0
 . intro m B;rw[h9,T];have aC:=z.lt;have cS:=λt ht=>by simpa using gh.1 R t ht
   have go:∀ {i:List TypeId} {vs:List Value} {g:List (DataW H)} {ps:List MemPlace},(∀ t,t∈i->t<P.types.size)->(∀ p∈ps,p.block<W.heap.size/\m p.block = true)->
    DataW.TrodAll enc P W 0 (λ_=>true) true i vs g ps->DataW.TrodAll enc P n 0 m true i vs g ps:=by
    intro i;induction i with
    |nil=>intro vs g ps _ _ h;obtain⟨rfl,rfl,rfl⟩:=trodAll_nil h;exact trodAll_mk0
    |cons t r ih=>
     intro vs g ps cS u h;obtain⟨v,am,d,ah,a,b,rfl,rfl,rfl,⟨J,h1⟩,L⟩:=trodAll_cons h;refine⟨a,b,⟨J,DataW.trod_stays K (λ{t e}=>Z t e) (by intro aa;cases aa) (cS t (by simp)) h1 (λx l=>A.same (u x (by simp[l])).1) (λx l=>(u x (by simp[l])).2)⟩,ih (λt ht=>cS t (by simp[ht])) (λx l=>u x (by simp[l])) L,rfl⟩
   rw[h9];exact go cS (λx l=>⟨aC x (by simp[l]),B x (by simp[l])⟩) y
 . intro m B;rw[h9,V,w];rfl
 . exact ok_one hres rfl (okWide_bool_mk htb _)
end
end
section
open Go
theorem kp{a b:Int}(h1: -9223372036854775808<=a+b)(c:a+b<=9223372036854775807):aK .i64 a b=a+b:=by grind[aK,IntKind.wrap_i64]
theorem hJ{a b:Int}(h1: -9223372036854775808<=a-b)(c:a-b<=9223372036854775807):di .i64 a b=a-b:=by grind[di,IntKind.wrap_i64]
theorem jF{a:Int}(h1: -9223372036854775808<=a:=by omega)(b:a<=9223372036854775807:=by omega):bY .i64 a=a:=by grind[bY,IntKind.wrap_i64]
theorem aH{k n:Nat}(h:k<n):ay (k:Int) n=true:=by grind[ay]
theorem aV(k:Nat):(k:Int).toNat=k:=oU k
theorem lf{a:Int}(h0:0<=a)(h1:a<18446744073709551616):IntKind.u64.wrap a=a:=by grind[IntKind.wrap_u64]
variable{a:Nat}{α:Type}
theorem hz(h1:a<18446744073709551616:=by omega):bY .u64 (a:Int)=a:=lf (by simp) (by omega)
theorem Hf:(2:Nat)^64=18446744073709551616:=by rfl
theorem QN{b:Nat}(c:a<18446744073709551616)(d:b<18446744073709551616):sd .u64 (a:Int) (b:Int)=((a ||| b:Nat):Int):=by
 have e:a ||| b<2^64:=Nat.or_lt_two_pow (by grind) (by grind);show IntKind.u64.wrap (BitVec.ofInt 64 _ ||| BitVec.ofInt 64 _).toNat=_;grind[lf]
theorem RD{n c i:Nat}(h:n<2^i):n ||| (c*2^i)=n+c*2^i:=by rw[Nat.or_comm,Nat.mul_comm,<-Nat.two_pow_add_eq_or_of_lt h,Nat.add_comm]
theorem adr{b:Nat}(a:b<256):BZ .u8 (b:Int) 127=((b%128:Nat):Int):=by
 have e:(BitVec.ofInt 8 b &&& BitVec.ofInt 8 (127:Nat)).toNat=b%128:=by
  rw[xd,xd,BitVec.toNat_and,yL,oV (by omega)];exact Nat.and_two_pow_sub_one_eq_mod b 7
 show IntKind.u8.wrap (BitVec.ofInt 8 _ &&& BitVec.ofInt 8 (127:Nat)).toNat=_;grind[IntKind.wrap_u8]
theorem OI{k:Nat}(b:k<=64)(h:a*2^k<18446744073709551616):nG .u64 (a:Int) (k:Int)=((a*2^k:Nat):Int):=by
 grind[nG,IntKind.bits,lf]
theorem uW(h:a<18446744073709551616):fB .u64 (a:Int) 2=((a/2:Nat):Int):=by
 grind[fB,lf]
theorem A0{b:Nat}:b9 (a:Int) (b:Int)=((a%b:Nat):Int):=by rfl
theorem uE{b:Nat}(h:a*b<18446744073709551616):gB .u64 (a:Int) (b:Int)=((a*b:Nat):Int):=by
 grind[gB,lf]
theorem RE{a b:Int}(h1: -9223372036854775808<=a*b)(c:a*b<=9223372036854775807):gB .i64 a b=a*b:=by grind[gB,IntKind.wrap_i64]
theorem sH{b:Nat}(h:a+b<18446744073709551616):aK .u64 (a:Int) (b:Int)=((a+b:Nat):Int):=by
 grind[aK,lf]
theorem wV{b:Nat}(h:a+b<=9223372036854775807):aK .i64 (a:Int) (b:Int)=((a+b:Nat):Int):=by grind[kp]
theorem bA(h:a<9223372036854775807):aK .i64 (a:Int) 1=((a+1:Nat):Int):=by grind[kp]
theorem uy(s:aj)(i:Nat):fY s (i:Int)=((s.getD i 0).toNat:Int):=by rfl
theorem zS(s:aj)(i:Nat):(s.getD i 0).toNat<256:=UInt8.toNat_lt _
theorem oM(l:List α)(k:Nat):et l (k:Int) (l.length:Int)=l.drop k:=by simp[et]
theorem uz(l:List α)(k:Nat):et l 0 (k:Int)=l.take k:=by rfl
theorem jW{b n:Nat}(h1:a<=b)(c:b<=n):d' (a:Int) (b:Int) n=true:=by grind[d']
theorem Jy(a b:Nat):ja (a:Int) (b:Int)=((min a b:Nat):Int):=by grind[ja]
theorem cV{k n:Nat}(a:k<=1000:=by omega)(h:n<=100000:=by simp;omega):room k n=true:=by
 unfold room hF dT;simp;have:(2*n+192)*k<=200192*1000:=CN (by omega) a;omega
end
section
open Go Go.Proofs Go.Proofs.YtdjagncoefjfeaaGreat Go.Sort Go.RowKit
variable {P:Program}{α:Type}[Inhabited α]
theorem XY(w:World)(blk:Nat)(f:Array Value->Array Value){b:Nat}(h:b≠blk):(mapBlock w blk f).heap[b]?=w.heap[b]?:=by simp[mapBlock,Gw,dZ h]
theorem XD(w:World)(blk:Nat)(f:Array Value->Array Value){c:Array Value}{E:TypeId}{a:Nat×Nat}(h:w.heap[blk]?=some (.cells c E a)):(mapBlock w blk f).heap[blk]?=some (.cells (f c) E a):=by
 simp[mapBlock,Gw,h,onCells]
theorem ads{g k:Nat}(enc:α->List Value)(m:α->List T)(F:Array α->Array α)(aP:∀x,(enc x).length=k)(M:∀x,(m x).length=k)(K:0<k)
 (dm:∀(w:World) (S:dS) (x:α) (j:Nat) (t:T) (v:Value),(m x)[j]?=some t->ch w S t v->(enc x)[j]?=some v)
 (bn:∀d:Array α,(F d).size=d.size/\∀x,x∈(F d).toList->x∈d.toList)
 (aq:∀(blk off cap:Nat) (d:Array α) (w:World),HoldsK enc k w blk off d->blk<w.heap.size->d.size<4611686018427387904->
  Calls P f #[.slice (some ⟨blk,off,none⟩) d.size cap,.func (.func g) #[] #[]] w λe w'=>e= .returned (.tuple #[])/\∃n os,w'=sortWorldK enc k w blk off n (F d) os)
 (aH:∀(p:Option Addr) (cap:Nat) (ak:Value) (w:World),Calls P f #[.slice p 0 cap,ak] w λe w'=>e= .returned (.tuple #[])/\w'=w)
 {J:ba}{d:List α}(h0:aY J 0=some (.arr k (d.map m)))(az:0<kk):
 ej P f [.c (.arr 0 k 0 d.length),.c (.fn g [])] J kk (λr J' N'=>r= .a6 []/\J'=c9 J 0 (.arr k ((F d.toArray).toList.map m))/\N'=kk):=by
 intro φ S w B q aS aJ aN vs I;cases I with|cons z I=>
 cases I with|cons O I=>
 cases I;cases z with|c z=>
 cases O with|c O=>
 obtain⟨a,rfl,am,aQ⟩:=z;have aK:_=Value.func (.func g) #[] #[]:=O;subst aK;obtain⟨ah,ad,aR,_,ao⟩:=q.blk 0 _ h0;rw[jc]at ah ad;obtain⟨ai,aE⟩:=bn d.toArray;have Y:∀ w':World,Ext B S S w w'->qP φ w' S (c9 J 0 (.arr k ((F d.toArray).toList.map m)))->∃ v r D bT J' N',Ending.returned (Value.tuple #[]) = Ending.returned v/\(r = V.a6 []/\J' = c9 J 0 (.arr k ((F d.toArray).toList.map m))/\N' = kk)/\ck D w' bT r v/\r.aF (lt N') = true/\qP D w' bT J'/\(∀ (b:Nat) x,aY J' b = some x->b<N'/\x.aF (lt N') = true)/\Ext B S bT w w'/\
  (∀(b:Nat) x,aY J' b=some x->(D b).2≠0->B (D b).1\/w.heap.size<=(D b).1)/\∀b,b<kk->D b=φ b:=by
  intro w' ec aI;refine⟨_,.a6 [],φ,S,_,kk,rfl,⟨rfl,rfl,rfl⟩,.a6 [] [] rfl (by simp),rfl,aI,λb x l=>?_,ec,λb x l o=>?_,λ_ _=>rfl⟩
  . rw[c0]at l;split at l
    . rename_i o;cases l;subst o;exact⟨az,rfl⟩
    grind
  grind[c0]
 by_cases L:(φ 0).2=0
 ·
  have ar:d=[]:=j4 (by omega);subst ar;refine(aH a _ _ w).mono ?_
  rintro e w' ⟨rfl,rfl⟩
  have he:(F ([]:List α).toArray).toList.map m=([]:List α).map m:=by grind
  refine Y _ Ext.refl ?_;rw[he];refine⟨λb x l=>?_,λb G x y l U=>?_,q.st⟩
  . rw[c0]at l;split at l
    . rename_i o;cases l;subst o;exact q.blk _ _ h0
    . exact q.blk b x l
  . have key:∀b x,aY (c9 J 0 (.arr k (([]:List α).map m))) b=some x->∃A,aY J b=some A:=by
     intro b x l;rw[c0]at l;grind
    obtain⟨A,Q⟩:=key b x l;obtain⟨X,W⟩:=key G y U;exact q.inj b G A X Q W
 . obtain⟨vs,E,aa,aj,ap,ae⟩:=ao L;rw[am L];have ag:∀(i j:Nat) (t:T) (x:α),d[i]?=some x->(m x)[j]?=some t->∃v,vs[i*k+j]?=some v/\ch w S t v/\(enc x)[j]?=some v:=by
    intro i j t x s u;obtain⟨v,z,af⟩:=ap i j (m x) t (by rw[r9,s];rfl) u;grind
   have Z:(φ 0).1<w.heap.size:=(by grind);have al:HoldsK enc k w (φ 0).1 (0*k) d.toArray:=by
    intro j u;rw[size_flatK]at u;have ax:j<d.length*k:=(by simpa using u);have s:j/k<d.length:=(Nat.div_lt_iff_lt_mul K).2 ax;have H:j%k<k:=yS _ K;have l:d[j/k]?=some d[j/k]:=fb s;have aD:j%k<(m d[j/k]).length:=by rw[M];exact H
    obtain⟨v,z,_,he⟩:=ag (j/k) (j%k) _ _ l (fb aD);have ay:j/k*k+j%k=j:=by rw[Nat.mul_comm];exact Nat.div_add_mod j k
    rw[ay]at z;refine⟨?_,by simp[World.frozen?,aa]⟩;rw[CQ,gC,js aa,z,get_flatK _ _ _ _ u];grind
   have aA:d.toArray.size<4611686018427387904:=by
    have:dT=281474976710656:=rfl;simp;omega
   refine(aq (φ 0).1 (0*k) _ d.toArray w al Z aA).mono ?_
   rintro e w' ⟨rfl,n,os,rfl⟩
   have N:∀b:Nat,b<w.heap.size->b≠(φ 0).1->(sortWorldK enc k w (φ 0).1 (0*k) n (F d.toArray) os).heap[b]?=w.heap[b]?:=by
    intro b o aF;unfold sortWorldK putRowK putRow;rw[heap_grow_old _ _ (by simpa[mapBlock,Go.Sort.ahead]using o),XY _ _ _ aF];rfl
   have aG:(sortWorldK enc k w (φ 0).1 (0*k) n (F d.toArray) os).heap[(φ 0).1]?=some (.cells (putCells id (0*k) (flatK enc k (F d.toArray)) vs.toArray).toList.toArray E (0,0)):=by
    unfold sortWorldK putRowK putRow;rw[heap_grow_old _ _ (by simpa[mapBlock,Go.Sort.ahead]using Z),XD (Go.Sort.ahead w n) _ _ (by exact aa)]
   have H:gq w S _ S:=⟨λ_ _ h=>h,λb j h=>q3 (N b (q.st b j h) (λe=>ae j (e▸h))) j⟩
   refine Y _ ⟨rfl,rfl,rfl,?_,λb o du=>N b o (λe=>du (e▸aJ 0 _ h0 L)),H,λ_ _ h=>.inl h⟩ ⟨λb x l=>?_,λb G x y l U=>?_,λb j h=>?_⟩
   . unfold sortWorldK putRowK putRow;simp[grow,mapBlock,Go.Sort.ahead]
   . rw[c0]at l;split at l
     . rename_i o;cases l;subst o;refine⟨by simpa[ai]using ah,by simpa[ai]using ad,λe he=>?_,K,λ_=>⟨_,E,aG,by simpa[putCells]using aj,λi j e t s u=>?_,ae⟩⟩
       . obtain⟨x,_,rfl⟩:=eS.1 he;exact M x
       . rw[r9]at s;cases R:(F d.toArray).toList[i]? with
         |none=>rw[R]at s;cases s
         |some x=>
          rw[R]at s;have:e=m x:=(mC s).symm;subst this;have l:x∈d:=(by simpa using aE x (fl R));obtain⟨aL,av,au⟩:=e3 l;obtain⟨v,z,af,he⟩:=ag aL j t x (by rw[fb av,au]) u;refine⟨v,?_,ch.mono H af⟩;have aO:j<k:=by rw[<-M x];exact(dQ.1 u).1
          have aw:i<(F d.toArray).size:=(by grind);have aC:i*k+j<(F d.toArray).size*k:=by
           have:=eZ k (show i+1<=(F d.toArray).size from aw);grind
          have aB:i*k+j<vs.length:=by
           rw[aj];refine mx aC (eZ k ?_);grind
          have d1:(i*k+j)/k=i:=(blk_iff k i _ K).1 ⟨by omega,by omega⟩;have d2:(i*k+j)%k=j:=by rw[Nat.mod_eq_sub_div_mul,d1];omega
          have aM:(F d.toArray)[i]! =x:=(by grind);have:(putCells id (0*k) (flatK enc k (F d.toArray)) vs.toArray).toList[i*k+j]?=some ((flatK enc k (F d.toArray))[i*k+j]!):=by
           rw[Gx];simp only[putCells,Array.getElem?_mapIdx];rw[show vs.toArray[i*k+j]?=some vs[i*k+j] by simp[aB]];simp[size_flatK,aC]
          rw[this,get_flatK _ _ _ _ aC,d1,d2,aM,List.getElem!_eq_getElem?_getD,he];rfl
     . rename_i o;have an:b≠0:=λe=>o (by simp[e]);refine cW.mono (n:=λ_=>true) H (λ_ _=>rfl) rfl (by cases x<;>simp[bV.aF,C.mS]) (λab=>N _ ((q.blk b x l).j6 ab) (q.inj b 0 x _ l h0 an ab L)) (q.blk b x l)
   . have key:∀b x,aY (c9 J 0 (.arr k ((F d.toArray).toList.map m))) b=some x->∃A,aY J b=some A:=by
      intro b x l;rw[c0]at l;grind
     obtain⟨A,Q⟩:=key b x l;obtain⟨X,W⟩:=key G y U;exact q.inj b G A X Q W
   . have:=q.st b j h;unfold sortWorldK putRowK putRow;simp[grow,mapBlock,Go.Sort.ahead];omega
def lb(lt:α->α->Bool)(l:List α):List α:=(pdq lt l.toArray 0 l.length (Lib.bitLen l.length) true true).toList
theorem H7{lt:α->α->Bool}(a:SWO lt)(l:List α):(lb lt l).Perm l:=by
 obtain⟨⟨hs,_,b⟩,_⟩:=pdq_sorts lt a l.toArray 0 l.length (Lib.bitLen l.length) true true (iq _) (by simp) (Or.inl rfl);grind[Array.extract_size,lb]
theorem aan{lt:α->α->Bool}(a:SWO lt)(l:List α):(lb lt l).length=l.length:=(H7 a l).length_eq
theorem aao{lt:α->α->Bool}(a:SWO lt)(l:List α):(lb lt l).Pairwise λx y=>lt y x=false:=by
 obtain⟨⟨hs,_,_⟩,aI⟩:=pdq_sorts lt a l.toArray 0 l.length (Lib.bitLen l.length) true true (iq _) (by simp) (Or.inl rfl);have e:=aan a l;rw[uN];intro i j c d b;have:=aI i j (iq _) b (by grind);grind[lb]
def Ha(U:cJ)(f n g:Nat)(F:List (U.D n)->List (U.D n)):cI U:=
 ⟨f,[.c (.arr 0),.c (.fn g [])],[.arr (.nm n)],[.slice (.nm n)],.a6 [],[.arr (.nm n)],[.slice (.nm n)],λ(l:List (U.D n))=>some (F l)⟩
theorem adt{n g:Nat}[Inhabited (U.D n)](enc:U.D n->List Value)(lt:U.D n->U.D n->Bool)(E:SWO lt)(J:∀x,(enc x).length=(aN.nm n).sz U)
 (dm:∀(w:World) (S:dS) (x:U.D n) (j:Nat) (t:T) (v:Value),((aN.nm n).enc U x)[j]?=some t->ch w S t v->(enc x)[j]?=some v)
 (H:∀(blk off cap:Nat) (d:Array (U.D n)) (w:World),HoldsK enc ((aN.nm n).sz U) w blk off d->blk<w.heap.size->d.size<4611686018427387904->
  Calls P f #[.slice (some ⟨blk,off,none⟩) d.size cap,.func (.func g) #[] #[]] w λe w'=>e= .returned (.tuple #[])/\∃M os,w'=sortWorldK enc ((aN.nm n).sz U) w blk off M (pdq lt d 0 d.size (Lib.bitLen d.size) true true) os)
 (K:∀(p:Option Addr) (cap:Nat) (z:Value) (w:World),Calls P f #[.slice p 0 cap,z] w λe w'=>e= .returned (.tuple #[])/\w'=w):
 hY P (Ha U f n g (lb lt)):=by
 intro l r bn O J1 a aI;have L:=(mC bn).symm;subst L;cases a with|cons a c=>
 cases c with|cons c F=>
 cases F;obtain⟨sz,m,rfl,_,I⟩:=cb.hl a;have:=cb.F' c;subst this;have u:Shv.a8 ((Ha U f n g _).iy l) 0=some _:=rfl;have o:=I _ u _ rfl;obtain⟨_,R,A,b0⟩:=aI 0 _ u;cases b0;have aM:=(eM Prod.fst o).symm;have y:=(eM Prod.snd o).symm;subst aM;subst y;have s:∀d:Array _,(lb lt d.toList).Perm d.toList:=λd=>H7 E d.toList
 refine(ads enc _ (λd=>(lb lt d.toList).toArray) J (λx=>aN.sV) aN.xH dm
  (λd=>⟨by simpa using(s d).length_eq,λx i=>(s d).mem_iff.1 (by grind)⟩) (λblk off cap d w h1 B C=>?_) K A Nat.one_pos).mono ?_
 . have:=H blk off cap d w h1 B C;simpa[lb]using this
 . rintro Q s1 N ⟨rfl,rfl,rfl⟩
   refine⟨rfl,.a6 [] [] rfl (by simp),λb x i=>?_⟩;generalize lb lt l=q at i⊢;have k:(if b=0 then some (cO.arr (.nm n) q)else none)=some x:=by
    rw[<-i];cases b<;>rfl
   split at k
   . rename_i G;cases k;subst G;refine⟨Nat.one_pos,_,?_,.arr (.nm n) q⟩;rw[c0];rfl
   . cases k
theorem abV(w:World)(S:dS)(i:Int)(s:aj)(j:Nat)(t:T)(v:Value)(h:[T.int .i64 i,T.str s][j]?=some t)(a:ch w S t v):[Value.int .i64 i,Value.string ⟨s.toArray⟩][j]?=some v:=by
 match j,h with
 |0,h=>cases h;cases a;rfl
 |1,h=>cases h;cases a;rfl
theorem adV(key:α->Int):SWO (λx y=>decide (key x<key y)) where
 irrefl x:=by simp
 trans x y z h1 a:=by grind
 ntrans x y z h1 a:=by grind
end
section
open Go Go.Proofs Go.Proofs.YtdjagncoefjfeaaGreat Go.Sort
def lj{α:Type}(a b:Option α):Prop:=∀r,a=some r->b=some r
theorem lj.r{α:Type}{a:Option α}:lj a a:=λ_ h=>h
theorem lj.n{α:Type}{a:Option α}:lj none a:=λ_ h=>by grind
theorem lj.b{α j:Type}{a b:Option α}{k c:α->Option j}(h:lj a b)(e:∀x,lj (k x) (c x)):lj (a>>=k) (b>>=c):=by
 intro r f;cases a with
 |none=>grind
 |some x=>rw[h x rfl];exact e x r f
theorem lj.i{α:Type}{p:Prop}[Decidable p]{a b c d:Option α}(h:lj a c)(k:lj b d):lj (if p then a else b) (if p then c else d):=by grind
variable {α:Type}[Inhabited α]
def oP(lt:α->α->Bool)(x:α):List α->List α
 |[]=>[x]
 |y::r=>if lt x y then x::y::r else y::oP lt x r
def fO(lt:α->α->Bool):List α->List α
 |[]=>[]
 |x::r=>oP lt x (fO lt r)
def kq(lt:α->α->Bool):List α->Bool
 |[]=>true
 |x::r=>r.all (λy=>lt x y||lt y x)&&kq lt r
theorem JP(lt:α->α->Bool)(x:α):∀l,(oP lt x l).Perm (x::l)
 |[]=>.refl _
 |y::r=>by
  simp[oP];split
  . rfl
  . exact((JP lt x r).cons y).trans (.swap x y r)
theorem kM(lt:α->α->Bool):∀l,(fO lt l).Perm l
 |[]=>.refl _
 |x::r=>(JP lt x _).trans ((kM lt r).cons x)
theorem MW{lt:α->α->Bool}(b:SWO lt)(x:α):∀{l:List α},l.Pairwise (λx y=>lt y x=false)->(oP lt x l).Pairwise λx y=>lt y x=false
 |[],_=>by simp[oP]
 |y::r,h=>by
  rw[jb]at h;simp[oP];split
  . rename_i d;have e:lt y x=false:=by
     cases c:lt y x with
     |false=>rfl
     |true=>have:=b.trans _ _ _ d c;rw[b.irrefl]at this;grind
    rw[jb];refine⟨λz a=>?_,jb.2 h⟩;rcases eR.1 a with rfl|a
    . grind
    . exact b.ntrans _ _ _ (h.1 z a) e
  . rw[jb];refine⟨λz a=>?_,MW b x h.2⟩;rcases eR.1 ((JP lt x r).mem_iff.1 a)with rfl|a
    . grind
    grind
theorem DK{lt:α->α->Bool}(a:SWO lt):∀l:List α,(fO lt l).Pairwise λx y=>lt y x=false
 |[]=>.nil
 |x::r=>MW a x (DK a r)
theorem MO{lt:α->α->Bool}:∀{l:List α},kq lt l=true->∀a b,a∈l->b∈l->a=b\/lt a b=true\/lt b a=true
 |x::r,h,a,b,c,e=>by
  simp[kq]at h;rcases eR.1 c with g|d<;>rcases eR.1 e with i|f
  . grind
  . grind
  . grind
  . exact MO h.2 a b d f
theorem MX{lt:α->α->Bool}{l:List α}(i:kq lt l=true):∀{a b:List α},a.Perm l->b.Perm l->a.Pairwise (λx y=>lt y x=false)->b.Pairwise (λx y=>lt y x=false)->a=b:=by
 intro a b d e h1 c;refine List.Perm.eq_of_pairwise (λx y j k f g=>?_) h1 c (d.trans e.symm);grind[MO]
theorem QO{lt:α->α->Bool}(a:SWO lt){l:List α}(b:kq lt l=true):lb lt l=fO lt l:=
 MX b (H7 a l) (kM lt l) (aao a l) (DK a l)
def G'(lt:α->α->Bool)(l:List α):Option (List α):=if kq lt l then some (fO lt l)else none
theorem adu{lt:α->α->Bool}(a:SWO lt)(l:List α):lj (G' lt l) (some (lb lt l)):=by
 intro r h;grind[G',QO]
end
end Go.Proofs.YtdjagncoefjfeaaGreat.Shv
