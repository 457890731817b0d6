/- The library of this proof, part D: an abstract machine for the code of the program, and its soundness. -/
import Derived.KernelRfl
import Derived.Shelf.Strings.Builder1
import Derived.ChangeArms
import Derived.ChangeStays
import Derived.ChangeSame
import Derived.SizedLaws
import Derived.Below
import Derived.WalkKit
import Derived.ProofKit
import Derived.OpenShut
import Derived.Laws.BitsLemmas
import Derived.Laws.Bits64
import Derived.Shelf.GgSortFunc.InsertionK
import Derived.Shelf.SlSortCmp.Insertion
import Derived.Sort.AssemblyPlain
import Derived.Lib.BitFns
import Derived.Test.YtdjagncoefjfeaaGreatCtLC

namespace Go.Proofs.YtdjagncoefjfeaaGreat.Shv
set_option linter.all false
section
open Go
variable {xb:a7}
variable {U:cM}{R:Type}
def ow(gl:eA)(gd:Option (Nat×Bool))(dst:Option Nat):Bool:=
 match dst with
 |none=>true
 |some d=>(gl.all λe=>!(Nat.beq e.1 d) && !(Nat.beq e.2.1 d))&&(match gd with
  |some g=>!(Nat.beq g.1 d)
  |none=>true)
def gE(dst:Option Nat)(v:bJ U)(env:bS U):bS U:=
 match dst with
 |none=>env
 |some d=>(d,v)::env
def iH(gl:eA)(gd:Option (Nat×Bool))(dst:Option Nat):eA:=
 match gd,dst with
 |some g,some d=>(d,g)::gl
 |_,_=>gl
abbrev fW(U:cM):=Nat->List (cH U)
abbrev kZ(U:cM):=bS U->Option (List (bJ U))
def S5(s:cH U)(c:kZ U)(env:bS U)(J:bg U)(key:Nat):Option (bS U×bg U×a7×aO U.D s.ts):=
 match c env with
 |none=>none
 |some vs=>match w7 J 0 0 s.st (C1 s.gC vs ([],[])) []with
  |(bs,d)=>match kY d env J with
   |none=>none
   |some (env',J')=>match c env' with
    |none=>none
    |some e=>match ue bs&&((bs.all λb=>Nat.ble (b+1) key)&&(Nat.beq bs.length s.st.length&&Nat.ble s.eK.length (bs.length+16)))with
     |false=>none
     |true=>match mD bs s.gC e,iS bs J' 0 s.st with
      |some a,some b=>match aO.dec U.D s.ts (a++b)with
       |some h=>some (env',J',bs,h)
       |none=>none
      |_,_=>none
def xt(b:kZ U)(env:bS U)(J:bg U)(key:Nat)(k:bS U->bg U->bJ U->Option R):List (cH U)->Option R
 |[]=>none
 |s::r=>match S5 s b env J key with
  |none=>xt b env J key k r
  |some (env',J',bs,h)=>(s.F h)>>=λa=>match oQ J' (s.rest a) 0 bs with
   |none=>none
   |some c=>if c then k env' (nr J' bs (back bs key) (s.rest a)) ((s.res a).cf (back bs key))else none
def isNil{α:Type}:List α->Bool
 |[]=>true
 |_=>false
def Gb(s:cH U)(b:kZ U)(env:bS U):Option (aO U.D s.ts):=
 match isNil s.st&&isNil s.eK,b env with
 |true,some vs=>match vs.all gI,mD [] s.gC vs with
  |true,some a=>aO.dec U.D s.ts a
  |_,_=>none
 |_,_=>none
def xr(a:kZ U)(env:bS U)(g:Bool)(k:bJ U->Option R):List (cH U)->Option R
 |[]=>none
 |s::r=>match Gb s a env with
  |none=>xr a env g k r
  |some h=>(if g then s.F h else some (aO.ke U s.us))>>=λb=>match gI (s.res b)with
   |true=>k (s.res b)
   |false=>none
def hasB(J:bg U)(b:Nat):Bool:=match a8 J b with
 |some _=>true
 |none=>false
def bm.jz(J:bg U):bm U->Bool
 |.t _|.dM .. |.aA|.e7|.e6=>true
 |.ptr b _=>hasB J b
 |.cJ b _ _ _=>hasB J b
 |.fn _ caps=>caps.all (hasB J)
 |.arr b=>match a8 J b with
  |some x=>(match x.dh with
   |some _=>true
   |none=>false)
  |none=>false
 |.sub .. =>false
 |.pre .. =>false
 |.dO .. =>false
 |.mp b=>hasB J b
 |.ew _=>false
 |.cP b=>match a8 J b with
  |some x=>(match x.dh with
   |some p=>Nat.beq p.1 1
   |none=>false)
  |none=>false
 |.dead=>false
def kM(J:bg U):bJ U->Bool
 |.c x=>x.jz J
 |.agg cs=>cs.all (bm.jz J)
 |.aY vs=>go J vs
where go (J:bg U):List (bJ U)->Bool
 |[]=>true
 |v::vs=>kM J v&&go J vs
def bm.il(J:bg U):bm U->C
 |.t c=>.t (c.enc U)
 |.dM ty x o=>.dM (ty.enc U x) o
 |.aA=>.aA
 |.e7=>.e7
 |.e6=>.e6
 |.fn f caps=>.fn f caps
 |.ptr b o=>.ptr b o
 |.cJ b ty i o=>.cJ b (ty.sz U) i o
 |.arr b=>match a8 J b with
  |some x=>(match x.dh with
   |some p=>.arr b p.1 0 p.2
   |none=>.dead)
  |none=>.dead
 |.sub b a len=>.fL b 1 a len
 |.pre _ _=>.dead
 |.dO .. =>.dead
 |.mp b=>.mp b
 |.ew b=>.ew b
 |.cP b=>match a8 J b with
  |some x=>(match x.dh with
   |some p=>.cP b p.2
   |none=>.dead)
  |none=>.dead
 |.dead=>.dead
def ik(J:bg U):bJ U->V
 |.c x=>.c (x.il J)
 |.agg cs=>.agg (cs.map (bm.il J))
 |.aY vs=>.aY (go J vs)
where go (J:bg U):List (bJ U)->List V
 |[]=>[]
 |v::vs=>ik J v::go J vs
def gm(J:bg U):cS U->Bool
 |.box cs=>cs.all (bm.jz J)
 |.arr _ _=>true
 |.rows .. =>false
 |.set _=>true
 |.buf _ _=>true
 |.b9 _ c=>c.jz J
 |.cA .. =>false
def sE(J:bg U):cS U->bR
 |.box cs=>.box (cs.map (bm.il J))
 |.arr ty l=>.arr (ty.sz U) (l.map (ty.enc U))
 |.rows sz _=>.arr sz []
 |.set ks=>.set ks
 |.buf E s=>.buf E s
 |.b9 E c=>.b9 E (c.il J)
 |.cA t l i o _=>.cA (t.sz U) (l.map (t.enc U)) i o .dead
def ky(J:bg U):bg U->ba
 |[]=>[]
 |(b,x)::r=>(b,sE J x)::ky J r
def IU(J:bg U)(l:bg U):Bool:=l.all λp=>Nat.ble (p.1+1) 16&&gm J p.2
def Ga(s:cH U)(b:kZ U)(env:bS U):Option (aO U.D s.ts):=
 match isNil s.st&&Nat.ble s.eK.length 16,b env with
 |true,some vs=>match vs.all gI,mD [] s.gC vs with
  |true,some a=>aO.dec U.D s.ts a
  |_,_=>none
 |_,_=>none
def zp(b:kZ U)(env:bS U)(J:bg U)(key:Nat)(k:bg U->bJ U->Option R):List (cH U)->Option R
 |[]=>none
 |s::r=>match Ga s b env with
  |none=>zp b env J key k r
  |some h=>(s.F h)>>=λa=>match kM (s.rest a) (s.res a)&&IU (s.rest a) (s.rest a)with
   |true=>k (nr J [] (back [] key) (s.rest a)) ((s.res a).cf (back [] key))
   |false=>none
def bm.f':bm U->a7
 |.ptr b _|.cJ b _ _ _|.arr b|.sub b _ _|.pre b _|.dO b _ _|.mp b|.ew b|.cP b=>[b]
 |.fn _ caps=>caps
 |_=>[]
def bJ.f':bJ U->a7
 |.c x=>x.f'
 |.agg cs=>cs.flatMap bm.f'
 |.aY _=>[]
def l7(l:a7)(b:Nat):Bool:=l.any λc=>Nat.beq c b
def S6(xb:a7)(s:cH U)(d:kZ U)(env:bS U)(J:bg U)(key:Nat):Option (a7×aO U.D s.ts):=
 match d env with
 |none=>none
 |some vs=>match w7 J 0 0 s.st (C1 s.gC vs ([],[])) []with
  |(bs,c)=>match isNil c&&(ue bs&&((bs.all λb=>Nat.ble (b+1) key&&((l7 (vs.flatMap bJ.f') b||l7 xb b)&&hasB J b))&&(Nat.beq bs.length s.st.length&&(Nat.ble bs.length s.eK.length&&Nat.ble s.eK.length (bs.length+16)))))with
   |false=>none
   |true=>match mD bs s.gC vs,iS bs J 0 s.st with
    |some a,some b=>match aO.dec U.D s.ts (a++b)with
     |some h=>some (bs,h)
     |none=>none
    |_,_=>none
def Jh(n:Nat)(J:bg U)(l:bg U):Bool:=l.all λp=>Nat.ble (p.1+1) n&&gm J p.2
def w4(xb:a7)(b:kZ U)(env:bS U)(J:bg U)(key:Nat)(k:bg U->bJ U->Option R):List (cH U)->Option R
 |[]=>none
 |s::r=>match S6 xb s b env J key with
  |none=>w4 xb b env J key k r
  |some (bs,h)=>(s.F h)>>=λa=>match kM (s.rest a) (s.res a)&&Jh (bs.length+16) (s.rest a) (s.rest a),oQ J (s.rest a) 0 bs with
   |true,some c=>if c then k (nr J bs (back bs key) (s.rest a)) ((s.res a).cf (back bs key))else none
   |_,_=>none
def afd(a:kZ U)(env:bS U)(l:List (cH U)):Bool:=l.any λs=>(Ga s a env).isSome
def afe(a:kZ U)(env:bS U)(l:List (cH U)):Bool:=l.any λs=>(Gb s a env).isSome
def ahT(gd:Option (Nat×Bool))(a:kZ U)(env:bS U)(l:List (cH U)):Bool:=
 match gd with
 |some _=>!(afe a env l)
 |none=>false
def afw(d:Option a7):a7:=match d with
 |some l=>l
 |none=>[]
def Il(fo:fW U)(d:Option a7)(gd:Option (Nat×Bool))(f:Nat)(a:kZ U)(gl:eA)(env:bS U)(J:bg U)(key:Nat)(k:bS U->bg U->bJ U->Option R):Option R:=
 match gd with
 |none=>match d with
  |none=>xt a env J key k (fo f)
  |some xb=>match afd a env (fo f)with
   |true=>zp a env J key (λJ v=>k env J v) (fo f)
   |false=>w4 xb a env J key (λJ v=>k env J v) (fo f)
 |some _=>match lA gl env qI gd with
  |some g=>xr a env g (λv=>k env J v) (fo f)
  |none=>none
abbrev j4:=List (Nat×Bool)
def vg(nf:j4)(gl:eA):Nat->Option (Nat×Bool)->Bool
 |0,_=>false
 |_,none=>false
 |a+1,some (t,b)=>(nf.any λg=>Nat.beq g.1 t&&(g.2==b))||vg nf gl a (a8 gl t)
def lu(nf:j4)(dst:Option Nat):Bool:=
 match dst with
 |none=>true
 |some d=>nf.all λg=>!(Nat.beq g.1 d)
def EY:bJ U:= .c (.t ⟨.bool,false⟩)
def sk(fo:fW U)(d:Option a7)(o:ca)(key:Nat)(gl:eA)(nf:j4)(env:bS U)(J:bg U)(k:eA->j4->bS U->bg U->Option R):Option R:=
 match ow gl o.guard o.dst&&lu nf o.dst with
 |false=>none
 |true=>match vg nf gl qI o.guard with
  |true=>match lA gl env qI o.guard with
   |some _=>k (iH gl o.guard o.dst) nf (gE o.dst EY env) J
   |none=>none
  |false=>match o.op with
   |.call f args=>match ahT o.guard (λe=>lI gl o.guard e args) env (fo f)with
    |true=>match lA gl env qI o.guard,o.guard with
     |some g,some gd=>if g then w4 (afw d) (λe=>lI gl o.guard e args) env J key (λJ v=>k (iH gl o.guard o.dst) nf (gE o.dst v env) J) (fo f)else k (iH gl o.guard o.dst) (gd::nf) (gE o.dst EY env) J
     |_,_=>none
    |false=>Il fo d o.guard f (λe=>lI gl o.guard e args) gl env J key λenv J v=>k (iH gl o.guard o.dst) nf (gE o.dst v env) J
   |.ic x args=>match d,o.guard,dg gl none env x with
    |none,none,some (.c (.fn f _))=>xt (λe=>match dg gl none e x,lI gl none e args with
     |some (.c (.fn i a)),some vs=>match Nat.beq i f with
      |true=>some (vs++a.map λb=>.c (.ptr b 0))
      |false=>none
     |_,_=>none) env J key (λenv J v=>k gl nf (gE o.dst v env) J) (fo f)
    |some _,none,some (.c (.fn f []))=>xr (λe=>lI gl none e args) env true (λv=>k gl nf (gE o.dst v env) J) (fo f)
    |_,_,_=>none
   |op=>match cr gl o.guard env J key op with
    |none=>none
    |some (c,v,J')=>match o.guard with
     |none=>if c then k gl nf (gE o.dst v env) J' else none
     |some gd=>match lA gl env qI (some gd)with
      |none=>none
      |some g=>match op.neutral with
       |true=>if(c || !g) then k (iH gl o.guard o.dst) nf (gE o.dst v env) J else none
       |false=>if g then(if c then k (iH gl o.guard o.dst) nf (gE o.dst v env) J' else none)else k (iH gl o.guard o.dst) (gd::nf) (gE o.dst EY env) J
def S0(J:bg U):bm U->List (Nat×aL)
 |.arr b=>match a8 J b with
  |some (.arr t _)=>[(b,t)]
  |_=>[]
 |_=>[]
def ahS(J:bg U):bJ U->List (Nat×aL)
 |.c x=>S0 J x
 |.agg cs=>cs.flatMap (S0 J)
 |.aY _=>[]
def F9(gl:eA)(gd:Option (Nat×Bool))(env:bS U)(J:bg U)(xs:List aR):List (Nat×aL):=
 xs.flatMap λx=>match dg gl gd env x with
  |some v=>ahS J v
  |none=>[]
def A9(l:List (Nat×aL))(env:bS U)(J:bg U):Option (bS U×bg U):=
 match l with
 |[]=>none
 |_=>kY l env J
def F'(gl:eA)(o:ca)(env:bS U)(J:bg U):Option (bS U×bg U):=
 match o.op with
 |.slc _ x _ _=>match dg gl o.guard env x with
  |some (.c (.arr b))=>match a8 J b with
   |some (.arr t _)=>kY [(b,t)] env J
   |_=>none
  |_=>none
 |.call _ args=>match o.guard with
  |some _=>A9 (F9 gl o.guard env J args) env J
  |none=>none
 |.bsliceT _ _ _ _ ps=>A9 (F9 gl o.guard env J (ps.map Prod.snd)) env J
 |.bslice _ _ _ ps=>A9 (F9 gl o.guard env J (ps.map Prod.snd)) env J
 |_=>none
def Ej(fo:fW U)(d:Option a7)(o:ca)(key:Nat)(gl:eA)(nf:j4)(env:bS U)(J:bg U)(k:eA->j4->bS U->bg U->Option R):Option R:=
 match d with
 |some xb=>sk fo (some xb) o key gl nf env J k
 |none=>match F' gl o env J with
  |none=>sk fo none o key gl nf env J k
  |some p=>sk fo none o key gl nf p.1 p.2 k
def rR(fo:fW U)(d:Option a7):List ca->Nat->eA->j4->bS U->bg U->(eA->bS U->bg U->Option R)->Option R
 |[],_,gl,_,env,J,k=>k gl env J
 |o::r,key,gl,nf,env,J,k=>Ej fo d o key gl nf env J λgl nf env J=>rR fo d r (key+16) gl nf env J k
def BS(gl:eA)(k:Nat):Bool:=gl.any λe=>Nat.beq e.1 k
def clean(gl:eA):bS U->bS U
 |[]=>[]
 |(k,v)::r=>match BS gl k with
  |true=>clean gl r
  |false=>(k,v)::clean gl r
def zq(gl:eA)(env:bS U):bS U:=
 match gl with
 |[]=>env
 |_=>clean gl env
structure eN (key:Nat)(gl:eA)(nf:j4)(env:bS U)(J:bg U)(env1:Env)(J1:ba)(G:Nat->Bool):Prop where
 gV:c6 key J G env env1
 aq:gP gl env G
 eS:cz key J J1
 aH:∀g,g∈nf->cC env G (some g)=false
variable{N:Nat}{o:ca}{K:Env->ba->Prop}
section
variable {P:Program}{kk key:Nat}{J J':bg U}{J1 bq:ba}{env:bS U}{env1:Env}{G:Nat->Bool}{gl:eA}{gd:Option (Nat×Bool)}{nf:j4}{dst:Option Nat}{v:bJ U}{v1:V}
theorem Ia{d:Option Nat}{k:Nat}:a8 (gE d v env) k=if d=some k then some v else a8 env k:=by
 cases d with
 |none=>rfl
 |some d=>
  grind[gE,a8,c1,iD]
theorem Ek{o:Option (Nat×Bool)}{g:Bool}(h:lA gl env qI o=some g):o=none\/∃t b y,o=some (t,b)/\fk env t b=some y:=by
 cases o with
 |none=>simp
 |some x=>
  grind[ab0]
theorem Ly(aq:gP gl env G)(aH:∀g,g∈nf->cC env G (some g)=false):∀{a:Nat} {gd:Option (Nat×Bool)},vg nf gl a gd=true->cC env G gd=false
 |0,gd,h=>by grind[vg]
 |a+1,none,h=>by grind[vg]
 |a+1,some (t,b),h=>by
  simp only[vg,me,F6,c5]at h;rcases h with⟨⟨f,c⟩,e,h1,d⟩|h
  . grind[c1]
  . have:=Ly aq aH h;rw[aq.a8 t]at this;grind[cC]
theorem eN.bind(he:c6 key J' G env env1)(aq:gP gl env G)(aI:cz key J' bq)(aH:∀g,g∈nf->cC env G (some g)=false)(L:cb key J' v v1)(x:gd=none\/∃t b y,gd=some (t,b)/\fk env t b=some y)(A:ow gl gd dst=true)(f:lu nf dst=true):
 eN key (iH gl gd dst) nf (gE dst v env) J' (er env1 dst (cC env G gd) v1) bq (λk=>if dst=some k then cC env G gd else G k):=by
 refine⟨λk w a=>?_,?_,aI,λg j=>?_⟩
 . rw[Ia]at a;rw[pP];split at a
   . grind
   . rename_i h;rw[al h,al h];exact he k w a
 . cases dst with
   |none=>
    have:iH gl gd none=gl:=by cases gd<;>rfl
    simp_all[gE,reduceCtorEq,b6]
   |some d=>
    simp only[ow,c5,fK,uy]at A;have J:∀k t b,a8 gl k=some (t,b)->k≠d/\t≠d:=by
     intro k t b a;have K:∀{l:eA},a8 l k=some (t,b)->(k,t,b)∈l:=by
      intro l;induction l with
      |nil=>grind[a8]
      |cons e r ih=>
       obtain⟨M,e⟩:=e;intro h;simp only[a8]at h;split at h
       . simp_all
       grind
     grind[iD]
    have H:∀t b,t≠d->fk (gE (some d) v env) t b=fk env t b:=by
     intro t b ht;unfold fk;rw[Ia,al (by grind)]
    have p:∀k t b,a8 gl k=some (t,b)->∃y,fk (gE (some d) v env) t b=some y/\(if some d=some k then cC env G gd else G k)=((if some d=some t then cC env G gd else G t)&&y):=by
     intro k t b a;obtain⟨y,E,F⟩:=aq.held k t b a;grind
    cases gd with
    |none=>
     refine⟨λk a=>?_,λk t b a=>p k t b a⟩;by_cases c:some d=some k
     . rw[ae c];rfl
     . rw[al c];exact aq.free k a
    |some g=>
     obtain⟨t0,b0⟩:=g;have B:t0≠d:=by
      grind[Bool.not_eq_true',iD]
     refine⟨λk a=>?_,λk t b a=>?_⟩
     . simp only[iH,a8]at a;split at a
       . grind
       . rw[al (by grind[iD])];exact aq.free k a
     . simp only[iH,a8]at a;split at a
       . rename_i q;cases a;have:=c1 q;subst this;rcases x with h|⟨t,b,y,h,D⟩
         . grind
         . cases h;refine⟨y,by grind,?_⟩;rw[ae rfl,al (by simp;exactλe=>B e.symm)];simp[cC,D]
       . exact p k t b a
 . obtain⟨t,b⟩:=g;have h0:=aH _ j;cases dst with
   |none=>simpa[gE]using h0
   |some d=>
    simp only[lu,fK,uy]at f;have o:t≠d:=iD (f _ j);simp only[cC]at h0⊢;rw[al (by simp;exactλe=>o e.symm)];have:fk (gE (some d) v env) t b=fk env t b:=by
     unfold fk;rw[Ia,al (by simp;exactλe=>o e.symm)]
    rw[this];exact h0
theorem Ji:cb N J EY (.c (.t (.bool false))):= .c (.t _)
theorem DB(h:eN key gl nf env J env1 J1 G)(c:o.guard=none\/∃t b y,o.guard=some (t,b)/\fk env t b=some y)(aq:cC env G o.guard=false)(d:ow gl o.guard o.dst=true)(e:lu nf o.dst=true)(f:cb (key+16) J v v1):
 DStep xb P o key env1 J1 false v1 J1/\eN (key+16) (iH gl o.guard o.dst) nf (gE o.dst v env) J (er env1 o.dst false v1) J1 (λk=>if o.dst=some k then false else G k):=by
 have a:=Dz h.gV c;rw[aq]at a;refine⟨.skip a rfl,?_⟩;have:=eN.bind (h.gV.mono (ds.more (by simp))) h.aq (h.eS.mono (Nat.le_add_right _ 16)) h.aH f c d e;grind
theorem OF{c:Bool}(h:eN key gl nf env J env1 J1 G)(g:cr gl o.guard env J key o.op=some (c,v,J'))(d:o.guard=none\/∃t b y,o.guard=some (t,b)/\fk env t b=some y)(j:ow gl o.guard o.dst=true)(l:lu nf o.dst=true):
 (cC env G o.guard=true->c=true->∃v1 bq,DStep xb P o key env1 J1 true v1 bq/\eN (key+16) (iH gl o.guard o.dst) nf (gE o.dst v env) J' (er env1 o.dst true v1) bq (λk=>if o.dst=some k then true else G k))/\
 (cC env G o.guard=false->o.op.neutral=true->∃v1,DStep xb P o key env1 J1 false v1 J1/\eN (key+16) (iH gl o.guard o.dst) nf (gE o.dst v env) J (er env1 o.dst false v1) J1 (λk=>if o.dst=some k then false else G k)):=by
 obtain⟨⟨v1,f,n⟩,s,aH⟩:=Kx h.gV h.aq h.eS g;have i:=Dz h.gV d;refine⟨λaq q=>?_,λaq u=>?_⟩
 . obtain⟨p,bq,h1,a,m⟩:=n aq q;rw[aq]at i;have r:o.op.drawn=true:=by
    generalize o.op=w at g;cases w<;>first|rfl|(simp[cr]at g)
   have hs:DStep xb P o _ _ J1 _ v1 _:= .op i r h1 (λ_=>a) (.inr rfl);have e:(if o.op.neutral then J1 else bq)=bq:=by
    grind[y9]
   rw[e]at hs;refine⟨v1,bq,hs,?_⟩;have:=eN.bind (h.gV.mono s) h.aq m h.aH f d j l;grind
 . rw[aH u]at f;obtain⟨h1,a⟩:=DB h d aq j l f;exact⟨v1,h1,a⟩
theorem Lz{x:bm U}(h:x.sa=true):x.o3.bQ []=x.o3:=by
 cases x<;>simp[bm.sa]at h<;>try rfl
 rename_i f caps;cases caps with
 |nil=>rfl
 |cons=>grind
theorem Ib:∀{x:bJ U},gI x=true->(fJ x).bQ []=fJ x
 |.c x,h=>by grind[gI,fJ,V.bQ,Lz]
 |.agg cs,h=>by
  grind[gI,fJ,V.bQ,List.map_congr_left,Lz]
 |.aY vs,h=>by
  simp[fJ,V.bQ];rw[go vs h]
where go:∀(vs:List (bJ U)),gI.go vs=true->V.bQ.go [] (fJ.go vs)=fJ.go vs
 |[],_=>rfl
 |v::vs,h=>by
  simp[gI.go]at h;simp[fJ.go,V.bQ.go,Ib h.1,go vs h.2]
def fX(P:Program)(fo:fW U):Prop:=∀f s,s∈fo f->s.f=f/\hi P f=true/\hz P s
theorem Ic{a:bg U}{x:bm U}{d:C}(h:cc N a x d)(hs:x.jz a=true):d=x.il a:=by
 cases h<;>simp[bm.jz]at hs<;>try rfl
 . grind[bm.il]
 grind[bm.il]
theorem CV{a:bg U}:∀{vs:List (bJ U)} {i:Nat},(ik.go a vs)[i]?=(vs[i]?).map (ik a)
 |[],i=>by rfl
 |v::vs,0=>by rfl
 |v::vs,i+1=>by simp[ik.go,CV]
theorem T4{a:bg U}:∀{vs:List (bJ U)} {i:Nat} {v:bJ U},kM.go a vs=true->vs[i]?=some v->kM a v=true
 |[],i,v,_,h=>by grind
 |x::vs,0,v,hs,h=>by grind[kM.go]
 |x::vs,i+1,v,hs,h=>by simp[kM.go]at hs;exact T4 hs.2 (by simpa using h)
theorem HS{a:bg U}:∀{xs:List (bm U)} {b:List C},a' (cc N a) xs b->(∀x,x∈xs->x.jz a=true)->b=xs.map (bm.il a)
 |[],[],_,_=>rfl
 |x::xs,d::b,.cons h1 c,hs=>by
  rw[gB,<-Ic h1 (hs x (by simp)),<-HS c (λx e=>hs x (by grind))]
theorem MA{a:bg U}{x:bJ U}{d:V}(h:cb N a x d):kM a x=true->d=ik a x:=by
 induction h with
 |c h=>intro hs;rw[Ic h hs];rfl
 |agg h=>
  grind[kM,ik,HS]
 |aY xs f af h ih=>
  intro hs
  congr 1
  apply yE;intro i;rw[CV];cases b:xs[i]? with
  |none=>grind
  |some x=>
   have g:=(dS.1 b).1;have e:=e9 (l:=f) (i:=i) (by omega);rw[e]
   congr 1
   exact ih i x _ b e (T4 hs b)
theorem OG{a:bg U}{x:cS U}{y:bR}(h:hV N a x y)(hs:gm a x=true):y=sE a x:=by
 cases h with
 |box h=>grind[gm,sE,HS]
 |arr t l=>rfl
 |set ks=>rfl
 |buf E s=>rfl
 |b9 h=>grind[gm,sE,Ic]
 |cA=>grind[gm]
 |rows=>grind[gm]
theorem zW{a:bg U}:∀{l:bg U} {b:Nat},aX (ky a l) b=(a8 l b).map (sE a)
 |[],b=>rfl
 |(k,x)::r,b=>by
  simp[ky,aX,a8];cases h:Nat.beq k b with
  |true=>simp_all
  |false=>rw[al (iD h)];exact zW
theorem PH{k:Nat}:∀{v:V},v.cf (back [] k)=v.bI k
 |.c x=>by rfl
 |.agg cs=>by rfl
 |.aY vs=>by simp[V.cf,V.bI];rw[go vs]
where go:∀(vs:List V),V.cf.go _ vs=V.bI.go k vs
 |[]=>rfl
 |v::vs=>by simp only[V.cf.go,V.bI.go];rw[PH,go vs]
theorem KF{k:Nat}:∀{s:ba},hn J1 [] (back [] k) s=my J1 k s
 |[]=>rfl
 |(b,x)::r=>by
  simp[hn];rw[KF];rfl
theorem D6:∀{ss:List fO} {j:Nat} {a:eO U} {i:Nat} {x:cS U},a8 (hL j ss a) i=some x->j<=i/\i<j+ss.length
 |[],j,a,i,x,h=>by grind[hL,a8]
 |s::ss,j,a,i,x,h=>by
  simp[hL]at h;split at h
  . simp[a8]at h;split at h
    . simp_all
    . have:=D6 h;grind
  . have:=D6 h;grind
theorem KR{bs:a7}:∀{caps:a7},(∀c,c∈caps->pos bs c=some c)->pZ bs caps=some caps
 |[],_=>rfl
 |c::cs,h=>by simp[pZ,h c _,KR (caps:=cs) (λx a=>h x (by grind))]
theorem wR{a:bg U}(j:∀b x,a8 a b=some x->b<N){x:bm U}(hs:x.jz a=true):cc N a x (x.il a)/\dE ((x.il a).bQ (List.range N)) (x.il a):=by
 have g:∀b,hasB a b=true->pos (List.range N) b=some b:=by
  grind[hasB,m']
 cases x with
 |t c=>exact⟨.t c,dE.refl _⟩
 |ptr b o=>
  refine⟨.ptr b o,?_⟩;simp only[bm.il,C.bQ,g b hs];exact dE.refl _
 |cJ b ty i o=>
  refine⟨.cJ b ty i o,?_⟩;simp only[bm.il,C.bQ,g b hs];exact dE.refl _
 |dM ty x o=>exact⟨.dM ty x o,dE.refl _⟩
 |arr b=>
  simp only[bm.jz]at hs;split at hs
  . rename_i y d;split at hs
    . rename_i p e;simp only[bm.il,d,e];refine⟨.arr b p.1 p.2 (j b y d) λz l q k=>?_,?_⟩
      . grind
      grind[C.bQ,hasB,dE.refl]
    grind
  grind
 |dO b m len=>grind[bm.jz]
 |sub b m len=>grind[bm.jz]
 |pre b h=>grind[bm.jz]
 |mp b=>
  refine⟨.mp b,?_⟩;simp only[bm.il,C.bQ,g b hs];exact dE.refl _
 |ew b=>grind[bm.jz]
 |cP b=>
  simp only[bm.jz]at hs;split at hs
  . rename_i y d;split at hs
    . rename_i p e;simp only[bm.il,d,e];refine⟨.cP b p.2 (j b y d) λz l q k=>?_,?_⟩
      . grind[c1]
      grind[C.bQ,hasB,dE.refl]
    grind
  grind
 |aA=>exact⟨.aA,dE.refl _⟩
 |e7=>exact⟨.e7,dE.refl _⟩
 |e6=>exact⟨.e6,dE.refl _⟩
 |fn f caps=>
  simp only[bm.jz]at hs;refine⟨.fn f caps,?_⟩;grind[KR,bm.il,C.bQ,dE.refl]
 |dead=>grind[bm.jz]
theorem vZ{a:bg U}(c:∀b x,a8 a b=some x->b<N):∀{xs:List (bm U)},(∀x,x∈xs->x.jz a=true)->a' (cc N a) xs (xs.map (bm.il a))/\a' dE ((xs.map (bm.il a)).map (C.bQ (List.range N))) (xs.map (bm.il a))
 |[],_=>⟨.nil,.nil⟩
 |x::xs,hs=>by
  obtain⟨h1,d⟩:=wR c (hs x (by simp));obtain⟨e,f⟩:=vZ c (xs:=xs) (λx g=>hs x (by grind));exact⟨.cons h1 e,.cons d f⟩
theorem TJ{a:bg U}:∀{vs:List (bJ U)},(ik.go a vs).length=vs.length
 |[]=>rfl
 |v::vs=>by simp[ik.go,TJ]
theorem zL{N:Nat}{a:bg U}(e:∀b x,a8 a b=some x->b<N):∀{x:bJ U},kM a x=true->cb N a x (ik a x)/\gG ((ik a x).bQ (List.range N)) (ik a x)
 |.c x,hs=>by
  obtain⟨h1,f⟩:=wR e (x:=x) (by grind[kM]);exact⟨.c h1,.c f⟩
 |.agg cs,hs=>by
  simp[kM,fK]at hs;obtain⟨h1,f⟩:=vZ e hs;exact⟨.agg h1,.agg f⟩
 |.aY vs,hs=>by
  have:=go e vs hs;refine⟨.aY _ _ (by rw[TJ]) λi x d g j=>?_,.aY _ _ (by rw[CU]) λi x y g k=>?_⟩
  . grind[CV]
  grind[Dk,CV]
where go {N:Nat} {a:bg U} (e:∀b x,a8 a b=some x->b<N):∀(vs:List _),kM.go a vs=true->∀x,x∈vs->cb N a x (ik a x)/\gG ((ik a x).bQ (List.range N)) (ik a x)
 |[],_=>by simp
 |v::vs,hs=>by
  simp[kM.go]at hs;have h1:=zL e hs.1;have f:=go e vs hs.2;grind
theorem KS {fo:fW U}(ab:fX P fo){o:ca}{f:Nat}{args:List aR}(ai:o.op= .call f args)(h:eN key gl nf env J env1 J1 G)(z:o.guard=none)(Y:ow gl o.guard o.dst=true)(Z:lu nf o.dst=true)
 {k:bg U->bJ U->Option R}{r:R}:∀{ss:List (cH U)},(∀s,s∈ss->s∈fo f)->zp (λe=>lI gl o.guard e args) env J key k ss=some r->
 ∃v v1 J' bq,k J' v=some r/\DStep xb P o key env1 J1 true v1 bq/\eN (key+16) (iH gl o.guard o.dst) nf (gE o.dst v env) J' (er env1 o.dst true v1) bq (λi=>if o.dst=some i then true else G i)
 |[],_,g=>by grind[zp]
 |s::ss,ae,g=>by
  simp only[zp]at g;split at g
  . exact KS ab ai h z Y Z (λs hs=>ae s (by grind)) g
  . rename_i aa A;unfold Ga at A;split at A
    . rename_i vs ah aj;simp only[c5]at ah;split at A
      . rename_i a I ap;rw[fK]at I;obtain⟨aC,aS,aD⟩:=ab f s (ae s (by simp));obtain⟨p,F,b1,b2,b3⟩:=tE h.gV h.aq aj;have aE:s.st=[]:=(by grind[isNil]);have O:=jN ah.2;obtain⟨m,hres,H⟩:=uw.1 g;split at H
        . rename_i B;simp only[c5]at B;obtain⟨aP,f1,af,am⟩:=u4 (N:=key) (Jc:=([]:bg U)) (wJ) (λj b aM aU=>by grind) ap
          obtain⟨M,aN,al,dx⟩:=am F b2.length (λi x d g t=>by
           obtain⟨L,h1,w⟩:=b2.get g
           rw[t]at h1;cases h1;omega)
          have aT:aO.cells U.D s.ts aa=a:=aO.fl A;have ar:s.args aa=aP:=by
           unfold cH.args;have:=f1 [];grind
          have T:s.iA aa=[]:=by unfold cH.iA;rw[aE];rfl
          have ad:s.st.length=0:=by grind
          have W:=aD aa m hres M [] (by
           rw[ar,T,ad]
           refine a'.lC (by rw[af,aN,b2.length]) λi x d g t=>dx i x d g t) (by rw[T];intro b x g;grind[a8])
          rw[aC,ad]at W;have aF:a' gG F M:=by
           refine a'.lC aN.symm λi d L t ax=>?_;have aj:=al i d L t ax;obtain⟨x,g,ag⟩:=(b2.flip (R':=λd x=>cb key J x d) λ_ _ h=>h).get t;have hs:=I x (fp g);have:=zK ag hs;grind[Ib]
          have av:=eh.conv aF (J:=[]) (λb aM g=>by grind[aX]) W;have q:∀b x,a8 (s.rest m) b=some x->b<16/\gm (s.rest m) x=true:=by
           intro b x g;have aA:∀{l:bg U},a8 l b=some x->(b,x)∈l:=by
            intro l;induction l with
            |nil=>grind[a8]
            |cons e r ih=>
             obtain⟨aV,e⟩:=e;intro h;simp only[a8]at h;split at h
             . simp_all
             grind
           have:=B.2;unfold IU at this;rw[fK]at this;have w:=this _ (aA g);simp only[c5]at w;exact⟨by have:=jN w.1;omega,w.2⟩
          have u:∀b x,a8 (s.rest m) b=some x->b<s.eK.length:=by
           intro b x g;have:=(D6 g).2;omega
          have aw:eh P f F [] 0 (λaK aL ak=>aK=ik (s.rest m) (s.res m)/\aL=ky (s.rest m) (s.rest m)/\ak=s.eK.length):=by
           refine eh.tidy av ?_
           rintro aW s1 aQ ⟨rfl,aI,aJ⟩
           have aB:=MA aI B.1;subst aB;refine⟨List.range s.eK.length,_,_,List.nodup_range,rfl,?_,?_,rfl,rfl,by simp⟩
           . exact(zL u B.1).2
           . intro b x g;rw[zW,bz]at g;obtain⟨K,C,rfl⟩:=g;obtain⟨h1,y,w,an⟩:=aJ b K C;have aG:=OG an (q b K C).2;subst aG;have ht:=yQ (bs:=List.range s.eK.length) (i:=0) (j:=b) (r:=List.range s.eK.length) (by simp[h1]) w;rw[h7]at ht;refine⟨_,ht,?_⟩;cases K with
             |box cs=>
              have n:=(q b _ C).2;simp only[gm,fK]at n;exact .box (vZ u n).2
             |arr ty l=>exact .arr
             |rows sz l=>have n:=(q b _ C).2;simp[gm]at n
             |set ks=>exact .same
             |buf E s=>exact .same
             |b9 E c=>have n:=(q b _ C).2;exact .b9 (wR u (by simpa[gm]using n)).2
             |cA=>have n:=(q b _ C).2;simp[gm]at n
          have au:V.aE.V.dF (lt 0) F=true:=by
           refine tz λi d t=>?_;obtain⟨x,g,ag⟩:=(b2.flip (R':=λd x=>cb key J x d) λ_ _ h=>h).get t;have hs:=I x (fp g);have:=zK ag hs;subst this;exact(vL (N:=key) (J:=J) hs).2 _
          have aq:gf env1 o.guard=some true:=by rw[z];rfl
          have az:(ky (s.rest m) (s.rest m)).all (λx=>decide (x.1<16))=true:=by
           have ay:=B.2;unfold IU at ay;have:∀{l:bg U},(l.all λp=>Nat.ble (p.1+1) 16&&gm (s.rest m) p.2)=true->(ky (s.rest m) l).all (λx=>decide (x.1<16))=true:=by
            intro l;induction l with
            |nil=>intro _;rfl
            |cons e r ih=>
             obtain⟨b,x⟩:=e;intro h;simp only[r5,c5]at h;simp only[ky,r5,c5,eT];exact⟨by have:=jN h.1.1;omega,ih h.2⟩
           grind
          have X:cb s.eK.length (s.rest m) (s.res m) (ik (s.rest m) (s.res m))/\cz s.eK.length (s.rest m) (ky (s.rest m) (s.rest m)):=by
           refine⟨(zL u B.1).1,λb x g=>?_⟩;refine⟨u b x g,sE (s.rest m) x,by rw[zW,g];rfl,?_⟩;cases x with
           |box cs=>
            have n:=(q b _ g).2;simp only[gm,fK]at n;exact .box (vZ u n).1
           |arr ty l=>exact .arr ty l
           |rows sz l=>have n:=(q b _ g).2;simp[gm]at n
           |set ks=>exact .set ks
           |buf E s=>exact .buf E s
           |b9 E c=>have n:=(q b _ g).2;exact .b9 (wR u (by simpa[gm]using n)).1
           |cA=>have n:=(q b _ g).2;simp[gm]at n
          have cE:s.eK.length<=([]:a7).length+16:=(by simpa using O);have Q:=cz.FD (key:=key) (bs:=[]) wJ (by simp) cE h.eS rfl X.2;have S:=cb.cf (key:=key) (bs:=[]) (J:=J) wJ (by simp) cE h.eS X.1;have ao:=DA (key:=key) (bs:=[]) (Jr:=s.rest m) wJ (by simp) h.eS rfl;rw[PH]at S;rw[KF]at Q;refine⟨_,(ik (s.rest m) (s.res m)).bI key,_,my J1 key (ky (s.rest m) (s.rest m)),H,.own ai aq z b1 (b3 (by rw[z];rfl)) au O az aw rfl,?_⟩;have:=eN.bind (gd:=o.guard) (dst:=o.dst) (nf:=nf) (h.gV.mono ao) h.aq Q h.aH S (.inl z) Y Z;rw[z]at this⊢;exact this
        . cases H
      . cases A
    . cases A
theorem KG:∀{args:List aR} {p:Prop} {a:List V},hN env1 args=some (p,a)->la env1 args=a.flatMap V.f'
 |[],p,a,h=>by simp[hN]at h;rw[h.2];rfl
 |x::xs,p,a,h=>by
  simp only[hN,bn,bz]at h;obtain⟨⟨c,v0⟩,h1,⟨d,e⟩,b,_,rfl⟩:=h;have ih:=KG b;grind[la]
theorem OH{c:bg U}{x:bm U}{d:C}(h:cc N c x d):∀b,b∈x.f'->b∈d.f':=by
 intro b a;cases h<;>simp only[bm.f']at a⊢<;>first|exact a|(simp at a)
theorem MB{e:bg U}:∀{xs:List (bm U)} {c:List C},a' (cc N e) xs c->∀b,b∈xs.flatMap bm.f'->b∈c.flatMap C.f'
 |[],[],_,b,a=>a
 |x::xs,d::c,.cons h1 f,b,a=>by
  simp only[eY,hQ]at a⊢;rcases a with a|a
  . grind[OH]
  . exact .inr (MB f b a)
theorem ade{e:bg U}{x:bJ U}{d:V}(h:cb N e x d):∀b,b∈x.f'->b∈d.f':=by
 intro b a;cases h with
 |c h=>exact OH h b a
 |agg h=>exact MB h b a
 |aY=>grind[bJ.f']
theorem MC{e:bg U}:∀{xs:List (bJ U)} {c:List V},a' (cb N e) xs c->∀b,b∈xs.flatMap bJ.f'->b∈c.flatMap V.f'
 |[],[],_,b,a=>a
 |x::xs,d::c,.cons h1 f,b,a=>by
  simp only[eY,hQ]at a⊢;rcases a with a|a
  . grind[ade]
  . exact .inr (MC f b a)
theorem MD{l:a7}{b:Nat}(h:l7 l b=true):b∈l:=by
 simp_all[l7]
theorem Ho {fo:fW U}(ad:fX P fo){o:ca}{f:Nat}{args:List aR}(ah:o.op= .call f args)(h:eN key gl nf env J env1 J1 G)(I:o.guard=none\/∃t b y,o.guard=some (t,b)/\fk env t b=some y)(Z:ow gl o.guard o.dst=true)(ab:lu nf o.dst=true)
 (K:cC env G o.guard=true){k:bg U->bJ U->Option R}{r:R}:∀{ss:List (cH U)},(∀s,s∈ss->s∈fo f)->w4 xb (λe=>lI gl o.guard e args) env J key k ss=some r->
 ∃v v1 J' bq,k J' v=some r/\DStep xb P o key env1 J1 true v1 bq/\eN (key+16) (iH gl o.guard o.dst) nf (gE o.dst v env) J' (er env1 o.dst true v1) bq (λi=>if o.dst=some i then true else G i)
 |[],_,g=>by grind[w4]
 |s::ss,ag,g=>by
  simp only[w4]at g;split at g
  . exact Ho ad ah h I Z ab K (λs hs=>ag s (by grind)) g
  . rename_i bs aa q;obtain⟨aK,a2,aL⟩:=ad f s (ag s (by simp));obtain⟨m,hres,F⟩:=uw.1 g;unfold S6 at q;split at q
    . grind
    . rename_i vs aQ;split at q;split at q
      . grind
      . rename_i w;simp only[c5,fK]at w;obtain⟨_,av,H,aw,ax,ay⟩:=w;split at q
        . rename_i a b ao S;split at q
          . rename_i a4 aE;cases q;have bZ:=yR av;have aB:=λb w=>jN (H b w).1;have ae:=c1 aw;have a5:=jN ax;have cE:=jN ay;obtain⟨p,L,b1,b2,b3⟩:=tE h.gV h.aq aQ;have az:=zQ bZ S;obtain⟨aY,f1,af,ak⟩:=u4 (N:=key) bZ az ao
            obtain⟨O,aN,a1,dx⟩:=ak L b2.length (λi x d g Y=>by
             obtain⟨a0,h1,Q⟩:=b2.get g
             grind)
            obtain⟨aW,t1,t2⟩:=ED bZ h.eS S;have a3:=aO.fl aE;have ar:s.args aa=aY:=(by grind[cH.args]);have au:s.iA aa=hL 0 s.st b:=by grind[cH.iA]
            have W:=aL aa m hres O aW (by
             rw[ar,au,<-ae]
             exact a'.lC (by rw[af,aN,b2.length]) λi x d g Y=>dx i x d g Y) (by grind)
            rw[aK,<-ae]at W;have aM:a' gG (L.map (V.bQ bs)) O:=by
             grind[a'.lC]
            have aA:=eh.conv aM t1 W;split at F
            . rename_i c B T;simp only[c5]at B;split at F
              . rename_i aD;subst aD;have u:∀b x,a8 (s.rest m) b=some x->gm (s.rest m) x=true:=by
                 intro b x g;have a6:∀{l:bg U},a8 l b=some x->(b,x)∈l:=by
                  intro l;induction l with
                  |nil=>intro h;simp[a8]at h
                  |cons e r ih=>
                   obtain⟨a7,e⟩:=e;intro h;simp only[a8]at h;split at h
                   . simp_all
                   grind
                 have:=B.2;unfold Jh at this;grind
                have z:∀b x,a8 (s.rest m) b=some x->b<s.eK.length:=by
                 intro b x g;have:=(D6 g).2;omega
                have aC:eh P f (L.map (V.bQ bs)) (fH bs J1 0 bs) bs.length (λaU aV aj=>aU=ik (s.rest m) (s.res m)/\aV=ky (s.rest m) (s.rest m)/\aj=s.eK.length):=by
                 refine eh.tidy aA ?_
                 rintro a9 s1 aZ ⟨rfl,aS,aT⟩
                 have aJ:=MA aS B.1;subst aJ;refine⟨List.range s.eK.length,_,_,List.nodup_range,?_,?_,?_,rfl,rfl,by simp⟩
                 . unfold keeps;grind
                 . exact(zL z B.1).2
                 . intro b x g;rw[zW,bz]at g;obtain⟨M,C,rfl⟩:=g;obtain⟨h1,y,Q,D⟩:=aT b M C;have ai:=OG D (u b M C);subst ai;have ht:=yQ (bs:=List.range s.eK.length) (i:=0) (j:=b) (r:=List.range s.eK.length) (by simp[h1]) Q;rw[h7]at ht;refine⟨_,ht,?_⟩;cases M with
                   |box cs=>
                    have n:=u b _ C;simp only[gm,fK]at n;exact .box (vZ z n).2
                   |arr ty l=>exact .arr
                   |rows sz l=>have n:=u b _ C;simp[gm]at n
                   |set ks=>exact .same
                   |buf E s=>exact .same
                   |b9 E c=>have n:=u b _ C;exact .b9 (wR z (by simpa[gm]using n)).2
                   |cA=>have n:=u b _ C;simp[gm]at n
                have ap:=Dz h.gV I;have aI:(ky (s.rest m) (s.rest m)).all (λx=>decide (x.1<bs.length+16))=true:=by
                 have aF:=B.2;unfold Jh at aF;have:∀{l:bg U},(l.all λp=>Nat.ble (p.1+1) (bs.length+16)&&gm (s.rest m) p.2)=true->(ky (s.rest m) l).all (λx=>decide (x.1<bs.length+16))=true:=by
                  intro l;induction l with
                  |nil=>intro _;rfl
                  |cons e r ih=>
                   obtain⟨b,x⟩:=e;intro h;simp only[r5,c5]at h;simp only[ky,r5,c5,eT];exact⟨by have:=jN h.1.1;omega,ih h.2⟩
                 grind
                have X:cb s.eK.length (s.rest m) (s.res m) (ik (s.rest m) (s.res m))/\cz s.eK.length (s.rest m) (ky (s.rest m) (s.rest m)):=by
                 refine⟨(zL z B.1).1,λb x g=>?_⟩;refine⟨z b x g,sE (s.rest m) x,by rw[zW,g];rfl,?_⟩;cases x with
                 |box cs=>
                  have n:=u b _ g;simp only[gm,fK]at n;exact .box (vZ z n).1
                 |arr ty l=>exact .arr ty l
                 |rows sz l=>have n:=u b _ g;simp[gm]at n
                 |set ks=>exact .set ks
                 |buf E s=>exact .buf E s
                 |b9 E c=>have n:=u b _ g;exact .b9 (wR z (by simpa[gm]using n)).1
                 |cA=>have n:=u b _ g;simp[gm]at n
                have am:=cz.FD (key:=key) (bs:=bs) bZ aB cE h.eS T X.2;have an:=cb.cf (key:=key) (bs:=bs) (J:=J) bZ aB cE h.eS X.1;have al:=DA (key:=key) (bs:=bs) (Jr:=s.rest m) bZ aB h.eS T;have aG:∀b,b∈bs->∃x,aX J1 b=some x:=by
                 intro b w;have D:=(H b w).2.2;unfold hasB at D;split at D
                 . rename_i x g;obtain⟨_,y,ai,_⟩:=h.eS b x g;grind
                 . cases D
                have aP:∀b,b∈bs->b∈la env1 args++xb:=by
                 intro b w;rw[KG b1];have A:=(H b w).2.1;rw[me]at A;rcases A with A|A
                 . exact B1 _ (MC b2 b (MD A))
                 . exact List.mem_append_right _ (MD A)
                refine⟨_,(ik (s.rest m) (s.res m)).cf (back bs key),_,_,F,.raw ah (by rw[ap,K]) rfl b1 (b3 K) bZ aB aG aP cE aI aC rfl,?_⟩;have:=eN.bind (gd:=o.guard) (dst:=o.dst) (nf:=nf) (h.gV.mono al) h.aq am h.aH an I Z ab;simp_all
              . cases F
            . cases F
          . cases q
        . cases q
theorem Iq {fo:fW U}(S:fX P fo){o:ca}{f:Nat}{args:List aR}(u:o.op= .call f args\/(o.guard=none/\∃x q,o.op= .ic x args/\x.get env1=some (q,.c (.fn f []))/\q))(h:eN key gl nf env J env1 J1 G)(E:o.guard=none\/∃t b y,o.guard=some (t,b)/\fk env t b=some y)(O:ow gl o.guard o.dst=true)(Q:lu nf o.dst=true)
 {g:Bool}(aq:g=cC env G o.guard){k:bJ U->Option R}{r:R}:∀{ss:List (cH U)},(∀s,s∈ss->s∈fo f)->xr (λe=>lI gl o.guard e args) env g k ss=some r->
 ∃v v1,k v=some r/\DStep xb P o key env1 J1 g v1 J1/\eN (key+16) (iH gl o.guard o.dst) nf (gE o.dst v env) J (er env1 o.dst g v1) J1 (λi=>if o.dst=some i then g else G i)
 |[],_,l=>by grind[xr]
 |s::ss,Y,l=>by
  simp only[xr]at l;split at l
  . exact Iq S u h E O Q aq (λs hs=>Y s (by grind)) l
  . rename_i aa A;unfold Gb at A;split at A
    . rename_i vs aD B;split at A
      . rename_i a H ai;rw[fK]at H;obtain⟨ao,ak,ap⟩:=S f s (Y s (by simp));obtain⟨p,C,b1,b2,b3⟩:=tE h.gV h.aq B;have ar:s.st=[]:=(by grind[isNil]);obtain⟨n,hres,F⟩:=uw.1 l;split at F
        . rename_i Z;obtain⟨av,aw⟩:=vL (N:=key+16) (J:=J) Z;have K:=Dz h.gV E;rw[<-aq]at K;have ah:eN (key+16) (iH gl o.guard o.dst) nf (gE o.dst (s.res n) env) J (er env1 o.dst g (fJ (s.res n))) J1 (λi=>if o.dst=some i then g else G i):=by
           have:=eN.bind (dst:=o.dst) (h.gV.mono (ds.more (by simp:key<=key+16))) h.aq (h.eS.mono (Nat.le_add_right key 16)) h.aH av E O Q;grind
          refine⟨s.res n,fJ (s.res n),F,?_,ah⟩;have W:g=true->p/\V.aE.V.dF (lt 0) C=true/\(fJ (s.res n)).aE (lt 0)=true/\eh P f C [] 0 (λax _ _=>ax=fJ (s.res n)):=?_
          . rcases u with u|⟨T,x,q,u,l,an⟩
            . exact .call u K b1 W
            . have z:g=true:=by rw[aq,T];rfl
              exact .ic u T z l an ak b1 (W z)
          intro z;rw[ae z]at hres;obtain⟨az,f1,af,ad⟩:=u4 (N:=key) (Jc:=([]:bg U)) (wJ) (λj b ay aC=>by grind) ai
          obtain⟨I,aN,ab,dx⟩:=ad C b2.length (λi x d l m=>by
           obtain⟨w,h1,aA⟩:=b2.get l
           rw[m]at h1;cases h1;omega)
          have aB:aO.cells U.D s.ts aa=a:=aO.fl A;have aj:s.args aa=az:=by
           unfold cH.args;have:=f1 [];grind
          have L:s.iA aa=[]:=by unfold cH.iA;rw[ar];rfl
          have X:s.st.length=0:=by grind
          have M:=ap aa n hres I [] (by
           rw[aj,L,X]
           refine a'.lC (by rw[af,aN,b2.length]) λi x d l m=>dx i x d l m) (by rw[L];intro b x l;grind[a8])
          rw[ao,X]at M;have au:a' gG C I:=by
           refine a'.lC aN.symm λi d w m al=>?_;have B:=ab i d w m al;obtain⟨x,l,ag⟩:=(b2.flip λ_ _ h=>h).get m;exact ahH (H x (fp l)) B ag
          refine⟨b3 (by grind),?_,aw _,?_⟩
          . refine tz λi d m=>?_;obtain⟨x,l,ag⟩:=(b2.flip (R':=λd x=>cb key J x d) λ_ _ h=>h).get m;exact ahI (H x (fp l)) ag
          . refine eh.conv au (λb ay l=>by simp[aX]at l) (M.mono λaE bq N' am=>?_);exact zK am.2.1 Z
        . cases F
      grind
    grind
where
 ahH {x:bJ U} {d w:V} (hs:gI x=true) (B:gG (d.bQ []) w) (ag:cb key J x d):gG d w:=by
  have:=zK ag hs;grind[Ib]
 ahI {x:bJ U} {d:V} (hs:gI x=true) (ag:cb key J x d):d.aE (lt 0)=true:=by
  have:=zK ag hs;grind[vL]
theorem Dn {fo:fW U}(T:fX P fo){f:Nat}{I:kZ U}{cal:Env->List V->Prop}
 (Y:∀{env':bS U} {J2:bg U} {j:Env} {vs:List (bJ U)},c6 key J2 G env' j->gP gl env' G->I env'=some vs->∃q,a' (cb key J2) vs q/\cal j q)
 (he:c6 key J G env env1)(aq:gP gl env G)(aI:cz key J J1){k:bS U->bg U->bJ U->Option R}{r:R}:∀{ss:List (cH U)},(∀s,s∈ss->s∈fo f)->xt I env J key k ss=some r->
 ∃env' J2 j bq q,Conv kk key env1 J1 key j bq/\c6 key J2 G env' j/\gP gl env' G/\(∀t b,fk env' t b=fk env t b)/\cal j q/\hi P f=true/\
  PG P f q bq key j (λab s1=>∃z v,k env' z v=some r/\c6 (key+16) z G env' j/\cz (key+16) z s1/\cb (key+16) z v ab)
 |[],_,m=>by grind[xt]
 |s::ss,Z,m=>by
  simp only[xt]at m;split at m
  . exact Dn T Y he aq aI (λs hs=>Z s (by grind)) m
  . rename_i env' J2 bs h g;obtain⟨az,ao,aA⟩:=T f s (Z s (by simp));obtain⟨aJ,hres,y⟩:=uw.1 m;unfold S5 at g;split at g
    . grind
    . split at g;split at g
      . cases g
      . rename_i aS aQ W;split at g
        . cases g
        . rename_i vs aE;split at g
          . cases g
          . rename_i u;simp only[c5,fK]at u;obtain⟨aj,ak,al,am⟩:=u;split at g
            . rename_i a b ah L;split at g
              . rename_i aa ax;cases g;have bZ:=yR aj;have aB:∀b,b∈bs->b<key:=λb u=>jN (ak b u);have F:=c1 al;have ay:=jN am;obtain⟨j,bq,av,E,A,X⟩:=Ad (kk:=kk) (gl:=gl) W he aI;obtain⟨q,b2,ap⟩:=Y E (X aq) aE;have ar:=zQ bZ L;obtain⟨aP,f1,af,ae⟩:=u4 (N:=key) bZ ar ah
                obtain⟨H,aN,aR,dx⟩:=ae q b2.length (λi x d m C=>by
                 obtain⟨ad,h1,ag⟩:=b2.get m
                 grind)
                obtain⟨aK,t1,t2⟩:=ED bZ A L;have O:aO.cells U.D s.ts h=a++b:=aO.fl ax;have ai:s.args h=aP:=by unfold cH.args;rw[O,f1]
                have K:s.iA h=hL 0 s.st b:=by unfold cH.iA;rw[O,f1]
                have Q:=aA h aJ hres H aK (by
                 rw[ai,K,<-F]
                 exact a'.lC (by rw[af,aN,b2.length]) λi x d m C=>dx i x d m C) (by rw[K,<-F];exact t2)
                rw[az,<-F]at Q;have aC:a' gG (q.map (V.bQ bs)) H:=by
                 refine a'.lC (by simp[aN]) λi d ad C aT=>?_;grind
                have au:=eh.conv aC t1 Q;split at y
                . cases y
                . rename_i c M;split at y
                  . rename_i aw;subst aw;have cE:s.eK.length<=bs.length+16:=ay;refine⟨env',J2,j,bq,q,av,E,X aq,λt b=>QP W,ap,ao,?_⟩;intro aD nt φ S a w R an aM aF;refine(hU.raw (n:=lt key) (key:=key) bZ aB au ?_ (λb u=>by simp[lt];exact aB b u) aD nt φ S j a w R (λb h1 _=>H8 h1) an aM aF)
                    rintro ab s1 N' ⟨rfl,aG,aH⟩
                    refine⟨cE,_,_,y,E.mono (DA bZ aB A M),cz.FD bZ aB cE A M aH,cb.cf bZ aB cE A aG⟩
                  . cases y
              . cases g
            . cases g
where
 QQ {env:bS U} {b0:Nat} {ty:aL} {l:List (ty.den U.D)} {t:Nat} {b:Bool}:fk (si b0 (⟨.slice ty,l⟩:Cell U.D) env) t b=fk env t b:=by
  unfold fk;rw[D3];cases a8 env t with
  |none=>rfl
  |some v=>
   cases v with
   |c x=>
    cases x with
    |arr B=>grind[bJ.cp,bm.cp]
    |cJ B aV i o=>grind[bJ.cp,bm.cp]
    |pre B h=>grind[bJ.cp,bm.cp]
    |dO B aU h=>grind[bJ.cp,bm.cp]
    |_=>rfl
   |agg cs=>rfl
   |aY vs=>rfl
 QP {l:List (Nat×aL)} {env env':bS U} {J J':bg U} {t:Nat} {b:Bool} (h:kY l env J=some (env',J')):fk env' t b=fk env t b:=by
  induction l generalizing env J with
  |nil=>grind[kY]
  |cons p l ih=>
   simp only[kY]at h;split at h
   . rename_i e s h1;have ag:fk e t b=fk env t b:=by
      unfold A8 at h1;split at h1
      . split at h1
        . cases h1;exact QQ
        grind
      . split at h1
        . cases h1;exact QQ
        grind
      grind
     grind
   grind
theorem KH{fo:fW U}(w:fX P fo)(h:eN key gl nf env J env1 J1 G){k:eA->j4->bS U->bg U->Option R}{r:R}(a:sk fo (some xb) o key gl nf env J k=some r):
 ∃g v1 bq O V env' J' W,DStep xb P o key env1 J1 g v1 bq/\k O V env' J'=some r/\eN (key+16) O V env' J' (er env1 o.dst g v1) bq W:=by
 unfold sk at a;split at a
 . grind
 . rename_i Q;simp only[c5]at Q;obtain⟨j,m⟩:=Q;split at a
   . rename_i bx;split at a
     . rename_i A z;have Y:=Ly h.aq h.aH bx;obtain⟨h1,i⟩:=DB (P:=P) h (Ek z) Y j m (Ji (U:=U) (N:=key+16) (J:=J));exact⟨_,_,_,_,_,_,_,_,h1,a,i⟩
     grind
   . split at a
     . rename_i f args p;split at a
       . split at a
         . rename_i g gd aq e;have u:o.guard=none\/∃t b y,o.guard=some (t,b)/\fk env t b=some y:=(by grind[Ek]);have n:g=cC env G o.guard:=Dl h.aq aq;split at a
           . obtain⟨v,v1,J',bq,h1,i,l⟩:=Ho (fo:=fo) w p h u j m (by grind) (λs hs=>hs) a;exact⟨_,_,_,_,_,_,_,_,i,h1,l⟩
           . have I:cC env G o.guard=false:=by grind
             have C:eN key gl (gd::nf) env J env1 J1 G:=⟨h.gV,h.aq,h.eS,λA z=>by
              rcases eJ.1 z with rfl|L
              . grind
              . exact h.aH A L⟩
             have H:lu (gd::nf) o.dst=true:=by
              cases F:o.dst with
              |none=>rfl
              |some d=>
               simp_all[lu,r5,c5,ow]
             obtain⟨h1,i⟩:=DB (P:=P) C u I j H (Ji (U:=U) (N:=key+16) (J:=J));exact⟨_,_,_,_,_,_,_,_,h1,a,i⟩
         grind
       unfold Il at a;split at a
       . rename_i e;simp only at a;split at a
         case h_2=>
          obtain⟨v,v1,J',bq,h1,i,l⟩:=Ho (fo:=fo) w p h (.inl e) j m (by rw[e];rfl) (λs hs=>hs) a;grind
         rw[e]at a;obtain⟨v,v1,J',bq,h1,i,l⟩:=KS (fo:=fo) w p h e j m (k:=λJ v=>k (iH gl o.guard o.dst) nf (gE o.dst v env) J) (λs hs=>hs) (by rw[e];omega);exact⟨_,_,_,_,_,_,_,_,i,h1,l⟩
       . rename_i gd e;split at a
         . rename_i g aq;rw[e]at a aq;obtain⟨v,v1,h1,i,l⟩:=Iq (fo:=fo) w (.inl p) h (by grind[Ek]) j m (g:=g) (by rw[e];exact Dl h.aq aq) (λs hs=>hs) (by rw[e];omega);rw[e]at l;exact⟨_,_,_,_,_,_,_,_,i,h1,l⟩
         grind
     . rename_i x args p;split at a
       . grind
       . rename_i aa f F e Z;obtain⟨q,v1,a1,a2,a3⟩:=cn h.gV h.aq Z;have:=a2.FC;subst this;obtain⟨v,v1,h1,i,l⟩:=Iq (xb:=xb) (fo:=fo) w (.inr ⟨e,x,q,p,a1,a3 rfl⟩) h (.inl e) j m (g:=true) (by rw[e];rfl) (λs hs=>hs) (by rw[e];omega);rw[e]at l;exact⟨_,_,_,_,_,_,_,_,i,h1,l⟩
       grind
     . split at a
       . cases a
       . rename_i c v J' B;split at a
         . rename_i e;split at a
           . rename_i D;rw[e]at B;obtain⟨v1,bq,h1,i⟩:=(OF (P:=P) (o:=o) h (by rw[e];exact B) (.inl e) j m).1 (by rw[e];rfl) D;rw[e]at i;exact⟨_,_,_,_,_,_,_,_,h1,a,i⟩
           . cases a
         . rename_i gd e;split at a
           . cases a
           . rename_i g aq;have u:o.guard=none\/∃t b y,o.guard=some (t,b)/\fk env t b=some y:=by rw[e];exact Ek aq
             have n:g=cC env G o.guard:=by rw[e];exact Dl h.aq aq
             have M:=OF (P:=P) (o:=o) (xb:=xb) h B u j m;split at a
             . rename_i T;split at a
               . rename_i E;cases S:g with
                 |true=>
                  rw[S]at E n;simp at E;obtain⟨v1,bq,h1,i⟩:=M.1 n.symm E;have X:J'=J:=(Kx h.gV h.aq h.eS B).ahG T;rw[X]at i;exact⟨_,_,_,_,_,_,_,_,h1,a,i⟩
                 |false=>
                  rw[S]at n;obtain⟨v1,h1,i⟩:=M.2 n.symm T;exact⟨_,_,_,_,_,_,_,_,h1,a,i⟩
               . cases a
             . split at a
               . rename_i K;split at a
                 . rename_i D;obtain⟨v1,bq,h1,i⟩:=M.1 (by rw[<-n];exact K) D;exact⟨_,_,_,_,_,_,_,_,h1,a,i⟩
                 . cases a
               . rename_i K;have I:cC env G o.guard=false:=by rw[<-n];simpa using K
                 have C:eN key gl (gd::nf) env J env1 J1 G:=⟨h.gV,h.aq,h.eS,λA z=>by
                  rcases eJ.1 z with rfl|L
                  . grind
                  . exact h.aH A L⟩
                 have H:lu (gd::nf) o.dst=true:=by
                  cases F:o.dst with
                  |none=>rfl
                  |some d=>
                   rw[F]at m j;rw[e]at j;simp only[lu,r5,c5];simp only[lu]at m;simp only[ow,c5]at j;grind
                 obtain⟨h1,i⟩:=DB (P:=P) C u I j H (Ji (U:=U) (N:=key+16) (J:=J));exact⟨_,_,_,_,_,_,_,_,h1,a,i⟩
theorem KT{fo:fW U}(M:fX P fo)(h:eN key gl nf env J env1 J1 G){k:eA->j4->bS U->bg U->Option R}{r:R}(d:sk fo none o key gl nf env J k=some r)
 (bD:∀D W env' J' n bq ae,k D W env' J'=some r->eN (key+16) D W env' J' n bq ae->K n bq):
 ∃gy af,Conv kk key env1 J1 key gy af/\xI P o key gy af K:=by
 by_cases i:sk fo (some []) o key gl nf env J k=some r
 . obtain⟨g,v1,bq,D,W,env',J',ae,h1,am,an⟩:=KH M h i;exact⟨env1,J1,Conv.refl,.inl (h1.hd (bD _ _ _ _ _ _ _ am an))⟩
 . unfold sk at d i;split at d
   . grind
   . rename_i L;rw[L]at i;simp only[c5]at L;obtain⟨z,ah⟩:=L;split at d
     . grind
     . rename_i bx;rw[bx]at i;simp only at i;split at d
       . rename_i f args j;rw[j]at i;simp only at i;split at d
         . rename_i Q;rw[Q]at i;exact absurd d i
         rename_i Q;rw[Q]at i;unfold Il at d i;split at d
         . rename_i u;rw[u]at d;obtain⟨env',J2,n,bq,l,B,aj,C,ak,⟨p,N,O⟩,ag,E⟩:=Dn (kk:=kk) (P:=P) M (f:=f) (cal:=λe vs=>∃p,hN e args=some (p,vs)/\p)
            (λhe aq y=>by
             obtain⟨p,l,b1,b2,b3⟩:=tE he aq y
             exact⟨l,b2,p,b1,b3 rfl⟩) h.gV h.aq h.eS (λs hs=>hs) d
           refine⟨n,bq,B,.inr ⟨by rw[u];rfl,f,l,.inl ⟨args,p,j,N,O⟩,?_⟩⟩;intro aD nt φ S a w F I ab T;refine(E aD nt φ S a w F I ab T).mono ?_
           rintro e w' ⟨v,aa,ad,bP,s1,rfl,⟨ai,v3,k1,k2,k3,k4⟩,X,Y,Z⟩
           refine⟨v,aa,ad,bP,s1,rfl,?_,X,Y,Z⟩
           have H:=eN.bind (gd:=none) (dst:=o.dst) (nf:=nf) k2 C k3 (λg aq=>by
            obtain⟨t,b⟩:=g;have h0:=h.aH _ aq;simp only[cC]at h0⊢
            grind) k4 (.inl rfl) (by rw[u]at z;exact z) ah
           exact bD _ _ _ _ _ _ _ k1 H
         grind
       . rename_i x args j;split at d
         . rename_i f caps ay u az;obtain⟨env',J2,n,bq,l,B,aj,C,ak,⟨q,p,m,A,av,aw,N,O,au⟩,ag,E⟩:=Dn (kk:=kk) (P:=P) M (f:=f) (cal:=λe vs=>∃q p m A,x.get e=some (q,.c (.fn f m))/\q/\hN e args=some (p,A)/\p/\vs=A++m.map λb=>V.c (.ptr b 0))
            (λhe aq y=>by
             split at y
             . rename_i ax m aA aN al;split at y
               . rename_i ao;have:=c1 ao;subst this;cases y;obtain⟨q,v1,a1,a2,a3⟩:=cn he aq aN;have:=a2.FC;subst this;obtain⟨p,l,b1,b2,b3⟩:=tE he aq al;refine⟨l++m.map λb=>V.c (.ptr b 0),b2.append ?_,q,p,m,l,a1,a3 rfl,b1,b3 rfl,rfl⟩;exact a'.map_map (a'.self (λb=>.c (.ptr b 0)) _)
               . cases y
             grind) h.gV h.aq h.eS (λs hs=>hs) d
           refine⟨n,bq,B,.inr ⟨by rw[u];rfl,f,l,.inr ⟨x,args,q,p,m,A,j,av,aw,N,O,ag,au⟩,?_⟩⟩;intro aD nt φ S a w F I ab T;refine(E aD nt φ S a w F I ab T).mono ?_
           rintro e w' ⟨v,aa,ad,bP,s1,rfl,⟨ai,v3,k1,k2,k3,k4⟩,X,Y,Z⟩
           refine⟨v,aa,ad,bP,s1,rfl,?_,X,Y,Z⟩
           have H:=eN.bind (gd:=none) (dst:=o.dst) (nf:=nf) k2 C k3 (λg aq=>by
            obtain⟨t,b⟩:=g;have h0:=h.aH _ aq;simp only[cC]at h0⊢
            grind) k4 (.inl rfl) (by rw[u]at z;exact z) ah
           exact bD _ _ _ _ _ _ _ k1 H
         . contradiction
         . cases d
       . rename_i op ap ar;exfalso;refine i ?_;split
         . rename_i f args j;exact absurd j (ap f args)
         . rename_i x args j;exact absurd j (ar x args)
         . exact d
theorem abD{l:List (Nat×aL)}{p:bS U×bg U}(h:A9 l env J=some p):∃l,kY l env J=some p:=by
 grind[A9]
theorem Zy{p:bS U×bg U}(h:F' gl o env J=some p):∃l,kY l env J=some p:=by
 grind[F',abD]
theorem Zm{fo:fW U}(e:fX P fo)(h:eN key gl nf env J env1 J1 G){k:eA->j4->bS U->bg U->Option R}{r:R}(a:Ej fo none o key gl nf env J k=some r)
 (bD:∀d f env' J' c bq i,k d f env' J'=some r->eN (key+16) d f env' J' c bq i->K c bq):
 ∃gy b,Conv kk key env1 J1 key gy b/\xI P o key gy b K:=by
 simp[Ej]at a;split at a
 . exact KT e h a bD
 . rename_i p t;obtain⟨l,af⟩:=Zy t;obtain⟨aN,s1,j,m,n,q⟩:=Ad af h.gV h.eS
   obtain⟨s,u,d1,d2⟩:=KT e ⟨m,q h.aq,n,λg aq=>by
    have h0:=h.aH _ aq
    grind[cC,Dn.QP]⟩ a bD
   exact⟨s,u,j.trans d1,d2⟩
end
end
section
open Go
variable {xb:a7}
variable {U:cM}{R:Type}
def j1(env:bS U):aR->Option a7
 |.const (.c (.t _))=>some []
 |.const (.c .aA)=>some []
 |.const (.agg _)=>some []
 |.const _=>none
 |.tmp k=>match a8 env k with
  |some (.c (.ptr b _))=>some [b]
  |some (.c (.cJ b _ _ _))=>some [b]
  |some (.c (.arr b))=>some [b]
  |some (.c (.sub b _ _))=>some [b]
  |some (.c (.pre b _))=>some [b]
  |some (.c (.dO b _ _))=>some [b]
  |some (.c (.mp b))=>some [b]
  |some (.c (.ew b))=>some [b]
  |some (.c (.cP b))=>some [b]
  |some (.c .dead)=>none
  |some _=>some []
  |none=>none
def zr:bm U->Bool
 |.dead=>true
 |_=>false
def AH:bJ U->Option a7
 |.c x=>match zr x with
  |true=>none
  |false=>some x.f'
 |.agg cs=>match cs.any zr with
  |true=>none
  |false=>some (cs.flatMap bm.f')
 |.aY _=>some []
def sg(env:bS U):List aR->Option a7
 |[]=>some []
 |.const v::r=>match sg env r with
  |some l=>some (v.f'++l)
  |none=>none
 |.tmp k::r=>match a8 env k with
  |some v=>match AH v,sg env r with
   |some a,some l=>some (a++l)
   |_,_=>none
  |none=>none
def IE(xb:a7)(o:cR)(env:bS U)(key:Nat):Option a7:=
 match o with
 |.alloc _|.allocA _|.box _|.bslice .. |.mslice .. |.mkset=>some [key]
 |.allocS .. =>some [key,key+1]
 |.lkset x _=>j1 env x
 |.upset x _=>j1 env x
 |.appendB _ _ x _=>match j1 env x with
  |some a=>some (key::a)
  |none=>none
 |.ustr _ x _=>j1 env x
 |.call _ args=>match sg env args with
  |some l=>some ((List.range 16).map (key+·)++(l++xb))
  |none=>none
 |.load _ _ x=>j1 env x
 |.b2s x=>j1 env x
 |.store _ x _=>j1 env x
 |.append _ _ x y=>match j1 env x,j1 env y with
  |some a,some b=>some (key::(a++b))
  |_,_=>none
 |_=>some []
def j2(xb:a7)(o:cR)(env:bS U)(key b:Nat):Option Bool:=
 match o with
 |.alloc _|.allocA _|.box _|.bslice .. |.mslice .. |.mkset=>some (Nat.beq b key)
 |.allocS .. =>some (Nat.beq b key||Nat.beq b (key+1))
 |.upset x _=>match j1 env x with
  |some l=>some (l7 l b)
  |none=>none
 |.appendB _ _ x _=>match j1 env x with
  |some l=>some (Nat.beq b key||l7 l b)
  |none=>none
 |.ustr _ x _=>match j1 env x with
  |some l=>some (l7 l b)
  |none=>none
 |.store _ x _=>match j1 env x with
  |some l=>some (l7 l b)
  |none=>none
 |.append _ _ x _=>match j1 env x with
  |some l=>some (Nat.beq b key||l7 l b)
  |none=>none
 |.call _ args=>match sg env args with
  |some l=>some ((Nat.ble key b&&Nat.ble (b+1) (key+16))||l7 (l++xb) b)
  |none=>none
 |_=>some false
def A6(xb:a7)(bb:List ca)(env:bS U)(N:Nat):List (Nat×Nat)->Bool
 |[]=>true
 |(i,j)::r=>(match qJ bb i,qJ bb j with
  |some x,some y=>match IE xb y.op env (N+16*j)with
   |some l=>l.all λb=>match j2 xb x.op env (N+16*i) b with
    |some w=>!w
    |none=>false
   |none=>false
  |_,_=>true)&&A6 xb bb env N r
variable{o:cR}{gl:eA}{gg:List (Nat×Nat)}{Q:Exit->Env->ba->Nat->Prop}
section
variable {P:Program}{kk N key:Nat}{J:bg U}{J1:ba}{env:bS U}{env1:Env}{G:Nat->Bool}
theorem ri(he:c6 N J G env env1){x:aR}{l:a7}(h:j1 env x=some l):ef env1 x=l:=by
 unfold j1 at h;split at h
 . cases h;rfl
 . cases h;rfl
 . cases h;rfl
 . grind
 . rename_i k;split at h
   all_goals (try (cases h;done))
   . rename_i b o d;obtain⟨v1,h1,a⟩:=he k _ d;have:=a.hS;grind[ef,aR.get]
   . rename_i b t i o d;obtain⟨v1,h1,a⟩:=he k _ d;have:=a.iZ;grind[ef,aR.get]
   . rename_i b d;obtain⟨v1,h1,a⟩:=he k _ d;obtain⟨sz,n,rfl,_⟩:=a.hc;grind[ef,aR.get]
   . rename_i b f len d;obtain⟨v1,h1,a⟩:=he k _ d;have:v1= .c (.fL b 1 f len):=by cases a with|c h=>cases h;rfl
     grind[ef,aR.get]
   . rename_i b e d;obtain⟨v1,h1,a⟩:=he k _ d;have:∃sz,v1= .c (.arr b sz 0 e):=by cases a with|c h=>cases h;simp
     grind[ef,aR.get]
   . rename_i b f e d;obtain⟨v1,h1,a⟩:=he k _ d;have:∃sz,v1= .c (.fL b sz f e):=by cases a with|c h=>cases h;simp
     grind[ef,aR.get]
   . rename_i b d;obtain⟨v1,h1,a⟩:=he k _ d;have:=a.FO;grind[ef,aR.get]
   . rename_i b d;obtain⟨v1,h1,a⟩:=he k _ d;have:=a.Tk;grind[ef,aR.get]
   . rename_i b d;obtain⟨v1,h1,a⟩:=he k _ d;obtain⟨n,rfl,_⟩:=a.Bn;grind[ef,aR.get]
   . rename_i v dc j m fB u g q r s p d;cases h;obtain⟨v1,h1,a⟩:=he k _ d;unfold ef;simp only[aR.get,h1,mf];cases a with
     |c a=>
      cases a<;>grind
     |agg a=>rfl
     |aY=>rfl
theorem wS{l:a7}{b:Nat}:l7 l b=l.contains b:=by
 unfold l7;rw[Bool.eq_iff_iff];simp
theorem KI{x:bm U}{d:C}(h:cc N J x d)(a:zr x=false):d.f'=x.f':=by
 cases h<;>first|rfl|(simp[zr]at a)
theorem KU:∀{xs:List (bm U)} {a:List C},a' (cc N J) xs a->xs.any zr=false->a.flatMap C.f'=xs.flatMap bm.f'
 |[],[],_,_=>rfl
 |x::xs,d::a,.cons h1 c,b=>by
  simp only[List.any_cons,yN]at b;simp;rw[KI h1 b.1,KU c b.2]
theorem Zn{v:bJ U}{v1:V}{l:a7}(h:cb N J v v1)(af:AH v=some l):v1.f'=l:=by
 cases h with
 |c h=>
  simp[AH]at af;split at af
  . grind
  . rename_i a;cases af;exact KI h a
 |agg h=>
  simp[AH]at af;split at af
  . grind
  . rename_i a;cases af;exact KU h a
 |aY=>simp only[AH,dG]at af;rw[<-af];rfl
theorem DO(he:c6 N J G env env1):∀{args:List aR} {l:a7},sg env args=some l->la env1 args=l
 |[],l,h=>by simp[sg]at h;subst h;rfl
 |.const v::r,l,h=>by
  simp[sg]at h;split at h
  . rename_i d b;cases h;have ih:=DO he b;simp[la]at ih⊢;rw[ih];rfl
  grind
 |.tmp k::r,l,h=>by
  simp only[sg]at h;split at h
  . rename_i v c;split at h
    . rename_i a d f b;have ih:=DO he b;obtain⟨v1,h1,e⟩:=he k v c;grind[la,aR.get,Zn]
    grind
  grind
theorem aaJ(he:c6 N J G env env1){l:a7}(h:IE xb o env key=some l):eo xb o env1 key=l:=by
 cases o<;>simp[IE,eo]at h⊢<;>first|exact h|exact ri he h|skip
 . grind[ri]
 . grind[ri]
 grind[DO]
theorem beq_eq(a b:Nat):(a==b)=Nat.beq a b:=by
 grind[c1,iD]
theorem aaK(he:c6 N J G env env1){b:Nat}{w:Bool}(h:j2 xb o env key b=some w):cG xb o env1 key b=w:=by
 cases o with
 |alloc cs=>simp[j2]at h;rw[<-h];exact beq_eq _ _
 |allocA cs=>simp[j2]at h;rw[<-h];exact beq_eq _ _
 |box x=>simp[j2]at h;rw[<-h];simp only[cG];exact beq_eq _ _
 |bslice a c d e=>simp only[j2,dG]at h;rw[<-h];simp only[cG];exact beq_eq _ _
 |mslice a c d e=>simp only[j2,dG]at h;rw[<-h];simp only[cG];exact beq_eq _ _
 |store n x y=>
  simp only[j2]at h;split at h
  . rename_i l af;cases h;simp only[cG];rw[ri he af,wS]
  . cases h
 |append sz by' x y=>
  simp only[j2]at h;split at h
  . rename_i l af;cases h;simp only[cG];rw[ri he af,wS,beq_eq]
  . cases h
 |mkset=>grind[j2,cG,beq_eq]
 |allocS e e8=>grind[j2,cG,beq_eq]
 |upset x y=>
  simp only[j2]at h;split at h
  . rename_i l af;cases h;simp only[cG];rw[ri he af,wS]
  . cases h
 |ustr e x y=>
  grind[j2,cG,ri,wS]
 |appendB e by' x y=>
  grind[j2,cG,ri,wS,beq_eq]
 |call f args=>
  simp only[j2]at h;split at h
  . rename_i l af;cases h;simp only[cG];rw[DO he af,wS]
    congr 1
    rw[Bool.eq_iff_iff];simp only[c5,eT,Nat.ble_eq];rfl
  grind
 |_=>simp only[j2,dG]at h;rw[<-h];rfl
theorem Hp(he:c6 N J G env env1){bb:List ca}{a:Nat}:∀{gg:List (Nat×Nat)},A6 xb bb env a gg=true->kB xb bb env1 a gg=true
 |[],_=>rfl
 |(i,j)::r,h=>by
  simp[A6]at h;simp[kB];refine⟨?_,Hp he h.2⟩;grind[D5,aaJ,aaK]
theorem HA{fo:fW U}(e:fX P fo){k:eA->bS U->bg U->Option R}{r:R}:∀{l:List ca} {key:Nat} {gl:eA} {nf:j4} {env:bS U} {J:bg U} {env1:Env} {J1:ba} {G:Nat->Bool} {K:Env->ba->Prop},
 eN key gl nf env J env1 J1 G->rR fo none l key gl nf env J k=some r->
 (∀b f env' J' a bq d,k b env' J'=some r->eN (key+16*l.length) b f env' J' a bq d->K a bq)->sx P kk l key env1 J1 K
 |[],key,gl,nf,env,J,env1,J1,G,K,h,c,bD=>bD _ _ _ _ _ _ _ c h
 |o::l,key,gl,nf,env,J,env1,J1,G,K,h,c,bD=>by
  refine Zm e h c λb f env' J' a bq d h1 j=>?_;refine HA e j h1 λq n i p sH t g m s=>bD _ n i p _ _ g m ?_;grind
theorem Ha{fo:fW U}(e:fX P fo){k:eA->bS U->bg U->Option R}{r:R}:∀{l:List ca} {key:Nat} {gl:eA} {nf:j4} {env:bS U} {J:bg U} {env1:Env} {J1:ba} {G:Nat->Bool} {K:Env->ba->Prop},
 eN key gl nf env J env1 J1 G->rR fo (some xb) l key gl nf env J k=some r->
 (∀b f env' J' d bq c,k b env' J'=some r->eN (key+16*l.length) b f env' J' d bq c->K d bq)->xL xb P l key env1 J1 K
 |[],key,gl,nf,env,J,env1,J1,G,K,h,a,bD=>bD _ _ _ _ _ _ _ a h
 |o::l,key,gl,nf,env,J,env1,J1,G,K,h,a,bD=>by
  simp[rR]at a;obtain⟨g,v1,bq,b,f,env',J',c,h1,m,n⟩:=KH e h (by simpa[Ej]using a);refine⟨g,v1,bq,h1,Ha e n m λt q j s sH u i p bf=>bD _ q j s _ _ i p ?_⟩;grind
theorem Ie:∀{env:bS U} {k:Nat} {v:bJ U},a8 (clean gl env) k=some v->a8 env k=some v/\BS gl k=false
 |[],k,v,h=>by grind[clean,a8]
 |(i,w)::r,k,v,h=>by
  simp[clean]at h;split at h
  . obtain⟨h1,b⟩:=Ie h;grind[a8,c1]
  . simp[a8]at h⊢;cases a:Nat.beq i k with
    |true=>simp_all
    |false=>rw[a]at h;exact Ie h
theorem abE{k:Nat}(h:BS gl k=false):a8 gl k=none:=by
 induction gl with
 |nil=>rfl
 |cons e r ih=>
  grind[BS,a8]
theorem eN.clean{nf:j4}(h:eN key gl nf env J env1 J1 G):c6 key J (λ_=>true) (zq gl env) env1:=by
 intro k v a;have:a8 env k=some v/\G k=true:=by
  unfold zq at a;split at a
  . exact⟨a,h.aq.free k rfl⟩
  . obtain⟨h1,c⟩:=Ie a;exact⟨h1,h.aq.free k (abE c)⟩
 obtain⟨v1,h1,c⟩:=h.gV k v this.1;grind
theorem eN.begin(he:c6 key J (λ_=>true) env env1)(aI:cz key J J1):eN key [] [] env J env1 J1 (λ_=>true):=
 ⟨he,⟨λ_ _=>rfl,λk t b h=>by grind[a8]⟩,aI,λ_ h=>by grind⟩
end
structure jF where
 e:Exit
 bI:Shape
 own:List (Pos×aL)
 us:List aL
def eD(U:cM):List jF->Type
 |[]=>Empty
 |[a]=>aO U.D a.us
 |a::b::r=>aO U.D a.us ⊕ eD U (b::r)
structure hb (U:cM) where
 bI:Shape
 own:List (Pos×aL)
 ts:List aL
 outs:List jF
 F:aO U.D ts->Option (eD U outs)
def BN:Exit->Exit->Bool
 |.normal,.normal=>true
 |.ret,.ret=>true
 |.exit i,.exit j=>Nat.beq i j
 |_,_=>false
theorem LA{a b:Exit}(h:BN a b=true):a=b:=by
 cases a<;>cases b<;>simp[BN]at h<;>try rfl
 grind
abbrev uY(U:cM)(R:Type):=Exit->bS U->bg U->Nat->Option R
def h8:(outs:List jF)->eD U outs->Exit×bS U×bg U×Nat
 |[],o=>Empty.elim o
 |[a],h=>(a.e,(hq U a.bI (aO.cells U.D a.us h)).1,(hq U a.bI (aO.cells U.D a.us h)).2,a.bI.st.length)
 |a::b::r,.inl h=>(a.e,(hq U a.bI (aO.cells U.D a.us h)).1,(hq U a.bI (aO.cells U.D a.us h)).2,a.bI.st.length)
 |a::b::r,.inr o=>h8 (b::r) o
def aii{α c:Type}(o:α ⊕ c)(f:α->Option R)(g:c->Option R):Option R:=
 match o with
 |.inl a=>f a
 |.inr b=>g b
def aiE(k:uY U R)(a:jF):(r:List jF)->(eD U r->Option R)->eD U (a::r)->Option R
 |[],_=>λh=>k a.e (hq U a.bI (aO.cells U.D a.us h)).1 (hq U a.bI (aO.cells U.D a.us h)).2 a.bI.st.length
 |_::_,f=>λo=>aii o (λh=>k a.e (hq U a.bI (aO.cells U.D a.us h)).1 (hq U a.bI (aO.cells U.D a.us h)).2 a.bI.st.length) f
def Ix(k:uY U R):(outs:List jF)->eD U outs->Option R
 |[]=>λo=>Empty.elim o
 |a::r=>aiE k a r (Ix k r)
theorem OI(k:uY U R):∀{outs:List jF} {o:eD U outs},Ix k outs o=k (h8 outs o).1 (h8 outs o).2.1 (h8 outs o).2.2.1 (h8 outs o).2.2.2
 |[],o=>Empty.elim o
 |[a],h=>rfl
 |a::b::r,.inl h=>rfl
 |a::b::r,.inr o=>OI k (outs:=b::r)
def r6(kk:Nat):(outs:List jF)->Exit->bS U->bg U->Nat->Option (eD U outs)
 |[],_,_,_,_=>none
 |[a],e,env,J,N=>match BN e a.e with
  |true=>uL kk a.own a.bI a.us env J N
  |false=>none
 |a::b::r,e,env,J,N=>match BN e a.e with
  |true=>match uL (U:=U) kk a.own a.bI a.us env J N with
   |some h=>some (.inl h)
   |none=>none
  |false=>match r6 kk (b::r) e env J N with
   |some o=>some (.inr o)
   |none=>none
abbrev k'(U:cM):=Nat->Option (hb U)
def gx:dz->Nat
 |.seq a b=>gx a+gx b
 |.cond _ a b=>gx a+gx b
 |.block _ b=>gx b
 |.loop b=>gx b+1
 |_=>0
def ahu(x:Bool)(a b:Option R):Option R:=if x then a else b
def bm.inner:kv->Bool
 |.ptr .. |.arr _=>true
 |_=>false
def ad9:fO->Bool
 |.box cs=>cs.any bm.inner
 |_=>false
def QT(fo:fW U)(J:bg U)(ops:List ca):a7:=
 match ops.any λo=>match o.op with
  |.call f _=>(fo f).any λs=>s.st.any ad9
  |_=>false with
 |true=>J.map Prod.fst
 |false=>[]
def Ig(ops:List ca)(gg:List (Nat×Nat)):Option (List ca×ca):=
 match Ei ops.length gg,ops.getLast? with
 |true,some o=>match o.op,o.guard with
  |.call ..,none=>some (ops.dropLast,o)
  |.ic ..,none=>some (ops.dropLast,o)
  |_,_=>none
 |_,_=>none
theorem Zo{ops:List ca}{init:List ca}{last:ca}(h:Ig ops gg=some (init,last)):ops=init++[last]/\Ei (init.length+1) gg=true:=by
 unfold Ig at h;split at h
 . grind[List.getLast?_eq_some_iff]
 grind
def lH(fo:fW U)(d:k' U)(kk:Nat):dz->Nat->bS U->bg U->Nat->uY U R->Option R
 |.skip,_,env,J,N,k=>k .normal env J N
 |.ret,_,env,J,N,k=>k .ret env J N
 |.exit i,_,env,J,N,k=>k (.exit i) env J N
 |.region ops,_,env,J,N,k=>rR fo none ops N [] [] env J λgl env J=>EX (zq gl env) J (N+16*ops.length) λenv J N=>k .normal env J N
 |.oI ops gg,_,env,J,N,k=>match Ig ops gg with
  |some (init,last)=>rR fo (some []) init N [] [] env J λgl env J=>match A6 [] init env N gg with
   |true=>rR fo none [last] (N+16*init.length) gl [] env J λgl env J=>k .normal (zq gl env) J (N+16*init.length+16)
   |false=>none
  |none=>rR fo (some (QT fo J ops)) ops N [] [] env J λgl env' J'=>match A6 (QT fo J ops) ops env' N gg with
   |true=>EX (zq gl env') J' (N+16*ops.length) λenv J N=>k .normal env J N
   |false=>none
 |.seq a b,pos,env,J,N,k=>lH fo d kk a pos env J N λe env J N=>match e with
  |.normal=>lH fo d kk b (pos+gx a) env J N k
  |e=>k e env J N
 |.cond c a b,pos,env,J,N,k=>match dg [] none env c with
  |some (.c (.t ⟨.bool,x⟩))=>ahu x (lH fo d kk a pos env J N k) (lH fo d kk b (pos+gx a) env J N k)
  |_=>none
 |.block id b,pos,env,J,N,k=>lH fo d kk b pos env J N λe env J N=>match e with
  |.exit i=>match Nat.beq i id with
   |true=>k .normal env J N
   |false=>k (.exit i) env J N
  |e=>k e env J N
 |.loop b,pos,env,J,N,k=>match d pos with
  |none=>none
  |some L=>match uL kk L.own L.bI L.ts env J N with
   |none=>none
   |some h=>(L.F h)>>=λo=>Ix k L.outs o
section
variable {P:Program}{nt kk N:Nat}{env:bS U}{J:bg U}{env1:Env}{J1:ba}
def uO(kk:Nat)(Q:Exit->Env->ba->Nat->Prop):Prop:=∀e N env J N' env' J',Conv kk N env J N' env' J'->Q e env' J' N'->Q e env J N
def nv(P:Program)(nt kk:Nat)(b:dz)(bI:Shape)(ts:List aL)(outs:List jF)(h:aO U.D ts)(o:eD U outs):Prop:=
 ∀env1 J1,c6 bI.st.length (hq U bI (aO.cells U.D ts h)).2 (λ_=>true) (hq U bI (aO.cells U.D ts h)).1 env1->cz bI.st.length (hq U bI (aO.cells U.D ts h)).2 J1->kk<=bI.st.length->
  ∀Q,uO kk Q->(∀a bq,c6 (h8 outs o).2.2.2 (h8 outs o).2.2.1 (λ_=>true) (h8 outs o).2.1 a->cz (h8 outs o).2.2.2 (h8 outs o).2.2.1 bq->kk<=(h8 outs o).2.2.2->Q (h8 outs o).1 a bq (h8 outs o).2.2.2)->
   mu P nt kk b env1 J1 bI.st.length Q
def uS(P:Program)(nt kk:Nat)(a:dz)(L:hb U):Prop:=
 ∀h o,L.F h=some o->nv P nt kk a L.bI L.ts L.outs h o
def gF(P:Program)(nt kk:Nat)(c:k' U):Nat->dz->Prop
 |pos,.seq a b=>gF P nt kk c pos a/\gF P nt kk c (pos+gx a) b
 |pos,.cond _ a b=>gF P nt kk c pos a/\gF P nt kk c (pos+gx a) b
 |pos,.block _ b=>gF P nt kk c pos b
 |pos,.loop b=>(∀L,c pos=some L->uS P nt kk b L)
 |_,_=>True
theorem uO.andThen{next:Env->ba->Nat->Prop}(h:uO kk Q)(aH:∀N env J N' env' J',Conv kk N env J N' env' J'->next env' J' N'->next env J N):uO kk (andThen next Q):=by
 intro e N env J N' env' J' a c;cases e with
 |normal=>exact aH _ _ _ _ _ _ a c
 |_=>exact h _ _ _ _ _ _ _ a c
theorem tB{fo:fW U}(u:fX P fo){K:k' U}:∀{c:dz} {pos:Nat} {env:bS U} {J:bg U} {N:Nat} {k:uY U R} {r:R} {env1:Env} {J1:ba} {Q:Exit->Env->ba->Nat->Prop},
 gF P nt kk K pos c->lH fo K kk c pos env J N k=some r->c6 N J (λ_=>true) env env1->cz N J J1->kk<=N->uO kk Q->
 (∀e env' J' N' s bq,k e env' J' N'=some r->c6 N' J' (λ_=>true) env' s->cz N' J' bq->kk<=N'->Q e s bq N')->cu P nt kk c env1 J1 N Q
 |.skip,pos,env,J,N,k,r,env1,J1,Q,af,d,he,aI,n,m,f=>cu.skip (f _ _ _ _ _ _ d he aI n)
 |.ret,pos,env,J,N,k,r,env1,J1,Q,af,d,he,aI,n,m,f=>cu.ret (f _ _ _ _ _ _ d he aI n)
 |.exit i,pos,env,J,N,k,r,env1,J1,Q,af,d,he,aI,n,m,f=>cu.exit (f _ _ _ _ _ _ d he aI n)
 |.region ops,pos,env,J,N,k,r,env1,J1,Q,af,d,he,aI,n,m,f=>
  cu.ahW (HA u (eN.begin he aI) d λH M env' J' s bq F h1 j=>by
   obtain⟨G,S,T,sH,O,A,B,C,D,Z⟩:=Jw h1 j.clean j.eS (show kk<=_ by omega)
   exact m _ _ _ _ _ _ _ B (f _ _ _ _ _ _ A C D (by omega)))
 |.oI ops gg,pos,env,J,N,k,r,env1,J1,Q,af,d,he,aI,n,m,f=>by
  simp only[lH]at d;split at d
  . rename_i init last ab;obtain⟨rfl,ad⟩:=Zo ab;refine cu.ahX ad (Ha u (eN.begin he aI) d λH M env' J' s bq F h1 j=>?_);split at h1
    . rename_i q;refine⟨Hp j.gV q,HA u (l:=[last]) (nf:=[]) ⟨j.gV,j.aq,j.eS,λg aq=>by grind⟩ h1 λak am G S sH O ah v w=>f _ _ _ _ _ _ v w.clean w.eS (by omega)⟩
    grind
  . refine cu.oI (Ha u (eN.begin he aI) d λH M env' J' s bq F h1 j=>?_);split at h1
    . rename_i q;obtain⟨G,S,T,sH,O,A,B,C,D,Z⟩:=Jw h1 j.clean j.eS (show kk<=_ by omega);exact⟨Hp j.gV q,m _ _ _ _ _ _ _ B (f _ _ _ _ _ _ A C D (by omega))⟩
    grind
 |.seq a b,pos,env,J,N,k,r,env1,J1,Q,af,d,he,aI,n,m,f=>by
  refine cu.seq (tB u af.1 d he aI n (m.andThen λN env J N' env' J' q h=>cu.conv q h) λe env' J' N' s bq h1 j v w=>?_);cases e with
  |normal=>exact tB u af.2 h1 j v w m f
  |_=>exact f _ _ _ _ _ _ h1 j v w
 |.cond c a b,pos,env,J,N,k,r,env1,J1,Q,af,d,he,aI,n,m,f=>by
  simp only[lH]at d;split at d
  . rename_i x q;have aq:gP [] env (λ_=>true):=⟨λ_ _=>rfl,λk t b h=>by grind[a8]⟩
    obtain⟨p,v1,a1,a2,a3⟩:=cn he aq q;have:=a2.jk;subst this;refine cu.cond a1 (a3 rfl) (λy=>?_) (λy=>?_)
    . subst y;exact tB u af.1 d he aI n m f
    . subst y;exact tB u af.2 d he aI n m f
  grind
 |.block id b,pos,env,J,N,k,r,env1,J1,Q,af,d,he,aI,n,m,f=>by
  refine cu.block (tB u af d he aI n ?_ λe env' J' N' s bq h1 j v w=>?_)
  . intro e N env J N' env' J' q z;cases e with
    |exit i=>
     simp only[inBlock]at z⊢;split at z
     . rename_i E;rw[ae E];exact m _ _ _ _ _ _ _ q z
     . rename_i E;rw[al E];exact m _ _ _ _ _ _ _ q z
    |_=>exact m _ _ _ _ _ _ _ q z
  . cases e with
    |exit i=>
     simp only[inBlock];simp only at h1;split at h1
     . rename_i y;rw[ae (c1 y)];grind
     . rename_i y;rw[al (iD y)];grind
    |_=>exact f _ _ _ _ _ _ h1 j v w
 |.loop b,pos,env,J,N,k,r,env1,J1,Q,af,d,he,aI,n,m,f=>by
  simp only[lH]at d;split at d
  . grind
  . rename_i L cX;split at d
    . grind
    . rename_i h aa;obtain⟨o,ag,I⟩:=uw.1 d;rw[OI]at I;obtain⟨s,bq,V,W,X,Y⟩:=DN aa he aI n;exact cu.conv V (cu.ahC (af L cX h o ag s bq W X Y Q m λaj ai h1 j v=>f _ _ _ _ _ _ I h1 j v))
theorem nv.ahN {fo:fW U}(S:fX P fo){M:k' U}{v:dz}{bI:Shape}{own:List (Pos×aL)}{ts:List aL}{outs:List jF}{h:aO U.D ts}{o:eD U outs}{F:aO U.D ts->Option (eD U outs)}
 (X:gF P nt kk M 0 v)(O:∀h o,F h=some o->nv P nt kk v bI ts outs h o)
 (af:lH fo M kk v 0 (hq U bI (aO.cells U.D ts h)).1 (hq U bI (aO.cells U.D ts h)).2 bI.st.length (λe env J N=>match e with
  |.normal=>match uL kk own bI ts env J N with
   |some y=>F y
   |none=>none
  |e=>r6 kk outs e env J N)=some o):nv P nt kk v bI ts outs h o:=by
 intro env1 J1 he aI q Q A W;refine mu.round (tB S X af he aI q (A.andThen λN env J N' env' J' R h=>mu.conv R h) λe env' J' N' x bq h1 H K L=>?_);have t:∀w,w=e->w≠.normal->r6 kk _ w env' J' N'=some o->Q e x bq N':=by
  intro w am an Z;obtain⟨aN,s1,c,f,j,p,G⟩:=SZ Z H K L;exact A _ _ _ _ _ _ _ c (by grind)
 cases e with
 |normal=>
  simp at h1;split at h1
  . rename_i y E;obtain⟨aN,s1,c,f,j,p⟩:=DN E H K L;exact mu.conv c (O y o h1 aN s1 f j p Q A W)
  grind
 |exit i=>exact t _ rfl (by simp) h1
 |ret=>exact t _ rfl (by simp) h1
 |goto l=>exact t _ rfl (by simp) h1
 |panic ag=>exact t _ rfl (by simp) h1
 |outgrown=>exact t _ rfl (by simp) h1
where
 SZ {N:Nat} {env:bS U} {J:bg U} {env1:Env} {J1:ba}:∀ {outs:List jF} {e:Exit} {o:eD U outs},r6 kk outs e env J N = some o->c6 N J (λ_=>true) env env1->cz N J J1->kk<=N->
  ∃x bq,Conv kk N env1 J1 (h8 outs o).2.2.2 x bq/\c6 (h8 outs o).2.2.2 (h8 outs o).2.2.1 _ (h8 outs o).2.1 x/\cz (h8 outs o).2.2.2 (h8 outs o).2.2.1 bq/\kk<=(h8 outs o).2.2.2/\e=(h8 outs o).1
  |[],e,o,h,_,_,_=>by grind[r6]
  |[a],e,o,h,he,aI,q=>by
   simp[r6]at h;split at h
   . rename_i B;obtain⟨aN,s1,c,f,j,p⟩:=DN h he aI q;exact⟨aN,s1,c,f,j,p,LA B⟩
   grind
  |a::b::r,e,o,h,he,aI,q=>by
   simp only[r6]at h;split at h
   . rename_i B;split at h
     . rename_i aa E;cases h;obtain⟨aN,s1,c,f,j,p⟩:=DN E he aI q;exact⟨aN,s1,c,f,j,p,LA B⟩
     grind
   . split at h
     . rename_i ap Y;cases h;obtain⟨aN,s1,c,f,j,p,G⟩:=SZ Y he aI q;exact⟨aN,s1,c,f,j,p,G⟩
     grind
end
end
open Go
variable {U:cM}{R:Type}
def uK:Nat->List (bJ U)->bS U
 |_,[]=>[]
 |i,v::vs=>(i,v)::uK (i+1) vs
def Jj(env:bS U)(J:bg U):jf->Option (bJ U)
 |.tmp t=>a8 env t
 |.cell t g k=>match a8 env t with
  |some (.c (.ptr b o))=>match a8 J b with
   |some (.box cs)=>rU g k cs o
   |_=>none
  |_=>none
def wT(env:bS U)(J:bg U):List jf->Option (List (bJ U))
 |[]=>some []
 |r::a=>match Jj env J r,wT env J a with
  |some v,some vs=>some (v::vs)
  |_,_=>none
def IC:List (bJ U)->bJ U
 |[]=>.aY []
 |[v]=>v
 |v::w::vs=>.aY (v::w::vs)
def Ba(kk:Nat)(c:List jf)(eS:e4)(eK:List fO)(us:List aL)(env:bS U)(J:bg U):Option (aO U.D us):=
 match wT env J c with
 |none=>none
 |some vs=>match w7 J kk 0 eK (Gn eS (IC vs) ([],[])) []with
  |(bs,d)=>match kY d env J with
   |none=>none
   |some (env',J')=>match wT env' J' c with
    |none=>none
    |some e=>match ue bs&&(keeps kk bs&&Nat.beq bs.length eK.length)with
     |false=>none
     |true=>match jS bs eS (IC e),iS bs J' 0 eK with
      |some a,some b=>aO.dec U.D us (a++b)
      |_,_=>none
def Tv(kk:Nat)(a:List jf)(eS:e4)(eK:List fO)(us:List aL):uY U (aO U.D us)
 |.normal,env,J,_=>Ba kk a eS eK us env J
 |.ret,env,J,_=>Ba kk a eS eK us env J
 |_,_,_,_=>none
variable{Q:Exit->Env->ba->Nat->Prop}{nt kk f:Nat}{p:a7}
section
variable {P:Program}{nt kk N:Nat}{env:bS U}{J:bg U}{env1:Env}{J1:ba}
def xC(kk:Nat)(Q:Exit->Env->ba->Nat->Prop):Exit->Env->ba->Nat->Prop:=
 λe env J N=>∃N' env' J',Conv kk N env J N' env' J'/\Q e env' J' N'
theorem xC.afq:uO kk (xC kk Q):=
 λe N env J N' env' J' h ⟨a,c,o,f,j⟩=>⟨a,c,o,h.trans f,j⟩
variable{c:dz}
theorem cu.ais{env:Env}{J:ba}(h:cu P nt kk c env J N (xC kk Q)):cu P nt kk c env J N Q:=
 λcode v aD φ S a w f R=>wp_mono (h _ v aD φ S a w f R) λe a w ⟨B,bP,env',J',N',⟨j,q,y,t,x⟩,R'⟩=>
  let⟨A,p,o⟩:=t aD nt _ bP a w f R';⟨A,p,q,y,j,x,o⟩
theorem X4(he:c6 N J (λ_=>true) env env1)(aI:cz N J J1){a:jf}{v:bJ U}(h:Jj env J a=some v):∃p v1,ud env1 J1 a=some (p,v1)/\p/\cb N J v v1:=by
 cases a with
 |tmp t=>
  obtain⟨v1,h1,c⟩:=he t v h;exact⟨True,v1,by grind[ud],trivial,c⟩
 |cell t g k=>
  simp[Jj]at h;split at h
  . rename_i b o i;split at h
    . rename_i cs f;obtain⟨v1,h1,c⟩:=he t _ i;have:=c.hS;obtain⟨_,y,l,d⟩:=aI b _ f;cases d with
      |box d=>
       obtain⟨j,bf,e⟩:=wv d h;exact⟨True,j,by grind[ud],trivial,e⟩
    grind
  grind
theorem J4(he:c6 N J (λ_=>true) env env1)(aI:cz N J J1):∀{b:List jf} {vs:List (bJ U)},wT env J b=some vs->∃p a,p0 env1 J1 b=some (p,a)/\p/\a' (cb N J) vs a
 |[],vs,h=>by simp[wT]at h;subst h;exact⟨_,[],rfl,trivial,.nil⟩
 |r::d,vs,h=>by
  simp[wT]at h;split at h
  . rename_i v e h1 c;cases h;obtain⟨p,v1,a1,a2,a3⟩:=X4 he aI h1;obtain⟨q,a,b1,b2,b3⟩:=J4 he aI c;exact⟨p/\q,v1::a,by grind[p0],⟨a2,b2⟩,.cons a3 b3⟩
  grind
theorem Y8{vs:List (bJ U)}{c:List V}(h:a' (cb N J) vs c):cb N J (IC vs) (ml c):=by
 cases h with
 |nil=>exact .aY [] [] rfl (by simp)
 |cons h1 a=>
  cases a with
  |nil=>exact h1
  |cons a b=>
   refine .aY _ _ (by simp[b.length]) λi x d e j=>?_;obtain⟨f,aN,g⟩:=(a'.cons h1 (.cons a b)).get e;grind
def E8(s:cH U)(r:aO U.D s.us):V->ba->Nat->Prop:=λa bq N'=>N'=s.eK.length/\cb N' (s.rest r) (s.res r) a/\cz N' (s.rest r) bq
theorem Y9{e:List jf}{s:cH U}{r:aO U.D s.us}(h:Ba kk e s.eS s.eK s.us env J=some r)(he:c6 N J (λ_=>true) env env1)(aI:cz N J J1):
 ∃j bq,Conv kk N env1 J1 N j bq/\∃p d,p0 j bq e=some (p,d)/\p/\
  ∃bs c J2,bs.Nodup/\keeps kk bs=true/\gG ((ml d).bQ bs) c/\sv (fH bs bq 0 bs) J2/\E8 s r c J2 bs.length:=by
 unfold Ba at h;split at h
 . grind
 . split at h;rename_i bs C _;split at h
   . grind
   . rename_i env' J' w;obtain⟨aN,s1,m,n,i,_⟩:=Ad (kk:=kk) (gl:=[]) w he aI;split at h
     . grind
     . rename_i G z;split at h
       . grind
       . rename_i k;simp only[c5]at k;obtain⟨t,u,v⟩:=k;have bZ:=yR t;have x:=c1 v;split at h
         . rename_i a b q l;obtain⟨p,d,d1,d2,d3⟩:=J4 n i z;obtain⟨y,f,g⟩:=Fh bZ (zQ bZ l) q;obtain⟨c,o,E⟩:=g _ (Y8 d3);obtain⟨A,t1,t2⟩:=ED bZ i l;have F:=aO.fl h;have aN:s.res r=y:=(by grind[cH.res]);have B:s.rest r=hL 0 s.eK b:=(by grind[cH.rest]);exact⟨_,_,m,p,d,d1,d2,bs,c,A,bZ,u,o,t1,x,by grind,by grind⟩
         grind
def uQ(P:Program)(s:cH U)(h:aO U.D s.ts)(r:aO U.D s.us):Prop:=
 ∀(a:List V) J1,a' (cb s.st.length (s.iA h)) (s.args h) a->cz s.st.length (s.iA h) J1->eh P s.f a J1 s.st.length (E8 s r)
theorem hz.of{s:cH U}(h:∀h r,s.F h=some r->uQ P s h r):hz P s:=h
theorem uQ.F7 {s:cH U}{fn:Func}{c:dz}{j:List jf}{fo:fW U}{B:k' U}(Z:P.funcs[s.f]?=some fn)(S:fn.body.bind (resolve P fn.ntmps)=some c)(ag:ie P fn.results.toList=some j)(aH:Nat.ble s.gC.length fn.ntmps=true)
 (af:fX P fo)(ap:gF P fn.ntmps s.st.length B 0 c)
 {h:aO U.D s.ts}{r:aO U.D s.us}(q:ET s.st.length (s.iA h) (λJ N=>lH fo B s.st.length c 0 (uK 0 (s.args h)) J N (Tv s.st.length j s.eS s.eK s.us))=some r):uQ P s h r:=by
 intro t J1 R aI;have an:t.length<=fn.ntmps:=by
  rw[<-R.length];refine gp (wK ?_) (jN aH);exact Sz
 have W:c6 s.st.length (s.iA h) (λ_=>true) (uK 0 (s.args h)) (gy 0 t):=by
  intro k v a1;have key:∀{xs:List _} {o:List V} {i:Nat},a' (cb s.st.length (s.iA h)) xs o->a8 (uK i xs) k=some v->∃v1,look (gy i o) k=some (true,v1)/\cb s.st.length (s.iA h) v v1:=by
   intro xs;induction xs with
   |nil=>grind[uK,a8]
   |cons x xs ih=>
    intro o i aB A;cases aB with
    |cons h1 y=>
     simp[uK,a8]at A;simp[gy,look];split at A
     . simp_all
     simp_all[al,iD]
  grind
 obtain⟨aD,Nm,aJ,q,L,Y,Q,am⟩:=Y5 q W aI;refine eh.tidy (eh.mk Z S ag rfl an (cu.conv L (cu.ais (tB af ap q Y Q am xC.afq λe env' J' N' M bq h1 y O a0=>?_)))) (λE s1 H aa=>aa)
 . have w:Ba s.st.length j s.eS s.eK s.us env' J'=some r->(e= .normal\/e= .ret)->xC s.st.length (E2 j λE s1 H=>∃bs F J2,bs.Nodup/\keeps s.st.length bs=true/\gG (E.bQ bs) F/\sv (fH bs s1 0 bs) J2/\E8 s r F J2 bs.length) e M bq N':=by
    intro ax X;obtain⟨aN,s1,K,p,G,d1,d2,rest⟩:=Y9 ax y O;refine⟨N',aN,s1,K,?_⟩;rcases X with rfl|rfl
    . exact⟨p,G,d1,d2,rest⟩
    . exact⟨p,G,d1,d2,rest⟩
   cases e with
   |normal=>exact w h1 (.inl rfl)
   |ret=>exact w h1 (.inr rfl)
   |_=>cases h1
where
 Sz:∀{ss:List e4} {a:eO U},(kO ss a).1.length=ss.length
  |[],a=>rfl
  |s::ss,a=>by
   simp[kO];have:=Sz (ss:=ss) (a:=(l6 s a).2);grind
def h3:dz->Nat->Option dz
 |.seq a b,q=>match Nat.ble (gx a) q with
  |true=>h3 b (q-gx a)
  |false=>h3 a q
 |.cond _ a b,q=>match Nat.ble (gx a) q with
  |true=>h3 b (q-gx a)
  |false=>h3 a q
 |.block _ b,q=>h3 b q
 |.loop b,q=>match q with
  |0=>some b
  |q+1=>h3 b q
 |_,_=>none
theorem gF.of{j:k' U}:∀{c:dz} {pos:Nat},(∀q b L,h3 c q=some b->j (pos+q)=some L->uS P nt kk b L)->gF P nt kk j pos c
 |.seq a b,pos,h=>by
  refine⟨gF.of λq e L h1 f=>h q e L ?_ f,gF.of λq e L h1 f=>h (gx a+q) e L ?_ (by grind)⟩
  . simp[h3];cases o:Nat.ble _ q with
    |true=>exact absurd (rW h1) (by simp_all)
    |false=>grind
  . simp[h3];have:Nat.ble (gx a) (gx a+q)=true:=(by simp);grind
 |.cond c a b,pos,h=>by
  refine⟨gF.of λq e L h1 f=>h q e L ?_ f,gF.of λq e L h1 f=>h (gx a+q) e L ?_ (by grind)⟩
  . simp only[h3];cases o:Nat.ble (gx a) q with
    |true=>exact absurd (rW h1) (by simp_all)
    |false=>grind
  . simp only[h3];have:Nat.ble (gx a) (gx a+q)=true:=(by simp);grind
 |.block id b,pos,h=>gF.of (c:=b) h
 |.loop b,pos,h=>λL cX=>h 0 b L rfl cX
 |.skip,pos,h=>trivial
 |.region _,pos,h=>trivial
 |.oI _ _,pos,h=>trivial
 |.exit _,pos,h=>trivial
 |.ret,pos,h=>trivial
where
 rW:∀{c:dz} {q:Nat} {b:dz},h3 c q=some b->q<gx c
  |.seq a b,q,e,h=>by
   simp[h3]at h;simp[gx];split at h
   . have:=rW h;grind
   . have:=rW h;omega
  |.cond _ a b,q,e,h=>by
   simp only[h3]at h;simp only[gx];split at h
   . have:=rW h;grind
   . have:=rW h;omega
  |.block _ b,q,e,h=>rW (c:=b) h
  |.loop b,0,e,h=>by simp[gx]
  |.loop b,q+1,e,h=>by have:=rW (c:=b) h;grind[gx]
  |.skip,q,e,h=>by grind[h3]
  |.region _,q,e,h=>by grind[h3]
  |.oI _ _,q,e,h=>by grind[h3]
  |.exit _,q,e,h=>by grind[h3]
  |.ret,q,e,h=>by grind[h3]
theorem gF.SQ{a:k' U}(h:∀q L,a q=some L->uS P nt kk ((h3 c q).getD .skip) L):gF P nt kk a 0 c:=
 gF.of λq b L h1 e=>by grind
theorem gF.none:gF P nt kk (λ_=>none:k' U) 0 c:=gF.SQ λq L h=>by grind
theorem fX.none:fX P (λ_=>[]:fW U):=λf s h=>by grind
end
open Go
def IV(P:Program)(fn:Func):dz:=
 match fn.body.bind (Shv.resolve P fn.ntmps)with
 |some c=>c
 |none=>.skip
def wC(c:dz)(q:Nat):dz:=(h3 c q).getD .skip
def hM{U:cM}:List (cH U)->fW U
 |[],_=>[]
 |s::l,f=>match Nat.beq s.f f with
  |true=>s::hM l f
  |false=>hM l f
def kP{U:cM}(l:List (Nat×hb U)):k' U:=λq=>a8 l q
theorem fX.nil{U:cM}{P:Program}:fX P (hM ([]:List (cH U))):=λf s h=>by grind[hM]
theorem fX.cons{U:cM}{P:Program}{s:cH U}{l:List (cH U)}(c:hi P s.f=true)(hs:hz P s)(h:fX P (hM l)):fX P (hM (s::l)):=by
 intro f t ht;simp[hM]at ht;split at ht
 . rename_i a;have:=c1 a;rcases eJ.1 ht with rfl|ht
   . grind
   . exact h f t ht
 . exact h f t ht
def jj{U:cM}(P:Program)(nt kk:Nat)(c:dz)(l:List (Nat×hb U)):Prop:=∀q L,a8 l q=some L->uS P nt kk (wC c q) L
theorem jj.nil{U:cM}{P:Program}{nt kk:Nat}{c:dz}:jj P nt kk c ([]:List (Nat×hb U)):=λq L h=>by grind[a8]
theorem jj.cons{U:cM}{P:Program}{nt kk:Nat}{c:dz}{q:Nat}{L:hb U}{l:List (Nat×hb U)}(cX:uS P nt kk (wC c q) L)(h:jj P nt kk c l):jj P nt kk c ((q,L)::l):=by
 intro e L' a;simp[a8]at a;split at a
 . simp_all
 . exact h e L' a
theorem jj.snd{U:cM}{P:Program}{c:dz}{l:List (Nat×hb U)}(h:jj P nt kk c l):gF P nt kk (kP l) 0 c:=gF.SQ λq L a=>h q L a
def aM(k:IntKind)(a b:Int):Int:=k.wrap (a+b)
def c9(k:IntKind)(a b:Int):Int:=k.wrap (a-b)
def gz(k:IntKind)(a b:Int):Int:=k.wrap (a*b)
def fC(k:IntKind)(a b:Int):Int:=k.wrap (a.tdiv b)
def b7(a b:Int):Int:=a.tmod b
def Bk(k:IntKind)(a b:Int):Int:=k.wrap (BitVec.ofInt k.bits a &&& BitVec.ofInt k.bits b).toNat
def r7(k:IntKind)(a b:Int):Int:=k.wrap (BitVec.ofInt k.bits a ||| BitVec.ofInt k.bits b).toNat
def uM(k:IntKind)(a b:Int):Int:=k.wrap (BitVec.ofInt k.bits a ^^^ BitVec.ofInt k.bits b).toNat
def nj(k:IntKind)(a b:Int):Int:=k.wrap (a*2^min b.toNat k.bits)
def lE(k:IntKind)(a b:Int):Int:=a.fdiv (2^min b.toNat k.bits)
open Go
variable {U:cM}
structure gq where
 q:Nat
 bI:Shape
 own:List (Pos×aL)
 Cx:List (Pos×aL)
 ts:List aL
 outs:List jF
 sub:List gq
structure ez where
 f:Nat
 gC:List e4
 st:List fO
 ts:List aL
 eS:e4
 eK:List fO
 us:List aL
 sub:List gq
def gq.l(e:gq)(F:aO U.D e.ts->Option (eD U e.outs)):hb U:=⟨e.bI,e.own,e.ts,e.outs,F⟩
def ez.s(e:ez)(F:aO U.D e.ts->Option (aO U.D e.us)):cH U:=⟨e.f,e.gC,e.st,e.ts,e.eS,e.eK,e.us,F⟩
def codeF(P:Program)(f:Nat):dz:=match P.funcs[f]? with
 |some fn=>IV P fn
 |none=>.skip
def yd(P:Program)(f:Nat):Nat:=match P.funcs[f]? with
 |some fn=>fn.ntmps
 |none=>0
def QH(P:Program)(f:Nat):List jf:=match P.funcs[f]? with
 |some fn=>(match ie P fn.results.toList with
  |some r=>r
  |none=>[])
 |none=>[]
def uC(P:Program)(e:ez):Bool:=match P.funcs[e.f]? with
 |some fn=>hi P e.f&&((fn.body.bind (resolve P fn.ntmps)).isSome&&((ie P fn.results.toList).isSome&&Nat.ble e.gC.length fn.ntmps))
 |none=>false
def iz(P:Program)(e:ez):Prop:=uC P e=true
variable{e:ez}
theorem iz.m{P:Program}(h:uC P e=true):iz P e:=h
def rV(fo:fW U)(d:k' U)(kk:Nat)(b:dz)(e:gq)(a:aO U.D e.ts->Option (eD U e.outs))(h:aO U.D e.ts):Option (eD U e.outs):=
 lH fo d kk b 0 (hq U e.bI (aO.cells U.D e.ts h)).1 (hq U e.bI (aO.cells U.D e.ts h)).2 e.bI.st.length (λx env J N=>match x with
  |.normal=>match uL kk e.Cx e.bI e.ts env J N with
   |some c=>a c
   |none=>none
  |x=>r6 kk e.outs x env J N)
def qu(fo:fW U)(a:k' U)(P:Program)(e:ez)(h:aO U.D e.ts):Option (aO U.D e.us):=
 ET e.st.length (hL 0 e.st (kO e.gC (aO.cells U.D e.ts h)).2) λJ N=>lH fo a e.st.length (codeF P e.f) 0 (uK 0 (kO e.gC (aO.cells U.D e.ts h)).1) J N (Tv e.st.length (QH P e.f) e.eS e.eK e.us)
section
variable {P:Program}
variable{fo:fW U}
theorem KJ(f:fX P fo){c:k' U}{b:dz}{e:gq}{h:aO U.D e.ts}{o:eD U e.outs}{a:aO U.D e.ts->Option (eD U e.outs)}
 (g:gF P nt kk c 0 b)(d:∀h o,a h=some o->nv P nt kk b e.bI e.ts e.outs h o)(i:rV fo c kk b e a h=some o):nv P nt kk b e.bI e.ts e.outs h o:=by
 refine nv.ahN (own:=e.Cx) f g d (Eq.trans ?_ i);grind[rV]
theorem LB{i:k' U}(d:iz P e)(F:aO U.D e.ts->Option (aO U.D e.us))(n:fX P fo)(a:gF P (yd P e.f) e.st.length i 0 (codeF P e.f))
 {h:aO U.D e.ts}{r:aO U.D e.us}(b:qu fo i P e h=some r):uQ P (e.s F) h r:=by
 unfold iz uC at d;unfold codeF at a;unfold yd at a;unfold qu codeF QH at b;split at d
 . rename_i fn g;simp[g]at a b;simp only[c5]at d;obtain⟨p,k,bf,l⟩:=d;obtain⟨c,m⟩:=FU.1 k;obtain⟨o,ag⟩:=FU.1 bf;have j:IV P fn=c:=(by grind[IV]);rw[j]at a b;simp[ag]at b;exact uQ.F7 g m ag l n a b
 grind
theorem iz.b{e:ez}(a:iz P e):hi P e.f=true:=by
 grind[iz,uC]
def x7(fo:fW U)(kk:Nat):Nat->dz->(e:gq)->aO U.D e.ts->Option (eD U e.outs)
 |0,_,_,_=>none
 |n+1,b,e,h=>rV fo (kP (e.sub.map λs=>(s.q,s.l (x7 fo kk n (wC b s.q) s)))) kk b e (x7 fo kk n b e) h
def xf(g:(e:ez)->aO U.D e.ts->Option (aO U.D e.us))(r:List (cH U)):List ez->fW U
 |[],f=>hM r f
 |e::T,f=>match Nat.beq e.f f with
  |true=>e.s (g e)::xf g r T f
  |false=>xf g r T f
def l4(P:Program)(T:List ez)(a:List (cH U)):Nat->(e:ez)->aO U.D e.ts->Option (aO U.D e.us)
 |0,_,_=>none
 |n+1,e,h=>qu (xf (l4 P T a n) a T) (kP (e.sub.map λs=>(s.q,s.l (x7 (xf (l4 P T a n) a T) e.st.length n (wC (codeF P e.f) s.q) s)))) P e h
theorem FJ{b:dz}{g:(s:gq)->aO U.D s.ts->Option (eD U s.outs)}:∀{l:List gq},(∀s h o,g s h=some o->nv P nt kk (wC b s.q) s.bI s.ts s.outs h o)->jj P nt kk b (l.map λs=>(s.q,s.l (g s)))
 |[],_=>jj.nil
 |s::l,aq=>jj.cons (λh o a=>aq s h o a) (FJ aq)
theorem Jk(a:fX P fo):∀(n:Nat) (b:dz) (e:gq) (h:aO U.D e.ts) (o:eD U e.outs),x7 fo kk n b e h=some o->nv P nt kk b e.bI e.ts e.outs h o
 |0,_,_,_,_,d=>by grind[x7]
 |n+1,b,e,h,o,d=>KJ a (jj.snd (FJ λs h o c=>Jk a n _ s h o c)) (λh o c=>Jk a n b e h o c) d
theorem OJ{g:(e:ez)->aO U.D e.ts->Option (aO U.D e.us)}{r:List (cH U)}(ag:fX P (hM r)):∀{T:List ez},(∀e,e∈T->iz P e)->(∀e,e∈T->hz P (e.s (g e)))->fX P (xf g r T)
 |[],_,_=>ag
 |e::T,a,aq=>by
  intro f t ht;simp[xf]at ht;have ih:=OJ ag (λe he=>a e (B0 _ he)) (λe he=>aq e (B0 _ he));split at ht
  . rename_i c;have:=c1 c;rcases eJ.1 ht with rfl|ht
    . exact⟨this,by rw[<-this];exact(a e B4).b,aq e B4⟩
    . exact ih f t ht
  . exact ih f t ht
theorem OK{T:List ez}(a:∀e,e∈T->iz P e){b:List (cH U)}(d:fX P (hM b)):∀(n:Nat) (e:ez),iz P e->hz P (e.s (l4 P T b n e))
 |0,e,_=>λh r ag=>by simp[ez.s,l4]at ag
 |n+1,e,he=>hz.of λh r ag=>
  have f:=OJ d a λc g=>OK a d n c (a c g)
  LB he _ f (jj.snd (FJ λs h o i=>Jk f n _ s h o i)) ag
end
open Go
variable {U:cM}{P:Program}
def gO(P:Program)(s:cH U):Prop:=hi P s.f=true/\hz P s
def ql(P:Program)(f:Nat):a7->dz
 |[]=>codeF P f
 |q::p=>wC (ql P f p) q
def nx(P:Program)(f kk:Nat)(p:a7)(e:gq)(F:aO U.D e.ts->Option (eD U e.outs)):Prop:=uS P (yd P f) kk (ql P f p) (e.l F)
def ji(P:Program)(l:List (cH U)):Prop:=fX P (hM l)
theorem ji.n:ji P ([]:List (cH U)):=fX.nil
theorem ji.k{s:cH U}{l:List (cH U)}(h:gO P s)(af:ji P l):ji P (s::l):=fX.cons h.1 h.2 af
def jD(P:Program)(f kk:Nat)(p:a7)(l:List (Nat×hb U)):Prop:=jj P (yd P f) kk (ql P f p) l
theorem jD.n{f kk:Nat}{p:a7}:jD P f kk p ([]:List (Nat×hb U)):=jj.nil
theorem jD.k{f kk q:Nat}{p:a7}{e:gq}{F:aO U.D e.ts->Option (eD U e.outs)}{l:List (Nat×hb U)}(h:nx P f kk (q::p) e F)(af:jD P f kk p l):jD P f kk p ((q,e.l F)::l):=jj.cons h af
def Bc(P:Program)(U:cM)(e:ez)(h:aO U.D e.ts)(r:aO U.D e.us):Prop:=uQ P (e.s λ_=>none) h r
def xz(P:Program)(U:cM)(f kk:Nat)(p:a7)(e:gq)(h:aO U.D e.ts)(o:eD U e.outs):Prop:=nv P (yd P f) kk (ql P f p) e.bI e.ts e.outs h o
theorem Bc.at(j:iz P e){fs:List (cH U)}(c:ji P fs){a:List (Nat×hb U)}(af:jD P e.f e.st.length [] a){h:aO U.D e.ts}{r:aO U.D e.us}(o:qu (hM fs) (kP a) P e h=some r):Bc P U e h r:=
 LB j _ c (jj.snd af) o
theorem xz.at{e:gq}{a:aO U.D e.ts->Option (eD U e.outs)}(bx:∀h o,a h=some o->xz P U f kk p e h o){fs:List (cH U)}(j:ji P fs){c:List (Nat×hb U)}(af:jD P f kk p c){h:aO U.D e.ts}{o:eD U e.outs}
 (q:rV (hM fs) (kP c) kk (ql P f p) e a h=some o):xz P U f kk p e h o:=
 KJ j (jj.snd af) bx q
theorem gO.of(a:iz P e){F:aO U.D e.ts->Option (aO U.D e.us)}(h:∀h r,F h=some r->Bc P U e h r):gO P (e.s F):=⟨a.b,hz.of h⟩
theorem nx.of{e:gq}{F:aO U.D e.ts->Option (eD U e.outs)}(h:∀h o,F h=some o->xz P U f kk p e h o):nx P f kk p e F:=h
theorem gO.fn(a:iz P e){F:aO U.D e.ts->Option (aO U.D e.us)}{fs:List (cH U)}(j:ji P fs){c:List (Nat×hb U)}(af:jD P e.f e.st.length [] c)(o:∀h,qu (hM fs) (kP c) P e h=F h):gO P (e.s F):=
 .of a λh r ag=>.at a j af ((o h).trans ag)
theorem nx.aiR{e:gq}{F:aO U.D e.ts->Option (eD U e.outs)}{fs:List (cH U)}(c:ji P fs){a:List (Nat×hb U)}(af:jD P f kk p a)(q:∀h,rV (hM fs) (kP a) kk (ql P f p) e (λ_=>none) h=F h):nx P f kk p e F:=
 .of λh o j=>.at (λ_ _ h=>by grind) c af ((q h).trans j)
theorem gO.rc(c:iz P e){F:aO U.D e.ts->Option (aO U.D e.us)}{b:(aO U.D e.ts->Option (aO U.D e.us))->aO U.D e.ts->Option (aO U.D e.us)}
 (q:∀m:aO U.D e.ts->aO U.D e.us->Prop,(∀a,(∀h r,a h=some r->m h r)->∀h r,b a h=some r->m h r)->∀h r,F h=some r->m h r)
 {fs:(aO U.D e.ts->Option (aO U.D e.us))->List (cH U)}(o:∀a,gO P (e.s a)->ji P (fs a)){j:List (Nat×hb U)}(af:jD P e.f e.st.length [] j)(p:∀a h,qu (hM (fs a)) (kP j) P e h=b a h):gO P (e.s F):=
 .of c (q _ λa bx h r ag=>.at c (o a (.of c bx)) af ((p a h).trans ag))
theorem nx.rc{e:gq}{F:aO U.D e.ts->Option (eD U e.outs)}{b:(aO U.D e.ts->Option (eD U e.outs))->aO U.D e.ts->Option (eD U e.outs)}
 (v:∀m:aO U.D e.ts->eD U e.outs->Prop,(∀a,(∀h r,a h=some r->m h r)->∀h r,b a h=some r->m h r)->∀h r,F h=some r->m h r)
 {fs:List (cH U)}(j:ji P fs){c:List (Nat×hb U)}(af:jD P f kk p c)(t:∀a h,rV (hM fs) (kP c) kk (ql P f p) e a h=b a h):nx P f kk p e F:=
 .of (v _ λa bx h o q=>.at bx j af ((t a h).trans q))
theorem gO.bj{F:aO U.D e.ts->Option (aO U.D e.us)}{fs:List (cH U)}(c:ji P fs:=by exact .n){a:List (Nat×hb U)}(af:jD P e.f e.st.length [] a:=by exact .n)(j:iz P e:=by exact .m (by kernel_rfl))
 (o:∀h,qu (hM fs) (kP a) P e h=F h:=by intro _;kernel_rfl):gO P (e.s F):= .fn j c af o
theorem gO.rx{F:aO U.D e.ts->Option (aO U.D e.us)}{b:(aO U.D e.ts->Option (aO U.D e.us))->aO U.D e.ts->Option (aO U.D e.us)}
 (q:∀m:aO U.D e.ts->aO U.D e.us->Prop,(∀a,(∀h r,a h=some r->m h r)->∀h r,b a h=some r->m h r)->∀h r,F h=some r->m h r)
 {fs:(aO U.D e.ts->Option (aO U.D e.us))->List (cH U)}(j:∀a,gO P (e.s a)->ji P (fs a)){c:List (Nat×hb U)}(af:jD P e.f e.st.length [] c:=by exact .n)(o:iz P e:=by exact .m (by kernel_rfl))
 (p:∀a h,qu (hM (fs a)) (kP c) P e h=b a h:=by intro _ _;kernel_rfl):gO P (e.s F):= .rc o q j af p
theorem nx.rx {f kk:Nat}{p:a7}{e:gq}{F:aO U.D e.ts->Option (eD U e.outs)}{b:(aO U.D e.ts->Option (eD U e.outs))->aO U.D e.ts->Option (eD U e.outs)}
 (q:∀m:aO U.D e.ts->eD U e.outs->Prop,(∀a,(∀h r,a h=some r->m h r)->∀h r,b a h=some r->m h r)->∀h r,F h=some r->m h r)
 {fs:List (cH U)}(j:ji P fs:=by exact .n){c:List (Nat×hb U)}(af:jD P f kk p c:=by exact .n)(o:∀a h,rV (hM fs) (kP c) kk (ql P f p) e a h=b a h:=by intro _ _;kernel_rfl):nx P f kk p e F:= .rc q j af o
theorem adf{T:List ez}(h:T.all (uC P)=true):∀e,e∈T->iz P e:=λe he=>fK.1 h e he
theorem gO.run{T:List ez}(db:T.all (uC P)=true){a:List (cH U)}(f:ji P a)(c:iz P e){F:aO U.D e.ts->Option (aO U.D e.us)}(n:Nat)(h:∀h,F h=l4 P T a n e h):gO P (e.s F):=
 ⟨c.b,λx r ag=>OK (adf db) f n e c x r ((h x).symm.trans ag)⟩
abbrev ab:aL:= .int .i64
abbrev az(n:Nat):aL:= .slice (.nm n)
abbrev je:aL:= .slice .str
abbrev bM:aL:= .slice (.int .i64)
abbrev aa(t:aL):e4:= .c (.hole t)
abbrev au(b o:Nat):e4:= .c (.ptr b o)
abbrev b8(t:aL):fO:= .box [.hole t]
def cv:kv->List aL
 |.hole t=>[t]
 |.cJ _ _ _=>[.int .i64]
 |.dM t _=>[t]
 |_=>[]
def bx{α:Type}(f:α->List aL):List α->List aL
 |[]=>[]
 |a::l=>f a++bx f l
def SD:e4->List aL
 |.c s=>cv s
 |.agg l=>bx cv l
 |.row n=>[.nm n]
 |.aY _=>[]
def gW:e4->List aL
 |.aY l=>bx SD l
 |v=>SD v
def dj:fO->List aL
 |.box l=>bx cv l
 |.arr t=>[.slice t]
 |.bk n=>[.nm n]
 |.set=>[.slice .str]
 |.buf _=>[.str]
 |.b9 _ s=>cv s
 |.gone=>[]
def dL(l:List (Nat×e4))(st:List fO):List aL:=bx (λp=>gW p.2) l++bx dj st
abbrev aW(f:Nat)(gC:List e4)(eS:e4)(sub:List gq:=[])(st:List fO:=[])(eK:List fO:=[]):ez:=⟨f,gC,st,bx gW gC++bx dj st,eS,eK,gW eS++bx dj eK,sub⟩
abbrev bL(q:Nat)(l:List (Nat×e4))(st:List fO)(outs:List jF)(sub:List gq:=[])(own:List (Pos×aL):=[])(Cx:List (Pos×aL):=own):gq:=⟨q,⟨l,st⟩,own,Cx,dL l st,outs,sub⟩
abbrev bG(e:Exit)(l:List (Nat×e4))(st:List fO:=[])(own:List (Pos×aL):=[]):jF:=⟨e,⟨l,st⟩,own,dL l st⟩
abbrev eR(k:Nat)(t:aL):jF:=⟨.ret,⟨[(k,aa t)],[]⟩,[],[t]⟩
abbrev gn(i:Nat):jF:=⟨.exit i,⟨[],[]⟩,[],[]⟩
section
open Go
variable {U:cM}
def DC(sz bytes:Nat)(z:List C):dz:=
 .seq (.region [⟨some 2,.mov (.const (.c .aA)),none⟩])
  (.seq (.seq (.region [⟨some 3, .mov (.tmp 0),none⟩,⟨some 4, .eqNil false (.tmp 3),none⟩])
   (.cond (.tmp 4) (.seq (.region [⟨some 2,.mov (.const (.c .aA)),none⟩]) .ret) .skip))
   (.seq (.region [⟨some 5,.bslice sz 0 z [],none⟩,⟨some 6,.mov (.tmp 0),none⟩,⟨some 7,.append sz bytes (.tmp 5) (.tmp 6),none⟩,⟨some 2,.mov (.tmp 7),none⟩]) .ret))
def uI(bytes n:Nat):Bool:=(decide ((2*n+192)*bytes<=hZ)||decide ((n+n/4+512)*bytes<=hZ))&&decide (n<=dY)
theorem mW{bytes n:Nat}(h:room bytes n=true):uI bytes n=true:=by
 grind[H',uI]
theorem OL{bytes n:Nat}(h:uI bytes n=true):lP n bytes/\n<=dY:=by
 unfold uI at h;simp at h;exact h
def fj{α:Type}(bytes:Nat)(l:List α):Option (List α):=if uI bytes l.length then some l else none
def wD(U:cM)(f:Nat)(t:aL)(bytes:Nat):cH U:=
 ⟨f,[.c (.hole (.slice t))],[],[.slice t],.c (.arr 0),[.arr t],[.slice t],λ(l:List (t.den U.D))=>fj bytes l⟩
variable{es:List (List T)}{f:Nat}
section
variable {P:Program}
theorem abF{fn:Func}{sz bytes:Nat}{z:List C}{p:List T}(g:P.funcs[f]?=some fn)(a:fn.body.bind (Shv.resolve P fn.ntmps)=some (DC sz bytes z))(ag:ie P fn.results.toList=some [.tmp 2])
 (aH:1<=fn.ntmps)(n:toTs z=some p)(l:0<sz)(he:∀e,e∈es->e.length=sz)(j:uI bytes es.length=true):
 eh P f [.c (.t (.slice es))] [] 0 (λr J' N'=>N'=1/\r= .c (.arr 0 sz 0 es.length)/\aX J' 0=some (.arr sz es)):=by
 have w:=OL j;refine eh.tidy (Q:=λr J' N'=>∃b,r= .c (.arr b sz 0 es.length)/\aX J' b=some (.arr sz es)) (eh.mk g a ag rfl (by grind) ?_) ?_
 . refine cu.seq (cu.region ?_);simp only[kx,hd,gf,aQ,aR.get,er,gy,cR.neutral,b5,andThen];refine .inr ⟨λ_=>trivial,.inl trivial,?_⟩;refine cu.seq (cu.seq (cu.region ?_));simp only[kx,hd,gf,aQ,aR.get,mf,er,cR.neutral,b5,andThen,look];refine .inr ⟨λ_=>by rfl,.inl trivial,?_⟩;refine .inr ?_;simp only[b6,b5,rZ];intro b q;refine cu.cond (b:=b) (by simp[aR.get,look,sC]) trivial (λv=>?_) (λu=>?_)
   ·
    have d:es=[]:=(by grind);subst d;refine cu.seq (cu.region ?_);simp only[kx,hd,gf,aQ,aR.get,mf,er,cR.neutral,b5,andThen];refine .inr ⟨λ_=>trivial,.inl trivial,?_⟩;refine cu.conv (Conv.own (k:=2) rfl l (hR _)) (cu.ret ?_);refine⟨_,_,rfl,⟨rfl,trivial⟩,_,rfl,?_⟩;rfl
   . refine cu.skip ?_;refine cu.seq (cu.region ?_);simp only[kx,hd,gf,aQ,aR.get,mf,er,cR.neutral,b5,andThen,look,jQ,n,ao,Nat.reduceEqDiff,b6,reduceCtorEq,mr,c2,List.replicate];refine .inr ⟨λ_=>trivial,.inr trivial,?_⟩;refine .inr ⟨λ_=>by simp,.inl trivial,?_⟩;refine .inr ⟨λ_=>⟨trivial,trivial,trivial,trivial,trivial,by rfl,he,by grind,by grind⟩,.inr trivial,?_⟩;refine .inr ⟨λ_=>by simp,.inl trivial,?_⟩;refine cu.ret ⟨_,[.c (.arr 80 sz 0 _)],rfl,⟨rfl,trivial⟩,80,by rw[h7];rfl,?_⟩;rfl
 . rintro r J' N' ⟨b,rfl,hs⟩
   refine⟨[b],_,_,by simp,rfl,?_,λi x m=>⟨x,m,?_⟩,rfl,rfl,?_⟩
   . simp only[V.bQ,C.bQ,pos,b5];exact .c (dE.refl _)
   . cases x with
     |box cs=>exact .box (a'.self dE.refl _)
     |arr sz es=>exact .arr
     |set ks=>exact .same
     |buf E s=>exact .same
     |b9 E c=>exact .b9 (dE.refl _)
     |cA sz es i o c=>exact .cA (dE.refl _)
   grind[fH,aX,bR.bQ]
theorem Em{fn:Func}{sz bytes:Nat}{z:List C}{s:List T}{t:aL}(n:P.funcs[f]?=some fn)(m:fn.body.bind (Shv.resolve P fn.ntmps)=some (DC sz bytes z))(ag:ie P fn.results.toList=some [.tmp 2])
 (aH:Nat.ble 1 fn.ntmps=true)(q:toTs z=some s)(o:t.sz U=sz):hz P (wD U f t bytes):=by
 intro l r bx v J1 j aI;subst o;have d:fj _ l=some r:=bx;unfold fj at d;split at d
 . cases d;cases j with
   |cons h1 i=>
    cases i;have:=cb.kp h1;subst this
    refine eh.conv (.cons (.c (dE.refl _)) .nil) (λb x a=>by grind[aX]) ((abF n m ag (jN aH) q aL.sd (λe he=>by
     obtain⟨y,_,rfl⟩:=e'.1 he
     exact aL.sL) (by grind)).mono ?_)
    rintro A s1 u ⟨rfl,rfl,hs⟩
    refine⟨rfl,.c (.arr 0 _ _ (by simp) λx a p w=>?_),λb x a=>?_⟩
    . have:x=cS.arr t l:=by
       simp[cH.rest,wD,l6,vb,aO.cells,fq.cells,hL,jU,a8]at a;grind
      grind[cS.dh]
    . have g:(if b=0 then some (cS.arr t l)else none)=some x:=by
       rw[<-a];cases b<;>rfl
      split at g
      . rename_i k;cases g;subst k;exact⟨by simp,_,hs,.arr t l⟩
      grind
 grind
def uf{α:Type}(bytes:Nat)(l:List α):Option (List α×List α):=(fj bytes l).map λr=>(l,r)
def IW(U:cM)(f:Nat)(t:aL)(bytes:Nat):cH U:=
 ⟨f,[.c (.arr 0)],[.arr t],[.slice t],.c (.arr 1),[.arr t,.arr t],[.slice t,.slice t],λ(l:List (t.den U.D))=>uf bytes l⟩
theorem aaL{fn:Func}{sz bytes:Nat}{z:List C}{w:List T}{a:ba}(m:P.funcs[f]?=some fn)(j:fn.body.bind (Shv.resolve P fn.ntmps)=some (DC sz bytes z))(ag:ie P fn.results.toList=some [.tmp 2])
 (aH:1<=fn.ntmps)(u:toTs z=some w)(q:0<sz)(he:∀e,e∈es->e.length=sz)(n:uI bytes es.length=true)(h0:aX a 0=some (.arr sz es)):
 eh P f [.c (.arr 0 sz 0 es.length)] a 1 (λr J' N'=>N'=2/\r= .c (.arr 1 sz 0 es.length)/\aX J' 0=some (.arr sz es)/\aX J' 1=some (.arr sz es)):=by
 have F:=OL n;refine eh.tidy (Q:=λr J' N'=>∃b,1<=b/\r= .c (.arr b sz 0 es.length)/\aX J' 0=some (.arr sz es)/\aX J' b=some (.arr sz es)) (eh.mk m j ag rfl (by grind) ?_) ?_
 . refine cu.seq (cu.region ?_);simp only[kx,hd,gf,aQ,aR.get,mf,er,gy,cR.neutral,b5,andThen];refine .inr ⟨λ_=>trivial,.inl trivial,?_⟩;refine cu.seq (cu.seq (cu.region ?_));simp only[kx,hd,gf,aQ,aR.get,mf,er,cR.neutral,b5,andThen,look,gA,jw];refine .inr ⟨λ_=>by rfl,.inl trivial,?_⟩;refine .inr ?_;simp only[Nat.reduceEqDiff,b6,b5,mf,rZ];intro b y;refine cu.cond (b:=b) (p:=True) (by simp[aR.get,look,sC]) trivial (λD=>?_) (λB=>?_)
   . have l:es=[]:=(by grind);subst l;refine cu.seq (cu.region ?_);simp only[kx,hd,gf,aQ,aR.get,mf,er,cR.neutral,b5,andThen];refine .inr ⟨λ_=>trivial,.inl trivial,?_⟩;refine cu.conv (Conv.own (k:=2) (g:=true) (sz:=sz) rfl q (by simp)) (cu.ret ?_);refine⟨_,_,rfl,⟨rfl,trivial⟩,_,by simp,rfl,?_,?_⟩
     . simp_all[c2,al]
     . rw[c2,ae rfl]
   . refine cu.skip ?_;refine cu.seq (cu.region ?_);simp only[kx,hd,gf,aQ,aR.get,mf,er,cR.neutral,b5,andThen,look,jQ,u,ao,Nat.reduceEqDiff,b6,bY,reduceCtorEq,List.replicate];refine .inr ⟨λ_=>trivial,.inr trivial,?_⟩;refine .inr ⟨λ_=>by simp,.inl trivial,?_⟩;have d:∀v,mr (df a (1+16*1+16*2) (.arr sz v)) (.c (.arr 0 sz 0 es.length))=some (es,some 0):=by
      grind[mr,c2]
     refine .inr ?_;simp only[gA,jw,h7]at d⊢;rw[d];simp only[ao,c2,b5,dG,Nat.reduceMul,Nat.reduceAdd,b6];refine⟨λ_=>⟨trivial,trivial,trivial,trivial,trivial,by rfl,he,by grind,by grind⟩,.inr trivial,?_⟩;refine .inr ⟨λ_=>by simp,.inl trivial,?_⟩;refine cu.ret ⟨_,[.c _],rfl,⟨rfl,trivial⟩,81,by simp,rfl,?_,?_⟩
     . simp_all[c2,al,fQ]
     simp_all[c2,ae]
 . rintro r J' N' ⟨b,A,rfl,G,hs⟩
   refine⟨[0,b],_,_,by grind,rfl,?_,λi x t=>⟨x,t,?_⟩,rfl,rfl,?_⟩
   . simp only[V.bQ,C.bQ,pos,al (show ¬0=b by omega),b5];exact .c (dE.refl _)
   . cases x with
     |box cs=>exact .box (a'.self dE.refl _)
     |arr sz es=>exact .arr
     |set ks=>exact .same
     |buf E s=>exact .same
     |b9 E c=>exact .b9 (dE.refl _)
     |cA sz es i o c=>exact .cA (dE.refl _)
   grind[fH,aX,bR.bQ]
theorem aaM{fn:Func}{sz bytes:Nat}{z:List C}{E:List T}{t:aL}(q:P.funcs[f]?=some fn)(m:fn.body.bind (Shv.resolve P fn.ntmps)=some (DC sz bytes z))(ag:ie P fn.results.toList=some [.tmp 2])
 (aH:Nat.ble 1 fn.ntmps=true)(D:toTs z=some E)(w:t.sz U=sz):hz P (IW U f t bytes):=by
 intro l r bx G J1 j aI;subst w;have d:(fj _ l).map _=some r:=bx;unfold fj at d;split at d
 . cases d;cases j with
   |cons h1 i=>
    cases i;obtain⟨sz,n,rfl,_,o⟩:=h1.hc;obtain⟨_,y,A,B⟩:=aI 0 _ rfl;cases B;have:=o _ rfl _ rfl;obtain⟨rfl,rfl⟩:=this;have s:l.length=(l.map (t.enc U)).length:=(by grind);rw[s]
    refine(aaL q m ag (jN aH) D aL.sd (λe he=>by
     obtain⟨y,_,rfl⟩:=e'.1 he
     exact aL.sL) (by grind) A).mono ?_
    rintro J s1 F ⟨rfl,rfl,u,v⟩
    have g:∀b x,a8 ((IW U f t bytes).rest (l,l)) b=some x->(b=0\/b=1)/\x=cS.arr t l:=by
     intro b x a;have I:(if b=0 then some (cS.arr t l)else if b=1 then some (cS.arr t l)else none)=some x:=by
      rw[<-a]
      match b with
      |0=>rfl
      |1=>rfl
      |_+2=>rfl
     grind
    refine⟨rfl,.c (.arr 1 _ _ (by simp) λx a p H=>?_),λb x a=>?_⟩
    . obtain⟨_,rfl⟩:=g _ _ a;grind[cS.dh]
    . obtain⟨k,rfl⟩:=g _ _ a;rcases k with rfl|rfl
      . exact⟨by simp,_,u,.arr t l⟩
      . exact⟨by simp,_,v,.arr t l⟩
 grind
end
end
section
open Go Go.Proofs Go.Proofs.YtdjagncoefjfeaaGreat Go.Shelf
variable {U:cM}
def El(U:cM)(f E a:Nat):cH U:=
 ⟨f,[.c (.ptr 0 0)],[.b9 E (.cP 1),.buf a],[.str],.aY [],[.b9 E (.cP 1),.buf a],[.str],λ(s:ak)=>some s⟩
section
variable {P:Program}{ρ:Ren}
theorem abG(L:Lays.n240 P ρ)(y:Builder.X72 P ρ){J:ba}{D n:Nat}{s:ak}(h0:aX J 0=some (.b9 (ρ.t 72) (.cP 1 n)))(h1:aX J 1=some (.buf D s)):
 eh P (ρ.f 240) [.c (.ptr 0 0)] J 2 (λr J' N'=>r= .aY []/\J'=J/\N'=2):=by
 intro φ S w B g A l O vs o;cases o with|cons M o=>
 cases o;have H:=M.hS;subst H;obtain⟨q,⟨p,v,aa,G,I⟩,z⟩:=g.blk 0 _ h0;have same:∀ w',w' = w->∃ (v:Value) (r:V) (i:dD) (bP:dU) (J':ba) (N':Nat),Ending.returned (Value.tuple #[]) = Ending.returned v/\(r = .aY []/\J' = J/\N' = 2)/\cl i w' bP r v/\r.aE (lt N') = true/\qB i w' bP J'/\(∀ (b:Nat) x,aX J' b = some x->b<N'/\x.aE (lt N') = true)/\Ext B S bP w w'/\
  (∀(b:Nat) x,aX J' b=some x->(i b).2≠0->B (i b).1\/w.heap.size<=(i b).1)/\∀b,b<2->i b=φ b:=by
  rintro w' rfl
  exact⟨_,.aY [],φ,S,J,2,rfl,⟨rfl,rfl,rfl⟩,.aY [] [] rfl (by simp),rfl,g,A,Ext.refl,λb x a d=>.inl (l b x a d),λ_ _=>rfl⟩
 rcases G with rfl|rfl
 . have k:w.cell? ⟨(φ 0).1,0,none⟩=some (.pointer none):=by rw[jm aa];rfl
   have K:w.shape? (φ 0).1=some (ρ.t 72,2):=(by simp[World.shape?,aa]);have F:w.frozen? ⟨(φ 0).1,0,none⟩=false:=(by simp[World.frozen?,aa]);refine(Any.Builder_copyCheck_fresh L y _ w k K F).mono ?_
   rintro e w' ⟨rfl,rfl⟩
   obtain⟨N,u⟩:=Ka aa 0 _;have m:gr w S _ S:=⟨λ_ _ h=>h,λb j h=>q7 (u b (λe=>z j (e▸h))) j⟩
   refine⟨_,.aY [],φ,S,J,2,rfl,⟨rfl,rfl,rfl⟩,.aY [] [] rfl (by simp),rfl,⟨λb x a=>?_,g.inj,λb j h=>?_⟩,A,⟨rfl,rfl,rfl,by simp,λb d dj=>u b (λe=>dj (e▸l 0 _ h0 q)),m,λ_ _ h=>.inl h⟩,λb x a d=>.inl (l b x a d),λ_ _=>rfl⟩
   . by_cases d:b=0
     . subst d;rw[h0]at a;cases a;exact⟨q,⟨_,v,N,.inr rfl,bp.mono m (λ_ _=>rfl) (C.mC _) I⟩,z⟩
     . exact cZ.mono (n:=λ_=>true) m (λ_ _=>rfl) rfl (by cases x<;>simp[bR.aE,C.mC]) (λE=>u _ (g.inj b 0 x _ a h0 d E q)) (g.blk b x a)
   . have:=g.st b j h;simpa using this
 . have k:w.cell? ⟨(φ 0).1,0,none⟩=some (.pointer (some ⟨(φ 0).1,0,none⟩)):=by rw[jm (vs:=[_,_]) aa];rfl
   refine(Any.Builder_copyCheck_used L y _ w k).mono ?_
   rintro e w' ⟨rfl,rfl⟩
   exact same _ rfl
theorem abH(L:Lays.n240 P ρ)(c:Builder.X72 P ρ){E a:Nat}(j:ρ.f 240=f)(dL:ρ.t 72=E):hz P (El U f E a):=by
 subst j;subst dL;intro s r bx o J1 b aI;have ag:=mh bx.symm;subst ag;cases b with|cons b i=>
 cases i;have:=b.hS;subst this;have k:a8 ((El U (ρ.f 240) (ρ.t 72) a).iA r) 0=some _:=rfl;have l:a8 ((El U (ρ.f 240) (ρ.t 72) a).iA r) 1=some _:=rfl;obtain⟨_,v,e,b0⟩:=aI 0 _ k;obtain⟨_,w,g,b1⟩:=aI 1 _ l;cases b1;cases b0 with| @b9 _ _ d b0=>
 cases b0 with|cP _ n p q=>
 refine(abG L c e g).mono ?_
 rintro u s1 m ⟨rfl,rfl,rfl⟩
 exact⟨rfl,.aY [] [] rfl (by simp),aI⟩
end
end
section
open Go Go.ChangeShapes Go.WideShapes Go.RowKit
variable {U:cM}
def aL.Tr:aL->Nat
 |.bool=>1
 |.int k=>k.bits/8
 |.str=>16
 |.slice _=>24
 |.nm _=>0
def IX:List aL->Nat
 |[]=>0
 |t::r=>t.Tr+IX r
def ug(l:List aL):Nat:=bif l.any λt=>Nat.ble 8 t.Tr then(IX l+7)/8*8 else IX l
def aL.bytes(U:cM)(t:aL):Nat:=ug (t.cells U)
inductive WF (U:cM):Cell U.D->Prop
 |bool (b:Bool):WF U ⟨.bool,b⟩
 |int (k:IntKind) (n:Int) (h:(Lit.int k n).wf=true):WF U ⟨.int k,n⟩
 |str (s:ak) (h:s.length<=reachBytes):WF U ⟨.str,s⟩
 |slice (t:aL) (l:List (t.den U.D)) (h:l.length<=reachBytes) (ahq:l.length*t.bytes U<=reachBytes) (af:∀x,x∈l->∀c,c∈t.row U x->WF U c):WF U ⟨.slice t,l⟩
def cM.Total(U:cM):Prop:=∀n (l:List (Cell U.D)),l.map Cell.ty=U.dq n->∃x,U.make n l=some x
def DT:List aL->List aL->Bool
 |[],[]=>true
 |a::l,b::m=>aL.beq a b&&DT l m
 |_,_=>false
theorem ME:∀{l m:List aL},DT l m=true->l=m
 |[],[],_=>rfl
 |a::l,b::m,h=>by
  simp[DT]at h;rw[aL.beq_eq h.1,ME h.2]
 |[],_::_,h=>by cases h
 |_::_,[],h=>by cases h
def AM(P:Program)(g:TypeId->Option (List aL)):List Field->Nat->Nat->Option (List aL)
 |[],off,c=>match Nat.beq off c with
  |true=>some []
  |false=>none
 |f::r,off,c=>match g f.type with
  |none=>none
  |some a=>match Nat.beq f.offset off&&Nat.beq (P.cellsOf f.type) a.length with
   |false=>none
   |true=>match AM P g r (off+a.length) c with
    |none=>none
    |some b=>some (a++b)
def flat(P:Program)(U:cM)(st:TypeId->Option Nat):Nat->TypeId->Option (List aL)
 |0,_=>none
 |n+1,t=>match P.underlying t with
  |some .bool=>some [.bool]
  |some (.int k)=>some [.int k]
  |some .string=>some [.str]
  |some (.slice e)=>match st e with
   |some m=>match Nat.ble 1 (P.bytesOf e)&&Nat.ble (ug (U.dq m)) (P.bytesOf e)with
    |true=>some [.slice (.nm m)]
    |false=>none
   |none=>match flat P U st n e with
    |none=>none
    |some a=>match Nat.ble 1 (P.bytesOf e)&&Nat.ble (ug a) (P.bytesOf e)with
     |false=>none
     |true=>match a with
      |[ty]=>match ty.vh with
       |true=>none
       |false=>some [.slice ty]
      |_=>none
  |some (.struct fs)=>AM P (flat P U st n) fs.toList 0 (P.cellsOf t)
  |some (.array k e)=>match flat P U st n e with
   |none=>none
   |some a=>match Nat.beq (P.cellsOf t) (k*a.length)&&Nat.beq (P.cellsOf e) a.length with
    |false=>none
    |true=>some (List.replicate k a).flatten
  |_=>none
theorem KV{α:Type}{R:Nat->α->Prop}:∀(n:Nat),(∀i,i<n->∃x,R i x)->∃l:List α,l.length=n/\∀(i:Nat) x,l[i]?=some x->R i x
 |0,_=>⟨[],rfl,by simp⟩
 |n+1,h=>by
  obtain⟨l,af,ag⟩:=KV n λi a=>h i (by omega);obtain⟨x,b⟩:=h n (by simp);refine⟨l++[x],by grind,λi y c=>?_⟩;grind
variable{v:Value}{t:TypeId}{a:Addr}{dq:List aL}{st:TypeId->Option Nat}
section
variable {H:Type}{enc:TypeId×Value->H}{P:Program}{w:World}
abbrev Old(w:World):dU:=λb _=>b<w.heap.size
structure Rd (U:cM)(w:World)(dq:List aL)(cs:List Value)(l:List (Cell U.D)):Prop where
 ty:l.map Cell.ty=dq
 wf:∀c,c∈l->WF U c
 rt:a' (λc v=>cj w (Old w) (Cell.enc U c) v) l cs
theorem AP{t:aL}{x:t.den U.D}(h1:WF U ⟨t,x⟩)(a:cj w (Old w) (Cell.enc U ⟨t,x⟩) v):Rd U w [t] [v] [⟨t,x⟩]:=
 ⟨rfl,by grind,.cons a .nil⟩
theorem Gw:∀{a:List (DataW H)} {d:DataW H},d∈a->∀n∈d.weights P t,n∈DataW.weightsAll P t a
 |d0::a,d,b,n,aH=>by
  simp[DataW.weightsAll];rcases eJ.1 b with rfl|b
  . grind
  . exact .inr (Gw b n aH)
theorem LC{g:TypeId->Option (List aL)}{cs:List Value}:∀{fs:List Field} {off i:Nat} {dq:List aL},
 (∀f,f∈fs->∀a,g f.type=some a->∃l,Rd U w a ((cs.drop f.offset).take (P.cellsOf f.type)) l)->
 AM P g fs off i=some dq->cs.length=i->∃l,Rd U w dq (cs.drop off) l
 |[],off,i,dq,_,h,af=>by
  simp[AM]at h;split at h
  . rename_i e;cases h;have:=c1 e;refine⟨[],rfl,by simp,?_⟩;rw[en (by omega)];exact .nil
  grind
 |f::r,off,i,dq,aq,h,af=>by
  simp only[AM]at h;split at h
  . grind
  . rename_i a n;split at h
    . grind
    . rename_i j;simp only[c5]at j;have h1:=c1 j.1;have q:=c1 j.2;split at h
      . grind
      . rename_i b o;cases h;obtain⟨p,k⟩:=aq f (by simp) a n;obtain⟨l2,m⟩:=LC (λf s=>aq f (by grind)) o af;refine⟨p++l2,by simp[k.ty,m.ty],?_,?_⟩
        . intro c d;rcases hQ.1 d with d|d
          . exact k.wf c d
          . exact m.wf c d
        . have e:cs.drop off=(cs.drop off).take a.length++cs.drop (off+a.length):=by rw[<-uB,yM]
          rw[e];refine a'.append ?_ m.rt;have:=k.rt;grind
theorem PI{a:List aL}{cs:List Value}:∀(k off:Nat),(∀i,i<k->∃l,Rd U w a ((cs.drop (off+i*a.length)).take a.length) l)->cs.length=off+k*a.length->
 ∃l,Rd U w (List.replicate k a).flatten (cs.drop off) l
 |0,off,_,af=>by
  refine⟨[],rfl,by simp,?_⟩;rw[en (by omega)];exact .nil
 |k+1,off,aq,af=>by
  obtain⟨g,d⟩:=aq 0 (by simp);rw[Cb]at d
  obtain⟨l2,f⟩:=PI (a:=a) (cs:=cs) k (off+a.length) (λi j=>by
   grind) (by grind)
  refine⟨g++l2,by simp[d.ty,f.ty,List.replicate_succ],?_,?_⟩
  . intro c b;rcases hQ.1 b with b|b
    . exact d.wf c b
    . exact f.wf c b
  . have e:cs.drop off=(cs.drop off).take a.length++cs.drop (off+a.length):=by rw[<-uB,yM]
    rw[e];exact a'.append d.rt f.rt
theorem abI{n:Nat}{cs:List Value}(h:w.cells? 0 a n=some cs):cs.length=n/\∀j,j<n->w.cell? (a.add j)=cs[j]?:=by
 exact⟨by simpa using mapM_some_length h,λj b=>mapM_some_get h j j (by grind)⟩
theorem LD(h:w.cell? a=some v):a.spot=none/\a.block<w.heap.size:=by
 unfold World.cell? at h;split at h
 . rename_i b;split at h
   . grind
   . refine⟨by simp_all,(Cf.1 b).1⟩
 grind
theorem OM{i j:Nat}(h:a.spot=none):(a.add i).add j=⟨a.block,a.off+i+j,none⟩:=by
 obtain⟨b,o,c⟩:=a;grind[Addr.add]
theorem SJ(b:U.Total){t:aL}{l:List (Cell U.D)}(h:l.map Cell.ty=t.cells U):∃x,t.row U x=l:=by
 have one:∀t,l.map Cell.ty=[t]->∃x:t.den _,l=[⟨t,x⟩]:=by
  intro t h
  match l,h with
  |[⟨c,x⟩],h=>grind
 cases t with
 |nm n=>
  obtain⟨x,a⟩:=b n l h;exact⟨x,U.mk_eq n l x a⟩
 |bool=>obtain⟨x,a⟩:=one _ h;exact⟨x,a.symm⟩
 |int k=>obtain⟨x,a⟩:=one _ h;exact⟨x,a.symm⟩
 |str=>obtain⟨x,a⟩:=one _ h;exact⟨x,a.symm⟩
 |slice t=>obtain⟨x,a⟩:=one _ h;exact⟨x,a.symm⟩
def su(P:Program)(U:cM)(st:TypeId->Option Nat):Prop:=∀e m,st e=some m->flat P U st 60 e=some (U.dq m)
def xa:List (TypeId×Nat)->TypeId->Option Nat
 |[],_=>none
 |p::l,t=>match Nat.beq p.1 t with
  |true=>some p.2
  |false=>xa l t
def AQ(P:Program)(U:cM)(st:TypeId->Option Nat)(t:TypeId)(dq:List aL):Bool:=
 match flat P U st 60 t with
 |some a=>DT a dq
 |none=>false
theorem Hq(h:AQ P U st t dq=true):flat P U st 60 t=some dq:=by
 grind[AQ,ME]
theorem MF:∀{l:List (TypeId×Nat)} {t m},xa l t=some m->(t,m)∈l
 |p::l,t,m,h=>by
  simp[xa]at h;split at h
  . grind[c1]
  . exact .tail _ (MF h)
theorem aez{l:List (TypeId×Nat)}(h:(l.all λp=>AQ P U (xa l) p.1 (U.dq p.2))=true):su P U (xa l):=by
 intro e m he;rw[fK]at h;exact Hq (h _ (MF he))
theorem aaN(g:su P U st){n:Nat}{e:TypeId}(ht:P.underlying t=some (.slice e))(h:flat P U st (n+1) t=some dq):
 ∃ty a i,dq=[.slice ty]/\flat P U st i e=some a/\a=ty.cells U/\1<=P.bytesOf e/\ug a<=P.bytesOf e:=by
 simp[flat,ht]at h;split at h
 . rename_i m f;split at h
   . rename_i b;cases h;simp only[c5]at b;exact⟨.nm m,U.dq m,60,rfl,g e m f,rfl,F1 b.1,F1 b.2⟩
   grind
 . split at h
   . grind
   . rename_i a c;split at h
     . grind
     . rename_i b;have d:1<=P.bytesOf e/\ug a<=P.bytesOf e:=(by simp_all);split at h
       . rename_i ty;split at h
         . grind
         . rename_i aH;cases h;refine⟨ty,[ty],n,rfl,c,?_,d⟩;cases ty<;>first|rfl|cases aH
       grind
theorem LF(aA:U.Total)(ax:su P U st):∀(R n:Nat) (t:TypeId) (cs:List Value) (x:DataW H×List MemPlace) (dq:List aL),
 DataW.trod enc P w 0 (λ_=>true) true R t cs=some x->flat P U st n t=some dq->(∀k,k∈x.1.weights P t->k<=reachBytes)->∃l,Rd U w dq cs l:=by
 intro R;induction R with
 |zero=>simp_all[DataW.trod]
 |succ m ih=>
  intro n t cs x dq h p O;cases n with
  |zero=>cases p
  |succ n=>
  have ap:=p;simp only[flat]at p;split at p
  . rename_i o;cases p;obtain⟨b,rfl,rfl⟩:=DataW.trod_bool o h;exact⟨_,AP (.bool b) (.bool b)⟩
  . rename_i k o;cases p;obtain⟨i,rfl,rfl,ay⟩:=DataW.trod_int o h;exact⟨_,AP (.int k i ay) (.int k i)⟩
  . rename_i o;cases p;obtain⟨s,rfl,rfl,hs⟩:=DataW.trod_string o h;have h1:s.data.toList.length<=reachBytes:=O _ (by simp[DataW.weights]);have A:s.data.toList.length=s.size:=B2;refine⟨_,AP (.str s.data.toList h1) (.str s ?_)⟩;grind[reachBytes,eF]
  . rename_i e o;obtain⟨ty,a,az,rfl,G,ab,am,an⟩:=aaN ax o ap;rcases DataW.trod_slice o h with⟨rfl,rfl⟩|⟨g,len,cap,C,Q,al,K,rfl,rfl,_,aC,_,aB,I,_,_⟩
    . refine⟨_,AP (.slice ty [] (hR _) (by simp) (by simp)) ?_⟩;exact .slice [] none 0 0 0 0 (λ_ _=>default) (by simp) (by simp) (by simp) (by simp) (by simp) (by simp)
    . cases K;have aD:(C.length+Q.length)*P.bytesOf e<=reachBytes:=by
       simp_all[DataW.weights]
      have N:len<=reachBytes:=by
       have h1:C.length+Q.length<=(C.length+Q.length)*P.bytesOf e:=FV _ am;omega
      have J:len*ug a<=reachBytes:=by
       have h1:len*ug a<=(C.length+Q.length)*P.bytesOf e:=Nat.mul_le_mul (by omega) an;omega
      have dL:∀i,i<len->∃M:ty.den U.D,∃z,z.length=P.cellsOf e/\(∀j,j<P.cellsOf e->w.cell? ((g.add (i*P.cellsOf e)).add j)=z[j]?)/\Rd U w a z (ty.row U M):=by
       intro i u;have T:=I i u;have ao:C[i]?=some C[i]:=e9 (by omega);rw[ao]at T;cases F:w.cells? 0 (g.add (i*P.cellsOf e)) (P.cellsOf e)with
       |none=>grind
       |some z=>
        rw[F]at T;obtain⟨h1,A⟩:=abI F
        obtain⟨l,af⟩:=ih az e z _ a T G (λk X=>O k (by
         simp only[DataW.weights,o,eJ,hQ];right;left
         exact Gw (e'.2 ⟨C[i],yF _,rfl⟩) k X))
        obtain⟨M,aE⟩:=SJ aA (t:=ty) (by rw[af.ty,ab]);grind
      obtain⟨xs,ai,ak⟩:=KV len dL;have aa:len≠0->P.cellsOf e=ty.sz U/\0<P.cellsOf e:=by
       intro L;obtain⟨M,z,h1,_,E⟩:=dL 0 (by omega);have y:=E.rt.length;rw[aL.Ti,h1]at y;exact⟨y.symm,by rw[<-y];exact aL.sd⟩
      have Z:len≠0->g.spot=none:=by
       intro L;obtain⟨M,z,h1,A,E⟩:=dL 0 (by omega);have h0:=A 0 (aa L).2;rw[e9 (by rw[h1];exact(aa L).2)]at h0;have bf:=(LD h0).1;simpa[Addr.add]using bf
      have aj:∀x,x∈xs->∃i:Nat,xs[i]?=some x/\i<len:=by
       intro x B;obtain⟨i,u⟩:=List.mem_iff_getElem?.1 B;grind
      refine⟨_,AP (t:= .slice ty) (x:=xs) (.slice ty xs (by omega) (by rw[ai];unfold aL.bytes;rw[<-ab];exact J) ?_) ?_⟩
      . intro x B c F;obtain⟨i,u,_⟩:=aj x B;obtain⟨z,_,_,E⟩:=ak i x u;exact E.wf c F
      . have J:(xs.map (ty.enc U)).length=len:=(by simp[ai]);rw[<-J];refine .slice (xs.map (ty.enc U)) (some g) cap (P.cellsOf e) g.block g.off (λi j=>(w.cell? ⟨g.block,g.off+i*P.cellsOf e+j,none⟩).getD default) (by omega) ?_ ?_ ?_ ?_ ?_
        . rw[J];unfold reachBytes at N;unfold dY;omega
        . intro r ag;obtain⟨x,B,rfl⟩:=e'.1 ag;obtain⟨i,_,u⟩:=aj x B;rw[aL.sL];exact(aa (by omega)).1.symm
        . intro L;have au:len≠0:=by intro h0;apply L;rw[<-List.length_eq_zero_iff];omega
          have:=Z au;rw[show g=⟨g.block,g.off,g.spot⟩from rfl,this]
        . intro i j u W;rw[J]at u;obtain⟨M,z,h1,A,E⟩:=dL i u;have y:=A j W;rw[e9 (by omega)]at y;have Y:=Z (by omega);have aN:(g.add (i*P.cellsOf e)).add j=⟨g.block,g.off+i*P.cellsOf e+j,none⟩:=OM Y;rw[aN]at y;exact⟨(LD y).2,by rw[y];rfl⟩
        . intro i j r aF ag ae;rw[r1,bz]at ag;obtain⟨x,B,rfl⟩:=ag;obtain⟨z,h1,A,E⟩:=ak i x B;have u:i<len:=by have:=(dS.1 B).1;omega
          rw[aL.u',r1,bz]at ae;obtain⟨c,F,rfl⟩:=ae;obtain⟨v,ah,aw⟩:=E.rt.get F;have W:j<P.cellsOf e:=by have:=(dS.1 ah).1;omega
          have y:=A j W;have Y:=Z (by omega);have aN:(g.add (i*P.cellsOf e)).add j=⟨g.block,g.off+i*P.cellsOf e+j,none⟩:=OM Y;rw[aN,ah]at y;rw[y];exact aw
  . rename_i fs o;obtain⟨xs,al,K,rfl,af,N,I⟩:=DataW.trod_struct o h;cases K
    have:=LC (U:=U) (w:=w) (P:=P) (cs:=cs) (fs:=fs.toList) (off:=0) (λf ar a G=>by
     obtain⟨i,u⟩:=List.mem_iff_getElem?.1 ar;have V:fs[i]?=some f:=(by simpa using u);have aq:=I i f V;have ad:i<xs.length:=by rw[N];exact(Cf.1 V).1
     rw[e9 ad]at aq
     exact ih n f.type _ _ a aq G (λk X=>O k (by
      simp only[DataW.weights,o]
      exact DataW.weights_mem_each (j:=i) (t:=f.type) (d:=xs[i].1) (by simp[V]) (by simp[ad]) k X))) p af
    simpa using this
  . rename_i k e o;split at p
    . cases p
    . rename_i a G;split at p
      . cases p
      . rename_i S;cases p;simp only[c5]at S;have h1:=c1 S.1;have A:=c1 S.2;obtain⟨xs,al,K,rfl,af,N,I⟩:=DataW.trod_array o h;cases K
        have:=PI (U:=U) (w:=w) (a:=a) (cs:=cs) k 0 (λi u=>by
         have aq:=I i u;rw[e9 (by omega)]at aq
         obtain⟨l,af⟩:=ih n e _ _ a aq G (λq av=>O q (by
          simp only[DataW.weights,o]
          exact Gw (e'.2 ⟨xs[i],yF _,rfl⟩) q av))
         rw[A]at af
         exact⟨l,by rw[h7];exact af⟩) (by rw[af,h1,h7])
        simpa using this
  . cases p
end
end
section
open Go Go.ChangeShapes Go.WideShapes Go.RowKit
variable {U:cM}
def isAgg(P:Program)(t:TypeId):Bool:=
 match P.underlying t with
 |some (.struct _)=>true
 |some (.array _ _)=>true
 |_=>false
def nh(P:Program)(U:cM)(st:TypeId->Option Nat):List TypeId->List e4->List aL->Bool
 |[],[],[]=>true
 |t::ts,.row m::a,.nm b::dq=>(Nat.beq m b&&(isAgg P t&&AQ P U st t (U.dq m)))&&nh P U st ts a dq
 |t::ts,.c (.hole ty)::a,d::dq=>(aL.beq ty d&&(!ty.vh&&(!isAgg P t&&AQ P U st t [ty])))&&nh P U st ts a dq
 |_,_,_=>false
variable{st:TypeId->Option Nat}{v:Value}{t:TypeId}{b0 N f:Nat}{D:Nat->Type}{ts:List aL}{gC:List e4}{a:List MemPlace}
section
variable {H:Type}{enc:TypeId×Value->H}{P:Program}{w:World}{φ:dD}
theorem JA:∀{d:List TypeId} {b:List e4} {dq:List aL},nh P U st d b dq=true->d.length=dq.length
 |[],[],[],_=>rfl
 |[],[],_::_,h=>by cases h
 |[],_::_,_,h=>by cases h
 |_::_,[],_,h=>by cases h
 |_::_,a::_,[],h=>by
  cases a with
  |c x=>cases x<;>cases h
  |_=>cases h
 |t::ts,a::b,ty::dq,h=>by
  have:nh P U st ts b dq=true:=by
   cases a with
   |row m=>cases ty with
    |nm e=>grind[nh]
    |_=>cases h
   |c x=>cases x with
    |hole ty=>grind[nh]
    |_=>cases h
   |_=>cases h
  simp[JA this]
theorem aaO{r:Reach}(hs:isAgg P t=true)(h:Value.okWide P w r b0 t v):∃cs,v= .agg cs:=by
 grind[isAgg,Value.okWide]
theorem aaP{r:Reach}(hs:isAgg P t=false)(h:Value.okWide P w r b0 t v):v.cells=#[v]:=by
 unfold isAgg at hs;unfold Value.okWide at h;have a:Cell.okWide P w r b0 t v:=by grind
 cases v with
 |agg cs=>
  simp_all[Cell.okWide,Cell.ok]
 |_=>rfl
theorem KK{S:dU}:∀{l:List (Cell U.D)} {vs:List Value},a' (λc v=>cj w S (Cell.enc U c) v) l vs->a' (bp φ w S) ((l.map bm.t).map bm.o3) vs
 |[],[],.nil=>.nil
 |c::l,v::vs,.cons h1 a=>.cons h1 (KK a)
theorem LG(i:U.Total)(φ:dD){st:TypeId->Option Nat}(B:su P U st){b0:Nat}:∀(ts:List TypeId) (f:List e4) (dq:List aL) (args:List Value) (g:List (DataW H)) (ps:List MemPlace),
 nh P U st ts f dq=true->(∀(j:Nat) t v,ts[j]?=some t->args[j]?=some v->Value.okWide P w .any b0 t v)->
 DataW.TrodAll enc P w 0 (λ_=>true) true ts args g ps->(∀k,k∈DataW.weightsEach P ts g->k<=reachBytes)->
 ∃(l:eO U) (xs:List (bJ U)),l.map Cell.ty=dq/\(∀c,c∈l->∀d,d∈c.ty.row U c.val->WF U d)/\kO f l=(xs,[])/\(∀x,x∈xs->gI x=true)/\a' (cl φ w (Old w)) (xs.map fJ) args
 |[],[],[],args,g,ps,_,_,ht,_=>by
  obtain⟨rfl,rfl,rfl⟩:=trodAll_nil ht;exact⟨[],[],rfl,by simp,rfl,by simp,.nil⟩
 |t::ts,N::f,ty::dq,args,g,ps,a,E,ht,G=>by
  obtain⟨v,vs,d,O,p,q,rfl,rfl,rfl,⟨C,h1⟩,Q⟩:=trodAll_cons ht;have F:=E 0 t v rfl rfl;have I:∀k,k∈d.weights P t->k<=reachBytes:=λk S=>G k (by simp_all[DataW.weightsEach,hQ]);have M:=λY=>LG i φ (st:=st) B (b0:=b0) ts f dq vs O q Y (λj t v ag ah=>E (j+1) t v (by grind) (by grind)) Q
   (λk S=>G k (by simp_all[DataW.weightsEach,hQ]))
  unfold nh at a;split at a
  . grind
  . rename_i t0 ab m aa ai ae aN o dx;cases aN;cases o;cases dx;simp only[c5]at a;obtain⟨⟨z,hs,s⟩,A⟩:=a;have X:=c1 z;obtain⟨l,xs,T,V,D,W,u⟩:=M A;obtain⟨cs,rfl⟩:=aaO hs F;obtain⟨L,b⟩:=LF i B C 60 t _ _ _ h1 (Hq s) I;obtain⟨x,J⟩:=SJ i (t:= .nm m) b.ty;refine⟨⟨.nm m,x⟩::l,.agg ((aL.row U (.nm m) x).map .t)::xs,by grind,?_,?_,?_,?_⟩
    . intro c e;rcases eJ.1 e with rfl|e
      . intro d r;exact b.wf d (J▸r)
      grind
    . grind[kO,l6]
    . simp_all[eJ,gI,bm.sa]
    . refine .cons ?_ u;have:=KK (φ:=φ) b.rt;rw[<-J]at this;exact cl.agg (vs:=cs.toList) this
  . rename_i t0 ab ad aa aj ae aN o dx;cases aN;cases o;cases dx;simp only[c5,uy]at a;obtain⟨⟨z,aH,hs,s⟩,A⟩:=a;have X:=aL.beq_eq z;obtain⟨l,xs,T,V,D,W,u⟩:=M A;rw[aaP hs F]at h1;obtain⟨L,b⟩:=LF i B C 60 t _ _ _ h1 (Hq s) I
    match L,b with
    |[],b=>cases b.ty
    |[⟨n,x⟩],b=>
     have Z:n=ad:=by have:=b.ty;grind
     subst Z;refine⟨⟨n,x⟩::l,.c (.t ⟨n,x⟩)::xs,by grind,?_,?_,?_,?_⟩
     . intro c e;rcases eJ.1 e with rfl|e
       . intro d r;refine b.wf d ?_;cases n<;>first|exact r|cases aH
       grind
     . simp only[kO,l6,vb,D]
     . intro y K;rcases eJ.1 K with rfl|K
       . rfl
       grind
     . refine .cons ?_ u;cases b.rt with
       |cons R af=>exact .c R
    |_::_::_,b=>have:=b.ty;simp at this
  grind
 |[],[],_::_,_,_,_,a,_,_,_=>by cases a
 |[],_::_,_,_,_,_,a,_,_,_=>by cases a
 |_::_,[],_,_,_,_,a,_,_,_=>by cases a
 |t::ts,N::f,[],_,_,_,a,_,_,_=>by
  cases N with
  |row m=>cases a
  |c x=>cases x<;>cases a
  |agg l=>cases a
  |aY l=>cases a
theorem aO.SR:∀(ts:List aL) (l:eO U),l.map Cell.ty=ts->∃h:aO U.D ts,aO.cells U.D ts h=l
 |[],[],_=>⟨(),rfl⟩
 |[t],[⟨a,x⟩],h=>by
  have:a=t:=by grind
  subst this;exact⟨x,rfl⟩
 |t::u::r,⟨a,x⟩::l,h=>by
  simp at h;obtain⟨h1,c⟩:=h;subst h1;obtain⟨y,e⟩:=aO.SR (u::r) l (by grind);exact⟨(x,y),by show⟨a,x⟩::aO.cells _ _ y=_;grind⟩
 |[],_::_,h=>by grind
 |_::_,[],h=>by grind
 |[_],_::_::_,h=>by grind
theorem fq.Bq:∀{ts:List aL} {t:aL} (h:fq D t ts),fq.dec D t ts (fq.cells D t ts h)=some h
 |[],t,x=>Cell.QJ
 |u::r,t,x=>by
  unfold fq.dec fq.cells;simp[ve,Cell.QJ];rw[fq.Bq];rfl
theorem aO.Bq:∀{ts:List aL} (h:aO D ts),aO.dec D ts (aO.cells D ts h)=some h
 |[],_=>rfl
 |_::_,h=>fq.Bq h
theorem aO.gU:∀{ts:List aL} {l:List (Cell D)},l.map Cell.ty=ts->∃h,aO.dec D ts l=some h:=by
 have go:∀(ts:List aL) (l:List _),l.map Cell.ty=ts->∃h:aO D ts,aO.cells D ts h=l:=by
  intro ts;induction ts with
  |nil=>intro l h;cases l with
   |nil=>exact⟨(),rfl⟩
   |cons=>grind
  |cons t r ih=>
   intro l h;cases l with
   |nil=>grind
   |cons c l=>
    obtain⟨f,x⟩:=c;simp at h;obtain⟨h1,a⟩:=h;subst h1;obtain⟨y,e⟩:=ih l a;cases r with
    |nil=>
     cases l with
     |nil=>exact⟨x,rfl⟩
     |cons=>grind
    |cons u r=>exact⟨(x,y),by show⟨f,x⟩::aO.cells D _ y=_;grind⟩
 intro ts l h;obtain⟨y,e⟩:=go ts l h;grind[aO.Bq]
def Ok(U:cM)(ts:List aL)(h:aO U.D ts):Prop:=∀c,c∈aO.cells U.D ts h->∀d,d∈c.ty.row U c.val->WF U d
theorem ad':cz N ([]:bg U) []:=λb x h=>by cases h
theorem ON{J:bg U}:∀{xs:List (bJ U)},(∀x,x∈xs->gI x=true)->a' (cb N J) xs (xs.map fJ)
 |[],_=>.nil
 |x::xs,h=>.cons (vL (h x (by simp))).1 (ON λy a=>h y (by grind))
theorem MG{k:Nat->Bool}:∀{xs:List (bJ U)},(∀x,x∈xs->gI x=true)->V.aE.V.dF k (xs.map fJ)=true
 |[],_=>rfl
 |x::xs,h=>by
  simp[V.aE.V.dF];exact⟨(vL (N:=0) (J:=[]) (h x (by simp))).2 k,MG λy a=>h y (by grind)⟩
variable{F:aO U.D ts->Option (aO U.D [.bool])}
theorem ahx(N:U.Total)(hs:hz P ⟨f,gC,[],ts,.c (.hole .bool),[],[.bool],F⟩)
 (M:∀h:aO U.D ts,Ok U ts h->F h=some true){st:TypeId->Option Nat}(J:su P U st){i:List TypeId}(E:nh P U st i gC ts=true)
 {b0:Nat}{args:Array Value}{m:List (DataW H)}{ps:List MemPlace}(K:∀(j:Nat) t v,i[j]?=some t->args[j]?=some v->Value.okWide P w .any b0 t v)
 (ht:DataW.TrodAll enc P w 0 (λ_=>true) true i args.toList m ps)(L:∀k,k∈DataW.weightsEach P i m->k<=reachBytes):
 Calls P f args w λe w'=>e= .returned (.bool true)/\Below w.heap.size w w':=by
 obtain⟨l,xs,z,A,Q,B,C⟩:=LG N _ J _ gC ts _ m ps E (λj t v s R=>K j t v s (by grind)) ht L;obtain⟨h,aa⟩:=aO.SR ts l z;have bx:=M h (λc n d q=>A c (aa▸n) d q)
 have p:=hs h _ bx (xs.map fJ) [] (by
  show a' _ (kO gC _).1 _;grind[ON]) (by
  exact ad')
 have:=p (λb=>(b,0)) _ w (λ_=>False) {blk:=λb x g=>(by cases g),inj:=λb O x y g=>(by simp),st:=λb j o=>o} (λb x g=>by cases g) (λb x g=>by simp)
  (MG B) _ C
 refine this.mono λe w' ⟨v,r,S,bP,J',N',he,⟨_,ag,_⟩,I,_,_,_,a,_⟩=>?_;cases ag with
 |c n=>
  cases n with
  |t c=>
   cases I with
   |c G=>
    cases G;exact⟨he,a.os,a.tape,a.output,a.size,λk u=>a.block k u (λh=>h)⟩
theorem aaQ{f:Func}{s:ChangeSpec}{o zH n:Bool}{W e:World}{args:Array Value}{c gs:List (DataW H)}
 (dp:DataW.Whole enc P f.params.toList s.vars false W args.toList c gs a)(k:Below W.heap.size W e)
 (hres:∀(b:Nat) (d:Nat->Bool) (q:Bool),DataW.TrodAll enc P e b d q f.resultTypes.toList (v.resultList f.resultTypes.size) (s.fn H (c++gs)).results [])
 (i:∀d:Nat->Bool,(∀p∈a,d p.block=true)->DataW.TrodAll enc P e 0 d true f.params.toList args.toList (s.fn H (c++gs)).args a)
 (m:∀d:Nat->Bool,(∀p∈a,d p.block=true)->DataW.TrodVars enc P e d s.vars (s.fn H (c++gs)).vars [])
 (u:∀(j:Nat) (t:TypeId) (r:Value),f.resultTypes[j]?=some t->(v.resultList f.resultTypes.size)[j]?=some r->Value.okWide P e .any 0 t r):
 s.post enc P f false o zH n W args v e:=by
 have aB:=dp.lt;have l:∀p∈a,(λb=>decide (b<W.heap.size)) p.block=true:=λp g=>by grind
 refine⟨c,gs,a,[],a,[],dp,hres _ _ _,i _ l,m _ l,k.frame _,λ_=>?_⟩;refine⟨u,(s.fn H (c++gs)).results++(s.fn H (c++gs)).args,(s.fn H _).vars,a,⟨a,[],?_,m _ (λ_ _=>rfl),by simp,?_,λh=>by grind⟩,λp g _=>g⟩
 . have:=trodAll_append (i _ (λ_ _=>rfl)) (hres 0 (λ_=>true) _);grind
 . intro b off g;obtain⟨_,_,_,_,_,w,_⟩:=dp;rw[World.frozen?_of_block (k.block b (aB _ g))];exact w b _ g
theorem ahy{fn:Func}{s:ChangeSpec}(ag:U.Total)
 (hs:hz P ⟨f,gC,[],ts,.c (.hole .bool),[],[.bool],F⟩)
 (af:∀h:aO U.D ts,Ok U ts h->F h=some true){st:TypeId->Option Nat}(Y:su P U st)(Q:nh P U st fn.params.toList gC ts=true)
 {C:TypeId}(hres:fn.resultTypes=#[C])(htb:P.underlying C=some .bool)(w:s.vars=[])
 (M:∀g:List (DataW H),g.length=ts.length->(s.fn H g).results=[.lit (.bool true)]/\(s.fn H g).args=g/\(s.fn H g).vars=[])
 (o:(laidOutB P&&mapsRowed P)=true)(R:fn.params.toList.all (λt=>decide (t<P.types.size))=true)
 (X:((List.range P.types.size).all λt=>match P.underlying t with|some (.slice e)=>decide (0<P.cellsOf e)|_=>true)=true)
 {W:World}{base:Nat}{args:Array Value}{g gs:List (DataW H)}{G:List MemPlace}{I zH E:Bool}
 (ab:∀(j:Nat) t v,fn.params[j]?=some t->args[j]?=some v->Value.okWide P W .any base t v)
 (dp:DataW.Whole enc P fn.params.toList s.vars false W args.toList g gs G)
 (N:(DataW.weightsEach P (fn.params.toList++s.plain.varTypes P) (g++gs)).all (· <=reachBytes)=true):
 Calls P f args W λe n=>∃v,e= .returned v/\s.post enc P fn false I zH E W args v n:=by
 have z:=dp;obtain⟨p,q,y,gW,rfl,aj,bZ⟩:=dp;rw[w]at gW;obtain⟨rfl,rfl⟩:=trodVars_none gW;have ae:s.plain.varTypes P=[]:=by show s.vars.filterMap _=[]<;>simp[w]
 rw[ae,mg,mg,fK]at N;have O:g.length=ts.length:=by
  have h1:∀{i:List TypeId} {vs:List Value} {g:List (DataW H)} {ps:List MemPlace},DataW.TrodAll enc P W 0 (λ_=>true) true i vs g ps->g.length=i.length:=by
   intro i;induction i with
   |nil=>grind[trodAll_nil]
   |cons t r ih=>grind[trodAll_cons]
  grind[JA]
 obtain⟨S,T,V⟩:=M g O;simp only[c5]at o;have K:=kids_rows o.1 o.2;have Z:=slices_full_of P X;refine(ahx ag hs af Y Q (λj t v ak ad=>ab j t v (by grind) ad) y (λk al=>by grind)).mono λe n ⟨he,A⟩=>?_;subst he;refine⟨_,rfl,aaQ z A ?_ ?_ ?_ ?_⟩
 . intro b m ai;rw[mg,S,hres];exact trodAll_cons_mk (shut_bool htb _) trodAll_mk0
 . intro m B;rw[mg,T];have aB:=z.lt;have db:=λt ht=>by simpa using fK.1 R t ht
   have go:∀ {i:List TypeId} {vs:List Value} {g:List (DataW H)} {ps:List MemPlace},(∀ t,t∈i->t<P.types.size)->(∀ p∈ps,p.block<W.heap.size/\m p.block = true)->
    DataW.TrodAll enc P W 0 (λ_=>true) true i vs g ps->DataW.TrodAll enc P n 0 m true i vs g ps:=by
    intro i;induction i with
    |nil=>intro vs g ps _ _ h;obtain⟨rfl,rfl,rfl⟩:=trodAll_nil h;exact trodAll_mk0
    |cons t r ih=>
     intro vs g ps db u h;obtain⟨v,am,d,ah,a,b,rfl,rfl,rfl,⟨J,h1⟩,L⟩:=trodAll_cons h;refine⟨a,b,⟨J,DataW.trod_stays K (λ{t e}=>Z t e) (by intro aa;cases aa) (db t (by simp)) h1 (λx l=>A.same (u x (by simp[l])).1) (λx l=>(u x (by simp[l])).2)⟩,ih (λt ht=>db t (by simp[ht])) (λx l=>u x (by simp[l])) L,rfl⟩
   rw[mg];exact go db (λx l=>⟨aB x (by simp[l]),B x (by simp[l])⟩) y
 . intro m B;rw[mg,V,w];rfl
 . exact ok_one hres rfl (okWide_bool_mk htb _)
end
end
section
open Go
theorem kh{a b:Int}(h1: -9223372036854775808<=a+b)(c:a+b<=9223372036854775807):aM .i64 a b=a+b:=by grind[aM,IntKind.wrap_i64]
theorem gS{a b:Int}(h1: -9223372036854775808<=a-b:=by omega)(c:a-b<=9223372036854775807:=by omega):c9 .i64 a b=a-b:=by grind[c9,IntKind.wrap_i64]
theorem jC{a:Int}(h1: -9223372036854775808<=a:=by omega)(b:a<=9223372036854775807:=by omega):bT .i64 a=a:=by grind[bT,IntKind.wrap_i64]
theorem aP{k n:Nat}(h:k<n):aG (k:Int) n=true:=by grind[aG]
theorem aZ(k:Nat):(k:Int).toNat=k:=mb k
theorem kX{a:Int}(h0:0<=a)(h1:a<18446744073709551616):IntKind.u64.wrap a=a:=by grind[IntKind.wrap_u64]
variable{a:Nat}{α:Type}
theorem hy(h1:a<18446744073709551616:=by omega):bT .u64 (a:Int)=a:=kX (by simp) (by omega)
theorem Gu:(2:Nat)^64=18446744073709551616:=by rfl
theorem OO{b:Nat}(c:a<18446744073709551616)(d:b<18446744073709551616):r7 .u64 (a:Int) (b:Int)=((a ||| b:Nat):Int):=by
 have e:a ||| b<2^64:=Nat.or_lt_two_pow (by grind) (by grind);show IntKind.u64.wrap (BitVec.ofInt 64 _ ||| BitVec.ofInt 64 _).toNat=_;grind[kX]
theorem PJ{n c i:Nat}(h:n<2^i):n ||| (c*2^i)=n+c*2^i:=by rw[Nat.or_comm,yI,<-Nat.two_pow_add_eq_or_of_lt h,Nat.add_comm]
theorem aca{b:Nat}(a:b<256):Bk .u8 (b:Int) 127=((b%128:Nat):Int):=by
 have e:(BitVec.ofInt 8 b &&& BitVec.ofInt 8 (127:Nat)).toNat=b%128:=by
  rw[wO,wO,BitVec.toNat_and,yC,oE (by omega)];exact Nat.and_two_pow_sub_one_eq_mod b 7
 show IntKind.u8.wrap (BitVec.ofInt 8 _ &&& BitVec.ofInt 8 (127:Nat)).toNat=_;grind[IntKind.wrap_u8]
theorem MH{k:Nat}(b:k<=64)(h:a*2^k<18446744073709551616):nj .u64 (a:Int) (k:Int)=((a*2^k:Nat):Int):=by
 grind[nj,IntKind.bits,kX]
theorem uD(h:a<18446744073709551616):fC .u64 (a:Int) 2=((a/2:Nat):Int):=by
 grind[fC,kX]
theorem AO{b:Nat}:b7 (a:Int) (b:Int)=((a%b:Nat):Int):=by rfl
theorem uo{b:Nat}(h:a*b<18446744073709551616):gz .u64 (a:Int) (b:Int)=((a*b:Nat):Int):=by
 grind[gz,kX]
theorem PK{a b:Int}(h1: -9223372036854775808<=a*b)(c:a*b<=9223372036854775807):gz .i64 a b=a*b:=by grind[gz,IntKind.wrap_i64]
theorem sw{b:Nat}(h:a+b<18446744073709551616):aM .u64 (a:Int) (b:Int)=((a+b:Nat):Int):=by
 grind[aM,kX]
theorem wU{b:Nat}(h:a+b<=9223372036854775807):aM .i64 (a:Int) (b:Int)=((a+b:Nat):Int):=by grind[kh]
theorem bC(h:a<9223372036854775807:=by omega):aM .i64 (a:Int) 1=((a+1:Nat):Int):=by grind[kh]
theorem rj(s:ak)(i:Nat):fI s (i:Int)=((s.getD i 0).toNat:Int):=by rfl
theorem Ae(s:ak)(i:Nat):(s.getD i 0).toNat<256:=B9 _
theorem oh(l:List α)(k:Nat):dZ l (k:Int) (l.length:Int)=l.drop k:=by simp[dZ]
theorem tF(l:List α)(k:Nat):dZ l 0 (k:Int)=l.take k:=by rfl
theorem jO{b n:Nat}(h1:a<=b)(c:b<=n):dN (a:Int) (b:Int) n=true:=by grind[dN]
theorem Ih(a b:Nat):ja (a:Int) (b:Int)=((min a b:Nat):Int):=by grind[ja]
theorem cO{k n:Nat}(a:k<=1000:=by omega)(h:n<=100000:=by simp;omega):room k n=true:=by
 unfold room hZ dY;simp;have:(2*n+192)*k<=200192*1000:=Nat.mul_le_mul (by omega) a;omega
end
section
open Go Go.Proofs Go.Proofs.YtdjagncoefjfeaaGreat Go.Sort Go.RowKit
variable {P:Program}{α:Type}[Inhabited α]
theorem WG(w:World)(blk:Nat)(f:Array Value->Array Value){b:Nat}(h:b≠blk):(mapBlock w blk f).heap[b]?=w.heap[b]?:=by simp[mapBlock,FZ,ea h]
theorem Wr(w:World)(blk:Nat)(f:Array Value->Array Value){c:Array Value}{E:TypeId}{a:Nat×Nat}(h:w.heap[blk]?=some (.cells c E a)):(mapBlock w blk f).heap[blk]?=some (.cells (f c) E a):=by
 simp[mapBlock,FZ,h,onCells]
theorem acb{g k:Nat}(enc:α->List Value)(m:α->List T)(F:Array α->Array α)(aQ:∀x,(enc x).length=k)(M:∀x,(m x).length=k)(K:0<k)
 (aM:∀(w:World) (S:dU) (x:α) (j:Nat) (t:T) (v:Value),(m x)[j]?=some t->cj w S t v->(enc x)[j]?=some v)
 (bx:∀d:Array α,(F d).size=d.size/\∀x,x∈(F d).toList->x∈d.toList)
 (aq:∀(blk off cap:Nat) (d:Array α) (w:World),HoldsK enc k w blk off d->blk<w.heap.size->d.size<4611686018427387904->
  Calls P f #[.slice (some ⟨blk,off,none⟩) d.size cap,.func (.func g) #[] #[]] w λe w'=>e= .returned (.tuple #[])/\∃n os,w'=sortWorldK enc k w blk off n (F d) os)
 (aH:∀(p:Option Addr) (cap:Nat) (ak:Value) (w:World),Calls P f #[.slice p 0 cap,ak] w λe w'=>e= .returned (.tuple #[])/\w'=w)
 {J:ba}{d:List α}(h0:aX J 0=some (.arr k (d.map m)))(az:0<kk):
 eh P f [.c (.arr 0 k 0 d.length),.c (.fn g [])] J kk (λr J' N'=>r= .aY []/\J'=df J 0 (.arr k ((F d.toArray).toList.map m))/\N'=kk):=by
 intro φ S w B q aT aJ aO vs I;cases I with|cons z I=>
 cases I with|cons O I=>
 cases I;cases z with|c z=>
 cases O with|c O=>
 obtain⟨a,rfl,am,aR⟩:=z;have aK:_=Value.func (.func g) #[] #[]:=O;subst aK;obtain⟨af,ad,aS,_,ao⟩:=q.blk 0 _ h0;rw[km]at af ad;obtain⟨ai,aE⟩:=bx d.toArray;have Y:∀ w':World,Ext B S S w w'->qB φ w' S (df J 0 (.arr k ((F d.toArray).toList.map m)))->∃ v r D bP J' N',Ending.returned (Value.tuple #[]) = Ending.returned v/\(r = V.aY []/\J' = df J 0 (.arr k ((F d.toArray).toList.map m))/\N' = kk)/\cl D w' bP r v/\r.aE (lt N') = true/\qB D w' bP J'/\(∀ (b:Nat) x,aX J' b = some x->b<N'/\x.aE (lt N') = true)/\Ext B S bP w w'/\
  (∀(b:Nat) x,aX J' b=some x->(D b).2≠0->B (D b).1\/w.heap.size<=(D b).1)/\∀b,b<kk->D b=φ b:=by
  intro w' dL aI;refine⟨_,.aY [],φ,S,_,kk,rfl,⟨rfl,rfl,rfl⟩,.aY [] [] rfl (by simp),rfl,aI,λb x l=>?_,dL,λb x l o=>?_,λ_ _=>rfl⟩
  . rw[c2]at l;split at l
    . rename_i o;cases l;subst o;exact⟨az,rfl⟩
    grind
  grind[c2]
 by_cases L:(φ 0).2=0
 ·
  have ar:d=[]:=ju (by omega);subst ar;refine(aH a _ _ w).mono ?_
  rintro e w' ⟨rfl,rfl⟩
  have he:(F ([]:List α).toArray).toList.map m=([]:List α).map m:=by grind
  refine Y _ Ext.refl ?_;rw[he];refine⟨λb x l=>?_,λb G x y l U=>?_,q.st⟩
  . rw[c2]at l;split at l
    . rename_i o;cases l;subst o;exact q.blk _ _ h0
    . exact q.blk b x l
  . have key:∀b x,aX (df J 0 (.arr k (([]:List α).map m))) b=some x->∃A,aX J b=some A:=by
     intro b x l;rw[c2]at l;grind
    obtain⟨A,Q⟩:=key b x l;obtain⟨X,W⟩:=key G y U;exact q.inj b G A X Q W
 . obtain⟨vs,E,aa,aj,ap,ae⟩:=ao L;rw[am L];have ah:∀(i j:Nat) (t:T) (x:α),d[i]?=some x->(m x)[j]?=some t->∃v,vs[i*k+j]?=some v/\cj w S t v/\(enc x)[j]?=some v:=by
    intro i j t x s u;obtain⟨v,z,ag⟩:=ap i j (m x) t (by rw[r1,s];rfl) u;grind
   have Z:(φ 0).1<w.heap.size:=(by grind);have al:HoldsK enc k w (φ 0).1 (0*k) d.toArray:=by
    intro j u;rw[size_flatK]at u;have ax:j<d.length*k:=(by simpa using u);have s:j/k<d.length:=(Nat.div_lt_iff_lt_mul K).2 ax;have H:j%k<k:=yL _ K;have l:d[j/k]?=some d[j/k]:=e9 s;have aD:j%k<(m d[j/k]).length:=by rw[M];exact H
    obtain⟨v,z,_,he⟩:=ah (j/k) (j%k) _ _ l (e9 aD);have ay:j/k*k+j%k=j:=by rw[yI];exact Nat.div_add_mod j k
    rw[ay]at z;refine⟨?_,by simp[World.frozen?,aa]⟩;rw[Cb,h7,jm aa,z,get_flatK _ _ _ _ u];grind
   have aA:d.toArray.size<4611686018427387904:=by
    have:dY=281474976710656:=rfl;simp;omega
   refine(aq (φ 0).1 (0*k) _ d.toArray w al Z aA).mono ?_
   rintro e w' ⟨rfl,n,os,rfl⟩
   have N:∀b:Nat,b<w.heap.size->b≠(φ 0).1->(sortWorldK enc k w (φ 0).1 (0*k) n (F d.toArray) os).heap[b]?=w.heap[b]?:=by
    intro b o aF;unfold sortWorldK putRowK putRow;rw[heap_grow_old _ _ (by simpa[mapBlock,Go.Sort.ahead]using o),WG _ _ _ aF];rfl
   have aG:(sortWorldK enc k w (φ 0).1 (0*k) n (F d.toArray) os).heap[(φ 0).1]?=some (.cells (putCells id (0*k) (flatK enc k (F d.toArray)) vs.toArray).toList.toArray E (0,0)):=by
    unfold sortWorldK putRowK putRow;rw[heap_grow_old _ _ (by simpa[mapBlock,Go.Sort.ahead]using Z),Wr (Go.Sort.ahead w n) _ _ (by exact aa)]
   have H:gr w S _ S:=⟨λ_ _ h=>h,λb j h=>q7 (N b (q.st b j h) (λe=>ae j (e▸h))) j⟩
   refine Y _ ⟨rfl,rfl,rfl,?_,λb o dj=>N b o (λe=>dj (e▸aJ 0 _ h0 L)),H,λ_ _ h=>.inl h⟩ ⟨λb x l=>?_,λb G x y l U=>?_,λb j h=>?_⟩
   . unfold sortWorldK putRowK putRow;simp[grow,mapBlock,Go.Sort.ahead]
   . rw[c2]at l;split at l
     . rename_i o;cases l;subst o;refine⟨by simpa[ai]using af,by simpa[ai]using ad,λe he=>?_,K,λ_=>⟨_,E,aG,by simpa[putCells]using aj,λi j e t s u=>?_,ae⟩⟩
       . obtain⟨x,_,rfl⟩:=e'.1 he;exact M x
       . rw[r1]at s;cases R:(F d.toArray).toList[i]? with
         |none=>rw[R]at s;cases s
         |some x=>
          rw[R]at s;have:e=m x:=(mh s).symm;subst this;have l:x∈d:=(by simpa using aE x (fp R));obtain⟨aL,av,au⟩:=e1 l;obtain⟨v,z,ag,he⟩:=ah aL j t x (by rw[e9 av,au]) u;refine⟨v,?_,cj.mono H ag⟩;have aP:j<k:=by rw[<-M x];exact(dS.1 u).1
          have aw:i<(F d.toArray).size:=(by grind);have aB:i*k+j<(F d.toArray).size*k:=by
           have:=eX k (show i+1<=(F d.toArray).size from aw);grind
          have aC:i*k+j<vs.length:=by
           rw[aj];refine l9 aB (eX k ?_);grind
          have d1:(i*k+j)/k=i:=(blk_iff k i _ K).1 ⟨by omega,by omega⟩;have d2:(i*k+j)%k=j:=by rw[Nat.mod_eq_sub_div_mul,d1];omega
          have aN:(F d.toArray)[i]! =x:=(by grind);have:(putCells id (0*k) (flatK enc k (F d.toArray)) vs.toArray).toList[i*k+j]?=some ((flatK enc k (F d.toArray))[i*k+j]!):=by
           rw[F0];simp only[putCells,Array.getElem?_mapIdx];rw[show vs.toArray[i*k+j]?=some vs[i*k+j] by simp[aC]];simp[size_flatK,aB]
          rw[this,get_flatK _ _ _ _ aB,d1,d2,aN,List.getElem!_eq_getElem?_getD,he];rfl
     . rename_i o;have an:b≠0:=λe=>o (by simp[e]);refine cZ.mono (n:=λ_=>true) H (λ_ _=>rfl) rfl (by cases x<;>simp[bR.aE,C.mC]) (λab=>N _ ((q.blk b x l).jZ ab) (q.inj b 0 x _ l h0 an ab L)) (q.blk b x l)
   . have key:∀b x,aX (df J 0 (.arr k ((F d.toArray).toList.map m))) b=some x->∃A,aX J b=some A:=by
      intro b x l;rw[c2]at l;grind
     obtain⟨A,Q⟩:=key b x l;obtain⟨X,W⟩:=key G y U;exact q.inj b G A X Q W
   . have:=q.st b j h;unfold sortWorldK putRowK putRow;simp[grow,mapBlock,Go.Sort.ahead];omega
def kT(lt:α->α->Bool)(l:List α):List α:=(pdq lt l.toArray 0 l.length (Lib.bitLen l.length) true true).toList
theorem Ir{lt:α->α->Bool}(a:SWO lt)(l:List α):(kT lt l).Perm l:=by
 obtain⟨⟨hs,_,b⟩,_⟩:=pdq_sorts lt a l.toArray 0 l.length (Lib.bitLen l.length) true true (hR _) (by simp) (Or.inl rfl);grind[Array.extract_size,kT]
theorem Zp{lt:α->α->Bool}(a:SWO lt)(l:List α):(kT lt l).length=l.length:=(Ir a l).length_eq
theorem Zq{lt:α->α->Bool}(a:SWO lt)(l:List α):(kT lt l).Pairwise λx y=>lt y x=false:=by
 obtain⟨⟨hs,_,_⟩,aI⟩:=pdq_sorts lt a l.toArray 0 l.length (Lib.bitLen l.length) true true (hR _) (by simp) (Or.inl rfl);have e:=Zp a l;rw[wN];intro i j c d b;have:=aI i j (hR _) b (by grind);grind[kT]
def Gq(U:cM)(f n g:Nat)(F:List (U.D n)->List (U.D n)):cH U:=
 ⟨f,[.c (.arr 0),.c (.fn g [])],[.arr (.nm n)],[.slice (.nm n)],.aY [],[.arr (.nm n)],[.slice (.nm n)],λ(l:List (U.D n))=>some (F l)⟩
theorem acd{n g:Nat}[Inhabited (U.D n)](enc:U.D n->List Value)(lt:U.D n->U.D n->Bool)(E:SWO lt)(K:∀x,(enc x).length=(aL.nm n).sz U)
 (F:∀(w:World) (S:dU) (x:U.D n) (j:Nat) (t:T) (v:Value),((aL.nm n).enc U x)[j]?=some t->cj w S t v->(enc x)[j]?=some v)
 (I:∀(blk off cap:Nat) (d:Array (U.D n)) (w:World),HoldsK enc ((aL.nm n).sz U) w blk off d->blk<w.heap.size->d.size<4611686018427387904->
  Calls P f #[.slice (some ⟨blk,off,none⟩) d.size cap,.func (.func g) #[] #[]] w λe w'=>e= .returned (.tuple #[])/\∃M os,w'=sortWorldK enc ((aL.nm n).sz U) w blk off M (pdq lt d 0 d.size (Lib.bitLen d.size) true true) os)
 (L:∀(p:Option Addr) (cap:Nat) (z:Value) (w:World),Calls P f #[.slice p 0 cap,z] w λe w'=>e= .returned (.tuple #[])/\w'=w):
 hz P (Gq U f n g (kT lt)):=by
 intro l r bx O J1 a aI;have ag:=(mh bx).symm;subst ag;cases a with|cons a c=>
 cases c with|cons c G=>
 cases G;obtain⟨sz,m,rfl,_,J⟩:=cb.hc a;have:=cb.FC c;subst this;have u:Shv.a8 ((Gq U f n g _).iA l) 0=some _:=rfl;have o:=J _ u _ rfl;obtain⟨_,R,A,b0⟩:=aI 0 _ u;cases b0;have aN:=(eu Prod.fst o).symm;have y:=(eu Prod.snd o).symm;subst aN;subst y;have s:∀d:Array _,(kT lt d.toList).Perm d.toList:=λd=>Ir E d.toList
 refine(acb enc _ (λd=>(kT lt d.toList).toArray) K (λx=>aL.sL) aL.sd F
  (λd=>⟨by simpa using(s d).length_eq,λx i=>(s d).mem_iff.1 (by grind)⟩) (λblk off cap d w h1 B C=>?_) L A Nat.one_pos).mono ?_
 . have:=I blk off cap d w h1 B C;simpa[kT]using this
 . rintro Q s1 N ⟨rfl,rfl,rfl⟩
   refine⟨rfl,.aY [] [] rfl (by simp),λb x i=>?_⟩;generalize kT lt l=q at i⊢;have k:(if b=0 then some (cS.arr (.nm n) q)else none)=some x:=by
    rw[<-i];cases b<;>rfl
   split at k
   . rename_i H;cases k;subst H;refine⟨Nat.one_pos,_,?_,.arr (.nm n) q⟩;rw[c2];rfl
   . cases k
theorem aaR(w:World)(S:dU)(i:Int)(s:ak)(j:Nat)(t:T)(v:Value)(h:[T.int .i64 i,T.str s][j]?=some t)(ag:cj w S t v):[Value.int .i64 i,Value.string ⟨s.toArray⟩][j]?=some v:=by
 match j,h with
 |0,h=>cases h;cases ag;rfl
 |1,h=>cases h;cases ag;rfl
theorem acG(key:α->Int):SWO (λx y=>decide (key x<key y)) where
 irrefl x:=by simp
 trans x y z h1 a:=by grind
 ntrans x y z h1 a:=by grind
end
section
open Go Go.Proofs Go.Proofs.YtdjagncoefjfeaaGreat Go.Sort
def k0{α:Type}(a b:Option α):Prop:=∀r,a=some r->b=some r
theorem k0.r{α:Type}{a:Option α}:k0 a a:=λ_ h=>h
theorem k0.n{α:Type}{a:Option α}:k0 none a:=λ_ h=>by grind
theorem k0.b{α f:Type}{a b:Option α}{k c:α->Option f}(h:k0 a b)(e:∀x,k0 (k x) (c x)):k0 (a>>=k) (b>>=c):=by
 intro r ag;cases a with
 |none=>grind
 |some x=>rw[h x rfl];exact e x r ag
theorem k0.i{α:Type}{p:Prop}[Decidable p]{a b c d:Option α}(h:k0 a c)(k:k0 b d):k0 (if p then a else b) (if p then c else d):=by grind
variable {α:Type}[Inhabited α]
def oy(lt:α->α->Bool)(x:α):List α->List α
 |[]=>[x]
 |y::r=>if lt x y then x::y::r else y::oy lt x r
def gX(lt:α->α->Bool):List α->List α
 |[]=>[]
 |x::r=>oy lt x (gX lt r)
def ki(lt:α->α->Bool):List α->Bool
 |[]=>true
 |x::r=>r.all (λy=>lt x y||lt y x)&&ki lt r
theorem HT(lt:α->α->Bool)(x:α):∀l,(oy lt x l).Perm (x::l)
 |[]=>.refl _
 |y::r=>by
  simp[oy];split
  . rfl
  . exact((HT lt x r).cons y).trans (.swap x y r)
theorem kL(lt:α->α->Bool):∀l,(gX lt l).Perm l
 |[]=>.refl _
 |x::r=>(HT lt x _).trans ((kL lt r).cons x)
theorem KW{lt:α->α->Bool}(b:SWO lt)(x:α):∀{l:List α},l.Pairwise (λx y=>lt y x=false)->(oy lt x l).Pairwise λx y=>lt y x=false
 |[],_=>by simp[oy]
 |y::r,h=>by
  rw[h6]at h;simp[oy];split
  . rename_i d;have e:lt y x=false:=by
     cases c:lt y x with
     |false=>rfl
     |true=>have:=b.trans _ _ _ d c;rw[b.irrefl]at this;grind
    rw[h6];refine⟨λz a=>?_,h6.2 h⟩;rcases eJ.1 a with rfl|a
    . grind
    . exact b.ntrans _ _ _ (h.1 z a) e
  . rw[h6];refine⟨λz a=>?_,KW b x h.2⟩;rcases eJ.1 ((HT lt x r).mem_iff.1 a)with rfl|a
    . grind
    grind
theorem DP{lt:α->α->Bool}(a:SWO lt):∀l:List α,(gX lt l).Pairwise λx y=>lt y x=false
 |[]=>.nil
 |x::r=>KW a x (DP a r)
theorem KL{lt:α->α->Bool}:∀{l:List α},ki lt l=true->∀a b,a∈l->b∈l->a=b\/lt a b=true\/lt b a=true
 |x::r,h,a,b,c,e=>by
  simp[ki]at h;rcases eJ.1 c with g|d<;>rcases eJ.1 e with i|f
  . grind
  . grind
  . grind
  . exact KL h.2 a b d f
theorem KX{lt:α->α->Bool}{l:List α}(i:ki lt l=true):∀{a b:List α},a.Perm l->b.Perm l->a.Pairwise (λx y=>lt y x=false)->b.Pairwise (λx y=>lt y x=false)->a=b:=by
 intro a b d e h1 c;refine List.Perm.eq_of_pairwise (λx y j k f g=>?_) h1 c (d.trans e.symm);grind[KL]
theorem OP{lt:α->α->Bool}(a:SWO lt){l:List α}(b:ki lt l=true):kT lt l=gX lt l:=
 KX b (Ir a l) (kL lt l) (Zq a l) (DP a l)
def Gp(lt:α->α->Bool)(l:List α):Option (List α):=if ki lt l then some (gX lt l)else none
theorem ace{lt:α->α->Bool}(a:SWO lt)(l:List α):k0 (Gp lt l) (some (kT lt l)):=by
 intro r h;grind[Gp,OP]
end
end Go.Proofs.YtdjagncoefjfeaaGreat.Shv
