/- The library of this proof, part D: an abstract machine for the code of the program, and its soundness. -/
import Derived.KernelRfl
import Derived.Shelf.Strings.Builder1
import Derived.ChangeArms
import Derived.ChangeStays
import Derived.ChangeSame
import Derived.SizedLaws
import Derived.Below
import Derived.WalkKit
import Derived.ProofKit
import Derived.OpenShut
import Derived.Laws.BitsLemmas
import Derived.Laws.Bits64
import Derived.Shelf.GgSortFunc.InsertionK
import Derived.Shelf.SlSortCmp.Insertion
import Derived.Sort.AssemblyPlain
import Derived.Lib.BitFns
import Derived.Laws.IdiomRangeMap
import Derived.Shelf.Strconv.Itoa3
import Derived.Maps.RangeRun
import Derived.Test.YtkbmjabicjpmjaaGreatDoorCdLC

namespace Go.Proofs.YtkbmjabicjpmjaaGreatDoor.Shv
set_option linter.all false
section
open Go
variable {xb:bb}
variable {U:c0}{R:Type}
def o3(gl:eY)(gd:ai (Nat×J))(dst:ai Nat):J:=
 match dst with
 |none=>true
 |some d=>(gl.all λe=>!(Nat.beq e.1 d) && !(Nat.beq e.2.1 d))&&(match gd with
  |some g=>!(Nat.beq g.1 d)
  |none=>true)
def hz(dst:ai Nat)(v:bU U)(env:b8 U):b8 U:=
 match dst with
 |none=>env
 |some d=>(d,v)::env
def jk(gl:eY)(gd:ai (Nat×J))(dst:ai Nat):eY:=
 match gd,dst with
 |some g,some d=>(d,g)::gl
 |_,_=>gl
abbrev gu(U:c0):=Nat->I (cT U)
abbrev lx(U:c0):=b8 U->ai (I (bU U))
def Wv(s:cT U)(c:lx U)(env:b8 U)(σ:bm U)(key:Nat):ai (b8 U×bm U×bb×a8 U.D s.ts):=
 match c env with
 |none=>none
 |some vs=>match yf σ 0 0 s.st (DT s.gm vs ([],[])) []with
  |(bs,d)=>match kX d env σ with
   |none=>none
   |some (env',σ')=>match c env' with
    |none=>none
    |some e=>match uN bs&&((bs.all λb=>Nat.ble (b+1) key)&&(Nat.beq bs.length s.st.length&&Nat.ble s.fa.length (bs.length+16)))with
     |false=>none
     |true=>match ng bs s.gm e,jz bs σ' 0 s.st with
      |some a,some b=>match a8.dec U.D s.ts (a++b)with
       |some h=>some (env',σ',bs,h)
       |none=>none
      |_,_=>none
def yx(b:lx U)(env:b8 U)(σ:bm U)(key:Nat)(k:b8 U->bm U->bU U->ai R):I (cT U)->ai R
 |[]=>none
 |s::r=>match Wv s b env σ key with
  |none=>yx b env σ key k r
  |some (env',σ',bs,h)=>(s.F h)>>=λa=>match pj σ' (s.rest a) 0 bs with
   |none=>none
   |some c=>ite c (k env' (n5 σ' bs (back bs key) (s.rest a)) ((s.res a).cA (back bs key))) none
def isNil{α:Type}:I α->J
 |[]=>true
 |_=>false
def HX(s:cT U)(b:lx U)(env:b8 U):ai (a8 U.D s.ts):=
 match isNil s.st&&isNil s.fa,b env with
 |true,some vs=>match vs.all hD,ng [] s.gm vs with
  |true,some a=>a8.dec U.D s.ts a
  |_,_=>none
 |_,_=>none
def yw(a:lx U)(env:b8 U)(g:J)(k:bU U->ai R):I (cT U)->ai R
 |[]=>none
 |s::r=>match HX s a env with
  |none=>yw a env g k r
  |some h=>(if g then s.F h else some (a8.kH U s.us))>>=λb=>match hD (s.res b)with
   |true=>k (s.res b)
   |false=>none
def hasB(σ:bm U)(b:Nat):J:=match ba σ b with
 |some _=>true
 |none=>false
def bB.j6(σ:bm U):bB U->J
 |.t _|.ep .. |.bX|.fN|.fM=>true
 |.ptr b _=>hasB σ b
 |.c9 b _ _ _=>hasB σ b
 |.fn _ caps=>caps.all (hasB σ)
 |.arr b=>match ba σ b with
  |some x=>(match x.dD with
   |some _=>true
   |none=>false)
  |none=>false
 |.sub .. =>false
 |.pre .. =>false
 |.hT .. =>false
 |.mp b=>hasB σ b
 |.eV _=>false
 |.cQ b=>match ba σ b with
  |some x=>(match x.dD with
   |some p=>Nat.beq p.1 1
   |none=>false)
  |none=>false
 |.dead=>false
def lj(σ:bm U):bU U->J
 |.c x=>x.j6 σ
 |.agg cs=>cs.all (bB.j6 σ)
 |.bd vs=>go σ vs
where go (σ:bm U):I (bU U)->J
 |[]=>true
 |v::vs=>lj σ v&&go σ vs
def bB.iS(σ:bm U):bB U->C
 |.t c=>.t (c.enc U)
 |.ep ty x o=>.ep (ty.enc U x) o
 |.bX=>.bX
 |.fN=>.fN
 |.fM=>.fM
 |.fn f caps=>.fn f caps
 |.ptr b o=>.ptr b o
 |.c9 b ty i o=>.c9 b (ty.sz U) i o
 |.arr b=>match ba σ b with
  |some x=>(match x.dD with
   |some p=>.arr b p.1 0 p.2
   |none=>.dead)
  |none=>.dead
 |.sub b a len=>.gK b 1 a len
 |.pre _ _=>.dead
 |.hT .. =>.dead
 |.mp b=>.mp b
 |.eV b=>.eV b
 |.cQ b=>match ba σ b with
  |some x=>(match x.dD with
   |some p=>.cQ b p.2
   |none=>.dead)
  |none=>.dead
 |.dead=>.dead
def iT(σ:bm U):bU U->V
 |.c x=>.c (x.iS σ)
 |.agg cs=>.agg (cs.map (bB.iS σ))
 |.bd vs=>.bd (go σ vs)
where go (σ:bm U):I (bU U)->I V
 |[]=>[]
 |v::vs=>iT σ v::go σ vs
def hb(σ:bm U):dc U->J
 |.box cs=>cs.all (bB.j6 σ)
 |.arr _ _=>true
 |.rows .. =>false
 |.set _=>true
 |.buf _ _=>true
 |.cu _ c=>c.j6 σ
 |.cV .. =>false
def tm(σ:bm U):dc U->cd
 |.box cs=>.box (cs.map (bB.iS σ))
 |.arr ty l=>.arr (ty.sz U) (l.map (ty.enc U))
 |.rows sz _=>.arr sz []
 |.set ks=>.set ks
 |.buf E s=>.buf E s
 |.cu E c=>.cu E (c.iS σ)
 |.cV t l i o _=>.cV (t.sz U) (l.map (t.enc U)) i o .dead
def k5(σ:bm U):bm U->bh
 |[]=>[]
 |(b,x)::r=>(b,tm σ x)::k5 σ r
def K5(σ:bm U)(l:bm U):J:=l.all λp=>Nat.ble (p.1+1) 16&&hb σ p.2
def HV(s:cT U)(b:lx U)(env:b8 U):ai (a8 U.D s.ts):=
 match isNil s.st&&Nat.ble s.fa.length 16,b env with
 |true,some vs=>match vs.all hD,ng [] s.gm vs with
  |true,some a=>a8.dec U.D s.ts a
  |_,_=>none
 |_,_=>none
def Bq(b:lx U)(env:b8 U)(σ:bm U)(key:Nat)(k:bm U->bU U->ai R):I (cT U)->ai R
 |[]=>none
 |s::r=>match HV s b env with
  |none=>Bq b env σ key k r
  |some h=>(s.F h)>>=λa=>match lj (s.rest a) (s.res a)&&K5 (s.rest a) (s.rest a)with
   |true=>k (n5 σ [] (back [] key) (s.rest a)) ((s.res a).cA (back [] key))
   |false=>none
def bB.gV:bB U->bb
 |.ptr b _|.c9 b _ _ _|.arr b|.sub b _ _|.pre b _|.hT b _ _|.mp b|.eV b|.cQ b=>[b]
 |.fn _ caps=>caps
 |_=>[]
def bU.gV:bU U->bb
 |.c x=>x.gV
 |.agg cs=>cs.flatMap bB.gV
 |.bd _=>[]
def mG(l:bb)(b:Nat):J:=l.any λc=>Nat.beq c b
def Ww(xb:bb)(s:cT U)(d:lx U)(env:b8 U)(σ:bm U)(key:Nat):ai (bb×a8 U.D s.ts):=
 match d env with
 |none=>none
 |some vs=>match yf σ 0 0 s.st (DT s.gm vs ([],[])) []with
  |(bs,c)=>match isNil c&&(uN bs&&((bs.all λb=>Nat.ble (b+1) key&&((mG (vs.flatMap bU.gV) b||mG xb b)&&hasB σ b))&&(Nat.beq bs.length s.st.length&&(Nat.ble bs.length s.fa.length&&Nat.ble s.fa.length (bs.length+16)))))with
   |false=>none
   |true=>match ng bs s.gm vs,jz bs σ 0 s.st with
    |some a,some b=>match a8.dec U.D s.ts (a++b)with
     |some h=>some (bs,h)
     |none=>none
    |_,_=>none
def KE(n:Nat)(σ:bm U)(l:bm U):J:=l.all λp=>Nat.ble (p.1+1) n&&hb σ p.2
def xC(xb:bb)(b:lx U)(env:b8 U)(σ:bm U)(key:Nat)(k:bm U->bU U->ai R):I (cT U)->ai R
 |[]=>none
 |s::r=>match Ww xb s b env σ key with
  |none=>xC xb b env σ key k r
  |some (bs,h)=>(s.F h)>>=λa=>match lj (s.rest a) (s.res a)&&KE (bs.length+16) (s.rest a) (s.rest a),pj σ (s.rest a) 0 bs with
   |true,some c=>ite c (k (n5 σ bs (back bs key) (s.rest a)) ((s.res a).cA (back bs key))) none
   |_,_=>none
def ail(a:lx U)(env:b8 U)(l:I (cT U)):J:=l.any λs=>(HV s a env).isSome
def aim(a:lx U)(env:b8 U)(l:I (cT U)):J:=l.any λs=>(HX s a env).isSome
def alb(gd:ai (Nat×J))(a:lx U)(env:b8 U)(l:I (cT U)):J:=
 match gd with
 |some _=>!(aim a env l)
 |none=>false
def aix(d:ai bb):bb:=match d with
 |some l=>l
 |none=>[]
def Jt(fo:gu U)(d:ai bb)(gd:ai (Nat×J))(f:Nat)(a:lx U)(gl:eY)(env:b8 U)(σ:bm U)(key:Nat)(k:b8 U->bm U->bU U->ai R):ai R:=
 match gd with
 |none=>match d with
  |none=>yx a env σ key k (fo f)
  |some xb=>match ail a env (fo f)with
   |true=>Bq a env σ key (λσ v=>k env σ v) (fo f)
   |false=>xC xb a env σ key (λσ v=>k env σ v) (fo f)
 |some _=>match lV gl env rq gd with
  |some g=>yw a env g (λv=>k env σ v) (fo f)
  |none=>none
abbrev ky:=I (Nat×J)
def wy(nf:ky)(gl:eY):Nat->ai (Nat×J)->J
 |0,_=>false
 |_,none=>false
 |a+1,some (t,b)=>(nf.any λg=>Nat.beq g.1 t&&(g.2==b))||wy nf gl a (ba gl t)
def lP(nf:ky)(dst:ai Nat):J:=
 match dst with
 |none=>true
 |some d=>nf.all λg=>!(Nat.beq g.1 d)
def Ga:bU U:= .c (.t ⟨.bool,false⟩)
def s7(fo:gu U)(d:ai bb)(o:cl)(key:Nat)(gl:eY)(nf:ky)(env:b8 U)(σ:bm U)(k:eY->ky->b8 U->bm U->ai R):ai R:=
 match o3 gl o.guard o.dst&&lP nf o.dst with
 |false=>none
 |true=>match wy nf gl rq o.guard with
  |true=>match lV gl env rq o.guard with
   |some _=>k (jk gl o.guard o.dst) nf (hz o.dst Ga env) σ
   |none=>none
  |false=>match o.op with
   |.call f args=>match alb o.guard (λe=>l7 gl o.guard e args) env (fo f)with
    |true=>match lV gl env rq o.guard,o.guard with
     |some g,some gd=>if g then xC (aix d) (λe=>l7 gl o.guard e args) env σ key (λσ v=>k (jk gl o.guard o.dst) nf (hz o.dst v env) σ) (fo f)else k (jk gl o.guard o.dst) (gd::nf) (hz o.dst Ga env) σ
     |_,_=>none
    |false=>Jt fo d o.guard f (λe=>l7 gl o.guard e args) gl env σ key λenv σ v=>k (jk gl o.guard o.dst) nf (hz o.dst v env) σ
   |.iO x args=>match d,o.guard,dH gl none env x with
    |none,none,some (.c (.fn f _))=>yx (λe=>match dH gl none e x,l7 gl none e args with
     |some (.c (.fn i a)),some vs=>match Nat.beq i f with
      |true=>some (vs++a.map λb=>.c (.ptr b 0))
      |false=>none
     |_,_=>none) env σ key (λenv σ v=>k gl nf (hz o.dst v env) σ) (fo f)
    |some _,none,some (.c (.fn f []))=>yw (λe=>l7 gl none e args) env true (λv=>k gl nf (hz o.dst v env) σ) (fo f)
    |_,_,_=>none
   |op=>match cI gl o.guard env σ key op with
    |none=>none
    |some (c,v,σ')=>match o.guard with
     |none=>ite c (k gl nf (hz o.dst v env) σ') none
     |some gd=>match lV gl env rq (some gd)with
      |none=>none
      |some g=>match op.cG with
       |true=>ite (c || !g) (k (jk gl o.guard o.dst) nf (hz o.dst v env) σ) none
       |false=>if g then(ite c (k (jk gl o.guard o.dst) nf (hz o.dst v env) σ') none)else k (jk gl o.guard o.dst) (gd::nf) (hz o.dst Ga env) σ
def Wo(σ:bm U):bB U->I (Nat×aO)
 |.arr b=>match ba σ b with
  |some (.arr t _)=>[(b,t)]
  |_=>[]
 |_=>[]
def ak'(σ:bm U):bU U->I (Nat×aO)
 |.c x=>Wo σ x
 |.agg cs=>cs.flatMap (Wo σ)
 |.bd _=>[]
def HQ(gl:eY)(gd:ai (Nat×J))(env:b8 U)(σ:bm U)(xs:I aV):I (Nat×aO):=
 xs.flatMap λx=>match dH gl gd env x with
  |some v=>ak' σ v
  |none=>[]
def Cq(l:I (Nat×aO))(env:b8 U)(σ:bm U):ai (b8 U×bm U):=
 match l with
 |[]=>none
 |_=>kX l env σ
def HU(gl:eY)(o:cl)(env:b8 U)(σ:bm U):ai (b8 U×bm U):=
 match o.op with
 |.slc _ x _ _=>match dH gl o.guard env x with
  |some (.c (.arr b))=>match ba σ b with
   |some (.arr t _)=>kX [(b,t)] env σ
   |_=>none
  |_=>none
 |.call _ args=>match o.guard with
  |some _=>Cq (HQ gl o.guard env σ args) env σ
  |none=>none
 |.bsliceT _ _ _ _ ps=>Cq (HQ gl o.guard env σ (ps.map Prod.snd)) env σ
 |.bslice _ _ _ ps=>Cq (HQ gl o.guard env σ (ps.map Prod.snd)) env σ
 |_=>none
def FD(fo:gu U)(d:ai bb)(o:cl)(key:Nat)(gl:eY)(nf:ky)(env:b8 U)(σ:bm U)(k:eY->ky->b8 U->bm U->ai R):ai R:=
 match d with
 |some xb=>s7 fo (some xb) o key gl nf env σ k
 |none=>match HU gl o env σ with
  |none=>s7 fo none o key gl nf env σ k
  |some p=>s7 fo none o key gl nf p.1 p.2 k
def oY(fo:gu U)(d:ai bb):I cl->Nat->eY->ky->b8 U->bm U->(eY->b8 U->bm U->ai R)->ai R
 |[],_,gl,_,env,σ,k=>k gl env σ
 |o::r,key,gl,nf,env,σ,k=>FD fo d o key gl nf env σ λgl nf env σ=>oY fo d r (key+16) gl nf env σ k
def C3(gl:eY)(k:Nat):J:=gl.any λe=>Nat.beq e.1 k
def clean(gl:eY):b8 U->b8 U
 |[]=>[]
 |(k,v)::r=>match C3 gl k with
  |true=>clean gl r
  |false=>(k,v)::clean gl r
def uO(gl:eY)(env:b8 U):b8 U:=
 match gl with
 |[]=>env
 |_=>clean gl env
structure e7 (key:Nat)(gl:eY)(nf:ky)(env:b8 U)(σ:bm U)(env1:Env)(σ1:bh)(G:Nat->Bool):Prop where
 hM:df key σ G env env1
 av:hI gl env G
 fg:cH key σ σ1
 aL:∀g,g∈nf->cY env G (some g)=false
variable{N:Nat}{o:cl}{K:Env->bh->Prop}
section
variable {P:Program}{kk key:Nat}{σ σ':bm U}{σ1 bE:bh}{env:b8 U}{env1:Env}{G:Nat->J}{gl:eY}{gd:ai (Nat×J)}{nf:ky}{dst:ai Nat}{v:bU U}{v1:V}
theorem JS{d:ai Nat}{k:Nat}:ba (hz d v env) k=if d=some k then some v else ba env k:=by
 cases d with
 |none=>rfl
 |some d=>
  grind[hz,ba,dh,iG]
theorem FE{o:ai (Nat×J)}{g:J}(h:lV gl env rq o=some g):o=none\/∃t b y,o=some (t,b)/\fW env t b=some y:=by
 cases o with
 |none=>simp
 |some x=>
  grind[afO]
theorem N8(av:hI gl env G)(aL:∀g,g∈nf->cY env G (some g)=false):∀{a:Nat} {gd:ai (Nat×J)},wy nf gl a gd->cY env G gd=false
 |0,gd,h=>by grind[wy]
 |a+1,none,h=>by grind[wy]
 |a+1,some (t,b),h=>by
  simp only[wy,lW,xJ,dr]at h;rcases h with⟨⟨f,c⟩,e,h1,d⟩|h;grind[dh];have:=N8 av aL h;rw[av.ba t]at this;grind[cY]
theorem e7.bind(he:df key σ' G env env1)(av:hI gl env G)(aH:cH key σ' bE)(aL:∀g,g∈nf->cY env G (some g)=false)(L:cb key σ' v v1)(x:gd=none\/∃t b y,gd=some (t,b)/\fW env t b=some y)(A:o3 gl gd dst)(f:lP nf dst):
 e7 key (jk gl gd dst) nf (hz dst v env) σ' (eO env1 dst (cY env G gd) v1) bE (λk=>if dst=some k then cY env G gd else G k):=by
 refine⟨λk w a=>?_,?_,aH,λg j=>?_⟩
 . rw[JS]at a;rw[nE];split at a
   grind;rename_i h;rw[aq h,aq h];exact he k w a
 . cases dst with
   |none=>
    have:jk gl gd none=gl:=by cases gd<;>rfl
    simp_all[hz,reduceCtorEq,cw]
   |some d=>
    simp only[o3,dr,gF,Dd]at A;have H:∀k t b,ba gl k=some (t,b)->k≠d/\t≠d:=by
     intro k t b a;have K:∀{l:eY},ba l k=some (t,b)->(k,t,b)∈l:=by
      intro l;induction l with
      |nil=>grind[ba]
      |cons e r ih=>
       obtain⟨M,e⟩:=e;intro h;simp only[ba]at h;split at h;simp_all;grind
     grind[iG]
    have F:∀t b,t≠d->fW (hz (some d) v env) t b=fW env t b:=by
     intro t b ht;unfold fW;rw[JS,aq (by grind)]
    have p:∀k t b,ba gl k=some (t,b)->∃y,fW (hz (some d) v env) t b=some y/\(if some d=some k then cY env G gd else G k)=((if some d=some t then cY env G gd else G t)&&y):=by
     intro k t b a;obtain⟨y,D,E⟩:=av.held k t b a;grind
    cases gd with
    |none=>
     refine⟨λk a=>?_,λk t b a=>p k t b a⟩;by_cases c:some d=some k;rw[ag c];rfl;rw[aq c];exact av.free k a
    |some g=>
     obtain⟨t0,b0⟩:=g;have B:t0≠d:=by
      grind[Bool.not_eq_true',iG]
     refine⟨λk a=>?_,λk t b a=>?_⟩
     . simp only[jk,ba]at a;split at a
       grind;rw[aq (by grind[iG])];exact av.free k a
     . simp only[jk,ba]at a;split at a
       . rename_i q;cases a;have:=dh q;subst this;rcases x with h|⟨t,b,y,h,al⟩
         grind;cases h;refine⟨y,by grind,?_⟩;rw[ag rfl,aq (by simp;exactλe=>B e.symm)];simp[cY,al]
       exact p k t b a
 . obtain⟨t,b⟩:=g;have h0:=aL _ j;cases dst with
   |none=>simpa[hz]using h0
   |some d=>
    simp only[lP,gF,Dd]at f;have o:t≠d:=iG (f _ j);simp only[cY]at h0⊢;rw[aq (by simp;exactλe=>o e.symm)];have:fW (hz (some d) v env) t b=fW env t b:=by
     unfold fW;rw[JS,aq (by simp;exactλe=>o e.symm)]
    rw[this];exact h0
theorem KF:cb N σ Ga (.c (.t (.bool false))):= .c (.t _)
theorem EN(h:e7 key gl nf env σ env1 σ1 G)(c:o.guard=none\/∃t b y,o.guard=some (t,b)/\fW env t b=some y)(av:cY env G o.guard=false)(d:o3 gl o.guard o.dst)(e:lP nf o.dst)(f:cb (key+16) σ v v1):
 DStep xb P o key env1 σ1 false v1 σ1/\e7 (key+16) (jk gl o.guard o.dst) nf (hz o.dst v env) σ (eO env1 o.dst false v1) σ1 (λk=>if o.dst=some k then false else G k):=by
 have a:=EL h.hM c;rw[av]at a;refine⟨.skip a rfl,?_⟩;have:=e7.bind (h.hM.mono (dI.more (by simp))) h.av (h.fg.mono (Nat.le_add_right _ 16)) h.aL f c d e;grind
theorem Q6{c:J}(h:e7 key gl nf env σ env1 σ1 G)(aa:cI gl o.guard env σ key o.op=some (c,v,σ'))(d:o.guard=none\/∃t b y,o.guard=some (t,b)/\fW env t b=some y)(i:o3 gl o.guard o.dst)(j:lP nf o.dst):
 (cY env G o.guard->c=true->∃v1 bE,DStep xb P o key env1 σ1 true v1 bE/\e7 (key+16) (jk gl o.guard o.dst) nf (hz o.dst v env) σ' (eO env1 o.dst true v1) bE (λk=>if o.dst=some k then true else G k))/\
 (cY env G o.guard=false->o.op.cG->∃v1,DStep xb P o key env1 σ1 false v1 σ1/\e7 (key+16) (jk gl o.guard o.dst) nf (hz o.dst v env) σ (eO env1 o.dst false v1) σ1 (λk=>if o.dst=some k then false else G k)):=by
 obtain⟨⟨v1,f,m⟩,r,aL⟩:=NJ h.hM h.av h.fg aa;have g:=EL h.hM d;refine⟨λav n=>?_,λav s=>?_⟩
 . obtain⟨p,bE,h1,a,l⟩:=m av n;rw[av]at g;have q:o.op.drawn:=by
    generalize o.op=u at aa;cases u<;>first|rfl|(simp[cI]at aa)
   have hs:DStep xb P o _ _ σ1 _ v1 _:= .op g q h1 (λ_=>a) (.inr rfl);have e:(if o.op.cG then σ1 else bE)=bE:=by
    grind[A0]
   rw[e]at hs;refine⟨v1,bE,hs,?_⟩;have:=e7.bind (h.hM.mono r) h.av l h.aL f d i j;grind
 rw[aL s]at f;obtain⟨h1,a⟩:=EN h d av i j f;exact⟨v1,h1,a⟩
theorem N9{x:bB U}(h:x.sW):x.pF.cc []=x.pF:=by
 cases x<;>simp[bB.sW]at h<;>try rfl
 rename_i f caps;cases caps with
 |nil=>rfl
 |cons=>grind
theorem JT:∀{x:bU U},hD x->(gD x).cc []=gD x
 |.c x,h=>by grind[hD,gD,V.cc,N9]
 |.agg cs,h=>by
  grind[hD,gD,V.cc,List.map_congr_left,N9]
 |.bd vs,h=>by
  simp[gD,V.cc];rw[go vs h]
where go:∀(vs:I (bU U)),hD.go vs->V.cc.go [] (gD.go vs)=gD.go vs
 |[],_=>rfl
 |v::vs,h=>by
  simp[hD.go]at h;simp[gD.go,V.cc.go,JT h.1,go vs h.2]
def gv(P:Program)(fo:gu U):Prop:=∀f s,s∈fo f->s.f=f/\h5 P f/\ij P s
theorem JU{a:bm U}{x:bB U}{d:C}(h:cy N a x d)(hs:x.j6 a):d=x.iS a:=by
 cases h<;>simp[bB.j6]at hs<;>try rfl
 grind[bB.iS];grind[bB.iS]
theorem DY{a:bm U}:∀{vs:I (bU U)} {i:Nat},(iT.go a vs)[i]?=(vs[i]?).map (iT a)
 |[],i=>by rfl
 |v::vs,0=>by rfl
 |v::vs,i+1=>by simp[iT.go,DY]
theorem MX{a:bm U}:∀{vs:I (bU U)} {i:Nat} {v:bU U},lj.go a vs->vs[i]?=some v->lj a v=true
 |[],i,v,_,h=>by grind
 |x::vs,0,v,hs,h=>by grind[lj.go]
 |x::vs,i+1,v,hs,h=>by simp[lj.go]at hs;exact MX hs.2 (by simpa using h)
theorem J1{b:bm U}:∀{xs:I (bB U)} {a:I C},bc (cy N b) xs a->(∀x,x∈xs->x.j6 b)->a=xs.map (bB.iS b)
 |[],[],_,_=>rfl
 |x::xs,d::a,.cons h1 c,hs=>by
  rw[qT,<-JU h1 (hs x (by simp)),<-J1 c (λx aa=>hs x (by grind))]
theorem Pd{a:bm U}{x:bU U}{d:V}(h:cb N a x d):lj a x->d=iT a x:=by
 induction h with
 |c h=>intro hs;rw[JU h hs];rfl
 |agg h=>
  grind[lj,iT,J1]
 |bd xs e ak h ih=>
  intro hs;congr 1
  apply xX;intro i;rw[DY];cases aa:xs[i]? with
  |none=>grind
  |some x=>
   have f:=(ev.1 aa).1;have b:=fm (l:=e) (i:=i) (by omega);rw[b];congr 1;exact ih i x _ aa b (MX hs aa)
theorem Q7{a:bm U}{x:dc U}{y:cd}(h:iD N a x y)(hs:hb a x):y=tm a x:=by
 cases h with
 |box h=>grind[hb,tm,J1]
 |arr t l=>rfl
 |set ks=>rfl
 |buf E s=>rfl
 |cu h=>grind[hb,tm,JU]
 |cV=>grind[hb]
 |rows=>grind[hb]
theorem Az{a:bm U}:∀{l:bm U} {b:Nat},aZ (k5 a l) b=(ba l b).map (tm a)
 |[],b=>rfl
 |(k,x)::r,b=>by
  simp[k5,aZ,ba];cases h:Nat.beq k b with
  |true=>simp_all
  |false=>rw[aq (iG h)];exact Az
theorem R9{k:Nat}:∀{v:V},v.cA (back [] k)=v.sh k
 |.c x=>by rfl
 |.agg cs=>by rfl
 |.bd vs=>by simp[V.cA,V.sh];rw[go vs]
where go:∀(vs:I V),V.cA.go _ vs=V.sh.go k vs
 |[]=>rfl
 |v::vs=>by simp only[V.cA.go,V.sh.go];rw[R9,go vs]
theorem Nk{k:Nat}:∀{s:bh},h7 σ1 [] (back [] k) s=nc σ1 k s
 |[]=>rfl
 |(b,x)::r=>by
  simp[h7];rw[Nk];rfl
theorem Fq:∀{ss:I dZ} {j:Nat} {a:fh U} {i:Nat} {x:dc U},ba (h9 j ss a) i=some x->j<=i/\i<j+ss.length
 |[],j,a,i,x,h=>by grind[h9,ba]
 |s::ss,j,a,i,x,h=>by
  simp[h9]at h;split at h
  . simp[ba]at h;split at h
    simp_all;have:=Fq h;grind
  have:=Fq h;grind
theorem NT{bs:bb}:∀{caps:bb},(∀c,c∈caps->pos bs c=some c)->qn bs caps=some caps
 |[],_=>rfl
 |c::cs,h=>by simp[qn,h c _,NT (caps:=cs) (λx aa=>h x (by grind))]
theorem xu{a:bm U}(e:∀b x,ba a b=some x->b<N){x:bB U}(hs:x.j6 a):cy N a x (x.iS a)/\eg ((x.iS a).cc (List.range N)) (x.iS a):=by
 have ar:∀b,hasB a b->pos (List.range N) b=some b:=by
  grind[hasB,nM]
 cases x with
 |t c=>exact⟨.t c,eg.refl _⟩
 |ptr b o=>
  refine⟨.ptr b o,?_⟩;simp only[bB.iS,C.cc,ar b hs];exact eg.refl _
 |c9 b ty i o=>
  refine⟨.c9 b ty i o,?_⟩;simp only[bB.iS,C.cc,ar b hs];exact eg.refl _
 |ep ty x o=>exact⟨.ep ty x o,eg.refl _⟩
 |arr b=>
  simp only[bB.j6]at hs;split at hs
  . rename_i y al;split at hs
    . rename_i p d;simp only[bB.iS,al,d];refine⟨.arr b p.1 p.2 (e b y al) λz j q g=>?_,?_⟩
      grind;grind[C.cc,hasB,eg.refl]
    grind
  grind
 |hT b k len=>grind[bB.j6]
 |sub b k len=>grind[bB.j6]
 |pre b h=>grind[bB.j6]
 |mp b=>
  refine⟨.mp b,?_⟩;simp only[bB.iS,C.cc,ar b hs];exact eg.refl _
 |eV b=>grind[bB.j6]
 |cQ b=>
  simp only[bB.j6]at hs;split at hs
  . rename_i y al;split at hs
    . rename_i p d;simp only[bB.iS,al,d];refine⟨.cQ b p.2 (e b y al) λz j q g=>?_,?_⟩
      grind[dh];grind[C.cc,hasB,eg.refl]
    grind
  grind
 |bX=>exact⟨.bX,eg.refl _⟩
 |fN=>exact⟨.fN,eg.refl _⟩
 |fM=>exact⟨.fM,eg.refl _⟩
 |fn f caps=>
  simp only[bB.j6]at hs;refine⟨.fn f caps,?_⟩;grind[NT,bB.iS,C.cc,eg.refl]
 |dead=>grind[bB.j6]
theorem x4{a:bm U}(c:∀b x,ba a b=some x->b<N):∀{xs:I (bB U)},(∀x,x∈xs->x.j6 a)->bc (cy N a) xs (xs.map (bB.iS a))/\bc eg ((xs.map (bB.iS a)).map (C.cc (List.range N))) (xs.map (bB.iS a))
 |[],_=>⟨.nil,.nil⟩
 |x::xs,hs=>by
  obtain⟨h1,d⟩:=xu c (hs x (by simp));obtain⟨e,f⟩:=x4 c (xs:=xs) (λx aa=>hs x (by grind));exact⟨.cons h1 e,.cons d f⟩
theorem Lx{a:bm U}:∀{vs:I (bU U)},(iT.go a vs).length=vs.length
 |[]=>rfl
 |v::vs=>by simp[iT.go,Lx]
theorem BP{N:Nat}{a:bm U}(e:∀b x,ba a b=some x->b<N):∀{x:bU U},lj a x->cb N a x (iT a x)/\hA ((iT a x).cc (List.range N)) (iT a x)
 |.c x,hs=>by
  obtain⟨h1,f⟩:=xu e (x:=x) (by grind[lj]);exact⟨.c h1,.c f⟩
 |.agg cs,hs=>by
  simp[lj,gF]at hs;obtain⟨h1,f⟩:=x4 e hs;exact⟨.agg h1,.agg f⟩
 |.bd vs,hs=>by
  have:=go e vs hs;refine⟨.bd _ _ (by rw[Lx]) λi x d aa g=>?_,.bd _ _ (by rw[DX]) λi x y aa al=>?_⟩;grind[DY];grind[Ff,DY]
where go {N:Nat} {a:bm U} (e:∀b x,ba a b=some x->b<N):∀(vs:I _),lj.go a vs->∀x,x∈vs->cb N a x (iT a x)/\hA ((iT a x).cc (List.range N)) (iT a x)
 |[],_=>by simp
 |v::vs,hs=>by
  simp[lj.go]at hs;have h1:=BP e hs.1;have f:=go e vs hs.2;grind
theorem NU {fo:gu U}(ab:gv P fo){o:cl}{f:Nat}{args:I aV}(ah:o.op= .call f args)(h:e7 key gl nf env σ env1 σ1 G)(w:o.guard=none)(Y:o3 gl o.guard o.dst)(Z:lP nf o.dst)
 {k:bm U->bU U->ai R}{r:R}:∀{ss:I (cT U)},(∀s,s∈ss->s∈fo f)->Bq (λe=>l7 gl o.guard e args) env σ key k ss=some r->
 ∃v v1 σ' bE,k σ' v=some r/\DStep xb P o key env1 σ1 true v1 bE/\e7 (key+16) (jk gl o.guard o.dst) nf (hz o.dst v env) σ' (eO env1 o.dst true v1) bE (λi=>if o.dst=some i then true else G i)
 |[],_,aa=>by grind[Bq]
 |s::ss,af,aa=>by
  simp only[Bq]at aa;split at aa;exact NU ab ah h w Y Z (λs hs=>af s (by grind)) aa
  . rename_i ad ar;unfold HV at ar;split at ar
    . rename_i vs ag aj;simp only[dr]at ag;split at ar
      . rename_i a H au;rw[gF]at H;obtain⟨aF,aR,aG⟩:=ab f s (af s (by simp));obtain⟨p,B,b1,b2,an⟩:=uV h.hM h.av aj;have aH:s.st=[]:=(by grind[isNil]);have O:=iH ag.2;obtain⟨g,hres,C⟩:=lp.1 aa;split at C
        . rename_i z;simp only[dr]at z;obtain⟨aP,f1,ak,g1⟩:=wa (N:=key) (σc:=([]:bm U)) (xM) (λj b aO aT=>by grind) au
          obtain⟨M,aK,ao,dB⟩:=g1 B b2.length (λi x d aa q=>by
           obtain⟨L,h1,u⟩:=b2.get aa
           rw[q]at h1;cases h1;omega)
          have aS:a8.cells U.D s.ts ad=a:=a8.nh ar;have aw:s.args ad=aP:=by
           unfold cT.args;have:=f1 [];grind
          have T:s.jg ad=[]:=by unfold cT.jg;rw[aH];rfl
          have ae:s.st.length=0:=by grind
          have W:=aG ad g hres M [] (by
           rw[aw,T,ae]
           refine bc.lX (by rw[ak,aK,b2.length]) λi x d aa q=>dB i x d aa q) (by rw[T];intro b x aa;grind[ba])
          rw[aF,ae]at W;have aI:bc hA B M:=by
           refine bc.lX aK.symm λi d L q aA=>?_;have aj:=ao i d L q aA;obtain⟨x,aa,F⟩:=(b2.flip (R':=λd x=>cb key σ x d) λ_ _ h=>h).get q;have hs:=H x (fQ aa);have:=BO F hs;grind[JT]
          have ay:=eG.conv aI (σ:=[]) (λb aO aa=>by grind[aZ]) W;have n:∀b x,ba (s.rest g) b=some x->b<16/\hb (s.rest g) x:=by
           intro b x aa;have aD:∀{l:bm U},ba l b=some x->(b,x)∈l:=by
            intro l;induction l with
            |nil=>grind[ba]
            |cons e r ih=>
             obtain⟨aU,e⟩:=e;intro h;simp only[ba]at h;split at h;simp_all;grind
           have:=z.2;unfold K5 at this;rw[gF]at this;have u:=this _ (aD aa);simp only[dr]at u;exact⟨by have:=iH u.1;omega,u.2⟩
          have t:∀b x,ba (s.rest g) b=some x->b<s.fa.length:=by
           intro b x aa;have:=(Fq aa).2;omega
          have az:eG P f B [] 0 (λaN s' am=>aN=iT (s.rest g) (s.res g)/\s'=k5 (s.rest g) (s.rest g)/\am=s.fa.length):=by
           refine eG.tidy ay ?_
           rintro aW s1 aQ ⟨rfl,aJ,aM⟩;have aE:=Pd aJ z.1;subst aE;refine⟨List.range s.fa.length,_,_,List.nodup_range,rfl,?_,?_,rfl,rfl,by simp⟩;exact(BP t z.1).2
           . intro b x aa;rw[Az,bL]at aa;obtain⟨K,A,rfl⟩:=aa;obtain⟨h1,y,u,ap⟩:=aM b K A;have al:=Q7 ap (n b K A).2;subst al;have ht:=A7 (bs:=List.range s.fa.length) (i:=0) (j:=b) (r:=List.range s.fa.length) (by simp[h1]) u;rw[iy]at ht;refine⟨_,ht,?_⟩;cases K with
             |box cs=>
              have m:=(n b _ A).2;simp only[hb,gF]at m;exact .box (x4 t m).2
             |arr ty l=>exact .arr
             |rows sz l=>have m:=(n b _ A).2;simp[hb]at m
             |set ks=>exact .same
             |buf E s=>exact .same
             |cu E c=>have m:=(n b _ A).2;exact .cu (xu t (by simpa[hb]using m)).2
             |cV=>have m:=(n b _ A).2;simp[hb]at m
          have ax:V.aJ.V.d' (lt 0) B:=by
           refine tS λi d q=>?_;obtain⟨x,aa,F⟩:=(b2.flip (R':=λd x=>cb key σ x d) λ_ _ h=>h).get q;have hs:=H x (fQ aa);have:=BO F hs;subst this;exact(xt (N:=key) (σ:=σ) hs).2 _
          have av:gU env1 o.guard=some true:=by rw[w];rfl
          have aC:(k5 (s.rest g) (s.rest g)).all (λx=>(x.1<16:J)):=by
           have aB:=z.2;unfold K5 at aB;have:∀{l:bm U},(l.all λp=>Nat.ble (p.1+1) 16&&hb (s.rest g) p.2)->(k5 (s.rest g) l).all (λx=>(x.1<16:J)):=by
            intro l;induction l with
            |nil=>intro _;rfl
            |cons e r ih=>
             obtain⟨b,x⟩:=e;intro h;simp only[nV,dr]at h;simp only[k5,nV,dr,gP];exact⟨by have:=iH h.1.1;omega,ih h.2⟩
           grind
          have X:cb s.fa.length (s.rest g) (s.res g) (iT (s.rest g) (s.res g))/\cH s.fa.length (s.rest g) (k5 (s.rest g) (s.rest g)):=by
           refine⟨(BP t z.1).1,λb x aa=>?_⟩;refine⟨t b x aa,tm (s.rest g) x,by rw[Az,aa];rfl,?_⟩;cases x with
           |box cs=>
            have m:=(n b _ aa).2;simp only[hb,gF]at m;exact .box (x4 t m).1
           |arr ty l=>exact .arr ty l
           |rows sz l=>have m:=(n b _ aa).2;simp[hb]at m
           |set ks=>exact .set ks
           |buf E s=>exact .buf E s
           |cu E c=>have m:=(n b _ aa).2;exact .cu (xu t (by simpa[hb]using m)).1
           |cV=>have m:=(n b _ aa).2;simp[hb]at m
          have cM:s.fa.length<=([]:bb).length+16:=(by simpa using O);have Q:=cH.G8 (key:=key) (bs:=[]) xM (by simp) cM h.fg rfl X.2;have S:=cb.cA (key:=key) (bs:=[]) (σ:=σ) xM (by simp) cM h.fg X.1;have aq:=EM (key:=key) (bs:=[]) (σr:=s.rest g) xM (by simp) h.fg rfl;rw[R9]at S;rw[Nk]at Q;refine⟨_,(iT (s.rest g) (s.res g)).sh key,_,nc σ1 key (k5 (s.rest g) (s.rest g)),C,.own ah av w b1 (an (by rw[w];rfl)) ax O aC az rfl,?_⟩;have:=e7.bind (gd:=o.guard) (dst:=o.dst) (nf:=nf) (h.hM.mono aq) h.av Q h.aL S (.inl w) Y Z;rw[w]at this⊢;exact this
        cases C
      cases ar
    cases ar
theorem OK:∀{args:I aV} {p:Prop} {a:I V},ix env1 args=some (p,a)->lD env1 args=a.flatMap V.gV
 |[],p,a,h=>by simp[ix]at h;rw[h.2];rfl
 |x::xs,p,a,h=>by
  simp only[ix,bz,bL]at h;obtain⟨⟨c,v0⟩,h1,⟨d,e⟩,b,_,rfl⟩:=h;have ih:=OK b;grind[lD]
theorem Q8{c:bm U}{x:bB U}{d:C}(h:cy N c x d):∀b,b∈x.gV->b∈d.gV:=by
 intro b a;cases h<;>simp only[bB.gV]at a⊢<;>first|exact a|(simp at a)
theorem Pe{f:bm U}:∀{xs:I (bB U)} {c:I C},bc (cy N f) xs c->∀b,b∈xs.flatMap bB.gV->b∈c.flatMap C.gV
 |[],[],_,b,a=>a
 |x::xs,d::c,.cons h1 e,b,a=>by
  simp only[hf,gj]at a⊢;rcases a with a|a;grind[Q8];exact .inr (Pe e b a)
theorem agc{e:bm U}{x:bU U}{d:V}(h:cb N e x d):∀b,b∈x.gV->b∈d.gV:=by
 intro b a;cases h with
 |c h=>exact Q8 h b a
 |agg h=>exact Pe h b a
 |bd=>grind[bU.gV]
theorem Pf{f:bm U}:∀{xs:I (bU U)} {c:I V},bc (cb N f) xs c->∀b,b∈xs.flatMap bU.gV->b∈c.flatMap V.gV
 |[],[],_,b,a=>a
 |x::xs,d::c,.cons h1 e,b,a=>by
  simp only[hf,gj]at a⊢;rcases a with a|a;grind[agc];exact .inr (Pf e b a)
theorem Qr{l:bb}{b:Nat}(h:mG l b):b∈l:=by
 simp_all[mG]
theorem Jo {fo:gu U}(ab:gv P fo){o:cl}{f:Nat}{args:I aV}(ag:o.op= .call f args)(h:e7 key gl nf env σ env1 σ1 G)(F:o.guard=none\/∃t b y,o.guard=some (t,b)/\fW env t b=some y)(Y:o3 gl o.guard o.dst)(Z:lP nf o.dst)
 (H:cY env G o.guard){k:bm U->bU U->ai R}{r:R}:∀{ss:I (cT U)},(∀s,s∈ss->s∈fo f)->xC xb (λe=>l7 gl o.guard e args) env σ key k ss=some r->
 ∃v v1 σ' bE,k σ' v=some r/\DStep xb P o key env1 σ1 true v1 bE/\e7 (key+16) (jk gl o.guard o.dst) nf (hz o.dst v env) σ' (eO env1 o.dst true v1) bE (λi=>if o.dst=some i then true else G i)
 |[],_,aa=>by grind[xC]
 |s::ss,af,aa=>by
  simp only[xC]at aa;split at aa;exact Jo ab ag h F Y Z H (λs hs=>af s (by grind)) aa
  . rename_i bs ad ar;obtain⟨aN,a2,aO⟩:=ab f s (af s (by simp));obtain⟨g,hres,C⟩:=lp.1 aa;unfold Ww at ar;split at ar
    grind
    . rename_i vs aR;split at ar;split at ar
      grind
      . rename_i q;simp only[dr,gF]at q;obtain⟨_,ax,D,ay,az,aA⟩:=q;split at ar
        . rename_i a b ap Q;split at ar
          . rename_i a4 aG;cases ar;have ck:=A8 ax;have aD:=λb q=>iH (D b q).1;have ae:=dh ay;have a5:=iH az;have cM:=iH aA;obtain⟨p,K,b1,b2,aj⟩:=uV h.hM h.av aR;have aB:=Bp ck Q;obtain⟨aX,f1,ak,g1⟩:=wa (N:=key) ck aB ap
            obtain⟨M,aK,a1,dB⟩:=g1 K b2.length (λi x d aa X=>by
             obtain⟨a0,h1,O⟩:=b2.get aa
             grind)
            obtain⟨aW,t1,t2⟩:=EC ck h.fg Q;have a3:=a8.nh aG;have au:s.args ad=aX:=(by grind[cT.args]);have aw:s.jg ad=h9 0 s.st b:=by grind[cT.jg]
            have T:=aO ad g hres M aW (by
             rw[au,aw,<-ae]
             exact bc.lX (by rw[ak,aK,b2.length]) λi x d aa X=>dB i x d aa X) (by grind)
            rw[aN,<-ae]at T;have aP:bc hA (K.map (V.cc bs)) M:=by
             grind[bc.lX]
            have aC:=eG.conv aP t1 T;split at C
            . rename_i c z S;simp only[dr]at z;split at C
              . rename_i aF;subst aF;have n:∀b x,ba (s.rest g) b=some x->hb (s.rest g) x:=by
                 intro b x aa;have a6:∀{l:bm U},ba l b=some x->(b,x)∈l:=by
                  intro l;induction l with
                  |nil=>intro h;simp[ba]at h
                  |cons e r ih=>
                   obtain⟨a7,e⟩:=e;intro h;simp only[ba]at h;split at h;simp_all;grind
                 have:=z.2;unfold KE at this;grind
                have u:∀b x,ba (s.rest g) b=some x->b<s.fa.length:=by
                 intro b x aa;have:=(Fq aa).2;omega
                have aE:eG P f (K.map (V.cc bs)) (gB bs σ1 0 bs) bs.length (λaU s' ah=>aU=iT (s.rest g) (s.res g)/\s'=k5 (s.rest g) (s.rest g)/\ah=s.fa.length):=by
                 refine eG.tidy aC ?_
                 rintro a9 s1 aY ⟨rfl,aS,aT⟩;have aM:=Pd aS z.1;subst aM;refine⟨List.range s.fa.length,_,_,List.nodup_range,?_,?_,?_,rfl,rfl,by simp⟩;unfold keeps;grind;exact(BP u z.1).2
                 . intro b x aa;rw[Az,bL]at aa;obtain⟨L,A,rfl⟩:=aa;obtain⟨h1,y,O,B⟩:=aT b L A;have al:=Q7 B (n b L A);subst al;have ht:=A7 (bs:=List.range s.fa.length) (i:=0) (j:=b) (r:=List.range s.fa.length) (by simp[h1]) O;rw[iy]at ht;refine⟨_,ht,?_⟩;cases L with
                   |box cs=>
                    have m:=n b _ A;simp only[hb,gF]at m;exact .box (x4 u m).2
                   |arr ty l=>exact .arr
                   |rows sz l=>have m:=n b _ A;simp[hb]at m
                   |set ks=>exact .same
                   |buf E s=>exact .same
                   |cu E c=>have m:=n b _ A;exact .cu (xu u (by simpa[hb]using m)).2
                   |cV=>have m:=n b _ A;simp[hb]at m
                have aq:=EL h.hM F;have aJ:(k5 (s.rest g) (s.rest g)).all (λx=>(x.1<bs.length+16:J)):=by
                 have aH:=z.2;unfold KE at aH;have:∀{l:bm U},(l.all λp=>Nat.ble (p.1+1) (bs.length+16)&&hb (s.rest g) p.2)->(k5 (s.rest g) l).all (λx=>(x.1<bs.length+16:J)):=by
                  intro l;induction l with
                  |nil=>intro _;rfl
                  |cons e r ih=>
                   obtain⟨b,x⟩:=e;intro h;simp only[nV,dr]at h;simp only[k5,nV,dr,gP];exact⟨by have:=iH h.1.1;omega,ih h.2⟩
                 grind
                have W:cb s.fa.length (s.rest g) (s.res g) (iT (s.rest g) (s.res g))/\cH s.fa.length (s.rest g) (k5 (s.rest g) (s.rest g)):=by
                 refine⟨(BP u z.1).1,λb x aa=>?_⟩;refine⟨u b x aa,tm (s.rest g) x,by rw[Az,aa];rfl,?_⟩;cases x with
                 |box cs=>
                  have m:=n b _ aa;simp only[hb,gF]at m;exact .box (x4 u m).1
                 |arr ty l=>exact .arr ty l
                 |rows sz l=>have m:=n b _ aa;simp[hb]at m
                 |set ks=>exact .set ks
                 |buf E s=>exact .buf E s
                 |cu E c=>have m:=n b _ aa;exact .cu (xu u (by simpa[hb]using m)).1
                 |cV=>have m:=n b _ aa;simp[hb]at m
                have an:=cH.G8 (key:=key) (bs:=bs) ck aD cM h.fg S W.2;have ao:=cb.cA (key:=key) (bs:=bs) (σ:=σ) ck aD cM h.fg W.1;have am:=EM (key:=key) (bs:=bs) (σr:=s.rest g) ck aD h.fg S;have aI:∀b,b∈bs->∃x,aZ σ1 b=some x:=by
                 intro b q;have B:=(D b q).2.2;unfold hasB at B;split at B;rename_i x aa;obtain⟨_,y,al,_⟩:=h.fg b x aa;grind;cases B
                have aQ:∀b,b∈bs->b∈lD env1 args++xb:=by
                 intro b q;rw[OK b1];have w:=(D b q).2.1;rw[lW]at w;rcases w with w|w;exact List.mem_append_left _ (Pf b2 b (Qr w));exact Hy _ (Qr w)
                refine⟨_,(iT (s.rest g) (s.res g)).cA (back bs key),_,_,C,.raw ag (by rw[aq,H]) rfl b1 (aj H) ck aD aI aQ cM aJ aE rfl,?_⟩;have:=e7.bind (gd:=o.guard) (dst:=o.dst) (nf:=nf) (h.hM.mono am) h.av an h.aL ao F Y Z;simp_all
              cases C
            cases C
          cases ar
        cases ar
theorem Ku {fo:gu U}(S:gv P fo){o:cl}{f:Nat}{args:I aV}(u:o.op= .call f args\/(o.guard=none/\∃x q,o.op= .iO x args/\x.get env1=some (q,.c (.fn f []))/\q))(h:e7 key gl nf env σ env1 σ1 G)(C:o.guard=none\/∃t b y,o.guard=some (t,b)/\fW env t b=some y)(O:o3 gl o.guard o.dst)(Q:lP nf o.dst)
 {g:J}(av:g=cY env G o.guard){k:bU U->ai R}{r:R}:∀{ss:I (cT U)},(∀s,s∈ss->s∈fo f)->yw (λe=>l7 gl o.guard e args) env g k ss=some r->
 ∃v v1,k v=some r/\DStep xb P o key env1 σ1 g v1 σ1/\e7 (key+16) (jk gl o.guard o.dst) nf (hz o.dst v env) σ (eO env1 o.dst g v1) σ1 (λi=>if o.dst=some i then g else G i)
 |[],_,aa=>by grind[yw]
 |s::ss,Y,aa=>by
  simp only[yw]at aa;split at aa;exact Ku S u h C O Q av (λs hs=>Y s (by grind)) aa
  . rename_i ad ar;unfold HX at ar;split at ar
    . rename_i vs aF A;split at ar
      . rename_i a F ah;rw[gF]at F;obtain⟨ap,al,aq⟩:=S f s (Y s (by simp));obtain⟨p,B,b1,b2,ab⟩:=uV h.hM h.av A;have au:s.st=[]:=(by grind[isNil]);obtain⟨n,hres,E⟩:=lp.1 aa;split at E
        . rename_i Z;obtain⟨ax,ay⟩:=xt (N:=key+16) (σ:=σ) Z;have K:=EL h.hM C;rw[<-av]at K;have af:e7 (key+16) (jk gl o.guard o.dst) nf (hz o.dst (s.res n) env) σ (eO env1 o.dst g (gD (s.res n))) σ1 (λi=>if o.dst=some i then g else G i):=by
           have:=e7.bind (dst:=o.dst) (h.hM.mono (dI.more (by simp:key<=key+16))) h.av (h.fg.mono (Nat.le_add_right key 16)) h.aL ax C O Q;grind
          refine⟨s.res n,gD (s.res n),E,?_,af⟩;have W:g=true->p/\V.aJ.V.d' (lt 0) B/\(gD (s.res n)).aJ (lt 0)/\eG P f B [] 0 (λaz _ _=>az=gD (s.res n)):=?_
          . rcases u with u|⟨T,x,q,u,aa,ao⟩
            exact .call u K b1 W
            . have z:g=true:=by rw[av,T];rfl
              exact .iO u T z aa ao al b1 (W z)
          intro z;rw[ag z]at hres;obtain⟨aB,f1,ak,g1⟩:=wa (N:=key) (σc:=([]:bm U)) (xM) (λj b aA aE=>by grind) ah
          obtain⟨H,aK,ae,dB⟩:=g1 B b2.length (λi x d aa l=>by
           obtain⟨w,h1,aC⟩:=b2.get aa
           rw[l]at h1;cases h1;omega)
          have aD:a8.cells U.D s.ts ad=a:=a8.nh ar;have aj:s.args ad=aB:=by
           unfold cT.args;have:=f1 [];grind
          have L:s.jg ad=[]:=by unfold cT.jg;rw[au];rfl
          have X:s.st.length=0:=by grind
          have M:=aq ad n hres H [] (by
           rw[aj,L,X]
           refine bc.lX (by rw[ak,aK,b2.length]) λi x d aa l=>dB i x d aa l) (by rw[L];intro b x aa;grind[ba])
          rw[ap,X]at M;have aw:bc hA B H:=by
           refine bc.lX aK.symm λi d w l am=>?_;have A:=ae i d w l am;obtain⟨x,aa,m⟩:=(b2.flip λ_ _ h=>h).get l;exact ak2 (F x (fQ aa)) A m
          refine⟨ab (by grind),?_,ay _,?_⟩
          . refine tS λi d l=>?_;obtain⟨x,aa,m⟩:=(b2.flip (R':=λd x=>cb key σ x d) λ_ _ h=>h).get l;exact ak3 (F x (fQ aa)) m
          refine eG.conv aw (λb aA aa=>by simp[aZ]at aa) (M.mono λaG bE N' an=>?_);exact BO an.2.1 Z
        cases E
      grind
    grind
where
 ak2 {x:bU U} {d w:V} (hs:hD x) (A:hA (d.cc []) w) (m:cb key σ x d):hA d w:=by
  have:=BO m hs;grind[JT]
 ak3 {x:bU U} {d:V} (hs:hD x) (m:cb key σ x d):d.aJ (lt 0)=true:=by
  have:=BO m hs;grind[xt]
theorem Fj {fo:gu U}(Q:gv P fo){f:Nat}{F:lx U}{cal:Env->I V->Prop}
 (X:∀{env':b8 U} {σ2:bm U} {g:Env} {vs:I (bU U)},df key σ2 G env' g->hI gl env' G->F env'=some vs->∃j,bc (cb key σ2) vs j/\cal g j)
 (he:df key σ G env env1)(av:hI gl env G)(aH:cH key σ σ1){k:b8 U->bm U->bU U->ai R}{r:R}:∀{ss:I (cT U)},(∀s,s∈ss->s∈fo f)->yx F env σ key k ss=some r->
 ∃env' σ2 g bE j,Conv kk key env1 σ1 key g bE/\df key σ2 G env' g/\hI gl env' G/\(∀t b,fW env' t b=fW env t b)/\cal g j/\h5 P f/\
  R8 P f j bE key g (λZ s1=>∃y v,k env' y v=some r/\df (key+16) y G env' g/\cH (key+16) y s1/\cb (key+16) y v Z)
 |[],_,aa=>by grind[yx]
 |s::ss,Y,aa=>by
  simp only[yx]at aa;split at aa;exact Fj Q X he av aH (λs hs=>Y s (by grind)) aa
  . rename_i env' σ2 bs h ar;obtain⟨aA,ao,aC⟩:=Q f s (Y s (by simp));obtain⟨aL,hres,q⟩:=lp.1 aa;unfold Wv at ar;split at ar
    grind
    . split at ar;split at ar
      cases ar
      . rename_i aR aV T;split at ar
        cases ar
        . rename_i vs aF;split at ar
          cases ar
          . rename_i m;simp only[dr,gF]at m;obtain⟨ah,aj,al,am⟩:=m;split at ar
            . rename_i a b af K;split at ar
              . rename_i ad ay;cases ar;have ck:=A8 ah;have aD:∀b,b∈bs->b<key:=λb m=>iH (aj b m);have C:=dh al;have az:=iH am;obtain⟨g,bE,aw,B,u,W⟩:=xa (kk:=kk) (gl:=gl) T he aH;obtain⟨j,b2,ap⟩:=X B (W av) aF;have aq:=Bp ck K;obtain⟨aP,f1,ak,g1⟩:=wa (N:=key) ck aq af
                obtain⟨E,aK,aQ,dB⟩:=g1 j b2.length (λi x d aa A=>by
                 obtain⟨ab,h1,ae⟩:=b2.get aa
                 grind)
                obtain⟨aM,t1,t2⟩:=EC ck u K;have M:a8.cells U.D s.ts h=a++b:=a8.nh ay;have ag:s.args h=aP:=by unfold cT.args;rw[M,f1]
                have H:s.jg h=h9 0 s.st b:=by unfold cT.jg;rw[M,f1]
                have O:=aC h aL hres E aM (by
                 rw[ag,H,<-C]
                 exact bc.lX (by rw[ak,aK,b2.length]) λi x d aa A=>dB i x d aa A) (by rw[H,<-C];exact t2)
                rw[aA,<-C]at O;have aE:bc hA (j.map (V.cc bs)) E:=by
                 refine bc.lX (by simp[aK]) λi d ab A aS=>?_;grind
                have au:=eG.conv aE t1 O;split at q;cases q
                . rename_i c L;split at q
                  . rename_i ax;subst ax;have cM:s.fa.length<=bs.length+16:=az;refine⟨env',σ2,g,bE,j,aw,B,W av,λt b=>Uf T,ap,ao,?_⟩;intro aB nt φ S a w R an aN aG;refine(iC.raw (n:=lt key) (key:=key) ck aD au ?_ (λb m=>by simp[lt];exact aD b m) aB nt φ S g a w R (λb h1 _=>AP h1) an aN aG)
                    rintro Z s1 N' ⟨rfl,aI,aJ⟩;refine⟨cM,_,_,q,B.mono (EM ck aD u L),cH.G8 ck aD cM u L aJ,cb.cA ck aD cM u aI⟩
                  cases q
              cases ar
            cases ar
where
 Ug {env:b8 U} {b0:Nat} {ty:aO} {l:I (ty.den U.D)} {t:Nat} {b:J}:fW (s5 b0 (⟨.slice ty,l⟩:bZ U.D) env) t b=fW env t b:=by
  unfold fW;rw[F0];cases ba env t with
  |none=>rfl
  |some v=>
   cases v with
   |c x=>
    cases x with
    |arr z=>grind[bU.cC,bB.cC]
    |c9 z aU i o=>grind[bU.cC,bB.cC]
    |pre z h=>grind[bU.cC,bB.cC]
    |hT z aT h=>grind[bU.cC,bB.cC]
    |_=>rfl
   |agg cs=>rfl
   |bd vs=>rfl
 Uf {l:I (Nat×aO)} {env env':b8 U} {σ σ':bm U} {t:Nat} {b:J} (h:kX l env σ=some (env',σ')):fW env' t b=fW env t b:=by
  induction l generalizing env σ with
  |nil=>grind[kX]
  |cons p l ih=>
   simp only[kX]at h;split at h
   . rename_i e s h1;have ae:fW e t b=fW env t b:=by
      unfold ys at h1;split at h1
      . split at h1
        cases h1;exact Ug;grind
      . split at h1
        cases h1;exact Ug;grind
      grind
     grind
   grind
theorem OL{fo:gu U}(u:gv P fo)(h:e7 key gl nf env σ env1 σ1 G){k:eY->ky->b8 U->bm U->ai R}{r:R}(aa:s7 fo (some xb) o key gl nf env σ k=some r):
 ∃g v1 bE L S env' σ' T,DStep xb P o key env1 σ1 g v1 bE/\k L S env' σ'=some r/\e7 (key+16) L S env' σ' (eO env1 o.dst g v1) bE T:=by
 unfold s7 at aa;split at aa;grind
 . rename_i M;simp only[dr]at M;obtain⟨i,l⟩:=M;split at aa
   . rename_i bJ;split at aa
     rename_i z w;have V:=N8 h.av h.aL bJ;obtain⟨h1,e⟩:=EN (P:=P) h (FE w) V i l (KF (U:=U) (N:=key+16) (σ:=σ));exact⟨_,_,_,_,_,_,_,_,h1,aa,e⟩;grind
   . split at aa
     . rename_i f args n;split at aa
       . split at aa
         . rename_i g gd av a;have p:o.guard=none\/∃t b y,o.guard=some (t,b)/\fW env t b=some y:=(by grind[FE]);have m:g=cY env G o.guard:=Fh h.av av;split at aa
           obtain⟨v,v1,σ',bE,h1,e,j⟩:=Jo (fo:=fo) u n h p i l (by grind) (λs hs=>hs) aa;exact⟨_,_,_,_,_,_,_,_,e,h1,j⟩
           . have H:cY env G o.guard=false:=by grind
             have B:e7 key gl (gd::nf) env σ env1 σ1 G:=⟨h.hM,h.av,h.fg,λz w=>by
              rcases fk.1 w with rfl|J;grind
              . exact h.aL z J⟩
             have F:lP (gd::nf) o.dst:=by
              cases E:o.dst with
              |none=>rfl
              |some d=>
               simp_all[lP,nV,dr,o3]
             obtain⟨h1,e⟩:=EN (P:=P) B p H i F (KF (U:=U) (N:=key+16) (σ:=σ));exact⟨_,_,_,_,_,_,_,_,h1,aa,e⟩
         grind
       unfold Jt at aa;split at aa
       . rename_i a;simp only at aa;split at aa
         case h_2=>
          obtain⟨v,v1,σ',bE,h1,e,j⟩:=Jo (fo:=fo) u n h (.inl a) i l (by rw[a];rfl) (λs hs=>hs) aa;grind
         rw[a]at aa;obtain⟨v,v1,σ',bE,h1,e,j⟩:=NU (fo:=fo) u n h a i l (k:=λσ v=>k (jk gl o.guard o.dst) nf (hz o.dst v env) σ) (λs hs=>hs) (by rw[a];omega);exact⟨_,_,_,_,_,_,_,_,e,h1,j⟩
       . rename_i gd a;split at aa
         rename_i g av;rw[a]at aa av;obtain⟨v,v1,h1,e,j⟩:=Ku (fo:=fo) u (.inl n) h (by grind[FE]) i l (g:=g) (by rw[a];exact Fh h.av av) (λs hs=>hs) (by rw[a];omega);rw[a]at j;exact⟨_,_,_,_,_,_,_,_,e,h1,j⟩;grind
     . rename_i x args n;split at aa
       grind;rename_i Y f E a W;obtain⟨q,v1,a1,a2,a3⟩:=cE h.hM h.av W;have:=a2.G7;subst this;obtain⟨v,v1,h1,e,j⟩:=Ku (xb:=xb) (fo:=fo) u (.inr ⟨a,x,q,n,a1,a3 rfl⟩) h (.inl a) i l (g:=true) (by rw[a];rfl) (λs hs=>hs) (by rw[a];omega);rw[a]at j;exact⟨_,_,_,_,_,_,_,_,e,h1,j⟩;grind
     . split at aa
       cases aa
       . rename_i c v σ' A;split at aa
         . rename_i a;split at aa
           rename_i C;rw[a]at A;obtain⟨v1,bE,h1,e⟩:=(Q6 (P:=P) (o:=o) h (by rw[a];exact A) (.inl a) i l).1 (by rw[a];rfl) C;rw[a]at e;exact⟨_,_,_,_,_,_,_,_,h1,aa,e⟩;cases aa
         . rename_i gd a;split at aa
           cases aa
           . rename_i g av;have p:o.guard=none\/∃t b y,o.guard=some (t,b)/\fW env t b=some y:=by rw[a];exact FE av
             have m:g=cY env G o.guard:=by rw[a];exact Fh h.av av
             have K:=Q6 (P:=P) (o:=o) (xb:=xb) h A p i l;split at aa
             . rename_i Q;split at aa
               . rename_i D;cases O:g with
                 |true=>
                  rw[O]at D m;simp at D;obtain⟨v1,bE,h1,e⟩:=K.1 m.symm D;have X:σ'=σ:=(NJ h.hM h.av h.fg A).ak1 Q;rw[X]at e;exact⟨_,_,_,_,_,_,_,_,h1,aa,e⟩
                 |false=>
                  rw[O]at m;obtain⟨v1,h1,e⟩:=K.2 m.symm Q;exact⟨_,_,_,_,_,_,_,_,h1,aa,e⟩
               cases aa
             . split at aa
               . rename_i I;split at aa
                 rename_i C;obtain⟨v1,bE,h1,e⟩:=K.1 (by rw[<-m];exact I) C;exact⟨_,_,_,_,_,_,_,_,h1,aa,e⟩;cases aa
               . rename_i I;have H:cY env G o.guard=false:=by rw[<-m];simpa using I
                 have B:e7 key gl (gd::nf) env σ env1 σ1 G:=⟨h.hM,h.av,h.fg,λz w=>by
                  rcases fk.1 w with rfl|J;grind
                  . exact h.aL z J⟩
                 have F:lP (gd::nf) o.dst:=by
                  cases E:o.dst with
                  |none=>rfl
                  |some d=>
                   rw[E]at l i;rw[a]at i;simp only[lP,nV,dr];simp only[lP]at l;simp only[o3,dr]at i;grind
                 obtain⟨h1,e⟩:=EN (P:=P) B p H i F (KF (U:=U) (N:=key+16) (σ:=σ));exact⟨_,_,_,_,_,_,_,_,h1,aa,e⟩
theorem NV{fo:gu U}(I:gv P fo)(h:e7 key gl nf env σ env1 σ1 G){k:eY->ky->b8 U->bm U->ai R}{r:R}(aa:s7 fo none o key gl nf env σ k=some r)
 (bS:∀B O env' σ' m bE Z,k B O env' σ'=some r->e7 (key+16) B O env' σ' m bE Z->K m bE):
 ∃gf ae,Conv kk key env1 σ1 key gf ae/\yS P o key gf ae K:=by
 by_cases d:s7 fo (some []) o key gl nf env σ k=some r;obtain⟨g,v1,bE,B,O,env',σ',Z,h1,ag,ah⟩:=OL I h d;exact⟨env1,σ1,Conv.refl,.inl (h1.h2 (bS _ _ _ _ _ _ _ ag ah))⟩
 . unfold s7 at aa d;split at aa
   grind
   . rename_i H;rw[H]at d;simp only[dr]at H;obtain⟨y,ad⟩:=H;split at aa
     grind
     . rename_i bJ;rw[bJ]at d;simp only at d;split at aa
       . rename_i f args i;rw[i]at d;simp only at d;split at aa
         rename_i M;rw[M]at d;exact absurd aa d;rename_i M;rw[M]at d;unfold Jt at aa d;split at aa
         . rename_i n;rw[n]at aa;obtain⟨env',σ2,m,bE,j,c1,c2,c3,c4,⟨p,J,L⟩,ab,C⟩:=Fj (kk:=kk) (P:=P) I (f:=f) (cal:=λe vs=>∃p,ix e args=some (p,vs)/\p)
            (λhe av u=>by
             obtain⟨p,j,b1,b2,A⟩:=uV he av u
             exact⟨j,b2,p,b1,A rfl⟩) h.hM h.av h.fg (λs hs=>hs) aa
           refine⟨m,bE,c1,.inr ⟨by rw[n];rfl,f,j,.inl ⟨args,p,i,J,L⟩,?_⟩⟩;intro aB nt φ S a w D F Y N;refine(C aB nt φ S a w D F Y N).mono ?_
           rintro e w' ⟨v,X,bw,bx,s1,rfl,⟨ap,v3,bj,bq,b4,cv⟩,Q,T,W⟩;refine⟨v,X,bw,bx,s1,rfl,?_,Q,T,W⟩
           have E:=e7.bind (gd:=none) (dst:=o.dst) (nf:=nf) bq c3 b4 (λg av=>by
            obtain⟨t,b⟩:=g;have h0:=h.aL _ av;simp only[cY]at h0⊢
            grind) cv (.inl rfl) (by rw[n]at y;exact y) ad
           exact bS _ _ _ _ _ _ _ bj E
         grind
       . rename_i x args i;split at aa
         . rename_i f caps ar n au;obtain⟨env',σ2,m,bE,j,c1,c2,c3,c4,⟨q,p,l,z,an,ao,J,L,am⟩,ab,C⟩:=Fj (kk:=kk) (P:=P) I (f:=f) (cal:=λe vs=>∃q p l z,x.get e=some (q,.c (.fn f l))/\q/\ix e args=some (p,z)/\p/\vs=z++l.map λb=>V.c (.ptr b 0))
            (λhe av u=>by
             split at u
             . rename_i aq l aw aK af;split at u
               rename_i aj;have:=dh aj;subst this;cases u;obtain⟨q,v1,a1,a2,a3⟩:=cE he av aK;have:=a2.G7;subst this;obtain⟨p,j,b1,b2,A⟩:=uV he av af;refine⟨j++l.map λb=>V.c (.ptr b 0),b2.append ?_,q,p,l,j,a1,a3 rfl,b1,A rfl,rfl⟩;exact bc.map_map (bc.self (λb=>.c (.ptr b 0)) _);cases u
             grind) h.hM h.av h.fg (λs hs=>hs) aa
           refine⟨m,bE,c1,.inr ⟨by rw[n];rfl,f,j,.inr ⟨x,args,q,p,l,z,i,an,ao,J,L,ab,am⟩,?_⟩⟩;intro aB nt φ S a w D F Y N;refine(C aB nt φ S a w D F Y N).mono ?_
           rintro e w' ⟨v,X,bw,bx,s1,rfl,⟨ap,v3,bj,bq,b4,cv⟩,Q,T,W⟩;refine⟨v,X,bw,bx,s1,rfl,?_,Q,T,W⟩
           have E:=e7.bind (gd:=none) (dst:=o.dst) (nf:=nf) bq c3 b4 (λg av=>by
            obtain⟨t,b⟩:=g;have h0:=h.aL _ av;simp only[cY]at h0⊢
            grind) cv (.inl rfl) (by rw[n]at y;exact y) ad
           exact bS _ _ _ _ _ _ _ bj E
         contradiction;cases aa
       . rename_i op ak al;exfalso;refine d ?_;split
         rename_i f args i;exact absurd i (ak f args);rename_i x args i;exact absurd i (al x args);exact aa
theorem aeH{l:I (Nat×aO)}{p:b8 U×bm U}(h:Cq l env σ=some p):∃l,kX l env σ=some p:=by
 grind[Cq]
theorem acU{p:b8 U×bm U}(h:HU gl o env σ=some p):∃l,kX l env σ=some p:=by
 grind[HU,aeH]
theorem acj{fo:gu U}(c:gv P fo)(h:e7 key gl nf env σ env1 σ1 G){k:eY->ky->b8 U->bm U->ai R}{r:R}(aa:FD fo none o key gl nf env σ k=some r)
 (bS:∀b d env' σ' a bE f,k b d env' σ'=some r->e7 (key+16) b d env' σ' a bE f->K a bE):
 ∃gf e,Conv kk key env1 σ1 key gf e/\yS P o key gf e K:=by
 simp[FD]at aa;split at aa;exact NV c h aa bS
 . rename_i p ar;obtain⟨l,ak⟩:=acU ar;obtain⟨aK,s1,c1,c2,c3,c4⟩:=xa ak h.hM h.fg
   obtain⟨i,j,d1,d2⟩:=NV c ⟨c2,c4 h.av,c3,λg av=>by
    have h0:=h.aL _ av
    grind[cY,Fj.Uf]⟩ aa bS
   exact⟨i,j,c1.trans d1,d2⟩
end
end
section
open Go
variable {xb:bb}
variable {U:c0}{R:Type}
def ku(env:b8 U):aV->ai bb
 |.const (.c (.t _))=>some []
 |.const (.c .bX)=>some []
 |.const (.agg _)=>some []
 |.const _=>none
 |.tmp k=>match ba env k with
  |some (.c (.ptr b _))=>some [b]
  |some (.c (.c9 b _ _ _))=>some [b]
  |some (.c (.arr b))=>some [b]
  |some (.c (.sub b _ _))=>some [b]
  |some (.c (.pre b _))=>some [b]
  |some (.c (.hT b _ _))=>some [b]
  |some (.c (.mp b))=>some [b]
  |some (.c (.eV b))=>some [b]
  |some (.c (.cQ b))=>some [b]
  |some (.c .dead)=>none
  |some _=>some []
  |none=>none
def Br:bB U->J
 |.dead=>true
 |_=>false
def Bs:bU U->ai bb
 |.c x=>match Br x with
  |true=>none
  |false=>some x.gV
 |.agg cs=>match cs.any Br with
  |true=>none
  |false=>some (cs.flatMap bB.gV)
 |.bd _=>some []
def s3(env:b8 U):I aV->ai bb
 |[]=>some []
 |.const v::r=>match s3 env r with
  |some l=>some (v.gV++l)
  |none=>none
 |.tmp k::r=>match ba env k with
  |some v=>match Bs v,s3 env r with
   |some a,some l=>some (a++l)
   |_,_=>none
  |none=>none
def JK(xb:bb)(o:db)(env:b8 U)(key:Nat):ai bb:=
 match o with
 |.alloc _|.allocA _|.box _|.bslice .. |.mslice .. |.mkset=>some [key]
 |.allocS .. =>some [key,key+1]
 |.lkset x _=>ku env x
 |.upset x _=>ku env x
 |.appendB _ _ x _=>match ku env x with
  |some a=>some (key::a)
  |none=>none
 |.ustr _ x _=>ku env x
 |.call _ args=>match s3 env args with
  |some l=>some ((List.range 16).map (key+·)++(l++xb))
  |none=>none
 |.load _ _ x=>ku env x
 |.b2s x=>ku env x
 |.store _ x _=>ku env x
 |.append _ _ _ x y=>match ku env x,ku env y with
  |some a,some b=>some (key::(a++b))
  |_,_=>none
 |_=>some []
def kv(xb:bb)(o:db)(env:b8 U)(key b:Nat):ai J:=
 match o with
 |.alloc _|.allocA _|.box _|.bslice .. |.mslice .. |.mkset=>some (Nat.beq b key)
 |.allocS .. =>some (Nat.beq b key||Nat.beq b (key+1))
 |.upset x _=>match ku env x with
  |some l=>some (mG l b)
  |none=>none
 |.appendB _ _ x _=>match ku env x with
  |some l=>some (Nat.beq b key||mG l b)
  |none=>none
 |.ustr _ x _=>match ku env x with
  |some l=>some (mG l b)
  |none=>none
 |.store _ x _=>match ku env x with
  |some l=>some (mG l b)
  |none=>none
 |.append _ _ _ x _=>match ku env x with
  |some l=>some (Nat.beq b key||mG l b)
  |none=>none
 |.call _ args=>match s3 env args with
  |some l=>some ((Nat.ble key b&&Nat.ble (b+1) (key+16))||mG (l++xb) b)
  |none=>none
 |_=>some false
def Co(xb:bb)(bg:I cl)(env:b8 U)(N:Nat):I (Nat×Nat)->J
 |[]=>true
 |(i,j)::r=>(match rr bg i,rr bg j with
  |some x,some y=>match JK xb y.op env (N+16*j)with
   |some l=>l.all λb=>match kv xb x.op env (N+16*i) b with
    |some w=>!w
    |none=>false
   |none=>false
  |_,_=>true)&&Co xb bg env N r
variable{o:db}{gl:eY}{Q:Exit->Env->bh->Nat->Prop}
section
variable {P:Program}{kk N key:Nat}{σ:bm U}{σ1:bh}{env:b8 U}{env1:Env}{G:Nat->J}
theorem sC(he:df N σ G env env1){x:aV}{l:bb}(h:ku env x=some l):eH env1 x=l:=by
 unfold ku at h;split at h;cases h;rfl;cases h;rfl;cases h;rfl;grind
 . rename_i k;split at h
   all_goals (try (cases h;done))
   rename_i b o d;obtain⟨v1,h1,a⟩:=he k _ d;have:=a.hQ;grind[eH,aV.get];rename_i b t i o d;obtain⟨v1,h1,a⟩:=he k _ d;have:=a.jB;grind[eH,aV.get];rename_i b d;obtain⟨v1,h1,a⟩:=he k _ d;obtain⟨sz,n,rfl,_⟩:=a.hZ;grind[eH,aV.get]
   . rename_i b f len d;obtain⟨v1,h1,a⟩:=he k _ d;have:v1= .c (.gK b 1 f len):=by cases a with|c h=>cases h;rfl
     grind[eH,aV.get]
   . rename_i b e d;obtain⟨v1,h1,a⟩:=he k _ d;have:∃sz,v1= .c (.arr b sz 0 e):=by cases a with|c h=>cases h;simp
     grind[eH,aV.get]
   . rename_i b f e d;obtain⟨v1,h1,a⟩:=he k _ d;have:∃sz,v1= .c (.gK b sz f e):=by cases a with|c h=>cases h;simp
     grind[eH,aV.get]
   rename_i b d;obtain⟨v1,h1,a⟩:=he k _ d;have:=a.C6;grind[eH,aV.get];rename_i b d;obtain⟨v1,h1,a⟩:=he k _ d;have:=a.WJ;grind[eH,aV.get];rename_i b d;obtain⟨v1,h1,a⟩:=he k _ d;obtain⟨n,rfl,_⟩:=a.yN;grind[eH,aV.get]
   . rename_i v dF j m fz u g q r s p d;cases h;obtain⟨v1,h1,a⟩:=he k _ d;unfold eH;simp only[aV.get,h1,mM];cases a with
     |c a=>
      cases a<;>grind
     |agg a=>rfl
     |bd=>rfl
theorem xv{l:bb}{b:Nat}:mG l b=l.contains b:=by
 unfold mG;rw[Bool.eq_iff_iff];simp
theorem OM{x:bB U}{d:C}(h:cy N σ x d)(a:Br x=false):d.gV=x.gV:=by
 cases h<;>first|rfl|(simp[Br]at a)
theorem NW:∀{xs:I (bB U)} {a:I C},bc (cy N σ) xs a->xs.any Br=false->a.flatMap C.gV=xs.flatMap bB.gV
 |[],[],_,_=>rfl
 |x::xs,d::a,.cons h1 c,b=>by
  simp only[List.any_cons,xT]at b;simp;rw[OM h1 b.1,NW c b.2]
theorem ack{v:bU U}{v1:V}{l:bb}(h:cb N σ v v1)(ak:Bs v=some l):v1.gV=l:=by
 cases h with
 |c h=>
  simp[Bs]at ak;split at ak;grind;rename_i a;cases ak;exact OM h a
 |agg h=>
  simp[Bs]at ak;split at ak;grind;rename_i a;cases ak;exact NW h a
 |bd=>simp only[Bs,eo]at ak;rw[<-ak];rfl
theorem E4(he:df N σ G env env1):∀{args:I aV} {l:bb},s3 env args=some l->lD env1 args=l
 |[],l,h=>by simp[s3]at h;subst h;rfl
 |.const v::r,l,h=>by
  simp[s3]at h;split at h;rename_i d b;cases h;have ih:=E4 he b;simp[lD]at ih⊢;rw[ih];rfl;grind
 |.tmp k::r,l,h=>by
  simp only[s3]at h;split at h
  . rename_i v c;split at h
    rename_i a d f b;have ih:=E4 he b;obtain⟨v1,h1,e⟩:=he k v c;grind[lD,aV.get,ack];grind
  grind
theorem acV(he:df N σ G env env1){l:bb}(h:JK xb o env key=some l):eL xb o env1 key=l:=by
 cases o<;>simp[JK,eL]at h⊢<;>first|exact h|exact sC he h|skip
 grind[sC];grind[sC];grind[E4]
theorem beq_eq(a b:Nat):(a==b)=Nat.beq a b:=by
 grind[dh,iG]
theorem acW(he:df N σ G env env1){b:Nat}{w:J}(h:kv xb o env key b=some w):cX xb o env1 key b=w:=by
 cases o with
 |alloc cs=>simp[kv]at h;rw[<-h];exact beq_eq _ _
 |allocA cs=>simp[kv]at h;rw[<-h];exact beq_eq _ _
 |box x=>simp[kv]at h;rw[<-h];simp only[cX];exact beq_eq _ _
 |bslice a c d e=>simp only[kv,eo]at h;rw[<-h];simp only[cX];exact beq_eq _ _
 |mslice a c d e=>simp only[kv,eo]at h;rw[<-h];simp only[cX];exact beq_eq _ _
 |store n x y=>
  simp only[kv]at h;split at h;rename_i l ak;cases h;simp only[cX];rw[sC he ak,xv];cases h
 |append te sz by' x y=>
  simp only[kv]at h;split at h;rename_i l ak;cases h;simp only[cX];rw[sC he ak,xv,beq_eq];cases h
 |mkset=>grind[kv,cX,beq_eq]
 |allocS e e8=>grind[kv,cX,beq_eq]
 |upset x y=>
  simp only[kv]at h;split at h;rename_i l ak;cases h;simp only[cX];rw[sC he ak,xv];cases h
 |ustr e x y=>
  grind[kv,cX,sC,xv]
 |appendB e by' x y=>
  grind[kv,cX,sC,xv,beq_eq]
 |call f args=>
  simp only[kv]at h;split at h
  . rename_i l ak;cases h;simp only[cX];rw[E4 he ak,xv]
    congr 1;rw[Bool.eq_iff_iff];simp only[dr,gP,Nat.ble_eq];rfl
  grind
 |_=>simp only[kv,eo]at h;rw[<-h];rfl
theorem Jp(he:df N σ G env env1){bg:I cl}{a:Nat}:∀{fq:I (Nat×Nat)},Co xb bg env a fq->k6 xb bg env1 a fq=true
 |[],_=>rfl
 |(i,j)::r,h=>by
  simp[Co]at h;simp[k6];refine⟨?_,Jp he h.2⟩;grind[Fp,acV,acW]
theorem DZ{fo:gu U}(d:gv P fo){k:eY->b8 U->bm U->ai R}{r:R}:∀{l:I cl} {key:Nat} {gl:eY} {nf:ky} {env:b8 U} {σ:bm U} {env1:Env} {σ1:bh} {G:Nat->J} {K:Env->bh->Prop},
 e7 key gl nf env σ env1 σ1 G->oY fo none l key gl nf env σ k=some r->
 (∀b e env' σ' a bE c,k b env' σ'=some r->e7 (key+16*l.length) b e env' σ' a bE c->K a bE)->og P kk l key env1 σ1 K
 |[],key,gl,nf,env,σ,env1,σ1,G,K,h,aa,bS=>bS _ _ _ _ _ _ _ aa h
 |o::l,key,gl,nf,env,σ,env1,σ1,G,K,h,aa,bS=>by
  refine acj d h aa λb e env' σ' a bE c h1 i=>?_;refine DZ d i h1 λp m g n rm s f j q=>bS _ m g n _ _ f j ?_;grind
theorem I9{fo:gu U}(d:gv P fo){k:eY->b8 U->bm U->ai R}{r:R}:∀{l:I cl} {key:Nat} {gl:eY} {nf:ky} {env:b8 U} {σ:bm U} {env1:Env} {σ1:bh} {G:Nat->J} {K:Env->bh->Prop},
 e7 key gl nf env σ env1 σ1 G->oY fo (some xb) l key gl nf env σ k=some r->
 (∀a e env' σ' c bE b,k a env' σ'=some r->e7 (key+16*l.length) a e env' σ' c bE b->K c bE)->yT xb P l key env1 σ1 K
 |[],key,gl,nf,env,σ,env1,σ1,G,K,h,aa,bS=>bS _ _ _ _ _ _ _ aa h
 |o::l,key,gl,nf,env,σ,env1,σ1,G,K,h,aa,bS=>by
  simp[oY]at aa;obtain⟨g,v1,bE,a,e,env',σ',b,h1,j,m⟩:=OL d h (by simpa[FD]using aa);refine⟨g,v1,bE,h1,I9 d m j λs p i q rm t f n bu=>bS _ p i q _ _ f n ?_⟩;grind
theorem JV:∀{env:b8 U} {k:Nat} {v:bU U},ba (clean gl env) k=some v->ba env k=some v/\C3 gl k=false
 |[],k,v,h=>by grind[clean,ba]
 |(i,w)::r,k,v,h=>by
  simp[clean]at h;split at h;obtain⟨h1,b⟩:=JV h;grind[ba,dh]
  . simp[ba]at h⊢;cases a:Nat.beq i k with
    |true=>simp_all
    |false=>rw[a]at h;exact JV h
theorem aeI{k:Nat}(h:C3 gl k=false):ba gl k=none:=by
 induction gl with
 |nil=>rfl
 |cons e r ih=>
  grind[C3,ba]
theorem e7.clean{nf:ky}(h:e7 key gl nf env σ env1 σ1 G):df key σ (λ_=>true) (uO gl env) env1:=by
 intro k v a;have:ba env k=some v/\G k:=by
  unfold uO at a;split at a;exact⟨a,h.av.free k rfl⟩;obtain⟨h1,c⟩:=JV a;exact⟨h1,h.av.free k (aeI c)⟩
 obtain⟨v1,h1,c⟩:=h.hM k v this.1;grind
theorem e7.begin(he:df key σ (λ_=>true) env env1)(aH:cH key σ σ1):e7 key [] [] env σ env1 σ1 (λ_=>true):=
 ⟨he,⟨λ_ _=>rfl,λk t b h=>by grind[ba]⟩,aH,λ_ h=>by grind⟩
end
structure jq where
 e:Exit
 sh:Shape
 own:List (Pos×aO)
 us:List aO
def eM(U:c0):I jq->Type
 |[]=>Empty
 |[a]=>a8 U.D a.us
 |a::b::r=>a8 U.D a.us ⊕ eM U (b::r)
structure hX (U:c0) where
 sh:Shape
 own:List (Pos×aO)
 ts:List aO
 outs:List jq
 F:a8 U.D ts->Option (eM U outs)
def CZ:Exit->Exit->J
 |.normal,.normal=>true
 |.ret,.ret=>true
 |.exit i,.exit j=>Nat.beq i j
 |_,_=>false
theorem Oa{a b:Exit}(h:CZ a b):a=b:=by
 cases a<;>cases b<;>simp[CZ]at h<;>try rfl
 grind
abbrev vX(U:c0)(R:Type):=Exit->b8 U->bm U->Nat->ai R
def gG:(outs:I jq)->eM U outs->Exit×b8 U×bm U×Nat
 |[],o=>Empty.elim o
 |[a],h=>(a.e,(gq U a.sh (a8.cells U.D a.us h)).1,(gq U a.sh (a8.cells U.D a.us h)).2,a.sh.st.length)
 |a::b::r,.inl h=>(a.e,(gq U a.sh (a8.cells U.D a.us h)).1,(gq U a.sh (a8.cells U.D a.us h)).2,a.sh.st.length)
 |a::b::r,.inr o=>gG (b::r) o
def alD{α c:Type}(o:α ⊕ c)(f:α->ai R)(g:c->ai R):ai R:=
 match o with
 |.inl a=>f a
 |.inr b=>g b
def al1(k:vX U R)(a:jq):(r:I jq)->(eM U r->ai R)->eM U (a::r)->ai R
 |[],_=>λh=>k a.e (gq U a.sh (a8.cells U.D a.us h)).1 (gq U a.sh (a8.cells U.D a.us h)).2 a.sh.st.length
 |_::_,f=>λo=>alD o (λh=>k a.e (gq U a.sh (a8.cells U.D a.us h)).1 (gq U a.sh (a8.cells U.D a.us h)).2 a.sh.st.length) f
def JE(k:vX U R):(outs:I jq)->eM U outs->ai R
 |[]=>λo=>Empty.elim o
 |a::r=>al1 k a r (JE k r)
theorem Q9(k:vX U R):∀{outs:I jq} {o:eM U outs},JE k outs o=k (gG outs o).1 (gG outs o).2.1 (gG outs o).2.2.1 (gG outs o).2.2.2
 |[],o=>Empty.elim o
 |[a],h=>rfl
 |a::b::r,.inl h=>rfl
 |a::b::r,.inr o=>Q9 k (outs:=b::r)
def pd(kk:Nat):(outs:I jq)->Exit->b8 U->bm U->Nat->ai (eM U outs)
 |[],_,_,_,_=>none
 |[a],e,env,σ,N=>match CZ e a.e with
  |true=>n9 kk a.own a.sh a.us env σ N
  |false=>none
 |a::b::r,e,env,σ,N=>match CZ e a.e with
  |true=>match n9 (U:=U) kk a.own a.sh a.us env σ N with
   |some h=>some (.inl h)
   |none=>none
  |false=>match pd kk (b::r) e env σ N with
   |some o=>some (.inr o)
   |none=>none
abbrev lz(U:c0):=Nat->ai (hX U)
def hq:dY->Nat
 |.seq a b=>hq a+hq b
 |.cond _ a b=>hq a+hq b
 |.block _ b=>hq b
 |.loop b=>hq b+1
 |_=>0
def akI(x:J)(a b:ai R):ai R:=if x then a else b
def bB.inner:gS->J
 |.ptr .. |.arr _=>true
 |_=>false
def agN:dZ->J
 |.box cs=>cs.any bB.inner
 |_=>false
def Uj(fo:gu U)(σ:bm U)(ops:I cl):bb:=
 match ops.any λo=>match o.op with
  |.call f _=>(fo f).any λs=>s.st.any agN
  |_=>false with
 |true=>σ.map Prod.fst
 |false=>[]
def La(ops:I cl)(fq:I (Nat×Nat)):ai (I cl×cl):=
 match FC ops.length fq,ops.getLast? with
 |true,some o=>match o.op,o.guard with
  |.call ..,none=>some (ops.dropLast,o)
  |.iO ..,none=>some (ops.dropLast,o)
  |_,_=>none
 |_,_=>none
theorem acm{ops:I cl}{fq:I (Nat×Nat)}{init:I cl}{last:cl}(h:La ops fq=some (init,last)):ops=init++[last]/\FC (init.length+1) fq:=by
 unfold La at h;split at h;grind[List.getLast?_eq_some_iff];grind
def agd(t:Nat)(o:cl):J:=match o.op with
 |.build _ ps=>ps.any λp=>match p.2.2 with
  |.tmp k=>Nat.beq k t
  |_=>false
 |_=>false
def zb(t:aO)(ops:I cl)(env:b8 U)(σ:bm U):I cl->I (Nat×aO)
 |[]=>[]
 |o::r=>match o.op,o.dst with
  |.mov (.tmp s),some d=>match ba env s with
   |some (.c (.arr b))=>match ops.any (agd d),ys b t env σ with
    |true,some _=>(b,t)::zb t ops env σ r
    |_,_=>zb t ops env σ r
   |_=>zb t ops env σ r
  |_,_=>zb t ops env σ r
def akD(ops:I cl)(env:b8 U)(σ:bm U):I (Nat×aO):=match U.cC with
 |none=>[]
 |some t=>zb t ops env σ ops
def kW(fo:gu U)(d:lz U)(kk:Nat):dY->Nat->b8 U->bm U->Nat->vX U R->ai R
 |.skip,_,env,σ,N,k=>k .normal env σ N
 |.ret,_,env,σ,N,k=>k .ret env σ N
 |.exit i,_,env,σ,N,k=>k (.exit i) env σ N
 |.region ops,_,env,σ,N,k=>oY fo none ops N [] [] env σ λgl env σ=>F' (uO gl env) σ (N+16*ops.length) λenv σ N=>k .normal env σ N
 |.pf ops fq,_,env,σ,N,k=>match La ops fq with
  |some (init,last)=>oY fo (some []) init N [] [] env σ λgl env σ=>match Co [] init env N fq with
   |true=>oY fo none [last] (N+16*init.length) gl [] env σ λgl env σ=>k .normal (uO gl env) σ (N+16*init.length+16)
   |false=>none
  |none=>match kX (akD ops env σ) env σ with
   |some (env,σ)=>oY fo (some (Uj fo σ ops)) ops N [] [] env σ λgl env' σ'=>match Co (Uj fo σ ops) ops env' N fq with
    |true=>F' (uO gl env') σ' (N+16*ops.length) λenv σ N=>k .normal env σ N
    |false=>none
   |none=>none
 |.seq a b,pos,env,σ,N,k=>kW fo d kk a pos env σ N λe env σ N=>match e with
  |.normal=>kW fo d kk b (pos+hq a) env σ N k
  |e=>k e env σ N
 |.cond c a b,pos,env,σ,N,k=>match dH [] none env c with
  |some (.c (.t ⟨.bool,x⟩))=>akI x (kW fo d kk a pos env σ N k) (kW fo d kk b (pos+hq a) env σ N k)
  |_=>none
 |.block id b,pos,env,σ,N,k=>kW fo d kk b pos env σ N λe env σ N=>match e with
  |.exit i=>match Nat.beq i id with
   |true=>k .normal env σ N
   |false=>k (.exit i) env σ N
  |e=>k e env σ N
 |.loop b,pos,env,σ,N,k=>match d pos with
  |none=>none
  |some L=>match n9 kk L.own L.sh L.ts env σ N with
   |none=>none
   |some h=>(L.F h)>>=λo=>JE k L.outs o
section
variable {P:Program}{nt kk N:Nat}{env:b8 U}{σ:bm U}{env1:Env}{σ1:bh}
def vK(kk:Nat)(Q:Exit->Env->bh->Nat->Prop):Prop:=∀e N env σ N' env' σ',Conv kk N env σ N' env' σ'->Q e env' σ' N'->Q e env σ N
def m'(P:Program)(nt kk:Nat)(b:dY)(sh:Shape)(ts:I aO)(outs:I jq)(h:a8 U.D ts)(o:eM U outs):Prop:=
 ∀env1 σ1,df sh.st.length (gq U sh (a8.cells U.D ts h)).2 (λ_=>true) (gq U sh (a8.cells U.D ts h)).1 env1->cH sh.st.length (gq U sh (a8.cells U.D ts h)).2 σ1->kk<=sh.st.length->
  ∀Q,vK kk Q->(∀a bE,df (gG outs o).2.2.2 (gG outs o).2.2.1 (λ_=>true) (gG outs o).2.1 a->cH (gG outs o).2.2.2 (gG outs o).2.2.1 bE->kk<=(gG outs o).2.2.2->Q (gG outs o).1 a bE (gG outs o).2.2.2)->
   mX P nt kk b env1 σ1 sh.st.length Q
def vR(P:Program)(nt kk:Nat)(a:dY)(L:hX U):Prop:=
 ∀h o,L.F h=some o->m' P nt kk a L.sh L.ts L.outs h o
def hi(P:Program)(nt kk:Nat)(c:lz U):Nat->dY->Prop
 |pos,.seq a b=>hi P nt kk c pos a/\hi P nt kk c (pos+hq a) b
 |pos,.cond _ a b=>hi P nt kk c pos a/\hi P nt kk c (pos+hq a) b
 |pos,.block _ b=>hi P nt kk c pos b
 |pos,.loop b=>(∀L,c pos=some L->vR P nt kk b L)
 |_,_=>True
theorem vK.andThen{next:Env->bh->Nat->Prop}(h:vK kk Q)(aL:∀N env σ N' env' σ',Conv kk N env σ N' env' σ'->next env' σ' N'->next env σ N):vK kk (andThen next Q):=by
 intro e N env σ N' env' σ' a c;cases e with
 |normal=>exact aL _ _ _ _ _ _ a c
 |_=>exact h _ _ _ _ _ _ _ a c
theorem rv{fo:gu U}(s:gv P fo){E:lz U}:∀{c:dY} {pos:Nat} {env:b8 U} {σ:bm U} {N:Nat} {k:vX U R} {r:R} {env1:Env} {σ1:bh} {Q:Exit->Env->bh->Nat->Prop},
 hi P nt kk E pos c->kW fo E kk c pos env σ N k=some r->df N σ (λ_=>true) env env1->cH N σ σ1->kk<=N->vK kk Q->
 (∀e env' σ' N' q bE,k e env' σ' N'=some r->df N' σ' (λ_=>true) env' q->cH N' σ' bE->kk<=N'->Q e q bE N')->cJ P nt kk c env1 σ1 N Q
 |.skip,pos,env,σ,N,k,r,env1,σ1,Q,ak,aa,he,aH,m,j,d=>cJ.skip (d _ _ _ _ _ _ aa he aH m)
 |.ret,pos,env,σ,N,k,r,env1,σ1,Q,ak,aa,he,aH,m,j,d=>cJ.ret (d _ _ _ _ _ _ aa he aH m)
 |.exit i,pos,env,σ,N,k,r,env1,σ1,Q,ak,aa,he,aH,m,j,d=>cJ.exit (d _ _ _ _ _ _ aa he aH m)
 |.region ops,pos,env,σ,N,k,r,env1,σ1,Q,ak,aa,he,aH,m,j,d=>
  cJ.ale (DZ s (e7.begin he aH) aa λC F env' σ' q bE A h1 f=>by
   obtain⟨B,H,I,rm,G,g1,g2,g3,g4,J⟩:=NQ h1 f.clean f.fg (show kk<=_ by omega)
   exact j _ _ _ _ _ _ _ g2 (d _ _ _ _ _ _ g1 g3 g4 (by omega)))
 |.pf ops fq,pos,env,σ,N,k,r,env1,σ1,Q,ak,aa,he,aH,m,j,d=>by
  simp only[kW]at aa;split at aa
  . rename_i init last T;obtain⟨rfl,V⟩:=acm T;refine cJ.alf V (I9 s (e7.begin he aH) aa λC F env' σ' q bE A h1 f=>?_);split at h1
    rename_i n;refine⟨Jp f.hM n,DZ s (l:=[last]) (nf:=[]) ⟨f.hM,f.av,f.fg,λg av=>by grind⟩ h1 λab ad B H rm G X u v=>d _ _ _ _ _ _ u v.clean v.fg (by omega)⟩;grind
  . split at aa
    . rename_i gf af O;obtain⟨Y,ae,M,he,aH,_⟩:=xa (kk:=kk) (gl:=[]) O he aH;refine cJ.conv M (cJ.pf (I9 s (e7.begin he aH) aa λC F env' σ' q bE A h1 f=>?_));split at h1
      rename_i n;obtain⟨B,H,I,rm,G,g1,g2,g3,g4,J⟩:=NQ h1 f.clean f.fg (show kk<=_ by omega);exact⟨Jp f.hM n,j _ _ _ _ _ _ _ g2 (d _ _ _ _ _ _ g1 g3 g4 (by omega))⟩;grind
    cases aa
 |.seq a b,pos,env,σ,N,k,r,env1,σ1,Q,ak,aa,he,aH,m,j,d=>by
  refine cJ.seq (rv s ak.1 aa he aH m (j.andThen λN env σ N' env' σ' n h=>cJ.conv n h) λe env' σ' N' q bE h1 f u v=>?_);cases e with
  |normal=>exact rv s ak.2 h1 f u v j d
  |_=>exact d _ _ _ _ _ _ h1 f u v
 |.cond c a b,pos,env,σ,N,k,r,env1,σ1,Q,ak,aa,he,aH,m,j,d=>by
  simp only[kW]at aa;split at aa
  . rename_i x n;have av:hI [] env (λ_=>true):=⟨λ_ _=>rfl,λk t b h=>by grind[ba]⟩
    obtain⟨p,v1,a1,a2,a3⟩:=cE he av n;have:=a2.jO;subst this;refine cJ.cond a1 (a3 rfl) (λw=>?_) (λw=>?_);subst w;exact rv s ak.1 aa he aH m j d;subst w;exact rv s ak.2 aa he aH m j d
  grind
 |.block id b,pos,env,σ,N,k,r,env1,σ1,Q,ak,aa,he,aH,m,j,d=>by
  refine cJ.block (rv s ak aa he aH m ?_ λe env' σ' N' q bE h1 f u v=>?_)
  . intro e N env σ N' env' σ' n y;cases e with
    |exit i=>
     simp only[inBlock]at y⊢;split at y;rename_i z;rw[ag z];exact j _ _ _ _ _ _ _ n y;rename_i z;rw[aq z];exact j _ _ _ _ _ _ _ n y
    |_=>exact j _ _ _ _ _ _ _ n y
  . cases e with
    |exit i=>
     simp only[inBlock];simp only at h1;split at h1;rename_i w;rw[ag (dh w)];grind;rename_i w;rw[aq (iG w)];grind
    |_=>exact d _ _ _ _ _ _ h1 f u v
 |.loop b,pos,env,σ,N,k,r,env1,σ1,Q,ak,aa,he,aH,m,j,d=>by
  simp only[kW]at aa;split at aa;grind
  . rename_i L K;split at aa
    grind;rename_i h S;obtain⟨o,W,D⟩:=lp.1 aa;rw[Q9]at D;obtain⟨q,bE,c1,c2,c3,c4⟩:=w2 S he aH m;exact cJ.conv c1 (cJ.akT (ak L K h o W q bE c2 c3 c4 Q j λZ ah h1 f u=>d _ _ _ _ _ _ D h1 f u))
theorem m'.Wm {fo:gu U}(H:gv P fo){E:lz U}{g:dY}{sh:Shape}{own:I (Pos×aO)}{ts:I aO}{outs:I jq}{h:a8 U.D ts}{o:eM U outs}{x:a8 U.D ts->ai (eM U outs)}
 (L:hi P nt kk E 0 g)(F:∀h o,x h=some o->m' P nt kk g sh ts outs h o)
 (aa:kW fo E kk g 0 (gq U sh (a8.cells U.D ts h)).1 (gq U sh (a8.cells U.D ts h)).2 sh.st.length (λe env σ N=>match e with
  |.normal=>match n9 kk own sh ts env σ N with
   |some q=>x q
   |none=>none
  |e=>pd kk outs e env σ N)=some o):m' P nt kk g sh ts outs h o:=by
 intro env1 σ1 he aH c Q t K;refine mX.round (rv H L aa he aH c (t.andThen λN env σ N' env' σ' G h=>mX.conv G h) λe env' σ' N' p bE h1 y A B=>?_);have f:∀j,j=e->j≠.normal->pd kk _ j env' σ' N'=some o->Q e p bE N':=by
  intro j O R ar;obtain⟨aK,s1,c1,c2,c3,c4,c5⟩:=HO ar y A B;exact t _ _ _ _ _ _ _ c1 (by grind)
 cases e with
 |normal=>
  simp at h1;split at h1;rename_i q w;obtain⟨aK,s1,c1,c2,c3,c4⟩:=w2 w y A B;exact mX.conv c1 (F q o h1 aK s1 c2 c3 c4 Q t K);grind
 |exit i=>exact f _ rfl (by simp) h1
 |ret=>exact f _ rfl (by simp) h1
 |goto l=>exact f _ rfl (by simp) h1
 |panic lF=>exact f _ rfl (by simp) h1
 |outgrown=>exact f _ rfl (by simp) h1
where
 HO {N:Nat} {env:b8 U} {σ:bm U} {env1:Env} {σ1:bh}:∀ {outs:I jq} {e:Exit} {o:eM U outs},pd kk outs e env σ N = some o->df N σ (λ_=>true) env env1->cH N σ σ1->kk<=N->
  ∃p bE,Conv kk N env1 σ1 (gG outs o).2.2.2 p bE/\df (gG outs o).2.2.2 (gG outs o).2.2.1 _ (gG outs o).2.1 p/\cH (gG outs o).2.2.2 (gG outs o).2.2.1 bE/\kk<=(gG outs o).2.2.2/\e=(gG outs o).1
  |[],e,o,h,_,_,_=>by grind[pd]
  |[a],e,o,h,he,aH,c=>by
   simp[pd]at h;split at h;rename_i v;obtain⟨aK,s1,c1,c2,c3,c4⟩:=w2 h he aH c;exact⟨aK,s1,c1,c2,c3,c4,Oa v⟩;grind
  |a::b::r,e,o,h,he,aH,c=>by
   simp only[pd]at h;split at h
   . rename_i v;split at h
     rename_i ad w;cases h;obtain⟨aK,s1,c1,c2,c3,c4⟩:=w2 w he aH c;exact⟨aK,s1,c1,c2,c3,c4,Oa v⟩;grind
   . split at h
     rename_i S M;cases h;obtain⟨aK,s1,c1,c2,c3,c4,c5⟩:=HO M he aH c;exact⟨aK,s1,c1,c2,c3,c4,c5⟩;grind
end
end
open Go
variable {U:c0}{R:Type}
def n3:Nat->I (bU U)->b8 U
 |_,[]=>[]
 |i,v::vs=>(i,v)::n3 (i+1) vs
def KG(env:b8 U)(σ:bm U):jJ->ai (bU U)
 |.tmp t=>ba env t
 |.cell t g k=>match ba env t with
  |some (.c (.ptr b o))=>match ba σ b with
   |some (.box cs)=>su g k cs o
   |_=>none
  |_=>none
def xw(env:b8 U)(σ:bm U):I jJ->ai (I (bU U))
 |[]=>some []
 |r::a=>match KG env σ r,xw env σ a with
  |some v,some vs=>some (v::vs)
  |_,_=>none
def JJ:I (bU U)->bU U
 |[]=>.bd []
 |[v]=>v
 |v::w::vs=>.bd (v::w::vs)
def Cs(kk:Nat)(c:I jJ)(fg:dO)(fa:I dZ)(us:I aO)(env:b8 U)(σ:bm U):ai (a8 U.D us):=
 match xw env σ c with
 |none=>none
 |some vs=>match yf σ kk 0 fa (Ie fg (JJ vs) ([],[])) []with
  |(bs,d)=>match kX d env σ with
   |none=>none
   |some (env',σ')=>match xw env' σ' c with
    |none=>none
    |some e=>match uN bs&&(keeps kk bs&&Nat.beq bs.length fa.length)with
     |false=>none
     |true=>match kj bs fg (JJ e),jz bs σ' 0 fa with
      |some a,some b=>a8.dec U.D us (a++b)
      |_,_=>none
def WX(kk:Nat)(a:I jJ)(fg:dO)(fa:I dZ)(us:I aO):vX U (a8 U.D us)
 |.normal,env,σ,_=>Cs kk a fg fa us env σ
 |.ret,env,σ,_=>Cs kk a fg fa us env σ
 |_,_,_,_=>none
variable{Q:Exit->Env->bh->Nat->Prop}{kk nt f:Nat}{p:bb}
section
variable {P:Program}{nt kk N:Nat}{env:b8 U}{σ:bm U}{env1:Env}{σ1:bh}
def td(kk:Nat)(Q:Exit->Env->bh->Nat->Prop):Exit->Env->bh->Nat->Prop:=
 λe env σ N=>∃N' env' σ',Conv kk N env σ N' env' σ'/\Q e env' σ' N'
theorem td.Uh:vK kk (td kk Q):=
 λe N env σ N' env' σ' h ⟨a,c,j,f,g⟩=>⟨a,c,j,h.trans f,g⟩
variable{c:dY}
theorem cJ.WQ{env:Env}{σ:bh}(h:cJ P nt kk c env σ N (td kk Q)):cJ P nt kk c env σ N Q:=
 λcode t aB φ S a w f R=>wp_mono (h _ t aB φ S a w f R) λe a w ⟨bw,bx,env',σ',N',⟨g,p,x,q,v⟩,R'⟩=>
  let⟨y,o,j⟩:=q aB nt _ bx a w f R';⟨y,o,p,x,g,v,j⟩
theorem abD(he:df N σ (λ_=>true) env env1)(aH:cH N σ σ1){a:jJ}{v:bU U}(h:KG env σ a=some v):∃p v1,uM env1 σ1 a=some (p,v1)/\p/\cb N σ v v1:=by
 cases a with
 |tmp t=>
  obtain⟨v1,h1,c⟩:=he t v h;exact⟨True,v1,by grind[uM],trivial,c⟩
 |cell t g k=>
  simp[KG]at h;split at h
  . rename_i b o i;split at h
    . rename_i cs f;obtain⟨v1,h1,c⟩:=he t _ i;have:=c.hQ;obtain⟨_,y,j,d⟩:=aH b _ f;cases d with
      |box d=>
       obtain⟨v2,bu,e⟩:=wX d h;exact⟨True,v2,by grind[uM],trivial,e⟩
    grind
  grind
theorem M8(he:df N σ (λ_=>true) env env1)(aH:cH N σ σ1):∀{b:I jJ} {vs:I (bU U)},xw env σ b=some vs->∃p a,qo env1 σ1 b=some (p,a)/\p/\bc (cb N σ) vs a
 |[],vs,h=>by simp[xw]at h;subst h;exact⟨_,[],rfl,trivial,.nil⟩
 |r::e,vs,h=>by
  simp[xw]at h;split at h;rename_i v f h1 d;cases h;obtain⟨p,v1,a1,a2,a3⟩:=abD he aH h1;obtain⟨q,a,b1,b2,c⟩:=M8 he aH d;exact⟨p/\q,v1::a,by grind[qo],⟨a2,b2⟩,.cons a3 c⟩;grind
theorem ab3{vs:I (bU U)}{c:I V}(h:bc (cb N σ) vs c):cb N σ (JJ vs) (mP c):=by
 cases h with
 |nil=>exact .bd [] [] rfl (by simp)
 |cons h1 a=>
  cases a with
  |nil=>exact h1
  |cons a b=>
   refine .bd _ _ (by simp[b.length]) λi x d aa g=>?_;obtain⟨e,aK,f⟩:=(bc.cons h1 (.cons a b)).get aa;grind
def GH(s:cT U)(r:a8 U.D s.us):V->bh->Nat->Prop:=λa bE N'=>N'=s.fa.length/\cb N' (s.rest r) (s.res r) a/\cH N' (s.rest r) bE
theorem ab4{e:I jJ}{s:cT U}{r:a8 U.D s.us}(h:Cs kk e s.fg s.fa s.us env σ=some r)(he:df N σ (λ_=>true) env env1)(aH:cH N σ σ1):
 ∃i bE,Conv kk N env1 σ1 N i bE/\∃p d,qo i bE e=some (p,d)/\p/\
  ∃bs c σ2,bs.Nodup/\keeps kk bs/\hA ((mP d).cc bs) c/\tg (gB bs bE 0 bs) σ2/\GH s r c σ2 bs.length:=by
 unfold Cs at h;split at h;grind
 . split at h;rename_i bs x _;split at h
   grind
   . rename_i env' σ' q;obtain⟨aK,s1,c1,c2,c3,_⟩:=xa (kk:=kk) (gl:=[]) q he aH;split at h
     grind
     . rename_i A u;split at h
       grind
       . rename_i j;simp only[dr]at j;obtain⟨m,n,o⟩:=j;have ck:=A8 m;have t:=dh o;split at h
         rename_i a b l k;obtain⟨p,d,d1,d2,d3⟩:=M8 c2 c3 u;obtain⟨y,f,g⟩:=GO ck (Bp ck k) l;obtain⟨c,g1,g2⟩:=g _ (ab3 d3);obtain⟨v,t1,t2⟩:=EC ck c3 k;have z:=a8.nh h;have aK:s.res r=y:=(by grind[cT.res]);have w:s.rest r=h9 0 s.fa b:=(by grind[cT.rest]);exact⟨_,_,c1,p,d,d1,d2,bs,c,v,ck,n,g1,t1,t,by grind,by grind⟩;grind
def vO(P:Program)(s:cT U)(h:a8 U.D s.ts)(r:a8 U.D s.us):Prop:=
 ∀(a:I V) σ1,bc (cb s.st.length (s.jg h)) (s.args h) a->cH s.st.length (s.jg h) σ1->eG P s.f a σ1 s.st.length (GH s r)
theorem ij.of{s:cT U}(h:∀h r,s.F h=some r->vO P s h r):ij P s:=h
theorem vO.HL {s:cT U}{fn:Func}{c:dY}{g:I jJ}{fo:gu U}{y:lz U}(W:P.funcs[s.f]?=some fn)(O:fn.body.bind (resolve P fn.ntmps)=some c)(al:iP P fn.results.toList=some g)(aL:Nat.ble s.gm.length fn.ntmps)
 (X:gv P fo)(ak:hi P fn.ntmps s.st.length y 0 c)
 {h:a8 U.D s.ts}{r:a8 U.D s.us}(aa:F6 s.st.length (s.jg h) (λσ N=>kW fo y s.st.length c 0 (n3 0 (s.args h)) σ N (WX s.st.length g s.fg s.fa s.us))=some r):vO P s h r:=by
 intro o σ1 M aH;have Z:o.length<=fn.ntmps:=by
  rw[<-M.length];refine hF (vf ?_) (iH aL);exact VY
 have Q:df s.st.length (s.jg h) (λ_=>true) (n3 0 (s.args h)) (gf 0 o):=by
  intro k v ax;have key:∀{xs:I _} {j:I V} {i:Nat},bc (cb s.st.length (s.jg h)) xs j->ba (n3 i xs) k=some v->∃v1,look (gf i j) k=some (true,v1)/\cb s.st.length (s.jg h) v v1:=by
   intro xs;induction xs with
   |nil=>grind[n3,ba]
   |cons x xs ih=>
    intro j i an w;cases an with
    |cons h1 t=>
     simp[n3,ba]at w;simp[gf,look];split at w;simp_all;simp_all[aq,iG]
  grind
 obtain⟨aB,Nm,aD,aa,G,S,L,Y⟩:=ab0 aa Q aH;refine eG.tidy (eG.mk W O al rfl Z (cJ.conv G (cJ.WQ (rv X ak aa S L Y td.Uh λe env' σ' N' H bE h1 t K ap=>?_)))) (λA s1 F ad=>ad)
 . have q:Cs s.st.length g s.fg s.fa s.us env' σ'=some r->(e= .normal\/e= .ret)->td s.st.length (Gz g λA s1 F=>∃bs B σ2,bs.Nodup/\keeps s.st.length bs/\hA (A.cc bs) B/\tg (gB bs s1 0 bs) σ2/\GH s r B σ2 bs.length) e H bE N':=by
    intro am R;obtain⟨aK,s1,c1,p,E,d1,d2,rest⟩:=ab4 am t K;refine⟨N',aK,s1,c1,?_⟩;rcases R with rfl|rfl;exact⟨p,E,d1,d2,rest⟩;exact⟨p,E,d1,d2,rest⟩
   cases e with
   |normal=>exact q h1 (.inl rfl)
   |ret=>exact q h1 (.inr rfl)
   |_=>cases h1
where
 VY:∀{ss:I dO} {a:fh U},(kL ss a).1.length=ss.length
  |[],a=>rfl
  |s::ss,a=>by
   simp[kL];have:=VY (ss:=ss) (a:=(mF s a).2);grind
def iJ:dY->Nat->ai dY
 |.seq a b,q=>match Nat.ble (hq a) q with
  |true=>iJ b (q-hq a)
  |false=>iJ a q
 |.cond _ a b,q=>match Nat.ble (hq a) q with
  |true=>iJ b (q-hq a)
  |false=>iJ a q
 |.block _ b,q=>iJ b q
 |.loop b,q=>match q with
  |0=>some b
  |q+1=>iJ b q
 |_,_=>none
theorem hi.of{g:lz U}:∀{c:dY} {pos:Nat},(∀q b L,iJ c q=some b->g (pos+q)=some L->vR P nt kk b L)->hi P nt kk g pos c
 |.seq a b,pos,h=>by
  refine⟨hi.of λq e L h1 f=>h q e L ?_ f,hi.of λq e L h1 f=>h (hq a+q) e L ?_ (by grind)⟩
  . simp[iJ];cases o:Nat.ble _ q with
    |true=>exact absurd (sL h1) (by simp_all)
    |false=>grind
  simp[iJ];have:Nat.ble (hq a) (hq a+q):=(by simp);grind
 |.cond c a b,pos,h=>by
  refine⟨hi.of λq e L h1 f=>h q e L ?_ f,hi.of λq e L h1 f=>h (hq a+q) e L ?_ (by grind)⟩
  . simp only[iJ];cases o:Nat.ble (hq a) q with
    |true=>exact absurd (sL h1) (by simp_all)
    |false=>grind
  simp only[iJ];have:Nat.ble (hq a) (hq a+q):=(by simp);grind
 |.block id b,pos,h=>hi.of (c:=b) h
 |.loop b,pos,h=>λL j=>h 0 b L rfl j
 |.skip,pos,h=>trivial
 |.region _,pos,h=>trivial
 |.pf _ _,pos,h=>trivial
 |.exit _,pos,h=>trivial
 |.ret,pos,h=>trivial
where
 sL:∀{c:dY} {q:Nat} {b:dY},iJ c q=some b->q<hq c
  |.seq a b,q,e,h=>by
   simp[iJ]at h;simp[hq];split at h;have:=sL h;grind;have:=sL h;omega
  |.cond _ a b,q,e,h=>by
   simp only[iJ]at h;simp only[hq];split at h;have:=sL h;grind;have:=sL h;omega
  |.block _ b,q,e,h=>sL (c:=b) h
  |.loop b,0,e,h=>by simp[hq]
  |.loop b,q+1,e,h=>by have:=sL (c:=b) h;grind[hq]
  |.skip,q,e,h=>by grind[iJ]
  |.region _,q,e,h=>by grind[iJ]
  |.pf _ _,q,e,h=>by grind[iJ]
  |.exit _,q,e,h=>by grind[iJ]
  |.ret,q,e,h=>by grind[iJ]
theorem hi.Wi{a:lz U}(h:∀q L,a q=some L->vR P nt kk ((iJ c q).getD .skip) L):hi P nt kk a 0 c:=
 hi.of λq b L h1 e=>by grind
theorem hi.none:hi P nt kk (λ_=>none:lz U) 0 c:=hi.Wi λq L h=>by grind
theorem gv.none:gv P (λ_=>[]:gu U):=λf s h=>by grind
end
open Go
def K6(P:Program)(fn:Func):dY:=
 match fn.body.bind (Shv.resolve P fn.ntmps)with
 |some c=>c
 |none=>.skip
def xD(c:dY)(q:Nat):dY:=(iJ c q).getD .skip
def hN{U:c0}:I (cT U)->gu U
 |[],_=>[]
 |s::l,f=>match Nat.beq s.f f with
  |true=>s::hN l f
  |false=>hN l f
def ln{U:c0}(l:I (Nat×hX U)):lz U:=λq=>ba l q
theorem gv.nil{U:c0}{P:Program}:gv P (hN ([]:I (cT U))):=λf s h=>by grind[hN]
theorem gv.cons{U:c0}{P:Program}{s:cT U}{l:I (cT U)}(c:h5 P s.f)(hs:ij P s)(h:gv P (hN l)):gv P (hN (s::l)):=by
 intro f t ht;simp[hN]at ht;split at ht
 . rename_i a;have:=dh a;rcases fk.1 ht with rfl|ht
   grind;exact h f t ht
 exact h f t ht
def jN{U:c0}(P:Program)(nt kk:Nat)(c:dY)(l:I (Nat×hX U)):Prop:=∀q L,ba l q=some L->vR P nt kk (xD c q) L
theorem jN.nil{U:c0}{P:Program}{nt kk:Nat}{c:dY}:jN P nt kk c ([]:I (Nat×hX U)):=λq L h=>by grind[ba]
theorem jN.cons{U:c0}{P:Program}{nt kk:Nat}{c:dY}{q:Nat}{L:hX U}{l:I (Nat×hX U)}(f:vR P nt kk (xD c q) L)(h:jN P nt kk c l):jN P nt kk c ((q,L)::l):=by
 intro e L' a;simp[ba]at a;split at a;simp_all;exact h e L' a
theorem jN.snd{U:c0}{P:Program}{c:dY}{l:I (Nat×hX U)}(h:jN P nt kk c l):hi P nt kk (ln l) 0 c:=hi.Wi λq L a=>h q L a
def aQ(k:IntKind)(a b:Int):Int:=k.wrap (a+b)
def dG(k:IntKind)(a b:Int):Int:=k.wrap (a-b)
def gi(k:IntKind)(a b:Int):Int:=k.wrap (a*b)
def fR(k:IntKind)(a b:Int):Int:=k.wrap (a.tdiv b)
def cn(a b:Int):Int:=a.tmod b
def CE(k:IntKind)(a b:Int):Int:=k.wrap (BitVec.ofInt k.bits a &&& BitVec.ofInt k.bits b).toNat
def sS(k:IntKind)(a b:Int):Int:=k.wrap (BitVec.ofInt k.bits a ||| BitVec.ofInt k.bits b).toNat
def vF(k:IntKind)(a b:Int):Int:=k.wrap (BitVec.ofInt k.bits a ^^^ BitVec.ofInt k.bits b).toNat
def n1(k:IntKind)(a b:Int):Int:=k.wrap (a*2^min b.toNat k.bits)
def lZ(k:IntKind)(a b:Int):Int:=a.fdiv (2^min b.toNat k.bits)
open Go
variable {U:c0}
structure hh where
 q:Nat
 sh:Shape
 own:List (Pos×aO)
 Dy:List (Pos×aO)
 ts:List aO
 outs:List jq
 sub:List hh
structure eQ where
 f:Nat
 gm:List dO
 st:List dZ
 ts:List aO
 fg:dO
 fa:List dZ
 us:List aO
 sub:List hh
def hh.l(e:hh)(F:a8 U.D e.ts->ai (eM U e.outs)):hX U:=⟨e.sh,e.own,e.ts,e.outs,F⟩
def eQ.s(e:eQ)(F:a8 U.D e.ts->ai (a8 U.D e.us)):cT U:=⟨e.f,e.gm,e.st,e.ts,e.fg,e.fa,e.us,F⟩
def codeF(P:Program)(f:Nat):dY:=match P.funcs[f]? with
 |some fn=>K6 P fn
 |none=>.skip
def zm(P:Program)(f:Nat):Nat:=match P.funcs[f]? with
 |some fn=>fn.ntmps
 |none=>0
def Uc(P:Program)(f:Nat):I jJ:=match P.funcs[f]? with
 |some fn=>(match iP P fn.results.toList with
  |some r=>r
  |none=>[])
 |none=>[]
def vn(P:Program)(e:eQ):J:=match P.funcs[e.f]? with
 |some fn=>h5 P e.f&&((fn.body.bind (resolve P fn.ntmps)).isSome&&((iP P fn.results.toList).isSome&&Nat.ble e.gm.length fn.ntmps))
 |none=>false
def je(P:Program)(e:eQ):Prop:=vn P e=true
theorem je.m{P:Program}{e:eQ}(h:vn P e):je P e:=h
def sv(fo:gu U)(d:lz U)(kk:Nat)(b:dY)(e:hh)(a:a8 U.D e.ts->ai (eM U e.outs))(h:a8 U.D e.ts):ai (eM U e.outs):=
 kW fo d kk b 0 (gq U e.sh (a8.cells U.D e.ts h)).1 (gq U e.sh (a8.cells U.D e.ts h)).2 e.sh.st.length (λx env σ N=>match x with
  |.normal=>match n9 kk e.Dy e.sh e.ts env σ N with
   |some c=>a c
   |none=>none
  |x=>pd kk e.outs x env σ N)
def q9(fo:gu U)(a:lz U)(P:Program)(e:eQ)(h:a8 U.D e.ts):ai (a8 U.D e.us):=
 F6 e.st.length (h9 0 e.st (kL e.gm (a8.cells U.D e.ts h)).2) λσ N=>kW fo a e.st.length (codeF P e.f) 0 (n3 0 (kL e.gm (a8.cells U.D e.ts h)).1) σ N (WX e.st.length (Uc P e.f) e.fg e.fa e.us)
variable{e:eQ}
section
variable {P:Program}
variable{fo:gu U}
theorem ON(f:gv P fo){c:lz U}{b:dY}{e:hh}{h:a8 U.D e.ts}{o:eM U e.outs}{a:a8 U.D e.ts->ai (eM U e.outs)}
 (g:hi P nt kk c 0 b)(d:∀h o,a h=some o->m' P nt kk b e.sh e.ts e.outs h o)(aa:sv fo c kk b e a h=some o):m' P nt kk b e.sh e.ts e.outs h o:=by
 refine m'.Wm (own:=e.Dy) f g d (Eq.trans ?_ aa);grind[sv]
theorem Ob{i:lz U}(b:je P e)(F:a8 U.D e.ts->ai (a8 U.D e.us))(n:gv P fo)(a:hi P (zm P e.f) e.st.length i 0 (codeF P e.f))
 {h:a8 U.D e.ts}{r:a8 U.D e.us}(aa:q9 fo i P e h=some r):vO P (e.s F) h r:=by
 unfold je vn at b;unfold codeF at a;unfold zm at a;unfold q9 codeF Uc at aa;split at b;rename_i fn d;simp[d]at a aa;simp only[dr]at b;obtain⟨p,k,bu,l⟩:=b;obtain⟨c,m⟩:=zD.1 k;obtain⟨o,g⟩:=zD.1 bu;have j:K6 P fn=c:=(by grind[K6]);rw[j]at a aa;simp[g]at aa;exact vO.HL d m g l n a aa;grind
theorem je.b{e:eQ}(a:je P e):h5 P e.f:=by
 grind[je,vn]
def y8(fo:gu U)(kk:Nat):Nat->dY->(e:hh)->a8 U.D e.ts->ai (eM U e.outs)
 |0,_,_,_=>none
 |n+1,b,e,h=>sv fo (ln (e.sub.map λs=>(s.q,s.l (y8 fo kk n (xD b s.q) s)))) kk b e (y8 fo kk n b e) h
def yn(g:(e:eQ)->a8 U.D e.ts->ai (a8 U.D e.us))(r:I (cT U)):I eQ->gu U
 |[],f=>hN r f
 |e::T,f=>match Nat.beq e.f f with
  |true=>e.s (g e)::yn g r T f
  |false=>yn g r T f
def kJ(P:Program)(T:I eQ)(X:I (cT U)):Nat->(e:eQ)->a8 U.D e.ts->ai (a8 U.D e.us)
 |0,_,_=>none
 |n+1,e,h=>q9 (yn (kJ P T X n) X T) (ln (e.sub.map λs=>(s.q,s.l (y8 (yn (kJ P T X n) X T) e.st.length n (xD (codeF P e.f) s.q) s)))) P e h
theorem Hh{b:dY}{g:(s:hh)->a8 U.D s.ts->ai (eM U s.outs)}:∀{l:I hh},(∀s h o,g s h=some o->m' P nt kk (xD b s.q) s.sh s.ts s.outs h o)->jN P nt kk b (l.map λs=>(s.q,s.l (g s)))
 |[],_=>jN.nil
 |s::l,av=>jN.cons (λh o a=>av s h o a) (Hh av)
theorem KH(a:gv P fo):∀(n:Nat) (b:dY) (e:hh) (h:a8 U.D e.ts) (o:eM U e.outs),y8 fo kk n b e h=some o->m' P nt kk b e.sh e.ts e.outs h o
 |0,_,_,_,_,aa=>by grind[y8]
 |n+1,b,e,h,o,aa=>ON a (jN.snd (Hh λs h o c=>KH a n _ s h o c)) (λh o c=>KH a n b e h o c) aa
theorem Q'{g:(e:eQ)->a8 U.D e.ts->ai (a8 U.D e.us)}{r:I (cT U)}(c:gv P (hN r)):∀{T:I eQ},(∀e,e∈T->je P e)->(∀e,e∈T->ij P (e.s (g e)))->gv P (yn g r T)
 |[],_,_=>c
 |e::T,a,av=>by
  intro f t ht;simp[yn]at ht;have ih:=Q' c (λe he=>a e (HC _ he)) (λe he=>av e (HC _ he));split at ht
  . rename_i d;have:=dh d;rcases fk.1 ht with rfl|ht
    exact⟨this,by rw[<-this];exact(a e HH).b,av e HH⟩;exact ih f t ht
  exact ih f t ht
theorem Ra{T:I eQ}(a:∀e,e∈T->je P e){X:I (cT U)}(d:gv P (hN X)):∀(n:Nat) (e:eQ),je P e->ij P (e.s (kJ P T X n e))
 |0,e,_=>λh r b=>by simp[eQ.s,kJ]at b
 |n+1,e,he=>ij.of λh r b=>
  have f:=Q' d a λc g=>Ra a d n c (a c g)
  Ob he _ f (jN.snd (Hh λs h o i=>KH f n _ s h o i)) b
end
open Go
variable {U:c0}{P:Program}
def fS(P:Program)(s:cT U):Prop:=h5 P s.f=true/\ij P s
def qV(P:Program)(f:Nat):bb->dY
 |[]=>codeF P f
 |q::p=>xD (qV P f p) q
def ob(P:Program)(f kk:Nat)(p:bb)(e:hh)(F:a8 U.D e.ts->ai (eM U e.outs)):Prop:=vR P (zm P f) kk (qV P f p) (e.l F)
def jd(P:Program)(l:I (cT U)):Prop:=gv P (hN l)
theorem jd.n:jd P ([]:I (cT U)):=gv.nil
theorem jd.k{s:cT U}{l:I (cT U)}(h:fS P s)(ak:jd P l):jd P (s::l):=gv.cons h.1 h.2 ak
def j8(P:Program)(f kk:Nat)(p:bb)(l:I (Nat×hX U)):Prop:=jN P (zm P f) kk (qV P f p) l
theorem j8.n:j8 P f kk p ([]:I (Nat×hX U)):=jN.nil
theorem j8.k{f kk q:Nat}{p:bb}{e:hh}{F:a8 U.D e.ts->ai (eM U e.outs)}{l:I (Nat×hX U)}(h:ob P f kk (q::p) e F)(ak:j8 P f kk p l):j8 P f kk p ((q,e.l F)::l):=jN.cons h ak
def Cx(P:Program)(U:c0)(e:eQ)(h:a8 U.D e.ts)(r:a8 U.D e.us):Prop:=vO P (e.s λ_=>none) h r
def yG(P:Program)(U:c0)(f kk:Nat)(p:bb)(e:hh)(h:a8 U.D e.ts)(o:eM U e.outs):Prop:=m' P (zm P f) kk (qV P f p) e.sh e.ts e.outs h o
theorem Cx.at(g:je P e){fs:I (cT U)}(c:jd P fs){a:I (Nat×hX U)}(ak:j8 P e.f e.st.length [] a){h:a8 U.D e.ts}{r:a8 U.D e.us}(aa:q9 (hN fs) (ln a) P e h=some r):Cx P U e h r:=
 Ob g _ c (jN.snd ak) aa
theorem yG.at{e:hh}{a:a8 U.D e.ts->ai (eM U e.outs)}(bJ:∀h o,a h=some o->yG P U f kk p e h o){fs:I (cT U)}(g:jd P fs){c:I (Nat×hX U)}(ak:j8 P f kk p c){h:a8 U.D e.ts}{o:eM U e.outs}
 (aa:sv (hN fs) (ln c) kk (qV P f p) e a h=some o):yG P U f kk p e h o:=
 ON g (jN.snd ak) bJ aa
theorem fS.of(a:je P e){F:a8 U.D e.ts->ai (a8 U.D e.us)}(h:∀h r,F h=some r->Cx P U e h r):fS P (e.s F):=⟨a.b,ij.of h⟩
theorem ob.of{e:hh}{F:a8 U.D e.ts->ai (eM U e.outs)}(h:∀h o,F h=some o->yG P U f kk p e h o):ob P f kk p e F:=h
theorem fS.fn(a:je P e){F:a8 U.D e.ts->ai (a8 U.D e.us)}{fs:I (cT U)}(g:jd P fs){c:I (Nat×hX U)}(ak:j8 P e.f e.st.length [] c)(aa:∀h,q9 (hN fs) (ln c) P e h=F h):fS P (e.s F):=
 .of a λh r j=>.at a g ak ((aa h).trans j)
theorem ob.ami{e:hh}{F:a8 U.D e.ts->ai (eM U e.outs)}{fs:I (cT U)}(c:jd P fs){a:I (Nat×hX U)}(ak:j8 P f kk p a)(aa:∀h,sv (hN fs) (ln a) kk (qV P f p) e (λ_=>none) h=F h):ob P f kk p e F:=
 .of λh o g=>.at (λ_ _ h=>by grind) c ak ((aa h).trans g)
theorem fS.rc(c:je P e){F:a8 U.D e.ts->ai (a8 U.D e.us)}{b:(a8 U.D e.ts->ai (a8 U.D e.us))->a8 U.D e.ts->ai (a8 U.D e.us)}
 (hg:∀m:a8 U.D e.ts->a8 U.D e.us->Prop,(∀a,(∀h r,a h=some r->m h r)->∀h r,b a h=some r->m h r)->∀h r,F h=some r->m h r)
 {fs:(a8 U.D e.ts->ai (a8 U.D e.us))->I (cT U)}(j:∀a,fS P (e.s a)->jd P (fs a)){g:I (Nat×hX U)}(ak:j8 P e.f e.st.length [] g)(aa:∀a h,q9 (hN (fs a)) (ln g) P e h=b a h):fS P (e.s F):=
 .of c (hg _ λa bJ h r o=>.at c (j a (.of c bJ)) ak ((aa a h).trans o))
theorem ob.rc{e:hh}{F:a8 U.D e.ts->ai (eM U e.outs)}{b:(a8 U.D e.ts->ai (eM U e.outs))->a8 U.D e.ts->ai (eM U e.outs)}
 (hg:∀m:a8 U.D e.ts->eM U e.outs->Prop,(∀a,(∀h r,a h=some r->m h r)->∀h r,b a h=some r->m h r)->∀h r,F h=some r->m h r)
 {fs:I (cT U)}(g:jd P fs){c:I (Nat×hX U)}(ak:j8 P f kk p c)(aa:∀a h,sv (hN fs) (ln c) kk (qV P f p) e a h=b a h):ob P f kk p e F:=
 .of (hg _ λa bJ h o j=>.at bJ g ak ((aa a h).trans j))
theorem fS.bH{F:a8 U.D e.ts->ai (a8 U.D e.us)}{fs:I (cT U)}(c:jd P fs:=by exact .n){a:I (Nat×hX U)}(ak:j8 P e.f e.st.length [] a:=by exact .n)(g:je P e:=by exact .m (by kernel_rfl))
 (aa:∀h,q9 (hN fs) (ln a) P e h=F h:=by intro _;kernel_rfl):fS P (e.s F):= .fn g c ak aa
theorem fS.rx{F:a8 U.D e.ts->ai (a8 U.D e.us)}{b:(a8 U.D e.ts->ai (a8 U.D e.us))->a8 U.D e.ts->ai (a8 U.D e.us)}
 (hg:∀m:a8 U.D e.ts->a8 U.D e.us->Prop,(∀a,(∀h r,a h=some r->m h r)->∀h r,b a h=some r->m h r)->∀h r,F h=some r->m h r)
 {fs:(a8 U.D e.ts->ai (a8 U.D e.us))->I (cT U)}(g:∀a,fS P (e.s a)->jd P (fs a)){c:I (Nat×hX U)}(ak:j8 P e.f e.st.length [] c:=by exact .n)(j:je P e:=by exact .m (by kernel_rfl))
 (aa:∀a h,q9 (hN (fs a)) (ln c) P e h=b a h:=by intro _ _;kernel_rfl):fS P (e.s F):= .rc j hg g ak aa
theorem ob.rx {f kk:Nat}{p:bb}{e:hh}{F:a8 U.D e.ts->ai (eM U e.outs)}{b:(a8 U.D e.ts->ai (eM U e.outs))->a8 U.D e.ts->ai (eM U e.outs)}
 (hg:∀m:a8 U.D e.ts->eM U e.outs->Prop,(∀a,(∀h r,a h=some r->m h r)->∀h r,b a h=some r->m h r)->∀h r,F h=some r->m h r)
 {fs:I (cT U)}(g:jd P fs:=by exact .n){c:I (Nat×hX U)}(ak:j8 P f kk p c:=by exact .n)(aa:∀a h,sv (hN fs) (ln c) kk (qV P f p) e a h=b a h:=by intro _ _;kernel_rfl):ob P f kk p e F:= .rc hg g ak aa
theorem age{T:I eQ}(h:T.all (vn P)):∀e,e∈T->je P e:=λe he=>gF.1 h e he
theorem fS.run{T:I eQ}(dE:T.all (vn P)){X:I (cT U)}(c:jd P X)(a:je P e){F:a8 U.D e.ts->ai (a8 U.D e.us)}(n:Nat)(h:∀h,F h=kJ P T X n e h):fS P (e.s F):=
 ⟨a.b,λx r f=>Ra (age dE) c n e a x r ((h x).symm.trans f)⟩
abbrev ao:aO:= .int .i64
abbrev aN(n:Nat):aO:= .slice (.nm n)
abbrev kr:aO:= .slice .str
abbrev eb:aO:= .slice (.int .i64)
abbrev ad(t:aO):dO:= .c (.hole t)
abbrev aA(b o:Nat):dO:= .c (.ptr b o)
abbrev b'(t:aO):dZ:= .box [.hole t]
def fX:gS->I aO
 |.hole t=>[t]
 |.c9 _ _ _=>[.int .i64]
 |.ep t _=>[t]
 |_=>[]
def bJ{α:Type}(f:α->I aO):I α->I aO
 |[]=>[]
 |a::l=>f a++bJ f l
def V2:dO->I aO
 |.c s=>fX s
 |.agg l=>bJ fX l
 |.row n=>[.nm n]
 |.bd _=>[]
def jX:dO->I aO
 |.bd l=>bJ V2 l
 |v=>V2 v
def dM:dZ->I aO
 |.box l=>bJ fX l
 |.arr t=>[.slice t]
 |.bl n=>[.nm n]
 |.set=>[.slice .str]
 |.buf _=>[.str]
 |.cu _ s=>fX s
 |.gone=>[]
def eI(l:I (Nat×dO))(st:I dZ):I aO:=bJ (λp=>jX p.2) l++bJ dM st
abbrev aW(f:Nat)(gm:I dO)(fg:dO)(sub:I hh:=[])(st:I dZ:=[])(fa:I dZ:=[]):eQ:=⟨f,gm,st,bJ jX gm++bJ dM st,fg,fa,jX fg++bJ dM fa,sub⟩
abbrev bQ(q:Nat)(l:I (Nat×dO))(st:I dZ)(outs:I jq)(sub:I hh:=[])(own:I (Pos×aO):=[])(Dy:I (Pos×aO):=own):hh:=⟨q,⟨l,st⟩,own,Dy,eI l st,outs,sub⟩
abbrev br(e:Exit)(l:I (Nat×dO))(st:I dZ:=[])(own:I (Pos×aO):=[]):jq:=⟨e,⟨l,st⟩,own,eI l st⟩
abbrev en(k:Nat)(t:aO):jq:=⟨.ret,⟨[(k,ad t)],[]⟩,[],[t]⟩
abbrev fF(i:Nat):jq:=⟨.exit i,⟨[],[]⟩,[],[]⟩
section
open Go
variable {U:c0}
def EO(te sz bytes:Nat)(z:I C):dY:=
 .seq (.region [⟨some 2,.mov (.const (.c .bX)),none⟩])
  (.seq (.seq (.region [⟨some 3, .mov (.tmp 0),none⟩,⟨some 4, .eqNil false (.tmp 3),none⟩])
   (.cond (.tmp 4) (.seq (.region [⟨some 2,.mov (.const (.c .bX)),none⟩]) .ret) .skip))
   (.seq (.region [⟨some 5,.bslice sz 0 z [],none⟩,⟨some 6,.mov (.tmp 0),none⟩,⟨some 7,.append te sz bytes (.tmp 5) (.tmp 6),none⟩,⟨some 2,.mov (.tmp 7),none⟩]) .ret))
def vy(bytes n:Nat):J:=(((2*n+192)*bytes<=h4:J)||((n+n/4+512)*bytes<=h4:J))&&(n<=dT:J)
theorem qg{bytes n:Nat}(h:bR bytes n):vy bytes n:=by
 grind[JR,vy]
theorem Rb{bytes n:Nat}(h:vy bytes n):ki n bytes/\n<=dT:=by
 unfold vy at h;simp at h;exact h
def hc{α:Type}(bytes:Nat)(l:I α):ai (I α):=ite (vy bytes l.length) (some l) none
def FF(U:c0)(f:Nat)(t:aO)(bytes:Nat):cT U:=
 ⟨f,[.c (.hole (.slice t))],[],[.slice t],.c (.arr 0),[.arr t],[.slice t],λ(l:I (t.den U.D))=>hc bytes l⟩
variable{es:I (I T)}{f te:Nat}
section
variable {P:Program}
theorem aeJ{fn:Func}{sz bytes:Nat}{z:I C}{p:I T}(g:P.funcs[f]?=some fn)(a:fn.body.bind (Shv.resolve P fn.ntmps)=some (EO te sz bytes z))(j:iP P fn.results.toList=some [.tmp 2])
 (aL:1<=fn.ntmps)(n:toTs z=some p)(m:0<sz)(he:∀e,e∈es->e.length=sz)(l:vy bytes es.length):
 eG P f [.c (.t (.slice es))] [] 0 (λr σ' N'=>N'=1/\r= .c (.arr 0 sz 0 es.length)/\aZ σ' 0=some (.arr sz es)):=by
 have w:=Rb l;refine eG.tidy (Q:=λr σ' N'=>∃b,r= .c (.arr b sz 0 es.length)/\aZ σ' b=some (.arr sz es)) (eG.mk g a j rfl (by grind) ?_) ?_
 . refine cJ.seq (cJ.region ?_);simp only[k2,h2,gU,aU,aV.get,eO,gf,db.cG,cg,andThen];refine .inr ⟨λ_=>trivial,.inl trivial,?_⟩;refine cJ.seq (cJ.seq (cJ.region ?_));simp only[k2,h2,gU,aU,aV.get,mM,eO,db.cG,cg,andThen,look];refine .inr ⟨λ_=>by rfl,.inl trivial,?_⟩;refine .inr ?_;simp only[cw,cg,true_and];intro b q;refine cJ.cond (b:=b) (by simp[aV.get,look,tk]) trivial (λv=>?_) (λu=>?_)
   ·
    have d:es=[]:=(by grind);subst d;refine cJ.seq (cJ.region ?_);simp only[k2,h2,gU,aU,aV.get,mM,eO,db.cG,cg,andThen];refine .inr ⟨λ_=>trivial,.inl trivial,?_⟩;refine cJ.conv (Conv.own (k:=2) rfl m (j2 _)) (cJ.ret ?_);refine⟨_,_,rfl,⟨rfl,trivial⟩,_,rfl,?_⟩;rfl
   . refine cJ.skip ?_;refine cJ.seq (cJ.region ?_);simp only[k2,h2,gU,aU,aV.get,mM,eO,db.cG,cg,andThen,look,kg,n,ay,Nat.reduceEqDiff,cw,reduceCtorEq,l8,dk,List.replicate];refine .inr ⟨λ_=>trivial,.inr trivial,?_⟩;refine .inr ⟨λ_=>by simp,.inl trivial,?_⟩;refine .inr ⟨λ_=>⟨trivial,trivial,trivial,trivial,trivial,by rfl,he,by grind,by grind⟩,.inr trivial,?_⟩;refine .inr ⟨λ_=>by simp,.inl trivial,?_⟩;refine cJ.ret ⟨_,[.c (.arr 80 sz 0 _)],rfl,⟨rfl,trivial⟩,80,by rw[iy];rfl,?_⟩;rfl
 . rintro r σ' N' ⟨b,rfl,hs⟩
   refine⟨[b],_,_,by simp,rfl,?_,λi x aa=>⟨x,aa,?_⟩,rfl,rfl,?_⟩;simp only[V.cc,C.cc,pos,cg];exact .c (eg.refl _)
   . cases x with
     |box cs=>exact .box (bc.self eg.refl _)
     |arr sz es=>exact .arr
     |set ks=>exact .same
     |buf E s=>exact .same
     |cu E c=>exact .cu (eg.refl _)
     |cV sz es i o c=>exact .cV (eg.refl _)
   grind[gB,aZ,cd.cc]
theorem Oc{fn:Func}{sz bytes:Nat}{z:I C}{s:I T}{t:aO}(m:P.funcs[f]?=some fn)(k:fn.body.bind (Shv.resolve P fn.ntmps)=some (EO te sz bytes z))(n:iP P fn.results.toList=some [.tmp 2])
 (aL:Nat.ble 1 fn.ntmps)(q:toTs z=some s)(o:t.sz U=sz):ij P (FF U f t bytes):=by
 intro l r bJ v σ1 i aH;subst o;have a:hc _ l=some r:=bJ;unfold hc at a;split at a
 . cases a;cases i with
   |cons h1 g=>
    cases g;have:=cb.j5 h1;subst this
    refine eG.conv (.cons (.c (eg.refl _)) .nil) (λb x aa=>by grind[aZ]) ((aeJ m k n (iH aL) q aO.yl (λe he=>by
     obtain⟨y,_,rfl⟩:=fl.1 he
     exact aO.tA) (by grind)).mono ?_)
    rintro w s1 u ⟨rfl,rfl,hs⟩;refine⟨rfl,.c (.arr 0 _ _ (by simp) λx aa p ar=>?_),λb x aa=>?_⟩
    . have:x=dc.arr t l:=by
       simp[cT.rest,FF,mF,wo,a8.cells,f'.cells,h9,kl,ba]at aa;grind
      grind[dc.dD]
    . have d:(if b=0 then some (dc.arr t l)else none)=some x:=by
       rw[<-aa];cases b<;>rfl
      split at d;rename_i j;cases d;subst j;exact⟨by simp,_,hs,.arr t l⟩;grind
 grind
def uP{α:Type}(bytes:Nat)(l:I α):ai (I α×I α):=(hc bytes l).map λr=>(l,r)
def K7(U:c0)(f:Nat)(t:aO)(bytes:Nat):cT U:=
 ⟨f,[.c (.arr 0)],[.arr t],[.slice t],.c (.arr 1),[.arr t,.arr t],[.slice t,.slice t],λ(l:I (t.den U.D))=>uP bytes l⟩
theorem acX{fn:Func}{sz bytes:Nat}{z:I C}{u:I T}{a:bh}(l:P.funcs[f]?=some fn)(d:fn.body.bind (Shv.resolve P fn.ntmps)=some (EO te sz bytes z))(m:iP P fn.results.toList=some [.tmp 2])
 (aL:1<=fn.ntmps)(t:toTs z=some u)(q:0<sz)(he:∀e,e∈es->e.length=sz)(n:vy bytes es.length)(h0:aZ a 0=some (.arr sz es)):
 eG P f [.c (.arr 0 sz 0 es.length)] a 1 (λr σ' N'=>N'=2/\r= .c (.arr 1 sz 0 es.length)/\aZ σ' 0=some (.arr sz es)/\aZ σ' 1=some (.arr sz es)):=by
 have D:=Rb n;refine eG.tidy (Q:=λr σ' N'=>∃b,1<=b/\r= .c (.arr b sz 0 es.length)/\aZ σ' 0=some (.arr sz es)/\aZ σ' b=some (.arr sz es)) (eG.mk l d m rfl (by grind) ?_) ?_
 . refine cJ.seq (cJ.region ?_);simp only[k2,h2,gU,aU,aV.get,mM,eO,gf,db.cG,cg,andThen];refine .inr ⟨λ_=>trivial,.inl trivial,?_⟩;refine cJ.seq (cJ.seq (cJ.region ?_));simp only[k2,h2,gU,aU,aV.get,mM,eO,db.cG,cg,andThen,look,kR,pb];refine .inr ⟨λ_=>by rfl,.inl trivial,?_⟩;refine .inr ?_;simp only[Nat.reduceEqDiff,cw,cg,mM,true_and];intro b w;refine cJ.cond (b:=b) (p:=True) (by simp[aV.get,look,tk]) trivial (λB=>?_) (λA=>?_)
   . have j:es=[]:=(by grind);subst j;refine cJ.seq (cJ.region ?_);simp only[k2,h2,gU,aU,aV.get,mM,eO,db.cG,cg,andThen];refine .inr ⟨λ_=>trivial,.inl trivial,?_⟩;refine cJ.conv (Conv.own (k:=2) (g:=true) (sz:=sz) rfl q (by simp)) (cJ.ret ?_);refine⟨_,_,rfl,⟨rfl,trivial⟩,_,by simp,rfl,?_,?_⟩
     simp_all[dk,aq];rw[dk,ag rfl]
   . refine cJ.skip ?_;refine cJ.seq (cJ.region ?_);simp only[k2,h2,gU,aU,aV.get,mM,eO,db.cG,cg,andThen,look,kg,t,ay,Nat.reduceEqDiff,cw,cm,reduceCtorEq,List.replicate];refine .inr ⟨λ_=>trivial,.inr trivial,?_⟩;refine .inr ⟨λ_=>by simp,.inl trivial,?_⟩;have al:∀v,l8 (dA a (1+16*1+16*2) (.arr sz v)) (.c (.arr 0 sz 0 es.length))=some (es,some 0):=by
      grind[l8,dk]
     refine .inr ?_;simp only[kR,pb,iy]at al⊢;rw[al];simp only[ay,dk,cg,eo,Nat.reduceMul,Nat.reduceAdd,cw];refine⟨λ_=>⟨trivial,trivial,trivial,trivial,trivial,by rfl,he,by grind,by grind⟩,.inr trivial,?_⟩;refine .inr ⟨λ_=>by simp,.inl trivial,?_⟩;refine cJ.ret ⟨_,[.c _],rfl,⟨rfl,trivial⟩,81,by simp,rfl,?_,?_⟩
     simp_all[dk,aq,gb];simp_all[dk,ag]
 . rintro r σ' N' ⟨b,y,rfl,F,hs⟩
   refine⟨[0,b],_,_,by grind,rfl,?_,λi x aa=>⟨x,aa,?_⟩,rfl,rfl,?_⟩;simp only[V.cc,C.cc,pos,aq (show ¬0=b by omega),cg];exact .c (eg.refl _)
   . cases x with
     |box cs=>exact .box (bc.self eg.refl _)
     |arr sz es=>exact .arr
     |set ks=>exact .same
     |buf E s=>exact .same
     |cu E c=>exact .cu (eg.refl _)
     |cV sz es i o c=>exact .cV (eg.refl _)
   grind[gB,aZ,cd.cc]
theorem acY{fn:Func}{sz bytes:Nat}{z:I C}{E:I T}{t:aO}(o:P.funcs[f]?=some fn)(k:fn.body.bind (Shv.resolve P fn.ntmps)=some (EO te sz bytes z))(s:iP P fn.results.toList=some [.tmp 2])
 (aL:Nat.ble 1 fn.ntmps)(D:toTs z=some E)(w:t.sz U=sz):ij P (K7 U f t bytes):=by
 intro l r bJ G σ1 i aH;subst w;have a:(hc _ l).map _=some r:=bJ;unfold hc at a;split at a
 . cases a;cases i with
   |cons h1 g=>
    cases g;obtain⟨sz,n,rfl,_,m⟩:=h1.hZ;obtain⟨_,y,A,B⟩:=aH 0 _ rfl;cases B;have:=m _ rfl _ rfl;obtain⟨rfl,rfl⟩:=this;have q:l.length=(l.map (t.enc U)).length:=(by grind);rw[q]
    refine(acX o k s (iH aL) D aO.yl (λe he=>by
     obtain⟨y,_,rfl⟩:=fl.1 he
     exact aO.tA) (by grind) A).mono ?_
    rintro J s1 F ⟨rfl,rfl,u,v⟩
    have d:∀b x,ba ((K7 U f t bytes).rest (l,l)) b=some x->(b=0\/b=1)/\x=dc.arr t l:=by
     intro b x aa;have H:(if b=0 then some (dc.arr t l)else if b=1 then some (dc.arr t l)else none)=some x:=by
      rw[<-aa]
      match b with
      |0=>rfl
      |1=>rfl
      |_+2=>rfl
     grind
    refine⟨rfl,.c (.arr 1 _ _ (by simp) λx aa p ar=>?_),λb x aa=>?_⟩;obtain⟨_,rfl⟩:=d _ _ aa;grind[dc.dD]
    . obtain⟨j,rfl⟩:=d _ _ aa;rcases j with rfl|rfl
      exact⟨by simp,_,u,.arr t l⟩;exact⟨by simp,_,v,.arr t l⟩
 grind
end
end
section
open Go Go.Proofs Go.Proofs.YtkbmjabicjpmjaaGreatDoor Go.Shelf
variable {U:c0}
def FG(U:c0)(f E a:Nat):cT U:=
 ⟨f,[.c (.ptr 0 0)],[.cu E (.cQ 1),.buf a],[.str],.bd [],[.cu E (.cQ 1),.buf a],[.str],λ(s:au)=>some s⟩
section
variable {P:Program}{ρ:Ren}
theorem aeK(L:Lays.n240 P ρ)(X:Builder.X72 P ρ){σ:bh}{y n:Nat}{s:au}(h0:aZ σ 0=some (.cu (ρ.t 72) (.cQ 1 n)))(h1:aZ σ 1=some (.buf y s)):
 eG P (ρ.f 240) [.c (.ptr 0 0)] σ 2 (λr σ' N'=>r= .bd []/\σ'=σ/\N'=2):=by
 intro φ S w B d u i I vs k;cases k with|cons G k=>
 cases k;have D:=G.hQ;subst D;obtain⟨l,⟨p,v,ad,ar,E⟩,q⟩:=d.blk 0 _ h0;have same:∀ w',w' = w->∃ (v:Value) (r:V) (bw:dx) (bx:dy) (σ':bh) (N':Nat),Ending.returned (Value.tuple #[]) = Ending.returned v/\(r = .bd []/\σ' = σ/\N' = 2)/\ch bw w' bx r v/\r.aJ (lt N')/\rf bw w' bx σ'/\(∀ (b:Nat) x,aZ σ' b = some x->b<N'/\x.aJ (lt N'))/\Ext B S bx w w'/\
  (∀(b:Nat) x,aZ σ' b=some x->(bw b).2≠0->B (bw b).1\/w.heap.size<=(bw b).1)/\∀b,b<2->bw b=φ b:=by
  rintro w' rfl;exact⟨_,.bd [],φ,S,σ,2,rfl,⟨rfl,rfl,rfl⟩,.bd [] [] rfl (by simp),rfl,d,u,Ext.refl,λb x aa a=>.inl (i b x aa a),λ_ _=>rfl⟩
 rcases ar with rfl|rfl
 . have g:w.cell? ⟨(φ 0).1,0,none⟩=some (.pointer none):=by rw[jv ad];rfl
   have F:w.shape? (φ 0).1=some (ρ.t 72,2):=(by simp[World.shape?,ad]);have A:w.frozen? ⟨(φ 0).1,0,none⟩=false:=(by simp[World.frozen?,ad]);refine(Any.Builder_copyCheck_fresh L X _ w g F A).mono ?_
   rintro e w' ⟨rfl,rfl⟩;obtain⟨H,o⟩:=Mp ad 0 _;have m:hj w S _ S:=⟨λ_ _ h=>h,λb j h=>rW (o b (λe=>q j (e▸h))) j⟩;refine⟨_,.bd [],φ,S,σ,2,rfl,⟨rfl,rfl,rfl⟩,.bd [] [] rfl (by simp),rfl,⟨λb x aa=>?_,d.inj,λb j h=>?_⟩,u,⟨rfl,rfl,rfl,by simp,λb a dM=>o b (λe=>dM (e▸i 0 _ h0 l)),m,λ_ _ h=>.inl h⟩,λb x aa a=>.inl (i b x aa a),λ_ _=>rfl⟩
   . by_cases a:b=0
     subst a;rw[h0]at aa;cases aa;exact⟨l,⟨_,v,H,.inr rfl,bG.mono m (λ_ _=>rfl) (C.nd _) E⟩,q⟩;exact dj.mono (n:=λ_=>true) m (λ_ _=>rfl) rfl (by cases x<;>simp[cd.aJ,C.nd]) (λz=>o _ (d.inj b 0 x _ aa h0 a z l)) (d.blk b x aa)
   have:=d.st b j h;simpa using this
 . have g:w.cell? ⟨(φ 0).1,0,none⟩=some (.pointer (some ⟨(φ 0).1,0,none⟩)):=by rw[jv (vs:=[_,_]) ad];rfl
   refine(Any.Builder_copyCheck_used L X _ w g).mono ?_
   rintro e w' ⟨rfl,rfl⟩;exact same _ rfl
theorem aeL(L:Lays.n240 P ρ)(X:Builder.X72 P ρ){E a:Nat}(g:ρ.f 240=f)(eI:ρ.t 72=E):ij P (FG U f E a):=by
 subst g;subst eI;intro s r bJ m σ1 b aH;have i:=o' bJ.symm;subst i;cases b with|cons b e=>
 cases e;have:=b.hQ;subst this;have j:ba ((FG U (ρ.f 240) (ρ.t 72) a).jg r) 0=some _:=rfl;have k:ba ((FG U (ρ.f 240) (ρ.t 72) a).jg r) 1=some _:=rfl;obtain⟨_,u,c,b0⟩:=aH 0 _ j;obtain⟨_,v,g1,b1⟩:=aH 1 _ k;cases b1;cases b0 with| @cu _ _ d b0=>
 cases b0 with|cQ _ n o p=>
 refine(aeK L X c g1).mono ?_
 rintro q s1 l ⟨rfl,rfl,rfl⟩;exact⟨rfl,.bd [] [] rfl (by simp),aH⟩
end
end
section
open Go Go.ChangeShapes Go.WideShapes Go.RowKit
variable {U:c0}
def aO.WU:aO->Nat
 |.bool=>1
 |.int k=>k.bits/8
 |.str=>16
 |.slice _=>24
 |.nm _=>0
def K8:I aO->Nat
 |[]=>0
 |t::r=>t.WU+K8 r
def uQ(l:I aO):Nat:=bif l.any λt=>Nat.ble 8 t.WU then(K8 l+7)/8*8 else K8 l
def aO.bytes(U:c0)(t:aO):Nat:=uQ (t.cells U)
inductive WF (U:c0):bZ U.D->Prop
 |bool (b:Bool):WF U ⟨.bool,b⟩
 |int (k:IntKind) (n:Int) (h:(Lit.int k n).wf):WF U ⟨.int k,n⟩
 |str (s:au) (h:s.length<=reachBytes):WF U ⟨.str,s⟩
 |slice (t:aO) (l:List (t.den U.D)) (h:l.length<=reachBytes) (akE:l.length*t.bytes U<=reachBytes) (ak:∀x,x∈l->∀c,c∈t.row U x->WF U c):WF U ⟨.slice t,l⟩
def c0.Total(U:c0):Prop:=∀n (l:I (bZ U.D)),l.map bZ.ty=U.dR n->∃x,U.make n l=some x
def Ey:I aO->I aO->J
 |[],[]=>true
 |a::l,b::m=>aO.beq a b&&Ey l m
 |_,_=>false
theorem Qs:∀{l m:I aO},Ey l m->l=m
 |[],[],_=>rfl
 |a::l,b::m,h=>by
  simp[Ey]at h;rw[aO.beq_eq h.1,Qs h.2]
 |[],_::_,h=>by cases h
 |_::_,[],h=>by cases h
def Bt(P:Program)(g:TypeId->ai (I aO)):I Field->Nat->Nat->ai (I aO)
 |[],off,c=>match Nat.beq off c with
  |true=>some []
  |false=>none
 |f::r,off,c=>match g f.type with
  |none=>none
  |some a=>match Nat.beq f.offset off&&Nat.beq (P.cellsOf f.type) a.length with
   |false=>none
   |true=>match Bt P g r (off+a.length) c with
    |none=>none
    |some b=>some (a++b)
def flat(P:Program)(U:c0)(st:TypeId->ai Nat):Nat->TypeId->ai (I aO)
 |0,_=>none
 |n+1,t=>match P.underlying t with
  |some .bool=>some [.bool]
  |some (.int k)=>some [.int k]
  |some .string=>some [.str]
  |some (.slice e)=>match st e with
   |some m=>match Nat.ble 1 (P.bytesOf e)&&Nat.ble (uQ (U.dR m)) (P.bytesOf e)with
    |true=>some [.slice (.nm m)]
    |false=>none
   |none=>match flat P U st n e with
    |none=>none
    |some a=>match Nat.ble 1 (P.bytesOf e)&&Nat.ble (uQ a) (P.bytesOf e)with
     |false=>none
     |true=>match a with
      |[ty]=>match ty.wz with
       |true=>none
       |false=>some [.slice ty]
      |_=>none
  |some (.struct fs)=>Bt P (flat P U st n) fs.toList 0 (P.cellsOf t)
  |some (.array k e)=>match flat P U st n e with
   |none=>none
   |some a=>match Nat.beq (P.cellsOf t) (k*a.length)&&Nat.beq (P.cellsOf e) a.length with
    |false=>none
    |true=>some (List.replicate k a).flatten
  |_=>none
theorem NY{α:Type}{R:Nat->α->Prop}:∀(n:Nat),(∀i,i<n->∃x,R i x)->∃l:I α,l.length=n/\∀(i:Nat) x,l[i]?=some x->R i x
 |0,_=>⟨[],rfl,by simp⟩
 |n+1,h=>by
  obtain⟨l,ak,b⟩:=NY n λi a=>h i (by omega);obtain⟨x,aa⟩:=h n (by simp);refine⟨l++[x],by grind,λi y al=>?_⟩;grind
variable{v:Value}{t:TypeId}{a:Addr}{dR:I aO}
section
variable {H:Type}{enc:TypeId×Value->H}{P:Program}{w:World}
abbrev Old(w:World):dy:=λb _=>b<w.heap.size
structure Rd (U:c0)(w:World)(dR:List aO)(cs:List Value)(l:List (bZ U.D)):Prop where
 ty:l.map bZ.ty=dR
 wf:∀c,c∈l->WF U c
 rt:bc (λc v=>ca w (Old w) (bZ.enc U c) v) l cs
theorem Bu{t:aO}{x:t.den U.D}(h1:WF U ⟨t,x⟩)(a:ca w (Old w) (bZ.enc U ⟨t,x⟩) v):Rd U w [t] [v] [⟨t,x⟩]:=
 ⟨rfl,by grind,.cons a .nil⟩
theorem Jx:∀{a:I (DataW H)} {d:DataW H},d∈a->∀n∈d.weights P t,n∈DataW.weightsAll P t a
 |d0::a,d,b,n,aL=>by
  simp[DataW.weightsAll];rcases fk.1 b with rfl|b;grind;exact .inr (Jx b n aL)
theorem Od{g:TypeId->ai (I aO)}{cs:I Value}:∀{fs:I Field} {off i:Nat} {dR:I aO},
 (∀f,f∈fs->∀a,g f.type=some a->∃l,Rd U w a ((cs.drop f.offset).take (P.cellsOf f.type)) l)->
 Bt P g fs off i=some dR->cs.length=i->∃l,Rd U w dR (cs.drop off) l
 |[],off,i,dR,_,h,ak=>by
  simp[Bt]at h;split at h;rename_i e;cases h;have:=dh e;refine⟨[],rfl,by simp,?_⟩;rw[fA (by omega)];exact .nil;grind
 |f::r,off,i,dR,av,h,ak=>by
  simp only[Bt]at h;split at h;grind
  . rename_i a n;split at h
    grind
    . rename_i j;simp only[dr]at j;have h1:=dh j.1;have q:=dh j.2;split at h
      grind
      . rename_i b o;cases h;obtain⟨p,k⟩:=av f (by simp) a n;obtain⟨l2,m⟩:=Od (λf s=>av f (by grind)) o ak;refine⟨p++l2,by simp[k.ty,m.ty],?_,?_⟩
        . intro c d;rcases gj.1 d with d|d
          exact k.wf c d;exact m.wf c d
        . have e:cs.drop off=(cs.drop off).take a.length++cs.drop (off+a.length):=by rw[<-vd,Hz]
          rw[e];refine bc.append ?_ m.rt;have:=k.rt;grind
theorem Sa{a:I aO}{cs:I Value}:∀(k off:Nat),(∀i,i<k->∃l,Rd U w a ((cs.drop (off+i*a.length)).take a.length) l)->cs.length=off+k*a.length->
 ∃l,Rd U w (List.replicate k a).flatten (cs.drop off) l
 |0,off,_,ak=>by
  refine⟨[],rfl,by simp,?_⟩;rw[fA (by omega)];exact .nil
 |k+1,off,av,ak=>by
  obtain⟨g,d⟩:=av 0 (by simp);rw[Dq]at d
  obtain⟨l2,f⟩:=Sa (a:=a) (cs:=cs) k (off+a.length) (λi j=>by
   grind) (by grind)
  refine⟨g++l2,by simp[d.ty,f.ty,List.replicate_succ],?_,?_⟩
  . intro c b;rcases gj.1 b with b|b
    exact d.wf c b;exact f.wf c b
  . have e:cs.drop off=(cs.drop off).take a.length++cs.drop (off+a.length):=by rw[<-vd,Hz]
    rw[e];exact bc.append d.rt f.rt
theorem aeM{n:Nat}{cs:I Value}(h:w.cells? 0 a n=some cs):cs.length=n/\∀j,j<n->w.cell? (a.add j)=cs[j]?:=by
 exact⟨by simpa using mapM_some_length h,λj b=>mapM_some_get h j j (by grind)⟩
theorem Oe(h:w.cell? a=some v):a.spot=none/\a.block<w.heap.size:=by
 unfold World.cell? at h;split at h
 . rename_i b;split at h
   grind;refine⟨by simp_all,(zB.1 b).1⟩
 grind
theorem Rc{i j:Nat}(h:a.spot=none):(a.add i).add j=⟨a.block,a.off+i+j,none⟩:=by
 obtain⟨b,o,c⟩:=a;grind[Addr.add]
theorem Wb(a:U.Total){t:aO}{l:I (bZ U.D)}(h:l.map bZ.ty=t.cells U):∃x,t.row U x=l:=by
 have one:∀t,l.map bZ.ty=[t]->∃x:t.den _,l=[⟨t,x⟩]:=by
  intro t h
  match l,h with
  |[⟨b,x⟩],h=>grind
 cases t with
 |nm n=>
  obtain⟨x,aa⟩:=a n l h;exact⟨x,U.mk_eq n l x aa⟩
 |bool=>obtain⟨x,aa⟩:=one _ h;exact⟨x,aa.symm⟩
 |int k=>obtain⟨x,aa⟩:=one _ h;exact⟨x,aa.symm⟩
 |str=>obtain⟨x,aa⟩:=one _ h;exact⟨x,aa.symm⟩
 |slice t=>obtain⟨x,aa⟩:=one _ h;exact⟨x,aa.symm⟩
def tf(P:Program)(U:c0)(st:TypeId->ai Nat):Prop:=∀e m,st e=some m->flat P U st 60 e=some (U.dR m)
def yi:I (TypeId×Nat)->TypeId->ai Nat
 |[],_=>none
 |p::l,t=>match Nat.beq p.1 t with
  |true=>some p.2
  |false=>yi l t
def Bv(P:Program)(U:c0)(st:TypeId->ai Nat)(t:TypeId)(dR:I aO):J:=
 match flat P U st 60 t with
 |some a=>Ey a dR
 |none=>false
theorem IW{st:TypeId->ai Nat}(h:Bv P U st t dR):flat P U st 60 t=some dR:=by
 grind[Bv,Qs]
theorem Qt:∀{l:I (TypeId×Nat)} {t m},yi l t=some m->(t,m)∈l
 |p::l,t,m,h=>by
  simp[yi]at h;split at h;grind[dh];exact .tail _ (Qt h)
theorem ahL{l:I (TypeId×Nat)}(h:(l.all λp=>Bv P U (yi l) p.1 (U.dR p.2))):tf P U (yi l):=by
 intro e m he;rw[gF]at h;exact IW (h _ (Qt he))
theorem acZ{st:TypeId->ai Nat}(g:tf P U st){n:Nat}{e:TypeId}(ht:P.underlying t=some (.slice e))(h:flat P U st (n+1) t=some dR):
 ∃ty a cS,dR=[.slice ty]/\flat P U st cS e=some a/\a=ty.cells U/\1<=P.bytesOf e/\uQ a<=P.bytesOf e:=by
 simp[flat,ht]at h;split at h
 . rename_i m f;split at h
   rename_i b;cases h;simp only[dr]at b;exact⟨.nm m,U.dR m,60,rfl,g e m f,rfl,vi b.1,vi b.2⟩;grind
 . split at h
   grind
   . rename_i a c;split at h
     grind
     . rename_i b;have d:1<=P.bytesOf e/\uQ a<=P.bytesOf e:=(by simp_all);split at h
       . rename_i ty;split at h
         grind
         . rename_i aL;cases h;refine⟨ty,[ty],n,rfl,c,?_,d⟩;cases ty<;>first|rfl|cases aL
       grind
theorem Of(az:U.Total){st:TypeId->ai Nat}(ax:tf P U st):∀(fuel n:Nat) (t:TypeId) (cs:I Value) (x:DataW H×I MemPlace) (dR:I aO),
 DataW.trod enc P w 0 (λ_=>true) true fuel t cs=some x->flat P U st n t=some dR->(∀k,k∈x.1.weights P t->k<=reachBytes)->∃l,Rd U w dR cs l:=by
 intro fuel;induction fuel with
 |zero=>simp_all[DataW.trod]
 |succ m ih=>
  intro n t cs x dR h p Q;cases n with
  |zero=>cases p
  |succ n=>
  have ap:=p;simp only[flat]at p;split at p;rename_i o;cases p;obtain⟨b,rfl,rfl⟩:=DataW.trod_bool o h;exact⟨_,Bu (.bool b) (.bool b)⟩;rename_i k o;cases p;obtain⟨i,rfl,rfl,ay⟩:=DataW.trod_int o h;exact⟨_,Bu (.int k i ay) (.int k i)⟩;rename_i o;cases p;obtain⟨s,rfl,rfl,hs⟩:=DataW.trod_string o h;have h1:s.data.toList.length<=reachBytes:=Q _ (by simp[DataW.weights]);have A:s.data.toList.length=s.size:=Dg;refine⟨_,Bu (.str s.data.toList h1) (.str s ?_)⟩;grind[reachBytes,eT]
  . rename_i e o;obtain⟨ty,a,cS,rfl,F,ab,am,an⟩:=acZ ax o ap;rcases DataW.trod_slice o h with⟨rfl,rfl⟩|⟨g,len,cap,B,rest,al,K,rfl,rfl,_,aB,_,aA,G,_,_⟩
    refine⟨_,Bu (.slice ty [] (j2 _) (by simp) (by simp)) ?_⟩;exact .slice [] none 0 0 0 0 (λ_ _=>default) (by simp) (by simp) (by simp) (by simp) (by simp) (by simp)
    . cases K;have aC:(B.length+rest.length)*P.bytesOf e<=reachBytes:=by
       simp_all[DataW.weights]
      have N:len<=reachBytes:=by
       have h1:B.length+rest.length<=(B.length+rest.length)*P.bytesOf e:=Ht _ am;omega
      have J:len*uQ a<=reachBytes:=by
       have h1:len*uQ a<=(B.length+rest.length)*P.bytesOf e:=Nat.mul_le_mul (by omega) an;omega
      have eI:∀i,i<len->∃M:ty.den U.D,∃z,z.length=P.cellsOf e/\(∀j,j<P.cellsOf e->w.cell? ((g.add (i*P.cellsOf e)).add j)=z[j]?)/\Rd U w a z (ty.row U M):=by
       intro i u;have S:=G i u;have ao:B[i]?=some B[i]:=fm (by omega);rw[ao]at S;cases E:w.cells? 0 (g.add (i*P.cellsOf e)) (P.cellsOf e)with
       |none=>grind
       |some z=>
        rw[E]at S;obtain⟨h1,A⟩:=aeM E
        obtain⟨l,ak⟩:=ih cS e z _ a S F (λk W=>Q k (by
         simp only[DataW.weights,o,fk,gj];right;left
         exact Jx (fl.2 ⟨B[i],zv _,rfl⟩) k W))
        obtain⟨M,aD⟩:=Wb az (t:=ty) (by rw[ak.ty,ab]);grind
      obtain⟨xs,ag,aj⟩:=NY len eI;have Z:len≠0->P.cellsOf e=ty.sz U/\0<P.cellsOf e:=by
       intro L;obtain⟨M,z,h1,_,C⟩:=eI 0 (by omega);have y:=C.rt.length;rw[aO.WG,h1]at y;exact⟨y.symm,by rw[<-y];exact aO.yl⟩
      have Y:len≠0->g.spot=none:=by
       intro L;obtain⟨M,z,h1,A,C⟩:=eI 0 (by omega);have h0:=A 0 (Z L).2;rw[fm (by rw[h1];exact(Z L).2)]at h0;have bu:=(Oe h0).1;simpa[Addr.add]using bu
      have ah:∀x,x∈xs->∃i:Nat,xs[i]?=some x/\i<len:=by
       intro x aa;obtain⟨i,u⟩:=HA.1 aa;grind
      refine⟨_,Bu (t:= .slice ty) (x:=xs) (.slice ty xs (by omega) (by rw[ag];unfold aO.bytes;rw[<-ab];exact J) ?_) ?_⟩;intro x aa c E;obtain⟨i,u,_⟩:=ah x aa;obtain⟨z,_,_,C⟩:=aj i x u;exact C.wf c E
      . have J:(xs.map (ty.enc U)).length=len:=(by simp[ag]);rw[<-J];refine .slice (xs.map (ty.enc U)) (some g) cap (P.cellsOf e) g.block g.off (λi j=>(w.cell? ⟨g.block,g.off+i*P.cellsOf e+j,none⟩).getD default) (by omega) ?_ ?_ ?_ ?_ ?_
        rw[J];unfold reachBytes at N;unfold dT;omega;intro r O;obtain⟨x,aa,rfl⟩:=fl.1 O;obtain⟨i,_,u⟩:=ah x aa;rw[aO.tA];exact(Z (by omega)).1.symm
        . intro L;have ar:len≠0:=by intro h0;apply L;rw[<-List.length_eq_zero_iff];omega
          have:=Y ar;rw[show g=⟨g.block,g.off,g.spot⟩from rfl,this]
        intro i j u V;rw[J]at u;obtain⟨M,z,h1,A,C⟩:=eI i u;have y:=A j V;rw[fm (by omega)]at y;have X:=Y (by omega);have aK:(g.add (i*P.cellsOf e)).add j=⟨g.block,g.off+i*P.cellsOf e+j,none⟩:=Rc X;rw[aK]at y;exact⟨(Oe y).2,by rw[y];rfl⟩
        . intro i j r aE O ae;rw[sP,bL]at O;obtain⟨x,aa,rfl⟩:=O;obtain⟨z,h1,A,C⟩:=aj i x aa;have u:i<len:=by have:=(ev.1 aa).1;omega
          rw[aO.wk,sP,bL]at ae;obtain⟨c,E,rfl⟩:=ae;obtain⟨v,af,aw⟩:=C.rt.get E;have V:j<P.cellsOf e:=by have:=(ev.1 af).1;omega
          have y:=A j V;have X:=Y (by omega);have aK:(g.add (i*P.cellsOf e)).add j=⟨g.block,g.off+i*P.cellsOf e+j,none⟩:=Rc X;rw[aK,af]at y;rw[y];exact aw
  . rename_i fs o;obtain⟨xs,al,K,rfl,ak,N,G⟩:=DataW.trod_struct o h;cases K
    have:=Od (U:=U) (w:=w) (P:=P) (cs:=cs) (fs:=fs.toList) (off:=0) (λf aq a F=>by
     obtain⟨i,u⟩:=HA.1 aq;have T:fs[i]?=some f:=(by simpa using u);have av:=G i f T;have ad:i<xs.length:=by rw[N];exact(zB.1 T).1
     rw[fm ad]at av
     exact ih n f.type _ _ a av F (λk W=>Q k (by
      simp only[DataW.weights,o]
      exact DataW.weights_mem_each (j:=i) (t:=f.type) (d:=xs[i].1) (by simp[T]) (by simp[ad]) k W))) p ak
    simpa using this
  . rename_i k e o;split at p
    cases p
    . rename_i a F;split at p
      cases p
      . rename_i R;cases p;simp only[dr]at R;have h1:=dh R.1;have A:=dh R.2;obtain⟨xs,al,K,rfl,ak,N,G⟩:=DataW.trod_array o h;cases K
        have:=Sa (U:=U) (w:=w) (a:=a) (cs:=cs) k 0 (λi u=>by
         have av:=G i u;rw[fm (by omega)]at av
         obtain⟨l,ak⟩:=ih n e _ _ a av F (λq au=>Q q (by
          simp only[DataW.weights,o]
          exact Jx (fl.2 ⟨xs[i],zv _,rfl⟩) q au))
         rw[A]at ak
         exact⟨l,by rw[iy];exact ak⟩) (by rw[ak,h1,iy])
        simpa using this
  cases p
end
end
section
open Go Go.ChangeShapes Go.WideShapes Go.RowKit
variable {U:c0}
def isAgg(P:Program)(t:TypeId):J:=
 match P.underlying t with
 |some (.struct _)=>true
 |some (.array _ _)=>true
 |_=>false
def nY(P:Program)(U:c0)(st:TypeId->ai Nat):I TypeId->I dO->I aO->J
 |[],[],[]=>true
 |t::ts,.row m::a,.nm b::dR=>(Nat.beq m b&&(isAgg P t&&Bv P U st t (U.dR m)))&&nY P U st ts a dR
 |t::ts,.c (.hole ty)::a,d::dR=>(aO.beq ty d&&(!ty.wz&&(!isAgg P t&&Bv P U st t [ty])))&&nY P U st ts a dR
 |_,_,_=>false
variable{b0 N f:Nat}{t:TypeId}{v:Value}{D:Nat->Type}{ts:I aO}{gm:I dO}
section
variable {H:Type}{enc:TypeId×Value->H}{P:Program}{w:World}{φ:dx}
theorem MA{st:TypeId->ai Nat}:∀{d:I TypeId} {b:I dO} {dR:I aO},nY P U st d b dR->d.length=dR.length
 |[],[],[],_=>rfl
 |[],[],_::_,h=>by cases h
 |[],_::_,_,h=>by cases h
 |_::_,[],_,h=>by cases h
 |_::_,a::_,[],h=>by
  cases a with
  |c x=>cases x<;>cases h
  |_=>cases h
 |t::ts,a::b,ty::dR,h=>by
  have:nY P U st ts b dR:=by
   cases a with
   |row m=>cases ty with
    |nm e=>grind[nY]
    |_=>cases h
   |c x=>cases x with
    |hole ty=>grind[nY]
    |_=>cases h
   |_=>cases h
  simp[MA this]
theorem ac0{r:Reach}(hs:isAgg P t)(h:Value.okWide P w r b0 t v):∃cs,v= .agg cs:=by
 grind[isAgg,Value.okWide]
theorem ac1{r:Reach}(hs:isAgg P t=false)(h:Value.okWide P w r b0 t v):v.cells=#[v]:=by
 unfold isAgg at hs;unfold Value.okWide at h;have a:Cell.okWide P w r b0 t v:=by grind
 cases v with
 |agg cs=>
  simp_all[Cell.okWide,Cell.ok]
 |_=>rfl
theorem OO{S:dy}:∀{l:I (bZ U.D)} {vs:I Value},bc (λc v=>ca w S (bZ.enc U c) v) l vs->bc (bG φ w S) ((l.map bB.t).map bB.pF) vs
 |[],[],.nil=>.nil
 |c::l,v::vs,.cons h1 a=>.cons h1 (OO a)
theorem Og(g:U.Total)(φ:dx){st:TypeId->ai Nat}(A:tf P U st){b0:Nat}:∀(ts:I TypeId) (e:I dO) (dR:I aO) (args:I Value) (f:I (DataW H)) (ps:I MemPlace),
 nY P U st ts e dR=true->(∀(j:Nat) t v,ts[j]?=some t->args[j]?=some v->Value.okWide P w .any b0 t v)->
 DataW.TrodAll enc P w 0 (λ_=>true) true ts args f ps->(∀k,k∈DataW.weightsEach P ts f->k<=reachBytes)->
 ∃(l:fh U) (xs:I (bU U)),l.map bZ.ty=dR/\(∀c,c∈l->∀d,d∈c.ty.row U c.val->WF U d)/\kL e l=(xs,[])/\(∀x,x∈xs->hD x)/\bc (ch φ w (Old w)) (xs.map gD) args
 |[],[],[],args,f,ps,_,_,ht,_=>by
  obtain⟨rfl,rfl,rfl⟩:=trodAll_nil ht;exact⟨[],[],rfl,by simp,rfl,by simp,.nil⟩
 |t::ts,J::e,ty::dR,args,f,ps,ar,C,ht,E=>by
  obtain⟨v,vs,d,K,p,q,rfl,rfl,rfl,⟨fuel,h1⟩,L⟩:=trodAll_cons ht;have D:=C 0 t v rfl rfl;have F:∀k,k∈d.weights P t->k<=reachBytes:=λk N=>E k (by simp_all[DataW.weightsEach,gj]);have rest:=λT=>Og g φ (st:=st) A (b0:=b0) ts e dR vs K q T (λj t v ad ae=>C (j+1) t v (by grind) (by grind)) L
   (λk N=>E k (by simp_all[DataW.weightsEach,gj]))
  unfold nY at ar;split at ar;grind
  . rename_i t0 X m W af Z aK n dB;cases aK;cases n;cases dB;simp only[dr]at ar;obtain⟨⟨u,hs,r⟩,z⟩:=ar;have S:=dh u;obtain⟨l,xs,O,Q,B,R,s⟩:=rest z;obtain⟨cs,rfl⟩:=ac0 hs D;obtain⟨G,a⟩:=Of g A fuel 60 t _ _ _ h1 (IW r) F;obtain⟨x,aa⟩:=Wb g (t:= .nm m) a.ty;refine⟨⟨.nm m,x⟩::l,.agg ((aO.row U (.nm m) x).map .t)::xs,by grind,?_,?_,?_,?_⟩
    . intro c b;rcases fk.1 b with rfl|b
      intro d o;exact a.wf d (aa▸o);grind
    grind[kL,mF];simp_all[fk,hD,bB.sW]
    . refine .cons ?_ s;have:=OO (φ:=φ) a.rt;rw[<-aa]at this;exact ch.agg (vs:=cs.toList) this
  . rename_i t0 X Y W ag Z aK n dB;cases aK;cases n;cases dB;simp only[dr,Dd]at ar;obtain⟨⟨u,aL,hs,r⟩,z⟩:=ar;have S:=aO.beq_eq u;obtain⟨l,xs,O,Q,B,R,s⟩:=rest z;rw[ac1 hs D]at h1;obtain⟨G,a⟩:=Of g A fuel 60 t _ _ _ h1 (IW r) F
    match G,a with
    |[],a=>cases a.ty
    |[⟨i,x⟩],a=>
     have V:i=Y:=by have:=a.ty;grind
     subst V;refine⟨⟨i,x⟩::l,.c (.t ⟨i,x⟩)::xs,by grind,?_,?_,?_,?_⟩
     . intro c b;rcases fk.1 b with rfl|b
       . intro d o;refine a.wf d ?_;cases i<;>first|exact o|cases aL
       grind
     simp only[kL,mF,wo,B]
     . intro y al;rcases fk.1 al with rfl|al
       rfl;grind
     . refine .cons ?_ s;cases a.rt with
       |cons M ab=>exact .c M
    |_::_::_,a=>have:=a.ty;simp at this
  grind
 |[],[],_::_,_,_,_,ar,_,_,_=>by cases ar
 |[],_::_,_,_,_,_,ar,_,_,_=>by cases ar
 |_::_,[],_,_,_,_,ar,_,_,_=>by cases ar
 |t::ts,J::e,[],_,_,_,ar,_,_,_=>by
  cases J with
  |row m=>cases ar
  |c x=>cases x<;>cases ar
  |agg l=>cases ar
  |bd l=>cases ar
theorem a8.Wj:∀(ts:I aO) (l:fh U),l.map bZ.ty=ts->∃h:a8 U.D ts,a8.cells U.D ts h=l
 |[],[],_=>⟨(),rfl⟩
 |[t],[⟨a,x⟩],h=>by
  have:a=t:=by grind
  subst this;exact⟨x,rfl⟩
 |t::u::r,⟨a,x⟩::l,h=>by
  simp at h;obtain⟨h1,c⟩:=h;subst h1;obtain⟨y,al⟩:=a8.Wj (u::r) l (by grind);exact⟨(x,y),by show⟨a,x⟩::a8.cells _ _ y=_;grind⟩
 |[],_::_,h=>by grind
 |_::_,[],h=>by grind
 |[_],_::_::_,h=>by grind
theorem f'.CI:∀{ts:I aO} {t:aO} (h:f' D t ts),f'.dec D t ts (f'.cells D t ts h)=some h
 |[],t,x=>bZ.Ud
 |u::r,t,x=>by
  unfold f'.dec f'.cells;simp[wv,bZ.Ud];rw[f'.CI];rfl
theorem a8.CI:∀{ts:I aO} (h:a8 D ts),a8.dec D ts (a8.cells D ts h)=some h
 |[],_=>rfl
 |_::_,h=>f'.CI h
theorem a8.aiu:∀{ts:I aO} {l:I (bZ D)},l.map bZ.ty=ts->∃h,a8.dec D ts l=some h:=by
 have go:∀(ts:I aO) (l:I _),l.map bZ.ty=ts->∃h:a8 D ts,a8.cells D ts h=l:=by
  intro ts;induction ts with
  |nil=>intro l h;cases l with
   |nil=>exact⟨(),rfl⟩
   |cons=>grind
  |cons t r ih=>
   intro l h;cases l with
   |nil=>grind
   |cons c l=>
    obtain⟨e,x⟩:=c;simp at h;obtain⟨h1,a⟩:=h;subst h1;obtain⟨y,al⟩:=ih l a;cases r with
    |nil=>
     cases l with
     |nil=>exact⟨x,rfl⟩
     |cons=>grind
    |cons u r=>exact⟨(x,y),by show⟨e,x⟩::a8.cells D _ y=_;grind⟩
 intro ts l h;obtain⟨y,al⟩:=go ts l h;grind[a8.CI]
def Ok(U:c0)(ts:I aO)(h:a8 U.D ts):Prop:=∀c,c∈a8.cells U.D ts h->∀d,d∈c.ty.row U c.val->WF U d
theorem agO:cH N ([]:bm U) []:=λb x h=>by cases h
theorem Re{σ:bm U}:∀{xs:I (bU U)},(∀x,x∈xs->hD x)->bc (cb N σ) xs (xs.map gD)
 |[],_=>.nil
 |x::xs,h=>.cons (xt (h x (by simp))).1 (Re λy al=>h y (by grind))
theorem Qu{k:Nat->J}:∀{xs:I (bU U)},(∀x,x∈xs->hD x)->V.aJ.V.d' k (xs.map gD)=true
 |[],_=>rfl
 |x::xs,h=>by
  simp[V.aJ.V.d'];exact⟨(xt (N:=0) (σ:=[]) (h x (by simp))).2 k,Qu λy al=>h y (by grind)⟩
theorem akN{F:a8 U.D ts->ai (a8 U.D [.bool])}(N:U.Total)(hs:ij P ⟨f,gm,[],ts,.c (.hole .bool),[],[.bool],F⟩)
 (M:∀h:a8 U.D ts,Ok U ts h->F h=some true){st:TypeId->ai Nat}(J:tf P U st){g:I TypeId}(ar:nY P U st g gm ts)
 {b0:Nat}{args:Array Value}{i:I (DataW H)}{ps:I MemPlace}(K:∀(j:Nat) t v,g[j]?=some t->args[j]?=some v->Value.okWide P w .any b0 t v)
 (ht:DataW.TrodAll enc P w 0 (λ_=>true) true g args.toList i ps)(L:∀k,k∈DataW.weightsEach P g i->k<=reachBytes):
 Calls P f args w λe w'=>e= .returned (.bool true)/\Below w.heap.size w w':=by
 obtain⟨l,xs,u,z,Q,A,B⟩:=Og N _ J _ gm ts _ i ps ar (λj t v q R=>K j t v q (by grind)) ht L;obtain⟨h,ad⟩:=a8.Wj ts l u;have bJ:=M h (λc m d p=>z c (ad▸m) d p)
 have o:=hs h _ bJ (xs.map gD) [] (by
  show bc _ (kL gm _).1 _;grind[Re]) (by
  exact agO)
 have:=o (λb=>(b,0)) _ w (λ_=>False) {blk:=λb x aa=>(by cases aa),inj:=λb O x y aa=>(by simp),st:=λb j n=>n} (λb x aa=>by cases aa) (λb x aa=>by simp)
  (Qu A) _ B
 refine this.mono λe w' ⟨v,r,bw,bx,σ',N',he,⟨_,C,_⟩,G,_,_,_,a,_⟩=>?_;cases C with
 |c m=>
  cases m with
  |t c=>
   cases G with
   |c E=>
    cases E;exact⟨he,a.os,a.tape,a.output,a.size,λk s=>a.block k s (λh=>h)⟩
theorem ac2{f:Func}{s:ChangeSpec}{n BK m:J}{W e:World}{args:Array Value}{c gs:I (DataW H)}{a:I MemPlace}
 (eh:DataW.Whole enc P f.params.toList s.vars false W args.toList c gs a)(i:Below W.heap.size W e)
 (hres:∀(b:Nat) (d:Nat->J) (o:J),DataW.TrodAll enc P e b d o f.resultTypes.toList (v.resultList f.resultTypes.size) (s.fn H (c++gs)).results [])
 (g:∀d:Nat->J,(∀p∈a,d p.block)->DataW.TrodAll enc P e 0 d true f.params.toList args.toList (s.fn H (c++gs)).args a)
 (l:∀d:Nat->J,(∀p∈a,d p.block)->DataW.TrodVars enc P e d s.vars (s.fn H (c++gs)).vars [])
 (q:∀(j:Nat) (t:TypeId) (r:Value),f.resultTypes[j]?=some t->(v.resultList f.resultTypes.size)[j]?=some r->Value.okWide P e .any 0 t r):
 s.post enc P f false n BK m W args v e:=by
 have aD:=eh.lt;have k:∀p∈a,(λb=>(b<W.heap.size:J)) p.block=true:=λp ar=>by grind
 refine⟨c,gs,a,[],a,[],eh,hres _ _ _,g _ k,l _ k,i.frame _,λ_=>?_⟩;refine⟨q,(s.fn H (c++gs)).results++(s.fn H (c++gs)).args,(s.fn H _).vars,a,⟨a,[],?_,l _ (λ_ _=>rfl),by simp,?_,λh=>by grind⟩,λp ar _=>ar⟩;have:=trodAll_append (g _ (λ_ _=>rfl)) (hres 0 (λ_=>true) _);grind;intro b off ar;obtain⟨_,_,_,_,_,u,_⟩:=eh;rw[World.frozen?_of_block (i.block b (aD _ ar))];exact u b _ ar
theorem akO{fn:Func}{s:ChangeSpec}{F:a8 U.D ts->ai (a8 U.D [.bool])}(ah:U.Total)
 (hs:ij P ⟨f,gm,[],ts,.c (.hole .bool),[],[.bool],F⟩)
 (ag:∀h:a8 U.D ts,Ok U ts h->F h=some true){st:TypeId->ai Nat}(Y:tf P U st)(ar:nY P U st fn.params.toList gm ts)
 {B:TypeId}(hres:fn.resultTypes=#[B])(htb:P.underlying B=some .bool)(u:s.vars=[])
 (N:∀g:I (DataW H),g.length=ts.length->(s.fn H g).results=[.lit (.bool true)]/\(s.fn H g).args=g/\(s.fn H g).vars=[])
 (n:(laidOutB P&&mapsRowed P))(R:fn.params.toList.all (λt=>(t<P.types.size:J)))
 (X:((List.range P.types.size).all λt=>match P.underlying t with|some (.slice e)=>(0<P.cellsOf e:J)|_=>true))
 {W:World}{base:Nat}{args:Array Value}{g gs:I (DataW H)}{E:I MemPlace}{G BK C:J}
 (ab:∀(j:Nat) t v,fn.params[j]?=some t->args[j]?=some v->Value.okWide P W .any base t v)
 (eh:DataW.Whole enc P fn.params.toList s.vars false W args.toList g gs E)
 (O:(DataW.weightsEach P (fn.params.toList++s.plain.varTypes P) (g++gs)).all (· <=reachBytes)):
 Calls P f args W λe m=>∃v,e= .returned v/\s.post enc P fn false G BK C W args v m:=by
 have y:=eh;obtain⟨p,q,w,jX,rfl,al,ck⟩:=eh;rw[u]at jX;obtain⟨rfl,rfl⟩:=trodVars_none jX;have af:s.plain.varTypes P=[]:=by show s.vars.filterMap _=[]<;>simp[u]
 rw[af,nT,nT,gF]at O;have Q:g.length=ts.length:=by
  have h1:∀{i:I TypeId} {vs:I Value} {g:I (DataW H)} {ps:I MemPlace},DataW.TrodAll enc P W 0 (λ_=>true) true i vs g ps->g.length=i.length:=by
   intro i;induction i with
   |nil=>grind[trodAll_nil]
   |cons t r ih=>grind[trodAll_cons]
  grind[MA]
 obtain⟨S,T,V⟩:=N g Q;simp only[dr]at n;have K:=kids_rows n.1 n.2;have Z:=slices_full_of P X;refine(akN ah hs ag Y ar (λj t v am ae=>ab j t v (by grind) ae) w (λk an=>by grind)).mono λe m ⟨he,z⟩=>?_;subst he;refine⟨_,rfl,ac2 y z ?_ ?_ ?_ ?_⟩
 intro b l ak;rw[nT,S,hres];exact trodAll_cons_mk (shut_bool htb _) trodAll_mk0
 . intro l A;rw[nT,T];have aD:=y.lt;have dE:=λt ht=>by simpa using gF.1 R t ht
   have go:∀ {i:I TypeId} {vs:I Value} {g:I (DataW H)} {ps:I MemPlace},(∀ t,t∈i->t<P.types.size)->(∀ p∈ps,p.block<W.heap.size/\l p.block)->
    DataW.TrodAll enc P W 0 (λ_=>true) true i vs g ps->DataW.TrodAll enc P m 0 l true i vs g ps:=by
    intro i;induction i with
    |nil=>intro vs g ps _ _ h;obtain⟨rfl,rfl,rfl⟩:=trodAll_nil h;exact trodAll_mk0
    |cons t r ih=>
     intro vs g ps dE o h;obtain⟨v,ao,d,aj,a,b,rfl,rfl,rfl,⟨L,h1⟩,M⟩:=trodAll_cons h;refine⟨a,b,⟨L,DataW.trod_stays K (λ{t e}=>Z t e) (by intro ad;cases ad) (dE t (by simp)) h1 (λx aa=>z.same (o x (by simp[aa])).1) (λx aa=>(o x (by simp[aa])).2)⟩,ih (λt ht=>dE t (by simp[ht])) (λx aa=>o x (by simp[aa])) M,rfl⟩
   rw[nT];exact go dE (λx aa=>⟨aD x (by simp[aa]),A x (by simp[aa])⟩) w
 intro l A;rw[nT,V,u];rfl;exact ok_one hres rfl (okWide_bool_mk htb _)
end
end
section
open Go
theorem GM{a b:Int}(h1: -9223372036854775808<=a+b)(c:a+b<=9223372036854775807):aQ .i64 a b=a+b:=by grind[aQ,IntKind.wrap_i64]
theorem k4{a b:Int}(h1: -9223372036854775808<=a+b:=by omega)(c:a+b<=9223372036854775807:=by omega):aQ .i64 a b=a+b:=GM h1 c
theorem pD{a b:Int}(h1: -9223372036854775808<=a-b)(c:a-b<=9223372036854775807):dG .i64 a b=a-b:=by grind[dG,IntKind.wrap_i64]
theorem lE{a b:Int}(h1: -9223372036854775808<=a-b:=by omega)(c:a-b<=9223372036854775807:=by omega):dG .i64 a b=a-b:=pD h1 c
theorem Cl{a:Int}(h1: -9223372036854775808<=a)(b:a<=9223372036854775807):b7 .i64 a=a:=by grind[b7,IntKind.wrap_i64]
theorem lv{a:Int}(h1: -9223372036854775808<=a:=by omega)(b:a<=9223372036854775807:=by omega):b7 .i64 a=a:=Cl h1 b
theorem aX{k n:Nat}(h:k<n):aG (k:Int) n:=by grind[aG]
theorem fP{k n:Nat}(h:k<n:=by omega):aG (k:Int) n:=aX h
theorem bo(k:Nat):(k:Int).toNat=k:=fH k
theorem s0{a:Int}(h0:0<=a)(h1:a<18446744073709551616):IntKind.u64.wrap a=a:=by grind[IntKind.wrap_u64]
theorem vE{a:Int}(h0:0<=a:=by omega)(h1:a<18446744073709551616:=by omega):IntKind.u64.wrap a=a:=s0 h0 h1
variable{a:Nat}{α:Type}
theorem ig(h1:a<18446744073709551616:=by omega):b7 .u64 (a:Int)=a:=s0 (by simp) (by omega)
theorem Il:(2:Nat)^64=18446744073709551616:=by rfl
theorem Rf{b:Nat}(c:a<18446744073709551616)(d:b<18446744073709551616):sS .u64 (a:Int) (b:Int)=((a ||| b:Nat):Int):=by
 have e:a ||| b<2^64:=Nat.or_lt_two_pow (by grind) (by grind);show IntKind.u64.wrap (BitVec.ofInt 64 _ ||| BitVec.ofInt 64 _).toNat=_;grind[s0]
theorem RH{n c i:Nat}(h:n<2^i):n ||| (c*2^i)=n+c*2^i:=by rw[Nat.or_comm,Nat.mul_comm,<-Nat.two_pow_add_eq_or_of_lt h,Nat.add_comm]
theorem afc{b:Nat}(a:b<256):CE .u8 (b:Int) 127=((b%128:Nat):Int):=by
 have e:(BitVec.ofInt 8 b &&& BitVec.ofInt 8 (127:Nat)).toNat=b%128:=by
  rw[xU,xU,BitVec.toNat_and,zu,pa (by omega)];exact Nat.and_two_pow_sub_one_eq_mod b 7
 show IntKind.u8.wrap (BitVec.ofInt 8 _ &&& BitVec.ofInt 8 (127:Nat)).toNat=_;grind[IntKind.wrap_u8]
theorem Qv{k:Nat}(b:k<=64)(h:a*2^k<18446744073709551616):n1 .u64 (a:Int) (k:Int)=((a*2^k:Nat):Int):=by
 grind[n1,IntKind.bits,s0]
theorem vq(h:a<18446744073709551616):fR .u64 (a:Int) 2=((a/2:Nat):Int):=by
 grind[fR,s0]
theorem yb{b:Nat}:cn (a:Int) (b:Int)=((a%b:Nat):Int):=by rfl
theorem u7{b:Nat}(h:a*b<18446744073709551616):gi .u64 (a:Int) (b:Int)=((a*b:Nat):Int):=by
 grind[gi,s0]
theorem RI{a b:Int}(h1: -9223372036854775808<=a*b)(c:a*b<=9223372036854775807):gi .i64 a b=a*b:=by grind[gi,IntKind.wrap_i64]
theorem ti{b:Nat}(h:a+b<18446744073709551616):aQ .u64 (a:Int) (b:Int)=((a+b:Nat):Int):=by
 grind[aQ,s0]
theorem KI{b:Nat}(h:a+b<=9223372036854775807):aQ .i64 (a:Int) (b:Int)=((a+b:Nat):Int):=by grind[GM]
theorem lC(h:a<9223372036854775807):aQ .i64 (a:Int) 1=((a+1:Nat):Int):=by grind[GM]
theorem bP(h:a<9223372036854775807:=by omega):aQ .i64 (a:Int) 1=((a+1:Nat):Int):=lC h
theorem sD(s:au)(i:Nat):gC s (i:Int)=((s.getD i 0).toNat:Int):=by rfl
theorem AJ(s:au)(i:Nat):(s.getD i 0).toNat<256:=Dn _
theorem x5(l:I α)(k:Nat):hd l (k:Int) (l.length:Int)=l.drop k:=by simp[hd]
theorem ac3(l:I α)(k:Nat):hd l 0 (k:Int)=l.take k:=by rfl
theorem oZ{b n:Nat}(h1:a<=b)(c:b<=n):fI (a:Int) (b:Int) n:=by grind[fI]
theorem afd(a b:Nat):ed (a:Int) (b:Int)=((min a b:Nat):Int):=by grind[ed]
theorem dQ{k n:Nat}(a:k<=1000:=by omega)(h:n<=100000:=by simp;omega):bR k n:=by
 unfold bR h4 dT;simp;have:(2*n+192)*k<=200192*1000:=Nat.mul_le_mul (by omega) a;omega
end
section
open Go Go.Proofs Go.Proofs.YtkbmjabicjpmjaaGreatDoor Go.Sort Go.RowKit
variable {P:Program}{α:Type}[Inhabited α]
theorem Yy(w:World)(blk:Nat)(f:Array Value->Array Value){b:Nat}(h:b≠blk):(mapBlock w blk f).heap[b]?=w.heap[b]?:=by simp[mapBlock,Hw,ee h]
theorem Zy(w:World)(blk:Nat)(f:Array Value->Array Value){c:Array Value}{E:TypeId}{a:Nat×Nat}(h:w.heap[blk]?=some (.cells c E a)):(mapBlock w blk f).heap[blk]?=some (.cells (f c) E a):=by
 simp[mapBlock,Hw,h,onCells]
theorem afe{g k:Nat}(enc:α->I Value)(l:α->I T)(F:Array α->Array α)(aQ:∀x,(enc x).length=k)(K:∀x,(l x).length=k)(H:0<k)
 (aN:∀(w:World) (S:dy) (x:α) (j:Nat) (t:T) (v:Value),(l x)[j]?=some t->ca w S t v->(enc x)[j]?=some v)
 (bJ:∀d:Array α,(F d).size=d.size/\∀x,x∈(F d).toList->x∈d.toList)
 (aq:∀(blk off cap:Nat) (d:Array α) (w:World),HoldsK enc k w blk off d->blk<w.heap.size->d.size<4611686018427387904->
  Calls P f #[.slice (some ⟨blk,off,none⟩) d.size cap,.func (.func g) #[] #[]] w λe w'=>e= .returned (.tuple #[])/\∃n os,w'=sortWorldK enc k w blk off n (F d) os)
 (aI:∀(p:ai Addr) (cap:Nat) (ah:Value) (w:World),Calls P f #[.slice p 0 cap,ah] w λe w'=>e= .returned (.tuple #[])/\w'=w)
 {σ:bh}{d:I α}(h0:aZ σ 0=some (.arr k (d.map l)))(az:0<kk):
 eG P f [.c (.arr 0 k 0 d.length),.c (.fn g [])] σ kk (λr σ' N'=>r= .bd []/\σ'=dA σ 0 (.arr k ((F d.toArray).toList.map l))/\N'=kk):=by
 intro φ S w B o aT aJ aO vs G;cases G with|cons u G=>
 cases G with|cons M G=>
 cases G;cases u with|c u=>
 cases M with|c M=>
 obtain⟨a,rfl,am,aR⟩:=u;have aL:_=Value.func (.func g) #[] #[]:=M;subst aL;obtain⟨ak,Y,aS,_,ao⟩:=o.blk 0 _ h0;rw[sQ]at ak Y;obtain⟨af,aE⟩:=bJ d.toArray;have U:∀ w':World,Ext B S S w w'->rf φ w' S (dA σ 0 (.arr k ((F d.toArray).toList.map l)))->∃ v r bw bx σ' N',Ending.returned (Value.tuple #[]) = Ending.returned v/\(r = V.bd []/\σ' = dA σ 0 (.arr k ((F d.toArray).toList.map l))/\N' = kk)/\ch bw w' bx r v/\r.aJ (lt N')/\rf bw w' bx σ'/\(∀ (b:Nat) x,aZ σ' b = some x->b<N'/\x.aJ (lt N'))/\Ext B S bx w w'/\
  (∀(b:Nat) x,aZ σ' b=some x->(bw b).2≠0->B (bw b).1\/w.heap.size<=(bw b).1)/\∀b,b<kk->bw b=φ b:=by
  intro w' eI aH;refine⟨_,.bd [],φ,S,_,kk,rfl,⟨rfl,rfl,rfl⟩,.bd [] [] rfl (by simp),rfl,aH,λb x aa=>?_,eI,λb x aa m=>?_,λ_ _=>rfl⟩
  . rw[dk]at aa;split at aa
    rename_i m;cases aa;subst m;exact⟨az,rfl⟩;grind
  grind[dk]
 by_cases J:(φ 0).2=0
 ·
  have ar:d=[]:=ko (by omega);subst ar;refine(aI a _ _ w).mono ?_
  rintro e w' ⟨rfl,rfl⟩
  have he:(F ([]:I α).toArray).toList.map l=([]:I α).map l:=by grind
  refine U _ Ext.refl ?_;rw[he];refine⟨λb x aa=>?_,λb A x y aa al=>?_,o.st⟩
  . rw[dk]at aa;split at aa
    rename_i m;cases aa;subst m;exact o.blk _ _ h0;exact o.blk b x aa
  . have key:∀b x,aZ (dA σ 0 (.arr k (([]:I α).map l))) b=some x->∃z,aZ σ b=some z:=by
     intro b x aa;rw[dk]at aa;grind
    obtain⟨z,N⟩:=key b x aa;obtain⟨R,Q⟩:=key A y al;exact o.inj b A z R N Q
 . obtain⟨vs,E,ad,ag,ap,Z⟩:=ao J;rw[am J];have ae:∀(i j:Nat) (t:T) (x:α),d[i]?=some x->(l x)[j]?=some t->∃v,vs[i*k+j]?=some v/\ca w S t v/\(enc x)[j]?=some v:=by
    intro i j t x q s;obtain⟨v,u,ab⟩:=ap i j (l x) t (by rw[sP,q];rfl) s;grind
   have W:(φ 0).1<w.heap.size:=(by grind);have aj:HoldsK enc k w (φ 0).1 (0*k) d.toArray:=by
    intro j s;rw[size_flatK]at s;have ax:j<d.length*k:=(by simpa using s);have q:j/k<d.length:=(Nat.div_lt_iff_lt_mul H).2 ax;have D:j%k<k:=zA _ H;have aa:d[j/k]?=some d[j/k]:=fm q;have aC:j%k<(l d[j/k]).length:=by rw[K];exact D
    obtain⟨v,u,_,he⟩:=ae (j/k) (j%k) _ _ aa (fm aC);have ay:j/k*k+j%k=j:=by rw[Nat.mul_comm];exact Nat.div_add_mod j k
    rw[ay]at u;refine⟨?_,by simp[World.frozen?,ad]⟩;rw[Dq,iy,jv ad,u,get_flatK _ _ _ _ s];grind
   have aA:d.toArray.size<4611686018427387904:=by
    have:dT=281474976710656:=rfl;simp;omega
   refine(aq (φ 0).1 (0*k) _ d.toArray w aj W aA).mono ?_
   rintro e w' ⟨rfl,n,os,rfl⟩
   have L:∀b:Nat,b<w.heap.size->b≠(φ 0).1->(sortWorldK enc k w (φ 0).1 (0*k) n (F d.toArray) os).heap[b]?=w.heap[b]?:=by
    intro b m aF;unfold sortWorldK putRowK putRow;rw[heap_grow_old _ _ (by simpa[mapBlock,Go.Sort.ahead]using m),Yy _ _ _ aF];rfl
   have aG:(sortWorldK enc k w (φ 0).1 (0*k) n (F d.toArray) os).heap[(φ 0).1]?=some (.cells (putCells id (0*k) (flatK enc k (F d.toArray)) vs.toArray).toList.toArray E (0,0)):=by
    unfold sortWorldK putRowK putRow;rw[heap_grow_old _ _ (by simpa[mapBlock,Go.Sort.ahead]using W),Zy (Go.Sort.ahead w n) _ _ (by exact ad)]
   have D:hj w S _ S:=⟨λ_ _ h=>h,λb j h=>rW (L b (o.st b j h) (λe=>Z j (e▸h))) j⟩;refine U _ ⟨rfl,rfl,rfl,?_,λb m dM=>L b m (λe=>dM (e▸aJ 0 _ h0 J)),D,λ_ _ h=>.inl h⟩ ⟨λb x aa=>?_,λb A x y aa al=>?_,λb j h=>?_⟩;unfold sortWorldK putRowK putRow;simp[grow,mapBlock,Go.Sort.ahead]
   . rw[dk]at aa;split at aa
     . rename_i m;cases aa;subst m;refine⟨by simpa[af]using ak,by simpa[af]using Y,λe he=>?_,H,λ_=>⟨_,E,aG,by simpa[putCells]using ag,λi j e t q s=>?_,Z⟩⟩
       obtain⟨x,_,rfl⟩:=fl.1 he;exact K x
       . rw[sP]at q;cases O:(F d.toArray).toList[i]? with
         |none=>rw[O]at q;cases q
         |some x=>
          rw[O]at q;have:e=l x:=(o' q).symm;subst this;have aa:x∈d:=(by simpa using aE x (fQ O));obtain⟨aM,av,au⟩:=hE aa;obtain⟨v,u,ab,he⟩:=ae aM j t x (by rw[fm av,au]) s;refine⟨v,?_,ca.mono D ab⟩;have aP:j<k:=by rw[<-K x];exact(ev.1 s).1
          have aw:i<(F d.toArray).size:=(by grind);have aD:i*k+j<(F d.toArray).size*k:=by
           have:=fG k (show i+1<=(F d.toArray).size from aw);grind
          have aB:i*k+j<vs.length:=by
           rw[ag];refine j0 aD (fG k ?_);grind
          have d1:(i*k+j)/k=i:=(blk_iff k i _ H).1 ⟨by omega,by omega⟩;have d2:(i*k+j)%k=j:=by rw[Nat.mod_eq_sub_div_mul,d1];omega
          have aK:(F d.toArray)[i]! =x:=(by grind);have:(putCells id (0*k) (flatK enc k (F d.toArray)) vs.toArray).toList[i*k+j]?=some ((flatK enc k (F d.toArray))[i*k+j]!):=by
           rw[Hx];simp only[putCells,Array.getElem?_mapIdx];rw[show vs.toArray[i*k+j]?=some vs[i*k+j] by simp[aB]];simp[size_flatK,aD]
          rw[this,get_flatK _ _ _ _ aD,d1,d2,aK,List.getElem!_eq_getElem?_getD,he];rfl
     rename_i m;have an:b≠0:=λe=>m (by simp[e]);refine dj.mono (n:=λ_=>true) D (λ_ _=>rfl) rfl (by cases x<;>simp[cd.aJ,C.nd]) (λX=>L _ ((o.blk b x aa).j3 X) (o.inj b 0 x _ aa h0 an X J)) (o.blk b x aa)
   . have key:∀b x,aZ (dA σ 0 (.arr k ((F d.toArray).toList.map l))) b=some x->∃z,aZ σ b=some z:=by
      intro b x aa;rw[dk]at aa;grind
     obtain⟨z,N⟩:=key b x aa;obtain⟨R,Q⟩:=key A y al;exact o.inj b A z R N Q
   have:=o.st b j h;unfold sortWorldK putRowK putRow;simp[grow,mapBlock,Go.Sort.ahead];omega
def lr(lt:α->α->J)(l:I α):I α:=(pdq lt l.toArray 0 l.length (Lib.bitLen l.length) true true).toList
theorem Kv{lt:α->α->J}(a:SWO lt)(l:I α):(lr lt l).Perm l:=by
 obtain⟨⟨hs,_,ar⟩,_⟩:=pdq_sorts lt a l.toArray 0 l.length (Lib.bitLen l.length) true true (j2 _) (by simp) (Or.inl rfl);grind[Array.extract_size,lr]
theorem acn{lt:α->α->J}(a:SWO lt)(l:I α):(lr lt l).length=l.length:=(Kv a l).length_eq
theorem aco{lt:α->α->J}(a:SWO lt)(l:I α):(lr lt l).Pairwise λx y=>lt y x=false:=by
 obtain⟨⟨hs,_,_⟩,aH⟩:=pdq_sorts lt a l.toArray 0 l.length (Lib.bitLen l.length) true true (j2 _) (by simp) (Or.inl rfl);have e:=acn a l;rw[vh];intro i j c d b;have:=aH i j (j2 _) b (by grind);grind[lr]
def Ih(U:c0)(f n g:Nat)(F:I (U.D n)->I (U.D n)):cT U:=
 ⟨f,[.c (.arr 0),.c (.fn g [])],[.arr (.nm n)],[.slice (.nm n)],.bd [],[.arr (.nm n)],[.slice (.nm n)],λ(l:I (U.D n))=>some (F l)⟩
theorem aff{n g:Nat}[Inhabited (U.D n)](enc:U.D n->I Value)(lt:U.D n->U.D n->J)(C:SWO lt)(L:∀x,(enc x).length=(aO.nm n).sz U)
 (E:∀(w:World) (S:dy) (x:U.D n) (j:Nat) (t:T) (v:Value),((aO.nm n).enc U x)[j]?=some t->ca w S t v->(enc x)[j]?=some v)
 (H:∀(blk off cap:Nat) (d:Array (U.D n)) (w:World),HoldsK enc ((aO.nm n).sz U) w blk off d->blk<w.heap.size->d.size<4611686018427387904->
  Calls P f #[.slice (some ⟨blk,off,none⟩) d.size cap,.func (.func g) #[] #[]] w λe w'=>e= .returned (.tuple #[])/\∃O os,w'=sortWorldK enc ((aO.nm n).sz U) w blk off O (pdq lt d 0 d.size (Lib.bitLen d.size) true true) os)
 (M:∀(p:ai Addr) (cap:Nat) (y:Value) (w:World),Calls P f #[.slice p 0 cap,y] w λe w'=>e= .returned (.tuple #[])/\w'=w):
 ij P (Ih U f n g (lr lt)):=by
 intro l r bJ R σ1 a aH;have N:=(o' bJ).symm;subst N;cases a with|cons a c=>
 cases c with|cons c F=>
 cases F;obtain⟨sz,m,rfl,_,K⟩:=cb.hZ a;have:=cb.G7 c;subst this;have s:Shv.ba ((Ih U f n g _).jg l) 0=some _:=rfl;have k:=K _ s _ rfl;obtain⟨_,W,z,b0⟩:=aH 0 _ s;cases b0;have aK:=(dN Prod.fst k).symm;have u:=(dN Prod.snd k).symm;subst aK;subst u;have o:∀d:Array _,(lr lt d.toList).Perm d.toList:=λd=>Kv C d.toList
 refine(afe enc _ (λd=>(lr lt d.toList).toArray) L (λx=>aO.tA) aO.yl E
  (λd=>⟨by simpa using(o d).length_eq,λx aa=>(o d).mem_iff.1 (by grind)⟩) (λblk off cap d w h1 A B=>?_) M z Nat.one_pos).mono ?_
 have:=H blk off cap d w h1 A B;simpa[lr]using this
 . rintro V s1 Q ⟨rfl,rfl,rfl⟩
   refine⟨rfl,.bd [] [] rfl (by simp),λb x aa=>?_⟩;generalize lr lt l=q at aa⊢;have i:(if b=0 then some (dc.arr (.nm n) q)else none)=some x:=by
    rw[<-aa];cases b<;>rfl
   split at i;rename_i G;cases i;subst G;refine⟨Nat.one_pos,_,?_,.arr (.nm n) q⟩;rw[dk];rfl;cases i
theorem ac4(w:World)(S:dy)(i:Int)(s:au)(j:Nat)(t:T)(v:Value)(h:[T.int .i64 i,T.str s][j]?=some t)(a:ca w S t v):[Value.int .i64 i,Value.string ⟨s.toArray⟩][j]?=some v:=by
 match j,h with
 |0,h=>cases h;cases a;rfl
 |1,h=>cases h;cases a;rfl
theorem agf(key:α->Int):SWO (λx y=>(key x<key y:J)) where
 irrefl x:=by simp
 trans x y z h1 a:=by grind
 ntrans x y z h1 a:=by grind
end
section
open Go Go.Proofs Go.Proofs.YtkbmjabicjpmjaaGreatDoor Go.Sort
def ly{α:Type}(a b:ai α):Prop:=∀r,a=some r->b=some r
theorem ly.r{α:Type}{a:ai α}:ly a a:=λ_ h=>h
theorem ly.n{α:Type}{a:ai α}:ly none a:=λ_ h=>by grind
theorem ly.b{α g:Type}{a b:ai α}{k c:α->ai g}(h:ly a b)(e:∀x,ly (k x) (c x)):ly (a>>=k) (b>>=c):=by
 intro r f;cases a with
 |none=>grind
 |some x=>rw[h x rfl];exact e x r f
theorem ly.i{α:Type}{p:Prop}[Decidable p]{a b c d:ai α}(h:ly a c)(k:ly b d):ly (if p then a else b) (if p then c else d):=by grind
variable {α:Type}[Inhabited α]
def o4(lt:α->α->J)(x:α):I α->I α
 |[]=>[x]
 |y::r=>if lt x y then x::y::r else y::o4 lt x r
def hO(lt:α->α->J):I α->I α
 |[]=>[]
 |x::r=>o4 lt x (hO lt r)
def kI(lt:α->α->J):I α->J
 |[]=>true
 |x::r=>r.all (λy=>lt x y||lt y x)&&kI lt r
theorem J2(lt:α->α->J)(x:α):∀l,(o4 lt x l).Perm (x::l)
 |[]=>.refl _
 |y::r=>by
  simp[o4];split;rfl;exact((J2 lt x r).cons y).trans (.swap x y r)
theorem kd(lt:α->α->J):∀l,(hO lt l).Perm l
 |[]=>.refl _
 |x::r=>(J2 lt x _).trans ((kd lt r).cons x)
theorem NZ{lt:α->α->J}(b:SWO lt)(x:α):∀{l:I α},l.Pairwise (λx y=>lt y x=false)->(o4 lt x l).Pairwise λx y=>lt y x=false
 |[],_=>by simp[o4]
 |y::r,h=>by
  rw[kQ]at h;simp[o4];split
  . rename_i d;have e:lt y x=false:=by
     cases c:lt y x with
     |false=>rfl
     |true=>have:=b.trans _ _ _ d c;rw[b.irrefl]at this;grind
    rw[kQ];refine⟨λz a=>?_,kQ.2 h⟩;rcases fk.1 a with rfl|a;grind;exact b.ntrans _ _ _ (h.1 z a) e
  . rw[kQ];refine⟨λz a=>?_,NZ b x h.2⟩;rcases fk.1 ((J2 lt x r).mem_iff.1 a)with rfl|a
    grind;grind
theorem E5{lt:α->α->J}(a:SWO lt):∀l:I α,(hO lt l).Pairwise λx y=>lt y x=false
 |[]=>.nil
 |x::r=>NZ a x (E5 a r)
theorem OP{lt:α->α->J}:∀{l:I α},kI lt l->∀a b,a∈l->b∈l->a=b\/lt a b\/lt b a=true
 |x::r,h,a,b,c,e=>by
  simp[kI]at h;rcases fk.1 c with g|d<;>rcases fk.1 e with i|f;grind;grind;grind;exact OP h.2 a b d f
theorem N1{lt:α->α->J}{l:I α}(ar:kI lt l):∀{a b:I α},a.Perm l->b.Perm l->a.Pairwise (λx y=>lt y x=false)->b.Pairwise (λx y=>lt y x=false)->a=b:=by
 intro a b d e h1 c;refine List.Perm.eq_of_pairwise (λx y aa al f g=>?_) h1 c (d.trans e.symm);grind[OP]
theorem Rg{lt:α->α->J}(a:SWO lt){l:I α}(ar:kI lt l):lr lt l=hO lt l:=
 N1 ar (Kv a l) (kd lt l) (aco a l) (E5 a l)
def Ig(lt:α->α->J)(l:I α):ai (I α):=ite (kI lt l) (some (hO lt l)) none
theorem afg{lt:α->α->J}(a:SWO lt)(l:I α):ly (Ig lt l) (some (lr lt l)):=by
 intro r h;grind[Ig,Rg]
end
section
open Go
def eJ(x:Int×Int):Value:= .agg #[.int .i64 x.1,.int .i64 x.2]
structure oc (P:Program)(mt:TypeId):Prop where
 ex:∃fj WT it i WS,P.underlying mt=some (.map fj WT)/\P.underlying fj=some (.array 2 it)/\P.underlying it=some (.int .i64)/\P.info? it=some i/\i.size=1/\P.info? WT=some WS/\WS.zero=some (.bool false)
def iX(ks:I (Int×Int))(x:Int×Int):J:=ks.any λk=>(k=x:J)
def oe(ks:I (Int×Int))(x:Int×Int):I (Int×Int):=if iX ks x then ks else ks++[x]
def jH:I (Int×Int)->I MapEntry->Prop:=bc λk e=>e.key=eJ k/\e.val= .bool true
def oO(es:I MapEntry)(c6:Nat):Prop:=(∀e,e∈es->e.born<c6)/\(es.map (·.born)).Nodup
variable{ks:I (Int×Int)}{es:Array MapEntry}{c6:Nat}{mt:TypeId}
section
variable {P:Program}{w:World}{fj it:TypeId}{i:TypeInfo}
theorem ac5(a:P.underlying it=some (.int .i64))(w:World):(Go.isAgg it).run P w= .ok false w:=by
 simp[Go.isAgg,underlying,a]
theorem afh(k:P.underlying fj=some (.array 2 it))(n:P.underlying it=some (.int .i64))(j:P.info? it=some i)(hs:i.size=1)(x y:Int×Int)(w:World):
 (Op.equal fj (eJ x) (eJ y)).run P w= .ok (x=y:J) w:=by
 obtain⟨d,g⟩:∃d,Op.maxDepth=d+2:=⟨9998,rfl⟩
 have f:P.cellsOf it=1:=by grind[Program.cellsOf]
 have l:qK P it=some 1:=by grind[qK]
 unfold Op.equal;rw[g];unfold eJ;rw[run_equalIn_array w (d+1) _ _ k j,f,List.range_eq_range'];have:=JG (P:=P) (φ:=λ_=>(0,0)) (S:=λ_ _=>False) (w:=w) (d:=d) l (m:=2) (i:=0)
  (ps:=[.t (.int .i64 x.1),.t (.int .i64 x.2)]) (qs:=[.t (.int .i64 y.1),.t (.int .i64 y.2)]) (vs:=[.int .i64 y.1,.int .i64 y.2]) (r:=(x=y:J))
  (by
   obtain⟨a,b⟩:=x;obtain⟨c,e⟩:=y
   simp_all[List.replicate,lU,y7,cg,ay,mM,eo,eB])
  (.cons (ca.int _ _) (.cons (ca.int _ _) .nil)) (.cons (ca.int _ _) (.cons (ca.int _ _) .nil)) rfl rfl
 grind
theorem E6(d:P.underlying fj=some (.array 2 it))(a:P.underlying it=some (.int .i64))(f:P.info? it=some i)(hs:i.size=1)(b:J)(x:Int×Int)(w:World):
 (Instr.checkKey b 10000 fj (eJ x)).run P w= .ok () w:=by
 have e:∀w,(sizeOf it).run P w= .ok 1 w:=λw=>by simp_all[sizeOf,typeInfo]
 have c:∀v w,(Instr.checkKey b 9999 it v).run P w= .ok () w:=λv w=>by
  unfold Instr.checkKey;simp[run_underlying a]
 unfold Instr.checkKey;simp[run_underlying d,eJ];simp[List.range',e,part,ac5 a,c]
theorem M9(f:P.underlying fj=some (.array 2 it))(c:P.underlying it=some (.int .i64))(d:P.info? it=some i)(hs:i.size=1)(x:Int×Int)(w:World):∀{ks:I (Int×Int)} {es:I MapEntry} (n:Nat),jH ks es->
 (iX ks x=false/\(Instr.findAsking fj (eJ x) es n).run P w= .ok none w)\/
 (iX ks x/\∃j e,(Instr.findAsking fj (eJ x) es n).run P w= .ok (some (n+j,.bool true)) w/\es[j]?=some e/\e.key=eJ x/\e.val= .bool true)
 |_,_,n,.nil=>.inl ⟨rfl,by rfl⟩
 |k::ks,e::es,n,.cons h l=>by
  have he:(Op.equal fj (eJ x) e.key).run P w= .ok (x=k:J) w:=by grind[afh]
  by_cases g:x=k;simp_all[iX,Instr.findAsking]
  . rcases M9 f c d hs x w (n+1) l with⟨g1,g2⟩|⟨g1,j,a,g2,g3,g4,b⟩
    refine .inl ⟨?_,by simp_all[Instr.findAsking]⟩;grind[iX]
    . refine .inr ⟨?_,j+1,a,?_,by grind,g4,b⟩
      simp_all[iX,List.any_cons,Bool.or_true];simp only[Instr.findAsking,Sem.run_bind,he,g,dz,Result.andThen_ok,cm,cw,g2];grind
theorem OQ(a:P.underlying fj=some (.array 2 it))(b:P.underlying it=some (.int .i64))(c:P.info? it=some i)(hs:i.size=1)(x:Int×Int)(w:World){es:I MapEntry}(h:jH ks es):
 (iX ks x=false/\(Instr.findKey fj (eJ x) es).run P w= .ok none w)\/
 (iX ks x/\∃j e,(Instr.findKey fj (eJ x) es).run P w= .ok (some (j,.bool true)) w/\es[j]?=some e/\e.key=eJ x/\e.val= .bool true):=by
 cases h with
 |nil=>exact .inl ⟨rfl,by simp[Instr.findKey,run_underlying a,Instr.findNow]⟩
 | @cons k e ks es h1 d=>
  have aL:Instr.findNow (.array 2 it) (eJ x) (e::es) 0=none:=by
   rfl
  have:=M9 a b c hs x w 0 (.cons h1 d);simp_all[Instr.findKey,run_underlying]
theorem aeN(f:oc P mt){r:Nat}(ad:w.heap[r]?=some (.map es c6))(h:jH ks es.toList)(x:Int×Int):
 (Instr.lookup mt (.map (some r)) (eJ x) false).run P w= .ok (.bool (iX ks x)) w:=by
 obtain⟨fj,k,it,i,n,d,c,a,b,hs,l,m⟩:=f.ex;have g:(zeroValue k).run P w= .ok (.bool false) w:=by simp_all [zeroValue,typeInfo]
 rcases OQ c a b hs x w h with⟨g1,g2⟩|⟨g1,j,e,g2,_⟩;simp[Instr.lookup,run_underlying d,sB ad,E6 c a b hs,g2,g,g1];simp[Instr.lookup,run_underlying d,sB ad,E6 c a b hs,g2,g1]
theorem Ts(u:oc P mt){r:Nat}(ad:w.heap[r]?=some (.map es c6))(h:jH ks es.toList)(b:oO es.toList c6)(x:Int×Int):
 ∃d m,(Instr.mapUpdate mt (.map (some r)) (eJ x) (.bool true)).run P w= .ok () {w with heap:=w.heap.setIfInBounds r (.map d m)}/\jH (oe ks x) d.toList/\oO d.toList m:=by
 obtain⟨fj,F,it,i,E,o,l,g,k,hs,B,C⟩:=u.ex;rcases OQ l g k hs x w h with⟨g1,g2⟩|⟨g1,j,e,g2,g3,g4,v⟩
 . refine⟨es.push {key:=eJ x,val:= .bool true,born:=c6},c6+1,?_,?_,?_,?_⟩
   simp[Instr.mapUpdate,run_underlying o,sB ad,E6 l g k hs,g2,Fc _ ad];simp only[oe,g1,cm,cw,HK];exact h.append (.cons ⟨rfl,rfl⟩ .nil)
   . intro e he;simp only[HK,gj,nQ]at he;rcases he with he|rfl
     have:=b.1 e he;omega;simp
   simp only[HK,xK,qT,List.map_nil];rw[List.nodup_append];refine⟨b.2,by simp,?_⟩;intro a q c s;simp at s;obtain⟨e,he,rfl⟩:=fl.1 q;have:=b.1 e he;omega
 . refine⟨es.modify j λe=>{e with key:=eJ x,val:= .bool true},c6,?_,?_,?_,?_⟩
   have A:Instr.sameBits 10000 (eJ x) (eJ x):=(by simp[eJ,Instr.sameBits]);have t:∀w,(Instr.keyThatStays (eJ x) (eJ x)).run P w= .ok (eJ x) w:=(by simp_all[Instr.keyThatStays]);simp[Instr.mapUpdate,run_underlying o,sB ad,E6 l g k hs,g2,Fc _ ad,g4,t,show es[j]?=some e by grind]
   . simp only[oe,g1,cg];rw[Dh];refine bc.modify h λD p z f=>?_;grind
   intro p f;rw[Dh]at f;obtain⟨n,aL,rfl⟩:=xV.1 f;rw[List.length_modify]at aL;have:=b.1 es.toList[n] (zv aL);grind
   . have:(es.modify j λe=>{e with key:=eJ x,val:= .bool true}).toList.map (·.born)=es.toList.map (·.born):=by
      rw[Dh];refine Dk (by simp) λn h1 y=>?_;grind
     rw[this];exact b.2
end
end
section
open Go Go.Proofs Go.Proofs.YtkbmjabicjpmjaaGreatDoor Go.Shelf Go.RowKit
variable {U:c0}
def wc(i:Nat):au:=if i<10 then[UInt8.ofNat (48+i)]else[UInt8.ofNat (48+i/10),UInt8.ofNat (48+i%10)]
def Hd(i:Int):ai au:=ite ((0<=i:J)&&(i<100:J)) (some (wc i.toNat)) none
theorem agh{i:Nat}(h:i<100):Lib.decDigits i=wc i:=by
 unfold wc Lib.decDigits;split;rfl;rw[Lib.decDigits,dif_pos (by omega)];rfl
def V6(U:c0)(f:Nat):cT U:=⟨f,[.c (.hole (.int .i64))],[],[.int .i64],.c (.hole .str),[],[.str],λ(a:Int)=>Hd a⟩
section
variable {P:Program}{ρ:Ren}
theorem afi(L:Lays.n171 P ρ){i:Nat}{σ:bh}(g:i<100):
 eG P (ρ.f 171) [.c (.t (.int .i64 (i:Int)))] σ 0 (λr σ' N'=>r= .c (.t (.str (wc i)))/\σ'=[]/\N'=0):=by
 intro φ S w B l p o n vs d;cases d with|cons a d=>
 cases d;cases a with|c a=>
 cases a;refine(Any.strconv_Itoa_small L i g w).mono ?_
 rintro e w' ⟨rfl,rfl⟩;refine⟨_,.c _,φ,S,[],0,rfl,⟨rfl,rfl,rfl⟩,.c ?_,rfl,⟨λb x h=>by grind[aZ],λb m x y h=>by grind[aZ],λk j h=>l.st k j h⟩,λb x h=>by grind[aZ],Ext.refl,λb x h=>by grind[aZ],λ_ _=>rfl⟩;rw[agh g]
 have:=ca.str (w:=w') (S:=S) _ (by
  show(wc i).toArray.size<=eT;rw[List.size_toArray];have:2<=eT:=by decide
  unfold wc
  split<;>simp<;>omega)
 exact this
theorem afj(L:Lays.n171 P ρ)(i:ρ.f 171=f):ij P (V6 U f):=by
 subst i;intro(a:Int) r bJ k σ1 e aH;have d:Hd a=some r:=bJ;unfold Hd at d;split at d
 . rename_i g;simp at g;obtain⟨h0,h1⟩:=g;cases d;cases e with|cons a1 e=>
   cases e;have aK:=cb.gh a1;subst aK;obtain⟨n,rfl⟩:∃n:Nat,a=n:=⟨a.toNat,by omega⟩
   refine(afi L (by omega)).mono ?_
   rintro l s1 j ⟨rfl,rfl,rfl⟩;exact⟨rfl,.c (.t _),λb x aa=>by cases aa⟩
 grind
end
end
section
open Go
variable {U:c0}{P:Program}{nt:Nat}{aB:Ctx}
variable{vs:I Value}{code:Code}{c:bZ U.D}{f q:Nat}{w:World}{Q:Exit->Act->World->Prop}{x y:Operand}{E:TypeId}{v:Value}{p:Int×Int}{seen:Array Nat}
section
variable {φ bw:dx}{S bx:dy}{env env':Env}{σ σ':bh}{n cS:Nat->J}{N k:Nat}{a cj:Act}{w w':World}
def Ctx.qX(w:World)(S:dy)(φ:dx)(σ:bh)(k:Nat):Ctx:=⟨w,S,λb=>∃c x,aZ σ c=some x/\(φ c).2≠0/\b=(φ c).1,φ,k⟩
theorem Rel.qX(R:Rel aB nt φ S env σ (lt N) a w)(e:k<=N):Rel (Ctx.qX w S φ σ k) nt φ S env σ (lt N) a w:=
 ⟨R.b3,R.gY,R.hL,R.gX,R.ei,R.size,R.defers,Ext.refl,λb x aa h0=>.inl ⟨b,x,aa,h0,rfl⟩,λ_ _=>rfl,λb c=>by
  have:b<k:=c
  grind[lt]⟩
theorem Rel.un(R:Rel aB nt φ S env σ n a w)(R':Rel (Ctx.qX w S φ σ k) nt bw bx env' σ' cS cj w')(g:aB.k<=k):Rel aB nt bw bx env' σ' cS cj w':=by
 have e:=R'.ext;have own:∀b,(Ctx.qX w S φ σ k).B b->aB.B b\/aB.kV.heap.size<=b:=λb ⟨c,x,aa,h0,f⟩=>f▸R.own c x aa h0;refine⟨R'.b3,R'.gY,R'.hL,R'.gX,R'.ei,R'.size,R'.defers,⟨e.os.trans R.ext.os,e.tape.trans R.ext.tape,e.output.trans R.ext.output,hF R.ext.size e.size,λb aD dM=>?_,R.ext.mono.trans e.mono,λb j o=>?_⟩,λb x aa h0=>?_,λb f=>?_,λb f=>R'.hv b (j0 f g)⟩;refine(e.block b (j0 aD R.ext.size) λh=>?_).trans (R.ext.block b aD dM);grind
 . rcases e.l0 b j o with h|h|h
   exact R.ext.l0 b j h;grind;exact .inr (.inr (hF R.ext.size h))
 . rcases R'.own b x aa h0 with h|h
   grind;exact .inr (hF R.ext.size h)
 exact(R'.fix b (j0 f g)).trans (R.fix b f)
theorem Rel.enter{args:I V}(e:bc (ch φ w S) args vs)(c:V.aJ.V.d' (lt N) args)(o:∀b j,S b j->b<w.heap.size)(aL:args.length<=nt):
 Rel ⟨w,S,λ_=>False,φ,0⟩ nt φ S (gf 0 args) [] (lt N) {tmps:=vs.toArray++Array.replicate (nt-vs.toArray.size) undef,defers:=[]} w:=by
 have ak:=e.length;refine⟨⟨λb x aa=>by grind[aZ],λb p x y aa=>by grind[aZ],o⟩,λi g v a av=>?_,λi g v a av=>?_,λi g v a av=>?_,λb x aa=>by grind[aZ],?_,rfl,Ext.refl,λb x aa=>by grind[aZ],λ_ _=>rfl,λb c=>absurd c (xL _)⟩;obtain⟨_,j,rfl,f⟩:=uY a;obtain⟨x,aa,q⟩:=e.get f;grind;grind[uY];grind[uY,nG];grind
end
abbrev yK(U:c0):=b8 U×bm U×Nat
structure cU (aB:Ctx)(nt:Nat)(gs:bb)(s:yK U)(φ:dx)(S:dy)(a:Act)(w:World):Prop where
 ex:∃env1 σ1,df s.2.2 s.2.1 (λ_=>true) s.1 env1/\cH s.2.2 s.2.1 σ1/\Rel aB nt φ S env1 σ1 (lt s.2.2) a w/\∀b x,aZ σ1 b=some x->(φ b).2≠0->(φ b).1 ∉ gs
 e0:∀g,g∈gs->g<w.heap.size/\∀j,¬S g j
section
variable {φ:dx}{S bx:dy}{gs:bb}{s:yK U}{q':b8 U}{xs:bm U}{N kk:Nat}{a:Act}{w w':World}
structure tc (gs:bb)(kk:Nat)(φ:dx)(w:World)(bw:dx)(w':World):Prop where
 fix:∀b,b<kk->bw b=φ b
 ar:∀g,g∈gs->w'.heap[g]?=w.heap[g]?
theorem cU.next {bw:dx}{env1 f:Env}{σ1 bE:bh}{cj:Act}{s':yK U}(e0:∀g,g∈gs->g<w.heap.size/\∀j,¬S g j)(R:Rel aB nt φ S env1 σ1 (lt N) a w)(av:∀b x,aZ σ1 b=some x->(φ b).2≠0->(φ b).1 ∉ gs)
 (R':Rel (Ctx.qX w S φ σ1 kk) nt bw bx f bE (lt s'.2.2) cj w')(q:aB.k<=kk)(he:df s'.2.2 s'.2.1 (λ_=>true) s'.1 f)(aH:cH s'.2.2 s'.2.1 bE):cU aB nt gs s' bw bx cj w'/\tc gs kk φ w bw w':=by
 have v:∀g,g∈gs->¬(Ctx.qX w S φ _ kk).B g:=λg h ⟨c,x,aa,h0,o⟩=>av c x aa h0 (o▸h);refine⟨⟨⟨f,bE,he,aH,R.un R' q,λb x aa h0 t=>?_⟩,λg h=>⟨j0 (e0 g h).1 R'.ext.size,λj p=>?_⟩⟩,R'.fix,λg h=>R'.ext.block g (e0 g h).1 (v g h)⟩
 . rcases R'.own b x aa h0 with h|h
   grind;exact absurd (e0 _ t).1 (Nat.not_lt.2 h)
 . rcases R'.ext.l0 g j p with e|e|e
   exact(e0 g h).2 j e;grind;exact absurd (e0 g h).1 (Nat.not_lt.2 e)
theorem cU.piece(T:cU aB nt gs s φ S a w){fo:gu U}(t:gv P fo){ac:dY}(q:resolve P nt code=some ac)(g:kk<=s.2.2)(v:aB.k<=kk){outs:I jq}{o:eM U outs}
 (aa:kW fo (λ_=>none) kk ac 0 s.1 s.2.1 s.2.2 (pd kk outs)=some o):
 code.wp P (λe cj w'=>e=(gG outs o).1/\∃bw bx,cU aB nt gs (gG outs o).2 bw bx cj w'/\tc gs kk φ w bw w') a w:=by
 obtain⟨⟨env1,σ1,he,aH,R,av⟩,e0⟩:=T
 have h:=cJ.WQ (rv (Q:=td kk λe env σ N=>e=(gG _ o).1/\N=(gG _ o).2.2.2/\df N _ _ _ _/\cH N _ σ) t hi.none aa he aH g td.Uh λe env' σ' N' j bE h1 c f p=>by
  obtain⟨aK,s1,c1,c2,c3,c4,c5⟩:=m'.Wm.HO h1 c f p
  exact⟨_,aK,s1,c1,c5,rfl,c2,c3⟩) _ q _ φ S a w rfl (R.qX g)
 refine wp_mono h ?_
 rintro e cj w' ⟨bw,bx,j,bE,N',⟨h1,rfl,c,f⟩,R'⟩;exact⟨h1,bw,bx,cU.next e0 R av R' v c f⟩
theorem Qw{kk:Nat}{aB:Ctx}(g:aB.k=kk){ops:Array Oper}{rest:bb}{Q:Exit->Act->World->Prop}{K:Env->bh->Nat->Prop}:∀{l:I Oper} {bg:I cl} {k N:Nat} {env:Env} {σ:bh} {φ:dx} {S:dy} {a:Act} {w:World},hJ P nt ops l=some bg->(∀i:Nat,i<l.length->l[i]?=ops[k+i]?)->
 Rel aB nt φ S env σ (lt N) a w->og P kk bg N env σ (λe s=>K e s (N+16*bg.length))->(∀φ S e s N a w,K e s N->Rel aB nt φ S e s (lt N) a w->wpOps P ops Q rest a w)->wpOps P ops Q (List.range' k l.length++rest) a w
 |[],bg,k,N,env,σ,φ,S,a,w,b,f,R,h,d=>by
  simp[hJ]at b;subst b;exact d _ _ _ _ _ _ _ h R
 |o::l,bg,k,N,env,σ,φ,S,a,w,b,f,R,h,d=>by
  simp[hJ,bz,bL]at b;obtain⟨r,m,c,n,rfl⟩:=b;have t:ops[k]?=some o:=by have:=f 0 (by simp);grind
  rw[kR,zx,xI,wpOps_cons];unfold wpOp;obtain⟨gf,u,p,q⟩:=h;obtain⟨v,yJ,j⟩:=p aB nt φ S a w g R;have hs:=Jn j m (K:=λe s=>og P kk c _ e s λe s=>K e s (N+16*(c.length+1))) q (Q:=Q);have next:∀cj w',j9 aB nt (e1 (lt N) N) (λe s=>og P kk c (N+16) e s λe s=>K e s (N+16*(c.length+1))) cj w'->wpOps P ops Q (List.range' (k+1) l.length++rest) cj w':=by
   rintro cj w' ⟨bw,bx,e,s,bS,R'⟩
   refine Qw g n (λi aD=>?_) (R'.more λ_ h=>FA h) ?_ d
   have:=f (i+1) (by grind);grind;grind
  grind[Oper.wp_mono]
theorem cU.ops (T:cU aB nt gs s φ S a w){fo:gu U}(g:gv P fo){ops:Array Oper}{rest:bb}{Q:Exit->Act->World->Prop}(k:Nat){l:I Oper}{bg:I cl}(q:hJ P nt ops l=some bg)(j:∀i:Nat,i<l.length->l[i]?=ops[k+i]?)(p:kk<=s.2.2)(o:aB.k<=kk)
 {sh:Shape}{ts:I aO}{h:a8 U.D ts}(aa:oY fo none bg s.2.2 [] [] s.1 s.2.1 (λgl env σ=>n9 kk [] sh ts (uO gl env) σ (s.2.2+16*bg.length))=some h)
 (E:∀bw bx cj w',cU aB nt gs ((gq U sh (a8.cells U.D ts h)).1,(gq U sh (a8.cells U.D ts h)).2,sh.st.length) bw bx cj w'->tc gs kk φ w bw w'->wpOps P ops Q rest cj w'):wpOps P ops Q (List.range' k l.length++rest) a w:=by
 obtain⟨⟨env1,σ1,he,aH,R,av⟩,e0⟩:=T;refine Qw rfl (K:=λaK s1 N'=>∃env' σ',N'=s.2.2+16*bg.length/\n9 kk [] sh ts env' σ' N'=some h/\df N' σ' (λ_=>true) env' aK/\cH N' σ' s1) q j (R.qX p) (DZ g (e7.begin he aH) aa λB F env' σ' A bE t h1 c=>?_) ?_
 exact⟨_,_,rfl,h1,c.clean,c.fg⟩
 . rintro bw bx aK s1 N' cj w' ⟨env',σ',rfl,h1,c,f⟩ R'
   obtain⟨y,H,c1,c2,c3,c4⟩:=w2 h1 c f (by omega);obtain⟨L,v,e⟩:=c1 _ nt _ bx cj w' rfl R';obtain⟨x,G⟩:=cU.next (s':=((gq U sh _).1,(gq U sh _).2,sh.st.length)) e0 R av e o c2 c3;grind
theorem cU.goto(T:cU aB nt gs s φ S a w)(kk:Nat){sh:Shape}{ts:I aO}{h:a8 U.D ts}(aa:n9 kk [] sh ts s.1 s.2.1 s.2.2=some h)(c:Nat.ble kk s.2.2:=by rfl)(g:aB.k<=kk:=by exact j2 _):
 ∃bw bx,cU aB nt gs ((gq U sh (a8.cells U.D ts h)).1,(gq U sh (a8.cells U.D ts h)).2,sh.st.length) bw bx a w/\tc gs kk φ w bw w:=by
 obtain⟨⟨env1,σ1,he,aH,R,av⟩,e0⟩:=T;obtain⟨o,p,c1,c2,c3,c4⟩:=w2 aa he aH (iH c);obtain⟨j,f,e⟩:=c1 _ nt φ S a w rfl (R.qX (iH c));exact⟨j,f,cU.next e0 R av e g c2 c3⟩
theorem cU.slot(T:cU aB nt gs s φ S a w){k:Nat}{v:bU U}(g:ba s.1 k=some v):∃x v1,a.tmps[k]?=some x/\cb s.2.2 s.2.1 v v1/\ch φ w S v1 x/\v1.aJ (lt s.2.2):=by
 obtain⟨⟨env1,σ1,he,aH,R,av⟩,e0⟩:=T;obtain⟨v1,h1,c⟩:=he k v g;obtain⟨x,e,f⟩:=R.gY k _ v1 h1 rfl;exact⟨x,v1,e,c,f,R.gX k _ v1 h1 rfl⟩
theorem cU.ptr(T:cU aB nt gs s φ S a w){k b o:Nat}(g:ba s.1 k=some (.c (.ptr b o))):a.tmps[k]?=some (.pointer (some ⟨(φ b).1,o,none⟩)):=by
 obtain⟨x,v1,h1,e,f,_⟩:=T.slot g;have:=e.hQ;subst this;rw[h1,f.hQ]
theorem cU.mp(T:cU aB nt gs s φ S a w){k b:Nat}(g:ba s.1 k=some (.c (.mp b))):a.tmps[k]?=some (.map (some (φ b).1)):=by
 obtain⟨x,v1,h1,e,f,_⟩:=T.slot g;have:=e.C6;subst this;rw[h1,show x=_ from f.et]
theorem cU.pair(T:cU aB nt gs s φ S a w){k:Nat}{p q:Int}(g:ba s.1 k=some (.agg [.t ⟨.int .i64,p⟩,.t ⟨.int .i64,q⟩])):a.tmps[k]?=some (eJ (p,q)):=by
 obtain⟨x,v1,h1,c,e,_⟩:=T.slot g;cases c with
 |agg c=>
  cases c with
  |cons g1 g2=>
   cases g2 with
   |cons g2 g3=>
    cases g1;cases g2;cases g3;obtain⟨vs,rfl,f⟩:=e.mb;cases f with
    |cons a1 a2=>
     cases a2 with
     |cons a2 a3=>
      cases a1;cases a2;cases a3;exact h1
theorem cU.cell(T:cU aB nt gs s φ S a w){k:Nat}(g:ba s.1 k=some (.c (.t c))):∃x,a.tmps[k]?=some x/\ca w S (c.enc U) x:=by
 obtain⟨x,v1,h1,e,f,_⟩:=T.slot g;cases e with
 |c e=>cases e;exact⟨x,h1,f.et⟩
theorem cU.bool(T:cU aB nt gs s φ S a w){k:Nat}{b:J}(f:ba s.1 k=some (.c (.t ⟨.bool,b⟩))):a.tmps[k]?=some (.bool b):=by
 obtain⟨x,h1,e⟩:=T.cell f;rw[h1];cases e;rfl
theorem cU.int(T:cU aB nt gs s φ S a w){k:Nat}{n:Int}(f:ba s.1 k=some (.c (.t ⟨.int .i64,n⟩))):a.tmps[k]?=some (.int .i64 n):=by
 obtain⟨x,h1,e⟩:=T.cell f;rw[h1];cases e;rfl
theorem cU.fn(T:cU aB nt gs s φ S a w){k b:Nat}(j:ba s.1 k=some (.c (.fn f [b]))):a.tmps[k]?=some (.func (.func f) #[] #[.pointer (some ⟨(φ b).1,0,none⟩)]):=by
 obtain⟨x,v1,h1,e,g,_⟩:=T.slot j;cases e with
 |c e=>cases e;rw[h1,show x=_ from g.et];rfl
theorem cU.len(T:cU aB nt gs s φ S a w){k:Nat}{t:aO}{l:I (t.den U.D)}(f:ba s.1 k=some (.c (.t ⟨.slice t,l⟩))):l.length<=dT:=by
 obtain⟨x,h1,e⟩:=T.cell f;obtain⟨_,_,_,_,_,_,_,_,h,_⟩:=ca.j5 e;grind
theorem cU.box(T:cU aB nt gs s φ S a w){b:Nat}{cs:I (bB U)}(f:ba s.2.1 b=some (.box cs)):
 ∃(vs:I Value) (E:TypeId) (c:I C),w.heap[(φ b).1]?=some (.cells vs.toArray E (0,0))/\bc (cy s.2.2 s.2.1) cs c/\bc (bG φ w S) c vs:=by
 obtain⟨⟨env1,σ1,he,aH,R,av⟩,e0⟩:=T;obtain⟨_,y,h1,e⟩:=aH b _ f;cases e with
 |box e=>
  obtain⟨_,vs,E,g,j,_⟩:=R.b3.blk b _ h1;grind
theorem cU.put(T:cU aB nt gs (q',xs,N) φ S a w){d:Nat}{x:Value}{v:bU U}{v1:V}(j:cb N xs v v1)(aa:ch φ w S v1 x)(f:v1.aJ (lt N):=by rfl)(e:Nat.ble (d+1) nt:=by rfl):cU aB nt gs ((d,v)::q',xs,N) φ S (a.put (some d) x) w:=by
 have e:=iH e;obtain⟨⟨env1,σ1,he,aH,R,av⟩,e0⟩:=T;refine⟨⟨eO _ _ true v1,σ1,λk y c=>?_,aH,R.yM (by grind) (λ_=>aa) (λh=>by grind) (λ_=>f),av⟩,e0⟩;simp[ba]at c;split at c;simp_all[nE];obtain⟨o,h1,g⟩:=he k y c;simp_all[nE,iG]
theorem cU.new(T:cU aB nt gs (q',xs,N) φ S a w)(o:Obj):cU aB nt (w.heap.size::gs) (q',xs,N+1) (e3 φ N (w.heap.size,0)) S a (w.alloc o):=by
 obtain⟨⟨env1,σ1,he,aH,R,av⟩,e0⟩:=T;have cM:lt N N=false:=AP (e' _);refine⟨⟨env1,σ1,he.mono (dI.more (xP _)),aH.mono (xP _),((R.alloc o).vp λb h=>uK cM h).more λb h=>FZ (xP _) h,λb x aa h0=>?_⟩,λg h=>?_⟩;rw[uK cM (R.ei b x aa).1]at h0⊢;have:=(R.b3.blk b x aa).j3 h0;grind
 . rcases fk.1 h with rfl|h
   exact⟨by simp,λj c=>by have:=R.b3.st _ _ c;omega⟩;have:=e0 g h;exact⟨by simp;omega,this.2⟩
theorem cU.num(T:cU aB nt gs (q',xs,N) φ S a w)(q:Nat):cU aB nt gs (q',xs,N+1) (e3 φ N (q,0)) S a w:=by
 obtain⟨⟨env1,σ1,he,aH,R,av⟩,e0⟩:=T;have cM:lt N N=false:=AP (e' _);refine⟨⟨env1,σ1,he.mono (dI.more (xP _)),aH.mono (xP _),(R.vp λb h=>uK cM h).more λb h=>FZ (xP _) h,λb x aa h0=>?_⟩,e0⟩;rw[uK cM (R.ei b x aa).1]at h0⊢;grind
theorem cU.drew(T:cU aB nt gs s φ S a w):cU aB nt gs s φ S a w.drew:=
 let⟨⟨env1,σ1,he,aH,R,av⟩,e0⟩:=T;⟨⟨env1,σ1,he,aH,R.drew,av⟩,e0⟩
theorem cU.write(T:cU aB nt gs s φ S a w){g:Nat}(o:g∈gs)(p:aB.kV.heap.size<=g)(h1:w'.os=w.os)(e:w'.tape=w.tape)(f:w'.output=w.output)(j:w'.heap.size=w.heap.size)(bu:∀b,b≠g->w'.heap[b]?=w.heap[b]?):cU aB nt gs s φ S a w':=by
 obtain⟨⟨env1,σ1,he,aH,R,av⟩,e0⟩:=T;refine⟨⟨env1,σ1,he,aH,R.world _ h1 e f (vf j.symm) (λb _ c=>bu b c) (λb c=>?_),av⟩,λb h=>by grind⟩;grind
theorem cU.extend(T:cU aB nt gs s φ S a w)(e:Ext (λ_=>False) S bx w w')(o:∀b j,bx b j->b<w'.heap.size):cU aB nt gs s φ bx a w':=by
 obtain⟨⟨env1,σ1,he,aH,R,av⟩,e0⟩:=T;refine⟨⟨env1,σ1,he,aH,R.extend e o,av⟩,λg h=>⟨j0 (e0 g h).1 e.size,λj f=>?_⟩⟩;rcases e.l0 g j f with c|c|c
 all_goals grind
theorem cU.st(T:cU aB nt gs s φ S a w):∀b j,S b j->b<w.heap.size:=let⟨⟨_,_,_,_,R,_⟩,_⟩:=T;R.b3.st
theorem cU.ext(T:cU aB nt gs s φ S a w):Ext aB.B aB.yJ S aB.kV w:=let⟨⟨_,_,_,_,R,_⟩,_⟩:=T;R.ext
theorem cU.defers(T:cU aB nt gs s φ S a w):a.defers=[]:=let⟨⟨_,_,_,_,R,_⟩,_⟩:=T;R.defers
theorem cU.enter{args:I (bU U)}{a:I V}(y:bc (cb N []) args a)(p:bc (ch φ w S) a vs)(f:V.aJ.V.d' (lt N) a)(o:∀b j,S b j->b<w.heap.size)(aL:a.length<=nt)(e0:∀g,g∈gs->g<w.heap.size/\∀j,¬S g j):
 cU (U:=U) ⟨w,S,λ_=>False,φ,0⟩ nt gs (n3 0 args,[],N) φ S {tmps:=vs.toArray++Array.replicate (nt-vs.toArray.size) undef,defers:=[]} w:=by
 refine⟨⟨gf 0 a,[],?_,λb x h=>by grind[ba],Rel.enter p f o aL,λb x h=>by grind[aZ]⟩,e0⟩;intro k v A;have key:∀{xs:I _} {c:I V} {i:Nat},bc (cb N []) xs c->ba (n3 i xs) k=some v->∃v1,look (gf i c) k=some (true,v1)/\cb N [] v v1:=by
  intro xs;induction xs with
  |nil=>grind[n3,ba]
  |cons x xs ih=>
   intro c i q e;cases q with
   |cons h1 t=>
    simp[n3,ba]at e;simp[gf,look];split at e;simp_all;simp_all[aq,iG]
 grind
theorem cb.vA{xs:I (bU U)}{a:I V}{c:bm U}(h:bc (cb N c) xs a):cb N c (.bd xs) (.bd a):=
 .bd _ _ h.length λi x d aa g=>by
  obtain⟨e,aK,f⟩:=h.get aa;grind
theorem ch.vA{vs:I V}{xs:I Value}(h:bc (ch φ w S) vs xs):ch φ w S (.bd vs) (.tuple xs.toArray):=
 .bd _ _ h.length λi x d aa e=>by
  obtain⟨a,aK,c⟩:=h.get aa;grind
theorem ch.An(k:Int×Int):ch φ w S (.agg [.t (.int .i64 k.1),.t (.int .i64 k.2)]) (eJ k):= .agg (.cons (ca.int _ _) (.cons (ca.int _ _) .nil))
theorem cb.An{a:bm U}(k:Int×Int):cb N a (.agg [.t ⟨.int .i64,k.1⟩,.t ⟨.int .i64,k.2⟩]) (.agg [.t (.int .i64 k.1),.t (.int .i64 k.2)]):= .agg (.cons (.t _) (.cons (.t _) .nil))
theorem IX{b:Nat}{o:Obj}(h:b≠q):(ChangeMaps.setBlock w q o).heap[b]?=w.heap[b]?:=by
 simp[ChangeMaps.setBlock,ee h]
theorem ab5{o:Obj}(h:q<w.heap.size):(ChangeMaps.setBlock w q o).heap[q]?=some o:=by
 grind[ChangeMaps.setBlock]
theorem cU.set(T:cU aB nt gs s φ S a w)(o:Obj)(e:q∈gs)(f:aB.kV.heap.size<=q):cU aB nt gs s φ S a (ChangeMaps.setBlock w q o):=
 T.write e f rfl rfl rfl (by simp[ChangeMaps.setBlock]) λb c=>IX c
theorem gO{k:Nat}{x:Value}(h:a.tmps[k]?=some x):a.eval (.tmp k)=x:=by simp[Act.eval,h]
section
variable {ops:Array Oper}{Q:Exit->Act->World->Prop}{i:Nat}{rest:bb}{o:Oper}
theorem o7(b:ops[i]?=some o){d:Nat}(e:o.dst=some d)(av:o.guard=none){x:Value}(c:(execOp a.eval o).run P w= .ok (.value x) w')(h:wpOps P ops Q rest (a.put (some d) x) w'):wpOps P ops Q (i::rest) a w:=by
 simp[wpOps,b,Region.wanted,av,Oper.wp,c];refine .inl ?_;show wpOps P _ Q _ _ w';grind
theorem Wa(c:ops[i]?=some o)(b:o.dst=none)(av:o.guard=none)(d:(execOp a.eval o).run P w= .ok .skip w')(h:wpOps P ops Q rest a w'):wpOps P ops Q (i::rest) a w:=by
 simp[wpOps,c,Region.wanted,av,Oper.wp,d];refine .inl ?_;show wpOps P _ Q _ _ w';rw[b];exact h
theorem Hj(g:ops[i]?=some o){d:Nat}(k:o.dst=some d)(av:o.guard=none){args b:Array Value}(j:(execOp a.eval o).run P w= .ok (.enter f b) w)(c:b=args)(h:Calls P f args w λe w'=>∃v,e= .returned v/\wpOps P ops Q rest (a.put (some d) v) w'):wpOps P ops Q (i::rest) a w:=by
 subst c;simp[wpOps,g,Region.wanted,av,Oper.wp,j];refine .inl (h.mono ?_);grind
end
theorem Qx{α:Type}{o:ai α}{d:α}(h:o.isSome):o=some (o.getD d):=by cases o<;>simp_all
theorem qq(L:bb){id:Nat}{ops:Array Oper}(h:wpOps P ops Q L a w)(b:List.range ops.size=L:=by kernel_rfl):(Code.region id ops false).wp P Q a w:=wp_region (b▸h)
def sl(ops:Array Oper)(k m:Nat):I Oper:=(ops.toList.drop k).take m
theorem agP{ops:Array Oper}{k m:Nat}(i:Nat)(h:i<(sl ops k m).length):(sl ops k m)[i]?=ops[k+i]?:=by
 grind[sl]
theorem cU.op (T:cU aB nt gs s φ S a w)(kk:Nat)(k m:Nat)(env:I (Nat×dO))(st:I dZ){h:a8 U.D (eI env st)}{ops:Array Oper}{L:bb}{Q:Exit->Act->World->Prop}{fs:I (cT U)}(g:jd P fs)
 (aa:oY (hN fs) none ((hJ P nt ops (sl ops k m)).getD []) s.2.2 [] [] s.1 s.2.1 (λgl e σ=>n9 kk [] ⟨env,st⟩ (eI env st) (uO gl e) σ (s.2.2+16*((hJ P nt ops (sl ops k m)).getD []).length))=some h)
 (f:∀bw bx cj w',cU aB nt gs ((gq U ⟨env,st⟩ (a8.cells U.D (eI env st) h)).1,(gq U ⟨env,st⟩ (a8.cells U.D (eI env st) h)).2,st.length) bw bx cj w'->tc gs kk φ w bw w'->wpOps P ops Q (L.drop m) cj w')
 (p:(hJ P nt ops (sl ops k m)).isSome=true:=by kernel_rfl)(o:Nat.ble kk s.2.2=true:=by rfl)(j:aB.k<=kk:=by exact j2 _)(c:List.range' k (sl ops k m).length++L.drop m=L:=by kernel_rfl):wpOps P ops Q L a w:=by
 rw[<-c];exact T.ops g k (Qx p) agP (iH o) j aa f
theorem cU.hg(T:cU aB nt gs s φ S a w)(kk:Nat)(outs:I jq){o:eM U outs}{fs:I (cT U)}(c:jd P fs)
 (aa:kW (hN fs) (λ_=>none) kk ((resolve P nt code).getD .skip) 0 s.1 s.2.1 s.2.2 (pd kk outs)=some o)
 (j:∀bw bx cj w',cU aB nt gs (gG outs o).2 bw bx cj w'->tc gs kk φ w bw w'->Q (gG outs o).1 cj w')
 (g:(resolve P nt code).isSome=true:=by kernel_rfl)(f:Nat.ble kk s.2.2=true:=by rfl)(e:aB.k<=kk:=by exact j2 _):code.wp P Q a w:=by
 refine wp_mono (T.piece c (Qx g) (iH f) e aa) ?_;grind
theorem ld1{o:Oper}{ty:TypeId}(g:o.op= .load ty x)(ak:nL P ty=some (false,1)){b off:Nat}(aa:a.eval x= .pointer (some ⟨b,off,none⟩))(ad:w.heap[b]?=some (.cells vs.toArray E (0,0)))(e:vs[off]?=some v):
 (execOp a.eval o).run P w= .ok (.value v) w:=by
 obtain⟨h1,c,d⟩:=Kl ak;have:(loadVar ty ⟨b,off,none⟩).run P w= .ok v w:=by
  have:=MK h1 c (vs:=[v]) (λj f=>by
   have:j=0:=(by grind);subst this
   rw[jv ad,ve,e];rfl) rfl d
  grind
 simp_all [execOp,Instr.loadAt,Instr.sureAddr]
theorem cU.ret{fn:Func}{R:Ending->World->Prop}(T:cU aB nt gs s φ S a w){t:Nat}(g:fn.results=#[.tmp t])(f:ba s.1 t=some (.c (.t c)))(h:∀x,ca w S (c.enc U) x->R (.returned x) w):bodyPost P fn R .ret a w:=by
 obtain⟨x,h1,e⟩:=T.cell f;refine⟨T.defers,x,?_,h x e⟩;simp_all[Nz,ye]
def pv(S:dy)(w:World)(bx:dy)(w':World):Prop:=Ext (λ_=>False) S bx w w'/\∀b j,bx b j->b<w'.heap.size
theorem pv.heap(h:pv S w bx w'){b:Nat}{o:Obj}(a:w.heap[b]?=some o):w'.heap[b]?=some o:=by
 rw[h.1.block b (zB.1 a).1 (λx=>x)];grind
theorem qt{d:Nat}{x:Value}(h:d<a.tmps.size):(a.put (some d) x).tmps[d]?=some x:=by grind[Act.put]
theorem cU.size(T:cU aB nt gs s φ S a w):a.tmps.size=nt:=let⟨⟨_,_,_,_,R,_⟩,_⟩:=T;R.size
def Oh(P:Program)(t:TypeId):J:=match P.underlying t with
 |some (.map fj b)=>match P.underlying fj with
  |some (.array 2 it)=>match P.underlying it,P.info? it,P.info? b with
   |some (.int .i64),some i,some a=>Nat.beq i.size 1&&(match a.zero with
    |some (.bool false)=>true
    |_=>false)
   |_,_,_=>false
  |_=>false
 |_=>false
theorem oc.of{t:TypeId}(h:Oh P t):oc P t:=by
 unfold Oh at h
 (repeat' split at h)<;>simp at h
 rename_i h1 _ _ f _ _ _ _ a c bu _ e;exact⟨_,_,_,_,_,by omega,by grind,a,c,h,bu,e⟩
section
variable {o:Oper}{ty:TypeId}{r:Nat}{es:Array MapEntry}{c6:Nat}{ks:I (Int×Int)}
theorem akS{k:Operand}(d:o.op= .lookup ty x k false)(b:oc P ty)(aa:a.eval x= .map (some r))(c:a.eval k=eJ p)(ad:w.heap[r]?=some (.map es c6))(hs:jH ks es.toList):
 (execOp a.eval o).run P w= .ok (.value (.bool (iX ks p))) w:=by
 have:=aeN b ad hs p;simp_all[execOp]
theorem akZ(c:o.op= .makeMap ty (some x))(b:oc P ty){k:IntKind}{n:Int}(aa:a.eval x= .int k n):
 (execOp a.eval o).run P w= .ok (.value (.map (some w.heap.size))) (w.alloc (.map #[] 0)):=by
 obtain⟨fj,f,it,i,e,d,_⟩:=b.ex;simp_all[execOp,Instr.makeMap,run_underlying,asInt,asIntOf]
theorem aif(d:o.op= .alloc ty){z:Value}(b:(P.info? ty).bind TypeInfo.zero=some z)(h1:z.cells=#[z]):
 (execOp a.eval o).run P w= .ok (.value (.pointer (some ⟨w.heap.size,0,none⟩))) (w.alloc (.cells #[z] ty (0,0))):=by
 obtain⟨i,c,b⟩:=lp.1 b;simp_all[execOp,Instr.alloc,zeroValue,typeInfo,newVar,newRow]
theorem st1(e:o.op= .store ty x y)(d:eK P ty=some 1){b:Nat}{u:Value}(aa:a.eval x= .pointer (some ⟨b,0,none⟩))(al:a.eval y=v)(f:v.cells=#[v])(h1:v.oneCell')(ad:w.heap[b]?=some (.cells #[u] E (0,0))):
 ∃w',(execOp a.eval o).run P w= .ok .skip w'/\w'.os=w.os/\w'.tape=w.tape/\w'.output=w.output/\w'.heap.size=w.heap.size/\w'.heap[b]?=some (.cells #[v] E (0,0))/\∀c:Nat,c≠b->w'.heap[c]?=w.heap[c]?:=by
 obtain⟨w',h,bj,bq,b4,cv,cZ,c7⟩:=nw (P:=P) [v] 0 0 _ w ad (by simp) (by grind);refine⟨w',?_,bj,bq,b4,cv,by simpa[jC]using cZ,c7⟩;simp_all[execOp,Instr.storeAt,Instr.sureAddr,storeVar,jQ]
theorem akV{ops:Array Oper}{i:Nat}{rest:bb}(f:ops[i]?=some o)(d:o.dst=none)(av:o.guard=none)(g:o.op= .store ty x y)(e:eK P ty=some 1){b:Nat}{u:Value}(aa:a.eval x= .pointer (some ⟨b,0,none⟩))(al:a.eval y=v)(j:v.cells=#[v])(h1:v.oneCell')(ad:w.heap[b]?=some (.cells #[u] E (0,0)))
 (h:∀w':World,w'.os=w.os->w'.tape=w.tape->w'.output=w.output->w'.heap.size=w.heap.size->w'.heap[b]?=some (.cells #[v] E (0,0))->(∀c:Nat,c≠b->w'.heap[c]?=w.heap[c]?)->wpOps P ops Q rest a w'):wpOps P ops Q (i::rest) a w:=
 let⟨w',h0,bj,bq,b4,cv,cZ,c7⟩:=st1 g e aa al j h1 ad
 Wa f d av h0 (h w' bj bq b4 cv cZ c7)
theorem alO{k:Operand}(j:o.op= .mapUpdate ty x k y)(g:oc P ty)(aa:a.eval x= .map (some r))(i:a.eval k=eJ p)(al:a.eval y= .bool true)(ad:w.heap[r]?=some (.map es c6))(hs:jH ks es.toList)(f:oO es.toList c6):
 ∃b c,(execOp a.eval o).run P w= .ok .skip {w with heap:=w.heap.setIfInBounds r (.map b c)}/\jH (oe ks p) b.toList/\oO b.toList c:=by
 obtain⟨b,c,h1,d,e⟩:=Ts g ad hs f p;exact⟨b,c,by simp_all[execOp],d,e⟩
theorem akW{ops:Array Oper}{i:Nat}{rest:bb}(l:ops[i]?=some o)(f:o.dst=none)(av:o.guard=none){k:Operand}(m:o.op= .mapUpdate ty x k y)(j:oc P ty)(aa:a.eval x= .map (some r))(g:a.eval k=eJ p)(al:a.eval y= .bool true)(ad:w.heap[r]?=some (.map es c6))(hs:jH ks es.toList)(e:oO es.toList c6)
 (h:∀b c,jH (oe ks p) b.toList->oO b.toList c->wpOps P ops Q rest a {w with heap:=w.heap.setIfInBounds r (.map b c)}):wpOps P ops Q (i::rest) a w:=
 let⟨b,c,h0,h1,d⟩:=alO m j aa g al ad hs e
 Wa l f av h0 (h _ _ h1 d)
theorem alh(d:o.op= .range ty x)(b:oc P ty)(aa:a.eval x= .map (some r))(ad:w.heap[r]?=some (.map es c6)):
 (execOp a.eval o).run P w= .ok (.value (.pointer (some ⟨w.heap.size,0,none⟩))) (w.alloc (.mapIter (some r) c6 #[] c6)):=by
 obtain⟨fj,f,it,i,e,c,_⟩:=b.ex;have:=run_range_map w ty _ _ r es _ c ad;simp_all[execOp]
theorem ak4(g:o.op= .next x false)(aa:a.eval x= .pointer (some ⟨q,0,none⟩))(f:w.heap[q]?=some (.mapIter (some r) c6 seen c6))(ad:w.heap[r]?=some (.map es c6))(d:oO es.toList c6):
 ((leftOf es seen).size=0/\(execOp a.eval o).run P w= .ok (.value (.tuple #[.bool false])) w)\/
 ∃e∈(leftOf es seen).toList,∃b:World,(b=w\/b=w.drew)/\(execOp a.eval o).run P w= .ok (.value (.tuple #[.bool true,e.key,e.val])) (ChangeMaps.setBlock b q (.mapIter (some r) c6 (seen.push e.born) c6)):=by
 rcases run_next_at (P:=P) w o.type q r _ _ _ es _ f ad d.1 (e' _)with⟨h1,c⟩|⟨e,he,b,h1,c⟩;simp_all[execOp];exact .inr ⟨e,he,b,h1,by simp_all[execOp]⟩
theorem akU{ops:Array Oper}{i:Nat}{rest:bb}(m:ops[i]?=some o){d:Nat}(l:o.dst=some d)(av:o.guard=none)(f:o.op= .next x false)(aa:a.eval x= .pointer (some ⟨q,0,none⟩))(j:w.heap[q]?=some (.mapIter (some r) c6 seen c6))(ad:w.heap[r]?=some (.map es c6))(c:oO es.toList c6)
 (h0:(leftOf es seen).size=0->wpOps P ops Q rest (a.put (some d) (.tuple #[.bool false])) w)(h1:∀e,e∈(leftOf es seen).toList->∀b,(b=w\/b=w.drew)->wpOps P ops Q rest (a.put (some d) (.tuple #[.bool true,e.key,e.val])) (ChangeMaps.setBlock b q (.mapIter (some r) c6 (seen.push e.born) c6))):wpOps P ops Q (i::rest) a w:=by
 rcases ak4 (P:=P) f aa j ad c with⟨g,k⟩|⟨e,he,b,n,k⟩;grind[o7];grind[o7]
theorem akq(d:o.op= .entry x)(aa:a.eval x= .pointer (some ⟨q,0,none⟩)){e:MapEntry}(c:w.heap[q]?=some (.mapIter (some r) c6 (seen.push e.born) c6))(ad:w.heap[r]?=some (.map es c6))(he:e∈es.toList)(b:oO es.toList c6):
 (execOp a.eval o).run P w= .ok (.value (.tuple #[e.key,e.val])) w:=by
 have:=run_entry_at (P:=P) w q r _ _ es _ e c ad he b.2;simp_all[execOp]
end
theorem pv.refl(h:∀b j,S b j->b<w.heap.size):pv S w S w:=⟨Ext.refl,h⟩
theorem fS.hand{gm:I dO}{F:a8 U.D (aW f gm (ad .bool)).ts->ai (a8 U.D (aW f gm (ad .bool)).us)}(p:h5 P f)
 (h:∀(x:a8 U.D (aW f gm (ad .bool)).ts) (b:J),F x=some b->∀(φ:dx) (S:dy) (w:World) (a:I V) (vs:I Value),(∀b j,S b j->b<w.heap.size)->bc (cb 0 []) (kL gm (a8.cells U.D _ x)).1 a->bc (ch φ w S) a vs->V.aJ.V.d' (lt 0) a->
  Calls P f vs.toArray w λe w'=>∃bx,e= .returned (.bool b)/\pv S w bx w'):fS P ((aW f gm (ad .bool)).s F):=by
 refine⟨p,λx b aa a σ1 g aH φ S w B v H G o vs A=>?_⟩;refine(h x b aa φ S w a vs v.st g A o).mono ?_
 rintro e w' ⟨bx,rfl,k⟩;refine⟨_,.c _,φ,bx,[],0,rfl,⟨rfl,.c (.t _),λb x h=>by simp[ba,cT.rest,eQ.s,h9]at h⟩,ch.pC b,rfl,⟨λb x aa=>by simp[aZ]at aa,λb E x y aa=>by simp[aZ]at aa,k.2⟩,λb x aa=>by simp[aZ]at aa,⟨k.1.os,k.1.tape,k.1.output,k.1.size,λb h _=>k.1.block b h (λx=>x),k.1.mono,λb j q=>?_⟩,λb x aa=>by grind[aZ],λ_ _=>rfl⟩;rcases k.1.l0 b j q with h|h|h
 all_goals grind
end
end
end Go.Proofs.YtkbmjabicjpmjaaGreatDoor.Shv
