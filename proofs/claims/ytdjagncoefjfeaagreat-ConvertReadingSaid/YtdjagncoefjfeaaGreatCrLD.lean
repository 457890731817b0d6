/- The library of this proof, part D: an abstract machine for the code of the program, and its soundness. -/
import Derived.KernelRfl
import Derived.Shelf.Strings.Builder1
import Derived.ChangeArms
import Derived.ChangeStays
import Derived.ChangeSame
import Derived.SizedLaws
import Derived.Below
import Derived.WalkKit
import Derived.ProofKit
import Derived.OpenShut
import Derived.Laws.BitsLemmas
import Derived.Laws.Bits64
import Derived.Shelf.GgSortFunc.InsertionK
import Derived.Shelf.SlSortCmp.Insertion
import Derived.Sort.AssemblyPlain
import Derived.Lib.BitFns
import Derived.Test.YtdjagncoefjfeaaGreatCrLC

namespace Go.Proofs.YtdjagncoefjfeaaGreat.Shv
set_option linter.all false
section
open Go
variable {xb:a6}
variable {U:cM}{R:Type}
def og(gl:ez)(gd:Option (Nat×Bool))(dst:Option Nat):Bool:=
 match dst with
 |none=>true
 |some d=>(gl.all λe=>!(Nat.beq e.1 d) && !(Nat.beq e.2.1 d))&&(match gd with
  |some g=>!(Nat.beq g.1 d)
  |none=>true)
def f'(dst:Option Nat)(v:bB U)(env:bW U):bW U:=
 match dst with
 |none=>env
 |some d=>(d,v)::env
def ie(gl:ez)(gd:Option (Nat×Bool))(dst:Option Nat):ez:=
 match gd,dst with
 |some g,some d=>(d,g)::gl
 |_,_=>gl
abbrev ga(U:cM):=Nat->List (cD U)
abbrev k2(U:cM):=bW U->Option (List (bB U))
def Sc(s:cD U)(getv:k2 U)(env:bW U)(J:bh U)(key:Nat):Option (bW U×bh U×a6×aL U.D s.ts):=
 match getv env with
 |none=>none
 |some vs=>match wV J 0 0 s.st (CV s.gI vs ([],[])) []with
  |(bs,c)=>match k0 c env J with
   |none=>none
   |some (env',J')=>match getv env' with
    |none=>none
    |some d=>match ta bs&&((bs.all λb=>Nat.ble (b+1) key)&&(Nat.beq bs.length s.st.length&&Nat.ble s.ew.length (bs.length+16)))with
     |false=>none
     |true=>match mq bs s.gI d,i' bs J' 0 s.st with
      |some a,some b=>match aL.dec U.D s.ts (a++b)with
       |some h=>some (env',J',bs,h)
       |none=>none
      |_,_=>none
def w8(getv:k2 U)(env:bW U)(J:bh U)(key:Nat)(k:bW U->bh U->bB U->Option R):List (cD U)->Option R
 |[]=>none
 |s::r=>match Sc s getv env J key with
  |none=>w8 getv env J key k r
  |some (env',J',bs,h)=>(s.F h)>>=λa=>match oF J' (s.rest a) 0 bs with
   |none=>none
   |some c=>if c then k env' (nc J' bs (back bs key) (s.rest a)) ((s.res a).b9 (back bs key))else none
def isNil{α:Type}:List α->Bool
 |[]=>true
 |_=>false
def FT(s:cD U)(getv:k2 U)(env:bW U):Option (aL U.D s.ts):=
 match isNil s.st&&isNil s.ew,getv env with
 |true,some vs=>match vs.all fJ,mq [] s.gI vs with
  |true,some a=>aL.dec U.D s.ts a
  |_,_=>none
 |_,_=>none
def w7(getv:k2 U)(env:bW U)(g:Bool)(k:bB U->Option R):List (cD U)->Option R
 |[]=>none
 |s::r=>match FT s getv env with
  |none=>w7 getv env g k r
  |some h=>(if g then s.F h else some (aL.ke U s.us))>>=λa=>match fJ (s.res a)with
   |true=>k (s.res a)
   |false=>none
def hasB(J:bh U)(b:Nat):Bool:=match aX J b with
 |some _=>true
 |none=>false
def bl.iD(J:bh U):bl U->Bool
 |.t _|.dP .. |.aB|.fc|.fb=>true
 |.ptr b _=>hasB J b
 |.cH b _ _ _=>hasB J b
 |.fn _ caps=>caps.all (hasB J)
 |.arr b=>match aX J b with
  |some x=>(match x.de with
   |some _=>true
   |none=>false)
  |none=>false
 |.sub .. =>false
 |.pre .. =>false
 |.dI .. =>false
 |.mp b=>hasB J b
 |.eo _=>false
 |.cI b=>match aX J b with
  |some x=>(match x.de with
   |some p=>Nat.beq p.1 1
   |none=>false)
  |none=>false
 |.dead=>false
def jB(J:bh U):bB U->Bool
 |.c x=>x.iD J
 |.agg cs=>cs.all (bl.iD J)
 |.aY vs=>go J vs
where go (J:bh U):List (bB U)->Bool
 |[]=>true
 |v::vs=>jB J v&&go J vs
def bl.iw(J:bh U):bl U->C
 |.t c=>.t (c.enc U)
 |.dP ty x o=>.dP (ty.enc U x) o
 |.aB=>.aB
 |.fc=>.fc
 |.fb=>.fb
 |.fn f caps=>.fn f caps
 |.ptr b o=>.ptr b o
 |.cH b ty i o=>.cH b (ty.sz U) i o
 |.arr b=>match aX J b with
  |some x=>(match x.de with
   |some p=>.arr b p.1 0 p.2
   |none=>.dead)
  |none=>.dead
 |.sub b a len=>.fE b 1 a len
 |.pre _ _=>.dead
 |.dI .. =>.dead
 |.mp b=>.mp b
 |.eo b=>.eo b
 |.cI b=>match aX J b with
  |some x=>(match x.de with
   |some p=>.cI b p.2
   |none=>.dead)
  |none=>.dead
 |.dead=>.dead
def hr(J:bh U):bB U->V
 |.c x=>.c (x.iw J)
 |.agg cs=>.agg (cs.map (bl.iw J))
 |.aY vs=>.aY (go J vs)
where go (J:bh U):List (bB U)->List V
 |[]=>[]
 |v::vs=>hr J v::go J vs
def gv(J:bh U):cR U->Bool
 |.box cs=>cs.all (bl.iD J)
 |.arr _ _=>true
 |.rows .. =>false
 |.set _=>true
 |.buf _ _=>true
 |.b8 _ c=>c.iD J
 |.cC .. =>false
def sj(J:bh U):cR U->bP
 |.box cs=>.box (cs.map (bl.iw J))
 |.arr ty l=>.arr (ty.sz U) (l.map (ty.enc U))
 |.rows sz _=>.arr sz []
 |.set ks=>.set ks
 |.buf E s=>.buf E s
 |.b8 E c=>.b8 E (c.iw J)
 |.cC t l i o _=>.cC (t.sz U) (l.map (t.enc U)) i o .dead
def kD(J:bh U):bh U->a7
 |[]=>[]
 |(b,x)::r=>(b,sj J x)::kD J r
def I1(J:bh U)(l:bh U):Bool:=l.all λp=>Nat.ble (p.1+1) 16&&gv J p.2
def FR(s:cD U)(getv:k2 U)(env:bW U):Option (aL U.D s.ts):=
 match isNil s.st&&Nat.ble s.ew.length 16,getv env with
 |true,some vs=>match vs.all fJ,mq [] s.gI vs with
  |true,some a=>aL.dec U.D s.ts a
  |_,_=>none
 |_,_=>none
def zG(getv:k2 U)(env:bW U)(J:bh U)(key:Nat)(k:bh U->bB U->Option R):List (cD U)->Option R
 |[]=>none
 |s::r=>match FR s getv env with
  |none=>zG getv env J key k r
  |some h=>(s.F h)>>=λa=>match jB (s.rest a) (s.res a)&&I1 (s.rest a) (s.rest a)with
   |true=>k (nc J [] (back [] key) (s.rest a)) ((s.res a).b9 (back [] key))
   |false=>none
def bl.fS:bl U->a6
 |.ptr b _|.cH b _ _ _|.arr b|.sub b _ _|.pre b _|.dI b _ _|.mp b|.eo b|.cI b=>[b]
 |.fn _ caps=>caps
 |_=>[]
def bB.fS:bB U->a6
 |.c x=>x.fS
 |.agg cs=>cs.flatMap bl.fS
 |.aY _=>[]
def lX(l:a6)(b:Nat):Bool:=l.any λc=>Nat.beq c b
def Sd(xb:a6)(s:cD U)(getv:k2 U)(env:bW U)(J:bh U)(key:Nat):Option (a6×aL U.D s.ts):=
 match getv env with
 |none=>none
 |some vs=>match wV J 0 0 s.st (CV s.gI vs ([],[])) []with
  |(bs,c)=>match isNil c&&(ta bs&&((bs.all λb=>Nat.ble (b+1) key&&((lX (vs.flatMap bB.fS) b||lX xb b)&&hasB J b))&&(Nat.beq bs.length s.st.length&&(Nat.ble bs.length s.ew.length&&Nat.ble s.ew.length (bs.length+16)))))with
   |false=>none
   |true=>match mq bs s.gI vs,i' bs J 0 s.st with
    |some a,some b=>match aL.dec U.D s.ts (a++b)with
     |some h=>some (bs,h)
     |none=>none
    |_,_=>none
def Im(n:Nat)(J:bh U)(l:bh U):Bool:=l.all λp=>Nat.ble (p.1+1) n&&gv J p.2
def wh(xb:a6)(getv:k2 U)(env:bW U)(J:bh U)(key:Nat)(k:bh U->bB U->Option R):List (cD U)->Option R
 |[]=>none
 |s::r=>match Sd xb s getv env J key with
  |none=>wh xb getv env J key k r
  |some (bs,h)=>(s.F h)>>=λa=>match jB (s.rest a) (s.res a)&&Im (bs.length+16) (s.rest a) (s.rest a),oF J (s.rest a) 0 bs with
   |true,some c=>if c then k (nc J bs (back bs key) (s.rest a)) ((s.res a).b9 (back bs key))else none
   |_,_=>none
def aee(getv:k2 U)(env:bW U)(l:List (cD U)):Bool:=l.any λs=>(FR s getv env).isSome
def aef(getv:k2 U)(env:bW U)(l:List (cD U)):Bool:=l.any λs=>(FT s getv env).isSome
def agM(gd:Option (Nat×Bool))(getv:k2 U)(env:bW U)(l:List (cD U)):Bool:=
 match gd with
 |some _=>!(aef getv env l)
 |none=>false
def aew(d:Option a6):a6:=match d with
 |some l=>l
 |none=>[]
def Iv(fo:ga U)(d:Option a6)(gd:Option (Nat×Bool))(f:Nat)(getv:k2 U)(gl:ez)(env:bW U)(J:bh U)(key:Nat)(k:bW U->bh U->bB U->Option R):Option R:=
 match gd with
 |none=>match d with
  |none=>w8 getv env J key k (fo f)
  |some xb=>match aee getv env (fo f)with
   |true=>zG getv env J key (λJ v=>k env J v) (fo f)
   |false=>wh xb getv env J key (λJ v=>k env J v) (fo f)
 |some _=>match lq gl env qx gd with
  |some g=>w7 getv env g (λv=>k env J v) (fo f)
  |none=>none
abbrev j5:=List (Nat×Bool)
def u9(nf:j5)(gl:ez):Nat->Option (Nat×Bool)->Bool
 |0,_=>false
 |_,none=>false
 |a+1,some (t,b)=>(nf.any λg=>Nat.beq g.1 t&&(g.2==b))||u9 nf gl a (aX gl t)
def kG(nf:j5)(dst:Option Nat):Bool:=
 match dst with
 |none=>true
 |some d=>nf.all λg=>!(Nat.beq g.1 d)
def Eu:bB U:= .c (.t ⟨.bool,false⟩)
def r5(fo:ga U)(d:Option a6)(o:cb)(key:Nat)(gl:ez)(nf:j5)(env:bW U)(J:bh U)(k:ez->j5->bW U->bh U->Option R):Option R:=
 match og gl o.guard o.dst&&kG nf o.dst with
 |false=>none
 |true=>match u9 nf gl qx o.guard with
  |true=>match lq gl env qx o.guard with
   |some _=>k (ie gl o.guard o.dst) nf (f' o.dst Eu env) J
   |none=>none
  |false=>match o.op with
   |.call f args=>match agM o.guard (λe=>kv gl o.guard e args) env (fo f)with
    |true=>match lq gl env qx o.guard,o.guard with
     |some g,some gd=>if g then wh (aew d) (λe=>kv gl o.guard e args) env J key (λJ v=>k (ie gl o.guard o.dst) nf (f' o.dst v env) J) (fo f)else k (ie gl o.guard o.dst) (gd::nf) (f' o.dst Eu env) J
     |_,_=>none
    |false=>Iv fo d o.guard f (λe=>kv gl o.guard e args) gl env J key λenv J v=>k (ie gl o.guard o.dst) nf (f' o.dst v env) J
   |.iJ x args=>match d,o.guard,df gl none env x with
    |none,none,some (.c (.fn f _))=>w8 (λe=>match df gl none e x,kv gl none e args with
     |some (.c (.fn i a)),some vs=>match Nat.beq i f with
      |true=>some (vs++a.map λb=>.c (.ptr b 0))
      |false=>none
     |_,_=>none) env J key (λenv J v=>k gl nf (f' o.dst v env) J) (fo f)
    |some _,none,some (.c (.fn f []))=>w7 (λe=>kv gl none e args) env true (λv=>k gl nf (f' o.dst v env) J) (fo f)
    |_,_,_=>none
   |op=>match ct gl o.guard env J key op with
    |none=>none
    |some (c,v,J')=>match o.guard with
     |none=>if c then k gl nf (f' o.dst v env) J' else none
     |some gd=>match lq gl env qx (some gd)with
      |none=>none
      |some g=>match op.neutral with
       |true=>if(c || !g) then k (ie gl o.guard o.dst) nf (f' o.dst v env) J else none
       |false=>if g then(if c then k (ie gl o.guard o.dst) nf (f' o.dst v env) J' else none)else k (ie gl o.guard o.dst) (gd::nf) (f' o.dst Eu env) J
def R7(J:bh U):bl U->List (Nat×aK)
 |.arr b=>match aX J b with
  |some (.arr t _)=>[(b,t)]
  |_=>[]
 |_=>[]
def agL(J:bh U):bB U->List (Nat×aK)
 |.c x=>R7 J x
 |.agg cs=>cs.flatMap (R7 J)
 |.aY _=>[]
def FP(gl:ez)(gd:Option (Nat×Bool))(env:bW U)(J:bh U)(xs:List aP):List (Nat×aK):=
 xs.flatMap λx=>match df gl gd env x with
  |some v=>agL J v
  |none=>[]
def AV(l:List (Nat×aK))(env:bW U)(J:bh U):Option (bW U×bh U):=
 match l with
 |[]=>none
 |_=>k0 l env J
def FQ(gl:ez)(o:cb)(env:bW U)(J:bh U):Option (bW U×bh U):=
 match o.op with
 |.slc _ x _ _=>match df gl o.guard env x with
  |some (.c (.arr b))=>match aX J b with
   |some (.arr t _)=>k0 [(b,t)] env J
   |_=>none
  |_=>none
 |.call _ args=>match o.guard with
  |some _=>AV (FP gl o.guard env J args) env J
  |none=>none
 |.bsliceT _ _ _ _ ps=>AV (FP gl o.guard env J (ps.map Prod.snd)) env J
 |.bslice _ _ _ ps=>AV (FP gl o.guard env J (ps.map Prod.snd)) env J
 |_=>none
def En(fo:ga U)(d:Option a6)(o:cb)(key:Nat)(gl:ez)(nf:j5)(env:bW U)(J:bh U)(k:ez->j5->bW U->bh U->Option R):Option R:=
 match d with
 |some xb=>r5 fo (some xb) o key gl nf env J k
 |none=>match FQ gl o env J with
  |none=>r5 fo none o key gl nf env J k
  |some p=>r5 fo none o key gl nf p.1 p.2 k
def pL(fo:ga U)(d:Option a6):List cb->Nat->ez->j5->bW U->bh U->(ez->bW U->bh U->Option R)->Option R
 |[],_,gl,_,env,J,k=>k gl env J
 |o::r,key,gl,nf,env,J,k=>En fo d o key gl nf env J λgl nf env J=>pL fo d r (key+16) gl nf env J k
def xQ(gl:ez)(k:Nat):Bool:=gl.any λe=>Nat.beq e.1 k
def clean(gl:ez):bW U->bW U
 |[]=>[]
 |(k,v)::r=>match xQ gl k with
  |true=>clean gl r
  |false=>(k,v)::clean gl r
def zH(gl:ez)(env:bW U):bW U:=
 match gl with
 |[]=>env
 |_=>clean gl env
structure eG (key:Nat)(gl:ez)(nf:j5)(env:bW U)(J:bh U)(env1:Env)(J1:a7)(G:Nat->Bool):Prop where
 gW:c3 key J G env env1
 al:gS gl env G
 eV:cv key J J1
 aE:∀g,g∈nf->cG env G (some g)=false
variable{N:Nat}{o:cb}{K:Env->a7->Prop}
section
variable {P:Program}{kk key:Nat}{J J':bh U}{J1 bp:a7}{env:bW U}{env1:Env}{G:Nat->Bool}{gl:ez}{gd:Option (Nat×Bool)}{nf:j5}{dst:Option Nat}{v:bB U}{v1:V}
theorem IQ{d:Option Nat}{k:Nat}:aX (f' d v env) k=if d=some k then some v else aX env k:=by
 cases d with
 |none=>simp[f']
 |some d=>
  simp only[f',aX];cases h:Nat.beq d k with
  |true=>rw[cV h];simp
  |false=>
   have:=hN h;simp[this]
theorem DQ{o:Option (Nat×Bool)}{g:Bool}(h:lq gl env qx o=some g):o=none\/∃t b y,o=some (t,b)/\fl env t b=some y:=by
 cases o with
 |none=>exact .inl rfl
 |some x=>
  obtain⟨t,b⟩:=x;obtain⟨y,a⟩:=abL h;grind
theorem LH(al:gS gl env G)(aE:∀g,g∈nf->cG env G (some g)=false):∀{a:Nat} {gd:Option (Nat×Bool)},u9 nf gl a gd=true->cG env G gd=false
 |0,gd,h=>by simp[u9]at h
 |a+1,none,h=>by simp[u9]at h
 |a+1,some (t,b),h=>by
  simp only[u9,hW,wE,cd,iQ]at h;rcases h with⟨⟨f,c⟩,e,h1,d⟩|h
  . have:=cV h1;grind
  . have:=LH al aE h;rw[al.aX t]at this;simp[cG,this]
theorem eG.bind(he:c3 key J' G env env1)(al:gS gl env G)(aF:cv key J' bp)(aE:∀g,g∈nf->cG env G (some g)=false)(F:ca key J' v v1)(B:gd=none\/∃t b y,gd=some (t,b)/\fl env t b=some y)(f:og gl gd dst=true)(o:kG nf dst=true):
 eG key (ie gl gd dst) nf (f' dst v env) J' (eu env1 dst (cG env G gd) v1) bp (λk=>if dst=some k then cG env G gd else G k):=by
 refine⟨λk w a=>?_,?_,aF,λg p=>?_⟩
 . rw[IQ]at a;rw[pD];split at a
   . rename_i h;cases a;rw[ae h,ae h];exact⟨v1,rfl,F⟩
   . rename_i h;rw[ak h,ak h];exact he k w a
 . cases dst with
   |none=>
    have:ie gl gd none=gl:=by cases gd<;>rfl
    rw[this];simp only[f',reduceCtorEq,b7];exact al
   |some d=>
    simp only[og,cd,c0,qe]at f;have D:∀k t b,aX gl k=some (t,b)->k≠d/\t≠d:=by
     intro k t b a;have E:∀{l:ez},aX l k=some (t,b)->(k,t,b)∈l:=by
      intro l;induction l with
      |nil=>intro h;simp[aX]at h
      |cons e r ih=>
       obtain⟨L,e⟩:=e;intro h;simp only[aX]at h;split at h
       . simp_all
       grind
     have:=f.1 _ (E a);exact⟨hN this.1,hN this.2⟩
    have A:∀t b,t≠d->fl (f' (some d) v env) t b=fl env t b:=by
     intro t b ht;unfold fl;rw[IQ,ak (by simp;exactλe=>ht e.symm)]
    have z:∀k t b,aX gl k=some (t,b)->∃y,fl (f' (some d) v env) t b=some y/\(if some d=some k then cG env G gd else G k)=((if some d=some t then cG env G gd else G t)&&y):=by
     intro k t b a;obtain⟨h1,H⟩:=D k t b a;obtain⟨y,J,K⟩:=al.held k t b a;grind
    cases gd with
    |none=>
     refine⟨λk a=>?_,λk t b a=>z k t b a⟩;by_cases j:some d=some k
     . rw[ae j];rfl
     . rw[ak j];exact al.free k a
    |some g=>
     obtain⟨t0,b0⟩:=g;have q:t0≠d:=by
      have:=f.2;simp only[qe]at this;exact hN this
     refine⟨λk a=>?_,λk t b a=>?_⟩
     . simp only[ie,aX]at a;split at a
       . cases a
       . rename_i c;rw[ak (by simp;exact hN c)];exact al.free k a
     . simp only[ie,aX]at a;split at a
       . rename_i c;cases a;have:=cV c;subst this;rcases B with h|⟨t,b,y,h,x⟩
         . cases h
         . cases h;refine⟨y,by rw[A _ _ q];exact x,?_⟩;rw[ae rfl,ak (by simp;exactλe=>q e.symm)];simp[cG,x]
       . exact z k t b a
 . obtain⟨t,b⟩:=g;have h0:=aE _ p;cases dst with
   |none=>simpa[f']using h0
   |some d=>
    simp only[kG,c0,qe]at o;have u:t≠d:=hN (o _ p);simp only[cG]at h0⊢;rw[ak (by simp;exactλe=>u e.symm)];have:fl (f' (some d) v env) t b=fl env t b:=by
     unfold fl;rw[IQ,ak (by simp;exactλe=>u e.symm)]
    rw[this];exact h0
theorem Io:ca N J Eu (.c (.t (.bool false))):= .c (.t (U:=U) ⟨.bool,false⟩)
theorem DP(h:eG key gl nf env J env1 J1 G)(c:o.guard=none\/∃t b y,o.guard=some (t,b)/\fl env t b=some y)(al:cG env G o.guard=false)(d:og gl o.guard o.dst=true)(e:kG nf o.dst=true)(f:ca (key+16) J v v1):
 DStep xb P o key env1 J1 false v1 J1/\eG (key+16) (ie gl o.guard o.dst) nf (f' o.dst v env) J (eu env1 o.dst false v1) J1 (λk=>if o.dst=some k then false else G k):=by
 have a:=DL h.gW c;rw[al]at a;refine⟨.skip a rfl,?_⟩;have:=eG.bind (dst:=o.dst) (h.gW.mono (dr.more (by omega))) h.al (h.eV.mono (Nat.le_add_right key 16)) h.aE f c d e;rw[al]at this;exact this
theorem Nb{c:Bool}(h:eG key gl nf env J env1 J1 G)(i:ct gl o.guard env J key o.op=some (c,v,J'))(d:o.guard=none\/∃t b y,o.guard=some (t,b)/\fl env t b=some y)(l:og gl o.guard o.dst=true)(m:kG nf o.dst=true):
 (cG env G o.guard=true->c=true->∃v1 bp,DStep xb P o key env1 J1 true v1 bp/\eG (key+16) (ie gl o.guard o.dst) nf (f' o.dst v env) J' (eu env1 o.dst true v1) bp (λk=>if o.dst=some k then true else G k))/\
 (cG env G o.guard=false->o.op.neutral=true->∃v1,DStep xb P o key env1 J1 false v1 J1/\eG (key+16) (ie gl o.guard o.dst) nf (f' o.dst v env) J (eu env1 o.dst false v1) J1 (λk=>if o.dst=some k then false else G k)):=by
 obtain⟨⟨v1,g,q⟩,u,aE⟩:=KK h.gW h.al h.eV i;have j:=DL h.gW d;refine⟨λal r=>?_,λal f=>?_⟩
 . obtain⟨p,bp,h1,a,n⟩:=q al r;rw[al]at j;have s:o.op.drawn=true:=by
    generalize o.op=w at i;cases w<;>first|rfl|(simp[ct]at i)
   have hs:DStep xb P o key env1 J1 true v1 (if o.op.neutral then J1 else bp):= .op j s h1 (λ_=>a) (.inr rfl);have e:(if o.op.neutral then J1 else bp)=bp:=by
    split
    . rename_i f;exact(yW f h1).symm
    . rfl
   rw[e]at hs;refine⟨v1,bp,hs,?_⟩;have:=eG.bind (dst:=o.dst) (h.gW.mono u) h.al n h.aE g d l m;rw[al]at this;exact this
 . rw[aE f]at g;obtain⟨h1,a⟩:=DP (P:=P) h d al l m g;exact⟨v1,h1,a⟩
theorem LI{x:bl U}(h:x.oB=true):x.oS.bO []=x.oS:=by
 cases x<;>simp[bl.oB]at h<;>try rfl
 rename_i f caps;cases caps with
 |nil=>rfl
 |cons=>simp[bl.oB]at h
theorem IS:∀{x:bB U},fJ x=true->(fh x).bO []=fh x
 |.c x,h=>by simp only[fJ]at h;simp only[fh,V.bO,LI h]
 |.agg cs,h=>by
  simp only[fJ,c0]at h;simp only[fh,V.bO,List.map_map]
  congr 1
  exact List.map_congr_left λc a=>LI (h c a)
 |.aY vs,h=>by
  simp only[fJ]at h;simp only[fh,V.bO];rw[go vs h]
where go:∀(vs:List (bB U)),fJ.go vs=true->V.bO.go [] (fh.go vs)=fh.go vs
 |[],_=>rfl
 |v::vs,h=>by
  simp only[fJ.go,cd]at h;simp only[fh.go,V.bO.go,IS h.1,go vs h.2]
def fO(P:Program)(fo:ga U):Prop:=∀f s,s∈fo f->s.f=f/\hO P f=true/\h3 P s
theorem IT{a:bh U}{x:bl U}{d:C}(h:cl N a x d)(hs:x.iD a=true):d=x.iw a:=by
 cases h<;>simp only[bl.iD,bV]at hs<;>try rfl
 . rename_i b sz n c aa;simp only[bl.iw];grind
 . rename_i b n c aa;simp only[bl.iw];grind
theorem C5{a:bh U}:∀{vs:List (bB U)} {i:Nat},(hr.go a vs)[i]?=(vs[i]?).map (hr a)
 |[],i=>by simp[hr.go]
 |v::vs,0=>by simp[hr.go]
 |v::vs,i+1=>by simp[hr.go,C5]
theorem TQ{a:bh U}:∀{vs:List (bB U)} {i:Nat} {v:bB U},jB.go a vs=true->vs[i]?=some v->jB a v=true
 |[],i,v,_,h=>by simp at h
 |x::vs,0,v,hs,h=>by simp[jB.go]at hs;simp at h;subst h;exact hs.1
 |x::vs,i+1,v,hs,h=>by simp[jB.go]at hs;exact TQ hs.2 (by simpa using h)
theorem Hc{a:bh U}:∀{xs:List (bl U)} {ds:List C},a' (cl N a) xs ds->(∀x,x∈xs->x.iD a=true)->ds=xs.map (bl.iw a)
 |[],[],_,_=>rfl
 |x::xs,d::ds,.cons h1 b,hs=>by
  rw[fu,<-IT h1 (hs x (by simp)),<-Hc b (λx c=>hs x (by simp[c]))]
theorem ML{a:bh U}{x:bB U}{d:V}(h:ca N a x d):jB a x=true->d=hr a x:=by
 induction h with
 |c h=>intro hs;simp only[jB]at hs;rw[IT h hs];rfl
 |agg h=>
  intro hs;simp only[jB,c0]at hs;simp only[hr];rw[Hc h hs]
 |aY xs ds af h ih=>
  intro hs;simp only[jB]at hs;simp only[hr]
  congr 1
  apply yu;intro i;rw[C5];cases b:xs[i]? with
  |none=>grind
  |some x=>
   have f:=(c5.1 b).1;have e:=eI (l:=ds) (i:=i) (by omega);rw[e,gk]
   congr 1
   exact ih i x _ b e (TQ hs b)
theorem Nc{a:bh U}{x:cR U}{y:bP}(h:h2 N a x y)(hs:gv a x=true):y=sj a x:=by
 cases h with
 |box h=>simp only[gv,c0]at hs;simp only[sj];rw[Hc h hs]
 |arr t l=>rfl
 |set ks=>rfl
 |buf E s=>rfl
 |b8 h=>simp only[gv]at hs;simp only[sj];rw[IT h hs]
 |cC=>simp[gv]at hs
 |rows=>simp[gv]at hs
theorem y9{a:bh U}:∀{l:bh U} {b:Nat},aV (kD a l) b=(aX l b).map (sj a)
 |[],b=>rfl
 |(k,x)::r,b=>by
  simp only[kD,aV,aX];cases h:Nat.beq k b with
  |true=>rw[ae (cV h)];rfl
  |false=>rw[ak (hN h)];exact y9
theorem agx{k:Nat}{c:C}:c.b9 (back [] k)=c.bA k:=by rfl
theorem Og{k:Nat}:∀{v:V},v.b9 (back [] k)=v.bA k
 |.c x=>by simp only[V.b9,V.bA,agx]
 |.agg cs=>by rfl
 |.aY vs=>by simp only[V.b9,V.bA];rw[go vs]
where go:∀(vs:List V),V.b9.go (back [] k) vs=V.bA.go k vs
 |[]=>rfl
 |v::vs=>by simp only[V.b9.go,V.bA.go];rw[Og,go vs]
theorem KS{k:Nat}:∀{s:a7},hq J1 [] (back [] k) s=lF J1 k s
 |[]=>rfl
 |(b,x)::r=>by
  simp only[hq,lF];rw[KS];rfl
theorem D':∀{ss:List fQ} {j:Nat} {a:eP U} {i:Nat} {x:cR U},aX (gE j ss a) i=some x->j<=i/\i<j+ss.length
 |[],j,a,i,x,h=>by simp[gE,aX]at h
 |s::ss,j,a,i,x,h=>by
  simp only[gE]at h;split at h
  . simp only[aX]at h;split at h
    . simp_all
    . have:=D' h;simp;omega
  . have:=D' h;simp;omega
theorem Jo{bs:a6}:∀{caps:a6},(∀c,c∈caps->pos bs c=some c)->oc bs caps=some caps
 |[],_=>rfl
 |c::cs,h=>by simp only[oc,h c (by simp),Jo (caps:=cs) (λx a=>h x (by simp[a]))]
theorem vW{d:bh U}(j:∀b x,aX d b=some x->b<N){x:bl U}(hs:x.iD d=true):cl N d x (x.iw d)/\dz ((x.iw d).bO (List.range N)) (x.iw d):=by
 have e:∀b,hasB d b=true->pos (List.range N) b=some b:=by
  intro b h;unfold hasB at h;split at h
  . rename_i y a;exact mP FK (by simp[j b y a])
  . cases h
 cases x with
 |t c=>exact⟨.t c,dz.refl _⟩
 |ptr b o=>
  simp only[bl.iD]at hs;refine⟨.ptr b o,?_⟩;simp only[bl.iw,C.bO,e b hs];exact dz.refl _
 |cH b ty i o=>
  simp only[bl.iD]at hs;refine⟨.cH b ty i o,?_⟩;simp only[bl.iw,C.bO,e b hs];exact dz.refl _
 |dP ty x o=>exact⟨.dP ty x o,dz.refl _⟩
 |arr b=>
  simp only[bl.iD]at hs;split at hs
  . rename_i y a;split at hs
    . rename_i p g;simp only[bl.iw,a,g];refine⟨.arr b p.1 p.2 (j b y a) λz l q k=>?_,?_⟩
      . grind
      . simp only[C.bO,e b (by simp[hasB,a])];exact dz.refl _
    . cases hs
  . cases hs
 |dI b n len=>simp[bl.iD]at hs
 |sub b n len=>simp[bl.iD]at hs
 |pre b h=>simp[bl.iD]at hs
 |mp b=>
  simp only[bl.iD]at hs;refine⟨.mp b,?_⟩;simp only[bl.iw,C.bO,e b hs];exact dz.refl _
 |eo b=>simp[bl.iD]at hs
 |cI b=>
  simp only[bl.iD]at hs;split at hs
  . rename_i y a;split at hs
    . rename_i p g;simp only[bl.iw,a,g];refine⟨.cI b p.2 (j b y a) λz l q k=>?_,?_⟩
      . rw[a]at l;cases l;rw[g]at k;cases k;have:=cV hs;grind
      . simp only[C.bO,e b (by simp[hasB,a])];exact dz.refl _
    . cases hs
  . cases hs
 |aB=>exact⟨.aB,dz.refl _⟩
 |fc=>exact⟨.fc,dz.refl _⟩
 |fb=>exact⟨.fb,dz.refl _⟩
 |fn f caps=>
  simp only[bl.iD,c0]at hs;refine⟨.fn f caps,?_⟩;have:oc (List.range N) caps=some caps:=Jo λc m=>e c (hs c m);simp only[bl.iw,C.bO,this];exact dz.refl _
 |dead=>simp[bl.iD]at hs
theorem vM{a:bh U}(c:∀b x,aX a b=some x->b<N):∀{xs:List (bl U)},(∀x,x∈xs->x.iD a=true)->a' (cl N a) xs (xs.map (bl.iw a))/\a' dz ((xs.map (bl.iw a)).map (C.bO (List.range N))) (xs.map (bl.iw a))
 |[],_=>⟨.nil,.nil⟩
 |x::xs,hs=>by
  obtain⟨h1,d⟩:=vW c (hs x (by simp));obtain⟨e,f⟩:=vM c (xs:=xs) (λx g=>hs x (by simp[g]));exact⟨.cons h1 e,.cons d f⟩
theorem SE{a:bh U}:∀{vs:List (bB U)},(hr.go a vs).length=vs.length
 |[]=>rfl
 |v::vs=>by simp[hr.go,SE]
theorem zA{N:Nat}{a:bh U}(f:∀b x,aX a b=some x->b<N):∀{x:bB U},jB a x=true->ca N a x (hr a x)/\gr ((hr a x).bO (List.range N)) (hr a x)
 |.c x,hs=>by
  obtain⟨h1,g⟩:=vW f (x:=x) (by simpa[jB]using hs);exact⟨.c h1,.c g⟩
 |.agg cs,hs=>by
  simp only[jB,c0]at hs;obtain⟨h1,g⟩:=vM f hs;exact⟨.agg h1,.agg g⟩
 |.aY vs,hs=>by
  simp only[jB]at hs;have:=go f vs hs;refine⟨.aY _ _ (by rw[SE]) λi x d e k=>?_,.aY _ _ (by rw[C4]) λi x y e j=>?_⟩
  . rw[C5,e]at k;grind
  . rw[Dz,j]at e;simp at e;subst e;rw[C5,bd]at j;grind
where go {N:Nat} {a:bh U} (f:∀b x,aX a b=some x->b<N):∀(vs:List (bB U)),jB.go a vs=true->∀x,x∈vs->ca N a x (hr a x)/\gr ((hr a x).bO (List.range N)) (hr a x)
 |[],_=>by simp
 |v::vs,hs=>by
  simp only[jB.go,cd]at hs;have h1:=zA f hs.1;have g:=go f vs hs.2;intro x e;rcases eU.1 e with rfl|e
  . exact h1
  . exact g x e
theorem Jp {fo:ga U}(ag:fO P fo){o:cb}{f:Nat}{args:List aP}(aj:o.op= .call f args)(h:eG key gl nf env J env1 J1 G)(z:o.guard=none)(ad:og gl o.guard o.dst=true)(ae:kG nf o.dst=true)
 {k:bh U->bB U->Option R}{r:R}:∀{ss:List (cD U)},(∀s,s∈ss->s∈fo f)->zG (λe=>kv gl o.guard e args) env J key k ss=some r->
 ∃v v1 J' bp,k J' v=some r/\DStep xb P o key env1 J1 true v1 bp/\eG (key+16) (ie gl o.guard o.dst) nf (f' o.dst v env) J' (eu env1 o.dst true v1) bp (λi=>if o.dst=some i then true else G i)
 |[],_,g=>by simp[zG]at g
 |s::ss,ai,g=>by
  simp only[zG]at g;split at g
  . exact Jp ag aj h z ad ae (λs hs=>ai s (by simp[hs])) g
  . rename_i aa A;unfold FR at A;split at A
    . rename_i vs F I;simp only[cd]at F;split at A
      . rename_i a M aq;rw[c0]at M;obtain⟨aF,aS,aG⟩:=ag f s (ai s (by simp));obtain⟨p,vs1,b1,b2,b3⟩:=tl h.gW h.al I;have H:s.st=[]:=by cases H:s.st with|nil=>rfl|cons=>rw[H]at F;simp[isNil]at F
        have T:=h' F.2;obtain⟨m,hres,K⟩:=ug.1 g;split at K
        . rename_i B;simp only[cd]at B;obtain⟨ys,f1,af,an⟩:=uX (N:=key) (Jc:=([]:bh U)) (wG) (λj b aQ aA=>by simp at aA) aq
          obtain⟨S,aI,am,dh⟩:=an vs1 b2.length (λi x d g t=>by
           obtain⟨Q,h1,u⟩:=b2.get g
           rw[t]at h1;cases h1;exact u)
          have av:aL.cells U.D s.ts aa=a:=aL.fm A;have ar:s.args aa=ys:=by
           unfold cD.args;rw[av];have:=f1 [];grind
          have Y:s.iH aa=[]:=by unfold cD.iH;rw[H];rfl
          have ah:s.st.length=0:=by rw[H];rfl
          have Z:=aG aa m hres S [] (by
           rw[ar,Y,ah]
           refine a'.ly (by rw[af,aI,b2.length]) λi x d g t=>dh i x d g t) (by rw[Y];intro b x g;simp[aX]at g)
          rw[aF,ah]at Z;have aH:a' gr vs1 S:=by
           refine a'.ly aI.symm λi d Q t ay=>?_;have I:=am i d Q t ay;obtain⟨x,g,L⟩:=(b2.flip (R':=λd x=>ca key J x d) λ_ _ h=>h).get t;have hs:=M x (eM g);have:=zz L hs;subst this;rw[IS hs]at I;exact I
          have aw:=eh.conv aH (J:=[]) (λb aQ g=>by simp[aV]at g) Z;have q:∀b x,aX (s.rest m) b=some x->b<16/\gv (s.rest m) x=true:=by
           intro b x g;have aC:∀{l:bh U},aX l b=some x->(b,x)∈l:=by
            intro l;induction l with
            |nil=>intro h;simp[aX]at h
            |cons e r ih=>
             obtain⟨aT,e⟩:=e;intro h;simp only[aX]at h;split at h
             . simp_all
             grind
           have:=B.2;unfold I1 at this;rw[c0]at this;have u:=this _ (aC g);simp only[cd]at u;exact⟨by have:=h' u.1;omega,u.2⟩
          have w:∀b x,aX (s.rest m) b=some x->b<s.ew.length:=by
           intro b x g;have:=(D' g).2;omega
          have ax:eh P f vs1 [] 0 (λaN aO ak=>aN=hr (s.rest m) (s.res m)/\aO=kD (s.rest m) (s.rest m)/\ak=s.ew.length):=by
           refine eh.tidy aw ?_
           rintro aU s1 aR ⟨rfl,aK,aM⟩
           have aD:=ML aK B.1;subst aD;refine⟨List.range s.ew.length,_,_,FK,rfl,?_,?_,rfl,rfl,by simp⟩
           . exact(zA w B.1).2
           . intro b x g;rw[y9,bd]at g;obtain⟨O,C,rfl⟩:=g;obtain⟨h1,y,u,ao⟩:=aM b O C;have aJ:=Nc ao (q b O C).2;subst aJ;have ht:=y2 (bs:=List.range s.ew.length) (i:=0) (j:=b) (r:=List.range s.ew.length) (by simp[h1]) u;rw[gm]at ht;refine⟨_,ht,?_⟩;cases O with
             |box cs=>
              have n:=(q b _ C).2;simp only[gv,c0]at n;exact .box (vM w n).2
             |arr ty l=>exact .arr
             |rows sz l=>have n:=(q b _ C).2;simp[gv]at n
             |set ks=>exact .same
             |buf E s=>exact .same
             |b8 E c=>have n:=(q b _ C).2;exact .b8 (vW w (by simpa[gv]using n)).2
             |cC=>have n:=(q b _ C).2;simp[gv]at n
          have au:V.aA.V.dH (lt 0) vs1=true:=by
           refine tg λi d t=>?_;obtain⟨x,g,L⟩:=(b2.flip (R':=λd x=>ca key J x d) λ_ _ h=>h).get t;have hs:=M x (eM g);have:=zz L hs;subst this;exact(vV (N:=key) (J:=J) hs).2 _
          have al:fV env1 o.guard=some true:=by rw[z];rfl
          have aB:(kD (s.rest m) (s.rest m)).all (λx=>decide (x.1<16))=true:=by
           have az:=B.2;unfold I1 at az;have:∀{l:bh U},(l.all λp=>Nat.ble (p.1+1) 16&&gv (s.rest m) p.2)=true->(kD (s.rest m) l).all (λx=>decide (x.1<16))=true:=by
            intro l;induction l with
            |nil=>intro _;rfl
            |cons e r ih=>
             obtain⟨b,x⟩:=e;intro h;simp only[l7,cd]at h;simp only[kD,l7,cd,dw];exact⟨by have:=h' h.1.1;omega,ih h.2⟩
           grind
          have ab:ca s.ew.length (s.rest m) (s.res m) (hr (s.rest m) (s.res m))/\cv s.ew.length (s.rest m) (kD (s.rest m) (s.rest m)):=by
           refine⟨(zA w B.1).1,λb x g=>?_⟩;refine⟨w b x g,sj (s.rest m) x,by rw[y9,g];rfl,?_⟩;cases x with
           |box cs=>
            have n:=(q b _ g).2;simp only[gv,c0]at n;exact .box (vM w n).1
           |arr ty l=>exact .arr ty l
           |rows sz l=>have n:=(q b _ g).2;simp[gv]at n
           |set ks=>exact .set ks
           |buf E s=>exact .buf E s
           |b8 E c=>have n:=(q b _ g).2;exact .b8 (vW w (by simpa[gv]using n)).1
           |cC=>have n:=(q b _ g).2;simp[gv]at n
          have cr:s.ew.length<=([]:a6).length+16:=(by simpa using T);have W:=cv.Fb (key:=key) (bs:=[]) wG (by simp) cr h.eV rfl ab.2;have X:=ca.b9 (key:=key) (bs:=[]) (J:=J) wG (by simp) cr h.eV ab.1;have ap:=DN (key:=key) (bs:=[]) (Jr:=s.rest m) wG (by simp) h.eV rfl;rw[Og]at X;rw[KS]at W;refine⟨_,(hr (s.rest m) (s.res m)).bA key,_,lF J1 key (kD (s.rest m) (s.rest m)),K,.own aj al z b1 (b3 (by rw[z];rfl)) au T aB ax rfl,?_⟩;have:=eG.bind (gd:=o.guard) (dst:=o.dst) (nf:=nf) (h.gW.mono ap) h.al W h.aE X (.inl z) ad ae;rw[z]at this⊢;exact this
        . cases K
      . cases A
    . cases A
theorem KT:∀{args:List aP} {p:Prop} {vs1:List V},hy env1 args=some (p,vs1)->k6 env1 args=vs1.flatMap V.fS
 |[],p,vs1,h=>by simp[hy]at h;rw[h.2];rfl
 |x::xs,p,vs1,h=>by
  simp only[hy,bq,bd,bE]at h;obtain⟨⟨d,v0⟩,h1,⟨b,c⟩,a,_,rfl⟩:=h;have ih:=KT (p:=b) (vs1:=c) a;simp only[k6,eX]at ih⊢;rw[h1,ih]
theorem Nd{c:bh U}{x:bl U}{d:C}(h:cl N c x d):∀b,b∈x.fS->b∈d.fS:=by
 intro b a;cases h<;>simp only[bl.fS,C.fS]at a⊢<;>first|exact a|(simp at a)
theorem MM{c:bh U}:∀{xs:List (bl U)} {ds:List C},a' (cl N c) xs ds->∀b,b∈xs.flatMap bl.fS->b∈ds.flatMap C.fS
 |[],[],_,b,a=>a
 |x::xs,d::ds,.cons h1 e,b,a=>by
  simp only[eX,fY]at a⊢;rcases a with a|a
  . exact .inl (Nd h1 b a)
  . exact .inr (MM e b a)
theorem ach{e:bh U}{x:bB U}{d:V}(h:ca N e x d):∀b,b∈x.fS->b∈d.fS:=by
 intro b a;cases h with
 |c h=>exact Nd h b a
 |agg h=>exact MM h b a
 |aY=>simp[bB.fS]at a
theorem MN{c:bh U}:∀{xs:List (bB U)} {ds:List V},a' (ca N c) xs ds->∀b,b∈xs.flatMap bB.fS->b∈ds.flatMap V.fS
 |[],[],_,b,a=>a
 |x::xs,d::ds,.cons h1 e,b,a=>by
  simp only[eX,fY]at a⊢;rcases a with a|a
  . exact .inl (ach h1 b a)
  . exact .inr (MN e b a)
theorem MO{l:a6}{b:Nat}(h:lX l b=true):b∈l:=by
 simp only[lX,wE]at h;simp_all
theorem HN {fo:ga U}(ah:fO P fo){o:cb}{f:Nat}{args:List aP}(aj:o.op= .call f args)(h:eG key gl nf env J env1 J1 G)(L:o.guard=none\/∃t b y,o.guard=some (t,b)/\fl env t b=some y)(ae:og gl o.guard o.dst=true)(ag:kG nf o.dst=true)
 (M:cG env G o.guard=true){k:bh U->bB U->Option R}{r:R}:∀{ss:List (cD U)},(∀s,s∈ss->s∈fo f)->wh xb (λe=>kv gl o.guard e args) env J key k ss=some r->
 ∃v v1 J' bp,k J' v=some r/\DStep xb P o key env1 J1 true v1 bp/\eG (key+16) (ie gl o.guard o.dst) nf (f' o.dst v env) J' (eu env1 o.dst true v1) bp (λi=>if o.dst=some i then true else G i)
 |[],_,g=>by simp[wh]at g
 |s::ss,ai,g=>by
  simp only[wh]at g;split at g
  . exact HN ah aj h L ae ag M (λs hs=>ai s (by simp[hs])) g
  . rename_i bs aa q;obtain⟨aO,a5,aQ⟩:=ah f s (ai s (by simp));obtain⟨m,hres,H⟩:=ug.1 g;unfold Sd at q;split at q
    . cases q
    . rename_i vs aT;split at q;rename_i a2 a4 _;split at q
      . cases q
      . rename_i w;simp only[cd,c0]at w;obtain⟨_,ax,I,ay,az,aA⟩:=w;split at q
        . rename_i a b au X;split at q
          . rename_i a7 aH;cases q;have bT:=y3 ax;have aC:∀b,b∈bs->b<key:=λb w=>h' (I b w).1;have O:=cV ay;have a8:=h' az;have cr:=h' aA;obtain⟨p,vs1,b1,b2,b3⟩:=tl h.gW h.al aT;have aB:=zF bT X;obtain⟨ys,f1,af,ao⟩:=uX (N:=key) bT aB au
            obtain⟨S,aI,a3,dh⟩:=ao vs1 b2.length (λi x d g K=>by
             obtain⟨an,h1,T⟩:=b2.get g
             grind)
            obtain⟨a0,t1,t2⟩:=Dq bT h.eV X;have Z:aL.cells U.D s.ts aa=a++b:=aL.fm aH;have aw:s.args aa=ys:=by unfold cD.args;rw[Z,f1]
            have W:s.iH aa=gE 0 s.st b:=by unfold cD.iH;rw[Z,f1]
            have ab:=aQ aa m hres S a0 (by
             rw[aw,W,<-O]
             exact a'.ly (by rw[af,aI,b2.length]) λi x d g K=>dh i x d g K) (by rw[W,<-O];exact t2)
            rw[aO,<-O]at ab;have aR:a' gr (vs1.map (V.bO bs)) S:=by
             refine a'.ly (by simp[aI]) λi d an K a6=>?_;grind
            have aD:=eh.conv aR t1 ab;split at H
            . rename_i c B Y;simp only[cd]at B;split at H
              . rename_i aG;subst aG;have u:∀b x,aX (s.rest m) b=some x->gv (s.rest m) x=true:=by
                 intro b x g;have a9:∀{l:bh U},aX l b=some x->(b,x)∈l:=by
                  intro l;induction l with
                  |nil=>intro h;simp[aX]at h
                  |cons e r ih=>
                   obtain⟨ba,e⟩:=e;intro h;simp only[aX]at h;split at h
                   . simp_all
                   grind
                 have:=B.2;unfold Im at this;grind
                have z:∀b x,aX (s.rest m) b=some x->b<s.ew.length:=by
                 intro b x g;have:=(D' g).2;omega
                have aF:eh P f (vs1.map (V.bO bs)) (fy bs J1 0 bs) bs.length (λaY aZ am=>aY=hr (s.rest m) (s.res m)/\aZ=kD (s.rest m) (s.rest m)/\am=s.ew.length):=by
                 refine eh.tidy aD ?_
                 rintro bb s1 a1 ⟨rfl,aU,aW⟩
                 have aN:=ML aU B.1;subst aN;refine⟨List.range s.ew.length,_,_,FK,?_,?_,?_,rfl,rfl,by simp⟩
                 . unfold keeps;grind
                 . exact(zA z B.1).2
                 . intro b x g;rw[y9,bd]at g;obtain⟨Q,C,rfl⟩:=g;obtain⟨h1,y,T,F⟩:=aW b Q C;have ak:=Nc F (u b Q C);subst ak;have ht:=y2 (bs:=List.range s.ew.length) (i:=0) (j:=b) (r:=List.range s.ew.length) (by simp[h1]) T;rw[gm]at ht;refine⟨_,ht,?_⟩;cases Q with
                   |box cs=>
                    have n:=u b _ C;simp only[gv,c0]at n;exact .box (vM z n).2
                   |arr ty l=>exact .arr
                   |rows sz l=>have n:=u b _ C;simp[gv]at n
                   |set ks=>exact .same
                   |buf E s=>exact .same
                   |b8 E c=>have n:=u b _ C;exact .b8 (vW z (by simpa[gv]using n)).2
                   |cC=>have n:=u b _ C;simp[gv]at n
                have av:=DL h.gW L;have aM:(kD (s.rest m) (s.rest m)).all (λx=>decide (x.1<bs.length+16))=true:=by
                 have aJ:=B.2;unfold Im at aJ;have:∀{l:bh U},(l.all λp=>Nat.ble (p.1+1) (bs.length+16)&&gv (s.rest m) p.2)=true->(kD (s.rest m) l).all (λx=>decide (x.1<bs.length+16))=true:=by
                  intro l;induction l with
                  |nil=>intro _;rfl
                  |cons e r ih=>
                   obtain⟨b,x⟩:=e;intro h;simp only[l7,cd]at h;simp only[kD,l7,cd,dw];exact⟨by have:=h' h.1.1;omega,ih h.2⟩
                 grind
                have ad:ca s.ew.length (s.rest m) (s.res m) (hr (s.rest m) (s.res m))/\cv s.ew.length (s.rest m) (kD (s.rest m) (s.rest m)):=by
                 refine⟨(zA z B.1).1,λb x g=>?_⟩;refine⟨z b x g,sj (s.rest m) x,by rw[y9,g];rfl,?_⟩;cases x with
                 |box cs=>
                  have n:=u b _ g;simp only[gv,c0]at n;exact .box (vM z n).1
                 |arr ty l=>exact .arr ty l
                 |rows sz l=>have n:=u b _ g;simp[gv]at n
                 |set ks=>exact .set ks
                 |buf E s=>exact .buf E s
                 |b8 E c=>have n:=u b _ g;exact .b8 (vW z (by simpa[gv]using n)).1
                 |cC=>have n:=u b _ g;simp[gv]at n
                have aq:=cv.Fb (key:=key) (bs:=bs) bT aC cr h.eV Y ad.2;have ar:=ca.b9 (key:=key) (bs:=bs) (J:=J) bT aC cr h.eV ad.1;have ap:=DN (key:=key) (bs:=bs) (Jr:=s.rest m) bT aC h.eV Y;have aK:∀b,b∈bs->∃x,aV J1 b=some x:=by
                 intro b w;have F:=(I b w).2.2;unfold hasB at F;split at F
                 . rename_i x g;obtain⟨_,y,ak,_⟩:=h.eV b x g;grind
                 . cases F
                have aS:∀b,b∈bs->b∈k6 env1 args++xb:=by
                 intro b w;rw[KT b1];have A:=(I b w).2.1;rw[hW]at A;rcases A with A|A
                 . exact FA _ (MN b2 b (MO A))
                 . exact List.mem_append_right _ (MO A)
                refine⟨_,(hr (s.rest m) (s.res m)).b9 (back bs key),_,_,H,.raw aj (by rw[av,M]) rfl b1 (b3 M) bT aC aK aS cr aM aF rfl,?_⟩;have:=eG.bind (gd:=o.guard) (dst:=o.dst) (nf:=nf) (h.gW.mono ap) h.al aq h.aE ar L ae ag;simp_all
              . cases H
            . cases H
          . cases q
        . cases q
theorem Hq {fo:ga U}(W:fO P fo){o:cb}{f:Nat}{args:List aP}(w:o.op= .call f args\/(o.guard=none/\∃x q,o.op= .iJ x args/\x.get env1=some (q,.c (.fn f []))/\q))(h:eG key gl nf env J env1 J1 G)(H:o.guard=none\/∃t b y,o.guard=some (t,b)/\fl env t b=some y)(S:og gl o.guard o.dst=true)(T:kG nf o.dst=true)
 {g:Bool}(al:g=cG env G o.guard){k:bB U->Option R}{r:R}:∀{ss:List (cD U)},(∀s,s∈ss->s∈fo f)->w7 (λe=>kv gl o.guard e args) env g k ss=some r->
 ∃v v1,k v=some r/\DStep xb P o key env1 J1 g v1 J1/\eG (key+16) (ie gl o.guard o.dst) nf (f' o.dst v env) J (eu env1 o.dst g v1) J1 (λi=>if o.dst=some i then g else G i)
 |[],_,l=>by simp[w7]at l
 |s::ss,ab,l=>by
  simp only[w7]at l;split at l
  . exact Hq W w h H S T al (λs hs=>ab s (by simp[hs])) l
  . rename_i aa z;unfold FT at z;split at z
    . rename_i vs F B;simp only[cd]at F;split at z
      . rename_i a K ak;rw[c0]at K;obtain⟨av,an,aw⟩:=W f s (ab s (by simp));obtain⟨p,vs1,b1,b2,b3⟩:=tl h.gW h.al B;have A:s.st=[]:=by cases A:s.st with|nil=>rfl|cons=>rw[A]at F;simp[isNil]at F
        have aC:s.ew=[]:=by cases A:s.ew with|nil=>rfl|cons=>rw[A]at F;simp[isNil]at F
        obtain⟨u,hres,I⟩:=ug.1 l;split at I
        . rename_i ad;obtain⟨ay,az⟩:=vV (N:=key+16) (J:=J) ad;have M:=DL h.gW H;rw[<-al]at M;have aj:eG (key+16) (ie gl o.guard o.dst) nf (f' o.dst (s.res u) env) J (eu env1 o.dst g (fh (s.res u))) J1 (λi=>if o.dst=some i then g else G i):=by
           have:=eG.bind (dst:=o.dst) (h.gW.mono (dr.more (by omega:key<=key+16))) h.al (h.eV.mono (Nat.le_add_right key 16)) h.aE ay H S T;grind
          refine⟨s.res u,fh (s.res u),I,?_,aj⟩;have Y:g=true->p/\V.aA.V.dH (lt 0) vs1=true/\(fh (s.res u)).aA (lt 0)=true/\eh P f vs1 [] 0 (λaA _ _=>aA=fh (s.res u)):=?_
          . rcases w with w|⟨X,x,q,w,l,au⟩
            . exact .call w M b1 Y
            . have E:g=true:=by rw[al,X];rfl
              exact .iJ w X E l au an b1 (Y E)
          intro E;rw[ae E]at hres;obtain⟨ys,f1,af,ah⟩:=uX (N:=key) (Jc:=([]:bh U)) (wG) (λj b aB ar=>by simp at ar) ak
          obtain⟨L,aI,ag,dh⟩:=ah vs1 b2.length (λi x d l m=>by
           obtain⟨C,h1,ai⟩:=b2.get l
           rw[m]at h1;cases h1;exact ai)
          have ao:aL.cells U.D s.ts aa=a:=aL.fm z;have am:s.args aa=ys:=by
           unfold cD.args;rw[ao];have:=f1 [];grind
          have O:s.iH aa=[]:=by unfold cD.iH;rw[A];rfl
          have Z:s.st.length=0:=by rw[A];rfl
          have Q:=aw aa u hres L [] (by
           rw[am,O,Z]
           refine a'.ly (by rw[af,aI,b2.length]) λi x d l m=>dh i x d l m) (by rw[O];intro b x l;simp[aX]at l)
          rw[av,Z]at Q;have ax:a' gr vs1 L:=by
           refine a'.ly aI.symm λi d C m ap=>?_;have B:=ag i d C m ap;obtain⟨x,l,n⟩:=(b2.flip (R':=λd x=>ca key J x d) λ_ _ h=>h).get m;exact agB (K x (eM l)) B n
          refine⟨b3 (by rw[<-al];exact E),?_,az _,?_⟩
          . refine tg λi d m=>?_;obtain⟨x,l,n⟩:=(b2.flip (R':=λd x=>ca key J x d) λ_ _ h=>h).get m;exact agC (K x (eM l)) n
          . refine eh.conv ax (λb aB l=>by simp[aV]at l) (Q.mono λaD bp N' aq=>?_);exact zz aq.2.1 ad
        . cases I
      . cases z
    . cases z
where
 agB {x:bB U} {d C:V} (hs:fJ x=true) (B:gr (d.bO []) C) (n:ca key J x d):gr d C:=by
  have:=zz n hs;subst this;rw[IS hs]at B;exact B
 agC {x:bB U} {d:V} (hs:fJ x=true) (n:ca key J x d):d.aA (lt 0)=true:=by
  have:=zz n hs;subst this;exact(vV (N:=key) (J:=J) hs).2 _
theorem DC {fo:ga U}(W:fO P fo){f:Nat}{getv:k2 U}{cal:Env->List V->Prop}
 (Z:∀{env':bW U} {J2:bh U} {j:Env} {vs:List (bB U)},c3 key J2 G env' j->gS gl env' G->getv env'=some vs->∃vs1,a' (ca key J2) vs vs1/\cal j vs1)
 (he:c3 key J G env env1)(al:gS gl env G)(aF:cv key J J1){k:bW U->bh U->bB U->Option R}{r:R}:∀{ss:List (cD U)},(∀s,s∈ss->s∈fo f)->w8 getv env J key k ss=some r->
 ∃env' J2 j bp vs1,Conv kk key env1 J1 key j bp/\c3 key J2 G env' j/\gS gl env' G/\(∀t b,fl env' t b=fl env t b)/\cal j vs1/\hO P f=true/\
  Of P f vs1 bp key j (λB s1=>∃q v,k env' q v=some r/\c3 (key+16) q G env' j/\cv (key+16) q s1/\ca (key+16) q v B)
 |[],_,m=>by simp[w8]at m
 |s::ss,ab,m=>by
  simp only[w8]at m;split at m
  . exact DC W Z he al aF (λs hs=>ab s (by simp[hs])) m
  . rename_i env' J2 bs h g;obtain⟨ay,ao,az⟩:=W f s (ab s (by simp));obtain⟨aJ,hres,z⟩:=ug.1 m;unfold Sc at g;split at g
    . cases g
    . rename_i aW _;split at g;rename_i aP aS _;split at g
      . cases g
      . rename_i aR aO X;split at g
        . cases g
        . rename_i vs aB;split at g
          . cases g
          . rename_i y;simp only[cd,c0]at y;obtain⟨ai,aj,ak,am⟩:=y;split at g
            . rename_i a b ag M;split at g
              . rename_i aa aw;cases g;have bT:=y3 ai;have aC:∀b,b∈bs->b<key:=λb y=>h' (aj b y);have F:=cV ak;have ax:=h' am;obtain⟨j,bp,au,E,A,Y⟩:=zh (kk:=kk) (gl:=gl) X he aF;obtain⟨vs1,b2,ap⟩:=Z E (Y al) aB;have aq:=zF bT M;obtain⟨ys,f1,af,ae⟩:=uX (N:=key) bT aq ag
                obtain⟨H,aI,aQ,dh⟩:=ae vs1 b2.length (λi x d m C=>by
                 obtain⟨ad,h1,I⟩:=b2.get m
                 grind)
                obtain⟨aM,t1,t2⟩:=Dq bT A M;have Q:aL.cells U.D s.ts h=a++b:=aL.fm aw;have ah:s.args h=ys:=by unfold cD.args;rw[Q,f1]
                have L:s.iH h=gE 0 s.st b:=by unfold cD.iH;rw[Q,f1]
                have T:=az h aJ hres H aM (by
                 rw[ah,L,<-F]
                 exact a'.ly (by rw[af,aI,b2.length]) λi x d m C=>dh i x d m C) (by rw[L,<-F];exact t2)
                rw[ay,<-F]at T;have aA:a' gr (vs1.map (V.bO bs)) H:=by
                 refine a'.ly (by simp[aI]) λi d ad C aT=>?_;grind
                have ar:=eh.conv aA t1 T;split at z
                . cases z
                . rename_i c O;split at z
                  . rename_i av;subst av;have cr:s.ew.length<=bs.length+16:=ax;refine⟨env',J2,j,bp,vs1,au,E,Y al,λt b=>P7 X,ap,ao,?_⟩;intro aD nt φ S a w R an aN aE;refine(hF.raw (n:=lt key) (key:=key) bT aC ar (K:=λB s1=>∃q v,k env' q v=some r/\c3 (key+16) q G env' j/\cv (key+16) q s1/\ca (key+16) q v B) ?_ (λb y=>by simp[lt];exact aC b y) aD nt φ S j a w R (λb h1 _=>IK h1) an aN aE)
                    rintro B s1 N' ⟨rfl,aG,aH⟩
                    refine⟨cr,_,_,z,E.mono (DN bT aC A O),cv.Fb bT aC cr A O aH,ca.b9 bT aC cr A aG⟩
                  . cases z
              . cases g
            . cases g
where
 P8 {env:bW U} {b0:Nat} {ty:aK} {l:List (ty.den U.D)} {t:Nat} {b:Bool}:fl (r2 b0 (⟨.slice ty,l⟩:Cell U.D) env) t b=fl env t b:=by
  unfold fl;rw[D8];cases aX env t with
  |none=>rfl
  |some v=>
   cases v with
   |c x=>
    cases x with
    |arr u=>simp only[gk,bB.ck,bl.ck];cases Nat.beq u b0<;>rfl
    |cH u aV i o=>simp only[gk,bB.ck,bl.ck];cases Nat.beq u b0<;>rfl
    |pre u h=>simp only[gk,bB.ck,bl.ck];cases Nat.beq u b0<;>rfl
    |dI u aU h=>simp only[gk,bB.ck,bl.ck];cases Nat.beq u b0<;>rfl
    |_=>rfl
   |agg cs=>rfl
   |aY vs=>rfl
 P7 {l:List (Nat×aK)} {env env':bW U} {J J':bh U} {t:Nat} {b:Bool} (h:k0 l env J=some (env',J')):fl env' t b=fl env t b:=by
  induction l generalizing env J with
  |nil=>simp[k0]at h;rw[h.1]
  |cons p l ih=>
   obtain⟨c,ty⟩:=p;simp only[k0]at h;split at h
   . rename_i e s h1;have I:fl e t b=fl env t b:=by
      unfold AU at h1;split at h1
      . split at h1
        . cases h1;exact P8
        . cases h1
      . split at h1
        . cases h1;exact P8
        . cases h1
      . cases h1;rfl
     rw[ih h,I]
   . cases h
theorem KV{fo:ga U}(z:fO P fo)(h:eG key gl nf env J env1 J1 G){k:ez->j5->bW U->bh U->Option R}{r:R}(a:r5 fo (some xb) o key gl nf env J k=some r):
 ∃g v1 bp O V env' J' W,DStep xb P o key env1 J1 g v1 bp/\k O V env' J'=some r/\eG (key+16) O V env' J' (eu env1 o.dst g v1) bp W:=by
 unfold r5 at a;split at a
 . cases a
 . rename_i Q;simp only[cd]at Q;obtain⟨j,l⟩:=Q;split at a
   . rename_i bw;split at a
     . rename_i B A;have Y:=LH h.al h.aE bw;obtain⟨h1,i⟩:=DP (P:=P) h (DQ A) Y j l (Io (U:=U) (N:=key+16) (J:=J));exact⟨_,_,_,_,_,_,_,_,h1,a,i⟩
     . cases a
   . split at a
     . rename_i f args u;split at a
       . rename_i ad;split at a
         . rename_i g gd al e;have w:o.guard=none\/∃t b y,o.guard=some (t,b)/\fl env t b=some y:=by rw[e];rw[e]at al;exact DQ al
           have n:g=cG env G o.guard:=DA h.al al;split at a
           . rename_i p;obtain⟨v,v1,J',bp,h1,i,m⟩:=HN (fo:=fo) z u h w j l (by rw[<-n];exact p) (k:=λJ v=>k (ie gl o.guard o.dst) nf (f' o.dst v env) J) (λs hs=>hs) a;exact⟨_,_,_,_,_,_,_,_,i,h1,m⟩
           . rename_i p;have K:cG env G o.guard=false:=by rw[<-n];simpa using p
             have E:eG key gl (gd::nf) env J env1 J1 G:=⟨h.gW,h.al,h.eV,λB A=>by
              rcases eU.1 A with rfl|L
              . grind
              . exact h.aE B L⟩
             have I:kG (gd::nf) o.dst=true:=by
              cases C:o.dst with
              |none=>rfl
              |some d=>
               rw[C]at l j;rw[e]at j;simp only[kG,l7,cd];simp only[kG]at l;simp only[og,cd]at j;grind
             obtain⟨h1,i⟩:=DP (P:=P) E w K j I (Io (U:=U) (N:=key+16) (J:=J));exact⟨_,_,_,_,_,_,_,_,h1,a,i⟩
         . cases a
       unfold Iv at a;split at a
       . rename_i e;simp only at a;split at a
         case h_2=>
          obtain⟨v,v1,J',bp,h1,i,m⟩:=HN (fo:=fo) z u h (.inl e) j l (by rw[e];rfl) (k:=λJ v=>k (ie gl o.guard o.dst) nf (f' o.dst v env) J) (λs hs=>hs) a;exact⟨_,_,_,_,_,_,_,_,i,h1,m⟩
         rw[e]at a;obtain⟨v,v1,J',bp,h1,i,m⟩:=Jp (fo:=fo) z u h e j l (k:=λJ v=>k (ie gl o.guard o.dst) nf (f' o.dst v env) J) (λs hs=>hs) (by rw[e];exact a);exact⟨_,_,_,_,_,_,_,_,i,h1,m⟩
       . rename_i gd e;split at a
         . rename_i g al;rw[e]at a al;obtain⟨v,v1,h1,i,m⟩:=Hq (fo:=fo) z (.inl u) h (by rw[e];exact DQ al) j l (g:=g) (by rw[e];exact DA h.al al) (λs hs=>hs) (by rw[e];exact a);rw[e]at m;exact⟨_,_,_,_,_,_,_,_,i,h1,m⟩
         . cases a
     . rename_i x args u;split at a
       . contradiction
       . rename_i ae f C e Z;obtain⟨q,v1,a1,a2,a3⟩:=cw h.gW h.al Z;have:=a2.Fa;subst this;obtain⟨v,v1,h1,i,m⟩:=Hq (xb:=xb) (fo:=fo) z (.inr ⟨e,x,q,u,a1,a3 rfl⟩) h (.inl e) j l (g:=true) (by rw[e];rfl) (λs hs=>hs) (by rw[e];exact a);rw[e]at m;exact⟨_,_,_,_,_,_,_,_,i,h1,m⟩
       . cases a
     . rename_i op aa ab;split at a
       . cases a
       . rename_i c v J' D;split at a
         . rename_i e;split at a
           . rename_i F;rw[e]at D;obtain⟨v1,bp,h1,i⟩:=(Nb (P:=P) (o:=o) h (by rw[e];exact D) (.inl e) j l).1 (by rw[e];rfl) F;rw[e]at i;exact⟨_,_,_,_,_,_,_,_,h1,a,i⟩
           . cases a
         . rename_i gd e;split at a
           . cases a
           . rename_i g al;have w:o.guard=none\/∃t b y,o.guard=some (t,b)/\fl env t b=some y:=by rw[e];exact DQ al
             have n:g=cG env G o.guard:=by rw[e];exact DA h.al al
             have M:=Nb (P:=P) (o:=o) (xb:=xb) h D w j l;split at a
             . rename_i T;split at a
               . rename_i H;cases S:g with
                 |true=>
                  rw[S]at H n;simp at H;obtain⟨v1,bp,h1,i⟩:=M.1 n.symm H;have X:J'=J:=(KK h.gW h.al h.eV D).agA T;rw[X]at i;exact⟨_,_,_,_,_,_,_,_,h1,a,i⟩
                 |false=>
                  rw[S]at n;obtain⟨v1,h1,i⟩:=M.2 n.symm T;exact⟨_,_,_,_,_,_,_,_,h1,a,i⟩
               . cases a
             . split at a
               . rename_i p;split at a
                 . rename_i F;obtain⟨v1,bp,h1,i⟩:=M.1 (by rw[<-n];exact p) F;exact⟨_,_,_,_,_,_,_,_,h1,a,i⟩
                 . cases a
               . rename_i p;have K:cG env G o.guard=false:=by rw[<-n];simpa using p
                 have E:eG key gl (gd::nf) env J env1 J1 G:=⟨h.gW,h.al,h.eV,λB A=>by
                  rcases eU.1 A with rfl|L
                  . grind
                  . exact h.aE B L⟩
                 have I:kG (gd::nf) o.dst=true:=by
                  cases C:o.dst with
                  |none=>rfl
                  |some d=>
                   rw[C]at l j;rw[e]at j;simp only[kG,l7,cd];simp only[kG]at l;simp only[og,cd]at j;grind
                 obtain⟨h1,i⟩:=DP (P:=P) E w K j I (Io (U:=U) (N:=key+16) (J:=J));exact⟨_,_,_,_,_,_,_,_,h1,a,i⟩
theorem Jq{fo:ga U}(L:fO P fo)(h:eG key gl nf env J env1 J1 G){k:ez->j5->bW U->bh U->Option R}{r:R}(d:r5 fo none o key gl nf env J k=some r)
 (bD:∀C Z env' J' n bp ah,k C Z env' J'=some r->eG (key+16) C Z env' J' n bp ah->K n bp):
 ∃fW ai,Conv kk key env1 J1 key fW ai/\uY P o key fW ai K:=by
 by_cases i:r5 fo (some []) o key gl nf env J k=some r
 . obtain⟨g,v1,bp,C,Z,env',J',ah,h1,ar,au⟩:=KV L h i;exact⟨env1,J1,Conv.refl,.inl (h1.hi (bD _ _ _ _ _ _ _ ar au))⟩
 . unfold r5 at d i;split at d
   . cases d
   . rename_i I;rw[I]at i;simp only at i;simp only[cd]at I;obtain⟨y,am⟩:=I;split at d
     . rename_i bw;rw[bw]at i;exact absurd d i
     . rename_i bw;rw[bw]at i;simp only at i;split at d
       . rename_i f args m;rw[m]at i;simp only at i;split at d
         . rename_i O;rw[O]at i;exact absurd d i
         rename_i O;rw[O]at i;simp only at i;unfold Iv at d i;split at d
         . rename_i l;simp only at d;rw[l]at d;obtain⟨env',J2,n,bp,vs1,A,ao,B,ap,⟨p,M,N⟩,ak,D⟩:=DC (kk:=kk) (P:=P) L (f:=f) (getv:=λe=>kv gl none e args) (cal:=λe vs=>∃p,hy e args=some (p,vs)/\p)
            (λhe al u=>by
             obtain⟨p,vs1,b1,b2,b3⟩:=tl he al u
             exact⟨vs1,b2,p,b1,b3 rfl⟩) h.gW h.al h.eV (λs hs=>hs) d
           refine⟨n,bp,A,.inr ⟨by rw[l];rfl,f,vs1,.inl ⟨args,p,m,M,N⟩,?_⟩⟩;intro aD nt φ S a w E H af Q;refine(D aD nt φ S a w E H af Q).mono ?_
           rintro e w' ⟨v,ae,ag,bR,s1,rfl,⟨an,v3,T,W,X,Y⟩,aa,ab,ad⟩
           refine⟨v,ae,ag,bR,s1,rfl,?_,aa,ab,ad⟩
           have F:=eG.bind (gd:=none) (dst:=o.dst) (nf:=nf) W B X (λg al=>by
            obtain⟨t,b⟩:=g;have h0:=h.aE _ al;simp only[cG]at h0⊢
            grind) Y (.inl rfl) (by rw[l]at y;exact y) am
           exact bD _ _ _ _ _ _ _ T F
         . rename_i gd l;rw[l]at i d;exact absurd d i
       . rename_i x args m;split at d
         . rename_i f caps aB l aC
           obtain⟨env',J2,n,bp,vs1,A,ao,B,ap,⟨q,p,j,z,az,aA,M,N,ay⟩,ak,D⟩:=DC (kk:=kk) (P:=P) L (f:=f) (getv:=λe=>match df gl none e x,kv gl none e args with
            |some (.c (.fn aj j)),some vs=>match Nat.beq aj f with
             |true=>some (vs++j.map λb=>.c (.ptr b 0))
             |false=>none
            |_,_=>none) (cal:=λe vs=>∃ q p j z,x.get e = some (q, .c (.fn f j))/\q/\hy e args = some (p,z)/\p/\vs = z++j.map λb=>V.c (.ptr b 0))
            (λhe al u=>by
             split at u
             . rename_i aj j aF aI aq;split at u
               . rename_i av;have:=cV av;subst this;cases u;obtain⟨q,v1,a1,a2,a3⟩:=cw he al aI;have:=a2.Fa;subst this;obtain⟨p,vs1,b1,b2,b3⟩:=tl he al aq;refine⟨vs1++j.map λb=>V.c (.ptr b 0),b2.append ?_,q,p,j,vs1,a1,a3 rfl,b1,b3 rfl,rfl⟩;exact a'.map_map (a'.self (R:=λa b=>ca key _ (.c (.ptr a 0)) (.c (.ptr b 0))) (λb=>.c (.ptr b 0)) _)
               . cases u
             grind) h.gW h.al h.eV (λs hs=>hs) d
           refine⟨n,bp,A,.inr ⟨by rw[l];rfl,f,vs1,.inr ⟨x,args,q,p,j,z,m,az,aA,M,N,ak,ay⟩,?_⟩⟩;intro aD nt φ S a w E H af Q;refine(D aD nt φ S a w E H af Q).mono ?_
           rintro e w' ⟨v,ae,ag,bR,s1,rfl,⟨an,v3,T,W,X,Y⟩,aa,ab,ad⟩
           refine⟨v,ae,ag,bR,s1,rfl,?_,aa,ab,ad⟩
           have F:=eG.bind (gd:=none) (dst:=o.dst) (nf:=nf) W B X (λg al=>by
            obtain⟨t,b⟩:=g;have h0:=h.aE _ al;simp only[cG]at h0⊢
            grind) Y (.inl rfl) (by rw[l]at y;exact y) am
           exact bD _ _ _ _ _ _ _ T F
         . contradiction
         . cases d
       . rename_i op aw ax;exfalso;refine i ?_;split
         . rename_i f args m;exact absurd m (aw f args)
         . rename_i x args m;exact absurd m (ax x args)
         . exact d
theorem Hd{l:List (Nat×aK)}{p:bW U×bh U}(h:AV l env J=some p):∃l,k0 l env J=some p:=by
 unfold AV at h;grind
theorem YG{p:bW U×bh U}(h:FQ gl o env J=some p):∃l,k0 l env J=some p:=by
 unfold FQ at h;split at h
 . grind
 . split at h
   . exact Hd h
   . cases h
 . exact Hd h
 . exact Hd h
 . cases h
theorem Yx{fo:ga U}(f:fO P fo)(h:eG key gl nf env J env1 J1 G){k:ez->j5->bW U->bh U->Option R}{r:R}(a:En fo none o key gl nf env J k=some r)
 (bD:∀e i env' J' d bp j,k e i env' J'=some r->eG (key+16) e i env' J' d bp j->K d bp):
 ∃fW c,Conv kk key env1 J1 key fW c/\uY P o key fW c K:=by
 simp only[En]at a;split at a
 . exact Jq f h a bD
 . rename_i p v;obtain⟨l,af⟩:=YG v;obtain⟨aI,s1,m,n,q,s⟩:=zh (kk:=kk) (gl:=gl) af h.gW h.eV
   obtain⟨u,w,d1,d2⟩:=Jq (kk:=kk) (P:=P) f (⟨n,s h.al,q,λg al=>by
    obtain⟨t,b⟩:=g;have h0:=h.aE _ al;simp only[cG]at h0⊢
    rw[DC.P7 af];exact h0⟩:eG key gl nf p.1 p.2 aI s1 G) a bD
   exact⟨u,w,m.trans d1,d2⟩
end
end
section
open Go
variable {xb:a6}
variable {U:cM}{R:Type}
def j3(env:bW U):aP->Option a6
 |.const (.c (.t _))=>some []
 |.const (.c .aB)=>some []
 |.const (.agg _)=>some []
 |.const _=>none
 |.tmp k=>match aX env k with
  |some (.c (.ptr b _))=>some [b]
  |some (.c (.cH b _ _ _))=>some [b]
  |some (.c (.arr b))=>some [b]
  |some (.c (.sub b _ _))=>some [b]
  |some (.c (.pre b _))=>some [b]
  |some (.c (.dI b _ _))=>some [b]
  |some (.c (.mp b))=>some [b]
  |some (.c (.eo b))=>some [b]
  |some (.c (.cI b))=>some [b]
  |some (.c .dead)=>none
  |some _=>some []
  |none=>none
def zI:bl U->Bool
 |.dead=>true
 |_=>false
def zJ:bB U->Option a6
 |.c x=>match zI x with
  |true=>none
  |false=>some x.fS
 |.agg cs=>match cs.any zI with
  |true=>none
  |false=>some (cs.flatMap bl.fS)
 |.aY _=>some []
def r0(env:bW U):List aP->Option a6
 |[]=>some []
 |.const v::r=>match r0 env r with
  |some l=>some (v.fS++l)
  |none=>none
 |.tmp k::r=>match aX env k with
  |some v=>match zJ v,r0 env r with
   |some a,some l=>some (a++l)
   |_,_=>none
  |none=>none
def IN(xb:a6)(o:cL)(env:bW U)(key:Nat):Option a6:=
 match o with
 |.alloc _|.allocA _|.box _|.bslice .. |.mkset=>some [key]
 |.allocS .. =>some [key,key+1]
 |.lkset x _=>j3 env x
 |.upset x _=>j3 env x
 |.appendB _ _ x _=>match j3 env x with
  |some a=>some (key::a)
  |none=>none
 |.ustr _ x _=>j3 env x
 |.call _ args=>match r0 env args with
  |some l=>some ((List.range 16).map (key+·)++(l++xb))
  |none=>none
 |.load _ _ x=>j3 env x
 |.b2s x=>j3 env x
 |.store _ x _=>j3 env x
 |.append _ _ x y=>match j3 env x,j3 env y with
  |some a,some b=>some (key::(a++b))
  |_,_=>none
 |_=>some []
def kx(xb:a6)(o:cL)(env:bW U)(key b:Nat):Option Bool:=
 match o with
 |.alloc _|.allocA _|.box _|.bslice .. |.mkset=>some (Nat.beq b key)
 |.allocS .. =>some (Nat.beq b key||Nat.beq b (key+1))
 |.upset x _=>match j3 env x with
  |some l=>some (lX l b)
  |none=>none
 |.appendB _ _ x _=>match j3 env x with
  |some l=>some (Nat.beq b key||lX l b)
  |none=>none
 |.ustr _ x _=>match j3 env x with
  |some l=>some (lX l b)
  |none=>none
 |.store _ x _=>match j3 env x with
  |some l=>some (lX l b)
  |none=>none
 |.append _ _ x _=>match j3 env x with
  |some l=>some (Nat.beq b key||lX l b)
  |none=>none
 |.call _ args=>match r0 env args with
  |some l=>some ((Nat.ble key b&&Nat.ble (b+1) (key+16))||lX (l++xb) b)
  |none=>none
 |_=>some false
def AR(xb:a6)(aZ:List cb)(env:bW U)(N:Nat):List (Nat×Nat)->Bool
 |[]=>true
 |(i,j)::r=>(match n4 aZ i,n4 aZ j with
  |some x,some y=>match IN xb y.op env (N+16*j)with
   |some l=>l.all λb=>match kx xb x.op env (N+16*i) b with
    |some w=>!w
    |none=>false
   |none=>false
  |_,_=>true)&&AR xb aZ env N r
variable{o:cL}{gl:ez}{gh:List (Nat×Nat)}{Q:Exit->Env->a7->Nat->Prop}
section
variable {P:Program}{kk N key:Nat}{J:bh U}{J1:a7}{env:bW U}{env1:Env}{G:Nat->Bool}
theorem pz(he:c3 N J G env env1){x:aP}{l:a6}(h:j3 env x=some l):ee env1 x=l:=by
 unfold j3 at h;split at h
 . cases h;rfl
 . cases h;rfl
 . cases h;rfl
 . cases h
 . rename_i k;split at h
   all_goals (try (cases h;done))
   . rename_i b o e;cases h;obtain⟨v1,h1,a⟩:=he k _ e;have:=a.hY;subst this;simp[ee,aP.get,h1]
   . rename_i b t i o e;cases h;obtain⟨v1,h1,a⟩:=he k _ e;have:=a.jg;subst this;simp[ee,aP.get,h1]
   . rename_i b e;cases h;obtain⟨v1,h1,a⟩:=he k _ e;obtain⟨sz,n,rfl,_⟩:=a.hh;simp[ee,aP.get,h1]
   . rename_i b g len e;cases h;obtain⟨v1,h1,a⟩:=he k _ e;have:v1= .c (.fE b 1 g len):=by cases a with|c h=>cases h;rfl
     subst this;simp[ee,aP.get,h1]
   . rename_i b f e;cases h;obtain⟨v1,h1,a⟩:=he k _ e;have:∃sz,v1= .c (.arr b sz 0 f):=by cases a with|c h=>cases h;exact⟨_,rfl⟩
     obtain⟨sz,rfl⟩:=this;simp[ee,aP.get,h1]
   . rename_i b g f e;cases h;obtain⟨v1,h1,a⟩:=he k _ e;have:∃sz,v1= .c (.fE b sz g f):=by cases a with|c h=>cases h;exact⟨_,rfl⟩
     obtain⟨sz,rfl⟩:=this;simp[ee,aP.get,h1]
   . rename_i b e;cases h;obtain⟨v1,h1,a⟩:=he k _ e;have:=a.Fm;subst this;simp[ee,aP.get,h1]
   . rename_i b e;cases h;obtain⟨v1,h1,a⟩:=he k _ e;have:=a.Sn;subst this;simp[ee,aP.get,h1]
   . rename_i b e;cases h;obtain⟨v1,h1,a⟩:=he k _ e;obtain⟨n,rfl,_⟩:=a.Bb;simp[ee,aP.get,h1]
   . rename_i v c9 p q ft y m s u w r e;cases h;obtain⟨v1,h1,a⟩:=he k _ e;unfold ee;simp only[aP.get,h1,gk];cases a with
     |c a=>
      cases a with
      |ptr b o=>exact absurd rfl (c9 b o)
      |cH b t i o=>exact absurd rfl (p b t i o)
      |arr b sz n j aa=>exact absurd rfl (q b)
      |sub b g len=>exact absurd rfl (ft b g len)
      |pre b sz f j aa=>exact absurd rfl (y b f)
      |dI b sz g f j aa=>exact absurd rfl (m b g f)
      |mp b=>exact absurd rfl (s b)
      |eo b=>exact absurd rfl (u b)
      |cI b n j aa=>exact absurd rfl (w b)
      |dead d=>exact absurd rfl r
      |_=>rfl
     |agg a=>rfl
     |aY=>rfl
theorem vX{l:a6}{b:Nat}:lX l b=l.contains b:=by
 unfold lX;rw[Bool.eq_iff_iff];simp_all
theorem KW{x:bl U}{d:C}(h:cl N J x d)(a:zI x=false):d.fS=x.fS:=by
 cases h<;>first|rfl|(simp[zI]at a)
theorem Js:∀{xs:List (bl U)} {ds:List C},a' (cl N J) xs ds->xs.any zI=false->ds.flatMap C.fS=xs.flatMap bl.fS
 |[],[],_,_=>rfl
 |x::xs,d::ds,.cons h1 b,a=>by
  simp only[List.any_cons,qd]at a;simp only[eX];rw[KW h1 a.1,Js b a.2]
theorem Yy{v:bB U}{v1:V}{l:a6}(h:ca N J v v1)(af:zJ v=some l):v1.fS=l:=by
 cases h with
 |c h=>
  simp only[zJ]at af;split at af
  . cases af
  . rename_i a;cases af;exact KW h a
 |agg h=>
  simp only[zJ]at af;split at af
  . cases af
  . rename_i a;cases af;exact Js h a
 |aY=>simp only[zJ,bI]at af;rw[<-af];rfl
theorem CO(he:c3 N J G env env1):∀{args:List aP} {l:a6},r0 env args=some l->k6 env1 args=l
 |[],l,h=>by simp[r0]at h;subst h;rfl
 |.const v::r,l,h=>by
  simp only[r0]at h;split at h
  . rename_i f b;cases h;have ih:=CO he b;simp only[k6,eX]at ih⊢;rw[ih];rfl
  . cases h
 |.tmp k::r,l,h=>by
  simp only[r0]at h;split at h
  . rename_i v e;split at h
    . rename_i a f d b;cases h;have ih:=CO he b;obtain⟨v1,h1,c⟩:=he k v e;simp only[k6,eX]at ih⊢;rw[ih];simp only[aP.get,h1,gk];rw[Yy c d]
    . cases h
  . cases h
theorem YH(he:c3 N J G env env1){l:a6}(h:IN xb o env key=some l):ep xb o env1 key=l:=by
 cases o<;>simp only[IN,ep,bI]at h⊢<;>first|exact h|exact pz he h|skip
 all_goals split at h
 all_goals (try (cases h;done))
 . rename_i e c;cases h;rw[pz he c]
 . rename_i a b h1 d;cases h;rw[pz he h1,pz he d]
 . rename_i e c;cases h;rw[CO he c]
theorem beq_eq(a b:Nat):(a==b)=Nat.beq a b:=by
 cases h:Nat.beq a b with
 |true=>rw[cV h];simp
 |false=>simp[hN h]
theorem YI(he:c3 N J G env env1){b:Nat}{w:Bool}(h:kx xb o env key b=some w):cF xb o env1 key b=w:=by
 cases o with
 |alloc cs=>simp only[kx,bI]at h;rw[<-h];simp only[cF];exact beq_eq _ _
 |allocA cs=>simp only[kx,bI]at h;rw[<-h];simp only[cF];exact beq_eq _ _
 |box x=>simp only[kx,bI]at h;rw[<-h];simp only[cF];exact beq_eq _ _
 |bslice a c d e=>simp only[kx,bI]at h;rw[<-h];simp only[cF];exact beq_eq _ _
 |store n x y=>
  simp only[kx]at h;split at h
  . rename_i l af;cases h;simp only[cF];rw[pz he af,vX]
  . cases h
 |append sz by' x y=>
  simp only[kx]at h;split at h
  . rename_i l af;cases h;simp only[cF];rw[pz he af,vX,beq_eq]
  . cases h
 |mkset=>simp only[kx,bI]at h;rw[<-h];simp only[cF];exact beq_eq _ _
 |allocS e e8=>simp only[kx,bI]at h;rw[<-h];simp only[cF];rw[beq_eq,beq_eq]
 |upset x y=>
  simp only[kx]at h;split at h
  . rename_i l af;cases h;simp only[cF];rw[pz he af,vX]
  . cases h
 |ustr e x y=>
  simp only[kx]at h;split at h
  . rename_i l af;cases h;simp only[cF];rw[pz he af,vX]
  . cases h
 |appendB e by' x y=>
  simp only[kx]at h;split at h
  . rename_i l af;cases h;simp only[cF];rw[pz he af,vX,beq_eq]
  . cases h
 |call f args=>
  simp only[kx]at h;split at h
  . rename_i l af;cases h;simp only[cF];rw[CO he af,vX]
    congr 1
    rw[Bool.eq_iff_iff];simp only[cd,dw,Nat.ble_eq];omega
  . cases h
 |_=>simp only[kx,bI]at h;rw[<-h];rfl
theorem HO(he:c3 N J G env env1){aZ:List cb}{a:Nat}:∀{gh:List (Nat×Nat)},AR xb aZ env a gh=true->kF xb aZ env1 a gh=true
 |[],_=>rfl
 |(i,j)::r,h=>by
  simp only[AR,cd]at h;simp only[kF,cd];refine⟨?_,HO he h.2⟩;have h1:=h.1;rw[zx,zx]at h1;split at h1
  . rename_i x y e f;rw[e,f];split at h1
    . rename_i l af;dsimp only;rw[YH he af];simp only[c0]at h1⊢;intro b c;have:=h1 b c;split at this
      . rename_i w d;rw[YI he d];exact this
      . cases this
    . cases h1
  grind
theorem GD{fo:ga U}(e:fO P fo){k:ez->bW U->bh U->Option R}{r:R}:∀{l:List cb} {key:Nat} {gl:ez} {nf:j5} {env:bW U} {J:bh U} {env1:Env} {J1:a7} {G:Nat->Bool} {K:Env->a7->Prop},
 eG key gl nf env J env1 J1 G->pL fo none l key gl nf env J k=some r->
 (∀c f env' J' b bp d,k c env' J'=some r->eG (key+16*l.length) c f env' J' b bp d->K b bp)->qq P kk l key env1 J1 K
 |[],key,gl,nf,env,J,env1,J1,G,K,h,a,bD=>bD _ _ _ _ _ _ _ a h
 |o::l,key,gl,nf,env,J,env1,J1,G,K,h,a,bD=>by
  simp only[pL]at a;simp only[qq];refine Yx e h a λc f env' J' b bp d h1 m=>?_;refine GD e m h1 λj p i s nq q g n t=>bD j p i s nq q g n ?_;grind
theorem GP{fo:ga U}(e:fO P fo){k:ez->bW U->bh U->Option R}{r:R}:∀{l:List cb} {key:Nat} {gl:ez} {nf:j5} {env:bW U} {J:bh U} {env1:Env} {J1:a7} {G:Nat->Bool} {K:Env->a7->Prop},
 eG key gl nf env J env1 J1 G->pL fo (some xb) l key gl nf env J k=some r->
 (∀b f env' J' d bp c,k b env' J'=some r->eG (key+16*l.length) b f env' J' d bp c->K d bp)->xo xb P l key env1 J1 K
 |[],key,gl,nf,env,J,env1,J1,G,K,h,a,bD=>bD _ _ _ _ _ _ _ a h
 |o::l,key,gl,nf,env,J,env1,J1,G,K,h,a,bD=>by
  simp only[pL]at a;obtain⟨g,v1,bp,b,f,env',J',c,h1,n,p⟩:=KV e h (by simpa only[En]using a);refine⟨g,v1,bp,h1,GP e p n λm s j u nq t i q bb=>bD m s j u nq t i q ?_⟩;grind
theorem IU{gl:ez}:∀{env:bW U} {k:Nat} {v:bB U},aX (clean gl env) k=some v->aX env k=some v/\xQ gl k=false
 |[],k,v,h=>by simp[clean,aX]at h
 |(i,w)::r,k,v,h=>by
  simp only[clean]at h;split at h
  . rename_i b;obtain⟨h1,c⟩:=IU h;simp only[aX];cases a:Nat.beq i k with
    |true=>rw[cV a]at b;rw[b]at c;cases c
    |false=>exact⟨h1,c⟩
  . rename_i b;simp only[aX]at h⊢;cases a:Nat.beq i k with
    |true=>rw[a]at h;cases h;rw[<-cV a];exact⟨rfl,b⟩
    |false=>rw[a]at h;exact IU h
theorem aa4{k:Nat}(h:xQ gl k=false):aX gl k=none:=by
 induction gl with
 |nil=>rfl
 |cons e r ih=>
  obtain⟨i,e⟩:=e;simp only[xQ,List.any_cons,qd]at h;simp only[aX,h.1];exact ih (by unfold xQ;exact h.2)
theorem eG.clean{nf:j5}(h:eG key gl nf env J env1 J1 G):c3 key J (λ_=>true) (zH gl env) env1:=by
 intro k v a;have:aX env k=some v/\G k=true:=by
  unfold zH at a;split at a
  . exact⟨a,h.al.free k rfl⟩
  . obtain⟨h1,c⟩:=IU a;exact⟨h1,h.al.free k (aa4 c)⟩
 obtain⟨v1,h1,c⟩:=h.gW k v this.1;grind
theorem eG.begin(he:c3 key J (λ_=>true) env env1)(aF:cv key J J1):eG key [] [] env J env1 J1 (λ_=>true):=
 ⟨he,⟨λ_ _=>rfl,λk t b h=>by simp[aX]at h⟩,aF,λ_ h=>by simp at h⟩
end
structure jK where
 e:Exit
 bA:Shape
 own:List (Pos×aK)
 us:List aK
def eA(U:cM):List jK->Type
 |[]=>Empty
 |[a]=>aL U.D a.us
 |a::b::r=>aL U.D a.us ⊕ eA U (b::r)
structure hg (U:cM) where
 bA:Shape
 own:List (Pos×aK)
 ts:List aK
 outs:List jK
 F:aL U.D ts->Option (eA U outs)
def Bz:Exit->Exit->Bool
 |.normal,.normal=>true
 |.ret,.ret=>true
 |.exit i,.exit j=>Nat.beq i j
 |_,_=>false
theorem LJ{a b:Exit}(h:Bz a b=true):a=b:=by
 cases a<;>cases b<;>simp only[Bz,reduceCtorEq,bV]at h<;>try rfl
 simp_all
abbrev uR(U:cM)(R:Type):=Exit->bW U->bh U->Nat->Option R
def ik:(outs:List jK)->eA U outs->Exit×bW U×bh U×Nat
 |[],o=>Empty.elim o
 |[a],h=>(a.e,(hx U a.bA (aL.cells U.D a.us h)).1,(hx U a.bA (aL.cells U.D a.us h)).2,a.bA.st.length)
 |a::b::r,.inl h=>(a.e,(hx U a.bA (aL.cells U.D a.us h)).1,(hx U a.bA (aL.cells U.D a.us h)).2,a.bA.st.length)
 |a::b::r,.inr o=>ik (b::r) o
def aha{α c:Type}(o:α ⊕ c)(f:α->Option R)(g:c->Option R):Option R:=
 match o with
 |.inl a=>f a
 |.inr b=>g b
def ahx(k:uR U R)(a:jK):(r:List jK)->(eA U r->Option R)->eA U (a::r)->Option R
 |[],_=>λh=>k a.e (hx U a.bA (aL.cells U.D a.us h)).1 (hx U a.bA (aL.cells U.D a.us h)).2 a.bA.st.length
 |_::_,f=>λo=>aha o (λh=>k a.e (hx U a.bA (aL.cells U.D a.us h)).1 (hx U a.bA (aL.cells U.D a.us h)).2 a.bA.st.length) f
def IG(k:uR U R):(outs:List jK)->eA U outs->Option R
 |[]=>λo=>Empty.elim o
 |a::r=>ahx k a r (IG k r)
theorem Nf(k:uR U R):∀{outs:List jK} {o:eA U outs},IG k outs o=k (ik outs o).1 (ik outs o).2.1 (ik outs o).2.2.1 (ik outs o).2.2.2
 |[],o=>Empty.elim o
 |[a],h=>rfl
 |a::b::r,.inl h=>rfl
 |a::b::r,.inr o=>Nf k (outs:=b::r)
def rP(kk:Nat):(outs:List jK)->Exit->bW U->bh U->Nat->Option (eA U outs)
 |[],_,_,_,_=>none
 |[a],e,env,J,N=>match Bz e a.e with
  |true=>r3 kk a.own a.bA a.us env J N
  |false=>none
 |a::b::r,e,env,J,N=>match Bz e a.e with
  |true=>match r3 (U:=U) kk a.own a.bA a.us env J N with
   |some h=>some (.inl h)
   |none=>none
  |false=>match rP kk (b::r) e env J N with
   |some o=>some (.inr o)
   |none=>none
abbrev k4(U:cM):=Nat->Option (hg U)
def gw:dA->Nat
 |.seq a b=>gw a+gw b
 |.cond _ a b=>gw a+gw b
 |.block _ b=>gw b
 |.loop b=>gw b+1
 |_=>0
def agn(x:Bool)(a b:Option R):Option R:=if x then a else b
def bl.inner:kA->Bool
 |.ptr .. |.arr _=>true
 |_=>false
def ade:fQ->Bool
 |.box cs=>cs.any bl.inner
 |_=>false
def Qa(fo:ga U)(J:bh U)(ops:List cb):a6:=
 match ops.any λo=>match o.op with
  |.call f _=>(fo f).any λs=>s.st.any ade
  |_=>false with
 |true=>J.map Prod.fst
 |false=>[]
def H0(ops:List cb)(gh:List (Nat×Nat)):Option (List cb×cb):=
 match Em ops.length gh,ops.getLast? with
 |true,some o=>match o.op,o.guard with
  |.call ..,none=>some (ops.dropLast,o)
  |_,_=>none
 |_,_=>none
theorem Yz{ops:List cb}{init:List cb}{last:cb}(h:H0 ops gh=some (init,last)):ops=init++[last]/\Em (init.length+1) gh=true:=by
 unfold H0 at h;split at h
 . rename_i o h1 a;split at h
   . cases h;have:ops=ops.dropLast++[last]:=by
      obtain⟨l,rfl⟩:=List.getLast?_eq_some_iff.1 a;simp
     grind
   . cases h
 . cases h
def ku(fo:ga U)(d:k4 U)(kk:Nat):dA->Nat->bW U->bh U->Nat->uR U R->Option R
 |.skip,_,env,J,N,k=>k .normal env J N
 |.ret,_,env,J,N,k=>k .ret env J N
 |.exit i,_,env,J,N,k=>k (.exit i) env J N
 |.region ops,_,env,J,N,k=>pL fo none ops N [] [] env J λgl env J=>Et (zH gl env) J (N+16*ops.length) λenv J N=>k .normal env J N
 |.oz ops gh,_,env,J,N,k=>match H0 ops gh with
  |some (init,last)=>pL fo (some []) init N [] [] env J λgl env J=>match AR [] init env N gh with
   |true=>pL fo none [last] (N+16*init.length) gl [] env J λgl env J=>k .normal (zH gl env) J (N+16*init.length+16)
   |false=>none
  |none=>pL fo (some (Qa fo J ops)) ops N [] [] env J λgl env' J'=>match AR (Qa fo J ops) ops env' N gh with
   |true=>Et (zH gl env') J' (N+16*ops.length) λenv J N=>k .normal env J N
   |false=>none
 |.seq a b,pos,env,J,N,k=>ku fo d kk a pos env J N λe env J N=>match e with
  |.normal=>ku fo d kk b (pos+gw a) env J N k
  |e=>k e env J N
 |.cond c a b,pos,env,J,N,k=>match df [] none env c with
  |some (.c (.t ⟨.bool,x⟩))=>agn x (ku fo d kk a pos env J N k) (ku fo d kk b (pos+gw a) env J N k)
  |_=>none
 |.block id b,pos,env,J,N,k=>ku fo d kk b pos env J N λe env J N=>match e with
  |.exit i=>match Nat.beq i id with
   |true=>k .normal env J N
   |false=>k (.exit i) env J N
  |e=>k e env J N
 |.loop b,pos,env,J,N,k=>match d pos with
  |none=>none
  |some L=>match r3 kk L.own L.bA L.ts env J N with
   |none=>none
   |some h=>(L.F h)>>=λo=>IG k L.outs o
section
variable {P:Program}{nt kk N:Nat}{env:bW U}{J:bh U}{env1:Env}{J1:a7}
def uI(kk:Nat)(Q:Exit->Env->a7->Nat->Prop):Prop:=∀e N env J N' env' J',Conv kk N env J N' env' J'->Q e env' J' N'->Q e env J N
def ng(P:Program)(nt kk:Nat)(b:dA)(bA:Shape)(ts:List aK)(outs:List jK)(h:aL U.D ts)(o:eA U outs):Prop:=
 ∀env1 J1,c3 bA.st.length (hx U bA (aL.cells U.D ts h)).2 (λ_=>true) (hx U bA (aL.cells U.D ts h)).1 env1->cv bA.st.length (hx U bA (aL.cells U.D ts h)).2 J1->kk<=bA.st.length->
  ∀Q,uI kk Q->(∀a bp,c3 (ik outs o).2.2.2 (ik outs o).2.2.1 (λ_=>true) (ik outs o).2.1 a->cv (ik outs o).2.2.2 (ik outs o).2.2.1 bp->kk<=(ik outs o).2.2.2->Q (ik outs o).1 a bp (ik outs o).2.2.2)->
   mh P nt kk b env1 J1 bA.st.length Q
def uM(P:Program)(nt kk:Nat)(a:dA)(L:hg U):Prop:=
 ∀h o,L.F h=some o->ng P nt kk a L.bA L.ts L.outs h o
def gL(P:Program)(nt kk:Nat)(c:k4 U):Nat->dA->Prop
 |pos,.seq a b=>gL P nt kk c pos a/\gL P nt kk c (pos+gw a) b
 |pos,.cond _ a b=>gL P nt kk c pos a/\gL P nt kk c (pos+gw a) b
 |pos,.block _ b=>gL P nt kk c pos b
 |pos,.loop b=>(∀L,c pos=some L->uM P nt kk b L)
 |_,_=>True
theorem uI.andThen{next:Env->a7->Nat->Prop}(h:uI kk Q)(aE:∀N env J N' env' J',Conv kk N env J N' env' J'->next env' J' N'->next env J N):uI kk (andThen next Q):=by
 intro e N env J N' env' J' a c;cases e with
 |normal=>exact aE _ _ _ _ _ _ a c
 |_=>exact h _ _ _ _ _ _ _ a c
theorem ti{fo:ga U}(w:fO P fo){K:k4 U}:∀{c:dA} {pos:Nat} {env:bW U} {J:bh U} {N:Nat} {k:uR U R} {r:R} {env1:Env} {J1:a7} {Q:Exit->Env->a7->Nat->Prop},
 gL P nt kk K pos c->ku fo K kk c pos env J N k=some r->c3 N J (λ_=>true) env env1->cv N J J1->kk<=N->uI kk Q->
 (∀e env' J' N' u bp,k e env' J' N'=some r->c3 N' J' (λ_=>true) env' u->cv N' J' bp->kk<=N'->Q e u bp N')->cu P nt kk c env1 J1 N Q
 |.skip,pos,env,J,N,k,r,env1,J1,Q,af,d,he,aF,n,m,f=>cu.skip (f _ _ _ _ _ _ d he aF n)
 |.ret,pos,env,J,N,k,r,env1,J1,Q,af,d,he,aF,n,m,f=>cu.ret (f _ _ _ _ _ _ d he aF n)
 |.exit i,pos,env,J,N,k,r,env1,J1,Q,af,d,he,aF,n,m,f=>cu.exit (f _ _ _ _ _ _ d he aF n)
 |.region ops,pos,env,J,N,k,r,env1,J1,Q,af,d,he,aF,n,m,f=>
  cu.agP (GD w (eG.begin he aF) d λH M env' J' u bp F h1 j=>by
   obtain⟨G,S,T,nq,O,A,B,C,D,Z⟩:=J6 h1 j.clean j.eV (show kk<=_ by omega)
   exact m _ _ _ _ _ _ _ B (f _ _ _ _ _ _ A C D (by omega)))
 |.oz ops gh,pos,env,J,N,k,r,env1,J1,Q,af,d,he,aF,n,m,f=>by
  simp only[ku]at d;split at d
  . rename_i init last ad;obtain⟨rfl,ag⟩:=Yz ad;refine cu.agQ ag (GP w (eG.begin he aF) d λH M env' J' u bp F h1 j=>?_);split at h1
    . rename_i q;refine⟨HO j.gW q,GD w (l:=[last]) (nf:=[]) ⟨j.gW,j.al,j.eV,λg al=>by simp at al⟩ h1 λan ao G S nq O ai s v=>f _ _ _ _ _ _ s v.clean v.eV (by omega)⟩
    . cases h1
  . refine cu.oz (GP w (eG.begin he aF) d λH M env' J' u bp F h1 j=>?_);split at h1
    . rename_i q;obtain⟨G,S,T,nq,O,A,B,C,D,Z⟩:=J6 h1 j.clean j.eV (show kk<=_ by omega);exact⟨HO j.gW q,m _ _ _ _ _ _ _ B (f _ _ _ _ _ _ A C D (by omega))⟩
    . cases h1
 |.seq a b,pos,env,J,N,k,r,env1,J1,Q,af,d,he,aF,n,m,f=>by
  simp only[ku]at d;refine cu.seq (ti w af.1 d he aF n (m.andThen λN env J N' env' J' q h=>cu.conv q h) λe env' J' N' u bp h1 j s v=>?_);cases e with
  |normal=>exact ti w af.2 h1 j s v m f
  |_=>exact f _ _ _ _ _ _ h1 j s v
 |.cond c a b,pos,env,J,N,k,r,env1,J1,Q,af,d,he,aF,n,m,f=>by
  simp only[ku]at d;split at d
  . rename_i x q;have al:gS [] env (λ_=>true):=⟨λ_ _=>rfl,λk t b h=>by simp[aX]at h⟩
    obtain⟨p,v1,a1,a2,a3⟩:=cw he al q;have:=a2.jt;subst this;refine cu.cond a1 (a3 rfl) (λy=>?_) (λy=>?_)
    . subst y;exact ti w af.1 d he aF n m f
    . subst y;exact ti w af.2 d he aF n m f
  . cases d
 |.block id b,pos,env,J,N,k,r,env1,J1,Q,af,d,he,aF,n,m,f=>by
  simp only[ku]at d;refine cu.block (ti w af d he aF n ?_ λe env' J' N' u bp h1 j s v=>?_)
  . intro e N env J N' env' J' q z;cases e with
    |exit i=>
     simp only[inBlock]at z⊢;split at z
     . rename_i E;rw[ae E];exact m _ _ _ _ _ _ _ q z
     . rename_i E;rw[ak E];exact m _ _ _ _ _ _ _ q z
    |_=>exact m _ _ _ _ _ _ _ q z
  . cases e with
    |exit i=>
     simp only[inBlock];simp only at h1;split at h1
     . rename_i y;rw[ae (cV y)];exact f _ _ _ _ _ _ h1 j s v
     . rename_i y;rw[ak (hN y)];exact f _ _ _ _ _ _ h1 j s v
    |_=>exact f _ _ _ _ _ _ h1 j s v
 |.loop b,pos,env,J,N,k,r,env1,J1,Q,af,d,he,aF,n,m,f=>by
  simp only[ku]at d;split at d
  . cases d
  . rename_i L aa;split at d
    . cases d
    . rename_i h ab;obtain⟨o,ah,I⟩:=ug.1 d;rw[Nf]at I;obtain⟨u,bp,V,W,X,Y⟩:=CN ab he aF n;exact cu.conv V (cu.agv (af L aa h o ah u bp W X Y Q m λam aj h1 j s=>f _ _ _ _ _ _ I h1 j s))
theorem ng.agG {fo:ga U}(R:fO P fo){K:k4 U}{u:dA}{bA:Shape}{own:List (Pos×aK)}{ts:List aK}{outs:List jK}{h:aL U.D ts}{o:eA U outs}{F':aL U.D ts->Option (eA U outs)}
 (S:gL P nt kk K 0 u)(L:∀h o,F' h=some o->ng P nt kk u bA ts outs h o)
 (Y:ku fo K kk u 0 (hx U bA (aL.cells U.D ts h)).1 (hx U bA (aL.cells U.D ts h)).2 bA.st.length (λe env J N=>match e with
  |.normal=>match r3 kk own bA ts env J N with
   |some y=>F' y
   |none=>none
  |e=>rP kk outs e env J N)=some o):ng P nt kk u bA ts outs h o:=by
 intro env1 J1 he aF q Q z H;refine mh.round (ti R S Y he aF q (z.andThen λN env J N' env' J' M h=>mh.conv M h) λe env' J' N' w bp h1 E F G=>?_);have t:∀v,v=e->v≠.normal->rP kk outs v env' J' N'=some o->Q e w bp N':=by
  intro v O af X;subst O;obtain⟨aI,s1,c,f,j,p,x⟩:=R6 X E F G;exact z _ _ _ _ _ _ _ c (by rw[x];exact H _ _ f j p)
 cases e with
 |normal=>
  simp only at h1;split at h1
  . rename_i y B;obtain⟨aI,s1,c,f,j,p⟩:=CN B E F G;exact mh.conv c (L y o h1 aI s1 f j p Q z H)
  . cases h1
 |exit i=>exact t _ rfl (by simp) h1
 |ret=>exact t _ rfl (by simp) h1
 |goto l=>exact t _ rfl (by simp) h1
 |panic Z=>exact t _ rfl (by simp) h1
 |outgrown=>exact t _ rfl (by simp) h1
where
 R6 {N:Nat} {env:bW U} {J:bh U} {env1:Env} {J1:a7}:∀ {outs:List jK} {e:Exit} {o:eA U outs},rP kk outs e env J N = some o->c3 N J (λ_=>true) env env1->cv N J J1->kk<=N->
  ∃w bp,Conv kk N env1 J1 (ik outs o).2.2.2 w bp/\c3 (ik outs o).2.2.2 (ik outs o).2.2.1 (λ_=>true) (ik outs o).2.1 w/\cv (ik outs o).2.2.2 (ik outs o).2.2.1 bp/\kk<=(ik outs o).2.2.2/\e=(ik outs o).1
  |[],e,o,h,_,_,_=>by simp[rP]at h
  |[a],e,o,h,he,aF,q=>by
   simp only[rP]at h;split at h
   . rename_i A;obtain⟨aI,s1,c,f,j,p⟩:=CN h he aF q;exact⟨aI,s1,c,f,j,p,LJ A⟩
   . cases h
  |a::b::r,e,o,h,he,aF,q=>by
   simp only[rP]at h;split at h
   . rename_i A;split at h
     . rename_i aa B;cases h;obtain⟨aI,s1,c,f,j,p⟩:=CN B he aF q;exact⟨aI,s1,c,f,j,p,LJ A⟩
     . cases h
   . split at h
     . rename_i am W;cases h;obtain⟨aI,s1,c,f,j,p,x⟩:=R6 W he aF q;exact⟨aI,s1,c,f,j,p,x⟩
     . cases h
end
end
open Go
variable {U:cM}{R:Type}
def uG:Nat->List (bB U)->bW U
 |_,[]=>[]
 |i,v::vs=>(i,v)::uG (i+1) vs
def Ip(env:bW U)(J:bh U):jn->Option (bB U)
 |.tmp t=>aX env t
 |.cell t g k=>match aX env t with
  |some (.c (.ptr b o))=>match aX J b with
   |some (.box cs)=>rC g k cs o
   |_=>none
  |_=>none
def vY(env:bW U)(J:bh U):List jn->Option (List (bB U))
 |[]=>some []
 |r::a=>match Ip env J r,vY env J a with
  |some v,some vs=>some (v::vs)
  |_,_=>none
def IL:List (bB U)->bB U
 |[]=>.aY []
 |[v]=>v
 |v::w::vs=>.aY (v::w::vs)
def AY(kk:Nat)(c:List jn)(eV:e9)(ew:List fQ)(us:List aK)(env:bW U)(J:bh U):Option (aL U.D us):=
 match vY env J c with
 |none=>none
 |some vs=>match wV J kk 0 ew (F9 eV (IL vs) ([],[])) []with
  |(bs,d)=>match k0 d env J with
   |none=>none
   |some (env',J')=>match vY env' J' c with
    |none=>none
    |some e=>match ta bs&&(keeps kk bs&&Nat.beq bs.length ew.length)with
     |false=>none
     |true=>match jV bs eV (IL e),i' bs J' 0 ew with
      |some a,some b=>aL.dec U.D us (a++b)
      |_,_=>none
def Sy(kk:Nat)(a:List jn)(eV:e9)(ew:List fQ)(us:List aK):uR U (aL U.D us)
 |.normal,env,J,_=>AY kk a eV ew us env J
 |.ret,env,J,_=>AY kk a eV ew us env J
 |_,_,_,_=>none
variable{Q:Exit->Env->a7->Nat->Prop}{c:dA}{kk nt f:Nat}{p:a6}
section
variable {P:Program}{nt kk N:Nat}{env:bW U}{J:bh U}{env1:Env}{J1:a7}
def xg(kk:Nat)(Q:Exit->Env->a7->Nat->Prop):Exit->Env->a7->Nat->Prop:=
 λe env J N=>∃N' env' J',Conv kk N env J N' env' J'/\Q e env' J' N'
theorem xg.aer:uI kk (xg kk Q):=
 λe N env J N' env' J' h ⟨a,c,o,f,j⟩=>⟨a,c,o,h.trans f,j⟩
theorem cu.ahk{env:Env}{J:a7}(h:cu P nt kk c env J N (xg kk Q)):cu P nt kk c env J N Q:=
 λcode u aD φ S a w f R=>wp_mono (h code u aD φ S a w f R) λe a w ⟨y,bR,env',J',N',⟨j,q,x,t,v⟩,R'⟩=>
  let⟨z,p,o⟩:=t aD nt y bR a w f R';⟨z,p,q,x,j,v,o⟩
theorem Xn(he:c3 N J (λ_=>true) env env1)(aF:cv N J J1){a:jn}{v:bB U}(h:Ip env J a=some v):∃p v1,s' env1 J1 a=some (p,v1)/\p/\ca N J v v1:=by
 cases a with
 |tmp t=>
  obtain⟨v1,h1,c⟩:=he t v h;exact⟨True,v1,by simp[s',h1],trivial,c⟩
 |cell t g k=>
  simp only[Ip]at h;split at h
  . rename_i b o j;split at h
    . rename_i cs i;obtain⟨v1,h1,c⟩:=he t _ j;have:=c.hY;subst this;obtain⟨_,y,e,d⟩:=aF b _ i;cases d with
      |box d=>
       obtain⟨l,bb,f⟩:=vu d h;exact⟨True,l,by simp[s',h1,e,bb],trivial,f⟩
    . cases h
  . cases h
theorem Td(he:c3 N J (λ_=>true) env env1)(aF:cv N J J1):∀{a:List jn} {vs:List (bB U)},vY env J a=some vs->∃p vs1,od env1 J1 a=some (p,vs1)/\p/\a' (ca N J) vs vs1
 |[],vs,h=>by simp[vY]at h;subst h;exact⟨_,[],rfl,trivial,.nil⟩
 |r::c,vs,h=>by
  simp only[vY]at h;split at h
  . rename_i v d h1 b;cases h;obtain⟨p,v1,a1,a2,a3⟩:=Xn he aF h1;obtain⟨q,vs1,b1,b2,b3⟩:=Td he aF b;exact⟨p/\q,v1::vs1,by simp[od,a1,b1],⟨a2,b2⟩,.cons a3 b3⟩
  . cases h
theorem Yh{vs:List (bB U)}{vs1:List V}(h:a' (ca N J) vs vs1):ca N J (IL vs) (l' vs1):=by
 cases h with
 |nil=>exact .aY [] [] rfl (by simp)
 |cons h1 a=>
  cases a with
  |nil=>exact h1
  |cons a b=>
   refine .aY _ _ (by simp[b.length]) λi x d c g=>?_;obtain⟨e,aI,f⟩:=(a'.cons h1 (.cons a b)).get c;grind
def EF(s:cD U)(r:aL U.D s.us):V->a7->Nat->Prop:=λa bp N'=>N'=s.ew.length/\ca N' (s.rest r) (s.res r) a/\cv N' (s.rest r) bp
theorem XQ{d:List jn}{s:cD U}{r:aL U.D s.us}(h:AY kk d s.eV s.ew s.us env J=some r)(he:c3 N J (λ_=>true) env env1)(aF:cv N J J1):
 ∃j bp,Conv kk N env1 J1 N j bp/\∃p vs1,od j bp d=some (p,vs1)/\p/\
  ∃bs c J2,bs.Nodup/\keeps kk bs=true/\gr ((l' vs1).bO bs) c/\r' (fy bs bp 0 bs) J2/\EF s r c J2 bs.length:=by
 unfold AY at h;split at h
 . cases h
 . split at h;rename_i bs E _;split at h
   . cases h
   . rename_i env' J' z;obtain⟨aI,s1,n,o,e,_⟩:=zh (kk:=kk) (gl:=[]) z he aF;split at h
     . cases h
     . rename_i F B;split at h
       . cases h
       . rename_i k;simp only[cd]at k;obtain⟨v,w,x⟩:=k;have bT:=y3 v;have A:=cV x;split at h
         . rename_i a b u l;obtain⟨p,vs1,d1,d2,d3⟩:=Td o e B;obtain⟨y,f,g⟩:=EO bT (zF bT l) u;obtain⟨c,q,t⟩:=g _ (Yh d3);obtain⟨C,t1,t2⟩:=Dq bT e l;have m:=aL.fm h;have aI:s.res r=y:=by unfold cD.res;rw[m,f]
           have i:s.rest r=gE 0 s.ew b:=by unfold cD.rest;rw[m,f]
           exact⟨_,_,n,p,vs1,d1,d2,bs,c,C,bT,w,q,t1,A,by rw[aI,i];exact t,by rw[i];exact t2⟩
         . cases h
def uK(P:Program)(s:cD U)(h:aL U.D s.ts)(r:aL U.D s.us):Prop:=
 ∀(a:List V) J1,a' (ca s.st.length (s.iH h)) (s.args h) a->cv s.st.length (s.iH h) J1->eh P s.f a J1 s.st.length (EF s r)
theorem h3.of{s:cD U}(h:∀h r,s.F h=some r->uK P s h r):h3 P s:=h
theorem uK.FL {s:cD U}{fn:Func}{c:dA}{j:List jn}{fo:ga U}{y:k4 U}(W:P.funcs[s.f]?=some fn)(O:fn.body.bind (resolve P fn.ntmps)=some c)(am:h8 P fn.results.toList=some j)(aE:Nat.ble s.gI.length fn.ntmps=true)
 (X:fO P fo)(af:gL P fn.ntmps s.st.length y 0 c)
 {h:aL U.D s.ts}{r:aL U.D s.us}(t:Ep s.st.length (s.iH h) (λJ N=>ku fo y s.st.length c 0 (uG 0 (s.args h)) J N (Sy s.st.length j s.eV s.ew s.us))=some r):uK P s h r:=by
 intro u J1 L aF;have Z:u.length<=fn.ntmps:=by
  rw[<-L.length];refine g' (wH ?_) (h' aE);unfold cD.args;exact RJ
 have Q:c3 s.st.length (s.iH h) (λ_=>true) (uG 0 (s.args h)) (fW 0 u):=by
  intro k v aJ;have key:∀{xs:List (bB U)} {ds:List V} {i:Nat},a' (ca s.st.length (s.iH h)) xs ds->aX (uG i xs) k=some v->∃v1,look (fW i ds) k=some (true,v1)/\ca s.st.length (s.iH h) v v1:=by
   intro xs;induction xs with
   |nil=>intro ds i _ h;simp[uG,aX]at h
   |cons x xs ih=>
    intro ds i ap q;cases ap with
    |cons h1 o=>
     simp only[uG,aX]at q;simp only[fW,look];split at q
     . simp_all
     . rename_i M;rw[ak (hN M)];exact ih o q
  grind
 obtain⟨ax,Nm,aC,t,F,S,K,Y⟩:=Ye t Q aF;refine eh.tidy (eh.mk (nt:=fn.ntmps) W O am rfl Z (cu.conv F (cu.ahk (ti X af t S K Y xg.aer λe env' J' N' G bp h1 o H aD=>?_)))) (λz s1 B aa=>aa)
 . have w:AY s.st.length j s.eV s.ew s.us env' J'=some r->(e= .normal\/e= .ret)->xg s.st.length (Ez j λz s1 B=>∃bs A J2,bs.Nodup/\keeps s.st.length bs=true/\gr (z.bO bs) A/\r' (fy bs s1 0 bs) J2/\EF s r A J2 bs.length) e G bp N':=by
    intro an R;obtain⟨aI,s1,E,p,vs1,d1,d2,rest⟩:=XQ an o H;refine⟨N',aI,s1,E,?_⟩;rcases R with rfl|rfl
    . exact⟨p,vs1,d1,d2,rest⟩
    . exact⟨p,vs1,d1,d2,rest⟩
   cases e with
   |normal=>exact w h1 (.inl rfl)
   |ret=>exact w h1 (.inr rfl)
   |_=>cases h1
where
 RJ:∀{ss:List e9} {a:eP U},(kT ss a).1.length=ss.length
  |[],a=>rfl
  |s::ss,a=>by
   simp only[kT];have:=RJ (ss:=ss) (a:=(kS s a).2);simp[this]
def ib:dA->Nat->Option dA
 |.seq a b,q=>match Nat.ble (gw a) q with
  |true=>ib b (q-gw a)
  |false=>ib a q
 |.cond _ a b,q=>match Nat.ble (gw a) q with
  |true=>ib b (q-gw a)
  |false=>ib a q
 |.block _ b,q=>ib b q
 |.loop b,q=>match q with
  |0=>some b
  |q+1=>ib b q
 |_,_=>none
theorem gL.of{o:k4 U}:∀{c:dA} {pos:Nat},(∀q b L,ib c q=some b->o (pos+q)=some L->uM P nt kk b L)->gL P nt kk o pos c
 |.seq a b,pos,h=>by
  refine⟨gL.of λq e L h1 f=>h q e L ?_ f,gL.of λq e L h1 f=>h (gw a+q) e L ?_ (by rw[<-p9];exact f)⟩
  . simp only[ib];cases j:Nat.ble (gw a) q with
    |true=>exact absurd (rE h1) (by have:=h' j;omega)
    |false=>exact h1
  . simp only[ib];have:Nat.ble (gw a) (gw a+q)=true:=(by simp);grind
 |.cond c a b,pos,h=>by
  refine⟨gL.of λq e L h1 f=>h q e L ?_ f,gL.of λq e L h1 f=>h (gw a+q) e L ?_ (by rw[<-p9];exact f)⟩
  . simp only[ib];cases j:Nat.ble (gw a) q with
    |true=>exact absurd (rE h1) (by have:=h' j;omega)
    |false=>exact h1
  . simp only[ib];have:Nat.ble (gw a) (gw a+q)=true:=(by simp);grind
 |.block id b,pos,h=>gL.of (c:=b) h
 |.loop b,pos,h=>λL p=>h 0 b L rfl p
 |.skip,pos,h=>trivial
 |.region _,pos,h=>trivial
 |.oz _ _,pos,h=>trivial
 |.exit _,pos,h=>trivial
 |.ret,pos,h=>trivial
where
 rE:∀{c:dA} {q:Nat} {b:dA},ib c q=some b->q<gw c
  |.seq a b,q,e,h=>by
   simp only[ib]at h;simp only[gw];split at h
   . rename_i j;have:=rE h;have:=h' j;omega
   . have:=rE h;omega
  |.cond _ a b,q,e,h=>by
   simp only[ib]at h;simp only[gw];split at h
   . rename_i j;have:=rE h;have:=h' j;omega
   . have:=rE h;omega
  |.block _ b,q,e,h=>rE (c:=b) h
  |.loop b,0,e,h=>by simp[gw]
  |.loop b,q+1,e,h=>by have:=rE (c:=b) h;simp only[gw];omega
  |.skip,q,e,h=>by simp[ib]at h
  |.region _,q,e,h=>by simp[ib]at h
  |.oz _ _,q,e,h=>by simp[ib]at h
  |.exit _,q,e,h=>by simp[ib]at h
  |.ret,q,e,h=>by simp[ib]at h
theorem gL.R1{a:k4 U}(h:∀q L,a q=some L->uM P nt kk ((ib c q).getD .skip) L):gL P nt kk a 0 c:=
 gL.of λq b L h1 e=>by grind
theorem gL.none:gL P nt kk (λ_=>none:k4 U) 0 c:=gL.R1 λq L h=>by cases h
theorem fO.none:fO P (λ_=>[]:ga U):=λf s h=>by simp at h
end
open Go
def I2(P:Program)(fn:Func):dA:=
 match fn.body.bind (Shv.resolve P fn.ntmps)with
 |some c=>c
 |none=>.skip
def wi(c:dA)(q:Nat):dA:=(ib c q).getD .skip
def hS{U:cM}:List (cD U)->ga U
 |[],_=>[]
 |s::l,f=>match Nat.beq s.f f with
  |true=>s::hS l f
  |false=>hS l f
def kU{U:cM}(l:List (Nat×hg U)):k4 U:=λq=>aX l q
theorem fO.nil{U:cM}{P:Program}:fO P (hS ([]:List (cD U))):=λf s h=>by simp[hS]at h
theorem fO.cons{U:cM}{P:Program}{s:cD U}{l:List (cD U)}(c:hO P s.f=true)(hs:h3 P s)(h:fO P (hS l)):fO P (hS (s::l)):=by
 intro f t ht;simp only[hS]at ht;split at ht
 . rename_i a;have:=cV a;rcases eU.1 ht with rfl|ht
   . grind
   . exact h f t ht
 . exact h f t ht
def js{U:cM}(P:Program)(nt kk:Nat)(c:dA)(l:List (Nat×hg U)):Prop:=∀q L,aX l q=some L->uM P nt kk (wi c q) L
theorem js.nil{U:cM}{P:Program}{nt kk:Nat}{c:dA}:js P nt kk c ([]:List (Nat×hg U)):=λq L h=>by simp[aX]at h
theorem js.cons{U:cM}{P:Program}{nt kk:Nat}{c:dA}{q:Nat}{L:hg U}{l:List (Nat×hg U)}(f:uM P nt kk (wi c q) L)(h:js P nt kk c l):js P nt kk c ((q,L)::l):=by
 intro e L' a;simp only[aX]at a;split at a
 . simp_all
 . exact h e L' a
theorem js.snd{U:cM}{P:Program}{l:List (Nat×hg U)}(h:js P nt kk c l):gL P nt kk (kU l) 0 c:=gL.R1 λq L a=>h q L a
def aM(k:IntKind)(a b:Int):Int:=k.wrap (a+b)
def dj(k:IntKind)(a b:Int):Int:=k.wrap (a-b)
def gF(k:IntKind)(a b:Int):Int:=k.wrap (a*b)
def fC(k:IntKind)(a b:Int):Int:=k.wrap (a.tdiv b)
def b'(a b:Int):Int:=a.tmod b
def A9(k:IntKind)(a b:Int):Int:=k.wrap (BitVec.ofInt k.bits a &&& BitVec.ofInt k.bits b).toNat
def rQ(k:IntKind)(a b:Int):Int:=k.wrap (BitVec.ofInt k.bits a ||| BitVec.ofInt k.bits b).toNat
def uH(k:IntKind)(a b:Int):Int:=k.wrap (BitVec.ofInt k.bits a ^^^ BitVec.ofInt k.bits b).toNat
def mX(k:IntKind)(a b:Int):Int:=k.wrap (a*2^min b.toNat k.bits)
def lA(k:IntKind)(a b:Int):Int:=a.fdiv (2^min b.toNat k.bits)
open Go
variable {U:cM}
structure gA where
 q:Nat
 bA:Shape
 own:List (Pos×aK)
 AG:List (Pos×aK)
 ts:List aK
 outs:List jK
 sub:List gA
structure ey where
 f:Nat
 gI:List e9
 st:List fQ
 ts:List aK
 eV:e9
 ew:List fQ
 us:List aK
 sub:List gA
def gA.l(e:gA)(F:aL U.D e.ts->Option (eA U e.outs)):hg U:=⟨e.bA,e.own,e.ts,e.outs,F⟩
def ey.s(e:ey)(F:aL U.D e.ts->Option (aL U.D e.us)):cD U:=⟨e.f,e.gI,e.st,e.ts,e.eV,e.ew,e.us,F⟩
def codeF(P:Program)(f:Nat):dA:=match P.funcs[f]? with
 |some fn=>I2 P fn
 |none=>.skip
def xV(P:Program)(f:Nat):Nat:=match P.funcs[f]? with
 |some fn=>fn.ntmps
 |none=>0
def PZ(P:Program)(f:Nat):List jn:=match P.funcs[f]? with
 |some fn=>(match h8 P fn.results.toList with
  |some r=>r
  |none=>[])
 |none=>[]
def ui(P:Program)(e:ey):Bool:=match P.funcs[e.f]? with
 |some fn=>hO P e.f&&((fn.body.bind (resolve P fn.ntmps)).isSome&&((h8 P fn.results.toList).isSome&&Nat.ble e.gI.length fn.ntmps))
 |none=>false
def iF(P:Program)(e:ey):Prop:=ui P e=true
theorem iF.m{P:Program}{e:ey}(h:ui P e=true):iF P e:=h
def rD(fo:ga U)(c:k4 U)(kk:Nat)(b:dA)(e:gA)(F':aL U.D e.ts->Option (eA U e.outs))(h:aL U.D e.ts):Option (eA U e.outs):=
 ku fo c kk b 0 (hx U e.bA (aL.cells U.D e.ts h)).1 (hx U e.bA (aL.cells U.D e.ts h)).2 e.bA.st.length (λx env J N=>match x with
  |.normal=>match r3 kk e.AG e.bA e.ts env J N with
   |some a=>F' a
   |none=>none
  |x=>rP kk e.outs x env J N)
def qk(fo:ga U)(a:k4 U)(P:Program)(e:ey)(h:aL U.D e.ts):Option (aL U.D e.us):=
 Ep e.st.length (gE 0 e.st (kT e.gI (aL.cells U.D e.ts h)).2) λJ N=>ku fo a e.st.length (codeF P e.f) 0 (uG 0 (kT e.gI (aL.cells U.D e.ts h)).1) J N (Sy e.st.length (PZ P e.f) e.eV e.ew e.us)
variable{e:ey}
section
variable {P:Program}
variable{fo:ga U}
theorem KX(d:fO P fo){a:k4 U}{b:dA}{e:gA}{h:aL U.D e.ts}{o:eA U e.outs}{F':aL U.D e.ts->Option (eA U e.outs)}
 (f:gL P nt kk a 0 b)(c:∀h o,F' h=some o->ng P nt kk b e.bA e.ts e.outs h o)(g:rD fo a kk b e F' h=some o):ng P nt kk b e.bA e.ts e.outs h o:=by
 refine ng.agG (own:=e.AG) d f c (Eq.trans ?_ g);unfold rD
 congr 1
 funext x env J N
 cases x with
 |normal=>
  dsimp only;generalize r3 kk e.AG e.bA e.ts env J N=z;cases z<;>rfl
 |_=>rfl
theorem LK{k:k4 U}(a:iF P e)(F:aL U.D e.ts->Option (aL U.D e.us))(o:fO P fo)(b:gL P (xV P e.f) e.st.length k 0 (codeF P e.f))
 {h:aL U.D e.ts}{r:aL U.D e.us}(d:qk fo k P e h=some r):uK P (e.s F) h r:=by
 unfold iF ui at a;unfold codeF at b;unfold xV at b;unfold qk codeF PZ at d;split at a
 . rename_i fn i;simp only[i]at b d;simp only[cd]at a;obtain⟨q,m,bb,n⟩:=a;obtain⟨c,g⟩:=yH.1 m;obtain⟨p,j⟩:=yH.1 bb;have l:I2 P fn=c:=by unfold I2;rw[g]
   rw[l]at b d;simp only[j]at d;exact uK.FL (s:=e.s F) i g j n o b d
 . cases a
theorem iF.b{e:ey}(a:iF P e):hO P e.f=true:=by
 unfold iF ui at a;grind
def xK(fo:ga U)(kk:Nat):Nat->dA->(e:gA)->aL U.D e.ts->Option (eA U e.outs)
 |0,_,_,_=>none
 |n+1,b,e,h=>rD fo (kU (e.sub.map λs=>(s.q,s.l (xK fo kk n (wi b s.q) s)))) kk b e (xK fo kk n b e) h
def ur(g:(e:ey)->aL U.D e.ts->Option (aL U.D e.us))(r:List (cD U)):List ey->ga U
 |[],f=>hS r f
 |e::T,f=>match Nat.beq e.f f with
  |true=>e.s (g e)::ur g r T f
  |false=>ur g r T f
def lp(P:Program)(T:List ey)(a:List (cD U)):Nat->(e:ey)->aL U.D e.ts->Option (aL U.D e.us)
 |0,_,_=>none
 |n+1,e,h=>qk (ur (lp P T a n) a T) (kU (e.sub.map λs=>(s.q,s.l (xK (ur (lp P T a n) a T) e.st.length n (wi (codeF P e.f) s.q) s)))) P e h
theorem Fi{b:dA}{g:(s:gA)->aL U.D s.ts->Option (eA U s.outs)}:∀{l:List gA},(∀s h o,g s h=some o->ng P nt kk (wi b s.q) s.bA s.ts s.outs h o)->js P nt kk b (l.map λs=>(s.q,s.l (g s)))
 |[],_=>js.nil
 |s::l,al=>js.cons (λh o a=>al s h o a) (Fi (l:=l) al)
theorem Iq(a:fO P fo):∀(n:Nat) (b:dA) (e:gA) (h:aL U.D e.ts) (o:eA U e.outs),xK fo kk n b e h=some o->ng P nt kk b e.bA e.ts e.outs h o
 |0,_,_,_,_,d=>by simp[xK]at d
 |n+1,b,e,h,o,d=>KX a (js.snd (Fi λs h o c=>Iq a n _ s h o c)) (λh o c=>Iq a n b e h o c) d
theorem Ng{g:(e:ey)->aL U.D e.ts->Option (aL U.D e.us)}{r:List (cD U)}(c:fO P (hS r)):∀{T:List ey},(∀e,e∈T->iF P e)->(∀e,e∈T->h3 P (e.s (g e)))->fO P (ur g r T)
 |[],_,_=>c
 |e::T,a,al=>by
  intro f t ht;simp only[ur]at ht;have ih:=Ng c (λe he=>a e (Fz _ he)) (λe he=>al e (Fz _ he));split at ht
  . rename_i d;have:=cV d;rcases eU.1 ht with rfl|ht
    . exact⟨this,by rw[<-this];exact(a e FD).b,al e FD⟩
    . exact ih f t ht
  . exact ih f t ht
theorem Nh{T:List ey}(b:∀e,e∈T->iF P e){a:List (cD U)}(f:fO P (hS a)):∀(n:Nat) (e:ey),iF P e->h3 P (e.s (lp P T a n e))
 |0,e,_=>λh r c=>by simp[ey.s,lp]at c
 |n+1,e,he=>h3.of λh r c=>
  have g:fO P (ur (lp P T a n) a T):=Ng f b λd i=>Nh b f n d (b d i)
  LK he _ g (js.snd (Fi λs h o j=>Iq g n _ s h o j)) c
end
open Go
variable {U:cM}{P:Program}
def hf(P:Program)(s:cD U):Prop:=hO P s.f=true/\h3 P s
def qg(P:Program)(f:Nat):a6->dA
 |[]=>codeF P f
 |q::p=>wi (qg P f p) q
def ni(P:Program)(f kk:Nat)(p:a6)(e:gA)(F:aL U.D e.ts->Option (eA U e.outs)):Prop:=uM P (xV P f) kk (qg P f p) (e.l F)
def jr(P:Program)(l:List (cD U)):Prop:=fO P (hS l)
theorem jr.n:jr P ([]:List (cD U)):=fO.nil
theorem jr.k{s:cD U}{l:List (cD U)}(h:hf P s)(af:jr P l):jr P (s::l):=fO.cons h.1 h.2 af
def jJ(P:Program)(f kk:Nat)(p:a6)(l:List (Nat×hg U)):Prop:=js P (xV P f) kk (qg P f p) l
theorem jJ.n{f kk:Nat}{p:a6}:jJ P f kk p ([]:List (Nat×hg U)):=js.nil
theorem jJ.k{f kk q:Nat}{p:a6}{e:gA}{F:aL U.D e.ts->Option (eA U e.outs)}{l:List (Nat×hg U)}(h:ni P f kk (q::p) e F)(af:jJ P f kk p l):jJ P f kk p ((q,e.l F)::l):=js.cons h af
def A3(P:Program)(U:cM)(e:ey)(h:aL U.D e.ts)(r:aL U.D e.us):Prop:=uK P (e.s λ_=>none) h r
def xd(P:Program)(U:cM)(f kk:Nat)(p:a6)(e:gA)(h:aL U.D e.ts)(o:eA U e.outs):Prop:=ng P (xV P f) kk (qg P f p) e.bA e.ts e.outs h o
theorem A3.at(j:iF P e){fs:List (cD U)}(c:jr P fs){a:List (Nat×hg U)}(af:jJ P e.f e.st.length [] a){h:aL U.D e.ts}{r:aL U.D e.us}(o:qk (hS fs) (kU a) P e h=some r):A3 P U e h r:=
 LK j _ c (js.snd af) o
theorem xd.at{e:gA}{F':aL U.D e.ts->Option (eA U e.outs)}(bw:∀h o,F' h=some o->xd P U f kk p e h o){fs:List (cD U)}(c:jr P fs){a:List (Nat×hg U)}(af:jJ P f kk p a){h:aL U.D e.ts}{o:eA U e.outs}
 (j:rD (hS fs) (kU a) kk (qg P f p) e F' h=some o):xd P U f kk p e h o:=
 KX c (js.snd af) bw j
theorem hf.of(a:iF P e){F:aL U.D e.ts->Option (aL U.D e.us)}(h:∀h r,F h=some r->A3 P U e h r):hf P (e.s F):=⟨a.b,h3.of h⟩
theorem ni.of{e:gA}{F:aL U.D e.ts->Option (eA U e.outs)}(h:∀h o,F h=some o->xd P U f kk p e h o):ni P f kk p e F:=h
theorem hf.fn(a:iF P e){F:aL U.D e.ts->Option (aL U.D e.us)}{fs:List (cD U)}(j:jr P fs){c:List (Nat×hg U)}(af:jJ P e.f e.st.length [] c)(p:∀h,qk (hS fs) (kU c) P e h=F h):hf P (e.s F):=
 .of a λh r o=>.at a j af ((p h).trans o)
theorem ni.ahL{e:gA}{F:aL U.D e.ts->Option (eA U e.outs)}{fs:List (cD U)}(c:jr P fs){a:List (Nat×hg U)}(af:jJ P f kk p a)(q:∀h,rD (hS fs) (kU a) kk (qg P f p) e (λ_=>none) h=F h):ni P f kk p e F:=
 .of λh o j=>.at (F':=λ_=>none) (λ_ _ h=>by cases h) c af ((q h).trans j)
theorem hf.rc(a:iF P e){F:aL U.D e.ts->Option (aL U.D e.us)}{b:(aL U.D e.ts->Option (aL U.D e.us))->aL U.D e.ts->Option (aL U.D e.us)}
 (q:∀m:aL U.D e.ts->aL U.D e.us->Prop,(∀F',(∀h r,F' h=some r->m h r)->∀h r,b F' h=some r->m h r)->∀h r,F h=some r->m h r)
 {fs:(aL U.D e.ts->Option (aL U.D e.us))->List (cD U)}(j:∀F',hf P (e.s F')->jr P (fs F')){c:List (Nat×hg U)}(af:jJ P e.f e.st.length [] c)(p:∀F' h,qk (hS (fs F')) (kU c) P e h=b F' h):hf P (e.s F):=
 .of a (q _ λF' bw h r o=>.at a (j F' (.of a bw)) af ((p F' h).trans o))
theorem ni.rc{e:gA}{F:aL U.D e.ts->Option (eA U e.outs)}{b:(aL U.D e.ts->Option (eA U e.outs))->aL U.D e.ts->Option (eA U e.outs)}
 (t:∀m:aL U.D e.ts->eA U e.outs->Prop,(∀F',(∀h r,F' h=some r->m h r)->∀h r,b F' h=some r->m h r)->∀h r,F h=some r->m h r)
 {fs:List (cD U)}(c:jr P fs){a:List (Nat×hg U)}(af:jJ P f kk p a)(q:∀F' h,rD (hS fs) (kU a) kk (qg P f p) e F' h=b F' h):ni P f kk p e F:=
 .of (t _ λF' bw h o j=>.at bw c af ((q F' h).trans j))
theorem hf.bo{F:aL U.D e.ts->Option (aL U.D e.us)}{fs:List (cD U)}(c:jr P fs:=by exact .n){a:List (Nat×hg U)}(af:jJ P e.f e.st.length [] a:=by exact .n)(j:iF P e:=by exact .m (by kernel_rfl))
 (o:∀h,qk (hS fs) (kU a) P e h=F h:=by intro _;kernel_rfl):hf P (e.s F):= .fn j c af o
theorem hf.rx{F:aL U.D e.ts->Option (aL U.D e.us)}{b:(aL U.D e.ts->Option (aL U.D e.us))->aL U.D e.ts->Option (aL U.D e.us)}
 (p:∀m:aL U.D e.ts->aL U.D e.us->Prop,(∀F',(∀h r,F' h=some r->m h r)->∀h r,b F' h=some r->m h r)->∀h r,F h=some r->m h r)
 {fs:(aL U.D e.ts->Option (aL U.D e.us))->List (cD U)}(c:∀F',hf P (e.s F')->jr P (fs F')){a:List (Nat×hg U)}(af:jJ P e.f e.st.length [] a:=by exact .n)(j:iF P e:=by exact .m (by kernel_rfl))
 (o:∀F' h,qk (hS (fs F')) (kU a) P e h=b F' h:=by intro _ _;kernel_rfl):hf P (e.s F):= .rc j p c af o
theorem ni.rx {f kk:Nat}{p:a6}{e:gA}{F:aL U.D e.ts->Option (eA U e.outs)}{b:(aL U.D e.ts->Option (eA U e.outs))->aL U.D e.ts->Option (eA U e.outs)}
 (o:∀m:aL U.D e.ts->eA U e.outs->Prop,(∀F',(∀h r,F' h=some r->m h r)->∀h r,b F' h=some r->m h r)->∀h r,F h=some r->m h r)
 {fs:List (cD U)}(c:jr P fs:=by exact .n){a:List (Nat×hg U)}(af:jJ P f kk p a:=by exact .n)(j:∀F' h,rD (hS fs) (kU a) kk (qg P f p) e F' h=b F' h:=by intro _ _;kernel_rfl):ni P f kk p e F:= .rc o c af j
theorem aci{T:List ey}(h:T.all (ui P)=true):∀e,e∈T->iF P e:=λe he=>c0.1 h e he
theorem hf.run{T:List ey}(c8:T.all (ui P)=true){a:List (cD U)}(f:jr P a)(c:iF P e){F:aL U.D e.ts->Option (aL U.D e.us)}(n:Nat)(h:∀h,F h=lp P T a n e h):hf P (e.s F):=
 ⟨c.b,λx r j=>Nh (aci c8) f n e c x r ((h x).symm.trans j)⟩
abbrev ab:aK:= .int .i64
abbrev az(n:Nat):aK:= .slice (.nm n)
abbrev jm:aK:= .slice .str
abbrev bJ:aK:= .slice (.int .i64)
abbrev aa(t:aK):e9:= .c (.hole t)
abbrev ar(b o:Nat):e9:= .c (.ptr b o)
abbrev cc(t:aK):fQ:= .box [.hole t]
def cx:kA->List aK
 |.hole t=>[t]
 |.cH _ _ _=>[.int .i64]
 |.dP t _=>[t]
 |_=>[]
def bw{α:Type}(f:α->List aK):List α->List aK
 |[]=>[]
 |a::l=>f a++bw f l
def RN:e9->List aK
 |.c s=>cx s
 |.agg l=>bw cx l
 |.row n=>[.nm n]
 |.aY _=>[]
def gy:e9->List aK
 |.aY l=>bw RN l
 |v=>RN v
def dv:fQ->List aK
 |.box l=>bw cx l
 |.arr t=>[.slice t]
 |.bk n=>[.nm n]
 |.set=>[.slice .str]
 |.buf _=>[.str]
 |.b8 _ s=>cx s
 |.gone=>[]
def dD(l:List (Nat×e9))(st:List fQ):List aK:=bw (λp=>gy p.2) l++bw dv st
abbrev aW(f:Nat)(gI:List e9)(eV:e9)(sub:List gA:=[])(st:List fQ:=[])(ew:List fQ:=[]):ey:=⟨f,gI,st,bw gy gI++bw dv st,eV,ew,gy eV++bw dv ew,sub⟩
abbrev bU(q:Nat)(l:List (Nat×e9))(st:List fQ)(outs:List jK)(sub:List gA:=[])(own:List (Pos×aK):=[])(AG:List (Pos×aK):=own):gA:=⟨q,⟨l,st⟩,own,AG,dD l st,outs,sub⟩
abbrev bM(e:Exit)(l:List (Nat×e9))(st:List fQ:=[])(own:List (Pos×aK):=[]):jK:=⟨e,⟨l,st⟩,own,dD l st⟩
abbrev e1(k:Nat)(t:aK):jK:=⟨.ret,⟨[(k,aa t)],[]⟩,[],[t]⟩
abbrev gG(i:Nat):jK:=⟨.exit i,⟨[],[]⟩,[],[]⟩
section
open Go
variable {U:cM}
def wq(sz bytes:Nat)(z:List C):dA:=
 .seq (.region [⟨some 2,.mov (.const (.c .aB)),none⟩])
  (.seq (.seq (.region [⟨some 3, .mov (.tmp 0),none⟩,⟨some 4, .eqNil false (.tmp 3),none⟩])
   (.cond (.tmp 4) (.seq (.region [⟨some 2,.mov (.const (.c .aB)),none⟩]) .ret) .skip))
   (.seq (.region [⟨some 5,.bslice sz 0 z [],none⟩,⟨some 6,.mov (.tmp 0),none⟩,⟨some 7,.append sz bytes (.tmp 5) (.tmp 6),none⟩,⟨some 2,.mov (.tmp 7),none⟩]) .ret))
def uq(bytes n:Nat):Bool:=(decide ((2*n+192)*bytes<=kf)||decide ((n+n/4+512)*bytes<=kf))&&decide (n<=eH)
theorem oa{bytes n:Nat}(h:room bytes n=true):uq bytes n=true:=by
 have:=IP.1 h;unfold uq;simp[this]
theorem Ni{bytes n:Nat}(h:uq bytes n=true):lH n bytes/\n<=eH:=by
 unfold uq at h;simp only[cd,hW,dw]at h;exact h
def fK{α:Type}(bytes:Nat)(l:List α):Option (List α):=if uq bytes l.length then some l else none
def wj(U:cM)(f:Nat)(t:aK)(bytes:Nat):cD U:=
 ⟨f,[.c (.hole (.slice t))],[],[.slice t],.c (.arr 0),[.arr t],[.slice t],λ(l:List (t.den U.D))=>fK bytes l⟩
variable{z:List C}{es:List (List T)}{w:List T}{f:Nat}
section
variable {P:Program}
theorem aa5{fn:Func}{sz bytes:Nat}(l:P.funcs[f]?=some fn)(d:fn.body.bind (Shv.resolve P fn.ntmps)=some (wq sz bytes z))(m:h8 P fn.results.toList=some [.tmp 2])
 (aE:1<=fn.ntmps)(v:toTs z=some w)(q:0<sz)(he:∀e,e∈es->e.length=sz)(n:uq bytes es.length=true):
 eh P f [.c (.t (.slice es))] [] 0 (λr J' N'=>N'=1/\r= .c (.arr 0 sz 0 es.length)/\aV J' 0=some (.arr sz es)):=by
 have a:=Ni n;refine eh.tidy (Q:=λr J' N'=>∃b,r= .c (.arr b sz 0 es.length)/\aV J' b=some (.arr sz es)) (eh.mk l d m rfl (by simpa using aE) ?_) ?_
 . unfold wq;refine cu.seq (cu.region ?_);simp only[kB,hi,fV,aO,aP.get,gk,eu,fW,cL.neutral,bS,andThen];refine .inr ⟨λ_=>trivial,.inl trivial,?_⟩;refine cu.seq (cu.seq (cu.region ?_));simp only[kB,hi,fV,aO,aP.get,gk,eu,cL.neutral,bS,andThen,look,gQ,ij];refine .inr ⟨λ_=>by simp,.inl trivial,?_⟩;refine .inr ?_;simp only[Nat.reduceEqDiff,b7,bS,gk,rI];intro b y;refine cu.cond (b:=b) (p:=True) (by simp[aP.get,look,sh]) trivial (λB=>?_) (λA=>?_)
   ·
    have j:es=[]:=(by grind);subst j;refine cu.seq (cu.region ?_);simp only[kB,hi,fV,aO,aP.get,gk,eu,cL.neutral,bS,andThen];refine .inr ⟨λ_=>trivial,.inl trivial,?_⟩;refine cu.conv (Conv.own (k:=2) (g:=true) (sz:=sz) rfl q (hA _)) (cu.ret ?_);refine⟨_,_,rfl,⟨rfl,trivial⟩,_,rfl,?_⟩;rw[cZ,ae rfl]
   . refine cu.skip ?_;refine cu.seq (cu.region ?_);simp only[kB,hi,fV,aO,aP.get,gk,eu,cL.neutral,bS,andThen,look,jT,v,ao,Nat.reduceEqDiff,b7,bV,reduceCtorEq,mg,cZ,List.replicate];refine .inr ⟨λ_=>trivial,.inr trivial,?_⟩;refine .inr ⟨λ_=>by simp,.inl trivial,?_⟩;refine .inr ⟨λ_=>⟨trivial,trivial,trivial,trivial,trivial,by simp,he,by simpa using a.1,by simpa using a.2⟩,.inr trivial,?_⟩;refine .inr ⟨λ_=>by simp,.inl trivial,?_⟩;refine cu.ret ⟨_,[.c (.arr 80 sz 0 (0+es.length))],rfl,⟨rfl,trivial⟩,80,by rw[gm];rfl,?_⟩;rw[cZ,ae rfl];simp
 . rintro r J' N' ⟨b,rfl,hs⟩
   refine⟨[b],_,_,by simp,rfl,?_,λi x u=>⟨x,u,?_⟩,rfl,rfl,?_⟩
   . simp only[V.bO,C.bO,pos,bS];exact .c (dz.refl _)
   . cases x with
     |box cs=>exact .box (a'.self dz.refl _)
     |arr sz es=>exact .arr
     |set ks=>exact .same
     |buf E s=>exact .same
     |b8 E c=>exact .b8 (dz.refl _)
     |cC sz es i o c=>exact .cC (dz.refl _)
   . simp[fy,hs,aV,bP.bO]
theorem He{fn:Func}{sz bytes:Nat}{t:aK}(o:P.funcs[f]?=some fn)(n:fn.body.bind (Shv.resolve P fn.ntmps)=some (wq sz bytes z))(q:h8 P fn.results.toList=some [.tmp 2])
 (aE:Nat.ble 1 fn.ntmps=true)(v:toTs z=some w)(u:t.sz U=sz):h3 P (wj U f t bytes):=by
 intro(l:List (t.den U.D)) r bw B J1 k aF;subst u;have d:fK bytes l=some r:=bw;unfold fK at d;split at d
 . rename_i s;cases d;cases k with
   |cons h1 j=>
    cases j;have:=ca.kr (t:=t) (l:=l) h1;subst this
    refine eh.conv (J':=[]) (.cons (.c (dz.refl _)) .nil) (λb x a=>by simp[aV]at a) ((aa5 (bytes:=bytes) o n q (h' aE) v aK.rW (es:=List.map (t.enc U) l) (λe he=>by
     obtain⟨y,_,rfl⟩:=eJ.1 he
     exact aK.su) (by rw[gH];exact s)).mono ?_)
    rintro E s1 A ⟨rfl,rfl,hs⟩
    refine⟨rfl,.c (.arr 0 _ _ (by omega) λx a p i=>?_),λb x a=>?_⟩
    . have:x=cR.arr t l:=by
       simp only[cD.rest,wj,kS,qv,aL.cells,fg.cells,gE,iP,aX,Nat.beq,bI]at a;grind
      subst this;simp only[cR.de,bI]at i;rw[<-i,gH]
    . have g:(if b=0 then some (cR.arr t l)else none)=some x:=by
       rw[<-a];simp only[cD.rest,wj,kS,qv,aL.cells,fg.cells,gE,iP,aX];cases b<;>rfl
      split at g
      . rename_i m;cases g;subst m;exact⟨by omega,_,hs,.arr t l⟩
      . cases g
 . cases d
def tb{α:Type}(bytes:Nat)(l:List α):Option (List α×List α):=(fK bytes l).map λr=>(l,r)
def DR(U:cM)(f:Nat)(t:aK)(bytes:Nat):cD U:=
 ⟨f,[.c (.arr 0)],[.arr t],[.slice t],.c (.arr 1),[.arr t,.arr t],[.slice t,.slice t],λ(l:List (t.den U.D))=>tb bytes l⟩
theorem YJ{fn:Func}{sz bytes:Nat}{B:List T}{a:a7}(n:P.funcs[f]?=some fn)(l:fn.body.bind (Shv.resolve P fn.ntmps)=some (wq sz bytes z))(q:h8 P fn.results.toList=some [.tmp 2])
 (aE:1<=fn.ntmps)(A:toTs z=some B)(w:0<sz)(he:∀e,e∈es->e.length=sz)(t:uq bytes es.length=true)(h0:aV a 0=some (.arr sz es)):
 eh P f [.c (.arr 0 sz 0 es.length)] a 1 (λr J' N'=>N'=2/\r= .c (.arr 1 sz 0 es.length)/\aV J' 0=some (.arr sz es)/\aV J' 1=some (.arr sz es)):=by
 have d:=Ni t;refine eh.tidy (Q:=λr J' N'=>∃b,1<=b/\r= .c (.arr b sz 0 es.length)/\aV J' 0=some (.arr sz es)/\aV J' b=some (.arr sz es)) (eh.mk n l q rfl (by simpa using aE) ?_) ?_
 . unfold wq;refine cu.seq (cu.region ?_);simp only[kB,hi,fV,aO,aP.get,gk,eu,fW,cL.neutral,bS,andThen];refine .inr ⟨λ_=>trivial,.inl trivial,?_⟩;refine cu.seq (cu.seq (cu.region ?_));simp only[kB,hi,fV,aO,aP.get,gk,eu,cL.neutral,bS,andThen,look,gQ,ij];refine .inr ⟨λ_=>by simp,.inl trivial,?_⟩;refine .inr ?_;simp only[Nat.reduceEqDiff,b7,bS,gk,rI];intro b D;refine cu.cond (b:=b) (p:=True) (by simp[aP.get,look,sh]) trivial (λH=>?_) (λG=>?_)
   . have m:es=[]:=(by grind);subst m;refine cu.seq (cu.region ?_);simp only[kB,hi,fV,aO,aP.get,gk,eu,cL.neutral,bS,andThen];refine .inr ⟨λ_=>trivial,.inl trivial,?_⟩;refine cu.conv (Conv.own (k:=2) (g:=true) (sz:=sz) rfl w (by omega)) (cu.ret ?_);refine⟨_,_,rfl,⟨rfl,trivial⟩,_,by omega,rfl,?_,?_⟩
     . rw[cZ,a8];exact h0
     . rw[cZ,ae rfl]
   . refine cu.skip ?_;refine cu.seq (cu.region ?_);simp only[kB,hi,fV,aO,aP.get,gk,eu,cL.neutral,bS,andThen,look,jT,A,ao,Nat.reduceEqDiff,b7,bV,reduceCtorEq,List.replicate];refine .inr ⟨λ_=>trivial,.inr trivial,?_⟩;refine .inr ⟨λ_=>by simp,.inl trivial,?_⟩;have j:∀v:List (List T),mg (db a (1+16*1+16*2) (.arr sz v)) (.c (.arr 0 sz 0 es.length))=some (es,some 0):=by
      intro v;simp[mg,cZ,h0]
     refine .inr ?_;simp only[gQ,ij,gm]at j⊢;rw[j];simp only[ao,cZ,bS,bI,Nat.reduceMul,Nat.reduceAdd,show ¬(0=49) by omega,show ¬(49=0) by omega,b7];refine⟨λ_=>⟨trivial,trivial,trivial,trivial,trivial,by simp,he,by simpa using d.1,by simpa using d.2⟩,.inr trivial,?_⟩;refine .inr ⟨λ_=>by simp,.inl trivial,?_⟩;refine cu.ret ⟨_,[.c (.arr 81 sz 0 es.length)],rfl,⟨rfl,trivial⟩,81,by omega,rfl,?_,?_⟩
     . rw[cZ,a8,fU,a8,cZ,a8];exact h0
     . rw[cZ,ae rfl];simp
 . rintro r J' N' ⟨b,F,rfl,u,hs⟩
   refine⟨[0,b],_,_,by simp;omega,rfl,?_,λi x y=>⟨x,y,?_⟩,rfl,rfl,?_⟩
   . simp only[V.bO,C.bO,pos,ak (show ¬0=b by omega),bS];exact .c (dz.refl _)
   . cases x with
     |box cs=>exact .box (a'.self dz.refl _)
     |arr sz es=>exact .arr
     |set ks=>exact .same
     |buf E s=>exact .same
     |b8 E c=>exact .b8 (dz.refl _)
     |cC sz es i o c=>exact .cC (dz.refl _)
   . simp[fy,hs,u,aV,bP.bO]
theorem YK{fn:Func}{sz bytes:Nat}{I:List T}{t:aK}(s:P.funcs[f]?=some fn)(o:fn.body.bind (Shv.resolve P fn.ntmps)=some (wq sz bytes z))(v:h8 P fn.results.toList=some [.tmp 2])
 (aE:Nat.ble 1 fn.ntmps=true)(H:toTs z=some I)(E:t.sz U=sz):h3 P (DR U f t bytes):=by
 intro(l:List (t.den U.D)) r bw K J1 k aF;subst E;have d:(fK bytes l).map (λr=>(l,r))=some r:=bw;unfold fK at d;split at d
 . rename_i w;cases d;cases k with
   |cons h1 j=>
    cases j;obtain⟨sz,n,rfl,_,q⟩:=h1.hh;obtain⟨_,y,F,G⟩:=aF 0 (.arr t l) rfl;cases G;have:=q (.arr t l) rfl (t.sz U,l.length) rfl;simp only[bE]at this;obtain⟨rfl,rfl⟩:=this;have u:l.length=(l.map (t.enc U)).length:=by rw[gH]
    rw[u]
    refine(YJ (bytes:=bytes) s o v (h' aE) H aK.rW (es:=List.map (t.enc U) l) (λe he=>by
     obtain⟨y,_,rfl⟩:=eJ.1 he
     exact aK.su) (by rw[gH];exact w) F).mono ?_
    rintro M s1 J ⟨rfl,rfl,A,B⟩
    have g:∀b x,aX ((DR U f t bytes).rest (l,l)) b=some x->(b=0\/b=1)/\x=cR.arr t l:=by
     intro b x a;have L:(if b=0 then some (cR.arr t l)else if b=1 then some (cR.arr t l)else none)=some x:=by
      rw[<-a];simp only[cD.rest,DR,kS,qv,aL.cells,fg.cells,gE,iP,aX]
      match b with
      |0=>rfl
      |1=>rfl
      |_+2=>rfl
     grind
    refine⟨rfl,.c (.arr 1 _ _ (by omega) λx a p i=>?_),λb x a=>?_⟩
    . obtain⟨_,rfl⟩:=g _ _ a;simp only[cR.de,bI]at i;rw[<-i,gH]
    . obtain⟨m,rfl⟩:=g _ _ a;rcases m with rfl|rfl
      . exact⟨by omega,_,A,.arr t l⟩
      . exact⟨by omega,_,B,.arr t l⟩
 . cases d
end
end
section
open Go Go.Proofs Go.Proofs.YtdjagncoefjfeaaGreat Go.Shelf
variable {U:cM}
def DS(U:cM)(f E a:Nat):cD U:=
 ⟨f,[.c (.ptr 0 0)],[.b8 E (.cI 1),.buf a],[.str],.aY [],[.b8 E (.cI 1),.buf a],[.str],λ(s:aj)=>some s⟩
section
variable {P:Program}{ρ:Ren}
theorem aa6(L:Lays.n240 P ρ)(y:Builder.X72 P ρ){J:a7}{D n:Nat}{s:aj}(h0:aV J 0=some (.b8 (ρ.t 72) (.cI 1 n)))(h1:aV J 1=some (.buf D s)):
 eh P (ρ.f 240) [.c (.ptr 0 0)] J 2 (λr J' N'=>r= .aY []/\J'=J/\N'=2):=by
 intro φ S w B g A l O vs o;cases o with|cons M o=>
 cases o;have H:=M.hY;subst H;obtain⟨q,⟨p,v,aa,G,I⟩,z⟩:=g.blk 0 _ h0;have same:∀ w',w' = w->∃ (v:Value) (r:V) (i:dG) (bR:dV) (J':a7) (N':Nat),Ending.returned (Value.tuple #[]) = Ending.returned v/\(r = .aY []/\J' = J/\N' = 2)/\cq i w' bR r v/\r.aA (lt N') = true/\qp i w' bR J'/\(∀ (b:Nat) x,aV J' b = some x->b<N'/\x.aA (lt N') = true)/\Ext B S bR w w'/\
  (∀(b:Nat) x,aV J' b=some x->(i b).2≠0->B (i b).1\/w.heap.size<=(i b).1)/\∀b,b<2->i b=φ b:=by
  rintro w' rfl
  exact⟨_,.aY [],φ,S,J,2,rfl,⟨rfl,rfl,rfl⟩,.aY [] [] rfl (by simp),rfl,g,A,Ext.refl,λb x a d=>.inl (l b x a d),λ_ _=>rfl⟩
 rcases G with rfl|rfl
 . have k:w.cell? ⟨(φ 0).1,0,none⟩=some (.pointer none):=by rw[jw (vs:=[_,_]) aa];rfl
   have K:w.shape? (φ 0).1=some (ρ.t 72,2):=(by simp[World.shape?,aa]);have F:w.frozen? ⟨(φ 0).1,0,none⟩=false:=(by simp[World.frozen?,aa]);refine(Any.Builder_copyCheck_fresh L y (φ 0).1 w k K F).mono ?_
   rintro e w' ⟨rfl,rfl⟩
   obtain⟨N,u⟩:=Tk (vs:=[.pointer none,v]) aa 0 (.pointer (some ⟨(φ 0).1,0,none⟩));have m:gB w S (w.setCell ⟨(φ 0).1,0,none⟩ (.pointer (some ⟨(φ 0).1,0,none⟩))) S:=⟨λ_ _ h=>h,λb j h=>qS (u b (λe=>z j (e▸h))) j⟩
   refine⟨_,.aY [],φ,S,J,2,rfl,⟨rfl,rfl,rfl⟩,.aY [] [] rfl (by simp),rfl,⟨λb x a=>?_,g.inj,λb j h=>?_⟩,A,⟨rfl,rfl,rfl,by simp,λb d dv=>u b (λe=>dv (e▸l 0 _ h0 q)),m,λ_ _ h=>.inl h⟩,λb x a d=>.inl (l b x a d),λ_ _=>rfl⟩
   . by_cases d:b=0
     . subst d;rw[h0]at a;cases a;exact⟨q,⟨_,v,N,.inr rfl,bm.mono (n:=λ_=>true) m (λ_ _=>rfl) (C.mo _) I⟩,z⟩
     . exact c2.mono (n:=λ_=>true) m (λ_ _=>rfl) rfl (by cases x<;>simp[bP.aA,C.mo]) (λE=>u _ (g.inj b 0 x _ a h0 d E q)) (g.blk b x a)
   . have:=g.st b j h;simpa using this
 . have k:w.cell? ⟨(φ 0).1,0,none⟩=some (.pointer (some ⟨(φ 0).1,0,none⟩)):=by rw[jw (vs:=[_,_]) aa];rfl
   refine(Any.Builder_copyCheck_used L y (φ 0).1 w k).mono ?_
   rintro e w' ⟨rfl,rfl⟩
   exact same _ rfl
theorem aa7(L:Lays.n240 P ρ)(c:Builder.X72 P ρ){E a:Nat}(j:ρ.f 240=f)(dD:ρ.t 72=E):h3 P (DS U f E a):=by
 subst j;subst dD;intro(s:aj) r bw p J1 b aF;have k:r=s:=l5 bw.symm;subst k;cases b with|cons b i=>
 cases i;have:=b.hY;subst this;have l:aX ((DS U (ρ.f 240) (ρ.t 72) a).iH r) 0=some (.b8 (ρ.t 72) (.cI 1)):=rfl;have m:aX ((DS U (ρ.f 240) (ρ.t 72) a).iH r) 1=some (.buf a r):=rfl;obtain⟨_,w,e,b0⟩:=aF 0 _ l;obtain⟨_,x,g,b1⟩:=aF 1 _ m;cases b1;cases b0 with| @b8 _ _ d b0=>
 cases b0 with|cI _ n q u=>
 refine(aa6 L c e g).mono ?_
 rintro v s1 o ⟨rfl,rfl,rfl⟩
 exact⟨rfl,.aY [] [] rfl (by simp),aF⟩
end
end
section
open Go Go.ChangeShapes Go.WideShapes Go.RowKit
variable {U:cM}
def aK.Sv:aK->Nat
 |.bool=>1
 |.int k=>k.bits/8
 |.str=>16
 |.slice _=>24
 |.nm _=>0
def I3:List aK->Nat
 |[]=>0
 |t::r=>t.Sv+I3 r
def tc(l:List aK):Nat:=bif l.any λt=>Nat.ble 8 t.Sv then(I3 l+7)/8*8 else I3 l
def aK.bytes(U:cM)(t:aK):Nat:=tc (t.cells U)
inductive WF (U:cM):Cell U.D->Prop
 |bool (b:Bool):WF U ⟨.bool,b⟩
 |int (k:IntKind) (n:Int) (h:(Lit.int k n).wf=true):WF U ⟨.int k,n⟩
 |str (s:aj) (h:s.length<=reachBytes):WF U ⟨.str,s⟩
 |slice (t:aK) (l:List (t.den U.D)) (h:l.length<=reachBytes) (agj:l.length*t.bytes U<=reachBytes) (af:∀x,x∈l->∀c,c∈t.row U x->WF U c):WF U ⟨.slice t,l⟩
def cM.Total(U:cM):Prop:=∀n (l:List (Cell U.D)),l.map Cell.ty=U.dc n->∃x,U.make n l=some x
def DO:List aK->List aK->Bool
 |[],[]=>true
 |a::l,b::m=>aK.beq a b&&DO l m
 |_,_=>false
theorem MP:∀{l m:List aK},DO l m=true->l=m
 |[],[],_=>rfl
 |a::l,b::m,h=>by
  simp only[DO,cd]at h;rw[aK.beq_eq h.1,MP h.2]
 |[],_::_,h=>by cases h
 |_::_,[],h=>by cases h
def zK(P:Program)(g:TypeId->Option (List aK)):List Field->Nat->Nat->Option (List aK)
 |[],off,c=>match Nat.beq off c with
  |true=>some []
  |false=>none
 |f::r,off,c=>match g f.type with
  |none=>none
  |some a=>match Nat.beq f.offset off&&Nat.beq (P.cellsOf f.type) a.length with
   |false=>none
   |true=>match zK P g r (off+a.length) c with
    |none=>none
    |some b=>some (a++b)
def flat(P:Program)(U:cM)(st:TypeId->Option Nat):Nat->TypeId->Option (List aK)
 |0,_=>none
 |n+1,t=>match P.underlying t with
  |some .bool=>some [.bool]
  |some (.int k)=>some [.int k]
  |some .string=>some [.str]
  |some (.slice e)=>match st e with
   |some m=>match Nat.ble 1 (P.bytesOf e)&&Nat.ble (tc (U.dc m)) (P.bytesOf e)with
    |true=>some [.slice (.nm m)]
    |false=>none
   |none=>match flat P U st n e with
    |none=>none
    |some a=>match Nat.ble 1 (P.bytesOf e)&&Nat.ble (tc a) (P.bytesOf e)with
     |false=>none
     |true=>match a with
      |[ty]=>match ty.xR with
       |true=>none
       |false=>some [.slice ty]
      |_=>none
  |some (.struct fs)=>zK P (flat P U st n) fs.toList 0 (P.cellsOf t)
  |some (.array k e)=>match flat P U st n e with
   |none=>none
   |some a=>match Nat.beq (P.cellsOf t) (k*a.length)&&Nat.beq (P.cellsOf e) a.length with
    |false=>none
    |true=>some (List.replicate k a).flatten
  |_=>none
theorem Jt{α:Type}{R:Nat->α->Prop}:∀(n:Nat),(∀i,i<n->∃x,R i x)->∃l:List α,l.length=n/\∀(i:Nat) x,l[i]?=some x->R i x
 |0,_=>⟨[],rfl,by simp⟩
 |n+1,h=>by
  obtain⟨l,af,b⟩:=Jt n λi a=>h i (by omega);obtain⟨x,c⟩:=h n (by omega);refine⟨l++[x],by simp[af],λi y d=>?_⟩;grind
variable{v:Value}{t:TypeId}{a:Addr}{st:TypeId->Option Nat}{dc:List aK}
section
variable {H:Type}{enc:TypeId×Value->H}{P:Program}{w:World}
abbrev Old(w:World):dV:=λb _=>b<w.heap.size
structure Rd (U:cM)(w:World)(dc:List aK)(cs:List Value)(l:List (Cell U.D)):Prop where
 ty:l.map Cell.ty=dc
 wf:∀c,c∈l->WF U c
 rt:a' (λc v=>cg w (Old w) (Cell.enc U c) v) l cs
theorem zL{t:aK}{x:t.den U.D}(h1:WF U ⟨t,x⟩)(a:cg w (Old w) (Cell.enc U ⟨t,x⟩) v):Rd U w [t] [v] [⟨t,x⟩]:=
 ⟨rfl,by simpa using h1,.cons a .nil⟩
theorem Gx:∀{ds:List (DataW H)} {d:DataW H},d∈ds->∀n∈d.weights P t,n∈DataW.weightsAll P t ds
 |d0::ds,d,a,n,aE=>by
  simp only[DataW.weightsAll,fY];rcases eU.1 a with rfl|a
  . grind
  . exact .inr (Gx a n aE)
theorem LL{g:TypeId->Option (List aK)}{cs:List Value}:∀{fs:List Field} {off i:Nat} {dc:List aK},
 (∀f,f∈fs->∀a,g f.type=some a->∃l,Rd U w a ((cs.drop f.offset).take (P.cellsOf f.type)) l)->
 zK P g fs off i=some dc->cs.length=i->∃l,Rd U w dc (cs.drop off) l
 |[],off,i,dc,_,h,af=>by
  simp only[zK]at h;split at h
  . rename_i e;cases h;have:=cV e;refine⟨[],rfl,by simp,?_⟩;rw[en (by omega)];exact .nil
  . cases h
 |f::r,off,i,dc,al,h,af=>by
  simp only[zK]at h;split at h
  . cases h
  . rename_i a n;split at h
    . cases h
    . rename_i j;simp only[cd]at j;have h1:=cV j.1;have s:=cV j.2;split at h
      . cases h
      . rename_i b o;cases h;obtain⟨q,k⟩:=al f (by simp) a n;obtain⟨l2,m⟩:=LL (λf p=>al f (by simp[p])) o af;refine⟨q++l2,by simp[k.ty,m.ty],?_,?_⟩
        . intro c d;rcases fY.1 d with d|d
          . exact k.wf c d
          . exact m.wf c d
        . have e:cs.drop off=(cs.drop off).take a.length++cs.drop (off+a.length):=by rw[<-yx,yp]
          rw[e];refine a'.append ?_ m.rt;have:=k.rt;grind
theorem Oh{a:List aK}{cs:List Value}:∀(k off:Nat),(∀i,i<k->∃l,Rd U w a ((cs.drop (off+i*a.length)).take a.length) l)->cs.length=off+k*a.length->
 ∃l,Rd U w (List.replicate k a).flatten (cs.drop off) l
 |0,off,_,af=>by
  refine⟨[],rfl,by simp,?_⟩;rw[en (by omega)];exact .nil
 |k+1,off,al,af=>by
  obtain⟨g,d⟩:=al 0 (by omega);rw[yB,l8]at d
  obtain⟨l2,f⟩:=Oh (a:=a) (cs:=cs) k (off+a.length) (λi j=>by
   have:=al (i+1) (by omega)
   rwa [Nat.succ_mul,yA (i*a.length),<-p9]at this) (by rw[af,Nat.succ_mul];omega)
  refine⟨g++l2,by simp[d.ty,f.ty,List.replicate_succ],?_,?_⟩
  . intro c b;rcases fY.1 b with b|b
    . exact d.wf c b
    . exact f.wf c b
  . have e:cs.drop off=(cs.drop off).take a.length++cs.drop (off+a.length):=by rw[<-yx,yp]
    rw[e];exact a'.append d.rt f.rt
theorem aa8{n:Nat}{cs:List Value}(h:w.cells? 0 a n=some cs):cs.length=n/\∀j,j<n->w.cell? (a.add j)=cs[j]?:=by
 unfold World.cells? at h;rw[ae (hA _)]at h;exact⟨by simpa using mapM_some_length h,λj b=>mapM_some_get h j j (by simp[b])⟩
theorem LM(h:w.cell? a=some v):a.spot=none/\a.block<w.heap.size:=by
 unfold World.cell? at h;split at h
 . rename_i b;split at h
   . cases h
   . rename_i hs;refine⟨by simpa using hs,(yF.1 b).1⟩
 . cases h
theorem Nj{i j:Nat}(h:a.spot=none):(a.add i).add j=⟨a.block,a.off+i+j,none⟩:=by
 obtain⟨b,o,c⟩:=a;dsimp only at h;subst h;unfold Addr.add;grind
theorem RT(b:U.Total){t:aK}{l:List (Cell U.D)}(h:l.map Cell.ty=t.cells U):∃x,t.row U x=l:=by
 have one:∀t:aK,l.map Cell.ty=[t]->∃x:t.den U.D,l=[⟨t,x⟩]:=by
  intro t h
  match l,h with
  |[⟨c,x⟩],h=>simp at h;subst h;exact⟨x,rfl⟩
 cases t with
 |nm n=>
  obtain⟨x,a⟩:=b n l h;exact⟨x,U.mk_eq n l x a⟩
 |bool=>obtain⟨x,a⟩:=one _ h;exact⟨x,a.symm⟩
 |int k=>obtain⟨x,a⟩:=one _ h;exact⟨x,a.symm⟩
 |str=>obtain⟨x,a⟩:=one _ h;exact⟨x,a.symm⟩
 |slice t=>obtain⟨x,a⟩:=one _ h;exact⟨x,a.symm⟩
def r9(P:Program)(U:cM)(st:TypeId->Option Nat):Prop:=∀e m,st e=some m->flat P U st 60 e=some (U.dc m)
def wY:List (TypeId×Nat)->TypeId->Option Nat
 |[],_=>none
 |p::l,t=>match Nat.beq p.1 t with
  |true=>some p.2
  |false=>wY l t
def zM(P:Program)(U:cM)(st:TypeId->Option Nat)(t:TypeId)(dc:List aK):Bool:=
 match flat P U st 60 t with
 |some a=>DO a dc
 |none=>false
theorem HP(h:zM P U st t dc=true):flat P U st 60 t=some dc:=by
 unfold zM at h;split at h
 . rename_i a b;rw[b,MP h]
 . cases h
theorem MQ:∀{l:List (TypeId×Nat)} {t m},wY l t=some m->(t,m)∈l
 |p::l,t,m,h=>by
  simp only[wY]at h;split at h
  . rename_i e;cases h;have:=cV e;grind
  . exact .tail _ (MQ h)
theorem ad0{l:List (TypeId×Nat)}(h:(l.all λp=>zM P U (wY l) p.1 (U.dc p.2))=true):r9 P U (wY l):=by
 intro e m he;rw[c0]at h;exact HP (h _ (MQ he))
theorem YL(g:r9 P U st){n:Nat}{e:TypeId}(ht:P.underlying t=some (.slice e))(h:flat P U st (n+1) t=some dc):
 ∃ty a i,dc=[.slice ty]/\flat P U st i e=some a/\a=ty.cells U/\1<=P.bytesOf e/\tc a<=P.bytesOf e:=by
 simp only[flat,ht]at h;split at h
 . rename_i m f;split at h
   . rename_i b;cases h;simp only[cd]at b;exact⟨.nm m,U.dc m,60,rfl,g e m f,rfl,BQ b.1,BQ b.2⟩
   . cases h
 . split at h
   . cases h
   . rename_i a c;split at h
     . cases h
     . rename_i b;have d:1<=P.bytesOf e/\tc a<=P.bytesOf e:=(by simp_all);split at h
       . rename_i ty;split at h
         . cases h
         . rename_i aE;cases h;refine⟨ty,[ty],n,rfl,c,?_,d⟩;cases ty<;>first|rfl|cases aE
       . cases h
theorem LN(aA:U.Total)(ax:r9 P U st):∀(T n:Nat) (t:TypeId) (cs:List Value) (x:DataW H×List MemPlace) (dc:List aK),
 DataW.trod enc P w 0 (λ_=>true) true T t cs=some x->flat P U st n t=some dc->(∀k,k∈x.1.weights P t->k<=reachBytes)->∃l,Rd U w dc cs l:=by
 intro T;induction T with
 |zero=>intro n t cs x dc h;simp[DataW.trod]at h
 |succ m ih=>
  intro n t cs x dc h p N;cases n with
  |zero=>cases p
  |succ n=>
  have aq:=p;simp only[flat]at p;split at p
  . rename_i o;cases p;obtain⟨b,rfl,rfl⟩:=DataW.trod_bool o h;exact⟨_,zL (.bool b) (.bool b)⟩
  . rename_i k o;cases p;obtain⟨i,rfl,rfl,ay⟩:=DataW.trod_int o h;exact⟨_,zL (.int k i ay) (.int k i)⟩
  . rename_i o;cases p;obtain⟨s,rfl,rfl,hs⟩:=DataW.trod_string o h;have h1:s.data.toList.length<=reachBytes:=N _ (by simp[DataW.weights]);have A:s.data.toList.length=s.size:=rK;refine⟨_,zL (.str s.data.toList h1) (.str s ?_)⟩;unfold reachBytes at h1;unfold eC;omega
  . rename_i e o;obtain⟨ty,a,az,rfl,G,ad,an,ao⟩:=YL ax o aq;rcases DataW.trod_slice o h with⟨rfl,rfl⟩|⟨g,len,cap,B,O,am,L,rfl,rfl,_,aC,_,aB,I,_,_⟩
    . refine⟨_,zL (.slice ty [] (hA _) (by simp) (by simp)) ?_⟩;exact .slice [] none 0 0 0 0 (λ_ _=>default) (by simp) (by simp) (by simp) (by simp) (by simp) (by simp)
    . cases L;have aD:(B.length+O.length)*P.bytesOf e<=reachBytes:=by
       have:=N ((B.length+O.length)*P.bytesOf e) (by simp[DataW.weights,o]);exact this
      have R:len<=reachBytes:=by
       have h1:B.length+O.length<=(B.length+O.length)*P.bytesOf e:=Fs _ an;omega
      have K:len*tc a<=reachBytes:=by
       have h1:len*tc a<=(B.length+O.length)*P.bytesOf e:=Nat.mul_le_mul (by omega) ao;omega
      have dD:∀i,i<len->∃Q:ty.den U.D,∃z,z.length=P.cellsOf e/\(∀j,j<P.cellsOf e->w.cell? ((g.add (i*P.cellsOf e)).add j)=z[j]?)/\Rd U w a z (ty.row U Q):=by
       intro i u;have J:=I i u;have ap:B[i]?=some B[i]:=eI (by omega);rw[ap]at J;cases F:w.cells? 0 (g.add (i*P.cellsOf e)) (P.cellsOf e)with
       |none=>rw[F]at J;cases J
       |some z=>
        rw[F]at J;obtain⟨h1,A⟩:=aa8 F
        obtain⟨l,af⟩:=ih az e z _ a J G (λk Y=>N k (by
         simp only[DataW.weights,o,eU,fY];right;left
         exact Gx (eJ.2 ⟨B[i],BU _,rfl⟩) k Y))
        obtain⟨Q,aE⟩:=RT aA (t:=ty) (by rw[af.ty,ad]);grind
      obtain⟨xs,ai,ak⟩:=Jt len dD;have ab:len≠0->P.cellsOf e=ty.sz U/\0<P.cellsOf e:=by
       intro M;obtain⟨Q,z,h1,_,E⟩:=dD 0 (by omega);have y:=E.rt.length;rw[aK.Sl,h1]at y;exact⟨y.symm,by rw[<-y];exact aK.rW⟩
      have aa:len≠0->g.spot=none:=by
       intro M;obtain⟨Q,z,h1,A,E⟩:=dD 0 (by omega);have h0:=A 0 (ab M).2;rw[eI (by rw[h1];exact(ab M).2)]at h0;have bb:=(LM h0).1;simpa[Addr.add]using bb
      have aj:∀x,x∈xs->∃i:Nat,xs[i]?=some x/\i<len:=by
       intro x C;obtain⟨i,u⟩:=Fw.1 C;grind
      refine⟨_,zL (t:= .slice ty) (x:=xs) (.slice ty xs (by omega) (by rw[ai];unfold aK.bytes;rw[<-ad];exact K) ?_) ?_⟩
      . intro x C c F;obtain⟨i,u,_⟩:=aj x C;obtain⟨z,_,_,E⟩:=ak i x u;exact E.wf c F
      . have K:(xs.map (ty.enc U)).length=len:=(by simp[ai]);show cg w (Old w) (.slice (xs.map (ty.enc U))) (.slice (some g) len cap);rw[<-K];refine .slice (xs.map (ty.enc U)) (some g) cap (P.cellsOf e) g.block g.off (λi j=>(w.cell? ⟨g.block,g.off+i*P.cellsOf e+j,none⟩).getD default) (by omega) ?_ ?_ ?_ ?_ ?_
        . rw[K];unfold reachBytes at R;unfold eH;omega
        . intro r S;obtain⟨x,C,rfl⟩:=eJ.1 S;obtain⟨i,_,u⟩:=aj x C;rw[aK.su];exact(ab (by omega)).1.symm
        . intro M;have au:len≠0:=by intro h0;apply M;rw[<-List.length_eq_zero_iff];omega
          have:=aa au;rw[show g=⟨g.block,g.off,g.spot⟩from rfl,this]
        . intro i j u X;rw[K]at u;obtain⟨Q,z,h1,A,E⟩:=dD i u;have y:=A j X;rw[eI (by omega)]at y;have Z:=aa (by omega);have aI:(g.add (i*P.cellsOf e)).add j=⟨g.block,g.off+i*P.cellsOf e+j,none⟩:=Nj Z;rw[aI]at y;exact⟨(LM y).2,by rw[y];rfl⟩
        . intro i j r aF S ag;rw[ot,bd]at S;obtain⟨x,C,rfl⟩:=S;obtain⟨z,h1,A,E⟩:=ak i x C;have u:i<len:=by have:=(c5.1 C).1;omega
          rw[aK.u3,ot,bd]at ag;obtain⟨c,F,rfl⟩:=ag;obtain⟨v,ah,aw⟩:=E.rt.get F;have X:j<P.cellsOf e:=by have:=(c5.1 ah).1;omega
          have y:=A j X;have Z:=aa (by omega);have aI:(g.add (i*P.cellsOf e)).add j=⟨g.block,g.off+i*P.cellsOf e+j,none⟩:=Nj Z;rw[aI,ah]at y;show cg w (Old w) _ ((w.cell? ⟨g.block,g.off+i*P.cellsOf e+j,none⟩).getD default);rw[y];exact aw
  . rename_i fs o;obtain⟨xs,am,L,rfl,af,R,I⟩:=DataW.trod_struct o h;cases L
    have:=LL (U:=U) (w:=w) (P:=P) (cs:=cs) (fs:=fs.toList) (off:=0) (λf ar a G=>by
     obtain⟨i,u⟩:=Fw.1 ar;have W:fs[i]?=some f:=(by simpa using u);have al:=I i f W;have ae:i<xs.length:=by rw[R];exact(yF.1 W).1
     rw[eI ae]at al
     exact ih n f.type _ _ a al G (λk Y=>N k (by
      simp only[DataW.weights,o]
      exact DataW.weights_mem_each (j:=i) (t:=f.type) (d:=xs[i].1) (by simp[W]) (by simp[ae]) k Y))) p af
    simpa using this
  . rename_i k e o;split at p
    . cases p
    . rename_i a G;split at p
      . cases p
      . rename_i V;cases p;simp only[cd]at V;have h1:=cV V.1;have A:=cV V.2;obtain⟨xs,am,L,rfl,af,R,I⟩:=DataW.trod_array o h;cases L
        have:=Oh (U:=U) (w:=w) (a:=a) (cs:=cs) k 0 (λi u=>by
         have al:=I i u;rw[eI (by omega)]at al
         obtain⟨l,af⟩:=ih n e _ _ a al G (λq av=>N q (by
          simp only[DataW.weights,o]
          exact Gx (eJ.2 ⟨xs[i],BU _,rfl⟩) q av))
         rw[A]at af
         exact⟨l,by rw[gm];exact af⟩) (by rw[af,h1,gm])
        simpa using this
  . cases p
end
end
section
open Go Go.ChangeShapes Go.WideShapes Go.RowKit
variable {U:cM}
def isAgg(P:Program)(t:TypeId):Bool:=
 match P.underlying t with
 |some (.struct _)=>true
 |some (.array _ _)=>true
 |_=>false
def l9(P:Program)(U:cM)(st:TypeId->Option Nat):List TypeId->List e9->List aK->Bool
 |[],[],[]=>true
 |t::ts,.row m::a,.nm b::dc=>(Nat.beq m b&&(isAgg P t&&zM P U st t (U.dc m)))&&l9 P U st ts a dc
 |t::ts,.c (.hole ty)::a,d::dc=>(aK.beq ty d&&(!ty.xR&&(!isAgg P t&&zM P U st t [ty])))&&l9 P U st ts a dc
 |_,_,_=>false
variable{st:TypeId->Option Nat}{v:Value}{b0 N f:Nat}{t:TypeId}{D:Nat->Type}{gI:List e9}{ts:List aK}{c:List MemPlace}
section
variable {H:Type}{enc:TypeId×Value->H}{P:Program}{w:World}{φ:dG}
theorem Tw:∀{d:List TypeId} {b:List e9} {dc:List aK},l9 P U st d b dc=true->d.length=dc.length
 |[],[],[],_=>rfl
 |[],[],_::_,h=>by cases h
 |[],_::_,_,h=>by cases h
 |_::_,[],_,h=>by cases h
 |_::_,a::_,[],h=>by
  cases a with
  |c x=>cases x<;>cases h
  |_=>cases h
 |t::ts,a::b,ty::dc,h=>by
  have:l9 P U st ts b dc=true:=by
   cases a with
   |row m=>cases ty with
    |nm e=>simp only[l9,cd]at h;exact h.2
    |_=>cases h
   |c x=>cases x with
    |hole ty=>simp only[l9,cd]at h;exact h.2
    |_=>cases h
   |_=>cases h
  simp[Tw this]
theorem YM{r:Reach}(hs:isAgg P t=true)(h:Value.okWide P w r b0 t v):∃cs,v= .agg cs:=by
 unfold isAgg at hs;unfold Value.okWide at h;grind
theorem YN{r:Reach}(hs:isAgg P t=false)(h:Value.okWide P w r b0 t v):v.cells=#[v]:=by
 unfold isAgg at hs;unfold Value.okWide at h;have a:Cell.okWide P w r b0 t v:=by grind
 cases v with
 |agg cs=>
  unfold Cell.okWide at a;split at a<;>first|(rename_i e;cases e)|(rename_i e _;cases e)|skip
  unfold Cell.ok at a;grind
 |_=>rfl
theorem KY{S:dV}:∀{l:List (Cell U.D)} {vs:List Value},a' (λc v=>cg w S (Cell.enc U c) v) l vs->a' (bm φ w S) ((l.map bl.t).map bl.oS) vs
 |[],[],.nil=>.nil
 |c::l,v::vs,.cons h1 a=>.cons h1 (KY a)
theorem LO(i:U.Total)(φ:dG){st:TypeId->Option Nat}(F:r9 P U st){b0:Nat}:∀(ts:List TypeId) (e:List e9) (dc:List aK) (args:List Value) (ds:List (DataW H)) (ps:List MemPlace),
 l9 P U st ts e dc=true->(∀(j:Nat) t v,ts[j]?=some t->args[j]?=some v->Value.okWide P w .any b0 t v)->
 DataW.TrodAll enc P w 0 (λ_=>true) true ts args ds ps->(∀k,k∈DataW.weightsEach P ts ds->k<=reachBytes)->
 ∃(l:eP U) (xs:List (bB U)),l.map Cell.ty=dc/\(∀c,c∈l->∀d,d∈c.ty.row U c.val->WF U d)/\kT e l=(xs,[])/\(∀x,x∈xs->fJ x=true)/\a' (cq φ w (Old w)) (xs.map fh) args
 |[],[],[],args,ds,ps,_,_,ht,_=>by
  obtain⟨rfl,rfl,rfl⟩:=trodAll_nil ht;exact⟨[],[],rfl,by simp,rfl,by simp,.nil⟩
 |t::ts,R::e,ty::dc,args,ds,ps,a,J,ht,L=>by
  obtain⟨v,vs,d,S,p,q,rfl,rfl,rfl,⟨G,h1⟩,T⟩:=trodAll_cons ht;have K:=J 0 t v rfl rfl;have M:∀k,k∈d.weights P t->k<=reachBytes:=λk u=>L k (by simp only[DataW.weightsEach,fY];exact .inl u);have Q:∀(I:l9 P U st ts e dc=true),_:=λI=>LO i φ (st:=st) F (b0:=b0) ts e dc vs S q I (λj t v W aa=>J (j+1) t v (by simpa using W) (by simpa using aa)) T
   (λk u=>L k (by simp only[DataW.weightsEach,fY];exact .inr u))
  unfold l9 at a;split at a
  . grind
  . rename_i t0 ad m ab ah af aI o dh;cases aI;cases o;cases dh;simp only[cd]at a;obtain⟨⟨C,hs,s⟩,E⟩:=a;have D:=cV C;subst D;obtain⟨l,xs,z,X,A,Y,B⟩:=Q E;obtain⟨cs,rfl⟩:=YM hs K;obtain⟨O,b⟩:=LN i F G 60 t _ _ _ h1 (HP s) M;obtain⟨x,N⟩:=RT i (t:= .nm m) b.ty;refine⟨⟨.nm m,x⟩::l,.agg ((aK.row U (.nm m) x).map .t)::xs,by simp[z],?_,?_,?_,?_⟩
    . intro c f;rcases eU.1 f with rfl|f
      . intro d r;exact b.wf d (N▸r)
      grind
    . simp only[kT,kS,A]
    . intro y g;rcases eU.1 g with rfl|g
      . simp[fJ,bl.oB]
      grind
    . refine .cons ?_ B;have:=KY (φ:=φ) b.rt;rw[<-N]at this;exact cq.agg (vs:=cs.toList) this
  . rename_i t0 ad ae ab ai af aI o dh;cases aI;cases o;cases dh;simp only[cd,qe]at a;obtain⟨⟨C,aE,hs,s⟩,E⟩:=a;have D:=aK.beq_eq C;subst D;obtain⟨l,xs,z,X,A,Y,B⟩:=Q E;rw[YN hs K]at h1;obtain⟨O,b⟩:=LN i F G 60 t _ _ _ h1 (HP s) M
    match O,b with
    |[],b=>cases b.ty
    |[⟨n,x⟩],b=>
     have Z:n=ae:=by have:=b.ty;simpa using this
     subst Z;refine⟨⟨n,x⟩::l,.c (.t ⟨n,x⟩)::xs,by simp[z],?_,?_,?_,?_⟩
     . intro c f;rcases eU.1 f with rfl|f
       . intro d r;refine b.wf d ?_;cases n<;>first|exact r|cases aE
       grind
     . simp only[kT,kS,qv,A]
     . intro y g;rcases eU.1 g with rfl|g
       . rfl
       grind
     . refine .cons ?_ B;cases b.rt with
       |cons V ag=>exact .c V
    |_::_::_,b=>have:=b.ty;simp at this
  . cases a
 |[],[],_::_,_,_,_,a,_,_,_=>by cases a
 |[],_::_,_,_,_,_,a,_,_,_=>by cases a
 |_::_,[],_,_,_,_,a,_,_,_=>by cases a
 |t::ts,R::e,[],_,_,_,a,_,_,_=>by
  cases R with
  |row m=>cases a
  |c x=>cases x<;>cases a
  |agg l=>cases a
  |aY l=>cases a
theorem aL.R2:∀(ts:List aK) (l:eP U),l.map Cell.ty=ts->∃h:aL U.D ts,aL.cells U.D ts h=l
 |[],[],_=>⟨(),rfl⟩
 |[t],[⟨a,x⟩],h=>by
  have:a=t:=by simpa using h
  subst this;exact⟨x,rfl⟩
 |t::u::r,⟨a,x⟩::l,h=>by
  simp only[fu,yw]at h;obtain⟨h1,c⟩:=h;subst h1;obtain⟨y,e⟩:=aL.R2 (u::r) l (by simpa using c);exact⟨(x,y),by show⟨a,x⟩::aL.cells U.D (u::r) y=_;rw[e]⟩
 |[],_::_,h=>by simp at h
 |_::_,[],h=>by simp at h
 |[_],_::_::_,h=>by simp at h
theorem fg.Be:∀{ts:List aK} {t:aK} (h:fg D t ts),fg.dec D t ts (fg.cells D t ts h)=some h
 |[],t,x=>Cell.P1
 |u::r,t,x=>by
  unfold fg.dec fg.cells;simp only[u6,Cell.P1];rw[fg.Be];rfl
theorem aL.Be:∀{ts:List aK} (h:aL D ts),aL.dec D ts (aL.cells D ts h)=some h
 |[],_=>rfl
 |_::_,h=>fg.Be h
theorem aL.gV:∀{ts:List aK} {l:List (Cell D)},l.map Cell.ty=ts->∃h,aL.dec D ts l=some h:=by
 have go:∀(ts:List aK) (l:List (Cell D)),l.map Cell.ty=ts->∃h:aL D ts,aL.cells D ts h=l:=by
  intro ts;induction ts with
  |nil=>intro l h;cases l with
   |nil=>exact⟨(),rfl⟩
   |cons=>cases h
  |cons t r ih=>
   intro l h;cases l with
   |nil=>cases h
   |cons c l=>
    obtain⟨f,x⟩:=c;simp only[fu,yw]at h;obtain⟨h1,e⟩:=h;subst h1;obtain⟨y,a⟩:=ih l e;cases r with
    |nil=>
     cases l with
     |nil=>exact⟨x,rfl⟩
     |cons=>cases e
    |cons u r=>exact⟨(x,y),by show⟨f,x⟩::aL.cells D (u::r) y=_;rw[a]⟩
 intro ts l h;obtain⟨y,a⟩:=go ts l h;exact⟨y,by rw[<-a];exact aL.Be y⟩
def Ok(U:cM)(ts:List aK)(h:aL U.D ts):Prop:=∀c,c∈aL.cells U.D ts h->∀d,d∈c.ty.row U c.val->WF U d
theorem adf:cv N ([]:bh U) []:=λb x h=>by cases h
theorem Nk{J:bh U}:∀{xs:List (bB U)},(∀x,x∈xs->fJ x=true)->a' (ca N J) xs (xs.map fh)
 |[],_=>.nil
 |x::xs,h=>.cons (vV (h x (by simp))).1 (Nk λy a=>h y (by simp[a]))
theorem MR{k:Nat->Bool}:∀{xs:List (bB U)},(∀x,x∈xs->fJ x=true)->V.aA.V.dH k (xs.map fh)=true
 |[],_=>rfl
 |x::xs,h=>by
  simp only[fu,V.aA.V.dH,cd];exact⟨(vV (N:=0) (J:=[]) (h x (by simp))).2 k,MR λy a=>h y (by simp[a])⟩
variable{F:aL U.D ts->Option (aL U.D [.bool])}
theorem agq(Q:U.Total)(hs:h3 P ⟨f,gI,[],ts,.c (.hole .bool),[],[.bool],F⟩)
 (O:∀h:aL U.D ts,Ok U ts h->F h=some true){st:TypeId->Option Nat}(K:r9 P U st){i:List TypeId}(E:l9 P U st i gI ts=true)
 {b0:Nat}{args:Array Value}{ds:List (DataW H)}{ps:List MemPlace}(L:∀(j:Nat) t v,i[j]?=some t->args[j]?=some v->Value.okWide P w .any b0 t v)
 (ht:DataW.TrodAll enc P w 0 (λ_=>true) true i args.toList ds ps)(N:∀k,k∈DataW.weightsEach P i ds->k<=reachBytes):
 Calls P f args w λe w'=>e= .returned (.bool true)/\Below w.heap.size w w':=by
 obtain⟨l,xs,z,A,B,n,C⟩:=LO Q (λb=>(b,0)) K i gI ts args.toList ds ps E (λj t v s M=>L j t v s (by simpa using M)) ht N;obtain⟨h,aa⟩:=aL.R2 ts l z;have bw:=O h (λc m d q=>A c (aa▸m) d q)
 have p:=hs h true bw (xs.map fh) [] (by
  show a' (ca 0 _) (kT gI (aL.cells U.D ts h)).1 _;rw[aa,B];exact Nk n) (by
  show cv 0 (gE 0 [] _) []
  exact adf)
 have:=p (λb=>(b,0)) (Old w) w (λ_=>False) {blk:=λb x a=>(by cases a),inj:=λb R x y a=>(by cases a),st:=λb j o=>o} (λb x a=>by cases a) (λb x a=>by cases a)
  (MR n) args.toList C
 rw[Array.toArray_toList]at this;refine this.mono λe w' ⟨v,r,S,bR,J',N',he,⟨_,G,_⟩,J,_,_,_,g,_⟩=>?_;cases G with
 |c m=>
  cases m with
  |t c=>
   cases J with
   |c I=>
    cases I;exact⟨he,g.os,g.tape,g.output,g.size,λk u=>g.block k u (λh=>h)⟩
theorem YO{f:Func}{s:ChangeSpec}{o Al n:Bool}{W e:World}{args:Array Value}{ds gs:List (DataW H)}
 (dm:DataW.Whole enc P f.params.toList s.vars false W args.toList ds gs c)(k:Below W.heap.size W e)
 (hres:∀(b:Nat) (d:Nat->Bool) (q:Bool),DataW.TrodAll enc P e b d q f.resultTypes.toList (v.resultList f.resultTypes.size) (s.fn H (ds++gs)).results [])
 (i:∀d:Nat->Bool,(∀p∈c,d p.block=true)->DataW.TrodAll enc P e 0 d true f.params.toList args.toList (s.fn H (ds++gs)).args c)
 (m:∀d:Nat->Bool,(∀p∈c,d p.block=true)->DataW.TrodVars enc P e d s.vars (s.fn H (ds++gs)).vars [])
 (u:∀(j:Nat) (t:TypeId) (r:Value),f.resultTypes[j]?=some t->(v.resultList f.resultTypes.size)[j]?=some r->Value.okWide P e .any 0 t r):
 s.post enc P f false o Al n W args v e:=by
 have aC:=dm.lt;have l:∀p∈c,(λb=>decide (b<W.heap.size)) p.block=true:=λp g=>by simpa using aC p g
 refine⟨ds,gs,c,[],c,[],dm,hres _ _ _,i _ l,m _ l,k.frame _,λ_=>?_⟩;refine⟨u,(s.fn H (ds++gs)).results++(s.fn H (ds++gs)).args,(s.fn H (ds++gs)).vars,c,⟨c,[],?_,m _ (λ_ _=>rfl),by simp,?_,λh=>by cases h⟩,λp g _=>g⟩
 . have:=trodAll_append (i (λ_=>true) (λ_ _=>rfl)) (hres 0 (λ_=>true) true);simpa using this
 . intro b off g;obtain⟨_,_,_,_,_,x,_⟩:=dm;rw[World.frozen?_of_block (w:=W) (a:=⟨b,off,none⟩) (k.block b (aC _ g))];exact x b off g
theorem agr{fn:Func}{s:ChangeSpec}(aj:U.Total)
 (hs:h3 P ⟨f,gI,[],ts,.c (.hole .bool),[],[.bool],F⟩)
 (ai:∀h:aL U.D ts,Ok U ts h->F h=some true){st:TypeId->Option Nat}(ae:r9 P U st)(E:l9 P U st fn.params.toList gI ts=true)
 {J:TypeId}(hres:fn.resultTypes=#[J])(htb:P.underlying J=some .bool)(A:s.vars=[])
 (Q:∀ds:List (DataW H),ds.length=ts.length->(s.fn H ds).results=[.lit (.bool true)]/\(s.fn H ds).args=ds/\(s.fn H ds).vars=[])
 (y:(laidOutB P&&mapsRowed P)=true)(X:fn.params.toList.all (λt=>decide (t<P.types.size))=true)
 (ad:((List.range P.types.size).all λt=>match P.underlying t with|some (.slice e)=>decide (0<P.cellsOf e)|_=>true)=true)
 {W:World}{base:Nat}{args:Array Value}{ds gs:List (DataW H)}{M:List MemPlace}{N Al L:Bool}
 (I:∀(j:Nat) t v,fn.params[j]?=some t->args[j]?=some v->Value.okWide P W .any base t v)
 (dm:DataW.Whole enc P fn.params.toList s.vars false W args.toList ds gs M)
 (w:(DataW.weightsEach P (fn.params.toList++s.plain.varTypes P) (ds++gs)).all (· <=reachBytes)=true):
 Calls P f args W λe m=>∃v,e= .returned v/\s.post enc P fn false N Al L W args v m:=by
 have u:=dm;obtain⟨p,q,o,gy,rfl,R,bT⟩:=dm;rw[A]at gy;obtain⟨rfl,rfl⟩:=trodVars_none gy;have ah:s.plain.varTypes P=[]:=by show s.vars.filterMap _=[]<;>simp[A]
 rw[ah,l4,l4,c0]at w;have C:ds.length=ts.length:=by
  have h1:∀{g:List TypeId} {vs:List Value} {ds:List (DataW H)} {ps:List MemPlace},DataW.TrodAll enc P W 0 (λ_=>true) true g vs ds ps->ds.length=g.length:=by
   intro g;induction g with
   |nil=>intro vs ds ps h;obtain⟨_,rfl,_⟩:=trodAll_nil h;rfl
   |cons t r ih=>intro vs ds ps h;obtain⟨_,_,_,_,_,_,_,rfl,_,_,n⟩:=trodAll_cons h;simp[ih n]
  rw[h1 o,Tw E]
 obtain⟨Y,Z,ab⟩:=Q ds C;simp only[cd]at y;have K:=kids_rows y.1 y.2;have af:=slices_full_of P ad;refine(agq aj hs ai ae E (λj t v S ag=>I j t v (by simpa using S) ag) o (λk V=>by simpa using w k V)).mono λe m ⟨he,B⟩=>?_;subst he;refine⟨_,rfl,YO u B ?_ ?_ ?_ ?_⟩
 . intro b l al;rw[l4,Y,hres];exact trodAll_cons_mk (shut_bool htb _) trodAll_mk0
 . intro l G;rw[l4,Z];have aC:=u.lt;clear u R bT w I C;have c8:∀t,t∈fn.params.toList->t<P.types.size:=λt ht=>by simpa using c0.1 X t ht
   have go:∀ {g:List TypeId} {vs:List Value} {ds:List (DataW H)} {ps:List MemPlace},(∀ t,t∈g->t<P.types.size)->(∀ p∈ps,p.block<W.heap.size/\l p.block = true)->
    DataW.TrodAll enc P W 0 (λ_=>true) true g vs ds ps->DataW.TrodAll enc P m 0 l true g vs ds ps:=by
    intro g;induction g with
    |nil=>intro vs ds ps _ _ h;obtain⟨rfl,rfl,rfl⟩:=trodAll_nil h;exact trodAll_mk0
    |cons t r ih=>
     intro vs ds ps c8 z h;obtain⟨v,am,d,ak,a,b,rfl,rfl,rfl,⟨O,h1⟩,n⟩:=trodAll_cons h;refine⟨a,b,⟨O,DataW.trod_stays (T:=(· < P.types.size)) K (λ{t e}=>af t e) (by intro aa;cases aa) (c8 t (by simp)) h1 (λx i=>B.same (z x (by simp[i])).1) (λx i=>(z x (by simp[i])).2)⟩,ih (λt ht=>c8 t (by simp[ht])) (λx i=>z x (by simp[i])) n,rfl⟩
   rw[l4];exact go c8 (λx i=>⟨aC x (by simp[i]),G x (by simp[i])⟩) o
 . intro l G;rw[l4,ab,A];exact rfl
 . exact ok_one hres rfl (okWide_bool_mk htb _)
end
end
section
open Go
theorem kg{a b:Int}(h1: -9223372036854775808<=a+b:=by omega)(c:a+b<=9223372036854775807:=by omega):aM .i64 a b=a+b:=by unfold aM;rw[IntKind.wrap_i64];omega
theorem hP{a b:Int}(h1: -9223372036854775808<=a-b:=by omega)(c:a-b<=9223372036854775807:=by omega):dj .i64 a b=a-b:=by unfold dj;rw[IntKind.wrap_i64];omega
theorem jI{a:Int}(h1: -9223372036854775808<=a:=by omega)(b:a<=9223372036854775807:=by omega):bY .i64 a=a:=by unfold bY;rw[IntKind.wrap_i64];omega
theorem aQ{k n:Nat}(h:k<n):aH (k:Int) n=true:=by unfold aH;simp[h]
theorem bc(k:Nat):(k:Int).toNat=k:=ou k
theorem kZ{a:Int}(h0:0<=a:=by omega)(h1:a<18446744073709551616:=by omega):IntKind.u64.wrap a=a:=by rw[IntKind.wrap_u64];omega
variable{a:Nat}{α:Type}
theorem hE(h1:a<18446744073709551616:=by omega):bY .u64 (a:Int)=a:=kZ
theorem w2:(2:Nat)^64=18446744073709551616:=by decide
theorem Nl{b:Nat}(c:a<18446744073709551616)(d:b<18446744073709551616):rQ .u64 (a:Int) (b:Int)=((a ||| b:Nat):Int):=by
 have f:a ||| b<2^64:=Nat.or_lt_two_pow (by rw[w2];exact c) (by rw[w2];exact d);have e:(BitVec.ofInt 64 (a:Int) ||| BitVec.ofInt 64 (b:Int)).toNat=a ||| b:=by grind
 show IntKind.u64.wrap (((BitVec.ofInt 64 (a:Int) ||| BitVec.ofInt 64 (b:Int)).toNat:Nat):Int)=_;rw[e];rw[w2]at f;exact kZ
theorem Oi{n c i:Nat}(h:n<2^i):n ||| (c*2^i)=n+c*2^i:=by rw[Nat.or_comm,wI,<-Nat.two_pow_add_eq_or_of_lt h,yA]
theorem abg{b:Nat}(a:b<256):A9 .u8 (b:Int) 127=((b%128:Nat):Int):=by
 have e:(BitVec.ofInt 8 (b:Int) &&& BitVec.ofInt 8 (127:Nat)).toNat=b%128:=by
  rw[wK,wK,BitVec.toNat_and,wD,wD,ow (by omega)];exact Nat.and_two_pow_sub_one_eq_mod b 7
 show IntKind.u8.wrap (((BitVec.ofInt 8 (b:Int) &&& BitVec.ofInt 8 (127:Nat)).toNat:Nat):Int)=_;rw[e,IntKind.wrap_u8];omega
theorem MS{k:Nat}(b:k<=64)(h:a*2^k<18446744073709551616):mX .u64 (a:Int) (k:Int)=((a*2^k:Nat):Int):=by
 unfold mX;have:min ((k:Int).toNat) IntKind.u64.bits=k:=by simp[IntKind.bits];omega
 rw[this];have e:(a:Int)*2^k=((a*2^k:Nat):Int):=by push_cast;rfl
 rw[e];exact kZ
theorem uj(h:a<18446744073709551616):fC .u64 (a:Int) 2=((a/2:Nat):Int):=by
 unfold fC;have e:(a:Int).tdiv 2=((a/2:Nat):Int):=by rw[yG (by omega)];omega
 rw[e];exact kZ
theorem Az{b:Nat}:b' (a:Int) (b:Int)=((a%b:Nat):Int):=by rfl
theorem ua{b:Nat}(h:a*b<18446744073709551616):gF .u64 (a:Int) (b:Int)=((a*b:Nat):Int):=by
 unfold gF;have e:(a:Int)*b=((a*b:Nat):Int):=by push_cast;rfl
 rw[e];exact kZ
theorem NS{a b:Int}(h1: -9223372036854775808<=a*b)(c:a*b<=9223372036854775807):gF .i64 a b=a*b:=by unfold gF;rw[IntKind.wrap_i64];omega
theorem sa{b:Nat}(h:a+b<18446744073709551616):aM .u64 (a:Int) (b:Int)=((a+b:Nat):Int):=by
 unfold aM;have e:(a:Int)+b=((a+b:Nat):Int):=by push_cast;rfl
 rw[e];exact kZ
theorem vZ{b:Nat}(h:a+b<=9223372036854775807):aM .i64 (a:Int) (b:Int)=((a+b:Nat):Int):=by rw[kg];norm_cast
theorem bH(h:a<9223372036854775807:=by omega):aM .i64 (a:Int) 1=((a+1:Nat):Int):=by rw[kg];norm_cast
theorem qZ(s:aj)(i:Nat):fz s (i:Int)=((s.getD i 0).toNat:Int):=by simp[fz]
theorem yU(s:aj)(i:Nat):(s.getD i 0).toNat<256:=BX _
theorem nO(l:List α)(k:Nat):ef l (k:Int) (l.length:Int)=l.drop k:=by simp[ef]
theorem tm(l:List α)(k:Nat):ef l 0 (k:Int)=l.take k:=by simp[ef]
theorem jR{b n:Nat}(h1:a<=b)(c:b<=n):dY (a:Int) (b:Int) n=true:=by unfold dY;simp;omega
theorem H2(a b:Nat):ji (a:Int) (b:Int)=((min a b:Nat):Int):=by unfold ji;omega
theorem cS{k n:Nat}(a:k<=1000:=by omega)(h:n<=100000:=by simp;omega):room k n=true:=by
 unfold room kf eH;simp only[cd,dw];refine⟨?_,by omega⟩;have:(2*n+192)*k<=200192*1000:=Nat.mul_le_mul (by omega) a;omega
end
section
open Go Go.Proofs Go.Proofs.YtdjagncoefjfeaaGreat Go.Sort Go.RowKit
variable {P:Program}{α:Type}[Inhabited α]
theorem V5(w:World)(blk:Nat)(f:Array Value->Array Value){b:Nat}(h:b≠blk):(mapBlock w blk f).heap[b]?=w.heap[b]?:=by simp[mapBlock,BO,dK h]
theorem VK(w:World)(blk:Nat)(f:Array Value->Array Value){c:Array Value}{E:TypeId}{a:Nat×Nat}(h:w.heap[blk]?=some (.cells c E a)):(mapBlock w blk f).heap[blk]?=some (.cells (f c) E a):=by
 simp[mapBlock,BO,h,onCells]
theorem abh{g k:Nat}(enc:α->List Value)(m:α->List T)(F:Array α->Array α)(aS:∀x,(enc x).length=k)(M:∀x,(m x).length=k)(K:0<k)
 (aP:∀(w:World) (S:dV) (x:α) (j:Nat) (t:T) (v:Value),(m x)[j]?=some t->cg w S t v->(enc x)[j]?=some v)
 (bw:∀d:Array α,(F d).size=d.size/\∀x,x∈(F d).toList->x∈d.toList)
 (au:∀(blk off cap:Nat) (d:Array α) (w:World),HoldsK enc k w blk off d->blk<w.heap.size->d.size<4611686018427387904->
  Calls P f #[.slice (some ⟨blk,off,none⟩) d.size cap,.func (.func g) #[] #[]] w λe w'=>e= .returned (.tuple #[])/\∃n os,w'=sortWorldK enc k w blk off n (F d) os)
 (aL:∀(p:Option Addr) (cap:Nat) (al:Value) (w:World),Calls P f #[.slice p 0 cap,al] w λe w'=>e= .returned (.tuple #[])/\w'=w)
 {J:a7}{d:List α}(h0:aV J 0=some (.arr k (d.map m)))(aB:0<kk):
 eh P f [.c (.arr 0 k 0 d.length),.c (.fn g [])] J kk (λr J' N'=>r= .aY []/\J'=db J 0 (.arr k ((F d.toArray).toList.map m))/\N'=kk):=by
 intro φ S w B q aM O aQ vs I;cases I with|cons z I=>
 cases I with|cons Q I=>
 cases I;cases z with|c z=>
 cases Q with|c Q=>
 obtain⟨a,rfl,an,aT⟩:=z;have aN:_=Value.func (.func g) #[] #[]:=Q;subst aN;obtain⟨af,ae,aU,_,aq⟩:=q.blk 0 _ h0;rw[gH]at af ae;obtain⟨aj,aH⟩:=bw d.toArray;have Z:∀ w':World,Ext B S S w w'->qp φ w' S (db J 0 (.arr k ((F d.toArray).toList.map m)))->∃ v r D bR J' N',Ending.returned (Value.tuple #[]) = Ending.returned v/\(r = V.aY []/\J' = db J 0 (.arr k ((F d.toArray).toList.map m))/\N' = kk)/\cq D w' bR r v/\r.aA (lt N') = true/\qp D w' bR J'/\(∀ (b:Nat) x,aV J' b = some x->b<N'/\x.aA (lt N') = true)/\Ext B S bR w w'/\
  (∀(b:Nat) x,aV J' b=some x->(D b).2≠0->B (D b).1\/w.heap.size<=(D b).1)/\∀b,b<kk->D b=φ b:=by
  intro w' dD aF;refine⟨_,.aY [],φ,S,_,kk,rfl,⟨rfl,rfl,rfl⟩,.aY [] [] rfl (by simp),rfl,aF,λb x l=>?_,dD,λb x l o=>?_,λ_ _=>rfl⟩
  . rw[cZ]at l;split at l
    . rename_i o;cases l;subst o;exact⟨aB,rfl⟩
    . exact aM b x l
  . rw[cZ]at l;split at l
    . rename_i ao;subst ao;exact .inl (O _ _ h0 o)
    . exact .inl (O b x l o)
 by_cases L:(φ 0).2=0
 ·
  have av:d=[]:=jE (by omega);subst av;refine(aL a _ _ w).mono ?_
  rintro e w' ⟨rfl,rfl⟩
  have he:(F ([]:List α).toArray).toList.map m=([]:List α).map m:=by grind
  refine Z _ Ext.refl ?_;rw[he];refine⟨λb x l=>?_,λb G x y l W=>?_,q.st⟩
  . rw[cZ]at l;split at l
    . rename_i o;cases l;subst o;exact q.blk _ _ h0
    . exact q.blk b x l
  . have key:∀b x,aV (db J 0 (.arr k (([]:List α).map m))) b=some x->∃A,aV J b=some A:=by
     intro b x l;rw[cZ]at l;grind
    obtain⟨A,R⟩:=key b x l;obtain⟨Y,X⟩:=key G y W;exact q.inj b G A Y R X
 . obtain⟨vs,E,aa,ak,ar,ag⟩:=aq L;rw[an L];have ai:∀(i j:Nat) (t:T) (x:α),d[i]?=some x->(m x)[j]?=some t->∃v,vs[i*k+j]?=some v/\cg w S t v/\(enc x)[j]?=some v:=by
    intro i j t x s u;obtain⟨v,z,ah⟩:=ar i j (m x) t (by rw[ot,s];rfl) u;grind
   have ab:(φ 0).1<w.heap.size:=(by grind);have am:HoldsK enc k w (φ 0).1 (0*k) d.toArray:=by
    intro j u;rw[size_flatK]at u;have az:j<d.length*k:=(by simpa using u);have s:j/k<d.length:=(Nat.div_lt_iff_lt_mul K).2 az;have H:j%k<k:=yE _ K;have l:d[j/k]?=some d[j/k]:=eI s;have aG:j%k<(m d[j/k]).length:=by rw[M];exact H
    obtain⟨v,z,_,he⟩:=ai (j/k) (j%k) _ _ l (eI aG);have aA:j/k*k+j%k=j:=by rw[wI];exact Nat.div_add_mod j k
    rw[aA]at z;refine⟨?_,by simp[World.frozen?,aa]⟩;rw[yB,gm,jw aa,z,get_flatK _ _ _ _ u];grind
   have aD:d.toArray.size<4611686018427387904:=by
    have:eH=281474976710656:=rfl;simp;omega
   refine(au (φ 0).1 (0*k) _ d.toArray w am ab aD).mono ?_
   rintro e w' ⟨rfl,n,os,rfl⟩
   have N:∀b:Nat,b<w.heap.size->b≠(φ 0).1->(sortWorldK enc k w (φ 0).1 (0*k) n (F d.toArray) os).heap[b]?=w.heap[b]?:=by
    intro b o aJ;unfold sortWorldK putRowK putRow;rw[heap_grow_old _ _ (by simpa[mapBlock,Go.Sort.ahead]using o),V5 _ _ _ aJ];rfl
   have aK:(sortWorldK enc k w (φ 0).1 (0*k) n (F d.toArray) os).heap[(φ 0).1]?=some (.cells (putCells id (0*k) (flatK enc k (F d.toArray)) vs.toArray).toList.toArray E (0,0)):=by
    unfold sortWorldK putRowK putRow;rw[heap_grow_old _ _ (by simpa[mapBlock,Go.Sort.ahead]using ab),VK (Go.Sort.ahead w n) _ _ (by exact aa)]
   have H:gB w S (sortWorldK enc k w (φ 0).1 (0*k) n (F d.toArray) os) S:=⟨λ_ _ h=>h,λb j h=>qS (N b (q.st b j h) (λe=>ag j (e▸h))) j⟩
   refine Z _ ⟨rfl,rfl,rfl,?_,λb o dv=>N b o (λe=>dv (e▸O 0 _ h0 L)),H,λ_ _ h=>.inl h⟩ ⟨λb x l=>?_,λb G x y l W=>?_,λb j h=>?_⟩
   . unfold sortWorldK putRowK putRow;simp[grow,mapBlock,Go.Sort.ahead]
   . rw[cZ]at l;split at l
     . rename_i o;cases l;subst o;refine⟨by simpa[aj]using af,by simpa[aj]using ae,λe he=>?_,K,λ_=>⟨_,E,aK,by simpa[putCells]using ak,λi j e t s u=>?_,ag⟩⟩
       . obtain⟨x,_,rfl⟩:=eJ.1 he;exact M x
       . rw[ot]at s;cases U:(F d.toArray).toList[i]? with
         |none=>rw[U]at s;cases s
         |some x=>
          rw[U]at s;have:e=m x:=(l5 s).symm;subst this;have l:x∈d:=(by simpa using aH x (eM U));obtain⟨aO,ax,aw⟩:=e5 l;obtain⟨v,z,ah,he⟩:=ai aO j t x (by rw[eI ax,aw]) u;refine⟨v,?_,cg.mono H ah⟩;have aR:j<k:=by rw[<-M x];exact(c5.1 u).1
          have ay:i<(F d.toArray).size:=(by grind);have aC:i*k+j<(F d.toArray).size*k:=by
           have:=e2 k (show i+1<=(F d.toArray).size from ay);grind
          have aE:i*k+j<vs.length:=by
           rw[ak];refine lZ aC (e2 k ?_);grind
          have d1:(i*k+j)/k=i:=(blk_iff k i _ K).1 ⟨by omega,by omega⟩;have d2:(i*k+j)%k=j:=by rw[Nat.mod_eq_sub_div_mul,d1];omega
          have aI:(F d.toArray)[i]! =x:=(by grind);have:(putCells id (0*k) (flatK enc k (F d.toArray)) vs.toArray).toList[i*k+j]?=some ((flatK enc k (F d.toArray))[i*k+j]!):=by
           rw[Fv];simp only[putCells,Array.getElem?_mapIdx];rw[show vs.toArray[i*k+j]?=some vs[i*k+j] by simp[aE]];simp[size_flatK,aC]
          rw[this,get_flatK _ _ _ _ aC,d1,d2,aI,List.getElem!_eq_getElem?_getD,he];rfl
     . rename_i o;have ap:b≠0:=λe=>o (by simp[e]);refine c2.mono (n:=λ_=>true) H (λ_ _=>rfl) rfl (by cases x<;>simp[bP.aA,C.mo]) (λad=>N _ ((q.blk b x l).kp ad) (q.inj b 0 x _ l h0 ap ad L)) (q.blk b x l)
   . have key:∀b x,aV (db J 0 (.arr k ((F d.toArray).toList.map m))) b=some x->∃A,aV J b=some A:=by
      intro b x l;rw[cZ]at l;grind
     obtain⟨A,R⟩:=key b x l;obtain⟨Y,X⟩:=key G y W;exact q.inj b G A Y R X
   . have:=q.st b j h;unfold sortWorldK putRowK putRow;simp[grow,mapBlock,Go.Sort.ahead];omega
def hX(lt:α->α->Bool)(l:List α):List α:=(pdq lt l.toArray 0 l.length (Lib.bitLen l.length) true true).toList
theorem Hr{lt:α->α->Bool}(b:SWO lt)(l:List α):(hX lt l).Perm l:=by
 obtain⟨⟨hs,_,a⟩,_⟩:=pdq_sorts lt b l.toArray 0 l.length (Lib.bitLen l.length) true true (hA _) (by simp) (Or.inl rfl);have aI:∀d:Array α,d.size=l.length->d.extract 0 l.length=d:=λd h=>by rw[<-h];exact Array.extract_size
 rw[aI _ (by simpa using hs),aI _ (by simp)]at a;simpa[hX]using a
theorem YA{lt:α->α->Bool}(a:SWO lt)(l:List α):(hX lt l).length=l.length:=(Hr a l).length_eq
theorem YB{lt:α->α->Bool}(a:SWO lt)(l:List α):(hX lt l).Pairwise λx y=>lt y x=false:=by
 obtain⟨⟨hs,_,_⟩,aF⟩:=pdq_sorts lt a l.toArray 0 l.length (Lib.bitLen l.length) true true (hA _) (by simp) (Or.inl rfl);have f:(hX lt l).length=l.length:=YA a l;rw[rJ];intro i j g d c;have:=aF i j (hA _) c (by rw[<-f];exact d);have e:∀i (h:i<(hX lt l).length),(pdq lt l.toArray 0 l.length (Lib.bitLen l.length) true true)[i]! =(hX lt l)[i]:=by
  intro i h;have b:i<(pdq lt l.toArray 0 l.length (Lib.bitLen l.length) true true).size:=by simpa[hX]using h
  rw[getElem!_pos _ i b];simp[hX]
 grind
def Gb(U:cM)(f n g:Nat)(F:List (U.D n)->List (U.D n)):cD U:=
 ⟨f,[.c (.arr 0),.c (.fn g [])],[.arr (.nm n)],[.slice (.nm n)],.aY [],[.arr (.nm n)],[.slice (.nm n)],λ(l:List (U.D n))=>some (F l)⟩
theorem abi{n g:Nat}[Inhabited (U.D n)](enc:U.D n->List Value)(lt:U.D n->U.D n->Bool)(E:SWO lt)(K:∀x,(enc x).length=(aK.nm n).sz U)
 (F:∀(w:World) (S:dV) (x:U.D n) (j:Nat) (t:T) (v:Value),((aK.nm n).enc U x)[j]?=some t->cg w S t v->(enc x)[j]?=some v)
 (I:∀(blk off cap:Nat) (d:Array (U.D n)) (w:World),HoldsK enc ((aK.nm n).sz U) w blk off d->blk<w.heap.size->d.size<4611686018427387904->
  Calls P f #[.slice (some ⟨blk,off,none⟩) d.size cap,.func (.func g) #[] #[]] w λe w'=>e= .returned (.tuple #[])/\∃N os,w'=sortWorldK enc ((aK.nm n).sz U) w blk off N (pdq lt d 0 d.size (Lib.bitLen d.size) true true) os)
 (L:∀(p:Option Addr) (cap:Nat) (z:Value) (w:World),Calls P f #[.slice p 0 cap,z] w λe w'=>e= .returned (.tuple #[])/\w'=w):
 h3 P (Gb U f n g (hX lt)):=by
 intro(l:List (U.D n)) r bw Q J1 c aF;have M:r=hX lt l:=(l5 bw).symm;subst M;cases c with|cons c i=>
 cases i with|cons i G=>
 cases G;obtain⟨sz,m,rfl,_,J⟩:=ca.hh c;have:=ca.Fa i;subst this;have u:Shv.aX ((Gb U f n g (hX lt)).iH l) 0=some (.arr (.nm n) l):=rfl;have o:=J _ u _ rfl;obtain⟨_,V,A,b0⟩:=aF 0 _ u;cases b0;have aI:sz=(aK.nm n).sz U:=(dX Prod.fst o).symm;have y:m=l.length:=(dX Prod.snd o).symm;subst aI;subst y;have s:∀d:Array (U.D n),(hX lt d.toList).Perm d.toList:=λd=>Hr E d.toList
 refine(abh (α:=U.D n) (kk:=1) enc ((aK.nm n).enc U) (λd:Array (U.D n)=>(hX (α:=U.D n) lt d.toList).toArray) K (λx=>aK.su) aK.rW F
  (λd=>⟨by simpa using(s d).length_eq,λx a=>(s d).mem_iff.1 (by simpa using a)⟩) (λblk off cap d w h1 B C=>?_) L A Nat.one_pos).mono ?_
 . have:=I blk off cap d w h1 B C;simpa[hX]using this
 . rintro R s1 O ⟨rfl,rfl,rfl⟩
   refine⟨rfl,.aY [] [] rfl (by simp),λb x a=>?_⟩;have dh:(hX lt l.toArray.toList).toArray.toList=hX lt l:=(by simp);simp only[dh];clear dh bw;generalize hX lt l=q at a⊢;have k:(if b=0 then some (cR.arr (U:=U) (.nm n) q)else none)=some x:=by
    rw[<-a];cases b<;>rfl
   split at k
   . rename_i H;cases k;subst H;refine⟨Nat.one_pos,_,?_,.arr (U:=U) (.nm n) q⟩;rw[cZ];simp;rfl
   . cases k
theorem ZP(w:World)(S:dV)(i:Int)(s:aj)(j:Nat)(t:T)(v:Value)(h:[T.int .i64 i,T.str s][j]?=some t)(a:cg w S t v):[Value.int .i64 i,Value.string ⟨s.toArray⟩][j]?=some v:=by
 match j,h with
 |0,h=>cases h;cases a;rfl
 |1,h=>cases h;cases a;rfl
theorem acj(key:α->Int):SWO (λx y=>decide (key x<key y)) where
 irrefl x:=by simp
 trans x y z h1 a:=by simp at*;omega
 ntrans x y z h1 a:=by simp at*;omega
end
section
open Go Go.Proofs Go.Proofs.YtdjagncoefjfeaaGreat Go.Sort
def k3{α:Type}(a b:Option α):Prop:=∀r,a=some r->b=some r
theorem k3.r{α:Type}{a:Option α}:k3 a a:=λ_ h=>h
theorem k3.n{α:Type}{a:Option α}:k3 none a:=λ_ h=>by cases h
theorem k3.b{α j:Type}{a b:Option α}{k e:α->Option j}(h:k3 a b)(f:∀x,k3 (k x) (e x)):k3 (a>>=k) (b>>=e):=by
 intro r c;cases a with
 |none=>cases c
 |some x=>rw[h x rfl];exact f x r c
theorem k3.i{α:Type}{p:Prop}[Decidable p]{a b c d:Option α}(h:k3 a c)(k:k3 b d):k3 (if p then a else b) (if p then c else d):=by grind
variable {α:Type}[Inhabited α]
def oi(lt:α->α->Bool)(x:α):List α->List α
 |[]=>[x]
 |y::r=>if lt x y then x::y::r else y::oi lt x r
def gX(lt:α->α->Bool):List α->List α
 |[]=>[]
 |x::r=>oi lt x (gX lt r)
def kh(lt:α->α->Bool):List α->Bool
 |[]=>true
 |x::r=>r.all (λy=>lt x y||lt y x)&&kh lt r
theorem Hf(lt:α->α->Bool)(x:α):∀l,(oi lt x l).Perm (x::l)
 |[]=>.refl _
 |y::r=>by
  simp only[oi];split
  . simp_all
  . exact((Hf lt x r).cons y).trans (.swap x y r)
theorem mK(lt:α->α->Bool):∀l,(gX lt l).Perm l
 |[]=>.refl _
 |x::r=>(Hf lt x _).trans ((mK lt r).cons x)
theorem Ju{lt:α->α->Bool}(b:SWO lt)(x:α):∀{l:List α},l.Pairwise (λx y=>lt y x=false)->(oi lt x l).Pairwise λx y=>lt y x=false
 |[],_=>by simp[oi]
 |y::r,h=>by
  rw[hV]at h;simp only[oi];split
  . rename_i c;have d:lt y x=false:=by
     cases e:lt y x with
     |false=>rfl
     |true=>have:=b.trans _ _ _ c e;rw[b.irrefl]at this;cases this
    rw[hV];refine⟨λz a=>?_,hV.2 h⟩;rcases eU.1 a with rfl|a
    . exact d
    . exact b.ntrans _ _ _ (h.1 z a) d
  . rename_i c;rw[hV];refine⟨λz a=>?_,Ju b x h.2⟩;rcases eU.1 ((Hf lt x r).mem_iff.1 a)with rfl|a
    . grind
    grind
theorem CP{lt:α->α->Bool}(a:SWO lt):∀l:List α,(gX lt l).Pairwise λx y=>lt y x=false
 |[]=>.nil
 |x::r=>Ju a x (CP a r)
theorem KZ{lt:α->α->Bool}:∀{l:List α},kh lt l=true->∀a b,a∈l->b∈l->a=b\/lt a b=true\/lt b a=true
 |x::r,h,a,b,c,e=>by
  simp only[kh,cd,c0,hW]at h;rcases eU.1 c with g|d<;>rcases eU.1 e with i|f
  . grind
  . grind
  . grind
  . exact KZ h.2 a b d f
theorem Jv{lt:α->α->Bool}{l:List α}(f:kh lt l=true):∀{a b:List α},a.Perm l->b.Perm l->a.Pairwise (λx y=>lt y x=false)->b.Pairwise (λx y=>lt y x=false)->a=b:=by
 intro a b c d h1 e;refine List.Perm.eq_of_pairwise (le:=λx y=>lt y x=false) (λx y g i j k=>?_) h1 e (c.trans d.symm);rcases KZ f x y (c.mem_iff.1 g) (d.mem_iff.1 i)with h|h|h
 . exact h
 . grind
 grind
theorem Nn{lt:α->α->Bool}(a:SWO lt){l:List α}(b:kh lt l=true):hX lt l=gX lt l:=
 Jv b (Hr a l) (mK lt l) (YB a l) (CP a l)
def Ga(lt:α->α->Bool)(l:List α):Option (List α):=if kh lt l then some (gX lt l)else none
theorem abj{lt:α->α->Bool}(a:SWO lt)(l:List α):k3 (Ga lt l) (some (hX lt l)):=by
 intro r h;unfold Ga at h;split at h
 . rename_i b;rw[Nn a b];exact h
 . cases h
end
end Go.Proofs.YtdjagncoefjfeaaGreat.Shv
