/- The library of this proof, part D: an abstract machine for the code of the program, and its soundness. -/
import Derived.KernelRfl
import Derived.Shelf.Strings.Builder1
import Derived.ChangeArms
import Derived.ChangeStays
import Derived.ChangeSame
import Derived.SizedLaws
import Derived.Below
import Derived.WalkKit
import Derived.ProofKit
import Derived.OpenShut
import Derived.Laws.BitsLemmas
import Derived.Laws.Bits64
import Derived.Shelf.GgSortFunc.InsertionK
import Derived.Shelf.SlSortCmp.Insertion
import Derived.Sort.AssemblyPlain
import Derived.Lib.BitFns
import Derived.Test.YtandcioiaooocaaGreatMaLC

namespace Go.Proofs.YtandcioiaooocaaGreat.Shv
set_option linter.all false
section
open Go
variable {xb:ey}
variable {U:k9}{R:Type}
def VU(gl:zJ)(gd:Option (Nat×Bool))(dst:Option Nat):Bool:=
 match dst with
 |none=>true
 |some d=>(gl.all λe=>!(Nat.beq e.1 d) && !(Nat.beq e.2.1 d))&&(match gd with
  |some g=>!(Nat.beq g.1 d)
  |none=>true)
def K4(dst:Option Nat)(v:hl U)(env:hM U):hM U:=
 match dst with
 |none=>env
 |some d=>(d,v)::env
def NR(gl:zJ)(gd:Option (Nat×Bool))(dst:Option Nat):zJ:=
 match gd,dst with
 |some g,some d=>(d,g)::gl
 |_,_=>gl
abbrev K6(U:k9):=Nat->List (k6 U)
abbrev Ss(U:k9):=hM U->Option (List (hl U))
def azB(s:k6 U)(getv:Ss U)(env:hM U)(J:fr U)(key:Nat):Option (hM U×fr U×ey×c' U.D s.ts):=
 match getv env with
 |none=>none
 |some vs=>match ad' J 0 0 s.st (alq s.Nc vs ([],[])) []with
  |(bs,OM)=>match Sj OM env J with
   |none=>none
   |some (env',J')=>match getv env' with
    |none=>none
    |some Tu=>match aaz bs&&((bs.all λb=>Nat.ble (b+1) key)&&(Nat.beq bs.length s.st.length&&Nat.ble s.G2.length (bs.length+16)))with
     |false=>none
     |true=>match U0 bs s.Nc Tu,Pg bs J' 0 s.st with
      |some a,some b=>match c'.dec U.D s.ts (a++b)with
       |some h=>some (env',J',bs,h)
       |none=>none
      |_,_=>none
def aes(getv:Ss U)(env:hM U)(J:fr U)(key:Nat)(k:hM U->fr U->hl U->Option R):List (k6 U)->Option R
 |[]=>none
 |s::r=>match azB s getv env J key with
  |none=>aes getv env J key k r
  |some (env',J',bs,h)=>(s.F h)>>=λres=>match WN J' (s.rest res) 0 bs with
   |none=>none
   |some c=>if c=true then k env' (VA J' bs (back bs key) (s.rest res)) ((s.res res).hX (back bs key))else none
def abz{α:Type}:List α->Bool
 |[]=>true
 |_=>false
def aqg(s:k6 U)(getv:Ss U)(env:hM U):Option (c' U.D s.ts):=
 match abz s.st&&abz s.G2,getv env with
 |true,some vs=>match vs.all J8,U0 [] s.Nc vs with
  |true,some a=>c'.dec U.D s.ts a
  |_,_=>none
 |_,_=>none
def aer(getv:Ss U)(env:hM U)(g:Bool)(k:hl U->Option R):List (k6 U)->Option R
 |[]=>none
 |s::r=>match aqg s getv env with
  |none=>aer getv env g k r
  |some h=>(if g=true then s.F h else some (c'.TZ U s.us))>>=λres=>match J8 (s.res res)with
   |true=>k (s.res res)
   |false=>none
def Wj(J:fr U)(b:Nat):Bool:=match eg J b with
 |some _=>true
 |none=>false
def fz.OC(J:fr U):fz U->Bool
 |.t _|.vt .. |.hN|.Jq|.Jp=>true
 |.ptr b _=>Wj J b
 |.k' b _ _ _=>Wj J b
 |.fn _ caps=>caps.all (Wj J)
 |.arr b=>match eg J b with
  |some x=>(match x.rz with
   |some _=>true
   |none=>false)
  |none=>false
 |.sub .. =>false
 |.pre .. =>false
 |.LU .. =>false
 |.mp b=>Wj J b
 |.y2 _=>false
 |.lJ b=>match eg J b with
  |some x=>(match x.rz with
   |some p=>Nat.beq p.1 1
   |none=>false)
  |none=>false
 |.dead=>false
def PT(J:fr U):hl U->Bool
 |.c x=>x.OC J
 |.agg cs=>cs.all (fz.OC J)
 |.e2 vs=>go J vs
where go (J:fr U):List (hl U)->Bool
 |[]=>true
 |v::vs=>PT J v&&go J vs
def fz.Oc(J:fr U):fz U->C
 |.t c=>.t (c.enc U)
 |.vt ty x o=>.vt (ty.enc U x) o
 |.hN=>.hN
 |.Jq=>.Jq
 |.Jp=>.Jp
 |.fn f caps=>.fn f caps
 |.ptr b o=>.ptr b o
 |.k' b ty i o=>.k' b (ty.sz U) i o
 |.arr b=>match eg J b with
  |some x=>(match x.rz with
   |some p=>.arr b p.1 0 p.2
   |none=>.dead)
  |none=>.dead
 |.sub b fu len=>.J0 b 1 fu len
 |.pre _ _=>.dead
 |.LU .. =>.dead
 |.mp b=>.mp b
 |.y2 b=>.y2 b
 |.lJ b=>match eg J b with
  |some x=>(match x.rz with
   |some p=>.lJ b p.2
   |none=>.dead)
  |none=>.dead
 |.dead=>.dead
def Nb(J:fr U):hl U->V
 |.c x=>.c (x.Oc J)
 |.agg cs=>.agg (cs.map (fz.Oc J))
 |.e2 vs=>.e2 (go J vs)
where go (J:fr U):List (hl U)->List V
 |[]=>[]
 |v::vs=>Nb J v::go J vs
def Ls(J:fr U):ni U->Bool
 |.box cs=>cs.all (fz.OC J)
 |.arr _ _=>true
 |.rows .. =>false
 |.set _=>true
 |.buf _ _=>true
 |.hZ _ c=>c.OC J
 |.kx .. =>false
def aa8(J:fr U):ni U->hF
 |.box cs=>.box (cs.map (fz.Oc J))
 |.arr ty l=>.arr (ty.sz U) (l.map (ty.enc U))
 |.rows sz _=>.arr sz []
 |.set ks=>.set ks
 |.buf E s=>.buf E s
 |.hZ E c=>.hZ E (c.Oc J)
 |.kx t l i o _=>.kx (t.sz U) (l.map (t.enc U)) i o .dead
def RE(J:fr U):fr U->ee
 |[]=>[]
 |(b,x)::r=>(b,aa8 J x)::RE J r
def an9(J:fr U)(l:fr U):Bool:=l.all λp=>Nat.ble (p.1+1) 16&&Ls J p.2
def aqf(s:k6 U)(getv:Ss U)(env:hM U):Option (c' U.D s.ts):=
 match abz s.st&&Nat.ble s.G2.length 16,getv env with
 |true,some vs=>match vs.all J8,U0 [] s.Nc vs with
  |true,some a=>c'.dec U.D s.ts a
  |_,_=>none
 |_,_=>none
def afB(getv:Ss U)(env:hM U)(J:fr U)(key:Nat)(k:fr U->hl U->Option R):List (k6 U)->Option R
 |[]=>none
 |s::r=>match aqf s getv env with
  |none=>afB getv env J key k r
  |some h=>(s.F h)>>=λres=>match PT (s.rest res) (s.res res)&&an9 (s.rest res) (s.rest res)with
   |true=>k (VA J [] (back [] key) (s.rest res)) ((s.res res).hX (back [] key))
   |false=>none
def fz.KT:fz U->ey
 |.ptr b _|.k' b _ _ _|.arr b|.sub b _ _|.pre b _|.LU b _ _|.mp b|.y2 b|.lJ b=>[b]
 |.fn _ caps=>caps
 |_=>[]
def hl.KT:hl U->ey
 |.c x=>x.KT
 |.agg cs=>cs.flatMap fz.KT
 |.e2 _=>[]
def T8(l:ey)(b:Nat):Bool:=l.any λc=>Nat.beq c b
def azC(xb:ey)(s:k6 U)(getv:Ss U)(env:hM U)(J:fr U)(key:Nat):Option (ey×c' U.D s.ts):=
 match getv env with
 |none=>none
 |some vs=>match ad' J 0 0 s.st (alq s.Nc vs ([],[])) []with
  |(bs,OM)=>match abz OM&&(aaz bs&&((bs.all λb=>Nat.ble (b+1) key&&((T8 (vs.flatMap hl.KT) b||T8 xb b)&&Wj J b))&&(Nat.beq bs.length s.st.length&&(Nat.ble bs.length s.G2.length&&Nat.ble s.G2.length (bs.length+16)))))with
   |false=>none
   |true=>match U0 bs s.Nc vs,Pg bs J 0 s.st with
    |some a,some b=>match c'.dec U.D s.ts (a++b)with
     |some h=>some (bs,h)
     |none=>none
    |_,_=>none
def anX(n:Nat)(J:fr U)(l:fr U):Bool:=l.all λp=>Nat.ble (p.1+1) n&&Ls J p.2
def aci(xb:ey)(getv:Ss U)(env:hM U)(J:fr U)(key:Nat)(k:fr U->hl U->Option R):List (k6 U)->Option R
 |[]=>none
 |s::r=>match azC xb s getv env J key with
  |none=>aci xb getv env J key k r
  |some (bs,h)=>(s.F h)>>=λres=>match PT (s.rest res) (s.res res)&&anX (bs.length+16) (s.rest res) (s.rest res),WN J (s.rest res) 0 bs with
   |true,some c=>if c=true then k (VA J bs (back bs key) (s.rest res)) ((s.res res).hX (back bs key))else none
   |_,_=>none
def aA2(getv:Ss U)(env:hM U)(l:List (k6 U)):Bool:=l.any λs=>(aqf s getv env).isSome
def aA3(getv:Ss U)(env:hM U)(l:List (k6 U)):Bool:=l.any λs=>(aqg s getv env).isSome
def aMP(gd:Option (Nat×Bool))(getv:Ss U)(env:hM U)(l:List (k6 U)):Bool:=
 match gd with
 |some _=>!(aA3 getv env l)
 |none=>false
def aBp(d:Option ey):ey:=match d with
 |some l=>l
 |none=>[]
def aqW(fo:K6 U)(d:Option ey)(gd:Option (Nat×Bool))(f:Nat)(getv:Ss U)(gl:zJ)(env:hM U)(J:fr U)(key:Nat)(k:hM U->fr U->hl U->Option R):Option R:=
 match gd with
 |none=>match d with
  |none=>aes getv env J key k (fo f)
  |some xb=>match aA2 getv env (fo f)with
   |true=>afB getv env J key (λJ v=>k env J v) (fo f)
   |false=>aci xb getv env J key (λJ v=>k env J v) (fo f)
 |some _=>match SY gl env Zh gd with
  |some g=>aer getv env g (λv=>k env J v) (fo f)
  |none=>none
abbrev QJ:=List (Nat×Bool)
def adE(nf:QJ)(gl:zJ):Nat->Option (Nat×Bool)->Bool
 |0,_=>false
 |_,none=>false
 |Og+1,some (t,b)=>(nf.any λg=>Nat.beq g.1 t&&(g.2==b))||adE nf gl Og (eg gl t)
def Ro(nf:QJ)(dst:Option Nat):Bool:=
 match dst with
 |none=>true
 |some d=>nf.all λg=>!(Nat.beq g.1 d)
def alK:hl U:= .c (.t ⟨.bool,false⟩)
def Z5(fo:K6 U)(d:Option ey)(o:h2)(key:Nat)(gl:zJ)(nf:QJ)(env:hM U)(J:fr U)(k:zJ->QJ->hM U->fr U->Option R):Option R:=
 match VU gl o.guard o.dst&&Ro nf o.dst with
 |false=>none
 |true=>match adE nf gl Zh o.guard with
  |true=>match SY gl env Zh o.guard with
   |some _=>k (NR gl o.guard o.dst) nf (K4 o.dst alK env) J
   |none=>none
  |false=>match o.op with
   |.call f args=>match aMP o.guard (λe=>Rf gl o.guard e args) env (fo f)with
    |true=>match SY gl env Zh o.guard,o.guard with
     |some g,some gd=>if g=true then aci (aBp d) (λe=>Rf gl o.guard e args) env J key (λJ v=>k (NR gl o.guard o.dst) nf (K4 o.dst v env) J) (fo f)else k (NR gl o.guard o.dst) (gd::nf) (K4 o.dst alK env) J
     |_,_=>none
    |false=>aqW fo d o.guard f (λe=>Rf gl o.guard e args) gl env J key λenv J v=>k (NR gl o.guard o.dst) nf (K4 o.dst v env) J
   |.OK x args=>match d,o.guard,q2 gl none env x with
    |none,none,some (.c (.fn f _))=>aes (λe=>match q2 gl none e x,Rf gl none e args with
     |some (.c (.fn abe UZ)),some vs=>match Nat.beq abe f with
      |true=>some (vs++UZ.map λb=>.c (.ptr b 0))
      |false=>none
     |_,_=>none) env J key (λenv J v=>k gl nf (K4 o.dst v env) J) (fo f)
    |some _,none,some (.c (.fn f []))=>aer (λe=>Rf gl none e args) env true (λv=>k gl nf (K4 o.dst v env) J) (fo f)
    |_,_,_=>none
   |op=>match ka gl o.guard env J key op with
    |none=>none
    |some (c,v,J')=>match o.guard with
     |none=>if c=true then k gl nf (K4 o.dst v env) J' else none
     |some gd=>match SY gl env Zh (some gd)with
      |none=>none
      |some g=>match op.neutral with
       |true=>if(c || !g)=true then k (NR gl o.guard o.dst) nf (K4 o.dst v env) J else none
       |false=>if g=true then(if c=true then k (NR gl o.guard o.dst) nf (K4 o.dst v env) J' else none)else k (NR gl o.guard o.dst) (gd::nf) (K4 o.dst alK env) J
def azu(J:fr U):fz U->List (Nat×c8)
 |.arr b=>match eg J b with
  |some (.arr t _)=>[(b,t)]
  |_=>[]
 |_=>[]
def aMB(J:fr U):hl U->List (Nat×c8)
 |.c x=>azu J x
 |.agg cs=>cs.flatMap (azu J)
 |.e2 _=>[]
def aqb(gl:zJ)(gd:Option (Nat×Bool))(env:hM U)(J:fr U)(xs:List dy):List (Nat×c8):=
 xs.flatMap λx=>match q2 gl gd env x with
  |some v=>aMB J v
  |none=>[]
def aiq(l:List (Nat×c8))(env:hM U)(J:fr U):Option (hM U×fr U):=
 match l with
 |[]=>none
 |_=>Sj l env J
def aqe(gl:zJ)(o:h2)(env:hM U)(J:fr U):Option (hM U×fr U):=
 match o.op with
 |.slc _ x _ _=>match q2 gl o.guard env x with
  |some (.c (.arr b))=>match eg J b with
   |some (.arr t _)=>Sj [(b,t)] env J
   |_=>none
  |_=>none
 |.call _ args=>match o.guard with
  |some _=>aiq (aqb gl o.guard env J args) env J
  |none=>none
 |.bsliceT _ _ _ _ ps=>aiq (aqb gl o.guard env J (ps.map Prod.snd)) env J
 |.bslice _ _ _ ps=>aiq (aqb gl o.guard env J (ps.map Prod.snd)) env J
 |_=>none
def ajY(fo:K6 U)(d:Option ey)(o:h2)(key:Nat)(gl:zJ)(nf:QJ)(env:hM U)(J:fr U)(k:zJ->QJ->hM U->fr U->Option R):Option R:=
 match d with
 |some xb=>Z5 fo (some xb) o key gl nf env J k
 |none=>match aqe gl o env J with
  |none=>Z5 fo none o key gl nf env J k
  |some p=>Z5 fo none o key gl nf p.1 p.2 k
def Xr(fo:K6 U)(d:Option ey):List h2->Nat->zJ->QJ->hM U->fr U->(zJ->hM U->fr U->Option R)->Option R
 |[],_,gl,_,env,J,k=>k gl env J
 |o::r,key,gl,nf,env,J,k=>ajY fo d o key gl nf env J λgl nf env J=>Xr fo d r (key+16) gl nf env J k
def ahw(gl:zJ)(k:Nat):Bool:=gl.any λe=>Nat.beq e.1 k
def clean(gl:zJ):hM U->hM U
 |[]=>[]
 |(k,v)::r=>match ahw gl k with
  |true=>clean gl r
  |false=>(k,v)::clean gl r
def afC(gl:zJ)(env:hM U):hM U:=
 match gl with
 |[]=>env
 |_=>clean gl env
structure DI (key:Nat)(gl:zJ)(nf:QJ)(env:hM U)(J:fr U)(env1:hc)(J1:ee)(G:Nat->Bool):Prop where
 MI:pq key J G env env1
 a8:MF gl env G
 Jk:l3 key J J1
 eJ:∀g,g∈nf->k3 env G (some g)=false
section
variable {P:Program}{kk key:Nat}{J J':fr U}{J1 f':ee}{env:hM U}{env1:hc}{G:Nat->Bool}{gl:zJ}{gd:Option (Nat×Bool)}{nf:QJ}{dst:Option Nat}{v:hl U}{v1:V}
theorem amP{d:Option Nat}{v:hl U}{env:hM U}{k:Nat}:eg (K4 d v env) k=if d=some k then some v else eg env k:=by
 cases d with
 |none=>simp[K4]
 |some d=>
  simp only[K4,eg];cases h:Nat.beq d k with
  |true=>rw[em h];simp
  |false=>
   have:=ND h;simp[this]
theorem ajZ{o:Option (Nat×Bool)}{g:Bool}(h:SY gl env Zh o=some g):o=none\/∃t b y,o=some (t,b)/\JA env t b=some y:=by
 cases o with
 |none=>exact .inl rfl
 |some x=>
  obtain⟨t,b⟩:=x;obtain⟨y,bo⟩:=aHz h
  grind
theorem auB(a8:MF gl env G)(eJ:∀g,g∈nf->k3 env G (some g)=false):∀{Og:Nat} {gd:Option (Nat×Bool)},adE nf gl Og gd=true->k3 env G gd=false
 |0,gd,h=>by simp[adE]at h
 |Og+1,none,h=>by simp[adE]at h
 |Og+1,some (t,b),h=>by
  simp only[adE,Oz,adW,h5,OX]at h;rcases h with⟨⟨Jt,hf⟩,hm,h1,ad⟩|h
  . have:=em h1
    grind
  . have:=auB a8 eJ h;rw[a8.eg t]at this;simp[k3,this]
theorem DI.bind(he:pq key J' G env env1)(a8:MF gl env G)(cy:l3 key J' f')(eJ:∀g,g∈nf->k3 env G (some g)=false)(ch:hV key J' v v1)(ay:gd=none\/∃t b y,gd=some (t,b)/\JA env t b=some y)(c9:VU gl gd dst=true)(IJ:Ro nf dst=true):
 DI key (NR gl gd dst) nf (K4 dst v env) J' (ii env1 dst (k3 env G gd) v1) f' (λk=>if dst=some k then k3 env G gd else G k):=by
 refine⟨λk w hk=>?_,?_,cy,λg ayq=>?_⟩
 . rw[amP]at hk;rw[Xn];split at hk
   . rename_i h;cases hk;rw[bJ h,bJ h];exact⟨v1,rfl,ch⟩
   . rename_i h;rw[cx h,cx h];exact he k w hk
 . cases dst with
   |none=>
    have:NR gl gd none=gl:=by cases gd<;>rfl
    rw[this];simp only[K4,reduceCtorEq,Jb];exact a8
   |some d=>
    simp only[VU,h5,qa,ahX]at c9;have aLe:∀k t b,eg gl k=some (t,b)->k≠d/\t≠d:=by
     intro k t b hk;have hm:∀{l:zJ},eg l k=some (t,b)->(k,t,b)∈l:=by
      intro l
      induction l with
      |nil=>intro h;simp[eg]at h
      |cons e r ih=>
       obtain⟨h8,e⟩:=e;intro h;simp only[eg]at h;split at h
       . simp_all
       grind
     have:=c9.1 _ (hm hk);exact⟨ND this.1,ND this.2⟩
    have QT:∀t b,t≠d->JA (K4 (some d) v env) t b=JA env t b:=by
     intro t b ht;unfold JA;rw[amP,cx (by simp;exactλe=>ht e.symm)]
    have Vq:∀k t b,eg gl k=some (t,b)->∃y,JA (K4 (some d) v env) t b=some y/\(if some d=some k then k3 env G gd else G k)=((if some d=some t then k3 env G gd else G t)&&y):=by
     intro k t b hk;obtain⟨h1,ad⟩:=aLe k t b hk;obtain⟨y,a',d'⟩:=a8.held k t b hk
     grind
    cases gd with
    |none=>
     refine⟨λk hk=>?_,λk t b hk=>Vq k t b hk⟩;by_cases ayi:some d=some k
     . rw[bJ ayi];rfl
     . rw[cx ayi];exact a8.free k hk
    |some g=>
     obtain⟨t0,b0⟩:=g;have akQ:t0≠d:=by
      have:=c9.2;simp only[ahX]at this;exact ND this
     refine⟨λk hk=>?_,λk t b hk=>?_⟩
     . simp only[NR,eg]at hk;split at hk
       . cases hk
       . rename_i ai;rw[cx (by simp;exact ND ai)];exact a8.free k hk
     . simp only[NR,eg]at hk;split at hk
       . rename_i ai;cases hk;have:=em ai;subst this;rcases ay with h|⟨t,b,y,h,bo⟩
         . cases h
         . cases h;refine⟨y,by rw[QT _ _ akQ];exact bo,?_⟩;rw[bJ rfl,cx (by simp;exactλe=>akQ e.symm)];simp[k3,bo]
       . exact Vq k t b hk
 . obtain⟨t,b⟩:=g;have h0:=eJ _ ayq;cases dst with
   |none=>simpa[K4]using h0
   |some d=>
    simp only[Ro,qa,ahX]at IJ;have ayX:t≠d:=ND (IJ _ ayq);simp only[k3]at h0⊢;rw[cx (by simp;exactλe=>ayX e.symm)];have:JA (K4 (some d) v env) t b=JA env t b:=by
     unfold JA;rw[amP,cx (by simp;exactλe=>ayX e.symm)]
    rw[this];exact h0
theorem anY{N:Nat}{J:fr U}:hV N J alK (.c (.t (.bool false))):= .c (.t (U:=U) ⟨.bool,false⟩)
theorem ajr{o:h2}(h:DI key gl nf env J env1 J1 G)(On:o.guard=none\/∃t b y,o.guard=some (t,b)/\JA env t b=some y)(a8:k3 env G o.guard=false)(c9:VU gl o.guard o.dst=true)(IJ:Ro nf o.dst=true){v:hl U}{v1:V}(ch:hV (key+16) J v v1):
 K' xb P o key env1 J1 false v1 J1/\DI (key+16) (NR gl o.guard o.dst) nf (K4 o.dst v env) J (ii env1 o.dst false v1) J1 (λk=>if o.dst=some k then false else G k):=by
 have QQ:=ajo h.MI On;rw[a8]at QQ;refine⟨.skip QQ rfl,?_⟩;have:=DI.bind (dst:=o.dst) (h.MI.mono (rm.more (by omega))) h.a8 (h.Jk.mono (Nat.le_add_right key 16)) h.eJ ch On c9 IJ;rw[a8]at this;exact this
theorem axo{o:h2}{c:Bool}(h:DI key gl nf env J env1 J1 G)(aa:ka gl o.guard env J key o.op=some (c,v,J'))(On:o.guard=none\/∃t b y,o.guard=some (t,b)/\JA env t b=some y)(c9:VU gl o.guard o.dst=true)(IJ:Ro nf o.dst=true):
 (k3 env G o.guard=true->c=true->∃v1 f',K' xb P o key env1 J1 true v1 f'/\DI (key+16) (NR gl o.guard o.dst) nf (K4 o.dst v env) J' (ii env1 o.dst true v1) f' (λk=>if o.dst=some k then true else G k))/\
 (k3 env G o.guard=false->o.op.neutral=true->∃v1,K' xb P o key env1 J1 false v1 J1/\DI (key+16) (NR gl o.guard o.dst) nf (K4 o.dst v env) J (ii env1 o.dst false v1) J1 (λk=>if o.dst=some k then false else G k)):=by
 obtain⟨⟨v1,ch,b6⟩,hk,eJ⟩:=atL h.MI h.a8 h.Jk aa;have QQ:=ajo h.MI On;refine⟨λa8 a7=>?_,λa8 Qo=>?_⟩
 . obtain⟨p,f',h1,ad,a'⟩:=b6 a8 a7;rw[a8]at QQ;have ay:o.op.drawn=true:=by
    generalize o.op=ap' at aa;cases ap'<;>first|rfl|(simp[ka]at aa)
   have hs:K' xb P o key env1 J1 true v1 (if o.op.neutral then J1 else f'):= .op QQ ay h1 (λ_=>ad) (.inr rfl);have e:(if o.op.neutral=true then J1 else f')=f':=by
    split
    . rename_i Qo;exact(aeX Qo h1).symm
    . rfl
   rw[e]at hs;refine⟨v1,f',hs,?_⟩;have:=DI.bind (dst:=o.dst) (h.MI.mono hk) h.a8 a' h.eJ ch On c9 IJ;rw[a8]at this;exact this
 . rw[eJ Qo]at ch;obtain⟨h1,ad⟩:=ajr (P:=P) h On a8 c9 IJ ch;exact⟨v1,h1,ad⟩
theorem auC{x:fz U}(h:x.WJ=true):x.XT.hE []=x.XT:=by
 cases x<;>simp[fz.WJ]at h<;>try rfl
 rename_i f caps;cases caps with
 |nil=>rfl
 |cons=>simp[fz.WJ]at h
theorem amQ:∀{x:hl U},J8 x=true->(Jw x).hE []=Jw x
 |.c x,h=>by simp only[J8]at h;simp only[Jw,V.hE,auC h]
 |.agg cs,h=>by
  simp only[J8,qa]at h;simp only[Jw,V.hE,List.map_map]
  congr 1
  exact List.map_congr_left λc a7=>auC (h c a7)
 |.e2 vs,h=>by
  simp only[J8]at h;simp only[Jw,V.hE];rw[go vs h]
where go:∀(vs:List (hl U)),J8.go vs=true->V.hE.go [] (Jw.go vs)=Jw.go vs
 |[],_=>rfl
 |v::vs,h=>by
  simp only[J8.go,h5]at h;simp only[Jw.go,V.hE.go,amQ h.1,go vs h.2]
def KJ(P:Program)(fo:K6 U):Prop:=∀f s,s∈fo f->s.f=f/\N6 P f=true/\N9 P s
theorem amR{N:Nat}{hU:fr U}{x:fz U}{d:C}(h:i' N hU x d)(hs:x.OC hU=true):d=x.Oc hU:=by
 cases h<;>simp only[fz.OC,y0]at hs<;>try rfl
 . rename_i b sz n ai ak;simp only[fz.Oc]
   grind
 . rename_i b n ai ak;simp only[fz.Oc]
   grind
theorem aiM{hU:fr U}:∀{vs:List (hl U)} {i:Nat},(Nb.go hU vs)[i]?=(vs[i]?).map (Nb hU)
 |[],i=>by simp[Nb.go]
 |v::vs,0=>by simp[Nb.go]
 |v::vs,i+1=>by simp[Nb.go,aiM]
theorem asx{hU:fr U}:∀{vs:List (hl U)} {i:Nat} {v:hl U},PT.go hU vs=true->vs[i]?=some v->PT hU v=true
 |[],i,v,_,h=>by simp at h
 |x::vs,0,v,hs,h=>by simp[PT.go]at hs;simp at h;subst h;exact hs.1
 |x::vs,i+1,v,hs,h=>by simp[PT.go]at hs;exact asx hs.2 (by simpa using h)
theorem am8{N:Nat}{hU:fr U}:∀{xs:List (fz U)} {ds:List C},er (i' N hU) xs ds->(∀x,x∈xs->x.OC hU=true)->ds=xs.map (fz.Oc hU)
 |[],[],_,_=>rfl
 |x::xs,d::ds,.cons h1 ad,hs=>by
  rw[Vk,<-amR h1 (hs x (by simp)),<-am8 ad (λx aa=>hs x (by simp[aa]))]
theorem aul{N:Nat}{hU:fr U}{x:hl U}{d:V}(h:hV N hU x d):PT hU x=true->d=Nb hU x:=by
 induction h with
 |c h=>intro hs;simp only[PT]at hs;rw[amR h hs];rfl
 |agg h=>
  intro hs;simp only[PT,qa]at hs;simp only[Nb];rw[am8 h hs]
 |e2 xs ds ar h ih=>
  intro hs;simp only[PT]at hs;simp only[Nb]
  congr 1
  apply ahW;intro i;rw[aiM];cases aa:xs[i]? with
  |none=>grind
  |some x=>
   have ao:=(pv.1 aa).1;have ay:=HJ (l:=ds) (i:=i) (by omega);rw[ay,LO]
   congr 1
   exact ih i x _ aa ay (asx hs aa)
theorem axp{N:Nat}{hU:fr U}{x:ni U}{y:hF}(h:NJ N hU x y)(hs:Ls hU x=true):y=aa8 hU x:=by
 cases h with
 |box h=>simp only[Ls,qa]at hs;simp only[aa8];rw[am8 h hs]
 |arr t l=>rfl
 |set ks=>rfl
 |buf E s=>rfl
 |hZ h=>simp only[Ls]at hs;simp only[aa8];rw[amR h hs]
 |kx=>simp[Ls]at hs
 |rows=>simp[Ls]at hs
theorem afa{hU:fr U}:∀{l:fr U} {b:Nat},eb (RE hU l) b=(eg l b).map (aa8 hU)
 |[],b=>rfl
 |(k,x)::r,b=>by
  simp only[RE,eb,eg];cases h:Nat.beq k b with
  |true=>rw[bJ (em h)];rfl
  |false=>rw[cx (ND h)];exact afa
theorem aMl{k:Nat}{c:C}:c.hX (back [] k)=c.hj k:=by rfl
theorem aw6{k:Nat}:∀{v:V},v.hX (back [] k)=v.hj k
 |.c x=>by simp only[V.hX,V.hj,aMl]
 |.agg cs=>by rfl
 |.e2 vs=>by simp only[V.hX,V.hj];rw[go vs]
where go:∀(vs:List V),V.hX.go (back [] k) vs=V.hj.go k vs
 |[]=>rfl
 |v::vs=>by simp only[V.hX.go,V.hj.go];rw[aw6,go vs]
theorem as5{k:Nat}{J1:ee}:∀{s:ee},M6 J1 [] (back [] k) s=TL J1 k s
 |[]=>rfl
 |(b,x)::r=>by
  simp only[M6,TL];rw[as5];rfl
theorem ajV:∀{ss:List z'} {j:Nat} {a:Hr U} {i:Nat} {x:ni U},eg (LI j ss a) i=some x->j<=i/\i<j+ss.length
 |[],j,a,i,x,h=>by simp[LI,eg]at h
 |s::ss,j,a,i,x,h=>by
  simp only[LI]at h;split at h
  . simp only[eg]at h;split at h
    . simp_all
    . have:=ajV h;simp;omega
  . have:=ajV h;simp;omega
theorem ar5{bs:ey}:∀{caps:ey},(∀c,c∈caps->pos bs c=some c)->VQ bs caps=some caps
 |[],_=>rfl
 |c::cs,h=>by simp only[VQ,h c (by simp),ar5 (caps:=cs) (λx aa=>h x (by simp[aa]))]
theorem acA{N:Nat}{hU:fr U}(ai:∀b x,eg hU b=some x->b<N){x:fz U}(hs:x.OC hU=true):i' N hU x (x.Oc hU)/\r1 ((x.Oc hU).hE (List.range N)) (x.Oc hU):=by
 have aJ:∀b,Wj hU b=true->pos (List.range N) b=some b:=by
  intro b h;unfold Wj at h;split at h
  . rename_i y bo;exact UH ap6 (by simp[ai b y bo])
  . cases h
 cases x with
 |t c=>exact⟨.t c,r1.refl _⟩
 |ptr b o=>
  simp only[fz.OC]at hs;refine⟨.ptr b o,?_⟩;simp only[fz.Oc,C.hE,aJ b hs];exact r1.refl _
 |k' b ty i o=>
  simp only[fz.OC]at hs;refine⟨.k' b ty i o,?_⟩;simp only[fz.Oc,C.hE,aJ b hs];exact r1.refl _
 |vt ty x o=>exact⟨.vt ty x o,r1.refl _⟩
 |arr b=>
  simp only[fz.OC]at hs;split at hs
  . rename_i y bo;split at hs
    . rename_i p ay;simp only[fz.Oc,bo,ay];refine⟨.arr b p.1 p.2 (ai b y bo) λz gb q e1=>?_,?_⟩
      . grind
      . simp only[C.hE,aJ b (by simp[Wj,bo])];exact r1.refl _
    . cases hs
  . cases hs
 |LU b fu len=>simp[fz.OC]at hs
 |sub b fu len=>simp[fz.OC]at hs
 |pre b h=>simp[fz.OC]at hs
 |mp b=>
  simp only[fz.OC]at hs;refine⟨.mp b,?_⟩;simp only[fz.Oc,C.hE,aJ b hs];exact r1.refl _
 |y2 b=>simp[fz.OC]at hs
 |lJ b=>
  simp only[fz.OC]at hs;split at hs
  . rename_i y bo;split at hs
    . rename_i p ay;simp only[fz.Oc,bo,ay];refine⟨.lJ b p.2 (ai b y bo) λz gb q e1=>?_,?_⟩
      . rw[bo]at gb;cases gb;rw[ay]at e1;cases e1;have:=em hs
        grind
      . simp only[C.hE,aJ b (by simp[Wj,bo])];exact r1.refl _
    . cases hs
  . cases hs
 |hN=>exact⟨.hN,r1.refl _⟩
 |Jq=>exact⟨.Jq,r1.refl _⟩
 |Jp=>exact⟨.Jp,r1.refl _⟩
 |fn f caps=>
  simp only[fz.OC,qa]at hs;refine⟨.fn f caps,?_⟩;have:VQ (List.range N) caps=some caps:=ar5 λc a7=>aJ c (hs c a7)
  simp only[fz.Oc,C.hE,this];exact r1.refl _
 |dead=>simp[fz.OC]at hs
theorem PP{N:Nat}{hU:fr U}(ai:∀b x,eg hU b=some x->b<N):∀{xs:List (fz U)},(∀x,x∈xs->x.OC hU=true)->er (i' N hU) xs (xs.map (fz.Oc hU))/\er r1 ((xs.map (fz.Oc hU)).map (C.hE (List.range N))) (xs.map (fz.Oc hU))
 |[],_=>⟨.nil,.nil⟩
 |x::xs,hs=>by
  obtain⟨h1,ad⟩:=acA ai (hs x (by simp));obtain⟨a',d'⟩:=PP ai (xs:=xs) (λx aa=>hs x (by simp[aa]));exact⟨.cons h1 a',.cons ad d'⟩
theorem arU{hU:fr U}:∀{vs:List (hl U)},(Nb.go hU vs).length=vs.length
 |[]=>rfl
 |v::vs=>by simp[Nb.go,arU]
theorem afY{N:Nat}{hU:fr U}(ai:∀b x,eg hU b=some x->b<N):∀{x:hl U},PT hU x=true->hV N hU x (Nb hU x)/\La ((Nb hU x).hE (List.range N)) (Nb hU x)
 |.c x,hs=>by
  obtain⟨h1,ad⟩:=acA ai (x:=x) (by simpa[PT]using hs);exact⟨.c h1,.c ad⟩
 |.agg cs,hs=>by
  simp only[PT,qa]at hs;obtain⟨h1,ad⟩:=PP ai hs;exact⟨.agg h1,.agg ad⟩
 |.e2 vs,hs=>by
  simp only[PT]at hs;have:=go ai vs hs;refine⟨.e2 _ _ (by rw[arU]) λi x d aa ay=>?_,.e2 _ _ (by rw[aiL]) λi x y aa bo=>?_⟩
  . rw[aiM,aa]at ay
    grind
  . rw[ajf,bo]at aa;simp at aa;subst aa;rw[aiM,e0]at bo
    grind
where go {N:Nat} {hU:fr U} (ai:∀b x,eg hU b=some x->b<N):∀(vs:List (hl U)),PT.go hU vs=true->∀x,x∈vs->hV N hU x (Nb hU x)/\La ((Nb hU x).hE (List.range N)) (Nb hU x)
 |[],_=>by simp
 |v::vs,hs=>by
  simp only[PT.go,h5]at hs;have h1:=afY ai hs.1;have ad:=go ai vs hs.2;intro x aa;rcases Nx.1 aa with rfl|aa
  . exact h1
  . exact ad x aa
theorem atp {fo:K6 U}(q6:KJ P fo){o:h2}{f:Nat}{args:List dy}(cJ:o.op= .call f args)(h:DI key gl nf env J env1 J1 G)(qs:o.guard=none)(c9:VU gl o.guard o.dst=true)(IJ:Ro nf o.dst=true)
 {k:fr U->hl U->Option R}{r:R}:∀{ss:List (k6 U)},(∀s,s∈ss->s∈fo f)->afB (λe=>Rf gl o.guard e args) env J key k ss=some r->
 ∃v v1 J' f',k J' v=some r/\K' xb P o key env1 J1 true v1 f'/\DI (key+16) (NR gl o.guard o.dst) nf (K4 o.dst v env) J' (ii env1 o.dst true v1) f' (λi=>if o.dst=some i then true else G i)
 |[],_,aa=>by simp[afB]at aa
 |s::ss,hm,aa=>by
  simp only[afB]at aa;split at aa
  . exact atp q6 cJ h qs c9 IJ (λs hs=>hm s (by simp[hs])) aa
  . rename_i ak aJ;unfold aqf at aJ;split at aJ
    . rename_i vs Nr x1;simp only[h5]at Nr;split at aJ
      . rename_i a abq b6;rw[qa]at abq;obtain⟨abn,agW,abp⟩:=q6 f s (hm s (by simp));obtain⟨p,vs1,b1,b2,pI⟩:=aak h.MI h.a8 x1;have qy:s.st=[]:=by cases qy:s.st with|nil=>rfl|cons=>rw[qy]at Nr;simp[abz]at Nr
        have Lh:=N5 Nr.2;obtain⟨res,hres,hk⟩:=abI.1 aa;split at hk
        . rename_i Qq;simp only[h5]at Qq;obtain⟨ys,f1,ar,g1⟩:=ada (N:=key) (Jc:=([]:fr U)) (adM) (λj b hO ea=>by simp at ea) b6
          obtain⟨yq,ep,hp,zt⟩:=g1 vs1 b2.length (λi x d aa ay=>by
           obtain⟨vv,h1,ad⟩:=b2.get aa
           rw[ay]at h1;cases h1;exact ad)
          have T':c'.cells U.D s.ts ak=a:=c'.KV aJ;have Nq:s.args ak=ys:=by
           unfold k6.args;rw[T'];have:=f1 []
           grind
          have U6:s.OI ak=[]:=by unfold k6.OI;rw[qy];rfl
          have aha:s.st.length=0:=by rw[qy];rfl
          have Om:=abp ak res hres yq [] (by
           rw[Nq,U6,aha]
           refine er.Tj (by rw[ar,ep,b2.length]) λi x d aa ay=>zt i x d aa ay) (by rw[U6];intro b x aa;simp[eg]at aa)
          rw[abn,aha]at Om;have JM:er La vs1 yq:=by
           refine er.Tj ep.symm λi d vv ay JU=>?_
           have x1:=hp i d vv ay JU;obtain⟨x,aa,al⟩:=(b2.flip (R':=λd x=>hV key J x d) λ_ _ h=>h).get ay;have hs:=abq x (F' aa);have:=afX al hs;subst this;rw[amQ hs]at x1;exact x1
          have agY:=y1.conv JM (J:=[]) (λb hO aa=>by simp[eb]at aa) Om
          have OT:∀b x,eg (s.rest res) b=some x->b<16/\Ls (s.rest res) x=true:=by
           intro b x aa;have Ve:∀{l:fr U},eg l b=some x->(b,x)∈l:=by
            intro l
            induction l with
            |nil=>intro h;simp[eg]at h
            |cons e r ih=>
             obtain⟨h8,e⟩:=e;intro h;simp only[eg]at h;split at h
             . simp_all
             grind
           have:=Qq.2;unfold an9 at this;rw[qa]at this;have ad:=this _ (Ve aa);simp only[h5]at ad;exact⟨by have:=N5 ad.1;omega,ad.2⟩
          have QS:∀b x,eg (s.rest res) b=some x->b<s.G2.length:=by
           intro b x aa;have:=(ajV aa).2;omega
          have ao0:y1 P f vs1 [] 0 (λJs Yr Z8=>Js=Nb (s.rest res) (s.res res)/\Yr=RE (s.rest res) (s.rest res)/\Z8=s.G2.length):=by
           refine y1.tidy agY ?_
           rintro ln s1 SJ ⟨rfl,Jd,HS⟩
           have Ye:=aul Jd Qq.1;subst Ye;refine⟨List.range s.G2.length,_,_,ap6,rfl,?_,?_,rfl,rfl,by simp⟩
           . exact(afY QS Qq.1).2
           . intro b x aa;rw[afa,e0]at aa;obtain⟨b9,JW,rfl⟩:=aa;obtain⟨h1,y,ad,a'⟩:=HS b b9 JW;have bo:=axp a' (OT b b9 JW).2;subst bo;have ht:=ae4 (bs:=List.range s.G2.length) (i:=0) (j:=b) (r:=List.range s.G2.length) (by simp[h1]) ad;rw[Lt]at ht;refine⟨_,ht,?_⟩;cases b9 with
             |box cs=>
              have wm:=(OT b _ JW).2;simp only[Ls,qa]at wm;exact .box (PP QS wm).2
             |arr ty l=>exact .arr
             |rows sz l=>have wm:=(OT b _ JW).2;simp[Ls]at wm
             |set ks=>exact .same
             |buf E s=>exact .same
             |hZ E c=>have wm:=(OT b _ JW).2;exact .hZ (acA QS (by simpa[Ls]using wm)).2
             |kx=>have wm:=(OT b _ JW).2;simp[Ls]at wm
          have aKQ:V.cv.V.vn (lt 0) vs1=true:=by
           refine aag λi d ay=>?_
           obtain⟨x,aa,al⟩:=(b2.flip (R':=λd x=>hV key J x d) λ_ _ h=>h).get ay;have hs:=abq x (F' aa);have:=afX al hs;subst this;exact(acz (N:=key) (J:=J) hs).2 _
          have a8:mt env1 o.guard=some true:=by rw[qs];rfl
          have ao':(RE (s.rest res) (s.rest res)).all (λx=>decide (x.1<16))=true:=by
           have ao7:=Qq.2;unfold an9 at ao7;have:∀{l:fr U},(l.all λp=>Nat.ble (p.1+1) 16&&Ls (s.rest res) p.2)=true->(RE (s.rest res) l).all (λx=>decide (x.1<16))=true:=by
            intro l
            induction l with
            |nil=>intro _;rfl
            |cons e r ih=>
             obtain⟨b,x⟩:=e;intro h;simp only[WE,h5]at h;simp only[RE,WE,h5,u2];exact⟨by have:=N5 h.1.1;omega,ih h.2⟩
           grind
          have X5:hV s.G2.length (s.rest res) (s.res res) (Nb (s.rest res) (s.res res))/\l3 s.G2.length (s.rest res) (RE (s.rest res) (s.rest res)):=by
           refine⟨(afY QS Qq.1).1,λb x aa=>?_⟩;refine⟨QS b x aa,aa8 (s.rest res) x,by rw[afa,aa];rfl,?_⟩;cases x with
           |box cs=>
            have wm:=(OT b _ aa).2;simp only[Ls,qa]at wm;exact .box (PP QS wm).1
           |arr ty l=>exact .arr ty l
           |rows sz l=>have wm:=(OT b _ aa).2;simp[Ls]at wm
           |set ks=>exact .set ks
           |buf E s=>exact .buf E s
           |hZ E c=>have wm:=(OT b _ aa).2;exact .hZ (acA QS (by simpa[Ls]using wm)).1
           |kx=>have wm:=(OT b _ aa).2;simp[Ls]at wm
          have vc:s.G2.length<=([]:ey).length+16:=by simpa using Lh
          have S0:=l3.aoE (key:=key) (bs:=[]) adM (by simp) vc h.Jk rfl X5.2;have akB:=hV.hX (key:=key) (bs:=[]) (J:=J) adM (by simp) vc h.Jk X5.1;have aoI:=ajq (key:=key) (bs:=[]) (Jr:=s.rest res) adM (by simp) h.Jk rfl;rw[aw6]at akB;rw[as5]at S0
          refine⟨_,(Nb (s.rest res) (s.res res)).hj key,_,TL J1 key (RE (s.rest res) (s.rest res)),hk,.own cJ a8 qs b1 (pI (by rw[qs];rfl)) aKQ Lh ao' ao0 rfl,?_⟩;have:=DI.bind (gd:=o.guard) (dst:=o.dst) (nf:=nf) (h.MI.mono aoI) h.a8 S0 h.eJ akB (.inl qs) c9 IJ;rw[qs]at this⊢;exact this
        . cases hk
      . cases aJ
    . cases aJ
theorem as6:∀{args:List dy} {p:Prop} {vs1:List V},MY env1 args=some (p,vs1)->SL env1 args=vs1.flatMap V.KT
 |[],p,vs1,h=>by simp[MY]at h;rw[h.2];rfl
 |x::xs,p,vs1,h=>by
  simp only[MY,gA,e0,ho]at h;obtain⟨⟨M5,v0⟩,h1,⟨aqc,Tv⟩,ad,_,rfl⟩:=h;have ih:=as6 (p:=aqc) (vs1:=Tv) ad;simp only[SL,WB]at ih⊢;rw[h1,ih]
theorem axq{N:Nat}{hU:fr U}{x:fz U}{d:C}(h:i' N hU x d):∀b,b∈x.KT->b∈d.KT:=by
 intro b ai;cases h<;>simp only[fz.KT,C.KT]at ai⊢<;>first|exact ai|(simp at ai)
theorem aum{N:Nat}{hU:fr U}:∀{xs:List (fz U)} {ds:List C},er (i' N hU) xs ds->∀b,b∈xs.flatMap fz.KT->b∈ds.flatMap C.KT
 |[],[],_,b,ai=>ai
 |x::xs,d::ds,.cons h1 ad,b,ai=>by
  simp only[WB,Oy]at ai⊢;rcases ai with ai|ai
  . exact .inl (axq h1 b ai)
  . exact .inr (aum ad b ai)
theorem aIP{N:Nat}{hU:fr U}{x:hl U}{d:V}(h:hV N hU x d):∀b,b∈x.KT->b∈d.KT:=by
 intro b ai;cases h with
 |c h=>exact axq h b ai
 |agg h=>exact aum h b ai
 |e2=>simp[hl.KT]at ai
theorem aun{N:Nat}{hU:fr U}:∀{xs:List (hl U)} {ds:List V},er (hV N hU) xs ds->∀b,b∈xs.flatMap hl.KT->b∈ds.flatMap V.KT
 |[],[],_,b,ai=>ai
 |x::xs,d::ds,.cons h1 ad,b,ai=>by
  simp only[WB,Oy]at ai⊢;rcases ai with ai|ai
  . exact .inl (aIP h1 b ai)
  . exact .inr (aun ad b ai)
theorem auo{l:ey}{b:Nat}(h:T8 l b=true):b∈l:=by
 simp only[T8,adW]at h;simp_all
theorem anx {fo:K6 U}(q6:KJ P fo){o:h2}{f:Nat}{args:List dy}(cJ:o.op= .call f args)(h:DI key gl nf env J env1 J1 G)(On:o.guard=none\/∃t b y,o.guard=some (t,b)/\JA env t b=some y)(c9:VU gl o.guard o.dst=true)(IJ:Ro nf o.dst=true)
 (I0:k3 env G o.guard=true){k:fr U->hl U->Option R}{r:R}:∀{ss:List (k6 U)},(∀s,s∈ss->s∈fo f)->aci xb (λe=>Rf gl o.guard e args) env J key k ss=some r->
 ∃v v1 J' f',k J' v=some r/\K' xb P o key env1 J1 true v1 f'/\DI (key+16) (NR gl o.guard o.dst) nf (K4 o.dst v env) J' (ii env1 o.dst true v1) f' (λi=>if o.dst=some i then true else G i)
 |[],_,aa=>by simp[aci]at aa
 |s::ss,hm,aa=>by
  simp only[aci]at aa;split at aa
  . exact anx q6 cJ h On c9 IJ I0 (λs hs=>hm s (by simp[hs])) aa
  . rename_i bs ak aJ;obtain⟨abn,agW,abp⟩:=q6 f s (hm s (by simp));obtain⟨res,hres,hk⟩:=abI.1 aa;unfold azC at aJ;split at aJ
    . cases aJ
    . rename_i vs x1;split at aJ;rename_i aBf OM _;split at aJ
      . cases aJ
      . rename_i ai;simp only[h5,qa]at ai;obtain⟨_,KX,JS,abg,aoN,aKK⟩:=ai;split at aJ
        . rename_i a b b6 Ol;split at aJ
          . rename_i Zq ao1;cases aJ;have hL:=ae5 KX;have e':∀b,b∈bs->b<key:=λb ai=>N5 (JS b ai).1
            have n':=em abg;have q4:=N5 aoN;have vc:=N5 aKK;obtain⟨p,vs1,b1,b2,pI⟩:=aak h.MI h.a8 x1;have L2:=af6 hL Ol;obtain⟨ys,f1,ar,g1⟩:=ada (N:=key) hL L2 b6
            obtain⟨yq,ep,hp,zt⟩:=g1 vs1 b2.length (λi x d aa ay=>by
             obtain⟨vv,h1,ad⟩:=b2.get aa
             grind)
            obtain⟨aqA,t1,t2⟩:=ajN hL h.Jk Ol;have T':c'.cells U.D s.ts ak=a++b:=c'.KV ao1;have Nq:s.args ak=ys:=by unfold k6.args;rw[T',f1]
            have U6:s.OI ak=LI 0 s.st b:=by unfold k6.OI;rw[T',f1]
            have Om:=abp ak res hres yq aqA (by
             rw[Nq,U6,<-n']
             exact er.Tj (by rw[ar,ep,b2.length]) λi x d aa ay=>zt i x d aa ay) (by rw[U6,<-n'];exact t2)
            rw[abn,<-n']at Om;have JM:er La (vs1.map (V.hE bs)) yq:=by
             refine er.Tj (by simp[ep]) λi d vv ay JU=>?_
             grind
            have agY:=y1.conv JM t1 Om
            split at hk
            . rename_i c Qq a7;simp only[h5]at Qq;split at hk
              . rename_i ag0;subst ag0
                have OT:∀b x,eg (s.rest res) b=some x->Ls (s.rest res) x=true:=by
                 intro b x aa;have Ve:∀{l:fr U},eg l b=some x->(b,x)∈l:=by
                  intro l
                  induction l with
                  |nil=>intro h;simp[eg]at h
                  |cons e r ih=>
                   obtain⟨h8,e⟩:=e;intro h;simp only[eg]at h;split at h
                   . simp_all
                   grind
                 have:=Qq.2;unfold anX at this
                 grind
                have QS:∀b x,eg (s.rest res) b=some x->b<s.G2.length:=by
                 intro b x aa;have:=(ajV aa).2;omega
                have ao0:y1 P f (vs1.map (V.hE bs)) (JX bs J1 0 bs) bs.length (λJs Yr Z8=>Js=Nb (s.rest res) (s.res res)/\Yr=RE (s.rest res) (s.rest res)/\Z8=s.G2.length):=by
                 refine y1.tidy agY ?_
                 rintro ln s1 SJ ⟨rfl,Jd,HS⟩
                 have Ye:=aul Jd Qq.1;subst Ye;refine⟨List.range s.G2.length,_,_,ap6,?_,?_,?_,rfl,rfl,by simp⟩
                 . unfold S'
                   grind
                 . exact(afY QS Qq.1).2
                 . intro b x aa;rw[afa,e0]at aa;obtain⟨b9,JW,rfl⟩:=aa;obtain⟨h1,y,ad,a'⟩:=HS b b9 JW;have bo:=axp a' (OT b b9 JW);subst bo;have ht:=ae4 (bs:=List.range s.G2.length) (i:=0) (j:=b) (r:=List.range s.G2.length) (by simp[h1]) ad;rw[Lt]at ht;refine⟨_,ht,?_⟩;cases b9 with
                   |box cs=>
                    have wm:=OT b _ JW;simp only[Ls,qa]at wm;exact .box (PP QS wm).2
                   |arr ty l=>exact .arr
                   |rows sz l=>have wm:=OT b _ JW;simp[Ls]at wm
                   |set ks=>exact .same
                   |buf E s=>exact .same
                   |hZ E c=>have wm:=OT b _ JW;exact .hZ (acA QS (by simpa[Ls]using wm)).2
                   |kx=>have wm:=OT b _ JW;simp[Ls]at wm
                have QQ:=ajo h.MI On;have ao':(RE (s.rest res) (s.rest res)).all (λx=>decide (x.1<bs.length+16))=true:=by
                 have ao7:=Qq.2;unfold anX at ao7;have:∀{l:fr U},(l.all λp=>Nat.ble (p.1+1) (bs.length+16)&&Ls (s.rest res) p.2)=true->(RE (s.rest res) l).all (λx=>decide (x.1<bs.length+16))=true:=by
                  intro l
                  induction l with
                  |nil=>intro _;rfl
                  |cons e r ih=>
                   obtain⟨b,x⟩:=e;intro h;simp only[WE,h5]at h;simp only[RE,WE,h5,u2];exact⟨by have:=N5 h.1.1;omega,ih h.2⟩
                 grind
                have X5:hV s.G2.length (s.rest res) (s.res res) (Nb (s.rest res) (s.res res))/\l3 s.G2.length (s.rest res) (RE (s.rest res) (s.rest res)):=by
                 refine⟨(afY QS Qq.1).1,λb x aa=>?_⟩;refine⟨QS b x aa,aa8 (s.rest res) x,by rw[afa,aa];rfl,?_⟩;cases x with
                 |box cs=>
                  have wm:=OT b _ aa;simp only[Ls,qa]at wm;exact .box (PP QS wm).1
                 |arr ty l=>exact .arr ty l
                 |rows sz l=>have wm:=OT b _ aa;simp[Ls]at wm
                 |set ks=>exact .set ks
                 |buf E s=>exact .buf E s
                 |hZ E c=>have wm:=OT b _ aa;exact .hZ (acA QS (by simpa[Ls]using wm)).1
                 |kx=>have wm:=OT b _ aa;simp[Ls]at wm
                have S0:=l3.aoE (key:=key) (bs:=bs) hL e' vc h.Jk a7 X5.2;have akB:=hV.hX (key:=key) (bs:=bs) (J:=J) hL e' vc h.Jk X5.1;have aoI:=ajq (key:=key) (bs:=bs) (Jr:=s.rest res) hL e' h.Jk a7;have JV:∀b,b∈bs->∃x,eb J1 b=some x:=by
                 intro b ai;have a':=(JS b ai).2.2;unfold Wj at a';split at a'
                 . rename_i x aa;obtain⟨_,y,bo,_⟩:=h.Jk b x aa
                   grind
                 . cases a'
                have aLO:∀b,b∈bs->b∈SL env1 args++xb:=by
                 intro b ai;rw[as6 b1];have e1:=(JS b ai).2.1;rw[Oz]at e1;rcases e1 with e1|e1
                 . exact List.mem_append_left _ (aun b2 b (auo e1))
                 . exact List.mem_append_right _ (auo e1)
                refine⟨_,(Nb (s.rest res) (s.res res)).hX (back bs key),_,_,hk,.raw cJ (by rw[QQ,I0]) rfl b1 (pI I0) hL e' JV aLO vc ao' ao0 rfl,?_⟩;have:=DI.bind (gd:=o.guard) (dst:=o.dst) (nf:=nf) (h.MI.mono aoI) h.a8 S0 h.eJ akB On c9 IJ;simp_all
              . cases hk
            . cases hk
          . cases aJ
        . cases aJ
theorem amX {fo:K6 U}(q6:KJ P fo){o:h2}{f:Nat}{args:List dy}(cJ:o.op= .call f args\/(o.guard=none/\∃x q,o.op= .OK x args/\x.get env1=some (q,.c (.fn f []))/\q))(h:DI key gl nf env J env1 J1 G)(On:o.guard=none\/∃t b y,o.guard=some (t,b)/\JA env t b=some y)(c9:VU gl o.guard o.dst=true)(IJ:Ro nf o.dst=true)
 {g:Bool}(a8:g=k3 env G o.guard){k:hl U->Option R}{r:R}:∀{ss:List (k6 U)},(∀s,s∈ss->s∈fo f)->aer (λe=>Rf gl o.guard e args) env g k ss=some r->
 ∃v v1,k v=some r/\K' xb P o key env1 J1 g v1 J1/\DI (key+16) (NR gl o.guard o.dst) nf (K4 o.dst v env) J (ii env1 o.dst g v1) J1 (λi=>if o.dst=some i then g else G i)
 |[],_,aa=>by simp[aer]at aa
 |s::ss,hm,aa=>by
  simp only[aer]at aa;split at aa
  . exact amX q6 cJ h On c9 IJ a8 (λs hs=>hm s (by simp[hs])) aa
  . rename_i ak aJ;unfold aqg at aJ;split at aJ
    . rename_i vs Nr x1;simp only[h5]at Nr;split at aJ
      . rename_i a abq b6;rw[qa]at abq;obtain⟨abn,agW,abp⟩:=q6 f s (hm s (by simp));obtain⟨p,vs1,b1,b2,pI⟩:=aak h.MI h.a8 x1;have qy:s.st=[]:=by cases qy:s.st with|nil=>rfl|cons=>rw[qy]at Nr;simp[abz]at Nr
        have aOe:s.G2=[]:=by cases qy:s.G2 with|nil=>rfl|cons=>rw[qy]at Nr;simp[abz]at Nr
        obtain⟨res,hres,hk⟩:=abI.1 aa;split at hk
        . rename_i Qq;obtain⟨Zu,ady⟩:=acz (N:=key+16) (J:=J) Qq;have QQ:=ajo h.MI On;rw[<-a8]at QQ;have aKC:DI (key+16) (NR gl o.guard o.dst) nf (K4 o.dst (s.res res) env) J (ii env1 o.dst g (Jw (s.res res))) J1 (λi=>if o.dst=some i then g else G i):=by
           have:=DI.bind (dst:=o.dst) (h.MI.mono (rm.more (by omega:key<=key+16))) h.a8 (h.Jk.mono (Nat.le_add_right key 16)) h.eJ Zu On c9 IJ
           grind
          refine⟨s.res res,Jw (s.res res),hk,?_,aKC⟩;have ayr:g=true->p/\V.cv.V.vn (lt 0) vs1=true/\(Jw (s.res res)).cv (lt 0)=true/\y1 P f vs1 [] 0 (λJs _ _=>Js=Jw (s.res res)):=?_
          . rcases cJ with cJ|⟨qs,x,q,cJ,aa,e1⟩
            . exact .call cJ QQ b1 ayr
            . have I0:g=true:=by rw[a8,qs];rfl
              exact .OK cJ qs I0 aa e1 agW b1 (ayr I0)
          intro I0;rw[bJ I0]at hres
          obtain⟨ys,f1,ar,g1⟩:=ada (N:=key) (Jc:=([]:fr U)) (adM) (λj b hO ea=>by simp at ea) b6
          obtain⟨yq,ep,hp,zt⟩:=g1 vs1 b2.length (λi x d aa ay=>by
           obtain⟨vv,h1,ad⟩:=b2.get aa
           rw[ay]at h1;cases h1;exact ad)
          have T':c'.cells U.D s.ts ak=a:=c'.KV aJ;have Nq:s.args ak=ys:=by
           unfold k6.args;rw[T'];have:=f1 []
           grind
          have U6:s.OI ak=[]:=by unfold k6.OI;rw[qy];rfl
          have aha:s.st.length=0:=by rw[qy];rfl
          have Om:=abp ak res hres yq [] (by
           rw[Nq,U6,aha]
           refine er.Tj (by rw[ar,ep,b2.length]) λi x d aa ay=>zt i x d aa ay) (by rw[U6];intro b x aa;simp[eg]at aa)
          rw[abn,aha]at Om;have JM:er La vs1 yq:=by
           refine er.Tj ep.symm λi d vv ay JU=>?_
           have x1:=hp i d vv ay JU;obtain⟨x,aa,al⟩:=(b2.flip (R':=λd x=>hV key J x d) λ_ _ h=>h).get ay
           exact aMq (abq x (F' aa)) x1 al
          refine⟨pI (by rw[<-a8];exact I0),?_,ady _,?_⟩
          . refine aag λi d ay=>?_
            obtain⟨x,aa,al⟩:=(b2.flip (R':=λd x=>hV key J x d) λ_ _ h=>h).get ay;exact aMr (abq x (F' aa)) al
          . refine y1.conv JM (λb hO aa=>by simp[eb]at aa) (Om.mono λln f' N' Zq=>?_)
            exact afX Zq.2.1 Qq
        . cases hk
      . cases aJ
    . cases aJ
where
 aMq {x:hl U} {d vv:V} (hs:J8 x=true) (x1:La (d.hE []) vv) (al:hV key J x d):La d vv:=by
  have:=afX al hs;subst this;rw[amQ hs]at x1;exact x1
 aMr {x:hl U} {d:V} (hs:J8 x=true) (al:hV key J x d):d.cv (lt 0)=true:=by
  have:=afX al hs;subst this;exact(acz (N:=key) (J:=J) hs).2 _
theorem aji {fo:K6 U}(q6:KJ P fo){f:Nat}{getv:Ss U}{cal:hc->List V->Prop}
 (ayp:∀{env':hM U} {J2:fr U} {j0:hc} {vs:List (hl U)},pq key J2 G env' j0->MF gl env' G->getv env'=some vs->∃vs1,er (hV key J2) vs vs1/\cal j0 vs1)
 (he:pq key J G env env1)(a8:MF gl env G)(cy:l3 key J J1){k:hM U->fr U->hl U->Option R}{r:R}:∀{ss:List (k6 U)},(∀s,s∈ss->s∈fo f)->aes getv env J key k ss=some r->
 ∃env' J2 j0 f' vs1,Conv kk key env1 J1 key j0 f'/\pq key J2 G env' j0/\MF gl env' G/\(∀t b,JA env' t b=JA env t b)/\cal j0 vs1/\N6 P f=true/\
  aw0 P f vs1 f' key j0 (λln s1=>∃Tz v,k env' Tz v=some r/\pq (key+16) Tz G env' j0/\l3 (key+16) Tz s1/\hV (key+16) Tz v ln)
 |[],_,aa=>by simp[aes]at aa
 |s::ss,hm,aa=>by
  simp only[aes]at aa;split at aa
  . exact aji q6 ayp he a8 cy (λs hs=>hm s (by simp[hs])) aa
  . rename_i env' J2 bs h aJ;obtain⟨abn,agW,abp⟩:=q6 f s (hm s (by simp));obtain⟨res,hres,hk⟩:=abI.1 aa;unfold azB at aJ;split at aJ
    . cases aJ
    . rename_i Tv _;split at aJ;rename_i aBf OM _;split at aJ
      . cases aJ
      . rename_i aC6 aNR Zo;split at aJ
        . cases aJ
        . rename_i vs x1;split at aJ
          . cases aJ
          . rename_i ai;simp only[h5,qa]at ai;obtain⟨KX,JS,abg,aoN⟩:=ai;split at aJ
            . rename_i a b b6 Ol;split at aJ
              . rename_i ak ao1;cases aJ;have hL:=ae5 KX;have e':∀b,b∈bs->b<key:=λb ai=>N5 (JS b ai)
                have n':=em abg;have aLJ:=N5 aoN;obtain⟨j0,f',agZ,J5,S0,ag4⟩:=aeI (kk:=kk) (gl:=gl) Zo he cy;obtain⟨vs1,b2,aoW⟩:=ayp J5 (ag4 a8) x1;have L2:=af6 hL Ol;obtain⟨ys,f1,ar,g1⟩:=ada (N:=key) hL L2 b6
                obtain⟨yq,ep,hp,zt⟩:=g1 vs1 b2.length (λi x d aa ay=>by
                 obtain⟨vv,h1,ad⟩:=b2.get aa
                 grind)
                obtain⟨aqA,t1,t2⟩:=ajN hL S0 Ol;have T':c'.cells U.D s.ts h=a++b:=c'.KV ao1;have Nq:s.args h=ys:=by unfold k6.args;rw[T',f1]
                have U6:s.OI h=LI 0 s.st b:=by unfold k6.OI;rw[T',f1]
                have Om:=abp h res hres yq aqA (by
                 rw[Nq,U6,<-n']
                 exact er.Tj (by rw[ar,ep,b2.length]) λi x d aa ay=>zt i x d aa ay) (by rw[U6,<-n'];exact t2)
                rw[abn,<-n']at Om;have JM:er La (vs1.map (V.hE bs)) yq:=by
                 refine er.Tj (by simp[ep]) λi d vv ay JU=>?_
                 grind
                have agY:=y1.conv JM t1 Om
                split at hk
                . cases hk
                . rename_i c a7;split at hk
                  . rename_i ag0;subst ag0;have vc:s.G2.length<=bs.length+16:=aLJ;refine⟨env',J2,j0,f',vs1,agZ,J5,ag4 a8,λt b=>avl Zo,aoW,agW,?_⟩;intro cm nt φ S a w R Lj Vx ahn
                    refine(Nj.raw (n:=lt key) (key:=key) hL e' agY (K:=λln s1=>∃Tz v,k env' Tz v=some r/\pq (key+16) Tz G env' j0/\l3 (key+16) Tz s1/\hV (key+16) Tz v ln) ?_ (λb ai=>by simp[lt];exact e' b ai) cm nt φ S j0 a w R (λb h1 _=>amM h1) Lj Vx ahn)
                    rintro ln s1 N' ⟨rfl,Jd,HS⟩
                    refine⟨vc,_,_,hk,J5.mono (ajq hL e' S0 a7),l3.aoE hL e' vc S0 a7 HS,hV.hX hL e' vc S0 Jd⟩
                  . cases hk
              . cases aJ
            . cases aJ
where
 avm {env:hM U} {b0:Nat} {ty:c8} {l:List (ty.den U.D)} {t:Nat} {b:Bool}:JA (Z2 b0 (⟨.slice ty,l⟩:Cell U.D) env) t b=JA env t b:=by
  unfold JA;rw[ajT];cases eg env t with
  |none=>rfl
  |some v=>
   cases v with
   |c x=>
    cases x with
    |arr hf=>simp only[LO,hl.iJ,fz.iJ];cases Nat.beq hf b0<;>rfl
    |k' hf Yu i o=>simp only[LO,hl.iJ,fz.iJ];cases Nat.beq hf b0<;>rfl
    |pre hf h=>simp only[LO,hl.iJ,fz.iJ];cases Nat.beq hf b0<;>rfl
    |LU hf fu h=>simp only[LO,hl.iJ,fz.iJ];cases Nat.beq hf b0<;>rfl
    |_=>rfl
   |agg cs=>rfl
   |e2 vs=>rfl
 avl {l:List (Nat×c8)} {env env':hM U} {J J':fr U} {t:Nat} {b:Bool} (h:Sj l env J=some (env',J')):JA env' t b=JA env t b:=by
  induction l generalizing env J with
  |nil=>simp[Sj]at h;rw[h.1]
  |cons p l ih=>
   obtain⟨c,ty⟩:=p;simp only[Sj]at h;split at h
   . rename_i e s h1;have ad:JA e t b=JA env t b:=by
      unfold aip at h1;split at h1
      . split at h1
        . cases h1;exact avm
        . cases h1
      . split at h1
        . cases h1;exact avm
        . cases h1
      . cases h1;rfl
     rw[ih h,ad]
   . cases h
theorem as7{fo:K6 U}(q6:KJ P fo){o:h2}(h:DI key gl nf env J env1 J1 G){k:zJ->QJ->hM U->fr U->Option R}{r:R}(aa:Z5 fo (some xb) o key gl nf env J k=some r):
 ∃g v1 f' Oh PC env' J' QD,K' xb P o key env1 J1 g v1 f'/\k Oh PC env' J'=some r/\DI (key+16) Oh PC env' J' (ii env1 o.dst g v1) f' QD:=by
 unfold Z5 at aa;split at aa
 . cases aa
 . rename_i adn;simp only[h5]at adn;obtain⟨c9,IJ⟩:=adn;split at aa
   . rename_i v';split at aa
     . rename_i g0 abh;have aLa:=auB h.a8 h.eJ v';obtain⟨h1,ad⟩:=ajr (P:=P) h (ajZ abh) aLa c9 IJ (anY (U:=U) (N:=key+16) (J:=J));exact⟨_,_,_,_,_,_,_,_,h1,aa,ad⟩
     . cases aa
   . split at aa
     . rename_i f args cJ;split at aa
       . rename_i OS;split at aa
         . rename_i g gd a8 qs;have On:o.guard=none\/∃t b y,o.guard=some (t,b)/\JA env t b=some y:=by rw[qs];rw[qs]at a8;exact ajZ a8
           have Pv:g=k3 env G o.guard:=ajg h.a8 a8;split at aa
           . rename_i I0;obtain⟨v,v1,J',f',h1,ad,a'⟩:=anx (fo:=fo) q6 cJ h On c9 IJ (by rw[<-Pv];exact I0) (k:=λJ v=>k (NR gl o.guard o.dst) nf (K4 o.dst v env) J) (λs hs=>hs) aa;exact⟨_,_,_,_,_,_,_,_,ad,h1,a'⟩
           . rename_i I0;have X7:k3 env G o.guard=false:=by rw[<-Pv];simpa using I0
             have s':DI key gl (gd::nf) env J env1 J1 G:=⟨h.MI,h.a8,h.Jk,λg0 abh=>by
              rcases Nx.1 abh with rfl|hm
              . grind
              . exact h.eJ g0 hm⟩
             have ao4:Ro (gd::nf) o.dst=true:=by
              cases ay:o.dst with
              |none=>rfl
              |some d=>
               rw[ay]at IJ c9;rw[qs]at c9;simp only[Ro,WE,h5];simp only[Ro]at IJ;simp only[VU,h5]at c9
               grind
             obtain⟨h1,ad⟩:=ajr (P:=P) s' On X7 c9 ao4 (anY (U:=U) (N:=key+16) (J:=J));exact⟨_,_,_,_,_,_,_,_,h1,aa,ad⟩
         . cases aa
       unfold aqW at aa;split at aa
       . rename_i qs;simp only at aa;split at aa
         case h_2=>
          obtain⟨v,v1,J',f',h1,ad,a'⟩:=anx (fo:=fo) q6 cJ h (.inl qs) c9 IJ (by rw[qs];rfl) (k:=λJ v=>k (NR gl o.guard o.dst) nf (K4 o.dst v env) J) (λs hs=>hs) aa;exact⟨_,_,_,_,_,_,_,_,ad,h1,a'⟩
         rw[qs]at aa;obtain⟨v,v1,J',f',h1,ad,a'⟩:=atp (fo:=fo) q6 cJ h qs c9 IJ (k:=λJ v=>k (NR gl o.guard o.dst) nf (K4 o.dst v env) J) (λs hs=>hs) (by rw[qs];exact aa);exact⟨_,_,_,_,_,_,_,_,ad,h1,a'⟩
       . rename_i gd qs;split at aa
         . rename_i g a8;rw[qs]at aa a8;obtain⟨v,v1,h1,ad,a'⟩:=amX (fo:=fo) q6 (.inl cJ) h (by rw[qs];exact ajZ a8) c9 IJ (g:=g) (by rw[qs];exact ajg h.a8 a8) (λs hs=>hs) (by rw[qs];exact aa);rw[qs]at a';exact⟨_,_,_,_,_,_,_,_,ad,h1,a'⟩
         . cases aa
     . rename_i x args cJ;split at aa
       . contradiction
       . rename_i aOB f ay qs JG;obtain⟨q,v1,a1,a2,a3⟩:=ki h.MI h.a8 JG;have:=a2.aoC;subst this;obtain⟨v,v1,h1,ad,a'⟩:=amX (xb:=xb) (fo:=fo) q6 (.inr ⟨qs,x,q,cJ,a1,a3 rfl⟩) h (.inl qs) c9 IJ (g:=true) (by rw[qs];rfl) (λs hs=>hs) (by rw[qs];exact aa);rw[qs]at a';exact⟨_,_,_,_,_,_,_,_,ad,h1,a'⟩
       . cases aa
     . rename_i op ayD ayE;split at aa
       . cases aa
       . rename_i c v J' ch;split at aa
         . rename_i qs;split at aa
           . rename_i a7;rw[qs]at ch;obtain⟨v1,f',h1,ad⟩:=(axo (P:=P) (o:=o) h (by rw[qs];exact ch) (.inl qs) c9 IJ).1 (by rw[qs];rfl) a7;rw[qs]at ad;exact⟨_,_,_,_,_,_,_,_,h1,aa,ad⟩
           . cases aa
         . rename_i gd qs;split at aa
           . cases aa
           . rename_i g a8;have On:o.guard=none\/∃t b y,o.guard=some (t,b)/\JA env t b=some y:=by rw[qs];exact ajZ a8
             have Pv:g=k3 env G o.guard:=by rw[qs];exact ajg h.a8 a8
             have px:=axo (P:=P) (o:=o) (xb:=xb) h ch On c9 IJ;split at aa
             . rename_i Qo;split at aa
               . rename_i aoY;cases ayo:g with
                 |true=>
                  rw[ayo]at aoY Pv;simp at aoY;obtain⟨v1,f',h1,ad⟩:=px.1 Pv.symm aoY;have j':J'=J:=(atL h.MI h.a8 h.Jk ch).aMp Qo;rw[j']at ad;exact⟨_,_,_,_,_,_,_,_,h1,aa,ad⟩
                 |false=>
                  rw[ayo]at Pv;obtain⟨v1,h1,ad⟩:=px.2 Pv.symm Qo;exact⟨_,_,_,_,_,_,_,_,h1,aa,ad⟩
               . cases aa
             . split at aa
               . rename_i I0;split at aa
                 . rename_i a7;obtain⟨v1,f',h1,ad⟩:=px.1 (by rw[<-Pv];exact I0) a7;exact⟨_,_,_,_,_,_,_,_,h1,aa,ad⟩
                 . cases aa
               . rename_i I0;have X7:k3 env G o.guard=false:=by rw[<-Pv];simpa using I0
                 have s':DI key gl (gd::nf) env J env1 J1 G:=⟨h.MI,h.a8,h.Jk,λg0 abh=>by
                  rcases Nx.1 abh with rfl|hm
                  . grind
                  . exact h.eJ g0 hm⟩
                 have ao4:Ro (gd::nf) o.dst=true:=by
                  cases ay:o.dst with
                  |none=>rfl
                  |some d=>
                   rw[ay]at IJ c9;rw[qs]at c9;simp only[Ro,WE,h5];simp only[Ro]at IJ;simp only[VU,h5]at c9
                   grind
                 obtain⟨h1,ad⟩:=ajr (P:=P) s' On X7 c9 ao4 (anY (U:=U) (N:=key+16) (J:=J));exact⟨_,_,_,_,_,_,_,_,h1,aa,ad⟩
theorem atq {fo:K6 U}(q6:KJ P fo){o:h2}(h:DI key gl nf env J env1 J1 G){k:zJ->QJ->hM U->fr U->Option R}{r:R}(aa:Z5 fo none o key gl nf env J k=some r){K:hc->ee->Prop}
 (p':∀Oh PC env' J' j0 f' QD,k Oh PC env' J'=some r->DI (key+16) Oh PC env' J' j0 f' QD->K j0 f'):
 ∃KW hU,Conv kk key env1 J1 key KW hU/\ade P o key KW hU K:=by
 by_cases OS:Z5 fo (some []) o key gl nf env J k=some r
 . obtain⟨g,v1,f',Oh,PC,env',J',QD,h1,ad,a'⟩:=as7 q6 h OS;exact⟨env1,J1,Conv.refl,.inl (h1.MS (p' _ _ _ _ _ _ _ ad a'))⟩
 . unfold Z5 at aa OS;split at aa
   . cases aa
   . rename_i adn;rw[adn]at OS;simp only at OS;simp only[h5]at adn;obtain⟨c9,IJ⟩:=adn;split at aa
     . rename_i v';rw[v']at OS;exact absurd aa OS
     . rename_i v';rw[v']at OS;simp only at OS;split at aa
       . rename_i f args cJ;rw[cJ]at OS;simp only at OS;split at aa
         . rename_i aps;rw[aps]at OS;exact absurd aa OS
         rename_i aps;rw[aps]at OS;simp only at OS;unfold aqW at aa OS;split at aa
         . rename_i qs;simp only at aa;rw[qs]at aa;obtain⟨env',J2,j0,f',vs1,kn,k0,A',OJ,⟨p,x0,vx⟩,ai,JC⟩:=aji (kk:=kk) (P:=P) q6 (f:=f) (getv:=λe=>Rf gl none e args) (cal:=λe vs=>∃p,MY e args=some (p,vs)/\p)
            (λhe a8 ch=>by
             obtain⟨p,vs1,b1,b2,pI⟩:=aak he a8 ch
             exact⟨vs1,b2,p,b1,pI rfl⟩) h.MI h.a8 h.Jk (λs hs=>hs) aa
           refine⟨j0,f',kn,.inr ⟨by rw[qs];rfl,f,vs1,.inl ⟨args,p,cJ,x0,vx⟩,?_⟩⟩;intro cm nt φ S a w J4 Lj Vx ahn;refine(JC cm nt φ S a w J4 Lj Vx ahn).mono ?_
           rintro e w' ⟨v,ln,hi,hJ,s1,rfl,⟨Tz,v3,ha,hg,hQ,oi⟩,Jd,HS,Q5⟩
           refine⟨v,ln,hi,hJ,s1,rfl,?_,Jd,HS,Q5⟩
           have aoS:=DI.bind (gd:=none) (dst:=o.dst) (nf:=nf) hg A' hQ (λg a8=>by
            obtain⟨t,b⟩:=g;have h0:=h.eJ _ a8;simp only[k3]at h0⊢
            grind) oi (.inl rfl) (by rw[qs]at c9;exact c9) IJ
           exact p' _ _ _ _ _ _ _ ha aoS
         . rename_i gd qs;rw[qs]at OS aa;exact absurd aa OS
       . rename_i x args cJ;split at aa
         . rename_i f caps ay qs JG
           obtain⟨env',J2,j0,f',vs1,kn,k0,A',OJ,⟨q,p,UZ,Tv,aLE,apo,x0,vx,Yc⟩,ai,JC⟩:=aji (kk:=kk) (P:=P) q6 (f:=f) (getv:=λe=>match q2 gl none e x,Rf gl none e args with
            |some (.c (.fn abe UZ)),some vs=>match Nat.beq abe f with
             |true=>some (vs++UZ.map λb=>.c (.ptr b 0))
             |false=>none
            |_,_=>none) (cal:=λe vs=>∃ q p UZ Tv,x.get e = some (q, .c (.fn f UZ))/\q/\MY e args = some (p,Tv)/\p/\vs = Tv++UZ.map λb=>V.c (.ptr b 0))
            (λhe a8 ch=>by
             split at ch
             . rename_i abe UZ Tu ep hp;split at ch
               . rename_i aLb;have:=em aLb;subst this;cases ch;obtain⟨q,v1,a1,a2,a3⟩:=ki he a8 ep;have:=a2.aoC;subst this;obtain⟨p,vs1,b1,b2,pI⟩:=aak he a8 hp;refine⟨vs1++UZ.map λb=>V.c (.ptr b 0),b2.append ?_,q,p,UZ,vs1,a1,a3 rfl,b1,pI rfl,rfl⟩
                 exact er.map_map (er.self (R:=λa b=>hV key _ (.c (.ptr a 0)) (.c (.ptr b 0))) (λb=>.c (.ptr b 0)) _)
               . cases ch
             grind) h.MI h.a8 h.Jk (λs hs=>hs) aa
           refine⟨j0,f',kn,.inr ⟨by rw[qs];rfl,f,vs1,.inr ⟨x,args,q,p,UZ,Tv,cJ,aLE,apo,x0,vx,ai,Yc⟩,?_⟩⟩;intro cm nt φ S a w J4 Lj Vx ahn;refine(JC cm nt φ S a w J4 Lj Vx ahn).mono ?_
           rintro e w' ⟨v,ln,hi,hJ,s1,rfl,⟨Tz,v3,ha,hg,hQ,oi⟩,Jd,HS,Q5⟩
           refine⟨v,ln,hi,hJ,s1,rfl,?_,Jd,HS,Q5⟩
           have aoS:=DI.bind (gd:=none) (dst:=o.dst) (nf:=nf) hg A' hQ (λg a8=>by
            obtain⟨t,b⟩:=g;have h0:=h.eJ _ a8;simp only[k3]at h0⊢
            grind) oi (.inl rfl) (by rw[qs]at c9;exact c9) IJ
           exact p' _ _ _ _ _ _ _ ha aoS
         . contradiction
         . cases aa
       . rename_i op ayD ayE
         exfalso
         refine OS ?_;split
         . rename_i f args cJ;exact absurd cJ (ayD f args)
         . rename_i x args cJ;exact absurd cJ (ayE x args)
         . exact aa
theorem am9{l:List (Nat×c8)}{p:hM U×fr U}(h:aiq l env J=some p):∃l,Sj l env J=some p:=by
 unfold aiq at h
 grind
theorem aGR{o:h2}{p:hM U×fr U}(h:aqe gl o env J=some p):∃l,Sj l env J=some p:=by
 unfold aqe at h;split at h
 . grind
 . split at h
   . exact am9 h
   . cases h
 . exact am9 h
 . exact am9 h
 . cases h
theorem aFN {fo:K6 U}(q6:KJ P fo){o:h2}(h:DI key gl nf env J env1 J1 G){k:zJ->QJ->hM U->fr U->Option R}{r:R}(aa:ajY fo none o key gl nf env J k=some r){K:hc->ee->Prop}
 (p':∀Oh PC env' J' j0 f' QD,k Oh PC env' J'=some r->DI (key+16) Oh PC env' J' j0 f' QD->K j0 f'):
 ∃KW hU,Conv kk key env1 J1 key KW hU/\ade P o key KW hU K:=by
 simp only[ajY]at aa;split at aa
 . exact atq q6 h aa p'
 . rename_i p aJ;obtain⟨l,ar⟩:=aGR aJ;obtain⟨ep,s1,kn,k0,A',OJ⟩:=aeI (kk:=kk) (gl:=gl) ar h.MI h.Jk
   obtain⟨hp,s2,d1,d2⟩:=atq (kk:=kk) (P:=P) q6 (⟨k0,OJ h.a8,A',λg a8=>by
    obtain⟨t,b⟩:=g;have h0:=h.eJ _ a8;simp only[k3]at h0⊢
    rw[aji.avl ar];exact h0⟩:DI key gl nf p.1 p.2 ep s1 G) aa p'
   exact⟨hp,s2,kn.trans d1,d2⟩
end
end
section
open Go
variable {xb:ey}
variable {U:k9}{R:Type}
def QA(env:hM U):dy->Option ey
 |.const (.c (.t _))=>some []
 |.const (.c .hN)=>some []
 |.const (.agg _)=>some []
 |.const _=>none
 |.tmp k=>match eg env k with
  |some (.c (.ptr b _))=>some [b]
  |some (.c (.k' b _ _ _))=>some [b]
  |some (.c (.arr b))=>some [b]
  |some (.c (.sub b _ _))=>some [b]
  |some (.c (.pre b _))=>some [b]
  |some (.c (.LU b _ _))=>some [b]
  |some (.c (.mp b))=>some [b]
  |some (.c (.y2 b))=>some [b]
  |some (.c (.lJ b))=>some [b]
  |some (.c .dead)=>none
  |some _=>some []
  |none=>none
def afD:fz U->Bool
 |.dead=>true
 |_=>false
def afE:hl U->Option ey
 |.c x=>match afD x with
  |true=>none
  |false=>some x.KT
 |.agg cs=>match cs.any afD with
  |true=>none
  |false=>some (cs.flatMap fz.KT)
 |.e2 _=>some []
def Z0(env:hM U):List dy->Option ey
 |[]=>some []
 |.const v::r=>match Z0 env r with
  |some l=>some (v.KT++l)
  |none=>none
 |.tmp k::r=>match eg env k with
  |some v=>match afE v,Z0 env r with
   |some a,some l=>some (a++l)
   |_,_=>none
  |none=>none
def aq2(xb:ey)(o:l1)(env:hM U)(key:Nat):Option ey:=
 match o with
 |.alloc _|.allocA _|.box _|.bslice .. |.mkset=>some [key]
 |.allocS .. =>some [key,key+1]
 |.lkset x _=>QA env x
 |.upset x _=>QA env x
 |.appendB _ _ x _=>match QA env x with
  |some a=>some (key::a)
  |none=>none
 |.ustr _ x _=>QA env x
 |.call _ args=>match Z0 env args with
  |some l=>some ((List.range 16).map (key+·)++(l++xb))
  |none=>none
 |.load _ _ x=>QA env x
 |.b2s x=>QA env x
 |.store _ x _=>QA env x
 |.append _ _ x y=>match QA env x,QA env y with
  |some a,some b=>some (key::(a++b))
  |_,_=>none
 |_=>some []
def Rh(xb:ey)(o:l1)(env:hM U)(key b:Nat):Option Bool:=
 match o with
 |.alloc _|.allocA _|.box _|.bslice .. |.mkset=>some (Nat.beq b key)
 |.allocS .. =>some (Nat.beq b key||Nat.beq b (key+1))
 |.upset x _=>match QA env x with
  |some l=>some (T8 l b)
  |none=>none
 |.appendB _ _ x _=>match QA env x with
  |some l=>some (Nat.beq b key||T8 l b)
  |none=>none
 |.ustr _ x _=>match QA env x with
  |some l=>some (T8 l b)
  |none=>none
 |.store _ x _=>match QA env x with
  |some l=>some (T8 l b)
  |none=>none
 |.append _ _ x _=>match QA env x with
  |some l=>some (Nat.beq b key||T8 l b)
  |none=>none
 |.call _ args=>match Z0 env args with
  |some l=>some ((Nat.ble key b&&Nat.ble (b+1) (key+16))||T8 (l++xb) b)
  |none=>none
 |_=>some false
def aim(xb:ey)(eh:List h2)(env:hM U)(N:Nat):List (Nat×Nat)->Bool
 |[]=>true
 |(i,j)::r=>(match Wi eh i,Wi eh j with
  |some x,some y=>match aq2 xb y.op env (N+16*j)with
   |some l=>l.all λb=>match Rh xb x.op env (N+16*i) b with
    |some w=>!w
    |none=>false
   |none=>false
  |_,_=>true)&&aim xb eh env N r
section
variable {P:Program}{kk N key:Nat}{J:fr U}{J1:ee}{env:hM U}{env1:hc}{G:Nat->Bool}
theorem Xm(he:pq N J G env env1){x:dy}{l:ey}(h:QA env x=some l):ye env1 x=l:=by
 unfold QA at h;split at h
 . cases h;rfl
 . cases h;rfl
 . cases h;rfl
 . cases h
 . rename_i k;split at h
   all_goals (try (cases h;done))
   . rename_i b o hk;cases h;obtain⟨v1,h1,ad⟩:=he k _ hk;have:=ad.Ny;subst this;simp[ye,dy.get,h1]
   . rename_i b t i o hk;cases h;obtain⟨v1,h1,ad⟩:=he k _ hk;have:=ad.Ph;subst this;simp[ye,dy.get,h1]
   . rename_i b hk;cases h;obtain⟨v1,h1,ad⟩:=he k _ hk;obtain⟨sz,n,rfl,_⟩:=ad.MR;simp[ye,dy.get,h1]
   . rename_i b fu len hk;cases h;obtain⟨v1,h1,ad⟩:=he k _ hk;have:v1= .c (.J0 b 1 fu len):=by cases ad with|c h=>cases h;rfl
     subst this;simp[ye,dy.get,h1]
   . rename_i b abC hk;cases h;obtain⟨v1,h1,ad⟩:=he k _ hk;have:∃sz,v1= .c (.arr b sz 0 abC):=by cases ad with|c h=>cases h;exact⟨_,rfl⟩
     obtain⟨sz,rfl⟩:=this;simp[ye,dy.get,h1]
   . rename_i b fu abC hk;cases h;obtain⟨v1,h1,ad⟩:=he k _ hk;have:∃sz,v1= .c (.J0 b sz fu abC):=by cases ad with|c h=>cases h;exact⟨_,rfl⟩
     obtain⟨sz,rfl⟩:=this;simp[ye,dy.get,h1]
   . rename_i b hk;cases h;obtain⟨v1,h1,ad⟩:=he k _ hk;have:=ad.apR;subst this;simp[ye,dy.get,h1]
   . rename_i b hk;cases h;obtain⟨v1,h1,ad⟩:=he k _ hk;have:=ad.azR;subst this;simp[ye,dy.get,h1]
   . rename_i b hk;cases h;obtain⟨v1,h1,ad⟩:=he k _ hk;obtain⟨n,rfl,_⟩:=ad.akh;simp[ye,dy.get,h1]
   . rename_i v Ww Wx adJ azj aMo aMn n6 n7 n8 adK hk;cases h;obtain⟨v1,h1,ad⟩:=he k _ hk;unfold ye;simp only[dy.get,h1,LO];cases ad with
     |c ad=>
      cases ad with
      |ptr b o=>exact absurd rfl (Ww b o)
      |k' b t i o=>exact absurd rfl (Wx b t i o)
      |arr b sz n ai ak=>exact absurd rfl (adJ b)
      |sub b fu len=>exact absurd rfl (azj b fu len)
      |pre b sz abC ai ak=>exact absurd rfl (aMo b abC)
      |LU b sz fu abC ai ak=>exact absurd rfl (aMn b fu abC)
      |mp b=>exact absurd rfl (n6 b)
      |y2 b=>exact absurd rfl (n7 b)
      |lJ b n ai ak=>exact absurd rfl (n8 b)
      |dead d=>exact absurd rfl adK
      |_=>rfl
     |agg ad=>rfl
     |e2=>rfl
theorem acB{l:ey}{b:Nat}:T8 l b=l.contains b:=by
 unfold T8;rw[Bool.eq_iff_iff];simp_all
theorem as8{x:fz U}{d:C}(h:i' N J x d)(ay:afD x=false):d.KT=x.KT:=by
 cases h<;>first|rfl|(simp[afD]at ay)
theorem atr:∀{xs:List (fz U)} {ds:List C},er (i' N J) xs ds->xs.any afD=false->ds.flatMap C.KT=xs.flatMap fz.KT
 |[],[],_,_=>rfl
 |x::xs,d::ds,.cons h1 ad,ay=>by
  simp only[List.any_cons,Yk]at ay;simp only[WB];rw[as8 h1 ay.1,atr ad ay.2]
theorem aFO{v:hl U}{v1:V}{l:ey}(h:hV N J v v1)(ar:afE v=some l):v1.KT=l:=by
 cases h with
 |c h=>
  simp only[afE]at ar;split at ar
  . cases ar
  . rename_i ay;cases ar;exact as8 h ay
 |agg h=>
  simp only[afE]at ar;split at ar
  . cases ar
  . rename_i ay;cases ar;exact atr h ay
 |e2=>simp only[afE,hr]at ar;rw[<-ar];rfl
theorem ajI(he:pq N J G env env1):∀{args:List dy} {l:ey},Z0 env args=some l->SL env1 args=l
 |[],l,h=>by simp[Z0]at h;subst h;rfl
 |.const v::r,l,h=>by
  simp only[Z0]at h;split at h
  . rename_i C0 Lm;cases h;have ih:=ajI he Lm;simp only[SL,WB]at ih⊢;rw[ih];rfl
  . cases h
 |.tmp k::r,l,h=>by
  simp only[Z0]at h;split at h
  . rename_i v ch;split at h
    . rename_i a C0 b6 Lm;cases h;have ih:=ajI he Lm;obtain⟨v1,h1,ad⟩:=he k v ch;simp only[SL,WB]at ih⊢;rw[ih];simp only[dy.get,h1,LO];rw[aFO ad b6]
    . cases h
  . cases h
theorem aGS(he:pq N J G env env1){o:l1}{l:ey}(h:aq2 xb o env key=some l):y' xb o env1 key=l:=by
 cases o<;>simp only[aq2,y',hr]at h⊢<;>first|exact h|exact Xm he h|skip
 all_goals split at h
 all_goals (try (cases h;done))
 . rename_i C0 Lm;cases h;rw[Xm he Lm]
 . rename_i a b h1 ad;cases h;rw[Xm he h1,Xm he ad]
 . rename_i C0 Lm;cases h;rw[ajI he Lm]
theorem beq_eq(a b:Nat):(a==b)=Nat.beq a b:=by
 cases h:Nat.beq a b with
 |true=>rw[em h];simp
 |false=>simp[ND h]
theorem aGT(he:pq N J G env env1){o:l1}{b:Nat}{w:Bool}(h:Rh xb o env key b=some w):k2 xb o env1 key b=w:=by
 cases o with
 |alloc cs=>simp only[Rh,hr]at h;rw[<-h];simp only[k2];exact beq_eq _ _
 |allocA cs=>simp only[Rh,hr]at h;rw[<-h];simp only[k2];exact beq_eq _ _
 |box x=>simp only[Rh,hr]at h;rw[<-h];simp only[k2];exact beq_eq _ _
 |bslice a c d e=>simp only[Rh,hr]at h;rw[<-h];simp only[k2];exact beq_eq _ _
 |store n x y=>
  simp only[Rh]at h;split at h
  . rename_i l ar;cases h;simp only[k2];rw[Xm he ar,acB]
  . cases h
 |append sz by' x y=>
  simp only[Rh]at h;split at h
  . rename_i l ar;cases h;simp only[k2];rw[Xm he ar,acB,beq_eq]
  . cases h
 |mkset=>simp only[Rh,hr]at h;rw[<-h];simp only[k2];exact beq_eq _ _
 |allocS e e8=>simp only[Rh,hr]at h;rw[<-h];simp only[k2];rw[beq_eq,beq_eq]
 |upset x y=>
  simp only[Rh]at h;split at h
  . rename_i l ar;cases h;simp only[k2];rw[Xm he ar,acB]
  . cases h
 |ustr e x y=>
  simp only[Rh]at h;split at h
  . rename_i l ar;cases h;simp only[k2];rw[Xm he ar,acB]
  . cases h
 |appendB e by' x y=>
  simp only[Rh]at h;split at h
  . rename_i l ar;cases h;simp only[k2];rw[Xm he ar,acB,beq_eq]
  . cases h
 |call f args=>
  simp only[Rh]at h;split at h
  . rename_i l ar;cases h;simp only[k2];rw[ajI he ar,acB]
    congr 1
    rw[Bool.eq_iff_iff];simp only[h5,u2,Nat.ble_eq];omega
  . cases h
 |_=>simp only[Rh,hr]at h;rw[<-h];rfl
theorem anz(he:pq N J G env env1){eh:List h2}{aro:Nat}:∀{Lc:List (Nat×Nat)},aim xb eh env aro Lc=true->Rn xb eh env1 aro Lc=true
 |[],_=>rfl
 |(i,j)::r,h=>by
  simp only[aim,h5]at h;simp only[Rn,h5];refine⟨?_,anz he h.2⟩;have h1:=h.1;rw[afV,afV]at h1;split at h1
  . rename_i x y aa bo;rw[aa,bo];split at h1
    . rename_i l ar;dsimp only;rw[aGS he ar];simp only[qa]at h1⊢;intro b ai;have:=h1 b ai;split at this
      . rename_i w hw;rw[aGT he hw];exact this
      . cases this
    . cases h1
  grind
theorem amf{fo:K6 U}(q6:KJ P fo){k:zJ->hM U->fr U->Option R}{r:R}:∀{l:List h2} {key:Nat} {gl:zJ} {nf:QJ} {env:hM U} {J:fr U} {env1:hc} {J1:ee} {G:Nat->Bool} {K:hc->ee->Prop},
 DI key gl nf env J env1 J1 G->Xr fo none l key gl nf env J k=some r->
 (∀Oh PC env' J' j0 f' QD,k Oh env' J'=some r->DI (key+16*l.length) Oh PC env' J' j0 f' QD->K j0 f')->Y6 P kk l key env1 J1 K
 |[],key,gl,nf,env,J,env1,J1,G,K,h,aa,p'=>p' _ _ _ _ _ _ _ aa h
 |o::l,key,gl,nf,env,J,env1,J1,G,K,h,aa,p'=>by
  simp only[Xr]at aa;simp only[Y6];refine aFN q6 h aa λOh PC env' J' j0 f' QD h1 ad=>?_
  refine amf q6 ad h1 λakx ak0 hp s2 Wg ZU aiB a' d'=>p' akx ak0 hp s2 Wg ZU aiB a' ?_
  grind
theorem ank{fo:K6 U}(q6:KJ P fo){k:zJ->hM U->fr U->Option R}{r:R}:∀{l:List h2} {key:Nat} {gl:zJ} {nf:QJ} {env:hM U} {J:fr U} {env1:hc} {J1:ee} {G:Nat->Bool} {K:hc->ee->Prop},
 DI key gl nf env J env1 J1 G->Xr fo (some xb) l key gl nf env J k=some r->
 (∀Oh PC env' J' j0 f' QD,k Oh env' J'=some r->DI (key+16*l.length) Oh PC env' J' j0 f' QD->K j0 f')->agB xb P l key env1 J1 K
 |[],key,gl,nf,env,J,env1,J1,G,K,h,aa,p'=>p' _ _ _ _ _ _ _ aa h
 |o::l,key,gl,nf,env,J,env1,J1,G,K,h,aa,p'=>by
  simp only[Xr]at aa;obtain⟨g,v1,f',Oh,PC,env',J',QD,h1,ad,a'⟩:=as7 q6 h (by simpa only[ajY]using aa);refine⟨g,v1,f',h1,ank q6 a' ad λakx ak0 hp s2 Wg ZU aiB d' hy=>p' akx ak0 hp s2 Wg ZU aiB d' ?_⟩
  grind
theorem amS{gl:zJ}:∀{env:hM U} {k:Nat} {v:hl U},eg (clean gl env) k=some v->eg env k=some v/\ahw gl k=false
 |[],k,v,h=>by simp[clean,eg]at h
 |(i,w)::r,k,v,h=>by
  simp only[clean]at h;split at h
  . rename_i ao;obtain⟨h1,ad⟩:=amS h;simp only[eg];cases ai:Nat.beq i k with
    |true=>rw[em ai]at ao;rw[ao]at ad;cases ad
    |false=>exact⟨h1,ad⟩
  . rename_i ao;simp only[eg]at h⊢;cases ai:Nat.beq i k with
    |true=>rw[ai]at h;cases h;rw[<-em ai];exact⟨rfl,ao⟩
    |false=>rw[ai]at h;exact amS h
theorem aHD{gl:zJ}{k:Nat}(h:ahw gl k=false):eg gl k=none:=by
 induction gl with
 |nil=>rfl
 |cons e r ih=>
  obtain⟨i,e⟩:=e;simp only[ahw,List.any_cons,Yk]at h;simp only[eg,h.1];exact ih (by unfold ahw;exact h.2)
theorem DI.clean{gl:zJ}{nf:QJ}(h:DI key gl nf env J env1 J1 G):pq key J (λ_=>true) (afC gl env) env1:=by
 intro k v hk;have:eg env k=some v/\G k=true:=by
  unfold afC at hk;split at hk
  . exact⟨hk,h.a8.free k rfl⟩
  . obtain⟨h1,ad⟩:=amS hk;exact⟨h1,h.a8.free k (aHD ad)⟩
 obtain⟨v1,h1,ad⟩:=h.MI k v this.1
 grind
theorem DI.begin(he:pq key J (λ_=>true) env env1)(cy:l3 key J J1):DI key [] [] env J env1 J1 (λ_=>true):=
 ⟨he,⟨λ_ _=>rfl,λk t b h=>by simp[eg]at h⟩,cy,λ_ h=>by simp at h⟩
end
structure Rx where
 e:Exit
 hj:VZ
 own:List (UP×c8)
 us:List c8
def C'(U:k9):List Rx->Type
 |[]=>Empty
 |[a]=>c' U.D a.us
 |a::b::r=>c' U.D a.us ⊕ C' U (b::r)
structure Nl (U:k9) where
 hj:VZ
 own:List (UP×c8)
 ts:List c8
 outs:List Rx
 F:c' U.D ts->Option (C' U outs)
def akt:Exit->Exit->Bool
 |.normal,.normal=>true
 |.ret,.ret=>true
 |.exit i,.exit j=>Nat.beq i j
 |_,_=>false
theorem auD{a b:Exit}(h:akt a b=true):a=b:=by
 cases a<;>cases b<;>simp only[akt,reduceCtorEq,y0]at h<;>try rfl
 simp_all
abbrev acX(U:k9)(R:Type):=Exit->hM U->fr U->Nat->Option R
def NW:(outs:List Rx)->C' U outs->Exit×hM U×fr U×Nat
 |[],o=>Empty.elim o
 |[a],h=>(a.e,(MW U a.hj (c'.cells U.D a.us h)).1,(MW U a.hj (c'.cells U.D a.us h)).2,a.hj.st.length)
 |a::b::r,.inl h=>(a.e,(MW U a.hj (c'.cells U.D a.us h)).1,(MW U a.hj (c'.cells U.D a.us h)).2,a.hj.st.length)
 |a::b::r,.inr o=>NW (b::r) o
def aNc{α β:Type}(o:α ⊕ β)(f:α->Option R)(g:β->Option R):Option R:=
 match o with
 |.inl a=>f a
 |.inr b=>g b
def aNF(k:acX U R)(a:Rx):(r:List Rx)->(C' U r->Option R)->C' U (a::r)->Option R
 |[],_=>λh=>k a.e (MW U a.hj (c'.cells U.D a.us h)).1 (MW U a.hj (c'.cells U.D a.us h)).2 a.hj.st.length
 |_::_,f=>λo=>aNc o (λh=>k a.e (MW U a.hj (c'.cells U.D a.us h)).1 (MW U a.hj (c'.cells U.D a.us h)).2 a.hj.st.length) f
def aqZ(k:acX U R):(outs:List Rx)->C' U outs->Option R
 |[]=>λo=>Empty.elim o
 |a::r=>aNF k a r (aqZ k r)
theorem axr(k:acX U R):∀{outs:List Rx} {o:C' U outs},aqZ k outs o=k (NW outs o).1 (NW outs o).2.1 (NW outs o).2.2.1 (NW outs o).2.2.2
 |[],o=>Empty.elim o
 |[a],h=>rfl
 |a::b::r,.inl h=>rfl
 |a::b::r,.inr o=>axr k (outs:=b::r)
def ZM(kk:Nat):(outs:List Rx)->Exit->hM U->fr U->Nat->Option (C' U outs)
 |[],_,_,_,_=>none
 |[a],e,env,J,N=>match akt e a.e with
  |true=>Z3 kk a.own a.hj a.us env J N
  |false=>none
 |a::b::r,e,env,J,N=>match akt e a.e with
  |true=>match Z3 (U:=U) kk a.own a.hj a.us env J N with
   |some h=>some (.inl h)
   |none=>none
  |false=>match ZM kk (b::r) e env J N with
   |some o=>some (.inr o)
   |none=>none
abbrev SI(U:k9):=Nat->Option (Nl U)
def Ly:sK->Nat
 |.seq a b=>Ly a+Ly b
 |.cond _ a b=>Ly a+Ly b
 |.block _ b=>Ly b
 |.loop b=>Ly b+1
 |_=>0
def aL8(x:Bool)(a b:Option R):Option R:=if x=true then a else b
def fz.inner:Nn->Bool
 |.ptr .. |.arr _=>true
 |_=>false
def aKh:z'->Bool
 |.box cs=>cs.any fz.inner
 |_=>false
def avq(fo:K6 U)(J:fr U)(ops:List h2):ey:=
 match ops.any λo=>match o.op with
  |.call f _=>(fo f).any λs=>s.st.any aKh
  |_=>false with
 |true=>J.map Prod.fst
 |false=>[]
def amT(ops:List h2)(Lc:List (Nat×Nat)):Option (List h2×h2):=
 match ajX ops.length Lc,ops.getLast? with
 |true,some o=>match o.op,o.guard with
  |.call ..,none=>some (ops.dropLast,o)
  |_,_=>none
 |_,_=>none
theorem aFP{ops:List h2}{Lc:List (Nat×Nat)}{k5:List h2}{C2:h2}(h:amT ops Lc=some (k5,C2)):ops=k5++[C2]/\ajX (k5.length+1) Lc=true:=by
 unfold amT at h;split at h
 . rename_i o h1 ad;split at h
   . cases h;have:ops=ops.dropLast++[C2]:=by
      obtain⟨l,rfl⟩:=List.getLast?_eq_some_iff.1 ad;simp
     grind
   . cases h
 . cases h
def Re(fo:K6 U)(fu:SI U)(kk:Nat):sK->Nat->hM U->fr U->Nat->acX U R->Option R
 |.skip,_,env,J,N,k=>k .normal env J N
 |.ret,_,env,J,N,k=>k .ret env J N
 |.exit i,_,env,J,N,k=>k (.exit i) env J N
 |.region ops,_,env,J,N,k=>Xr fo none ops N [] [] env J λgl env J=>alJ (afC gl env) J (N+16*ops.length) λenv J N=>k .normal env J N
 |.WG ops Lc,_,env,J,N,k=>match amT ops Lc with
  |some (k5,C2)=>Xr fo (some []) k5 N [] [] env J λgl env J=>match aim [] k5 env N Lc with
   |true=>Xr fo none [C2] (N+16*k5.length) gl [] env J λgl env J=>k .normal (afC gl env) J (N+16*k5.length+16)
   |false=>none
  |none=>Xr fo (some (avq fo J ops)) ops N [] [] env J λgl env' J'=>match aim (avq fo J ops) ops env' N Lc with
   |true=>alJ (afC gl env') J' (N+16*ops.length) λenv J N=>k .normal env J N
   |false=>none
 |.seq a b,pos,env,J,N,k=>Re fo fu kk a pos env J N λe env J N=>match e with
  |.normal=>Re fo fu kk b (pos+Ly a) env J N k
  |e=>k e env J N
 |.cond c a b,pos,env,J,N,k=>match q2 [] none env c with
  |some (.c (.t ⟨.bool,x⟩))=>aL8 x (Re fo fu kk a pos env J N k) (Re fo fu kk b (pos+Ly a) env J N k)
  |_=>none
 |.block id b,pos,env,J,N,k=>Re fo fu kk b pos env J N λe env J N=>match e with
  |.exit i=>match Nat.beq i id with
   |true=>k .normal env J N
   |false=>k (.exit i) env J N
  |e=>k e env J N
 |.loop b,pos,env,J,N,k=>match fu pos with
  |none=>none
  |some L=>match Z3 kk L.own L.hj L.ts env J N with
   |none=>none
   |some h=>(L.F h)>>=λo=>aqZ k L.outs o
section
variable {P:Program}{nt kk N:Nat}{env:hM U}{J:fr U}{env1:hc}{J1:ee}
def ab0(kk:Nat)(Q:Exit->hc->ee->Nat->Prop):Prop:=∀e N env J N' env' J',Conv kk N env J N' env' J'->Q e env' J' N'->Q e env J N
def VF(P:Program)(nt kk:Nat)(body:sK)(hj:VZ)(ts:List c8)(outs:List Rx)(h:c' U.D ts)(o:C' U outs):Prop:=
 ∀env1 J1,pq hj.st.length (MW U hj (c'.cells U.D ts h)).2 (λ_=>true) (MW U hj (c'.cells U.D ts h)).1 env1->l3 hj.st.length (MW U hj (c'.cells U.D ts h)).2 J1->kk<=hj.st.length->
  ∀Q,ab0 kk Q->(∀j0 f',pq (NW outs o).2.2.2 (NW outs o).2.2.1 (λ_=>true) (NW outs o).2.1 j0->l3 (NW outs o).2.2.2 (NW outs o).2.2.1 f'->kk<=(NW outs o).2.2.2->Q (NW outs o).1 j0 f' (NW outs o).2.2.2)->
   Ux P nt kk body env1 J1 hj.st.length Q
def ab3(P:Program)(nt kk:Nat)(body:sK)(L:Nl U):Prop:=
 ∀h o,L.F h=some o->VF P nt kk body L.hj L.ts L.outs h o
def LX(P:Program)(nt kk:Nat)(fu:SI U):Nat->sK->Prop
 |pos,.seq a b=>LX P nt kk fu pos a/\LX P nt kk fu (pos+Ly a) b
 |pos,.cond _ a b=>LX P nt kk fu pos a/\LX P nt kk fu (pos+Ly a) b
 |pos,.block _ b=>LX P nt kk fu pos b
 |pos,.loop b=>(∀L,fu pos=some L->ab3 P nt kk b L)
 |_,_=>True
theorem ab0.andThen{Q:Exit->hc->ee->Nat->Prop}{next:hc->ee->Nat->Prop}(h:ab0 kk Q)(eJ:∀N env J N' env' J',Conv kk N env J N' env' J'->next env' J' N'->next env J N):ab0 kk (andThen next Q):=by
 intro e N env J N' env' J' a7 e1;cases e with
 |normal=>exact eJ _ _ _ _ _ _ a7 e1
 |_=>exact h _ _ _ _ _ _ _ a7 e1
theorem aai{fo:K6 U}(q6:KJ P fo){fu:SI U}:∀{c:sK} {pos:Nat} {env:hM U} {J:fr U} {N:Nat} {k:acX U R} {r:R} {env1:hc} {J1:ee} {Q:Exit->hc->ee->Nat->Prop},
 LX P nt kk fu pos c->Re fo fu kk c pos env J N k=some r->pq N J (λ_=>true) env env1->l3 N J J1->kk<=N->ab0 kk Q->
 (∀e env' J' N' j0 f',k e env' J' N'=some r->pq N' J' (λ_=>true) env' j0->l3 N' J' f'->kk<=N'->Q e j0 f' N')->kc P nt kk c env1 J1 N Q
 |.skip,pos,env,J,N,k,r,env1,J1,Q,ar,aa,he,cy,j1,wk,hk=>kc.skip (hk _ _ _ _ _ _ aa he cy j1)
 |.ret,pos,env,J,N,k,r,env1,J1,Q,ar,aa,he,cy,j1,wk,hk=>kc.ret (hk _ _ _ _ _ _ aa he cy j1)
 |.exit i,pos,env,J,N,k,r,env1,J1,Q,ar,aa,he,cy,j1,wk,hk=>kc.exit (hk _ _ _ _ _ _ aa he cy j1)
 |.region ops,pos,env,J,N,k,r,env1,J1,Q,ar,aa,he,cy,j1,wk,hk=>
  kc.aMR (amf q6 (DI.begin he cy) aa λOh PC env' J' j0 f' QD h1 ad=>by
   obtain⟨hp,s2,Ru,Wg,ZU,g1,g2,g3,g4,g5⟩:=ar0 h1 ad.clean ad.Jk (show kk<=_ by omega)
   exact wk _ _ _ _ _ _ _ g2 (hk _ _ _ _ _ _ g1 g3 g4 (by omega)))
 |.WG ops Lc,pos,env,J,N,k,r,env1,J1,Q,ar,aa,he,cy,j1,wk,hk=>by
  simp only[Re]at aa;split at aa
  . rename_i k5 C2 ayy;obtain⟨rfl,aLu⟩:=aFP ayy;refine kc.aMS aLu (ank q6 (DI.begin he cy) aa λOh PC env' J' j0 f' QD h1 ad=>?_);split at h1
    . rename_i a7;refine⟨anz ad.MI a7,amf q6 (l:=[C2]) (nf:=[]) ⟨ad.MI,ad.a8,ad.Jk,λg a8=>by simp at a8⟩ h1 λakx ak0 hp s2 Wg ZU aiB a' d'=>hk _ _ _ _ _ _ a' d'.clean d'.Jk (by omega)⟩
    . cases h1
  . refine kc.WG (ank q6 (DI.begin he cy) aa λOh PC env' J' j0 f' QD h1 ad=>?_);split at h1
    . rename_i a7;obtain⟨hp,s2,Ru,Wg,ZU,g1,g2,g3,g4,g5⟩:=ar0 h1 ad.clean ad.Jk (show kk<=_ by omega);exact⟨anz ad.MI a7,wk _ _ _ _ _ _ _ g2 (hk _ _ _ _ _ _ g1 g3 g4 (by omega))⟩
    . cases h1
 |.seq a b,pos,env,J,N,k,r,env1,J1,Q,ar,aa,he,cy,j1,wk,hk=>by
  simp only[Re]at aa;refine kc.seq (aai q6 ar.1 aa he cy j1 (wk.andThen λN env J N' env' J' a7 h=>kc.conv a7 h) λe env' J' N' j0 f' h1 ad a' d'=>?_);cases e with
  |normal=>exact aai q6 ar.2 h1 ad a' d' wk hk
  |_=>exact hk _ _ _ _ _ _ h1 ad a' d'
 |.cond c a b,pos,env,J,N,k,r,env1,J1,Q,ar,aa,he,cy,j1,wk,hk=>by
  simp only[Re]at aa;split at aa
  . rename_i x a7;have a8:MF [] env (λ_=>true):=⟨λ_ _=>rfl,λk t b h=>by simp[eg]at h⟩
    obtain⟨p,v1,a1,a2,a3⟩:=ki he a8 a7;have:=a2.P0;subst this;refine kc.cond a1 (a3 rfl) (λai=>?_) (λai=>?_)
    . subst ai;exact aai q6 ar.1 aa he cy j1 wk hk
    . subst ai;exact aai q6 ar.2 aa he cy j1 wk hk
  . cases aa
 |.block id b,pos,env,J,N,k,r,env1,J1,Q,ar,aa,he,cy,j1,wk,hk=>by
  simp only[Re]at aa;refine kc.block (aai q6 ar aa he cy j1 ?_ λe env' J' N' j0 f' h1 ad a' d'=>?_)
  . intro e N env J N' env' J' a7 e1;cases e with
    |exit i=>
     simp only[inBlock]at e1⊢;split at e1
     . rename_i ao;rw[bJ ao];exact wk _ _ _ _ _ _ _ a7 e1
     . rename_i ao;rw[cx ao];exact wk _ _ _ _ _ _ _ a7 e1
    |_=>exact wk _ _ _ _ _ _ _ a7 e1
  . cases e with
    |exit i=>
     simp only[inBlock];simp only at h1;split at h1
     . rename_i ai;rw[bJ (em ai)];exact hk _ _ _ _ _ _ h1 ad a' d'
     . rename_i ai;rw[cx (ND ai)];exact hk _ _ _ _ _ _ h1 ad a' d'
    |_=>exact hk _ _ _ _ _ _ h1 ad a' d'
 |.loop b,pos,env,J,N,k,r,env1,J1,Q,ar,aa,he,cy,j1,wk,hk=>by
  simp only[Re]at aa;split at aa
  . cases aa
  . rename_i L U5;split at aa
    . cases aa
    . rename_i h abi;obtain⟨o,cJ,ayx⟩:=abI.1 aa;rw[axr]at ayx;obtain⟨j0,f',kn,k0,A',OJ⟩:=ajH abi he cy j1;exact kc.conv kn (kc.aMj (ar L U5 h o cJ j0 f' k0 A' OJ Q wk λaNX aNP h1 ad a'=>hk _ _ _ _ _ _ ayx h1 ad a'))
theorem VF.aMw {fo:K6 U}(q6:KJ P fo){fu:SI U}{body:sK}{hj:VZ}{own:List (UP×c8)}{ts:List c8}{outs:List Rx}{h:c' U.D ts}{o:C' U outs}{yb:c' U.D ts->Option (C' U outs)}
 (MM:LX P nt kk fu 0 body)(SZ:∀h o,yb h=some o->VF P nt kk body hj ts outs h o)
 (aa:Re fo fu kk body 0 (MW U hj (c'.cells U.D ts h)).1 (MW U hj (c'.cells U.D ts h)).2 hj.st.length (λe env J N=>match e with
  |.normal=>match Z3 kk own hj ts env J N with
   |some s'=>yb s'
   |none=>none
  |e=>ZM kk outs e env J N)=some o):VF P nt kk body hj ts outs h o:=by
 intro env1 J1 he cy j1 Q wk hk;refine Ux.round (aai q6 MM aa he cy j1 (wk.andThen λN env J N' env' J' a7 h=>Ux.conv a7 h) λe env' J' N' j0 f' h1 ad a' d'=>?_);have ahf:∀pJ,pJ=e->pJ≠.normal->ZM kk outs pJ env' J' N'=some o->Q e j0 f' N':=by
  intro pJ J5 hn aJ;subst J5;obtain⟨ep,s1,kn,k0,A',OJ,agv⟩:=azt aJ ad a' d';exact wk _ _ _ _ _ _ _ kn (by rw[agv];exact hk _ _ k0 A' OJ)
 cases e with
 |normal=>
  simp only at h1;split at h1
  . rename_i s' abi;obtain⟨ep,s1,kn,k0,A',OJ⟩:=ajH abi ad a' d';exact Ux.conv kn (SZ s' o h1 ep s1 k0 A' OJ Q wk hk)
  . cases h1
 |exit i=>exact ahf _ rfl (by simp) h1
 |ret=>exact ahf _ rfl (by simp) h1
 |goto l=>exact ahf _ rfl (by simp) h1
 |panic avn=>exact ahf _ rfl (by simp) h1
 |outgrown=>exact ahf _ rfl (by simp) h1
where
 azt {N:Nat} {env:hM U} {J:fr U} {env1:hc} {J1:ee}:∀ {outs:List Rx} {e:Exit} {o:C' U outs},ZM kk outs e env J N = some o->pq N J (λ_=>true) env env1->l3 N J J1->kk<=N->
  ∃j0 f',Conv kk N env1 J1 (NW outs o).2.2.2 j0 f'/\pq (NW outs o).2.2.2 (NW outs o).2.2.1 (λ_=>true) (NW outs o).2.1 j0/\l3 (NW outs o).2.2.2 (NW outs o).2.2.1 f'/\kk<=(NW outs o).2.2.2/\e=(NW outs o).1
  |[],e,o,h,_,_,_=>by simp[ZM]at h
  |[a],e,o,h,he,cy,j1=>by
   simp only[ZM]at h;split at h
   . rename_i X6;obtain⟨ep,s1,kn,k0,A',OJ⟩:=ajH h he cy j1;exact⟨ep,s1,kn,k0,A',OJ,auD X6⟩
   . cases h
  |a::b::r,e,o,h,he,cy,j1=>by
   simp only[ZM]at h;split at h
   . rename_i X6;split at h
     . rename_i ak abi;cases h;obtain⟨ep,s1,kn,k0,A',OJ⟩:=ajH abi he cy j1;exact⟨ep,s1,kn,k0,A',OJ,auD X6⟩
     . cases h
   . split at h
     . rename_i ny cJ;cases h;obtain⟨ep,s1,kn,k0,A',OJ,agv⟩:=azt cJ he cy j1;exact⟨ep,s1,kn,k0,A',OJ,agv⟩
     . cases h
end
end
end Go.Proofs.YtandcioiaooocaaGreat.Shv
namespace Go.Proofs.YtandcioiaooocaaGreat.Shv
set_option linter.all false
open Go
variable {U:k9}{R:Type}
def abW:Nat->List (hl U)->hM U
 |_,[]=>[]
 |i,v::vs=>(i,v)::abW (i+1) vs
def anZ(env:hM U)(J:fr U):PO->Option (hl U)
 |.tmp t=>eg env t
 |.cell t g k=>match eg env t with
  |some (.c (.ptr b o))=>match eg J b with
   |some (.box cs)=>YE g k cs o
   |_=>none
  |_=>none
def acC(env:hM U)(J:fr U):List PO->Option (List (hl U))
 |[]=>some []
 |r::rs=>match anZ env J r,acC env J rs with
  |some v,some vs=>some (v::vs)
  |_,_=>none
def aq1:List (hl U)->hl U
 |[]=>.e2 []
 |[v]=>v
 |v::w::vs=>.e2 (v::w::vs)
def aiu(kk:Nat)(Jz:List PO)(Jk:ze)(G2:List z')(us:List c8)(env:hM U)(J:fr U):Option (c' U.D us):=
 match acC env J Jz with
 |none=>none
 |some vs=>match ad' J kk 0 G2 (aqE Jk (aq1 vs) ([],[])) []with
  |(bs,OM)=>match Sj OM env J with
   |none=>none
   |some (env',J')=>match acC env' J' Jz with
    |none=>none
    |some Tu=>match aaz bs&&(S' kk bs&&Nat.beq bs.length G2.length)with
     |false=>none
     |true=>match Qk bs Jk (aq1 Tu),Pg bs J' 0 G2 with
      |some a,some b=>c'.dec U.D us (a++b)
      |_,_=>none
def aAm(kk:Nat)(Jz:List PO)(Jk:ze)(G2:List z')(us:List c8):acX U (c' U.D us)
 |.normal,env,J,_=>aiu kk Jz Jk G2 us env J
 |.ret,env,J,_=>aiu kk Jz Jk G2 us env J
 |_,_,_,_=>none
section
variable {P:Program}{nt kk N:Nat}{env:hM U}{J:fr U}{env1:hc}{J1:ee}
def aeR(kk:Nat)(Q:Exit->hc->ee->Nat->Prop):Exit->hc->ee->Nat->Prop:=
 λe env J N=>∃N' env' J',Conv kk N env J N' env' J'/\Q e env' J' N'
theorem aeR.aBj{Q:Exit->hc->ee->Nat->Prop}:ab0 kk (aeR kk Q):=
 λe N env J N' env' J' h ⟨Ru,hp,s2,ad,e1⟩=>⟨Ru,hp,s2,h.trans ad,e1⟩
theorem kc.aNr{c:sK}{env:hc}{J:ee}{Q:Exit->hc->ee->Nat->Prop}(h:kc P nt kk c env J N (aeR kk Q)):kc P nt kk c env J N Q:=
 λcode a7 cm φ S a w j1 R=>wp_mono (h code a7 cm φ S a w j1 R) λe a w ⟨hi,hJ,env',J',N',⟨Ru,hp,s2,ad,e1⟩,R'⟩=>
  let⟨aNM,aAW,tJ⟩:=ad cm nt hi hJ a w j1 R';⟨aNM,aAW,hp,s2,Ru,e1,tJ⟩
theorem aEM(he:pq N J (λ_=>true) env env1)(cy:l3 N J J1){V1:PO}{v:hl U}(h:anZ env J V1=some v):∃p v1,aay env1 J1 V1=some (p,v1)/\p/\hV N J v v1:=by
 cases V1 with
 |tmp t=>
  obtain⟨v1,h1,ad⟩:=he t v h;exact⟨True,v1,by simp[aay,h1],trivial,ad⟩
 |cell t g k=>
  simp only[anZ]at h;split at h
  . rename_i b o hk;split at h
    . rename_i cs sa;obtain⟨v1,h1,ad⟩:=he t _ hk;have:=ad.Ny;subst this;obtain⟨_,y,a',d'⟩:=cy b _ sa;cases d' with
      |box d'=>
       obtain⟨v2,hy,B'⟩:=acL d' h;exact⟨True,v2,by simp[aay,h1,a',hy],trivial,B'⟩
    . cases h
  . cases h
theorem asH(he:pq N J (λ_=>true) env env1)(cy:l3 N J J1):∀{Jz:List PO} {vs:List (hl U)},acC env J Jz=some vs->∃p vs1,VS env1 J1 Jz=some (p,vs1)/\p/\er (hV N J) vs vs1
 |[],vs,h=>by simp[acC]at h;subst h;exact⟨_,[],rfl,trivial,.nil⟩
 |r::rs,vs,h=>by
  simp only[acC]at h;split at h
  . rename_i v Tu h1 ad;cases h;obtain⟨p,v1,a1,a2,a3⟩:=aEM he cy h1;obtain⟨q,vs1,b1,b2,pI⟩:=asH he cy ad;exact⟨p/\q,v1::vs1,by simp[VS,a1,b1],⟨a2,b2⟩,.cons a3 pI⟩
  . cases h
theorem aFF{vs:List (hl U)}{vs1:List V}(h:er (hV N J) vs vs1):hV N J (aq1 vs) (Uk vs1):=by
 cases h with
 |nil=>exact .e2 [] [] rfl (by simp)
 |cons h1 ad=>
  cases ad with
  |nil=>exact h1
  |cons ad a'=>
   refine .e2 _ _ (by simp[a'.length]) λi x d aa ay=>?_
   obtain⟨vv,ep,hp⟩:=(er.cons h1 (.cons ad a')).get aa
   grind
def amb(s:k6 U)(r:c' U.D s.us):V->ee->Nat->Prop:=λln f' N'=>N'=s.G2.length/\hV N' (s.rest r) (s.res r) ln/\l3 N' (s.rest r) f'
theorem aFG{Jz:List PO}{s:k6 U}{r:c' U.D s.us}(h:aiu kk Jz s.Jk s.G2 s.us env J=some r)(he:pq N J (λ_=>true) env env1)(cy:l3 N J J1):
 ∃j0 f',Conv kk N env1 J1 N j0 f'/\∃p vs1,VS j0 f' Jz=some (p,vs1)/\p/\
  ∃bs sb J2,bs.Nodup/\S' kk bs=true/\La ((Uk vs1).hE bs) sb/\aaW (JX bs f' 0 bs) J2/\amb s r sb J2 bs.length:=by
 unfold aiu at h;split at h
 . cases h
 . split at h;rename_i bs OM _;split at h
   . cases h
   . rename_i env' J' Zo;obtain⟨ep,s1,kn,k0,A',_⟩:=aeI (kk:=kk) (gl:=[]) Zo he cy;split at h
     . cases h
     . rename_i Tu aLW;split at h
       . cases h
       . rename_i ai;simp only[h5]at ai;obtain⟨KX,JS,abg⟩:=ai;have hL:=ae5 KX;have n':=em abg;split at h
         . rename_i a b b6 OP;obtain⟨p,vs1,d1,d2,d3⟩:=asH k0 A' aLW;obtain⟨y,f,g⟩:=aoj hL (af6 hL OP) b6;obtain⟨sb,g1,g2⟩:=g _ (aFF d3);obtain⟨s2,t1,t2⟩:=ajN hL A' OP;have T':=c'.KV h;have ep:s.res r=y:=by unfold k6.res;rw[T',f]
           have hp:s.rest r=LI 0 s.G2 b:=by unfold k6.rest;rw[T',f]
           exact⟨_,_,kn,p,vs1,d1,d2,bs,sb,s2,hL,JS,g1,t1,n',by rw[ep,hp];exact g2,by rw[hp];exact t2⟩
         . cases h
def ab2(P:Program)(s:k6 U)(h:c' U.D s.ts)(r:c' U.D s.us):Prop:=
 ∀(TM:List V) J1,er (hV s.st.length (s.OI h)) (s.args h) TM->l3 s.st.length (s.OI h) J1->y1 P s.f TM J1 s.st.length (amb s r)
theorem N9.of{s:k6 U}(h:∀h r,s.F h=some r->ab2 P s h r):N9 P s:=h
theorem ab2.ap7 {s:k6 U}{fn:Func}{c:sK}{Jz:List PO}{fo:K6 U}{fu:SI U}(c9:P.funcs[s.f]?=some fn)(a7:fn.body.bind (resolve P fn.ntmps)=some c)(al:N3 P fn.results.toList=some Jz)(eJ:Nat.ble s.Nc.length fn.ntmps=true)
 (q6:KJ P fo)(MM:LX P fn.ntmps s.st.length fu 0 c)
 {h:c' U.D s.ts}{r:c' U.D s.us}(aa:alG s.st.length (s.OI h) (λJ N=>Re fo fu s.st.length c 0 (abW 0 (s.args h)) J N (aAm s.st.length Jz s.Jk s.G2 s.us))=some r):ab2 P s h r:=by
 intro TM J1 b6 cy;have aLq:TM.length<=fn.ntmps:=by
  rw[<-b6.length];refine Ug (adN ?_) (N5 eJ);unfold k6.args;exact awj
 have OQ:pq s.st.length (s.OI h) (λ_=>true) (abW 0 (s.args h)) (KW 0 TM):=by
  intro k v hk;have key:∀{xs:List (hl U)} {ds:List V} {i:Nat},er (hV s.st.length (s.OI h)) xs ds->eg (abW i xs) k=some v->∃v1,look (KW i ds) k=some (true,v1)/\hV s.st.length (s.OI h) v v1:=by
   intro xs
   induction xs with
   |nil=>intro ds i _ h;simp[abW,eg]at h
   |cons x xs ih=>
    intro ds i P8 JL;cases P8 with
    |cons h1 ad=>
     simp only[abW,eg]at JL;simp only[KW,look];split at JL
     . simp_all
     . rename_i ai;rw[cx (ND ai)];exact ih ad JL
  grind
 obtain⟨aNS,Nm,aNT,aa,aBl,aK8,aKF,aLj⟩:=aFC aa OQ cy;refine y1.tidy (y1.mk (nt:=fn.ntmps) c9 a7 al rfl aLq (kc.conv aBl (kc.aNr (aai q6 MM aa aK8 aKF aLj aeR.aBj λe env' J' N' j0 f' h1 ad a' d'=>?_)))) (λln s1 SJ ak=>ak)
 . have LJ:aiu s.st.length Jz s.Jk s.G2 s.us env' J'=some r->(e= .normal\/e= .ret)->aeR s.st.length (al5 Jz λln s1 SJ=>∃bs sb J2,bs.Nodup/\S' s.st.length bs=true/\La (ln.hE bs) sb/\aaW (JX bs s1 0 bs) J2/\amb s r sb J2 bs.length) e j0 f' N':=by
    intro aLH X6;obtain⟨ep,s1,kn,p,vs1,d1,d2,rest⟩:=aFG aLH ad a';refine⟨N',ep,s1,kn,?_⟩;rcases X6 with rfl|rfl
    . exact⟨p,vs1,d1,d2,rest⟩
    . exact⟨p,vs1,d1,d2,rest⟩
   cases e with
   |normal=>exact LJ h1 (.inl rfl)
   |ret=>exact LJ h1 (.inr rfl)
   |_=>cases h1
where
 awj:∀{ss:List ze} {a:Hr U},(RJ ss a).1.length=ss.length
  |[],a=>rfl
  |s::ss,a=>by
   simp only[RJ];have:=awj (ss:=ss) (a:=(RH s a).2);simp[this]
def NK:sK->Nat->Option sK
 |.seq a b,q=>match Nat.ble (Ly a) q with
  |true=>NK b (q-Ly a)
  |false=>NK a q
 |.cond _ a b,q=>match Nat.ble (Ly a) q with
  |true=>NK b (q-Ly a)
  |false=>NK a q
 |.block _ b,q=>NK b q
 |.loop b,q=>match q with
  |0=>some b
  |q+1=>NK b q
 |_,_=>none
theorem LX.of{fu:SI U}:∀{c:sK} {pos:Nat},(∀q b L,NK c q=some b->fu (pos+q)=some L->ab3 P nt kk b L)->LX P nt kk fu pos c
 |.seq a b,pos,h=>by
  refine⟨LX.of λq hf L h1 ad=>h q hf L ?_ ad,LX.of λq hf L h1 ad=>h (Ly a+q) hf L ?_ (by rw[<-Yo];exact ad)⟩
  . simp only[NK];cases ai:Nat.ble (Ly a) q with
    |true=>exact absurd (ZB h1) (by have:=N5 ai;omega)
    |false=>exact h1
  . simp only[NK];have:Nat.ble (Ly a) (Ly a+q)=true:=by simp
    grind
 |.cond c a b,pos,h=>by
  refine⟨LX.of λq hf L h1 ad=>h q hf L ?_ ad,LX.of λq hf L h1 ad=>h (Ly a+q) hf L ?_ (by rw[<-Yo];exact ad)⟩
  . simp only[NK];cases ai:Nat.ble (Ly a) q with
    |true=>exact absurd (ZB h1) (by have:=N5 ai;omega)
    |false=>exact h1
  . simp only[NK];have:Nat.ble (Ly a) (Ly a+q)=true:=by simp
    grind
 |.block id b,pos,h=>LX.of (c:=b) h
 |.loop b,pos,h=>λL U5=>h 0 b L rfl U5
 |.skip,pos,h=>trivial
 |.region _,pos,h=>trivial
 |.WG _ _,pos,h=>trivial
 |.exit _,pos,h=>trivial
 |.ret,pos,h=>trivial
where
 ZB:∀{c:sK} {q:Nat} {b:sK},NK c q=some b->q<Ly c
  |.seq a b,q,hf,h=>by
   simp only[NK]at h;simp only[Ly];split at h
   . rename_i ai;have:=ZB h;have:=N5 ai;omega
   . have:=ZB h;omega
  |.cond _ a b,q,hf,h=>by
   simp only[NK]at h;simp only[Ly];split at h
   . rename_i ai;have:=ZB h;have:=N5 ai;omega
   . have:=ZB h;omega
  |.block _ b,q,hf,h=>ZB (c:=b) h
  |.loop b,0,hf,h=>by simp[Ly]
  |.loop b,q+1,hf,h=>by have:=ZB (c:=b) h;simp only[Ly];omega
  |.skip,q,hf,h=>by simp[NK]at h
  |.region _,q,hf,h=>by simp[NK]at h
  |.WG _ _,q,hf,h=>by simp[NK]at h
  |.exit _,q,hf,h=>by simp[NK]at h
  |.ret,q,hf,h=>by simp[NK]at h
theorem LX.azq{fu:SI U}{c:sK}(h:∀q L,fu q=some L->ab3 P nt kk ((NK c q).getD .skip) L):LX P nt kk fu 0 c:=
 LX.of λq b L h1 ad=>by grind
theorem LX.none{c:sK}:LX P nt kk (λ_=>none:SI U) 0 c:=LX.azq λq L h=>by cases h
theorem KJ.none:KJ P (λ_=>[]:K6 U):=λf s h=>by simp at h
end
end Go.Proofs.YtandcioiaooocaaGreat.Shv
namespace Go.Proofs.YtandcioiaooocaaGreat.Shv
open Go
def anJ(P:Program)(fn:Func):sK:=
 match fn.body.bind (Shv.resolve P fn.ntmps)with
 |some c=>c
 |none=>.skip
def acR(c:sK)(q:Nat):sK:=(NK c q).getD .skip
def NP{U:k9}:List (k6 U)->K6 U
 |[],_=>[]
 |s::l,f=>match Nat.beq s.f f with
  |true=>s::NP l f
  |false=>NP l f
def Ta{U:k9}(l:List (Nat×Nl U)):SI U:=λq=>eg l q
theorem KJ.nil{U:k9}{P:Program}:KJ P (NP ([]:List (k6 U))):=λf s h=>by simp[NP]at h
theorem KJ.cons{U:k9}{P:Program}{s:k6 U}{l:List (k6 U)}(ai:N6 P s.f=true)(hs:N9 P s)(h:KJ P (NP l)):KJ P (NP (s::l)):=by
 intro f t ht;simp only[NP]at ht;split at ht
 . rename_i c9;have:=em c9;rcases Nx.1 ht with rfl|ht
   . grind
   . exact h f t ht
 . exact h f t ht
def PX{U:k9}(P:Program)(nt kk:Nat)(c:sK)(l:List (Nat×Nl U)):Prop:=∀q L,eg l q=some L->ab3 P nt kk (acR c q) L
theorem PX.nil{U:k9}{P:Program}{nt kk:Nat}{c:sK}:PX P nt kk c ([]:List (Nat×Nl U)):=λq L h=>by simp[eg]at h
theorem PX.cons{U:k9}{P:Program}{nt kk:Nat}{c:sK}{q:Nat}{L:Nl U}{l:List (Nat×Nl U)}(U5:ab3 P nt kk (acR c q) L)(h:PX P nt kk c l):PX P nt kk c ((q,L)::l):=by
 intro ZP L' e1;simp only[eg]at e1;split at e1
 . simp_all
 . exact h ZP L' e1
theorem PX.snd{U:k9}{P:Program}{nt kk:Nat}{c:sK}{l:List (Nat×Nl U)}(h:PX P nt kk c l):LX P nt kk (Ta l) 0 c:=LX.azq λq L e1=>h q L e1
def hK(k:IntKind)(a b:Int):Int:=k.wrap (a+b)
def MP(k:IntKind)(a b:Int):Int:=k.wrap (a-b)
def Nw(k:IntKind)(a b:Int):Int:=k.wrap (a*b)
def OY(k:IntKind)(a b:Int):Int:=k.wrap (a.tdiv b)
def NY(a b:Int):Int:=a.tmod b
def akc(k:IntKind)(a b:Int):Int:=k.wrap (BitVec.ofInt k.bits a &&& BitVec.ofInt k.bits b).toNat
def ah0(k:IntKind)(a b:Int):Int:=k.wrap (BitVec.ofInt k.bits a ||| BitVec.ofInt k.bits b).toNat
def aeq(k:IntKind)(a b:Int):Int:=k.wrap (BitVec.ofInt k.bits a ^^^ BitVec.ofInt k.bits b).toNat
def WI(k:IntKind)(a b:Int):Int:=k.wrap (a*2^min b.toNat k.bits)
def abS(k:IntKind)(a b:Int):Int:=a.fdiv (2^min b.toNat k.bits)
end Go.Proofs.YtandcioiaooocaaGreat.Shv
namespace Go.Proofs.YtandcioiaooocaaGreat.Shv
open Go
set_option linter.all false
variable {U:k9}
structure h7 where
 q:Nat
 hj:VZ
 own:List (UP×c8)
 aqy:List (UP×c8)
 ts:List c8
 outs:List Rx
 sub:List h7
structure eI where
 f:Nat
 Nc:List ze
 st:List z'
 ts:List c8
 Jk:ze
 G2:List z'
 us:List c8
 sub:List h7
def h7.l(e:h7)(F:c' U.D e.ts->Option (C' U e.outs)):Nl U:=⟨e.hj,e.own,e.ts,e.outs,F⟩
def eI.s(e:eI)(F:c' U.D e.ts->Option (c' U.D e.us)):k6 U:=⟨e.f,e.Nc,e.st,e.ts,e.Jk,e.G2,e.us,F⟩
def adb(P:Program)(f:Nat):sK:=match P.funcs[f]? with
 |some fn=>anJ P fn
 |none=>.skip
def ahF(P:Program)(f:Nat):Nat:=match P.funcs[f]? with
 |some fn=>fn.ntmps
 |none=>0
def auY(P:Program)(f:Nat):List PO:=match P.funcs[f]? with
 |some fn=>(match N3 P fn.results.toList with
  |some r=>r
  |none=>[])
 |none=>[]
def abM(P:Program)(e:eI):Bool:=match P.funcs[e.f]? with
 |some fn=>N6 P e.f&&((fn.body.bind (resolve P fn.ntmps)).isSome&&((N3 P fn.results.toList).isSome&&Nat.ble e.Nc.length fn.ntmps))
 |none=>false
def OG(P:Program)(e:eI):Prop:=abM P e=true
theorem OG.m{P:Program}{e:eI}(h:abM P e=true):OG P e:=h
def Z'(fo:K6 U)(fu:SI U)(kk:Nat)(b:sK)(e:h7)(yb:c' U.D e.ts->Option (C' U e.outs))(h:c' U.D e.ts):Option (C' U e.outs):=
 Re fo fu kk b 0 (MW U e.hj (c'.cells U.D e.ts h)).1 (MW U e.hj (c'.cells U.D e.ts h)).2 e.hj.st.length (λx env J N=>match x with
  |.normal=>match Z3 kk e.aqy e.hj e.ts env J N with
   |some s'=>yb s'
   |none=>none
  |x=>ZM kk e.outs x env J N)
def Yv(fo:K6 U)(fu:SI U)(P:Program)(e:eI)(h:c' U.D e.ts):Option (c' U.D e.us):=
 alG e.st.length (LI 0 e.st (RJ e.Nc (c'.cells U.D e.ts h)).2) λJ N=>Re fo fu e.st.length (adb P e.f) 0 (abW 0 (RJ e.Nc (c'.cells U.D e.ts h)).1) J N (aAm e.st.length (auY P e.f) e.Jk e.G2 e.us)
section
variable {P:Program}
theorem as9 {fo:K6 U}(q6:KJ P fo){fu:SI U}{nt kk:Nat}{b:sK}{e:h7}{h:c' U.D e.ts}{o:C' U e.outs}{yb:c' U.D e.ts->Option (C' U e.outs)}
 (MM:LX P nt kk fu 0 b)(SZ:∀h o,yb h=some o->VF P nt kk b e.hj e.ts e.outs h o)(aa:Z' fo fu kk b e yb h=some o):VF P nt kk b e.hj e.ts e.outs h o:=by
 refine VF.aMw (own:=e.aqy) q6 MM SZ (Eq.trans ?_ aa);unfold Z'
 congr 1
 funext x env J N
 cases x with
 |normal=>
  dsimp only;generalize Z3 kk e.aqy e.hj e.ts env J N=z;cases z<;>rfl
 |_=>rfl
theorem auE {fo:K6 U}{fu:SI U}{e:eI}(hk:OG P e)(F:c' U.D e.ts->Option (c' U.D e.us))(q6:KJ P fo)(MM:LX P (ahF P e.f) e.st.length fu 0 (adb P e.f))
 {h:c' U.D e.ts}{r:c' U.D e.us}(aa:Yv fo fu P e h=some r):ab2 P (e.s F) h r:=by
 unfold OG abM at hk;unfold adb at MM;unfold ahF at MM;unfold Yv adb auY at aa;split at hk
 . rename_i fn IJ;simp only[IJ]at MM aa;simp only[h5]at hk;obtain⟨a',d',hy,B'⟩:=hk;obtain⟨c,a7⟩:=ahS.1 d';obtain⟨Jz,al⟩:=ahS.1 hy;have akr:anJ P fn=c:=by unfold anJ;rw[a7]
   rw[akr]at MM aa;simp only[al]at aa;exact ab2.ap7 (s:=e.s F) IJ a7 al B' q6 MM aa
 . cases hk
theorem OG.b{e:eI}(hk:OG P e):N6 P e.f=true:=by
 unfold OG abM at hk
 grind
def agN(fo:K6 U)(kk:Nat):Nat->sK->(e:h7)->c' U.D e.ts->Option (C' U e.outs)
 |0,_,_,_=>none
 |n+1,b,e,h=>Z' fo (Ta (e.sub.map λs=>(s.q,s.l (agN fo kk n (acR b s.q) s)))) kk b e (agN fo kk n b e) h
def abU(g:(e:eI)->c' U.D e.ts->Option (c' U.D e.us))(r:List (k6 U)):List eI->K6 U
 |[],f=>NP r f
 |e::T,f=>match Nat.beq e.f f with
  |true=>e.s (g e)::abU g r T f
  |false=>abU g r T f
def Ze(P:Program)(T:List eI)(X:List (k6 U)):Nat->(e:eI)->c' U.D e.ts->Option (c' U.D e.us)
 |0,_,_=>none
 |n+1,e,h=>Yv (abU (Ze P T X n) X T) (Ta (e.sub.map λs=>(s.q,s.l (agN (abU (Ze P T X n) X T) e.st.length n (acR (adb P e.f) s.q) s)))) P e h
theorem apN{nt kk:Nat}{b:sK}{g:(s:h7)->c' U.D s.ts->Option (C' U s.outs)}:∀{l:List h7},(∀s h o,g s h=some o->VF P nt kk (acR b s.q) s.hj s.ts s.outs h o)->PX P nt kk b (l.map λs=>(s.q,s.l (g s)))
 |[],_=>PX.nil
 |s::l,a8=>PX.cons (λh o cJ=>a8 s h o cJ) (apN (l:=l) a8)
theorem an0{fo:K6 U}(q6:KJ P fo){nt kk:Nat}:∀(n:Nat) (b:sK) (e:h7) (h:c' U.D e.ts) (o:C' U e.outs),agN fo kk n b e h=some o->VF P nt kk b e.hj e.ts e.outs h o
 |0,_,_,_,_,aa=>by simp[agN]at aa
 |n+1,b,e,h,o,aa=>as9 q6 (PX.snd (apN λs h o cJ=>an0 q6 n _ s h o cJ)) (λh o cJ=>an0 q6 n b e h o cJ) aa
theorem axs{g:(e:eI)->c' U.D e.ts->Option (c' U.D e.us)}{r:List (k6 U)}(al:KJ P (NP r)):∀{T:List eI},(∀e,e∈T->OG P e)->(∀e,e∈T->N9 P (e.s (g e)))->KJ P (abU g r T)
 |[],_,_=>al
 |e::T,hk,a8=>by
  intro f t ht;simp only[abU]at ht;have ih:=axs al (λe he=>hk e (apZ _ he)) (λe he=>a8 e (apZ _ he));split at ht
  . rename_i c9;have:=em c9;rcases Nx.1 ht with rfl|ht
    . exact⟨this,by rw[<-this];exact(hk e ap2).b,a8 e ap2⟩
    . exact ih f t ht
  . exact ih f t ht
theorem axt{T:List eI}(hk:∀e,e∈T->OG P e){X:List (k6 U)}(Zj:KJ P (NP X)):∀(n:Nat) (e:eI),OG P e->N9 P (e.s (Ze P T X n e))
 |0,e,_=>λh r al=>by simp[eI.s,Ze]at al
 |n+1,e,he=>N9.of λh r al=>
  have q6:KJ P (abU (Ze P T X n) X T):=axs Zj hk λpJ J5=>axt hk Zj n pJ (hk pJ J5)
  auE he _ q6 (PX.snd (apN λs h o cJ=>an0 q6 n _ s h o cJ)) al
end
end Go.Proofs.YtandcioiaooocaaGreat.Shv
namespace Go.Proofs.YtandcioiaooocaaGreat.Shv
open Go
set_option linter.all false
variable {U:k9}{P:Program}
def Nk(P:Program)(s:k6 U):Prop:=N6 P s.f=true/\N9 P s
def ZN(P:Program)(f:Nat):ey->sK
 |[]=>adb P f
 |q::p=>acR (ZN P f p) q
def Yz(P:Program)(f kk:Nat)(p:ey)(e:h7)(F:c' U.D e.ts->Option (C' U e.outs)):Prop:=ab3 P (ahF P f) kk (ZN P f p) (e.l F)
def Qd(P:Program)(l:List (k6 U)):Prop:=KJ P (NP l)
theorem Qd.n:Qd P ([]:List (k6 U)):=KJ.nil
theorem Qd.k{s:k6 U}{l:List (k6 U)}(h:Nk P s)(ar:Qd P l):Qd P (s::l):=KJ.cons h.1 h.2 ar
def QI(P:Program)(f kk:Nat)(p:ey)(l:List (Nat×Nl U)):Prop:=PX P (ahF P f) kk (ZN P f p) l
theorem QI.n{f kk:Nat}{p:ey}:QI P f kk p ([]:List (Nat×Nl U)):=PX.nil
theorem QI.k{f kk q:Nat}{p:ey}{e:h7}{F:c' U.D e.ts->Option (C' U e.outs)}{l:List (Nat×Nl U)}(h:Yz P f kk (q::p) e F)(ar:QI P f kk p l):QI P f kk p ((q,e.l F)::l):=PX.cons h ar
def aiA(P:Program)(U:k9)(e:eI)(h:c' U.D e.ts)(r:c' U.D e.us):Prop:=ab2 P (e.s λ_=>none) h r
def aeD(P:Program)(U:k9)(f kk:Nat)(p:ey)(e:h7)(h:c' U.D e.ts)(o:C' U e.outs):Prop:=VF P (ahF P f) kk (ZN P f p) e.hj e.ts e.outs h o
theorem aiA.at{e:eI}(hk:OG P e){fs:List (k6 U)}(c9:Qd P fs){ls:List (Nat×Nl U)}(ar:QI P e.f e.st.length [] ls){h:c' U.D e.ts}{r:c' U.D e.us}(aa:Yv (NP fs) (Ta ls) P e h=some r):aiA P U e h r:=
 auE hk _ c9 (PX.snd ar) aa
theorem aeD.at {f kk:Nat}{p:ey}{e:h7}{yb:c' U.D e.ts->Option (C' U e.outs)}(v':∀h o,yb h=some o->aeD P U f kk p e h o){fs:List (k6 U)}(c9:Qd P fs){ls:List (Nat×Nl U)}(ar:QI P f kk p ls){h:c' U.D e.ts}{o:C' U e.outs}
 (aa:Z' (NP fs) (Ta ls) kk (ZN P f p) e yb h=some o):aeD P U f kk p e h o:=
 as9 c9 (PX.snd ar) v' aa
theorem Nk.of{e:eI}(hk:OG P e){F:c' U.D e.ts->Option (c' U.D e.us)}(h:∀h r,F h=some r->aiA P U e h r):Nk P (e.s F):=⟨hk.b,N9.of h⟩
theorem Yz.of{f kk:Nat}{p:ey}{e:h7}{F:c' U.D e.ts->Option (C' U e.outs)}(h:∀h o,F h=some o->aeD P U f kk p e h o):Yz P f kk p e F:=h
theorem Nk.fn{e:eI}(hk:OG P e){F:c' U.D e.ts->Option (c' U.D e.us)}{fs:List (k6 U)}(c9:Qd P fs){ls:List (Nat×Nl U)}(ar:QI P e.f e.st.length [] ls)(aa:∀h,Yv (NP fs) (Ta ls) P e h=F h):Nk P (e.s F):=
 .of hk λh r al=>.at hk c9 ar ((aa h).trans al)
theorem Nk.rc {e:eI}(hk:OG P e){F:c' U.D e.ts->Option (c' U.D e.us)}{b:(c' U.D e.ts->Option (c' U.D e.us))->c' U.D e.ts->Option (c' U.D e.us)}
 (ZO:∀m:c' U.D e.ts->c' U.D e.us->Prop,(∀yb,(∀h r,yb h=some r->m h r)->∀h r,b yb h=some r->m h r)->∀h r,F h=some r->m h r)
 {fs:(c' U.D e.ts->Option (c' U.D e.us))->List (k6 U)}(c9:∀yb,Nk P (e.s yb)->Qd P (fs yb)){ls:List (Nat×Nl U)}(ar:QI P e.f e.st.length [] ls)(aa:∀yb h,Yv (NP (fs yb)) (Ta ls) P e h=b yb h):Nk P (e.s F):=
 .of hk (ZO _ λyb v' h r al=>.at hk (c9 yb (.of hk v')) ar ((aa yb h).trans al))
theorem Yz.rc {f kk:Nat}{p:ey}{e:h7}{F:c' U.D e.ts->Option (C' U e.outs)}{b:(c' U.D e.ts->Option (C' U e.outs))->c' U.D e.ts->Option (C' U e.outs)}
 (ZO:∀m:c' U.D e.ts->C' U e.outs->Prop,(∀yb,(∀h r,yb h=some r->m h r)->∀h r,b yb h=some r->m h r)->∀h r,F h=some r->m h r)
 {fs:List (k6 U)}(c9:Qd P fs){ls:List (Nat×Nl U)}(ar:QI P f kk p ls)(aa:∀yb h,Z' (NP fs) (Ta ls) kk (ZN P f p) e yb h=b yb h):Yz P f kk p e F:=
 .of (ZO _ λyb v' h o cJ=>.at v' c9 ar ((aa yb h).trans cJ))
theorem Nk.km {e:eI}{F:c' U.D e.ts->Option (c' U.D e.us)}{fs:List (k6 U)}(c9:Qd P fs:=by exact .n){ls:List (Nat×Nl U)}(ar:QI P e.f e.st.length [] ls:=by exact .n)(hk:OG P e:=by exact .m (by kernel_rfl))
 (aa:∀h,Yv (NP fs) (Ta ls) P e h=F h:=by intro _;kernel_rfl):Nk P (e.s F):= .fn hk c9 ar aa
theorem Nk.rx {e:eI}{F:c' U.D e.ts->Option (c' U.D e.us)}{b:(c' U.D e.ts->Option (c' U.D e.us))->c' U.D e.ts->Option (c' U.D e.us)}
 (ZO:∀m:c' U.D e.ts->c' U.D e.us->Prop,(∀yb,(∀h r,yb h=some r->m h r)->∀h r,b yb h=some r->m h r)->∀h r,F h=some r->m h r)
 {fs:(c' U.D e.ts->Option (c' U.D e.us))->List (k6 U)}(c9:∀yb,Nk P (e.s yb)->Qd P (fs yb)){ls:List (Nat×Nl U)}(ar:QI P e.f e.st.length [] ls:=by exact .n)(hk:OG P e:=by exact .m (by kernel_rfl))
 (aa:∀yb h,Yv (NP (fs yb)) (Ta ls) P e h=b yb h:=by intro _ _;kernel_rfl):Nk P (e.s F):= .rc hk ZO c9 ar aa
theorem Yz.rx {f kk:Nat}{p:ey}{e:h7}{F:c' U.D e.ts->Option (C' U e.outs)}{b:(c' U.D e.ts->Option (C' U e.outs))->c' U.D e.ts->Option (C' U e.outs)}
 (ZO:∀m:c' U.D e.ts->C' U e.outs->Prop,(∀yb,(∀h r,yb h=some r->m h r)->∀h r,b yb h=some r->m h r)->∀h r,F h=some r->m h r)
 {fs:List (k6 U)}(c9:Qd P fs:=by exact .n){ls:List (Nat×Nl U)}(ar:QI P f kk p ls:=by exact .n)(aa:∀yb h,Z' (NP fs) (Ta ls) kk (ZN P f p) e yb h=b yb h:=by intro _ _;kernel_rfl):Yz P f kk p e F:= .rc ZO c9 ar aa
theorem aIQ{T:List eI}(h:T.all (abM P)=true):∀e,e∈T->OG P e:=λe he=>qa.1 h e he
theorem Nk.run{T:List eI}(JD:T.all (abM P)=true){X:List (k6 U)}(Zj:Qd P X){e:eI}(hk:OG P e){F:c' U.D e.ts->Option (c' U.D e.us)}(n:Nat)(h:∀h,F h=Ze P T X n e h):Nk P (e.s F):=
 ⟨hk.b,λx r al=>axt (aIQ JD) Zj n e hk x r ((h x).symm.trans al)⟩
abbrev ah:c8:= .int .i64
abbrev b7(n:Nat):c8:= .slice (.nm n)
abbrev EI:c8:= .slice .str
abbrev gJ:c8:= .slice (.int .i64)
abbrev ak(t:c8):ze:= .c (.hole t)
abbrev ez(b o:Nat):ze:= .c (.ptr b o)
abbrev pr(t:c8):z':= .box [.hole t]
abbrev K9(k:Nat)(t:c8):Rx:=⟨.ret,⟨[(k,ak t)],[]⟩,[],[t]⟩
abbrev PD(i:Nat):Rx:=⟨.exit i,⟨[],[]⟩,[],[]⟩
end Go.Proofs.YtandcioiaooocaaGreat.Shv
namespace Go.Proofs.YtandcioiaooocaaGreat.Shv
set_option linter.all false
section
open Go
variable {U:k9}
def ack(sz bytes:Nat)(z:List C):sK:=
 .seq (.region [⟨some 2,.mov (.const (.c .hN)),none⟩])
  (.seq (.seq (.region [⟨some 3, .mov (.tmp 0),none⟩,⟨some 4, .eqNil false (.tmp 3),none⟩])
   (.cond (.tmp 4) (.seq (.region [⟨some 2,.mov (.const (.c .hN)),none⟩]) .ret) .skip))
   (.seq (.region [⟨some 5,.bslice sz 0 z [],none⟩,⟨some 6,.mov (.tmp 0),none⟩,⟨some 7,.append sz bytes (.tmp 5) (.tmp 6),none⟩,⟨some 2,.mov (.tmp 7),none⟩]) .ret))
def Yq(bytes n:Nat):Bool:=(decide ((2*n+192)*bytes<=UE)||decide ((n+n/4+512)*bytes<=UE))&&decide (n<=I')
theorem aIR{bytes n:Nat}(h:q5 bytes n=true):Yq bytes n=true:=by
 have:=amO.1 h;unfold Yq;simp[this]
theorem axu{bytes n:Nat}(h:Yq bytes n=true):TY n bytes/\n<=I':=by
 unfold Yq at h;simp only[h5,Oz,u2]at h;exact h
def Qi{α:Type}(bytes:Nat)(l:List α):Option (List α):=if Yq bytes l.length=true then some l else none
def afF(U:k9)(f:Nat)(t:c8)(bytes:Nat):k6 U:=
 ⟨f,[.c (.hole (.slice t))],[],[.slice t],.c (.arr 0),[.arr t],[.slice t],λ(l:List (t.den U.D))=>Qi bytes l⟩
section
variable {P:Program}
theorem aHE {f:Nat}{fn:Func}{sz bytes:Nat}{z:List C}{N8:List T}{es:List (List T)}(c9:P.funcs[f]?=some fn)(a7:fn.body.bind (Shv.resolve P fn.ntmps)=some (ack sz bytes z))(al:N3 P fn.results.toList=some [.tmp 2])
 (eJ:1<=fn.ntmps)(gb:toTs z=some N8)(hG:0<sz)(he:∀e,e∈es->e.length=sz)(LL:Yq bytes es.length=true):
 y1 P f [.c (.t (.slice es))] [] 0 (λr J' N'=>N'=1/\r= .c (.arr 0 sz 0 es.length)/\eb J' 0=some (.arr sz es)):=by
 have ahi:=axu LL;refine y1.tidy (Q:=λr J' N'=>∃b,r= .c (.arr b sz 0 es.length)/\eb J' b=some (.arr sz es)) (y1.mk c9 a7 al rfl (by simpa using eJ) ?_) ?_
 . unfold ack;refine kc.seq (kc.region ?_);simp only[Rz,MS,mt,dx,dy.get,LO,ii,KW,l1.neutral,xe,andThen];refine .inr ⟨λ_=>trivial,.inl trivial,?_⟩;refine kc.seq (kc.seq (kc.region ?_));simp only[Rz,MS,mt,dx,dy.get,LO,ii,l1.neutral,xe,andThen,look,Yl,abL]
   refine .inr ⟨λ_=>by simp,.inl trivial,?_⟩;refine .inr ?_;simp only[Nat.reduceEqDiff,Jb,xe,LO,true_and];intro b ai;refine kc.cond (b:=b) (p:=True) (by simp[dy.get,look,aa4]) trivial (λaKS=>?_) (λaKP=>?_)
   ·
    have EJ:es=[]:=by grind
    subst EJ;refine kc.seq (kc.region ?_);simp only[Rz,MS,mt,dx,dy.get,LO,ii,l1.neutral,xe,andThen];refine .inr ⟨λ_=>trivial,.inl trivial,?_⟩;refine kc.conv (Conv.own (k:=2) (g:=true) (sz:=sz) rfl hG (Q2 _)) (kc.ret ?_)
    refine⟨_,_,rfl,⟨rfl,trivial⟩,_,rfl,?_⟩;rw[n2,bJ rfl]
   . refine kc.skip ?_;refine kc.seq (kc.region ?_);simp only[Rz,MS,mt,dx,dy.get,LO,ii,l1.neutral,xe,andThen,look,Qh,gb,ec,Nat.reduceEqDiff,Jb,y0,reduceCtorEq,Ut,n2,List.replicate];refine .inr ⟨λ_=>trivial,.inr trivial,?_⟩;refine .inr ⟨λ_=>by simp,.inl trivial,?_⟩
     refine .inr ⟨λ_=>⟨trivial,trivial,trivial,trivial,trivial,by simp,he,by simpa using ahi.1,by simpa using ahi.2⟩,.inr trivial,?_⟩;refine .inr ⟨λ_=>by simp,.inl trivial,?_⟩;refine kc.ret ⟨_,[.c (.arr 80 sz 0 (0+es.length))],rfl,⟨rfl,trivial⟩,80,by rw[Lt];rfl,?_⟩;rw[n2,bJ rfl];simp
 . rintro r J' N' ⟨b,rfl,hs⟩
   refine⟨[b],_,_,by simp,rfl,?_,λi x aa=>⟨x,aa,?_⟩,rfl,rfl,?_⟩
   . simp only[V.hE,C.hE,pos,xe];exact .c (r1.refl _)
   . cases x with
     |box cs=>exact .box (er.self r1.refl _)
     |arr sz es=>exact .arr
     |set ks=>exact .same
     |buf E s=>exact .same
     |hZ E c=>exact .hZ (r1.refl _)
     |kx sz es i o c=>exact .kx (r1.refl _)
   . simp[JX,hs,eb,hF.hE]
theorem auF {f:Nat}{fn:Func}{sz bytes:Nat}{z:List C}{N8:List T}{t:c8}(c9:P.funcs[f]?=some fn)(a7:fn.body.bind (Shv.resolve P fn.ntmps)=some (ack sz bytes z))(al:N3 P fn.results.toList=some [.tmp 2])
 (eJ:Nat.ble 1 fn.ntmps=true)(gb:toTs z=some N8)(hG:t.sz U=sz):N9 P (afF U f t bytes):=by
 intro(l:List (t.den U.D)) r v' TM J1 b6 cy;subst hG;have SZ:Qi bytes l=some r:=v';unfold Qi at SZ;split at SZ
 . rename_i LL;cases SZ;cases b6 with
   |cons h1 ad=>
    cases ad;have:=hV.Q8 (t:=t) (l:=l) h1;subst this
    refine y1.conv (J':=[]) (.cons (.c (r1.refl _)) .nil) (λb x aa=>by simp[eb]at aa) ((aHE (bytes:=bytes) c9 a7 al (N5 eJ) gb c8.aeg (es:=List.map (t.enc U) l) (λe he=>by
     obtain⟨y,_,rfl⟩:=PG.1 he
     exact c8.abc) (by rw[PE];exact LL)).mono ?_)
    rintro ln s1 SJ ⟨rfl,rfl,hs⟩
    refine⟨rfl,.c (.arr 0 _ _ (by omega) λx aa p aJ=>?_),λb x aa=>?_⟩
    . have:x=ni.arr t l:=by
       simp only[k6.rest,afF,RH,Zf,c'.cells,Jv.cells,LI,OL,eg,Nat.beq,hr]at aa
       grind
      subst this;simp only[ni.rz,hr]at aJ;rw[<-aJ,PE]
    . have Jx:(if b=0 then some (ni.arr t l)else none)=some x:=by
       rw[<-aa];simp only[k6.rest,afF,RH,Zf,c'.cells,Jv.cells,LI,OL,eg];cases b<;>rfl
      split at Jx
      . rename_i ai;cases Jx;subst ai;exact⟨by omega,_,hs,.arr t l⟩
      . cases Jx
 . cases SZ
def anK{α:Type}(bytes:Nat)(l:List α):Option (List α×List α):=(Qi bytes l).map λr=>(l,r)
def aj0(U:k9)(f:Nat)(t:c8)(bytes:Nat):k6 U:=
 ⟨f,[.c (.arr 0)],[.arr t],[.slice t],.c (.arr 1),[.arr t,.arr t],[.slice t,.slice t],λ(l:List (t.den U.D))=>anK bytes l⟩
theorem aGU {f:Nat}{fn:Func}{sz bytes:Nat}{z:List C}{N8:List T}{es:List (List T)}{hU:ee}(c9:P.funcs[f]?=some fn)(a7:fn.body.bind (Shv.resolve P fn.ntmps)=some (ack sz bytes z))(al:N3 P fn.results.toList=some [.tmp 2])
 (eJ:1<=fn.ntmps)(gb:toTs z=some N8)(hG:0<sz)(he:∀e,e∈es->e.length=sz)(LL:Yq bytes es.length=true)(h0:eb hU 0=some (.arr sz es)):
 y1 P f [.c (.arr 0 sz 0 es.length)] hU 1 (λr J' N'=>N'=2/\r= .c (.arr 1 sz 0 es.length)/\eb J' 0=some (.arr sz es)/\eb J' 1=some (.arr sz es)):=by
 have ahi:=axu LL;refine y1.tidy (Q:=λr J' N'=>∃b,1<=b/\r= .c (.arr b sz 0 es.length)/\eb J' 0=some (.arr sz es)/\eb J' b=some (.arr sz es)) (y1.mk c9 a7 al rfl (by simpa using eJ) ?_) ?_
 . unfold ack;refine kc.seq (kc.region ?_);simp only[Rz,MS,mt,dx,dy.get,LO,ii,KW,l1.neutral,xe,andThen];refine .inr ⟨λ_=>trivial,.inl trivial,?_⟩;refine kc.seq (kc.seq (kc.region ?_));simp only[Rz,MS,mt,dx,dy.get,LO,ii,l1.neutral,xe,andThen,look,Yl,abL]
   refine .inr ⟨λ_=>by simp,.inl trivial,?_⟩;refine .inr ?_;simp only[Nat.reduceEqDiff,Jb,xe,LO,true_and];intro b ai;refine kc.cond (b:=b) (p:=True) (by simp[dy.get,look,aa4]) trivial (λaKS=>?_) (λaKP=>?_)
   . have EJ:es=[]:=by grind
     subst EJ;refine kc.seq (kc.region ?_);simp only[Rz,MS,mt,dx,dy.get,LO,ii,l1.neutral,xe,andThen];refine .inr ⟨λ_=>trivial,.inl trivial,?_⟩;refine kc.conv (Conv.own (k:=2) (g:=true) (sz:=sz) rfl hG (by omega)) (kc.ret ?_)
     refine⟨_,_,rfl,⟨rfl,trivial⟩,_,by omega,rfl,?_,?_⟩
     . rw[n2,I2];exact h0
     . rw[n2,bJ rfl]
   . refine kc.skip ?_;refine kc.seq (kc.region ?_);simp only[Rz,MS,mt,dx,dy.get,LO,ii,l1.neutral,xe,andThen,look,Qh,gb,ec,Nat.reduceEqDiff,Jb,y0,reduceCtorEq,List.replicate];refine .inr ⟨λ_=>trivial,.inr trivial,?_⟩;refine .inr ⟨λ_=>by simp,.inl trivial,?_⟩
     have bo:∀v:List (List T),Ut (qJ hU (1+16*1+16*2) (.arr sz v)) (.c (.arr 0 sz 0 es.length))=some (es,some 0):=by
      intro v;simp[Ut,n2,h0]
     refine .inr ?_;simp only[Yl,abL,Lt]at bo⊢;rw[bo];simp only[ec,n2,xe,hr,Nat.reduceMul,Nat.reduceAdd,show ¬(0=49) by omega,show ¬(49=0) by omega,Jb];refine⟨λ_=>⟨trivial,trivial,trivial,trivial,trivial,by simp,he,by simpa using ahi.1,by simpa using ahi.2⟩,.inr trivial,?_⟩
     refine .inr ⟨λ_=>by simp,.inl trivial,?_⟩;refine kc.ret ⟨_,[.c (.arr 81 sz 0 es.length)],rfl,⟨rfl,trivial⟩,81,by omega,rfl,?_,?_⟩
     . rw[n2,I2,li,I2,n2,I2];exact h0
     . rw[n2,bJ rfl];simp
 . rintro r J' N' ⟨b,KX,rfl,P5,hs⟩
   refine⟨[0,b],_,_,by simp;omega,rfl,?_,λi x aa=>⟨x,aa,?_⟩,rfl,rfl,?_⟩
   . simp only[V.hE,C.hE,pos,cx (show ¬0=b by omega),xe];exact .c (r1.refl _)
   . cases x with
     |box cs=>exact .box (er.self r1.refl _)
     |arr sz es=>exact .arr
     |set ks=>exact .same
     |buf E s=>exact .same
     |hZ E c=>exact .hZ (r1.refl _)
     |kx sz es i o c=>exact .kx (r1.refl _)
   . simp[JX,hs,P5,eb,hF.hE]
theorem aGV {f:Nat}{fn:Func}{sz bytes:Nat}{z:List C}{N8:List T}{t:c8}(c9:P.funcs[f]?=some fn)(a7:fn.body.bind (Shv.resolve P fn.ntmps)=some (ack sz bytes z))(al:N3 P fn.results.toList=some [.tmp 2])
 (eJ:Nat.ble 1 fn.ntmps=true)(gb:toTs z=some N8)(hG:t.sz U=sz):N9 P (aj0 U f t bytes):=by
 intro(l:List (t.den U.D)) r v' TM J1 b6 cy;subst hG;have SZ:(Qi bytes l).map (λr=>(l,r))=some r:=v';unfold Qi at SZ;split at SZ
 . rename_i LL;cases SZ;cases b6 with
   |cons h1 ad=>
    cases ad;obtain⟨sz,n,rfl,_,ay⟩:=h1.MR;obtain⟨_,y,ahq,ahr⟩:=cy 0 (.arr t l) rfl;cases ahr;have:=ay (.arr t l) rfl (t.sz U,l.length) rfl;simp only[ho]at this;obtain⟨rfl,rfl⟩:=this;have n':l.length=(l.map (t.enc U)).length:=by rw[PE]
    rw[n']
    refine(aGU (bytes:=bytes) c9 a7 al (N5 eJ) gb c8.aeg (es:=List.map (t.enc U) l) (λe he=>by
     obtain⟨y,_,rfl⟩:=PG.1 he
     exact c8.abc) (by rw[PE];exact LL) ahq).mono ?_
    rintro ln s1 SJ ⟨rfl,rfl,P5,aLL⟩
    have JL:∀b x,eg ((aj0 U f t bytes).rest (l,l)) b=some x->(b=0\/b=1)/\x=ni.arr t l:=by
     intro b x aa;have Jx:(if b=0 then some (ni.arr t l)else if b=1 then some (ni.arr t l)else none)=some x:=by
      rw[<-aa];simp only[k6.rest,aj0,RH,Zf,c'.cells,Jv.cells,LI,OL,eg]
      match b with
      |0=>rfl
      |1=>rfl
      |_+2=>rfl
     grind
    refine⟨rfl,.c (.arr 1 _ _ (by omega) λx aa p aJ=>?_),λb x aa=>?_⟩
    . obtain⟨_,rfl⟩:=JL _ _ aa;simp only[ni.rz,hr]at aJ;rw[<-aJ,PE]
    . obtain⟨ai,rfl⟩:=JL _ _ aa;rcases ai with rfl|rfl
      . exact⟨by omega,_,P5,.arr t l⟩
      . exact⟨by omega,_,aLL,.arr t l⟩
 . cases SZ
end
end
section
open Go Go.Proofs Go.Proofs.YtandcioiaooocaaGreat Go.Shelf
variable {U:k9}
def aj1(U:k9)(f E WT:Nat):k6 U:=
 ⟨f,[.c (.ptr 0 0)],[.hZ E (.lJ 1),.buf WT],[.str],.e2 [],[.hZ E (.lJ 1),.buf WT],[.str],λ(s:b8)=>some s⟩
section
variable {P:Program}{ρ:Ren}
theorem aHF(L:Lays.n240 P ρ)(X:Builder.X72 P ρ){J:ee}{WT n:Nat}{s:b8}(h0:eb J 0=some (.hZ (ρ.t 72) (.lJ 1 n)))(h1:eb J 1=some (.buf WT s)):
 y1 P (ρ.f 240) [.c (.ptr 0 0)] J 2 (λr J' N'=>r= .e2 []/\J'=J/\N'=2):=by
 intro φ S w B LN wm Vg zv vs x1;cases x1 with|cons ch x1=>
 cases x1;have apk:=ch.Ny;subst apk;obtain⟨kJ,⟨p,v,ak,aJ,adt⟩,E1⟩:=LN.blk 0 _ h0
 have same:∀ w',w' = w->∃ (v:Value) (r:V) (hi:q3) (hJ:r') (J':ee) (N':Nat),Ending.returned (Value.tuple #[]) = Ending.returned v/\(r = .e2 []/\J' = J/\N' = 2)/\jJ hi w' hJ r v/\r.cv (lt N') = true/\Y5 hi w' hJ J'/\(∀ (b:Nat) x,eb J' b = some x->b<N'/\x.cv (lt N') = true)/\Rk B S hJ w w'/\
  (∀(b:Nat) x,eb J' b=some x->(hi b).2≠0->B (hi b).1\/w.heap.size<=(hi b).1)/\∀b,b<2->hi b=φ b:=by
  rintro w' rfl
  exact⟨_,.e2 [],φ,S,J,2,rfl,⟨rfl,rfl,rfl⟩,.e2 [] [] rfl (by simp),rfl,LN,wm,Rk.refl,λb x aa ai=>.inl (Vg b x aa ai),λ_ _=>rfl⟩
 rcases aJ with rfl|rfl
 . have aoV:w.cell? ⟨(φ 0).1,0,none⟩=some (.pointer none):=by rw[PR (vs:=[_,_]) ak];rfl
   have apv:w.shape? (φ 0).1=some (ρ.t 72,2):=by simp[World.shape?,ak]
   have Zo:w.frozen? ⟨(φ 0).1,0,none⟩=false:=by simp[World.frozen?,ak]
   refine(Any.Builder_copyCheck_fresh L X (φ 0).1 w aoV apv Zo).mono ?_
   rintro e w' ⟨rfl,rfl⟩
   obtain⟨Jd,HS⟩:=asM (vs:=[.pointer none,v]) ak 0 (.pointer (some ⟨(φ 0).1,0,none⟩));have m:LF w S (w.setCell ⟨(φ 0).1,0,none⟩ (.pointer (some ⟨(φ 0).1,0,none⟩))) S:=⟨λ_ _ h=>h,λb j h=>YS (HS b (λe=>E1 j (e▸h))) j⟩
   refine⟨_,.e2 [],φ,S,J,2,rfl,⟨rfl,rfl,rfl⟩,.e2 [] [] rfl (by simp),rfl,⟨λb x aa=>?_,LN.inj,λb j h=>?_⟩,wm,⟨rfl,rfl,rfl,by simp,λb ai u'=>HS b (λe=>u' (e▸Vg 0 _ h0 kJ)),m,λ_ _ h=>.inl h⟩,λb x aa ai=>.inl (Vg b x aa ai),λ_ _=>rfl⟩
   . by_cases ai:b=0
     . subst ai;rw[h0]at aa;cases aa;exact⟨kJ,⟨_,v,Jd,.inr rfl,fJ.mono (n:=λ_=>true) m (λ_ _=>rfl) (C.UY _) adt⟩,E1⟩
     . exact o1.mono (n:=λ_=>true) m (λ_ _=>rfl) rfl (by cases x<;>simp[hF.cv,C.UY]) (λX3=>HS _ (LN.inj b 0 x _ aa h0 ai X3 kJ)) (LN.blk b x aa)
   . have:=LN.st b j h
     simpa using this
 . have aoV:w.cell? ⟨(φ 0).1,0,none⟩=some (.pointer (some ⟨(φ 0).1,0,none⟩)):=by rw[PR (vs:=[_,_]) ak];rfl
   refine(Any.Builder_copyCheck_used L X (φ 0).1 w aoV).mono ?_
   rintro e w' ⟨rfl,rfl⟩
   exact same _ rfl
theorem aHG(L:Lays.n240 P ρ)(X:Builder.X72 P ρ){f E WT:Nat}(c9:ρ.f 240=f)(Jn:ρ.t 72=E):N9 P (aj1 U f E WT):=by
 subst c9;subst Jn;intro(s:b8) r v' TM J1 b6 cy;have al:r=s:=ZK v'.symm;subst al;cases b6 with|cons b6 X1=>
 cases X1;have:=b6.Ny;subst this;have Q1:eg ((aj1 U (ρ.f 240) (ρ.t 72) WT).OI r) 0=some (.hZ (ρ.t 72) (.lJ 1)):=rfl;have Qs:eg ((aj1 U (ρ.f 240) (ρ.t 72) WT).OI r) 1=some (.buf WT r):=rfl;obtain⟨_,Ri,g0,b0⟩:=cy 0 _ Q1;obtain⟨_,aAo,g1,b1⟩:=cy 1 _ Qs;cases b1;cases b0 with| @hZ _ _ d b0=>
 cases b0 with|lJ _ n ai ay=>
 refine(aHF L X g0 g1).mono ?_
 rintro ln s1 SJ ⟨rfl,rfl,rfl⟩
 exact⟨rfl,.e2 [] [] rfl (by simp),cy⟩
end
end
section
open Go Go.ChangeShapes Go.WideShapes Go.RowKit
variable {U:k9}
def c8.aAi:c8->Nat
 |.bool=>1
 |.int k=>k.bits/8
 |.str=>16
 |.slice _=>24
 |.nm _=>0
def anL:List c8->Nat
 |[]=>0
 |t::r=>t.aAi+anL r
def aaa(l:List c8):Nat:=bif l.any λt=>Nat.ble 8 t.aAi then(anL l+7)/8*8 else anL l
def c8.bytes(U:k9)(t:c8):Nat:=aaa (t.cells U)
inductive WF (U:k9):Cell U.D->Prop
 |bool (b:Bool):WF U ⟨.bool,b⟩
 |int (k:IntKind) (n:Int) (h:(Lit.int k n).wf=true):WF U ⟨.int k,n⟩
 |str (s:b8) (h:s.length<=reachBytes):WF U ⟨.str,s⟩
 |slice (t:c8) (l:List (t.den U.D)) (h:l.length<=reachBytes) (ad:l.length*t.bytes U<=reachBytes) (ar:∀x,x∈l->∀c,c∈t.row U x->WF U c):WF U ⟨.slice t,l⟩
def k9.Total(U:k9):Prop:=∀n (l:List (Cell U.D)),l.map Cell.ty=U.q0 n->∃x,U.make n l=some x
def alw:List c8->List c8->Bool
 |[],[]=>true
 |a::l,b::m=>c8.beq a b&&alw l m
 |_,_=>false
theorem aup:∀{l m:List c8},alw l m=true->l=m
 |[],[],_=>rfl
 |a::l,b::m,h=>by
  simp only[alw,h5]at h;rw[c8.beq_eq h.1,aup h.2]
 |[],_::_,h=>by cases h
 |_::_,[],h=>by cases h
def afG(P:Program)(g:TypeId->Option (List c8)):List Field->Nat->Nat->Option (List c8)
 |[],off,N2=>match Nat.beq off N2 with
  |true=>some []
  |false=>none
 |f::r,off,N2=>match g f.type with
  |none=>none
  |some a=>match Nat.beq f.offset off&&Nat.beq (P.cellsOf f.type) a.length with
   |false=>none
   |true=>match afG P g r (off+a.length) N2 with
    |none=>none
    |some b=>some (a++b)
def U2(P:Program)(U:k9)(st:TypeId->Option Nat):Nat->TypeId->Option (List c8)
 |0,_=>none
 |n+1,t=>match P.underlying t with
  |some .bool=>some [.bool]
  |some (.int k)=>some [.int k]
  |some .string=>some [.str]
  |some (.slice e)=>match st e with
   |some m=>match Nat.ble 1 (P.bytesOf e)&&Nat.ble (aaa (U.q0 m)) (P.bytesOf e)with
    |true=>some [.slice (.nm m)]
    |false=>none
   |none=>match U2 P U st n e with
    |none=>none
    |some a=>match Nat.ble 1 (P.bytesOf e)&&Nat.ble (aaa a) (P.bytesOf e)with
     |false=>none
     |true=>match a with
      |[ty]=>match ty.ahx with
       |true=>none
       |false=>some [.slice ty]
      |_=>none
  |some (.struct fs)=>afG P (U2 P U st n) fs.toList 0 (P.cellsOf t)
  |some (.array k e)=>match U2 P U st n e with
   |none=>none
   |some a=>match Nat.beq (P.cellsOf t) (k*a.length)&&Nat.beq (P.cellsOf e) a.length with
    |false=>none
    |true=>some (List.replicate k a).flatten
  |_=>none
theorem ats{α:Type}{R:Nat->α->Prop}:∀(n:Nat),(∀i,i<n->∃x,R i x)->∃l:List α,l.length=n/\∀(i:Nat) x,l[i]?=some x->R i x
 |0,_=>⟨[],rfl,by simp⟩
 |n+1,h=>by
  obtain⟨l,ar,al⟩:=ats n λi ao=>h i (by omega)
  obtain⟨x,aa⟩:=h n (by omega);refine⟨l++[x],by simp[ar],λi y bo=>?_⟩
  grind
section
variable {H:Type}{enc:TypeId×Value->H}{P:Program}{w:World}
abbrev aca(w:World):r':=λb _=>b<w.heap.size
structure Rd (U:k9)(w:World)(q0:List c8)(cs:List Value)(l:List (Cell U.D)):Prop where
 ty:l.map Cell.ty=q0
 wf:∀c,c∈l->WF U c
 rt:er (λc v=>hY w (aca w) (Cell.enc U c) v) l cs
theorem afH{t:c8}{x:t.den U.D}{v:Value}(h1:WF U ⟨t,x⟩)(ad:hY w (aca w) (Cell.enc U ⟨t,x⟩) v):Rd U w [t] [v] [⟨t,x⟩]:=
 ⟨rfl,by simpa using h1,.cons ad .nil⟩
theorem amI{t:TypeId}:∀{ds:List (DataW H)} {d:DataW H},d∈ds->∀n∈d.weights P t,n∈DataW.weightsAll P t ds
 |d0::ds,d,ay,n,eJ=>by
  simp only[DataW.weightsAll,Oy];rcases Nx.1 ay with rfl|ay
  . grind
  . exact .inr (amI ay n eJ)
theorem auG{g:TypeId->Option (List c8)}{cs:List Value}:∀{fs:List Field} {off N2:Nat} {q0:List c8},
 (∀f,f∈fs->∀a,g f.type=some a->∃l,Rd U w a ((cs.drop f.offset).take (P.cellsOf f.type)) l)->
 afG P g fs off N2=some q0->cs.length=N2->∃l,Rd U w q0 (cs.drop off) l
 |[],off,N2,q0,_,h,ar=>by
  simp only[afG]at h;split at h
  . rename_i e;cases h;have:=em e;refine⟨[],rfl,by simp,?_⟩;rw[RY (by omega)];exact .nil
  . cases h
 |f::r,off,N2,q0,a8,h,ar=>by
  simp only[afG]at h;split at h
  . cases h
  . rename_i a b6;split at h
    . cases h
    . rename_i ai;simp only[h5]at ai;have h1:=em ai.1;have ad:=em ai.2;split at h
      . cases h
      . rename_i b JS;cases h;obtain⟨Qs,QW⟩:=a8 f (by simp) a b6;obtain⟨l2,Jo⟩:=auG (λf c9=>a8 f (by simp[c9])) JS ar;refine⟨Qs++l2,by simp[QW.ty,Jo.ty],?_,?_⟩
        . intro c a7;rcases Oy.1 a7 with a7|a7
          . exact QW.wf c a7
          . exact Jo.wf c a7
        . have e:cs.drop off=(cs.drop off).take a.length++cs.drop (off+a.length):=by rw[<-ahI,List.take_append_drop]
          rw[e];refine er.append ?_ Jo.rt;have:=QW.rt
          grind
theorem aw7{a:List c8}{cs:List Value}:∀(k off:Nat),(∀i,i<k->∃l,Rd U w a ((cs.drop (off+i*a.length)).take a.length) l)->cs.length=off+k*a.length->
 ∃l,Rd U w (List.replicate k a).flatten (cs.drop off) l
 |0,off,_,ar=>by
  refine⟨[],rfl,by simp,?_⟩;rw[RY (by omega)];exact .nil
 |k+1,off,a8,ar=>by
  obtain⟨Qs,QW⟩:=a8 0 (by omega);rw[ahM,Uf]at QW
  obtain⟨l2,Jo⟩:=aw7 (a:=a) (cs:=cs) k (off+a.length) (λi ao=>by
   have:=a8 (i+1) (by omega)
   rwa [Nat.succ_mul,ahK (i*a.length),<-Yo]at this) (by rw[ar,Nat.succ_mul];omega)
  refine⟨Qs++l2,by simp[QW.ty,Jo.ty,List.replicate_succ],?_,?_⟩
  . intro c a7;rcases Oy.1 a7 with a7|a7
    . exact QW.wf c a7
    . exact Jo.wf c a7
  . have e:cs.drop off=(cs.drop off).take a.length++cs.drop (off+a.length):=by rw[<-ahI,List.take_append_drop]
    rw[e];exact er.append QW.rt Jo.rt
theorem aHH{a:Addr}{n:Nat}{cs:List Value}(h:w.cells? 0 a n=some cs):cs.length=n/\∀j,j<n->w.cell? (a.add j)=cs[j]?:=by
 unfold World.cells? at h;rw[bJ (Q2 _)]at h;exact⟨by simpa using mapM_some_length h,λj ea=>mapM_some_get h j j (by simp[ea])⟩
theorem auH{a:Addr}{v:Value}(h:w.cell? a=some v):a.spot=none/\a.block<w.heap.size:=by
 unfold World.cell? at h;split at h
 . rename_i ai;split at h
   . cases h
   . rename_i hs;refine⟨by simpa using hs,(ahP.1 ai).1⟩
 . cases h
theorem axv{a:Addr}{i j:Nat}(h:a.spot=none):(a.add i).add j=⟨a.block,a.off+i+j,none⟩:=by
 obtain⟨b,o,sp⟩:=a;dsimp only at h;subst h;unfold Addr.add
 grind
theorem azi(N2:U.Total){t:c8}{l:List (Cell U.D)}(h:l.map Cell.ty=t.cells U):∃x,t.row U x=l:=by
 have one:∀t:c8,l.map Cell.ty=[t]->∃x:t.den U.D,l=[⟨t,x⟩]:=by
  intro t h
  match l,h with
  |[⟨Jt,x⟩],h=>simp at h;subst h;exact⟨x,rfl⟩
 cases t with
 |nm n=>
  obtain⟨x,aa⟩:=N2 n l h;exact⟨x,U.mk_eq n l x aa⟩
 |bool=>obtain⟨x,aa⟩:=one _ h;exact⟨x,aa.symm⟩
 |int k=>obtain⟨x,aa⟩:=one _ h;exact⟨x,aa.symm⟩
 |str=>obtain⟨x,aa⟩:=one _ h;exact⟨x,aa.symm⟩
 |slice t=>obtain⟨x,aa⟩:=one _ h;exact⟨x,aa.symm⟩
def aaV(P:Program)(U:k9)(st:TypeId->Option Nat):Prop:=∀e m,st e=some m->U2 P U st 60 e=some (U.q0 m)
def aec:List (TypeId×Nat)->TypeId->Option Nat
 |[],_=>none
 |p::l,t=>match Nat.beq p.1 t with
  |true=>some p.2
  |false=>aec l t
def afI(P:Program)(U:k9)(st:TypeId->Option Nat)(t:TypeId)(q0:List c8):Bool:=
 match U2 P U st 60 t with
 |some a=>alw a q0
 |none=>false
theorem anA{P:Program}{st:TypeId->Option Nat}{t:TypeId}{q0:List c8}(h:afI P U st t q0=true):U2 P U st 60 t=some q0:=by
 unfold afI at h;split at h
 . rename_i a b6;rw[b6,aup h]
 . cases h
theorem auq:∀{l:List (TypeId×Nat)} {t m},aec l t=some m->(t,m)∈l
 |p::l,t,m,h=>by
  simp only[aec]at h;split at h
  . rename_i e;cases h;have:=em e
    grind
  . exact .tail _ (auq h)
theorem aKs{P:Program}{l:List (TypeId×Nat)}(h:(l.all λp=>afI P U (aec l) p.1 (U.q0 p.2))=true):aaV P U (aec l):=by
 intro e m he;rw[qa]at h;exact anA (h _ (auq he))
theorem aGW{st:TypeId->Option Nat}(qy:aaV P U st){n:Nat}{t e:TypeId}{q0:List c8}(ht:P.underlying t=some (.slice e))(h:U2 P U st (n+1) t=some q0):
 ∃ty a M4,q0=[.slice ty]/\U2 P U st M4 e=some a/\a=ty.cells U/\1<=P.bytesOf e/\aaa a<=P.bytesOf e:=by
 simp only[U2,ht]at h;split at h
 . rename_i m hm;split at h
   . rename_i ai;cases h;simp only[h5]at ai;exact⟨.nm m,U.q0 m,60,rfl,qy e m hm,rfl,ak2 ai.1,ak2 ai.2⟩
   . cases h
 . split at h
   . cases h
   . rename_i a b6;split at h
     . cases h
     . rename_i ai;have L1:1<=P.bytesOf e/\aaa a<=P.bytesOf e:=by simp_all
       split at h
       . rename_i ty;split at h
         . cases h
         . rename_i eJ;cases h;refine⟨ty,[ty],n,rfl,b6,?_,L1⟩;cases ty<;>first|rfl|cases eJ
       . cases h
theorem auI(N2:U.Total){st:TypeId->Option Nat}(qy:aaV P U st):∀(Ld n:Nat) (t:TypeId) (cs:List Value) (x:DataW H×List MemPlace) (q0:List c8),
 DataW.trod enc P w 0 (λ_=>true) true Ld t cs=some x->U2 P U st n t=some q0->(∀k,k∈x.1.weights P t->k<=reachBytes)->∃l,Rd U w q0 cs l:=by
 intro Ld
 induction Ld with
 |zero=>intro n t cs x q0 h;simp[DataW.trod]at h
 |succ m ih=>
  intro n t cs x q0 h c9 hw;cases n with
  |zero=>cases c9
  |succ n=>
  have aK':=c9;simp only[U2]at c9;split at c9
  . rename_i hu;cases c9;obtain⟨b,rfl,rfl⟩:=DataW.trod_bool hu h;exact⟨_,afH (.bool b) (.bool b)⟩
  . rename_i k hu;cases c9;obtain⟨i,rfl,rfl,aL0⟩:=DataW.trod_int hu h;exact⟨_,afH (.int k i aL0) (.int k i)⟩
  . rename_i hu;cases c9;obtain⟨s,rfl,rfl,hs⟩:=DataW.trod_string hu h;have h1:s.data.toList.length<=reachBytes:=hw _ (by simp[DataW.weights]);have ad:s.data.toList.length=s.size:=ZG;refine⟨_,afH (.str s.data.toList h1) (.str s ?_)⟩;unfold reachBytes at h1;unfold TG;omega
  . rename_i e hu;obtain⟨ty,a,M4,rfl,b6,ayb,aKN,U9⟩:=aGW qy hu aK';rcases DataW.trod_slice hu h with⟨rfl,rfl⟩|⟨hT,len,cap,Zd,rest,J9,hm,rfl,rfl,_,ayy,_,RO,t',_,_⟩
    . refine⟨_,afH (.slice ty [] (Q2 _) (by simp) (by simp)) ?_⟩;exact .slice [] none 0 0 0 0 (λ_ _=>default) (by simp) (by simp) (by simp) (by simp) (by simp) (by simp)
    . cases hm;have aOg:(Zd.length+rest.length)*P.bytesOf e<=reachBytes:=by
       have:=hw ((Zd.length+rest.length)*P.bytesOf e) (by simp[DataW.weights,hu]);exact this
      have n':len<=reachBytes:=by
       have h1:Zd.length+rest.length<=(Zd.length+rest.length)*P.bytesOf e:=alb _ aKN;omega
      have ahd:len*aaa a<=reachBytes:=by
       have h1:len*aaa a<=(Zd.length+rest.length)*P.bytesOf e:=Nat.mul_le_mul (by omega) U9;omega
      have Jn:∀i,i<len->∃air:ty.den U.D,∃MH,MH.length=P.cellsOf e/\(∀j,j<P.cellsOf e->w.cell? ((hT.add (i*P.cellsOf e)).add j)=MH[j]?)/\Rd U w a MH (ty.row U air):=by
       intro i ao;have Ua:=t' i ao;have ao2:Zd[i]?=some Zd[i]:=HJ (by omega);rw[ao2]at Ua;cases a7:w.cells? 0 (hT.add (i*P.cellsOf e)) (P.cellsOf e)with
       |none=>rw[a7]at Ua;cases Ua
       |some MH=>
        rw[a7]at Ua;obtain⟨h1,ad⟩:=aHH a7
        obtain⟨l,ar⟩:=ih M4 e MH _ a Ua b6 (λk hk=>hw k (by
         simp only[DataW.weights,hu,Nx,Oy];right;left
         exact amI (PG.2 ⟨Zd[i],ap4 _,rfl⟩) k hk))
        obtain⟨air,akV⟩:=azi N2 (t:=ty) (by rw[ar.ty,ayb])
        grind
      obtain⟨xs,P7,P8⟩:=ats len Jn;have hG:len≠0->P.cellsOf e=ty.sz U/\0<P.cellsOf e:=by
       intro hn;obtain⟨air,MH,h1,_,a'⟩:=Jn 0 (by omega);have d':=a'.rt.length;rw[c8.azO,h1]at d';exact⟨d'.symm,by rw[<-d'];exact c8.aeg⟩
      have adv:len≠0->hT.spot=none:=by
       intro hn;obtain⟨air,MH,h1,ad,a'⟩:=Jn 0 (by omega);have h0:=ad 0 (hG hn).2;rw[HJ (by rw[h1];exact(hG hn).2)]at h0;have hy:=(auH h0).1
       simpa[Addr.add]using hy
      have ay1:∀x,x∈xs->∃i:Nat,xs[i]?=some x/\i<len:=by
       intro x aa;obtain⟨i,ao⟩:=apW.1 aa
       grind
      refine⟨_,afH (t:= .slice ty) (x:=xs) (.slice ty xs (by omega) (by rw[P7];unfold c8.bytes;rw[<-ayb];exact ahd) ?_) ?_⟩
      . intro x aa c a7;obtain⟨i,ao,_⟩:=ay1 x aa;obtain⟨MH,_,_,a'⟩:=P8 i x ao;exact a'.wf c a7
      . have ahd:(xs.map (ty.enc U)).length=len:=by simp[P7]
        show hY w (aca w) (.slice (xs.map (ty.enc U))) (.slice (some hT) len cap);rw[<-ahd];refine .slice (xs.map (ty.enc U)) (some hT) cap (P.cellsOf e) hT.block hT.off (λi j=>(w.cell? ⟨hT.block,hT.off+i*P.cellsOf e+j,none⟩).getD default) (by omega) ?_ ?_ ?_ ?_ ?_
        . rw[ahd];unfold reachBytes at n';unfold I';omega
        . intro r al;obtain⟨x,aa,rfl⟩:=PG.1 al;obtain⟨i,_,ao⟩:=ay1 x aa;rw[c8.abc];exact(hG (by omega)).1.symm
        . intro hn;have aLx:len≠0:=by intro h0;apply hn;rw[<-List.length_eq_zero_iff];omega
          have:=adv aLx;rw[show hT=⟨hT.block,hT.off,hT.spot⟩from rfl,this]
        . intro i j ao ea;rw[ahd]at ao;obtain⟨air,MH,h1,ad,a'⟩:=Jn i ao;have d':=ad j ea;rw[HJ (by omega)]at d';have apw:=adv (by omega);have ep:(hT.add (i*P.cellsOf e)).add j=⟨hT.block,hT.off+i*P.cellsOf e+j,none⟩:=axv apw;rw[ep]at d';exact⟨(auH d').2,by rw[d'];rfl⟩
        . intro i j r Jt al ayW;rw[WA,e0]at al;obtain⟨x,aa,rfl⟩:=al;obtain⟨MH,h1,ad,a'⟩:=P8 i x aa;have ao:i<len:=by have:=(pv.1 aa).1;omega
          rw[c8.adg,WA,e0]at ayW;obtain⟨c,a7,rfl⟩:=ayW;obtain⟨v,ch,Wt⟩:=a'.rt.get a7;have ea:j<P.cellsOf e:=by have:=(pv.1 ch).1;omega
          have d':=ad j ea;have apw:=adv (by omega);have ep:(hT.add (i*P.cellsOf e)).add j=⟨hT.block,hT.off+i*P.cellsOf e+j,none⟩:=axv apw;rw[ep,ch]at d';show hY w (aca w) _ ((w.cell? ⟨hT.block,hT.off+i*P.cellsOf e+j,none⟩).getD default);rw[d'];exact Wt
  . rename_i fs hu;obtain⟨xs,J9,hm,rfl,ar,n',t'⟩:=DataW.trod_struct hu h;cases hm
    have:=auG (U:=U) (w:=w) (P:=P) (cs:=cs) (fs:=fs.toList) (off:=0) (λf aLd a b6=>by
     obtain⟨i,ao⟩:=apW.1 aLd;have Wn:fs[i]?=some f:=by simpa using ao
     have a8:=t' i f Wn;have Wp:i<xs.length:=by rw[n'];exact(ahP.1 Wn).1
     rw[HJ Wp]at a8
     exact ih n f.type _ _ a a8 b6 (λk hk=>hw k (by
      simp only[DataW.weights,hu]
      exact DataW.weights_mem_each (j:=i) (t:=f.type) (d:=xs[i].1) (by simp[Wn]) (by simp[Wp]) k hk))) c9 ar
    simpa using this
  . rename_i k e hu;split at c9
    . cases c9
    . rename_i a b6;split at c9
      . cases c9
      . rename_i ai;cases c9;simp only[h5]at ai;have h1:=em ai.1;have ad:=em ai.2;obtain⟨xs,J9,hm,rfl,ar,n',t'⟩:=DataW.trod_array hu h;cases hm
        have:=aw7 (U:=U) (w:=w) (a:=a) (cs:=cs) k 0 (λi ao=>by
         have a8:=t' i ao;rw[HJ (by omega)]at a8
         obtain⟨l,ar⟩:=ih n e _ _ a a8 b6 (λq e1=>hw q (by
          simp only[DataW.weights,hu]
          exact amI (PG.2 ⟨xs[i],ap4 _,rfl⟩) q e1))
         rw[ad]at ar
         exact⟨l,by rw[Lt];exact ar⟩) (by rw[ar,h1,Lt])
        simpa using this
  . cases c9
end
end
section
open Go Go.ChangeShapes Go.WideShapes Go.RowKit
variable {U:k9}
def isAgg(P:Program)(t:TypeId):Bool:=
 match P.underlying t with
 |some (.struct _)=>true
 |some (.array _ _)=>true
 |_=>false
def Ui(P:Program)(U:k9)(st:TypeId->Option Nat):List TypeId->List ze->List c8->Bool
 |[],[],[]=>true
 |t::ts,.row m::R7,.nm J9::q0=>(Nat.beq m J9&&(isAgg P t&&afI P U st t (U.q0 m)))&&Ui P U st ts R7 q0
 |t::ts,.c (.hole ty)::R7,Yu::q0=>(c8.beq ty Yu&&(!ty.ahx&&(!isAgg P t&&afI P U st t [ty])))&&Ui P U st ts R7 q0
 |_,_,_=>false
section
variable {H:Type}{enc:TypeId×Value->H}{P:Program}{w:World}{φ:q3}
theorem asb{st:TypeId->Option Nat}:∀{O0:List TypeId} {R7:List ze} {q0:List c8},Ui P U st O0 R7 q0=true->O0.length=q0.length
 |[],[],[],_=>rfl
 |[],[],_::_,h=>by cases h
 |[],_::_,_,h=>by cases h
 |_::_,[],_,h=>by cases h
 |_::_,aef::_,[],h=>by
  cases aef with
  |c x=>cases x<;>cases h
  |_=>cases h
 |t::ts,aef::R7,ty::q0,h=>by
  have:Ui P U st ts R7 q0=true:=by
   cases aef with
   |row m=>cases ty with
    |nm J9=>simp only[Ui,h5]at h;exact h.2
    |_=>cases h
   |c x=>cases x with
    |hole ty=>simp only[Ui,h5]at h;exact h.2
    |_=>cases h
   |_=>cases h
  simp[asb this]
theorem aGX{b0:Nat}{r:Reach}{t:TypeId}{v:Value}(hs:isAgg P t=true)(h:Value.okWide P w r b0 t v):∃cs,v= .agg cs:=by
 unfold isAgg at hs;unfold Value.okWide at h
 grind
theorem aGY{b0:Nat}{r:Reach}{t:TypeId}{v:Value}(hs:isAgg P t=false)(h:Value.okWide P w r b0 t v):v.cells=#[v]:=by
 unfold isAgg at hs;unfold Value.okWide at h;have ad:Cell.okWide P w r b0 t v:=by grind
 cases v with
 |agg cs=>
  unfold Cell.okWide at ad;split at ad<;>first|(rename_i e;cases e)|(rename_i e _;cases e)|skip
  unfold Cell.ok at ad
  grind
 |_=>rfl
theorem as'{w:World}{S:r'}:∀{l:List (Cell U.D)} {vs:List Value},er (λc v=>hY w S (Cell.enc U c) v) l vs->er (fJ φ w S) ((l.map fz.t).map fz.XT) vs
 |[],[],.nil=>.nil
 |c::l,v::vs,.cons h1 ad=>.cons h1 (as' ad)
theorem auJ(N2:U.Total)(φ:q3){st:TypeId->Option Nat}(qy:aaV P U st){b0:Nat}:∀(ts:List TypeId) (R7:List ze) (q0:List c8) (args:List Value) (ds:List (DataW H)) (ps:List MemPlace),
 Ui P U st ts R7 q0=true->(∀(j:Nat) t v,ts[j]?=some t->args[j]?=some v->Value.okWide P w .any b0 t v)->
 DataW.TrodAll enc P w 0 (λ_=>true) true ts args ds ps->(∀k,k∈DataW.weightsEach P ts ds->k<=reachBytes)->
 ∃(l:Hr U) (xs:List (hl U)),l.map Cell.ty=q0/\(∀c,c∈l->∀d,d∈c.ty.row U c.val->WF U d)/\RJ R7 l=(xs,[])/\(∀x,x∈xs->J8 x=true)/\er (jJ φ w (aca w)) (xs.map Jw) args
 |[],[],[],args,ds,ps,_,_,ht,_=>by
  obtain⟨rfl,rfl,rfl⟩:=trodAll_nil ht;exact⟨[],[],rfl,by simp,rfl,by simp,.nil⟩
 |t::ts,aef::R7,ty::q0,args,ds,ps,aJ,ch,ht,hw=>by
  obtain⟨v,vs,d,yq,p,q,rfl,rfl,rfl,⟨Ld,h1⟩,ad⟩:=trodAll_cons ht;have ob:=ch 0 t v rfl rfl;have ayZ:∀k,k∈d.weights P t->k<=reachBytes:=λk hk=>hw k (by simp only[DataW.weightsEach,Oy];exact .inl hk)
  have rest:∀(ayL:Ui P U st ts R7 q0=true),_:=λayL=>auJ N2 φ (st:=st) qy (b0:=b0) ts R7 q0 vs yq q ayL (λj t v ea ahm=>ch (j+1) t v (by simpa using ea) (by simpa using ahm)) ad
   (λk hk=>hw k (by simp only[DataW.weightsEach,Oy];exact .inr hk))
  unfold Ui at aJ;split at aJ
  . grind
  . rename_i t0 aNl m aNd J9 aNn ep hp zt;cases ep;cases hp;cases zt;simp only[h5]at aJ;obtain⟨⟨hm,hs,c9⟩,vx⟩:=aJ;have Ve:=em hm;subst Ve;obtain⟨l,xs,QW,Jo,ahb,akH,ahc⟩:=rest vx;obtain⟨cs,rfl⟩:=aGX hs ob;obtain⟨Q1,NU⟩:=auI N2 qy Ld 60 t _ _ _ h1 (anA c9) ayZ;obtain⟨x,aa⟩:=azi N2 (t:= .nm m) NU.ty
    refine⟨⟨.nm m,x⟩::l,.agg ((c8.row U (.nm m) x).map .t)::xs,by simp[QW],?_,?_,?_,?_⟩
    . intro c a7;rcases Nx.1 a7 with rfl|a7
      . intro d ay;exact NU.wf d (aa▸ay)
      grind
    . simp only[RJ,RH,ahb]
    . intro y bo;rcases Nx.1 bo with rfl|bo
      . simp[J8,fz.WJ]
      grind
    . refine .cons ?_ ahc;have:=as' (φ:=φ) NU.rt;rw[<-aa]at this;exact jJ.agg (vs:=cs.toList) this
  . rename_i t0 aNl aNm aNd Yu aNn ep hp zt;cases ep;cases hp;cases zt;simp only[h5,ahX]at aJ;obtain⟨⟨hm,eJ,hs,c9⟩,vx⟩:=aJ;have Ve:=c8.beq_eq hm;subst Ve;obtain⟨l,xs,QW,Jo,ahb,akH,ahc⟩:=rest vx;rw[aGY hs ob]at h1;obtain⟨Q1,NU⟩:=auI N2 qy Ld 60 t _ _ _ h1 (anA c9) ayZ
    match Q1,NU with
    |[],NU=>cases NU.ty
    |[⟨alv,x⟩],NU=>
     have apx:alv=aNm:=by have:=NU.ty;simpa using this
     subst apx;refine⟨⟨alv,x⟩::l,.c (.t ⟨alv,x⟩)::xs,by simp[QW],?_,?_,?_,?_⟩
     . intro c a7;rcases Nx.1 a7 with rfl|a7
       . intro d ay;refine NU.wf d ?_;cases alv<;>first|exact ay|cases eJ
       grind
     . simp only[RJ,RH,Zf,ahb]
     . intro y bo;rcases Nx.1 bo with rfl|bo
       . rfl
       grind
     . refine .cons ?_ ahc;cases NU.rt with
       |cons a' d'=>exact .c a'
    |_::_::_,NU=>have:=NU.ty;simp at this
  . cases aJ
 |[],[],_::_,_,_,_,aJ,_,_,_=>by cases aJ
 |[],_::_,_,_,_,_,aJ,_,_,_=>by cases aJ
 |_::_,[],_,_,_,_,aJ,_,_,_=>by cases aJ
 |t::ts,aef::R7,[],_,_,_,aJ,_,_,_=>by
  cases aef with
  |row m=>cases aJ
  |c x=>cases x<;>cases aJ
  |agg l=>cases aJ
  |e2 l=>cases aJ
theorem c'.azs:∀(ts:List c8) (l:Hr U),l.map Cell.ty=ts->∃h:c' U.D ts,c'.cells U.D ts h=l
 |[],[],_=>⟨(),rfl⟩
 |[t],[⟨Jt,x⟩],h=>by
  have:Jt=t:=by simpa using h
  subst this;exact⟨x,rfl⟩
 |t::u::r,⟨Jt,x⟩::l,h=>by
  simp only[Vk,List.cons.injEq]at h;obtain⟨h1,ad⟩:=h;subst h1;obtain⟨y,bo⟩:=c'.azs (u::r) l (by simpa using ad);exact⟨(x,y),by show⟨Jt,x⟩::c'.cells U.D (u::r) y=_;rw[bo]⟩
 |[],_::_,h=>by simp at h
 |_::_,[],h=>by simp at h
 |[_],_::_::_,h=>by simp at h
theorem Jv.akk{D:Nat->Type}:∀{ts:List c8} {t:c8} (h:Jv D t ts),Jv.dec D t ts (Jv.cells D t ts h)=some h
 |[],t,x=>Cell.auZ
 |u::r,t,x=>by
  unfold Jv.dec Jv.cells;simp only[adk,Cell.auZ];rw[Jv.akk];rfl
theorem c'.akk{D:Nat->Type}:∀{ts:List c8} (h:c' D ts),c'.dec D ts (c'.cells D ts h)=some h
 |[],_=>rfl
 |_::_,h=>Jv.akk h
theorem c'.Oe{D:Nat->Type}:∀{ts:List c8} {l:List (Cell D)},l.map Cell.ty=ts->∃h,c'.dec D ts l=some h:=by
 have go:∀(ts:List c8) (l:List (Cell D)),l.map Cell.ty=ts->∃h:c' D ts,c'.cells D ts h=l:=by
  intro ts
  induction ts with
  |nil=>intro l h;cases l with
   |nil=>exact⟨(),rfl⟩
   |cons=>cases h
  |cons t r ih=>
   intro l h;cases l with
   |nil=>cases h
   |cons c l=>
    obtain⟨Jt,x⟩:=c;simp only[Vk,List.cons.injEq]at h;obtain⟨h1,ad⟩:=h;subst h1;obtain⟨y,bo⟩:=ih l ad;cases r with
    |nil=>
     cases l with
     |nil=>exact⟨x,rfl⟩
     |cons=>cases ad
    |cons u r=>exact⟨(x,y),by show⟨Jt,x⟩::c'.cells D (u::r) y=_;rw[bo]⟩
 intro ts l h;obtain⟨y,bo⟩:=go ts l h;exact⟨y,by rw[<-bo];exact c'.akk y⟩
def Ok(U:k9)(ts:List c8)(h:c' U.D ts):Prop:=∀c,c∈c'.cells U.D ts h->∀d,d∈c.ty.row U c.val->WF U d
theorem aJv{N:Nat}:l3 N ([]:fr U) []:=λb x h=>by cases h
theorem axw{N:Nat}{J:fr U}:∀{xs:List (hl U)},(∀x,x∈xs->J8 x=true)->er (hV N J) xs (xs.map Jw)
 |[],_=>.nil
 |x::xs,h=>.cons (acz (h x (by simp))).1 (axw λy bo=>h y (by simp[bo]))
theorem aur{k:Nat->Bool}:∀{xs:List (hl U)},(∀x,x∈xs->J8 x=true)->V.cv.V.vn k (xs.map Jw)=true
 |[],_=>rfl
 |x::xs,h=>by
  simp only[Vk,V.cv.V.vn,h5];exact⟨(acz (N:=0) (J:=[]) (h x (by simp))).2 k,aur λy bo=>h y (by simp[bo])⟩
theorem aMe {f:Nat}{Nc:List ze}{ts:List c8}{F:c' U.D ts->Option (c' U.D [.bool])}(N2:U.Total)(hs:N9 P ⟨f,Nc,[],ts,.c (.hole .bool),[],[.bool],F⟩)
 (apJ:∀h:c' U.D ts,Ok U ts h->F h=some true){st:TypeId->Option Nat}(qy:aaV P U st){O0:List TypeId}(aJ:Ui P U st O0 Nc ts=true)
 {b0:Nat}{args:Array Value}{ds:List (DataW H)}{ps:List MemPlace}(ch:∀(j:Nat) t v,O0[j]?=some t->args[j]?=some v->Value.okWide P w .any b0 t v)
 (ht:DataW.TrodAll enc P w 0 (λ_=>true) true O0 args.toList ds ps)(hw:∀k,k∈DataW.weightsEach P O0 ds->k<=reachBytes):
 Calls P f args w λe w'=>e= .returned (.bool true)/\Below w.heap.size w w':=by
 obtain⟨l,xs,QW,Jo,ahb,akH,ahc⟩:=auJ N2 (λb=>(b,0)) qy O0 Nc ts args.toList ds ps aJ (λj t v ea ahm=>ch j t v ea (by simpa using ahm)) ht hw;obtain⟨h,ak⟩:=c'.azs ts l QW;have v':=apJ h (λc a7 d ay=>Jo c (ak▸a7) d ay)
 have Om:=hs h true v' (xs.map Jw) [] (by
  show er (hV 0 _) (RJ Nc (c'.cells U.D ts h)).1 _;rw[ak,ahb];exact axw akH) (by
  show l3 0 (LI 0 [] _) []
  exact aJv)
 have:=Om (λb=>(b,0)) (aca w) w (λ_=>False) {blk:=λb x aa=>(by cases aa),inj:=λb hf x y aa=>(by cases aa),st:=λb j ai=>ai} (λb x aa=>by cases aa) (λb x aa=>by cases aa)
  (aur akH) args.toList ahc
 rw[Array.toArray_toList]at this;refine this.mono λe w' ⟨v,r,hi,hJ,J',N',he,⟨_,al,_⟩,Mc,_,_,_,ag3,_⟩=>?_
 cases al with
 |c a7=>
  cases a7 with
  |t c=>
   cases Mc with
   |c adt=>
    cases adt;exact⟨he,ag3.os,ag3.tape,ag3.output,ag3.size,λk hk=>ag3.block k hk (λh=>h)⟩
theorem aGZ {f:Func}{s:ChangeSpec}{aoD afT an':Bool}{W Ry:World}{args:Array Value}{v:Value}{ds gs:List (DataW H)}{MU:List MemPlace}
 (Qn:DataW.Whole enc P f.params.toList s.vars false W args.toList ds gs MU)(ai:Below W.heap.size W Ry)
 (hres:∀(b:Nat) (sp:Nat->Bool) (ay:Bool),DataW.TrodAll enc P Ry b sp ay f.resultTypes.toList (v.resultList f.resultTypes.size) (s.fn H (ds++gs)).results [])
 (Nq:∀sp:Nat->Bool,(∀p∈MU,sp p.block=true)->DataW.TrodAll enc P Ry 0 sp true f.params.toList args.toList (s.fn H (ds++gs)).args MU)
 (adx:∀sp:Nat->Bool,(∀p∈MU,sp p.block=true)->DataW.TrodVars enc P Ry sp s.vars (s.fn H (ds++gs)).vars [])
 (Oq:∀(j:Nat) (t:TypeId) (r:Value),f.resultTypes[j]?=some t->(v.resultList f.resultTypes.size)[j]?=some r->Value.okWide P Ry .any 0 t r):
 s.post enc P f false aoD afT an' W args v Ry:=by
 have e':=Qn.lt;have Qp:∀p∈MU,(λb=>decide (b<W.heap.size)) p.block=true:=λp aJ=>by simpa using e' p aJ
 refine⟨ds,gs,MU,[],MU,[],Qn,hres _ _ _,Nq _ Qp,adx _ Qp,ai.frame _,λ_=>?_⟩;refine⟨Oq,(s.fn H (ds++gs)).results++(s.fn H (ds++gs)).args,(s.fn H (ds++gs)).vars,MU,⟨MU,[],?_,adx _ (λ_ _=>rfl),by simp,?_,λh=>by cases h⟩,λp aJ _=>aJ⟩
 . have:=trodAll_append (Nq (λ_=>true) (λ_ _=>rfl)) (hres 0 (λ_=>true) true)
   simpa using this
 . intro b off aJ;obtain⟨_,_,_,_,_,gb,_⟩:=Qn;rw[World.frozen?_of_block (w:=W) (a:=⟨b,off,none⟩) (ai.block b (e' _ aJ))];exact gb b off aJ
theorem aMf {f:Nat}{fn:Func}{s:ChangeSpec}{Nc:List ze}{ts:List c8}{F:c' U.D ts->Option (c' U.D [.bool])}(N2:U.Total)
 (hs:N9 P ⟨f,Nc,[],ts,.c (.hole .bool),[],[.bool],F⟩)
 (apJ:∀h:c' U.D ts,Ok U ts h->F h=some true){st:TypeId->Option Nat}(qy:aaV P U st)(aJ:Ui P U st fn.params.toList Nc ts=true)
 {az9:TypeId}(hres:fn.resultTypes=#[az9])(htb:P.underlying az9=some .bool)(adx:s.vars=[])
 (IJ:∀ds:List (DataW H),ds.length=ts.length->(s.fn H ds).results=[.lit (.bool true)]/\(s.fn H ds).args=ds/\(s.fn H ds).vars=[])
 (apc:(laidOutB P&&mapsRowed P)=true)(aLA:fn.params.toList.all (λt=>decide (t<P.types.size))=true)
 (aLM:((List.range P.types.size).all λt=>match P.underlying t with|some (.slice e)=>decide (0<P.cellsOf e)|_=>true)=true)
 {W:World}{base:Nat}{args:Array Value}{ds gs:List (DataW H)}{MU:List MemPlace}{aoD afT an':Bool}
 (adw:∀(j:Nat) t v,fn.params[j]?=some t->args[j]?=some v->Value.okWide P W .any base t v)
 (Qn:DataW.Whole enc P fn.params.toList s.vars false W args.toList ds gs MU)
 (hk:(DataW.weightsEach P (fn.params.toList++s.plain.varTypes P) (ds++gs)).all (· <=reachBytes)=true):
 Calls P f args W λe Ry=>∃v,e= .returned v/\s.post enc P fn false aoD afT an' W args v Ry:=by
 have aoK:=Qn;obtain⟨p,q,JC,akA,rfl,Zo,hL⟩:=Qn;rw[adx]at akA;obtain⟨rfl,rfl⟩:=trodVars_none akA;have aLX:s.plain.varTypes P=[]:=by show s.vars.filterMap _=[]<;>simp[adx]
 rw[aLX,Ym,Ym,qa]at hk;have n':ds.length=ts.length:=by
  have h1:∀{O0:List TypeId} {vs:List Value} {ds:List (DataW H)} {ps:List MemPlace},DataW.TrodAll enc P W 0 (λ_=>true) true O0 vs ds ps->ds.length=O0.length:=by
   intro O0
   induction O0 with
   |nil=>intro vs ds ps h;obtain⟨_,rfl,_⟩:=trodAll_nil h;rfl
   |cons t r ih=>intro vs ds ps h;obtain⟨_,_,_,_,_,_,_,rfl,_,_,ad⟩:=trodAll_cons h;simp[ih ad]
  rw[h1 JC,asb aJ]
 obtain⟨Ye,ads,ayR⟩:=IJ ds n';simp only[h5]at apc;have K:=kids_rows apc.1 apc.2;have hG:=slices_full_of P aLM;refine(aMe N2 hs apJ qy aJ (λj t v ea ahm=>adw j t v (by simpa using ea) ahm) JC (λk Zs=>by simpa using hk k Zs)).mono λe Ry ⟨he,ai⟩=>?_
 subst he;refine⟨_,rfl,aGZ aoK ai ?_ ?_ ?_ ?_⟩
 . intro b sp ay;rw[Ym,Ye,hres];exact trodAll_cons_mk (shut_bool htb _) trodAll_mk0
 . intro sp adv;rw[Ym,ads];have e':=aoK.lt;clear aoK Zo hL hk adw n';have JD:∀t,t∈fn.params.toList->t<P.types.size:=λt ht=>by simpa using qa.1 aLA t ht
   have go:∀ {O0:List TypeId} {vs:List Value} {ds:List (DataW H)} {ps:List MemPlace},(∀ t,t∈O0->t<P.types.size)->(∀ p∈ps,p.block<W.heap.size/\sp p.block = true)->
    DataW.TrodAll enc P W 0 (λ_=>true) true O0 vs ds ps->DataW.TrodAll enc P Ry 0 sp true O0 vs ds ps:=by
    intro O0
    induction O0 with
    |nil=>intro vs ds ps _ _ h;obtain⟨rfl,rfl,rfl⟩:=trodAll_nil h;exact trodAll_mk0
    |cons t r ih=>
     intro vs ds ps JD E8 h;obtain⟨v,Tu,d,yq,a,b,rfl,rfl,rfl,⟨Og,h1⟩,ad⟩:=trodAll_cons h
     refine⟨a,b,⟨Og,DataW.trod_stays (T:=(· < P.types.size)) K (λ{t e}=>hG t e) (by intro ak;cases ak) (JD t (by simp)) h1 (λx aa=>ai.same (E8 x (by simp[aa])).1) (λx aa=>(E8 x (by simp[aa])).2)⟩,ih (λt ht=>JD t (by simp[ht])) (λx aa=>E8 x (by simp[aa])) ad,rfl⟩
   rw[Ym];exact go JD (λx aa=>⟨e' x (by simp[aa]),adv x (by simp[aa])⟩) JC
 . intro sp adv;rw[Ym,ayR,adx];exact rfl
 . exact ok_one hres rfl (okWide_bool_mk htb _)
end
end
section
open Go
theorem anM{a b:Int}(h1: -9223372036854775808<=a+b:=by omega)(ad:a+b<=9223372036854775807:=by omega):hK .i64 a b=a+b:=by unfold hK;rw[IntKind.wrap_i64];omega
theorem UI{a b:Int}(h1: -9223372036854775808<=a-b:=by omega)(ad:a-b<=9223372036854775807:=by omega):MP .i64 a b=a-b:=by unfold MP;rw[IntKind.wrap_i64];omega
theorem Si{a:Int}(h1: -9223372036854775808<=a:=by omega)(ad:a<=9223372036854775807:=by omega):G' .i64 a=a:=by unfold G';rw[IntKind.wrap_i64];omega
theorem js{k n:Nat}(h:k<n):hz (k:Int) n=true:=by unfold hz;simp[h]
theorem u3(k:Nat):(k:Int).toNat=k:=ahY k
theorem Ur{a:Int}(h0:0<=a:=by omega)(h1:a<18446744073709551616:=by omega):IntKind.u64.wrap a=a:=by rw[IntKind.wrap_u64];omega
theorem WM{a:Nat}(h1:a<18446744073709551616:=by omega):G' .u64 (a:Int)=a:=Ur
theorem aei:(2:Nat)^64=18446744073709551616:=by decide
theorem axx{a b:Nat}(b6:a<18446744073709551616)(ai:b<18446744073709551616):ah0 .u64 (a:Int) (b:Int)=((a ||| b:Nat):Int):=by
 have aLz:a ||| b<2^64:=Nat.or_lt_two_pow (by rw[aei];exact b6) (by rw[aei];exact ai);have e:(BitVec.ofInt 64 (a:Int) ||| BitVec.ofInt 64 (b:Int)).toNat=a ||| b:=by grind
 show IntKind.u64.wrap (((BitVec.ofInt 64 (a:Int) ||| BitVec.ofInt 64 (b:Int)).toNat:Nat):Int)=_;rw[e];rw[aei]at aLz;exact Ur
theorem aw8{n c i:Nat}(h:n<2^i):n ||| (c*2^i)=n+c*2^i:=by rw[Nat.or_comm,ahL,<-Nat.two_pow_add_eq_or_of_lt h,ahK]
theorem aI3{b:Nat}(ai:b<256):akc .u8 (b:Int) 127=((b%128:Nat):Int):=by
 have e:(BitVec.ofInt 8 (b:Int) &&& BitVec.ofInt 8 (127:Nat)).toNat=b%128:=by
  rw[adR,adR,BitVec.toNat_and,adT,adT,ZJ (by omega)];exact Nat.and_two_pow_sub_one_eq_mod b 7
 show IntKind.u8.wrap (((BitVec.ofInt 8 (b:Int) &&& BitVec.ofInt 8 (127:Nat)).toNat:Nat):Int)=_;rw[e,IntKind.wrap_u8];omega
theorem aus{a k:Nat}(hk:k<=64)(h:a*2^k<18446744073709551616):WI .u64 (a:Int) (k:Int)=((a*2^k:Nat):Int):=by
 unfold WI;have:min ((k:Int).toNat) IntKind.u64.bits=k:=by simp[IntKind.bits];omega
 rw[this];have e:(a:Int)*2^k=((a*2^k:Nat):Int):=by push_cast;rfl
 rw[e];exact Ur
theorem alj{a:Nat}(h:a<18446744073709551616):OY .u64 (a:Int) 2=((a/2:Nat):Int):=by
 unfold OY;have e:(a:Int).tdiv 2=((a/2:Nat):Int):=by rw[Int.tdiv_eq_ediv_of_nonneg (by omega)];omega
 rw[e];exact Ur
theorem azK{a b:Nat}:NY (a:Int) (b:Int)=((a%b:Nat):Int):=by rfl
theorem adI{a b:Nat}(h:a*b<18446744073709551616):Nw .u64 (a:Int) (b:Int)=((a*b:Nat):Int):=by
 unfold Nw;have e:(a:Int)*b=((a*b:Nat):Int):=by push_cast;rfl
 rw[e];exact Ur
theorem aJw{a b:Int}(h1: -9223372036854775808<=a*b)(ad:a*b<=9223372036854775807):Nw .i64 a b=a*b:=by unfold Nw;rw[IntKind.wrap_i64];omega
theorem aka{a b:Nat}(h:a+b<18446744073709551616):hK .u64 (a:Int) (b:Int)=((a+b:Nat):Int):=by
 unfold hK;have e:(a:Int)+b=((a+b:Nat):Int):=by push_cast;rfl
 rw[e];exact Ur
theorem awx{a b:Nat}(h:a+b<=9223372036854775807):hK .i64 (a:Int) (b:Int)=((a+b:Nat):Int):=by rw[anM];norm_cast
theorem f7{a:Nat}(h:a<9223372036854775807:=by omega):hK .i64 (a:Int) 1=((a+1:Nat):Int):=by rw[anM];norm_cast
theorem afb(s:b8)(i:Nat):m5 s (i:Int)=((s.getD i 0).toNat:Int):=by simp[m5]
theorem aeJ(s:b8)(i:Nat):(s.getD i 0).toNat<256:=UInt8.toNat_lt _
theorem aeO{α:Type}(l:List α)(k:Nat):LY l (k:Int) (l.length:Int)=l.drop k:=by simp[LY]
theorem aG0{α:Type}(l:List α)(k:Nat):LY l 0 (k:Int)=l.take k:=by simp[LY]
theorem aau{a b n:Nat}(h1:a<=b)(ad:b<=n):ME (a:Int) (b:Int) n=true:=by unfold ME;simp;omega
theorem aI4(a b:Nat):ahC (a:Int) (b:Int)=((min a b:Nat):Int):=by unfold ahC;omega
theorem MD{k n:Nat}(hk:k<=1000:=by omega)(h:n<=100000:=by simp;omega):q5 k n=true:=by
 unfold q5 UE I';simp only[h5,u2];refine⟨?_,by omega⟩;have:(2*n+192)*k<=200192*1000:=Nat.mul_le_mul (by omega) hk;omega
end
section
open Go Go.Proofs Go.Proofs.YtandcioiaooocaaGreat Go.Sort Go.RowKit
variable {P:Program}{α:Type}[Inhabited α]
theorem aD9(w:World)(blk:Nat)(f:Array Value->Array Value){b:Nat}(h:b≠blk):(mapBlock w blk f).heap[b]?=w.heap[b]?:=by simp[mapBlock,ald,u4 h]
theorem aDO(w:World)(blk:Nat)(f:Array Value->Array Value){c:Array Value}{E:TypeId}{akv:Nat×Nat}(h:w.heap[blk]?=some (.cells c E akv)):(mapBlock w blk f).heap[blk]?=some (.cells (f c) E akv):=by
 simp[mapBlock,ald,h,onCells]
theorem aI5 {f g k kk:Nat}(enc:α->List Value)(RG:α->List T)(F:Array α->Array α)(hk:∀x,(enc x).length=k)(P4:∀x,(RG x).length=k)(Oo:0<k)
 (J4:∀(w:World) (S:r') (x:α) (j:Nat) (t:T) (v:Value),(RG x)[j]?=some t->hY w S t v->(enc x)[j]?=some v)
 (v':∀d:Array α,(F d).size=d.size/\∀x,x∈(F d).toList->x∈d.toList)
 (Om:∀(blk off cap:Nat) (d:Array α) (w:World),HoldsK enc k w blk off d->blk<w.heap.size->d.size<4611686018427387904->
  Calls P f #[.slice (some ⟨blk,off,none⟩) d.size cap,.func (.func g) #[] #[]] w λe w'=>e= .returned (.tuple #[])/\∃n os,w'=sortWorldK enc k w blk off n (F d) os)
 (api:∀(p:Option Addr) (cap:Nat) (U4:Value) (w:World),Calls P f #[.slice p 0 cap,U4] w λe w'=>e= .returned (.tuple #[])/\w'=w)
 {J:ee}{d:List α}(h0:eb J 0=some (.arr k (d.map RG)))(j1:0<kk):
 y1 P f [.c (.arr 0 k 0 d.length),.c (.fn g [])] J kk (λr J' N'=>r= .e2 []/\J'=qJ J 0 (.arr k ((F d.toArray).toList.map RG))/\N'=kk):=by
 intro φ S w B LN wm Vg zv vs x1;cases x1 with|cons ch x1=>
 cases x1 with|cons ahl x1=>
 cases x1;cases ch with|c ch=>
 cases ahl with|c ahl=>
 obtain⟨a,rfl,b6,q4⟩:=ch;have aLV:_=Value.func (.func g) #[] #[]:=ahl;subst aLV;obtain⟨ar,Ln,n',_,Wl⟩:=LN.blk 0 _ h0;rw[PE]at ar Ln;obtain⟨hG,Vf⟩:=v' d.toArray
 have LJ:∀ w':World,Rk B S S w w'->Y5 φ w' S (qJ J 0 (.arr k ((F d.toArray).toList.map RG)))->∃ v r hi hJ J' N',Ending.returned (Value.tuple #[]) = Ending.returned v/\(r = V.e2 []/\J' = qJ J 0 (.arr k ((F d.toArray).toList.map RG))/\N' = kk)/\jJ hi w' hJ r v/\r.cv (lt N') = true/\Y5 hi w' hJ J'/\(∀ (b:Nat) x,eb J' b = some x->b<N'/\x.cv (lt N') = true)/\Rk B S hJ w w'/\
  (∀(b:Nat) x,eb J' b=some x->(hi b).2≠0->B (hi b).1\/w.heap.size<=(hi b).1)/\∀b,b<kk->hi b=φ b:=by
  intro w' Jn cy;refine⟨_,.e2 [],φ,S,_,kk,rfl,⟨rfl,rfl,rfl⟩,.e2 [] [] rfl (by simp),rfl,cy,λb x aa=>?_,Jn,λb x aa ai=>?_,λ_ _=>rfl⟩
  . rw[n2]at aa;split at aa
    . rename_i ai;cases aa;subst ai;exact⟨j1,rfl⟩
    . exact wm b x aa
  . rw[n2]at aa;split at aa
    . rename_i L1;subst L1;exact .inl (Vg _ _ h0 ai)
    . exact .inl (Vg b x aa ai)
 by_cases gb:(φ 0).2=0
 ·
  have ay:d=[]:=Qw (by omega);subst ay;refine(api a _ _ w).mono ?_
  rintro e w' ⟨rfl,rfl⟩
  have he:(F ([]:List α).toArray).toList.map RG=([]:List α).map RG:=by grind
  refine LJ _ Rk.refl ?_;rw[he];refine⟨λb x aa=>?_,λb hf x y aa bo=>?_,LN.st⟩
  . rw[n2]at aa;split at aa
    . rename_i ai;cases aa;subst ai;exact LN.blk _ _ h0
    . exact LN.blk b x aa
  . have key:∀b x,eb (qJ J 0 (.arr k (([]:List α).map RG))) b=some x->∃hO,eb J b=some hO:=by
     intro b x aa;rw[n2]at aa
     grind
    obtain⟨hO,Jx⟩:=key b x aa;obtain⟨NH,MN⟩:=key hf y bo;exact LN.inj b hf hO NH Jx MN
 . obtain⟨vs,E,ak,Ns,a7,E1⟩:=Wl gb;rw[b6 gb]
   have KY:∀(i j:Nat) (t:T) (x:α),d[i]?=some x->(RG x)[j]?=some t->∃v,vs[i*k+j]?=some v/\hY w S t v/\(enc x)[j]?=some v:=by
    intro i j t x ao ea;obtain⟨v,ch,al⟩:=a7 i j (RG x) t (by rw[WA,ao];rfl) ea
    grind
   have Ol:(φ 0).1<w.heap.size:=by grind
   have aKv:HoldsK enc k w (φ 0).1 (0*k) d.toArray:=by
    intro j ea;rw[size_flatK]at ea;have QV:j<d.length*k:=by simpa using ea
    have ao:j/k<d.length:=(Nat.div_lt_iff_lt_mul Oo).2 QV;have hm:j%k<k:=Nat.mod_lt _ Oo;have aa:d[j/k]?=some d[j/k]:=HJ ao;have aLt:j%k<(RG d[j/k]).length:=by rw[P4];exact hm
    obtain⟨v,ch,_,he⟩:=KY (j/k) (j%k) _ _ aa (HJ aLt);have aLi:j/k*k+j%k=j:=by rw[ahL];exact Nat.div_add_mod j k
    rw[aLi]at ch;refine⟨?_,by simp[World.frozen?,ak]⟩;rw[ahM,Lt,PR ak,ch,get_flatK _ _ _ _ ea]
    grind
   have aLr:d.toArray.size<4611686018427387904:=by
    have:I'=281474976710656:=rfl;simp;omega
   refine(Om (φ 0).1 (0*k) _ d.toArray w aKv Ol aLr).mono ?_
   rintro e w' ⟨rfl,n,os,rfl⟩
   have Qp:∀b:Nat,b<w.heap.size->b≠(φ 0).1->(sortWorldK enc k w (φ 0).1 (0*k) n (F d.toArray) os).heap[b]?=w.heap[b]?:=by
    intro b ai hn;unfold sortWorldK putRowK putRow;rw[heap_grow_old _ _ (by simpa[mapBlock,Go.Sort.ahead]using ai),aD9 _ _ _ hn];rfl
   have Yb:(sortWorldK enc k w (φ 0).1 (0*k) n (F d.toArray) os).heap[(φ 0).1]?=some (.cells (putCells id (0*k) (flatK enc k (F d.toArray)) vs.toArray).toList.toArray E (0,0)):=by
    unfold sortWorldK putRowK putRow;rw[heap_grow_old _ _ (by simpa[mapBlock,Go.Sort.ahead]using Ol),aDO (Go.Sort.ahead w n) _ _ (by exact ak)]
   have hm:LF w S (sortWorldK enc k w (φ 0).1 (0*k) n (F d.toArray) os) S:=⟨λ_ _ h=>h,λb j h=>YS (Qp b (LN.st b j h) (λe=>E1 j (e▸h))) j⟩
   refine LJ _ ⟨rfl,rfl,rfl,?_,λb ai u'=>Qp b ai (λe=>u' (e▸Vg 0 _ h0 gb)),hm,λ_ _ h=>.inl h⟩ ⟨λb x aa=>?_,λb hf x y aa bo=>?_,λb j h=>?_⟩
   . unfold sortWorldK putRowK putRow;simp[grow,mapBlock,Go.Sort.ahead]
   . rw[n2]at aa;split at aa
     . rename_i ai;cases aa;subst ai;refine⟨by simpa[hG]using ar,by simpa[hG]using Ln,λe he=>?_,Oo,λ_=>⟨_,E,Yb,by simpa[putCells]using Ns,λi j e t ao ea=>?_,E1⟩⟩
       . obtain⟨x,_,rfl⟩:=PG.1 he;exact P4 x
       . rw[WA]at ao;cases akV:(F d.toArray).toList[i]? with
         |none=>rw[akV]at ao;cases ao
         |some x=>
          rw[akV]at ao;have:e=RG x:=(ZK ao).symm;subst this;have aa:x∈d:=by simpa using Vf x (F' akV)
          obtain⟨i0,ays,aK0⟩:=OV aa;obtain⟨v,ch,al,he⟩:=KY i0 j t x (by rw[HJ ays,aK0]) ea;refine⟨v,?_,hY.mono hm al⟩;have aN6:j<k:=by rw[<-P4 x];exact(pv.1 ea).1
          have ao8:i<(F d.toArray).size:=by grind
          have e':i*k+j<(F d.toArray).size*k:=by
           have:=Ja k (show i+1<=(F d.toArray).size from ao8)
           grind
          have S5:i*k+j<vs.length:=by
           rw[Ns];refine Uc e' (Ja k ?_)
           grind
          have d1:(i*k+j)/k=i:=(blk_iff k i _ Oo).1 ⟨by omega,by omega⟩;have d2:(i*k+j)%k=j:=by rw[Nat.mod_eq_sub_div_mul,d1];omega
          have ep:(F d.toArray)[i]! =x:=by grind
          have:(putCells id (0*k) (flatK enc k (F d.toArray)) vs.toArray).toList[i*k+j]?=some ((flatK enc k (F d.toArray))[i*k+j]!):=by
           rw[apV];simp only[putCells,Array.getElem?_mapIdx];rw[show vs.toArray[i*k+j]?=some vs[i*k+j] by simp[S5]];simp[size_flatK,e']
          rw[this,get_flatK _ _ _ _ e',d1,d2,ep,List.getElem!_eq_getElem?_getD,he];rfl
     . rename_i ai;have X3:b≠0:=λe=>ai (by simp[e])
       refine o1.mono (n:=λ_=>true) hm (λ_ _=>rfl) rfl (by cases x<;>simp[hF.cv,C.UY]) (λakC=>Qp _ ((LN.blk b x aa).Q7 akC) (LN.inj b 0 x _ aa h0 X3 akC gb)) (LN.blk b x aa)
   . have key:∀b x,eb (qJ J 0 (.arr k ((F d.toArray).toList.map RG))) b=some x->∃hO,eb J b=some hO:=by
      intro b x aa;rw[n2]at aa
      grind
     obtain⟨hO,Jx⟩:=key b x aa;obtain⟨NH,MN⟩:=key hf y bo;exact LN.inj b hf hO NH Jx MN
   . have:=LN.st b j h;unfold sortWorldK putRowK putRow;simp[grow,mapBlock,Go.Sort.ahead];omega
def NX(lt:α->α->Bool)(l:List α):List α:=(pdq lt l.toArray 0 l.length (Lib.bitLen l.length) true true).toList
theorem amY{lt:α->α->Bool}(MK:SWO lt)(l:List α):(NX lt l).Perm l:=by
 obtain⟨⟨hs,_,aJ⟩,_⟩:=pdq_sorts lt MK l.toArray 0 l.length (Lib.bitLen l.length) true true (Q2 _) (by simp) (Or.inl rfl);have ep:∀d:Array α,d.size=l.length->d.extract 0 l.length=d:=λd h=>by rw[<-h];exact Array.extract_size
 rw[ep _ (by simpa using hs),ep _ (by simp)]at aJ
 simpa[NX]using aJ
theorem aFQ{lt:α->α->Bool}(MK:SWO lt)(l:List α):(NX lt l).length=l.length:=(amY MK l).length_eq
theorem aFR{lt:α->α->Bool}(MK:SWO lt)(l:List α):(NX lt l).Pairwise λx y=>lt y x=false:=by
 obtain⟨⟨hs,_,_⟩,cy⟩:=pdq_sorts lt MK l.toArray 0 l.length (Lib.bitLen l.length) true true (Q2 _) (by simp) (Or.inl rfl);have hG:(NX lt l).length=l.length:=aFQ MK l;rw[ahR];intro i j ao ea ayv;have:=cy i j (Q2 _) ayv (by rw[<-hG];exact ea)
 have e:∀i (h:i<(NX lt l).length),(pdq lt l.toArray 0 l.length (Lib.bitLen l.length) true true)[i]! =(NX lt l)[i]:=by
  intro i h;have s':i<(pdq lt l.toArray 0 l.length (Lib.bitLen l.length) true true).size:=by simpa[NX]using h
  rw[getElem!_pos _ i s'];simp[NX]
 grind
def aqG(U:k9)(f n g:Nat)(F:List (U.D n)->List (U.D n)):k6 U:=
 ⟨f,[.c (.arr 0),.c (.fn g [])],[.arr (.nm n)],[.slice (.nm n)],.e2 [],[.arr (.nm n)],[.slice (.nm n)],λ(l:List (U.D n))=>some (F l)⟩
theorem aI6 {U:k9}{f n g:Nat}[Inhabited (U.D n)](enc:U.D n->List Value)(lt:U.D n->U.D n->Bool)(MK:SWO lt)(hk:∀x,(enc x).length=(c8.nm n).sz U)
 (J4:∀(w:World) (S:r') (x:U.D n) (j:Nat) (t:T) (v:Value),((c8.nm n).enc U x)[j]?=some t->hY w S t v->(enc x)[j]?=some v)
 (Om:∀(blk off cap:Nat) (d:Array (U.D n)) (w:World),HoldsK enc ((c8.nm n).sz U) w blk off d->blk<w.heap.size->d.size<4611686018427387904->
  Calls P f #[.slice (some ⟨blk,off,none⟩) d.size cap,.func (.func g) #[] #[]] w λe w'=>e= .returned (.tuple #[])/\∃Wy os,w'=sortWorldK enc ((c8.nm n).sz U) w blk off Wy (pdq lt d 0 d.size (Lib.bitLen d.size) true true) os)
 (api:∀(p:Option Addr) (cap:Nat) (U4:Value) (w:World),Calls P f #[.slice p 0 cap,U4] w λe w'=>e= .returned (.tuple #[])/\w'=w):
 N9 P (aqG U f n g (NX lt)):=by
 intro(l:List (U.D n)) r v' TM J1 b6 cy;have al:r=NX lt l:=(ZK v').symm;subst al;cases b6 with|cons b6 X1=>
 cases X1 with|cons X1 aKH=>
 cases aKH;obtain⟨sz,m,rfl,_,aK2⟩:=hV.MR b6;have:=hV.aoC X1;subst this;have Q1:Shv.eg ((aqG U f n g (NX lt)).OI l) 0=some (.arr (.nm n) l):=rfl;have ay:=aK2 _ Q1 _ rfl;obtain⟨_,Ri,g0,b0⟩:=cy 0 _ Q1;cases b0;have ep:sz=(c8.nm n).sz U:=(Jy Prod.fst ay).symm;have hp:m=l.length:=(Jy Prod.snd ay).symm;subst ep;subst hp
 have ayM:∀d:Array (U.D n),(NX lt d.toList).Perm d.toList:=λd=>amY MK d.toList
 refine(aI5 (α:=U.D n) (kk:=1) enc ((c8.nm n).enc U) (λd:Array (U.D n)=>(NX (α:=U.D n) lt d.toList).toArray) hk (λx=>c8.abc) c8.aeg J4
  (λd=>⟨by simpa using(ayM d).length_eq,λx aa=>(ayM d).mem_iff.1 (by simpa using aa)⟩) (λblk off cap d w h1 ad a'=>?_) api g0 Nat.one_pos).mono ?_
 . have:=Om blk off cap d w h1 ad a'
   simpa[NX]using this
 . rintro ln s1 SJ ⟨rfl,rfl,rfl⟩
   refine⟨rfl,.e2 [] [] rfl (by simp),λb x aa=>?_⟩;have zt:(NX lt l.toArray.toList).toArray.toList=NX lt l:=by simp
   simp only[zt];clear zt v';generalize NX lt l=q at aa⊢;have Jx:(if b=0 then some (ni.arr (U:=U) (.nm n) q)else none)=some x:=by
    rw[<-aa];cases b<;>rfl
   split at Jx
   . rename_i ai;cases Jx;subst ai;refine⟨Nat.one_pos,_,?_,.arr (U:=U) (.nm n) q⟩;rw[n2];simp;rfl
   . cases Jx
theorem aG1(w:World)(S:r')(i:Int)(s:b8)(j:Nat)(t:T)(v:Value)(h:[T.int .i64 i,T.str s][j]?=some t)(al:hY w S t v):[Value.int .i64 i,Value.string ⟨s.toArray⟩][j]?=some v:=by
 match j,h with
 |0,h=>cases h;cases al;rfl
 |1,h=>cases h;cases al;rfl
theorem aIS(key:α->Int):SWO (λx y=>decide (key x<key y)) where
 irrefl x:=by simp
 trans x y z h1 ad:=by simp at*;omega
 ntrans x y z h1 ad:=by simp at*;omega
end
section
open Go Go.Proofs Go.Proofs.YtandcioiaooocaaGreat Go.Sort
def SH{α:Type}(a b:Option α):Prop:=∀r,a=some r->b=some r
theorem SH.r{α:Type}{a:Option α}:SH a a:=λ_ h=>h
theorem SH.n{α:Type}{a:Option α}:SH none a:=λ_ h=>by cases h
theorem SH.b{α β:Type}{a b:Option α}{k h8:α->Option β}(h:SH a b)(hk:∀x,SH (k x) (h8 x)):SH (a>>=k) (b>>=h8):=by
 intro r al;cases a with
 |none=>cases al
 |some x=>rw[h x rfl];exact hk x r al
theorem SH.i{α:Type}{p:Prop}[Decidable p]{a b c d:Option α}(h:SH a c)(k:SH b d):SH (if p then a else b) (if p then c else d):=by grind
variable {α:Type}[Inhabited α]
def aby(lt:α->α->Bool)(x:α):List α->List α
 |[]=>[x]
 |y::r=>if lt x y then x::y::r else y::aby lt x r
def ahy(lt:α->α->Bool):List α->List α
 |[]=>[]
 |x::r=>aby lt x (ahy lt r)
def acS(lt:α->α->Bool):List α->Bool
 |[]=>true
 |x::r=>r.all (λy=>lt x y||lt y x)&&acS lt r
theorem am'(lt:α->α->Bool)(x:α):∀l,(aby lt x l).Perm (x::l)
 |[]=>.refl _
 |y::r=>by
  simp only[aby];split
  . simp_all
  . exact((am' lt x r).cons y).trans (.swap x y r)
theorem auK(lt:α->α->Bool):∀l,(ahy lt l).Perm l
 |[]=>.refl _
 |x::r=>(am' lt x _).trans ((auK lt r).cons x)
theorem att{lt:α->α->Bool}(MK:SWO lt)(x:α):∀{l:List α},l.Pairwise (λx y=>lt y x=false)->(aby lt x l).Pairwise λx y=>lt y x=false
 |[],_=>by simp[aby]
 |y::r,h=>by
  rw[adU]at h;simp only[aby];split
  . rename_i ay2;have ay4:lt y x=false:=by
     cases a7:lt y x with
     |false=>rfl
     |true=>have:=MK.trans _ _ _ ay2 a7;rw[MK.irrefl]at this;cases this
    rw[adU];refine⟨λz gb=>?_,adU.2 h⟩;rcases Nx.1 gb with rfl|gb
    . exact ay4
    . exact MK.ntrans _ _ _ (h.1 z gb) ay4
  . rename_i ay2;rw[adU];refine⟨λz gb=>?_,att MK x h.2⟩;rcases Nx.1 ((am' lt x r).mem_iff.1 gb)with rfl|gb
    . grind
    grind
theorem atu{lt:α->α->Bool}(MK:SWO lt):∀l:List α,(ahy lt l).Pairwise λx y=>lt y x=false
 |[]=>.nil
 |x::r=>att MK x (atu MK r)
theorem ata{lt:α->α->Bool}:∀{l:List α},acS lt l=true->∀a b,a∈l->b∈l->a=b\/lt a b=true\/lt b a=true
 |x::r,h,a,b,b6,ai=>by
  simp only[acS,h5,qa,Oz]at h;rcases Nx.1 b6 with aNV|agS<;>rcases Nx.1 ai with aNW|L1
  . grind
  . grind
  . grind
  . exact ata h.2 a b agS L1
theorem aFH{lt:α->α->Bool}{l:List α}(aJ:acS lt l=true):∀{a b:List α},a.Perm l->b.Perm l->a.Pairwise (λx y=>lt y x=false)->b.Pairwise (λx y=>lt y x=false)->a=b:=by
 intro a b b6 ai h1 ad;refine List.Perm.eq_of_pairwise (le:=λx y=>lt y x=false) (λx y aa bo a' d'=>?_) h1 ad (b6.trans ai.symm);rcases ata aJ x y (b6.mem_iff.1 aa) (ai.mem_iff.1 bo)with h|h|h
 . exact h
 . grind
 grind
theorem aIT{lt:α->α->Bool}(MK:SWO lt){l:List α}(aJ:acS lt l=true):NX lt l=ahy lt l:=
 aFH aJ (amY MK l) (auK lt l) (aFR MK l) (atu MK l)
def aqF(lt:α->α->Bool)(l:List α):Option (List α):=if acS lt l=true then some (ahy lt l)else none
theorem aI7{lt:α->α->Bool}(MK:SWO lt)(l:List α):SH (aqF lt l) (some (NX lt l)):=by
 intro r h;unfold aqF at h;split at h
 . rename_i aJ;rw[aIT MK aJ];exact h
 . cases h
end
end Go.Proofs.YtandcioiaooocaaGreat.Shv
