/- The library of this proof, part D: an abstract machine for the code of the program, and its soundness. -/
import Derived.KernelRfl
import Derived.Shelf.Strings.Builder1
import Derived.ChangeArms
import Derived.ChangeStays
import Derived.ChangeSame
import Derived.SizedLaws
import Derived.Below
import Derived.WalkKit
import Derived.ProofKit
import Derived.OpenShut
import Derived.Laws.BitsLemmas
import Derived.Laws.Bits64
import Derived.Shelf.GgSortFunc.InsertionK
import Derived.Shelf.SlSortCmp.Insertion
import Derived.Sort.AssemblyPlain
import Derived.Lib.BitFns
import Derived.Test.YtbciniegpkkapaaGreatSeLC

namespace Go.Proofs.YtbciniegpkkapaaGreat.Shv
set_option linter.all false
section
open Go
variable {xb:List Nat}
variable {U:Uni} {R:Type}
def bI(gl:GL)(gd:Option (Nat×Bool))(dst:Option Nat):Bool:=
 match dst with
 | none=>true
 | some d=>(gl.all fun e=>!(Nat.beq e.1 d) && !(Nat.beq e.2.1 d)) && (match gd with
  | some g=>!(Nat.beq g.1 d)
  | none=>true)
def xbind(dst:Option Nat)(v:XV U)(env:XEnv U):XEnv U:=
 match dst with
 | none=>env
 | some d=>(d,v)::env
def glAdd(gl:GL)(gd:Option (Nat×Bool))(dst:Option Nat):GL:=
 match gd,dst with
 | some g,some d=>(d,g)::gl
 | _,_=>gl
abbrev Fo(U:Uni):=Nat->List (FSpec U)
abbrev Getv(U:Uni):=XEnv U->Option (List (XV U))
def prep(s:FSpec U)(getv:Getv U)(env:XEnv U)(J:XSt U)(key:Nat):Option (XEnv U×XSt U×List Nat×Hs U.D s.ts):=
 match getv env with
 | none=>none
 | some vs=>match scS J 0 0 s.st (scVs s.sa vs ([],[])) []with
  | (bs,fz)=>match xfz fz env J with
   | none=>none
   | some (env',J')=>match getv env' with
    | none=>none
    | some vs'=>match cK bs && ((bs.all fun b=>Nat.ble (b+1) key) && (Nat.beq bs.length s.st.length && Nat.ble s.rst.length (bs.length+16)))with
     | false=>none
     | true=>match chkVs bs s.sa vs',chkS bs J' 0 s.st with
      | some a,some b=>match Hs.dec U.D s.ts (a++b)with
       | some h=>some (env',J',bs,h)
       | none=>none
      | _,_=>none
def xraw(getv:Getv U)(env:XEnv U)(J:XSt U)(key:Nat)(k:XEnv U->XSt U->XV U->Option R):List (FSpec U)->Option R
 | []=>none
 | s::r=>match prep s getv env J key with
  | none=>xraw getv env J key k r
  | some (env',J',bs,h)=>(s.F h) >>=fun res=>match xdimc J' (s.rest res) 0 bs with
   | none=>none
   | some c=>if c=true then k env' (xgive J' bs (back bs key) (s.rest res)) ((s.res res).mb (back bs key))else none
def isNil{α:Type}:List α->Bool
 | []=>true
 | _=>false
def prepP(s:FSpec U)(getv:Getv U)(env:XEnv U):Option (Hs U.D s.ts):=
 match isNil s.st && isNil s.rst,getv env with
 | true,some vs=>match vs.all aC,chkVs [] s.sa vs with
  | true,some a=>Hs.dec U.D s.ts a
  | _,_=>none
 | _,_=>none
def xpure(getv:Getv U)(env:XEnv U)(g:Bool)(k:XV U->Option R):List (FSpec U)->Option R
 | []=>none
 | s::r=>match prepP s getv env with
  | none=>xpure getv env g k r
  | some h=>(if g=true then s.F h else some (Hs.dfl U s.us)) >>=fun res=>match aC (s.res res)with
   | true=>k (s.res res)
   | false=>none
def hasB(J:XSt U)(b:Nat):Bool:=match lk J b with
 | some _=>true
 | none=>false
def XC.solid2(J:XSt U):XC U->Bool
 | .t _ | .iptr .. | .cap0 | .nilp | .nilfn=>true
 | .ptr b _=>hasB J b
 | .eptr b _ _ _=>hasB J b
 | .fn _ caps=>caps.all (hasB J)
 | .arr b=>match lk J b with
  | some x=>(match x.dim with
   | some _=>true
   | none=>false)
  | none=>false
 | .sub .. =>false
 | .pre .. =>false
 | .suf .. =>false
 | .mp b=>hasB J b
 | .sptr _=>false
 | .bufc b=>match lk J b with
  | some x=>(match x.dim with
   | some p=>Nat.beq p.1 1
   | none=>false)
  | none=>false
 | .dead=>false
def aU(J:XSt U):XV U->Bool
 | .c x=>x.solid2 J
 | .agg cs=>cs.all (XC.solid2 J)
 | .tup vs=>go J vs
where go (J:XSt U):List (XV U)->Bool
 | []=>true
 | v::vs=>aU J v && go J vs
def XC.conc2(J:XSt U):XC U->C
 | .t c=>.t (c.enc U)
 | .iptr ty x o=>.iptr (ty.enc U x) o
 | .cap0=>.cap0
 | .nilp=>.nilp
 | .nilfn=>.nilfn
 | .fn f caps=>.fn f caps
 | .ptr b o=>.ptr b o
 | .eptr b ty i o=>.eptr b (ty.sz U) i o
 | .arr b=>match lk J b with
  | some x=>(match x.dim with
   | some p=>.arr b p.1 0 p.2
   | none=>.dead)
  | none=>.dead
 | .sub b lo len=>.win b 1 lo len
 | .pre _ _=>.dead
 | .suf .. =>.dead
 | .mp b=>.mp b
 | .sptr b=>.sptr b
 | .bufc b=>match lk J b with
  | some x=>(match x.dim with
   | some p=>.bufc b p.2
   | none=>.dead)
  | none=>.dead
 | .dead=>.dead
def aK(J:XSt U):XV U->V
 | .c x=>.c (x.conc2 J)
 | .agg cs=>.agg (cs.map (XC.conc2 J))
 | .tup vs=>.tup (go J vs)
where go (J:XSt U):List (XV U)->List V
 | []=>[]
 | v::vs=>aK J v::go J vs
def aE(J:XSt U):XB U->Bool
 | .box cs=>cs.all (XC.solid2 J)
 | .arr _ _=>true
 | .rows .. =>false
 | .set _=>true
 | .buf _ _=>true
 | .bld _ c=>c.solid2 J
 | .arro .. =>false
def concB(J:XSt U):XB U->Blk
 | .box cs=>.box (cs.map (XC.conc2 J))
 | .arr ty l=>.arr (ty.sz U) (l.map (ty.enc U))
 | .rows sz _=>.arr sz []
 | .set ks=>.set ks
 | .buf E s=>.buf E s
 | .bld E c=>.bld E (c.conc2 J)
 | .arro t l i o _=>.arro (t.sz U) (l.map (t.enc U)) i o .dead
def concS(J:XSt U):XSt U->Store
 | []=>[]
 | (b,x)::r=>(b,concB J x)::concS J r
def ik(J:XSt U)(l:XSt U):Bool:=l.all fun p=>Nat.ble (p.1+1) 16 && aE J p.2
def prepD(s:FSpec U)(getv:Getv U)(env:XEnv U):Option (Hs U.D s.ts):=
 match isNil s.st && Nat.ble s.rst.length 16,getv env with
 | true,some vs=>match vs.all aC,chkVs [] s.sa vs with
  | true,some a=>Hs.dec U.D s.ts a
  | _,_=>none
 | _,_=>none
def eb(getv:Getv U)(env:XEnv U)(J:XSt U)(key:Nat)(k:XSt U->XV U->Option R):List (FSpec U)->Option R
 | []=>none
 | s::r=>match prepD s getv env with
  | none=>eb getv env J key k r
  | some h=>(s.F h) >>=fun res=>match aU (s.rest res) (s.res res) && ik (s.rest res) (s.rest res)with
   | true=>k (xgive J [] (back [] key) (s.rest res)) ((s.res res).mb (back [] key))
   | false=>none
def XC.blks :XC U->List Nat
 | .ptr b _ | .eptr b _ _ _ | .arr b | .sub b _ _ | .pre b _ | .suf b _ _ | .mp b | .sptr b | .bufc b=>[b]
 | .fn _ caps=>caps
 | _=>[]
def XV.blks :XV U->List Nat
 | .c x=>x.blks
 | .agg cs=>cs.flatMap XC.blks
 | .tup _=>[]
def hasN(l:List Nat)(b:Nat):Bool:=l.any fun c=>Nat.beq c b
def prepR(xb:List Nat)(s:FSpec U)(getv:Getv U)(env:XEnv U)(J:XSt U)(key:Nat):Option (List Nat×Hs U.D s.ts):=
 match getv env with
 | none=>none
 | some vs=>match scS J 0 0 s.st (scVs s.sa vs ([],[])) []with
  | (bs,fz)=>match isNil fz && (cK bs && ((bs.all fun b=>Nat.ble (b+1) key && ((hasN (vs.flatMap XV.blks) b || hasN xb b) && hasB J b)) && (Nat.beq bs.length s.st.length && (Nat.ble bs.length s.rst.length && Nat.ble s.rst.length (bs.length+16)))))with
   | false=>none
   | true=>match chkVs bs s.sa vs,chkS bs J 0 s.st with
    | some a,some b=>match Hs.dec U.D s.ts (a++b)with
     | some h=>some (bs,h)
     | none=>none
    | _,_=>none
def hY(n:Nat)(J:XSt U)(l:XSt U):Bool:=l.all fun p=>Nat.ble (p.1+1) n && aE J p.2
def dm(xb:List Nat)(getv:Getv U)(env:XEnv U)(J:XSt U)(key:Nat)(k:XSt U->XV U->Option R):List (FSpec U)->Option R
 | []=>none
 | s::r=>match prepR xb s getv env J key with
  | none=>dm xb getv env J key k r
  | some (bs,h)=>(s.F h) >>=fun res=>match aU (s.rest res) (s.res res) && hY (bs.length+16) (s.rest res) (s.rest res),xdimc J (s.rest res) 0 bs with
   | true,some c=>if c=true then k (xgive J bs (back bs key) (s.rest res)) ((s.res res).mb (back bs key))else none
   | _,_=>none
def anyD(getv:Getv U)(env:XEnv U)(l:List (FSpec U)):Bool:=l.any fun s=>(prepD s getv env).isSome
def anyP(getv:Getv U)(env:XEnv U)(l:List (FSpec U)):Bool:=l.any fun s=>(prepP s getv env).isSome
def rawG(gd:Option (Nat×Bool))(getv:Getv U)(env:XEnv U)(l:List (FSpec U)):Bool:=
 match gd with
 | some _=>!(anyP getv env l)
 | none=>false
def dxb(d:Option (List Nat)):List Nat:=match d with
 | some l=>l
 | none=>[]
def xcall(fo:Fo U)(d:Option (List Nat))(gd:Option (Nat×Bool))(f:Nat)(getv:Getv U)(gl:GL)(env:XEnv U)(J:XSt U)(key:Nat)(k:XEnv U->XSt U->XV U->Option R):Option R:=
 match gd with
 | none=>match d with
  | none=>xraw getv env J key k (fo f)
  | some xb=>match anyD getv env (fo f)with
   | true=>eb getv env J key (fun J v=>k env J v) (fo f)
   | false=>dm xb getv env J key (fun J v=>k env J v) (fo f)
 | some _=>match gval gl env fuelG gd with
  | some g=>xpure getv env g (fun v=>k env J v) (fo f)
  | none=>none
abbrev NF :=List (Nat×Bool)
def isF(nf:NF)(gl:GL):Nat->Option (Nat×Bool)->Bool
 | 0,_=>false
 | _,none=>false
 | fu+1,some (t,b)=>(nf.any fun g=>Nat.beq g.1 t && (g.2==b)) || isF nf gl fu (lk gl t)
def ba(nf:NF)(dst:Option Nat):Bool:=
 match dst with
 | none=>true
 | some d=>nf.all fun g=>!(Nat.beq g.1 d)
def xskip :XV U:= .c (.t ⟨.bool,false⟩)
def xstep(fo:Fo U)(d:Option (List Nat))(o:AOper)(key:Nat)(gl:GL)(nf:NF)(env:XEnv U)(J:XSt U)(k:GL->NF->XEnv U->XSt U->Option R):Option R:=
 match bI gl o.guard o.dst && ba nf o.dst with
 | false=>none
 | true=>match isF nf gl fuelG o.guard with
  | true=>match gval gl env fuelG o.guard with
   | some _=>k (glAdd gl o.guard o.dst) nf (xbind o.dst xskip env) J
   | none=>none
  | false=>match o.op with
   | .call f args=>match rawG o.guard (fun e=>xops' gl o.guard e args) env (fo f)with
    | true=>match gval gl env fuelG o.guard,o.guard with
     | some g,some gd=>if g=true then dm (dxb d) (fun e=>xops' gl o.guard e args) env J key (fun J v=>k (glAdd gl o.guard o.dst) nf (xbind o.dst v env) J) (fo f)else k (glAdd gl o.guard o.dst) (gd::nf) (xbind o.dst xskip env) J
     | _,_=>none
    | false=>xcall fo d o.guard f (fun e=>xops' gl o.guard e args) gl env J key fun env J v=>k (glAdd gl o.guard o.dst) nf (xbind o.dst v env) J
   | .callv x args=>match d,o.guard,xop gl none env x with
    | none,none,some (.c (.fn f _))=>xraw (fun e=>match xop gl none e x,xops' gl none e args with
     | some (.c (.fn f' caps')),some vs=>match Nat.beq f' f with
      | true=>some (vs++caps'.map fun b=>.c (.ptr b 0))
      | false=>none
     | _,_=>none) env J key (fun env J v=>k gl nf (xbind o.dst v env) J) (fo f)
    | some _,none,some (.c (.fn f []))=>xpure (fun e=>xops' gl none e args) env true (fun v=>k gl nf (xbind o.dst v env) J) (fo f)
    | _,_,_=>none
   | op=>match xval gl o.guard env J key op with
    | none=>none
    | some (c,v,J')=>match o.guard with
     | none=>if c=true then k gl nf (xbind o.dst v env) J' else none
     | some gd=>match gval gl env fuelG (some gd)with
      | none=>none
      | some g=>match op.neutral with
       | true=>if(c || !g)=true then k (glAdd gl o.guard o.dst) nf (xbind o.dst v env) J else none
       | false=>if g=true then(if c=true then k (glAdd gl o.guard o.dst) nf (xbind o.dst v env) J' else none)else k (glAdd gl o.guard o.dst) (gd::nf) (xbind o.dst xskip env) J
def ownA(J:XSt U):XC U->List (Nat×Ty)
 | .arr b=>match lk J b with
  | some (.arr t _)=>[(b,t)]
  | _=>[]
 | _=>[]
def ownV(J:XSt U):XV U->List (Nat×Ty)
 | .c x=>ownA J x
 | .agg cs=>cs.flatMap (ownA J)
 | .tup _=>[]
def ownO(gl:GL)(gd:Option (Nat×Bool))(env:XEnv U)(J:XSt U)(xs:List AO):List (Nat×Ty):=
 xs.flatMap fun x=>match xop gl gd env x with
  | some v=>ownV J v
  | none=>[]
def xfzN(l:List (Nat×Ty))(env:XEnv U)(J:XSt U):Option (XEnv U×XSt U):=
 match l with
 | []=>none
 | _=>xfz l env J
def preFz(gl:GL)(o:AOper)(env:XEnv U)(J:XSt U):Option (XEnv U×XSt U):=
 match o.op with
 | .slc _ x _ _=>match xop gl o.guard env x with
  | some (.c (.arr b))=>match lk J b with
   | some (.arr t _)=>xfz [(b,t)] env J
   | _=>none
  | _=>none
 | .call _ args=>match o.guard with
  | some _=>xfzN (ownO gl o.guard env J args) env J
  | none=>none
 | .bsliceT _ _ _ _ ps=>xfzN (ownO gl o.guard env J (ps.map Prod.snd)) env J
 | .bslice _ _ _ ps=>xfzN (ownO gl o.guard env J (ps.map Prod.snd)) env J
 | _=>none
def fE(fo:Fo U)(d:Option (List Nat))(o:AOper)(key:Nat)(gl:GL)(nf:NF)(env:XEnv U)(J:XSt U)(k:GL->NF->XEnv U->XSt U->Option R):Option R:=
 match d with
 | some xb=>xstep fo (some xb) o key gl nf env J k
 | none=>match preFz gl o env J with
  | none=>xstep fo none o key gl nf env J k
  | some p=>xstep fo none o key gl nf p.1 p.2 k
def bU(fo:Fo U)(d:Option (List Nat)):List AOper->Nat->GL->NF->XEnv U->XSt U->(GL->XEnv U->XSt U->Option R)->Option R
 | [],_,gl,_,env,J,k=>k gl env J
 | o::r,key,gl,nf,env,J,k=>fE fo d o key gl nf env J fun gl nf env J=>bU fo d r (key+16) gl nf env J k
def inGl(gl:GL)(k:Nat):Bool:=gl.any fun e=>Nat.beq e.1 k
def clean(gl:GL):XEnv U->XEnv U
 | []=>[]
 | (k,v)::r=>match inGl gl k with
  | true=>clean gl r
  | false=>(k,v)::clean gl r
def ed(gl:GL)(env:XEnv U):XEnv U:=
 match gl with
 | []=>env
 | _=>clean gl env
structure RS (key:Nat) (gl:GL) (nf:NF) (env:XEnv U) (J:XSt U) (env1:Env) (J1:Store) (G:Nat->Bool):Prop where
 er:ER key J G env env1
 hg:HG gl env G
 sr:SR key J J1
 hn:∀g,g∈nf->GdV env G (some g)=false
section
variable {P:Program} {kk key:Nat} {J J':XSt U} {J1 J1':Store} {env:XEnv U} {env1:Env} {G:Nat->Bool} {gl:GL} {gd:Option (Nat×Bool)} {nf:NF} {dst:Option Nat} {v:XV U} {v1:V}
theorem gY{d:Option Nat}{v:XV U}{env:XEnv U}{k:Nat}:lk (xbind d v env) k=if d=some k then some v else lk env k:=by
 cases d with
 | none=>simp[xbind]
 | some d=>
  simp only[xbind,lk];cases h:Nat.beq d k with
  | true=>rw[af h];simp
  | false=>
   have:=aL h;simp[this]
theorem fF{o:Option (Nat×Bool)}{g:Bool}(h:gval gl env fuelG o=some g):o=none\/∃t b y,o=some (t,b)/\bval env t b=some y:=by
 cases o with
 | none=>exact .inl rfl
 | some x=>
  obtain⟨t,b⟩:=x;obtain⟨y,hy⟩:=pw h
  grind
theorem kx(hg:HG gl env G)(hn:∀g,g∈nf->GdV env G (some g)=false):∀{fu:Nat} {gd:Option (Nat×Bool)},isF nf gl fu gd=true->GdV env G gd=false
 | 0,gd,h=>by simp[isF]at h
 | fu+1,none,h=>by simp[isF]at h
 | fu+1,some (t,b),h=>by
  simp only[isF,Bool.or_eq_true,List.any_eq_true,Bool.and_eq_true,beq_iff_eq]at h;rcases h with⟨⟨t',b'⟩,hm,h1,h2⟩ | h
  . have:=af h1
    grind
  . have:=kx hg hn h;rw[hg.lk t]at this;simp[GdV,this]
theorem RS.bind (he : ER key J' G env env1) (hg : HG gl env G) (hS : SR key J' J1') (hn : ∀ g, g ∈ nf -> GdV env G (some g) = false) (hv : VR key J' v v1) (hd : gd = none \/ ∃ t b y, gd = some (t, b) /\ bval env t b = some y) (hf : bI gl gd dst = true) (hfn : ba nf dst = true):
 RS key (glAdd gl gd dst) nf (xbind dst v env) J' (aw env1 dst (GdV env G gd) v1) J1' (fun k=>if dst=some k then GdV env G gd else G k):=by
 refine⟨fun k w hk=>?_,?_,hS,fun g hgm=>?_⟩
 . rw[gY]at hk;rw[bQ];split at hk
   . rename_i h;cases hk;rw[if_pos h,if_pos h];exact⟨v1,rfl,hv⟩
   . rename_i h;rw[if_neg h,if_neg h];exact he k w hk
 . cases dst with
   | none=>
    have:glAdd gl gd none=gl:=by cases gd <;> rfl
    rw[this];simp only[xbind,reduceCtorEq,if_false];exact hg
   | some d=>
    simp only[bI,Bool.and_eq_true,List.all_eq_true,Bool.not_eq_true']at hf;have hfresh:∀k t b,lk gl k=some (t,b)->k≠d/\t≠d:=by
     intro k t b hk;have hm:∀{l:GL},lk l k=some (t,b)->(k,t,b)∈l:=by
      intro l
      induction l with
      | nil=>intro h;simp[lk]at h
      | cons e r ih=>
       obtain⟨k',e⟩:=e;intro h;simp only[lk]at h;split at h
       . simp_all
       grind
     have:=hf.1 _ (hm hk);exact⟨aL this.1,aL this.2⟩
    have hbv:∀t b,t≠d->bval (xbind (some d) v env) t b=bval env t b:=by
     intro t b ht;unfold bval;rw[gY,if_neg (by simp;exact fun e=>ht e.symm)]
    have old:∀k t b,lk gl k=some (t,b)->∃y,bval (xbind (some d) v env) t b=some y/\(if some d=some k then GdV env G gd else G k)=((if some d=some t then GdV env G gd else G t) && y):=by
     intro k t b hk;obtain⟨h1,h2⟩:=hfresh k t b hk;obtain⟨y,h3,h4⟩:=hg.held k t b hk
     grind
    cases gd with
    | none=>
     refine⟨fun k hk=>?_,fun k t b hk=>old k t b hk⟩;by_cases hdk:some d=some k
     . rw[if_pos hdk];rfl
     . rw[if_neg hdk];exact hg.free k hk
    | some g=>
     obtain⟨t0,b0⟩:=g;have ht0:t0≠d:=by
      have:=hf.2;simp only[Bool.not_eq_true']at this;exact aL this
     refine⟨fun k hk=>?_,fun k t b hk=>?_⟩
     . simp only[glAdd,lk]at hk;split at hk
       . cases hk
       . rename_i hb;rw[if_neg (by simp;exact aL hb)];exact hg.free k hk
     . simp only[glAdd,lk]at hk;split at hk
       . rename_i hb;cases hk;have:=af hb;subst this;rcases hd with h | ⟨t,b,y,h,hy⟩
         . cases h
         . cases h;refine⟨y,by rw[hbv _ _ ht0];exact hy,?_⟩;rw[if_pos rfl,if_neg (by simp;exact fun e=>ht0 e.symm)];simp[GdV,hy]
       . exact old k t b hk
 . obtain⟨t,b⟩:=g;have h0:=hn _ hgm;cases dst with
   | none=>simpa[xbind]using h0
   | some d=>
    simp only[ba,List.all_eq_true,Bool.not_eq_true']at hfn;have htd:t≠d:=aL (hfn _ hgm);simp only[GdV]at h0 ⊢;rw[if_neg (by simp;exact fun e=>htd e.symm)];have:bval (xbind (some d) v env) t b=bval env t b:=by
     unfold bval;rw[gY,if_neg (by simp;exact fun e=>htd e.symm)]
    rw[this];exact h0
theorem h9{N:Nat}{J:XSt U}:VR N J xskip (.c (.t (.bool false))):= .c (.t (U:=U) ⟨.bool,false⟩)
theorem fg {o : AOper} (h : RS key gl nf env J env1 J1 G) (hdef : o.guard = none \/ ∃ t b y, o.guard = some (t, b) /\ bval env t b = some y) (hg : GdV env G o.guard = false) (hf : bI gl o.guard o.dst = true) (hfn : ba nf o.dst = true) {v : XV U} {v1 : V} (hv : VR (key + 16) J v v1):
 DStep xb P o key env1 J1 false v1 J1/\RS (key+16) (glAdd gl o.guard o.dst) nf (xbind o.dst v env) J (aw env1 o.dst false v1) J1 (fun k=>if o.dst=some k then false else G k):=by
 have hag:=fb h.er hdef;rw[hg]at hag;refine⟨.skip hag rfl,?_⟩;have:=RS.bind (dst:=o.dst) (h.er.mono (Keep.more (by omega))) h.hg (h.sr.mono (Nat.le_add_right key 16)) h.hn hv hdef hf hfn;rw[hg]at this;exact this
theorem lg {o : AOper} {c : Bool} (h : RS key gl nf env J env1 J1 G) (hx : xval gl o.guard env J key o.op = some (c, v, J')) (hdef : o.guard = none \/ ∃ t b y, o.guard = some (t, b) /\ bval env t b = some y) (hf : bI gl o.guard o.dst = true) (hfn : ba nf o.dst = true):
 (GdV env G o.guard=true->c=true->∃v1 J1',DStep xb P o key env1 J1 true v1 J1'/\RS (key+16) (glAdd gl o.guard o.dst) nf (xbind o.dst v env) J' (aw env1 o.dst true v1) J1' (fun k=>if o.dst=some k then true else G k))/\
 (GdV env G o.guard=false->o.op.neutral=true->∃v1,DStep xb P o key env1 J1 false v1 J1/\RS (key+16) (glAdd gl o.guard o.dst) nf (xbind o.dst v env) J (aw env1 o.dst false v1) J1 (fun k=>if o.dst=some k then false else G k)):=by
 obtain⟨⟨v1,hv,ha⟩,hk,hn⟩:=jU h.er h.hg h.sr hx;have hag:=fb h.er hdef;refine⟨fun hg hc=>?_,fun hg hneu=>?_⟩
 . obtain⟨p,J1',h1,h2,h3⟩:=ha hg hc;rw[hg]at hag;have hd:o.op.drawn=true:=by
    generalize o.op=oo at hx;cases oo <;> first | rfl | (simp[xval]at hx)
   have hs:DStep xb P o key env1 J1 true v1 (if o.op.neutral then J1 else J1'):= .op hag hd h1 (fun _=>h2) (.inr rfl);have e:(if o.op.neutral=true then J1 else J1')=J1':=by
    split
    . rename_i hneu;exact(dC hneu h1).symm
    . rfl
   rw[e]at hs;refine⟨v1,J1',hs,?_⟩;have:=RS.bind (dst:=o.dst) (h.er.mono hk) h.hg h3 h.hn hv hdef hf hfn;rw[hg]at this;exact this
 . rw[hn hneu]at hv;obtain⟨h1,h2⟩:=fg (P:=P) h hdef hg hf hfn hv;exact⟨v1,h1,h2⟩
theorem ky{x:XC U}(h:x.solid=true):x.conc.ren []=x.conc:=by
 cases x <;> simp[XC.solid]at h <;> try rfl
 rename_i f caps;cases caps with
 | nil=>rfl
 | cons=>simp[XC.solid]at h
theorem gZ :∀{x:XV U},aC x=true->(concV x).ren []=concV x
 | .c x,h=>by simp only[aC]at h;simp only[concV,V.ren,ky h]
 | .agg cs,h=>by
  simp only[aC,List.all_eq_true]at h;simp only[concV,V.ren,List.map_map]
  congr 1
  exact List.map_congr_left fun c hc=>ky (h c hc)
 | .tup vs,h=>by
  simp only[aC]at h;simp only[concV,V.ren];rw[go vs h]
where go:∀(vs:List (XV U)),aC.go vs=true->V.ren.go [] (concV.go vs)=concV.go vs
 | [],_=>rfl
 | v::vs,h=>by
  simp only[aC.go,Bool.and_eq_true]at h;simp only[concV.go,V.ren.go,gZ h.1,go vs h.2]
def FoSnd(P:Program)(fo:Fo U):Prop:=∀f s,s∈fo f->s.f=f/\aT P f=true/\FSnd P s
theorem g6{N:Nat}{J0:XSt U}{x:XC U}{d:C}(h:CR N J0 x d)(hs:x.solid2 J0=true):d=x.conc2 J0:=by
 cases h <;> simp only[XC.solid2,Bool.false_eq_true]at hs <;> try rfl
 . rename_i b sz n hb hh;simp only[XC.conc2]
   grind
 . rename_i b n hb hh;simp only[XC.conc2]
   grind
theorem eF{J0:XSt U}:∀{vs:List (XV U)} {i:Nat},(aK.go J0 vs)[i]?=(vs[i]?).map (aK J0)
 | [],i=>by simp[aK.go]
 | v::vs,0=>by simp[aK.go]
 | v::vs,i+1=>by simp[aK.go,eF]
theorem iS{J0:XSt U}:∀{vs:List (XV U)} {i:Nat} {v:XV U},aU.go J0 vs=true->vs[i]?=some v->aU J0 v=true
 | [],i,v,_,h=>by simp at h
 | x::vs,0,v,hs,h=>by simp[aU.go]at hs;simp at h;subst h;exact hs.1
 | x::vs,i+1,v,hs,h=>by simp[aU.go]at hs;exact iS hs.2 (by simpa using h)
theorem gK{N:Nat}{J0:XSt U}:∀{xs:List (XC U)} {ds:List C},All2 (CR N J0) xs ds->(∀x,x∈xs->x.solid2 J0=true)->ds=xs.map (XC.conc2 J0)
 | [],[],_,_=>rfl
 | x::xs,d::ds,.cons h1 h2,hs=>by
  rw[List.map_cons,<-g6 h1 (hs x (by simp)),<-gK h2 (fun x hx=>hs x (by simp[hx]))]
theorem kP{N:Nat}{J0:XSt U}{x:XV U}{d:V}(h:VR N J0 x d):aU J0 x=true->d=aK J0 x:=by
 induction h with
 | c h=>intro hs;simp only[aU]at hs;rw[g6 h hs];rfl
 | agg h=>
  intro hs;simp only[aU,List.all_eq_true]at hs;simp only[aK];rw[gK h hs]
 | tup xs ds hl h ih=>
  intro hs;simp only[aU]at hs;simp only[aK]
  congr 1
  apply List.ext_getElem?;intro i;rw[eF];cases hx:xs[i]? with
  | none=>grind
  | some x=>
   have hi:=(List.getElem?_eq_some_iff.1 hx).1;have hd:=List.getElem?_eq_getElem (l:=ds) (i:=i) (by omega);rw[hd,Option.map_some]
   congr 1
   exact ih i x _ hx hd (iS hs hx)
theorem lh{N:Nat}{J0:XSt U}{x:XB U}{y:Blk}(h:BR N J0 x y)(hs:aE J0 x=true):y=concB J0 x:=by
 cases h with
 | box h=>simp only[aE,List.all_eq_true]at hs;simp only[concB];rw[gK h hs]
 | arr t l=>rfl
 | set ks=>rfl
 | buf E s=>rfl
 | bld h=>simp only[aE]at hs;simp only[concB];rw[g6 h hs]
 | arro=>simp[aE]at hs
 | rows=>simp[aE]at hs
theorem dO{J0:XSt U}:∀{l:XSt U} {b:Nat},sget (concS J0 l) b=(lk l b).map (concB J0)
 | [],b=>rfl
 | (k,x)::r,b=>by
  simp only[concS,sget,lk];cases h:Nat.beq k b with
  | true=>rw[if_pos (af h)];rfl
  | false=>rw[if_neg (aL h)];exact dO
theorem mb_sh{k:Nat}{c:C}:c.mb (back [] k)=c.sh k:=by rfl
theorem lA{k:Nat}:∀{v:V},v.mb (back [] k)=v.sh k
 | .c x=>by simp only[V.mb,V.sh,mb_sh]
 | .agg cs=>by rfl
 | .tup vs=>by simp only[V.mb,V.sh];rw[go vs]
where go:∀(vs:List V),V.mb.go (back [] k) vs=V.sh.go k vs
 | []=>rfl
 | v::vs=>by simp only[V.mb.go,V.sh.go];rw[lA,go vs]
theorem j3{k:Nat}{J1:Store}:∀{s:Store},aI J1 [] (back [] k) s=adopt J1 k s
 | []=>rfl
 | (b,x)::r=>by
  simp only[aI,adopt];rw[j3];rfl
theorem fB :∀{ss:List SB} {j:Nat} {a:Cs U} {i:Nat} {x:XB U},lk (filS j ss a) i=some x->j<=i/\i < j+ss.length
 | [],j,a,i,x,h=>by simp[filS,lk]at h
 | s::ss,j,a,i,x,h=>by
  simp only[filS]at h;split at h
  . simp only[lk]at h;split at h
    . simp_all
    . have:=fB h;simp;omega
  . have:=fB h;simp;omega
theorem jA{bs:List Nat}:∀{caps:List Nat},(∀c,c∈caps->pos bs c=some c)->bF bs caps=some caps
 | [],_=>rfl
 | c::cs,h=>by simp only[bF,h c (by simp),jA (caps:=cs) (fun x hx=>h x (by simp[hx]))]
theorem da{N:Nat}{J0:XSt U}(hb:∀b x,lk J0 b=some x->b < N){x:XC U}(hs:x.solid2 J0=true):CR N J0 x (x.conc2 J0)/\CSub ((x.conc2 J0).ren (List.range N)) (x.conc2 J0):=by
 have hp:∀b,hasB J0 b=true->pos (List.range N) b=some b:=by
  intro b h;unfold hasB at h;split at h
  . rename_i y hy;exact br List.nodup_range (by simp[hb b y hy])
  . cases h
 cases x with
 | t c=>exact⟨.t c,CSub.refl _⟩
 | ptr b o=>
  simp only[XC.solid2]at hs;refine⟨.ptr b o,?_⟩;simp only[XC.conc2,C.ren,hp b hs];exact CSub.refl _
 | eptr b ty i o=>
  simp only[XC.solid2]at hs;refine⟨.eptr b ty i o,?_⟩;simp only[XC.conc2,C.ren,hp b hs];exact CSub.refl _
 | iptr ty x o=>exact⟨.iptr ty x o,CSub.refl _⟩
 | arr b=>
  simp only[XC.solid2]at hs;split at hs
  . rename_i y hy;split at hs
    . rename_i p hd;simp only[XC.conc2,hy,hd];refine⟨.arr b p.1 p.2 (hb b y hy) fun z hz q hq=>?_,?_⟩
      . grind
      . simp only[C.ren,hp b (by simp[hasB,hy])];exact CSub.refl _
    . cases hs
  . cases hs
 | suf b lo len=>simp[XC.solid2]at hs
 | sub b lo len=>simp[XC.solid2]at hs
 | pre b h=>simp[XC.solid2]at hs
 | mp b=>
  simp only[XC.solid2]at hs;refine⟨.mp b,?_⟩;simp only[XC.conc2,C.ren,hp b hs];exact CSub.refl _
 | sptr b=>simp[XC.solid2]at hs
 | bufc b=>
  simp only[XC.solid2]at hs;split at hs
  . rename_i y hy;split at hs
    . rename_i p hd;simp only[XC.conc2,hy,hd];refine⟨.bufc b p.2 (hb b y hy) fun z hz q hq=>?_,?_⟩
      . rw[hy]at hz;cases hz;rw[hd]at hq;cases hq;have:=af hs
        grind
      . simp only[C.ren,hp b (by simp[hasB,hy])];exact CSub.refl _
    . cases hs
  . cases hs
 | cap0=>exact⟨.cap0,CSub.refl _⟩
 | nilp=>exact⟨.nilp,CSub.refl _⟩
 | nilfn=>exact⟨.nilfn,CSub.refl _⟩
 | fn f caps=>
  simp only[XC.solid2,List.all_eq_true]at hs;refine⟨.fn f caps,?_⟩;have:bF (List.range N) caps=some caps:=jA fun c hc=>hp c (hs c hc)
  simp only[XC.conc2,C.ren,this];exact CSub.refl _
 | dead=>simp[XC.solid2]at hs
theorem cZ{N:Nat}{J0:XSt U}(hb:∀b x,lk J0 b=some x->b < N):∀{xs:List (XC U)},(∀x,x∈xs->x.solid2 J0=true)->All2 (CR N J0) xs (xs.map (XC.conc2 J0))/\All2 CSub ((xs.map (XC.conc2 J0)).map (C.ren (List.range N))) (xs.map (XC.conc2 J0))
 | [],_=>⟨.nil,.nil⟩
 | x::xs,hs=>by
  obtain⟨h1,h2⟩:=da hb (hs x (by simp));obtain⟨h3,h4⟩:=cZ hb (xs:=xs) (fun x hx=>hs x (by simp[hx]));exact⟨.cons h1 h3,.cons h2 h4⟩
theorem iD{J0:XSt U}:∀{vs:List (XV U)},(aK.go J0 vs).length=vs.length
 | []=>rfl
 | v::vs=>by simp[aK.go,iD]
theorem d4{N:Nat}{J0:XSt U}(hb:∀b x,lk J0 b=some x->b < N):∀{x:XV U},aU J0 x=true->VR N J0 x (aK J0 x)/\VSub ((aK J0 x).ren (List.range N)) (aK J0 x)
 | .c x,hs=>by
  obtain⟨h1,h2⟩:=da hb (x:=x) (by simpa[aU]using hs);exact⟨.c h1,.c h2⟩
 | .agg cs,hs=>by
  simp only[aU,List.all_eq_true]at hs;obtain⟨h1,h2⟩:=cZ hb hs;exact⟨.agg h1,.agg h2⟩
 | .tup vs,hs=>by
  simp only[aU]at hs;have:=go hb vs hs;refine⟨.tup _ _ (by rw[iD]) fun i x d hx hd=>?_,.tup _ _ (by rw[eE]) fun i x y hx hy=>?_⟩
  . rw[eF,hx]at hd
    grind
  . rw[eV,hy]at hx;simp at hx;subst hx;rw[eF,oZ1]at hy
    grind
where go {N:Nat} {J0:XSt U} (hb:∀b x,lk J0 b=some x->b < N):∀(vs:List (XV U)),aU.go J0 vs=true->∀x,x∈vs->VR N J0 x (aK J0 x)/\VSub ((aK J0 x).ren (List.range N)) (aK J0 x)
 | [],_=>by simp
 | v::vs,hs=>by
  simp only[aU.go,Bool.and_eq_true]at hs;have h1:=d4 hb hs.1;have h2:=go hb vs hs.2;intro x hx;rcases List.mem_cons.1 hx with rfl | hx
  . exact h1
  . exact h2 x hx
theorem jB {fo : Fo U} (hfo : FoSnd P fo) {o : AOper} {f : Nat} {args : List AO} (ho : o.op = .call f args) (h : RS key gl nf env J env1 J1 G) (hgn : o.guard = none) (hf : bI gl o.guard o.dst = true) (hfn : ba nf o.dst = true)
 {k:XSt U->XV U->Option R} {r:R}:∀{ss:List (FSpec U)},(∀s,s∈ss->s∈fo f)->eb (fun e=>xops' gl o.guard e args) env J key k ss=some r->
 ∃v v1 J' J1',k J' v=some r/\DStep xb P o key env1 J1 true v1 J1'/\RS (key+16) (glAdd gl o.guard o.dst) nf (xbind o.dst v env) J' (aw env1 o.dst true v1) J1' (fun i=>if o.dst=some i then true else G i)
 | [],_,hx=>by simp[eb]at hx
 | s::ss,hm,hx=>by
  simp only[eb]at hx;split at hx
  . exact jB hfo ho h hgn hf hfn (fun s hs=>hm s (by simp[hs])) hx
  . rename_i hh hp;unfold prepD at hp;split at hp
    . rename_i vs hnil hvs;simp only[Bool.and_eq_true]at hnil;split at hp
      . rename_i a hsolid ha;rw[List.all_eq_true]at hsolid;obtain⟨hsf,hbody,hsnd⟩:=hfo f s (hm s (by simp));obtain⟨p,vs1,b1,b2,b3⟩:=cr h.er h.hg hvs;have hst:s.st=[]:=by cases hst:s.st with | nil=>rfl | cons=>rw[hst]at hnil;simp[isNil]at hnil
        have hM:=aN hnil.2;obtain⟨res,hres,hk⟩:=Option.bind_eq_some_iff.1 hx;split at hk
        . rename_i hsol;simp only[Bool.and_eq_true]at hsol;obtain⟨ys,f1,hl,g1⟩:=chkVs_sound (N:=key) (Jc:=([]:XSt U)) (List.nodup_nil) (fun j b x' hj=>by simp at hj) ha
          obtain⟨ds',e1,e2,e3⟩:=g1 vs1 b2.length (fun i x d hx hd=>by
           obtain⟨d',h1,h2⟩:=b2.get hx
           rw[hd]at h1;cases h1;exact h2)
          have hcell:Hs.cells U.D s.ts hh=a:=Hs.dec_cells hp;have hargs:s.args hh=ys:=by
           unfold FSpec.args;rw[hcell];have:=f1 []
           grind
          have hast:s.ast hh=[]:=by unfold FSpec.ast;rw[hst];rfl
          have hkn:s.st.length=0:=by rw[hst];rfl
          have hcon:=hsnd hh res hres ds' [] (by
           rw[hargs,hast,hkn]
           refine All2.of_get (by rw[hl,e1,b2.length]) fun i x d hx hd=>e3 i x d hx hd) (by rw[hast];intro b x hx;simp[lk]at hx)
          rw[hsf,hkn]at hcon;have hsub:All2 VSub vs1 ds':=by
           refine All2.of_get e1.symm fun i d d' hd hd'=>?_
           have hvs:=e2 i d d' hd hd';obtain⟨x,hx,hr⟩:=(b2.flip (R':=fun d x=>VR key J x d) fun _ _ h=>h).get hd;have hs:=hsolid x (List.mem_of_getElem? hx);have:=dZ hr hs;subst this;rw[gZ hs]at hvs;exact hvs
          have hcon2:=Con.conv hsub (J:=[]) (fun b x' hx=>by simp[sget]at hx) hcon
          have hsS:∀b x,lk (s.rest res) b=some x->b < 16/\aE (s.rest res) x=true:=by
           intro b x hx;have hm':∀{l:XSt U},lk l b=some x->(b,x)∈l:=by
            intro l
            induction l with
            | nil=>intro h;simp[lk]at h
            | cons e r ih=>
             obtain⟨k',e⟩:=e;intro h;simp only[lk]at h;split at h
             . simp_all
             grind
           have:=hsol.2;unfold ik at this;rw[List.all_eq_true]at this;have h2:=this _ (hm' hx);simp only[Bool.and_eq_true]at h2;exact⟨by have:=aN h2.1;omega,h2.2⟩
          have hbound:∀b x,lk (s.rest res) b=some x->b < s.rst.length:=by
           intro b x hx;have:=(fB hx).2;omega
          have hcon3:Con P f vs1 [] 0 (fun r' s' M'=>r'=aK (s.rest res) (s.res res)/\s'=concS (s.rest res) (s.rest res)/\M'=s.rst.length):=by
           refine Con.tidy hcon2 ?_
           rintro r1 s1 N1 ⟨rfl,q1,q2⟩
           have hr1:=kP q1 hsol.1;subst hr1;refine⟨List.range s.rst.length,_,_,List.nodup_range,rfl,?_,?_,rfl,rfl,by simp⟩
           . exact(d4 hbound hsol.1).2
           . intro b x hx;rw[dO,oZ1]at hx;obtain⟨x0,hx0,rfl⟩:=hx;obtain⟨h1,y,h2,h3⟩:=q2 b x0 hx0;have hy:=lh h3 (hsS b x0 hx0).2;subst hy;have ht:=dG (bs:=List.range s.rst.length) (i:=0) (j:=b) (r:=List.range s.rst.length) (by simp[h1]) h2;rw[Nat.zero_add]at ht;refine⟨_,ht,?_⟩;cases x0 with
             | box cs=>
              have hsb:=(hsS b _ hx0).2;simp only[aE,List.all_eq_true]at hsb;exact .box (cZ hbound hsb).2
             | arr ty l=>exact .arr
             | rows sz l=>have hsb:=(hsS b _ hx0).2;simp[aE]at hsb
             | set ks=>exact .same
             | buf E s=>exact .same
             | bld E c=>have hsb:=(hsS b _ hx0).2;exact .bld (da hbound (by simpa[aE]using hsb)).2
             | arro=>have hsb:=(hsS b _ hx0).2;simp[aE]at hsb
          have hbnd:V.bnd.V.bnds (lt 0) vs1=true:=by
           refine ck fun i d hd=>?_
           obtain⟨x,hx,hr⟩:=(b2.flip (R':=fun d x=>VR key J x d) fun _ _ h=>h).get hd;have hs:=hsolid x (List.mem_of_getElem? hx);have:=dZ hr hs;subst this;exact(c9 (N:=key) (J:=J) hs).2 _
          have hg:aG env1 o.guard=some true:=by rw[hgn];rfl
          have hkeys:(concS (s.rest res) (s.rest res)).all (fun x=>decide (x.1 < 16))=true:=by
           have hh2:=hsol.2;unfold ik at hh2;have:∀{l:XSt U},(l.all fun p=>Nat.ble (p.1+1) 16 && aE (s.rest res) p.2)=true->(concS (s.rest res) l).all (fun x=>decide (x.1 < 16))=true:=by
            intro l
            induction l with
            | nil=>intro _;rfl
            | cons e r ih=>
             obtain⟨b,x⟩:=e;intro h;simp only[List.all_cons,Bool.and_eq_true]at h;simp only[concS,List.all_cons,Bool.and_eq_true,decide_eq_true_eq];exact⟨by have:=aN h.1.1;omega,ih h.2⟩
           grind
          have hcr:VR s.rst.length (s.rest res) (s.res res) (aK (s.rest res) (s.res res))/\SR s.rst.length (s.rest res) (concS (s.rest res) (s.rest res)):=by
           refine⟨(d4 hbound hsol.1).1,fun b x hx=>?_⟩;refine⟨hbound b x hx,concB (s.rest res) x,by rw[dO,hx];rfl,?_⟩;cases x with
           | box cs=>
            have hsb:=(hsS b _ hx).2;simp only[aE,List.all_eq_true]at hsb;exact .box (cZ hbound hsb).1
           | arr ty l=>exact .arr ty l
           | rows sz l=>have hsb:=(hsS b _ hx).2;simp[aE]at hsb
           | set ks=>exact .set ks
           | buf E s=>exact .buf E s
           | bld E c=>have hsb:=(hsS b _ hx).2;exact .bld (da hbound (by simpa[aE]using hsb)).1
           | arro=>have hsb:=(hsS b _ hx).2;simp[aE]at hsb
          have hN:s.rst.length<=([]:List Nat).length+16:=by simpa using hM
          have hS':=SR.give (key:=key) (bs:=[]) List.nodup_nil (by simp) hN h.sr rfl hcr.2;have hV':=VR.mb (key:=key) (bs:=[]) (J:=J) List.nodup_nil (by simp) hN h.sr hcr.1;have hK':=fe (key:=key) (bs:=[]) (Jr:=s.rest res) List.nodup_nil (by simp) h.sr rfl;rw[lA]at hV';rw[j3]at hS'
          refine⟨_,(aK (s.rest res) (s.res res)).sh key,_,adopt J1 key (concS (s.rest res) (s.rest res)),hk,.own ho hg hgn b1 (b3 (by rw[hgn];rfl)) hbnd hM hkeys hcon3 rfl,?_⟩;have:=RS.bind (gd:=o.guard) (dst:=o.dst) (nf:=nf) (h.er.mono hK') h.hg hS' h.hn hV' (.inl hgn) hf hfn;rw[hgn]at this ⊢;exact this
        . cases hk
      . cases hp
    . cases hp
theorem j4 :∀{args:List AO} {p:Prop} {vs1:List V},gets env1 args=some (p,vs1)->argBs env1 args=vs1.flatMap V.blks
 | [],p,vs1,h=>by simp[gets]at h;rw[h.2];rfl
 | x::xs,p,vs1,h=>by
  simp only[gets,oZ2,oZ1,Prod.mk.injEq]at h;obtain⟨⟨p0,v0⟩,h1,⟨p1,vs0⟩,h2,_,rfl⟩:=h;have ih:=j4 (p:=p1) (vs1:=vs0) h2;simp only[argBs,List.flatMap_cons]at ih ⊢;rw[h1,ih]
theorem li{N:Nat}{J0:XSt U}{x:XC U}{d:C}(h:CR N J0 x d):∀b,b∈x.blks->b∈d.blks:=by
 intro b hb;cases h <;> simp only[XC.blks,C.blks]at hb ⊢ <;> first | exact hb | (simp at hb)
theorem kQ{N:Nat}{J0:XSt U}:∀{xs:List (XC U)} {ds:List C},All2 (CR N J0) xs ds->∀b,b∈xs.flatMap XC.blks->b∈ds.flatMap C.blks
 | [],[],_,b,hb=>hb
 | x::xs,d::ds,.cons h1 h2,b,hb=>by
  simp only[List.flatMap_cons,List.mem_append]at hb ⊢;rcases hb with hb | hb
  . exact .inl (li h1 b hb)
  . exact .inr (kQ h2 b hb)
theorem qf{N:Nat}{J0:XSt U}{x:XV U}{d:V}(h:VR N J0 x d):∀b,b∈x.blks->b∈d.blks:=by
 intro b hb;cases h with
 | c h=>exact li h b hb
 | agg h=>exact kQ h b hb
 | tup=>simp[XV.blks]at hb
theorem kR{N:Nat}{J0:XSt U}:∀{xs:List (XV U)} {ds:List V},All2 (VR N J0) xs ds->∀b,b∈xs.flatMap XV.blks->b∈ds.flatMap V.blks
 | [],[],_,b,hb=>hb
 | x::xs,d::ds,.cons h1 h2,b,hb=>by
  simp only[List.flatMap_cons,List.mem_append]at hb ⊢;rcases hb with hb | hb
  . exact .inl (qf h1 b hb)
  . exact .inr (kR h2 b hb)
theorem kS{l:List Nat}{b:Nat}(h:hasN l b=true):b∈l:=by
 simp only[hasN,List.any_eq_true]at h;simp_all
theorem gh {fo : Fo U} (hfo : FoSnd P fo) {o : AOper} {f : Nat} {args : List AO} (ho : o.op = .call f args) (h : RS key gl nf env J env1 J1 G) (hdef : o.guard = none \/ ∃ t b y, o.guard = some (t, b) /\ bval env t b = some y) (hf : bI gl o.guard o.dst = true) (hfn : ba nf o.dst = true)
 (hgt:GdV env G o.guard=true) {k:XSt U->XV U->Option R} {r:R}:∀{ss:List (FSpec U)},(∀s,s∈ss->s∈fo f)->dm xb (fun e=>xops' gl o.guard e args) env J key k ss=some r->
 ∃v v1 J' J1',k J' v=some r/\DStep xb P o key env1 J1 true v1 J1'/\RS (key+16) (glAdd gl o.guard o.dst) nf (xbind o.dst v env) J' (aw env1 o.dst true v1) J1' (fun i=>if o.dst=some i then true else G i)
 | [],_,hx=>by simp[dm]at hx
 | s::ss,hm,hx=>by
  simp only[dm]at hx;split at hx
  . exact gh hfo ho h hdef hf hfn hgt (fun s hs=>hm s (by simp[hs])) hx
  . rename_i bs hh hp;obtain⟨hsf,hbody,hsnd⟩:=hfo f s (hm s (by simp));obtain⟨res,hres,hk⟩:=Option.bind_eq_some_iff.1 hx;unfold prepR at hp;split at hp
    . cases hp
    . rename_i vs hvs;split at hp;rename_i bs0 fz _;split at hp
      . cases hp
      . rename_i hb;simp only[Bool.and_eq_true,List.all_eq_true]at hb;obtain⟨_,hb1,hb2,hb3,hb4,hb5⟩:=hb;split at hp
        . rename_i a b ha hbs;split at hp
          . rename_i hh' hdec;cases hp;have hnd:=dH hb1;have hlt:∀b,b∈bs->b < key:=fun b hb=>aN (hb2 b hb).1
            have hlen:=af hb3;have hle:=aN hb4;have hN:=aN hb5;obtain⟨p,vs1,b1,b2,b3⟩:=cr h.er h.hg hvs;have hcan:=ea hnd hbs;obtain⟨ys,f1,hl,g1⟩:=chkVs_sound (N:=key) hnd hcan ha
            obtain⟨ds',e1,e2,e3⟩:=g1 vs1 b2.length (fun i x d hx hd=>by
             obtain⟨d',h1,h2⟩:=b2.get hx
             grind)
            obtain⟨s1',t1,t2⟩:=fp hnd h.sr hbs;have hcell:Hs.cells U.D s.ts hh=a++b:=Hs.dec_cells hdec;have hargs:s.args hh=ys:=by unfold FSpec.args;rw[hcell,f1]
            have hast:s.ast hh=filS 0 s.st b:=by unfold FSpec.ast;rw[hcell,f1]
            have hcon:=hsnd hh res hres ds' s1' (by
             rw[hargs,hast,<-hlen]
             exact All2.of_get (by rw[hl,e1,b2.length]) fun i x d hx hd=>e3 i x d hx hd) (by rw[hast,<-hlen];exact t2)
            rw[hsf,<-hlen]at hcon;have hsub:All2 VSub (vs1.map (V.ren bs)) ds':=by
             refine All2.of_get (by simp[e1]) fun i d d' hd hd'=>?_
             grind
            have hcon2:=Con.conv hsub t1 hcon
            split at hk
            . rename_i c hsol hc;simp only[Bool.and_eq_true]at hsol;split at hk
              . rename_i hct;subst hct
                have hsS:∀b x,lk (s.rest res) b=some x->aE (s.rest res) x=true:=by
                 intro b x hx;have hm':∀{l:XSt U},lk l b=some x->(b,x)∈l:=by
                  intro l
                  induction l with
                  | nil=>intro h;simp[lk]at h
                  | cons e r ih=>
                   obtain⟨k',e⟩:=e;intro h;simp only[lk]at h;split at h
                   . simp_all
                   grind
                 have:=hsol.2;unfold hY at this
                 grind
                have hbound:∀b x,lk (s.rest res) b=some x->b < s.rst.length:=by
                 intro b x hx;have:=(fB hx).2;omega
                have hcon3:Con P f (vs1.map (V.ren bs)) (aB bs J1 0 bs) bs.length (fun r' s' M'=>r'=aK (s.rest res) (s.res res)/\s'=concS (s.rest res) (s.rest res)/\M'=s.rst.length):=by
                 refine Con.tidy hcon2 ?_
                 rintro r1 s1 N1 ⟨rfl,q1,q2⟩
                 have hr1:=kP q1 hsol.1;subst hr1;refine⟨List.range s.rst.length,_,_,List.nodup_range,?_,?_,?_,rfl,rfl,by simp⟩
                 . unfold keeps
                   grind
                 . exact(d4 hbound hsol.1).2
                 . intro b x hx;rw[dO,oZ1]at hx;obtain⟨x0,hx0,rfl⟩:=hx;obtain⟨h1,y,h2,h3⟩:=q2 b x0 hx0;have hy:=lh h3 (hsS b x0 hx0);subst hy;have ht:=dG (bs:=List.range s.rst.length) (i:=0) (j:=b) (r:=List.range s.rst.length) (by simp[h1]) h2;rw[Nat.zero_add]at ht;refine⟨_,ht,?_⟩;cases x0 with
                   | box cs=>
                    have hsb:=hsS b _ hx0;simp only[aE,List.all_eq_true]at hsb;exact .box (cZ hbound hsb).2
                   | arr ty l=>exact .arr
                   | rows sz l=>have hsb:=hsS b _ hx0;simp[aE]at hsb
                   | set ks=>exact .same
                   | buf E s=>exact .same
                   | bld E c=>have hsb:=hsS b _ hx0;exact .bld (da hbound (by simpa[aE]using hsb)).2
                   | arro=>have hsb:=hsS b _ hx0;simp[aE]at hsb
                have hag:=fb h.er hdef;have hkeys:(concS (s.rest res) (s.rest res)).all (fun x=>decide (x.1 < bs.length+16))=true:=by
                 have hh2:=hsol.2;unfold hY at hh2;have:∀{l:XSt U},(l.all fun p=>Nat.ble (p.1+1) (bs.length+16) && aE (s.rest res) p.2)=true->(concS (s.rest res) l).all (fun x=>decide (x.1 < bs.length+16))=true:=by
                  intro l
                  induction l with
                  | nil=>intro _;rfl
                  | cons e r ih=>
                   obtain⟨b,x⟩:=e;intro h;simp only[List.all_cons,Bool.and_eq_true]at h;simp only[concS,List.all_cons,Bool.and_eq_true,decide_eq_true_eq];exact⟨by have:=aN h.1.1;omega,ih h.2⟩
                 grind
                have hcr:VR s.rst.length (s.rest res) (s.res res) (aK (s.rest res) (s.res res))/\SR s.rst.length (s.rest res) (concS (s.rest res) (s.rest res)):=by
                 refine⟨(d4 hbound hsol.1).1,fun b x hx=>?_⟩;refine⟨hbound b x hx,concB (s.rest res) x,by rw[dO,hx];rfl,?_⟩;cases x with
                 | box cs=>
                  have hsb:=hsS b _ hx;simp only[aE,List.all_eq_true]at hsb;exact .box (cZ hbound hsb).1
                 | arr ty l=>exact .arr ty l
                 | rows sz l=>have hsb:=hsS b _ hx;simp[aE]at hsb
                 | set ks=>exact .set ks
                 | buf E s=>exact .buf E s
                 | bld E c=>have hsb:=hsS b _ hx;exact .bld (da hbound (by simpa[aE]using hsb)).1
                 | arro=>have hsb:=hsS b _ hx;simp[aE]at hsb
                have hS':=SR.give (key:=key) (bs:=bs) hnd hlt hN h.sr hc hcr.2;have hV':=VR.mb (key:=key) (bs:=bs) (J:=J) hnd hlt hN h.sr hcr.1;have hK':=fe (key:=key) (bs:=bs) (Jr:=s.rest res) hnd hlt h.sr hc;have hin:∀b,b∈bs->∃x,sget J1 b=some x:=by
                 intro b hb;have h3:=(hb2 b hb).2.2;unfold hasB at h3;split at h3
                 . rename_i x hx;obtain⟨_,y,hy,_⟩:=h.sr b x hx
                   grind
                 . cases h3
                have hsubs:∀b,b∈bs->b∈argBs env1 args++xb:=by
                 intro b hb;rw[j4 b1];have hq:=(hb2 b hb).2.1;rw[Bool.or_eq_true]at hq;rcases hq with hq | hq
                 . exact List.mem_append_left _ (kR b2 b (kS hq))
                 . exact List.mem_append_right _ (kS hq)
                refine⟨_,(aK (s.rest res) (s.res res)).mb (back bs key),_,_,hk,.raw ho (by rw[hag,hgt]) rfl b1 (b3 hgt) hnd hlt hin hsubs hN hkeys hcon3 rfl,?_⟩;have:=RS.bind (gd:=o.guard) (dst:=o.dst) (nf:=nf) (h.er.mono hK') h.hg hS' h.hn hV' hdef hf hfn;simp_all
              . cases hk
            . cases hk
          . cases hp
        . cases hp
theorem gy {fo : Fo U} (hfo : FoSnd P fo) {o : AOper} {f : Nat} {args : List AO} (ho : o.op = .call f args \/ (o.guard = none /\ ∃ x q, o.op = .callv x args /\ x.get env1 = some (q, .c (.fn f [])) /\ q)) (h : RS key gl nf env J env1 J1 G) (hdef : o.guard = none \/ ∃ t b y, o.guard = some (t, b) /\ bval env t b = some y) (hf : bI gl o.guard o.dst = true) (hfn : ba nf o.dst = true)
 {g:Bool} (hg:g=GdV env G o.guard) {k:XV U->Option R} {r:R}:∀{ss:List (FSpec U)},(∀s,s∈ss->s∈fo f)->xpure (fun e=>xops' gl o.guard e args) env g k ss=some r->
 ∃v v1,k v=some r/\DStep xb P o key env1 J1 g v1 J1/\RS (key+16) (glAdd gl o.guard o.dst) nf (xbind o.dst v env) J (aw env1 o.dst g v1) J1 (fun i=>if o.dst=some i then g else G i)
 | [],_,hx=>by simp[xpure]at hx
 | s::ss,hm,hx=>by
  simp only[xpure]at hx;split at hx
  . exact gy hfo ho h hdef hf hfn hg (fun s hs=>hm s (by simp[hs])) hx
  . rename_i hh hp;unfold prepP at hp;split at hp
    . rename_i vs hnil hvs;simp only[Bool.and_eq_true]at hnil;split at hp
      . rename_i a hsolid ha;rw[List.all_eq_true]at hsolid;obtain⟨hsf,hbody,hsnd⟩:=hfo f s (hm s (by simp));obtain⟨p,vs1,b1,b2,b3⟩:=cr h.er h.hg hvs;have hst:s.st=[]:=by cases hst:s.st with | nil=>rfl | cons=>rw[hst]at hnil;simp[isNil]at hnil
        have hrst:s.rst=[]:=by cases hst:s.rst with | nil=>rfl | cons=>rw[hst]at hnil;simp[isNil]at hnil
        obtain⟨res,hres,hk⟩:=Option.bind_eq_some_iff.1 hx;split at hk
        . rename_i hsol;obtain⟨hv1,hvb⟩:=c9 (N:=key+16) (J:=J) hsol;have hag:=fb h.er hdef;rw[<-hg]at hag;have hRS:RS (key+16) (glAdd gl o.guard o.dst) nf (xbind o.dst (s.res res) env) J (aw env1 o.dst g (concV (s.res res))) J1 (fun i=>if o.dst=some i then g else G i):=by
           have:=RS.bind (dst:=o.dst) (h.er.mono (Keep.more (by omega:key<=key+16))) h.hg (h.sr.mono (Nat.le_add_right key 16)) h.hn hv1 hdef hf hfn
           grind
          refine⟨s.res res,concV (s.res res),hk,?_,hRS⟩;have hgoal:g=true->p/\V.bnd.V.bnds (lt 0) vs1=true/\(concV (s.res res)).bnd (lt 0)=true/\Con P f vs1 [] 0 (fun r' _ _=>r'=concV (s.res res)):=?_
          . rcases ho with ho | ⟨hgn,x,q,ho,hx,hq⟩
            . exact .call ho hag b1 hgoal
            . have hgt:g=true:=by rw[hg,hgn];rfl
              exact .callv ho hgn hgt hx hq hbody b1 (hgoal hgt)
          intro hgt;rw[if_pos hgt]at hres
          obtain⟨ys,f1,hl,g1⟩:=chkVs_sound (N:=key) (Jc:=([]:XSt U)) (List.nodup_nil) (fun j b x' hj=>by simp at hj) ha
          obtain⟨ds',e1,e2,e3⟩:=g1 vs1 b2.length (fun i x d hx hd=>by
           obtain⟨d',h1,h2⟩:=b2.get hx
           rw[hd]at h1;cases h1;exact h2)
          have hcell:Hs.cells U.D s.ts hh=a:=Hs.dec_cells hp;have hargs:s.args hh=ys:=by
           unfold FSpec.args;rw[hcell];have:=f1 []
           grind
          have hast:s.ast hh=[]:=by unfold FSpec.ast;rw[hst];rfl
          have hkn:s.st.length=0:=by rw[hst];rfl
          have hcon:=hsnd hh res hres ds' [] (by
           rw[hargs,hast,hkn]
           refine All2.of_get (by rw[hl,e1,b2.length]) fun i x d hx hd=>e3 i x d hx hd) (by rw[hast];intro b x hx;simp[lk]at hx)
          rw[hsf,hkn]at hcon;have hsub:All2 VSub vs1 ds':=by
           refine All2.of_get e1.symm fun i d d' hd hd'=>?_
           have hvs:=e2 i d d' hd hd';obtain⟨x,hx,hr⟩:=(b2.flip (R':=fun d x=>VR key J x d) fun _ _ h=>h).get hd
           exact noblk (hsolid x (List.mem_of_getElem? hx)) hvs hr
          refine⟨b3 (by rw[<-hg];exact hgt),?_,hvb _,?_⟩
          . refine ck fun i d hd=>?_
            obtain⟨x,hx,hr⟩:=(b2.flip (R':=fun d x=>VR key J x d) fun _ _ h=>h).get hd;exact noblk_bnd (hsolid x (List.mem_of_getElem? hx)) hr
          . refine Con.conv hsub (fun b x' hx=>by simp[sget]at hx) (hcon.mono fun r1 J1' N' hh'=>?_)
            exact dZ hh'.2.1 hsol
        . cases hk
      . cases hp
    . cases hp
where
 noblk {x:XV U} {d d':V} (hs:aC x=true) (hvs:VSub (d.ren []) d') (hr:VR key J x d):VSub d d':=by
  have:=dZ hr hs;subst this;rw[gZ hs]at hvs;exact hvs
 noblk_bnd {x:XV U} {d:V} (hs:aC x=true) (hr:VR key J x d):d.bnd (lt 0)=true:=by
  have:=dZ hr hs;subst this;exact(c9 (N:=key) (J:=J) hs).2 _
theorem eY {fo : Fo U} (hfo : FoSnd P fo) {f : Nat} {getv : Getv U} {cal : Env -> List V -> Prop}
 (hgetv:∀{env':XEnv U} {J2:XSt U} {env1':Env} {vs:List (XV U)},ER key J2 G env' env1'->HG gl env' G->getv env'=some vs->∃vs1,All2 (VR key J2) vs vs1/\cal env1' vs1)
 (he:ER key J G env env1) (hg:HG gl env G) (hS:SR key J J1) {k:XEnv U->XSt U->XV U->Option R} {r:R}:∀{ss:List (FSpec U)},(∀s,s∈ss->s∈fo f)->xraw getv env J key k ss=some r->
 ∃env' J2 env1' J1' vs1,Conv kk key env1 J1 key env1' J1'/\ER key J2 G env' env1'/\HG gl env' G/\(∀t b,bval env' t b=bval env t b)/\cal env1' vs1/\aT P f=true/\
  lz P f vs1 J1' key env1' (fun r1 s1=>∃J3 v,k env' J3 v=some r/\ER (key+16) J3 G env' env1'/\SR (key+16) J3 s1/\VR (key+16) J3 v r1)
 | [],_,hx=>by simp[xraw]at hx
 | s::ss,hm,hx=>by
  simp only[xraw]at hx;split at hx
  . exact eY hfo hgetv he hg hS (fun s hs=>hm s (by simp[hs])) hx
  . rename_i env' J2 bs h hp;obtain⟨hsf,hbody,hsnd⟩:=hfo f s (hm s (by simp));obtain⟨res,hres,hk⟩:=Option.bind_eq_some_iff.1 hx;unfold prep at hp;split at hp
    . cases hp
    . rename_i vs0 _;split at hp;rename_i bs0 fz _;split at hp
      . cases hp
      . rename_i env2 J22 hfz;split at hp
        . cases hp
        . rename_i vs hvs;split at hp
          . cases hp
          . rename_i hb;simp only[Bool.and_eq_true,List.all_eq_true]at hb;obtain⟨hb1,hb2,hb3,hb4⟩:=hb;split at hp
            . rename_i a b ha hbs;split at hp
              . rename_i hh hdec;cases hp;have hnd:=dH hb1;have hlt:∀b,b∈bs->b < key:=fun b hb=>aN (hb2 b hb)
                have hlen:=af hb3;have hrl:=aN hb4;obtain⟨env1',J1',hconv,he',hS',hg'⟩:=dS (kk:=kk) (gl:=gl) hfz he hS;obtain⟨vs1,b2,hcal⟩:=hgetv he' (hg' hg) hvs;have hcan:=ea hnd hbs;obtain⟨ys,f1,hl,g1⟩:=chkVs_sound (N:=key) hnd hcan ha
                obtain⟨ds',e1,e2,e3⟩:=g1 vs1 b2.length (fun i x d hx hd=>by
                 obtain⟨d',h1,h2⟩:=b2.get hx
                 grind)
                obtain⟨s1',t1,t2⟩:=fp hnd hS' hbs;have hcell:Hs.cells U.D s.ts h=a++b:=Hs.dec_cells hdec;have hargs:s.args h=ys:=by unfold FSpec.args;rw[hcell,f1]
                have hast:s.ast h=filS 0 s.st b:=by unfold FSpec.ast;rw[hcell,f1]
                have hcon:=hsnd h res hres ds' s1' (by
                 rw[hargs,hast,<-hlen]
                 exact All2.of_get (by rw[hl,e1,b2.length]) fun i x d hx hd=>e3 i x d hx hd) (by rw[hast,<-hlen];exact t2)
                rw[hsf,<-hlen]at hcon;have hsub:All2 VSub (vs1.map (V.ren bs)) ds':=by
                 refine All2.of_get (by simp[e1]) fun i d d' hd hd'=>?_
                 grind
                have hcon2:=Con.conv hsub t1 hcon
                split at hk
                . cases hk
                . rename_i c hc;split at hk
                  . rename_i hct;subst hct;have hN:s.rst.length<=bs.length+16:=hrl;refine⟨env',J2,env1',J1',vs1,hconv,he',hg' hg,fun t b=>bval_fz hfz,hcal,hbody,?_⟩;intro Γ nt φ S a w R hbn vv hvv
                    refine(ACall.raw (n:=lt key) (key:=key) hnd hlt hcon2 (K:=fun r1 s1=>∃J3 v,k env' J3 v=some r/\ER (key+16) J3 G env' env1'/\SR (key+16) J3 s1/\VR (key+16) J3 v r1) ?_ (fun b hb=>by simp[lt];exact hlt b hb) Γ nt φ S env1' a w R (fun b h1 _=>gW h1) hbn vv hvv)
                    rintro r1 s1 N' ⟨rfl,q1,q2⟩
                    refine⟨hN,_,_,hk,he'.mono (fe hnd hlt hS' hc),SR.give hnd hlt hN hS' hc q2,VR.mb hnd hlt hN hS' q1⟩
                  . cases hk
              . cases hp
            . cases hp
where
 bval_key {env:XEnv U} {b0:Nat} {ty:Ty} {l:List (ty.den U.D)} {t:Nat} {b:Bool}:bval (xfrzE b0 (⟨.slice ty,l⟩:Cell U.D) env) t b=bval env t b:=by
  unfold bval;rw[fy];cases lk env t with
  | none=>rfl
  | some v=>
   cases v with
   | c x=>
    cases x with
    | arr b'=>simp only[Option.map_some,XV.frz,XC.frz];cases Nat.beq b' b0 <;> rfl
    | eptr b' ty' i o=>simp only[Option.map_some,XV.frz,XC.frz];cases Nat.beq b' b0 <;> rfl
    | pre b' h=>simp only[Option.map_some,XV.frz,XC.frz];cases Nat.beq b' b0 <;> rfl
    | suf b' lo h=>simp only[Option.map_some,XV.frz,XC.frz];cases Nat.beq b' b0 <;> rfl
    | _=>rfl
   | agg cs=>rfl
   | tup vs=>rfl
 bval_fz {l:List (Nat×Ty)} {env env':XEnv U} {J J':XSt U} {t:Nat} {b:Bool} (h:xfz l env J=some (env',J')):bval env' t b=bval env t b:=by
  induction l generalizing env J with
  | nil=>simp[xfz]at h;rw[h.1]
  | cons p l ih=>
   obtain⟨c,ty⟩:=p;simp only[xfz]at h;split at h
   . rename_i e s h1;have h2:bval e t b=bval env t b:=by
      unfold xfz1 at h1;split at h1
      . split at h1
        . cases h1;exact bval_key
        . cases h1
      . split at h1
        . cases h1;exact bval_key
        . cases h1
      . cases h1;rfl
     rw[ih h,h2]
   . cases h
theorem j5 {fo : Fo U} (hfo : FoSnd P fo) {o : AOper} (h : RS key gl nf env J env1 J1 G) {k : GL -> NF -> XEnv U -> XSt U -> Option R} {r : R} (hx : xstep fo (some xb) o key gl nf env J k = some r):
 ∃g v1 J1' gl' nf' env' J' G',DStep xb P o key env1 J1 g v1 J1'/\k gl' nf' env' J'=some r/\RS (key+16) gl' nf' env' J' (aw env1 o.dst g v1) J1' G':=by
 unfold xstep at hx;split at hx
 . cases hx
 . rename_i hff;simp only[Bool.and_eq_true]at hff;obtain⟨hf,hfn⟩:=hff;split at hx
   . rename_i hF;split at hx
     . rename_i g0 hg0;have hfalse:=kx h.hg h.hn hF;obtain⟨h1,h2⟩:=fg (P:=P) h (fF hg0) hfalse hf hfn (h9 (U:=U) (N:=key+16) (J:=J));exact⟨_,_,_,_,_,_,_,_,h1,hx,h2⟩
     . cases hx
   . split at hx
     . rename_i f args ho;split at hx
       . rename_i hraw;split at hx
         . rename_i g gd hg hgn;have hdef:o.guard=none\/∃t b y,o.guard=some (t,b)/\bval env t b=some y:=by rw[hgn];rw[hgn]at hg;exact fF hg
           have hgv:g=GdV env G o.guard:=eW h.hg hg;split at hx
           . rename_i hgt;obtain⟨v,v1,J',J1',h1,h2,h3⟩:=gh (fo:=fo) hfo ho h hdef hf hfn (by rw[<-hgv];exact hgt) (k:=fun J v=>k (glAdd gl o.guard o.dst) nf (xbind o.dst v env) J) (fun s hs=>hs) hx;exact⟨_,_,_,_,_,_,_,_,h2,h1,h3⟩
           . rename_i hgt;have hgf:GdV env G o.guard=false:=by rw[<-hgv];simpa using hgt
             have h':RS key gl (gd::nf) env J env1 J1 G:=⟨h.er,h.hg,h.sr,fun g0 hg0=>by
              rcases List.mem_cons.1 hg0 with rfl | hm
              . grind
              . exact h.hn g0 hm⟩
             have hfn':ba (gd::nf) o.dst=true:=by
              cases hd:o.dst with
              | none=>rfl
              | some d=>
               rw[hd]at hfn hf;rw[hgn]at hf;simp only[ba,List.all_cons,Bool.and_eq_true];simp only[ba]at hfn;simp only[bI,Bool.and_eq_true]at hf
               grind
             obtain⟨h1,h2⟩:=fg (P:=P) h' hdef hgf hf hfn' (h9 (U:=U) (N:=key+16) (J:=J));exact⟨_,_,_,_,_,_,_,_,h1,hx,h2⟩
         . cases hx
       unfold xcall at hx;split at hx
       . rename_i hgn;simp only at hx;split at hx
         case h_2=>
          obtain⟨v,v1,J',J1',h1,h2,h3⟩:=gh (fo:=fo) hfo ho h (.inl hgn) hf hfn (by rw[hgn];rfl) (k:=fun J v=>k (glAdd gl o.guard o.dst) nf (xbind o.dst v env) J) (fun s hs=>hs) hx;exact⟨_,_,_,_,_,_,_,_,h2,h1,h3⟩
         rw[hgn]at hx;obtain⟨v,v1,J',J1',h1,h2,h3⟩:=jB (fo:=fo) hfo ho h hgn hf hfn (k:=fun J v=>k (glAdd gl o.guard o.dst) nf (xbind o.dst v env) J) (fun s hs=>hs) (by rw[hgn];exact hx);exact⟨_,_,_,_,_,_,_,_,h2,h1,h3⟩
       . rename_i gd hgn;split at hx
         . rename_i g hg;rw[hgn]at hx hg;obtain⟨v,v1,h1,h2,h3⟩:=gy (fo:=fo) hfo (.inl ho) h (by rw[hgn];exact fF hg) hf hfn (g:=g) (by rw[hgn];exact eW h.hg hg) (fun s hs=>hs) (by rw[hgn];exact hx);rw[hgn]at h3;exact⟨_,_,_,_,_,_,_,_,h2,h1,h3⟩
         . cases hx
     . rename_i x args ho;split at hx
       . contradiction
       . rename_i xb' f hd hgn hxv;obtain⟨q,v1,a1,a2,a3⟩:=ab h.er h.hg hxv;have:=a2.fn_inv;subst this;obtain⟨v,v1,h1,h2,h3⟩:=gy (xb:=xb) (fo:=fo) hfo (.inr ⟨hgn,x,q,ho,a1,a3 rfl⟩) h (.inl hgn) hf hfn (g:=true) (by rw[hgn];rfl) (fun s hs=>hs) (by rw[hgn];exact hx);rw[hgn]at h3;exact⟨_,_,_,_,_,_,_,_,h2,h1,h3⟩
       . cases hx
     . rename_i op hno1 hno2;split at hx
       . cases hx
       . rename_i c v J' hv;split at hx
         . rename_i hgn;split at hx
           . rename_i hc;rw[hgn]at hv;obtain⟨v1,J1',h1,h2⟩:=(lg (P:=P) (o:=o) h (by rw[hgn];exact hv) (.inl hgn) hf hfn).1 (by rw[hgn];rfl) hc;rw[hgn]at h2;exact⟨_,_,_,_,_,_,_,_,h1,hx,h2⟩
           . cases hx
         . rename_i gd hgn;split at hx
           . cases hx
           . rename_i g hg;have hdef:o.guard=none\/∃t b y,o.guard=some (t,b)/\bval env t b=some y:=by rw[hgn];exact fF hg
             have hgv:g=GdV env G o.guard:=by rw[hgn];exact eW h.hg hg
             have hop:=lg (P:=P) (o:=o) (xb:=xb) h hv hdef hf hfn;split at hx
             . rename_i hneu;split at hx
               . rename_i hcg;cases hgb:g with
                 | true=>
                  rw[hgb]at hcg hgv;simp at hcg;obtain⟨v1,J1',h1,h2⟩:=hop.1 hgv.symm hcg;have hJ:J'=J:=(jU h.er h.hg h.sr hv).neu hneu;rw[hJ]at h2;exact⟨_,_,_,_,_,_,_,_,h1,hx,h2⟩
                 | false=>
                  rw[hgb]at hgv;obtain⟨v1,h1,h2⟩:=hop.2 hgv.symm hneu;exact⟨_,_,_,_,_,_,_,_,h1,hx,h2⟩
               . cases hx
             . split at hx
               . rename_i hgt;split at hx
                 . rename_i hc;obtain⟨v1,J1',h1,h2⟩:=hop.1 (by rw[<-hgv];exact hgt) hc;exact⟨_,_,_,_,_,_,_,_,h1,hx,h2⟩
                 . cases hx
               . rename_i hgt;have hgf:GdV env G o.guard=false:=by rw[<-hgv];simpa using hgt
                 have h':RS key gl (gd::nf) env J env1 J1 G:=⟨h.er,h.hg,h.sr,fun g0 hg0=>by
                  rcases List.mem_cons.1 hg0 with rfl | hm
                  . grind
                  . exact h.hn g0 hm⟩
                 have hfn':ba (gd::nf) o.dst=true:=by
                  cases hd:o.dst with
                  | none=>rfl
                  | some d=>
                   rw[hd]at hfn hf;rw[hgn]at hf;simp only[ba,List.all_cons,Bool.and_eq_true];simp only[ba]at hfn;simp only[bI,Bool.and_eq_true]at hf
                   grind
                 obtain⟨h1,h2⟩:=fg (P:=P) h' hdef hgf hf hfn' (h9 (U:=U) (N:=key+16) (J:=J));exact⟨_,_,_,_,_,_,_,_,h1,hx,h2⟩
theorem jC {fo : Fo U} (hfo : FoSnd P fo) {o : AOper} (h : RS key gl nf env J env1 J1 G) {k : GL -> NF -> XEnv U -> XSt U -> Option R} {r : R} (hx : xstep fo none o key gl nf env J k = some r) {K : Env -> Store -> Prop}
 (hK:∀gl' nf' env' J' env1' J1' G',k gl' nf' env' J'=some r->RS (key+16) gl' nf' env' J' env1' J1' G'->K env1' J1'):
 ∃env0 J0,Conv kk key env1 J1 key env0 J0/\cstep P o key env0 J0 K:=by
 by_cases hraw:xstep fo (some []) o key gl nf env J k=some r
 . obtain⟨g,v1,J1',gl',nf',env',J',G',h1,h2,h3⟩:=j5 hfo h hraw;exact⟨env1,J1,Conv.refl,.inl (h1.astep (hK _ _ _ _ _ _ _ h2 h3))⟩
 . unfold xstep at hx hraw;split at hx
   . cases hx
   . rename_i hff;rw[hff]at hraw;simp only at hraw;simp only[Bool.and_eq_true]at hff;obtain⟨hf,hfn⟩:=hff;split at hx
     . rename_i hF;rw[hF]at hraw;exact absurd hx hraw
     . rename_i hF;rw[hF]at hraw;simp only at hraw;split at hx
       . rename_i f args ho;rw[ho]at hraw;simp only at hraw;split at hx
         . rename_i hrg;rw[hrg]at hraw;exact absurd hx hraw
         rename_i hrg;rw[hrg]at hraw;simp only at hraw;unfold xcall at hx hraw;split at hx
         . rename_i hgn;simp only at hx;rw[hgn]at hx;obtain⟨env',J2,env1',J1',vs1,c1,c2,c3,c4,⟨p,hp1,hp2⟩,hb,hA⟩:=eY (kk:=kk) (P:=P) hfo (f:=f) (getv:=fun e=>xops' gl none e args) (cal:=fun e vs=>∃p,gets e args=some (p,vs)/\p)
            (fun he hg hv=>by
             obtain⟨p,vs1,b1,b2,b3⟩:=cr he hg hv
             exact⟨vs1,b2,p,b1,b3 rfl⟩) h.er h.hg h.sr (fun s hs=>hs) hx
           refine⟨env1',J1',c1,.inr ⟨by rw[hgn];rfl,f,vs1,.inl ⟨args,p,ho,hp1,hp2⟩,?_⟩⟩;intro Γ nt φ S a w hR hbn vv hvv;refine(hA Γ nt φ S a w hR hbn vv hvv).mono ?_
           rintro e w' ⟨v,r1,φ',S',s1,rfl,⟨J3,v3,k1,k2,k3,k4⟩,q1,q2,q3⟩
           refine⟨v,r1,φ',S',s1,rfl,?_,q1,q2,q3⟩
           have hbd:=RS.bind (gd:=none) (dst:=o.dst) (nf:=nf) k2 c3 k3 (fun g hg=>by
            obtain⟨t,b⟩:=g;have h0:=h.hn _ hg;simp only[GdV]at h0 ⊢
            grind) k4 (.inl rfl) (by rw[hgn]at hf;exact hf) hfn
           exact hK _ _ _ _ _ _ _ k1 hbd
         . rename_i gd hgn;rw[hgn]at hraw hx;exact absurd hx hraw
       . rename_i x args ho;split at hx
         . rename_i f caps hd hgn hxv
           obtain⟨env',J2,env1',J1',vs1,c1,c2,c3,c4,⟨q,p,caps',vs0,hq0,hq1,hp1,hp2,hp3⟩,hb,hA⟩:=eY (kk:=kk) (P:=P) hfo (f:=f) (getv:=fun e=>match xop gl none e x,xops' gl none e args with
            | some (.c (.fn f' caps')),some vs=>match Nat.beq f' f with
             | true=>some (vs++caps'.map fun b=>.c (.ptr b 0))
             | false=>none
            | _, _ => none) (cal := fun e vs => ∃ q p caps' vs0, x.get e = some (q, .c (.fn f caps')) /\ q /\ gets e args = some (p, vs0) /\ p /\ vs = vs0 ++ caps'.map fun b => V.c (.ptr b 0))
            (fun he hg hv=>by
             split at hv
             . rename_i f' caps' vs' e1 e2;split at hv
               . rename_i hfe;have:=af hfe;subst this;cases hv;obtain⟨q,v1,a1,a2,a3⟩:=ab he hg e1;have:=a2.fn_inv;subst this;obtain⟨p,vs1,b1,b2,b3⟩:=cr he hg e2;refine⟨vs1++caps'.map fun b=>V.c (.ptr b 0),b2.append ?_,q,p,caps',vs1,a1,a3 rfl,b1,b3 rfl,rfl⟩
                 exact All2.map_map (All2.self (R:=fun a b=>VR key _ (.c (.ptr a 0)) (.c (.ptr b 0))) (fun b=>.c (.ptr b 0)) _)
               . cases hv
             grind) h.er h.hg h.sr (fun s hs=>hs) hx
           refine⟨env1',J1',c1,.inr ⟨by rw[hgn];rfl,f,vs1,.inr ⟨x,args,q,p,caps',vs0,ho,hq0,hq1,hp1,hp2,hb,hp3⟩,?_⟩⟩;intro Γ nt φ S a w hR hbn vv hvv;refine(hA Γ nt φ S a w hR hbn vv hvv).mono ?_
           rintro e w' ⟨v,r1,φ',S',s1,rfl,⟨J3,v3,k1,k2,k3,k4⟩,q1,q2,q3⟩
           refine⟨v,r1,φ',S',s1,rfl,?_,q1,q2,q3⟩
           have hbd:=RS.bind (gd:=none) (dst:=o.dst) (nf:=nf) k2 c3 k3 (fun g hg=>by
            obtain⟨t,b⟩:=g;have h0:=h.hn _ hg;simp only[GdV]at h0 ⊢
            grind) k4 (.inl rfl) (by rw[hgn]at hf;exact hf) hfn
           exact hK _ _ _ _ _ _ _ k1 hbd
         . contradiction
         . cases hx
       . rename_i op hno1 hno2
         exfalso
         refine hraw ?_;split
         . rename_i f args ho;exact absurd ho (hno1 f args)
         . rename_i x args ho;exact absurd ho (hno2 x args)
         . exact hx
theorem gP{l:List (Nat×Ty)}{p:XEnv U×XSt U}(h:xfzN l env J=some p):∃l,xfz l env J=some p:=by
 unfold xfzN at h
 grind
theorem og{o:AOper}{p:XEnv U×XSt U}(h:preFz gl o env J=some p):∃l,xfz l env J=some p:=by
 unfold preFz at h;split at h
 . grind
 . split at h
   . exact gP h
   . cases h
 . exact gP h
 . exact gP h
 . cases h
theorem mM {fo : Fo U} (hfo : FoSnd P fo) {o : AOper} (h : RS key gl nf env J env1 J1 G) {k : GL -> NF -> XEnv U -> XSt U -> Option R} {r : R} (hx : fE fo none o key gl nf env J k = some r) {K : Env -> Store -> Prop}
 (hK:∀gl' nf' env' J' env1' J1' G',k gl' nf' env' J'=some r->RS (key+16) gl' nf' env' J' env1' J1' G'->K env1' J1'):
 ∃env0 J0,Conv kk key env1 J1 key env0 J0/\cstep P o key env0 J0 K:=by
 simp only[fE]at hx;split at hx
 . exact jC hfo h hx hK
 . rename_i p hp;obtain⟨l,hl⟩:=og hp;obtain⟨e1,s1,c1,c2,c3,c4⟩:=dS (kk:=kk) (gl:=gl) hl h.er h.sr
   obtain⟨e2,s2,d1,d2⟩:=jC (kk:=kk) (P:=P) hfo (⟨c2,c4 h.hg,c3,fun g hg=>by
    obtain⟨t,b⟩:=g;have h0:=h.hn _ hg;simp only[GdV]at h0 ⊢
    rw[eY.bval_fz hl];exact h0⟩:RS key gl nf p.1 p.2 e1 s1 G) hx hK
   exact⟨e2,s2,c1.trans d1,d2⟩
end
end
section
open Go
variable {xb:List Nat}
variable {U:Uni} {R:Type}
def xblk(env:XEnv U):AO->Option (List Nat)
 | .const (.c (.t _))=>some []
 | .const (.c .cap0)=>some []
 | .const (.agg _)=>some []
 | .const _=>none
 | .tmp k=>match lk env k with
  | some (.c (.ptr b _))=>some [b]
  | some (.c (.eptr b _ _ _))=>some [b]
  | some (.c (.arr b))=>some [b]
  | some (.c (.sub b _ _))=>some [b]
  | some (.c (.pre b _))=>some [b]
  | some (.c (.suf b _ _))=>some [b]
  | some (.c (.mp b))=>some [b]
  | some (.c (.sptr b))=>some [b]
  | some (.c (.bufc b))=>some [b]
  | some (.c .dead)=>none
  | some _=>some []
  | none=>none
def ef :XC U->Bool
 | .dead=>true
 | _=>false
def eh :XV U->Option (List Nat)
 | .c x=>match ef x with
  | true=>none
  | false=>some x.blks
 | .agg cs=>match cs.any ef with
  | true=>none
  | false=>some (cs.flatMap XC.blks)
 | .tup _=>some []
def xargB(env:XEnv U):List AO->Option (List Nat)
 | []=>some []
 | .const v::r=>match xargB env r with
  | some l=>some (v.blks++l)
  | none=>none
 | .tmp k::r=>match lk env k with
  | some v=>match eh v,xargB env r with
   | some a,some l=>some (a++l)
   | _,_=>none
  | none=>none
def xtch(xb:List Nat)(o:AOp)(env:XEnv U)(key:Nat):Option (List Nat):=
 match o with
 | .alloc _ | .allocA _ | .box _ | .bslice .. | .mkset=>some [key]
 | .allocS .. =>some [key,key+1]
 | .lkset x _=>xblk env x
 | .upset x _=>xblk env x
 | .appendB _ _ x _=>match xblk env x with
  | some a=>some (key::a)
  | none=>none
 | .ustr _ x _=>xblk env x
 | .call _ args=>match xargB env args with
  | some l=>some ((List.range 16).map (key+·)++(l++xb))
  | none=>none
 | .load _ _ x=>xblk env x
 | .b2s x=>xblk env x
 | .store _ x _=>xblk env x
 | .append _ _ x y=>match xblk env x,xblk env y with
  | some a,some b=>some (key::(a++b))
  | _,_=>none
 | _=>some []
def xwrB(xb:List Nat)(o:AOp)(env:XEnv U)(key b:Nat):Option Bool:=
 match o with
 | .alloc _ | .allocA _ | .box _ | .bslice .. | .mkset=>some (Nat.beq b key)
 | .allocS .. =>some (Nat.beq b key || Nat.beq b (key+1))
 | .upset x _=>match xblk env x with
  | some l=>some (hasN l b)
  | none=>none
 | .appendB _ _ x _=>match xblk env x with
  | some l=>some (Nat.beq b key || hasN l b)
  | none=>none
 | .ustr _ x _=>match xblk env x with
  | some l=>some (hasN l b)
  | none=>none
 | .store _ x _=>match xblk env x with
  | some l=>some (hasN l b)
  | none=>none
 | .append _ _ x _=>match xblk env x with
  | some l=>some (Nat.beq b key || hasN l b)
  | none=>none
 | .call _ args=>match xargB env args with
  | some l=>some ((Nat.ble key b && Nat.ble (b+1) (key+16)) || hasN (l++xb) b)
  | none=>none
 | _=>some false
def xcrit(xb:List Nat)(aos:List AOper)(env:XEnv U)(N:Nat):List (Nat×Nat)->Bool
 | []=>true
 | (i,j)::r=>(match getN aos i,getN aos j with
  | some x,some y=>match xtch xb y.op env (N+16*j)with
   | some l=>l.all fun b=>match xwrB xb x.op env (N+16*i) b with
    | some w=>!w
    | none=>false
   | none=>false
  | _,_=>true) && xcrit xb aos env N r
section
variable {P:Program} {kk N key:Nat} {J:XSt U} {J1:Store} {env:XEnv U} {env1:Env} {G:Nat->Bool}
theorem bP(he:ER N J G env env1){x:AO}{l:List Nat}(h:xblk env x=some l):blkOf env1 x=l:=by
 unfold xblk at h;split at h
 . cases h;rfl
 . cases h;rfl
 . cases h;rfl
 . cases h
 . rename_i k;split at h
   all_goals (try (cases h;done))
   . rename_i b o hk;cases h;obtain⟨v1,h1,h2⟩:=he k _ hk;have:=h2.ptr_inv;subst this;simp[blkOf,AO.get,h1]
   . rename_i b t i o hk;cases h;obtain⟨v1,h1,h2⟩:=he k _ hk;have:=h2.eptr_inv;subst this;simp[blkOf,AO.get,h1]
   . rename_i b hk;cases h;obtain⟨v1,h1,h2⟩:=he k _ hk;obtain⟨sz,n,rfl,_⟩:=h2.arr_inv;simp[blkOf,AO.get,h1]
   . rename_i b lo len hk;cases h;obtain⟨v1,h1,h2⟩:=he k _ hk;have:v1= .c (.win b 1 lo len):=by cases h2 with | c h=>cases h;rfl
     subst this;simp[blkOf,AO.get,h1]
   . rename_i b ln hk;cases h;obtain⟨v1,h1,h2⟩:=he k _ hk;have:∃sz,v1= .c (.arr b sz 0 ln):=by cases h2 with | c h=>cases h;exact⟨_,rfl⟩
     obtain⟨sz,rfl⟩:=this;simp[blkOf,AO.get,h1]
   . rename_i b lo ln hk;cases h;obtain⟨v1,h1,h2⟩:=he k _ hk;have:∃sz,v1= .c (.win b sz lo ln):=by cases h2 with | c h=>cases h;exact⟨_,rfl⟩
     obtain⟨sz,rfl⟩:=this;simp[blkOf,AO.get,h1]
   . rename_i b hk;cases h;obtain⟨v1,h1,h2⟩:=he k _ hk;have:=h2.mp_inv;subst this;simp[blkOf,AO.get,h1]
   . rename_i b hk;cases h;obtain⟨v1,h1,h2⟩:=he k _ hk;have:=h2.sptr_inv;subst this;simp[blkOf,AO.get,h1]
   . rename_i b hk;cases h;obtain⟨v1,h1,h2⟩:=he k _ hk;obtain⟨n,rfl,_⟩:=h2.bufc_inv;simp[blkOf,AO.get,h1]
   . rename_i v n1 n2 n3 n5 n9 n10 n6 n7 n8 n4 hk;cases h;obtain⟨v1,h1,h2⟩:=he k _ hk;unfold blkOf;simp only[AO.get,h1,Option.map_some];cases h2 with
     | c h2=>
      cases h2 with
      | ptr b o=>exact absurd rfl (n1 b o)
      | eptr b t i o=>exact absurd rfl (n2 b t i o)
      | arr b sz n hb hh=>exact absurd rfl (n3 b)
      | sub b lo len=>exact absurd rfl (n5 b lo len)
      | pre b sz ln hb hh=>exact absurd rfl (n9 b ln)
      | suf b sz lo ln hb hh=>exact absurd rfl (n10 b lo ln)
      | mp b=>exact absurd rfl (n6 b)
      | sptr b=>exact absurd rfl (n7 b)
      | bufc b n hb hh=>exact absurd rfl (n8 b)
      | dead d=>exact absurd rfl n4
      | _=>rfl
     | agg h2=>rfl
     | tup=>rfl
theorem db{l:List Nat}{b:Nat}:hasN l b=l.contains b:=by
 unfold hasN;rw[Bool.eq_iff_iff];simp_all
theorem j6{x:XC U}{d:C}(h:CR N J x d)(hd:ef x=false):d.blks=x.blks:=by
 cases h <;> first | rfl | (simp[ef]at hd)
theorem jD :∀{xs:List (XC U)} {ds:List C},All2 (CR N J) xs ds->xs.any ef=false->ds.flatMap C.blks=xs.flatMap XC.blks
 | [],[],_,_=>rfl
 | x::xs,d::ds,.cons h1 h2,hd=>by
  simp only[List.any_cons,Bool.or_eq_false_iff]at hd;simp only[List.flatMap_cons];rw[j6 h1 hd.1,jD h2 hd.2]
theorem mN{v:XV U}{v1:V}{l:List Nat}(h:VR N J v v1)(hl:eh v=some l):v1.blks=l:=by
 cases h with
 | c h=>
  simp only[eh]at hl;split at hl
  . cases hl
  . rename_i hd;cases hl;exact j6 h hd
 | agg h=>
  simp only[eh]at hl;split at hl
  . cases hl
  . rename_i hd;cases hl;exact jD h hd
 | tup=>simp only[eh,Option.some.injEq]at hl;rw[<-hl];rfl
theorem eQ(he:ER N J G env env1):∀{args:List AO} {l:List Nat},xargB env args=some l->argBs env1 args=l
 | [],l,h=>by simp[xargB]at h;subst h;rfl
 | .const v::r,l,h=>by
  simp only[xargB]at h;split at h
  . rename_i l' hl';cases h;have ih:=eQ he hl';simp only[argBs,List.flatMap_cons]at ih ⊢;rw[ih];rfl
  . cases h
 | .tmp k::r,l,h=>by
  simp only[xargB]at h;split at h
  . rename_i v hv;split at h
    . rename_i a l' ha hl';cases h;have ih:=eQ he hl';obtain⟨v1,h1,h2⟩:=he k v hv;simp only[argBs,List.flatMap_cons]at ih ⊢;rw[ih];simp only[AO.get,h1,Option.map_some];rw[mN h2 ha]
    . cases h
  . cases h
theorem oh(he:ER N J G env env1){o:AOp}{l:List Nat}(h:xtch xb o env key=some l):tch xb o env1 key=l:=by
 cases o <;> simp only[xtch,tch,Option.some.injEq]at h ⊢ <;> first | exact h | exact bP he h | skip
 all_goals split at h
 all_goals (try (cases h;done))
 . rename_i l' hl';cases h;rw[bP he hl']
 . rename_i a b h1 h2;cases h;rw[bP he h1,bP he h2]
 . rename_i l' hl';cases h;rw[eQ he hl']
theorem beq_eq(a b:Nat):(a==b)=Nat.beq a b:=by
 cases h:Nat.beq a b with
 | true=>rw[af h];simp
 | false=>simp[aL h]
theorem ol(he:ER N J G env env1){o:AOp}{b:Nat}{w:Bool}(h:xwrB xb o env key b=some w):wrB xb o env1 key b=w:=by
 cases o with
 | alloc cs=>simp only[xwrB,Option.some.injEq]at h;rw[<-h];simp only[wrB];exact beq_eq _ _
 | allocA cs=>simp only[xwrB,Option.some.injEq]at h;rw[<-h];simp only[wrB];exact beq_eq _ _
 | box x=>simp only[xwrB,Option.some.injEq]at h;rw[<-h];simp only[wrB];exact beq_eq _ _
 | bslice a c d e=>simp only[xwrB,Option.some.injEq]at h;rw[<-h];simp only[wrB];exact beq_eq _ _
 | store n x y=>
  simp only[xwrB]at h;split at h
  . rename_i l hl;cases h;simp only[wrB];rw[bP he hl,db]
  . cases h
 | append sz by' x y=>
  simp only[xwrB]at h;split at h
  . rename_i l hl;cases h;simp only[wrB];rw[bP he hl,db,beq_eq]
  . cases h
 | mkset=>simp only[xwrB,Option.some.injEq]at h;rw[<-h];simp only[wrB];exact beq_eq _ _
 | allocS e e8=>simp only[xwrB,Option.some.injEq]at h;rw[<-h];simp only[wrB];rw[beq_eq,beq_eq]
 | upset x y=>
  simp only[xwrB]at h;split at h
  . rename_i l hl;cases h;simp only[wrB];rw[bP he hl,db]
  . cases h
 | ustr e x y=>
  simp only[xwrB]at h;split at h
  . rename_i l hl;cases h;simp only[wrB];rw[bP he hl,db]
  . cases h
 | appendB e by' x y=>
  simp only[xwrB]at h;split at h
  . rename_i l hl;cases h;simp only[wrB];rw[bP he hl,db,beq_eq]
  . cases h
 | call f args=>
  simp only[xwrB]at h;split at h
  . rename_i l hl;cases h;simp only[wrB];rw[eQ he hl,db]
    congr 1
    rw[Bool.eq_iff_iff];simp only[Bool.and_eq_true,decide_eq_true_eq,Nat.ble_eq];omega
  . cases h
 | _=>simp only[xwrB,Option.some.injEq]at h;rw[<-h];rfl
theorem gi(he:ER N J G env env1){aos:List AOper}{N0:Nat}:∀{crit:List (Nat×Nat)},xcrit xb aos env N0 crit=true->a9 xb aos env1 N0 crit=true
 | [],_=>rfl
 | (i,j)::r,h=>by
  simp only[xcrit,Bool.and_eq_true]at h;simp only[a9,Bool.and_eq_true];refine⟨?_,gi he h.2⟩;have h1:=h.1;rw[dX,dX]at h1;split at h1
  . rename_i x y hx hy;rw[hx,hy];split at h1
    . rename_i l hl;dsimp only;rw[oh he hl];simp only[List.all_eq_true]at h1 ⊢;intro b hb;have:=h1 b hb;split at this
      . rename_i w hw;rw[ol he hw];exact this
      . cases this
    . cases h1
  grind
theorem fR {fo : Fo U} (hfo : FoSnd P fo) {k : GL -> XEnv U -> XSt U -> Option R} {r : R}: ∀ {l : List AOper} {key : Nat} {gl : GL} {nf : NF} {env : XEnv U} {J : XSt U} {env1 : Env} {J1 : Store} {G : Nat -> Bool} {K : Env -> Store -> Prop},
 RS key gl nf env J env1 J1 G->bU fo none l key gl nf env J k=some r->
 (∀gl' nf' env' J' env1' J1' G',k gl' env' J'=some r->RS (key+16*l.length) gl' nf' env' J' env1' J1' G'->K env1' J1')->aopsC P kk l key env1 J1 K
 | [],key,gl,nf,env,J,env1,J1,G,K,h,hx,hK=>hK _ _ _ _ _ _ _ hx h
 | o::l,key,gl,nf,env,J,env1,J1,G,K,h,hx,hK=>by
  simp only[bU]at hx;simp only[aopsC];refine mM hfo h hx fun gl' nf' env' J' env1' J1' G' h1 h2=>?_
  refine fR hfo h2 h1 fun gl2 nf2 e2 s2 e12 s12 G2 h3 h4=>hK gl2 nf2 e2 s2 e12 s12 G2 h3 ?_
  grind
theorem f0 {fo : Fo U} (hfo : FoSnd P fo) {k : GL -> XEnv U -> XSt U -> Option R} {r : R}: ∀ {l : List AOper} {key : Nat} {gl : GL} {nf : NF} {env : XEnv U} {J : XSt U} {env1 : Env} {J1 : Store} {G : Nat -> Bool} {K : Env -> Store -> Prop},
 RS key gl nf env J env1 J1 G->bU fo (some xb) l key gl nf env J k=some r->
 (∀gl' nf' env' J' env1' J1' G',k gl' env' J'=some r->RS (key+16*l.length) gl' nf' env' J' env1' J1' G'->K env1' J1')->dops xb P l key env1 J1 K
 | [],key,gl,nf,env,J,env1,J1,G,K,h,hx,hK=>hK _ _ _ _ _ _ _ hx h
 | o::l,key,gl,nf,env,J,env1,J1,G,K,h,hx,hK=>by
  simp only[bU]at hx;obtain⟨g,v1,J1',gl',nf',env',J',G',h1,h2,h3⟩:=j5 hfo h (by simpa only[fE]using hx);refine⟨g,v1,J1',h1,f0 hfo h3 h2 fun gl2 nf2 e2 s2 e12 s12 G2 h4 h5=>hK gl2 nf2 e2 s2 e12 s12 G2 h4 ?_⟩
  grind
theorem g7{gl:GL}:∀{env:XEnv U} {k:Nat} {v:XV U},lk (clean gl env) k=some v->lk env k=some v/\inGl gl k=false
 | [],k,v,h=>by simp[clean,lk]at h
 | (i,w)::r,k,v,h=>by
  simp only[clean]at h;split at h
  . rename_i hi;obtain⟨h1,h2⟩:=g7 h;simp only[lk];cases hb:Nat.beq i k with
    | true=>rw[af hb]at hi;rw[hi]at h2;cases h2
    | false=>exact⟨h1,h2⟩
  . rename_i hi;simp only[lk]at h ⊢;cases hb:Nat.beq i k with
    | true=>rw[hb]at h;cases h;rw[<-af hb];exact⟨rfl,hi⟩
    | false=>rw[hb]at h;exact g7 h
theorem o8{gl:GL}{k:Nat}(h:inGl gl k=false):lk gl k=none:=by
 induction gl with
 | nil=>rfl
 | cons e r ih=>
  obtain⟨i,e⟩:=e;simp only[inGl,List.any_cons,Bool.or_eq_false_iff]at h;simp only[lk,h.1];exact ih (by unfold inGl;exact h.2)
theorem RS.clean{gl:GL}{nf:NF}(h:RS key gl nf env J env1 J1 G):ER key J (fun _=>true) (ed gl env) env1:=by
 intro k v hk;have:lk env k=some v/\G k=true:=by
  unfold ed at hk;split at hk
  . exact⟨hk,h.hg.free k rfl⟩
  . obtain⟨h1,h2⟩:=g7 hk;exact⟨h1,h.hg.free k (o8 h2)⟩
 obtain⟨v1,h1,h2⟩:=h.er k v this.1
 grind
theorem RS.begin(he:ER key J (fun _=>true) env env1)(hS:SR key J J1):RS key [] [] env J env1 J1 (fun _=>true):=
 ⟨he,⟨fun _ _=>rfl,fun k t b h=>by simp[lk]at h⟩,hS,fun _ h=>by simp at h⟩
end
structure OSpec where
 e:Exit
 sh:Shape
 own:List (Pos×Ty)
 us:List Ty
def OSum(U:Uni):List OSpec->Type
 | []=>Empty
 | [a]=>Hs U.D a.us
 | a::b::r=>Hs U.D a.us ⊕ OSum U (b::r)
structure LSpec (U:Uni) where
 sh:Shape
 own:List (Pos×Ty)
 ts:List Ty
 outs:List OSpec
 F:Hs U.D ts->Option (OSum U outs)
def exEq :Exit->Exit->Bool
 | .normal,.normal=>true
 | .ret,.ret=>true
 | .exit i,.exit j=>Nat.beq i j
 | _,_=>false
theorem kz{a b:Exit}(h:exEq a b=true):a=b:=by
 cases a <;> cases b <;> simp only[exEq,reduceCtorEq,Bool.false_eq_true]at h <;> try rfl
 simp_all
abbrev XK(U:Uni)(R:Type):=Exit->XEnv U->XSt U->Nat->Option R
def oout :(outs:List OSpec)->OSum U outs->Exit×XEnv U×XSt U×Nat
 | [],o=>Empty.elim o
 | [a],h=>(a.e,(fil U a.sh (Hs.cells U.D a.us h)).1,(fil U a.sh (Hs.cells U.D a.us h)).2,a.sh.st.length)
 | a::b::r,.inl h=>(a.e,(fil U a.sh (Hs.cells U.D a.us h)).1,(fil U a.sh (Hs.cells U.D a.us h)).2,a.sh.st.length)
 | a::b::r,.inr o=>oout (b::r) o
def sumE{α β:Type}(o:α ⊕ β)(f:α->Option R)(g:β->Option R):Option R:=
 match o with
 | .inl a=>f a
 | .inr b=>g b
def xoutC(k:XK U R)(a:OSpec):(r:List OSpec)->(OSum U r->Option R)->OSum U (a::r)->Option R
 | [],_=>fun h=>k a.e (fil U a.sh (Hs.cells U.D a.us h)).1 (fil U a.sh (Hs.cells U.D a.us h)).2 a.sh.st.length
 | _::_,f=>fun o=>sumE o (fun h=>k a.e (fil U a.sh (Hs.cells U.D a.us h)).1 (fil U a.sh (Hs.cells U.D a.us h)).2 a.sh.st.length) f
def xout(k:XK U R):(outs:List OSpec)->OSum U outs->Option R
 | []=>fun o=>Empty.elim o
 | a::r=>xoutC k a r (xout k r)
theorem lj(k:XK U R):∀{outs:List OSpec} {o:OSum U outs},xout k outs o=k (oout outs o).1 (oout outs o).2.1 (oout outs o).2.2.1 (oout outs o).2.2.2
 | [],o=>Empty.elim o
 | [a],h=>rfl
 | a::b::r,.inl h=>rfl
 | a::b::r,.inr o=>lj k (outs:=b::r)
def oput(kk:Nat):(outs:List OSpec)->Exit->XEnv U->XSt U->Nat->Option (OSum U outs)
 | [],_,_,_,_=>none
 | [a],e,env,J,N=>match exEq e a.e with
  | true=>xgoto kk a.own a.sh a.us env J N
  | false=>none
 | a::b::r,e,env,J,N=>match exEq e a.e with
  | true=>match xgoto (U:=U) kk a.own a.sh a.us env J N with
   | some h=>some (.inl h)
   | none=>none
  | false=>match oput kk (b::r) e env J N with
   | some o=>some (.inr o)
   | none=>none
abbrev Lo(U:Uni):=Nat->Option (LSpec U)
def aF :ACode->Nat
 | .seq a b=>aF a+aF b
 | .cond _ a b=>aF a+aF b
 | .block _ b=>aF b
 | .loop b=>aF b+1
 | _=>0
def ifB(x:Bool)(a b:Option R):Option R:=if x=true then a else b
def XC.inner :SC->Bool
 | .ptr .. | .arr _=>true
 | _=>false
def qK :SB->Bool
 | .box cs=>cs.any XC.inner
 | _=>false
def dxS(fo:Fo U)(J:XSt U)(ops:List AOper):List Nat:=
 match ops.any fun o=>match o.op with
  | .call f _=>(fo f).any fun s=>s.st.any qK
  | _=>false with
 | true=>J.map Prod.fst
 | false=>[]
def g8(ops:List AOper)(crit:List (Nat×Nat)):Option (List AOper×AOper):=
 match fD ops.length crit,ops.getLast? with
 | true,some o=>match o.op,o.guard with
  | .call ..,none=>some (ops.dropLast,o)
  | _,_=>none
 | _,_=>none
theorem mO{ops:List AOper}{crit:List (Nat×Nat)}{init:List AOper}{last:AOper}(h:g8 ops crit=some (init,last)):ops=init++[last]/\fD (init.length+1) crit=true:=by
 unfold g8 at h;split at h
 . rename_i o h1 h2;split at h
   . cases h;have:ops=ops.dropLast++[last]:=by
      obtain⟨l,rfl⟩:=List.getLast?_eq_some_iff.1 h2;simp
     grind
   . cases h
 . cases h
def xexec(fo:Fo U)(lo:Lo U)(kk:Nat):ACode->Nat->XEnv U->XSt U->Nat->XK U R->Option R
 | .skip,_,env,J,N,k=>k .normal env J N
 | .ret,_,env,J,N,k=>k .ret env J N
 | .exit i,_,env,J,N,k=>k (.exit i) env J N
 | .region ops,_,env,J,N,k=>bU fo none ops N [] [] env J fun gl env J=>xrend (ed gl env) J (N+16*ops.length) fun env J N=>k .normal env J N
 | .regionD ops crit,_,env,J,N,k=>match g8 ops crit with
  | some (init,last)=>bU fo (some []) init N [] [] env J fun gl env J=>match xcrit [] init env N crit with
   | true=>bU fo none [last] (N+16*init.length) gl [] env J fun gl env J=>k .normal (ed gl env) J (N+16*init.length+16)
   | false=>none
  | none=>bU fo (some (dxS fo J ops)) ops N [] [] env J fun gl env' J'=>match xcrit (dxS fo J ops) ops env' N crit with
   | true=>xrend (ed gl env') J' (N+16*ops.length) fun env J N=>k .normal env J N
   | false=>none
 | .seq a b,pos,env,J,N,k=>xexec fo lo kk a pos env J N fun e env J N=>match e with
  | .normal=>xexec fo lo kk b (pos+aF a) env J N k
  | e=>k e env J N
 | .cond c a b,pos,env,J,N,k=>match xop [] none env c with
  | some (.c (.t ⟨.bool,x⟩))=>ifB x (xexec fo lo kk a pos env J N k) (xexec fo lo kk b (pos+aF a) env J N k)
  | _=>none
 | .block id b,pos,env,J,N,k=>xexec fo lo kk b pos env J N fun e env J N=>match e with
  | .exit i=>match Nat.beq i id with
   | true=>k .normal env J N
   | false=>k (.exit i) env J N
  | e=>k e env J N
 | .loop b,pos,env,J,N,k=>match lo pos with
  | none=>none
  | some L=>match xgoto kk L.own L.sh L.ts env J N with
   | none=>none
   | some h=>(L.F h) >>=fun o=>xout k L.outs o
section
variable {P:Program} {nt kk N:Nat} {env:XEnv U} {J:XSt U} {env1:Env} {J1:Store}
def CC(kk:Nat)(Q:Exit->Env->Store->Nat->Prop):Prop:=∀e N env J N' env' J',Conv kk N env J N' env' J'->Q e env' J' N'->Q e env J N
def LAt(P:Program)(nt kk:Nat)(body:ACode)(sh:Shape)(ts:List Ty)(outs:List OSpec)(h:Hs U.D ts)(o:OSum U outs):Prop:=
 ∀env1 J1,ER sh.st.length (fil U sh (Hs.cells U.D ts h)).2 (fun _=>true) (fil U sh (Hs.cells U.D ts h)).1 env1->SR sh.st.length (fil U sh (Hs.cells U.D ts h)).2 J1->kk<=sh.st.length->
  ∀Q,CC kk Q->(∀env1' J1',ER (oout outs o).2.2.2 (oout outs o).2.2.1 (fun _=>true) (oout outs o).2.1 env1'->SR (oout outs o).2.2.2 (oout outs o).2.2.1 J1'->kk<=(oout outs o).2.2.2->Q (oout outs o).1 env1' J1' (oout outs o).2.2.2)->
   AWL P nt kk body env1 J1 sh.st.length Q
def LSnd(P:Program)(nt kk:Nat)(body:ACode)(L:LSpec U):Prop:=
 ∀h o,L.F h=some o->LAt P nt kk body L.sh L.ts L.outs h o
def LoSnd(P:Program)(nt kk:Nat)(lo:Lo U):Nat->ACode->Prop
 | pos,.seq a b=>LoSnd P nt kk lo pos a/\LoSnd P nt kk lo (pos+aF a) b
 | pos,.cond _ a b=>LoSnd P nt kk lo pos a/\LoSnd P nt kk lo (pos+aF a) b
 | pos,.block _ b=>LoSnd P nt kk lo pos b
 | pos,.loop b=>(∀L,lo pos=some L->LSnd P nt kk b L)
 | _,_=>True
theorem CC.andThen{Q:Exit->Env->Store->Nat->Prop}{next:Env->Store->Nat->Prop}(h:CC kk Q)(hn:∀N env J N' env' J',Conv kk N env J N' env' J'->next env' J' N'->next env J N):CC kk (andThen next Q):=by
 intro e N env J N' env' J' hc hq;cases e with
 | normal=>exact hn _ _ _ _ _ _ hc hq
 | _=>exact h _ _ _ _ _ _ _ hc hq
theorem cp {fo : Fo U} (hfo : FoSnd P fo) {lo : Lo U}: ∀ {c : ACode} {pos : Nat} {env : XEnv U} {J : XSt U} {N : Nat} {k : XK U R} {r : R} {env1 : Env} {J1 : Store} {Q : Exit -> Env -> Store -> Nat -> Prop},
 LoSnd P nt kk lo pos c->xexec fo lo kk c pos env J N k=some r->ER N J (fun _=>true) env env1->SR N J J1->kk<=N->CC kk Q->
 (∀e env' J' N' env1' J1',k e env' J' N'=some r->ER N' J' (fun _=>true) env' env1'->SR N' J' J1'->kk<=N'->Q e env1' J1' N')->AW P nt kk c env1 J1 N Q
 | .skip,pos,env,J,N,k,r,env1,J1,Q,hl,hx,he,hS,hkk,hQ,hk=>AW.skip (hk _ _ _ _ _ _ hx he hS hkk)
 | .ret,pos,env,J,N,k,r,env1,J1,Q,hl,hx,he,hS,hkk,hQ,hk=>AW.ret (hk _ _ _ _ _ _ hx he hS hkk)
 | .exit i,pos,env,J,N,k,r,env1,J1,Q,hl,hx,he,hS,hkk,hQ,hk=>AW.exit (hk _ _ _ _ _ _ hx he hS hkk)
 | .region ops,pos,env,J,N,k,r,env1,J1,Q,hl,hx,he,hS,hkk,hQ,hk=>
  AW.regionC (fR hfo (RS.begin he hS) hx fun gl' nf' env' J' env1' J1' G' h1 h2=>by
   obtain⟨e2,s2,N2,e12,s12,g1,g2,g3,g4,g5⟩:=jw h1 h2.clean h2.sr (show kk<=_ by omega)
   exact hQ _ _ _ _ _ _ _ g2 (hk _ _ _ _ _ _ g1 g3 g4 (by omega)))
 | .regionD ops crit,pos,env,J,N,k,r,env1,J1,Q,hl,hx,he,hS,hkk,hQ,hk=>by
  simp only[xexec]at hx;split at hx
  . rename_i init last hlc;obtain⟨rfl,hmk⟩:=mO hlc;refine AW.regionL hmk (f0 hfo (RS.begin he hS) hx fun gl' nf' env' J' env1' J1' G' h1 h2=>?_);split at h1
    . rename_i hc;refine⟨gi h2.er hc,fR hfo (l:=[last]) (nf:=[]) ⟨h2.er,h2.hg,h2.sr,fun g hg=>by simp at hg⟩ h1 fun gl2 nf2 e2 s2 e12 s12 G2 h3 h4=>hk _ _ _ _ _ _ h3 h4.clean h4.sr (by omega)⟩
    . cases h1
  . refine AW.regionD (f0 hfo (RS.begin he hS) hx fun gl' nf' env' J' env1' J1' G' h1 h2=>?_);split at h1
    . rename_i hc;obtain⟨e2,s2,N2,e12,s12,g1,g2,g3,g4,g5⟩:=jw h1 h2.clean h2.sr (show kk<=_ by omega);exact⟨gi h2.er hc,hQ _ _ _ _ _ _ _ g2 (hk _ _ _ _ _ _ g1 g3 g4 (by omega))⟩
    . cases h1
 | .seq a b,pos,env,J,N,k,r,env1,J1,Q,hl,hx,he,hS,hkk,hQ,hk=>by
  simp only[xexec]at hx;refine AW.seq (cp hfo hl.1 hx he hS hkk (hQ.andThen fun N env J N' env' J' hc h=>AW.conv hc h) fun e env' J' N' env1' J1' h1 h2 h3 h4=>?_);cases e with
  | normal=>exact cp hfo hl.2 h1 h2 h3 h4 hQ hk
  | _=>exact hk _ _ _ _ _ _ h1 h2 h3 h4
 | .cond c a b,pos,env,J,N,k,r,env1,J1,Q,hl,hx,he,hS,hkk,hQ,hk=>by
  simp only[xexec]at hx;split at hx
  . rename_i x hc;have hg:HG [] env (fun _=>true):=⟨fun _ _=>rfl,fun k t b h=>by simp[lk]at h⟩
    obtain⟨p,v1,a1,a2,a3⟩:=ab he hg hc;have:=a2.bool_inv;subst this;refine AW.cond a1 (a3 rfl) (fun hb=>?_) (fun hb=>?_)
    . subst hb;exact cp hfo hl.1 hx he hS hkk hQ hk
    . subst hb;exact cp hfo hl.2 hx he hS hkk hQ hk
  . cases hx
 | .block id b,pos,env,J,N,k,r,env1,J1,Q,hl,hx,he,hS,hkk,hQ,hk=>by
  simp only[xexec]at hx;refine AW.block (cp hfo hl hx he hS hkk ?_ fun e env' J' N' env1' J1' h1 h2 h3 h4=>?_)
  . intro e N env J N' env' J' hc hq;cases e with
    | exit i=>
     simp only[inBlock]at hq ⊢;split at hq
     . rename_i hi;rw[if_pos hi];exact hQ _ _ _ _ _ _ _ hc hq
     . rename_i hi;rw[if_neg hi];exact hQ _ _ _ _ _ _ _ hc hq
    | _=>exact hQ _ _ _ _ _ _ _ hc hq
  . cases e with
    | exit i=>
     simp only[inBlock];simp only at h1;split at h1
     . rename_i hb;rw[if_pos (af hb)];exact hk _ _ _ _ _ _ h1 h2 h3 h4
     . rename_i hb;rw[if_neg (aL hb)];exact hk _ _ _ _ _ _ h1 h2 h3 h4
    | _=>exact hk _ _ _ _ _ _ h1 h2 h3 h4
 | .loop b,pos,env,J,N,k,r,env1,J1,Q,hl,hx,he,hS,hkk,hQ,hk=>by
  simp only[xexec]at hx;split at hx
  . cases hx
  . rename_i L hL;split at hx
    . cases hx
    . rename_i h hgo;obtain⟨o,ho,hko⟩:=Option.bind_eq_some_iff.1 hx;rw[lj]at hko;obtain⟨env1',J1',c1,c2,c3,c4⟩:=eP hgo he hS hkk;exact AW.conv c1 (AW.loop_of (hl L hL h o ho env1' J1' c2 c3 c4 Q hQ fun env1'' J1'' h1 h2 h3=>hk _ _ _ _ _ _ hko h1 h2 h3))
theorem LAt.of_round {fo : Fo U} (hfo : FoSnd P fo) {lo : Lo U} {body : ACode} {sh : Shape} {own : List (Pos×Ty)} {ts : List Ty} {outs : List OSpec} {h : Hs U.D ts} {o : OSum U outs} {F' : Hs U.D ts -> Option (OSum U outs)}
 (hlo:LoSnd P nt kk lo 0 body) (hF':∀h o,F' h=some o->LAt P nt kk body sh ts outs h o)
 (hx:xexec fo lo kk body 0 (fil U sh (Hs.cells U.D ts h)).1 (fil U sh (Hs.cells U.D ts h)).2 sh.st.length (fun e env J N=>match e with
  | .normal=>match xgoto kk own sh ts env J N with
   | some h'=>F' h'
   | none=>none
  | e=>oput kk outs e env J N)=some o):LAt P nt kk body sh ts outs h o:=by
 intro env1 J1 he hS hkk Q hQ hk;refine AWL.round (cp hfo hlo hx he hS hkk (hQ.andThen fun N env J N' env' J' hc h=>AWL.conv hc h) fun e env' J' N' env1' J1' h1 h2 h3 h4=>?_);have hout:∀e',e'=e->e'≠.normal->oput kk outs e' env' J' N'=some o->Q e env1' J1' N':=by
  intro e' he' hne hp;subst he';obtain⟨e1,s1,c1,c2,c3,c4,c5⟩:=oput_sound hp h2 h3 h4;exact hQ _ _ _ _ _ _ _ c1 (by rw[c5];exact hk _ _ c2 c3 c4)
 cases e with
 | normal=>
  simp only at h1;split at h1
  . rename_i h' hgo;obtain⟨e1,s1,c1,c2,c3,c4⟩:=eP hgo h2 h3 h4;exact AWL.conv c1 (hF' h' o h1 e1 s1 c2 c3 c4 Q hQ hk)
  . cases h1
 | exit i=>exact hout _ rfl (by simp) h1
 | ret=>exact hout _ rfl (by simp) h1
 | goto l=>exact hout _ rfl (by simp) h1
 | panic ch=>exact hout _ rfl (by simp) h1
 | outgrown=>exact hout _ rfl (by simp) h1
where
 oput_sound {N : Nat} {env : XEnv U} {J : XSt U} {env1 : Env} {J1 : Store}: ∀ {outs : List OSpec} {e : Exit} {o : OSum U outs}, oput kk outs e env J N = some o -> ER N J (fun _ => true) env env1 -> SR N J J1 -> kk <= N ->
  ∃env1' J1',Conv kk N env1 J1 (oout outs o).2.2.2 env1' J1'/\ER (oout outs o).2.2.2 (oout outs o).2.2.1 (fun _=>true) (oout outs o).2.1 env1'/\SR (oout outs o).2.2.2 (oout outs o).2.2.1 J1'/\kk<=(oout outs o).2.2.2/\e=(oout outs o).1
  | [],e,o,h,_,_,_=>by simp[oput]at h
  | [a],e,o,h,he,hS,hkk=>by
   simp only[oput]at h;split at h
   . rename_i hee;obtain⟨e1,s1,c1,c2,c3,c4⟩:=eP h he hS hkk;exact⟨e1,s1,c1,c2,c3,c4,kz hee⟩
   . cases h
  | a::b::r,e,o,h,he,hS,hkk=>by
   simp only[oput]at h;split at h
   . rename_i hee;split at h
     . rename_i hh hgo;cases h;obtain⟨e1,s1,c1,c2,c3,c4⟩:=eP hgo he hS hkk;exact⟨e1,s1,c1,c2,c3,c4,kz hee⟩
     . cases h
   . split at h
     . rename_i o' ho;cases h;obtain⟨e1,s1,c1,c2,c3,c4,c5⟩:=oput_sound ho he hS hkk;exact⟨e1,s1,c1,c2,c3,c4,c5⟩
     . cases h
end
end
end Go.Proofs.YtbciniegpkkapaaGreat.Shv
namespace Go.Proofs.YtbciniegpkkapaaGreat.Shv
set_option linter.all false
open Go
variable {U:Uni} {R:Type}
def xenv0 :Nat->List (XV U)->XEnv U
 | _,[]=>[]
 | i,v::vs=>(i,v)::xenv0 (i+1) vs
def ia(env:XEnv U)(J:XSt U):AR->Option (XV U)
 | .tmp t=>lk env t
 | .cell t g k=>match lk env t with
  | some (.c (.ptr b o))=>match lk J b with
   | some (.box cs)=>cd g k cs o
   | _=>none
  | _=>none
def dc(env:XEnv U)(J:XSt U):List AR->Option (List (XV U))
 | []=>some []
 | r::rs=>match ia env J r,dc env J rs with
  | some v,some vs=>some (v::vs)
  | _,_=>none
def xresV :List (XV U)->XV U
 | []=>.tup []
 | [v]=>v
 | v::w::vs=>.tup (v::w::vs)
def xread(kk:Nat)(ars:List AR)(sr:SV)(rst:List SB)(us:List Ty)(env:XEnv U)(J:XSt U):Option (Hs U.D us):=
 match dc env J ars with
 | none=>none
 | some vs=>match scS J kk 0 rst (scV sr (xresV vs) ([],[])) []with
  | (bs,fz)=>match xfz fz env J with
   | none=>none
   | some (env',J')=>match dc env' J' ars with
    | none=>none
    | some vs'=>match cK bs && (keeps kk bs && Nat.beq bs.length rst.length)with
     | false=>none
     | true=>match chkV bs sr (xresV vs'),chkS bs J' 0 rst with
      | some a,some b=>Hs.dec U.D us (a++b)
      | _,_=>none
def xfin(kk:Nat)(ars:List AR)(sr:SV)(rst:List SB)(us:List Ty):XK U (Hs U.D us)
 | .normal,env,J,_=>xread kk ars sr rst us env J
 | .ret,env,J,_=>xread kk ars sr rst us env J
 | _,_,_,_=>none
section
variable {P:Program} {nt kk N:Nat} {env:XEnv U} {J:XSt U} {env1:Env} {J1:Store}
def QC(kk:Nat)(Q:Exit->Env->Store->Nat->Prop):Exit->Env->Store->Nat->Prop:=
 fun e env J N=>∃N' env' J',Conv kk N env J N' env' J'/\Q e env' J' N'
theorem QC.cc{Q:Exit->Env->Store->Nat->Prop}:CC kk (QC kk Q):=
 fun e N env J N' env' J' h ⟨N2,e2,s2,h2,hq⟩=>⟨N2,e2,s2,h.trans h2,hq⟩
theorem AW.unqc{c:ACode}{env:Env}{J:Store}{Q:Exit->Env->Store->Nat->Prop}(h:AW P nt kk c env J N (QC kk Q)):AW P nt kk c env J N Q:=
 fun code hc Γ φ S a w hkk R=>wp_mono (h code hc Γ φ S a w hkk R) fun e a w ⟨φ',S',env',J',N',⟨N2,e2,s2,h2,hq⟩,R'⟩=>
  let⟨φ2,S2,R2⟩:=h2 Γ nt φ' S' a w hkk R';⟨φ2,S2,e2,s2,N2,hq,R2⟩
theorem ml(he:ER N J (fun _=>true) env env1)(hS:SR N J J1){ar:AR}{v:XV U}(h:ia env J ar=some v):∃p v1,cI env1 J1 ar=some (p,v1)/\p/\VR N J v v1:=by
 cases ar with
 | tmp t=>
  obtain⟨v1,h1,h2⟩:=he t v h;exact⟨True,v1,by simp[cI,h1],trivial,h2⟩
 | cell t g k=>
  simp only[ia]at h;split at h
  . rename_i b o hk;split at h
    . rename_i cs hcs;obtain⟨v1,h1,h2⟩:=he t _ hk;have:=h2.ptr_inv;subst this;obtain⟨_,y,h3,h4⟩:=hS b _ hcs;cases h4 with
      | box h4=>
       obtain⟨v2,h5,h6⟩:=cO h4 h;exact⟨True,v2,by simp[cI,h1,h3,h5],trivial,h6⟩
    . cases h
  . cases h
theorem iY(he:ER N J (fun _=>true) env env1)(hS:SR N J J1):∀{ars:List AR} {vs:List (XV U)},dc env J ars=some vs->∃p vs1,bG env1 J1 ars=some (p,vs1)/\p/\All2 (VR N J) vs vs1
 | [],vs,h=>by simp[dc]at h;subst h;exact⟨_,[],rfl,trivial,.nil⟩
 | r::rs,vs,h=>by
  simp only[dc]at h;split at h
  . rename_i v vs' h1 h2;cases h;obtain⟨p,v1,a1,a2,a3⟩:=ml he hS h1;obtain⟨q,vs1,b1,b2,b3⟩:=iY he hS h2;exact⟨p/\q,v1::vs1,by simp[bG,a1,b1],⟨a2,b2⟩,.cons a3 b3⟩
  . cases h
theorem ni{vs:List (XV U)}{vs1:List V}(h:All2 (VR N J) vs vs1):VR N J (xresV vs) (resV vs1):=by
 cases h with
 | nil=>exact .tup [] [] rfl (by simp)
 | cons h1 h2=>
  cases h2 with
  | nil=>exact h1
  | cons h2 h3=>
   refine .tup _ _ (by simp[h3.length]) fun i x d hx hd=>?_
   obtain⟨d',e1,e2⟩:=(All2.cons h1 (.cons h2 h3)).get hx
   grind
def Qf(s:FSpec U)(r:Hs U.D s.us):V->Store->Nat->Prop:=fun r1 J1' N'=>N'=s.rst.length/\VR N' (s.rest r) (s.res r) r1/\SR N' (s.rest r) J1'
theorem nj {ars : List AR} {s : FSpec U} {r : Hs U.D s.us} (h : xread kk ars s.sr s.rst s.us env J = some r) (he : ER N J (fun _ => true) env env1) (hS : SR N J J1):
 ∃env1' J1',Conv kk N env1 J1 N env1' J1'/\∃p vs1,bG env1' J1' ars=some (p,vs1)/\p/\
  ∃bs r2 J2,bs.Nodup/\keeps kk bs=true/\VSub ((resV vs1).ren bs) r2/\StSub (aB bs J1' 0 bs) J2/\Qf s r r2 J2 bs.length:=by
 unfold xread at h;split at h
 . cases h
 . split at h;rename_i bs fz _;split at h
   . cases h
   . rename_i env' J' hfz;obtain⟨e1,s1,c1,c2,c3,_⟩:=dS (kk:=kk) (gl:=[]) hfz he hS;split at h
     . cases h
     . rename_i vs' hvs';split at h
       . cases h
       . rename_i hb;simp only[Bool.and_eq_true]at hb;obtain⟨hb1,hb2,hb3⟩:=hb;have hnd:=dH hb1;have hlen:=af hb3;split at h
         . rename_i a b ha hbb;obtain⟨p,vs1,d1,d2,d3⟩:=iY c2 c3 hvs';obtain⟨y,f,g⟩:=chkV_sound hnd (ea hnd hbb) ha;obtain⟨r2,g1,g2⟩:=g _ (ni d3);obtain⟨s2,t1,t2⟩:=fp hnd c3 hbb;have hcell:=Hs.dec_cells h;have e1:s.res r=y:=by unfold FSpec.res;rw[hcell,f]
           have e2:s.rest r=filS 0 s.rst b:=by unfold FSpec.rest;rw[hcell,f]
           exact⟨_,_,c1,p,vs1,d1,d2,bs,r2,s2,hnd,hb2,g1,t1,hlen,by rw[e1,e2];exact g2,by rw[e2];exact t2⟩
         . cases h
def FAt(P:Program)(s:FSpec U)(h:Hs U.D s.ts)(r:Hs U.D s.us):Prop:=
 ∀(args1:List V) J1,All2 (VR s.st.length (s.ast h)) (s.args h) args1->SR s.st.length (s.ast h) J1->Con P s.f args1 J1 s.st.length (Qf s r)
theorem FSnd.of{s:FSpec U}(h:∀h r,s.F h=some r->FAt P s h r):FSnd P s:=h
theorem FAt.of_body {s : FSpec U} {fn : Func} {c : ACode} {ars : List AR} {fo : Fo U} {lo : Lo U} (hf : P.funcs[s.f]? = some fn) (hc : fn.body.bind (resolve P fn.ntmps) = some c) (hr : aO P fn.results.toList = some ars) (hn : Nat.ble s.sa.length fn.ntmps = true)
 (hfo:FoSnd P fo) (hlo:LoSnd P fn.ntmps s.st.length lo 0 c)
 {h:Hs U.D s.ts} {r:Hs U.D s.us} (hx:xmove s.st.length (s.ast h) (fun J N=>xexec fo lo s.st.length c 0 (xenv0 0 (s.args h)) J N (xfin s.st.length ars s.sr s.rst s.us))=some r):FAt P s h r:=by
 intro args1 J1 ha hS;have hlenA:args1.length<=fn.ntmps:=by
  rw[<-ha.length];refine Nat.le_trans (Nat.le_of_eq ?_) (aN hn);unfold FSpec.args;exact filVs_length
 have he0:ER s.st.length (s.ast h) (fun _=>true) (xenv0 0 (s.args h)) (env0 0 args1):=by
  intro k v hk;have key:∀{xs:List (XV U)} {ds:List V} {i:Nat},All2 (VR s.st.length (s.ast h)) xs ds->lk (xenv0 i xs) k=some v->∃v1,look (env0 i ds) k=some (true,v1)/\VR s.st.length (s.ast h) v v1:=by
   intro xs
   induction xs with
   | nil=>intro ds i _ h;simp[xenv0,lk]at h
   | cons x xs ih=>
    intro ds i hxs hlk;cases hxs with
    | cons h1 h2=>
     simp only[xenv0,lk]at hlk;simp only[env0,look];split at hlk
     . simp_all
     . rename_i hb;rw[if_neg (aL hb)];exact ih h2 hlk
  grind
 obtain⟨Jm,Nm,Jm1,hx,cm,hem,hSm,hkm⟩:=nb hx he0 hS;refine Con.tidy (Con.mk (nt:=fn.ntmps) hf hc hr rfl hlenA (AW.conv cm (AW.unqc (cp hfo hlo hx hem hSm hkm QC.cc fun e env' J' N' env1' J1' h1 h2 h3 h4=>?_)))) (fun r1 s1 N1 hh=>hh)
 . have fin:xread s.st.length ars s.sr s.rst s.us env' J'=some r->(e= .normal\/e= .ret)->QC s.st.length (Done ars fun r1 s1 N1=>∃bs r2 J2,bs.Nodup/\keeps s.st.length bs=true/\VSub (r1.ren bs) r2/\StSub (aB bs s1 0 bs) J2/\Qf s r r2 J2 bs.length) e env1' J1' N':=by
    intro hread hee;obtain⟨e1,s1,c1,p,vs1,d1,d2,rest⟩:=nj hread h2 h3;refine⟨N',e1,s1,c1,?_⟩;rcases hee with rfl | rfl
    . exact⟨p,vs1,d1,d2,rest⟩
    . exact⟨p,vs1,d1,d2,rest⟩
   cases e with
   | normal=>exact fin h1 (.inl rfl)
   | ret=>exact fin h1 (.inr rfl)
   | _=>cases h1
where
 filVs_length:∀{ss:List SV} {a:Cs U},(filVs ss a).1.length=ss.length
  | [],a=>rfl
  | s::ss,a=>by
   simp only[filVs];have:=filVs_length (ss:=ss) (a:=(filV s a).2);simp[this]
def aM :ACode->Nat->Option ACode
 | .seq a b,q=>match Nat.ble (aF a) q with
  | true=>aM b (q - aF a)
  | false=>aM a q
 | .cond _ a b,q=>match Nat.ble (aF a) q with
  | true=>aM b (q - aF a)
  | false=>aM a q
 | .block _ b,q=>aM b q
 | .loop b,q=>match q with
  | 0=>some b
  | q+1=>aM b q
 | _,_=>none
theorem LoSnd.of{lo:Lo U}:∀{c:ACode} {pos:Nat},(∀q b L,aM c q=some b->lo (pos+q)=some L->LSnd P nt kk b L)->LoSnd P nt kk lo pos c
 | .seq a b,pos,h=>by
  refine⟨LoSnd.of fun q b' L h1 h2=>h q b' L ?_ h2,LoSnd.of fun q b' L h1 h2=>h (aF a+q) b' L ?_ (by rw[<-Nat.add_assoc];exact h2)⟩
  . simp only[aM];cases hb:Nat.ble (aF a) q with
    | true=>exact absurd (loopAt_lt h1) (by have:=aN hb;omega)
    | false=>exact h1
  . simp only[aM];have:Nat.ble (aF a) (aF a+q)=true:=by simp
    grind
 | .cond c a b,pos,h=>by
  refine⟨LoSnd.of fun q b' L h1 h2=>h q b' L ?_ h2,LoSnd.of fun q b' L h1 h2=>h (aF a+q) b' L ?_ (by rw[<-Nat.add_assoc];exact h2)⟩
  . simp only[aM];cases hb:Nat.ble (aF a) q with
    | true=>exact absurd (loopAt_lt h1) (by have:=aN hb;omega)
    | false=>exact h1
  . simp only[aM];have:Nat.ble (aF a) (aF a+q)=true:=by simp
    grind
 | .block id b,pos,h=>LoSnd.of (c:=b) h
 | .loop b,pos,h=>fun L hL=>h 0 b L rfl hL
 | .skip,pos,h=>trivial
 | .region _,pos,h=>trivial
 | .regionD _ _,pos,h=>trivial
 | .exit _,pos,h=>trivial
 | .ret,pos,h=>trivial
where
 loopAt_lt:∀{c:ACode} {q:Nat} {b:ACode},aM c q=some b->q < aF c
  | .seq a b,q,b',h=>by
   simp only[aM]at h;simp only[aF];split at h
   . rename_i hb;have:=loopAt_lt h;have:=aN hb;omega
   . have:=loopAt_lt h;omega
  | .cond _ a b,q,b',h=>by
   simp only[aM]at h;simp only[aF];split at h
   . rename_i hb;have:=loopAt_lt h;have:=aN hb;omega
   . have:=loopAt_lt h;omega
  | .block _ b,q,b',h=>loopAt_lt (c:=b) h
  | .loop b,0,b',h=>by simp[aF]
  | .loop b,q+1,b',h=>by have:=loopAt_lt (c:=b) h;simp only[aF];omega
  | .skip,q,b',h=>by simp[aM]at h
  | .region _,q,b',h=>by simp[aM]at h
  | .regionD _ _,q,b',h=>by simp[aM]at h
  | .exit _,q,b',h=>by simp[aM]at h
  | .ret,q,b',h=>by simp[aM]at h
theorem LoSnd.of'{lo:Lo U}{c:ACode}(h:∀q L,lo q=some L->LSnd P nt kk ((aM c q).getD .skip) L):LoSnd P nt kk lo 0 c:=
 LoSnd.of fun q b L h1 h2=>by grind
theorem LoSnd.none{c:ACode}:LoSnd P nt kk (fun _=>none:Lo U) 0 c:=LoSnd.of' fun q L h=>by cases h
theorem FoSnd.none :FoSnd P (fun _=>[]:Fo U):=fun f s h=>by simp at h
end
end Go.Proofs.YtbciniegpkkapaaGreat.Shv
namespace Go.Proofs.YtbciniegpkkapaaGreat.Shv
open Go
def il(P:Program)(fn:Func):ACode:=
 match fn.body.bind (Shv.resolve P fn.ntmps)with
 | some c=>c
 | none=>.skip
def dn(c:ACode)(q:Nat):ACode:=(aM c q).getD .skip
def foS{U:Uni}:List (FSpec U)->Fo U
 | [],_=>[]
 | s::l,f=>match Nat.beq s.f f with
  | true=>s::foS l f
  | false=>foS l f
def loL{U:Uni}(l:List (Nat×LSpec U)):Lo U:=fun q=>lk l q
theorem FoSnd.nil{U:Uni}{P:Program}:FoSnd P (foS ([]:List (FSpec U))):=fun f s h=>by simp[foS]at h
theorem FoSnd.cons{U:Uni}{P:Program}{s:FSpec U}{l:List (FSpec U)}(hb:aT P s.f=true)(hs:FSnd P s)(h:FoSnd P (foS l)):FoSnd P (foS (s::l)):=by
 intro f t ht;simp only[foS]at ht;split at ht
 . rename_i hf;have:=af hf;rcases List.mem_cons.1 ht with rfl | ht
   . grind
   . exact h f t ht
 . exact h f t ht
def LoOk{U:Uni}(P:Program)(nt kk:Nat)(c:ACode)(l:List (Nat×LSpec U)):Prop:=∀q L,lk l q=some L->LSnd P nt kk (dn c q) L
theorem LoOk.nil{U:Uni}{P:Program}{nt kk:Nat}{c:ACode}:LoOk P nt kk c ([]:List (Nat×LSpec U)):=fun q L h=>by simp[lk]at h
theorem LoOk.cons{U:Uni}{P:Program}{nt kk:Nat}{c:ACode}{q:Nat}{L:LSpec U}{l:List (Nat×LSpec U)}(hL:LSnd P nt kk (dn c q) L)(h:LoOk P nt kk c l):LoOk P nt kk c ((q,L)::l):=by
 intro q' L' hq;simp only[lk]at hq;split at hq
 . simp_all
 . exact h q' L' hq
theorem LoOk.snd{U:Uni}{P:Program}{nt kk:Nat}{c:ACode}{l:List (Nat×LSpec U)}(h:LoOk P nt kk c l):LoSnd P nt kk (loL l) 0 c:=LoSnd.of' fun q L hq=>h q L hq
def addI(k:IntKind)(a b:Int):Int:=k.wrap (a+b)
def subI(k:IntKind)(a b:Int):Int:=k.wrap (a - b)
def andI(k:IntKind)(a b:Int):Int:=k.wrap (BitVec.ofInt k.bits a &&& BitVec.ofInt k.bits b).toNat
def shrI(k:IntKind)(a b:Int):Int:=a.fdiv (2 ^ min b.toNat k.bits)
end Go.Proofs.YtbciniegpkkapaaGreat.Shv
namespace Go.Proofs.YtbciniegpkkapaaGreat.Shv
open Go
set_option linter.all false
variable {U:Uni}
structure LEnt where
 q:Nat
 sh:Shape
 own:List (Pos×Ty)
 rown:List (Pos×Ty)
 ts:List Ty
 outs:List OSpec
 sub:List LEnt
structure FEnt where
 f:Nat
 sa:List SV
 st:List SB
 ts:List Ty
 sr:SV
 rst:List SB
 us:List Ty
 sub:List LEnt
def LEnt.l(e:LEnt)(F:Hs U.D e.ts->Option (OSum U e.outs)):LSpec U:=⟨e.sh,e.own,e.ts,e.outs,F⟩
def FEnt.s(e:FEnt)(F:Hs U.D e.ts->Option (Hs U.D e.us)):FSpec U:=⟨e.f,e.sa,e.st,e.ts,e.sr,e.rst,e.us,F⟩
def codeF(P:Program)(f:Nat):ACode:=match P.funcs[f]? with
 | some fn=>il P fn
 | none=>.skip
def ntF(P:Program)(f:Nat):Nat:=match P.funcs[f]? with
 | some fn=>fn.ntmps
 | none=>0
def arsF(P:Program)(f:Nat):List AR:=match P.funcs[f]? with
 | some fn=>(match aO P fn.results.toList with
  | some r=>r
  | none=>[])
 | none=>[]
def okE(P:Program)(e:FEnt):Bool:=match P.funcs[e.f]? with
 | some fn=>aT P e.f && ((fn.body.bind (resolve P fn.ntmps)).isSome && ((aO P fn.results.toList).isSome && Nat.ble e.sa.length fn.ntmps))
 | none=>false
def Fok(P:Program)(e:FEnt):Prop:=okE P e=true
theorem Fok.m{P:Program}{e:FEnt}(h:okE P e=true):Fok P e:=h
def dp(fo:Fo U)(lo:Lo U)(kk:Nat)(b:ACode)(e:LEnt)(F':Hs U.D e.ts->Option (OSum U e.outs))(h:Hs U.D e.ts):Option (OSum U e.outs):=
 xexec fo lo kk b 0 (fil U e.sh (Hs.cells U.D e.ts h)).1 (fil U e.sh (Hs.cells U.D e.ts h)).2 e.sh.st.length (fun x env J N=>match x with
  | .normal=>match xgoto kk e.rown e.sh e.ts env J N with
   | some h'=>F' h'
   | none=>none
  | x=>oput kk e.outs x env J N)
def xbody(fo:Fo U)(lo:Lo U)(P:Program)(e:FEnt)(h:Hs U.D e.ts):Option (Hs U.D e.us):=
 xmove e.st.length (filS 0 e.st (filVs e.sa (Hs.cells U.D e.ts h)).2) fun J N=>xexec fo lo e.st.length (codeF P e.f) 0 (xenv0 0 (filVs e.sa (Hs.cells U.D e.ts h)).1) J N (xfin e.st.length (arsF P e.f) e.sr e.rst e.us)
section
variable {P:Program}
theorem j7 {fo : Fo U} (hfo : FoSnd P fo) {lo : Lo U} {nt kk : Nat} {b : ACode} {e : LEnt} {h : Hs U.D e.ts} {o : OSum U e.outs} {F' : Hs U.D e.ts -> Option (OSum U e.outs)}
 (hlo:LoSnd P nt kk lo 0 b) (hF':∀h o,F' h=some o->LAt P nt kk b e.sh e.ts e.outs h o) (hx:dp fo lo kk b e F' h=some o):LAt P nt kk b e.sh e.ts e.outs h o:=by
 refine LAt.of_round (own:=e.rown) hfo hlo hF' (Eq.trans ?_ hx);unfold dp
 congr 1
 funext x env J N
 cases x with
 | normal=>
  dsimp only;generalize xgoto kk e.rown e.sh e.ts env J N=z;cases z <;> rfl
 | _=>rfl
theorem kA {fo : Fo U} {lo : Lo U} {e : FEnt} (hk : Fok P e) (F : Hs U.D e.ts -> Option (Hs U.D e.us)) (hfo : FoSnd P fo) (hlo : LoSnd P (ntF P e.f) e.st.length lo 0 (codeF P e.f))
 {h:Hs U.D e.ts} {r:Hs U.D e.us} (hx:xbody fo lo P e h=some r):FAt P (e.s F) h r:=by
 unfold Fok okE at hk;unfold codeF at hlo;unfold ntF at hlo;unfold xbody codeF arsF at hx;split at hk
 . rename_i fn hfn;simp only[hfn]at hlo hx;simp only[Bool.and_eq_true]at hk;obtain⟨h3,h4,h5,h6⟩:=hk;obtain⟨c,hc⟩:=Option.isSome_iff_exists.1 h4;obtain⟨ars,hr⟩:=Option.isSome_iff_exists.1 h5;have ec:il P fn=c:=by unfold il;rw[hc]
   rw[ec]at hlo hx;simp only[hr]at hx;exact FAt.of_body (s:=e.s F) hfn hc hr h6 hfo hlo hx
 . cases hk
theorem Fok.b{e:FEnt}(hk:Fok P e):aT P e.f=true:=by
 unfold Fok okE at hk
 grind
def evL(fo:Fo U)(kk:Nat):Nat->ACode->(e:LEnt)->Hs U.D e.ts->Option (OSum U e.outs)
 | 0,_,_,_=>none
 | n+1,b,e,h=>dp fo (loL (e.sub.map fun s=>(s.q,s.l (evL fo kk n (dn b s.q) s)))) kk b e (evL fo kk n b e) h
def tabS(g:(e:FEnt)->Hs U.D e.ts->Option (Hs U.D e.us))(r:List (FSpec U)):List FEnt->Fo U
 | [],f=>foS r f
 | e::T,f=>match Nat.beq e.f f with
  | true=>e.s (g e)::tabS g r T f
  | false=>tabS g r T f
def evF(P:Program)(T:List FEnt)(X:List (FSpec U)):Nat->(e:FEnt)->Hs U.D e.ts->Option (Hs U.D e.us)
 | 0,_,_=>none
 | n+1,e,h=>xbody (tabS (evF P T X n) X T) (loL (e.sub.map fun s=>(s.q,s.l (evL (tabS (evF P T X n) X T) e.st.length n (dn (codeF P e.f) s.q) s)))) P e h
theorem loMap{nt kk:Nat}{b:ACode}{g:(s:LEnt)->Hs U.D s.ts->Option (OSum U s.outs)}:∀{l:List LEnt},(∀s h o,g s h=some o->LAt P nt kk (dn b s.q) s.sh s.ts s.outs h o)->LoOk P nt kk b (l.map fun s=>(s.q,s.l (g s)))
 | [],_=>LoOk.nil
 | s::l,hg=>LoOk.cons (fun h o ho=>hg s h o ho) (loMap (l:=l) hg)
theorem ib{fo:Fo U}(hfo:FoSnd P fo){nt kk:Nat}:∀(n:Nat) (b:ACode) (e:LEnt) (h:Hs U.D e.ts) (o:OSum U e.outs),evL fo kk n b e h=some o->LAt P nt kk b e.sh e.ts e.outs h o
 | 0,_,_,_,_,hx=>by simp[evL]at hx
 | n+1,b,e,h,o,hx=>j7 hfo (LoOk.snd (loMap fun s h o ho=>ib hfo n _ s h o ho)) (fun h o ho=>ib hfo n b e h o ho) hx
theorem ll{g:(e:FEnt)->Hs U.D e.ts->Option (Hs U.D e.us)}{r:List (FSpec U)}(hr:FoSnd P (foS r)):∀{T:List FEnt},(∀e,e∈T->Fok P e)->(∀e,e∈T->FSnd P (e.s (g e)))->FoSnd P (tabS g r T)
 | [],_,_=>hr
 | e::T,hk,hg=>by
  intro f t ht;simp only[tabS]at ht;have ih:=ll hr (fun e he=>hk e (List.mem_cons_of_mem _ he)) (fun e he=>hg e (List.mem_cons_of_mem _ he));split at ht
  . rename_i hf;have:=af hf;rcases List.mem_cons.1 ht with rfl | ht
    . exact⟨this,by rw[<-this];exact(hk e List.mem_cons_self).b,hg e List.mem_cons_self⟩
    . exact ih f t ht
  . exact ih f t ht
theorem lm{T:List FEnt}(hk:∀e,e∈T->Fok P e){X:List (FSpec U)}(hX:FoSnd P (foS X)):∀(n:Nat) (e:FEnt),Fok P e->FSnd P (e.s (evF P T X n e))
 | 0,e,_=>fun h r hr=>by simp[FEnt.s,evF]at hr
 | n+1,e,he=>FSnd.of fun h r hr=>
  have hfo:FoSnd P (tabS (evF P T X n) X T):=ll hX hk fun e' he'=>lm hk hX n e' (hk e' he')
  kA he _ hfo (LoOk.snd (loMap fun s h o ho=>ib hfo n _ s h o ho)) hr
end
end Go.Proofs.YtbciniegpkkapaaGreat.Shv
namespace Go.Proofs.YtbciniegpkkapaaGreat.Shv
open Go
set_option linter.all false
variable {U:Uni} {P:Program}
def FnC(P:Program)(s:FSpec U):Prop:=aT P s.f=true/\FSnd P s
def pathF(P:Program)(f:Nat):List Nat->ACode
 | []=>codeF P f
 | q::p=>dn (pathF P f p) q
def LpC(P:Program)(f kk:Nat)(p:List Nat)(e:LEnt)(F:Hs U.D e.ts->Option (OSum U e.outs)):Prop:=LSnd P (ntF P f) kk (pathF P f p) (e.l F)
def FoC(P:Program)(l:List (FSpec U)):Prop:=FoSnd P (foS l)
theorem FoC.n :FoC P ([]:List (FSpec U)):=FoSnd.nil
theorem FoC.k{s:FSpec U}{l:List (FSpec U)}(h:FnC P s)(hl:FoC P l):FoC P (s::l):=FoSnd.cons h.1 h.2 hl
def LoC(P:Program)(f kk:Nat)(p:List Nat)(l:List (Nat×LSpec U)):Prop:=LoOk P (ntF P f) kk (pathF P f p) l
theorem LoC.n{f kk:Nat}{p:List Nat}:LoC P f kk p ([]:List (Nat×LSpec U)):=LoOk.nil
theorem LoC.k{f kk q:Nat}{p:List Nat}{e:LEnt}{F:Hs U.D e.ts->Option (OSum U e.outs)}{l:List (Nat×LSpec U)}(h:LpC P f kk (q::p) e F)(hl:LoC P f kk p l):LoC P f kk p ((q,e.l F)::l):=LoOk.cons h hl
def FQ(P:Program)(U:Uni)(e:FEnt)(h:Hs U.D e.ts)(r:Hs U.D e.us):Prop:=FAt P (e.s fun _=>none) h r
def LQ(P:Program)(U:Uni)(f kk:Nat)(p:List Nat)(e:LEnt)(h:Hs U.D e.ts)(o:OSum U e.outs):Prop:=LAt P (ntF P f) kk (pathF P f p) e.sh e.ts e.outs h o
theorem FQ.at{e:FEnt}(hk:Fok P e){fs:List (FSpec U)}(hf:FoC P fs){ls:List (Nat×LSpec U)}(hl:LoC P e.f e.st.length [] ls){h:Hs U.D e.ts}{r:Hs U.D e.us}(hx:xbody (foS fs) (loL ls) P e h=some r):FQ P U e h r:=
 kA hk _ hf (LoOk.snd hl) hx
theorem LQ.at {f kk : Nat} {p : List Nat} {e : LEnt} {F' : Hs U.D e.ts -> Option (OSum U e.outs)} (hF : ∀ h o, F' h = some o -> LQ P U f kk p e h o) {fs : List (FSpec U)} (hf : FoC P fs) {ls : List (Nat×LSpec U)} (hl : LoC P f kk p ls) {h : Hs U.D e.ts} {o : OSum U e.outs}
 (hx:dp (foS fs) (loL ls) kk (pathF P f p) e F' h=some o):LQ P U f kk p e h o:=
 j7 hf (LoOk.snd hl) hF hx
theorem FnC.of{e:FEnt}(hk:Fok P e){F:Hs U.D e.ts->Option (Hs U.D e.us)}(h:∀h r,F h=some r->FQ P U e h r):FnC P (e.s F):=⟨hk.b,FSnd.of h⟩
theorem LpC.of{f kk:Nat}{p:List Nat}{e:LEnt}{F:Hs U.D e.ts->Option (OSum U e.outs)}(h:∀h o,F h=some o->LQ P U f kk p e h o):LpC P f kk p e F:=h
theorem FnC.fn{e:FEnt}(hk:Fok P e){F:Hs U.D e.ts->Option (Hs U.D e.us)}{fs:List (FSpec U)}(hf:FoC P fs){ls:List (Nat×LSpec U)}(hl:LoC P e.f e.st.length [] ls)(hx:∀h,xbody (foS fs) (loL ls) P e h=F h):FnC P (e.s F):=
 .of hk fun h r hr=>.at hk hf hl ((hx h).trans hr)
theorem FnC.rc {e : FEnt} (hk : Fok P e) {F : Hs U.D e.ts -> Option (Hs U.D e.us)} {b : (Hs U.D e.ts -> Option (Hs U.D e.us)) -> Hs U.D e.ts -> Option (Hs U.D e.us)}
 (pc:∀m:Hs U.D e.ts->Hs U.D e.us->Prop,(∀F',(∀h r,F' h=some r->m h r)->∀h r,b F' h=some r->m h r)->∀h r,F h=some r->m h r)
 {fs:(Hs U.D e.ts->Option (Hs U.D e.us))->List (FSpec U)} (hf:∀F',FnC P (e.s F')->FoC P (fs F')) {ls:List (Nat×LSpec U)} (hl:LoC P e.f e.st.length [] ls) (hx:∀F' h,xbody (foS (fs F')) (loL ls) P e h=b F' h):FnC P (e.s F):=
 .of hk (pc _ fun F' hF h r hr=>.at hk (hf F' (.of hk hF)) hl ((hx F' h).trans hr))
theorem LpC.rc {f kk : Nat} {p : List Nat} {e : LEnt} {F : Hs U.D e.ts -> Option (OSum U e.outs)} {b : (Hs U.D e.ts -> Option (OSum U e.outs)) -> Hs U.D e.ts -> Option (OSum U e.outs)}
 (pc:∀m:Hs U.D e.ts->OSum U e.outs->Prop,(∀F',(∀h r,F' h=some r->m h r)->∀h r,b F' h=some r->m h r)->∀h r,F h=some r->m h r)
 {fs:List (FSpec U)} (hf:FoC P fs) {ls:List (Nat×LSpec U)} (hl:LoC P f kk p ls) (hx:∀F' h,dp (foS fs) (loL ls) kk (pathF P f p) e F' h=b F' h):LpC P f kk p e F:=
 .of (pc _ fun F' hF h o ho=>.at hF hf hl ((hx F' h).trans ho))
theorem FnC.fx {e : FEnt} {F : Hs U.D e.ts -> Option (Hs U.D e.us)} {fs : List (FSpec U)} (hf : FoC P fs := by exact .n) {ls : List (Nat×LSpec U)} (hl : LoC P e.f e.st.length [] ls := by exact .n) (hk : Fok P e := by exact .m (by kernel_rfl))
 (hx:∀h,xbody (foS fs) (loL ls) P e h=F h:=by intro _;kernel_rfl):FnC P (e.s F):= .fn hk hf hl hx
theorem FnC.rx {e : FEnt} {F : Hs U.D e.ts -> Option (Hs U.D e.us)} {b : (Hs U.D e.ts -> Option (Hs U.D e.us)) -> Hs U.D e.ts -> Option (Hs U.D e.us)}
 (pc:∀m:Hs U.D e.ts->Hs U.D e.us->Prop,(∀F',(∀h r,F' h=some r->m h r)->∀h r,b F' h=some r->m h r)->∀h r,F h=some r->m h r)
 {fs:(Hs U.D e.ts->Option (Hs U.D e.us))->List (FSpec U)} (hf:∀F',FnC P (e.s F')->FoC P (fs F')) {ls:List (Nat×LSpec U)} (hl:LoC P e.f e.st.length [] ls:=by exact .n) (hk:Fok P e:=by exact .m (by kernel_rfl))
 (hx:∀F' h,xbody (foS (fs F')) (loL ls) P e h=b F' h:=by intro _ _;kernel_rfl):FnC P (e.s F):= .rc hk pc hf hl hx
theorem LpC.rx {f kk : Nat} {p : List Nat} {e : LEnt} {F : Hs U.D e.ts -> Option (OSum U e.outs)} {b : (Hs U.D e.ts -> Option (OSum U e.outs)) -> Hs U.D e.ts -> Option (OSum U e.outs)}
 (pc:∀m:Hs U.D e.ts->OSum U e.outs->Prop,(∀F',(∀h r,F' h=some r->m h r)->∀h r,b F' h=some r->m h r)->∀h r,F h=some r->m h r)
 {fs:List (FSpec U)} (hf:FoC P fs:=by exact .n) {ls:List (Nat×LSpec U)} (hl:LoC P f kk p ls:=by exact .n) (hx:∀F' h,dp (foS fs) (loL ls) kk (pathF P f p) e F' h=b F' h:=by intro _ _;kernel_rfl):LpC P f kk p e F:= .rc pc hf hl hx
theorem qg{T:List FEnt}(h:T.all (okE P)=true):∀e,e∈T->Fok P e:=fun e he=>List.all_eq_true.1 h e he
theorem FnC.run{T:List FEnt}(hT:T.all (okE P)=true){X:List (FSpec U)}(hX:FoC P X){e:FEnt}(hk:Fok P e){F:Hs U.D e.ts->Option (Hs U.D e.us)}(n:Nat)(h:∀h,F h=evF P T X n e h):FnC P (e.s F):=
 ⟨hk.b,fun x r hr=>lm (qg hT) hX n e hk x r ((h x).symm.trans hr)⟩
abbrev tI :Ty:= .int .i64
abbrev tL(n:Nat):Ty:= .slice (.nm n)
abbrev tLI :Ty:= .slice (.int .i64)
abbrev hh(t:Ty):SV:= .c (.hole t)
abbrev hP(b o:Nat):SV:= .c (.ptr b o)
abbrev bb(t:Ty):SB:= .box [.hole t]
abbrev oR(k:Nat)(t:Ty):OSpec:=⟨.ret,⟨[(k,hh t)],[]⟩,[],[t]⟩
abbrev oX(i:Nat):OSpec:=⟨.exit i,⟨[],[]⟩,[],[]⟩
end Go.Proofs.YtbciniegpkkapaaGreat.Shv
namespace Go.Proofs.YtbciniegpkkapaaGreat.Shv
set_option linter.all false
section
open Go
variable {U:Uni}
def gQ(sz bytes:Nat)(z:List C):ACode:=
 .seq (.region [⟨some 2,.mov (.const (.c .cap0)),none⟩])
  (.seq (.seq (.region [⟨some 3, .mov (.tmp 0), none⟩, ⟨some 4, .eqNil false (.tmp 3), none⟩])
   (.cond (.tmp 4) (.seq (.region [⟨some 2,.mov (.const (.c .cap0)),none⟩]) .ret) .skip))
   (.seq (.region [⟨some 5,.bslice sz 0 z [],none⟩,⟨some 6,.mov (.tmp 0),none⟩,⟨some 7,.append sz bytes (.tmp 5) (.tmp 6),none⟩,⟨some 2,.mov (.tmp 7),none⟩]) .ret))
def rum1(bytes n:Nat):Bool:=(decide ((2*n+192)*bytes<=cu) || decide ((n+n / 4+512)*bytes<=cu)) && decide (n<=az)
theorem qh{bytes n:Nat}(h:rum1 bytes n=true):capOk n bytes/\n<=az:=by
 unfold rum1 at h;simp only[Bool.and_eq_true,Bool.or_eq_true,decide_eq_true_eq]at h;exact h
def ei{α:Type}(bytes:Nat)(l:List α):Option (List α):=if rum1 bytes l.length=true then some l else none
def fG(U:Uni)(f:Nat)(t:Ty)(bytes:Nat):FSpec U:=
 ⟨f,[.c (.hole (.slice t))],[],[.slice t],.c (.arr 0),[.arr t],[.slice t],fun(l:List (t.den U.D))=>ei bytes l⟩
section
variable {P:Program}
theorem o9 {f : Nat} {fn : Func} {sz bytes : Nat} {z : List C} {zt : List T} {es : List (List T)} (hf : P.funcs[f]? = some fn) (hc : fn.body.bind (Shv.resolve P fn.ntmps) = some (gQ sz bytes z)) (hr : aO P fn.results.toList = some [.tmp 2])
 (hn:1<=fn.ntmps) (hz:toTs z=some zt) (hsz:0 < sz) (he:∀e,e∈es->e.length=sz) (hroom:rum1 bytes es.length=true):
 Con P f [.c (.t (.slice es))] [] 0 (fun r J' N'=>N'=1/\r= .c (.arr 0 sz 0 es.length)/\sget J' 0=some (.arr sz es)):=by
 have hroom':=qh hroom;refine Con.tidy (Q:=fun r J' N'=>∃b,r= .c (.arr b sz 0 es.length)/\sget J' b=some (.arr sz es)) (Con.mk hf hc hr rfl (by simpa using hn) ?_) ?_
 . unfold gQ;refine AW.seq (AW.region ?_);simp only[aops,astep,aG,aval,AO.get,Option.map_some,aw,env0,AOp.neutral,if_true,andThen];refine .inr ⟨fun _=>trivial,.inl trivial,?_⟩;refine AW.seq (AW.seq (AW.region ?_));simp only[aops,astep,aG,aval,AO.get,Option.map_some,aw,AOp.neutral,if_true,andThen,look,List.length_cons,List.length_nil]
   refine .inr ⟨fun _=>by simp,.inl trivial,?_⟩;refine .inr ?_;simp only[Nat.reduceEqDiff,if_false,if_true,Option.map_some,true_and];intro b hb;refine AW.cond (b:=b) (p:=True) (by simp[AO.get,look,boolV]) trivial (fun hbt=>?_) (fun hbf=>?_)
   ·
    have hes:es=[]:=by grind
    subst hes;refine AW.seq (AW.region ?_);simp only[aops,astep,aG,aval,AO.get,Option.map_some,aw,AOp.neutral,if_true,andThen];refine .inr ⟨fun _=>trivial,.inl trivial,?_⟩;refine AW.conv (Conv.own (k:=2) (g:=true) (sz:=sz) rfl hsz (Nat.zero_le _)) (AW.ret ?_)
    refine⟨_,_,rfl,⟨rfl,trivial⟩,_,rfl,?_⟩;rw[aj,if_pos rfl]
   . refine AW.skip ?_;refine AW.seq (AW.region ?_);simp only[aops,astep,aG,aval,AO.get,Option.map_some,aw,AOp.neutral,if_true,andThen,look,aX,hz,oZ3,Nat.reduceEqDiff,if_false,Bool.false_eq_true,reduceCtorEq,ysOf,aj,List.replicate];refine .inr ⟨fun _=>trivial,.inr trivial,?_⟩;refine .inr ⟨fun _=>by simp,.inl trivial,?_⟩
     refine .inr ⟨fun _=>⟨trivial,trivial,trivial,trivial,trivial,by simp,he,by simpa using hroom'.1,by simpa using hroom'.2⟩,.inr trivial,?_⟩;refine .inr ⟨fun _=>by simp,.inl trivial,?_⟩;refine AW.ret ⟨_,[.c (.arr 80 sz 0 (0+es.length))],rfl,⟨rfl,trivial⟩,80,by rw[Nat.zero_add];rfl,?_⟩;rw[aj,if_pos rfl];simp
 . rintro r J' N' ⟨b,rfl,hs⟩
   refine⟨[b],_,_,by simp,rfl,?_,fun i x hx=>⟨x,hx,?_⟩,rfl,rfl,?_⟩
   . simp only[V.ren,C.ren,pos,if_true];exact .c (CSub.refl _)
   . cases x with
     | box cs=>exact .box (All2.self CSub.refl _)
     | arr sz es=>exact .arr
     | set ks=>exact .same
     | buf E s=>exact .same
     | bld E c=>exact .bld (CSub.refl _)
     | arro sz es i o c=>exact .arro (CSub.refl _)
   . simp[aB,hs,sget,Blk.ren]
theorem pd {f : Nat} {fn : Func} {sz bytes : Nat} {z : List C} {zt : List T} {t : Ty} (hf : P.funcs[f]? = some fn) (hc : fn.body.bind (Shv.resolve P fn.ntmps) = some (gQ sz bytes z)) (hr : aO P fn.results.toList = some [.tmp 2])
 (hn:Nat.ble 1 fn.ntmps=true) (hz:toTs z=some zt) (hsz:t.sz U=sz):FSnd P (fG U f t bytes):=by
 intro(l:List (t.den U.D)) r hF args1 J1 ha hS;subst hsz;have hF':ei bytes l=some r:=hF;unfold ei at hF';split at hF'
 . rename_i hroom;cases hF';cases ha with
   | cons h1 h2=>
    cases h2;have:=VR.slice_inv (t:=t) (l:=l) h1;subst this
    refine Con.conv (J':=[]) (.cons (.c (CSub.refl _)) .nil) (fun b x hx=>by simp[sget]at hx) ((o9 (bytes:=bytes) hf hc hr (aN hn) hz Ty.sz_pos (es:=List.map (t.enc U) l) (fun e he=>by
     obtain⟨y,_,rfl⟩:=List.mem_map.1 he
     exact Ty.enc_length) (by rw[List.length_map];exact hroom)).mono ?_)
    rintro r1 s1 N1 ⟨rfl,rfl,hs⟩
    refine⟨rfl,.c (.arr 0 _ _ (by omega) fun x hx p hp=>?_),fun b x hx=>?_⟩
    . have:x=XB.arr t l:=by
       simp only[FSpec.rest,fG,filV,filC,Hs.cells,HsC.cells,filS,filB,lk,Nat.beq,Option.some.injEq]at hx
       grind
      subst this;simp only[XB.dim,Option.some.injEq]at hp;rw[<-hp,List.length_map]
    . have hx':(if b=0 then some (XB.arr t l)else none)=some x:=by
       rw[<-hx];simp only[FSpec.rest,fG,filV,filC,Hs.cells,HsC.cells,filS,filB,lk];cases b <;> rfl
      split at hx'
      . rename_i hb;cases hx';subst hb;exact⟨by omega,_,hs,.arr t l⟩
      . cases hx'
 . cases hF'
end
end
section
open Go Go.ChangeShapes Go.WideShapes Go.RowKit
variable {U:Uni}
def Ty.w1 :Ty->Nat
 | .bool=>1
 | .int k=>k.bits / 8
 | .str=>16
 | .slice _=>24
 | .nm _=>0
def im :List Ty->Nat
 | []=>0
 | t::r=>t.w1+im r
def cL(l:List Ty):Nat:=bif l.any fun t=>Nat.ble 8 t.w1 then(im l+7) / 8*8 else im l
def Ty.bytes(U:Uni)(t:Ty):Nat:=cL (t.cells U)
inductive WF (U:Uni):Cell U.D->Prop
 | bool (b:Bool):WF U ⟨.bool,b⟩
 | int (k:IntKind) (n:Int) (h:(Lit.int k n).wf=true):WF U ⟨.int k,n⟩
 | str (s:List UInt8) (h:s.length<=reachBytes):WF U ⟨.str,s⟩
 | slice (t:Ty) (l:List (t.den U.D)) (h:l.length<=reachBytes) (h2:l.length*t.bytes U<=reachBytes) (hl:∀x,x∈l->∀c,c∈t.row U x->WF U c):WF U ⟨.slice t,l⟩
def Uni.Total(U:Uni):Prop:=∀n (l:List (Cell U.D)),l.map Cell.ty=U.tys n->∃x,U.make n l=some x
def tysEq :List Ty->List Ty->Bool
 | [],[]=>true
 | a::l,b::m=>Ty.beq a b && tysEq l m
 | _,_=>false
theorem kT :∀{l m:List Ty},tysEq l m=true->l=m
 | [],[],_=>rfl
 | a::l,b::m,h=>by
  simp only[tysEq,Bool.and_eq_true]at h;rw[Ty.beq_eq h.1,kT h.2]
 | [],_::_,h=>by cases h
 | _::_,[],h=>by cases h
def ej(P:Program)(g:TypeId->Option (List Ty)):List Field->Nat->Nat->Option (List Ty)
 | [],off,tot=>match Nat.beq off tot with
  | true=>some []
  | false=>none
 | f::r,off,tot=>match g f.type with
  | none=>none
  | some a=>match Nat.beq f.offset off && Nat.beq (P.cellsOf f.type) a.length with
   | false=>none
   | true=>match ej P g r (off+a.length) tot with
    | none=>none
    | some b=>some (a++b)
def flat(P:Program)(U:Uni)(st:TypeId->Option Nat):Nat->TypeId->Option (List Ty)
 | 0,_=>none
 | n+1,t=>match P.underlying t with
  | some .bool=>some [.bool]
  | some (.int k)=>some [.int k]
  | some .string=>some [.str]
  | some (.slice e)=>match st e with
   | some m=>match Nat.ble 1 (P.bytesOf e) && Nat.ble (cL (U.tys m)) (P.bytesOf e)with
    | true=>some [.slice (.nm m)]
    | false=>none
   | none=>match flat P U st n e with
    | none=>none
    | some a=>match Nat.ble 1 (P.bytesOf e) && Nat.ble (cL a) (P.bytesOf e)with
     | false=>none
     | true=>match a with
      | [ty]=>match ty.isNm with
       | true=>none
       | false=>some [.slice ty]
      | _=>none
  | some (.struct fs)=>ej P (flat P U st n) fs.toList 0 (P.cellsOf t)
  | some (.array k e)=>match flat P U st n e with
   | none=>none
   | some a=>match Nat.beq (P.cellsOf t) (k*a.length) && Nat.beq (P.cellsOf e) a.length with
    | false=>none
    | true=>some (List.replicate k a).flatten
  | _=>none
theorem jE{α:Type}{R:Nat->α->Prop}:∀(n:Nat),(∀i,i < n->∃x,R i x)->∃l:List α,l.length=n/\∀(i:Nat) x,l[i]?=some x->R i x
 | 0,_=>⟨[],rfl,by simp⟩
 | n+1,h=>by
  obtain⟨l,hl,hr⟩:=jE n fun i hi=>h i (by omega)
  obtain⟨x,hx⟩:=h n (by omega);refine⟨l++[x],by simp[hl],fun i y hy=>?_⟩
  grind
section
variable {H:Type} {enc:TypeId×Value->H} {P:Program} {w:World}
abbrev Old(w:World):Stab:=fun b _=>b < w.heap.size
structure Rd (U:Uni) (w:World) (tys:List Ty) (cs:List Value) (l:List (Cell U.D)):Prop where
 ty:l.map Cell.ty=tys
 wf:∀c,c∈l->WF U c
 rt:All2 (fun c v=>RT w (Old w) (Cell.enc U c) v) l cs
theorem ek{t:Ty}{x:t.den U.D}{v:Value}(h1:WF U ⟨t,x⟩)(h2:RT w (Old w) (Cell.enc U ⟨t,x⟩) v):Rd U w [t] [v] [⟨t,x⟩]:=
 ⟨rfl,by simpa using h1,.cons h2 .nil⟩
theorem fP{t:TypeId}:∀{ds:List (DataW H)} {d:DataW H},d∈ds->∀n∈d.weights P t,n∈DataW.weightsAll P t ds
 | d0::ds,d,hd,n,hn=>by
  simp only[DataW.weightsAll,List.mem_append];rcases List.mem_cons.1 hd with rfl | hd
  . grind
  . exact .inr (fP hd n hn)
theorem kB {g : TypeId -> Option (List Ty)} {cs : List Value}: ∀ {fs : List Field} {off tot : Nat} {tys : List Ty},
 (∀f,f∈fs->∀a,g f.type=some a->∃l,Rd U w a ((cs.drop f.offset).take (P.cellsOf f.type)) l)->
 ej P g fs off tot=some tys->cs.length=tot->∃l,Rd U w tys (cs.drop off) l
 | [],off,tot,tys,_,h,hl=>by
  simp only[ej]at h;split at h
  . rename_i e;cases h;have:=af e;refine⟨[],rfl,by simp,?_⟩;rw[List.drop_eq_nil_of_le (by omega)];exact .nil
  . cases h
 | f::r,off,tot,tys,hg,h,hl=>by
  simp only[ej]at h;split at h
  . cases h
  . rename_i a ha;split at h
    . cases h
    . rename_i hb;simp only[Bool.and_eq_true]at hb;have h1:=af hb.1;have h2:=af hb.2;split at h
      . cases h
      . rename_i b hb2;cases h;obtain⟨l1,hl1⟩:=hg f (by simp) a ha;obtain⟨l2,hl2⟩:=kB (fun f hf=>hg f (by simp[hf])) hb2 hl;refine⟨l1++l2,by simp[hl1.ty,hl2.ty],?_,?_⟩
        . intro c hc;rcases List.mem_append.1 hc with hc | hc
          . exact hl1.wf c hc
          . exact hl2.wf c hc
        . have e:cs.drop off=(cs.drop off).take a.length++cs.drop (off+a.length):=by rw[<-List.drop_drop,List.take_append_drop]
          rw[e];refine All2.append ?_ hl2.rt;have:=hl1.rt
          grind
theorem lB {a : List Ty} {cs : List Value}: ∀ (k off : Nat), (∀ i, i < k -> ∃ l, Rd U w a ((cs.drop (off + i * a.length)).take a.length) l) -> cs.length = off + k * a.length ->
 ∃l,Rd U w (List.replicate k a).flatten (cs.drop off) l
 | 0,off,_,hl=>by
  refine⟨[],rfl,by simp,?_⟩;rw[List.drop_eq_nil_of_le (by omega)];exact .nil
 | k+1,off,hg,hl=>by
  obtain⟨l1,hl1⟩:=hg 0 (by omega);rw[Nat.zero_mul,Nat.add_zero]at hl1
  obtain⟨l2,hl2⟩:=lB (a:=a) (cs:=cs) k (off+a.length) (fun i hi=>by
   have:=hg (i+1) (by omega)
   rwa [Nat.succ_mul,Nat.add_comm (i*a.length),<-Nat.add_assoc]at this) (by rw[hl,Nat.succ_mul];omega)
  refine⟨l1++l2,by simp[hl1.ty,hl2.ty,List.replicate_succ],?_,?_⟩
  . intro c hc;rcases List.mem_append.1 hc with hc | hc
    . exact hl1.wf c hc
    . exact hl2.wf c hc
  . have e:cs.drop off=(cs.drop off).take a.length++cs.drop (off+a.length):=by rw[<-List.drop_drop,List.take_append_drop]
    rw[e];exact All2.append hl1.rt hl2.rt
theorem pe{a:Addr}{n:Nat}{cs:List Value}(h:w.cells? 0 a n=some cs):cs.length=n/\∀j,j < n->w.cell? (a.add j)=cs[j]?:=by
 unfold World.cells? at h;rw[if_pos (Nat.zero_le _)]at h;exact⟨by simpa using mapM_some_length h,fun j hj=>mapM_some_get h j j (by simp[hj])⟩
theorem kC{a:Addr}{v:Value}(h:w.cell? a=some v):a.spot=none/\a.block < w.heap.size:=by
 unfold World.cell? at h;split at h
 . rename_i hb;split at h
   . cases h
   . rename_i hs;refine⟨by simpa using hs,(Array.getElem?_eq_some_iff.1 hb).1⟩
 . cases h
theorem lq{a:Addr}{i j:Nat}(h:a.spot=none):(a.add i).add j=⟨a.block,a.off+i+j,none⟩:=by
 obtain⟨b,o,sp⟩:=a;dsimp only at h;subst h;unfold Addr.add
 grind
theorem mk_of(tot:U.Total){t:Ty}{l:List (Cell U.D)}(h:l.map Cell.ty=t.cells U):∃x,t.row U x=l:=by
 have one:∀t:Ty,l.map Cell.ty=[t]->∃x:t.den U.D,l=[⟨t,x⟩]:=by
  intro t h
  match l,h with
  | [⟨t',x⟩],h=>simp at h;subst h;exact⟨x,rfl⟩
 cases t with
 | nm n=>
  obtain⟨x,hx⟩:=tot n l h;exact⟨x,U.mk_eq n l x hx⟩
 | bool=>obtain⟨x,hx⟩:=one _ h;exact⟨x,hx.symm⟩
 | int k=>obtain⟨x,hx⟩:=one _ h;exact⟨x,hx.symm⟩
 | str=>obtain⟨x,hx⟩:=one _ h;exact⟨x,hx.symm⟩
 | slice t=>obtain⟨x,hx⟩:=one _ h;exact⟨x,hx.symm⟩
def StOk(P:Program)(U:Uni)(st:TypeId->Option Nat):Prop:=∀e m,st e=some m->flat P U st 60 e=some (U.tys m)
def stOf :List (TypeId×Nat)->TypeId->Option Nat
 | [],_=>none
 | p::l,t=>match Nat.beq p.1 t with
  | true=>some p.2
  | false=>stOf l t
def em(P:Program)(U:Uni)(st:TypeId->Option Nat)(t:TypeId)(tys:List Ty):Bool:=
 match flat P U st 60 t with
 | some a=>tysEq a tys
 | none=>false
theorem gj{P:Program}{st:TypeId->Option Nat}{t:TypeId}{tys:List Ty}(h:em P U st t tys=true):flat P U st 60 t=some tys:=by
 unfold em at h;split at h
 . rename_i a ha;rw[ha,kT h]
 . cases h
theorem kU :∀{l:List (TypeId×Nat)} {t m},stOf l t=some m->(t,m)∈l
 | p::l,t,m,h=>by
  simp only[stOf]at h;split at h
  . rename_i e;cases h;have:=af e
    grind
  . exact .tail _ (kU h)
theorem qS{P:Program}{l:List (TypeId×Nat)}(h:(l.all fun p=>em P U (stOf l) p.1 (U.tys p.2))=true):StOk P U (stOf l):=by
 intro e m he;rw[List.all_eq_true]at h;exact gj (h _ (kU he))
theorem om {st : TypeId -> Option Nat} (hst : StOk P U st) {n : Nat} {t e : TypeId} {tys : List Ty} (ht : P.underlying t = some (.slice e)) (h : flat P U st (n + 1) t = some tys):
 ∃ty a n',tys=[.slice ty]/\flat P U st n' e=some a/\a=ty.cells U/\1<=P.bytesOf e/\cL a<=P.bytesOf e:=by
 simp only[flat,ht]at h;split at h
 . rename_i m hm;split at h
   . rename_i hb;cases h;simp only[Bool.and_eq_true]at hb;exact⟨.nm m,U.tys m,60,rfl,hst e m hm,rfl,Nat.le_of_ble_eq_true hb.1,Nat.le_of_ble_eq_true hb.2⟩
   . cases h
 . split at h
   . cases h
   . rename_i a ha;split at h
     . cases h
     . rename_i hb;have hb':1<=P.bytesOf e/\cL a<=P.bytesOf e:=by simp_all
       split at h
       . rename_i ty;split at h
         . cases h
         . rename_i hn;cases h;refine⟨ty,[ty],n,rfl,ha,?_,hb'⟩;cases ty <;> first | rfl | cases hn
       . cases h
theorem kD (tot : U.Total) {st : TypeId -> Option Nat} (hst : StOk P U st): ∀ (fuel n : Nat) (t : TypeId) (cs : List Value) (x : DataW H×List MemPlace) (tys : List Ty),
 DataW.trod enc P w 0 (fun _=>true) true fuel t cs=some x->flat P U st n t=some tys->(∀k,k∈x.1.weights P t->k<=reachBytes)->∃l,Rd U w tys cs l:=by
 intro fuel
 induction fuel with
 | zero=>intro n t cs x tys h;simp[DataW.trod]at h
 | succ m ih=>
  intro n t cs x tys h hf hw;cases n with
  | zero=>cases hf
  | succ n=>
  have hf0:=hf;simp only[flat]at hf;split at hf
  . rename_i hu;cases hf;obtain⟨b,rfl,rfl⟩:=DataW.trod_bool hu h;exact⟨_,ek (.bool b) (.bool b)⟩
  . rename_i k hu;cases hf;obtain⟨i,rfl,rfl,hwf⟩:=DataW.trod_int hu h;exact⟨_,ek (.int k i hwf) (.int k i)⟩
  . rename_i hu;cases hf;obtain⟨s,rfl,rfl,hs⟩:=DataW.trod_string hu h;have h1:s.data.toList.length<=reachBytes:=hw _ (by simp[DataW.weights]);have h2:s.data.toList.length=s.size:=Array.length_toList;refine⟨_,ek (.str s.data.toList h1) (.str s ?_)⟩;unfold reachBytes at h1;unfold bm;omega
  . rename_i e hu;obtain⟨ty,a,n',rfl,ha,hac,hbe,hbl⟩:=om hst hu hf0;rcases DataW.trod_slice hu h with⟨rfl,rfl⟩ | ⟨ad,len,cap,elems,rest,m',hm,rfl,rfl,_,hlc,_,hel,hget,_,_⟩
    . refine⟨_,ek (.slice ty [] (Nat.zero_le _) (by simp) (by simp)) ?_⟩;exact .slice [] none 0 0 0 0 (fun _ _=>default) (by simp) (by simp) (by simp) (by simp) (by simp) (by simp)
    . cases hm;have hwl:(elems.length+rest.length)*P.bytesOf e<=reachBytes:=by
       have:=hw ((elems.length+rest.length)*P.bytesOf e) (by simp[DataW.weights,hu]);exact this
      have hlen:len<=reachBytes:=by
       have h1:elems.length+rest.length<=(elems.length+rest.length)*P.bytesOf e:=Nat.le_mul_of_pos_right _ hbe;omega
      have hlen2:len*cL a<=reachBytes:=by
       have h1:len*cL a<=(elems.length+rest.length)*P.bytesOf e:=Nat.mul_le_mul (by omega) hbl;omega
      have hE:∀i,i < len->∃xi:ty.den U.D,∃cs',cs'.length=P.cellsOf e/\(∀j,j < P.cellsOf e->w.cell? ((ad.add (i*P.cellsOf e)).add j)=cs'[j]?)/\Rd U w a cs' (ty.row U xi):=by
       intro i hi;have hgi:=hget i hi;have hei:elems[i]?=some elems[i]:=List.getElem?_eq_getElem (by omega);rw[hei]at hgi;cases hc:w.cells? 0 (ad.add (i*P.cellsOf e)) (P.cellsOf e)with
       | none=>rw[hc]at hgi;cases hgi
       | some cs'=>
        rw[hc]at hgi;obtain⟨h1,h2⟩:=pe hc
        obtain⟨l,hl⟩:=ih n' e cs' _ a hgi ha (fun k hk=>hw k (by
         simp only[DataW.weights,hu,List.mem_cons,List.mem_append];right;left
         exact fP (List.mem_map.2 ⟨elems[i],List.getElem_mem _,rfl⟩) k hk))
        obtain⟨xi,hxi⟩:=mk_of tot (t:=ty) (by rw[hl.ty,hac])
        grind
      obtain⟨xs,hxl,hxs⟩:=jE len hE;have hsz:len≠0->P.cellsOf e=ty.sz U/\0 < P.cellsOf e:=by
       intro hne;obtain⟨xi,cs',h1,_,h3⟩:=hE 0 (by omega);have h4:=h3.rt.length;rw[Ty.row_length,h1]at h4;exact⟨h4.symm,by rw[<-h4];exact Ty.sz_pos⟩
      have hsp:len≠0->ad.spot=none:=by
       intro hne;obtain⟨xi,cs',h1,h2,h3⟩:=hE 0 (by omega);have h0:=h2 0 (hsz hne).2;rw[List.getElem?_eq_getElem (by rw[h1];exact(hsz hne).2)]at h0;have h5:=(kC h0).1
       simpa[Addr.add]using h5
      have hxm:∀x,x∈xs->∃i:Nat,xs[i]?=some x/\i < len:=by
       intro x hx;obtain⟨i,hi⟩:=List.mem_iff_getElem?.1 hx
       grind
      refine⟨_,ek (t:= .slice ty) (x:=xs) (.slice ty xs (by omega) (by rw[hxl];unfold Ty.bytes;rw[<-hac];exact hlen2) ?_) ?_⟩
      . intro x hx c hc;obtain⟨i,hi,_⟩:=hxm x hx;obtain⟨cs',_,_,h3⟩:=hxs i x hi;exact h3.wf c hc
      . have hlen2:(xs.map (ty.enc U)).length=len:=by simp[hxl]
        show RT w (Old w) (.slice (xs.map (ty.enc U))) (.slice (some ad) len cap);rw[<-hlen2];refine .slice (xs.map (ty.enc U)) (some ad) cap (P.cellsOf e) ad.block ad.off (fun i j=>(w.cell? ⟨ad.block,ad.off+i*P.cellsOf e+j,none⟩).getD default) (by omega) ?_ ?_ ?_ ?_ ?_
        . rw[hlen2];unfold reachBytes at hlen;unfold az;omega
        . intro r hr;obtain⟨x,hx,rfl⟩:=List.mem_map.1 hr;obtain⟨i,_,hi⟩:=hxm x hx;rw[Ty.enc_length];exact(hsz (by omega)).1.symm
        . intro hne;have hne':len≠0:=by intro h0;apply hne;rw[<-List.length_eq_zero_iff];omega
          have:=hsp hne';rw[show ad=⟨ad.block,ad.off,ad.spot⟩from rfl,this]
        . intro i j hi hj;rw[hlen2]at hi;obtain⟨xi,cs',h1,h2,h3⟩:=hE i hi;have h4:=h2 j hj;rw[List.getElem?_eq_getElem (by omega)]at h4;have hsn:=hsp (by omega);have e1:(ad.add (i*P.cellsOf e)).add j=⟨ad.block,ad.off+i*P.cellsOf e+j,none⟩:=lq hsn;rw[e1]at h4;exact⟨(kC h4).2,by rw[h4];rfl⟩
        . intro i j r t' hr ht';rw[List.getElem?_map,oZ1]at hr;obtain⟨x,hx,rfl⟩:=hr;obtain⟨cs',h1,h2,h3⟩:=hxs i x hx;have hi:i < len:=by have:=(List.getElem?_eq_some_iff.1 hx).1;omega
          rw[Ty.enc_row,List.getElem?_map,oZ1]at ht';obtain⟨c,hc,rfl⟩:=ht';obtain⟨v,hv,hrt⟩:=h3.rt.get hc;have hj:j < P.cellsOf e:=by have:=(List.getElem?_eq_some_iff.1 hv).1;omega
          have h4:=h2 j hj;have hsn:=hsp (by omega);have e1:(ad.add (i*P.cellsOf e)).add j=⟨ad.block,ad.off+i*P.cellsOf e+j,none⟩:=lq hsn;rw[e1,hv]at h4;show RT w (Old w) _ ((w.cell? ⟨ad.block,ad.off+i*P.cellsOf e+j,none⟩).getD default);rw[h4];exact hrt
  . rename_i fs hu;obtain⟨xs,m',hm,rfl,hl,hlen,hget⟩:=DataW.trod_struct hu h;cases hm
    have:=kB (U:=U) (w:=w) (P:=P) (cs:=cs) (fs:=fs.toList) (off:=0) (fun f hfm a ha=>by
     obtain⟨i,hi⟩:=List.mem_iff_getElem?.1 hfm;have hi':fs[i]?=some f:=by simpa using hi
     have hg:=hget i f hi';have hil:i < xs.length:=by rw[hlen];exact(Array.getElem?_eq_some_iff.1 hi').1
     rw[List.getElem?_eq_getElem hil]at hg
     exact ih n f.type _ _ a hg ha (fun k hk=>hw k (by
      simp only[DataW.weights,hu]
      exact DataW.weights_mem_each (j:=i) (t:=f.type) (d:=xs[i].1) (by simp[hi']) (by simp[hil]) k hk))) hf hl
    simpa using this
  . rename_i k e hu;split at hf
    . cases hf
    . rename_i a ha;split at hf
      . cases hf
      . rename_i hb;cases hf;simp only[Bool.and_eq_true]at hb;have h1:=af hb.1;have h2:=af hb.2;obtain⟨xs,m',hm,rfl,hl,hlen,hget⟩:=DataW.trod_array hu h;cases hm
        have:=lB (U:=U) (w:=w) (a:=a) (cs:=cs) k 0 (fun i hi=>by
         have hg:=hget i hi;rw[List.getElem?_eq_getElem (by omega)]at hg
         obtain⟨l,hl⟩:=ih n e _ _ a hg ha (fun q hq=>hw q (by
          simp only[DataW.weights,hu]
          exact fP (List.mem_map.2 ⟨xs[i],List.getElem_mem _,rfl⟩) q hq))
         rw[h2]at hl
         exact⟨l,by rw[Nat.zero_add];exact hl⟩) (by rw[hl,h1,Nat.zero_add])
        simpa using this
  . cases hf
end
end
section
open Go Go.ChangeShapes Go.WideShapes Go.RowKit
variable {U:Uni}
def isAgg(P:Program)(t:TypeId):Bool:=
 match P.underlying t with
 | some (.struct _)=>true
 | some (.array _ _)=>true
 | _=>false
def parOk(P:Program)(U:Uni)(st:TypeId->Option Nat):List TypeId->List SV->List Ty->Bool
 | [],[],[]=>true
 | t::ts,.row m::svs,.nm m'::tys=>(Nat.beq m m' && (isAgg P t && em P U st t (U.tys m))) && parOk P U st ts svs tys
 | t::ts,.c (.hole ty)::svs,ty'::tys=>(Ty.beq ty ty' && (!ty.isNm && (!isAgg P t && em P U st t [ty]))) && parOk P U st ts svs tys
 | _,_,_=>false
section
variable {H:Type} {enc:TypeId×Value->H} {P:Program} {w:World} {φ:Phi}
theorem je{st:TypeId->Option Nat}:∀{tids:List TypeId} {svs:List SV} {tys:List Ty},parOk P U st tids svs tys=true->tids.length=tys.length
 | [],[],[],_=>rfl
 | [],[],_::_,h=>by cases h
 | [],_::_,_,h=>by cases h
 | _::_,[],_,h=>by cases h
 | _::_,sv::_,[],h=>by
  cases sv with
  | c x=>cases x <;> cases h
  | _=>cases h
 | t::ts,sv::svs,ty::tys,h=>by
  have:parOk P U st ts svs tys=true:=by
   cases sv with
   | row m=>cases ty with
    | nm m'=>simp only[parOk,Bool.and_eq_true]at h;exact h.2
    | _=>cases h
   | c x=>cases x with
    | hole ty=>simp only[parOk,Bool.and_eq_true]at h;exact h.2
    | _=>cases h
   | _=>cases h
  simp[je this]
theorem oq{b0:Nat}{r:Reach}{t:TypeId}{v:Value}(hs:isAgg P t=true)(h:Value.okWide P w r b0 t v):∃cs,v= .agg cs:=by
 unfold isAgg at hs;unfold Value.okWide at h
 grind
theorem ot{b0:Nat}{r:Reach}{t:TypeId}{v:Value}(hs:isAgg P t=false)(h:Value.okWide P w r b0 t v):v.cells=#[v]:=by
 unfold isAgg at hs;unfold Value.okWide at h;have h2:Cell.okWide P w r b0 t v:=by grind
 cases v with
 | agg cs=>
  unfold Cell.okWide at h2;split at h2 <;> first | (rename_i e;cases e) | (rename_i e _;cases e) | skip
  unfold Cell.ok at h2
  grind
 | _=>rfl
theorem j8{w:World}{S:Stab}:∀{l:List (Cell U.D)} {vs:List Value},All2 (fun c v=>RT w S (Cell.enc U c) v) l vs->All2 (RC φ w S) ((l.map XC.t).map XC.conc) vs
 | [],[],.nil=>.nil
 | c::l,v::vs,.cons h1 h2=>.cons h1 (j8 h2)
theorem kE (tot : U.Total) (φ : Phi) {st : TypeId -> Option Nat} (hst : StOk P U st) {b0 : Nat}: ∀ (ts : List TypeId) (svs : List SV) (tys : List Ty) (args : List Value) (ds : List (DataW H)) (ps : List MemPlace),
 parOk P U st ts svs tys=true->(∀(j:Nat) t v,ts[j]?=some t->args[j]?=some v->Value.okWide P w .any b0 t v)->
 DataW.TrodAll enc P w 0 (fun _=>true) true ts args ds ps->(∀k,k∈DataW.weightsEach P ts ds->k<=reachBytes)->
 ∃(l:Cs U) (xs:List (XV U)),l.map Cell.ty=tys/\(∀c,c∈l->∀d,d∈c.ty.row U c.val->WF U d)/\filVs svs l=(xs,[])/\(∀x,x∈xs->aC x=true)/\All2 (RV φ w (Old w)) (xs.map concV) args
 | [],[],[],args,ds,ps,_,_,ht,_=>by
  obtain⟨rfl,rfl,rfl⟩:=trodAll_nil ht;exact⟨[],[],rfl,by simp,rfl,by simp,.nil⟩
 | t::ts,sv::svs,ty::tys,args,ds,ps,hp,hv,ht,hw=>by
  obtain⟨v,vs,d,ds',p,q,rfl,rfl,rfl,⟨fuel,h1⟩,h2⟩:=trodAll_cons ht;have hv0:=hv 0 t v rfl rfl;have hw0:∀k,k∈d.weights P t->k<=reachBytes:=fun k hk=>hw k (by simp only[DataW.weightsEach,List.mem_append];exact .inl hk)
  have rest:∀(hp':parOk P U st ts svs tys=true),_:=fun hp'=>kE tot φ (st:=st) hst (b0:=b0) ts svs tys vs ds' q hp' (fun j t v hj hvj=>hv (j+1) t v (by simpa using hj) (by simpa using hvj)) h2
   (fun k hk=>hw k (by simp only[DataW.weightsEach,List.mem_append];exact .inr hk))
  unfold parOk at hp;split at hp
  . grind
  . rename_i t0 ts0 m svs0 m' tys0 e1 e2 e3;cases e1;cases e2;cases e3;simp only[Bool.and_eq_true]at hp;obtain⟨⟨hm,hs,hf⟩,hp2⟩:=hp;have hm':=af hm;subst hm';obtain⟨l,xs,hl1,hl2,hl3,hl4,hl5⟩:=rest hp2;obtain⟨cs,rfl⟩:=oq hs hv0;obtain⟨l0,hl0⟩:=kD tot hst fuel 60 t _ _ _ h1 (gj hf) hw0;obtain⟨x,hx⟩:=mk_of tot (t:= .nm m) hl0.ty
    refine⟨⟨.nm m,x⟩::l,.agg ((Ty.row U (.nm m) x).map .t)::xs,by simp[hl1],?_,?_,?_,?_⟩
    . intro c hc;rcases List.mem_cons.1 hc with rfl | hc
      . intro d hd;exact hl0.wf d (hx▸hd)
      grind
    . simp only[filVs,filV,hl3]
    . intro y hy;rcases List.mem_cons.1 hy with rfl | hy
      . simp[aC,XC.solid]
      grind
    . refine .cons ?_ hl5;have:=j8 (φ:=φ) hl0.rt;rw[<-hx]at this;exact RV.agg (vs:=cs.toList) this
  . rename_i t0 ts0 ty0 svs0 ty' tys0 e1 e2 e3;cases e1;cases e2;cases e3;simp only[Bool.and_eq_true,Bool.not_eq_true']at hp;obtain⟨⟨hm,hn,hs,hf⟩,hp2⟩:=hp;have hm':=Ty.beq_eq hm;subst hm';obtain⟨l,xs,hl1,hl2,hl3,hl4,hl5⟩:=rest hp2;rw[ot hs hv0]at h1;obtain⟨l0,hl0⟩:=kD tot hst fuel 60 t _ _ _ h1 (gj hf) hw0
    match l0,hl0 with
    | [],hl0=>cases hl0.ty
    | [⟨ty1,x⟩],hl0=>
     have ht1:ty1=ty0:=by have:=hl0.ty;simpa using this
     subst ht1;refine⟨⟨ty1,x⟩::l,.c (.t ⟨ty1,x⟩)::xs,by simp[hl1],?_,?_,?_,?_⟩
     . intro c hc;rcases List.mem_cons.1 hc with rfl | hc
       . intro d hd;refine hl0.wf d ?_;cases ty1 <;> first | exact hd | cases hn
       grind
     . simp only[filVs,filV,filC,hl3]
     . intro y hy;rcases List.mem_cons.1 hy with rfl | hy
       . rfl
       grind
     . refine .cons ?_ hl5;cases hl0.rt with
       | cons h3 h4=>exact .c h3
    | _::_::_,hl0=>have:=hl0.ty;simp at this
  . cases hp
 | [],[],_::_,_,_,_,hp,_,_,_=>by cases hp
 | [],_::_,_,_,_,_,hp,_,_,_=>by cases hp
 | _::_,[],_,_,_,_,hp,_,_,_=>by cases hp
 | t::ts,sv::svs,[],_,_,_,hp,_,_,_=>by
  cases sv with
  | row m=>cases hp
  | c x=>cases x <;> cases hp
  | agg l=>cases hp
  | tup l=>cases hp
theorem Hs.of_cells :∀(ts:List Ty) (l:Cs U),l.map Cell.ty=ts->∃h:Hs U.D ts,Hs.cells U.D ts h=l
 | [],[],_=>⟨(),rfl⟩
 | [t],[⟨t',x⟩],h=>by
  have:t'=t:=by simpa using h
  subst this;exact⟨x,rfl⟩
 | t::u::r,⟨t',x⟩::l,h=>by
  simp only[List.map_cons,List.cons.injEq]at h;obtain⟨h1,h2⟩:=h;subst h1;obtain⟨y,hy⟩:=Hs.of_cells (u::r) l (by simpa using h2);exact⟨(x,y),by show⟨t',x⟩::Hs.cells U.D (u::r) y=_;rw[hy]⟩
 | [],_::_,h=>by simp at h
 | _::_,[],h=>by simp at h
 | [_],_::_::_,h=>by simp at h
theorem HsC.dec_of{D:Nat->Type}:∀{ts:List Ty} {t:Ty} (h:HsC D t ts),HsC.dec D t ts (HsC.cells D t ts h)=some h
 | [],t,x=>Cell.as_mk
 | u::r,t,x=>by
  unfold HsC.dec HsC.cells;simp only[hd1,Cell.as_mk];rw[HsC.dec_of];rfl
theorem Hs.dec_of{D:Nat->Type}:∀{ts:List Ty} (h:Hs D ts),Hs.dec D ts (Hs.cells D ts h)=some h
 | [],_=>rfl
 | _::_,h=>HsC.dec_of h
theorem Hs.dec_ty{D:Nat->Type}:∀{ts:List Ty} {l:List (Cell D)},l.map Cell.ty=ts->∃h,Hs.dec D ts l=some h:=by
 have go:∀(ts:List Ty) (l:List (Cell D)),l.map Cell.ty=ts->∃h:Hs D ts,Hs.cells D ts h=l:=by
  intro ts
  induction ts with
  | nil=>intro l h;cases l with
   | nil=>exact⟨(),rfl⟩
   | cons=>cases h
  | cons t r ih=>
   intro l h;cases l with
   | nil=>cases h
   | cons c l=>
    obtain⟨t',x⟩:=c;simp only[List.map_cons,List.cons.injEq]at h;obtain⟨h1,h2⟩:=h;subst h1;obtain⟨y,hy⟩:=ih l h2;cases r with
    | nil=>
     cases l with
     | nil=>exact⟨x,rfl⟩
     | cons=>cases h2
    | cons u r=>exact⟨(x,y),by show⟨t',x⟩::Hs.cells D (u::r) y=_;rw[hy]⟩
 intro ts l h;obtain⟨y,hy⟩:=go ts l h;exact⟨y,by rw[<-hy];exact Hs.dec_of y⟩
def Ok(U:Uni)(ts:List Ty)(h:Hs U.D ts):Prop:=∀c,c∈Hs.cells U.D ts h->∀d,d∈c.ty.row U c.val->WF U d
theorem qL{N:Nat}:SR N ([]:XSt U) []:=fun b x h=>by cases h
theorem lr{N:Nat}{J:XSt U}:∀{xs:List (XV U)},(∀x,x∈xs->aC x=true)->All2 (VR N J) xs (xs.map concV)
 | [],_=>.nil
 | x::xs,h=>.cons (c9 (h x (by simp))).1 (lr fun y hy=>h y (by simp[hy]))
theorem kV{k:Nat->Bool}:∀{xs:List (XV U)},(∀x,x∈xs->aC x=true)->V.bnd.V.bnds k (xs.map concV)=true
 | [],_=>rfl
 | x::xs,h=>by
  simp only[List.map_cons,V.bnd.V.bnds,Bool.and_eq_true];exact⟨(c9 (N:=0) (J:=[]) (h x (by simp))).2 k,kV fun y hy=>h y (by simp[hy])⟩
theorem law_calls {f : Nat} {sa : List SV} {ts : List Ty} {F : Hs U.D ts -> Option (Hs U.D [.bool])} (tot : U.Total) (hs : FSnd P ⟨f, sa, [], ts, .c (.hole .bool), [], [.bool], F⟩)
 (law:∀h:Hs U.D ts,Ok U ts h->F h=some true) {st:TypeId->Option Nat} (hst:StOk P U st) {tids:List TypeId} (hp:parOk P U st tids sa ts=true)
 {b0:Nat} {args:Array Value} {ds:List (DataW H)} {ps:List MemPlace} (hv:∀(j:Nat) t v,tids[j]?=some t->args[j]?=some v->Value.okWide P w .any b0 t v)
 (ht:DataW.TrodAll enc P w 0 (fun _=>true) true tids args.toList ds ps) (hw:∀k,k∈DataW.weightsEach P tids ds->k<=reachBytes):
 Calls P f args w fun e w'=>e= .returned (.bool true)/\Below w.heap.size w w':=by
 obtain⟨l,xs,hl1,hl2,hl3,hl4,hl5⟩:=kE tot (fun b=>(b,0)) hst tids sa ts args.toList ds ps hp (fun j t v hj hvj=>hv j t v hj (by simpa using hvj)) ht hw;obtain⟨h,hh⟩:=Hs.of_cells ts l hl1;have hF:=law h (fun c hc d hd=>hl2 c (hh▸hc) d hd)
 have hcon:=hs h true hF (xs.map concV) [] (by
  show All2 (VR 0 _) (filVs sa (Hs.cells U.D ts h)).1 _;rw[hh,hl3];exact lr hl4) (by
  show SR 0 (filS 0 [] _) []
  exact qL)
 have:=hcon (fun b=>(b,0)) (Old w) w (fun _=>False) {blk:=fun b x hx=>(by cases hx),inj:=fun b b' x y hx=>(by cases hx),st:=fun b j hb=>hb} (fun b x hx=>by cases hx) (fun b x hx=>by cases hx)
  (kV hl4) args.toList hl5
 rw[Array.toArray_toList]at this;refine this.mono fun e w' ⟨v,r,φ',S',J',N',he,⟨_,hr,_⟩,hrv,_,_,_,hext,_⟩=>?_
 cases hr with
 | c hc=>
  cases hc with
  | t c=>
   cases hrv with
   | c hrc=>
    cases hrc;exact⟨he,hext.os,hext.tape,hext.output,hext.size,fun k hk=>hext.block k hk (fun h=>h)⟩
theorem ou {f : Func} {s : ChangeSpec} {fresh dV again : Bool} {W W' : World} {args : Array Value} {v : Value} {ds gs : List (DataW H)} {before : List MemPlace}
 (hW:DataW.Whole enc P f.params.toList s.vars false W args.toList ds gs before) (hb:Below W.heap.size W W')
 (hres:∀(b:Nat) (sp:Nat->Bool) (hd:Bool),DataW.TrodAll enc P W' b sp hd f.resultTypes.toList (v.resultList f.resultTypes.size) (s.fn H (ds++gs)).results [])
 (hargs:∀sp:Nat->Bool,(∀p∈before,sp p.block=true)->DataW.TrodAll enc P W' 0 sp true f.params.toList args.toList (s.fn H (ds++gs)).args before)
 (hvars:∀sp:Nat->Bool,(∀p∈before,sp p.block=true)->DataW.TrodVars enc P W' sp s.vars (s.fn H (ds++gs)).vars [])
 (hok:∀(j:Nat) (t:TypeId) (r:Value),f.resultTypes[j]?=some t->(v.resultList f.resultTypes.size)[j]?=some r->Value.okWide P W' .any 0 t r):
 s.post enc P f false fresh dV again W args v W':=by
 have hlt:=hW.lt;have hold:∀p∈before,(fun b=>decide (b < W.heap.size)) p.block=true:=fun p hp=>by simpa using hlt p hp
 refine⟨ds,gs,before,[],before,[],hW,hres _ _ _,hargs _ hold,hvars _ hold,hb.frame _,fun _=>?_⟩;refine⟨hok,(s.fn H (ds++gs)).results++(s.fn H (ds++gs)).args,(s.fn H (ds++gs)).vars,before,⟨before,[],?_,hvars _ (fun _ _=>rfl),by simp,?_,fun h=>by cases h⟩,fun p hp _=>hp⟩
 . have:=trodAll_append (hargs (fun _=>true) (fun _ _=>rfl)) (hres 0 (fun _=>true) true)
   simpa using this
 . intro b off hp;obtain⟨_,_,_,_,_,hz,_⟩:=hW;rw[World.frozen?_of_block (w:=W) (a:=⟨b,off,none⟩) (hb.block b (hlt _ hp))];exact hz b off hp
theorem law_contract {f : Nat} {fn : Func} {s : ChangeSpec} {sa : List SV} {ts : List Ty} {F : Hs U.D ts -> Option (Hs U.D [.bool])} (tot : U.Total)
 (hs:FSnd P ⟨f,sa,[],ts,.c (.hole .bool),[],[.bool],F⟩)
 (law:∀h:Hs U.D ts,Ok U ts h->F h=some true) {st:TypeId->Option Nat} (hst:StOk P U st) (hp:parOk P U st fn.params.toList sa ts=true)
 {tb:TypeId} (hres:fn.resultTypes=#[tb]) (htb:P.underlying tb=some .bool) (hvars:s.vars=[])
 (hfn:∀ds:List (DataW H),ds.length=ts.length->(s.fn H ds).results=[.lit (.bool true)]/\(s.fn H ds).args=ds/\(s.fn H ds).vars=[])
 (hlay:(laidOutB P && mapsRowed P)=true) (hpar:fn.params.toList.all (fun t=>decide (t < P.types.size))=true)
 (hsl:((List.range P.types.size).all fun t=>match P.underlying t with | some (.slice e)=>decide (0 < P.cellsOf e) | _=>true)=true)
 {W:World} {base:Nat} {args:Array Value} {ds gs:List (DataW H)} {before:List MemPlace} {fresh dV again:Bool}
 (hval:∀(j:Nat) t v,fn.params[j]?=some t->args[j]?=some v->Value.okWide P W .any base t v)
 (hW:DataW.Whole enc P fn.params.toList s.vars false W args.toList ds gs before)
 (hk:(DataW.weightsEach P (fn.params.toList++s.plain.varTypes P) (ds++gs)).all (· <=reachBytes)=true):
 Calls P f args W fun e W'=>∃v,e= .returned v/\s.post enc P fn false fresh dV again W args v W':=by
 have hW':=hW;obtain⟨p,q,hA,hV,rfl,hfz,hnd⟩:=hW;rw[hvars]at hV;obtain⟨rfl,rfl⟩:=trodVars_none hV;have hvt:s.plain.varTypes P=[]:=by show s.vars.filterMap _=[] <;> simp[hvars]
 rw[hvt,List.append_nil,List.append_nil,List.all_eq_true]at hk;have hlen:ds.length=ts.length:=by
  have h1:∀{tids:List TypeId} {vs:List Value} {ds:List (DataW H)} {ps:List MemPlace},DataW.TrodAll enc P W 0 (fun _=>true) true tids vs ds ps->ds.length=tids.length:=by
   intro tids
   induction tids with
   | nil=>intro vs ds ps h;obtain⟨_,rfl,_⟩:=trodAll_nil h;rfl
   | cons t r ih=>intro vs ds ps h;obtain⟨_,_,_,_,_,_,_,rfl,_,_,h2⟩:=trodAll_cons h;simp[ih h2]
  rw[h1 hA,je hp]
 obtain⟨hr1,hr2,hr3⟩:=hfn ds hlen;simp only[Bool.and_eq_true]at hlay;have K:=kids_rows hlay.1 hlay.2;have hsz:=slices_full_of P hsl;refine(law_calls tot hs law hst hp (fun j t v hj hvj=>hval j t v (by simpa using hj) hvj) hA (fun k hk'=>by simpa using hk k hk')).mono fun e W' ⟨he,hb⟩=>?_
 subst he;refine⟨_,rfl,ou hW' hb ?_ ?_ ?_ ?_⟩
 . intro b sp hd;rw[List.append_nil,hr1,hres];exact trodAll_cons_mk (shut_bool htb _) trodAll_mk0
 . intro sp hsp;rw[List.append_nil,hr2];have hlt:=hW'.lt;clear hW' hfz hnd hk hval hlen;have hT:∀t,t∈fn.params.toList->t < P.types.size:=fun t ht=>by simpa using List.all_eq_true.1 hpar t ht
   have go : ∀ {tids : List TypeId} {vs : List Value} {ds : List (DataW H)} {ps : List MemPlace}, (∀ t, t ∈ tids -> t < P.types.size) -> (∀ p ∈ ps, p.block < W.heap.size /\ sp p.block = true) ->
    DataW.TrodAll enc P W 0 (fun _=>true) true tids vs ds ps->DataW.TrodAll enc P W' 0 sp true tids vs ds ps:=by
    intro tids
    induction tids with
    | nil=>intro vs ds ps _ _ h;obtain⟨rfl,rfl,rfl⟩:=trodAll_nil h;exact trodAll_mk0
    | cons t r ih=>
     intro vs ds ps hT hps h;obtain⟨v,vs',d,ds',a,b,rfl,rfl,rfl,⟨fu,h1⟩,h2⟩:=trodAll_cons h
     refine⟨a,b,⟨fu,DataW.trod_stays (T:=(· < P.types.size)) K (fun {t e}=>hsz t e) (by intro hh;cases hh) (hT t (by simp)) h1 (fun x hx=>hb.same (hps x (by simp[hx])).1) (fun x hx=>(hps x (by simp[hx])).2)⟩,ih (fun t ht=>hT t (by simp[ht])) (fun x hx=>hps x (by simp[hx])) h2,rfl⟩
   rw[List.append_nil];exact go hT (fun x hx=>⟨hlt x (by simp[hx]),hsp x (by simp[hx])⟩) hA
 . intro sp hsp;rw[List.append_nil,hr3,hvars];exact rfl
 . exact ok_one hres rfl (okWide_bool_mk htb _)
end
end
section
open Go
theorem fH{a b:Int}(h1: -9223372036854775808<=a+b)(h2:a+b<=9223372036854775807):addI .i64 a b=a+b:=by unfold addI;rw[IntKind.wrap_i64];omega
theorem lC{a b:Int}(h1: -9223372036854775808<=a - b)(h2:a - b<=9223372036854775807):subI .i64 a b=a - b:=by unfold subI;rw[IntKind.wrap_i64];omega
theorem dd{k n:Nat}(h:k < n):inR (k:Int) n=true:=by unfold inR;simp[h]
theorem lu{t a:Bool}:(if t=true then some a else some false)=some (t && a):=by cases t <;> rfl
theorem gR(k:Nat):(k:Int).toNat=k:=Int.toNat_natCast k

end
end Go.Proofs.YtbciniegpkkapaaGreat.Shv
