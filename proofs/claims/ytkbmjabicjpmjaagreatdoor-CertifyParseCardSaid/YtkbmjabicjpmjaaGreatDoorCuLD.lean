/- The library of this proof, part D: an abstract machine for the code of the program, and its soundness. -/
import Derived.KernelRfl
import Derived.Shelf.Strings.Builder1
import Derived.ChangeArms
import Derived.ChangeStays
import Derived.ChangeSame
import Derived.SizedLaws
import Derived.Below
import Derived.WalkKit
import Derived.ProofKit
import Derived.OpenShut
import Derived.Laws.BitsLemmas
import Derived.Laws.Bits64
import Derived.Shelf.GgSortFunc.InsertionK
import Derived.Shelf.SlSortCmp.Insertion
import Derived.Sort.AssemblyPlain
import Derived.Lib.BitFns
import Derived.Laws.IdiomRangeMap
import Derived.Shelf.Strconv.Itoa3
import Derived.Shelf.Strings.Search2
import Derived.Shelf.Strings.Count
import Derived.Lib.AtoiAll
import Derived.Maps.RangeRun
import Derived.Test.YtkbmjabicjpmjaaGreatDoorCuLC

namespace Go.Proofs.YtkbmjabicjpmjaaGreatDoor.Shv
set_option linter.all false
section
open Go
variable [GV]
variable {xb:List Nat}
variable {U:Uni} {R:Type}
def cB(gl:GL)(gd:Option (Nat×Bool))(dst:Option Nat):Bool:=
 match dst with
 | none=>true
 | some d=>(gl.all fun e=>!(Nat.beq e.1 d) && !(Nat.beq e.2.1 d)) && (match gd with
  | some g=>!(Nat.beq g.1 d)
  | none=>true)
def xbind(dst:Option Nat)(v:XV U)(env:XEnv U):XEnv U:=
 match dst with
 | none=>env
 | some d=>(d,v)::env
def glAdd(gl:GL)(gd:Option (Nat×Bool))(dst:Option Nat):GL:=
 match gd,dst with
 | some g,some d=>(d,g)::gl
 | _,_=>gl
abbrev Fo(U:Uni):=Nat->List (FSpec U)
abbrev Getv(U:Uni):=XEnv U->Option (List (XV U))
def prep(s:FSpec U)(getv:Getv U)(env:XEnv U)(J:XSt U)(key:Nat):Option (XEnv U×XSt U×List Nat×Hs U.D s.ts):=
 match getv env with
 | none=>none
 | some vs=>match scS J 0 0 s.st (scVs s.sa vs ([],[])) []with
  | (bs,fz)=>match xfz fz env J with
   | none=>none
   | some (env',J')=>match getv env' with
    | none=>none
    | some vs'=>match dT bs && ((bs.all fun b=>Nat.ble (b+1) key) && (Nat.beq bs.length s.st.length && Nat.ble s.rst.length (bs.length+16)))with
     | false=>none
     | true=>match chkVs bs s.sa vs',chkS bs J' 0 s.st with
      | some a,some b=>match Hs.dec U.D s.ts (a++b)with
       | some h=>some (env',J',bs,h)
       | none=>none
      | _,_=>none
def xraw(getv:Getv U)(env:XEnv U)(J:XSt U)(key:Nat)(k:XEnv U->XSt U->XV U->Option R):List (FSpec U)->Option R
 | []=>none
 | s::r=>match prep s getv env J key with
  | none=>xraw getv env J key k r
  | some (env',J',bs,h)=>(s.F h) >>=fun res=>match xdimc J' (s.rest res) 0 bs with
   | none=>none
   | some c=>if c=true then k env' (xgive J' bs (back bs key) (s.rest res)) ((s.res res).mb (back bs key))else none
def isNil{α:Type}:List α->Bool
 | []=>true
 | _=>false
def prepP(s:FSpec U)(getv:Getv U)(env:XEnv U):Option (Hs U.D s.ts):=
 match isNil s.st && isNil s.rst,getv env with
 | true,some vs=>match vs.all aO,chkVs [] s.sa vs with
  | true,some a=>Hs.dec U.D s.ts a
  | _,_=>none
 | _,_=>none
def xpure(getv:Getv U)(env:XEnv U)(g:Bool)(k:XV U->Option R):List (FSpec U)->Option R
 | []=>none
 | s::r=>match prepP s getv env with
  | none=>xpure getv env g k r
  | some h=>(if g=true then s.F h else some (Hs.dfl U s.us)) >>=fun res=>match aO (s.res res)with
   | true=>k (s.res res)
   | false=>none
def hasB(J:XSt U)(b:Nat):Bool:=match lk J b with
 | some _=>true
 | none=>false
def XC.solid2(J:XSt U):XC U->Bool
 | .t _ | .iptr .. | .cap0 | .nilp | .nilfn=>true
 | .ptr b _=>hasB J b
 | .eptr b _ _ _=>hasB J b
 | .fn _ caps=>caps.all (hasB J)
 | .arr b=>match lk J b with
  | some x=>(match x.dim with
   | some _=>true
   | none=>false)
  | none=>false
 | .sub .. =>false
 | .pre .. =>false
 | .suf .. =>false
 | .mp b=>hasB J b
 | .sptr _=>false
 | .bufc b=>match lk J b with
  | some x=>(match x.dim with
   | some p=>Nat.beq p.1 1
   | none=>false)
  | none=>false
 | .dead=>false
def bp(J:XSt U):XV U->Bool
 | .c x=>x.solid2 J
 | .agg cs=>cs.all (XC.solid2 J)
 | .tup vs=>go J vs
where go (J:XSt U):List (XV U)->Bool
 | []=>true
 | v::vs=>bp J v && go J vs
def XC.conc2(J:XSt U):XC U->C
 | .t c=>.t (c.enc U)
 | .iptr ty x o=>.iptr (ty.enc U x) o
 | .cap0=>.cap0
 | .nilp=>.nilp
 | .nilfn=>.nilfn
 | .fn f caps=>.fn f caps
 | .ptr b o=>.ptr b o
 | .eptr b ty i o=>.eptr b (ty.sz U) i o
 | .arr b=>match lk J b with
  | some x=>(match x.dim with
   | some p=>.arr b p.1 0 p.2
   | none=>.dead)
  | none=>.dead
 | .sub b lo len=>.win b 1 lo len
 | .pre _ _=>.dead
 | .suf .. =>.dead
 | .mp b=>.mp b
 | .sptr b=>.sptr b
 | .bufc b=>match lk J b with
  | some x=>(match x.dim with
   | some p=>.bufc b p.2
   | none=>.dead)
  | none=>.dead
 | .dead=>.dead
def aY(J:XSt U):XV U->V
 | .c x=>.c (x.conc2 J)
 | .agg cs=>.agg (cs.map (XC.conc2 J))
 | .tup vs=>.tup (go J vs)
where go (J:XSt U):List (XV U)->List V
 | []=>[]
 | v::vs=>aY J v::go J vs
def aK(J:XSt U):XB U->Bool
 | .box cs=>cs.all (XC.solid2 J)
 | .arr _ _=>true
 | .rows .. =>false
 | .set _=>true
 | .buf _ _=>true
 | .bld _ c=>c.solid2 J
 | .arro .. =>false
def concB(J:XSt U):XB U->Blk
 | .box cs=>.box (cs.map (XC.conc2 J))
 | .arr ty l=>.arr (ty.sz U) (l.map (ty.enc U))
 | .rows sz _=>.arr sz []
 | .set ks=>.set ks
 | .buf E s=>.buf E s
 | .bld E c=>.bld E (c.conc2 J)
 | .arro t l i o _=>.arro (t.sz U) (l.map (t.enc U)) i o .dead
def concS(J:XSt U):XSt U->Store
 | []=>[]
 | (b,x)::r=>(b,concB J x)::concS J r
def kY(J:XSt U)(l:XSt U):Bool:=l.all fun p=>Nat.ble (p.1+1) 16 && aK J p.2
def prepD(s:FSpec U)(getv:Getv U)(env:XEnv U):Option (Hs U.D s.ts):=
 match isNil s.st && Nat.ble s.rst.length 16,getv env with
 | true,some vs=>match vs.all aO,chkVs [] s.sa vs with
  | true,some a=>Hs.dec U.D s.ts a
  | _,_=>none
 | _,_=>none
def gk(getv:Getv U)(env:XEnv U)(J:XSt U)(key:Nat)(k:XSt U->XV U->Option R):List (FSpec U)->Option R
 | []=>none
 | s::r=>match prepD s getv env with
  | none=>gk getv env J key k r
  | some h=>(s.F h) >>=fun res=>match bp (s.rest res) (s.res res) && kY (s.rest res) (s.rest res)with
   | true=>k (xgive J [] (back [] key) (s.rest res)) ((s.res res).mb (back [] key))
   | false=>none
def XC.blks :XC U->List Nat
 | .ptr b _ | .eptr b _ _ _ | .arr b | .sub b _ _ | .pre b _ | .suf b _ _ | .mp b | .sptr b | .bufc b=>[b]
 | .fn _ caps=>caps
 | _=>[]
def XV.blks :XV U->List Nat
 | .c x=>x.blks
 | .agg cs=>cs.flatMap XC.blks
 | .tup _=>[]
def hasN(l:List Nat)(b:Nat):Bool:=l.any fun c=>Nat.beq c b
def prepR(xb:List Nat)(s:FSpec U)(getv:Getv U)(env:XEnv U)(J:XSt U)(key:Nat):Option (List Nat×Hs U.D s.ts):=
 match getv env with
 | none=>none
 | some vs=>match scS J 0 0 s.st (scVs s.sa vs ([],[])) []with
  | (bs,fz)=>match isNil fz && (dT bs && ((bs.all fun b=>Nat.ble (b+1) key && ((hasN (vs.flatMap XV.blks) b || hasN xb b) && hasB J b)) && (Nat.beq bs.length s.st.length && (Nat.ble bs.length s.rst.length && Nat.ble s.rst.length (bs.length+16)))))with
   | false=>none
   | true=>match chkVs bs s.sa vs,chkS bs J 0 s.st with
    | some a,some b=>match Hs.dec U.D s.ts (a++b)with
     | some h=>some (bs,h)
     | none=>none
    | _,_=>none
def kG(n:Nat)(J:XSt U)(l:XSt U):Bool:=l.all fun p=>Nat.ble (p.1+1) n && aK J p.2
def eX(xb:List Nat)(getv:Getv U)(env:XEnv U)(J:XSt U)(key:Nat)(k:XSt U->XV U->Option R):List (FSpec U)->Option R
 | []=>none
 | s::r=>match prepR xb s getv env J key with
  | none=>eX xb getv env J key k r
  | some (bs,h)=>(s.F h) >>=fun res=>match bp (s.rest res) (s.res res) && kG (bs.length+16) (s.rest res) (s.rest res),xdimc J (s.rest res) 0 bs with
   | true,some c=>if c=true then k (xgive J bs (back bs key) (s.rest res)) ((s.res res).mb (back bs key))else none
   | _,_=>none
def anyD(getv:Getv U)(env:XEnv U)(l:List (FSpec U)):Bool:=l.any fun s=>(prepD s getv env).isSome
def anyP(getv:Getv U)(env:XEnv U)(l:List (FSpec U)):Bool:=l.any fun s=>(prepP s getv env).isSome
def rawG(gd:Option (Nat×Bool))(getv:Getv U)(env:XEnv U)(l:List (FSpec U)):Bool:=
 match gd with
 | some _=>!(anyP getv env l)
 | none=>false
def dxb(d:Option (List Nat)):List Nat:=match d with
 | some l=>l
 | none=>[]
def xcall(fo:Fo U)(d:Option (List Nat))(gd:Option (Nat×Bool))(f:Nat)(getv:Getv U)(gl:GL)(env:XEnv U)(J:XSt U)(key:Nat)(k:XEnv U->XSt U->XV U->Option R):Option R:=
 match gd with
 | none=>match d with
  | none=>xraw getv env J key k (fo f)
  | some xb=>match anyD getv env (fo f)with
   | true=>gk getv env J key (fun J v=>k env J v) (fo f)
   | false=>eX xb getv env J key (fun J v=>k env J v) (fo f)
 | some _=>match gval gl env fuelG gd with
  | some g=>xpure getv env g (fun v=>k env J v) (fo f)
  | none=>none
abbrev NF :=List (Nat×Bool)
def isF(nf:NF)(gl:GL):Nat->Option (Nat×Bool)->Bool
 | 0,_=>false
 | _,none=>false
 | fu+1,some (t,b)=>(nf.any fun g=>Nat.beq g.1 t && (g.2==b)) || isF nf gl fu (lk gl t)
def bz(nf:NF)(dst:Option Nat):Bool:=
 match dst with
 | none=>true
 | some d=>nf.all fun g=>!(Nat.beq g.1 d)
def xskip :XV U:= .c (.t ⟨.bool,false⟩)
def xstep(fo:Fo U)(d:Option (List Nat))(o:AOper)(key:Nat)(gl:GL)(nf:NF)(env:XEnv U)(J:XSt U)(k:GL->NF->XEnv U->XSt U->Option R):Option R:=
 match cB gl o.guard o.dst && bz nf o.dst with
 | false=>none
 | true=>match isF nf gl fuelG o.guard with
  | true=>match gval gl env fuelG o.guard with
   | some _=>k (glAdd gl o.guard o.dst) nf (xbind o.dst xskip env) J
   | none=>none
  | false=>match o.op with
   | .call f args=>match rawG o.guard (fun e=>xops' gl o.guard e args) env (fo f)with
    | true=>match gval gl env fuelG o.guard,o.guard with
     | some g,some gd=>if g=true then eX (dxb d) (fun e=>xops' gl o.guard e args) env J key (fun J v=>k (glAdd gl o.guard o.dst) nf (xbind o.dst v env) J) (fo f)else k (glAdd gl o.guard o.dst) (gd::nf) (xbind o.dst xskip env) J
     | _,_=>none
    | false=>xcall fo d o.guard f (fun e=>xops' gl o.guard e args) gl env J key fun env J v=>k (glAdd gl o.guard o.dst) nf (xbind o.dst v env) J
   | .callv x args=>match d,o.guard,xop gl none env x with
    | none,none,some (.c (.fn f _))=>xraw (fun e=>match xop gl none e x,xops' gl none e args with
     | some (.c (.fn f' caps')),some vs=>match Nat.beq f' f with
      | true=>some (vs++caps'.map fun b=>.c (.ptr b 0))
      | false=>none
     | _,_=>none) env J key (fun env J v=>k gl nf (xbind o.dst v env) J) (fo f)
    | some _,none,some (.c (.fn f []))=>xpure (fun e=>xops' gl none e args) env true (fun v=>k gl nf (xbind o.dst v env) J) (fo f)
    | _,_,_=>none
   | op=>match xval gl o.guard env J key op with
    | none=>none
    | some (c,v,J')=>match o.guard with
     | none=>if c=true then k gl nf (xbind o.dst v env) J' else none
     | some gd=>match gval gl env fuelG (some gd)with
      | none=>none
      | some g=>match op.neutral with
       | true=>if(c || !g)=true then k (glAdd gl o.guard o.dst) nf (xbind o.dst v env) J else none
       | false=>if g=true then(if c=true then k (glAdd gl o.guard o.dst) nf (xbind o.dst v env) J' else none)else k (glAdd gl o.guard o.dst) (gd::nf) (xbind o.dst xskip env) J
def ownA(J:XSt U):XC U->List (Nat×Ty)
 | .arr b=>match lk J b with
  | some (.arr t _)=>[(b,t)]
  | _=>[]
 | _=>[]
def ownV(J:XSt U):XV U->List (Nat×Ty)
 | .c x=>ownA J x
 | .agg cs=>cs.flatMap (ownA J)
 | .tup _=>[]
def ownO(gl:GL)(gd:Option (Nat×Bool))(env:XEnv U)(J:XSt U)(xs:List AO):List (Nat×Ty):=
 xs.flatMap fun x=>match xop gl gd env x with
  | some v=>ownV J v
  | none=>[]
def xfzN(l:List (Nat×Ty))(env:XEnv U)(J:XSt U):Option (XEnv U×XSt U):=
 match l with
 | []=>none
 | _=>xfz l env J
def preFz(gl:GL)(o:AOper)(env:XEnv U)(J:XSt U):Option (XEnv U×XSt U):=
 match o.op with
 | .slc _ x _ _=>match xop gl o.guard env x with
  | some (.c (.arr b))=>match lk J b with
   | some (.arr t _)=>xfz [(b,t)] env J
   | _=>none
  | _=>none
 | .call _ args=>match o.guard with
  | some _=>xfzN (ownO gl o.guard env J args) env J
  | none=>none
 | .bsliceT _ _ _ _ ps=>xfzN (ownO gl o.guard env J (ps.map Prod.snd)) env J
 | .bslice _ _ _ ps=>xfzN (ownO gl o.guard env J (ps.map Prod.snd)) env J
 | _=>none
def ix(fo:Fo U)(d:Option (List Nat))(o:AOper)(key:Nat)(gl:GL)(nf:NF)(env:XEnv U)(J:XSt U)(k:GL->NF->XEnv U->XSt U->Option R):Option R:=
 match d with
 | some xb=>xstep fo (some xb) o key gl nf env J k
 | none=>match preFz gl o env J with
  | none=>xstep fo none o key gl nf env J k
  | some p=>xstep fo none o key gl nf p.1 p.2 k
def cu(fo:Fo U)(d:Option (List Nat)):List AOper->Nat->GL->NF->XEnv U->XSt U->(GL->XEnv U->XSt U->Option R)->Option R
 | [],_,gl,_,env,J,k=>k gl env J
 | o::r,key,gl,nf,env,J,k=>ix fo d o key gl nf env J fun gl nf env J=>cu fo d r (key+16) gl nf env J k
def inGl(gl:GL)(k:Nat):Bool:=gl.any fun e=>Nat.beq e.1 k
def clean(gl:GL):XEnv U->XEnv U
 | []=>[]
 | (k,v)::r=>match inGl gl k with
  | true=>clean gl r
  | false=>(k,v)::clean gl r
def dU(gl:GL)(env:XEnv U):XEnv U:=
 match gl with
 | []=>env
 | _=>clean gl env
structure RS (key:Nat) (gl:GL) (nf:NF) (env:XEnv U) (J:XSt U) (env1:Env) (J1:Store) (G:Nat->Bool):Prop where
 er:ER key J G env env1
 hg:HG gl env G
 sr:SR key J J1
 hn:∀g,g∈nf->GdV env G (some g)=false
section
variable {P:Program} {kk key:Nat} {J J':XSt U} {J1 J1':Store} {env:XEnv U} {env1:Env} {G:Nat->Bool} {gl:GL} {gd:Option (Nat×Bool)} {nf:NF} {dst:Option Nat} {v:XV U} {v1:V}
theorem ko{d:Option Nat}{v:XV U}{env:XEnv U}{k:Nat}:lk (xbind d v env) k=if d=some k then some v else lk env k:=by
 cases d with
 | none=>rfl
 | some d=>
  grind[xbind,lk,aj,aU]
theorem iy{o:Option (Nat×Bool)}{g:Bool}(h:gval gl env fuelG o=some g):o=none\/∃t b y,o=some (t,b)/\bval env t b=some y:=by
 cases o with
 | none=>simp
 | some x=>
  grind[vu]
theorem od(hg:HG gl env G)(hn:∀g,g∈nf->GdV env G (some g)=false):∀{fu:Nat} {gd:Option (Nat×Bool)},isF nf gl fu gd=true->GdV env G gd=false
 | 0,gd,h=>by grind[isF]
 | fu+1,none,h=>by grind[isF]
 | fu+1,some (t,b),h=>by
  simp only[isF,Bool.or_eq_true,List.any_eq_true,Bool.and_eq_true]at h;rcases h with⟨⟨t',b'⟩,hm,h1,h2⟩ | h
  . grind[aj]
  . have:=od hg hn h;rw[hg.lk t]at this
    grind[GdV]
theorem RS.bind (he : ER key J' G env env1) (hg : HG gl env G) (hS : SR key J' J1') (hn : ∀ g, g ∈ nf -> GdV env G (some g) = false) (hv : VR key J' v v1) (hd : gd = none \/ ∃ t b y, gd = some (t, b) /\ bval env t b = some y) (hf : cB gl gd dst = true) (hfn : bz nf dst = true):
 RS key (glAdd gl gd dst) nf (xbind dst v env) J' (aA env1 dst (GdV env G gd) v1) J1' (fun k=>if dst=some k then GdV env G gd else G k):=by
 refine⟨fun k w hk=>?_,?_,hS,fun g hgm=>?_⟩
 . rw[ko]at hk;rw[bO];split at hk
   . grind
   . rename_i h;rw[if_neg h,if_neg h];exact he k w hk
 . cases dst with
   | none=>
    have:glAdd gl gd none=gl:=by cases gd <;> rfl
    simp_all[xbind,reduceCtorEq,if_false]
   | some d=>
    simp only[cB,Bool.and_eq_true,List.all_eq_true,Bool.not_eq_true']at hf;have hfresh:∀k t b,lk gl k=some (t,b)->k≠d/\t≠d:=by
     intro k t b hk;have hm:∀{l:GL},lk l k=some (t,b)->(k,t,b)∈l:=by
      intro l
      induction l with
      | nil=>grind[lk]
      | cons e r ih=>
       obtain⟨k',e⟩:=e;intro h;simp only[lk]at h;split at h
       . simp_all
       grind
     grind[aU]
    have hbv:∀t b,t≠d->bval (xbind (some d) v env) t b=bval env t b:=by
     intro t b ht;unfold bval;rw[ko,if_neg (by grind)]
    have old:∀k t b,lk gl k=some (t,b)->∃y,bval (xbind (some d) v env) t b=some y/\(if some d=some k then GdV env G gd else G k)=((if some d=some t then GdV env G gd else G t) && y):=by
     intro k t b hk;obtain⟨y,h3,h4⟩:=hg.held k t b hk
     grind
    cases gd with
    | none=>
     refine⟨fun k hk=>?_,fun k t b hk=>old k t b hk⟩;by_cases hdk:some d=some k
     . rw[if_pos hdk];rfl
     . rw[if_neg hdk];exact hg.free k hk
    | some g=>
     obtain⟨t0,b0⟩:=g;have ht0:t0≠d:=by
      grind[Bool.not_eq_true',aU]
     refine⟨fun k hk=>?_,fun k t b hk=>?_⟩
     . simp only[glAdd,lk]at hk;split at hk
       . grind
       . rw[if_neg (by grind[aU])];exact hg.free k hk
     . simp only[glAdd,lk]at hk;split at hk
       . rename_i hb;cases hk;have:=aj hb;subst this;rcases hd with h | ⟨t,b,y,h,hy⟩
         . grind
         . cases h;refine⟨y,by grind,?_⟩;rw[if_pos rfl,if_neg (by simp;exact fun e=>ht0 e.symm)];simp[GdV,hy]
       . exact old k t b hk
 . obtain⟨t,b⟩:=g;have h0:=hn _ hgm;cases dst with
   | none=>simpa[xbind]using h0
   | some d=>
    simp only[bz,List.all_eq_true,Bool.not_eq_true']at hfn;have htd:t≠d:=aU (hfn _ hgm);simp only[GdV]at h0 ⊢;rw[if_neg (by simp;exact fun e=>htd e.symm)];have:bval (xbind (some d) v env) t b=bval env t b:=by
     unfold bval;rw[ko,if_neg (by simp;exact fun e=>htd e.symm)]
    rw[this];exact h0
theorem kH{N:Nat}{J:XSt U}:VR N J xskip (.c (.t (.bool false))):= .c (.t _)
theorem gY {o : AOper} (h : RS key gl nf env J env1 J1 G) (hdef : o.guard = none \/ ∃ t b y, o.guard = some (t, b) /\ bval env t b = some y) (hg : GdV env G o.guard = false) (hf : cB gl o.guard o.dst = true) (hfn : bz nf o.dst = true) {v : XV U} {v1 : V} (hv : VR (key + 16) J v v1):
 DStep xb P o key env1 J1 false v1 J1/\RS (key+16) (glAdd gl o.guard o.dst) nf (xbind o.dst v env) J (aA env1 o.dst false v1) J1 (fun k=>if o.dst=some k then false else G k):=by
 have hag:=gW h.er hdef;rw[hg]at hag;refine⟨.skip hag rfl,?_⟩;have:=RS.bind (h.er.mono (Keep.more (by simp))) h.hg (h.sr.mono (Nat.le_add_right _ 16)) h.hn hv hdef hf hfn
 grind
theorem pz {o : AOper} {c : Bool} (h : RS key gl nf env J env1 J1 G) (hx : xval gl o.guard env J key o.op = some (c, v, J')) (hdef : o.guard = none \/ ∃ t b y, o.guard = some (t, b) /\ bval env t b = some y) (hf : cB gl o.guard o.dst = true) (hfn : bz nf o.dst = true):
 (GdV env G o.guard=true->c=true->∃v1 J1',DStep xb P o key env1 J1 true v1 J1'/\RS (key+16) (glAdd gl o.guard o.dst) nf (xbind o.dst v env) J' (aA env1 o.dst true v1) J1' (fun k=>if o.dst=some k then true else G k))/\
 (GdV env G o.guard=false->o.op.neutral=true->∃v1,DStep xb P o key env1 J1 false v1 J1/\RS (key+16) (glAdd gl o.guard o.dst) nf (xbind o.dst v env) J (aA env1 o.dst false v1) J1 (fun k=>if o.dst=some k then false else G k)):=by
 obtain⟨⟨v1,hv,ha⟩,hk,hn⟩:=nq h.er h.hg h.sr hx;have hag:=gW h.er hdef;refine⟨fun hg hc=>?_,fun hg hneu=>?_⟩
 . obtain⟨p,J1',h1,h2,h3⟩:=ha hg hc;rw[hg]at hag;have hd:o.op.drawn=true:=by
    generalize o.op=oo at hx;cases oo <;> first | rfl | (simp[xval]at hx)
   have hs:DStep xb P o _ _ J1 _ v1 _:= .op hag hd h1 (fun _=>h2) (.inr rfl);have e:(if o.op.neutral=true then J1 else J1')=J1':=by
    grind[fy]
   rw[e]at hs;refine⟨v1,J1',hs,?_⟩;have:=RS.bind (h.er.mono hk) h.hg h3 h.hn hv hdef hf hfn
   grind
 . rw[hn hneu]at hv;obtain⟨h1,h2⟩:=gY h hdef hg hf hfn hv;exact⟨v1,h1,h2⟩
theorem oe{x:XC U}(h:x.solid=true):x.conc.ren []=x.conc:=by
 cases x <;> simp[XC.solid]at h <;> try rfl
 rename_i f caps;cases caps with
 | nil=>rfl
 | cons=>grind
theorem kq :∀{x:XV U},aO x=true->(concV x).ren []=concV x
 | .c x,h=>by grind[aO,concV,V.ren,oe]
 | .agg cs,h=>by
  grind[aO,concV,V.ren,List.map_congr_left,oe]
 | .tup vs,h=>by
  simp[concV,V.ren];rw[go vs h]
where go:∀(vs:List (XV U)),aO.go vs=true->V.ren.go [] (concV.go vs)=concV.go vs
 | [],_=>rfl
 | v::vs,h=>by
  simp[aO.go]at h;simp[concV.go,V.ren.go,kq h.1,go vs h.2]
def FoSnd(P:Program)(fo:Fo U):Prop:=∀f s,s∈fo f->s.f=f/\aH P f=true/\FSnd P s
theorem kr{N:Nat}{J0:XSt U}{x:XC U}{d:C}(h:CR N J0 x d)(hs:x.solid2 J0=true):d=x.conc2 J0:=by
 cases h <;> simp[XC.solid2]at hs <;> try rfl
 . grind[XC.conc2]
 grind[XC.conc2]
theorem gC{J0:XSt U}:∀{vs:List (XV U)} {i:Nat},(aY.go J0 vs)[i]?=(vs[i]?).map (aY J0)
 | [],i=>by rfl
 | v::vs,0=>by rfl
 | v::vs,i+1=>by simp[aY.go,gC]
theorem lI{J0:XSt U}:∀{vs:List (XV U)} {i:Nat} {v:XV U},bp.go J0 vs=true->vs[i]?=some v->bp J0 v=true
 | [],i,v,_,h=>by grind
 | x::vs,0,v,hs,h=>by grind[bp.go]
 | x::vs,i+1,v,hs,h=>by simp[bp.go]at hs;exact lI hs.2 (by simpa using h)
theorem j9{N:Nat}{J0:XSt U}:∀{xs:List (XC U)} {ds:List C},All2 (CR N J0) xs ds->(∀x,x∈xs->x.solid2 J0=true)->ds=xs.map (XC.conc2 J0)
 | [],[],_,_=>rfl
 | x::xs,d::ds,.cons h1 h2,hs=>by
  rw[List.map_cons,<-kr h1 (hs x (by simp)),<-j9 h2 (fun x hx=>hs x (by grind))]
theorem oN{N:Nat}{J0:XSt U}{x:XV U}{d:V}(h:VR N J0 x d):bp J0 x=true->d=aY J0 x:=by
 induction h with
 | c h=>intro hs;rw[kr h hs];rfl
 | agg h=>
  grind[bp,aY,j9]
 | tup xs ds hl h ih=>
  intro hs
  congr 1
  apply List.ext_getElem?;intro i;rw[gC];cases hx:xs[i]? with
  | none=>grind
  | some x=>
   have hi:=(List.getElem?_eq_some_iff.1 hx).1;have hd:=List.getElem?_eq_getElem (l:=ds) (i:=i) (by omega);rw[hd]
   congr 1
   exact ih i x _ hx hd (lI hs hx)
theorem pA{N:Nat}{J0:XSt U}{x:XB U}{y:Blk}(h:BR N J0 x y)(hs:aK J0 x=true):y=concB J0 x:=by
 cases h with
 | box h=>grind[aK,concB,j9]
 | arr t l=>rfl
 | set ks=>rfl
 | buf E s=>rfl
 | bld h=>grind[aK,concB,kr]
 | arro=>grind[aK]
 | rows=>grind[aK]
theorem fM{J0:XSt U}:∀{l:XSt U} {b:Nat},sget (concS J0 l) b=(lk l b).map (concB J0)
 | [],b=>rfl
 | (k,x)::r,b=>by
  simp[concS,sget,lk];cases h:Nat.beq k b with
  | true=>simp_all
  | false=>rw[if_neg (aU h)];exact fM
theorem pS{k:Nat}:∀{v:V},v.mb (back [] k)=v.sh k
 | .c x=>by rfl
 | .agg cs=>by rfl
 | .tup vs=>by simp[V.mb,V.sh];rw[go vs]
where go:∀(vs:List V),V.mb.go _ vs=V.sh.go k vs
 | []=>rfl
 | v::vs=>by simp only[V.mb.go,V.sh.go];rw[pS,go vs]
theorem nC{k:Nat}{J1:Store}:∀{s:Store},aS J1 [] (back [] k) s=adopt J1 k s
 | []=>rfl
 | (b,x)::r=>by
  simp[aS];rw[nC];rfl
theorem iq :∀{ss:List SB} {j:Nat} {a:Cs U} {i:Nat} {x:XB U},lk (filS j ss a) i=some x->j<=i/\i < j+ss.length
 | [],j,a,i,x,h=>by grind[filS,lk]
 | s::ss,j,a,i,x,h=>by
  simp[filS]at h;split at h
  . simp[lk]at h;split at h
    . simp_all
    . have:=iq h;grind
  . have:=iq h;grind
theorem mI{bs:List Nat}:∀{caps:List Nat},(∀c,c∈caps->pos bs c=some c)->cR bs caps=some caps
 | [],_=>rfl
 | c::cs,h=>by simp[cR,h c _,mI (caps:=cs) (fun x hx=>h x (by grind))]
theorem eP{N:Nat}{J0:XSt U}(hb:∀b x,lk J0 b=some x->b < N){x:XC U}(hs:x.solid2 J0=true):CR N J0 x (x.conc2 J0)/\CSub ((x.conc2 J0).ren (List.range N)) (x.conc2 J0):=by
 have hp:∀b,hasB J0 b=true->pos (List.range N) b=some b:=by
  grind[hasB,bV]
 cases x with
 | t c=>exact⟨.t c,CSub.refl _⟩
 | ptr b o=>
  refine⟨.ptr b o,?_⟩;simp only[XC.conc2,C.ren,hp b hs];exact CSub.refl _
 | eptr b ty i o=>
  refine⟨.eptr b ty i o,?_⟩;simp only[XC.conc2,C.ren,hp b hs];exact CSub.refl _
 | iptr ty x o=>exact⟨.iptr ty x o,CSub.refl _⟩
 | arr b=>
  simp only[XC.solid2]at hs;split at hs
  . rename_i y hy;split at hs
    . rename_i p hd;simp only[XC.conc2,hy,hd];refine⟨.arr b p.1 p.2 (hb b y hy) fun z hz q hq=>?_,?_⟩
      . grind
      grind[C.ren,hasB,CSub.refl]
    grind
  grind
 | suf b lo len=>grind[XC.solid2]
 | sub b lo len=>grind[XC.solid2]
 | pre b h=>grind[XC.solid2]
 | mp b=>
  refine⟨.mp b,?_⟩;simp only[XC.conc2,C.ren,hp b hs];exact CSub.refl _
 | sptr b=>grind[XC.solid2]
 | bufc b=>
  simp only[XC.solid2]at hs;split at hs
  . rename_i y hy;split at hs
    . rename_i p hd;simp only[XC.conc2,hy,hd];refine⟨.bufc b p.2 (hb b y hy) fun z hz q hq=>?_,?_⟩
      . grind[aj]
      grind[C.ren,hasB,CSub.refl]
    grind
  grind
 | cap0=>exact⟨.cap0,CSub.refl _⟩
 | nilp=>exact⟨.nilp,CSub.refl _⟩
 | nilfn=>exact⟨.nilfn,CSub.refl _⟩
 | fn f caps=>
  simp only[XC.solid2]at hs;refine⟨.fn f caps,?_⟩
  grind[mI,XC.conc2,C.ren,CSub.refl]
 | dead=>grind[XC.solid2]
theorem eG{N:Nat}{J0:XSt U}(hb:∀b x,lk J0 b=some x->b < N):∀{xs:List (XC U)},(∀x,x∈xs->x.solid2 J0=true)->All2 (CR N J0) xs (xs.map (XC.conc2 J0))/\All2 CSub ((xs.map (XC.conc2 J0)).map (C.ren (List.range N))) (xs.map (XC.conc2 J0))
 | [],_=>⟨.nil,.nil⟩
 | x::xs,hs=>by
  obtain⟨h1,h2⟩:=eP hb (hs x (by simp));obtain⟨h3,h4⟩:=eG hb (xs:=xs) (fun x hx=>hs x (by grind));exact⟨.cons h1 h3,.cons h2 h4⟩
theorem lv{J0:XSt U}:∀{vs:List (XV U)},(aY.go J0 vs).length=vs.length
 | []=>rfl
 | v::vs=>by simp[aY.go,lv]
theorem ga{N:Nat}{J0:XSt U}(hb:∀b x,lk J0 b=some x->b < N):∀{x:XV U},bp J0 x=true->VR N J0 x (aY J0 x)/\VSub ((aY J0 x).ren (List.range N)) (aY J0 x)
 | .c x,hs=>by
  obtain⟨h1,h2⟩:=eP hb (x:=x) (by grind[bp]);exact⟨.c h1,.c h2⟩
 | .agg cs,hs=>by
  simp[bp,List.all_eq_true]at hs;obtain⟨h1,h2⟩:=eG hb hs;exact⟨.agg h1,.agg h2⟩
 | .tup vs,hs=>by
  have:=go hb vs hs;refine⟨.tup _ _ (by rw[lv]) fun i x d hx hd=>?_,.tup _ _ (by rw[gB]) fun i x y hx hy=>?_⟩
  . grind[gC]
  grind[gR,gC]
where go {N:Nat} {J0:XSt U} (hb:∀b x,lk J0 b=some x->b < N):∀(vs:List _),bp.go J0 vs=true->∀x,x∈vs->VR N J0 x (aY J0 x)/\VSub ((aY J0 x).ren (List.range N)) (aY J0 x)
 | [],_=>by simp
 | v::vs,hs=>by
  simp[bp.go]at hs;have h1:=ga hb hs.1;have h2:=go hb vs hs.2
  grind
theorem mK {fo : Fo U} (hfo : FoSnd P fo) {o : AOper} {f : Nat} {args : List AO} (ho : o.op = .call f args) (h : RS key gl nf env J env1 J1 G) (hgn : o.guard = none) (hf : cB gl o.guard o.dst = true) (hfn : bz nf o.dst = true)
 {k:XSt U->XV U->Option R} {r:R}:∀{ss:List (FSpec U)},(∀s,s∈ss->s∈fo f)->gk (fun e=>xops' gl o.guard e args) env J key k ss=some r->
 ∃v v1 J' J1',k J' v=some r/\DStep xb P o key env1 J1 true v1 J1'/\RS (key+16) (glAdd gl o.guard o.dst) nf (xbind o.dst v env) J' (aA env1 o.dst true v1) J1' (fun i=>if o.dst=some i then true else G i)
 | [],_,hx=>by grind[gk]
 | s::ss,hm,hx=>by
  simp only[gk]at hx;split at hx
  . exact mK hfo ho h hgn hf hfn (fun s hs=>hm s (by grind)) hx
  . rename_i hh hp;unfold prepD at hp;split at hp
    . rename_i vs hnil hvs;simp only[Bool.and_eq_true]at hnil;split at hp
      . rename_i a hsolid ha;rw[List.all_eq_true]at hsolid;obtain⟨hsf,hbody,hsnd⟩:=hfo f s (hm s (by simp));obtain⟨p,vs1,b1,b2,b3⟩:=dE h.er h.hg hvs;have hst:s.st=[]:=by grind[isNil]
        have hM:=aV hnil.2;obtain⟨res,hres,hk⟩:=Option.bind_eq_some_iff.1 hx;split at hk
        . rename_i hsol;simp only[Bool.and_eq_true]at hsol;obtain⟨ys,f1,hl,g1⟩:=chkVs_sound (N:=key) (Jc:=([]:XSt U)) (List.nodup_nil) (fun j b x' hj=>by grind) ha
          obtain⟨ds',e1,e2,e3⟩:=g1 vs1 b2.length (fun i x d hx hd=>by
           obtain⟨d',h1,h2⟩:=b2.get hx
           rw[hd]at h1;cases h1;omega)
          have hcell:Hs.cells U.D s.ts hh=a:=Hs.dec_cells hp;have hargs:s.args hh=ys:=by
           unfold FSpec.args;have:=f1 []
           grind
          have hast:s.ast hh=[]:=by unfold FSpec.ast;rw[hst];rfl
          have hkn:s.st.length=0:=by grind
          have hcon:=hsnd hh res hres ds' [] (by
           rw[hargs,hast,hkn]
           refine All2.of_get (by rw[hl,e1,b2.length]) fun i x d hx hd=>e3 i x d hx hd) (by rw[hast];intro b x hx;grind[lk])
          rw[hsf,hkn]at hcon;have hsub:All2 VSub vs1 ds':=by
           refine All2.of_get e1.symm fun i d d' hd hd'=>?_
           have hvs:=e2 i d d' hd hd';obtain⟨x,hx,hr⟩:=(b2.flip (R':=fun d x=>VR key J x d) fun _ _ h=>h).get hd;have hs:=hsolid x (List.mem_of_getElem? hx);have:=fZ hr hs
           grind[kq]
          have hcon2:=Con.conv hsub (J:=[]) (fun b x' hx=>by grind[sget]) hcon
          have hsS:∀b x,lk (s.rest res) b=some x->b < 16/\aK (s.rest res) x=true:=by
           intro b x hx;have hm':∀{l:XSt U},lk l b=some x->(b,x)∈l:=by
            intro l
            induction l with
            | nil=>grind[lk]
            | cons e r ih=>
             obtain⟨k',e⟩:=e;intro h;simp only[lk]at h;split at h
             . simp_all
             grind
           have:=hsol.2;unfold kY at this;rw[List.all_eq_true]at this;have h2:=this _ (hm' hx);simp only[Bool.and_eq_true]at h2;exact⟨by have:=aV h2.1;omega,h2.2⟩
          have hbound:∀b x,lk (s.rest res) b=some x->b < s.rst.length:=by
           intro b x hx;have:=(iq hx).2;omega
          have hcon3:Con P f vs1 [] 0 (fun r' s' M'=>r'=aY (s.rest res) (s.res res)/\s'=concS (s.rest res) (s.rest res)/\M'=s.rst.length):=by
           refine Con.tidy hcon2 ?_
           rintro r1 s1 N1 ⟨rfl,q1,q2⟩
           have hr1:=oN q1 hsol.1;subst hr1;refine⟨List.range s.rst.length,_,_,List.nodup_range,rfl,?_,?_,rfl,rfl,by simp⟩
           . exact(ga hbound hsol.1).2
           . intro b x hx;rw[fM,oZ1]at hx;obtain⟨x0,hx0,rfl⟩:=hx;obtain⟨h1,y,h2,h3⟩:=q2 b x0 hx0;have hy:=pA h3 (hsS b x0 hx0).2;subst hy;have ht:=fF (bs:=List.range s.rst.length) (i:=0) (j:=b) (r:=List.range s.rst.length) (by simp[h1]) h2;rw[Nat.zero_add]at ht;refine⟨_,ht,?_⟩;cases x0 with
             | box cs=>
              have hsb:=(hsS b _ hx0).2;simp only[aK,List.all_eq_true]at hsb;exact .box (eG hbound hsb).2
             | arr ty l=>exact .arr
             | rows sz l=>have hsb:=(hsS b _ hx0).2;simp[aK]at hsb
             | set ks=>exact .same
             | buf E s=>exact .same
             | bld E c=>have hsb:=(hsS b _ hx0).2;exact .bld (eP hbound (by simpa[aK]using hsb)).2
             | arro=>have hsb:=(hsS b _ hx0).2;simp[aK]at hsb
          have hbnd:V.bnd.V.bnds (lt 0) vs1=true:=by
           refine dB fun i d hd=>?_
           obtain⟨x,hx,hr⟩:=(b2.flip (R':=fun d x=>VR key J x d) fun _ _ h=>h).get hd;have hs:=hsolid x (List.mem_of_getElem? hx);have:=fZ hr hs;subst this;exact(eO (N:=key) (J:=J) hs).2 _
          have hg:aI env1 o.guard=some true:=by rw[hgn];rfl
          have hkeys:(concS (s.rest res) (s.rest res)).all (fun x=>decide (x.1 < 16))=true:=by
           have hh2:=hsol.2;unfold kY at hh2;have:∀{l:XSt U},(l.all fun p=>Nat.ble (p.1+1) 16 && aK (s.rest res) p.2)=true->(concS (s.rest res) l).all (fun x=>decide (x.1 < 16))=true:=by
            intro l
            induction l with
            | nil=>intro _;rfl
            | cons e r ih=>
             obtain⟨b,x⟩:=e;intro h;simp only[List.all_cons,Bool.and_eq_true]at h;simp only[concS,List.all_cons,Bool.and_eq_true,decide_eq_true_eq];exact⟨by have:=aV h.1.1;omega,ih h.2⟩
           grind
          have hcr:VR s.rst.length (s.rest res) (s.res res) (aY (s.rest res) (s.res res))/\SR s.rst.length (s.rest res) (concS (s.rest res) (s.rest res)):=by
           refine⟨(ga hbound hsol.1).1,fun b x hx=>?_⟩;refine⟨hbound b x hx,concB (s.rest res) x,by rw[fM,hx];rfl,?_⟩;cases x with
           | box cs=>
            have hsb:=(hsS b _ hx).2;simp only[aK,List.all_eq_true]at hsb;exact .box (eG hbound hsb).1
           | arr ty l=>exact .arr ty l
           | rows sz l=>have hsb:=(hsS b _ hx).2;simp[aK]at hsb
           | set ks=>exact .set ks
           | buf E s=>exact .buf E s
           | bld E c=>have hsb:=(hsS b _ hx).2;exact .bld (eP hbound (by simpa[aK]using hsb)).1
           | arro=>have hsb:=(hsS b _ hx).2;simp[aK]at hsb
          have hN:s.rst.length<=([]:List Nat).length+16:=by simpa using hM
          have hS':=SR.give (key:=key) (bs:=[]) List.nodup_nil (by simp) hN h.sr rfl hcr.2;have hV':=VR.mb (key:=key) (bs:=[]) (J:=J) List.nodup_nil (by simp) hN h.sr hcr.1;have hK':=gX (key:=key) (bs:=[]) (Jr:=s.rest res) List.nodup_nil (by simp) h.sr rfl;rw[pS]at hV';rw[nC]at hS'
          refine⟨_,(aY (s.rest res) (s.res res)).sh key,_,adopt J1 key (concS (s.rest res) (s.rest res)),hk,.own ho hg hgn b1 (b3 (by rw[hgn];rfl)) hbnd hM hkeys hcon3 rfl,?_⟩;have:=RS.bind (gd:=o.guard) (dst:=o.dst) (nf:=nf) (h.er.mono hK') h.hg hS' h.hn hV' (.inl hgn) hf hfn;rw[hgn]at this ⊢;exact this
        . cases hk
      . cases hp
    . cases hp
theorem nD :∀{args:List AO} {p:Prop} {vs1:List V},gets env1 args=some (p,vs1)->argBs env1 args=vs1.flatMap V.blks
 | [],p,vs1,h=>by simp[gets]at h;rw[h.2];rfl
 | x::xs,p,vs1,h=>by
  simp only[gets,oZ2,oZ1]at h;obtain⟨⟨p0,v0⟩,h1,⟨p1,vs0⟩,h2,_,rfl⟩:=h;have ih:=nD h2
  grind[argBs]
theorem pB{N:Nat}{J0:XSt U}{x:XC U}{d:C}(h:CR N J0 x d):∀b,b∈x.blks->b∈d.blks:=by
 intro b hb;cases h <;> simp only[XC.blks]at hb ⊢ <;> first | exact hb | (simp at hb)
theorem oO{N:Nat}{J0:XSt U}:∀{xs:List (XC U)} {ds:List C},All2 (CR N J0) xs ds->∀b,b∈xs.flatMap XC.blks->b∈ds.flatMap C.blks
 | [],[],_,b,hb=>hb
 | x::xs,d::ds,.cons h1 h2,b,hb=>by
  simp only[List.flatMap_cons,List.mem_append]at hb ⊢;rcases hb with hb | hb
  . grind[pB]
  . exact .inr (oO h2 b hb)
theorem wz{N:Nat}{J0:XSt U}{x:XV U}{d:V}(h:VR N J0 x d):∀b,b∈x.blks->b∈d.blks:=by
 intro b hb;cases h with
 | c h=>exact pB h b hb
 | agg h=>exact oO h b hb
 | tup=>grind[XV.blks]
theorem oP{N:Nat}{J0:XSt U}:∀{xs:List (XV U)} {ds:List V},All2 (VR N J0) xs ds->∀b,b∈xs.flatMap XV.blks->b∈ds.flatMap V.blks
 | [],[],_,b,hb=>hb
 | x::xs,d::ds,.cons h1 h2,b,hb=>by
  simp only[List.flatMap_cons,List.mem_append]at hb ⊢;rcases hb with hb | hb
  . grind[wz]
  . exact .inr (oP h2 b hb)
theorem oQ{l:List Nat}{b:Nat}(h:hasN l b=true):b∈l:=by
 simp_all[hasN]
theorem jH {fo : Fo U} (hfo : FoSnd P fo) {o : AOper} {f : Nat} {args : List AO} (ho : o.op = .call f args) (h : RS key gl nf env J env1 J1 G) (hdef : o.guard = none \/ ∃ t b y, o.guard = some (t, b) /\ bval env t b = some y) (hf : cB gl o.guard o.dst = true) (hfn : bz nf o.dst = true)
 (hgt:GdV env G o.guard=true) {k:XSt U->XV U->Option R} {r:R}:∀{ss:List (FSpec U)},(∀s,s∈ss->s∈fo f)->eX xb (fun e=>xops' gl o.guard e args) env J key k ss=some r->
 ∃v v1 J' J1',k J' v=some r/\DStep xb P o key env1 J1 true v1 J1'/\RS (key+16) (glAdd gl o.guard o.dst) nf (xbind o.dst v env) J' (aA env1 o.dst true v1) J1' (fun i=>if o.dst=some i then true else G i)
 | [],_,hx=>by grind[eX]
 | s::ss,hm,hx=>by
  simp only[eX]at hx;split at hx
  . exact jH hfo ho h hdef hf hfn hgt (fun s hs=>hm s (by grind)) hx
  . rename_i bs hh hp;obtain⟨hsf,hbody,hsnd⟩:=hfo f s (hm s (by simp));obtain⟨res,hres,hk⟩:=Option.bind_eq_some_iff.1 hx;unfold prepR at hp;split at hp
    . grind
    . rename_i vs hvs;split at hp;split at hp
      . grind
      . rename_i hb;simp only[Bool.and_eq_true,List.all_eq_true]at hb;obtain⟨_,hb1,hb2,hb3,hb4,hb5⟩:=hb;split at hp
        . rename_i a b ha hbs;split at hp
          . rename_i hh' hdec;cases hp;have hnd:=fG hb1;have hlt:=fun b hb=>aV (hb2 b hb).1
            have hlen:=aj hb3;have hle:=aV hb4;have hN:=aV hb5;obtain⟨p,vs1,b1,b2,b3⟩:=dE h.er h.hg hvs;have hcan:=gj hnd hbs;obtain⟨ys,f1,hl,g1⟩:=chkVs_sound (N:=key) hnd hcan ha
            obtain⟨ds',e1,e2,e3⟩:=g1 vs1 b2.length (fun i x d hx hd=>by
             obtain⟨d',h1,h2⟩:=b2.get hx
             grind)
            obtain⟨s1',t1,t2⟩:=ic hnd h.sr hbs;have hcell:=Hs.dec_cells hdec;have hargs:s.args hh=ys:=by grind[FSpec.args]
            have hast:s.ast hh=filS 0 s.st b:=by grind[FSpec.ast]
            have hcon:=hsnd hh res hres ds' s1' (by
             rw[hargs,hast,<-hlen]
             exact All2.of_get (by rw[hl,e1,b2.length]) fun i x d hx hd=>e3 i x d hx hd) (by grind)
            rw[hsf,<-hlen]at hcon;have hsub:All2 VSub (vs1.map (V.ren bs)) ds':=by
             grind[All2.of_get]
            have hcon2:=Con.conv hsub t1 hcon
            split at hk
            . rename_i c hsol hc;simp only[Bool.and_eq_true]at hsol;split at hk
              . rename_i hct;subst hct
                have hsS:∀b x,lk (s.rest res) b=some x->aK (s.rest res) x=true:=by
                 intro b x hx;have hm':∀{l:XSt U},lk l b=some x->(b,x)∈l:=by
                  intro l
                  induction l with
                  | nil=>intro h;simp[lk]at h
                  | cons e r ih=>
                   obtain⟨k',e⟩:=e;intro h;simp only[lk]at h;split at h
                   . simp_all
                   grind
                 have:=hsol.2;unfold kG at this
                 grind
                have hbound:∀b x,lk (s.rest res) b=some x->b < s.rst.length:=by
                 intro b x hx;have:=(iq hx).2;omega
                have hcon3:Con P f (vs1.map (V.ren bs)) (aF bs J1 0 bs) bs.length (fun r' s' M'=>r'=aY (s.rest res) (s.res res)/\s'=concS (s.rest res) (s.rest res)/\M'=s.rst.length):=by
                 refine Con.tidy hcon2 ?_
                 rintro r1 s1 N1 ⟨rfl,q1,q2⟩
                 have hr1:=oN q1 hsol.1;subst hr1;refine⟨List.range s.rst.length,_,_,List.nodup_range,?_,?_,?_,rfl,rfl,by simp⟩
                 . unfold keeps
                   grind
                 . exact(ga hbound hsol.1).2
                 . intro b x hx;rw[fM,oZ1]at hx;obtain⟨x0,hx0,rfl⟩:=hx;obtain⟨h1,y,h2,h3⟩:=q2 b x0 hx0;have hy:=pA h3 (hsS b x0 hx0);subst hy;have ht:=fF (bs:=List.range s.rst.length) (i:=0) (j:=b) (r:=List.range s.rst.length) (by simp[h1]) h2;rw[Nat.zero_add]at ht;refine⟨_,ht,?_⟩;cases x0 with
                   | box cs=>
                    have hsb:=hsS b _ hx0;simp only[aK,List.all_eq_true]at hsb;exact .box (eG hbound hsb).2
                   | arr ty l=>exact .arr
                   | rows sz l=>have hsb:=hsS b _ hx0;simp[aK]at hsb
                   | set ks=>exact .same
                   | buf E s=>exact .same
                   | bld E c=>have hsb:=hsS b _ hx0;exact .bld (eP hbound (by simpa[aK]using hsb)).2
                   | arro=>have hsb:=hsS b _ hx0;simp[aK]at hsb
                have hag:=gW h.er hdef;have hkeys:(concS (s.rest res) (s.rest res)).all (fun x=>decide (x.1 < bs.length+16))=true:=by
                 have hh2:=hsol.2;unfold kG at hh2;have:∀{l:XSt U},(l.all fun p=>Nat.ble (p.1+1) (bs.length+16) && aK (s.rest res) p.2)=true->(concS (s.rest res) l).all (fun x=>decide (x.1 < bs.length+16))=true:=by
                  intro l
                  induction l with
                  | nil=>intro _;rfl
                  | cons e r ih=>
                   obtain⟨b,x⟩:=e;intro h;simp only[List.all_cons,Bool.and_eq_true]at h;simp only[concS,List.all_cons,Bool.and_eq_true,decide_eq_true_eq];exact⟨by have:=aV h.1.1;omega,ih h.2⟩
                 grind
                have hcr:VR s.rst.length (s.rest res) (s.res res) (aY (s.rest res) (s.res res))/\SR s.rst.length (s.rest res) (concS (s.rest res) (s.rest res)):=by
                 refine⟨(ga hbound hsol.1).1,fun b x hx=>?_⟩;refine⟨hbound b x hx,concB (s.rest res) x,by rw[fM,hx];rfl,?_⟩;cases x with
                 | box cs=>
                  have hsb:=hsS b _ hx;simp only[aK,List.all_eq_true]at hsb;exact .box (eG hbound hsb).1
                 | arr ty l=>exact .arr ty l
                 | rows sz l=>have hsb:=hsS b _ hx;simp[aK]at hsb
                 | set ks=>exact .set ks
                 | buf E s=>exact .buf E s
                 | bld E c=>have hsb:=hsS b _ hx;exact .bld (eP hbound (by simpa[aK]using hsb)).1
                 | arro=>have hsb:=hsS b _ hx;simp[aK]at hsb
                have hS':=SR.give (key:=key) (bs:=bs) hnd hlt hN h.sr hc hcr.2;have hV':=VR.mb (key:=key) (bs:=bs) (J:=J) hnd hlt hN h.sr hcr.1;have hK':=gX (key:=key) (bs:=bs) (Jr:=s.rest res) hnd hlt h.sr hc;have hin:∀b,b∈bs->∃x,sget J1 b=some x:=by
                 intro b hb;have h3:=(hb2 b hb).2.2;unfold hasB at h3;split at h3
                 . rename_i x hx;obtain⟨_,y,hy,_⟩:=h.sr b x hx
                   grind
                 . cases h3
                have hsubs:∀b,b∈bs->b∈argBs env1 args++xb:=by
                 intro b hb;rw[nD b1];have hq:=(hb2 b hb).2.1;rw[Bool.or_eq_true]at hq;rcases hq with hq | hq
                 . exact List.mem_append_left _ (oP b2 b (oQ hq))
                 . exact List.mem_append_right _ (oQ hq)
                refine⟨_,(aY (s.rest res) (s.res res)).mb (back bs key),_,_,hk,.raw ho (by rw[hag,hgt]) rfl b1 (b3 hgt) hnd hlt hin hsubs hN hkeys hcon3 rfl,?_⟩;have:=RS.bind (gd:=o.guard) (dst:=o.dst) (nf:=nf) (h.er.mono hK') h.hg hS' h.hn hV' hdef hf hfn;simp_all
              . cases hk
            . cases hk
          . cases hp
        . cases hp
theorem jY {fo : Fo U} (hfo : FoSnd P fo) {o : AOper} {f : Nat} {args : List AO} (ho : o.op = .call f args \/ (o.guard = none /\ ∃ x q, o.op = .callv x args /\ x.get env1 = some (q, .c (.fn f [])) /\ q)) (h : RS key gl nf env J env1 J1 G) (hdef : o.guard = none \/ ∃ t b y, o.guard = some (t, b) /\ bval env t b = some y) (hf : cB gl o.guard o.dst = true) (hfn : bz nf o.dst = true)
 {g:Bool} (hg:g=GdV env G o.guard) {k:XV U->Option R} {r:R}:∀{ss:List (FSpec U)},(∀s,s∈ss->s∈fo f)->xpure (fun e=>xops' gl o.guard e args) env g k ss=some r->
 ∃v v1,k v=some r/\DStep xb P o key env1 J1 g v1 J1/\RS (key+16) (glAdd gl o.guard o.dst) nf (xbind o.dst v env) J (aA env1 o.dst g v1) J1 (fun i=>if o.dst=some i then g else G i)
 | [],_,hx=>by grind[xpure]
 | s::ss,hm,hx=>by
  simp only[xpure]at hx;split at hx
  . exact jY hfo ho h hdef hf hfn hg (fun s hs=>hm s (by grind)) hx
  . rename_i hh hp;unfold prepP at hp;split at hp
    . rename_i vs hnil hvs;split at hp
      . rename_i a hsolid ha;rw[List.all_eq_true]at hsolid;obtain⟨hsf,hbody,hsnd⟩:=hfo f s (hm s (by simp));obtain⟨p,vs1,b1,b2,b3⟩:=dE h.er h.hg hvs;have hst:s.st=[]:=by grind[isNil]
        obtain⟨res,hres,hk⟩:=Option.bind_eq_some_iff.1 hx;split at hk
        . rename_i hsol;obtain⟨hv1,hvb⟩:=eO (N:=key+16) (J:=J) hsol;have hag:=gW h.er hdef;rw[<-hg]at hag;have hRS:RS (key+16) (glAdd gl o.guard o.dst) nf (xbind o.dst (s.res res) env) J (aA env1 o.dst g (concV (s.res res))) J1 (fun i=>if o.dst=some i then g else G i):=by
           have:=RS.bind (dst:=o.dst) (h.er.mono (Keep.more (by simp:key<=key+16))) h.hg (h.sr.mono (Nat.le_add_right key 16)) h.hn hv1 hdef hf hfn
           grind
          refine⟨s.res res,concV (s.res res),hk,?_,hRS⟩;have hgoal:g=true->p/\V.bnd.V.bnds (lt 0) vs1=true/\(concV (s.res res)).bnd (lt 0)=true/\Con P f vs1 [] 0 (fun r' _ _=>r'=concV (s.res res)):=?_
          . rcases ho with ho | ⟨hgn,x,q,ho,hx,hq⟩
            . exact .call ho hag b1 hgoal
            . have hgt:g=true:=by rw[hg,hgn];rfl
              exact .callv ho hgn hgt hx hq hbody b1 (hgoal hgt)
          intro hgt;rw[if_pos hgt]at hres
          obtain⟨ys,f1,hl,g1⟩:=chkVs_sound (N:=key) (Jc:=([]:XSt U)) (List.nodup_nil) (fun j b x' hj=>by grind) ha
          obtain⟨ds',e1,e2,e3⟩:=g1 vs1 b2.length (fun i x d hx hd=>by
           obtain⟨d',h1,h2⟩:=b2.get hx
           rw[hd]at h1;cases h1;omega)
          have hcell:Hs.cells U.D s.ts hh=a:=Hs.dec_cells hp;have hargs:s.args hh=ys:=by
           unfold FSpec.args;have:=f1 []
           grind
          have hast:s.ast hh=[]:=by unfold FSpec.ast;rw[hst];rfl
          have hkn:s.st.length=0:=by grind
          have hcon:=hsnd hh res hres ds' [] (by
           rw[hargs,hast,hkn]
           refine All2.of_get (by rw[hl,e1,b2.length]) fun i x d hx hd=>e3 i x d hx hd) (by rw[hast];intro b x hx;grind[lk])
          rw[hsf,hkn]at hcon;have hsub:All2 VSub vs1 ds':=by
           refine All2.of_get e1.symm fun i d d' hd hd'=>?_
           have hvs:=e2 i d d' hd hd';obtain⟨x,hx,hr⟩:=(b2.flip fun _ _ h=>h).get hd
           exact noblk (hsolid x (List.mem_of_getElem? hx)) hvs hr
          refine⟨b3 (by grind),?_,hvb _,?_⟩
          . refine dB fun i d hd=>?_
            obtain⟨x,hx,hr⟩:=(b2.flip (R':=fun d x=>VR key J x d) fun _ _ h=>h).get hd;exact noblk_bnd (hsolid x (List.mem_of_getElem? hx)) hr
          . refine Con.conv hsub (fun b x' hx=>by simp[sget]at hx) (hcon.mono fun r1 J1' N' hh'=>?_)
            exact fZ hh'.2.1 hsol
        . cases hk
      grind
    grind
where
 noblk {x:XV U} {d d':V} (hs:aO x=true) (hvs:VSub (d.ren []) d') (hr:VR key J x d):VSub d d':=by
  have:=fZ hr hs
  grind[kq]
 noblk_bnd {x:XV U} {d:V} (hs:aO x=true) (hr:VR key J x d):d.bnd (lt 0)=true:=by
  have:=fZ hr hs
  grind[eO]
theorem gV {fo : Fo U} (hfo : FoSnd P fo) {f : Nat} {getv : Getv U} {cal : Env -> List V -> Prop}
 (hgetv:∀{env':XEnv U} {J2:XSt U} {env1':Env} {vs:List (XV U)},ER key J2 G env' env1'->HG gl env' G->getv env'=some vs->∃vs1,All2 (VR key J2) vs vs1/\cal env1' vs1)
 (he:ER key J G env env1) (hg:HG gl env G) (hS:SR key J J1) {k:XEnv U->XSt U->XV U->Option R} {r:R}:∀{ss:List (FSpec U)},(∀s,s∈ss->s∈fo f)->xraw getv env J key k ss=some r->
 ∃env' J2 env1' J1' vs1,Conv kk key env1 J1 key env1' J1'/\ER key J2 G env' env1'/\HG gl env' G/\(∀t b,bval env' t b=bval env t b)/\cal env1' vs1/\aH P f=true/\
  pR P f vs1 J1' key env1' (fun r1 s1=>∃J3 v,k env' J3 v=some r/\ER (key+16) J3 G env' env1'/\SR (key+16) J3 s1/\VR (key+16) J3 v r1)
 | [],_,hx=>by grind[xraw]
 | s::ss,hm,hx=>by
  simp only[xraw]at hx;split at hx
  . exact gV hfo hgetv he hg hS (fun s hs=>hm s (by grind)) hx
  . rename_i env' J2 bs h hp;obtain⟨hsf,hbody,hsnd⟩:=hfo f s (hm s (by simp));obtain⟨res,hres,hk⟩:=Option.bind_eq_some_iff.1 hx;unfold prep at hp;split at hp
    . grind
    . split at hp;split at hp
      . cases hp
      . rename_i env2 J22 hfz;split at hp
        . cases hp
        . rename_i vs hvs;split at hp
          . cases hp
          . rename_i hb;simp only[Bool.and_eq_true,List.all_eq_true]at hb;obtain⟨hb1,hb2,hb3,hb4⟩:=hb;split at hp
            . rename_i a b ha hbs;split at hp
              . rename_i hh hdec;cases hp;have hnd:=fG hb1;have hlt:∀b,b∈bs->b < key:=fun b hb=>aV (hb2 b hb)
                have hlen:=aj hb3;have hrl:=aV hb4;obtain⟨env1',J1',hconv,he',hS',hg'⟩:=eA (kk:=kk) (gl:=gl) hfz he hS;obtain⟨vs1,b2,hcal⟩:=hgetv he' (hg' hg) hvs;have hcan:=gj hnd hbs;obtain⟨ys,f1,hl,g1⟩:=chkVs_sound (N:=key) hnd hcan ha
                obtain⟨ds',e1,e2,e3⟩:=g1 vs1 b2.length (fun i x d hx hd=>by
                 obtain⟨d',h1,h2⟩:=b2.get hx
                 grind)
                obtain⟨s1',t1,t2⟩:=ic hnd hS' hbs;have hcell:Hs.cells U.D s.ts h=a++b:=Hs.dec_cells hdec;have hargs:s.args h=ys:=by unfold FSpec.args;rw[hcell,f1]
                have hast:s.ast h=filS 0 s.st b:=by unfold FSpec.ast;rw[hcell,f1]
                have hcon:=hsnd h res hres ds' s1' (by
                 rw[hargs,hast,<-hlen]
                 exact All2.of_get (by rw[hl,e1,b2.length]) fun i x d hx hd=>e3 i x d hx hd) (by rw[hast,<-hlen];exact t2)
                rw[hsf,<-hlen]at hcon;have hsub:All2 VSub (vs1.map (V.ren bs)) ds':=by
                 refine All2.of_get (by simp[e1]) fun i d d' hd hd'=>?_
                 grind
                have hcon2:=Con.conv hsub t1 hcon
                split at hk
                . cases hk
                . rename_i c hc;split at hk
                  . rename_i hct;subst hct;have hN:s.rst.length<=bs.length+16:=hrl;refine⟨env',J2,env1',J1',vs1,hconv,he',hg' hg,fun t b=>bval_fz hfz,hcal,hbody,?_⟩;intro Γ nt φ S a w R hbn vv hvv;refine(ACall.raw (n:=lt key) (key:=key) hnd hlt hcon2 ?_ (fun b hb=>by simp[lt];exact hlt b hb) Γ nt φ S env1' a w R (fun b h1 _=>fT h1) hbn vv hvv)
                    rintro r1 s1 N' ⟨rfl,q1,q2⟩
                    refine⟨hN,_,_,hk,he'.mono (gX hnd hlt hS' hc),SR.give hnd hlt hN hS' hc q2,VR.mb hnd hlt hN hS' q1⟩
                  . cases hk
              . cases hp
            . cases hp
where
 bval_key {env:XEnv U} {b0:Nat} {ty:Ty} {l:List (ty.den U.D)} {t:Nat} {b:Bool}:bval (xfrzE b0 (⟨.slice ty,l⟩:Cell U.D) env) t b=bval env t b:=by
  unfold bval;rw[ik];cases lk env t with
  | none=>rfl
  | some v=>
   cases v with
   | c x=>
    cases x with
    | arr b'=>grind[XV.frz,XC.frz]
    | eptr b' ty' i o=>grind[XV.frz,XC.frz]
    | pre b' h=>grind[XV.frz,XC.frz]
    | suf b' lo h=>grind[XV.frz,XC.frz]
    | _=>rfl
   | agg cs=>rfl
   | tup vs=>rfl
 bval_fz {l:List (Nat×Ty)} {env env':XEnv U} {J J':XSt U} {t:Nat} {b:Bool} (h:xfz l env J=some (env',J')):bval env' t b=bval env t b:=by
  induction l generalizing env J with
  | nil=>grind[xfz]
  | cons p l ih=>
   simp only[xfz]at h;split at h
   . rename_i e s h1;have h2:bval e t b=bval env t b:=by
      unfold xfz1 at h1;split at h1
      . split at h1
        . cases h1;exact bval_key
        grind
      . split at h1
        . cases h1;exact bval_key
        grind
      grind
     grind
   grind
theorem nE {fo : Fo U} (hfo : FoSnd P fo) {o : AOper} (h : RS key gl nf env J env1 J1 G) {k : GL -> NF -> XEnv U -> XSt U -> Option R} {r : R} (hx : xstep fo (some xb) o key gl nf env J k = some r):
 ∃g v1 J1' gl' nf' env' J' G',DStep xb P o key env1 J1 g v1 J1'/\k gl' nf' env' J'=some r/\RS (key+16) gl' nf' env' J' (aA env1 o.dst g v1) J1' G':=by
 unfold xstep at hx;split at hx
 . grind
 . rename_i hff;simp only[Bool.and_eq_true]at hff;obtain⟨hf,hfn⟩:=hff;split at hx
   . rename_i hF;split at hx
     . rename_i g0 hg0;have hfalse:=od h.hg h.hn hF;obtain⟨h1,h2⟩:=gY (P:=P) h (iy hg0) hfalse hf hfn (kH (U:=U) (N:=key+16) (J:=J));exact⟨_,_,_,_,_,_,_,_,h1,hx,h2⟩
     grind
   . split at hx
     . rename_i f args ho;split at hx
       . split at hx
         . rename_i g gd hg hgn;have hdef:o.guard=none\/∃t b y,o.guard=some (t,b)/\bval env t b=some y:=by grind[iy]
           have hgv:g=GdV env G o.guard:=gT h.hg hg;split at hx
           . obtain⟨v,v1,J',J1',h1,h2,h3⟩:=jH (fo:=fo) hfo ho h hdef hf hfn (by grind) (fun s hs=>hs) hx;exact⟨_,_,_,_,_,_,_,_,h2,h1,h3⟩
           . have hgf:GdV env G o.guard=false:=by grind
             have h':RS key gl (gd::nf) env J env1 J1 G:=⟨h.er,h.hg,h.sr,fun g0 hg0=>by
              rcases List.mem_cons.1 hg0 with rfl | hm
              . grind
              . exact h.hn g0 hm⟩
             have hfn':bz (gd::nf) o.dst=true:=by
              cases hd:o.dst with
              | none=>rfl
              | some d=>
               simp_all[bz,List.all_cons,Bool.and_eq_true,cB]
             obtain⟨h1,h2⟩:=gY (P:=P) h' hdef hgf hf hfn' (kH (U:=U) (N:=key+16) (J:=J));exact⟨_,_,_,_,_,_,_,_,h1,hx,h2⟩
         grind
       unfold xcall at hx;split at hx
       . rename_i hgn;simp only at hx;split at hx
         case h_2=>
          obtain⟨v,v1,J',J1',h1,h2,h3⟩:=jH (fo:=fo) hfo ho h (.inl hgn) hf hfn (by rw[hgn];rfl) (fun s hs=>hs) hx
          grind
         rw[hgn]at hx;obtain⟨v,v1,J',J1',h1,h2,h3⟩:=mK (fo:=fo) hfo ho h hgn hf hfn (k:=fun J v=>k (glAdd gl o.guard o.dst) nf (xbind o.dst v env) J) (fun s hs=>hs) (by rw[hgn];omega);exact⟨_,_,_,_,_,_,_,_,h2,h1,h3⟩
       . rename_i gd hgn;split at hx
         . rename_i g hg;rw[hgn]at hx hg;obtain⟨v,v1,h1,h2,h3⟩:=jY (fo:=fo) hfo (.inl ho) h (by grind[iy]) hf hfn (g:=g) (by rw[hgn];exact gT h.hg hg) (fun s hs=>hs) (by rw[hgn];omega);rw[hgn]at h3;exact⟨_,_,_,_,_,_,_,_,h2,h1,h3⟩
         grind
     . rename_i x args ho;split at hx
       . grind
       . rename_i xb' f hd hgn hxv;obtain⟨q,v1,a1,a2,a3⟩:=ab h.er h.hg hxv;have:=a2.fn_inv;subst this;obtain⟨v,v1,h1,h2,h3⟩:=jY (xb:=xb) (fo:=fo) hfo (.inr ⟨hgn,x,q,ho,a1,a3 rfl⟩) h (.inl hgn) hf hfn (g:=true) (by rw[hgn];rfl) (fun s hs=>hs) (by rw[hgn];omega);rw[hgn]at h3;exact⟨_,_,_,_,_,_,_,_,h2,h1,h3⟩
       grind
     . split at hx
       . cases hx
       . rename_i c v J' hv;split at hx
         . rename_i hgn;split at hx
           . rename_i hc;rw[hgn]at hv;obtain⟨v1,J1',h1,h2⟩:=(pz (P:=P) (o:=o) h (by rw[hgn];exact hv) (.inl hgn) hf hfn).1 (by rw[hgn];rfl) hc;rw[hgn]at h2;exact⟨_,_,_,_,_,_,_,_,h1,hx,h2⟩
           . cases hx
         . rename_i gd hgn;split at hx
           . cases hx
           . rename_i g hg;have hdef:o.guard=none\/∃t b y,o.guard=some (t,b)/\bval env t b=some y:=by rw[hgn];exact iy hg
             have hgv:g=GdV env G o.guard:=by rw[hgn];exact gT h.hg hg
             have hop:=pz (P:=P) (o:=o) (xb:=xb) h hv hdef hf hfn;split at hx
             . rename_i hneu;split at hx
               . rename_i hcg;cases hgb:g with
                 | true=>
                  rw[hgb]at hcg hgv;simp at hcg;obtain⟨v1,J1',h1,h2⟩:=hop.1 hgv.symm hcg;have hJ:J'=J:=(nq h.er h.hg h.sr hv).neu hneu;rw[hJ]at h2;exact⟨_,_,_,_,_,_,_,_,h1,hx,h2⟩
                 | false=>
                  rw[hgb]at hgv;obtain⟨v1,h1,h2⟩:=hop.2 hgv.symm hneu;exact⟨_,_,_,_,_,_,_,_,h1,hx,h2⟩
               . cases hx
             . split at hx
               . rename_i hgt;split at hx
                 . rename_i hc;obtain⟨v1,J1',h1,h2⟩:=hop.1 (by rw[<-hgv];exact hgt) hc;exact⟨_,_,_,_,_,_,_,_,h1,hx,h2⟩
                 . cases hx
               . rename_i hgt;have hgf:GdV env G o.guard=false:=by rw[<-hgv];simpa using hgt
                 have h':RS key gl (gd::nf) env J env1 J1 G:=⟨h.er,h.hg,h.sr,fun g0 hg0=>by
                  rcases List.mem_cons.1 hg0 with rfl | hm
                  . grind
                  . exact h.hn g0 hm⟩
                 have hfn':bz (gd::nf) o.dst=true:=by
                  cases hd:o.dst with
                  | none=>rfl
                  | some d=>
                   rw[hd]at hfn hf;rw[hgn]at hf;simp only[bz,List.all_cons,Bool.and_eq_true];simp only[bz]at hfn;simp only[cB,Bool.and_eq_true]at hf
                   grind
                 obtain⟨h1,h2⟩:=gY (P:=P) h' hdef hgf hf hfn' (kH (U:=U) (N:=key+16) (J:=J));exact⟨_,_,_,_,_,_,_,_,h1,hx,h2⟩
theorem mL {fo : Fo U} (hfo : FoSnd P fo) {o : AOper} (h : RS key gl nf env J env1 J1 G) {k : GL -> NF -> XEnv U -> XSt U -> Option R} {r : R} (hx : xstep fo none o key gl nf env J k = some r) {K : Env -> Store -> Prop}
 (hK:∀gl' nf' env' J' env1' J1' G',k gl' nf' env' J'=some r->RS (key+16) gl' nf' env' J' env1' J1' G'->K env1' J1'):
 ∃env0 J0,Conv kk key env1 J1 key env0 J0/\cstep P o key env0 J0 K:=by
 by_cases hraw:xstep fo (some []) o key gl nf env J k=some r
 . obtain⟨g,v1,J1',gl',nf',env',J',G',h1,h2,h3⟩:=nE hfo h hraw;exact⟨env1,J1,Conv.refl,.inl (h1.astep (hK _ _ _ _ _ _ _ h2 h3))⟩
 . unfold xstep at hx hraw;split at hx
   . grind
   . rename_i hff;rw[hff]at hraw;simp only[Bool.and_eq_true]at hff;obtain⟨hf,hfn⟩:=hff;split at hx
     . grind
     . rename_i hF;rw[hF]at hraw;simp only at hraw;split at hx
       . rename_i f args ho;rw[ho]at hraw;simp only at hraw;split at hx
         . rename_i hrg;rw[hrg]at hraw;exact absurd hx hraw
         rename_i hrg;rw[hrg]at hraw;unfold xcall at hx hraw;split at hx
         . rename_i hgn;rw[hgn]at hx;obtain⟨env',J2,env1',J1',vs1,c1,c2,c3,c4,⟨p,hp1,hp2⟩,hb,hA⟩:=gV (kk:=kk) (P:=P) hfo (f:=f) (cal:=fun e vs=>∃p,gets e args=some (p,vs)/\p)
            (fun he hg hv=>by
             obtain⟨p,vs1,b1,b2,b3⟩:=dE he hg hv
             exact⟨vs1,b2,p,b1,b3 rfl⟩) h.er h.hg h.sr (fun s hs=>hs) hx
           refine⟨env1',J1',c1,.inr ⟨by rw[hgn];rfl,f,vs1,.inl ⟨args,p,ho,hp1,hp2⟩,?_⟩⟩;intro Γ nt φ S a w hR hbn vv hvv;refine(hA Γ nt φ S a w hR hbn vv hvv).mono ?_
           rintro e w' ⟨v,r1,φ',S',s1,rfl,⟨J3,v3,k1,k2,k3,k4⟩,q1,q2,q3⟩
           refine⟨v,r1,φ',S',s1,rfl,?_,q1,q2,q3⟩
           have hbd:=RS.bind (gd:=none) (dst:=o.dst) (nf:=nf) k2 c3 k3 (fun g hg=>by
            obtain⟨t,b⟩:=g;have h0:=h.hn _ hg;simp only[GdV]at h0 ⊢
            grind) k4 (.inl rfl) (by rw[hgn]at hf;exact hf) hfn
           exact hK _ _ _ _ _ _ _ k1 hbd
         grind
       . rename_i x args ho;split at hx
         . rename_i f caps hd hgn hxv;obtain⟨env',J2,env1',J1',vs1,c1,c2,c3,c4,⟨q,p,caps',vs0,hq0,hq1,hp1,hp2,hp3⟩,hb,hA⟩:=gV (kk:=kk) (P:=P) hfo (f:=f) (cal:=fun e vs=>∃q p caps' vs0,x.get e=some (q,.c (.fn f caps'))/\q/\gets e args=some (p,vs0)/\p/\vs=vs0++caps'.map fun b=>V.c (.ptr b 0))
            (fun he hg hv=>by
             split at hv
             . rename_i f' caps' vs' e1 e2;split at hv
               . rename_i hfe;have:=aj hfe;subst this;cases hv;obtain⟨q,v1,a1,a2,a3⟩:=ab he hg e1;have:=a2.fn_inv;subst this;obtain⟨p,vs1,b1,b2,b3⟩:=dE he hg e2;refine⟨vs1++caps'.map fun b=>V.c (.ptr b 0),b2.append ?_,q,p,caps',vs1,a1,a3 rfl,b1,b3 rfl,rfl⟩;exact All2.map_map (All2.self (fun b=>.c (.ptr b 0)) _)
               . cases hv
             grind) h.er h.hg h.sr (fun s hs=>hs) hx
           refine⟨env1',J1',c1,.inr ⟨by rw[hgn];rfl,f,vs1,.inr ⟨x,args,q,p,caps',vs0,ho,hq0,hq1,hp1,hp2,hb,hp3⟩,?_⟩⟩;intro Γ nt φ S a w hR hbn vv hvv;refine(hA Γ nt φ S a w hR hbn vv hvv).mono ?_
           rintro e w' ⟨v,r1,φ',S',s1,rfl,⟨J3,v3,k1,k2,k3,k4⟩,q1,q2,q3⟩
           refine⟨v,r1,φ',S',s1,rfl,?_,q1,q2,q3⟩
           have hbd:=RS.bind (gd:=none) (dst:=o.dst) (nf:=nf) k2 c3 k3 (fun g hg=>by
            obtain⟨t,b⟩:=g;have h0:=h.hn _ hg;simp only[GdV]at h0 ⊢
            grind) k4 (.inl rfl) (by rw[hgn]at hf;exact hf) hfn
           exact hK _ _ _ _ _ _ _ k1 hbd
         . contradiction
         . cases hx
       . rename_i op hno1 hno2
         exfalso
         refine hraw ?_;split
         . rename_i f args ho;exact absurd ho (hno1 f args)
         . rename_i x args ho;exact absurd ho (hno2 x args)
         . exact hx
theorem uY{l:List (Nat×Ty)}{p:XEnv U×XSt U}(h:xfzN l env J=some p):∃l,xfz l env J=some p:=by
 grind[xfzN]
theorem tT{o:AOper}{p:XEnv U×XSt U}(h:preFz gl o env J=some p):∃l,xfz l env J=some p:=by
 grind[preFz,uY]
theorem sk {fo : Fo U} (hfo : FoSnd P fo) {o : AOper} (h : RS key gl nf env J env1 J1 G) {k : GL -> NF -> XEnv U -> XSt U -> Option R} {r : R} (hx : ix fo none o key gl nf env J k = some r) {K : Env -> Store -> Prop}
 (hK:∀gl' nf' env' J' env1' J1' G',k gl' nf' env' J'=some r->RS (key+16) gl' nf' env' J' env1' J1' G'->K env1' J1'):
 ∃env0 J0,Conv kk key env1 J1 key env0 J0/\cstep P o key env0 J0 K:=by
 simp[ix]at hx;split at hx
 . exact mL hfo h hx hK
 . rename_i p hp;obtain⟨l,hl⟩:=tT hp;obtain⟨e1,s1,c1,c2,c3,c4⟩:=eA hl h.er h.sr
   obtain⟨e2,s2,d1,d2⟩:=mL hfo ⟨c2,c4 h.hg,c3,fun g hg=>by
    have h0:=h.hn _ hg
    grind[GdV,gV.bval_fz]⟩ hx hK
   exact⟨e2,s2,c1.trans d1,d2⟩
end
end
section
open Go
variable [GV]
variable {xb:List Nat}
variable {U:Uni} {R:Type}
def xblk(env:XEnv U):AO->Option (List Nat)
 | .const (.c (.t _))=>some []
 | .const (.c .cap0)=>some []
 | .const (.agg _)=>some []
 | .const _=>none
 | .tmp k=>match lk env k with
  | some (.c (.ptr b _))=>some [b]
  | some (.c (.eptr b _ _ _))=>some [b]
  | some (.c (.arr b))=>some [b]
  | some (.c (.sub b _ _))=>some [b]
  | some (.c (.pre b _))=>some [b]
  | some (.c (.suf b _ _))=>some [b]
  | some (.c (.mp b))=>some [b]
  | some (.c (.sptr b))=>some [b]
  | some (.c (.bufc b))=>some [b]
  | some (.c .dead)=>none
  | some _=>some []
  | none=>none
def gn :XC U->Bool
 | .dead=>true
 | _=>false
def gp :XV U->Option (List Nat)
 | .c x=>match gn x with
  | true=>none
  | false=>some x.blks
 | .agg cs=>match cs.any gn with
  | true=>none
  | false=>some (cs.flatMap XC.blks)
 | .tup _=>some []
def xargB(env:XEnv U):List AO->Option (List Nat)
 | []=>some []
 | .const v::r=>match xargB env r with
  | some l=>some (v.blks++l)
  | none=>none
 | .tmp k::r=>match lk env k with
  | some v=>match gp v,xargB env r with
   | some a,some l=>some (a++l)
   | _,_=>none
  | none=>none
def xtch(xb:List Nat)(o:AOp)(env:XEnv U)(key:Nat):Option (List Nat):=
 match o with
 | .alloc _ | .allocA _ | .box _ | .bslice .. | .mslice .. | .mkset=>some [key]
 | .allocS .. =>some [key,key+1]
 | .lkset x _=>xblk env x
 | .upset x _=>xblk env x
 | .appendB _ _ x _=>match xblk env x with
  | some a=>some (key::a)
  | none=>none
 | .ustr _ x _=>xblk env x
 | .call _ args=>match xargB env args with
  | some l=>some ((List.range 16).map (key+·)++(l++xb))
  | none=>none
 | .load _ _ x=>xblk env x
 | .b2s x=>xblk env x
 | .store _ x _=>xblk env x
 | .append _ _ _ x y=>match xblk env x,xblk env y with
  | some a,some b=>some (key::(a++b))
  | _,_=>none
 | .appendT _ _ _ x y=>match xblk env x,xblk env y with
  | some a,some b=>some (a++b)
  | _,_=>none
 | _=>some []
def xwrB(xb:List Nat)(o:AOp)(env:XEnv U)(key b:Nat):Option Bool:=
 match o with
 | .alloc _ | .allocA _ | .box _ | .bslice .. | .mslice .. | .mkset=>some (Nat.beq b key)
 | .allocS .. =>some (Nat.beq b key || Nat.beq b (key+1))
 | .upset x _=>match xblk env x with
  | some l=>some (hasN l b)
  | none=>none
 | .appendB _ _ x _=>match xblk env x with
  | some l=>some (Nat.beq b key || hasN l b)
  | none=>none
 | .ustr _ x _=>match xblk env x with
  | some l=>some (hasN l b)
  | none=>none
 | .store _ x _=>match xblk env x with
  | some l=>some (hasN l b)
  | none=>none
 | .append _ _ _ x _=>match xblk env x with
  | some l=>some (Nat.beq b key || hasN l b)
  | none=>none
 | .appendT _ _ _ x _=>match xblk env x with
  | some l=>some (hasN l b)
  | none=>none
 | .call _ args=>match xargB env args with
  | some l=>some ((Nat.ble key b && Nat.ble (b+1) (key+16)) || hasN (l++xb) b)
  | none=>none
 | _=>some false
def xcrit(xb:List Nat)(aos:List AOper)(env:XEnv U)(N:Nat):List (Nat×Nat)->Bool
 | []=>true
 | (i,j)::r=>(match getN aos i,getN aos j with
  | some x,some y=>match xtch xb y.op env (N+16*j)with
   | some l=>l.all fun b=>match xwrB xb x.op env (N+16*i) b with
    | some w=>!w
    | none=>false
   | none=>false
  | _,_=>true) && xcrit xb aos env N r
section
variable {P:Program} {kk N key:Nat} {J:XSt U} {J1:Store} {env:XEnv U} {env1:Env} {G:Nat->Bool}
theorem cj(he:ER N J G env env1){x:AO}{l:List Nat}(h:xblk env x=some l):blkOf env1 x=l:=by
 unfold xblk at h;split at h
 . cases h;rfl
 . cases h;rfl
 . cases h;rfl
 . grind
 . rename_i k;split at h
   all_goals (try (cases h;done))
   . rename_i b o hk;obtain⟨v1,h1,h2⟩:=he k _ hk;have:=h2.ptr_inv;grind[blkOf,AO.get]
   . rename_i b t i o hk;obtain⟨v1,h1,h2⟩:=he k _ hk;have:=h2.eptr_inv;grind[blkOf,AO.get]
   . rename_i b hk;obtain⟨v1,h1,h2⟩:=he k _ hk;obtain⟨sz,n,rfl,_⟩:=h2.arr_inv
     grind[blkOf,AO.get]
   . rename_i b lo len hk;obtain⟨v1,h1,h2⟩:=he k _ hk;have:v1= .c (.win b 1 lo len):=by cases h2 with | c h=>cases h;rfl
     grind[blkOf,AO.get]
   . rename_i b ln hk;obtain⟨v1,h1,h2⟩:=he k _ hk;have:∃sz,v1= .c (.arr b sz 0 ln):=by cases h2 with | c h=>cases h;simp
     grind[blkOf,AO.get]
   . rename_i b lo ln hk;obtain⟨v1,h1,h2⟩:=he k _ hk;have:∃sz,v1= .c (.win b sz lo ln):=by cases h2 with | c h=>cases h;simp
     grind[blkOf,AO.get]
   . rename_i b hk;obtain⟨v1,h1,h2⟩:=he k _ hk;have:=h2.mp_inv;grind[blkOf,AO.get]
   . rename_i b hk;obtain⟨v1,h1,h2⟩:=he k _ hk;have:=h2.sptr_inv;grind[blkOf,AO.get]
   . rename_i b hk;obtain⟨v1,h1,h2⟩:=he k _ hk;obtain⟨n,rfl,_⟩:=h2.bufc_inv
     grind[blkOf,AO.get]
   . rename_i v n1 n2 n3 n5 n9 n10 n6 n7 n8 n4 hk;cases h;obtain⟨v1,h1,h2⟩:=he k _ hk;unfold blkOf;simp only[AO.get,h1,Option.map_some];cases h2 with
     | c h2=>
      cases h2 <;>grind
     | agg h2=>rfl
     | tup=>rfl
theorem dO{l:List Nat}{b:Nat}:hasN l b=l.contains b:=by
 unfold hasN;rw[Bool.eq_iff_iff];simp
theorem nF{x:XC U}{d:C}(h:CR N J x d)(hd:gn x=false):d.blks=x.blks:=by
 cases h <;> first | rfl | (simp[gn]at hd)
theorem mM :∀{xs:List (XC U)} {ds:List C},All2 (CR N J) xs ds->xs.any gn=false->ds.flatMap C.blks=xs.flatMap XC.blks
 | [],[],_,_=>rfl
 | x::xs,d::ds,.cons h1 h2,hd=>by
  simp only[List.any_cons,Bool.or_eq_false_iff]at hd;simp;rw[nF h1 hd.1,mM h2 hd.2]
theorem sn{v:XV U}{v1:V}{l:List Nat}(h:VR N J v v1)(hl:gp v=some l):v1.blks=l:=by
 cases h with
 | c h=>
  simp[gp]at hl;split at hl
  . grind
  . rename_i hd;cases hl;exact nF h hd
 | agg h=>
  simp[gp]at hl;split at hl
  . grind
  . rename_i hd;cases hl;exact mM h hd
 | tup=>simp only[gp,Option.some.injEq]at hl;rw[<-hl];rfl
theorem gM(he:ER N J G env env1):∀{args:List AO} {l:List Nat},xargB env args=some l->argBs env1 args=l
 | [],l,h=>by simp[xargB]at h;subst h;rfl
 | .const v::r,l,h=>by
  simp[xargB]at h;split at h
  . rename_i l' hl';cases h;have ih:=gM he hl';simp[argBs]at ih ⊢;rw[ih];rfl
  grind
 | .tmp k::r,l,h=>by
  simp only[xargB]at h;split at h
  . rename_i v hv;split at h
    . rename_i a l' ha hl';have ih:=gM he hl';obtain⟨v1,h1,h2⟩:=he k v hv
      grind[argBs,AO.get,sn]
    grind
  grind
theorem tU(he:ER N J G env env1){o:AOp}{l:List Nat}(h:xtch xb o env key=some l):tch xb o env1 key=l:=by
 cases o <;> simp[xtch,tch]at h ⊢ <;> first | exact h | exact cj he h | skip
 . grind[cj]
 . grind[cj]
 . grind[cj]
 grind[gM]
theorem beq_eq(a b:Nat):(a==b)=Nat.beq a b:=by
 grind[aj,aU]
theorem tV(he:ER N J G env env1){o:AOp}{b:Nat}{w:Bool}(h:xwrB xb o env key b=some w):wrB xb o env1 key b=w:=by
 cases o with
 | alloc cs=>simp[xwrB]at h;rw[<-h];exact beq_eq _ _
 | allocA cs=>simp[xwrB]at h;rw[<-h];exact beq_eq _ _
 | box x=>simp[xwrB]at h;rw[<-h];simp only[wrB];exact beq_eq _ _
 | bslice a c d e=>simp only[xwrB,Option.some.injEq]at h;rw[<-h];simp only[wrB];exact beq_eq _ _
 | mslice a c d e=>simp only[xwrB,Option.some.injEq]at h;rw[<-h];simp only[wrB];exact beq_eq _ _
 | store n x y=>
  simp only[xwrB]at h;split at h
  . rename_i l hl;cases h;simp only[wrB];rw[cj he hl,dO]
  . cases h
 | appendT te sz by' x y=>
  simp only[xwrB]at h;split at h
  . rename_i l hl;cases h;simp only[wrB];rw[cj he hl,dO]
  . cases h
 | append te sz by' x y=>
  simp only[xwrB]at h;split at h
  . rename_i l hl;cases h;simp only[wrB];rw[cj he hl,dO,beq_eq]
  . cases h
 | mkset=>grind[xwrB,wrB,beq_eq]
 | allocS e e8=>grind[xwrB,wrB,beq_eq]
 | upset x y=>
  simp only[xwrB]at h;split at h
  . rename_i l hl;cases h;simp only[wrB];rw[cj he hl,dO]
  . cases h
 | ustr e x y=>
  grind[xwrB,wrB,cj,dO]
 | appendB e by' x y=>
  grind[xwrB,wrB,cj,dO,beq_eq]
 | call f args=>
  simp only[xwrB]at h;split at h
  . rename_i l hl;cases h;simp only[wrB];rw[gM he hl,dO]
    congr 1
    rw[Bool.eq_iff_iff];simp only[Bool.and_eq_true,decide_eq_true_eq,Nat.ble_eq];rfl
  grind
 | _=>simp only[xwrB,Option.some.injEq]at h;rw[<-h];rfl
theorem jI(he:ER N J G env env1){aos:List AOper}{N0:Nat}:∀{crit:List (Nat×Nat)},xcrit xb aos env N0 crit=true->br xb aos env1 N0 crit=true
 | [],_=>rfl
 | (i,j)::r,h=>by
  simp[xcrit]at h;simp[br];refine⟨?_,jI he h.2⟩
  grind[im,tU,tV]
theorem gD {fo : Fo U} (hfo : FoSnd P fo) {k : GL -> XEnv U -> XSt U -> Option R} {r : R}: ∀ {l : List AOper} {key : Nat} {gl : GL} {nf : NF} {env : XEnv U} {J : XSt U} {env1 : Env} {J1 : Store} {G : Nat -> Bool} {K : Env -> Store -> Prop},
 RS key gl nf env J env1 J1 G->cu fo none l key gl nf env J k=some r->
 (∀gl' nf' env' J' env1' J1' G',k gl' env' J'=some r->RS (key+16*l.length) gl' nf' env' J' env1' J1' G'->K env1' J1')->aopsC P kk l key env1 J1 K
 | [],key,gl,nf,env,J,env1,J1,G,K,h,hx,hK=>hK _ _ _ _ _ _ _ hx h
 | o::l,key,gl,nf,env,J,env1,J1,G,K,h,hx,hK=>by
  refine sk hfo h hx fun gl' nf' env' J' env1' J1' G' h1 h2=>?_
  refine gD hfo h2 h1 fun gl2 nf2 e2 s2 e12 s12 G2 h3 h4=>hK _ nf2 e2 s2 _ _ G2 h3 ?_
  grind
theorem jq {fo : Fo U} (hfo : FoSnd P fo) {k : GL -> XEnv U -> XSt U -> Option R} {r : R}: ∀ {l : List AOper} {key : Nat} {gl : GL} {nf : NF} {env : XEnv U} {J : XSt U} {env1 : Env} {J1 : Store} {G : Nat -> Bool} {K : Env -> Store -> Prop},
 RS key gl nf env J env1 J1 G->cu fo (some xb) l key gl nf env J k=some r->
 (∀gl' nf' env' J' env1' J1' G',k gl' env' J'=some r->RS (key+16*l.length) gl' nf' env' J' env1' J1' G'->K env1' J1')->dops xb P l key env1 J1 K
 | [],key,gl,nf,env,J,env1,J1,G,K,h,hx,hK=>hK _ _ _ _ _ _ _ hx h
 | o::l,key,gl,nf,env,J,env1,J1,G,K,h,hx,hK=>by
  simp[cu]at hx;obtain⟨g,v1,J1',gl',nf',env',J',G',h1,h2,h3⟩:=nE hfo h (by simpa[ix]using hx);refine⟨g,v1,J1',h1,jq hfo h3 h2 fun gl2 nf2 e2 s2 e12 s12 G2 h4 h5=>hK _ nf2 e2 s2 _ _ G2 h4 ?_⟩
  grind
theorem ku{gl:GL}:∀{env:XEnv U} {k:Nat} {v:XV U},lk (clean gl env) k=some v->lk env k=some v/\inGl gl k=false
 | [],k,v,h=>by grind[clean,lk]
 | (i,w)::r,k,v,h=>by
  simp[clean]at h;split at h
  . obtain⟨h1,h2⟩:=ku h
    grind[lk,aj]
  . simp[lk]at h ⊢;cases hb:Nat.beq i k with
    | true=>simp_all
    | false=>rw[hb]at h;exact ku h
theorem uZ{gl:GL}{k:Nat}(h:inGl gl k=false):lk gl k=none:=by
 induction gl with
 | nil=>rfl
 | cons e r ih=>
  grind[inGl,lk]
theorem RS.clean{gl:GL}{nf:NF}(h:RS key gl nf env J env1 J1 G):ER key J (fun _=>true) (dU gl env) env1:=by
 intro k v hk;have:lk env k=some v/\G k=true:=by
  unfold dU at hk;split at hk
  . exact⟨hk,h.hg.free k rfl⟩
  . obtain⟨h1,h2⟩:=ku hk;exact⟨h1,h.hg.free k (uZ h2)⟩
 obtain⟨v1,h1,h2⟩:=h.er k v this.1
 grind
theorem RS.begin(he:ER key J (fun _=>true) env env1)(hS:SR key J J1):RS key [] [] env J env1 J1 (fun _=>true):=
 ⟨he,⟨fun _ _=>rfl,fun k t b h=>by grind[lk]⟩,hS,fun _ h=>by grind⟩
end
structure OSpec where
 e:Exit
 sh:Shape
 own:List (Pos×Ty)
 us:List Ty
def OSum(U:Uni):List OSpec->Type
 | []=>Empty
 | [a]=>Hs U.D a.us
 | a::b::r=>Hs U.D a.us ⊕ OSum U (b::r)
structure LSpec (U:Uni) where
 sh:Shape
 own:List (Pos×Ty)
 ts:List Ty
 outs:List OSpec
 F:Hs U.D ts->Option (OSum U outs)
def exEq :Exit->Exit->Bool
 | .normal,.normal=>true
 | .ret,.ret=>true
 | .exit i,.exit j=>Nat.beq i j
 | _,_=>false
theorem og{a b:Exit}(h:exEq a b=true):a=b:=by
 cases a <;> cases b <;> simp[exEq]at h <;> try rfl
 grind
abbrev XK(U:Uni)(R:Type):=Exit->XEnv U->XSt U->Nat->Option R
def oout :(outs:List OSpec)->OSum U outs->Exit×XEnv U×XSt U×Nat
 | [],o=>Empty.elim o
 | [a],h=>(a.e,(fil U a.sh (Hs.cells U.D a.us h)).1,(fil U a.sh (Hs.cells U.D a.us h)).2,a.sh.st.length)
 | a::b::r,.inl h=>(a.e,(fil U a.sh (Hs.cells U.D a.us h)).1,(fil U a.sh (Hs.cells U.D a.us h)).2,a.sh.st.length)
 | a::b::r,.inr o=>oout (b::r) o
def sumE{α β:Type}(o:α ⊕ β)(f:α->Option R)(g:β->Option R):Option R:=
 match o with
 | .inl a=>f a
 | .inr b=>g b
def xoutC(k:XK U R)(a:OSpec):(r:List OSpec)->(OSum U r->Option R)->OSum U (a::r)->Option R
 | [],_=>fun h=>k a.e (fil U a.sh (Hs.cells U.D a.us h)).1 (fil U a.sh (Hs.cells U.D a.us h)).2 a.sh.st.length
 | _::_,f=>fun o=>sumE o (fun h=>k a.e (fil U a.sh (Hs.cells U.D a.us h)).1 (fil U a.sh (Hs.cells U.D a.us h)).2 a.sh.st.length) f
def xout(k:XK U R):(outs:List OSpec)->OSum U outs->Option R
 | []=>fun o=>Empty.elim o
 | a::r=>xoutC k a r (xout k r)
theorem pC(k:XK U R):∀{outs:List OSpec} {o:OSum U outs},xout k outs o=k (oout outs o).1 (oout outs o).2.1 (oout outs o).2.2.1 (oout outs o).2.2.2
 | [],o=>Empty.elim o
 | [a],h=>rfl
 | a::b::r,.inl h=>rfl
 | a::b::r,.inr o=>pC k (outs:=b::r)
def oput(kk:Nat):(outs:List OSpec)->Exit->XEnv U->XSt U->Nat->Option (OSum U outs)
 | [],_,_,_,_=>none
 | [a],e,env,J,N=>match exEq e a.e with
  | true=>xgoto kk a.own a.sh a.us env J N
  | false=>none
 | a::b::r,e,env,J,N=>match exEq e a.e with
  | true=>match xgoto (U:=U) kk a.own a.sh a.us env J N with
   | some h=>some (.inl h)
   | none=>none
  | false=>match oput kk (b::r) e env J N with
   | some o=>some (.inr o)
   | none=>none
abbrev Lo(U:Uni):=Nat->Option (LSpec U)
def aM :ACode->Nat
 | .seq a b=>aM a+aM b
 | .cond _ a b=>aM a+aM b
 | .block _ b=>aM b
 | .loop b=>aM b+1
 | _=>0
def ifB(x:Bool)(a b:Option R):Option R:=if x=true then a else b
def XC.inner :SC->Bool
 | .ptr .. | .arr _=>true
 | _=>false
def xu :SB->Bool
 | .box cs=>cs.any XC.inner
 | _=>false
def dxS(fo:Fo U)(J:XSt U)(ops:List AOper):List Nat:=
 match ops.any fun o=>match o.op with
  | .call f _=>(fo f).any fun s=>s.st.any xu
  | _=>false with
 | true=>J.map Prod.fst
 | false=>[]
def kv(ops:List AOper)(crit:List (Nat×Nat)):Option (List AOper×AOper):=
 match iw ops.length crit,ops.getLast? with
 | true,some o=>match o.op,o.guard with
  | .call ..,none=>some (ops.dropLast,o)
  | .callv ..,none=>some (ops.dropLast,o)
  | _,_=>none
 | _,_=>none
theorem sq{ops:List AOper}{crit:List (Nat×Nat)}{init:List AOper}{last:AOper}(h:kv ops crit=some (init,last)):ops=init++[last]/\iw (init.length+1) crit=true:=by
 unfold kv at h;split at h
 . grind[List.getLast?_eq_some_iff]
 grind
def wA(t:Nat)(o:AOper):Bool:=match o.op with
 | .build _ ps=>ps.any fun p=>match p.2.2 with
  | .tmp k=>Nat.beq k t
  | _=>false
 | _=>false
def frzB(t:Ty)(ops:List AOper)(env:XEnv U)(J:XSt U):List AOper->List (Nat×Ty)
 | []=>[]
 | o::r=>match o.op,o.dst with
  | .mov (.tmp s),some d=>match lk env s with
   | some (.c (.arr b))=>match ops.any (wA d),xfz1 b t env J with
    | true,some _=>(b,t)::frzB t ops env J r
    | _,_=>frzB t ops env J r
   | _=>frzB t ops env J r
  | _,_=>frzB t ops env J r
def frzL(ops:List AOper)(env:XEnv U)(J:XSt U):List (Nat×Ty):=match U.frz with
 | none=>[]
 | some t=>frzB t ops env J ops
def xexec(fo:Fo U)(lo:Lo U)(kk:Nat):ACode->Nat->XEnv U->XSt U->Nat->XK U R->Option R
 | .skip,_,env,J,N,k=>k .normal env J N
 | .ret,_,env,J,N,k=>k .ret env J N
 | .exit i,_,env,J,N,k=>k (.exit i) env J N
 | .region ops,_,env,J,N,k=>cu fo none ops N [] [] env J fun gl env J=>xrend (dU gl env) J (N+16*ops.length) fun env J N=>k .normal env J N
 | .regionD ops crit,_,env,J,N,k=>match kv ops crit with
  | some (init,last)=>cu fo (some []) init N [] [] env J fun gl env J=>match xcrit [] init env N crit with
   | true=>cu fo none [last] (N+16*init.length) gl [] env J fun gl env J=>k .normal (dU gl env) J (N+16*init.length+16)
   | false=>none
  | none=>match xfz (frzL ops env J) env J with
   | some (env,J)=>cu fo (some (dxS fo J ops)) ops N [] [] env J fun gl env' J'=>match xcrit (dxS fo J ops) ops env' N crit with
    | true=>xrend (dU gl env') J' (N+16*ops.length) fun env J N=>k .normal env J N
    | false=>none
   | none=>none
 | .seq a b,pos,env,J,N,k=>xexec fo lo kk a pos env J N fun e env J N=>match e with
  | .normal=>xexec fo lo kk b (pos+aM a) env J N k
  | e=>k e env J N
 | .cond c a b,pos,env,J,N,k=>match xop [] none env c with
  | some (.c (.t ⟨.bool,x⟩))=>ifB x (xexec fo lo kk a pos env J N k) (xexec fo lo kk b (pos+aM a) env J N k)
  | _=>none
 | .block id b,pos,env,J,N,k=>xexec fo lo kk b pos env J N fun e env J N=>match e with
  | .exit i=>match Nat.beq i id with
   | true=>k .normal env J N
   | false=>k (.exit i) env J N
  | e=>k e env J N
 | .loop b,pos,env,J,N,k=>match lo pos with
  | none=>none
  | some L=>match xgoto kk L.own L.sh L.ts env J N with
   | none=>none
   | some h=>(L.F h) >>=fun o=>xout k L.outs o
section
variable {P:Program} {nt kk N:Nat} {env:XEnv U} {J:XSt U} {env1:Env} {J1:Store}
def CC(kk:Nat)(Q:Exit->Env->Store->Nat->Prop):Prop:=∀e N env J N' env' J',Conv kk N env J N' env' J'->Q e env' J' N'->Q e env J N
def LAt(P:Program)(nt kk:Nat)(body:ACode)(sh:Shape)(ts:List Ty)(outs:List OSpec)(h:Hs U.D ts)(o:OSum U outs):Prop:=
 ∀env1 J1,ER sh.st.length (fil U sh (Hs.cells U.D ts h)).2 (fun _=>true) (fil U sh (Hs.cells U.D ts h)).1 env1->SR sh.st.length (fil U sh (Hs.cells U.D ts h)).2 J1->kk<=sh.st.length->
  ∀Q,CC kk Q->(∀env1' J1',ER (oout outs o).2.2.2 (oout outs o).2.2.1 (fun _=>true) (oout outs o).2.1 env1'->SR (oout outs o).2.2.2 (oout outs o).2.2.1 J1'->kk<=(oout outs o).2.2.2->Q (oout outs o).1 env1' J1' (oout outs o).2.2.2)->
   AWL P nt kk body env1 J1 sh.st.length Q
def LSnd(P:Program)(nt kk:Nat)(body:ACode)(L:LSpec U):Prop:=
 ∀h o,L.F h=some o->LAt P nt kk body L.sh L.ts L.outs h o
def LoSnd(P:Program)(nt kk:Nat)(lo:Lo U):Nat->ACode->Prop
 | pos,.seq a b=>LoSnd P nt kk lo pos a/\LoSnd P nt kk lo (pos+aM a) b
 | pos,.cond _ a b=>LoSnd P nt kk lo pos a/\LoSnd P nt kk lo (pos+aM a) b
 | pos,.block _ b=>LoSnd P nt kk lo pos b
 | pos,.loop b=>(∀L,lo pos=some L->LSnd P nt kk b L)
 | _,_=>True
theorem CC.andThen{Q:Exit->Env->Store->Nat->Prop}{next:Env->Store->Nat->Prop}(h:CC kk Q)(hn:∀N env J N' env' J',Conv kk N env J N' env' J'->next env' J' N'->next env J N):CC kk (andThen next Q):=by
 intro e N env J N' env' J' hc hq;cases e with
 | normal=>exact hn _ _ _ _ _ _ hc hq
 | _=>exact h _ _ _ _ _ _ _ hc hq
theorem cZ {fo : Fo U} (hfo : FoSnd P fo) {lo : Lo U}: ∀ {c : ACode} {pos : Nat} {env : XEnv U} {J : XSt U} {N : Nat} {k : XK U R} {r : R} {env1 : Env} {J1 : Store} {Q : Exit -> Env -> Store -> Nat -> Prop},
 LoSnd P nt kk lo pos c->xexec fo lo kk c pos env J N k=some r->ER N J (fun _=>true) env env1->SR N J J1->kk<=N->CC kk Q->
 (∀e env' J' N' env1' J1',k e env' J' N'=some r->ER N' J' (fun _=>true) env' env1'->SR N' J' J1'->kk<=N'->Q e env1' J1' N')->AW P nt kk c env1 J1 N Q
 | .skip,pos,env,J,N,k,r,env1,J1,Q,hl,hx,he,hS,hkk,hQ,hk=>AW.skip (hk _ _ _ _ _ _ hx he hS hkk)
 | .ret,pos,env,J,N,k,r,env1,J1,Q,hl,hx,he,hS,hkk,hQ,hk=>AW.ret (hk _ _ _ _ _ _ hx he hS hkk)
 | .exit i,pos,env,J,N,k,r,env1,J1,Q,hl,hx,he,hS,hkk,hQ,hk=>AW.exit (hk _ _ _ _ _ _ hx he hS hkk)
 | .region ops,pos,env,J,N,k,r,env1,J1,Q,hl,hx,he,hS,hkk,hQ,hk=>
  AW.regionC (gD hfo (RS.begin he hS) hx fun gl' nf' env' J' env1' J1' G' h1 h2=>by
   obtain⟨e2,s2,N2,e12,s12,g1,g2,g3,g4,g5⟩:=mF h1 h2.clean h2.sr (show kk<=_ by omega)
   exact hQ _ _ _ _ _ _ _ g2 (hk _ _ _ _ _ _ g1 g3 g4 (by omega)))
 | .regionD ops crit,pos,env,J,N,k,r,env1,J1,Q,hl,hx,he,hS,hkk,hQ,hk=>by
  simp only[xexec]at hx;split at hx
  . rename_i init last hlc;obtain⟨rfl,hmk⟩:=sq hlc;refine AW.regionL hmk (jq hfo (RS.begin he hS) hx fun gl' nf' env' J' env1' J1' G' h1 h2=>?_);split at h1
    . rename_i hc;refine⟨jI h2.er hc,gD hfo (l:=[last]) (nf:=[]) ⟨h2.er,h2.hg,h2.sr,fun g hg=>by grind⟩ h1 fun gl2 nf2 e2 s2 e12 s12 G2 h3 h4=>hk _ _ _ _ _ _ h3 h4.clean h4.sr (by omega)⟩
    grind
  . split at hx
    . rename_i env0 J0 hfz;obtain⟨e10,s10,hconv,he,hS,_⟩:=eA (kk:=kk) (gl:=[]) hfz he hS;refine AW.conv hconv (AW.regionD (jq hfo (RS.begin he hS) hx fun gl' nf' env' J' env1' J1' G' h1 h2=>?_))
      split at h1
      . rename_i hc;obtain⟨e2,s2,N2,e12,s12,g1,g2,g3,g4,g5⟩:=mF h1 h2.clean h2.sr (show kk<=_ by omega);exact⟨jI h2.er hc,hQ _ _ _ _ _ _ _ g2 (hk _ _ _ _ _ _ g1 g3 g4 (by omega))⟩
      grind
    . cases hx
 | .seq a b,pos,env,J,N,k,r,env1,J1,Q,hl,hx,he,hS,hkk,hQ,hk=>by
  refine AW.seq (cZ hfo hl.1 hx he hS hkk (hQ.andThen fun N env J N' env' J' hc h=>AW.conv hc h) fun e env' J' N' env1' J1' h1 h2 h3 h4=>?_);cases e with
  | normal=>exact cZ hfo hl.2 h1 h2 h3 h4 hQ hk
  | _=>exact hk _ _ _ _ _ _ h1 h2 h3 h4
 | .cond c a b,pos,env,J,N,k,r,env1,J1,Q,hl,hx,he,hS,hkk,hQ,hk=>by
  simp only[xexec]at hx;split at hx
  . rename_i x hc;have hg:HG [] env (fun _=>true):=⟨fun _ _=>rfl,fun k t b h=>by grind[lk]⟩
    obtain⟨p,v1,a1,a2,a3⟩:=ab he hg hc;have:=a2.bool_inv;subst this;refine AW.cond a1 (a3 rfl) (fun hb=>?_) (fun hb=>?_)
    . subst hb;exact cZ hfo hl.1 hx he hS hkk hQ hk
    . subst hb;exact cZ hfo hl.2 hx he hS hkk hQ hk
  grind
 | .block id b,pos,env,J,N,k,r,env1,J1,Q,hl,hx,he,hS,hkk,hQ,hk=>by
  refine AW.block (cZ hfo hl hx he hS hkk ?_ fun e env' J' N' env1' J1' h1 h2 h3 h4=>?_)
  . intro e N env J N' env' J' hc hq;cases e with
    | exit i=>
     simp only[inBlock]at hq ⊢;split at hq
     . rename_i hi;rw[if_pos hi];exact hQ _ _ _ _ _ _ _ hc hq
     . rename_i hi;rw[if_neg hi];exact hQ _ _ _ _ _ _ _ hc hq
    | _=>exact hQ _ _ _ _ _ _ _ hc hq
  . cases e with
    | exit i=>
     simp only[inBlock];simp only at h1;split at h1
     . rename_i hb;rw[if_pos (aj hb)];grind
     . rename_i hb;rw[if_neg (aU hb)];grind
    | _=>exact hk _ _ _ _ _ _ h1 h2 h3 h4
 | .loop b,pos,env,J,N,k,r,env1,J1,Q,hl,hx,he,hS,hkk,hQ,hk=>by
  simp only[xexec]at hx;split at hx
  . grind
  . rename_i L hL;split at hx
    . grind
    . rename_i h hgo;obtain⟨o,ho,hko⟩:=Option.bind_eq_some_iff.1 hx;rw[pC]at hko;obtain⟨env1',J1',c1,c2,c3,c4⟩:=ej hgo he hS hkk;exact AW.conv c1 (AW.loop_of (hl L hL h o ho env1' J1' c2 c3 c4 Q hQ fun env1'' J1'' h1 h2 h3=>hk _ _ _ _ _ _ hko h1 h2 h3))
theorem LAt.of_round {fo : Fo U} (hfo : FoSnd P fo) {lo : Lo U} {body : ACode} {sh : Shape} {own : List (Pos×Ty)} {ts : List Ty} {outs : List OSpec} {h : Hs U.D ts} {o : OSum U outs} {F' : Hs U.D ts -> Option (OSum U outs)}
 (hlo:LoSnd P nt kk lo 0 body) (hF':∀h o,F' h=some o->LAt P nt kk body sh ts outs h o)
 (hx:xexec fo lo kk body 0 (fil U sh (Hs.cells U.D ts h)).1 (fil U sh (Hs.cells U.D ts h)).2 sh.st.length (fun e env J N=>match e with
  | .normal=>match xgoto kk own sh ts env J N with
   | some h'=>F' h'
   | none=>none
  | e=>oput kk outs e env J N)=some o):LAt P nt kk body sh ts outs h o:=by
 intro env1 J1 he hS hkk Q hQ hk;refine AWL.round (cZ hfo hlo hx he hS hkk (hQ.andThen fun N env J N' env' J' hc h=>AWL.conv hc h) fun e env' J' N' env1' J1' h1 h2 h3 h4=>?_);have hout:∀e',e'=e->e'≠.normal->oput kk _ e' env' J' N'=some o->Q e env1' J1' N':=by
  intro e' he' hne hp;obtain⟨e1,s1,c1,c2,c3,c4,c5⟩:=oput_sound hp h2 h3 h4;exact hQ _ _ _ _ _ _ _ c1 (by grind)
 cases e with
 | normal=>
  simp at h1;split at h1
  . rename_i h' hgo;obtain⟨e1,s1,c1,c2,c3,c4⟩:=ej hgo h2 h3 h4;exact AWL.conv c1 (hF' h' o h1 e1 s1 c2 c3 c4 Q hQ hk)
  grind
 | exit i=>exact hout _ rfl (by simp) h1
 | ret=>exact hout _ rfl (by simp) h1
 | goto l=>exact hout _ rfl (by simp) h1
 | panic ch=>exact hout _ rfl (by simp) h1
 | outgrown=>exact hout _ rfl (by simp) h1
where
 oput_sound {N : Nat} {env : XEnv U} {J : XSt U} {env1 : Env} {J1 : Store}: ∀ {outs : List OSpec} {e : Exit} {o : OSum U outs}, oput kk outs e env J N = some o -> ER N J (fun _ => true) env env1 -> SR N J J1 -> kk <= N ->
  ∃env1' J1',Conv kk N env1 J1 (oout outs o).2.2.2 env1' J1'/\ER (oout outs o).2.2.2 (oout outs o).2.2.1 _ (oout outs o).2.1 env1'/\SR (oout outs o).2.2.2 (oout outs o).2.2.1 J1'/\kk<=(oout outs o).2.2.2/\e=(oout outs o).1
  | [],e,o,h,_,_,_=>by grind[oput]
  | [a],e,o,h,he,hS,hkk=>by
   simp[oput]at h;split at h
   . rename_i hee;obtain⟨e1,s1,c1,c2,c3,c4⟩:=ej h he hS hkk;exact⟨e1,s1,c1,c2,c3,c4,og hee⟩
   grind
  | a::b::r,e,o,h,he,hS,hkk=>by
   simp only[oput]at h;split at h
   . rename_i hee;split at h
     . rename_i hh hgo;cases h;obtain⟨e1,s1,c1,c2,c3,c4⟩:=ej hgo he hS hkk;exact⟨e1,s1,c1,c2,c3,c4,og hee⟩
     grind
   . split at h
     . rename_i o' ho;cases h;obtain⟨e1,s1,c1,c2,c3,c4,c5⟩:=oput_sound ho he hS hkk;exact⟨e1,s1,c1,c2,c3,c4,c5⟩
     grind
end
end
end Go.Proofs.YtkbmjabicjpmjaaGreatDoor.Shv
namespace Go.Proofs.YtkbmjabicjpmjaaGreatDoor.Shv
set_option linter.all false
open Go
variable [GV]
variable {U:Uni} {R:Type}
def xenv0 :Nat->List (XV U)->XEnv U
 | _,[]=>[]
 | i,v::vs=>(i,v)::xenv0 (i+1) vs
def kK(env:XEnv U)(J:XSt U):AR->Option (XV U)
 | .tmp t=>lk env t
 | .cell t g k=>match lk env t with
  | some (.c (.ptr b o))=>match lk J b with
   | some (.box cs)=>dh g k cs o
   | _=>none
  | _=>none
def eQ(env:XEnv U)(J:XSt U):List AR->Option (List (XV U))
 | []=>some []
 | r::rs=>match kK env J r,eQ env J rs with
  | some v,some vs=>some (v::vs)
  | _,_=>none
def xresV :List (XV U)->XV U
 | []=>.tup []
 | [v]=>v
 | v::w::vs=>.tup (v::w::vs)
def xread(kk:Nat)(ars:List AR)(sr:SV)(rst:List SB)(us:List Ty)(env:XEnv U)(J:XSt U):Option (Hs U.D us):=
 match eQ env J ars with
 | none=>none
 | some vs=>match scS J kk 0 rst (scV sr (xresV vs) ([],[])) []with
  | (bs,fz)=>match xfz fz env J with
   | none=>none
   | some (env',J')=>match eQ env' J' ars with
    | none=>none
    | some vs'=>match dT bs && (keeps kk bs && Nat.beq bs.length rst.length)with
     | false=>none
     | true=>match chkV bs sr (xresV vs'),chkS bs J' 0 rst with
      | some a,some b=>Hs.dec U.D us (a++b)
      | _,_=>none
def xfin(kk:Nat)(ars:List AR)(sr:SV)(rst:List SB)(us:List Ty):XK U (Hs U.D us)
 | .normal,env,J,_=>xread kk ars sr rst us env J
 | .ret,env,J,_=>xread kk ars sr rst us env J
 | _,_,_,_=>none
section
variable {P:Program} {nt kk N:Nat} {env:XEnv U} {J:XSt U} {env1:Env} {J1:Store}
def QC(kk:Nat)(Q:Exit->Env->Store->Nat->Prop):Exit->Env->Store->Nat->Prop:=
 fun e env J N=>∃N' env' J',Conv kk N env J N' env' J'/\Q e env' J' N'
theorem QC.cc{Q:Exit->Env->Store->Nat->Prop}:CC kk (QC kk Q):=
 fun e N env J N' env' J' h ⟨N2,e2,s2,h2,hq⟩=>⟨N2,e2,s2,h.trans h2,hq⟩
theorem AW.unqc{c:ACode}{env:Env}{J:Store}{Q:Exit->Env->Store->Nat->Prop}(h:AW P nt kk c env J N (QC kk Q)):AW P nt kk c env J N Q:=
 fun code hc Γ φ S a w hkk R=>wp_mono (h _ hc Γ φ S a w hkk R) fun e a w ⟨φ',S',env',J',N',⟨N2,e2,s2,h2,hq⟩,R'⟩=>
  let⟨φ2,S2,R2⟩:=h2 Γ nt _ S' a w hkk R';⟨φ2,S2,e2,s2,N2,hq,R2⟩
theorem rO(he:ER N J (fun _=>true) env env1)(hS:SR N J J1){ar:AR}{v:XV U}(h:kK env J ar=some v):∃p v1,dS env1 J1 ar=some (p,v1)/\p/\VR N J v v1:=by
 cases ar with
 | tmp t=>
  obtain⟨v1,h1,h2⟩:=he t v h;exact⟨True,v1,by grind[dS],trivial,h2⟩
 | cell t g k=>
  simp[kK]at h;split at h
  . rename_i b o hk;split at h
    . rename_i cs hcs;obtain⟨v1,h1,h2⟩:=he t _ hk;have:=h2.ptr_inv;obtain⟨_,y,h3,h4⟩:=hS b _ hcs;cases h4 with
      | box h4=>
       obtain⟨v2,h5,h6⟩:=ef h4 h;exact⟨True,v2,by grind[dS],trivial,h6⟩
    grind
  grind
theorem lQ(he:ER N J (fun _=>true) env env1)(hS:SR N J J1):∀{ars:List AR} {vs:List (XV U)},eQ env J ars=some vs->∃p vs1,cS env1 J1 ars=some (p,vs1)/\p/\All2 (VR N J) vs vs1
 | [],vs,h=>by simp[eQ]at h;subst h;exact⟨_,[],rfl,trivial,.nil⟩
 | r::rs,vs,h=>by
  simp[eQ]at h;split at h
  . rename_i v vs' h1 h2;cases h;obtain⟨p,v1,a1,a2,a3⟩:=rO he hS h1;obtain⟨q,vs1,b1,b2,b3⟩:=lQ he hS h2;exact⟨p/\q,v1::vs1,by grind[cS],⟨a2,b2⟩,.cons a3 b3⟩
  grind
theorem sV{vs:List (XV U)}{vs1:List V}(h:All2 (VR N J) vs vs1):VR N J (xresV vs) (resV vs1):=by
 cases h with
 | nil=>exact .tup [] [] rfl (by simp)
 | cons h1 h2=>
  cases h2 with
  | nil=>exact h1
  | cons h2 h3=>
   refine .tup _ _ (by simp[h3.length]) fun i x d hx hd=>?_
   obtain⟨d',e1,e2⟩:=(All2.cons h1 (.cons h2 h3)).get hx
   grind
def Qf(s:FSpec U)(r:Hs U.D s.us):V->Store->Nat->Prop:=fun r1 J1' N'=>N'=s.rst.length/\VR N' (s.rest r) (s.res r) r1/\SR N' (s.rest r) J1'
theorem sW {ars : List AR} {s : FSpec U} {r : Hs U.D s.us} (h : xread kk ars s.sr s.rst s.us env J = some r) (he : ER N J (fun _ => true) env env1) (hS : SR N J J1):
 ∃env1' J1',Conv kk N env1 J1 N env1' J1'/\∃p vs1,cS env1' J1' ars=some (p,vs1)/\p/\
  ∃bs r2 J2,bs.Nodup/\keeps kk bs=true/\VSub ((resV vs1).ren bs) r2/\StSub (aF bs J1' 0 bs) J2/\Qf s r r2 J2 bs.length:=by
 unfold xread at h;split at h
 . grind
 . split at h;rename_i bs fz _;split at h
   . grind
   . rename_i env' J' hfz;obtain⟨e1,s1,c1,c2,c3,_⟩:=eA (kk:=kk) (gl:=[]) hfz he hS;split at h
     . grind
     . rename_i vs' hvs';split at h
       . grind
       . rename_i hb;simp only[Bool.and_eq_true]at hb;obtain⟨hb1,hb2,hb3⟩:=hb;have hnd:=fG hb1;have hlen:=aj hb3;split at h
         . rename_i a b ha hbb;obtain⟨p,vs1,d1,d2,d3⟩:=lQ c2 c3 hvs';obtain⟨y,f,g⟩:=chkV_sound hnd (gj hnd hbb) ha;obtain⟨r2,g1,g2⟩:=g _ (sV d3);obtain⟨s2,t1,t2⟩:=ic hnd c3 hbb;have hcell:=Hs.dec_cells h;have e1:s.res r=y:=by grind[FSpec.res]
           have e2:s.rest r=filS 0 s.rst b:=by grind[FSpec.rest]
           exact⟨_,_,c1,p,vs1,d1,d2,bs,r2,s2,hnd,hb2,g1,t1,hlen,by grind,by grind⟩
         grind
def FAt(P:Program)(s:FSpec U)(h:Hs U.D s.ts)(r:Hs U.D s.us):Prop:=
 ∀(args1:List V) J1,All2 (VR s.st.length (s.ast h)) (s.args h) args1->SR s.st.length (s.ast h) J1->Con P s.f args1 J1 s.st.length (Qf s r)
theorem FSnd.of{s:FSpec U}(h:∀h r,s.F h=some r->FAt P s h r):FSnd P s:=h
theorem FAt.of_body {s : FSpec U} {fn : Func} {c : ACode} {ars : List AR} {fo : Fo U} {lo : Lo U} (hf : P.funcs[s.f]? = some fn) (hc : fn.body.bind (resolve P fn.ntmps) = some c) (hr : aX P fn.results.toList = some ars) (hn : Nat.ble s.sa.length fn.ntmps = true)
 (hfo:FoSnd P fo) (hlo:LoSnd P fn.ntmps s.st.length lo 0 c)
 {h:Hs U.D s.ts} {r:Hs U.D s.us} (hx:xmove s.st.length (s.ast h) (fun J N=>xexec fo lo s.st.length c 0 (xenv0 0 (s.args h)) J N (xfin s.st.length ars s.sr s.rst s.us))=some r):FAt P s h r:=by
 intro args1 J1 ha hS;have hlenA:args1.length<=fn.ntmps:=by
  rw[<-ha.length];refine Nat.le_trans (Nat.le_of_eq ?_) (aV hn);exact filVs_length
 have he0:ER s.st.length (s.ast h) (fun _=>true) (xenv0 0 (s.args h)) (env0 0 args1):=by
  intro k v hk;have key:∀{xs:List _} {ds:List V} {i:Nat},All2 (VR s.st.length (s.ast h)) xs ds->lk (xenv0 i xs) k=some v->∃v1,look (env0 i ds) k=some (true,v1)/\VR s.st.length (s.ast h) v v1:=by
   intro xs
   induction xs with
   | nil=>grind[xenv0,lk]
   | cons x xs ih=>
    intro ds i hxs hlk;cases hxs with
    | cons h1 h2=>
     simp[xenv0,lk]at hlk;simp[env0,look];split at hlk
     . simp_all
     simp_all[if_neg,aU]
  grind
 obtain⟨Jm,Nm,Jm1,hx,cm,hem,hSm,hkm⟩:=sS hx he0 hS;refine Con.tidy (Con.mk hf hc hr rfl hlenA (AW.conv cm (AW.unqc (cZ hfo hlo hx hem hSm hkm QC.cc fun e env' J' N' env1' J1' h1 h2 h3 h4=>?_)))) (fun r1 s1 N1 hh=>hh)
 . have fin:xread s.st.length ars s.sr s.rst s.us env' J'=some r->(e= .normal\/e= .ret)->QC s.st.length (Done ars fun r1 s1 N1=>∃bs r2 J2,bs.Nodup/\keeps s.st.length bs=true/\VSub (r1.ren bs) r2/\StSub (aF bs s1 0 bs) J2/\Qf s r r2 J2 bs.length) e env1' J1' N':=by
    intro hread hee;obtain⟨e1,s1,c1,p,vs1,d1,d2,rest⟩:=sW hread h2 h3;refine⟨N',e1,s1,c1,?_⟩;rcases hee with rfl | rfl
    . exact⟨p,vs1,d1,d2,rest⟩
    . exact⟨p,vs1,d1,d2,rest⟩
   cases e with
   | normal=>exact fin h1 (.inl rfl)
   | ret=>exact fin h1 (.inr rfl)
   | _=>cases h1
where
 filVs_length:∀{ss:List SV} {a:Cs U},(filVs ss a).1.length=ss.length
  | [],a=>rfl
  | s::ss,a=>by
   simp[filVs];have:=filVs_length (ss:=ss) (a:=(filV s a).2)
   grind
def aW :ACode->Nat->Option ACode
 | .seq a b,q=>match Nat.ble (aM a) q with
  | true=>aW b (q - aM a)
  | false=>aW a q
 | .cond _ a b,q=>match Nat.ble (aM a) q with
  | true=>aW b (q - aM a)
  | false=>aW a q
 | .block _ b,q=>aW b q
 | .loop b,q=>match q with
  | 0=>some b
  | q+1=>aW b q
 | _,_=>none
theorem LoSnd.of{lo:Lo U}:∀{c:ACode} {pos:Nat},(∀q b L,aW c q=some b->lo (pos+q)=some L->LSnd P nt kk b L)->LoSnd P nt kk lo pos c
 | .seq a b,pos,h=>by
  refine⟨LoSnd.of fun q b' L h1 h2=>h q b' L ?_ h2,LoSnd.of fun q b' L h1 h2=>h (aM a+q) b' L ?_ (by grind)⟩
  . simp[aW];cases hb:Nat.ble _ q with
    | true=>exact absurd (loopAt_lt h1) (by simp_all)
    | false=>grind
  . simp[aW];have:Nat.ble (aM a) (aM a+q)=true:=by simp
    grind
 | .cond c a b,pos,h=>by
  refine⟨LoSnd.of fun q b' L h1 h2=>h q b' L ?_ h2,LoSnd.of fun q b' L h1 h2=>h (aM a+q) b' L ?_ (by grind)⟩
  . simp only[aW];cases hb:Nat.ble (aM a) q with
    | true=>exact absurd (loopAt_lt h1) (by simp_all)
    | false=>grind
  . simp only[aW];have:Nat.ble (aM a) (aM a+q)=true:=by simp
    grind
 | .block id b,pos,h=>LoSnd.of (c:=b) h
 | .loop b,pos,h=>fun L hL=>h 0 b L rfl hL
 | .skip,pos,h=>trivial
 | .region _,pos,h=>trivial
 | .regionD _ _,pos,h=>trivial
 | .exit _,pos,h=>trivial
 | .ret,pos,h=>trivial
where
 loopAt_lt:∀{c:ACode} {q:Nat} {b:ACode},aW c q=some b->q < aM c
  | .seq a b,q,b',h=>by
   simp[aW]at h;simp[aM];split at h
   . have:=loopAt_lt h;grind
   . have:=loopAt_lt h;omega
  | .cond _ a b,q,b',h=>by
   simp only[aW]at h;simp only[aM];split at h
   . have:=loopAt_lt h;grind
   . have:=loopAt_lt h;omega
  | .block _ b,q,b',h=>loopAt_lt (c:=b) h
  | .loop b,0,b',h=>by simp[aM]
  | .loop b,q+1,b',h=>by have:=loopAt_lt (c:=b) h;grind[aM]
  | .skip,q,b',h=>by grind[aW]
  | .region _,q,b',h=>by grind[aW]
  | .regionD _ _,q,b',h=>by grind[aW]
  | .exit _,q,b',h=>by grind[aW]
  | .ret,q,b',h=>by grind[aW]
theorem LoSnd.of'{lo:Lo U}{c:ACode}(h:∀q L,lo q=some L->LSnd P nt kk ((aW c q).getD .skip) L):LoSnd P nt kk lo 0 c:=
 LoSnd.of fun q b L h1 h2=>by grind
theorem LoSnd.none{c:ACode}:LoSnd P nt kk (fun _=>none:Lo U) 0 c:=LoSnd.of' fun q L h=>by grind
theorem FoSnd.none :FoSnd P (fun _=>[]:Fo U):=fun f s h=>by grind
end
end Go.Proofs.YtkbmjabicjpmjaaGreatDoor.Shv
namespace Go.Proofs.YtkbmjabicjpmjaaGreatDoor.Shv
variable [GV]
open Go
def kZ(P:Program)(fn:Func):ACode:=
 match fn.body.bind (Shv.resolve P fn.ntmps)with
 | some c=>c
 | none=>.skip
def eY(c:ACode)(q:Nat):ACode:=(aW c q).getD .skip
def foS{U:Uni}:List (FSpec U)->Fo U
 | [],_=>[]
 | s::l,f=>match Nat.beq s.f f with
  | true=>s::foS l f
  | false=>foS l f
def loL{U:Uni}(l:List (Nat×LSpec U)):Lo U:=fun q=>lk l q
theorem FoSnd.nil{U:Uni}{P:Program}:FoSnd P (foS ([]:List (FSpec U))):=fun f s h=>by grind[foS]
theorem FoSnd.cons{U:Uni}{P:Program}{s:FSpec U}{l:List (FSpec U)}(hb:aH P s.f=true)(hs:FSnd P s)(h:FoSnd P (foS l)):FoSnd P (foS (s::l)):=by
 intro f t ht;simp[foS]at ht;split at ht
 . rename_i hf;have:=aj hf;rcases List.mem_cons.1 ht with rfl | ht
   . grind
   . exact h f t ht
 . exact h f t ht
def LoOk{U:Uni}(P:Program)(nt kk:Nat)(c:ACode)(l:List (Nat×LSpec U)):Prop:=∀q L,lk l q=some L->LSnd P nt kk (eY c q) L
theorem LoOk.nil{U:Uni}{P:Program}{nt kk:Nat}{c:ACode}:LoOk P nt kk c ([]:List (Nat×LSpec U)):=fun q L h=>by grind[lk]
theorem LoOk.cons{U:Uni}{P:Program}{nt kk:Nat}{c:ACode}{q:Nat}{L:LSpec U}{l:List (Nat×LSpec U)}(hL:LSnd P nt kk (eY c q) L)(h:LoOk P nt kk c l):LoOk P nt kk c ((q,L)::l):=by
 intro q' L' hq;simp[lk]at hq;split at hq
 . simp_all
 . exact h q' L' hq
theorem LoOk.snd{U:Uni}{P:Program}{nt kk:Nat}{c:ACode}{l:List (Nat×LSpec U)}(h:LoOk P nt kk c l):LoSnd P nt kk (loL l) 0 c:=LoSnd.of' fun q L hq=>h q L hq
def addI(k:IntKind)(a b:Int):Int:=k.wrap (a+b)
def subI(k:IntKind)(a b:Int):Int:=k.wrap (a - b)
def mulI(k:IntKind)(a b:Int):Int:=k.wrap (a*b)
def quoI(k:IntKind)(a b:Int):Int:=k.wrap (a.tdiv b)
def remI(a b:Int):Int:=a.tmod b
end Go.Proofs.YtkbmjabicjpmjaaGreatDoor.Shv
namespace Go.Proofs.YtkbmjabicjpmjaaGreatDoor.Shv
open Go
set_option linter.all false
variable [GV]
variable {U:Uni}
structure LEnt where
 q:Nat
 sh:Shape
 own:List (Pos×Ty)
 rown:List (Pos×Ty)
 ts:List Ty
 outs:List OSpec
 sub:List LEnt
structure FEnt where
 f:Nat
 sa:List SV
 st:List SB
 ts:List Ty
 sr:SV
 rst:List SB
 us:List Ty
 sub:List LEnt
def LEnt.l(e:LEnt)(F:Hs U.D e.ts->Option (OSum U e.outs)):LSpec U:=⟨e.sh,e.own,e.ts,e.outs,F⟩
def FEnt.s(e:FEnt)(F:Hs U.D e.ts->Option (Hs U.D e.us)):FSpec U:=⟨e.f,e.sa,e.st,e.ts,e.sr,e.rst,e.us,F⟩
def codeF(P:Program)(f:Nat):ACode:=match P.funcs[f]? with
 | some fn=>kZ P fn
 | none=>.skip
def ntF(P:Program)(f:Nat):Nat:=match P.funcs[f]? with
 | some fn=>fn.ntmps
 | none=>0
def arsF(P:Program)(f:Nat):List AR:=match P.funcs[f]? with
 | some fn=>(match aX P fn.results.toList with
  | some r=>r
  | none=>[])
 | none=>[]
def okE(P:Program)(e:FEnt):Bool:=match P.funcs[e.f]? with
 | some fn=>aH P e.f && ((fn.body.bind (resolve P fn.ntmps)).isSome && ((aX P fn.results.toList).isSome && Nat.ble e.sa.length fn.ntmps))
 | none=>false
def Fok(P:Program)(e:FEnt):Prop:=okE P e=true
theorem Fok.m{P:Program}{e:FEnt}(h:okE P e=true):Fok P e:=h
def eZ(fo:Fo U)(lo:Lo U)(kk:Nat)(b:ACode)(e:LEnt)(F':Hs U.D e.ts->Option (OSum U e.outs))(h:Hs U.D e.ts):Option (OSum U e.outs):=
 xexec fo lo kk b 0 (fil U e.sh (Hs.cells U.D e.ts h)).1 (fil U e.sh (Hs.cells U.D e.ts h)).2 e.sh.st.length (fun x env J N=>match x with
  | .normal=>match xgoto kk e.rown e.sh e.ts env J N with
   | some h'=>F' h'
   | none=>none
  | x=>oput kk e.outs x env J N)
def xbody(fo:Fo U)(lo:Lo U)(P:Program)(e:FEnt)(h:Hs U.D e.ts):Option (Hs U.D e.us):=
 xmove e.st.length (filS 0 e.st (filVs e.sa (Hs.cells U.D e.ts h)).2) fun J N=>xexec fo lo e.st.length (codeF P e.f) 0 (xenv0 0 (filVs e.sa (Hs.cells U.D e.ts h)).1) J N (xfin e.st.length (arsF P e.f) e.sr e.rst e.us)
section
variable {P:Program}
theorem nG {fo : Fo U} (hfo : FoSnd P fo) {lo : Lo U} {nt kk : Nat} {b : ACode} {e : LEnt} {h : Hs U.D e.ts} {o : OSum U e.outs} {F' : Hs U.D e.ts -> Option (OSum U e.outs)}
 (hlo:LoSnd P nt kk lo 0 b) (hF':∀h o,F' h=some o->LAt P nt kk b e.sh e.ts e.outs h o) (hx:eZ fo lo kk b e F' h=some o):LAt P nt kk b e.sh e.ts e.outs h o:=by
 refine LAt.of_round (own:=e.rown) hfo hlo hF' (Eq.trans ?_ hx)
 grind[eZ]
theorem oh {fo : Fo U} {lo : Lo U} {e : FEnt} (hk : Fok P e) (F : Hs U.D e.ts -> Option (Hs U.D e.us)) (hfo : FoSnd P fo) (hlo : LoSnd P (ntF P e.f) e.st.length lo 0 (codeF P e.f))
 {h:Hs U.D e.ts} {r:Hs U.D e.us} (hx:xbody fo lo P e h=some r):FAt P (e.s F) h r:=by
 unfold Fok okE at hk;unfold codeF at hlo;unfold ntF at hlo;unfold xbody codeF arsF at hx;split at hk
 . rename_i fn hfn;simp[hfn]at hlo hx;simp only[Bool.and_eq_true]at hk;obtain⟨h3,h4,h5,h6⟩:=hk;obtain⟨c,hc⟩:=Option.isSome_iff_exists.1 h4;obtain⟨ars,hr⟩:=Option.isSome_iff_exists.1 h5;have ec:kZ P fn=c:=by grind[kZ]
   rw[ec]at hlo hx;simp[hr]at hx;exact FAt.of_body hfn hc hr h6 hfo hlo hx
 grind
theorem Fok.b{e:FEnt}(hk:Fok P e):aH P e.f=true:=by
 grind[Fok,okE]
def evL(fo:Fo U)(kk:Nat):Nat->ACode->(e:LEnt)->Hs U.D e.ts->Option (OSum U e.outs)
 | 0,_,_,_=>none
 | n+1,b,e,h=>eZ fo (loL (e.sub.map fun s=>(s.q,s.l (evL fo kk n (eY b s.q) s)))) kk b e (evL fo kk n b e) h
def tabS(g:(e:FEnt)->Hs U.D e.ts->Option (Hs U.D e.us))(r:List (FSpec U)):List FEnt->Fo U
 | [],f=>foS r f
 | e::T,f=>match Nat.beq e.f f with
  | true=>e.s (g e)::tabS g r T f
  | false=>tabS g r T f
def evF(P:Program)(T:List FEnt)(X:List (FSpec U)):Nat->(e:FEnt)->Hs U.D e.ts->Option (Hs U.D e.us)
 | 0,_,_=>none
 | n+1,e,h=>xbody (tabS (evF P T X n) X T) (loL (e.sub.map fun s=>(s.q,s.l (evL (tabS (evF P T X n) X T) e.st.length n (eY (codeF P e.f) s.q) s)))) P e h
theorem loMap{nt kk:Nat}{b:ACode}{g:(s:LEnt)->Hs U.D s.ts->Option (OSum U s.outs)}:∀{l:List LEnt},(∀s h o,g s h=some o->LAt P nt kk (eY b s.q) s.sh s.ts s.outs h o)->LoOk P nt kk b (l.map fun s=>(s.q,s.l (g s)))
 | [],_=>LoOk.nil
 | s::l,hg=>LoOk.cons (fun h o ho=>hg s h o ho) (loMap hg)
theorem kL{fo:Fo U}(hfo:FoSnd P fo){nt kk:Nat}:∀(n:Nat) (b:ACode) (e:LEnt) (h:Hs U.D e.ts) (o:OSum U e.outs),evL fo kk n b e h=some o->LAt P nt kk b e.sh e.ts e.outs h o
 | 0,_,_,_,_,hx=>by grind[evL]
 | n+1,b,e,h,o,hx=>nG hfo (LoOk.snd (loMap fun s h o ho=>kL hfo n _ s h o ho)) (fun h o ho=>kL hfo n b e h o ho) hx
theorem pD{g:(e:FEnt)->Hs U.D e.ts->Option (Hs U.D e.us)}{r:List (FSpec U)}(hr:FoSnd P (foS r)):∀{T:List FEnt},(∀e,e∈T->Fok P e)->(∀e,e∈T->FSnd P (e.s (g e)))->FoSnd P (tabS g r T)
 | [],_,_=>hr
 | e::T,hk,hg=>by
  intro f t ht;simp[tabS]at ht;have ih:=pD hr (fun e he=>hk e (List.mem_cons_of_mem _ he)) (fun e he=>hg e (List.mem_cons_of_mem _ he));split at ht
  . rename_i hf;have:=aj hf;rcases List.mem_cons.1 ht with rfl | ht
    . exact⟨this,by rw[<-this];exact(hk e List.mem_cons_self).b,hg e List.mem_cons_self⟩
    . exact ih f t ht
  . exact ih f t ht
theorem pE{T:List FEnt}(hk:∀e,e∈T->Fok P e){X:List (FSpec U)}(hX:FoSnd P (foS X)):∀(n:Nat) (e:FEnt),Fok P e->FSnd P (e.s (evF P T X n e))
 | 0,e,_=>fun h r hr=>by simp[FEnt.s,evF]at hr
 | n+1,e,he=>FSnd.of fun h r hr=>
  have hfo:=pD hX hk fun e' he'=>pE hk hX n e' (hk e' he')
  oh he _ hfo (LoOk.snd (loMap fun s h o ho=>kL hfo n _ s h o ho)) hr
end
end Go.Proofs.YtkbmjabicjpmjaaGreatDoor.Shv
namespace Go.Proofs.YtkbmjabicjpmjaaGreatDoor.Shv
variable [GV]
open Go
set_option linter.all false
variable {U:Uni} {P:Program}
def FnC(P:Program)(s:FSpec U):Prop:=aH P s.f=true/\FSnd P s
def pathF(P:Program)(f:Nat):List Nat->ACode
 | []=>codeF P f
 | q::p=>eY (pathF P f p) q
def LpC(P:Program)(f kk:Nat)(p:List Nat)(e:LEnt)(F:Hs U.D e.ts->Option (OSum U e.outs)):Prop:=LSnd P (ntF P f) kk (pathF P f p) (e.l F)
def FoC(P:Program)(l:List (FSpec U)):Prop:=FoSnd P (foS l)
theorem FoC.n :FoC P ([]:List (FSpec U)):=FoSnd.nil
theorem FoC.k{s:FSpec U}{l:List (FSpec U)}(h:FnC P s)(hl:FoC P l):FoC P (s::l):=FoSnd.cons h.1 h.2 hl
def LoC(P:Program)(f kk:Nat)(p:List Nat)(l:List (Nat×LSpec U)):Prop:=LoOk P (ntF P f) kk (pathF P f p) l
theorem LoC.n{f kk:Nat}{p:List Nat}:LoC P f kk p ([]:List (Nat×LSpec U)):=LoOk.nil
theorem LoC.k{f kk q:Nat}{p:List Nat}{e:LEnt}{F:Hs U.D e.ts->Option (OSum U e.outs)}{l:List (Nat×LSpec U)}(h:LpC P f kk (q::p) e F)(hl:LoC P f kk p l):LoC P f kk p ((q,e.l F)::l):=LoOk.cons h hl
def FQ(P:Program)(U:Uni)(e:FEnt)(h:Hs U.D e.ts)(r:Hs U.D e.us):Prop:=FAt P (e.s fun _=>none) h r
def LQ(P:Program)(U:Uni)(f kk:Nat)(p:List Nat)(e:LEnt)(h:Hs U.D e.ts)(o:OSum U e.outs):Prop:=LAt P (ntF P f) kk (pathF P f p) e.sh e.ts e.outs h o
theorem FQ.at{e:FEnt}(hk:Fok P e){fs:List (FSpec U)}(hf:FoC P fs){ls:List (Nat×LSpec U)}(hl:LoC P e.f e.st.length [] ls){h:Hs U.D e.ts}{r:Hs U.D e.us}(hx:xbody (foS fs) (loL ls) P e h=some r):FQ P U e h r:=
 oh hk _ hf (LoOk.snd hl) hx
theorem LQ.at {f kk : Nat} {p : List Nat} {e : LEnt} {F' : Hs U.D e.ts -> Option (OSum U e.outs)} (hF : ∀ h o, F' h = some o -> LQ P U f kk p e h o) {fs : List (FSpec U)} (hf : FoC P fs) {ls : List (Nat×LSpec U)} (hl : LoC P f kk p ls) {h : Hs U.D e.ts} {o : OSum U e.outs}
 (hx:eZ (foS fs) (loL ls) kk (pathF P f p) e F' h=some o):LQ P U f kk p e h o:=
 nG hf (LoOk.snd hl) hF hx
theorem FnC.of{e:FEnt}(hk:Fok P e){F:Hs U.D e.ts->Option (Hs U.D e.us)}(h:∀h r,F h=some r->FQ P U e h r):FnC P (e.s F):=⟨hk.b,FSnd.of h⟩
theorem LpC.of{f kk:Nat}{p:List Nat}{e:LEnt}{F:Hs U.D e.ts->Option (OSum U e.outs)}(h:∀h o,F h=some o->LQ P U f kk p e h o):LpC P f kk p e F:=h
theorem FnC.fn{e:FEnt}(hk:Fok P e){F:Hs U.D e.ts->Option (Hs U.D e.us)}{fs:List (FSpec U)}(hf:FoC P fs){ls:List (Nat×LSpec U)}(hl:LoC P e.f e.st.length [] ls)(hx:∀h,xbody (foS fs) (loL ls) P e h=F h):FnC P (e.s F):=
 .of hk fun h r hr=>.at hk hf hl ((hx h).trans hr)
theorem FnC.rc {e : FEnt} (hk : Fok P e) {F : Hs U.D e.ts -> Option (Hs U.D e.us)} {b : (Hs U.D e.ts -> Option (Hs U.D e.us)) -> Hs U.D e.ts -> Option (Hs U.D e.us)}
 (pc:∀m:Hs U.D e.ts->Hs U.D e.us->Prop,(∀F',(∀h r,F' h=some r->m h r)->∀h r,b F' h=some r->m h r)->∀h r,F h=some r->m h r)
 {fs:(Hs U.D e.ts->Option (Hs U.D e.us))->List (FSpec U)} (hf:∀F',FnC P (e.s F')->FoC P (fs F')) {ls:List (Nat×LSpec U)} (hl:LoC P e.f e.st.length [] ls) (hx:∀F' h,xbody (foS (fs F')) (loL ls) P e h=b F' h):FnC P (e.s F):=
 .of hk (pc _ fun F' hF h r hr=>.at hk (hf F' (.of hk hF)) hl ((hx F' h).trans hr))
theorem LpC.rc {f kk : Nat} {p : List Nat} {e : LEnt} {F : Hs U.D e.ts -> Option (OSum U e.outs)} {b : (Hs U.D e.ts -> Option (OSum U e.outs)) -> Hs U.D e.ts -> Option (OSum U e.outs)}
 (pc:∀m:Hs U.D e.ts->OSum U e.outs->Prop,(∀F',(∀h r,F' h=some r->m h r)->∀h r,b F' h=some r->m h r)->∀h r,F h=some r->m h r)
 {fs:List (FSpec U)} (hf:FoC P fs) {ls:List (Nat×LSpec U)} (hl:LoC P f kk p ls) (hx:∀F' h,eZ (foS fs) (loL ls) kk (pathF P f p) e F' h=b F' h):LpC P f kk p e F:=
 .of (pc _ fun F' hF h o ho=>.at hF hf hl ((hx F' h).trans ho))
theorem FnC.fx {e : FEnt} {F : Hs U.D e.ts -> Option (Hs U.D e.us)} {fs : List (FSpec U)} (hf : FoC P fs := by exact .n) {ls : List (Nat×LSpec U)} (hl : LoC P e.f e.st.length [] ls := by exact .n) (hk : Fok P e := by exact .m (by kernel_rfl))
 (hx:∀h,xbody (foS fs) (loL ls) P e h=F h:=by intro _;kernel_rfl):FnC P (e.s F):= .fn hk hf hl hx
theorem FnC.rx {e : FEnt} {F : Hs U.D e.ts -> Option (Hs U.D e.us)} {b : (Hs U.D e.ts -> Option (Hs U.D e.us)) -> Hs U.D e.ts -> Option (Hs U.D e.us)}
 (pc:∀m:Hs U.D e.ts->Hs U.D e.us->Prop,(∀F',(∀h r,F' h=some r->m h r)->∀h r,b F' h=some r->m h r)->∀h r,F h=some r->m h r)
 {fs:(Hs U.D e.ts->Option (Hs U.D e.us))->List (FSpec U)} (hf:∀F',FnC P (e.s F')->FoC P (fs F')) {ls:List (Nat×LSpec U)} (hl:LoC P e.f e.st.length [] ls:=by exact .n) (hk:Fok P e:=by exact .m (by kernel_rfl))
 (hx:∀F' h,xbody (foS (fs F')) (loL ls) P e h=b F' h:=by intro _ _;kernel_rfl):FnC P (e.s F):= .rc hk pc hf hl hx
theorem LpC.rx {f kk : Nat} {p : List Nat} {e : LEnt} {F : Hs U.D e.ts -> Option (OSum U e.outs)} {b : (Hs U.D e.ts -> Option (OSum U e.outs)) -> Hs U.D e.ts -> Option (OSum U e.outs)}
 (pc:∀m:Hs U.D e.ts->OSum U e.outs->Prop,(∀F',(∀h r,F' h=some r->m h r)->∀h r,b F' h=some r->m h r)->∀h r,F h=some r->m h r)
 {fs:List (FSpec U)} (hf:FoC P fs:=by exact .n) {ls:List (Nat×LSpec U)} (hl:LoC P f kk p ls:=by exact .n) (hx:∀F' h,eZ (foS fs) (loL ls) kk (pathF P f p) e F' h=b F' h:=by intro _ _;kernel_rfl):LpC P f kk p e F:= .rc pc hf hl hx
theorem wB{T:List FEnt}(h:T.all (okE P)=true):∀e,e∈T->Fok P e:=fun e he=>List.all_eq_true.1 h e he
theorem FnC.run{T:List FEnt}(hT:T.all (okE P)=true){X:List (FSpec U)}(hX:FoC P X){e:FEnt}(hk:Fok P e){F:Hs U.D e.ts->Option (Hs U.D e.us)}(n:Nat)(h:∀h,F h=evF P T X n e h):FnC P (e.s F):=
 ⟨hk.b,fun x r hr=>pE (wB hT) hX n e hk x r ((h x).symm.trans hr)⟩
abbrev tI :Ty:= .int .i64
abbrev tL(n:Nat):Ty:= .slice (.nm n)
abbrev tLS :Ty:= .slice .str
abbrev tLI :Ty:= .slice (.int .i64)
abbrev hh(t:Ty):SV:= .c (.hole t)
abbrev hP(b o:Nat):SV:= .c (.ptr b o)
abbrev bb(t:Ty):SB:= .box [.hole t]
def hC :SC->List Ty
 | .hole t=>[t]
 | .eptr _ _ _=>[.int .i64]
 | .iptr t _=>[t]
 | _=>[]
def hF{α:Type}(f:α->List Ty):List α->List Ty
 | []=>[]
 | a::l=>f a++hF f l
def hV1 :SV->List Ty
 | .c s=>hC s
 | .agg l=>hF hC l
 | .row n=>[.nm n]
 | .tup _=>[]
def hV :SV->List Ty
 | .tup l=>hF hV1 l
 | v=>hV1 v
def hB :SB->List Ty
 | .box l=>hF hC l
 | .arr t=>[.slice t]
 | .brow n=>[.nm n]
 | .set=>[.slice .str]
 | .buf _=>[.str]
 | .bld _ s=>hC s
 | .gone=>[]
def hE(l:List (Nat×SV))(st:List SB):List Ty:=hF (fun p=>hV p.2) l++hF hB st
abbrev fE(f:Nat)(sa:List SV)(sr:SV)(sub:List LEnt:=[])(st:List SB:=[])(rst:List SB:=[]):FEnt:=⟨f,sa,st,hF hV sa++hF hB st,sr,rst,hV sr++hF hB rst,sub⟩
abbrev lE(q:Nat)(l:List (Nat×SV))(st:List SB)(outs:List OSpec)(sub:List LEnt:=[])(own:List (Pos×Ty):=[])(rown:List (Pos×Ty):=own):LEnt:=⟨q,⟨l,st⟩,own,rown,hE l st,outs,sub⟩
abbrev oE(e:Exit)(l:List (Nat×SV))(st:List SB:=[])(own:List (Pos×Ty):=[]):OSpec:=⟨e,⟨l,st⟩,own,hE l st⟩
abbrev oR(k:Nat)(t:Ty):OSpec:=⟨.ret,⟨[(k,hh t)],[]⟩,[],[t]⟩
abbrev oX(i:Nat):OSpec:=⟨.exit i,⟨[],[]⟩,[],[]⟩
end Go.Proofs.YtkbmjabicjpmjaaGreatDoor.Shv
namespace Go.Proofs.YtkbmjabicjpmjaaGreatDoor.Shv
set_option linter.all false
section
open Go
variable [GV]
variable {U:Uni}
def gZ(te sz bytes:Nat)(z:List C):ACode:=
 .seq (.region [⟨some 2,.mov (.const (.c .cap0)),none⟩])
  (.seq (.seq (.region [⟨some 3, .mov (.tmp 0), none⟩, ⟨some 4, .eqNil false (.tmp 3), none⟩])
   (.cond (.tmp 4) (.seq (.region [⟨some 2,.mov (.const (.c .cap0)),none⟩]) .ret) .skip))
   (.seq (.region [⟨some 5,.bslice sz 0 z [],none⟩,⟨some 6,.mov (.tmp 0),none⟩,⟨some 7,.append te sz bytes (.tmp 5) (.tmp 6),none⟩,⟨some 2,.mov (.tmp 7),none⟩]) .ret))
def rum1(bytes n:Nat):Bool:=(decide ((2*n+192)*bytes<=bh) || decide ((n+n / 4+512)*bytes<=bh)) && decide (n<=az)
theorem pF{bytes n:Nat}(h:rum1 bytes n=true):capOk n bytes/\n<=az:=by
 unfold rum1 at h;simp at h;exact h
def e6{α:Type}(bytes:Nat)(l:List α):Option (List α):=if rum1 bytes l.length=true then some l else none
def iz(U:Uni)(f:Nat)(t:Ty)(bytes:Nat):FSpec U:=
 ⟨f,[.c (.hole (.slice t))],[],[.slice t],.c (.arr 0),[.arr t],[.slice t],fun(l:List (t.den U.D))=>e6 bytes l⟩
section
variable {P:Program}
theorem u0 {f : Nat} {fn : Func} {te sz bytes : Nat} {z : List C} {zt : List T} {es : List (List T)} (hf : P.funcs[f]? = some fn) (hc : fn.body.bind (Shv.resolve P fn.ntmps) = some (gZ te sz bytes z)) (hr : aX P fn.results.toList = some [.tmp 2])
 (hn:1<=fn.ntmps) (hz:toTs z=some zt) (hsz:0 < sz) (he:∀e,e∈es->e.length=sz) (hroom:rum1 bytes es.length=true):
 Con P f [.c (.t (.slice es))] [] 0 (fun r J' N'=>N'=1/\r= .c (.arr 0 sz 0 es.length)/\sget J' 0=some (.arr sz es)):=by
 have hroom':=pF hroom;refine Con.tidy (Q:=fun r J' N'=>∃b,r= .c (.arr b sz 0 es.length)/\sget J' b=some (.arr sz es)) (Con.mk hf hc hr rfl (by grind) ?_) ?_
 . refine AW.seq (AW.region ?_);simp only[aops,astep,aI,aval,AO.get,aA,env0,AOp.neutral,if_true,andThen];refine .inr ⟨fun _=>trivial,.inl trivial,?_⟩;refine AW.seq (AW.seq (AW.region ?_));simp only[aops,astep,aI,aval,AO.get,Option.map_some,aA,AOp.neutral,if_true,andThen,look];refine .inr ⟨fun _=>by rfl,.inl trivial,?_⟩;refine .inr ?_
   simp only[if_false,if_true,true_and];intro b hb;refine AW.cond (b:=b) (by simp[AO.get,look,boolV]) trivial (fun hbt=>?_) (fun hbf=>?_)
   ·
    have hes:es=[]:=by grind
    subst hes;refine AW.seq (AW.region ?_);simp only[aops,astep,aI,aval,AO.get,Option.map_some,aA,AOp.neutral,if_true,andThen];refine .inr ⟨fun _=>trivial,.inl trivial,?_⟩;refine AW.conv (Conv.own (k:=2) rfl hsz (Nat.zero_le _)) (AW.ret ?_)
    refine⟨_,_,rfl,⟨rfl,trivial⟩,_,rfl,?_⟩;rfl
   . refine AW.skip ?_;refine AW.seq (AW.region ?_);simp only[aops,astep,aI,aval,AO.get,Option.map_some,aA,AOp.neutral,if_true,andThen,look,bf,hz,oZ3,Nat.reduceEqDiff,if_false,reduceCtorEq,ysOf,ag,List.replicate];refine .inr ⟨fun _=>trivial,.inr trivial,?_⟩;refine .inr ⟨fun _=>by simp,.inl trivial,?_⟩
     refine .inr ⟨fun _=>⟨trivial,trivial,trivial,trivial,trivial,by rfl,he,by grind,by grind⟩,.inr trivial,?_⟩;refine .inr ⟨fun _=>by simp,.inl trivial,?_⟩;refine AW.ret ⟨_,[.c (.arr 80 sz 0 _)],rfl,⟨rfl,trivial⟩,80,by rw[Nat.zero_add];rfl,?_⟩;rfl
 . rintro r J' N' ⟨b,rfl,hs⟩
   refine⟨[b],_,_,by simp,rfl,?_,fun i x hx=>⟨x,hx,?_⟩,rfl,rfl,?_⟩
   . simp only[V.ren,C.ren,pos,if_true];exact .c (CSub.refl _)
   . cases x with
     | box cs=>exact .box (All2.self CSub.refl _)
     | arr sz es=>exact .arr
     | set ks=>exact .same
     | buf E s=>exact .same
     | bld E c=>exact .bld (CSub.refl _)
     | arro sz es i o c=>exact .arro (CSub.refl _)
   grind[aF,sget,Blk.ren]
theorem om {f : Nat} {fn : Func} {te sz bytes : Nat} {z : List C} {zt : List T} {t : Ty} (hf : P.funcs[f]? = some fn) (hc : fn.body.bind (Shv.resolve P fn.ntmps) = some (gZ te sz bytes z)) (hr : aX P fn.results.toList = some [.tmp 2])
 (hn:Nat.ble 1 fn.ntmps=true) (hz:toTs z=some zt) (hsz:t.sz U=sz):FSnd P (iz U f t bytes):=by
 intro l r hF args1 J1 ha hS;subst hsz;have hF':e6 _ l=some r:=hF;unfold e6 at hF';split at hF'
 . cases hF';cases ha with
   | cons h1 h2=>
    cases h2;have:=VR.slice_inv h1;subst this
    refine Con.conv (.cons (.c (CSub.refl _)) .nil) (fun b x hx=>by grind[sget]) ((u0 hf hc hr (aV hn) hz Ty.sz_pos (fun e he=>by
     obtain⟨y,_,rfl⟩:=List.mem_map.1 he
     exact Ty.enc_length) (by grind)).mono ?_)
    rintro r1 s1 N1 ⟨rfl,rfl,hs⟩
    refine⟨rfl,.c (.arr 0 _ _ (by simp) fun x hx p hp=>?_),fun b x hx=>?_⟩
    . have:x=XB.arr t l:=by
       simp[FSpec.rest,iz,filV,filC,Hs.cells,HsC.cells,filS,filB,lk]at hx
       grind
      grind[XB.dim]
    . have hx':(if b=0 then some (XB.arr t l)else none)=some x:=by
       rw[<-hx];cases b <;> rfl
      split at hx'
      . rename_i hb;cases hx';subst hb;exact⟨by simp,_,hs,.arr t l⟩
      grind
 grind
def xw{α:Type}(bytes:Nat)(l:List α):Option (List α×List α):=(e6 bytes l).map fun r=>(l,r)
def la(U:Uni)(f:Nat)(t:Ty)(bytes:Nat):FSpec U:=
 ⟨f,[.c (.arr 0)],[.arr t],[.slice t],.c (.arr 1),[.arr t,.arr t],[.slice t,.slice t],fun(l:List (t.den U.D))=>xw bytes l⟩
theorem tW {f : Nat} {fn : Func} {te sz bytes : Nat} {z : List C} {zt : List T} {es : List (List T)} {J0 : Store} (hf : P.funcs[f]? = some fn) (hc : fn.body.bind (Shv.resolve P fn.ntmps) = some (gZ te sz bytes z)) (hr : aX P fn.results.toList = some [.tmp 2])
 (hn:1<=fn.ntmps) (hz:toTs z=some zt) (hsz:0 < sz) (he:∀e,e∈es->e.length=sz) (hroom:rum1 bytes es.length=true) (h0:sget J0 0=some (.arr sz es)):
 Con P f [.c (.arr 0 sz 0 es.length)] J0 1 (fun r J' N'=>N'=2/\r= .c (.arr 1 sz 0 es.length)/\sget J' 0=some (.arr sz es)/\sget J' 1=some (.arr sz es)):=by
 have hroom':=pF hroom;refine Con.tidy (Q:=fun r J' N'=>∃b,1<=b/\r= .c (.arr b sz 0 es.length)/\sget J' 0=some (.arr sz es)/\sget J' b=some (.arr sz es)) (Con.mk hf hc hr rfl (by grind) ?_) ?_
 . refine AW.seq (AW.region ?_);simp only[aops,astep,aI,aval,AO.get,Option.map_some,aA,env0,AOp.neutral,if_true,andThen];refine .inr ⟨fun _=>trivial,.inl trivial,?_⟩;refine AW.seq (AW.seq (AW.region ?_));simp only[aops,astep,aI,aval,AO.get,Option.map_some,aA,AOp.neutral,if_true,andThen,look,List.length_cons,List.length_nil]
   refine .inr ⟨fun _=>by rfl,.inl trivial,?_⟩;refine .inr ?_;simp only[Nat.reduceEqDiff,if_false,if_true,Option.map_some,true_and];intro b hb;refine AW.cond (b:=b) (p:=True) (by simp[AO.get,look,boolV]) trivial (fun hbt=>?_) (fun hbf=>?_)
   . have hes:es=[]:=by grind
     subst hes;refine AW.seq (AW.region ?_);simp only[aops,astep,aI,aval,AO.get,Option.map_some,aA,AOp.neutral,if_true,andThen];refine .inr ⟨fun _=>trivial,.inl trivial,?_⟩;refine AW.conv (Conv.own (k:=2) (g:=true) (sz:=sz) rfl hsz (by simp)) (AW.ret ?_)
     refine⟨_,_,rfl,⟨rfl,trivial⟩,_,by simp,rfl,?_,?_⟩
     . simp_all[ag,if_neg]
     . rw[ag,if_pos rfl]
   . refine AW.skip ?_;refine AW.seq (AW.region ?_);simp only[aops,astep,aI,aval,AO.get,Option.map_some,aA,AOp.neutral,if_true,andThen,look,bf,hz,oZ3,Nat.reduceEqDiff,if_false,Bool.false_eq_true,reduceCtorEq,List.replicate];refine .inr ⟨fun _=>trivial,.inr trivial,?_⟩;refine .inr ⟨fun _=>by simp,.inl trivial,?_⟩
     have hy:∀v,ysOf (sput J0 (1+16*1+16*2) (.arr sz v)) (.c (.arr 0 sz 0 es.length))=some (es,some 0):=by
      grind[ysOf,ag]
     refine .inr ?_;simp only[List.length_cons,List.length_nil,Nat.zero_add]at hy ⊢;rw[hy];simp only[oZ3,ag,if_true,Option.some.injEq,Nat.reduceMul,Nat.reduceAdd,if_false];refine⟨fun _=>⟨trivial,trivial,trivial,trivial,trivial,by rfl,he,by grind,by grind⟩,.inr trivial,?_⟩;refine .inr ⟨fun _=>by simp,.inl trivial,?_⟩
     refine AW.ret ⟨_,[.c _],rfl,⟨rfl,trivial⟩,81,by simp,rfl,?_,?_⟩
     . simp_all[ag,if_neg,aC]
     simp_all[ag,if_pos]
 . rintro r J' N' ⟨b,hb1,rfl,hs0,hs⟩
   refine⟨[0,b],_,_,by grind,rfl,?_,fun i x hx=>⟨x,hx,?_⟩,rfl,rfl,?_⟩
   . simp only[V.ren,C.ren,pos,if_neg (show ¬0=b by omega),if_true];exact .c (CSub.refl _)
   . cases x with
     | box cs=>exact .box (All2.self CSub.refl _)
     | arr sz es=>exact .arr
     | set ks=>exact .same
     | buf E s=>exact .same
     | bld E c=>exact .bld (CSub.refl _)
     | arro sz es i o c=>exact .arro (CSub.refl _)
   grind[aF,sget,Blk.ren]
theorem tX {f : Nat} {fn : Func} {te sz bytes : Nat} {z : List C} {zt : List T} {t : Ty} (hf : P.funcs[f]? = some fn) (hc : fn.body.bind (Shv.resolve P fn.ntmps) = some (gZ te sz bytes z)) (hr : aX P fn.results.toList = some [.tmp 2])
 (hn:Nat.ble 1 fn.ntmps=true) (hz:toTs z=some zt) (hsz:t.sz U=sz):FSnd P (la U f t bytes):=by
 intro l r hF args1 J1 ha hS;subst hsz;have hF':(e6 _ l).map _=some r:=hF;unfold e6 at hF';split at hF'
 . cases hF';cases ha with
   | cons h1 h2=>
    cases h2;obtain⟨sz,n,rfl,_,hd⟩:=h1.arr_inv;obtain⟨_,y,hy1,hy2⟩:=hS 0 _ rfl;cases hy2;have:=hd _ rfl _ rfl;obtain⟨rfl,rfl⟩:=this;have hlen:l.length=(l.map (t.enc U)).length:=by grind
    rw[hlen]
    refine(tW hf hc hr (aV hn) hz Ty.sz_pos (fun e he=>by
     obtain⟨y,_,rfl⟩:=List.mem_map.1 he
     exact Ty.enc_length) (by grind) hy1).mono ?_
    rintro r1 s1 N1 ⟨rfl,rfl,hs0,hs1⟩
    have hlk:∀b x,lk ((la U f t bytes).rest (l,l)) b=some x->(b=0\/b=1)/\x=XB.arr t l:=by
     intro b x hx;have hx':(if b=0 then some (XB.arr t l)else if b=1 then some (XB.arr t l)else none)=some x:=by
      rw[<-hx]
      match b with
      | 0=>rfl
      | 1=>rfl
      | _+2=>rfl
     grind
    refine⟨rfl,.c (.arr 1 _ _ (by simp) fun x hx p hp=>?_),fun b x hx=>?_⟩
    . obtain⟨_,rfl⟩:=hlk _ _ hx
      grind[XB.dim]
    . obtain⟨hb,rfl⟩:=hlk _ _ hx;rcases hb with rfl | rfl
      . exact⟨by simp,_,hs0,.arr t l⟩
      . exact⟨by simp,_,hs1,.arr t l⟩
 grind
end
end
section
open Go Go.Proofs Go.Proofs.YtkbmjabicjpmjaaGreatDoor Go.Shelf
variable [GV]
variable {U:Uni}
def iA(U:Uni)(f E E8:Nat):FSpec U:=
 ⟨f,[.c (.ptr 0 0)],[.bld E (.bufc 1),.buf E8],[.str],.tup [],[.bld E (.bufc 1),.buf E8],[.str],fun(s:List UInt8)=>some s⟩
section
variable {P:Program} {ρ:Ren}
theorem u1 (L : Lays.n240 P ρ) (X : Builder.X72 P ρ) {J : Store} {E8 n : Nat} {s : List UInt8} (h0 : sget J 0 = some (.bld (ρ.t 72) (.bufc 1 n))) (h1 : sget J 1 = some (.buf E8 s)):
 Con P (ρ.f 240) [.c (.ptr 0 0)] J 2 (fun r J' N'=>r= .tup []/\J'=J/\N'=2):=by
 intro φ S w B hsim hsb hown hG hab vs hvs;cases hvs with | cons hv hvs=>
 cases hvs;have hp0:=hv.ptr_inv;subst hp0;obtain⟨hφ,⟨p,v,hh,hp,hrc⟩,hns⟩:=hsim.blk 0 _ h0
 have same : ∀ w', w' = w -> ∃ (v : Value) (r : V) (φ' : Phi) (S' : Stab) (J' : Store) (N' : Nat), Ending.returned (Value.tuple #[]) = Ending.returned v /\ (r = .tup [] /\ J' = J /\ N' = 2) /\ RV φ' w' S' r v /\ r.bnd (lt N') = true /\ Sim φ' w' S' J' /\ (∀ (b : Nat) x, sget J' b = some x -> b < N' /\ x.bnd (lt N') = true) /\ Ext B S S' w w' /\
  (∀(b:Nat) x,sget J' b=some x->(φ' b).2≠0->B (φ' b).1\/w.heap.size<=(φ' b).1)/\∀b,b < 2->φ' b=φ b:=by
  rintro w' rfl
  exact⟨_,.tup [],φ,S,J,2,rfl,⟨rfl,rfl,rfl⟩,.tup [] [] rfl (by simp),rfl,hsim,hsb,Ext.refl,fun b x hx hb=>.inl (hown b x hx hb),fun _ _=>rfl⟩
 rcases hp with rfl | rfl
 . have hc0:w.cell? ⟨(φ 0).1,0,none⟩=some (.pointer none):=by rw[bc hh];rfl
   have hsh:w.shape? (φ 0).1=some (ρ.t 72,2):=by simp[World.shape?,hh]
   have hfz:w.frozen? ⟨(φ 0).1,0,none⟩=false:=by simp[World.frozen?,hh]
   refine(Any.Builder_copyCheck_fresh L X _ w hc0 hsh hfz).mono ?_
   rintro e w' ⟨rfl,rfl⟩
   obtain⟨q1,q2⟩:=lX hh 0 _;have m:Mono w S _ S:=⟨fun _ _ h=>h,fun b j h=>cd (q2 b (fun e=>hns j (e▸h))) j⟩
   refine⟨_,.tup [],φ,S,J,2,rfl,⟨rfl,rfl,rfl⟩,.tup [] [] rfl (by simp),rfl,⟨fun b x hx=>?_,hsim.inj,fun b j h=>?_⟩,hsb,⟨rfl,rfl,rfl,by simp,fun b hb hB=>q2 b (fun e=>hB (e▸hown 0 _ h0 hφ)),m,fun _ _ h=>.inl h⟩,fun b x hx hb=>.inl (hown b x hx hb),fun _ _=>rfl⟩
   . by_cases hb:b=0
     . subst hb;rw[h0]at hx;cases hx;exact⟨hφ,⟨_,v,q1,.inr rfl,RC.mono m (fun _ _=>rfl) (C.bnd_true _) hrc⟩,hns⟩
     . exact RB.mono (n:=fun _=>true) m (fun _ _=>rfl) rfl (by cases x <;> simp[Blk.bnd,C.bnd_true]) (fun hb0=>q2 _ (hsim.inj b 0 x _ hx h0 hb hb0 hφ)) (hsim.blk b x hx)
   . have:=hsim.st b j h
     simpa using this
 . have hc0:w.cell? ⟨(φ 0).1,0,none⟩=some (.pointer (some ⟨(φ 0).1,0,none⟩)):=by rw[bc (vs:=[_,_]) hh];rfl
   refine(Any.Builder_copyCheck_used L X _ w hc0).mono ?_
   rintro e w' ⟨rfl,rfl⟩
   exact same _ rfl
theorem u2(L:Lays.n240 P ρ)(X:Builder.X72 P ρ){f E E8:Nat}(hf:ρ.f 240=f)(hE:ρ.t 72=E):FSnd P (iA U f E E8):=by
 subst hf;subst hE;intro s r hF args1 J1 ha hS;have hr:=Option.some.inj hF.symm;subst hr;cases ha with | cons ha ha2=>
 cases ha2;have:=ha.ptr_inv;subst this;have l0:lk ((iA U (ρ.f 240) (ρ.t 72) E8).ast r) 0=some _:=rfl;have l1:lk ((iA U (ρ.f 240) (ρ.t 72) E8).ast r) 1=some _:=rfl;obtain⟨_,y0,g0,b0⟩:=hS 0 _ l0;obtain⟨_,y1,g1,b1⟩:=hS 1 _ l1;cases b1;cases b0 with | @bld _ _ d b0=>
 cases b0 with | bufc _ n hb hd=>
 refine(u1 L X g0 g1).mono ?_
 rintro r1 s1 N1 ⟨rfl,rfl,rfl⟩
 exact⟨rfl,.tup [] [] rfl (by simp),hS⟩
end
end
section
open Go Go.ChangeShapes Go.WideShapes Go.RowKit
variable [GV]
variable {U:Uni}
def Ty.w1 :Ty->Nat
 | .bool=>1
 | .int k=>k.bits / 8
 | .str=>16
 | .slice _=>24
 | .nm _=>0
def lb :List Ty->Nat
 | []=>0
 | t::r=>t.w1+lb r
def dV(l:List Ty):Nat:=bif l.any fun t=>Nat.ble 8 t.w1 then(lb l+7) / 8*8 else lb l
def Ty.bytes(U:Uni)(t:Ty):Nat:=dV (t.cells U)
inductive WF (U:Uni):Cell U.D->Prop
 | bool (b:Bool):WF U ⟨.bool,b⟩
 | int (k:IntKind) (n:Int) (h:(Lit.int k n).wf=true):WF U ⟨.int k,n⟩
 | str (s:List UInt8) (h:s.length<=reachBytes):WF U ⟨.str,s⟩
 | slice (t:Ty) (l:List (t.den U.D)) (h:l.length<=reachBytes) (h2:l.length*t.bytes U<=reachBytes) (hl:∀x,x∈l->∀c,c∈t.row U x->WF U c):WF U ⟨.slice t,l⟩
def Uni.Total(U:Uni):Prop:=∀n (l:List (Cell U.D)),l.map Cell.ty=U.tys n->∃x,U.make n l=some x
def tysEq :List Ty->List Ty->Bool
 | [],[]=>true
 | a::l,b::m=>Ty.beq a b && tysEq l m
 | _,_=>false
theorem oS :∀{l m:List Ty},tysEq l m=true->l=m
 | [],[],_=>rfl
 | a::l,b::m,h=>by
  simp[tysEq]at h;rw[Ty.beq_eq h.1,oS h.2]
 | [],_::_,h=>by cases h
 | _::_,[],h=>by cases h
def gq(P:Program)(g:TypeId->Option (List Ty)):List Field->Nat->Nat->Option (List Ty)
 | [],off,tot=>match Nat.beq off tot with
  | true=>some []
  | false=>none
 | f::r,off,tot=>match g f.type with
  | none=>none
  | some a=>match Nat.beq f.offset off && Nat.beq (P.cellsOf f.type) a.length with
   | false=>none
   | true=>match gq P g r (off+a.length) tot with
    | none=>none
    | some b=>some (a++b)
def flat(P:Program)(U:Uni)(st:TypeId->Option Nat):Nat->TypeId->Option (List Ty)
 | 0,_=>none
 | n+1,t=>match P.underlying t with
  | some .bool=>some [.bool]
  | some (.int k)=>some [.int k]
  | some .string=>some [.str]
  | some (.slice e)=>match st e with
   | some m=>match Nat.ble 1 (P.bytesOf e) && Nat.ble (dV (U.tys m)) (P.bytesOf e)with
    | true=>some [.slice (.nm m)]
    | false=>none
   | none=>match flat P U st n e with
    | none=>none
    | some a=>match Nat.ble 1 (P.bytesOf e) && Nat.ble (dV a) (P.bytesOf e)with
     | false=>none
     | true=>match a with
      | [ty]=>match ty.isNm with
       | true=>none
       | false=>some [.slice ty]
      | _=>none
  | some (.struct fs)=>gq P (flat P U st n) fs.toList 0 (P.cellsOf t)
  | some (.array k e)=>match flat P U st n e with
   | none=>none
   | some a=>match Nat.beq (P.cellsOf t) (k*a.length) && Nat.beq (P.cellsOf e) a.length with
    | false=>none
    | true=>some (List.replicate k a).flatten
  | _=>none
theorem mN{α:Type}{R:Nat->α->Prop}:∀(n:Nat),(∀i,i < n->∃x,R i x)->∃l:List α,l.length=n/\∀(i:Nat) x,l[i]?=some x->R i x
 | 0,_=>⟨[],rfl,by simp⟩
 | n+1,h=>by
  obtain⟨l,hl,hr⟩:=mN n fun i hi=>h i (by omega)
  obtain⟨x,hx⟩:=h n (by simp);refine⟨l++[x],by grind,fun i y hy=>?_⟩
  grind
section
variable {H:Type} {enc:TypeId×Value->H} {P:Program} {w:World}
abbrev Old(w:World):Stab:=fun b _=>b < w.heap.size
structure Rd (U:Uni) (w:World) (tys:List Ty) (cs:List Value) (l:List (Cell U.D)):Prop where
 ty:l.map Cell.ty=tys
 wf:∀c,c∈l->WF U c
 rt:All2 (fun c v=>RT w (Old w) (Cell.enc U c) v) l cs
theorem gr{t:Ty}{x:t.den U.D}{v:Value}(h1:WF U ⟨t,x⟩)(h2:RT w (Old w) (Cell.enc U ⟨t,x⟩) v):Rd U w [t] [v] [⟨t,x⟩]:=
 ⟨rfl,by grind,.cons h2 .nil⟩
theorem ja{t:TypeId}:∀{ds:List (DataW H)} {d:DataW H},d∈ds->∀n∈d.weights P t,n∈DataW.weightsAll P t ds
 | d0::ds,d,hd,n,hn=>by
  simp[DataW.weightsAll];rcases List.mem_cons.1 hd with rfl | hd
  . grind
  . exact .inr (ja hd n hn)
theorem oq {g : TypeId -> Option (List Ty)} {cs : List Value}: ∀ {fs : List Field} {off tot : Nat} {tys : List Ty},
 (∀f,f∈fs->∀a,g f.type=some a->∃l,Rd U w a ((cs.drop f.offset).take (P.cellsOf f.type)) l)->
 gq P g fs off tot=some tys->cs.length=tot->∃l,Rd U w tys (cs.drop off) l
 | [],off,tot,tys,_,h,hl=>by
  simp[gq]at h;split at h
  . rename_i e;cases h;have:=aj e;refine⟨[],rfl,by simp,?_⟩;rw[List.drop_eq_nil_of_le (by omega)];exact .nil
  grind
 | f::r,off,tot,tys,hg,h,hl=>by
  simp only[gq]at h;split at h
  . grind
  . rename_i a ha;split at h
    . grind
    . rename_i hb;simp only[Bool.and_eq_true]at hb;have h1:=aj hb.1;have h2:=aj hb.2;split at h
      . grind
      . rename_i b hb2;cases h;obtain⟨l1,hl1⟩:=hg f (by simp) a ha;obtain⟨l2,hl2⟩:=oq (fun f hf=>hg f (by grind)) hb2 hl;refine⟨l1++l2,by simp[hl1.ty,hl2.ty],?_,?_⟩
        . intro c hc;rcases List.mem_append.1 hc with hc | hc
          . exact hl1.wf c hc
          . exact hl2.wf c hc
        . have e:cs.drop off=(cs.drop off).take a.length++cs.drop (off+a.length):=by rw[<-List.drop_drop,List.take_append_drop]
          rw[e];refine All2.append ?_ hl2.rt;have:=hl1.rt
          grind
theorem pT {a : List Ty} {cs : List Value}: ∀ (k off : Nat), (∀ i, i < k -> ∃ l, Rd U w a ((cs.drop (off + i * a.length)).take a.length) l) -> cs.length = off + k * a.length ->
 ∃l,Rd U w (List.replicate k a).flatten (cs.drop off) l
 | 0,off,_,hl=>by
  refine⟨[],rfl,by simp,?_⟩;rw[List.drop_eq_nil_of_le (by omega)];exact .nil
 | k+1,off,hg,hl=>by
  obtain⟨l1,hl1⟩:=hg 0 (by simp);rw[Nat.zero_mul]at hl1
  obtain⟨l2,hl2⟩:=pT (a:=a) (cs:=cs) k (off+a.length) (fun i hi=>by
   grind) (by grind)
  refine⟨l1++l2,by simp[hl1.ty,hl2.ty,List.replicate_succ],?_,?_⟩
  . intro c hc;rcases List.mem_append.1 hc with hc | hc
    . exact hl1.wf c hc
    . exact hl2.wf c hc
  . have e:cs.drop off=(cs.drop off).take a.length++cs.drop (off+a.length):=by rw[<-List.drop_drop,List.take_append_drop]
    rw[e];exact All2.append hl1.rt hl2.rt
theorem u3{a:Addr}{n:Nat}{cs:List Value}(h:w.cells? 0 a n=some cs):cs.length=n/\∀j,j < n->w.cell? (a.add j)=cs[j]?:=by
 exact⟨by simpa using mapM_some_length h,fun j hj=>mapM_some_get h j j (by grind)⟩
theorem ot{a:Addr}{v:Value}(h:w.cell? a=some v):a.spot=none/\a.block < w.heap.size:=by
 unfold World.cell? at h;split at h
 . rename_i hb;split at h
   . grind
   . refine⟨by simp_all,(Array.getElem?_eq_some_iff.1 hb).1⟩
 grind
theorem pG{a:Addr}{i j:Nat}(h:a.spot=none):(a.add i).add j=⟨a.block,a.off+i+j,none⟩:=by
 obtain⟨b,o,sp⟩:=a
 grind[Addr.add]
theorem mk_of(tot:U.Total){t:Ty}{l:List (Cell U.D)}(h:l.map Cell.ty=t.cells U):∃x,t.row U x=l:=by
 have one:∀t,l.map Cell.ty=[t]->∃x:t.den _,l=[⟨t,x⟩]:=by
  intro t h
  match l,h with
  | [⟨t',x⟩],h=>grind
 cases t with
 | nm n=>
  obtain⟨x,hx⟩:=tot n l h;exact⟨x,U.mk_eq n l x hx⟩
 | bool=>obtain⟨x,hx⟩:=one _ h;exact⟨x,hx.symm⟩
 | int k=>obtain⟨x,hx⟩:=one _ h;exact⟨x,hx.symm⟩
 | str=>obtain⟨x,hx⟩:=one _ h;exact⟨x,hx.symm⟩
 | slice t=>obtain⟨x,hx⟩:=one _ h;exact⟨x,hx.symm⟩
def StOk(P:Program)(U:Uni)(st:TypeId->Option Nat):Prop:=∀e m,st e=some m->flat P U st 60 e=some (U.tys m)
def stOf :List (TypeId×Nat)->TypeId->Option Nat
 | [],_=>none
 | p::l,t=>match Nat.beq p.1 t with
  | true=>some p.2
  | false=>stOf l t
def gu(P:Program)(U:Uni)(st:TypeId->Option Nat)(t:TypeId)(tys:List Ty):Bool:=
 match flat P U st 60 t with
 | some a=>tysEq a tys
 | none=>false
theorem jK{P:Program}{st:TypeId->Option Nat}{t:TypeId}{tys:List Ty}(h:gu P U st t tys=true):flat P U st 60 t=some tys:=by
 grind[gu,oS]
theorem oT :∀{l:List (TypeId×Nat)} {t m},stOf l t=some m->(t,m)∈l
 | p::l,t,m,h=>by
  simp[stOf]at h;split at h
  . grind[aj]
  . exact .tail _ (oT h)
theorem y5{P:Program}{l:List (TypeId×Nat)}(h:(l.all fun p=>gu P U (stOf l) p.1 (U.tys p.2))=true):StOk P U (stOf l):=by
 intro e m he;rw[List.all_eq_true]at h;exact jK (h _ (oT he))
theorem tY {st : TypeId -> Option Nat} (hst : StOk P U st) {n : Nat} {t e : TypeId} {tys : List Ty} (ht : P.underlying t = some (.slice e)) (h : flat P U st (n + 1) t = some tys):
 ∃ty a n',tys=[.slice ty]/\flat P U st n' e=some a/\a=ty.cells U/\1<=P.bytesOf e/\dV a<=P.bytesOf e:=by
 simp[flat,ht]at h;split at h
 . rename_i m hm;split at h
   . rename_i hb;cases h;simp only[Bool.and_eq_true]at hb;exact⟨.nm m,U.tys m,60,rfl,hst e m hm,rfl,Nat.le_of_ble_eq_true hb.1,Nat.le_of_ble_eq_true hb.2⟩
   grind
 . split at h
   . grind
   . rename_i a ha;split at h
     . grind
     . rename_i hb;have hb':1<=P.bytesOf e/\dV a<=P.bytesOf e:=by simp_all
       split at h
       . rename_i ty;split at h
         . grind
         . rename_i hn;cases h;refine⟨ty,[ty],n,rfl,ha,?_,hb'⟩;cases ty <;> first | rfl | cases hn
       grind
theorem ou (tot : U.Total) {st : TypeId -> Option Nat} (hst : StOk P U st): ∀ (fuel n : Nat) (t : TypeId) (cs : List Value) (x : DataW H×List MemPlace) (tys : List Ty),
 DataW.trod enc P w 0 (fun _=>true) true fuel t cs=some x->flat P U st n t=some tys->(∀k,k∈x.1.weights P t->k<=reachBytes)->∃l,Rd U w tys cs l:=by
 intro fuel
 induction fuel with
 | zero=>simp_all[DataW.trod]
 | succ m ih=>
  intro n t cs x tys h hf hw;cases n with
  | zero=>cases hf
  | succ n=>
  have hf0:=hf;simp only[flat]at hf;split at hf
  . rename_i hu;cases hf;obtain⟨b,rfl,rfl⟩:=DataW.trod_bool hu h;exact⟨_,gr (.bool b) (.bool b)⟩
  . rename_i k hu;cases hf;obtain⟨i,rfl,rfl,hwf⟩:=DataW.trod_int hu h;exact⟨_,gr (.int k i hwf) (.int k i)⟩
  . rename_i hu;cases hf;obtain⟨s,rfl,rfl,hs⟩:=DataW.trod_string hu h;have h1:s.data.toList.length<=reachBytes:=hw _ (by simp[DataW.weights]);have h2:s.data.toList.length=s.size:=Array.length_toList;refine⟨_,gr (.str s.data.toList h1) (.str s ?_)⟩
    grind[reachBytes,aD]
  . rename_i e hu;obtain⟨ty,a,n',rfl,ha,hac,hbe,hbl⟩:=tY hst hu hf0;rcases DataW.trod_slice hu h with⟨rfl,rfl⟩ | ⟨ad,len,cap,elems,rest,m',hm,rfl,rfl,_,hlc,_,hel,hget,_,_⟩
    . refine⟨_,gr (.slice ty [] (Nat.zero_le _) (by simp) (by simp)) ?_⟩;exact .slice [] none 0 0 0 0 (fun _ _=>default) (by simp) (by simp) (by simp) (by simp) (by simp) (by simp)
    . cases hm;have hwl:(elems.length+rest.length)*P.bytesOf e<=reachBytes:=by
       simp_all[DataW.weights]
      have hlen:len<=reachBytes:=by
       have h1:elems.length+rest.length<=(elems.length+rest.length)*P.bytesOf e:=Nat.le_mul_of_pos_right _ hbe;omega
      have hlen2:len*dV a<=reachBytes:=by
       have h1:len*dV a<=(elems.length+rest.length)*P.bytesOf e:=Nat.mul_le_mul (by omega) hbl;omega
      have hE:∀i,i < len->∃xi:ty.den U.D,∃cs',cs'.length=P.cellsOf e/\(∀j,j < P.cellsOf e->w.cell? ((ad.add (i*P.cellsOf e)).add j)=cs'[j]?)/\Rd U w a cs' (ty.row U xi):=by
       intro i hi;have hgi:=hget i hi;have hei:elems[i]?=some elems[i]:=List.getElem?_eq_getElem (by omega);rw[hei]at hgi;cases hc:w.cells? 0 (ad.add (i*P.cellsOf e)) (P.cellsOf e)with
       | none=>grind
       | some cs'=>
        rw[hc]at hgi;obtain⟨h1,h2⟩:=u3 hc
        obtain⟨l,hl⟩:=ih n' e cs' _ a hgi ha (fun k hk=>hw k (by
         simp only[DataW.weights,hu,List.mem_cons,List.mem_append];right;left
         exact ja (List.mem_map.2 ⟨elems[i],List.getElem_mem _,rfl⟩) k hk))
        obtain⟨xi,hxi⟩:=mk_of tot (t:=ty) (by rw[hl.ty,hac])
        grind
      obtain⟨xs,hxl,hxs⟩:=mN len hE;have hsz:len≠0->P.cellsOf e=ty.sz U/\0 < P.cellsOf e:=by
       intro hne;obtain⟨xi,cs',h1,_,h3⟩:=hE 0 (by omega);have h4:=h3.rt.length;rw[Ty.row_length,h1]at h4;exact⟨h4.symm,by rw[<-h4];exact Ty.sz_pos⟩
      have hsp:len≠0->ad.spot=none:=by
       intro hne;obtain⟨xi,cs',h1,h2,h3⟩:=hE 0 (by omega);have h0:=h2 0 (hsz hne).2;rw[List.getElem?_eq_getElem (by rw[h1];exact(hsz hne).2)]at h0;have h5:=(ot h0).1
       simpa[Addr.add]using h5
      have hxm:∀x,x∈xs->∃i:Nat,xs[i]?=some x/\i < len:=by
       intro x hx;obtain⟨i,hi⟩:=List.mem_iff_getElem?.1 hx
       grind
      refine⟨_,gr (t:= .slice ty) (x:=xs) (.slice ty xs (by omega) (by rw[hxl];unfold Ty.bytes;rw[<-hac];exact hlen2) ?_) ?_⟩
      . intro x hx c hc;obtain⟨i,hi,_⟩:=hxm x hx;obtain⟨cs',_,_,h3⟩:=hxs i x hi;exact h3.wf c hc
      . have hlen2:(xs.map (ty.enc U)).length=len:=by simp[hxl]
        rw[<-hlen2];refine .slice (xs.map (ty.enc U)) (some ad) cap (P.cellsOf e) ad.block ad.off (fun i j=>(w.cell? ⟨ad.block,ad.off+i*P.cellsOf e+j,none⟩).getD default) (by omega) ?_ ?_ ?_ ?_ ?_
        . rw[hlen2];unfold reachBytes at hlen;unfold az;omega
        . intro r hr;obtain⟨x,hx,rfl⟩:=List.mem_map.1 hr;obtain⟨i,_,hi⟩:=hxm x hx;rw[Ty.enc_length];exact(hsz (by omega)).1.symm
        . intro hne;have hne':len≠0:=by intro h0;apply hne;rw[<-List.length_eq_zero_iff];omega
          have:=hsp hne';rw[show ad=⟨ad.block,ad.off,ad.spot⟩from rfl,this]
        . intro i j hi hj;rw[hlen2]at hi;obtain⟨xi,cs',h1,h2,h3⟩:=hE i hi;have h4:=h2 j hj;rw[List.getElem?_eq_getElem (by omega)]at h4;have hsn:=hsp (by omega);have e1:(ad.add (i*P.cellsOf e)).add j=⟨ad.block,ad.off+i*P.cellsOf e+j,none⟩:=pG hsn;rw[e1]at h4;exact⟨(ot h4).2,by rw[h4];rfl⟩
        . intro i j r t' hr ht';rw[List.getElem?_map,oZ1]at hr;obtain⟨x,hx,rfl⟩:=hr;obtain⟨cs',h1,h2,h3⟩:=hxs i x hx;have hi:i < len:=by have:=(List.getElem?_eq_some_iff.1 hx).1;omega
          rw[Ty.enc_row,List.getElem?_map,oZ1]at ht';obtain⟨c,hc,rfl⟩:=ht';obtain⟨v,hv,hrt⟩:=h3.rt.get hc;have hj:j < P.cellsOf e:=by have:=(List.getElem?_eq_some_iff.1 hv).1;omega
          have h4:=h2 j hj;have hsn:=hsp (by omega);have e1:(ad.add (i*P.cellsOf e)).add j=⟨ad.block,ad.off+i*P.cellsOf e+j,none⟩:=pG hsn;rw[e1,hv]at h4;rw[h4];exact hrt
  . rename_i fs hu;obtain⟨xs,m',hm,rfl,hl,hlen,hget⟩:=DataW.trod_struct hu h;cases hm
    have:=oq (U:=U) (w:=w) (P:=P) (cs:=cs) (fs:=fs.toList) (off:=0) (fun f hfm a ha=>by
     obtain⟨i,hi⟩:=List.mem_iff_getElem?.1 hfm;have hi':fs[i]?=some f:=by simpa using hi
     have hg:=hget i f hi';have hil:i < xs.length:=by rw[hlen];exact(Array.getElem?_eq_some_iff.1 hi').1
     rw[List.getElem?_eq_getElem hil]at hg
     exact ih n f.type _ _ a hg ha (fun k hk=>hw k (by
      simp only[DataW.weights,hu]
      exact DataW.weights_mem_each (j:=i) (t:=f.type) (d:=xs[i].1) (by simp[hi']) (by simp[hil]) k hk))) hf hl
    simpa using this
  . rename_i k e hu;split at hf
    . cases hf
    . rename_i a ha;split at hf
      . cases hf
      . rename_i hb;cases hf;simp only[Bool.and_eq_true]at hb;have h1:=aj hb.1;have h2:=aj hb.2;obtain⟨xs,m',hm,rfl,hl,hlen,hget⟩:=DataW.trod_array hu h;cases hm
        have:=pT (U:=U) (w:=w) (a:=a) (cs:=cs) k 0 (fun i hi=>by
         have hg:=hget i hi;rw[List.getElem?_eq_getElem (by omega)]at hg
         obtain⟨l,hl⟩:=ih n e _ _ a hg ha (fun q hq=>hw q (by
          simp only[DataW.weights,hu]
          exact ja (List.mem_map.2 ⟨xs[i],List.getElem_mem _,rfl⟩) q hq))
         rw[h2]at hl
         exact⟨l,by rw[Nat.zero_add];exact hl⟩) (by rw[hl,h1,Nat.zero_add])
        simpa using this
  . cases hf
end
end
section
open Go Go.ChangeShapes Go.WideShapes Go.RowKit
variable [GV]
variable {U:Uni}
def isAgg(P:Program)(t:TypeId):Bool:=
 match P.underlying t with
 | some (.struct _)=>true
 | some (.array _ _)=>true
 | _=>false
def parOk(P:Program)(U:Uni)(st:TypeId->Option Nat):List TypeId->List SV->List Ty->Bool
 | [],[],[]=>true
 | t::ts,.row m::svs,.nm m'::tys=>(Nat.beq m m' && (isAgg P t && gu P U st t (U.tys m))) && parOk P U st ts svs tys
 | t::ts,.c (.hole ty)::svs,ty'::tys=>(Ty.beq ty ty' && (!ty.isNm && (!isAgg P t && gu P U st t [ty]))) && parOk P U st ts svs tys
 | _,_,_=>false
section
variable {H:Type} {enc:TypeId×Value->H} {P:Program} {w:World} {φ:Phi}
theorem me{st:TypeId->Option Nat}:∀{tids:List TypeId} {svs:List SV} {tys:List Ty},parOk P U st tids svs tys=true->tids.length=tys.length
 | [],[],[],_=>rfl
 | [],[],_::_,h=>by cases h
 | [],_::_,_,h=>by cases h
 | _::_,[],_,h=>by cases h
 | _::_,sv::_,[],h=>by
  cases sv with
  | c x=>cases x <;> cases h
  | _=>cases h
 | t::ts,sv::svs,ty::tys,h=>by
  have:parOk P U st ts svs tys=true:=by
   cases sv with
   | row m=>cases ty with
    | nm m'=>grind[parOk]
    | _=>cases h
   | c x=>cases x with
    | hole ty=>grind[parOk]
    | _=>cases h
   | _=>cases h
  simp[me this]
theorem tZ{b0:Nat}{r:Reach}{t:TypeId}{v:Value}(hs:isAgg P t=true)(h:Value.okWide P w r b0 t v):∃cs,v= .agg cs:=by
 grind[isAgg,Value.okWide]
theorem ua{b0:Nat}{r:Reach}{t:TypeId}{v:Value}(hs:isAgg P t=false)(h:Value.okWide P w r b0 t v):v.cells=#[v]:=by
 unfold isAgg at hs;unfold Value.okWide at h;have h2:Cell.okWide P w r b0 t v:=by grind
 cases v with
 | agg cs=>
  simp_all[Cell.okWide,Cell.ok]
 | _=>rfl
theorem nH{w:World}{S:Stab}:∀{l:List (Cell U.D)} {vs:List Value},All2 (fun c v=>RT w S (Cell.enc U c) v) l vs->All2 (RC φ w S) ((l.map XC.t).map XC.conc) vs
 | [],[],.nil=>.nil
 | c::l,v::vs,.cons h1 h2=>.cons h1 (nH h2)
theorem ov (tot : U.Total) (φ : Phi) {st : TypeId -> Option Nat} (hst : StOk P U st) {b0 : Nat}: ∀ (ts : List TypeId) (svs : List SV) (tys : List Ty) (args : List Value) (ds : List (DataW H)) (ps : List MemPlace),
 parOk P U st ts svs tys=true->(∀(j:Nat) t v,ts[j]?=some t->args[j]?=some v->Value.okWide P w .any b0 t v)->
 DataW.TrodAll enc P w 0 (fun _=>true) true ts args ds ps->(∀k,k∈DataW.weightsEach P ts ds->k<=reachBytes)->
 ∃(l:Cs U) (xs:List (XV U)),l.map Cell.ty=tys/\(∀c,c∈l->∀d,d∈c.ty.row U c.val->WF U d)/\filVs svs l=(xs,[])/\(∀x,x∈xs->aO x=true)/\All2 (RV φ w (Old w)) (xs.map concV) args
 | [],[],[],args,ds,ps,_,_,ht,_=>by
  obtain⟨rfl,rfl,rfl⟩:=trodAll_nil ht;exact⟨[],[],rfl,by simp,rfl,by simp,.nil⟩
 | t::ts,sv::svs,ty::tys,args,ds,ps,hp,hv,ht,hw=>by
  obtain⟨v,vs,d,ds',p,q,rfl,rfl,rfl,⟨fuel,h1⟩,h2⟩:=trodAll_cons ht;have hv0:=hv 0 t v rfl rfl;have hw0:∀k,k∈d.weights P t->k<=reachBytes:=fun k hk=>hw k (by simp_all[DataW.weightsEach,List.mem_append])
  have rest:=fun hp'=>ov tot φ (st:=st) hst (b0:=b0) ts svs tys vs ds' q hp' (fun j t v hj hvj=>hv (j+1) t v (by grind) (by grind)) h2
   (fun k hk=>hw k (by simp_all[DataW.weightsEach,List.mem_append]))
  unfold parOk at hp;split at hp
  . grind
  . rename_i t0 ts0 m svs0 m' tys0 e1 e2 e3;cases e1;cases e2;cases e3;simp only[Bool.and_eq_true]at hp;obtain⟨⟨hm,hs,hf⟩,hp2⟩:=hp;have hm':=aj hm;obtain⟨l,xs,hl1,hl2,hl3,hl4,hl5⟩:=rest hp2;obtain⟨cs,rfl⟩:=tZ hs hv0;obtain⟨l0,hl0⟩:=ou tot hst fuel 60 t _ _ _ h1 (jK hf) hw0;obtain⟨x,hx⟩:=mk_of tot (t:= .nm m) hl0.ty
    refine⟨⟨.nm m,x⟩::l,.agg ((Ty.row U (.nm m) x).map .t)::xs,by grind,?_,?_,?_,?_⟩
    . intro c hc;rcases List.mem_cons.1 hc with rfl | hc
      . intro d hd;exact hl0.wf d (hx▸hd)
      grind
    . grind[filVs,filV]
    . simp_all[List.mem_cons,aO,XC.solid]
    . refine .cons ?_ hl5;have:=nH (φ:=φ) hl0.rt;rw[<-hx]at this;exact RV.agg (vs:=cs.toList) this
  . rename_i t0 ts0 ty0 svs0 ty' tys0 e1 e2 e3;cases e1;cases e2;cases e3;simp only[Bool.and_eq_true,Bool.not_eq_true']at hp;obtain⟨⟨hm,hn,hs,hf⟩,hp2⟩:=hp;have hm':=Ty.beq_eq hm;obtain⟨l,xs,hl1,hl2,hl3,hl4,hl5⟩:=rest hp2;rw[ua hs hv0]at h1;obtain⟨l0,hl0⟩:=ou tot hst fuel 60 t _ _ _ h1 (jK hf) hw0
    match l0,hl0 with
    | [],hl0=>cases hl0.ty
    | [⟨ty1,x⟩],hl0=>
     have ht1:ty1=ty0:=by have:=hl0.ty;grind
     subst ht1;refine⟨⟨ty1,x⟩::l,.c (.t ⟨ty1,x⟩)::xs,by grind,?_,?_,?_,?_⟩
     . intro c hc;rcases List.mem_cons.1 hc with rfl | hc
       . intro d hd;refine hl0.wf d ?_;cases ty1 <;> first | exact hd | cases hn
       grind
     . simp only[filVs,filV,filC,hl3]
     . intro y hy;rcases List.mem_cons.1 hy with rfl | hy
       . rfl
       grind
     . refine .cons ?_ hl5;cases hl0.rt with
       | cons h3 h4=>exact .c h3
    | _::_::_,hl0=>have:=hl0.ty;simp at this
  grind
 | [],[],_::_,_,_,_,hp,_,_,_=>by cases hp
 | [],_::_,_,_,_,_,hp,_,_,_=>by cases hp
 | _::_,[],_,_,_,_,hp,_,_,_=>by cases hp
 | t::ts,sv::svs,[],_,_,_,hp,_,_,_=>by
  cases sv with
  | row m=>cases hp
  | c x=>cases x <;> cases hp
  | agg l=>cases hp
  | tup l=>cases hp
theorem Hs.of_cells :∀(ts:List Ty) (l:Cs U),l.map Cell.ty=ts->∃h:Hs U.D ts,Hs.cells U.D ts h=l
 | [],[],_=>⟨(),rfl⟩
 | [t],[⟨t',x⟩],h=>by
  have:t'=t:=by grind
  subst this;exact⟨x,rfl⟩
 | t::u::r,⟨t',x⟩::l,h=>by
  simp at h;obtain⟨h1,h2⟩:=h;subst h1;obtain⟨y,hy⟩:=Hs.of_cells (u::r) l (by grind);exact⟨(x,y),by show⟨t',x⟩::Hs.cells _ _ y=_;grind⟩
 | [],_::_,h=>by grind
 | _::_,[],h=>by grind
 | [_],_::_::_,h=>by grind
theorem HsC.dec_of{D:Nat->Type}:∀{ts:List Ty} {t:Ty} (h:HsC D t ts),HsC.dec D t ts (HsC.cells D t ts h)=some h
 | [],t,x=>Cell.as_mk
 | u::r,t,x=>by
  unfold HsC.dec HsC.cells;simp[hd1,Cell.as_mk];rw[HsC.dec_of];rfl
theorem Hs.dec_of{D:Nat->Type}:∀{ts:List Ty} (h:Hs D ts),Hs.dec D ts (Hs.cells D ts h)=some h
 | [],_=>rfl
 | _::_,h=>HsC.dec_of h
theorem Hs.dec_ty{D:Nat->Type}:∀{ts:List Ty} {l:List (Cell D)},l.map Cell.ty=ts->∃h,Hs.dec D ts l=some h:=by
 have go:∀(ts:List Ty) (l:List _),l.map Cell.ty=ts->∃h:Hs D ts,Hs.cells D ts h=l:=by
  intro ts
  induction ts with
  | nil=>intro l h;cases l with
   | nil=>exact⟨(),rfl⟩
   | cons=>grind
  | cons t r ih=>
   intro l h;cases l with
   | nil=>grind
   | cons c l=>
    obtain⟨t',x⟩:=c;simp at h;obtain⟨h1,h2⟩:=h;subst h1;obtain⟨y,hy⟩:=ih l h2;cases r with
    | nil=>
     cases l with
     | nil=>exact⟨x,rfl⟩
     | cons=>grind
    | cons u r=>exact⟨(x,y),by show⟨t',x⟩::Hs.cells D _ y=_;grind⟩
 intro ts l h;obtain⟨y,hy⟩:=go ts l h;exact⟨y,hy▸Hs.dec_of y⟩
def Ok(U:Uni)(ts:List Ty)(h:Hs U.D ts):Prop:=∀c,c∈Hs.cells U.D ts h->∀d,d∈c.ty.row U c.val->WF U d
theorem xx{N:Nat}:SR N ([]:XSt U) []:=fun b x h=>by cases h
theorem pH{N:Nat}{J:XSt U}:∀{xs:List (XV U)},(∀x,x∈xs->aO x=true)->All2 (VR N J) xs (xs.map concV)
 | [],_=>.nil
 | x::xs,h=>.cons (eO (h x (by simp))).1 (pH fun y hy=>h y (by grind))
theorem oU{k:Nat->Bool}:∀{xs:List (XV U)},(∀x,x∈xs->aO x=true)->V.bnd.V.bnds k (xs.map concV)=true
 | [],_=>rfl
 | x::xs,h=>by
  simp[V.bnd.V.bnds];exact⟨(eO (N:=0) (J:=[]) (h x (by simp))).2 k,oU fun y hy=>h y (by grind)⟩
theorem law_calls {f : Nat} {sa : List SV} {ts : List Ty} {F : Hs U.D ts -> Option (Hs U.D [.bool])} (tot : U.Total) (hs : FSnd P ⟨f, sa, [], ts, .c (.hole .bool), [], [.bool], F⟩)
 (law:∀h:Hs U.D ts,Ok U ts h->F h=some true) {st:TypeId->Option Nat} (hst:StOk P U st) {tids:List TypeId} (hp:parOk P U st tids sa ts=true)
 {b0:Nat} {args:Array Value} {ds:List (DataW H)} {ps:List MemPlace} (hv:∀(j:Nat) t v,tids[j]?=some t->args[j]?=some v->Value.okWide P w .any b0 t v)
 (ht:DataW.TrodAll enc P w 0 (fun _=>true) true tids args.toList ds ps) (hw:∀k,k∈DataW.weightsEach P tids ds->k<=reachBytes) (hG:GS w fun _=>False):
 Calls P f args w fun e w'=>e= .returned (.bool true)/\Below w.heap.size w w':=by
 obtain⟨l,xs,hl1,hl2,hl3,hl4,hl5⟩:=ov tot _ hst _ sa ts _ ds ps hp (fun j t v hj hvj=>hv j t v hj (by grind)) ht hw;obtain⟨h,hh⟩:=Hs.of_cells ts l hl1;have hF:=law h (fun c hc d hd=>hl2 c (hh▸hc) d hd)
 have hcon:=hs h _ hF (xs.map concV) [] (by
  show All2 _ (filVs sa _).1 _
  grind[pH]) (by
  exact xx)
 have:=hcon (fun b=>(b,0)) _ w (fun _=>False) {blk:=fun b x hx=>(by cases hx),inj:=fun b b' x y hx=>(by simp),st:=fun b j hb=>hb} (fun b x hx=>by cases hx) (fun b x hx=>by simp) hG
  (oU hl4) _ hl5
 refine this.mono fun e w' ⟨v,r,φ',S',J',N',he,⟨_,hr,_⟩,hrv,_,_,_,hext,_⟩=>?_
 cases hr with
 | c hc=>
  cases hc with
  | t c=>
   cases hrv with
   | c hrc=>
    cases hrc;exact⟨he,hext.os,hext.tape,hext.output,hext.size,fun k hk=>hext.block k hk (fun h=>h)⟩
theorem ub {f : Func} {s : ChangeSpec} {fresh fW again : Bool} {W W' : World} {args : Array Value} {v : Value} {ds gs : List (DataW H)} {before : List MemPlace}
 (hW:DataW.Whole enc P f.params.toList s.vars false W args.toList ds gs before) (hb:Below W.heap.size W W')
 (hres:∀(b:Nat) (sp:Nat->Bool) (hd:Bool),DataW.TrodAll enc P W' b sp hd f.resultTypes.toList (v.resultList f.resultTypes.size) (s.fn H (ds++gs)).results [])
 (hargs:∀sp:Nat->Bool,(∀p∈before,sp p.block=true)->DataW.TrodAll enc P W' 0 sp true f.params.toList args.toList (s.fn H (ds++gs)).args before)
 (hvars:∀sp:Nat->Bool,(∀p∈before,sp p.block=true)->DataW.TrodVars enc P W' sp s.vars (s.fn H (ds++gs)).vars [])
 (hok:∀(j:Nat) (t:TypeId) (r:Value),f.resultTypes[j]?=some t->(v.resultList f.resultTypes.size)[j]?=some r->Value.okWide P W' .any 0 t r):
 s.post enc P f false fresh fW again W args v W':=by
 have hlt:=hW.lt;have hold:∀p∈before,(fun b=>decide (b < W.heap.size)) p.block=true:=fun p hp=>by grind
 refine⟨ds,gs,before,[],before,[],hW,hres _ _ _,hargs _ hold,hvars _ hold,hb.frame _,fun _=>?_⟩;refine⟨hok,(s.fn H (ds++gs)).results++(s.fn H (ds++gs)).args,(s.fn H _).vars,before,⟨before,[],?_,hvars _ (fun _ _=>rfl),by simp,?_,fun h=>by grind⟩,fun p hp _=>hp⟩
 . have:=trodAll_append (hargs _ (fun _ _=>rfl)) (hres 0 (fun _=>true) _)
   grind
 . intro b off hp;obtain⟨_,_,_,_,_,hz,_⟩:=hW;rw[World.frozen?_of_block (hb.block b (hlt _ hp))];exact hz b _ hp
theorem law_contract {f : Nat} {fn : Func} {s : ChangeSpec} {sa : List SV} {ts : List Ty} {F : Hs U.D ts -> Option (Hs U.D [.bool])} (tot : U.Total)
 (hs:FSnd P ⟨f,sa,[],ts,.c (.hole .bool),[],[.bool],F⟩)
 (law:∀h:Hs U.D ts,Ok U ts h->F h=some true) {st:TypeId->Option Nat} (hst:StOk P U st) (hp:parOk P U st fn.params.toList sa ts=true)
 {tb:TypeId} (hres:fn.resultTypes=#[tb]) (htb:P.underlying tb=some .bool) (hvars:s.vars=[])
 (hfn:∀ds:List (DataW H),ds.length=ts.length->(s.fn H ds).results=[.lit (.bool true)]/\(s.fn H ds).args=ds/\(s.fn H ds).vars=[])
 (hlay:(laidOutB P && mapsRowed P)=true) (hpar:fn.params.toList.all (fun t=>decide (t < P.types.size))=true)
 (hsl:((List.range P.types.size).all fun t=>match P.underlying t with | some (.slice e)=>decide (0 < P.cellsOf e) | _=>true)=true)
 {W:World} {base:Nat} {args:Array Value} {ds gs:List (DataW H)} {before:List MemPlace} {fresh fW again:Bool}
 (hval:∀(j:Nat) t v,fn.params[j]?=some t->args[j]?=some v->Value.okWide P W .any base t v)
 (hW:DataW.Whole enc P fn.params.toList s.vars false W args.toList ds gs before)
 (hk:(DataW.weightsEach P (fn.params.toList++s.plain.varTypes P) (ds++gs)).all (· <=reachBytes)=true) (hG:GS W (fun _=>False):=by intro x hx;cases hx):
 Calls P f args W fun e W'=>∃v,e= .returned v/\s.post enc P fn false fresh fW again W args v W':=by
 have hW':=hW;obtain⟨p,q,hA,hV,rfl,hfz,hnd⟩:=hW;rw[hvars]at hV;obtain⟨rfl,rfl⟩:=trodVars_none hV;have hvt:s.plain.varTypes P=[]:=by show s.vars.filterMap _=[] <;> simp[hvars]
 rw[hvt,List.append_nil,List.append_nil,List.all_eq_true]at hk;have hlen:ds.length=ts.length:=by
  have h1:∀{tids:List TypeId} {vs:List Value} {ds:List (DataW H)} {ps:List MemPlace},DataW.TrodAll enc P W 0 (fun _=>true) true tids vs ds ps->ds.length=tids.length:=by
   intro tids
   induction tids with
   | nil=>grind[trodAll_nil]
   | cons t r ih=>grind[trodAll_cons]
  grind[me]
 obtain⟨hr1,hr2,hr3⟩:=hfn ds hlen;simp only[Bool.and_eq_true]at hlay;have K:=kids_rows hlay.1 hlay.2;have hsz:=slices_full_of P hsl;refine(law_calls tot hs law hst hp (fun j t v hj hvj=>hval j t v (by grind) hvj) hA (fun k hk'=>by grind) hG).mono fun e W' ⟨he,hb⟩=>?_
 subst he;refine⟨_,rfl,ub hW' hb ?_ ?_ ?_ ?_⟩
 . intro b sp hd;rw[List.append_nil,hr1,hres];exact trodAll_cons_mk (shut_bool htb _) trodAll_mk0
 . intro sp hsp;rw[List.append_nil,hr2];have hlt:=hW'.lt;have hT:=fun t ht=>by simpa using List.all_eq_true.1 hpar t ht
   have go : ∀ {tids : List TypeId} {vs : List Value} {ds : List (DataW H)} {ps : List MemPlace}, (∀ t, t ∈ tids -> t < P.types.size) -> (∀ p ∈ ps, p.block < W.heap.size /\ sp p.block = true) ->
    DataW.TrodAll enc P W 0 (fun _=>true) true tids vs ds ps->DataW.TrodAll enc P W' 0 sp true tids vs ds ps:=by
    intro tids
    induction tids with
    | nil=>intro vs ds ps _ _ h;obtain⟨rfl,rfl,rfl⟩:=trodAll_nil h;exact trodAll_mk0
    | cons t r ih=>
     intro vs ds ps hT hps h;obtain⟨v,vs',d,ds',a,b,rfl,rfl,rfl,⟨fu,h1⟩,h2⟩:=trodAll_cons h;refine⟨a,b,⟨fu,DataW.trod_stays K (fun {t e}=>hsz t e) (by intro hh;cases hh) (hT t (by simp)) h1 (fun x hx=>hb.same (hps x (by simp[hx])).1) (fun x hx=>(hps x (by simp[hx])).2)⟩,ih (fun t ht=>hT t (by simp[ht])) (fun x hx=>hps x (by simp[hx])) h2,rfl⟩
   rw[List.append_nil];exact go hT (fun x hx=>⟨hlt x (by simp[hx]),hsp x (by simp[hx])⟩) hA
 . intro sp hsp;rw[List.append_nil,hr3,hvars];rfl
 . exact ok_one hres rfl (okWide_bool_mk htb _)
end
end
section
open Go
variable [GV]
theorem iB{a b:Int}(h1: -9223372036854775808<=a+b)(h2:a+b<=9223372036854775807):addI .i64 a b=a+b:=by grind[addI,IntKind.wrap_i64]
theorem aT{k n:Nat}(h:k < n):inR (k:Int) n=true:=by grind[inR]
end
section
open Go
variable [GV]
theorem pU{a b:Int}(h1: -9223372036854775808<=a*b)(h2:a*b<=9223372036854775807):mulI .i64 a b=a*b:=by grind[mulI,IntKind.wrap_i64]
theorem bj{a b:Nat}(h:a+b<=9223372036854775807):addI .i64 (a:Int) (b:Int)=((a+b:Nat):Int):=by grind[iB]
theorem bl{a:Nat}(h:a < 9223372036854775807):addI .i64 (a:Int) 1=((a+1:Nat):Int):=by grind[iB]
theorem bt(s:List UInt8)(i:Nat):aL s (i:Int)=((s.getD i 0).toNat:Int):=by rfl
theorem ow(s:List UInt8)(i:Nat):(s.getD i 0).toNat < 256:=UInt8.toNat_lt _
theorem bG{α:Type}(l:List α)(k:Nat):cutL l (k:Int) (l.length:Int)=l.drop k:=by simp[cutL]
theorem ck{α:Type}(l:List α)(k:Nat):cutL l 0 (k:Int)=l.take k:=by rfl
theorem aQ{a b n:Nat}(h1:a<=b)(h2:b<=n):slR (a:Int) (b:Int) n=true:=by grind[slR]
theorem vH(a b:Nat):minI (a:Int) (b:Int)=((min a b:Nat):Int):=by grind[minI]
theorem e7{k n:Nat}(hk:k<=1000)(h:n<=100000):room k n=true:=by
 unfold room bh az;simp;have:(2*n+192)*k<=200192*1000:=Nat.mul_le_mul (by omega) hk;omega
end
section
open Go Go.Proofs Go.Proofs.YtkbmjabicjpmjaaGreatDoor Go.Sort Go.RowKit
variable [GV]
variable {P:Program} {α:Type} [Inhabited α]
theorem qB(w:World)(blk:Nat)(f:Array Value->Array Value){b:Nat}(h:b≠blk):(mapBlock w blk f).heap[b]?=w.heap[b]?:=by simp[mapBlock,Array.getElem?_modify,Ne.symm h]
theorem qP(w:World)(blk:Nat)(f:Array Value->Array Value){c:Array Value}{E:TypeId}{fr:Nat×Nat}(h:w.heap[blk]?=some (.cells c E fr)):(mapBlock w blk f).heap[blk]?=some (.cells (f c) E fr):=by
 simp[mapBlock,Array.getElem?_modify,h,onCells]
theorem vI {f g k kk : Nat} (enc : α -> List Value) (et : α -> List T) (F : Array α -> Array α) (hk : ∀ x, (enc x).length = k) (hk2 : ∀ x, (et x).length = k) (hk0 : 0 < k)
 (hR:∀(w:World) (S:Stab) (x:α) (j:Nat) (t:T) (v:Value),(et x)[j]?=some t->RT w S t v->(enc x)[j]?=some v)
 (hF:∀d:Array α,(F d).size=d.size/\∀x,x∈(F d).toList->x∈d.toList)
 (hcon:∀(blk off cap:Nat) (d:Array α) (w:World),HoldsK enc k w blk off d->blk < w.heap.size->d.size < 4611686018427387904->
  Calls P f #[.slice (some ⟨blk,off,none⟩) d.size cap,.func (.func g) #[] #[]] w fun e w'=>e= .returned (.tuple #[])/\∃n os,w'=sortWorldK enc k w blk off n (F d) os)
 (hnone:∀(p:Option Addr) (cap:Nat) (fv:Value) (w:World),Calls P f #[.slice p 0 cap,fv] w fun e w'=>e= .returned (.tuple #[])/\w'=w)
 {J:Store} {d:List α} (h0:sget J 0=some (.arr k (d.map et))) (hkk:0 < kk):
 Con P f [.c (.arr 0 k 0 d.length),.c (.fn g [])] J kk (fun r J' N'=>r= .tup []/\J'=sput J 0 (.arr k ((F d.toArray).toList.map et))/\N'=kk):=by
 intro φ S w B hsim hsb hown hG hab vs hvs;cases hvs with | cons hv hvs=>
 cases hvs with | cons hv2 hvs=>
 cases hvs;cases hv with | c hv=>
 cases hv2 with | c hv2=>
 obtain⟨a,rfl,ha,hle⟩:=hv;have hv2':_=Value.func (.func g) #[] #[]:=hv2;subst hv2';obtain⟨hl,hmax,hlen,_,hblk⟩:=hsim.blk 0 _ h0;rw[List.length_map]at hl hmax;obtain⟨hsz,hmem⟩:=hF d.toArray
 have fin : ∀ w' : World, Ext B S S w w' -> Sim φ w' S (sput J 0 (.arr k ((F d.toArray).toList.map et))) -> ∃ v r φ' S' J' N', Ending.returned (Value.tuple #[]) = Ending.returned v /\ (r = V.tup [] /\ J' = sput J 0 (.arr k ((F d.toArray).toList.map et)) /\ N' = kk) /\ RV φ' w' S' r v /\ r.bnd (lt N') = true /\ Sim φ' w' S' J' /\ (∀ (b : Nat) x, sget J' b = some x -> b < N' /\ x.bnd (lt N') = true) /\ Ext B S S' w w' /\
  (∀(b:Nat) x,sget J' b=some x->(φ' b).2≠0->B (φ' b).1\/w.heap.size<=(φ' b).1)/\∀b,b < kk->φ' b=φ b:=by
  intro w' hE hS;refine⟨_,.tup [],φ,S,_,kk,rfl,⟨rfl,rfl,rfl⟩,.tup [] [] rfl (by simp),rfl,hS,fun b x hx=>?_,hE,fun b x hx hb=>?_,fun _ _=>rfl⟩
  . rw[ag]at hx;split at hx
    . rename_i hb;cases hx;subst hb;exact⟨hkk,rfl⟩
    grind
  grind[ag]
 by_cases hz:(φ 0).2=0
 ·
  have hd:d=[]:=List.eq_nil_of_length_eq_zero (by omega);subst hd;refine(hnone a _ _ w).mono ?_
  rintro e w' ⟨rfl,rfl⟩
  have he:(F ([]:List α).toArray).toList.map et=([]:List α).map et:=by grind
  refine fin _ Ext.refl ?_;rw[he];refine⟨fun b x hx=>?_,fun b b' x y hx hy=>?_,hsim.st⟩
  . rw[ag]at hx;split at hx
    . rename_i hb;cases hx;subst hb;exact hsim.blk _ _ h0
    . exact hsim.blk b x hx
  . have key:∀b x,sget (sput J 0 (.arr k (([]:List α).map et))) b=some x->∃x',sget J b=some x':=by
     intro b x hx;rw[ag]at hx
     grind
    obtain⟨x',hx'⟩:=key b x hx;obtain⟨y',hy'⟩:=key b' y hy;exact hsim.inj b b' x' y' hx' hy'
 . obtain⟨vs,E,hh,hvl,hc,hns⟩:=hblk hz;rw[ha hz]
   have hrow:∀(i j:Nat) (t:T) (x:α),d[i]?=some x->(et x)[j]?=some t->∃v,vs[i*k+j]?=some v/\RT w S t v/\(enc x)[j]?=some v:=by
    intro i j t x hi hj;obtain⟨v,hv,hr⟩:=hc i j (et x) t (by rw[List.getElem?_map,hi];rfl) hj
    grind
   have hbs:(φ 0).1 < w.heap.size:=by grind
   have hHolds:HoldsK enc k w (φ 0).1 (0*k) d.toArray:=by
    intro j hj;rw[size_flatK]at hj;have hj':j < d.length*k:=by simpa using hj
    have hi:j / k < d.length:=(Nat.div_lt_iff_lt_mul hk0).2 hj';have hm:j % k < k:=Nat.mod_lt _ hk0;have hx:d[j / k]?=some d[j / k]:=List.getElem?_eq_getElem hi;have hm2:j % k < (et d[j / k]).length:=by rw[hk2];exact hm
    obtain⟨v,hv,_,he⟩:=hrow (j / k) (j % k) _ _ hx (List.getElem?_eq_getElem hm2);have hjj:j / k*k+j % k=j:=by rw[Nat.mul_comm];exact Nat.div_add_mod j k
    rw[hjj]at hv;refine⟨?_,by simp[World.frozen?,hh]⟩;rw[Nat.zero_mul,Nat.zero_add,bc hh,hv,get_flatK _ _ _ _ hj]
    grind
   have hlim:d.toArray.size < 4611686018427387904:=by
    have:az=281474976710656:=rfl;simp;omega
   refine(hcon (φ 0).1 (0*k) _ d.toArray w hHolds hbs hlim).mono ?_
   rintro e w' ⟨rfl,n,os,rfl⟩
   have hold:∀b:Nat,b < w.heap.size->b≠(φ 0).1->(sortWorldK enc k w (φ 0).1 (0*k) n (F d.toArray) os).heap[b]?=w.heap[b]?:=by
    intro b hb hne;unfold sortWorldK putRowK putRow;rw[heap_grow_old _ _ (by simpa[mapBlock,Go.Sort.ahead]using hb),qB _ _ _ hne];rfl
   have hnew:(sortWorldK enc k w (φ 0).1 (0*k) n (F d.toArray) os).heap[(φ 0).1]?=some (.cells (putCells id (0*k) (flatK enc k (F d.toArray)) vs.toArray).toList.toArray E (0,0)):=by
    unfold sortWorldK putRowK putRow;rw[heap_grow_old _ _ (by simpa[mapBlock,Go.Sort.ahead]using hbs),qP (Go.Sort.ahead w n) _ _ (by exact hh)]
   have hm:Mono w S _ S:=⟨fun _ _ h=>h,fun b j h=>cd (hold b (hsim.st b j h) (fun e=>hns j (e▸h))) j⟩
   refine fin _ ⟨rfl,rfl,rfl,?_,fun b hb hB=>hold b hb (fun e=>hB (e▸hown 0 _ h0 hz)),hm,fun _ _ h=>.inl h⟩ ⟨fun b x hx=>?_,fun b b' x y hx hy=>?_,fun b j h=>?_⟩
   . unfold sortWorldK putRowK putRow;simp[grow,mapBlock,Go.Sort.ahead]
   . rw[ag]at hx;split at hx
     . rename_i hb;cases hx;subst hb;refine⟨by simpa[hsz]using hl,by simpa[hsz]using hmax,fun e he=>?_,hk0,fun _=>⟨_,E,hnew,by simpa[putCells]using hvl,fun i j e t hi hj=>?_,hns⟩⟩
       . obtain⟨x,_,rfl⟩:=List.mem_map.1 he;exact hk2 x
       . rw[List.getElem?_map]at hi;cases hxi:(F d.toArray).toList[i]? with
         | none=>rw[hxi]at hi;cases hi
         | some x=>
          rw[hxi]at hi;have:e=et x:=(Option.some.inj hi).symm;subst this;have hx:x∈d:=by simpa using hmem x (List.mem_of_getElem? hxi)
          obtain⟨i0,hi0,hd0⟩:=List.getElem_of_mem hx;obtain⟨v,hv,hr,he⟩:=hrow i0 j t x (by rw[List.getElem?_eq_getElem hi0,hd0]) hj;refine⟨v,?_,RT.mono hm hr⟩;have hjk:j < k:=by rw[<-hk2 x];exact(List.getElem?_eq_some_iff.1 hj).1
          have hik:i < (F d.toArray).size:=by grind
          have hlt:i*k+j < (F d.toArray).size*k:=by
           have:=Nat.mul_le_mul_right k (show i+1<=(F d.toArray).size from hik)
           grind
          have hlv:i*k+j < vs.length:=by
           rw[hvl];refine Nat.lt_of_lt_of_le hlt (Nat.mul_le_mul_right k ?_)
           grind
          have d1:(i*k+j) / k=i:=(blk_iff k i _ hk0).1 ⟨by omega,by omega⟩;have d2:(i*k+j) % k=j:=by rw[Nat.mod_eq_sub_div_mul,d1];omega
          have e1:(F d.toArray)[i]! =x:=by grind
          have:(putCells id (0*k) (flatK enc k (F d.toArray)) vs.toArray).toList[i*k+j]?=some ((flatK enc k (F d.toArray))[i*k+j]!):=by
           rw[Array.getElem?_toList];simp only[putCells,Array.getElem?_mapIdx];rw[show vs.toArray[i*k+j]?=some vs[i*k+j] by simp[hlv]];simp[size_flatK,hlt]
          rw[this,get_flatK _ _ _ _ hlt,d1,d2,e1,List.getElem!_eq_getElem?_getD,he];rfl
     . rename_i hb;have hb0:b≠0:=fun e=>hb (by simp[e])
       refine RB.mono (n:=fun _=>true) hm (fun _ _=>rfl) rfl (by cases x <;> simp[Blk.bnd,C.bnd_true]) (fun hbz=>hold _ ((hsim.blk b x hx).real_lt hbz) (hsim.inj b 0 x _ hx h0 hb0 hbz hz)) (hsim.blk b x hx)
   . have key:∀b x,sget (sput J 0 (.arr k ((F d.toArray).toList.map et))) b=some x->∃x',sget J b=some x':=by
      intro b x hx;rw[ag]at hx
      grind
     obtain⟨x',hx'⟩:=key b x hx;obtain⟨y',hy'⟩:=key b' y hy;exact hsim.inj b b' x' y' hx' hy'
   . have:=hsim.st b j h;unfold sortWorldK putRowK putRow;simp[grow,mapBlock,Go.Sort.ahead];omega
def pdqBy(lt:α->α->Bool)(l:List α):List α:=(pdq lt l.toArray 0 l.length (Lib.bitLen l.length) true true).toList
theorem jZ{lt:α->α->Bool}(hO:SWO lt)(l:List α):(pdqBy lt l).Perm l:=by
 obtain⟨⟨hs,_,hp⟩,_⟩:=pdq_sorts lt hO l.toArray 0 l.length (Lib.bitLen l.length) true true (Nat.zero_le _) (by simp) (Or.inl rfl)
 grind[Array.extract_size,pdqBy]
theorem su{lt:α->α->Bool}(hO:SWO lt)(l:List α):(pdqBy lt l).length=l.length:=(jZ hO l).length_eq
theorem sw{lt:α->α->Bool}(hO:SWO lt)(l:List α):(pdqBy lt l).Pairwise fun x y=>lt y x=false:=by
 obtain⟨⟨hs,_,_⟩,hS⟩:=pdq_sorts lt hO l.toArray 0 l.length (Lib.bitLen l.length) true true (Nat.zero_le _) (by simp) (Or.inl rfl);have hsz:=su hO l;rw[List.pairwise_iff_getElem];intro i j hi hj hij;have:=hS i j (Nat.zero_le _) hij (by grind)
 grind[pdqBy]
def sortS(U:Uni)(f n g:Nat)(F:List (U.D n)->List (U.D n)):FSpec U:=
 ⟨f,[.c (.arr 0),.c (.fn g [])],[.arr (.nm n)],[.slice (.nm n)],.tup [],[.arr (.nm n)],[.slice (.nm n)],fun(l:List (U.D n))=>some (F l)⟩
theorem vK {U : Uni} {f n g : Nat} [Inhabited (U.D n)] (enc : U.D n -> List Value) (lt : U.D n -> U.D n -> Bool) (hO : SWO lt) (hk : ∀ x, (enc x).length = (Ty.nm n).sz U)
 (hR:∀(w:World) (S:Stab) (x:U.D n) (j:Nat) (t:T) (v:Value),((Ty.nm n).enc U x)[j]?=some t->RT w S t v->(enc x)[j]?=some v)
 (hcon:∀(blk off cap:Nat) (d:Array (U.D n)) (w:World),HoldsK enc ((Ty.nm n).sz U) w blk off d->blk < w.heap.size->d.size < 4611686018427387904->
  Calls P f #[.slice (some ⟨blk,off,none⟩) d.size cap,.func (.func g) #[] #[]] w fun e w'=>e= .returned (.tuple #[])/\∃n_1 os,w'=sortWorldK enc ((Ty.nm n).sz U) w blk off n_1 (pdq lt d 0 d.size (Lib.bitLen d.size) true true) os)
 (hnone:∀(p:Option Addr) (cap:Nat) (fv:Value) (w:World),Calls P f #[.slice p 0 cap,fv] w fun e w'=>e= .returned (.tuple #[])/\w'=w):
 FSnd P (sortS U f n g (pdqBy lt)):=by
 intro l r hF args1 J1 ha hS;have hr:=(Option.some.inj hF).symm;subst hr;cases ha with | cons ha ha2=>
 cases ha2 with | cons ha2 ha3=>
 cases ha3;obtain⟨sz,m,rfl,_,hdim⟩:=VR.arr_inv ha;have:=VR.fn_inv ha2;subst this;have l0:Shv.lk ((sortS U f n g _).ast l) 0=some _:=rfl;have hd:=hdim _ l0 _ rfl;obtain⟨_,y0,g0,b0⟩:=hS 0 _ l0;cases b0;have e1:=(congrArg Prod.fst hd).symm;have e2:=(congrArg Prod.snd hd).symm;subst e1;subst e2
 have hperm:∀d:Array _,(pdqBy lt d.toList).Perm d.toList:=fun d=>jZ hO d.toList
 refine(vI enc _ (fun d=>(pdqBy lt d.toList).toArray) hk (fun x=>Ty.enc_length) Ty.sz_pos hR
  (fun d=>⟨by simpa using(hperm d).length_eq,fun x hx=>(hperm d).mem_iff.1 (by grind)⟩) (fun blk off cap d w h1 h2 h3=>?_) hnone g0 Nat.one_pos).mono ?_
 . have:=hcon blk off cap d w h1 h2 h3
   simpa[pdqBy]using this
 . rintro r1 s1 N1 ⟨rfl,rfl,rfl⟩
   refine⟨rfl,.tup [] [] rfl (by simp),fun b x hx=>?_⟩;generalize pdqBy lt l=q at hx ⊢;have hx':(if b=0 then some (XB.arr (.nm n) q)else none)=some x:=by
    rw[<-hx];cases b <;> rfl
   split at hx'
   . rename_i hb;cases hx';subst hb;refine⟨Nat.one_pos,_,?_,.arr (.nm n) q⟩;rw[ag];rfl
   . cases hx'
theorem uc(w:World)(S:Stab)(i:Int)(s:List UInt8)(j:Nat)(t:T)(v:Value)(h:[T.int .i64 i,T.str s][j]?=some t)(hr:RT w S t v):[Value.int .i64 i,Value.string ⟨s.toArray⟩][j]?=some v:=by
 match j,h with
 | 0,h=>cases h;cases hr;rfl
 | 1,h=>cases h;cases hr;rfl
theorem wC(key:α->Int):SWO (fun x y=>decide (key x < key y)) where
 irrefl x:=by simp
 trans x y z h1 h2:=by grind
 ntrans x y z h1 h2:=by grind
end
section
open Go Go.Proofs Go.Proofs.YtkbmjabicjpmjaaGreatDoor Go.Sort
variable [GV]
def Le{α:Type}(a b:Option α):Prop:=∀r,a=some r->b=some r
theorem Le.r{α:Type}{a:Option α}:Le a a:=fun _ h=>h
theorem Le.n{α:Type}{a:Option α}:Le none a:=fun _ h=>by grind
theorem Le.b{α β:Type}{a b:Option α}{k k':α->Option β}(h:Le a b)(hk:∀x,Le (k x) (k' x)):Le (a >>=k) (b >>=k'):=by
 intro r hr;cases a with
 | none=>grind
 | some x=>rw[h x rfl];exact hk x r hr
theorem Le.i{α:Type}{p:Prop}[Decidable p]{a b c d:Option α}(h:Le a c)(k:Le b d):Le (if p then a else b) (if p then c else d):=by grind
variable {α:Type} [Inhabited α]
def insB(lt:α->α->Bool)(x:α):List α->List α
 | []=>[x]
 | y::r=>if lt x y then x::y::r else y::insB lt x r
def isoB(lt:α->α->Bool):List α->List α
 | []=>[]
 | x::r=>insB lt x (isoB lt r)
def e9(lt:α->α->Bool):List α->Bool
 | []=>true
 | x::r=>r.all (fun y=>lt x y || lt y x) && e9 lt r
theorem ka(lt:α->α->Bool)(x:α):∀l,(insB lt x l).Perm (x::l)
 | []=>.refl _
 | y::r=>by
  simp[insB];split
  . rfl
  . exact((ka lt x r).cons y).trans (.swap x y r)
theorem ox(lt:α->α->Bool):∀l,(isoB lt l).Perm l
 | []=>.refl _
 | x::r=>(ka lt x _).trans ((ox lt r).cons x)
theorem mO{lt:α->α->Bool}(hO:SWO lt)(x:α):∀{l:List α},l.Pairwise (fun x y=>lt y x=false)->(insB lt x l).Pairwise fun x y=>lt y x=false
 | [],_=>by simp[insB]
 | y::r,h=>by
  rw[List.pairwise_cons]at h;simp[insB];split
  . rename_i hxy;have hyx:lt y x=false:=by
     cases hc:lt y x with
     | false=>rfl
     | true=>have:=hO.trans _ _ _ hxy hc;rw[hO.irrefl]at this;grind
    rw[List.pairwise_cons];refine⟨fun z hz=>?_,List.pairwise_cons.2 h⟩;rcases List.mem_cons.1 hz with rfl | hz
    . grind
    . exact hO.ntrans _ _ _ (h.1 z hz) hyx
  . rw[List.pairwise_cons];refine⟨fun z hz=>?_,mO hO x h.2⟩;rcases List.mem_cons.1 ((ka lt x r).mem_iff.1 hz)with rfl | hz
    . grind
    grind
theorem mP{lt:α->α->Bool}(hO:SWO lt):∀l:List α,(isoB lt l).Pairwise fun x y=>lt y x=false
 | []=>.nil
 | x::r=>mO hO x (mP hO r)
theorem nI{lt:α->α->Bool}:∀{l:List α},e9 lt l=true->∀a b,a∈l->b∈l->a=b\/lt a b=true\/lt b a=true
 | x::r,h,a,b,ha,hb=>by
  simp[e9]at h;rcases List.mem_cons.1 ha with ea | ha' <;> rcases List.mem_cons.1 hb with eb | hb'
  . grind
  . grind
  . grind
  . exact nI h.2 a b ha' hb'
theorem sX{lt:α->α->Bool}{l:List α}(hp:e9 lt l=true):∀{a b:List α},a.Perm l->b.Perm l->a.Pairwise (fun x y=>lt y x=false)->b.Pairwise (fun x y=>lt y x=false)->a=b:=by
 intro a b ha hb h1 h2;refine List.Perm.eq_of_pairwise (fun x y hx hy h3 h4=>?_) h1 h2 (ha.trans hb.symm)
 grind[nI]
theorem wD{lt:α->α->Bool}(hO:SWO lt){l:List α}(hp:e9 lt l=true):pdqBy lt l=isoB lt l:=
 sX hp (jZ hO l) (ox lt l) (sw hO l) (mP hO l)
def sortK(lt:α->α->Bool)(l:List α):Option (List α):=if e9 lt l=true then some (isoB lt l)else none
theorem vL{lt:α->α->Bool}(hO:SWO lt)(l:List α):Le (sortK lt l) (some (pdqBy lt l)):=by
 intro r h
 grind[sortK,wD]
end
section
open Go
variable [GV]
def pk(x:Int×Int):Value:= .agg #[.int .i64 x.1,.int .i64 x.2]
structure PairMap (P:Program) (mt:TypeId):Prop where
 ex:∃kt vt it i vi,P.underlying mt=some (.map kt vt)/\P.underlying kt=some (.array 2 it)/\P.underlying it=some (.int .i64)/\P.info? it=some i/\i.size=1/\P.info? vt=some vi/\vi.zero=some (.bool false)
def hasP(ks:List (Int×Int))(x:Int×Int):Bool:=ks.any fun k=>decide (k=x)
def addP(ks:List (Int×Int))(x:Int×Int):List (Int×Int):=if hasP ks x=true then ks else ks++[x]
def setP :List (Int×Int)->List MapEntry->Prop:=All2 fun k e=>e.key=pk k/\e.val= .bool true
def cC(es:List MapEntry)(clk:Nat):Prop:=(∀e,e∈es->e.born < clk)/\(es.map (·.born)).Nodup
section
variable {P:Program} {w:World} {kt it:TypeId} {i:TypeInfo}
theorem ud(hi:P.underlying it=some (.int .i64))(w:World):(Go.isAgg it).run P w= .ok false w:=by
 simp[Go.isAgg,underlying,hi]
theorem vM (hk : P.underlying kt = some (.array 2 it)) (hi : P.underlying it = some (.int .i64)) (hii : P.info? it = some i) (hs : i.size = 1) (x y : Int×Int) (w : World):
 (Op.equal kt (pk x) (pk y)).run P w= .ok (decide (x=y)) w:=by
 obtain⟨d,hd⟩:∃d,Op.maxDepth=d+2:=⟨9998,rfl⟩
 have hc:P.cellsOf it=1:=by grind[Program.cellsOf]
 have hkd:kindT P it=some 1:=by grind[kindT]
 unfold Op.equal;rw[hd];unfold pk;rw[run_equalIn_array w (d+1) _ _ hk hii,hc,List.range_eq_range'];have:=jd (P:=P) (φ:=fun _=>(0,0)) (S:=fun _ _=>False) (w:=w) (d:=d) hkd (m:=2) (i:=0)
  (ps:=[.t (.int .i64 x.1),.t (.int .i64 x.2)]) (qs:=[.t (.int .i64 y.1),.t (.int .i64 y.2)]) (vs:=[.int .i64 y.1,.int .i64 y.2]) (r:=decide (x=y))
  (by
   obtain⟨a,b⟩:=x;obtain⟨c,e⟩:=y
   simp_all[List.replicate,eqCs,eqT,if_true,oZ3,Option.map_some,Option.some.injEq,Prod.mk.injEq])
  (.cons (RT.int _ _) (.cons (RT.int _ _) .nil)) (.cons (RT.int _ _) (.cons (RT.int _ _) .nil)) rfl rfl
 grind
theorem gN (hk : P.underlying kt = some (.array 2 it)) (hi : P.underlying it = some (.int .i64)) (hii : P.info? it = some i) (hs : i.size = 1) (b : Bool) (x : Int×Int) (w : World):
 (Instr.checkKey b 10000 kt (pk x)).run P w= .ok () w:=by
 have hz:∀w,(sizeOf it).run P w= .ok 1 w:=fun w=>by simp_all[sizeOf,typeInfo]
 have hc:∀v w,(Instr.checkKey b 9999 it v).run P w= .ok () w:=fun v w=>by
  unfold Instr.checkKey;simp[run_underlying hi]
 unfold Instr.checkKey;simp[run_underlying hk,pk];simp[List.range',hz,part,ud hi,hc]
theorem lR (hk : P.underlying kt = some (.array 2 it)) (hi : P.underlying it = some (.int .i64)) (hii : P.info? it = some i) (hs : i.size = 1) (x : Int×Int) (w : World): ∀ {ks : List (Int×Int)} {es : List MapEntry} (n : Nat), setP ks es ->
 (hasP ks x=false/\(Instr.findAsking kt (pk x) es n).run P w= .ok none w)\/
 (hasP ks x=true/\∃j e,(Instr.findAsking kt (pk x) es n).run P w= .ok (some (n+j,.bool true)) w/\es[j]?=some e/\e.key=pk x/\e.val= .bool true)
 | _,_,n,.nil=>.inl ⟨rfl,by rfl⟩
 | k::ks,e::es,n,.cons h hr=>by
  have he:(Op.equal kt (pk x) e.key).run P w= .ok (decide (x=k)) w:=by grind[vM]
  by_cases hks:x=k
  . simp_all[hasP,Instr.findAsking]
  . rcases lR hk hi hii hs x w (n+1) hr with⟨g1,g2⟩ | ⟨g1,j,e',g2,g3,g4,g5⟩
    . refine .inl ⟨?_,by simp_all[Instr.findAsking]⟩
      grind[hasP]
    . refine .inr ⟨?_,j+1,e',?_,by grind,g4,g5⟩
      . simp_all[hasP,List.any_cons,Bool.or_true]
      . simp only[Instr.findAsking,Sem.run_bind,he,hks,decide_false,Result.andThen_ok,Bool.false_eq_true,if_false,g2]
        grind
theorem nK (hk : P.underlying kt = some (.array 2 it)) (hi : P.underlying it = some (.int .i64)) (hii : P.info? it = some i) (hs : i.size = 1) (x : Int×Int) (w : World) {ks : List (Int×Int)} {es : List MapEntry} (h : setP ks es):
 (hasP ks x=false/\(Instr.findKey kt (pk x) es).run P w= .ok none w)\/
 (hasP ks x=true/\∃j e,(Instr.findKey kt (pk x) es).run P w= .ok (some (j,.bool true)) w/\es[j]?=some e/\e.key=pk x/\e.val= .bool true):=by
 cases h with
 | nil=>exact .inl ⟨rfl,by simp[Instr.findKey,run_underlying hk,Instr.findNow]⟩
 | @cons k e ks es h1 hr=>
  have hn:Instr.findNow (.array 2 it) (pk x) (e::es) 0=none:=by
   rfl
  have:=lR hk hi hii hs x w 0 (.cons h1 hr);simp_all[Instr.findKey,run_underlying]
theorem u4 {mt : TypeId} (hm : PairMap P mt) {r : Nat} {es : Array MapEntry} {clk : Nat} (hh : w.heap[r]? = some (.map es clk)) {ks : List (Int×Int)} (h : setP ks es.toList) (x : Int×Int):
 (Instr.lookup mt (.map (some r)) (pk x) false).run P w= .ok (.bool (hasP ks x)) w:=by
 obtain⟨kt,vt,it,i,vi,hu,hk,hi,hii,hs,hv,hz⟩:=hm.ex;have hzr:(zeroValue vt).run P w= .ok (.bool false) w:=by simp_all [zeroValue,typeInfo]
 rcases nK hk hi hii hs x w h with⟨g1,g2⟩ | ⟨g1,j,e,g2,_⟩
 . simp[Instr.lookup,run_underlying hu,da hh,gN hk hi hii hs,g2,hzr,g1]
 . simp[Instr.lookup,run_underlying hu,da hh,gN hk hi hii hs,g2,g1]
theorem u5 {mt : TypeId} (hm : PairMap P mt) {r : Nat} {es : Array MapEntry} {clk : Nat} (hh : w.heap[r]? = some (.map es clk)) {ks : List (Int×Int)} (h : setP ks es.toList) (hb : cC es.toList clk) (x : Int×Int):
 ∃es' clk',(Instr.mapUpdate mt (.map (some r)) (pk x) (.bool true)).run P w= .ok () {w with heap:=w.heap.setIfInBounds r (.map es' clk')}/\setP (addP ks x) es'.toList/\cC es'.toList clk':=by
 obtain⟨kt,vt,it,i,vi,hu,hk,hi,hii,hs,hv,hz⟩:=hm.ex;rcases nK hk hi hii hs x w h with⟨g1,g2⟩ | ⟨g1,j,e,g2,g3,g4,g5⟩
 . refine⟨es.push {key:=pk x,val:= .bool true,born:=clk},clk+1,?_,?_,?_,?_⟩
   . simp[Instr.mapUpdate,run_underlying hu,da hh,gN hk hi hii hs,g2,gP _ hh]
   . simp only[addP,g1,Bool.false_eq_true,if_false,Array.toList_push];exact h.append (.cons ⟨rfl,rfl⟩ .nil)
   . intro e he;simp only[Array.toList_push,List.mem_append,List.mem_singleton]at he;rcases he with he | rfl
     . have:=hb.1 e he;omega
     simp
   . simp only[Array.toList_push,List.map_append,List.map_cons,List.map_nil];rw[List.nodup_append];refine⟨hb.2,by simp,?_⟩;intro a ha c hc;simp at hc;obtain⟨e,he,rfl⟩:=List.mem_map.1 ha;have:=hb.1 e he;omega
 . refine⟨es.modify j fun e=>{e with key:=pk x,val:= .bool true},clk,?_,?_,?_,?_⟩
   . have hsb:Instr.sameBits 10000 (pk x) (pk x)=true:=by simp[pk,Instr.sameBits]
     have hks:∀w,(Instr.keyThatStays (pk x) (pk x)).run P w= .ok (pk x) w:=by simp_all[Instr.keyThatStays]
     simp[Instr.mapUpdate,run_underlying hu,da hh,gN hk hi hii hs,g2,gP _ hh,g4,hks,show es[j]?=some e by grind]
   . simp only[addP,g1,if_true];rw[Array.toList_modify];refine All2.modify h fun k' e' hke he'=>?_
     grind
   . intro e' he';rw[Array.toList_modify]at he';obtain⟨n,hn,rfl⟩:=List.mem_iff_getElem.1 he';rw[List.length_modify]at hn;have:=hb.1 es.toList[n] (List.getElem_mem hn)
     grind
   . have:(es.modify j fun e=>{e with key:=pk x,val:= .bool true}).toList.map (·.born)=es.toList.map (·.born):=by
      rw[Array.toList_modify];refine List.ext_getElem (by simp) fun n h1 h2=>?_
      grind
     rw[this];exact hb.2
end
end
section
open Go Go.Proofs Go.Proofs.YtkbmjabicjpmjaaGreatDoor Go.Shelf Go.RowKit Go.Sort
variable [GV]
variable {U:Uni}
def digN :Nat->Nat->List UInt8
 | 0,_=>[]
 | k+1,u=>if u < 10 then[UInt8.ofNat (48+u)]else digN k (u / 10)++[UInt8.ofNat (48+u % 10)]
theorem kM :∀(k u:Nat),u < 10 ^ (k+1)->digN (k+1) u=Lib.decDigits u
 | 0,u,h=>by
  rw[Lib.decDigits,dif_pos (by simpa using h),digN,if_pos (by simpa using h)]
 | k+1,u,h=>by
  rw[Lib.decDigits,digN];split
  . rfl
  . rw[kM k (u / 10) (by rw[Nat.pow_succ]at h;omega)]
def itoaI(a:Int):List UInt8:=if a < 0 then 45::digN 20 a.natAbs else digN 20 a.toNat
theorem vN{a:Int}(h0: -9223372036854775808<=a)(h1:a<=9223372036854775807):itoaI a=Lib.itoa a:=by
 unfold itoaI Lib.itoa;rw[kM 19 _ (by omega),kM 19 _ (by omega)]
def itoaG(a:Int):Option (List UInt8):=if decide (-9223372036854775808<=a) && decide (a<=9223372036854775807)=true then some (itoaI a)else none
def pV(U:Uni)(f:Nat):FSpec U:=⟨f,[.c (.hole (.int .i64))],[],[.int .i64],.c (.hole .str),[],[.str],fun(a:Int)=>itoaG a⟩
theorem jf :∀(k u:Nat),u < 10 ^ (k+1)->(Lib.decDigits u).length<=k+1
 | 0,u,h=>by
  rw[Lib.decDigits,dif_pos (by simpa using h)];simp
 | k+1,u,h=>by
  rw[Lib.decDigits];split
  . simp
  . have:=jf k (u / 10) (by rw[Nat.pow_succ]at h;omega);simp;omega
theorem vO{a:Int}(h0: -9223372036854775808<=a)(h1:a<=9223372036854775807):(Lib.itoa a).length<=21:=by
 unfold Lib.itoa;split
 . have:=jf 19 a.natAbs (by omega);simp;omega
 . have:=jf 19 a.toNat (by omega);omega
theorem oV(w:World)(k:Nat)(os:Array Obj):Below w.heap.size w (grow (w.drewN k) os):=by
 refine⟨rfl,rfl,rfl,?_,fun j hj=>?_⟩
 . simp[grow,World.drewN]
 . show(w.heap++os)[j]?=_;rw[Array.getElem?_append_left hj]
section
variable {P:Program} {ρ:Ren}
def lf (P : Program): Prop := ∀ w B, GS w B -> Lib.TabIs P w "internal/strconv.uint64pow10" .u64 Lib.pow10Tab
theorem wE {f : Nat} {args : List V} {J : Store} {s : List UInt8} (hl : s.length <= aD)
 (h:∀(φ:Phi) (S:Stab) (w:World) (B:Nat->Prop) vs,All2 (RV φ w S) args vs->GS w B->Calls P f vs.toArray w fun e w'=>e= .returned (.string ⟨s.toArray⟩)/\Below w.heap.size w w'):
 Con P f args J 0 (fun r J' N'=>r= .c (.t (.str s))/\J'=[]/\N'=0):=by
 intro φ S w B hsim hsb hown hG hab vs hvs;refine(h φ S w B vs hvs hG).mono ?_
 rintro e w' ⟨rfl,hB⟩
 have m:Mono w S w' S:=⟨fun _ _ h=>h,fun bk j h=>cd (hB.block bk (hsim.st bk j h)) j⟩
 refine⟨_,.c _,φ,S,[],0,rfl,⟨rfl,rfl,rfl⟩,.c ?_,rfl,⟨fun b x h=>by grind[sget],fun b b' x y h=>by grind[sget],fun bk j h=>Nat.lt_of_lt_of_le (hsim.st bk j h) hB.size⟩,fun b x h=>by grind[sget],
  ⟨hB.os,hB.tape,hB.output,hB.size,fun bk hbk _=>hB.block bk hbk,m,fun _ _ h=>.inl h⟩,fun b x h=>by grind[sget],fun _ _=>rfl⟩
 have:=RT.str (w:=w') (S:=S) (⟨s.toArray⟩:ByteArray) (by
  show s.toArray.size<=aD
  rw[List.size_toArray];exact hl)
 exact this
theorem u6 (L : LaysM.n171 P ρ) (ht : lf P) {a : Int} (h0 : -9223372036854775808 <= a) (h1 : a <= 9223372036854775807) {J : Store}:
 Con P (ρ.f 171) [.c (.t (.int .i64 a))] J 0 (fun r J' N'=>r= .c (.t (.str (Lib.itoa a)))/\J'=[]/\N'=0):=by
 refine wE (Nat.le_trans (vO h0 h1) (by decide)) fun φ S w B vs hvs hG=>?_
 cases hvs with | cons hv hvs=>
 cases hvs;cases hv with | c hv=>
 cases hv;refine(Any.strconv_Itoa L a h0 h1 w (ht w B hG)).mono ?_
 rintro e w' ⟨rfl,k,os,rfl⟩
 exact⟨rfl,oV w k os⟩
theorem u7(L:LaysM.n171 P ρ)(ht:lf P){f:Nat}(hf:ρ.f 171=f):FSnd P (pV U f):=by
 subst hf;intro(a:Int) r hF args1 J1 ha hS;have hF':itoaG a=some r:=hF;unfold itoaG at hF';split at hF'
 . rename_i hc;simp at hc;obtain⟨h0,h1⟩:=hc;rw[vN h0 h1]at hF';cases hF';cases ha with | cons a1 ha=>
   cases ha;have e1:=VR.int_inv a1;subst e1;refine(u6 L ht h0 h1).mono ?_
   rintro r1 s1 N1 ⟨rfl,rfl,rfl⟩
   exact⟨rfl,.c (.t _),fun b x hx=>by cases hx⟩
 . cases hF'
theorem kO {f : Nat} {args : List V} {J : Store} {n : Int}
 (h:∀(φ:Phi) (S:Stab) (w:World) (B:Nat->Prop) vs,All2 (RV φ w S) args vs->GS w B->Calls P f vs.toArray w fun e w'=>e= .returned (.int .i64 n)/\w'=w):
 Con P f args J 0 (fun r J' N'=>r= .c (.t (.int .i64 n))/\J'=[]/\N'=0):=by
 intro φ S w B hsim hsb hown hG hab vs hvs;refine(h φ S w B vs hvs hG).mono ?_
 rintro e w' ⟨rfl,rfl⟩
 exact⟨_,.c _,φ,S,[],0,rfl,⟨rfl,rfl,rfl⟩,.c (RT.int _ _),rfl,⟨fun b x h=>by grind[sget],fun b b' x y h=>by grind[sget],fun bk j h=>hsim.st bk j h⟩,fun b x h=>by grind[sget],Ext.refl,fun b x h=>by grind[sget],fun _ _=>rfl⟩
def kx(a:List UInt8×Int):Option Int:=some (Lib.indexByte a.1 a.2.toNat.toUInt8)
def eR(a:List UInt8×List UInt8):Option Int:=match a.2 with
 | [c]=>some (Lib.indexByte a.1 c)
 | _=>none
def gf(a:List UInt8×List UInt8):Option Int:=match a.2 with
 | [c]=>some (Lib.countByte a.1 c)
 | _=>none
def oy(U:Uni)(f:Nat):FSpec U:=⟨f,[.c (.hole .str),.c (.hole (.int .u8))],[],[.str,.int .u8],.c (.hole (.int .i64)),[],[.int .i64],fun(a:List UInt8×Int)=>kx a⟩
def oW(U:Uni)(f:Nat):FSpec U:=⟨f,[.c (.hole .str),.c (.hole .str)],[],[.str,.str],.c (.hole (.int .i64)),[],[.int .i64],fun(a:List UInt8×List UInt8)=>eR a⟩
def oY(U:Uni)(f:Nat):FSpec U:=⟨f,[.c (.hole .str),.c (.hole .str)],[],[.str,.str],.c (.hole (.int .i64)),[],[.int .i64],fun(a:List UInt8×List UInt8)=>gf a⟩
theorem gv{w:World}{S:Stab}{φ:Phi}{s:List UInt8}{v:Value}(h:RV φ w S (.c (.t (.str s))) v):∃b:ByteArray,v= .string b/\s=b.data.toList:=by
 cases h with | c h=>
 cases h with | str b hb=>exact⟨b,rfl,rfl⟩
theorem sY(L:Lays.n217 P ρ){f:Nat}(hf:ρ.f 217=f):FSnd P (oy U f):=by
 subst hf;intro(a:List UInt8×Int) r hF args1 J1 ha hS;obtain⟨s,c⟩:=a;have hF':some (Lib.indexByte s c.toNat.toUInt8)=some r:=hF;cases hF';cases ha with | cons a1 ha=>
 cases ha with | cons a2 ha=>
 cases ha;have e1:=VR.str_inv a1;have e2:=VR.int_inv a2;subst e1;subst e2;refine(kO (n:=Lib.indexByte s c.toNat.toUInt8) fun φ S w B vs hvs hG=>?_).mono ?_
 . cases hvs with | cons h1 hvs=>
   cases hvs with | cons h2 hvs=>
   cases hvs;obtain⟨b,rfl,rfl⟩:=gv h1;cases h2 with | c h2=>
   cases h2;exact Any.stringslite_IndexByte L b c w
 . rintro r1 s1 N1 ⟨rfl,rfl,rfl⟩
   exact⟨rfl,.c (.t _),fun b x hx=>by cases hx⟩
theorem pI{b:ByteArray}{c:UInt8}(h:b.data.toList=[c]):b=⟨#[c]⟩:=by
 cases b with | mk d=>
 have:d=#[c]:=by simpa using congrArg List.toArray h
 rw[this]
theorem ue(L:Lays.n219 P ρ){f:Nat}(hf:ρ.f 219=f):FSnd P (oW U f):=by
 subst hf;intro(a:List UInt8×List UInt8) r hF args1 J1 ha hS;obtain⟨s,p⟩:=a;have hF':eR (s,p)=some r:=hF;unfold eR at hF';split at hF'
 . rename_i c hc;cases hF';have hc:p=[c]:=hc;cases ha with | cons a1 ha=>
   cases ha with | cons a2 ha=>
   cases ha;have e1:=VR.str_inv a1;have e2:=VR.str_inv a2;subst e1;subst e2;refine(kO (n:=Lib.indexByte s c) fun φ S w B vs hvs hG=>?_).mono ?_
   . cases hvs with | cons h1 hvs=>
     cases hvs with | cons h2 hvs=>
     cases hvs;obtain⟨b,rfl,rfl⟩:=gv h1;obtain⟨q,rfl,hq⟩:=gv h2;rw[pI (hq.symm.trans hc)];exact Any.stringslite_Index_one L b c w
   . rintro r1 s1 N1 ⟨rfl,rfl,rfl⟩
     exact⟨rfl,.c (.t _),fun b x hx=>by cases hx⟩
 . cases hF'
theorem uf(L:Lays.n138 P ρ){f:Nat}(hf:ρ.f 138=f):FSnd P (oY U f):=by
 subst hf;intro(a:List UInt8×List UInt8) r hF args1 J1 ha hS;obtain⟨s,p⟩:=a;have hF':gf (s,p)=some r:=hF;unfold gf at hF';split at hF'
 . rename_i c hc;cases hF';have hc:p=[c]:=hc;cases ha with | cons a1 ha=>
   cases ha with | cons a2 ha=>
   cases ha;have e1:=VR.str_inv a1;have e2:=VR.str_inv a2;subst e1;subst e2;refine(kO (n:=Lib.countByte s c) fun φ S w B vs hvs hG=>?_).mono ?_
   . cases hvs with | cons h1 hvs=>
     cases hvs with | cons h2 hvs=>
     cases hvs;obtain⟨b,rfl,rfl⟩:=gv h1;obtain⟨q,rfl,hq⟩:=gv h2;rw[pI (hq.symm.trans hc)];exact Any.strings_Count_one L b c w
   . rintro r1 s1 N1 ⟨rfl,rfl,rfl⟩
     exact⟨rfl,.c (.t _),fun b x hx=>by cases hx⟩
 . cases hF'
def explG(_:List UInt8×Int):Option (List (List UInt8)):=none
def xy(U:Uni)(f:Nat):FSpec U:=⟨f,[.c (.hole .str),.c (.hole (.int .i64))],[],[.str,.int .i64],.c (.hole (.slice .str)),[],[.slice .str],fun(a:List UInt8×Int)=>explG a⟩
def numV(s:List UInt8):Int×Bool:=Lib.NumEnd.casesOn (motive:=fun _=>Int×Bool) (Lib.atoiAll s) (fun n=>(n,decide (0<=n) && (Lib.itoa n==s))) (0,false) (Lib.atoiSat s,false)
def numG(s:List UInt8):Option (Int×Bool):=if decide (s.length<=281474976710656)=true then some (numV s)else none
def numGS(U:Uni)(f:Nat):FSpec U:=⟨f,[.c (.hole .str)],[],[.str],.tup [.c (.hole (.int .i64)),.c (.hole .bool)],[],[.int .i64,.bool],fun(s:List UInt8)=>numG s⟩
theorem GS.below{w w1:World}{B:Nat->Prop}(hG:GS w B)(h:Below w.heap.size w w1):GS w1 B:=by
 intro x hx;obtain⟨h1,o,h2,h3⟩:=hG x hx;exact⟨h1,o,(h.block _ (Array.getElem?_eq_some_iff.1 h2).1).trans h2,h3⟩
def HasIf(g:Nat):Prop:=∀w B,GS w B->∃te pe,w.cell? ⟨g,0,none⟩=some (.iface te pe)
theorem wF {f : Nat} (h : ∀ (s : ByteArray) (w : World) (B : Nat -> Prop), s.size <= 281474976710656 -> GS w B -> Calls P f #[.string s] w fun e w' => e = .returned (.tuple #[.int .i64 (numV s.data.toList).1, .bool (numV s.data.toList).2]) /\ Below w.heap.size w w'):
 FSnd P (numGS U f):=by
 intro(s:List UInt8) r hF args1 J1 ha hS;have hF':numG s=some r:=hF;unfold numG at hF';split at hF'
 case isFalse=>cases hF'
 rename_i hl;have hl:s.length<=281474976710656:=of_decide_eq_true hl;cases hF';cases ha with | cons a1 ha=>
 cases ha;have e1:=VR.str_inv a1;subst e1;intro φ S w B hsim hsb hown hG hab vs hvs;cases hvs with | cons h1 hvs=>
 cases hvs;cases h1 with | c h1=>
 cases h1 with | str b hb=>
 refine(h b w B (by rw[Array.length_toList]at hl;exact hl) hG).mono ?_
 rintro e w' ⟨rfl,hB⟩
 have m:Mono w S w' S:=⟨fun _ _ h=>h,fun bk j h=>cd (hB.block bk (hsim.st bk j h)) j⟩
 have hv:RV φ w' S (.tup [.c (.t (.int .i64 (numV b.data.toList).1)),.c (.t (.bool (numV b.data.toList).2))]) (.tuple #[.int .i64 (numV b.data.toList).1,.bool (numV b.data.toList).2]):=
  RV.tup [_,_] [_,_] rfl fun i v x h1 h2=>by
   match i with
   | 0=>cases h1;cases h2;exact .c (RT.int _ _)
   | 1=>cases h1;cases h2;exact .c (RT.bool _)
   | _+2=>cases h1
 refine⟨_,_,φ,S,[],0,rfl,⟨rfl,VR.tup [_,_] [_,_] rfl fun i v x h1 h2=>?_,fun b x hx=>by cases hx⟩,hv,rfl,⟨fun b x h=>by grind[sget],fun b b' x y h=>by grind[sget],fun bk j h=>Nat.lt_of_lt_of_le (hsim.st bk j h) hB.size⟩,fun b x h=>by grind[sget],
  ⟨hB.os,hB.tape,hB.output,hB.size,fun bk hbk _=>hB.block bk hbk,m,fun _ _ h=>.inl h⟩,fun b x h=>by grind[sget],fun _ _=>rfl⟩
 match i with
 | 0=>cases h1;cases h2;exact .c (.t _)
 | 1=>cases h1;cases h2;exact .c (.t _)
 | _+2=>cases h1
end
end
section
open Go
variable [GV]
variable {U:Uni} {P:Program} {nt:Nat} {Γ:Ctx}
section
variable {φ φ':Phi} {S S':Stab} {env env':Env} {J J':Store} {n n':Nat->Bool} {N k:Nat} {a a':Act} {w w':World}
def Ctx.re(w:World)(S:Stab)(φ:Phi)(J:Store)(k:Nat)(hG:GS w fun b=>∃c x,sget J c=some x/\(φ c).2≠0/\b=(φ c).1):Ctx:=⟨w,S,fun b=>∃c x,sget J c=some x/\(φ c).2≠0/\b=(φ c).1,φ,k,hG⟩
theorem Rel.gl{n:Nat->Bool}(R:Rel Γ nt φ S env J n a w):GS w fun b=>∃c x,sget J c=some x/\(φ c).2≠0/\b=(φ c).1:=R.glob fun _ ⟨c,x,hx,h0,e⟩=>e▸R.own c x hx h0
theorem Rel.re(R:Rel Γ nt φ S env J (lt N) a w)(hk:k<=N):Rel (Ctx.re w S φ J k R.gl) nt φ S env J (lt N) a w:=
 ⟨R.sim,R.envs,R.envn,R.ebnd,R.sbnd,R.size,R.defers,Ext.refl,fun b x hx h0=>.inl ⟨b,x,hx,h0,rfl⟩,fun _ _=>rfl,fun b hb=>by
  have:b < k:=hb
  grind[lt]⟩
theorem Rel.un(R:Rel Γ nt φ S env J n a w)(R':Rel (Ctx.re w S φ J k R.gl) nt φ' S' env' J' n' a' w')(hk:Γ.k<=k):Rel Γ nt φ' S' env' J' n' a' w':=by
 have e:=R'.ext;have own:∀b,(Ctx.re w S φ J k R.gl).B b->Γ.B b\/Γ.w0.heap.size<=b:=fun b ⟨c,x,hx,h0,hb⟩=>hb▸R.own c x hx h0
 refine⟨R'.sim,R'.envs,R'.envn,R'.ebnd,R'.sbnd,R'.size,R'.defers,⟨e.os.trans R.ext.os,e.tape.trans R.ext.tape,e.output.trans R.ext.output,Nat.le_trans R.ext.size e.size,fun b hlt hB=>?_,R.ext.mono.trans e.mono,fun b j hj=>?_⟩,fun b x hx h0=>?_,fun b hb=>?_,fun b hb=>R'.kn b (Nat.lt_of_lt_of_le hb hk)⟩
 . refine(e.block b (Nat.lt_of_lt_of_le hlt R.ext.size) fun h=>?_).trans (R.ext.block b hlt hB)
   grind
 . rcases e.snew b j hj with h | h | h
   . exact R.ext.snew b j h
   . grind
   . exact .inr (.inr (Nat.le_trans R.ext.size h))
 . rcases R'.own b x hx h0 with h | h
   . grind
   . exact .inr (Nat.le_trans R.ext.size h)
 . exact(R'.fix b (Nat.lt_of_lt_of_le hb hk)).trans (R.fix b hb)
theorem Rel.enter {args : List V} {vs : List Value} (hv : All2 (RV φ w S) args vs) (hb : V.bnd.V.bnds (lt N) args = true) (hst : ∀ b j, S b j -> b < w.heap.size) (hn : args.length <= nt) (hG : GS w fun _ => False):
 Rel ⟨w,S,fun _=>False,φ,0,hG⟩ nt φ S (env0 0 args) [] (lt N) {tmps:=vs.toArray++Array.replicate (nt - vs.toArray.size) undef,defers:=[]} w:=by
 have hl:=hv.length;refine⟨⟨fun b x hx=>by grind[sget],fun b b' x y hx=>by grind[sget],hst⟩,fun i g v hlk hg=>?_,fun i g v hlk hg=>?_,fun i g v hlk hg=>?_,fun b x hx=>by grind[sget],?_,rfl,Ext.refl,fun b x hx=>by grind[sget],fun _ _=>rfl,fun b hb=>absurd hb (Nat.not_lt_zero _)⟩
 . obtain⟨_,j,rfl,hj⟩:=dF hlk;obtain⟨x,hx,hr⟩:=hv.get hj
   grind
 . grind[dF]
 . grind[dF,bQ]
 grind
end
abbrev XS(U:Uni):=XEnv U×XSt U×Nat
structure TS (Γ:Ctx) (nt:Nat) (gs:List Nat) (s:XS U) (φ:Phi) (S:Stab) (a:Act) (w:World):Prop where
 ex:∃env1 J1,ER s.2.2 s.2.1 (fun _=>true) s.1 env1/\SR s.2.2 s.2.1 J1/\Rel Γ nt φ S env1 J1 (lt s.2.2) a w/\∀b x,sget J1 b=some x->(φ b).2≠0->(φ b).1 ∉ gs
 gb:∀g,g∈gs->g < w.heap.size/\∀j,¬S g j
theorem TS.gs{Γ:Ctx}{nt:Nat}{gs:List Nat}{s:XS U}{φ:Phi}{S:Stab}{a:Act}{w:World}(T:TS Γ nt gs s φ S a w):GS w fun _=>False:=
 let⟨_,_,_,_,R,_⟩:=T.ex
 R.glob fun _ h=>h.elim
section
variable {φ:Phi} {S S':Stab} {gs:List Nat} {s:XS U} {xe:XEnv U} {xs:XSt U} {N kk:Nat} {a:Act} {w w':World}
structure Nx (gs:List Nat) (kk:Nat) (φ:Phi) (w:World) (φ':Phi) (w':World):Prop where
 fix:∀b,b < kk->φ' b=φ b
 hp:∀g,g∈gs->w'.heap[g]?=w.heap[g]?
theorem TS.next {φ' : Phi} {env1 env1' : Env} {J1 J1' : Store} {a' : Act} {s' : XS U} (gb : ∀ g, g ∈ gs -> g < w.heap.size /\ ∀ j, ¬ S g j) (R : Rel Γ nt φ S env1 J1 (lt N) a w) (hg : ∀ b x, sget J1 b = some x -> (φ b).2 ≠ 0 -> (φ b).1 ∉ gs)
 (R':Rel (Ctx.re w S φ J1 kk R.gl) nt φ' S' env1' J1' (lt s'.2.2) a' w') (hk:Γ.k<=kk) (he:ER s'.2.2 s'.2.1 (fun _=>true) s'.1 env1') (hS:SR s'.2.2 s'.2.1 J1'):TS Γ nt gs s' φ' S' a' w'/\Nx gs kk φ w φ' w':=by
 have old:∀g,g∈gs->¬(Ctx.re w S φ _ kk R.gl).B g:=fun g h ⟨c,x,hx,h0,hb⟩=>hg c x hx h0 (hb▸h)
 refine⟨⟨⟨env1',J1',he,hS,R.un R' hk,fun b x hx h0 hm=>?_⟩,fun g h=>⟨Nat.lt_of_lt_of_le (gb g h).1 R'.ext.size,fun j hj=>?_⟩⟩,R'.fix,fun g h=>R'.ext.block g (gb g h).1 (old g h)⟩
 . rcases R'.own b x hx h0 with h | h
   . grind
   . exact absurd (gb _ hm).1 (Nat.not_lt.2 h)
 . rcases R'.ext.snew g j hj with h' | h' | h'
   . exact(gb g h).2 j h'
   . grind
   . exact absurd (gb g h).1 (Nat.not_lt.2 h')
theorem TS.piece (T : TS Γ nt gs s φ S a w) {fo : Fo U} (hfo : FoSnd P fo) {code : Code} {ac : ACode} (hc : resolve P nt code = some ac) (hkk : kk <= s.2.2) (hk : Γ.k <= kk) {outs : List OSpec} {o : OSum U outs}
 (hx:xexec fo (fun _=>none) kk ac 0 s.1 s.2.1 s.2.2 (oput kk outs)=some o):
 code.wp P (fun e a' w'=>e=(oout outs o).1/\∃φ' S',TS Γ nt gs (oout outs o).2 φ' S' a' w'/\Nx gs kk φ w φ' w') a w:=by
 obtain⟨⟨env1,J1,he,hS,R,hg⟩,gb⟩:=T
 have h:=AW.unqc (cZ (Q:=QC kk fun e env J N=>e=(oout _ o).1/\N=(oout _ o).2.2.2/\ER N _ _ _ _/\SR N _ J) hfo LoSnd.none hx he hS hkk QC.cc fun e env' J' N' env1' J1' h1 h2 h3 h4=>by
  obtain⟨e1,s1,c1,c2,c3,c4,c5⟩:=LAt.of_round.oput_sound h1 h2 h3 h4
  exact⟨_,e1,s1,c1,c5,rfl,c2,c3⟩) _ hc _ φ S a w rfl (R.re hkk)
 refine wp_mono h ?_
 rintro e a' w' ⟨φ',S',env1',J1',N',⟨h1,rfl,h2,h3⟩,R'⟩
 exact⟨h1,φ',S',TS.next gb R hg R' hk h2 h3⟩
theorem oZ {kk : Nat} {Γ : Ctx} (hkk : Γ.k = kk) {ops : Array Oper} {rest : List Nat} {Q : Exit -> Act -> World -> Prop} {K : Env -> Store -> Nat -> Prop}: ∀ {l : List Oper} {aos : List AOper} {k N : Nat} {env : Env} {J : Store} {φ : Phi} {S : Stab} {a : Act} {w : World}, aP P nt ops l = some aos -> (∀ i : Nat, i < l.length -> l[i]? = ops[k + i]?) ->
 Rel Γ nt φ S env J (lt N) a w->aopsC P kk aos N env J (fun e s=>K e s (N+16*aos.length))->(∀φ S e s N a w,K e s N->Rel Γ nt φ S e s (lt N) a w->wpOps P ops Q rest a w)->wpOps P ops Q (List.range' k l.length++rest) a w
 | [],aos,k,N,env,J,φ,S,a,w,hr,hi,R,h,hQ=>by
  simp[aP]at hr;subst hr;exact hQ _ _ _ _ _ _ _ h R
 | o::l,aos,k,N,env,J,φ,S,a,w,hr,hi,R,h,hQ=>by
  simp[aP,oZ2,oZ1]at hr;obtain⟨ao,hao,aos',haos,rfl⟩:=hr;have ho:ops[k]?=some o:=by have:=hi 0 (by simp);grind
  rw[List.length_cons,List.range'_succ,List.cons_append,wpOps_cons];unfold wpOp;obtain⟨env0,J0,hconv,hstep⟩:=h;obtain⟨φ0,S0,R0⟩:=hconv Γ nt φ S a w hkk R;have hs:=jG R0 hao (K:=fun e s=>aopsC P kk aos' _ e s fun e s=>K e s (N+16*(aos'.length+1))) hstep (Q:=Q)
  have next:∀a' w',Post Γ nt (insR (lt N) N) (fun e s=>aopsC P kk aos' (N+16) e s fun e s=>K e s (N+16*(aos'.length+1))) a' w'->wpOps P ops Q (List.range' (k+1) l.length++rest) a' w':=by
   rintro a' w' ⟨φ',S',e,s,hK,R'⟩
   refine oZ hkk haos (fun i hlt=>?_) (R'.more fun _ h=>iu h) ?_ hQ
   . have:=hi (i+1) (by grind)
     grind
   grind
  grind[Oper.wp_mono]
theorem TS.ops (T : TS Γ nt gs s φ S a w) {fo : Fo U} (hfo : FoSnd P fo) {ops : Array Oper} {rest : List Nat} {Q : Exit -> Act -> World -> Prop} (k : Nat) {l : List Oper} {aos : List AOper} (hr : aP P nt ops l = some aos) (hi : ∀ i : Nat, i < l.length -> l[i]? = ops[k + i]?) (hkk : kk <= s.2.2) (hk : Γ.k <= kk)
 {sh:Shape} {ts:List Ty} {h:Hs U.D ts} (hx:cu fo none aos s.2.2 [] [] s.1 s.2.1 (fun gl env J=>xgoto kk [] sh ts (dU gl env) J (s.2.2+16*aos.length))=some h)
 (hQ:∀φ' S' a' w',TS Γ nt gs ((fil U sh (Hs.cells U.D ts h)).1,(fil U sh (Hs.cells U.D ts h)).2,sh.st.length) φ' S' a' w'->Nx gs kk φ w φ' w'->wpOps P ops Q rest a' w'):wpOps P ops Q (List.range' k l.length++rest) a w:=by
 obtain⟨⟨env1,J1,he,hS,R,hg⟩,gb⟩:=T;refine oZ rfl (K:=fun e1 s1 N'=>∃env' J',N'=s.2.2+16*aos.length/\xgoto kk [] sh ts env' J' N'=some h/\ER N' J' (fun _=>true) env' e1/\SR N' J' s1) hr hi (R.re hkk) (gD hfo (RS.begin he hS) hx fun gl' nf' env' J' env1' J1' G' h1 h2=>?_) ?_
 . exact⟨_,_,rfl,h1,h2.clean,h2.sr⟩
 . rintro φ' S' e1 s1 N' a' w' ⟨env',J',rfl,h1,h2,h3⟩ R'
   obtain⟨e2,s2,c1,c2,c3,c4⟩:=ej h1 h2 h3 (by omega);obtain⟨φ2,S2,R2⟩:=c1 _ nt _ S' a' w' rfl R';obtain⟨T',nx⟩:=TS.next (s':=((fil U sh _).1,(fil U sh _).2,sh.st.length)) gb R hg R2 hk c2 c3
   grind
theorem TS.goto (T : TS Γ nt gs s φ S a w) (kk : Nat) {sh : Shape} {ts : List Ty} {h : Hs U.D ts} (hx : xgoto kk [] sh ts s.1 s.2.1 s.2.2 = some h) (hkk : Nat.ble kk s.2.2 = true := by rfl) (hk : Γ.k <= kk := by exact Nat.zero_le _):
 ∃φ' S',TS Γ nt gs ((fil U sh (Hs.cells U.D ts h)).1,(fil U sh (Hs.cells U.D ts h)).2,sh.st.length) φ' S' a w/\Nx gs kk φ w φ' w:=by
 obtain⟨⟨env1,J1,he,hS,R,hg⟩,gb⟩:=T;obtain⟨e2,s2,c1,c2,c3,c4⟩:=ej hx he hS (aV hkk);obtain⟨φ2,S2,R2⟩:=c1 _ nt φ S a w rfl (R.re (aV hkk));exact⟨φ2,S2,TS.next gb R hg R2 hk c2 c3⟩
theorem TS.slot(T:TS Γ nt gs s φ S a w){k:Nat}{v:XV U}(hk:lk s.1 k=some v):∃x v1,a.tmps[k]?=some x/\VR s.2.2 s.2.1 v v1/\RV φ w S v1 x/\v1.bnd (lt s.2.2)=true:=by
 obtain⟨⟨env1,J1,he,hS,R,hg⟩,gb⟩:=T;obtain⟨v1,h1,h2⟩:=he k v hk;obtain⟨x,h3,h4⟩:=R.envs k _ v1 h1 rfl;exact⟨x,v1,h3,h2,h4,R.ebnd k _ v1 h1 rfl⟩
theorem TS.ptr(T:TS Γ nt gs s φ S a w){k b o:Nat}(hk:lk s.1 k=some (.c (.ptr b o))):a.tmps[k]?=some (.pointer (some ⟨(φ b).1,o,none⟩)):=by
 obtain⟨x,v1,h1,h2,h3,_⟩:=T.slot hk;have:=h2.ptr_inv;subst this;rw[h1,h3.ptr_inv]
theorem TS.mp(T:TS Γ nt gs s φ S a w){k b:Nat}(hk:lk s.1 k=some (.c (.mp b))):a.tmps[k]?=some (.map (some (φ b).1)):=by
 obtain⟨x,v1,h1,h2,h3,_⟩:=T.slot hk;have:=h2.mp_inv;subst this;rw[h1,show x=_ from h3.c_inv]
theorem TS.pair(T:TS Γ nt gs s φ S a w){k:Nat}{p q:Int}(hk:lk s.1 k=some (.agg [.t ⟨.int .i64,p⟩,.t ⟨.int .i64,q⟩])):a.tmps[k]?=some (pk (p,q)):=by
 obtain⟨x,v1,h1,h2,h3,_⟩:=T.slot hk;cases h2 with
 | agg h2=>
  cases h2 with
  | cons g1 g2=>
   cases g2 with
   | cons g2 g3=>
    cases g1;cases g2;cases g3;obtain⟨vs,rfl,h4⟩:=h3.agg_inv;cases h4 with
    | cons a1 a2=>
     cases a2 with
     | cons a2 a3=>
      cases a1;cases a2;cases a3;exact h1
theorem TS.cell(T:TS Γ nt gs s φ S a w){k:Nat}{c:Cell U.D}(hk:lk s.1 k=some (.c (.t c))):∃x,a.tmps[k]?=some x/\RT w S (c.enc U) x:=by
 obtain⟨x,v1,h1,h2,h3,_⟩:=T.slot hk;cases h2 with
 | c h2=>cases h2;exact⟨x,h1,h3.c_inv⟩
theorem TS.bool(T:TS Γ nt gs s φ S a w){k:Nat}{b:Bool}(hk:lk s.1 k=some (.c (.t ⟨.bool,b⟩))):a.tmps[k]?=some (.bool b):=by
 obtain⟨x,h1,h2⟩:=T.cell hk;rw[h1];cases h2;rfl
theorem TS.int(T:TS Γ nt gs s φ S a w){k:Nat}{n:Int}(hk:lk s.1 k=some (.c (.t ⟨.int .i64,n⟩))):a.tmps[k]?=some (.int .i64 n):=by
 obtain⟨x,h1,h2⟩:=T.cell hk;rw[h1];cases h2;rfl
theorem TS.fn(T:TS Γ nt gs s φ S a w){k f b:Nat}(hk:lk s.1 k=some (.c (.fn f [b]))):a.tmps[k]?=some (.func (.func f) #[] #[.pointer (some ⟨(φ b).1,0,none⟩)]):=by
 obtain⟨x,v1,h1,h2,h3,_⟩:=T.slot hk;cases h2 with
 | c h2=>cases h2;rw[h1,show x=_ from h3.c_inv];rfl
theorem TS.len(T:TS Γ nt gs s φ S a w){k:Nat}{t:Ty}{l:List (t.den U.D)}(hk:lk s.1 k=some (.c (.t ⟨.slice t,l⟩))):l.length<=az:=by
 obtain⟨x,h1,h2⟩:=T.cell hk;obtain⟨_,_,_,_,_,_,_,_,h,_⟩:=RT.slice_inv h2
 grind
theorem TS.box (T : TS Γ nt gs s φ S a w) {b : Nat} {cs : List (XC U)} (hb : lk s.2.1 b = some (.box cs)):
 ∃(vs:List Value) (E:TypeId) (ds:List C),w.heap[(φ b).1]?=some (.cells vs.toArray E (0,0))/\All2 (CR s.2.2 s.2.1) cs ds/\All2 (RC φ w S) ds vs:=by
 obtain⟨⟨env1,J1,he,hS,R,hg⟩,gb⟩:=T;obtain⟨_,y,h1,h2⟩:=hS b _ hb;cases h2 with
 | box h2=>
  obtain⟨_,vs,E,h3,h4,_⟩:=R.sim.blk b _ h1
  grind
theorem TS.put(T:TS Γ nt gs (xe,xs,N) φ S a w){d:Nat}{x:Value}{v:XV U}{v1:V}(hv:VR N xs v v1)(hx:RV φ w S v1 x)(hb:v1.bnd (lt N)=true:=by rfl)(hd:Nat.ble (d+1) nt=true:=by rfl):TS Γ nt gs ((d,v)::xe,xs,N) φ S (a.put (some d) x) w:=by
 have hd:=aV hd;obtain⟨⟨env1,J1,he,hS,R,hg⟩,gb⟩:=T;refine⟨⟨aA _ _ true v1,J1,fun k y hk=>?_,hS,R.bindv (by grind) (fun _=>hx) (fun h=>by grind) (fun _=>hb),hg⟩,gb⟩;simp[lk]at hk;split at hk
 . simp_all[bO]
 . obtain⟨y1,h1,h2⟩:=he k y hk;simp_all[bO,aU]
theorem TS.new(T:TS Γ nt gs (xe,xs,N) φ S a w)(o:Obj):TS Γ nt (w.heap.size::gs) (xe,xs,N+1) (upd φ N (w.heap.size,0)) S a (w.alloc o):=by
 obtain⟨⟨env1,J1,he,hS,R,hg⟩,gb⟩:=T;have hN:lt N N=false:=fT (Nat.le_refl _);refine⟨⟨env1,J1,he.mono (Keep.more (Nat.le_succ _)),hS.mono (Nat.le_succ _),((R.alloc o).phi fun b h=>dQ hN h).more fun b h=>ij (Nat.le_succ _) h,fun b x hx h0=>?_⟩,fun g h=>?_⟩
 . rw[dQ hN (R.sbnd b x hx).1]at h0 ⊢;have:=(R.sim.blk b x hx).real_lt h0
   grind
 . rcases List.mem_cons.1 h with rfl | h
   . exact⟨by simp,fun j hj=>by have:=R.sim.st _ _ hj;omega⟩
   . have:=gb g h;exact⟨by simp;omega,this.2⟩
theorem TS.num(T:TS Γ nt gs (xe,xs,N) φ S a w)(q:Nat):TS Γ nt gs (xe,xs,N+1) (upd φ N (q,0)) S a w:=by
 obtain⟨⟨env1,J1,he,hS,R,hg⟩,gb⟩:=T;have hN:lt N N=false:=fT (Nat.le_refl _);refine⟨⟨env1,J1,he.mono (Keep.more (Nat.le_succ _)),hS.mono (Nat.le_succ _),(R.phi fun b h=>dQ hN h).more fun b h=>ij (Nat.le_succ _) h,fun b x hx h0=>?_⟩,gb⟩;rw[dQ hN (R.sbnd b x hx).1]at h0 ⊢
 grind
theorem TS.drew(T:TS Γ nt gs s φ S a w):TS Γ nt gs s φ S a w.drew:=
 let⟨⟨env1,J1,he,hS,R,hg⟩,gb⟩:=T;⟨⟨env1,J1,he,hS,R.drew,hg⟩,gb⟩
theorem TS.write(T:TS Γ nt gs s φ S a w){g:Nat}(hm:g∈gs)(hw:Γ.w0.heap.size<=g)(h1:w'.os=w.os)(h2:w'.tape=w.tape)(h3:w'.output=w.output)(h4:w'.heap.size=w.heap.size)(h5:∀b,b≠g->w'.heap[b]?=w.heap[b]?):TS Γ nt gs s φ S a w':=by
 obtain⟨⟨env1,J1,he,hS,R,hg⟩,gb⟩:=T;refine⟨⟨env1,J1,he,hS,R.world _ h1 h2 h3 (Nat.le_of_eq h4.symm) (fun b _ hb=>h5 b hb) (fun b hb=>?_),hg⟩,fun b h=>by grind⟩
 grind
theorem TS.extend(T:TS Γ nt gs s φ S a w)(e:Ext (fun _=>False) S S' w w')(hst:∀b j,S' b j->b < w'.heap.size):TS Γ nt gs s φ S' a w':=by
 obtain⟨⟨env1,J1,he,hS,R,hg⟩,gb⟩:=T;refine⟨⟨env1,J1,he,hS,R.extend e hst,hg⟩,fun g h=>⟨Nat.lt_of_lt_of_le (gb g h).1 e.size,fun j hj=>?_⟩⟩;rcases e.snew g j hj with h' | h' | h'
 all_goals grind
theorem TS.st(T:TS Γ nt gs s φ S a w):∀b j,S b j->b < w.heap.size:=let⟨⟨_,_,_,_,R,_⟩,_⟩:=T;R.sim.st
theorem TS.ext(T:TS Γ nt gs s φ S a w):Ext Γ.B Γ.S0 S Γ.w0 w:=let⟨⟨_,_,_,_,R,_⟩,_⟩:=T;R.ext
theorem TS.defers(T:TS Γ nt gs s φ S a w):a.defers=[]:=let⟨⟨_,_,_,_,R,_⟩,_⟩:=T;R.defers
theorem TS.enter {args : List (XV U)} {args1 : List V} {vs : List Value} (ha : All2 (VR N []) args args1) (hv : All2 (RV φ w S) args1 vs) (hb : V.bnd.V.bnds (lt N) args1 = true) (hst : ∀ b j, S b j -> b < w.heap.size) (hn : args1.length <= nt) (gb : ∀ g, g ∈ gs -> g < w.heap.size /\ ∀ j, ¬ S g j) (hG : GS w fun _ => False):
 TS (U:=U) ⟨w,S,fun _=>False,φ,0,hG⟩ nt gs (xenv0 0 args,[],N) φ S {tmps:=vs.toArray++Array.replicate (nt - vs.toArray.size) undef,defers:=[]} w:=by
 refine⟨⟨env0 0 args1,[],?_,fun b x h=>by grind[lk],Rel.enter hv hb hst hn hG,fun b x h=>by grind[sget]⟩,gb⟩;intro k v hk;have key:∀{xs:List _} {ds:List V} {i:Nat},All2 (VR N []) xs ds->lk (xenv0 i xs) k=some v->∃v1,look (env0 i ds) k=some (true,v1)/\VR N [] v v1:=by
  intro xs
  induction xs with
  | nil=>grind[xenv0,lk]
  | cons x xs ih=>
   intro ds i hxs hlk;cases hxs with
   | cons h1 h2=>
    simp[xenv0,lk]at hlk;simp[env0,look];split at hlk
    . simp_all
    simp_all[if_neg,aU]
 grind
theorem VR.tupA{xs:List (XV U)}{ds:List V}{xt:XSt U}(h:All2 (VR N xt) xs ds):VR N xt (.tup xs) (.tup ds):=
 .tup _ _ h.length fun i x d hx hd=>by
  obtain⟨d',e1,e2⟩:=h.get hx
  grind
theorem RV.tupA{vs:List V}{xs:List Value}(h:All2 (RV φ w S) vs xs):RV φ w S (.tup vs) (.tuple xs.toArray):=
 .tup _ _ h.length fun i x d hx hd=>by
  obtain⟨d',e1,e2⟩:=h.get hx
  grind
theorem RV.pkI(k:Int×Int):RV φ w S (.agg [.t (.int .i64 k.1),.t (.int .i64 k.2)]) (pk k):= .agg (.cons (RT.int _ _) (.cons (RT.int _ _) .nil))
theorem VR.pkI{xt:XSt U}(k:Int×Int):VR N xt (.agg [.t ⟨.int .i64,k.1⟩,.t ⟨.int .i64,k.2⟩]) (.agg [.t (.int .i64 k.1),.t (.int .i64 k.2)]):= .agg (.cons (.t _) (.cons (.t _) .nil))
theorem jL{w:World}{q b:Nat}{o:Obj}(h:b≠q):(ChangeMaps.setBlock w q o).heap[b]?=w.heap[b]?:=by
 simp[ChangeMaps.setBlock,Ne.symm h]
theorem sZ{w:World}{q:Nat}{o:Obj}(h:q < w.heap.size):(ChangeMaps.setBlock w q o).heap[q]?=some o:=by
 grind[ChangeMaps.setBlock]
theorem TS.set(T:TS Γ nt gs s φ S a w){q:Nat}(o:Obj)(hm:q∈gs)(hw:Γ.w0.heap.size<=q):TS Γ nt gs s φ S a (ChangeMaps.setBlock w q o):=
 T.write hm hw rfl rfl rfl (by simp[ChangeMaps.setBlock]) fun b hb=>jL hb
theorem aG{k:Nat}{x:Value}(h:a.tmps[k]?=some x):a.eval (.tmp k)=x:=by simp[Act.eval,h]
section
variable {ops:Array Oper} {Q:Exit->Act->World->Prop} {i:Nat} {rest:List Nat} {o:Oper}
theorem man1(ho:ops[i]?=some o){d:Nat}(hd:o.dst=some d)(hg:o.guard=none){x:Value}(hrun:(execOp a.eval o).run P w= .ok (.value x) w')(h:wpOps P ops Q rest (a.put (some d) x) w'):wpOps P ops Q (i::rest) a w:=by
 simp[wpOps,ho,Region.wanted,hg,Oper.wp,hrun];refine .inl ?_;show wpOps P _ Q _ _ w'
 grind
theorem man0(ho:ops[i]?=some o)(hd:o.dst=none)(hg:o.guard=none)(hrun:(execOp a.eval o).run P w= .ok .skip w')(h:wpOps P ops Q rest a w'):wpOps P ops Q (i::rest) a w:=by
 simp[wpOps,ho,Region.wanted,hg,Oper.wp,hrun];refine .inl ?_;show wpOps P _ Q _ _ w';rw[hd];exact h
theorem manC(ho:ops[i]?=some o){d:Nat}(hd:o.dst=some d)(hg:o.guard=none){f:Nat}{args args':Array Value}(hrun:(execOp a.eval o).run P w= .ok (.enter f args') w)(ha:args'=args)(h:Calls P f args w fun e w'=>∃v,e= .returned v/\wpOps P ops Q rest (a.put (some d) v) w'):wpOps P ops Q (i::rest) a w:=by
 subst ha;simp[wpOps,ho,Region.wanted,hg,Oper.wp,hrun];refine .inl (h.mono ?_)
 grind
end
theorem o0{α:Type}{o:Option α}{d:α}(h:o.isSome=true):o=some (o.getD d):=by cases o <;> simp_all
theorem cU(L:List Nat){id:Nat}{ops:Array Oper}{Q:Exit->Act->World->Prop}(h:wpOps P ops Q L a w)(hL:List.range ops.size=L:=by kernel_rfl):(Code.region id ops false).wp P Q a w:=wp_region (hL▸h)
def sl(ops:Array Oper)(k m:Nat):List Oper:=(ops.toList.drop k).take m
theorem xz{ops:Array Oper}{k m:Nat}(i:Nat)(h:i < (sl ops k m).length):(sl ops k m)[i]?=ops[k+i]?:=by
 grind[sl]
theorem TS.op (T : TS Γ nt gs s φ S a w) (kk : Nat) (k m : Nat) (env : List (Nat×SV)) (st : List SB) {h : Hs U.D (hE env st)} {ops : Array Oper} {L : List Nat} {Q : Exit -> Act -> World -> Prop} {fs : List (FSpec U)} (hfo : FoC P fs)
 (hx:cu (foS fs) none ((aP P nt ops (sl ops k m)).getD []) s.2.2 [] [] s.1 s.2.1 (fun gl e J=>xgoto kk [] ⟨env,st⟩ (hE env st) (dU gl e) J (s.2.2+16*((aP P nt ops (sl ops k m)).getD []).length))=some h)
 (hQ:∀φ' S' a' w',TS Γ nt gs ((fil U ⟨env,st⟩ (Hs.cells U.D (hE env st) h)).1,(fil U ⟨env,st⟩ (Hs.cells U.D (hE env st) h)).2,st.length) φ' S' a' w'->Nx gs kk φ w φ' w'->wpOps P ops Q (L.drop m) a' w')
 (hr:(aP P nt ops (sl ops k m)).isSome=true:=by kernel_rfl) (hkk:Nat.ble kk s.2.2=true:=by rfl) (hk:Γ.k<=kk:=by exact Nat.zero_le _) (hL:List.range' k (sl ops k m).length++L.drop m=L:=by kernel_rfl):wpOps P ops Q L a w:=by
 rw[<-hL];exact T.ops hfo k (o0 hr) xz (aV hkk) hk hx hQ
theorem TS.pc (T : TS Γ nt gs s φ S a w) (kk : Nat) (outs : List OSpec) {o : OSum U outs} {code : Code} {Q : Exit -> Act -> World -> Prop} {fs : List (FSpec U)} (hfo : FoC P fs)
 (hx:xexec (foS fs) (fun _=>none) kk ((resolve P nt code).getD .skip) 0 s.1 s.2.1 s.2.2 (oput kk outs)=some o)
 (hQ:∀φ' S' a' w',TS Γ nt gs (oout outs o).2 φ' S' a' w'->Nx gs kk φ w φ' w'->Q (oout outs o).1 a' w')
 (hr:(resolve P nt code).isSome=true:=by kernel_rfl) (hkk:Nat.ble kk s.2.2=true:=by rfl) (hk:Γ.k<=kk:=by exact Nat.zero_le _):code.wp P Q a w:=by
 refine wp_mono (T.piece hfo (o0 hr) (aV hkk) hk hx) ?_
 grind
theorem ld1 {o : Oper} {ty : TypeId} {x : Operand} (ho : o.op = .load ty x) (hl : bT P ty = some (false, 1)) {b off : Nat} {vs : List Value} {E : TypeId} (hx : a.eval x = .pointer (some ⟨b, off, none⟩)) (hh : w.heap[b]? = some (.cells vs.toArray E (0, 0))) {v : Value} (hv : vs[off]? = some v):
 (execOp a.eval o).run P w= .ok (.value v) w:=by
 obtain⟨h1,h2,h3⟩:=jP hl;have:(loadVar ty ⟨b,off,none⟩).run P w= .ok v w:=by
  have:=mj h1 h2 (vs:=[v]) (fun j hj=>by
   have:j=0:=by grind
   subst this
   rw[bc hh,Nat.add_zero,hv];rfl) rfl h3
  grind
 simp_all [execOp,Instr.loadAt,Instr.sureAddr]
theorem TS.ret{fn:Func}{R:Ending->World->Prop}(T:TS Γ nt gs s φ S a w){t:Nat}{c:Cell U.D}(hr:fn.results=#[.tmp t])(hk:lk s.1 t=some (.c (.t c)))(h:∀x,RT w S (c.enc U) x->R (.returned x) w):bodyPost P fn R .ret a w:=by
 obtain⟨x,h1,h2⟩:=T.cell hk;refine⟨T.defers,x,?_,h x h2⟩;simp_all[nb,rvSem]
def Kp(S:Stab)(w:World)(S':Stab)(w':World):Prop:=Ext (fun _=>False) S S' w w'/\∀b j,S' b j->b < w'.heap.size
theorem Kp.heap{S S':Stab}{w w':World}(h:Kp S w S' w'){b:Nat}{o:Obj}(hb:w.heap[b]?=some o):w'.heap[b]?=some o:=by
 rw[h.1.block b (Array.getElem?_eq_some_iff.1 hb).1 (fun x=>x)]
 grind
theorem xA{a:Act}{d:Nat}{x:Value}(h:d < a.tmps.size):(a.put (some d) x).tmps[d]?=some x:=by grind[Act.put]
theorem TS.size(T:TS Γ nt gs s φ S a w):a.tmps.size=nt:=let⟨⟨_,_,_,_,R,_⟩,_⟩:=T;R.size
def oz(P:Program)(t:TypeId):Bool:=match P.underlying t with
 | some (.map kt vt)=>match P.underlying kt with
  | some (.array 2 it)=>match P.underlying it,P.info? it,P.info? vt with
   | some (.int .i64),some i,some vi=>Nat.beq i.size 1 && (match vi.zero with
    | some (.bool false)=>true
    | _=>false)
   | _,_,_=>false
  | _=>false
 | _=>false
theorem PairMap.of{t:TypeId}(h:oz P t=true):PairMap P t:=by
 unfold oz at h
 (repeat' split at h) <;> simp at h
 rename_i h1 _ _ h2 _ _ _ _ h3 h4 h5 _ h6;exact⟨_,_,_,_,_,by omega,by grind,h3,h4,h,h5,h6⟩
section
variable {o:Oper} {ty:TypeId} {r:Nat} {es:Array MapEntry} {clk:Nat} {ks:List (Int×Int)}
theorem lk1 {x k : Operand} (ho : o.op = .lookup ty x k false) (hm : PairMap P ty) (hx : a.eval x = .map (some r)) {p : Int×Int} (hk : a.eval k = pk p) (hh : w.heap[r]? = some (.map es clk)) (hs : setP ks es.toList):
 (execOp a.eval o).run P w= .ok (.value (.bool (hasP ks p))) w:=by
 have:=u4 hm hh hs p;simp_all[execOp]
theorem mk1 {x : Operand} (ho : o.op = .makeMap ty (some x)) (hm : PairMap P ty) {k : IntKind} {n : Int} (hx : a.eval x = .int k n):
 (execOp a.eval o).run P w= .ok (.value (.map (some w.heap.size))) (w.alloc (.map #[] 0)):=by
 obtain⟨kt,vt,it,i,vi,hu,_⟩:=hm.ex;simp_all[execOp,Instr.makeMap,run_underlying,asInt,asIntOf]
theorem al1 (ho : o.op = .alloc ty) {z : Value} (hz : (P.info? ty).bind TypeInfo.zero = some z) (h1 : z.cells = #[z]):
 (execOp a.eval o).run P w= .ok (.value (.pointer (some ⟨w.heap.size,0,none⟩))) (w.alloc (.cells #[z] ty (0,0))):=by
 obtain⟨i,hi,hz⟩:=Option.bind_eq_some_iff.1 hz;simp_all[execOp,Instr.alloc,zeroValue,typeInfo,newVar,newRow]
theorem st1 {x y : Operand} (ho : o.op = .store ty x y) (hks : sizeT P ty = some 1) {b : Nat} {u v : Value} {E : TypeId} (hx : a.eval x = .pointer (some ⟨b, 0, none⟩)) (hy : a.eval y = v) (hv : v.cells = #[v]) (h1 : v.oneCell' = true) (hh : w.heap[b]? = some (.cells #[u] E (0, 0))):
 ∃w',(execOp a.eval o).run P w= .ok .skip w'/\w'.os=w.os/\w'.tape=w.tape/\w'.output=w.output/\w'.heap.size=w.heap.size/\w'.heap[b]?=some (.cells #[v] E (0,0))/\∀b':Nat,b'≠b->w'.heap[b']?=w.heap[b']?:=by
 obtain⟨w',h,k1,k2,k3,k4,k5,k6⟩:=bL (P:=P) [v] 0 0 _ w hh (by simp) (by grind);refine⟨w',?_,k1,k2,k3,k4,by simpa[fillV]using k5,k6⟩;simp_all[execOp,Instr.storeAt,Instr.sureAddr,storeVar,bd]
theorem manSt {ops : Array Oper} {Q : Exit -> Act -> World -> Prop} {i : Nat} {rest : List Nat} (ho : ops[i]? = some o) (hd : o.dst = none) (hg : o.guard = none) {x y : Operand} (hop : o.op = .store ty x y) (hks : sizeT P ty = some 1) {b : Nat} {u v : Value} {E : TypeId} (hx : a.eval x = .pointer (some ⟨b, 0, none⟩)) (hy : a.eval y = v) (hv : v.cells = #[v]) (h1 : v.oneCell' = true) (hh : w.heap[b]? = some (.cells #[u] E (0, 0)))
 (h:∀w':World,w'.os=w.os->w'.tape=w.tape->w'.output=w.output->w'.heap.size=w.heap.size->w'.heap[b]?=some (.cells #[v] E (0,0))->(∀b':Nat,b'≠b->w'.heap[b']?=w.heap[b']?)->wpOps P ops Q rest a w'):wpOps P ops Q (i::rest) a w:=
 let⟨w',h0,k1,k2,k3,k4,k5,k6⟩:=st1 hop hks hx hy hv h1 hh
 man0 ho hd hg h0 (h w' k1 k2 k3 k4 k5 k6)
theorem up1 {x k y : Operand} (ho : o.op = .mapUpdate ty x k y) (hm : PairMap P ty) (hx : a.eval x = .map (some r)) {p : Int×Int} (hk : a.eval k = pk p) (hy : a.eval y = .bool true) (hh : w.heap[r]? = some (.map es clk)) (hs : setP ks es.toList) (hb : cC es.toList clk):
 ∃es' clk',(execOp a.eval o).run P w= .ok .skip {w with heap:=w.heap.setIfInBounds r (.map es' clk')}/\setP (addP ks p) es'.toList/\cC es'.toList clk':=by
 obtain⟨es',clk',h1,h2,h3⟩:=u5 hm hh hs hb p;exact⟨es',clk',by simp_all[execOp],h2,h3⟩
theorem manUp {ops : Array Oper} {Q : Exit -> Act -> World -> Prop} {i : Nat} {rest : List Nat} (ho : ops[i]? = some o) (hd : o.dst = none) (hg : o.guard = none) {x k y : Operand} (hop : o.op = .mapUpdate ty x k y) (hm : PairMap P ty) (hx : a.eval x = .map (some r)) {p : Int×Int} (hk : a.eval k = pk p) (hy : a.eval y = .bool true) (hh : w.heap[r]? = some (.map es clk)) (hs : setP ks es.toList) (hb : cC es.toList clk)
 (h:∀es' clk',setP (addP ks p) es'.toList->cC es'.toList clk'->wpOps P ops Q rest a {w with heap:=w.heap.setIfInBounds r (.map es' clk')}):wpOps P ops Q (i::rest) a w:=
 let⟨es',clk',h0,h1,h2⟩:=up1 hop hm hx hk hy hh hs hb
 man0 ho hd hg h0 (h _ _ h1 h2)
theorem rg1 {x : Operand} (ho : o.op = .range ty x) (hm : PairMap P ty) (hx : a.eval x = .map (some r)) (hh : w.heap[r]? = some (.map es clk)):
 (execOp a.eval o).run P w= .ok (.value (.pointer (some ⟨w.heap.size,0,none⟩))) (w.alloc (.mapIter (some r) clk #[] clk)):=by
 obtain⟨kt,vt,it,i,vi,hu,_⟩:=hm.ex;have:=run_range_map w ty _ _ r es _ hu hh;simp_all[execOp]
theorem nx1 {x : Operand} (ho : o.op = .next x false) {q : Nat} {seen : Array Nat} (hx : a.eval x = .pointer (some ⟨q, 0, none⟩)) (hq : w.heap[q]? = some (.mapIter (some r) clk seen clk)) (hh : w.heap[r]? = some (.map es clk)) (hb : cC es.toList clk):
 ((leftOf es seen).size=0/\(execOp a.eval o).run P w= .ok (.value (.tuple #[.bool false])) w)\/
 ∃e∈(leftOf es seen).toList,∃w1:World,(w1=w\/w1=w.drew)/\(execOp a.eval o).run P w= .ok (.value (.tuple #[.bool true,e.key,e.val])) (ChangeMaps.setBlock w1 q (.mapIter (some r) clk (seen.push e.born) clk)):=by
 rcases run_next_at (P:=P) w o.type q r _ _ _ es _ hq hh hb.1 (Nat.le_refl _)with⟨h1,h2⟩ | ⟨e,he,w1,h1,h2⟩
 . simp_all[execOp]
 . exact .inr ⟨e,he,w1,h1,by simp_all[execOp]⟩
theorem manNx {ops : Array Oper} {Q : Exit -> Act -> World -> Prop} {i : Nat} {rest : List Nat} (ho : ops[i]? = some o) {d : Nat} (hd : o.dst = some d) (hg : o.guard = none) {x : Operand} (hop : o.op = .next x false) {q : Nat} {seen : Array Nat} (hx : a.eval x = .pointer (some ⟨q, 0, none⟩)) (hq : w.heap[q]? = some (.mapIter (some r) clk seen clk)) (hh : w.heap[r]? = some (.map es clk)) (hb : cC es.toList clk)
 (h0:(leftOf es seen).size=0->wpOps P ops Q rest (a.put (some d) (.tuple #[.bool false])) w) (h1:∀e,e∈(leftOf es seen).toList->∀w1,(w1=w\/w1=w.drew)->wpOps P ops Q rest (a.put (some d) (.tuple #[.bool true,e.key,e.val])) (ChangeMaps.setBlock w1 q (.mapIter (some r) clk (seen.push e.born) clk))):wpOps P ops Q (i::rest) a w:=by
 rcases nx1 (P:=P) hop hx hq hh hb with⟨g,hr⟩ | ⟨e,he,w1,hw,hr⟩
 . grind[man1]
 grind[man1]
theorem en1 {x : Operand} (ho : o.op = .entry x) {q : Nat} {seen : Array Nat} (hx : a.eval x = .pointer (some ⟨q, 0, none⟩)) {e : MapEntry} (hq : w.heap[q]? = some (.mapIter (some r) clk (seen.push e.born) clk)) (hh : w.heap[r]? = some (.map es clk)) (he : e ∈ es.toList) (hb : cC es.toList clk):
 (execOp a.eval o).run P w= .ok (.value (.tuple #[e.key,e.val])) w:=by
 have:=run_entry_at (P:=P) w q r _ _ es _ e hq hh he hb.2;simp_all[execOp]
end
theorem Kp.refl{S:Stab}{w:World}(h:∀b j,S b j->b < w.heap.size):Kp S w S w:=⟨Ext.refl,h⟩
theorem FnC.hand {f : Nat} {sa : List SV} {F : Hs U.D (fE f sa (hh .bool)).ts -> Option (Hs U.D (fE f sa (hh .bool)).us)} (hb : aH P f = true)
 (h:∀(x:Hs U.D (fE f sa (hh .bool)).ts) (b:Bool),F x=some b->∀(φ:Phi) (S:Stab) (w:World) (args1:List V) (vs:List Value),(∀b j,S b j->b < w.heap.size)->All2 (VR 0 []) (filVs sa (Hs.cells U.D _ x)).1 args1->All2 (RV φ w S) args1 vs->V.bnd.V.bnds (lt 0) args1=true->GS w (fun _=>False)->
  Calls P f vs.toArray w fun e w'=>∃S',e= .returned (.bool b)/\Kp S w S' w'):FnC P ((fE f sa (hh .bool)).s F):=by
 refine⟨hb,fun x b hx args1 J1 ha hS φ S w B hsim hsb hown hG hab vs hvs=>?_⟩;refine(h x b hx φ S w args1 vs hsim.st ha hvs hab fun x hx=>⟨fun h=>h,(hG x hx).2⟩).mono ?_
 rintro e w' ⟨S',rfl,k⟩
 refine⟨_,.c _,φ,S',[],0,rfl,⟨rfl,.c (.t _),fun b x h=>by simp[lk,FSpec.rest,FEnt.s,filS]at h⟩,RV.boolI b,rfl,⟨fun b x hx=>by simp[sget]at hx,fun b b' x y hx=>by simp[sget]at hx,k.2⟩,fun b x hx=>by simp[sget]at hx,⟨k.1.os,k.1.tape,k.1.output,k.1.size,fun b h _=>k.1.block b h (fun x=>x),k.1.mono,fun b j hj=>?_⟩,fun b x hx=>by grind[sget],fun _ _=>rfl⟩
 rcases k.1.snew b j hj with h | h | h
 all_goals grind
end
end
end Go.Proofs.YtkbmjabicjpmjaaGreatDoor.Shv
