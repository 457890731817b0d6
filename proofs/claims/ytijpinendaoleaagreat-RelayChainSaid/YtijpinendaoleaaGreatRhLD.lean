/- The library of this proof, part D: an abstract machine for the code of the program, and its soundness. -/
import Derived.Shelf.Strings.Builder1
import Derived.ChangeArms
import Derived.ChangeStays
import Derived.ChangeSame
import Derived.SizedLaws
import Derived.Below
import Derived.WalkKit
import Derived.ProofKit
import Derived.OpenShut
import Derived.Laws.BitsLemmas
import Derived.Laws.Bits64
import Derived.Shelf.GgSortFunc.InsertionK
import Derived.Shelf.SlSortCmp.Insertion
import Derived.Sort.AssemblyPlain
import Derived.Lib.BitFns
import Derived.Test.YtijpinendaoleaaGreatRhLC

namespace Go.Proofs.YtijpinendaoleaaGreat.Shv
set_option linter.all false
section
open Go
variable {xb:List Nat}
variable {U:pK} {R:Type}
def Zw(gl:JF)(gd:Option (Nat×Bool))(dst:Option Nat):Bool:=
 match dst with
 | none=>true
 | some d=>(gl.all λe=>!(Nat.beq e.1 d) && !(Nat.beq e.2.1 d)) && (match gd with
  | some g=>!(Nat.beq g.1 d)
  | none=>true)
def Nz(dst:Option Nat)(v:hM U)(env:iy U):iy U:=
 match dst with
 | none=>env
 | some d=>(d,v)::env
def Qj(gl:JF)(gd:Option (Nat×Bool))(dst:Option Nat):JF:=
 match gd,dst with
 | some g,some d=>(d,g)::gl
 | _,_=>gl
abbrev NA(U:pK):=Nat->List (pv U)
abbrev Wx(U:pK):=iy U->Option (List (hM U))
def aLi(s:pv U)(getv:Wx U)(env:iy U)(J:hc U)(key:Nat):Option (iy U×hc U×List Nat×ey U.D s.ts):=
 match getv env with
 | none=>none
 | some vs=>match ajB J 0 0 s.st (asV s.Pl vs ([],[])) []with
  | (bs,Ri)=>match Wu Ri env J with
   | none=>none
   | some (env',J')=>match getv env' with
    | none=>none
    | some Xx=>match ae3 bs && ((bs.all λb=>Nat.ble (b+1) key) && (Nat.beq bs.length s.st.length && Nat.ble s.JZ.length (bs.length+16)))with
     | false=>none
     | true=>match YT bs s.Pl Xx,SG bs J' 0 s.st with
      | some a,some b=>match ey.dec U.D s.ts (a++b)with
       | some h=>some (env',J',bs,h)
       | none=>none
      | _,_=>none
def ajR(getv:Wx U)(env:iy U)(J:hc U)(key:Nat)(k:iy U->hc U->hM U->Option R):List (pv U)->Option R
 | []=>none
 | s::r=>match aLi s getv env J key with
  | none=>ajR getv env J key k r
  | some (env',J',bs,h)=>(s.F h) >>=λres=>match aav J' (s.rest res) 0 bs with
   | none=>none
   | some c=>if c=true then k env' (Zt J' bs (back bs key) (s.rest res)) ((s.res res).kp (back bs key))else none
def isNil{α:Type}:List α->Bool
 | []=>true
 | _=>false
def azl(s:pv U)(getv:Wx U)(env:iy U):Option (ey U.D s.ts):=
 match isNil s.st && isNil s.JZ,getv env with
 | true,some vs=>match vs.all MX,YT [] s.Pl vs with
  | true,some a=>ey.dec U.D s.ts a
  | _,_=>none
 | _,_=>none
def ajQ(getv:Wx U)(env:iy U)(g:Bool)(k:hM U->Option R):List (pv U)->Option R
 | []=>none
 | s::r=>match azl s getv env with
  | none=>ajQ getv env g k r
  | some h=>(if g=true then s.F h else some (ey.U3 U s.us)) >>=λres=>match MX (s.res res)with
   | true=>k (s.res res)
   | false=>none
def hasB(J:hc U)(b:Nat):Bool:=match fz J b with
 | some _=>true
 | none=>false
def hn.QY(J:hc U):hn U->Bool
 | .t _ | .IJ .. | .ee | .Ln | .Lm=>true
 | .ptr b _=>hasB J b
 | .pr b _ _ _=>hasB J b
 | .fn _ caps=>caps.all (hasB J)
 | .arr b=>match fz J b with
  | some x=>(match x.xn with
   | some _=>true
   | none=>false)
  | none=>false
 | .sub .. =>false
 | .pre .. =>false
 | .DJ .. =>false
 | .mp b=>hasB J b
 | .Jx _=>false
 | .pq b=>match fz J b with
  | some x=>(match x.xn with
   | some p=>Nat.beq p.1 1
   | none=>false)
  | none=>false
 | .dead=>false
def Ti(J:hc U):hM U->Bool
 | .c x=>x.QY J
 | .agg cs=>cs.all (hn.QY J)
 | .gJ vs=>go J vs
where go (J:hc U):List (hM U)->Bool
 | []=>true
 | v::vs=>Ti J v && go J vs
def hn.QG(J:hc U):hn U->C
 | .t c=>.t (c.enc U)
 | .IJ ty x o=>.IJ (ty.enc U x) o
 | .ee=>.ee
 | .Ln=>.Ln
 | .Lm=>.Lm
 | .fn f caps=>.fn f caps
 | .ptr b o=>.ptr b o
 | .pr b ty i o=>.pr b (ty.sz U) i o
 | .arr b=>match fz J b with
  | some x=>(match x.xn with
   | some p=>.arr b p.1 0 p.2
   | none=>.dead)
  | none=>.dead
 | .sub b hi len=>.MW b 1 hi len
 | .pre _ _=>.dead
 | .DJ .. =>.dead
 | .mp b=>.mp b
 | .Jx b=>.Jx b
 | .pq b=>match fz J b with
  | some x=>(match x.xn with
   | some p=>.pq b p.2
   | none=>.dead)
  | none=>.dead
 | .dead=>.dead
def O1(J:hc U):hM U->V
 | .c x=>.c (x.QG J)
 | .agg cs=>.agg (cs.map (hn.QG J))
 | .gJ vs=>.gJ (go J vs)
where go (J:hc U):List (hM U)->List V
 | []=>[]
 | v::vs=>O1 J v::go J vs
def NR(J:hc U):qJ U->Bool
 | .box cs=>cs.all (hn.QY J)
 | .arr _ _=>true
 | .rows .. =>false
 | .set _=>true
 | .buf _ _=>true
 | .kn _ c=>c.QY J
 | .nJ .. =>false
def afK(J:hc U):qJ U->h2
 | .box cs=>.box (cs.map (hn.QG J))
 | .arr ty l=>.arr (ty.sz U) (l.map (ty.enc U))
 | .rows sz _=>.arr sz []
 | .set ks=>.set ks
 | .buf E s=>.buf E s
 | .kn E c=>.kn E (c.QG J)
 | .nJ t l i o _=>.nJ (t.sz U) (l.map (t.enc U)) i o .dead
def VY(J:hc U):hc U->fu
 | []=>[]
 | (b,x)::r=>(b,afK J x)::VY J r
def axe(J:hc U)(l:hc U):Bool:=l.all λp=>Nat.ble (p.1+1) 16 && NR J p.2
def azk(s:pv U)(getv:Wx U)(env:iy U):Option (ey U.D s.ts):=
 match isNil s.st && Nat.ble s.JZ.length 16,getv env with
 | true,some vs=>match vs.all MX,YT [] s.Pl vs with
  | true,some a=>ey.dec U.D s.ts a
  | _,_=>none
 | _,_=>none
def alV(getv:Wx U)(env:iy U)(J:hc U)(key:Nat)(k:hc U->hM U->Option R):List (pv U)->Option R
 | []=>none
 | s::r=>match azk s getv env with
  | none=>alV getv env J key k r
  | some h=>(s.F h) >>=λres=>match Ti (s.rest res) (s.res res) && axe (s.rest res) (s.rest res)with
   | true=>k (Zt J [] (back [] key) (s.rest res)) ((s.res res).kp (back [] key))
   | false=>none
def hn.Ni :hn U->List Nat
 | .ptr b _ | .pr b _ _ _ | .arr b | .sub b _ _ | .pre b _ | .DJ b _ _ | .mp b | .Jx b | .pq b=>[b]
 | .fn _ caps=>caps
 | _=>[]
def hM.Ni :hM U->List Nat
 | .c x=>x.Ni
 | .agg cs=>cs.flatMap hn.Ni
 | .gJ _=>[]
def X4(l:List Nat)(b:Nat):Bool:=l.any λc=>Nat.beq c b
def aLj(xb:List Nat)(s:pv U)(getv:Wx U)(env:iy U)(J:hc U)(key:Nat):Option (List Nat×ey U.D s.ts):=
 match getv env with
 | none=>none
 | some vs=>match ajB J 0 0 s.st (asV s.Pl vs ([],[])) []with
  | (bs,Ri)=>match isNil Ri && (ae3 bs && ((bs.all λb=>Nat.ble (b+1) key && ((X4 (vs.flatMap hM.Ni) b || X4 xb b) && hasB J b)) && (Nat.beq bs.length s.st.length && (Nat.ble bs.length s.JZ.length && Nat.ble s.JZ.length (bs.length+16)))))with
   | false=>none
   | true=>match YT bs s.Pl vs,SG bs J 0 s.st with
    | some a,some b=>match ey.dec U.D s.ts (a++b)with
     | some h=>some (bs,h)
     | none=>none
    | _,_=>none
def aww(n:Nat)(J:hc U)(l:hc U):Bool:=l.all λp=>Nat.ble (p.1+1) n && NR J p.2
def ahJ(xb:List Nat)(getv:Wx U)(env:iy U)(J:hc U)(key:Nat)(k:hc U->hM U->Option R):List (pv U)->Option R
 | []=>none
 | s::r=>match aLj xb s getv env J key with
  | none=>ahJ xb getv env J key k r
  | some (bs,h)=>(s.F h) >>=λres=>match Ti (s.rest res) (s.res res) && aww (bs.length+16) (s.rest res) (s.rest res),aav J (s.rest res) 0 bs with
   | true,some c=>if c=true then k (Zt J bs (back bs key) (s.rest res)) ((s.res res).kp (back bs key))else none
   | _,_=>none
def aM6(getv:Wx U)(env:iy U)(l:List (pv U)):Bool:=l.any λs=>(azk s getv env).isSome
def aM7(getv:Wx U)(env:iy U)(l:List (pv U)):Bool:=l.any λs=>(azl s getv env).isSome
def a1L(gd:Option (Nat×Bool))(getv:Wx U)(env:iy U)(l:List (pv U)):Bool:=
 match gd with
 | some _=>!(aM7 getv env l)
 | none=>false
def aNu(d:Option (List Nat)):List Nat:=match d with
 | some l=>l
 | none=>[]
def aAd(fo:NA U)(d:Option (List Nat))(gd:Option (Nat×Bool))(f:Nat)(getv:Wx U)(gl:JF)(env:iy U)(J:hc U)(key:Nat)(k:iy U->hc U->hM U->Option R):Option R:=
 match gd with
 | none=>match d with
  | none=>ajR getv env J key k (fo f)
  | some xb=>match aM6 getv env (fo f)with
   | true=>alV getv env J key (λJ v=>k env J v) (fo f)
   | false=>ahJ xb getv env J key (λJ v=>k env J v) (fo f)
 | some _=>match Xc gl env adq gd with
  | some g=>ajQ getv env g (λv=>k env J v) (fo f)
  | none=>none
abbrev UD :=List (Nat×Bool)
def aja(nf:UD)(gl:JF):Nat->Option (Nat×Bool)->Bool
 | 0,_=>false
 | _,none=>false
 | QK+1,some (t,b)=>(nf.any λg=>Nat.beq g.1 t && (g.2==b)) || aja nf gl QK (fz gl t)
def VE(nf:UD)(dst:Option Nat):Bool:=
 match dst with
 | none=>true
 | some d=>nf.all λg=>!(Nat.beq g.1 d)
def as9 :hM U:= .c (.t ⟨.bool,false⟩)
def aen(fo:NA U)(d:Option (List Nat))(o:kx)(key:Nat)(gl:JF)(nf:UD)(env:iy U)(J:hc U)(k:JF->UD->iy U->hc U->Option R):Option R:=
 match Zw gl o.guard o.dst && VE nf o.dst with
 | false=>none
 | true=>match aja nf gl adq o.guard with
  | true=>match Xc gl env adq o.guard with
   | some _=>k (Qj gl o.guard o.dst) nf (Nz o.dst as9 env) J
   | none=>none
  | false=>match o.op with
   | .call f args=>match a1L o.guard (λe=>Vx gl o.guard e args) env (fo f)with
    | true=>match Xc gl env adq o.guard,o.guard with
     | some g,some gd=>if g=true then ahJ (aNu d) (λe=>Vx gl o.guard e args) env J key (λJ v=>k (Qj gl o.guard o.dst) nf (Nz o.dst v env) J) (fo f)else k (Qj gl o.guard o.dst) (gd::nf) (Nz o.dst as9 env) J
     | _,_=>none
    | false=>aAd fo d o.guard f (λe=>Vx gl o.guard e args) gl env J key λenv J v=>k (Qj gl o.guard o.dst) nf (Nz o.dst v env) J
   | .Re x args=>match d,o.guard,vn gl none env x with
    | none,none,some (.c (.fn f _))=>ajR (λe=>match vn gl none e x,Vx gl none e args with
     | some (.c (.fn afT YS)),some vs=>match Nat.beq afT f with
      | true=>some (vs++YS.map λb=>.c (.ptr b 0))
      | false=>none
     | _,_=>none) env J key (λenv J v=>k gl nf (Nz o.dst v env) J) (fo f)
    | some _,none,some (.c (.fn f []))=>ajQ (λe=>Vx gl none e args) env true (λv=>k gl nf (Nz o.dst v env) J) (fo f)
    | _,_,_=>none
   | op=>match l3 gl o.guard env J key op with
    | none=>none
    | some (c,v,J')=>match o.guard with
     | none=>if c=true then k gl nf (Nz o.dst v env) J' else none
     | some gd=>match Xc gl env adq (some gd)with
      | none=>none
      | some g=>match op.neutral with
       | true=>if(c || !g)=true then k (Qj gl o.guard o.dst) nf (Nz o.dst v env) J else none
       | false=>if g=true then(if c=true then k (Qj gl o.guard o.dst) nf (Nz o.dst v env) J' else none)else k (Qj gl o.guard o.dst) (gd::nf) (Nz o.dst as9 env) J
def aK7(J:hc U):hn U->List (Nat×eb)
 | .arr b=>match fz J b with
  | some (.arr t _)=>[(b,t)]
  | _=>[]
 | _=>[]
def a1v(J:hc U):hM U->List (Nat×eb)
 | .c x=>aK7 J x
 | .agg cs=>cs.flatMap (aK7 J)
 | .gJ _=>[]
def azh(gl:JF)(gd:Option (Nat×Bool))(env:iy U)(J:hc U)(xs:List er):List (Nat×eb):=
 xs.flatMap λx=>match vn gl gd env x with
  | some v=>a1v J v
  | none=>[]
def aoX(l:List (Nat×eb))(env:iy U)(J:hc U):Option (iy U×hc U):=
 match l with
 | []=>none
 | _=>Wu l env J
def azj(gl:JF)(o:kx)(env:iy U)(J:hc U):Option (iy U×hc U):=
 match o.op with
 | .slc _ x _ _=>match vn gl o.guard env x with
  | some (.c (.arr b))=>match fz J b with
   | some (.arr t _)=>Wu [(b,t)] env J
   | _=>none
  | _=>none
 | .call _ args=>match o.guard with
  | some _=>aoX (azh gl o.guard env J args) env J
  | none=>none
 | .bsliceT _ _ _ _ ps=>aoX (azh gl o.guard env J (ps.map Prod.snd)) env J
 | .bslice _ _ _ ps=>aoX (azh gl o.guard env J (ps.map Prod.snd)) env J
 | _=>none
def aqx(fo:NA U)(d:Option (List Nat))(o:kx)(key:Nat)(gl:JF)(nf:UD)(env:iy U)(J:hc U)(k:JF->UD->iy U->hc U->Option R):Option R:=
 match d with
 | some xb=>aen fo (some xb) o key gl nf env J k
 | none=>match azj gl o env J with
  | none=>aen fo none o key gl nf env J k
  | some p=>aen fo none o key gl nf p.1 p.2 k
def abf(fo:NA U)(d:Option (List Nat)):List kx->Nat->JF->UD->iy U->hc U->(JF->iy U->hc U->Option R)->Option R
 | [],_,gl,_,env,J,k=>k gl env J
 | o::r,key,gl,nf,env,J,k=>aqx fo d o key gl nf env J λgl nf env J=>abf fo d r (key+16) gl nf env J k
def anM(gl:JF)(k:Nat):Bool:=gl.any λe=>Nat.beq e.1 k
def clean(gl:JF):iy U->iy U
 | []=>[]
 | (k,v)::r=>match anM gl k with
  | true=>clean gl r
  | false=>(k,v)::clean gl r
def alW(gl:JF)(env:iy U):iy U:=
 match gl with
 | []=>env
 | _=>clean gl env
structure JO (key:Nat) (gl:JF) (nf:UD) (env:iy U) (J:hc U) (env1:Env) (J1:fu) (G:Nat->Bool):Prop where
 OI:r3 key J G env env1
 b9:OF gl env G
 K9:pJ key J J1
 dy:∀g,g∈nf->pa env G (some g)=false
section
variable {P:Program} {kk key:Nat} {J J':hc U} {J1 hy:fu} {env:iy U} {env1:Env} {G:Nat->Bool} {gl:JF} {gd:Option (Nat×Bool)} {nf:UD} {dst:Option Nat} {v:hM U} {v1:V}
theorem awd{d:Option Nat}{v:hM U}{env:iy U}{k:Nat}:fz (Nz d v env) k=if d=some k then some v else fz env k:=by
 cases d with
 | none=>simp[Nz]
 | some d=>
  simp only[Nz,fz];cases h:Nat.beq d k with
  | true=>rw[q4 h];simp
  | false=>
   have:=PC h;simp[this]
theorem aqy{o:Option (Nat×Bool)}{g:Bool}(h:Xc gl env adq o=some g):o=none\/∃t b y,o=some (t,b)/\LN env t b=some y:=by
 cases o with
 | none=>exact .inl rfl
 | some x=>
  obtain⟨t,b⟩:=x;obtain⟨y,bJ⟩:=aVR h
  grind
theorem aF8(b9:OF gl env G)(dy:∀g,g∈nf->pa env G (some g)=false):∀{QK:Nat} {gd:Option (Nat×Bool)},aja nf gl QK gd=true->pa env G gd=false
 | 0,gd,h=>by simp[aja]at h
 | QK+1,none,h=>by simp[aja]at h
 | QK+1,some (t,b),h=>by
  simp only[aja,Qp,ajg,k0,RF]at h;rcases h with⟨⟨Lq,hq⟩,hm,h1,ah⟩ | h
  . have:=q4 h1
    grind
  . have:=aF8 b9 dy h;rw[b9.fz t]at this;simp[pa,this]
theorem JO.bind(he:r3 key J' G env env1)(b9:OF gl env G)(dx:pJ key J' hy)(dy:∀g,g∈nf -> pa env G (some g)=false)(cv:km key J' v v1)(a7:gd=none \/ ∃t b y,gd=some (t,b) /\ LN env t b=some y)(cJ:Zw gl gd dst=true)(KV:VE nf dst=true):
 JO key (Qj gl gd dst) nf (Nz dst v env) J' (JB env1 dst (pa env G gd) v1) hy (λk=>if dst=some k then pa env G gd else G k):=by
 refine⟨λk w hk=>?_,?_,dx,λg aJV=>?_⟩
 . rw[awd]at hk;rw[aaY];split at hk
   . rename_i h;cases hk;rw[ao h,ao h];exact⟨v1,rfl,cv⟩
   . rename_i h;rw[aJ h,aJ h];exact he k w hk
 . cases dst with
   | none=>
    have:Qj gl gd none=gl:=by cases gd <;> rfl
    rw[this];simp only[Nz,reduceCtorEq,uJ];exact b9
   | some d=>
    simp only[Zw,k0,r0,ab6]at cJ;have aZQ:∀k t b,fz gl k=some (t,b)->k≠d/\t≠d:=by
     intro k t b hk;have hm:∀{l:JF},fz l k=some (t,b)->(k,t,b)∈l:=by
      intro l
      induction l with
      | nil=>intro h;simp[fz]at h
      | cons e r ih=>
       obtain⟨ka,e⟩:=e;intro h;simp only[fz]at h;split at h
       . simp_all
       grind
     have:=cJ.1 _ (hm hk);exact⟨PC this.1,PC this.2⟩
    have U':∀t b,t≠d->LN (Nz (some d) v env) t b=LN env t b:=by
     intro t b ht;unfold LN;rw[awd,aJ (by simp;exactλe=>ht e.symm)]
    have aoe:∀k t b,fz gl k=some (t,b)->∃y,LN (Nz (some d) v env) t b=some y/\(if some d=some k then pa env G gd else G k)=((if some d=some t then pa env G gd else G t) && y):=by
     intro k t b hk;obtain⟨h1,ah⟩:=aZQ k t b hk;obtain⟨y,b',ea⟩:=b9.held k t b hk
     grind
    cases gd with
    | none=>
     refine⟨λk hk=>?_,λk t b hk=>aoe k t b hk⟩;by_cases aJM:some d=some k
     . rw[ao aJM];rfl
     . rw[aJ aJM];exact b9.free k hk
    | some g=>
     obtain⟨t0,b0⟩:=g;have ar1:t0≠d:=by
      have:=cJ.2;simp only[ab6]at this;exact PC this
     refine⟨λk hk=>?_,λk t b hk=>?_⟩
     . simp only[Qj,fz]at hk;split at hk
       . cases hk
       . rename_i al;rw[aJ (by simp;exact PC al)];exact b9.free k hk
     . simp only[Qj,fz]at hk;split at hk
       . rename_i al;cases hk;have:=q4 al;subst this;rcases a7 with h | ⟨t,b,y,h,bJ⟩
         . cases h
         . cases h;refine⟨y,by rw[U' _ _ ar1];exact bJ,?_⟩;rw[ao rfl,aJ (by simp;exactλe=>ar1 e.symm)];simp[pa,bJ]
       . exact aoe k t b hk
 . obtain⟨t,b⟩:=g;have h0:=dy _ aJV;cases dst with
   | none=>simpa[Nz]using h0
   | some d=>
    simp only[VE,r0,ab6]at KV;have aKu:t≠d:=PC (KV _ aJV);simp only[pa]at h0 ⊢;rw[aJ (by simp;exactλe=>aKu e.symm)];have:LN (Nz (some d) v env) t b=LN env t b:=by
     unfold LN;rw[awd,aJ (by simp;exactλe=>aKu e.symm)]
    rw[this];exact h0
theorem awx{N:Nat}{J:hc U}:km N J as9 (.c (.t (.bool false))):= .c (.t (U:=U) ⟨.bool,false⟩)
theorem aqP{o:kx}(h:JO key gl nf env J env1 J1 G)(PQ:o.guard=none \/ ∃t b y,o.guard=some (t,b) /\ LN env t b=some y)(b9:pa env G o.guard=false)(cJ:Zw gl o.guard o.dst=true)(KV:VE nf o.dst=true){v:hM U}{v1:V}(cv:km (key+16) J v v1):
 DStep xb P o key env1 J1 false v1 J1/\JO (key+16) (Qj gl o.guard o.dst) nf (Nz o.dst v env) J (JB env1 o.dst false v1) J1 (λk=>if o.dst=some k then false else G k):=by
 have U7:=aqM h.OI PQ;rw[b9]at U7;refine⟨.skip U7 rfl,?_⟩;have:=JO.bind (dst:=o.dst) (h.OI.mono (wJ.more (by omega))) h.b9 (h.K9.mono (Nat.le_add_right key 16)) h.dy cv PQ cJ KV;rw[b9]at this;exact this
theorem aHN{o:kx}{c:Bool}(h:JO key gl nf env J env1 J1 G)(ad:l3 gl o.guard env J key o.op=some (c,v,J'))(PQ:o.guard=none \/ ∃t b y,o.guard=some (t,b) /\ LN env t b=some y)(cJ:Zw gl o.guard o.dst=true)(KV:VE nf o.dst=true):
 (pa env G o.guard=true->c=true->∃v1 hy,DStep xb P o key env1 J1 true v1 hy/\JO (key+16) (Qj gl o.guard o.dst) nf (Nz o.dst v env) J' (JB env1 o.dst true v1) hy (λk=>if o.dst=some k then true else G k))/\
 (pa env G o.guard=false->o.op.neutral=true->∃v1,DStep xb P o key env1 J1 false v1 J1/\JO (key+16) (Qj gl o.guard o.dst) nf (Nz o.dst v env) J (JB env1 o.dst false v1) J1 (λk=>if o.dst=some k then false else G k)):=by
 obtain⟨⟨v1,cv,ch⟩,hk,dy⟩:=aFg h.OI h.b9 h.K9 ad;have U7:=aqM h.OI PQ;refine⟨λb9 b7=>?_,λb9 Uk=>?_⟩
 . obtain⟨p,hy,h1,ah,b'⟩:=ch b9 b7;rw[b9]at U7;have a7:o.op.drawn=true:=by
    generalize o.op=azc at ad;cases azc <;> first | rfl | (simp[l3]at ad)
   have hs:DStep xb P o key env1 J1 true v1 (if o.op.neutral then J1 else hy):= .op U7 a7 h1 (λ_=>ah) (.inr rfl);have e:(if o.op.neutral=true then J1 else hy)=hy:=by
    split
    . rename_i Uk;exact(alg Uk h1).symm
    . rfl
   rw[e]at hs;refine⟨v1,hy,hs,?_⟩;have:=JO.bind (dst:=o.dst) (h.OI.mono hk) h.b9 b' h.dy cv PQ cJ KV;rw[b9]at this;exact this
 . rw[dy Uk]at cv;obtain⟨h1,ah⟩:=aqP (P:=P) h PQ b9 cJ KV cv;exact⟨v1,h1,ah⟩
theorem aF9{x:hn U}(h:x.aau=true):x.abx.hZ []=x.abx:=by
 cases x <;> simp[hn.aau]at h <;> try rfl
 rename_i f caps;cases caps with
 | nil=>rfl
 | cons=>simp[hn.aau]at h
theorem awe :∀{x:hM U},MX x=true->(Lt x).hZ []=Lt x
 | .c x,h=>by simp only[MX]at h;simp only[Lt,V.hZ,aF9 h]
 | .agg cs,h=>by
  simp only[MX,r0]at h;simp only[Lt,V.hZ,List.map_map]
  congr 1
  exact List.map_congr_left λc b7=>aF9 (h c b7)
 | .gJ vs,h=>by
  simp only[MX]at h;simp only[Lt,V.hZ];rw[go vs h]
where go:∀(vs:List (hM U)),MX.go vs=true->V.hZ.go [] (Lt.go vs)=Lt.go vs
 | [],_=>rfl
 | v::vs,h=>by
  simp only[MX.go,k0]at h;simp only[Lt.go,V.hZ.go,awe h.1,go vs h.2]
def M'(P:Program)(fo:NA U):Prop:=∀f s,s∈fo f->s.f=f/\PE P f=true/\P7 P s
theorem awf{N:Nat}{ki:hc U}{x:hn U}{d:C}(h:k5 N ki x d)(hs:x.QY ki=true):d=x.QG ki:=by
 cases h <;> simp only[hn.QY,q2]at hs <;> try rfl
 . rename_i b sz n al ai;simp only[hn.QG]
   grind
 . rename_i b n al ai;simp only[hn.QG]
   grind
theorem aqg{ki:hc U}:∀{vs:List (hM U)} {i:Nat},(O1.go ki vs)[i]?=(vs[i]?).map (O1 ki)
 | [],i=>by simp[O1.go]
 | v::vs,0=>by simp[O1.go]
 | v::vs,i+1=>by simp[O1.go,aqg]
theorem aD0{ki:hc U}:∀{vs:List (hM U)} {i:Nat} {v:hM U},Ti.go ki vs=true->vs[i]?=some v->Ti ki v=true
 | [],i,v,_,h=>by simp at h
 | x::vs,0,v,hs,h=>by simp[Ti.go]at hs;simp at h;subst h;exact hs.1
 | x::vs,i+1,v,hs,h=>by simp[Ti.go]at hs;exact aD0 hs.2 (by simpa using h)
theorem awM{N:Nat}{ki:hc U}:∀{xs:List (hn U)} {ds:List C},f' (k5 N ki) xs ds->(∀x,x∈xs->x.QY ki=true)->ds=xs.map (hn.QG ki)
 | [],[],_,_=>rfl
 | x::xs,d::ds,.cons h1 ah,hs=>by
  rw[QX,<-awf h1 (hs x (by simp)),<-awM ah (λx ad=>hs x (by simp[ad]))]
theorem aGW{N:Nat}{ki:hc U}{x:hM U}{d:V}(h:km N ki x d):Ti ki x=true->d=O1 ki x:=by
 induction h with
 | c h=>intro hs;simp only[Ti]at hs;rw[awf h hs];rfl
 | agg h=>
  intro hs;simp only[Ti,r0]at hs;simp only[O1];rw[awM h hs]
 | gJ xs ds a6 h ih=>
  intro hs;simp only[Ti]at hs;simp only[O1]
  congr 1
  apply an0;intro i;rw[aqg];cases ad:xs[i]? with
  | none=>grind
  | some x=>
   have ay:=(sb.1 ad).1;have a7:=J9 (l:=ds) (i:=i) (by omega);rw[a7,Oh]
   congr 1
   exact ih i x _ ad a7 (aD0 hs ad)
theorem aHO{N:Nat}{ki:hc U}{x:qJ U}{y:h2}(h:P6 N ki x y)(hs:NR ki x=true):y=afK ki x:=by
 cases h with
 | box h=>simp only[NR,r0]at hs;simp only[afK];rw[awM h hs]
 | arr t l=>rfl
 | set ks=>rfl
 | buf E s=>rfl
 | kn h=>simp only[NR]at hs;simp only[afK];rw[awf h hs]
 | nJ=>simp[NR]at hs
 | rows=>simp[NR]at hs
theorem akP{ki:hc U}:∀{l:hc U} {b:Nat},e1 (VY ki l) b=(fz l b).map (afK ki)
 | [],b=>rfl
 | (k,x)::r,b=>by
  simp only[VY,e1,fz];cases h:Nat.beq k b with
  | true=>rw[ao (q4 h)];rfl
  | false=>rw[aJ (PC h)];exact akP
theorem a1c{k:Nat}{c:C}:c.kp (back [] k)=c.hL k:=by rfl
theorem aIG{k:Nat}:∀{v:V},v.kp (back [] k)=v.hL k
 | .c x=>by simp only[V.kp,V.hL,a1c]
 | .agg cs=>by rfl
 | .gJ vs=>by simp only[V.kp,V.hL];rw[go vs]
where go:∀(vs:List V),V.kp.go (back [] k) vs=V.hL.go k vs
 | []=>rfl
 | v::vs=>by simp only[V.kp.go,V.hL.go];rw[aIG,go vs]
theorem aEA{k:Nat}{J1:fu}:∀{s:fu},O0 J1 [] (back [] k) s=XT J1 k s
 | []=>rfl
 | (b,x)::r=>by
  simp only[O0,XT];rw[aEA];rfl
theorem aqq :∀{ss:List O2} {j:Nat} {a:J4 U} {i:Nat} {x:qJ U},fz (Oc j ss a) i=some x->j<=i/\i < j+ss.length
 | [],j,a,i,x,h=>by simp[Oc,fz]at h
 | s::ss,j,a,i,x,h=>by
  simp only[Oc]at h;split at h
  . simp only[fz]at h;split at h
    . simp_all
    . have:=aqq h;simp;omega
  . have:=aqq h;simp;omega
theorem aDt{bs:List Nat}:∀{caps:List Nat},(∀c,c∈caps->pos bs c=some c)->ZS bs caps=some caps
 | [],_=>rfl
 | c::cs,h=>by simp only[ZS,h c (by simp),aDt (caps:=cs) (λx ad=>h x (by simp[ad]))]
theorem aia{N:Nat}{ki:hc U}(al:∀b x,fz ki b=some x->b < N){x:hn U}(hs:x.QY ki=true):k5 N ki x (x.QG ki)/\yq ((x.QG ki).hZ (List.range N)) (x.QG ki):=by
 have bo:∀b,hasB ki b=true->pos (List.range N) b=some b:=by
  intro b h;unfold hasB at h;split at h
  . rename_i y bJ;exact YG ay9 (by simp[al b y bJ])
  . cases h
 cases x with
 | t c=>exact⟨.t c,yq.refl _⟩
 | ptr b o=>
  simp only[hn.QY]at hs;refine⟨.ptr b o,?_⟩;simp only[hn.QG,C.hZ,bo b hs];exact yq.refl _
 | pr b ty i o=>
  simp only[hn.QY]at hs;refine⟨.pr b ty i o,?_⟩;simp only[hn.QG,C.hZ,bo b hs];exact yq.refl _
 | IJ ty x o=>exact⟨.IJ ty x o,yq.refl _⟩
 | arr b=>
  simp only[hn.QY]at hs;split at hs
  . rename_i y bJ;split at hs
    . rename_i p a7;simp only[hn.QG,bJ,a7];refine⟨.arr b p.1 p.2 (al b y bJ) λz ga q eg=>?_,?_⟩
      . grind
      . simp only[C.hZ,bo b (by simp[hasB,bJ])];exact yq.refl _
    . cases hs
  . cases hs
 | DJ b hi len=>simp[hn.QY]at hs
 | sub b hi len=>simp[hn.QY]at hs
 | pre b h=>simp[hn.QY]at hs
 | mp b=>
  simp only[hn.QY]at hs;refine⟨.mp b,?_⟩;simp only[hn.QG,C.hZ,bo b hs];exact yq.refl _
 | Jx b=>simp[hn.QY]at hs
 | pq b=>
  simp only[hn.QY]at hs;split at hs
  . rename_i y bJ;split at hs
    . rename_i p a7;simp only[hn.QG,bJ,a7];refine⟨.pq b p.2 (al b y bJ) λz ga q eg=>?_,?_⟩
      . rw[bJ]at ga;cases ga;rw[a7]at eg;cases eg;have:=q4 hs
        grind
      . simp only[C.hZ,bo b (by simp[hasB,bJ])];exact yq.refl _
    . cases hs
  . cases hs
 | ee=>exact⟨.ee,yq.refl _⟩
 | Ln=>exact⟨.Ln,yq.refl _⟩
 | Lm=>exact⟨.Lm,yq.refl _⟩
 | fn f caps=>
  simp only[hn.QY,r0]at hs;refine⟨.fn f caps,?_⟩;have:ZS (List.range N) caps=some caps:=aDt λc b7=>bo c (hs c b7)
  simp only[hn.QG,C.hZ,this];exact yq.refl _
 | dead=>simp[hn.QY]at hs
theorem ah0{N:Nat}{ki:hc U}(al:∀b x,fz ki b=some x->b < N):∀{xs:List (hn U)},(∀x,x∈xs->x.QY ki=true)->f' (k5 N ki) xs (xs.map (hn.QG ki))/\f' yq ((xs.map (hn.QG ki)).map (C.hZ (List.range N))) (xs.map (hn.QG ki))
 | [],_=>⟨.nil,.nil⟩
 | x::xs,hs=>by
  obtain⟨h1,ah⟩:=aia al (hs x (by simp));obtain⟨b',ea⟩:=ah0 al (xs:=xs) (λx ad=>hs x (by simp[ad]));exact⟨.cons h1 b',.cons ah ea⟩
theorem aDa{ki:hc U}:∀{vs:List (hM U)},(O1.go ki vs).length=vs.length
 | []=>rfl
 | v::vs=>by simp[O1.go,aDa]
theorem alP{N:Nat}{ki:hc U}(al:∀b x,fz ki b=some x->b < N):∀{x:hM U},Ti ki x=true->km N ki x (O1 ki x)/\NT ((O1 ki x).hZ (List.range N)) (O1 ki x)
 | .c x,hs=>by
  obtain⟨h1,ah⟩:=aia al (x:=x) (by simpa[Ti]using hs);exact⟨.c h1,.c ah⟩
 | .agg cs,hs=>by
  simp only[Ti,r0]at hs;obtain⟨h1,ah⟩:=ah0 al hs;exact⟨.agg h1,.agg ah⟩
 | .gJ vs,hs=>by
  simp only[Ti]at hs;have:=go al vs hs;refine⟨.gJ _ _ (by rw[aDa]) λi x d ad a7=>?_,.gJ _ _ (by rw[aqf]) λi x y ad bJ=>?_⟩
  . rw[aqg,ad]at a7
    grind
  . rw[apu,bJ]at ad;simp at ad;subst ad;rw[aqg,gC]at bJ
    grind
where go {N:Nat} {ki:hc U} (al:∀b x,fz ki b=some x->b < N):∀(vs:List (hM U)),Ti.go ki vs=true->∀x,x∈vs->km N ki x (O1 ki x)/\NT ((O1 ki x).hZ (List.range N)) (O1 ki x)
 | [],_=>by simp
 | v::vs,hs=>by
  simp only[Ti.go,k0]at hs;have h1:=alP al hs.1;have ah:=go al vs hs.2;intro x ad;rcases LJ.1 ad with rfl | ad
  . exact h1
  . exact ah x ad
theorem aDu {fo:NA U} (wk:M' P fo) {o:kx} {f:Nat} {args:List er} (c8:o.op= .call f args) (h:JO key gl nf env J env1 J1 G) (t':o.guard=none) (cJ:Zw gl o.guard o.dst=true) (KV:VE nf o.dst=true)
 {k:hc U->hM U->Option R} {r:R}:∀{ss:List (pv U)},(∀s,s∈ss->s∈fo f)->alV (λe=>Vx gl o.guard e args) env J key k ss=some r->
 ∃v v1 J' hy,k J' v=some r/\DStep xb P o key env1 J1 true v1 hy/\JO (key+16) (Qj gl o.guard o.dst) nf (Nz o.dst v env) J' (JB env1 o.dst true v1) hy (λi=>if o.dst=some i then true else G i)
 | [],_,ad=>by simp[alV]at ad
 | s::ss,hm,ad=>by
  simp only[alV]at ad;split at ad
  . exact aDu wk c8 h t' cJ KV (λs hs=>hm s (by simp[hs])) ad
  . rename_i ai bo;unfold azk at bo;split at bo
    . rename_i vs PS Jl;simp only[k0]at PS;split at bo
      . rename_i a agb ch;rw[r0]at agb;obtain⟨af9,amX,aga⟩:=wk f s (hm s (by simp));obtain⟨p,vs1,b1,b2,k9⟩:=aft h.OI h.b9 Jl;have u':s.st=[]:=by cases u':s.st with | nil=>rfl | cons=>rw[u']at PS;simp[isNil]at PS
        have J8:=Qa PS.2;obtain⟨res,hres,hk⟩:=agx.1 ad;split at hk
        . rename_i Uo;simp only[k0]at Uo;obtain⟨ys,f1,a6,g1⟩:=aio (N:=key) (Jc:=([]:hc U)) (ajj) (λj b jb c7=>by simp at c7) ch
          obtain⟨Jq,eh,hj,I2⟩:=g1 vs1 b2.length (λi x d ad a7=>by
           obtain⟨zv,h1,ah⟩:=b2.get ad
           rw[a7]at h1;cases h1;exact ah)
          have X5:ey.cells U.D s.ts ai=a:=ey.MJ bo;have PO:s.args ai=ys:=by
           unfold pv.args;rw[X5];have:=f1 []
           grind
          have Y0:s.Q8 ai=[]:=by unfold pv.Q8;rw[u'];rfl
          have ane:s.st.length=0:=by rw[u'];rfl
          have QO:=aga ai res hres Jq [] (by
           rw[PO,Y0,ane]
           refine f'.Xp (by rw[a6,eh,b2.length]) λi x d ad a7=>I2 i x d ad a7) (by rw[Y0];intro b x ad;simp[fz]at ad)
          rw[af9,ane]at QO;have L6:f' NT vs1 Jq:=by
           refine f'.Xp eh.symm λi d zv a7 MM=>?_
           have Jl:=hj i d zv a7 MM;obtain⟨x,ad,ar⟩:=(b2.flip (R':=λd x=>km key J x d) λ_ _ h=>h).get a7;have hs:=agb x (JX ad);have:=alO ar hs;subst this;rw[awe hs]at Jl;exact Jl
          have am0:=Ju.conv L6 (J:=[]) (λb jb ad=>by simp[e1]at ad) QO
          have Ry:∀b x,fz (s.rest res) b=some x->b < 16/\NR (s.rest res) x=true:=by
           intro b x ad;have TJ:∀{l:hc U},fz l b=some x->(b,x)∈l:=by
            intro l
            induction l with
            | nil=>intro h;simp[fz]at h
            | cons e r ih=>
             obtain⟨ka,e⟩:=e;intro h;simp only[fz]at h;split at h
             . simp_all
             grind
           have:=Uo.2;unfold axe at this;rw[r0]at this;have ah:=this _ (TJ ad);simp only[k0]at ah;exact⟨by have:=Qa ah.1;omega,ah.2⟩
          have hbound:∀b x,fz (s.rest res) b=some x->b < s.JZ.length:=by
           intro b x ad;have:=(aqq ad).2;omega
          have axT:Ju P f vs1 [] 0 (λI1 Wl aer=>I1=O1 (s.rest res) (s.res res)/\Wl=VY (s.rest res) (s.rest res)/\aer=s.JZ.length):=by
           refine Ju.tidy am0 ?_
           rintro kJ s1 WB ⟨rfl,s4,qi⟩
           have Ru:=aGW s4 Uo.1;subst Ru;refine⟨List.range s.JZ.length,_,_,ay9,rfl,?_,?_,rfl,rfl,by simp⟩
           . exact(alP hbound Uo.1).2
           . intro b x ad;rw[akP,gC]at ad;obtain⟨a',MO,rfl⟩:=ad;obtain⟨h1,y,ah,b'⟩:=qi b a' MO;have bJ:=aHO b' (Ry b a' MO).2;subst bJ;have ht:=akG (bs:=List.range s.JZ.length) (i:=0) (j:=b) (r:=List.range s.JZ.length) (by simp[h1]) ah;rw[NI]at ht;refine⟨_,ht,?_⟩;cases a' with
             | box cs=>
              have Jd:=(Ry b _ MO).2;simp only[NR,r0]at Jd;exact .box (ah0 hbound Jd).2
             | arr ty l=>exact .arr
             | rows sz l=>have Jd:=(Ry b _ MO).2;simp[NR]at Jd
             | set ks=>exact .same
             | buf E s=>exact .same
             | kn E c=>have Jd:=(Ry b _ MO).2;exact .kn (aia hbound (by simpa[NR]using Jd)).2
             | nJ=>have Jd:=(Ry b _ MO).2;simp[NR]at Jd
          have aZs:V.c'.V.Is (lt 0) vs1=true:=by
           refine aeu λi d a7=>?_
           obtain⟨x,ad,ar⟩:=(b2.flip (R':=λd x=>km key J x d) λ_ _ h=>h).get a7;have hs:=agb x (JX ad);have:=alO ar hs;subst this;exact(ah' (N:=key) (J:=J) hs).2 _
          have b9:Nc env1 o.guard=some true:=by rw[t'];rfl
          have af2:(VY (s.rest res) (s.rest res)).all (λx=>decide (x.1 < 16))=true:=by
           have axZ:=Uo.2;unfold axe at axZ;have:∀{l:hc U},(l.all λp=>Nat.ble (p.1+1) 16 && NR (s.rest res) p.2)=true->(VY (s.rest res) l).all (λx=>decide (x.1 < 16))=true:=by
            intro l
            induction l with
            | nil=>intro _;rfl
            | cons e r ih=>
             obtain⟨b,x⟩:=e;intro h;simp only[aao,k0]at h;simp only[VY,aao,k0,ye];exact⟨by have:=Qa h.1.1;omega,ih h.2⟩
           grind
          have abL:km s.JZ.length (s.rest res) (s.res res) (O1 (s.rest res) (s.res res))/\pJ s.JZ.length (s.rest res) (VY (s.rest res) (s.rest res)):=by
           refine⟨(alP hbound Uo.1).1,λb x ad=>?_⟩;refine⟨hbound b x ad,afK (s.rest res) x,by rw[akP,ad];rfl,?_⟩;cases x with
           | box cs=>
            have Jd:=(Ry b _ ad).2;simp only[NR,r0]at Jd;exact .box (ah0 hbound Jd).1
           | arr ty l=>exact .arr ty l
           | rows sz l=>have Jd:=(Ry b _ ad).2;simp[NR]at Jd
           | set ks=>exact .set ks
           | buf E s=>exact .buf E s
           | kn E c=>have Jd:=(Ry b _ ad).2;exact .kn (aia hbound (by simpa[NR]using Jd)).1
           | nJ=>have Jd:=(Ry b _ ad).2;simp[NR]at Jd
          have lo:s.JZ.length<=([]:List Nat).length+16:=by simpa using J8
          have Xe:=pJ.axv (key:=key) (bs:=[]) ajj (by simp) lo h.K9 rfl abL.2;have arF:=km.kp (key:=key) (bs:=[]) (J:=J) ajj (by simp) lo h.K9 abL.1;have axA:=aqO (key:=key) (bs:=[]) (Jr:=s.rest res) ajj (by simp) h.K9 rfl;rw[aIG]at arF;rw[aEA]at Xe
          refine⟨_,(O1 (s.rest res) (s.res res)).hL key,_,XT J1 key (VY (s.rest res) (s.rest res)),hk,.own c8 b9 t' b1 (k9 (by rw[t'];rfl)) aZs J8 af2 axT rfl,?_⟩;have:=JO.bind (gd:=o.guard) (dst:=o.dst) (nf:=nf) (h.OI.mono axA) h.b9 Xe h.dy arF (.inl t') cJ KV;rw[t']at this ⊢;exact this
        . cases hk
      . cases bo
    . cases bo
theorem aEB :∀{args:List er} {p:Prop} {vs1:List V},O7 env1 args=some (p,vs1)->WY env1 args=vs1.flatMap V.Ni
 | [],p,vs1,h=>by simp[O7]at h;rw[h.2];rfl
 | x::xs,p,vs1,h=>by
  simp only[O7,hC,gC,hO]at h;obtain⟨⟨Pj,v0⟩,h1,⟨aaq,Xy⟩,ah,_,rfl⟩:=h;have ih:=aEB (p:=aaq) (vs1:=Xy) ah;simp only[WY,MS]at ih ⊢;rw[h1,ih]
theorem aHP{N:Nat}{ki:hc U}{x:hn U}{d:C}(h:k5 N ki x d):∀b,b∈x.Ni->b∈d.Ni:=by
 intro b al;cases h <;> simp only[hn.Ni,C.Ni]at al ⊢ <;> first | exact al | (simp at al)
theorem aGX{N:Nat}{ki:hc U}:∀{xs:List (hn U)} {ds:List C},f' (k5 N ki) xs ds->∀b,b∈xs.flatMap hn.Ni->b∈ds.flatMap C.Ni
 | [],[],_,b,al=>al
 | x::xs,d::ds,.cons h1 ah,b,al=>by
  simp only[MS,Nw]at al ⊢;rcases al with al | al
  . exact .inl (aHP h1 b al)
  . exact .inr (aGX ah b al)
theorem aWL{N:Nat}{ki:hc U}{x:hM U}{d:V}(h:km N ki x d):∀b,b∈x.Ni->b∈d.Ni:=by
 intro b al;cases h with
 | c h=>exact aHP h b al
 | agg h=>exact aGX h b al
 | gJ=>simp[hM.Ni]at al
theorem aGY{N:Nat}{ki:hc U}:∀{xs:List (hM U)} {ds:List V},f' (km N ki) xs ds->∀b,b∈xs.flatMap hM.Ni->b∈ds.flatMap V.Ni
 | [],[],_,b,al=>al
 | x::xs,d::ds,.cons h1 ah,b,al=>by
  simp only[MS,Nw]at al ⊢;rcases al with al | al
  . exact .inl (aWL h1 b al)
  . exact .inr (aGY ah b al)
theorem aGZ{l:List Nat}{b:Nat}(h:X4 l b=true):b∈l:=by
 simp only[X4,ajg]at h;simp_all
theorem auc {fo:NA U} (wk:M' P fo) {o:kx} {f:Nat} {args:List er} (c8:o.op= .call f args) (h:JO key gl nf env J env1 J1 G) (PQ:o.guard=none \/ ∃t b y,o.guard=some (t,b) /\ LN env t b=some y) (cJ:Zw gl o.guard o.dst=true) (KV:VE nf o.dst=true)
 (KW:pa env G o.guard=true) {k:hc U->hM U->Option R} {r:R}:∀{ss:List (pv U)},(∀s,s∈ss->s∈fo f)->ahJ xb (λe=>Vx gl o.guard e args) env J key k ss=some r->
 ∃v v1 J' hy,k J' v=some r/\DStep xb P o key env1 J1 true v1 hy/\JO (key+16) (Qj gl o.guard o.dst) nf (Nz o.dst v env) J' (JB env1 o.dst true v1) hy (λi=>if o.dst=some i then true else G i)
 | [],_,ad=>by simp[ahJ]at ad
 | s::ss,hm,ad=>by
  simp only[ahJ]at ad;split at ad
  . exact auc wk c8 h PQ cJ KV KW (λs hs=>hm s (by simp[hs])) ad
  . rename_i bs ai bo;obtain⟨af9,amX,aga⟩:=wk f s (hm s (by simp));obtain⟨res,hres,hk⟩:=agx.1 ad;unfold aLj at bo;split at bo
    . cases bo
    . rename_i vs Jl;split at bo;rename_i aNj Ri _;split at bo
      . cases bo
      . rename_i al;simp only[k0,r0]at al;obtain⟨_,Nn,ML,afW,axF,aZm⟩:=al;split at bo
        . rename_i a b ch QN;split at bo
          . rename_i adA axU;cases bo;have ix:=akH Nn;have ec:∀b,b∈bs->b < key:=λb al=>Qa (ML b al).1
            have hlen:=q4 afW;have hle:=Qa axF;have lo:=Qa aZm;obtain⟨p,vs1,b1,b2,k9⟩:=aft h.OI h.b9 Jl;have Ov:=alU ix QN;obtain⟨ys,f1,a6,g1⟩:=aio (N:=key) ix Ov ch
            obtain⟨Jq,eh,hj,I2⟩:=g1 vs1 b2.length (λi x d ad a7=>by
             obtain⟨zv,h1,ah⟩:=b2.get ad
             grind)
            obtain⟨azH,t1,t2⟩:=aq4 ix h.K9 QN;have X5:ey.cells U.D s.ts ai=a++b:=ey.MJ axU;have PO:s.args ai=ys:=by unfold pv.args;rw[X5,f1]
            have Y0:s.Q8 ai=Oc 0 s.st b:=by unfold pv.Q8;rw[X5,f1]
            have QO:=aga ai res hres Jq azH (by
             rw[PO,Y0,<-hlen]
             exact f'.Xp (by rw[a6,eh,b2.length]) λi x d ad a7=>I2 i x d ad a7) (by rw[Y0,<-hlen];exact t2)
            rw[af9,<-hlen]at QO;have L6:f' NT (vs1.map (V.hZ bs)) Jq:=by
             refine f'.Xp (by simp[eh]) λi d zv a7 MM=>?_
             grind
            have am0:=Ju.conv L6 t1 QO
            split at hk
            . rename_i c Uo b7;simp only[k0]at Uo;split at hk
              . rename_i am2;subst am2
                have Ry:∀b x,fz (s.rest res) b=some x->NR (s.rest res) x=true:=by
                 intro b x ad;have TJ:∀{l:hc U},fz l b=some x->(b,x)∈l:=by
                  intro l
                  induction l with
                  | nil=>intro h;simp[fz]at h
                  | cons e r ih=>
                   obtain⟨ka,e⟩:=e;intro h;simp only[fz]at h;split at h
                   . simp_all
                   grind
                 have:=Uo.2;unfold aww at this
                 grind
                have hbound:∀b x,fz (s.rest res) b=some x->b < s.JZ.length:=by
                 intro b x ad;have:=(aqq ad).2;omega
                have axT:Ju P f (vs1.map (V.hZ bs)) (MC bs J1 0 bs) bs.length (λI1 Wl aer=>I1=O1 (s.rest res) (s.res res)/\Wl=VY (s.rest res) (s.rest res)/\aer=s.JZ.length):=by
                 refine Ju.tidy am0 ?_
                 rintro kJ s1 WB ⟨rfl,s4,qi⟩
                 have Ru:=aGW s4 Uo.1;subst Ru;refine⟨List.range s.JZ.length,_,_,ay9,?_,?_,?_,rfl,rfl,by simp⟩
                 . unfold keeps
                   grind
                 . exact(alP hbound Uo.1).2
                 . intro b x ad;rw[akP,gC]at ad;obtain⟨a',MO,rfl⟩:=ad;obtain⟨h1,y,ah,b'⟩:=qi b a' MO;have bJ:=aHO b' (Ry b a' MO);subst bJ;have ht:=akG (bs:=List.range s.JZ.length) (i:=0) (j:=b) (r:=List.range s.JZ.length) (by simp[h1]) ah;rw[NI]at ht;refine⟨_,ht,?_⟩;cases a' with
                   | box cs=>
                    have Jd:=Ry b _ MO;simp only[NR,r0]at Jd;exact .box (ah0 hbound Jd).2
                   | arr ty l=>exact .arr
                   | rows sz l=>have Jd:=Ry b _ MO;simp[NR]at Jd
                   | set ks=>exact .same
                   | buf E s=>exact .same
                   | kn E c=>have Jd:=Ry b _ MO;exact .kn (aia hbound (by simpa[NR]using Jd)).2
                   | nJ=>have Jd:=Ry b _ MO;simp[NR]at Jd
                have U7:=aqM h.OI PQ;have af2:(VY (s.rest res) (s.rest res)).all (λx=>decide (x.1 < bs.length+16))=true:=by
                 have axZ:=Uo.2;unfold aww at axZ;have:∀{l:hc U},(l.all λp=>Nat.ble (p.1+1) (bs.length+16) && NR (s.rest res) p.2)=true->(VY (s.rest res) l).all (λx=>decide (x.1 < bs.length+16))=true:=by
                  intro l
                  induction l with
                  | nil=>intro _;rfl
                  | cons e r ih=>
                   obtain⟨b,x⟩:=e;intro h;simp only[aao,k0]at h;simp only[VY,aao,k0,ye];exact⟨by have:=Qa h.1.1;omega,ih h.2⟩
                 grind
                have abL:km s.JZ.length (s.rest res) (s.res res) (O1 (s.rest res) (s.res res))/\pJ s.JZ.length (s.rest res) (VY (s.rest res) (s.rest res)):=by
                 refine⟨(alP hbound Uo.1).1,λb x ad=>?_⟩;refine⟨hbound b x ad,afK (s.rest res) x,by rw[akP,ad];rfl,?_⟩;cases x with
                 | box cs=>
                  have Jd:=Ry b _ ad;simp only[NR,r0]at Jd;exact .box (ah0 hbound Jd).1
                 | arr ty l=>exact .arr ty l
                 | rows sz l=>have Jd:=Ry b _ ad;simp[NR]at Jd
                 | set ks=>exact .set ks
                 | buf E s=>exact .buf E s
                 | kn E c=>have Jd:=Ry b _ ad;exact .kn (aia hbound (by simpa[NR]using Jd)).1
                 | nJ=>have Jd:=Ry b _ ad;simp[NR]at Jd
                have Xe:=pJ.axv (key:=key) (bs:=bs) ix ec lo h.K9 b7 abL.2;have arF:=km.kp (key:=key) (bs:=bs) (J:=J) ix ec lo h.K9 abL.1;have axA:=aqO (key:=key) (bs:=bs) (Jr:=s.rest res) ix ec h.K9 b7;have yb:∀b,b∈bs->∃x,e1 J1 b=some x:=by
                 intro b al;have b':=(ML b al).2.2;unfold hasB at b';split at b'
                 . rename_i x ad;obtain⟨_,y,bJ,_⟩:=h.K9 b x ad
                   grind
                 . cases b'
                have a0v:∀b,b∈bs->b∈WY env1 args++xb:=by
                 intro b al;rw[aEB b1];have eg:=(ML b al).2.1;rw[Qp]at eg;rcases eg with eg | eg
                 . exact ayZ _ (aGY b2 b (aGZ eg))
                 . exact List.mem_append_right _ (aGZ eg)
                refine⟨_,(O1 (s.rest res) (s.res res)).kp (back bs key),_,_,hk,.raw c8 (by rw[U7,KW]) rfl b1 (k9 KW) ix ec yb a0v lo af2 axT rfl,?_⟩;have:=JO.bind (gd:=o.guard) (dst:=o.dst) (nf:=nf) (h.OI.mono axA) h.b9 Xe h.dy arF PQ cJ KV;simp_all
              . cases hk
            . cases hk
          . cases bo
        . cases bo
theorem atK {fo:NA U} (wk:M' P fo) {o:kx} {f:Nat} {args:List er} (c8:o.op= .call f args \/ (o.guard=none /\ ∃x q,o.op= .Re x args /\ x.get env1=some (q,.c (.fn f [])) /\ q)) (h:JO key gl nf env J env1 J1 G) (PQ:o.guard=none \/ ∃t b y,o.guard=some (t,b) /\ LN env t b=some y) (cJ:Zw gl o.guard o.dst=true) (KV:VE nf o.dst=true)
 {g:Bool} (b9:g=pa env G o.guard) {k:hM U->Option R} {r:R}:∀{ss:List (pv U)},(∀s,s∈ss->s∈fo f)->ajQ (λe=>Vx gl o.guard e args) env g k ss=some r->
 ∃v v1,k v=some r/\DStep xb P o key env1 J1 g v1 J1/\JO (key+16) (Qj gl o.guard o.dst) nf (Nz o.dst v env) J (JB env1 o.dst g v1) J1 (λi=>if o.dst=some i then g else G i)
 | [],_,ad=>by simp[ajQ]at ad
 | s::ss,hm,ad=>by
  simp only[ajQ]at ad;split at ad
  . exact atK wk c8 h PQ cJ KV b9 (λs hs=>hm s (by simp[hs])) ad
  . rename_i ai bo;unfold azl at bo;split at bo
    . rename_i vs PS Jl;simp only[k0]at PS;split at bo
      . rename_i a agb ch;rw[r0]at agb;obtain⟨af9,amX,aga⟩:=wk f s (hm s (by simp));obtain⟨p,vs1,b1,b2,k9⟩:=aft h.OI h.b9 Jl;have u':s.st=[]:=by cases u':s.st with | nil=>rfl | cons=>rw[u']at PS;simp[isNil]at PS
        have a3H:s.JZ=[]:=by cases u':s.JZ with | nil=>rfl | cons=>rw[u']at PS;simp[isNil]at PS
        obtain⟨res,hres,hk⟩:=agx.1 ad;split at hk
        . rename_i Uo;obtain⟨X8,ai3⟩:=ah' (N:=key+16) (J:=J) Uo;have U7:=aqM h.OI PQ;rw[<-b9]at U7;have aZa:JO (key+16) (Qj gl o.guard o.dst) nf (Nz o.dst (s.res res) env) J (JB env1 o.dst g (Lt (s.res res))) J1 (λi=>if o.dst=some i then g else G i):=by
           have:=JO.bind (dst:=o.dst) (h.OI.mono (wJ.more (by omega:key<=key+16))) h.b9 (h.K9.mono (Nat.le_add_right key 16)) h.dy X8 PQ cJ KV
           grind
          refine⟨s.res res,Lt (s.res res),hk,?_,aZa⟩;have aJW:g=true->p/\V.c'.V.Is (lt 0) vs1=true/\(Lt (s.res res)).c' (lt 0)=true/\Ju P f vs1 [] 0 (λI1 _ _=>I1=Lt (s.res res)):=?_
          . rcases c8 with c8 | ⟨t',x,q,c8,ad,eg⟩
            . exact .call c8 U7 b1 aJW
            . have KW:g=true:=by rw[b9,t'];rfl
              exact .Re c8 t' KW ad eg amX b1 (aJW KW)
          intro KW;rw[ao KW]at hres
          obtain⟨ys,f1,a6,g1⟩:=aio (N:=key) (Jc:=([]:hc U)) (ajj) (λj b jb c7=>by simp at c7) ch
          obtain⟨Jq,eh,hj,I2⟩:=g1 vs1 b2.length (λi x d ad a7=>by
           obtain⟨zv,h1,ah⟩:=b2.get ad
           rw[a7]at h1;cases h1;exact ah)
          have X5:ey.cells U.D s.ts ai=a:=ey.MJ bo;have PO:s.args ai=ys:=by
           unfold pv.args;rw[X5];have:=f1 []
           grind
          have Y0:s.Q8 ai=[]:=by unfold pv.Q8;rw[u'];rfl
          have ane:s.st.length=0:=by rw[u'];rfl
          have QO:=aga ai res hres Jq [] (by
           rw[PO,Y0,ane]
           refine f'.Xp (by rw[a6,eh,b2.length]) λi x d ad a7=>I2 i x d ad a7) (by rw[Y0];intro b x ad;simp[fz]at ad)
          rw[af9,ane]at QO;have L6:f' NT vs1 Jq:=by
           refine f'.Xp eh.symm λi d zv a7 MM=>?_
           have Jl:=hj i d zv a7 MM;obtain⟨x,ad,ar⟩:=(b2.flip (R':=λd x=>km key J x d) λ_ _ h=>h).get a7
           exact a1j (agb x (JX ad)) Jl ar
          refine⟨k9 (by rw[<-b9];exact KW),?_,ai3 _,?_⟩
          . refine aeu λi d a7=>?_
            obtain⟨x,ad,ar⟩:=(b2.flip (R':=λd x=>km key J x d) λ_ _ h=>h).get a7;exact a1k (agb x (JX ad)) ar
          . refine Ju.conv L6 (λb jb ad=>by simp[e1]at ad) (QO.mono λkJ hy N' adA=>?_)
            exact alO adA.2.1 Uo
        . cases hk
      . cases bo
    . cases bo
where
 a1j {x:hM U} {d zv:V} (hs:MX x=true) (Jl:NT (d.hZ []) zv) (ar:km key J x d):NT d zv:=by
  have:=alO ar hs;subst this;rw[awe hs]at Jl;exact Jl
 a1k {x:hM U} {d:V} (hs:MX x=true) (ar:km key J x d):d.c' (lt 0)=true:=by
  have:=alO ar hs;subst this;exact(ah' (N:=key) (J:=J) hs).2 _
theorem apx {fo:NA U} (wk:M' P fo) {f:Nat} {getv:Wx U} {cal:Env -> List V -> Prop}
 (aJU:∀{env':iy U} {J2:hc U} {ln:Env} {vs:List (hM U)},r3 key J2 G env' ln->OF gl env' G->getv env'=some vs->∃vs1,f' (km key J2) vs vs1/\cal ln vs1)
 (he:r3 key J G env env1) (b9:OF gl env G) (dx:pJ key J J1) {k:iy U->hc U->hM U->Option R} {r:R}:∀{ss:List (pv U)},(∀s,s∈ss->s∈fo f)->ajR getv env J key k ss=some r->
 ∃env' J2 ln hy vs1,Conv kk key env1 J1 key ln hy/\r3 key J2 G env' ln/\OF gl env' G/\(∀t b,LN env' t b=LN env t b)/\cal ln vs1/\PE P f=true/\
  aIF P f vs1 hy key ln (λkJ s1=>∃Xz v,k env' Xz v=some r/\r3 (key+16) Xz G env' ln/\pJ (key+16) Xz s1/\km (key+16) Xz v kJ)
 | [],_,ad=>by simp[ajR]at ad
 | s::ss,hm,ad=>by
  simp only[ajR]at ad;split at ad
  . exact apx wk aJU he b9 dx (λs hs=>hm s (by simp[hs])) ad
  . rename_i env' J2 bs h bo;obtain⟨af9,amX,aga⟩:=wk f s (hm s (by simp));obtain⟨res,hres,hk⟩:=agx.1 ad;unfold aLi at bo;split at bo
    . cases bo
    . rename_i Xy _;split at bo;rename_i aNj Ri _;split at bo
      . cases bo
      . rename_i aOI a2Y ady;split at bo
        . cases bo
        . rename_i vs Jl;split at bo
          . cases bo
          . rename_i al;simp only[k0,r0]at al;obtain⟨Nn,ML,afW,axF⟩:=al;split at bo
            . rename_i a b ch QN;split at bo
              . rename_i ai axU;cases bo;have ix:=akH Nn;have ec:∀b,b∈bs->b < key:=λb al=>Qa (ML b al)
                have hlen:=q4 afW;have a0q:=Qa axF;obtain⟨ln,hy,am1,L0,Xe,am6⟩:=akq (kk:=kk) (gl:=gl) ady he dx;obtain⟨vs1,b2,axP⟩:=aJU L0 (am6 b9) Jl;have Ov:=alU ix QN;obtain⟨ys,f1,a6,g1⟩:=aio (N:=key) ix Ov ch
                obtain⟨Jq,eh,hj,I2⟩:=g1 vs1 b2.length (λi x d ad a7=>by
                 obtain⟨zv,h1,ah⟩:=b2.get ad
                 grind)
                obtain⟨azH,t1,t2⟩:=aq4 ix Xe QN;have X5:ey.cells U.D s.ts h=a++b:=ey.MJ axU;have PO:s.args h=ys:=by unfold pv.args;rw[X5,f1]
                have Y0:s.Q8 h=Oc 0 s.st b:=by unfold pv.Q8;rw[X5,f1]
                have QO:=aga h res hres Jq azH (by
                 rw[PO,Y0,<-hlen]
                 exact f'.Xp (by rw[a6,eh,b2.length]) λi x d ad a7=>I2 i x d ad a7) (by rw[Y0,<-hlen];exact t2)
                rw[af9,<-hlen]at QO;have L6:f' NT (vs1.map (V.hZ bs)) Jq:=by
                 refine f'.Xp (by simp[eh]) λi d zv a7 MM=>?_
                 grind
                have am0:=Ju.conv L6 t1 QO
                split at hk
                . cases hk
                . rename_i c b7;split at hk
                  . rename_i am2;subst am2;have lo:s.JZ.length<=bs.length+16:=a0q;refine⟨env',J2,ln,hy,vs1,am1,L0,am6 b9,λt b=>aAX ady,axP,amX,?_⟩;intro c9 nt φ S a w R NV Zo anB
                    refine(Pv.raw (n:=lt key) (key:=key) ix ec am0 (K:=λkJ s1=>∃Xz v,k env' Xz v=some r/\r3 (key+16) Xz G env' ln/\pJ (key+16) Xz s1/\km (key+16) Xz v kJ) ?_ (λb al=>by simp[lt];exact ec b al) c9 nt φ S ln a w R (λb h1 _=>awb h1) NV Zo anB)
                    rintro kJ s1 N' ⟨rfl,s4,qi⟩
                    refine⟨lo,_,_,hk,L0.mono (aqO ix ec Xe b7),pJ.axv ix ec lo Xe b7 qi,km.kp ix ec lo Xe s4⟩
                  . cases hk
              . cases bo
            . cases bo
where
 aAY {env:iy U} {b0:Nat} {ty:eb} {l:List (ty.den U.D)} {t:Nat} {b:Bool}:LN (aek b0 (⟨.slice ty,l⟩:Cell U.D) env) t b=LN env t b:=by
  unfold LN;rw[aqo];cases fz env t with
  | none=>rfl
  | some v=>
   cases v with
   | c x=>
    cases x with
    | arr hq=>simp only[Oh,hM.k4,hn.k4];cases Nat.beq hq b0 <;> rfl
    | pr hq acg i o=>simp only[Oh,hM.k4,hn.k4];cases Nat.beq hq b0 <;> rfl
    | pre hq h=>simp only[Oh,hM.k4,hn.k4];cases Nat.beq hq b0 <;> rfl
    | DJ hq hi h=>simp only[Oh,hM.k4,hn.k4];cases Nat.beq hq b0 <;> rfl
    | _=>rfl
   | agg cs=>rfl
   | gJ vs=>rfl
 aAX {l:List (Nat×eb)} {env env':iy U} {J J':hc U} {t:Nat} {b:Bool} (h:Wu l env J=some (env',J')):LN env' t b=LN env t b:=by
  induction l generalizing env J with
  | nil=>simp[Wu]at h;rw[h.1]
  | cons p l ih=>
   obtain⟨c,ty⟩:=p;simp only[Wu]at h;split at h
   . rename_i e s h1;have ah:LN e t b=LN env t b:=by
      unfold aoW at h1;split at h1
      . split at h1
        . cases h1;exact aAY
        . cases h1
      . split at h1
        . cases h1;exact aAY
        . cases h1
      . cases h1;rfl
     rw[ih h,ah]
   . cases h
theorem aEC{fo:NA U}(wk:M' P fo){o:kx}(h:JO key gl nf env J env1 J1 G){k:JF -> UD -> iy U -> hc U -> Option R}{r:R}(ad:aen fo (some xb) o key gl nf env J k=some r):
 ∃g v1 hy QL SX env' J' UC,DStep xb P o key env1 J1 g v1 hy/\k QL SX env' J'=some r/\JO (key+16) QL SX env' J' (JB env1 o.dst g v1) hy UC:=by
 unfold aen at ad;split at ad
 . cases ad
 . rename_i aiN;simp only[k0]at aiN;obtain⟨cJ,KV⟩:=aiN;split at ad
   . rename_i q0;split at ad
     . rename_i g0 afY;have aZM:=aF8 h.b9 h.dy q0;obtain⟨h1,ah⟩:=aqP (P:=P) h (aqy afY) aZM cJ KV (awx (U:=U) (N:=key+16) (J:=J));exact⟨_,_,_,_,_,_,_,_,h1,ad,ah⟩
     . cases ad
   . split at ad
     . rename_i f args c8;split at ad
       . rename_i Rx;split at ad
         . rename_i g gd b9 t';have PQ:o.guard=none\/∃t b y,o.guard=some (t,b)/\LN env t b=some y:=by rw[t'];rw[t']at b9;exact aqy b9
           have SL:g=pa env G o.guard:=apv h.b9 b9;split at ad
           . rename_i KW;obtain⟨v,v1,J',hy,h1,ah,b'⟩:=auc (fo:=fo) wk c8 h PQ cJ KV (by rw[<-SL];exact KW) (k:=λJ v=>k (Qj gl o.guard o.dst) nf (Nz o.dst v env) J) (λs hs=>hs) ad;exact⟨_,_,_,_,_,_,_,_,ah,h1,b'⟩
           . rename_i KW;have abN:pa env G o.guard=false:=by rw[<-SL];simpa using KW
             have rz:JO key gl (gd::nf) env J env1 J1 G:=⟨h.OI,h.b9,h.K9,λg0 afY=>by
              rcases LJ.1 afY with rfl | hm
              . grind
              . exact h.dy g0 hm⟩
             have axW:VE (gd::nf) o.dst=true:=by
              cases a7:o.dst with
              | none=>rfl
              | some d=>
               rw[a7]at KV cJ;rw[t']at cJ;simp only[VE,aao,k0];simp only[VE]at KV;simp only[Zw,k0]at cJ
               grind
             obtain⟨h1,ah⟩:=aqP (P:=P) rz PQ abN cJ axW (awx (U:=U) (N:=key+16) (J:=J));exact⟨_,_,_,_,_,_,_,_,h1,ad,ah⟩
         . cases ad
       unfold aAd at ad;split at ad
       . rename_i t';simp only at ad;split at ad
         case h_2=>
          obtain⟨v,v1,J',hy,h1,ah,b'⟩:=auc (fo:=fo) wk c8 h (.inl t') cJ KV (by rw[t'];rfl) (k:=λJ v=>k (Qj gl o.guard o.dst) nf (Nz o.dst v env) J) (λs hs=>hs) ad;exact⟨_,_,_,_,_,_,_,_,ah,h1,b'⟩
         rw[t']at ad;obtain⟨v,v1,J',hy,h1,ah,b'⟩:=aDu (fo:=fo) wk c8 h t' cJ KV (k:=λJ v=>k (Qj gl o.guard o.dst) nf (Nz o.dst v env) J) (λs hs=>hs) (by rw[t'];exact ad);exact⟨_,_,_,_,_,_,_,_,ah,h1,b'⟩
       . rename_i gd t';split at ad
         . rename_i g b9;rw[t']at ad b9;obtain⟨v,v1,h1,ah,b'⟩:=atK (fo:=fo) wk (.inl c8) h (by rw[t'];exact aqy b9) cJ KV (g:=g) (by rw[t'];exact apv h.b9 b9) (λs hs=>hs) (by rw[t'];exact ad);rw[t']at b';exact⟨_,_,_,_,_,_,_,_,ah,h1,b'⟩
         . cases ad
     . rename_i x args c8;split at ad
       . contradiction
       . rename_i a4i f a7 t' LU;obtain⟨q,v1,a1,a2,a3⟩:=mx h.OI h.b9 LU;have:=a2.avY;subst this;obtain⟨v,v1,h1,ah,b'⟩:=atK (xb:=xb) (fo:=fo) wk (.inr ⟨t',x,q,c8,a1,a3 rfl⟩) h (.inl t') cJ KV (g:=true) (by rw[t'];rfl) (λs hs=>hs) (by rw[t'];exact ad);rw[t']at b';exact⟨_,_,_,_,_,_,_,_,ah,h1,b'⟩
       . cases ad
     . rename_i op aJ7 aJ8;split at ad
       . cases ad
       . rename_i c v J' cv;split at ad
         . rename_i t';split at ad
           . rename_i b7;rw[t']at cv;obtain⟨v1,hy,h1,ah⟩:=(aHN (P:=P) (o:=o) h (by rw[t'];exact cv) (.inl t') cJ KV).1 (by rw[t'];rfl) b7;rw[t']at ah;exact⟨_,_,_,_,_,_,_,_,h1,ad,ah⟩
           . cases ad
         . rename_i gd t';split at ad
           . cases ad
           . rename_i g b9;have PQ:o.guard=none\/∃t b y,o.guard=some (t,b)/\LN env t b=some y:=by rw[t'];exact aqy b9
             have SL:g=pa env G o.guard:=by rw[t'];exact apv h.b9 b9
             have s0:=aHN (P:=P) (o:=o) (xb:=xb) h cv PQ cJ KV;split at ad
             . rename_i Uk;split at ad
               . rename_i axR;cases aJT:g with
                 | true=>
                  rw[aJT]at axR SL;simp at axR;obtain⟨v1,hy,h1,ah⟩:=s0.1 SL.symm axR;have l1:J'=J:=(aFg h.OI h.b9 h.K9 cv).a1i Uk;rw[l1]at ah;exact⟨_,_,_,_,_,_,_,_,h1,ad,ah⟩
                 | false=>
                  rw[aJT]at SL;obtain⟨v1,h1,ah⟩:=s0.2 SL.symm Uk;exact⟨_,_,_,_,_,_,_,_,h1,ad,ah⟩
               . cases ad
             . split at ad
               . rename_i KW;split at ad
                 . rename_i b7;obtain⟨v1,hy,h1,ah⟩:=s0.1 (by rw[<-SL];exact KW) b7;exact⟨_,_,_,_,_,_,_,_,h1,ad,ah⟩
                 . cases ad
               . rename_i KW;have abN:pa env G o.guard=false:=by rw[<-SL];simpa using KW
                 have rz:JO key gl (gd::nf) env J env1 J1 G:=⟨h.OI,h.b9,h.K9,λg0 afY=>by
                  rcases LJ.1 afY with rfl | hm
                  . grind
                  . exact h.dy g0 hm⟩
                 have axW:VE (gd::nf) o.dst=true:=by
                  cases a7:o.dst with
                  | none=>rfl
                  | some d=>
                   rw[a7]at KV cJ;rw[t']at cJ;simp only[VE,aao,k0];simp only[VE]at KV;simp only[Zw,k0]at cJ
                   grind
                 obtain⟨h1,ah⟩:=aqP (P:=P) rz PQ abN cJ axW (awx (U:=U) (N:=key+16) (J:=J));exact⟨_,_,_,_,_,_,_,_,h1,ad,ah⟩
theorem aDv {fo:NA U} (wk:M' P fo) {o:kx} (h:JO key gl nf env J env1 J1 G) {k:JF -> UD -> iy U -> hc U -> Option R} {r:R} (ad:aen fo none o key gl nf env J k=some r) {K:Env -> fu -> Prop}
 (qs:∀QL SX env' J' ln hy UC,k QL SX env' J'=some r->JO (key+16) QL SX env' J' ln hy UC->K ln hy):
 ∃Nk ki,Conv kk key env1 J1 key Nk ki/\aip P o key Nk ki K:=by
 by_cases Rx:aen fo (some []) o key gl nf env J k=some r
 . obtain⟨g,v1,hy,QL,SX,env',J',UC,h1,ah,b'⟩:=aEC wk h Rx;exact⟨env1,J1,Conv.refl,.inl (h1.O4 (qs _ _ _ _ _ _ _ ah b'))⟩
 . unfold aen at ad Rx;split at ad
   . cases ad
   . rename_i aiN;rw[aiN]at Rx;simp only at Rx;simp only[k0]at aiN;obtain⟨cJ,KV⟩:=aiN;split at ad
     . rename_i q0;rw[q0]at Rx;exact absurd ad Rx
     . rename_i q0;rw[q0]at Rx;simp only at Rx;split at ad
       . rename_i f args c8;rw[c8]at Rx;simp only at Rx;split at ad
         . rename_i ano;rw[ano]at Rx;exact absurd ad Rx
         rename_i ano;rw[ano]at Rx;simp only at Rx;unfold aAd at ad Rx;split at ad
         . rename_i t';simp only at ad;rw[t']at ad;obtain⟨env',J2,ln,hy,vs1,hN,hR,px,xi,⟨p,Jk,E'⟩,al,vJ⟩:=apx (kk:=kk) (P:=P) wk (f:=f) (getv:=λe=>Vx gl none e args) (cal:=λe vs=>∃p,O7 e args=some (p,vs)/\p)
            (λhe b9 cv=>by
             obtain⟨p,vs1,b1,b2,k9⟩:=aft he b9 cv
             exact⟨vs1,b2,p,b1,k9 rfl⟩) h.OI h.b9 h.K9 (λs hs=>hs) ad
           refine⟨ln,hy,hN,.inr ⟨by rw[t'];rfl,f,vs1,.inl ⟨args,p,c8,Jk,E'⟩,?_⟩⟩;intro c9 nt φ S a w JG NV Zo anB;refine(vJ c9 nt φ S a w JG NV Zo anB).mono ?_
           rintro e w' ⟨v,kJ,hK,ik,s1,rfl,⟨Xz,v3,hg,hv,h3,oo⟩,s4,qi,JY⟩
           refine⟨v,kJ,hK,ik,s1,rfl,?_,s4,qi,JY⟩
           have axK:=JO.bind (gd:=none) (dst:=o.dst) (nf:=nf) hv px h3 (λg b9=>by
            obtain⟨t,b⟩:=g;have h0:=h.dy _ b9;simp only[pa]at h0 ⊢
            grind) oo (.inl rfl) (by rw[t']at cJ;exact cJ) KV
           exact qs _ _ _ _ _ _ _ hg axK
         . rename_i gd t';rw[t']at Rx ad;exact absurd ad Rx
       . rename_i x args c8;split at ad
         . rename_i f caps a7 t' LU
           obtain⟨env',J2,ln,hy,vs1,hN,hR,px,xi,⟨q,p,YS,Xy,a0m,ayn,Jk,E',abT⟩,al,vJ⟩:=apx (kk:=kk) (P:=P) wk (f:=f) (getv:=λe=>match vn gl none e x,Vx gl none e args with
            | some (.c (.fn afT YS)),some vs=>match Nat.beq afT f with
             | true=>some (vs++YS.map λb=>.c (.ptr b 0))
             | false=>none
            | _, _ => none) (cal :=λe vs => ∃ q p YS Xy, x.get e = some (q, .c (.fn f YS)) /\ q /\ O7 e args = some (p, Xy) /\ p /\ vs = Xy ++ YS.map λb => V.c (.ptr b 0))
            (λhe b9 cv=>by
             split at cv
             . rename_i afT YS Xx eh hj;split at cv
               . rename_i aZN;have:=q4 aZN;subst this;cases cv;obtain⟨q,v1,a1,a2,a3⟩:=mx he b9 eh;have:=a2.avY;subst this;obtain⟨p,vs1,b1,b2,k9⟩:=aft he b9 hj;refine⟨vs1++YS.map λb=>V.c (.ptr b 0),b2.append ?_,q,p,YS,vs1,a1,a3 rfl,b1,k9 rfl,rfl⟩
                 exact f'.map_map (f'.self (R:=λa b=>km key _ (.c (.ptr a 0)) (.c (.ptr b 0))) (λb=>.c (.ptr b 0)) _)
               . cases cv
             grind) h.OI h.b9 h.K9 (λs hs=>hs) ad
           refine⟨ln,hy,hN,.inr ⟨by rw[t'];rfl,f,vs1,.inr ⟨x,args,q,p,YS,Xy,c8,a0m,ayn,Jk,E',al,abT⟩,?_⟩⟩;intro c9 nt φ S a w JG NV Zo anB;refine(vJ c9 nt φ S a w JG NV Zo anB).mono ?_
           rintro e w' ⟨v,kJ,hK,ik,s1,rfl,⟨Xz,v3,hg,hv,h3,oo⟩,s4,qi,JY⟩
           refine⟨v,kJ,hK,ik,s1,rfl,?_,s4,qi,JY⟩
           have axK:=JO.bind (gd:=none) (dst:=o.dst) (nf:=nf) hv px h3 (λg b9=>by
            obtain⟨t,b⟩:=g;have h0:=h.dy _ b9;simp only[pa]at h0 ⊢
            grind) oo (.inl rfl) (by rw[t']at cJ;exact cJ) KV
           exact qs _ _ _ _ _ _ _ hg axK
         . contradiction
         . cases ad
       . rename_i op aJ7 aJ8
         exfalso
         refine Rx ?_;split
         . rename_i f args c8;exact absurd c8 (aJ7 f args)
         . rename_i x args c8;exact absurd c8 (aJ8 x args)
         . exact ad
theorem awO{l:List (Nat×eb)}{p:iy U×hc U}(h:aoX l env J=some p):∃l,Wu l env J=some p:=by
 unfold aoX at h
 grind
theorem aTq{o:kx}{p:iy U×hc U}(h:azj gl o env J=some p):∃l,Wu l env J=some p:=by
 unfold azj at h;split at h
 . grind
 . split at h
   . exact awO h
   . cases h
 . exact awO h
 . exact awO h
 . cases h
theorem aSV {fo:NA U} (wk:M' P fo) {o:kx} (h:JO key gl nf env J env1 J1 G) {k:JF -> UD -> iy U -> hc U -> Option R} {r:R} (ad:aqx fo none o key gl nf env J k=some r) {K:Env -> fu -> Prop}
 (qs:∀QL SX env' J' ln hy UC,k QL SX env' J'=some r->JO (key+16) QL SX env' J' ln hy UC->K ln hy):
 ∃Nk ki,Conv kk key env1 J1 key Nk ki/\aip P o key Nk ki K:=by
 simp only[aqx]at ad;split at ad
 . exact aDv wk h ad qs
 . rename_i p bo;obtain⟨l,a6⟩:=aTq bo;obtain⟨eh,s1,hN,hR,px,xi⟩:=akq (kk:=kk) (gl:=gl) a6 h.OI h.K9
   obtain⟨hj,s2,d1,d2⟩:=aDv (kk:=kk) (P:=P) wk (⟨hR,xi h.b9,px,λg b9=>by
    obtain⟨t,b⟩:=g;have h0:=h.dy _ b9;simp only[pa]at h0 ⊢
    rw[apx.aAX a6];exact h0⟩:JO key gl nf p.1 p.2 eh s1 G) ad qs
   exact⟨hj,s2,hN.trans d1,d2⟩
end
end
section
open Go
variable {xb:List Nat}
variable {U:pK} {R:Type}
def UA(env:iy U):er->Option (List Nat)
 | .const (.c (.t _))=>some []
 | .const (.c .ee)=>some []
 | .const (.agg _)=>some []
 | .const _=>none
 | .tmp k=>match fz env k with
  | some (.c (.ptr b _))=>some [b]
  | some (.c (.pr b _ _ _))=>some [b]
  | some (.c (.arr b))=>some [b]
  | some (.c (.sub b _ _))=>some [b]
  | some (.c (.pre b _))=>some [b]
  | some (.c (.DJ b _ _))=>some [b]
  | some (.c (.mp b))=>some [b]
  | some (.c (.Jx b))=>some [b]
  | some (.c (.pq b))=>some [b]
  | some (.c .dead)=>none
  | some _=>some []
  | none=>none
def alX :hn U->Bool
 | .dead=>true
 | _=>false
def alY :hM U->Option (List Nat)
 | .c x=>match alX x with
  | true=>none
  | false=>some x.Ni
 | .agg cs=>match cs.any alX with
  | true=>none
  | false=>some (cs.flatMap hn.Ni)
 | .gJ _=>some []
def aei(env:iy U):List er->Option (List Nat)
 | []=>some []
 | .const v::r=>match aei env r with
  | some l=>some (v.Ni++l)
  | none=>none
 | .tmp k::r=>match fz env k with
  | some v=>match alY v,aei env r with
   | some a,some l=>some (a++l)
   | _,_=>none
  | none=>none
def aAj(xb:List Nat)(o:py)(env:iy U)(key:Nat):Option (List Nat):=
 match o with
 | .alloc _ | .allocA _ | .box _ | .bslice .. | .mkset=>some [key]
 | .allocS .. =>some [key,key+1]
 | .lkset x _=>UA env x
 | .upset x _=>UA env x
 | .appendB _ _ x _=>match UA env x with
  | some a=>some (key::a)
  | none=>none
 | .ustr _ x _=>UA env x
 | .call _ args=>match aei env args with
  | some l=>some ((List.range 16).map (key+·)++(l++xb))
  | none=>none
 | .load _ _ x=>UA env x
 | .b2s x=>UA env x
 | .store _ x _=>UA env x
 | .append _ _ x y=>match UA env x,UA env y with
  | some a,some b=>some (key::(a++b))
  | _,_=>none
 | _=>some []
def Vy(xb:List Nat)(o:py)(env:iy U)(key b:Nat):Option Bool:=
 match o with
 | .alloc _ | .allocA _ | .box _ | .bslice .. | .mkset=>some (Nat.beq b key)
 | .allocS .. =>some (Nat.beq b key || Nat.beq b (key+1))
 | .upset x _=>match UA env x with
  | some l=>some (X4 l b)
  | none=>none
 | .appendB _ _ x _=>match UA env x with
  | some l=>some (Nat.beq b key || X4 l b)
  | none=>none
 | .ustr _ x _=>match UA env x with
  | some l=>some (X4 l b)
  | none=>none
 | .store _ x _=>match UA env x with
  | some l=>some (X4 l b)
  | none=>none
 | .append _ _ x _=>match UA env x with
  | some l=>some (Nat.beq b key || X4 l b)
  | none=>none
 | .call _ args=>match aei env args with
  | some l=>some ((Nat.ble key b && Nat.ble (b+1) (key+16)) || X4 (l++xb) b)
  | none=>none
 | _=>some false
def aoT(xb:List Nat)(fJ:List kx)(env:iy U)(N:Nat):List (Nat×Nat)->Bool
 | []=>true
 | (i,j)::r=>(match Z6 fJ i,Z6 fJ j with
  | some x,some y=>match aAj xb y.op env (N+16*j)with
   | some l=>l.all λb=>match Vy xb x.op env (N+16*i) b with
    | some w=>!w
    | none=>false
   | none=>false
  | _,_=>true) && aoT xb fJ env N r
section
variable {P:Program} {kk N key:Nat} {J:hc U} {J1:fu} {env:iy U} {env1:Env} {G:Nat->Bool}
theorem aaW(he:r3 N J G env env1){x:er}{l:List Nat}(h:UA env x=some l):Jo env1 x=l:=by
 unfold UA at h;split at h
 . cases h;rfl
 . cases h;rfl
 . cases h;rfl
 . cases h
 . rename_i k;split at h
   all_goals (try (cases h;done))
   . rename_i b o hk;cases h;obtain⟨v1,h1,ah⟩:=he k _ hk;have:=ah.PZ;subst this;simp[Jo,er.get,h1]
   . rename_i b t i o hk;cases h;obtain⟨v1,h1,ah⟩:=he k _ hk;have:=ah.SH;subst this;simp[Jo,er.get,h1]
   . rename_i b hk;cases h;obtain⟨v1,h1,ah⟩:=he k _ hk;obtain⟨sz,n,rfl,_⟩:=ah.O3;simp[Jo,er.get,h1]
   . rename_i b hi len hk;cases h;obtain⟨v1,h1,ah⟩:=he k _ hk;have:v1= .c (.MW b 1 hi len):=by cases ah with | c h=>cases h;rfl
     subst this;simp[Jo,er.get,h1]
   . rename_i b agp hk;cases h;obtain⟨v1,h1,ah⟩:=he k _ hk;have:∃sz,v1= .c (.arr b sz 0 agp):=by cases ah with | c h=>cases h;exact⟨_,rfl⟩
     obtain⟨sz,rfl⟩:=this;simp[Jo,er.get,h1]
   . rename_i b hi agp hk;cases h;obtain⟨v1,h1,ah⟩:=he k _ hk;have:∃sz,v1= .c (.MW b sz hi agp):=by cases ah with | c h=>cases h;exact⟨_,rfl⟩
     obtain⟨sz,rfl⟩:=this;simp[Jo,er.get,h1]
   . rename_i b hk;cases h;obtain⟨v1,h1,ah⟩:=he k _ hk;have:=ah.ayM;subst this;simp[Jo,er.get,h1]
   . rename_i b hk;cases h;obtain⟨v1,h1,ah⟩:=he k _ hk;have:=ah.aLE;subst this;simp[Jo,er.get,h1]
   . rename_i b hk;cases h;obtain⟨v1,h1,ah⟩:=he k _ hk;obtain⟨n,rfl,_⟩:=ah.arf;simp[Jo,er.get,h1]
   . rename_i v I0 D' Jm L9 a1f n10 n6 n7 n8 p' hk;cases h;obtain⟨v1,h1,ah⟩:=he k _ hk;unfold Jo;simp only[er.get,h1,Oh];cases ah with
     | c ah=>
      cases ah with
      | ptr b o=>exact absurd rfl (I0 b o)
      | pr b t i o=>exact absurd rfl (D' b t i o)
      | arr b sz n al ai=>exact absurd rfl (Jm b)
      | sub b hi len=>exact absurd rfl (L9 b hi len)
      | pre b sz agp al ai=>exact absurd rfl (a1f b agp)
      | DJ b sz hi agp al ai=>exact absurd rfl (n10 b hi agp)
      | mp b=>exact absurd rfl (n6 b)
      | Jx b=>exact absurd rfl (n7 b)
      | pq b n al ai=>exact absurd rfl (n8 b)
      | dead d=>exact absurd rfl p'
      | _=>rfl
     | agg ah=>rfl
     | gJ=>rfl
theorem aib{l:List Nat}{b:Nat}:X4 l b=l.contains b:=by
 unfold X4;rw[Bool.eq_iff_iff];simp_all
theorem aED{x:hn U}{d:C}(h:k5 N J x d)(a7:alX x=false):d.Ni=x.Ni:=by
 cases h <;> first | rfl | (simp[alX]at a7)
theorem aDw :∀{xs:List (hn U)} {ds:List C},f' (k5 N J) xs ds->xs.any alX=false->ds.flatMap C.Ni=xs.flatMap hn.Ni
 | [],[],_,_=>rfl
 | x::xs,d::ds,.cons h1 ah,a7=>by
  simp only[List.any_cons,ab5]at a7;simp only[MS];rw[aED h1 a7.1,aDw ah a7.2]
theorem aSW{v:hM U}{v1:V}{l:List Nat}(h:km N J v v1)(a6:alY v=some l):v1.Ni=l:=by
 cases h with
 | c h=>
  simp only[alY]at a6;split at a6
  . cases a6
  . rename_i a7;cases a6;exact aED h a7
 | agg h=>
  simp only[alY]at a6;split at a6
  . cases a6
  . rename_i a7;cases a6;exact aDw h a7
 | gJ=>simp only[alY,hQ]at a6;rw[<-a6];rfl
theorem apO(he:r3 N J G env env1):∀{args:List er} {l:List Nat},aei env args=some l->WY env1 args=l
 | [],l,h=>by simp[aei]at h;subst h;rfl
 | .const v::r,l,h=>by
  simp only[aei]at h;split at h
  . rename_i z' L1;cases h;have ih:=apO he L1;simp only[WY,MS]at ih ⊢;rw[ih];rfl
  . cases h
 | .tmp k::r,l,h=>by
  simp only[aei]at h;split at h
  . rename_i v cv;split at h
    . rename_i a z' ch L1;cases h;have ih:=apO he L1;obtain⟨v1,h1,ah⟩:=he k v cv;simp only[WY,MS]at ih ⊢;rw[ih];simp only[er.get,h1,Oh];rw[aSW ah ch]
    . cases h
  . cases h
theorem aTr(he:r3 N J G env env1){o:py}{l:List Nat}(h:aAj xb o env key=some l):Jz xb o env1 key=l:=by
 cases o <;> simp only[aAj,Jz,hQ]at h ⊢ <;> first | exact h | exact aaW he h | skip
 all_goals split at h
 all_goals (try (cases h;done))
 . rename_i z' L1;cases h;rw[aaW he L1]
 . rename_i a b h1 ah;cases h;rw[aaW he h1,aaW he ah]
 . rename_i z' L1;cases h;rw[apO he L1]
theorem beq_eq(a b:Nat):(a==b)=Nat.beq a b:=by
 cases h:Nat.beq a b with
 | true=>rw[q4 h];simp
 | false=>simp[PC h]
theorem aTs(he:r3 N J G env env1){o:py}{b:Nat}{w:Bool}(h:Vy xb o env key b=some w):o' xb o env1 key b=w:=by
 cases o with
 | alloc cs=>simp only[Vy,hQ]at h;rw[<-h];simp only[o'];exact beq_eq _ _
 | allocA cs=>simp only[Vy,hQ]at h;rw[<-h];simp only[o'];exact beq_eq _ _
 | box x=>simp only[Vy,hQ]at h;rw[<-h];simp only[o'];exact beq_eq _ _
 | bslice a c d e=>simp only[Vy,hQ]at h;rw[<-h];simp only[o'];exact beq_eq _ _
 | store n x y=>
  simp only[Vy]at h;split at h
  . rename_i l a6;cases h;simp only[o'];rw[aaW he a6,aib]
  . cases h
 | append sz by' x y=>
  simp only[Vy]at h;split at h
  . rename_i l a6;cases h;simp only[o'];rw[aaW he a6,aib,beq_eq]
  . cases h
 | mkset=>simp only[Vy,hQ]at h;rw[<-h];simp only[o'];exact beq_eq _ _
 | allocS e e8=>simp only[Vy,hQ]at h;rw[<-h];simp only[o'];rw[beq_eq,beq_eq]
 | upset x y=>
  simp only[Vy]at h;split at h
  . rename_i l a6;cases h;simp only[o'];rw[aaW he a6,aib]
  . cases h
 | ustr e x y=>
  simp only[Vy]at h;split at h
  . rename_i l a6;cases h;simp only[o'];rw[aaW he a6,aib]
  . cases h
 | appendB e by' x y=>
  simp only[Vy]at h;split at h
  . rename_i l a6;cases h;simp only[o'];rw[aaW he a6,aib,beq_eq]
  . cases h
 | call f args=>
  simp only[Vy]at h;split at h
  . rename_i l a6;cases h;simp only[o'];rw[apO he a6,aib]
    congr 1
    rw[Bool.eq_iff_iff];simp only[k0,ye,Nat.ble_eq];omega
  . cases h
 | _=>simp only[Vy,hQ]at h;rw[<-h];rfl
theorem aud(he:r3 N J G env env1){fJ:List kx}{aAz:Nat}:∀{ND:List (Nat×Nat)},aoT xb fJ env aAz ND=true->VQ xb fJ env1 aAz ND=true
 | [],_=>rfl
 | (i,j)::r,h=>by
  simp only[aoT,k0]at h;simp only[VQ,k0];refine⟨?_,aud he h.2⟩;have h1:=h.1;rw[alM,alM]at h1;split at h1
  . rename_i x y ad bJ;rw[ad,bJ];split at h1
    . rename_i l a6;dsimp only;rw[aTr he a6];simp only[r0]at h1 ⊢;intro b al;have:=h1 b al;split at this
      . rename_i w hw;rw[aTs he hw];exact this
      . cases this
    . cases h1
  grind
theorem auE{fo:NA U}(wk:M' P fo){k:JF -> iy U -> hc U -> Option R}{r:R}:∀{l:List kx} {key:Nat} {gl:JF} {nf:UD} {env:iy U} {J:hc U} {env1:Env} {J1:fu} {G:Nat -> Bool} {K:Env -> fu -> Prop},
 JO key gl nf env J env1 J1 G->abf fo none l key gl nf env J k=some r->
 (∀QL SX env' J' ln hy UC,k QL env' J'=some r->JO (key+16*l.length) QL SX env' J' ln hy UC->K ln hy)->ac7 P kk l key env1 J1 K
 | [],key,gl,nf,env,J,env1,J1,G,K,h,ad,qs=>qs _ _ _ _ _ _ _ ad h
 | o::l,key,gl,nf,env,J,env1,J1,G,K,h,ad,qs=>by
  simp only[abf]at ad;simp only[ac7];refine aSV wk h ad λQL SX env' J' ln hy UC h1 ah=>?_
  refine auE wk ah h1 λarz asd hj s2 X3 ad8 ao7 b' ea=>qs arz asd hj s2 X3 ad8 ao7 b' ?_
  grind
theorem atS{fo:NA U}(wk:M' P fo){k:JF -> iy U -> hc U -> Option R}{r:R}:∀{l:List kx} {key:Nat} {gl:JF} {nf:UD} {env:iy U} {J:hc U} {env1:Env} {J1:fu} {G:Nat -> Bool} {K:Env -> fu -> Prop},
 JO key gl nf env J env1 J1 G->abf fo (some xb) l key gl nf env J k=some r->
 (∀QL SX env' J' ln hy UC,k QL env' J'=some r->JO (key+16*l.length) QL SX env' J' ln hy UC->K ln hy)->aml xb P l key env1 J1 K
 | [],key,gl,nf,env,J,env1,J1,G,K,h,ad,qs=>qs _ _ _ _ _ _ _ ad h
 | o::l,key,gl,nf,env,J,env1,J1,G,K,h,ad,qs=>by
  simp only[abf]at ad;obtain⟨g,v1,hy,QL,SX,env',J',UC,h1,ah,b'⟩:=aEC wk h (by simpa only[aqx]using ad);refine⟨g,v1,hy,h1,atS wk b' ah λarz asd hj s2 X3 ad8 ao7 ea hf=>qs arz asd hj s2 X3 ad8 ao7 ea ?_⟩
  grind
theorem awg{gl:JF}:∀{env:iy U} {k:Nat} {v:hM U},fz (clean gl env) k=some v->fz env k=some v/\anM gl k=false
 | [],k,v,h=>by simp[clean,fz]at h
 | (i,w)::r,k,v,h=>by
  simp only[clean]at h;split at h
  . rename_i ay;obtain⟨h1,ah⟩:=awg h;simp only[fz];cases al:Nat.beq i k with
    | true=>rw[q4 al]at ay;rw[ay]at ah;cases ah
    | false=>exact⟨h1,ah⟩
  . rename_i ay;simp only[fz]at h ⊢;cases al:Nat.beq i k with
    | true=>rw[al]at h;cases h;rw[<-q4 al];exact⟨rfl,ay⟩
    | false=>rw[al]at h;exact awg h
theorem aUn{gl:JF}{k:Nat}(h:anM gl k=false):fz gl k=none:=by
 induction gl with
 | nil=>rfl
 | cons e r ih=>
  obtain⟨i,e⟩:=e;simp only[anM,List.any_cons,ab5]at h;simp only[fz,h.1];exact ih (by unfold anM;exact h.2)
theorem JO.clean{gl:JF}{nf:UD}(h:JO key gl nf env J env1 J1 G):r3 key J (λ_=>true) (alW gl env) env1:=by
 intro k v hk;have:fz env k=some v/\G k=true:=by
  unfold alW at hk;split at hk
  . exact⟨hk,h.b9.free k rfl⟩
  . obtain⟨h1,ah⟩:=awg hk;exact⟨h1,h.b9.free k (aUn ah)⟩
 obtain⟨v1,h1,ah⟩:=h.OI k v this.1
 grind
theorem JO.begin(he:r3 key J (λ_=>true) env env1)(dx:pJ key J J1):JO key [] [] env J env1 J1 (λ_=>true):=
 ⟨he,⟨λ_ _=>rfl,λk t b h=>by simp[fz]at h⟩,dx,λ_ h=>by simp at h⟩
end
structure VS where
 e:Exit
 hL:Shape
 own:List (Pos×eb)
 us:List eb
def K5(U:pK):List VS->Type
 | []=>Empty
 | [a]=>ey U.D a.us
 | a::b::r=>ey U.D a.us ⊕ K5 U (b::r)
structure Qx (U:pK) where
 hL:Shape
 own:List (Pos×eb)
 ts:List eb
 outs:List VS
 F:ey U.D ts->Option (K5 U outs)
def arv :Exit->Exit->Bool
 | .normal,.normal=>true
 | .ret,.ret=>true
 | .exit i,.exit j=>Nat.beq i j
 | _,_=>false
theorem aF'{a b:Exit}(h:arv a b=true):a=b:=by
 cases a <;> cases b <;> simp only[arv,reduceCtorEq,q2]at h <;> try rfl
 simp_all
abbrev aif(U:pK)(R:Type):=Exit->iy U->hc U->Nat->Option R
def Qq :(outs:List VS)->K5 U outs->Exit×iy U×hc U×Nat
 | [],o=>Empty.elim o
 | [a],h=>(a.e,(O6 U a.hL (ey.cells U.D a.us h)).1,(O6 U a.hL (ey.cells U.D a.us h)).2,a.hL.st.length)
 | a::b::r,.inl h=>(a.e,(O6 U a.hL (ey.cells U.D a.us h)).1,(O6 U a.hL (ey.cells U.D a.us h)).2,a.hL.st.length)
 | a::b::r,.inr o=>Qq (b::r) o
def a2g{α β:Type}(o:α ⊕ β)(f:α->Option R)(g:β->Option R):Option R:=
 match o with
 | .inl a=>f a
 | .inr b=>g b
def a2N(k:aif U R)(a:VS):(r:List VS)->(K5 U r->Option R)->K5 U (a::r)->Option R
 | [],_=>λh=>k a.e (O6 U a.hL (ey.cells U.D a.us h)).1 (O6 U a.hL (ey.cells U.D a.us h)).2 a.hL.st.length
 | _::_,f=>λo=>a2g o (λh=>k a.e (O6 U a.hL (ey.cells U.D a.us h)).1 (O6 U a.hL (ey.cells U.D a.us h)).2 a.hL.st.length) f
def aAg(k:aif U R):(outs:List VS)->K5 U outs->Option R
 | []=>λo=>Empty.elim o
 | a::r=>a2N k a r (aAg k r)
theorem aHQ(k:aif U R):∀{outs:List VS} {o:K5 U outs},aAg k outs o=k (Qq outs o).1 (Qq outs o).2.1 (Qq outs o).2.2.1 (Qq outs o).2.2.2
 | [],o=>Empty.elim o
 | [a],h=>rfl
 | a::b::r,.inl h=>rfl
 | a::b::r,.inr o=>aHQ k (outs:=b::r)
def ad0(kk:Nat):(outs:List VS)->Exit->iy U->hc U->Nat->Option (K5 U outs)
 | [],_,_,_,_=>none
 | [a],e,env,J,N=>match arv e a.e with
  | true=>ael kk a.own a.hL a.us env J N
  | false=>none
 | a::b::r,e,env,J,N=>match arv e a.e with
  | true=>match ael (U:=U) kk a.own a.hL a.us env J N with
   | some h=>some (.inl h)
   | none=>none
  | false=>match ad0 kk (b::r) e env J N with
   | some o=>some (.inr o)
   | none=>none
abbrev Wz(U:pK):=Nat->Option (Qx U)
def NS :y'->Nat
 | .seq a b=>NS a+NS b
 | .cond _ a b=>NS a+NS b
 | .block _ b=>NS b
 | .loop b=>NS b+1
 | _=>0
def a0P(x:Bool)(a b:Option R):Option R:=if x=true then a else b
def hn.inner :WW->Bool
 | .ptr .. | .arr _=>true
 | _=>false
def aXE :O2->Bool
 | .box cs=>cs.any hn.inner
 | _=>false
def aA6(fo:NA U)(J:hc U)(ops:List kx):List Nat:=
 match ops.any λo=>match o.op with
  | .call f _=>(fo f).any λs=>s.st.any aXE
  | _=>false with
 | true=>J.map Prod.fst
 | false=>[]
def awh(ops:List kx)(ND:List (Nat×Nat)):Option (List kx×kx):=
 match aqw ops.length ND,ops.getLast? with
 | true,some o=>match o.op,o.guard with
  | .call ..,none=>some (ops.dropLast,o)
  | _,_=>none
 | _,_=>none
theorem aSX{ops:List kx}{ND:List (Nat×Nat)}{init:List kx}{last:kx}(h:awh ops ND=some (init,last)):ops=init++[last]/\aqw (init.length+1) ND=true:=by
 unfold awh at h;split at h
 . rename_i o h1 ah;split at h
   . cases h;have:ops=ops.dropLast++[last]:=by
      obtain⟨l,rfl⟩:=List.getLast?_eq_some_iff.1 ah;simp
     grind
   . cases h
 . cases h
def Vw(fo:NA U)(hi:Wz U)(kk:Nat):y'->Nat->iy U->hc U->Nat->aif U R->Option R
 | .skip,_,env,J,N,k=>k .normal env J N
 | .ret,_,env,J,N,k=>k .ret env J N
 | .exit i,_,env,J,N,k=>k (.exit i) env J N
 | .region ops,_,env,J,N,k=>abf fo none ops N [] [] env J λgl env J=>as8 (alW gl env) J (N+16*ops.length) λenv J N=>k .normal env J N
 | .aar ops ND,_,env,J,N,k=>match awh ops ND with
  | some (init,last)=>abf fo (some []) init N [] [] env J λgl env J=>match aoT [] init env N ND with
   | true=>abf fo none [last] (N+16*init.length) gl [] env J λgl env J=>k .normal (alW gl env) J (N+16*init.length+16)
   | false=>none
  | none=>abf fo (some (aA6 fo J ops)) ops N [] [] env J λgl env' J'=>match aoT (aA6 fo J ops) ops env' N ND with
   | true=>as8 (alW gl env') J' (N+16*ops.length) λenv J N=>k .normal env J N
   | false=>none
 | .seq a b,pos,env,J,N,k=>Vw fo hi kk a pos env J N λe env J N=>match e with
  | .normal=>Vw fo hi kk b (pos+NS a) env J N k
  | e=>k e env J N
 | .cond c a b,pos,env,J,N,k=>match vn [] none env c with
  | some (.c (.t ⟨.bool,x⟩))=>a0P x (Vw fo hi kk a pos env J N k) (Vw fo hi kk b (pos+NS a) env J N k)
  | _=>none
 | .block id b,pos,env,J,N,k=>Vw fo hi kk b pos env J N λe env J N=>match e with
  | .exit i=>match Nat.beq i id with
   | true=>k .normal env J N
   | false=>k (.exit i) env J N
  | e=>k e env J N
 | .loop b,pos,env,J,N,k=>match hi pos with
  | none=>none
  | some L=>match ael kk L.own L.hL L.ts env J N with
   | none=>none
   | some h=>(L.F h) >>=λo=>aAg k L.outs o
section
variable {P:Program} {nt kk N:Nat} {env:iy U} {J:hc U} {env1:Env} {J1:fu}
def agU(kk:Nat)(Q:Exit->Env->fu->Nat->Prop):Prop:=∀e N env J N' env' J',Conv kk N env J N' env' J'->Q e env' J' N'->Q e env J N
def Zu(P:Program)(nt kk:Nat)(body:y')(hL:Shape)(ts:List eb)(outs:List VS)(h:ey U.D ts)(o:K5 U outs):Prop:=
 ∀env1 J1,r3 hL.st.length (O6 U hL (ey.cells U.D ts h)).2 (λ_=>true) (O6 U hL (ey.cells U.D ts h)).1 env1->pJ hL.st.length (O6 U hL (ey.cells U.D ts h)).2 J1->kk<=hL.st.length->
  ∀Q,agU kk Q->(∀ln hy,r3 (Qq outs o).2.2.2 (Qq outs o).2.2.1 (λ_=>true) (Qq outs o).2.1 ln->pJ (Qq outs o).2.2.2 (Qq outs o).2.2.1 hy->kk<=(Qq outs o).2.2.2->Q (Qq outs o).1 ln hy (Qq outs o).2.2.2)->
   Yo P nt kk body env1 J1 hL.st.length Q
def agY(P:Program)(nt kk:Nat)(body:y')(L:Qx U):Prop:=
 ∀h o,L.F h=some o->Zu P nt kk body L.hL L.ts L.outs h o
def On(P:Program)(nt kk:Nat)(hi:Wz U):Nat->y'->Prop
 | pos,.seq a b=>On P nt kk hi pos a/\On P nt kk hi (pos+NS a) b
 | pos,.cond _ a b=>On P nt kk hi pos a/\On P nt kk hi (pos+NS a) b
 | pos,.block _ b=>On P nt kk hi pos b
 | pos,.loop b=>(∀L,hi pos=some L->agY P nt kk b L)
 | _,_=>True
theorem agU.andThen{Q:Exit->Env->fu->Nat->Prop}{next:Env->fu->Nat->Prop}(h:agU kk Q)(dy:∀N env J N' env' J',Conv kk N env J N' env' J'->next env' J' N'->next env J N):agU kk (andThen next Q):=by
 intro e N env J N' env' J' b7 eg;cases e with
 | normal=>exact dy _ _ _ _ _ _ b7 eg
 | _=>exact h _ _ _ _ _ _ _ b7 eg
theorem afn{fo:NA U}(wk:M' P fo){hi:Wz U}:∀{c:y'} {pos:Nat} {env:iy U} {J:hc U} {N:Nat} {k:aif U R} {r:R} {env1:Env} {J1:fu} {Q:Exit -> Env -> fu -> Nat -> Prop},
 On P nt kk hi pos c->Vw fo hi kk c pos env J N k=some r->r3 N J (λ_=>true) env env1->pJ N J J1->kk<=N->agU kk Q->
 (∀e env' J' N' ln hy,k e env' J' N'=some r->r3 N' J' (λ_=>true) env' ln->pJ N' J' hy->kk<=N'->Q e ln hy N')->l' P nt kk c env1 J1 N Q
 | .skip,pos,env,J,N,k,r,env1,J1,Q,a6,ad,he,dx,k6,Jb,hk=>l'.skip (hk _ _ _ _ _ _ ad he dx k6)
 | .ret,pos,env,J,N,k,r,env1,J1,Q,a6,ad,he,dx,k6,Jb,hk=>l'.ret (hk _ _ _ _ _ _ ad he dx k6)
 | .exit i,pos,env,J,N,k,r,env1,J1,Q,a6,ad,he,dx,k6,Jb,hk=>l'.exit (hk _ _ _ _ _ _ ad he dx k6)
 | .region ops,pos,env,J,N,k,r,env1,J1,Q,a6,ad,he,dx,k6,Jb,hk=>
  l'.a1Q (auE wk (JO.begin he dx) ad λQL SX env' J' ln hy UC h1 ah=>by
   obtain⟨hj,s2,VD,X3,ad8,g1,g2,g3,g4,g5⟩:=aDp h1 ah.clean ah.K9 (show kk<=_ by omega)
   exact Jb _ _ _ _ _ _ _ g2 (hk _ _ _ _ _ _ g1 g3 g4 (by omega)))
 | .aar ops ND,pos,env,J,N,k,r,env1,J1,Q,a6,ad,he,dx,k6,Jb,hk=>by
  simp only[Vw]at ad;split at ad
  . rename_i init last adC;obtain⟨rfl,arT⟩:=aSX adC;refine l'.a1R arT (atS wk (JO.begin he dx) ad λQL SX env' J' ln hy UC h1 ah=>?_);split at h1
    . rename_i b7;refine⟨aud ah.OI b7,auE wk (l:=[last]) (nf:=[]) ⟨ah.OI,ah.b9,ah.K9,λg b9=>by simp at b9⟩ h1 λarz asd hj s2 X3 ad8 ao7 b' ea=>hk _ _ _ _ _ _ b' ea.clean ea.K9 (by omega)⟩
    . cases h1
  . refine l'.aar (atS wk (JO.begin he dx) ad λQL SX env' J' ln hy UC h1 ah=>?_);split at h1
    . rename_i b7;obtain⟨hj,s2,VD,X3,ad8,g1,g2,g3,g4,g5⟩:=aDp h1 ah.clean ah.K9 (show kk<=_ by omega);exact⟨aud ah.OI b7,Jb _ _ _ _ _ _ _ g2 (hk _ _ _ _ _ _ g1 g3 g4 (by omega))⟩
    . cases h1
 | .seq a b,pos,env,J,N,k,r,env1,J1,Q,a6,ad,he,dx,k6,Jb,hk=>by
  simp only[Vw]at ad;refine l'.seq (afn wk a6.1 ad he dx k6 (Jb.andThen λN env J N' env' J' b7 h=>l'.conv b7 h) λe env' J' N' ln hy h1 ah b' ea=>?_);cases e with
  | normal=>exact afn wk a6.2 h1 ah b' ea Jb hk
  | _=>exact hk _ _ _ _ _ _ h1 ah b' ea
 | .cond c a b,pos,env,J,N,k,r,env1,J1,Q,a6,ad,he,dx,k6,Jb,hk=>by
  simp only[Vw]at ad;split at ad
  . rename_i x b7;have b9:OF [] env (λ_=>true):=⟨λ_ _=>rfl,λk t b h=>by simp[fz]at h⟩
    obtain⟨p,v1,a1,a2,a3⟩:=mx he b9 b7;have:=a2.TC;subst this;refine l'.cond a1 (a3 rfl) (λal=>?_) (λal=>?_)
    . subst al;exact afn wk a6.1 ad he dx k6 Jb hk
    . subst al;exact afn wk a6.2 ad he dx k6 Jb hk
  . cases ad
 | .block id b,pos,env,J,N,k,r,env1,J1,Q,a6,ad,he,dx,k6,Jb,hk=>by
  simp only[Vw]at ad;refine l'.block (afn wk a6 ad he dx k6 ?_ λe env' J' N' ln hy h1 ah b' ea=>?_)
  . intro e N env J N' env' J' b7 eg;cases e with
    | exit i=>
     simp only[inBlock]at eg ⊢;split at eg
     . rename_i ay;rw[ao ay];exact Jb _ _ _ _ _ _ _ b7 eg
     . rename_i ay;rw[aJ ay];exact Jb _ _ _ _ _ _ _ b7 eg
    | _=>exact Jb _ _ _ _ _ _ _ b7 eg
  . cases e with
    | exit i=>
     simp only[inBlock];simp only at h1;split at h1
     . rename_i al;rw[ao (q4 al)];exact hk _ _ _ _ _ _ h1 ah b' ea
     . rename_i al;rw[aJ (PC al)];exact hk _ _ _ _ _ _ h1 ah b' ea
    | _=>exact hk _ _ _ _ _ _ h1 ah b' ea
 | .loop b,pos,env,J,N,k,r,env1,J1,Q,a6,ad,he,dx,k6,Jb,hk=>by
  simp only[Vw]at ad;split at ad
  . cases ad
  . rename_i L vK;split at ad
    . cases ad
    . rename_i h afZ;obtain⟨o,c8,aJ0⟩:=agx.1 ad;rw[aHQ]at aJ0;obtain⟨ln,hy,hN,hR,px,xi⟩:=apN afZ he dx k6;exact l'.conv hN (l'.a09 (a6 L vK h o c8 ln hy hR px xi Q Jb λa3d a2W h1 ah b'=>hk _ _ _ _ _ _ aJ0 h1 ah b'))
theorem Zu.a1o {fo:NA U} (wk:M' P fo) {hi:Wz U} {body:y'} {hL:Shape} {own:List (Pos×eb)} {ts:List eb} {outs:List VS} {h:ey U.D ts} {o:K5 U outs} {F':ey U.D ts -> Option (K5 U outs)}
 (OL:On P nt kk hi 0 body) (U6:∀h o,F' h=some o->Zu P nt kk body hL ts outs h o)
 (ad:Vw fo hi kk body 0 (O6 U hL (ey.cells U.D ts h)).1 (O6 U hL (ey.cells U.D ts h)).2 hL.st.length (λe env J N=>match e with
  | .normal=>match ael kk own hL ts env J N with
   | some rz=>F' rz
   | none=>none
  | e=>ad0 kk outs e env J N)=some o):Zu P nt kk body hL ts outs h o:=by
 intro env1 J1 he dx k6 Q Jb hk;refine Yo.round (afn wk OL ad he dx k6 (Jb.andThen λN env J N' env' J' b7 h=>Yo.conv b7 h) λe env' J' N' ln hy h1 ah b' ea=>?_);have Vb:∀sK,sK=e->sK≠.normal->ad0 kk outs sK env' J' N'=some o->Q e ln hy N':=by
  intro sK L0 hG bo;subst L0;obtain⟨eh,s1,hN,hR,px,xi,vy⟩:=aK6 bo ah b' ea;exact Jb _ _ _ _ _ _ _ hN (by rw[vy];exact hk _ _ hR px xi)
 cases e with
 | normal=>
  simp only at h1;split at h1
  . rename_i rz afZ;obtain⟨eh,s1,hN,hR,px,xi⟩:=apN afZ ah b' ea;exact Yo.conv hN (U6 rz o h1 eh s1 hR px xi Q Jb hk)
  . cases h1
 | exit i=>exact Vb _ rfl (by simp) h1
 | ret=>exact Vb _ rfl (by simp) h1
 | goto l=>exact Vb _ rfl (by simp) h1
 | panic aA0=>exact Vb _ rfl (by simp) h1
 | outgrown=>exact Vb _ rfl (by simp) h1
where
 aK6 {N : Nat} {env : iy U} {J : hc U} {env1 : Env} {J1 : fu}: ∀ {outs : List VS} {e : Exit} {o : K5 U outs}, ad0 kk outs e env J N = some o -> r3 N J (λ_ => true) env env1 -> pJ N J J1 -> kk <= N ->
  ∃ln hy,Conv kk N env1 J1 (Qq outs o).2.2.2 ln hy/\r3 (Qq outs o).2.2.2 (Qq outs o).2.2.1 (λ_=>true) (Qq outs o).2.1 ln/\pJ (Qq outs o).2.2.2 (Qq outs o).2.2.1 hy/\kk<=(Qq outs o).2.2.2/\e=(Qq outs o).1
  | [],e,o,h,_,_,_=>by simp[ad0]at h
  | [a],e,o,h,he,dx,k6=>by
   simp only[ad0]at h;split at h
   . rename_i abM;obtain⟨eh,s1,hN,hR,px,xi⟩:=apN h he dx k6;exact⟨eh,s1,hN,hR,px,xi,aF' abM⟩
   . cases h
  | a::b::r,e,o,h,he,dx,k6=>by
   simp only[ad0]at h;split at h
   . rename_i abM;split at h
     . rename_i ai afZ;cases h;obtain⟨eh,s1,hN,hR,px,xi⟩:=apN afZ he dx k6;exact⟨eh,s1,hN,hR,px,xi,aF' abM⟩
     . cases h
   . split at h
     . rename_i q1 c8;cases h;obtain⟨eh,s1,hN,hR,px,xi,vy⟩:=aK6 c8 he dx k6;exact⟨eh,s1,hN,hR,px,xi,vy⟩
     . cases h
end
end
end Go.Proofs.YtijpinendaoleaaGreat.Shv
namespace Go.Proofs.YtijpinendaoleaaGreat.Shv
set_option linter.all false
open Go
variable {U:pK} {R:Type}
def agR :Nat->List (hM U)->iy U
 | _,[]=>[]
 | i,v::vs=>(i,v)::agR (i+1) vs
def awy(env:iy U)(J:hc U):S'->Option (hM U)
 | .tmp t=>fz env t
 | .cell t g k=>match fz env t with
  | some (.c (.ptr b o))=>match fz J b with
   | some (.box cs)=>acv g k cs o
   | _=>none
  | _=>none
def aic(env:iy U)(J:hc U):List S'->Option (List (hM U))
 | []=>some []
 | r::rs=>match awy env J r,aic env J rs with
  | some v,some vs=>some (v::vs)
  | _,_=>none
def aAi :List (hM U)->hM U
 | []=>.gJ []
 | [v]=>v
 | v::w::vs=>.gJ (v::w::vs)
def ao1(kk:Nat)(LM:List S')(K9:NC)(JZ:List O2)(us:List eb)(env:iy U)(J:hc U):Option (ey U.D us):=
 match aic env J LM with
 | none=>none
 | some vs=>match ajB J kk 0 JZ (azL K9 (aAi vs) ([],[])) []with
  | (bs,Ri)=>match Wu Ri env J with
   | none=>none
   | some (env',J')=>match aic env' J' LM with
    | none=>none
    | some Xx=>match ae3 bs && (keeps kk bs && Nat.beq bs.length JZ.length)with
     | false=>none
     | true=>match Uf bs K9 (aAi Xx),SG bs J' 0 JZ with
      | some a,some b=>ey.dec U.D us (a++b)
      | _,_=>none
def aME(kk:Nat)(LM:List S')(K9:NC)(JZ:List O2)(us:List eb):aif U (ey U.D us)
 | .normal,env,J,_=>ao1 kk LM K9 JZ us env J
 | .ret,env,J,_=>ao1 kk LM K9 JZ us env J
 | _,_,_,_=>none
section
variable {P:Program} {nt kk N:Nat} {env:iy U} {J:hc U} {env1:Env} {J1:fu}
def aj6(kk:Nat)(Q:Exit->Env->fu->Nat->Prop):Exit->Env->fu->Nat->Prop:=
 λe env J N=>∃N' env' J',Conv kk N env J N' env' J'/\Q e env' J' N'
theorem aj6.adi{Q:Exit->Env->fu->Nat->Prop}:agU kk (aj6 kk Q):=
 λe N env J N' env' J' h ⟨VD,hj,s2,ah,eg⟩=>⟨VD,hj,s2,h.trans ah,eg⟩
theorem l'.a2x{c:y'}{env:Env}{J:fu}{Q:Exit->Env->fu->Nat->Prop}(h:l' P nt kk c env J N (aj6 kk Q)):l' P nt kk c env J N Q:=
 λcode b7 c9 φ S a w k6 R=>wp_mono (h code b7 c9 φ S a w k6 R) λe a w ⟨hK,ik,env',J',N',⟨VD,hj,s2,ah,eg⟩,R'⟩=>
  let⟨a2T,aM0,C0⟩:=ah c9 nt hK ik a w k6 R';⟨a2T,aM0,hj,s2,VD,eg,C0⟩
theorem aRC(he:r3 N J (λ_=>true) env env1)(dx:pJ N J J1){Z0:S'}{v:hM U}(h:awy env J Z0=some v):∃p v1,ae2 env1 J1 Z0=some (p,v1)/\p/\km N J v v1:=by
 cases Z0 with
 | tmp t=>
  obtain⟨v1,h1,ah⟩:=he t v h;exact⟨True,v1,by simp[ae2,h1],trivial,ah⟩
 | cell t g k=>
  simp only[awy]at h;split at h
  . rename_i b o hk;split at h
    . rename_i cs y1;obtain⟨v1,h1,ah⟩:=he t _ hk;have:=ah.PZ;subst this;obtain⟨_,y,b',ea⟩:=dx b _ y1;cases ea with
      | box ea=>
       obtain⟨v2,hf,tJ⟩:=ahj ea h;exact⟨True,v2,by simp[ae2,h1,b',hf],trivial,tJ⟩
    . cases h
  . cases h
theorem aD'(he:r3 N J (λ_=>true) env env1)(dx:pJ N J J1):∀{LM:List S'} {vs:List (hM U)},aic env J LM=some vs->∃p vs1,ZT env1 J1 LM=some (p,vs1)/\p/\f' (km N J) vs vs1
 | [],vs,h=>by simp[aic]at h;subst h;exact⟨_,[],rfl,trivial,.nil⟩
 | r::rs,vs,h=>by
  simp only[aic]at h;split at h
  . rename_i v Xx h1 ah;cases h;obtain⟨p,v1,a1,a2,a3⟩:=aRC he dx h1;obtain⟨q,vs1,b1,b2,k9⟩:=aD' he dx ah;exact⟨p/\q,v1::vs1,by simp[ZT,a1,b1],⟨a2,b2⟩,.cons a3 k9⟩
  . cases h
theorem aSC{vs:List (hM U)}{vs1:List V}(h:f' (km N J) vs vs1):km N J (aAi vs) (Yj vs1):=by
 cases h with
 | nil=>exact .gJ [] [] rfl (by simp)
 | cons h1 ah=>
  cases ah with
  | nil=>exact h1
  | cons ah b'=>
   refine .gJ _ _ (by simp[b'.length]) λi x d ad a7=>?_
   obtain⟨zv,eh,hj⟩:=(f'.cons h1 (.cons ah b')).get ad
   grind
def ato(s:pv U)(r:ey U.D s.us):V->fu->Nat->Prop:=λkJ hy N'=>N'=s.JZ.length/\km N' (s.rest r) (s.res r) kJ/\pJ N' (s.rest r) hy
theorem aSD{LM:List S'}{s:pv U}{r:ey U.D s.us}(h:ao1 kk LM s.K9 s.JZ s.us env J=some r)(he:r3 N J (λ_=>true) env env1)(dx:pJ N J J1):
 ∃ln hy,Conv kk N env1 J1 N ln hy/\∃p vs1,ZT ln hy LM=some (p,vs1)/\p/\
  ∃bs oJ J2,bs.Nodup/\keeps kk bs=true/\NT ((Yj vs1).hZ bs) oJ/\afs (MC bs hy 0 bs) J2/\ato s r oJ J2 bs.length:=by
 unfold ao1 at h;split at h
 . cases h
 . split at h;rename_i bs Ri _;split at h
   . cases h
   . rename_i env' J' ady;obtain⟨eh,s1,hN,hR,px,_⟩:=akq (kk:=kk) (gl:=[]) ady he dx;split at h
     . cases h
     . rename_i Xx a0D;split at h
       . cases h
       . rename_i al;simp only[k0]at al;obtain⟨Nn,ML,afW⟩:=al;have ix:=akH Nn;have hlen:=q4 afW;split at h
         . rename_i a b ch Rm;obtain⟨p,vs1,d1,d2,d3⟩:=aD' hR px a0D;obtain⟨y,f,g⟩:=auR ix (alU ix Rm) ch;obtain⟨oJ,g1,g2⟩:=g _ (aSC d3);obtain⟨s2,t1,t2⟩:=aq4 ix px Rm;have X5:=ey.MJ h;have eh:s.res r=y:=by unfold pv.res;rw[X5,f]
           have hj:s.rest r=Oc 0 s.JZ b:=by unfold pv.rest;rw[X5,f]
           exact⟨_,_,hN,p,vs1,d1,d2,bs,oJ,s2,ix,ML,g1,t1,hlen,by rw[eh,hj];exact g2,by rw[hj];exact t2⟩
         . cases h
def agW(P:Program)(s:pv U)(h:ey U.D s.ts)(r:ey U.D s.us):Prop:=
 ∀(XU:List V) J1,f' (km s.st.length (s.Q8 h)) (s.args h) XU->pJ s.st.length (s.Q8 h) J1->Ju P s.f XU J1 s.st.length (ato s r)
theorem P7.of{s:pv U}(h:∀h r,s.F h=some r->agW P s h r):P7 P s:=h
theorem agW.ay' {s:pv U} {fn:Func} {c:y'} {LM:List S'} {fo:NA U} {hi:Wz U} (cJ:P.funcs[s.f]?=some fn) (b7:fn.body.bind (resolve P fn.ntmps)=some c) (ar:P9 P fn.results.toList=some LM) (dy:Nat.ble s.Pl.length fn.ntmps=true)
 (wk:M' P fo) (OL:On P fn.ntmps s.st.length hi 0 c)
 {h:ey U.D s.ts} {r:ey U.D s.us} (ad:as5 s.st.length (s.Q8 h) (λJ N=>Vw fo hi s.st.length c 0 (agR 0 (s.args h)) J N (aME s.st.length LM s.K9 s.JZ s.us))=some r):agW P s h r:=by
 intro XU J1 ch dx;have aZ6:XU.length<=fn.ntmps:=by
  rw[<-ch.length];refine RD (ajl ?_) (Qa dy);unfold pv.args;exact aCF
 have Rn:r3 s.st.length (s.Q8 h) (λ_=>true) (agR 0 (s.args h)) (Nk 0 XU):=by
  intro k v hk;have key:∀{xs:List (hM U)} {ds:List V} {i:Nat},f' (km s.st.length (s.Q8 h)) xs ds->fz (agR i xs) k=some v->∃v1,look (Nk i ds) k=some (true,v1)/\km s.st.length (s.Q8 h) v v1:=by
   intro xs
   induction xs with
   | nil=>intro ds i _ h;simp[agR,fz]at h
   | cons x xs ih=>
    intro ds i TM L2;cases TM with
    | cons h1 ah=>
     simp only[agR,fz]at L2;simp only[Nk,look];split at L2
     . simp_all
     . rename_i al;rw[aJ (PC al)];exact ih ah L2
  grind
 obtain⟨a2Z,Nm,a27,ad,aNn,aZJ,aZf,aZX⟩:=aSz ad Rn dx;refine Ju.tidy (Ju.mk (nt:=fn.ntmps) cJ b7 ar rfl aZ6 (l'.conv aNn (l'.a2x (afn wk OL ad aZJ aZf aZX aj6.adi λe env' J' N' ln hy h1 ah b' ea=>?_)))) (λkJ s1 WB ai=>ai)
 . have fin:ao1 s.st.length LM s.K9 s.JZ s.us env' J'=some r->(e= .normal\/e= .ret)->aj6 s.st.length (atg LM λkJ s1 WB=>∃bs oJ J2,bs.Nodup/\keeps s.st.length bs=true/\NT (kJ.hZ bs) oJ/\afs (MC bs s1 0 bs) J2/\ato s r oJ J2 bs.length) e ln hy N':=by
    intro a0o abM;obtain⟨eh,s1,hN,p,vs1,d1,d2,rest⟩:=aSD a0o ah b';refine⟨N',eh,s1,hN,?_⟩;rcases abM with rfl | rfl
    . exact⟨p,vs1,d1,d2,rest⟩
    . exact⟨p,vs1,d1,d2,rest⟩
   cases e with
   | normal=>exact fin h1 (.inl rfl)
   | ret=>exact fin h1 (.inr rfl)
   | _=>cases h1
where
 aCF:∀{ss:List NC} {a:J4 U},(V5 ss a).1.length=ss.length
  | [],a=>rfl
  | s::ss,a=>by
   simp only[V5];have:=aCF (ss:=ss) (a:=(V4 s a).2);simp[this]
def Qd :y'->Nat->Option y'
 | .seq a b,q=>match Nat.ble (NS a) q with
  | true=>Qd b (q - NS a)
  | false=>Qd a q
 | .cond _ a b,q=>match Nat.ble (NS a) q with
  | true=>Qd b (q - NS a)
  | false=>Qd a q
 | .block _ b,q=>Qd b q
 | .loop b,q=>match q with
  | 0=>some b
  | q+1=>Qd b q
 | _,_=>none
theorem On.of{hi:Wz U}:∀{c:y'} {pos:Nat},(∀q b L,Qd c q=some b->hi (pos+q)=some L->agY P nt kk b L)->On P nt kk hi pos c
 | .seq a b,pos,h=>by
  refine⟨On.of λq hq L h1 ah=>h q hq L ?_ ah,On.of λq hq L h1 ah=>h (NS a+q) hq L ?_ (by rw[<-ab8];exact ah)⟩
  . simp only[Qd];cases al:Nat.ble (NS a) q with
    | true=>exact absurd (adN h1) (by have:=Qa al;omega)
    | false=>exact h1
  . simp only[Qd];have:Nat.ble (NS a) (NS a+q)=true:=by simp
    grind
 | .cond c a b,pos,h=>by
  refine⟨On.of λq hq L h1 ah=>h q hq L ?_ ah,On.of λq hq L h1 ah=>h (NS a+q) hq L ?_ (by rw[<-ab8];exact ah)⟩
  . simp only[Qd];cases al:Nat.ble (NS a) q with
    | true=>exact absurd (adN h1) (by have:=Qa al;omega)
    | false=>exact h1
  . simp only[Qd];have:Nat.ble (NS a) (NS a+q)=true:=by simp
    grind
 | .block id b,pos,h=>On.of (c:=b) h
 | .loop b,pos,h=>λL vK=>h 0 b L rfl vK
 | .skip,pos,h=>trivial
 | .region _,pos,h=>trivial
 | .aar _ _,pos,h=>trivial
 | .exit _,pos,h=>trivial
 | .ret,pos,h=>trivial
where
 adN:∀{c:y'} {q:Nat} {b:y'},Qd c q=some b->q < NS c
  | .seq a b,q,hq,h=>by
   simp only[Qd]at h;simp only[NS];split at h
   . rename_i al;have:=adN h;have:=Qa al;omega
   . have:=adN h;omega
  | .cond _ a b,q,hq,h=>by
   simp only[Qd]at h;simp only[NS];split at h
   . rename_i al;have:=adN h;have:=Qa al;omega
   . have:=adN h;omega
  | .block _ b,q,hq,h=>adN (c:=b) h
  | .loop b,0,hq,h=>by simp[NS]
  | .loop b,q+1,hq,h=>by have:=adN (c:=b) h;simp only[NS];omega
  | .skip,q,hq,h=>by simp[Qd]at h
  | .region _,q,hq,h=>by simp[Qd]at h
  | .aar _ _,q,hq,h=>by simp[Qd]at h
  | .exit _,q,hq,h=>by simp[Qd]at h
  | .ret,q,hq,h=>by simp[Qd]at h
theorem On.aK1{hi:Wz U}{c:y'}(h:∀q L,hi q=some L->agY P nt kk ((Qd c q).getD .skip) L):On P nt kk hi 0 c:=
 On.of λq b L h1 ah=>by grind
theorem On.none{c:y'}:On P nt kk (λ_=>none:Wz U) 0 c:=On.aK1 λq L h=>by cases h
theorem M'.none :M' P (λ_=>[]:NA U):=λf s h=>by simp at h
end
end Go.Proofs.YtijpinendaoleaaGreat.Shv
namespace Go.Proofs.YtijpinendaoleaaGreat.Shv
open Go
def axf(P:Program)(fn:Func):y':=
 match fn.body.bind (Shv.resolve P fn.ntmps)with
 | some c=>c
 | none=>.skip
def ahK(c:y')(q:Nat):y':=(Qd c q).getD .skip
def Rh{U:pK}:List (pv U)->NA U
 | [],_=>[]
 | s::l,f=>match Nat.beq s.f f with
  | true=>s::Rh l f
  | false=>Rh l f
def Zc{U:pK}(l:List (Nat×Qx U)):Wz U:=λq=>fz l q
theorem M'.nil{U:pK}{P:Program}:M' P (Rh ([]:List (pv U))):=λf s h=>by simp[Rh]at h
theorem M'.cons{U:pK}{P:Program}{s:pv U}{l:List (pv U)}(al:PE P s.f=true)(hs:P7 P s)(h:M' P (Rh l)):M' P (Rh (s::l)):=by
 intro f t ht;simp only[Rh]at ht;split at ht
 . rename_i cJ;have:=q4 cJ;rcases LJ.1 ht with rfl | ht
   . grind
   . exact h f t ht
 . exact h f t ht
def Td{U:pK}(P:Program)(nt kk:Nat)(c:y')(l:List (Nat×Qx U)):Prop:=∀q L,fz l q=some L->agY P nt kk (ahK c q) L
theorem Td.nil{U:pK}{P:Program}{nt kk:Nat}{c:y'}:Td P nt kk c ([]:List (Nat×Qx U)):=λq L h=>by simp[fz]at h
theorem Td.cons{U:pK}{P:Program}{nt kk:Nat}{c:y'}{q:Nat}{L:Qx U}{l:List (Nat×Qx U)}(vK:agY P nt kk (ahK c q) L)(h:Td P nt kk c l):Td P nt kk c ((q,L)::l):=by
 intro ad4 L' eg;simp only[fz]at eg;split at eg
 . simp_all
 . exact h ad4 L' eg
theorem Td.snd{U:pK}{P:Program}{nt kk:Nat}{c:y'}{l:List (Nat×Qx U)}(h:Td P nt kk c l):On P nt kk (Zc l) 0 c:=On.aK1 λq L eg=>h q L eg
def e0(k:IntKind)(a b:Int):Int:=k.wrap (a+b)
def BJ(k:IntKind)(a b:Int):Int:=k.wrap (a - b)
def Nv(k:IntKind)(a b:Int):Int:=k.wrap (a*b)
def MV(k:IntKind)(a b:Int):Int:=k.wrap (a.tdiv b)
def kt(a b:Int):Int:=a.tmod b
def aq8(k:IntKind)(a b:Int):Int:=k.wrap (BitVec.ofInt k.bits a &&& BitVec.ofInt k.bits b).toNat
def ad1(k:IntKind)(a b:Int):Int:=k.wrap (BitVec.ofInt k.bits a ||| BitVec.ofInt k.bits b).toNat
def agS(k:IntKind)(a b:Int):Int:=k.wrap (BitVec.ofInt k.bits a ^^^ BitVec.ofInt k.bits b).toNat
def Zm(k:IntKind)(a b:Int):Int:=k.wrap (a*2 ^ min b.toNat k.bits)
def Xu(k:IntKind)(a b:Int):Int:=a.fdiv (2 ^ min b.toNat k.bits)
end Go.Proofs.YtijpinendaoleaaGreat.Shv
namespace Go.Proofs.YtijpinendaoleaaGreat.Shv
open Go
set_option linter.all false
variable {U:pK}
structure h4 where
 q:Nat
 hL:Shape
 own:List (Pos×eb)
 azF:List (Pos×eb)
 ts:List eb
 outs:List VS
 sub:List h4
structure e' where
 f:Nat
 Pl:List NC
 st:List O2
 ts:List eb
 K9:NC
 JZ:List O2
 us:List eb
 sub:List h4
def h4.l(e:h4)(F:ey U.D e.ts->Option (K5 U e.outs)):Qx U:=⟨e.hL,e.own,e.ts,e.outs,F⟩
def e'.s(e:e')(F:ey U.D e.ts->Option (ey U.D e.us)):pv U:=⟨e.f,e.Pl,e.st,e.ts,e.K9,e.JZ,e.us,F⟩
def codeF(P:Program)(f:Nat):y':=match P.funcs[f]? with
 | some fn=>axf P fn
 | none=>.skip
def anV(P:Program)(f:Nat):Nat:=match P.funcs[f]? with
 | some fn=>fn.ntmps
 | none=>0
def aAK(P:Program)(f:Nat):List S':=match P.funcs[f]? with
 | some fn=>(match P9 P fn.results.toList with
  | some r=>r
  | none=>[])
 | none=>[]
def agB(P:Program)(e:e'):Bool:=match P.funcs[e.f]? with
 | some fn=>PE P e.f && ((fn.body.bind (resolve P fn.ntmps)).isSome && ((P9 P fn.results.toList).isSome && Nat.ble e.Pl.length fn.ntmps))
 | none=>false
def Tc(P:Program)(e:e'):Prop:=agB P e=true
theorem Tc.m{P:Program}{e:e'}(h:agB P e=true):Tc P e:=h
def ae4(fo:NA U)(hi:Wz U)(kk:Nat)(b:y')(e:h4)(F':ey U.D e.ts->Option (K5 U e.outs))(h:ey U.D e.ts):Option (K5 U e.outs):=
 Vw fo hi kk b 0 (O6 U e.hL (ey.cells U.D e.ts h)).1 (O6 U e.hL (ey.cells U.D e.ts h)).2 e.hL.st.length (λx env J N=>match x with
  | .normal=>match ael kk e.azF e.hL e.ts env J N with
   | some rz=>F' rz
   | none=>none
  | x=>ad0 kk e.outs x env J N)
def agQ(fo:NA U)(hi:Wz U)(P:Program)(e:e')(h:ey U.D e.ts):Option (ey U.D e.us):=
 as5 e.st.length (Oc 0 e.st (V5 e.Pl (ey.cells U.D e.ts h)).2) λJ N=>Vw fo hi e.st.length (codeF P e.f) 0 (agR 0 (V5 e.Pl (ey.cells U.D e.ts h)).1) J N (aME e.st.length (aAK P e.f) e.K9 e.JZ e.us)
section
variable {P:Program}
theorem aEE {fo:NA U} (wk:M' P fo) {hi:Wz U} {nt kk:Nat} {b:y'} {e:h4} {h:ey U.D e.ts} {o:K5 U e.outs} {F':ey U.D e.ts -> Option (K5 U e.outs)}
 (OL:On P nt kk hi 0 b) (U6:∀h o,F' h=some o->Zu P nt kk b e.hL e.ts e.outs h o) (ad:ae4 fo hi kk b e F' h=some o):Zu P nt kk b e.hL e.ts e.outs h o:=by
 refine Zu.a1o (own:=e.azF) wk OL U6 (Eq.trans ?_ ad);unfold ae4
 congr 1
 funext x env J N
 cases x with
 | normal=>
  dsimp only;generalize ael kk e.azF e.hL e.ts env J N=z;cases z <;> rfl
 | _=>rfl
theorem aGa {fo:NA U} {hi:Wz U} {e:e'} (hk:Tc P e) (F:ey U.D e.ts -> Option (ey U.D e.us)) (wk:M' P fo) (OL:On P (anV P e.f) e.st.length hi 0 (codeF P e.f))
 {h:ey U.D e.ts} {r:ey U.D e.us} (ad:agQ fo hi P e h=some r):agW P (e.s F) h r:=by
 unfold Tc agB at hk;unfold codeF at OL;unfold anV at OL;unfold agQ codeF aAK at ad;split at hk
 . rename_i fn KV;simp only[KV]at OL ad;simp only[k0]at hk;obtain⟨b',ea,hf,tJ⟩:=hk;obtain⟨c,b7⟩:=aob.1 ea;obtain⟨LM,ar⟩:=aob.1 hf;have art:axf P fn=c:=by unfold axf;rw[b7]
   rw[art]at OL ad;simp only[ar]at ad;exact agW.ay' (s:=e.s F) KV b7 ar tJ wk OL ad
 . cases hk
theorem Tc.b{e:e'}(hk:Tc P e):PE P e.f=true:=by
 unfold Tc agB at hk
 grind
def amJ(fo:NA U)(kk:Nat):Nat->y'->(e:h4)->ey U.D e.ts->Option (K5 U e.outs)
 | 0,_,_,_=>none
 | n+1,b,e,h=>ae4 fo (Zc (e.sub.map λs=>(s.q,s.l (amJ fo kk n (ahK b s.q) s)))) kk b e (amJ fo kk n b e) h
def agN(g:(e:e')->ey U.D e.ts->Option (ey U.D e.us))(r:List (pv U)):List e'->NA U
 | [],f=>Rh r f
 | e::T,f=>match Nat.beq e.f f with
  | true=>e.s (g e)::agN g r T f
  | false=>agN g r T f
def YX(P:Program)(T:List e')(X:List (pv U)):Nat->(e:e')->ey U.D e.ts->Option (ey U.D e.us)
 | 0,_,_=>none
 | n+1,e,h=>agQ (agN (YX P T X n) X T) (Zc (e.sub.map λs=>(s.q,s.l (amJ (agN (YX P T X n) X T) e.st.length n (ahK (codeF P e.f) s.q) s)))) P e h
theorem ayH{nt kk:Nat}{b:y'}{g:(s:h4)->ey U.D s.ts->Option (K5 U s.outs)}:∀{l:List h4},(∀s h o,g s h=some o->Zu P nt kk (ahK b s.q) s.hL s.ts s.outs h o)->Td P nt kk b (l.map λs=>(s.q,s.l (g s)))
 | [],_=>Td.nil
 | s::l,b9=>Td.cons (λh o c8=>b9 s h o c8) (ayH (l:=l) b9)
theorem av1{fo:NA U}(wk:M' P fo){nt kk:Nat}:∀(n:Nat) (b:y') (e:h4) (h:ey U.D e.ts) (o:K5 U e.outs),amJ fo kk n b e h=some o->Zu P nt kk b e.hL e.ts e.outs h o
 | 0,_,_,_,_,ad=>by simp[amJ]at ad
 | n+1,b,e,h,o,ad=>aEE wk (Td.snd (ayH λs h o c8=>av1 wk n _ s h o c8)) (λh o c8=>av1 wk n b e h o c8) ad
theorem aHR{g:(e:e')->ey U.D e.ts->Option (ey U.D e.us)}{r:List (pv U)}(ar:M' P (Rh r)):∀{T:List e'},(∀e,e∈T->Tc P e)->(∀e,e∈T->P7 P (e.s (g e)))->M' P (agN g r T)
 | [],_,_=>ar
 | e::T,hk,b9=>by
  intro f t ht;simp only[agN]at ht;have ih:=aHR ar (λe he=>hk e (ayY _ he)) (λe he=>b9 e (ayY _ he));split at ht
  . rename_i cJ;have:=q4 cJ;rcases LJ.1 ht with rfl | ht
    . exact⟨this,by rw[<-this];exact(hk e ay2).b,b9 e ay2⟩
    . exact ih f t ht
  . exact ih f t ht
theorem aHS{T:List e'}(hk:∀e,e∈T->Tc P e){X:List (pv U)}(Xf:M' P (Rh X)):∀(n:Nat) (e:e'),Tc P e->P7 P (e.s (YX P T X n e))
 | 0,e,_=>λh r ar=>by simp[e'.s,YX]at ar
 | n+1,e,he=>P7.of λh r ar=>
  have wk:M' P (agN (YX P T X n) X T):=aHR Xf hk λsK L0=>aHS hk Xf n sK (hk sK L0)
  aGa he _ wk (Td.snd (ayH λs h o c8=>av1 wk n _ s h o c8)) ar
end
end Go.Proofs.YtijpinendaoleaaGreat.Shv
namespace Go.Proofs.YtijpinendaoleaaGreat.Shv
open Go
set_option linter.all false
variable {U:pK} {P:Program}
def RR(P:Program)(s:pv U):Prop:=PE P s.f=true/\P7 P s
def ad3(P:Program)(f:Nat):List Nat->y'
 | []=>codeF P f
 | q::p=>ahK (ad3 P f p) q
def ack(P:Program)(f kk:Nat)(p:List Nat)(e:h4)(F:ey U.D e.ts->Option (K5 U e.outs)):Prop:=agY P (anV P f) kk (ad3 P f p) (e.l F)
def VB(P:Program)(l:List (pv U)):Prop:=M' P (Rh l)
theorem VB.n :VB P ([]:List (pv U)):=M'.nil
theorem VB.k{s:pv U}{l:List (pv U)}(h:RR P s)(a6:VB P l):VB P (s::l):=M'.cons h.1 h.2 a6
def WA(P:Program)(f kk:Nat)(p:List Nat)(l:List (Nat×Qx U)):Prop:=Td P (anV P f) kk (ad3 P f p) l
theorem WA.n{f kk:Nat}{p:List Nat}:WA P f kk p ([]:List (Nat×Qx U)):=Td.nil
theorem WA.k{f kk q:Nat}{p:List Nat}{e:h4}{F:ey U.D e.ts->Option (K5 U e.outs)}{l:List (Nat×Qx U)}(h:ack P f kk (q::p) e F)(a6:WA P f kk p l):WA P f kk p ((q,e.l F)::l):=Td.cons h a6
def ao6(P:Program)(U:pK)(e:e')(h:ey U.D e.ts)(r:ey U.D e.us):Prop:=agW P (e.s λ_=>none) h r
def aj0(P:Program)(U:pK)(f kk:Nat)(p:List Nat)(e:h4)(h:ey U.D e.ts)(o:K5 U e.outs):Prop:=Zu P (anV P f) kk (ad3 P f p) e.hL e.ts e.outs h o
theorem ao6.at{e:e'}(hk:Tc P e){fs:List (pv U)}(cJ:VB P fs){ls:List (Nat×Qx U)}(a6:WA P e.f e.st.length [] ls){h:ey U.D e.ts}{r:ey U.D e.us}(ad:agQ (Rh fs) (Zc ls) P e h=some r):ao6 P U e h r:=
 aGa hk _ cJ (Td.snd a6) ad
theorem aj0.at {f kk:Nat} {p:List Nat} {e:h4} {F':ey U.D e.ts -> Option (K5 U e.outs)} (q0:∀h o,F' h=some o -> aj0 P U f kk p e h o) {fs:List (pv U)} (cJ:VB P fs) {ls:List (Nat×Qx U)} (a6:WA P f kk p ls) {h:ey U.D e.ts} {o:K5 U e.outs}
 (ad:ae4 (Rh fs) (Zc ls) kk (ad3 P f p) e F' h=some o):aj0 P U f kk p e h o:=
 aEE cJ (Td.snd a6) q0 ad
theorem RR.of{e:e'}(hk:Tc P e){F:ey U.D e.ts->Option (ey U.D e.us)}(h:∀h r,F h=some r->ao6 P U e h r):RR P (e.s F):=⟨hk.b,P7.of h⟩
theorem ack.of{f kk:Nat}{p:List Nat}{e:h4}{F:ey U.D e.ts->Option (K5 U e.outs)}(h:∀h o,F h=some o->aj0 P U f kk p e h o):ack P f kk p e F:=h
theorem RR.fn{e:e'}(hk:Tc P e){F:ey U.D e.ts->Option (ey U.D e.us)}{fs:List (pv U)}(cJ:VB P fs){ls:List (Nat×Qx U)}(a6:WA P e.f e.st.length [] ls)(ad:∀h,agQ (Rh fs) (Zc ls) P e h=F h):RR P (e.s F):=
 .of hk λh r ar=>.at hk cJ a6 ((ad h).trans ar)
theorem ack.a0'{f kk:Nat}{p:List Nat}{e:h4}{F:ey U.D e.ts->Option (K5 U e.outs)}{fs:List (pv U)}(cJ:VB P fs){ls:List (Nat×Qx U)}(a6:WA P f kk p ls)(ad:∀h,ae4 (Rh fs) (Zc ls) kk (ad3 P f p) e (λ_=>none) h=F h):ack P f kk p e F:=
 .of λh o c8=>.at (F':=λ_=>none) (λ_ _ h=>by cases h) cJ a6 ((ad h).trans c8)
theorem RR.rc {e:e'} (hk:Tc P e) {F:ey U.D e.ts -> Option (ey U.D e.us)} {b:(ey U.D e.ts -> Option (ey U.D e.us)) -> ey U.D e.ts -> Option (ey U.D e.us)}
 (asB:∀m:ey U.D e.ts->ey U.D e.us->Prop,(∀F',(∀h r,F' h=some r->m h r)->∀h r,b F' h=some r->m h r)->∀h r,F h=some r->m h r)
 {fs:(ey U.D e.ts->Option (ey U.D e.us))->List (pv U)} (cJ:∀F',RR P (e.s F')->VB P (fs F')) {ls:List (Nat×Qx U)} (a6:WA P e.f e.st.length [] ls) (ad:∀F' h,agQ (Rh (fs F')) (Zc ls) P e h=b F' h):RR P (e.s F):=
 .of hk (asB _ λF' q0 h r ar=>.at hk (cJ F' (.of hk q0)) a6 ((ad F' h).trans ar))
theorem ack.rc {f kk:Nat} {p:List Nat} {e:h4} {F:ey U.D e.ts -> Option (K5 U e.outs)} {b:(ey U.D e.ts -> Option (K5 U e.outs)) -> ey U.D e.ts -> Option (K5 U e.outs)}
 (asB:∀m:ey U.D e.ts->K5 U e.outs->Prop,(∀F',(∀h r,F' h=some r->m h r)->∀h r,b F' h=some r->m h r)->∀h r,F h=some r->m h r)
 {fs:List (pv U)} (cJ:VB P fs) {ls:List (Nat×Qx U)} (a6:WA P f kk p ls) (ad:∀F' h,ae4 (Rh fs) (Zc ls) kk (ad3 P f p) e F' h=b F' h):ack P f kk p e F:=
 .of (asB _ λF' q0 h o c8=>.at q0 cJ a6 ((ad F' h).trans c8))
theorem aWM{T:List e'}(h:T.all (agB P)=true):∀e,e∈T->Tc P e:=λe he=>r0.1 h e he
theorem RR.run{T:List e'}(vk:T.all (agB P)=true){X:List (pv U)}(Xf:VB P X){e:e'}(hk:Tc P e){F:ey U.D e.ts->Option (ey U.D e.us)}(n:Nat)(h:∀h,F h=YX P T X n e h):RR P (e.s F):=
 ⟨hk.b,λx r ar=>aHS (aWM vk) Xf n e hk x r ((h x).symm.trans ar)⟩
abbrev aa :eb:= .int .i64
abbrev b6(n:Nat):eb:= .slice (.nm n)
abbrev Jy :eb:= .slice .str
abbrev gb :eb:= .slice (.int .i64)
abbrev ai(t:eb):NC:= .c (.hole t)
abbrev d'(b o:Nat):NC:= .c (.ptr b o)
abbrev l0(t:eb):O2:= .box [.hole t]
abbrev LI(k:Nat)(t:eb):VS:=⟨.ret,⟨[(k,ai t)],[]⟩,[],[t]⟩
abbrev OQ(i:Nat):VS:=⟨.exit i,⟨[],[]⟩,[],[]⟩
end Go.Proofs.YtijpinendaoleaaGreat.Shv
namespace Go.Proofs.YtijpinendaoleaaGreat.Shv
set_option linter.all false
section
open Go
variable {U:pK}
def ag3(sz bytes:Nat)(z:List C):y':=
 .seq (.region [⟨some 2,.mov (.const (.c .ee)),none⟩])
  (.seq (.seq (.region [⟨some 3, .mov (.tmp 0), none⟩, ⟨some 4, .eqNil false (.tmp 3), none⟩])
   (.cond (.tmp 4) (.seq (.region [⟨some 2,.mov (.const (.c .ee)),none⟩]) .ret) .skip))
   (.seq (.region [⟨some 5,.bslice sz 0 z [],none⟩,⟨some 6,.mov (.tmp 0),none⟩,⟨some 7,.append sz bytes (.tmp 5) (.tmp 6),none⟩,⟨some 2,.mov (.tmp 7),none⟩]) .ret))
def T8{α:Type}(bytes:Nat)(l:List α):Option (List α):=if room bytes l.length=true then some l else none
def ahL(U:pK)(f:Nat)(t:eb)(bytes:Nat):pv U:=
 ⟨f,[.c (.hole (.slice t))],[],[.slice t],.c (.arr 0),[.arr t],[.slice t],λ(l:List (t.den U.D))=>T8 bytes l⟩
section
variable {P:Program}
theorem aUo {f:Nat} {fn:Func} {sz bytes:Nat} {z:List C} {Qw:List T} {es:List (List T)} (cJ:P.funcs[f]?=some fn) (b7:fn.body.bind (Shv.resolve P fn.ntmps)=some (ag3 sz bytes z)) (ar:P9 P fn.results.toList=some [.tmp 2])
 (dy:1<=fn.ntmps) (ga:toTs z=some Qw) (h6:0 < sz) (he:∀e,e∈es->e.length=sz) (MN:room bytes es.length=true):
 Ju P f [.c (.t (.slice es))] [] 0 (λr J' N'=>N'=1/\r= .c (.arr 0 sz 0 es.length)/\e1 J' 0=some (.arr sz es)):=by
 have anp:=ahY.1 MN;refine Ju.tidy (Q:=λr J' N'=>∃b,r= .c (.arr b sz 0 es.length)/\e1 J' b=some (.arr sz es)) (Ju.mk cJ b7 ar rfl (by simpa using dy) ?_) ?_
 . unfold ag3;refine l'.seq (l'.region ?_);simp only[VU,O4,Nc,ep,er.get,Oh,JB,Nk,py.neutral,qb,andThen];refine .inr ⟨λ_=>trivial,.inl trivial,?_⟩;refine l'.seq (l'.seq (l'.region ?_));simp only[VU,O4,Nc,ep,er.get,Oh,JB,py.neutral,qb,andThen,look,Pg,Qo]
   refine .inr ⟨λ_=>by simp,.inl trivial,?_⟩;refine .inr ?_;simp only[Nat.reduceEqDiff,uJ,qb,Oh,adT];intro b al;refine l'.cond (b:=b) (p:=True) (by simp[er.get,look,afG]) trivial (λaZu=>?_) (λaZr=>?_)
   ·
    have JV:es=[]:=by grind
    subst JV;refine l'.seq (l'.region ?_);simp only[VU,O4,Nc,ep,er.get,Oh,JB,py.neutral,qb,andThen];refine .inr ⟨λ_=>trivial,.inl trivial,?_⟩;refine l'.conv (Conv.own (k:=2) (g:=true) (sz:=sz) rfl h6 (RE _)) (l'.ret ?_)
    refine⟨_,_,rfl,⟨rfl,trivial⟩,_,rfl,?_⟩;rw[q6,ao rfl]
   . refine l'.skip ?_;refine l'.seq (l'.region ?_);simp only[VU,O4,Nc,ep,er.get,Oh,JB,py.neutral,qb,andThen,look,T0,ga,cm,Nat.reduceEqDiff,uJ,q2,reduceCtorEq,Yn,q6,List.replicate];refine .inr ⟨λ_=>trivial,.inr trivial,?_⟩;refine .inr ⟨λ_=>by simp,.inl trivial,?_⟩
     refine .inr ⟨λ_=>⟨trivial,trivial,trivial,trivial,trivial,by simp,he,by simpa using anp.1,by simpa using anp.2⟩,.inr trivial,?_⟩;refine .inr ⟨λ_=>by simp,.inl trivial,?_⟩;refine l'.ret ⟨_,[.c (.arr 80 sz 0 (0+es.length))],rfl,⟨rfl,trivial⟩,80,by rw[NI];rfl,?_⟩;rw[q6,ao rfl];simp
 . rintro r J' N' ⟨b,rfl,hs⟩
   refine⟨[b],_,_,by simp,rfl,?_,λi x ad=>⟨x,ad,?_⟩,rfl,rfl,?_⟩
   . simp only[V.hZ,C.hZ,pos,qb];exact .c (yq.refl _)
   . cases x with
     | box cs=>exact .box (f'.self yq.refl _)
     | arr sz es=>exact .arr
     | set ks=>exact .same
     | buf E s=>exact .same
     | kn E c=>exact .kn (yq.refl _)
     | nJ sz es i o c=>exact .nJ (yq.refl _)
   . simp[MC,hs,e1,h2.hZ]
theorem awQ {f:Nat} {fn:Func} {sz bytes:Nat} {z:List C} {Qw:List T} {t:eb} (cJ:P.funcs[f]?=some fn) (b7:fn.body.bind (Shv.resolve P fn.ntmps)=some (ag3 sz bytes z)) (ar:P9 P fn.results.toList=some [.tmp 2])
 (dy:Nat.ble 1 fn.ntmps=true) (ga:toTs z=some Qw) (h6:t.sz U=sz):P7 P (ahL U f t bytes):=by
 intro(l:List (t.den U.D)) r q0 XU J1 ch dx;subst h6;have U6:T8 bytes l=some r:=q0;unfold T8 at U6;split at U6
 . rename_i MN;cases U6;cases ch with
   | cons h1 ah=>
    cases ah;have:=km.Vs (t:=t) (l:=l) h1;subst this
    refine Ju.conv (J':=[]) (.cons (.c (yq.refl _)) .nil) (λb x ad=>by simp[e1]at ad) ((aUo (bytes:=bytes) cJ b7 ar (Qa dy) ga eb.ajI (es:=List.map (t.enc U) l) (λe he=>by
     obtain⟨y,_,rfl⟩:=Lp.1 he
     exact eb.afQ) (by rw[SZ];exact MN)).mono ?_)
    rintro kJ s1 WB ⟨rfl,rfl,hs⟩
    refine⟨rfl,.c (.arr 0 _ _ (by omega) λx ad p bo=>?_),λb x ad=>?_⟩
    . have:x=qJ.arr t l:=by
       simp only[pv.rest,ahL,V4,adn,ey.cells,Ls.cells,Oc,Rf,fz,Nat.beq,hQ]at ad
       grind
      subst this;simp only[qJ.xn,hQ]at bo;rw[<-bo,SZ]
    . have Ly:(if b=0 then some (qJ.arr t l)else none)=some x:=by
       rw[<-ad];simp only[pv.rest,ahL,V4,adn,ey.cells,Ls.cells,Oc,Rf,fz];cases b <;> rfl
      split at Ly
      . rename_i al;cases Ly;subst al;exact⟨by omega,_,hs,.arr t l⟩
      . cases Ly
 . cases U6
def axg{α:Type}(bytes:Nat)(l:List α):Option (List α×List α):=(T8 bytes l).map λr=>(l,r)
def aqz(U:pK)(f:Nat)(t:eb)(bytes:Nat):pv U:=
 ⟨f,[.c (.arr 0)],[.arr t],[.slice t],.c (.arr 1),[.arr t,.arr t],[.slice t,.slice t],λ(l:List (t.den U.D))=>axg bytes l⟩
theorem aTt {f:Nat} {fn:Func} {sz bytes:Nat} {z:List C} {Qw:List T} {es:List (List T)} {ki:fu} (cJ:P.funcs[f]?=some fn) (b7:fn.body.bind (Shv.resolve P fn.ntmps)=some (ag3 sz bytes z)) (ar:P9 P fn.results.toList=some [.tmp 2])
 (dy:1<=fn.ntmps) (ga:toTs z=some Qw) (h6:0 < sz) (he:∀e,e∈es->e.length=sz) (MN:room bytes es.length=true) (h0:e1 ki 0=some (.arr sz es)):
 Ju P f [.c (.arr 0 sz 0 es.length)] ki 1 (λr J' N'=>N'=2/\r= .c (.arr 1 sz 0 es.length)/\e1 J' 0=some (.arr sz es)/\e1 J' 1=some (.arr sz es)):=by
 have anp:=ahY.1 MN;refine Ju.tidy (Q:=λr J' N'=>∃b,1<=b/\r= .c (.arr b sz 0 es.length)/\e1 J' 0=some (.arr sz es)/\e1 J' b=some (.arr sz es)) (Ju.mk cJ b7 ar rfl (by simpa using dy) ?_) ?_
 . unfold ag3;refine l'.seq (l'.region ?_);simp only[VU,O4,Nc,ep,er.get,Oh,JB,Nk,py.neutral,qb,andThen];refine .inr ⟨λ_=>trivial,.inl trivial,?_⟩;refine l'.seq (l'.seq (l'.region ?_));simp only[VU,O4,Nc,ep,er.get,Oh,JB,py.neutral,qb,andThen,look,Pg,Qo]
   refine .inr ⟨λ_=>by simp,.inl trivial,?_⟩;refine .inr ?_;simp only[Nat.reduceEqDiff,uJ,qb,Oh,adT];intro b al;refine l'.cond (b:=b) (p:=True) (by simp[er.get,look,afG]) trivial (λaZu=>?_) (λaZr=>?_)
   . have JV:es=[]:=by grind
     subst JV;refine l'.seq (l'.region ?_);simp only[VU,O4,Nc,ep,er.get,Oh,JB,py.neutral,qb,andThen];refine .inr ⟨λ_=>trivial,.inl trivial,?_⟩;refine l'.conv (Conv.own (k:=2) (g:=true) (sz:=sz) rfl h6 (by omega)) (l'.ret ?_)
     refine⟨_,_,rfl,⟨rfl,trivial⟩,_,by omega,rfl,?_,?_⟩
     . rw[q6,aJ (by omega)];exact h0
     . rw[q6,ao rfl]
   . refine l'.skip ?_;refine l'.seq (l'.region ?_);simp only[VU,O4,Nc,ep,er.get,Oh,JB,py.neutral,qb,andThen,look,T0,ga,cm,Nat.reduceEqDiff,uJ,q2,reduceCtorEq,List.replicate];refine .inr ⟨λ_=>trivial,.inr trivial,?_⟩;refine .inr ⟨λ_=>by simp,.inl trivial,?_⟩
     have bJ:∀v:List (List T),Yn (vc ki (1+16*1+16*2) (.arr sz v)) (.c (.arr 0 sz 0 es.length))=some (es,some 0):=by
      intro v;simp[Yn,q6,h0]
     refine .inr ?_;simp only[Pg,Qo,NI]at bJ ⊢;rw[bJ];simp only[cm,q6,qb,hQ,Nat.reduceMul,Nat.reduceAdd,show ¬(0=49) by omega,show ¬(49=0) by omega,uJ];refine⟨λ_=>⟨trivial,trivial,trivial,trivial,trivial,by simp,he,by simpa using anp.1,by simpa using anp.2⟩,.inr trivial,?_⟩
     refine .inr ⟨λ_=>by simp,.inl trivial,?_⟩;refine l'.ret ⟨_,[.c (.arr 81 sz 0 es.length)],rfl,⟨rfl,trivial⟩,81,by omega,rfl,?_,?_⟩
     . rw[q6,aJ (by omega),Nb,aJ (by omega),q6,aJ (by omega)];exact h0
     . rw[q6,ao rfl];simp
 . rintro r J' N' ⟨b,Nn,rfl,PT,hs⟩
   refine⟨[0,b],_,_,by simp;omega,rfl,?_,λi x ad=>⟨x,ad,?_⟩,rfl,rfl,?_⟩
   . simp only[V.hZ,C.hZ,pos,aJ (show ¬0=b by omega),qb];exact .c (yq.refl _)
   . cases x with
     | box cs=>exact .box (f'.self yq.refl _)
     | arr sz es=>exact .arr
     | set ks=>exact .same
     | buf E s=>exact .same
     | kn E c=>exact .kn (yq.refl _)
     | nJ sz es i o c=>exact .nJ (yq.refl _)
   . simp[MC,hs,PT,e1,h2.hZ]
theorem aTu {f:Nat} {fn:Func} {sz bytes:Nat} {z:List C} {Qw:List T} {t:eb} (cJ:P.funcs[f]?=some fn) (b7:fn.body.bind (Shv.resolve P fn.ntmps)=some (ag3 sz bytes z)) (ar:P9 P fn.results.toList=some [.tmp 2])
 (dy:Nat.ble 1 fn.ntmps=true) (ga:toTs z=some Qw) (h6:t.sz U=sz):P7 P (aqz U f t bytes):=by
 intro(l:List (t.den U.D)) r q0 XU J1 ch dx;subst h6;have U6:(T8 bytes l).map (λr=>(l,r))=some r:=q0;unfold T8 at U6;split at U6
 . rename_i MN;cases U6;cases ch with
   | cons h1 ah=>
    cases ah;obtain⟨sz,n,rfl,_,a7⟩:=h1.O3;obtain⟨_,y,anF,anG⟩:=dx 0 (.arr t l) rfl;cases anG;have:=a7 (.arr t l) rfl (t.sz U,l.length) rfl;simp only[hO]at this;obtain⟨rfl,rfl⟩:=this;have hlen:l.length=(l.map (t.enc U)).length:=by rw[SZ]
    rw[hlen]
    refine(aTt (bytes:=bytes) cJ b7 ar (Qa dy) ga eb.ajI (es:=List.map (t.enc U) l) (λe he=>by
     obtain⟨y,_,rfl⟩:=Lp.1 he
     exact eb.afQ) (by rw[SZ];exact MN) anF).mono ?_
    rintro kJ s1 WB ⟨rfl,rfl,PT,a0s⟩
    have L2:∀b x,fz ((aqz U f t bytes).rest (l,l)) b=some x->(b=0\/b=1)/\x=qJ.arr t l:=by
     intro b x ad;have Ly:(if b=0 then some (qJ.arr t l)else if b=1 then some (qJ.arr t l)else none)=some x:=by
      rw[<-ad];simp only[pv.rest,aqz,V4,adn,ey.cells,Ls.cells,Oc,Rf,fz]
      match b with
      | 0=>rfl
      | 1=>rfl
      | _+2=>rfl
     grind
    refine⟨rfl,.c (.arr 1 _ _ (by omega) λx ad p bo=>?_),λb x ad=>?_⟩
    . obtain⟨_,rfl⟩:=L2 _ _ ad;simp only[qJ.xn,hQ]at bo;rw[<-bo,SZ]
    . obtain⟨al,rfl⟩:=L2 _ _ ad;rcases al with rfl | rfl
      . exact⟨by omega,_,PT,.arr t l⟩
      . exact⟨by omega,_,a0s,.arr t l⟩
 . cases U6
end
end
section
open Go Go.Proofs Go.Proofs.YtijpinendaoleaaGreat Go.Shelf
variable {U:pK}
def aqA(U:pK)(f E aaz:Nat):pv U:=
 ⟨f,[.c (.ptr 0 0)],[.kn E (.pq 1),.buf aaz],[.str],.gJ [],[.kn E (.pq 1),.buf aaz],[.str],λ(s:List UInt8)=>some s⟩
section
variable {P:Program} {ρ:Ren}
theorem aUp(L:Lays.n240 P ρ)(X:Builder.X72 P ρ){J:fu}{aaz n:Nat}{s:List UInt8}(h0:e1 J 0=some (.kn (ρ.t 72) (.pq 1 n)))(h1:e1 J 1=some (.buf aaz s)):
 Ju P (ρ.f 240) [.c (.ptr 0 0)] J 2 (λr J' N'=>r= .gJ []/\J'=J/\N'=2):=by
 intro φ S w B Og Jd Y7 JC vs Jl;cases Jl with | cons cv Jl=>
 cases Jl;have ayh:=cv.PZ;subst ayh;obtain⟨n1,⟨p,v,ai,bo,aiW⟩,JP⟩:=Og.blk 0 _ h0
 have same : ∀ w', w' = w -> ∃ (v : Value) (r : V) (hK : vt) (ik : y0) (J' : fu) (N' : Nat), Ending.returned (Value.tuple #[]) = Ending.returned v /\ (r = .gJ [] /\ J' = J /\ N' = 2) /\ k' hK w' ik r v /\ r.c' (lt N') = true /\ ac6 hK w' ik J' /\ (∀ (b : Nat) x, e1 J' b = some x -> b < N' /\ x.c' (lt N') = true) /\ Ext B S ik w w' /\
  (∀(b:Nat) x,e1 J' b=some x->(hK b).2≠0->B (hK b).1\/w.heap.size<=(hK b).1)/\∀b,b < 2->hK b=φ b:=by
  rintro w' rfl
  exact⟨_,.gJ [],φ,S,J,2,rfl,⟨rfl,rfl,rfl⟩,.gJ [] [] rfl (by simp),rfl,Og,Jd,Ext.refl,λb x ad al=>.inl (Y7 b x ad al),λ_ _=>rfl⟩
 rcases bo with rfl | rfl
 . have axN:w.cell? ⟨(φ 0).1,0,none⟩=some (.pointer none):=by rw[Tn (vs:=[_,_]) ai];rfl
   have ayr:w.shape? (φ 0).1=some (ρ.t 72,2):=by simp[World.shape?,ai]
   have ady:w.frozen? ⟨(φ 0).1,0,none⟩=false:=by simp[World.frozen?,ai]
   refine(Any.Builder_copyCheck_fresh L X (φ 0).1 w axN ayr ady).mono ?_
   rintro e w' ⟨rfl,rfl⟩
   obtain⟨s4,qi⟩:=aEe (vs:=[.pointer none,v]) ai 0 (.pointer (some ⟨(φ 0).1,0,none⟩));have m:N7 w S (w.setCell ⟨(φ 0).1,0,none⟩ (.pointer (some ⟨(φ 0).1,0,none⟩))) S:=⟨λ_ _ h=>h,λb j h=>acM (qi b (λe=>JP j (e▸h))) j⟩
   refine⟨_,.gJ [],φ,S,J,2,rfl,⟨rfl,rfl,rfl⟩,.gJ [] [] rfl (by simp),rfl,⟨λb x ad=>?_,Og.inj,λb j h=>?_⟩,Jd,⟨rfl,rfl,rfl,by simp,λb al E1=>qi b (λe=>E1 (e▸Y7 0 _ h0 n1)),m,λ_ _ h=>.inl h⟩,λb x ad al=>.inl (Y7 b x ad al),λ_ _=>rfl⟩
   . by_cases al:b=0
     . subst al;rw[h0]at ad;cases ad;exact⟨n1,⟨_,v,s4,.inr rfl,ho.mono (n:=λ_=>true) m (λ_ _=>rfl) (C.YR _) aiW⟩,JP⟩
     . exact r2.mono (n:=λ_=>true) m (λ_ _=>rfl) rfl (by cases x <;> simp[h2.c',C.YR]) (λZ8=>qi _ (Og.inj b 0 x _ ad h0 al Z8 n1)) (Og.blk b x ad)
   . have:=Og.st b j h
     simpa using this
 . have axN:w.cell? ⟨(φ 0).1,0,none⟩=some (.pointer (some ⟨(φ 0).1,0,none⟩)):=by rw[Tn (vs:=[_,_]) ai];rfl
   refine(Any.Builder_copyCheck_used L X (φ 0).1 w axN).mono ?_
   rintro e w' ⟨rfl,rfl⟩
   exact same _ rfl
theorem aUq(L:Lays.n240 P ρ)(X:Builder.X72 P ρ){f E aaz:Nat}(cJ:ρ.f 240=f)(J7:ρ.t 72=E):P7 P (aqA U f E aaz):=by
 subst cJ;subst J7;intro(s:List UInt8) r q0 XU J1 ch dx;have ar:r=s:=aan q0.symm;subst ar;cases ch with | cons ch abI=>
 cases abI;have:=ch.PZ;subst this;have Vi:fz ((aqA U (ρ.f 240) (ρ.t 72) aaz).Q8 r) 0=some (.kn (ρ.t 72) (.pq 1)):=rfl;have M5:fz ((aqA U (ρ.f 240) (ρ.t 72) aaz).Q8 r) 1=some (.buf aaz r):=rfl;obtain⟨_,Vz,g0,b0⟩:=dx 0 _ Vi;obtain⟨_,ata,g1,b1⟩:=dx 1 _ M5;cases b1;cases b0 with | @kn _ _ d b0=>
 cases b0 with | pq _ n al a7=>
 refine(aUp L X g0 g1).mono ?_
 rintro kJ s1 WB ⟨rfl,rfl,rfl⟩
 exact⟨rfl,.gJ [] [] rfl (by simp),dx⟩
end
end
section
open Go Go.ChangeShapes Go.WideShapes Go.RowKit
variable {U:pK}
def eb.RO :eb->Nat
 | .bool=>1
 | .int k=>k.bits / 8
 | .str=>16
 | .slice _=>24
 | .nm _=>0
def axh :List eb->Nat
 | []=>0
 | t::r=>t.RO+axh r
def ae5(l:List eb):Nat:=bif l.any λt=>Nat.ble 8 t.RO then(axh l+7) / 8*8 else axh l
def eb.bytes(U:pK)(t:eb):Nat:=ae5 (t.cells U)
inductive WF (U:pK):Cell U.D->Prop
 | bool (b:Bool):WF U ⟨.bool,b⟩
 | int (k:IntKind) (n:Int) (h:(Lit.int k n).wf=true):WF U ⟨.int k,n⟩
 | str (s:List UInt8) (h:s.length<=reachBytes):WF U ⟨.str,s⟩
 | slice (t:eb) (l:List (t.den U.D)) (h:l.length<=reachBytes) (ah:l.length*t.bytes U<=reachBytes) (a6:∀x,x∈l->∀c,c∈t.row U x->WF U c):WF U ⟨.slice t,l⟩
def pK.Total(U:pK):Prop:=∀n (l:List (Cell U.D)),l.map Cell.ty=U.vi n->∃x,U.make n l=some x
def as0 :List eb->List eb->Bool
 | [],[]=>true
 | a::l,b::m=>eb.beq a b && as0 l m
 | _,_=>false
theorem aG0 :∀{l m:List eb},as0 l m=true->l=m
 | [],[],_=>rfl
 | a::l,b::m,h=>by
  simp only[as0,k0]at h;rw[eb.beq_eq h.1,aG0 h.2]
 | [],_::_,h=>by cases h
 | _::_,[],h=>by cases h
def alZ(P:Program)(g:TypeId->Option (List eb)):List Field->Nat->Nat->Option (List eb)
 | [],off,Qs=>match Nat.beq off Qs with
  | true=>some []
  | false=>none
 | f::r,off,Qs=>match g f.type with
  | none=>none
  | some a=>match Nat.beq f.offset off && Nat.beq (P.cellsOf f.type) a.length with
   | false=>none
   | true=>match alZ P g r (off+a.length) Qs with
    | none=>none
    | some b=>some (a++b)
def flat(P:Program)(U:pK)(st:TypeId->Option Nat):Nat->TypeId->Option (List eb)
 | 0,_=>none
 | n+1,t=>match P.underlying t with
  | some .bool=>some [.bool]
  | some (.int k)=>some [.int k]
  | some .string=>some [.str]
  | some (.slice e)=>match st e with
   | some m=>match Nat.ble 1 (P.bytesOf e) && Nat.ble (ae5 (U.vi m)) (P.bytesOf e)with
    | true=>some [.slice (.nm m)]
    | false=>none
   | none=>match flat P U st n e with
    | none=>none
    | some a=>match Nat.ble 1 (P.bytesOf e) && Nat.ble (ae5 a) (P.bytesOf e)with
     | false=>none
     | true=>match a with
      | [ty]=>match ty.anN with
       | true=>none
       | false=>some [.slice ty]
      | _=>none
  | some (.struct fs)=>alZ P (flat P U st n) fs.toList 0 (P.cellsOf t)
  | some (.array k e)=>match flat P U st n e with
   | none=>none
   | some a=>match Nat.beq (P.cellsOf t) (k*a.length) && Nat.beq (P.cellsOf e) a.length with
    | false=>none
    | true=>some (List.replicate k a).flatten
  | _=>none
theorem aDx{α:Type}{R:Nat->α->Prop}:∀(n:Nat),(∀i,i < n->∃x,R i x)->∃l:List α,l.length=n/\∀(i:Nat) x,l[i]?=some x->R i x
 | 0,_=>⟨[],rfl,by simp⟩
 | n+1,h=>by
  obtain⟨l,a6,ar⟩:=aDx n λi ay=>h i (by omega)
  obtain⟨x,ad⟩:=h n (by omega);refine⟨l++[x],by simp[a6],λi y bJ=>?_⟩
  grind
section
variable {H:Type} {enc:TypeId×Value->H} {P:Program} {w:World}
abbrev Old(w:World):y0:=λb _=>b < w.heap.size
structure Rd (U:pK) (w:World) (vi:List eb) (cs:List Value) (l:List (Cell U.D)):Prop where
 ty:l.map Cell.ty=vi
 wf:∀c,c∈l->WF U c
 rt:f' (λc v=>k1 w (Old w) (Cell.enc U c) v) l cs
theorem alk{t:eb}{x:t.den U.D}{v:Value}(h1:WF U ⟨t,x⟩)(ah:k1 w (Old w) (Cell.enc U ⟨t,x⟩) v):Rd U w [t] [v] [⟨t,x⟩]:=
 ⟨rfl,by simpa using h1,.cons ah .nil⟩
theorem auy{t:TypeId}:∀{ds:List (DataW H)} {d:DataW H},d∈ds->∀n∈d.weights P t,n∈DataW.weightsAll P t ds
 | d0::ds,d,a7,n,dy=>by
  simp only[DataW.weightsAll,Nw];rcases LJ.1 a7 with rfl | a7
  . grind
  . exact .inr (auy a7 n dy)
theorem aGb{g:TypeId -> Option (List eb)}{cs:List Value}:∀{fs:List Field} {off Qs:Nat} {vi:List eb},
 (∀f,f∈fs->∀a,g f.type=some a->∃l,Rd U w a ((cs.drop f.offset).take (P.cellsOf f.type)) l)->
 alZ P g fs off Qs=some vi->cs.length=Qs->∃l,Rd U w vi (cs.drop off) l
 | [],off,Qs,vi,_,h,a6=>by
  simp only[alZ]at h;split at h
  . rename_i e;cases h;have:=q4 e;refine⟨[],rfl,by simp,?_⟩;rw[MR (by omega)];exact .nil
  . cases h
 | f::r,off,Qs,vi,b9,h,a6=>by
  simp only[alZ]at h;split at h
  . cases h
  . rename_i a ch;split at h
    . cases h
    . rename_i al;simp only[k0]at al;have h1:=q4 al.1;have ah:=q4 al.2;split at h
      . cases h
      . rename_i b ML;cases h;obtain⟨M5,Ro⟩:=b9 f (by simp) a ch;obtain⟨l2,E8⟩:=aGb (λf cJ=>b9 f (by simp[cJ])) ML a6;refine⟨M5++l2,by simp[Ro.ty,E8.ty],?_,?_⟩
        . intro c b7;rcases Nw.1 b7 with b7 | b7
          . exact Ro.wf c b7
          . exact E8.wf c b7
        . have e:cs.drop off=(cs.drop off).take a.length++cs.drop (off+a.length):=by rw[<-an3,anW]
          rw[e];refine f'.append ?_ E8.rt;have:=Ro.rt
          grind
theorem aIH{a:List eb}{cs:List Value}:∀(k off:Nat),(∀i,i < k -> ∃l,Rd U w a ((cs.drop (off+i*a.length)).take a.length) l) -> cs.length=off+k*a.length ->
 ∃l,Rd U w (List.replicate k a).flatten (cs.drop off) l
 | 0,off,_,a6=>by
  refine⟨[],rfl,by simp,?_⟩;rw[MR (by omega)];exact .nil
 | k+1,off,b9,a6=>by
  obtain⟨M5,Ro⟩:=b9 0 (by omega);rw[an6,Yf]at Ro
  obtain⟨l2,E8⟩:=aIH (a:=a) (cs:=cs) k (off+a.length) (λi ay=>by
   have:=b9 (i+1) (by omega)
   rwa [Nat.succ_mul,an5 (i*a.length),<-ab8]at this) (by rw[a6,Nat.succ_mul];omega)
  refine⟨M5++l2,by simp[Ro.ty,E8.ty,List.replicate_succ],?_,?_⟩
  . intro c b7;rcases Nw.1 b7 with b7 | b7
    . exact Ro.wf c b7
    . exact E8.wf c b7
  . have e:cs.drop off=(cs.drop off).take a.length++cs.drop (off+a.length):=by rw[<-an3,anW]
    rw[e];exact f'.append Ro.rt E8.rt
theorem aUr{a:Addr}{n:Nat}{cs:List Value}(h:w.cells? 0 a n=some cs):cs.length=n/\∀j,j < n->w.cell? (a.add j)=cs[j]?:=by
 unfold World.cells? at h;rw[ao (RE _)]at h;exact⟨by simpa using mapM_some_length h,λj c7=>mapM_some_get h j j (by simp[c7])⟩
theorem aFt{a:Addr}{v:Value}(h:w.cell? a=some v):a.spot=none/\a.block < w.heap.size:=by
 unfold World.cell? at h;split at h
 . rename_i al;split at h
   . cases h
   . rename_i hs;refine⟨by simpa using hs,(an'.1 al).1⟩
 . cases h
theorem aHT{a:Addr}{i j:Nat}(h:a.spot=none):(a.add i).add j=⟨a.block,a.off+i+j,none⟩:=by
 obtain⟨b,o,sp⟩:=a;dsimp only at h;subst h;unfold Addr.add
 grind
theorem aKU(Qs:U.Total){t:eb}{l:List (Cell U.D)}(h:l.map Cell.ty=t.cells U):∃x,t.row U x=l:=by
 have one:∀t:eb,l.map Cell.ty=[t]->∃x:t.den U.D,l=[⟨t,x⟩]:=by
  intro t h
  match l,h with
  | [⟨Lq,x⟩],h=>simp at h;subst h;exact⟨x,rfl⟩
 cases t with
 | nm n=>
  obtain⟨x,ad⟩:=Qs n l h;exact⟨x,U.mk_eq n l x ad⟩
 | bool=>obtain⟨x,ad⟩:=one _ h;exact⟨x,ad.symm⟩
 | int k=>obtain⟨x,ad⟩:=one _ h;exact⟨x,ad.symm⟩
 | str=>obtain⟨x,ad⟩:=one _ h;exact⟨x,ad.symm⟩
 | slice t=>obtain⟨x,ad⟩:=one _ h;exact⟨x,ad.symm⟩
def afr(P:Program)(U:pK)(st:TypeId->Option Nat):Prop:=∀e m,st e=some m->flat P U st 60 e=some (U.vi m)
def ajE :List (TypeId×Nat)->TypeId->Option Nat
 | [],_=>none
 | p::l,t=>match Nat.beq p.1 t with
  | true=>some p.2
  | false=>ajE l t
def alm(P:Program)(U:pK)(st:TypeId->Option Nat)(t:TypeId)(vi:List eb):Bool:=
 match flat P U st 60 t with
 | some a=>as0 a vi
 | none=>false
theorem aue{P:Program}{st:TypeId->Option Nat}{t:TypeId}{vi:List eb}(h:alm P U st t vi=true):flat P U st 60 t=some vi:=by
 unfold alm at h;split at h
 . rename_i a ch;rw[ch,aG0 h]
 . cases h
theorem aG1 :∀{l:List (TypeId×Nat)} {t m},ajE l t=some m->(t,m)∈l
 | p::l,t,m,h=>by
  simp only[ajE]at h;split at h
  . rename_i e;cases h;have:=q4 e
    grind
  . exact .tail _ (aG1 h)
theorem aYY{P:Program}{l:List (TypeId×Nat)}(h:(l.all λp=>alm P U (ajE l) p.1 (U.vi p.2))=true):afr P U (ajE l):=by
 intro e m he;rw[r0]at h;exact aue (h _ (aG1 he))
theorem aTv{st:TypeId -> Option Nat}(u':afr P U st){n:Nat}{t e:TypeId}{vi:List eb}(ht:P.underlying t=some (.slice e))(h:flat P U st (n+1) t=some vi):
 ∃ty a DI,vi=[.slice ty]/\flat P U st DI e=some a/\a=ty.cells U/\1<=P.bytesOf e/\ae5 a<=P.bytesOf e:=by
 simp only[flat,ht]at h;split at h
 . rename_i m hm;split at h
   . rename_i al;cases h;simp only[k0]at al;exact⟨.nm m,U.vi m,60,rfl,u' e m hm,rfl,asm al.1,asm al.2⟩
   . cases h
 . split at h
   . cases h
   . rename_i a ch;split at h
     . cases h
     . rename_i al;have Oe:1<=P.bytesOf e/\ae5 a<=P.bytesOf e:=by simp_all
       split at h
       . rename_i ty;split at h
         . cases h
         . rename_i dy;cases h;refine⟨ty,[ty],n,rfl,ch,?_,Oe⟩;cases ty <;> first | rfl | cases dy
       . cases h
theorem aFu(Qs:U.Total){st:TypeId -> Option Nat}(u':afr P U st):∀(fuel n:Nat) (t:TypeId) (cs:List Value) (x:DataW H×List MemPlace) (vi:List eb),
 DataW.trod enc P w 0 (λ_=>true) true fuel t cs=some x->flat P U st n t=some vi->(∀k,k∈x.1.weights P t->k<=reachBytes)->∃l,Rd U w vi cs l:=by
 intro fuel
 induction fuel with
 | zero=>intro n t cs x vi h;simp[DataW.trod]at h
 | succ m ih=>
  intro n t cs x vi h cJ hw;cases n with
  | zero=>cases cJ
  | succ n=>
  have aZL:=cJ;simp only[flat]at cJ;split at cJ
  . rename_i hu;cases cJ;obtain⟨b,rfl,rfl⟩:=DataW.trod_bool hu h;exact⟨_,alk (.bool b) (.bool b)⟩
  . rename_i k hu;cases cJ;obtain⟨i,rfl,rfl,a0H⟩:=DataW.trod_int hu h;exact⟨_,alk (.int k i a0H) (.int k i)⟩
  . rename_i hu;cases cJ;obtain⟨s,rfl,rfl,hs⟩:=DataW.trod_string hu h;have h1:s.data.toList.length<=reachBytes:=hw _ (by simp[DataW.weights]);have ah:s.data.toList.length=s.size:=adX;refine⟨_,alk (.str s.data.toList h1) (.str s ?_)⟩;unfold reachBytes at h1;unfold Lh;omega
  . rename_i e hu;obtain⟨ty,a,DI,rfl,ch,aJE,aZp,Y2⟩:=aTv u' hu aZL;rcases DataW.trod_slice hu h with⟨rfl,rfl⟩ | ⟨kc,len,cap,elems,rest,K7,hm,rfl,rfl,_,adC,_,O9,x',_,_⟩
    . refine⟨_,alk (.slice ty [] (RE _) (by simp) (by simp)) ?_⟩;exact .slice [] none 0 0 0 0 (λ_ _=>default) (by simp) (by simp) (by simp) (by simp) (by simp) (by simp)
    . cases hm;have a3M:(elems.length+rest.length)*P.bytesOf e<=reachBytes:=by
       have:=hw ((elems.length+rest.length)*P.bytesOf e) (by simp[DataW.weights,hu]);exact this
      have hlen:len<=reachBytes:=by
       have h1:elems.length+rest.length<=(elems.length+rest.length)*P.bytesOf e:=ayQ _ aZp;omega
      have ang:len*ae5 a<=reachBytes:=by
       have h1:len*ae5 a<=(elems.length+rest.length)*P.bytesOf e:=Nat.mul_le_mul (by omega) Y2;omega
      have J7:∀i,i < len->∃aoY:ty.den U.D,∃OH,OH.length=P.cellsOf e/\(∀j,j < P.cellsOf e->w.cell? ((kc.add (i*P.cellsOf e)).add j)=OH[j]?)/\Rd U w a OH (ty.row U aoY):=by
       intro i ay;have X6:=x' i ay;have axV:elems[i]?=some elems[i]:=J9 (by omega);rw[axV]at X6;cases b7:w.cells? 0 (kc.add (i*P.cellsOf e)) (P.cellsOf e)with
       | none=>rw[b7]at X6;cases X6
       | some OH=>
        rw[b7]at X6;obtain⟨h1,ah⟩:=aUr b7
        obtain⟨l,a6⟩:=ih DI e OH _ a X6 ch (λk hk=>hw k (by
         simp only[DataW.weights,hu,LJ,Nw];right;left
         exact auy (Lp.2 ⟨elems[i],ay6 _,rfl⟩) k hk))
        obtain⟨aoY,ar8⟩:=aKU Qs (t:=ty) (by rw[a6.ty,aJE])
        grind
      obtain⟨xs,TL,TM⟩:=aDx len J7;have h6:len≠0->P.cellsOf e=ty.sz U/\0 < P.cellsOf e:=by
       intro hG;obtain⟨aoY,OH,h1,_,b'⟩:=J7 0 (by omega);have ea:=b'.rt.length;rw[eb.aLy,h1]at ea;exact⟨ea.symm,by rw[<-ea];exact eb.ajI⟩
      have aiX:len≠0->kc.spot=none:=by
       intro hG;obtain⟨aoY,OH,h1,ah,b'⟩:=J7 0 (by omega);have h0:=ah 0 (h6 hG).2;rw[J9 (by rw[h1];exact(h6 hG).2)]at h0;have hf:=(aFt h0).1
       simpa[Addr.add]using hf
      have OM:∀x,x∈xs->∃i:Nat,xs[i]?=some x/\i < len:=by
       intro x ad;obtain⟨i,ay⟩:=ayV.1 ad
       grind
      refine⟨_,alk (t:= .slice ty) (x:=xs) (.slice ty xs (by omega) (by rw[TL];unfold eb.bytes;rw[<-aJE];exact ang) ?_) ?_⟩
      . intro x ad c b7;obtain⟨i,ay,_⟩:=OM x ad;obtain⟨OH,_,_,b'⟩:=TM i x ay;exact b'.wf c b7
      . have ang:(xs.map (ty.enc U)).length=len:=by simp[TL]
        show k1 w (Old w) (.slice (xs.map (ty.enc U))) (.slice (some kc) len cap);rw[<-ang];refine .slice (xs.map (ty.enc U)) (some kc) cap (P.cellsOf e) kc.block kc.off (λi j=>(w.cell? ⟨kc.block,kc.off+i*P.cellsOf e+j,none⟩).getD default) (by omega) ?_ ?_ ?_ ?_ ?_
        . rw[ang];unfold reachBytes at hlen;unfold KJ;omega
        . intro r ar;obtain⟨x,ad,rfl⟩:=Lp.1 ar;obtain⟨i,_,ay⟩:=OM x ad;rw[eb.afQ];exact(h6 (by omega)).1.symm
        . intro hG;have a0d:len≠0:=by intro h0;apply hG;rw[<-List.length_eq_zero_iff];omega
          have:=aiX a0d;rw[show kc=⟨kc.block,kc.off,kc.spot⟩from rfl,this]
        . intro i j ay c7;rw[ang]at ay;obtain⟨aoY,OH,h1,ah,b'⟩:=J7 i ay;have ea:=ah j c7;rw[J9 (by omega)]at ea;have ays:=aiX (by omega);have eh:(kc.add (i*P.cellsOf e)).add j=⟨kc.block,kc.off+i*P.cellsOf e+j,none⟩:=aHT ays;rw[eh]at ea;exact⟨(aFt ea).2,by rw[ea];rfl⟩
        . intro i j r Lq ar aKt;rw[aai,gC]at ar;obtain⟨x,ad,rfl⟩:=ar;obtain⟨OH,h1,ah,b'⟩:=TM i x ad;have ay:i < len:=by have:=(sb.1 ad).1;omega
          rw[eb.aiF,aai,gC]at aKt;obtain⟨c,b7,rfl⟩:=aKt;obtain⟨v,cv,Y9⟩:=b'.rt.get b7;have c7:j < P.cellsOf e:=by have:=(sb.1 cv).1;omega
          have ea:=ah j c7;have ays:=aiX (by omega);have eh:(kc.add (i*P.cellsOf e)).add j=⟨kc.block,kc.off+i*P.cellsOf e+j,none⟩:=aHT ays;rw[eh,cv]at ea;show k1 w (Old w) _ ((w.cell? ⟨kc.block,kc.off+i*P.cellsOf e+j,none⟩).getD default);rw[ea];exact Y9
  . rename_i fs hu;obtain⟨xs,K7,hm,rfl,a6,hlen,x'⟩:=DataW.trod_struct hu h;cases hm
    have:=aGb (U:=U) (w:=w) (P:=P) (cs:=cs) (fs:=fs.toList) (off:=0) (λf arL a ch=>by
     obtain⟨i,ay⟩:=ayV.1 arL;have V8:fs[i]?=some f:=by simpa using ay
     have b9:=x' i f V8;have OK:i < xs.length:=by rw[hlen];exact(an'.1 V8).1
     rw[J9 OK]at b9
     exact ih n f.type _ _ a b9 ch (λk hk=>hw k (by
      simp only[DataW.weights,hu]
      exact DataW.weights_mem_each (j:=i) (t:=f.type) (d:=xs[i].1) (by simp[V8]) (by simp[OK]) k hk))) cJ a6
    simpa using this
  . rename_i k e hu;split at cJ
    . cases cJ
    . rename_i a ch;split at cJ
      . cases cJ
      . rename_i al;cases cJ;simp only[k0]at al;have h1:=q4 al.1;have ah:=q4 al.2;obtain⟨xs,K7,hm,rfl,a6,hlen,x'⟩:=DataW.trod_array hu h;cases hm
        have:=aIH (U:=U) (w:=w) (a:=a) (cs:=cs) k 0 (λi ay=>by
         have b9:=x' i ay;rw[J9 (by omega)]at b9
         obtain⟨l,a6⟩:=ih n e _ _ a b9 ch (λq eg=>hw q (by
          simp only[DataW.weights,hu]
          exact auy (Lp.2 ⟨xs[i],ay6 _,rfl⟩) q eg))
         rw[ah]at a6
         exact⟨l,by rw[NI];exact a6⟩) (by rw[a6,h1,NI])
        simpa using this
  . cases cJ
end
end
section
open Go Go.ChangeShapes Go.WideShapes Go.RowKit
variable {U:pK}
def isAgg(P:Program)(t:TypeId):Bool:=
 match P.underlying t with
 | some (.struct _)=>true
 | some (.array _ _)=>true
 | _=>false
def Yg(P:Program)(U:pK)(st:TypeId->Option Nat):List TypeId->List NC->List eb->Bool
 | [],[],[]=>true
 | t::ts,.row m::Wp,.nm K7::vi=>(Nat.beq m K7 && (isAgg P t && alm P U st t (U.vi m))) && Yg P U st ts Wp vi
 | t::ts,.c (.hole ty)::Wp,acg::vi=>(eb.beq ty acg && (!ty.anN && (!isAgg P t && alm P U st t [ty]))) && Yg P U st ts Wp vi
 | _,_,_=>false
section
variable {H:Type} {enc:TypeId×Value->H} {P:Program} {w:World} {φ:vt}
theorem aDC{st:TypeId->Option Nat}:∀{RJ:List TypeId} {Wp:List NC} {vi:List eb},Yg P U st RJ Wp vi=true->RJ.length=vi.length
 | [],[],[],_=>rfl
 | [],[],_::_,h=>by cases h
 | [],_::_,_,h=>by cases h
 | _::_,[],_,h=>by cases h
 | _::_,ajH::_,[],h=>by
  cases ajH with
  | c x=>cases x <;> cases h
  | _=>cases h
 | t::ts,ajH::Wp,ty::vi,h=>by
  have:Yg P U st ts Wp vi=true:=by
   cases ajH with
   | row m=>cases ty with
    | nm K7=>simp only[Yg,k0]at h;exact h.2
    | _=>cases h
   | c x=>cases x with
    | hole ty=>simp only[Yg,k0]at h;exact h.2
    | _=>cases h
   | _=>cases h
  simp[aDC this]
theorem aTw{b0:Nat}{r:Reach}{t:TypeId}{v:Value}(hs:isAgg P t=true)(h:Value.okWide P w r b0 t v):∃cs,v= .agg cs:=by
 unfold isAgg at hs;unfold Value.okWide at h
 grind
theorem aTx{b0:Nat}{r:Reach}{t:TypeId}{v:Value}(hs:isAgg P t=false)(h:Value.okWide P w r b0 t v):v.cells=#[v]:=by
 unfold isAgg at hs;unfold Value.okWide at h;have ah:Cell.okWide P w r b0 t v:=by grind
 cases v with
 | agg cs=>
  unfold Cell.okWide at ah;split at ah <;> first | (rename_i e;cases e) | (rename_i e _;cases e) | skip
  unfold Cell.ok at ah
  grind
 | _=>rfl
theorem aEF{w:World}{S:y0}:∀{l:List (Cell U.D)} {vs:List Value},f' (λc v=>k1 w S (Cell.enc U c) v) l vs->f' (ho φ w S) ((l.map hn.t).map hn.abx) vs
 | [],[],.nil=>.nil
 | c::l,v::vs,.cons h1 ah=>.cons h1 (aEF ah)
theorem aFv(Qs:U.Total)(φ:vt){st:TypeId -> Option Nat}(u':afr P U st){b0:Nat}:∀(ts:List TypeId) (Wp:List NC) (vi:List eb) (args:List Value) (ds:List (DataW H)) (ps:List MemPlace),
 Yg P U st ts Wp vi=true->(∀(j:Nat) t v,ts[j]?=some t->args[j]?=some v->Value.okWide P w .any b0 t v)->
 DataW.TrodAll enc P w 0 (λ_=>true) true ts args ds ps->(∀k,k∈DataW.weightsEach P ts ds->k<=reachBytes)->
 ∃(l:J4 U) (xs:List (hM U)),l.map Cell.ty=vi/\(∀c,c∈l->∀d,d∈c.ty.row U c.val->WF U d)/\V5 Wp l=(xs,[])/\(∀x,x∈xs->MX x=true)/\f' (k' φ w (Old w)) (xs.map Lt) args
 | [],[],[],args,ds,ps,_,_,ht,_=>by
  obtain⟨rfl,rfl,rfl⟩:=trodAll_nil ht;exact⟨[],[],rfl,by simp,rfl,by simp,.nil⟩
 | t::ts,ajH::Wp,ty::vi,args,ds,ps,bo,cv,ht,hw=>by
  obtain⟨v,vs,d,Jq,p,q,rfl,rfl,rfl,⟨fuel,h1⟩,ah⟩:=trodAll_cons ht;have ri:=cv 0 t v rfl rfl;have aKx:∀k,k∈d.weights P t->k<=reachBytes:=λk hk=>hw k (by simp only[DataW.weightsEach,Nw];exact .inl hk)
  have rest:∀(anl:Yg P U st ts Wp vi=true),_:=λanl=>aFv Qs φ (st:=st) u' (b0:=b0) ts Wp vi vs Jq q anl (λj t v c7 anA=>cv (j+1) t v (by simpa using c7) (by simpa using anA)) ah
   (λk hk=>hw k (by simp only[DataW.weightsEach,Nw];exact .inr hk))
  unfold Yg at bo;split at bo
  . grind
  . rename_i t0 a2r m a2h K7 a2t eh hj I2;cases eh;cases hj;cases I2;simp only[k0]at bo;obtain⟨⟨hm,hs,cJ⟩,E'⟩:=bo;have TJ:=q4 hm;subst TJ;obtain⟨l,xs,Ro,E8,aiS,arQ,anf⟩:=rest E';obtain⟨cs,rfl⟩:=aTw hs ri;obtain⟨Vi,Ql⟩:=aFu Qs u' fuel 60 t _ _ _ h1 (aue cJ) aKx;obtain⟨x,ad⟩:=aKU Qs (t:= .nm m) Ql.ty
    refine⟨⟨.nm m,x⟩::l,.agg ((eb.row U (.nm m) x).map .t)::xs,by simp[Ro],?_,?_,?_,?_⟩
    . intro c b7;rcases LJ.1 b7 with rfl | b7
      . intro d a7;exact Ql.wf d (ad▸a7)
      grind
    . simp only[V5,V4,aiS]
    . intro y bJ;rcases LJ.1 bJ with rfl | bJ
      . simp[MX,hn.aau]
      grind
    . refine .cons ?_ anf;have:=aEF (φ:=φ) Ql.rt;rw[<-ad]at this;exact k'.agg (vs:=cs.toList) this
  . rename_i t0 a2r a2s a2h acg a2t eh hj I2;cases eh;cases hj;cases I2;simp only[k0,ab6]at bo;obtain⟨⟨hm,dy,hs,cJ⟩,E'⟩:=bo;have TJ:=eb.beq_eq hm;subst TJ;obtain⟨l,xs,Ro,E8,aiS,arQ,anf⟩:=rest E';rw[aTx hs ri]at h1;obtain⟨Vi,Ql⟩:=aFu Qs u' fuel 60 t _ _ _ h1 (aue cJ) aKx
    match Vi,Ql with
    | [],Ql=>cases Ql.ty
    | [⟨asZ,x⟩],Ql=>
     have ayt:asZ=a2s:=by have:=Ql.ty;simpa using this
     subst ayt;refine⟨⟨asZ,x⟩::l,.c (.t ⟨asZ,x⟩)::xs,by simp[Ro],?_,?_,?_,?_⟩
     . intro c b7;rcases LJ.1 b7 with rfl | b7
       . intro d a7;refine Ql.wf d ?_;cases asZ <;> first | exact a7 | cases dy
       grind
     . simp only[V5,V4,adn,aiS]
     . intro y bJ;rcases LJ.1 bJ with rfl | bJ
       . rfl
       grind
     . refine .cons ?_ anf;cases Ql.rt with
       | cons b' ea=>exact .c b'
    | _::_::_,Ql=>have:=Ql.ty;simp at this
  . cases bo
 | [],[],_::_,_,_,_,bo,_,_,_=>by cases bo
 | [],_::_,_,_,_,_,bo,_,_,_=>by cases bo
 | _::_,[],_,_,_,_,bo,_,_,_=>by cases bo
 | t::ts,ajH::Wp,[],_,_,_,bo,_,_,_=>by
  cases ajH with
  | row m=>cases bo
  | c x=>cases x <;> cases bo
  | agg l=>cases bo
  | gJ l=>cases bo
theorem ey.aK2 :∀(ts:List eb) (l:J4 U),l.map Cell.ty=ts->∃h:ey U.D ts,ey.cells U.D ts h=l
 | [],[],_=>⟨(),rfl⟩
 | [t],[⟨Lq,x⟩],h=>by
  have:Lq=t:=by simpa using h
  subst this;exact⟨x,rfl⟩
 | t::u::r,⟨Lq,x⟩::l,h=>by
  simp only[QX,an2]at h;obtain⟨h1,ah⟩:=h;subst h1;obtain⟨y,bJ⟩:=ey.aK2 (u::r) l (by simpa using ah);exact⟨(x,y),by show⟨Lq,x⟩::ey.cells U.D (u::r) y=_;rw[bJ]⟩
 | [],_::_,h=>by simp at h
 | _::_,[],h=>by simp at h
 | [_],_::_::_,h=>by simp at h
theorem Ls.ark{D:Nat->Type}:∀{ts:List eb} {t:eb} (h:Ls D t ts),Ls.dec D t ts (Ls.cells D t ts h)=some h
 | [],t,x=>Cell.aAL
 | u::r,t,x=>by
  unfold Ls.dec Ls.cells;simp only[aiL,Cell.aAL];rw[Ls.ark];rfl
theorem ey.ark{D:Nat->Type}:∀{ts:List eb} (h:ey D ts),ey.dec D ts (ey.cells D ts h)=some h
 | [],_=>rfl
 | _::_,h=>Ls.ark h
theorem ey.PH{D:Nat->Type}:∀{ts:List eb} {l:List (Cell D)},l.map Cell.ty=ts->∃h,ey.dec D ts l=some h:=by
 have go:∀(ts:List eb) (l:List (Cell D)),l.map Cell.ty=ts->∃h:ey D ts,ey.cells D ts h=l:=by
  intro ts
  induction ts with
  | nil=>intro l h;cases l with
   | nil=>exact⟨(),rfl⟩
   | cons=>cases h
  | cons t r ih=>
   intro l h;cases l with
   | nil=>cases h
   | cons c l=>
    obtain⟨Lq,x⟩:=c;simp only[QX,an2]at h;obtain⟨h1,ah⟩:=h;subst h1;obtain⟨y,bJ⟩:=ih l ah;cases r with
    | nil=>
     cases l with
     | nil=>exact⟨x,rfl⟩
     | cons=>cases ah
    | cons u r=>exact⟨(x,y),by show⟨Lq,x⟩::ey.cells D (u::r) y=_;rw[bJ]⟩
 intro ts l h;obtain⟨y,bJ⟩:=go ts l h;exact⟨y,by rw[<-bJ];exact ey.ark y⟩
def Ok(U:pK)(ts:List eb)(h:ey U.D ts):Prop:=∀c,c∈ey.cells U.D ts h->∀d,d∈c.ty.row U c.val->WF U d
theorem aXF{N:Nat}:pJ N ([]:hc U) []:=λb x h=>by cases h
theorem aHU{N:Nat}{J:hc U}:∀{xs:List (hM U)},(∀x,x∈xs->MX x=true)->f' (km N J) xs (xs.map Lt)
 | [],_=>.nil
 | x::xs,h=>.cons (ah' (h x (by simp))).1 (aHU λy bJ=>h y (by simp[bJ]))
theorem aG2{k:Nat->Bool}:∀{xs:List (hM U)},(∀x,x∈xs->MX x=true)->V.c'.V.Is k (xs.map Lt)=true
 | [],_=>rfl
 | x::xs,h=>by
  simp only[QX,V.c'.V.Is,k0];exact⟨(ah' (N:=0) (J:=[]) (h x (by simp))).2 k,aG2 λy bJ=>h y (by simp[bJ])⟩
theorem a05 {f:Nat} {Pl:List NC} {ts:List eb} {F:ey U.D ts -> Option (ey U.D [.bool])} (Qs:U.Total) (hs:P7 P ⟨f,Pl,[],ts,.c (.hole .bool),[],[.bool],F⟩)
 (law:∀h:ey U.D ts,Ok U ts h->F h=some true) {st:TypeId->Option Nat} (u':afr P U st) {RJ:List TypeId} (bo:Yg P U st RJ Pl ts=true)
 {b0:Nat} {args:Array Value} {ds:List (DataW H)} {ps:List MemPlace} (cv:∀(j:Nat) t v,RJ[j]?=some t->args[j]?=some v->Value.okWide P w .any b0 t v)
 (ht:DataW.TrodAll enc P w 0 (λ_=>true) true RJ args.toList ds ps) (hw:∀k,k∈DataW.weightsEach P RJ ds->k<=reachBytes):
 Calls P f args w λe w'=>e= .returned (.bool true)/\Below w.heap.size w w':=by
 obtain⟨l,xs,Ro,E8,aiS,arQ,anf⟩:=aFv Qs (λb=>(b,0)) u' RJ Pl ts args.toList ds ps bo (λj t v c7 anA=>cv j t v c7 (by simpa using anA)) ht hw;obtain⟨h,ai⟩:=ey.aK2 ts l Ro;have q0:=law h (λc b7 d a7=>E8 c (ai▸b7) d a7)
 have QO:=hs h true q0 (xs.map Lt) [] (by
  show f' (km 0 _) (V5 Pl (ey.cells U.D ts h)).1 _;rw[ai,aiS];exact aHU arQ) (by
  show pJ 0 (Oc 0 [] _) []
  exact aXF)
 have:=QO (λb=>(b,0)) (Old w) w (λ_=>False) {blk:=λb x ad=>(by cases ad),inj:=λb hq x y ad=>(by cases ad),st:=λb j al=>al} (λb x ad=>by cases ad) (λb x ad=>by cases ad)
  (aG2 arQ) args.toList anf
 rw[Array.toArray_toList]at this;refine this.mono λe w' ⟨v,r,hK,ik,J',N',he,⟨_,ar,_⟩,OA,_,_,_,am5,_⟩=>?_
 cases ar with
 | c b7=>
  cases b7 with
  | t c=>
   cases OA with
   | c aiW=>
    cases aiW;exact⟨he,am5.os,am5.tape,am5.output,am5.size,λk hk=>am5.block k hk (λh=>h)⟩
theorem aTy {f:Func} {s:ChangeSpec} {fresh alK again:Bool} {W VT:World} {args:Array Value} {v:Value} {ds gs:List (DataW H)} {before:List MemPlace}
 (v':DataW.Whole enc P f.params.toList s.vars false W args.toList ds gs before) (al:Below W.heap.size W VT)
 (hres:∀(b:Nat) (sp:Nat->Bool) (a7:Bool),DataW.TrodAll enc P VT b sp a7 f.resultTypes.toList (v.resultList f.resultTypes.size) (s.fn H (ds++gs)).results [])
 (PO:∀sp:Nat->Bool,(∀p∈before,sp p.block=true)->DataW.TrodAll enc P VT 0 sp true f.params.toList args.toList (s.fn H (ds++gs)).args before)
 (ai2:∀sp:Nat->Bool,(∀p∈before,sp p.block=true)->DataW.TrodVars enc P VT sp s.vars (s.fn H (ds++gs)).vars [])
 (Np:∀(j:Nat) (t:TypeId) (r:Value),f.resultTypes[j]?=some t->(v.resultList f.resultTypes.size)[j]?=some r->Value.okWide P VT .any 0 t r):
 s.post enc P f false fresh alK again W args v VT:=by
 have ec:=v'.lt;have hold:∀p∈before,(λb=>decide (b < W.heap.size)) p.block=true:=λp bo=>by simpa using ec p bo
 refine⟨ds,gs,before,[],before,[],v',hres _ _ _,PO _ hold,ai2 _ hold,al.frame _,λ_=>?_⟩;refine⟨Np,(s.fn H (ds++gs)).results++(s.fn H (ds++gs)).args,(s.fn H (ds++gs)).vars,before,⟨before,[],?_,ai2 _ (λ_ _=>rfl),by simp,?_,λh=>by cases h⟩,λp bo _=>bo⟩
 . have:=trodAll_append (PO (λ_=>true) (λ_ _=>rfl)) (hres 0 (λ_=>true) true)
   simpa using this
 . intro b off bo;obtain⟨_,_,_,_,_,ga,_⟩:=v';rw[World.frozen?_of_block (w:=W) (a:=⟨b,off,none⟩) (al.block b (ec _ bo))];exact ga b off bo
theorem a06 {f:Nat} {fn:Func} {s:ChangeSpec} {Pl:List NC} {ts:List eb} {F:ey U.D ts -> Option (ey U.D [.bool])} (Qs:U.Total)
 (hs:P7 P ⟨f,Pl,[],ts,.c (.hole .bool),[],[.bool],F⟩)
 (law:∀h:ey U.D ts,Ok U ts h->F h=some true) {st:TypeId->Option Nat} (u':afr P U st) (bo:Yg P U st fn.params.toList Pl ts=true)
 {aMr:TypeId} (hres:fn.resultTypes=#[aMr]) (htb:P.underlying aMr=some .bool) (ai2:s.vars=[])
 (KV:∀ds:List (DataW H),ds.length=ts.length->(s.fn H ds).results=[.lit (.bool true)]/\(s.fn H ds).args=ds/\(s.fn H ds).vars=[])
 (ax4:(laidOutB P && mapsRowed P)=true) (a0i:fn.params.toList.all (λt=>decide (t < P.types.size))=true)
 (aac:((List.range P.types.size).all λt=>match P.underlying t with | some (.slice e)=>decide (0 < P.cellsOf e) | _=>true)=true)
 {W:World} {base:Nat} {args:Array Value} {ds gs:List (DataW H)} {before:List MemPlace} {fresh alK again:Bool}
 (ai1:∀(j:Nat) t v,fn.params[j]?=some t->args[j]?=some v->Value.okWide P W .any base t v)
 (v':DataW.Whole enc P fn.params.toList s.vars false W args.toList ds gs before)
 (hk:(DataW.weightsEach P (fn.params.toList++s.plain.varTypes P) (ds++gs)).all (· <=reachBytes)=true):
 Calls P f args W λe VT=>∃v,e= .returned v/\s.post enc P fn false fresh alK again W args v VT:=by
 have axC:=v';obtain⟨p,q,vJ,QM,rfl,ady,ix⟩:=v';rw[ai2]at QM;obtain⟨rfl,rfl⟩:=trodVars_none QM;have a0E:s.plain.varTypes P=[]:=by show s.vars.filterMap _=[] <;> simp[ai2]
 rw[a0E,aam,aam,r0]at hk;have hlen:ds.length=ts.length:=by
  have h1:∀{RJ:List TypeId} {vs:List Value} {ds:List (DataW H)} {ps:List MemPlace},DataW.TrodAll enc P W 0 (λ_=>true) true RJ vs ds ps->ds.length=RJ.length:=by
   intro RJ
   induction RJ with
   | nil=>intro vs ds ps h;obtain⟨_,rfl,_⟩:=trodAll_nil h;rfl
   | cons t r ih=>intro vs ds ps h;obtain⟨_,_,_,_,_,_,_,rfl,_,_,ah⟩:=trodAll_cons h;simp[ih ah]
  rw[h1 vJ,aDC bo]
 obtain⟨Ru,aiV,aKk⟩:=KV ds hlen;simp only[k0]at ax4;have K:=kids_rows ax4.1 ax4.2;have h6:=slices_full_of P aac;refine(a05 Qs hs law u' bo (λj t v c7 anA=>ai1 j t v (by simpa using c7) anA) vJ (λk Uj=>by simpa using hk k Uj)).mono λe VT ⟨he,al⟩=>?_
 subst he;refine⟨_,rfl,aTy axC al ?_ ?_ ?_ ?_⟩
 . intro b sp a7;rw[aam,Ru,hres];exact trodAll_cons_mk (shut_bool htb _) trodAll_mk0
 . intro sp aiX;rw[aam,aiV];have ec:=axC.lt;clear axC ady ix hk ai1 hlen;have vk:∀t,t∈fn.params.toList->t < P.types.size:=λt ht=>by simpa using r0.1 a0i t ht
   have go : ∀ {RJ : List TypeId} {vs : List Value} {ds : List (DataW H)} {ps : List MemPlace}, (∀ t, t ∈ RJ -> t < P.types.size) -> (∀ p ∈ ps, p.block < W.heap.size /\ sp p.block = true) ->
    DataW.TrodAll enc P W 0 (λ_=>true) true RJ vs ds ps->DataW.TrodAll enc P VT 0 sp true RJ vs ds ps:=by
    intro RJ
    induction RJ with
    | nil=>intro vs ds ps _ _ h;obtain⟨rfl,rfl,rfl⟩:=trodAll_nil h;exact trodAll_mk0
    | cons t r ih=>
     intro vs ds ps vk JH h;obtain⟨v,Xx,d,Jq,a,b,rfl,rfl,rfl,⟨QK,h1⟩,ah⟩:=trodAll_cons h
     refine⟨a,b,⟨QK,DataW.trod_stays (T:=(· < P.types.size)) K (λ{t e}=>h6 t e) (by intro ai;cases ai) (vk t (by simp)) h1 (λx ad=>al.same (JH x (by simp[ad])).1) (λx ad=>(JH x (by simp[ad])).2)⟩,ih (λt ht=>vk t (by simp[ht])) (λx ad=>JH x (by simp[ad])) ah,rfl⟩
   rw[aam];exact go vk (λx ad=>⟨ec x (by simp[ad]),aiX x (by simp[ad])⟩) vJ
 . intro sp aiX;rw[aam,aKk,ai2];exact rfl
 . exact ok_one hres rfl (okWide_bool_mk htb _)
end
end
section
open Go
theorem UJ{a b:Int}(h1: -9223372036854775808<=a+b)(ah:a+b<=9223372036854775807):e0 .i64 a b=a+b:=by unfold e0;rw[IntKind.wrap_i64];omega
theorem Q7{a b:Int}(h1: -9223372036854775808<=a - b)(ah:a - b<=9223372036854775807):BJ .i64 a b=a - b:=by unfold BJ;rw[IntKind.wrap_i64];omega
theorem TQ{a:Int}(h1: -9223372036854775808<=a)(ah:a<=9223372036854775807):jJ .i64 a=a:=by unfold jJ;rw[IntKind.wrap_i64];omega
theorem gA{k n:Nat}(h:k < n):ez (k:Int) n=true:=by unfold ez;simp[h]
theorem hJ(k:Nat):(k:Int).toNat=k:=aaj k
theorem Wt{a:Int}(h0:0<=a)(h1:a < 18446744073709551616):IntKind.u64.wrap a=a:=by rw[IntKind.wrap_u64];omega
theorem Q2{a:Nat}(h1:a < 18446744073709551616):jJ .u64 (a:Int)=a:=Wt (by omega) (by omega)
theorem ajM :(2:Nat) ^ 64=18446744073709551616:=by decide
theorem aHV{a b:Nat}(ch:a < 18446744073709551616)(al:b < 18446744073709551616):ad1 .u64 (a:Int) (b:Int)=((a ||| b:Nat):Int):=by
 have a0h:a ||| b < 2 ^ 64:=Nat.or_lt_two_pow (by rw[ajM];exact ch) (by rw[ajM];exact al);have e:(BitVec.ofInt 64 (a:Int) ||| BitVec.ofInt 64 (b:Int)).toNat=a ||| b:=by grind
 show IntKind.u64.wrap (((BitVec.ofInt 64 (a:Int) ||| BitVec.ofInt 64 (b:Int)).toNat:Nat):Int)=_;rw[e];rw[ajM]at a0h;exact Wt (by omega) (by omega)
theorem aII{n c i:Nat}(h:n < 2 ^ i):n ||| (c*2 ^ i)=n+c*2 ^ i:=by rw[Nat.or_comm,ajm,<-Nat.two_pow_add_eq_or_of_lt h,an5]
theorem aV1{b:Nat}(al:b < 256):aq8 .u8 (b:Int) 127=((b % 128:Nat):Int):=by
 have e:(BitVec.ofInt 8 (b:Int) &&& BitVec.ofInt 8 (127:Nat)).toNat=b % 128:=by
  rw[ajq,ajq,BitVec.toNat_and,ajf,ajf,aak (by omega)];exact Nat.and_two_pow_sub_one_eq_mod b 7
 show IntKind.u8.wrap (((BitVec.ofInt 8 (b:Int) &&& BitVec.ofInt 8 (127:Nat)).toNat:Nat):Int)=_;rw[e,IntKind.wrap_u8];omega
theorem aG3{a k:Nat}(hk:k<=64)(h:a*2 ^ k < 18446744073709551616):Zm .u64 (a:Int) (k:Int)=((a*2 ^ k:Nat):Int):=by
 unfold Zm;have:min ((k:Int).toNat) IntKind.u64.bits=k:=by simp[IntKind.bits];omega
 rw[this];have e:(a:Int)*2 ^ k=((a*2 ^ k:Nat):Int):=by push_cast;rfl
 rw[e];exact Wt (by omega) (by omega)
theorem agF{a:Nat}(h:a < 18446744073709551616):MV .u64 (a:Int) 2=((a / 2:Nat):Int):=by
 unfold MV;have e:(a:Int).tdiv 2=((a / 2:Nat):Int):=by rw[aoa (by omega)];omega
 rw[e];exact Wt (by omega) (by omega)
theorem aot{a b:Nat}:kt (a:Int) (b:Int)=((a % b:Nat):Int):=by rfl
theorem agq{a b:Nat}(h:a*b < 18446744073709551616):Nv .u64 (a:Int) (b:Int)=((a*b:Nat):Int):=by
 unfold Nv;have e:(a:Int)*b=((a*b:Nat):Int):=by push_cast;rfl
 rw[e];exact Wt (by omega) (by omega)
theorem aIJ{a b:Int}(h1: -9223372036854775808<=a*b)(ah:a*b<=9223372036854775807):Nv .i64 a b=a*b:=by unfold Nv;rw[IntKind.wrap_i64];omega
theorem afx{a b:Nat}(h:a+b < 18446744073709551616):e0 .u64 (a:Int) (b:Int)=((a+b:Nat):Int):=by
 unfold e0;have e:(a:Int)+b=((a+b:Nat):Int):=by push_cast;rfl
 rw[e];exact Wt (by omega) (by omega)
theorem aqr{a b:Nat}(h:a+b<=9223372036854775807):e0 .i64 (a:Int) (b:Int)=((a+b:Nat):Int):=by rw[UJ (by omega) (by omega)];norm_cast
theorem j2{a:Nat}(h:a < 9223372036854775807):e0 .i64 (a:Int) 1=((a+1:Nat):Int):=by rw[UJ (by omega) (by omega)];norm_cast
theorem acR(s:List UInt8)(i:Nat):MD s (i:Int)=((s.getD i 0).toNat:Int):=by simp[MD]
theorem akr(s:List UInt8)(i:Nat):(s.getD i 0).toNat < 256:=UInt8.toNat_lt _
theorem ZN{α:Type}(l:List α)(k:Nat):Jp l (k:Int) (l.length:Int)=l.drop k:=by simp[Jp]
theorem afu{α:Type}(l:List α)(k:Nat):Jp l 0 (k:Int)=l.take k:=by simp[Jp]
theorem TY{a b n:Nat}(h1:a<=b)(ah:b<=n):Jt (a:Int) (b:Int) n=true:=by unfold Jt;simp;omega
theorem awi(a b:Nat):SU (a:Int) (b:Int)=((min a b:Nat):Int):=by unfold SU;omega
theorem CJ{k n:Nat}(hk:k<=1000)(h:n<=100000):room k n=true:=by
 unfold room Qy KJ;simp only[k0,ye];refine⟨?_,by omega⟩;have:(2*n+192)*k<=200192*1000:=Nat.mul_le_mul (by omega) hk;omega
end
section
open Go Go.Proofs Go.Proofs.YtijpinendaoleaaGreat Go.Sort Go.RowKit
variable {P:Program} {α:Type} [Inhabited α]
theorem aQY(w:World)(blk:Nat)(f:Array Value->Array Value){b:Nat}(h:b≠blk):(mapBlock w blk f).heap[b]?=w.heap[b]?:=by simp[mapBlock,asj,EI h]
theorem aRf(w:World)(blk:Nat)(f:Array Value->Array Value){c:Array Value}{E:TypeId}{arx:Nat×Nat}(h:w.heap[blk]?=some (.cells c E arx)):(mapBlock w blk f).heap[blk]?=some (.cells (f c) E arx):=by
 simp[mapBlock,asj,h,onCells]
theorem aV2 {f g k kk:Nat} (enc:α -> List Value) (V3:α -> List T) (F:Array α -> Array α) (hk:∀x,(enc x).length=k) (TI:∀x,(V3 x).length=k) (O':0 < k)
 (JG:∀(w:World) (S:y0) (x:α) (j:Nat) (t:T) (v:Value),(V3 x)[j]?=some t->k1 w S t v->(enc x)[j]?=some v)
 (q0:∀d:Array α,(F d).size=d.size/\∀x,x∈(F d).toList->x∈d.toList)
 (QO:∀(blk off cap:Nat) (d:Array α) (w:World),HoldsK enc k w blk off d->blk < w.heap.size->d.size < 4611686018427387904->
  Calls P f #[.slice (some ⟨blk,off,none⟩) d.size cap,.func (.func g) #[] #[]] w λe w'=>e= .returned (.tuple #[])/\∃n os,w'=sortWorldK enc k w blk off n (F d) os)
 (ank:∀(p:Option Addr) (cap:Nat) (YZ:Value) (w:World),Calls P f #[.slice p 0 cap,YZ] w λe w'=>e= .returned (.tuple #[])/\w'=w)
 {J:fu} {d:List α} (h0:e1 J 0=some (.arr k (d.map V3))) (k6:0 < kk):
 Ju P f [.c (.arr 0 k 0 d.length),.c (.fn g [])] J kk (λr J' N'=>r= .gJ []/\J'=vc J 0 (.arr k ((F d.toArray).toList.map V3))/\N'=kk):=by
 intro φ S w B Og Jd Y7 JC vs Jl;cases Jl with | cons cv Jl=>
 cases Jl with | cons Y' Jl=>
 cases Jl;cases cv with | c cv=>
 cases Y' with | c Y'=>
 obtain⟨a,rfl,ch,hle⟩:=cv;have a0C:_=Value.func (.func g) #[] #[]:=Y';subst a0C;obtain⟨a6,NX,hlen,_,hblk⟩:=Og.blk 0 _ h0;rw[SZ]at a6 NX;obtain⟨h6,C3⟩:=q0 d.toArray
 have fin : ∀ w' : World, Ext B S S w w' -> ac6 φ w' S (vc J 0 (.arr k ((F d.toArray).toList.map V3))) -> ∃ v r hK ik J' N', Ending.returned (Value.tuple #[]) = Ending.returned v /\ (r = V.gJ [] /\ J' = vc J 0 (.arr k ((F d.toArray).toList.map V3)) /\ N' = kk) /\ k' hK w' ik r v /\ r.c' (lt N') = true /\ ac6 hK w' ik J' /\ (∀ (b : Nat) x, e1 J' b = some x -> b < N' /\ x.c' (lt N') = true) /\ Ext B S ik w w' /\
  (∀(b:Nat) x,e1 J' b=some x->(hK b).2≠0->B (hK b).1\/w.heap.size<=(hK b).1)/\∀b,b < kk->hK b=φ b:=by
  intro w' J7 dx;refine⟨_,.gJ [],φ,S,_,kk,rfl,⟨rfl,rfl,rfl⟩,.gJ [] [] rfl (by simp),rfl,dx,λb x ad=>?_,J7,λb x ad al=>?_,λ_ _=>rfl⟩
  . rw[q6]at ad;split at ad
    . rename_i al;cases ad;subst al;exact⟨k6,rfl⟩
    . exact Jd b x ad
  . rw[q6]at ad;split at ad
    . rename_i Oe;subst Oe;exact .inl (Y7 _ _ h0 al)
    . exact .inl (Y7 b x ad al)
 by_cases ga:(φ 0).2=0
 ·
  have a7:d=[]:=Uu (by omega);subst a7;refine(ank a _ _ w).mono ?_
  rintro e w' ⟨rfl,rfl⟩
  have he:(F ([]:List α).toArray).toList.map V3=([]:List α).map V3:=by grind
  refine fin _ Ext.refl ?_;rw[he];refine⟨λb x ad=>?_,λb hq x y ad bJ=>?_,Og.st⟩
  . rw[q6]at ad;split at ad
    . rename_i al;cases ad;subst al;exact Og.blk _ _ h0
    . exact Og.blk b x ad
  . have key:∀b x,e1 (vc J 0 (.arr k (([]:List α).map V3))) b=some x->∃jb,e1 J b=some jb:=by
     intro b x ad;rw[q6]at ad
     grind
    obtain⟨jb,Ly⟩:=key b x ad;obtain⟨P4,ON⟩:=key hq y bJ;exact Og.inj b hq jb P4 Ly ON
 . obtain⟨vs,E,ai,PU,b7,JP⟩:=hblk ga;rw[ch ga]
   have Nq:∀(i j:Nat) (t:T) (x:α),d[i]?=some x->(V3 x)[j]?=some t->∃v,vs[i*k+j]?=some v/\k1 w S t v/\(enc x)[j]?=some v:=by
    intro i j t x ay c7;obtain⟨v,cv,ar⟩:=b7 i j (V3 x) t (by rw[aai,ay];rfl) c7
    grind
   have QN:(φ 0).1 < w.heap.size:=by grind
   have aY4:HoldsK enc k w (φ 0).1 (0*k) d.toArray:=by
    intro j c7;rw[size_flatK]at c7;have SN:j < d.length*k:=by simpa using c7
    have ay:j / k < d.length:=(Nat.div_lt_iff_lt_mul O').2 SN;have hm:j % k < k:=an9 _ O';have ad:d[j / k]?=some d[j / k]:=J9 ay;have ax7:j % k < (V3 d[j / k]).length:=by rw[TI];exact hm
    obtain⟨v,cv,_,he⟩:=Nq (j / k) (j % k) _ _ ad (J9 ax7);have aZW:j / k*k+j % k=j:=by rw[ajm];exact Nat.div_add_mod j k
    rw[aZW]at cv;refine⟨?_,by simp[World.frozen?,ai]⟩;rw[an6,NI,Tn ai,cv,get_flatK _ _ _ _ c7]
    grind
   have aZ7:d.toArray.size < 4611686018427387904:=by
    have:KJ=281474976710656:=rfl;simp;omega
   refine(QO (φ 0).1 (0*k) _ d.toArray w aY4 QN aZ7).mono ?_
   rintro e w' ⟨rfl,n,os,rfl⟩
   have hold:∀b:Nat,b < w.heap.size->b≠(φ 0).1->(sortWorldK enc k w (φ 0).1 (0*k) n (F d.toArray) os).heap[b]?=w.heap[b]?:=by
    intro b al hG;unfold sortWorldK putRowK putRow;rw[heap_grow_old _ _ (by simpa[mapBlock,Go.Sort.ahead]using al),aQY _ _ _ hG];rfl
   have abS:(sortWorldK enc k w (φ 0).1 (0*k) n (F d.toArray) os).heap[(φ 0).1]?=some (.cells (putCells id (0*k) (flatK enc k (F d.toArray)) vs.toArray).toList.toArray E (0,0)):=by
    unfold sortWorldK putRowK putRow;rw[heap_grow_old _ _ (by simpa[mapBlock,Go.Sort.ahead]using QN),aRf (Go.Sort.ahead w n) _ _ (by exact ai)]
   have hm:N7 w S (sortWorldK enc k w (φ 0).1 (0*k) n (F d.toArray) os) S:=⟨λ_ _ h=>h,λb j h=>acM (hold b (Og.st b j h) (λe=>JP j (e▸h))) j⟩
   refine fin _ ⟨rfl,rfl,rfl,?_,λb al E1=>hold b al (λe=>E1 (e▸Y7 0 _ h0 ga)),hm,λ_ _ h=>.inl h⟩ ⟨λb x ad=>?_,λb hq x y ad bJ=>?_,λb j h=>?_⟩
   . unfold sortWorldK putRowK putRow;simp[grow,mapBlock,Go.Sort.ahead]
   . rw[q6]at ad;split at ad
     . rename_i al;cases ad;subst al;refine⟨by simpa[h6]using a6,by simpa[h6]using NX,λe he=>?_,O',λ_=>⟨_,E,abS,by simpa[putCells]using PU,λi j e t ay c7=>?_,JP⟩⟩
       . obtain⟨x,_,rfl⟩:=Lp.1 he;exact TI x
       . rw[aai]at ay;cases ar8:(F d.toArray).toList[i]? with
         | none=>rw[ar8]at ay;cases ay
         | some x=>
          rw[ar8]at ay;have:e=V3 x:=(aan ay).symm;subst this;have ad:x∈d:=by simpa using C3 x (JX ar8)
          obtain⟨i0,Ui,aZB⟩:=OR ad;obtain⟨v,cv,ar,he⟩:=Nq i0 j t x (by rw[J9 Ui,aZB]) c7;refine⟨v,?_,k1.mono hm ar⟩;have a3s:j < k:=by rw[<-TI x];exact(sb.1 c7).1
          have ax0:i < (F d.toArray).size:=by grind
          have ec:i*k+j < (F d.toArray).size*k:=by
           have:=K0 k (show i+1<=(F d.toArray).size from ax0)
           grind
          have SO:i*k+j < vs.length:=by
           rw[PU];refine Ya ec (K0 k ?_)
           grind
          have d1:(i*k+j) / k=i:=(blk_iff k i _ O').1 ⟨by omega,by omega⟩;have d2:(i*k+j) % k=j:=by rw[Nat.mod_eq_sub_div_mul,d1];omega
          have eh:(F d.toArray)[i]! =x:=by grind
          have:(putCells id (0*k) (flatK enc k (F d.toArray)) vs.toArray).toList[i*k+j]?=some ((flatK enc k (F d.toArray))[i*k+j]!):=by
           rw[ayU];simp only[putCells,Array.getElem?_mapIdx];rw[show vs.toArray[i*k+j]?=some vs[i*k+j] by simp[SO]];simp[size_flatK,ec]
          rw[this,get_flatK _ _ _ _ ec,d1,d2,eh,List.getElem!_eq_getElem?_getD,he];rfl
     . rename_i al;have Z8:b≠0:=λe=>al (by simp[e])
       refine r2.mono (n:=λ_=>true) hm (λ_ _=>rfl) rfl (by cases x <;> simp[h2.c',C.YR]) (λarG=>hold _ ((Og.blk b x ad).Vq arG) (Og.inj b 0 x _ ad h0 Z8 arG ga)) (Og.blk b x ad)
   . have key:∀b x,e1 (vc J 0 (.arr k ((F d.toArray).toList.map V3))) b=some x->∃jb,e1 J b=some jb:=by
      intro b x ad;rw[q6]at ad
      grind
     obtain⟨jb,Ly⟩:=key b x ad;obtain⟨P4,ON⟩:=key hq y bJ;exact Og.inj b hq jb P4 Ly ON
   . have:=Og.st b j h;unfold sortWorldK putRowK putRow;simp[grow,mapBlock,Go.Sort.ahead];omega
def PY(lt:α->α->Bool)(l:List α):List α:=(pdq lt l.toArray 0 l.length (Lib.bitLen l.length) true true).toList
theorem atL{lt:α->α->Bool}(Nl:SWO lt)(l:List α):(PY lt l).Perm l:=by
 obtain⟨⟨hs,_,bo⟩,_⟩:=pdq_sorts lt Nl l.toArray 0 l.length (Lib.bitLen l.length) true true (RE _) (by simp) (Or.inl rfl);have eh:∀d:Array α,d.size=l.length->d.extract 0 l.length=d:=λd h=>by rw[<-h];exact Array.extract_size
 rw[eh _ (by simpa using hs),eh _ (by simp)]at bo
 simpa[PY]using bo
theorem aSY{lt:α->α->Bool}(Nl:SWO lt)(l:List α):(PY lt l).length=l.length:=(atL Nl l).length_eq
theorem aSZ{lt:α->α->Bool}(Nl:SWO lt)(l:List α):(PY lt l).Pairwise λx y=>lt y x=false:=by
 obtain⟨⟨hs,_,_⟩,dx⟩:=pdq_sorts lt Nl l.toArray 0 l.length (Lib.bitLen l.length) true true (RE _) (by simp) (Or.inl rfl);have h6:(PY lt l).length=l.length:=aSY Nl l;rw[adV];intro i j ay c7 aJZ;have:=dx i j (RE _) aJZ (by rw[<-h6];exact c7)
 have e:∀i (h:i < (PY lt l).length),(pdq lt l.toArray 0 l.length (Lib.bitLen l.length) true true)[i]! =(PY lt l)[i]:=by
  intro i h;have rz:i < (pdq lt l.toArray 0 l.length (Lib.bitLen l.length) true true).size:=by simpa[PY]using h
  rw[getElem!_pos _ i rz];simp[PY]
 grind
def azN(U:pK)(f n g:Nat)(F:List (U.D n)->List (U.D n)):pv U:=
 ⟨f,[.c (.arr 0),.c (.fn g [])],[.arr (.nm n)],[.slice (.nm n)],.gJ [],[.arr (.nm n)],[.slice (.nm n)],λ(l:List (U.D n))=>some (F l)⟩
theorem aV3 {U:pK} {f n g:Nat} [Inhabited (U.D n)] (enc:U.D n -> List Value) (lt:U.D n -> U.D n -> Bool) (Nl:SWO lt) (hk:∀x,(enc x).length=(eb.nm n).sz U)
 (JG:∀(w:World) (S:y0) (x:U.D n) (j:Nat) (t:T) (v:Value),((eb.nm n).enc U x)[j]?=some t->k1 w S t v->(enc x)[j]?=some v)
 (QO:∀(blk off cap:Nat) (d:Array (U.D n)) (w:World),HoldsK enc ((eb.nm n).sz U) w blk off d->blk < w.heap.size->d.size < 4611686018427387904->
  Calls P f #[.slice (some ⟨blk,off,none⟩) d.size cap,.func (.func g) #[] #[]] w λe w'=>e= .returned (.tuple #[])/\∃PW os,w'=sortWorldK enc ((eb.nm n).sz U) w blk off PW (pdq lt d 0 d.size (Lib.bitLen d.size) true true) os)
 (ank:∀(p:Option Addr) (cap:Nat) (YZ:Value) (w:World),Calls P f #[.slice p 0 cap,YZ] w λe w'=>e= .returned (.tuple #[])/\w'=w):
 P7 P (azN U f n g (PY lt)):=by
 intro(l:List (U.D n)) r q0 XU J1 ch dx;have ar:r=PY lt l:=(aan q0).symm;subst ar;cases ch with | cons ch abI=>
 cases abI with | cons abI aZi=>
 cases aZi;obtain⟨sz,m,rfl,_,aZD⟩:=km.O3 ch;have:=km.avY abI;subst this;have Vi:Shv.fz ((azN U f n g (PY lt)).Q8 l) 0=some (.arr (.nm n) l):=rfl;have a7:=aZD _ Vi _ rfl;obtain⟨_,Vz,g0,b0⟩:=dx 0 _ Vi;cases b0;have eh:sz=(eb.nm n).sz U:=(JQ Prod.fst a7).symm;have hj:m=l.length:=(JQ Prod.snd a7).symm;subst eh;subst hj
 have anm:∀d:Array (U.D n),(PY lt d.toList).Perm d.toList:=λd=>atL Nl d.toList
 refine(aV2 (α:=U.D n) (kk:=1) enc ((eb.nm n).enc U) (λd:Array (U.D n)=>(PY (α:=U.D n) lt d.toList).toArray) hk (λx=>eb.afQ) eb.ajI JG
  (λd=>⟨by simpa using(anm d).length_eq,λx ad=>(anm d).mem_iff.1 (by simpa using ad)⟩) (λblk off cap d w h1 ah b'=>?_) ank g0 Nat.one_pos).mono ?_
 . have:=QO blk off cap d w h1 ah b'
   simpa[PY]using this
 . rintro kJ s1 WB ⟨rfl,rfl,rfl⟩
   refine⟨rfl,.gJ [] [] rfl (by simp),λb x ad=>?_⟩;have I2:(PY lt l.toArray.toList).toArray.toList=PY lt l:=by simp
   simp only[I2];clear I2 q0;generalize PY lt l=q at ad ⊢;have Ly:(if b=0 then some (qJ.arr (U:=U) (.nm n) q)else none)=some x:=by
    rw[<-ad];cases b <;> rfl
   split at Ly
   . rename_i al;cases Ly;subst al;refine⟨Nat.one_pos,_,?_,.arr (U:=U) (.nm n) q⟩;rw[q6];simp;rfl
   . cases Ly
theorem aTz(w:World)(S:y0)(i:Int)(s:List UInt8)(j:Nat)(t:T)(v:Value)(h:[T.int .i64 i,T.str s][j]?=some t)(ar:k1 w S t v):[Value.int .i64 i,Value.string ⟨s.toArray⟩][j]?=some v:=by
 match j,h with
 | 0,h=>cases h;cases ar;rfl
 | 1,h=>cases h;cases ar;rfl
theorem aWN(key:α->Int):SWO (λx y=>decide (key x < key y)) where
 irrefl x:=by simp
 trans x y z h1 ah:=by simp at*;omega
 ntrans x y z h1 ah:=by simp at*;omega
end
section
open Go Go.Proofs Go.Proofs.YtijpinendaoleaaGreat Go.Sort
def Wy{α:Type}(a b:Option α):Prop:=∀r,a=some r->b=some r
theorem Wy.r{α:Type}{a:Option α}:Wy a a:=λ_ h=>h
theorem Wy.n{α:Type}{a:Option α}:Wy none a:=λ_ h=>by cases h
theorem Wy.b{α β:Type}{a b:Option α}{k ka:α->Option β}(h:Wy a b)(hk:∀x,Wy (k x) (ka x)):Wy (a >>=k) (b >>=ka):=by
 intro r ar;cases a with
 | none=>cases ar
 | some x=>rw[h x rfl];exact hk x r ar
theorem Wy.i{α:Type}{p:Prop}[Decidable p]{a b c d:Option α}(h:Wy a c)(k:Wy b d):Wy (if p then a else b) (if p then c else d):=by grind
variable {α:Type} [Inhabited α]
def aae(lt:α->α->Bool)(x:α):List α->List α
 | []=>[x]
 | y::r=>if lt x y then x::y::r else y::aae lt x r
def OO(lt:α->α->Bool):List α->List α
 | []=>[]
 | x::r=>aae lt x (OO lt r)
def UK(lt:α->α->Bool):List α->Bool
 | []=>true
 | x::r=>r.all (λy=>lt x y || lt y x) && UK lt r
theorem awR(lt:α->α->Bool)(x:α):∀l,(aae lt x l).Perm (x::l)
 | []=>.refl _
 | y::r=>by
  simp only[aae];split
  . simp_all
  . exact((awR lt x r).cons y).trans (.swap x y r)
theorem acn(lt:α->α->Bool):∀l,(OO lt l).Perm l
 | []=>.refl _
 | x::r=>(awR lt x _).trans ((acn lt r).cons x)
theorem aEU{lt:α->α->Bool}(Nl:SWO lt)(x:α):∀{l:List α},l.Pairwise (λx y=>lt y x=false)->(aae lt x l).Pairwise λx y=>lt y x=false
 | [],_=>by simp[aae]
 | y::r,h=>by
  rw[Vk]at h;simp only[aae];split
  . rename_i aKA;have aKC:lt y x=false:=by
     cases b7:lt y x with
     | false=>rfl
     | true=>have:=Nl.trans _ _ _ aKA b7;rw[Nl.irrefl]at this;cases this
    rw[Vk];refine⟨λz ga=>?_,Vk.2 h⟩;rcases LJ.1 ga with rfl | ga
    . exact aKC
    . exact Nl.ntrans _ _ _ (h.1 z ga) aKC
  . rename_i aKA;rw[Vk];refine⟨λz ga=>?_,aEU Nl x h.2⟩;rcases LJ.1 ((awR lt x r).mem_iff.1 ga)with rfl | ga
    . grind
    grind
theorem apP{lt:α->α->Bool}(Nl:SWO lt):∀l:List α,(OO lt l).Pairwise λx y=>lt y x=false
 | []=>.nil
 | x::r=>aEU Nl x (apP Nl r)
theorem aEG{lt:α->α->Bool}:∀{l:List α},UK lt l=true->∀a b,a∈l->b∈l->a=b\/lt a b=true\/lt b a=true
 | x::r,h,a,b,ch,al=>by
  simp only[UK,k0,r0,Qp]at h;rcases LJ.1 ch with a3b | aZh <;> rcases LJ.1 al with a3c | Oe
  . grind
  . grind
  . grind
  . exact aEG h.2 a b aZh Oe
theorem aEV{lt:α->α->Bool}{l:List α}(bo:UK lt l=true):∀{a b:List α},a.Perm l->b.Perm l->a.Pairwise (λx y=>lt y x=false)->b.Pairwise (λx y=>lt y x=false)->a=b:=by
 intro a b ch al h1 ah;refine List.Perm.eq_of_pairwise (le:=λx y=>lt y x=false) (λx y ad bJ b' ea=>?_) h1 ah (ch.trans al.symm);rcases aEG bo x y (ch.mem_iff.1 ad) (al.mem_iff.1 bJ)with h | h | h
 . exact h
 . grind
 grind
theorem aHW{lt:α->α->Bool}(Nl:SWO lt){l:List α}(bo:UK lt l=true):PY lt l=OO lt l:=
 aEV bo (atL Nl l) (acn lt l) (aSZ Nl l) (apP Nl l)
def azM(lt:α->α->Bool)(l:List α):Option (List α):=if UK lt l=true then some (OO lt l)else none
theorem aVf{lt:α->α->Bool}(Nl:SWO lt)(l:List α):Wy (azM lt l) (some (PY lt l)):=by
 intro r h;unfold azM at h;split at h
 . rename_i bo;rw[aHW Nl bo];exact h
 . cases h
end
end Go.Proofs.YtijpinendaoleaaGreat.Shv
