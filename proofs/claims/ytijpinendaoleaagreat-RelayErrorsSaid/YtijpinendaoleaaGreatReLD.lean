/- The library of this proof, part D: an abstract machine for the code of the program, and its soundness. -/
import Derived.Shelf.Strings.Builder1
import Derived.ChangeArms
import Derived.ChangeStays
import Derived.ChangeSame
import Derived.SizedLaws
import Derived.Below
import Derived.WalkKit
import Derived.ProofKit
import Derived.OpenShut
import Derived.Laws.BitsLemmas
import Derived.Laws.Bits64
import Derived.Shelf.GgSortFunc.InsertionK
import Derived.Shelf.SlSortCmp.Insertion
import Derived.Sort.AssemblyPlain
import Derived.Lib.BitFns
import Derived.Test.YtijpinendaoleaaGreatReLC

namespace Go.Proofs.YtijpinendaoleaaGreat.Shv
set_option linter.all false
section
open Go
variable {xb:List Nat}
variable {U:l1} {R:Type}
def U5(gl:A')(gd:Option (Nat×Bool))(dst:Option Nat):Bool:=
 match dst with
 | none=>true
 | some d=>(gl.all λe=>!(Nat.beq e.1 d) && !(Nat.beq e.2.1 d)) && (match gd with
  | some g=>!(Nat.beq g.1 d)
  | none=>true)
def KJ(dst:Option Nat)(v:hr U)(env:hN U):hN U:=
 match dst with
 | none=>env
 | some d=>(d,v)::env
def Nq(gl:A')(gd:Option (Nat×Bool))(dst:Option Nat):A':=
 match gd,dst with
 | some g,some d=>(d,g)::gl
 | _,_=>gl
abbrev KR(U:l1):=Nat->List (nc U)
abbrev Rq(U:l1):=hN U->Option (List (hr U))
def ayk(s:nc U)(getv:Rq U)(env:hN U)(J:fJ U)(key:Nat):Option (hN U×fJ U×List Nat×d' U.D s.ts):=
 match getv env with
 | none=>none
 | some vs=>match adi J 0 0 s.st (aka s.MR vs ([],[])) []with
  | (bs,Oh)=>match Rk Oh env J with
   | none=>none
   | some (env',J')=>match getv env' with
    | none=>none
    | some SN=>match Z6 bs && ((bs.all λb=>Nat.ble (b+1) key) && (Nat.beq bs.length s.st.length && Nat.ble s.D'.length (bs.length+16)))with
     | false=>none
     | true=>match Up bs s.MR SN,OJ bs J' 0 s.st with
      | some a,some b=>match d'.dec U.D s.ts (a++b)with
       | some h=>some (env',J',bs,h)
       | none=>none
      | _,_=>none
def adx(getv:Rq U)(env:hN U)(J:fJ U)(key:Nat)(k:hN U->fJ U->hr U->Option R):List (nc U)->Option R
 | []=>none
 | s::r=>match ayk s getv env J key with
  | none=>adx getv env J key k r
  | some (env',J',bs,h)=>(s.F h) >>=λres=>match Wg J' (s.rest res) 0 bs with
   | none=>none
   | some c=>if c=true then k env' (UZ J' bs (back bs key) (s.rest res)) ((s.res res).h6 (back bs key))else none
def isNil{α:Type}:List α->Bool
 | []=>true
 | _=>false
def apv(s:nc U)(getv:Rq U)(env:hN U):Option (d' U.D s.ts):=
 match isNil s.st && isNil s.D',getv env with
 | true,some vs=>match vs.all JS,Up [] s.MR vs with
  | true,some a=>d'.dec U.D s.ts a
  | _,_=>none
 | _,_=>none
def adw(getv:Rq U)(env:hN U)(g:Bool)(k:hr U->Option R):List (nc U)->Option R
 | []=>none
 | s::r=>match apv s getv env with
  | none=>adw getv env g k r
  | some h=>(if g=true then s.F h else some (d'.To U s.us)) >>=λres=>match JS (s.res res)with
   | true=>k (s.res res)
   | false=>none
def hasB(J:fJ U)(b:Nat):Bool:=match er J b with
 | some _=>true
 | none=>false
def ga.N4(J:fJ U):ga U->Bool
 | .t _ | .vi .. | .eI | .I1 | .I0=>true
 | .ptr b _=>hasB J b
 | .mx b _ _ _=>hasB J b
 | .fn _ caps=>caps.all (hasB J)
 | .arr b=>match er J b with
  | some x=>(match x.rz with
   | some _=>true
   | none=>false)
  | none=>false
 | .sub .. =>false
 | .pre .. =>false
 | .Ly .. =>false
 | .mp b=>hasB J b
 | .y2 _=>false
 | .l' b=>match er J b with
  | some x=>(match x.rz with
   | some p=>Nat.beq p.1 1
   | none=>false)
  | none=>false
 | .dead=>false
def O2(J:fJ U):hr U->Bool
 | .c x=>x.N4 J
 | .agg cs=>cs.all (ga.N4 J)
 | .fz vs=>go J vs
where go (J:fJ U):List (hr U)->Bool
 | []=>true
 | v::vs=>O2 J v && go J vs
def ga.NP(J:fJ U):ga U->C
 | .t c=>.t (c.enc U)
 | .vi ty x o=>.vi (ty.enc U x) o
 | .eI=>.eI
 | .I1=>.I1
 | .I0=>.I0
 | .fn f caps=>.fn f caps
 | .ptr b o=>.ptr b o
 | .mx b ty i o=>.mx b (ty.sz U) i o
 | .arr b=>match er J b with
  | some x=>(match x.rz with
   | some p=>.arr b p.1 0 p.2
   | none=>.dead)
  | none=>.dead
 | .sub b f' len=>.JK b 1 f' len
 | .pre _ _=>.dead
 | .Ly .. =>.dead
 | .mp b=>.mp b
 | .y2 b=>.y2 b
 | .l' b=>match er J b with
  | some x=>(match x.rz with
   | some p=>.l' b p.2
   | none=>.dead)
  | none=>.dead
 | .dead=>.dead
def MP(J:fJ U):hr U->V
 | .c x=>.c (x.NP J)
 | .agg cs=>.agg (cs.map (ga.NP J))
 | .fz vs=>.fz (go J vs)
where go (J:fJ U):List (hr U)->List V
 | []=>[]
 | v::vs=>MP J v::go J vs
def Lh(J:fJ U):oj U->Bool
 | .box cs=>cs.all (ga.N4 J)
 | .arr _ _=>true
 | .rows .. =>false
 | .set _=>true
 | .buf _ _=>true
 | .h4 _ c=>c.N4 J
 | .k6 .. =>false
def aai(J:fJ U):oj U->hE
 | .box cs=>.box (cs.map (ga.NP J))
 | .arr ty l=>.arr (ty.sz U) (l.map (ty.enc U))
 | .rows sz _=>.arr sz []
 | .set ks=>.set ks
 | .buf E s=>.buf E s
 | .h4 E c=>.h4 E (c.NP J)
 | .k6 t l i o _=>.k6 (t.sz U) (l.map (t.enc U)) i o .dead
def QU(J:fJ U):fJ U->ep
 | []=>[]
 | (b,x)::r=>(b,aai J x)::QU J r
def alO(J:fJ U)(l:fJ U):Bool:=l.all λp=>Nat.ble (p.1+1) 16 && Lh J p.2
def apu(s:nc U)(getv:Rq U)(env:hN U):Option (d' U.D s.ts):=
 match isNil s.st && Nat.ble s.D'.length 16,getv env with
 | true,some vs=>match vs.all JS,Up [] s.MR vs with
  | true,some a=>d'.dec U.D s.ts a
  | _,_=>none
 | _,_=>none
def aeK(getv:Rq U)(env:hN U)(J:fJ U)(key:Nat)(k:fJ U->hr U->Option R):List (nc U)->Option R
 | []=>none
 | s::r=>match apu s getv env with
  | none=>aeK getv env J key k r
  | some h=>(s.F h) >>=λres=>match O2 (s.rest res) (s.res res) && alO (s.rest res) (s.rest res)with
   | true=>k (UZ J [] (back [] key) (s.rest res)) ((s.res res).h6 (back [] key))
   | false=>none
def ga.JY :ga U->List Nat
 | .ptr b _ | .mx b _ _ _ | .arr b | .sub b _ _ | .pre b _ | .Ly b _ _ | .mp b | .y2 b | .l' b=>[b]
 | .fn _ caps=>caps
 | _=>[]
def hr.JY :hr U->List Nat
 | .c x=>x.JY
 | .agg cs=>cs.flatMap ga.JY
 | .fz _=>[]
def Tu(l:List Nat)(b:Nat):Bool:=l.any λc=>Nat.beq c b
def ayl(xb:List Nat)(s:nc U)(getv:Rq U)(env:hN U)(J:fJ U)(key:Nat):Option (List Nat×d' U.D s.ts):=
 match getv env with
 | none=>none
 | some vs=>match adi J 0 0 s.st (aka s.MR vs ([],[])) []with
  | (bs,Oh)=>match isNil Oh && (Z6 bs && ((bs.all λb=>Nat.ble (b+1) key && ((Tu (vs.flatMap hr.JY) b || Tu xb b) && hasB J b)) && (Nat.beq bs.length s.st.length && (Nat.ble bs.length s.D'.length && Nat.ble s.D'.length (bs.length+16)))))with
   | false=>none
   | true=>match Up bs s.MR vs,OJ bs J 0 s.st with
    | some a,some b=>match d'.dec U.D s.ts (a++b)with
     | some h=>some (bs,h)
     | none=>none
    | _,_=>none
def al5(n:Nat)(J:fJ U)(l:fJ U):Bool:=l.all λp=>Nat.ble (p.1+1) n && Lh J p.2
def abJ(xb:List Nat)(getv:Rq U)(env:hN U)(J:fJ U)(key:Nat)(k:fJ U->hr U->Option R):List (nc U)->Option R
 | []=>none
 | s::r=>match ayl xb s getv env J key with
  | none=>abJ xb getv env J key k r
  | some (bs,h)=>(s.F h) >>=λres=>match O2 (s.rest res) (s.res res) && al5 (bs.length+16) (s.rest res) (s.rest res),Wg J (s.rest res) 0 bs with
   | true,some c=>if c=true then k (UZ J bs (back bs key) (s.rest res)) ((s.res res).h6 (back bs key))else none
   | _,_=>none
def azm(getv:Rq U)(env:hN U)(l:List (nc U)):Bool:=l.any λs=>(apu s getv env).isSome
def azn(getv:Rq U)(env:hN U)(l:List (nc U)):Bool:=l.any λs=>(apv s getv env).isSome
def aLW(gd:Option (Nat×Bool))(getv:Rq U)(env:hN U)(l:List (nc U)):Bool:=
 match gd with
 | some _=>!(azn getv env l)
 | none=>false
def azF(d:Option (List Nat)):List Nat:=match d with
 | some l=>l
 | none=>[]
def apV(fo:KR U)(d:Option (List Nat))(gd:Option (Nat×Bool))(f:Nat)(getv:Rq U)(gl:A')(env:hN U)(J:fJ U)(key:Nat)(k:hN U->fJ U->hr U->Option R):Option R:=
 match gd with
 | none=>match d with
  | none=>adx getv env J key k (fo f)
  | some xb=>match azm getv env (fo f)with
   | true=>aeK getv env J key (λJ v=>k env J v) (fo f)
   | false=>abJ xb getv env J key (λJ v=>k env J v) (fo f)
 | some _=>match RU gl env YK gd with
  | some g=>adw getv env g (λv=>k env J v) (fo f)
  | none=>none
abbrev P1 :=List (Nat×Bool)
def ac1(nf:P1)(gl:A'):Nat->Option (Nat×Bool)->Bool
 | 0,_=>false
 | _,none=>false
 | NS+1,some (t,b)=>(nf.any λg=>Nat.beq g.1 t && (g.2==b)) || ac1 nf gl NS (er gl t)
def QJ(nf:P1)(dst:Option Nat):Bool:=
 match dst with
 | none=>true
 | some d=>nf.all λg=>!(Nat.beq g.1 d)
def akp :hr U:= .c (.t ⟨.bool,false⟩)
def Zp(fo:KR U)(d:Option (List Nat))(o:h7)(key:Nat)(gl:A')(nf:P1)(env:hN U)(J:fJ U)(k:A'->P1->hN U->fJ U->Option R):Option R:=
 match U5 gl o.guard o.dst && QJ nf o.dst with
 | false=>none
 | true=>match ac1 nf gl YK o.guard with
  | true=>match RU gl env YK o.guard with
   | some _=>k (Nq gl o.guard o.dst) nf (KJ o.dst akp env) J
   | none=>none
  | false=>match o.op with
   | .call f args=>match aLW o.guard (λe=>Qv gl o.guard e args) env (fo f)with
    | true=>match RU gl env YK o.guard,o.guard with
     | some g,some gd=>if g=true then abJ (azF d) (λe=>Qv gl o.guard e args) env J key (λJ v=>k (Nq gl o.guard o.dst) nf (KJ o.dst v env) J) (fo f)else k (Nq gl o.guard o.dst) (gd::nf) (KJ o.dst akp env) J
     | _,_=>none
    | false=>apV fo d o.guard f (λe=>Qv gl o.guard e args) gl env J key λenv J v=>k (Nq gl o.guard o.dst) nf (KJ o.dst v env) J
   | .Oe x args=>match d,o.guard,q3 gl none env x with
    | none,none,some (.c (.fn f _))=>adx (λe=>match q3 gl none e x,Qv gl none e args with
     | some (.c (.fn aau Uo)),some vs=>match Nat.beq aau f with
      | true=>some (vs++Uo.map λb=>.c (.ptr b 0))
      | false=>none
     | _,_=>none) env J key (λenv J v=>k gl nf (KJ o.dst v env) J) (fo f)
    | some _,none,some (.c (.fn f []))=>adw (λe=>Qv gl none e args) env true (λv=>k gl nf (KJ o.dst v env) J) (fo f)
    | _,_,_=>none
   | op=>match k0 gl o.guard env J key op with
    | none=>none
    | some (c,v,J')=>match o.guard with
     | none=>if c=true then k gl nf (KJ o.dst v env) J' else none
     | some gd=>match RU gl env YK (some gd)with
      | none=>none
      | some g=>match op.neutral with
       | true=>if(c || !g)=true then k (Nq gl o.guard o.dst) nf (KJ o.dst v env) J else none
       | false=>if g=true then(if c=true then k (Nq gl o.guard o.dst) nf (KJ o.dst v env) J' else none)else k (Nq gl o.guard o.dst) (gd::nf) (KJ o.dst akp env) J
def ayd(J:fJ U):ga U->List (Nat×c9)
 | .arr b=>match er J b with
  | some (.arr t _)=>[(b,t)]
  | _=>[]
 | _=>[]
def aLO(J:fJ U):hr U->List (Nat×c9)
 | .c x=>ayd J x
 | .agg cs=>cs.flatMap (ayd J)
 | .fz _=>[]
def apr(gl:A')(gd:Option (Nat×Bool))(env:hN U)(J:fJ U)(xs:List dJ):List (Nat×c9):=
 xs.flatMap λx=>match q3 gl gd env x with
  | some v=>aLO J v
  | none=>[]
def ag7(l:List (Nat×c9))(env:hN U)(J:fJ U):Option (hN U×fJ U):=
 match l with
 | []=>none
 | _=>Rk l env J
def apt(gl:A')(o:h7)(env:hN U)(J:fJ U):Option (hN U×fJ U):=
 match o.op with
 | .slc _ x _ _=>match q3 gl o.guard env x with
  | some (.c (.arr b))=>match er J b with
   | some (.arr t _)=>Rk [(b,t)] env J
   | _=>none
  | _=>none
 | .call _ args=>match o.guard with
  | some _=>ag7 (apr gl o.guard env J args) env J
  | none=>none
 | .bsliceT _ _ _ _ ps=>ag7 (apr gl o.guard env J (ps.map Prod.snd)) env J
 | .bslice _ _ _ ps=>ag7 (apr gl o.guard env J (ps.map Prod.snd)) env J
 | _=>none
def aib(fo:KR U)(d:Option (List Nat))(o:h7)(key:Nat)(gl:A')(nf:P1)(env:hN U)(J:fJ U)(k:A'->P1->hN U->fJ U->Option R):Option R:=
 match d with
 | some xb=>Zp fo (some xb) o key gl nf env J k
 | none=>match apt gl o env J with
  | none=>Zp fo none o key gl nf env J k
  | some p=>Zp fo none o key gl nf p.1 p.2 k
def WC(fo:KR U)(d:Option (List Nat)):List h7->Nat->A'->P1->hN U->fJ U->(A'->hN U->fJ U->Option R)->Option R
 | [],_,gl,_,env,J,k=>k gl env J
 | o::r,key,gl,nf,env,J,k=>aib fo d o key gl nf env J λgl nf env J=>WC fo d r (key+16) gl nf env J k
def agi(gl:A')(k:Nat):Bool:=gl.any λe=>Nat.beq e.1 k
def clean(gl:A'):hN U->hN U
 | []=>[]
 | (k,v)::r=>match agi gl k with
  | true=>clean gl r
  | false=>(k,v)::clean gl r
def aeL(gl:A')(env:hN U):hN U:=
 match gl with
 | []=>env
 | _=>clean gl env
structure C0 (key:Nat) (gl:A') (nf:P1) (env:hN U) (J:fJ U) (env1:Env) (J1:ep) (G:Nat->Bool):Prop where
 L1:py key J G env env1
 a8:LY gl env G
 HS:ni key J J1
 g':∀g,g∈nf->lJ env G (some g)=false
section
variable {P:Program} {kk key:Nat} {J J':fJ U} {J1 gC:ep} {env:hN U} {env1:Env} {G:Nat->Bool} {gl:A'} {gd:Option (Nat×Bool)} {nf:P1} {dst:Option Nat} {v:hr U} {v1:V}
theorem amz{d:Option Nat}{v:hr U}{env:hN U}{k:Nat}:er (KJ d v env) k=if d=some k then some v else er env k:=by
 cases d with
 | none=>simp[KJ]
 | some d=>
  simp only[KJ,er];cases h:Nat.beq d k with
  | true=>rw[f7 h];simp
  | false=>
   have:=M' h;simp[this]
theorem aic{o:Option (Nat×Bool)}{g:Bool}(h:RU gl env YK o=some g):o=none\/∃t b y,o=some (t,b)/\Jl env t b=some y:=by
 cases o with
 | none=>exact .inl rfl
 | some x=>
  obtain⟨t,b⟩:=x;obtain⟨y,b8⟩:=aGy h
  grind
theorem asP(a8:LY gl env G)(g':∀g,g∈nf->lJ env G (some g)=false):∀{NS:Nat} {gd:Option (Nat×Bool)},ac1 nf gl NS gd=true->lJ env G gd=false
 | 0,gd,h=>by simp[ac1]at h
 | NS+1,none,h=>by simp[ac1]at h
 | NS+1,some (t,b),h=>by
  simp only[ac1,OT,ac',kc,Ox]at h;rcases h with⟨⟨Ja,hj⟩,hm,h1,ah⟩ | h
  . have:=f7 h1
    grind
  . have:=asP a8 g' h;rw[a8.er t]at this;simp[lJ,this]
theorem C0.bind(he:py key J' G env env1)(a8:LY gl env G)(c8:ni key J' gC)(g':∀g,g∈nf -> lJ env G (some g)=false)(cJ:h3 key J' v v1)(a6:gd=none \/ ∃t b y,gd=some (t,b) /\ Jl env t b=some y)(c6:U5 gl gd dst=true)(E':QJ nf dst=true):
 C0 key (Nq gl gd dst) nf (KJ dst v env) J' (zt env1 dst (lJ env G gd) v1) gC (λk=>if dst=some k then lJ env G gd else G k):=by
 refine⟨λk w hk=>?_,?_,c8,λg axj=>?_⟩
 . rw[amz]at hk;rw[NE];split at hk
   . rename_i h;cases hk;rw[b6 h,b6 h];exact⟨v1,rfl,cJ⟩
   . rename_i h;rw[b' h,b' h];exact he k w hk
 . cases dst with
   | none=>
    have:Nq gl gd none=gl:=by cases gd <;> rfl
    rw[this];simp only[KJ,reduceCtorEq,vv];exact a8
   | some d=>
    simp only[U5,kc,qx,agD]at c6;have aKm:∀k t b,er gl k=some (t,b)->k≠d/\t≠d:=by
     intro k t b hk;have hm:∀{l:A'},er l k=some (t,b)->(k,t,b)∈l:=by
      intro l
      induction l with
      | nil=>intro h;simp[er]at h
      | cons e r ih=>
       obtain⟨ix,e⟩:=e;intro h;simp only[er]at h;split at h
       . simp_all
       grind
     have:=c6.1 _ (hm hk);exact⟨M' this.1,M' this.2⟩
    have P':∀t b,t≠d->Jl (KJ (some d) v env) t b=Jl env t b:=by
     intro t b ht;unfold Jl;rw[amz,b' (by simp;exactλe=>ht e.symm)]
    have JJ:∀k t b,er gl k=some (t,b)->∃y,Jl (KJ (some d) v env) t b=some y/\(if some d=some k then lJ env G gd else G k)=((if some d=some t then lJ env G gd else G t) && y):=by
     intro k t b hk;obtain⟨h1,ah⟩:=aKm k t b hk;obtain⟨y,bJ,ea⟩:=a8.held k t b hk
     grind
    cases gd with
    | none=>
     refine⟨λk hk=>?_,λk t b hk=>JJ k t b hk⟩;by_cases axa:some d=some k
     . rw[b6 axa];rfl
     . rw[b' axa];exact a8.free k hk
    | some g=>
     obtain⟨t0,b0⟩:=g;have ajt:t0≠d:=by
      have:=c6.2;simp only[agD]at this;exact M' this
     refine⟨λk hk=>?_,λk t b hk=>?_⟩
     . simp only[Nq,er]at hk;split at hk
       . cases hk
       . rename_i ai;rw[b' (by simp;exact M' ai)];exact a8.free k hk
     . simp only[Nq,er]at hk;split at hk
       . rename_i ai;cases hk;have:=f7 ai;subst this;rcases a6 with h | ⟨t,b,y,h,b8⟩
         . cases h
         . cases h;refine⟨y,by rw[P' _ _ ajt];exact b8,?_⟩;rw[b6 rfl,b' (by simp;exactλe=>ajt e.symm)];simp[lJ,b8]
       . exact JJ k t b hk
 . obtain⟨t,b⟩:=g;have h0:=g' _ axj;cases dst with
   | none=>simpa[KJ]using h0
   | some d=>
    simp only[QJ,qx,agD]at E';have axM:t≠d:=M' (E' _ axj);simp only[lJ]at h0 ⊢;rw[b' (by simp;exactλe=>axM e.symm)];have:Jl (KJ (some d) v env) t b=Jl env t b:=by
     unfold Jl;rw[amz,b' (by simp;exactλe=>axM e.symm)]
    rw[this];exact h0
theorem WP{N:Nat}{J:fJ U}:h3 N J akp (.c (.t (.bool false))):= .c (.t (U:=U) ⟨.bool,false⟩)
theorem aiu{o:h7}(h:C0 key gl nf env J env1 J1 G)(NX:o.guard=none \/ ∃t b y,o.guard=some (t,b) /\ Jl env t b=some y)(a8:lJ env G o.guard=false)(c6:U5 gl o.guard o.dst=true)(E':QJ nf o.dst=true){v:hr U}{v1:V}(cJ:h3 (key+16) J v v1):
 DStep xb P o key env1 J1 false v1 J1/\C0 (key+16) (Nq gl o.guard o.dst) nf (KJ o.dst v env) J (zt env1 o.dst false v1) J1 (λk=>if o.dst=some k then false else G k):=by
 have P8:=air h.L1 NX;rw[a8]at P8;refine⟨.skip P8 rfl,?_⟩;have:=C0.bind (dst:=o.dst) (h.L1.mono (rm.more (by omega))) h.a8 (h.HS.mono (Nat.le_add_right key 16)) h.g' cJ NX c6 E';rw[a8]at this;exact this
theorem avs{o:h7}{c:Bool}(h:C0 key gl nf env J env1 J1 G)(aa:k0 gl o.guard env J key o.op=some (c,v,J'))(NX:o.guard=none \/ ∃t b y,o.guard=some (t,b) /\ Jl env t b=some y)(c6:U5 gl o.guard o.dst=true)(E':QJ nf o.dst=true):
 (lJ env G o.guard=true->c=true->∃v1 gC,DStep xb P o key env1 J1 true v1 gC/\C0 (key+16) (Nq gl o.guard o.dst) nf (KJ o.dst v env) J' (zt env1 o.dst true v1) gC (λk=>if o.dst=some k then true else G k))/\
 (lJ env G o.guard=false->o.op.neutral=true->∃v1,DStep xb P o key env1 J1 false v1 J1/\C0 (key+16) (Nq gl o.guard o.dst) nf (KJ o.dst v env) J (zt env1 o.dst false v1) J1 (λk=>if o.dst=some k then false else G k)):=by
 obtain⟨⟨v1,cJ,ch⟩,hk,g'⟩:=arw h.L1 h.a8 h.HS aa;have P8:=air h.L1 NX;refine⟨λa8 ay=>?_,λa8 PK=>?_⟩
 . obtain⟨p,gC,h1,ah,bJ⟩:=ch a8 ay;rw[a8]at P8;have a6:o.op.drawn=true:=by
    generalize o.op=apo at aa;cases apo <;> first | rfl | (simp[k0]at aa)
   have hs:DStep xb P o key env1 J1 true v1 (if o.op.neutral then J1 else gC):= .op P8 a6 h1 (λ_=>ah) (.inr rfl);have e:(if o.op.neutral=true then J1 else gC)=gC:=by
    split
    . rename_i PK;exact(aek PK h1).symm
    . rfl
   rw[e]at hs;refine⟨v1,gC,hs,?_⟩;have:=C0.bind (dst:=o.dst) (h.L1.mono hk) h.a8 bJ h.g' cJ NX c6 E';rw[a8]at this;exact this
 . rw[g' PK]at cJ;obtain⟨h1,ah⟩:=aiu (P:=P) h NX a8 c6 E' cJ;exact⟨v1,h1,ah⟩
theorem asQ{x:ga U}(h:x.V'=true):x.Xf.hD []=x.Xf:=by
 cases x <;> simp[ga.V']at h <;> try rfl
 rename_i f caps;cases caps with
 | nil=>rfl
 | cons=>simp[ga.V']at h
theorem amA :∀{x:hr U},JS x=true->(Jd x).hD []=Jd x
 | .c x,h=>by simp only[JS]at h;simp only[Jd,V.hD,asQ h]
 | .agg cs,h=>by
  simp only[JS,qx]at h;simp only[Jd,V.hD,ajN]
  congr 1
  exact List.map_congr_left λc ay=>asQ (h c ay)
 | .fz vs,h=>by
  simp only[JS]at h;simp only[Jd,V.hD];rw[go vs h]
where go:∀(vs:List (hr U)),JS.go vs=true->V.hD.go [] (Jd.go vs)=Jd.go vs
 | [],_=>rfl
 | v::vs,h=>by
  simp only[JS.go,kc]at h;simp only[Jd.go,V.hD.go,amA h.1,go vs h.2]
def JW(P:Program)(fo:KR U):Prop:=∀f s,s∈fo f->s.f=f/\Nb P f=true/\Nl P s
theorem alV{N:Nat}{h2:fJ U}{x:ga U}{d:C}(h:j' N h2 x d)(hs:x.N4 h2=true):d=x.NP h2:=by
 cases h <;> simp only[ga.N4,u1]at hs <;> try rfl
 . rename_i b sz n ai ak;simp only[ga.NP]
   grind
 . rename_i b n ai ak;simp only[ga.NP]
   grind
theorem aht{h2:fJ U}:∀{vs:List (hr U)} {i:Nat},(MP.go h2 vs)[i]?=(vs[i]?).map (MP h2)
 | [],i=>by simp[MP.go]
 | v::vs,0=>by simp[MP.go]
 | v::vs,i+1=>by simp[MP.go,aht]
theorem aqK{h2:fJ U}:∀{vs:List (hr U)} {i:Nat} {v:hr U},O2.go h2 vs=true->vs[i]?=some v->O2 h2 v=true
 | [],i,v,_,h=>by simp at h
 | x::vs,0,v,hs,h=>by simp[O2.go]at hs;simp at h;subst h;exact hs.1
 | x::vs,i+1,v,hs,h=>by simp[O2.go]at hs;exact aqK hs.2 (by simpa using h)
theorem amm{N:Nat}{h2:fJ U}:∀{xs:List (ga U)} {ds:List C},ez (j' N h2) xs ds->(∀x,x∈xs->x.N4 h2=true)->ds=xs.map (ga.NP h2)
 | [],[],_,_=>rfl
 | x::xs,d::ds,.cons h1 ah,hs=>by
  rw[Q9,<-alV h1 (hs x (by simp)),<-amm ah (λx aa=>hs x (by simp[aa]))]
theorem avF{N:Nat}{h2:fJ U}{x:hr U}{d:V}(h:h3 N h2 x d):O2 h2 x=true->d=MP h2 x:=by
 induction h with
 | c h=>intro hs;simp only[O2]at hs;rw[alV h hs];rfl
 | agg h=>
  intro hs;simp only[O2,qx]at hs;simp only[MP];rw[amm h hs]
 | fz xs ds aJ h ih=>
  intro hs;simp only[O2]at hs;simp only[MP]
  congr 1
  apply agC;intro i;rw[aht];cases aa:xs[i]? with
  | none=>grind
  | some x=>
   have al:=(pJ.1 aa).1;have a6:=CJ (l:=ds) (i:=i) (by omega);rw[a6,La]
   congr 1
   exact ih i x _ aa a6 (aqK hs aa)
theorem avt{N:Nat}{h2:fJ U}{x:oj U}{y:hE}(h:Nk N h2 x y)(hs:Lh h2 x=true):y=aai h2 x:=by
 cases h with
 | box h=>simp only[Lh,qx]at hs;simp only[aai];rw[amm h hs]
 | arr t l=>rfl
 | set ks=>rfl
 | buf E s=>rfl
 | h4 h=>simp only[Lh]at hs;simp only[aai];rw[alV h hs]
 | k6=>simp[Lh]at hs
 | rows=>simp[Lh]at hs
theorem ad7{h2:fJ U}:∀{l:fJ U} {b:Nat},ec (QU h2 l) b=(er l b).map (aai h2)
 | [],b=>rfl
 | (k,x)::r,b=>by
  simp only[QU,ec,er];cases h:Nat.beq k b with
  | true=>rw[b6 (f7 h)];rfl
  | false=>rw[b' (M' h)];exact ad7
theorem aLA{k:Nat}{c:C}:c.h6 (back [] k)=c.hp k:=by rfl
theorem awH{k:Nat}:∀{v:V},v.h6 (back [] k)=v.hp k
 | .c x=>by simp only[V.h6,V.hp,aLA]
 | .agg cs=>by rfl
 | .fz vs=>by simp only[V.h6,V.hp];rw[go vs]
where go:∀(vs:List V),V.h6.go (back [] k) vs=V.hp.go k vs
 | []=>rfl
 | v::vs=>by simp only[V.h6.go,V.hp.go];rw[awH,go vs]
theorem as5{k:Nat}{J1:ep}:∀{s:ep},MQ J1 [] (back [] k) s=Ta J1 k s
 | []=>rfl
 | (b,x)::r=>by
  simp only[MQ,Ta];rw[as5];rfl
theorem ah5 :∀{ss:List Me} {j:Nat} {a:EI U} {i:Nat} {x:oj U},er (Ln j ss a) i=some x->j<=i/\i < j+ss.length
 | [],j,a,i,x,h=>by simp[Ln,er]at h
 | s::ss,j,a,i,x,h=>by
  simp only[Ln]at h;split at h
  . simp only[er]at h;split at h
    . simp_all
    . have:=ah5 h;simp;omega
  . have:=ah5 h;simp;omega
theorem arE{bs:List Nat}:∀{caps:List Nat},(∀c,c∈caps->pos bs c=some c)->Vt bs caps=some caps
 | [],_=>rfl
 | c::cs,h=>by simp only[Vt,h c (by simp),arE (caps:=cs) (λx aa=>h x (by simp[aa]))]
theorem ab9{N:Nat}{h2:fJ U}(ai:∀b x,er h2 b=some x->b < N){x:ga U}(hs:x.N4 h2=true):j' N h2 x (x.NP h2)/\r2 ((x.NP h2).hD (List.range N)) (x.NP h2):=by
 have a7:∀b,hasB h2 b=true->pos (List.range N) b=some b:=by
  intro b h;unfold hasB at h;split at h
  . rename_i y b8;exact TV aph (by simp[ai b y b8])
  . cases h
 cases x with
 | t c=>exact⟨.t c,r2.refl _⟩
 | ptr b o=>
  simp only[ga.N4]at hs;refine⟨.ptr b o,?_⟩;simp only[ga.NP,C.hD,a7 b hs];exact r2.refl _
 | mx b ty i o=>
  simp only[ga.N4]at hs;refine⟨.mx b ty i o,?_⟩;simp only[ga.NP,C.hD,a7 b hs];exact r2.refl _
 | vi ty x o=>exact⟨.vi ty x o,r2.refl _⟩
 | arr b=>
  simp only[ga.N4]at hs;split at hs
  . rename_i y b8;split at hs
    . rename_i p a6;simp only[ga.NP,b8,a6];refine⟨.arr b p.1 p.2 (ai b y b8) λz gA q ee=>?_,?_⟩
      . grind
      . simp only[C.hD,a7 b (by simp[hasB,b8])];exact r2.refl _
    . cases hs
  . cases hs
 | Ly b f' len=>simp[ga.N4]at hs
 | sub b f' len=>simp[ga.N4]at hs
 | pre b h=>simp[ga.N4]at hs
 | mp b=>
  simp only[ga.N4]at hs;refine⟨.mp b,?_⟩;simp only[ga.NP,C.hD,a7 b hs];exact r2.refl _
 | y2 b=>simp[ga.N4]at hs
 | l' b=>
  simp only[ga.N4]at hs;split at hs
  . rename_i y b8;split at hs
    . rename_i p a6;simp only[ga.NP,b8,a6];refine⟨.l' b p.2 (ai b y b8) λz gA q ee=>?_,?_⟩
      . rw[b8]at gA;cases gA;rw[a6]at ee;cases ee;have:=f7 hs
        grind
      . simp only[C.hD,a7 b (by simp[hasB,b8])];exact r2.refl _
    . cases hs
  . cases hs
 | eI=>exact⟨.eI,r2.refl _⟩
 | I1=>exact⟨.I1,r2.refl _⟩
 | I0=>exact⟨.I0,r2.refl _⟩
 | fn f caps=>
  simp only[ga.N4,qx]at hs;refine⟨.fn f caps,?_⟩;have:Vt (List.range N) caps=some caps:=arE λc ay=>a7 c (hs c ay)
  simp only[ga.NP,C.hD,this];exact r2.refl _
 | dead=>simp[ga.N4]at hs
theorem ab2{N:Nat}{h2:fJ U}(ai:∀b x,er h2 b=some x->b < N):∀{xs:List (ga U)},(∀x,x∈xs->x.N4 h2=true)->ez (j' N h2) xs (xs.map (ga.NP h2))/\ez r2 ((xs.map (ga.NP h2)).map (C.hD (List.range N))) (xs.map (ga.NP h2))
 | [],_=>⟨.nil,.nil⟩
 | x::xs,hs=>by
  obtain⟨h1,ah⟩:=ab9 ai (hs x (by simp));obtain⟨bJ,ea⟩:=ab2 ai (xs:=xs) (λx aa=>hs x (by simp[aa]));exact⟨.cons h1 bJ,.cons ah ea⟩
theorem ara{h2:fJ U}:∀{vs:List (hr U)},(MP.go h2 vs).length=vs.length
 | []=>rfl
 | v::vs=>by simp[MP.go,ara]
theorem ae1{N:Nat}{h2:fJ U}(ai:∀b x,er h2 b=some x->b < N):∀{x:hr U},O2 h2 x=true->h3 N h2 x (MP h2 x)/\KZ ((MP h2 x).hD (List.range N)) (MP h2 x)
 | .c x,hs=>by
  obtain⟨h1,ah⟩:=ab9 ai (x:=x) (by simpa[O2]using hs);exact⟨.c h1,.c ah⟩
 | .agg cs,hs=>by
  simp only[O2,qx]at hs;obtain⟨h1,ah⟩:=ab2 ai hs;exact⟨.agg h1,.agg ah⟩
 | .fz vs,hs=>by
  simp only[O2]at hs;have:=go ai vs hs;refine⟨.fz _ _ (by rw[ara]) λi x d aa a6=>?_,.fz _ _ (by rw[ahs]) λi x y aa b8=>?_⟩
  . rw[aht,aa]at a6
    grind
  . rw[aik,b8]at aa;simp at aa;subst aa;rw[aht,fr]at b8
    grind
where go {N:Nat} {h2:fJ U} (ai:∀b x,er h2 b=some x->b < N):∀(vs:List (hr U)),O2.go h2 vs=true->∀x,x∈vs->h3 N h2 x (MP h2 x)/\KZ ((MP h2 x).hD (List.range N)) (MP h2 x)
 | [],_=>by simp
 | v::vs,hs=>by
  simp only[O2.go,kc]at hs;have h1:=ae1 ai hs.1;have ah:=go ai vs hs.2;intro x aa;rcases LU.1 aa with rfl | aa
  . exact h1
  . exact ah x aa
theorem arF {fo:KR U} (n1:JW P fo) {o:h7} {f:Nat} {args:List dJ} (c7:o.op= .call f args) (h:C0 key gl nf env J env1 J1 G) (qJ:o.guard=none) (c6:U5 gl o.guard o.dst=true) (E':QJ nf o.dst=true)
 {k:fJ U->hr U->Option R} {r:R}:∀{ss:List (nc U)},(∀s,s∈ss->s∈fo f)->aeK (λe=>Qv gl o.guard e args) env J key k ss=some r->
 ∃v v1 J' gC,k J' v=some r/\DStep xb P o key env1 J1 true v1 gC/\C0 (key+16) (Nq gl o.guard o.dst) nf (KJ o.dst v env) J' (zt env1 o.dst true v1) gC (λi=>if o.dst=some i then true else G i)
 | [],_,aa=>by simp[aeK]at aa
 | s::ss,hm,aa=>by
  simp only[aeK]at aa;split at aa
  . exact arF n1 c7 h qJ c6 E' (λs hs=>hm s (by simp[hs])) aa
  . rename_i ak a7;unfold apu at a7;split at a7
    . rename_i vs M3 x0;simp only[kc]at M3;split at a7
      . rename_i a aaJ ch;rw[qx]at aaJ;obtain⟨aaG,afF,aaI⟩:=n1 f s (hm s (by simp));obtain⟨p,vs1,b1,b2,b3⟩:=Zw h.L1 h.a8 x0;have n2:s.st=[]:=by cases n2:s.st with | nil=>rfl | cons=>rw[n2]at M3;simp[isNil]at M3
        have ON:=NI M3.2;obtain⟨res,hres,hk⟩:=aaX.1 aa;split at hk
        . rename_i PM;simp only[kc]at PM;obtain⟨ys,f1,aJ,g1⟩:=acr (N:=key) (Jc:=([]:fJ U)) (ade) (λj b hQ dx=>by simp at dx) ch
          obtain⟨ye,e',hf,te⟩:=g1 vs1 b2.length (λi x d aa a6=>by
           obtain⟨vn,h1,ah⟩:=b2.get aa
           rw[a6]at h1;cases h1;exact ah)
          have Tz:d'.cells U.D s.ts ak=a:=d'.JD a7;have M1:s.args ak=ys:=by
           unfold nc.args;rw[Tz];have:=f1 []
           grind
          have Uz:s.Oc ak=[]:=by unfold nc.Oc;rw[n2];rfl
          have aaD:s.st.length=0:=by rw[n2];rfl
          have NV:=aaI ak res hres ye [] (by
           rw[M1,Uz,aaD]
           refine ez.SI (by rw[aJ,e',b2.length]) λi x d aa a6=>te i x d aa a6) (by rw[Uz];intro b x aa;simp[er]at aa)
          rw[aaG,aaD]at NV;have JQ:ez KZ vs1 ye:=by
           refine ez.SI e'.symm λi d vn a6 JF=>?_
           have x0:=hf i d vn a6 JF;obtain⟨x,aa,ar⟩:=(b2.flip (R':=λd x=>h3 key J x d) λ_ _ h=>h).get a6;have hs:=aaJ x (DJ aa);have:=ae0 ar hs;subst this;rw[amA hs]at x0;exact x0
          have afH:=yq.conv JQ (J:=[]) (λb hQ aa=>by simp[ec]at aa) NV
          have Ot:∀b x,er (s.rest res) b=some x->b < 16/\Lh (s.rest res) x=true:=by
           intro b x aa;have Si:∀{l:fJ U},er l b=some x->(b,x)∈l:=by
            intro l
            induction l with
            | nil=>intro h;simp[er]at h
            | cons e r ih=>
             obtain⟨ix,e⟩:=e;intro h;simp only[er]at h;split at h
             . simp_all
             grind
           have:=PM.2;unfold alO at this;rw[qx]at this;have ah:=this _ (Si aa);simp only[kc]at ah;exact⟨by have:=NI ah.1;omega,ah.2⟩
          have hbound:∀b x,er (s.rest res) b=some x->b < s.D'.length:=by
           intro b x aa;have:=(ah5 aa).2;omega
          have an6:yq P f vs1 [] 0 (λI' XO Zs=>I'=MP (s.rest res) (s.res res)/\XO=QU (s.rest res) (s.rest res)/\Zs=s.D'.length):=by
           refine yq.tidy afH ?_
           rintro kJ s1 RJ ⟨rfl,y0,t'⟩
           have Xx:=avF y0 PM.1;subst Xx;refine⟨List.range s.D'.length,_,_,aph,rfl,?_,?_,rfl,rfl,by simp⟩
           . exact(ae1 hbound PM.1).2
           . intro b x aa;rw[ad7,fr]at aa;obtain⟨b7,JI,rfl⟩:=aa;obtain⟨h1,y,ah,bJ⟩:=t' b b7 JI;have b8:=avt bJ (Ot b b7 JI).2;subst b8;have ht:=aeu (bs:=List.range s.D'.length) (i:=0) (j:=b) (r:=List.range s.D'.length) (by simp[h1]) ah;rw[Jq]at ht;refine⟨_,ht,?_⟩;cases b7 with
             | box cs=>
              have wk:=(Ot b _ JI).2;simp only[Lh,qx]at wk;exact .box (ab2 hbound wk).2
             | arr ty l=>exact .arr
             | rows sz l=>have wk:=(Ot b _ JI).2;simp[Lh]at wk
             | set ks=>exact .same
             | buf E s=>exact .same
             | h4 E c=>have wk:=(Ot b _ JI).2;exact .h4 (ab9 hbound (by simpa[Lh]using wk)).2
             | k6=>have wk:=(Ot b _ JI).2;simp[Lh]at wk
          have aJV:V.cx.V.u' (lt 0) vs1=true:=by
           refine ZX λi d a6=>?_
           obtain⟨x,aa,ar⟩:=(b2.flip (R':=λd x=>h3 key J x d) λ_ _ h=>h).get a6;have hs:=aaJ x (DJ aa);have:=ae0 ar hs;subst this;exact(ab8 (N:=key) (J:=J) hs).2 _
          have a8:Ks env1 o.guard=some true:=by rw[qJ];rfl
          have aaC:(QU (s.rest res) (s.rest res)).all (λx=>decide (x.1 < 16))=true:=by
           have aob:=PM.2;unfold alO at aob;have:∀{l:fJ U},(l.all λp=>Nat.ble (p.1+1) 16 && Lh (s.rest res) p.2)=true->(QU (s.rest res) l).all (λx=>decide (x.1 < 16))=true:=by
            intro l
            induction l with
            | nil=>intro _;rfl
            | cons e r ih=>
             obtain⟨b,x⟩:=e;intro h;simp only[V6,kc]at h;simp only[QU,V6,kc,I2];exact⟨by have:=NI h.1.1;omega,ih h.2⟩
           grind
          have UC:h3 s.D'.length (s.rest res) (s.res res) (MP (s.rest res) (s.res res))/\ni s.D'.length (s.rest res) (QU (s.rest res) (s.rest res)):=by
           refine⟨(ae1 hbound PM.1).1,λb x aa=>?_⟩;refine⟨hbound b x aa,aai (s.rest res) x,by rw[ad7,aa];rfl,?_⟩;cases x with
           | box cs=>
            have wk:=(Ot b _ aa).2;simp only[Lh,qx]at wk;exact .box (ab2 hbound wk).1
           | arr ty l=>exact .arr ty l
           | rows sz l=>have wk:=(Ot b _ aa).2;simp[Lh]at wk
           | set ks=>exact .set ks
           | buf E s=>exact .buf E s
           | h4 E c=>have wk:=(Ot b _ aa).2;exact .h4 (ab9 hbound (by simpa[Lh]using wk)).1
           | k6=>have wk:=(Ot b _ aa).2;simp[Lh]at wk
          have q6:s.D'.length<=([]:List Nat).length+16:=by simpa using ON
          have RZ:=ni.anK (key:=key) (bs:=[]) ade (by simp) q6 h.HS rfl UC.2;have ajc:=h3.h6 (key:=key) (bs:=[]) (J:=J) ade (by simp) q6 h.HS UC.1;have anP:=ait (key:=key) (bs:=[]) (Jr:=s.rest res) ade (by simp) h.HS rfl;rw[awH]at ajc;rw[as5]at RZ
          refine⟨_,(MP (s.rest res) (s.res res)).hp key,_,Ta J1 key (QU (s.rest res) (s.rest res)),hk,.own c7 a8 qJ b1 (b3 (by rw[qJ];rfl)) aJV ON aaC an6 rfl,?_⟩;have:=C0.bind (gd:=o.guard) (dst:=o.dst) (nf:=nf) (h.L1.mono anP) h.a8 RZ h.g' ajc (.inl qJ) c6 E';rw[qJ]at this ⊢;exact this
        . cases hk
      . cases a7
    . cases a7
theorem as6 :∀{args:List dJ} {p:Prop} {vs1:List V},MF env1 args=some (p,vs1)->RQ env1 args=vs1.flatMap V.JY
 | [],p,vs1,h=>by simp[MF]at h;rw[h.2];rfl
 | x::xs,p,vs1,h=>by
  simp only[MF,ha,fr,hy]at h;obtain⟨⟨MN,v0⟩,h1,⟨Ql,SO⟩,ah,_,rfl⟩:=h;have ih:=as6 (p:=Ql) (vs1:=SO) ah;simp only[RQ,V5]at ih ⊢;rw[h1,ih]
theorem avu{N:Nat}{h2:fJ U}{x:ga U}{d:C}(h:j' N h2 x d):∀b,b∈x.JY->b∈d.JY:=by
 intro b ai;cases h <;> simp only[ga.JY,C.JY]at ai ⊢ <;> first | exact ai | (simp at ai)
theorem avG{N:Nat}{h2:fJ U}:∀{xs:List (ga U)} {ds:List C},ez (j' N h2) xs ds->∀b,b∈xs.flatMap ga.JY->b∈ds.flatMap C.JY
 | [],[],_,b,ai=>ai
 | x::xs,d::ds,.cons h1 ah,b,ai=>by
  simp only[V5,Nx]at ai ⊢;rcases ai with ai | ai
  . exact .inl (avu h1 b ai)
  . exact .inr (avG ah b ai)
theorem aHm{N:Nat}{h2:fJ U}{x:hr U}{d:V}(h:h3 N h2 x d):∀b,b∈x.JY->b∈d.JY:=by
 intro b ai;cases h with
 | c h=>exact avu h b ai
 | agg h=>exact avG h b ai
 | fz=>simp[hr.JY]at ai
theorem avH{N:Nat}{h2:fJ U}:∀{xs:List (hr U)} {ds:List V},ez (h3 N h2) xs ds->∀b,b∈xs.flatMap hr.JY->b∈ds.flatMap V.JY
 | [],[],_,b,ai=>ai
 | x::xs,d::ds,.cons h1 ah,b,ai=>by
  simp only[V5,Nx]at ai ⊢;rcases ai with ai | ai
  . exact .inl (aHm h1 b ai)
  . exact .inr (avH ah b ai)
theorem avI{l:List Nat}{b:Nat}(h:Tu l b=true):b∈l:=by
 simp only[Tu,ac']at h;simp_all
theorem ak' {fo:KR U} (n1:JW P fo) {o:h7} {f:Nat} {args:List dJ} (c7:o.op= .call f args) (h:C0 key gl nf env J env1 J1 G) (NX:o.guard=none \/ ∃t b y,o.guard=some (t,b) /\ Jl env t b=some y) (c6:U5 gl o.guard o.dst=true) (E':QJ nf o.dst=true)
 (F':lJ env G o.guard=true) {k:fJ U->hr U->Option R} {r:R}:∀{ss:List (nc U)},(∀s,s∈ss->s∈fo f)->abJ xb (λe=>Qv gl o.guard e args) env J key k ss=some r->
 ∃v v1 J' gC,k J' v=some r/\DStep xb P o key env1 J1 true v1 gC/\C0 (key+16) (Nq gl o.guard o.dst) nf (KJ o.dst v env) J' (zt env1 o.dst true v1) gC (λi=>if o.dst=some i then true else G i)
 | [],_,aa=>by simp[abJ]at aa
 | s::ss,hm,aa=>by
  simp only[abJ]at aa;split at aa
  . exact ak' n1 c7 h NX c6 E' F' (λs hs=>hm s (by simp[hs])) aa
  . rename_i bs ak a7;obtain⟨aaG,afF,aaI⟩:=n1 f s (hm s (by simp));obtain⟨res,hres,hk⟩:=aaX.1 aa;unfold ayl at a7;split at a7
    . cases a7
    . rename_i vs x0;split at a7;rename_i azw Oh _;split at a7
      . cases a7
      . rename_i ai;simp only[kc,qx]at ai;obtain⟨_,J4,JE,aax,anT,aJP⟩:=ai;split at a7
        . rename_i a b ch NU;split at a7
          . rename_i YR an7;cases a7;have hM:=aev J4;have ey:∀b,b∈bs->b < key:=λb ai=>NI (JE b ai).1
            have hlen:=f7 aax;have hle:=NI anT;have q6:=NI aJP;obtain⟨p,vs1,b1,b2,b3⟩:=Zw h.L1 h.a8 x0;have LP:=aeJ hM NU;obtain⟨ys,f1,aJ,g1⟩:=acr (N:=key) hM LP ch
            obtain⟨ye,e',hf,te⟩:=g1 vs1 b2.length (λi x d aa a6=>by
             obtain⟨vn,h1,ah⟩:=b2.get aa
             grind)
            obtain⟨apC,t1,t2⟩:=aiE hM h.HS NU;have Tz:d'.cells U.D s.ts ak=a++b:=d'.JD an7;have M1:s.args ak=ys:=by unfold nc.args;rw[Tz,f1]
            have Uz:s.Oc ak=Ln 0 s.st b:=by unfold nc.Oc;rw[Tz,f1]
            have NV:=aaI ak res hres ye apC (by
             rw[M1,Uz,<-hlen]
             exact ez.SI (by rw[aJ,e',b2.length]) λi x d aa a6=>te i x d aa a6) (by rw[Uz,<-hlen];exact t2)
            rw[aaG,<-hlen]at NV;have JQ:ez KZ (vs1.map (V.hD bs)) ye:=by
             refine ez.SI (by simp[e']) λi d vn a6 JF=>?_
             grind
            have afH:=yq.conv JQ t1 NV
            split at hk
            . rename_i c PM ay;simp only[kc]at PM;split at hk
              . rename_i afJ;subst afJ
                have Ot:∀b x,er (s.rest res) b=some x->Lh (s.rest res) x=true:=by
                 intro b x aa;have Si:∀{l:fJ U},er l b=some x->(b,x)∈l:=by
                  intro l
                  induction l with
                  | nil=>intro h;simp[er]at h
                  | cons e r ih=>
                   obtain⟨ix,e⟩:=e;intro h;simp only[er]at h;split at h
                   . simp_all
                   grind
                 have:=PM.2;unfold al5 at this
                 grind
                have hbound:∀b x,er (s.rest res) b=some x->b < s.D'.length:=by
                 intro b x aa;have:=(ah5 aa).2;omega
                have an6:yq P f (vs1.map (V.hD bs)) (m5 bs J1 0 bs) bs.length (λI' XO Zs=>I'=MP (s.rest res) (s.res res)/\XO=QU (s.rest res) (s.rest res)/\Zs=s.D'.length):=by
                 refine yq.tidy afH ?_
                 rintro kJ s1 RJ ⟨rfl,y0,t'⟩
                 have Xx:=avF y0 PM.1;subst Xx;refine⟨List.range s.D'.length,_,_,aph,?_,?_,?_,rfl,rfl,by simp⟩
                 . unfold keeps
                   grind
                 . exact(ae1 hbound PM.1).2
                 . intro b x aa;rw[ad7,fr]at aa;obtain⟨b7,JI,rfl⟩:=aa;obtain⟨h1,y,ah,bJ⟩:=t' b b7 JI;have b8:=avt bJ (Ot b b7 JI);subst b8;have ht:=aeu (bs:=List.range s.D'.length) (i:=0) (j:=b) (r:=List.range s.D'.length) (by simp[h1]) ah;rw[Jq]at ht;refine⟨_,ht,?_⟩;cases b7 with
                   | box cs=>
                    have wk:=Ot b _ JI;simp only[Lh,qx]at wk;exact .box (ab2 hbound wk).2
                   | arr ty l=>exact .arr
                   | rows sz l=>have wk:=Ot b _ JI;simp[Lh]at wk
                   | set ks=>exact .same
                   | buf E s=>exact .same
                   | h4 E c=>have wk:=Ot b _ JI;exact .h4 (ab9 hbound (by simpa[Lh]using wk)).2
                   | k6=>have wk:=Ot b _ JI;simp[Lh]at wk
                have P8:=air h.L1 NX;have aaC:(QU (s.rest res) (s.rest res)).all (λx=>decide (x.1 < bs.length+16))=true:=by
                 have aob:=PM.2;unfold al5 at aob;have:∀{l:fJ U},(l.all λp=>Nat.ble (p.1+1) (bs.length+16) && Lh (s.rest res) p.2)=true->(QU (s.rest res) l).all (λx=>decide (x.1 < bs.length+16))=true:=by
                  intro l
                  induction l with
                  | nil=>intro _;rfl
                  | cons e r ih=>
                   obtain⟨b,x⟩:=e;intro h;simp only[V6,kc]at h;simp only[QU,V6,kc,I2];exact⟨by have:=NI h.1.1;omega,ih h.2⟩
                 grind
                have UC:h3 s.D'.length (s.rest res) (s.res res) (MP (s.rest res) (s.res res))/\ni s.D'.length (s.rest res) (QU (s.rest res) (s.rest res)):=by
                 refine⟨(ae1 hbound PM.1).1,λb x aa=>?_⟩;refine⟨hbound b x aa,aai (s.rest res) x,by rw[ad7,aa];rfl,?_⟩;cases x with
                 | box cs=>
                  have wk:=Ot b _ aa;simp only[Lh,qx]at wk;exact .box (ab2 hbound wk).1
                 | arr ty l=>exact .arr ty l
                 | rows sz l=>have wk:=Ot b _ aa;simp[Lh]at wk
                 | set ks=>exact .set ks
                 | buf E s=>exact .buf E s
                 | h4 E c=>have wk:=Ot b _ aa;exact .h4 (ab9 hbound (by simpa[Lh]using wk)).1
                 | k6=>have wk:=Ot b _ aa;simp[Lh]at wk
                have RZ:=ni.anK (key:=key) (bs:=bs) hM ey q6 h.HS ay UC.2;have ajc:=h3.h6 (key:=key) (bs:=bs) (J:=J) hM ey q6 h.HS UC.1;have anP:=ait (key:=key) (bs:=bs) (Jr:=s.rest res) hM ey h.HS ay;have tw:∀b,b∈bs->∃x,ec J1 b=some x:=by
                 intro b ai;have bJ:=(JE b ai).2.2;unfold hasB at bJ;split at bJ
                 . rename_i x aa;obtain⟨_,y,b8,_⟩:=h.HS b x aa
                   grind
                 . cases bJ
                have aKY:∀b,b∈bs->b∈RQ env1 args++xb:=by
                 intro b ai;rw[as6 b1];have ee:=(JE b ai).2.1;rw[OT]at ee;rcases ee with ee | ee
                 . exact List.mem_append_left _ (avH b2 b (avI ee))
                 . exact List.mem_append_right _ (avI ee)
                refine⟨_,(MP (s.rest res) (s.res res)).h6 (back bs key),_,_,hk,.raw c7 (by rw[P8,F']) rfl b1 (b3 F') hM ey tw aKY q6 aaC an6 rfl,?_⟩;have:=C0.bind (gd:=o.guard) (dst:=o.dst) (nf:=nf) (h.L1.mono anP) h.a8 RZ h.g' ajc NX c6 E';simp_all
              . cases hk
            . cases hk
          . cases a7
        . cases a7
theorem akR {fo:KR U} (n1:JW P fo) {o:h7} {f:Nat} {args:List dJ} (c7:o.op= .call f args \/ (o.guard=none /\ ∃x q,o.op= .Oe x args /\ x.get env1=some (q,.c (.fn f [])) /\ q)) (h:C0 key gl nf env J env1 J1 G) (NX:o.guard=none \/ ∃t b y,o.guard=some (t,b) /\ Jl env t b=some y) (c6:U5 gl o.guard o.dst=true) (E':QJ nf o.dst=true)
 {g:Bool} (a8:g=lJ env G o.guard) {k:hr U->Option R} {r:R}:∀{ss:List (nc U)},(∀s,s∈ss->s∈fo f)->adw (λe=>Qv gl o.guard e args) env g k ss=some r->
 ∃v v1,k v=some r/\DStep xb P o key env1 J1 g v1 J1/\C0 (key+16) (Nq gl o.guard o.dst) nf (KJ o.dst v env) J (zt env1 o.dst g v1) J1 (λi=>if o.dst=some i then g else G i)
 | [],_,aa=>by simp[adw]at aa
 | s::ss,hm,aa=>by
  simp only[adw]at aa;split at aa
  . exact akR n1 c7 h NX c6 E' a8 (λs hs=>hm s (by simp[hs])) aa
  . rename_i ak a7;unfold apv at a7;split at a7
    . rename_i vs M3 x0;simp only[kc]at M3;split at a7
      . rename_i a aaJ ch;rw[qx]at aaJ;obtain⟨aaG,afF,aaI⟩:=n1 f s (hm s (by simp));obtain⟨p,vs1,b1,b2,b3⟩:=Zw h.L1 h.a8 x0;have n2:s.st=[]:=by cases n2:s.st with | nil=>rfl | cons=>rw[n2]at M3;simp[isNil]at M3
        have aNe:s.D'=[]:=by cases n2:s.D' with | nil=>rfl | cons=>rw[n2]at M3;simp[isNil]at M3
        obtain⟨res,hres,hk⟩:=aaX.1 aa;split at hk
        . rename_i PM;obtain⟨VW,acV⟩:=ab8 (N:=key+16) (J:=J) PM;have P8:=air h.L1 NX;rw[<-a8]at P8;have aJH:C0 (key+16) (Nq gl o.guard o.dst) nf (KJ o.dst (s.res res) env) J (zt env1 o.dst g (Jd (s.res res))) J1 (λi=>if o.dst=some i then g else G i):=by
           have:=C0.bind (dst:=o.dst) (h.L1.mono (rm.more (by omega:key<=key+16))) h.a8 (h.HS.mono (Nat.le_add_right key 16)) h.g' VW NX c6 E'
           grind
          refine⟨s.res res,Jd (s.res res),hk,?_,aJH⟩;have axk:g=true->p/\V.cx.V.u' (lt 0) vs1=true/\(Jd (s.res res)).cx (lt 0)=true/\yq P f vs1 [] 0 (λI' _ _=>I'=Jd (s.res res)):=?_
          . rcases c7 with c7 | ⟨qJ,x,q,c7,aa,ee⟩
            . exact .call c7 P8 b1 axk
            . have F':g=true:=by rw[a8,qJ];rfl
              exact .Oe c7 qJ F' aa ee afF b1 (axk F')
          intro F';rw[b6 F']at hres
          obtain⟨ys,f1,aJ,g1⟩:=acr (N:=key) (Jc:=([]:fJ U)) (ade) (λj b hQ dx=>by simp at dx) ch
          obtain⟨ye,e',hf,te⟩:=g1 vs1 b2.length (λi x d aa a6=>by
           obtain⟨vn,h1,ah⟩:=b2.get aa
           rw[a6]at h1;cases h1;exact ah)
          have Tz:d'.cells U.D s.ts ak=a:=d'.JD a7;have M1:s.args ak=ys:=by
           unfold nc.args;rw[Tz];have:=f1 []
           grind
          have Uz:s.Oc ak=[]:=by unfold nc.Oc;rw[n2];rfl
          have aaD:s.st.length=0:=by rw[n2];rfl
          have NV:=aaI ak res hres ye [] (by
           rw[M1,Uz,aaD]
           refine ez.SI (by rw[aJ,e',b2.length]) λi x d aa a6=>te i x d aa a6) (by rw[Uz];intro b x aa;simp[er]at aa)
          rw[aaG,aaD]at NV;have JQ:ez KZ vs1 ye:=by
           refine ez.SI e'.symm λi d vn a6 JF=>?_
           have x0:=hf i d vn a6 JF;obtain⟨x,aa,ar⟩:=(b2.flip (R':=λd x=>h3 key J x d) λ_ _ h=>h).get a6
           exact aLE (aaJ x (DJ aa)) x0 ar
          refine⟨b3 (by rw[<-a8];exact F'),?_,acV _,?_⟩
          . refine ZX λi d a6=>?_
            obtain⟨x,aa,ar⟩:=(b2.flip (R':=λd x=>h3 key J x d) λ_ _ h=>h).get a6;exact aLF (aaJ x (DJ aa)) ar
          . refine yq.conv JQ (λb hQ aa=>by simp[ec]at aa) (NV.mono λkJ gC N' YR=>?_)
            exact ae0 YR.2.1 PM
        . cases hk
      . cases a7
    . cases a7
where
 aLE {x:hr U} {d vn:V} (hs:JS x=true) (x0:KZ (d.hD []) vn) (ar:h3 key J x d):KZ d vn:=by
  have:=ae0 ar hs;subst this;rw[amA hs]at x0;exact x0
 aLF {x:hr U} {d:V} (hs:JS x=true) (ar:h3 key J x d):d.cx (lt 0)=true:=by
  have:=ae0 ar hs;subst this;exact(ab8 (N:=key) (J:=J) hs).2 _
theorem ain {fo:KR U} (n1:JW P fo) {f:Nat} {getv:Rq U} {cal:Env -> List V -> Prop}
 (axi:∀{env':hN U} {J2:fJ U} {kn:Env} {vs:List (hr U)},py key J2 G env' kn->LY gl env' G->getv env'=some vs->∃vs1,ez (h3 key J2) vs vs1/\cal kn vs1)
 (he:py key J G env env1) (a8:LY gl env G) (c8:ni key J J1) {k:hN U->fJ U->hr U->Option R} {r:R}:∀{ss:List (nc U)},(∀s,s∈ss->s∈fo f)->adx getv env J key k ss=some r->
 ∃env' J2 kn gC vs1,Conv kk key env1 J1 key kn gC/\py key J2 G env' kn/\LY gl env' G/\(∀t b,Jl env' t b=Jl env t b)/\cal kn vs1/\Nb P f=true/\
  awG P f vs1 gC key kn (λkJ s1=>∃SQ v,k env' SQ v=some r/\py (key+16) SQ G env' kn/\ni (key+16) SQ s1/\h3 (key+16) SQ v kJ)
 | [],_,aa=>by simp[adx]at aa
 | s::ss,hm,aa=>by
  simp only[adx]at aa;split at aa
  . exact ain n1 axi he a8 c8 (λs hs=>hm s (by simp[hs])) aa
  . rename_i env' J2 bs h a7;obtain⟨aaG,afF,aaI⟩:=n1 f s (hm s (by simp));obtain⟨res,hres,hk⟩:=aaX.1 aa;unfold ayk at a7;split at a7
    . cases a7
    . rename_i SO _;split at a7;rename_i azw Oh _;split at a7
      . cases a7
      . rename_i aA6 aMS YP;split at a7
        . cases a7
        . rename_i vs x0;split at a7
          . cases a7
          . rename_i ai;simp only[kc,qx]at ai;obtain⟨J4,JE,aax,anT⟩:=ai;split at a7
            . rename_i a b ch NU;split at a7
              . rename_i ak an7;cases a7;have hM:=aev J4;have ey:∀b,b∈bs->b < key:=λb ai=>NI (JE b ai)
                have hlen:=f7 aax;have aKT:=NI anT;obtain⟨kn,gC,afI,Jx,RZ,afN⟩:=aed (kk:=kk) (gl:=gl) YP he c8;obtain⟨vs1,b2,an2⟩:=axi Jx (afN a8) x0;have LP:=aeJ hM NU;obtain⟨ys,f1,aJ,g1⟩:=acr (N:=key) hM LP ch
                obtain⟨ye,e',hf,te⟩:=g1 vs1 b2.length (λi x d aa a6=>by
                 obtain⟨vn,h1,ah⟩:=b2.get aa
                 grind)
                obtain⟨apC,t1,t2⟩:=aiE hM RZ NU;have Tz:d'.cells U.D s.ts h=a++b:=d'.JD an7;have M1:s.args h=ys:=by unfold nc.args;rw[Tz,f1]
                have Uz:s.Oc h=Ln 0 s.st b:=by unfold nc.Oc;rw[Tz,f1]
                have NV:=aaI h res hres ye apC (by
                 rw[M1,Uz,<-hlen]
                 exact ez.SI (by rw[aJ,e',b2.length]) λi x d aa a6=>te i x d aa a6) (by rw[Uz,<-hlen];exact t2)
                rw[aaG,<-hlen]at NV;have JQ:ez KZ (vs1.map (V.hD bs)) ye:=by
                 refine ez.SI (by simp[e']) λi d vn a6 JF=>?_
                 grind
                have afH:=yq.conv JQ t1 NV
                split at hk
                . cases hk
                . rename_i c ay;split at hk
                  . rename_i afJ;subst afJ;have q6:s.D'.length<=bs.length+16:=aKT;refine⟨env',J2,kn,gC,vs1,afI,Jx,afN a8,λt b=>atG YP,an2,afF,?_⟩;intro cv nt φ S a w R K3 UU TE
                    refine(MV.raw (n:=lt key) (key:=key) hM ey afH (K:=λkJ s1=>∃SQ v,k env' SQ v=some r/\py (key+16) SQ G env' kn/\ni (key+16) SQ s1/\h3 (key+16) SQ v kJ) ?_ (λb ai=>by simp[lt];exact ey b ai) cv nt φ S kn a w R (λb h1 _=>amx h1) K3 UU TE)
                    rintro kJ s1 N' ⟨rfl,y0,t'⟩
                    refine⟨q6,_,_,hk,Jx.mono (ait hM ey RZ ay),ni.anK hM ey q6 RZ ay t',h3.h6 hM ey q6 RZ y0⟩
                  . cases hk
              . cases a7
            . cases a7
where
 atH {env:hN U} {b0:Nat} {ty:c9} {l:List (ty.den U.D)} {t:Nat} {b:Bool}:Jl (Zm b0 (⟨.slice ty,l⟩:Cell U.D) env) t b=Jl env t b:=by
  unfold Jl;rw[ah3];cases er env t with
  | none=>rfl
  | some v=>
   cases v with
   | c x=>
    cases x with
    | arr hj=>simp only[La,hr.j0,ga.j0];cases Nat.beq hj b0 <;> rfl
    | mx hj XR i o=>simp only[La,hr.j0,ga.j0];cases Nat.beq hj b0 <;> rfl
    | pre hj h=>simp only[La,hr.j0,ga.j0];cases Nat.beq hj b0 <;> rfl
    | Ly hj f' h=>simp only[La,hr.j0,ga.j0];cases Nat.beq hj b0 <;> rfl
    | _=>rfl
   | agg cs=>rfl
   | fz vs=>rfl
 atG {l:List (Nat×c9)} {env env':hN U} {J J':fJ U} {t:Nat} {b:Bool} (h:Rk l env J=some (env',J')):Jl env' t b=Jl env t b:=by
  induction l generalizing env J with
  | nil=>simp[Rk]at h;rw[h.1]
  | cons p l ih=>
   obtain⟨c,ty⟩:=p;simp only[Rk]at h;split at h
   . rename_i e s h1;have ah:Jl e t b=Jl env t b:=by
      unfold ag6 at h1;split at h1
      . split at h1
        . cases h1;exact atH
        . cases h1
      . split at h1
        . cases h1;exact atH
        . cases h1
      . cases h1;rfl
     rw[ih h,ah]
   . cases h
theorem as7{fo:KR U}(n1:JW P fo){o:h7}(h:C0 key gl nf env J env1 J1 G){k:A' -> P1 -> hN U -> fJ U -> Option R}{r:R}(aa:Zp fo (some xb) o key gl nf env J k=some r):
 ∃g v1 gC NT OS env' J' PW,DStep xb P o key env1 J1 g v1 gC/\k NT OS env' J'=some r/\C0 (key+16) NT OS env' J' (zt env1 o.dst g v1) gC PW:=by
 unfold Zp at aa;split at aa
 . cases aa
 . rename_i acI;simp only[kc]at acI;obtain⟨c6,E'⟩:=acI;split at aa
   . rename_i tr;split at aa
     . rename_i g0 aay;have aKi:=asP h.a8 h.g' tr;obtain⟨h1,ah⟩:=aiu (P:=P) h (aic aay) aKi c6 E' (WP (U:=U) (N:=key+16) (J:=J));exact⟨_,_,_,_,_,_,_,_,h1,aa,ah⟩
     . cases aa
   . split at aa
     . rename_i f args c7;split at aa
       . rename_i Oq;split at aa
         . rename_i g gd a8 qJ;have NX:o.guard=none\/∃t b y,o.guard=some (t,b)/\Jl env t b=some y:=by rw[qJ];rw[qJ]at a8;exact aic a8
           have OQ:g=lJ env G o.guard:=ail h.a8 a8;split at aa
           . rename_i F';obtain⟨v,v1,J',gC,h1,ah,bJ⟩:=ak' (fo:=fo) n1 c7 h NX c6 E' (by rw[<-OQ];exact F') (k:=λJ v=>k (Nq gl o.guard o.dst) nf (KJ o.dst v env) J) (λs hs=>hs) aa;exact⟨_,_,_,_,_,_,_,_,ah,h1,bJ⟩
           . rename_i F';have Xp:lJ env G o.guard=false:=by rw[<-OQ];simpa using F'
             have vc:C0 key gl (gd::nf) env J env1 J1 G:=⟨h.L1,h.a8,h.HS,λg0 aay=>by
              rcases LU.1 aay with rfl | hm
              . grind
              . exact h.g' g0 hm⟩
             have an9:QJ (gd::nf) o.dst=true:=by
              cases a6:o.dst with
              | none=>rfl
              | some d=>
               rw[a6]at E' c6;rw[qJ]at c6;simp only[QJ,V6,kc];simp only[QJ]at E';simp only[U5,kc]at c6
               grind
             obtain⟨h1,ah⟩:=aiu (P:=P) vc NX Xp c6 an9 (WP (U:=U) (N:=key+16) (J:=J));exact⟨_,_,_,_,_,_,_,_,h1,aa,ah⟩
         . cases aa
       unfold apV at aa;split at aa
       . rename_i qJ;simp only at aa;split at aa
         case h_2=>
          obtain⟨v,v1,J',gC,h1,ah,bJ⟩:=ak' (fo:=fo) n1 c7 h (.inl qJ) c6 E' (by rw[qJ];rfl) (k:=λJ v=>k (Nq gl o.guard o.dst) nf (KJ o.dst v env) J) (λs hs=>hs) aa;exact⟨_,_,_,_,_,_,_,_,ah,h1,bJ⟩
         rw[qJ]at aa;obtain⟨v,v1,J',gC,h1,ah,bJ⟩:=arF (fo:=fo) n1 c7 h qJ c6 E' (k:=λJ v=>k (Nq gl o.guard o.dst) nf (KJ o.dst v env) J) (λs hs=>hs) (by rw[qJ];exact aa);exact⟨_,_,_,_,_,_,_,_,ah,h1,bJ⟩
       . rename_i gd qJ;split at aa
         . rename_i g a8;rw[qJ]at aa a8;obtain⟨v,v1,h1,ah,bJ⟩:=akR (fo:=fo) n1 (.inl c7) h (by rw[qJ];exact aic a8) c6 E' (g:=g) (by rw[qJ];exact ail h.a8 a8) (λs hs=>hs) (by rw[qJ];exact aa);rw[qJ]at bJ;exact⟨_,_,_,_,_,_,_,_,ah,h1,bJ⟩
         . cases aa
     . rename_i x args c7;split at aa
       . contradiction
       . rename_i aNB f a6 qJ Jo;obtain⟨q,v1,a1,a2,a3⟩:=k2 h.L1 h.a8 Jo;have:=a2.anJ;subst this;obtain⟨v,v1,h1,ah,bJ⟩:=akR (xb:=xb) (fo:=fo) n1 (.inr ⟨qJ,x,q,c7,a1,a3 rfl⟩) h (.inl qJ) c6 E' (g:=true) (by rw[qJ];rfl) (λs hs=>hs) (by rw[qJ];exact aa);rw[qJ]at bJ;exact⟨_,_,_,_,_,_,_,_,ah,h1,bJ⟩
       . cases aa
     . rename_i op axu axv;split at aa
       . cases aa
       . rename_i c v J' cJ;split at aa
         . rename_i qJ;split at aa
           . rename_i ay;rw[qJ]at cJ;obtain⟨v1,gC,h1,ah⟩:=(avs (P:=P) (o:=o) h (by rw[qJ];exact cJ) (.inl qJ) c6 E').1 (by rw[qJ];rfl) ay;rw[qJ]at ah;exact⟨_,_,_,_,_,_,_,_,h1,aa,ah⟩
           . cases aa
         . rename_i gd qJ;split at aa
           . cases aa
           . rename_i g a8;have NX:o.guard=none\/∃t b y,o.guard=some (t,b)/\Jl env t b=some y:=by rw[qJ];exact aic a8
             have OQ:g=lJ env G o.guard:=by rw[qJ];exact ail h.a8 a8
             have qb:=avs (P:=P) (o:=o) (xb:=xb) h cJ NX c6 E';split at aa
             . rename_i PK;split at aa
               . rename_i an4;cases axh:g with
                 | true=>
                  rw[axh]at an4 OQ;simp at an4;obtain⟨v1,gC,h1,ah⟩:=qb.1 OQ.symm an4;have kx:J'=J:=(arw h.L1 h.a8 h.HS cJ).aLD PK;rw[kx]at ah;exact⟨_,_,_,_,_,_,_,_,h1,aa,ah⟩
                 | false=>
                  rw[axh]at OQ;obtain⟨v1,h1,ah⟩:=qb.2 OQ.symm PK;exact⟨_,_,_,_,_,_,_,_,h1,aa,ah⟩
               . cases aa
             . split at aa
               . rename_i F';split at aa
                 . rename_i ay;obtain⟨v1,gC,h1,ah⟩:=qb.1 (by rw[<-OQ];exact F') ay;exact⟨_,_,_,_,_,_,_,_,h1,aa,ah⟩
                 . cases aa
               . rename_i F';have Xp:lJ env G o.guard=false:=by rw[<-OQ];simpa using F'
                 have vc:C0 key gl (gd::nf) env J env1 J1 G:=⟨h.L1,h.a8,h.HS,λg0 aay=>by
                  rcases LU.1 aay with rfl | hm
                  . grind
                  . exact h.g' g0 hm⟩
                 have an9:QJ (gd::nf) o.dst=true:=by
                  cases a6:o.dst with
                  | none=>rfl
                  | some d=>
                   rw[a6]at E' c6;rw[qJ]at c6;simp only[QJ,V6,kc];simp only[QJ]at E';simp only[U5,kc]at c6
                   grind
                 obtain⟨h1,ah⟩:=aiu (P:=P) vc NX Xp c6 an9 (WP (U:=U) (N:=key+16) (J:=J));exact⟨_,_,_,_,_,_,_,_,h1,aa,ah⟩
theorem arG {fo:KR U} (n1:JW P fo) {o:h7} (h:C0 key gl nf env J env1 J1 G) {k:A' -> P1 -> hN U -> fJ U -> Option R} {r:R} (aa:Zp fo none o key gl nf env J k=some r) {K:Env -> ep -> Prop}
 (ns:∀NT OS env' J' kn gC PW,k NT OS env' J'=some r->C0 (key+16) NT OS env' J' kn gC PW->K kn gC):
 ∃JZ h2,Conv kk key env1 J1 key JZ h2/\acs P o key JZ h2 K:=by
 by_cases Oq:Zp fo (some []) o key gl nf env J k=some r
 . obtain⟨g,v1,gC,NT,OS,env',J',PW,h1,ah,bJ⟩:=as7 n1 h Oq;exact⟨env1,J1,Conv.refl,.inl (h1.MC (ns _ _ _ _ _ _ _ ah bJ))⟩
 . unfold Zp at aa Oq;split at aa
   . cases aa
   . rename_i acI;rw[acI]at Oq;simp only at Oq;simp only[kc]at acI;obtain⟨c6,E'⟩:=acI;split at aa
     . rename_i tr;rw[tr]at Oq;exact absurd aa Oq
     . rename_i tr;rw[tr]at Oq;simp only at Oq;split at aa
       . rename_i f args c7;rw[c7]at Oq;simp only at Oq;split at aa
         . rename_i aoz;rw[aoz]at Oq;exact absurd aa Oq
         rename_i aoz;rw[aoz]at Oq;simp only at Oq;unfold apV at aa Oq;split at aa
         . rename_i qJ;simp only at aa;rw[qJ]at aa;obtain⟨env',J2,kn,gC,vs1,h5,js,yt,Np,⟨p,xJ,vt⟩,ai,uJ⟩:=ain (kk:=kk) (P:=P) n1 (f:=f) (getv:=λe=>Qv gl none e args) (cal:=λe vs=>∃p,MF e args=some (p,vs)/\p)
            (λhe a8 cJ=>by
             obtain⟨p,vs1,b1,b2,b3⟩:=Zw he a8 cJ
             exact⟨vs1,b2,p,b1,b3 rfl⟩) h.L1 h.a8 h.HS (λs hs=>hs) aa
           refine⟨kn,gC,h5,.inr ⟨by rw[qJ];rfl,f,vs1,.inl ⟨args,p,c7,xJ,vt⟩,?_⟩⟩;intro cv nt φ S a w Jw K3 UU TE;refine(uJ cv nt φ S a w Jw K3 UU TE).mono ?_
           rintro e w' ⟨v,kJ,hn,hK,s1,rfl,⟨SQ,v3,hg,hl,j2,px⟩,y0,t',SL⟩
           refine⟨v,kJ,hn,hK,s1,rfl,?_,y0,t',SL⟩
           have anX:=C0.bind (gd:=none) (dst:=o.dst) (nf:=nf) hl yt j2 (λg a8=>by
            obtain⟨t,b⟩:=g;have h0:=h.g' _ a8;simp only[lJ]at h0 ⊢
            grind) px (.inl rfl) (by rw[qJ]at c6;exact c6) E'
           exact ns _ _ _ _ _ _ _ hg anX
         . rename_i gd qJ;rw[qJ]at Oq aa;exact absurd aa Oq
       . rename_i x args c7;split at aa
         . rename_i f caps a6 qJ Jo
           obtain⟨env',J2,kn,gC,vs1,h5,js,yt,Np,⟨q,p,Uo,SO,aKO,aow,xJ,vt,Xv⟩,ai,uJ⟩:=ain (kk:=kk) (P:=P) n1 (f:=f) (getv:=λe=>match q3 gl none e x,Qv gl none e args with
            | some (.c (.fn aau Uo)),some vs=>match Nat.beq aau f with
             | true=>some (vs++Uo.map λb=>.c (.ptr b 0))
             | false=>none
            | _, _ => none) (cal :=λe vs => ∃ q p Uo SO, x.get e = some (q, .c (.fn f Uo)) /\ q /\ MF e args = some (p, SO) /\ p /\ vs = SO ++ Uo.map λb => V.c (.ptr b 0))
            (λhe a8 cJ=>by
             split at cJ
             . rename_i aau Uo SN e' hf;split at cJ
               . rename_i aKj;have:=f7 aKj;subst this;cases cJ;obtain⟨q,v1,a1,a2,a3⟩:=k2 he a8 e';have:=a2.anJ;subst this;obtain⟨p,vs1,b1,b2,b3⟩:=Zw he a8 hf;refine⟨vs1++Uo.map λb=>V.c (.ptr b 0),b2.append ?_,q,p,Uo,vs1,a1,a3 rfl,b1,b3 rfl,rfl⟩
                 exact ez.map_map (ez.self (R:=λa b=>h3 key _ (.c (.ptr a 0)) (.c (.ptr b 0))) (λb=>.c (.ptr b 0)) _)
               . cases cJ
             grind) h.L1 h.a8 h.HS (λs hs=>hs) aa
           refine⟨kn,gC,h5,.inr ⟨by rw[qJ];rfl,f,vs1,.inr ⟨x,args,q,p,Uo,SO,c7,aKO,aow,xJ,vt,ai,Xv⟩,?_⟩⟩;intro cv nt φ S a w Jw K3 UU TE;refine(uJ cv nt φ S a w Jw K3 UU TE).mono ?_
           rintro e w' ⟨v,kJ,hn,hK,s1,rfl,⟨SQ,v3,hg,hl,j2,px⟩,y0,t',SL⟩
           refine⟨v,kJ,hn,hK,s1,rfl,?_,y0,t',SL⟩
           have anX:=C0.bind (gd:=none) (dst:=o.dst) (nf:=nf) hl yt j2 (λg a8=>by
            obtain⟨t,b⟩:=g;have h0:=h.g' _ a8;simp only[lJ]at h0 ⊢
            grind) px (.inl rfl) (by rw[qJ]at c6;exact c6) E'
           exact ns _ _ _ _ _ _ _ hg anX
         . contradiction
         . cases aa
       . rename_i op axu axv
         exfalso
         refine Oq ?_;split
         . rename_i f args c7;exact absurd c7 (axu f args)
         . rename_i x args c7;exact absurd c7 (axv x args)
         . exact aa
theorem amn{l:List (Nat×c9)}{p:hN U×fJ U}(h:ag7 l env J=some p):∃l,Rk l env J=some p:=by
 unfold ag7 at h
 grind
theorem aFU{o:h7}{p:hN U×fJ U}(h:apt gl o env J=some p):∃l,Rk l env J=some p:=by
 unfold apt at h;split at h
 . grind
 . split at h
   . exact amn h
   . cases h
 . exact amn h
 . exact amn h
 . cases h
theorem aEM {fo:KR U} (n1:JW P fo) {o:h7} (h:C0 key gl nf env J env1 J1 G) {k:A' -> P1 -> hN U -> fJ U -> Option R} {r:R} (aa:aib fo none o key gl nf env J k=some r) {K:Env -> ep -> Prop}
 (ns:∀NT OS env' J' kn gC PW,k NT OS env' J'=some r->C0 (key+16) NT OS env' J' kn gC PW->K kn gC):
 ∃JZ h2,Conv kk key env1 J1 key JZ h2/\acs P o key JZ h2 K:=by
 simp only[aib]at aa;split at aa
 . exact arG n1 h aa ns
 . rename_i p a7;obtain⟨l,aJ⟩:=aFU a7;obtain⟨e',s1,h5,js,yt,Np⟩:=aed (kk:=kk) (gl:=gl) aJ h.L1 h.HS
   obtain⟨hf,s2,d1,d2⟩:=arG (kk:=kk) (P:=P) n1 (⟨js,Np h.a8,yt,λg a8=>by
    obtain⟨t,b⟩:=g;have h0:=h.g' _ a8;simp only[lJ]at h0 ⊢
    rw[ain.atG aJ];exact h0⟩:C0 key gl nf p.1 p.2 e' s1 G) aa ns
   exact⟨hf,s2,h5.trans d1,d2⟩
end
end
section
open Go
variable {xb:List Nat}
variable {U:l1} {R:Type}
def PU(env:hN U):dJ->Option (List Nat)
 | .const (.c (.t _))=>some []
 | .const (.c .eI)=>some []
 | .const (.agg _)=>some []
 | .const _=>none
 | .tmp k=>match er env k with
  | some (.c (.ptr b _))=>some [b]
  | some (.c (.mx b _ _ _))=>some [b]
  | some (.c (.arr b))=>some [b]
  | some (.c (.sub b _ _))=>some [b]
  | some (.c (.pre b _))=>some [b]
  | some (.c (.Ly b _ _))=>some [b]
  | some (.c (.mp b))=>some [b]
  | some (.c (.y2 b))=>some [b]
  | some (.c (.l' b))=>some [b]
  | some (.c .dead)=>none
  | some _=>some []
  | none=>none
def aeM :ga U->Bool
 | .dead=>true
 | _=>false
def aeN :hr U->Option (List Nat)
 | .c x=>match aeM x with
  | true=>none
  | false=>some x.JY
 | .agg cs=>match cs.any aeM with
  | true=>none
  | false=>some (cs.flatMap ga.JY)
 | .fz _=>some []
def Zk(env:hN U):List dJ->Option (List Nat)
 | []=>some []
 | .const v::r=>match Zk env r with
  | some l=>some (v.JY++l)
  | none=>none
 | .tmp k::r=>match er env k with
  | some v=>match aeN v,Zk env r with
   | some a,some l=>some (a++l)
   | _,_=>none
  | none=>none
def ap2(xb:List Nat)(o:m')(env:hN U)(key:Nat):Option (List Nat):=
 match o with
 | .alloc _ | .allocA _ | .box _ | .bslice .. | .mkset=>some [key]
 | .allocS .. =>some [key,key+1]
 | .lkset x _=>PU env x
 | .upset x _=>PU env x
 | .appendB _ _ x _=>match PU env x with
  | some a=>some (key::a)
  | none=>none
 | .ustr _ x _=>PU env x
 | .call _ args=>match Zk env args with
  | some l=>some ((List.range 16).map (key+·)++(l++xb))
  | none=>none
 | .load _ _ x=>PU env x
 | .b2s x=>PU env x
 | .store _ x _=>PU env x
 | .append _ _ x y=>match PU env x,PU env y with
  | some a,some b=>some (key::(a++b))
  | _,_=>none
 | _=>some []
def Qw(xb:List Nat)(o:m')(env:hN U)(key b:Nat):Option Bool:=
 match o with
 | .alloc _ | .allocA _ | .box _ | .bslice .. | .mkset=>some (Nat.beq b key)
 | .allocS .. =>some (Nat.beq b key || Nat.beq b (key+1))
 | .upset x _=>match PU env x with
  | some l=>some (Tu l b)
  | none=>none
 | .appendB _ _ x _=>match PU env x with
  | some l=>some (Nat.beq b key || Tu l b)
  | none=>none
 | .ustr _ x _=>match PU env x with
  | some l=>some (Tu l b)
  | none=>none
 | .store _ x _=>match PU env x with
  | some l=>some (Tu l b)
  | none=>none
 | .append _ _ x _=>match PU env x with
  | some l=>some (Nat.beq b key || Tu l b)
  | none=>none
 | .call _ args=>match Zk env args with
  | some l=>some ((Nat.ble key b && Nat.ble (b+1) (key+16)) || Tu (l++xb) b)
  | none=>none
 | _=>some false
def ag3(xb:List Nat)(ev:List h7)(env:hN U)(N:Nat):List (Nat×Nat)->Bool
 | []=>true
 | (i,j)::r=>(match VO ev i,VO ev j with
  | some x,some y=>match ap2 xb y.op env (N+16*j)with
   | some l=>l.all λb=>match Qw xb x.op env (N+16*i) b with
    | some w=>!w
    | none=>false
   | none=>false
  | _,_=>true) && ag3 xb ev env N r
section
variable {P:Program} {kk N key:Nat} {J:fJ U} {J1:ep} {env:hN U} {env1:Env} {G:Nat->Bool}
theorem Ww(he:py N J G env env1){x:dJ}{l:List Nat}(h:PU env x=some l):yb env1 x=l:=by
 unfold PU at h;split at h
 . cases h;rfl
 . cases h;rfl
 . cases h;rfl
 . cases h
 . rename_i k;split at h
   all_goals (try (cases h;done))
   . rename_i b o hk;cases h;obtain⟨v1,h1,ah⟩:=he k _ hk;have:=ah.M8;subst this;simp[yb,dJ.get,h1]
   . rename_i b t i o hk;cases h;obtain⟨v1,h1,ah⟩:=he k _ hk;have:=ah.OK;subst this;simp[yb,dJ.get,h1]
   . rename_i b hk;cases h;obtain⟨v1,h1,ah⟩:=he k _ hk;obtain⟨sz,n,rfl,_⟩:=ah.MB;simp[yb,dJ.get,h1]
   . rename_i b f' len hk;cases h;obtain⟨v1,h1,ah⟩:=he k _ hk;have:v1= .c (.JK b 1 f' len):=by cases ah with | c h=>cases h;rfl
     subst this;simp[yb,dJ.get,h1]
   . rename_i b aaR hk;cases h;obtain⟨v1,h1,ah⟩:=he k _ hk;have:∃sz,v1= .c (.arr b sz 0 aaR):=by cases ah with | c h=>cases h;exact⟨_,rfl⟩
     obtain⟨sz,rfl⟩:=this;simp[yb,dJ.get,h1]
   . rename_i b f' aaR hk;cases h;obtain⟨v1,h1,ah⟩:=he k _ hk;have:∃sz,v1= .c (.JK b sz f' aaR):=by cases ah with | c h=>cases h;exact⟨_,rfl⟩
     obtain⟨sz,rfl⟩:=this;simp[yb,dJ.get,h1]
   . rename_i b hk;cases h;obtain⟨v1,h1,ah⟩:=he k _ hk;have:=ah.ao1;subst this;simp[yb,dJ.get,h1]
   . rename_i b hk;cases h;obtain⟨v1,h1,ah⟩:=he k _ hk;have:=ah.ayv;subst this;simp[yb,dJ.get,h1]
   . rename_i b hk;cases h;obtain⟨v1,h1,ah⟩:=he k _ hk;obtain⟨n,rfl,_⟩:=ah.aiS;simp[yb,dJ.get,h1]
   . rename_i v Ls K8 Nv ajB aLC n10 n6 n7 n8 Nw hk;cases h;obtain⟨v1,h1,ah⟩:=he k _ hk;unfold yb;simp only[dJ.get,h1,La];cases ah with
     | c ah=>
      cases ah with
      | ptr b o=>exact absurd rfl (Ls b o)
      | mx b t i o=>exact absurd rfl (K8 b t i o)
      | arr b sz n ai ak=>exact absurd rfl (Nv b)
      | sub b f' len=>exact absurd rfl (ajB b f' len)
      | pre b sz aaR ai ak=>exact absurd rfl (aLC b aaR)
      | Ly b sz f' aaR ai ak=>exact absurd rfl (n10 b f' aaR)
      | mp b=>exact absurd rfl (n6 b)
      | y2 b=>exact absurd rfl (n7 b)
      | l' b n ai ak=>exact absurd rfl (n8 b)
      | dead d=>exact absurd rfl Nw
      | _=>rfl
     | agg ah=>rfl
     | fz=>rfl
theorem ab'{l:List Nat}{b:Nat}:Tu l b=l.contains b:=by
 unfold Tu;rw[agt];simp_all
theorem as8{x:ga U}{d:C}(h:j' N J x d)(a6:aeM x=false):d.JY=x.JY:=by
 cases h <;> first | rfl | (simp[aeM]at a6)
theorem arH :∀{xs:List (ga U)} {ds:List C},ez (j' N J) xs ds->xs.any aeM=false->ds.flatMap C.JY=xs.flatMap ga.JY
 | [],[],_,_=>rfl
 | x::xs,d::ds,.cons h1 ah,a6=>by
  simp only[List.any_cons,XG]at a6;simp only[V5];rw[as8 h1 a6.1,arH ah a6.2]
theorem aEN{v:hr U}{v1:V}{l:List Nat}(h:h3 N J v v1)(aJ:aeN v=some l):v1.JY=l:=by
 cases h with
 | c h=>
  simp only[aeN]at aJ;split at aJ
  . cases aJ
  . rename_i a6;cases aJ;exact as8 h a6
 | agg h=>
  simp only[aeN]at aJ;split at aJ
  . cases aJ
  . rename_i a6;cases aJ;exact arH h a6
 | fz=>simp only[aeN,hz]at aJ;rw[<-aJ];rfl
theorem ahH(he:py N J G env env1):∀{args:List dJ} {l:List Nat},Zk env args=some l->RQ env1 args=l
 | [],l,h=>by simp[Zk]at h;subst h;rfl
 | .const v::r,l,h=>by
  simp only[Zk]at h;split at h
  . rename_i Jg MI;cases h;have ih:=ahH he MI;simp only[RQ,V5]at ih ⊢;rw[ih];rfl
  . cases h
 | .tmp k::r,l,h=>by
  simp only[Zk]at h;split at h
  . rename_i v cJ;split at h
    . rename_i a Jg ch MI;cases h;have ih:=ahH he MI;obtain⟨v1,h1,ah⟩:=he k v cJ;simp only[RQ,V5]at ih ⊢;rw[ih];simp only[dJ.get,h1,La];rw[aEN ah ch]
    . cases h
  . cases h
theorem aFV(he:py N J G env env1){o:m'}{l:List Nat}(h:ap2 xb o env key=some l):y' xb o env1 key=l:=by
 cases o <;> simp only[ap2,y',hz]at h ⊢ <;> first | exact h | exact Ww he h | skip
 all_goals split at h
 all_goals (try (cases h;done))
 . rename_i Jg MI;cases h;rw[Ww he MI]
 . rename_i a b h1 ah;cases h;rw[Ww he h1,Ww he ah]
 . rename_i Jg MI;cases h;rw[ahH he MI]
theorem beq_eq(a b:Nat):(a==b)=Nat.beq a b:=by
 cases h:Nat.beq a b with
 | true=>rw[f7 h];simp
 | false=>simp[M' h]
theorem aFW(he:py N J G env env1){o:m'}{b:Nat}{w:Bool}(h:Qw xb o env key b=some w):lo xb o env1 key b=w:=by
 cases o with
 | alloc cs=>simp only[Qw,hz]at h;rw[<-h];simp only[lo];exact beq_eq _ _
 | allocA cs=>simp only[Qw,hz]at h;rw[<-h];simp only[lo];exact beq_eq _ _
 | box x=>simp only[Qw,hz]at h;rw[<-h];simp only[lo];exact beq_eq _ _
 | bslice a c d e=>simp only[Qw,hz]at h;rw[<-h];simp only[lo];exact beq_eq _ _
 | store n x y=>
  simp only[Qw]at h;split at h
  . rename_i l aJ;cases h;simp only[lo];rw[Ww he aJ,ab']
  . cases h
 | append sz by' x y=>
  simp only[Qw]at h;split at h
  . rename_i l aJ;cases h;simp only[lo];rw[Ww he aJ,ab',beq_eq]
  . cases h
 | mkset=>simp only[Qw,hz]at h;rw[<-h];simp only[lo];exact beq_eq _ _
 | allocS e e8=>simp only[Qw,hz]at h;rw[<-h];simp only[lo];rw[beq_eq,beq_eq]
 | upset x y=>
  simp only[Qw]at h;split at h
  . rename_i l aJ;cases h;simp only[lo];rw[Ww he aJ,ab']
  . cases h
 | ustr e x y=>
  simp only[Qw]at h;split at h
  . rename_i l aJ;cases h;simp only[lo];rw[Ww he aJ,ab']
  . cases h
 | appendB e by' x y=>
  simp only[Qw]at h;split at h
  . rename_i l aJ;cases h;simp only[lo];rw[Ww he aJ,ab',beq_eq]
  . cases h
 | call f args=>
  simp only[Qw]at h;split at h
  . rename_i l aJ;cases h;simp only[lo];rw[ahH he aJ,ab']
    congr 1
    rw[agt];simp only[kc,I2,Nat.ble_eq];omega
  . cases h
 | _=>simp only[Qw,hz]at h;rw[<-h];rfl
theorem ala(he:py N J G env env1){ev:List h7}{aqg:Nat}:∀{K1:List (Nat×Nat)},ag3 xb ev env aqg K1=true->QI xb ev env1 aqg K1=true
 | [],_=>rfl
 | (i,j)::r,h=>by
  simp only[ag3,kc]at h;simp only[QI,kc];refine⟨?_,ala he h.2⟩;have h1:=h.1;rw[aeY,aeY]at h1;split at h1
  . rename_i x y aa b8;rw[aa,b8];split at h1
    . rename_i l aJ;dsimp only;rw[aFV he aJ];simp only[qx]at h1 ⊢;intro b ai;have:=h1 b ai;split at this
      . rename_i w hw;rw[aFW he hw];exact this
      . cases this
    . cases h1
  grind
theorem alz{fo:KR U}(n1:JW P fo){k:A' -> hN U -> fJ U -> Option R}{r:R}:∀{l:List h7} {key:Nat} {gl:A'} {nf:P1} {env:hN U} {J:fJ U} {env1:Env} {J1:ep} {G:Nat -> Bool} {K:Env -> ep -> Prop},
 C0 key gl nf env J env1 J1 G->WC fo none l key gl nf env J k=some r->
 (∀NT OS env' J' kn gC PW,k NT env' J'=some r->C0 (key+16*l.length) NT OS env' J' kn gC PW->K kn gC)->Yw P kk l key env1 J1 K
 | [],key,gl,nf,env,J,env1,J1,G,K,h,aa,ns=>ns _ _ _ _ _ _ _ aa h
 | o::l,key,gl,nf,env,J,env1,J1,G,K,h,aa,ns=>by
  simp only[WC]at aa;simp only[Yw];refine aEM n1 h aa λNT OS env' J' kn gC PW h1 ah=>?_
  refine alz n1 ah h1 λai9 ajE hf s2 Us Zg ahi bJ ea=>ns ai9 ajE hf s2 Us Zg ahi bJ ?_
  grind
theorem alH{fo:KR U}(n1:JW P fo){k:A' -> hN U -> fJ U -> Option R}{r:R}:∀{l:List h7} {key:Nat} {gl:A'} {nf:P1} {env:hN U} {J:fJ U} {env1:Env} {J1:ep} {G:Nat -> Bool} {K:Env -> ep -> Prop},
 C0 key gl nf env J env1 J1 G->WC fo (some xb) l key gl nf env J k=some r->
 (∀NT OS env' J' kn gC PW,k NT env' J'=some r->C0 (key+16*l.length) NT OS env' J' kn gC PW->K kn gC)->ae' xb P l key env1 J1 K
 | [],key,gl,nf,env,J,env1,J1,G,K,h,aa,ns=>ns _ _ _ _ _ _ _ aa h
 | o::l,key,gl,nf,env,J,env1,J1,G,K,h,aa,ns=>by
  simp only[WC]at aa;obtain⟨g,v1,gC,NT,OS,env',J',PW,h1,ah,bJ⟩:=as7 n1 h (by simpa only[aib]using aa);refine⟨g,v1,gC,h1,alH n1 bJ ah λai9 ajE hf s2 Us Zg ahi ea hi=>ns ai9 ajE hf s2 Us Zg ahi ea ?_⟩
  grind
theorem alW{gl:A'}:∀{env:hN U} {k:Nat} {v:hr U},er (clean gl env) k=some v->er env k=some v/\agi gl k=false
 | [],k,v,h=>by simp[clean,er]at h
 | (i,w)::r,k,v,h=>by
  simp only[clean]at h;split at h
  . rename_i al;obtain⟨h1,ah⟩:=alW h;simp only[er];cases ai:Nat.beq i k with
    | true=>rw[f7 ai]at al;rw[al]at ah;cases ah
    | false=>exact⟨h1,ah⟩
  . rename_i al;simp only[er]at h ⊢;cases ai:Nat.beq i k with
    | true=>rw[ai]at h;cases h;rw[<-f7 ai];exact⟨rfl,al⟩
    | false=>rw[ai]at h;exact alW h
theorem aGK{gl:A'}{k:Nat}(h:agi gl k=false):er gl k=none:=by
 induction gl with
 | nil=>rfl
 | cons e r ih=>
  obtain⟨i,e⟩:=e;simp only[agi,List.any_cons,XG]at h;simp only[er,h.1];exact ih (by unfold agi;exact h.2)
theorem C0.clean{gl:A'}{nf:P1}(h:C0 key gl nf env J env1 J1 G):py key J (λ_=>true) (aeL gl env) env1:=by
 intro k v hk;have:er env k=some v/\G k=true:=by
  unfold aeL at hk;split at hk
  . exact⟨hk,h.a8.free k rfl⟩
  . obtain⟨h1,ah⟩:=alW hk;exact⟨h1,h.a8.free k (aGK ah)⟩
 obtain⟨v1,h1,ah⟩:=h.L1 k v this.1
 grind
theorem C0.begin(he:py key J (λ_=>true) env env1)(c8:ni key J J1):C0 key [] [] env J env1 J1 (λ_=>true):=
 ⟨he,⟨λ_ _=>rfl,λk t b h=>by simp[er]at h⟩,c8,λ_ h=>by simp at h⟩
end
structure QM where
 e:Exit
 hp:Shape
 own:List (Pos×c9)
 us:List c9
def ID(U:l1):List QM->Type
 | []=>Empty
 | [a]=>d' U.D a.us
 | a::b::r=>d' U.D a.us ⊕ ID U (b::r)
structure Ob (U:l1) where
 hp:Shape
 own:List (Pos×c9)
 ts:List c9
 outs:List QM
 F:d' U.D ts->Option (ID U outs)
def ai5 :Exit->Exit->Bool
 | .normal,.normal=>true
 | .ret,.ret=>true
 | .exit i,.exit j=>Nat.beq i j
 | _,_=>false
theorem asR{a b:Exit}(h:ai5 a b=true):a=b:=by
 cases a <;> cases b <;> simp only[ai5,reduceCtorEq,u1]at h <;> try rfl
 simp_all
abbrev ack(U:l1)(R:Type):=Exit->hN U->fJ U->Nat->Option R
def Ny :(outs:List QM)->ID U outs->Exit×hN U×fJ U×Nat
 | [],o=>Empty.elim o
 | [a],h=>(a.e,(ME U a.hp (d'.cells U.D a.us h)).1,(ME U a.hp (d'.cells U.D a.us h)).2,a.hp.st.length)
 | a::b::r,.inl h=>(a.e,(ME U a.hp (d'.cells U.D a.us h)).1,(ME U a.hp (d'.cells U.D a.us h)).2,a.hp.st.length)
 | a::b::r,.inr o=>Ny (b::r) o
def aMh{α β:Type}(o:α ⊕ β)(f:α->Option R)(g:β->Option R):Option R:=
 match o with
 | .inl a=>f a
 | .inr b=>g b
def aMN(k:ack U R)(a:QM):(r:List QM)->(ID U r->Option R)->ID U (a::r)->Option R
 | [],_=>λh=>k a.e (ME U a.hp (d'.cells U.D a.us h)).1 (ME U a.hp (d'.cells U.D a.us h)).2 a.hp.st.length
 | _::_,f=>λo=>aMh o (λh=>k a.e (ME U a.hp (d'.cells U.D a.us h)).1 (ME U a.hp (d'.cells U.D a.us h)).2 a.hp.st.length) f
def apZ(k:ack U R):(outs:List QM)->ID U outs->Option R
 | []=>λo=>Empty.elim o
 | a::r=>aMN k a r (apZ k r)
theorem avv(k:ack U R):∀{outs:List QM} {o:ID U outs},apZ k outs o=k (Ny outs o).1 (Ny outs o).2.1 (Ny outs o).2.2.1 (Ny outs o).2.2.2
 | [],o=>Empty.elim o
 | [a],h=>rfl
 | a::b::r,.inl h=>rfl
 | a::b::r,.inr o=>avv k (outs:=b::r)
def Zb(kk:Nat):(outs:List QM)->Exit->hN U->fJ U->Nat->Option (ID U outs)
 | [],_,_,_,_=>none
 | [a],e,env,J,N=>match ai5 e a.e with
  | true=>Zn kk a.own a.hp a.us env J N
  | false=>none
 | a::b::r,e,env,J,N=>match ai5 e a.e with
  | true=>match Zn (U:=U) kk a.own a.hp a.us env J N with
   | some h=>some (.inl h)
   | none=>none
  | false=>match Zb kk (b::r) e env J N with
   | some o=>some (.inr o)
   | none=>none
abbrev LZ(U:l1):=Nat->Option (Ob U)
def Lj :sb->Nat
 | .seq a b=>Lj a+Lj b
 | .cond _ a b=>Lj a+Lj b
 | .block _ b=>Lj b
 | .loop b=>Lj b+1
 | _=>0
def aLn(x:Bool)(a b:Option R):Option R:=if x=true then a else b
def ga.inner :RO->Bool
 | .ptr .. | .arr _=>true
 | _=>false
def aIJ :Me->Bool
 | .box cs=>cs.any ga.inner
 | _=>false
def atL(fo:KR U)(J:fJ U)(ops:List h7):List Nat:=
 match ops.any λo=>match o.op with
  | .call f _=>(fo f).any λs=>s.st.any aIJ
  | _=>false with
 | true=>J.map Prod.fst
 | false=>[]
def alX(ops:List h7)(K1:List (Nat×Nat)):Option (List h7×h7):=
 match aia ops.length K1,ops.getLast? with
 | true,some o=>match o.op,o.guard with
  | .call ..,none=>some (ops.dropLast,o)
  | _,_=>none
 | _,_=>none
theorem aEO{ops:List h7}{K1:List (Nat×Nat)}{init:List h7}{last:h7}(h:alX ops K1=some (init,last)):ops=init++[last]/\aia (init.length+1) K1=true:=by
 unfold alX at h;split at h
 . rename_i o h1 ah;split at h
   . cases h;have:ops=ops.dropLast++[last]:=by
      obtain⟨l,rfl⟩:=List.getLast?_eq_some_iff.1 ah;simp
     grind
   . cases h
 . cases h
def Qu(fo:KR U)(f':LZ U)(kk:Nat):sb->Nat->hN U->fJ U->Nat->ack U R->Option R
 | .skip,_,env,J,N,k=>k .normal env J N
 | .ret,_,env,J,N,k=>k .ret env J N
 | .exit i,_,env,J,N,k=>k (.exit i) env J N
 | .region ops,_,env,J,N,k=>WC fo none ops N [] [] env J λgl env J=>ako (aeL gl env) J (N+16*ops.length) λenv J N=>k .normal env J N
 | .V8 ops K1,_,env,J,N,k=>match alX ops K1 with
  | some (init,last)=>WC fo (some []) init N [] [] env J λgl env J=>match ag3 [] init env N K1 with
   | true=>WC fo none [last] (N+16*init.length) gl [] env J λgl env J=>k .normal (aeL gl env) J (N+16*init.length+16)
   | false=>none
  | none=>WC fo (some (atL fo J ops)) ops N [] [] env J λgl env' J'=>match ag3 (atL fo J ops) ops env' N K1 with
   | true=>ako (aeL gl env') J' (N+16*ops.length) λenv J N=>k .normal env J N
   | false=>none
 | .seq a b,pos,env,J,N,k=>Qu fo f' kk a pos env J N λe env J N=>match e with
  | .normal=>Qu fo f' kk b (pos+Lj a) env J N k
  | e=>k e env J N
 | .cond c a b,pos,env,J,N,k=>match q3 [] none env c with
  | some (.c (.t ⟨.bool,x⟩))=>aLn x (Qu fo f' kk a pos env J N k) (Qu fo f' kk b (pos+Lj a) env J N k)
  | _=>none
 | .block id b,pos,env,J,N,k=>Qu fo f' kk b pos env J N λe env J N=>match e with
  | .exit i=>match Nat.beq i id with
   | true=>k .normal env J N
   | false=>k (.exit i) env J N
  | e=>k e env J N
 | .loop b,pos,env,J,N,k=>match f' pos with
  | none=>none
  | some L=>match Zn kk L.own L.hp L.ts env J N with
   | none=>none
   | some h=>(L.F h) >>=λo=>apZ k L.outs o
section
variable {P:Program} {nt kk N:Nat} {env:hN U} {J:fJ U} {env1:Env} {J1:ep}
def abf(kk:Nat)(Q:Exit->Env->ep->Nat->Prop):Prop:=∀e N env J N' env' J',Conv kk N env J N' env' J'->Q e env' J' N'->Q e env J N
def U3(P:Program)(nt kk:Nat)(body:sb)(hp:Shape)(ts:List c9)(outs:List QM)(h:d' U.D ts)(o:ID U outs):Prop:=
 ∀env1 J1,py hp.st.length (ME U hp (d'.cells U.D ts h)).2 (λ_=>true) (ME U hp (d'.cells U.D ts h)).1 env1->ni hp.st.length (ME U hp (d'.cells U.D ts h)).2 J1->kk<=hp.st.length->
  ∀Q,abf kk Q->(∀kn gC,py (Ny outs o).2.2.2 (Ny outs o).2.2.1 (λ_=>true) (Ny outs o).2.1 kn->ni (Ny outs o).2.2.2 (Ny outs o).2.2.1 gC->kk<=(Ny outs o).2.2.2->Q (Ny outs o).1 kn gC (Ny outs o).2.2.2)->
   TT P nt kk body env1 J1 hp.st.length Q
def abh(P:Program)(nt kk:Nat)(body:sb)(L:Ob U):Prop:=
 ∀h o,L.F h=some o->U3 P nt kk body L.hp L.ts L.outs h o
def LK(P:Program)(nt kk:Nat)(f':LZ U):Nat->sb->Prop
 | pos,.seq a b=>LK P nt kk f' pos a/\LK P nt kk f' (pos+Lj a) b
 | pos,.cond _ a b=>LK P nt kk f' pos a/\LK P nt kk f' (pos+Lj a) b
 | pos,.block _ b=>LK P nt kk f' pos b
 | pos,.loop b=>(∀L,f' pos=some L->abh P nt kk b L)
 | _,_=>True
theorem abf.andThen{Q:Exit->Env->ep->Nat->Prop}{next:Env->ep->Nat->Prop}(h:abf kk Q)(g':∀N env J N' env' J',Conv kk N env J N' env' J'->next env' J' N'->next env J N):abf kk (andThen next Q):=by
 intro e N env J N' env' J' ay ee;cases e with
 | normal=>exact g' _ _ _ _ _ _ ay ee
 | _=>exact h _ _ _ _ _ _ _ ay ee
theorem Zt{fo:KR U}(n1:JW P fo){f':LZ U}:∀{c:sb} {pos:Nat} {env:hN U} {J:fJ U} {N:Nat} {k:ack U R} {r:R} {env1:Env} {J1:ep} {Q:Exit -> Env -> ep -> Nat -> Prop},
 LK P nt kk f' pos c->Qu fo f' kk c pos env J N k=some r->py N J (λ_=>true) env env1->ni N J J1->kk<=N->abf kk Q->
 (∀e env' J' N' kn gC,k e env' J' N'=some r->py N' J' (λ_=>true) env' kn->ni N' J' gC->kk<=N'->Q e kn gC N')->k1 P nt kk c env1 J1 N Q
 | .skip,pos,env,J,N,k,r,env1,J1,Q,aJ,aa,he,c8,j1,v',hk=>k1.skip (hk _ _ _ _ _ _ aa he c8 j1)
 | .ret,pos,env,J,N,k,r,env1,J1,Q,aJ,aa,he,c8,j1,v',hk=>k1.ret (hk _ _ _ _ _ _ aa he c8 j1)
 | .exit i,pos,env,J,N,k,r,env1,J1,Q,aJ,aa,he,c8,j1,v',hk=>k1.exit (hk _ _ _ _ _ _ aa he c8 j1)
 | .region ops,pos,env,J,N,k,r,env1,J1,Q,aJ,aa,he,c8,j1,v',hk=>
  k1.aLX (alz n1 (C0.begin he c8) aa λNT OS env' J' kn gC PW h1 ah=>by
   obtain⟨hf,s2,QL,Us,Zg,g1,g2,g3,g4,g5⟩:=arA h1 ah.clean ah.HS (show kk<=_ by omega)
   exact v' _ _ _ _ _ _ _ g2 (hk _ _ _ _ _ _ g1 g3 g4 (by omega)))
 | .V8 ops K1,pos,env,J,N,k,r,env1,J1,Q,aJ,aa,he,c8,j1,v',hk=>by
  simp only[Qu]at aa;split at aa
  . rename_i init last axp;obtain⟨rfl,aKF⟩:=aEO axp;refine k1.aLY aKF (alH n1 (C0.begin he c8) aa λNT OS env' J' kn gC PW h1 ah=>?_);split at h1
    . rename_i ay;refine⟨ala ah.L1 ay,alz n1 (l:=[last]) (nf:=[]) ⟨ah.L1,ah.a8,ah.HS,λg a8=>by simp at a8⟩ h1 λai9 ajE hf s2 Us Zg ahi bJ ea=>hk _ _ _ _ _ _ bJ ea.clean ea.HS (by omega)⟩
    . cases h1
  . refine k1.V8 (alH n1 (C0.begin he c8) aa λNT OS env' J' kn gC PW h1 ah=>?_);split at h1
    . rename_i ay;obtain⟨hf,s2,QL,Us,Zg,g1,g2,g3,g4,g5⟩:=arA h1 ah.clean ah.HS (show kk<=_ by omega);exact⟨ala ah.L1 ay,v' _ _ _ _ _ _ _ g2 (hk _ _ _ _ _ _ g1 g3 g4 (by omega))⟩
    . cases h1
 | .seq a b,pos,env,J,N,k,r,env1,J1,Q,aJ,aa,he,c8,j1,v',hk=>by
  simp only[Qu]at aa;refine k1.seq (Zt n1 aJ.1 aa he c8 j1 (v'.andThen λN env J N' env' J' ay h=>k1.conv ay h) λe env' J' N' kn gC h1 ah bJ ea=>?_);cases e with
  | normal=>exact Zt n1 aJ.2 h1 ah bJ ea v' hk
  | _=>exact hk _ _ _ _ _ _ h1 ah bJ ea
 | .cond c a b,pos,env,J,N,k,r,env1,J1,Q,aJ,aa,he,c8,j1,v',hk=>by
  simp only[Qu]at aa;split at aa
  . rename_i x ay;have a8:LY [] env (λ_=>true):=⟨λ_ _=>rfl,λk t b h=>by simp[er]at h⟩
    obtain⟨p,v1,a1,a2,a3⟩:=k2 he a8 ay;have:=a2.O8;subst this;refine k1.cond a1 (a3 rfl) (λai=>?_) (λai=>?_)
    . subst ai;exact Zt n1 aJ.1 aa he c8 j1 v' hk
    . subst ai;exact Zt n1 aJ.2 aa he c8 j1 v' hk
  . cases aa
 | .block id b,pos,env,J,N,k,r,env1,J1,Q,aJ,aa,he,c8,j1,v',hk=>by
  simp only[Qu]at aa;refine k1.block (Zt n1 aJ aa he c8 j1 ?_ λe env' J' N' kn gC h1 ah bJ ea=>?_)
  . intro e N env J N' env' J' ay ee;cases e with
    | exit i=>
     simp only[inBlock]at ee ⊢;split at ee
     . rename_i al;rw[b6 al];exact v' _ _ _ _ _ _ _ ay ee
     . rename_i al;rw[b' al];exact v' _ _ _ _ _ _ _ ay ee
    | _=>exact v' _ _ _ _ _ _ _ ay ee
  . cases e with
    | exit i=>
     simp only[inBlock];simp only at h1;split at h1
     . rename_i ai;rw[b6 (f7 ai)];exact hk _ _ _ _ _ _ h1 ah bJ ea
     . rename_i ai;rw[b' (M' ai)];exact hk _ _ _ _ _ _ h1 ah bJ ea
    | _=>exact hk _ _ _ _ _ _ h1 ah bJ ea
 | .loop b,pos,env,J,N,k,r,env1,J1,Q,aJ,aa,he,c8,j1,v',hk=>by
  simp only[Qu]at aa;split at aa
  . cases aa
  . rename_i L s4;split at aa
    . cases aa
    . rename_i h Q1;obtain⟨o,c7,axo⟩:=aaX.1 aa;rw[avv]at axo;obtain⟨kn,gC,h5,js,yt,Np⟩:=ahG Q1 he c8 j1;exact k1.conv h5 (k1.aLy (aJ L s4 h o c7 kn gC js yt Np Q v' λaMZ aMQ h1 ah bJ=>hk _ _ _ _ _ _ axo h1 ah bJ))
theorem U3.aLI {fo:KR U} (n1:JW P fo) {f':LZ U} {body:sb} {hp:Shape} {own:List (Pos×c9)} {ts:List c9} {outs:List QM} {h:d' U.D ts} {o:ID U outs} {JL:d' U.D ts -> Option (ID U outs)}
 (L6:LK P nt kk f' 0 body) (RY:∀h o,JL h=some o->U3 P nt kk body hp ts outs h o)
 (aa:Qu fo f' kk body 0 (ME U hp (d'.cells U.D ts h)).1 (ME U hp (d'.cells U.D ts h)).2 hp.st.length (λe env J N=>match e with
  | .normal=>match Zn kk own hp ts env J N with
   | some vc=>JL vc
   | none=>none
  | e=>Zb kk outs e env J N)=some o):U3 P nt kk body hp ts outs h o:=by
 intro env1 J1 he c8 j1 Q v' hk;refine TT.round (Zt n1 L6 aa he c8 j1 (v'.andThen λN env J N' env' J' ay h=>TT.conv ay h) λe env' J' N' kn gC h1 ah bJ ea=>?_);have Qd:∀qa,qa=e->qa≠.normal->Zb kk outs qa env' J' N'=some o->Q e kn gC N':=by
  intro qa Jx hv a7;subst Jx;obtain⟨e',s1,h5,js,yt,Np,ae6⟩:=ayc a7 ah bJ ea;exact v' _ _ _ _ _ _ _ h5 (by rw[ae6];exact hk _ _ js yt Np)
 cases e with
 | normal=>
  simp only at h1;split at h1
  . rename_i vc Q1;obtain⟨e',s1,h5,js,yt,Np⟩:=ahG Q1 ah bJ ea;exact TT.conv h5 (RY vc o h1 e' s1 js yt Np Q v' hk)
  . cases h1
 | exit i=>exact Qd _ rfl (by simp) h1
 | ret=>exact Qd _ rfl (by simp) h1
 | goto l=>exact Qd _ rfl (by simp) h1
 | panic atI=>exact Qd _ rfl (by simp) h1
 | outgrown=>exact Qd _ rfl (by simp) h1
where
 ayc {N : Nat} {env : hN U} {J : fJ U} {env1 : Env} {J1 : ep}: ∀ {outs : List QM} {e : Exit} {o : ID U outs}, Zb kk outs e env J N = some o -> py N J (λ_ => true) env env1 -> ni N J J1 -> kk <= N ->
  ∃kn gC,Conv kk N env1 J1 (Ny outs o).2.2.2 kn gC/\py (Ny outs o).2.2.2 (Ny outs o).2.2.1 (λ_=>true) (Ny outs o).2.1 kn/\ni (Ny outs o).2.2.2 (Ny outs o).2.2.1 gC/\kk<=(Ny outs o).2.2.2/\e=(Ny outs o).1
  | [],e,o,h,_,_,_=>by simp[Zb]at h
  | [a],e,o,h,he,c8,j1=>by
   simp only[Zb]at h;split at h
   . rename_i Xo;obtain⟨e',s1,h5,js,yt,Np⟩:=ahG h he c8 j1;exact⟨e',s1,h5,js,yt,Np,asR Xo⟩
   . cases h
  | a::b::r,e,o,h,he,c8,j1=>by
   simp only[Zb]at h;split at h
   . rename_i Xo;split at h
     . rename_i ak Q1;cases h;obtain⟨e',s1,h5,js,yt,Np⟩:=ahG Q1 he c8 j1;exact⟨e',s1,h5,js,yt,Np,asR Xo⟩
     . cases h
   . split at h
     . rename_i q5 c7;cases h;obtain⟨e',s1,h5,js,yt,Np,ae6⟩:=ayc c7 he c8 j1;exact⟨e',s1,h5,js,yt,Np,ae6⟩
     . cases h
end
end
end Go.Proofs.YtijpinendaoleaaGreat.Shv
namespace Go.Proofs.YtijpinendaoleaaGreat.Shv
set_option linter.all false
open Go
variable {U:l1} {R:Type}
def abe :Nat->List (hr U)->hN U
 | _,[]=>[]
 | i,v::vs=>(i,v)::abe (i+1) vs
def al6(env:hN U)(J:fJ U):OW->Option (hr U)
 | .tmp t=>er env t
 | .cell t g k=>match er env t with
  | some (.c (.ptr b o))=>match er J b with
   | some (.box cs)=>X' g k cs o
   | _=>none
  | _=>none
def aca(env:hN U)(J:fJ U):List OW->Option (List (hr U))
 | []=>some []
 | r::rs=>match al6 env J r,aca env J rs with
  | some v,some vs=>some (v::vs)
  | _,_=>none
def ap1 :List (hr U)->hr U
 | []=>.fz []
 | [v]=>v
 | v::w::vs=>.fz (v::w::vs)
def aha(kk:Nat)(Jk:List OW)(HS:KT)(D':List Me)(us:List c9)(env:hN U)(J:fJ U):Option (d' U.D us):=
 match aca env J Jk with
 | none=>none
 | some vs=>match adi J kk 0 D' (apG HS (ap1 vs) ([],[])) []with
  | (bs,Oh)=>match Rk Oh env J with
   | none=>none
   | some (env',J')=>match aca env' J' Jk with
    | none=>none
    | some SN=>match Z6 bs && (keeps kk bs && Nat.beq bs.length D'.length)with
     | false=>none
     | true=>match PE bs HS (ap1 SN),OJ bs J' 0 D' with
      | some a,some b=>d'.dec U.D us (a++b)
      | _,_=>none
def ay6(kk:Nat)(Jk:List OW)(HS:KT)(D':List Me)(us:List c9):ack U (d' U.D us)
 | .normal,env,J,_=>aha kk Jk HS D' us env J
 | .ret,env,J,_=>aha kk Jk HS D' us env J
 | _,_,_,_=>none
section
variable {P:Program} {nt kk N:Nat} {env:hN U} {J:fJ U} {env1:Env} {J1:ep}
def adP(kk:Nat)(Q:Exit->Env->ep->Nat->Prop):Exit->Env->ep->Nat->Prop:=
 λe env J N=>∃N' env' J',Conv kk N env J N' env' J'/\Q e env' J' N'
theorem adP.azz{Q:Exit->Env->ep->Nat->Prop}:abf kk (adP kk Q):=
 λe N env J N' env' J' h ⟨QL,hf,s2,ah,ee⟩=>⟨QL,hf,s2,h.trans ah,ee⟩
theorem k1.aMx{c:sb}{env:Env}{J:ep}{Q:Exit->Env->ep->Nat->Prop}(h:k1 P nt kk c env J N (adP kk Q)):k1 P nt kk c env J N Q:=
 λcode ay cv φ S a w j1 R=>wp_mono (h code ay cv φ S a w j1 R) λe a w ⟨hn,hK,env',J',N',⟨QL,hf,s2,ah,ee⟩,R'⟩=>
  let⟨aMO,azf,u4⟩:=ah cv nt hn hK a w j1 R';⟨aMO,azf,hf,s2,QL,ee,u4⟩
theorem aDw(he:py N J (λ_=>true) env env1)(c8:ni N J J1){VF:OW}{v:hr U}(h:al6 env J VF=some v):∃p v1,Z5 env1 J1 VF=some (p,v1)/\p/\h3 N J v v1:=by
 cases VF with
 | tmp t=>
  obtain⟨v1,h1,ah⟩:=he t v h;exact⟨True,v1,by simp[Z5,h1],trivial,ah⟩
 | cell t g k=>
  simp only[al6]at h;split at h
  . rename_i b o hk;split at h
    . rename_i cs r';obtain⟨v1,h1,ah⟩:=he t _ hk;have:=ah.M8;subst this;obtain⟨_,y,bJ,ea⟩:=c8 b _ r';cases ea with
      | box ea=>
       obtain⟨v2,hi,q0⟩:=abx ea h;exact⟨True,v2,by simp[Z5,h1,bJ,hi],trivial,q0⟩
    . cases h
  . cases h
theorem aqV(he:py N J (λ_=>true) env env1)(c8:ni N J J1):∀{Jk:List OW} {vs:List (hr U)},aca env J Jk=some vs->∃p vs1,Vu env1 J1 Jk=some (p,vs1)/\p/\ez (h3 N J) vs vs1
 | [],vs,h=>by simp[aca]at h;subst h;exact⟨_,[],rfl,trivial,.nil⟩
 | r::rs,vs,h=>by
  simp only[aca]at h;split at h
  . rename_i v SN h1 ah;cases h;obtain⟨p,v1,a1,a2,a3⟩:=aDw he c8 h1;obtain⟨q,vs1,b1,b2,b3⟩:=aqV he c8 ah;exact⟨p/\q,v1::vs1,by simp[Vu,a1,b1],⟨a2,b2⟩,.cons a3 b3⟩
  . cases h
theorem aEp{vs:List (hr U)}{vs1:List V}(h:ez (h3 N J) vs vs1):h3 N J (ap1 vs) (TO vs1):=by
 cases h with
 | nil=>exact .fz [] [] rfl (by simp)
 | cons h1 ah=>
  cases ah with
  | nil=>exact h1
  | cons ah bJ=>
   refine .fz _ _ (by simp[bJ.length]) λi x d aa a6=>?_
   obtain⟨vn,e',hf⟩:=(ez.cons h1 (.cons ah bJ)).get aa
   grind
def aky(s:nc U)(r:d' U.D s.us):V->ep->Nat->Prop:=λkJ gC N'=>N'=s.D'.length/\h3 N' (s.rest r) (s.res r) kJ/\ni N' (s.rest r) gC
theorem aEq{Jk:List OW}{s:nc U}{r:d' U.D s.us}(h:aha kk Jk s.HS s.D' s.us env J=some r)(he:py N J (λ_=>true) env env1)(c8:ni N J J1):
 ∃kn gC,Conv kk N env1 J1 N kn gC/\∃p vs1,Vu kn gC Jk=some (p,vs1)/\p/\
  ∃bs pK J2,bs.Nodup/\keeps kk bs=true/\KZ ((TO vs1).hD bs) pK/\Z' (m5 bs gC 0 bs) J2/\aky s r pK J2 bs.length:=by
 unfold aha at h;split at h
 . cases h
 . split at h;rename_i bs Oh _;split at h
   . cases h
   . rename_i env' J' YP;obtain⟨e',s1,h5,js,yt,_⟩:=aed (kk:=kk) (gl:=[]) YP he c8;split at h
     . cases h
     . rename_i SN aK9;split at h
       . cases h
       . rename_i ai;simp only[kc]at ai;obtain⟨J4,JE,aax⟩:=ai;have hM:=aev J4;have hlen:=f7 aax;split at h
         . rename_i a b ch Ol;obtain⟨p,vs1,d1,d2,d3⟩:=aqV js yt aK9;obtain⟨y,f,g⟩:=amM hM (aeJ hM Ol) ch;obtain⟨pK,g1,g2⟩:=g _ (aEp d3);obtain⟨s2,t1,t2⟩:=aiE hM yt Ol;have Tz:=d'.JD h;have e':s.res r=y:=by unfold nc.res;rw[Tz,f]
           have hf:s.rest r=Ln 0 s.D' b:=by unfold nc.rest;rw[Tz,f]
           exact⟨_,_,h5,p,vs1,d1,d2,bs,pK,s2,hM,JE,g1,t1,hlen,by rw[e',hf];exact g2,by rw[hf];exact t2⟩
         . cases h
def abg(P:Program)(s:nc U)(h:d' U.D s.ts)(r:d' U.D s.us):Prop:=
 ∀(Tc:List V) J1,ez (h3 s.st.length (s.Oc h)) (s.args h) Tc->ni s.st.length (s.Oc h) J1->yq P s.f Tc J1 s.st.length (aky s r)
theorem Nl.of{s:nc U}(h:∀h r,s.F h=some r->abg P s h r):Nl P s:=h
theorem abg.apl {s:nc U} {fn:Func} {c:sb} {Jk:List OW} {fo:KR U} {f':LZ U} (c6:P.funcs[s.f]?=some fn) (ay:fn.body.bind (resolve P fn.ntmps)=some c) (ar:NH P fn.results.toList=some Jk) (g':Nat.ble s.MR.length fn.ntmps=true)
 (n1:JW P fo) (L6:LK P fn.ntmps s.st.length f' 0 c)
 {h:d' U.D s.ts} {r:d' U.D s.us} (aa:akl s.st.length (s.Oc h) (λJ N=>Qu fo f' s.st.length c 0 (abe 0 (s.args h)) J N (ay6 s.st.length Jk s.HS s.D' s.us))=some r):abg P s h r:=by
 intro Tc J1 ch c8;have aKB:Tc.length<=fn.ntmps:=by
  rw[<-ch.length];refine SH (ac6 ?_) (NI g');unfold nc.args;exact auV
 have On:py s.st.length (s.Oc h) (λ_=>true) (abe 0 (s.args h)) (JZ 0 Tc):=by
  intro k v hk;have key:∀{xs:List (hr U)} {ds:List V} {i:Nat},ez (h3 s.st.length (s.Oc h)) xs ds->er (abe i xs) k=some v->∃v1,look (JZ i ds) k=some (true,v1)/\h3 s.st.length (s.Oc h) v v1:=by
   intro xs
   induction xs with
   | nil=>intro ds i _ h;simp[abe,er]at h
   | cons x xs ih=>
    intro ds i Pn Jy;cases Pn with
    | cons h1 ah=>
     simp only[abe,er]at Jy;simp only[JZ,look];split at Jy
     . simp_all
     . rename_i ai;rw[b' (M' ai)];exact ih ah Jy
  grind
 obtain⟨aMT,Nm,aMU,aa,azA,aKe,aJK,aKu⟩:=aFa aa On c8;refine yq.tidy (yq.mk (nt:=fn.ntmps) c6 ay ar rfl aKB (k1.conv azA (k1.aMx (Zt n1 L6 aa aKe aJK aKu adP.azz λe env' J' N' kn gC h1 ah bJ ea=>?_)))) (λkJ s1 RJ ak=>ak)
 . have fin:aha s.st.length Jk s.HS s.D' s.us env' J'=some r->(e= .normal\/e= .ret)->adP s.st.length (aks Jk λkJ s1 RJ=>∃bs pK J2,bs.Nodup/\keeps s.st.length bs=true/\KZ (kJ.hD bs) pK/\Z' (m5 bs s1 0 bs) J2/\aky s r pK J2 bs.length) e kn gC N':=by
    intro aKR Xo;obtain⟨e',s1,h5,p,vs1,d1,d2,rest⟩:=aEq aKR ah bJ;refine⟨N',e',s1,h5,?_⟩;rcases Xo with rfl | rfl
    . exact⟨p,vs1,d1,d2,rest⟩
    . exact⟨p,vs1,d1,d2,rest⟩
   cases e with
   | normal=>exact fin h1 (.inl rfl)
   | ret=>exact fin h1 (.inr rfl)
   | _=>cases h1
where
 auV:∀{ss:List KT} {a:EI U},(QY ss a).1.length=ss.length
  | [],a=>rfl
  | s::ss,a=>by
   simp only[QY];have:=auV (ss:=ss) (a:=(QX s a).2);simp[this]
def NJ :sb->Nat->Option sb
 | .seq a b,q=>match Nat.ble (Lj a) q with
  | true=>NJ b (q - Lj a)
  | false=>NJ a q
 | .cond _ a b,q=>match Nat.ble (Lj a) q with
  | true=>NJ b (q - Lj a)
  | false=>NJ a q
 | .block _ b,q=>NJ b q
 | .loop b,q=>match q with
  | 0=>some b
  | q+1=>NJ b q
 | _,_=>none
theorem LK.of{f':LZ U}:∀{c:sb} {pos:Nat},(∀q b L,NJ c q=some b->f' (pos+q)=some L->abh P nt kk b L)->LK P nt kk f' pos c
 | .seq a b,pos,h=>by
  refine⟨LK.of λq hj L h1 ah=>h q hj L ?_ ah,LK.of λq hj L h1 ah=>h (Lj a+q) hj L ?_ (by rw[<-XJ];exact ah)⟩
  . simp only[NJ];cases ai:Nat.ble (Lj a) q with
    | true=>exact absurd (Y3 h1) (by have:=NI ai;omega)
    | false=>exact h1
  . simp only[NJ];have:Nat.ble (Lj a) (Lj a+q)=true:=by simp
    grind
 | .cond c a b,pos,h=>by
  refine⟨LK.of λq hj L h1 ah=>h q hj L ?_ ah,LK.of λq hj L h1 ah=>h (Lj a+q) hj L ?_ (by rw[<-XJ];exact ah)⟩
  . simp only[NJ];cases ai:Nat.ble (Lj a) q with
    | true=>exact absurd (Y3 h1) (by have:=NI ai;omega)
    | false=>exact h1
  . simp only[NJ];have:Nat.ble (Lj a) (Lj a+q)=true:=by simp
    grind
 | .block id b,pos,h=>LK.of (c:=b) h
 | .loop b,pos,h=>λL s4=>h 0 b L rfl s4
 | .skip,pos,h=>trivial
 | .region _,pos,h=>trivial
 | .V8 _ _,pos,h=>trivial
 | .exit _,pos,h=>trivial
 | .ret,pos,h=>trivial
where
 Y3:∀{c:sb} {q:Nat} {b:sb},NJ c q=some b->q < Lj c
  | .seq a b,q,hj,h=>by
   simp only[NJ]at h;simp only[Lj];split at h
   . rename_i ai;have:=Y3 h;have:=NI ai;omega
   . have:=Y3 h;omega
  | .cond _ a b,q,hj,h=>by
   simp only[NJ]at h;simp only[Lj];split at h
   . rename_i ai;have:=Y3 h;have:=NI ai;omega
   . have:=Y3 h;omega
  | .block _ b,q,hj,h=>Y3 (c:=b) h
  | .loop b,0,hj,h=>by simp[Lj]
  | .loop b,q+1,hj,h=>by have:=Y3 (c:=b) h;simp only[Lj];omega
  | .skip,q,hj,h=>by simp[NJ]at h
  | .region _,q,hj,h=>by simp[NJ]at h
  | .V8 _ _,q,hj,h=>by simp[NJ]at h
  | .exit _,q,hj,h=>by simp[NJ]at h
  | .ret,q,hj,h=>by simp[NJ]at h
theorem LK.aya{f':LZ U}{c:sb}(h:∀q L,f' q=some L->abh P nt kk ((NJ c q).getD .skip) L):LK P nt kk f' 0 c:=
 LK.of λq b L h1 ah=>by grind
theorem LK.none{c:sb}:LK P nt kk (λ_=>none:LZ U) 0 c:=LK.aya λq L h=>by cases h
theorem JW.none :JW P (λ_=>[]:KR U):=λf s h=>by simp at h
end
end Go.Proofs.YtijpinendaoleaaGreat.Shv
namespace Go.Proofs.YtijpinendaoleaaGreat.Shv
open Go
def alP(P:Program)(fn:Func):sb:=
 match fn.body.bind (Shv.resolve P fn.ntmps)with
 | some c=>c
 | none=>.skip
def abK(c:sb)(q:Nat):sb:=(NJ c q).getD .skip
def OL{U:l1}:List (nc U)->KR U
 | [],_=>[]
 | s::l,f=>match Nat.beq s.f f with
  | true=>s::OL l f
  | false=>OL l f
def VZ{U:l1}(l:List (Nat×Ob U)):LZ U:=λq=>er l q
theorem JW.nil{U:l1}{P:Program}:JW P (OL ([]:List (nc U))):=λf s h=>by simp[OL]at h
theorem JW.cons{U:l1}{P:Program}{s:nc U}{l:List (nc U)}(ai:Nb P s.f=true)(hs:Nl P s)(h:JW P (OL l)):JW P (OL (s::l)):=by
 intro f t ht;simp only[OL]at ht;split at ht
 . rename_i c6;have:=f7 c6;rcases LU.1 ht with rfl | ht
   . grind
   . exact h f t ht
 . exact h f t ht
def O5{U:l1}(P:Program)(nt kk:Nat)(c:sb)(l:List (Nat×Ob U)):Prop:=∀q L,er l q=some L->abh P nt kk (abK c q) L
theorem O5.nil{U:l1}{P:Program}{nt kk:Nat}{c:sb}:O5 P nt kk c ([]:List (Nat×Ob U)):=λq L h=>by simp[er]at h
theorem O5.cons{U:l1}{P:Program}{nt kk:Nat}{c:sb}{q:Nat}{L:Ob U}{l:List (Nat×Ob U)}(s4:abh P nt kk (abK c q) L)(h:O5 P nt kk c l):O5 P nt kk c ((q,L)::l):=by
 intro Zd L' ee;simp only[er]at ee;split at ee
 . simp_all
 . exact h Zd L' ee
theorem O5.snd{U:l1}{P:Program}{nt kk:Nat}{c:sb}{l:List (Nat×Ob U)}(h:O5 P nt kk c l):LK P nt kk (VZ l) 0 c:=LK.aya λq L ee=>h q L ee
def hO(k:IntKind)(a b:Int):Int:=k.wrap (a+b)
def Lx(k:IntKind)(a b:Int):Int:=k.wrap (a - b)
def ago(k:IntKind)(a b:Int):Int:=k.wrap (a*b)
def aLZ(a b:Int):Int:=a.tmod b
def apY(k:IntKind)(a b:Int):Int:=k.wrap (BitVec.ofInt k.bits a ^^^ BitVec.ofInt k.bits b).toNat
def apH(k:IntKind)(a b:Int):Int:=k.wrap (a*2 ^ min b.toNat k.bits)
def akb(k:IntKind)(a b:Int):Int:=a.fdiv (2 ^ min b.toNat k.bits)
end Go.Proofs.YtijpinendaoleaaGreat.Shv
namespace Go.Proofs.YtijpinendaoleaaGreat.Shv
open Go
set_option linter.all false
variable {U:l1}
structure hU where
 q:Nat
 hp:Shape
 own:List (Pos×c9)
 apB:List (Pos×c9)
 ts:List c9
 outs:List QM
 sub:List hU
structure fu where
 f:Nat
 MR:List KT
 st:List Me
 ts:List c9
 HS:KT
 D':List Me
 us:List c9
 sub:List hU
def hU.l(e:hU)(F:d' U.D e.ts->Option (ID U e.outs)):Ob U:=⟨e.hp,e.own,e.ts,e.outs,F⟩
def fu.s(e:fu)(F:d' U.D e.ts->Option (d' U.D e.us)):nc U:=⟨e.f,e.MR,e.st,e.ts,e.HS,e.D',e.us,F⟩
def codeF(P:Program)(f:Nat):sb:=match P.funcs[f]? with
 | some fn=>alP P fn
 | none=>.skip
def agq(P:Program)(f:Nat):Nat:=match P.funcs[f]? with
 | some fn=>fn.ntmps
 | none=>0
def att(P:Program)(f:Nat):List OW:=match P.funcs[f]? with
 | some fn=>(match NH P fn.results.toList with
  | some r=>r
  | none=>[])
 | none=>[]
def aa0(P:Program)(e:fu):Bool:=match P.funcs[e.f]? with
 | some fn=>Nb P e.f && ((fn.body.bind (resolve P fn.ntmps)).isSome && ((NH P fn.results.toList).isSome && Nat.ble e.MR.length fn.ntmps))
 | none=>false
def OY(P:Program)(e:fu):Prop:=aa0 P e=true
theorem OY.m{P:Program}{e:fu}(h:aa0 P e=true):OY P e:=h
def abL(fo:KR U)(f':LZ U)(kk:Nat)(b:sb)(e:hU)(JL:d' U.D e.ts->Option (ID U e.outs))(h:d' U.D e.ts):Option (ID U e.outs):=
 Qu fo f' kk b 0 (ME U e.hp (d'.cells U.D e.ts h)).1 (ME U e.hp (d'.cells U.D e.ts h)).2 e.hp.st.length (λx env J N=>match x with
  | .normal=>match Zn kk e.apB e.hp e.ts env J N with
   | some vc=>JL vc
   | none=>none
  | x=>Zb kk e.outs x env J N)
def abd(fo:KR U)(f':LZ U)(P:Program)(e:fu)(h:d' U.D e.ts):Option (d' U.D e.us):=
 akl e.st.length (Ln 0 e.st (QY e.MR (d'.cells U.D e.ts h)).2) λJ N=>Qu fo f' e.st.length (codeF P e.f) 0 (abe 0 (QY e.MR (d'.cells U.D e.ts h)).1) J N (ay6 e.st.length (att P e.f) e.HS e.D' e.us)
section
variable {P:Program}
theorem as9 {fo:KR U} (n1:JW P fo) {f':LZ U} {nt kk:Nat} {b:sb} {e:hU} {h:d' U.D e.ts} {o:ID U e.outs} {JL:d' U.D e.ts -> Option (ID U e.outs)}
 (L6:LK P nt kk f' 0 b) (RY:∀h o,JL h=some o->U3 P nt kk b e.hp e.ts e.outs h o) (aa:abL fo f' kk b e JL h=some o):U3 P nt kk b e.hp e.ts e.outs h o:=by
 refine U3.aLI (own:=e.apB) n1 L6 RY (Eq.trans ?_ aa);unfold abL
 congr 1
 funext x env J N
 cases x with
 | normal=>
  dsimp only;generalize Zn kk e.apB e.hp e.ts env J N=z;cases z <;> rfl
 | _=>rfl
theorem asS {fo:KR U} {f':LZ U} {e:fu} (hk:OY P e) (F:d' U.D e.ts -> Option (d' U.D e.us)) (n1:JW P fo) (L6:LK P (agq P e.f) e.st.length f' 0 (codeF P e.f))
 {h:d' U.D e.ts} {r:d' U.D e.us} (aa:abd fo f' P e h=some r):abg P (e.s F) h r:=by
 unfold OY aa0 at hk;unfold codeF at L6;unfold agq at L6;unfold abd codeF att at aa;split at hk
 . rename_i fn E';simp only[E']at L6 aa;simp only[kc]at hk;obtain⟨bJ,ea,hi,q0⟩:=hk;obtain⟨c,ay⟩:=agz.1 ea;obtain⟨Jk,ar⟩:=agz.1 hi;have ai3:alP P fn=c:=by unfold alP;rw[ay]
   rw[ai3]at L6 aa;simp only[ar]at aa;exact abg.apl (s:=e.s F) E' ay ar q0 n1 L6 aa
 . cases hk
theorem OY.b{e:fu}(hk:OY P e):Nb P e.f=true:=by
 unfold OY aa0 at hk
 grind
def afw(fo:KR U)(kk:Nat):Nat->sb->(e:hU)->d' U.D e.ts->Option (ID U e.outs)
 | 0,_,_,_=>none
 | n+1,b,e,h=>abL fo (VZ (e.sub.map λs=>(s.q,s.l (afw fo kk n (abK b s.q) s)))) kk b e (afw fo kk n b e) h
def aa'(g:(e:fu)->d' U.D e.ts->Option (d' U.D e.us))(r:List (nc U)):List fu->KR U
 | [],f=>OL r f
 | e::T,f=>match Nat.beq e.f f with
  | true=>e.s (g e)::aa' g r T f
  | false=>aa' g r T f
def Ut(P:Program)(T:List fu)(X:List (nc U)):Nat->(e:fu)->d' U.D e.ts->Option (d' U.D e.us)
 | 0,_,_=>none
 | n+1,e,h=>abd (aa' (Ut P T X n) X T) (VZ (e.sub.map λs=>(s.q,s.l (afw (aa' (Ut P T X n) X T) e.st.length n (abK (codeF P e.f) s.q) s)))) P e h
theorem aoX{nt kk:Nat}{b:sb}{g:(s:hU)->d' U.D s.ts->Option (ID U s.outs)}:∀{l:List hU},(∀s h o,g s h=some o->U3 P nt kk (abK b s.q) s.hp s.ts s.outs h o)->O5 P nt kk b (l.map λs=>(s.q,s.l (g s)))
 | [],_=>O5.nil
 | s::l,a8=>O5.cons (λh o c7=>a8 s h o c7) (aoX (l:=l) a8)
theorem al7{fo:KR U}(n1:JW P fo){nt kk:Nat}:∀(n:Nat) (b:sb) (e:hU) (h:d' U.D e.ts) (o:ID U e.outs),afw fo kk n b e h=some o->U3 P nt kk b e.hp e.ts e.outs h o
 | 0,_,_,_,_,aa=>by simp[afw]at aa
 | n+1,b,e,h,o,aa=>as9 n1 (O5.snd (aoX λs h o c7=>al7 n1 n _ s h o c7)) (λh o c7=>al7 n1 n b e h o c7) aa
theorem auY{g:(e:fu)->d' U.D e.ts->Option (d' U.D e.us)}{r:List (nc U)}(ar:JW P (OL r)):∀{T:List fu},(∀e,e∈T->OY P e)->(∀e,e∈T->Nl P (e.s (g e)))->JW P (aa' g r T)
 | [],_,_=>ar
 | e::T,hk,a8=>by
  intro f t ht;simp only[aa']at ht;have ih:=auY ar (λe he=>hk e (ajY _ he)) (λe he=>a8 e (ajY _ he));split at ht
  . rename_i c6;have:=f7 c6;rcases LU.1 ht with rfl | ht
    . exact⟨this,by rw[<-this];exact(hk e ajG).b,a8 e ajG⟩
    . exact ih f t ht
  . exact ih f t ht
theorem auZ{T:List fu}(hk:∀e,e∈T->OY P e){X:List (nc U)}(Uy:JW P (OL X)):∀(n:Nat) (e:fu),OY P e->Nl P (e.s (Ut P T X n e))
 | 0,e,_=>λh r ar=>by simp[fu.s,Ut]at ar
 | n+1,e,he=>Nl.of λh r ar=>
  have n1:JW P (aa' (Ut P T X n) X T):=auY Uy hk λqa Jx=>auZ hk Uy n qa (hk qa Jx)
  asS he _ n1 (O5.snd (aoX λs h o c7=>al7 n1 n _ s h o c7)) ar
end
end Go.Proofs.YtijpinendaoleaaGreat.Shv
namespace Go.Proofs.YtijpinendaoleaaGreat.Shv
open Go
set_option linter.all false
variable {U:l1} {P:Program}
def OD(P:Program)(s:nc U):Prop:=Nb P s.f=true/\Nl P s
def aa1(P:Program)(f:Nat):List Nat->sb
 | []=>codeF P f
 | q::p=>abK (aa1 P f p) q
def abi(P:Program)(f kk:Nat)(p:List Nat)(e:hU)(F:d' U.D e.ts->Option (ID U e.outs)):Prop:=abh P (agq P f) kk (aa1 P f p) (e.l F)
def Ro(P:Program)(l:List (nc U)):Prop:=JW P (OL l)
theorem Ro.n :Ro P ([]:List (nc U)):=JW.nil
theorem Ro.k{s:nc U}{l:List (nc U)}(h:OD P s)(aJ:Ro P l):Ro P (s::l):=JW.cons h.1 h.2 aJ
def S0(P:Program)(f kk:Nat)(p:List Nat)(l:List (Nat×Ob U)):Prop:=O5 P (agq P f) kk (aa1 P f p) l
theorem S0.n{f kk:Nat}{p:List Nat}:S0 P f kk p ([]:List (Nat×Ob U)):=O5.nil
theorem S0.k{f kk q:Nat}{p:List Nat}{e:hU}{F:d' U.D e.ts->Option (ID U e.outs)}{l:List (Nat×Ob U)}(h:abi P f kk (q::p) e F)(aJ:S0 P f kk p l):S0 P f kk p ((q,e.l F)::l):=O5.cons h aJ
def ahg(P:Program)(U:l1)(e:fu)(h:d' U.D e.ts)(r:d' U.D e.us):Prop:=abg P (e.s λ_=>none) h r
def adD(P:Program)(U:l1)(f kk:Nat)(p:List Nat)(e:hU)(h:d' U.D e.ts)(o:ID U e.outs):Prop:=U3 P (agq P f) kk (aa1 P f p) e.hp e.ts e.outs h o
theorem ahg.at{e:fu}(hk:OY P e){fs:List (nc U)}(c6:Ro P fs){ls:List (Nat×Ob U)}(aJ:S0 P e.f e.st.length [] ls){h:d' U.D e.ts}{r:d' U.D e.us}(aa:abd (OL fs) (VZ ls) P e h=some r):ahg P U e h r:=
 asS hk _ c6 (O5.snd aJ) aa
theorem adD.at {f kk:Nat} {p:List Nat} {e:hU} {JL:d' U.D e.ts -> Option (ID U e.outs)} (tr:∀h o,JL h=some o -> adD P U f kk p e h o) {fs:List (nc U)} (c6:Ro P fs) {ls:List (Nat×Ob U)} (aJ:S0 P f kk p ls) {h:d' U.D e.ts} {o:ID U e.outs}
 (aa:abL (OL fs) (VZ ls) kk (aa1 P f p) e JL h=some o):adD P U f kk p e h o:=
 as9 c6 (O5.snd aJ) tr aa
theorem OD.of{e:fu}(hk:OY P e){F:d' U.D e.ts->Option (d' U.D e.us)}(h:∀h r,F h=some r->ahg P U e h r):OD P (e.s F):=⟨hk.b,Nl.of h⟩
theorem abi.of{f kk:Nat}{p:List Nat}{e:hU}{F:d' U.D e.ts->Option (ID U e.outs)}(h:∀h o,F h=some o->adD P U f kk p e h o):abi P f kk p e F:=h
theorem OD.fn{e:fu}(hk:OY P e){F:d' U.D e.ts->Option (d' U.D e.us)}{fs:List (nc U)}(c6:Ro P fs){ls:List (Nat×Ob U)}(aJ:S0 P e.f e.st.length [] ls)(aa:∀h,abd (OL fs) (VZ ls) P e h=F h):OD P (e.s F):=
 .of hk λh r ar=>.at hk c6 aJ ((aa h).trans ar)
theorem OD.rc {e:fu} (hk:OY P e) {F:d' U.D e.ts -> Option (d' U.D e.us)} {b:(d' U.D e.ts -> Option (d' U.D e.us)) -> d' U.D e.ts -> Option (d' U.D e.us)}
 (aj3:∀m:d' U.D e.ts->d' U.D e.us->Prop,(∀JL,(∀h r,JL h=some r->m h r)->∀h r,b JL h=some r->m h r)->∀h r,F h=some r->m h r)
 {fs:(d' U.D e.ts->Option (d' U.D e.us))->List (nc U)} (c6:∀JL,OD P (e.s JL)->Ro P (fs JL)) {ls:List (Nat×Ob U)} (aJ:S0 P e.f e.st.length [] ls) (aa:∀JL h,abd (OL (fs JL)) (VZ ls) P e h=b JL h):OD P (e.s F):=
 .of hk (aj3 _ λJL tr h r ar=>.at hk (c6 JL (.of hk tr)) aJ ((aa JL h).trans ar))
theorem abi.rc {f kk:Nat} {p:List Nat} {e:hU} {F:d' U.D e.ts -> Option (ID U e.outs)} {b:(d' U.D e.ts -> Option (ID U e.outs)) -> d' U.D e.ts -> Option (ID U e.outs)}
 (aj3:∀m:d' U.D e.ts->ID U e.outs->Prop,(∀JL,(∀h r,JL h=some r->m h r)->∀h r,b JL h=some r->m h r)->∀h r,F h=some r->m h r)
 {fs:List (nc U)} (c6:Ro P fs) {ls:List (Nat×Ob U)} (aJ:S0 P f kk p ls) (aa:∀JL h,abL (OL fs) (VZ ls) kk (aa1 P f p) e JL h=b JL h):abi P f kk p e F:=
 .of (aj3 _ λJL tr h o c7=>.at tr c6 aJ ((aa JL h).trans c7))
theorem aHn{T:List fu}(h:T.all (aa0 P)=true):∀e,e∈T->OY P e:=λe he=>qx.1 h e he
theorem OD.run{T:List fu}(k':T.all (aa0 P)=true){X:List (nc U)}(Uy:Ro P X){e:fu}(hk:OY P e){F:d' U.D e.ts->Option (d' U.D e.us)}(n:Nat)(h:∀h,F h=Ut P T X n e h):OD P (e.s F):=
 ⟨hk.b,λx r ar=>auZ (aHn k') Uy n e hk x r ((h x).symm.trans ar)⟩
abbrev ad :c9:= .int .i64
abbrev a'(n:Nat):c9:= .slice (.nm n)
abbrev KV :c9:= .slice .str
abbrev eJ :c9:= .slice (.int .i64)
abbrev ak(t:c9):KT:= .c (.hole t)
abbrev eb(b o:Nat):KT:= .c (.ptr b o)
abbrev k4(t:c9):Me:= .box [.hole t]
abbrev Jh(k:Nat)(t:c9):QM:=⟨.ret,⟨[(k,ak t)],[]⟩,[],[t]⟩
abbrev Mc(i:Nat):QM:=⟨.exit i,⟨[],[]⟩,[],[]⟩
end Go.Proofs.YtijpinendaoleaaGreat.Shv
namespace Go.Proofs.YtijpinendaoleaaGreat.Shv
set_option linter.all false
section
open Go
variable {U:l1}
def abp(sz bytes:Nat)(z:List C):sb:=
 .seq (.region [⟨some 2,.mov (.const (.c .eI)),none⟩])
  (.seq (.seq (.region [⟨some 3, .mov (.tmp 0), none⟩, ⟨some 4, .eqNil false (.tmp 3), none⟩])
   (.cond (.tmp 4) (.seq (.region [⟨some 2,.mov (.const (.c .eI)),none⟩]) .ret) .skip))
   (.seq (.region [⟨some 5,.bslice sz 0 z [],none⟩,⟨some 6,.mov (.tmp 0),none⟩,⟨some 7,.append sz bytes (.tmp 5) (.tmp 6),none⟩,⟨some 2,.mov (.tmp 7),none⟩]) .ret))
def MS{α:Type}(bytes:Nat)(l:List α):Option (List α):=if room bytes l.length=true then some l else none
def abM(U:l1)(f:Nat)(t:c9)(bytes:Nat):nc U:=
 ⟨f,[.c (.hole (.slice t))],[],[.slice t],.c (.arr 0),[.arr t],[.slice t],λ(l:List (t.den U.D))=>MS bytes l⟩
section
variable {P:Program}
theorem aGL {f:Nat} {fn:Func} {sz bytes:Nat} {z:List C} {NL:List T} {es:List (List T)} (c6:P.funcs[f]?=some fn) (ay:fn.body.bind (Shv.resolve P fn.ntmps)=some (abp sz bytes z)) (ar:NH P fn.results.toList=some [.tmp 2])
 (g':1<=fn.ntmps) (gA:toTs z=some NL) (hI:0 < sz) (he:∀e,e∈es->e.length=sz) (Lp:room bytes es.length=true):
 yq P f [.c (.t (.slice es))] [] 0 (λr J' N'=>N'=1/\r= .c (.arr 0 sz 0 es.length)/\ec J' 0=some (.arr sz es)):=by
 have af2:=ab0.1 Lp;refine yq.tidy (Q:=λr J' N'=>∃b,r= .c (.arr b sz 0 es.length)/\ec J' b=some (.arr sz es)) (yq.mk c6 ay ar rfl (by simpa using g') ?_) ?_
 . unfold abp;refine k1.seq (k1.region ?_);simp only[QP,MC,Ks,dy,dJ.get,La,zt,JZ,m'.neutral,q',andThen];refine .inr ⟨λ_=>trivial,.inl trivial,?_⟩;refine k1.seq (k1.seq (k1.region ?_));simp only[QP,MC,Ks,dy,dJ.get,La,zt,m'.neutral,q',andThen,look,TI,Y']
   refine .inr ⟨λ_=>by simp,.inl trivial,?_⟩;refine .inr ?_;simp only[Nat.reduceEqDiff,vv,q',La,true_and];intro b ai;refine k1.cond (b:=b) (p:=True) (by simp[dJ.get,look,aaf]) trivial (λan0=>?_) (λaJU=>?_)
   ·
    have C':es=[]:=by grind
    subst C';refine k1.seq (k1.region ?_);simp only[QP,MC,Ks,dy,dJ.get,La,zt,m'.neutral,q',andThen];refine .inr ⟨λ_=>trivial,.inl trivial,?_⟩;refine k1.conv (Conv.own (k:=2) (g:=true) (sz:=sz) rfl hI (Pq _)) (k1.ret ?_)
    refine⟨_,_,rfl,⟨rfl,trivial⟩,_,rfl,?_⟩;rw[o',b6 rfl]
   . refine k1.skip ?_;refine k1.seq (k1.region ?_);simp only[QP,MC,Ks,dy,dJ.get,La,zt,m'.neutral,q',andThen,look,PC,gA,eg,Nat.reduceEqDiff,vv,u1,reduceCtorEq,TS,o',List.replicate];refine .inr ⟨λ_=>trivial,.inr trivial,?_⟩;refine .inr ⟨λ_=>by simp,.inl trivial,?_⟩
     refine .inr ⟨λ_=>⟨trivial,trivial,trivial,trivial,trivial,by simp,he,by simpa using af2.1,by simpa using af2.2⟩,.inr trivial,?_⟩;refine .inr ⟨λ_=>by simp,.inl trivial,?_⟩;refine k1.ret ⟨_,[.c (.arr 80 sz 0 (0+es.length))],rfl,⟨rfl,trivial⟩,80,by rw[Jq];rfl,?_⟩;rw[o',b6 rfl];simp
 . rintro r J' N' ⟨b,rfl,hs⟩
   refine⟨[b],_,_,by simp,rfl,?_,λi x aa=>⟨x,aa,?_⟩,rfl,rfl,?_⟩
   . simp only[V.hD,C.hD,pos,q'];exact .c (r2.refl _)
   . cases x with
     | box cs=>exact .box (ez.self r2.refl _)
     | arr sz es=>exact .arr
     | set ks=>exact .same
     | buf E s=>exact .same
     | h4 E c=>exact .h4 (r2.refl _)
     | k6 sz es i o c=>exact .k6 (r2.refl _)
   . simp[m5,hs,ec,hE.hD]
theorem amo {f:Nat} {fn:Func} {sz bytes:Nat} {z:List C} {NL:List T} {t:c9} (c6:P.funcs[f]?=some fn) (ay:fn.body.bind (Shv.resolve P fn.ntmps)=some (abp sz bytes z)) (ar:NH P fn.results.toList=some [.tmp 2])
 (g':Nat.ble 1 fn.ntmps=true) (gA:toTs z=some NL) (hI:t.sz U=sz):Nl P (abM U f t bytes):=by
 intro(l:List (t.den U.D)) r tr Tc J1 ch c8;subst hI;have RY:MS bytes l=some r:=tr;unfold MS at RY;split at RY
 . rename_i Lp;cases RY;cases ch with
   | cons h1 ah=>
    cases ah;have:=h3.Qq (t:=t) (l:=l) h1;subst this
    refine yq.conv (J':=[]) (.cons (.c (r2.refl _)) .nil) (λb x aa=>by simp[ec]at aa) ((aGL (bytes:=bytes) c6 ay ar (NI g') gA c9.adn (es:=List.map (t.enc U) l) (λe he=>by
     obtain⟨y,_,rfl⟩:=LV.1 he
     exact c9.aas) (by rw[JU];exact Lp)).mono ?_)
    rintro kJ s1 RJ ⟨rfl,rfl,hs⟩
    refine⟨rfl,.c (.arr 0 _ _ (by omega) λx aa p a7=>?_),λb x aa=>?_⟩
    . have:x=oj.arr t l:=by
       simp only[nc.rest,abM,QX,YI,d'.cells,Jb.cells,Ln,Of,er,Nat.beq,hz]at aa
       grind
      subst this;simp only[oj.rz,hz]at a7;rw[<-a7,JU]
    . have Je:(if b=0 then some (oj.arr t l)else none)=some x:=by
       rw[<-aa];simp only[nc.rest,abM,QX,YI,d'.cells,Jb.cells,Ln,Of,er];cases b <;> rfl
      split at Je
      . rename_i ai;cases Je;subst ai;exact⟨by omega,_,hs,.arr t l⟩
      . cases Je
 . cases RY
def aIK{α:Type}(bytes:Nat)(l:List α):Option (List α×List α):=(MS bytes l).map λr=>(l,r)
def aid(U:l1)(f:Nat)(t:c9)(bytes:Nat):nc U:=
 ⟨f,[.c (.arr 0)],[.arr t],[.slice t],.c (.arr 1),[.arr t,.arr t],[.slice t,.slice t],λ(l:List (t.den U.D))=>aIK bytes l⟩
theorem aFX {f:Nat} {fn:Func} {sz bytes:Nat} {z:List C} {NL:List T} {es:List (List T)} {h2:ep} (c6:P.funcs[f]?=some fn) (ay:fn.body.bind (Shv.resolve P fn.ntmps)=some (abp sz bytes z)) (ar:NH P fn.results.toList=some [.tmp 2])
 (g':1<=fn.ntmps) (gA:toTs z=some NL) (hI:0 < sz) (he:∀e,e∈es->e.length=sz) (Lp:room bytes es.length=true) (h0:ec h2 0=some (.arr sz es)):
 yq P f [.c (.arr 0 sz 0 es.length)] h2 1 (λr J' N'=>N'=2/\r= .c (.arr 1 sz 0 es.length)/\ec J' 0=some (.arr sz es)/\ec J' 1=some (.arr sz es)):=by
 have af2:=ab0.1 Lp;refine yq.tidy (Q:=λr J' N'=>∃b,1<=b/\r= .c (.arr b sz 0 es.length)/\ec J' 0=some (.arr sz es)/\ec J' b=some (.arr sz es)) (yq.mk c6 ay ar rfl (by simpa using g') ?_) ?_
 . unfold abp;refine k1.seq (k1.region ?_);simp only[QP,MC,Ks,dy,dJ.get,La,zt,JZ,m'.neutral,q',andThen];refine .inr ⟨λ_=>trivial,.inl trivial,?_⟩;refine k1.seq (k1.seq (k1.region ?_));simp only[QP,MC,Ks,dy,dJ.get,La,zt,m'.neutral,q',andThen,look,TI,Y']
   refine .inr ⟨λ_=>by simp,.inl trivial,?_⟩;refine .inr ?_;simp only[Nat.reduceEqDiff,vv,q',La,true_and];intro b ai;refine k1.cond (b:=b) (p:=True) (by simp[dJ.get,look,aaf]) trivial (λan0=>?_) (λaJU=>?_)
   . have C':es=[]:=by grind
     subst C';refine k1.seq (k1.region ?_);simp only[QP,MC,Ks,dy,dJ.get,La,zt,m'.neutral,q',andThen];refine .inr ⟨λ_=>trivial,.inl trivial,?_⟩;refine k1.conv (Conv.own (k:=2) (g:=true) (sz:=sz) rfl hI (by omega)) (k1.ret ?_)
     refine⟨_,_,rfl,⟨rfl,trivial⟩,_,by omega,rfl,?_,?_⟩
     . rw[o',b' (by omega)];exact h0
     . rw[o',b6 rfl]
   . refine k1.skip ?_;refine k1.seq (k1.region ?_);simp only[QP,MC,Ks,dy,dJ.get,La,zt,m'.neutral,q',andThen,look,PC,gA,eg,Nat.reduceEqDiff,vv,u1,reduceCtorEq,List.replicate];refine .inr ⟨λ_=>trivial,.inr trivial,?_⟩;refine .inr ⟨λ_=>by simp,.inl trivial,?_⟩
     have b8:∀v:List (List T),TS (q1 h2 (1+16*1+16*2) (.arr sz v)) (.c (.arr 0 sz 0 es.length))=some (es,some 0):=by
      intro v;simp[TS,o',h0]
     refine .inr ?_;simp only[TI,Y',Jq]at b8 ⊢;rw[b8];simp only[eg,o',q',hz,Nat.reduceMul,Nat.reduceAdd,show ¬(0=49) by omega,show ¬(49=0) by omega,vv];refine⟨λ_=>⟨trivial,trivial,trivial,trivial,trivial,by simp,he,by simpa using af2.1,by simpa using af2.2⟩,.inr trivial,?_⟩
     refine .inr ⟨λ_=>by simp,.inl trivial,?_⟩;refine k1.ret ⟨_,[.c (.arr 81 sz 0 es.length)],rfl,⟨rfl,trivial⟩,81,by omega,rfl,?_,?_⟩
     . rw[o',b' (by omega),J8,b' (by omega),o',b' (by omega)];exact h0
     . rw[o',b6 rfl];simp
 . rintro r J' N' ⟨b,J4,rfl,Pj,hs⟩
   refine⟨[0,b],_,_,by simp;omega,rfl,?_,λi x aa=>⟨x,aa,?_⟩,rfl,rfl,?_⟩
   . simp only[V.hD,C.hD,pos,b' (show ¬0=b by omega),q'];exact .c (r2.refl _)
   . cases x with
     | box cs=>exact .box (ez.self r2.refl _)
     | arr sz es=>exact .arr
     | set ks=>exact .same
     | buf E s=>exact .same
     | h4 E c=>exact .h4 (r2.refl _)
     | k6 sz es i o c=>exact .k6 (r2.refl _)
   . simp[m5,hs,Pj,ec,hE.hD]
theorem aFY {f:Nat} {fn:Func} {sz bytes:Nat} {z:List C} {NL:List T} {t:c9} (c6:P.funcs[f]?=some fn) (ay:fn.body.bind (Shv.resolve P fn.ntmps)=some (abp sz bytes z)) (ar:NH P fn.results.toList=some [.tmp 2])
 (g':Nat.ble 1 fn.ntmps=true) (gA:toTs z=some NL) (hI:t.sz U=sz):Nl P (aid U f t bytes):=by
 intro(l:List (t.den U.D)) r tr Tc J1 ch c8;subst hI;have RY:(MS bytes l).map (λr=>(l,r))=some r:=tr;unfold MS at RY;split at RY
 . rename_i Lp;cases RY;cases ch with
   | cons h1 ah=>
    cases ah;obtain⟨sz,n,rfl,_,a6⟩:=h1.MB;obtain⟨_,y,aga,agb⟩:=c8 0 (.arr t l) rfl;cases agb;have:=a6 (.arr t l) rfl (t.sz U,l.length) rfl;simp only[hy]at this;obtain⟨rfl,rfl⟩:=this;have hlen:l.length=(l.map (t.enc U)).length:=by rw[JU]
    rw[hlen]
    refine(aFX (bytes:=bytes) c6 ay ar (NI g') gA c9.adn (es:=List.map (t.enc U) l) (λe he=>by
     obtain⟨y,_,rfl⟩:=LV.1 he
     exact c9.aas) (by rw[JU];exact Lp) aga).mono ?_
    rintro kJ s1 RJ ⟨rfl,rfl,Pj,aKV⟩
    have Jy:∀b x,er ((aid U f t bytes).rest (l,l)) b=some x->(b=0\/b=1)/\x=oj.arr t l:=by
     intro b x aa;have Je:(if b=0 then some (oj.arr t l)else if b=1 then some (oj.arr t l)else none)=some x:=by
      rw[<-aa];simp only[nc.rest,aid,QX,YI,d'.cells,Jb.cells,Ln,Of,er]
      match b with
      | 0=>rfl
      | 1=>rfl
      | _+2=>rfl
     grind
    refine⟨rfl,.c (.arr 1 _ _ (by omega) λx aa p a7=>?_),λb x aa=>?_⟩
    . obtain⟨_,rfl⟩:=Jy _ _ aa;simp only[oj.rz,hz]at a7;rw[<-a7,JU]
    . obtain⟨ai,rfl⟩:=Jy _ _ aa;rcases ai with rfl | rfl
      . exact⟨by omega,_,Pj,.arr t l⟩
      . exact⟨by omega,_,aKV,.arr t l⟩
 . cases RY
end
end
section
open Go Go.Proofs Go.Proofs.YtijpinendaoleaaGreat Go.Shelf
variable {U:l1}
def aie(U:l1)(f E Wj:Nat):nc U:=
 ⟨f,[.c (.ptr 0 0)],[.h4 E (.l' 1),.buf Wj],[.str],.fz [],[.h4 E (.l' 1),.buf Wj],[.str],λ(s:List UInt8)=>some s⟩
section
variable {P:Program} {ρ:Ren}
theorem aGM(L:Lays.n240 P ρ)(X:Builder.X72 P ρ){J:ep}{Wj n:Nat}{s:List UInt8}(h0:ec J 0=some (.h4 (ρ.t 72) (.l' 1 n)))(h1:ec J 1=some (.buf Wj s)):
 yq P (ρ.f 240) [.c (.ptr 0 0)] J 2 (λr J' N'=>r= .fz []/\J'=J/\N'=2):=by
 intro φ S w B Lr wk UG ze vs x0;cases x0 with | cons cJ x0=>
 cases x0;have aor:=cJ.M8;subst aor;obtain⟨k9,⟨p,v,ak,a7,acQ⟩,DI⟩:=Lr.blk 0 _ h0
 have same : ∀ w', w' = w -> ∃ (v : Value) (r : V) (hn : q4) (hK : r3) (J' : ep) (N' : Nat), Ending.returned (Value.tuple #[]) = Ending.returned v /\ (r = .fz [] /\ J' = J /\ N' = 2) /\ km hn w' hK r v /\ r.cx (lt N') = true /\ Yv hn w' hK J' /\ (∀ (b : Nat) x, ec J' b = some x -> b < N' /\ x.cx (lt N') = true) /\ Ext B S hK w w' /\
  (∀(b:Nat) x,ec J' b=some x->(hn b).2≠0->B (hn b).1\/w.heap.size<=(hn b).1)/\∀b,b < 2->hn b=φ b:=by
  rintro w' rfl
  exact⟨_,.fz [],φ,S,J,2,rfl,⟨rfl,rfl,rfl⟩,.fz [] [] rfl (by simp),rfl,Lr,wk,Ext.refl,λb x aa ai=>.inl (UG b x aa ai),λ_ _=>rfl⟩
 rcases a7 with rfl | rfl
 . have an1:w.cell? ⟨(φ 0).1,0,none⟩=some (.pointer none):=by rw[OZ (vs:=[_,_]) ak];rfl
   have aoD:w.shape? (φ 0).1=some (ρ.t 72,2):=by simp[World.shape?,ak]
   have YP:w.frozen? ⟨(φ 0).1,0,none⟩=false:=by simp[World.frozen?,ak]
   refine(Any.Builder_copyCheck_fresh L X (φ 0).1 w an1 aoD YP).mono ?_
   rintro e w' ⟨rfl,rfl⟩
   obtain⟨y0,t'⟩:=aqw (vs:=[.pointer none,v]) ak 0 (.pointer (some ⟨(φ 0).1,0,none⟩));have m:Lm w S (w.setCell ⟨(φ 0).1,0,none⟩ (.pointer (some ⟨(φ 0).1,0,none⟩))) S:=⟨λ_ _ h=>h,λb j h=>Yh (t' b (λe=>DI j (e▸h))) j⟩
   refine⟨_,.fz [],φ,S,J,2,rfl,⟨rfl,rfl,rfl⟩,.fz [] [] rfl (by simp),rfl,⟨λb x aa=>?_,Lr.inj,λb j h=>?_⟩,wk,⟨rfl,rfl,rfl,by simp,λb ai u0=>t' b (λe=>u0 (e▸UG 0 _ h0 k9)),m,λ_ _ h=>.inl h⟩,λb x aa ai=>.inl (UG b x aa ai),λ_ _=>rfl⟩
   . by_cases ai:b=0
     . subst ai;rw[h0]at aa;cases aa;exact⟨k9,⟨_,v,y0,.inr rfl,gb.mono (n:=λ_=>true) m (λ_ _=>rfl) (C.Um _) acQ⟩,DI⟩
     . exact pr.mono (n:=λ_=>true) m (λ_ _=>rfl) rfl (by cases x <;> simp[hE.cx,C.Um]) (λVP=>t' _ (Lr.inj b 0 x _ aa h0 ai VP k9)) (Lr.blk b x aa)
   . have:=Lr.st b j h
     simpa using this
 . have an1:w.cell? ⟨(φ 0).1,0,none⟩=some (.pointer (some ⟨(φ 0).1,0,none⟩)):=by rw[OZ (vs:=[_,_]) ak];rfl
   refine(Any.Builder_copyCheck_used L X (φ 0).1 w an1).mono ?_
   rintro e w' ⟨rfl,rfl⟩
   exact same _ rfl
theorem aGN(L:Lays.n240 P ρ)(X:Builder.X72 P ρ){f E Wj:Nat}(c6:ρ.f 240=f)(JO:ρ.t 72=E):Nl P (aie U f E Wj):=by
 subst c6;subst JO;intro(s:List UInt8) r tr Tc J1 ch c8;have ar:r=s:=XI tr.symm;subst ar;cases ch with | cons ch Xl=>
 cases Xl;have:=ch.M8;subst this;have Qi:er ((aie U (ρ.f 240) (ρ.t 72) Wj).Oc r) 0=some (.h4 (ρ.t 72) (.l' 1)):=rfl;have L9:er ((aie U (ρ.f 240) (ρ.t 72) Wj).Oc r) 1=some (.buf Wj r):=rfl;obtain⟨_,Qx,g0,b0⟩:=c8 0 _ Qi;obtain⟨_,ady,g1,b1⟩:=c8 1 _ L9;cases b1;cases b0 with | @h4 _ _ d b0=>
 cases b0 with | l' _ n ai a6=>
 refine(aGM L X g0 g1).mono ?_
 rintro kJ s1 RJ ⟨rfl,rfl,rfl⟩
 exact⟨rfl,.fz [] [] rfl (by simp),c8⟩
end
end
section
open Go Go.ChangeShapes Go.WideShapes Go.RowKit
variable {U:l1}
def c9.Wc :c9->Nat
 | .bool=>1
 | .int k=>k.bits / 8
 | .str=>16
 | .slice _=>24
 | .nm _=>0
def alQ :List c9->Nat
 | []=>0
 | t::r=>t.Wc+alQ r
def Z7(l:List c9):Nat:=bif l.any λt=>Nat.ble 8 t.Wc then(alQ l+7) / 8*8 else alQ l
def c9.bytes(U:l1)(t:c9):Nat:=Z7 (t.cells U)
inductive WF (U:l1):Cell U.D->Prop
 | bool (b:Bool):WF U ⟨.bool,b⟩
 | int (k:IntKind) (n:Int) (h:(Lit.int k n).wf=true):WF U ⟨.int k,n⟩
 | str (s:List UInt8) (h:s.length<=reachBytes):WF U ⟨.str,s⟩
 | slice (t:c9) (l:List (t.den U.D)) (h:l.length<=reachBytes) (ah:l.length*t.bytes U<=reachBytes) (aJ:∀x,x∈l->∀c,c∈t.row U x->WF U c):WF U ⟨.slice t,l⟩
def l1.Total(U:l1):Prop:=∀n (l:List (Cell U.D)),l.map Cell.ty=U.q2 n->∃x,U.make n l=some x
def aki :List c9->List c9->Bool
 | [],[]=>true
 | a::l,b::m=>c9.beq a b && aki l m
 | _,_=>false
theorem avJ :∀{l m:List c9},aki l m=true->l=m
 | [],[],_=>rfl
 | a::l,b::m,h=>by
  simp only[aki,kc]at h;rw[c9.beq_eq h.1,avJ h.2]
 | [],_::_,h=>by cases h
 | _::_,[],h=>by cases h
def aeO(P:Program)(g:TypeId->Option (List c9)):List Field->Nat->Nat->Option (List c9)
 | [],off,NC=>match Nat.beq off NC with
  | true=>some []
  | false=>none
 | f::r,off,NC=>match g f.type with
  | none=>none
  | some a=>match Nat.beq f.offset off && Nat.beq (P.cellsOf f.type) a.length with
   | false=>none
   | true=>match aeO P g r (off+a.length) NC with
    | none=>none
    | some b=>some (a++b)
def flat(P:Program)(U:l1)(st:TypeId->Option Nat):Nat->TypeId->Option (List c9)
 | 0,_=>none
 | n+1,t=>match P.underlying t with
  | some .bool=>some [.bool]
  | some (.int k)=>some [.int k]
  | some .string=>some [.str]
  | some (.slice e)=>match st e with
   | some m=>match Nat.ble 1 (P.bytesOf e) && Nat.ble (Z7 (U.q2 m)) (P.bytesOf e)with
    | true=>some [.slice (.nm m)]
    | false=>none
   | none=>match flat P U st n e with
    | none=>none
    | some a=>match Nat.ble 1 (P.bytesOf e) && Nat.ble (Z7 a) (P.bytesOf e)with
     | false=>none
     | true=>match a with
      | [ty]=>match ty.agj with
       | true=>none
       | false=>some [.slice ty]
      | _=>none
  | some (.struct fs)=>aeO P (flat P U st n) fs.toList 0 (P.cellsOf t)
  | some (.array k e)=>match flat P U st n e with
   | none=>none
   | some a=>match Nat.beq (P.cellsOf t) (k*a.length) && Nat.beq (P.cellsOf e) a.length with
    | false=>none
    | true=>some (List.replicate k a).flatten
  | _=>none
theorem arJ{α:Type}{R:Nat->α->Prop}:∀(n:Nat),(∀i,i < n->∃x,R i x)->∃l:List α,l.length=n/\∀(i:Nat) x,l[i]?=some x->R i x
 | 0,_=>⟨[],rfl,by simp⟩
 | n+1,h=>by
  obtain⟨l,aJ,ar⟩:=arJ n λi al=>h i (by omega)
  obtain⟨x,aa⟩:=h n (by omega);refine⟨l++[x],by simp[aJ],λi y b8=>?_⟩
  grind
section
variable {H:Type} {enc:TypeId×Value->H} {P:Program} {w:World}
abbrev Old(w:World):r3:=λb _=>b < w.heap.size
structure Rd (U:l1) (w:World) (q2:List c9) (cs:List Value) (l:List (Cell U.D)):Prop where
 ty:l.map Cell.ty=q2
 wf:∀c,c∈l->WF U c
 rt:ez (λc v=>ik w (Old w) (Cell.enc U c) v) l cs
theorem aeP{t:c9}{x:t.den U.D}{v:Value}(h1:WF U ⟨t,x⟩)(ah:ik w (Old w) (Cell.enc U ⟨t,x⟩) v):Rd U w [t] [v] [⟨t,x⟩]:=
 ⟨rfl,by simpa using h1,.cons ah .nil⟩
theorem alv{t:TypeId}:∀{ds:List (DataW H)} {d:DataW H},d∈ds->∀n∈d.weights P t,n∈DataW.weightsAll P t ds
 | d0::ds,d,a6,n,g'=>by
  simp only[DataW.weightsAll,Nx];rcases LU.1 a6 with rfl | a6
  . grind
  . exact .inr (alv a6 n g')
theorem asT{g:TypeId -> Option (List c9)}{cs:List Value}:∀{fs:List Field} {off NC:Nat} {q2:List c9},
 (∀f,f∈fs->∀a,g f.type=some a->∃l,Rd U w a ((cs.drop f.offset).take (P.cellsOf f.type)) l)->
 aeO P g fs off NC=some q2->cs.length=NC->∃l,Rd U w q2 (cs.drop off) l
 | [],off,NC,q2,_,h,aJ=>by
  simp only[aeO]at h;split at h
  . rename_i e;cases h;have:=f7 e;refine⟨[],rfl,by simp,?_⟩;rw[Q6 (by omega)];exact .nil
  . cases h
 | f::r,off,NC,q2,a8,h,aJ=>by
  simp only[aeO]at h;split at h
  . cases h
  . rename_i a ch;split at h
    . cases h
    . rename_i ai;simp only[kc]at ai;have h1:=f7 ai.1;have ah:=f7 ai.2;split at h
      . cases h
      . rename_i b JE;cases h;obtain⟨L9,Qc⟩:=a8 f (by simp) a ch;obtain⟨IJ,JH⟩:=asT (λf c6=>a8 f (by simp[c6])) JE aJ;refine⟨L9++IJ,by simp[Qc.ty,JH.ty],?_,?_⟩
        . intro c ay;rcases Nx.1 ay with ay | ay
          . exact Qc.wf c ay
          . exact JH.wf c ay
        . have e:cs.drop off=(cs.drop off).take a.length++cs.drop (off+a.length):=by rw[<-ajK,List.take_append_drop]
          rw[e];refine ez.append ?_ JH.rt;have:=Qc.rt
          grind
theorem awI{a:List c9}{cs:List Value}:∀(k off:Nat),(∀i,i < k -> ∃l,Rd U w a ((cs.drop (off+i*a.length)).take a.length) l) -> cs.length=off+k*a.length ->
 ∃l,Rd U w (List.replicate k a).flatten (cs.drop off) l
 | 0,off,_,aJ=>by
  refine⟨[],rfl,by simp,?_⟩;rw[Q6 (by omega)];exact .nil
 | k+1,off,a8,aJ=>by
  obtain⟨L9,Qc⟩:=a8 0 (by omega);rw[agv,TJ]at Qc
  obtain⟨IJ,JH⟩:=awI (a:=a) (cs:=cs) k (off+a.length) (λi al=>by
   have:=a8 (i+1) (by omega)
   rwa [Nat.succ_mul,ajM (i*a.length),<-XJ]at this) (by rw[aJ,Nat.succ_mul];omega)
  refine⟨L9++IJ,by simp[Qc.ty,JH.ty,List.replicate_succ],?_,?_⟩
  . intro c ay;rcases Nx.1 ay with ay | ay
    . exact Qc.wf c ay
    . exact JH.wf c ay
  . have e:cs.drop off=(cs.drop off).take a.length++cs.drop (off+a.length):=by rw[<-ajK,List.take_append_drop]
    rw[e];exact ez.append Qc.rt JH.rt
theorem aGO{a:Addr}{n:Nat}{cs:List Value}(h:w.cells? 0 a n=some cs):cs.length=n/\∀j,j < n->w.cell? (a.add j)=cs[j]?:=by
 unfold World.cells? at h;rw[b6 (Pq _)]at h;exact⟨by simpa using mapM_some_length h,λj dx=>mapM_some_get h j j (by simp[dx])⟩
theorem asU{a:Addr}{v:Value}(h:w.cell? a=some v):a.spot=none/\a.block < w.heap.size:=by
 unfold World.cell? at h;split at h
 . rename_i ai;split at h
   . cases h
   . rename_i hs;refine⟨by simpa using hs,(agx.1 ai).1⟩
 . cases h
theorem au0{a:Addr}{i j:Nat}(h:a.spot=none):(a.add i).add j=⟨a.block,a.off+i+j,none⟩:=by
 obtain⟨b,o,sp⟩:=a;dsimp only at h;subst h;unfold Addr.add
 grind
theorem ax6(NC:U.Total){t:c9}{l:List (Cell U.D)}(h:l.map Cell.ty=t.cells U):∃x,t.row U x=l:=by
 have one:∀t:c9,l.map Cell.ty=[t]->∃x:t.den U.D,l=[⟨t,x⟩]:=by
  intro t h
  match l,h with
  | [⟨Ja,x⟩],h=>simp at h;subst h;exact⟨x,rfl⟩
 cases t with
 | nm n=>
  obtain⟨x,aa⟩:=NC n l h;exact⟨x,U.mk_eq n l x aa⟩
 | bool=>obtain⟨x,aa⟩:=one _ h;exact⟨x,aa.symm⟩
 | int k=>obtain⟨x,aa⟩:=one _ h;exact⟨x,aa.symm⟩
 | str=>obtain⟨x,aa⟩:=one _ h;exact⟨x,aa.symm⟩
 | slice t=>obtain⟨x,aa⟩:=one _ h;exact⟨x,aa.symm⟩
def Z9(P:Program)(U:l1)(st:TypeId->Option Nat):Prop:=∀e m,st e=some m->flat P U st 60 e=some (U.q2 m)
def adk :List (TypeId×Nat)->TypeId->Option Nat
 | [],_=>none
 | p::l,t=>match Nat.beq p.1 t with
  | true=>some p.2
  | false=>adk l t
def aeQ(P:Program)(U:l1)(st:TypeId->Option Nat)(t:TypeId)(q2:List c9):Bool:=
 match flat P U st 60 t with
 | some a=>aki a q2
 | none=>false
theorem alb{P:Program}{st:TypeId->Option Nat}{t:TypeId}{q2:List c9}(h:aeQ P U st t q2=true):flat P U st 60 t=some q2:=by
 unfold aeQ at h;split at h
 . rename_i a ch;rw[ch,avJ h]
 . cases h
theorem avK :∀{l:List (TypeId×Nat)} {t m},adk l t=some m->(t,m)∈l
 | p::l,t,m,h=>by
  simp only[adk]at h;split at h
  . rename_i e;cases h;have:=f7 e
    grind
  . exact .tail _ (avK h)
theorem aI9{P:Program}{l:List (TypeId×Nat)}(h:(l.all λp=>aeQ P U (adk l) p.1 (U.q2 p.2))=true):Z9 P U (adk l):=by
 intro e m he;rw[qx]at h;exact alb (h _ (avK he))
theorem aFZ{st:TypeId -> Option Nat}(n2:Z9 P U st){n:Nat}{t e:TypeId}{q2:List c9}(ht:P.underlying t=some (.slice e))(h:flat P U st (n+1) t=some q2):
 ∃ty a ML,q2=[.slice ty]/\flat P U st ML e=some a/\a=ty.cells U/\1<=P.bytesOf e/\Z7 a<=P.bytesOf e:=by
 simp only[flat,ht]at h;split at h
 . rename_i m hm;split at h
   . rename_i ai;cases h;simp only[kc]at ai;exact⟨.nm m,U.q2 m,60,rfl,n2 e m hm,rfl,ajW ai.1,ajW ai.2⟩
   . cases h
 . split at h
   . cases h
   . rename_i a ch;split at h
     . cases h
     . rename_i ai;have LO:1<=P.bytesOf e/\Z7 a<=P.bytesOf e:=by simp_all
       split at h
       . rename_i ty;split at h
         . cases h
         . rename_i g';cases h;refine⟨ty,[ty],n,rfl,ch,?_,LO⟩;cases ty <;> first | rfl | cases g'
       . cases h
theorem asV(NC:U.Total){st:TypeId -> Option Nat}(n2:Z9 P U st):∀(fuel n:Nat) (t:TypeId) (cs:List Value) (x:DataW H×List MemPlace) (q2:List c9),
 DataW.trod enc P w 0 (λ_=>true) true fuel t cs=some x->flat P U st n t=some q2->(∀k,k∈x.1.weights P t->k<=reachBytes)->∃l,Rd U w q2 cs l:=by
 intro fuel
 induction fuel with
 | zero=>intro n t cs x q2 h;simp[DataW.trod]at h
 | succ m ih=>
  intro n t cs x q2 h c6 hw;cases n with
  | zero=>cases c6
  | succ n=>
  have aKg:=c6;simp only[flat]at c6;split at c6
  . rename_i hu;cases c6;obtain⟨b,rfl,rfl⟩:=DataW.trod_bool hu h;exact⟨_,aeP (.bool b) (.bool b)⟩
  . rename_i k hu;cases c6;obtain⟨i,rfl,rfl,aLc⟩:=DataW.trod_int hu h;exact⟨_,aeP (.int k i aLc) (.int k i)⟩
  . rename_i hu;cases c6;obtain⟨s,rfl,rfl,hs⟩:=DataW.trod_string hu h;have h1:s.data.toList.length<=reachBytes:=hw _ (by simp[DataW.weights]);have ah:s.data.toList.length=s.size:=Y7;refine⟨_,aeP (.str s.data.toList h1) (.str s ?_)⟩;unfold reachBytes at h1;unfold SY;omega
  . rename_i e hu;obtain⟨ty,a,ML,rfl,ch,aw0,aJS,UB⟩:=aFZ n2 hu aKg;rcases DataW.trod_slice hu h with⟨rfl,rfl⟩ | ⟨hY,len,cap,elems,rest,XA,hm,rfl,rfl,_,axp,_,R7,sK,_,_⟩
    . refine⟨_,aeP (.slice ty [] (Pq _) (by simp) (by simp)) ?_⟩;exact .slice [] none 0 0 0 0 (λ_ _=>default) (by simp) (by simp) (by simp) (by simp) (by simp) (by simp)
    . cases hm;have aNf:(elems.length+rest.length)*P.bytesOf e<=reachBytes:=by
       have:=hw ((elems.length+rest.length)*P.bytesOf e) (by simp[DataW.weights,hu]);exact this
      have hlen:len<=reachBytes:=by
       have h1:elems.length+rest.length<=(elems.length+rest.length)*P.bytesOf e:=ao5 _ aJS;omega
      have afX:len*Z7 a<=reachBytes:=by
       have h1:len*Z7 a<=(elems.length+rest.length)*P.bytesOf e:=Nat.mul_le_mul (by omega) UB;omega
      have JO:∀i,i < len->∃ag8:ty.den U.D,∃L0,L0.length=P.cellsOf e/\(∀j,j < P.cellsOf e->w.cell? ((hY.add (i*P.cellsOf e)).add j)=L0[j]?)/\Rd U w a L0 (ty.row U ag8):=by
       intro i al;have TB:=sK i al;have an8:elems[i]?=some elems[i]:=CJ (by omega);rw[an8]at TB;cases ay:w.cells? 0 (hY.add (i*P.cellsOf e)) (P.cellsOf e)with
       | none=>rw[ay]at TB;cases TB
       | some L0=>
        rw[ay]at TB;obtain⟨h1,ah⟩:=aGO ay
        obtain⟨l,aJ⟩:=ih ML e L0 _ a TB ch (λk hk=>hw k (by
         simp only[DataW.weights,hu,LU,Nx];right;left
         exact alv (LV.2 ⟨elems[i],ajJ _,rfl⟩) k hk))
        obtain⟨ag8,ajy⟩:=ax6 NC (t:=ty) (by rw[aJ.ty,aw0])
        grind
      obtain⟨xs,Pm,Pn⟩:=arJ len JO;have hI:len≠0->P.cellsOf e=ty.sz U/\0 < P.cellsOf e:=by
       intro hv;obtain⟨ag8,L0,h1,_,bJ⟩:=JO 0 (by omega);have ea:=bJ.rt.length;rw[c9.ayt,h1]at ea;exact⟨ea.symm,by rw[<-ea];exact c9.adn⟩
      have acR:len≠0->hY.spot=none:=by
       intro hv;obtain⟨ag8,L0,h1,ah,bJ⟩:=JO 0 (by omega);have h0:=ah 0 (hI hv).2;rw[CJ (by rw[h1];exact(hI hv).2)]at h0;have hi:=(asU h0).1
       simpa[Addr.add]using hi
      have axP:∀x,x∈xs->∃i:Nat,xs[i]?=some x/\i < len:=by
       intro x aa;obtain⟨i,al⟩:=ao7.1 aa
       grind
      refine⟨_,aeP (t:= .slice ty) (x:=xs) (.slice ty xs (by omega) (by rw[Pm];unfold c9.bytes;rw[<-aw0];exact afX) ?_) ?_⟩
      . intro x aa c ay;obtain⟨i,al,_⟩:=axP x aa;obtain⟨L0,_,_,bJ⟩:=Pn i x al;exact bJ.wf c ay
      . have afX:(xs.map (ty.enc U)).length=len:=by simp[Pm]
        show ik w (Old w) (.slice (xs.map (ty.enc U))) (.slice (some hY) len cap);rw[<-afX];refine .slice (xs.map (ty.enc U)) (some hY) cap (P.cellsOf e) hY.block hY.off (λi j=>(w.cell? ⟨hY.block,hY.off+i*P.cellsOf e+j,none⟩).getD default) (by omega) ?_ ?_ ?_ ?_ ?_
        . rw[afX];unfold reachBytes at hlen;unfold Jf;omega
        . intro r ar;obtain⟨x,aa,rfl⟩:=LV.1 ar;obtain⟨i,_,al⟩:=axP x aa;rw[c9.aas];exact(hI (by omega)).1.symm
        . intro hv;have aKI:len≠0:=by intro h0;apply hv;rw[<-List.length_eq_zero_iff];omega
          have:=acR aKI;rw[show hY=⟨hY.block,hY.off,hY.spot⟩from rfl,this]
        . intro i j al dx;rw[afX]at al;obtain⟨ag8,L0,h1,ah,bJ⟩:=JO i al;have ea:=ah j dx;rw[CJ (by omega)]at ea;have aoE:=acR (by omega);have e':(hY.add (i*P.cellsOf e)).add j=⟨hY.block,hY.off+i*P.cellsOf e+j,none⟩:=au0 aoE;rw[e']at ea;exact⟨(asU ea).2,by rw[ea];rfl⟩
        . intro i j r Ja ar axL;rw[V4,fr]at ar;obtain⟨x,aa,rfl⟩:=ar;obtain⟨L0,h1,ah,bJ⟩:=Pn i x aa;have al:i < len:=by have:=(pJ.1 aa).1;omega
          rw[c9.acD,V4,fr]at axL;obtain⟨c,ay,rfl⟩:=axL;obtain⟨v,cJ,VV⟩:=bJ.rt.get ay;have dx:j < P.cellsOf e:=by have:=(pJ.1 cJ).1;omega
          have ea:=ah j dx;have aoE:=acR (by omega);have e':(hY.add (i*P.cellsOf e)).add j=⟨hY.block,hY.off+i*P.cellsOf e+j,none⟩:=au0 aoE;rw[e',cJ]at ea;show ik w (Old w) _ ((w.cell? ⟨hY.block,hY.off+i*P.cellsOf e+j,none⟩).getD default);rw[ea];exact VV
  . rename_i fs hu;obtain⟨xs,XA,hm,rfl,aJ,hlen,sK⟩:=DataW.trod_struct hu h;cases hm
    have:=asT (U:=U) (w:=w) (P:=P) (cs:=cs) (fs:=fs.toList) (off:=0) (λf aKl a ch=>by
     obtain⟨i,al⟩:=ao7.1 aKl;have JG:fs[i]?=some f:=by simpa using al
     have a8:=sK i f JG;have acL:i < xs.length:=by rw[hlen];exact(agx.1 JG).1
     rw[CJ acL]at a8
     exact ih n f.type _ _ a a8 ch (λk hk=>hw k (by
      simp only[DataW.weights,hu]
      exact DataW.weights_mem_each (j:=i) (t:=f.type) (d:=xs[i].1) (by simp[JG]) (by simp[acL]) k hk))) c6 aJ
    simpa using this
  . rename_i k e hu;split at c6
    . cases c6
    . rename_i a ch;split at c6
      . cases c6
      . rename_i ai;cases c6;simp only[kc]at ai;have h1:=f7 ai.1;have ah:=f7 ai.2;obtain⟨xs,XA,hm,rfl,aJ,hlen,sK⟩:=DataW.trod_array hu h;cases hm
        have:=awI (U:=U) (w:=w) (a:=a) (cs:=cs) k 0 (λi al=>by
         have a8:=sK i al;rw[CJ (by omega)]at a8
         obtain⟨l,aJ⟩:=ih n e _ _ a a8 ch (λq ee=>hw q (by
          simp only[DataW.weights,hu]
          exact alv (LV.2 ⟨xs[i],ajJ _,rfl⟩) q ee))
         rw[ah]at aJ
         exact⟨l,by rw[Jq];exact aJ⟩) (by rw[aJ,h1,Jq])
        simpa using this
  . cases c6
end
end
section
open Go Go.ChangeShapes Go.WideShapes Go.RowKit
variable {U:l1}
def isAgg(P:Program)(t:TypeId):Bool:=
 match P.underlying t with
 | some (.struct _)=>true
 | some (.array _ _)=>true
 | _=>false
def TL(P:Program)(U:l1)(st:TypeId->Option Nat):List TypeId->List KT->List c9->Bool
 | [],[],[]=>true
 | t::ts,.row m::Rf,.nm XA::q2=>(Nat.beq m XA && (isAgg P t && aeQ P U st t (U.q2 m))) && TL P U st ts Rf q2
 | t::ts,.c (.hole ty)::Rf,XR::q2=>(c9.beq ty XR && (!ty.agj && (!isAgg P t && aeQ P U st t [ty]))) && TL P U st ts Rf q2
 | _,_,_=>false
section
variable {H:Type} {enc:TypeId×Value->H} {P:Program} {w:World} {φ:q4}
theorem ar4{st:TypeId->Option Nat}:∀{Oy:List TypeId} {Rf:List KT} {q2:List c9},TL P U st Oy Rf q2=true->Oy.length=q2.length
 | [],[],[],_=>rfl
 | [],[],_::_,h=>by cases h
 | [],_::_,_,h=>by cases h
 | _::_,[],_,h=>by cases h
 | _::_,adm::_,[],h=>by
  cases adm with
  | c x=>cases x <;> cases h
  | _=>cases h
 | t::ts,adm::Rf,ty::q2,h=>by
  have:TL P U st ts Rf q2=true:=by
   cases adm with
   | row m=>cases ty with
    | nm XA=>simp only[TL,kc]at h;exact h.2
    | _=>cases h
   | c x=>cases x with
    | hole ty=>simp only[TL,kc]at h;exact h.2
    | _=>cases h
   | _=>cases h
  simp[ar4 this]
theorem aF0{b0:Nat}{r:Reach}{t:TypeId}{v:Value}(hs:isAgg P t=true)(h:Value.okWide P w r b0 t v):∃cs,v= .agg cs:=by
 unfold isAgg at hs;unfold Value.okWide at h
 grind
theorem aF1{b0:Nat}{r:Reach}{t:TypeId}{v:Value}(hs:isAgg P t=false)(h:Value.okWide P w r b0 t v):v.cells=#[v]:=by
 unfold isAgg at hs;unfold Value.okWide at h;have ah:Cell.okWide P w r b0 t v:=by grind
 cases v with
 | agg cs=>
  unfold Cell.okWide at ah;split at ah <;> first | (rename_i e;cases e) | (rename_i e _;cases e) | skip
  unfold Cell.ok at ah
  grind
 | _=>rfl
theorem as'{w:World}{S:r3}:∀{l:List (Cell U.D)} {vs:List Value},ez (λc v=>ik w S (Cell.enc U c) v) l vs->ez (gb φ w S) ((l.map ga.t).map ga.Xf) vs
 | [],[],.nil=>.nil
 | c::l,v::vs,.cons h1 ah=>.cons h1 (as' ah)
theorem asW(NC:U.Total)(φ:q4){st:TypeId -> Option Nat}(n2:Z9 P U st){b0:Nat}:∀(ts:List TypeId) (Rf:List KT) (q2:List c9) (args:List Value) (ds:List (DataW H)) (ps:List MemPlace),
 TL P U st ts Rf q2=true->(∀(j:Nat) t v,ts[j]?=some t->args[j]?=some v->Value.okWide P w .any b0 t v)->
 DataW.TrodAll enc P w 0 (λ_=>true) true ts args ds ps->(∀k,k∈DataW.weightsEach P ts ds->k<=reachBytes)->
 ∃(l:EI U) (xs:List (hr U)),l.map Cell.ty=q2/\(∀c,c∈l->∀d,d∈c.ty.row U c.val->WF U d)/\QY Rf l=(xs,[])/\(∀x,x∈xs->JS x=true)/\ez (km φ w (Old w)) (xs.map Jd) args
 | [],[],[],args,ds,ps,_,_,ht,_=>by
  obtain⟨rfl,rfl,rfl⟩:=trodAll_nil ht;exact⟨[],[],rfl,by simp,rfl,by simp,.nil⟩
 | t::ts,adm::Rf,ty::q2,args,ds,ps,a7,cJ,ht,hw=>by
  obtain⟨v,vs,d,ye,p,q,rfl,rfl,rfl,⟨fuel,h1⟩,ah⟩:=trodAll_cons ht;have nk:=cJ 0 t v rfl rfl;have axO:∀k,k∈d.weights P t->k<=reachBytes:=λk hk=>hw k (by simp only[DataW.weightsEach,Nx];exact .inl hk)
  have rest:∀(aoq:TL P U st ts Rf q2=true),_:=λaoq=>asW NC φ (st:=st) n2 (b0:=b0) ts Rf q2 vs ye q aoq (λj t v dx af7=>cJ (j+1) t v (by simpa using dx) (by simpa using af7)) ah
   (λk hk=>hw k (by simp only[DataW.weightsEach,Nx];exact .inr hk))
  unfold TL at a7;split at a7
  . grind
  . rename_i t0 aMr m aMi XA aMu e' hf te;cases e';cases hf;cases te;simp only[kc]at a7;obtain⟨⟨hm,hs,c6⟩,vt⟩:=a7;have Si:=f7 hm;subst Si;obtain⟨l,xs,Qc,JH,afV,ajk,afW⟩:=rest vt;obtain⟨cs,rfl⟩:=aF0 hs nk;obtain⟨Qi,Nr⟩:=asV NC n2 fuel 60 t _ _ _ h1 (alb c6) axO;obtain⟨x,aa⟩:=ax6 NC (t:= .nm m) Nr.ty
    refine⟨⟨.nm m,x⟩::l,.agg ((c9.row U (.nm m) x).map .t)::xs,by simp[Qc],?_,?_,?_,?_⟩
    . intro c ay;rcases LU.1 ay with rfl | ay
      . intro d a6;exact Nr.wf d (aa▸a6)
      grind
    . simp only[QY,QX,afV]
    . intro y b8;rcases LU.1 b8 with rfl | b8
      . simp[JS,ga.V']
      grind
    . refine .cons ?_ afW;have:=as' (φ:=φ) Nr.rt;rw[<-aa]at this;exact km.agg (vs:=cs.toList) this
  . rename_i t0 aMr aMt aMi XR aMu e' hf te;cases e';cases hf;cases te;simp only[kc,agD]at a7;obtain⟨⟨hm,g',hs,c6⟩,vt⟩:=a7;have Si:=c9.beq_eq hm;subst Si;obtain⟨l,xs,Qc,JH,afV,ajk,afW⟩:=rest vt;rw[aF1 hs nk]at h1;obtain⟨Qi,Nr⟩:=asV NC n2 fuel 60 t _ _ _ h1 (alb c6) axO
    match Qi,Nr with
    | [],Nr=>cases Nr.ty
    | [⟨akh,x⟩],Nr=>
     have aoF:akh=aMt:=by have:=Nr.ty;simpa using this
     subst aoF;refine⟨⟨akh,x⟩::l,.c (.t ⟨akh,x⟩)::xs,by simp[Qc],?_,?_,?_,?_⟩
     . intro c ay;rcases LU.1 ay with rfl | ay
       . intro d a6;refine Nr.wf d ?_;cases akh <;> first | exact a6 | cases g'
       grind
     . simp only[QY,QX,YI,afV]
     . intro y b8;rcases LU.1 b8 with rfl | b8
       . rfl
       grind
     . refine .cons ?_ afW;cases Nr.rt with
       | cons bJ ea=>exact .c bJ
    | _::_::_,Nr=>have:=Nr.ty;simp at this
  . cases a7
 | [],[],_::_,_,_,_,a7,_,_,_=>by cases a7
 | [],_::_,_,_,_,_,a7,_,_,_=>by cases a7
 | _::_,[],_,_,_,_,a7,_,_,_=>by cases a7
 | t::ts,adm::Rf,[],_,_,_,a7,_,_,_=>by
  cases adm with
  | row m=>cases a7
  | c x=>cases x <;> cases a7
  | agg l=>cases a7
  | fz l=>cases a7
theorem d'.ayb :∀(ts:List c9) (l:EI U),l.map Cell.ty=ts->∃h:d' U.D ts,d'.cells U.D ts h=l
 | [],[],_=>⟨(),rfl⟩
 | [t],[⟨Ja,x⟩],h=>by
  have:Ja=t:=by simpa using h
  subst this;exact⟨x,rfl⟩
 | t::u::r,⟨Ja,x⟩::l,h=>by
  simp only[Q9,List.cons.injEq]at h;obtain⟨h1,ah⟩:=h;subst h1;obtain⟨y,b8⟩:=d'.ayb (u::r) l (by simpa using ah);exact⟨(x,y),by show⟨Ja,x⟩::d'.cells U.D (u::r) y=_;rw[b8]⟩
 | [],_::_,h=>by simp at h
 | _::_,[],h=>by simp at h
 | [_],_::_::_,h=>by simp at h
theorem Jb.aiV{D:Nat->Type}:∀{ts:List c9} {t:c9} (h:Jb D t ts),Jb.dec D t ts (Jb.cells D t ts h)=some h
 | [],t,x=>Cell.atu
 | u::r,t,x=>by
  unfold Jb.dec Jb.cells;simp only[acG,Cell.atu];rw[Jb.aiV];rfl
theorem d'.aiV{D:Nat->Type}:∀{ts:List c9} (h:d' D ts),d'.dec D ts (d'.cells D ts h)=some h
 | [],_=>rfl
 | _::_,h=>Jb.aiV h
theorem d'.MX{D:Nat->Type}:∀{ts:List c9} {l:List (Cell D)},l.map Cell.ty=ts->∃h,d'.dec D ts l=some h:=by
 have go:∀(ts:List c9) (l:List (Cell D)),l.map Cell.ty=ts->∃h:d' D ts,d'.cells D ts h=l:=by
  intro ts
  induction ts with
  | nil=>intro l h;cases l with
   | nil=>exact⟨(),rfl⟩
   | cons=>cases h
  | cons t r ih=>
   intro l h;cases l with
   | nil=>cases h
   | cons c l=>
    obtain⟨Ja,x⟩:=c;simp only[Q9,List.cons.injEq]at h;obtain⟨h1,ah⟩:=h;subst h1;obtain⟨y,b8⟩:=ih l ah;cases r with
    | nil=>
     cases l with
     | nil=>exact⟨x,rfl⟩
     | cons=>cases ah
    | cons u r=>exact⟨(x,y),by show⟨Ja,x⟩::d'.cells D (u::r) y=_;rw[b8]⟩
 intro ts l h;obtain⟨y,b8⟩:=go ts l h;exact⟨y,by rw[<-b8];exact d'.aiV y⟩
def Ok(U:l1)(ts:List c9)(h:d' U.D ts):Prop:=∀c,c∈d'.cells U.D ts h->∀d,d∈c.ty.row U c.val->WF U d
theorem aIL{N:Nat}:ni N ([]:fJ U) []:=λb x h=>by cases h
theorem au1{N:Nat}{J:fJ U}:∀{xs:List (hr U)},(∀x,x∈xs->JS x=true)->ez (h3 N J) xs (xs.map Jd)
 | [],_=>.nil
 | x::xs,h=>.cons (ab8 (h x (by simp))).1 (au1 λy b8=>h y (by simp[b8]))
theorem avL{k:Nat->Bool}:∀{xs:List (hr U)},(∀x,x∈xs->JS x=true)->V.cx.V.u' k (xs.map Jd)=true
 | [],_=>rfl
 | x::xs,h=>by
  simp only[Q9,V.cx.V.u',kc];exact⟨(ab8 (N:=0) (J:=[]) (h x (by simp))).2 k,avL λy b8=>h y (by simp[b8])⟩
theorem aLu {f:Nat} {MR:List KT} {ts:List c9} {F:d' U.D ts -> Option (d' U.D [.bool])} (NC:U.Total) (hs:Nl P ⟨f,MR,[],ts,.c (.hole .bool),[],[.bool],F⟩)
 (law:∀h:d' U.D ts,Ok U ts h->F h=some true) {st:TypeId->Option Nat} (n2:Z9 P U st) {Oy:List TypeId} (a7:TL P U st Oy MR ts=true)
 {b0:Nat} {args:Array Value} {ds:List (DataW H)} {ps:List MemPlace} (cJ:∀(j:Nat) t v,Oy[j]?=some t->args[j]?=some v->Value.okWide P w .any b0 t v)
 (ht:DataW.TrodAll enc P w 0 (λ_=>true) true Oy args.toList ds ps) (hw:∀k,k∈DataW.weightsEach P Oy ds->k<=reachBytes):
 Calls P f args w λe w'=>e= .returned (.bool true)/\Below w.heap.size w w':=by
 obtain⟨l,xs,Qc,JH,afV,ajk,afW⟩:=asW NC (λb=>(b,0)) n2 Oy MR ts args.toList ds ps a7 (λj t v dx af7=>cJ j t v dx (by simpa using af7)) ht hw;obtain⟨h,ak⟩:=d'.ayb ts l Qc;have tr:=law h (λc ay d a6=>JH c (ak▸ay) d a6)
 have NV:=hs h true tr (xs.map Jd) [] (by
  show ez (h3 0 _) (QY MR (d'.cells U.D ts h)).1 _;rw[ak,afV];exact au1 ajk) (by
  show ni 0 (Ln 0 [] _) []
  exact aIL)
 have:=NV (λb=>(b,0)) (Old w) w (λ_=>False) {blk:=λb x aa=>(by cases aa),inj:=λb hj x y aa=>(by cases aa),st:=λb j ai=>ai} (λb x aa=>by cases aa) (λb x aa=>by cases aa)
  (avL ajk) args.toList afW
 rw[Array.toArray_toList]at this;refine this.mono λe w' ⟨v,r,hn,hK,J',N',he,⟨_,ar,_⟩,LS,_,_,_,afM,_⟩=>?_
 cases ar with
 | c ay=>
  cases ay with
  | t c=>
   cases LS with
   | c acQ=>
    cases acQ;exact⟨he,afM.os,afM.tape,afM.output,afM.size,λk hk=>afM.block k hk (λh=>h)⟩
theorem aF2 {f:Func} {s:ChangeSpec} {fresh aeW again:Bool} {W QN:World} {args:Array Value} {v:Value} {ds gs:List (DataW H)} {before:List MemPlace}
 (QZ:DataW.Whole enc P f.params.toList s.vars false W args.toList ds gs before) (ai:Below W.heap.size W QN)
 (hres:∀(b:Nat) (sp:Nat->Bool) (a6:Bool),DataW.TrodAll enc P QN b sp a6 f.resultTypes.toList (v.resultList f.resultTypes.size) (s.fn H (ds++gs)).results [])
 (M1:∀sp:Nat->Bool,(∀p∈before,sp p.block=true)->DataW.TrodAll enc P QN 0 sp true f.params.toList args.toList (s.fn H (ds++gs)).args before)
 (acU:∀sp:Nat->Bool,(∀p∈before,sp p.block=true)->DataW.TrodVars enc P QN sp s.vars (s.fn H (ds++gs)).vars [])
 (NY:∀(j:Nat) (t:TypeId) (r:Value),f.resultTypes[j]?=some t->(v.resultList f.resultTypes.size)[j]?=some r->Value.okWide P QN .any 0 t r):
 s.post enc P f false fresh aeW again W args v QN:=by
 have ey:=QZ.lt;have hold:∀p∈before,(λb=>decide (b < W.heap.size)) p.block=true:=λp a7=>by simpa using ey p a7
 refine⟨ds,gs,before,[],before,[],QZ,hres _ _ _,M1 _ hold,acU _ hold,ai.frame _,λ_=>?_⟩;refine⟨NY,(s.fn H (ds++gs)).results++(s.fn H (ds++gs)).args,(s.fn H (ds++gs)).vars,before,⟨before,[],?_,acU _ (λ_ _=>rfl),by simp,?_,λh=>by cases h⟩,λp a7 _=>a7⟩
 . have:=trodAll_append (M1 (λ_=>true) (λ_ _=>rfl)) (hres 0 (λ_=>true) true)
   simpa using this
 . intro b off a7;obtain⟨_,_,_,_,_,gA,_⟩:=QZ;rw[World.frozen?_of_block (w:=W) (a:=⟨b,off,none⟩) (ai.block b (ey _ a7))];exact gA b off a7
theorem aLv {f:Nat} {fn:Func} {s:ChangeSpec} {MR:List KT} {ts:List c9} {F:d' U.D ts -> Option (d' U.D [.bool])} (NC:U.Total)
 (hs:Nl P ⟨f,MR,[],ts,.c (.hole .bool),[],[.bool],F⟩)
 (law:∀h:d' U.D ts,Ok U ts h->F h=some true) {st:TypeId->Option Nat} (n2:Z9 P U st) (a7:TL P U st fn.params.toList MR ts=true)
 {ayQ:TypeId} (hres:fn.resultTypes=#[ayQ]) (htb:P.underlying ayQ=some .bool) (acU:s.vars=[])
 (E':∀ds:List (DataW H),ds.length=ts.length->(s.fn H ds).results=[.lit (.bool true)]/\(s.fn H ds).args=ds/\(s.fn H ds).vars=[])
 (aog:(laidOutB P && mapsRowed P)=true) (aKK:fn.params.toList.all (λt=>decide (t < P.types.size))=true)
 (aKW:((List.range P.types.size).all λt=>match P.underlying t with | some (.slice e)=>decide (0 < P.cellsOf e) | _=>true)=true)
 {W:World} {base:Nat} {args:Array Value} {ds gs:List (DataW H)} {before:List MemPlace} {fresh aeW again:Bool}
 (acT:∀(j:Nat) t v,fn.params[j]?=some t->args[j]?=some v->Value.okWide P W .any base t v)
 (QZ:DataW.Whole enc P fn.params.toList s.vars false W args.toList ds gs before)
 (hk:(DataW.weightsEach P (fn.params.toList++s.plain.varTypes P) (ds++gs)).all (· <=reachBytes)=true):
 Calls P f args W λe QN=>∃v,e= .returned v/\s.post enc P fn false fresh aeW again W args v QN:=by
 have anR:=QZ;obtain⟨p,q,uJ,PH,rfl,YP,hM⟩:=QZ;rw[acU]at PH;obtain⟨rfl,rfl⟩:=trodVars_none PH;have aK':s.plain.varTypes P=[]:=by show s.vars.filterMap _=[] <;> simp[acU]
 rw[aK',Q8,Q8,qx]at hk;have hlen:ds.length=ts.length:=by
  have h1:∀{Oy:List TypeId} {vs:List Value} {ds:List (DataW H)} {ps:List MemPlace},DataW.TrodAll enc P W 0 (λ_=>true) true Oy vs ds ps->ds.length=Oy.length:=by
   intro Oy
   induction Oy with
   | nil=>intro vs ds ps h;obtain⟨_,rfl,_⟩:=trodAll_nil h;rfl
   | cons t r ih=>intro vs ds ps h;obtain⟨_,_,_,_,_,_,_,rfl,_,_,ah⟩:=trodAll_cons h;simp[ih ah]
  rw[h1 uJ,ar4 a7]
 obtain⟨Xx,acP,axG⟩:=E' ds hlen;simp only[kc]at aog;have K:=kids_rows aog.1 aog.2;have hI:=slices_full_of P aKW;refine(aLu NC hs law n2 a7 (λj t v dx af7=>acT j t v (by simpa using dx) af7) uJ (λk YT=>by simpa using hk k YT)).mono λe QN ⟨he,ai⟩=>?_
 subst he;refine⟨_,rfl,aF2 anR ai ?_ ?_ ?_ ?_⟩
 . intro b sp a6;rw[Q8,Xx,hres];exact trodAll_cons_mk (shut_bool htb _) trodAll_mk0
 . intro sp acR;rw[Q8,acP];have ey:=anR.lt;clear anR YP hM hk acT hlen;have k':∀t,t∈fn.params.toList->t < P.types.size:=λt ht=>by simpa using qx.1 aKK t ht
   have go : ∀ {Oy : List TypeId} {vs : List Value} {ds : List (DataW H)} {ps : List MemPlace}, (∀ t, t ∈ Oy -> t < P.types.size) -> (∀ p ∈ ps, p.block < W.heap.size /\ sp p.block = true) ->
    DataW.TrodAll enc P W 0 (λ_=>true) true Oy vs ds ps->DataW.TrodAll enc P QN 0 sp true Oy vs ds ps:=by
    intro Oy
    induction Oy with
    | nil=>intro vs ds ps _ _ h;obtain⟨rfl,rfl,rfl⟩:=trodAll_nil h;exact trodAll_mk0
    | cons t r ih=>
     intro vs ds ps k' BJ h;obtain⟨v,SN,d,ye,a,b,rfl,rfl,rfl,⟨NS,h1⟩,ah⟩:=trodAll_cons h
     refine⟨a,b,⟨NS,DataW.trod_stays (T:=(· < P.types.size)) K (λ{t e}=>hI t e) (by intro ak;cases ak) (k' t (by simp)) h1 (λx aa=>ai.same (BJ x (by simp[aa])).1) (λx aa=>(BJ x (by simp[aa])).2)⟩,ih (λt ht=>k' t (by simp[ht])) (λx aa=>BJ x (by simp[aa])) ah,rfl⟩
   rw[Q8];exact go k' (λx aa=>⟨ey x (by simp[aa]),acR x (by simp[aa])⟩) uJ
 . intro sp acR;rw[Q8,axG,acU];exact rfl
 . exact ok_one hres rfl (okWide_bool_mk htb _)
end
end
section
open Go
theorem alR{a b:Int}(h1: -9223372036854775808<=a+b)(ah:a+b<=9223372036854775807):hO .i64 a b=a+b:=by unfold hO;rw[IntKind.wrap_i64];omega
theorem aeR{a b:Int}(h1: -9223372036854775808<=a - b)(ah:a - b<=9223372036854775807):Lx .i64 a b=a - b:=by unfold Lx;rw[IntKind.wrap_i64];omega
theorem d4{k n:Nat}(h:k < n):eh (k:Int) n=true:=by unfold eh;simp[h]
theorem o1(k:Nat):(k:Int).toNat=k:=Int.toNat_natCast k
theorem adr{a:Int}(h0:0<=a)(h1:a < 18446744073709551616):IntKind.u64.wrap a=a:=by rw[IntKind.wrap_u64];omega
theorem apS{a:Nat}(h1:a < 18446744073709551616):We .u64 (a:Int)=a:=adr (by omega) (by omega)
theorem aMs :(2:Nat) ^ 64=18446744073709551616:=by decide
theorem ax7{a b:Nat}(h:a*b < 18446744073709551616):ago .u64 (a:Int) (b:Int)=((a*b:Nat):Int):=by
 unfold ago;have e:(a:Int)*b=((a*b:Nat):Int):=by push_cast;rfl
 rw[e];exact adr (by omega) (by omega)
theorem azj{a b:Nat}(h:a+b < 18446744073709551616):hO .u64 (a:Int) (b:Int)=((a+b:Nat):Int):=by
 unfold hO;have e:(a:Int)+b=((a+b:Nat):Int):=by push_cast;rfl
 rw[e];exact adr (by omega) (by omega)
theorem au2{a b:Nat}(h:a+b<=9223372036854775807):hO .i64 (a:Int) (b:Int)=((a+b:Nat):Int):=by rw[alR (by omega) (by omega)];norm_cast
theorem pv{a:Nat}(h:a < 9223372036854775807):hO .i64 (a:Int) 1=((a+1:Nat):Int):=by rw[alR (by omega) (by omega)];norm_cast
theorem RG{k n:Nat}(hk:k<=1000)(h:n<=100000):room k n=true:=by
 unfold room Pz Jf;simp only[kc,I2];refine⟨?_,by omega⟩;have:(2*n+192)*k<=200192*1000:=Nat.mul_le_mul (by omega) hk;omega
end
section
open Go Go.Proofs Go.Proofs.YtijpinendaoleaaGreat Go.Sort Go.RowKit
variable {P:Program} {α:Type} [Inhabited α]
theorem aBy(w:World)(blk:Nat)(f:Array Value->Array Value){b:Nat}(h:b≠blk):(mapBlock w blk f).heap[b]?=w.heap[b]?:=by simp[mapBlock,ajU,tJ h]
theorem aDb(w:World)(blk:Nat)(f:Array Value->Array Value){c:Array Value}{E:TypeId}{ai7:Nat×Nat}(h:w.heap[blk]?=some (.cells c E ai7)):(mapBlock w blk f).heap[blk]?=some (.cells (f c) E ai7):=by
 simp[mapBlock,ajU,h,onCells]
theorem aF' {f g k kk:Nat} (enc:α -> List Value) (QW:α -> List T) (F:Array α -> Array α) (hk:∀x,(enc x).length=k) (Pg:∀x,(QW x).length=k) (VT:0 < k)
 (Jw:∀(w:World) (S:r3) (x:α) (j:Nat) (t:T) (v:Value),(QW x)[j]?=some t->ik w S t v->(enc x)[j]?=some v)
 (tr:∀d:Array α,(F d).size=d.size/\∀x,x∈(F d).toList->x∈d.toList)
 (NV:∀(blk off cap:Nat) (d:Array α) (w:World),HoldsK enc k w blk off d->blk < w.heap.size->d.size < 4611686018427387904->
  Calls P f #[.slice (some ⟨blk,off,none⟩) d.size cap,.func (.func g) #[] #[]] w λe w'=>e= .returned (.tuple #[])/\∃n os,w'=sortWorldK enc k w blk off n (F d) os)
 (aon:∀(p:Option Addr) (cap:Nat) (Ux:Value) (w:World),Calls P f #[.slice p 0 cap,Ux] w λe w'=>e= .returned (.tuple #[])/\w'=w)
 {J:ep} {d:List α} (h0:ec J 0=some (.arr k (d.map QW))) (j1:0 < kk):
 yq P f [.c (.arr 0 k 0 d.length),.c (.fn g [])] J kk (λr J' N'=>r= .fz []/\J'=q1 J 0 (.arr k ((F d.toArray).toList.map QW))/\N'=kk):=by
 intro φ S w B Lr wk UG ze vs x0;cases x0 with | cons cJ x0=>
 cases x0 with | cons af6 x0=>
 cases x0;cases cJ with | c cJ=>
 cases af6 with | c af6=>
 obtain⟨a,rfl,ch,hle⟩:=cJ;have aK6:_=Value.func (.func g) #[] #[]:=af6;subst aK6;obtain⟨aJ,K5,hlen,_,hblk⟩:=Lr.blk 0 _ h0;rw[JU]at aJ K5;obtain⟨hI,K6⟩:=tr d.toArray
 have fin : ∀ w' : World, Ext B S S w w' -> Yv φ w' S (q1 J 0 (.arr k ((F d.toArray).toList.map QW))) -> ∃ v r hn hK J' N', Ending.returned (Value.tuple #[]) = Ending.returned v /\ (r = V.fz [] /\ J' = q1 J 0 (.arr k ((F d.toArray).toList.map QW)) /\ N' = kk) /\ km hn w' hK r v /\ r.cx (lt N') = true /\ Yv hn w' hK J' /\ (∀ (b : Nat) x, ec J' b = some x -> b < N' /\ x.cx (lt N') = true) /\ Ext B S hK w w' /\
  (∀(b:Nat) x,ec J' b=some x->(hn b).2≠0->B (hn b).1\/w.heap.size<=(hn b).1)/\∀b,b < kk->hn b=φ b:=by
  intro w' JO c8;refine⟨_,.fz [],φ,S,_,kk,rfl,⟨rfl,rfl,rfl⟩,.fz [] [] rfl (by simp),rfl,c8,λb x aa=>?_,JO,λb x aa ai=>?_,λ_ _=>rfl⟩
  . rw[o']at aa;split at aa
    . rename_i ai;cases aa;subst ai;exact⟨j1,rfl⟩
    . exact wk b x aa
  . rw[o']at aa;split at aa
    . rename_i LO;subst LO;exact .inl (UG _ _ h0 ai)
    . exact .inl (UG b x aa ai)
 by_cases gA:(φ 0).2=0
 ·
  have a6:d=[]:=Sv (by omega);subst a6;refine(aon a _ _ w).mono ?_
  rintro e w' ⟨rfl,rfl⟩
  have he:(F ([]:List α).toArray).toList.map QW=([]:List α).map QW:=by grind
  refine fin _ Ext.refl ?_;rw[he];refine⟨λb x aa=>?_,λb hj x y aa b8=>?_,Lr.st⟩
  . rw[o']at aa;split at aa
    . rename_i ai;cases aa;subst ai;exact Lr.blk _ _ h0
    . exact Lr.blk b x aa
  . have key:∀b x,ec (q1 J 0 (.arr k (([]:List α).map QW))) b=some x->∃hQ,ec J b=some hQ:=by
     intro b x aa;rw[o']at aa
     grind
    obtain⟨hQ,Je⟩:=key b x aa;obtain⟨Ni,L8⟩:=key hj y b8;exact Lr.inj b hj hQ Ni Je L8
 . obtain⟨vs,E,ak,M4,ay,DI⟩:=hblk gA;rw[ch gA]
   have J6:∀(i j:Nat) (t:T) (x:α),d[i]?=some x->(QW x)[j]?=some t->∃v,vs[i*k+j]?=some v/\ik w S t v/\(enc x)[j]?=some v:=by
    intro i j t x al dx;obtain⟨v,cJ,ar⟩:=ay i j (QW x) t (by rw[V4,al];rfl) dx
    grind
   have NU:(φ 0).1 < w.heap.size:=by grind
   have aJA:HoldsK enc k w (φ 0).1 (0*k) d.toArray:=by
    intro j dx;rw[size_flatK]at dx;have Qb:j < d.length*k:=by simpa using dx
    have al:j / k < d.length:=(Nat.div_lt_iff_lt_mul VT).2 Qb;have hm:j % k < k:=Nat.mod_lt _ VT;have aa:d[j / k]?=some d[j / k]:=CJ al;have aKE:j % k < (QW d[j / k]).length:=by rw[Pg];exact hm
    obtain⟨v,cJ,_,he⟩:=J6 (j / k) (j % k) _ _ aa (CJ aKE);have aKs:j / k*k+j % k=j:=by rw[Nat.mul_comm];exact Nat.div_add_mod j k
    rw[aKs]at cJ;refine⟨?_,by simp[World.frozen?,ak]⟩;rw[agv,Jq,OZ ak,cJ,get_flatK _ _ _ _ dx]
    grind
   have aKC:d.toArray.size < 4611686018427387904:=by
    have:Jf=281474976710656:=rfl;simp;omega
   refine(NV (φ 0).1 (0*k) _ d.toArray w aJA NU aKC).mono ?_
   rintro e w' ⟨rfl,n,os,rfl⟩
   have hold:∀b:Nat,b < w.heap.size->b≠(φ 0).1->(sortWorldK enc k w (φ 0).1 (0*k) n (F d.toArray) os).heap[b]?=w.heap[b]?:=by
    intro b ai hv;unfold sortWorldK putRowK putRow;rw[heap_grow_old _ _ (by simpa[mapBlock,Go.Sort.ahead]using ai),aBy _ _ _ hv];rfl
   have Xu:(sortWorldK enc k w (φ 0).1 (0*k) n (F d.toArray) os).heap[(φ 0).1]?=some (.cells (putCells id (0*k) (flatK enc k (F d.toArray)) vs.toArray).toList.toArray E (0,0)):=by
    unfold sortWorldK putRowK putRow;rw[heap_grow_old _ _ (by simpa[mapBlock,Go.Sort.ahead]using NU),aDb (Go.Sort.ahead w n) _ _ (by exact ak)]
   have hm:Lm w S (sortWorldK enc k w (φ 0).1 (0*k) n (F d.toArray) os) S:=⟨λ_ _ h=>h,λb j h=>Yh (hold b (Lr.st b j h) (λe=>DI j (e▸h))) j⟩
   refine fin _ ⟨rfl,rfl,rfl,?_,λb ai u0=>hold b ai (λe=>u0 (e▸UG 0 _ h0 gA)),hm,λ_ _ h=>.inl h⟩ ⟨λb x aa=>?_,λb hj x y aa b8=>?_,λb j h=>?_⟩
   . unfold sortWorldK putRowK putRow;simp[grow,mapBlock,Go.Sort.ahead]
   . rw[o']at aa;split at aa
     . rename_i ai;cases aa;subst ai;refine⟨by simpa[hI]using aJ,by simpa[hI]using K5,λe he=>?_,VT,λ_=>⟨_,E,Xu,by simpa[putCells]using M4,λi j e t al dx=>?_,DI⟩⟩
       . obtain⟨x,_,rfl⟩:=LV.1 he;exact Pg x
       . rw[V4]at al;cases ajy:(F d.toArray).toList[i]? with
         | none=>rw[ajy]at al;cases al
         | some x=>
          rw[ajy]at al;have:e=QW x:=(XI al).symm;subst this;have aa:x∈d:=by simpa using K6 x (DJ ajy)
          obtain⟨i0,aKq,aJ6⟩:=K' aa;obtain⟨v,cJ,ar,he⟩:=J6 i0 j t x (by rw[CJ aKq,aJ6]) dx;refine⟨v,?_,ik.mono hm ar⟩;have aM7:j < k:=by rw[<-Pg x];exact(pJ.1 dx).1
          have aoc:i < (F d.toArray).size:=by grind
          have ey:i*k+j < (F d.toArray).size*k:=by
           have:=Ji k (show i+1<=(F d.toArray).size from aoc)
           grind
          have aoi:i*k+j < vs.length:=by
           rw[M4];refine TF ey (Ji k ?_)
           grind
          have d1:(i*k+j) / k=i:=(blk_iff k i _ VT).1 ⟨by omega,by omega⟩;have d2:(i*k+j) % k=j:=by rw[Nat.mod_eq_sub_div_mul,d1];omega
          have e':(F d.toArray)[i]! =x:=by grind
          have:(putCells id (0*k) (flatK enc k (F d.toArray)) vs.toArray).toList[i*k+j]?=some ((flatK enc k (F d.toArray))[i*k+j]!):=by
           rw[ao6];simp only[putCells,Array.getElem?_mapIdx];rw[show vs.toArray[i*k+j]?=some vs[i*k+j] by simp[aoi]];simp[size_flatK,ey]
          rw[this,get_flatK _ _ _ _ ey,d1,d2,e',List.getElem!_eq_getElem?_getD,he];rfl
     . rename_i ai;have VP:b≠0:=λe=>ai (by simp[e])
       refine pr.mono (n:=λ_=>true) hm (λ_ _=>rfl) rfl (by cases x <;> simp[hE.cx,C.Um]) (λaje=>hold _ ((Lr.blk b x aa).Qo aje) (Lr.inj b 0 x _ aa h0 VP aje gA)) (Lr.blk b x aa)
   . have key:∀b x,ec (q1 J 0 (.arr k ((F d.toArray).toList.map QW))) b=some x->∃hQ,ec J b=some hQ:=by
      intro b x aa;rw[o']at aa
      grind
     obtain⟨hQ,Je⟩:=key b x aa;obtain⟨Ni,L8⟩:=key hj y b8;exact Lr.inj b hj hQ Ni Je L8
   . have:=Lr.st b j h;unfold sortWorldK putRowK putRow;simp[grow,mapBlock,Go.Sort.ahead];omega
def Nz(lt:α->α->Bool)(l:List α):List α:=(pdq lt l.toArray 0 l.length (Lib.bitLen l.length) true true).toList
theorem akS{lt:α->α->Bool}(MZ:SWO lt)(l:List α):(Nz lt l).Perm l:=by
 obtain⟨⟨hs,_,a7⟩,_⟩:=pdq_sorts lt MZ l.toArray 0 l.length (Lib.bitLen l.length) true true (Pq _) (by simp) (Or.inl rfl);have e':∀d:Array α,d.size=l.length->d.extract 0 l.length=d:=λd h=>by rw[<-h];exact Array.extract_size
 rw[e' _ (by simpa using hs),e' _ (by simp)]at a7
 simpa[Nz]using a7
theorem aEP{lt:α->α->Bool}(MZ:SWO lt)(l:List α):(Nz lt l).length=l.length:=(akS MZ l).length_eq
theorem aEQ{lt:α->α->Bool}(MZ:SWO lt)(l:List α):(Nz lt l).Pairwise λx y=>lt y x=false:=by
 obtain⟨⟨hs,_,_⟩,c8⟩:=pdq_sorts lt MZ l.toArray 0 l.length (Lib.bitLen l.length) true true (Pq _) (by simp) (Or.inl rfl);have hI:(Nz lt l).length=l.length:=aEP MZ l;rw[ac9];intro i j al dx axn;have:=c8 i j (Pq _) axn (by rw[<-hI];exact dx)
 have e:∀i (h:i < (Nz lt l).length),(pdq lt l.toArray 0 l.length (Lib.bitLen l.length) true true)[i]! =(Nz lt l)[i]:=by
  intro i h;have vc:i < (pdq lt l.toArray 0 l.length (Lib.bitLen l.length) true true).size:=by simpa[Nz]using h
  rw[getElem!_pos _ i vc];simp[Nz]
 grind
def apJ(U:l1)(f n g:Nat)(F:List (U.D n)->List (U.D n)):nc U:=
 ⟨f,[.c (.arr 0),.c (.fn g [])],[.arr (.nm n)],[.slice (.nm n)],.fz [],[.arr (.nm n)],[.slice (.nm n)],λ(l:List (U.D n))=>some (F l)⟩
theorem aGa {U:l1} {f n g:Nat} [Inhabited (U.D n)] (enc:U.D n -> List Value) (lt:U.D n -> U.D n -> Bool) (MZ:SWO lt) (hk:∀x,(enc x).length=(c9.nm n).sz U)
 (Jw:∀(w:World) (S:r3) (x:U.D n) (j:Nat) (t:T) (v:Value),((c9.nm n).enc U x)[j]?=some t->ik w S t v->(enc x)[j]?=some v)
 (NV:∀(blk off cap:Nat) (d:Array (U.D n)) (w:World),HoldsK enc ((c9.nm n).sz U) w blk off d->blk < w.heap.size->d.size < 4611686018427387904->
  Calls P f #[.slice (some ⟨blk,off,none⟩) d.size cap,.func (.func g) #[] #[]] w λe w'=>e= .returned (.tuple #[])/\∃ajC os,w'=sortWorldK enc ((c9.nm n).sz U) w blk off ajC (pdq lt d 0 d.size (Lib.bitLen d.size) true true) os)
 (aon:∀(p:Option Addr) (cap:Nat) (Ux:Value) (w:World),Calls P f #[.slice p 0 cap,Ux] w λe w'=>e= .returned (.tuple #[])/\w'=w):
 Nl P (apJ U f n g (Nz lt)):=by
 intro(l:List (U.D n)) r tr Tc J1 ch c8;have ar:r=Nz lt l:=(XI tr).symm;subst ar;cases ch with | cons ch Xl=>
 cases Xl with | cons Xl aJM=>
 cases aJM;obtain⟨sz,m,rfl,_,aJ8⟩:=h3.MB ch;have:=h3.anJ Xl;subst this;have Qi:Shv.er ((apJ U f n g (Nz lt)).Oc l) 0=some (.arr (.nm n) l):=rfl;have a6:=aJ8 _ Qi _ rfl;obtain⟨_,Qx,g0,b0⟩:=c8 0 _ Qi;cases b0;have e':sz=(c9.nm n).sz U:=(Jj Prod.fst a6).symm;have hf:m=l.length:=(Jj Prod.snd a6).symm;subst e';subst hf
 have axB:∀d:Array (U.D n),(Nz lt d.toList).Perm d.toList:=λd=>akS MZ d.toList
 refine(aF' (α:=U.D n) (kk:=1) enc ((c9.nm n).enc U) (λd:Array (U.D n)=>(Nz (α:=U.D n) lt d.toList).toArray) hk (λx=>c9.aas) c9.adn Jw
  (λd=>⟨by simpa using(axB d).length_eq,λx aa=>(axB d).mem_iff.1 (by simpa using aa)⟩) (λblk off cap d w h1 ah bJ=>?_) aon g0 Nat.one_pos).mono ?_
 . have:=NV blk off cap d w h1 ah bJ
   simpa[Nz]using this
 . rintro kJ s1 RJ ⟨rfl,rfl,rfl⟩
   refine⟨rfl,.fz [] [] rfl (by simp),λb x aa=>?_⟩;have te:(Nz lt l.toArray.toList).toArray.toList=Nz lt l:=by simp
   simp only[te];clear te tr;generalize Nz lt l=q at aa ⊢;have Je:(if b=0 then some (oj.arr (U:=U) (.nm n) q)else none)=some x:=by
    rw[<-aa];cases b <;> rfl
   split at Je
   . rename_i ai;cases Je;subst ai;refine⟨Nat.one_pos,_,?_,.arr (U:=U) (.nm n) q⟩;rw[o'];simp;rfl
   . cases Je
theorem aF3(w:World)(S:r3)(i:Int)(s:List UInt8)(j:Nat)(t:T)(v:Value)(h:[T.int .i64 i,T.str s][j]?=some t)(ar:ik w S t v):[Value.int .i64 i,Value.string ⟨s.toArray⟩][j]?=some v:=by
 match j,h with
 | 0,h=>cases h;cases ar;rfl
 | 1,h=>cases h;cases ar;rfl
theorem aHo(key:α->Int):SWO (λx y=>decide (key x < key y)) where
 irrefl x:=by simp
 trans x y z h1 ah:=by simp at*;omega
 ntrans x y z h1 ah:=by simp at*;omega
end
section
open Go Go.Proofs Go.Proofs.YtijpinendaoleaaGreat Go.Sort
def Ru{α:Type}(a b:Option α):Prop:=∀r,a=some r->b=some r
theorem Ru.r{α:Type}{a:Option α}:Ru a a:=λ_ h=>h
theorem Ru.n{α:Type}{a:Option α}:Ru none a:=λ_ h=>by cases h
theorem Ru.b{α β:Type}{a b:Option α}{k ix:α->Option β}(h:Ru a b)(hk:∀x,Ru (k x) (ix x)):Ru (a >>=k) (b >>=ix):=by
 intro r ar;cases a with
 | none=>cases ar
 | some x=>rw[h x rfl];exact hk x r ar
theorem Ru.i{α:Type}{p:Prop}[Decidable p]{a b c d:Option α}(h:Ru a c)(k:Ru b d):Ru (if p then a else b) (if p then c else d):=by grind
variable {α:Type} [Inhabited α]
def aaN(lt:α->α->Bool)(x:α):List α->List α
 | []=>[x]
 | y::r=>if lt x y then x::y::r else y::aaN lt x r
def agk(lt:α->α->Bool):List α->List α
 | []=>[]
 | x::r=>aaN lt x (agk lt r)
def abN(lt:α->α->Bool):List α->Bool
 | []=>true
 | x::r=>r.all (λy=>lt x y || lt y x) && abN lt r
theorem amq(lt:α->α->Bool)(x:α):∀l,(aaN lt x l).Perm (x::l)
 | []=>.refl _
 | y::r=>by
  simp only[aaN];split
  . simp_all
  . exact((amq lt x r).cons y).trans (.swap x y r)
theorem asX(lt:α->α->Bool):∀l,(agk lt l).Perm l
 | []=>.refl _
 | x::r=>(amq lt x _).trans ((asX lt r).cons x)
theorem arK{lt:α->α->Bool}(MZ:SWO lt)(x:α):∀{l:List α},l.Pairwise (λx y=>lt y x=false)->(aaN lt x l).Pairwise λx y=>lt y x=false
 | [],_=>by simp[aaN]
 | y::r,h=>by
  rw[Y9]at h;simp only[aaN];split
  . rename_i axQ;have axT:lt y x=false:=by
     cases ay:lt y x with
     | false=>rfl
     | true=>have:=MZ.trans _ _ _ axQ ay;rw[MZ.irrefl]at this;cases this
    rw[Y9];refine⟨λz gA=>?_,Y9.2 h⟩;rcases LU.1 gA with rfl | gA
    . exact axT
    . exact MZ.ntrans _ _ _ (h.1 z gA) axT
  . rename_i axQ;rw[Y9];refine⟨λz gA=>?_,arK MZ x h.2⟩;rcases LU.1 ((amq lt x r).mem_iff.1 gA)with rfl | gA
    . grind
    grind
theorem arL{lt:α->α->Bool}(MZ:SWO lt):∀l:List α,(agk lt l).Pairwise λx y=>lt y x=false
 | []=>.nil
 | x::r=>arK MZ x (arL MZ r)
theorem ata{lt:α->α->Bool}:∀{l:List α},abN lt l=true->∀a b,a∈l->b∈l->a=b\/lt a b=true\/lt b a=true
 | x::r,h,a,b,ch,ai=>by
  simp only[abN,kc,qx,OT]at h;rcases LU.1 ch with aMX | afB <;> rcases LU.1 ai with aMY | LO
  . grind
  . grind
  . grind
  . exact ata h.2 a b afB LO
theorem aEr{lt:α->α->Bool}{l:List α}(a7:abN lt l=true):∀{a b:List α},a.Perm l->b.Perm l->a.Pairwise (λx y=>lt y x=false)->b.Pairwise (λx y=>lt y x=false)->a=b:=by
 intro a b ch ai h1 ah;refine List.Perm.eq_of_pairwise (le:=λx y=>lt y x=false) (λx y aa b8 bJ ea=>?_) h1 ah (ch.trans ai.symm);rcases ata a7 x y (ch.mem_iff.1 aa) (ai.mem_iff.1 b8)with h | h | h
 . exact h
 . grind
 grind
theorem aHp{lt:α->α->Bool}(MZ:SWO lt){l:List α}(a7:abN lt l=true):Nz lt l=agk lt l:=
 aEr a7 (akS MZ l) (asX lt l) (aEQ MZ l) (arL MZ l)
def apI(lt:α->α->Bool)(l:List α):Option (List α):=if abN lt l=true then some (agk lt l)else none
theorem aGb{lt:α->α->Bool}(MZ:SWO lt)(l:List α):Ru (apI lt l) (some (Nz lt l)):=by
 intro r h;unfold apI at h;split at h
 . rename_i a7;rw[aHp MZ a7];exact h
 . cases h
end
end Go.Proofs.YtijpinendaoleaaGreat.Shv
