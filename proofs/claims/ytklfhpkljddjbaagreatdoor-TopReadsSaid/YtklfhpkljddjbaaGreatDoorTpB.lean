/- The functions of the program as functions of Lean, that its code does what they say, and what they answer; part B. -/
import Derived.Test.YtklfhpkljddjbaaGreatDoorTpA

namespace Go.Proofs.YtklfhpkljddjbaaGreatDoor
set_option linter.all false
section
open Go Go.Proofs.YtklfhpkljddjbaaGreatDoor.Shv
open Tryz
set_option maxRecDepth 100000
def xf(a b:List UInt8):Bool:=decide (a=b)
def HA:List dD->List dD->Bool
 |[],[]=>true
 |x::l,y::m=>decide (x.aq=y.aq)&&xf x.Data y.Data&&HA l m
 |_,_=>false
mutual
def M8:ad->ad->Bool
 |⟨a1,a2,a3,a4,a5,bx,cp,cz⟩,b=>decide (a1=b.Kind)&&decide (a2=b.cX)&&decide (a3=b.b5)&&xf a4 b.ch&&decide (a5=b.aq)&&Et bx b.aZ&&Et cp b.aB&&HA cz b.Rest
def Et:List ad->List ad->Bool
 |[],b=>(match b with|[]=>true|_=>false)
 |x::l,b=>(match b with|[]=>false|y::m=>M8 x y&&Et l m)
end
def G9:List bj->List bj->Bool
 |[],[]=>true
 |x::l,y::m=>decide (x.aq=y.aq)&&xf x.Name y.Name&&decide (x.aQ=y.aQ)&&decide (x.dq=y.dq)&&decide (x.cV=y.cV)&&M8 x.cB y.cB&&G9 l m
 |_,_=>false
def Il:List fK->List fK->Bool
 |[],[]=>true
 |x::l,y::m=>decide (x.aq=y.aq)&&xf x.Name y.Name&&Il l m
 |_,_=>false
def HX:List au->List au->Bool
 |[],[]=>true
 |x::l,y::m=>decide (x.Kind=y.Kind)&&xf x.Name y.Name&&decide (x.cA=y.cA)&&decide (x.cD=y.cD)&&decide (x.Max=y.Max)&&Il x.bW y.bW&&G9 x.al y.al&&decide (x.a6=y.a6)&&decide (x.Key=y.Key)&&decide (x.Open=y.Open)&&HX l m
 |_,_=>false
theorem ae0:∀{a b:List dD},HA a b=true->a=b
 |[],[],_=>rfl
 |[],_::_,h=>by simp[HA]at h
 |_::_,[],h=>by simp[HA]at h
 |x::l,y::m,h=>by
  simp only[HA,xf,dM,ij]at h;obtain⟨⟨h1,aa⟩,aA⟩:=h;obtain⟨a,b⟩:=x;obtain⟨c,d⟩:=y;rw[ae0 aA];simp_all
mutual
theorem aaz:∀(a:ad) {b:ad},M8 a b=true->a=b
 |⟨a1,a2,a3,a4,a5,bx,cp,cz⟩,⟨b1,b2,cf,hI,hn,ny,uo,xF⟩,h=>by
  simp only[M8,xf,dM,ij]at h;obtain⟨⟨⟨⟨⟨⟨⟨h1,aa⟩,aA⟩,aU⟩,bN⟩,dO⟩,hV⟩,hW⟩:=h;rw[h1,aa,aA,aU,bN,aaP bx dO,aaP cp hV,ae0 hW]
theorem aaP:∀(a:List ad) {b:List ad},Et a b=true->a=b
 |[],[],_=>rfl
 |[],_::_,h=>by simp[Et]at h
 |_::_,[],h=>by simp[Et]at h
 |x::l,y::m,h=>by
  simp only[Et,dM]at h;rw[aaz x h.1,aaP l h.2]
end
theorem ae1:∀{a b:List bj},G9 a b=true->a=b
 |[],[],_=>rfl
 |[],_::_,h=>by simp[G9]at h
 |_::_,[],h=>by simp[G9]at h
 |x::l,y::m,h=>by
  simp only[G9,xf,dM,ij]at h;obtain⟨⟨⟨⟨⟨⟨h1,aa⟩,aA⟩,aU⟩,bN⟩,dO⟩,hV⟩:=h;have dO:=aaz _ dO;obtain⟨a1,a2,a3,a4,a5,bx⟩:=x;obtain⟨b1,b2,cf,hI,hn,ny⟩:=y;rw[ae1 hV];simp_all
theorem ae2:∀{a b:List fK},Il a b=true->a=b
 |[],[],_=>rfl
 |[],_::_,h=>by simp[Il]at h
 |_::_,[],h=>by simp[Il]at h
 |x::l,y::m,h=>by
  simp only[Il,xf,dM,ij]at h;obtain⟨⟨h1,aa⟩,aA⟩:=h;obtain⟨a,b⟩:=x;obtain⟨c,d⟩:=y;rw[ae2 aA];simp_all
theorem ae3:∀{a b:List au},HX a b=true->a=b
 |[],[],_=>rfl
 |[],_::_,h=>by simp[HX]at h
 |_::_,[],h=>by simp[HX]at h
 |x::l,y::m,h=>by
  simp only[HX,xf,dM,ij]at h;obtain⟨⟨⟨⟨⟨⟨⟨⟨⟨⟨h1,aa⟩,aA⟩,aU⟩,bN⟩,dO⟩,hV⟩,hW⟩,lE⟩,PC⟩,Jx⟩:=h;have dO:=ae2 dO;have hV:=ae1 hV;obtain⟨a1,a2,a3,a4,a5,bx,cp,cz,a9,h9⟩:=x;obtain⟨b1,b2,cf,hI,hn,ny,uo,xF,NP,aEr⟩:=y;rw[ae3 Jx];simp_all
def y9{α β:Type}(eq:α->α->Bool):List (α×β)->α->Option β
 |[],_=>none
 |p::r,h=>match eq p.1 h with
  |true=>some p.2
  |false=>y9 eq r h
theorem acy{α β:Type}{eq:α->α->Bool}(he:∀a b,eq a b=true->a=b){F:α->Option β}:∀{l:List (α×β)},(∀p,p∈l->F p.1=some p.2)->∀{h:α} {r:β},y9 eq l h=some r->F h=some r
 |[],_,h,r,ai=>by cases ai
 |p::l,aj,h,r,ai=>by
  unfold y9 at ai;split at ai
  . rename_i e;cases ai;rw[<-he _ _ e];exact aj p (by simp)
  . exact acy he (λq aE=>aj q (by simp[aE])) ai
theorem KM{e:eZ}{F:bb cm.D e.ts->Option (bb cm.D e.us)}(bF:fJ prog (e.s F)){eq:bb cm.D e.ts->bb cm.D e.ts->Bool}(he:∀a b,eq a b=true->a=b){l:List (bb cm.D e.ts×bb cm.D e.us)}(aj:∀p,p∈l->F p.1=some p.2):fJ prog (e.s (y9 eq l)):=
 ⟨bF.1,λh r ai=>bF.2 h r (acy he aj ai)⟩
def CC(a b:bY):Bool:=HX a.Types b.Types
theorem Mt(a b:bY)(h:CC a b=true):a=b:=by
 obtain⟨a⟩:=a;obtain⟨b⟩:=b;exact eL bY.mk (ae3 h)
def Ft(a b:bY×Int×ad):Bool:=decide (a.2.1=b.2.1)&&(CC a.1 b.1&&M8 a.2.2 b.2.2)
theorem aeG(a b:bY×Int×ad)(h:Ft a b=true):a=b:=by
 simp only[Ft,dM,ij]at h;exact D8 (Mt _ _ h.2.1) (D8 h.1 (aaz _ h.2.2))
def Px(a b:bY×Int):Bool:=decide (a.2=b.2)&&CC a.1 b.1
theorem av2(a b:bY×Int)(h:Px a b=true):a=b:=by
 simp only[Px,dM,ij]at h;exact D8 (Mt _ _ h.2) h.1
def Pw(a b:bY×Int×bY×Int):Bool:=decide (a.2.1=b.2.1)&&(decide (a.2.2.2=b.2.2.2)&&(CC a.1 b.1&&CC a.2.2.1 b.2.2.1))
theorem av3(a b:bY×Int×bY×Int)(h:Pw a b=true):a=b:=by
 simp only[Pw,dM,ij]at h;exact D8 (Mt _ _ h.2.2.1) (D8 h.1 (D8 (Mt _ _ h.2.2.2) h.2.1))
def lk(b:Bool):bj:=⟨1,[120],1,false,true,⟨1,b,0,[],0,[],[],[]⟩⟩
def H0:bj:=⟨1,[120],1,false,false,⟨0,false,0,[],0,[],[],[]⟩⟩
def jc(m:bj):cG:=⟨⟨[⟨5,[82],0,0,0,[],[m],0,0,false⟩,⟨1,[],0,0,0,[],[],0,0,false⟩]⟩,0⟩
def TD:cG:=⟨⟨[⟨5,[82],0,0,0,[],[],0,0,false⟩]⟩,0⟩
def H2:oZ:=⟨false,[],[]⟩
def H3:oZ:=⟨true,[⟨0,0⟩,⟨1,1⟩],[]⟩
abbrev eG(b:Bool):bY:=(jc (lk b)).hQ
abbrev h4:bY:=(jc H0).hQ
def oA(b:Bool):ad:=⟨1,b,0,[],0,[],[],[]⟩
def oB(b:Bool):ad:=⟨5,false,0,[],0,[],[⟨1,b,0,[],0,[],[],[]⟩],[]⟩
theorem aky(b:Bool):qx [b]=some (jc (lk b)):=rfl
theorem akz:qx []=some (jc H0):=rfl
def aDl:List eZ:=[Tu,Ph,Oq,OO,Pg,Fm,Cx,OQ,OP,Oo,OK,OL,Ol,OM,Om,ON,On,N5,N6,Pe,OF,Oe,Ou,Ot,Oa,Of,Oj,Oi,Ps,Fj,Hb,Hc,Fi,Pa,OY,OG,Oh,Pq,OZ,OI]
def aDm:List eZ:=[OH,Og,xV,Pj,O2,OW,O3,OX,OD,Pk,O5,Od,Fp,Pl,Pm,Ob,Pf,Oc,OB,zT,zU,Fo,Cy,OC,Pr,Pc,Pp,OT,OU,O8,O9,OJ,O',Po,Pb,Pd,Fk,Fl,vW,vV]
def aDn:List eZ:=[Fe,Ff,Fg,CA,O0,Pn,O6,O7,OE,o0,UT,UE,UL,UN,UM,UK,UJ,UF,UG,xU,Uz,sq,UI,UB,UH,UA,UU,UO,UP,Cu,UX,UC,UW,UQ,Je,aay,Jf,Jg,Jh,Ji]
def aDo:List eZ:=[UD,Jj,N7,N8,N9,uQ,O1,OR,Ov,E',OS,Ow,Fa,Fb,Ox,Oz,Oy,zS,Fc,Cz,OV,zW,UR,Cv,nF]
def qS:List eZ:=aDl++aDm++aDn++aDo
theorem ae4:qS.all (ze prog)=true:=by kernel_rfl
def aDp:List eZ:=[Tu,Ph,Oq,OO,Pg,Fm,Cx,OQ,OP,Oo,OK,OL,Ol,OM,Om,ON,On,N5,N6,Pe,OF,Oe,Ou,Ot,Oa,Of,Oj,Oi,Ps,Fj,Hb,Hc,Fi,Pa,OY,OG,Oh,Pq,OZ,OI]
def aDq:List eZ:=[OH,Og,xV,Pj,O2,OW,O3,OX,OD,Pk,O5,Od,Fp,Pl,Pm,Ob,Pf,Oc,OB,zT,zU,Fo,Cy,OC,Pr,Pc,Pp,OT,OU,O8,O9,OJ,O',Po,Pb,Pd,Fk,Fl,vW,vV]
def aDr:List eZ:=[Fe,Ff,Fg,CA,O0,Pn,O6,O7,OE,o0,UT,UE,UL,UN,UM,UK,UJ,UF,UG,Uz,UI,UB,UH,UA,UU,UO,UP,Cu,UX,UC,UW,UQ,Je,aay,Jf,Jg,Jh,Ji,UD,Jj]
def aDs:List eZ:=[N7,N8,N9,uQ,O1,OR,Ov,E',OS,Ow,Fa,Fb,Ox,Oz,Oy,zS,Fc,Cz,OV,zW,UR,Cv,nF]
def zt:List eZ:=aDp++aDq++aDr++aDs
theorem Bc:zt.all (ze prog)=true:=by kernel_rfl
noncomputable abbrev pB:List (cY cm):=[Ks,Kr,r6,r7,r8,tc,sa,td]
theorem NH:lq prog pB:=(.k alx (.k alw (.k tm (.k tn (.k uC (.k x' (.k we (.k ya .n))))))))
theorem aBS:fk prog ku pB 3000 zR (eG true)=some (0:Int):=by kernel_rfl
theorem aBT:fk prog ku pB 3000 zR (eG false)=some (0:Int):=by kernel_rfl
theorem aBU:fk prog ku pB 3000 zR h4=some (0:Int):=by kernel_rfl
noncomputable def ai4:cY cm:=zR.s (y9 CC [((eG true),(0:Int)),((eG false),(0:Int)),(h4,(0:Int))])
theorem aBV:fJ prog ai4:=KM (e:=zR) (F:=fk prog ku pB 3000 zR) (.run uS NH (.m (by kernel_rfl)) 3000 λ_=>rfl) (eq:=CC) Mt (l:=[((eG true),(0:Int)),((eG false),(0:Int)),(h4,(0:Int))]) (by
 intro p ar;simp only[fz,L1,D9]at ar;rcases ar with rfl|rfl|rfl
 . exact aBS
 . exact aBT
 . exact aBU)
theorem aBt:fk prog ku pB 3000 e8 (eG true,(0:Int),oB true)=some (([]:List UInt8),(0:Int)):=by kernel_rfl
theorem aBu:fk prog ku pB 3000 e8 (eG true,(1:Int),oA false)=some (([]:List UInt8),(0:Int)):=by kernel_rfl
theorem aBv:fk prog ku pB 3000 e8 (h4,(0:Int),oB false)=some (([2,0]:List UInt8),(0:Int)):=by kernel_rfl
theorem aBw:fk prog ku pB 3000 e8 (h4,(1:Int),oA false)=some (([]:List UInt8),(0:Int)):=by kernel_rfl
noncomputable def ai0:cY cm:=e8.s (y9 Ft [((eG true,(0:Int),oB true),(([]:List UInt8),(0:Int))),((eG true,(1:Int),oA false),(([]:List UInt8),(0:Int))),((h4,(0:Int),oB false),(([2,0]:List UInt8),(0:Int))),((h4,(1:Int),oA false),(([]:List UInt8),(0:Int)))])
theorem aBx:fJ prog ai0:=KM (e:=e8) (F:=fk prog ku pB 3000 e8) (.run uS NH (.m (by kernel_rfl)) 3000 λ_=>rfl) (eq:=Ft) aeG (l:=[((eG true,(0:Int),oB true),(([]:List UInt8),(0:Int))),((eG true,(1:Int),oA false),(([]:List UInt8),(0:Int))),((h4,(0:Int),oB false),(([2,0]:List UInt8),(0:Int))),((h4,(1:Int),oA false),(([]:List UInt8),(0:Int)))]) (by
 intro p ar;simp only[fz,L1,D9]at ar;rcases ar with rfl|rfl|rfl|rfl
 . exact aBt
 . exact aBu
 . exact aBv
 . exact aBw)
theorem aBN:fk prog ku pB 3000 zV (eG true,(0:Int),oB true)=some ((0:Int),(0:Int)):=by kernel_rfl
theorem aBO:fk prog ku pB 3000 zV (eG true,(1:Int),oA false)=some ((0:Int),(0:Int)):=by kernel_rfl
theorem aBP:fk prog ku pB 3000 zV (h4,(0:Int),oB false)=some ((2:Int),(0:Int)):=by kernel_rfl
theorem aBQ:fk prog ku pB 3000 zV (h4,(1:Int),oA false)=some ((0:Int),(0:Int)):=by kernel_rfl
noncomputable def ai3:cY cm:=zV.s (y9 Ft [((eG true,(0:Int),oB true),((0:Int),(0:Int))),((eG true,(1:Int),oA false),((0:Int),(0:Int))),((h4,(0:Int),oB false),((2:Int),(0:Int))),((h4,(1:Int),oA false),((0:Int),(0:Int)))])
theorem aBR:fJ prog ai3:=KM (e:=zV) (F:=fk prog ku pB 3000 zV) (.run uS NH (.m (by kernel_rfl)) 3000 λ_=>rfl) (eq:=Ft) aeG (l:=[((eG true,(0:Int),oB true),((0:Int),(0:Int))),((eG true,(1:Int),oA false),((0:Int),(0:Int))),((h4,(0:Int),oB false),((2:Int),(0:Int))),((h4,(1:Int),oA false),((0:Int),(0:Int)))]) (by
 intro p ar;simp only[fz,L1,D9]at ar;rcases ar with rfl|rfl|rfl|rfl
 . exact aBN
 . exact aBO
 . exact aBP
 . exact aBQ)
noncomputable abbrev pC:List (cY cm):=ai4::ai0::ai3::pB
theorem Uk:lq prog pC:= .k aBV (.k aBx (.k aBR NH))
theorem aBz:fk prog qS pC 3000 xU (eG true,(0:Int))=some (oB true,(0:Int)):=by kernel_rfl
theorem aBA:fk prog qS pC 3000 xU (eG true,(1:Int))=some (oA false,(0:Int)):=by kernel_rfl
theorem aBB:fk prog qS pC 3000 xU (h4,(0:Int))=some (oB false,(0:Int)):=by kernel_rfl
theorem aBC:fk prog qS pC 3000 xU (h4,(1:Int))=some (oA false,(0:Int)):=by kernel_rfl
noncomputable def ai1:cY cm:=xU.s (y9 Px [((eG true,(0:Int)),(oB true,(0:Int))),((eG true,(1:Int)),(oA false,(0:Int))),((h4,(0:Int)),(oB false,(0:Int))),((h4,(1:Int)),(oA false,(0:Int)))])
theorem aBD:fJ prog ai1:=KM (e:=xU) (F:=fk prog qS pC 3000 xU) (.run ae4 Uk (.m (by kernel_rfl)) 3000 λ_=>rfl) (eq:=Px) av2 (l:=[((eG true,(0:Int)),(oB true,(0:Int))),((eG true,(1:Int)),(oA false,(0:Int))),((h4,(0:Int)),(oB false,(0:Int))),((h4,(1:Int)),(oA false,(0:Int)))]) (by
 intro p ar;simp only[fz,L1,D9]at ar;rcases ar with rfl|rfl|rfl|rfl
 . exact aBz
 . exact aBA
 . exact aBB
 . exact aBC)
theorem aBE:fk prog qS pC 3000 sq ((eG true),(0:Int),(eG false),(0:Int))=some ((10:Int),(0:Int)):=by kernel_rfl
theorem aBF:fk prog qS pC 3000 sq ((eG true),(0:Int),(eG false),(1:Int))=some ((9:Int),(0:Int)):=by kernel_rfl
theorem aBG:fk prog qS pC 3000 sq ((eG true),(1:Int),(eG false),(0:Int))=some ((9:Int),(0:Int)):=by kernel_rfl
theorem aBH:fk prog qS pC 3000 sq ((eG true),(1:Int),(eG false),(1:Int))=some ((0:Int),(0:Int)):=by kernel_rfl
theorem aBI:fk prog qS pC 3000 sq (h4,(0:Int),(eG true),(0:Int))=some ((0:Int),(0:Int)):=by kernel_rfl
theorem aBJ:fk prog qS pC 3000 sq (h4,(0:Int),(eG true),(1:Int))=some ((9:Int),(0:Int)):=by kernel_rfl
theorem aBK:fk prog qS pC 3000 sq (h4,(1:Int),(eG true),(0:Int))=some ((9:Int),(0:Int)):=by kernel_rfl
theorem aBL:fk prog qS pC 3000 sq (h4,(1:Int),(eG true),(1:Int))=some ((0:Int),(0:Int)):=by kernel_rfl
noncomputable def ai2:cY cm:=sq.s (y9 Pw [(((eG true),(0:Int),(eG false),(0:Int)),((10:Int),(0:Int))),(((eG true),(0:Int),(eG false),(1:Int)),((9:Int),(0:Int))),(((eG true),(1:Int),(eG false),(0:Int)),((9:Int),(0:Int))),(((eG true),(1:Int),(eG false),(1:Int)),((0:Int),(0:Int))),((h4,(0:Int),(eG true),(0:Int)),((0:Int),(0:Int))),((h4,(0:Int),(eG true),(1:Int)),((9:Int),(0:Int))),((h4,(1:Int),(eG true),(0:Int)),((9:Int),(0:Int))),((h4,(1:Int),(eG true),(1:Int)),((0:Int),(0:Int)))])
theorem aBM:fJ prog ai2:=KM (e:=sq) (F:=fk prog qS pC 3000 sq) (.run ae4 Uk (.m (by kernel_rfl)) 3000 λ_=>rfl) (eq:=Pw) av3 (l:=[(((eG true),(0:Int),(eG false),(0:Int)),((10:Int),(0:Int))),(((eG true),(0:Int),(eG false),(1:Int)),((9:Int),(0:Int))),(((eG true),(1:Int),(eG false),(0:Int)),((9:Int),(0:Int))),(((eG true),(1:Int),(eG false),(1:Int)),((0:Int),(0:Int))),((h4,(0:Int),(eG true),(0:Int)),((0:Int),(0:Int))),((h4,(0:Int),(eG true),(1:Int)),((9:Int),(0:Int))),((h4,(1:Int),(eG true),(0:Int)),((9:Int),(0:Int))),((h4,(1:Int),(eG true),(1:Int)),((0:Int),(0:Int)))]) (by
 intro p ar;simp only[fz,L1,D9]at ar;rcases ar with rfl|rfl|rfl|rfl|rfl|rfl|rfl|rfl
 . exact aBE
 . exact aBF
 . exact aBG
 . exact aBH
 . exact aBI
 . exact aBJ
 . exact aBK
 . exact aBL)
noncomputable abbrev xD:List (cY cm):=ai1::ai2::pC
theorem zK:lq prog xD:= .k aBD (.k aBM Uk)
noncomputable def Yd:cG×cG->Option (oZ×Int):=fk prog zt xD 3000 Cu
theorem aDb:bU Cu Yd:= .run Bc zK (.m (by kernel_rfl)) 3000 λ_=>rfl
theorem aDw:Yd (jc (lk true),jc (lk false))=some (H2,0):=by kernel_rfl
theorem aDx:Yd (jc H0,jc (lk true))=some (H3,0):=by kernel_rfl
noncomputable def ajF:cY cm:=agL.s (Xt (fk prog zt xD 3000 Je) (fk prog zt xD 3000 Jf) (fk prog zt xD 3000 Jg) (fk prog zt xD 3000 Jh) (fk prog zt xD 3000 Ji) (fk prog zt xD 3000 Jj))
theorem awx:fJ prog ajF:=afg (.run Bc zK (.m (by kernel_rfl)) 3000 λ_=>rfl) (.run Bc zK (.m (by kernel_rfl)) 3000 λ_=>rfl) (.run Bc zK (.m (by kernel_rfl)) 3000 λ_=>rfl) (.run Bc zK (.m (by kernel_rfl)) 3000 λ_=>rfl) (.run Bc zK (.m (by kernel_rfl)) 3000 λ_=>rfl) (.run Bc zK (.m (by kernel_rfl)) 3000 λ_=>rfl)
noncomputable abbrev af':List (cY cm):=ajF::xD
theorem axm:lq prog af':= .k awx zK
noncomputable def Ye:cG×cG×oZ->Option (Bool):=fk prog zt af' 3000 Cv
theorem aDc:bU Cv Ye:= .run Bc axm (.m (by kernel_rfl)) 3000 λ_=>rfl
theorem aDt:Aj (TD,jc (lk false))=some (true,0):=by kernel_rfl
theorem aDu:Aj (jc (lk true),TD)=some (true,0):=by kernel_rfl
theorem aDv:Aj (jc (lk true),jc (lk false))=some (false,0):=by kernel_rfl
theorem aDy:Ye (jc (lk true),jc (lk false),H2)=some true:=by kernel_rfl
theorem aDz:Ye (jc H0,jc (lk true),H3)=some true:=by kernel_rfl
theorem av4 {ub:cG×cG->Option (oZ×Int)}{ED:cG×cG×oZ->Option (Bool)}{xt:cG×cG->Option (Bool×Int)}(bD:xt (TD,jc (lk false))=some (true,0))(bJ:xt (jc (lk true),TD)=some (true,0))(c1:xt (jc (lk true),jc (lk false))=some (false,0))
 (d1:ub (jc (lk true),jc (lk false))=some (H2,0))(d2:ub (jc H0,jc (lk true))=some (H3,0))(k1:ED (jc (lk true),jc (lk false),H2)=some true)(k2:ED (jc H0,jc (lk true),H3)=some true):XN ub ED xt=some true:=by
 have aR:xt ((⟨(⟨[(⟨5,[82],0,0,0,[],[],0,0,false⟩:au)]⟩:bY),0⟩:cG),jc (lk false))=some (true,0):=bD;have bw:xt (jc (lk true),(⟨(⟨[(⟨5,[82],0,0,0,[],[],0,0,false⟩:au)]⟩:bY),0⟩:cG))=some (true,0):=bJ;unfold XN;simp only[aky,akz,bL,aK,aR,bw,c1,d1,d2];simp[H2,H3,aky,akz]
 simp only[H2,H3]at k1 k2;simp[k1,k2]
def Q3(_:Unit):Option (Bool):=some true
theorem anW:bU nF Q3:=by
 have:=aog aDb aDc aou;rw[av4 aDt aDu aDv aDw aDx aDy aDz]at this;exact this
theorem alo:Q3 ()=some true:=rfl
end
end Go.Proofs.YtklfhpkljddjbaaGreatDoor
