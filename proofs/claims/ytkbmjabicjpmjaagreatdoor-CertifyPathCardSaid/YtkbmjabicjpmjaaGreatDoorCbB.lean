/- The functions of the program as functions of Lean, that its code does what they say, and what they answer; part B. -/
import Derived.Test.YtkbmjabicjpmjaaGreatDoorCbA

namespace Go.Proofs.YtkbmjabicjpmjaaGreatDoor
set_option linter.all false
section
open Go Go.Proofs.YtkbmjabicjpmjaaGreatDoor.Shv
open Tryz
set_option maxRecDepth 100000
def mM(x_:Int×Int):Option (Bool):=
 match x_ with
 |(before,n)=>
 some (bif bif decide (before<n)then decide (1<=n)else false then decide (n<=1000)else false)
theorem wB:FC e298 mM:= .fx
def dX(x_:List aO×Int×Int):Option ((Bool) ⊕ (List aO×Int)):=
 match x_ with
 |(l_4,i_2,k)=>
 if decide (k<i_2)=true then if inR k l_4.length=true then if inR i_2 l_4.length=true then if decide ((l_4.getD k.toNat aT).Name=(l_4.getD i_2.toNat aT).Name)=true then some (.inl false)
 else dX (l_4,i_2,addI .i64 k 1)
 else none
 else none
 else some (.inr (l_4,i_2))
  partial_fixpoint
theorem Eb:LC 241 0 [0,0] AP dX:= .rx dX.partial_correctness
def fl(x_:List aO×Int×Int):Option ((Bool) ⊕ (List aO)):=
 match x_ with
 |(l_2,before,i)=>
 if decide (i<(l_2.length:Int))=true then if inR i l_2.length=true then mM (before,(l_2.getD i.toNat aT).ID)>>=λr=>some (!r)>>=λt19=>if(inR i l_2.length||(!(!t19)))=true then (if(!t19)=true then ja (l_2.getD i.toNat aT).Name else some false)>>=λr_1=>if(bif t19 then true else(!r_1))=true then some (.inl false)
 else dX (l_2,i,0)>>=λo_3=>match o_3 with
 |.inl o_4=>
 some (.inl o_4)
 |.inr o_5=>
 if inR o_5.2 o_5.1.length=true then fl (o_5.1,(o_5.1.getD o_5.2.toNat aT).ID,addI .i64 o_5.2 1)
 else none
 else none
 else none
 else some (.inr l_2)
  partial_fixpoint
theorem Ev:LC 241 0 [0] Di fl:= .rx fl.partial_correctness (.k wB (.k r5 .n)) (.k Eb .n)
def lY(l:List aO):Option (Bool):=
 fl (l,0,0)>>=λo=>match o with
 |.inl o_1=>
 some o_1
 |.inr o_2=>
 some (bif decide (1<=(o_2.length:Int))then decide ((o_2.length:Int)<=16)else false)
theorem Fh:FC e241 lY:= .fx .n (.k Ev .n)
def dY(x_:List av×Bool×Int×Int×av):Option ((Bool) ⊕ (List av×Bool×Int×av)):=
 match x_ with
 |(l_4,record_4,i_2,k,b_1)=>
 if decide (k<i_2)=true then if inR k l_4.length=true then if decide ((l_4.getD k.toNat af).Name=b_1.Name)=true then some (.inl false)
 else dY (l_4,record_4,i_2,addI .i64 k 1,(⟨b_1.ID,b_1.Name,b_1.Type_,b_1.Critical,b_1.HasDefault,ab.eta b_1.Default⟩:av))
 else none
 else some (.inr (l_4,record_4,i_2,(⟨b_1.ID,b_1.Name,b_1.Type_,b_1.Critical,b_1.HasDefault,ab.eta b_1.Default⟩:av)))
  partial_fixpoint
theorem Ec:LC 242 0 [0,0] AQ dY:= .rx dY.partial_correctness
def fm(x_:List av×Bool×Int×Int):Option ((Bool) ⊕ (List av×Bool)):=
 match x_ with
 |(l_2,record_2,before,i)=>
 if decide (i<(l_2.length:Int))=true then if inR i l_2.length=true then some (l_2.getD i.toNat af)>>=λx0=>mM (before,x0.ID)>>=λr=>some (!r)>>=λt23=>(if(!t23)=true then ja x0.Name else some false)>>=λr_1=>if(bif bif bif t23 then true else(!r_1)then true else bif x0.Critical then x0.HasDefault else false then true else bif (!record_2)then bif x0.Critical then true else x0.HasDefault else false)=true then some (.inl false)
 else some (!x0.HasDefault)>>=λt52=>(if t52=true then cu (ab.eta x0.Default,(⟨0,false,0,[],0,[],[],[]⟩:ab))else some false)>>=λr_2=>if(bif t52 then(!r_2)else false)=true then some (.inl false)
 else dY (l_2,record_2,i,0,(⟨x0.ID,x0.Name,x0.Type_,x0.Critical,x0.HasDefault,ab.eta x0.Default⟩:av))>>=λo_3=>match o_3 with
 |.inl o_4=>
 some (.inl o_4)
 |.inr o_5=>
 fm (o_5.1,o_5.2.1,o_5.2.2.2.ID,addI .i64 o_5.2.2.1 1)
 else none
 else some (.inr (l_2,record_2))
  partial_fixpoint
theorem Ew:LC 242 0 [0] Dj fm:= .rx fm.partial_correctness (.k wB (.k r5 (.k o8 .n))) (.k Ec .n)
def j9(x_:List av×Bool):Option (Bool):=
 match x_ with
 |(l,record)=>
 fm (l,record,0,0)>>=λo=>match o with
 |.inl o_1=>
 some o_1
 |.inr o_2=>
 some (bif decide ((o_2.1.length:Int)<=16)then bif o_2.2 then true else decide (1<=(o_2.1.length:Int))else false)
theorem Fj:FC e242 j9:= .fx .n (.k Ew .n)
def bG(t:ae):Option (Bool):=
 some (bif decide (t.Kind<1)then true else decide (9<t.Kind))>>=λt10=>(if(!t10)=true then dB t else some ag)>>=λr=>(if(!t10)=true then pe (t,r)else some false)>>=λr_1=>some (bif t10 then true else(!r_1))>>=λt17=>(if(!t17)=true then cn t.Kind else some false)>>=λr_2=>(if((!t17)&&r_2)=true then ja t.Name else some false)>>=λr_3=>if(bif t17 then true else bif r_2 then(!r_3)else false)=true then some false
 else if decide (t.Kind=2)=true then some (decide (t.Low<=t.High))
 else if decide (t.Kind=3)=true then some (bif decide (0<=t.Max)then decide (t.Max<=200)else false)
 else if decide (t.Kind=4)=true then lY t.Symbols>>=λr_4=>some r_4
 else some (decide (t.Kind=5))>>=λt54=>if t54=true then if t54=true then j9 (t.Members,decide (t.Kind=5))>>=λr_5=>some r_5
 else some (decide (t.Kind=7))>>=λt63=>if t63=true then if t63=true then some (bif decide (0<=t.Max)then decide (t.Max<=50)else false)
 else some true
 else if decide (t.Kind=8)=true then some (bif decide (0<=t.Max)then decide (t.Max<=50)else false)
 else some true
 else if decide (t.Kind=6)=true then j9 (t.Members,decide (t.Kind=5))>>=λr_6=>some r_6
 else some (decide (t.Kind=7))>>=λt63_1=>if t63_1=true then if t63_1=true then some (bif decide (0<=t.Max)then decide (t.Max<=50)else false)
 else some true
 else if decide (t.Kind=8)=true then some (bif decide (0<=t.Max)then decide (t.Max<=50)else false)
 else some true
theorem G5:FC e167 bG:= .fx (.k Gi (.k EU (.k r8 (.k r5 (.k Fh (.k Fj .n))))))
def iY(x_:Int×ae×List Int):Option (ae×List Int):=
 match x_ with
 |(i,b_2,b_3)=>
 if decide (i<(b_2.Members.length:Int))=true then if inR i b_2.Members.length=true then some [(b_2.Members.getD i.toNat af).Type_]>>=λt19=>if room 8 (b_3++t19).length=true then iY (addI .i64 i 1,b_2,b_3++t19)
 else none
 else none
 else some (b_2,b_3)
  partial_fixpoint
theorem Fk:LC 168 0 [0] Dk iY:= .rx iY.partial_correctness
def pP(t:ae):Option (List Int):=
 iY (0,t,[])>>=λo=>if decide (o.1.Kind=8)=true then some [o.1.Key]>>=λt27=>if room 8 (o.2++t27).length=true then some (o.2++t27)>>=λl=>if(bif bif decide (o.1.Kind=7)then true else decide (o.1.Kind=8)then true else decide (o.1.Kind=9))=true then some [o.1.Elem]>>=λt45=>if room 8 (l++t45).length=true then some (l++t45)
 else none
 else some l
 else none
 else if(bif bif decide (o.1.Kind=7)then true else decide (o.1.Kind=8)then true else decide (o.1.Kind=9))=true then some [o.1.Elem]>>=λt45_1=>if room 8 (o.2++t45_1).length=true then some (o.2++t45_1)
 else none
 else some o.2
theorem GK:FC e168 pP:= .fx .n (.k Fk .n)
def ei(x_:Int×Int×List ae×Int×List UInt8×Int×Int×Int×List aO×List av×Int×Int×Bool):Option ((Int) ⊕ (Int×List ae×Int×List UInt8×Int×Int×Int×List aO×List av×Int×Int×Bool)):=
 match x_ with
 |(i_3,k,b_23,b_24,b_25,b_26,b_27,b_28,b_29,b_30,b_31,b_32,b_33)=>
 if decide (k<i_3)=true then cn b_24>>=λr_3=>if(inR k b_23.length||(!r_3))=true then if(bif r_3 then decide ((b_23.getD k.toNat ag).Name=b_25)else false)=true then some (.inl 1)
 else ei (i_3,addI .i64 k 1,b_23,b_24,b_25,b_26,b_27,b_28,b_29,b_30,b_31,b_32,b_33)
 else none
 else some (.inr (i_3,b_23,b_24,b_25,b_26,b_27,b_28,b_29,b_30,b_31,b_32,b_33))
  partial_fixpoint
theorem Ey:LC 106 0 [0,0] AS ei:= .rx ei.partial_correctness (.k r8 .n)
def gu(x_:Int×List Int×Int×List ae×Int×List UInt8×Int×Int×Int×List aO×List av×Int×Int×Bool):Option ((Int) ⊕ (Int×List ae×Int×List UInt8×Int×Int×Int×List aO×List av×Int×Int×Bool)):=
 match x_ with
 |(i_4,l,k_1,b_34,b_35,b_36,b_37,b_38,b_39,b_40,b_41,b_42,b_43,b_44)=>
 if decide (k_1<(l.length:Int))=true then if inR k_1 l.length=true then some (decide (l.getD k_1.toNat 0<0))>>=λt58=>if(inR k_1 l.length||(!(!t58)))=true then if(bif t58 then true else decide ((b_34.length:Int)<=l.getD k_1.toNat 0))=true then some (.inl 4)
 else gu (i_4,l,addI .i64 k_1 1,b_34,b_35,b_36,b_37,b_38,b_39,b_40,b_41,b_42,b_43,b_44)
 else none
 else none
 else some (.inr (i_4,b_34,b_35,b_36,b_37,b_38,b_39,b_40,b_41,b_42,b_43,b_44))
  partial_fixpoint
theorem Ez:LC 106 0 [1,0] AT gu:= .rx gu.partial_correctness
def gB(x_:Int×List ae):Option ((Int) ⊕ (Unit)):=
 match x_ with
 |(i,b)=>
 if decide (i<(b.length:Int))=true then if inR i b.length=true then some (b.getD i.toNat ag)>>=λx0=>bG x0>>=λr=>if(!r)=true then some (.inl 1)
 else ei (i,0,b,x0.Kind,x0.Name,x0.Low,x0.High,x0.Max,x0.Symbols,x0.Members,x0.Key,x0.Elem,x0.Open)>>=λo_3=>match o_3 with
 |.inl o_4=>
 some (.inl o_4)
 |.inr o_5=>
 pP (⟨o_5.2.2.1,o_5.2.2.2.1,o_5.2.2.2.2.1,o_5.2.2.2.2.2.1,o_5.2.2.2.2.2.2.1,o_5.2.2.2.2.2.2.2.1,o_5.2.2.2.2.2.2.2.2.1,o_5.2.2.2.2.2.2.2.2.2.1,o_5.2.2.2.2.2.2.2.2.2.2.1,o_5.2.2.2.2.2.2.2.2.2.2.2⟩:ae)>>=λr_1=>gu (o_5.1,r_1,0,o_5.2.1,o_5.2.2.1,o_5.2.2.2.1,o_5.2.2.2.2.1,o_5.2.2.2.2.2.1,o_5.2.2.2.2.2.2.1,o_5.2.2.2.2.2.2.2.1,o_5.2.2.2.2.2.2.2.2.1,o_5.2.2.2.2.2.2.2.2.2.1,o_5.2.2.2.2.2.2.2.2.2.2.1,o_5.2.2.2.2.2.2.2.2.2.2.2)>>=λo_6=>match o_6 with
 |.inl o_7=>
 some (.inl o_7)
 |.inr o_8=>
 some (decide (o_8.2.2.1=8))>>=λt71=>if(inR o_8.2.2.2.2.2.2.2.2.2.1 o_8.2.1.length||(!t71))=true then (if t71=true then lV (o_8.2.1.getD o_8.2.2.2.2.2.2.2.2.2.1.toNat ag).Kind else some false)>>=λr_2=>if(bif t71 then(!r_2)else false)=true then some (.inl 1)
 else gB (addI .i64 o_8.1 1,o_8.2.1)
 else none
 else none
 else some (.inr ())
  partial_fixpoint
theorem EV:LC 106 0 [0] Dl gB:= .rx gB.partial_correctness (.k G5 (.k GK (.k vP .n))) (.k Ey (.k Ez .n))
def gV(s:au):Option (Int):=
 if decide (32<(s.Types.length:Int))=true then some 3
 else gB (0,s.Types)>>=λo=>match o with
 |.inl o_1=>
 some o_1
 |.inr o_2=>
 some 0
theorem se:FC e106 gV:= .fx .n (.k EV .n)
def jm(v:ab):Option (Bool):=
 some (bif bif bif bif bif bif bif decide (v.Kind=1)then true else(!v.Bool_)then bif decide (v.Kind=2)then true else decide (v.Int_=0)else false then bif decide (v.Kind=3)then true else decide (v.Str=[])else false then bif bif decide (v.Kind=4)then true else decide (v.Kind=6)then true else decide (v.ID=0)else false then bif decide (v.Kind=8)then true else decide ((v.Keys.length:Int)=0)else false then bif decide (5<=v.Kind)then true else decide ((v.Items.length:Int)=0)else false then bif bif decide (v.Kind=5)then true else decide (v.Kind=6)then true else decide ((v.Rest.length:Int)=0)else false)
theorem GM:FC e177 jm:= .fx
def ek(x_:Int×Int×ae):Option ((Int×Bool) ⊕ (Unit)):=
 match x_ with
 |(id_1,i,b)=>
 if decide (i<(b.Symbols.length:Int))=true then if inR i b.Symbols.length=true then if decide ((b.Symbols.getD i.toNat aT).ID=id_1)=true then some (.inl (i,true))
 else ek (id_1,addI .i64 i 1,b)
 else none
 else some (.inr ())
  partial_fixpoint
theorem EG:LC 122 0 [0] Dm ek:= .rx ek.partial_correctness
def jc(x_:ae×Int):Option (Int×Bool):=
 match x_ with
 |(t,id)=>
 ek (id,0,t)>>=λo=>match o with
 |.inl o_1=>
 some (o_1.1,o_1.2)
 |.inr o_2=>
 some (0,false)
theorem r6:FC e122 jc:= .fx .n (.k EG .n)
def cb(x_:Int×Bool):Option (Bool):=
 match x_ with
 |(n,known)=>
 some (bif bif (!known)then decide (1<=n)else false then decide (n<=1000)else false)
theorem wC:FC e178 cb:= .fx
def ft(x_:Int×Int×ae):Option ((Int×Bool) ⊕ (Unit)):=
 match x_ with
 |(id_1,i,b)=>
 if decide (i<(b.Members.length:Int))=true then if inR i b.Members.length=true then if decide ((b.Members.getD i.toNat af).ID=id_1)=true then some (.inl (i,true))
 else ft (id_1,addI .i64 i 1,b)
 else none
 else some (.inr ())
  partial_fixpoint
theorem EH:LC 98 0 [0] e98_0 ft:= .rx ft.partial_correctness
def bO(x_:ae×Int):Option (Int×Bool):=
 match x_ with
 |(t,id)=>
 ft (id,0,t)>>=λo=>match o with
 |.inl o_1=>
 some (o_1.1,o_1.2)
 |.inr o_2=>
 some (0,false)
theorem du:FC e98 bO:= .fx .n (.k EH .n)
def db(x_:List aK×Int×ae):Option ((Bool) ⊕ (Unit)):=
 match x_ with
 |(l_1,i,b)=>
 if decide (i<(l_1.length:Int))=true then if inR i l_1.length=true then bO (b,(l_1.getD i.toNat aE).ID)>>=λr=>if inR i l_1.length=true then cb ((l_1.getD i.toNat aE).ID,r.2)>>=λr_3=>some (!r_3)>>=λt31=>some (decide (0<i))>>=λt34=>if(inR i l_1.length||(!((!t31)&&t34)))=true then some (subI .i64 i 1)>>=λt43=>if(inR t43 l_1.length||(!((!t31)&&t34)))=true then if(bif t31 then true else bif t34 then decide ((l_1.getD i.toNat aE).ID<=(l_1.getD t43.toNat aE).ID)else false)=true then some (.inl false)
 else db (l_1,addI .i64 i 1,b)
 else none
 else none
 else none
 else none
 else some (.inr ())
  partial_fixpoint
theorem Fl:LC 179 0 [0] Dn db:= .rx db.partial_correctness (.k du (.k wC .n))
def jn(x_:ae×List aK):Option (Bool):=
 match x_ with
 |(t,l)=>
 db (l,0,t)>>=λo=>match o with
 |.inl o_1=>
 some o_1
 |.inr o_2=>
 some true
theorem GN:FC e179 jn:= .fx .n (.k Fl .n)
def kg(n:Int):Option (Int):=
 if decide (0<=n)=true then some (mulI .u64 2 (wrp .u64 n))
 else some (addI .u64 (mulI .u64 2 (wrp .u64 (subI .i64 0 (addI .i64 n 1)))) 1)
theorem vV:FC e115 kg:= .fx
def eG(x_:Bool×Bool):Option (Int):=
 match x_ with
 |(less,equal)=>
 if equal=true then some 0
 else if less=true then some (-1)
 else some 1
theorem Gk:FC e252 eG:= .fx
def lZ(x_:ab×ab):Option (Int):=
 match x_ with
 |(a,b)=>
 if(!(decide (a.Kind=b.Kind)))=true then some 0
 else if decide (a.Kind=1)=true then eG (b.Bool_,eqB a.Bool_ b.Bool_)>>=λr=>some r
 else if decide (a.Kind=2)=true then kg a.Int_>>=λr_1=>kg b.Int_>>=λr_2=>eG (decide (r_1<r_2),decide (a.Int_=b.Int_))>>=λr_3=>some r_3
 else if decide (a.Kind=3)=true then if(!(decide ((a.Str.length:Int)=(b.Str.length:Int))))=true then eG (decide ((a.Str.length:Int)<(b.Str.length:Int)),false)>>=λr_4=>some r_4
 else eG (Op.bytesLess a.Str b.Str,decide (a.Str=b.Str))>>=λr_5=>some r_5
 else if decide (a.Kind=4)=true then eG (decide (a.ID<b.ID),decide (a.ID=b.ID))>>=λr_6=>some r_6
 else some 0
theorem Fm:FC e181 lZ:= .fx (.k Gk (.k vV .n))
def cj(x_:Int×ab):Option ((Bool) ⊕ (Unit)):=
 match x_ with
 |(i_1,b_12)=>
 if decide (i_1<(b_12.Keys.length:Int))=true then some (subI .i64 i_1 1)>>=λt270=>if inR t270 b_12.Keys.length=true then if inR i_1 b_12.Keys.length=true then lZ (ab.eta (b_12.Keys.getD t270.toNat aj),ab.eta (b_12.Keys.getD i_1.toNat aj))>>=λr_16=>if decide (0<=r_16)=true then some (.inl false)
 else cj (addI .i64 i_1 1,ab.eta b_12)
 else none
 else none
 else some (.inr ())
  partial_fixpoint
theorem FP:LC 109 0 [1] Dp cj:= .rx cj.partial_correctness (.k Fm .n)
mutual
def eN(x_:au×Int×List ab×Bool):Option (Bool):=
 match x_ with
 |(s,t,l,plain)=>
 dA (t,l,plain,0,s.Types)>>=λo=>match o with
 |.inl o_1=>
 some o_1
 |.inr o_2=>
 some true
  partial_fixpoint
def bX(x_:au×Int×ab×Bool):Option (Bool):=
 match x_ with
 |(s,t,v,plain)=>
 if(bif decide (t<0)then true else decide ((s.Types.length:Int)<=t))=true then some false
 else if inR t s.Types.length=true then some (s.Types.getD t.toNat ag)>>=λx0=>some (!(decide (v.Kind=x0.Kind)))>>=λt34=>(if(!t34)=true then jm (ab.eta v)else some false)>>=λr=>if(bif bif t34 then true else(!r)then true else bif plain then decide (0<(v.Rest.length:Int))else false)=true then some false
 else if decide (x0.Kind=1)=true then some true
 else if decide (x0.Kind=2)=true then some (bif decide (x0.Low<=v.Int_)then decide (v.Int_<=x0.High)else false)
 else if decide (x0.Kind=3)=true then some (decide ((v.Str.length:Int)<=x0.Max))
 else if decide (x0.Kind=4)=true then jc (x0,v.ID)>>=λr_1=>some (bif x0.Open then(!plain)else false)>>=λt91=>(if((!r_1.2)&&t91)=true then cb (v.ID,r_1.2)else some false)>>=λr_4=>some (bif r_1.2 then true else bif t91 then r_4 else false)
 else if decide (x0.Kind=5)=true then some (!(decide ((v.Items.length:Int)=(x0.Members.length:Int))))>>=λt107=>(if(!t107)=true then jn (x0,v.Rest)else some false)>>=λr_5=>if(bif t107 then true else(!r_5))=true then some false
 else cK (plain,0,s.Types,ab.eta v,x0.Kind,x0.Name,x0.Low,x0.High,x0.Max,x0.Symbols,x0.Members,x0.Key,x0.Elem,x0.Open)>>=λo=>match o with
 |.inl o_1=>
 some o_1
 |.inr o_2=>
 some true
 else if decide (x0.Kind=6)=true then bO (x0,v.ID)>>=λr_6=>if r_6.2=true then some (bif decide ((v.Items.length:Int)=1)then decide ((v.Rest.length:Int)=0)else false)>>=λt156=>if(inR r_6.1 x0.Members.length||(!t156))=true then if(inR 0 v.Items.length||(!t156))=true then (if t156=true then bX (s,(x0.Members.getD r_6.1.toNat af).Type_,ab.eta (v.Items.getD (0:Int).toNat aj),plain)else some false)>>=λr_9=>some (bif t156 then r_9 else false)
 else none
 else none
 else some (bif x0.Open then(!plain)else false)>>=λt177=>(if t177=true then cb (v.ID,r_6.2)else some false)>>=λr_10=>some (bif bif bif t177 then r_10 else false then decide ((v.Items.length:Int)=0)else false then decide ((v.Rest.length:Int)=1)else false)>>=λt195=>if(inR 0 v.Rest.length||(!t195))=true then some (bif t195 then decide ((v.Rest.getD (0:Int).toNat aE).ID=v.ID)else false)
 else none
 else if decide (x0.Kind=7)=true then some (decide ((v.Items.length:Int)<=x0.Max))>>=λt213=>(if t213=true then eN (s,x0.Elem,v.Items,plain)else some false)>>=λr_11=>some (bif t213 then r_11 else false)
 else if decide (x0.Kind=8)=true then some (bif decide (x0.Max<(v.Keys.length:Int))then true else(!(decide ((v.Items.length:Int)=(v.Keys.length:Int)))))>>=λt239=>(if(!t239)=true then eN (s,x0.Key,v.Keys,plain)else some false)>>=λr_12=>some (bif t239 then true else(!r_12))>>=λt249=>(if(!t249)=true then eN (s,x0.Elem,v.Items,plain)else some false)>>=λr_13=>if(bif t249 then true else(!r_13))=true then some false
 else cj (1,ab.eta v)>>=λo_3=>match o_3 with
 |.inl o_4=>
 some o_4
 |.inr o_5=>
 some true
 else some (decide ((v.Items.length:Int)<=1))>>=λt283=>(if t283=true then eN (s,x0.Elem,v.Items,plain)else some false)>>=λr_14=>some (bif t283 then r_14 else false)
 else none
  partial_fixpoint
def dA(x_:Int×List ab×Bool×Int×List ae):Option ((Bool) ⊕ (Unit)):=
 match x_ with
 |(t_1,l_1,plain_1,i,b)=>
 if decide (i<(l_1.length:Int))=true then if inR i l_1.length=true then bX ((⟨b⟩:au),t_1,ab.eta (l_1.getD i.toNat aj),plain_1)>>=λr=>if(!r)=true then some (.inl false)
 else dA (t_1,l_1,plain_1,addI .i64 i 1,b)
 else none
 else some (.inr ())
  partial_fixpoint
def cK(x_:Bool×Int×List ae×ab×Int×List UInt8×Int×Int×Int×List aO×List av×Int×Int×Bool):Option ((Bool) ⊕ (Unit)):=
 match x_ with
 |(plain_1,i,b,b_1,b_2,b_3,b_4,b_5,b_6,b_7,b_8,b_9,b_10,b_11)=>
 if decide (i<(b_1.Items.length:Int))=true then if inR i b_8.length=true then if inR i b_1.Items.length=true then bX ((⟨b⟩:au),(b_8.getD i.toNat af).Type_,ab.eta (b_1.Items.getD i.toNat aj),plain_1)>>=λr_15=>if(!r_15)=true then some (.inl false)
 else cK (plain_1,addI .i64 i 1,b,ab.eta b_1,b_2,b_3,b_4,b_5,b_6,b_7,b_8,b_9,b_10,b_11)
 else none
 else none
 else some (.inr ())
  partial_fixpoint
end
theorem Gl:FZ e180 eN/\LZ 180 0 [0] oM dA/\FZ e109 bX/\LZ 109 0 [0] oN cK:=eN.mutual_partial_correctness (FD e180) (LD 180 0 [0] oM) (FD e109) (LD 109 0 [0] oN)
 (λ_ h1 _ _ h=>FB h .n (.k (LG oM h1) .n))
 (λ_ _ h1 h2 _ _ h=>LB oM h1 h (.k (FG e109 h2) .n))
 (λ_ _ _ h0 h2 h3 _ _ h=>FB h (.k GM (.k r6 (.k wC (.k GN (.k du (.k (FG e109 h2) (.k (FG e180 h0) .n))))))) (.k (LG oN h3) (.k FP .n)))
 (λ_ _ h2 h3 _ _ h=>LB oN h3 h (.k (FG e109 h2) .n))
theorem G6:FC e109 bX:=FG _ Gl.2.2.1
def kl(x_:au×Int×ab):Option (Bool):=
 match x_ with
 |(s,t,v)=>
 bX (s,t,ab.eta v,true)>>=λr=>some r
theorem v7:FC e59 kl:= .fx (.k G6 .n)
def dV(x_:Int×List av×Int×List ae):Option ((Int×Int×Int) ⊕ (Int×List ae)):=
 match x_ with
 |(t_2,l,i,b_2)=>
 if decide (i<(l.length:Int))=true then if inR i l.length=true then some (l.getD i.toNat af)>>=λx0_1=>if(inR i l.length||(!x0_1.HasDefault))=true then if(inR i l.length||(!x0_1.HasDefault))=true then (if x0_1.HasDefault=true then kl ((⟨b_2⟩:au),(l.getD i.toNat af).Type_,ab.eta (l.getD i.toNat af).Default)else some false)>>=λr_1=>if(bif x0_1.HasDefault then(!r_1)else false)=true then if inR i l.length=true then some (.inl (t_2,(l.getD i.toNat af).ID,1))
 else none
 else dV (t_2,l,addI .i64 i 1,b_2)
 else none
 else none
 else none
 else some (.inr (t_2,b_2))
  partial_fixpoint
theorem D7:LC 318 0 [0,0] AU dV:= .rx dV.partial_correctness (.k v7 .n)
def dZ(x_:Int×List ae):Option ((Int×Int×Int) ⊕ (Unit)):=
 match x_ with
 |(t,b)=>
 if decide (t<(b.length:Int))=true then if inR t b.length=true then dV (t,(b.getD t.toNat ag).Members,0,b)>>=λo_3=>match o_3 with
 |.inl o_4=>
 some (.inl (o_4.1,o_4.2.1,o_4.2.2))
 |.inr o_5=>
 dZ (addI .i64 o_5.1 1,o_5.2)
 else none
 else some (.inr ())
  partial_fixpoint
theorem El:LC 318 0 [0] Dq dZ:= .rx dZ.partial_correctness .n (.k D7 .n)
def pf(s:au):Option (Int×Int×Int):=
 gV s>>=λr=>if(!(decide (r=0)))=true then some (0,0,r)
 else dZ (0,s.Types)>>=λo=>match o with
 |.inl o_1=>
 some (o_1.1,o_1.2.1,o_1.2.2)
 |.inr o_2=>
 some (0,0,0)
theorem EW:FC e318 pf:= .fx (.k se .n) (.k El .n)
def pF(s:au):Option (Int):=
 gV s>>=λr=>if(!(decide (r=0)))=true then some r
 else pf s>>=λr_1=>some r_1.2.2
theorem Gm:FC e273 pF:= .fx (.k se (.k EW .n))
def gD(x_:Int×Int×List Int×ae):Option (Int×List Int):=
 match x_ with
 |(all_2,i,b_3,b_4)=>
 if decide (i<(b_4.Members.length:Int))=true then if inR i b_4.Members.length=true then some (b_4.Members.getD i.toNat af)>>=λx0_1=>if inR x0_1.Type_ b_3.length=true then if decide (x0_1.Type_.toNat<b_3.length)=true then gD (minI 2 (mulI .i64 all_2 (b_3.getD x0_1.Type_.toNat 0)),addI .i64 i 1,b_3,b_4)
 else none
 else none
 else none
 else some (all_2,b_3)
  partial_fixpoint
theorem EX:LC 319 1 [0] Dr gD:= .rx gD.partial_correctness
def gE(x_:Int×Int×List Int×ae):Option (Int×List Int):=
 match x_ with
 |(all_3,i_1,b_5,b_6)=>
 if decide (i_1<(b_6.Members.length:Int))=true then if inR i_1 b_6.Members.length=true then some (b_6.Members.getD i_1.toNat af)>>=λx0_2=>if inR x0_2.Type_ b_5.length=true then if decide (x0_2.Type_.toNat<b_5.length)=true then gE (minI 2 (addI .i64 all_3 (b_5.getD x0_2.Type_.toNat 0)),addI .i64 i_1 1,b_5,b_6)
 else none
 else none
 else none
 else some (all_3,b_5)
  partial_fixpoint
theorem EY:LC 319 1 [1] Ds gE:= .rx gE.partial_correctness
def pG(x_:ae×List Int):Option (Int×List Int):=
 match x_ with
 |(x0,b)=>
 if decide (x0.Kind=2)=true then if decide (x0.Low=x0.High)=true then some (1,b)
 else some (2,b)
 else if decide (x0.Kind=3)=true then if decide (x0.Max=0)=true then some (1,b)
 else some (2,b)
 else if decide (x0.Kind=4)=true then some (minI 2 (x0.Symbols.length:Int),b)
 else if decide (x0.Kind=5)=true then gD (1,0,b,x0)>>=λo=>some (o.1,o.2)
 else if decide (x0.Kind=6)=true then gE (0,0,b,x0)>>=λo_1=>some (o_1.1,o_1.2)
 else some (decide (x0.Kind=7))>>=λt74=>if t74=true then if t74=true then some (decide (x0.Max=0))>>=λt78=>if(inR x0.Elem b.length||(!(!t78)))=true then if(decide (x0.Elem.toNat<b.length)||(!(!t78)))=true then if(bif t78 then true else decide (b.getD x0.Elem.toNat 0=0))=true then some (1,b)
 else some (2,b)
 else none
 else none
 else if decide (x0.Kind=9)=true then if inR x0.Elem b.length=true then if decide (x0.Elem.toNat<b.length)=true then some (minI 2 (addI .i64 1 (b.getD x0.Elem.toNat 0)),b)
 else none
 else none
 else some (2,b)
 else if decide (x0.Kind=8)=true then some (decide (x0.Max=0))>>=λt78_1=>if(inR x0.Elem b.length||(!(!t78_1)))=true then if(decide (x0.Elem.toNat<b.length)||(!(!t78_1)))=true then if(bif t78_1 then true else decide (b.getD x0.Elem.toNat 0=0))=true then some (1,b)
 else some (2,b)
 else none
 else none
 else if decide (x0.Kind=9)=true then if inR x0.Elem b.length=true then if decide (x0.Elem.toNat<b.length)=true then some (minI 2 (addI .i64 1 (b.getD x0.Elem.toNat 0)),b)
 else none
 else none
 else some (2,b)
theorem Gn:FC e319 pG:= .fx .n (.k EX (.k EY .n))
def gp(x_:Int×Int×List ae×List Int):Option (Int×List ae×List Int):=
 match x_ with
 |(round_2,i,b_5,b_6)=>
 if decide (i<(b_5.length:Int))=true then if inR i b_5.length=true then pG (b_5.getD i.toNat ag,b_6)>>=λr=>if(decide (r.2.length=b_6.length)&&true)=true then if inR i r.2.length=true then if decide (i.toNat<r.2.length)=true then gp (round_2,addI .i64 i 1,b_5,r.2.set i.toNat r.1)
 else none
 else none
 else none
 else none
 else some (round_2,b_5,b_6)
  partial_fixpoint
theorem Em:LC 274 0 [0,0] AV gp:= .rx gp.partial_correctness (.k Gn .n)
def gv(x_:Int×List ae×List Int):Option (List Int):=
 match x_ with
 |(round,b_1,b_2)=>
 if decide (round<=mulI .i64 2 (b_1.length:Int))=true then gp (round,0,b_1,b_2)>>=λo_1=>gv (addI .i64 o_1.1 1,o_1.2.1,o_1.2.2)
 else some b_2
  partial_fixpoint
theorem EK:LC 274 0 [0] Dt gv:= .rx gv.partial_correctness .n (.k Em .n)
def pB(s:au):Option (List Int):=
 some (s.Types.length:Int)>>=λt8=>if mkR 8 t8=true then gv (0,s.Types,List.replicate t8.toNat 0)>>=λo=>some o
 else none
theorem FR:FC e274 pB:= .fx .n (.k EK .n)
def gw(x_:List Int×Int×List Bool):Option (List Bool):=
 match x_ with
 |(n,i,b_1)=>
 if decide (i<(n.length:Int))=true then if inR i n.length=true then some [decide (0<n.getD i.toNat 0)]>>=λt27=>if room 1 (b_1++t27).length=true then gw (n,addI .i64 i 1,b_1++t27)
 else none
 else none
 else some b_1
  partial_fixpoint
theorem EL:LC 204 0 [0] Du gw:= .rx gw.partial_correctness
def sj(s:au):Option (List Bool×Int):=
 pF s>>=λr=>if(!(decide (r=0)))=true then some ([],r)
 else pB s>>=λr_1=>gw (r_1,0,[])>>=λo=>some (o,0)
theorem FT:FC e204 sj:= .fx (.k Gm (.k FR .n)) (.k EL .n)
def gF(x_:List Bool×Int):Option ((Int) ⊕ (Unit)):=
 match x_ with
 |(l,i)=>
 if decide (i<(l.length:Int))=true then if inR i l.length=true then if(!(l.getD i.toNat false))=true then some (.inl 10)
 else gF (l,addI .i64 i 1)
 else none
 else some (.inr ())
  partial_fixpoint
theorem EZ:LC 145 0 [0] Dv gF:= .rx gF.partial_correctness
def pH(s:au):Option (Int):=
 sj s>>=λr=>if(!(decide (r.2=0)))=true then some r.2
 else gF (r.1,0)>>=λo=>match o with
 |.inl o_1=>
 some o_1
 |.inr o_2=>
 some 0
theorem Gp:FC e145 pH:= .fx (.k FT .n) (.k EZ .n)
def mB(x_:au×Int):Option (Int):=
 match x_ with
 |(s,t)=>
 pH s>>=λr=>if(!(decide (r=0)))=true then some r
 else if(bif decide (t<0)then true else decide ((s.Types.length:Int)<=t))=true then some 4
 else some 0
theorem G7:FC e94 mB:= .fx (.k Gp .n)
def ml(x_:aI×aI):Option (Int):=
 match x_ with
 |(w,r)=>
 mB (w.Schema,w.Type_)>>=λr_1=>if(!(decide (r_1=0)))=true then some r_1
 else mB (r.Schema,r.Type_)>>=λr_2=>some r_2
theorem v8:FC e45 ml:= .fx (.k G7 .n)
def eH(x_:List aw×Int×aw):Option ((Bool) ⊕ (Unit)):=
 match x_ with
 |(l_1,i,b)=>
 if decide (i<(l_1.length:Int))=true then if inR i l_1.length=true then some (l_1.getD i.toNat aG)>>=λx0=>if(eqI x0.A0 b.A0&&(eqI x0.A1 b.A1&&true))=true then some (.inl true)
 else eH (l_1,addI .i64 i 1,b)
 else none
 else some (.inr ())
  partial_fixpoint
theorem Gq:LC 47 0 [0] BS eH:= .rx eH.partial_correctness
def mN(x_:List aw×aw):Option (Bool):=
 match x_ with
 |(l,p)=>
 eH (l,0,p)>>=λo=>match o with
 |.inl o_1=>
 some o_1
 |.inr o_2=>
 some false
theorem Hz:FC e47_a mN:= .fx .n (.k Gq .n)
def eu(x_:Int×List aw×aw):Option ((Bool×List aw) ⊕ (List aw)):=
 match x_ with
 |(i,b_3,b_4)=>
 if decide (i<(b_3.length:Int))=true then if inR i b_3.length=true then if decide (i.toNat<b_3.length)=true then if(eqI (b_3.getD i.toNat aG).A0 b_4.A0&&(eqI (b_3.getD i.toNat aG).A1 b_4.A1&&true))=true then some (.inl (true,b_3))
 else eu (addI .i64 i 1,b_3,b_4)
 else none
 else none
 else some (.inr b_3)
  partial_fixpoint
theorem Fp:LC 47 1 [0] BT eu:= .rx eu.partial_correctness
def mv(x_:aw×List aw):Option (Bool×List aw):=
 match x_ with
 |(p,b)=>
 eu (0,b,p)>>=λo=>match o with
 |.inl o_1=>
 some (o_1.1,o_1.2)
 |.inr o_2=>
 some (false,o_2)
theorem wg:FC e47_b mv:= .fx .n (.k Fp .n)
def gL(x_:Int×ae×ae×List aw):Option (ae×ae×List aw):=
 match x_ with
 |(i,b_7,b_8,b_9)=>
 if decide (i<(b_7.Members.length:Int))=true then if inR i b_7.Members.length=true then bO (b_8,(b_7.Members.getD i.toNat af).ID)>>=λr_1=>if r_1.2=true then if inR i b_7.Members.length=true then if inR r_1.1 b_8.Members.length=true then some [(⟨(b_7.Members.getD i.toNat af).Type_,(b_8.Members.getD r_1.1.toNat af).Type_⟩:aw)]>>=λt65=>if room 16 (b_9++t65).length=true then gL (addI .i64 i 1,b_7,b_8,b_9++t65)
 else none
 else none
 else none
 else gL (addI .i64 i 1,b_7,b_8,b_9)
 else none
 else some (b_7,b_8,b_9)
  partial_fixpoint
theorem Fq:LC 50 0 [0] e50_0 gL:= .rx gL.partial_correctness (.k du .n)
def dd(x_:Int×List aw×List aw):Option (List aw):=
 match x_ with
 |(i_1,b_10,b_11)=>
 if decide (i_1<(b_10.length:Int))=true then if inR i_1 b_10.length=true then if decide (i_1.toNat<b_10.length)=true then mv (b_10.getD i_1.toNat aG,b_11)>>=λr_4=>if(decide (r_4.2.length=b_11.length)&&true)=true then if(!r_4.1)=true then if inR i_1 b_10.length=true then if decide (i_1.toNat<b_10.length)=true then some [b_10.getD i_1.toNat aG]>>=λt127=>if room 16 (r_4.2++t127).length=true then dd (addI .i64 i_1 1,b_10,r_4.2++t127)
 else none
 else none
 else none
 else dd (addI .i64 i_1 1,b_10,r_4.2)
 else none
 else none
 else none
 else some b_11
  partial_fixpoint
theorem Fs:LC 50 0 [1] e50_1 dd:= .rx dd.partial_correctness (.k wg .n)
def mw(x_:au×Int×au×Int):Option (List aw):=
 match x_ with
 |(w,wt,r,rt)=>
 if inR wt w.Types.length=true then some (w.Types.getD wt.toNat ag)>>=λx0=>if inR rt r.Types.length=true then some (r.Types.getD rt.toNat ag)>>=λx0_1=>if(!(decide (x0.Kind=x0_1.Kind)))=true then some []
 else gL (0,x0,x0_1,[])>>=λo=>if(bif decide (o.1.Kind=8)then decide (0<o.1.Max)else false)=true then some [(⟨o.1.Key,o.2.1.Key⟩:aw)]>>=λt81=>if room 16 (o.2.2++t81).length=true then some (o.2.2++t81)>>=λl=>if(bif decide (o.1.Kind=9)then true else bif bif decide (o.1.Kind=7)then true else decide (o.1.Kind=8)then decide (0<o.1.Max)else false)=true then some [(⟨o.1.Elem,o.2.1.Elem⟩:aw)]>>=λt107=>if room 16 (l++t107).length=true then dd (0,l++t107,[])>>=λo_1=>some o_1
 else none
 else dd (0,l,[])>>=λo_2=>some o_2
 else none
 else if(bif decide (o.1.Kind=9)then true else bif bif decide (o.1.Kind=7)then true else decide (o.1.Kind=8)then decide (0<o.1.Max)else false)=true then some [(⟨o.1.Elem,o.2.1.Elem⟩:aw)]>>=λt107_1=>if room 16 (o.2.2++t107_1).length=true then dd (0,o.2.2++t107_1,[])>>=λo_3=>some o_3
 else none
 else dd (0,o.2.2,[])>>=λo_4=>some o_4
 else none
 else none
theorem wh:FC e50 mw:= .fx .n (.k Fq (.k Fs .n))
def gn(x_:Int×List aw×Int×List ae×List ae×List aw):Option (Int×List ae×List ae×List aw):=
 match x_ with
 |(i_2,l,k,b_7,b_8,b_9)=>
 if decide (k<(l.length:Int))=true then if inR k l.length=true then mv (l.getD k.toNat aG,b_9)>>=λr_2=>if(decide (r_2.2.length=b_9.length)&&true)=true then if(!r_2.1)=true then if inR k l.length=true then some [l.getD k.toNat aG]>>=λt54=>if room 16 (r_2.2++t54).length=true then gn (i_2,l,addI .i64 k 1,b_7,b_8,r_2.2++t54)
 else none
 else none
 else gn (i_2,l,addI .i64 k 1,b_7,b_8,r_2.2)
 else none
 else none
 else some (i_2,b_7,b_8,b_9)
  partial_fixpoint
theorem Ed:LC 51 0 [0,0] BU gn:= .rx gn.partial_correctness (.k wg .n)
def iT(x_:Int×List ae×List ae×List aw):Option (List aw):=
 match x_ with
 |(i,b_1,b_2,b_3)=>
 if decide (i<(b_3.length:Int))=true then if inR i b_3.length=true then if decide (i.toNat<b_3.length)=true then if inR i b_3.length=true then if decide (i.toNat<b_3.length)=true then mw ((⟨b_1⟩:au),(b_3.getD i.toNat aG).A0,(⟨b_2⟩:au),(b_3.getD i.toNat aG).A1)>>=λr_1=>gn (i,r_1,0,b_1,b_2,b_3)>>=λo_1=>iT (addI .i64 o_1.1 1,o_1.2.1,o_1.2.2.1,o_1.2.2.2)
 else none
 else none
 else none
 else none
 else some b_3
  partial_fixpoint
theorem EA:LC 51 0 [0] e51_0 iT:= .rx iT.partial_correctness (.k wh .n) (.k Ed .n)
def po(x_:au×Int×au×Int):Option (List aw):=
 match x_ with
 |(w,wt,r,rt)=>
 iT (0,w.Types,r.Types,[(⟨wt,rt⟩:aw)])>>=λo=>some o
theorem Ft:FC e51 po:= .fx .n (.k EA .n)
def gM(x_:Int×Int×ae):Option (Int):=
 match x_ with
 |(n_1,v,b)=>
 if(bif decide (n_1<100)then decide (v<b.High)else false)=true then gM (addI .i64 n_1 1,addI .i64 v 1,b)
 else some n_1
  partial_fixpoint
theorem Fu:LC 95 0 [0] e95_0 gM:= .rx gM.partial_correctness
def ku(x0:ae):Option (Int):=
 if decide (x0.Kind=1)=true then some 2
 else if decide (x0.Kind=2)=true then gM (1,x0.Low,x0)>>=λo=>some o
 else if decide (x0.Kind=4)=true then some (x0.Symbols.length:Int)
 else if decide (x0.Max=0)=true then some 1
 else some 100
theorem GO:FC e95 ku:= .fx .n (.k Fu .n)
def gP(x_:Int×ae×ae):Option ((Bool) ⊕ (ae×ae)):=
 match x_ with
 |(i,b_2,b_3)=>
 if decide (i<(b_2.Symbols.length:Int))=true then if inR i b_2.Symbols.length=true then jc (b_3,(b_2.Symbols.getD i.toNat aT).ID)>>=λr=>if(!r.2)=true then some (.inl false)
 else gP (addI .i64 i 1,b_2,b_3)
 else none
 else some (.inr (b_2,b_3))
  partial_fixpoint
theorem FU:LC 96 0 [0] e96_0 gP:= .rx gP.partial_correctness (.k r6 .n)
def gQ(x_:Int×ae×ae):Option ((Bool) ⊕ (Unit)):=
 match x_ with
 |(i_1,b_4,b_5)=>
 if decide (i_1<(b_4.Members.length:Int))=true then if inR i_1 b_4.Members.length=true then bO (b_5,(b_4.Members.getD i_1.toNat af).ID)>>=λr_3=>if(!r_3.2)=true then some (.inl false)
 else gQ (addI .i64 i_1 1,b_4,b_5)
 else none
 else some (.inr ())
  partial_fixpoint
theorem FV:LC 96 0 [1] e96_1 gQ:= .rx gQ.partial_correctness (.k du .n)
def jq(x_:ae×ae):Option (Bool):=
 match x_ with
 |(x0,y)=>
 gP (0,x0,y)>>=λo=>match o with
 |.inl o_1=>
 some o_1
 |.inr o_2=>
 gQ (0,o_2.1,o_2.2)>>=λo_3=>match o_3 with
 |.inl o_4=>
 some o_4
 |.inr o_5=>
 some true
theorem G8:FC e96 jq:= .fx .n (.k FU (.k FV .n))
def mn(x_:au×Int):Option (Int):=
 match x_ with
 |(s,t)=>
 gV s>>=λr=>if(!(decide (r=0)))=true then some r
 else if(bif decide (t<0)then true else decide ((s.Types.length:Int)<=t))=true then some 4
 else some 0
theorem Gr:FC e120 mn:= .fx (.k se .n)
def pL(x_:au×Int×ab×au×Int):Option (Int):=
 match x_ with
 |(w,wt,v,r,rt)=>
 mn (w,wt)>>=λr_1=>if(!(decide (r_1=0)))=true then some r_1
 else mn (r,rt)>>=λr_2=>if(!(decide (r_2=0)))=true then some r_2
 else kl (w,wt,ab.eta v)>>=λr_3=>if(!r_3)=true then some 1
 else some 0
theorem Gs:FC e65 pL:= .fx (.k Gr (.k v7 .n))
def cw(path:List Int):Option (aU):=
 if room 8 ([]++path).length=true then some (⟨(⟨0,false,0,[],0,[],[],[]⟩:ab),[]++path,false⟩:aU)
 else none
theorem pd:FC e121 cw:= .fx
def kh(x_:Int×List UInt8):Option (List UInt8):=
 match x_ with
 |(n_1,out_1)=>
 if decide (0<n_1)=true then some (strOf [wrp .u8 (remI n_1 256)])>>=λt10=>if decide (t10.length+out_1.length<=aX)=true then kh (quoI .u64 n_1 256,t10++out_1)
 else none
 else some out_1
  partial_fixpoint
theorem FW:LC 114 0 [0] Dw kh:= .rx kh.partial_correctness
def mC(n:Int):Option (List UInt8):=
 kh (n,[])>>=λo=>some o
theorem G9:FC e114 mC:= .fx .n (.k FW .n)
def kj(x_:Int×List Int):Option (Int×List Int):=
 match x_ with
 |(n_2,b_1)=>
 if decide (128<=n_2)=true then some [wrp .u8 (addI .u64 (remI n_2 128) 128)]>>=λt11=>if room 1 (b_1++t11).length=true then kj (quoI .u64 n_2 128,b_1++t11)
 else none
 else some (n_2,b_1)
  partial_fixpoint
theorem FX:LC 116 0 [0] Dx kj:= .rx kj.partial_correctness
def ic(n:Int):Option (List UInt8):=
 kj (n,[])>>=λo=>some [wrp .u8 o.1]>>=λt18=>if room 1 (o.2++t18).length=true then some (strOf (o.2++t18))
 else none
theorem sx:FC e116 ic:= .fx .n (.k FX .n)
def ia(p:List UInt8):Option (List UInt8):=
 ic (wrp .u64 (p.length:Int))>>=λr=>if decide (r.length+p.length<=aX)=true then some (r++p)
 else none
theorem sk:FC e117 ia:= .fx (.k sx .n)
def mo(x_:Int×Bool×List UInt8):Option (List UInt8):=
 match x_ with
 |(id,critical,p)=>
 some (wrp .u64 (mulI .i64 2 id))>>=λt10=>if critical=true then ic (addI .u64 t10 1)>>=λr=>ia p>>=λr_1=>if decide (r.length+r_1.length<=aX)=true then some (r++r_1)
 else none
 else ic t10>>=λr_2=>ia p>>=λr_3=>if decide (r_2.length+r_3.length<=aX)=true then some (r_2++r_3)
 else none
theorem wa:FC e119 mo:= .fx (.k sx (.k sk .n))
def dr(x_:List UInt8×Int×Int×List ae×ab×ae):Option (List UInt8×Int×List ae×ab×ae):=
 match x_ with
 |(out_9,id_4,k,b_18,b_19,b_20)=>
 if decide (k<(b_19.Rest.length:Int))=true then if inR k b_19.Rest.length=true then if decide ((b_19.Rest.getD k.toNat aE).ID=id_4)=true then if inR k b_19.Rest.length=true then mo (id_4,false,(b_19.Rest.getD k.toNat aE).Data)>>=λr_22=>if decide (out_9.length+r_22.length<=aX)=true then dr (out_9++r_22,id_4,addI .i64 k 1,b_18,ab.eta b_19,b_20)
 else none
 else none
 else dr (out_9,id_4,addI .i64 k 1,b_18,ab.eta b_19,b_20)
 else none
 else some (out_9,id_4,b_18,ab.eta b_19,b_20)
  partial_fixpoint
theorem Ee:LC 63 0 [0,2] BV dr:= .rx dr.partial_correctness (.k wa .n)
mutual
def cH(x_:au×Int×ab):Option (List UInt8):=
 match x_ with
 |(s,t,v)=>
 if inR t s.Types.length=true then some (s.Types.getD t.toNat ag)>>=λx0=>if decide (x0.Kind=1)=true then if v.Bool_=true then some [1]
 else some []
 else if decide (x0.Kind=2)=true then kg v.Int_>>=λr=>mC r>>=λr_1=>some r_1
 else if decide (x0.Kind=3)=true then some v.Str
 else if decide (x0.Kind=4)=true then mC (wrp .u64 v.ID)>>=λr_2=>some r_2
 else if decide (x0.Kind=9)=true then if decide ((v.Items.length:Int)=0)=true then some []
 else if inR 0 v.Items.length=true then cH (s,x0.Elem,ab.eta (v.Items.getD (0:Int).toNat aj))>>=λr_3=>if decide ([1].length+r_3.length<=aX)=true then some ([1]++r_3)
 else none
 else none
 else if decide (x0.Kind=6)=true then if decide (0<(v.Rest.length:Int))=true then ic (wrp .u64 v.ID)>>=λr_4=>if inR 0 v.Rest.length=true then some (v.Rest.getD (0:Int).toNat aE)>>=λx0_2=>if decide (r_4.length+x0_2.Data.length<=aX)=true then some (r_4++x0_2.Data)
 else none
 else none
 else bO (x0,v.ID)>>=λr_5=>ic (wrp .u64 v.ID)>>=λr_8=>if inR r_5.1 x0.Members.length=true then if inR 0 v.Items.length=true then cH (s,(x0.Members.getD r_5.1.toNat af).Type_,ab.eta (v.Items.getD (0:Int).toNat aj))>>=λr_9=>if decide (r_8.length+r_9.length<=aX)=true then some (r_8++r_9)
 else none
 else none
 else none
 else if decide (x0.Kind=7)=true then iU ([],0,s.Types,ab.eta v,x0)>>=λo=>some o
 else if decide (x0.Kind=8)=true then iV ([],0,s.Types,ab.eta v,x0)>>=λo_1=>some o_1
 else fp ([],1,s.Types,ab.eta v,x0)>>=λo_2=>some o_2
 else none
  partial_fixpoint
def iU(x_:List UInt8×Int×List ae×ab×ae):Option (List UInt8):=
 match x_ with
 |(out_3,i,b,b_1,b_2)=>
 if decide (i<(b_1.Items.length:Int))=true then if inR i b_1.Items.length=true then cH ((⟨b⟩:au),b_2.Elem,ab.eta (b_1.Items.getD i.toNat aj))>>=λr_10=>ia r_10>>=λr_11=>if decide (out_3.length+r_11.length<=aX)=true then iU (out_3++r_11,addI .i64 i 1,b,ab.eta b_1,b_2)
 else none
 else none
 else some out_3
  partial_fixpoint
def iV(x_:List UInt8×Int×List ae×ab×ae):Option (List UInt8):=
 match x_ with
 |(out_4,i_1,b_3,b_4,b_5)=>
 if decide (i_1<(b_4.Items.length:Int))=true then if inR i_1 b_4.Keys.length=true then cH ((⟨b_3⟩:au),b_5.Key,ab.eta (b_4.Keys.getD i_1.toNat aj))>>=λr_12=>ia r_12>>=λr_13=>if decide (out_4.length+r_13.length<=aX)=true then some (out_4++r_13)>>=λt144=>if inR i_1 b_4.Items.length=true then cH ((⟨b_3⟩:au),b_5.Elem,ab.eta (b_4.Items.getD i_1.toNat aj))>>=λr_14=>ia r_14>>=λr_15=>if decide (t144.length+r_15.length<=aX)=true then iV (t144++r_15,addI .i64 i_1 1,b_3,ab.eta b_4,b_5)
 else none
 else none
 else none
 else none
 else some out_4
  partial_fixpoint
def fp(x_:List UInt8×Int×List ae×ab×ae):Option (List UInt8):=
 match x_ with
 |(out_5,id,b_6,b_7,b_8)=>
 if decide (id<=1000)=true then bO (b_8,id)>>=λr_16=>if r_16.2=true then if inR r_16.1 b_8.Members.length=true then some (b_8.Members.getD r_16.1.toNat af)>>=λx0_8=>some (!x0_8.HasDefault)>>=λt175=>if(inR r_16.1 b_7.Items.length||(!(!t175)))=true then (if(!t175)=true then cu (ab.eta (b_7.Items.getD r_16.1.toNat aj),ab.eta x0_8.Default)else some false)>>=λr_19=>if(bif t175 then true else(!r_19))=true then if inR r_16.1 b_7.Items.length=true then cH ((⟨b_6⟩:au),x0_8.Type_,ab.eta (b_7.Items.getD r_16.1.toNat aj))>>=λr_20=>mo (id,x0_8.Critical,r_20)>>=λr_21=>if decide (out_5.length+r_21.length<=aX)=true then dr (out_5++r_21,id,0,b_6,ab.eta b_7,b_8)>>=λo_3=>fp (o_3.1,addI .i64 o_3.2.1 1,o_3.2.2.1,ab.eta o_3.2.2.2.1,o_3.2.2.2.2)
 else none
 else none
 else dr (out_5,id,0,b_6,ab.eta b_7,b_8)>>=λo_4=>fp (o_4.1,addI .i64 o_4.2.1 1,o_4.2.2.1,ab.eta o_4.2.2.2.1,o_4.2.2.2.2)
 else none
 else none
 else dr (out_5,id,0,b_6,ab.eta b_7,b_8)>>=λo_5=>fp (o_5.1,addI .i64 o_5.2.1 1,o_5.2.2.1,ab.eta o_5.2.2.2.1,o_5.2.2.2.2)
 else some out_5
  partial_fixpoint
end
theorem EM:FZ e63 cH/\LZ 63 0 [2] e63_2 fp/\LZ 63 0 [1] e63_1 iV/\LZ 63 0 [0] e63_0 iU:=cH.mutual_partial_correctness (FD e63) (LD 63 0 [2] e63_2) (LD 63 0 [1] e63_1) (LD 63 0 [0] e63_0)
 (λ_ _ _ _ h0 h1 h2 h3 _ _ h=>FB h (.k vV (.k G9 (.k (FG e63 h0) (.k sx (.k du .n))))) (.k (LG e63_0 h3) (.k (LG e63_1 h2) (.k (LG e63_2 h1) .n))))
 (λ_ _ h0 h1 _ _ h=>LB e63_2 h1 h (.k du (.k o8 (.k (FG e63 h0) (.k wa .n)))) (.k Ee .n))
 (λ_ _ h0 h2 _ _ h=>LB e63_1 h2 h (.k (FG e63 h0) (.k sk .n)))
 (λ_ _ h0 h3 _ _ h=>LB e63_0 h3 h (.k (FG e63 h0) (.k sk .n)))
theorem vR:FC e63 cH:=FG _ EM.1
def eK(v:ab):Option (aU):=
 some (⟨ab.eta v,[],true⟩:aU)
theorem sn:FC e126 eK:= .fx
def ig(x_:List Int×Int):Option (List Int):=
 match x_ with
 |(path,step)=>
 if room 8 ([]++path).length=true then some ([]++path)>>=λl=>some [step]>>=λt9=>if room 8 (l++t9).length=true then some (l++t9)
 else none
 else none
theorem my:FC e125 ig:= .fx
def ko(x_:ab×ab):Option (Bool):=
 match x_ with
 |(a,b)=>
 cu (ab.eta a,ab.eta b)>>=λr=>some r
theorem wb:FC e205 ko:= .fx (.k o8 .n)
def j7(x_:av×ab):Option (Bool):=
 match x_ with
 |(m,v)=>
 (if m.HasDefault=true then ko (ab.eta m.Default,ab.eta v)else some false)>>=λr=>some (bif m.HasDefault then r else false)
theorem vN:FC e184 j7:= .fx (.k wb .n)
def en(x_:List Int×Int×List ae×ae×ab×ae×Int×Bool×Int×List UInt8×Int×Bool×Int×Bool×Int×List UInt8×Int×List ab×List aK):Option ((aU) ⊕ (Int×Bool×Int×List UInt8×Int×Bool×Int×Bool×Int×List UInt8×Int×List ab×List aK)):=
 match x_ with
 |(path_3,i,b_48,b_49,b_50,b_51,b_52,b_53,b_54,b_55,b_56,b_57,b_58,b_59,b_60,b_61,b_62,b_63,b_64)=>
 if decide (i<(b_49.Members.length:Int))=true then if inR i b_49.Members.length=true then some (b_49.Members.getD i.toNat af)>>=λx0_6=>bO (b_51,x0_6.ID)>>=λr_11=>if r_11.2=true then en (path_3,addI .i64 i 1,b_48,b_49,ab.eta b_50,b_51,b_52,b_53,b_54,b_55,b_56,b_57,b_58,b_59,b_60,b_61,b_62,b_63,b_64)
 else if x0_6.Critical=true then ig (path_3,x0_6.ID)>>=λr_14=>cw r_14>>=λr_15=>some (.inl (⟨ab.eta r_15.Value,r_15.Path,r_15.OK⟩:aU))
 else if inR i b_50.Items.length=true then j7 ((⟨x0_6.ID,x0_6.Name,x0_6.Type_,x0_6.Critical,x0_6.HasDefault,ab.eta x0_6.Default⟩:av),ab.eta (b_50.Items.getD i.toNat aj))>>=λr_16=>if(!r_16)=true then if inR i b_50.Items.length=true then cH ((⟨b_48⟩:au),x0_6.Type_,ab.eta (b_50.Items.getD i.toNat aj))>>=λr_17=>some [(⟨x0_6.ID,r_17⟩:aK)]>>=λt170=>if room 24 (b_64++t170).length=true then en (path_3,addI .i64 i 1,b_48,b_49,ab.eta b_50,b_51,b_52,b_53,b_54,b_55,b_56,b_57,b_58,b_59,b_60,b_61,b_62,b_63,b_64++t170)
 else none
 else none
 else en (path_3,addI .i64 i 1,b_48,b_49,ab.eta b_50,b_51,b_52,b_53,b_54,b_55,b_56,b_57,b_58,b_59,b_60,b_61,b_62,b_63,b_64)
 else none
 else none
 else some (.inr (b_52,b_53,b_54,b_55,b_56,b_57,b_58,b_59,b_60,b_61,b_62,b_63,b_64))
  partial_fixpoint
theorem EN:LC 124 0 [1] Dy en:= .rx en.partial_correctness (.k du (.k my (.k pd (.k vN (.k vR .n)))))
mutual
def dC(x_:au×Int×ab×au×Int×List Int):Option (aU):=
 match x_ with
 |(w,wt,v,r,rt,path)=>
 if inR wt w.Types.length=true then some (w.Types.getD wt.toNat ag)>>=λx0=>if inR rt r.Types.length=true then some (r.Types.getD rt.toNat ag)>>=λx0_1=>if(!(decide (x0.Kind=x0_1.Kind)))=true then cw path>>=λr_1=>some (⟨ab.eta r_1.Value,r_1.Path,r_1.OK⟩:aU)
 else if(bif decide (x0.Kind=2)then bif decide (v.Int_<x0_1.Low)then true else decide (x0_1.High<v.Int_)else false)=true then cw path>>=λr_2=>some (⟨ab.eta r_2.Value,r_2.Path,r_2.OK⟩:aU)
 else if(bif decide (x0.Kind=3)then decide (x0_1.Max<(v.Str.length:Int))else false)=true then cw path>>=λr_3=>some (⟨ab.eta r_3.Value,r_3.Path,r_3.OK⟩:aU)
 else if decide (x0.Kind=4)=true then jc (x0_1,v.ID)>>=λr_4=>if(bif (!r_4.2)then(!x0_1.Open)else false)=true then cw path>>=λr_7=>some (⟨ab.eta r_7.Value,r_7.Path,r_7.OK⟩:aU)
 else if(bif bif decide (x0.Kind=7)then true else decide (x0.Kind=8)then decide (x0_1.Max<(v.Items.length:Int))else false)=true then cw path>>=λr_8=>some (⟨ab.eta r_8.Value,r_8.Path,r_8.OK⟩:aU)
 else if decide (x0.Kind=6)=true then mq (w,x0,ab.eta v,r,x0_1,path)>>=λr_9=>some (⟨ab.eta r_9.Value,r_9.Path,r_9.OK⟩:aU)
 else if decide (x0.Kind=5)=true then ma (w,x0,ab.eta v,r,x0_1,path)>>=λr_10=>some (⟨ab.eta r_10.Value,r_10.Path,r_10.OK⟩:aU)
 else ew (path,0,w.Types,ab.eta v,r.Types,0,false,0,[],0,false,x0,x0_1,v.Kind,v.Bool_,v.Int_,v.Str,v.ID,v.Rest,[])>>=λo=>match o with
 |.inl o_1=>
 some (⟨ab.eta o_1.Value,o_1.Path,o_1.OK⟩:aU)
 |.inr o_2=>
 eA (o_2.1,0,o_2.2.1,ab.eta o_2.2.2.1,o_2.2.2.2.1,o_2.2.2.2.2.1,o_2.2.2.2.2.2.1,o_2.2.2.2.2.2.2.1,o_2.2.2.2.2.2.2.2.1,o_2.2.2.2.2.2.2.2.2.1,o_2.2.2.2.2.2.2.2.2.2.1,o_2.2.2.2.2.2.2.2.2.2.2.1,o_2.2.2.2.2.2.2.2.2.2.2.2.1,o_2.2.2.2.2.2.2.2.2.2.2.2.2.1,o_2.2.2.2.2.2.2.2.2.2.2.2.2.2.1,o_2.2.2.2.2.2.2.2.2.2.2.2.2.2.2.1,o_2.2.2.2.2.2.2.2.2.2.2.2.2.2.2.2.1,o_2.2.2.2.2.2.2.2.2.2.2.2.2.2.2.2.2.1,o_2.2.2.2.2.2.2.2.2.2.2.2.2.2.2.2.2.2.1,o_2.2.2.2.2.2.2.2.2.2.2.2.2.2.2.2.2.2.2,[])>>=λo_3=>match o_3 with
 |.inl o_4=>
 some (⟨ab.eta o_4.Value,o_4.Path,o_4.OK⟩:aU)
 |.inr o_5=>
 eK (⟨o_5.2.2.2.2.2.2.1,o_5.2.2.2.2.2.2.2.1,o_5.2.2.2.2.2.2.2.2.1,o_5.2.2.2.2.2.2.2.2.2.1,o_5.2.2.2.2.2.2.2.2.2.2.1,o_5.2.2.2.2.2.2.2.2.2.2.2.2.1,o_5.2.2.2.2.2.2.2.2.2.2.2.2.2,o_5.2.2.2.2.2.2.2.2.2.2.2.1⟩:ab)>>=λr_11=>some (⟨ab.eta r_11.Value,r_11.Path,r_11.OK⟩:aU)
 else if(bif bif decide (x0.Kind=7)then true else decide (x0.Kind=8)then decide (x0_1.Max<(v.Items.length:Int))else false)=true then cw path>>=λr_12=>some (⟨ab.eta r_12.Value,r_12.Path,r_12.OK⟩:aU)
 else if decide (x0.Kind=6)=true then mq (w,x0,ab.eta v,r,x0_1,path)>>=λr_13=>some (⟨ab.eta r_13.Value,r_13.Path,r_13.OK⟩:aU)
 else if decide (x0.Kind=5)=true then ma (w,x0,ab.eta v,r,x0_1,path)>>=λr_14=>some (⟨ab.eta r_14.Value,r_14.Path,r_14.OK⟩:aU)
 else ew (path,0,w.Types,ab.eta v,r.Types,0,false,0,[],0,false,x0,x0_1,v.Kind,v.Bool_,v.Int_,v.Str,v.ID,v.Rest,[])>>=λo_6=>match o_6 with
 |.inl o_7=>
 some (⟨ab.eta o_7.Value,o_7.Path,o_7.OK⟩:aU)
 |.inr o_8=>
 eA (o_8.1,0,o_8.2.1,ab.eta o_8.2.2.1,o_8.2.2.2.1,o_8.2.2.2.2.1,o_8.2.2.2.2.2.1,o_8.2.2.2.2.2.2.1,o_8.2.2.2.2.2.2.2.1,o_8.2.2.2.2.2.2.2.2.1,o_8.2.2.2.2.2.2.2.2.2.1,o_8.2.2.2.2.2.2.2.2.2.2.1,o_8.2.2.2.2.2.2.2.2.2.2.2.1,o_8.2.2.2.2.2.2.2.2.2.2.2.2.1,o_8.2.2.2.2.2.2.2.2.2.2.2.2.2.1,o_8.2.2.2.2.2.2.2.2.2.2.2.2.2.2.1,o_8.2.2.2.2.2.2.2.2.2.2.2.2.2.2.2.1,o_8.2.2.2.2.2.2.2.2.2.2.2.2.2.2.2.2.1,o_8.2.2.2.2.2.2.2.2.2.2.2.2.2.2.2.2.2.1,o_8.2.2.2.2.2.2.2.2.2.2.2.2.2.2.2.2.2.2,[])>>=λo_9=>match o_9 with
 |.inl o_10=>
 some (⟨ab.eta o_10.Value,o_10.Path,o_10.OK⟩:aU)
 |.inr o_11=>
 eK (⟨o_11.2.2.2.2.2.2.1,o_11.2.2.2.2.2.2.2.1,o_11.2.2.2.2.2.2.2.2.1,o_11.2.2.2.2.2.2.2.2.2.1,o_11.2.2.2.2.2.2.2.2.2.2.1,o_11.2.2.2.2.2.2.2.2.2.2.2.2.1,o_11.2.2.2.2.2.2.2.2.2.2.2.2.2,o_11.2.2.2.2.2.2.2.2.2.2.2.1⟩:ab)>>=λr_15=>some (⟨ab.eta r_15.Value,r_15.Path,r_15.OK⟩:aU)
 else none
 else none
  partial_fixpoint
def ma(x_:au×ae×ab×au×ae×List Int):Option (aU):=
 match x_ with
 |(w,x0,v,r,y,path)=>
 fw (path,0,w.Types,x0,ab.eta v,r.Types,y,0,false,0,[],0,false,v.Kind,false,0,[],0,[])>>=λo=>match o with
 |.inl o_1=>
 some (⟨ab.eta o_1.Value,o_1.Path,o_1.OK⟩:aU)
 |.inr o_2=>
 en (o_2.1,0,o_2.2.1,o_2.2.2.1,ab.eta o_2.2.2.2.1,o_2.2.2.2.2.1,o_2.2.2.2.2.2.1,o_2.2.2.2.2.2.2.1,o_2.2.2.2.2.2.2.2.1,o_2.2.2.2.2.2.2.2.2.1,o_2.2.2.2.2.2.2.2.2.2.1,o_2.2.2.2.2.2.2.2.2.2.2.1,o_2.2.2.2.2.2.2.2.2.2.2.2.1,o_2.2.2.2.2.2.2.2.2.2.2.2.2.1,o_2.2.2.2.2.2.2.2.2.2.2.2.2.2.1,o_2.2.2.2.2.2.2.2.2.2.2.2.2.2.2.1,o_2.2.2.2.2.2.2.2.2.2.2.2.2.2.2.2.1,o_2.2.2.2.2.2.2.2.2.2.2.2.2.2.2.2.2,[])>>=λo_3=>match o_3 with
 |.inl o_4=>
 some (⟨ab.eta o_4.Value,o_4.Path,o_4.OK⟩:aU)
 |.inr o_5=>
 eK (⟨o_5.2.2.2.2.2.2.1,o_5.2.2.2.2.2.2.2.1,o_5.2.2.2.2.2.2.2.2.1,o_5.2.2.2.2.2.2.2.2.2.1,o_5.2.2.2.2.2.2.2.2.2.2.1,[],o_5.2.2.2.2.2.2.2.2.2.2.2.1,o_5.2.2.2.2.2.2.2.2.2.2.2.2⟩:ab)>>=λr_1=>some (⟨ab.eta r_1.Value,r_1.Path,r_1.OK⟩:aU)
  partial_fixpoint
def mq(x_:au×ae×ab×au×ae×List Int):Option (aU):=
 match x_ with
 |(w,x0,v,r,y,path)=>
 bO (x0,v.ID)>>=λr_1=>bO (y,v.ID)>>=λr_4=>if(bif (!r_4.2)then(!y.Open)else false)=true then cw path>>=λr_7=>some (⟨ab.eta r_7.Value,r_7.Path,r_7.OK⟩:aU)
 else if(!r_4.2)=true then if inR r_1.1 x0.Members.length=true then if inR 0 v.Items.length=true then cH (w,(x0.Members.getD r_1.1.toNat af).Type_,ab.eta (v.Items.getD (0:Int).toNat aj))>>=λr_8=>eK (⟨v.Kind,false,0,[],v.ID,[],[],[(⟨v.ID,r_8⟩:aK)]⟩:ab)>>=λr_9=>some (⟨ab.eta r_9.Value,r_9.Path,r_9.OK⟩:aU)
 else none
 else none
 else if inR r_1.1 x0.Members.length=true then if inR 0 v.Items.length=true then if inR r_4.1 y.Members.length=true then ig (path,v.ID)>>=λr_10=>dC (w,(x0.Members.getD r_1.1.toNat af).Type_,ab.eta (v.Items.getD (0:Int).toNat aj),r,(y.Members.getD r_4.1.toNat af).Type_,r_10)>>=λr_11=>if(!r_11.OK)=true then some (⟨ab.eta r_11.Value,r_11.Path,r_11.OK⟩:aU)
 else eK (⟨v.Kind,false,0,[],v.ID,[],[ab.eta r_11.Value],[]⟩:ab)>>=λr_12=>some (⟨ab.eta r_12.Value,r_12.Path,r_12.OK⟩:aU)
 else none
 else none
 else none
  partial_fixpoint
def ew(x_:List Int×Int×List ae×ab×List ae×Int×Bool×Int×List UInt8×Int×Bool×ae×ae×Int×Bool×Int×List UInt8×Int×List aK×List ab):Option ((aU) ⊕ (List Int×List ae×ab×List ae×Int×Bool×Int×List UInt8×Int×Bool×ae×ae×Int×Bool×Int×List UInt8×Int×List aK×List ab)):=
 match x_ with
 |(path_3,i,b_68,b_69,b_70,b_71,b_72,b_73,b_74,b_75,b_76,b_77,b_78,b_79,b_80,b_81,b_82,b_83,b_84,b_85)=>
 if decide (i<(b_69.Keys.length:Int))=true then if inR i b_69.Keys.length=true then ig (path_3,i)>>=λr_16=>dC ((⟨b_68⟩:au),b_77.Key,ab.eta (b_69.Keys.getD i.toNat aj),(⟨b_70⟩:au),b_78.Key,r_16)>>=λr_17=>if(!r_17.OK)=true then some (.inl (⟨ab.eta r_17.Value,r_17.Path,r_17.OK⟩:aU))
 else some [ab.eta r_17.Value]>>=λt161=>if room 120 (b_85++t161).length=true then ew (path_3,addI .i64 i 1,b_68,ab.eta b_69,b_70,b_71,b_72,b_73,b_74,b_75,b_76,b_77,b_78,b_79,b_80,b_81,b_82,b_83,b_84,b_85++t161)
 else none
 else none
 else some (.inr (path_3,b_68,ab.eta b_69,b_70,b_71,b_72,b_73,b_74,b_75,b_76,b_77,b_78,b_79,b_80,b_81,b_82,b_83,b_84,b_85))
  partial_fixpoint
def eA(x_:List Int×Int×List ae×ab×List ae×Int×Bool×Int×List UInt8×Int×Bool×ae×ae×Int×Bool×Int×List UInt8×Int×List aK×List ab×List ab):Option ((aU) ⊕ (Int×Bool×Int×List UInt8×Int×Bool×Int×Bool×Int×List UInt8×Int×List aK×List ab×List ab)):=
 match x_ with
 |(path_4,i_1,b_86,b_87,b_88,b_89,b_90,b_91,b_92,b_93,b_94,b_95,b_96,b_97,b_98,b_99,b_100,b_101,b_102,b_103,b_104)=>
 if decide (i_1<(b_87.Items.length:Int))=true then if inR i_1 b_87.Items.length=true then ig (path_4,i_1)>>=λr_18=>dC ((⟨b_86⟩:au),b_95.Elem,ab.eta (b_87.Items.getD i_1.toNat aj),(⟨b_88⟩:au),b_96.Elem,r_18)>>=λr_19=>if(!r_19.OK)=true then some (.inl (⟨ab.eta r_19.Value,r_19.Path,r_19.OK⟩:aU))
 else some [ab.eta r_19.Value]>>=λt194=>if room 120 (b_104++t194).length=true then eA (path_4,addI .i64 i_1 1,b_86,ab.eta b_87,b_88,b_89,b_90,b_91,b_92,b_93,b_94,b_95,b_96,b_97,b_98,b_99,b_100,b_101,b_102,b_103,b_104++t194)
 else none
 else none
 else some (.inr (b_89,b_90,b_91,b_92,b_93,b_94,b_97,b_98,b_99,b_100,b_101,b_102,b_103,b_104))
  partial_fixpoint
def fw(x_:List Int×Int×List ae×ae×ab×List ae×ae×Int×Bool×Int×List UInt8×Int×Bool×Int×Bool×Int×List UInt8×Int×List ab):Option ((aU) ⊕ (List Int×List ae×ae×ab×ae×Int×Bool×Int×List UInt8×Int×Bool×Int×Bool×Int×List UInt8×Int×List ab)):=
 match x_ with
 |(path_2,k,b_31,b_32,b_33,b_34,b_35,b_36,b_37,b_38,b_39,b_40,b_41,b_42,b_43,b_44,b_45,b_46,b_47)=>
 if decide (k<(b_35.Members.length:Int))=true then if inR k b_35.Members.length=true then some (b_35.Members.getD k.toNat af)>>=λx0_1=>ig (path_2,x0_1.ID)>>=λr_2=>bO (b_32,x0_1.ID)>>=λr_3=>if(bif (!r_3.2)then(!x0_1.HasDefault)else false)=true then cw r_2>>=λr_6=>some (.inl (⟨ab.eta r_6.Value,r_6.Path,r_6.OK⟩:aU))
 else if(!r_3.2)=true then some [ab.eta x0_1.Default]>>=λt65=>if room 120 (b_47++t65).length=true then fw (path_2,addI .i64 k 1,b_31,b_32,ab.eta b_33,b_34,b_35,b_36,b_37,b_38,b_39,b_40,b_41,b_42,b_43,b_44,b_45,b_46,b_47++t65)
 else none
 else if inR r_3.1 b_32.Members.length=true then if inR r_3.1 b_33.Items.length=true then dC ((⟨b_31⟩:au),(b_32.Members.getD r_3.1.toNat af).Type_,ab.eta (b_33.Items.getD r_3.1.toNat aj),(⟨b_34⟩:au),x0_1.Type_,r_2)>>=λr_7=>if inR r_3.1 b_32.Members.length=true then some (b_32.Members.getD r_3.1.toNat af)>>=λx0_4=>if inR r_3.1 b_33.Items.length=true then j7 ((⟨x0_4.ID,x0_4.Name,x0_4.Type_,x0_4.Critical,x0_4.HasDefault,ab.eta x0_4.Default⟩:av),ab.eta (b_33.Items.getD r_3.1.toNat aj))>>=λr_8=>some (!r_7.OK)>>=λt99=>(if(r_8&&(!t99))=true then j7 ((⟨x0_1.ID,x0_1.Name,x0_1.Type_,x0_1.Critical,x0_1.HasDefault,ab.eta x0_1.Default⟩:av),ab.eta r_7.Value)else some false)>>=λr_9=>if(bif r_8 then bif t99 then true else(!r_9)else false)=true then cw r_2>>=λr_10=>some (.inl (⟨ab.eta r_10.Value,r_10.Path,r_10.OK⟩:aU))
 else if(!r_7.OK)=true then some (.inl (⟨ab.eta r_7.Value,r_7.Path,r_7.OK⟩:aU))
 else some [ab.eta r_7.Value]>>=λt118=>if room 120 (b_47++t118).length=true then fw (path_2,addI .i64 k 1,b_31,b_32,ab.eta b_33,b_34,b_35,b_36,b_37,b_38,b_39,b_40,b_41,b_42,b_43,b_44,b_45,b_46,b_47++t118)
 else none
 else none
 else none
 else none
 else none
 else none
 else some (.inr (path_2,b_31,b_32,ab.eta b_33,b_35,b_36,b_37,b_38,b_39,b_40,b_41,b_42,b_43,b_44,b_45,b_46,b_47))
  partial_fixpoint
end
theorem FY:FZ e66 dC/\LZ 66 0 [1] e66_1 eA/\LZ 66 0 [0] e66_0 ew/\FZ e124 ma/\LZ 124 0 [0] oO fw/\FZ e123 mq:=dC.mutual_partial_correctness (FD e66) (LD 66 0 [1] e66_1) (LD 66 0 [0] e66_0) (FD e124) (LD 124 0 [0] oO) (FD e123)
 (λ_ _ _ _ h1 h2 h3 h5 _ _ h=>FB h (.k pd (.k r6 (.k (FG e123 h5) (.k (FG e124 h3) (.k sn .n))))) (.k (LG e66_0 h2) (.k (LG e66_1 h1) .n)))
 (λ_ _ h0 h1 _ _ h=>LB e66_1 h1 h (.k my (.k (FG e66 h0) .n)))
 (λ_ _ h0 h2 _ _ h=>LB e66_0 h2 h (.k my (.k (FG e66 h0) .n)))
 (λ_ h4 _ _ h=>FB h (.k sn .n) (.k (LG oO h4) (.k EN .n)))
 (λ_ _ h0 h4 _ _ h=>LB oO h4 h (.k my (.k du (.k pd (.k (FG e66 h0) (.k vN .n))))))
 (λ_ h0 _ _ h=>FB h (.k du (.k pd (.k vR (.k sn (.k my (.k (FG e66 h0) .n)))))))
theorem GP:FC e66 dC:=FG _ FY.1
def pw(x_:au×Int×ab×au×Int):Option (ab×Int):=
 match x_ with
 |(w,wt,v,r,rt)=>
 pL (w,wt,ab.eta v,r,rt)>>=λr_1=>if(!(decide (r_1=0)))=true then some ((⟨0,false,0,[],0,[],[],[]⟩:ab),r_1)
 else dC (w,wt,ab.eta v,r,rt,[])>>=λr_2=>if(!r_2.OK)=true then some ((⟨0,false,0,[],0,[],[],[]⟩:ab),12)
 else some (ab.eta r_2.Value,0)
theorem Fv:FC e26 pw:= .fx (.k Gs (.k GP .n))
def pN(x_:au×Int×ab×au×Int×ab):Option (Bool):=
 match x_ with
 |(w,wt,v,r,rt,u)=>
 pw (w,wt,ab.eta v,r,rt)>>=λr_1=>some (decide (r_1.2=0))>>=λt25=>(if t25=true then ko (ab.eta r_1.1,ab.eta u)else some false)>>=λr_4=>some (bif t25 then r_4 else false)
theorem Gt:FC e146 pN:= .fx (.k Fv (.k wb .n))
def gx(x_:Int×List ae×ae×List ae×ae):Option ((Int) ⊕ (ae×ae)):=
 match x_ with
 |(i,b_2,b_3,b_4,b_5)=>
 if decide (i<(b_5.Members.length:Int))=true then if inR i b_5.Members.length=true then some (b_5.Members.getD i.toNat af)>>=λx0_1=>bO (b_3,x0_1.ID)>>=λr_1=>some (!x0_1.HasDefault)>>=λt37=>some (!r_1.2)>>=λt40=>if(inR r_1.1 b_3.Members.length||(!(t37&&(!t40))))=true then if(bif t37 then bif t40 then true else(b_3.Members.getD r_1.1.toNat af).HasDefault else false)=true then some (.inl 7)
 else if(inR r_1.1 b_3.Members.length||(!r_1.2))=true then some (bif r_1.2 then(b_3.Members.getD r_1.1.toNat af).HasDefault else false)>>=λt58=>if(inR r_1.1 b_3.Members.length||(!t58))=true then if(inR r_1.1 b_3.Members.length||(!t58))=true then (if t58=true then pN ((⟨b_2⟩:au),(b_3.Members.getD r_1.1.toNat af).Type_,ab.eta (b_3.Members.getD r_1.1.toNat af).Default,(⟨b_4⟩:au),x0_1.Type_,ab.eta x0_1.Default)else some false)>>=λr_4=>if(bif t58 then(!r_4)else false)=true then some (.inl 10)
 else gx (addI .i64 i 1,b_2,b_3,b_4,b_5)
 else none
 else none
 else none
 else none
 else none
 else some (.inr (b_3,b_5))
  partial_fixpoint
theorem EO:LC 97 0 [0] e97_0 gx:= .rx gx.partial_correctness (.k du (.k Gt .n))
def gy(x_:Int×ae×ae):Option ((Int) ⊕ (Unit)):=
 match x_ with
 |(i_1,b_6,b_7)=>
 if decide (i_1<(b_6.Members.length:Int))=true then if inR i_1 b_6.Members.length=true then bO (b_7,(b_6.Members.getD i_1.toNat af).ID)>>=λr_5=>some (!r_5.2)>>=λt100=>if(inR i_1 b_6.Members.length||(!t100))=true then if(bif t100 then(b_6.Members.getD i_1.toNat af).Critical else false)=true then some (.inl 6)
 else gy (addI .i64 i_1 1,b_6,b_7)
 else none
 else none
 else some (.inr ())
  partial_fixpoint
theorem EP:LC 97 0 [1] e97_1 gy:= .rx gy.partial_correctness (.k du .n)
def mc(x_:au×ae×au×ae):Option (Int):=
 match x_ with
 |(w,x0,r,y)=>
 gx (0,w.Types,x0,r.Types,y)>>=λo=>match o with
 |.inl o_1=>
 some o_1
 |.inr o_2=>
 gy (0,o_2.1,o_2.2)>>=λo_3=>match o_3 with
 |.inl o_4=>
 some o_4
 |.inr o_5=>
 some 0
theorem F0:FC e97 mc:= .fx .n (.k EO (.k EP .n))
def me(x_:au×Int×au×Int):Option (Int):=
 match x_ with
 |(w,wt,r,rt)=>
 if inR wt w.Types.length=true then some (w.Types.getD wt.toNat ag)>>=λx0=>if inR rt r.Types.length=true then some (r.Types.getD rt.toNat ag)>>=λx0_1=>if(!(decide (x0.Kind=x0_1.Kind)))=true then some 9
 else if decide (x0.Kind=2)=true then if(bif decide (x0.Low<x0_1.Low)then true else decide (x0_1.High<x0.High))=true then some 2
 else some 0
 else some (decide (x0.Kind=3))>>=λt43=>if t43=true then if t43=true then if decide (x0_1.Max<x0.Max)=true then some 3
 else some 0
 else if decide (x0.Kind=8)=true then if inR x0.Key w.Types.length=true then ku (w.Types.getD x0.Key.toNat ag)>>=λr_1=>if decide (x0_1.Max<minI x0.Max r_1)=true then some 3
 else some 0
 else none
 else if decide (x0.Kind=4)=true then some (!x0_1.Open)>>=λt69=>(if t69=true then jq (x0,x0_1)else some false)>>=λr_2=>if(bif t69 then(!r_2)else false)=true then some 4
 else some 0
 else if decide (x0.Kind=6)=true then some (!x0_1.Open)>>=λt80=>(if t80=true then jq (x0,x0_1)else some false)>>=λr_3=>if(bif t80 then(!r_3)else false)=true then some 5
 else some 0
 else if decide (x0.Kind=5)=true then mc (w,x0,r,x0_1)>>=λr_4=>some r_4
 else some 0
 else if decide (x0.Kind=7)=true then if decide (x0_1.Max<x0.Max)=true then some 3
 else some 0
 else if decide (x0.Kind=8)=true then if inR x0.Key w.Types.length=true then ku (w.Types.getD x0.Key.toNat ag)>>=λr_5=>if decide (x0_1.Max<minI x0.Max r_5)=true then some 3
 else some 0
 else none
 else if decide (x0.Kind=4)=true then some (!x0_1.Open)>>=λt69_1=>(if t69_1=true then jq (x0,x0_1)else some false)>>=λr_6=>if(bif t69_1 then(!r_6)else false)=true then some 4
 else some 0
 else if decide (x0.Kind=6)=true then some (!x0_1.Open)>>=λt80_1=>(if t80_1=true then jq (x0,x0_1)else some false)>>=λr_7=>if(bif t80_1 then(!r_7)else false)=true then some 5
 else some 0
 else if decide (x0.Kind=5)=true then mc (w,x0,r,x0_1)>>=λr_8=>some r_8
 else some 0
 else none
 else none
theorem vW:FC e49 me:= .fx (.k GO (.k G8 (.k F0 .n)))
def gN(x_:List aw×Int×List ae×List ae):Option ((Bool) ⊕ (Unit)):=
 match x_ with
 |(l,i,b,b_1)=>
 if decide (i<(l.length:Int))=true then if inR i l.length=true then if inR i l.length=true then me ((⟨b⟩:au),(l.getD i.toNat aG).A0,(⟨b_1⟩:au),(l.getD i.toNat aG).A1)>>=λr_2=>if(!(decide (r_2=0)))=true then some (.inl false)
 else gN (l,addI .i64 i 1,b,b_1)
 else none
 else none
 else some (.inr ())
  partial_fixpoint
theorem Fw:LC 46 0 [0] e46_0 gN:= .rx gN.partial_correctness (.k vW .n)
def sA(x_:au×Int×au×Int):Option (Bool):=
 match x_ with
 |(w,wt,r,rt)=>
 po (w,wt,r,rt)>>=λr_1=>gN (r_1,0,w.Types,r.Types)>>=λo=>match o with
 |.inl o_1=>
 some o_1
 |.inr o_2=>
 some true
theorem GQ:FC e46 sA:= .fx (.k Ft .n) (.k Fw .n)
def pb(x_:aI×aI):Option (Bool×Int):=
 match x_ with
 |(w,r)=>
 ml (w,r)>>=λr_1=>if(!(decide (r_1=0)))=true then some (false,r_1)
 else sA (w.Schema,w.Type_,r.Schema,r.Type_)>>=λr_2=>some (r_2,0)
theorem EB:FC e15 pb:= .fx (.k v8 (.k GQ .n))
def eB(x_:List aw×Int×aI×aI):Option ((Bool) ⊕ (List aw×aI×aI)):=
 match x_ with
 |(l_2,i,b_2,b_3)=>
 if decide (i<(l_2.length:Int))=true then some (subI .i64 i 1)>>=λt39=>if inR t39 l_2.length=true then some (subI .i64 i 1)>>=λt47=>if inR t47 l_2.length=true then mw (b_2.Schema,(l_2.getD t39.toNat aG).A0,b_3.Schema,(l_2.getD t47.toNat aG).A1)>>=λr_3=>if inR i l_2.length=true then mN (r_3,l_2.getD i.toNat aG)>>=λr_4=>if(!r_4)=true then some (.inl false)
 else eB (l_2,addI .i64 i 1,b_2,b_3)
 else none
 else none
 else none
 else some (.inr (l_2,b_2,b_3))
  partial_fixpoint
theorem Fx:LC 21 0 [0] e21_0 eB:= .rx eB.partial_correctness (.k wh (.k Hz .n))
def pQ(x_:aI×aI×List aw):Option (Bool):=
 match x_ with
 |(w,r,l)=>
 ml (w,r)>>=λr_1=>some (bif (!(decide (r_1=0)))then true else decide ((l.length:Int)=0))>>=λt17=>if(inR 0 l.length||(!(!t17)))=true then some (l.getD (0:Int).toNat aG)>>=λx0=>if(bif t17 then true else(!(eqI x0.A0 w.Type_&&(eqI x0.A1 r.Type_&&true))))=true then some false
 else eB (l,1,w,r)>>=λo=>match o with
 |.inl o_1=>
 some o_1
 |.inr o_2=>
 some (subI .i64 (o_2.1.length:Int) 1)>>=λt61=>if inR t61 o_2.1.length=true then some (o_2.1.getD t61.toNat aG)>>=λx0_1=>me (o_2.2.1.Schema,x0_1.A0,o_2.2.2.Schema,x0_1.A1)>>=λr_2=>some (!(decide (r_2=0)))
 else none
 else none
theorem GR:FC e21 pQ:= .fx (.k v8 (.k vW .n)) (.k Fx .n)
def o9(x_:dD×List aw):Option (Bool):=
 match x_ with
 |(c,l)=>
 mE c>>=λr=>mj ()>>=λr_4=>if(bif bif (!r_4)then true else(!r.2.2)then true else decide (40<(l.length:Int)))=true then mj ()>>=λr_5=>some r_5
 else bg 16 l>>=λr_6=>ql (r.1,r.2.1,r_6)>>=λr_7=>pb (r.1,r.2.1)>>=λr_8=>pQ (r.1,r.2.1,l)>>=λr_11=>some (bif bif eqB r_7 r_11 then decide (r_8.2=0)else false then bif (!r_7)then true else(!r_8.1)else false)
theorem Qm:FC e5 o9:= .fx (.k Hj (.k F6 (.k GA (.k H6 (.k EB (.k GR .n))))))
end
section
open Go Go.Proofs.YtkbmjabicjpmjaaGreatDoor.Shv
open Tryz
set_option maxRecDepth 100000
set_option linter.all false




end
section
open Go Go.Proofs.YtkbmjabicjpmjaaGreatDoor.Shv
set_option maxRecDepth 100000
set_option linter.all false

end
section
open Go Go.Proofs.YtkbmjabicjpmjaaGreatDoor.Shv
set_option maxRecDepth 100000
def vput(n:Nat):List UInt8:=if n<128 then[UInt8.ofNat n]else UInt8.ofNat (n%128+128)::vput (n/128)
termination_by n
decreasing_by omega
theorem tY{n:Nat}(h:n<128):vput n=[UInt8.ofNat n]:=by rw[vput,if_pos h]
theorem uI{n:Nat}(h:¬n<128):vput n=UInt8.ofNat (n%128+128)::vput (n/128):=by rw[vput,if_neg h]
theorem ON{a:Nat}(h:a<256):orI .u8 (a:Int) 128=((a%128+128:Nat):Int):=by
 have key:∀a:Nat,a<256->orI .u8 a 128=a%128+128:=by decide+kernel
 grind
theorem wrp8(n:Nat):wrp .u8 (n:Int)=((n%256:Nat):Int):=by rfl
theorem shrI7(n:Nat):shrI .u64 (n:Int) 7=((n/128:Nat):Int):=by
 unfold shrI;have:(2^min (7:Int).toNat IntKind.u64.bits)=128:=by rfl
 grind
theorem Lw(m:Nat)(l:List Int):strOf ((m:Int)::l)=UInt8.ofNat m::strOf l:=rfl
theorem qm(a b:List Int):strOf (a++b)=strOf a++strOf b:=List.map_append
theorem sY{α:Type}:∀(l:List α) (i:Nat) (x:α),i<l.length->(l.set i x).take (i+1)=l.take i++[x]
 |[],i,x,h=>by grind
 |a::l,0,x,h=>by rfl
 |a::l,i+1,x,h=>by simp[sY l i x (by grind)]
theorem Dz:∀(f n i:Nat) (b:List Int),i+f=9->n<128*128^f->b.length=10->∃(n' i':Nat) (b':List Int),jw ((n:Int),(i:Int),b)=some ((n':Int),(i':Int),b')/\n'<128/\i'<=9/\b'.length=10/\strOf (b'.take i')++[UInt8.ofNat n']=strOf (b.take i)++vput n
 |f,n,i,b,hi,hn,hb=>by
  rw[jw];by_cases hs:n<128
  . rw[if_neg (by grind)]
    grind[tY]
  . rw[if_pos (by grind),if_pos (aq (by
     omega)),if_pos (by
     grind)]
    match f,hi,hn with
    |0,hi,hn=>grind
    |f+1,hi,hn=>
     rw[shrI7,aC (by omega),wrp8,ON (Nat.mod_lt _ (by simp))];have hlt:n/128<128*128^f:=by omega
     obtain⟨n',i',b',h1,h2,h3,h4,h5⟩:=Dz f _ (i+1) (b.set i _) (by omega) hlt (by grind);refine⟨n',i',b',h1,h2,h3,h4,?_⟩;rw[h5,sY _ _ _ (by omega),qm,uI hs];have hone:strOf [n%128+128]=[UInt8.ofNat _]:=rfl
     grind
theorem jW{n:Nat}(hn:n<18446744073709551616):fP (n:Int)=some (vput n):=by
 obtain⟨n',i',b',h1,h2,h3,h4,h5⟩:=Dz 9 n 0 [0,0,0,0,0,0,0,0,0,0] rfl (by grind) rfl;rw[fP];have h1':jw (n,0,[0,0,0,0,0,0,0,0,0,0])=some _:=h1;rw[h1'];simp only[oZ4,oZ3];have hsl:slR 0 (i'+1:Nat) 10=true:=BM (by simp) (by omega)
 rw[if_pos (aq (by omega)),if_pos (by grind),aC (by omega),if_pos hsl,if_pos (by grind[subR]),aA,wrp8];have:n'%256=n':=Nat.mod_eq_of_lt (by omega);rw[this];simp;rw[sY _ _ _ (by omega),qm];have h6:strOf [n']=[UInt8.ofNat n']:=rfl;rw[h6,h5];rfl
theorem zU:∀(f n:Nat) (b:List Int),n<128^f->n<18446744073709551616->b.length+f<=1000->∃(n':Nat) (b':List Int),kj ((n:Int),b)=some ((n':Int),b')/\n'<128/\b'.length<=1000/\strOf b'++[UInt8.ofNat n']=strOf b++vput n
 |f,n,b,hn,h64,hb=>by
  rw[kj];by_cases hs:n<128
  . rw[if_neg (by grind)]
    grind[tY]
  . rw[if_pos (by grind)]
    match f,hn with
    |0,hn=>grind
    |f+1,hn=>
     have hrem:remI (n:Int) 128=((n%128:Nat):Int):=remIn (b:=128);have hadd:addI .u64 _ 128=((n%128+128:Nat):Int):=addIn (b:=128) (by omega);have hq:quoI .u64 (n:Int) 128=((n/128:Nat):Int):=by
      grind[quoI,Int.tdiv_eq_ediv_of_nonneg,wrapu]
     simp only[oZ4,oZ3];rw[hrem,hadd,hq,wrp8,if_pos (bl (by simp) (by grind))];have hlt:n/128<128^f:=by omega
     obtain⟨n',b',h1,h2,h3,h4⟩:=zU f (n/128) (b++[(((n%128+128)%256:Nat):Int)]) hlt (by omega) (by grind);refine⟨n',b',h1,h2,h3,?_⟩;rw[h4,qm,uI hs];have hone:strOf [((n%128+128:Nat):Int)]=[UInt8.ofNat (n%128+128)]:=rfl
     grind
theorem nC{n:Nat}(hn:n<18446744073709551616):ic (n:Int)=some (vput n):=by
 obtain⟨n',b',h1,h2,h3,h4⟩:=zU 10 n [] (by grind) hn (by simp);rw[ic,h1];simp only[oZ4,oZ3];rw[if_pos (bl (by simp) (by grind)),wrp8,qm];have:n'%256=n':=Nat.mod_eq_of_lt (by omega);rw[this];have h6:strOf [n']=[UInt8.ofNat n']:=rfl;rw[h6,h4];rfl
theorem uK:∀(f n:Nat),n<128^(f+1)->(vput n).length<=f+1
 |f,n,hn=>by
  by_cases hs:n<128
  . grind[tY]
  . rw[uI hs]
    match f,hn with
    |0,hn=>grind
    |f+1,hn=>
     have:=uK f (n/128) (by omega)
     grind
theorem cP{n:Nat}(hn:n<18446744073709551616):(vput n).length<=10:=uK 9 n (by grind)
theorem kG{n:Nat}(h:n<256):(UInt8.ofNat n).toNat=n:=by simp_all
def bB(p:List UInt8):List UInt8:=vput p.length++p
theorem bz{n:Nat}(h:n<=9223372036854775807):decide (n<=aX)=true:=by
 grind[aX]
theorem NT{p:List UInt8}(h:p.length<=1152921504606846976):iq p=some (bB p):=by
 rw[iq,wrpn (by omega),jW (by omega)];simp only[oZ4,oZ3];have:=cP (n:=p.length) (by omega);rw[if_pos (bz (by omega))];rfl
theorem qz{p:List UInt8}(h:p.length<=1152921504606846976):ia p=some (bB p):=by
 rw[ia,wrpn (by omega),nC (by omega)];simp only[oZ4,oZ3];have:=cP (n:=p.length) (by omega);rw[if_pos (bz (by omega))];rfl
def cU(id:Nat)(c:Bool)(p:List UInt8):List UInt8:=vput (2*id+(if c then 1 else 0))++bB p
theorem yZ{p:List UInt8}(h:p.length<=1152921504606846976):(bB p).length<=p.length+10:=by
 grind[cP,bB]
theorem NU{id:Nat}{c:Bool}{p:List UInt8}(hid:id<=4611686018427387903)(h:p.length<=1152921504606846900):kF ((id:Int),c,p)=some (cU id c p):=by
 rw[kF];have hm:mulI .u64 2 (wrp .u64 id)=(2*id:Nat):=by rw[wrpn (by omega)];exact mulIn (a:=2) (by omega)
 simp only[oZ4,oZ3];rw[hm,NT (by omega)];have hl:=yZ (p:=p) (by omega);cases c with
 |true=>
  have ha:addI .u64 _ 1=(2*id+1:Nat):=addIn (b:=1) (by omega);rw[ha,jW (by omega)];have:=cP (n:=2*id+1) (by omega);simp only[oZ3];rw[if_pos (bz (by omega))];rfl
 |false=>
  rw[jW (by omega)];have:=cP (n:=2*id) (by omega);simp only[oZ3];rw[if_pos (bz (by omega))];rfl
theorem yg{id:Nat}{c:Bool}{p:List UInt8}(hid:id<=4611686018427387903)(h:p.length<=1152921504606846900):mo ((id:Int),c,p)=some (cU id c p):=by
 rw[mo];have hm:wrp .u64 (mulI .i64 2 id)=(2*id:Nat):=by
  rw[Pv (by omega) (by omega)];have:(2:Int)*id=(2*id:Nat):=by rfl
  rw[this];exact wrpn (by omega)
 simp only[oZ4,oZ3];rw[hm,qz (by omega)];have hl:=yZ (p:=p) (by omega);cases c with
 |true=>
  have ha:addI _ _ 1=(2*id+1:Nat):=addIn (b:=1) (by omega);rw[ha,nC (by omega)];have:=cP (n:=2*id+1) (by omega);simp only[oZ3];rw[if_pos (bz (by omega))];rfl
 |false=>
  rw[nC (by omega)];have:=cP (n:=2*id) (by omega);simp only[oZ3];rw[if_pos (bz (by omega))];rfl
inductive OkV:ab->Prop
 |mk (v:ab) (hs:v.Str.length<=reachBytes) (h1:v.Keys.length<=reachBytes) (h2:v.Items.length<=reachBytes) (h3:v.Rest.length<=reachBytes)
  (hk:∀x,x∈v.Keys->OkV x) (hi:∀x,x∈v.Items->OkV x) (hr:∀x,x∈v.Rest->x.Data.length<=reachBytes)
  (n1: -9223372036854775808<=v.Kind/\v.Kind<=9223372036854775807) (n2: -9223372036854775808<=v.Int_/\v.Int_<=9223372036854775807) (n3: -9223372036854775808<=v.ID/\v.ID<=9223372036854775807)
  (n4:∀x,x∈v.Rest->-9223372036854775808<=x.ID/\x.ID<=9223372036854775807):OkV v
theorem aZ{n:Nat}(h:n<=reachBytes):n<9223372036854775807:=Nat.lt_of_le_of_lt h (by decide)
theorem scan {γ:Type} (L:Nat->Option γ) (n:Nat) (p:Nat->Bool) (bad good:γ) (hstep:∀ i,i<n->L i = if p i = true then L (i+1) else some bad) (hend:L n = some good):
 (L 0=some good/\∀j,j<n->p j=true)\/(L 0=some bad/\∃j,j<n/\p j=false):=by
 have key:∀k i,i+k=n->(L i=some good/\∀j,i<=j->j<n->p j=true)\/(L i=some bad/\∃j,j<n/\p j=false):=by
  intro k
  induction k<;>grind
 rcases key n 0 (by simp)with⟨h1,h2⟩|h
 all_goals grind
theorem bZ{α:Type}{l:List α}{i:Nat}(h:i<l.length)(d:α):l.getD i d=l[i]:=by grind
theorem ng {α:Type} {a b:List α} {p:Nat->Bool} (hl:a.length = b.length) (hp:∀ (i:Nat) (h1:i<a.length) (h2:i<b.length),p i = true ↔ a[i] = b[i]):
 (∀j,j<a.length->p j=true)↔a=b:=by
 grind[List.ext_getElem]
def Says{α:Type}(o:Option Bool)(a b:α):Prop:=∃r,o=some r/\(r=true↔a=b)
theorem Says.of_scan {α:Type} {a b:List α} {p:Nat->Bool} (hl:a.length = b.length) (hp:∀ (i:Nat) (h1:i<a.length) (h2:i<b.length),p i = true ↔ a[i] = b[i]) {o:Option Bool}
 (h:(o=some true/\∀j,j<a.length->p j=true)\/(o=some false/\∃j,j<a.length/\p j=false)):Says o a b:=by
 rcases h with⟨h1,h2⟩|⟨h1,j,h2,h3⟩
 . exact⟨true,h1,by simp[(ng hl hp).1 h2]⟩
 . refine⟨false,h1,?_⟩
   grind
theorem DA{a b:aK}:(eqI a.ID b.ID&&(eqS a.Data b.Data&&true))=true↔a=b:=by cases a;cases b;simp[eqI,eqS]
theorem DB{a b:aO}:(eqI a.ID b.ID&&(eqS a.Name b.Name&&true))=true↔a=b:=by
 cases a;cases b;simp[eqI,eqS]
theorem lj{α:Type}{a b:List α}(h:¬a.length=b.length):Says (some false) a b:=⟨false,rfl,by grind⟩
theorem DC{a b:List aK}(ha:a.length<=reachBytes):Says (lQ (a,b)) a b:=by
 rw[lQ];by_cases hl:a.length=b.length
 . have hr:=aZ ha;have:=scan (λi=>iS (a,b,(a.length:Int),(i:Int))) a.length (λi=>eqI (a.getD i aE).ID (b.getD i aE).ID&&(eqS (a.getD i aE).Data (b.getD i aE).Data&&true)) (.inl false) (.inr ())
    (λi hi=>by
     rw[iS,if_pos (by grind),if_pos (aq hi)];simp[oZ4,oZ3,aA];rw[if_pos (aq (by omega)),aC (by omega)]
     grind)
    (by simp_all[iS])
   refine Says.of_scan (p:=λi=>eqI (a.getD i aE).ID (b.getD i aE).ID&&(eqS (a.getD i aE).Data (b.getD i aE).Data&&true)) hl (λi h1 h2=>by simp only[bZ h1,bZ h2];exact DA) ?_
   grind
 . rw[if_pos (by grind)];exact lj hl
theorem PZ{a b:List aO}(ha:a.length<=reachBytes):Says (oV (a,b)) a b:=by
 rw[oV];by_cases hl:a.length=b.length
 . have hr:=aZ ha;have:=scan (λi=>iR (a,b,(a.length:Int),(i:Int))) a.length (λi=>eqI (a.getD i aT).ID (b.getD i aT).ID&&(eqS (a.getD i aT).Name (b.getD i aT).Name&&true)) (.inl false) (.inr ())
    (λi hi=>by
     rw[iR,if_pos (aq hi)];simp;rw[if_pos (aq (by omega)),aC (by omega)]
     grind)
    (by simp_all[iR])
   refine Says.of_scan (p:=λi=>eqI (a.getD i aT).ID (b.getD i aT).ID&&(eqS (a.getD i aT).Name (b.getD i aT).Name&&true)) hl (λi h1 h2=>by simp only[bZ h1,bZ h2];exact DB) ?_
   grind
 . rw[if_pos (by grind)];exact lj hl
theorem qV(v:ab):(⟨v.Kind,v.Bool_,v.Int_,v.Str,v.ID,v.Keys,v.Items,v.Rest⟩:ab)=v:=by cases v;rfl
theorem zV{a b:ab}:a=b↔a.Kind=b.Kind/\a.Bool_=b.Bool_/\a.Int_=b.Int_/\a.Str=b.Str/\a.ID=b.ID/\a.Rest=b.Rest/\a.Keys=b.Keys/\a.Items=b.Items:=by
 constructor
 . grind
 . cases a;cases b
   grind
section
variable {f:ab×ab->Option Bool}
theorem tZ {a b:List ab} (hl:a.length = b.length) (ih:∀ x,x∈a->∀ y,Says (f (x,y)) x y) (L:Nat->Option (Bool ⊕ Unit))
 (hstep:∀i,i<a.length->L i=(f (ab.eta (a.getD i aj),ab.eta (b.getD i aj))>>=λr=>if(!r)=true then some (.inl false)else L (i+1)))
 (hend:L a.length=some (.inr ())):Says (L 0>>=λo=>match o with|.inl x=>some x|.inr _=>some true) a b:=by
 have hget:∀(i:Nat) (h1:i<a.length) (h2:i<b.length),Says (f (ab.eta (a.getD i aj),ab.eta (b.getD i aj))) a[i] b[i]:=by
  grind[bZ,ab.aD]
 have:=scan L a.length (λi=>(f (ab.eta (a.getD i aj),ab.eta (b.getD i aj))).getD false) (.inl false) (.inr ())
  (λi hi=>by
   obtain⟨r,h1,h2⟩:=hget i hi (by omega)
   grind) hend
 refine Says.of_scan hl (λi h1 h2=>?_) ?_ (p:=λi=>(f (ab.eta (a.getD i aj),ab.eta (b.getD i aj))).getD false)
 . obtain⟨r,h3,h4⟩:=hget i h1 h2
   grind
 grind
end
theorem BW{a b:List ab}(ha:a.length<=reachBytes)(ih:∀x,x∈a->∀y,Says (dL (x,y)) x y):Says (j5 (a,b)) a b:=by
 rw[j5];by_cases hl:a.length=b.length
 . rw[if_neg (by grind)];have hr:=aZ ha;exact tZ hl ih (λi=>j3 (b,a,a.length,i))
    (λi hi=>by
     rw[j3,if_pos (by grind),if_pos (aq hi),if_pos (aq (by omega)),aC (by omega)]
     rfl)
    (by grind[j3])
 . rw[if_pos (by grind)];exact lj hl
theorem BX{a b:List ab}(ha:a.length<=reachBytes)(ih:∀x,x∈a->∀y,Says (dK (x,y)) x y):Says (lP (a,b)) a b:=by
 rw[lP];by_cases hl:a.length=b.length
 . rw[if_neg (by grind)];have hr:=aZ ha;exact tZ hl ih (λi=>j4 (b,a,a.length,i))
    (λi hi=>by
     rw[j4,if_pos (by grind),if_pos (aq hi),if_pos (aq (by omega)),aC (by omega)]
     rfl)
    (by simp_all[j4])
 . rw[if_pos (by grind)];exact lj hl
theorem BY{a b:List ab}(ha:a.length<=reachBytes)(ih:∀x,x∈a->∀y,Says (cu (x,y)) x y):Says (lT (a,b)) a b:=by
 rw[lT];by_cases hl:a.length=b.length
 . rw[if_neg (by grind)];have hr:=aZ ha;exact tZ hl ih (λi=>j6 (a,b,i))
    (λi hi=>by
     rw[j6,if_pos (by grind),if_pos (aq hi),if_pos (aq (by omega)),aC (by omega)]
     rfl)
    (by grind[j6])
 . rw[if_pos (by grind)];exact lj hl
theorem three {a b:ab} {h5:Bool} (e5:h5 = true ↔ a.Kind = b.Kind/\a.Bool_ = b.Bool_/\a.Int_ = b.Int_/\a.Str = b.Str/\a.ID = b.ID) {x y z:Option Bool} (hx:Says x a.Rest b.Rest) (hy:Says y a.Keys b.Keys) (hz:Says z a.Items b.Items):
 Says (some h5>>=λt37=>(if t37=true then x else some false)>>=λr=>some (bif t37 then r else false)>>=λt44=>(if t44=true then y else some false)>>=λr_1=>some (bif t44 then r_1 else false)>>=λt51=>(if t51=true then z else some false)>>=λr_2=>some (bif t51 then r_2 else false)) a b:=by
 obtain⟨rx,hx1,hx2⟩:=hx;obtain⟨ry,hy1,hy2⟩:=hy;obtain⟨rz,hz1,hz2⟩:=hz;subst hx1;subst hy1;subst hz1;refine⟨h5&&rx&&ry&&rz,?_,?_⟩
 . cases h5<;>cases rx<;>cases ry<;>rfl
 grind[zV]
theorem five{a b:ab}:(bif bif bif bif decide (a.Kind=b.Kind)then eqB a.Bool_ b.Bool_ else false then decide (a.Int_=b.Int_)else false then decide (a.Str=b.Str)else false then decide (a.ID=b.ID)else false)=true↔a.Kind=b.Kind/\a.Bool_=b.Bool_/\a.Int_=b.Int_/\a.Str=b.Str/\a.ID=b.ID:=by
 grind[eqB]
theorem Lx{a:ab}(h:OkV a):∀b,Says (dL (a,b)) a b:=by
 induction h with
 |mk a hs h1 h2 h3 hk hi hr n1 n2 n3 n4 ihk ihi=>
  intro b;rw[dL];exact three five (DC h3) (BW h1 ihk) (BW h2 ihi)
theorem qM{a:ab}(h:OkV a):∀b,Says (dK (a,b)) a b:=by
 induction h with
 |mk a hs h1 h2 h3 hk hi hr n1 n2 n3 n4 ihk ihi=>
  intro b;rw[dK];exact three five (DC h3) (BX h1 ihk) (BX h2 ihi)
theorem rB{a:ab}(h:OkV a):∀b,Says (cu (a,b)) a b:=by
 induction h with
 |mk a hs h1 h2 h3 hk hi hr n1 n2 n3 n4 ihk ihi=>
  intro b;rw[cu];by_cases h5:a.Kind=b.Kind/\a.Bool_=b.Bool_/\a.Int_=b.Int_/\a.Str=b.Str/\a.ID=b.ID/\a.Rest.length=b.Rest.length
  . obtain⟨e1,e2,e3,e4,e5,e6⟩:=h5;rw[if_neg (by grind[eqB])];have hr3:=aZ h3;have hsc:=scan (λi=>fh ((i:Int),a,b)) a.Rest.length (λi=>eqI (a.Rest.getD i aE).ID (b.Rest.getD i aE).ID&&(eqS (a.Rest.getD i aE).Data (b.Rest.getD i aE).Data&&true)) (.inl false) (.inr (a,b))
     (λi hi'=>by
      rw[fh,if_pos (aq hi')];simp only[oZ4,oZ3,aA,ab.aD];rw[if_pos (aq (by omega)),aC (by omega)]
      grind)
     (by rw[fh,if_neg (by simp),ab.aD,ab.aD])
    have h0:fh (((0:Nat):Int),a,b)=fh (0,a,b):=rfl;simp only[h0]at hsc;rw[qV,qV];have hp:∀(i:Nat) (h1:i<a.Rest.length) (h2:i<b.Rest.length),(eqI (a.Rest.getD i aE).ID (b.Rest.getD i aE).ID&&(eqS (a.Rest.getD i aE).Data (b.Rest.getD i aE).Data&&true))=true↔a.Rest[i]=b.Rest[i]:=λi h1 h2=>by grind[bZ,DA]
    rcases hsc with⟨g1,g2⟩|⟨g1,j,g2,g3⟩
    . have hrest:=(ng e6 hp).1 g2;rw[g1];obtain⟨rk,k1,k2⟩:=BY (a:=a.Keys) (b:=b.Keys) h1 ihk;obtain⟨ri,i1,i2⟩:=BY (a:=a.Items) (b:=b.Items) h2 ihi;simp only[oZ4,oZ3];rw[k1,i1];refine⟨rk&&ri,by cases rk<;>rfl,?_⟩;simp_all[zV,Bool.and_eq_true]
    . rw[g1];refine⟨false,rfl,?_⟩
      grind
  . rw[if_pos]
    . refine⟨false,rfl,?_⟩
      grind
    . simp only[Bool.cond_eq_ite,eqB]
      grind
def fT(c:Int):Bool:=decide (c=95\/(97<=c/\c<=122)\/(65<=c/\c<=90))
def oP(c:Int):Bool:=decide (48<=c/\c<=57)
theorem qW(c:Int):mG c=some (fT c):=by
 rw[mG];unfold fT
 grind
theorem zW(c:Int):l9 c=some (fT c):=by
 rw[l9];unfold fT
 grind
theorem NV(c:Int):pZ c=some (oP c):=by
 rw[pZ];unfold oP
 grind
theorem NW(c:Int):pE c=some (oP c):=by
 rw[pE];unfold oP
 grind
theorem AX {γ:Type} (A B I:Bool) (X Y:Option γ) (hI:I = true):
 (some A>>=λr_1=>some (!r_1)>>=λt26=>if(I||(!t26))=true then(if t26=true then some B else some false)>>=λr_2=>if(bif t26 then(!r_2)else false)=true then X else Y else none)=if(A||B)=true then Y else X:=by
 subst hI;cases A<;>cases B<;>rfl
theorem BZ(s:List UInt8):∃r,cz s=some r/\ja s=some r:=by
 rw[cz,ja];simp only[oZ4,oZ3];by_cases hb:s=[]\/24<s.length
 . have ht:(bif decide (s=[])then true else decide (24<(s.length:Int)))=true:=by grind
   rw[ht];simp_all
 . have hne:s≠[]:=λh=>hb (.inl h)
   have hlen:s.length<=24:=by omega
   have ht:(bif decide (s=[])then true else decide (24<(s.length:Int)))=false:=by grind
   have hpos:0<s.length:=List.length_pos_iff.2 hne;have hin:inR 0 s.length=true:=aq (k:=0) hpos;simp only[ht,hin,Bool.true_or,if_true,Bool.not_false,oZ3,qW,zW,cond_false];cases hl:fT (dp s 0)with
   |false=>exact⟨false,rfl,rfl⟩
   |true=>
    rw[if_neg (by simp),if_neg (by simp)]
    let p:Nat->Bool:=λi=>fT (dp s i)||oP (dp s i)
    have s1:=scan (λi=>dk (s,(s.length:Int),(i:Int))) s.length p (.inl false) (.inr ())
     (λi hi=>by
      rw[dk,if_pos (by simp;omega),if_pos (aq hi),qW,NV,aC (by omega)]
      exact AX _ _ _ _ _ (aq hi))
     (by rw[dk,if_neg (by simp)])
    have s2:=scan (λi=>fq (s,(i:Int))) s.length p (.inl false) (.inr ())
     (λi hi=>by
      rw[fq,if_pos (by simp;omega),if_pos (aq hi),zW,NW,aC (by omega)]
      exact AX _ _ _ _ _ (aq hi))
     (by rw[fq,if_neg (by simp)])
    have e1:dk (s,(s.length:Int),((0:Nat):Int))=dk (s,(s.length:Int),0):=rfl;have e2:fq (s,((0:Nat):Int))=fq (s,0):=rfl;simp only[e1,e2]at s1 s2;rcases s1 with⟨a1,a2⟩|⟨a1,j,a2,a3⟩<;>rcases s2 with⟨b1,b2⟩|⟨b1,k,b2,b3⟩
    . simp_all
    . grind
    . grind
    simp_all
def nm(s:List UInt8):Bool:=(cz s).getD false
theorem lexNm(s:List UInt8):cz s=some (nm s):=by
 obtain⟨r,h1,_⟩:=BZ s;unfold nm;rw[h1];rfl
theorem refNm(s:List UInt8):ja s=some (nm s):=by
 obtain⟨r,h1,h2⟩:=BZ s;unfold nm;rw[h1,h2];rfl
theorem nm_ne{s:List UInt8}(h:nm s=true):s≠[]:=by
 rintro rfl
 unfold nm at h;rw[cz]at h;simp at h
def idp(l:List Int)(names:List (List UInt8))(i:Nat):Bool:=
 decide (1<=l.getD i 0)&&decide (l.getD i 0<=1000)&&(decide (i=0)||decide (l.getD (i-1) 0<l.getD i 0))&&nm (names.getD i []) && !((names.take i).contains (names.getD i []))
def setOf(l:List (List UInt8)):List (List UInt8):=l.foldl addS []
theorem NX(ks:List (List UInt8))(a s:List UInt8):hasS (addS ks a) s=(hasS ks s||decide (a=s)):=by
 unfold addS;split
 . grind
 . simp[hasS,List.any_append]
theorem y3(l:List (List UInt8))(s:List UInt8):hasS (setOf l) s=l.contains s:=by
 have key:∀(l:List (List UInt8)) (ks:List (List UInt8)),hasS (l.foldl addS ks) s=(hasS ks s||l.contains s):=by
  intro l
  induction l with
  |nil=>intro ks;simp
  |cons a r ih=>
   intro ks;rw[List.foldl_cons,ih,NX,Bool.or_assoc]
   grind
 have:=key l []
 simpa[setOf,hasS]using this
theorem y4{l:List (List UInt8)}{i:Nat}(h:i<l.length):addS (setOf (l.take i)) (l.getD i [])=setOf (l.take (i+1)):=by
 unfold setOf;rw[List.take_add_one,List.foldl_append,List.getElem?_eq_getElem h,bZ h];rfl
theorem OO {γ:Type} (A Z I1 C I H N:Bool) (X Y:Option γ) (hI:I = true) (hI1:Z = true->I1 = true):
 (if(I1||(!((!A)&&Z)))=true then
  some (bif A then true else bif Z then C else false)>>=λt34=>
  if(I||(!(!t34)))=true then
   some (bif t34 then true else H)>>=λt42=>
   if(I||(!(!t42)))=true then
    (if(!t42)=true then some N else some false)>>=λr=>
    if(bif t42 then true else(!r))=true then X else(if I=true then Y else none)
   else none
  else none
 else none)=if(!A&&(!Z || !C)&&N && !H)=true then Y else X:=by
 subst hI;cases Z with
 |true=>have:=hI1 rfl;subst this;cases A<;>cases C<;>cases H<;>cases N<;>rfl
 |false=>cases A<;>cases I1<;>cases C<;>cases H<;>cases N<;>rfl
theorem DD{l:List Int}{names:List (List UInt8)}(hl:l.length<=reachBytes)(hn:names.length=l.length):∃r,nq (l,names)=some r/\(r=true↔(∀i,i<l.length->idp l names i=true)/\l.length<=16):=by
 rw[nq];have hr:=aZ hl;have hsc:=scan (λi=>fG (l,names,l,(l.length:Int),(i:Int),setOf (names.take i))) l.length (idp l names) (.inl false) (.inr l)
  (λi hi=>by
   have hin:i<names.length:=by omega
   rw[fG,if_pos (by simp;omega),if_pos (aq hi)];simp only[aA];rw[lexNm,aC (by omega),y4 hin,y3];have hsub:0<i->subI .i64 (i:Int) 1=((i-1:Nat):Int):=by intro h;rw[jV (by omega) (by omega)];omega
   refine(OO (bif decide (l.getD i 0<1)then true else decide (1000<l.getD i 0)) (decide ((0:Int)<(i:Int))) (inR (subI .i64 (i:Int) 1) l.length) (decide (l.getD i 0<=l.getD (subI .i64 (i:Int) 1).toNat 0)) (inR (i:Int) names.length) ((names.take i).contains (names.getD i [])) (nm (names.getD i [])) _ _ (aq hin) (λhz=>?_)).trans ?_
   . have hpos:0<i:=by simp at hz;omega
     rw[hsub hpos];exact aq (by omega)
   . have:(!(bif decide (l.getD i 0<1)then true else decide (1000<l.getD i 0))&&(!(decide ((0:Int)<(i:Int))) || !(decide (l.getD i 0<=l.getD (subI .i64 (i:Int) 1).toNat 0)))&&nm (names.getD i []) && !((names.take i).contains (names.getD i [])))=idp l names i:=by
      unfold idp
      grind
     rw[this])
  (by rw[fG,if_neg (by simp)])
 have e0:fG (l,names,l,(l.length:Int),((0:Nat):Int),setOf (names.take 0))=fG (l,names,l,(l.length:Int),0,[]):=rfl;simp only[e0]at hsc;rcases hsc with⟨h1,h2⟩|⟨h1,j,h2,h3⟩
 . rw[h1];refine⟨decide ((l.length:Int)<=16),rfl,?_⟩
   grind
 . rw[h1];refine⟨false,rfl,?_⟩
   grind
theorem room8{k n:Nat}(hk:k<=16)(h:n*24<=reachBytes):room k n=true:=by
 unfold room bM aS;unfold reachBytes at h;simp only[Bool.and_eq_true,decide_eq_true_eq];have:(2*n+192)*k<=(2*n+192)*16:=Nat.mul_le_mul_left _ hk;omega
theorem kU{α:Type}(l:List α)(i:Nat)(d:α)(h:i<l.length):l.take i++[l.getD i d]=l.take (i+1):=by simp_all
theorem cf{α β:Type}(f:α->β)(l:List α)(i:Nat)(d:α)(e:β)(h:i<l.length):(l.map f).getD i e=f (l.getD i d):=by grind
theorem il{l:List (List UInt8)}{i:Nat}{s:List UInt8}(hi:i<=l.length):(l.take i).contains s=true↔∃k,k<i/\l.getD k []=s:=by
 rw[List.contains_iff_mem];constructor
 . intro h;obtain⟨k,hk,he⟩:=List.getElem_of_mem h;rw[List.length_take]at hk;refine⟨k,by omega,?_⟩
   grind
 . rintro ⟨k,hk,he⟩
   rw[<-he,bZ (by omega)];have:(l.take i)[k]'(by rw[List.length_take];omega)=l[k]:=List.getElem_take
   grind
def bef(l:List Int)(i:Nat):Int:=if i=0 then 0 else l.getD (i-1) 0
theorem B0 {l:List Int} {names:List (List UInt8)} {i:Nat} (hi:i<l.length) (hn:names.length = l.length):
 idp l names i=(decide (bef l i<l.getD i 0)&&decide (1<=l.getD i 0)&&decide (l.getD i 0<=1000)&&nm (names.getD i []) && !((names.take i).contains (names.getD i []))):=by
 unfold idp bef;generalize l.getD i 0=x;generalize l.getD (i-1) 0=y;generalize nm (names.getD i [])=a;generalize (names.take i).contains (names.getD i [])=b;by_cases h0:i=0
 . subst h0;by_cases h1:1<=x
   . have:decide ((0:Int)<x)=true:=by simp;omega
     simp[h1,this]
   . simp[h1]
 . simp only[h0,if_false,decide_false,Bool.false_or];by_cases h1:1<=x<;>by_cases h2:x<=1000<;>by_cases h3:y<x<;>simp[h1,h2,h3]
theorem y5(l:List aO)(hl:l.length*24<=reachBytes):∀(k i:Nat),i+k=l.length->gR (l,l,(l.length:Int),(i:Int),(l.map (·.ID)).take i,(l.map (·.Name)).take i)=some (l,l.map (·.ID),l.map (·.Name))
 |0,i,h=>by
  have:i=l.length:=by omega
  subst this;rw[gR,if_neg (by simp)];rw[List.take_of_length_le (by simp),List.take_of_length_le (by simp)]
 |k+1,i,h=>by
  have hr:l.length<9223372036854775807:=by unfold reachBytes at hl;omega
  have hi:i<l.length:=by omega
  rw[gR,if_pos (by simp;omega),if_pos (aq hi)];simp only[oZ4,oZ3,aA];rw[<-cf (·.ID) l i aT 0 hi,<-cf (·.Name) l i aT [] hi,kU _ _ _ (by simpa using hi),kU _ _ _ (by simpa using hi)];rw[if_pos (room8 (by omega) (by simp;omega)),if_pos (room8 (by omega) (by simp;omega)),aC (by omega)];exact y5 l hl k (i+1) (by omega)
theorem B1{l:List aO}(hl:l.length*24<=reachBytes):∃r,kB l=some r/\(r=true↔0<l.length/\(∀i,i<l.length->idp (l.map (·.ID)) (l.map (·.Name)) i=true)/\l.length<=16):=by
 have h:=y5 l hl l.length 0 (by omega);have h':gR (l,l,(l.length:Int),0,[],[])=some (l,l.map (·.ID),l.map (·.Name)):=h;rw[kB,h'];simp only[oZ4,oZ3];obtain⟨r,h1,h2⟩:=DD (l:=l.map (·.ID)) (names:=l.map (·.Name)) (by simp;unfold reachBytes at*;omega) (by simp);rw[List.length_map]at h2
 grind
theorem refId(a b:Int):mM (a,b)=some (decide (a<b)&&decide (1<=b)&&decide (b<=1000)):=by
 rw[mM]
 grind
theorem Ly (l:List aO) (hl:l.length<=reachBytes) (i:Nat) (hi:i<l.length):
 dX (l,(i:Int),0)=some (if((l.map (·.Name)).take i).contains ((l.map (·.Name)).getD i [])=true then .inl false else .inr (l,(i:Int))):=by
 have hr:=aZ hl;have hsc:=scan (λk=>dX (l,(i:Int),(k:Int))) i (λk=>!(decide ((l.getD k aT).Name=(l.getD i aT).Name))) (.inl false) (.inr (l,(i:Int)))
  (λk hk=>by
   rw[dX,if_pos (by simp;omega),if_pos (aq (by omega)),if_pos (aq hi),aC (by omega)]
   grind)
  (by rw[dX,if_neg (by simp)])
 have e0:dX (l,(i:Int),((0:Nat):Int))=dX (l,(i:Int),0):=rfl;simp only[e0]at hsc;rw[cf (·.Name) l i aT [] hi];rcases hsc with⟨h1,h2⟩|⟨h1,j,h2,h3⟩
 . rw[h1,if_neg];rw[il (by simp;omega)]
   rintro ⟨k,hk,he⟩
   rw[cf (·.Name) l k aT [] (by omega)]at he;have:=h2 k hk;rw[he]at this;simp at this
 . rw[h1,if_pos];rw[il (by simp;omega)];refine⟨j,h2,?_⟩;rw[cf (·.Name) l j aT [] (by omega)]
   simpa using h3
theorem OP{l:List aO}(hl:l.length<=reachBytes):∃r,lY l=some r/\(r=true↔0<l.length/\(∀i,i<l.length->idp (l.map (·.ID)) (l.map (·.Name)) i=true)/\l.length<=16):=by
 have hr:=aZ hl;have hsc:=scan (λi=>fl (l,bef (l.map (·.ID)) i,(i:Int))) l.length (idp (l.map (·.ID)) (l.map (·.Name))) (.inl false) (.inr l)
  (λi hi=>by
   rw[fl,if_pos (by simp;omega),if_pos (aq hi),refId,Ly l hl i hi,B0 (by simpa using hi) (by simp)];simp only[oZ4,oZ3,aA];rw[<-cf (·.ID) l i aT 0 hi,<-cf (·.Name) l i aT [] hi,refNm];generalize (decide (bef (l.map (·.ID)) i<(l.map (·.ID)).getD i 0)&&decide (1<=(l.map (·.ID)).getD i 0)&&decide ((l.map (·.ID)).getD i 0<=1000))=q
   rw[if_pos (by rw[aq hi];rfl)];cases q with
   |false=>rfl
   |true=>
    simp only[Bool.not_true,Bool.not_false,if_true,oZ3,Bool.true_and];cases nm ((l.map (·.Name)).getD i [])with
    |false=>rfl
    |true=>
     simp only[Bool.not_true,cond_false,Bool.false_eq_true,if_false,Bool.true_and];cases hc:((l.map (·.Name)).take i).contains ((l.map (·.Name)).getD i [])with
     |true=>simp
     |false=>
      simp only[Bool.false_eq_true,if_false,Bool.not_false,if_true];rw[if_pos (aq hi),aC (by omega)];have:bef (l.map (·.ID)) (i+1)=(l.getD i aT).ID:=by
       unfold bef
       grind
      grind)
  (by rw[fl,if_neg (by simp)])
 have e0:fl (l,bef (l.map (·.ID)) 0,((0:Nat):Int))=fl (l,0,0):=rfl;simp only[e0]at hsc;rw[lY];rcases hsc with⟨h1,h2⟩|⟨h1,j,h2,h3⟩
 . rw[h1];refine⟨_,rfl,?_⟩
   grind
 . rw[h1];refine⟨false,rfl,?_⟩
   grind
theorem MP{l:List aO}(hl:l.length*24<=reachBytes):∃r,kB l=some r/\lY l=some r:=by
 obtain⟨r,h1,h2⟩:=B1 hl;obtain⟨q,h3,h4⟩:=OP (l:=l) (by unfold reachBytes at*;omega)
 grind
structure OkT (t:ae):Prop where
 syms:t.Symbols.length*24<=reachBytes
 mems:t.Members.length*24<=reachBytes
 dv:∀m,m∈t.Members->OkV m.Default
theorem cr{n:Nat}(h:n*24<=reachBytes):n<=reachBytes:=by unfold reachBytes at*;omega
theorem Lz{a b:av}:a=b↔a.ID=b.ID/\a.Name=b.Name/\a.Type_=b.Type_/\a.Critical=b.Critical/\a.HasDefault=b.HasDefault/\a.Default=b.Default:=by cases a;cases b;simp
theorem dM(x:av):(⟨x.ID,x.Name,x.Type_,x.Critical,x.HasDefault,ab.eta x.Default⟩:av)=x:=by cases x;simp[ab.aD]
theorem fiveM{a b:av}:(bif bif bif bif decide (a.ID=b.ID)then decide (a.Name=b.Name)else false then decide (a.Type_=b.Type_)else false then eqB a.Critical b.Critical else false then eqB a.HasDefault b.HasDefault else false)=true↔a.ID=b.ID/\a.Name=b.Name/\a.Type_=b.Type_/\a.Critical=b.Critical/\a.HasDefault=b.HasDefault:=by
 simp only[Bool.cond_eq_ite,eqB]
 grind
theorem twoM {a b:av} {q:Bool} (hq:q = true ↔ a.ID = b.ID/\a.Name = b.Name/\a.Type_ = b.Type_/\a.Critical = b.Critical/\a.HasDefault = b.HasDefault) {x:Option Bool} (hx:Says x a.Default b.Default):
 Says (some q>>=λt37=>(if t37=true then x else some false)>>=λr=>some (bif t37 then r else false)) a b:=by
 obtain⟨rx,h1,h2⟩:=hx;subst h1;refine⟨q&&rx,by cases q<;>cases rx<;>rfl,?_⟩;rw[Lz,Bool.and_eq_true,hq,h2];constructor
 . rintro ⟨⟨a1,a2,a3,a4,a5⟩,a6⟩;exact⟨a1,a2,a3,a4,a5,a6⟩
 . rintro ⟨a1,a2,a3,a4,a5,a6⟩;exact⟨⟨a1,a2,a3,a4,a5⟩,a6⟩
theorem MQ{a:av}(h:OkV a.Default)(b:av):Says (mF (a,b)) a b:=by
 rw[mF];simp only[qV,ab.aD];exact twoM fiveM (qM h _)
theorem MR{a:av}(h:OkV a.Default)(b:av):Says (lU (a,b)) a b:=by
 rw[lU];simp only[qV,ab.aD];exact twoM fiveM (rB h _)
theorem yh {f:av×av->Option Bool} {γ:Type} {g:γ} {a b:List av} (hl:a.length = b.length) (ih:∀ x,x∈a->∀ y,Says (f (x,y)) x y) (L:Nat->Option (Bool ⊕ γ))
 (hstep:∀i,i<a.length->L i=(f (a.getD i af,b.getD i af)>>=λr=>if(!r)=true then some (.inl false)else L (i+1)))
 (hend:L a.length=some (.inr g)):(L 0=some (.inr g)/\a=b)\/(L 0=some (.inl false)/\a≠b):=by
 have hget:∀(i:Nat) (h1:i<a.length) (h2:i<b.length),Says (f (a.getD i af,b.getD i af)) a[i] b[i]:=by grind
 have hp:∀(i:Nat) (h1:i<a.length) (h2:i<b.length),(f (a.getD i af,b.getD i af)).getD false=true↔a[i]=b[i]:=by
  intro i h1 h2;obtain⟨r,h3,h4⟩:=hget i h1 h2
  grind
 have:=scan L a.length (λi=>(f (a.getD i af,b.getD i af)).getD false) (.inl false) (.inr g)
  (λi hi=>by
   obtain⟨r,h1,h2⟩:=hget i hi (by omega)
   grind) hend
 rcases this with⟨h1,h2⟩|⟨h1,j,h2,h3⟩
 . exact .inl ⟨h1,(ng hl hp).1 h2⟩
 . refine .inr ⟨h1,λe=>?_⟩;have:=(ng hl hp).2 e j h2;rw[h3]at this;cases this
theorem IV{a b:List av}(ha:a.length<=reachBytes)(hd:∀m,m∈a->OkV m.Default):Says (oT (a,b)) a b:=by
 rw[oT];by_cases hl:a.length=b.length
 . rw[if_neg (by simp;omega)];have hr:=aZ ha;have hs:=yh (g:=()) hl (f:=mF) (λx hx y=>MQ (hd x hx) y) (λi=>fe (b,a,(a.length:Int),(i:Int)))
    (λi hi=>by
     rw[fe,if_pos (by simp;omega),if_pos (aq hi)];simp only[oZ4,oZ3,aA,dM]
     rw[if_pos (aq (by omega)),aC (by omega)])
    (by rw[fe,if_neg (by simp)])
   have e0:fe (b,a,(a.length:Int),((0:Nat):Int))=fe (b,a,(a.length:Int),0):=rfl;simp only[e0]at hs;rcases hs with⟨h1,h2⟩|⟨h1,h2⟩
   . rw[h1];exact⟨true,rfl,by simp[h2]⟩
   . rw[h1];exact⟨false,rfl,by simp[h2]⟩
 . rw[if_pos (by simp;omega)];exact lj hl
theorem AY{a b:ae}:a=b↔a.Kind=b.Kind/\a.Name=b.Name/\a.Low=b.Low/\a.High=b.High/\a.Max=b.Max/\a.Key=b.Key/\a.Elem=b.Elem/\a.Open=b.Open/\a.Symbols=b.Symbols/\a.Members=b.Members:=by
 cases a;cases b
 grind
theorem P0 {a b:ae}:(bif bif bif bif bif bif bif decide (a.Kind = b.Kind) then decide (a.Name = b.Name) else false then decide (a.Low = b.Low) else false then decide (a.High = b.High) else false then decide (a.Max = b.Max) else false then decide (a.Key = b.Key) else false then decide (a.Elem = b.Elem) else false then eqB a.Open b.Open else false) = true ↔
 a.Kind=b.Kind/\a.Name=b.Name/\a.Low=b.Low/\a.High=b.High/\a.Max=b.Max/\a.Key=b.Key/\a.Elem=b.Elem/\a.Open=b.Open:=by
 simp only[Bool.cond_eq_ite,eqB];by_cases h1:a.Kind=b.Kind<;>by_cases h2:a.Name=b.Name<;>by_cases h3:a.Low=b.Low<;>by_cases h4:a.High=b.High<;>simp[h1,h2,h3,h4]
 by_cases h5:a.Max=b.Max<;>by_cases h6:a.Key=b.Key<;>by_cases h7:a.Elem=b.Elem<;>simp[h5,h6,h7]
theorem ca{a:ae}(h:OkT a)(b:ae):Says (bK (a,b)) a b:=by
 rw[bK];obtain⟨rs,s1,s2⟩:=PZ (a:=a.Symbols) (b:=b.Symbols) (cr h.syms);obtain⟨rm,m1,m2⟩:=IV (a:=a.Members) (b:=b.Members) (cr h.mems) h.dv;have e8:=P0 (a:=a) (b:=b)
 generalize (bif bif bif bif bif bif bif decide (a.Kind=b.Kind)then decide (a.Name=b.Name)else false then decide (a.Low=b.Low)else false then decide (a.High=b.High)else false then decide (a.Max=b.Max)else false then decide (a.Key=b.Key)else false then decide (a.Elem=b.Elem)else false then eqB a.Open b.Open else false)=q at e8⊢
 simp only[oZ4,oZ3];rw[s1,m1];refine⟨q&&rs&&rm,by cases q<;>cases rs<;>cases rm<;>rfl,?_⟩;rw[AY,Bool.and_eq_true,Bool.and_eq_true,e8,s2,m2]
 grind
theorem uL(a:ae):(⟨a.Kind,a.Name,a.Low,a.High,a.Max,a.Symbols,a.Members,a.Key,a.Elem,a.Open⟩:ae)=a:=by cases a;rfl
theorem fU{a:ae}(h:OkT a)(b:ae):Says (pe (a,b)) a b:=by
 rw[pe];simp only[uL];by_cases h5:(a.Kind=b.Kind/\a.Name=b.Name/\a.Low=b.Low/\a.High=b.High/\a.Max=b.Max/\a.Key=b.Key/\a.Elem=b.Elem/\a.Open=b.Open)/\a.Symbols.length=b.Symbols.length/\a.Members.length=b.Members.length
 . obtain⟨⟨e1,e2,e3,e4,e5,e6,e7,e8⟩,e9,e10⟩:=h5;rw[if_neg (by simp[e1,e2,e3,e4,e5,e6,e7,e8,e9,e10,eqB])];have hr:=aZ (cr h.syms);have hr2:=aZ (cr h.mems)
   have hsc:=scan (λi=>fi ((i:Int),a,b)) a.Symbols.length (λi=>eqI (a.Symbols.getD i aT).ID (b.Symbols.getD i aT).ID&&(eqS (a.Symbols.getD i aT).Name (b.Symbols.getD i aT).Name&&true)) (.inl false) (.inr (a,b))
    (λi hi'=>by
     rw[fi,if_pos (by simp;omega),if_pos (aq hi')];simp only[oZ4,oZ3,aA];rw[if_pos (aq (by omega)),aC (by omega)]
     grind)
    (by rw[fi,if_neg (by simp)])
   have h0:fi (((0:Nat):Int),a,b)=fi (0,a,b):=rfl;simp only[h0]at hsc;have hp:∀(i:Nat) (h1:i<a.Symbols.length) (h2:i<b.Symbols.length),(eqI (a.Symbols.getD i aT).ID (b.Symbols.getD i aT).ID&&(eqS (a.Symbols.getD i aT).Name (b.Symbols.getD i aT).Name&&true))=true↔a.Symbols[i]=b.Symbols[i]:=λi h1 h2=>by rw[bZ h1,bZ h2];exact DB
   rcases hsc with⟨g1,g2⟩|⟨g1,j,g2,g3⟩
   . have hsy:=(ng e9 hp).1 g2;rw[g1];simp only[oZ4,oZ3];have hs:=yh (g:=()) e10 (f:=lU) (λx hx y=>MR (h.dv x hx) y) (λi=>fj ((i:Int),a,b))
      (λi hi=>by
       rw[fj,if_pos (by simp;omega),if_pos (aq hi)];simp only[oZ4,oZ3,aA,dM]
       rw[if_pos (aq (by omega)),aC (by omega)])
      (by rw[fj,if_neg (by simp)])
     have e0:fj (((0:Nat):Int),a,b)=fj (0,a,b):=rfl;simp only[e0]at hs;rcases hs with⟨k1,k2⟩|⟨k1,k2⟩
     . rw[k1];refine⟨true,rfl,?_⟩;rw[AY]
       grind
     . rw[k1];refine⟨false,rfl,?_⟩
       grind
   . rw[g1];refine⟨false,rfl,?_⟩
     grind
 . rw[if_pos]
   . refine⟨false,rfl,?_⟩
     grind
   . simp only[Bool.cond_eq_ite,eqB];by_cases q1:a.Kind=b.Kind<;>by_cases q2:a.Name=b.Name<;>by_cases q3:a.Low=b.Low<;>by_cases q4:a.High=b.High<;>simp[q1,q2,q3,q4]
     grind
def gg(v:ab):Bool:=(dK (v,aj)).getD false
theorem OQ{v:ab}(h:OkV v):dK (v,aj)=some (gg v):=by
 obtain⟨r,h1,h2⟩:=qM h aj;unfold gg;rw[h1];rfl
theorem OR{v:ab}(h:OkV v):cu (v,aj)=some (gg v):=by
 obtain⟨r,h1,h2⟩:=qM h aj;obtain⟨q,h3,h4⟩:=rB h aj;unfold gg;rw[h1,h3]
 grind
theorem NY{v:ab}(h:OkV v):qg v=some (gg v):=by
 rw[qg,ab.aD];have:=OQ h;unfold aj at this
 grind
def badM(union:Bool)(m:av):Bool:=(union&&(m.Critical||m.HasDefault))||(m.Critical&&m.HasDefault)||(!m.HasDefault && !gg m.Default)
theorem aB{α:Type}{l:List α}{i:Nat}(h:i<l.length)(d:α):l.getD i d∈l:=by grind
theorem y6{t:ae}(h:OkT t):∃r,jr t=some r/\(r=true↔(∀i,i<t.Members.length->badM (decide (t.Kind=6)) (t.Members.getD i af)=false)/\(t.Kind=5\/0<t.Members.length)/\(∀i,i<t.Members.length->idp (t.Members.map (·.ID)) (t.Members.map (·.Name)) i=true)/\t.Members.length<=16):=by
 have hr:t.Members.length<9223372036854775807:=aZ (cr h.mems);have hsc:=scan (λi=>fC (t.Members,(t.Members.length:Int),(i:Int),t,(t.Members.map (·.ID)).take i,(t.Members.map (·.Name)).take i)) t.Members.length (λi=>!(badM (decide (t.Kind=6)) (t.Members.getD i af))) (.inl false) (.inr (t,t.Members.map (·.ID),t.Members.map (·.Name)))
  (λi hi=>by
   have hz:=NY (h.dv _ (aB hi af));rw[fC,if_pos (by simp;omega),if_pos (aq hi)];simp only[oZ4,oZ3,aA,ab.aD];rw[<-cf (·.ID) t.Members i af 0 hi,<-cf (·.Name) t.Members i af [] hi,kU _ _ _ (by simpa using hi),kU _ _ _ (by simpa using hi)];have hb:((t.Members.map (·.ID)).take (i+1)).length*24<=reachBytes:=by
    refine Nat.le_trans (Nat.mul_le_mul_right _ ?_) h.mems;simp;omega
   have hb2:((t.Members.map (·.Name)).take (i+1)).length*24<=reachBytes:=by grind
   rw[if_pos (room8 (by omega) hb),if_pos (room8 (by omega) hb2),aC (by omega),hz];unfold badM
   grind)
  (by
   rw[fC,if_neg (by simp)]
   rw[List.take_of_length_le (by simp),List.take_of_length_le (by simp)])
 have e0:fC (t.Members,(t.Members.length:Int),((0:Nat):Int),t,(t.Members.map (·.ID)).take 0,(t.Members.map (·.Name)).take 0)=fC (t.Members,(t.Members.length:Int),0,t,[],[]):=rfl;simp only[e0]at hsc;rw[jr];obtain⟨r,h1,h2⟩:=DD (l:=t.Members.map (·.ID)) (names:=t.Members.map (·.Name)) (by simpa using cr h.mems) (by simp);rw[List.length_map]at h2
 rcases hsc with⟨g1,g2⟩|⟨g1,j,g2,g3⟩
 . rw[g1];simp only[oZ4,oZ3];rw[h1];refine⟨(bif decide (t.Kind=5)then true else decide (0<((t.Members.map (·.ID)).length:Int)))&&r,?_,?_⟩
   . grind
   grind
 grind
theorem LA (l:List av) (record:Bool) (hl:l.length<=reachBytes) (i:Nat) (hi:i<l.length):
 dY (l,record,(i:Int),0,l.getD i af)=some (if((l.map (·.Name)).take i).contains ((l.map (·.Name)).getD i [])=true then .inl false else .inr (l,record,(i:Int),l.getD i af)):=by
 have hr:=aZ hl;have hsc:=scan (λk=>dY (l,record,(i:Int),(k:Int),l.getD i af)) i (λk=>!(decide ((l.getD k af).Name=(l.getD i af).Name))) (.inl false) (.inr (l,record,(i:Int),l.getD i af))
  (λk hk=>by
   rw[dY,if_pos (by simp;omega),if_pos (aq (by omega)),aC (by omega)];simp only[aA,dM]
   grind)
  (by rw[dY,if_neg (by simp),dM])
 have e0:dY (l,record,(i:Int),((0:Nat):Int),l.getD i af)=dY (l,record,(i:Int),0,l.getD i af):=rfl;simp only[e0]at hsc;rw[cf (·.Name) l i af [] hi];rcases hsc with⟨h1,h2⟩|⟨h1,j,h2,h3⟩
 . rw[h1,if_neg];rw[il (by simp;omega)]
   rintro ⟨k,hk,he⟩
   rw[cf (·.Name) l k af [] (by omega)]at he;have:=h2 k hk;rw[he]at this;simp at this
 . rw[h1,if_pos];rw[il (by simp;omega)];refine⟨j,h2,?_⟩;rw[cf (·.Name) l j af [] (by omega)]
   simpa using h3
theorem LF{l:List av}{record:Bool}(hl:l.length<=reachBytes)(hd:∀m,m∈l->OkV m.Default):∃r,j9 (l,record)=some r/\(r=true↔(∀i,i<l.length->badM (!record) (l.getD i af)=false)/\(record=true\/0<l.length)/\(∀i,i<l.length->idp (l.map (·.ID)) (l.map (·.Name)) i=true)/\l.length<=16):=by
 have hr:=aZ hl;have hsc:=scan (λi=>fm (l,record,bef (l.map (·.ID)) i,(i:Int))) l.length (λi=>idp (l.map (·.ID)) (l.map (·.Name)) i && !(badM (!record) (l.getD i af))) (.inl false) (.inr (l,record))
  (λi hi=>by
   have hz:=OR (hd _ (aB hi af));unfold aj at hz;rw[fm,if_pos (by simp;omega),if_pos (aq hi)];simp only[oZ4,oZ3,aA,ab.aD,dM,B0 (l:=l.map (·.ID)) (names:=l.map (·.Name)) (i:=i) (by simpa using hi) (by simp)];rw[LA l record hl i hi,hz];have hbef:bef (l.map (·.ID)) (i+1)=(l.getD i af).ID:=by
    unfold bef
    grind
   rw[<-cf (·.ID) l i af 0 hi,<-cf (·.Name) l i af [] hi,refId,refNm];simp only[oZ3];generalize (decide (bef (l.map (·.ID)) i<(l.map (·.ID)).getD i 0)&&decide (1<=(l.map (·.ID)).getD i 0)&&decide ((l.map (·.ID)).getD i 0<=1000))=q;cases q with
   |false=>simp
   |true=>
    simp only[Bool.not_true,Bool.not_false,if_true,oZ3,Bool.true_and];cases nm ((l.map (·.Name)).getD i [])with
    |false=>simp
    |true=>
     simp only[Bool.not_true,Bool.true_and,Bool.or_false,cond_false];unfold badM;cases record<;>cases (l.getD i af).Critical<;>cases (l.getD i af).HasDefault<;>cases gg (l.getD i af).Default <;>
      simp only[Bool.not_true,Bool.not_false,Bool.or_self,Bool.and_self,Bool.or_true,Bool.true_or,Bool.and_true,Bool.and_false,Bool.false_and,Bool.true_and,Bool.false_or,Bool.or_false,cond_true,cond_false,if_true,if_false,Bool.false_eq_true,oZ3] <;>
      first
       |rfl
       |(cases hc:((l.map (·.Name)).take i).contains ((l.map (·.Name)).getD i [])with
        |true=>simp
        |false=>
         simp only[Bool.false_eq_true,if_false,Bool.not_false,if_true];rw[aC (by omega),hbef]
         try rfl))
  (by rw[fm,if_neg (by simp)])
 have e0:fm (l,record,bef (l.map (·.ID)) 0,((0:Nat):Int))=fm (l,record,0,0):=rfl;simp only[e0]at hsc;rw[j9];rcases hsc with⟨h1,h2⟩|⟨h1,j,h2,h3⟩
 . rw[h1];refine⟨_,rfl,?_⟩
   grind
 . rw[h1];refine⟨false,rfl,?_⟩
   grind
theorem zX{t:ae}(h:OkT t)(hk:t.Kind=5\/t.Kind=6):∃r,jr t=some r/\j9 (t.Members,decide (t.Kind=5))=some r:=by
 obtain⟨r,h1,h2⟩:=y6 h;obtain⟨q,h3,h4⟩:=LF (l:=t.Members) (record:=decide (t.Kind=5)) (cr h.mems) h.dv;have hu:(!(decide (t.Kind=5)))=decide (t.Kind=6):=by grind
 grind
theorem OkT.plain{k l h m kk e:Int}{n:List UInt8}{S:List aO}{Ms:List av}{o:Bool}(hS:S.length*24<=reachBytes)(hM:Ms.length*24<=reachBytes)(hd:∀x,x∈Ms->OkV x.Default):OkT ⟨k,n,l,h,m,S,Ms,kk,e,o⟩:=⟨hS,hM,hd⟩
theorem form1{N:List UInt8}{L H M K E:Int}{S:List aO}{Ms:List av}{O:Bool}(h:OkT (⟨1,N,L,H,M,S,Ms,K,E,O⟩:ae)):∃r,br (⟨1,N,L,H,M,S,Ms,K,E,O⟩:ae)=some r/\bG (⟨1,N,L,H,M,S,Ms,K,E,O⟩:ae)=some r/\(r=true->N=[]):=by
 obtain⟨a,a1,a2⟩:=ca (a:=(⟨0,N,L,H,M,S,Ms,K,E,O⟩:ae)) ⟨h.syms,h.mems,h.dv⟩ (⟨0,[],0,0,0,[],[],0,0,false⟩:ae);obtain⟨b,b1,b2⟩:=fU h (⟨1,[],0,0,0,[],[],0,0,false⟩:ae);have hab:a=b:=by grind
 subst hab;refine⟨a,by simp[br,a1],by simp[bG,dB,cn,b1];try (cases a<;>rfl),λhr=>?_⟩
 grind
theorem form2{N:List UInt8}{L H M K E:Int}{S:List aO}{Ms:List av}{O:Bool}(h:OkT (⟨2,N,L,H,M,S,Ms,K,E,O⟩:ae)):∃r,br (⟨2,N,L,H,M,S,Ms,K,E,O⟩:ae)=some r/\bG (⟨2,N,L,H,M,S,Ms,K,E,O⟩:ae)=some r/\(r=true->N=[]):=by
 obtain⟨a,a1,a2⟩:=ca (a:=(⟨0,N,0,0,M,S,Ms,K,E,O⟩:ae)) ⟨h.syms,h.mems,h.dv⟩ (⟨0,[],0,0,0,[],[],0,0,false⟩:ae);obtain⟨b,b1,b2⟩:=fU h (⟨2,[],L,H,0,[],[],0,0,false⟩:ae);have hab:a=b:=by grind
 subst hab;refine⟨decide (L<=H)&&a,?_,?_,λhr=>?_⟩
 . simp only[br]
   grind
 . simp only[bG];generalize decide (L<=H)=q;simp[dB,cn,b1]
   grind
 grind
theorem form3{N:List UInt8}{L H M K E:Int}{S:List aO}{Ms:List av}{O:Bool}(h:OkT (⟨3,N,L,H,M,S,Ms,K,E,O⟩:ae)):∃r,br (⟨3,N,L,H,M,S,Ms,K,E,O⟩:ae)=some r/\bG (⟨3,N,L,H,M,S,Ms,K,E,O⟩:ae)=some r/\(r=true->N=[]):=by
 obtain⟨a,a1,a2⟩:=ca (a:=(⟨0,N,L,H,0,S,Ms,K,E,O⟩:ae)) ⟨h.syms,h.mems,h.dv⟩ (⟨0,[],0,0,0,[],[],0,0,false⟩:ae);obtain⟨b,b1,b2⟩:=fU h (⟨3,[],0,0,M,[],[],0,0,false⟩:ae);have hab:a=b:=by grind
 subst hab;refine⟨(bif decide (0<=M)then decide (M<=200)else false)&&a,?_,?_,λhr=>?_⟩
 . simp only[br]
   grind
 . simp only[bG];generalize (bif decide (0<=M)then decide (M<=200)else false)=q;simp[dB,cn,b1]
   grind
 grind
theorem form4{N:List UInt8}{L H M K E:Int}{S:List aO}{Ms:List av}{O:Bool}(h:OkT (⟨4,N,L,H,M,S,Ms,K,E,O⟩:ae)):∃r,br (⟨4,N,L,H,M,S,Ms,K,E,O⟩:ae)=some r/\bG (⟨4,N,L,H,M,S,Ms,K,E,O⟩:ae)=some r/\(r=true->N≠[]):=by
 obtain⟨a,a1,a2⟩:=ca (a:=(⟨0,[],L,H,M,[],Ms,K,E,false⟩:ae)) ⟨(by simp),h.mems,h.dv⟩ (⟨0,[],0,0,0,[],[],0,0,false⟩:ae);obtain⟨b,b1,b2⟩:=fU h (⟨4,N,0,0,0,S,[],0,0,O⟩:ae);have hab:a=b:=by grind
 subst hab;obtain⟨q,q1,q2⟩:=MP (l:=S) h.syms;refine⟨nm N&&q&&a,?_,?_,λhr=>?_⟩
 . simp only[br];simp[a1,q1,lexNm]
   grind
 . simp only[bG]
   try simp at q2
   simp[dB,cn,b1,q2,refNm]
   grind
 . simp only[Bool.and_eq_true]at hr;exact nm_ne hr.1.1
theorem form5{N:List UInt8}{L H M K E:Int}{S:List aO}{Ms:List av}{O:Bool}(h:OkT (⟨5,N,L,H,M,S,Ms,K,E,O⟩:ae)):∃r,br (⟨5,N,L,H,M,S,Ms,K,E,O⟩:ae)=some r/\bG (⟨5,N,L,H,M,S,Ms,K,E,O⟩:ae)=some r/\(r=true->N≠[]):=by
 obtain⟨a,a1,a2⟩:=ca (a:=(⟨0,[],L,H,M,S,[],K,E,(bif O then decide ((5:Int)=5)else false)⟩:ae)) ⟨h.syms,(by simp),(by simp)⟩ (⟨0,[],0,0,0,[],[],0,0,false⟩:ae);obtain⟨b,b1,b2⟩:=fU h (⟨5,N,0,0,0,[],Ms,0,0,false⟩:ae);have hab:a=b:=by grind
 subst hab;obtain⟨q,q1,q2⟩:=zX h (by simp);refine⟨nm N&&q&&a,?_,?_,λhr=>?_⟩
 . simp only[br]
   try simp at a1
   try simp at q1
   simp[a1,q1,lexNm]
   grind
 . simp only[bG]
   try simp at q2
   simp[dB,cn,b1,q2,refNm]
   grind
 . simp only[Bool.and_eq_true]at hr;exact nm_ne hr.1.1
theorem form6{N:List UInt8}{L H M K E:Int}{S:List aO}{Ms:List av}{O:Bool}(h:OkT (⟨6,N,L,H,M,S,Ms,K,E,O⟩:ae)):∃r,br (⟨6,N,L,H,M,S,Ms,K,E,O⟩:ae)=some r/\bG (⟨6,N,L,H,M,S,Ms,K,E,O⟩:ae)=some r/\(r=true->N≠[]):=by
 obtain⟨a,a1,a2⟩:=ca (a:=(⟨0,[],L,H,M,S,[],K,E,(bif O then decide ((6:Int)=5)else false)⟩:ae)) ⟨h.syms,(by simp),(by simp)⟩ (⟨0,[],0,0,0,[],[],0,0,false⟩:ae);obtain⟨b,b1,b2⟩:=fU h (⟨6,N,0,0,0,[],Ms,0,0,O⟩:ae);have hab:a=b:=by grind
 subst hab;obtain⟨q,q1,q2⟩:=zX h (by simp);refine⟨nm N&&q&&a,?_,?_,λhr=>?_⟩
 . simp only[br]
   try simp at a1
   try simp at q1
   simp[a1,q1,lexNm]
   grind
 . simp only[bG]
   try simp at q2
   simp[dB,cn,b1,q2,refNm]
   grind
 . simp only[Bool.and_eq_true]at hr;exact nm_ne hr.1.1
theorem form7{N:List UInt8}{L H M K E:Int}{S:List aO}{Ms:List av}{O:Bool}(h:OkT (⟨7,N,L,H,M,S,Ms,K,E,O⟩:ae)):∃r,br (⟨7,N,L,H,M,S,Ms,K,E,O⟩:ae)=some r/\bG (⟨7,N,L,H,M,S,Ms,K,E,O⟩:ae)=some r/\(r=true->N=[]):=by
 obtain⟨a,a1,a2⟩:=ca (a:=(⟨0,N,L,H,0,S,Ms,K,0,O⟩:ae)) ⟨h.syms,h.mems,h.dv⟩ (⟨0,[],0,0,0,[],[],0,0,false⟩:ae);obtain⟨b,b1,b2⟩:=fU h (⟨7,[],0,0,M,[],[],0,E,false⟩:ae);have hab:a=b:=by grind
 subst hab;refine⟨(bif decide (0<=M)then decide (M<=50)else false)&&a,?_,?_,λhr=>?_⟩
 . simp only[br]
   grind
 . simp only[bG];generalize (bif decide (0<=M)then decide (M<=50)else false)=q;simp[dB,cn,b1]
   grind
 grind
theorem form8{N:List UInt8}{L H M K E:Int}{S:List aO}{Ms:List av}{O:Bool}(h:OkT (⟨8,N,L,H,M,S,Ms,K,E,O⟩:ae)):∃r,br (⟨8,N,L,H,M,S,Ms,K,E,O⟩:ae)=some r/\bG (⟨8,N,L,H,M,S,Ms,K,E,O⟩:ae)=some r/\(r=true->N=[]):=by
 obtain⟨a,a1,a2⟩:=ca (a:=(⟨0,N,L,H,0,S,Ms,0,0,O⟩:ae)) ⟨h.syms,h.mems,h.dv⟩ (⟨0,[],0,0,0,[],[],0,0,false⟩:ae);obtain⟨b,b1,b2⟩:=fU h (⟨8,[],0,0,M,[],[],K,E,false⟩:ae);have hab:a=b:=by grind
 subst hab;refine⟨(bif decide (0<=M)then decide (M<=50)else false)&&a,?_,?_,λhr=>?_⟩
 . simp only[br]
   grind
 . simp only[bG];generalize (bif decide (0<=M)then decide (M<=50)else false)=q;simp[dB,cn,b1]
   grind
 grind
theorem form9{N:List UInt8}{L H M K E:Int}{S:List aO}{Ms:List av}{O:Bool}(h:OkT (⟨9,N,L,H,M,S,Ms,K,E,O⟩:ae)):∃r,br (⟨9,N,L,H,M,S,Ms,K,E,O⟩:ae)=some r/\bG (⟨9,N,L,H,M,S,Ms,K,E,O⟩:ae)=some r/\(r=true->N=[]):=by
 obtain⟨a,a1,a2⟩:=ca (a:=(⟨0,N,L,H,M,S,Ms,K,0,O⟩:ae)) ⟨h.syms,h.mems,h.dv⟩ (⟨0,[],0,0,0,[],[],0,0,false⟩:ae);obtain⟨b,b1,b2⟩:=fU h (⟨9,[],0,0,0,[],[],0,E,false⟩:ae);have hab:a=b:=by grind
 subst hab;refine⟨a,by simp[br,a1],by simp[bG,dB,cn,b1];try (cases a<;>rfl),λhr=>?_⟩
 grind
def cG(k:Int):Bool:=bif bif decide (k=4)then true else decide (k=5)then true else decide (k=6)
theorem zY{t:ae}(h:OkT t):∃r,br t=some r/\bG t=some r/\(r=true->1<=t.Kind/\t.Kind<=9/\cG t.Kind=!(decide (t.Name=[]))):=by
 by_cases hk:1<=t.Kind/\t.Kind<=9
 . obtain⟨Kd,N,L,H,M,S,Ms,K,E,O⟩:=t;simp at hk;have:Kd=1\/Kd=2\/Kd=3\/Kd=4\/Kd=5\/Kd=6\/Kd=7\/Kd=8\/Kd=9:=by omega
   rcases this with rfl|rfl|rfl|rfl|rfl|rfl|rfl|rfl|rfl
   . grind[form1,cG]
   . grind[form2,cG]
   . grind[form3,cG]
   . grind[form4,cG]
   . grind[form5,cG]
   . grind[form6,cG]
   . grind[form7,cG]
   . grind[form8,cG]
   grind[form9,cG]
 . refine⟨false,?_,?_,λh=>by grind⟩
   . have e:∀k,1<=k->k<=9->¬t.Kind=k:=λk h1 h2 e=>hk (by omega)
     simp_all[br]
   . have e:(bif decide (t.Kind<1)then true else decide (9<t.Kind))=true:=by grind
     rw[bG,e];rfl
def usesL(t:ae):List Int:=t.Members.map (·.Type_)++(if t.Kind=8 then[t.Key]else[])++(if 7<=t.Kind then[t.Elem]else[])
theorem lK{k n:Nat}(hk:k<=16){m:Nat}(h:m*24<=reachBytes)(hn:n<=m+2):room k n=true:=by
 unfold room bM aS;unfold reachBytes at h;simp;have:(2*n+192)*k<=(2*n+192)*16:=Nat.mul_le_mul_left _ hk;omega
theorem y7(t:ae)(h:t.Members.length*24<=reachBytes):∀(k i:Nat),i+k=t.Members.length->jt (t.Members,(t.Members.length:Int),(i:Int),t,(t.Members.map (·.Type_)).take i)=some (t,t.Members.map (·.Type_))
 |0,i,hi=>by grind[jt,List.take_of_length_le]
 |k+1,i,hi=>by
  have hr:=aZ (cr h);have hlt:i<t.Members.length:=by omega
  rw[jt,if_pos (by grind),if_pos (aq hlt)];simp only[oZ4,oZ3,aA];rw[<-cf (·.Type_) _ i _ 0 hlt,kU _ _ _ (by grind),aC (by omega),if_pos (lK (by simp) h (by grind))];exact y7 t h k _ (by omega)
theorem OS{t:ae}(h:t.Members.length*24<=reachBytes):qt t=some (usesL t):=by
 have h0:=y7 t h t.Members.length 0 (by simp);rw[qt];unfold usesL;have r1:room 8 (t.Members.map (·.Type_)++[t.Key]).length=true:=lK (by simp) h (by simp);have r2:room 8 (t.Members.map (·.Type_)++[t.Key]++[t.Elem]).length=true:=lK (m:=t.Members.length) (by simp) h (by simp)
 grind
theorem y8(t:ae)(h:t.Members.length*24<=reachBytes):∀(k i:Nat),i+k=t.Members.length->iY ((i:Int),t,(t.Members.map (·.Type_)).take i)=some (t,t.Members.map (·.Type_))
 |0,i,hi=>by grind[iY,List.take_of_length_le]
 |k+1,i,hi=>by
  have hr:=aZ (cr h);have hlt:i<t.Members.length:=by omega
  rw[iY,if_pos (by grind),if_pos (aq hlt)];simp only[oZ4,oZ3,aA];rw[<-cf (·.Type_) _ i _ 0 hlt,kU _ _ _ (by grind),aC (by omega),if_pos (lK (by simp) h (by grind))];exact y8 t h k _ (by omega)
theorem OT{t:ae}(h:t.Members.length*24<=reachBytes)(hk:t.Kind<=9):pP t=some (usesL t):=by
 have h0:=y8 t h t.Members.length 0 (by simp);rw[pP];unfold usesL;have r1:room 8 (t.Members.map (·.Type_)++[t.Key]).length=true:=lK (by simp) h (by simp);have r2:room 8 (t.Members.map (·.Type_)++[t.Key]++[t.Elem]).length=true:=lK (m:=t.Members.length) (by simp) h (by simp)
 grind
theorem OU(k:Int):cn k=some (cG k):=rfl
def keyB(k:Int):Bool:=bif decide (1<=k)then decide (k<=4)else false
def outB(n:Nat)(u:Int):Bool:=bif decide (u<0)then true else decide ((n:Int)<=u)
def stepV(ts:List ae)(i:Nat):Option Int:=
 let t:=ts.getD i ag
 if !((br t).getD false)then some 1
 else if !(decide (t.Name=[]))&&((ts.map (·.Name)).take i).contains t.Name then some 1
 else if(usesL t).any (outB ts.length)then some 4
 else if decide (t.Kind=8) && !(keyB (ts.getD t.Key.toNat ag).Kind)then some 1
 else none
theorem uM {ts:List ae} {i:Nat} {t:ae} {r:Bool} (hT:ts.getD i ag = t) (f1:br t = some r):
 stepV ts i=if(!r)=true then some 1 else if(!(decide (t.Name=[]))&&((ts.map (·.Name)).take i).contains t.Name)=true then some 1 else if(usesL t).any (outB ts.length)=true then some 4 else if(decide (t.Kind=8) && !(keyB (ts.getD t.Key.toNat ag).Kind))=true then some 1 else none:=by
 grind[stepV]
theorem AZ {γ:Type} (L:Nat->Option γ) (l:List Int) (q:Int->Bool) (bad good:γ) (hstep:∀ i,i<l.length->L i = if q (l.getD i 0) = true then some bad else L (i+1)) (hend:L l.length = some good):
 L 0=some (if l.any q=true then bad else good):=by
 have:=scan L l.length (λi=>!(q (l.getD i 0))) bad _ (λi hi=>by grind) hend
 grind[List.getElem_of_mem]
theorem zZ{t:ae}(h:t.Members.length*24<=reachBytes):(usesL t).length<9223372036854775807:=by
 grind[usesL,reachBytes]
theorem P4 {L:Nat->Option (Int ⊕ Unit)} {L':Nat->Option (Int ⊕ Unit)} {n:Nat} {step:Nat->Option Int}
 (h:∀i,i<n->L i=match step i with|some e=>some (.inl e)|none=>L (i+1)) (he:L n=some (.inr ()))
 (h':∀i,i<n->L' i=match step i with|some e=>some (.inl e)|none=>L' (i+1)) (he':L' n=some (.inr ())):∃o,L 0=some o/\L' 0=some o/\((o= .inr ()/\∀i,i<n->step i=none)\/∃i e,i<n/\step i=some e/\o= .inl e):=by
 have key:∀k i,i+k=n->∃o,L i=some o/\L' i=some o/\((o= .inr ()/\∀m,i<=m->m<n->step m=none)\/∃m e,m<n/\step m=some e/\o= .inl e):=by
  intro k
  induction k with
  |zero=>grind
  |succ k ih=>
   intro i hi;rw[h' i (by omega)];cases hst:step i with
   |some e=>grind
   |none=>
    obtain⟨o,o1,o2,o3⟩:=ih (i+1) (by omega)
    grind
 obtain⟨o,o1,o2,o3⟩:=key n 0 (by simp)
 grind
theorem DE{ts:List ae}{t:ae}(hu:(usesL t).any (outB ts.length)=false)(h8:t.Kind=8):inR t.Key ts.length=true:=by
 grind[usesL,outB,inR]
theorem P8 (ts:List ae) (t:ae) (i:Nat) (hi:i<ts.length) (hr:ts.length<9223372036854775807):
 ei ((i:Int),0,ts,t.Kind,t.Name,t.Low,t.High,t.Max,t.Symbols,t.Members,t.Key,t.Elem,t.Open)=some (if(cG t.Kind&&((ts.map (·.Name)).take i).contains t.Name)=true then .inl 1 else .inr ((i:Int),ts,t.Kind,t.Name,t.Low,t.High,t.Max,t.Symbols,t.Members,t.Key,t.Elem,t.Open)):=by
 have hsc:=scan (λk=>ei (i,k,ts,t.Kind,t.Name,t.Low,t.High,t.Max,t.Symbols,t.Members,t.Key,t.Elem,t.Open)) i (λk=>!(bif cG t.Kind then decide ((ts.getD k ag).Name=t.Name)else false)) (.inl 1) (.inr (i,ts,t.Kind,t.Name,t.Low,t.High,t.Max,t.Symbols,t.Members,t.Key,t.Elem,t.Open))
  (λk hk=>by
   rw[ei,if_pos (by grind),OU];simp only[oZ4,oZ3];rw[if_pos (by grind[aq]),aC (by omega)]
   grind)
  (by simp_all[ei])
 have e0:ei ((i:Int),(0:Nat),ts,t.Kind,t.Name,t.Low,t.High,t.Max,t.Symbols,t.Members,t.Key,t.Elem,t.Open)=ei ((i:Int),0,ts,t.Kind,t.Name,t.Low,t.High,t.Max,t.Symbols,t.Members,t.Key,t.Elem,t.Open):=rfl;simp at hsc;rcases hsc with⟨h1,h2⟩|⟨h1,j,h2,h3⟩
 . rw[h1,if_neg];rw[Bool.and_eq_true,il (by grind)]
   grind
 . rw[h1,if_pos];rw[Bool.and_eq_true,il (by grind)];cases hn:cG _ with
   |false=>grind
   |true=>
    refine⟨rfl,j,h2,?_⟩
    grind
theorem P9 (ts:List ae) (t:ae) (i:Nat) (l:List Int) (hl:l.length<9223372036854775807):
 gu ((i:Int),l,0,ts,t.Kind,t.Name,t.Low,t.High,t.Max,t.Symbols,t.Members,t.Key,t.Elem,t.Open)=some (if l.any (outB ts.length)=true then .inl 4 else .inr ((i:Int),ts,t.Kind,t.Name,t.Low,t.High,t.Max,t.Symbols,t.Members,t.Key,t.Elem,t.Open)):=
 AZ (λj=>gu (i,l,j,ts,t.Kind,t.Name,t.Low,t.High,t.Max,t.Symbols,t.Members,t.Key,t.Elem,t.Open)) l _ _ _
  (λj hj=>by
   rw[gu,if_pos (by grind),if_pos (aq hj)];simp only[oZ4,oZ3];rw[if_pos (by grind[aq]),aC (by omega)]
   rfl)
  (by grind[gu])
theorem LH{s:au}(hs:s.Types.length<=reachBytes)(ht:∀t,t∈s.Types->OkT t):∃e,im s=some e/\gV s=some e/\(e=0->s.Types.length<=32/\∀i,i<s.Types.length->stepV s.Types i=none)/\((s.Types.length<=32/\∀i,i<s.Types.length->stepV s.Types i=none)->e=0)/\e≠12:=by
 rw[im,gV];by_cases h32:32<s.Types.length
 . exact⟨3,by grind,by grind,λh=>(by grind),λh=>absurd h.1 (by omega),by simp⟩
 . rw[if_neg (by grind),if_neg (by grind)];have hr:s.Types.length<9223372036854775807:=by omega
   have:=P4 (L:=λi=>ib (s.Types,(s.Types.length:Int),(i:Int),s.Types,setOf ((s.Types.map (·.Name)).take i))) (L':=λi=>gB ((i:Int),s.Types)) (n:=s.Types.length) (step:=stepV s.Types)
    (λi hi=>by
     have hok:=ht _ (aB hi ag);obtain⟨r,f1,f2,f3⟩:=zY hok;rw[ib,if_pos (by grind),if_pos (aq hi)];simp only[oZ4,oZ3,aA];generalize hT:s.Types.getD i ag=t at*;rw[uM hT f1,f1];simp only[oZ3,y3];cases r with
     |false=>rfl
     |true=>
      by_cases hd:(!(decide (t.Name=[]))&&((s.Types.map (·.Name)).take i).contains t.Name)=true
      . grind
      . have hd':¬((bif (!(decide (t.Name=[])))then((s.Types.map (·.Name)).take i).contains t.Name else false)=true):=by grind
        rw[if_neg (show ¬((bif (!true)then true else bif (!(decide (t.Name=[])))then((s.Types.map (·.Name)).take i).contains t.Name else false)=true)from hd'),if_neg hd,OS hok.mems];simp only[oZ3];have hul:=zZ hok.mems
        have hin:=AZ (λj=>fD (s.Types,(s.Types.length:Int),(i:Int),usesL t,((usesL t).length:Int),(j:Int),s.Types,addS (setOf ((s.Types.map (·.Name)).take i)) t.Name,t.Kind,t.Name,t.Low,t.High,t.Max,t.Symbols,t.Members,t.Key,t.Elem,t.Open)) (usesL t) (outB s.Types.length) (.inl 4)
         (.inr (s.Types,(s.Types.length:Int),(i:Int),s.Types,addS (setOf ((s.Types.map (·.Name)).take i)) t.Name,t.Kind,t.Name,t.Low,t.High,t.Max,t.Symbols,t.Members,t.Key,t.Elem,t.Open))
         (λj hj=>by
          rw[fD,if_pos (by grind),if_pos (aq hj),aC (by omega)]
          rfl)
         (by simp_all[fD,if_neg])
        have e0:fD (s.Types,(s.Types.length:Int),(i:Int),usesL t,((usesL t).length:Int),((0:Nat):Int),s.Types,addS (setOf ((s.Types.map (·.Name)).take i)) t.Name,t.Kind,t.Name,t.Low,t.High,t.Max,t.Symbols,t.Members,t.Key,t.Elem,t.Open)=fD (s.Types,(s.Types.length:Int),(i:Int),usesL t,((usesL t).length:Int),0,s.Types,addS _ t.Name,t.Kind,t.Name,t.Low,t.High,t.Max,t.Symbols,t.Members,t.Key,t.Elem,t.Open):=rfl
        rw[<-e0,hin];cases hu:(usesL t).any (outB s.Types.length)with
        |true=>rfl
        |false=>
         simp only[Bool.false_eq_true,if_false,oZ3];have hsucc:addS (setOf ((s.Types.map (·.Name)).take i)) t.Name=setOf ((s.Types.map (·.Name)).take (i+1)):=by
          grind[y4]
         rw[hsucc,aC (by omega)];by_cases h8:t.Kind=8
         . have hk:=DE hu h8;simp only[h8,decide_true,cond_true,Bool.true_and,keyB]
           grind
         grind)
    (by simp_all[ib,if_neg])
    (λi hi=>by
     have hok:=ht _ (aB hi ag);obtain⟨r,f1,f2,f3⟩:=zY hok;rw[gB,if_pos (by grind),if_pos (aq hi)];simp only[oZ4,oZ3,aA];generalize hT:s.Types.getD i ag=t at*;rw[uM hT f1,f2,P8 s.Types t i hi hr];simp only[oZ3];cases r with
     |false=>rfl
     |true=>
      obtain⟨k1,k2,k3⟩:=f3 rfl;rw[if_neg (show ¬((!true)=true) by simp),k3];cases hd:(!(decide (t.Name=[]))&&((s.Types.map (·.Name)).take i).contains t.Name)with
      |true=>rfl
      |false=>
       simp only[Bool.false_eq_true,if_false,uL];rw[OT hok.mems k2];simp only[oZ3];rw[P9 s.Types t i (usesL t) (zZ hok.mems)];cases hu:(usesL t).any (outB s.Types.length)with
       |true=>rfl
       |false=>
        simp only[Bool.false_eq_true,if_false,oZ3];rw[aC (by omega)];by_cases h8:t.Kind=8
        . have hk:=DE hu h8;rw[if_pos (by grind)];simp only[h8,decide_true,if_true,lV,oZ3,cond_true,Bool.true_and];show(if(!(keyB (s.Types.getD t.Key.toNat ag).Kind))=true then some (.inl 1)else gB (((i+1:Nat):Int),s.Types))=_
          grind
        grind)
    (by simp_all[gB,if_neg])
   obtain⟨o,h1,h2,h3⟩:=this;have h1':ib (s.Types,(s.Types.length:Int),0,s.Types,[])=some o:=h1;rcases h3 with⟨rfl,h4⟩|⟨i,e,h4,h5,rfl⟩
   . simp_all
   grind[stepV]
theorem nD {γ:Type} (L:Nat->Option γ) (n:Nat) (q:Nat->Bool) (hit:Nat->γ) (miss:γ) (hstep:∀ i,i<n->L i = if q i = true then some (hit i) else L (i+1)) (hend:L n = some miss):
 (∃j,j<n/\q j=true/\(∀k,k<j->q k=false)/\L 0=some (hit j))\/((∀k,k<n->q k=false)/\L 0=some miss):=by
 have key:∀k i,i+k=n->(∀m,m<i->q m=false)->L 0=L i->(∃j,j<n/\q j=true/\(∀k,k<j->q k=false)/\L 0=some (hit j))\/((∀k,k<n->q k=false)/\L 0=some miss):=by
  intro k
  induction k with
  |zero=> intro i hi hm h0; have:i = n:= by omega
          subst this;exact .inr ⟨hm,by rw[h0,hend]⟩
  |succ k ih=>
   intro i hi hm h0;rw[hstep i (by omega)]at h0
   grind
 exact key n 0 (by omega) (λm hm=>by omega) rfl
def jY(l:List av)(id:Int)(r:Int×Bool):Prop:=(∃j:Nat,j<l.length/\(l.getD j af).ID=id/\(∀k,k<j->(l.getD k af).ID≠id)/\r=((j:Int),true))\/((∀k,k<l.length->(l.getD k af).ID≠id)/\r=(0,false))
theorem tH{l:List av}{id:Int}{r q:Int×Bool}(h1:jY l id r)(h2:jY l id q):r=q:=by
 rcases h1 with⟨j,a1,a2,a3,rfl⟩|⟨a1,rfl⟩<;>rcases h2 with⟨k,b1,b2,b3,rfl⟩|⟨b1,rfl⟩
 . grind
 . grind
 . grind
 . rfl
theorem sU{t:ae}{id:Int}(hl:t.Members.length<9223372036854775807):∃r,bC (t,id)=some r/\jY t.Members id r:=by
 rw[bC,rX];have h:=nD (λi=>fg (t.Members,(t.Members.length:Int),(i:Int),id)) t.Members.length (λi=>decide ((t.Members.getD i af).ID=id)) (λi=>.inl ((i:Int),id)) (.inr id)
  (λi hi=>by
   rw[fg,if_pos (by simp;omega),if_pos (aq hi)];simp only[oZ4,oZ3,aA,dM,sD]
   rw[aC (by omega)])
  (by rw[fg,if_neg (by simp)])
 have e0:fg (t.Members,(t.Members.length:Int),((0:Nat):Int),id)=fg (t.Members,(t.Members.length:Int),0,id):=rfl;simp only[e0]at h;rcases h with⟨j,h1,h2,h3,h4⟩|⟨h1,h4⟩
 . rw[h4];refine⟨((j:Int),true),?_,.inl ⟨j,h1,by simpa using h2,λk hk=>by simpa using h3 k hk,rfl⟩⟩;have e1:maxI (j:Int) 0=(j:Int):=by unfold maxI;omega
   simp_all
 . rw[h4];exact⟨(0,false),rfl,.inr ⟨λk hk=>by simpa using h1 k hk,rfl⟩⟩
theorem wX{t:ae}{id:Int}(hl:t.Members.length<9223372036854775807):∃r,bO (t,id)=some r/\jY t.Members id r:=by
 rw[bO];have h:=nD (λi=>ft (id,(i:Int),t)) t.Members.length (λi=>decide ((t.Members.getD i af).ID=id)) (λi=>.inl ((i:Int),true)) (.inr ())
  (λi hi=>by
   rw[ft,if_pos (by simp;omega),if_pos (aq hi),aC (by omega)]
   grind)
  (by rw[ft,if_neg (by simp)])
 have e0:ft (id,((0:Nat):Int),t)=ft (id,0,t):=rfl;simp only[e0]at h;rcases h with⟨j,h1,h2,h3,h4⟩|⟨h1,h4⟩
 . rw[h4];exact⟨((j:Int),true),rfl,.inl ⟨j,h1,by simpa using h2,λk hk=>by simpa using h3 k hk,rfl⟩⟩
 . rw[h4];exact⟨(0,false),rfl,.inr ⟨λk hk=>by simpa using h1 k hk,rfl⟩⟩
theorem iv{t:ae}(id:Int)(hl:t.Members.length<9223372036854775807):∃r,bC (t,id)=some r/\bO (t,id)=some r/\jY t.Members id r:=by
 obtain⟨r,h1,h2⟩:=sU (id:=id) hl;obtain⟨q,h3,h4⟩:=wX (id:=id) hl;have:=tH h2 h4
 grind
def lL(l:List aO)(id:Int)(r:Int×Bool):Prop:=(∃j:Nat,j<l.length/\(l.getD j aT).ID=id/\(∀k,k<j->(l.getD k aT).ID≠id)/\r=((j:Int),true))\/((∀k,k<l.length->(l.getD k aT).ID≠id)/\r=(0,false))
theorem Kt{l:List aO}{id:Int}{r q:Int×Bool}(h1:lL l id r)(h2:lL l id q):r=q:=by
 rcases h1 with⟨j,a1,a2,a3,rfl⟩|⟨a1,rfl⟩<;>rcases h2 with⟨k,b1,b2,b3,rfl⟩|⟨b1,rfl⟩
 . grind
 . grind
 . grind
 . rfl
theorem nh{t:ae}(id:Int)(hl:t.Symbols.length<9223372036854775807):∃r,ju (t,id)=some r/\jc (t,id)=some r/\lL t.Symbols id r:=by
 rw[ju,rW,jc];have h:=nD (λi=>dU (t.Symbols,(t.Symbols.length:Int),(i:Int),id)) t.Symbols.length (λi=>decide ((t.Symbols.getD i aT).ID=id)) (λi=>.inl ((i:Int),id)) (.inr id)
  (λi hi=>by
   rw[dU,if_pos (by simp;omega),if_pos (aq hi)];simp only[oZ4,oZ3,aA,sB]
   rw[aC (by omega)])
  (by rw[dU,if_neg (by simp)])
 have e0:dU (t.Symbols,(t.Symbols.length:Int),((0:Nat):Int),id)=dU (t.Symbols,(t.Symbols.length:Int),0,id):=rfl;have g:=nD (λi=>ek (id,(i:Int),t)) t.Symbols.length (λi=>decide ((t.Symbols.getD i aT).ID=id)) (λi=>.inl ((i:Int),true)) (.inr ())
  (λi hi=>by
   rw[ek,if_pos (by simp;omega),if_pos (aq hi),aC (by omega)]
   grind)
  (by rw[ek,if_neg (by simp)])
 have g0:ek (id,((0:Nat):Int),t)=ek (id,0,t):=rfl;simp only[e0]at h;simp only[g0]at g;have hA:∃r,(dU (t.Symbols,(t.Symbols.length:Int),0,id)>>=λo=>match o with|.inl o_1=>some (o_1.1,o_1.2)|.inr o_2=>some ((-1),o_2))>>=(λr=>some (maxI r.1 0,decide (0<=r.1)))=some r/\lL t.Symbols id r:=by
  rcases h with⟨j,h1,h2,h3,h4⟩|⟨h1,h4⟩
  . rw[h4];refine⟨((j:Int),true),?_,.inl ⟨j,h1,by simpa using h2,λk hk=>by simpa using h3 k hk,rfl⟩⟩;have e1:maxI (j:Int) 0=(j:Int):=by unfold maxI;omega
    simp_all
  . rw[h4];exact⟨(0,false),rfl,.inr ⟨λk hk=>by simpa using h1 k hk,rfl⟩⟩
 have hB:∃r,(ek (id,0,t)>>=λo=>match o with|.inl o_1=>some (o_1.1,o_1.2)|.inr o_2=>some (0,false))=some r/\lL t.Symbols id r:=by
  rcases g with⟨j,h1,h2,h3,h4⟩|⟨h1,h4⟩
  . rw[h4];exact⟨((j:Int),true),rfl,.inl ⟨j,h1,by simpa using h2,λk hk=>by simpa using h3 k hk,rfl⟩⟩
  . rw[h4];exact⟨(0,false),rfl,.inr ⟨λk hk=>by simpa using h1 k hk,rfl⟩⟩
 obtain⟨r,a1,a2⟩:=hA;obtain⟨q,b1,b2⟩:=hB;have:=Kt a2 b2
 grind
def zig(n:Int):Int:=if 0<=n then 2*n else -2*n-1
theorem OV{a b:Int}(h:zig a=zig b):a=b:=by
 unfold zig at h;split at h<;>split at h<;>omega
def I64(n:Int):Prop:= -9223372036854775808<=n/\n<=9223372036854775807
theorem vr{n:Int}(h:I64 n):kg n=some (zig n):=by
 obtain⟨h1,h2⟩:=h;rw[kg];unfold zig;by_cases h0:0<=n
 . rw[if_pos (by simp[h0]),if_pos h0];obtain⟨k,rfl⟩:∃k:Nat,n=(k:Int):=⟨n.toNat,by omega⟩
   rw[wrpn (by omega)];have:=mulIn (a:=2) (b:=k) (by omega)
   grind
 . rw[if_neg (by simp[h0]),if_neg h0];rw[ct (by omega) (by omega),jV (by omega) (by omega)];obtain⟨k,hk⟩:∃k:Nat,0-(n+1)=(k:Int):=⟨(0-(n+1)).toNat,by omega⟩
   rw[hk,wrpn (by omega)];have h3:=mulIn (a:=2) (b:=k) (by omega);have h3':mulI .u64 2 (k:Int)=((2*k:Nat):Int):=h3;rw[h3'];have h4:=addIn (a:=2*k) (b:=1) (by omega)
   grind
theorem NZ(a:Nat)(h:a<18446744073709551616):xorI .u64 (a:Int) 0=(a:Int):=by
 have e:(BitVec.ofInt 64 (a:Int) ^^^ BitVec.ofInt 64 (0:Int)).toNat=a:=by grind
 show IntKind.u64.wrap (((BitVec.ofInt 64 (a:Int) ^^^ BitVec.ofInt 64 (0:Int)).toNat:Nat):Int)=_;rw[e];exact wrapu (by omega) (by omega)
theorem N4(a:Nat)(h:a<18446744073709551616):xorI .u64 (a:Int) 18446744073709551615=((18446744073709551615-a:Nat):Int):=by
 have e:(BitVec.ofInt 64 (a:Int) ^^^ BitVec.ofInt 64 (18446744073709551615:Int)).toNat=18446744073709551615-a:=by
  have h1:BitVec.ofInt 64 (18446744073709551615:Int)=BitVec.allOnes 64:=by decide
  rw[h1,BitVec.ofInt_natCast,BitVec.xor_allOnes,BitVec.toNat_not,BitVec.toNat_ofNat,two64,Nat.mod_eq_of_lt h]
 all_goals (try omega)
 show IntKind.u64.wrap (((BitVec.ofInt 64 (a:Int) ^^^ BitVec.ofInt 64 (18446744073709551615:Int)).toNat:Nat):Int)=_;rw[e];exact wrapu (by omega) (by omega)
theorem shr63{n:Int}(h:I64 n):shrI .i64 n 63=if 0<=n then 0 else -1:=by
 obtain⟨h1,h2⟩:=h;unfold shrI;have e:((2:Int)^min (63:Int).toNat IntKind.i64.bits)=9223372036854775808:=by decide
 grind
theorem vu{n:Int}(h:I64 n):kC n=some (zig n):=by
 rw[kC,shr63 h];obtain⟨h1,h2⟩:=h;unfold zig;have hs:∀m:Int,shlI .u64 m 1=IntKind.u64.wrap (m*2):=by
  intro m;unfold shlI;rfl
 rw[hs]
 congr 1
 by_cases h0:0<=n
 . rw[if_pos h0,if_pos h0];obtain⟨k,rfl⟩:∃k:Nat,n=(k:Int):=⟨n.toNat,by omega⟩
   rw[wrpn (by omega),wrapu (by omega) (by omega)];have:wrp .u64 0=0:=by decide
   rw[this];have:=NZ (2*k) (by omega)
   grind
 . rw[if_neg h0,if_neg h0];have:wrp .u64 (-1)=18446744073709551615:=by decide
   rw[this];obtain⟨k,hk⟩:∃k:Nat,n+9223372036854775808=(k:Int):=⟨(n+9223372036854775808).toNat,by omega⟩
   have e:IntKind.u64.wrap (wrp .u64 n*2)=((2*k:Nat):Int):=by
    unfold wrp;rw[IntKind.wrap_u64,IntKind.wrap_u64];omega
   rw[e,N4 _ (by omega)];omega
theorem cmp1(a b:Int):qu (a,b)=some (if a<b then -1 else if b<a then 1 else 0):=by
 rw[qu];simp only[qU,oZ4,oZ3,decide_true,Bool.not_true,Bool.false_eq_true,if_false]
 grind
theorem cmp2(a b:Int):mP (a,b)=some (if a<b then -1 else if b<a then 1 else 0):=by
 rw[mP];simp only[qv,oZ4,oZ3,decide_true,Bool.not_true,Bool.false_eq_true,if_false]
 grind
theorem cmp3(a b:List UInt8):p5 (a,b)=some (if Op.bytesLess a b=true then -1 else if(Op.bytesLess a b||decide (a=b))=true then 0 else 1):=by
 rw[p5];simp only[qw,oZ4,oZ3,decide_true,Bool.not_true,Bool.false_eq_true,if_false]
 grind
theorem or2(a b:Int):rS [a,b]=some (if a≠0 then a else b):=by
 rw[rS];have h0:iF (0,[a,b],((2:Nat):Int),((0:Nat):Int))=if a≠0 then some (.inl a)else(if b≠0 then some (.inl b)else some (.inr 0)):=by
  rw[iF,if_pos (by decide),if_pos (show inR ((0:Nat):Int) ([a,b]:List Int).length=true from aq (k:=0) (n:=2) (by omega))];simp only[oZ4,oZ3,aA,List.getD_cons_zero];by_cases ha:a=0
  . rw[if_neg (by simp[ha]),if_neg (by simp[ha])];have e1:addI .i64 ((0:Nat):Int) 1=((1:Nat):Int):=aC (by omega);rw[e1,iF,if_pos (by decide),if_pos (show inR ((1:Nat):Int) ([a,b]:List Int).length=true from aq (k:=1) (n:=2) (by omega))];simp only[oZ4,oZ3,aA,List.getD_cons_succ,List.getD_cons_zero];by_cases hb:b=0
    . rw[if_neg (by simp[hb]),if_neg (by simp[hb])];have e2:addI .i64 ((1:Nat):Int) 1=((2:Nat):Int):=aC (by omega);rw[e2,iF,if_neg (by decide)]
    grind
  grind
 grind
theorem xj:∀a:List UInt8,Op.bytesLess a a=false
 |[]=>rfl
 |x::r=>by
  simp[Op.bytesLess,xj r]
theorem xG{a b:ab}(ha:I64 a.Int_)(hb:I64 b.Int_):∃r,jv (a,b)=some r/\lZ (a,b)=some r:=by
 rw[jv,lZ];by_cases hk:a.Kind=b.Kind
 . rw[if_neg (show ¬((!(decide (a.Kind=b.Kind)))=true) by simp[hk]),if_neg (show ¬((!(decide (a.Kind=b.Kind)))=true) by simp[hk])];by_cases k1:a.Kind=1
   . rw[if_pos (show decide (a.Kind=1)=true by simp[k1]),if_pos (show decide (a.Kind=1)=true by simp[k1])];simp only[eG];cases eqB a.Bool_ b.Bool_<;>cases b.Bool_<;>exact⟨_,rfl,rfl⟩
   . rw[if_neg (show ¬(decide (a.Kind=1)=true) by simp[k1]),if_neg (show ¬(decide (a.Kind=1)=true) by simp[k1])];by_cases k2:a.Kind=2
     . rw[if_pos (show decide (a.Kind=2)=true by simp[k2]),if_pos (show decide (a.Kind=2)=true by simp[k2]),vu ha,vu hb,vr ha,vr hb];simp only[oZ4,oZ3,cmp1,eG];by_cases he:a.Int_=b.Int_
       . grind
       . have hne:zig a.Int_≠zig b.Int_:=λh=>he (OV h)
         grind
     . rw[if_neg (show ¬(decide (a.Kind=2)=true) by simp[k2]),if_neg (show ¬(decide (a.Kind=2)=true) by simp[k2])];by_cases k3:a.Kind=3
       . rw[if_pos (show decide (a.Kind=3)=true by simp[k3]),if_pos (show decide (a.Kind=3)=true by simp[k3])];simp only[oZ4,oZ3,cmp2,cmp3,or2,eG];by_cases hl:a.Str.length=b.Str.length
         . have hq:¬((!(decide ((a.Str.length:Int)=(b.Str.length:Int))))=true):=by simp;omega
           rw[if_neg hq,hl];have e1:¬((b.Str.length:Int)<(b.Str.length:Int)):=by omega
           simp only[e1,if_false,ne_eq,not_true_eq_false];by_cases he:a.Str=b.Str
           . rw[he,xj]
             grind
           grind
         grind
       . rw[if_neg (show ¬(decide (a.Kind=3)=true) by simp[k3]),if_neg (show ¬(decide (a.Kind=3)=true) by simp[k3])];by_cases k4:a.Kind=4
         . rw[if_pos (show decide (a.Kind=4)=true by simp[k4]),if_pos (show decide (a.Kind=4)=true by simp[k4])];simp only[oZ4,oZ3,cmp2,eG]
           grind
         simp_all
 simp_all
def Both(o1 o2:Option Bool):Prop:=∃r,o1=some r/\o2=some r
theorem uq {γ δ:Type} (L:Nat->Option (Bool ⊕ γ)) (L':Nat->Option (Bool ⊕ δ)) (n:Nat) (p:Nat->Bool) (g:γ) (g':δ)
 (h:∀i,i<n->L i=if p i=true then L (i+1)else some (.inl false)) (he:L n=some (.inr g))
 (h':∀i,i<n->L' i=if p i=true then L' (i+1)else some (.inl false)) (he':L' n=some (.inr g')):
 (L 0=some (.inr g)/\L' 0=some (.inr g')/\∀j,j<n->p j=true)\/(L 0=some (.inl false)/\L' 0=some (.inl false)/\∃j,j<n/\p j=false):=by
 rcases scan L n p (.inl false) (.inr g) h he with⟨a1,a2⟩|⟨a1,j,a2,a3⟩<;>rcases scan L' n p (.inl false) (.inr g') h' he' with⟨b1,b2⟩|⟨b1,k,b2,b3⟩
 . exact .inl ⟨a1,b1,a2⟩
 . have:=a2 k b2;rw[b3]at this;cases this
 . have:=b2 j a2;rw[a3]at this;cases this
 . exact .inr ⟨a1,b1,j,a2,a3⟩
def dq(k:Int):Prop:=1<=k/\k<=9
theorem Ku{v:ab}(hk:dq v.Kind):∃p,qh v=some p/\jm v=some p/\(p=true->v.Kind≠5->v.Kind≠6->v.Rest=[]):=by
 obtain⟨K,B,I,S,ID,Ks,Is,R⟩:=v;simp only at hk;rw[qh,ab.aD,jm];have:K=1\/K=2\/K=3\/K=4\/K=5\/K=6\/K=7\/K=8\/K=9:=by unfold dq at hk;omega
 have eI:∀(x:Int),decide (x=x)=true:=λx=>by simp
 rcases this with rfl|rfl|rfl|rfl|rfl|rfl|rfl|rfl|rfl
 all_goals
  refine⟨_,rfl,?_,?_⟩
  . simp[qK,eqB]
    try (cases B<;>simp)
  . simp[qK,eqB]
section
variable {ts:List ae} (hn:ts.length<9223372036854775807) (hT:∀t,t∈ts->OkT t) (hK:∀t,t∈ts->dq t.Kind)
def Fit(ts:List ae)(x:ab):Prop:=∀t plain,Both (cq ((⟨ts⟩:au),t,x,plain)) (bX ((⟨ts⟩:au),t,x,plain))
theorem z6 {l:List ab} (hl:l.length<=reachBytes) (ih:∀ x,x∈l->Fit ts x) (t:Int) (plain:Bool):
 Both (iC ((⟨ts⟩:au),t,l,plain)) (eN ((⟨ts⟩:au),t,l,plain)):=by
 have hr:=aZ hl
 let p:Nat->Bool:=λi=>(cq ((⟨ts⟩:au),t,l.getD i aj,plain)).getD false
 have hp:∀i,i<l.length->cq ((⟨ts⟩:au),t,l.getD i aj,plain)=some (p i)/\bX ((⟨ts⟩:au),t,l.getD i aj,plain)=some (p i):=by
  intro i hi;obtain⟨r,h1,h2⟩:=ih _ (aB hi aj) t plain
  grind
 have hf:=nD (λi=>gk (l,(l.length:Int),(i:Int),ts,t,plain)) l.length (λi=>!(p i)) (λi=>.inl ((i:Int),ts,t,plain)) (.inr (ts,t,plain))
  (λi hi=>by
   rw[gk,if_pos (by simp;omega),if_pos (aq hi),ti];simp only[ab.aD,aA];rw[(hp i hi).1,aC (by omega)]
   rfl)
  (by rw[gk,if_neg (by simp)])
 have hs:=scan (λi=>dA (t,l,plain,(i:Int),ts)) l.length p (.inl false) (.inr ())
  (λi hi=>by
   rw[dA,if_pos (by simp;omega),if_pos (aq hi)];simp only[ab.aD,aA];rw[(hp i hi).2,aC (by omega)]
   grind)
  (by rw[dA,if_neg (by simp)])
 have e1:gk (l,(l.length:Int),((0:Nat):Int),ts,t,plain)=gk (l,(l.length:Int),0,ts,t,plain):=rfl;have e2:dA (t,l,plain,((0:Nat):Int),ts)=dA (t,l,plain,0,ts):=rfl;simp only[e1]at hf;simp only[e2]at hs;rw[iC,oU,rY,eN];rcases hf with⟨j,a1,a2,a3,a4⟩|⟨a1,a4⟩<;>rcases hs with⟨b1,b2⟩|⟨b1,k,b2,b3⟩
 . have:=b2 j a1;simp[this]at a2
 . rw[a4,b1];refine⟨false,?_,rfl⟩;have e:decide ((0:Int)<=(j:Int))=true:=by simp
   simp only[oZ4,oZ3,e,Bool.not_true]
 . rw[a4,b1];exact⟨true,rfl,rfl⟩
 . have:=a1 k b2;simp[b3]at this
def restP(t:ae)(l:List aK)(i:Nat):Bool:=
 !((bC (t,(l.getD i aE).ID)).getD (0,false)).2&&(decide (1<=(l.getD i aE).ID)&&decide ((l.getD i aE).ID<=1000))&&(decide (i=0)||decide ((l.getD (i-1) aE).ID<(l.getD i aE).ID))
theorem N5 {γ:Type} (kn f Z:Bool) (sI:Int) (I1 C:Int->Bool) (X Y:Option γ) (hI1:Z = true->I1 sI = true):
 ((if(!kn)=true then some f else some false)>>=λr_17=>some (bif kn then true else(!r_17))>>=λt131=>some Z>>=λt134=>some sI>>=λt141=>
  if(I1 t141||(!((!t131)&&t134)))=true then if(bif t131 then true else bif t134 then C t141 else false)=true then X else Y else none)=if(!kn&&f&&(!Z || !(C sI)))=true then Y else X:=by
 simp only[oZ4,oZ3];generalize C sI=c;cases Z with
 |true=>rw[hI1 rfl];cases kn<;>cases f<;>cases c<;>rfl
 |false=>generalize I1 sI=d;cases kn<;>cases f<;>cases d<;>cases c<;>rfl
theorem yi {γ:Type} (R3 I0 Z:Bool) (sI:Int) (I1 C:Int->Bool) (X Y:Option γ) (hI0:I0 = true) (hI1:Z = true->I1 sI = true):
 (some R3>>=λr_3=>some (!r_3)>>=λt31=>some Z>>=λt34=>
  if(I0||(!((!t31)&&t34)))=true then some sI>>=λt43=>if(I1 t43||(!((!t31)&&t34)))=true then if(bif t31 then true else bif t34 then C t43 else false)=true then X else Y else none else none)=if(R3&&(!Z || !(C sI)))=true then Y else X:=by
 subst hI0;simp only[oZ4,oZ3];generalize C sI=c;cases Z with
 |true=>rw[hI1 rfl];cases R3<;>cases c<;>rfl
 |false=>generalize I1 sI=d;cases R3<;>cases d<;>cases c<;>rfl
theorem iG{i:Nat}(h:0<i)(h2:i<9223372036854775807):subI .i64 (i:Int) 1=((i-1:Nat):Int):=by
 rw[jV (by omega) (by omega)];omega
theorem rests {t:ae} (ht:t.Members.length<9223372036854775807) (v:ab) (hl:v.Rest.length<=reachBytes) (plain:Bool) (ts:List ae):
 let inr:=(plain,ts,v.Kind,v.Bool_,v.Int_,v.Str,v.ID,v.Keys,v.Items,v.Rest,t.Kind,t.Name,t.Low,t.High,t.Max,t.Symbols,t.Members,t.Key,t.Elem,t.Open)
 ((cN (plain,v.Rest,(v.Rest.length:Int),0,ts,v,t.Kind,t.Name,t.Low,t.High,t.Max,t.Symbols,t.Members,t.Key,t.Elem,t.Open)=some (.inr inr)/\jn (t,v.Rest)=some true)\/
  (cN (plain,v.Rest,(v.Rest.length:Int),0,ts,v,t.Kind,t.Name,t.Low,t.High,t.Max,t.Symbols,t.Members,t.Key,t.Elem,t.Open)=some (.inl false)/\jn (t,v.Rest)=some false)):=by
 intro inr;have hr:=aZ hl;have hpe:∀i,i<v.Rest.length->∀r,bC (t,(v.Rest.getD i aE).ID)=some r->restP t v.Rest i=(!r.2&&(bif decide (1<=(v.Rest.getD i aE).ID)then decide ((v.Rest.getD i aE).ID<=1000)else false)&&(!(decide ((0:Int)<(i:Int))) || !(decide ((v.Rest.getD i aE).ID<=(v.Rest.getD (subI .i64 (i:Int) 1).toNat aE).ID)))):=by
  intro i hi r hm;unfold restP;rw[hm,Option.getD_some];generalize (v.Rest.getD i aE).ID=x;by_cases h0:i=0
  . grind
  . have hz:decide ((0:Int)<(i:Int))=true:=by simp;omega
    rw[hz,iG (by omega) (by omega),aA]
    grind
 have h:=uq (λi=>cN (plain,v.Rest,(v.Rest.length:Int),(i:Int),ts,v,t.Kind,t.Name,t.Low,t.High,t.Max,t.Symbols,t.Members,t.Key,t.Elem,t.Open)) (λi=>db (v.Rest,(i:Int),t)) v.Rest.length (restP t v.Rest) inr ()
  (λi hi=>by
   obtain⟨r,h1,_,_⟩:=iv (t:=t) (v.Rest.getD i aE).ID ht;rw[cN,if_pos (by simp;omega),if_pos (aq hi),hpe i hi r h1];simp only[aA,uL,ab.aD,nr,oZ4,oZ3];rw[h1,aC (by omega)]
   exact N5 r.2 (bif decide (1<=(v.Rest.getD i aE).ID)then decide ((v.Rest.getD i aE).ID<=1000)else false) (decide ((0:Int)<(i:Int))) (subI .i64 (i:Int) 1) (λj=>inR j v.Rest.length) (λj=>decide ((v.Rest.getD i aE).ID<=(v.Rest.getD j.toNat aE).ID)) _ _ (λhz=>by
    have:0<i:=by simp at hz;omega
    show inR _ _=true
    rw[iG this (by omega)];exact aq (by omega)))
  (by rw[cN,if_neg (by simp)])
  (λi hi=>by
   obtain⟨r,h1,h2,_⟩:=iv (t:=t) (v.Rest.getD i aE).ID ht;rw[db,if_pos (by simp;omega),if_pos (aq hi),hpe i hi r h1];simp only[aA];rw[h2,aC (by omega)];have hid:cb ((v.Rest.getD i aE).ID,r.2)=some ((!r.2)&&(bif decide (1<=(v.Rest.getD i aE).ID)then decide ((v.Rest.getD i aE).ID<=1000)else false)):=by
    rw[cb]
    grind
   show(if inR (i:Int) v.Rest.length=true then cb ((v.Rest.getD i aE).ID,r.2)>>=_ else none)=_;rw[if_pos (aq hi),hid]
   exact yi ((!r.2)&&(bif decide (1<=(v.Rest.getD i aE).ID)then decide ((v.Rest.getD i aE).ID<=1000)else false)) (inR (i:Int) v.Rest.length) (decide ((0:Int)<(i:Int))) (subI .i64 (i:Int) 1) (λj=>inR j v.Rest.length) (λj=>decide ((v.Rest.getD i aE).ID<=(v.Rest.getD j.toNat aE).ID)) _ _ (aq hi) (λhz=>by
    have:0<i:=by simp at hz;omega
    show inR _ _=true
    rw[iG this (by omega)];exact aq (by omega)))
  (by rw[db,if_neg (by simp)])
 have e1:cN (plain,v.Rest,(v.Rest.length:Int),((0:Nat):Int),ts,v,t.Kind,t.Name,t.Low,t.High,t.Max,t.Symbols,t.Members,t.Key,t.Elem,t.Open)=cN (plain,v.Rest,(v.Rest.length:Int),0,ts,v,t.Kind,t.Name,t.Low,t.High,t.Max,t.Symbols,t.Members,t.Key,t.Elem,t.Open):=rfl;have e2:db (v.Rest,((0:Nat):Int),t)=db (v.Rest,0,t):=rfl
 simp only[e1,e2]at h;rw[jn];rcases h with⟨h1,h2,_⟩|⟨h1,h2,_⟩
 . exact .inl ⟨h1,by rw[h2];rfl⟩
 . exact .inr ⟨h1,by rw[h2];rfl⟩
end
theorem LL {ts:List ae} {t:ae} {v:ab} (hl:v.Items.length = t.Members.length) (hr:t.Members.length<9223372036854775807) (ih:∀ x,x∈v.Items->Fit ts x) (plain:Bool):
 (fH (plain,t.Members,(t.Members.length:Int),0,ts,v.Kind,v.Bool_,v.Int_,v.Str,v.ID,v.Keys,v.Items,v.Rest)=some (.inr ())/\cK (plain,0,ts,v,t.Kind,t.Name,t.Low,t.High,t.Max,t.Symbols,t.Members,t.Key,t.Elem,t.Open)=some (.inr ()))\/
 (fH (plain,t.Members,(t.Members.length:Int),0,ts,v.Kind,v.Bool_,v.Int_,v.Str,v.ID,v.Keys,v.Items,v.Rest)=some (.inl false)/\cK (plain,0,ts,v,t.Kind,t.Name,t.Low,t.High,t.Max,t.Symbols,t.Members,t.Key,t.Elem,t.Open)=some (.inl false)):=by
 let p:Nat->Bool:=λi=>(cq (⟨ts⟩,(t.Members.getD i af).Type_,v.Items.getD i aj,plain)).getD false
 have hp:∀i,i<t.Members.length->cq (⟨ts⟩,(t.Members.getD i af).Type_,v.Items.getD i aj,plain)=some (p i)/\bX (⟨ts⟩,(t.Members.getD i af).Type_,v.Items.getD i aj,plain)=some (p i):=by
  intro i hi;obtain⟨r,h1,h2⟩:=ih _ (aB (by omega:i<v.Items.length) aj) (t.Members.getD i af).Type_ plain
  grind
 have h:=uq (λi=>fH (plain,t.Members,t.Members.length,i,ts,v.Kind,v.Bool_,v.Int_,v.Str,v.ID,v.Keys,v.Items,v.Rest)) (λi=>cK (plain,i,ts,v,t.Kind,t.Name,t.Low,t.High,t.Max,t.Symbols,t.Members,t.Key,t.Elem,t.Open)) _ p () ()
  (λi hi=>by
   rw[fH,if_pos (aq hi),if_pos (aq (by omega))]
   grind[aA,ab.aD,aC])
  (by simp_all[fH])
  (λi hi=>by
   rw[cK,if_pos (aq hi),if_pos (aq (by omega))]
   grind[aA,ab.aD,aC])
  (by simp_all[cK,if_neg])
 grind
theorem rC{v:ab}(h:OkV v):I64 v.Int_:=by cases h with|mk _ _ _ _ _ _ _ _ n1 n2=>exact n2
theorem MS {ts:List ae} {t:ae} {v:ab} (hr:v.Keys.length<9223372036854775807) (hk:∀ x,x∈v.Keys->OkV x) (plain:Bool):
 let inr:=(plain,ts,v,t.Kind,t.Name,t.Low,t.High,t.Max,t.Symbols,t.Members,t.Key,t.Elem,t.Open)
 (dm (plain,1,ts,v,t.Kind,t.Name,t.Low,t.High,t.Max,t.Symbols,t.Members,t.Key,t.Elem,t.Open)=some (.inr inr)/\cj (1,v)=some (.inr ()))\/
 (dm (plain,1,ts,v,t.Kind,t.Name,t.Low,t.High,t.Max,t.Symbols,t.Members,t.Key,t.Elem,t.Open)=some (.inl false)/\cj (1,v)=some (.inl false)):=by
 intro inr;by_cases h0:v.Keys.length=0
 . left;refine⟨?_,?_⟩
   . rw[dm,if_neg (by grind),ab.aD]
   simp_all[cj,if_neg]
 let c:=λi=>(jv (v.Keys.getD i aj,v.Keys.getD (i+1) aj)).getD 0
 have hc:∀i,i+1<v.Keys.length->jv (v.Keys.getD i aj,v.Keys.getD (i+1) aj)=some (c i)/\lZ (v.Keys.getD i aj,v.Keys.getD (i+1) aj)=some (c i):=by
  intro i hi;obtain⟨r,h1,h2⟩:=xG (rC (hk _ (aB (by omega:i<v.Keys.length) aj))) (rC (hk _ (aB hi aj)))
  grind
 have h:=uq (λi=>dm (plain,((i+1:Nat):Int),ts,v,t.Kind,t.Name,t.Low,t.High,t.Max,t.Symbols,t.Members,t.Key,t.Elem,t.Open)) (λi=>cj ((i+1:Nat),v)) (v.Keys.length-1) (λi=>!(decide (0<=c i))) inr ()
  (λi hi=>by
   have hs:=iG (i:=i+1) (by simp) (by omega);have hs':subI .i64 ((i+1:Nat):Int) 1=(i:Int):=by grind
   rw[dm];simp only[oZ4,oZ3];rw[hs',if_pos (aq (by omega)),if_pos (aq (by omega))];simp only[aA,ab.aD]
   grind[aC])
  (by
   have e:v.Keys.length-1+1=v.Keys.length:=by omega
   rw[e,dm,if_neg (by simp),ab.aD])
  (λi hi=>by
   have hs:=iG (i:=i+1) (by simp) (by omega);have hs':subI .i64 ((i+1:Nat):Int) 1=(i:Int):=by grind
   rw[cj];simp only[oZ4,oZ3];rw[hs',if_pos (aq (by omega)),if_pos (aq (by omega))];simp only[aA,ab.aD]
   grind[aC])
  (by
   have e:v.Keys.length-1+1=v.Keys.length:=by omega
   simp_all[cj,if_neg])
 grind
theorem y9{α β:Type}{a:List α}{b:List β}(h:decide ((a.length:Int)=(b.length:Int))=true):a.length=b.length:=by grind
theorem k4e {o:Option (Int×Bool)} {r:Int×Bool} (ho:o = some r) (O plain f:Bool):
 (o>>=λr_1=>some (bif O then(!plain)else false)>>=λt85=>(if((!r_1.2)&&t85)=true then some f else some false)>>=λr_4=>some (bif r_1.2 then true else bif t85 then r_4 else false))=some (r.2||(O && !plain&&f)):=by
 grind
theorem k4r {o:Option (Int×Bool)} {r:Int×Bool} (ho:o = some r) (O plain f:Bool) (F:Bool->Option Bool) (hF:F false = some f):
 (o>>=λr_1=>some (bif O then(!plain)else false)>>=λt85=>(if((!r_1.2)&&t85)=true then F r_1.2 else some false)>>=λr_4=>some (bif r_1.2 then true else bif t85 then r_4 else false))=some (r.2||(O && !plain&&f)):=by
 grind
theorem k7{o:Option Bool}{r:Bool}(ho:o=some r)(q:Bool):(some q>>=λt244=>(if t244=true then o else some false)>>=λr_10=>some (bif t244 then r_10 else false))=some (q&&r):=by grind
theorem k6k(c I1 I2 f:Bool){X:Option Bool}(hX:c=true->X=some f)(h1:c=true->I1=true/\I2=true):(some c>>=λt188=>if(I1||(!t188))=true then if(I2||(!t188))=true then(if t188=true then X else some false)>>=λr_8=>some (bif t188 then r_8 else false)else none else none)=some (c&&f):=by grind
theorem k5r (A b q m:Bool) {ro:Option Bool} (hr:ro = some q) {L:Option (Bool ⊕ Unit)} (hL:A = true->L = some (if m = true then .inr () else .inl false)):
 (if(bif (bif false then true else(!true))then true else b)=true then some false else some (!A)>>=λt107=>(if(!t107)=true then ro else some false)>>=λr_5=>if(bif t107 then true else(!r_5))=true then some false else L>>=λo=>match o with|.inl x=>some x|.inr _=>some true)=some (A && !b&&q&&m):=by
 grind
theorem k6u(g f c1 c2 I E:Bool)(h1:c2=true->I=true):(some g>>=λt209=>(if t209=true then some f else some false)>>=λr_9=>some (bif bif bif t209 then r_9 else false then c1 else false then c2 else false)>>=λt226=>if(I||(!t226))=true then some (bif t226 then E else false)else none)=some (g&&f&&c1&&c2&&E):=by grind
theorem k8r (c:Bool) {ok oi:Option Bool} {k i:Bool} (hk:ok = some k) (hi:oi = some i) {L:Option (Bool ⊕ Unit)} {q:Bool} (hL:L = some (if q = true then .inr () else .inl false)):
 (some c>>=λt239=>(if(!t239)=true then ok else some false)>>=λr_12=>some (bif t239 then true else(!r_12))>>=λt249=>(if(!t249)=true then oi else some false)>>=λr_13=>if(bif t249 then true else(!r_13))=true then some false else L>>=λo_3=>match o_3 with|.inl o_4=>some o_4|.inr _=>some true)=some (!c&&k&&q&&i):=by
 subst hk;subst hi;subst hL;cases c<;>cases k<;>cases q<;>cases i<;>rfl
theorem MT{ts:List ae}(hn:ts.length<9223372036854775807)(hT:∀t,t∈ts->OkT t)(hK:∀t,t∈ts->dq t.Kind){v:ab}(hv:OkV v):Fit ts v:=by
 induction hv with
 |mk v hs h1 h2 h3 hk hi hrd n1 n2 n3 n4 ihk ihi=>
  intro t plain;rw[cq,bX];by_cases hout:(bif decide (t<0)then true else decide (((⟨ts⟩:au).Types.length:Int)<=t))=true
  . rw[if_pos hout,if_pos hout];exact⟨false,rfl,rfl⟩
  . rw[if_neg hout,if_neg hout];have hin:0<=t/\t<ts.length:=by grind
    obtain⟨j,rfl⟩:∃j:Nat,t=(j:Int):=⟨t.toNat,by omega⟩
    have hj:j<ts.length:=by omega
    rw[if_pos (aq hj),if_pos (aq hj)];simp only[aA,ab.aD];have hxT:=hT _ (aB hj ag);have hxK:=hK _ (aB hj ag);generalize ts.getD j ag=x at hxT hxK⊢;have hm:=aZ (cr hxT.mems);have hsy:=aZ (cr hxT.syms);by_cases hkd:v.Kind=x.Kind
    . obtain⟨p,p1,p2,p3⟩:=Ku (v:=v) (by rw[hkd];exact hxK);rw[p1,p2];cases p with
      |false=>exact⟨false,by simp[hkd],by simp[hkd]⟩
      |true=>
       have hitems:=z6 (ts:=ts) h2 ihi;have hkeys:=z6 (ts:=ts) h1 ihk;obtain⟨K,N,L,H,M,S,Ms,Ke,E,O⟩:=x;obtain⟨vK,B,I,Sx,ID,Ks,Is,R⟩:=v;simp only at hkd;subst hkd;have p3':=p3 rfl;simp only at p3' hxK hm hsy h1 h2 h3;have hc:vK=1\/vK=2\/vK=3\/vK=4\/vK=5\/vK=6\/vK=7\/vK=8\/vK=9:=by unfold dq at hxK;omega
       rcases hc with rfl|rfl|rfl|rfl|rfl|rfl|rfl|rfl|rfl
       . obtain rfl:R=[]:=p3' (by decide) (by decide);cases plain<;>exact⟨true,rfl,rfl⟩
       . obtain rfl:R=[]:=p3' (by decide) (by decide);cases plain<;>exact⟨_,rfl,rfl⟩
       . obtain rfl:R=[]:=p3' (by decide) (by decide);cases plain<;>exact⟨_,rfl,rfl⟩
       . obtain rfl:R=[]:=p3' (by decide) (by decide);obtain⟨r,r1,r2,_⟩:=nh (t:=⟨4,N,L,H,M,S,Ms,Ke,E,O⟩) ID hsy;have hf:cb (ID,false)=some (bif decide (1<=ID)then decide (ID<=1000)else false):=by rfl
         cases plain
         . exact⟨_,k4e r1 O false _,k4r r2 O false _ (λb=>cb (ID,b)) hf⟩
         . exact⟨_,k4e r1 O true _,k4r r2 O true _ (λb=>cb (ID,b)) hf⟩
       ·
        have hrs:=rests (t:=⟨5,N,L,H,M,S,Ms,Ke,E,O⟩) hm ⟨5,B,I,Sx,ID,Ks,Is,R⟩ h3 plain ts;have hps:decide ((Is.length:Int)=(Ms.length:Int))=true->_:=λhA=>LL (ts:=ts) (t:=⟨5,N,L,H,M,S,Ms,Ke,E,O⟩) (v:=⟨5,B,I,Sx,ID,Ks,Is,R⟩) (y9 hA) hm ihi plain
        have hq:∃q:Bool,cN (plain,R,(R.length:Int),0,ts,⟨5,B,I,Sx,ID,Ks,Is,R⟩,5,N,L,H,M,S,Ms,Ke,E,O)=some (if q=true then .inr (plain,ts,5,B,I,Sx,ID,Ks,Is,R,5,N,L,H,M,S,Ms,Ke,E,O)else .inl false)/\jn (⟨5,N,L,H,M,S,Ms,Ke,E,O⟩,R)=some q:=by grind
        obtain⟨q,q1,q2⟩:=hq;have hmm:∃m:Bool,decide ((Is.length:Int)=(Ms.length:Int))=true->(fH (plain,Ms,(Ms.length:Int),0,ts,5,B,I,Sx,ID,Ks,Is,R)=some (if m=true then .inr ()else .inl false)/\cK (plain,0,ts,⟨5,B,I,Sx,ID,Ks,Is,R⟩,5,N,L,H,M,S,Ms,Ke,E,O)=some (if m=true then .inr ()else .inl false)):=by
         cases hA:decide ((Is.length:Int)=(Ms.length:Int))with
         |false=>exact⟨true,λh=>by cases h⟩
         |true=>
          rcases hps hA with⟨a,b⟩|⟨a,b⟩
          . simp_all
          simp_all
        obtain⟨m,hm'⟩:=hmm;refine⟨(decide ((Is.length:Int)=(Ms.length:Int))) && !(bif plain then decide (0<(R.length:Int))else false)&&q&&m,?_,?_⟩
        . show(if(bif (!(decide ((Is.length:Int)=(Ms.length:Int))))then true else bif plain then decide (0<(R.length:Int))else false)=true then some false else cN (plain,R,(R.length:Int),0,ts,⟨5,B,I,Sx,ID,Ks,Is,R⟩,5,N,L,H,M,S,Ms,Ke,E,O)>>=_)=_
          grind
        . exact k5r (decide ((Is.length:Int)=(Ms.length:Int))) (bif plain then decide (0<(R.length:Int))else false) q m q2 (λhA=>(hm' hA).2)
       ·
        obtain⟨r,r1,r2,hf⟩:=iv (t:=⟨6,N,L,H,M,S,Ms,Ke,E,O⟩) ID hm;have hid:∀b,b=false->cb (ID,b)=some (bif decide (1<=ID)then decide (ID<=1000)else false):=by
         intro b hb;subst hb;rfl
        have hX:∃f:Bool,(bif decide ((Is.length:Int)=1)then decide ((R.length:Int)=0)else false)=true->(cq ((⟨ts⟩:au),(Ms.getD r.1.toNat af).Type_,Is.getD (0:Int).toNat aj,plain)=some f/\bX ((⟨ts⟩:au),(Ms.getD r.1.toNat af).Type_,Is.getD (0:Int).toNat aj,plain)=some f):=by
         by_cases h1':Is.length=1
         . obtain⟨f,f1,f2⟩:=ihi (Is.getD 0 aj) (aB (by omega:0<Is.length) aj) (Ms.getD r.1.toNat af).Type_ plain
           grind
         grind
        obtain⟨f,hfX⟩:=hX;have hidx:r.2=true->(bif decide ((Is.length:Int)=1)then decide ((R.length:Int)=0)else false)=true->inR r.1 Ms.length=true/\inR 0 Is.length=true:=by
         intro h6 hc';constructor
         . rcases hf with⟨k,k1,_,_,rfl⟩|⟨_,rfl⟩
           . exact aq k1
           . cases h6
         . by_cases h1':Is.length=1
           . exact aq (k:=0) (by omega)
           grind
        have hR0:decide ((R.length:Int)=1)=true->inR 0 R.length=true:=by
         intro h;have:=of_decide_eq_true h;exact aq (k:=0) (by omega)
        obtain⟨ri,rk⟩:=r;refine⟨if rk=true then(bif decide ((Is.length:Int)=1)then decide ((R.length:Int)=0)else false)&&f else(bif O then(!plain)else false)&&(bif decide (1<=ID)then decide (ID<=1000)else false)&&decide ((Is.length:Int)=0)&&decide ((R.length:Int)=1)&&decide ((R.getD (0:Int).toNat aE).ID=ID),?_,?_⟩
        . show(bC (⟨6,N,L,H,M,S,Ms,Ke,E,O⟩,ID)>>=_)=_;rw[r1];cases rk with
          |true=>exact k6k _ (inR ri Ms.length) (inR 0 Is.length) f (λh=>(hfX h).1) (hidx rfl)
          |false=>exact k6u (bif O then(!plain)else false) (bif decide (1<=ID)then decide (ID<=1000)else false) (decide ((Is.length:Int)=0)) (decide ((R.length:Int)=1)) (inR 0 R.length) (decide ((R.getD (0:Int).toNat aE).ID=ID)) hR0
        . show(if(bif (bif false then true else(!true))then true else(bif plain then decide (0<(R.length:Int))else false))=true then some false else bO (⟨6,N,L,H,M,S,Ms,Ke,E,O⟩,ID)>>=_)=_;rw[r2];cases hb0:(bif plain then decide (0<(R.length:Int))else false)with
          |true=>
           have hpl:plain=true:=by grind
           subst hpl;have hRl:decide ((R.length:Int)=0)=false:=by grind
           grind
          |false=>
           cases rk with
           |true=>exact k6k _ (inR ri Ms.length) (inR 0 Is.length) f (λh=>(hfX h).2) (hidx rfl)
           |false=>exact k6u (bif O then(!plain)else false) (bif decide (1<=ID)then decide (ID<=1000)else false) (decide ((Is.length:Int)=0)) (decide ((R.length:Int)=1)) (inR 0 R.length) (decide ((R.getD (0:Int).toNat aE).ID=ID)) hR0
       . obtain rfl:R=[]:=p3' (by decide) (by decide);obtain⟨r,r1,r2⟩:=hitems E plain;cases plain
         . exact⟨_,k7 r1 _,k7 r2 _⟩
         . exact⟨_,k7 r1 _,k7 r2 _⟩
       . obtain rfl:R=[]:=p3' (by decide) (by decide);obtain⟨k,k1,k2⟩:=hkeys Ke plain;obtain⟨i,i1,i2⟩:=hitems E plain;have hks:=MS (ts:=ts) (t:=⟨8,N,L,H,M,S,Ms,Ke,E,O⟩) (v:=⟨8,B,I,Sx,ID,Ks,Is,[]⟩) (aZ h1) hk plain
         obtain⟨q,qa,qb⟩:∃q:Bool,dm (plain,1,ts,⟨8,B,I,Sx,ID,Ks,Is,[]⟩,8,N,L,H,M,S,Ms,Ke,E,O)=some (if q=true then .inr (plain,ts,⟨8,B,I,Sx,ID,Ks,Is,[]⟩,8,N,L,H,M,S,Ms,Ke,E,O)else .inl false)/\cj (1,⟨8,B,I,Sx,ID,Ks,Is,[]⟩)=some (if q=true then .inr ()else .inl false):=by
          rcases hks with⟨a,b⟩|⟨a,b⟩
          . simp_all
          simp_all
         refine⟨!(bif decide (M<(Ks.length:Int))then true else(!(decide ((Is.length:Int)=(Ks.length:Int)))))&&k&&q&&i,?_,?_⟩
         . show(some (bif decide (M<(Ks.length:Int))then true else(!(decide ((Is.length:Int)=(Ks.length:Int)))))>>=λt270=>(if(!t270)=true then iC ((⟨ts⟩:au),Ke,Ks,plain)else some false)>>=λr_11=>if(bif t270 then true else(!r_11))=true then some false else dm (plain,1,ts,⟨8,B,I,Sx,ID,Ks,Is,[]⟩,8,N,L,H,M,S,Ms,Ke,E,O)>>=_)=_
           grind
         . cases plain
           . exact k8r (bif decide (M<(Ks.length:Int))then true else(!(decide ((Is.length:Int)=(Ks.length:Int))))) k2 i2 qb
           . exact k8r (bif decide (M<(Ks.length:Int))then true else(!(decide ((Is.length:Int)=(Ks.length:Int))))) k2 i2 qb
       . obtain rfl:R=[]:=p3' (by decide) (by decide);obtain⟨r,r1,r2⟩:=hitems E plain;cases plain
         . exact⟨_,k7 r1 _,k7 r2 _⟩
         . exact⟨_,k7 r1 _,k7 r2 _⟩
    . exact⟨false,by simp[hkd],by simp[hkd]⟩
theorem nO{U:Uni}{t:Ty}{l:List (t.den U.D)}(h:WF U ⟨.slice t,l⟩):l.length<=reachBytes/\l.length*t.bytes U<=reachBytes/\∀x,x∈l->∀c,c∈t.row U x->WF U c:=by cases h with|slice t l h1 h2 h3=>exact⟨h1,h2,h3⟩
theorem LM(s:au):(⟨s.Types⟩:au)=s:=by cases s;rfl
def vbig(n:Nat):List UInt8:=if n=0 then[]else vbig (n/256)++[UInt8.ofNat (n%256)]
termination_by n
decreasing_by omega
theorem A2{α:Type}:∀(l:List α) (k:Nat) (x:α),k<l.length->(l.set k x).drop k=x::l.drop (k+1)
 |[],k,x,h=>by simp at h
 |a::l,0,x,h=>by simp
 |a::l,k+1,x,h=>by simp[A2 l k x (by simpa using h)]
theorem shrI8(n:Nat):shrI .u64 (n:Int) 8=((n/256:Nat):Int):=by
 unfold shrI;have:((2:Int)^min (8:Int).toNat IntKind.u64.bits)=256:=by decide
 grind
theorem DF:∀(i n:Nat) (b:List Int),n<256^i->i<=8->b.length=8->∃(i':Nat) (b':List Int),jx ((n:Int),(i:Int),b)=some ((i':Int),b')/\i'<=8/\b'.length=8/\strOf (b'.drop i')=vbig n++strOf (b.drop i)
 |i,n,b,hn,hi,hb=>by
  rw[jx];by_cases h0:n=0
  . subst h0;rw[if_neg (by simp)];refine⟨i,b,rfl,hi,hb,?_⟩;rw[vbig,if_pos rfl];rfl
  . rw[if_pos (by simp;omega)]
    match i,hn,hi with
    |0,hn,hi=>simp at hn;omega
    |i+1,hn,hi=>
     have hs:subI .i64 ((i+1:Nat):Int) 1=(i:Int):=by rw[jV (by omega) (by omega)];omega
     simp only[oZ4,oZ3];rw[hs,if_pos (aq (by omega)),if_pos (by simp[hb];omega),shrI8,wrp8,aA];have hlt:n/256<256^i:=by omega
     obtain⟨i',b',h1,h2,h3,h4⟩:=DF i (n/256) (b.set i ((n%256:Nat):Int)) hlt (by omega) (by simp[hb]);refine⟨i',b',h1,h2,h3,?_⟩;rw[h4,A2 _ _ _ (by omega),Lw]
     conv=>rhs;rw[vbig,if_neg h0]
     grind
theorem DG{n:Nat}(hn:n<18446744073709551616):nu (n:Int)=some (vbig n):=by
 have e:(256:Nat)^8=18446744073709551616:=by decide
 obtain⟨i',b',h1,h2,h3,h4⟩:=DF 8 n [0,0,0,0,0,0,0,0] (by rw[e];exact hn) (by omega) rfl;have h1':jx ((n:Int),8,[0,0,0,0,0,0,0,0])=some ((i':Int),b'):=h1;rw[nu,h1'];simp only[oZ4,oZ3,aA];have hsl:slR (i':Int) 8 8=true:=BM (b:=8) (by omega) (by omega);have h8:(8:Int).toNat=8:=rfl
 rw[if_pos hsl,h8,if_pos (by simp[subR,h3];omega)];rw[List.take_of_length_le (by simp[h3]),h4];simp[strOf]
theorem nP:∀(f n:Nat),n<256^f->(vbig n).length<=f
 |0,n,h=>by
  have:n=0:=by simpa using h
  subst this;rw[vbig,if_pos rfl];simp
 |f+1,n,h=>by
  rw[vbig];split
  . simp
  . have:=nP f (n/256) (by omega);simp;omega
theorem z7:∀(f n:Nat) (out:List UInt8),n<256^f->n<18446744073709551616->out.length+f<=1000->kh ((n:Int),out)=some (vbig n++out)
 |f,n,out,hn,h64,ho=>by
  rw[kh];by_cases h0:n=0
  . subst h0;rw[if_neg (by simp),vbig,if_pos rfl];rfl
  . rw[if_pos (by simp;omega)]
    match f,hn,ho with
    |0,hn,ho=>simp at hn;omega
    |f+1,hn,ho=>
     have hrem:remI (n:Int) 256=((n%256:Nat):Int):=remIn (b:=256);have hq:quoI .u64 (n:Int) 256=((n/256:Nat):Int):=by
      unfold quoI;have e:(n:Int).tdiv 256=((n/256:Nat):Int):=by rw[Int.tdiv_eq_ediv_of_nonneg (by omega)];omega
      rw[e];exact wrapu (by omega) (by omega)
     have hone:strOf [((n%256%256:Nat):Int)]=[UInt8.ofNat (n%256)]:=by
      have:n%256%256=n%256:=by omega
      rw[this];rfl
     simp only[oZ4,oZ3];rw[hrem,hq,wrp8,hone,if_pos (bz (by simp;omega))];have hlt:n/256<256^f:=by omega
     rw[z7 f (n/256) _ hlt (by omega) (by simp;omega)]
     conv=>rhs;rw[vbig,if_neg h0]
     grind
theorem z8{n:Nat}(hn:n<18446744073709551616):mC (n:Int)=some (vbig n):=by
 have e:(256:Nat)^8=18446744073709551616:=by decide
 rw[mC,z7 8 n [] (by rw[e];exact hn) hn (by simp)];simp
end
section
open Go Go.Proofs.YtkbmjabicjpmjaaGreatDoor.Shv Go.Sort
set_option maxRecDepth 100000
section
variable {α:Type}
theorem A3{β γ:Type}{f g:β->List γ}:∀{l:List β},(∀x,x∈l->f x=g x)->l.flatMap f=l.flatMap g
 |[],_=>rfl
 |x::l,h=>by
  simp;rw[h x (.head _),A3 λy hy=>h y (.tail _ hy)]
theorem za(x:α)(n:Nat)(f:Nat->List α):∀(ks:List Nat),ks.Nodup->n∈ks->(ks.flatMap λi=>if n=i then x::f i else f i).Perm (x::ks.flatMap f)
 |[],_,h=>by grind
 |k::ks,hn,h=>by
  rw[List.nodup_cons]at hn;simp;by_cases e:n=k
  . have:(ks.flatMap λi=>if n=i then x::f i else f i)=ks.flatMap f:=A3 λy hy=>by grind
    simp_all
  . rw[if_neg e];have hm:=(List.mem_cons.1 h).resolve_left e;refine((za x n f ks hn.2 hm).append_left _).trans ?_;simp
theorem zb(key:α->Nat)(ks:List Nat)(hn:ks.Nodup):∀l:List α,(∀x,x∈l->key x∈ks)->(ks.flatMap λi=>l.filter λx=>decide (key x=i)).Perm l
 |[],_=>by simp
 |x::l,h=>by
  have e:(λi=>(x::l).filter λy=>decide (key y=i))=λi=>if key x=i then x::(l.filter λy=>decide (key y=i))else l.filter λy=>decide (key y=i):=by grind
  rw[e];exact(za x _ _ ks hn (h x (.head _))).trans ((zb _ ks hn l λy hy=>h y (.tail _ hy)).cons x)
theorem IW(key:α->Nat)(a n:Nat)(l:List α):((List.range' a n).flatMap λi=>l.filter λx=>decide (key x=i)).Pairwise (λx y=>decide (key y<key x)=false):=by
 rw[List.pairwise_flatMap]
 grind[List.pairwise_iff_forall_sublist,List.pairwise_lt_range']
theorem Aa{α:Type}[Inhabited α]{lt:α->α->Bool}:∀{l:List α},l.Pairwise (λx y=>lt x y=true\/lt y x=true)->cT lt l=true
 |[],_=>rfl
 |x::l,h=>by
  rw[List.pairwise_cons]at h;simp[cT];exact⟨h.1,Aa h.2⟩
end
mutual
def wt:ab->Nat
 |⟨_,_,_,s,_,ks,is,r⟩=>10+s.length+(r.map λx=>x.Data.length+1).sum+wts ks+wts is
def wts:List ab->Nat
 |[]=>0
 |v::l=>wt v+wts l
end
structure Fd where
 id:Nat
 c:Bool
 p:List UInt8
instance:Inhabited Fd:=⟨⟨0,false,[]⟩⟩
def ltF(a b:Fd):Bool:=decide (a.id<b.id)
def Fd.text(f:Fd):List UInt8:=cU f.id f.c f.p
def ilv:List (List UInt8)->List (List UInt8)->List UInt8
 |k::ks,v::vs=>bB k++(bB v++ilv ks vs)
 |_,_=>[]
def findM(l:List av)(id:Int):Option av:=l.find? λm=>decide (m.ID=id)
open Classical in
noncomputable def om (m:av) (v:ab):Bool:=m.HasDefault&&decide (m.Default=v)
def rawF(r:aK):Fd:=⟨r.ID.toNat,false,r.Data⟩
mutual
noncomputable def vpay (ts:List ae) (t:Int):ab->List UInt8
 |⟨_,b,i,s,id,ks,is,r⟩=>
  let x:=ts.getD t.toNat ag
  if x.Kind=1 then(if b=true then[1]else[])
  else if x.Kind=2 then vbig (zig i).toNat
  else if x.Kind=3 then s
  else if x.Kind=4 then vbig id.toNat
  else if x.Kind=5 then(isoB ltF (vents ts x.Members is++r.map rawF)).flatMap Fd.text
  else if x.Kind=6 then vput id.toNat++(match findM x.Members id with
   |some m=>(vpays ts m.Type_ is).headD []
   |none=>(r.map aK.Data).headD [])
  else if x.Kind=7 then(vpays ts x.Elem is).flatMap bB
  else if x.Kind=8 then ilv (vpays ts x.Key ks) (vpays ts x.Elem is)
  else match vpays ts x.Elem is with
   |[]=>[]
   |p::_=>1::p
noncomputable def vpays (ts:List ae) (t:Int):List ab->List (List UInt8)
 |[]=>[]
 |v::l=>vpay ts t v::vpays ts t l
noncomputable def vents (ts:List ae):List av->List ab->List Fd
 |m::ms,v::l=>if om m v=true then vents ts ms l else⟨m.ID.toNat,m.Critical,vpay ts m.Type_ v⟩::vents ts ms l
 |_,_=>[]
end
mutual
noncomputable def vlev (ts:List ae) (t:Int):ab->Nat
 |⟨_,_,_,_,id,ks,is,_⟩=>
  let x:=ts.getD t.toNat ag
  1+max (if ks=[]then 0 else 1) (if x.Kind=5 then vlevm ts x.Members is
   else if x.Kind=6 then(match findM x.Members id with
    |some m=>vlevs ts m.Type_ is
    |none=>0)
   else vlevs ts x.Elem is)
noncomputable def vlevs (ts:List ae) (t:Int):List ab->Nat
 |[]=>0
 |v::l=>max (vlev ts t v) (vlevs ts t l)
noncomputable def vlevm (ts:List ae):List av->List ab->Nat
 |m::ms,v::l=>if om m v=true then vlevm ts ms l else max (vlev ts m.Type_ v) (vlevm ts ms l)
 |_,_=>0
end
def I1000(n:Int):Prop:=1<=n/\n<=1000
def dT(ms:List av)(r:List aK):Prop:=r.Pairwise (λa b=>a.ID<b.ID)/\∀x,x∈r->I1000 x.ID/\findM ms x.ID=none
def vcmp(a b:ab):Int:=(jv (a,b)).getD 0
def jN(ks:List ab):Prop:=∀i,i+1<ks.length->vcmp (ks.getD i aj) (ks.getD (i+1) aj)<0
mutual
def vfit(ts:List ae)(pl:Bool)(t:Int):ab->Prop
 |⟨k,b,i,s,id,ks,is,r⟩=>
  let x:=ts.getD t.toNat ag
  (0<=t/\t<ts.length/\k=x.Kind/\(pl=true->r=[]))/\
  (k=1/\i=0/\s=[]/\id=0/\ks=[]/\is=[]/\r=[]\/
  k=2/\b=false/\s=[]/\id=0/\ks=[]/\is=[]/\r=[]/\x.Low<=i/\i<=x.High\/
  k=3/\b=false/\i=0/\id=0/\ks=[]/\is=[]/\r=[]/\(s.length:Int)<=x.Max\/
  k=4/\b=false/\i=0/\s=[]/\ks=[]/\is=[]/\r=[]/\((∃y,y∈x.Symbols/\y.ID=id)\/x.Open=true/\pl=false/\I1000 id)\/
  k=5/\b=false/\i=0/\s=[]/\id=0/\ks=[]/\dT x.Members r/\vfitm ts pl x.Members is\/
  k=6/\b=false/\i=0/\s=[]/\ks=[]/\(match findM x.Members id with
   |some m=>r=[]/\is.length=1/\vfits ts pl m.Type_ is
   |none=>x.Open=true/\pl=false/\I1000 id/\is=[]/\∃d,r=[⟨id,d⟩])\/
  k=7/\b=false/\i=0/\s=[]/\id=0/\ks=[]/\r=[]/\(is.length:Int)<=x.Max/\vfits ts pl x.Elem is\/
  k=8/\b=false/\i=0/\s=[]/\id=0/\r=[]/\(ks.length:Int)<=x.Max/\is.length=ks.length/\vfits ts pl x.Key ks/\vfits ts pl x.Elem is/\jN ks\/
  k=9/\b=false/\i=0/\s=[]/\id=0/\ks=[]/\r=[]/\is.length<=1/\vfits ts pl x.Elem is)
def vfits(ts:List ae)(pl:Bool)(t:Int):List ab->Prop
 |[]=>True
 |v::l=>vfit ts pl t v/\vfits ts pl t l
def vfitm(ts:List ae)(pl:Bool):List av->List ab->Prop
 |m::ms,v::l=>vfit ts pl m.Type_ v/\vfitm ts pl ms l
 |[],[]=>True
 |_,_=>False
end
theorem wt_eq(v:ab):wt v=10+v.Str.length+(v.Rest.map λx=>x.Data.length+1).sum+wts v.Keys+wts v.Items:=by cases v;rfl
theorem jK(v:ab)(l:List ab):wts (v::l)=wt v+wts l:=by rfl
theorem OW:wts []=0:=by rfl
theorem bR:∀{l:List ab} {x:ab},x∈l->wt x<=wts l
 |y::l,x,h=>by
  rw[jK];rcases List.mem_cons.1 h with rfl|h
  . simp
  . have:=bR h;omega
theorem zc{p:List UInt8}(h:p.length<1152921504606846976):(bB p).length<=p.length+10:=by
 grind[cP,bB]
theorem A4{f:Fd}(h:f.p.length<1152921504606846976)(hi:f.id<=9223372036854775807):f.text.length<=f.p.length+20:=by
 grind[zc,cP,Fd.text,cU]
theorem sZ{α β:Type}{f:α->List β}{a b:List α}(h:a.Perm b):(a.flatMap f).length=(b.flatMap f).length:=(h.flatMap_right f).length_eq
theorem vw{n:Int}(h:I64 n):(zig n).toNat<18446744073709551616:=by
 grind[zig,I64]
section
variable {ts:List ae}
def LenOk(ts:List ae)(v:ab):Prop:=∀t,(vpay ts t v).length+20<=21*wt v
theorem ur:∀{l:List ab} {t:Int},wts l<=1099511627776->(∀x,x∈l->LenOk ts x)->((vpays ts t l).flatMap bB).length<=21*wts l
 |[],t,_,_=>by grind[vpays]
 |v::l,t,hw,h=>by
  rw[vpays];rw[jK]at hw⊢;have h1:=h v (.head _) t;have h2:=ur (t:=t) (by omega) λx hx=>h x (.tail _ hx)
  grind[zc]
theorem mY:∀{l:List ab} {t:Int},(vpays ts t l).length=l.length
 |[],t=>by rfl
 |v::l,t=>by rw[vpays,List.length_cons,List.length_cons,mY]
theorem Ab:∀{l:List ab} {t:Int},vpays ts t l=l.map (vpay ts t)
 |[],t=>by rfl
 |v::l,t=>by rw[vpays,List.map,Ab]
theorem rD:∀(a b:List (List UInt8)),(ilv a b).length<=(a.flatMap bB).length+(b.flatMap bB).length
 |[],b=>by simp[ilv]
 |k::ks,[]=>by simp[ilv]
 |k::ks,v::vs=>by
  have:=rD ks vs;simp only[ilv,List.flatMap_cons,List.length_append];omega
theorem Ac:∀{ms:List av} {l:List ab},wts l<=1099511627776->(∀m,m∈ms->m.ID<=1000)->(∀x,x∈l->LenOk ts x)->((vents ts ms l).flatMap Fd.text).length<=21*wts l
 |[],l,_,_,_=>by grind[vents]
 |m::ms,[],_,_,_=>by grind[vents]
 |m::ms,v::l,hw,hm,h=>by
  rw[jK]at hw⊢;rw[vents];have h1:=h v (.head _) m.Type_;have h2:=Ac (by omega) (λx hx=>hm x (.tail _ hx)) λx hx=>h x (.tail _ hx)
  grind[A4]
theorem A5:∀{l:List aK},(∀x,x∈l->x.Data.length<=reachBytes/\x.ID<=9223372036854775807)->True->((l.map rawF).flatMap Fd.text).length<=21*(l.map λx=>x.Data.length+1).sum
 |[],_,_=>by simp
 |r::l,h,_=>by
  have h1:=h r (.head _);have h2:=A5 (λx hx=>h x (.tail _ hx)) trivial;unfold reachBytes at h1;have h3:=A4 (f:=rawF r) (by show r.Data.length<_;omega) (by show r.ID.toNat<=_;omega);have h3':(rawF r).text.length<=r.Data.length+20:=h3
  grind
def MOk(ts:List ae):Prop:=∀x,x∈ts->∀m,m∈x.Members->m.ID<=1000
theorem Kv{α:Type}(l:List α)(i:Nat)(d:α):l.getD i d∈l\/l.getD i d=d:=by grind
theorem Ad{l:List (List UInt8)}{n:Nat}(h:∀x,x∈l->x.length<=n):(l.headD []).length<=n:=by
 cases l<;>grind
theorem B2:∀{l:List Nat} {n:Nat},n∈l->n<=l.sum
 |a::l,n,h=>by
  rw[List.sum_cons];rcases List.mem_cons.1 h with rfl|h
  . simp
  . have:=B2 h;omega
theorem N6(hM:MOk ts){v:ab}(h:OkV v):wt v<=1099511627776->LenOk ts v:=by
 induction h with
 |mk v hs h1 h2 h3 hk hi hr n1 n2 n3 n4 ihk ihi=>
  intro hw t;have hwt:=wt_eq v;have LK:∀x,x∈v.Keys->LenOk ts x:=λx hx=>ihk x hx (by have:=bR hx;omega)
  have LI:=λx hx=>ihi x hx (by have:=bR hx;omega)
  have PK:=λt=>ur (t:=t) (by omega) LK
  have PI:=λt=>ur (t:=t) (by omega) LI
  have hx:∀m,m∈(ts.getD t.toNat ag).Members->m.ID<=1000:=by
   rcases Kv ts t.toNat ag with h|h
   . exact hM _ h
   . rw[h];intro m hm;cases hm
  have QI:=λt=>by
   have:((vpays ts t v.Items).headD []).length<=21*wts v.Items:=Ad λp hp=>by
    rw[Ab]at hp;obtain⟨x,hx,rfl⟩:=List.mem_map.1 hp;have:=LI x hx t;have:=bR hx;omega
   omega
  have RI:=A5 (λx hx=>⟨hr x hx,(n4 x hx).2⟩) trivial;have EI:=Ac (by omega) hx LI;have DI:((v.Rest.map aK.Data).headD []).length<=(v.Rest.map λx=>x.Data.length+1).sum:=Ad λp hp=>by
   obtain⟨x,hx,rfl⟩:=List.mem_map.1 hp;have:x.Data.length+1<=(v.Rest.map λx=>x.Data.length+1).sum:=B2 (List.mem_map.2 ⟨x,hx,rfl⟩);omega
  obtain⟨K,b,i,s,id,ks,is,r⟩:=v;simp only at*;rw[vpay];have hz:=nP 8 _ (vw n2);have hid:id.toNat<18446744073709551616:=by omega
  have hb:=nP 8 _ hid;have hp:=cP hid;generalize ts.getD t.toNat ag=x at*;split
  . grind
  . split
    . omega
    . split
      . omega
      . split
        . omega
        . split
          . rw[sZ (iE _ _),List.flatMap_append,List.length_append];omega
          . split
            . grind
            . split
              . grind
              . split
                . have:=rD (vpays ts x.Key ks) (vpays ts x.Elem is)
                  grind
                grind
end
theorem Qa(v:ab):10<=wt v:=by grind[wt_eq]
section
variable {ts:List ae}
theorem kV:∀{ms:List av} {l:List ab} {x:Fd},x∈vents ts ms l->∃m,m∈ms/\x.id=m.ID.toNat
 |[],l,x,h=>by
  grind[vents]
 |m::ms,[],x,h=>by
  grind[vents]
 |m::ms,v::l,x,h=>by
  rw[vents]at h;split at h
  . obtain⟨m',h1,h2⟩:=kV h
    grind
  . rcases List.mem_cons.1 h with rfl|h
    . simp
    . obtain⟨m',h1,h2⟩:=kV h
      grind
theorem zd{ms:List av}{l:List ab}{n:Nat}(h:∀m,m∈ms->m.ID.toNat≠n):((vents ts ms l).filter λx=>decide (x.id=n))=[]:=by
 grind[List.filter_eq_nil_iff,kV]
theorem yj:∀ {ms:List av} {l:List ab} {n j:Nat},ms.Pairwise (λa b=>a.ID.toNat≠b.ID.toNat)->l.length = ms.length->j<ms.length->(ms.getD j af).ID.toNat = n->
 ((vents ts ms l).filter λx=>decide (x.id=n))=if om (ms.getD j af) (l.getD j aj)=true then[]else[⟨n,(ms.getD j af).Critical,vpay ts (ms.getD j af).Type_ (l.getD j aj)⟩]
 |[],l,n,j,_,_,hj,_=>by grind
 |m::ms,[],n,j,_,hl,_,_=>by grind
 |m::ms,v::l,n,0,hd,hl,hj,he=>by
  rw[List.pairwise_cons]at hd;have hn:=zd (ts:=ts) (l:=l) (ms:=ms) (n:=n) λx hx=>by grind
  grind[vents]
 |m::ms,v::l,n,j+1,hd,hl,hj,he=>by
  rw[List.pairwise_cons]at hd;have hj':j<ms.length:=by grind
  have ih:=yj hd.2 (by simpa using hl) hj' he
  grind[vents]
theorem Kw(l:List aK)(n:Nat)(h:∀x,x∈l->0<=x.ID):((l.map rawF).filter λx=>decide (x.id=n))=(l.filter λx=>decide (x.ID=(n:Int))).map rawF:=by
 rw[List.filter_map]
 congr 1
 apply List.filter_congr;intro x hx;show decide (x.ID.toNat=n)=_
 grind
noncomputable def cV (ts:List ae) (ms:List av) (l:List ab) (r:List aK):List Fd:=vents ts ms l++r.map rawF
def MAsc(ms:List av):Prop:=ms.Pairwise (λa b=>a.ID<b.ID)/\∀m,m∈ms->I1000 m.ID
theorem B3{ms:List av}(h:MAsc ms):ms.Pairwise (λa b=>a.ID.toNat≠b.ID.toNat):=by
 refine h.1.imp_of_mem λ{a b} ha hb hlt=>?_
 have:=h.2 b hb
 grind[I1000]
theorem uu:∀{ms:List av} {l:List ab},ms.Pairwise (λa b=>a.ID.toNat≠b.ID.toNat)->(vents ts ms l).Pairwise (λa b=>a.id≠b.id)
 |[],l,_=>by
  simp_all[vents]
 |m::ms,[],_=>by
  simp_all[vents]
 |m::ms,v::l,h=>by
  rw[List.pairwise_cons]at h;rw[vents];split
  . exact uu h.2
  . rw[List.pairwise_cons];refine⟨λx hx=>?_,uu h.2⟩
    grind[kV]
theorem qN{ms:List av}{id:Int}(h:findM ms id=none):∀m,m∈ms->m.ID≠id:=by
 grind[findM]
theorem s5{ms:List av}{l:List ab}{r:List aK}(h:MAsc ms)(hr:dT ms r):cT ltF (cV ts ms l r)=true:=by
 apply Aa;have key:(cV ts ms l r).Pairwise (λa b=>a.id≠b.id):=by
  unfold cV;rw[List.pairwise_append];refine⟨uu (B3 h),?_,?_⟩
  . rw[List.pairwise_map];refine hr.1.imp_of_mem λ{a b} ha hb hlt=>?_
    have:=(hr.2 b hb).1;show a.ID.toNat≠b.ID.toNat
    grind[I1000]
  . intro x hx y hy;obtain⟨m,h1,h2⟩:=kV hx;obtain⟨q,h3,rfl⟩:=List.mem_map.1 hy;have h4:=qN (hr.2 q h3).2 m h1;have:=(hr.2 q h3).1;show x.id≠q.ID.toNat
    grind[I1000]
 grind[ltF]
theorem IX{ms:List av}{l:List ab}{r:List aK}(h:MAsc ms)(hr:dT ms r){x:Fd}(hx:x∈cV ts ms l r):1<=x.id/\x.id<=1000:=by
 rcases List.mem_append.1 hx with hx|hx
 . obtain⟨m,h1,h2⟩:=kV hx;have:=h.2 m h1
   grind[I1000]
 . obtain⟨q,h3,rfl⟩:=List.mem_map.1 hx;have:=(hr.2 q h3).1;unfold I1000 at*;show 1<=q.ID.toNat/\q.ID.toNat<=1000;omega
theorem B4:SWO ltF:=by refine⟨λx=>?_,λx y z h1 h2=>?_,λx y z h1 h2=>?_⟩<;>simp[ltF]at*<;>omega
theorem Im {l:List Fd} (hp:cT ltF l = true) (hr:∀ x,x∈l->1<=x.id/\x.id<=1000):
 isoB ltF l=(List.range' 1 1000).flatMap λn=>l.filter λx=>decide (x.id=n):=by
 refine yf hp (iE _ _) (zb _ _ List.nodup_range' l λx hx=>?_) (qp B4 l) (IW _ 1 _ l)
 grind
end
section
variable {ts:List ae} {pl:Bool}
theorem aY:∀{l:List ab} {t:Int},vfits ts pl t l↔∀x,x∈l->vfit ts pl t x
 |[],t=>by grind[vfits]
 |v::l,t=>by
  rw[vfits,aY];simp
theorem dO:∀{ms:List av} {l:List ab},vfitm ts pl ms l↔l.length=ms.length/\∀i,i<ms.length->vfit ts pl (ms.getD i af).Type_ (l.getD i aj)
 |[],[]=>by
  grind[vfitm]
 |[],v::l=>by
  grind[vfitm]
 |m::ms,[]=>by
  grind[vfitm]
 |m::ms,v::l=>by
  rw[vfitm,dO];constructor
  . grind
  . rintro ⟨h1,h2⟩
    exact⟨h2 0 (by simp),by grind,λi hi=>h2 (i+1) (by grind)⟩
end
def SaysP(o:Option Bool)(P:Prop):Prop:=∃r,o=some r/\(r=true↔P)
theorem SaysP.imp{o:Option Bool}{P Q:Prop}(h:SaysP o P)(e:P↔Q):SaysP o Q:=by grind
theorem SaysP.of{b:Bool}{P:Prop}(e:b=true↔P):SaysP (some b) P:=⟨b,rfl,e⟩
theorem SaysP.loop {L:Nat->Option (Bool ⊕ Unit)} {n:Nat} {p:Nat->Bool} {g:Unit} {o:Option (Bool ⊕ Unit)} (h0:o = L 0) (hstep:∀ i,i<n->L i = if p i = true then L (i+1) else some (.inl false)) (hend:L n = some (.inr g)):
 SaysP (o>>=λo=>match o with|.inl x=>some x|.inr _=>some true) (∀i,i<n->p i=true):=by
 subst h0;rcases scan L n p _ _ hstep hend with⟨h1,h2⟩|⟨h1,j,h2,h3⟩
 . rw[h1];exact⟨true,rfl,by grind⟩
 . rw[h1];refine⟨false,rfl,?_⟩
   grind
theorem rE{α:Type}(f:α->Int)(d:α):∀l:List α,l.Pairwise (λa b=>f a<f b)↔∀i,i+1<l.length->f (l.getD i d)<f (l.getD (i+1) d)
 |[]=>by simp
 |[a]=>by simp
 |a::b::l=>by
  rw[List.pairwise_cons,rE f d _];constructor
  . rintro ⟨h1,h2⟩ i hi
    cases i<;>simp_all
  . intro h;have h2:∀i,i+1<(b::l).length->f ((b::l).getD i d)<f ((b::l).getD _ d):=λi hi=>h (i+1) (by simpa using hi)
    have h0:=h 0 (by simp);have h3:=(rE f d _).2 h2;rw[List.pairwise_cons]at h3
    grind
section
variable {ts:List ae}
def FitS(ts:List ae)(x:ab):Prop:=∀t pl,SaysP (bX ((⟨ts⟩:au),t,x,pl)) (vfit ts pl t x)
theorem A6{l:List ab}(hl:l.length<=reachBytes)(ih:∀x,x∈l->FitS ts x)(t:Int)(pl:Bool):SaysP (eN ((⟨ts⟩:au),t,l,pl)) (vfits ts pl t l):=by
 have hr:=aZ hl
 let p:Nat->Bool:=λi=>(bX (⟨ts⟩,t,l.getD i aj,pl)).getD false
 have hp:∀i,i<l.length->bX (⟨ts⟩,t,l.getD i aj,pl)=some (p i)/\(p i=true↔vfit ts pl t (l.getD i aj)):=by
  intro i hi;obtain⟨r,h1,h2⟩:=ih _ (aB hi aj) t pl
  grind
 rw[eN];refine(SaysP.loop (L:=λi=>dA (t,l,pl,(i:Int),ts)) (n:=l.length) (p:=p) (g:=()) rfl (λi hi=>?_) ?_).imp ?_
 . rw[dA,if_pos (by simp;omega),if_pos (aq hi)];simp only[ab.aD,aA];rw[(hp i hi).1,aC (by omega)]
   grind
 . simp_all[dA,if_neg]
 grind[aY,List.getElem_of_mem]
theorem qA{l:List av}{id:Int}{r:Int×Bool}(h:jY l id r):(r.2=true/\∃j:Nat,j<l.length/\r.1=(j:Int)/\findM l id=some (l.getD j af)/\(l.getD j af).ID=id)\/(r.2=false/\findM l id=none):=by
 rcases h with⟨j,h1,h2,h3,rfl⟩|⟨h1,rfl⟩
 . refine .inl ⟨rfl,j,h1,rfl,?_,h2⟩;unfold findM;rw[List.find?_eq_some_iff_getElem];refine⟨by grind,j,h1,(bZ h1 _).symm,λk hk=>?_⟩
   grind
 grind[findM,List.getElem_of_mem]
theorem MU{t:ae}(ht:t.Members.length<9223372036854775807){l:List aK}(hl:l.length<=reachBytes):SaysP (jn (t,l)) (dT t.Members l):=by
 have hr:=aZ hl
 let p:Nat->Bool:=λi=>!((bC (t,(l.getD i aE).ID)).getD (0,false)).2&&(bif decide (1<=(l.getD i aE).ID)then decide ((l.getD i aE).ID<=1000)else false)&&(!(decide ((0:Int)<(i:Int))) || !(decide ((l.getD i aE).ID<=(l.getD (subI .i64 (i:Int) 1).toNat aE).ID)))
 refine(SaysP.loop (L:=λi=>db (l,(i:Int),t)) (n:=l.length) (p:=p) (g:=()) rfl (λi hi=>?_) ?_).imp ?_
 . obtain⟨r,h1,h2,_⟩:=iv (t:=t) (l.getD i aE).ID ht;have hpi:p i=(!r.2&&(bif decide (1<=(l.getD i aE).ID)then decide ((l.getD i aE).ID<=1000)else false)&&(!(decide ((0:Int)<(i:Int))) || !(decide ((l.getD i aE).ID<=(l.getD (subI .i64 (i:Int) 1).toNat aE).ID)))):=by grind
   rw[hpi,db,if_pos (by grind),if_pos (aq hi)];simp only[aA];rw[h2,aC (by omega)];have hid:cb ((l.getD i aE).ID,r.2)=some ((!r.2)&&(bif decide (1<=(l.getD i aE).ID)then decide ((l.getD i aE).ID<=1000)else false)):=by
    grind[cb]
   show(if inR (i:Int) l.length=true then cb _>>=_ else none)=_;rw[if_pos (aq hi),hid]
   exact yi _ _ _ _ _ _ _ _ (aq hi) (λhz=>by
    grind[iG,aq])
 . simp_all[db,if_neg]
 . unfold dT;rw[rE (λa:aK=>a.ID) aE];have key:∀i,i<l.length->(p i=true↔(I1000 (l.getD i aE).ID/\findM t.Members (l.getD i aE).ID=none)/\(i=0\/(l.getD (i-1) aE).ID<(l.getD i aE).ID)):=by
    intro i hi;obtain⟨r,h1,h2,hf⟩:=iv (t:=t) (l.getD i aE).ID ht;have hpi:p i=(!r.2&&(bif decide (1<=(l.getD i aE).ID)then decide ((l.getD i aE).ID<=1000)else false)&&(!(decide ((0:Int)<(i:Int))) || !(decide ((l.getD i aE).ID<=(l.getD (subI .i64 (i:Int) 1).toNat aE).ID)))):=by grind
    rw[hpi];have hn:r.2=false↔findM t.Members (l.getD i aE).ID=none:=by
     grind[qA]
    unfold I1000;by_cases h0:i=0
    . grind
    . have hz:decide ((0:Int)<(i:Int))=true:=by grind
      rw[hz,iG (by omega) (by omega),aA]
      grind
   constructor
   . intro h;refine⟨λi hi=>?_,λx hx=>?_⟩
     . grind
     . obtain⟨i,hi,rfl⟩:=List.getElem_of_mem hx;simp_all
   . rintro ⟨h1,h2⟩ i hi
     refine(key i hi).2 ⟨h2 _ (aB hi aE),?_⟩;by_cases h0:i=0
     . omega
     . have e:i-1+1=i:=by omega
       grind
theorem LN {t:ae} {v:ab} (hl:v.Items.length = t.Members.length) (hr:t.Members.length<9223372036854775807) (ih:∀ x,x∈v.Items->FitS ts x) (pl:Bool):
 SaysP (cK (pl,0,ts,v,t.Kind,t.Name,t.Low,t.High,t.Max,t.Symbols,t.Members,t.Key,t.Elem,t.Open)>>=λo=>match o with|.inl o_1=>some o_1|.inr _=>some true) (vfitm ts pl t.Members v.Items):=by
 let p:=λi=>(bX (⟨ts⟩,(t.Members.getD i af).Type_,v.Items.getD i aj,pl)).getD false
 have hp:∀i,i<t.Members.length->bX (⟨ts⟩,(t.Members.getD i af).Type_,v.Items.getD i aj,pl)=some (p i)/\(p i=true↔vfit ts pl (t.Members.getD i af).Type_ (v.Items.getD i aj)):=by
  intro i hi;obtain⟨r,h1,h2⟩:=ih _ (aB (by omega:i<v.Items.length) aj) (t.Members.getD i af).Type_ pl
  grind
 refine(SaysP.loop (L:=λi=>cK (pl,(i:Int),ts,v,t.Kind,t.Name,t.Low,t.High,t.Max,t.Symbols,t.Members,t.Key,t.Elem,t.Open)) (n:=t.Members.length) (p:=p) (g:=()) rfl (λi hi=>?_) ?_).imp ?_
 . rw[cK,if_pos (aq hi),if_pos (aq (by omega))]
   grind[aA,ab.aD,aC]
 . simp_all[cK]
 grind[dO]
theorem MV {v:ab} (hr:v.Keys.length<9223372036854775807) (hk:∀ x,x∈v.Keys->OkV x):
 SaysP (cj (1,v)>>=λo_3=>match o_3 with|.inl o_4=>some o_4|.inr _=>some true) (jN v.Keys):=by
 by_cases h0:v.Keys.length=0
 . rw[cj,if_neg (by grind)];refine⟨true,rfl,?_⟩;simp_all[jN,true_iff]
 refine(SaysP.loop (L:=λi=>cj ((i+1:Nat),v)) (n:=v.Keys.length-1) (p:=λi=>!(decide (0<=vcmp (v.Keys.getD i aj) (v.Keys.getD (i+1) aj)))) (g:=()) rfl (λi hi=>?_) ?_).imp ?_
 . have hs':subI .i64 (i+1:Nat) 1=i:=by rw[iG (by simp) (by omega)];rfl
   obtain⟨r,c1,c2⟩:=xG (rC (hk _ (aB (by omega:i<v.Keys.length) aj))) (rC (hk _ (aB (by omega:i+1<v.Keys.length) aj)));have hv:vcmp (v.Keys.getD i aj) (v.Keys.getD (i+1) aj)=r:=by grind[vcmp]
   rw[hv,cj];simp only[oZ4,oZ3];rw[hs',if_pos (aq (by omega)),if_pos (aq (by omega))];simp only[aA,ab.aD];rw[c2,aC (by omega)]
   grind
 . have e:v.Keys.length-1+1=v.Keys.length:=by omega
   simp_all[cj,if_neg]
 grind[jN]
theorem ck (pl:Bool) (t:Int) (v:ab):vfit ts pl t v ↔
 (0<=t/\t<ts.length/\v.Kind=(ts.getD t.toNat ag).Kind/\(pl=true->v.Rest=[]))/\
 (v.Kind=1/\v.Int_=0/\v.Str=[]/\v.ID=0/\v.Keys=[]/\v.Items=[]/\v.Rest=[]\/
 v.Kind=2/\v.Bool_=false/\v.Str=[]/\v.ID=0/\v.Keys=[]/\v.Items=[]/\v.Rest=[]/\(ts.getD t.toNat ag).Low<=v.Int_/\v.Int_<=(ts.getD t.toNat ag).High\/
 v.Kind=3/\v.Bool_=false/\v.Int_=0/\v.ID=0/\v.Keys=[]/\v.Items=[]/\v.Rest=[]/\(v.Str.length:Int)<=(ts.getD t.toNat ag).Max\/
 v.Kind=4/\v.Bool_=false/\v.Int_=0/\v.Str=[]/\v.Keys=[]/\v.Items=[]/\v.Rest=[]/\((∃y,y∈(ts.getD t.toNat ag).Symbols/\y.ID=v.ID)\/(ts.getD t.toNat ag).Open=true/\pl=false/\I1000 v.ID)\/
 v.Kind=5/\v.Bool_=false/\v.Int_=0/\v.Str=[]/\v.ID=0/\v.Keys=[]/\dT (ts.getD t.toNat ag).Members v.Rest/\vfitm ts pl (ts.getD t.toNat ag).Members v.Items\/
 v.Kind=6/\v.Bool_=false/\v.Int_=0/\v.Str=[]/\v.Keys=[]/\(match findM (ts.getD t.toNat ag).Members v.ID with
  |some m=>v.Rest=[]/\v.Items.length=1/\vfits ts pl m.Type_ v.Items
  |none=>(ts.getD t.toNat ag).Open=true/\pl=false/\I1000 v.ID/\v.Items=[]/\∃d,v.Rest=[⟨v.ID,d⟩])\/
 v.Kind=7/\v.Bool_=false/\v.Int_=0/\v.Str=[]/\v.ID=0/\v.Keys=[]/\v.Rest=[]/\(v.Items.length:Int)<=(ts.getD t.toNat ag).Max/\vfits ts pl (ts.getD t.toNat ag).Elem v.Items\/
 v.Kind=8/\v.Bool_=false/\v.Int_=0/\v.Str=[]/\v.ID=0/\v.Rest=[]/\(v.Keys.length:Int)<=(ts.getD t.toNat ag).Max/\v.Items.length=v.Keys.length/\vfits ts pl (ts.getD t.toNat ag).Key v.Keys/\vfits ts pl (ts.getD t.toNat ag).Elem v.Items/\jN v.Keys\/
 v.Kind=9/\v.Bool_=false/\v.Int_=0/\v.Str=[]/\v.ID=0/\v.Keys=[]/\v.Rest=[]/\v.Items.length<=1/\vfits ts pl (ts.getD t.toNat ag).Elem v.Items):=by
 cases v;rfl
end
def ZeroV(v:ab):Prop:=(v.Kind=1\/v.Bool_=false)/\(v.Kind=2\/v.Int_=0)/\(v.Kind=3\/v.Str=[])/\((v.Kind=4\/v.Kind=6)\/v.ID=0)/\(v.Kind=8\/v.Keys=[])/\(5<=v.Kind\/v.Items=[])/\((v.Kind=5\/v.Kind=6)\/v.Rest=[])
theorem MW(v:ab):SaysP (jm v) (ZeroV v):=by
 rw[jm];refine .of ?_;unfold ZeroV;have e:∀{α:Type} (l:List α),((l.length:Int)=0)↔l=[]:=λl=>by simp_all
 grind
theorem cutS{z b:Bool}{o:Option Bool}{P Z Q:Prop}(hz:z=true↔Z)(hb:b=false↔Q)(ho:SaysP o P):SaysP (if(bif (bif false then true else(!z))then true else b)=true then some false else o) (Z/\Q/\P):=by
 obtain⟨r,rfl,h⟩:=ho;cases z with
 |false=>
  refine⟨false,rfl,?_⟩
  grind
 |true=>
  cases b with
  |true=>refine⟨false,rfl,?_⟩;simp at hb;simp[hb]
  |false=>refine⟨r,rfl,?_⟩;simp at hz hb;simp[hz,hb,h]
theorem and2S{q:Bool}{o:Option Bool}{P Q:Prop}(hq:q=true↔Q)(ho:SaysP o P):SaysP (some q>>=λt244=>(if t244=true then o else some false)>>=λr_10=>some (bif t244 then r_10 else false)) (Q/\P):=by
 obtain⟨r,rfl,h⟩:=ho;refine⟨q&&r,by cases q<;>cases r<;>rfl,?_⟩
 grind
theorem and5S {A:Bool} {ro L:Option Bool} {PA PR PM:Prop} (hA:A = true ↔ PA) (hr:SaysP ro PR) (hM:A = true->SaysP L PM):
 SaysP (some (!A)>>=λt107=>(if(!t107)=true then ro else some false)>>=λr_5=>if(bif t107 then true else(!r_5))=true then some false else L) (PA/\PR/\PM):=by
 obtain⟨q,rfl,hq⟩:=hr;cases A with
 |false=>refine⟨false,rfl,?_⟩;simp at hA;simp[hA]
 |true=>
  obtain⟨m,rfl,hm⟩:=hM rfl;cases q with
  |false=>refine⟨false,rfl,?_⟩;simp at hq;simp[hq]
  |true=>refine⟨m,rfl,?_⟩;simp at hA hq;simp[hA,hq,hm]
theorem and8S {c:Bool} {ok oi L:Option Bool} {PC PK PI PQ:Prop} (hc:c = false ↔ PC) (hk:SaysP ok PK) (hi:SaysP oi PI) (hL:SaysP L PQ):
 SaysP (some c>>=λt239=>(if(!t239)=true then ok else some false)>>=λr_12=>some (bif t239 then true else(!r_12))>>=λt249=>(if(!t249)=true then oi else some false)>>=λr_13=>if(bif t249 then true else(!r_13))=true then some false else L) (PC/\PK/\PI/\PQ):=by
 obtain⟨k,rfl,hk⟩:=hk;obtain⟨i,rfl,hi⟩:=hi;obtain⟨q,rfl,hq⟩:=hL;rw[<-hc,<-hk,<-hi,<-hq];cases c<;>cases k<;>cases i<;>exact⟨_,rfl,by simp⟩
theorem LO{l:List aO}{id:Int}{r:Int×Bool}(h:lL l id r):r.2=true↔∃y,y∈l/\y.ID=id:=by
 rcases h with⟨j,h1,h2,h3,rfl⟩|⟨h1,rfl⟩
 . grind
 . constructor
   . grind
   . rintro ⟨y,hy,he⟩
     obtain⟨i,hi,rfl⟩:=List.getElem_of_mem hy
     grind
section
variable {ts:List ae} (hn:ts.length<9223372036854775807) (hT:∀t,t∈ts->OkT t) (hK:∀t,t∈ts->dq t.Kind)
include hn hT hK in
theorem uN{v:ab}(hv:OkV v):FitS ts v:=by
 induction hv with
 |mk v hs h1 h2 h3 hk hi hrd n1 n2 n3 n4 ihk ihi=>
  intro t pl;rw[bX];by_cases hout:(bif decide (t<0)then true else decide (((⟨ts⟩:au).Types.length:Int)<=t))=true
  . rw[if_pos hout];refine⟨false,rfl,?_⟩;rw[ck]
    grind
  . rw[if_neg hout];have hin:0<=t/\t<ts.length:=by grind
    obtain⟨j,rfl⟩:∃j:Nat,t=(j:Int):=⟨t.toNat,by omega⟩
    have hj:j<ts.length:=by omega
    rw[if_pos (aq hj)];simp only[ck,aA,ab.aD];have hxT:=hT _ (aB hj ag);have hxK:=hK _ (aB hj ag);generalize ts.getD j ag=x at hxT hxK⊢;have hm:=aZ (cr hxT.mems);have hsy:=aZ (cr hxT.syms);by_cases hkd:v.Kind=x.Kind
    . obtain⟨z,z1,z2⟩:=MW v;have hitems:=A6 (ts:=ts) h2 ihi;have hkeys:=A6 (ts:=ts) h1 ihk;show SaysP ((if(!(!(decide (v.Kind=x.Kind))))=true then jm v else some false)>>=_) _;rw[if_pos (by simp[hkd]),z1];obtain⟨K,N,L,H,M,S,Ms,Ke,E,O⟩:=x;obtain⟨vK,B,I,Sx,ID,Ks,Is,R⟩:=v;simp only at hkd;subst hkd;simp only at hxK hm hsy h1 h2 h3 z1
      have hb:(bif pl then decide (0<(R.length:Int))else false)=false↔(pl=true->R=[]):=by simp_all
      have hc:vK=1\/vK=2\/vK=3\/vK=4\/vK=5\/vK=6\/vK=7\/vK=8\/vK=9:=by unfold dq at hxK;omega
      have cut:∀ {o:Option Bool} {P W:Prop},SaysP o P->((ZeroV ⟨vK,B,I,Sx,ID,Ks,Is,R⟩/\(pl = true->R = [])/\P) ↔ W)->
       SaysP (some z>>=λr=>if(bif (bif false then true else(!r))then true else bif pl then decide (0<(R.length:Int))else false)=true then some false else o) W:=λho hw=>(cutS z2 hb ho).imp hw
      have hz:(0:Int)<=j/\(j:Int)<ts.length:=hin;rcases hc with rfl|rfl|rfl|rfl|rfl|rfl|rfl|rfl|rfl
      . exact cut (P:=True) (.of (b:=true) (by simp)) (by unfold ZeroV;simp[hz];grind)
      . exact cut (P:=L<=I/\I<=H) (.of (b:=bif decide (L<=I)then decide (I<=H)else false) (by by_cases g:L<=I<;>simp[g])) (by unfold ZeroV;simp[hz];grind)
      . exact cut (P:=(Sx.length:Int)<=M) (.of (b:=decide ((Sx.length:Int)<=M)) (by simp)) (by unfold ZeroV;simp[hz];grind)
      . obtain⟨r,_,r2,hf⟩:=nh (t:=⟨4,N,L,H,M,S,Ms,Ke,E,O⟩) ID hsy;have hid:cb (ID,false)=some (bif decide (1<=ID)then decide (ID<=1000)else false):=by rfl
        have h4:=k4r r2 O pl _ (λb=>cb (ID,b)) hid;have hs:=LO hf;simp only at hs;refine cut (P:=(∃y,y∈S/\y.ID=ID)\/O=true/\pl=false/\I1000 ID) ⟨_,h4,?_⟩ (by unfold ZeroV;simp[hz];grind);rw[<-hs];unfold I1000
        grind
      . refine cut (P:=Is.length=Ms.length/\dT Ms R/\vfitm ts pl Ms Is) ?_ (by
         have:vfitm ts pl Ms Is->Is.length=Ms.length:=λh=>(dO.1 h).1
         unfold ZeroV;simp[hz];grind)
        exact and5S (A:=decide ((Is.length:Int)=(Ms.length:Int))) (by simp;omega) (MU (t:=⟨5,N,L,H,M,S,Ms,Ke,E,O⟩) hm h3) (λhA=>LN (ts:=ts) (t:=⟨5,N,L,H,M,S,Ms,Ke,E,O⟩) (v:=⟨5,B,I,Sx,ID,Ks,Is,R⟩) (y9 hA) hm ihi pl)
      . obtain⟨r,_,r2,hf⟩:=iv (t:=⟨6,N,L,H,M,S,Ms,Ke,E,O⟩) ID hm;have hid:∀b,b=false->cb (ID,b)=some (bif decide (1<=ID)then decide (ID<=1000)else false):=by
         intro b hb;subst hb;rfl
        have hR0:decide ((R.length:Int)=1)=true->inR 0 R.length=true:=by
         intro h;have:=of_decide_eq_true h;exact aq (k:=0) (by omega)
        refine cut (P:=match findM Ms ID with
         |some m=>R=[]/\Is.length=1/\vfits ts pl m.Type_ Is
         |none=>O=true/\pl=false/\I1000 ID/\Is=[]/\∃d,R=[⟨ID,d⟩]) ?_ (by
          unfold ZeroV;simp[hz]
          grind)
        obtain⟨ri,rk⟩:=r;show SaysP (bO (⟨6,N,L,H,M,S,Ms,Ke,E,O⟩,ID)>>=_) _;rw[r2];rcases qA hf with⟨e,k,k1,k2,k3,k4⟩|⟨e,k3⟩
        . simp only at e k1 k2 k3 k4;subst e;subst k2;rw[k3];have hX:∃f:Bool,((bif decide ((Is.length:Int)=1)then decide ((R.length:Int)=0)else false)=true->bX ((⟨ts⟩:au),(Ms.getD (k:Int).toNat af).Type_,Is.getD (0:Int).toNat aj,pl)=some f)/\(Is.length=1->(f=true↔vfits ts pl (Ms.getD k af).Type_ Is)):=by
           by_cases h1':Is.length=1
           . obtain⟨f,f1,f2⟩:=ihi (Is.getD 0 aj) (aB (by omega:0<Is.length) aj) (Ms.getD k af).Type_ pl;refine⟨f,λ_=>f1,λ_=>?_⟩;rw[f2]
             match Is,h1' with
             |[y],_=>rw[aY];simp
           . refine⟨false,λh=>?_,λh=>absurd h h1'⟩
             grind
          obtain⟨f,f1,f2⟩:=hX;have hidx:(bif decide ((Is.length:Int)=1)then decide ((R.length:Int)=0)else false)=true->inR (k:Int) Ms.length=true/\inR 0 Is.length=true:=by
           intro hc';refine⟨aq k1,?_⟩;by_cases h1':Is.length=1
           . exact aq (k:=0) (by omega)
           grind
          refine⟨_,k6k _ (inR (k:Int) Ms.length) (inR 0 Is.length) f f1 hidx,?_⟩;by_cases g1:Is.length=1
          . simp_all
          grind
        . simp only at e k3;subst e;rw[k3];refine⟨_,k6u (bif O then(!pl)else false) (bif decide (1<=ID)then decide (ID<=1000)else false) (decide ((Is.length:Int)=0)) (decide ((R.length:Int)=1)) (inR 0 R.length) (decide ((R.getD (0:Int).toNat aE).ID=ID)) hR0,?_⟩;unfold I1000
          match R with
          |[]=>simp
          |[⟨rid,rd⟩]=>cases O<;>cases pl<;>by_cases g1:1<=ID<;>by_cases g2:ID<=1000<;>cases Is<;>by_cases g3:rid=ID<;>simp[g1,g2,g3]<;>omega
          |a::b::c=>simp;omega
      . exact cut (P:=(Is.length:Int)<=M/\vfits ts pl E Is) (and2S (by simp) (hitems E pl)) (by unfold ZeroV;simp[hz];grind)
      . refine cut (P:=((Ks.length:Int)<=M/\Is.length=Ks.length)/\vfits ts pl Ke Ks/\vfits ts pl E Is/\jN Ks) ?_ (by unfold ZeroV;simp[hz];grind);refine and8S (c:=bif decide (M<(Ks.length:Int))then true else(!(decide ((Is.length:Int)=(Ks.length:Int))))) ?_ (hkeys Ke pl) (hitems E pl) (MV (v:=⟨8,B,I,Sx,ID,Ks,Is,R⟩) (aZ h1) hk)
        grind
      . exact cut (P:=Is.length<=1/\vfits ts pl E Is) (and2S (q:=decide ((Is.length:Int)<=1)) (by simp;omega) (hitems E pl)) (by unfold ZeroV;simp[hz];grind)
    . refine⟨false,by simp[hkd],?_⟩
      grind
end
theorem bu{α:Type}{l:List α}{i:Nat}(h:i<l.length)(d:α):l.drop i=l.getD i d::l.drop (i+1):=by simp_all
theorem OX{m:av}{v:ab}(hv:OkV v)(hd:m.HasDefault=true):cu (v,m.Default)=some (om m v):=by
 obtain⟨r,h1,h2⟩:=rB hv m.Default;rw[h1];unfold om
 grind
structure SOk (ts:List ae):Prop where
 n:ts.length<=1000
 T:∀t,t∈ts->OkT t
 K:∀t,t∈ts->dq t.Kind
 M:MOk ts
 A:∀x,x∈ts->(x.Kind=5\/x.Kind=6)->MAsc x.Members/\x.Members.length<=16
 S:∀x,x∈ts->x.Kind=4->∀y,y∈x.Symbols->I1000 y.ID
 Ky:∀x,x∈ts->x.Kind=8->1<=(ts.getD x.Key.toNat ag).Kind/\(ts.getD x.Key.toNat ag).Kind<=4
section
variable {ts:List ae}
theorem vpay1{t:Int}{v:ab}(h:(ts.getD t.toNat ag).Kind=1):vpay ts t v=if v.Bool_=true then[1]else[]:=by cases v;rw[vpay];simp only[h];rfl
theorem vpay2{t:Int}{v:ab}(h:(ts.getD t.toNat ag).Kind=2):vpay ts t v=vbig (zig v.Int_).toNat:=by cases v;rw[vpay];simp only[h];rfl
theorem vpay3{t:Int}{v:ab}(h:(ts.getD t.toNat ag).Kind=3):vpay ts t v=v.Str:=by cases v;rw[vpay];simp only[h];rfl
theorem vpay4{t:Int}{v:ab}(h:(ts.getD t.toNat ag).Kind=4):vpay ts t v=vbig v.ID.toNat:=by cases v;rw[vpay];simp only[h];rfl
theorem vpay5{t:Int}{v:ab}(h:(ts.getD t.toNat ag).Kind=5):vpay ts t v=(isoB ltF (cV ts (ts.getD t.toNat ag).Members v.Items v.Rest)).flatMap Fd.text:=by cases v;rw[vpay];simp only[h];rfl
theorem vpay6 {t:Int} {v:ab} (h:(ts.getD t.toNat ag).Kind = 6):vpay ts t v = vput v.ID.toNat++(match findM (ts.getD t.toNat ag).Members v.ID with
 |some m=>(vpays ts m.Type_ v.Items).headD []
 |none=>(v.Rest.map aK.Data).headD []):=by
 cases v;rw[vpay];simp only[h];rfl
theorem vpay7{t:Int}{v:ab}(h:(ts.getD t.toNat ag).Kind=7):vpay ts t v=(vpays ts (ts.getD t.toNat ag).Elem v.Items).flatMap bB:=by cases v;rw[vpay];simp only[h];rfl
theorem vpay8{t:Int}{v:ab}(h:(ts.getD t.toNat ag).Kind=8):vpay ts t v=ilv (vpays ts (ts.getD t.toNat ag).Key v.Keys) (vpays ts (ts.getD t.toNat ag).Elem v.Items):=by cases v;rw[vpay];simp only[h];rfl
theorem vpay9 {t:Int} {v:ab} (h:(ts.getD t.toNat ag).Kind = 9):vpay ts t v = match vpays ts (ts.getD t.toNat ag).Elem v.Items with
 |[]=>[]
 |p::_=>1::p:=by
 cases v;rw[vpay];simp only[h];rfl
theorem B5 (t:Int) (v:ab):vlev ts t v = 1+max (if v.Keys = [] then 0 else 1) (if (ts.getD t.toNat ag).Kind = 5 then vlevm ts (ts.getD t.toNat ag).Members v.Items
 else if(ts.getD t.toNat ag).Kind=6 then(match findM (ts.getD t.toNat ag).Members v.ID with
  |some m=>vlevs ts m.Type_ v.Items
  |none=>0)
 else vlevs ts (ts.getD t.toNat ag).Elem v.Items):=by
 cases v;rw[vlev];try rfl
theorem MX{t:Int}{v:ab}(hk:v.Keys=[])(hi:v.Items=[]):vlev ts t v=1:=by
 rw[B5,hk,hi];have h1:vlevs ts (ts.getD t.toNat ag).Elem []=0:=by rw[vlevs]
 have h2:vlevm ts (ts.getD t.toNat ag).Members []=0:=by rw[vlevm];intros;simp_all
 rw[h1,h2]
 have h3:(match findM (ts.getD t.toNat ag).Members v.ID with
  |some m=>vlevs ts m.Type_ []
  |none=>0)=0:=by
  split
  . rw[vlevs]
  . rfl
 grind
end
section
variable {ts:List ae} (H:SOk ts)
theorem u7(H:SOk ts){v:ab}(hv:OkV v)(hw:wt v<=1099511627776)(t:Int):(vpay ts t v).length<=23089744183296:=by
 have:=N6 H.M hv hw t;omega
end
section
variable {ts:List ae}
def Rp(ts:List ae)(x:ab)(t:Int):Prop:=cH ((⟨ts⟩:au),t,x)=some (vpay ts t x)
theorem A7 {x:ae} {v:ab} (hlen:∀ y,y∈v.Items->(vpay ts x.Elem y).length<=1000000000000000) (hw:∀ y,y∈v.Items->Rp ts y x.Elem) (hl:v.Items.length<=reachBytes):
 ∀(k i:Nat) (acc:List UInt8),i+k=v.Items.length->acc.length+((vpays ts x.Elem (v.Items.drop i)).flatMap bB).length<=70368744177664->
 iU (acc,(i:Int),ts,v,x)=some (acc++(vpays ts x.Elem (v.Items.drop i)).flatMap bB)
 |0,i,acc,hi,ha=>by
  rw[iU,if_neg (by simp;omega),List.drop_eq_nil_of_le (by omega:v.Items.length<=i),vpays];simp
 |k+1,i,acc,hi,ha=>by
  have hlt:i<v.Items.length:=by omega
  have hr:=aZ hl;have hmem:v.Items.getD i aj∈v.Items:=aB hlt aj;rw[bu hlt aj,vpays,List.flatMap_cons,List.length_append]at ha;have hp:=hlen _ hmem;have hW:=hw _ hmem;unfold Rp at hW;rw[iU,if_pos (by simp;omega),if_pos (aq hlt)];simp only[oZ4,oZ3,aA,ab.aD];rw[hW];simp only[oZ3];rw[qz (by omega)];simp only[oZ3]
  rw[if_pos (bz (by omega)),aC (by omega),A7 hlen hw hl k (i+1) _ (by omega) (by rw[List.length_append];omega),bu hlt aj,vpays,List.flatMap_cons,List.append_assoc]
theorem B6 {x:ae} {v:ab} (hkl:v.Items.length = v.Keys.length) (hlen:∀ y,y∈v.Items->(vpay ts x.Elem y).length<=1000000000000000) (hlenk:∀ y,y∈v.Keys->(vpay ts x.Key y).length<=1000000000000000)
 (hw:∀y,y∈v.Items->Rp ts y x.Elem) (hwk:∀y,y∈v.Keys->Rp ts y x.Key) (hl:v.Items.length<=reachBytes):
 ∀(k i:Nat) (acc:List UInt8),i+k=v.Items.length->acc.length+(ilv (vpays ts x.Key (v.Keys.drop i)) (vpays ts x.Elem (v.Items.drop i))).length<=70368744177664->
 iV (acc,(i:Int),ts,v,x)=some (acc++ilv (vpays ts x.Key (v.Keys.drop i)) (vpays ts x.Elem (v.Items.drop i)))
 |0,i,acc,hi,ha=>by
  rw[iV,if_neg (by simp;omega),List.drop_eq_nil_of_le (by omega:v.Items.length<=i),List.drop_eq_nil_of_le (by omega:v.Keys.length<=i),vpays,vpays,ilv]
  . simp
  grind
 |k+1,i,acc,hi,ha=>by
  have hlt:i<v.Items.length:=by omega
  have hlt2:i<v.Keys.length:=by omega
  have hr:=aZ hl;have hmem:v.Items.getD i aj∈v.Items:=aB hlt aj;have hmem2:v.Keys.getD i aj∈v.Keys:=aB hlt2 aj;rw[bu hlt aj,bu hlt2 aj,vpays,vpays,ilv,List.length_append,List.length_append]at ha;have hp:=hlen _ hmem;have hp2:=hlenk _ hmem2;have hW:=hw _ hmem;have hW2:=hwk _ hmem2;unfold Rp at hW hW2;rw[iV,if_pos (by simp;omega),if_pos (aq hlt2)]
  simp only[oZ4,oZ3,aA,ab.aD];rw[hW2];simp only[oZ3];rw[qz (by omega)];simp only[oZ3];rw[if_pos (bz (by omega)),if_pos (aq hlt),hW];simp only[oZ3];rw[qz (by omega)];simp only[oZ3]
  rw[if_pos (bz (by rw[List.length_append];omega)),aC (by omega),B6 hkl hlen hlenk hw hwk hl k (i+1) _ (by omega) (by rw[List.length_append,List.length_append];omega),bu hlt aj,bu hlt2 aj,vpays,vpays,ilv,List.append_assoc,List.append_assoc]
def cW(R:List aK)(n:Nat):List Fd:=(R.filter λx=>decide (x.ID=(n:Int))).map rawF
theorem LP{a:aK}{l:List aK}{n:Nat}(h:a.ID=(n:Int)):cW (a::l) n=rawF a::cW l n:=by unfold cW;rw[List.filter_cons,if_pos (by rw[h];simp),List.map_cons]
theorem MY{a:aK}{l:List aK}{n:Nat}(h:¬a.ID=(n:Int)):cW (a::l) n=cW l n:=by unfold cW;rw[List.filter_cons,if_neg (by simpa using h)]
theorem refOm {γ:Type} {m:av} {w:ab} (hw:OkV w) (A B:Option γ):
 ((if(!(!m.HasDefault))=true then cu (w,m.Default)else some false).bind λr_19=>if(bif (!m.HasDefault)then true else(!r_19))=true then A else B)=if om m w=true then B else A:=by
 cases hd:m.HasDefault with
 |false=>
  have:om m w=false:=by unfold om;rw[hd];rfl
  rw[this];rfl
 |true=>
  have:=OX hw hd;simp only[Bool.not_true,Bool.not_false,if_true,this];cases om m w<;>rfl
theorem ua {x:ae} {v:ab} (hr:∀ y,y∈v.Rest->y.Data.length<=reachBytes) (hR:v.Rest.length<=reachBytes) (n:Nat) (hn:n<=1000):
 ∀(k i:Nat) (out:List UInt8),i+k=v.Rest.length->out.length+((cW (v.Rest.drop i) n).flatMap Fd.text).length<=70368744177664->
 dr (out,(n:Int),(i:Int),ts,v,x)=some (out++(cW (v.Rest.drop i) n).flatMap Fd.text,(n:Int),ts,v,x)
 |0,i,out,hi,ha=>by
  rw[dr,if_neg (by simp;omega),List.drop_eq_nil_of_le (by omega:v.Rest.length<=i),ab.aD];simp[cW]
 |k+1,i,out,hi,ha=>by
  have hlt:i<v.Rest.length:=by omega
  have hrr:=aZ hR;have hd:=hr _ (aB hlt aE);unfold reachBytes at hd;rw[bu hlt aE]at ha;rw[dr,if_pos (by simp;omega),if_pos (aq hlt)];simp only[oZ4,oZ3,aA,ab.aD];rw[bu hlt aE];by_cases e:(v.Rest.getD i aE).ID=(n:Int)
  . rw[LP e,List.flatMap_cons]at ha⊢;have ht:(rawF (v.Rest.getD i aE)).text=cU n false (v.Rest.getD i aE).Data:=by unfold rawF Fd.text;rw[e];rfl
    rw[ht,List.length_append]at ha;rw[if_pos (by rw[e];simp),if_pos (aq hlt),yg (by omega) (by omega)];simp only[oZ3];rw[if_pos (bz (by omega)),aC (by omega),ua hr hR n hn k (i+1) _ (by omega) (by rw[List.length_append];omega),ht,List.append_assoc]
  . rw[MY e]at ha⊢;rw[if_neg (by simpa using e),aC (by omega),ua hr hR n hn k (i+1) _ (by omega) ha]
noncomputable def grp (ts:List ae) (x:ae) (v:ab) (n:Nat):List Fd:=(cV ts x.Members v.Items v.Rest).filter λf=>decide (f.id=n)
theorem u9 {x:ae} {v:ab} (hm:x.Members.length<9223372036854775807) (hma:MAsc x.Members) (hrk:dT x.Members v.Rest) (hil:v.Items.length = x.Members.length)
 (hr:∀y,y∈v.Rest->y.Data.length<=reachBytes) (hR:v.Rest.length<=reachBytes) (hok:∀y,y∈v.Items->OkV y) (hlenI:∀x,x∈v.Items->∀t,(vpay ts t x).length<=23089744183296)
 (hw:∀i,i<x.Members.length->Rp ts (v.Items.getD i aj) (x.Members.getD i af).Type_):
 ∀(k n:Nat) (out:List UInt8),n+k=1001->1<=n->out.length+(((List.range' n k).flatMap (grp ts x v)).flatMap Fd.text).length<=70368744177664->
 fp (out,(n:Int),ts,v,x)=some (out++((List.range' n k).flatMap (grp ts x v)).flatMap Fd.text)
 |0,n,out,hi,h1,ha=>by
  rw[fp,if_neg (by simp;omega)];simp
 |k+1,n,out,hi,h1,ha=>by
  have hid0:∀y,y∈v.Rest->0<=y.ID:=λy hy=>by have:=(hrk.2 y hy).1;unfold I1000 at this;omega
  have hg:grp ts x v n=((vents ts x.Members v.Items).filter λf=>decide (f.id=n))++cW v.Rest n:=by
   unfold grp cV cW;rw[List.filter_append,Kw _ _ hid0]
  rw[List.range'_succ,List.flatMap_cons,List.flatMap_append,hg,List.flatMap_append]at ha⊢;simp only[List.length_append]at ha;rw[fp,if_pos (by simp;omega)];obtain⟨r,_,r2,hf⟩:=iv (t:=x) (n:Int) hm;simp only[oZ4,oZ3,aA,ab.aD];rw[r2];simp only[oZ3]
  have inner:∀out':List UInt8,out'.length+((cW v.Rest n).flatMap Fd.text).length<=70368744177664->dr (out',(n:Int),0,ts,v,x)=some (out'++(cW v.Rest n).flatMap Fd.text,(n:Int),ts,v,x):=λout' h=>by
   have:=ua (ts:=ts) (x:=x) hr hR n (by omega) v.Rest.length 0 out' (by omega) (by simpa using h)
   grind
  rcases qA hf with⟨e,j,q1,q2,q3,q4⟩|⟨e,q3⟩
  . have hlt2:j<v.Items.length:=by omega
    have hmem:v.Items.getD j aj∈v.Items:=aB hlt2 aj;have hfd:=yj (ts:=ts) (B3 hma) hil q1 (n:=n) (by rw[q4];simp);rw[if_pos e,q2,if_pos (aq q1)];rw[if_pos (by rw[aq hlt2];rfl)];simp only[aA];rw[refOm (hok _ hmem)];have hrec:=u9 hm hma hrk hil hr hR hok hlenI hw k (n+1);cases ho:om (x.Members.getD j af) (v.Items.getD j aj)with
    |true=>
     rw[ho,if_pos rfl]at hfd;rw[hfd]at ha⊢;rw[if_pos rfl,inner out (by omega)];simp only[oZ3,ab.aD];rw[aC (by omega),hrec _ (by omega) (by omega) (by rw[List.length_append];omega)];simp
    |false=>
     rw[ho,if_neg (by simp)]at hfd;rw[hfd]at ha⊢;have hp:=hlenI _ hmem (x.Members.getD j af).Type_;have hW:=hw j q1;unfold Rp at hW
     have ht:([⟨n,(x.Members.getD j af).Critical,vpay ts (x.Members.getD j af).Type_ (v.Items.getD j aj)⟩]:List Fd).flatMap Fd.text=cU n (x.Members.getD j af).Critical (vpay ts (x.Members.getD j af).Type_ (v.Items.getD j aj)):=by simp only[List.flatMap_cons,List.flatMap_nil,List.append_nil];rfl
     rw[ht]at ha⊢;rw[if_neg (by simp),if_pos (aq hlt2),hW];simp only[oZ3];rw[yg (by omega) (by omega)];simp only[oZ3];rw[if_pos (bz (by omega)),inner _ (by rw[List.length_append];omega)];simp only[oZ3,ab.aD];rw[aC (by omega),hrec _ (by omega) (by omega) (by rw[List.length_append,List.length_append];omega)]
     grind
  . have hnone:((vents ts x.Members v.Items).filter λf=>decide (f.id=n))=[]:=zd λm hm'=>by
     have:=qN q3 m hm';omega
    rw[hnone]at ha⊢;rw[if_neg (by simp[e]),inner out (by omega)];simp only[oZ3,ab.aD];rw[aC (by omega),u9 hm hma hrk hil hr hR hok hlenI hw k (n+1) _ (by omega) (by omega) (by rw[List.length_append];omega)];simp
end
section
variable {ts:List ae}
set_option maxHeartbeats 400000 in
theorem B7(H:SOk ts){v:ab}(hv:OkV v):wt v<=1099511627776->∀t,vfit ts false t v->Rp ts v t:=by
 induction hv with
 |mk v hs h1 h2 h3 hk hi hrd n1 n2 n3 n4 ihk ihi=>
  intro hw t hf;have hOk:OkV v:= .mk v hs h1 h2 h3 hk hi hrd n1 n2 n3 n4;have hwt:=wt_eq v;have hlenI:=λx hx t=>u7 H (hi x hx) (by have:=bR hx;omega) t
  have hlenK:=λx hx t=>u7 H (hk x hx) (by have:=bR hx;omega) t
  have hWI:=λx hx t=>ihi x hx (by have:=bR hx;omega) t
  have hWK:=λx hx t=>ihk x hx (by have:=bR hx;omega) t
  have hlenv:=u7 H hOk hw t;obtain⟨⟨g1,g2,g3,_⟩,hf⟩:=(ck _ _ _).1 hf;obtain⟨j,rfl⟩:∃j:Nat,t=(j:Int):=⟨t.toNat,by omega⟩
  have hj:j<ts.length:=by omega
  unfold Rp;rw[cH,if_pos (aq hj)];simp only[oZ4,oZ3,aA,ab.aD]at hf g3⊢;have hxm:=aB hj ag;have hv1:=@vpay1 ts (j:Int) v;have hv2:=@vpay2 ts (j:Int) v;have hv3:=@vpay3 ts (j:Int) v;have hv4:=@vpay4 ts (j:Int) v;have hv5:=@vpay5 ts (j:Int) v;have hv6:=@vpay6 ts (j:Int) v;have hv7:=@vpay7 ts (j:Int) v
  have hv8:=@vpay8 ts (j:Int) v;have hv9:=@vpay9 ts (j:Int) v;simp only[aA]at hv1 hv2 hv3 hv4 hv5 hv6 hv7 hv8 hv9;have hA:=H.A _ hxm;have hS:=H.S _ hxm;have hm:=aZ (cr (H.T _ hxm).mems);generalize ts.getD j ag=x at*
  rcases hf with⟨k,c1,c2,c3,c4,c5,c6⟩|⟨k,c1,c2,c3,c4,c5,c6,c7,c8⟩|⟨k,c1,c2,c3,c4,c5,c6,c7⟩|⟨k,c1,c2,c3,c4,c5,c6,c7⟩|⟨k,c1,c2,c3,c4,c5,c6,c7⟩|⟨k,c1,c2,c3,c4,c5⟩|⟨k,c1,c2,c3,c4,c5,c6,c7,c8⟩|⟨k,c1,c2,c3,c4,c5,c6,c7,c8,c9,c10⟩|⟨k,c1,c2,c3,c4,c5,c6,c7,c8⟩<;>rw[k]at g3<;>have kx:=g3.symm
  . grind
  . rw[if_neg (by grind),if_pos (by grind),hv2 kx,vr n2];have hz:=vw n2;obtain⟨n,hn⟩:∃n:Nat,zig v.Int_=(n:Int):=⟨(zig v.Int_).toNat,by unfold zig;grind⟩
    grind[Int.toNat_natCast,z8]
  . rw[if_neg (by simp[kx]),if_neg (by simp[kx]),if_pos (by simp[kx]),hv3 kx]
  . rw[if_neg (by simp[kx]),if_neg (by simp[kx]),if_neg (by simp[kx]),if_pos (by simp[kx]),hv4 kx]
    obtain⟨n,hn⟩:∃n:Nat,v.ID=(n:Int):=⟨v.ID.toNat,by
     rcases c7 with⟨y,hy,he⟩|⟨_,_,he⟩
     . have:=hS kx y hy;unfold I1000 at this;omega
     . unfold I1000 at he;omega⟩
    rw[hn,wrpn (by omega),z8 (by omega),Int.toNat_natCast];rfl
  . rw[if_neg (by simp[kx]),if_neg (by simp[kx]),if_neg (by simp[kx]),if_neg (by simp[kx]),if_neg (by simp[kx]),if_neg (by simp[kx]),if_neg (by simp[kx]),if_neg (by simp[kx]),hv5 kx];obtain⟨hma,hm16⟩:=hA (.inl kx);obtain⟨hil,hip⟩:=dO.1 c7;rw[hv5 kx]at hlenv;have hsg:=Im (s5 (ts:=ts) (l:=v.Items) hma c6) (λy hy=>IX hma c6 hy)
    have e0:(λn=>(cV ts x.Members v.Items v.Rest).filter λf=>decide (f.id=n))=grp ts x v:=rfl;rw[e0]at hsg;rw[hsg]at hlenv⊢;have:=u9 (ts:=ts) hm hma c6 hil (λy hy=>hrd y hy) h3 hi hlenI (λi hi'=>hWI _ (aB (by omega) aj) _ (hip i hi')) 1000 1 [] (by omega) (by omega) (by simp only[List.length_nil];omega);have h0:fp ([],1,ts,v,x)=_:=this;rw[h0]
    rfl
  . rw[if_neg (by simp[kx]),if_neg (by simp[kx]),if_neg (by simp[kx]),if_neg (by simp[kx]),if_neg (by simp[kx]),if_pos (by simp[kx]),hv6 kx];obtain⟨hma,hm16⟩:=hA (.inr kx);obtain⟨r,_,r2,hf⟩:=iv (t:=x) v.ID hm;rcases qA hf with⟨e,q,q1,q2,q3,q4⟩|⟨e,q3⟩
    . rw[q3]at c5;rw[q3];simp only at c5⊢;obtain⟨d1,d2,d3⟩:=c5;have hI:=hma.2 _ (aB q1 af);rw[q4]at hI;obtain⟨n,hn⟩:∃n:Nat,v.ID=(n:Int):=⟨v.ID.toNat,by unfold I1000 at hI;omega⟩
      rw[if_neg (by simp[d1]),r2,hn,wrpn (by unfold I1000 at hI;omega),nC (by unfold I1000 at hI;omega)];simp only[oZ3];rw[q2,if_pos (aq q1)]
      match hI:v.Items,d2 with
      |[y],_=>
       have hy:y∈v.Items:=by rw[hI];exact .head _
       have hi0:inR 0 ([y]:List ab).length=true:=aq (k:=0) (by simp);have hf:=aY.1 d3 y hy;have hW:=hWI y hy _ hf;unfold Rp at hW;rw[if_pos hi0];simp only[aA,Int.toNat_zero,List.getD_cons_zero];rw[hW];have hp:=hlenI y hy (x.Members.getD q af).Type_;have hp10:=cP (n:=n) (by rw[hn]at n3;omega);simp only[oZ3];rw[if_pos (bz (by omega))]
       have ep:vpays ts (x.Members.getD q af).Type_ [y]=[vpay ts (x.Members.getD q af).Type_ y]:=by rw[vpays,vpays]
       rw[ep];rfl
    . rw[q3]at c5;rw[q3];simp only at c5⊢;obtain⟨d1,d2,d3,d4,d,d5⟩:=c5;obtain⟨n,hn⟩:∃n:Nat,v.ID=(n:Int):=⟨v.ID.toNat,by unfold I1000 at d3;omega⟩
      have hdl:=hrd ⟨v.ID,d⟩ (by rw[d5];exact .head _);simp only at hdl;unfold reachBytes at hdl;have hp10:=cP (n:=n) (by rw[hn]at n3;omega);rw[d5,hn,if_pos (by simp),wrpn (by unfold I1000 at d3;omega),nC (by unfold I1000 at d3;omega)];simp only[oZ3];have hi0:inR 0 ([⟨(n:Int),d⟩]:List aK).length=true:=aq (k:=0) (by simp);rw[if_pos hi0]
      simp only[Int.toNat_zero,List.getD_cons_zero];rw[if_pos (bz (by omega))];rfl
  . rw[if_neg (by simp[kx]),if_neg (by simp[kx]),if_neg (by simp[kx]),if_neg (by simp[kx]),if_neg (by simp[kx]),if_neg (by simp[kx]),if_pos (by simp[kx])];have hf:=aY.1 c8;rw[hv7 kx]at hlenv⊢
    have:=A7 (ts:=ts) (x:=x) (v:=v) (λy hy=>by have:=hlenI y hy x.Elem;omega) (λy hy=>hWI y hy x.Elem (hf y hy)) h2 v.Items.length 0 [] (by omega) (by simp only[List.drop_zero,List.length_nil];omega);have h0:iU ([],0,ts,v,x)=_:=this;rw[h0];rfl
  . rw[if_neg (by simp[kx]),if_neg (by simp[kx]),if_neg (by simp[kx]),if_neg (by simp[kx]),if_neg (by simp[kx]),if_neg (by simp[kx]),if_neg (by simp[kx]),if_pos (by simp[kx])];have hf:=aY.1 c9;have hfk:=aY.1 c8;rw[hv8 kx]at hlenv⊢
    have:=B6 (ts:=ts) (x:=x) (v:=v) c7 (λy hy=>by have:=hlenI y hy x.Elem;omega) (λy hy=>by have:=hlenK y hy x.Key;omega) (λy hy=>hWI y hy x.Elem (hf y hy)) (λy hy=>hWK y hy x.Key (hfk y hy)) h2 v.Items.length 0 [] (by omega) (by simp only[List.drop_zero,List.length_nil];omega);have h0:iV ([],0,ts,v,x)=_:=this;rw[h0];rfl
  . rw[if_neg (by simp[kx]),if_neg (by simp[kx]),if_neg (by simp[kx]),if_neg (by simp[kx]),if_pos (by simp[kx]),hv9 kx];have hf:=aY.1 c8
    match hI:v.Items,c7 with
    |[],_=>rw[if_pos (by simp),vpays]
    |[y],_=>
     have hy:y∈v.Items:=by rw[hI];exact .head _
     have hi0:inR 0 ([y]:List ab).length=true:=aq (k:=0) (by simp);rw[if_neg (by simp),if_pos hi0];have hW:=hWI y hy x.Elem (hf y hy);unfold Rp at hW;simp only[Int.toNat_zero,List.getD_cons_zero];rw[hW];have hp:=hlenI y hy x.Elem;simp only[oZ3];rw[if_pos (bz (by simp;omega))];have ep:vpays ts x.Elem [y]=[vpay ts x.Elem y]:=by rw[vpays,vpays]
     rw[ep];rfl
    |a::b::c,h=>simp at h
end
theorem SaysP.says{α:Type}{o:Option Bool}{a b:α}(h:Says o a b):SaysP o (a=b):=h
theorem and3S {o1 o2 o3:Option Bool} {P1 P2 P3:Prop} (h1:SaysP o1 P1) (h2:SaysP o2 P2) (h3:SaysP o3 P3):
 SaysP (o1>>=λr_6=>(if r_6=true then o2 else some false)>>=λr_7=>some (bif r_6 then r_7 else false)>>=λt53=>(if t53=true then o3 else some false)>>=λr_8=>some (bif t53 then r_8 else false)) (P1/\P2/\P3):=by
 obtain⟨a,rfl,h1⟩:=h1;obtain⟨b,rfl,h2⟩:=h2;obtain⟨c,rfl,h3⟩:=h3;rw[<-h1,<-h2,<-h3];cases a<;>cases b<;>cases c<;>exact⟨_,rfl,by simp⟩
theorem DH{o:Option Bool}{P:Prop}(h:SaysP o P):SaysP (o>>=λr=>some r) P:=by grind
def gh(union:Bool)(Ms:List av):Prop:=(∀m,m∈Ms->badM union m=false)/\(union=false\/0<Ms.length)/\MAsc Ms/\(∀m,m∈Ms->nm m.Name=true)/\(Ms.map (·.Name)).Nodup/\Ms.length<=16
def oQ(S:List aO):Prop:=0<S.length/\(S.Pairwise (λa b=>a.ID<b.ID)/\∀y,y∈S->I1000 y.ID)/\(∀y,y∈S->nm y.Name=true)/\(S.map (·.Name)).Nodup/\S.length<=16
theorem LR{l:List (List UInt8)}:l.Nodup↔∀i,i<l.length->(l.take i).contains (l.getD i [])=false:=by
 grind[List.pairwise_iff_getElem,il]
theorem B8{α:Type}(f:α->Int)(g:α->List UInt8)(d:α)(l:List α):(∀i,i<l.length->idp (l.map f) (l.map g) i=true)↔(l.Pairwise (λa b=>f a<f b)/\∀x,x∈l->I1000 (f x))/\(∀x,x∈l->nm (g x)=true)/\(l.map g).Nodup:=by
 rw[rE f d,LR];have key:∀i,i<l.length->(idp (l.map f) (l.map g) i=true↔I1000 (f (l.getD i d))/\(i=0\/f (l.getD (i-1) d)<f (l.getD i d))/\nm (g (l.getD i d))=true/\((l.map g).take i).contains ((l.map g).getD i [])=false):=by
  grind[idp,I1000]
 constructor
 . intro h;refine⟨⟨λi hi=>?_,λx hx=>?_⟩,λx hx=>?_,λi hi=>?_⟩
   . grind
   . grind[List.getElem_of_mem]
   . grind[List.getElem_of_mem]
   grind
 . rintro ⟨⟨h1,h2⟩,h3,h4⟩ i hi
   refine(key i hi).2 ⟨h2 _ (aB hi d),?_,h3 _ (aB hi d),h4 i (by grind)⟩;by_cases h0:i=0
   . omega
   . have e:i-1+1=i:=by omega
     grind
theorem Ae{t:ae}(h:OkT t):SaysP (jr t) ((∀m,m∈t.Members->badM (decide (t.Kind=6)) m=false)/\(t.Kind=5\/0<t.Members.length)/\MAsc t.Members/\(∀m,m∈t.Members->nm m.Name=true)/\(t.Members.map (·.Name)).Nodup/\t.Members.length<=16):=by
 obtain⟨r,h1,h2⟩:=y6 h;refine⟨r,h1,h2.trans ?_⟩;rw[B8 _ _ af]
 grind[List.getElem_of_mem,MAsc]
theorem MZ{l:List aO}(hl:l.length*24<=reachBytes):SaysP (kB l) (oQ l):=by
 obtain⟨r,h1,h2⟩:=B1 hl;refine⟨r,h1,h2.trans ?_⟩;rw[B8 _ _ aT]
 grind[oQ]
def FormP(t:ae):Prop:=
 (t.Kind=1/\t.Name=[]/\t.Low=0/\t.High=0/\t.Max=0/\t.Symbols=[]/\t.Members=[]/\t.Key=0/\t.Elem=0/\t.Open=false)\/
 (t.Kind=2/\t.Name=[]/\t.Low<=t.High/\t.Max=0/\t.Symbols=[]/\t.Members=[]/\t.Key=0/\t.Elem=0/\t.Open=false)\/
 (t.Kind=3/\t.Name=[]/\t.Low=0/\t.High=0/\(0<=t.Max/\t.Max<=200)/\t.Symbols=[]/\t.Members=[]/\t.Key=0/\t.Elem=0/\t.Open=false)\/
 (t.Kind=4/\nm t.Name=true/\t.Low=0/\t.High=0/\t.Max=0/\oQ t.Symbols/\t.Members=[]/\t.Key=0/\t.Elem=0)\/
 (t.Kind=5/\nm t.Name=true/\t.Low=0/\t.High=0/\t.Max=0/\t.Symbols=[]/\gh false t.Members/\t.Key=0/\t.Elem=0/\t.Open=false)\/
 (t.Kind=6/\nm t.Name=true/\t.Low=0/\t.High=0/\t.Max=0/\t.Symbols=[]/\gh true t.Members/\t.Key=0/\t.Elem=0)\/
 (t.Kind=7/\t.Name=[]/\t.Low=0/\t.High=0/\(0<=t.Max/\t.Max<=50)/\t.Symbols=[]/\t.Members=[]/\t.Key=0/\t.Open=false)\/
 (t.Kind=8/\t.Name=[]/\t.Low=0/\t.High=0/\(0<=t.Max/\t.Max<=50)/\t.Symbols=[]/\t.Members=[]/\t.Open=false)\/
 (t.Kind=9/\t.Name=[]/\t.Low=0/\t.High=0/\t.Max=0/\t.Symbols=[]/\t.Members=[]/\t.Key=0/\t.Open=false)
theorem M0{t:ae}(h:OkT t):SaysP (br t) (FormP t):=by
 obtain⟨Kd,N,L,H,M,S,Ms,K,E,O⟩:=t;have hS:=h.syms;have hMs:=h.mems;have hd:=h.dv;simp only at hS hMs hd;by_cases k1:Kd=1
 . subst k1;have a:=ca (a:=(⟨0,N,L,H,M,S,Ms,K,E,O⟩:ae)) ⟨hS,hMs,hd⟩ (⟨0,[],0,0,0,[],[],0,0,false⟩:ae);refine(DH (SaysP.says a)).imp ?_;unfold FormP;simp
 by_cases k2:Kd=2
 . subst k2;have a:=ca (a:=(⟨0,N,0,0,M,S,Ms,K,E,O⟩:ae)) ⟨hS,hMs,hd⟩ (⟨0,[],0,0,0,[],[],0,0,false⟩:ae);refine(and2S (q:=decide (L<=H)) (Q:=L<=H) (by simp) (SaysP.says a)).imp ?_;unfold FormP
   grind
 by_cases k3:Kd=3
 . subst k3;have a:=ca (a:=(⟨0,N,L,H,0,S,Ms,K,E,O⟩:ae)) ⟨hS,hMs,hd⟩ (⟨0,[],0,0,0,[],[],0,0,false⟩:ae);refine(and2S (Q:=0<=M/\M<=200) (by by_cases g:0<=M<;>simp[g]) (SaysP.says a)).imp ?_;unfold FormP
   grind
 by_cases k4:Kd=4
 . subst k4;have a:=ca (a:=(⟨0,[],L,H,M,[],Ms,K,E,false⟩:ae)) ⟨by simp,hMs,hd⟩ (⟨0,[],0,0,0,[],[],0,0,false⟩:ae);refine(and3S (⟨nm N,lexNm N,Iff.rfl⟩:SaysP (cz N) (nm N=true)) (MZ hS) (SaysP.says a)).imp (Q:=FormP ⟨4,N,L,H,M,S,Ms,K,E,O⟩) ?_;unfold FormP
   grind
 by_cases k5:Kd=5
 . subst k5;have a:=ca (a:=(⟨0,[],L,H,M,S,[],K,E,bif O then decide ((5:Int)=5)else false⟩:ae)) ⟨hS,by simp,by simp⟩ (⟨0,[],0,0,0,[],[],0,0,false⟩:ae);refine(and3S (⟨nm N,lexNm N,Iff.rfl⟩:SaysP (cz N) (nm N=true)) (Ae h) (SaysP.says a)).imp ?_;unfold FormP gh
   grind
 by_cases k6:Kd=6
 . subst k6;have a:=ca (a:=(⟨0,[],L,H,M,S,[],K,E,bif O then decide ((6:Int)=5)else false⟩:ae)) ⟨hS,by simp,by simp⟩ (⟨0,[],0,0,0,[],[],0,0,false⟩:ae);refine(and3S (⟨nm N,lexNm N,Iff.rfl⟩:SaysP (cz N) (nm N=true)) (Ae h) (SaysP.says a)).imp (Q:=FormP ⟨6,N,L,H,M,S,Ms,K,E,O⟩) ?_;unfold FormP gh
   grind
 by_cases k7:Kd=7
 . subst k7;have a:=ca (a:=(⟨0,N,L,H,0,S,Ms,K,0,O⟩:ae)) ⟨hS,hMs,hd⟩ (⟨0,[],0,0,0,[],[],0,0,false⟩:ae);refine(and2S (Q:=0<=M/\M<=50) (by by_cases g:0<=M<;>simp[g]) (SaysP.says a)).imp (Q:=FormP ⟨7,N,L,H,M,S,Ms,K,E,O⟩) ?_;unfold FormP
   grind
 by_cases k8:Kd=8
 . subst k8;have a:=ca (a:=(⟨0,N,L,H,0,S,Ms,0,0,O⟩:ae)) ⟨hS,hMs,hd⟩ (⟨0,[],0,0,0,[],[],0,0,false⟩:ae);refine(and2S (q:=bif decide (0<=M)then decide (M<=50)else false) (Q:=0<=M/\M<=50) (by by_cases g:0<=M<;>simp[g]) (SaysP.says a)).imp (Q:=FormP ⟨8,N,L,H,M,S,Ms,K,E,O⟩) ?_;unfold FormP
   grind
 by_cases k9:Kd=9
 . subst k9;have a:=ca (a:=(⟨0,N,L,H,M,S,Ms,K,0,O⟩:ae)) ⟨hS,hMs,hd⟩ (⟨0,[],0,0,0,[],[],0,0,false⟩:ae);refine(DH (SaysP.says a)).imp (Q:=FormP ⟨9,N,L,H,M,S,Ms,K,E,O⟩) ?_;unfold FormP;simp
 refine⟨false,by simp[br,k1,k2,k3,k4,k5,k6,k7,k8,k9],?_⟩;unfold FormP
 grind
structure VOk (ts:List ae):Prop where
 n:ts.length<=32
 F:∀t,t∈ts->FormP t
 D:∀i,i<ts.length->(!(decide ((ts.getD i ag).Name=[]))&&((ts.map (·.Name)).take i).contains (ts.getD i ag).Name)=false
 U:∀t,t∈ts->∀u,u∈usesL t->0<=u/\u<ts.length
 Ky:∀t,t∈ts->t.Kind=8->1<=(ts.getD t.Key.toNat ag).Kind/\(ts.getD t.Key.toNat ag).Kind<=4
theorem LS {ts:List ae} (hT:∀ t,t∈ts->OkT t) {i:Nat} (hi:i<ts.length):stepV ts i = none ↔ FormP (ts.getD i ag)/\(!(decide ((ts.getD i ag).Name = []))&&((ts.map (·.Name)).take i).contains (ts.getD i ag).Name) = false/\(∀ u,u∈usesL (ts.getD i ag)->0<=u/\u<ts.length)/\
 ((ts.getD i ag).Kind=8->1<=(ts.getD (ts.getD i ag).Key.toNat ag).Kind/\(ts.getD (ts.getD i ag).Key.toNat ag).Kind<=4):=by
 obtain⟨r,f1,f2⟩:=M0 (hT _ (aB hi ag));rw[uM rfl f1]
 grind[List.any_eq_false,outB,keyB]
theorem kX{ts:List ae}(hT:∀t,t∈ts->OkT t)(h:VOk ts):im (⟨ts⟩:au)=some 0/\gV (⟨ts⟩:au)=some 0:=by
 obtain⟨e,h1,h2,_,h4,_⟩:=LH (by have:=h.n;grind[reachBytes]) hT;have e0:=h4 ⟨h.n,λi hi=>(LS hT hi).2 ⟨h.F _ (aB hi _),h.D i hi,h.U _ (aB hi _),h.Ky _ (aB hi _)⟩⟩
 grind
theorem VOk.sok{ts:List ae}(hT:∀t,t∈ts->OkT t)(h:VOk ts):SOk ts:=by
 refine⟨by have:=h.n;omega,hT,λt ht=>?_,λt ht m hm=>?_,λt ht hk=>?_,λt ht hk y hy=>?_,h.Ky⟩
 . have:=h.F t ht
   grind[FormP,dq]
 . have:=h.F t ht;unfold FormP at this;have:gh false t.Members\/gh true t.Members:=by grind
   rcases this with a|a
   . exact(a.2.2.1.2 m hm).2
   . exact(a.2.2.1.2 m hm).2
 . have:=h.F t ht;unfold FormP at this;have:gh false t.Members\/gh true t.Members:=by grind
   rcases this with a|a
   . exact⟨a.2.2.1,a.2.2.2.2.2⟩
   . exact⟨a.2.2.1,a.2.2.2.2.2⟩
 . have:=h.F t ht;unfold FormP at this;have:oQ t.Symbols:=by grind
   exact this.2.1.2 y hy
theorem Kx{ts:List ae}(hn:ts.length<9223372036854775807)(hT:∀t,t∈ts->OkT t)(hK:∀t,t∈ts->dq t.Kind){v:ab}(hv:OkV v)(t:Int):SaysP (kl ((⟨ts⟩:au),t,v)) (vfit ts true t v):=by
 obtain⟨r,h1,h2⟩:=uN hn hT hK hv t true;refine⟨r,?_,h2⟩;rw[kl];simp only[ab.aD];rw[h1];rfl
def gi(ts:List ae)(ms:List av):Prop:=∀m,m∈ms->m.HasDefault=true->vfit ts true m.Type_ m.Default
theorem B9 {ts:List ae} (hn:ts.length<9223372036854775807) (hT:∀ t,t∈ts->OkT t) (hK:∀ t,t∈ts->dq t.Kind) {ms:List av} (hm:∀ m,m∈ms->OkV m.Default) (hl:ms.length<=reachBytes) (t2:Int):
 ∀(k i:Nat),i+k=ms.length->(dV (t2,ms,(i:Int),ts)=some (.inr (t2,ts))/\gi ts (ms.drop i))\/(∃e,dV (t2,ms,(i:Int),ts)=some (.inl (t2,e,1))/\¬gi ts (ms.drop i))
 |0,i,hi=> .inl ⟨by rw [dV,if_neg (by simp; omega)],by
  rw[List.drop_eq_nil_of_le (by omega:ms.length<=i)]
  intro m hm;cases hm⟩
 |k+1,i,hi=>by
  have hlt:i<ms.length:=by omega
  have hr:=aZ hl;have hmem:=aB hlt af;obtain⟨r,r1,r2⟩:=Kx hn hT hK (hm _ hmem) (ms.getD i af).Type_;rw[dV,if_pos (by simp;omega),if_pos (aq hlt)];simp only[oZ4,oZ3,aA,ab.aD];rw[if_pos (by rw[aq hlt];rfl),if_pos (by rw[aq hlt];rfl),r1];have ih:=B9 hn hT hK hm hl t2 k (i+1) (by omega);rw[bu hlt af]
  have hcons:gi ts (ms.getD i af::ms.drop (i+1))↔((ms.getD i af).HasDefault=true->vfit ts true (ms.getD i af).Type_ (ms.getD i af).Default)/\gi ts (ms.drop (i+1)):=by
   unfold gi;constructor
   . intro h;exact⟨h _ (.head _),λm hm=>h m (.tail _ hm)⟩
   . rintro ⟨h1,h2⟩ m hm
     rcases List.mem_cons.1 hm with rfl|hm
     . exact h1
     . exact h2 m hm
  rw[hcons,<-r2];cases hd:(ms.getD i af).HasDefault with
  |false=>
   simp only[Bool.false_eq_true,if_false,oZ3,cond_false];rw[aC (by omega)];rcases ih with⟨h1,h2⟩|⟨e,h1,h2⟩
   . exact .inl ⟨h1,λh=>h.elim,h2⟩
   . exact .inr ⟨e,h1,λh=>h2 h.2⟩
  |true=>
   cases r with
   |true=>
    simp only[if_true,oZ3,cond_true,Bool.not_true,Bool.false_eq_true,if_false];rw[aC (by omega)];rcases ih with⟨h1,h2⟩|⟨e,h1,h2⟩
    . exact .inl ⟨h1,λ_=>trivial,h2⟩
    . exact .inr ⟨e,h1,λh=>h2 h.2⟩
   |false=>
    simp only[if_true,oZ3,cond_true,Bool.not_false];rw[if_pos (aq hlt)];exact .inr ⟨_,rfl,λh=>absurd (h.1 trivial) (by simp)⟩
theorem Ca {ts:List ae} (hn:ts.length<9223372036854775807) (hT:∀ t,t∈ts->OkT t) (hK:∀ t,t∈ts->dq t.Kind):
 ∀(k i:Nat),i+k=ts.length->(dZ ((i:Int),ts)=some (.inr ())/\∀t,t∈ts.drop i->gi ts t.Members)\/(∃a e,dZ ((i:Int),ts)=some (.inl (a,e,1))/\¬∀t,t∈ts.drop i->gi ts t.Members)
 |0,i,hi=>.inl ⟨by rw[dZ,if_neg (by simp;omega)],by grind⟩
 |k+1,i,hi=>by
  have hlt:i<ts.length:=by omega
  have ht:=hT _ (aB hlt ag);have h0:=B9 hn hT hK ht.dv (cr ht.mems) (i:Int) (ts.getD i ag).Members.length 0 (by omega);simp only[List.drop_zero]at h0;have ih:=Ca hn hT hK k (i+1) (by omega);rw[bu hlt ag,dZ,if_pos (by simp;omega),if_pos (aq hlt)];simp only[aA];rcases h0 with⟨h1,h2⟩|⟨e,h1,h2⟩
  . have h1':dV ((i:Int),(ts.getD i ag).Members,0,ts)=_:=h1;rw[h1'];simp only[oZ4,oZ3];rw[aC (by omega)];rcases ih with⟨g1,g2⟩|⟨a,e,g1,g2⟩
    . refine .inl ⟨g1,λt ht=>?_⟩;rcases List.mem_cons.1 ht with rfl|ht
      . exact h2
      . exact g2 t ht
    . exact .inr ⟨a,e,g1,λh=>g2 λt ht=>h t (.tail _ ht)⟩
  . have h1':dV ((i:Int),(ts.getD i ag).Members,0,ts)=_:=h1;rw[h1'];exact .inr ⟨_,_,rfl,λh=>h2 (h _ (.head _))⟩
theorem LU{s:au}(hn:s.Types.length<=reachBytes)(hT:∀t,t∈s.Types->OkT t){e:Int}(hv:gV s=some e)(he:e=0->VOk s.Types):∃r,pf s=some r/\(e=0->(r.2.2=0↔∀t,t∈s.Types->gi s.Types t.Members)):=by
 rw[pf,hv];simp only[oZ4,oZ3];by_cases h0:e=0
 . have hV:=he h0;have hS:=hV.sok hT;rw[if_neg (by simp[h0])];have:=Ca (by have:=hV.n;omega) hT hS.K s.Types.length 0 (by omega);simp only[List.drop_zero]at this;rcases this with⟨h1,h2⟩|⟨a,e',h1,h2⟩
   . have h1':dZ (0,s.Types)=_:=h1;rw[h1'];exact⟨_,rfl,λ_=>⟨λ_=>h2,λ_=>rfl⟩⟩
   . have h1':dZ (0,s.Types)=_:=h1;rw[h1'];exact⟨_,rfl,λ_=>⟨λh=>absurd h (by simp),λh=>absurd h h2⟩⟩
 . rw[if_pos (by simp[h0])];exact⟨_,rfl,λh=>absurd h h0⟩
theorem Qb{t u:Ty}{r:List Ty}{h:Hs Un.D (t::u::r)}(hk:Ok Un (t::u::r) h):∀d,d∈t.row Un h.1->WF Un d:=λd hd=>hk ⟨t,h.1⟩ (List.mem_cons_self ..) d hd
abbrev Nd:=aQ
abbrev dNd:=az
abbrev dPt:=bW
theorem nz{a:Int}(h:¬a=0):(!(decide (a=0)))=true:=by grind
theorem bV{x m:Int}(h:0<=x)(hm:0<=m):remI x m=x%m:=by grind[remI]
theorem Qc{x:Int}(h:0<=x)(h2:x<=255):quoI .u8 x 4=x/4:=by
 grind[quoI,IntKind.wrap_u8]
theorem cX{x:Int}(h:I64 x):wrp .i64 x=x:=by
 grind[wrp,I64,IntKind.wrap_i64]
theorem DK{k:Int}(h:0<=k/\k<=25):eV (wrp .i32 (addI .i64 97 k))=[UInt8.ofNat (97+k.toNat)]:=by
 have key:∀k:Nat,k<26->eV (wrp .i32 (addI .i64 97 k))=[UInt8.ofNat (97+k)]:=by decide+kernel
 grind
theorem Qd{k:Int}(h:0<=k/\k<=25):eV (wrp .i32 (addI .i64 65 k))=[UInt8.ofNat (65+k.toNat)]:=by
 have key:∀k:Nat,k<26->eV (wrp .i32 (addI .i64 65 k))=[UInt8.ofNat (65+k)]:=by decide+kernel
 grind
theorem zf{s:List UInt8}(h0:s≠[])(hl:s.length<=24)(h:∀i:Nat,i<s.length->fT (dp s i)=true):nm s=true:=by
 have key:∀k i,i+k=s.length->dk (s,s.length,i)=some (.inr ()):=by
  intro k
  induction k with
  |zero=>simp_all[dk]
  |succ k ih=>
   intro i hi;rw[dk,if_pos (by grind),if_pos (aq (by omega)),qW,h i (by omega)];simp only[oZ4,oZ3];rw[if_pos (by simp),aC (by omega)];exact ih _ (by omega)
 have hpos:=List.length_pos_iff.2 h0;have hin:=aq hpos;have hk:=key s.length 0 (by simp)
 grind[nm,cz,qW]
theorem Qe{c:Nat}(h:65<=c/\c<=90\/97<=c/\c<=122):nm [UInt8.ofNat c]=true:=by
 grind[zf,yV,kG,fT]
theorem DL{b c:Nat}(hb:97<=b/\b<=122)(h:97<=c/\c<=122):nm [UInt8.ofNat b,UInt8.ofNat c]=true:=by
 grind[zf,yV,kG,fT]
def U8(x:Int):Prop:=0<=x/\x<=255
structure NOk (x:Nd):Prop where
 k:U8 x.Kind
 a:U8 x.A
 b:U8 x.B
 c:U8 x.C
 p:∀q,q∈x.Parts->U8 q.ID/\U8 q.Type_/\U8 q.Flag
 l:x.Parts.length<=reachBytes
def kd(ns:List Nd)(i:Int):Int:=1+(ns.getD i.toNat dNd).Kind%9
section
variable {ns:List Nd} (hN:∀x,x∈ns->NOk x) (h5:ns.length<=5)
include hN h5 in
theorem kd_eq{i:Int}(h0:0<=i)(h1:i<ns.length):gX ((⟨ns⟩:aW),i)=some (kd ns i)/\1<=kd ns i/\kd ns i<=9:=by
 obtain⟨j,rfl⟩:∃j:Nat,i=j:=⟨i.toNat,by omega⟩
 have hx:=(hN _ (aB (by omega:j<ns.length) dNd)).k;unfold kd;obtain⟨a,b⟩:=hx;refine⟨?_,by omega,by omega⟩;rw[gX,if_pos (aq (by omega:j<ns.length)),aA,bV a (by simp),cX ⟨by omega,by omega⟩,ct (by omega) (by omega)]
def Tgt(ns:List Nd)(i u:Int):Prop:=0<=u/\u<ns.length/\(7<=kd ns u\/u<i)
include hN h5 in
theorem Af:∀(k i:Nat),i+k=ns.length->ej ((ns.length:Int),(i:Int),ns)=some (.inr ())\/∃u:Int,ej ((ns.length:Int),(i:Int),ns)=some (.inl u)/\0<=u/\u<ns.length/\7<=kd ns u
 |0,i,hi=>.inl (by grind[ej])
 |k+1,i,hi=>by
  obtain⟨e,_,_⟩:=kd_eq hN h5 (i:=i) (by simp) (by omega);rw[ej,if_pos (by grind),e];simp[l6];by_cases h7:7<=kd ns i
  . grind
  . rw[if_neg (by grind),aC (by omega)];exact Af k _ (by omega)
include hN h5 in
theorem M1(h1:1<=ns.length){i code:Int}(hi:0<=i/\i<ns.length)(hc:U8 code):∃u,l7 ((⟨ns⟩:aW),i,code)=some u/\(u<0\/Tgt ns i u):=by
 have hm:wrp .i64 code=code:=cX ⟨by grind[U8],by grind[U8]⟩;obtain⟨c1,c2⟩:=hc;have hr0:0<=code%(ns.length:Int):=Int.emod_nonneg _ (by omega);have hr1:code%ns.length<ns.length:=Int.emod_lt_of_pos _ (by omega);rw[l7];simp only[oZ4,oZ3];rw[if_pos (nz (by omega)),hm,bV c1 (by simp)];obtain⟨e,_,_⟩:=kd_eq hN h5 hr0 hr1;rw[e]
 simp only[oZ3,l6];by_cases h7:7<=kd ns (code%ns.length)
 . rw[if_pos (by grind)];exact⟨_,rfl,.inr ⟨hr0,hr1,.inl h7⟩⟩
 . by_cases hlt:code%ns.length<i
   . rw[if_pos (by grind)];exact⟨_,rfl,.inr ⟨hr0,hr1,.inr hlt⟩⟩
   . rw[if_neg (by grind)];by_cases hp:0<i
     . rw[if_pos (by grind),if_pos (by grind),bV hr0 (by omega)];have a0:0<=code%ns.length%i:=Int.emod_nonneg _ (by omega);have a1:code%(ns.length:Int)%i<i:=Int.emod_lt_of_pos _ (by omega);exact⟨_,rfl,.inr ⟨a0,by omega,.inr a1⟩⟩
     . rw[if_neg (by grind)];have h0:=Af hN h5 ns.length 0 (by simp);have e0:ej (ns.length,(0:Nat),ns)=ej ((ns.length:Int),0,ns):=rfl;rw[e0]at h0;rcases h0 with h|⟨u,h,a,b,c⟩
       . grind
       . rw[h];exact⟨u,rfl,.inr ⟨a,b,.inl c⟩⟩
def KeyT(ns:List Nd)(u:Int):Prop:=0<=u/\u<ns.length/\1<=kd ns u/\kd ns u<=4
include hN h5 in
theorem DM{code:Int}(hc:U8 code)(h1:1<=ns.length):∀(k i:Nat),i+k=ns.length->(eD (code,(ns.length:Int),(i:Int),ns)=some (.inr ())/\∀m:Nat,i<=m->m<ns.length->¬KeyT ns ((code+m)%(ns.length:Int)))\/∃u:Int,eD (code,(ns.length:Int),(i:Int),ns)=some (.inl u)/\KeyT ns u
 |0,i,hi=>.inl ⟨by simp_all[eD],λm a b=>by omega⟩
 |k+1,i,hi=>by
  obtain⟨c1,c2⟩:=hc;have hr0:0<=(code+i)%ns.length:=Int.emod_nonneg _ (by omega);have hr1:(code+i)%ns.length<ns.length:=Int.emod_lt_of_pos _ (by omega);obtain⟨e,e1,e9⟩:=kd_eq hN h5 hr0 hr1;rw[eD,if_pos (by grind),if_pos (nz (by omega)),cX ⟨by omega,by omega⟩,ct (by omega) (by omega),bV (by omega) (by simp)];simp;rw[e];simp only[oZ3,lV]
  by_cases h4:kd ns ((code+i)%ns.length)<=4
  . rw[if_pos (by grind)];exact .inr ⟨_,rfl,hr0,hr1,e1,h4⟩
  . rw[if_neg (by grind),aC (by omega)];rcases DM ⟨c1,c2⟩ h1 k (i+1) (by omega)with⟨a,b⟩|h
    . refine .inl ⟨a,λm hm1 hm2=>?_⟩;by_cases hm:m=i
      . rintro ⟨_,_,_,h⟩;grind
      grind
    grind
include hN h5 in
theorem DN{code:Int}(hc:U8 code)(h1:1<=ns.length):∃u,jo ((⟨ns⟩:aW),code)=some u/\((u= -1/\∀w,¬KeyT ns w)\/KeyT ns u):=by
 rw[jo];have h0:=DM hN h5 hc h1 ns.length 0 (by simp);have e0:eD (code,ns.length,(0:Nat),ns)=eD (code,(ns.length:Int),0,ns):=rfl;rw[e0]at h0;rcases h0 with⟨h,a⟩|⟨u,h,a⟩
 . rw[h];refine⟨-1,rfl,.inl ⟨rfl,λw hw=>?_⟩⟩;have hw':=hw;obtain⟨w0,w1,_⟩:=hw';have hr0:0<=(w-code)%ns.length:=Int.emod_nonneg _ (by omega);have hr1:(w-code)%ns.length<ns.length:=Int.emod_lt_of_pos _ (by omega);have e:(code+((w-code)%(ns.length:Int)).toNat)%ns.length=w:=by
    grind[Int.add_emod_emod,Int.emod_eq_of_lt]
   grind
 grind
theorem vz{x:Nd}(h:NOk x):fF x=some (x.A%7-3):=by
 have:=h.a;rw[fF,bV this.1 (by simp),cX ⟨by omega,by omega⟩,jV (by omega) (by omega)]
theorem Cb{x:Nd}(h:NOk x):jl x=some (x.A%7-3+x.B%6):=by
 have hb:=h.b;rw[jl,vz h];simp;rw[bV hb.1 (by simp),cX ⟨by omega,by omega⟩,ct (by omega) (by omega)]
def IdsOk(l:List Int)(n:Int):Prop:=l.Pairwise (· < ·)/\∀x,x∈l->1<=x/\x<=n
theorem vA{x:Nd}:∀(k i:Nat) (acc:List Int),i+k=6->IdsOk acc i->acc.length<=i->∃l,fB ((i:Int),x,acc)=some l/\IdsOk l 6/\l.length<=6
 |0,i,acc,hi,ha,hl=>⟨acc,by simp_all[fB,if_neg],⟨ha.1,λy hy=>by have:=ha.2 y hy;omega⟩,by omega⟩
 |k+1,i,acc,hi,ha,hl=>by
  have hacc:IdsOk acc (i+1:Int):=⟨ha.1,λy hy=>by have:=ha.2 y hy;omega⟩
  rw[fB,if_pos (by grind),if_pos (by rfl)];simp only[oZ4,oZ3];rw[aC (by omega)];split
  . rw[if_pos (bl (by simp) (by grind))];refine vA k (i+1) _ (by omega) ⟨?_,λy hy=>?_⟩ (by grind)
    . rw[List.pairwise_append];refine⟨ha.1,by simp,λa h1 b h2=>?_⟩;have:=ha.2 a h1
      grind
    . rcases List.mem_append.1 hy with h|h
      . have:=ha.2 y h;omega
      grind
  . exact vA k _ _ (by omega) hacc (by omega)
theorem Qg(x:Nd):∃l,eL x=some l/\IdsOk l 6/\1<=l.length/\l.length<=6:=by
 obtain⟨l,h1,h2,h3⟩:=vA 6 0 [] (by rfl) ⟨.nil,λy hy=>by grind⟩ (by simp);have h1':fB (0,x,[])=some l:=h1;rw[eL,h1'];cases l with
 |nil=>
  exact⟨_,rfl,⟨by simp,λy hy=>by grind⟩,by simp,by simp⟩
 |cons a l=>grind
def idsL(x:Nd):List Int:=(eL x).getD []
theorem ids_eq'(x:Nd):eL x=some (idsL x)/\IdsOk (idsL x) 6/\1<=(idsL x).length/\(idsL x).length<=6:=by
 obtain⟨l,h1,h2⟩:=Qg x
 grind[idsL]
def InitP(k:Int)(x:Nd)(key:Prop)(v:ab):Prop:=
 v.Keys=[]/\v.Items=[]/\v.Rest=[]/\
 (k=1/\v.Kind=1/\v.Int_=0/\v.Str=[]/\v.ID=0\/
  k=2/\v.Kind=2/\v.Bool_=false/\v.Str=[]/\v.ID=0/\x.A%7-3<=v.Int_/\v.Int_<=x.A%7-3+x.B%6\/
  k=3/\v.Kind=3/\v.Bool_=false/\v.Int_=0/\v.ID=0/\(v.Str.length:Int)<=x.A%4\/
  k=4/\v.Kind=4/\v.Bool_=false/\v.Int_=0/\v.Str=[]/\v.ID∈idsL x\/
  7<=k/\v.Bool_=false/\v.Int_=0/\v.Str=[]/\v.ID=0/\(v.Kind=k/\(k=8->key)\/k=8/\v.Kind=7/\¬key))
def Init(ns:List Nd)(t:Int)(v:ab):Prop:=InitP (kd ns t) (ns.getD t.toNat dNd) (∃w,KeyT ns w) v
include hN h5 in
theorem LV(h1:1<=ns.length){t code:Int}(ht:0<=t/\t<ns.length)(hc:U8 code):∃r,lW ((⟨ns⟩:aW),t,code)=some r/\(r.2=false->r.1=aj)/\(r.2=true->Init ns t r.1):=by
 obtain⟨j,rfl⟩:∃j:Nat,t=(j:Int):=⟨t.toNat,by omega⟩
 have hj:j<ns.length:=by omega
 have hx:=hN _ (aB hj dNd);obtain⟨e,k1,k9⟩:=kd_eq hN h5 ht.1 ht.2;obtain⟨u,hu,hu2⟩:=DN hN h5 (code:=0) ⟨by simp,by simp⟩ h1;obtain⟨c1,c2⟩:=hc;rw[lW,if_pos (aq hj)];simp only[oZ4,oZ3,aA];rw[e];unfold Init;simp only[aA];have hids:=ids_eq' (ns.getD j dNd);generalize kd ns (j:Int)=k at*;generalize ns.getD j dNd=x at*;have ha:=hx.a
 have hb:=hx.b;have hc9:k=1\/k=2\/k=3\/k=4\/k=5\/k=6\/k=7\/k=8\/k=9:=by omega
 rcases hc9 with rfl|rfl|rfl|rfl|rfl|rfl|rfl|rfl|rfl
 . exact⟨_,rfl,λh=>(by cases h),λ_=>by unfold InitP;simp⟩
 . have el:=vz hx;have eh:=Cb hx;have e1:addI .i64 (subI .i64 (x.A%7-3+x.B%6) (x.A%7-3)) 1=x.B%6+1:=by rw[jV (by omega) (by omega),ct (by omega) (by omega)];omega
   have e2:remI (wrp .i64 code) (x.B%6+1)=code%(x.B%6+1):=by rw[cX ⟨by omega,by omega⟩,bV c1 (by omega)]
   have r0:0<=code%(x.B%6+1):=Int.emod_nonneg _ (by omega);have r1:code%(x.B%6+1)<x.B%6+1:=Int.emod_lt_of_pos _ (by omega);have e3:addI .i64 (x.A%7-3) (code%(x.B%6+1))=x.A%7-3+code%(x.B%6+1):=ct (by omega) (by omega)
   simp only[Int.reduceEq,decide_false,decide_true,Bool.false_eq_true,if_false,if_true,oZ3,cond_false,cond_true];rw[el];rw[eh];simp only[oZ3];rw[e1,if_pos (by simp;omega),e2,e3];exact⟨_,rfl,λh=>(by cases h),λ_=>by unfold InitP;simp;omega⟩
 . simp only[Int.reduceEq,decide_false,decide_true,Bool.false_eq_true,if_false,if_true,oZ3,cond_false,cond_true];rw[bV ha.1 (by omega),bV c1 (by omega)];by_cases g:0<x.A%4
   . by_cases g2:code%2=1
     . rw[if_pos (by simp[g,g2])];exact⟨_,rfl,λh=>(by cases h),λ_=>by unfold InitP;simp;omega⟩
     . rw[if_neg (by simp[g2])];exact⟨_,rfl,λh=>(by cases h),λ_=>by unfold InitP;simp;omega⟩
   . rw[if_neg (by simp[g])];exact⟨_,rfl,λh=>(by cases h),λ_=>by unfold InitP;simp;omega⟩
 . obtain⟨i1,i2,i3,i4⟩:=hids;simp only[Int.reduceEq,decide_false,decide_true,Bool.false_eq_true,if_false,if_true,oZ3,cond_false,cond_true];rw[i1];simp only[oZ4,oZ3];have r0:0<=code%((idsL x).length:Int):=Int.emod_nonneg _ (by omega)
   have r1:code%((idsL x).length:Int)<((idsL x).length:Int):=Int.emod_lt_of_pos _ (by omega);rw[if_pos (nz (by omega)),cX ⟨by omega,by omega⟩,bV c1 (by omega)];obtain⟨q,hq⟩:∃q:Nat,code%((idsL x).length:Int)=(q:Int):=⟨(code%((idsL x).length:Int)).toNat,by omega⟩
   rw[hq,if_pos (aq (by omega)),aA];exact⟨_,rfl,λh=>(by cases h),λ_=>by unfold InitP;simp;rw[<-List.getD_eq_getElem?_getD];exact aB (by omega) 0⟩
 . exact⟨_,rfl,λ_=>rfl,λh=>by cases h⟩
 . exact⟨_,rfl,λ_=>rfl,λh=>by cases h⟩
 . exact⟨_,rfl,λh=>(by cases h),λ_=>by unfold InitP;simp⟩
 . simp only[Int.reduceEq,decide_false,decide_true,Bool.false_eq_true,if_false,if_true,oZ3,cond_false,cond_true];rw[hu];rcases hu2 with⟨rfl,a⟩|a
   . exact⟨_,rfl,λh=>(by cases h),λ_=>by unfold InitP;simp;exactλw hw=>a w hw⟩
   . have hge:¬u<0:=by have:=a.1;omega
     simp only[oZ4,oZ3];rw[if_neg (by simp[hge])];exact⟨_,rfl,λh=>(by cases h),λ_=>by unfold InitP;simp;exact⟨u,a⟩⟩
 . exact⟨_,rfl,λh=>(by cases h),λ_=>by unfold InitP;simp⟩
end
end
end Go.Proofs.YtkbmjabicjpmjaaGreatDoor
