/- The functions of the program as functions of Lean, that its code does what they say, and what they answer; part B. -/
import Derived.Test.YtijpinendaoleaaGreatRtA

namespace Go.Proofs.YtijpinendaoleaaGreat
set_option linter.all false
section
open Go Go.Proofs.YtijpinendaoleaaGreat.Shv
open Tryz
set_option maxRecDepth 100000
def nH(x_:List UInt8×List UInt8):Option (Bool):=
 match x_ with
 | (a,b)=>
 some (bif decide ((a.length:Int) < (b.length:Int))then true else bif decide ((a.length:Int)=(b.length:Int))then Op.bytesLess a b else false)
theorem NH :KC e123:= .m (by kernel_rfl)
theorem DZ :FC e123 nH:= .fn NH .n .n fun _=>by kernel_rfl
def eL(x_:Int×List aF×Int×Int×Int×List ae×Int×List UInt8×Int×Int×Int×List aC×List aj×Int×Int×Bool×aj):Option (Int×List aF×Int×Int×List ae×Int×List UInt8×Int×Int×Int×List aC×List aj×Int×Int×Bool×aj):=
 match x_ with
 | (levels_5,l_6,i_4,at0_1,k,b_65,b_66,b_67,b_68,b_69,b_70,b_71,b_72,b_73,b_74,b_75,b_76)=>
 if decide (k < (l_6.length:Int))=true then
 if inR k l_6.length=true then
 if decide ((l_6.getD k.toNat aN).ID=b_76.ID)=true then
 eL (levels_5,l_6,i_4,k,addI .i64 k 1,b_65,b_66,b_67,b_68,b_69,b_70,b_71,b_72,b_73,b_74,b_75,(⟨b_76.ID,b_76.Name,b_76.Type_,b_76.Critical,b_76.HasDefault,ab.eta b_76.Default⟩:aj))
 else
 eL (levels_5,l_6,i_4,at0_1,addI .i64 k 1,b_65,b_66,b_67,b_68,b_69,b_70,b_71,b_72,b_73,b_74,b_75,(⟨b_76.ID,b_76.Name,b_76.Type_,b_76.Critical,b_76.HasDefault,ab.eta b_76.Default⟩:aj))
 else none
 else
 some (levels_5,l_6,i_4,at0_1,b_65,b_66,b_67,b_68,b_69,b_70,b_71,b_72,b_73,b_74,b_75,(⟨b_76.ID,b_76.Name,b_76.Type_,b_76.Critical,b_76.HasDefault,ab.eta b_76.Default⟩:aj))
  partial_fixpoint
theorem Co :LC 76 0 [0,2] zX eL:= .rc eL.partial_correctness .n .n fun _ _=>by kernel_rfl
def dn(x_:List aF×Int×Int×List UInt8×Int×Int×Int×List aC×List aj×Int×Int×Bool):Option ((Bool) ⊕ (Unit)):=
 match x_ with
 | (l_7,k_1,b_77,b_78,b_79,b_80,b_81,b_82,b_83,b_84,b_85,b_86)=>
 if decide (k_1 < (l_7.length:Int))=true then
 if inR k_1 l_7.length=true then
 cj ((⟨b_77,b_78,b_79,b_80,b_81,b_82,b_83,b_84,b_85,b_86⟩:ae),(l_7.getD k_1.toNat aN).ID) >>=fun r_35=>
 some (!r_35.2) >>=fun t367=>
 if(inR k_1 l_7.length || (!t367))=true then
 if(bif t367 then(l_7.getD k_1.toNat aN).Critical else false)=true then
 some (.inl false)
 else
 dn (l_7,addI .i64 k_1 1,b_77,b_78,b_79,b_80,b_81,b_82,b_83,b_84,b_85,b_86)
 else none
 else none
 else
 some (.inr ())
  partial_fixpoint
theorem Cx :LC 76 0 [4] e76_4 dn:= .rc dn.partial_correctness (.k nA .n) .n fun _ _=>by kernel_rfl
mutual
def bu(x_:av×Int×List UInt8×Int):Option (Bool):=
 match x_ with
 | (s,t,p,levels)=>
 if inR t s.Types.length=true then
 some (s.Types.getD t.toNat af) >>=fun x0=>
 if decide (levels < 1)=true then
 some false
 else
 if decide (x0.Kind=1)=true then
 some (bif decide (p=[])then true else decide (p=[1]))
 else
 if decide (x0.Kind=2)=true then
 jk p >>=fun r=>
 some (decide (r.2=0)) >>=fun t61=>
 (if t61=true then ji r.1 else some 0) >>=fun r_3=>
 some (bif t61 then decide (x0.Low<=r_3)else false) >>=fun t68=>
 (if t68=true then ji r.1 else some 0) >>=fun r_4=>
 some (bif t68 then decide (r_4<=x0.High)else false)
 else
 if decide (x0.Kind=3)=true then
 some (decide ((p.length:Int)<=x0.Max))
 else
 if decide (x0.Kind=4)=true then
 jk p >>=fun r_5=>
 if(bif bif (!(decide (r_5.2=0)))then true else decide (r_5.1 < 1)then true else decide (1000 < r_5.1))=true then
 some false
 else
 jo (x0,wrp .i64 r_5.1) >>=fun r_8=>
 some (bif r_8.2 then true else x0.Open)
 else
 if decide (x0.Kind=9)=true then
 some (decide (p=[])) >>=fun t115=>
 if(inR 0 p.length || (!(!t115)))=true then
 some (decide (aY p 0=1)) >>=fun t119=>
 if(slR 1 (p.length:Int) p.length || (!((!t115) && t119)))=true then
 (if((!t115) && t119)=true then bu (s,x0.Elem,cutL p 1 (p.length:Int),subI .i64 levels 1)else some false) >>=fun r_11=>
 some (bif t115 then true else bif t119 then r_11 else false)
 else none
 else none
 else
 if decide (x0.Kind=6)=true then
 jy p >>=fun r_12=>
 if(!(decide (r_12.2.2=0)))=true then
 some false
 else
 cj (x0,r_12.1) >>=fun r_16=>
 if r_16.2=true then
 if inR r_16.1 x0.Members.length=true then
 bu (s,(x0.Members.getD r_16.1.toNat ap).Type_,r_12.2.1,subI .i64 levels 1) >>=fun r_19=>
 some r_19
 else none
 else
 some x0.Open
 else
 if decide (x0.Kind=7)=true then
 gr p >>=fun r_20=>
 eN (levels,r_20.1,r_20.2,0,s.Types,x0.Kind,x0.Name,x0.Low,x0.High,x0.Max,x0.Symbols,x0.Members,x0.Key,x0.Elem,x0.Open) >>=fun o=>
 match o with
 | .inl o_1=>
 some o_1
 | .inr o_2=>
 some (bif decide (o_2.2.1=0)then decide ((o_2.1.length:Int)<=o_2.2.2.2.2.2.2.1)else false)
 else
 if decide (x0.Kind=8)=true then
 gr p >>=fun r_23=>
 if(bif bif (!(decide (r_23.2=0)))then true else(!(decide (remI (r_23.1.length:Int) 2=0)))then true else decide (x0.Max < quoI .i64 (r_23.1.length:Int) 2))=true then
 some false
 else
 dK (levels,r_23.1,0,s.Types,x0.Kind,x0.Name,x0.Low,x0.High,x0.Max,x0.Symbols,x0.Members,x0.Key,x0.Elem,x0.Open) >>=fun o_3=>
 match o_3 with
 | .inl o_4=>
 some o_4
 | .inr o_5=>
 some true
 else
 jq p >>=fun r_26=>
 if(!(decide (r_26.2=0)))=true then
 some false
 else
 dL (levels,r_26.1,0,s.Types,x0.Kind,x0.Name,x0.Low,x0.High,x0.Max,x0.Symbols,x0.Members,x0.Key,x0.Elem,x0.Open) >>=fun o_6=>
 match o_6 with
 | .inl o_7=>
 some o_7
 | .inr o_8=>
 dn (o_8.1,0,o_8.2.1,o_8.2.2.1,o_8.2.2.2.1,o_8.2.2.2.2.1,o_8.2.2.2.2.2.1,o_8.2.2.2.2.2.2.1,o_8.2.2.2.2.2.2.2.1,o_8.2.2.2.2.2.2.2.2.1,o_8.2.2.2.2.2.2.2.2.2.1,o_8.2.2.2.2.2.2.2.2.2.2) >>=fun o_9=>
 match o_9 with
 | .inl o_10=>
 some o_10
 | .inr o_11=>
 some true
 else none
  partial_fixpoint
def eN(x_:Int×List (List UInt8)×Int×Int×List ae×Int×List UInt8×Int×Int×Int×List aC×List aj×Int×Int×Bool):Option ((Bool) ⊕ (List (List UInt8)×Int×Int×List UInt8×Int×Int×Int×List aC×List aj×Int×Int×Bool)):=
 match x_ with
 | (levels_1,l_2,e0_1,i,b_20,b_21,b_22,b_23,b_24,b_25,b_26,b_27,b_28,b_29,b_30)=>
 if decide (i < (l_2.length:Int))=true then
 if inR i l_2.length=true then
 bu ((⟨b_20⟩:av),b_29,l_2.getD i.toNat [],subI .i64 levels_1 1) >>=fun r_29=>
 if(!r_29)=true then
 some (.inl false)
 else
 eN (levels_1,l_2,e0_1,addI .i64 i 1,b_20,b_21,b_22,b_23,b_24,b_25,b_26,b_27,b_28,b_29,b_30)
 else none
 else
 some (.inr (l_2,e0_1,b_21,b_22,b_23,b_24,b_25,b_26,b_27,b_28,b_29,b_30))
  partial_fixpoint
def dK(x_:Int×List (List UInt8)×Int×List ae×Int×List UInt8×Int×Int×Int×List aC×List aj×Int×Int×Bool):Option ((Bool) ⊕ (Unit)):=
 match x_ with
 | (levels_2,l_3,i_1,b_31,b_32,b_33,b_34,b_35,b_36,b_37,b_38,b_39,b_40,b_41)=>
 if decide (i_1 < (l_3.length:Int))=true then
 if inR i_1 l_3.length=true then
 bu ((⟨b_31⟩:av),b_39,l_3.getD i_1.toNat [],subI .i64 levels_2 1) >>=fun r_30=>
 some (!r_30) >>=fun t233=>
 some (addI .i64 i_1 1) >>=fun t240=>
 if(inR t240 l_3.length || (!(!t233)))=true then
 (if(!t233)=true then bu ((⟨b_31⟩:av),b_40,l_3.getD t240.toNat [],subI .i64 levels_2 1)else some false) >>=fun r_31=>
 some (bif t233 then true else(!r_31)) >>=fun t247=>
 some (decide (0 < i_1)) >>=fun t250=>
 some (subI .i64 i_1 2) >>=fun t254=>
 if(inR t254 l_3.length || (!((!t247) && t250)))=true then
 if(inR i_1 l_3.length || (!((!t247) && t250)))=true then
 (if((!t247) && t250)=true then nH (l_3.getD t254.toNat [],l_3.getD i_1.toNat [])else some false) >>=fun r_32=>
 if(bif t247 then true else bif t250 then(!r_32)else false)=true then
 some (.inl false)
 else
 dK (levels_2,l_3,addI .i64 i_1 2,b_31,b_32,b_33,b_34,b_35,b_36,b_37,b_38,b_39,b_40,b_41)
 else none
 else none
 else none
 else none
 else
 some (.inr ())
  partial_fixpoint
def dL(x_:Int×List aF×Int×List ae×Int×List UInt8×Int×Int×Int×List aC×List aj×Int×Int×Bool):Option ((Bool) ⊕ (List aF×Int×List UInt8×Int×Int×Int×List aC×List aj×Int×Int×Bool)):=
 match x_ with
 | (levels_3,l_4,i_2,b_42,b_43,b_44,b_45,b_46,b_47,b_48,b_49,b_50,b_51,b_52)=>
 if decide (i_2 < (b_49.length:Int))=true then
 if inR i_2 b_49.length=true then
 some (b_49.getD i_2.toNat ap) >>=fun x0_7=>
 eL (levels_3,l_4,i_2,(-1),0,b_42,b_43,b_44,b_45,b_46,b_47,b_48,b_49,b_50,b_51,b_52,(⟨x0_7.ID,x0_7.Name,x0_7.Type_,x0_7.Critical,x0_7.HasDefault,ab.eta x0_7.Default⟩:aj)) >>=fun o_12=>
 if(bif decide (o_12.2.2.2.1 < 0)then(!o_12.2.2.2.2.2.2.2.2.2.2.2.2.2.2.2.HasDefault)else false)=true then
 some (.inl false)
 else
 some (decide (0<=o_12.2.2.2.1)) >>=fun t307=>
 if(inR o_12.2.2.2.1 o_12.2.1.length || (!t307))=true then
 some (!(eqB (o_12.2.1.getD o_12.2.2.2.1.toNat aN).Critical o_12.2.2.2.2.2.2.2.2.2.2.2.2.2.2.2.Critical)) >>=fun t316=>
 if(inR o_12.2.2.2.1 o_12.2.1.length || (!(t307 && (!t316))))=true then
 (if(t307 && (!t316))=true then bu ((⟨o_12.2.2.2.2.1⟩:av),o_12.2.2.2.2.2.2.2.2.2.2.2.2.2.2.2.Type_,(o_12.2.1.getD o_12.2.2.2.1.toNat aN).Data,subI .i64 o_12.1 1)else some false) >>=fun r_33=>
 some (bif t316 then true else(!r_33)) >>=fun t330=>
 if(inR o_12.2.2.2.1 o_12.2.1.length || (!(t307 && (!t330) && o_12.2.2.2.2.2.2.2.2.2.2.2.2.2.2.2.HasDefault)))=true then
 (if(t307 && (!t330) && o_12.2.2.2.2.2.2.2.2.2.2.2.2.2.2.2.HasDefault)=true then cR ((⟨o_12.2.2.2.2.1⟩:av),o_12.2.2.2.2.2.2.2.2.2.2.2.2.2.2.2.Type_,ab.eta o_12.2.2.2.2.2.2.2.2.2.2.2.2.2.2.2.Default)else some []) >>=fun r_34=>
 if(bif t307 then bif t330 then true else bif o_12.2.2.2.2.2.2.2.2.2.2.2.2.2.2.2.HasDefault then decide ((o_12.2.1.getD o_12.2.2.2.1.toNat aN).Data=r_34)else false else false)=true then
 some (.inl false)
 else
 dL (o_12.1,o_12.2.1,addI .i64 o_12.2.2.1 1,o_12.2.2.2.2.1,o_12.2.2.2.2.2.1,o_12.2.2.2.2.2.2.1,o_12.2.2.2.2.2.2.2.1,o_12.2.2.2.2.2.2.2.2.1,o_12.2.2.2.2.2.2.2.2.2.1,o_12.2.2.2.2.2.2.2.2.2.2.1,o_12.2.2.2.2.2.2.2.2.2.2.2.1,o_12.2.2.2.2.2.2.2.2.2.2.2.2.1,o_12.2.2.2.2.2.2.2.2.2.2.2.2.2.1,o_12.2.2.2.2.2.2.2.2.2.2.2.2.2.2.1)
 else none
 else none
 else none
 else none
 else
 some (.inr (l_4,b_43,b_44,b_45,b_46,b_47,b_48,b_49,b_50,b_51,b_52))
  partial_fixpoint
end
theorem e76_k :KC e76:= .m (by kernel_rfl)
theorem CK :(∀h r,bu h=some r->FD e76 h r)/\(∀h r,dL h=some r->LD 76 0 [2] e76_2 h r)/\(∀h r,dK h=some r->LD 76 0 [1] e76_1 h r)/\(∀h r,eN h=some r->LD 76 0 [0] e76_0 h r):=bu.mutual_partial_correctness (FD e76) (LD 76 0 [2] e76_2) (LD 76 0 [1] e76_1) (LD 76 0 [0] e76_0)
 (fun _ _ _ _ h0 h1 h2 h3 _ _ h=>FA e76 e76_k (.k Dl (.k Db (.k Du (.k (FH e76 e76_k h0) (.k Em (.k nA (.k DY (.k Dx .n)))))))) (.k (LH e76_0 h3) (.k (LH e76_1 h2) (.k (LH e76_2 h1) (.k Cx .n)))) (.trans (by kernel_rfl) h))
 (fun _ _ h0 h1 _ _ h=>LA e76_2 h1 (.k (FH e76 e76_k h0) (.k Dm .n)) (.k Co .n) (.trans (by kernel_rfl) h))
 (fun _ _ h0 h2 _ _ h=>LA e76_1 h2 (.k (FH e76 e76_k h0) (.k DZ .n)) .n (.trans (by kernel_rfl) h))
 (fun _ _ h0 h3 _ _ h=>LA e76_0 h3 (.k (FH e76 e76_k h0) .n) .n (.trans (by kernel_rfl) h))
theorem C6 :FC e76 bu:= .of e76_k CK.1
def kU(x_:av×Int×List UInt8):Option (Bool):=
 match x_ with
 | (s,t,m)=>
 im s >>=fun r=>
 some (bif bif bif decide (r=0)then decide (0<=t)else false then decide (t < (s.Types.length:Int))else false then decide ((m.length:Int)<=4096)else false) >>=fun t25=>
 (if t25=true then bu (s,t,m,200)else some false) >>=fun r_1=>
 some (bif t25 then r_1 else false)
theorem e38_k :KC e38:= .m (by kernel_rfl)
theorem C7 :FC e38 kU:= .fn e38_k (.k DX (.k C6 .n)) .n fun _=>by kernel_rfl
def nU(x_:List UInt8×List UInt8):Option (Bool):=
 match x_ with
 | (a,b)=>
 some (bif decide ((a.length:Int) < (b.length:Int))then true else bif decide ((a.length:Int)=(b.length:Int))then Op.bytesLess a b else false)
theorem NI :KC e164:= .m (by kernel_rfl)
theorem EY :FC e164 nU:= .fn NI .n .n fun _=>by kernel_rfl
def jG(x_:ae×List UInt8):Option (Bool):=
 match x_ with
 | (x0,p)=>
 if decide (x0.Kind=1)=true then
 some (bif decide (p=[])then true else decide (p=[1]))
 else
 if decide (x0.Kind=3)=true then
 some (decide ((p.length:Int)<=x0.Max))
 else
 jC p >>=fun r=>
 if(!(decide (r.2=0)))=true then
 some false
 else
 if decide (x0.Kind=2)=true then
 lx r.1 >>=fun r_3=>
 some (bif decide (x0.Low<=r_3)then decide (r_3<=x0.High)else false)
 else
 if(bif decide (r.1 < 1)then true else decide (1000 < r.1))=true then
 some false
 else
 jE (x0,wrp .i64 r.1) >>=fun r_4=>
 some (bif r_4.2 then true else x0.Open)
theorem NK :KC e130:= .m (by kernel_rfl)
theorem EZ :FC e130 jG:= .fn NK (.k ud (.k tW (.k qC .n))) .n fun _=>by kernel_rfl
def eR(x_:Int×List aj×Int×Int):Option (Int):=
 match x_ with
 | (seen_3,t93,t94_1,t95)=>
 if decide (t95 < t94_1)=true then
 if inR t95 t93.length=true then
 if(!(t93.getD t95.toNat ap).HasDefault)=true then
 eR (subI .i64 seen_3 1,t93,t94_1,addI .i64 t95 1)
 else
 eR (seen_3,t93,t94_1,addI .i64 t95 1)
 else none
 else
 some seen_3
  partial_fixpoint
theorem CL :LC 126 0 [1] Bp eR:= .rc eR.partial_correctness .n .n fun _ _=>by kernel_rfl
mutual
def ba(x_:bj×Int×List UInt8×Int):Option (Bool):=
 match x_ with
 | (r,t,p,level)=>
 if inR t r.s.Types.length=true then
 some (r.s.Types.getD t.toNat af) >>=fun x0=>
 if decide (200 < level)=true then
 some false
 else
 if decide (x0.Kind=5)=true then
 nB ((⟨(⟨r.s.Types⟩:av)⟩:bj),x0,p,level) >>=fun r_1=>
 some r_1
 else
 some (decide (x0.Kind=7)) >>=fun t33=>
 if t33=true then
 if t33=true then
 hY ((⟨(⟨r.s.Types⟩:av)⟩:bj),x0,p,level) >>=fun r_2=>
 some r_2
 else
 if decide (x0.Kind=9)=true then
 some (decide (p=[])) >>=fun t43=>
 if(inR 0 p.length || (!(!t43)))=true then
 some (decide (aY p 0=1)) >>=fun t47=>
 if(slR 1 (p.length:Int) p.length || (!((!t43) && t47)))=true then
 (if((!t43) && t47)=true then ba ((⟨(⟨r.s.Types⟩:av)⟩:bj),x0.Elem,cutL p 1 (p.length:Int),addI .i64 level 1)else some false) >>=fun r_3=>
 some (bif t43 then true else bif t47 then r_3 else false)
 else none
 else none
 else
 if decide (x0.Kind=6)=true then
 dy p >>=fun r_4=>
 if(!(decide (r_4.2.2=0)))=true then
 some false
 else
 bY (x0,r_4.1) >>=fun r_8=>
 some (bif (!r_8.2)then x0.Open else false) >>=fun t80=>
 if(inR r_8.1 x0.Members.length || (!((!t80) && r_8.2)))=true then
 (if((!t80) && r_8.2)=true then ba ((⟨(⟨r.s.Types⟩:av)⟩:bj),(x0.Members.getD r_8.1.toNat ap).Type_,r_4.2.1,addI .i64 level 1)else some false) >>=fun r_11=>
 some (bif t80 then true else bif r_8.2 then r_11 else false)
 else none
 else
 jG (x0,p) >>=fun r_12=>
 some r_12
 else
 if decide (x0.Kind=8)=true then
 hY ((⟨(⟨r.s.Types⟩:av)⟩:bj),x0,p,level) >>=fun r_13=>
 some r_13
 else
 if decide (x0.Kind=9)=true then
 some (decide (p=[])) >>=fun t43_1=>
 if(inR 0 p.length || (!(!t43_1)))=true then
 some (decide (aY p 0=1)) >>=fun t47_1=>
 if(slR 1 (p.length:Int) p.length || (!((!t43_1) && t47_1)))=true then
 (if((!t43_1) && t47_1)=true then ba ((⟨(⟨r.s.Types⟩:av)⟩:bj),x0.Elem,cutL p 1 (p.length:Int),addI .i64 level 1)else some false) >>=fun r_14=>
 some (bif t43_1 then true else bif t47_1 then r_14 else false)
 else none
 else none
 else
 if decide (x0.Kind=6)=true then
 dy p >>=fun r_15=>
 if(!(decide (r_15.2.2=0)))=true then
 some false
 else
 bY (x0,r_15.1) >>=fun r_19=>
 some (bif (!r_19.2)then x0.Open else false) >>=fun t80_1=>
 if(inR r_19.1 x0.Members.length || (!((!t80_1) && r_19.2)))=true then
 (if((!t80_1) && r_19.2)=true then ba ((⟨(⟨r.s.Types⟩:av)⟩:bj),(x0.Members.getD r_19.1.toNat ap).Type_,r_15.2.1,addI .i64 level 1)else some false) >>=fun r_22=>
 some (bif t80_1 then true else bif r_19.2 then r_22 else false)
 else none
 else
 jG (x0,p) >>=fun r_23=>
 some r_23
 else none
  partial_fixpoint
def hY(x_:bj×ae×List UInt8×Int):Option (Bool):=
 match x_ with
 | (r,x0,p,level)=>
 cV p >>=fun r_1=>
 if(!(decide (r_1.2=0)))=true then
 some false
 else
 if decide (x0.Kind=7)=true then
 some (decide ((r_1.1.length:Int)<=x0.Max)) >>=fun t26=>
 if t26=true then
 kO (r_1.1,r.s.Types,x0.Kind,x0.Name,x0.Low,x0.High,x0.Max,x0.Symbols,x0.Members,x0.Key,x0.Elem,x0.Open,level) >>=fun r_4=>
 some (bif t26 then(!r_4.1)else false)
 else
 some (bif t26 then false else false)
 else
 if(bif decide (remI (r_1.1.length:Int) 2=1)then true else decide (x0.Max < quoI .i64 (r_1.1.length:Int) 2))=true then
 some false
 else
 dN (r_1.1,0,r.s.Types,x0.Kind,x0.Name,x0.Low,x0.High,x0.Max,x0.Symbols,x0.Members,x0.Key,x0.Elem,x0.Open,level) >>=fun o=>
 match o with
 | .inl o_1=>
 some o_1
 | .inr o_2=>
 some true
  partial_fixpoint
def qc(x_:List UInt8×List ae×Int×List UInt8×Int×Int×Int×List aC×List aj×Int×Int×Bool×Int):Option (Bool×List ae×Int×List UInt8×Int×Int×Int×List aC×List aj×Int×Int×Bool×Int):=
 match x_ with
 | (p,b,b_1,b_2,b_3,b_4,b_5,b_6,b_7,b_8,b_9,b_10,b_11)=>
 ba ((⟨(⟨b⟩:av)⟩:bj),b_9,p,addI .i64 b_11 1) >>=fun r=>
 some ((!r),b,b_1,b_2,b_3,b_4,b_5,b_6,b_7,b_8,b_9,b_10,b_11)
  partial_fixpoint
def nB(x_:bj×ae×List UInt8×Int):Option (Bool):=
 match x_ with
 | (r,x0,p,level)=>
 dT p >>=fun r_1=>
 if(!(decide (r_1.2=0)))=true then
 some false
 else
 cC (level,0,r_1.1,(r_1.1.length:Int),0,r.s.Types,x0) >>=fun o=>
 match o with
 | .inl o_1=>
 some o_1
 | .inr o_2=>
 eR (o_2.1,o_2.2.Members,(o_2.2.Members.length:Int),0) >>=fun o_3=>
 some (decide (o_3=0))
  partial_fixpoint
def kO(x_:List (List UInt8)×List ae×Int×List UInt8×Int×Int×Int×List aC×List aj×Int×Int×Bool×Int):Option (Bool×List ae×Int×List UInt8×Int×Int×Int×List aC×List aj×Int×Int×Bool×Int):=
 match x_ with
 | (s,b,b_1,b_2,b_3,b_4,b_5,b_6,b_7,b_8,b_9,b_10,b_11)=>
 p8 (s,b,b_1,b_2,b_3,b_4,b_5,b_6,b_7,b_8,b_9,b_10,b_11) >>=fun r=>
 some (decide (0<=r.1),r.2.1,r.2.2.1,r.2.2.2.1,r.2.2.2.2.1,r.2.2.2.2.2.1,r.2.2.2.2.2.2.1,r.2.2.2.2.2.2.2.1,r.2.2.2.2.2.2.2.2.1,r.2.2.2.2.2.2.2.2.2.1,r.2.2.2.2.2.2.2.2.2.2.1,r.2.2.2.2.2.2.2.2.2.2.2.1,r.2.2.2.2.2.2.2.2.2.2.2.2)
  partial_fixpoint
def p8(x_:List (List UInt8)×List ae×Int×List UInt8×Int×Int×Int×List aC×List aj×Int×Int×Bool×Int):Option (Int×List ae×Int×List UInt8×Int×Int×Int×List aC×List aj×Int×Int×Bool×Int):=
 match x_ with
 | (s,b,b_1,b_2,b_3,b_4,b_5,b_6,b_7,b_8,b_9,b_10,b_11)=>
 fZ (s,(s.length:Int),0,b,b_1,b_2,b_3,b_4,b_5,b_6,b_7,b_8,b_9,b_10,b_11) >>=fun o=>
 match o with
 | .inl o_1=>
 some (o_1.1,o_1.2.1,o_1.2.2.1,o_1.2.2.2.1,o_1.2.2.2.2.1,o_1.2.2.2.2.2.1,o_1.2.2.2.2.2.2.1,o_1.2.2.2.2.2.2.2.1,o_1.2.2.2.2.2.2.2.2.1,o_1.2.2.2.2.2.2.2.2.2.1,o_1.2.2.2.2.2.2.2.2.2.2.1,o_1.2.2.2.2.2.2.2.2.2.2.2.1,o_1.2.2.2.2.2.2.2.2.2.2.2.2)
 | .inr o_2=>
 some ((-1),o_2.1,o_2.2.1,o_2.2.2.1,o_2.2.2.2.1,o_2.2.2.2.2.1,o_2.2.2.2.2.2.1,o_2.2.2.2.2.2.2.1,o_2.2.2.2.2.2.2.2.1,o_2.2.2.2.2.2.2.2.2.1,o_2.2.2.2.2.2.2.2.2.2.1,o_2.2.2.2.2.2.2.2.2.2.2.1,o_2.2.2.2.2.2.2.2.2.2.2.2)
  partial_fixpoint
def dN(x_:List (List UInt8)×Int×List ae×Int×List UInt8×Int×Int×Int×List aC×List aj×Int×Int×Bool×Int):Option ((Bool) ⊕ (Unit)):=
 match x_ with
 | (l,i,b,b_1,b_2,b_3,b_4,b_5,b_6,b_7,b_8,b_9,b_10,b_11)=>
 if decide (i < (l.length:Int))=true then
 if inR i l.length=true then
 ba ((⟨(⟨b⟩:av)⟩:bj),b_8,l.getD i.toNat [],addI .i64 b_11 1) >>=fun r_18=>
 some (!r_18) >>=fun t61=>
 some (addI .i64 i 1) >>=fun t68=>
 if(inR t68 l.length || (!(!t61)))=true then
 (if(!t61)=true then ba ((⟨(⟨b⟩:av)⟩:bj),b_9,l.getD t68.toNat [],addI .i64 b_11 1)else some false) >>=fun r_19=>
 some (bif t61 then true else(!r_19)) >>=fun t75=>
 some (decide (0 < i)) >>=fun t78=>
 some (subI .i64 i 2) >>=fun t82=>
 if(inR t82 l.length || (!((!t75) && t78)))=true then
 if(inR i l.length || (!((!t75) && t78)))=true then
 (if((!t75) && t78)=true then nU (l.getD t82.toNat [],l.getD i.toNat [])else some false) >>=fun r_20=>
 if(bif t75 then true else bif t78 then(!r_20)else false)=true then
 some (.inl false)
 else
 dN (l,addI .i64 i 2,b,b_1,b_2,b_3,b_4,b_5,b_6,b_7,b_8,b_9,b_10,b_11)
 else none
 else none
 else none
 else none
 else
 some (.inr ())
  partial_fixpoint
def cC(x_:Int×Int×List aF×Int×Int×List ae×ae):Option ((Bool) ⊕ (Int×ae)):=
 match x_ with
 | (level_1,seen_2,t27,t28_1,t29,b_1,b_2)=>
 if decide (t29 < t28_1)=true then
 if inR t29 t27.length=true then
 some (t27.getD t29.toNat aN) >>=fun x0_1=>
 bY (b_2,x0_1.ID) >>=fun r_4=>
 if(!r_4.2)=true then
 if x0_1.Critical=true then
 some (.inl false)
 else
 cC (level_1,seen_2,t27,t28_1,addI .i64 t29 1,b_1,b_2)
 else
 if inR r_4.1 b_2.Members.length=true then
 some (b_2.Members.getD r_4.1.toNat ap) >>=fun x0_2=>
 some (!(eqB x0_1.Critical x0_2.Critical)) >>=fun t53=>
 (if(!t53)=true then ba ((⟨(⟨b_1⟩:av)⟩:bj),x0_2.Type_,x0_1.Data,addI .i64 level_1 1)else some false) >>=fun r_7=>
 if(bif t53 then true else(!r_7))=true then
 some (.inl false)
 else
 if x0_2.HasDefault=true then
 fC ((⟨b_1⟩:av),x0_2.Type_,ab.eta x0_2.Default) >>=fun r_8=>
 if r_8=true then
 cD (x0_2.Type_,ab.eta x0_2.Default,1,b_1,0) >>=fun r_9=>
 if(bif r_8 then decide (r_9.1=x0_1.Data)else false)=true then
 some (.inl false)
 else
 cC (level_1,seen_2,t27,t28_1,addI .i64 t29 1,b_1,b_2)
 else
 if(bif r_8 then false else false)=true then
 some (.inl false)
 else
 cC (level_1,seen_2,t27,t28_1,addI .i64 t29 1,b_1,b_2)
 else
 cC (level_1,addI .i64 seen_2 1,t27,t28_1,addI .i64 t29 1,b_1,b_2)
 else none
 else none
 else
 some (.inr (seen_2,b_2))
  partial_fixpoint
def fZ(x_:List (List UInt8)×Int×Int×List ae×Int×List UInt8×Int×Int×Int×List aC×List aj×Int×Int×Bool×Int):Option ((Int×List ae×Int×List UInt8×Int×Int×Int×List aC×List aj×Int×Int×Bool×Int) ⊕ (List ae×Int×List UInt8×Int×Int×Int×List aC×List aj×Int×Int×Bool×Int)):=
 match x_ with
 | (s_1,t7_1,t8,b_36,b_37,b_38,b_39,b_40,b_41,b_42,b_43,b_44,b_45,b_46,b_47)=>
 if decide (t8 < t7_1)=true then
 if inR t8 s_1.length=true then
 qc (s_1.getD t8.toNat [],b_36,b_37,b_38,b_39,b_40,b_41,b_42,b_43,b_44,b_45,b_46,b_47) >>=fun r=>
 if r.1=true then
 some (.inl (t8,r.2.1,r.2.2.1,r.2.2.2.1,r.2.2.2.2.1,r.2.2.2.2.2.1,r.2.2.2.2.2.2.1,r.2.2.2.2.2.2.2.1,r.2.2.2.2.2.2.2.2.1,r.2.2.2.2.2.2.2.2.2.1,r.2.2.2.2.2.2.2.2.2.2.1,r.2.2.2.2.2.2.2.2.2.2.2.1,r.2.2.2.2.2.2.2.2.2.2.2.2))
 else
 fZ (s_1,t7_1,addI .i64 t8 1,r.2.1,r.2.2.1,r.2.2.2.1,r.2.2.2.2.1,r.2.2.2.2.2.1,r.2.2.2.2.2.2.1,r.2.2.2.2.2.2.2.1,r.2.2.2.2.2.2.2.2.1,r.2.2.2.2.2.2.2.2.2.1,r.2.2.2.2.2.2.2.2.2.2.1,r.2.2.2.2.2.2.2.2.2.2.2.1,r.2.2.2.2.2.2.2.2.2.2.2.2)
 else none
 else
 some (.inr (b_36,b_37,b_38,b_39,b_40,b_41,b_42,b_43,b_44,b_45,b_46,b_47))
  partial_fixpoint
end
theorem e78_k :KC e78:= .m (by kernel_rfl)
theorem BA :KC e127:= .m (by kernel_rfl)
theorem yM :KC m8:= .m (by kernel_rfl)
theorem yN :KC m7:= .m (by kernel_rfl)
theorem yO :KC m6:= .m (by kernel_rfl)
theorem BB :KC e126:= .m (by kernel_rfl)
theorem Cp :(∀h r,ba h=some r->FD e78 h r)/\(∀h r,hY h=some r->FD e127 h r)/\(∀h r,dN h=some r->LD 127 0 [0] m9 h r)/\(∀h r,kO h=some r->FD m8 h r)/\(∀h r,p8 h=some r->FD m7 h r)/\(∀h r,fZ h=some r->LD 203 3 [0] mu h r)/\(∀h r,qc h=some r->FD m6 h r)/\(∀h r,nB h=some r->FD e126 h r)/\(∀h r,cC h=some r->LD 126 0 [0] m5 h r):=ba.mutual_partial_correctness (FD e78) (FD e127) (LD 127 0 [0] m9) (FD m8) (FD m7) (LD 203 3 [0] mu) (FD m6) (FD e126) (LD 126 0 [0] m5)
 (fun _ _ _ h0 h1 h7 _ _ h=>FA e78 e78_k (.k (FH e126 BB h7) (.k (FH e127 BA h1) (.k (FH e78 e78_k h0) (.k va (.k iw (.k EZ .n)))))) .n (.trans (by kernel_rfl) h))
 (fun _ _ h2 h3 _ _ h=>FA e127 BA (.k qL (.k (FH m8 yM h3) .n)) (.k (LH m9 h2) .n) (.trans (by kernel_rfl) h))
 (fun _ _ h0 h2 _ _ h=>LA m9 h2 (.k (FH e78 e78_k h0) (.k EY .n)) .n (.trans (by kernel_rfl) h))
 (fun _ h4 _ _ h=>FA m8 yM (.k (FH m7 yN h4) .n) .n (.trans (by kernel_rfl) h))
 (fun _ h5 _ _ h=>FA m7 yN .n (.k (LH mu h5) .n) (.trans (by kernel_rfl) h))
 (fun _ _ h5 h6 _ _ h=>LA mu h5 (.k (FH m6 yO h6) .n) .n (.trans (by kernel_rfl) h))
 (fun _ h0 _ _ h=>FA m6 yO (.k (FH e78 e78_k h0) .n) .n (.trans (by kernel_rfl) h))
 (fun _ h8 _ _ h=>FA e126 BB (.k ul .n) (.k (LH m5 h8) (.k CL .n)) (.trans (by kernel_rfl) h))
 (fun _ _ h0 h8 _ _ h=>LA m5 h8 (.k iw (.k (FH e78 e78_k h0) (.k vd (.k tB .n)))) .n (.trans (by kernel_rfl) h))
theorem CM :FC e78 ba:= .of e78_k Cp.1
def nK(x_:av×Int×List UInt8):Option (Bool):=
 match x_ with
 | (s,t,m)=>
 jD ((⟨s.Types⟩:av),t) >>=fun r=>
 some (bif decide (r=0)then decide ((m.length:Int)<=4096)else false) >>=fun t15=>
 (if t15=true then ba ((⟨(⟨s.Types⟩:av)⟩:bj),t,m,1)else some false) >>=fun r_1=>
 some (bif t15 then r_1 else false)
theorem e39_k :KC e39:= .m (by kernel_rfl)
theorem D9 :FC e39 nK:= .fn e39_k (.k ue (.k CM .n)) .n fun _=>by kernel_rfl
def nv(x_:aU×Int×List UInt8):Option (Bool):=
 match x_ with
 | (d,t,m)=>
 iz d >>=fun r=>
 ll () >>=fun r_3=>
 if(bif bif (!r_3)then true else(!r.2)then true else decide (300 < (m.length:Int)))=true then
 ll () >>=fun r_4=>
 some r_4
 else
 nF (r.1,t,m) >>=fun r_5=>
 kU (r.1,t,m) >>=fun r_6=>
 some (eqB r_5 r_6) >>=fun t34=>
 (if t34=true then nK (r.1,t,m)else some false) >>=fun r_7=>
 (if t34=true then kU (r.1,t,m)else some false) >>=fun r_8=>
 some (bif t34 then eqB r_7 r_8 else false)
theorem e9_k :KC e9:= .m (by kernel_rfl)
theorem N5 :FC e9 nv:= .fn e9_k (.k Eu (.k DG (.k DU (.k C7 (.k D9 .n))))) .n fun _=>by kernel_rfl
end
section
open Go Go.Proofs.YtijpinendaoleaaGreat.Shv
open Tryz
set_option maxRecDepth 100000
set_option linter.all false



end
section
open Go Go.Proofs.YtijpinendaoleaaGreat.Shv
set_option maxRecDepth 100000
def vg(s:List UInt8):Nat->Nat->Nat->Int×Int×Int
 | 0,_,_=>(0,0,10)
 | f+1,i,n=>
  if i < s.length then
   if i=9/\1 < (s.getD i 0).toNat then(0,0,7)
   else if 128<=(s.getD i 0).toNat then vg s f (i+1) (n+((s.getD i 0).toNat % 128)*2 ^ (7*i))
   else if(s.getD i 0).toNat=0/\0 < i then(0,0,2)
   else(((n+(s.getD i 0).toNat*2 ^ (7*i):Nat):Int),((i+1:Nat):Int),0)
  else(0,0,10)
theorem pow7{i:Nat}(h:i<=9):2 ^ (7*i)<=9223372036854775808:=by
 have:2 ^ (7*i)<=2 ^ 63:=Nat.pow_le_pow_right (by omega) (by omega);omega
theorem pow7s(i:Nat):2 ^ (7*(i+1))=2 ^ (7*i)*128:=by rw[Nat.mul_add,Nat.pow_add]
theorem step7{n i b:Nat}(hn:n < 2 ^ (7*i)):n+(b % 128)*2 ^ (7*i) < 2 ^ (7*(i+1)):=by
 rw[pow7s];have:b % 128*2 ^ (7*i)<=127*2 ^ (7*i):=Nat.mul_le_mul_right _ (by omega);omega
theorem fit7{n i b:Nat}(hi:i<=9)(hn:n < 2 ^ (7*i))(hb:b < 128)(h9:i=9->b<=1):b*2 ^ (7*i) < 18446744073709551616/\n+b*2 ^ (7*i) < 18446744073709551616:=by
 rcases Nat.lt_or_ge i 9 with h | h
 . have:2 ^ (7*i)<=2 ^ 56:=Nat.pow_le_pow_right (by omega) (by omega);have e:(2:Nat) ^ 56=72057594037927936:=by decide
   have:b*2 ^ (7*i)<=127*2 ^ (7*i):=Nat.mul_le_mul_right _ (by omega);omega
 grind
theorem BC(s:List UInt8):∀(f i n:Nat),i+f=10->n < 2 ^ (7*i)->∃o,iC (s,(n:Int),((min 10 s.length:Nat):Int),(i:Int))=some o/\(match o with | .inl x=>x | .inr _=>(0,0,10))=vg s f i n
 | 0,i,n,h,hn=>by
  refine⟨.inr (),?_,rfl⟩;rw[iC]
  grind
 | f+1,i,n,h,hn=>by
  rw[iC];simp only[vg,oZ4,oZ3,dV];by_cases hi:i < s.length
  . have hb:=mi s i;generalize (s.getD i 0).toNat=b at hb ⊢;rw[if_pos (by simp;omega),if_pos (au hi),if_pos hi];have hm:mulI .i64 7 (i:Int)=((7*i:Nat):Int):=by rw[AI (by omega) (by omega)];norm_cast
    rw[hm];have hz:decide ((0:Int)<=((7*i:Nat):Int))=true:=by simp;omega
    by_cases h9:i=9/\1 < b
    . rw[if_pos h9,if_pos (by obtain⟨h1,h2⟩:=h9;subst h1;simp;omega)]
      grind
    . rw[if_neg h9,if_neg (by grind)];by_cases hbig:128<=b
      . rw[if_pos hbig,if_pos (by simp;omega),if_pos hz];have h9':i=9->False:=fun h1=>h9 ⟨h1,by omega⟩
        have hlt:b % 128 < 128:=Nat.mod_lt _ (by omega);have hf:=fit7 (i:=i) (n:=n) (b:=b % 128) (by omega) hn hlt (fun h1=>(h9' h1).elim);rw[Ko hb,wrpn (by omega),yC (by omega) hf.1,zQ (by have:=pow7 (i:=i) (by omega);omega) hf.1,AH hn,aA (by omega)];exact BC s f (i+1) (n+b % 128*2 ^ (7*i)) (by omega) (step7 hn)
      . rw[if_neg hbig,if_neg (by simp;omega)];by_cases h0:b=0/\0 < i
        . simp_all
        . rw[if_neg h0,if_neg (by grind),if_pos hz];have hf:=fit7 (i:=i) (n:=n) (b:=b) (by omega) hn (by omega) (fun h1=>by omega);rw[wrpn (by omega),yC (by omega) hf.1,zQ (by have:=pow7 (i:=i) (by omega);omega) hf.1,AH hn,aA (by omega)]
          grind
  . rw[if_neg (by simp;omega),if_neg hi]
    grind
theorem BD(s:List UInt8):oG s=some (vg s 10 0 0):=by
 obtain⟨o,h1,h2⟩:=BC s 10 0 0 rfl (by decide);rw[oG];have:minI 10 (s.length:Int)=((min 10 s.length:Nat):Int):=Kp 10 s.length
 grind
theorem xG(s:List UInt8):∀(f i n:Nat),i<=s.length->i+f=10->n < 2 ^ (7*i)->∃o,ij (s,(n:Int),(if i < 10 then((2 ^ (7*i):Nat):Int)else mulI .u64 ((2 ^ (7*9):Nat):Int) 128),(i:Int))=some o/\(i < 10->(match o with | .inl x=>x | .inr _=>(0,0,7))=vg s f i n)
 | 0,i,n,hil,h,hn=>by
  refine⟨.inr (),?_,fun h'=>by omega⟩;rw[ij]
  grind
 | f+1,i,n,hil,h,hn=>by
  rw[ij];simp only[vg,oZ4,oZ3,dV];rw[if_pos (show decide ((i:Int) < 10)=true by simp;omega),if_pos (show i < 10 by omega)];by_cases hi:i < s.length
  . have hb:=mi s i;generalize (s.getD i 0).toNat=b at hb ⊢;rw[if_neg (by simp;omega),if_pos (au hi),if_pos hi,wrpn (by omega)];by_cases h9:i=9/\1 < b
    . rw[if_pos h9,if_pos (by obtain⟨h1,h2⟩:=h9;subst h1;simp;omega)]
      grind
    . rw[if_neg h9,if_neg (by grind)];have hrem:remI (b:Int) 128=((b % 128:Nat):Int):=remIn (b:=128);have hlt:b % 128 < 128:=Nat.mod_lt _ (by omega);by_cases hbig:128<=b
      . rw[if_pos hbig,if_neg (by simp;omega)];have h9':i=9->False:=fun h1=>h9 ⟨h1,by omega⟩
        have hf:=fit7 (i:=i) (n:=n) (b:=b % 128) (by omega) hn hlt (fun h1=>(h9' h1).elim);rw[hrem,mulIn hf.1,addIn hf.2,aA (by omega)];obtain⟨o,h1,h2⟩:=xG s f (i+1) (n+b % 128*2 ^ (7*i)) (by omega) (by omega) (step7 hn);have hu:mulI .u64 ((2 ^ (7*i):Nat):Int) 128=((2 ^ (7*(i+1)):Nat):Int):=by
         have:=mulIn (a:=2 ^ (7*i)) (b:=128) (by
          have:2 ^ (7*i)<=2 ^ 56:=Nat.pow_le_pow_right (by omega) (by omega)
          omega)
         grind
        grind
      . rw[if_neg hbig,if_pos (by simp;omega)];have hmod:b % 128=b:=Nat.mod_eq_of_lt (by omega);have hf:=fit7 (i:=i) (n:=n) (b:=b) (by omega) hn (by omega) (fun h1=>by omega);by_cases h0:b=0/\0 < i
        . simp_all
        . rw[if_neg h0,if_neg (by grind)];rw[hrem,hmod,mulIn hf.1,addIn hf.2,aA (by omega)]
          grind
  . rw[if_pos (by simp;omega),if_neg hi]
    grind
theorem r6(s:List UInt8):jx s=some (vg s 10 0 0):=by
 obtain⟨o,h1,h2⟩:=xG s 10 0 0 (by omega) rfl (by decide);rw[jx]
 grind
theorem yP(s:List UInt8):∀(f i n:Nat),i<=s.length->i+f=10->n < 2 ^ (7*i)->(∃e:Int,e≠0/\vg s f i n=(0,0,e))\/∃m k:Nat,vg s f i n=((m:Int),(k:Int),0)/\i < k/\k<=s.length/\m < 18446744073709551616
 | 0,i,n,hil,h,hn=>.inl ⟨10,by decide,rfl⟩
 | f+1,i,n,hil,h,hn=>by
  simp only[vg];have hb:=mi s i;generalize (s.getD i 0).toNat=b at hb ⊢;by_cases hi:i < s.length
  . rw[if_pos hi];by_cases h9:i=9/\1 < b
    . simp_all
    . rw[if_neg h9];by_cases hbig:128<=b
      . rw[if_pos hbig];rcases yP s f (i+1) (n+b % 128*2 ^ (7*i)) (by omega) (by omega) (step7 hn)with h | ⟨m,k,h1,h2,h3,h4⟩
        . exact .inl h
        grind
      . rw[if_neg hbig];by_cases h0:b=0/\0 < i
        . simp_all
        . rw[if_neg h0];have hf:=fit7 (i:=i) (n:=n) (b:=b) (by omega) hn (by omega) (fun h1=>by omega);exact .inr ⟨_,i+1,rfl,by omega,by omega,hf.2⟩
  . rw[if_neg hi];exact .inl ⟨10,by decide,rfl⟩
theorem vg0(s:List UInt8):(∃e:Int,e≠0/\vg s 10 0 0=(0,0,e))\/∃m k:Nat,vg s 10 0 0=((m:Int),(k:Int),0)/\0 < k/\k<=s.length/\m < 18446744073709551616:=
 yP s 10 0 0 (by omega) rfl (by decide)
theorem gQ{s:List UInt8}{e:Int}(he:e≠0)(h:vg s 10 0 0=(0,0,e)):gE s=some (0,[],false):=by
 rw[gE,BD,h]
 grind
theorem eo{s:List UInt8}{m k:Nat}(h:vg s 10 0 0=((m:Int),(k:Int),0))(hk:k<=s.length):gE s=some ((m:Int),s.drop k,true):=by
 rw[gE,BD,h];simp only[oZ4,oZ3];rw[if_neg (by simp),if_pos (dA hk (Nat.le_refl _)),iW]
def encP :Option (List UInt8×List UInt8)->List UInt8×List UInt8×Bool
 | none=>([],[],false)
 | some (a,b)=>(a,b,true)
def vpart(s:List UInt8):Option (List UInt8×List UInt8):=
 match vg s 10 0 0 with
 | (m,k,e)=>if e=0/\m.toNat+k.toNat<=s.length then some ((s.drop k.toNat).take m.toNat,(s.drop k.toNat).drop m.toNat)else none
theorem gL{s a b:List UInt8}(h:vpart s=some (a,b)):a.length+b.length < s.length:=by
 unfold vpart at h;rcases vg0 s with⟨e,he,hv⟩ | ⟨m,k,hv,hk0,hk,hm⟩
 . grind
 grind
theorem eu{s:List UInt8}(hs:s.length<=1000000):lW s=some (encP (vpart s)):=by
 rw[lW];unfold vpart;rcases vg0 s with⟨e,he,hv⟩ | ⟨m,k,hv,hk0,hk,hm⟩
 . rw[gQ he hv,hv];simp[he,encP]
 . rw[eo hv hk,hv];simp only[oZ4,oZ3,Int.toNat_natCast,true_and,List.length_drop];rw[wrpn (by omega)];by_cases hle:m+k<=s.length
   . rw[if_neg (by simp;omega),if_pos (show slR 0 (m:Int) (s.length - k)=true from dA (a:=0) (by omega) (by omega)),if_pos (dA (by omega) (Nat.le_refl _)),if_pos hle];have:((s.length - k:Nat):Int)=((s.drop k).length:Int):=by simp
     rw[this,iW,Hx];rfl
   . rw[if_pos (by simp;omega),if_neg hle];rfl
theorem BE{s:List UInt8}(hs:s.length<=1000000):ly s=some (encP (vpart s)):=by
 rw[ly,r6];unfold vpart;rcases vg0 s with⟨e,he,hv⟩ | ⟨m,k,hv,hk0,hk,hm⟩
 . rw[hv];simp[he,encP]
 . rw[hv];simp only[oZ4,oZ3,Int.toNat_natCast,true_and];have hsub:subI .i64 (s.length:Int) (k:Int)=((s.length - k:Nat):Int):=by rw[bP (by omega) (by omega)];omega
   rw[hsub,wrpn (by omega)];by_cases hle:m+k<=s.length
   . rw[if_neg (by simp;omega),if_pos hle];have hw:wrp .i64 (m:Int)=(m:Int):=wrp64 (by omega) (by omega);rw[hw,pK (by omega),if_pos (dA (by omega) (by omega)),if_pos (dA (by omega) (Nat.le_refl _)),iW];have:cutL s (k:Int) ((k+m:Nat):Int)=(s.drop k).take m:=by
      unfold cutL;rw[Int.toNat_natCast,Int.toNat_natCast,List.drop_take]
      grind
     rw[this,List.drop_drop];rfl
   . rw[if_pos (by simp;omega),if_neg hle];rfl
theorem po :∀(n:Nat) (s:List UInt8) (b:List (List UInt8)),s.length<=n->s.length+b.length<=100000->∃o,bT (s,b)=some o/\g8 (s,b)=some o/\∀l,o= .inr l->l.length<=s.length+b.length:=by
 intro n
 induction n with
 | zero=>
  intro s b h1 h2;have:s=[]:=List.eq_nil_of_length_eq_zero (by omega);subst this;refine⟨.inr b,?_,?_,fun l hl=>by cases hl;omega⟩
  . rw[bT];rw[if_neg (by simp)]
  . rw[g8];rw[if_neg (by simp)]
 | succ n ih=>
  intro s b h1 h2;rw[bT,g8,eu (by omega),BE (by omega)];simp only[oZ4,oZ3];by_cases hs:s=[]
  . grind
  . have hc:(!(decide (s=[])))=true:=by simp[hs]
    rw[if_pos hc,if_pos hc];cases hv:vpart s with
    | none=>exact⟨.inl 12,rfl,rfl,fun l hl=>by cases hl⟩
    | some p=>
     obtain⟨x,y⟩:=p;have hl:=gL hv;have hr:room 16 (b++[(encP (some (x,y))).1]).length=true:=bk (by omega) (by simp;omega);have hn:¬((!(encP (some (x,y))).2.2)=true):=by simp[encP]
     rw[if_neg hn,if_pos hr,if_neg hn,if_pos hr];obtain⟨o,h3,h4,h5⟩:=ih y (b++[x]) (by omega) (by simp;omega);exact⟨o,h3,h4,fun l hl'=>by have:=h5 l hl';simp at this;omega⟩
theorem Kw{s:List UInt8}(h:s.length<=90000):∃o,cV s=some o/\gr s=some o/\o.1.length<=s.length:=by
 obtain⟨o,h1,h2,h3⟩:=po s.length s [] (Nat.le_refl _) (by simp;omega);rw[cV,gr,h1,h2];cases o with
 | inl e=>exact⟨_,rfl,rfl,by simp⟩
 | inr l=>exact⟨_,rfl,rfl,by have:=h3 l rfl;simpa using this⟩
theorem xH :∀(n:Nat) (s:List UInt8) (last:Nat) (b:List aF),s.length<=n->s.length+b.length<=100000->∃o,bw ((last:Int),s,b)=some o/\gh (s,(last:Int),b)=some o/\∀l,o= .inr l->l.length<=s.length+b.length:=by
 intro n
 induction n with
 | zero=>
  intro s last b h1 h2;have:s=[]:=List.eq_nil_of_length_eq_zero (by omega);subst this;refine⟨.inr b,?_,?_,fun l hl=>by cases hl;omega⟩
  . rw[bw];rw[if_neg (by simp)]
  . rw[gh];rw[if_neg (by simp)]
 | succ n ih=>
  intro s last b h1 h2;rw[bw,gh,r6];by_cases hs:s=[]
  . simp_all
  . have hc:(!(decide (s=[])))=true:=by simp[hs]
    rw[if_pos hc,if_pos hc];rcases vg0 s with⟨e,he,hv⟩ | ⟨m,k,hv,hk0,hk,hm⟩
    . rw[gQ he hv,hv];simp_all
    . rw[eo hv hk,hv];simp only[oZ4,oZ3];rw[quoI2 hm];by_cases hbad:m / 2<=last\/1000 < m / 2
      . refine⟨.inl 12,by rw[if_pos (by simp;omega)],?_,fun l hl=>by cases hl⟩;rw[if_pos];by_cases h2001:2001 < m
        . simp;omega
        . have hw:wrp .i64 ((m / 2:Nat):Int)=((m / 2:Nat):Int):=wrp64 (by omega) (by omega)
          grind
      . have hw:wrp .i64 ((m / 2:Nat):Int)=((m / 2:Nat):Int):=wrp64 (by omega) (by omega);rw[hw,if_neg (by simp;omega),if_neg (by simp;omega),if_pos (dA hk (Nat.le_refl _)),iW,eu (by simp;omega),BE (by simp;omega)];simp only[oZ3];cases hp:vpart (s.drop k)with
        | none=>exact⟨.inl 12,rfl,rfl,fun l hl=>by cases hl⟩
        | some p=>
         obtain⟨x,y⟩:=p;have hl:=gL hp;rw[List.length_drop]at hl;have hr:room 32 (b++[(⟨((m / 2:Nat):Int),decide (remI (m:Int) 2=1),(encP (some (x,y))).1⟩:aF)]).length=true:=bk (by omega) (by simp;omega);have hn:¬((!(encP (some (x,y))).2.2)=true):=by simp[encP]
         rw[if_neg hn,if_pos hr,if_neg hn,if_pos hr];obtain⟨o,h3,h4,h5⟩:=ih y (m / 2) (b++[(⟨((m / 2:Nat):Int),decide (remI (m:Int) 2=1),x⟩:aF)]) (by omega) (by simp;omega);exact⟨o,h3,h4,fun l hl'=>by have:=h5 l hl';simp at this;omega⟩
theorem IA{s:List UInt8}(h:s.length<=90000):∃o,dT s=some o/\jq s=some o/\o.1.length<=s.length:=by
 obtain⟨o,h1,h2,h3⟩:=xH s.length s 0 [] (Nat.le_refl _) (by simp;omega);have h1':bw (0,s,[])=some o:=h1;have h2':gh (s,0,[])=some o:=h2;rw[dT,jq,h1',h2'];cases o with
 | inl e=>exact⟨_,rfl,rfl,by simp⟩
 | inr l=>exact⟨_,rfl,rfl,by have:=h3 l rfl;simpa using this⟩
theorem NL(s:List UInt8):∃o,dy s=some o/\jy s=some o:=by
 rw[dy,jy,r6];rcases vg0 s with⟨e,he,hv⟩ | ⟨m,k,hv,hk0,hk,hm⟩
 . rw[gQ he hv,hv];simp_all
 . rw[eo hv hk,hv];simp only[oZ4,oZ3];by_cases hbad:m < 1\/1000 < m
   . exact⟨(0,[],12),by rw[if_pos (by simp;omega)],by rw[if_pos (by simp;omega)]⟩
   . rw[if_neg (by simp;omega),if_neg (by simp;omega),if_pos (dA hk (Nat.le_refl _)),iW]
     grind
def vput(n:Nat):List UInt8:=if n < 128 then[UInt8.ofNat n]else UInt8.ofNat (n % 128+128)::vput (n / 128)
termination_by n
decreasing_by omega
theorem jR{n:Nat}(h:n < 128):vput n=[UInt8.ofNat n]:=by rw[vput,if_pos h]
theorem j7{n:Nat}(h:¬n < 128):vput n=UInt8.ofNat (n % 128+128)::vput (n / 128):=by rw[vput,if_neg h]
theorem Lm{a:Nat}(h:a < 256):orI .u8 (a:Int) 128=((a % 128+128:Nat):Int):=by
 have key:∀a:Nat,a < 256->orI .u8 (a:Int) 128=((a % 128+128:Nat):Int):=by decide+kernel
 grind
theorem wrp8(n:Nat):wrp .u8 (n:Int)=((n % 256:Nat):Int):=by rfl
theorem shrI7(n:Nat):shrI .u64 (n:Int) 7=((n / 128:Nat):Int):=by
 unfold shrI;have:((2:Int) ^ min (7:Int).toNat IntKind.u64.bits)=128:=by decide
 grind
theorem HB(m:Nat)(l:List Int):strOf ((m:Int)::l)=UInt8.ofNat m::strOf l:=rfl
theorem oc(a b:List Int):strOf (a++b)=strOf a++strOf b:=List.map_append
theorem qP{α:Type}:∀(l:List α) (i:Nat) (x:α),i < l.length->(l.set i x).take (i+1)=l.take i++[x]
 | [],i,x,h=>by simp at h
 | a::l,0,x,h=>by simp
 | a::l,i+1,x,h=>by simp[qP l i x (by simpa using h)]
theorem BF :∀(f n i:Nat) (b:List Int),i+f=9->n < 128*128 ^ f->b.length=10->∃(n' i':Nat) (b':List Int),iE ((n:Int),(i:Int),b)=some ((n':Int),(i':Int),b')/\n' < 128/\i'<=9/\b'.length=10/\strOf (b'.take i')++[UInt8.ofNat n']=strOf (b.take i)++vput n
 | f,n,i,b,hi,hn,hb=>by
  rw[iE];by_cases hs:n < 128
  . rw[if_neg (by simp;omega)];exact⟨n,i,b,rfl,hs,by omega,hb,by rw[jR hs]⟩
  . rw[if_pos (by simp;omega),if_pos (au (by
     omega)),if_pos (by
     cases f with
     | zero=>simp at hn;omega
     | succ f=>simp[hb];omega)]
    match f,hi,hn with
    | 0,hi,hn=>simp at hn;omega
    | f+1,hi,hn=>
     rw[shrI7,aA (by omega),wrp8,Lm (Nat.mod_lt _ (by omega)),aw];have hlt:n / 128 < 128*128 ^ f:=by omega
     obtain⟨n',i',b',h1,h2,h3,h4,h5⟩:=BF f (n / 128) (i+1) (b.set i ((n % 256 % 128+128:Nat):Int)) (by omega) hlt (by simp[hb]);refine⟨n',i',b',h1,h2,h3,h4,?_⟩;rw[h5,qP _ _ _ (by omega),oc,j7 hs];have:n % 256 % 128=n % 128:=by omega
     rw[this];have hone:strOf [((n % 128+128:Nat):Int)]=[UInt8.ofNat (n % 128+128)]:=rfl
     grind
theorem tl :(128:Nat)*128 ^ 9=1180591620717411303424:=by decide
theorem ni{n:Nat}(hn:n < 18446744073709551616):iQ (n:Int)=some (vput n):=by
 obtain⟨n',i',b',h1,h2,h3,h4,h5⟩:=BF 9 n 0 [0,0,0,0,0,0,0,0,0,0] rfl (by rw[tl];omega) rfl;rw[iQ];have h1':iE ((n:Int),0,[0,0,0,0,0,0,0,0,0,0])=some ((n':Int),(i':Int),b'):=h1;rw[h1'];simp only[oZ4,oZ3];have hsl:slR 0 ((i'+1:Nat):Int) 10=true:=dA (a:=0) (by omega) (by omega)
 rw[if_pos (au (by omega)),if_pos (by simp[h4];omega),aA (by omega),if_pos hsl,if_pos (by simp[subR,h4];omega),aw,aw,wrp8];have:n' % 256=n':=Nat.mod_eq_of_lt (by omega);rw[this];simp only[Int.toNat_zero,List.drop_zero];rw[qP _ _ _ (by omega),oc];have h6:strOf [(n':Int)]=[UInt8.ofNat n']:=rfl;rw[h6,h5];rfl
theorem xI :∀(f n:Nat) (b:List Int),n < 128 ^ f->n < 18446744073709551616->b.length+f<=1000->∃(n':Nat) (b':List Int),jt ((n:Int),b)=some ((n':Int),b')/\n' < 128/\b'.length<=1000/\strOf b'++[UInt8.ofNat n']=strOf b++vput n
 | f,n,b,hn,h64,hb=>by
  rw[jt];by_cases hs:n < 128
  . rw[if_neg (by simp;omega)];exact⟨n,b,rfl,hs,by omega,by rw[jR hs]⟩
  . rw[if_pos (by simp;omega)]
    match f,hn with
    | 0,hn=>simp at hn;omega
    | f+1,hn=>
     have hrem:remI (n:Int) 128=((n % 128:Nat):Int):=remIn (b:=128);have hadd:addI .u64 ((n % 128:Nat):Int) 128=((n % 128+128:Nat):Int):=addIn (b:=128) (by omega);have hq:quoI .u64 (n:Int) 128=((n / 128:Nat):Int):=by
      unfold quoI;have e:(n:Int).tdiv 128=((n / 128:Nat):Int):=by rw[Int.tdiv_eq_ediv_of_nonneg (by omega)];omega
      rw[e];exact wrapu (by omega) (by omega)
     simp only[oZ4,oZ3];rw[hrem,hadd,hq,wrp8,if_pos (bk (by omega) (by simp;omega))];have hlt:n / 128 < 128 ^ f:=by omega
     obtain⟨n',b',h1,h2,h3,h4⟩:=xI f (n / 128) (b++[(((n % 128+128) % 256:Nat):Int)]) hlt (by omega) (by simp;omega);refine⟨n',b',h1,h2,h3,?_⟩;rw[h4,oc,j7 hs];have:(n % 128+128) % 256=n % 128+128:=by omega
     rw[this];have hone:strOf [((n % 128+128:Nat):Int)]=[UInt8.ofNat (n % 128+128)]:=rfl
     grind
theorem ml{n:Nat}(hn:n < 18446744073709551616):gz (n:Int)=some (vput n):=by
 obtain⟨n',b',h1,h2,h3,h4⟩:=xI 10 n [] (by have:=tl;rw[Nat.pow_succ,Nat.mul_comm];omega) hn (by simp);rw[gz,h1];simp only[oZ4,oZ3];rw[if_pos (bk (by omega) (by simp;omega)),wrp8,oc];have:n' % 256=n':=Nat.mod_eq_of_lt (by omega);rw[this];have h6:strOf [(n':Int)]=[UInt8.ofNat n']:=rfl;rw[h6,h4];rfl
theorem yQ :∀(f n:Nat),n < 128 ^ (f+1)->(vput n).length<=f+1
 | f,n,hn=>by
  by_cases hs:n < 128
  . rw[jR hs];simp
  . rw[j7 hs]
    match f,hn with
    | 0,hn=>simp at hn;omega
    | f+1,hn=>
     have:=yQ f (n / 128) (by omega);simp;omega
theorem cK{n:Nat}(hn:n < 18446744073709551616):(vput n).length<=10:=yQ 9 n (by have:=tl;rw[Nat.pow_succ,Nat.mul_comm];omega)
theorem fL(n:Nat):0 < (vput n).length:=by
 rw[vput];split <;> simp
theorem cu{n:Nat}(h:n < 256):(UInt8.ofNat n).toNat=n:=by simp_all
theorem BG :∀(f i acc n:Nat) (pre rest:List UInt8),i+f=10->pre.length=i->n*2 ^ (7*i) < 18446744073709551616->(n=0->i=0)->vg (pre++(vput n++rest)) f i acc=(((acc+n*2 ^ (7*i):Nat):Int),((i+(vput n).length:Nat):Int),0)
 | 0,i,acc,n,pre,rest,hi,hp,hn,h0=>by grind
 | f+1,i,acc,n,pre,rest,hi,hp,hn,h0=>by
  have hlen:i < (pre++(vput n++rest)).length:=by
   have:=fL n;simp;omega
  have hget:∀(x:UInt8) (r:List UInt8),vput n=x::r->(pre++(vput n++rest)).getD i 0=x:=by grind
  simp only[vg];rw[if_pos hlen];by_cases hs:n < 128
  . rw[hget _ _ (jR hs),cu (by omega),if_neg (by
     grind),if_neg (by omega),if_neg (by
     rintro ⟨h1,h2⟩
     have:=h0 h1;omega),jR hs]
    simp
  . have hi9:i < 9:=by grind
    rw[hget _ _ (j7 hs),cu (by omega),if_neg (by omega),if_pos (by omega)];have hmod:(n % 128+128) % 128=n % 128:=by omega
    have hsum:n % 128*2 ^ (7*i)+n / 128*2 ^ (7*(i+1))=n*2 ^ (7*i):=by
     rw[pow7s];have h1:n / 128*(2 ^ (7*i)*128)=(n / 128*128)*2 ^ (7*i):=by grind
     rw[h1,<-Nat.add_mul]
     grind
    have hbound:n / 128*2 ^ (7*(i+1)) < 18446744073709551616:=by omega
    have:=BG f (i+1) (acc+n % 128*2 ^ (7*i)) (n / 128) (pre++[UInt8.ofNat (n % 128+128)]) rest (by omega) (by simp[hp]) hbound (by omega);rw[hmod];have es:pre++(vput n++rest)=pre++[UInt8.ofNat (n % 128+128)]++(vput (n / 128)++rest):=by rw[j7 hs];simp
    grind
theorem mF{n:Nat}(hn:n < 18446744073709551616)(rest:List UInt8):vg (vput n++rest) 10 0 0=((n:Int),((vput n).length:Int),0):=by
 have:=BG 10 0 0 n [] rest rfl rfl (by simpa using hn) (fun _=>rfl)
 grind
def aP(p:List UInt8):List UInt8:=vput p.length++p
theorem bR{n:Nat}(h:n<=9223372036854775807):decide (n<=aX)=true:=by
 unfold aX;simp;omega
theorem pu{p:List UInt8}(h:p.length<=1152921504606846976):gD p=some (aP p):=by
 rw[gD,wrpn (by omega),ni (by omega)];simp only[oZ4,oZ3];have:=cK (n:=p.length) (by omega);rw[if_pos (bR (by omega))];rfl
theorem oy{p:List UInt8}(h:p.length<=1152921504606846976):gw p=some (aP p):=by
 rw[gw,wrpn (by omega),ml (by omega)];simp only[oZ4,oZ3];have:=cK (n:=p.length) (by omega);rw[if_pos (bR (by omega))];rfl
def bq(id:Nat)(c:Bool)(p:List UInt8):List UInt8:=vput (2*id+(if c then 1 else 0))++aP p
theorem wM{p:List UInt8}(h:p.length<=1152921504606846976):(aP p).length<=p.length+10:=by
 have:=cK (n:=p.length) (by omega);unfold aP;simp;omega
theorem yR{id:Nat}{c:Bool}{p:List UInt8}(hid:id<=4611686018427387903)(h:p.length<=1152921504606846900):lS ((id:Int),c,p)=some (bq id c p):=by
 rw[lS];have hm:mulI .u64 2 (wrp .u64 (id:Int))=((2*id:Nat):Int):=by rw[wrpn (by omega)];exact mulIn (a:=2) (by omega)
 simp only[oZ4,oZ3];rw[hm,pu (by omega)];have hl:=wM (p:=p) (by omega);cases c with
 | true=>
  have ha:addI .u64 ((2*id:Nat):Int) 1=((2*id+1:Nat):Int):=addIn (b:=1) (by omega);rw[if_pos rfl,ha,ni (by omega)];have:=cK (n:=2*id+1) (by omega);simp only[oZ3];rw[if_pos (bR (by omega))];rfl
 | false=>
  rw[if_neg (by simp),ni (by omega)];have:=cK (n:=2*id) (by omega);simp only[oZ3];rw[if_pos (bR (by omega))];rfl
theorem vT{id:Nat}{c:Bool}{p:List UInt8}(hid:id<=4611686018427387903)(h:p.length<=1152921504606846900):lm ((id:Int),c,p)=some (bq id c p):=by
 rw[lm];have hm:wrp .u64 (mulI .i64 2 (id:Int))=((2*id:Nat):Int):=by
  rw[AI (by omega) (by omega)];have:(2:Int)*(id:Int)=((2*id:Nat):Int):=by omega
  rw[this];exact wrpn (by omega)
 simp only[oZ4,oZ3];rw[hm,oy (by omega)];have hl:=wM (p:=p) (by omega);cases c with
 | true=>
  have ha:addI .u64 ((2*id:Nat):Int) 1=((2*id+1:Nat):Int):=addIn (b:=1) (by omega);rw[if_pos rfl,ha,ml (by omega)];have:=cK (n:=2*id+1) (by omega);simp only[oZ3];rw[if_pos (bR (by omega))];rfl
 | false=>
  rw[if_neg (by simp),ml (by omega)];have:=cK (n:=2*id) (by omega);simp only[oZ3];rw[if_pos (bR (by omega))];rfl
theorem vU{p rest:List UInt8}(h:p.length<=100000):vpart (aP p++rest)=some (p,rest):=by
 unfold vpart aP;rw[List.append_assoc,mF (by omega)];simp only[Int.toNat_natCast,true_and]
 grind
theorem Gv {id : Nat} {c : Bool} {p rest : List UInt8} {last : Nat} {b : List aF} (h1 : last < id) (hid : id <= 1000) (h : (bq id c p ++ rest).length <= 100000) (hb : b.length <= 90000):
 bw ((last:Int),bq id c p++rest,b)=bw ((id:Int),rest,b++[⟨(id:Int),c,p⟩]):=by
 have hpl:p.length<=100000:=by
  have h2:=h;simp only[bq,aP,List.length_append]at h2;omega
 have hne:bq id c p++rest≠[]:=by
  intro hc;have h2:=congrArg List.length hc;have:=fL (2*id+(if c then 1 else 0));simp only[bq,List.length_append,List.length_nil]at h2;omega
 have hh:2*id+(if c then 1 else 0)<=2001:=by split <;> omega
 have hg:vg (bq id c p++rest) 10 0 0=(((2*id+(if c then 1 else 0):Nat):Int),((vput (2*id+(if c then 1 else 0))).length:Int),0):=by
  unfold bq;rw[List.append_assoc];exact mF (by omega) _
 have hn:=eo hg (by unfold bq;simp);have hd:(bq id c p++rest).drop (vput (2*id+(if c then 1 else 0))).length=aP p++rest:=by
  unfold bq
  grind
 rw[hd]at hn;have hdiv:(2*id+(if c then 1 else 0)) / 2=id:=by split <;> omega
 have hrem:decide (remI ((2*id+(if c then 1 else 0):Nat):Int) 2=1)=c:=by
  have:remI ((2*id+(if c then 1 else 0):Nat):Int) 2=(((2*id+(if c then 1 else 0)) % 2:Nat):Int):=remIn (b:=2)
  grind
 rw[bw,if_pos (by simp only[Bool.not_eq_true',decide_eq_false_iff_not];exact hne),hn];simp only[oZ4,oZ3];rw[quoI2 (by omega),hdiv,if_neg (by simp;omega),hrem,eu (by grind),vU hpl];simp only[oZ3];have hw:wrp .i64 (id:Int)=(id:Int):=wrp64 (by omega) (by omega);have hnn:¬((!(encP (some (p,rest))).2.2)=true):=by simp[encP]
 rw[if_neg hnn,hw];have hr:room 32 (b++[(⟨(id:Int),c,(encP (some (p,rest))).1⟩:aF)]).length=true:=bk (by omega) (by simp;omega);rw[if_pos hr];rfl
inductive OkV:ab->Prop
 | mk (v : ab) (hs : v.Str.length <= reachBytes) (h1 : v.Keys.length <= reachBytes) (h2 : v.Items.length <= reachBytes) (h3 : v.Rest.length <= reachBytes)
  (hk:∀x,x∈v.Keys->OkV x) (hi:∀x,x∈v.Items->OkV x) (hr:∀x,x∈v.Rest->x.Data.length<=reachBytes)
  (n1: -9223372036854775808<=v.Kind/\v.Kind<=9223372036854775807) (n2: -9223372036854775808<=v.Int_/\v.Int_<=9223372036854775807) (n3: -9223372036854775808<=v.ID/\v.ID<=9223372036854775807)
  (n4:∀x,x∈v.Rest->-9223372036854775808<=x.ID/\x.ID<=9223372036854775807):OkV v
theorem aT{n:Nat}(h:n<=reachBytes):n < 9223372036854775807:=Nat.lt_of_le_of_lt h (by decide)
theorem scan {γ : Type} (L : Nat -> Option γ) (n : Nat) (p : Nat -> Bool) (bad good : γ) (hstep : ∀ i, i < n -> L i = if p i = true then L (i + 1) else some bad) (hend : L n = some good):
 (L 0=some good/\∀j,j < n->p j=true)\/(L 0=some bad/\∃j,j < n/\p j=false):=by
 have key:∀k i,i+k=n->(L i=some good/\∀j,i<=j->j < n->p j=true)\/(L i=some bad/\∃j,j < n/\p j=false):=by
  intro k
  induction k with
  | zero => intro i hi; have : i = n := by omega
            subst this;exact .inl ⟨hend,fun j h1 h2=>by omega⟩
  | succ k ih=>grind
 rcases key n 0 (by omega)with⟨h1,h2⟩ | h
 . exact .inl ⟨h1,fun j hj=>h2 j (Nat.zero_le _) hj⟩
 . exact .inr h
theorem bl{α:Type}{l:List α}{i:Nat}(h:i < l.length)(d:α):l.getD i d=l[i]:=by grind
theorem jM {α : Type} {a b : List α} {p : Nat -> Bool} (hl : a.length = b.length) (hp : ∀ (i : Nat) (h1 : i < a.length) (h2 : i < b.length), p i = true ↔ a[i] = b[i]):
 (∀j,j < a.length->p j=true)↔a=b:=by
 constructor
 . intro h;exact List.ext_getElem hl fun i h1 h2=>(hp i h1 h2).1 (h i h1)
 . rintro rfl j hj
   exact(hp j hj hj).2 rfl
def Says{α:Type}(o:Option Bool)(a b:α):Prop:=∃r,o=some r/\(r=true↔a=b)
theorem Says.of_scan {α : Type} {a b : List α} {p : Nat -> Bool} (hl : a.length = b.length) (hp : ∀ (i : Nat) (h1 : i < a.length) (h2 : i < b.length), p i = true ↔ a[i] = b[i]) {o : Option Bool}
 (h:(o=some true/\∀j,j < a.length->p j=true)\/(o=some false/\∃j,j < a.length/\p j=false)):Says o a b:=by
 rcases h with⟨h1,h2⟩ | ⟨h1,j,h2,h3⟩
 . exact⟨true,h1,by simp[(jM hl hp).1 h2]⟩
 . refine⟨false,h1,?_⟩;constructor
   . intro h;cases h
   . intro h;have:=(jM hl hp).2 h j h2;rw[h3]at this;cases this
theorem BH{a b:aH}:(eqI a.ID b.ID && (eqS a.Data b.Data && true))=true↔a=b:=by cases a;cases b;simp[eqI,eqS]
theorem BI{a b:aC}:(eqI a.ID b.ID && (eqS a.Name b.Name && true))=true↔a=b:=by
 cases a;cases b;simp[eqI,eqS]
theorem NM{α:Type}{a b:List α}(h:¬a.length=b.length):a≠b:=fun e=>h (congrArg List.length e)
theorem j8{α:Type}{a b:List α}(h:¬a.length=b.length):Says (some false) a b:=⟨false,rfl,by simp[NM h]⟩
theorem BK{a b:List aH}(ha:a.length<=reachBytes):Says (kP (a,b)) a b:=by
 rw[kP];by_cases hl:a.length=b.length
 . rw[if_neg (by simp;omega)];have hr:=aT ha;have:=scan (fun i=>eK (a,b,(a.length:Int),(i:Int))) a.length (fun i=>eqI (a.getD i az).ID (b.getD i az).ID && (eqS (a.getD i az).Data (b.getD i az).Data && true)) (.inl false) (.inr ())
    (fun i hi=>by
     rw[eK,if_pos (by simp;omega),if_pos (au hi)];simp only[oZ4,oZ3,aw];rw[if_pos (au (by omega)),aA (by omega)]
     grind)
    (by rw[eK,if_neg (by simp)])
   have h0:eK (a,b,(a.length:Int),((0:Nat):Int))=eK (a,b,(a.length:Int),0):=rfl;simp only[h0]at this;refine Says.of_scan (p:=fun i=>eqI (a.getD i az).ID (b.getD i az).ID && (eqS (a.getD i az).Data (b.getD i az).Data && true)) hl (fun i h1 h2=>by simp only[bl h1,bl h2];exact BH) ?_
   grind
 . rw[if_pos (by simp;omega)];exact j8 hl
theorem NN{a b:List aC}(ha:a.length<=reachBytes):Says (nu (a,b)) a b:=by
 rw[nu];by_cases hl:a.length=b.length
 . rw[if_neg (by simp;omega)];have hr:=aT ha;have:=scan (fun i=>eH (a,b,(a.length:Int),(i:Int))) a.length (fun i=>eqI (a.getD i aR).ID (b.getD i aR).ID && (eqS (a.getD i aR).Name (b.getD i aR).Name && true)) (.inl false) (.inr ())
    (fun i hi=>by
     rw[eH,if_pos (by simp;omega),if_pos (au hi)];simp only[oZ4,oZ3,aw];rw[if_pos (au (by omega)),aA (by omega)]
     grind)
    (by rw[eH,if_neg (by simp)])
   have h0:eH (a,b,(a.length:Int),((0:Nat):Int))=eH (a,b,(a.length:Int),0):=rfl;simp only[h0]at this;refine Says.of_scan (p:=fun i=>eqI (a.getD i aR).ID (b.getD i aR).ID && (eqS (a.getD i aR).Name (b.getD i aR).Name && true)) hl (fun i h1 h2=>by simp only[bl h1,bl h2];exact BI) ?_
   grind
 . rw[if_pos (by simp;omega)];exact j8 hl
theorem oZ(v:ab):(⟨v.Kind,v.Bool_,v.Int_,v.Str,v.ID,v.Keys,v.Items,v.Rest⟩:ab)=v:=by cases v;rfl
theorem xK{a b:ab}:a=b↔a.Kind=b.Kind/\a.Bool_=b.Bool_/\a.Int_=b.Int_/\a.Str=b.Str/\a.ID=b.ID/\a.Rest=b.Rest/\a.Keys=b.Keys/\a.Items=b.Items:=by
 constructor
 . grind
 . cases a;cases b
   grind
section
variable {f:ab×ab->Option Bool}
theorem rN {a b : List ab} (hl : a.length = b.length) (ih : ∀ x, x ∈ a -> ∀ y, Says (f (x, y)) x y) (L : Nat -> Option (Bool ⊕ Unit))
 (hstep:∀i,i < a.length->L i=(f (ab.eta (a.getD i ag),ab.eta (b.getD i ag)) >>=fun r=>if(!r)=true then some (.inl false)else L (i+1)))
 (hend:L a.length=some (.inr ())):Says (L 0 >>=fun o=>match o with | .inl x=>some x | .inr _=>some true) a b:=by
 have hget:∀(i:Nat) (h1:i < a.length) (h2:i < b.length),Says (f (ab.eta (a.getD i ag),ab.eta (b.getD i ag))) a[i] b[i]:=by
  intro i h1 h2;rw[bl h1,bl h2,ab.aD,ab.aD]
  grind
 have:=scan L a.length (fun i=>(f (ab.eta (a.getD i ag),ab.eta (b.getD i ag))).getD false) (.inl false) (.inr ())
  (fun i hi=>by
   obtain⟨r,h1,h2⟩:=hget i hi (by omega)
   grind) hend
 refine Says.of_scan hl (fun i h1 h2=>?_) ?_ (p:=fun i=>(f (ab.eta (a.getD i ag),ab.eta (b.getD i ag))).getD false)
 . obtain⟨r,h3,h4⟩:=hget i h1 h2;rw[h3];exact h4
 . rcases this with⟨h1,h2⟩ | ⟨h1,h2⟩
   . exact .inl ⟨by rw[h1];rfl,h2⟩
   . exact .inr ⟨by rw[h1];rfl,h2⟩
end
theorem zY{a b:List ab}(ha:a.length<=reachBytes)(ih:∀x,x∈a->∀y,Says (iO (x,y)) x y):Says (jg (a,b)) a b:=by
 rw[jg];by_cases hl:a.length=b.length
 . rw[if_neg (by simp;omega)];have hr:=aT ha;exact rN hl ih (fun i=>je (b,a,(a.length:Int),(i:Int)))
    (fun i hi=>by
     rw[je,if_pos (by simp;omega),if_pos (au hi),if_pos (au (by omega)),aA (by omega)]
     rfl)
    (by rw[je,if_neg (by simp)])
 . rw[if_pos (by simp;omega)];exact j8 hl
theorem zZ{a b:List ab}(ha:a.length<=reachBytes)(ih:∀x,x∈a->∀y,Says (di (x,y)) x y):Says (kM (a,b)) a b:=by
 rw[kM];by_cases hl:a.length=b.length
 . rw[if_neg (by simp;omega)];have hr:=aT ha;exact rN hl ih (fun i=>jf (b,a,(a.length:Int),(i:Int)))
    (fun i hi=>by
     rw[jf,if_pos (by simp;omega),if_pos (au hi),if_pos (au (by omega)),aA (by omega)]
     rfl)
    (by rw[jf,if_neg (by simp)])
 . rw[if_pos (by simp;omega)];exact j8 hl
theorem z6{a b:List ab}(ha:a.length<=reachBytes)(ih:∀x,x∈a->∀y,Says (cP (x,y)) x y):Says (kR (a,b)) a b:=by
 rw[kR];by_cases hl:a.length=b.length
 . rw[if_neg (by simp;omega)];have hr:=aT ha;exact rN hl ih (fun i=>jh (a,b,(i:Int)))
    (fun i hi=>by
     rw[jh,if_pos (by simp;omega),if_pos (au hi),if_pos (au (by omega)),aA (by omega)]
     rfl)
    (by rw[jh,if_neg (by simp)])
 . rw[if_pos (by simp;omega)];exact j8 hl
theorem three {a b : ab} {h5 : Bool} (e5 : h5 = true ↔ a.Kind = b.Kind /\ a.Bool_ = b.Bool_ /\ a.Int_ = b.Int_ /\ a.Str = b.Str /\ a.ID = b.ID) {x y z : Option Bool} (hx : Says x a.Rest b.Rest) (hy : Says y a.Keys b.Keys) (hz : Says z a.Items b.Items):
 Says (some h5 >>=fun t37=>(if t37=true then x else some false) >>=fun r=>some (bif t37 then r else false) >>=fun t44=>(if t44=true then y else some false) >>=fun r_1=>some (bif t44 then r_1 else false) >>=fun t51=>(if t51=true then z else some false) >>=fun r_2=>some (bif t51 then r_2 else false)) a b:=by
 obtain⟨rx,hx1,hx2⟩:=hx;obtain⟨ry,hy1,hy2⟩:=hy;obtain⟨rz,hz1,hz2⟩:=hz;subst hx1;subst hy1;subst hz1;refine⟨h5 && rx && ry && rz,?_,?_⟩
 . cases h5 <;> cases rx <;> cases ry <;> rfl
 . rw[xK];simp only[Bool.and_eq_true];rw[e5,hx2,hy2,hz2];constructor
   . rintro ⟨⟨⟨⟨h1,h2,h3,h4,h5⟩,h6⟩,h7⟩,h8⟩;exact⟨h1,h2,h3,h4,h5,h6,h7,h8⟩
   . rintro ⟨h1,h2,h3,h4,h5,h6,h7,h8⟩;exact⟨⟨⟨⟨h1,h2,h3,h4,h5⟩,h6⟩,h7⟩,h8⟩
theorem five{a b:ab}:(bif bif bif bif decide (a.Kind=b.Kind)then eqB a.Bool_ b.Bool_ else false then decide (a.Int_=b.Int_)else false then decide (a.Str=b.Str)else false then decide (a.ID=b.ID)else false)=true↔a.Kind=b.Kind/\a.Bool_=b.Bool_/\a.Int_=b.Int_/\a.Str=b.Str/\a.ID=b.ID:=by
 simp only[Bool.cond_eq_ite,eqB]
 grind
theorem HC{a:ab}(h:OkV a):∀b,Says (iO (a,b)) a b:=by
 induction h with
 | mk a hs h1 h2 h3 hk hi hr n1 n2 n3 n4 ihk ihi=>
  intro b;rw[iO];exact three five (BK h3) (zY h1 ihk) (zY h2 ihi)
theorem oI{a:ab}(h:OkV a):∀b,Says (di (a,b)) a b:=by
 induction h with
 | mk a hs h1 h2 h3 hk hi hr n1 n2 n3 n4 ihk ihi=>
  intro b;rw[di];exact three five (BK h3) (zZ h1 ihk) (zZ h2 ihi)
theorem sV{a:ab}(h:OkV a):∀b,Says (cP (a,b)) a b:=by
 induction h with
 | mk a hs h1 h2 h3 hk hi hr n1 n2 n3 n4 ihk ihi=>
  intro b;rw[cP];by_cases h5:a.Kind=b.Kind/\a.Bool_=b.Bool_/\a.Int_=b.Int_/\a.Str=b.Str/\a.ID=b.ID/\a.Rest.length=b.Rest.length
  . obtain⟨e1,e2,e3,e4,e5,e6⟩:=h5;rw[if_neg (by simp[e1,e2,e3,e4,e5,e6,eqB])];have hr3:=aT h3;have hsc:=scan (fun i=>eM ((i:Int),a,b)) a.Rest.length (fun i=>eqI (a.Rest.getD i az).ID (b.Rest.getD i az).ID && (eqS (a.Rest.getD i az).Data (b.Rest.getD i az).Data && true)) (.inl false) (.inr (a,b))
     (fun i hi'=>by
      rw[eM,if_pos (by simp;omega),if_pos (au hi')];simp only[oZ4,oZ3,aw,ab.aD];rw[if_pos (au (by omega)),aA (by omega)]
      grind)
     (by rw[eM,if_neg (by simp),ab.aD,ab.aD])
    have h0:eM (((0:Nat):Int),a,b)=eM (0,a,b):=rfl;simp only[h0]at hsc;rw[oZ,oZ];have hp:∀(i:Nat) (h1:i < a.Rest.length) (h2:i < b.Rest.length),(eqI (a.Rest.getD i az).ID (b.Rest.getD i az).ID && (eqS (a.Rest.getD i az).Data (b.Rest.getD i az).Data && true))=true↔a.Rest[i]=b.Rest[i]:=fun i h1 h2=>by rw[bl h1,bl h2];exact BH
    rcases hsc with⟨g1,g2⟩ | ⟨g1,j,g2,g3⟩
    . have hrest:=(jM e6 hp).1 g2;rw[g1];obtain⟨rk,k1,k2⟩:=z6 (a:=a.Keys) (b:=b.Keys) h1 ihk;obtain⟨ri,i1,i2⟩:=z6 (a:=a.Items) (b:=b.Items) h2 ihi;simp only[oZ4,oZ3];rw[k1,i1];refine⟨rk && ri,by cases rk <;> rfl,?_⟩;rw[xK,Bool.and_eq_true,k2,i2]
      grind
    . rw[g1];refine⟨false,rfl,?_⟩
      grind
  . rw[if_pos]
    . refine⟨false,rfl,?_⟩
      grind
    . simp only[Bool.cond_eq_ite,eqB]
      grind
def dB(c:Int):Bool:=decide (c=95\/(97<=c/\c<=122)\/(65<=c/\c<=90))
def nj(c:Int):Bool:=decide (48<=c/\c<=57)
theorem o0(c:Int):lD c=some (dB c):=by
 rw[lD];unfold dB
 grind
theorem xL(c:Int):lh c=some (dB c):=by
 rw[lh];unfold dB
 grind
theorem Kx(c:Int):nQ c=some (nj c):=by
 rw[nQ];unfold nj
 grind
theorem Kz(c:Int):nG c=some (nj c):=by
 rw[nG];unfold nj
 grind
theorem yS {γ : Type} (A B I : Bool) (X Y : Option γ) (hI : I = true):
 (some A >>=fun r_1=>some (!r_1) >>=fun t26=>if(I || (!t26))=true then(if t26=true then some B else some false) >>=fun r_2=>if(bif t26 then(!r_2)else false)=true then X else Y else none)=if(A || B)=true then Y else X:=by
 subst hI;cases A <;> cases B <;> rfl
theorem z7(s:List UInt8):∃r,cH s=some r/\ii s=some r:=by
 rw[cH,ii];simp only[oZ4,oZ3];by_cases hb:s=[]\/24 < s.length
 . have ht:(bif decide (s=[])then true else decide (24 < (s.length:Int)))=true:=by grind
   rw[ht];simp_all
 . have hne:s≠[]:=fun h=>hb (.inl h)
   have hlen:s.length<=24:=by omega
   have ht:(bif decide (s=[])then true else decide (24 < (s.length:Int)))=false:=by grind
   have hpos:0 < s.length:=List.length_pos_iff.2 hne;have hin:inR 0 s.length=true:=au (k:=0) hpos;simp only[ht,hin,Bool.true_or,if_true,Bool.not_false,oZ3,o0,xL,cond_false];cases hl:dB (aY s 0)with
   | false=>exact⟨false,rfl,rfl⟩
   | true=>
    rw[if_neg (by simp),if_neg (by simp)]
    let p:Nat->Bool:=fun i=>dB (aY s i) || nj (aY s i)
    have s1:=scan (fun i=>cT (s,(s.length:Int),(i:Int))) s.length p (.inl false) (.inr ())
     (fun i hi=>by
      rw[cT,if_pos (by simp;omega),if_pos (au hi),o0,Kx,aA (by omega)]
      exact yS _ _ _ _ _ (au hi))
     (by rw[cT,if_neg (by simp)])
    have s2:=scan (fun i=>eX (s,(i:Int))) s.length p (.inl false) (.inr ())
     (fun i hi=>by
      rw[eX,if_pos (by simp;omega),if_pos (au hi),xL,Kz,aA (by omega)]
      exact yS _ _ _ _ _ (au hi))
     (by rw[eX,if_neg (by simp)])
    have e1:cT (s,(s.length:Int),((0:Nat):Int))=cT (s,(s.length:Int),0):=rfl;have e2:eX (s,((0:Nat):Int))=eX (s,0):=rfl;simp only[e1,e2]at s1 s2;rcases s1 with⟨a1,a2⟩ | ⟨a1,j,a2,a3⟩ <;> rcases s2 with⟨b1,b2⟩ | ⟨b1,k,b2,b3⟩
    . simp_all
    . grind
    . grind
    simp_all
def nm(s:List UInt8):Bool:=(cH s).getD false
theorem lexNm(s:List UInt8):cH s=some (nm s):=by
 obtain⟨r,h1,_⟩:=z7 s;unfold nm;rw[h1];rfl
theorem refNm(s:List UInt8):ii s=some (nm s):=by
 obtain⟨r,h1,h2⟩:=z7 s;unfold nm;rw[h1,h2];rfl
theorem nm_ne{s:List UInt8}(h:nm s=true):s≠[]:=by
 rintro rfl
 unfold nm at h;rw[cH]at h;simp at h
def idp(l:List Int)(names:List (List UInt8))(i:Nat):Bool:=
 decide (1<=l.getD i 0) && decide (l.getD i 0<=1000) && (decide (i=0) || decide (l.getD (i - 1) 0 < l.getD i 0)) && nm (names.getD i []) && !((names.take i).contains (names.getD i []))
def setOf(l:List (List UInt8)):List (List UInt8):=l.foldl addS []
theorem KA(ks:List (List UInt8))(a s:List UInt8):hasS (addS ks a) s=(hasS ks s || decide (a=s)):=by
 unfold addS;split
 . grind
 . simp[hasS,List.any_append]
theorem wN(l:List (List UInt8))(s:List UInt8):hasS (setOf l) s=l.contains s:=by
 have key:∀(l:List (List UInt8)) (ks:List (List UInt8)),hasS (l.foldl addS ks) s=(hasS ks s || l.contains s):=by
  intro l
  induction l with
  | nil=>intro ks;simp
  | cons a r ih=>
   intro ks;rw[List.foldl_cons,ih,KA,Bool.or_assoc]
   grind
 have:=key l []
 simpa[setOf,hasS]using this
theorem wO{l:List (List UInt8)}{i:Nat}(h:i < l.length):addS (setOf (l.take i)) (l.getD i [])=setOf (l.take (i+1)):=by
 unfold setOf;rw[List.take_add_one,List.foldl_append,List.getElem?_eq_getElem h,bl h];rfl
theorem Ln {γ : Type} (A Z I1 C I H N : Bool) (X Y : Option γ) (hI : I = true) (hI1 : Z = true -> I1 = true):
 (if(I1 || (!((!A) && Z)))=true then
  some (bif A then true else bif Z then C else false) >>=fun t34=>
  if(I || (!(!t34)))=true then
   some (bif t34 then true else H) >>=fun t42=>
   if(I || (!(!t42)))=true then
    (if(!t42)=true then some N else some false) >>=fun r=>
    if(bif t42 then true else(!r))=true then X else(if I=true then Y else none)
   else none
  else none
 else none)=if(!A && (!Z || !C) && N && !H)=true then Y else X:=by
 subst hI;cases Z with
 | true=>have:=hI1 rfl;subst this;cases A <;> cases C <;> cases H <;> cases N <;> rfl
 | false=>cases A <;> cases I1 <;> cases C <;> cases H <;> cases N <;> rfl
theorem BL{l:List Int}{names:List (List UInt8)}(hl:l.length<=reachBytes)(hn:names.length=l.length):∃r,l9 (l,names)=some r/\(r=true↔(∀i,i < l.length->idp l names i=true)/\l.length<=16):=by
 rw[l9];have hr:=aT hl;have hsc:=scan (fun i=>fw (l,names,l,(l.length:Int),(i:Int),setOf (names.take i))) l.length (idp l names) (.inl false) (.inr l)
  (fun i hi=>by
   have hin:i < names.length:=by omega
   rw[fw,if_pos (by simp;omega),if_pos (au hi)];simp only[aw];rw[lexNm,aA (by omega),wO hin,wN];have hsub:0 < i->subI .i64 (i:Int) 1=((i - 1:Nat):Int):=by intro h;rw[bP (by omega) (by omega)];omega
   refine(Ln (bif decide (l.getD i 0 < 1)then true else decide (1000 < l.getD i 0)) (decide ((0:Int) < (i:Int))) (inR (subI .i64 (i:Int) 1) l.length) (decide (l.getD i 0<=l.getD (subI .i64 (i:Int) 1).toNat 0)) (inR (i:Int) names.length) ((names.take i).contains (names.getD i [])) (nm (names.getD i [])) _ _ (au hin) (fun hz=>?_)).trans ?_
   . have hpos:0 < i:=by simp at hz;omega
     rw[hsub hpos];exact au (by omega)
   . have:(!(bif decide (l.getD i 0 < 1)then true else decide (1000 < l.getD i 0)) && (!(decide ((0:Int) < (i:Int))) || !(decide (l.getD i 0<=l.getD (subI .i64 (i:Int) 1).toNat 0))) && nm (names.getD i []) && !((names.take i).contains (names.getD i [])))=idp l names i:=by
      unfold idp
      grind
     rw[this])
  (by rw[fw,if_neg (by simp)])
 have e0:fw (l,names,l,(l.length:Int),((0:Nat):Int),setOf (names.take 0))=fw (l,names,l,(l.length:Int),0,[]):=rfl;simp only[e0]at hsc;rcases hsc with⟨h1,h2⟩ | ⟨h1,j,h2,h3⟩
 . rw[h1];refine⟨decide ((l.length:Int)<=16),rfl,?_⟩
   grind
 . rw[h1];refine⟨false,rfl,?_⟩
   grind
theorem room8{k n:Nat}(hk:k<=16)(h:n*24<=reachBytes):room k n=true:=by
 unfold room bZ aV;unfold reachBytes at h;simp only[Bool.and_eq_true,decide_eq_true_eq];have:(2*n+192)*k<=(2*n+192)*16:=Nat.mul_le_mul_left _ hk;omega
theorem jU{α:Type}(l:List α)(i:Nat)(d:α)(h:i < l.length):l.take i++[l.getD i d]=l.take (i+1):=by simp_all
theorem bM{α β:Type}(f:α->β)(l:List α)(i:Nat)(d:α)(e:β)(h:i < l.length):(l.map f).getD i e=f (l.getD i d):=by grind
theorem fx{l:List (List UInt8)}{i:Nat}{s:List UInt8}(hi:i<=l.length):(l.take i).contains s=true↔∃k,k < i/\l.getD k []=s:=by
 rw[List.contains_iff_mem];constructor
 . intro h;obtain⟨k,hk,he⟩:=List.getElem_of_mem h;rw[List.length_take]at hk;refine⟨k,by omega,?_⟩
   grind
 . rintro ⟨k,hk,he⟩
   rw[<-he,bl (by omega)];have:(l.take i)[k]'(by rw[List.length_take];omega)=l[k]:=List.getElem_take
   grind
def bef(l:List Int)(i:Nat):Int:=if i=0 then 0 else l.getD (i - 1) 0
theorem z8 {l : List Int} {names : List (List UInt8)} {i : Nat} (hi : i < l.length) (hn : names.length = l.length):
 idp l names i=(decide (bef l i < l.getD i 0) && decide (1<=l.getD i 0) && decide (l.getD i 0<=1000) && nm (names.getD i []) && !((names.take i).contains (names.getD i []))):=by
 unfold idp bef;generalize l.getD i 0=x;generalize l.getD (i - 1) 0=y;generalize nm (names.getD i [])=a;generalize (names.take i).contains (names.getD i [])=b;by_cases h0:i=0
 . subst h0;by_cases h1:1<=x
   . have:decide ((0:Int) < x)=true:=by simp;omega
     simp[h1,this]
   . simp[h1]
 . simp only[h0,if_false,decide_false,Bool.false_or];by_cases h1:1<=x <;> by_cases h2:x<=1000 <;> by_cases h3:y < x <;> simp[h1,h2,h3]
theorem wP(l:List aC)(hl:l.length*24<=reachBytes):∀(k i:Nat),i+k=l.length->gq (l,l,(l.length:Int),(i:Int),(l.map (·.ID)).take i,(l.map (·.Name)).take i)=some (l,l.map (·.ID),l.map (·.Name))
 | 0,i,h=>by
  have:i=l.length:=by omega
  subst this;rw[gq,if_neg (by simp)];rw[List.take_of_length_le (by simp),List.take_of_length_le (by simp)]
 | k+1,i,h=>by
  have hr:l.length < 9223372036854775807:=by unfold reachBytes at hl;omega
  have hi:i < l.length:=by omega
  rw[gq,if_pos (by simp;omega),if_pos (au hi)];simp only[oZ4,oZ3,aw];rw[<-bM (·.ID) l i aR 0 hi,<-bM (·.Name) l i aR [] hi,jU _ _ _ (by simpa using hi),jU _ _ _ (by simpa using hi)];rw[if_pos (room8 (by omega) (by simp;omega)),if_pos (room8 (by omega) (by simp;omega)),aA (by omega)];exact wP l hl k (i+1) (by omega)
theorem Aa{l:List aC}(hl:l.length*24<=reachBytes):∃r,jB l=some r/\(r=true↔0 < l.length/\(∀i,i < l.length->idp (l.map (·.ID)) (l.map (·.Name)) i=true)/\l.length<=16):=by
 have h:=wP l hl l.length 0 (by omega);have h':gq (l,l,(l.length:Int),0,[],[])=some (l,l.map (·.ID),l.map (·.Name)):=h;rw[jB,h'];simp only[oZ4,oZ3];obtain⟨r,h1,h2⟩:=BL (l:=l.map (·.ID)) (names:=l.map (·.Name)) (by simp;unfold reachBytes at*;omega) (by simp);rw[List.length_map]at h2
 grind
theorem refId(a b:Int):lE (a,b)=some (decide (a < b) && decide (1<=b) && decide (b<=1000)):=by
 rw[lE]
 grind
theorem HD (l : List aC) (hl : l.length <= reachBytes) (i : Nat) (hi : i < l.length):
 dH (l,(i:Int),0)=some (if((l.map (·.Name)).take i).contains ((l.map (·.Name)).getD i [])=true then .inl false else .inr (l,(i:Int))):=by
 have hr:=aT hl;have hsc:=scan (fun k=>dH (l,(i:Int),(k:Int))) i (fun k=>!(decide ((l.getD k aR).Name=(l.getD i aR).Name))) (.inl false) (.inr (l,(i:Int)))
  (fun k hk=>by
   rw[dH,if_pos (by simp;omega),if_pos (au (by omega)),if_pos (au hi),aA (by omega)]
   grind)
  (by rw[dH,if_neg (by simp)])
 have e0:dH (l,(i:Int),((0:Nat):Int))=dH (l,(i:Int),0):=rfl;simp only[e0]at hsc;rw[bM (·.Name) l i aR [] hi];rcases hsc with⟨h1,h2⟩ | ⟨h1,j,h2,h3⟩
 . rw[h1,if_neg];rw[fx (by simp;omega)]
   rintro ⟨k,hk,he⟩
   rw[bM (·.Name) l k aR [] (by omega)]at he;have:=h2 k hk;rw[he]at this;simp at this
 . rw[h1,if_pos];rw[fx (by simp;omega)];refine⟨j,h2,?_⟩;rw[bM (·.Name) l j aR [] (by omega)]
   simpa using h3
theorem Lp{l:List aC}(hl:l.length<=reachBytes):∃r,lb l=some r/\(r=true↔0 < l.length/\(∀i,i < l.length->idp (l.map (·.ID)) (l.map (·.Name)) i=true)/\l.length<=16):=by
 have hr:=aT hl;have hsc:=scan (fun i=>eS (l,bef (l.map (·.ID)) i,(i:Int))) l.length (idp (l.map (·.ID)) (l.map (·.Name))) (.inl false) (.inr l)
  (fun i hi=>by
   rw[eS,if_pos (by simp;omega),if_pos (au hi),refId,HD l hl i hi,z8 (by simpa using hi) (by simp)];simp only[oZ4,oZ3,aw];rw[<-bM (·.ID) l i aR 0 hi,<-bM (·.Name) l i aR [] hi,refNm];generalize (decide (bef (l.map (·.ID)) i < (l.map (·.ID)).getD i 0) && decide (1<=(l.map (·.ID)).getD i 0) && decide ((l.map (·.ID)).getD i 0<=1000))=q
   rw[if_pos (by rw[au hi];rfl)];cases q with
   | false=>rfl
   | true=>
    simp only[Bool.not_true,Bool.not_false,if_true,oZ3,Bool.true_and];cases nm ((l.map (·.Name)).getD i [])with
    | false=>rfl
    | true=>
     simp only[Bool.not_true,cond_false,Bool.false_eq_true,if_false,Bool.true_and];cases hc:((l.map (·.Name)).take i).contains ((l.map (·.Name)).getD i [])with
     | true=>simp
     | false=>
      simp only[Bool.false_eq_true,if_false,Bool.not_false,if_true];rw[if_pos (au hi),aA (by omega)];have:bef (l.map (·.ID)) (i+1)=(l.getD i aR).ID:=by
       unfold bef
       grind
      grind)
  (by rw[eS,if_neg (by simp)])
 have e0:eS (l,bef (l.map (·.ID)) 0,((0:Nat):Int))=eS (l,0,0):=rfl;simp only[e0]at hsc;rw[lb];rcases hsc with⟨h1,h2⟩ | ⟨h1,j,h2,h3⟩
 . rw[h1];refine⟨_,rfl,?_⟩
   grind
 . rw[h1];refine⟨false,rfl,?_⟩
   grind
theorem IB{l:List aC}(hl:l.length*24<=reachBytes):∃r,jB l=some r/\lb l=some r:=by
 obtain⟨r,h1,h2⟩:=Aa hl;obtain⟨q,h3,h4⟩:=Lp (l:=l) (by unfold reachBytes at*;omega)
 grind
structure OkT (t:ae):Prop where
 syms:t.Symbols.length*24<=reachBytes
 mems:t.Members.length*24<=reachBytes
 dv:∀m,m∈t.Members->OkV m.Default
theorem bN{n:Nat}(h:n*24<=reachBytes):n<=reachBytes:=by unfold reachBytes at*;omega
theorem HE{a b:aj}:a=b↔a.ID=b.ID/\a.Name=b.Name/\a.Type_=b.Type_/\a.Critical=b.Critical/\a.HasDefault=b.HasDefault/\a.Default=b.Default:=by cases a;cases b;simp
theorem cw(x:aj):(⟨x.ID,x.Name,x.Type_,x.Critical,x.HasDefault,ab.eta x.Default⟩:aj)=x:=by cases x;simp[ab.aD]
theorem fiveM{a b:aj}:(bif bif bif bif decide (a.ID=b.ID)then decide (a.Name=b.Name)else false then decide (a.Type_=b.Type_)else false then eqB a.Critical b.Critical else false then eqB a.HasDefault b.HasDefault else false)=true↔a.ID=b.ID/\a.Name=b.Name/\a.Type_=b.Type_/\a.Critical=b.Critical/\a.HasDefault=b.HasDefault:=by
 simp only[Bool.cond_eq_ite,eqB]
 grind
theorem twoM {a b : aj} {q : Bool} (hq : q = true ↔ a.ID = b.ID /\ a.Name = b.Name /\ a.Type_ = b.Type_ /\ a.Critical = b.Critical /\ a.HasDefault = b.HasDefault) {x : Option Bool} (hx : Says x a.Default b.Default):
 Says (some q >>=fun t37=>(if t37=true then x else some false) >>=fun r=>some (bif t37 then r else false)) a b:=by
 obtain⟨rx,h1,h2⟩:=hx;subst h1;refine⟨q && rx,by cases q <;> cases rx <;> rfl,?_⟩;rw[HE,Bool.and_eq_true,hq,h2];constructor
 . rintro ⟨⟨a1,a2,a3,a4,a5⟩,a6⟩;exact⟨a1,a2,a3,a4,a5,a6⟩
 . rintro ⟨a1,a2,a3,a4,a5,a6⟩;exact⟨⟨a1,a2,a3,a4,a5⟩,a6⟩
theorem IC{a:aj}(h:OkV a.Default)(b:aj):Says (lC (a,b)) a b:=by
 rw[lC];simp only[oZ,ab.aD];exact twoM fiveM (oI h _)
theorem IE{a:aj}(h:OkV a.Default)(b:aj):Says (kS (a,b)) a b:=by
 rw[kS];simp only[oZ,ab.aD];exact twoM fiveM (sV h _)
theorem vV {f : aj×aj -> Option Bool} {γ : Type} {g : γ} {a b : List aj} (hl : a.length = b.length) (ih : ∀ x, x ∈ a -> ∀ y, Says (f (x, y)) x y) (L : Nat -> Option (Bool ⊕ γ))
 (hstep:∀i,i < a.length->L i=(f (a.getD i ap,b.getD i ap) >>=fun r=>if(!r)=true then some (.inl false)else L (i+1)))
 (hend:L a.length=some (.inr g)):(L 0=some (.inr g)/\a=b)\/(L 0=some (.inl false)/\a≠b):=by
 have hget:∀(i:Nat) (h1:i < a.length) (h2:i < b.length),Says (f (a.getD i ap,b.getD i ap)) a[i] b[i]:=by grind
 have hp:∀(i:Nat) (h1:i < a.length) (h2:i < b.length),(f (a.getD i ap,b.getD i ap)).getD false=true↔a[i]=b[i]:=by
  intro i h1 h2;obtain⟨r,h3,h4⟩:=hget i h1 h2
  grind
 have:=scan L a.length (fun i=>(f (a.getD i ap,b.getD i ap)).getD false) (.inl false) (.inr g)
  (fun i hi=>by
   obtain⟨r,h1,h2⟩:=hget i hi (by omega)
   grind) hend
 rcases this with⟨h1,h2⟩ | ⟨h1,j,h2,h3⟩
 . exact .inl ⟨h1,(jM hl hp).1 h2⟩
 . refine .inr ⟨h1,fun e=>?_⟩;have:=(jM hl hp).2 e j h2;rw[h3]at this;cases this
theorem F5{a b:List aj}(ha:a.length<=reachBytes)(hd:∀m,m∈a->OkV m.Default):Says (nq (a,b)) a b:=by
 rw[nq];by_cases hl:a.length=b.length
 . rw[if_neg (by simp;omega)];have hr:=aT ha;have hs:=vV (g:=()) hl (f:=lC) (fun x hx y=>IC (hd x hx) y) (fun i=>eE (b,a,(a.length:Int),(i:Int)))
    (fun i hi=>by
     rw[eE,if_pos (by simp;omega),if_pos (au hi)];simp only[oZ4,oZ3,aw,cw]
     rw[if_pos (au (by omega)),aA (by omega)])
    (by rw[eE,if_neg (by simp)])
   have e0:eE (b,a,(a.length:Int),((0:Nat):Int))=eE (b,a,(a.length:Int),0):=rfl;simp only[e0]at hs;rcases hs with⟨h1,h2⟩ | ⟨h1,h2⟩
   . rw[h1];exact⟨true,rfl,by simp[h2]⟩
   . rw[h1];exact⟨false,rfl,by simp[h2]⟩
 . rw[if_pos (by simp;omega)];exact j8 hl
theorem yT{a b:ae}:a=b↔a.Kind=b.Kind/\a.Name=b.Name/\a.Low=b.Low/\a.High=b.High/\a.Max=b.Max/\a.Key=b.Key/\a.Elem=b.Elem/\a.Open=b.Open/\a.Symbols=b.Symbols/\a.Members=b.Members:=by
 cases a;cases b
 grind
theorem NO {a b : ae}: (bif bif bif bif bif bif bif decide (a.Kind = b.Kind) then decide (a.Name = b.Name) else false then decide (a.Low = b.Low) else false then decide (a.High = b.High) else false then decide (a.Max = b.Max) else false then decide (a.Key = b.Key) else false then decide (a.Elem = b.Elem) else false then eqB a.Open b.Open else false) = true ↔
 a.Kind=b.Kind/\a.Name=b.Name/\a.Low=b.Low/\a.High=b.High/\a.Max=b.Max/\a.Key=b.Key/\a.Elem=b.Elem/\a.Open=b.Open:=by
 simp only[Bool.cond_eq_ite,eqB];by_cases h1:a.Kind=b.Kind <;> by_cases h2:a.Name=b.Name <;> by_cases h3:a.Low=b.Low <;> by_cases h4:a.High=b.High <;> simp[h1,h2,h3,h4]
 by_cases h5:a.Max=b.Max <;> by_cases h6:a.Key=b.Key <;> by_cases h7:a.Elem=b.Elem <;> simp[h5,h6,h7]
theorem ca{a:ae}(h:OkT a)(b:ae):Says (bI (a,b)) a b:=by
 rw[bI];obtain⟨rs,s1,s2⟩:=NN (a:=a.Symbols) (b:=b.Symbols) (bN h.syms);obtain⟨rm,m1,m2⟩:=F5 (a:=a.Members) (b:=b.Members) (bN h.mems) h.dv;have e8:=NO (a:=a) (b:=b)
 generalize (bif bif bif bif bif bif bif decide (a.Kind=b.Kind)then decide (a.Name=b.Name)else false then decide (a.Low=b.Low)else false then decide (a.High=b.High)else false then decide (a.Max=b.Max)else false then decide (a.Key=b.Key)else false then decide (a.Elem=b.Elem)else false then eqB a.Open b.Open else false)=q at e8 ⊢
 simp only[oZ4,oZ3];rw[s1,m1];refine⟨q && rs && rm,by cases q <;> cases rs <;> cases rm <;> rfl,?_⟩;rw[yT,Bool.and_eq_true,Bool.and_eq_true,e8,s2,m2]
 grind
theorem pw(a:ae):(⟨a.Kind,a.Name,a.Low,a.High,a.Max,a.Symbols,a.Members,a.Key,a.Elem,a.Open⟩:ae)=a:=by cases a;rfl
theorem fN{a:ae}(h:OkT a)(b:ae):Says (nx (a,b)) a b:=by
 rw[nx];simp only[pw];by_cases h5:(a.Kind=b.Kind/\a.Name=b.Name/\a.Low=b.Low/\a.High=b.High/\a.Max=b.Max/\a.Key=b.Key/\a.Elem=b.Elem/\a.Open=b.Open)/\a.Symbols.length=b.Symbols.length/\a.Members.length=b.Members.length
 . obtain⟨⟨e1,e2,e3,e4,e5,e6,e7,e8⟩,e9,e10⟩:=h5;rw[if_neg (by simp[e1,e2,e3,e4,e5,e6,e7,e8,e9,e10,eqB])];have hr:=aT (bN h.syms);have hr2:=aT (bN h.mems)
   have hsc:=scan (fun i=>eP ((i:Int),a,b)) a.Symbols.length (fun i=>eqI (a.Symbols.getD i aR).ID (b.Symbols.getD i aR).ID && (eqS (a.Symbols.getD i aR).Name (b.Symbols.getD i aR).Name && true)) (.inl false) (.inr (a,b))
    (fun i hi'=>by
     rw[eP,if_pos (by simp;omega),if_pos (au hi')];simp only[oZ4,oZ3,aw];rw[if_pos (au (by omega)),aA (by omega)]
     grind)
    (by rw[eP,if_neg (by simp)])
   have h0:eP (((0:Nat):Int),a,b)=eP (0,a,b):=rfl;simp only[h0]at hsc;have hp:∀(i:Nat) (h1:i < a.Symbols.length) (h2:i < b.Symbols.length),(eqI (a.Symbols.getD i aR).ID (b.Symbols.getD i aR).ID && (eqS (a.Symbols.getD i aR).Name (b.Symbols.getD i aR).Name && true))=true↔a.Symbols[i]=b.Symbols[i]:=fun i h1 h2=>by rw[bl h1,bl h2];exact BI
   rcases hsc with⟨g1,g2⟩ | ⟨g1,j,g2,g3⟩
   . have hsy:=(jM e9 hp).1 g2;rw[g1];simp only[oZ4,oZ3];have hs:=vV (g:=()) e10 (f:=kS) (fun x hx y=>IE (h.dv x hx) y) (fun i=>eQ ((i:Int),a,b))
      (fun i hi=>by
       rw[eQ,if_pos (by simp;omega),if_pos (au hi)];simp only[oZ4,oZ3,aw,cw]
       rw[if_pos (au (by omega)),aA (by omega)])
      (by rw[eQ,if_neg (by simp)])
     have e0:eQ (((0:Nat):Int),a,b)=eQ (0,a,b):=rfl;simp only[e0]at hs;rcases hs with⟨k1,k2⟩ | ⟨k1,k2⟩
     . rw[k1];refine⟨true,rfl,?_⟩;rw[yT]
       grind
     . rw[k1];refine⟨false,rfl,?_⟩
       grind
   . rw[g1];refine⟨false,rfl,?_⟩
     grind
 . rw[if_pos]
   . refine⟨false,rfl,?_⟩
     grind
   . simp only[Bool.cond_eq_ite,eqB];by_cases q1:a.Kind=b.Kind <;> by_cases q2:a.Name=b.Name <;> by_cases q3:a.Low=b.Low <;> by_cases q4:a.High=b.High <;> simp[q1,q2,q3,q4]
     grind
def fU(v:ab):Bool:=(di (v,ag)).getD false
theorem Lq{v:ab}(h:OkV v):di (v,ag)=some (fU v):=by
 obtain⟨r,h1,h2⟩:=oI h ag;unfold fU;rw[h1];rfl
theorem Lr{v:ab}(h:OkV v):cP (v,ag)=some (fU v):=by
 obtain⟨r,h1,h2⟩:=oI h ag;obtain⟨q,h3,h4⟩:=sV h ag;unfold fU;rw[h1,h3]
 grind
theorem KB{v:ab}(h:OkV v):nZ v=some (fU v):=by
 rw[nZ,ab.aD];have:=Lq h;unfold ag at this
 grind
def badM(union:Bool)(m:aj):Bool:=(union && (m.Critical || m.HasDefault)) || (m.Critical && m.HasDefault) || (!m.HasDefault && !fU m.Default)
theorem aB{α:Type}{l:List α}{i:Nat}(h:i < l.length)(d:α):l.getD i d∈l:=by grind
theorem wQ{t:ae}(h:OkT t):∃r,iA t=some r/\(r=true↔(∀i,i < t.Members.length->badM (decide (t.Kind=6)) (t.Members.getD i ap)=false)/\(t.Kind=5\/0 < t.Members.length)/\(∀i,i < t.Members.length->idp (t.Members.map (·.ID)) (t.Members.map (·.Name)) i=true)/\t.Members.length<=16):=by
 have hr:t.Members.length < 9223372036854775807:=aT (bN h.mems);have hsc:=scan (fun i=>fh (t.Members,(t.Members.length:Int),(i:Int),t,(t.Members.map (·.ID)).take i,(t.Members.map (·.Name)).take i)) t.Members.length (fun i=>!(badM (decide (t.Kind=6)) (t.Members.getD i ap))) (.inl false) (.inr (t,t.Members.map (·.ID),t.Members.map (·.Name)))
  (fun i hi=>by
   have hz:=KB (h.dv _ (aB hi ap));rw[fh,if_pos (by simp;omega),if_pos (au hi)];simp only[oZ4,oZ3,aw,ab.aD];rw[<-bM (·.ID) t.Members i ap 0 hi,<-bM (·.Name) t.Members i ap [] hi,jU _ _ _ (by simpa using hi),jU _ _ _ (by simpa using hi)];have hb:((t.Members.map (·.ID)).take (i+1)).length*24<=reachBytes:=by
    refine Nat.le_trans (Nat.mul_le_mul_right _ ?_) h.mems;simp;omega
   have hb2:((t.Members.map (·.Name)).take (i+1)).length*24<=reachBytes:=by grind
   rw[if_pos (room8 (by omega) hb),if_pos (room8 (by omega) hb2),aA (by omega),hz];unfold badM
   grind)
  (by
   rw[fh,if_neg (by simp)]
   rw[List.take_of_length_le (by simp),List.take_of_length_le (by simp)])
 have e0:fh (t.Members,(t.Members.length:Int),((0:Nat):Int),t,(t.Members.map (·.ID)).take 0,(t.Members.map (·.Name)).take 0)=fh (t.Members,(t.Members.length:Int),0,t,[],[]):=rfl;simp only[e0]at hsc;rw[iA];obtain⟨r,h1,h2⟩:=BL (l:=t.Members.map (·.ID)) (names:=t.Members.map (·.Name)) (by simpa using bN h.mems) (by simp);rw[List.length_map]at h2
 rcases hsc with⟨g1,g2⟩ | ⟨g1,j,g2,g3⟩
 . rw[g1];simp only[oZ4,oZ3];rw[h1];refine⟨(bif decide (t.Kind=5)then true else decide (0 < ((t.Members.map (·.ID)).length:Int))) && r,?_,?_⟩
   . grind
   grind
 grind
theorem HF (l : List aj) (record : Bool) (hl : l.length <= reachBytes) (i : Nat) (hi : i < l.length):
 dI (l,record,(i:Int),0,l.getD i ap)=some (if((l.map (·.Name)).take i).contains ((l.map (·.Name)).getD i [])=true then .inl false else .inr (l,record,(i:Int),l.getD i ap)):=by
 have hr:=aT hl;have hsc:=scan (fun k=>dI (l,record,(i:Int),(k:Int),l.getD i ap)) i (fun k=>!(decide ((l.getD k ap).Name=(l.getD i ap).Name))) (.inl false) (.inr (l,record,(i:Int),l.getD i ap))
  (fun k hk=>by
   rw[dI,if_pos (by simp;omega),if_pos (au (by omega)),aA (by omega)];simp only[aw,cw]
   grind)
  (by rw[dI,if_neg (by simp),cw])
 have e0:dI (l,record,(i:Int),((0:Nat):Int),l.getD i ap)=dI (l,record,(i:Int),0,l.getD i ap):=rfl;simp only[e0]at hsc;rw[bM (·.Name) l i ap [] hi];rcases hsc with⟨h1,h2⟩ | ⟨h1,j,h2,h3⟩
 . rw[h1,if_neg];rw[fx (by simp;omega)]
   rintro ⟨k,hk,he⟩
   rw[bM (·.Name) l k ap [] (by omega)]at he;have:=h2 k hk;rw[he]at this;simp at this
 . rw[h1,if_pos];rw[fx (by simp;omega)];refine⟨j,h2,?_⟩;rw[bM (·.Name) l j ap [] (by omega)]
   simpa using h3
theorem HH{l:List aj}{record:Bool}(hl:l.length<=reachBytes)(hd:∀m,m∈l->OkV m.Default):∃r,jj (l,record)=some r/\(r=true↔(∀i,i < l.length->badM (!record) (l.getD i ap)=false)/\(record=true\/0 < l.length)/\(∀i,i < l.length->idp (l.map (·.ID)) (l.map (·.Name)) i=true)/\l.length<=16):=by
 have hr:=aT hl;have hsc:=scan (fun i=>eT (l,record,bef (l.map (·.ID)) i,(i:Int))) l.length (fun i=>idp (l.map (·.ID)) (l.map (·.Name)) i && !(badM (!record) (l.getD i ap))) (.inl false) (.inr (l,record))
  (fun i hi=>by
   have hz:=Lr (hd _ (aB hi ap));unfold ag at hz;rw[eT,if_pos (by simp;omega),if_pos (au hi)];simp only[oZ4,oZ3,aw,ab.aD,cw,z8 (l:=l.map (·.ID)) (names:=l.map (·.Name)) (i:=i) (by simpa using hi) (by simp)];rw[HF l record hl i hi,hz];have hbef:bef (l.map (·.ID)) (i+1)=(l.getD i ap).ID:=by
    unfold bef
    grind
   rw[<-bM (·.ID) l i ap 0 hi,<-bM (·.Name) l i ap [] hi,refId,refNm];simp only[oZ3];generalize (decide (bef (l.map (·.ID)) i < (l.map (·.ID)).getD i 0) && decide (1<=(l.map (·.ID)).getD i 0) && decide ((l.map (·.ID)).getD i 0<=1000))=q;cases q with
   | false=>simp
   | true=>
    simp only[Bool.not_true,Bool.not_false,if_true,oZ3,Bool.true_and];cases nm ((l.map (·.Name)).getD i [])with
    | false=>simp
    | true=>
     simp only[Bool.not_true,Bool.true_and,Bool.or_false,cond_false];unfold badM;cases record <;> cases (l.getD i ap).Critical <;> cases (l.getD i ap).HasDefault <;> cases fU (l.getD i ap).Default <;>
      simp only[Bool.not_true,Bool.not_false,Bool.or_self,Bool.and_self,Bool.or_true,Bool.true_or,Bool.and_true,Bool.and_false,Bool.false_and,Bool.true_and,Bool.false_or,Bool.or_false,cond_true,cond_false,if_true,if_false,Bool.false_eq_true,oZ3] <;>
      first
       | rfl
       | (cases hc:((l.map (·.Name)).take i).contains ((l.map (·.Name)).getD i [])with
        | true=>simp
        | false=>
         simp only[Bool.false_eq_true,if_false,Bool.not_false,if_true];rw[aA (by omega),hbef]
         try rfl))
  (by rw[eT,if_neg (by simp)])
 have e0:eT (l,record,bef (l.map (·.ID)) 0,((0:Nat):Int))=eT (l,record,0,0):=rfl;simp only[e0]at hsc;rw[jj];rcases hsc with⟨h1,h2⟩ | ⟨h1,j,h2,h3⟩
 . rw[h1];refine⟨_,rfl,?_⟩
   grind
 . rw[h1];refine⟨false,rfl,?_⟩
   grind
theorem xM{t:ae}(h:OkT t)(hk:t.Kind=5\/t.Kind=6):∃r,iA t=some r/\jj (t.Members,decide (t.Kind=5))=some r:=by
 obtain⟨r,h1,h2⟩:=wQ h;obtain⟨q,h3,h4⟩:=HH (l:=t.Members) (record:=decide (t.Kind=5)) (bN h.mems) h.dv;have hu:(!(decide (t.Kind=5)))=decide (t.Kind=6):=by grind
 grind
theorem OkT.plain{k l h m kk e:Int}{n:List UInt8}{S:List aC}{Ms:List aj}{o:Bool}(hS:S.length*24<=reachBytes)(hM:Ms.length*24<=reachBytes)(hd:∀x,x∈Ms->OkV x.Default):OkT ⟨k,n,l,h,m,S,Ms,kk,e,o⟩:=⟨hS,hM,hd⟩
theorem form1{N:List UInt8}{L H M K E:Int}{S:List aC}{Ms:List aj}{O:Bool}(h:OkT (⟨1,N,L,H,M,S,Ms,K,E,O⟩:ae)):∃r,bp (⟨1,N,L,H,M,S,Ms,K,E,O⟩:ae)=some r/\bF (⟨1,N,L,H,M,S,Ms,K,E,O⟩:ae)=some r/\(r=true->N=[]):=by
 obtain⟨a,a1,a2⟩:=ca (a:=(⟨0,N,L,H,M,S,Ms,K,E,O⟩:ae)) ⟨h.syms,h.mems,h.dv⟩ (⟨0,[],0,0,0,[],[],0,0,false⟩:ae);obtain⟨b,b1,b2⟩:=fN h (⟨1,[],0,0,0,[],[],0,0,false⟩:ae);have hab:a=b:=by grind
 subst hab;refine⟨a,by simp[bp,a1],by simp[bF,dq,ct,b1];try (cases a <;> rfl),fun hr=>?_⟩
 grind
theorem form2{N:List UInt8}{L H M K E:Int}{S:List aC}{Ms:List aj}{O:Bool}(h:OkT (⟨2,N,L,H,M,S,Ms,K,E,O⟩:ae)):∃r,bp (⟨2,N,L,H,M,S,Ms,K,E,O⟩:ae)=some r/\bF (⟨2,N,L,H,M,S,Ms,K,E,O⟩:ae)=some r/\(r=true->N=[]):=by
 obtain⟨a,a1,a2⟩:=ca (a:=(⟨0,N,0,0,M,S,Ms,K,E,O⟩:ae)) ⟨h.syms,h.mems,h.dv⟩ (⟨0,[],0,0,0,[],[],0,0,false⟩:ae);obtain⟨b,b1,b2⟩:=fN h (⟨2,[],L,H,0,[],[],0,0,false⟩:ae);have hab:a=b:=by grind
 subst hab;refine⟨decide (L<=H) && a,?_,?_,fun hr=>?_⟩
 . simp only[bp]
   grind
 . simp only[bF];generalize decide (L<=H)=q;simp[dq,ct,b1]
   grind
 grind
theorem form3{N:List UInt8}{L H M K E:Int}{S:List aC}{Ms:List aj}{O:Bool}(h:OkT (⟨3,N,L,H,M,S,Ms,K,E,O⟩:ae)):∃r,bp (⟨3,N,L,H,M,S,Ms,K,E,O⟩:ae)=some r/\bF (⟨3,N,L,H,M,S,Ms,K,E,O⟩:ae)=some r/\(r=true->N=[]):=by
 obtain⟨a,a1,a2⟩:=ca (a:=(⟨0,N,L,H,0,S,Ms,K,E,O⟩:ae)) ⟨h.syms,h.mems,h.dv⟩ (⟨0,[],0,0,0,[],[],0,0,false⟩:ae);obtain⟨b,b1,b2⟩:=fN h (⟨3,[],0,0,M,[],[],0,0,false⟩:ae);have hab:a=b:=by grind
 subst hab;refine⟨(bif decide (0<=M)then decide (M<=200)else false) && a,?_,?_,fun hr=>?_⟩
 . simp only[bp]
   grind
 . simp only[bF];generalize (bif decide (0<=M)then decide (M<=200)else false)=q;simp[dq,ct,b1]
   grind
 grind
theorem form4{N:List UInt8}{L H M K E:Int}{S:List aC}{Ms:List aj}{O:Bool}(h:OkT (⟨4,N,L,H,M,S,Ms,K,E,O⟩:ae)):∃r,bp (⟨4,N,L,H,M,S,Ms,K,E,O⟩:ae)=some r/\bF (⟨4,N,L,H,M,S,Ms,K,E,O⟩:ae)=some r/\(r=true->N≠[]):=by
 obtain⟨a,a1,a2⟩:=ca (a:=(⟨0,[],L,H,M,[],Ms,K,E,false⟩:ae)) ⟨(by simp),h.mems,h.dv⟩ (⟨0,[],0,0,0,[],[],0,0,false⟩:ae);obtain⟨b,b1,b2⟩:=fN h (⟨4,N,0,0,0,S,[],0,0,O⟩:ae);have hab:a=b:=by grind
 subst hab;obtain⟨q,q1,q2⟩:=IB (l:=S) h.syms;refine⟨nm N && q && a,?_,?_,fun hr=>?_⟩
 . simp only[bp];simp[a1,q1,lexNm]
   grind
 . simp only[bF]
   try simp at q2
   simp[dq,ct,b1,q2,refNm]
   grind
 . simp only[Bool.and_eq_true]at hr;exact nm_ne hr.1.1
theorem form5{N:List UInt8}{L H M K E:Int}{S:List aC}{Ms:List aj}{O:Bool}(h:OkT (⟨5,N,L,H,M,S,Ms,K,E,O⟩:ae)):∃r,bp (⟨5,N,L,H,M,S,Ms,K,E,O⟩:ae)=some r/\bF (⟨5,N,L,H,M,S,Ms,K,E,O⟩:ae)=some r/\(r=true->N≠[]):=by
 obtain⟨a,a1,a2⟩:=ca (a:=(⟨0,[],L,H,M,S,[],K,E,(bif O then decide ((5:Int)=5)else false)⟩:ae)) ⟨h.syms,(by simp),(by simp)⟩ (⟨0,[],0,0,0,[],[],0,0,false⟩:ae);obtain⟨b,b1,b2⟩:=fN h (⟨5,N,0,0,0,[],Ms,0,0,false⟩:ae);have hab:a=b:=by grind
 subst hab;obtain⟨q,q1,q2⟩:=xM h (by simp);refine⟨nm N && q && a,?_,?_,fun hr=>?_⟩
 . simp only[bp]
   try simp at a1
   try simp at q1
   simp[a1,q1,lexNm]
   grind
 . simp only[bF]
   try simp at q2
   simp[dq,ct,b1,q2,refNm]
   grind
 . simp only[Bool.and_eq_true]at hr;exact nm_ne hr.1.1
theorem form6{N:List UInt8}{L H M K E:Int}{S:List aC}{Ms:List aj}{O:Bool}(h:OkT (⟨6,N,L,H,M,S,Ms,K,E,O⟩:ae)):∃r,bp (⟨6,N,L,H,M,S,Ms,K,E,O⟩:ae)=some r/\bF (⟨6,N,L,H,M,S,Ms,K,E,O⟩:ae)=some r/\(r=true->N≠[]):=by
 obtain⟨a,a1,a2⟩:=ca (a:=(⟨0,[],L,H,M,S,[],K,E,(bif O then decide ((6:Int)=5)else false)⟩:ae)) ⟨h.syms,(by simp),(by simp)⟩ (⟨0,[],0,0,0,[],[],0,0,false⟩:ae);obtain⟨b,b1,b2⟩:=fN h (⟨6,N,0,0,0,[],Ms,0,0,O⟩:ae);have hab:a=b:=by grind
 subst hab;obtain⟨q,q1,q2⟩:=xM h (by simp);refine⟨nm N && q && a,?_,?_,fun hr=>?_⟩
 . simp only[bp]
   try simp at a1
   try simp at q1
   simp[a1,q1,lexNm]
   grind
 . simp only[bF]
   try simp at q2
   simp[dq,ct,b1,q2,refNm]
   grind
 . simp only[Bool.and_eq_true]at hr;exact nm_ne hr.1.1
theorem form7{N:List UInt8}{L H M K E:Int}{S:List aC}{Ms:List aj}{O:Bool}(h:OkT (⟨7,N,L,H,M,S,Ms,K,E,O⟩:ae)):∃r,bp (⟨7,N,L,H,M,S,Ms,K,E,O⟩:ae)=some r/\bF (⟨7,N,L,H,M,S,Ms,K,E,O⟩:ae)=some r/\(r=true->N=[]):=by
 obtain⟨a,a1,a2⟩:=ca (a:=(⟨0,N,L,H,0,S,Ms,K,0,O⟩:ae)) ⟨h.syms,h.mems,h.dv⟩ (⟨0,[],0,0,0,[],[],0,0,false⟩:ae);obtain⟨b,b1,b2⟩:=fN h (⟨7,[],0,0,M,[],[],0,E,false⟩:ae);have hab:a=b:=by grind
 subst hab;refine⟨(bif decide (0<=M)then decide (M<=50)else false) && a,?_,?_,fun hr=>?_⟩
 . simp only[bp]
   grind
 . simp only[bF];generalize (bif decide (0<=M)then decide (M<=50)else false)=q;simp[dq,ct,b1]
   grind
 grind
theorem form8{N:List UInt8}{L H M K E:Int}{S:List aC}{Ms:List aj}{O:Bool}(h:OkT (⟨8,N,L,H,M,S,Ms,K,E,O⟩:ae)):∃r,bp (⟨8,N,L,H,M,S,Ms,K,E,O⟩:ae)=some r/\bF (⟨8,N,L,H,M,S,Ms,K,E,O⟩:ae)=some r/\(r=true->N=[]):=by
 obtain⟨a,a1,a2⟩:=ca (a:=(⟨0,N,L,H,0,S,Ms,0,0,O⟩:ae)) ⟨h.syms,h.mems,h.dv⟩ (⟨0,[],0,0,0,[],[],0,0,false⟩:ae);obtain⟨b,b1,b2⟩:=fN h (⟨8,[],0,0,M,[],[],K,E,false⟩:ae);have hab:a=b:=by grind
 subst hab;refine⟨(bif decide (0<=M)then decide (M<=50)else false) && a,?_,?_,fun hr=>?_⟩
 . simp only[bp]
   grind
 . simp only[bF];generalize (bif decide (0<=M)then decide (M<=50)else false)=q;simp[dq,ct,b1]
   grind
 grind
theorem form9{N:List UInt8}{L H M K E:Int}{S:List aC}{Ms:List aj}{O:Bool}(h:OkT (⟨9,N,L,H,M,S,Ms,K,E,O⟩:ae)):∃r,bp (⟨9,N,L,H,M,S,Ms,K,E,O⟩:ae)=some r/\bF (⟨9,N,L,H,M,S,Ms,K,E,O⟩:ae)=some r/\(r=true->N=[]):=by
 obtain⟨a,a1,a2⟩:=ca (a:=(⟨0,N,L,H,M,S,Ms,K,0,O⟩:ae)) ⟨h.syms,h.mems,h.dv⟩ (⟨0,[],0,0,0,[],[],0,0,false⟩:ae);obtain⟨b,b1,b2⟩:=fN h (⟨9,[],0,0,0,[],[],0,E,false⟩:ae);have hab:a=b:=by grind
 subst hab;refine⟨a,by simp[bp,a1],by simp[bF,dq,ct,b1];try (cases a <;> rfl),fun hr=>?_⟩
 grind
def cO(k:Int):Bool:=bif bif decide (k=4)then true else decide (k=5)then true else decide (k=6)
theorem r7{t:ae}(h:OkT t):∃r,bp t=some r/\bF t=some r/\(r=true->1<=t.Kind/\t.Kind<=9/\cO t.Kind=!(decide (t.Name=[]))):=by
 by_cases hk:1<=t.Kind/\t.Kind<=9
 . obtain⟨Kd,N,L,H,M,S,Ms,K,E,O⟩:=t;simp only at hk;have:Kd=1\/Kd=2\/Kd=3\/Kd=4\/Kd=5\/Kd=6\/Kd=7\/Kd=8\/Kd=9:=by omega
   rcases this with rfl | rfl | rfl | rfl | rfl | rfl | rfl | rfl | rfl
   . obtain⟨r,h1,h2,h3⟩:=form1 h;exact⟨r,h1,h2,fun hr=>⟨hk.1,hk.2,by simp[cO,h3 hr]⟩⟩
   . obtain⟨r,h1,h2,h3⟩:=form2 h;exact⟨r,h1,h2,fun hr=>⟨hk.1,hk.2,by simp[cO,h3 hr]⟩⟩
   . obtain⟨r,h1,h2,h3⟩:=form3 h;exact⟨r,h1,h2,fun hr=>⟨hk.1,hk.2,by simp[cO,h3 hr]⟩⟩
   . obtain⟨r,h1,h2,h3⟩:=form4 h;exact⟨r,h1,h2,fun hr=>⟨hk.1,hk.2,by simp[cO,h3 hr]⟩⟩
   . obtain⟨r,h1,h2,h3⟩:=form5 h;exact⟨r,h1,h2,fun hr=>⟨hk.1,hk.2,by simp[cO,h3 hr]⟩⟩
   . obtain⟨r,h1,h2,h3⟩:=form6 h;exact⟨r,h1,h2,fun hr=>⟨hk.1,hk.2,by simp[cO,h3 hr]⟩⟩
   . obtain⟨r,h1,h2,h3⟩:=form7 h;exact⟨r,h1,h2,fun hr=>⟨hk.1,hk.2,by simp[cO,h3 hr]⟩⟩
   . obtain⟨r,h1,h2,h3⟩:=form8 h;exact⟨r,h1,h2,fun hr=>⟨hk.1,hk.2,by simp[cO,h3 hr]⟩⟩
   . obtain⟨r,h1,h2,h3⟩:=form9 h;exact⟨r,h1,h2,fun hr=>⟨hk.1,hk.2,by simp[cO,h3 hr]⟩⟩
 . refine⟨false,?_,?_,fun h=>by cases h⟩
   . have e:∀k:Int,1<=k->k<=9->¬t.Kind=k:=fun k h1 h2 e=>hk (by omega)
     simp[bp,e 1,e 2,e 3,e 4,e 5,e 6,e 7,e 8,e 9]
   . have e:(bif decide (t.Kind < 1)then true else decide (9 < t.Kind))=true:=by grind
     rw[bF,e];rfl
def usesL(t:ae):List Int:=t.Members.map (·.Type_)++(if t.Kind=8 then[t.Key]else[])++(if 7<=t.Kind then[t.Elem]else[])
theorem kF{k n:Nat}(hk:k<=16){m:Nat}(h:m*24<=reachBytes)(hn:n<=m+2):room k n=true:=by
 unfold room bZ aV;unfold reachBytes at h;simp only[Bool.and_eq_true,decide_eq_true_eq];have:(2*n+192)*k<=(2*n+192)*16:=Nat.mul_le_mul_left _ hk;omega
theorem wR(t:ae)(h:t.Members.length*24<=reachBytes):∀(k i:Nat),i+k=t.Members.length->gB (t.Members,(t.Members.length:Int),(i:Int),t,(t.Members.map (·.Type_)).take i)=some (t,t.Members.map (·.Type_))
 | 0,i,hi=>by rw[gB,if_neg (by simp;omega),List.take_of_length_le (by simp;omega)]
 | k+1,i,hi=>by
  have hr:=aT (bN h);have hlt:i < t.Members.length:=by omega
  rw[gB,if_pos (by simp;omega),if_pos (au hlt)];simp only[oZ4,oZ3,aw];rw[<-bM (·.Type_) t.Members i ap 0 hlt,jU _ _ _ (by simpa using hlt),aA (by omega),if_pos (kF (m:=t.Members.length) (by omega) h (by simp;omega))];exact wR t h k (i+1) (by omega)
theorem Ls{t:ae}(h:t.Members.length*24<=reachBytes):ou t=some (usesL t):=by
 have h0:=wR t h t.Members.length 0 (by omega);have h0':gB (t.Members,(t.Members.length:Int),0,t,[])=some (t,t.Members.map (·.Type_)):=h0;rw[ou,h0'];unfold usesL;simp only[oZ4,oZ3];have r1:room 8 (t.Members.map (·.Type_)++[t.Key]).length=true:=kF (m:=t.Members.length) (by omega) h (by simp)
 have r2:room 8 (t.Members.map (·.Type_)++[t.Key]++[t.Elem]).length=true:=kF (m:=t.Members.length) (by omega) h (by simp)
 grind
theorem wT(t:ae)(h:t.Members.length*24<=reachBytes):∀(k i:Nat),i+k=t.Members.length->gn ((i:Int),t,(t.Members.map (·.Type_)).take i)=some (t,t.Members.map (·.Type_))
 | 0,i,hi=>by rw[gn,if_neg (by simp;omega),List.take_of_length_le (by simp;omega)]
 | k+1,i,hi=>by
  have hr:=aT (bN h);have hlt:i < t.Members.length:=by omega
  rw[gn,if_pos (by simp;omega),if_pos (au hlt)];simp only[oZ4,oZ3,aw];rw[<-bM (·.Type_) t.Members i ap 0 hlt,jU _ _ _ (by simpa using hlt),aA (by omega),if_pos (kF (m:=t.Members.length) (by omega) h (by simp;omega))];exact wT t h k (i+1) (by omega)
theorem Lt{t:ae}(h:t.Members.length*24<=reachBytes)(hk:t.Kind<=9):nI t=some (usesL t):=by
 have h0:=wT t h t.Members.length 0 (by omega);have h0':gn (0,t,[])=some (t,t.Members.map (·.Type_)):=h0;rw[nI,h0'];unfold usesL;simp only[oZ4,oZ3];have r1:room 8 (t.Members.map (·.Type_)++[t.Key]).length=true:=kF (m:=t.Members.length) (by omega) h (by simp)
 have r2:room 8 (t.Members.map (·.Type_)++[t.Key]++[t.Elem]).length=true:=kF (m:=t.Members.length) (by omega) h (by simp)
 grind
theorem Lu(k:Int):ct k=some (cO k):=rfl
def keyB(k:Int):Bool:=bif decide (1<=k)then decide (k<=4)else false
def outB(n:Nat)(u:Int):Bool:=bif decide (u < 0)then true else decide ((n:Int)<=u)
def stepV(ts:List ae)(i:Nat):Option Int:=
 let t:=ts.getD i af
 if !((bp t).getD false)then some 1
 else if !(decide (t.Name=[])) && ((ts.map (·.Name)).take i).contains t.Name then some 1
 else if(usesL t).any (outB ts.length)then some 4
 else if decide (t.Kind=8) && !(keyB (ts.getD t.Key.toNat af).Kind)then some 1
 else none
theorem pz {ts : List ae} {i : Nat} {t : ae} {r : Bool} (hT : ts.getD i af = t) (f1 : bp t = some r):
 stepV ts i=if(!r)=true then some 1 else if(!(decide (t.Name=[])) && ((ts.map (·.Name)).take i).contains t.Name)=true then some 1 else if(usesL t).any (outB ts.length)=true then some 4 else if(decide (t.Kind=8) && !(keyB (ts.getD t.Key.toNat af).Kind))=true then some 1 else none:=by
 subst hT;unfold stepV;simp only[f1,Option.getD_some]
theorem yU {γ : Type} (L : Nat -> Option γ) (l : List Int) (q : Int -> Bool) (bad good : γ) (hstep : ∀ i, i < l.length -> L i = if q (l.getD i 0) = true then some bad else L (i + 1)) (hend : L l.length = some good):
 L 0=some (if l.any q=true then bad else good):=by
 have:=scan L l.length (fun i=>!(q (l.getD i 0))) bad good (fun i hi=>by grind) hend;rcases this with⟨h1,h2⟩ | ⟨h1,j,h2,h3⟩
 . rw[h1,if_neg];intro h;rw[List.any_eq_true]at h;obtain⟨x,hx,hq⟩:=h;obtain⟨j,hj,he⟩:=List.getElem_of_mem hx;have:=h2 j hj;rw[bl hj,he,hq]at this;cases this
 . rw[h1,if_pos];rw[List.any_eq_true];refine⟨l.getD j 0,aB h2 0,by simpa using h3⟩
theorem xN{t:ae}(h:t.Members.length*24<=reachBytes):(usesL t).length < 9223372036854775807:=by
 unfold usesL reachBytes at*
 grind
theorem NP {L : Nat -> Option (Int ⊕ Unit)} {L' : Nat -> Option (Int ⊕ Unit)} {n : Nat} {step : Nat -> Option Int}
 (h:∀i,i < n->L i=match step i with | some e=>some (.inl e) | none=>L (i+1)) (he:L n=some (.inr ()))
 (h':∀i,i < n->L' i=match step i with | some e=>some (.inl e) | none=>L' (i+1)) (he':L' n=some (.inr ())):∃o,L 0=some o/\L' 0=some o/\((o= .inr ()/\∀i,i < n->step i=none)\/∃i e,i < n/\step i=some e/\o= .inl e):=by
 have key:∀k i,i+k=n->∃o,L i=some o/\L' i=some o/\((o= .inr ()/\∀m,i<=m->m < n->step m=none)\/∃m e,m < n/\step m=some e/\o= .inl e):=by
  intro k
  induction k with
  | zero => intro i hi; have : i = n := by omega
            subst this;exact⟨_,he,he',.inl ⟨rfl,fun m h1 h2=>by omega⟩⟩
  | succ k ih=>
   intro i hi;rw[h i (by omega),h' i (by omega)];cases hst:step i with
   | some e=>exact⟨_,rfl,rfl,.inr ⟨i,e,by omega,hst,rfl⟩⟩
   | none=>
    obtain⟨o,o1,o2,o3⟩:=ih (i+1) (by omega)
    grind
 obtain⟨o,o1,o2,o3⟩:=key n 0 (by omega);refine⟨o,o1,o2,?_⟩;rcases o3 with⟨a,b⟩ | h
 . exact .inl ⟨a,fun i hi=>b i (Nat.zero_le _) hi⟩
 . exact .inr h
theorem BM{ts:List ae}{t:ae}(hu:(usesL t).any (outB ts.length)=false)(h8:t.Kind=8):inR t.Key ts.length=true:=by
 have hm:t.Key∈usesL t:=by unfold usesL;simp[h8]
 rw[List.any_eq_false]at hu;have:=hu _ hm;unfold outB at this;unfold inR
 grind
theorem NQ (ts : List ae) (t : ae) (i : Nat) (hi : i < ts.length) (hr : ts.length < 9223372036854775807):
 dM ((i:Int),0,ts,t.Kind,t.Name,t.Low,t.High,t.Max,t.Symbols,t.Members,t.Key,t.Elem,t.Open)=some (if(cO t.Kind && ((ts.map (·.Name)).take i).contains t.Name)=true then .inl 1 else .inr ((i:Int),ts,t.Kind,t.Name,t.Low,t.High,t.Max,t.Symbols,t.Members,t.Key,t.Elem,t.Open)):=by
 have hsc:=scan (fun k=>dM ((i:Int),(k:Int),ts,t.Kind,t.Name,t.Low,t.High,t.Max,t.Symbols,t.Members,t.Key,t.Elem,t.Open)) i (fun k=>!(bif cO t.Kind then decide ((ts.getD k af).Name=t.Name)else false)) (.inl 1) (.inr ((i:Int),ts,t.Kind,t.Name,t.Low,t.High,t.Max,t.Symbols,t.Members,t.Key,t.Elem,t.Open))
  (fun k hk=>by
   rw[dM,if_pos (by simp;omega),Lu];simp only[oZ4,oZ3];rw[if_pos (by rw[au (show k < ts.length by omega)];rfl),aA (by omega),aw]
   grind)
  (by rw[dM,if_neg (by simp)])
 have e0:dM ((i:Int),((0:Nat):Int),ts,t.Kind,t.Name,t.Low,t.High,t.Max,t.Symbols,t.Members,t.Key,t.Elem,t.Open)=dM ((i:Int),0,ts,t.Kind,t.Name,t.Low,t.High,t.Max,t.Symbols,t.Members,t.Key,t.Elem,t.Open):=rfl;simp only[e0]at hsc;rcases hsc with⟨h1,h2⟩ | ⟨h1,j,h2,h3⟩
 . rw[h1,if_neg];rw[Bool.and_eq_true,fx (by simp;omega)]
   rintro ⟨hn,k,hk,he⟩
   rw[bM (·.Name) ts k af [] (by omega)]at he;have:=h2 k hk;rw[hn,he]at this;simp at this
 . rw[h1,if_pos];rw[Bool.and_eq_true,fx (by simp;omega)];cases hn:cO t.Kind with
   | false=>rw[hn]at h3;cases h3
   | true=>
    refine⟨rfl,j,h2,?_⟩;rw[bM (·.Name) ts j af [] (by omega)];rw[hn]at h3
    simpa using h3
theorem NR (ts : List ae) (t : ae) (i : Nat) (l : List Int) (hl : l.length < 9223372036854775807):
 gg ((i:Int),l,0,ts,t.Kind,t.Name,t.Low,t.High,t.Max,t.Symbols,t.Members,t.Key,t.Elem,t.Open)=some (if l.any (outB ts.length)=true then .inl 4 else .inr ((i:Int),ts,t.Kind,t.Name,t.Low,t.High,t.Max,t.Symbols,t.Members,t.Key,t.Elem,t.Open)):=
 yU (fun j=>gg ((i:Int),l,(j:Int),ts,t.Kind,t.Name,t.Low,t.High,t.Max,t.Symbols,t.Members,t.Key,t.Elem,t.Open)) l (outB ts.length) (.inl 4) (.inr ((i:Int),ts,t.Kind,t.Name,t.Low,t.High,t.Max,t.Symbols,t.Members,t.Key,t.Elem,t.Open))
  (fun j hj=>by
   rw[gg,if_pos (by simp;omega),if_pos (au hj)];simp only[oZ4,oZ3];rw[if_pos (by rw[au hj];rfl),aA (by omega)]
   rfl)
  (by rw[gg,if_neg (by simp)])
theorem wU{s:av}(hs:s.Types.length<=reachBytes)(ht:∀t,t∈s.Types->OkT t):∃e,iK s=some e/\im s=some e/\(e=0->s.Types.length<=32/\∀i,i < s.Types.length->stepV s.Types i=none)/\((s.Types.length<=32/\∀i,i < s.Types.length->stepV s.Types i=none)->e=0):=by
 rw[iK,im];by_cases h32:32 < s.Types.length
 . exact⟨3,by rw[if_pos (by simp;omega)],by rw[if_pos (by simp;omega)],fun h=>(by cases h),fun h=>absurd h.1 (by omega)⟩
 . rw[if_neg (by simp;omega),if_neg (by simp;omega)];have hr:s.Types.length < 9223372036854775807:=by omega
   have:=NP (L:=fun i=>gx (s.Types,(s.Types.length:Int),(i:Int),s.Types,setOf ((s.Types.map (·.Name)).take i))) (L':=fun i=>eZ ((i:Int),s.Types)) (n:=s.Types.length) (step:=stepV s.Types)
    (fun i hi=>by
     have hok:=ht _ (aB hi af);obtain⟨r,f1,f2,f3⟩:=r7 hok;rw[gx,if_pos (by simp;omega),if_pos (au hi)];simp only[oZ4,oZ3,aw];generalize hT:s.Types.getD i af=t at*;rw[pz hT f1,f1];simp only[oZ3,wN];cases r with
     | false=>rw[if_pos (show(bif (!false)then true else bif (!(decide (t.Name=[])))then((s.Types.map (·.Name)).take i).contains t.Name else false)=true from rfl),if_pos (show(!false)=true from rfl)]
     | true=>
      rw[if_neg (show ¬((!true)=true) by simp)];by_cases hd:(!(decide (t.Name=[])) && ((s.Types.map (·.Name)).take i).contains t.Name)=true
      . grind
      . have hd':¬((bif (!(decide (t.Name=[])))then((s.Types.map (·.Name)).take i).contains t.Name else false)=true):=by grind
        rw[if_neg (show ¬((bif (!true)then true else bif (!(decide (t.Name=[])))then((s.Types.map (·.Name)).take i).contains t.Name else false)=true)from hd'),if_neg hd,Ls hok.mems];simp only[oZ3];have hul:=xN hok.mems
        have hin:=yU (fun j=>fj (s.Types,(s.Types.length:Int),(i:Int),usesL t,((usesL t).length:Int),(j:Int),s.Types,addS (setOf ((s.Types.map (·.Name)).take i)) t.Name,t.Kind,t.Name,t.Low,t.High,t.Max,t.Symbols,t.Members,t.Key,t.Elem,t.Open)) (usesL t) (outB s.Types.length) (.inl 4)
         (.inr (s.Types,(s.Types.length:Int),(i:Int),s.Types,addS (setOf ((s.Types.map (·.Name)).take i)) t.Name,t.Kind,t.Name,t.Low,t.High,t.Max,t.Symbols,t.Members,t.Key,t.Elem,t.Open))
         (fun j hj=>by
          rw[fj,if_pos (by simp;omega),if_pos (au hj),aA (by omega)]
          rfl)
         (by rw[fj,if_neg (by simp)])
        have e0:fj (s.Types,(s.Types.length:Int),(i:Int),usesL t,((usesL t).length:Int),((0:Nat):Int),s.Types,addS (setOf ((s.Types.map (·.Name)).take i)) t.Name,t.Kind,t.Name,t.Low,t.High,t.Max,t.Symbols,t.Members,t.Key,t.Elem,t.Open)=fj (s.Types,(s.Types.length:Int),(i:Int),usesL t,((usesL t).length:Int),0,s.Types,addS (setOf ((s.Types.map (·.Name)).take i)) t.Name,t.Kind,t.Name,t.Low,t.High,t.Max,t.Symbols,t.Members,t.Key,t.Elem,t.Open):=rfl
        rw[<-e0,hin];cases hu:(usesL t).any (outB s.Types.length)with
        | true=>rfl
        | false=>
         simp only[Bool.false_eq_true,if_false,oZ3];have hsucc:addS (setOf ((s.Types.map (·.Name)).take i)) t.Name=setOf ((s.Types.map (·.Name)).take (i+1)):=by
          have h1:=wO (l:=s.Types.map (·.Name)) (i:=i) (by simpa using hi)
          grind
         rw[hsucc,aA (by omega)];by_cases h8:t.Kind=8
         . have hk:=BM hu h8;rw[if_pos (by rw[hk];rfl),if_pos (by rw[hk];rfl)];simp only[h8,decide_true,cond_true,Bool.true_and,keyB]
           grind
         grind)
    (by rw[gx,if_neg (by simp)])
    (fun i hi=>by
     have hok:=ht _ (aB hi af);obtain⟨r,f1,f2,f3⟩:=r7 hok;rw[eZ,if_pos (by simp;omega),if_pos (au hi)];simp only[oZ4,oZ3,aw];generalize hT:s.Types.getD i af=t at*;rw[pz hT f1,f2,NQ s.Types t i hi hr];simp only[oZ3];cases r with
     | false=>rfl
     | true=>
      obtain⟨k1,k2,k3⟩:=f3 rfl;rw[if_neg (show ¬((!true)=true) by simp),if_neg (show ¬((!true)=true) by simp),k3];cases hd:(!(decide (t.Name=[])) && ((s.Types.map (·.Name)).take i).contains t.Name)with
      | true=>rfl
      | false=>
       simp only[Bool.false_eq_true,if_false,pw];rw[Lt hok.mems k2];simp only[oZ3];rw[NR s.Types t i (usesL t) (xN hok.mems)];cases hu:(usesL t).any (outB s.Types.length)with
       | true=>rfl
       | false=>
        simp only[Bool.false_eq_true,if_false,oZ3];rw[aA (by omega)];by_cases h8:t.Kind=8
        . have hk:=BM hu h8;rw[if_pos (by rw[hk];rfl)];simp only[h8,decide_true,if_true,kX,oZ3,cond_true,Bool.true_and];show(if(!(keyB (s.Types.getD t.Key.toNat af).Kind))=true then some (.inl 1)else eZ (((i+1:Nat):Int),s.Types))=_
          grind
        grind)
    (by rw[eZ,if_neg (by simp)])
   obtain⟨o,h1,h2,h3⟩:=this;have h1':gx (s.Types,(s.Types.length:Int),0,s.Types,[])=some o:=h1;have h2':eZ (0,s.Types)=some o:=h2;rw[h1',h2'];rcases h3 with⟨rfl,h4⟩ | ⟨i,e,h4,h5,rfl⟩
   . simp_all
   . refine⟨_,rfl,rfl,fun h0=>?_,fun h=>by have:=h.2 i h4;rw[h5]at this;cases this⟩
     exfalso
     subst h0;unfold stepV at h5
     grind
theorem HI{s:av}(hs:s.Types.length<=reachBytes)(ht:∀t,t∈s.Types->OkT t):∃e,iK s=some e/\im s=some e/\(e=0->s.Types.length<=32/\∀i,i < s.Types.length->stepV s.Types i=none):=by
 obtain⟨e,h1,h2,h3,_⟩:=wU hs ht
 grind
theorem HK{ts:List ae}(hT:∀t,t∈ts->OkT t)(hv:∀i,i < ts.length->stepV ts i=none):∀t,t∈ts->1<=t.Kind/\t.Kind<=9:=by
 intro t ht;obtain⟨i,hi,he⟩:=List.getElem_of_mem ht;have hg:ts.getD i af=t:=by rw[bl hi];exact he
 obtain⟨r,f1,_,f3⟩:=r7 (hT t ht);have h:=hv i hi;rw[pz hg f1]at h
 grind
theorem iS {γ : Type} (L : Nat -> Option γ) (n : Nat) (q : Nat -> Bool) (hit : Nat -> γ) (miss : γ) (hstep : ∀ i, i < n -> L i = if q i = true then some (hit i) else L (i + 1)) (hend : L n = some miss):
 (∃j,j < n/\q j=true/\(∀k,k < j->q k=false)/\L 0=some (hit j))\/((∀k,k < n->q k=false)/\L 0=some miss):=by
 have key:∀k i,i+k=n->(∀m,m < i->q m=false)->L 0=L i->(∃j,j < n/\q j=true/\(∀k,k < j->q k=false)/\L 0=some (hit j))\/((∀k,k < n->q k=false)/\L 0=some miss):=by
  intro k
  induction k with
  | zero => intro i hi hm h0; have : i = n := by omega
            subst this;exact .inr ⟨hm,by rw[h0,hend]⟩
  | succ k ih=>
   intro i hi hm h0;rw[hstep i (by omega)]at h0
   grind
 exact key n 0 (by omega) (fun m hm=>by omega) rfl
def kG(l:List aj)(id:Int)(r:Int×Bool):Prop:=(∃j:Nat,j < l.length/\(l.getD j ap).ID=id/\(∀k,k < j->(l.getD k ap).ID≠id)/\r=((j:Int),true))\/((∀k,k < l.length->(l.getD k ap).ID≠id)/\r=(0,false))
theorem Gw{l:List aj}{id:Int}{r q:Int×Bool}(h1:kG l id r)(h2:kG l id q):r=q:=by
 rcases h1 with⟨j,a1,a2,a3,rfl⟩ | ⟨a1,rfl⟩ <;> rcases h2 with⟨k,b1,b2,b3,rfl⟩ | ⟨b1,rfl⟩
 . grind
 . grind
 . grind
 . rfl
theorem nM{t:ae}{id:Int}(hl:t.Members.length < 9223372036854775807):∃r,bY (t,id)=some r/\kG t.Members id r:=by
 rw[bY,p6];have h:=iS (fun i=>eF (t.Members,(t.Members.length:Int),(i:Int),id)) t.Members.length (fun i=>decide ((t.Members.getD i ap).ID=id)) (fun i=>.inl ((i:Int),id)) (.inr id)
  (fun i hi=>by
   rw[eF,if_pos (by simp;omega),if_pos (au hi)];simp only[oZ4,oZ3,aw,cw,qD]
   rw[aA (by omega)])
  (by rw[eF,if_neg (by simp)])
 have e0:eF (t.Members,(t.Members.length:Int),((0:Nat):Int),id)=eF (t.Members,(t.Members.length:Int),0,id):=rfl;simp only[e0]at h;rcases h with⟨j,h1,h2,h3,h4⟩ | ⟨h1,h4⟩
 . rw[h4];refine⟨((j:Int),true),?_,.inl ⟨j,h1,by simpa using h2,fun k hk=>by simpa using h3 k hk,rfl⟩⟩;have e1:maxI (j:Int) 0=(j:Int):=by unfold maxI;omega
   simp_all
 . rw[h4];exact⟨(0,false),rfl,.inr ⟨fun k hk=>by simpa using h1 k hk,rfl⟩⟩
theorem E9{t:ae}{id:Int}(hl:t.Members.length < 9223372036854775807):∃r,cj (t,id)=some r/\kG t.Members id r:=by
 rw[cj];have h:=iS (fun i=>eY (id,(i:Int),t)) t.Members.length (fun i=>decide ((t.Members.getD i ap).ID=id)) (fun i=>.inl ((i:Int),true)) (.inr ())
  (fun i hi=>by
   rw[eY,if_pos (by simp;omega),if_pos (au hi),aA (by omega)]
   grind)
  (by rw[eY,if_neg (by simp)])
 have e0:eY (id,((0:Nat):Int),t)=eY (id,0,t):=rfl;simp only[e0]at h;rcases h with⟨j,h1,h2,h3,h4⟩ | ⟨h1,h4⟩
 . rw[h4];exact⟨((j:Int),true),rfl,.inl ⟨j,h1,by simpa using h2,fun k hk=>by simpa using h3 k hk,rfl⟩⟩
 . rw[h4];exact⟨(0,false),rfl,.inr ⟨fun k hk=>by simpa using h1 k hk,rfl⟩⟩
theorem cW{t:ae}(id:Int)(hl:t.Members.length < 9223372036854775807):∃r,bY (t,id)=some r/\cj (t,id)=some r/\kG t.Members id r:=by
 obtain⟨r,h1,h2⟩:=nM (id:=id) hl;obtain⟨q,h3,h4⟩:=E9 (id:=id) hl;have:=Gw h2 h4
 grind
def kH(l:List aC)(id:Int)(r:Int×Bool):Prop:=(∃j:Nat,j < l.length/\(l.getD j aR).ID=id/\(∀k,k < j->(l.getD k aR).ID≠id)/\r=((j:Int),true))\/((∀k,k < l.length->(l.getD k aR).ID≠id)/\r=(0,false))
theorem Gx{l:List aC}{id:Int}{r q:Int×Bool}(h1:kH l id r)(h2:kH l id q):r=q:=by
 rcases h1 with⟨j,a1,a2,a3,rfl⟩ | ⟨a1,rfl⟩ <;> rcases h2 with⟨k,b1,b2,b3,rfl⟩ | ⟨b1,rfl⟩
 . grind
 . grind
 . grind
 . rfl
theorem lX{t:ae}(id:Int)(hl:t.Symbols.length < 9223372036854775807):∃r,jE (t,id)=some r/\jo (t,id)=some r/\kH t.Symbols id r:=by
 rw[jE,p5,jo];have h:=iS (fun i=>dG (t.Symbols,(t.Symbols.length:Int),(i:Int),id)) t.Symbols.length (fun i=>decide ((t.Symbols.getD i aR).ID=id)) (fun i=>.inl ((i:Int),id)) (.inr id)
  (fun i hi=>by
   rw[dG,if_pos (by simp;omega),if_pos (au hi)];simp only[oZ4,oZ3,aw,qB]
   rw[aA (by omega)])
  (by rw[dG,if_neg (by simp)])
 have e0:dG (t.Symbols,(t.Symbols.length:Int),((0:Nat):Int),id)=dG (t.Symbols,(t.Symbols.length:Int),0,id):=rfl;have g:=iS (fun i=>dP (id,(i:Int),t)) t.Symbols.length (fun i=>decide ((t.Symbols.getD i aR).ID=id)) (fun i=>.inl ((i:Int),true)) (.inr ())
  (fun i hi=>by
   rw[dP,if_pos (by simp;omega),if_pos (au hi),aA (by omega)]
   grind)
  (by rw[dP,if_neg (by simp)])
 have g0:dP (id,((0:Nat):Int),t)=dP (id,0,t):=rfl;simp only[e0]at h;simp only[g0]at g;have hA:∃r,(dG (t.Symbols,(t.Symbols.length:Int),0,id) >>=fun o=>match o with | .inl o_1=>some (o_1.1,o_1.2) | .inr o_2=>some ((-1),o_2)) >>=(fun r=>some (maxI r.1 0,decide (0<=r.1)))=some r/\kH t.Symbols id r:=by
  rcases h with⟨j,h1,h2,h3,h4⟩ | ⟨h1,h4⟩
  . rw[h4];refine⟨((j:Int),true),?_,.inl ⟨j,h1,by simpa using h2,fun k hk=>by simpa using h3 k hk,rfl⟩⟩;have e1:maxI (j:Int) 0=(j:Int):=by unfold maxI;omega
    simp_all
  . rw[h4];exact⟨(0,false),rfl,.inr ⟨fun k hk=>by simpa using h1 k hk,rfl⟩⟩
 have hB:∃r,(dP (id,0,t) >>=fun o=>match o with | .inl o_1=>some (o_1.1,o_1.2) | .inr o_2=>some (0,false))=some r/\kH t.Symbols id r:=by
  rcases g with⟨j,h1,h2,h3,h4⟩ | ⟨h1,h4⟩
  . rw[h4];exact⟨((j:Int),true),rfl,.inl ⟨j,h1,by simpa using h2,fun k hk=>by simpa using h3 k hk,rfl⟩⟩
  . rw[h4];exact⟨(0,false),rfl,.inr ⟨fun k hk=>by simpa using h1 k hk,rfl⟩⟩
 obtain⟨r,a1,a2⟩:=hA;obtain⟨q,b1,b2⟩:=hB;have:=Gx a2 b2
 grind
def zig(n:Int):Int:=if 0<=n then 2*n else -2*n - 1
theorem sW{a b:Int}(h:zig a=zig b):a=b:=by
 unfold zig at h;split at h <;> split at h <;> omega
def I64(n:Int):Prop:= -9223372036854775808<=n/\n<=9223372036854775807
theorem fV{n:Int}(h:I64 n):jp n=some (zig n):=by
 obtain⟨h1,h2⟩:=h;rw[jp];unfold zig;by_cases h0:0<=n
 . rw[if_pos (by simp[h0]),if_pos h0];obtain⟨k,rfl⟩:∃k:Nat,n=(k:Int):=⟨n.toNat,by omega⟩
   rw[wrpn (by omega)];have:=mulIn (a:=2) (b:=k) (by omega)
   grind
 . rw[if_neg (by simp[h0]),if_neg h0];rw[gV (by omega) (by omega),bP (by omega) (by omega)];obtain⟨k,hk⟩:∃k:Nat,0 - (n+1)=(k:Int):=⟨(0 - (n+1)).toNat,by omega⟩
   rw[hk,wrpn (by omega)];have h3:=mulIn (a:=2) (b:=k) (by omega);have h3':mulI .u64 2 (k:Int)=((2*k:Nat):Int):=h3;rw[h3'];have h4:=addIn (a:=2*k) (b:=1) (by omega)
   grind
theorem KD(a:Nat)(h:a < 18446744073709551616):xorI .u64 (a:Int) 0=(a:Int):=by
 have e:(BitVec.ofInt 64 (a:Int) ^^^ BitVec.ofInt 64 (0:Int)).toNat=a:=by grind
 show IntKind.u64.wrap (((BitVec.ofInt 64 (a:Int) ^^^ BitVec.ofInt 64 (0:Int)).toNat:Nat):Int)=_;rw[e];exact wrapu (by omega) (by omega)
theorem KE(a:Nat)(h:a < 18446744073709551616):xorI .u64 (a:Int) 18446744073709551615=((18446744073709551615 - a:Nat):Int):=by
 have e:(BitVec.ofInt 64 (a:Int) ^^^ BitVec.ofInt 64 (18446744073709551615:Int)).toNat=18446744073709551615 - a:=by
  have h1:BitVec.ofInt 64 (18446744073709551615:Int)=BitVec.allOnes 64:=by decide
  rw[h1,BitVec.ofInt_natCast,BitVec.xor_allOnes,BitVec.toNat_not,BitVec.toNat_ofNat,two64,Nat.mod_eq_of_lt h]
 all_goals (try omega)
 show IntKind.u64.wrap (((BitVec.ofInt 64 (a:Int) ^^^ BitVec.ofInt 64 (18446744073709551615:Int)).toNat:Nat):Int)=_;rw[e];exact wrapu (by omega) (by omega)
theorem shr63{n:Int}(h:I64 n):shrI .i64 n 63=if 0<=n then 0 else -1:=by
 obtain⟨h1,h2⟩:=h;unfold shrI;have e:((2:Int) ^ min (63:Int).toNat IntKind.i64.bits)=9223372036854775808:=by decide
 grind
theorem nk{n:Int}(h:I64 n):jF n=some (zig n):=by
 rw[jF,shr63 h];obtain⟨h1,h2⟩:=h;unfold zig;have hs:∀m:Int,shlI .u64 m 1=IntKind.u64.wrap (m*2):=by
  intro m;unfold shlI;rfl
 rw[hs]
 congr 1
 by_cases h0:0<=n
 . rw[if_pos h0,if_pos h0];obtain⟨k,rfl⟩:∃k:Nat,n=(k:Int):=⟨n.toNat,by omega⟩
   rw[wrpn (by omega),wrapu (by omega) (by omega)];have:wrp .u64 0=0:=by decide
   rw[this];have:=KD (2*k) (by omega)
   grind
 . rw[if_neg h0,if_neg h0];have:wrp .u64 (-1)=18446744073709551615:=by decide
   rw[this];obtain⟨k,hk⟩:∃k:Nat,n+9223372036854775808=(k:Int):=⟨(n+9223372036854775808).toNat,by omega⟩
   have e:IntKind.u64.wrap (wrp .u64 n*2)=((2*k:Nat):Int):=by
    unfold wrp;rw[IntKind.wrap_u64,IntKind.wrap_u64];omega
   rw[e,KE _ (by omega)];omega
theorem cmp1(a b:Int):ov (a,b)=some (if a < b then -1 else if b < a then 1 else 0):=by
 rw[ov];simp only[oY,oZ4,oZ3,decide_true,Bool.not_true,Bool.false_eq_true,if_false]
 grind
theorem cmp2(a b:Int):lL (a,b)=some (if a < b then -1 else if b < a then 1 else 0):=by
 rw[lL];simp only[ow,oZ4,oZ3,decide_true,Bool.not_true,Bool.false_eq_true,if_false]
 grind
theorem cmp3(a b:List UInt8):nR (a,b)=some (if Op.bytesLess a b=true then -1 else if(Op.bytesLess a b || decide (a=b))=true then 0 else 1):=by
 rw[nR];simp only[ox,oZ4,oZ3,decide_true,Bool.not_true,Bool.false_eq_true,if_false]
 grind
theorem or2(a b:Int):pV [a,b]=some (if a≠0 then a else b):=by
 rw[pV];have h0:gK (0,[a,b],((2:Nat):Int),((0:Nat):Int))=if a≠0 then some (.inl a)else(if b≠0 then some (.inl b)else some (.inr 0)):=by
  rw[gK,if_pos (by decide),if_pos (show inR ((0:Nat):Int) ([a,b]:List Int).length=true from au (k:=0) (n:=2) (by omega))];simp only[oZ4,oZ3,aw,List.getD_cons_zero];by_cases ha:a=0
  . rw[if_neg (by simp[ha]),if_neg (by simp[ha])];have e1:addI .i64 ((0:Nat):Int) 1=((1:Nat):Int):=aA (by omega);rw[e1,gK,if_pos (by decide),if_pos (show inR ((1:Nat):Int) ([a,b]:List Int).length=true from au (k:=1) (n:=2) (by omega))];simp only[oZ4,oZ3,aw,List.getD_cons_succ,List.getD_cons_zero];by_cases hb:b=0
    . rw[if_neg (by simp[hb]),if_neg (by simp[hb])];have e2:addI .i64 ((1:Nat):Int) 1=((2:Nat):Int):=aA (by omega);rw[e2,gK,if_neg (by decide)]
    grind
  grind
 grind
theorem uO :∀a:List UInt8,Op.bytesLess a a=false
 | []=>rfl
 | x::r=>by
  simp[Op.bytesLess,uO r]
theorem od{a b:ab}(ha:I64 a.Int_)(hb:I64 b.Int_):∃r,dS (a,b)=some r/\gp (a,b)=some r:=by
 rw[dS,gp];by_cases hk:a.Kind=b.Kind
 . rw[if_neg (show ¬((!(decide (a.Kind=b.Kind)))=true) by simp[hk]),if_neg (show ¬((!(decide (a.Kind=b.Kind)))=true) by simp[hk])];by_cases k1:a.Kind=1
   . rw[if_pos (show decide (a.Kind=1)=true by simp[k1]),if_pos (show decide (a.Kind=1)=true by simp[k1])];simp only[ce];cases eqB a.Bool_ b.Bool_ <;> cases b.Bool_ <;> exact⟨_,rfl,rfl⟩
   . rw[if_neg (show ¬(decide (a.Kind=1)=true) by simp[k1]),if_neg (show ¬(decide (a.Kind=1)=true) by simp[k1])];by_cases k2:a.Kind=2
     . rw[if_pos (show decide (a.Kind=2)=true by simp[k2]),if_pos (show decide (a.Kind=2)=true by simp[k2]),nk ha,nk hb,fV ha,fV hb];simp only[oZ4,oZ3,cmp1,ce];by_cases he:a.Int_=b.Int_
       . grind
       . have hne:zig a.Int_≠zig b.Int_:=fun h=>he (sW h)
         grind
     . rw[if_neg (show ¬(decide (a.Kind=2)=true) by simp[k2]),if_neg (show ¬(decide (a.Kind=2)=true) by simp[k2])];by_cases k3:a.Kind=3
       . rw[if_pos (show decide (a.Kind=3)=true by simp[k3]),if_pos (show decide (a.Kind=3)=true by simp[k3])];simp only[oZ4,oZ3,cmp2,cmp3,or2,ce];by_cases hl:a.Str.length=b.Str.length
         . have hq:¬((!(decide ((a.Str.length:Int)=(b.Str.length:Int))))=true):=by simp;omega
           rw[if_neg hq,hl];have e1:¬((b.Str.length:Int) < (b.Str.length:Int)):=by omega
           simp only[e1,if_false,ne_eq,not_true_eq_false];by_cases he:a.Str=b.Str
           . rw[he,uO]
             grind
           grind
         grind
       . rw[if_neg (show ¬(decide (a.Kind=3)=true) by simp[k3]),if_neg (show ¬(decide (a.Kind=3)=true) by simp[k3])];by_cases k4:a.Kind=4
         . rw[if_pos (show decide (a.Kind=4)=true by simp[k4]),if_pos (show decide (a.Kind=4)=true by simp[k4])];simp only[oZ4,oZ3,cmp2,ce]
           grind
         simp_all
 simp_all
def Both(o1 o2:Option Bool):Prop:=∃r,o1=some r/\o2=some r
theorem r8 {γ δ : Type} (L : Nat -> Option (Bool ⊕ γ)) (L' : Nat -> Option (Bool ⊕ δ)) (n : Nat) (p : Nat -> Bool) (g : γ) (g' : δ)
 (h:∀i,i < n->L i=if p i=true then L (i+1)else some (.inl false)) (he:L n=some (.inr g))
 (h':∀i,i < n->L' i=if p i=true then L' (i+1)else some (.inl false)) (he':L' n=some (.inr g')):
 (L 0=some (.inr g)/\L' 0=some (.inr g')/\∀j,j < n->p j=true)\/(L 0=some (.inl false)/\L' 0=some (.inl false)/\∃j,j < n/\p j=false):=by
 rcases scan L n p (.inl false) (.inr g) h he with⟨a1,a2⟩ | ⟨a1,j,a2,a3⟩ <;> rcases scan L' n p (.inl false) (.inr g') h' he' with⟨b1,b2⟩ | ⟨b1,k,b2,b3⟩
 . exact .inl ⟨a1,b1,a2⟩
 . have:=a2 k b2;rw[b3]at this;cases this
 . have:=b2 j a2;rw[a3]at this;cases this
 . exact .inr ⟨a1,b1,j,a2,a3⟩
def dF(k:Int):Prop:=1<=k/\k<=9
theorem Gy{v:ab}(hk:dF v.Kind):∃p,n0 v=some p/\ju v=some p/\(p=true->v.Kind≠5->v.Kind≠6->v.Rest=[]):=by
 obtain⟨K,B,I,S,ID,Ks,Is,R⟩:=v;simp only at hk;rw[n0,ab.aD,ju];have:K=1\/K=2\/K=3\/K=4\/K=5\/K=6\/K=7\/K=8\/K=9:=by unfold dF at hk;omega
 have eI:∀(x:Int),decide (x=x)=true:=fun x=>by simp
 rcases this with rfl | rfl | rfl | rfl | rfl | rfl | rfl | rfl | rfl
 all_goals
  refine⟨_,rfl,?_,?_⟩
  . simp[oH,eqB]
    try (cases B <;> simp)
  . simp[oH,eqB]
section
variable {ts:List ae} (hn:ts.length < 9223372036854775807) (hT:∀t,t∈ts->OkT t) (hK:∀t,t∈ts->dF t.Kind)
def Fit(ts:List ae)(x:ab):Prop:=∀t plain,Both (cv ((⟨ts⟩:av),t,x,plain)) (ck ((⟨ts⟩:av),t,x,plain))
theorem xO {l : List ab} (hl : l.length <= reachBytes) (ih : ∀ x, x ∈ l -> Fit ts x) (t : Int) (plain : Bool):
 Both (gH ((⟨ts⟩:av),t,l,plain)) (gy ((⟨ts⟩:av),t,l,plain)):=by
 have hr:=aT hl
 let p:Nat->Bool:=fun i=>(cv ((⟨ts⟩:av),t,l.getD i ag,plain)).getD false
 have hp:∀i,i < l.length->cv ((⟨ts⟩:av),t,l.getD i ag,plain)=some (p i)/\ck ((⟨ts⟩:av),t,l.getD i ag,plain)=some (p i):=by
  intro i hi;obtain⟨r,h1,h2⟩:=ih _ (aB hi ag) t plain
  grind
 have hf:=iS (fun i=>fY (l,(l.length:Int),(i:Int),ts,t,plain)) l.length (fun i=>!(p i)) (fun i=>.inl ((i:Int),ts,t,plain)) (.inr (ts,t,plain))
  (fun i hi=>by
   rw[fY,if_pos (by simp;omega),if_pos (au hi),qY];simp only[ab.aD,aw];rw[(hp i hi).1,aA (by omega)]
   rfl)
  (by rw[fY,if_neg (by simp)])
 have hs:=scan (fun i=>cS (t,l,plain,(i:Int),ts)) l.length p (.inl false) (.inr ())
  (fun i hi=>by
   rw[cS,if_pos (by simp;omega),if_pos (au hi)];simp only[ab.aD,aw];rw[(hp i hi).2,aA (by omega)]
   grind)
  (by rw[cS,if_neg (by simp)])
 have e1:fY (l,(l.length:Int),((0:Nat):Int),ts,t,plain)=fY (l,(l.length:Int),0,ts,t,plain):=rfl;have e2:cS (t,l,plain,((0:Nat):Int),ts)=cS (t,l,plain,0,ts):=rfl;simp only[e1]at hf;simp only[e2]at hs;rw[gH,nr,p7,gy];rcases hf with⟨j,a1,a2,a3,a4⟩ | ⟨a1,a4⟩ <;> rcases hs with⟨b1,b2⟩ | ⟨b1,k,b2,b3⟩
 . have:=b2 j a1;simp[this]at a2
 . rw[a4,b1];refine⟨false,?_,rfl⟩;have e:decide ((0:Int)<=(j:Int))=true:=by simp
   simp only[oZ4,oZ3,e,Bool.not_true]
 . rw[a4,b1];exact⟨true,rfl,rfl⟩
 . have:=a1 k b2;simp[b3]at this
def restP(t:ae)(l:List aH)(i:Nat):Bool:=
 !((bY (t,(l.getD i az).ID)).getD (0,false)).2 && (decide (1<=(l.getD i az).ID) && decide ((l.getD i az).ID<=1000)) && (decide (i=0) || decide ((l.getD (i - 1) az).ID < (l.getD i az).ID))
theorem KF {γ : Type} (kn f Z : Bool) (sI : Int) (I1 C : Int -> Bool) (X Y : Option γ) (hI1 : Z = true -> I1 sI = true):
 ((if(!kn)=true then some f else some false) >>=fun r_17=>some (bif kn then true else(!r_17)) >>=fun t131=>some Z >>=fun t134=>some sI >>=fun t141=>
  if(I1 t141 || (!((!t131) && t134)))=true then if(bif t131 then true else bif t134 then C t141 else false)=true then X else Y else none)=if(!kn && f && (!Z || !(C sI)))=true then Y else X:=by
 simp only[oZ4,oZ3];generalize C sI=c;cases Z with
 | true=>rw[hI1 rfl];cases kn <;> cases f <;> cases c <;> rfl
 | false=>generalize I1 sI=d;cases kn <;> cases f <;> cases d <;> cases c <;> rfl
theorem vW {γ : Type} (R3 I0 Z : Bool) (sI : Int) (I1 C : Int -> Bool) (X Y : Option γ) (hI0 : I0 = true) (hI1 : Z = true -> I1 sI = true):
 (some R3 >>=fun r_3=>some (!r_3) >>=fun t31=>some Z >>=fun t34=>
  if(I0 || (!((!t31) && t34)))=true then some sI >>=fun t43=>if(I1 t43 || (!((!t31) && t34)))=true then if(bif t31 then true else bif t34 then C t43 else false)=true then X else Y else none else none)=if(R3 && (!Z || !(C sI)))=true then Y else X:=by
 subst hI0;simp only[oZ4,oZ3];generalize C sI=c;cases Z with
 | true=>rw[hI1 rfl];cases R3 <;> cases c <;> rfl
 | false=>generalize I1 sI=d;cases R3 <;> cases d <;> cases c <;> rfl
theorem gM{i:Nat}(h:0 < i)(h2:i < 9223372036854775807):subI .i64 (i:Int) 1=((i - 1:Nat):Int):=by
 rw[bP (by omega) (by omega)];omega
theorem rests {t : ae} (ht : t.Members.length < 9223372036854775807) (v : ab) (hl : v.Rest.length <= reachBytes) (plain : Bool) (ts : List ae):
 let inr:=(plain,ts,v.Kind,v.Bool_,v.Int_,v.Str,v.ID,v.Keys,v.Items,v.Rest,t.Kind,t.Name,t.Low,t.High,t.Max,t.Symbols,t.Members,t.Key,t.Elem,t.Open)
 ((cU (plain,v.Rest,(v.Rest.length:Int),0,ts,v,t.Kind,t.Name,t.Low,t.High,t.Max,t.Symbols,t.Members,t.Key,t.Elem,t.Open)=some (.inr inr)/\ir (t,v.Rest)=some true)\/
  (cU (plain,v.Rest,(v.Rest.length:Int),0,ts,v,t.Kind,t.Name,t.Low,t.High,t.Max,t.Symbols,t.Members,t.Key,t.Elem,t.Open)=some (.inl false)/\ir (t,v.Rest)=some false)):=by
 intro inr;have hr:=aT hl;have hpe:∀i,i < v.Rest.length->∀r,bY (t,(v.Rest.getD i az).ID)=some r->restP t v.Rest i=(!r.2 && (bif decide (1<=(v.Rest.getD i az).ID)then decide ((v.Rest.getD i az).ID<=1000)else false) && (!(decide ((0:Int) < (i:Int))) || !(decide ((v.Rest.getD i az).ID<=(v.Rest.getD (subI .i64 (i:Int) 1).toNat az).ID)))):=by
  intro i hi r hm;unfold restP;rw[hm,Option.getD_some];generalize (v.Rest.getD i az).ID=x;by_cases h0:i=0
  . grind
  . have hz:decide ((0:Int) < (i:Int))=true:=by simp;omega
    rw[hz,gM (by omega) (by omega),aw]
    grind
 have h:=r8 (fun i=>cU (plain,v.Rest,(v.Rest.length:Int),(i:Int),ts,v,t.Kind,t.Name,t.Low,t.High,t.Max,t.Symbols,t.Members,t.Key,t.Elem,t.Open)) (fun i=>cQ (v.Rest,(i:Int),t)) v.Rest.length (restP t v.Rest) inr ()
  (fun i hi=>by
   obtain⟨r,h1,_,_⟩:=cW (t:=t) (v.Rest.getD i az).ID ht;rw[cU,if_pos (by simp;omega),if_pos (au hi),hpe i hi r h1];simp only[aw,pw,ab.aD,ma,oZ4,oZ3];rw[h1,aA (by omega)]
   exact KF r.2 (bif decide (1<=(v.Rest.getD i az).ID)then decide ((v.Rest.getD i az).ID<=1000)else false) (decide ((0:Int) < (i:Int))) (subI .i64 (i:Int) 1) (fun j=>inR j v.Rest.length) (fun j=>decide ((v.Rest.getD i az).ID<=(v.Rest.getD j.toNat az).ID)) _ _ (fun hz=>by
    have:0 < i:=by simp at hz;omega
    show inR _ _=true
    rw[gM this (by omega)];exact au (by omega)))
  (by rw[cU,if_neg (by simp)])
  (fun i hi=>by
   obtain⟨r,h1,h2,_⟩:=cW (t:=t) (v.Rest.getD i az).ID ht;rw[cQ,if_pos (by simp;omega),if_pos (au hi),hpe i hi r h1];simp only[aw];rw[h2,aA (by omega)];have hid:cn ((v.Rest.getD i az).ID,r.2)=some ((!r.2) && (bif decide (1<=(v.Rest.getD i az).ID)then decide ((v.Rest.getD i az).ID<=1000)else false)):=by
    rw[cn]
    grind
   show(if inR (i:Int) v.Rest.length=true then cn ((v.Rest.getD i az).ID,r.2) >>=_ else none)=_;rw[if_pos (au hi),hid]
   exact vW ((!r.2) && (bif decide (1<=(v.Rest.getD i az).ID)then decide ((v.Rest.getD i az).ID<=1000)else false)) (inR (i:Int) v.Rest.length) (decide ((0:Int) < (i:Int))) (subI .i64 (i:Int) 1) (fun j=>inR j v.Rest.length) (fun j=>decide ((v.Rest.getD i az).ID<=(v.Rest.getD j.toNat az).ID)) _ _ (au hi) (fun hz=>by
    have:0 < i:=by simp at hz;omega
    show inR _ _=true
    rw[gM this (by omega)];exact au (by omega)))
  (by rw[cQ,if_neg (by simp)])
 have e1:cU (plain,v.Rest,(v.Rest.length:Int),((0:Nat):Int),ts,v,t.Kind,t.Name,t.Low,t.High,t.Max,t.Symbols,t.Members,t.Key,t.Elem,t.Open)=cU (plain,v.Rest,(v.Rest.length:Int),0,ts,v,t.Kind,t.Name,t.Low,t.High,t.Max,t.Symbols,t.Members,t.Key,t.Elem,t.Open):=rfl;have e2:cQ (v.Rest,((0:Nat):Int),t)=cQ (v.Rest,0,t):=rfl
 simp only[e1,e2]at h;rw[ir];rcases h with⟨h1,h2,_⟩ | ⟨h1,h2,_⟩
 . exact .inl ⟨h1,by rw[h2];rfl⟩
 . exact .inr ⟨h1,by rw[h2];rfl⟩
end
theorem HL {ts : List ae} {t : ae} {v : ab} (hl : v.Items.length = t.Members.length) (hr : t.Members.length < 9223372036854775807) (ih : ∀ x, x ∈ v.Items -> Fit ts x) (plain : Bool):
 (du (plain,t.Members,(t.Members.length:Int),0,ts,v.Kind,v.Bool_,v.Int_,v.Str,v.ID,v.Keys,v.Items,v.Rest)=some (.inr ())/\cd (plain,0,ts,v,t.Kind,t.Name,t.Low,t.High,t.Max,t.Symbols,t.Members,t.Key,t.Elem,t.Open)=some (.inr ()))\/
 (du (plain,t.Members,(t.Members.length:Int),0,ts,v.Kind,v.Bool_,v.Int_,v.Str,v.ID,v.Keys,v.Items,v.Rest)=some (.inl false)/\cd (plain,0,ts,v,t.Kind,t.Name,t.Low,t.High,t.Max,t.Symbols,t.Members,t.Key,t.Elem,t.Open)=some (.inl false)):=by
 let p:Nat->Bool:=fun i=>(cv ((⟨ts⟩:av),(t.Members.getD i ap).Type_,v.Items.getD i ag,plain)).getD false
 have hp:∀i,i < t.Members.length->cv ((⟨ts⟩:av),(t.Members.getD i ap).Type_,v.Items.getD i ag,plain)=some (p i)/\ck ((⟨ts⟩:av),(t.Members.getD i ap).Type_,v.Items.getD i ag,plain)=some (p i):=by
  intro i hi;obtain⟨r,h1,h2⟩:=ih _ (aB (by omega:i < v.Items.length) ag) (t.Members.getD i ap).Type_ plain
  grind
 have h:=r8 (fun i=>du (plain,t.Members,(t.Members.length:Int),(i:Int),ts,v.Kind,v.Bool_,v.Int_,v.Str,v.ID,v.Keys,v.Items,v.Rest)) (fun i=>cd (plain,(i:Int),ts,v,t.Kind,t.Name,t.Low,t.High,t.Max,t.Symbols,t.Members,t.Key,t.Elem,t.Open)) t.Members.length p () ()
  (fun i hi=>by
   rw[du,if_pos (by simp;omega),if_pos (au hi),if_pos (au (by omega))];simp only[aw,ab.aD];rw[(hp i hi).1,aA (by omega)]
   grind)
  (by rw[du,if_neg (by simp)])
  (fun i hi=>by
   rw[cd,if_pos (by simp;omega),if_pos (au hi),if_pos (au (by omega))];simp only[aw,ab.aD];rw[(hp i hi).2,aA (by omega)]
   grind)
  (by rw[cd,if_neg (by simp;omega)])
 have e1:du (plain,t.Members,(t.Members.length:Int),((0:Nat):Int),ts,v.Kind,v.Bool_,v.Int_,v.Str,v.ID,v.Keys,v.Items,v.Rest)=du (plain,t.Members,(t.Members.length:Int),0,ts,v.Kind,v.Bool_,v.Int_,v.Str,v.ID,v.Keys,v.Items,v.Rest):=rfl
 have e2:cd (plain,((0:Nat):Int),ts,v,t.Kind,t.Name,t.Low,t.High,t.Max,t.Symbols,t.Members,t.Key,t.Elem,t.Open)=cd (plain,0,ts,v,t.Kind,t.Name,t.Low,t.High,t.Max,t.Symbols,t.Members,t.Key,t.Elem,t.Open):=rfl;simp only[e1,e2]at h;rcases h with⟨h1,h2,_⟩ | ⟨h1,h2,_⟩
 . exact .inl ⟨h1,h2⟩
 . exact .inr ⟨h1,h2⟩
theorem pL{v:ab}(h:OkV v):I64 v.Int_:=by cases h with | mk _ _ _ _ _ _ _ _ n1 n2=>exact n2
theorem IF {ts : List ae} {t : ae} {v : ab} (hr : v.Keys.length < 9223372036854775807) (hk : ∀ x, x ∈ v.Keys -> OkV x) (plain : Bool):
 let inr:=(plain,ts,v,t.Kind,t.Name,t.Low,t.High,t.Max,t.Symbols,t.Members,t.Key,t.Elem,t.Open)
 (cF (plain,1,ts,v,t.Kind,t.Name,t.Low,t.High,t.Max,t.Symbols,t.Members,t.Key,t.Elem,t.Open)=some (.inr inr)/\bS (1,v)=some (.inr ()))\/
 (cF (plain,1,ts,v,t.Kind,t.Name,t.Low,t.High,t.Max,t.Symbols,t.Members,t.Key,t.Elem,t.Open)=some (.inl false)/\bS (1,v)=some (.inl false)):=by
 intro inr;by_cases h0:v.Keys.length=0
 . left;refine⟨?_,?_⟩
   . rw[cF,if_neg (by simp[h0]),ab.aD]
   . rw[bS,if_neg (by simp[h0])]
 let c:Nat->Int:=fun i=>(dS (v.Keys.getD i ag,v.Keys.getD (i+1) ag)).getD 0
 have hc:∀i,i+1 < v.Keys.length->dS (v.Keys.getD i ag,v.Keys.getD (i+1) ag)=some (c i)/\gp (v.Keys.getD i ag,v.Keys.getD (i+1) ag)=some (c i):=by
  intro i hi;obtain⟨r,h1,h2⟩:=od (pL (hk _ (aB (by omega:i < v.Keys.length) ag))) (pL (hk _ (aB hi ag)))
  grind
 have h:=r8 (fun i=>cF (plain,((i+1:Nat):Int),ts,v,t.Kind,t.Name,t.Low,t.High,t.Max,t.Symbols,t.Members,t.Key,t.Elem,t.Open)) (fun i=>bS (((i+1:Nat):Int),v)) (v.Keys.length - 1) (fun i=>!(decide (0<=c i))) inr ()
  (fun i hi=>by
   have hs:=gM (i:=i+1) (by omega) (by omega);have hs':subI .i64 ((i+1:Nat):Int) 1=(i:Int):=by rw[hs];simp
   rw[cF,if_pos (by simp;omega)];simp only[oZ4,oZ3];rw[hs',if_pos (au (by omega)),if_pos (au (by omega))];simp only[aw,ab.aD];rw[(hc i (by omega)).1,aA (by omega)]
   grind)
  (by
   have e:v.Keys.length - 1+1=v.Keys.length:=by omega
   rw[e,cF,if_neg (by simp),ab.aD])
  (fun i hi=>by
   have hs:=gM (i:=i+1) (by omega) (by omega);have hs':subI .i64 ((i+1:Nat):Int) 1=(i:Int):=by rw[hs];simp
   rw[bS,if_pos (by simp;omega)];simp only[oZ4,oZ3];rw[hs',if_pos (au (by omega)),if_pos (au (by omega))];simp only[aw,ab.aD];rw[(hc i (by omega)).2,aA (by omega)]
   grind)
  (by
   have e:v.Keys.length - 1+1=v.Keys.length:=by omega
   rw[e,bS,if_neg (by simp)])
 have e1:cF (plain,((0+1:Nat):Int),ts,v,t.Kind,t.Name,t.Low,t.High,t.Max,t.Symbols,t.Members,t.Key,t.Elem,t.Open)=cF (plain,1,ts,v,t.Kind,t.Name,t.Low,t.High,t.Max,t.Symbols,t.Members,t.Key,t.Elem,t.Open):=rfl;have e2:bS (((0+1:Nat):Int),v)=bS (1,v):=rfl;simp only[e1,e2]at h;rcases h with⟨h1,h2,_⟩ | ⟨h1,h2,_⟩
 . exact .inl ⟨h1,h2⟩
 . exact .inr ⟨h1,h2⟩
theorem wV{α β:Type}{a:List α}{b:List β}(h:decide ((a.length:Int)=(b.length:Int))=true):a.length=b.length:=by grind
theorem k4e {o : Option (Int×Bool)} {r : Int×Bool} (ho : o = some r) (O plain f : Bool):
 (o >>=fun r_1=>some (bif O then(!plain)else false) >>=fun t85=>(if((!r_1.2) && t85)=true then some f else some false) >>=fun r_4=>some (bif r_1.2 then true else bif t85 then r_4 else false))=some (r.2 || (O && !plain && f)):=by
 subst ho;obtain⟨k,kn⟩:=r;cases kn <;> cases O <;> cases plain <;> cases f <;> rfl
theorem k4r {o : Option (Int×Bool)} {r : Int×Bool} (ho : o = some r) (O plain f : Bool) (F : Bool -> Option Bool) (hF : F false = some f):
 (o >>=fun r_1=>some (bif O then(!plain)else false) >>=fun t85=>(if((!r_1.2) && t85)=true then F r_1.2 else some false) >>=fun r_4=>some (bif r_1.2 then true else bif t85 then r_4 else false))=some (r.2 || (O && !plain && f)):=by
 subst ho;obtain⟨k,kn⟩:=r;cases kn <;> cases O <;> cases plain <;> simp[hF]
theorem k7{o:Option Bool}{r:Bool}(ho:o=some r)(q:Bool):(some q >>=fun t244=>(if t244=true then o else some false) >>=fun r_10=>some (bif t244 then r_10 else false))=some (q && r):=by grind
theorem k6k(c I1 I2 f:Bool){X:Option Bool}(hX:c=true->X=some f)(h1:c=true->I1=true/\I2=true):(some c >>=fun t188=>if(I1 || (!t188))=true then if(I2 || (!t188))=true then(if t188=true then X else some false) >>=fun r_8=>some (bif t188 then r_8 else false)else none else none)=some (c && f):=by grind
theorem k5r (A b q m : Bool) {ro : Option Bool} (hr : ro = some q) {L : Option (Bool ⊕ Unit)} (hL : A = true -> L = some (if m = true then .inr () else .inl false)):
 (if(bif (bif false then true else(!true))then true else b)=true then some false else some (!A) >>=fun t107=>(if(!t107)=true then ro else some false) >>=fun r_5=>if(bif t107 then true else(!r_5))=true then some false else L >>=fun o=>match o with | .inl x=>some x | .inr _=>some true)=some (A && !b && q && m):=by
 subst hr;cases A with
 | false=>cases b <;> rfl
 | true=>
  rw[hL rfl];cases b <;> cases q <;> cases m <;> rfl
theorem k6u(g f c1 c2 I E:Bool)(h1:c2=true->I=true):(some g >>=fun t209=>(if t209=true then some f else some false) >>=fun r_9=>some (bif bif bif t209 then r_9 else false then c1 else false then c2 else false) >>=fun t226=>if(I || (!t226))=true then some (bif t226 then E else false)else none)=some (g && f && c1 && c2 && E):=by grind
theorem k8r (c : Bool) {ok oi : Option Bool} {k i : Bool} (hk : ok = some k) (hi : oi = some i) {L : Option (Bool ⊕ Unit)} {q : Bool} (hL : L = some (if q = true then .inr () else .inl false)):
 (some c >>=fun t239=>(if(!t239)=true then ok else some false) >>=fun r_12=>some (bif t239 then true else(!r_12)) >>=fun t249=>(if(!t249)=true then oi else some false) >>=fun r_13=>if(bif t249 then true else(!r_13))=true then some false else L >>=fun o_3=>match o_3 with | .inl o_4=>some o_4 | .inr _=>some true)=some (!c && k && q && i):=by
 subst hk;subst hi;subst hL;cases c <;> cases k <;> cases q <;> cases i <;> rfl
theorem xP{ts:List ae}(hn:ts.length < 9223372036854775807)(hT:∀t,t∈ts->OkT t)(hK:∀t,t∈ts->dF t.Kind){v:ab}(hv:OkV v):Fit ts v:=by
 induction hv with
 | mk v hs h1 h2 h3 hk hi hrd n1 n2 n3 n4 ihk ihi=>
  intro t plain;rw[cv,ck];by_cases hout:(bif decide (t < 0)then true else decide (((⟨ts⟩:av).Types.length:Int)<=t))=true
  . rw[if_pos hout,if_pos hout];exact⟨false,rfl,rfl⟩
  . rw[if_neg hout,if_neg hout];have hin:0<=t/\t < ts.length:=by grind
    obtain⟨j,rfl⟩:∃j:Nat,t=(j:Int):=⟨t.toNat,by omega⟩
    have hj:j < ts.length:=by omega
    rw[if_pos (au hj),if_pos (au hj)];simp only[aw,ab.aD];have hxT:=hT _ (aB hj af);have hxK:=hK _ (aB hj af);generalize ts.getD j af=x at hxT hxK ⊢;have hm:=aT (bN hxT.mems);have hsy:=aT (bN hxT.syms);by_cases hkd:v.Kind=x.Kind
    . obtain⟨p,p1,p2,p3⟩:=Gy (v:=v) (by rw[hkd];exact hxK);rw[p1,p2];cases p with
      | false=>exact⟨false,by simp[hkd],by simp[hkd]⟩
      | true=>
       have hitems:=xO (ts:=ts) h2 ihi;have hkeys:=xO (ts:=ts) h1 ihk;obtain⟨K,N,L,H,M,S,Ms,Ke,E,O⟩:=x;obtain⟨vK,B,I,Sx,ID,Ks,Is,R⟩:=v;simp only at hkd;subst hkd;have p3':=p3 rfl;simp only at p3' hxK hm hsy h1 h2 h3;have hc:vK=1\/vK=2\/vK=3\/vK=4\/vK=5\/vK=6\/vK=7\/vK=8\/vK=9:=by unfold dF at hxK;omega
       rcases hc with rfl | rfl | rfl | rfl | rfl | rfl | rfl | rfl | rfl
       . obtain rfl:R=[]:=p3' (by decide) (by decide);cases plain <;> exact⟨true,rfl,rfl⟩
       . obtain rfl:R=[]:=p3' (by decide) (by decide);cases plain <;> exact⟨_,rfl,rfl⟩
       . obtain rfl:R=[]:=p3' (by decide) (by decide);cases plain <;> exact⟨_,rfl,rfl⟩
       . obtain rfl:R=[]:=p3' (by decide) (by decide);obtain⟨r,r1,r2,_⟩:=lX (t:=⟨4,N,L,H,M,S,Ms,Ke,E,O⟩) ID hsy;have hf:cn (ID,false)=some (bif decide (1<=ID)then decide (ID<=1000)else false):=by rfl
         cases plain
         . exact⟨_,k4e r1 O false _,k4r r2 O false _ (fun b=>cn (ID,b)) hf⟩
         . exact⟨_,k4e r1 O true _,k4r r2 O true _ (fun b=>cn (ID,b)) hf⟩
       ·
        have hrs:=rests (t:=⟨5,N,L,H,M,S,Ms,Ke,E,O⟩) hm ⟨5,B,I,Sx,ID,Ks,Is,R⟩ h3 plain ts;have hps:decide ((Is.length:Int)=(Ms.length:Int))=true->_:=fun hA=>HL (ts:=ts) (t:=⟨5,N,L,H,M,S,Ms,Ke,E,O⟩) (v:=⟨5,B,I,Sx,ID,Ks,Is,R⟩) (wV hA) hm ihi plain
        have hq:∃q:Bool,cU (plain,R,(R.length:Int),0,ts,⟨5,B,I,Sx,ID,Ks,Is,R⟩,5,N,L,H,M,S,Ms,Ke,E,O)=some (if q=true then .inr (plain,ts,5,B,I,Sx,ID,Ks,Is,R,5,N,L,H,M,S,Ms,Ke,E,O)else .inl false)/\ir (⟨5,N,L,H,M,S,Ms,Ke,E,O⟩,R)=some q:=by grind
        obtain⟨q,q1,q2⟩:=hq;have hmm:∃m:Bool,decide ((Is.length:Int)=(Ms.length:Int))=true->(du (plain,Ms,(Ms.length:Int),0,ts,5,B,I,Sx,ID,Ks,Is,R)=some (if m=true then .inr ()else .inl false)/\cd (plain,0,ts,⟨5,B,I,Sx,ID,Ks,Is,R⟩,5,N,L,H,M,S,Ms,Ke,E,O)=some (if m=true then .inr ()else .inl false)):=by
         cases hA:decide ((Is.length:Int)=(Ms.length:Int))with
         | false=>exact⟨true,fun h=>by cases h⟩
         | true=>
          rcases hps hA with⟨a,b⟩ | ⟨a,b⟩
          . simp_all
          simp_all
        obtain⟨m,hm'⟩:=hmm;refine⟨(decide ((Is.length:Int)=(Ms.length:Int))) && !(bif plain then decide (0 < (R.length:Int))else false) && q && m,?_,?_⟩
        . show(if(bif (!(decide ((Is.length:Int)=(Ms.length:Int))))then true else bif plain then decide (0 < (R.length:Int))else false)=true then some false else cU (plain,R,(R.length:Int),0,ts,⟨5,B,I,Sx,ID,Ks,Is,R⟩,5,N,L,H,M,S,Ms,Ke,E,O) >>=_)=_
          grind
        . exact k5r (decide ((Is.length:Int)=(Ms.length:Int))) (bif plain then decide (0 < (R.length:Int))else false) q m q2 (fun hA=>(hm' hA).2)
       ·
        obtain⟨r,r1,r2,hf⟩:=cW (t:=⟨6,N,L,H,M,S,Ms,Ke,E,O⟩) ID hm;have hid:∀b,b=false->cn (ID,b)=some (bif decide (1<=ID)then decide (ID<=1000)else false):=by
         intro b hb;subst hb;rfl
        have hX:∃f:Bool,(bif decide ((Is.length:Int)=1)then decide ((R.length:Int)=0)else false)=true->(cv ((⟨ts⟩:av),(Ms.getD r.1.toNat ap).Type_,Is.getD (0:Int).toNat ag,plain)=some f/\ck ((⟨ts⟩:av),(Ms.getD r.1.toNat ap).Type_,Is.getD (0:Int).toNat ag,plain)=some f):=by
         by_cases h1':Is.length=1
         . obtain⟨f,f1,f2⟩:=ihi (Is.getD 0 ag) (aB (by omega:0 < Is.length) ag) (Ms.getD r.1.toNat ap).Type_ plain
           grind
         grind
        obtain⟨f,hfX⟩:=hX;have hidx:r.2=true->(bif decide ((Is.length:Int)=1)then decide ((R.length:Int)=0)else false)=true->inR r.1 Ms.length=true/\inR 0 Is.length=true:=by
         intro h6 hc';constructor
         . rcases hf with⟨k,k1,_,_,rfl⟩ | ⟨_,rfl⟩
           . exact au k1
           . cases h6
         . by_cases h1':Is.length=1
           . exact au (k:=0) (by omega)
           grind
        have hR0:decide ((R.length:Int)=1)=true->inR 0 R.length=true:=by
         intro h;have:=of_decide_eq_true h;exact au (k:=0) (by omega)
        obtain⟨ri,rk⟩:=r;refine⟨if rk=true then(bif decide ((Is.length:Int)=1)then decide ((R.length:Int)=0)else false) && f else(bif O then(!plain)else false) && (bif decide (1<=ID)then decide (ID<=1000)else false) && decide ((Is.length:Int)=0) && decide ((R.length:Int)=1) && decide ((R.getD (0:Int).toNat az).ID=ID),?_,?_⟩
        . show(bY (⟨6,N,L,H,M,S,Ms,Ke,E,O⟩,ID) >>=_)=_;rw[r1];cases rk with
          | true=>exact k6k _ (inR ri Ms.length) (inR 0 Is.length) f (fun h=>(hfX h).1) (hidx rfl)
          | false=>exact k6u (bif O then(!plain)else false) (bif decide (1<=ID)then decide (ID<=1000)else false) (decide ((Is.length:Int)=0)) (decide ((R.length:Int)=1)) (inR 0 R.length) (decide ((R.getD (0:Int).toNat az).ID=ID)) hR0
        . show(if(bif (bif false then true else(!true))then true else(bif plain then decide (0 < (R.length:Int))else false))=true then some false else cj (⟨6,N,L,H,M,S,Ms,Ke,E,O⟩,ID) >>=_)=_;rw[r2];cases hb0:(bif plain then decide (0 < (R.length:Int))else false)with
          | true=>
           have hpl:plain=true:=by grind
           subst hpl;have hRl:decide ((R.length:Int)=0)=false:=by grind
           grind
          | false=>
           cases rk with
           | true=>exact k6k _ (inR ri Ms.length) (inR 0 Is.length) f (fun h=>(hfX h).2) (hidx rfl)
           | false=>exact k6u (bif O then(!plain)else false) (bif decide (1<=ID)then decide (ID<=1000)else false) (decide ((Is.length:Int)=0)) (decide ((R.length:Int)=1)) (inR 0 R.length) (decide ((R.getD (0:Int).toNat az).ID=ID)) hR0
       . obtain rfl:R=[]:=p3' (by decide) (by decide);obtain⟨r,r1,r2⟩:=hitems E plain;cases plain
         . exact⟨_,k7 r1 _,k7 r2 _⟩
         . exact⟨_,k7 r1 _,k7 r2 _⟩
       . obtain rfl:R=[]:=p3' (by decide) (by decide);obtain⟨k,k1,k2⟩:=hkeys Ke plain;obtain⟨i,i1,i2⟩:=hitems E plain;have hks:=IF (ts:=ts) (t:=⟨8,N,L,H,M,S,Ms,Ke,E,O⟩) (v:=⟨8,B,I,Sx,ID,Ks,Is,[]⟩) (aT h1) hk plain
         obtain⟨q,qa,qb⟩:∃q:Bool,cF (plain,1,ts,⟨8,B,I,Sx,ID,Ks,Is,[]⟩,8,N,L,H,M,S,Ms,Ke,E,O)=some (if q=true then .inr (plain,ts,⟨8,B,I,Sx,ID,Ks,Is,[]⟩,8,N,L,H,M,S,Ms,Ke,E,O)else .inl false)/\bS (1,⟨8,B,I,Sx,ID,Ks,Is,[]⟩)=some (if q=true then .inr ()else .inl false):=by
          rcases hks with⟨a,b⟩ | ⟨a,b⟩
          . simp_all
          simp_all
         refine⟨!(bif decide (M < (Ks.length:Int))then true else(!(decide ((Is.length:Int)=(Ks.length:Int))))) && k && q && i,?_,?_⟩
         . show(some (bif decide (M < (Ks.length:Int))then true else(!(decide ((Is.length:Int)=(Ks.length:Int))))) >>=fun t270=>(if(!t270)=true then gH ((⟨ts⟩:av),Ke,Ks,plain)else some false) >>=fun r_11=>if(bif t270 then true else(!r_11))=true then some false else cF (plain,1,ts,⟨8,B,I,Sx,ID,Ks,Is,[]⟩,8,N,L,H,M,S,Ms,Ke,E,O) >>=_)=_
           grind
         . cases plain
           . exact k8r (bif decide (M < (Ks.length:Int))then true else(!(decide ((Is.length:Int)=(Ks.length:Int))))) k2 i2 qb
           . exact k8r (bif decide (M < (Ks.length:Int))then true else(!(decide ((Is.length:Int)=(Ks.length:Int))))) k2 i2 qb
       . obtain rfl:R=[]:=p3' (by decide) (by decide);obtain⟨r,r1,r2⟩:=hitems E plain;cases plain
         . exact⟨_,k7 r1 _,k7 r2 _⟩
         . exact⟨_,k7 r1 _,k7 r2 _⟩
    . exact⟨false,by simp[hkd],by simp[hkd]⟩
theorem yV{U:Uni}{t:Ty}{l:List (t.den U.D)}(h:WF U ⟨.slice t,l⟩):l.length<=reachBytes/\l.length*t.bytes U<=reachBytes/\∀x,x∈l->∀c,c∈t.row U x->WF U c:=by cases h with | slice t l h1 h2 h3=>exact⟨h1,h2,h3⟩
theorem md(s:av):(⟨s.Types⟩:av)=s:=by cases s;rfl
theorem HM {s : av} (hs : s.Types.length <= reachBytes) (hT : ∀ t, t ∈ s.Types -> OkT t) {v : ab} (hv : OkV v) (t : Int):
 ∃e,ft (s,t,v)=some e/\qu (s,t,v)=some e/\
  (e=0->s.Types.length<=32/\(∀i,i < s.Types.length->stepV s.Types i=none)/\0<=t/\t < s.Types.length/\cv (s,t,v,false)=some true):=by
 obtain⟨e,e1,e2,e3⟩:=HI hs hT;rw[ft,jD,qu];simp only[md,ab.aD];rw[e1,e2];by_cases h0:e=0
 . subst h0;obtain⟨h32,hst⟩:=e3 rfl;by_cases hout:(bif decide (t < 0)then true else decide ((s.Types.length:Int)<=t))=true
   . refine⟨4,?_,?_,fun h=>by cases h⟩
     . show((if(bif decide (t < 0)then true else decide ((s.Types.length:Int)<=t))=true then some (4:Int)else some 0) >>=_)=_;rw[if_pos hout];rfl
     . show(if(bif decide (t < 0)then true else decide ((s.Types.length:Int)<=t))=true then some (4:Int)else _)=_;rw[if_pos hout]
   . have hk:=HK hT hst;obtain⟨r,r1,r2⟩:=xP (by omega) hT hk hv t false;rw[md]at r1 r2;have hin:0<=t/\t < s.Types.length:=by grind
     refine⟨if(!r)=true then 1 else 0,?_,?_,?_⟩
     . show((if(bif decide (t < 0)then true else decide ((s.Types.length:Int)<=t))=true then some (4:Int)else some 0) >>=_)=_;rw[if_neg hout];show(fC (s,t,v) >>=_)=_;rw[fC];simp only[md,ab.aD];rw[r1];cases r <;> rfl
     . show(if(bif decide (t < 0)then true else decide ((s.Types.length:Int)<=t))=true then some (4:Int)else _)=_;rw[if_neg hout];show(qz (s,t,v) >>=_)=_;rw[qz];simp only[ab.aD];rw[r2];cases r <;> rfl
     . intro h;cases r with
       | false=>simp at h
       | true=>exact⟨h32,hst,hin.1,hin.2,r1⟩
 . have hd:(!(decide (e=0)))=true:=by simp[h0]
   refine⟨e,?_,?_,fun h=>absurd h h0⟩
   . show((if(!(decide (e=0)))=true then some e else _) >>=fun r=>if(!(decide (r=0)))=true then some r else _)=_;rw[if_pos hd];show(if(!(decide (e=0)))=true then some e else _)=_;rw[if_pos hd]
   . show(if(!(decide (e=0)))=true then some e else _)=_;rw[if_pos hd]
def vbig(n:Nat):List UInt8:=if n=0 then[]else vbig (n / 256)++[UInt8.ofNat (n % 256)]
termination_by n
decreasing_by omega
theorem yW{α:Type}:∀(l:List α) (k:Nat) (x:α),k < l.length->(l.set k x).drop k=x::l.drop (k+1)
 | [],k,x,h=>by simp at h
 | a::l,0,x,h=>by simp
 | a::l,k+1,x,h=>by simp[yW l k x (by simpa using h)]
theorem shrI8(n:Nat):shrI .u64 (n:Int) 8=((n / 256:Nat):Int):=by
 unfold shrI;have:((2:Int) ^ min (8:Int).toNat IntKind.u64.bits)=256:=by decide
 grind
theorem BN :∀(i n:Nat) (b:List Int),n < 256 ^ i->i<=8->b.length=8->∃(i':Nat) (b':List Int),iD ((n:Int),(i:Int),b)=some ((i':Int),b')/\i'<=8/\b'.length=8/\strOf (b'.drop i')=vbig n++strOf (b.drop i)
 | i,n,b,hn,hi,hb=>by
  rw[iD];by_cases h0:n=0
  . subst h0;rw[if_neg (by simp)];refine⟨i,b,rfl,hi,hb,?_⟩;rw[vbig,if_pos rfl];rfl
  . rw[if_pos (by simp;omega)]
    match i,hn,hi with
    | 0,hn,hi=>simp at hn;omega
    | i+1,hn,hi=>
     have hs:subI .i64 ((i+1:Nat):Int) 1=(i:Int):=by rw[bP (by omega) (by omega)];omega
     simp only[oZ4,oZ3];rw[hs,if_pos (au (by omega)),if_pos (by simp[hb];omega),shrI8,wrp8,aw];have hlt:n / 256 < 256 ^ i:=by omega
     obtain⟨i',b',h1,h2,h3,h4⟩:=BN i (n / 256) (b.set i ((n % 256:Nat):Int)) hlt (by omega) (by simp[hb]);refine⟨i',b',h1,h2,h3,?_⟩;rw[h4,yW _ _ _ (by omega),HB]
     conv=>rhs;rw[vbig,if_neg h0]
     grind
theorem BO{n:Nat}(hn:n < 18446744073709551616):mc (n:Int)=some (vbig n):=by
 have e:(256:Nat) ^ 8=18446744073709551616:=by decide
 obtain⟨i',b',h1,h2,h3,h4⟩:=BN 8 n [0,0,0,0,0,0,0,0] (by rw[e];exact hn) (by omega) rfl;have h1':iD ((n:Int),8,[0,0,0,0,0,0,0,0])=some ((i':Int),b'):=h1;rw[mc,h1'];simp only[oZ4,oZ3,aw];have hsl:slR (i':Int) 8 8=true:=dA (b:=8) (by omega) (by omega);have h8:(8:Int).toNat=8:=rfl
 rw[if_pos hsl,h8,if_pos (by simp[subR,h3];omega)];rw[List.take_of_length_le (by simp[h3]),h4];simp[strOf]
theorem pA :∀(f n:Nat),n < 256 ^ f->(vbig n).length<=f
 | 0,n,h=>by
  have:n=0:=by simpa using h
  subst this;rw[vbig,if_pos rfl];simp
 | f+1,n,h=>by
  rw[vbig];split
  . simp
  . have:=pA f (n / 256) (by omega);simp;omega
theorem xQ :∀(f n:Nat) (out:List UInt8),n < 256 ^ f->n < 18446744073709551616->out.length+f<=1000->jr ((n:Int),out)=some (vbig n++out)
 | f,n,out,hn,h64,ho=>by
  rw[jr];by_cases h0:n=0
  . subst h0;rw[if_neg (by simp),vbig,if_pos rfl];rfl
  . rw[if_pos (by simp;omega)]
    match f,hn,ho with
    | 0,hn,ho=>simp at hn;omega
    | f+1,hn,ho=>
     have hrem:remI (n:Int) 256=((n % 256:Nat):Int):=remIn (b:=256);have hq:quoI .u64 (n:Int) 256=((n / 256:Nat):Int):=by
      unfold quoI;have e:(n:Int).tdiv 256=((n / 256:Nat):Int):=by rw[Int.tdiv_eq_ediv_of_nonneg (by omega)];omega
      rw[e];exact wrapu (by omega) (by omega)
     have hone:strOf [((n % 256 % 256:Nat):Int)]=[UInt8.ofNat (n % 256)]:=by
      have:n % 256 % 256=n % 256:=by omega
      rw[this];rfl
     simp only[oZ4,oZ3];rw[hrem,hq,wrp8,hone,if_pos (bR (by simp;omega))];have hlt:n / 256 < 256 ^ f:=by omega
     rw[xQ f (n / 256) _ hlt (by omega) (by simp;omega)]
     conv=>rhs;rw[vbig,if_neg h0]
     grind
theorem xR{n:Nat}(hn:n < 18446744073709551616):lz (n:Int)=some (vbig n):=by
 have e:(256:Nat) ^ 8=18446744073709551616:=by decide
 rw[lz,xQ 8 n [] (by rw[e];exact hn) hn (by simp)];simp
end
section
open Go Go.Proofs.YtijpinendaoleaaGreat.Shv Go.Sort
set_option maxRecDepth 100000
section
variable {α:Type}
theorem yX{β γ:Type}{f g:β->List γ}:∀{l:List β},(∀x,x∈l->f x=g x)->l.flatMap f=l.flatMap g
 | [],_=>rfl
 | x::l,h=>by
  simp only[List.flatMap_cons];rw[h x (.head _),yX fun y hy=>h y (.tail _ hy)]
theorem wW(x:α)(n:Nat)(f:Nat->List α):∀(ks:List Nat),ks.Nodup->n∈ks->(ks.flatMap fun i=>if n=i then x::f i else f i).Perm (x::ks.flatMap f)
 | [],_,h=>by cases h
 | k::ks,hn,h=>by
  rw[List.nodup_cons]at hn;simp only[List.flatMap_cons];by_cases e:n=k
  . rw[if_pos e];have:(ks.flatMap fun i=>if n=i then x::f i else f i)=ks.flatMap f:=yX fun y hy=>by grind
    simp_all
  . rw[if_neg e];have hm:n∈ks:=(List.mem_cons.1 h).resolve_left e;refine((wW x n f ks hn.2 hm).append_left (f k)).trans ?_;simp_all
theorem wX(key:α->Nat)(ks:List Nat)(hn:ks.Nodup):∀l:List α,(∀x,x∈l->key x∈ks)->(ks.flatMap fun i=>l.filter fun x=>decide (key x=i)).Perm l
 | [],_=>by simp
 | x::l,h=>by
  have e:(fun i=>(x::l).filter fun y=>decide (key y=i))=fun i=>if key x=i then x::(l.filter fun y=>decide (key y=i))else l.filter fun y=>decide (key y=i):=by grind
  rw[e];exact(wW x (key x) _ ks hn (h x (.head _))).trans ((wX key ks hn l fun y hy=>h y (.tail _ hy)).cons x)
theorem F6(key:α->Nat)(a n:Nat)(l:List α):((List.range' a n).flatMap fun i=>l.filter fun x=>decide (key x=i)).Pairwise (fun x y=>decide (key y < key x)=false):=by
 rw[List.pairwise_flatMap];constructor
 . intro i hi;rw[List.pairwise_iff_forall_sublist]
   grind
 . refine(List.pairwise_lt_range' (s:=a) (n:=n)).imp ?_
   grind
theorem yY{α β:Type}[Inhabited α][Inhabited β]{lt:α->α->Bool}{lt':β->β->Bool}(g:α->β)(h:∀a b,lt' (g a) (g b)=lt a b):∀l,isoB lt' (l.map g)=(isoB lt l).map g
 | []=>rfl
 | x::l=>by
  have key:∀r,insB lt' (g x) (r.map g)=(insB lt x r).map g:=by
   intro r
   induction r with
   | nil=>rfl
   | cons y r ih=>
    simp only[insB,List.map]
    grind
  simp only[isoB,List.map];rw[yY g h l,key]
theorem xS{α:Type}[Inhabited α]{lt:α->α->Bool}:∀{l:List α},l.Pairwise (fun x y=>lt x y=true\/lt y x=true)->cB lt l=true
 | [],_=>rfl
 | x::l,h=>by
  rw[List.pairwise_cons]at h;simp only[cB,Bool.and_eq_true,List.all_eq_true,Bool.or_eq_true];exact⟨h.1,xS h.2⟩
end
mutual
def wt :ab->Nat
 | ⟨_,_,_,s,_,ks,is,r⟩=>10+s.length+(r.map fun x=>x.Data.length+1).sum+wts ks+wts is
def wts :List ab->Nat
 | []=>0
 | v::l=>wt v+wts l
end
structure Fd where
 id:Nat
 c:Bool
 p:List UInt8
instance:Inhabited Fd:=⟨⟨0,false,[]⟩⟩
def ltF(a b:Fd):Bool:=decide (a.id < b.id)
def Fd.text(f:Fd):List UInt8:=bq f.id f.c f.p
def ilv :List (List UInt8)->List (List UInt8)->List UInt8
 | k::ks,v::vs=>aP k++(aP v++ilv ks vs)
 | _,_=>[]
def findM(l:List aj)(id:Int):Option aj:=l.find? fun m=>decide (m.ID=id)
open Classical in
noncomputable def om (m:aj) (v:ab):Bool:=m.HasDefault && decide (m.Default=v)
def rawF(r:aH):Fd:=⟨r.ID.toNat,false,r.Data⟩
mutual
noncomputable def vpay (ts:List ae) (t:Int):ab->List UInt8
 | ⟨_,b,i,s,id,ks,is,r⟩=>
  let x:=ts.getD t.toNat af
  if x.Kind=1 then(if b=true then[1]else[])
  else if x.Kind=2 then vbig (zig i).toNat
  else if x.Kind=3 then s
  else if x.Kind=4 then vbig id.toNat
  else if x.Kind=5 then(isoB ltF (vents ts x.Members is++r.map rawF)).flatMap Fd.text
  else if x.Kind=6 then vput id.toNat++(match findM x.Members id with
   | some m=>(vpays ts m.Type_ is).headD []
   | none=>(r.map aH.Data).headD [])
  else if x.Kind=7 then(vpays ts x.Elem is).flatMap aP
  else if x.Kind=8 then ilv (vpays ts x.Key ks) (vpays ts x.Elem is)
  else match vpays ts x.Elem is with
   | []=>[]
   | p::_=>1::p
noncomputable def vpays (ts:List ae) (t:Int):List ab->List (List UInt8)
 | []=>[]
 | v::l=>vpay ts t v::vpays ts t l
noncomputable def vents (ts:List ae):List aj->List ab->List Fd
 | m::ms,v::l=>if om m v=true then vents ts ms l else⟨m.ID.toNat,m.Critical,vpay ts m.Type_ v⟩::vents ts ms l
 | _,_=>[]
end
mutual
noncomputable def vlev (ts:List ae) (t:Int):ab->Nat
 | ⟨_,_,_,_,id,ks,is,_⟩=>
  let x:=ts.getD t.toNat af
  1+max (if ks=[]then 0 else 1) (if x.Kind=5 then vlevm ts x.Members is
   else if x.Kind=6 then(match findM x.Members id with
    | some m=>vlevs ts m.Type_ is
    | none=>0)
   else vlevs ts x.Elem is)
noncomputable def vlevs (ts:List ae) (t:Int):List ab->Nat
 | []=>0
 | v::l=>max (vlev ts t v) (vlevs ts t l)
noncomputable def vlevm (ts:List ae):List aj->List ab->Nat
 | m::ms,v::l=>if om m v=true then vlevm ts ms l else max (vlev ts m.Type_ v) (vlevm ts ms l)
 | _,_=>0
end
def I1000(n:Int):Prop:=1<=n/\n<=1000
def cb(ms:List aj)(r:List aH):Prop:=r.Pairwise (fun a b=>a.ID < b.ID)/\∀x,x∈r->I1000 x.ID/\findM ms x.ID=none
def vcmp(a b:ab):Int:=(dS (a,b)).getD 0
def ew(ks:List ab):Prop:=∀i,i+1 < ks.length->vcmp (ks.getD i ag) (ks.getD (i+1) ag) < 0
mutual
def vfit(ts:List ae)(pl:Bool)(t:Int):ab->Prop
 | ⟨k,b,i,s,id,ks,is,r⟩=>
  let x:=ts.getD t.toNat af
  (0<=t/\t < ts.length/\k=x.Kind/\(pl=true->r=[]))/\
  (k=1/\i=0/\s=[]/\id=0/\ks=[]/\is=[]/\r=[]\/
  k=2/\b=false/\s=[]/\id=0/\ks=[]/\is=[]/\r=[]/\x.Low<=i/\i<=x.High\/
  k=3/\b=false/\i=0/\id=0/\ks=[]/\is=[]/\r=[]/\(s.length:Int)<=x.Max\/
  k=4/\b=false/\i=0/\s=[]/\ks=[]/\is=[]/\r=[]/\((∃y,y∈x.Symbols/\y.ID=id)\/x.Open=true/\pl=false/\I1000 id)\/
  k=5/\b=false/\i=0/\s=[]/\id=0/\ks=[]/\cb x.Members r/\vfitm ts pl x.Members is\/
  k=6/\b=false/\i=0/\s=[]/\ks=[]/\(match findM x.Members id with
   | some m=>r=[]/\is.length=1/\vfits ts pl m.Type_ is
   | none=>x.Open=true/\pl=false/\I1000 id/\is=[]/\∃d,r=[⟨id,d⟩])\/
  k=7/\b=false/\i=0/\s=[]/\id=0/\ks=[]/\r=[]/\(is.length:Int)<=x.Max/\vfits ts pl x.Elem is\/
  k=8/\b=false/\i=0/\s=[]/\id=0/\r=[]/\(ks.length:Int)<=x.Max/\is.length=ks.length/\vfits ts pl x.Key ks/\vfits ts pl x.Elem is/\ew ks\/
  k=9/\b=false/\i=0/\s=[]/\id=0/\ks=[]/\r=[]/\is.length<=1/\vfits ts pl x.Elem is)
def vfits(ts:List ae)(pl:Bool)(t:Int):List ab->Prop
 | []=>True
 | v::l=>vfit ts pl t v/\vfits ts pl t l
def vfitm(ts:List ae)(pl:Bool):List aj->List ab->Prop
 | m::ms,v::l=>vfit ts pl m.Type_ v/\vfitm ts pl ms l
 | [],[]=>True
 | _,_=>False
end
theorem wt_eq(v:ab):wt v=10+v.Str.length+(v.Rest.map fun x=>x.Data.length+1).sum+wts v.Keys+wts v.Items:=by cases v;rw[wt]
theorem gR(v:ab)(l:List ab):wts (v::l)=wt v+wts l:=by rw[wts]
theorem fO :wts []=0:=by rw[wts]
theorem bd :∀{l:List ab} {x:ab},x∈l->wt x<=wts l
 | y::l,x,h=>by
  rw[gR];rcases List.mem_cons.1 h with rfl | h
  . omega
  . have:=bd h;omega
theorem wY{p:List UInt8}(h:p.length < 1152921504606846976):(aP p).length<=p.length+10:=by
 have:=cK (n:=p.length) (by omega);unfold aP;simp;omega
theorem yZ{f:Fd}(h:f.p.length < 1152921504606846976)(hi:f.id<=9223372036854775807):f.text.length<=f.p.length+20:=by
 have:=wY h;have:=cK (n:=2*f.id+(if f.c then 1 else 0)) (by split <;> omega);unfold Fd.text bq;simp only[List.length_append];omega
theorem Fw{α β:Type}{f:α->List β}{a b:List α}(h:a.Perm b):(a.flatMap f).length=(b.flatMap f).length:=(h.flatMap_right f).length_eq
theorem pX{n:Int}(h:I64 n):(zig n).toNat < 18446744073709551616:=by
 unfold zig I64 at*;split <;> omega
section
variable {ts:List ae}
def LenOk(ts:List ae)(v:ab):Prop:=∀t,(vpay ts t v).length+20<=21*wt v
theorem r9 :∀{l:List ab} {t:Int},wts l<=1099511627776->(∀x,x∈l->LenOk ts x)->((vpays ts t l).flatMap aP).length<=21*wts l
 | [],t,_,_=>by rw[vpays];simp
 | v::l,t,hw,h=>by
  rw[vpays,List.flatMap_cons,List.length_append];rw[gR]at hw ⊢;have h1:=h v (.head _) t;have h2:=r9 (t:=t) (by omega) fun x hx=>h x (.tail _ hx)
  have h3:=wY (p:=vpay ts t v) (by omega);omega
theorem dw :∀{l:List ab} {t:Int},(vpays ts t l).length=l.length
 | [],t=>by rw[vpays];rfl
 | v::l,t=>by rw[vpays,List.length_cons,List.length_cons,dw]
theorem iT :∀{l:List ab} {t:Int},vpays ts t l=l.map (vpay ts t)
 | [],t=>by rw[vpays];rfl
 | v::l,t=>by rw[vpays,List.map,iT]
theorem Ab :∀(a b:List (List UInt8)),(ilv a b).length<=(a.flatMap aP).length+(b.flatMap aP).length
 | [],b=>by simp[ilv]
 | k::ks,[]=>by simp[ilv]
 | k::ks,v::vs=>by
  have:=Ab ks vs;simp only[ilv,List.flatMap_cons,List.length_append];omega
theorem xT :∀{ms:List aj} {l:List ab},wts l<=1099511627776->(∀m,m∈ms->m.ID<=1000)->(∀x,x∈l->LenOk ts x)->((vents ts ms l).flatMap Fd.text).length<=21*wts l
 | [],l,_,_,_=>by rw[vents] <;> simp
 | m::ms,[],_,_,_=>by rw[vents] <;> simp
 | m::ms,v::l,hw,hm,h=>by
  rw[gR]at hw ⊢;rw[vents];have h1:=h v (.head _) m.Type_;have h2:=xT (ms:=ms) (l:=l) (by omega) (fun x hx=>hm x (.tail _ hx)) fun x hx=>h x (.tail _ hx)
  have h4:=hm m (.head _);split
  . omega
  . rw[List.flatMap_cons,List.length_append];have h3:=yZ (f:=⟨m.ID.toNat,m.Critical,vpay ts m.Type_ v⟩) (by show(vpay ts m.Type_ v).length < _;omega) (by show m.ID.toNat<=_;omega)
    grind
theorem y4 :∀{l:List aH},(∀x,x∈l->x.Data.length<=reachBytes/\x.ID<=9223372036854775807)->True->((l.map rawF).flatMap Fd.text).length<=21*(l.map fun x=>x.Data.length+1).sum
 | [],_,_=>by simp
 | r::l,h,_=>by
  have h1:=h r (.head _);have h2:=y4 (l:=l) (fun x hx=>h x (.tail _ hx)) trivial;unfold reachBytes at h1;have h3:=yZ (f:=rawF r) (by show r.Data.length < _;omega) (by show r.ID.toNat<=_;omega);have h3':(rawF r).text.length<=r.Data.length+20:=h3
  grind
def MOk(ts:List ae):Prop:=∀x,x∈ts->∀m,m∈x.Members->m.ID<=1000
theorem Gz{α:Type}(l:List α)(i:Nat)(d:α):l.getD i d∈l\/l.getD i d=d:=by grind
theorem xU{l:List (List UInt8)}{n:Nat}(h:∀x,x∈l->x.length<=n):(l.headD []).length<=n:=by
 cases l with
 | nil=>simp
 | cons x l=>exact h x (.head _)
theorem Ac :∀{l:List Nat} {n:Nat},n∈l->n<=l.sum
 | a::l,n,h=>by
  rw[List.sum_cons];rcases List.mem_cons.1 h with rfl | h
  . omega
  . have:=Ac h;omega
theorem KG(hM:MOk ts){v:ab}(h:OkV v):wt v<=1099511627776->LenOk ts v:=by
 induction h with
 | mk v hs h1 h2 h3 hk hi hr n1 n2 n3 n4 ihk ihi=>
  intro hw t;have hwt:=wt_eq v;have LK:∀x,x∈v.Keys->LenOk ts x:=fun x hx=>ihk x hx (by have:=bd hx;omega)
  have LI:∀x,x∈v.Items->LenOk ts x:=fun x hx=>ihi x hx (by have:=bd hx;omega)
  have PK:=fun t=>r9 (t:=t) (l:=v.Keys) (by omega) LK
  have PI:=fun t=>r9 (t:=t) (l:=v.Items) (by omega) LI
  have hx:∀m,m∈(ts.getD t.toNat af).Members->m.ID<=1000:=by
   rcases Gz ts t.toNat af with h | h
   . exact hM _ h
   . rw[h];intro m hm;cases hm
  have QI:∀t,((vpays ts t v.Items).headD []).length+20<=21*wts v.Items+20:=fun t=>by
   have:((vpays ts t v.Items).headD []).length<=21*wts v.Items:=xU fun p hp=>by
    rw[iT]at hp;obtain⟨x,hx,rfl⟩:=List.mem_map.1 hp;have:=LI x hx t;have:=bd hx;omega
   omega
  have RI:((v.Rest.map rawF).flatMap Fd.text).length<=21*(v.Rest.map fun x=>x.Data.length+1).sum:=y4 (fun x hx=>⟨hr x hx,(n4 x hx).2⟩) trivial;have EI:=xT (ts:=ts) (ms:=(ts.getD t.toNat af).Members) (l:=v.Items) (by omega) hx LI;have DI:((v.Rest.map aH.Data).headD []).length<=(v.Rest.map fun x=>x.Data.length+1).sum:=xU fun p hp=>by
   obtain⟨x,hx,rfl⟩:=List.mem_map.1 hp;have:x.Data.length+1<=(v.Rest.map fun x=>x.Data.length+1).sum:=Ac (List.mem_map.2 ⟨x,hx,rfl⟩);omega
  obtain⟨K,b,i,s,id,ks,is,r⟩:=v;simp only at*;rw[vpay];have hz:=pA 8 _ (pX n2);have hid:id.toNat < 18446744073709551616:=by omega
  have hb:=pA 8 _ hid;have hp:=cK hid;generalize ts.getD t.toNat af=x at*;split
  . grind
  . split
    . omega
    . split
      . omega
      . split
        . omega
        . split
          . rw[Fw (cX _ _),List.flatMap_append,List.length_append];omega
          . split
            . grind
            . split
              . grind
              . split
                . have:=Ab (vpays ts x.Key ks) (vpays ts x.Elem is)
                  grind
                grind
end
section
variable {ts:List ae}
theorem iU :∀{ms:List aj} {l:List ab} {x:Fd},x∈vents ts ms l->∃m,m∈ms/\x.id=m.ID.toNat
 | [],l,x,h=>by
  rw[vents]at h
  . cases h
  grind
 | m::ms,[],x,h=>by
  rw[vents]at h
  . cases h
  grind
 | m::ms,v::l,x,h=>by
  rw[vents]at h;split at h
  . obtain⟨m',h1,h2⟩:=iU h
    grind
  . rcases List.mem_cons.1 h with rfl | h
    . grind
    . obtain⟨m',h1,h2⟩:=iU h
      grind
theorem wZ{ms:List aj}{l:List ab}{n:Nat}(h:∀m,m∈ms->m.ID.toNat≠n):((vents ts ms l).filter fun x=>decide (x.id=n))=[]:=by
 rw[List.filter_eq_nil_iff];intro x hx;obtain⟨m,h1,h2⟩:=iU hx
 grind
theorem lY : ∀ {ms : List aj} {l : List ab} {n j : Nat}, ms.Pairwise (fun a b => a.ID.toNat ≠ b.ID.toNat) -> l.length = ms.length -> j < ms.length -> (ms.getD j ap).ID.toNat = n ->
 ((vents ts ms l).filter fun x=>decide (x.id=n))=if om (ms.getD j ap) (l.getD j ag)=true then[]else[⟨n,(ms.getD j ap).Critical,vpay ts (ms.getD j ap).Type_ (l.getD j ag)⟩]
 | [],l,n,j,_,_,hj,_=>by cases hj
 | m::ms,[],n,j,_,hl,_,_=>by cases hl
 | m::ms,v::l,n,0,hd,hl,hj,he=>by
  rw[List.pairwise_cons]at hd;simp only[List.getD_cons_zero]at he ⊢;have hn:=wZ (ts:=ts) (l:=l) (ms:=ms) (n:=n) fun x hx=>by have:=hd.1 x hx;omega
  rw[vents]
  grind
 | m::ms,v::l,n,j+1,hd,hl,hj,he=>by
  rw[List.pairwise_cons]at hd;simp only[List.getD_cons_succ]at he ⊢;have hj':j < ms.length:=by simpa using hj
  have hm:ms.getD j ap∈ms:=by grind
  have hne:=hd.1 _ hm;have ih:=lY (l:=l) hd.2 (by simpa using hl) hj' he;rw[vents]
  grind
theorem GA(l:List aH)(n:Nat)(h:∀x,x∈l->0<=x.ID):((l.map rawF).filter fun x=>decide (x.id=n))=(l.filter fun x=>decide (x.ID=(n:Int))).map rawF:=by
 rw[List.filter_map]
 congr 1
 apply List.filter_congr;intro x hx;have:=h x hx;show decide (x.ID.toNat=n)=_
 grind
noncomputable def aZ (ts:List ae) (ms:List aj) (l:List ab) (r:List aH):List Fd:=vents ts ms l++r.map rawF
def MAsc(ms:List aj):Prop:=ms.Pairwise (fun a b=>a.ID < b.ID)/\∀m,m∈ms->I1000 m.ID
theorem mG{ms:List aj}(h:MAsc ms):ms.Pairwise (fun a b=>a.ID.toNat≠b.ID.toNat):=by
 refine h.1.imp_of_mem fun {a b} ha hb hlt=>?_
 have:=h.2 a ha;have:=h.2 b hb;unfold I1000 at*;omega
theorem sd :∀{ms:List aj} {l:List ab},ms.Pairwise (fun a b=>a.ID.toNat≠b.ID.toNat)->(vents ts ms l).Pairwise (fun a b=>a.id≠b.id)
 | [],l,_=>by
  rw[vents]
  . exact .nil
  grind
 | m::ms,[],_=>by
  rw[vents]
  . exact .nil
  grind
 | m::ms,v::l,h=>by
  rw[List.pairwise_cons]at h;rw[vents];split
  . exact sd h.2
  . rw[List.pairwise_cons];refine⟨fun x hx=>?_,sd h.2⟩;obtain⟨m',h1,h2⟩:=iU hx
    grind
theorem fD{ms:List aj}{id:Int}(h:findM ms id=none):∀m,m∈ms->m.ID≠id:=by
 unfold findM at h
 grind
theorem lN{ms:List aj}{l:List ab}{r:List aH}(h:MAsc ms)(hr:cb ms r):cB ltF (aZ ts ms l r)=true:=by
 apply xS;have key:(aZ ts ms l r).Pairwise (fun a b=>a.id≠b.id):=by
  unfold aZ;rw[List.pairwise_append];refine⟨sd (mG h),?_,?_⟩
  . rw[List.pairwise_map];refine hr.1.imp_of_mem fun {a b} ha hb hlt=>?_
    have:=(hr.2 a ha).1;have:=(hr.2 b hb).1;show a.ID.toNat≠b.ID.toNat;unfold I1000 at*;omega
  . intro x hx y hy;obtain⟨m,h1,h2⟩:=iU hx;obtain⟨q,h3,rfl⟩:=List.mem_map.1 hy;have h4:=fD (hr.2 q h3).2 m h1;have:=h.2 m h1;have:=(hr.2 q h3).1;show x.id≠q.ID.toNat;unfold I1000 at*;omega
 refine key.imp fun {a b} hne=>?_
 simp only[ltF,decide_eq_true_eq];omega
theorem q0{ms:List aj}{l:List ab}{r:List aH}(h:MAsc ms)(hr:cb ms r){x:Fd}(hx:x∈aZ ts ms l r):1<=x.id/\x.id<=1000:=by
 rcases List.mem_append.1 hx with hx | hx
 . obtain⟨m,h1,h2⟩:=iU hx;have:=h.2 m h1;unfold I1000 at*;omega
 . obtain⟨q,h3,rfl⟩:=List.mem_map.1 hx;have:=(hr.2 q h3).1;unfold I1000 at*;show 1<=q.ID.toNat/\q.ID.toNat<=1000;omega
theorem Ad :SWO ltF:=by refine⟨fun x=>?_,fun x y z h1 h2=>?_,fun x y z h1 h2=>?_⟩ <;> simp[ltF]at* <;> omega
theorem Fx {l : List Fd} (hp : cB ltF l = true) (hr : ∀ x, x ∈ l -> 1 <= x.id /\ x.id <= 1000):
 isoB ltF l=(List.range' 1 1000).flatMap fun n=>l.filter fun x=>decide (x.id=n):=by
 refine vS hp (cX _ _) (wX Fd.id _ List.nodup_range' l fun x hx=>?_) (ot Ad l) (F6 Fd.id 1 1000 l);have:=hr x hx;rw[List.mem_range'_1];omega
end
section
variable {ts:List ae} {pl:Bool}
theorem aW :∀{l:List ab} {t:Int},vfits ts pl t l↔∀x,x∈l->vfit ts pl t x
 | [],t=>by rw[vfits];simp
 | v::l,t=>by
  rw[vfits,aW]
  grind
theorem fH :∀{ms:List aj} {l:List ab},vfitm ts pl ms l↔l.length=ms.length/\∀i,i < ms.length->vfit ts pl (ms.getD i ap).Type_ (l.getD i ag)
 | [],[]=>by
  have:vfitm ts pl [] []=True:=by rw[vfitm]
  grind
 | [],v::l=>by
  have:vfitm ts pl [] (v::l)=False:=by rw[vfitm] <;> (intros;simp_all)
  grind
 | m::ms,[]=>by
  have:vfitm ts pl (m::ms) []=False:=by rw[vfitm] <;> (intros;simp_all)
  grind
 | m::ms,v::l=>by
  rw[vfitm,fH];constructor
  . grind
  . rintro ⟨h1,h2⟩
    exact⟨h2 0 (by simp),by simpa using h1,fun i hi=>h2 (i+1) (by simpa using hi)⟩
end
def SaysP(o:Option Bool)(P:Prop):Prop:=∃r,o=some r/\(r=true↔P)
theorem SaysP.imp{o:Option Bool}{P Q:Prop}(h:SaysP o P)(e:P↔Q):SaysP o Q:=by grind
theorem SaysP.of{b:Bool}{P:Prop}(e:b=true↔P):SaysP (some b) P:=⟨b,rfl,e⟩
theorem SaysP.loop {L : Nat -> Option (Bool ⊕ Unit)} {n : Nat} {p : Nat -> Bool} {g : Unit} {o : Option (Bool ⊕ Unit)} (h0 : o = L 0) (hstep : ∀ i, i < n -> L i = if p i = true then L (i + 1) else some (.inl false)) (hend : L n = some (.inr g)):
 SaysP (o >>=fun o=>match o with | .inl x=>some x | .inr _=>some true) (∀i,i < n->p i=true):=by
 subst h0;rcases scan L n p (.inl false) (.inr g) hstep hend with⟨h1,h2⟩ | ⟨h1,j,h2,h3⟩
 . rw[h1];exact⟨true,rfl,by simpa using h2⟩
 . rw[h1];refine⟨false,rfl,?_⟩;constructor
   . intro h;cases h
   . intro h;have:=h j h2;rw[h3]at this;cases this
theorem pM{α:Type}(f:α->Int)(d:α):∀l:List α,l.Pairwise (fun a b=>f a < f b)↔∀i,i+1 < l.length->f (l.getD i d) < f (l.getD (i+1) d)
 | []=>by simp
 | [a]=>by simp
 | a::b::l=>by
  rw[List.pairwise_cons,pM f d (b::l)];constructor
  . rintro ⟨h1,h2⟩ i hi
    cases i with
    | zero=>exact h1 b (.head _)
    | succ i=>exact h2 i (by simpa using hi)
  . intro h;have h2:∀i,i+1 < (b::l).length->f ((b::l).getD i d) < f ((b::l).getD (i+1) d):=fun i hi=>h (i+1) (by simpa using hi)
    refine⟨fun x hx=>?_,h2⟩;have h0:=h 0 (by simp);simp only[List.getD_cons_zero,List.getD_cons_succ]at h0;have h3:=(pM f d (b::l)).2 h2;rw[List.pairwise_cons]at h3
    grind
section
variable {ts:List ae}
def FitS(ts:List ae)(x:ab):Prop:=∀t pl,SaysP (ck ((⟨ts⟩:av),t,x,pl)) (vfit ts pl t x)
theorem y5{l:List ab}(hl:l.length<=reachBytes)(ih:∀x,x∈l->FitS ts x)(t:Int)(pl:Bool):SaysP (gy ((⟨ts⟩:av),t,l,pl)) (vfits ts pl t l):=by
 have hr:=aT hl
 let p:Nat->Bool:=fun i=>(ck ((⟨ts⟩:av),t,l.getD i ag,pl)).getD false
 have hp:∀i,i < l.length->ck ((⟨ts⟩:av),t,l.getD i ag,pl)=some (p i)/\(p i=true↔vfit ts pl t (l.getD i ag)):=by
  intro i hi;obtain⟨r,h1,h2⟩:=ih _ (aB hi ag) t pl
  grind
 rw[gy];refine(SaysP.loop (L:=fun i=>cS (t,l,pl,(i:Int),ts)) (n:=l.length) (p:=p) (g:=()) rfl (fun i hi=>?_) ?_).imp ?_
 . show cS (t,l,pl,(i:Int),ts)=if p i=true then cS (t,l,pl,((i+1:Nat):Int),ts)else _
   rw[cS,if_pos (by simp;omega),if_pos (au hi)];simp only[ab.aD,aw];rw[(hp i hi).1,aA (by omega)]
   grind
 . show cS (t,l,pl,(l.length:Int),ts)=_;rw[cS,if_neg (by simp)]
 . rw[aW];constructor
   . intro h x hx;obtain⟨i,hi,rfl⟩:=List.getElem_of_mem hx
     grind
   grind
theorem fy{l:List aj}{id:Int}{r:Int×Bool}(h:kG l id r):(r.2=true/\∃j:Nat,j < l.length/\r.1=(j:Int)/\findM l id=some (l.getD j ap)/\(l.getD j ap).ID=id)\/(r.2=false/\findM l id=none):=by
 rcases h with⟨j,h1,h2,h3,rfl⟩ | ⟨h1,rfl⟩
 . refine .inl ⟨rfl,j,h1,rfl,?_,h2⟩;unfold findM;rw[List.find?_eq_some_iff_getElem];refine⟨by rw[decide_eq_true_eq];exact h2,j,h1,(bl h1 _).symm,fun k hk=>?_⟩
   grind
 . refine .inr ⟨rfl,?_⟩;unfold findM;rw[List.find?_eq_none];intro m hm;obtain⟨i,hi,rfl⟩:=List.getElem_of_mem hm
   grind
theorem IG{t:ae}(ht:t.Members.length < 9223372036854775807){l:List aH}(hl:l.length<=reachBytes):SaysP (ir (t,l)) (cb t.Members l):=by
 have hr:=aT hl;rw[ir]
 let p:Nat->Bool:=fun i=>!((bY (t,(l.getD i az).ID)).getD (0,false)).2 && (bif decide (1<=(l.getD i az).ID)then decide ((l.getD i az).ID<=1000)else false) && (!(decide ((0:Int) < (i:Int))) || !(decide ((l.getD i az).ID<=(l.getD (subI .i64 (i:Int) 1).toNat az).ID)))
 refine(SaysP.loop (L:=fun i=>cQ (l,(i:Int),t)) (n:=l.length) (p:=p) (g:=()) rfl (fun i hi=>?_) ?_).imp ?_
 . show cQ (l,(i:Int),t)=if p i=true then cQ (l,((i+1:Nat):Int),t)else _
   obtain⟨r,h1,h2,_⟩:=cW (t:=t) (l.getD i az).ID ht;have hpi:p i=(!r.2 && (bif decide (1<=(l.getD i az).ID)then decide ((l.getD i az).ID<=1000)else false) && (!(decide ((0:Int) < (i:Int))) || !(decide ((l.getD i az).ID<=(l.getD (subI .i64 (i:Int) 1).toNat az).ID)))):=by simp only[p,h1,Option.getD_some]
   rw[hpi,cQ,if_pos (by simp;omega),if_pos (au hi)];simp only[aw];rw[h2,aA (by omega)];have hid:cn ((l.getD i az).ID,r.2)=some ((!r.2) && (bif decide (1<=(l.getD i az).ID)then decide ((l.getD i az).ID<=1000)else false)):=by
    rw[cn]
    grind
   show(if inR (i:Int) l.length=true then cn ((l.getD i az).ID,r.2) >>=_ else none)=_;rw[if_pos (au hi),hid]
   exact vW ((!r.2) && (bif decide (1<=(l.getD i az).ID)then decide ((l.getD i az).ID<=1000)else false)) (inR (i:Int) l.length) (decide ((0:Int) < (i:Int))) (subI .i64 (i:Int) 1) (fun j=>inR j l.length) (fun j=>decide ((l.getD i az).ID<=(l.getD j.toNat az).ID)) _ _ (au hi) (fun hz=>by
    have:0 < i:=by simp at hz;omega
    show inR _ _=true
    rw[gM this (by omega)];exact au (by omega))
 . show cQ (l,(l.length:Int),t)=_;rw[cQ,if_neg (by simp)]
 . unfold cb;rw[pM (fun a:aH=>a.ID) az];have key:∀i,i < l.length->(p i=true↔(I1000 (l.getD i az).ID/\findM t.Members (l.getD i az).ID=none)/\(i=0\/(l.getD (i - 1) az).ID < (l.getD i az).ID)):=by
    intro i hi;obtain⟨r,h1,h2,hf⟩:=cW (t:=t) (l.getD i az).ID ht;have hpi:p i=(!r.2 && (bif decide (1<=(l.getD i az).ID)then decide ((l.getD i az).ID<=1000)else false) && (!(decide ((0:Int) < (i:Int))) || !(decide ((l.getD i az).ID<=(l.getD (subI .i64 (i:Int) 1).toNat az).ID)))):=by simp only[p,h1,Option.getD_some]
    rw[hpi];have hn:r.2=false↔findM t.Members (l.getD i az).ID=none:=by
     rcases fy hf with⟨a,j,_,_,b,_⟩ | ⟨a,b⟩
     . grind
     grind
    rw[<-hn];unfold I1000;by_cases h0:i=0
    . grind
    . have hz:decide ((0:Int) < (i:Int))=true:=by simp;omega
      rw[hz,gM (by omega) (by omega),aw]
      grind
   constructor
   . intro h;refine⟨fun i hi=>?_,fun x hx=>?_⟩
     . grind
     . obtain⟨i,hi,rfl⟩:=List.getElem_of_mem hx;simp_all
   . rintro ⟨h1,h2⟩ i hi
     refine(key i hi).2 ⟨h2 _ (aB hi az),?_⟩;by_cases h0:i=0
     . omega
     . right;have:=h1 (i - 1) (by omega);have e:i - 1+1=i:=by omega
       grind
theorem HN {t : ae} {v : ab} (hl : v.Items.length = t.Members.length) (hr : t.Members.length < 9223372036854775807) (ih : ∀ x, x ∈ v.Items -> FitS ts x) (pl : Bool):
 SaysP (cd (pl,0,ts,v,t.Kind,t.Name,t.Low,t.High,t.Max,t.Symbols,t.Members,t.Key,t.Elem,t.Open) >>=fun o=>match o with | .inl o_1=>some o_1 | .inr _=>some true) (vfitm ts pl t.Members v.Items):=by
 let p:Nat->Bool:=fun i=>(ck ((⟨ts⟩:av),(t.Members.getD i ap).Type_,v.Items.getD i ag,pl)).getD false
 have hp:∀i,i < t.Members.length->ck ((⟨ts⟩:av),(t.Members.getD i ap).Type_,v.Items.getD i ag,pl)=some (p i)/\(p i=true↔vfit ts pl (t.Members.getD i ap).Type_ (v.Items.getD i ag)):=by
  intro i hi;obtain⟨r,h1,h2⟩:=ih _ (aB (by omega:i < v.Items.length) ag) (t.Members.getD i ap).Type_ pl
  grind
 refine(SaysP.loop (L:=fun i=>cd (pl,(i:Int),ts,v,t.Kind,t.Name,t.Low,t.High,t.Max,t.Symbols,t.Members,t.Key,t.Elem,t.Open)) (n:=t.Members.length) (p:=p) (g:=()) rfl (fun i hi=>?_) ?_).imp ?_
 . show cd (pl,(i:Int),ts,v,t.Kind,t.Name,t.Low,t.High,t.Max,t.Symbols,t.Members,t.Key,t.Elem,t.Open)=if p i=true then cd (pl,((i+1:Nat):Int),ts,v,t.Kind,t.Name,t.Low,t.High,t.Max,t.Symbols,t.Members,t.Key,t.Elem,t.Open)else _
   rw[cd,if_pos (by simp;omega),if_pos (au hi),if_pos (au (by omega))];simp only[aw,ab.aD];rw[(hp i hi).1,aA (by omega)];cases p i <;> rfl
 . show cd (pl,(t.Members.length:Int),ts,v,t.Kind,t.Name,t.Low,t.High,t.Max,t.Symbols,t.Members,t.Key,t.Elem,t.Open)=_;rw[cd,if_neg (by simp;omega)]
 . rw[fH];constructor
   . intro h;exact⟨hl,fun i hi=>(hp i hi).2.1 (h i hi)⟩
   . rintro ⟨_,h⟩ i hi;exact(hp i hi).2.2 (h i hi)
theorem IH {v : ab} (hr : v.Keys.length < 9223372036854775807) (hk : ∀ x, x ∈ v.Keys -> OkV x):
 SaysP (bS (1,v) >>=fun o_3=>match o_3 with | .inl o_4=>some o_4 | .inr _=>some true) (ew v.Keys):=by
 by_cases h0:v.Keys.length=0
 . rw[bS,if_neg (by simp[h0])];refine⟨true,rfl,?_⟩;unfold ew;simp only[true_iff];intro i hi;omega
 refine(SaysP.loop (L:=fun i=>bS (((i+1:Nat):Int),v)) (n:=v.Keys.length - 1) (p:=fun i=>!(decide (0<=vcmp (v.Keys.getD i ag) (v.Keys.getD (i+1) ag)))) (g:=()) rfl (fun i hi=>?_) ?_).imp ?_
 . show bS (((i+1:Nat):Int),v)=if _ then bS (((i+1+1:Nat):Int),v)else _
   have hs':subI .i64 ((i+1:Nat):Int) 1=(i:Int):=by rw[gM (by omega) (by omega)];simp
   obtain⟨r,c1,c2⟩:=od (pL (hk _ (aB (by omega:i < v.Keys.length) ag))) (pL (hk _ (aB (by omega:i+1 < v.Keys.length) ag)));have hv:vcmp (v.Keys.getD i ag) (v.Keys.getD (i+1) ag)=r:=by unfold vcmp;rw[c1];rfl
   rw[hv,bS,if_pos (by simp;omega)];simp only[oZ4,oZ3];rw[hs',if_pos (au (by omega)),if_pos (au (by omega))];simp only[aw,ab.aD];rw[c2,aA (by omega)];simp only[oZ3];cases decide (0<=r) <;> rfl
 . have e:v.Keys.length - 1+1=v.Keys.length:=by omega
   show bS (((v.Keys.length - 1+1:Nat):Int),v)=_;rw[e,bS,if_neg (by simp)]
 . unfold ew;constructor
   . intro h i hi;have:=h i (by omega)
     simpa using this
   . intro h i hi;have:=h i (by omega)
     simpa using this
theorem cZ (pl : Bool) (t : Int) (v : ab): vfit ts pl t v ↔
 (0<=t/\t < ts.length/\v.Kind=(ts.getD t.toNat af).Kind/\(pl=true->v.Rest=[]))/\
 (v.Kind=1/\v.Int_=0/\v.Str=[]/\v.ID=0/\v.Keys=[]/\v.Items=[]/\v.Rest=[]\/
 v.Kind=2/\v.Bool_=false/\v.Str=[]/\v.ID=0/\v.Keys=[]/\v.Items=[]/\v.Rest=[]/\(ts.getD t.toNat af).Low<=v.Int_/\v.Int_<=(ts.getD t.toNat af).High\/
 v.Kind=3/\v.Bool_=false/\v.Int_=0/\v.ID=0/\v.Keys=[]/\v.Items=[]/\v.Rest=[]/\(v.Str.length:Int)<=(ts.getD t.toNat af).Max\/
 v.Kind=4/\v.Bool_=false/\v.Int_=0/\v.Str=[]/\v.Keys=[]/\v.Items=[]/\v.Rest=[]/\((∃y,y∈(ts.getD t.toNat af).Symbols/\y.ID=v.ID)\/(ts.getD t.toNat af).Open=true/\pl=false/\I1000 v.ID)\/
 v.Kind=5/\v.Bool_=false/\v.Int_=0/\v.Str=[]/\v.ID=0/\v.Keys=[]/\cb (ts.getD t.toNat af).Members v.Rest/\vfitm ts pl (ts.getD t.toNat af).Members v.Items\/
 v.Kind=6/\v.Bool_=false/\v.Int_=0/\v.Str=[]/\v.Keys=[]/\(match findM (ts.getD t.toNat af).Members v.ID with
  | some m=>v.Rest=[]/\v.Items.length=1/\vfits ts pl m.Type_ v.Items
  | none=>(ts.getD t.toNat af).Open=true/\pl=false/\I1000 v.ID/\v.Items=[]/\∃d,v.Rest=[⟨v.ID,d⟩])\/
 v.Kind=7/\v.Bool_=false/\v.Int_=0/\v.Str=[]/\v.ID=0/\v.Keys=[]/\v.Rest=[]/\(v.Items.length:Int)<=(ts.getD t.toNat af).Max/\vfits ts pl (ts.getD t.toNat af).Elem v.Items\/
 v.Kind=8/\v.Bool_=false/\v.Int_=0/\v.Str=[]/\v.ID=0/\v.Rest=[]/\(v.Keys.length:Int)<=(ts.getD t.toNat af).Max/\v.Items.length=v.Keys.length/\vfits ts pl (ts.getD t.toNat af).Key v.Keys/\vfits ts pl (ts.getD t.toNat af).Elem v.Items/\ew v.Keys\/
 v.Kind=9/\v.Bool_=false/\v.Int_=0/\v.Str=[]/\v.ID=0/\v.Keys=[]/\v.Rest=[]/\v.Items.length<=1/\vfits ts pl (ts.getD t.toNat af).Elem v.Items):=by
 cases v;rw[vfit];try exact Iff.rfl
end
def ZeroV(v:ab):Prop:=(v.Kind=1\/v.Bool_=false)/\(v.Kind=2\/v.Int_=0)/\(v.Kind=3\/v.Str=[])/\((v.Kind=4\/v.Kind=6)\/v.ID=0)/\(v.Kind=8\/v.Keys=[])/\(5<=v.Kind\/v.Items=[])/\((v.Kind=5\/v.Kind=6)\/v.Rest=[])
theorem II(v:ab):SaysP (ju v) (ZeroV v):=by
 rw[ju];refine .of ?_;unfold ZeroV;have e:∀{α:Type} (l:List α),((l.length:Int)=0)↔l=[]:=fun l=>by simp_all
 grind
theorem cutS{z b:Bool}{o:Option Bool}{P Z Q:Prop}(hz:z=true↔Z)(hb:b=false↔Q)(ho:SaysP o P):SaysP (if(bif (bif false then true else(!z))then true else b)=true then some false else o) (Z/\Q/\P):=by
 obtain⟨r,rfl,h⟩:=ho;cases z with
 | false=>
  refine⟨false,rfl,?_⟩
  grind
 | true=>
  cases b with
  | true=>refine⟨false,rfl,?_⟩;simp at hb;simp[hb]
  | false=>refine⟨r,rfl,?_⟩;simp at hz hb;simp[hz,hb,h]
theorem and2S{q:Bool}{o:Option Bool}{P Q:Prop}(hq:q=true↔Q)(ho:SaysP o P):SaysP (some q >>=fun t244=>(if t244=true then o else some false) >>=fun r_10=>some (bif t244 then r_10 else false)) (Q/\P):=by
 obtain⟨r,rfl,h⟩:=ho;refine⟨q && r,by cases q <;> cases r <;> rfl,?_⟩
 grind
theorem and5S {A : Bool} {ro L : Option Bool} {PA PR PM : Prop} (hA : A = true ↔ PA) (hr : SaysP ro PR) (hM : A = true -> SaysP L PM):
 SaysP (some (!A) >>=fun t107=>(if(!t107)=true then ro else some false) >>=fun r_5=>if(bif t107 then true else(!r_5))=true then some false else L) (PA/\PR/\PM):=by
 obtain⟨q,rfl,hq⟩:=hr;cases A with
 | false=>refine⟨false,rfl,?_⟩;simp at hA;simp[hA]
 | true=>
  obtain⟨m,rfl,hm⟩:=hM rfl;cases q with
  | false=>refine⟨false,rfl,?_⟩;simp at hq;simp[hq]
  | true=>refine⟨m,rfl,?_⟩;simp at hA hq;simp[hA,hq,hm]
theorem and8S {c : Bool} {ok oi L : Option Bool} {PC PK PI PQ : Prop} (hc : c = false ↔ PC) (hk : SaysP ok PK) (hi : SaysP oi PI) (hL : SaysP L PQ):
 SaysP (some c >>=fun t239=>(if(!t239)=true then ok else some false) >>=fun r_12=>some (bif t239 then true else(!r_12)) >>=fun t249=>(if(!t249)=true then oi else some false) >>=fun r_13=>if(bif t249 then true else(!r_13))=true then some false else L) (PC/\PK/\PI/\PQ):=by
 obtain⟨k,rfl,hk⟩:=hk;obtain⟨i,rfl,hi⟩:=hi;obtain⟨q,rfl,hq⟩:=hL;rw[<-hc,<-hk,<-hi,<-hq];cases c <;> cases k <;> cases i <;> exact⟨_,rfl,by simp⟩
theorem oK{l:List aC}{id:Int}{r:Int×Bool}(h:kH l id r):r.2=true↔∃y,y∈l/\y.ID=id:=by
 rcases h with⟨j,h1,h2,h3,rfl⟩ | ⟨h1,rfl⟩
 . grind
 . constructor
   . grind
   . rintro ⟨y,hy,he⟩
     obtain⟨i,hi,rfl⟩:=List.getElem_of_mem hy
     grind
section
variable {ts:List ae} (hn:ts.length < 9223372036854775807) (hT:∀t,t∈ts->OkT t) (hK:∀t,t∈ts->dF t.Kind)
include hn hT hK in
theorem KH{v:ab}(hv:OkV v):FitS ts v:=by
 induction hv with
 | mk v hs h1 h2 h3 hk hi hrd n1 n2 n3 n4 ihk ihi=>
  intro t pl;rw[ck];by_cases hout:(bif decide (t < 0)then true else decide (((⟨ts⟩:av).Types.length:Int)<=t))=true
  . rw[if_pos hout];refine⟨false,rfl,?_⟩;rw[cZ]
    grind
  . rw[if_neg hout];have hin:0<=t/\t < ts.length:=by grind
    obtain⟨j,rfl⟩:∃j:Nat,t=(j:Int):=⟨t.toNat,by omega⟩
    have hj:j < ts.length:=by omega
    rw[if_pos (au hj)];simp only[cZ,aw,ab.aD];have hxT:=hT _ (aB hj af);have hxK:=hK _ (aB hj af);generalize ts.getD j af=x at hxT hxK ⊢;have hm:=aT (bN hxT.mems);have hsy:=aT (bN hxT.syms);by_cases hkd:v.Kind=x.Kind
    . obtain⟨z,z1,z2⟩:=II v;have hitems:=y5 (ts:=ts) h2 ihi;have hkeys:=y5 (ts:=ts) h1 ihk;show SaysP ((if(!(!(decide (v.Kind=x.Kind))))=true then ju v else some false) >>=_) _;rw[if_pos (by simp[hkd]),z1];obtain⟨K,N,L,H,M,S,Ms,Ke,E,O⟩:=x;obtain⟨vK,B,I,Sx,ID,Ks,Is,R⟩:=v;simp only at hkd;subst hkd;simp only at hxK hm hsy h1 h2 h3 z1
      have hb:(bif pl then decide (0 < (R.length:Int))else false)=false↔(pl=true->R=[]):=by simp_all
      have hc:vK=1\/vK=2\/vK=3\/vK=4\/vK=5\/vK=6\/vK=7\/vK=8\/vK=9:=by unfold dF at hxK;omega
      have cut : ∀ {o : Option Bool} {P W : Prop}, SaysP o P -> ((ZeroV ⟨vK, B, I, Sx, ID, Ks, Is, R⟩ /\ (pl = true -> R = []) /\ P) ↔ W) ->
       SaysP (some z >>=fun r=>if(bif (bif false then true else(!r))then true else bif pl then decide (0 < (R.length:Int))else false)=true then some false else o) W:=fun ho hw=>(cutS z2 hb ho).imp hw
      have hz:(0:Int)<=j/\(j:Int) < ts.length:=hin;rcases hc with rfl | rfl | rfl | rfl | rfl | rfl | rfl | rfl | rfl
      . exact cut (P:=True) (.of (b:=true) (by simp)) (by unfold ZeroV;simp[hz];grind)
      . exact cut (P:=L<=I/\I<=H) (.of (b:=bif decide (L<=I)then decide (I<=H)else false) (by by_cases g:L<=I <;> simp[g])) (by unfold ZeroV;simp[hz];grind)
      . exact cut (P:=(Sx.length:Int)<=M) (.of (b:=decide ((Sx.length:Int)<=M)) (by simp)) (by unfold ZeroV;simp[hz];grind)
      . obtain⟨r,_,r2,hf⟩:=lX (t:=⟨4,N,L,H,M,S,Ms,Ke,E,O⟩) ID hsy;have hid:cn (ID,false)=some (bif decide (1<=ID)then decide (ID<=1000)else false):=by rfl
        have h4:=k4r r2 O pl _ (fun b=>cn (ID,b)) hid;have hs:=oK hf;simp only at hs;refine cut (P:=(∃y,y∈S/\y.ID=ID)\/O=true/\pl=false/\I1000 ID) ⟨_,h4,?_⟩ (by unfold ZeroV;simp[hz];grind);rw[<-hs];unfold I1000
        grind
      . refine cut (P:=Is.length=Ms.length/\cb Ms R/\vfitm ts pl Ms Is) ?_ (by
         have:vfitm ts pl Ms Is->Is.length=Ms.length:=fun h=>(fH.1 h).1
         unfold ZeroV;simp[hz];grind)
        exact and5S (A:=decide ((Is.length:Int)=(Ms.length:Int))) (by simp;omega) (IG (t:=⟨5,N,L,H,M,S,Ms,Ke,E,O⟩) hm h3) (fun hA=>HN (ts:=ts) (t:=⟨5,N,L,H,M,S,Ms,Ke,E,O⟩) (v:=⟨5,B,I,Sx,ID,Ks,Is,R⟩) (wV hA) hm ihi pl)
      . obtain⟨r,_,r2,hf⟩:=cW (t:=⟨6,N,L,H,M,S,Ms,Ke,E,O⟩) ID hm;have hid:∀b,b=false->cn (ID,b)=some (bif decide (1<=ID)then decide (ID<=1000)else false):=by
         intro b hb;subst hb;rfl
        have hR0:decide ((R.length:Int)=1)=true->inR 0 R.length=true:=by
         intro h;have:=of_decide_eq_true h;exact au (k:=0) (by omega)
        refine cut (P:=match findM Ms ID with
         | some m=>R=[]/\Is.length=1/\vfits ts pl m.Type_ Is
         | none=>O=true/\pl=false/\I1000 ID/\Is=[]/\∃d,R=[⟨ID,d⟩]) ?_ (by
          unfold ZeroV;simp[hz]
          grind)
        obtain⟨ri,rk⟩:=r;show SaysP (cj (⟨6,N,L,H,M,S,Ms,Ke,E,O⟩,ID) >>=_) _;rw[r2];rcases fy hf with⟨e,k,k1,k2,k3,k4⟩ | ⟨e,k3⟩
        . simp only at e k1 k2 k3 k4;subst e;subst k2;rw[k3];have hX:∃f:Bool,((bif decide ((Is.length:Int)=1)then decide ((R.length:Int)=0)else false)=true->ck ((⟨ts⟩:av),(Ms.getD (k:Int).toNat ap).Type_,Is.getD (0:Int).toNat ag,pl)=some f)/\(Is.length=1->(f=true↔vfits ts pl (Ms.getD k ap).Type_ Is)):=by
           by_cases h1':Is.length=1
           . obtain⟨f,f1,f2⟩:=ihi (Is.getD 0 ag) (aB (by omega:0 < Is.length) ag) (Ms.getD k ap).Type_ pl;refine⟨f,fun _=>f1,fun _=>?_⟩;rw[f2]
             match Is,h1' with
             | [y],_=>rw[aW];simp
           . refine⟨false,fun h=>?_,fun h=>absurd h h1'⟩
             grind
          obtain⟨f,f1,f2⟩:=hX;have hidx:(bif decide ((Is.length:Int)=1)then decide ((R.length:Int)=0)else false)=true->inR (k:Int) Ms.length=true/\inR 0 Is.length=true:=by
           intro hc';refine⟨au k1,?_⟩;by_cases h1':Is.length=1
           . exact au (k:=0) (by omega)
           grind
          refine⟨_,k6k _ (inR (k:Int) Ms.length) (inR 0 Is.length) f f1 hidx,?_⟩;by_cases g1:Is.length=1
          . simp_all
          grind
        . simp only at e k3;subst e;rw[k3];refine⟨_,k6u (bif O then(!pl)else false) (bif decide (1<=ID)then decide (ID<=1000)else false) (decide ((Is.length:Int)=0)) (decide ((R.length:Int)=1)) (inR 0 R.length) (decide ((R.getD (0:Int).toNat az).ID=ID)) hR0,?_⟩;unfold I1000
          match R with
          | []=>simp
          | [⟨rid,rd⟩]=>cases O <;> cases pl <;> by_cases g1:1<=ID <;> by_cases g2:ID<=1000 <;> cases Is <;> by_cases g3:rid=ID <;> simp[g1,g2,g3] <;> omega
          | a::b::c=>simp;omega
      . exact cut (P:=(Is.length:Int)<=M/\vfits ts pl E Is) (and2S (by simp) (hitems E pl)) (by unfold ZeroV;simp[hz];grind)
      . refine cut (P:=((Ks.length:Int)<=M/\Is.length=Ks.length)/\vfits ts pl Ke Ks/\vfits ts pl E Is/\ew Ks) ?_ (by unfold ZeroV;simp[hz];grind);refine and8S (c:=bif decide (M < (Ks.length:Int))then true else(!(decide ((Is.length:Int)=(Ks.length:Int))))) ?_ (hkeys Ke pl) (hitems E pl) (IH (v:=⟨8,B,I,Sx,ID,Ks,Is,R⟩) (aT h1) hk)
        grind
      . exact cut (P:=Is.length<=1/\vfits ts pl E Is) (and2S (q:=decide ((Is.length:Int)<=1)) (by simp;omega) (hitems E pl)) (by unfold ZeroV;simp[hz];grind)
    . refine⟨false,by simp[hkd],?_⟩
      grind
end
theorem room1{n:Nat}(h:n<=70368744177664):room 1 n=true:=by
 unfold room bZ aV
 grind
theorem BP{n:Nat}(h:n<=2199023255552):room 24 n=true:=by
 unfold room bZ aV
 grind
theorem bws{s b:List UInt8}(h:b.length+s.length<=70368744177664):gW (s,b)=some ((s.length:Int),b++s):=by
 rw[gW];simp only[oZ4,oZ3];rw[if_pos (by simp),if_pos (room1 h)];rfl
theorem bstr(b:List UInt8):kQ b=some b:=by rw[kQ,if_pos (by simp[eqI])]
theorem Lv(a b:Nat):maxI (a:Int) (b:Int)=((max a b:Nat):Int):=by unfold maxI;omega
theorem br{α:Type}{l:List α}{i:Nat}(h:i < l.length)(d:α):l.drop i=l.getD i d::l.drop (i+1):=by simp_all
def ent(f:Fd):bn:=⟨(f.id:Int),f.text⟩
theorem HO{m:aj}(hm:OkV m.Default)(v:ab):nL (m,v)=some (om m v):=by
 rw[nL];unfold om;cases hd:m.HasDefault with
 | false=>simp
 | true=>
  obtain⟨r,h1,h2⟩:=HC hm v;simp only[ab.aD]
  grind
theorem Lw{m:aj}{v:ab}(hv:OkV v)(hd:m.HasDefault=true):cP (v,m.Default)=some (om m v):=by
 obtain⟨r,h1,h2⟩:=sV hv m.Default;rw[h1];unfold om
 grind
section
variable {ts:List ae}
def Wr(ts:List ae)(x:ab)(t:Int):Prop:=∀L D:Nat,1<=L->L+wt x<=1125899906842624->cD (t,x,(L:Int),ts,(D:Int))=some (vpay ts t x,ts,((max D (L+vlev ts t x - 1):Nat):Int))
theorem xV :∀{ms:List aj} {l:List ab},(vents ts ms l).length<=ms.length
 | [],l=>by
  rw[vents]
  . simp
  grind
 | m::ms,[]=>by
  rw[vents]
  . simp
  grind
 | m::ms,v::l=>by
  rw[vents];have:=xV (ms:=ms) (l:=l)
  grind
theorem iX(t:Int)(v:ab):1<=vlev ts t v:=by
 cases v;rw[vlev];omega
theorem BQ {Ms : List aj} {v : ab} (hM : Ms.length <= 1000) (hd : ∀ m, m ∈ Ms -> OkV m.Default) (hid : ∀ m, m ∈ Ms -> I1000 m.ID) (hl : v.Items.length = Ms.length) (hlen : ∀ x, x ∈ v.Items -> ∀ t, (vpay ts t x).length <= 70368744177664)
 (hw:∀i,i < Ms.length->om (Ms.getD i ap) (v.Items.getD i ag)=false->Wr ts (v.Items.getD i ag) (Ms.getD i ap).Type_) (L:Nat) (hL:1<=L) (hLw:L+wts v.Items < 1125899906842624):
 ∀(k i:Nat) (D:Nat) (acc:List bn),i+k=Ms.length->L<=D->acc.length+k<=100000->
 f8 ((L:Int),Ms,(Ms.length:Int),(i:Int),ts,(D:Int),v,acc)=some (ts,((max D (L+vlevm ts (Ms.drop i) (v.Items.drop i)):Nat):Int),v,acc++(vents ts (Ms.drop i) (v.Items.drop i)).map ent)
 | 0,i,D,acc,hi,hD,ha=>by
  rw[f8,if_neg (by simp;omega),ab.aD,List.drop_eq_nil_of_le (by omega:Ms.length<=i)];rw[vlevm,vents]
  . simp;omega
  . grind
  grind
 | k+1,i,D,acc,hi,hD,ha=>by
  have hlt:i < Ms.length:=by omega
  have hlt2:i < v.Items.length:=by omega
  rw[f8,if_pos (by simp;omega),if_pos (au hlt)];simp only[oZ4,oZ3,aw,ab.aD,cw];rw[if_pos (au hlt2),HO (hd _ (aB hlt ap))];rw[br hlt ap,br hlt2 ag,vlevm,vents];have hrec:=BQ hM hd hid hl hlen hw L hL hLw k (i+1);cases ho:om (Ms.getD i ap) (v.Items.getD i ag)with
  | true=>
   simp only[oZ3,Bool.not_true,Bool.false_eq_true,if_false,if_true];rw[aA (by omega)]
   grind
  | false=>
   have hmem:v.Items.getD i ag∈v.Items:=aB hlt2 ag;have hwm:=bd hmem;have hW:=hw i hlt ho (L+1) D (by omega) (by omega);have hlv:=iX (ts:=ts) (Ms.getD i ap).Type_ (v.Items.getD i ag);have hI:=hid _ (aB hlt ap);obtain⟨n,hn⟩:∃n:Nat,(Ms.getD i ap).ID=(n:Int):=⟨(Ms.getD i ap).ID.toNat,by unfold I1000 at hI;omega⟩
   simp only[oZ3,Bool.not_false,if_true,Bool.false_eq_true,if_false];have hpl:=hlen _ hmem (Ms.getD i ap).Type_;have e1:addI .i64 (L:Int) 1=((L+1:Nat):Int):=aA (by omega);rw[if_pos (au hlt2),e1,hW];simp only[oZ3];rw[hn,yR (by unfold I1000 at hI;omega) (by omega)];simp only[oZ3]
   rw[if_pos (BP (by simp;omega)),aA (by omega),hrec _ _ (by omega) (by omega) (by simp;omega)];have:(⟨(n:Int),bq n (Ms.getD i ap).Critical (vpay ts (Ms.getD i ap).Type_ (v.Items.getD i ag))⟩:bn)=ent ⟨(n:Int).toNat,(Ms.getD i ap).Critical,vpay ts (Ms.getD i ap).Type_ (v.Items.getD i ag)⟩:=by rfl
   simp_all
theorem BS {R : List aH} (hr : ∀ x, x ∈ R -> I1000 x.ID /\ x.Data.length <= reachBytes) (hR : R.length <= 2199023255552) (D : Int): ∀ (k i : Nat) (acc : List bn), i + k = R.length -> acc.length + k <= 2199023255552 ->
 f5 (R,(R.length:Int),(i:Int),ts,D,acc)=some (ts,D,acc++((R.drop i).map rawF).map ent)
 | 0,i,acc,hi,ha=>by
  rw[f5,if_neg (by simp;omega),List.drop_eq_nil_of_le (by omega:R.length<=i)];simp
 | k+1,i,acc,hi,ha=>by
  have hlt:i < R.length:=by omega
  obtain⟨hI,hdl⟩:=hr _ (aB hlt az);obtain⟨n,hn⟩:∃n:Nat,(R.getD i az).ID=(n:Int):=⟨(R.getD i az).ID.toNat,by unfold I1000 at hI;omega⟩
  unfold reachBytes at hdl;rw[f5,if_pos (by simp;omega),if_pos (au hlt)];simp only[oZ4,oZ3,aw];rw[hn,yR (by unfold I1000 at hI;omega) (by omega)];simp only[oZ3];rw[if_pos (BP (by simp;omega)),aA (by omega),BS hr hR D k (i+1) _ (by omega) (by simp;omega),br hlt az]
  have:(⟨(n:Int),bq n false (R.getD i az).Data⟩:bn)=ent (rawF (R.getD i az)):=by
   show _=(⟨(((R.getD i az).ID.toNat:Nat):Int),bq (R.getD i az).ID.toNat false (R.getD i az).Data⟩:bn)
   grind
  grind
theorem BU {l : List Fd} (D : Int): ∀ (k i : Nat) (b : List UInt8), i + k = l.length -> l.length <= 2199023255552 -> b.length + ((l.drop i).flatMap Fd.text).length <= 70368744177664 ->
 f7 ((l.length:Int),(i:Int),ts,D,l.map ent,b)=some (ts,D,b++(l.drop i).flatMap Fd.text)
 | 0,i,b,hi,_,hb=>by
  rw[f7,if_neg (by simp;omega),List.drop_eq_nil_of_le (by omega:l.length<=i)];simp
 | k+1,i,b,hi,hl,hb=>by
  have hlt:i < l.length:=by omega
  rw[f7,if_pos (by simp;omega),if_pos (au (by simp;omega)),if_pos (by simp;omega)];rw[br hlt default]at hb ⊢;simp only[List.flatMap_cons,List.length_append]at hb ⊢;have hg:(l.map ent).getD i jI=ent (l.getD i default):=bM ent l i default jI hlt;simp only[aw,hg];have:(ent (l.getD i default)).text=(l.getD i default).text:=rfl;rw[this,bws (by omega)]
  simp only[oZ4,oZ3];rw[aA (by omega),BU D k (i+1) _ (by omega) hl (by rw[List.length_append];omega)];simp
end
structure SOk (ts:List ae):Prop where
 n:ts.length<=1000
 T:∀t,t∈ts->OkT t
 K:∀t,t∈ts->dF t.Kind
 M:MOk ts
 A:∀x,x∈ts->(x.Kind=5\/x.Kind=6)->MAsc x.Members/\x.Members.length<=16
 S:∀x,x∈ts->x.Kind=4->∀y,y∈x.Symbols->I1000 y.ID
 Ky:∀x,x∈ts->x.Kind=8->1<=(ts.getD x.Key.toNat af).Kind/\(ts.getD x.Key.toNat af).Kind<=4
section
variable {ts:List ae}
theorem vpay1{t:Int}{v:ab}(h:(ts.getD t.toNat af).Kind=1):vpay ts t v=if v.Bool_=true then[1]else[]:=by cases v;rw[vpay];simp only[h];rfl
theorem vpay2{t:Int}{v:ab}(h:(ts.getD t.toNat af).Kind=2):vpay ts t v=vbig (zig v.Int_).toNat:=by cases v;rw[vpay];simp only[h];rfl
theorem vpay3{t:Int}{v:ab}(h:(ts.getD t.toNat af).Kind=3):vpay ts t v=v.Str:=by cases v;rw[vpay];simp only[h];rfl
theorem vpay4{t:Int}{v:ab}(h:(ts.getD t.toNat af).Kind=4):vpay ts t v=vbig v.ID.toNat:=by cases v;rw[vpay];simp only[h];rfl
theorem vpay5{t:Int}{v:ab}(h:(ts.getD t.toNat af).Kind=5):vpay ts t v=(isoB ltF (aZ ts (ts.getD t.toNat af).Members v.Items v.Rest)).flatMap Fd.text:=by cases v;rw[vpay];simp only[h];rfl
theorem vpay6 {t : Int} {v : ab} (h : (ts.getD t.toNat af).Kind = 6): vpay ts t v = vput v.ID.toNat ++ (match findM (ts.getD t.toNat af).Members v.ID with
 | some m=>(vpays ts m.Type_ v.Items).headD []
 | none=>(v.Rest.map aH.Data).headD []):=by
 cases v;rw[vpay];simp only[h];rfl
theorem vpay7{t:Int}{v:ab}(h:(ts.getD t.toNat af).Kind=7):vpay ts t v=(vpays ts (ts.getD t.toNat af).Elem v.Items).flatMap aP:=by cases v;rw[vpay];simp only[h];rfl
theorem vpay8{t:Int}{v:ab}(h:(ts.getD t.toNat af).Kind=8):vpay ts t v=ilv (vpays ts (ts.getD t.toNat af).Key v.Keys) (vpays ts (ts.getD t.toNat af).Elem v.Items):=by cases v;rw[vpay];simp only[h];rfl
theorem vpay9 {t : Int} {v : ab} (h : (ts.getD t.toNat af).Kind = 9): vpay ts t v = match vpays ts (ts.getD t.toNat af).Elem v.Items with
 | []=>[]
 | p::_=>1::p:=by
 cases v;rw[vpay];simp only[h];rfl
theorem gS (t : Int) (v : ab): vlev ts t v = 1 + max (if v.Keys = [] then 0 else 1) (if (ts.getD t.toNat af).Kind = 5 then vlevm ts (ts.getD t.toNat af).Members v.Items
 else if(ts.getD t.toNat af).Kind=6 then(match findM (ts.getD t.toNat af).Members v.ID with
  | some m=>vlevs ts m.Type_ v.Items
  | none=>0)
 else vlevs ts (ts.getD t.toNat af).Elem v.Items):=by
 cases v;rw[vlev];try rfl
theorem fI{t:Int}{v:ab}(hk:v.Keys=[])(hi:v.Items=[]):vlev ts t v=1:=by
 rw[gS,hk,hi];have h1:vlevs ts (ts.getD t.toNat af).Elem []=0:=by rw[vlevs]
 have h2:vlevm ts (ts.getD t.toNat af).Members []=0:=by rw[vlevm];intros;simp_all
 rw[h1,h2]
 have h3 : (match findM (ts.getD t.toNat af).Members v.ID with
  | some m=>vlevs ts m.Type_ []
  | none=>0)=0:=by
  split
  . rw[vlevs]
  . rfl
 grind
theorem xW {x : ae} {v : ab} (h8 : ¬ x.Kind = 8) (hlen : ∀ y, y ∈ v.Items -> (vpay ts x.Elem y).length <= 1000000000000000) (hw : ∀ y, y ∈ v.Items -> Wr ts y x.Elem) (hl : v.Items.length <= reachBytes) (L : Nat) (hL : 1 <= L) (hLw : L + wts v.Items < 1125899906842624):
 ∀(k i D:Nat) (acc:List UInt8),i+k=v.Items.length->L<=D->acc.length+((vpays ts x.Elem (v.Items.drop i)).flatMap aP).length<=70368744177664->
 dh ((L:Int),v.Items,(v.Items.length:Int),(i:Int),ts,(D:Int),v,x,acc)=some (ts,((max D (L+vlevs ts x.Elem (v.Items.drop i)):Nat):Int),acc++(vpays ts x.Elem (v.Items.drop i)).flatMap aP)
 | 0,i,D,acc,hi,hD,ha=>by
  rw[dh,if_neg (by simp;omega),List.drop_eq_nil_of_le (by omega:v.Items.length<=i),vlevs,vpays];simp;omega
 | k+1,i,D,acc,hi,hD,ha=>by
  have hlt:i < v.Items.length:=by omega
  have hr:=aT hl;have hmem:v.Items.getD i ag∈v.Items:=aB hlt ag;have hwm:=bd hmem;rw[br hlt ag,vpays,List.flatMap_cons,List.length_append]at ha;have hp:=hlen _ hmem;have hW:=hw _ hmem (L+1) D (by omega) (by omega);have hlv:=iX (ts:=ts) x.Elem (v.Items.getD i ag);have e1:addI .i64 (L:Int) 1=((L+1:Nat):Int):=aA (by omega)
  rw[dh,if_pos (by simp;omega),if_pos (au hlt)];simp only[oZ4,oZ3,aw,ab.aD];rw[if_neg (by simp[h8]),e1,hW];simp only[oZ3];rw[pu (by omega)];simp only[oZ3];rw[bws (by omega)];simp only[oZ3]
  rw[aA (by omega),xW h8 hlen hw hl L hL hLw k (i+1) _ _ (by omega) (by omega) (by rw[List.length_append];omega),br hlt ag,vlevs,vpays,List.flatMap_cons,List.append_assoc]
  grind
theorem y6 {x : ae} {v : ab} (h8 : x.Kind = 8) (hkl : v.Items.length = v.Keys.length) (hlen : ∀ y, y ∈ v.Items -> (vpay ts x.Elem y).length <= 1000000000000000) (hlenk : ∀ y, y ∈ v.Keys -> (vpay ts x.Key y).length <= 1000000000000000)
 (hw:∀y,y∈v.Items->Wr ts y x.Elem) (hwk:∀y,y∈v.Keys->Wr ts y x.Key) (h1:∀y,y∈v.Keys->vlev ts x.Key y=1) (hl:v.Items.length<=reachBytes) (L:Nat) (hL:1<=L) (hLw:L+wts v.Items+wts v.Keys < 1125899906842624):
 ∀(k i D:Nat) (acc:List UInt8),i+k=v.Items.length->L<=D->acc.length+(ilv (vpays ts x.Key (v.Keys.drop i)) (vpays ts x.Elem (v.Items.drop i))).length<=70368744177664->
 dh ((L:Int),v.Items,(v.Items.length:Int),(i:Int),ts,(D:Int),v,x,acc)=some (ts,((max D (L+max (if v.Keys.drop i=[]then 0 else 1) (vlevs ts x.Elem (v.Items.drop i))):Nat):Int),acc++ilv (vpays ts x.Key (v.Keys.drop i)) (vpays ts x.Elem (v.Items.drop i)))
 | 0,i,D,acc,hi,hD,ha=>by
  rw[dh,if_neg (by simp;omega),List.drop_eq_nil_of_le (by omega:v.Items.length<=i),List.drop_eq_nil_of_le (by omega:v.Keys.length<=i),vlevs,vpays,vpays,ilv]
  . simp;omega
  grind
 | k+1,i,D,acc,hi,hD,ha=>by
  have hlt:i < v.Items.length:=by omega
  have hlt2:i < v.Keys.length:=by omega
  have hr:=aT hl;have hmem:v.Items.getD i ag∈v.Items:=aB hlt ag;have hmem2:v.Keys.getD i ag∈v.Keys:=aB hlt2 ag;have hwm:=bd hmem;have hwm2:=bd hmem2;rw[br hlt ag,br hlt2 ag,vpays,vpays,ilv,List.length_append,List.length_append]at ha;have hp:=hlen _ hmem;have hp2:=hlenk _ hmem2;have hW2:=hwk _ hmem2 (L+1) D (by omega) (by omega);rw[h1 _ hmem2]at hW2
  have hW:=hw _ hmem (L+1) (max D (L+1+1 - 1)) (by omega) (by omega);have hlv:=iX (ts:=ts) x.Elem (v.Items.getD i ag);have e1:addI .i64 (L:Int) 1=((L+1:Nat):Int):=aA (by omega);rw[dh,if_pos (by simp;omega),if_pos (au hlt)];simp only[oZ4,oZ3,aw,ab.aD];rw[if_pos (by simp[h8]),if_pos (au hlt2),e1,hW2];simp only[oZ3]
  rw[pu (by omega)];simp only[oZ3];rw[bws (by omega)];simp only[oZ3];rw[hW];simp only[oZ3];rw[pu (by omega)];simp only[oZ3];rw[bws (by rw[List.length_append];omega)];simp only[oZ3]
  rw[aA (by omega),y6 h8 hkl hlen hlenk hw hwk h1 hl L hL hLw k (i+1) _ _ (by omega) (by omega) (by rw[List.length_append,List.length_append];omega),br hlt ag,br hlt2 ag,vlevs,vpays,vpays,ilv,List.append_assoc,List.append_assoc]
  grind
end
section
variable {ts:List ae} (H:SOk ts)
theorem ez(H:SOk ts){v:ab}(hv:OkV v)(hw:wt v<=1099511627776)(t:Int):(vpay ts t v).length<=23089744183296:=by
 have:=KG H.M hv hw t;omega
theorem IK{ms:List aj}{l:List ab}{r:List aH}(h:MAsc ms)(hr:cb ms r):qp ((aZ ts ms l r).map ent)=some ((isoB ltF (aZ ts ms l r)).map ent):=by
 have e:∀a b:Fd,sortLt (ent a) (ent b)=ltF a b:=fun a b=>by unfold sortLt ltF ent;simp
 have hO:SWO sortLt:=by refine⟨fun x=>?_,fun x y z h1 h2=>?_,fun x y z h1 h2=>?_⟩ <;> simp[sortLt]at* <;> omega
 have hp:cB sortLt ((aZ ts ms l r).map ent)=true:=by
  have h0:=lN (ts:=ts) (l:=l) h hr;generalize aZ ts ms l r=q at h0
  induction q with
  | nil=>rfl
  | cons a q ih=>
   simp only[cB,Bool.and_eq_true,List.all_eq_true,List.map_cons]at h0 ⊢
   grind
 unfold qp;rw[zR hO hp,yY ent e]
theorem mxs{D L b w:Nat}(h:w=1+b):max (max D L) (L+b)=max D (L+w - 1):=by omega
theorem mxq{D L b w:Nat}(h:w=1+b):max (max D L) (L+1+b - 1)=max D (L+w - 1):=by omega
theorem mx0{b w:Nat}(h:w=1+max 0 b):w=1+b:=by omega
theorem Lx {x : ae} {v : ab} (hdef : ∀ m, m ∈ x.Members -> OkV m.Default) (hma : MAsc x.Members) (hm16 : x.Members.length <= 16) (c6 : cb x.Members v.Rest) (hil : v.Items.length = x.Members.length)
 (hrd:∀y,y∈v.Rest->y.Data.length<=reachBytes) (hlenI:∀x,x∈v.Items->∀t,(vpay ts t x).length<=23089744183296)
 (hWI:∀i,i < x.Members.length->Wr ts (v.Items.getD i ag) (x.Members.getD i ap).Type_)
 (hlenv:((isoB ltF (aZ ts x.Members v.Items v.Rest)).flatMap Fd.text).length<=23089744183296)
 (L D:Nat) (hL:1<=L) (hD:L<=D) (hLw:L+wts v.Items < 1125899906842624) (hRw:(v.Rest.map fun x=>x.Data.length+1).sum<=1099511627776):
 nw (x,v,(L:Int),ts,(D:Int))=some ((isoB ltF (aZ ts x.Members v.Items v.Rest)).flatMap Fd.text,ts,((max D (L+vlevm ts x.Members v.Items):Nat):Int)):=by
 have hma1:=hma.2;have hRok:∀y,y∈v.Rest->I1000 y.ID/\y.Data.length<=reachBytes:=fun y hy=>⟨(c6.2 y hy).1,hrd y hy⟩
 have hRl:v.Rest.length<=(v.Rest.map fun x=>x.Data.length+1).sum:=by
  generalize v.Rest=R
  induction R with
  | nil=>simp
  | cons a R ih=>simp only[List.length_cons,List.map_cons,List.sum_cons];omega
 have hnl:=xV (ts:=ts) (ms:=x.Members) (l:=v.Items);have r0:=BQ (ts:=ts) (Ms:=x.Members) (v:=v) (by omega) hdef hma1 hil (fun y hy t=>by have:=hlenI y hy t;omega) (fun i hi _=>hWI i hi) L hL (by omega) x.Members.length 0 D [] (by omega) (by omega) (by simp;omega);have r0':f8 ((L:Int),x.Members,(x.Members.length:Int),0,ts,(D:Int),v,[])=_:=r0;rw[nw]
 simp only[ab.aD];rw[r0'];simp only[oZ4,oZ3,List.drop_zero,List.nil_append];generalize ((max D (L+vlevm ts x.Members v.Items):Nat):Int)=d;have r1:=BS (ts:=ts) (R:=v.Rest) hRok (by omega) d v.Rest.length 0 ((vents ts x.Members v.Items).map ent) (by omega) (by simp;omega)
 have r1':f5 (v.Rest,(v.Rest.length:Int),0,ts,d,(vents ts x.Members v.Items).map ent)=_:=r1;rw[r1'];simp only[oZ3,List.drop_zero];rw[<-List.map_append];have hs:=IK (ts:=ts) (l:=v.Items) hma c6;have hlen:(aZ ts x.Members v.Items v.Rest).length<=2199023255552:=by unfold aZ;simp;omega
 have e0:vents ts x.Members v.Items++v.Rest.map rawF=aZ ts x.Members v.Items v.Rest:=rfl;rw[e0];generalize aZ ts x.Members v.Items v.Rest=q at*;rw[hs];simp only[oZ3];have hperm:=cX ltF q;rw[if_pos (by simp[hperm.length_eq])];have hll:(isoB ltF q).length<=2199023255552:=by rw[hperm.length_eq];exact hlen
 generalize isoB ltF q=z at*;have r2:=BU (ts:=ts) (l:=z) d z.length 0 [] (Nat.zero_add _) hll (by simp only[List.drop_zero,List.length_nil];omega);have r2':f7 (((z.map ent).length:Int),0,ts,d,z.map ent,[])=some (ts,d,[]++(z.drop 0).flatMap Fd.text):=by grind
 rw[r2'];simp only[oZ3,bstr,List.drop_zero,List.nil_append]
theorem IL {x : ae} {v : ab} (hm : x.Members.length < 9223372036854775807) (hma : MAsc x.Members) (n3 : -9223372036854775808 <= v.ID /\ v.ID <= 9223372036854775807)
 (c5:match findM x.Members v.ID with
  | some m=>v.Rest=[]/\v.Items.length=1/\vfits ts false m.Type_ v.Items
  | none=>x.Open=true/\True/\I1000 v.ID/\v.Items=[]/\∃d,v.Rest=[⟨v.ID,d⟩])
 (hrd:∀y,y∈v.Rest->y.Data.length<=reachBytes) (hlenI:∀x,x∈v.Items->∀t,(vpay ts t x).length<=23089744183296)
 (hWI:∀x,x∈v.Items->∀t,vfit ts false t x->Wr ts x t)
 (L D:Nat) (hL:1<=L) (hD:L<=D) (hLw:L+wts v.Items < 1125899906842624):
 kZ (x, v, (L : Int), ts, (D : Int)) = some (vput v.ID.toNat ++ (match findM x.Members v.ID with
  | some m=>(vpays ts m.Type_ v.Items).headD []
  | none=>(v.Rest.map aH.Data).headD []),ts,((max D (L+(match findM x.Members v.ID with
  | some m=>vlevs ts m.Type_ v.Items
  | none=>0)):Nat):Int)):=by
 obtain⟨r,r1,_,hf⟩:=cW (t:=x) v.ID hm;rcases fy hf with⟨e,q,q1,q2,q3,q4⟩ | ⟨e,q3⟩
 . rw[q3]at c5;rw[q3];simp only at c5 ⊢;obtain⟨d1,d2,d3⟩:=c5;have hI:=hma.2 _ (aB q1 ap);rw[q4]at hI;obtain⟨n,hn⟩:∃n:Nat,v.ID=(n:Int):=⟨v.ID.toNat,by unfold I1000 at hI;omega⟩
   rw[kZ];simp only[ab.aD];rw[r1,hn,wrpn (by unfold I1000 at hI;omega),ni (by unfold I1000 at hI;omega)];simp only[oZ4,oZ3];rw[if_neg (by simp[e]),q2,if_pos (au q1)]
   match hI:v.Items,d2 with
   | [y],_=>
    have hy:y∈v.Items:=by rw[hI];exact .head _
    have hi0:inR 0 ([y]:List ab).length=true:=au (k:=0) (by simp);have hwm:=bd hy;have hf:=aW.1 d3 y hy;have hW:=hWI y hy _ hf (L+1) D (by omega) (by omega);have e1:addI .i64 (L:Int) 1=((L+1:Nat):Int):=aA (by omega);rw[if_pos hi0,e1];simp only[aw,Int.toNat_zero,List.getD_cons_zero];rw[hW];have hp:=hlenI y hy (x.Members.getD q ap).Type_
    have hp10:=cK (n:=n) (by rw[hn]at n3;omega);simp only[oZ3];rw[if_pos (bR (by omega))];have hlv:=iX (ts:=ts) (x.Members.getD q ap).Type_ y;have ev:vlevs ts (x.Members.getD q ap).Type_ [y]=vlev ts (x.Members.getD q ap).Type_ y:=by
     have e0:vlevs ts (x.Members.getD q ap).Type_ []=0:=by rw[vlevs]
     rw[vlevs,e0];omega
    have ep:vpays ts (x.Members.getD q ap).Type_ [y]=[vpay ts (x.Members.getD q ap).Type_ y]:=by rw[vpays,vpays]
    have e:max D (L+1+vlev ts (x.Members.getD q ap).Type_ y - 1)=max D (L+vlev ts (x.Members.getD q ap).Type_ y):=by omega
    rw[ep,ev,e];rfl
 . rw[q3]at c5;rw[q3];simp only at c5 ⊢;obtain⟨d1,d2,d3,d4,d,d5⟩:=c5;obtain⟨n,hn⟩:∃n:Nat,v.ID=(n:Int):=⟨v.ID.toNat,by unfold I1000 at d3;omega⟩
   have hdl:=hrd ⟨v.ID,d⟩ (by rw[d5];exact .head _);simp only at hdl;unfold reachBytes at hdl;have hp10:=cK (n:=n) (by rw[hn]at n3;omega);rw[kZ];simp only[ab.aD];rw[r1,d5,hn,wrpn (by unfold I1000 at d3;omega),ni (by unfold I1000 at d3;omega)];simp only[oZ4,oZ3]
   have hi0:inR 0 ([⟨(n:Int),d⟩]:List aH).length=true:=au (k:=0) (by simp);rw[if_pos (by simp[e]),if_pos hi0];simp only[Int.toNat_zero,List.getD_cons_zero];rw[if_pos (bR (by omega))];have e:max D (L+0)=D:=by omega
   rw[e];rfl
set_option maxHeartbeats 400000 in
theorem Ly(H:SOk ts){v:ab}(hv:OkV v):wt v<=1099511627776->∀t,vfit ts false t v->Wr ts v t:=by
 induction hv with
 | mk v hs h1 h2 h3 hk hi hrd n1 n2 n3 n4 ihk ihi=>
  intro hw t hf L D hL hLw;have hOk:OkV v:= .mk v hs h1 h2 h3 hk hi hrd n1 n2 n3 n4;have hwt:=wt_eq v;have hlenI:∀x,x∈v.Items->∀t,(vpay ts t x).length<=23089744183296:=fun x hx t=>ez H (hi x hx) (by have:=bd hx;omega) t
  have hlenK:∀x,x∈v.Keys->∀t,(vpay ts t x).length<=23089744183296:=fun x hx t=>ez H (hk x hx) (by have:=bd hx;omega) t
  have hWI:∀x,x∈v.Items->∀t,vfit ts false t x->Wr ts x t:=fun x hx t=>ihi x hx (by have:=bd hx;omega) t
  have hWK:∀x,x∈v.Keys->∀t,vfit ts false t x->Wr ts x t:=fun x hx t=>ihk x hx (by have:=bd hx;omega) t
  have hlenv:=ez H hOk hw t;obtain⟨⟨g1,g2,g3,_⟩,hf⟩:=(cZ _ _ _).1 hf;obtain⟨j,rfl⟩:∃j:Nat,t=(j:Int):=⟨t.toNat,by omega⟩
  have hj:j < ts.length:=by omega
  rw[cD];simp only[oZ4,oZ3];rw[if_pos (au hj),Lv];simp only[aw,ab.aD]at hf g3 ⊢;have hxm:=aB hj af;have hlev:=gS (ts:=ts) (j:Int) v;have hv1:=@vpay1 ts (j:Int) v;have hv2:=@vpay2 ts (j:Int) v;have hv3:=@vpay3 ts (j:Int) v;have hv4:=@vpay4 ts (j:Int) v;have hv5:=@vpay5 ts (j:Int) v;have hv6:=@vpay6 ts (j:Int) v
  have hv7:=@vpay7 ts (j:Int) v;have hv8:=@vpay8 ts (j:Int) v;have hv9:=@vpay9 ts (j:Int) v;simp only[aw]at hlev hv1 hv2 hv3 hv4 hv5 hv6 hv7 hv8 hv9;have hA:=H.A _ hxm;have hKy:=H.Ky _ hxm;have hS:=H.S _ hxm;generalize ts.getD j af=x at*;have hlE:¬x.Kind=5->¬x.Kind=6->v.Keys=[]->vlev ts (j:Int) v=1+vlevs ts x.Elem v.Items:=fun a b c=>by grind
  have leaf:v.Keys=[]->v.Items=[]->max D (L+vlev ts (j:Int) v - 1)=max D L:=fun a b=>by rw[fI a b];omega
  rcases hf with⟨k,c1,c2,c3,c4,c5,c6⟩ | ⟨k,c1,c2,c3,c4,c5,c6,c7,c8⟩ | ⟨k,c1,c2,c3,c4,c5,c6,c7⟩ | ⟨k,c1,c2,c3,c4,c5,c6,c7⟩ | ⟨k,c1,c2,c3,c4,c5,c6,c7⟩ | ⟨k,c1,c2,c3,c4,c5⟩ | ⟨k,c1,c2,c3,c4,c5,c6,c7,c8⟩ | ⟨k,c1,c2,c3,c4,c5,c6,c7,c8,c9,c10⟩ | ⟨k,c1,c2,c3,c4,c5,c6,c7,c8⟩ <;> rw[k]at g3
  . grind
  . have kx:=g3.symm;rw[if_neg (by simp[kx]),if_pos (by simp[kx]),hv2 kx,leaf c4 c5,nk n2];simp only[oZ3];have hz:=pX n2;obtain⟨n,hn⟩:∃n:Nat,zig v.Int_=(n:Int):=⟨(zig v.Int_).toNat,by unfold zig;split <;> omega⟩
    rw[hn,Int.toNat_natCast]at hz;rw[hn,BO hz];rfl
  . have kx:=g3.symm;rw[if_neg (by simp[kx]),if_neg (by simp[kx]),if_pos (by simp[kx]),hv3 kx,leaf c4 c5]
  . have kx:=g3.symm;rw[if_neg (by simp[kx]),if_neg (by simp[kx]),if_neg (by simp[kx]),if_pos (by simp[kx]),hv4 kx,leaf c4 c5]
    obtain⟨n,hn⟩:∃n:Nat,v.ID=(n:Int):=⟨v.ID.toNat,by
     rcases c7 with⟨y,hy,he⟩ | ⟨_,_,he⟩
     . have:=hS kx y hy;unfold I1000 at this;omega
     . unfold I1000 at he;omega⟩
    rw[hn,wrpn (by omega),BO (by omega),Int.toNat_natCast];rfl
  . have kx:=g3.symm;rw[if_neg (by simp[kx]),if_neg (by simp[kx]),if_neg (by simp[kx]),if_neg (by simp[kx]),if_pos (by simp[kx]),hv5 kx];obtain⟨hma,hm16⟩:=hA (.inl kx);obtain⟨hil,hip⟩:=fH.1 c7
    rw[Lx (H.T _ hxm).dv hma hm16 c6 hil (fun y hy=>hrd y hy) hlenI (fun i hi=>hWI _ (aB (by omega) ag) _ (hip i hi)) (by rw[<-hv5 kx];exact hlenv) L (max D L) hL (by omega) (by omega) (by omega)];simp only[oZ3];rw[if_pos kx,if_pos c5]at hlev;have e:max (max D L) (L+vlevm ts x.Members v.Items)=max D (L+vlev ts (j:Int) v - 1):=mxs (mx0 hlev);rw[e]
  . have kx:=g3.symm;rw[if_neg (by simp[kx]),if_neg (by simp[kx]),if_neg (by simp[kx]),if_neg (by simp[kx]),if_neg (by simp[kx]),if_pos (by simp[kx]),hv6 kx];obtain⟨hma,hm16⟩:=hA (.inr kx);rw[if_neg (show ¬x.Kind=5 by omega),if_pos kx,if_pos c4]at hlev;rw[IL (aT (bN (H.T _ hxm).mems)) hma n3 c5 (fun y hy=>hrd y hy) hlenI hWI L (max D L) hL (by omega) (by omega)]
    simp only[oZ3]
    exact congrArg (fun z : Nat => (some (vput v.ID.toNat ++ (match findM x.Members v.ID with
     | some m=>(vpays ts m.Type_ v.Items).headD []
     | none=>(v.Rest.map aH.Data).headD []),ts,(z:Int)):Option (List UInt8×List ae×Int))) (mxs (D:=D) (L:=L) (mx0 hlev))
  . have kx:=g3.symm;rw[if_neg (by simp[kx]),if_neg (by simp[kx]),if_neg (by simp[kx]),if_neg (by simp[kx]),if_neg (by simp[kx]),if_neg (by simp[kx]),if_neg (by simp[kx])];have hf:=aW.1 c8;rw[hv7 kx]at hlenv
    have:=xW (x:=x) (v:=v) (by omega) (fun y hy=>by have:=hlenI y hy x.Elem;omega) (fun y hy=>hWI y hy x.Elem (hf y hy)) h2 L hL (by omega) v.Items.length 0 (max D L) [] (by omega) (by omega) (by simp only[List.drop_zero,List.length_nil];omega);have h0:dh ((L:Int),v.Items,(v.Items.length:Int),0,ts,((max D L:Nat):Int),v,x,[])=_:=this;rw[h0]
    simp only[oZ3,bstr];have hl:=hlE (by omega) (by omega) c5;have e:max (max D L) (L+vlevs ts x.Elem v.Items)=max D (L+vlev ts (j:Int) v - 1):=mxs hl;rw[hv7 kx,List.drop_zero,List.nil_append,e]
  . have kx:=g3.symm;rw[if_neg (by simp[kx]),if_neg (by simp[kx]),if_neg (by simp[kx]),if_neg (by simp[kx]),if_neg (by simp[kx]),if_neg (by simp[kx]),if_neg (by simp[kx])];have hf:=aW.1 c9;have hfk:=aW.1 c8;rw[hv8 kx]at hlenv;obtain⟨ky1,ky2⟩:=hKy kx;have hl1:∀y,y∈v.Keys->vlev ts x.Key y=1:=fun y hy=>by
     obtain⟨⟨_,_,b3,_⟩,b⟩:=(cZ _ _ _).1 (hfk y hy);apply fI <;> grind
    have:=y6 (x:=x) (v:=v) kx c7 (fun y hy=>by have:=hlenI y hy x.Elem;omega) (fun y hy=>by have:=hlenK y hy x.Key;omega) (fun y hy=>hWI y hy x.Elem (hf y hy)) (fun y hy=>hWK y hy x.Key (hfk y hy)) hl1 h2 L hL (by omega) v.Items.length 0 (max D L) [] (by omega) (by omega) (by simp only[List.drop_zero,List.length_nil];omega)
    have h0:dh ((L:Int),v.Items,(v.Items.length:Int),0,ts,((max D L:Nat):Int),v,x,[])=_:=this;rw[h0];simp only[oZ3,bstr];rw[if_neg (show ¬x.Kind=5 by omega),if_neg (show ¬x.Kind=6 by omega)]at hlev;simp only[List.drop_zero,List.nil_append]
    have e:max (max D L) (L+max (if v.Keys=[]then 0 else 1) (vlevs ts x.Elem v.Items))=max D (L+vlev ts (j:Int) v - 1):=mxs hlev;rw[hv8 kx,e]
  . have kx:=g3.symm;rw[if_neg (by simp[kx]),if_neg (by simp[kx]),if_neg (by simp[kx]),if_neg (by simp[kx]),if_neg (by simp[kx]),if_neg (by simp[kx]),if_pos (by simp[kx]),hv9 kx];have hf:=aW.1 c8
    match hI:v.Items,c7 with
    | [],_=>rw[if_pos (by simp),leaf c5 hI,vpays]
    | [y],_=>
     have hy:y∈v.Items:=by rw[hI];exact .head _
     have hi0:inR 0 ([y]:List ab).length=true:=au (k:=0) (by simp);rw[if_neg (by simp),if_pos hi0];have hwm:=bd hy;have hW:=hWI y hy x.Elem (hf y hy) (L+1) (max D L) (by omega) (by omega);have e1:addI .i64 (L:Int) 1=((L+1:Nat):Int):=aA (by omega);rw[e1];simp only[Int.toNat_zero,List.getD_cons_zero];rw[hW];have hp:=hlenI y hy x.Elem
     simp only[oZ3];rw[if_pos (bR (by simp;omega))];have hl:=hlE (by omega) (by omega) c5;rw[hI]at hl;have hlv:=iX (ts:=ts) x.Elem y;have ev:vlevs ts x.Elem [y]=vlev ts x.Elem y:=by
      have e0:vlevs ts x.Elem []=0:=by rw[vlevs]
      rw[vlevs,e0];omega
     have ep:vpays ts x.Elem [y]=[vpay ts x.Elem y]:=by rw[vpays,vpays]
     rw[ev]at hl;have e:max (max D L) (L+1+vlev ts x.Elem y - 1)=max D (L+vlev ts (j:Int) v - 1):=mxq hl;rw[ep,e];rfl
    | a::b::c,h=>simp at h
end
section
variable {ts:List ae}
def Rp(ts:List ae)(x:ab)(t:Int):Prop:=cR ((⟨ts⟩:av),t,x)=some (vpay ts t x)
theorem y7 {x : ae} {v : ab} (hlen : ∀ y, y ∈ v.Items -> (vpay ts x.Elem y).length <= 1000000000000000) (hw : ∀ y, y ∈ v.Items -> Rp ts y x.Elem) (hl : v.Items.length <= reachBytes):
 ∀(k i:Nat) (acc:List UInt8),i+k=v.Items.length->acc.length+((vpays ts x.Elem (v.Items.drop i)).flatMap aP).length<=70368744177664->
 gZ (acc,(i:Int),ts,v,x)=some (acc++(vpays ts x.Elem (v.Items.drop i)).flatMap aP)
 | 0,i,acc,hi,ha=>by
  rw[gZ,if_neg (by simp;omega),List.drop_eq_nil_of_le (by omega:v.Items.length<=i),vpays];simp
 | k+1,i,acc,hi,ha=>by
  have hlt:i < v.Items.length:=by omega
  have hr:=aT hl;have hmem:v.Items.getD i ag∈v.Items:=aB hlt ag;rw[br hlt ag,vpays,List.flatMap_cons,List.length_append]at ha;have hp:=hlen _ hmem;have hW:=hw _ hmem;unfold Rp at hW;rw[gZ,if_pos (by simp;omega),if_pos (au hlt)];simp only[oZ4,oZ3,aw,ab.aD];rw[hW];simp only[oZ3];rw[oy (by omega)];simp only[oZ3]
  rw[if_pos (bR (by omega)),aA (by omega),y7 hlen hw hl k (i+1) _ (by omega) (by rw[List.length_append];omega),br hlt ag,vpays,List.flatMap_cons,List.append_assoc]
theorem Ae {x : ae} {v : ab} (hkl : v.Items.length = v.Keys.length) (hlen : ∀ y, y ∈ v.Items -> (vpay ts x.Elem y).length <= 1000000000000000) (hlenk : ∀ y, y ∈ v.Keys -> (vpay ts x.Key y).length <= 1000000000000000)
 (hw:∀y,y∈v.Items->Rp ts y x.Elem) (hwk:∀y,y∈v.Keys->Rp ts y x.Key) (hl:v.Items.length<=reachBytes):
 ∀(k i:Nat) (acc:List UInt8),i+k=v.Items.length->acc.length+(ilv (vpays ts x.Key (v.Keys.drop i)) (vpays ts x.Elem (v.Items.drop i))).length<=70368744177664->
 g6 (acc,(i:Int),ts,v,x)=some (acc++ilv (vpays ts x.Key (v.Keys.drop i)) (vpays ts x.Elem (v.Items.drop i)))
 | 0,i,acc,hi,ha=>by
  rw[g6,if_neg (by simp;omega),List.drop_eq_nil_of_le (by omega:v.Items.length<=i),List.drop_eq_nil_of_le (by omega:v.Keys.length<=i),vpays,vpays,ilv]
  . simp
  grind
 | k+1,i,acc,hi,ha=>by
  have hlt:i < v.Items.length:=by omega
  have hlt2:i < v.Keys.length:=by omega
  have hr:=aT hl;have hmem:v.Items.getD i ag∈v.Items:=aB hlt ag;have hmem2:v.Keys.getD i ag∈v.Keys:=aB hlt2 ag;rw[br hlt ag,br hlt2 ag,vpays,vpays,ilv,List.length_append,List.length_append]at ha;have hp:=hlen _ hmem;have hp2:=hlenk _ hmem2;have hW:=hw _ hmem;have hW2:=hwk _ hmem2;unfold Rp at hW hW2;rw[g6,if_pos (by simp;omega),if_pos (au hlt2)]
  simp only[oZ4,oZ3,aw,ab.aD];rw[hW2];simp only[oZ3];rw[oy (by omega)];simp only[oZ3];rw[if_pos (bR (by omega)),if_pos (au hlt),hW];simp only[oZ3];rw[oy (by omega)];simp only[oZ3]
  rw[if_pos (bR (by rw[List.length_append];omega)),aA (by omega),Ae hkl hlen hlenk hw hwk hl k (i+1) _ (by omega) (by rw[List.length_append,List.length_append];omega),br hlt ag,br hlt2 ag,vpays,vpays,ilv,List.append_assoc,List.append_assoc]
def df(R:List aH)(n:Nat):List Fd:=(R.filter fun x=>decide (x.ID=(n:Int))).map rawF
theorem HP{a:aH}{l:List aH}{n:Nat}(h:a.ID=(n:Int)):df (a::l) n=rawF a::df l n:=by unfold df;rw[List.filter_cons,if_pos (by rw[h];simp),List.map_cons]
theorem IM{a:aH}{l:List aH}{n:Nat}(h:¬a.ID=(n:Int)):df (a::l) n=df l n:=by unfold df;rw[List.filter_cons,if_neg (by simpa using h)]
theorem refOm {γ : Type} {m : aj} {w : ab} (hw : OkV w) (A B : Option γ):
 ((if(!(!m.HasDefault))=true then cP (w,m.Default)else some false).bind fun r_19=>if(bif (!m.HasDefault)then true else(!r_19))=true then A else B)=if om m w=true then B else A:=by
 cases hd:m.HasDefault with
 | false=>
  have:om m w=false:=by unfold om;rw[hd];rfl
  rw[this];rfl
 | true=>
  have:=Lw hw hd;simp only[Bool.not_true,Bool.not_false,if_true,this];cases om m w <;> rfl
theorem rO {x : ae} {v : ab} (hr : ∀ y, y ∈ v.Rest -> y.Data.length <= reachBytes) (hR : v.Rest.length <= reachBytes) (n : Nat) (hn : n <= 1000):
 ∀(k i:Nat) (out:List UInt8),i+k=v.Rest.length->out.length+((df (v.Rest.drop i) n).flatMap Fd.text).length<=70368744177664->
 dm (out,(n:Int),(i:Int),ts,v,x)=some (out++(df (v.Rest.drop i) n).flatMap Fd.text,(n:Int),ts,v,x)
 | 0,i,out,hi,ha=>by
  rw[dm,if_neg (by simp;omega),List.drop_eq_nil_of_le (by omega:v.Rest.length<=i),ab.aD];simp[df]
 | k+1,i,out,hi,ha=>by
  have hlt:i < v.Rest.length:=by omega
  have hrr:=aT hR;have hd:=hr _ (aB hlt az);unfold reachBytes at hd;rw[br hlt az]at ha;rw[dm,if_pos (by simp;omega),if_pos (au hlt)];simp only[oZ4,oZ3,aw,ab.aD];rw[br hlt az];by_cases e:(v.Rest.getD i az).ID=(n:Int)
  . rw[HP e,List.flatMap_cons]at ha ⊢;have ht:(rawF (v.Rest.getD i az)).text=bq n false (v.Rest.getD i az).Data:=by unfold rawF Fd.text;rw[e];rfl
    rw[ht,List.length_append]at ha;rw[if_pos (by rw[e];simp),if_pos (au hlt),vT (by omega) (by omega)];simp only[oZ3];rw[if_pos (bR (by omega)),aA (by omega),rO hr hR n hn k (i+1) _ (by omega) (by rw[List.length_append];omega),ht,List.append_assoc]
  . rw[IM e]at ha ⊢;rw[if_neg (by simpa using e),aA (by omega),rO hr hR n hn k (i+1) _ (by omega) ha]
noncomputable def grp (ts:List ae) (x:ae) (v:ab) (n:Nat):List Fd:=(aZ ts x.Members v.Items v.Rest).filter fun f=>decide (f.id=n)
theorem sX {x : ae} {v : ab} (hm : x.Members.length < 9223372036854775807) (hma : MAsc x.Members) (hrk : cb x.Members v.Rest) (hil : v.Items.length = x.Members.length)
 (hr:∀y,y∈v.Rest->y.Data.length<=reachBytes) (hR:v.Rest.length<=reachBytes) (hok:∀y,y∈v.Items->OkV y) (hlenI:∀x,x∈v.Items->∀t,(vpay ts t x).length<=23089744183296)
 (hw:∀i,i < x.Members.length->Rp ts (v.Items.getD i ag) (x.Members.getD i ap).Type_):
 ∀(k n:Nat) (out:List UInt8),n+k=1001->1<=n->out.length+(((List.range' n k).flatMap (grp ts x v)).flatMap Fd.text).length<=70368744177664->
 eV (out,(n:Int),ts,v,x)=some (out++((List.range' n k).flatMap (grp ts x v)).flatMap Fd.text)
 | 0,n,out,hi,h1,ha=>by
  rw[eV,if_neg (by simp;omega)];simp
 | k+1,n,out,hi,h1,ha=>by
  have hid0:∀y,y∈v.Rest->0<=y.ID:=fun y hy=>by have:=(hrk.2 y hy).1;unfold I1000 at this;omega
  have hg:grp ts x v n=((vents ts x.Members v.Items).filter fun f=>decide (f.id=n))++df v.Rest n:=by
   unfold grp aZ df;rw[List.filter_append,GA _ _ hid0]
  rw[List.range'_succ,List.flatMap_cons,List.flatMap_append,hg,List.flatMap_append]at ha ⊢;simp only[List.length_append]at ha;rw[eV,if_pos (by simp;omega)];obtain⟨r,_,r2,hf⟩:=cW (t:=x) (n:Int) hm;simp only[oZ4,oZ3,aw,ab.aD];rw[r2];simp only[oZ3]
  have inner:∀out':List UInt8,out'.length+((df v.Rest n).flatMap Fd.text).length<=70368744177664->dm (out',(n:Int),0,ts,v,x)=some (out'++(df v.Rest n).flatMap Fd.text,(n:Int),ts,v,x):=fun out' h=>by
   have:=rO (ts:=ts) (x:=x) hr hR n (by omega) v.Rest.length 0 out' (by omega) (by simpa using h)
   grind
  rcases fy hf with⟨e,j,q1,q2,q3,q4⟩ | ⟨e,q3⟩
  . have hlt2:j < v.Items.length:=by omega
    have hmem:v.Items.getD j ag∈v.Items:=aB hlt2 ag;have hfd:=lY (ts:=ts) (mG hma) hil q1 (n:=n) (by rw[q4];simp);rw[if_pos e,q2,if_pos (au q1)];rw[if_pos (by rw[au hlt2];rfl)];simp only[aw];rw[refOm (hok _ hmem)];have hrec:=sX hm hma hrk hil hr hR hok hlenI hw k (n+1);cases ho:om (x.Members.getD j ap) (v.Items.getD j ag)with
    | true=>
     rw[ho,if_pos rfl]at hfd;rw[hfd]at ha ⊢;rw[if_pos rfl,inner out (by omega)];simp only[oZ3,ab.aD];rw[aA (by omega),hrec _ (by omega) (by omega) (by rw[List.length_append];omega)];simp
    | false=>
     rw[ho,if_neg (by simp)]at hfd;rw[hfd]at ha ⊢;have hp:=hlenI _ hmem (x.Members.getD j ap).Type_;have hW:=hw j q1;unfold Rp at hW
     have ht:([⟨n,(x.Members.getD j ap).Critical,vpay ts (x.Members.getD j ap).Type_ (v.Items.getD j ag)⟩]:List Fd).flatMap Fd.text=bq n (x.Members.getD j ap).Critical (vpay ts (x.Members.getD j ap).Type_ (v.Items.getD j ag)):=by simp only[List.flatMap_cons,List.flatMap_nil,List.append_nil];rfl
     rw[ht]at ha ⊢;rw[if_neg (by simp),if_pos (au hlt2),hW];simp only[oZ3];rw[vT (by omega) (by omega)];simp only[oZ3];rw[if_pos (bR (by omega)),inner _ (by rw[List.length_append];omega)];simp only[oZ3,ab.aD];rw[aA (by omega),hrec _ (by omega) (by omega) (by rw[List.length_append,List.length_append];omega)]
     grind
  . have hnone:((vents ts x.Members v.Items).filter fun f=>decide (f.id=n))=[]:=wZ fun m hm'=>by
     have:=fD q3 m hm';omega
    rw[hnone]at ha ⊢;rw[if_neg (by simp[e]),inner out (by omega)];simp only[oZ3,ab.aD];rw[aA (by omega),sX hm hma hrk hil hr hR hok hlenI hw k (n+1) _ (by omega) (by omega) (by rw[List.length_append];omega)];simp
end
section
variable {ts:List ae}
set_option maxHeartbeats 400000 in
theorem Lz(H:SOk ts){v:ab}(hv:OkV v):wt v<=1099511627776->∀t,vfit ts false t v->Rp ts v t:=by
 induction hv with
 | mk v hs h1 h2 h3 hk hi hrd n1 n2 n3 n4 ihk ihi=>
  intro hw t hf;have hOk:OkV v:= .mk v hs h1 h2 h3 hk hi hrd n1 n2 n3 n4;have hwt:=wt_eq v;have hlenI:∀x,x∈v.Items->∀t,(vpay ts t x).length<=23089744183296:=fun x hx t=>ez H (hi x hx) (by have:=bd hx;omega) t
  have hlenK:∀x,x∈v.Keys->∀t,(vpay ts t x).length<=23089744183296:=fun x hx t=>ez H (hk x hx) (by have:=bd hx;omega) t
  have hWI:∀x,x∈v.Items->∀t,vfit ts false t x->Rp ts x t:=fun x hx t=>ihi x hx (by have:=bd hx;omega) t
  have hWK:∀x,x∈v.Keys->∀t,vfit ts false t x->Rp ts x t:=fun x hx t=>ihk x hx (by have:=bd hx;omega) t
  have hlenv:=ez H hOk hw t;obtain⟨⟨g1,g2,g3,_⟩,hf⟩:=(cZ _ _ _).1 hf;obtain⟨j,rfl⟩:∃j:Nat,t=(j:Int):=⟨t.toNat,by omega⟩
  have hj:j < ts.length:=by omega
  unfold Rp;rw[cR,if_pos (au hj)];simp only[oZ4,oZ3,aw,ab.aD]at hf g3 ⊢;have hxm:=aB hj af;have hv1:=@vpay1 ts (j:Int) v;have hv2:=@vpay2 ts (j:Int) v;have hv3:=@vpay3 ts (j:Int) v;have hv4:=@vpay4 ts (j:Int) v;have hv5:=@vpay5 ts (j:Int) v;have hv6:=@vpay6 ts (j:Int) v;have hv7:=@vpay7 ts (j:Int) v
  have hv8:=@vpay8 ts (j:Int) v;have hv9:=@vpay9 ts (j:Int) v;simp only[aw]at hv1 hv2 hv3 hv4 hv5 hv6 hv7 hv8 hv9;have hA:=H.A _ hxm;have hS:=H.S _ hxm;have hm:=aT (bN (H.T _ hxm).mems);generalize ts.getD j af=x at*
  rcases hf with⟨k,c1,c2,c3,c4,c5,c6⟩ | ⟨k,c1,c2,c3,c4,c5,c6,c7,c8⟩ | ⟨k,c1,c2,c3,c4,c5,c6,c7⟩ | ⟨k,c1,c2,c3,c4,c5,c6,c7⟩ | ⟨k,c1,c2,c3,c4,c5,c6,c7⟩ | ⟨k,c1,c2,c3,c4,c5⟩ | ⟨k,c1,c2,c3,c4,c5,c6,c7,c8⟩ | ⟨k,c1,c2,c3,c4,c5,c6,c7,c8,c9,c10⟩ | ⟨k,c1,c2,c3,c4,c5,c6,c7,c8⟩ <;> rw[k]at g3 <;> have kx:=g3.symm
  . grind
  . rw[if_neg (by simp[kx]),if_pos (by simp[kx]),hv2 kx,fV n2];simp only[oZ3];have hz:=pX n2;obtain⟨n,hn⟩:∃n:Nat,zig v.Int_=(n:Int):=⟨(zig v.Int_).toNat,by unfold zig;split <;> omega⟩
    rw[hn,Int.toNat_natCast]at hz;rw[hn,xR hz];rfl
  . rw[if_neg (by simp[kx]),if_neg (by simp[kx]),if_pos (by simp[kx]),hv3 kx]
  . rw[if_neg (by simp[kx]),if_neg (by simp[kx]),if_neg (by simp[kx]),if_pos (by simp[kx]),hv4 kx]
    obtain⟨n,hn⟩:∃n:Nat,v.ID=(n:Int):=⟨v.ID.toNat,by
     rcases c7 with⟨y,hy,he⟩ | ⟨_,_,he⟩
     . have:=hS kx y hy;unfold I1000 at this;omega
     . unfold I1000 at he;omega⟩
    rw[hn,wrpn (by omega),xR (by omega),Int.toNat_natCast];rfl
  . rw[if_neg (by simp[kx]),if_neg (by simp[kx]),if_neg (by simp[kx]),if_neg (by simp[kx]),if_neg (by simp[kx]),if_neg (by simp[kx]),if_neg (by simp[kx]),if_neg (by simp[kx]),hv5 kx];obtain⟨hma,hm16⟩:=hA (.inl kx);obtain⟨hil,hip⟩:=fH.1 c7;rw[hv5 kx]at hlenv;have hsg:=Fx (lN (ts:=ts) (l:=v.Items) hma c6) (fun y hy=>q0 hma c6 hy)
    have e0:(fun n=>(aZ ts x.Members v.Items v.Rest).filter fun f=>decide (f.id=n))=grp ts x v:=rfl;rw[e0]at hsg;rw[hsg]at hlenv ⊢;have:=sX (ts:=ts) hm hma c6 hil (fun y hy=>hrd y hy) h3 hi hlenI (fun i hi'=>hWI _ (aB (by omega) ag) _ (hip i hi')) 1000 1 [] (by omega) (by omega) (by simp only[List.length_nil];omega);have h0:eV ([],1,ts,v,x)=_:=this;rw[h0]
    rfl
  . rw[if_neg (by simp[kx]),if_neg (by simp[kx]),if_neg (by simp[kx]),if_neg (by simp[kx]),if_neg (by simp[kx]),if_pos (by simp[kx]),hv6 kx];obtain⟨hma,hm16⟩:=hA (.inr kx);obtain⟨r,_,r2,hf⟩:=cW (t:=x) v.ID hm;rcases fy hf with⟨e,q,q1,q2,q3,q4⟩ | ⟨e,q3⟩
    . rw[q3]at c5;rw[q3];simp only at c5 ⊢;obtain⟨d1,d2,d3⟩:=c5;have hI:=hma.2 _ (aB q1 ap);rw[q4]at hI;obtain⟨n,hn⟩:∃n:Nat,v.ID=(n:Int):=⟨v.ID.toNat,by unfold I1000 at hI;omega⟩
      rw[if_neg (by simp[d1]),r2,hn,wrpn (by unfold I1000 at hI;omega),ml (by unfold I1000 at hI;omega)];simp only[oZ3];rw[q2,if_pos (au q1)]
      match hI:v.Items,d2 with
      | [y],_=>
       have hy:y∈v.Items:=by rw[hI];exact .head _
       have hi0:inR 0 ([y]:List ab).length=true:=au (k:=0) (by simp);have hf:=aW.1 d3 y hy;have hW:=hWI y hy _ hf;unfold Rp at hW;rw[if_pos hi0];simp only[aw,Int.toNat_zero,List.getD_cons_zero];rw[hW];have hp:=hlenI y hy (x.Members.getD q ap).Type_;have hp10:=cK (n:=n) (by rw[hn]at n3;omega);simp only[oZ3];rw[if_pos (bR (by omega))]
       have ep:vpays ts (x.Members.getD q ap).Type_ [y]=[vpay ts (x.Members.getD q ap).Type_ y]:=by rw[vpays,vpays]
       rw[ep];rfl
    . rw[q3]at c5;rw[q3];simp only at c5 ⊢;obtain⟨d1,d2,d3,d4,d,d5⟩:=c5;obtain⟨n,hn⟩:∃n:Nat,v.ID=(n:Int):=⟨v.ID.toNat,by unfold I1000 at d3;omega⟩
      have hdl:=hrd ⟨v.ID,d⟩ (by rw[d5];exact .head _);simp only at hdl;unfold reachBytes at hdl;have hp10:=cK (n:=n) (by rw[hn]at n3;omega);rw[d5,hn,if_pos (by simp),wrpn (by unfold I1000 at d3;omega),ml (by unfold I1000 at d3;omega)];simp only[oZ3];have hi0:inR 0 ([⟨(n:Int),d⟩]:List aH).length=true:=au (k:=0) (by simp);rw[if_pos hi0]
      simp only[Int.toNat_zero,List.getD_cons_zero];rw[if_pos (bR (by omega))];rfl
  . rw[if_neg (by simp[kx]),if_neg (by simp[kx]),if_neg (by simp[kx]),if_neg (by simp[kx]),if_neg (by simp[kx]),if_neg (by simp[kx]),if_pos (by simp[kx])];have hf:=aW.1 c8;rw[hv7 kx]at hlenv ⊢
    have:=y7 (ts:=ts) (x:=x) (v:=v) (fun y hy=>by have:=hlenI y hy x.Elem;omega) (fun y hy=>hWI y hy x.Elem (hf y hy)) h2 v.Items.length 0 [] (by omega) (by simp only[List.drop_zero,List.length_nil];omega);have h0:gZ ([],0,ts,v,x)=_:=this;rw[h0];rfl
  . rw[if_neg (by simp[kx]),if_neg (by simp[kx]),if_neg (by simp[kx]),if_neg (by simp[kx]),if_neg (by simp[kx]),if_neg (by simp[kx]),if_neg (by simp[kx]),if_pos (by simp[kx])];have hf:=aW.1 c9;have hfk:=aW.1 c8;rw[hv8 kx]at hlenv ⊢
    have:=Ae (ts:=ts) (x:=x) (v:=v) c7 (fun y hy=>by have:=hlenI y hy x.Elem;omega) (fun y hy=>by have:=hlenK y hy x.Key;omega) (fun y hy=>hWI y hy x.Elem (hf y hy)) (fun y hy=>hWK y hy x.Key (hfk y hy)) h2 v.Items.length 0 [] (by omega) (by simp only[List.drop_zero,List.length_nil];omega);have h0:g6 ([],0,ts,v,x)=_:=this;rw[h0];rfl
  . rw[if_neg (by simp[kx]),if_neg (by simp[kx]),if_neg (by simp[kx]),if_neg (by simp[kx]),if_pos (by simp[kx]),hv9 kx];have hf:=aW.1 c8
    match hI:v.Items,c7 with
    | [],_=>rw[if_pos (by simp),vpays]
    | [y],_=>
     have hy:y∈v.Items:=by rw[hI];exact .head _
     have hi0:inR 0 ([y]:List ab).length=true:=au (k:=0) (by simp);rw[if_neg (by simp),if_pos hi0];have hW:=hWI y hy x.Elem (hf y hy);unfold Rp at hW;simp only[Int.toNat_zero,List.getD_cons_zero];rw[hW];have hp:=hlenI y hy x.Elem;simp only[oZ3];rw[if_pos (bR (by simp;omega))];have ep:vpays ts x.Elem [y]=[vpay ts x.Elem y]:=by rw[vpays,vpays]
     rw[ep];rfl
    | a::b::c,h=>simp at h
end
theorem SaysP.says{α:Type}{o:Option Bool}{a b:α}(h:Says o a b):SaysP o (a=b):=h
theorem and3S {o1 o2 o3 : Option Bool} {P1 P2 P3 : Prop} (h1 : SaysP o1 P1) (h2 : SaysP o2 P2) (h3 : SaysP o3 P3):
 SaysP (o1 >>=fun r_6=>(if r_6=true then o2 else some false) >>=fun r_7=>some (bif r_6 then r_7 else false) >>=fun t53=>(if t53=true then o3 else some false) >>=fun r_8=>some (bif t53 then r_8 else false)) (P1/\P2/\P3):=by
 obtain⟨a,rfl,h1⟩:=h1;obtain⟨b,rfl,h2⟩:=h2;obtain⟨c,rfl,h3⟩:=h3;rw[<-h1,<-h2,<-h3];cases a <;> cases b <;> cases c <;> exact⟨_,rfl,by simp⟩
theorem kL{o:Option Bool}{P:Prop}(h:SaysP o P):SaysP (o >>=fun r=>some r) P:=by grind
def fW(union:Bool)(Ms:List aj):Prop:=(∀m,m∈Ms->badM union m=false)/\(union=false\/0 < Ms.length)/\MAsc Ms/\(∀m,m∈Ms->nm m.Name=true)/\(Ms.map (·.Name)).Nodup/\Ms.length<=16
def nl(S:List aC):Prop:=0 < S.length/\(S.Pairwise (fun a b=>a.ID < b.ID)/\∀y,y∈S->I1000 y.ID)/\(∀y,y∈S->nm y.Name=true)/\(S.map (·.Name)).Nodup/\S.length<=16
theorem HQ{l:List (List UInt8)}:l.Nodup↔∀i,i < l.length->(l.take i).contains (l.getD i [])=false:=by
 unfold List.Nodup;rw[List.pairwise_iff_getElem];constructor
 . intro h i hi;apply Bool.eq_false_iff.2;intro hc;obtain⟨k,hk,he⟩:=(fx (by omega)).1 hc
   grind
 . intro h k i hk' hi hk he;have:=h i hi;rw[Bool.eq_false_iff]at this;apply this;refine(fx (by omega)).2 ⟨k,hk,?_⟩
   grind
theorem Af{α:Type}(f:α->Int)(g:α->List UInt8)(d:α)(l:List α):(∀i,i < l.length->idp (l.map f) (l.map g) i=true)↔(l.Pairwise (fun a b=>f a < f b)/\∀x,x∈l->I1000 (f x))/\(∀x,x∈l->nm (g x)=true)/\(l.map g).Nodup:=by
 rw[pM f d,HQ];have key:∀i,i < l.length->(idp (l.map f) (l.map g) i=true↔I1000 (f (l.getD i d))/\(i=0\/f (l.getD (i - 1) d) < f (l.getD i d))/\nm (g (l.getD i d))=true/\((l.map g).take i).contains ((l.map g).getD i [])=false):=by
  intro i hi;unfold idp I1000
  grind
 constructor
 . intro h;refine⟨⟨fun i hi=>?_,fun x hx=>?_⟩,fun x hx=>?_,fun i hi=>?_⟩
   . grind
   . obtain⟨i,hi,rfl⟩:=List.getElem_of_mem hx
     grind
   . obtain⟨i,hi,rfl⟩:=List.getElem_of_mem hx
     grind
   grind
 . rintro ⟨⟨h1,h2⟩,h3,h4⟩ i hi
   refine(key i hi).2 ⟨h2 _ (aB hi d),?_,h3 _ (aB hi d),h4 i (by simpa using hi)⟩;by_cases h0:i=0
   . omega
   . right;have:=h1 (i - 1) (by omega);have e:i - 1+1=i:=by omega
     grind
theorem xX{t:ae}(h:OkT t):SaysP (iA t) ((∀m,m∈t.Members->badM (decide (t.Kind=6)) m=false)/\(t.Kind=5\/0 < t.Members.length)/\MAsc t.Members/\(∀m,m∈t.Members->nm m.Name=true)/\(t.Members.map (·.Name)).Nodup/\t.Members.length<=16):=by
 obtain⟨r,h1,h2⟩:=wQ h;refine⟨r,h1,h2.trans ?_⟩;rw[Af (fun m:aj=>m.ID) (fun m:aj=>m.Name) ap];have e:(∀i,i < t.Members.length->badM (decide (t.Kind=6)) (t.Members.getD i ap)=false)↔∀m,m∈t.Members->badM (decide (t.Kind=6)) m=false:=by
  constructor
  . intro h m hm;obtain⟨i,hi,rfl⟩:=List.getElem_of_mem hm
    grind
  grind
 rw[e];unfold MAsc
 grind
theorem IN{l:List aC}(hl:l.length*24<=reachBytes):SaysP (jB l) (nl l):=by
 obtain⟨r,h1,h2⟩:=Aa hl;refine⟨r,h1,h2.trans ?_⟩;rw[Af (fun m:aC=>m.ID) (fun m:aC=>m.Name) aR];unfold nl
 grind
def FormP(t:ae):Prop:=
 (t.Kind=1/\t.Name=[]/\t.Low=0/\t.High=0/\t.Max=0/\t.Symbols=[]/\t.Members=[]/\t.Key=0/\t.Elem=0/\t.Open=false)\/
 (t.Kind=2/\t.Name=[]/\t.Low<=t.High/\t.Max=0/\t.Symbols=[]/\t.Members=[]/\t.Key=0/\t.Elem=0/\t.Open=false)\/
 (t.Kind=3/\t.Name=[]/\t.Low=0/\t.High=0/\(0<=t.Max/\t.Max<=200)/\t.Symbols=[]/\t.Members=[]/\t.Key=0/\t.Elem=0/\t.Open=false)\/
 (t.Kind=4/\nm t.Name=true/\t.Low=0/\t.High=0/\t.Max=0/\nl t.Symbols/\t.Members=[]/\t.Key=0/\t.Elem=0)\/
 (t.Kind=5/\nm t.Name=true/\t.Low=0/\t.High=0/\t.Max=0/\t.Symbols=[]/\fW false t.Members/\t.Key=0/\t.Elem=0/\t.Open=false)\/
 (t.Kind=6/\nm t.Name=true/\t.Low=0/\t.High=0/\t.Max=0/\t.Symbols=[]/\fW true t.Members/\t.Key=0/\t.Elem=0)\/
 (t.Kind=7/\t.Name=[]/\t.Low=0/\t.High=0/\(0<=t.Max/\t.Max<=50)/\t.Symbols=[]/\t.Members=[]/\t.Key=0/\t.Open=false)\/
 (t.Kind=8/\t.Name=[]/\t.Low=0/\t.High=0/\(0<=t.Max/\t.Max<=50)/\t.Symbols=[]/\t.Members=[]/\t.Open=false)\/
 (t.Kind=9/\t.Name=[]/\t.Low=0/\t.High=0/\t.Max=0/\t.Symbols=[]/\t.Members=[]/\t.Key=0/\t.Open=false)
theorem IO{t:ae}(h:OkT t):SaysP (bp t) (FormP t):=by
 have hz:OkT (⟨0,[],0,0,0,[],[],0,0,false⟩:ae):=⟨by simp,by simp,by simp⟩
 obtain⟨Kd,N,L,H,M,S,Ms,K,E,O⟩:=t;have hS:=h.syms;have hMs:=h.mems;have hd:=h.dv;simp only at hS hMs hd;by_cases k1:Kd=1
 . subst k1;have a:=ca (a:=(⟨0,N,L,H,M,S,Ms,K,E,O⟩:ae)) ⟨hS,hMs,hd⟩ (⟨0,[],0,0,0,[],[],0,0,false⟩:ae);refine(kL (SaysP.says a)).imp ?_;unfold FormP;simp
 by_cases k2:Kd=2
 . subst k2;have a:=ca (a:=(⟨0,N,0,0,M,S,Ms,K,E,O⟩:ae)) ⟨hS,hMs,hd⟩ (⟨0,[],0,0,0,[],[],0,0,false⟩:ae);refine(and2S (q:=decide (L<=H)) (Q:=L<=H) (by simp) (SaysP.says a)).imp (Q:=FormP ⟨2,N,L,H,M,S,Ms,K,E,O⟩) ?_;unfold FormP
   grind
 by_cases k3:Kd=3
 . subst k3;have a:=ca (a:=(⟨0,N,L,H,0,S,Ms,K,E,O⟩:ae)) ⟨hS,hMs,hd⟩ (⟨0,[],0,0,0,[],[],0,0,false⟩:ae);refine(and2S (q:=bif decide (0<=M)then decide (M<=200)else false) (Q:=0<=M/\M<=200) (by by_cases g:0<=M <;> simp[g]) (SaysP.says a)).imp (Q:=FormP ⟨3,N,L,H,M,S,Ms,K,E,O⟩) ?_;unfold FormP
   grind
 by_cases k4:Kd=4
 . subst k4;have a:=ca (a:=(⟨0,[],L,H,M,[],Ms,K,E,false⟩:ae)) ⟨by simp,hMs,hd⟩ (⟨0,[],0,0,0,[],[],0,0,false⟩:ae);refine(and3S (⟨nm N,lexNm N,Iff.rfl⟩:SaysP (cH N) (nm N=true)) (IN hS) (SaysP.says a)).imp (Q:=FormP ⟨4,N,L,H,M,S,Ms,K,E,O⟩) ?_;unfold FormP
   grind
 by_cases k5:Kd=5
 . subst k5;have a:=ca (a:=(⟨0,[],L,H,M,S,[],K,E,bif O then decide ((5:Int)=5)else false⟩:ae)) ⟨hS,by simp,by simp⟩ (⟨0,[],0,0,0,[],[],0,0,false⟩:ae);refine(and3S (⟨nm N,lexNm N,Iff.rfl⟩:SaysP (cH N) (nm N=true)) (xX h) (SaysP.says a)).imp (Q:=FormP ⟨5,N,L,H,M,S,Ms,K,E,O⟩) ?_;unfold FormP fW
   grind
 by_cases k6:Kd=6
 . subst k6;have a:=ca (a:=(⟨0,[],L,H,M,S,[],K,E,bif O then decide ((6:Int)=5)else false⟩:ae)) ⟨hS,by simp,by simp⟩ (⟨0,[],0,0,0,[],[],0,0,false⟩:ae);refine(and3S (⟨nm N,lexNm N,Iff.rfl⟩:SaysP (cH N) (nm N=true)) (xX h) (SaysP.says a)).imp (Q:=FormP ⟨6,N,L,H,M,S,Ms,K,E,O⟩) ?_;unfold FormP fW
   grind
 by_cases k7:Kd=7
 . subst k7;have a:=ca (a:=(⟨0,N,L,H,0,S,Ms,K,0,O⟩:ae)) ⟨hS,hMs,hd⟩ (⟨0,[],0,0,0,[],[],0,0,false⟩:ae);refine(and2S (q:=bif decide (0<=M)then decide (M<=50)else false) (Q:=0<=M/\M<=50) (by by_cases g:0<=M <;> simp[g]) (SaysP.says a)).imp (Q:=FormP ⟨7,N,L,H,M,S,Ms,K,E,O⟩) ?_;unfold FormP
   grind
 by_cases k8:Kd=8
 . subst k8;have a:=ca (a:=(⟨0,N,L,H,0,S,Ms,0,0,O⟩:ae)) ⟨hS,hMs,hd⟩ (⟨0,[],0,0,0,[],[],0,0,false⟩:ae);refine(and2S (q:=bif decide (0<=M)then decide (M<=50)else false) (Q:=0<=M/\M<=50) (by by_cases g:0<=M <;> simp[g]) (SaysP.says a)).imp (Q:=FormP ⟨8,N,L,H,M,S,Ms,K,E,O⟩) ?_;unfold FormP
   grind
 by_cases k9:Kd=9
 . subst k9;have a:=ca (a:=(⟨0,N,L,H,M,S,Ms,K,0,O⟩:ae)) ⟨hS,hMs,hd⟩ (⟨0,[],0,0,0,[],[],0,0,false⟩:ae);refine(kL (SaysP.says a)).imp (Q:=FormP ⟨9,N,L,H,M,S,Ms,K,E,O⟩) ?_;unfold FormP;simp
 refine⟨false,by simp[bp,k1,k2,k3,k4,k5,k6,k7,k8,k9],?_⟩;unfold FormP
 grind
structure VOk (ts:List ae):Prop where
 n:ts.length<=32
 F:∀t,t∈ts->FormP t
 D:∀i,i < ts.length->(!(decide ((ts.getD i af).Name=[])) && ((ts.map (·.Name)).take i).contains (ts.getD i af).Name)=false
 U:∀t,t∈ts->∀u,u∈usesL t->0<=u/\u < ts.length
 Ky:∀t,t∈ts->t.Kind=8->1<=(ts.getD t.Key.toNat af).Kind/\(ts.getD t.Key.toNat af).Kind<=4
theorem HR {ts : List ae} (hT : ∀ t, t ∈ ts -> OkT t) {i : Nat} (hi : i < ts.length): stepV ts i = none ↔ FormP (ts.getD i af) /\ (!(decide ((ts.getD i af).Name = [])) && ((ts.map (·.Name)).take i).contains (ts.getD i af).Name) = false /\ (∀ u, u ∈ usesL (ts.getD i af) -> 0 <= u /\ u < ts.length) /\
 ((ts.getD i af).Kind=8->1<=(ts.getD (ts.getD i af).Key.toNat af).Kind/\(ts.getD (ts.getD i af).Key.toNat af).Kind<=4):=by
 obtain⟨r,f1,f2⟩:=IO (hT _ (aB hi af));rw[pz rfl f1,<-f2];have hu:(usesL (ts.getD i af)).any (outB ts.length)=false↔∀u,u∈usesL (ts.getD i af)->0<=u/\u < ts.length:=by
  rw[List.any_eq_false];constructor
  . intro h u hu;have:=h u hu;unfold outB at this
    grind
  . intro h u hu;have:=h u hu;unfold outB
    grind
 rw[<-hu];generalize (usesL (ts.getD i af)).any (outB ts.length)=b;generalize (!(decide ((ts.getD i af).Name=[])) && ((ts.map (·.Name)).take i).contains (ts.getD i af).Name)=c
 have hk:(decide ((ts.getD i af).Kind=8) && !(keyB (ts.getD (ts.getD i af).Key.toNat af).Kind))=false↔((ts.getD i af).Kind=8->1<=(ts.getD (ts.getD i af).Key.toNat af).Kind/\(ts.getD (ts.getD i af).Key.toNat af).Kind<=4):=by
  unfold keyB
  grind
 rw[<-hk];generalize (decide ((ts.getD i af).Kind=8) && !(keyB (ts.getD (ts.getD i af).Key.toNat af).Kind))=d;cases r <;> cases b <;> cases c <;> cases d <;> simp
theorem se{ts:List ae}(hT:∀t,t∈ts->OkT t)(h:VOk ts):iK (⟨ts⟩:av)=some 0/\im (⟨ts⟩:av)=some 0:=by
 obtain⟨e,h1,h2,_,h4⟩:=wU (s:=⟨ts⟩) (by have:=h.n;unfold reachBytes;show ts.length<=_;omega) hT;have e0:e=0:=h4 ⟨h.n,fun i hi=>(HR hT hi).2 ⟨h.F _ (aB hi af),h.D i hi,h.U _ (aB hi af),h.Ky _ (aB hi af)⟩⟩
 grind
theorem VOk.sok{ts:List ae}(hT:∀t,t∈ts->OkT t)(h:VOk ts):SOk ts:=by
 refine⟨by have:=h.n;omega,hT,fun t ht=>?_,fun t ht m hm=>?_,fun t ht hk=>?_,fun t ht hk y hy=>?_,h.Ky⟩
 . have:=h.F t ht;unfold FormP at this;unfold dF;omega
 . have:=h.F t ht;unfold FormP at this;have hne:t.Members≠[]:=by intro e;rw[e]at hm;cases hm
   have:fW false t.Members\/fW true t.Members:=by grind
   rcases this with a | a
   . exact(a.2.2.1.2 m hm).2
   . exact(a.2.2.1.2 m hm).2
 . have:=h.F t ht;unfold FormP at this;have:fW false t.Members\/fW true t.Members:=by grind
   rcases this with a | a
   . exact⟨a.2.2.1,a.2.2.2.2.2⟩
   . exact⟨a.2.2.1,a.2.2.2.2.2⟩
 . have:=h.F t ht;unfold FormP at this;have:nl t.Symbols:=by grind
   exact this.2.1.2 y hy
def NS(ts:List ae)(ms:List aj):Prop:=∀m,m∈ms->m.HasDefault=true->vfit ts true m.Type_ m.Default
theorem NT{t u:Ty}{r:List Ty}{h:Hs Un.D (t::u::r)}(hk:Ok Un (t::u::r) h):∀d,d∈t.row Un h.1->WF Un d:=fun d hd=>hk ⟨t,h.1⟩ (List.mem_cons_self ..) d hd
theorem Ag {ts : List ae} (H : SOk ts) {v : ab} (hv : OkV v) (hw : wt v <= 1099511627776) {t : Int} (hf : vfit ts false t v):
 cD (t,v,1,ts,0)=some (vpay ts t v,ts,((vlev ts t v:Nat):Int)):=by
 have h:=Ly H hv hw t hf 1 0 (by omega) (by omega);have hp:=iX (ts:=ts) t v;have e:max 0 (1+vlev ts t v - 1)=vlev ts t v:=by omega
 rw[e]at h;exact h
noncomputable def encA (ts:List ae) (t:Int) (v:ab):List UInt8×Int:=
 if 4096 < (vpay ts t v).length\/200 < vlev ts t v then([],3)else(vpay ts t v,0)
end
end Go.Proofs.YtijpinendaoleaaGreat
