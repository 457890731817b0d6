/- The functions of the program as functions of Lean, that its code does what they say, and what they answer; part B. -/
import Derived.Test.YtandcioiaooocaaGreatMdA

namespace Go.Proofs.YtandcioiaooocaaGreat
set_option linter.all false
section
open Go Go.Proofs.YtandcioiaooocaaGreat.Shv
open Tryz
set_option maxRecDepth 100000
def bA(x_:List dp×Int×List aM):Option (List aM):=
 match x_ with
 | (l_2,i,b_1)=>
 if(bif decide (i < (l_2.length:Int))then decide (0 < (b_1.length:Int))else false)=true then
 if inR i l_2.length=true then
 some (l_2.getD i.toNat d6) >>=fun x0=>
 some (b_1.length:Int) >>=fun t38=>
 if(!(decide (t38=0)))=true then
 some (remI (wrp .i64 x0.Node) t38) >>=fun t39=>
 if inR t39 b_1.length=true then
 if decide (t39.toNat < b_1.length)=true then
 some (b_1.getD t39.toNat aw).Parts >>=fun t46=>
 if room 3 ([]++t46).length=true then
 some ([]++t46) >>=fun l_3=>
 if decide (t39.toNat < b_1.length)=true then
 if decide (t39.toNat=t39.toNat)=true then
 let k_6:=fun z6_0=>
 some (remI x0.Kind 8) >>=fun t67_1=>
 if decide (t67_1=0)=true then
 if decide (t39.toNat < b_1.length)=true then
 some (subI .u8 (addI .u8 (b_1.getD t39.toNat aw).A (remI x0.A 5)) 2) >>=fun t103_1=>
 if decide (t39.toNat < b_1.length)=true then
 bA (l_2,addI .i64 i 1,(b_1.set t39.toNat (⟨(b_1.getD t39.toNat aw).Kind,t103_1,(b_1.getD t39.toNat aw).B,(b_1.getD t39.toNat aw).C,(b_1.getD t39.toNat aw).Parts⟩:aM)).set t39.toNat (⟨((b_1.set t39.toNat (⟨(b_1.getD t39.toNat aw).Kind,t103_1,(b_1.getD t39.toNat aw).B,(b_1.getD t39.toNat aw).C,(b_1.getD t39.toNat aw).Parts⟩:aM)).getD t39.toNat aw).Kind,((b_1.set t39.toNat (⟨(b_1.getD t39.toNat aw).Kind,t103_1,(b_1.getD t39.toNat aw).B,(b_1.getD t39.toNat aw).C,(b_1.getD t39.toNat aw).Parts⟩:aM)).getD t39.toNat aw).A,((b_1.set t39.toNat (⟨(b_1.getD t39.toNat aw).Kind,t103_1,(b_1.getD t39.toNat aw).B,(b_1.getD t39.toNat aw).C,(b_1.getD t39.toNat aw).Parts⟩:aM)).getD t39.toNat aw).B,((b_1.set t39.toNat (⟨(b_1.getD t39.toNat aw).Kind,t103_1,(b_1.getD t39.toNat aw).B,(b_1.getD t39.toNat aw).C,(b_1.getD t39.toNat aw).Parts⟩:aM)).getD t39.toNat aw).C,l_3⟩:aM))
 else none
 else none
 else
 if decide (t67_1=1)=true then
 if decide (t39.toNat < b_1.length)=true then
 some (subI .u8 (addI .u8 (b_1.getD t39.toNat aw).B (remI x0.B 5)) 2) >>=fun t117_1=>
 if decide (t39.toNat < b_1.length)=true then
 bA (l_2,addI .i64 i 1,(b_1.set t39.toNat (⟨(b_1.getD t39.toNat aw).Kind,(b_1.getD t39.toNat aw).A,t117_1,(b_1.getD t39.toNat aw).C,(b_1.getD t39.toNat aw).Parts⟩:aM)).set t39.toNat (⟨((b_1.set t39.toNat (⟨(b_1.getD t39.toNat aw).Kind,(b_1.getD t39.toNat aw).A,t117_1,(b_1.getD t39.toNat aw).C,(b_1.getD t39.toNat aw).Parts⟩:aM)).getD t39.toNat aw).Kind,((b_1.set t39.toNat (⟨(b_1.getD t39.toNat aw).Kind,(b_1.getD t39.toNat aw).A,t117_1,(b_1.getD t39.toNat aw).C,(b_1.getD t39.toNat aw).Parts⟩:aM)).getD t39.toNat aw).A,((b_1.set t39.toNat (⟨(b_1.getD t39.toNat aw).Kind,(b_1.getD t39.toNat aw).A,t117_1,(b_1.getD t39.toNat aw).C,(b_1.getD t39.toNat aw).Parts⟩:aM)).getD t39.toNat aw).B,((b_1.set t39.toNat (⟨(b_1.getD t39.toNat aw).Kind,(b_1.getD t39.toNat aw).A,t117_1,(b_1.getD t39.toNat aw).C,(b_1.getD t39.toNat aw).Parts⟩:aM)).getD t39.toNat aw).C,l_3⟩:aM))
 else none
 else none
 else
 if decide (t67_1=2)=true then
 if decide (t39.toNat < b_1.length)=true then
 some (remI x0.A 6) >>=fun t129_1=>
 if decide (0<=t129_1)=true then
 some (xorI .u8 (b_1.getD t39.toNat aw).A (shlI .u8 1 t129_1)) >>=fun t131_1=>
 if decide (t39.toNat < b_1.length)=true then
 bA (l_2,addI .i64 i 1,(b_1.set t39.toNat (⟨(b_1.getD t39.toNat aw).Kind,t131_1,(b_1.getD t39.toNat aw).B,(b_1.getD t39.toNat aw).C,(b_1.getD t39.toNat aw).Parts⟩:aM)).set t39.toNat (⟨((b_1.set t39.toNat (⟨(b_1.getD t39.toNat aw).Kind,t131_1,(b_1.getD t39.toNat aw).B,(b_1.getD t39.toNat aw).C,(b_1.getD t39.toNat aw).Parts⟩:aM)).getD t39.toNat aw).Kind,((b_1.set t39.toNat (⟨(b_1.getD t39.toNat aw).Kind,t131_1,(b_1.getD t39.toNat aw).B,(b_1.getD t39.toNat aw).C,(b_1.getD t39.toNat aw).Parts⟩:aM)).getD t39.toNat aw).A,((b_1.set t39.toNat (⟨(b_1.getD t39.toNat aw).Kind,t131_1,(b_1.getD t39.toNat aw).B,(b_1.getD t39.toNat aw).C,(b_1.getD t39.toNat aw).Parts⟩:aM)).getD t39.toNat aw).B,((b_1.set t39.toNat (⟨(b_1.getD t39.toNat aw).Kind,t131_1,(b_1.getD t39.toNat aw).B,(b_1.getD t39.toNat aw).C,(b_1.getD t39.toNat aw).Parts⟩:aM)).getD t39.toNat aw).C,l_3⟩:aM))
 else none
 else none
 else none
 else
 if decide (t67_1=3)=true then
 if decide (t39.toNat < b_1.length)=true then
 some (addI .u8 (b_1.getD t39.toNat aw).C x0.A) >>=fun t143_1=>
 if decide (t39.toNat < b_1.length)=true then
 bA (l_2,addI .i64 i 1,(b_1.set t39.toNat (⟨(b_1.getD t39.toNat aw).Kind,(b_1.getD t39.toNat aw).A,(b_1.getD t39.toNat aw).B,t143_1,(b_1.getD t39.toNat aw).Parts⟩:aM)).set t39.toNat (⟨((b_1.set t39.toNat (⟨(b_1.getD t39.toNat aw).Kind,(b_1.getD t39.toNat aw).A,(b_1.getD t39.toNat aw).B,t143_1,(b_1.getD t39.toNat aw).Parts⟩:aM)).getD t39.toNat aw).Kind,((b_1.set t39.toNat (⟨(b_1.getD t39.toNat aw).Kind,(b_1.getD t39.toNat aw).A,(b_1.getD t39.toNat aw).B,t143_1,(b_1.getD t39.toNat aw).Parts⟩:aM)).getD t39.toNat aw).A,((b_1.set t39.toNat (⟨(b_1.getD t39.toNat aw).Kind,(b_1.getD t39.toNat aw).A,(b_1.getD t39.toNat aw).B,t143_1,(b_1.getD t39.toNat aw).Parts⟩:aM)).getD t39.toNat aw).B,((b_1.set t39.toNat (⟨(b_1.getD t39.toNat aw).Kind,(b_1.getD t39.toNat aw).A,(b_1.getD t39.toNat aw).B,t143_1,(b_1.getD t39.toNat aw).Parts⟩:aM)).getD t39.toNat aw).C,l_3⟩:aM))
 else none
 else none
 else
 if decide (t67_1=4)=true then
 if decide (t39.toNat=t39.toNat)=true then
 if decide ((l_3.length:Int) < 8)=true then
 if decide (t39.toNat=t39.toNat)=true then
 some [(⟨x0.A,x0.B,quoI .u8 x0.A 12⟩:dr)] >>=fun t167_1=>
 if room 3 (l_3++t167_1).length=true then
 if decide (t39.toNat=t39.toNat)=true then
 bA (l_2,addI .i64 i 1,b_1.set t39.toNat (⟨(b_1.getD t39.toNat aw).Kind,(b_1.getD t39.toNat aw).A,(b_1.getD t39.toNat aw).B,(b_1.getD t39.toNat aw).C,l_3++t167_1⟩:aM))
 else none
 else none
 else none
 else
 bA (l_2,addI .i64 i 1,b_1.set t39.toNat (⟨(b_1.getD t39.toNat aw).Kind,(b_1.getD t39.toNat aw).A,(b_1.getD t39.toNat aw).B,(b_1.getD t39.toNat aw).C,l_3⟩:aM))
 else none
 else
 if decide (t67_1=5)=true then
 if decide (t39.toNat=t39.toNat)=true then
 if decide (0 < (l_3.length:Int))=true then
 if decide (t39.toNat=t39.toNat)=true then
 if slR 0 z6_0 l_3.length=true then
 if decide (t39.toNat=t39.toNat)=true then
 some (addI .i64 z6_0 1) >>=fun t191_1=>
 if slR t191_1 (l_3.length:Int) l_3.length=true then
 if(decide (z6_0.toNat+((l_3.length:Int).toNat - t191_1.toNat)<=l_3.length) && decide (t191_1.toNat+((l_3.length:Int).toNat - t191_1.toNat)<=l_3.length))=true then
 if decide (t39.toNat=t39.toNat)=true then
 bA (l_2,addI .i64 i 1,b_1.set t39.toNat (⟨(b_1.getD t39.toNat aw).Kind,(b_1.getD t39.toNat aw).A,(b_1.getD t39.toNat aw).B,(b_1.getD t39.toNat aw).C,l_3.take z6_0.toNat++(l_3.drop t191_1.toNat).take ((l_3.length:Int).toNat - t191_1.toNat)⟩:aM))
 else none
 else none
 else none
 else none
 else none
 else none
 else
 bA (l_2,addI .i64 i 1,b_1.set t39.toNat (⟨(b_1.getD t39.toNat aw).Kind,(b_1.getD t39.toNat aw).A,(b_1.getD t39.toNat aw).B,(b_1.getD t39.toNat aw).C,l_3⟩:aM))
 else none
 else
 if decide (t67_1=6)=true then
 if decide (t39.toNat=t39.toNat)=true then
 if decide (0 < (l_3.length:Int))=true then
 if decide (t39.toNat=t39.toNat)=true then
 if inR z6_0 l_3.length=true then
 if decide (z6_0.toNat < l_3.length)=true then
 bA (l_2,addI .i64 i 1,b_1.set t39.toNat (⟨(b_1.getD t39.toNat aw).Kind,(b_1.getD t39.toNat aw).A,(b_1.getD t39.toNat aw).B,(b_1.getD t39.toNat aw).C,l_3.set z6_0.toNat (⟨(l_3.getD z6_0.toNat bV).ID,(l_3.getD z6_0.toNat bV).Type_,x0.B⟩:dr)⟩:aM))
 else none
 else none
 else none
 else
 bA (l_2,addI .i64 i 1,b_1.set t39.toNat (⟨(b_1.getD t39.toNat aw).Kind,(b_1.getD t39.toNat aw).A,(b_1.getD t39.toNat aw).B,(b_1.getD t39.toNat aw).C,l_3⟩:aM))
 else none
 else
 if decide (t39.toNat=t39.toNat)=true then
 if decide (0 < (l_3.length:Int))=true then
 if decide (t39.toNat=t39.toNat)=true then
 if decide (t39.toNat=t39.toNat)=true then
 if inR z6_0 l_3.length=true then
 if decide (z6_0.toNat < l_3.length)=true then
 if inR z6_0 l_3.length=true then
 if decide (z6_0.toNat < l_3.length)=true then
 bA (l_2,addI .i64 i 1,b_1.set t39.toNat (⟨(b_1.getD t39.toNat aw).Kind,(b_1.getD t39.toNat aw).A,(b_1.getD t39.toNat aw).B,(b_1.getD t39.toNat aw).C,l_3.set z6_0.toNat (⟨(l_3.getD z6_0.toNat bV).ID,addI .u8 (l_3.getD z6_0.toNat bV).Type_ x0.B,(l_3.getD z6_0.toNat bV).Flag⟩:dr)⟩:aM))
 else none
 else none
 else none
 else none
 else none
 else none
 else
 bA (l_2,addI .i64 i 1,b_1.set t39.toNat (⟨(b_1.getD t39.toNat aw).Kind,(b_1.getD t39.toNat aw).A,(b_1.getD t39.toNat aw).B,(b_1.getD t39.toNat aw).C,l_3⟩:aM))
 else none
 if decide (0 < (l_3.length:Int))=true then
 if decide (t39.toNat=t39.toNat)=true then
 some (l_3.length:Int) >>=fun t63=>
 if(!(decide (t63=0)))=true then
 some (remI (wrp .i64 x0.A) t63) >>=fun t64=>
 k_6 t64
 else none
 else none
 else
 k_6 0
 else none
 else none
 else none
 else none
 else none
 else none
 else none
 else
 some b_1
  partial_fixpoint
theorem Ci :LC 31 0 [0] e31_0 bA:= .rc bA.partial_correctness .n .n fun _ _=>by kernel_rfl
def nq(x_:aT×List dp):Option (aT):=
 match x_ with
 | (d,l)=>
 if room 32 ([]++d.Nodes).length=true then
 bA (l,0,[]++d.Nodes) >>=fun o=>
 some (⟨o⟩:aT)
 else none
theorem e31_k :KC e31:= .m (by kernel_rfl)
theorem CO :FC e31 nq:= .fn e31_k .n (.k Ci .n) fun _=>by kernel_rfl
def ly(c:dI):Option (az×az×Int×ab×Bool):=
 ir c.D >>=fun r=>
 nq (c.D.S,c.L) >>=fun r_6=>
 gw r_6 >>=fun r_7=>
 some (bif bif (!r.2.2.2.2)then true else(!r_7.2)then true else decide (4 < (c.L.length:Int))) >>=fun t44=>
 (if(!t44)=true then nE (ab.eta r.2.2.1)else some false) >>=fun r_10=>
 if(bif t44 then true else(!r_10))=true then
 some ((⟨[]⟩:az),(⟨[]⟩:az),0,(⟨0,false,0,[],0,[],[],[]⟩:ab),false)
 else
 some (r.1,r_7.1,r.2.1,ab.eta r.2.2.1,true)
theorem e11_k :KC e11:= .m (by kernel_rfl)
theorem Eo :FC e11 ly:= .fn e11_k (.k Ee (.k CO (.k ud (.k Do .n)))) .n fun _=>by kernel_rfl
def jv(x_:Int×List UInt8):Option (List UInt8):=
 match x_ with
 | (n_1,out_1)=>
 if decide (0 < n_1)=true then
 some (strOf [wrp .u8 (remI n_1 256)]) >>=fun t10=>
 if decide (t10.length+out_1.length<=aV)=true then
 jv (quoI .u64 n_1 256,t10++out_1)
 else none
 else
 some out_1
  partial_fixpoint
theorem C8 :LC 83 0 [0] e83_0 jv:= .rc jv.partial_correctness .n .n fun _ _=>by kernel_rfl
def lq(n:Int):Option (List UInt8):=
 jv (n,[]) >>=fun o=>
 some o
theorem e83_k :KC e83:= .m (by kernel_rfl)
theorem D6 :FC e83 lq:= .fn e83_k .n (.k C8 .n) fun _=>by kernel_rfl
def jw(x_:Int×List Int):Option (Int×List Int):=
 match x_ with
 | (n_2,b_1)=>
 if decide (128<=n_2)=true then
 some [wrp .u8 (addI .u64 (remI n_2 128) 128)] >>=fun t11=>
 if room 1 (b_1++t11).length=true then
 jw (quoI .u64 n_2 128,b_1++t11)
 else none
 else
 some (n_2,b_1)
  partial_fixpoint
theorem C9 :LC 85 0 [0] e85_0 jw:= .rc jw.partial_correctness .n .n fun _ _=>by kernel_rfl
def gv(n:Int):Option (List UInt8):=
 jw (n,[]) >>=fun o=>
 some [wrp .u8 o.1] >>=fun t18=>
 if room 1 (o.2++t18).length=true then
 some (strOf (o.2++t18))
 else none
theorem e85_k :KC e85:= .m (by kernel_rfl)
theorem qn :FC e85 gv:= .fn e85_k .n (.k C9 .n) fun _=>by kernel_rfl
def gr(p:List UInt8):Option (List UInt8):=
 gv (wrp .u64 (p.length:Int)) >>=fun r=>
 if decide (r.length+p.length<=aV)=true then
 some (r++p)
 else none
theorem e86_k :KC e86:= .m (by kernel_rfl)
theorem qk :FC e86 gr:= .fn e86_k (.k qn .n) .n fun _=>by kernel_rfl
def lf(x_:Int×Bool×List UInt8):Option (List UInt8):=
 match x_ with
 | (id,critical,p)=>
 some (wrp .u64 (mulI .i64 2 id)) >>=fun t10=>
 if critical=true then
 gv (addI .u64 t10 1) >>=fun r=>
 gr p >>=fun r_1=>
 if decide (r.length+r_1.length<=aV)=true then
 some (r++r_1)
 else none
 else
 gv t10 >>=fun r_2=>
 gr p >>=fun r_3=>
 if decide (r_2.length+r_3.length<=aV)=true then
 some (r_2++r_3)
 else none
theorem e87_k :KC e87:= .m (by kernel_rfl)
theorem tO :FC e87 lf:= .fn e87_k (.k qn (.k qk .n)) .n fun _=>by kernel_rfl
def dE(x_:List UInt8×Int×Int×List ae×ab×ae):Option (List UInt8×Int×List ae×ab×ae):=
 match x_ with
 | (out_9,id_4,k,b_18,b_19,b_20)=>
 if decide (k < (b_19.Rest.length:Int))=true then
 if inR k b_19.Rest.length=true then
 if decide ((b_19.Rest.getD k.toNat aC).ID=id_4)=true then
 if inR k b_19.Rest.length=true then
 lf (id_4,false,(b_19.Rest.getD k.toNat aC).Data) >>=fun r_22=>
 if decide (out_9.length+r_22.length<=aV)=true then
 dE (out_9++r_22,id_4,addI .i64 k 1,b_18,ab.eta b_19,b_20)
 else none
 else none
 else
 dE (out_9,id_4,addI .i64 k 1,b_18,ab.eta b_19,b_20)
 else none
 else
 some (out_9,id_4,b_18,ab.eta b_19,b_20)
  partial_fixpoint
theorem BX :LC 49 0 [0,2] zF dE:= .rc dE.partial_correctness (.k tO .n) .n fun _ _=>by kernel_rfl
mutual
def cT(x_:az×Int×ab):Option (List UInt8):=
 match x_ with
 | (s,t,v)=>
 if inR t s.Types.length=true then
 some (s.Types.getD t.toNat ap) >>=fun x0=>
 if decide (x0.Kind=1)=true then
 if v.Bool_=true then
 some [1]
 else
 some []
 else
 if decide (x0.Kind=2)=true then
 jt v.Int_ >>=fun r=>
 lq r >>=fun r_1=>
 some r_1
 else
 if decide (x0.Kind=3)=true then
 some v.Str
 else
 if decide (x0.Kind=4)=true then
 lq (wrp .u64 v.ID) >>=fun r_2=>
 some r_2
 else
 if decide (x0.Kind=9)=true then
 if decide ((v.Items.length:Int)=0)=true then
 some []
 else
 if inR 0 v.Items.length=true then
 cT (s,x0.Elem,ab.eta (v.Items.getD (0:Int).toNat af)) >>=fun r_3=>
 if decide ([1].length+r_3.length<=aV)=true then
 some ([1]++r_3)
 else none
 else none
 else
 if decide (x0.Kind=6)=true then
 if decide (0 < (v.Rest.length:Int))=true then
 gv (wrp .u64 v.ID) >>=fun r_4=>
 if inR 0 v.Rest.length=true then
 some (v.Rest.getD (0:Int).toNat aC) >>=fun x0_2=>
 if decide (r_4.length+x0_2.Data.length<=aV)=true then
 some (r_4++x0_2.Data)
 else none
 else none
 else
 cD (x0,v.ID) >>=fun r_5=>
 gv (wrp .u64 v.ID) >>=fun r_8=>
 if inR r_5.1 x0.Members.length=true then
 if inR 0 v.Items.length=true then
 cT (s,(x0.Members.getD r_5.1.toNat ag).Type_,ab.eta (v.Items.getD (0:Int).toNat af)) >>=fun r_9=>
 if decide (r_8.length+r_9.length<=aV)=true then
 some (r_8++r_9)
 else none
 else none
 else none
 else
 if decide (x0.Kind=7)=true then
 gV ([],0,s.Types,ab.eta v,x0) >>=fun o=>
 some o
 else
 if decide (x0.Kind=8)=true then
 gW ([],0,s.Types,ab.eta v,x0) >>=fun o_1=>
 some o_1
 else
 eW ([],1,s.Types,ab.eta v,x0) >>=fun o_2=>
 some o_2
 else none
  partial_fixpoint
def gV(x_:List UInt8×Int×List ae×ab×ae):Option (List UInt8):=
 match x_ with
 | (out_3,i,b,b_1,b_2)=>
 if decide (i < (b_1.Items.length:Int))=true then
 if inR i b_1.Items.length=true then
 cT ((⟨b⟩:az),b_2.Elem,ab.eta (b_1.Items.getD i.toNat af)) >>=fun r_10=>
 gr r_10 >>=fun r_11=>
 if decide (out_3.length+r_11.length<=aV)=true then
 gV (out_3++r_11,addI .i64 i 1,b,ab.eta b_1,b_2)
 else none
 else none
 else
 some out_3
  partial_fixpoint
def gW(x_:List UInt8×Int×List ae×ab×ae):Option (List UInt8):=
 match x_ with
 | (out_4,i_1,b_3,b_4,b_5)=>
 if decide (i_1 < (b_4.Items.length:Int))=true then
 if inR i_1 b_4.Keys.length=true then
 cT ((⟨b_3⟩:az),b_5.Key,ab.eta (b_4.Keys.getD i_1.toNat af)) >>=fun r_12=>
 gr r_12 >>=fun r_13=>
 if decide (out_4.length+r_13.length<=aV)=true then
 some (out_4++r_13) >>=fun t144=>
 if inR i_1 b_4.Items.length=true then
 cT ((⟨b_3⟩:az),b_5.Elem,ab.eta (b_4.Items.getD i_1.toNat af)) >>=fun r_14=>
 gr r_14 >>=fun r_15=>
 if decide (t144.length+r_15.length<=aV)=true then
 gW (t144++r_15,addI .i64 i_1 1,b_3,ab.eta b_4,b_5)
 else none
 else none
 else none
 else none
 else
 some out_4
  partial_fixpoint
def eW(x_:List UInt8×Int×List ae×ab×ae):Option (List UInt8):=
 match x_ with
 | (out_5,id,b_6,b_7,b_8)=>
 if decide (id<=1000)=true then
 cD (b_8,id) >>=fun r_16=>
 if r_16.2=true then
 if inR r_16.1 b_8.Members.length=true then
 some (b_8.Members.getD r_16.1.toNat ag) >>=fun x0_8=>
 some (!x0_8.HasDefault) >>=fun t175=>
 if(inR r_16.1 b_7.Items.length || (!(!t175)))=true then
 (if(!t175)=true then cp (ab.eta (b_7.Items.getD r_16.1.toNat af),ab.eta x0_8.Default)else some false) >>=fun r_19=>
 if(bif t175 then true else(!r_19))=true then
 if inR r_16.1 b_7.Items.length=true then
 cT ((⟨b_6⟩:az),x0_8.Type_,ab.eta (b_7.Items.getD r_16.1.toNat af)) >>=fun r_20=>
 lf (id,x0_8.Critical,r_20) >>=fun r_21=>
 if decide (out_5.length+r_21.length<=aV)=true then
 dE (out_5++r_21,id,0,b_6,ab.eta b_7,b_8) >>=fun o_3=>
 eW (o_3.1,addI .i64 o_3.2.1 1,o_3.2.2.1,ab.eta o_3.2.2.2.1,o_3.2.2.2.2)
 else none
 else none
 else
 dE (out_5,id,0,b_6,ab.eta b_7,b_8) >>=fun o_4=>
 eW (o_4.1,addI .i64 o_4.2.1 1,o_4.2.2.1,ab.eta o_4.2.2.2.1,o_4.2.2.2.2)
 else none
 else none
 else
 dE (out_5,id,0,b_6,ab.eta b_7,b_8) >>=fun o_5=>
 eW (o_5.1,addI .i64 o_5.2.1 1,o_5.2.2.1,ab.eta o_5.2.2.2.1,o_5.2.2.2.2)
 else
 some out_5
  partial_fixpoint
end
theorem e49_k :KC e49:= .m (by kernel_rfl)
theorem Cr :(∀h r,cT h=some r->FD e49 h r)/\(∀h r,eW h=some r->LD 49 0 [2] e49_2 h r)/\(∀h r,gW h=some r->LD 49 0 [1] e49_1 h r)/\(∀h r,gV h=some r->LD 49 0 [0] e49_0 h r):=cT.mutual_partial_correctness (FD e49) (LD 49 0 [2] e49_2) (LD 49 0 [1] e49_1) (LD 49 0 [0] e49_0)
 (fun _ _ _ _ h0 h1 h2 h3 _ _ h=>FA e49 e49_k (.k tF (.k D6 (.k (FH e49 e49_k h0) (.k qn (.k jm .n))))) (.k (LH e49_0 h3) (.k (LH e49_1 h2) (.k (LH e49_2 h1) .n))) (.trans (by kernel_rfl) h))
 (fun _ _ h0 h1 _ _ h=>LA e49_2 h1 (.k jm (.k kF (.k (FH e49 e49_k h0) (.k tO .n)))) (.k BX .n) (.trans (by kernel_rfl) h))
 (fun _ _ h0 h2 _ _ h=>LA e49_1 h2 (.k (FH e49 e49_k h0) (.k qk .n)) .n (.trans (by kernel_rfl) h))
 (fun _ _ h0 h3 _ _ h=>LA e49_0 h3 (.k (FH e49 e49_k h0) (.k qk .n)) .n (.trans (by kernel_rfl) h))
theorem CP :FC e49 cT:= .of e49_k Cr.1
def qp(x_:az×Int×ab):Option (Bool):=
 match x_ with
 | (s,t,v)=>
 bW (s,t,ab.eta v,false) >>=fun r=>
 some r
theorem e16_k :KC e16:= .m (by kernel_rfl)
theorem DT :FC e16 qp:= .fn e16_k (.k D5 .n) .n fun _=>by kernel_rfl
def lg(x_:az×Int×ab):Option (Int):=
 match x_ with
 | (s,t,v)=>
 lc s >>=fun r=>
 if(!(decide (r=0)))=true then
 some r
 else
 if(bif decide (t < 0)then true else decide ((s.Types.length:Int)<=t))=true then
 some 4
 else
 qp (s,t,ab.eta v) >>=fun r_1=>
 if(!r_1)=true then
 some 1
 else
 some 0
theorem e48_k :KC e48:= .m (by kernel_rfl)
theorem Du :FC e48 lg:= .fn e48_k (.k Ds (.k DT .n)) .n fun _=>by kernel_rfl
mutual
def dG(x_:az×Int×ab):Option (Int):=
 match x_ with
 | (s,t,v)=>
 if inR t s.Types.length=true then
 bE (0,0,s.Types,ab.eta v,s.Types.getD t.toNat ap) >>=fun o=>
 if decide (0 < (o.2.Keys.length:Int))=true then
 some (addI .i64 1 (maxI o.1 1))
 else
 some (addI .i64 1 o.1)
 else none
  partial_fixpoint
def bE(x_:Int×Int×List ae×ab×ae):Option (Int×ab):=
 match x_ with
 | (below_1,i,b_1,b_2,b_3)=>
 if decide (i < (b_2.Items.length:Int))=true then
 if decide (b_3.Kind=5)=true then
 if inR i b_3.Members.length=true then
 some (b_3.Members.getD i.toNat ag) >>=fun x0_1=>
 if(inR i b_2.Items.length || (!x0_1.HasDefault))=true then
 (if x0_1.HasDefault=true then cp (ab.eta (b_2.Items.getD i.toNat af),ab.eta x0_1.Default)else some false) >>=fun r=>
 if(bif x0_1.HasDefault then r else false)=true then
 bE (below_1,addI .i64 i 1,b_1,ab.eta b_2,b_3)
 else
 if decide (b_3.Kind=6)=true then
 cD (b_3,b_2.ID) >>=fun r_1=>
 if inR r_1.1 b_3.Members.length=true then
 if inR i b_2.Items.length=true then
 dG ((⟨b_1⟩:az),(b_3.Members.getD r_1.1.toNat ag).Type_,ab.eta (b_2.Items.getD i.toNat af)) >>=fun r_4=>
 bE (maxI below_1 r_4,addI .i64 i 1,b_1,ab.eta b_2,b_3)
 else none
 else none
 else
 if inR i b_2.Items.length=true then
 dG ((⟨b_1⟩:az),x0_1.Type_,ab.eta (b_2.Items.getD i.toNat af)) >>=fun r_5=>
 bE (maxI below_1 r_5,addI .i64 i 1,b_1,ab.eta b_2,b_3)
 else none
 else none
 else none
 else
 if decide (b_3.Kind=6)=true then
 cD (b_3,b_2.ID) >>=fun r_6=>
 if inR r_6.1 b_3.Members.length=true then
 if inR i b_2.Items.length=true then
 dG ((⟨b_1⟩:az),(b_3.Members.getD r_6.1.toNat ag).Type_,ab.eta (b_2.Items.getD i.toNat af)) >>=fun r_9=>
 bE (maxI below_1 r_9,addI .i64 i 1,b_1,ab.eta b_2,b_3)
 else none
 else none
 else
 if inR i b_2.Items.length=true then
 dG ((⟨b_1⟩:az),b_3.Elem,ab.eta (b_2.Items.getD i.toNat af)) >>=fun r_10=>
 bE (maxI below_1 r_10,addI .i64 i 1,b_1,ab.eta b_2,b_3)
 else none
 else
 some (below_1,ab.eta b_2)
  partial_fixpoint
end
theorem e50_k :KC e50:= .m (by kernel_rfl)
theorem Cx :(∀h r,dG h=some r->FD e50 h r)/\(∀h r,bE h=some r->LD 50 0 [0] e50_0 h r):=dG.mutual_partial_correctness (FD e50) (LD 50 0 [0] e50_0)
 (fun _ h1 _ _ h=>FA e50 e50_k .n (.k (LH e50_0 h1) .n) (.trans (by kernel_rfl) h))
 (fun _ _ h0 h1 _ _ h=>LA e50_0 h1 (.k kF (.k jm (.k (FH e50 e50_k h0) .n))) .n (.trans (by kernel_rfl) h))
theorem Da :FC e50 dG:= .of e50_k Cx.1
def nB(x_:az×Int×ab):Option (List UInt8×Int):=
 match x_ with
 | (s,t,v)=>
 lg (s,t,ab.eta v) >>=fun r=>
 if(!(decide (r=0)))=true then
 some ([],r)
 else
 cT (s,t,ab.eta v) >>=fun r_1=>
 some (decide (4096 < (r_1.length:Int))) >>=fun t23=>
 (if(!t23)=true then dG (s,t,ab.eta v)else some 0) >>=fun r_2=>
 if(bif t23 then true else decide (200 < r_2))=true then
 some ([],3)
 else
 some (r_1,0)
theorem e25_k :KC e25:= .m (by kernel_rfl)
theorem Db :FC e25 nB:= .fn e25_k (.k Du (.k CP (.k Da .n))) .n fun _=>by kernel_rfl
def bB(x_:Int×List ae×List Int×Int×List Int):Option (ab×Bool×List ae×Int×List Int×List Int):=
 match x_ with
 | (reason,b,b_1,b_2,b_3)=>
 i8 8 b_3 >>=fun r=>
 if(decide (r.1.length=b_3.length) && true)=true then
 some ((⟨0,false,0,[],0,[],[],[]⟩:ab),false,b,reason,r.1,r.2)
 else none
theorem Nt :KC e117:= .m (by kernel_rfl)
theorem gg :FC e117 bB:= .fn Nt (.k kR .n) .n fun _=>by kernel_rfl
def fj(x_:List UInt8×Int×Int×Int):Option (Int):=
 match x_ with
 | (s_1,n_1,t17_1,t18)=>
 if decide (t18 < t17_1)=true then
 if inR t18 s_1.length=true then
 fj (s_1,orI .u64 (shlI .u64 n_1 8) (wrp .u64 (bu s_1 t18)),t17_1,addI .i64 t18 1)
 else none
 else
 some n_1
  partial_fixpoint
theorem Dv :LC 118 0 [0] AP fj:= .rc fj.partial_correctness .n .n fun _ _=>by kernel_rfl
def lz(s:List UInt8):Option (Int×Int):=
 some (!(decide (s=[]))) >>=fun t7=>
 if(inR 0 s.length || (!t7))=true then
 if(bif t7 then decide (bu s 0=0)else false)=true then
 some (0,2)
 else
 if decide (8 < (s.length:Int))=true then
 some (0,7)
 else
 fj (s,0,(s.length:Int),0) >>=fun o=>
 some (o,0)
 else none
theorem Nu :KC e118:= .m (by kernel_rfl)
theorem Ep :FC e118 lz:= .fn Nu .n (.k Dv .n) fun _=>by kernel_rfl
def nN(n:Int):Option (Int):=
 some (xorI .i64 (wrp .i64 (shrI .u64 n 1)) (subI .i64 0 (wrp .i64 (andI .u64 n 1))))
theorem Nv :KC e119:= .m (by kernel_rfl)
theorem D7 :FC e119 nN:= .fn Nv .n .n fun _=>by kernel_rfl
def fZ(x_:List (List UInt8)×Int×List ae×List Int×Int×ae×Int×Bool×Int×List UInt8×Int×Int×Bool×Int×List UInt8×Int×List Int×List ab):Option ((Bool×List ae×Int×ab×List Int×List Int) ⊕ (List (List UInt8)×List ae×List Int×Int×ae×Int×Bool×Int×List UInt8×Int×Int×Bool×Int×List UInt8×Int×List Int×List ab)):=
 match x_ with
 | (l_4,i_1,b_83,b_84,b_85,b_86,b_87,b_88,b_89,b_90,b_91,b_92,b_93,b_94,b_95,b_96,b_97,b_98)=>
 if decide (i_1 < (b_98.length:Int))=true then
 some (subI .i64 i_1 1) >>=fun t86=>
 if inR t86 b_98.length=true then
 if decide (t86.toNat < b_98.length)=true then
 if inR i_1 b_98.length=true then
 if decide (i_1.toNat < b_98.length)=true then
 fq (ab.eta (b_98.getD t86.toNat af),ab.eta (b_98.getD i_1.toNat af)) >>=fun r_24=>
 if decide (0<=r_24)=true then
 bB (1,b_83,b_84,b_85,b_97) >>=fun r_25=>
 some (.inl (r_25.2.1,r_25.2.2.1,r_25.2.2.2.1,ab.eta r_25.1,r_25.2.2.2.2.1,r_25.2.2.2.2.2))
 else
 fZ (l_4,addI .i64 i_1 1,b_83,b_84,b_85,b_86,b_87,b_88,b_89,b_90,b_91,b_92,b_93,b_94,b_95,b_96,b_97,b_98)
 else none
 else none
 else none
 else none
 else
 some (.inr (l_4,b_83,b_84,b_85,b_86,b_87,b_88,b_89,b_90,b_91,b_92,b_93,b_94,b_95,b_96,b_97,b_98))
  partial_fixpoint
theorem BY :LC 123 2 [1] AT fZ:= .rc fZ.partial_correctness (.k ul (.k gg .n)) .n fun _ _=>by kernel_rfl
def iz(x_:List UInt8×Int×Int×Int):Option ((Int×Int×Int) ⊕ (Unit)):=
 match x_ with
 | (s_1,n,t10_1,t11)=>
 if decide (t11 < t10_1)=true then
 if inR t11 s_1.length=true then
 some (bu s_1 t11) >>=fun t16=>
 if(bif decide (t11=9)then decide (1 < t16)else false)=true then
 some (.inl (0,0,7))
 else
 if decide (128<=t16)=true then
 some (mulI .i64 7 t11) >>=fun t41=>
 if decide (0<=t41)=true then
 iz (s_1,orI .u64 n (shlI .u64 (wrp .u64 (andI .u8 t16 127)) t41),t10_1,addI .i64 t11 1)
 else none
 else
 if(bif decide (t16=0)then decide (0 < t11)else false)=true then
 some (.inl (0,0,2))
 else
 some (mulI .i64 7 t11) >>=fun t21=>
 if decide (0<=t21)=true then
 some (.inl (orI .u64 n (shlI .u64 (wrp .u64 t16) t21),addI .i64 t11 1,0))
 else none
 else none
 else
 some (.inr ())
  partial_fixpoint
theorem EG :LC 206 0 [0] AQ iz:= .rc iz.partial_correctness .n .n fun _ _=>by kernel_rfl
def oK(s:List UInt8):Option (Int×Int×Int):=
 iz (s,0,minI 10 (s.length:Int),0) >>=fun o=>
 match o with
 | .inl o_1=>
 some (o_1.1,o_1.2.1,o_1.2.2)
 | .inr o_2=>
 some (0,0,10)
theorem Nw :KC e206:= .m (by kernel_rfl)
theorem FN :FC e206 oK:= .fn Nw .n (.k EG .n) fun _=>by kernel_rfl
def gE(s:List UInt8):Option (Int×List UInt8×Bool):=
 oK s >>=fun r=>
 if(!(decide (r.2.2=0)))=true then
 some (0,[],false)
 else
 if slR r.2.1 (s.length:Int) s.length=true then
 some (r.1,cutL s r.2.1 (s.length:Int),true)
 else none
theorem Nx :KC e190:= .m (by kernel_rfl)
theorem qM :FC e190 gE:= .fn Nx (.k FN .n) .n fun _=>by kernel_rfl
def lM(s:List UInt8):Option (List UInt8×List UInt8×Bool):=
 gE s >>=fun r=>
 if(bif (!r.2.2)then true else decide (wrp .u64 (r.2.1.length:Int) < r.1))=true then
 some ([],[],false)
 else
 if slR 0 r.1 r.2.1.length=true then
 if slR r.1 (r.2.1.length:Int) r.2.1.length=true then
 some (cutL r.2.1 0 r.1,cutL r.2.1 r.1 (r.2.1.length:Int),true)
 else none
 else none
theorem Ny :KC e191:= .m (by kernel_rfl)
theorem uP :FC e191 lM:= .fn Ny (.k qM .n) .n fun _=>by kernel_rfl
def cG(x_:List UInt8×List (List UInt8)):Option ((Int) ⊕ (List (List UInt8))):=
 match x_ with
 | (s,b_1)=>
 if(!(decide (s=[])))=true then
 lM s >>=fun r=>
 if(!r.2.2)=true then
 some (.inl 12)
 else
 some [r.1] >>=fun t22=>
 if room 16 (b_1++t22).length=true then
 cG (r.2.1,b_1++t22)
 else none
 else
 some (.inr b_1)
  partial_fixpoint
theorem D8 :LC 157 0 [0] AS cG:= .rc cG.partial_correctness (.k uP .n) .n fun _ _=>by kernel_rfl
def fA(payload:List UInt8):Option (List (List UInt8)×Int):=
 cG (payload,[]) >>=fun o=>
 match o with
 | .inl o_1=>
 some ([],o_1)
 | .inr o_2=>
 some (o_2,0)
theorem Nz :KC e157:= .m (by kernel_rfl)
theorem uH :FC e157 fA:= .fn Nz .n (.k D8 .n) fun _=>by kernel_rfl
mutual
def cI(v:ab):Option (ab):=
 bk 120 v.Keys >>=fun r=>
 bk 120 v.Items >>=fun r_1=>
 bk 24 v.Rest >>=fun r_2=>
 io ((r.length:Int),0,v.Kind,v.Bool_,v.Int_,v.Str,v.ID,0,false,0,[],0,r,r_1,r_2) >>=fun o=>
 ip ((o.2.2.2.2.2.2.2.2.2.2.2.1.length:Int),0,o.1,o.2.1,o.2.2.1,o.2.2.2.1,o.2.2.2.2.1,o.2.2.2.2.2.1,o.2.2.2.2.2.2.1,o.2.2.2.2.2.2.2.1,o.2.2.2.2.2.2.2.2.1,o.2.2.2.2.2.2.2.2.2.1,o.2.2.2.2.2.2.2.2.2.2.2.1,o.2.2.2.2.2.2.2.2.2.2.1,o.2.2.2.2.2.2.2.2.2.2.2.2) >>=fun o_1=>
 some (⟨o_1.1,o_1.2.1,o_1.2.2.1,o_1.2.2.2.1,o_1.2.2.2.2.1,o_1.2.2.2.2.2.2.2.2.2.2.1,o_1.2.2.2.2.2.2.2.2.2.2.2.1,o_1.2.2.2.2.2.2.2.2.2.2.2.2⟩:ab)
  partial_fixpoint
def io(x_:Int×Int×Int×Bool×Int×List UInt8×Int×Int×Bool×Int×List UInt8×Int×List ab×List ab×List aG):Option (Int×Bool×Int×List UInt8×Int×Int×Bool×Int×List UInt8×Int×List ab×List ab×List aG):=
 match x_ with
 | (t21_1,t22,b_26,b_27,b_28,b_29,b_30,b_31,b_32,b_33,b_34,b_35,b_36,b_37,b_38)=>
 if decide (t22 < t21_1)=true then
 if inR t22 b_36.length=true then
 if decide (t22.toNat < b_36.length)=true then
 cI (ab.eta (b_36.getD t22.toNat af)) >>=fun r_3=>
 if inR t22 b_36.length=true then
 if decide (t22.toNat < b_36.length)=true then
 io (t21_1,addI .i64 t22 1,b_26,b_27,b_28,b_29,b_30,b_31,b_32,b_33,b_34,b_35,b_36.set t22.toNat (ab.eta r_3),b_37,b_38)
 else none
 else none
 else none
 else none
 else
 some (b_26,b_27,b_28,b_29,b_30,b_31,b_32,b_33,b_34,b_35,b_36,b_37,b_38)
  partial_fixpoint
def ip(x_:Int×Int×Int×Bool×Int×List UInt8×Int×Int×Bool×Int×List UInt8×Int×List ab×List ab×List aG):Option (Int×Bool×Int×List UInt8×Int×Int×Bool×Int×List UInt8×Int×List ab×List ab×List aG):=
 match x_ with
 | (t36_1,t37,b_39,b_40,b_41,b_42,b_43,b_44,b_45,b_46,b_47,b_48,b_49,b_50,b_51)=>
 if decide (t37 < t36_1)=true then
 if inR t37 b_49.length=true then
 if decide (t37.toNat < b_49.length)=true then
 cI (ab.eta (b_49.getD t37.toNat af)) >>=fun r_4=>
 if inR t37 b_49.length=true then
 if decide (t37.toNat < b_49.length)=true then
 ip (t36_1,addI .i64 t37 1,b_39,b_40,b_41,b_42,b_43,b_44,b_45,b_46,b_47,b_48,b_49.set t37.toNat (ab.eta r_4),b_50,b_51)
 else none
 else none
 else none
 else none
 else
 some (b_39,b_40,b_41,b_42,b_43,b_44,b_45,b_46,b_47,b_48,b_50,b_49,b_51)
  partial_fixpoint
end
theorem pS :KC e161:= .m (by kernel_rfl)
theorem D9 :(∀h r,cI h=some r->FD e161 h r)/\(∀h r,ip h=some r->LD 161 0 [1] mX h r)/\(∀h r,io h=some r->LD 161 0 [0] mW h r):=cI.mutual_partial_correctness (FD e161) (LD 161 0 [1] mX) (LD 161 0 [0] mW)
 (fun _ _ h1 h2 _ _ h=>FA e161 pS (.k nw (.k nA .n)) (.k (LH mW h2) (.k (LH mX h1) .n)) (.trans (by kernel_rfl) h))
 (fun _ _ h0 h1 _ _ h=>LA mX h1 (.k (FH e161 pS h0) .n) .n (.trans (by kernel_rfl) h))
 (fun _ _ h0 h2 _ _ h=>LA mW h2 (.k (FH e161 pS h0) .n) .n (.trans (by kernel_rfl) h))
theorem EH :FC e161 cI:= .of pS D9.1
def p9(x_:aY×aj):Option (Bool×aj):=
 match x_ with
 | (f,b)=>
 some (decide (f.ID=b.ID),(⟨b.ID,b.Name,b.Type_,b.Critical,b.HasDefault,ab.eta b.Default⟩:aj))
theorem NA :KC e160:= .m (by kernel_rfl)
theorem Cj :FC e160 p9:= .fn NA .n .n fun _=>by kernel_rfl
def eN(x_:List aY×Int×Int×aj):Option ((Int×aj) ⊕ (aj)):=
 match x_ with
 | (s_1,t7_1,t8,b_3)=>
 if decide (t8 < t7_1)=true then
 if inR t8 s_1.length=true then
 p9 (s_1.getD t8.toNat dC,(⟨b_3.ID,b_3.Name,b_3.Type_,b_3.Critical,b_3.HasDefault,ab.eta b_3.Default⟩:aj)) >>=fun r=>
 if r.1=true then
 some (.inl (t8,(⟨r.2.ID,r.2.Name,r.2.Type_,r.2.Critical,r.2.HasDefault,ab.eta r.2.Default⟩:aj)))
 else
 eN (s_1,t7_1,addI .i64 t8 1,(⟨r.2.ID,r.2.Name,r.2.Type_,r.2.Critical,r.2.HasDefault,ab.eta r.2.Default⟩:aj))
 else none
 else
 some (.inr (⟨b_3.ID,b_3.Name,b_3.Type_,b_3.Critical,b_3.HasDefault,ab.eta b_3.Default⟩:aj))
  partial_fixpoint
theorem BG :LC 159 1 [0] AV eN:= .rc eN.partial_correctness (.k Cj .n) .n fun _ _=>by kernel_rfl
def kD(x_:List aY×aj):Option (Int×aj):=
 match x_ with
 | (s,b)=>
 eN (s,(s.length:Int),0,(⟨b.ID,b.Name,b.Type_,b.Critical,b.HasDefault,ab.eta b.Default⟩:aj)) >>=fun o=>
 match o with
 | .inl o_1=>
 some (o_1.1,(⟨o_1.2.ID,o_1.2.Name,o_1.2.Type_,o_1.2.Critical,o_1.2.HasDefault,ab.eta o_1.2.Default⟩:aj))
 | .inr o_2=>
 some ((-1),(⟨o_2.ID,o_2.Name,o_2.Type_,o_2.Critical,o_2.HasDefault,ab.eta o_2.Default⟩:aj))
theorem NB :KC e159:= .m (by kernel_rfl)
theorem BL :FC e159 kD:= .fn NB .n (.k BG .n) fun _=>by kernel_rfl
def eS(x_:List aY×Int×Int×List ae×List Int×Int×ae×Int×Bool×Int×List UInt8×Int×Int×Bool×Int×List UInt8×Int×List Int×List ab×List aG):Option ((Bool×List ae×Int×ab×List Int×List Int) ⊕ (List ae×List Int×Int×Int×Bool×Int×List UInt8×Int×Int×Bool×Int×List UInt8×Int×List Int×List ab×List aG)):=
 match x_ with
 | (t117,t118_1,t119,b_62,b_63,b_64,b_65,b_66,b_67,b_68,b_69,b_70,b_71,b_72,b_73,b_74,b_75,b_76,b_77,b_78)=>
 if decide (t119 < t118_1)=true then
 if inR t119 t117.length=true then
 some (t117.getD t119.toNat dC) >>=fun x0_3=>
 bG (b_65,x0_3.ID) >>=fun r_28=>
 if r_28.2=true then
 eS (t117,t118_1,addI .i64 t119 1,b_62,b_63,b_64,b_65,b_66,b_67,b_68,b_69,b_70,b_71,b_72,b_73,b_74,b_75,b_76,b_77,b_78)
 else
 if x0_3.Critical=true then
 some [x0_3.ID] >>=fun t140=>
 if room 8 (b_76++t140).length=true then
 bB (6,b_62,b_63,b_64,b_76++t140) >>=fun r_31=>
 some (subI .i64 (r_31.2.2.2.2.1.length:Int) 1) >>=fun t159=>
 if slR 0 t159 r_31.2.2.2.2.1.length=true then
 if decide (t159.toNat<=r_31.2.2.2.2.1.length)=true then
 some (.inl (false,r_31.2.2.1,r_31.2.2.2.1,ab.eta r_31.1,r_31.2.2.2.2.1.take t159.toNat,r_31.2.2.2.2.2))
 else none
 else none
 else none
 else
 some [(⟨x0_3.ID,x0_3.Data⟩:aG)] >>=fun t171=>
 if room 24 (b_78++t171).length=true then
 eS (t117,t118_1,addI .i64 t119 1,b_62,b_63,b_64,b_65,b_66,b_67,b_68,b_69,b_70,b_71,b_72,b_73,b_74,b_75,b_76,b_77,b_78++t171)
 else none
 else none
 else
 some (.inr (b_62,b_63,b_64,b_66,b_67,b_68,b_69,b_70,b_71,b_72,b_73,b_74,b_75,b_76,b_77,b_78))
  partial_fixpoint
theorem B7 :LC 124 2 [1] AX eS:= .rc eS.partial_correctness (.k fl (.k gg .n)) .n fun _ _=>by kernel_rfl
def cd(x_:Int×List UInt8×List aY):Option ((Int) ⊕ (List aY)):=
 match x_ with
 | (last,s,b_1)=>
 if(!(decide (s=[])))=true then
 gE s >>=fun r=>
 if(bif bif (!r.2.2)then true else decide (quoI .u64 r.1 2<=last)then true else decide (1000 < quoI .u64 r.1 2))=true then
 some (.inl 12)
 else
 lM r.2.1 >>=fun r_4=>
 if(!r_4.2.2)=true then
 some (.inl 12)
 else
 some [(⟨wrp .i64 (quoI .u64 r.1 2),decide (remI r.1 2=1),r_4.1⟩:aY)] >>=fun t50=>
 if room 32 (b_1++t50).length=true then
 cd (quoI .u64 r.1 2,r_4.2.1,b_1++t50)
 else none
 else
 some (.inr b_1)
  partial_fixpoint
theorem DU :LC 158 0 [0] AU cd:= .rc cd.partial_correctness (.k qM (.k uP .n)) .n fun _ _=>by kernel_rfl
def gz(payload:List UInt8):Option (List aY×Int):=
 cd (0,payload,[]) >>=fun o=>
 match o with
 | .inl o_1=>
 some ([],o_1)
 | .inr o_2=>
 some (o_2,0)
theorem NC :KC e158:= .m (by kernel_rfl)
theorem EK :FC e158 gz:= .fn NC .n (.k DU .n) fun _=>by kernel_rfl
def gI(payload:List UInt8):Option (Int×List UInt8×Int):=
 gE payload >>=fun r=>
 if(bif bif (!r.2.2)then true else decide (r.1 < 1)then true else decide (1000 < r.1))=true then
 some (0,[],12)
 else
 some (wrp .i64 r.1,r.2.1,0)
theorem ND :KC e156:= .m (by kernel_rfl)
theorem FO :FC e156 gI:= .fn ND (.k qM .n) .n fun _=>by kernel_rfl
mutual
def kI(x_:ae×List UInt8×List ae×List Int×Int×List Int):Option (ab×Bool×List ae×List Int×Int×List Int):=
 match x_ with
 | (x0,p,b,b_1,b_2,b_3)=>
 fA p >>=fun r=>
 if(bif (!(decide (r.2=0)))then true else(!(decide (remI (r.1.length:Int) 2=0))))=true then
 bB (1,b,b_1,b_2,b_3) >>=fun r_3=>
 some (ab.eta r_3.1,r_3.2.1,r_3.2.2.1,r_3.2.2.2.2.2,r_3.2.2.2.1,r_3.2.2.2.2.1)
 else
 if decide (x0.Max < quoI .i64 (r.1.length:Int) 2)=true then
 bB (3,b,b_1,b_2,b_3) >>=fun r_10=>
 some (ab.eta r_10.1,r_10.2.1,r_10.2.2.1,r_10.2.2.2.2.2,r_10.2.2.2.1,r_10.2.2.2.2.1)
 else
 gT (r.1,0,b,b_1,b_2,x0,0,false,0,[],0,x0.Kind,false,0,[],0,b_3,[]) >>=fun o=>
 match o with
 | .inl o_1=>
 some (ab.eta o_1.2.2.2.2.1,o_1.1,o_1.2.1,o_1.2.2.1,o_1.2.2.2.1,o_1.2.2.2.2.2)
 | .inr o_2=>
 fZ (o_2.1,1,o_2.2.1,o_2.2.2.1,o_2.2.2.2.1,o_2.2.2.2.2.1,o_2.2.2.2.2.2.1,o_2.2.2.2.2.2.2.1,o_2.2.2.2.2.2.2.2.1,o_2.2.2.2.2.2.2.2.2.1,o_2.2.2.2.2.2.2.2.2.2.1,o_2.2.2.2.2.2.2.2.2.2.2.1,o_2.2.2.2.2.2.2.2.2.2.2.2.1,o_2.2.2.2.2.2.2.2.2.2.2.2.2.1,o_2.2.2.2.2.2.2.2.2.2.2.2.2.2.1,o_2.2.2.2.2.2.2.2.2.2.2.2.2.2.2.1,o_2.2.2.2.2.2.2.2.2.2.2.2.2.2.2.2.1,o_2.2.2.2.2.2.2.2.2.2.2.2.2.2.2.2.2) >>=fun o_3=>
 match o_3 with
 | .inl o_4=>
 some (ab.eta o_4.2.2.2.1,o_4.1,o_4.2.1,o_4.2.2.2.2.2,o_4.2.2.1,o_4.2.2.2.2.1)
 | .inr o_5=>
 gU (o_5.1,1,o_5.2.1,o_5.2.2.1,o_5.2.2.2.1,o_5.2.2.2.2.1,o_5.2.2.2.2.2.1,o_5.2.2.2.2.2.2.1,o_5.2.2.2.2.2.2.2.1,o_5.2.2.2.2.2.2.2.2.1,o_5.2.2.2.2.2.2.2.2.2.1,o_5.2.2.2.2.2.2.2.2.2.2.1,o_5.2.2.2.2.2.2.2.2.2.2.2.1,o_5.2.2.2.2.2.2.2.2.2.2.2.2.1,o_5.2.2.2.2.2.2.2.2.2.2.2.2.2.1,o_5.2.2.2.2.2.2.2.2.2.2.2.2.2.2.1,o_5.2.2.2.2.2.2.2.2.2.2.2.2.2.2.2.1,o_5.2.2.2.2.2.2.2.2.2.2.2.2.2.2.2.2,[]) >>=fun o_6=>
 match o_6 with
 | .inl o_7=>
 some (ab.eta o_7.2.2.2.2.1,o_7.1,o_7.2.1,o_7.2.2.1,o_7.2.2.2.1,o_7.2.2.2.2.2)
 | .inr o_8=>
 some ((⟨o_8.2.2.2.2.2.2.2.2.1,o_8.2.2.2.2.2.2.2.2.2.1,o_8.2.2.2.2.2.2.2.2.2.2.1,o_8.2.2.2.2.2.2.2.2.2.2.2.1,o_8.2.2.2.2.2.2.2.2.2.2.2.2.1,o_8.2.2.2.2.2.2.2.2.2.2.2.2.2.2.1,o_8.2.2.2.2.2.2.2.2.2.2.2.2.2.2.2,[]⟩:ab),true,o_8.1,o_8.2.1,o_8.2.2.1,o_8.2.2.2.2.2.2.2.2.2.2.2.2.2.1)
  partial_fixpoint
def nC(x_:ae×List UInt8×List ae×List Int×Int×List Int):Option (ab×Bool×List ae×List Int×Int×List Int):=
 match x_ with
 | (x0,p,b,b_1,b_2,b_3)=>
 fA p >>=fun r=>
 if(!(decide (r.2=0)))=true then
 bB (1,b,b_1,b_2,b_3) >>=fun r_3=>
 some (ab.eta r_3.1,r_3.2.1,r_3.2.2.1,r_3.2.2.2.2.2,r_3.2.2.2.1,r_3.2.2.2.2.1)
 else
 if decide (x0.Max < (r.1.length:Int))=true then
 bB (3,b,b_1,b_2,b_3) >>=fun r_10=>
 some (ab.eta r_10.1,r_10.2.1,r_10.2.2.1,r_10.2.2.2.2.2,r_10.2.2.2.1,r_10.2.2.2.2.1)
 else
 gY (r.1,(r.1.length:Int),0,b,b_1,b_2,x0,0,false,0,[],0,x0.Kind,false,0,[],0,b_3,[]) >>=fun o=>
 match o with
 | .inl o_1=>
 some (ab.eta o_1.2.2.2.2.1,o_1.1,o_1.2.1,o_1.2.2.1,o_1.2.2.2.1,o_1.2.2.2.2.2)
 | .inr o_2=>
 some ((⟨o_2.2.2.2.2.2.2.2.2.1,o_2.2.2.2.2.2.2.2.2.2.1,o_2.2.2.2.2.2.2.2.2.2.2.1,o_2.2.2.2.2.2.2.2.2.2.2.2.1,o_2.2.2.2.2.2.2.2.2.2.2.2.2.1,[],o_2.2.2.2.2.2.2.2.2.2.2.2.2.2.2,[]⟩:ab),true,o_2.1,o_2.2.1,o_2.2.2.1,o_2.2.2.2.2.2.2.2.2.2.2.2.2.2.1)
  partial_fixpoint
def bU(x_:Int×Int×List UInt8×List ae×List Int×Int×List Int):Option (ab×Bool×List ae×List Int×Int×List Int):=
 match x_ with
 | (step,t,p,b,b_1,b_2,b_3)=>
 some [step] >>=fun t18=>
 if room 8 (b_3++t18).length=true then
 eZ (t,p,b,b_1,b_2,b_3++t18) >>=fun r=>
 some (subI .i64 (r.2.2.2.2.2.length:Int) 1) >>=fun t39=>
 if slR 0 t39 r.2.2.2.2.2.length=true then
 if decide (t39.toNat<=r.2.2.2.2.2.length)=true then
 some (ab.eta r.1,r.2.1,r.2.2.1,r.2.2.2.1,r.2.2.2.2.1,r.2.2.2.2.2.take t39.toNat)
 else none
 else none
 else none
  partial_fixpoint
def eZ(x_:Int×List UInt8×List ae×List Int×Int×List Int):Option (ab×Bool×List ae×List Int×Int×List Int):=
 match x_ with
 | (t,p,b,b_1,b_2,b_3)=>
 if decide (200<=(b_3.length:Int))=true then
 bB (8,b,b_1,b_2,b_3) >>=fun r=>
 some (ab.eta r.1,r.2.1,r.2.2.1,r.2.2.2.2.2,r.2.2.2.1,r.2.2.2.2.1)
 else
 if inR t b.length=true then
 some (b.getD t.toNat ap) >>=fun x0=>
 if decide (x0.Kind=1)=true then
 some (decide (p=[1])) >>=fun t50=>
 if(bif (!(decide (p=[])))then(!t50)else false)=true then
 bB (1,b,b_1,b_2,b_3) >>=fun r_7=>
 some (ab.eta r_7.1,r_7.2.1,r_7.2.2.1,r_7.2.2.2.2.2,r_7.2.2.2.1,r_7.2.2.2.2.1)
 else
 some ((⟨x0.Kind,t50,0,[],0,[],[],[]⟩:ab),true,b,b_1,b_2,b_3)
 else
 if decide (x0.Kind=2)=true then
 lz p >>=fun r_14=>
 if(!(decide (r_14.2=0)))=true then
 bB (1,b,b_1,b_2,b_3) >>=fun r_17=>
 some (ab.eta r_17.1,r_17.2.1,r_17.2.2.1,r_17.2.2.2.2.2,r_17.2.2.2.1,r_17.2.2.2.2.1)
 else
 nN r_14.1 >>=fun r_24=>
 if(bif decide (r_24 < x0.Low)then true else decide (x0.High < r_24))=true then
 bB (2,b,b_1,b_2,b_3) >>=fun r_25=>
 some (ab.eta r_25.1,r_25.2.1,r_25.2.2.1,r_25.2.2.2.2.2,r_25.2.2.2.1,r_25.2.2.2.2.1)
 else
 some ((⟨x0.Kind,false,r_24,[],0,[],[],[]⟩:ab),true,b,b_1,b_2,b_3)
 else
 if decide (x0.Kind=3)=true then
 if decide (x0.Max < (p.length:Int))=true then
 bB (3,b,b_1,b_2,b_3) >>=fun r_32=>
 some (ab.eta r_32.1,r_32.2.1,r_32.2.2.1,r_32.2.2.2.2.2,r_32.2.2.2.1,r_32.2.2.2.2.1)
 else
 some ((⟨x0.Kind,false,0,p,0,[],[],[]⟩:ab),true,b,b_1,b_2,b_3)
 else
 if decide (x0.Kind=4)=true then
 lz p >>=fun r_39=>
 if(bif bif (!(decide (r_39.2=0)))then true else decide (r_39.1 < 1)then true else decide (1000 < r_39.1))=true then
 bB (1,b,b_1,b_2,b_3) >>=fun r_42=>
 some (ab.eta r_42.1,r_42.2.1,r_42.2.2.1,r_42.2.2.2.2.2,r_42.2.2.2.1,r_42.2.2.2.2.1)
 else
 some (wrp .i64 r_39.1) >>=fun t130=>
 jz (x0,t130) >>=fun r_49=>
 if(bif (!r_49.2)then(!x0.Open)else false)=true then
 bB (4,b,b_1,b_2,b_3) >>=fun r_52=>
 some (ab.eta r_52.1,r_52.2.1,r_52.2.2.1,r_52.2.2.2.2.2,r_52.2.2.2.1,r_52.2.2.2.2.1)
 else
 some ((⟨x0.Kind,false,0,[],t130,[],[],[]⟩:ab),true,b,b_1,b_2,b_3)
 else
 if decide (x0.Kind=9)=true then
 if decide (p=[])=true then
 some ((⟨x0.Kind,false,0,[],0,[],[],[]⟩:ab),true,b,b_1,b_2,b_3)
 else
 if inR 0 p.length=true then
 if(!(decide (bu p 0=1)))=true then
 bB (1,b,b_1,b_2,b_3) >>=fun r_59=>
 some (ab.eta r_59.1,r_59.2.1,r_59.2.2.1,r_59.2.2.2.2.2,r_59.2.2.2.1,r_59.2.2.2.2.1)
 else
 if slR 1 (p.length:Int) p.length=true then
 bU (0,x0.Elem,cutL p 1 (p.length:Int),b,b_1,b_2,b_3) >>=fun r_66=>
 some ((⟨x0.Kind,false,0,[],0,[],[ab.eta r_66.1],[]⟩:ab),r_66.2.1,r_66.2.2.1,r_66.2.2.2.1,r_66.2.2.2.2.1,r_66.2.2.2.2.2)
 else none
 else none
 else
 if decide (x0.Kind=6)=true then
 nr (x0,p,b,b_1,b_2,b_3) >>=fun r_73=>
 some (ab.eta r_73.1,r_73.2.1,r_73.2.2.1,r_73.2.2.2.1,r_73.2.2.2.2.1,r_73.2.2.2.2.2)
 else
 if decide (x0.Kind=7)=true then
 nC (x0,p,b,b_1,b_2,b_3) >>=fun r_80=>
 some (ab.eta r_80.1,r_80.2.1,r_80.2.2.1,r_80.2.2.2.1,r_80.2.2.2.2.1,r_80.2.2.2.2.2)
 else
 if decide (x0.Kind=8)=true then
 kI (x0,p,b,b_1,b_2,b_3) >>=fun r_87=>
 some (ab.eta r_87.1,r_87.2.1,r_87.2.2.1,r_87.2.2.2.1,r_87.2.2.2.2.1,r_87.2.2.2.2.2)
 else
 kK (x0,p,b,b_1,b_2,b_3) >>=fun r_94=>
 some (ab.eta r_94.1,r_94.2.1,r_94.2.2.1,r_94.2.2.2.1,r_94.2.2.2.2.1,r_94.2.2.2.2.2)
 else none
  partial_fixpoint
def kK(x_:ae×List UInt8×List ae×List Int×Int×List Int):Option (ab×Bool×List ae×List Int×Int×List Int):=
 match x_ with
 | (x0,p,b,b_1,b_2,b_3)=>
 gz p >>=fun r=>
 if(!(decide (r.2=0)))=true then
 bB (1,b,b_1,b_2,b_3) >>=fun r_3=>
 some (ab.eta r_3.1,r_3.2.1,r_3.2.2.1,r_3.2.2.2.2.2,r_3.2.2.2.1,r_3.2.2.2.2.1)
 else
 dF (r.1,x0.Members,(x0.Members.length:Int),0,b,b_1,b_2,x0,0,false,0,[],0,x0.Kind,false,0,[],0,b_3,[]) >>=fun o=>
 match o with
 | .inl o_1=>
 some (ab.eta o_1.2.2.2.2.1,o_1.1,o_1.2.1,o_1.2.2.1,o_1.2.2.2.1,o_1.2.2.2.2.2)
 | .inr o_2=>
 eS (o_2.1,(o_2.1.length:Int),0,o_2.2.1,o_2.2.2.1,o_2.2.2.2.1,o_2.2.2.2.2.1,o_2.2.2.2.2.2.1,o_2.2.2.2.2.2.2.1,o_2.2.2.2.2.2.2.2.1,o_2.2.2.2.2.2.2.2.2.1,o_2.2.2.2.2.2.2.2.2.2.1,o_2.2.2.2.2.2.2.2.2.2.2.1,o_2.2.2.2.2.2.2.2.2.2.2.2.1,o_2.2.2.2.2.2.2.2.2.2.2.2.2.1,o_2.2.2.2.2.2.2.2.2.2.2.2.2.2.1,o_2.2.2.2.2.2.2.2.2.2.2.2.2.2.2.1,o_2.2.2.2.2.2.2.2.2.2.2.2.2.2.2.2.1,o_2.2.2.2.2.2.2.2.2.2.2.2.2.2.2.2.2,[]) >>=fun o_3=>
 match o_3 with
 | .inl o_4=>
 some (ab.eta o_4.2.2.2.1,o_4.1,o_4.2.1,o_4.2.2.2.2.2,o_4.2.2.1,o_4.2.2.2.2.1)
 | .inr o_5=>
 some ((⟨o_5.2.2.2.2.2.2.2.2.1,o_5.2.2.2.2.2.2.2.2.2.1,o_5.2.2.2.2.2.2.2.2.2.2.1,o_5.2.2.2.2.2.2.2.2.2.2.2.1,o_5.2.2.2.2.2.2.2.2.2.2.2.2.1,[],o_5.2.2.2.2.2.2.2.2.2.2.2.2.2.2.1,o_5.2.2.2.2.2.2.2.2.2.2.2.2.2.2.2⟩:ab),true,o_5.1,o_5.2.1,o_5.2.2.1,o_5.2.2.2.2.2.2.2.2.2.2.2.2.2.1)
  partial_fixpoint
def nr(x_:ae×List UInt8×List ae×List Int×Int×List Int):Option (ab×Bool×List ae×List Int×Int×List Int):=
 match x_ with
 | (x0,p,b,b_1,b_2,b_3)=>
 gI p >>=fun r=>
 if(!(decide (r.2.2=0)))=true then
 bB (1,b,b_1,b_2,b_3) >>=fun r_4=>
 some (ab.eta r_4.1,r_4.2.1,r_4.2.2.1,r_4.2.2.2.2.2,r_4.2.2.2.1,r_4.2.2.2.2.1)
 else
 bG (x0,r.1) >>=fun r_11=>
 if r_11.2=true then
 if inR r_11.1 x0.Members.length=true then
 bU (r.1,(x0.Members.getD r_11.1.toNat ag).Type_,r.2.1,b,b_1,b_2,b_3) >>=fun r_14=>
 some ((⟨x0.Kind,false,0,[],r.1,[],[ab.eta r_14.1],[]⟩:ab),r_14.2.1,r_14.2.2.1,r_14.2.2.2.1,r_14.2.2.2.2.1,r_14.2.2.2.2.2)
 else none
 else
 if(!x0.Open)=true then
 bB (5,b,b_1,b_2,b_3) >>=fun r_21=>
 some (ab.eta r_21.1,r_21.2.1,r_21.2.2.1,r_21.2.2.2.2.2,r_21.2.2.2.1,r_21.2.2.2.2.1)
 else
 some ((⟨x0.Kind,false,0,[],r.1,[],[],[(⟨r.1,r.2.1⟩:aG)]⟩:ab),true,b,b_1,b_2,b_3)
  partial_fixpoint
def gT(x_:List (List UInt8)×Int×List ae×List Int×Int×ae×Int×Bool×Int×List UInt8×Int×Int×Bool×Int×List UInt8×Int×List Int×List ab):Option ((Bool×List ae×List Int×Int×ab×List Int) ⊕ (List (List UInt8)×List ae×List Int×Int×ae×Int×Bool×Int×List UInt8×Int×Int×Bool×Int×List UInt8×Int×List Int×List ab)):=
 match x_ with
 | (l_2,i,b_67,b_68,b_69,b_70,b_71,b_72,b_73,b_74,b_75,b_76,b_77,b_78,b_79,b_80,b_81,b_82)=>
 if decide (i < (l_2.length:Int))=true then
 if inR i l_2.length=true then
 bU (quoI .i64 i 2,b_70.Key,l_2.getD i.toNat [],b_67,b_68,b_69,b_81) >>=fun r_17=>
 if(!r_17.2.1)=true then
 some (.inl (false,r_17.2.2.1,r_17.2.2.2.1,r_17.2.2.2.2.1,ab.eta r_17.1,r_17.2.2.2.2.2))
 else
 some [ab.eta r_17.1] >>=fun t73=>
 if room 120 (b_82++t73).length=true then
 gT (l_2,addI .i64 i 2,r_17.2.2.1,r_17.2.2.2.1,r_17.2.2.2.2.1,b_70,b_71,b_72,b_73,b_74,b_75,b_76,b_77,b_78,b_79,b_80,r_17.2.2.2.2.2,b_82++t73)
 else none
 else none
 else
 some (.inr (l_2,b_67,b_68,b_69,b_70,b_71,b_72,b_73,b_74,b_75,b_76,b_77,b_78,b_79,b_80,b_81,b_82))
  partial_fixpoint
def gU(x_:List (List UInt8)×Int×List ae×List Int×Int×ae×Int×Bool×Int×List UInt8×Int×Int×Bool×Int×List UInt8×Int×List Int×List ab×List ab):Option ((Bool×List ae×List Int×Int×ab×List Int) ⊕ (List ae×List Int×Int×Int×Bool×Int×List UInt8×Int×Int×Bool×Int×List UInt8×Int×List Int×List ab×List ab)):=
 match x_ with
 | (l_5,i_2,b_99,b_100,b_101,b_102,b_103,b_104,b_105,b_106,b_107,b_108,b_109,b_110,b_111,b_112,b_113,b_114,b_115)=>
 if decide (i_2 < (l_5.length:Int))=true then
 if inR i_2 l_5.length=true then
 bU (quoI .i64 i_2 2,b_102.Elem,l_5.getD i_2.toNat [],b_99,b_100,b_101,b_113) >>=fun r_32=>
 if(!r_32.2.1)=true then
 some (.inl (false,r_32.2.2.1,r_32.2.2.2.1,r_32.2.2.2.2.1,ab.eta r_32.1,r_32.2.2.2.2.2))
 else
 some [ab.eta r_32.1] >>=fun t125=>
 if room 120 (b_115++t125).length=true then
 gU (l_5,addI .i64 i_2 2,r_32.2.2.1,r_32.2.2.2.1,r_32.2.2.2.2.1,b_102,b_103,b_104,b_105,b_106,b_107,b_108,b_109,b_110,b_111,b_112,r_32.2.2.2.2.2,b_114,b_115++t125)
 else none
 else none
 else
 some (.inr (b_99,b_100,b_101,b_103,b_104,b_105,b_106,b_107,b_108,b_109,b_110,b_111,b_112,b_113,b_114,b_115))
  partial_fixpoint
def gY(x_:List (List UInt8)×Int×Int×List ae×List Int×Int×ae×Int×Bool×Int×List UInt8×Int×Int×Bool×Int×List UInt8×Int×List Int×List ab):Option ((Bool×List ae×List Int×Int×ab×List Int) ⊕ (List ae×List Int×Int×Int×Bool×Int×List UInt8×Int×Int×Bool×Int×List UInt8×Int×List Int×List ab)):=
 match x_ with
 | (t38,t39_1,t40,b_24,b_25,b_26,b_27,b_28,b_29,b_30,b_31,b_32,b_33,b_34,b_35,b_36,b_37,b_38,b_39)=>
 if decide (t40 < t39_1)=true then
 if inR t40 t38.length=true then
 bU (t40,b_27.Elem,t38.getD t40.toNat [],b_24,b_25,b_26,b_38) >>=fun r_17=>
 if(!r_17.2.1)=true then
 some (.inl (false,r_17.2.2.1,r_17.2.2.2.1,r_17.2.2.2.2.1,ab.eta r_17.1,r_17.2.2.2.2.2))
 else
 some [ab.eta r_17.1] >>=fun t60=>
 if room 120 (b_39++t60).length=true then
 gY (t38,t39_1,addI .i64 t40 1,r_17.2.2.1,r_17.2.2.2.1,r_17.2.2.2.2.1,b_27,b_28,b_29,b_30,b_31,b_32,b_33,b_34,b_35,b_36,b_37,r_17.2.2.2.2.2,b_39++t60)
 else none
 else none
 else
 some (.inr (b_24,b_25,b_26,b_28,b_29,b_30,b_31,b_32,b_33,b_34,b_35,b_36,b_37,b_38,b_39))
  partial_fixpoint
def dF(x_:List aY×List aj×Int×Int×List ae×List Int×Int×ae×Int×Bool×Int×List UInt8×Int×Int×Bool×Int×List UInt8×Int×List Int×List ab):Option ((Bool×List ae×List Int×Int×ab×List Int) ⊕ (List aY×List ae×List Int×Int×ae×Int×Bool×Int×List UInt8×Int×Int×Bool×Int×List UInt8×Int×List Int×List ab)):=
 match x_ with
 | (l_1,t39,t40_1,t41,b_46,b_47,b_48,b_49,b_50,b_51,b_52,b_53,b_54,b_55,b_56,b_57,b_58,b_59,b_60,b_61)=>
 if decide (t41 < t40_1)=true then
 if inR t41 t39.length=true then
 some (t39.getD t41.toNat ag) >>=fun x0_1=>
 kD (l_1,(⟨x0_1.ID,x0_1.Name,x0_1.Type_,x0_1.Critical,x0_1.HasDefault,ab.eta x0_1.Default⟩:aj)) >>=fun r_10=>
 if decide (0<=r_10.1)=true then
 if inR r_10.1 l_1.length=true then
 bU (r_10.2.ID,r_10.2.Type_,(l_1.getD r_10.1.toNat dC).Data,b_46,b_47,b_48,b_60) >>=fun r_13=>
 if(!r_13.2.1)=true then
 some (.inl (false,r_13.2.2.1,r_13.2.2.2.1,r_13.2.2.2.2.1,ab.eta r_13.1,r_13.2.2.2.2.2))
 else
 some [ab.eta r_13.1] >>=fun t102=>
 if room 120 (b_61++t102).length=true then
 dF (l_1,t39,t40_1,addI .i64 t41 1,r_13.2.2.1,r_13.2.2.2.1,r_13.2.2.2.2.1,b_49,b_50,b_51,b_52,b_53,b_54,b_55,b_56,b_57,b_58,b_59,r_13.2.2.2.2.2,b_61++t102)
 else none
 else none
 else
 if r_10.2.HasDefault=true then
 cI (ab.eta r_10.2.Default) >>=fun r_20=>
 some [ab.eta r_20] >>=fun t113=>
 if room 120 (b_61++t113).length=true then
 dF (l_1,t39,t40_1,addI .i64 t41 1,b_46,b_47,b_48,b_49,b_50,b_51,b_52,b_53,b_54,b_55,b_56,b_57,b_58,b_59,b_60,b_61++t113)
 else none
 else
 some [r_10.2.ID] >>=fun t55=>
 if room 8 (b_60++t55).length=true then
 bB (7,b_46,b_47,b_48,b_60++t55) >>=fun r_21=>
 some (subI .i64 (r_21.2.2.2.2.1.length:Int) 1) >>=fun t74=>
 if slR 0 t74 r_21.2.2.2.2.1.length=true then
 if decide (t74.toNat<=r_21.2.2.2.2.1.length)=true then
 some (.inl (false,r_21.2.2.1,r_21.2.2.2.2.2,r_21.2.2.2.1,ab.eta r_21.1,r_21.2.2.2.2.1.take t74.toNat))
 else none
 else none
 else none
 else none
 else
 some (.inr (l_1,b_46,b_47,b_48,b_49,b_50,b_51,b_52,b_53,b_54,b_55,b_56,b_57,b_58,b_59,b_60,b_61))
  partial_fixpoint
end
theorem A7 :KC e123:= .m (by kernel_rfl)
theorem ja :KC e120:= .m (by kernel_rfl)
theorem e89_k :KC e89:= .m (by kernel_rfl)
theorem A8 :KC e124:= .m (by kernel_rfl)
theorem A9 :KC e122:= .m (by kernel_rfl)
theorem Ba :KC e121:= .m (by kernel_rfl)
theorem B8 :(∀h r,kI h=some r->FD e123 h r)/\(∀h r,gU h=some r->LD 123 2 [2] mV h r)/\(∀h r,bU h=some r->FD e120 h r)/\(∀h r,eZ h=some r->FD e89 h r)/\(∀h r,kK h=some r->FD e124 h r)/\(∀h r,dF h=some r->LD 124 2 [0] mY h r)/\(∀h r,nC h=some r->FD e122 h r)/\(∀h r,gY h=some r->LD 122 2 [0] mT h r)/\(∀h r,nr h=some r->FD e121 h r)/\(∀h r,gT h=some r->LD 123 2 [0] mU h r):=kI.mutual_partial_correctness (FD e123) (LD 123 2 [2] mV) (FD e120) (FD e89) (FD e124) (LD 124 2 [0] mY) (FD e122) (LD 122 2 [0] mT) (FD e121) (LD 123 2 [0] mU)
 (fun _ _ h1 h9 _ _ h=>FA e123 A7 (.k uH (.k gg .n)) (.k (LH mU h9) (.k BY (.k (LH mV h1) .n))) (.trans (by kernel_rfl) h))
 (fun _ _ h1 h2 _ _ h=>LA mV h1 (.k (FH e120 ja h2) .n) .n (.trans (by kernel_rfl) h))
 (fun _ h3 _ _ h=>FA e120 ja (.k (FH e89 e89_k h3) .n) .n (.trans (by kernel_rfl) h))
 (fun _ _ _ _ _ h0 h2 h4 h6 h8 _ _ h=>FA e89 e89_k (.k gg (.k Ep (.k D7 (.k qu (.k (FH e120 ja h2) (.k (FH e121 Ba h8) (.k (FH e122 A9 h6) (.k (FH e123 A7 h0) (.k (FH e124 A8 h4) .n))))))))) .n (.trans (by kernel_rfl) h))
 (fun _ h5 _ _ h=>FA e124 A8 (.k EK (.k gg .n)) (.k (LH mY h5) (.k B7 .n)) (.trans (by kernel_rfl) h))
 (fun _ _ h2 h5 _ _ h=>LA mY h5 (.k BL (.k (FH e120 ja h2) (.k EH (.k gg .n)))) .n (.trans (by kernel_rfl) h))
 (fun _ h7 _ _ h=>FA e122 A9 (.k uH (.k gg .n)) (.k (LH mT h7) .n) (.trans (by kernel_rfl) h))
 (fun _ _ h2 h7 _ _ h=>LA mT h7 (.k (FH e120 ja h2) .n) .n (.trans (by kernel_rfl) h))
 (fun _ h2 _ _ h=>FA e121 Ba (.k FO (.k gg (.k fl (.k (FH e120 ja h2) .n)))) .n (.trans (by kernel_rfl) h))
 (fun _ _ h2 h9 _ _ h=>LA mU h9 (.k (FH e120 ja h2) .n) .n (.trans (by kernel_rfl) h))
theorem Ct :FC e89 eZ:= .of e89_k B8.2.2.2.1
def rr(x_:az×Int×List UInt8):Option (ab×dN×Int):=
 match x_ with
 | (s,t,m)=>
 iB s >>=fun r=>
 if(!(decide (r=0)))=true then
 some ((⟨0,false,0,[],0,[],[],[]⟩:ab),(⟨[],0⟩:dN),r)
 else
 if(bif decide (t < 0)then true else decide ((s.Types.length:Int)<=t))=true then
 some ((⟨0,false,0,[],0,[],[],[]⟩:ab),(⟨[],0⟩:dN),4)
 else
 if decide (4096 < (m.length:Int))=true then
 some ((⟨0,false,0,[],0,[],[],[]⟩:ab),(⟨[],3⟩:dN),12)
 else
 eZ (t,m,s.Types,[],0,[]) >>=fun r_1=>
 if(!r_1.2.1)=true then
 some ((⟨0,false,0,[],0,[],[],[]⟩:ab),(⟨r_1.2.2.2.1,r_1.2.2.2.2.1⟩:dN),12)
 else
 some (ab.eta r_1.1,(⟨[],0⟩:dN),0)
theorem e51_k :KC e51:= .m (by kernel_rfl)
theorem Fa :FC e51 rr:= .fn e51_k (.k qF (.k Ct .n)) .n fun _=>by kernel_rfl
def lE(x_:az×Int×List UInt8):Option (ab×Int):=
 match x_ with
 | (s,t,m)=>
 rr (s,t,m) >>=fun r=>
 some (ab.eta r.1,r.2.2)
theorem e26_k :KC e26:= .m (by kernel_rfl)
theorem EL :FC e26 lE:= .fn e26_k (.k Fa .n) .n fun _=>by kernel_rfl
def nb(c:dI):Option (Bool):=
 ly c >>=fun r=>
 lb () >>=fun r_6=>
 if(bif (!r_6)then true else(!r.2.2.2.2))=true then
 lb () >>=fun r_7=>
 some r_7
 else
 nB (r.1,r.2.2.1,ab.eta r.2.2.2.1) >>=fun r_8=>
 if(!(decide (r_8.2=0)))=true then
 some true
 else
 lm (r.1,r.2.2.1,ab.eta r.2.2.2.1,r.2.1,r.2.2.1) >>=fun r_11=>
 lE (r.2.1,r.2.2.1,r_8.1) >>=fun r_14=>
 if decide (r_11.2=0)=true then
 some (decide (r_14.2=0)) >>=fun t57=>
 (if t57=true then nF (ab.eta r_11.1,ab.eta r_14.1)else some false) >>=fun r_17=>
 some (bif t57 then r_17 else false)
 else
 some (decide (r_11.2=12)) >>=fun t64=>
 some (decide (r_14.2=12)) >>=fun t67=>
 some (decide (r_14.2=0)) >>=fun t70=>
 (if(t64 && (!t67) && t70)=true then nV (r.1,r.2.2.1,ab.eta r.2.2.2.1,r.2.1,r.2.2.1,ab.eta r_14.1)else some false) >>=fun r_18=>
 some (bif t64 then bif t67 then true else bif t70 then(!r_18)else false else false)
theorem e9_k :KC e9:= .m (by kernel_rfl)
theorem N4 :FC e9 nb:= .fn e9_k (.k Eo (.k Df (.k Db (.k tY (.k EL (.k Dp (.k EF .n))))))) .n fun _=>by kernel_rfl
end
section
open Go Go.Proofs.YtandcioiaooocaaGreat.Shv
set_option maxRecDepth 100000
def vg(s:List UInt8):Nat->Nat->Nat->Int×Int×Int
 | 0,_,_=>(0,0,10)
 | f+1,i,n=>
  if i < s.length then
   if i=9/\1 < (s.getD i 0).toNat then(0,0,7)
   else if 128<=(s.getD i 0).toNat then vg s f (i+1) (n+((s.getD i 0).toNat % 128)*2 ^ (7*i))
   else if(s.getD i 0).toNat=0/\0 < i then(0,0,2)
   else(((n+(s.getD i 0).toNat*2 ^ (7*i):Nat):Int),((i+1:Nat):Int),0)
  else(0,0,10)
theorem pow7{i:Nat}(h:i<=9):2 ^ (7*i)<=9223372036854775808:=by
 have:2 ^ (7*i)<=2 ^ 63:=Nat.pow_le_pow_right (by omega) (by omega);omega
theorem pow7s(i:Nat):2 ^ (7*(i+1))=2 ^ (7*i)*128:=by rw[Nat.mul_add,Nat.pow_add]
theorem step7{n i b:Nat}(hn:n < 2 ^ (7*i)):n+(b % 128)*2 ^ (7*i) < 2 ^ (7*(i+1)):=by
 rw[pow7s];have:b % 128*2 ^ (7*i)<=127*2 ^ (7*i):=Nat.mul_le_mul_right _ (by omega);omega
theorem fit7{n i b:Nat}(hi:i<=9)(hn:n < 2 ^ (7*i))(hb:b < 128)(h9:i=9->b<=1):b*2 ^ (7*i) < 18446744073709551616/\n+b*2 ^ (7*i) < 18446744073709551616:=by
 rcases Nat.lt_or_ge i 9 with h | h
 . have:2 ^ (7*i)<=2 ^ 56:=Nat.pow_le_pow_right (by omega) (by omega);have e:(2:Nat) ^ 56=72057594037927936:=by decide
   have:b*2 ^ (7*i)<=127*2 ^ (7*i):=Nat.mul_le_mul_right _ (by omega);omega
 grind
theorem Bb(s:List UInt8):∀(f i n:Nat),i+f=10->n < 2 ^ (7*i)->∃o,iz (s,(n:Int),((min 10 s.length:Nat):Int),(i:Int))=some o/\(match o with | .inl x=>x | .inr _=>(0,0,10))=vg s f i n
 | 0,i,n,h,hn=>by
  refine⟨.inr (),?_,rfl⟩;rw[iz]
  grind
 | f+1,i,n,h,hn=>by
  rw[iz];simp only[vg,oZ4,oZ3,jM];by_cases hi:i < s.length
  . have hb:=r4 s i;generalize (s.getD i 0).toNat=b at hb ⊢;rw[if_pos (by simp;omega),if_pos (au hi),if_pos hi];have hm:mulI .i64 7 (i:Int)=((7*i:Nat):Int):=by rw[Ap (by omega) (by omega)];norm_cast
    rw[hm];have hz:decide ((0:Int)<=((7*i:Nat):Int))=true:=by simp;omega
    by_cases h9:i=9/\1 < b
    . rw[if_pos h9,if_pos (by obtain⟨h1,h2⟩:=h9;subst h1;simp;omega)]
      grind
    . rw[if_neg h9,if_neg (by grind)];by_cases hbig:128<=b
      . rw[if_pos hbig,if_pos (by simp;omega),if_pos hz];have h9':i=9->False:=fun h1=>h9 ⟨h1,by omega⟩
        have hlt:b % 128 < 128:=Nat.mod_lt _ (by omega);have hf:=fit7 (i:=i) (n:=n) (b:=b % 128) (by omega) hn hlt (fun h1=>(h9' h1).elim);rw[Kk hb,wrpn (by omega),yv (by omega) hf.1,zz (by have:=pow7 (i:=i) (by omega);omega) hf.1,Ao hn,aD (by omega)];exact Bb s f (i+1) (n+b % 128*2 ^ (7*i)) (by omega) (step7 hn)
      . rw[if_neg hbig,if_neg (by simp;omega)];by_cases h0:b=0/\0 < i
        . simp_all
        . rw[if_neg h0,if_neg (by grind),if_pos hz];have hf:=fit7 (i:=i) (n:=n) (b:=b) (by omega) hn (by omega) (fun h1=>by omega);rw[wrpn (by omega),yv (by omega) hf.1,zz (by have:=pow7 (i:=i) (by omega);omega) hf.1,Ao hn,aD (by omega)]
          grind
  . rw[if_neg (by simp;omega),if_neg hi]
    grind
theorem Bc(s:List UInt8):oK s=some (vg s 10 0 0):=by
 obtain⟨o,h1,h2⟩:=Bb s 10 0 0 rfl (by decide);rw[oK];have:minI 10 (s.length:Int)=((min 10 s.length:Nat):Int):=sC 10 s.length
 grind
theorem yz(s:List UInt8):∀(f i n:Nat),i<=s.length->i+f=10->n < 2 ^ (7*i)->(∃e:Int,e≠0/\vg s f i n=(0,0,e))\/∃m k:Nat,vg s f i n=((m:Int),(k:Int),0)/\i < k/\k<=s.length/\m < 18446744073709551616
 | 0,i,n,hil,h,hn=>.inl ⟨10,by decide,rfl⟩
 | f+1,i,n,hil,h,hn=>by
  simp only[vg];have hb:=r4 s i;generalize (s.getD i 0).toNat=b at hb ⊢;by_cases hi:i < s.length
  . rw[if_pos hi];by_cases h9:i=9/\1 < b
    . simp_all
    . rw[if_neg h9];by_cases hbig:128<=b
      . rw[if_pos hbig];rcases yz s f (i+1) (n+b % 128*2 ^ (7*i)) (by omega) (by omega) (step7 hn)with h | ⟨m,k,h1,h2,h3,h4⟩
        . exact .inl h
        grind
      . rw[if_neg hbig];by_cases h0:b=0/\0 < i
        . simp_all
        . rw[if_neg h0];have hf:=fit7 (i:=i) (n:=n) (b:=b) (by omega) hn (by omega) (fun h1=>by omega);exact .inr ⟨_,i+1,rfl,by omega,by omega,hf.2⟩
  . rw[if_neg hi];exact .inl ⟨10,by decide,rfl⟩
theorem vg0(s:List UInt8):(∃e:Int,e≠0/\vg s 10 0 0=(0,0,e))\/∃m k:Nat,vg s 10 0 0=((m:Int),(k:Int),0)/\0 < k/\k<=s.length/\m < 18446744073709551616:=
 yz s 10 0 0 (by omega) rfl (by decide)
theorem mc{s:List UInt8}{e:Int}(he:e≠0)(h:vg s 10 0 0=(0,0,e)):gE s=some (0,[],false):=by
 rw[gE,Bc,h]
 grind
theorem iW{s:List UInt8}{m k:Nat}(h:vg s 10 0 0=((m:Int),(k:Int),0))(hk:k<=s.length):gE s=some ((m:Int),s.drop k,true):=by
 rw[gE,Bc,h];simp only[oZ4,oZ3];rw[if_neg (by simp),if_pos (dB hk (Nat.le_refl _)),iR]
def encP :Option (List UInt8×List UInt8)->List UInt8×List UInt8×Bool
 | none=>([],[],false)
 | some (a,b)=>(a,b,true)
def vpart(s:List UInt8):Option (List UInt8×List UInt8):=
 match vg s 10 0 0 with
 | (m,k,e)=>if e=0/\m.toNat+k.toNat<=s.length then some ((s.drop k.toNat).take m.toNat,(s.drop k.toNat).drop m.toNat)else none
theorem oV{s a b:List UInt8}(h:vpart s=some (a,b)):a.length+b.length < s.length:=by
 unfold vpart at h;rcases vg0 s with⟨e,he,hv⟩ | ⟨m,k,hv,hk0,hk,hm⟩
 . grind
 grind
theorem kf{s:List UInt8}(hs:s.length<=1000000):lM s=some (encP (vpart s)):=by
 rw[lM];unfold vpart;rcases vg0 s with⟨e,he,hv⟩ | ⟨m,k,hv,hk0,hk,hm⟩
 . rw[mc he hv,hv];simp[he,encP]
 . rw[iW hv hk,hv];simp only[oZ4,oZ3,Int.toNat_natCast,true_and,List.length_drop];rw[wrpn (by omega)];by_cases hle:m+k<=s.length
   . rw[if_neg (by simp;omega),if_pos (show slR 0 (m:Int) (s.length - k)=true from dB (a:=0) (by omega) (by omega)),if_pos (dB (by omega) (Nat.le_refl _)),if_pos hle];have:((s.length - k:Nat):Int)=((s.drop k).length:Int):=by simp
     rw[this,iR,iH];rfl
   . rw[if_pos (by simp;omega),if_neg hle];rfl
theorem yA :∀(n:Nat) (s:List UInt8) (b:List (List UInt8)),s.length<=n->s.length+b.length<=100000->∃o,cG (s,b)=some o/\∀l,o= .inr l->l.length<=s.length+b.length:=by
 intro n
 induction n with
 | zero=>
  intro s b h1 h2;have:s=[]:=List.eq_nil_of_length_eq_zero (by omega);subst this;refine⟨.inr b,?_,fun l hl=>by cases hl;omega⟩;rw[cG];rw[if_neg (by simp)]
 | succ n ih=>
  intro s b h1 h2;rw[cG,kf (by omega)];simp only[oZ4,oZ3];by_cases hs:s=[]
  . grind
  . have hc:(!(decide (s=[])))=true:=by simp[hs]
    rw[if_pos hc];cases hv:vpart s with
    | none=>exact⟨.inl 12,rfl,fun l hl=>by cases hl⟩
    | some p=>
     obtain⟨x,y⟩:=p;have hl:=oV hv;have hr:room 16 (b++[(encP (some (x,y))).1]).length=true:=aR (by omega) (by simp;omega);have hn:¬((!(encP (some (x,y))).2.2)=true):=by simp[encP]
     rw[if_neg hn,if_pos hr];obtain⟨o,h3,h5⟩:=ih y (b++[x]) (by omega) (by simp;omega);exact⟨o,h3,fun l hl'=>by have:=h5 l hl';simp at this;omega⟩
theorem Kp{s:List UInt8}(h:s.length<=90000):∃o,fA s=some o/\o.1.length<=s.length:=by
 obtain⟨o,h1,h3⟩:=yA s.length s [] (Nat.le_refl _) (by simp;omega);rw[fA,h1];cases o with
 | inl e=>exact⟨_,rfl,by simp⟩
 | inr l=>exact⟨_,rfl,by have:=h3 l rfl;simpa using this⟩
theorem xH :∀(n:Nat) (s:List UInt8) (last:Nat) (b:List aY),s.length<=n->s.length+b.length<=100000->∃o,cd ((last:Int),s,b)=some o/\∀l,o= .inr l->l.length<=s.length+b.length:=by
 intro n
 induction n with
 | zero=>
  intro s last b h1 h2;have:s=[]:=List.eq_nil_of_length_eq_zero (by omega);subst this;refine⟨.inr b,?_,fun l hl=>by cases hl;omega⟩;rw[cd];rw[if_neg (by simp)]
 | succ n ih=>
  intro s last b h1 h2;rw[cd];by_cases hs:s=[]
  . subst hs;exact⟨.inr b,by rw[if_neg (by simp)],fun l hl=>by cases hl;omega⟩
  . have hc:(!(decide (s=[])))=true:=by simp[hs]
    rw[if_pos hc];rcases vg0 s with⟨e,he,hv⟩ | ⟨m,k,hv,hk0,hk,hm⟩
    . rw[mc he hv];exact⟨.inl 12,rfl,fun l hl=>by cases hl⟩
    . rw[iW hv hk];simp only[oZ4,oZ3];rw[quoI2 hm];by_cases hbad:m / 2<=last\/1000 < m / 2
      . exact⟨.inl 12,by rw[if_pos (by simp;omega)],fun l hl=>by cases hl⟩
      . have hw:wrp .i64 ((m / 2:Nat):Int)=((m / 2:Nat):Int):=wrp64 (by omega) (by omega);rw[if_neg (by simp;omega),hw,kf (by simp;omega)];simp only[oZ3];cases hp:vpart (s.drop k)with
        | none=>exact⟨.inl 12,rfl,fun l hl=>by cases hl⟩
        | some p=>
         obtain⟨x,y⟩:=p;have hl:=oV hp;rw[List.length_drop]at hl;have hr:room 32 (b++[(⟨((m / 2:Nat):Int),decide (remI (m:Int) 2=1),(encP (some (x,y))).1⟩:aY)]).length=true:=aR (by omega) (by simp;omega);have hn:¬((!(encP (some (x,y))).2.2)=true):=by simp[encP]
         rw[if_neg hn,if_pos hr];obtain⟨o,h3,h5⟩:=ih y (m / 2) (b++[(⟨((m / 2:Nat):Int),decide (remI (m:Int) 2=1),x⟩:aY)]) (by omega) (by simp;omega);exact⟨o,h3,fun l hl'=>by have:=h5 l hl';simp at this;omega⟩
theorem Ip{s:List UInt8}(h:s.length<=90000):∃o,gz s=some o/\o.1.length<=s.length:=by
 obtain⟨o,h1,h3⟩:=xH s.length s 0 [] (Nat.le_refl _) (by simp;omega);have h1':cd (0,s,[])=some o:=h1;rw[gz,h1'];cases o with
 | inl e=>exact⟨_,rfl,by simp⟩
 | inr l=>exact⟨_,rfl,by have:=h3 l rfl;simpa using this⟩
theorem NE(s:List UInt8):∃o,gI s=some o:=by
 rw[gI];rcases vg0 s with⟨e,he,hv⟩ | ⟨m,k,hv,hk0,hk,hm⟩
 . rw[mc he hv];exact⟨_,rfl⟩
 . rw[iW hv hk];simp only[oZ4,oZ3];by_cases hbad:m < 1\/1000 < m
   . exact⟨(0,[],12),by rw[if_pos (by simp;omega)]⟩
   . rw[if_neg (by simp;omega)];exact⟨_,rfl⟩
def vput(n:Nat):List UInt8:=if n < 128 then[UInt8.ofNat n]else UInt8.ofNat (n % 128+128)::vput (n / 128)
termination_by n
decreasing_by omega
theorem lW{n:Nat}(h:n < 128):vput n=[UInt8.ofNat n]:=by rw[vput,if_pos h]
theorem md{n:Nat}(h:¬n < 128):vput n=UInt8.ofNat (n % 128+128)::vput (n / 128):=by rw[vput,if_neg h]
theorem Lh{a:Nat}(h:a < 256):orI .u8 (a:Int) 128=((a % 128+128:Nat):Int):=by
 have key:∀a:Nat,a < 256->orI .u8 (a:Int) 128=((a % 128+128:Nat):Int):=by decide+kernel
 grind
theorem wrp8(n:Nat):wrp .u8 (n:Int)=((n % 256:Nat):Int):=by rfl
theorem shrI7(n:Nat):shrI .u64 (n:Int) 7=((n / 128:Nat):Int):=by
 unfold shrI;have:((2:Int) ^ min (7:Int).toNat IntKind.u64.bits)=128:=by decide
 grind
theorem Hf(m:Nat)(l:List Int):strOf ((m:Int)::l)=UInt8.ofNat m::strOf l:=rfl
theorem oe(a b:List Int):strOf (a++b)=strOf a++strOf b:=List.map_append
theorem qN{α:Type}:∀(l:List α) (i:Nat) (x:α),i < l.length->(l.set i x).take (i+1)=l.take i++[x]
 | [],i,x,h=>by simp at h
 | a::l,0,x,h=>by simp
 | a::l,i+1,x,h=>by simp[qN l i x (by simpa using h)]
theorem Bd :∀(f n i:Nat) (b:List Int),i+f=9->n < 128*128 ^ f->b.length=10->∃(n' i':Nat) (b':List Int),iv ((n:Int),(i:Int),b)=some ((n':Int),(i':Int),b')/\n' < 128/\i'<=9/\b'.length=10/\strOf (b'.take i')++[UInt8.ofNat n']=strOf (b.take i)++vput n
 | f,n,i,b,hi,hn,hb=>by
  rw[iv];by_cases hs:n < 128
  . rw[if_neg (by simp;omega)];exact⟨n,i,b,rfl,hs,by omega,hb,by rw[lW hs]⟩
  . rw[if_pos (by simp;omega),if_pos (au (by
     omega)),if_pos (by
     cases f with
     | zero=>simp at hn;omega
     | succ f=>simp[hb];omega)]
    match f,hi,hn with
    | 0,hi,hn=>simp at hn;omega
    | f+1,hi,hn=>
     rw[shrI7,aD (by omega),wrp8,Lh (Nat.mod_lt _ (by omega)),av];have hlt:n / 128 < 128*128 ^ f:=by omega
     obtain⟨n',i',b',h1,h2,h3,h4,h5⟩:=Bd f (n / 128) (i+1) (b.set i ((n % 256 % 128+128:Nat):Int)) (by omega) hlt (by simp[hb]);refine⟨n',i',b',h1,h2,h3,h4,?_⟩;rw[h5,qN _ _ _ (by omega),oe,md hs];have:n % 256 % 128=n % 128:=by omega
     rw[this];have hone:strOf [((n % 128+128:Nat):Int)]=[UInt8.ofNat (n % 128+128)]:=rfl
     grind
theorem ti :(128:Nat)*128 ^ 9=1180591620717411303424:=by decide
theorem mZ{n:Nat}(hn:n < 18446744073709551616):fD (n:Int)=some (vput n):=by
 obtain⟨n',i',b',h1,h2,h3,h4,h5⟩:=Bd 9 n 0 [0,0,0,0,0,0,0,0,0,0] rfl (by rw[ti];omega) rfl;rw[fD];have h1':iv ((n:Int),0,[0,0,0,0,0,0,0,0,0,0])=some ((n':Int),(i':Int),b'):=h1;rw[h1'];simp only[oZ4,oZ3];have hsl:slR 0 ((i'+1:Nat):Int) 10=true:=dB (a:=0) (by omega) (by omega)
 rw[if_pos (au (by omega)),if_pos (by simp[h4];omega),aD (by omega),if_pos hsl,if_pos (by simp[subR,h4];omega),av,av,wrp8];have:n' % 256=n':=Nat.mod_eq_of_lt (by omega);rw[this];simp only[Int.toNat_zero,List.drop_zero];rw[qN _ _ _ (by omega),oe];have h6:strOf [(n':Int)]=[UInt8.ofNat n']:=rfl;rw[h6,h5];rfl
theorem xI :∀(f n:Nat) (b:List Int),n < 128 ^ f->n < 18446744073709551616->b.length+f<=1000->∃(n':Nat) (b':List Int),jw ((n:Int),b)=some ((n':Int),b')/\n' < 128/\b'.length<=1000/\strOf b'++[UInt8.ofNat n']=strOf b++vput n
 | f,n,b,hn,h64,hb=>by
  rw[jw];by_cases hs:n < 128
  . rw[if_neg (by simp;omega)];exact⟨n,b,rfl,hs,by omega,by rw[lW hs]⟩
  . rw[if_pos (by simp;omega)]
    match f,hn with
    | 0,hn=>simp at hn;omega
    | f+1,hn=>
     have hrem:remI (n:Int) 128=((n % 128:Nat):Int):=remIn (b:=128);have hadd:addI .u64 ((n % 128:Nat):Int) 128=((n % 128+128:Nat):Int):=addIn (b:=128) (by omega);have hq:quoI .u64 (n:Int) 128=((n / 128:Nat):Int):=by
      unfold quoI;have e:(n:Int).tdiv 128=((n / 128:Nat):Int):=by rw[Int.tdiv_eq_ediv_of_nonneg (by omega)];omega
      rw[e];exact wrapu (by omega) (by omega)
     simp only[oZ4,oZ3];rw[hrem,hadd,hq,wrp8,if_pos (aR (by omega) (by simp;omega))];have hlt:n / 128 < 128 ^ f:=by omega
     obtain⟨n',b',h1,h2,h3,h4⟩:=xI f (n / 128) (b++[(((n % 128+128) % 256:Nat):Int)]) hlt (by omega) (by simp;omega);refine⟨n',b',h1,h2,h3,?_⟩;rw[h4,oe,md hs];have:(n % 128+128) % 256=n % 128+128:=by omega
     rw[this];have hone:strOf [((n % 128+128:Nat):Int)]=[UInt8.ofNat (n % 128+128)]:=rfl
     grind
theorem l7{n:Nat}(hn:n < 18446744073709551616):gv (n:Int)=some (vput n):=by
 obtain⟨n',b',h1,h2,h3,h4⟩:=xI 10 n [] (by have:=ti;rw[Nat.pow_succ,Nat.mul_comm];omega) hn (by simp);rw[gv,h1];simp only[oZ4,oZ3];rw[if_pos (aR (by omega) (by simp;omega)),wrp8,oe];have:n' % 256=n':=Nat.mod_eq_of_lt (by omega);rw[this];have h6:strOf [(n':Int)]=[UInt8.ofNat n']:=rfl;rw[h6,h4];rfl
theorem sE :∀(f n:Nat),n < 128 ^ (f+1)->(vput n).length<=f+1
 | f,n,hn=>by
  by_cases hs:n < 128
  . rw[lW hs];simp
  . rw[md hs]
    match f,hn with
    | 0,hn=>simp at hn;omega
    | f+1,hn=>
     have:=sE f (n / 128) (by omega);simp;omega
theorem cZ{n:Nat}(hn:n < 18446744073709551616):(vput n).length<=10:=sE 9 n (by have:=ti;rw[Nat.pow_succ,Nat.mul_comm];omega)
theorem me(n:Nat):0 < (vput n).length:=by
 rw[vput];split <;> simp
theorem cY{n:Nat}(h:n < 256):(UInt8.ofNat n).toNat=n:=by simp_all
theorem Be :∀(f i acc n:Nat) (pre rest:List UInt8),i+f=10->pre.length=i->n*2 ^ (7*i) < 18446744073709551616->(n=0->i=0)->vg (pre++(vput n++rest)) f i acc=(((acc+n*2 ^ (7*i):Nat):Int),((i+(vput n).length:Nat):Int),0)
 | 0,i,acc,n,pre,rest,hi,hp,hn,h0=>by grind
 | f+1,i,acc,n,pre,rest,hi,hp,hn,h0=>by
  have hlen:i < (pre++(vput n++rest)).length:=by
   have:=me n;simp;omega
  have hget:∀(x:UInt8) (r:List UInt8),vput n=x::r->(pre++(vput n++rest)).getD i 0=x:=by grind
  simp only[vg];rw[if_pos hlen];by_cases hs:n < 128
  . rw[hget _ _ (lW hs),cY (by omega),if_neg (by
     grind),if_neg (by omega),if_neg (by
     rintro ⟨h1,h2⟩
     have:=h0 h1;omega),lW hs]
    simp
  . have hi9:i < 9:=by grind
    rw[hget _ _ (md hs),cY (by omega),if_neg (by omega),if_pos (by omega)];have hmod:(n % 128+128) % 128=n % 128:=by omega
    have hsum:n % 128*2 ^ (7*i)+n / 128*2 ^ (7*(i+1))=n*2 ^ (7*i):=by
     rw[pow7s];have h1:n / 128*(2 ^ (7*i)*128)=(n / 128*128)*2 ^ (7*i):=by grind
     rw[h1,<-Nat.add_mul]
     grind
    have hbound:n / 128*2 ^ (7*(i+1)) < 18446744073709551616:=by omega
    have:=Be f (i+1) (acc+n % 128*2 ^ (7*i)) (n / 128) (pre++[UInt8.ofNat (n % 128+128)]) rest (by omega) (by simp[hp]) hbound (by omega);rw[hmod];have es:pre++(vput n++rest)=pre++[UInt8.ofNat (n % 128+128)]++(vput (n / 128)++rest):=by rw[md hs];simp
    grind
theorem sV{n:Nat}(hn:n < 18446744073709551616)(rest:List UInt8):vg (vput n++rest) 10 0 0=((n:Int),((vput n).length:Int),0):=by
 have:=Be 10 0 0 n [] rest rfl rfl (by simpa using hn) (fun _=>rfl)
 grind
def aW(p:List UInt8):List UInt8:=vput p.length++p
theorem bn{n:Nat}(h:n<=9223372036854775807):decide (n<=aV)=true:=by
 unfold aV;simp;omega
theorem Kq{p:List UInt8}(h:p.length<=1152921504606846976):gB p=some (aW p):=by
 rw[gB,wrpn (by omega),mZ (by omega)];simp only[oZ4,oZ3];have:=cZ (n:=p.length) (by omega);rw[if_pos (bn (by omega))];rfl
theorem oz{p:List UInt8}(h:p.length<=1152921504606846976):gr p=some (aW p):=by
 rw[gr,wrpn (by omega),l7 (by omega)];simp only[oZ4,oZ3];have:=cZ (n:=p.length) (by omega);rw[if_pos (bn (by omega))];rfl
def bz(id:Nat)(c:Bool)(p:List UInt8):List UInt8:=vput (2*id+(if c then 1 else 0))++aW p
theorem wO{p:List UInt8}(h:p.length<=1152921504606846976):(aW p).length<=p.length+10:=by
 have:=cZ (n:=p.length) (by omega);unfold aW;simp;omega
theorem Kr{id:Nat}{c:Bool}{p:List UInt8}(hid:id<=4611686018427387903)(h:p.length<=1152921504606846900):jD ((id:Int),c,p)=some (bz id c p):=by
 rw[jD];have hm:mulI .u64 2 (wrp .u64 (id:Int))=((2*id:Nat):Int):=by rw[wrpn (by omega)];exact mulIn (a:=2) (by omega)
 simp only[oZ4,oZ3];rw[hm,Kq (by omega)];have hl:=wO (p:=p) (by omega);cases c with
 | true=>
  have ha:addI .u64 ((2*id:Nat):Int) 1=((2*id+1:Nat):Int):=addIn (b:=1) (by omega);rw[if_pos rfl,ha,mZ (by omega)];have:=cZ (n:=2*id+1) (by omega);simp only[oZ3];rw[if_pos (bn (by omega))];rfl
 | false=>
  rw[if_neg (by simp),mZ (by omega)];have:=cZ (n:=2*id) (by omega);simp only[oZ3];rw[if_pos (bn (by omega))];rfl
theorem vW{id:Nat}{c:Bool}{p:List UInt8}(hid:id<=4611686018427387903)(h:p.length<=1152921504606846900):lf ((id:Int),c,p)=some (bz id c p):=by
 rw[lf];have hm:wrp .u64 (mulI .i64 2 (id:Int))=((2*id:Nat):Int):=by
  rw[Ap (by omega) (by omega)];have:(2:Int)*(id:Int)=((2*id:Nat):Int):=by omega
  rw[this];exact wrpn (by omega)
 simp only[oZ4,oZ3];rw[hm,oz (by omega)];have hl:=wO (p:=p) (by omega);cases c with
 | true=>
  have ha:addI .u64 ((2*id:Nat):Int) 1=((2*id+1:Nat):Int):=addIn (b:=1) (by omega);rw[if_pos rfl,ha,l7 (by omega)];have:=cZ (n:=2*id+1) (by omega);simp only[oZ3];rw[if_pos (bn (by omega))];rfl
 | false=>
  rw[if_neg (by simp),l7 (by omega)];have:=cZ (n:=2*id) (by omega);simp only[oZ3];rw[if_pos (bn (by omega))];rfl
theorem vX{p rest:List UInt8}(h:p.length<=100000):vpart (aW p++rest)=some (p,rest):=by
 unfold vpart aW;rw[List.append_assoc,sV (by omega)];simp only[Int.toNat_natCast,true_and]
 grind
theorem Gg {id : Nat} {c : Bool} {p rest : List UInt8} {last : Nat} {b : List aY} (h1 : last < id) (hid : id <= 1000) (h : (bz id c p ++ rest).length <= 100000) (hb : b.length <= 90000):
 cd ((last:Int),bz id c p++rest,b)=cd ((id:Int),rest,b++[⟨(id:Int),c,p⟩]):=by
 have hpl:p.length<=100000:=by
  have h2:=h;simp only[bz,aW,List.length_append]at h2;omega
 have hne:bz id c p++rest≠[]:=by
  intro hc;have h2:=congrArg List.length hc;have:=me (2*id+(if c then 1 else 0));simp only[bz,List.length_append,List.length_nil]at h2;omega
 have hh:2*id+(if c then 1 else 0)<=2001:=by split <;> omega
 have hg:vg (bz id c p++rest) 10 0 0=(((2*id+(if c then 1 else 0):Nat):Int),((vput (2*id+(if c then 1 else 0))).length:Int),0):=by
  unfold bz;rw[List.append_assoc];exact sV (by omega) _
 have hn:=iW hg (by unfold bz;simp);have hd:(bz id c p++rest).drop (vput (2*id+(if c then 1 else 0))).length=aW p++rest:=by
  unfold bz
  grind
 rw[hd]at hn;have hdiv:(2*id+(if c then 1 else 0)) / 2=id:=by split <;> omega
 have hrem:decide (remI ((2*id+(if c then 1 else 0):Nat):Int) 2=1)=c:=by
  have:remI ((2*id+(if c then 1 else 0):Nat):Int) 2=(((2*id+(if c then 1 else 0)) % 2:Nat):Int):=remIn (b:=2)
  grind
 rw[cd,if_pos (by simp only[Bool.not_eq_true',decide_eq_false_iff_not];exact hne),hn];simp only[oZ4,oZ3];rw[quoI2 (by omega),hdiv,if_neg (by simp;omega),hrem,kf (by grind),vX hpl];simp only[oZ3];have hw:wrp .i64 (id:Int)=(id:Int):=wrp64 (by omega) (by omega);have hnn:¬((!(encP (some (p,rest))).2.2)=true):=by simp[encP]
 rw[if_neg hnn,hw];have hr:room 32 (b++[(⟨(id:Int),c,(encP (some (p,rest))).1⟩:aY)]).length=true:=aR (by omega) (by simp;omega);rw[if_pos hr];rfl
inductive OkV:ab->Prop
 | mk (v : ab) (hs : v.Str.length <= reachBytes) (h1 : v.Keys.length <= reachBytes) (h2 : v.Items.length <= reachBytes) (h3 : v.Rest.length <= reachBytes)
  (hk:∀x,x∈v.Keys->OkV x) (hi:∀x,x∈v.Items->OkV x) (hr:∀x,x∈v.Rest->x.Data.length<=reachBytes)
  (n1: -9223372036854775808<=v.Kind/\v.Kind<=9223372036854775807) (n2: -9223372036854775808<=v.Int_/\v.Int_<=9223372036854775807) (n3: -9223372036854775808<=v.ID/\v.ID<=9223372036854775807)
  (n4:∀x,x∈v.Rest->-9223372036854775808<=x.ID/\x.ID<=9223372036854775807):OkV v
theorem aQ{n:Nat}(h:n<=reachBytes):n < 9223372036854775807:=Nat.lt_of_le_of_lt h (by decide)
theorem scan {γ : Type} (L : Nat -> Option γ) (n : Nat) (p : Nat -> Bool) (bad good : γ) (hstep : ∀ i, i < n -> L i = if p i = true then L (i + 1) else some bad) (hend : L n = some good):
 (L 0=some good/\∀j,j < n->p j=true)\/(L 0=some bad/\∃j,j < n/\p j=false):=by
 have key:∀k i,i+k=n->(L i=some good/\∀j,i<=j->j < n->p j=true)\/(L i=some bad/\∃j,j < n/\p j=false):=by
  intro k
  induction k with
  | zero => intro i hi; have : i = n := by omega
            subst this;exact .inl ⟨hend,fun j h1 h2=>by omega⟩
  | succ k ih=>grind
 rcases key n 0 (by omega)with⟨h1,h2⟩ | h
 . exact .inl ⟨h1,fun j hj=>h2 j (Nat.zero_le _) hj⟩
 . exact .inr h
theorem bc{α:Type}{l:List α}{i:Nat}(h:i < l.length)(d:α):l.getD i d=l[i]:=by grind
theorem jG {α : Type} {a b : List α} {p : Nat -> Bool} (hl : a.length = b.length) (hp : ∀ (i : Nat) (h1 : i < a.length) (h2 : i < b.length), p i = true ↔ a[i] = b[i]):
 (∀j,j < a.length->p j=true)↔a=b:=by
 constructor
 . intro h;exact List.ext_getElem hl fun i h1 h2=>(hp i h1 h2).1 (h i h1)
 . rintro rfl j hj
   exact(hp j hj hj).2 rfl
def Says{α:Type}(o:Option Bool)(a b:α):Prop:=∃r,o=some r/\(r=true↔a=b)
theorem Says.of_scan {α : Type} {a b : List α} {p : Nat -> Bool} (hl : a.length = b.length) (hp : ∀ (i : Nat) (h1 : i < a.length) (h2 : i < b.length), p i = true ↔ a[i] = b[i]) {o : Option Bool}
 (h:(o=some true/\∀j,j < a.length->p j=true)\/(o=some false/\∃j,j < a.length/\p j=false)):Says o a b:=by
 rcases h with⟨h1,h2⟩ | ⟨h1,j,h2,h3⟩
 . exact⟨true,h1,by simp[(jG hl hp).1 h2]⟩
 . refine⟨false,h1,?_⟩;constructor
   . intro h;cases h
   . intro h;have:=(jG hl hp).2 h j h2;rw[h3]at this;cases this
theorem Bf{a b:aG}:(eqI a.ID b.ID && (eqS a.Data b.Data && true))=true↔a=b:=by cases a;cases b;simp[eqI,eqS]
theorem Bg{a b:aK}:(eqI a.ID b.ID && (eqS a.Name b.Name && true))=true↔a=b:=by
 cases a;cases b;simp[eqI,eqS]
theorem NG{α:Type}{a b:List α}(h:¬a.length=b.length):a≠b:=fun e=>h (congrArg List.length e)
theorem jX{α:Type}{a b:List α}(h:¬a.length=b.length):Says (some false) a b:=⟨false,rfl,by simp[NG h]⟩
theorem Bh{a b:List aG}(ha:a.length<=reachBytes):Says (fV (a,b)) a b:=by
 rw[fV];by_cases hl:a.length=b.length
 . rw[if_neg (by simp;omega)];have hr:=aQ ha;have:=scan (fun i=>cS (a,b,(a.length:Int),(i:Int))) a.length (fun i=>eqI (a.getD i aC).ID (b.getD i aC).ID && (eqS (a.getD i aC).Data (b.getD i aC).Data && true)) (.inl false) (.inr ())
    (fun i hi=>by
     rw[cS,if_pos (by simp;omega),if_pos (au hi)];simp only[oZ4,oZ3,av];rw[if_pos (au (by omega)),aD (by omega)]
     grind)
    (by rw[cS,if_neg (by simp)])
   have h0:cS (a,b,(a.length:Int),((0:Nat):Int))=cS (a,b,(a.length:Int),0):=rfl;simp only[h0]at this;refine Says.of_scan (p:=fun i=>eqI (a.getD i aC).ID (b.getD i aC).ID && (eqS (a.getD i aC).Data (b.getD i aC).Data && true)) hl (fun i h1 h2=>by simp only[bc h1,bc h2];exact Bf) ?_
   grind
 . rw[if_pos (by simp;omega)];exact jX hl
theorem NH{a b:List aK}(ha:a.length<=reachBytes):Says (na (a,b)) a b:=by
 rw[na];by_cases hl:a.length=b.length
 . rw[if_neg (by simp;omega)];have hr:=aQ ha;have:=scan (fun i=>eO (a,b,(a.length:Int),(i:Int))) a.length (fun i=>eqI (a.getD i aP).ID (b.getD i aP).ID && (eqS (a.getD i aP).Name (b.getD i aP).Name && true)) (.inl false) (.inr ())
    (fun i hi=>by
     rw[eO,if_pos (by simp;omega),if_pos (au hi)];simp only[oZ4,oZ3,av];rw[if_pos (au (by omega)),aD (by omega)]
     grind)
    (by rw[eO,if_neg (by simp)])
   have h0:eO (a,b,(a.length:Int),((0:Nat):Int))=eO (a,b,(a.length:Int),0):=rfl;simp only[h0]at this;refine Says.of_scan (p:=fun i=>eqI (a.getD i aP).ID (b.getD i aP).ID && (eqS (a.getD i aP).Name (b.getD i aP).Name && true)) hl (fun i h1 h2=>by simp only[bc h1,bc h2];exact Bg) ?_
   grind
 . rw[if_pos (by simp;omega)];exact jX hl
theorem oW(v:ab):(⟨v.Kind,v.Bool_,v.Int_,v.Str,v.ID,v.Keys,v.Items,v.Rest⟩:ab)=v:=by cases v;rfl
theorem xK{a b:ab}:a=b↔a.Kind=b.Kind/\a.Bool_=b.Bool_/\a.Int_=b.Int_/\a.Str=b.Str/\a.ID=b.ID/\a.Rest=b.Rest/\a.Keys=b.Keys/\a.Items=b.Items:=by
 constructor
 . grind
 . cases a;cases b
   grind
section
variable {f:ab×ab->Option Bool}
theorem rM {a b : List ab} (hl : a.length = b.length) (ih : ∀ x, x ∈ a -> ∀ y, Says (f (x, y)) x y) (L : Nat -> Option (Bool ⊕ Unit))
 (hstep:∀i,i < a.length->L i=(f (ab.eta (a.getD i af),ab.eta (b.getD i af)) >>=fun r=>if(!r)=true then some (.inl false)else L (i+1)))
 (hend:L a.length=some (.inr ())):Says (L 0 >>=fun o=>match o with | .inl x=>some x | .inr _=>some true) a b:=by
 have hget:∀(i:Nat) (h1:i < a.length) (h2:i < b.length),Says (f (ab.eta (a.getD i af),ab.eta (b.getD i af))) a[i] b[i]:=by
  intro i h1 h2;rw[bc h1,bc h2,ab.aA,ab.aA]
  grind
 have:=scan L a.length (fun i=>(f (ab.eta (a.getD i af),ab.eta (b.getD i af))).getD false) (.inl false) (.inr ())
  (fun i hi=>by
   obtain⟨r,h1,h2⟩:=hget i hi (by omega)
   grind) hend
 refine Says.of_scan hl (fun i h1 h2=>?_) ?_ (p:=fun i=>(f (ab.eta (a.getD i af),ab.eta (b.getD i af))).getD false)
 . obtain⟨r,h3,h4⟩:=hget i h1 h2;rw[h3];exact h4
 . rcases this with⟨h1,h2⟩ | ⟨h1,h2⟩
   . exact .inl ⟨by rw[h1];rfl,h2⟩
   . exact .inr ⟨by rw[h1];rfl,h2⟩
end
theorem zI{a b:List ab}(ha:a.length<=reachBytes)(ih:∀x,x∈a->∀y,Says (eo (x,y)) x y):Says (jh (a,b)) a b:=by
 rw[jh];by_cases hl:a.length=b.length
 . rw[if_neg (by simp;omega)];have hr:=aQ ha;exact rM hl ih (fun i=>jf (b,a,(a.length:Int),(i:Int)))
    (fun i hi=>by
     rw[jf,if_pos (by simp;omega),if_pos (au hi),if_pos (au (by omega)),aD (by omega)]
     rfl)
    (by rw[jf,if_neg (by simp)])
 . rw[if_pos (by simp;omega)];exact jX hl
theorem zK{a b:List ab}(ha:a.length<=reachBytes)(ih:∀x,x∈a->∀y,Says (du (x,y)) x y):Says (kC (a,b)) a b:=by
 rw[kC];by_cases hl:a.length=b.length
 . rw[if_neg (by simp;omega)];have hr:=aQ ha;exact rM hl ih (fun i=>jg (b,a,(a.length:Int),(i:Int)))
    (fun i hi=>by
     rw[jg,if_pos (by simp;omega),if_pos (au hi),if_pos (au (by omega)),aD (by omega)]
     rfl)
    (by rw[jg,if_neg (by simp)])
 . rw[if_pos (by simp;omega)];exact jX hl
theorem zL{a b:List ab}(ha:a.length<=reachBytes)(ih:∀x,x∈a->∀y,Says (cp (x,y)) x y):Says (kG (a,b)) a b:=by
 rw[kG];by_cases hl:a.length=b.length
 . rw[if_neg (by simp;omega)];have hr:=aQ ha;exact rM hl ih (fun i=>jj (a,b,(i:Int)))
    (fun i hi=>by
     rw[jj,if_pos (by simp;omega),if_pos (au hi),if_pos (au (by omega)),aD (by omega)]
     rfl)
    (by rw[jj,if_neg (by simp)])
 . rw[if_pos (by simp;omega)];exact jX hl
theorem three {a b : ab} {h5 : Bool} (e5 : h5 = true ↔ a.Kind = b.Kind /\ a.Bool_ = b.Bool_ /\ a.Int_ = b.Int_ /\ a.Str = b.Str /\ a.ID = b.ID) {x y z : Option Bool} (hx : Says x a.Rest b.Rest) (hy : Says y a.Keys b.Keys) (hz : Says z a.Items b.Items):
 Says (some h5 >>=fun t37=>(if t37=true then x else some false) >>=fun r=>some (bif t37 then r else false) >>=fun t44=>(if t44=true then y else some false) >>=fun r_1=>some (bif t44 then r_1 else false) >>=fun t51=>(if t51=true then z else some false) >>=fun r_2=>some (bif t51 then r_2 else false)) a b:=by
 obtain⟨rx,hx1,hx2⟩:=hx;obtain⟨ry,hy1,hy2⟩:=hy;obtain⟨rz,hz1,hz2⟩:=hz;subst hx1;subst hy1;subst hz1;refine⟨h5 && rx && ry && rz,?_,?_⟩
 . cases h5 <;> cases rx <;> cases ry <;> rfl
 . rw[xK];simp only[Bool.and_eq_true];rw[e5,hx2,hy2,hz2];constructor
   . rintro ⟨⟨⟨⟨h1,h2,h3,h4,h5⟩,h6⟩,h7⟩,h8⟩;exact⟨h1,h2,h3,h4,h5,h6,h7,h8⟩
   . rintro ⟨h1,h2,h3,h4,h5,h6,h7,h8⟩;exact⟨⟨⟨⟨h1,h2,h3,h4,h5⟩,h6⟩,h7⟩,h8⟩
theorem five{a b:ab}:(bif bif bif bif decide (a.Kind=b.Kind)then eqB a.Bool_ b.Bool_ else false then decide (a.Int_=b.Int_)else false then decide (a.Str=b.Str)else false then decide (a.ID=b.ID)else false)=true↔a.Kind=b.Kind/\a.Bool_=b.Bool_/\a.Int_=b.Int_/\a.Str=b.Str/\a.ID=b.ID:=by
 simp only[Bool.cond_eq_ite,eqB]
 grind
theorem Hg{a:ab}(h:OkV a):∀b,Says (eo (a,b)) a b:=by
 induction h with
 | mk a hs h1 h2 h3 hk hi hr n1 n2 n3 n4 ihk ihi=>
  intro b;rw[eo];exact three five (Bh h3) (zI h1 ihk) (zI h2 ihi)
theorem oL{a:ab}(h:OkV a):∀b,Says (du (a,b)) a b:=by
 induction h with
 | mk a hs h1 h2 h3 hk hi hr n1 n2 n3 n4 ihk ihi=>
  intro b;rw[du];exact three five (Bh h3) (zK h1 ihk) (zK h2 ihi)
theorem pz{a:ab}(h:OkV a):∀b,Says (cp (a,b)) a b:=by
 induction h with
 | mk a hs h1 h2 h3 hk hi hr n1 n2 n3 n4 ihk ihi=>
  intro b;rw[cp];by_cases h5:a.Kind=b.Kind/\a.Bool_=b.Bool_/\a.Int_=b.Int_/\a.Str=b.Str/\a.ID=b.ID/\a.Rest.length=b.Rest.length
  . obtain⟨e1,e2,e3,e4,e5,e6⟩:=h5;rw[if_neg (by simp[e1,e2,e3,e4,e5,e6,eqB])];have hr3:=aQ h3;have hsc:=scan (fun i=>eP ((i:Int),a,b)) a.Rest.length (fun i=>eqI (a.Rest.getD i aC).ID (b.Rest.getD i aC).ID && (eqS (a.Rest.getD i aC).Data (b.Rest.getD i aC).Data && true)) (.inl false) (.inr (a,b))
     (fun i hi'=>by
      rw[eP,if_pos (by simp;omega),if_pos (au hi')];simp only[oZ4,oZ3,av,ab.aA];rw[if_pos (au (by omega)),aD (by omega)]
      grind)
     (by rw[eP,if_neg (by simp),ab.aA,ab.aA])
    have h0:eP (((0:Nat):Int),a,b)=eP (0,a,b):=rfl;simp only[h0]at hsc;rw[oW,oW];have hp:∀(i:Nat) (h1:i < a.Rest.length) (h2:i < b.Rest.length),(eqI (a.Rest.getD i aC).ID (b.Rest.getD i aC).ID && (eqS (a.Rest.getD i aC).Data (b.Rest.getD i aC).Data && true))=true↔a.Rest[i]=b.Rest[i]:=fun i h1 h2=>by rw[bc h1,bc h2];exact Bf
    rcases hsc with⟨g1,g2⟩ | ⟨g1,j,g2,g3⟩
    . have hrest:=(jG e6 hp).1 g2;rw[g1];obtain⟨rk,k1,k2⟩:=zL (a:=a.Keys) (b:=b.Keys) h1 ihk;obtain⟨ri,i1,i2⟩:=zL (a:=a.Items) (b:=b.Items) h2 ihi;simp only[oZ4,oZ3];rw[k1,i1];refine⟨rk && ri,by cases rk <;> rfl,?_⟩;rw[xK,Bool.and_eq_true,k2,i2]
      grind
    . rw[g1];refine⟨false,rfl,?_⟩
      grind
  . rw[if_pos]
    . refine⟨false,rfl,?_⟩
      grind
    . simp only[Bool.cond_eq_ite,eqB]
      grind
def dP(c:Int):Bool:=decide (c=95\/(97<=c/\c<=122)\/(65<=c/\c<=90))
def m6(c:Int):Bool:=decide (48<=c/\c<=57)
theorem oY(c:Int):lv c=some (dP c):=by
 rw[lv];unfold dP
 grind
theorem xL(c:Int):kX c=some (dP c):=by
 rw[kX];unfold dP
 grind
theorem Kt(c:Int):nS c=some (m6 c):=by
 rw[nS];unfold m6
 grind
theorem Ku(c:Int):nG c=some (m6 c):=by
 rw[nG];unfold m6
 grind
theorem yB {γ : Type} (A B I : Bool) (X Y : Option γ) (hI : I = true):
 (some A >>=fun r_1=>some (!r_1) >>=fun t26=>if(I || (!t26))=true then(if t26=true then some B else some false) >>=fun r_2=>if(bif t26 then(!r_2)else false)=true then X else Y else none)=if(A || B)=true then Y else X:=by
 subst hI;cases A <;> cases B <;> rfl
theorem zM(s:List UInt8):∃r,cK s=some r/\g7 s=some r:=by
 rw[cK,g7];simp only[oZ4,oZ3];by_cases hb:s=[]\/24 < s.length
 . have ht:(bif decide (s=[])then true else decide (24 < (s.length:Int)))=true:=by grind
   rw[ht];simp_all
 . have hne:s≠[]:=fun h=>hb (.inl h)
   have hlen:s.length<=24:=by omega
   have ht:(bif decide (s=[])then true else decide (24 < (s.length:Int)))=false:=by grind
   have hpos:0 < s.length:=List.length_pos_iff.2 hne;have hin:inR 0 s.length=true:=au (k:=0) hpos;simp only[ht,hin,Bool.true_or,if_true,Bool.not_false,oZ3,oY,xL,cond_false];cases hl:dP (bu s 0)with
   | false=>exact⟨false,rfl,rfl⟩
   | true=>
    rw[if_neg (by simp),if_neg (by simp)]
    let p:Nat->Bool:=fun i=>dP (bu s i) || m6 (bu s i)
    have s1:=scan (fun i=>cV (s,(s.length:Int),(i:Int))) s.length p (.inl false) (.inr ())
     (fun i hi=>by
      rw[cV,if_pos (by simp;omega),if_pos (au hi),oY,Kt,aD (by omega)]
      exact yB _ _ _ _ _ (au hi))
     (by rw[cV,if_neg (by simp)])
    have s2:=scan (fun i=>eY (s,(i:Int))) s.length p (.inl false) (.inr ())
     (fun i hi=>by
      rw[eY,if_pos (by simp;omega),if_pos (au hi),xL,Ku,aD (by omega)]
      exact yB _ _ _ _ _ (au hi))
     (by rw[eY,if_neg (by simp)])
    have e1:cV (s,(s.length:Int),((0:Nat):Int))=cV (s,(s.length:Int),0):=rfl;have e2:eY (s,((0:Nat):Int))=eY (s,0):=rfl;simp only[e1,e2]at s1 s2;rcases s1 with⟨a1,a2⟩ | ⟨a1,j,a2,a3⟩ <;> rcases s2 with⟨b1,b2⟩ | ⟨b1,k,b2,b3⟩
    . simp_all
    . grind
    . grind
    simp_all
def nm(s:List UInt8):Bool:=(cK s).getD false
theorem lexNm(s:List UInt8):cK s=some (nm s):=by
 obtain⟨r,h1,_⟩:=zM s;unfold nm;rw[h1];rfl
theorem refNm(s:List UInt8):g7 s=some (nm s):=by
 obtain⟨r,h1,h2⟩:=zM s;unfold nm;rw[h1,h2];rfl
theorem nm_ne{s:List UInt8}(h:nm s=true):s≠[]:=by
 rintro rfl
 unfold nm at h;rw[cK]at h;simp at h
def idp(l:List Int)(names:List (List UInt8))(i:Nat):Bool:=
 decide (1<=l.getD i 0) && decide (l.getD i 0<=1000) && (decide (i=0) || decide (l.getD (i - 1) 0 < l.getD i 0)) && nm (names.getD i []) && !((names.take i).contains (names.getD i []))
def setOf(l:List (List UInt8)):List (List UInt8):=l.foldl addS []
theorem Kv(ks:List (List UInt8))(a s:List UInt8):hasS (addS ks a) s=(hasS ks s || decide (a=s)):=by
 unfold addS;split
 . grind
 . simp[hasS,List.any_append]
theorem wP(l:List (List UInt8))(s:List UInt8):hasS (setOf l) s=l.contains s:=by
 have key:∀(l:List (List UInt8)) (ks:List (List UInt8)),hasS (l.foldl addS ks) s=(hasS ks s || l.contains s):=by
  intro l
  induction l with
  | nil=>intro ks;simp
  | cons a r ih=>
   intro ks;rw[List.foldl_cons,ih,Kv,Bool.or_assoc]
   grind
 have:=key l []
 simpa[setOf,hasS]using this
theorem wQ{l:List (List UInt8)}{i:Nat}(h:i < l.length):addS (setOf (l.take i)) (l.getD i [])=setOf (l.take (i+1)):=by
 unfold setOf;rw[List.take_add_one,List.foldl_append,List.getElem?_eq_getElem h,bc h];rfl
theorem Li {γ : Type} (A Z I1 C I H N : Bool) (X Y : Option γ) (hI : I = true) (hI1 : Z = true -> I1 = true):
 (if(I1 || (!((!A) && Z)))=true then
  some (bif A then true else bif Z then C else false) >>=fun t34=>
  if(I || (!(!t34)))=true then
   some (bif t34 then true else H) >>=fun t42=>
   if(I || (!(!t42)))=true then
    (if(!t42)=true then some N else some false) >>=fun r=>
    if(bif t42 then true else(!r))=true then X else(if I=true then Y else none)
   else none
  else none
 else none)=if(!A && (!Z || !C) && N && !H)=true then Y else X:=by
 subst hI;cases Z with
 | true=>have:=hI1 rfl;subst this;cases A <;> cases C <;> cases H <;> cases N <;> rfl
 | false=>cases A <;> cases I1 <;> cases C <;> cases H <;> cases N <;> rfl
theorem Bi{l:List Int}{names:List (List UInt8)}(hl:l.length<=reachBytes)(hn:names.length=l.length):∃r,lT (l,names)=some r/\(r=true↔(∀i,i < l.length->idp l names i=true)/\l.length<=16):=by
 rw[lT];have hr:=aQ hl;have hsc:=scan (fun i=>fp (l,names,l,(l.length:Int),(i:Int),setOf (names.take i))) l.length (idp l names) (.inl false) (.inr l)
  (fun i hi=>by
   have hin:i < names.length:=by omega
   rw[fp,if_pos (by simp;omega),if_pos (au hi)];simp only[av];rw[lexNm,aD (by omega),wQ hin,wP];have hsub:0 < i->subI .i64 (i:Int) 1=((i - 1:Nat):Int):=by intro h;rw[cb (by omega) (by omega)];omega
   refine(Li (bif decide (l.getD i 0 < 1)then true else decide (1000 < l.getD i 0)) (decide ((0:Int) < (i:Int))) (inR (subI .i64 (i:Int) 1) l.length) (decide (l.getD i 0<=l.getD (subI .i64 (i:Int) 1).toNat 0)) (inR (i:Int) names.length) ((names.take i).contains (names.getD i [])) (nm (names.getD i [])) _ _ (au hin) (fun hz=>?_)).trans ?_
   . have hpos:0 < i:=by simp at hz;omega
     rw[hsub hpos];exact au (by omega)
   . have:(!(bif decide (l.getD i 0 < 1)then true else decide (1000 < l.getD i 0)) && (!(decide ((0:Int) < (i:Int))) || !(decide (l.getD i 0<=l.getD (subI .i64 (i:Int) 1).toNat 0))) && nm (names.getD i []) && !((names.take i).contains (names.getD i [])))=idp l names i:=by
      unfold idp
      grind
     rw[this])
  (by rw[fp,if_neg (by simp)])
 have e0:fp (l,names,l,(l.length:Int),((0:Nat):Int),setOf (names.take 0))=fp (l,names,l,(l.length:Int),0,[]):=rfl;simp only[e0]at hsc;rcases hsc with⟨h1,h2⟩ | ⟨h1,j,h2,h3⟩
 . rw[h1];refine⟨decide ((l.length:Int)<=16),rfl,?_⟩
   grind
 . rw[h1];refine⟨false,rfl,?_⟩
   grind
theorem room8{k n:Nat}(hk:k<=16)(h:n*24<=reachBytes):room k n=true:=by
 unfold room bX aX;unfold reachBytes at h;simp only[Bool.and_eq_true,decide_eq_true_eq];have:(2*n+192)*k<=(2*n+192)*16:=Nat.mul_le_mul_left _ hk;omega
theorem jO{α:Type}(l:List α)(i:Nat)(d:α)(h:i < l.length):l.take i++[l.getD i d]=l.take (i+1):=by simp_all
theorem bQ{α β:Type}(f:α->β)(l:List α)(i:Nat)(d:α)(e:β)(h:i < l.length):(l.map f).getD i e=f (l.getD i d):=by grind
theorem ft{l:List (List UInt8)}{i:Nat}{s:List UInt8}(hi:i<=l.length):(l.take i).contains s=true↔∃k,k < i/\l.getD k []=s:=by
 rw[List.contains_iff_mem];constructor
 . intro h;obtain⟨k,hk,he⟩:=List.getElem_of_mem h;rw[List.length_take]at hk;refine⟨k,by omega,?_⟩
   grind
 . rintro ⟨k,hk,he⟩
   rw[<-he,bc (by omega)];have:(l.take i)[k]'(by rw[List.length_take];omega)=l[k]:=List.getElem_take
   grind
def bef(l:List Int)(i:Nat):Int:=if i=0 then 0 else l.getD (i - 1) 0
theorem zN {l : List Int} {names : List (List UInt8)} {i : Nat} (hi : i < l.length) (hn : names.length = l.length):
 idp l names i=(decide (bef l i < l.getD i 0) && decide (1<=l.getD i 0) && decide (l.getD i 0<=1000) && nm (names.getD i []) && !((names.take i).contains (names.getD i []))):=by
 unfold idp bef;generalize l.getD i 0=x;generalize l.getD (i - 1) 0=y;generalize nm (names.getD i [])=a;generalize (names.take i).contains (names.getD i [])=b;by_cases h0:i=0
 . subst h0;by_cases h1:1<=x
   . have:decide ((0:Int) < x)=true:=by simp;omega
     simp[h1,this]
   . simp[h1]
 . simp only[h0,if_false,decide_false,Bool.false_or];by_cases h1:1<=x <;> by_cases h2:x<=1000 <;> by_cases h3:y < x <;> simp[h1,h2,h3]
theorem wR(l:List aK)(hl:l.length*24<=reachBytes):∀(k i:Nat),i+k=l.length->gm (l,l,(l.length:Int),(i:Int),(l.map (·.ID)).take i,(l.map (·.Name)).take i)=some (l,l.map (·.ID),l.map (·.Name))
 | 0,i,h=>by
  have:i=l.length:=by omega
  subst this;rw[gm,if_neg (by simp)];rw[List.take_of_length_le (by simp),List.take_of_length_le (by simp)]
 | k+1,i,h=>by
  have hr:l.length < 9223372036854775807:=by unfold reachBytes at hl;omega
  have hi:i < l.length:=by omega
  rw[gm,if_pos (by simp;omega),if_pos (au hi)];simp only[oZ4,oZ3,av];rw[<-bQ (·.ID) l i aP 0 hi,<-bQ (·.Name) l i aP [] hi,jO _ _ _ (by simpa using hi),jO _ _ _ (by simpa using hi)];rw[if_pos (room8 (by omega) (by simp;omega)),if_pos (room8 (by omega) (by simp;omega)),aD (by omega)];exact wR l hl k (i+1) (by omega)
theorem zO{l:List aK}(hl:l.length*24<=reachBytes):∃r,jy l=some r/\(r=true↔0 < l.length/\(∀i,i < l.length->idp (l.map (·.ID)) (l.map (·.Name)) i=true)/\l.length<=16):=by
 have h:=wR l hl l.length 0 (by omega);have h':gm (l,l,(l.length:Int),0,[],[])=some (l,l.map (·.ID),l.map (·.Name)):=h;rw[jy,h'];simp only[oZ4,oZ3];obtain⟨r,h1,h2⟩:=Bi (l:=l.map (·.ID)) (names:=l.map (·.Name)) (by simp;unfold reachBytes at*;omega) (by simp);rw[List.length_map]at h2
 grind
theorem refId(a b:Int):lx (a,b)=some (decide (a < b) && decide (1<=b) && decide (b<=1000)):=by
 rw[lx]
 grind
theorem Hh (l : List aK) (hl : l.length <= reachBytes) (i : Nat) (hi : i < l.length):
 dU (l,(i:Int),0)=some (if((l.map (·.Name)).take i).contains ((l.map (·.Name)).getD i [])=true then .inl false else .inr (l,(i:Int))):=by
 have hr:=aQ hl;have hsc:=scan (fun k=>dU (l,(i:Int),(k:Int))) i (fun k=>!(decide ((l.getD k aP).Name=(l.getD i aP).Name))) (.inl false) (.inr (l,(i:Int)))
  (fun k hk=>by
   rw[dU,if_pos (by simp;omega),if_pos (au (by omega)),if_pos (au hi),aD (by omega)]
   grind)
  (by rw[dU,if_neg (by simp)])
 have e0:dU (l,(i:Int),((0:Nat):Int))=dU (l,(i:Int),0):=rfl;simp only[e0]at hsc;rw[bQ (·.Name) l i aP [] hi];rcases hsc with⟨h1,h2⟩ | ⟨h1,j,h2,h3⟩
 . rw[h1,if_neg];rw[ft (by simp;omega)]
   rintro ⟨k,hk,he⟩
   rw[bQ (·.Name) l k aP [] (by omega)]at he;have:=h2 k hk;rw[he]at this;simp at this
 . rw[h1,if_pos];rw[ft (by simp;omega)];refine⟨j,h2,?_⟩;rw[bQ (·.Name) l j aP [] (by omega)]
   simpa using h3
theorem Lj{l:List aK}(hl:l.length<=reachBytes):∃r,kQ l=some r/\(r=true↔0 < l.length/\(∀i,i < l.length->idp (l.map (·.ID)) (l.map (·.Name)) i=true)/\l.length<=16):=by
 have hr:=aQ hl;have hsc:=scan (fun i=>eU (l,bef (l.map (·.ID)) i,(i:Int))) l.length (idp (l.map (·.ID)) (l.map (·.Name))) (.inl false) (.inr l)
  (fun i hi=>by
   rw[eU,if_pos (by simp;omega),if_pos (au hi),refId,Hh l hl i hi,zN (by simpa using hi) (by simp)];simp only[oZ4,oZ3,av];rw[<-bQ (·.ID) l i aP 0 hi,<-bQ (·.Name) l i aP [] hi,refNm];generalize (decide (bef (l.map (·.ID)) i < (l.map (·.ID)).getD i 0) && decide (1<=(l.map (·.ID)).getD i 0) && decide ((l.map (·.ID)).getD i 0<=1000))=q
   rw[if_pos (by rw[au hi];rfl)];cases q with
   | false=>rfl
   | true=>
    simp only[Bool.not_true,Bool.not_false,if_true,oZ3,Bool.true_and];cases nm ((l.map (·.Name)).getD i [])with
    | false=>rfl
    | true=>
     simp only[Bool.not_true,cond_false,Bool.false_eq_true,if_false,Bool.true_and];cases hc:((l.map (·.Name)).take i).contains ((l.map (·.Name)).getD i [])with
     | true=>simp
     | false=>
      simp only[Bool.false_eq_true,if_false,Bool.not_false,if_true];rw[if_pos (au hi),aD (by omega)];have:bef (l.map (·.ID)) (i+1)=(l.getD i aP).ID:=by
       unfold bef
       grind
      grind)
  (by rw[eU,if_neg (by simp)])
 have e0:eU (l,bef (l.map (·.ID)) 0,((0:Nat):Int))=eU (l,0,0):=rfl;simp only[e0]at hsc;rw[kQ];rcases hsc with⟨h1,h2⟩ | ⟨h1,j,h2,h3⟩
 . rw[h1];refine⟨_,rfl,?_⟩
   grind
 . rw[h1];refine⟨false,rfl,?_⟩
   grind
theorem Iq{l:List aK}(hl:l.length*24<=reachBytes):∃r,jy l=some r/\kQ l=some r:=by
 obtain⟨r,h1,h2⟩:=zO hl;obtain⟨q,h3,h4⟩:=Lj (l:=l) (by unfold reachBytes at*;omega)
 grind
structure OkT (t:ae):Prop where
 syms:t.Symbols.length*24<=reachBytes
 mems:t.Members.length*24<=reachBytes
 dv:∀m,m∈t.Members->OkV m.Default
theorem bY{n:Nat}(h:n*24<=reachBytes):n<=reachBytes:=by unfold reachBytes at*;omega
theorem Hi{a b:aj}:a=b↔a.ID=b.ID/\a.Name=b.Name/\a.Type_=b.Type_/\a.Critical=b.Critical/\a.HasDefault=b.HasDefault/\a.Default=b.Default:=by cases a;cases b;simp
theorem cM(x:aj):(⟨x.ID,x.Name,x.Type_,x.Critical,x.HasDefault,ab.eta x.Default⟩:aj)=x:=by cases x;simp[ab.aA]
theorem fiveM{a b:aj}:(bif bif bif bif decide (a.ID=b.ID)then decide (a.Name=b.Name)else false then decide (a.Type_=b.Type_)else false then eqB a.Critical b.Critical else false then eqB a.HasDefault b.HasDefault else false)=true↔a.ID=b.ID/\a.Name=b.Name/\a.Type_=b.Type_/\a.Critical=b.Critical/\a.HasDefault=b.HasDefault:=by
 simp only[Bool.cond_eq_ite,eqB]
 grind
theorem twoM {a b : aj} {q : Bool} (hq : q = true ↔ a.ID = b.ID /\ a.Name = b.Name /\ a.Type_ = b.Type_ /\ a.Critical = b.Critical /\ a.HasDefault = b.HasDefault) {x : Option Bool} (hx : Says x a.Default b.Default):
 Says (some q >>=fun t37=>(if t37=true then x else some false) >>=fun r=>some (bif t37 then r else false)) a b:=by
 obtain⟨rx,h1,h2⟩:=hx;subst h1;refine⟨q && rx,by cases q <;> cases rx <;> rfl,?_⟩;rw[Hi,Bool.and_eq_true,hq,h2];constructor
 . rintro ⟨⟨a1,a2,a3,a4,a5⟩,a6⟩;exact⟨a1,a2,a3,a4,a5,a6⟩
 . rintro ⟨a1,a2,a3,a4,a5,a6⟩;exact⟨⟨a1,a2,a3,a4,a5⟩,a6⟩
theorem Ir{a:aj}(h:OkV a.Default)(b:aj):Says (lu (a,b)) a b:=by
 rw[lu];simp only[oW,ab.aA];exact twoM fiveM (oL h _)
theorem It{a:aj}(h:OkV a.Default)(b:aj):Says (kH (a,b)) a b:=by
 rw[kH];simp only[oW,ab.aA];exact twoM fiveM (pz h _)
theorem vY {f : aj×aj -> Option Bool} {γ : Type} {g : γ} {a b : List aj} (hl : a.length = b.length) (ih : ∀ x, x ∈ a -> ∀ y, Says (f (x, y)) x y) (L : Nat -> Option (Bool ⊕ γ))
 (hstep:∀i,i < a.length->L i=(f (a.getD i ag,b.getD i ag) >>=fun r=>if(!r)=true then some (.inl false)else L (i+1)))
 (hend:L a.length=some (.inr g)):(L 0=some (.inr g)/\a=b)\/(L 0=some (.inl false)/\a≠b):=by
 have hget:∀(i:Nat) (h1:i < a.length) (h2:i < b.length),Says (f (a.getD i ag,b.getD i ag)) a[i] b[i]:=by grind
 have hp:∀(i:Nat) (h1:i < a.length) (h2:i < b.length),(f (a.getD i ag,b.getD i ag)).getD false=true↔a[i]=b[i]:=by
  intro i h1 h2;obtain⟨r,h3,h4⟩:=hget i h1 h2
  grind
 have:=scan L a.length (fun i=>(f (a.getD i ag,b.getD i ag)).getD false) (.inl false) (.inr g)
  (fun i hi=>by
   obtain⟨r,h1,h2⟩:=hget i hi (by omega)
   grind) hend
 rcases this with⟨h1,h2⟩ | ⟨h1,j,h2,h3⟩
 . exact .inl ⟨h1,(jG hl hp).1 h2⟩
 . refine .inr ⟨h1,fun e=>?_⟩;have:=(jG hl hp).2 e j h2;rw[h3]at this;cases this
theorem FP{a b:List aj}(ha:a.length<=reachBytes)(hd:∀m,m∈a->OkV m.Default):Says (m8 (a,b)) a b:=by
 rw[m8];by_cases hl:a.length=b.length
 . rw[if_neg (by simp;omega)];have hr:=aQ ha;have hs:=vY (g:=()) hl (f:=lu) (fun x hx y=>Ir (hd x hx) y) (fun i=>eL (b,a,(a.length:Int),(i:Int)))
    (fun i hi=>by
     rw[eL,if_pos (by simp;omega),if_pos (au hi)];simp only[oZ4,oZ3,av,cM]
     rw[if_pos (au (by omega)),aD (by omega)])
    (by rw[eL,if_neg (by simp)])
   have e0:eL (b,a,(a.length:Int),((0:Nat):Int))=eL (b,a,(a.length:Int),0):=rfl;simp only[e0]at hs;rcases hs with⟨h1,h2⟩ | ⟨h1,h2⟩
   . rw[h1];exact⟨true,rfl,by simp[h2]⟩
   . rw[h1];exact⟨false,rfl,by simp[h2]⟩
 . rw[if_pos (by simp;omega)];exact jX hl
theorem yC{a b:ae}:a=b↔a.Kind=b.Kind/\a.Name=b.Name/\a.Low=b.Low/\a.High=b.High/\a.Max=b.Max/\a.Key=b.Key/\a.Elem=b.Elem/\a.Open=b.Open/\a.Symbols=b.Symbols/\a.Members=b.Members:=by
 cases a;cases b
 grind
theorem NI {a b : ae}: (bif bif bif bif bif bif bif decide (a.Kind = b.Kind) then decide (a.Name = b.Name) else false then decide (a.Low = b.Low) else false then decide (a.High = b.High) else false then decide (a.Max = b.Max) else false then decide (a.Key = b.Key) else false then decide (a.Elem = b.Elem) else false then eqB a.Open b.Open else false) = true ↔
 a.Kind=b.Kind/\a.Name=b.Name/\a.Low=b.Low/\a.High=b.High/\a.Max=b.Max/\a.Key=b.Key/\a.Elem=b.Elem/\a.Open=b.Open:=by
 simp only[Bool.cond_eq_ite,eqB];by_cases h1:a.Kind=b.Kind <;> by_cases h2:a.Name=b.Name <;> by_cases h3:a.Low=b.Low <;> by_cases h4:a.High=b.High <;> simp[h1,h2,h3,h4]
 by_cases h5:a.Max=b.Max <;> by_cases h6:a.Key=b.Key <;> by_cases h7:a.Elem=b.Elem <;> simp[h5,h6,h7]
theorem ca{a:ae}(h:OkT a)(b:ae):Says (bH (a,b)) a b:=by
 rw[bH];obtain⟨rs,s1,s2⟩:=NH (a:=a.Symbols) (b:=b.Symbols) (bY h.syms);obtain⟨rm,m1,m2⟩:=FP (a:=a.Members) (b:=b.Members) (bY h.mems) h.dv;have e8:=NI (a:=a) (b:=b)
 generalize (bif bif bif bif bif bif bif decide (a.Kind=b.Kind)then decide (a.Name=b.Name)else false then decide (a.Low=b.Low)else false then decide (a.High=b.High)else false then decide (a.Max=b.Max)else false then decide (a.Key=b.Key)else false then decide (a.Elem=b.Elem)else false then eqB a.Open b.Open else false)=q at e8 ⊢
 simp only[oZ4,oZ3];rw[s1,m1];refine⟨q && rs && rm,by cases q <;> cases rs <;> cases rm <;> rfl,?_⟩;rw[yC,Bool.and_eq_true,Bool.and_eq_true,e8,s2,m2]
 grind
theorem pg(a:ae):(⟨a.Kind,a.Name,a.Low,a.High,a.Max,a.Symbols,a.Members,a.Key,a.Elem,a.Open⟩:ae)=a:=by cases a;rfl
theorem fN{a:ae}(h:OkT a)(b:ae):Says (np (a,b)) a b:=by
 rw[np];simp only[pg];by_cases h5:(a.Kind=b.Kind/\a.Name=b.Name/\a.Low=b.Low/\a.High=b.High/\a.Max=b.Max/\a.Key=b.Key/\a.Elem=b.Elem/\a.Open=b.Open)/\a.Symbols.length=b.Symbols.length/\a.Members.length=b.Members.length
 . obtain⟨⟨e1,e2,e3,e4,e5,e6,e7,e8⟩,e9,e10⟩:=h5;rw[if_neg (by simp[e1,e2,e3,e4,e5,e6,e7,e8,e9,e10,eqB])];have hr:=aQ (bY h.syms);have hr2:=aQ (bY h.mems)
   have hsc:=scan (fun i=>eQ ((i:Int),a,b)) a.Symbols.length (fun i=>eqI (a.Symbols.getD i aP).ID (b.Symbols.getD i aP).ID && (eqS (a.Symbols.getD i aP).Name (b.Symbols.getD i aP).Name && true)) (.inl false) (.inr (a,b))
    (fun i hi'=>by
     rw[eQ,if_pos (by simp;omega),if_pos (au hi')];simp only[oZ4,oZ3,av];rw[if_pos (au (by omega)),aD (by omega)]
     grind)
    (by rw[eQ,if_neg (by simp)])
   have h0:eQ (((0:Nat):Int),a,b)=eQ (0,a,b):=rfl;simp only[h0]at hsc;have hp:∀(i:Nat) (h1:i < a.Symbols.length) (h2:i < b.Symbols.length),(eqI (a.Symbols.getD i aP).ID (b.Symbols.getD i aP).ID && (eqS (a.Symbols.getD i aP).Name (b.Symbols.getD i aP).Name && true))=true↔a.Symbols[i]=b.Symbols[i]:=fun i h1 h2=>by rw[bc h1,bc h2];exact Bg
   rcases hsc with⟨g1,g2⟩ | ⟨g1,j,g2,g3⟩
   . have hsy:=(jG e9 hp).1 g2;rw[g1];simp only[oZ4,oZ3];have hs:=vY (g:=()) e10 (f:=kH) (fun x hx y=>It (h.dv x hx) y) (fun i=>eR ((i:Int),a,b))
      (fun i hi=>by
       rw[eR,if_pos (by simp;omega),if_pos (au hi)];simp only[oZ4,oZ3,av,cM]
       rw[if_pos (au (by omega)),aD (by omega)])
      (by rw[eR,if_neg (by simp)])
     have e0:eR (((0:Nat):Int),a,b)=eR (0,a,b):=rfl;simp only[e0]at hs;rcases hs with⟨k1,k2⟩ | ⟨k1,k2⟩
     . rw[k1];refine⟨true,rfl,?_⟩;rw[yC]
       grind
     . rw[k1];refine⟨false,rfl,?_⟩
       grind
   . rw[g1];refine⟨false,rfl,?_⟩
     grind
 . rw[if_pos]
   . refine⟨false,rfl,?_⟩
     grind
   . simp only[Bool.cond_eq_ite,eqB];by_cases q1:a.Kind=b.Kind <;> by_cases q2:a.Name=b.Name <;> by_cases q3:a.Low=b.Low <;> by_cases q4:a.High=b.High <;> simp[q1,q2,q3,q4]
     grind
def fR(v:ab):Bool:=(du (v,af)).getD false
theorem Lk{v:ab}(h:OkV v):du (v,af)=some (fR v):=by
 obtain⟨r,h1,h2⟩:=oL h af;unfold fR;rw[h1];rfl
theorem Ll{v:ab}(h:OkV v):cp (v,af)=some (fR v):=by
 obtain⟨r,h1,h2⟩:=oL h af;obtain⟨q,h3,h4⟩:=pz h af;unfold fR;rw[h1,h3]
 grind
theorem Kw{v:ab}(h:OkV v):oa v=some (fR v):=by
 rw[oa,ab.aA];have:=Lk h;unfold af at this
 grind
def badM(union:Bool)(m:aj):Bool:=(union && (m.Critical || m.HasDefault)) || (m.Critical && m.HasDefault) || (!m.HasDefault && !fR m.Default)
theorem aB{α:Type}{l:List α}{i:Nat}(h:i < l.length)(d:α):l.getD i d∈l:=by grind
theorem wS{t:ae}(h:OkT t):∃r,iu t=some r/\(r=true↔(∀i,i < t.Members.length->badM (decide (t.Kind=6)) (t.Members.getD i ag)=false)/\(t.Kind=5\/0 < t.Members.length)/\(∀i,i < t.Members.length->idp (t.Members.map (·.ID)) (t.Members.map (·.Name)) i=true)/\t.Members.length<=16):=by
 have hr:t.Members.length < 9223372036854775807:=aQ (bY h.mems);have hsc:=scan (fun i=>fh (t.Members,(t.Members.length:Int),(i:Int),t,(t.Members.map (·.ID)).take i,(t.Members.map (·.Name)).take i)) t.Members.length (fun i=>!(badM (decide (t.Kind=6)) (t.Members.getD i ag))) (.inl false) (.inr (t,t.Members.map (·.ID),t.Members.map (·.Name)))
  (fun i hi=>by
   have hz:=Kw (h.dv _ (aB hi ag));rw[fh,if_pos (by simp;omega),if_pos (au hi)];simp only[oZ4,oZ3,av,ab.aA];rw[<-bQ (·.ID) t.Members i ag 0 hi,<-bQ (·.Name) t.Members i ag [] hi,jO _ _ _ (by simpa using hi),jO _ _ _ (by simpa using hi)];have hb:((t.Members.map (·.ID)).take (i+1)).length*24<=reachBytes:=by
    refine Nat.le_trans (Nat.mul_le_mul_right _ ?_) h.mems;simp;omega
   have hb2:((t.Members.map (·.Name)).take (i+1)).length*24<=reachBytes:=by grind
   rw[if_pos (room8 (by omega) hb),if_pos (room8 (by omega) hb2),aD (by omega),hz];unfold badM
   grind)
  (by
   rw[fh,if_neg (by simp)]
   rw[List.take_of_length_le (by simp),List.take_of_length_le (by simp)])
 have e0:fh (t.Members,(t.Members.length:Int),((0:Nat):Int),t,(t.Members.map (·.ID)).take 0,(t.Members.map (·.Name)).take 0)=fh (t.Members,(t.Members.length:Int),0,t,[],[]):=rfl;simp only[e0]at hsc;rw[iu];obtain⟨r,h1,h2⟩:=Bi (l:=t.Members.map (·.ID)) (names:=t.Members.map (·.Name)) (by simpa using bY h.mems) (by simp);rw[List.length_map]at h2
 rcases hsc with⟨g1,g2⟩ | ⟨g1,j,g2,g3⟩
 . rw[g1];simp only[oZ4,oZ3];rw[h1];refine⟨(bif decide (t.Kind=5)then true else decide (0 < ((t.Members.map (·.ID)).length:Int))) && r,?_,?_⟩
   . grind
   grind
 grind
theorem Hj (l : List aj) (record : Bool) (hl : l.length <= reachBytes) (i : Nat) (hi : i < l.length):
 dV (l,record,(i:Int),0,l.getD i ag)=some (if((l.map (·.Name)).take i).contains ((l.map (·.Name)).getD i [])=true then .inl false else .inr (l,record,(i:Int),l.getD i ag)):=by
 have hr:=aQ hl;have hsc:=scan (fun k=>dV (l,record,(i:Int),(k:Int),l.getD i ag)) i (fun k=>!(decide ((l.getD k ag).Name=(l.getD i ag).Name))) (.inl false) (.inr (l,record,(i:Int),l.getD i ag))
  (fun k hk=>by
   rw[dV,if_pos (by simp;omega),if_pos (au (by omega)),aD (by omega)];simp only[av,cM]
   grind)
  (by rw[dV,if_neg (by simp),cM])
 have e0:dV (l,record,(i:Int),((0:Nat):Int),l.getD i ag)=dV (l,record,(i:Int),0,l.getD i ag):=rfl;simp only[e0]at hsc;rw[bQ (·.Name) l i ag [] hi];rcases hsc with⟨h1,h2⟩ | ⟨h1,j,h2,h3⟩
 . rw[h1,if_neg];rw[ft (by simp;omega)]
   rintro ⟨k,hk,he⟩
   rw[bQ (·.Name) l k ag [] (by omega)]at he;have:=h2 k hk;rw[he]at this;simp at this
 . rw[h1,if_pos];rw[ft (by simp;omega)];refine⟨j,h2,?_⟩;rw[bQ (·.Name) l j ag [] (by omega)]
   simpa using h3
theorem Hk{l:List aj}{record:Bool}(hl:l.length<=reachBytes)(hd:∀m,m∈l->OkV m.Default):∃r,jq (l,record)=some r/\(r=true↔(∀i,i < l.length->badM (!record) (l.getD i ag)=false)/\(record=true\/0 < l.length)/\(∀i,i < l.length->idp (l.map (·.ID)) (l.map (·.Name)) i=true)/\l.length<=16):=by
 have hr:=aQ hl;have hsc:=scan (fun i=>eV (l,record,bef (l.map (·.ID)) i,(i:Int))) l.length (fun i=>idp (l.map (·.ID)) (l.map (·.Name)) i && !(badM (!record) (l.getD i ag))) (.inl false) (.inr (l,record))
  (fun i hi=>by
   have hz:=Ll (hd _ (aB hi ag));unfold af at hz;rw[eV,if_pos (by simp;omega),if_pos (au hi)];simp only[oZ4,oZ3,av,ab.aA,cM,zN (l:=l.map (·.ID)) (names:=l.map (·.Name)) (i:=i) (by simpa using hi) (by simp)];rw[Hj l record hl i hi,hz];have hbef:bef (l.map (·.ID)) (i+1)=(l.getD i ag).ID:=by
    unfold bef
    grind
   rw[<-bQ (·.ID) l i ag 0 hi,<-bQ (·.Name) l i ag [] hi,refId,refNm];simp only[oZ3];generalize (decide (bef (l.map (·.ID)) i < (l.map (·.ID)).getD i 0) && decide (1<=(l.map (·.ID)).getD i 0) && decide ((l.map (·.ID)).getD i 0<=1000))=q;cases q with
   | false=>simp
   | true=>
    simp only[Bool.not_true,Bool.not_false,if_true,oZ3,Bool.true_and];cases nm ((l.map (·.Name)).getD i [])with
    | false=>simp
    | true=>
     simp only[Bool.not_true,Bool.true_and,Bool.or_false,cond_false];unfold badM;cases record <;> cases (l.getD i ag).Critical <;> cases (l.getD i ag).HasDefault <;> cases fR (l.getD i ag).Default <;>
      simp only[Bool.not_true,Bool.not_false,Bool.or_self,Bool.and_self,Bool.or_true,Bool.true_or,Bool.and_true,Bool.and_false,Bool.false_and,Bool.true_and,Bool.false_or,Bool.or_false,cond_true,cond_false,if_true,if_false,Bool.false_eq_true,oZ3] <;>
      first
       | rfl
       | (cases hc:((l.map (·.Name)).take i).contains ((l.map (·.Name)).getD i [])with
        | true=>simp
        | false=>
         simp only[Bool.false_eq_true,if_false,Bool.not_false,if_true];rw[aD (by omega),hbef]
         try rfl))
  (by rw[eV,if_neg (by simp)])
 have e0:eV (l,record,bef (l.map (·.ID)) 0,((0:Nat):Int))=eV (l,record,0,0):=rfl;simp only[e0]at hsc;rw[jq];rcases hsc with⟨h1,h2⟩ | ⟨h1,j,h2,h3⟩
 . rw[h1];refine⟨_,rfl,?_⟩
   grind
 . rw[h1];refine⟨false,rfl,?_⟩
   grind
theorem xM{t:ae}(h:OkT t)(hk:t.Kind=5\/t.Kind=6):∃r,iu t=some r/\jq (t.Members,decide (t.Kind=5))=some r:=by
 obtain⟨r,h1,h2⟩:=wS h;obtain⟨q,h3,h4⟩:=Hk (l:=t.Members) (record:=decide (t.Kind=5)) (bY h.mems) h.dv;have hu:(!(decide (t.Kind=5)))=decide (t.Kind=6):=by grind
 grind
theorem OkT.plain{k l h m kk e:Int}{n:List UInt8}{S:List aK}{Ms:List aj}{o:Bool}(hS:S.length*24<=reachBytes)(hM:Ms.length*24<=reachBytes)(hd:∀x,x∈Ms->OkV x.Default):OkT ⟨k,n,l,h,m,S,Ms,kk,e,o⟩:=⟨hS,hM,hd⟩
theorem form1{N:List UInt8}{L H M K E:Int}{S:List aK}{Ms:List aj}{O:Bool}(h:OkT (⟨1,N,L,H,M,S,Ms,K,E,O⟩:ae)):∃r,bl (⟨1,N,L,H,M,S,Ms,K,E,O⟩:ae)=some r/\bC (⟨1,N,L,H,M,S,Ms,K,E,O⟩:ae)=some r/\(r=true->N=[]):=by
 obtain⟨a,a1,a2⟩:=ca (a:=(⟨0,N,L,H,M,S,Ms,K,E,O⟩:ae)) ⟨h.syms,h.mems,h.dv⟩ (⟨0,[],0,0,0,[],[],0,0,false⟩:ae);obtain⟨b,b1,b2⟩:=fN h (⟨1,[],0,0,0,[],[],0,0,false⟩:ae);have hab:a=b:=by grind
 subst hab;refine⟨a,by simp[bl,a1],by simp[bC,dH,cw,b1];try (cases a <;> rfl),fun hr=>?_⟩
 grind
theorem form2{N:List UInt8}{L H M K E:Int}{S:List aK}{Ms:List aj}{O:Bool}(h:OkT (⟨2,N,L,H,M,S,Ms,K,E,O⟩:ae)):∃r,bl (⟨2,N,L,H,M,S,Ms,K,E,O⟩:ae)=some r/\bC (⟨2,N,L,H,M,S,Ms,K,E,O⟩:ae)=some r/\(r=true->N=[]):=by
 obtain⟨a,a1,a2⟩:=ca (a:=(⟨0,N,0,0,M,S,Ms,K,E,O⟩:ae)) ⟨h.syms,h.mems,h.dv⟩ (⟨0,[],0,0,0,[],[],0,0,false⟩:ae);obtain⟨b,b1,b2⟩:=fN h (⟨2,[],L,H,0,[],[],0,0,false⟩:ae);have hab:a=b:=by grind
 subst hab;refine⟨decide (L<=H) && a,?_,?_,fun hr=>?_⟩
 . simp only[bl]
   grind
 . simp only[bC];generalize decide (L<=H)=q;simp[dH,cw,b1]
   grind
 grind
theorem form3{N:List UInt8}{L H M K E:Int}{S:List aK}{Ms:List aj}{O:Bool}(h:OkT (⟨3,N,L,H,M,S,Ms,K,E,O⟩:ae)):∃r,bl (⟨3,N,L,H,M,S,Ms,K,E,O⟩:ae)=some r/\bC (⟨3,N,L,H,M,S,Ms,K,E,O⟩:ae)=some r/\(r=true->N=[]):=by
 obtain⟨a,a1,a2⟩:=ca (a:=(⟨0,N,L,H,0,S,Ms,K,E,O⟩:ae)) ⟨h.syms,h.mems,h.dv⟩ (⟨0,[],0,0,0,[],[],0,0,false⟩:ae);obtain⟨b,b1,b2⟩:=fN h (⟨3,[],0,0,M,[],[],0,0,false⟩:ae);have hab:a=b:=by grind
 subst hab;refine⟨(bif decide (0<=M)then decide (M<=200)else false) && a,?_,?_,fun hr=>?_⟩
 . simp only[bl]
   grind
 . simp only[bC];generalize (bif decide (0<=M)then decide (M<=200)else false)=q;simp[dH,cw,b1]
   grind
 grind
theorem form4{N:List UInt8}{L H M K E:Int}{S:List aK}{Ms:List aj}{O:Bool}(h:OkT (⟨4,N,L,H,M,S,Ms,K,E,O⟩:ae)):∃r,bl (⟨4,N,L,H,M,S,Ms,K,E,O⟩:ae)=some r/\bC (⟨4,N,L,H,M,S,Ms,K,E,O⟩:ae)=some r/\(r=true->N≠[]):=by
 obtain⟨a,a1,a2⟩:=ca (a:=(⟨0,[],L,H,M,[],Ms,K,E,false⟩:ae)) ⟨(by simp),h.mems,h.dv⟩ (⟨0,[],0,0,0,[],[],0,0,false⟩:ae);obtain⟨b,b1,b2⟩:=fN h (⟨4,N,0,0,0,S,[],0,0,O⟩:ae);have hab:a=b:=by grind
 subst hab;obtain⟨q,q1,q2⟩:=Iq (l:=S) h.syms;refine⟨nm N && q && a,?_,?_,fun hr=>?_⟩
 . simp only[bl];simp[a1,q1,lexNm]
   grind
 . simp only[bC]
   try simp at q2
   simp[dH,cw,b1,q2,refNm]
   grind
 . simp only[Bool.and_eq_true]at hr;exact nm_ne hr.1.1
theorem form5{N:List UInt8}{L H M K E:Int}{S:List aK}{Ms:List aj}{O:Bool}(h:OkT (⟨5,N,L,H,M,S,Ms,K,E,O⟩:ae)):∃r,bl (⟨5,N,L,H,M,S,Ms,K,E,O⟩:ae)=some r/\bC (⟨5,N,L,H,M,S,Ms,K,E,O⟩:ae)=some r/\(r=true->N≠[]):=by
 obtain⟨a,a1,a2⟩:=ca (a:=(⟨0,[],L,H,M,S,[],K,E,(bif O then decide ((5:Int)=5)else false)⟩:ae)) ⟨h.syms,(by simp),(by simp)⟩ (⟨0,[],0,0,0,[],[],0,0,false⟩:ae);obtain⟨b,b1,b2⟩:=fN h (⟨5,N,0,0,0,[],Ms,0,0,false⟩:ae);have hab:a=b:=by grind
 subst hab;obtain⟨q,q1,q2⟩:=xM h (by simp);refine⟨nm N && q && a,?_,?_,fun hr=>?_⟩
 . simp only[bl]
   try simp at a1
   try simp at q1
   simp[a1,q1,lexNm]
   grind
 . simp only[bC]
   try simp at q2
   simp[dH,cw,b1,q2,refNm]
   grind
 . simp only[Bool.and_eq_true]at hr;exact nm_ne hr.1.1
theorem form6{N:List UInt8}{L H M K E:Int}{S:List aK}{Ms:List aj}{O:Bool}(h:OkT (⟨6,N,L,H,M,S,Ms,K,E,O⟩:ae)):∃r,bl (⟨6,N,L,H,M,S,Ms,K,E,O⟩:ae)=some r/\bC (⟨6,N,L,H,M,S,Ms,K,E,O⟩:ae)=some r/\(r=true->N≠[]):=by
 obtain⟨a,a1,a2⟩:=ca (a:=(⟨0,[],L,H,M,S,[],K,E,(bif O then decide ((6:Int)=5)else false)⟩:ae)) ⟨h.syms,(by simp),(by simp)⟩ (⟨0,[],0,0,0,[],[],0,0,false⟩:ae);obtain⟨b,b1,b2⟩:=fN h (⟨6,N,0,0,0,[],Ms,0,0,O⟩:ae);have hab:a=b:=by grind
 subst hab;obtain⟨q,q1,q2⟩:=xM h (by simp);refine⟨nm N && q && a,?_,?_,fun hr=>?_⟩
 . simp only[bl]
   try simp at a1
   try simp at q1
   simp[a1,q1,lexNm]
   grind
 . simp only[bC]
   try simp at q2
   simp[dH,cw,b1,q2,refNm]
   grind
 . simp only[Bool.and_eq_true]at hr;exact nm_ne hr.1.1
theorem form7{N:List UInt8}{L H M K E:Int}{S:List aK}{Ms:List aj}{O:Bool}(h:OkT (⟨7,N,L,H,M,S,Ms,K,E,O⟩:ae)):∃r,bl (⟨7,N,L,H,M,S,Ms,K,E,O⟩:ae)=some r/\bC (⟨7,N,L,H,M,S,Ms,K,E,O⟩:ae)=some r/\(r=true->N=[]):=by
 obtain⟨a,a1,a2⟩:=ca (a:=(⟨0,N,L,H,0,S,Ms,K,0,O⟩:ae)) ⟨h.syms,h.mems,h.dv⟩ (⟨0,[],0,0,0,[],[],0,0,false⟩:ae);obtain⟨b,b1,b2⟩:=fN h (⟨7,[],0,0,M,[],[],0,E,false⟩:ae);have hab:a=b:=by grind
 subst hab;refine⟨(bif decide (0<=M)then decide (M<=50)else false) && a,?_,?_,fun hr=>?_⟩
 . simp only[bl]
   grind
 . simp only[bC];generalize (bif decide (0<=M)then decide (M<=50)else false)=q;simp[dH,cw,b1]
   grind
 grind
theorem form8{N:List UInt8}{L H M K E:Int}{S:List aK}{Ms:List aj}{O:Bool}(h:OkT (⟨8,N,L,H,M,S,Ms,K,E,O⟩:ae)):∃r,bl (⟨8,N,L,H,M,S,Ms,K,E,O⟩:ae)=some r/\bC (⟨8,N,L,H,M,S,Ms,K,E,O⟩:ae)=some r/\(r=true->N=[]):=by
 obtain⟨a,a1,a2⟩:=ca (a:=(⟨0,N,L,H,0,S,Ms,0,0,O⟩:ae)) ⟨h.syms,h.mems,h.dv⟩ (⟨0,[],0,0,0,[],[],0,0,false⟩:ae);obtain⟨b,b1,b2⟩:=fN h (⟨8,[],0,0,M,[],[],K,E,false⟩:ae);have hab:a=b:=by grind
 subst hab;refine⟨(bif decide (0<=M)then decide (M<=50)else false) && a,?_,?_,fun hr=>?_⟩
 . simp only[bl]
   grind
 . simp only[bC];generalize (bif decide (0<=M)then decide (M<=50)else false)=q;simp[dH,cw,b1]
   grind
 grind
theorem form9{N:List UInt8}{L H M K E:Int}{S:List aK}{Ms:List aj}{O:Bool}(h:OkT (⟨9,N,L,H,M,S,Ms,K,E,O⟩:ae)):∃r,bl (⟨9,N,L,H,M,S,Ms,K,E,O⟩:ae)=some r/\bC (⟨9,N,L,H,M,S,Ms,K,E,O⟩:ae)=some r/\(r=true->N=[]):=by
 obtain⟨a,a1,a2⟩:=ca (a:=(⟨0,N,L,H,M,S,Ms,K,0,O⟩:ae)) ⟨h.syms,h.mems,h.dv⟩ (⟨0,[],0,0,0,[],[],0,0,false⟩:ae);obtain⟨b,b1,b2⟩:=fN h (⟨9,[],0,0,0,[],[],0,E,false⟩:ae);have hab:a=b:=by grind
 subst hab;refine⟨a,by simp[bl,a1],by simp[bC,dH,cw,b1];try (cases a <;> rfl),fun hr=>?_⟩
 grind
def cR(k:Int):Bool:=bif bif decide (k=4)then true else decide (k=5)then true else decide (k=6)
theorem xN{t:ae}(h:OkT t):∃r,bl t=some r/\bC t=some r/\(r=true->1<=t.Kind/\t.Kind<=9/\cR t.Kind=!(decide (t.Name=[]))):=by
 by_cases hk:1<=t.Kind/\t.Kind<=9
 . obtain⟨Kd,N,L,H,M,S,Ms,K,E,O⟩:=t;simp only at hk;have:Kd=1\/Kd=2\/Kd=3\/Kd=4\/Kd=5\/Kd=6\/Kd=7\/Kd=8\/Kd=9:=by omega
   rcases this with rfl | rfl | rfl | rfl | rfl | rfl | rfl | rfl | rfl
   . obtain⟨r,h1,h2,h3⟩:=form1 h;exact⟨r,h1,h2,fun hr=>⟨hk.1,hk.2,by simp[cR,h3 hr]⟩⟩
   . obtain⟨r,h1,h2,h3⟩:=form2 h;exact⟨r,h1,h2,fun hr=>⟨hk.1,hk.2,by simp[cR,h3 hr]⟩⟩
   . obtain⟨r,h1,h2,h3⟩:=form3 h;exact⟨r,h1,h2,fun hr=>⟨hk.1,hk.2,by simp[cR,h3 hr]⟩⟩
   . obtain⟨r,h1,h2,h3⟩:=form4 h;exact⟨r,h1,h2,fun hr=>⟨hk.1,hk.2,by simp[cR,h3 hr]⟩⟩
   . obtain⟨r,h1,h2,h3⟩:=form5 h;exact⟨r,h1,h2,fun hr=>⟨hk.1,hk.2,by simp[cR,h3 hr]⟩⟩
   . obtain⟨r,h1,h2,h3⟩:=form6 h;exact⟨r,h1,h2,fun hr=>⟨hk.1,hk.2,by simp[cR,h3 hr]⟩⟩
   . obtain⟨r,h1,h2,h3⟩:=form7 h;exact⟨r,h1,h2,fun hr=>⟨hk.1,hk.2,by simp[cR,h3 hr]⟩⟩
   . obtain⟨r,h1,h2,h3⟩:=form8 h;exact⟨r,h1,h2,fun hr=>⟨hk.1,hk.2,by simp[cR,h3 hr]⟩⟩
   . obtain⟨r,h1,h2,h3⟩:=form9 h;exact⟨r,h1,h2,fun hr=>⟨hk.1,hk.2,by simp[cR,h3 hr]⟩⟩
 . refine⟨false,?_,?_,fun h=>by cases h⟩
   . have e:∀k:Int,1<=k->k<=9->¬t.Kind=k:=fun k h1 h2 e=>hk (by omega)
     simp[bl,e 1,e 2,e 3,e 4,e 5,e 6,e 7,e 8,e 9]
   . have e:(bif decide (t.Kind < 1)then true else decide (9 < t.Kind))=true:=by grind
     rw[bC,e];rfl
def usesL(t:ae):List Int:=t.Members.map (·.Type_)++(if t.Kind=8 then[t.Key]else[])++(if 7<=t.Kind then[t.Elem]else[])
theorem kz{k n:Nat}(hk:k<=16){m:Nat}(h:m*24<=reachBytes)(hn:n<=m+2):room k n=true:=by
 unfold room bX aX;unfold reachBytes at h;simp only[Bool.and_eq_true,decide_eq_true_eq];have:(2*n+192)*k<=(2*n+192)*16:=Nat.mul_le_mul_left _ hk;omega
theorem wT(t:ae)(h:t.Members.length*24<=reachBytes):∀(k i:Nat),i+k=t.Members.length->gx (t.Members,(t.Members.length:Int),(i:Int),t,(t.Members.map (·.Type_)).take i)=some (t,t.Members.map (·.Type_))
 | 0,i,hi=>by rw[gx,if_neg (by simp;omega),List.take_of_length_le (by simp;omega)]
 | k+1,i,hi=>by
  have hr:=aQ (bY h);have hlt:i < t.Members.length:=by omega
  rw[gx,if_pos (by simp;omega),if_pos (au hlt)];simp only[oZ4,oZ3,av];rw[<-bQ (·.Type_) t.Members i ag 0 hlt,jO _ _ _ (by simpa using hlt),aD (by omega),if_pos (kz (m:=t.Members.length) (by omega) h (by simp;omega))];exact wT t h k (i+1) (by omega)
theorem Lm{t:ae}(h:t.Members.length*24<=reachBytes):ov t=some (usesL t):=by
 have h0:=wT t h t.Members.length 0 (by omega);have h0':gx (t.Members,(t.Members.length:Int),0,t,[])=some (t,t.Members.map (·.Type_)):=h0;rw[ov,h0'];unfold usesL;simp only[oZ4,oZ3];have r1:room 8 (t.Members.map (·.Type_)++[t.Key]).length=true:=kz (m:=t.Members.length) (by omega) h (by simp)
 have r2:room 8 (t.Members.map (·.Type_)++[t.Key]++[t.Elem]).length=true:=kz (m:=t.Members.length) (by omega) h (by simp)
 grind
theorem wU(t:ae)(h:t.Members.length*24<=reachBytes):∀(k i:Nat),i+k=t.Members.length->gi ((i:Int),t,(t.Members.map (·.Type_)).take i)=some (t,t.Members.map (·.Type_))
 | 0,i,hi=>by rw[gi,if_neg (by simp;omega),List.take_of_length_le (by simp;omega)]
 | k+1,i,hi=>by
  have hr:=aQ (bY h);have hlt:i < t.Members.length:=by omega
  rw[gi,if_pos (by simp;omega),if_pos (au hlt)];simp only[oZ4,oZ3,av];rw[<-bQ (·.Type_) t.Members i ag 0 hlt,jO _ _ _ (by simpa using hlt),aD (by omega),if_pos (kz (m:=t.Members.length) (by omega) h (by simp;omega))];exact wU t h k (i+1) (by omega)
theorem Ln{t:ae}(h:t.Members.length*24<=reachBytes)(hk:t.Kind<=9):nI t=some (usesL t):=by
 have h0:=wU t h t.Members.length 0 (by omega);have h0':gi (0,t,[])=some (t,t.Members.map (·.Type_)):=h0;rw[nI,h0'];unfold usesL;simp only[oZ4,oZ3];have r1:room 8 (t.Members.map (·.Type_)++[t.Key]).length=true:=kz (m:=t.Members.length) (by omega) h (by simp)
 have r2:room 8 (t.Members.map (·.Type_)++[t.Key]++[t.Elem]).length=true:=kz (m:=t.Members.length) (by omega) h (by simp)
 grind
theorem Lp(k:Int):cw k=some (cR k):=rfl
def keyB(k:Int):Bool:=bif decide (1<=k)then decide (k<=4)else false
def outB(n:Nat)(u:Int):Bool:=bif decide (u < 0)then true else decide ((n:Int)<=u)
def stepV(ts:List ae)(i:Nat):Option Int:=
 let t:=ts.getD i ap
 if !((bl t).getD false)then some 1
 else if !(decide (t.Name=[])) && ((ts.map (·.Name)).take i).contains t.Name then some 1
 else if(usesL t).any (outB ts.length)then some 4
 else if decide (t.Kind=8) && !(keyB (ts.getD t.Key.toNat ap).Kind)then some 1
 else none
theorem sF {ts : List ae} {i : Nat} {t : ae} {r : Bool} (hT : ts.getD i ap = t) (f1 : bl t = some r):
 stepV ts i=if(!r)=true then some 1 else if(!(decide (t.Name=[])) && ((ts.map (·.Name)).take i).contains t.Name)=true then some 1 else if(usesL t).any (outB ts.length)=true then some 4 else if(decide (t.Kind=8) && !(keyB (ts.getD t.Key.toNat ap).Kind))=true then some 1 else none:=by
 subst hT;unfold stepV;simp only[f1,Option.getD_some]
theorem yD {γ : Type} (L : Nat -> Option γ) (l : List Int) (q : Int -> Bool) (bad good : γ) (hstep : ∀ i, i < l.length -> L i = if q (l.getD i 0) = true then some bad else L (i + 1)) (hend : L l.length = some good):
 L 0=some (if l.any q=true then bad else good):=by
 have:=scan L l.length (fun i=>!(q (l.getD i 0))) bad good (fun i hi=>by grind) hend;rcases this with⟨h1,h2⟩ | ⟨h1,j,h2,h3⟩
 . rw[h1,if_neg];intro h;rw[List.any_eq_true]at h;obtain⟨x,hx,hq⟩:=h;obtain⟨j,hj,he⟩:=List.getElem_of_mem hx;have:=h2 j hj;rw[bc hj,he,hq]at this;cases this
 . rw[h1,if_pos];rw[List.any_eq_true];refine⟨l.getD j 0,aB h2 0,by simpa using h3⟩
theorem xO{t:ae}(h:t.Members.length*24<=reachBytes):(usesL t).length < 9223372036854775807:=by
 unfold usesL reachBytes at*
 grind
theorem NK {L : Nat -> Option (Int ⊕ Unit)} {L' : Nat -> Option (Int ⊕ Unit)} {n : Nat} {step : Nat -> Option Int}
 (h:∀i,i < n->L i=match step i with | some e=>some (.inl e) | none=>L (i+1)) (he:L n=some (.inr ()))
 (h':∀i,i < n->L' i=match step i with | some e=>some (.inl e) | none=>L' (i+1)) (he':L' n=some (.inr ())):∃o,L 0=some o/\L' 0=some o/\((o= .inr ()/\∀i,i < n->step i=none)\/∃i e,i < n/\step i=some e/\o= .inl e):=by
 have key:∀k i,i+k=n->∃o,L i=some o/\L' i=some o/\((o= .inr ()/\∀m,i<=m->m < n->step m=none)\/∃m e,m < n/\step m=some e/\o= .inl e):=by
  intro k
  induction k with
  | zero => intro i hi; have : i = n := by omega
            subst this;exact⟨_,he,he',.inl ⟨rfl,fun m h1 h2=>by omega⟩⟩
  | succ k ih=>
   intro i hi;rw[h i (by omega),h' i (by omega)];cases hst:step i with
   | some e=>exact⟨_,rfl,rfl,.inr ⟨i,e,by omega,hst,rfl⟩⟩
   | none=>
    obtain⟨o,o1,o2,o3⟩:=ih (i+1) (by omega)
    grind
 obtain⟨o,o1,o2,o3⟩:=key n 0 (by omega);refine⟨o,o1,o2,?_⟩;rcases o3 with⟨a,b⟩ | h
 . exact .inl ⟨a,fun i hi=>b i (Nat.zero_le _) hi⟩
 . exact .inr h
theorem Bj{ts:List ae}{t:ae}(hu:(usesL t).any (outB ts.length)=false)(h8:t.Kind=8):inR t.Key ts.length=true:=by
 have hm:t.Key∈usesL t:=by unfold usesL;simp[h8]
 rw[List.any_eq_false]at hu;have:=hu _ hm;unfold outB at this;unfold inR
 grind
theorem NL (ts : List ae) (t : ae) (i : Nat) (hi : i < ts.length) (hr : ts.length < 9223372036854775807):
 dX ((i:Int),0,ts,t.Kind,t.Name,t.Low,t.High,t.Max,t.Symbols,t.Members,t.Key,t.Elem,t.Open)=some (if(cR t.Kind && ((ts.map (·.Name)).take i).contains t.Name)=true then .inl 1 else .inr ((i:Int),ts,t.Kind,t.Name,t.Low,t.High,t.Max,t.Symbols,t.Members,t.Key,t.Elem,t.Open)):=by
 have hsc:=scan (fun k=>dX ((i:Int),(k:Int),ts,t.Kind,t.Name,t.Low,t.High,t.Max,t.Symbols,t.Members,t.Key,t.Elem,t.Open)) i (fun k=>!(bif cR t.Kind then decide ((ts.getD k ap).Name=t.Name)else false)) (.inl 1) (.inr ((i:Int),ts,t.Kind,t.Name,t.Low,t.High,t.Max,t.Symbols,t.Members,t.Key,t.Elem,t.Open))
  (fun k hk=>by
   rw[dX,if_pos (by simp;omega),Lp];simp only[oZ4,oZ3];rw[if_pos (by rw[au (show k < ts.length by omega)];rfl),aD (by omega),av]
   grind)
  (by rw[dX,if_neg (by simp)])
 have e0:dX ((i:Int),((0:Nat):Int),ts,t.Kind,t.Name,t.Low,t.High,t.Max,t.Symbols,t.Members,t.Key,t.Elem,t.Open)=dX ((i:Int),0,ts,t.Kind,t.Name,t.Low,t.High,t.Max,t.Symbols,t.Members,t.Key,t.Elem,t.Open):=rfl;simp only[e0]at hsc;rcases hsc with⟨h1,h2⟩ | ⟨h1,j,h2,h3⟩
 . rw[h1,if_neg];rw[Bool.and_eq_true,ft (by simp;omega)]
   rintro ⟨hn,k,hk,he⟩
   rw[bQ (·.Name) ts k ap [] (by omega)]at he;have:=h2 k hk;rw[hn,he]at this;simp at this
 . rw[h1,if_pos];rw[Bool.and_eq_true,ft (by simp;omega)];cases hn:cR t.Kind with
   | false=>rw[hn]at h3;cases h3
   | true=>
    refine⟨rfl,j,h2,?_⟩;rw[bQ (·.Name) ts j ap [] (by omega)];rw[hn]at h3
    simpa using h3
theorem NM (ts : List ae) (t : ae) (i : Nat) (l : List Int) (hl : l.length < 9223372036854775807):
 f8 ((i:Int),l,0,ts,t.Kind,t.Name,t.Low,t.High,t.Max,t.Symbols,t.Members,t.Key,t.Elem,t.Open)=some (if l.any (outB ts.length)=true then .inl 4 else .inr ((i:Int),ts,t.Kind,t.Name,t.Low,t.High,t.Max,t.Symbols,t.Members,t.Key,t.Elem,t.Open)):=
 yD (fun j=>f8 ((i:Int),l,(j:Int),ts,t.Kind,t.Name,t.Low,t.High,t.Max,t.Symbols,t.Members,t.Key,t.Elem,t.Open)) l (outB ts.length) (.inl 4) (.inr ((i:Int),ts,t.Kind,t.Name,t.Low,t.High,t.Max,t.Symbols,t.Members,t.Key,t.Elem,t.Open))
  (fun j hj=>by
   rw[f8,if_pos (by simp;omega),if_pos (au hj)];simp only[oZ4,oZ3];rw[if_pos (by rw[au hj];rfl),aD (by omega)]
   rfl)
  (by rw[f8,if_neg (by simp)])
theorem Hl{s:az}(hs:s.Types.length<=reachBytes)(ht:∀t,t∈s.Types->OkT t):∃e,iB s=some e/\lc s=some e/\(e=0->s.Types.length<=32/\∀i,i < s.Types.length->stepV s.Types i=none)/\((s.Types.length<=32/\∀i,i < s.Types.length->stepV s.Types i=none)->e=0):=by
 rw[iB,lc];by_cases h32:32 < s.Types.length
 . exact⟨3,by rw[if_pos (by simp;omega)],by rw[if_pos (by simp;omega)],fun h=>(by cases h),fun h=>absurd h.1 (by omega)⟩
 . rw[if_neg (by simp;omega),if_neg (by simp;omega)];have hr:s.Types.length < 9223372036854775807:=by omega
   have:=NK (L:=fun i=>gu (s.Types,(s.Types.length:Int),(i:Int),s.Types,setOf ((s.Types.map (·.Name)).take i))) (L':=fun i=>fa ((i:Int),s.Types)) (n:=s.Types.length) (step:=stepV s.Types)
    (fun i hi=>by
     have hok:=ht _ (aB hi ap);obtain⟨r,f1,f2,f3⟩:=xN hok;rw[gu,if_pos (by simp;omega),if_pos (au hi)];simp only[oZ4,oZ3,av];generalize hT:s.Types.getD i ap=t at*;rw[sF hT f1,f1];simp only[oZ3,wP];cases r with
     | false=>rw[if_pos (show(bif (!false)then true else bif (!(decide (t.Name=[])))then((s.Types.map (·.Name)).take i).contains t.Name else false)=true from rfl),if_pos (show(!false)=true from rfl)]
     | true=>
      rw[if_neg (show ¬((!true)=true) by simp)];by_cases hd:(!(decide (t.Name=[])) && ((s.Types.map (·.Name)).take i).contains t.Name)=true
      . grind
      . have hd':¬((bif (!(decide (t.Name=[])))then((s.Types.map (·.Name)).take i).contains t.Name else false)=true):=by grind
        rw[if_neg (show ¬((bif (!true)then true else bif (!(decide (t.Name=[])))then((s.Types.map (·.Name)).take i).contains t.Name else false)=true)from hd'),if_neg hd,Lm hok.mems];simp only[oZ3];have hul:=xO hok.mems
        have hin:=yD (fun j=>fi (s.Types,(s.Types.length:Int),(i:Int),usesL t,((usesL t).length:Int),(j:Int),s.Types,addS (setOf ((s.Types.map (·.Name)).take i)) t.Name,t.Kind,t.Name,t.Low,t.High,t.Max,t.Symbols,t.Members,t.Key,t.Elem,t.Open)) (usesL t) (outB s.Types.length) (.inl 4)
         (.inr (s.Types,(s.Types.length:Int),(i:Int),s.Types,addS (setOf ((s.Types.map (·.Name)).take i)) t.Name,t.Kind,t.Name,t.Low,t.High,t.Max,t.Symbols,t.Members,t.Key,t.Elem,t.Open))
         (fun j hj=>by
          rw[fi,if_pos (by simp;omega),if_pos (au hj),aD (by omega)]
          rfl)
         (by rw[fi,if_neg (by simp)])
        have e0:fi (s.Types,(s.Types.length:Int),(i:Int),usesL t,((usesL t).length:Int),((0:Nat):Int),s.Types,addS (setOf ((s.Types.map (·.Name)).take i)) t.Name,t.Kind,t.Name,t.Low,t.High,t.Max,t.Symbols,t.Members,t.Key,t.Elem,t.Open)=fi (s.Types,(s.Types.length:Int),(i:Int),usesL t,((usesL t).length:Int),0,s.Types,addS (setOf ((s.Types.map (·.Name)).take i)) t.Name,t.Kind,t.Name,t.Low,t.High,t.Max,t.Symbols,t.Members,t.Key,t.Elem,t.Open):=rfl
        rw[<-e0,hin];cases hu:(usesL t).any (outB s.Types.length)with
        | true=>rfl
        | false=>
         simp only[Bool.false_eq_true,if_false,oZ3];have hsucc:addS (setOf ((s.Types.map (·.Name)).take i)) t.Name=setOf ((s.Types.map (·.Name)).take (i+1)):=by
          have h1:=wQ (l:=s.Types.map (·.Name)) (i:=i) (by simpa using hi)
          grind
         rw[hsucc,aD (by omega)];by_cases h8:t.Kind=8
         . have hk:=Bj hu h8;rw[if_pos (by rw[hk];rfl),if_pos (by rw[hk];rfl)];simp only[h8,decide_true,cond_true,Bool.true_and,keyB]
           grind
         grind)
    (by rw[gu,if_neg (by simp)])
    (fun i hi=>by
     have hok:=ht _ (aB hi ap);obtain⟨r,f1,f2,f3⟩:=xN hok;rw[fa,if_pos (by simp;omega),if_pos (au hi)];simp only[oZ4,oZ3,av];generalize hT:s.Types.getD i ap=t at*;rw[sF hT f1,f2,NL s.Types t i hi hr];simp only[oZ3];cases r with
     | false=>rfl
     | true=>
      obtain⟨k1,k2,k3⟩:=f3 rfl;rw[if_neg (show ¬((!true)=true) by simp),if_neg (show ¬((!true)=true) by simp),k3];cases hd:(!(decide (t.Name=[])) && ((s.Types.map (·.Name)).take i).contains t.Name)with
      | true=>rfl
      | false=>
       simp only[Bool.false_eq_true,if_false,pg];rw[Ln hok.mems k2];simp only[oZ3];rw[NM s.Types t i (usesL t) (xO hok.mems)];cases hu:(usesL t).any (outB s.Types.length)with
       | true=>rfl
       | false=>
        simp only[Bool.false_eq_true,if_false,oZ3];rw[aD (by omega)];by_cases h8:t.Kind=8
        . have hk:=Bj hu h8;rw[if_pos (by rw[hk];rfl)];simp only[h8,decide_true,if_true,kM,oZ3,cond_true,Bool.true_and];show(if(!(keyB (s.Types.getD t.Key.toNat ap).Kind))=true then some (.inl 1)else fa (((i+1:Nat):Int),s.Types))=_
          grind
        grind)
    (by rw[fa,if_neg (by simp)])
   obtain⟨o,h1,h2,h3⟩:=this;have h1':gu (s.Types,(s.Types.length:Int),0,s.Types,[])=some o:=h1;have h2':fa (0,s.Types)=some o:=h2;rw[h1',h2'];rcases h3 with⟨rfl,h4⟩ | ⟨i,e,h4,h5,rfl⟩
   . simp_all
   . refine⟨_,rfl,rfl,fun h0=>?_,fun h=>by have:=h.2 i h4;rw[h5]at this;cases this⟩
     exfalso
     subst h0;unfold stepV at h5
     grind
theorem jP {γ : Type} (L : Nat -> Option γ) (n : Nat) (q : Nat -> Bool) (hit : Nat -> γ) (miss : γ) (hstep : ∀ i, i < n -> L i = if q i = true then some (hit i) else L (i + 1)) (hend : L n = some miss):
 (∃j,j < n/\q j=true/\(∀k,k < j->q k=false)/\L 0=some (hit j))\/((∀k,k < n->q k=false)/\L 0=some miss):=by
 have key:∀k i,i+k=n->(∀m,m < i->q m=false)->L 0=L i->(∃j,j < n/\q j=true/\(∀k,k < j->q k=false)/\L 0=some (hit j))\/((∀k,k < n->q k=false)/\L 0=some miss):=by
  intro k
  induction k with
  | zero => intro i hi hm h0; have : i = n := by omega
            subst this;exact .inr ⟨hm,by rw[h0,hend]⟩
  | succ k ih=>
   intro i hi hm h0;rw[hstep i (by omega)]at h0
   grind
 exact key n 0 (by omega) (fun m hm=>by omega) rfl
def jc(l:List aj)(id:Int)(r:Int×Bool):Prop:=(∃j:Nat,j < l.length/\(l.getD j ag).ID=id/\(∀k,k < j->(l.getD k ag).ID≠id)/\r=((j:Int),true))\/((∀k,k < l.length->(l.getD k ag).ID≠id)/\r=(0,false))
theorem vZ{l:List aj}{id:Int}{r q:Int×Bool}(h1:jc l id r)(h2:jc l id q):r=q:=by
 rcases h1 with⟨j,a1,a2,a3,rfl⟩ | ⟨a1,rfl⟩ <;> rcases h2 with⟨k,b1,b2,b3,rfl⟩ | ⟨b1,rfl⟩
 . grind
 . grind
 . grind
 . rfl
theorem lA{t:ae}{id:Int}(hl:t.Members.length < 9223372036854775807):∃r,bG (t,id)=some r/\jc t.Members id r:=by
 rw[bG,pX];have h:=jP (fun i=>eM (t.Members,(t.Members.length:Int),(i:Int),id)) t.Members.length (fun i=>decide ((t.Members.getD i ag).ID=id)) (fun i=>.inl ((i:Int),id)) (.inr id)
  (fun i hi=>by
   rw[eM,if_pos (by simp;omega),if_pos (au hi)];simp only[oZ4,oZ3,av,cM,qv]
   rw[aD (by omega)])
  (by rw[eM,if_neg (by simp)])
 have e0:eM (t.Members,(t.Members.length:Int),((0:Nat):Int),id)=eM (t.Members,(t.Members.length:Int),0,id):=rfl;simp only[e0]at h;rcases h with⟨j,h1,h2,h3,h4⟩ | ⟨h1,h4⟩
 . rw[h4];refine⟨((j:Int),true),?_,.inl ⟨j,h1,by simpa using h2,fun k hk=>by simpa using h3 k hk,rfl⟩⟩;have e1:maxI (j:Int) 0=(j:Int):=by unfold maxI;omega
   simp_all
 . rw[h4];exact⟨(0,false),rfl,.inr ⟨fun k hk=>by simpa using h1 k hk,rfl⟩⟩
theorem EV{t:ae}{id:Int}(hl:t.Members.length < 9223372036854775807):∃r,cD (t,id)=some r/\jc t.Members id r:=by
 rw[cD];have h:=jP (fun i=>eX (id,(i:Int),t)) t.Members.length (fun i=>decide ((t.Members.getD i ag).ID=id)) (fun i=>.inl ((i:Int),true)) (.inr ())
  (fun i hi=>by
   rw[eX,if_pos (by simp;omega),if_pos (au hi),aD (by omega)]
   grind)
  (by rw[eX,if_neg (by simp)])
 have e0:eX (id,((0:Nat):Int),t)=eX (id,0,t):=rfl;simp only[e0]at h;rcases h with⟨j,h1,h2,h3,h4⟩ | ⟨h1,h4⟩
 . rw[h4];exact⟨((j:Int),true),rfl,.inl ⟨j,h1,by simpa using h2,fun k hk=>by simpa using h3 k hk,rfl⟩⟩
 . rw[h4];exact⟨(0,false),rfl,.inr ⟨fun k hk=>by simpa using h1 k hk,rfl⟩⟩
theorem eu{t:ae}(id:Int)(hl:t.Members.length < 9223372036854775807):∃r,bG (t,id)=some r/\cD (t,id)=some r/\jc t.Members id r:=by
 obtain⟨r,h1,h2⟩:=lA (id:=id) hl;obtain⟨q,h3,h4⟩:=EV (id:=id) hl;have:=vZ h2 h4
 grind
def kA(l:List aK)(id:Int)(r:Int×Bool):Prop:=(∃j:Nat,j < l.length/\(l.getD j aP).ID=id/\(∀k,k < j->(l.getD k aP).ID≠id)/\r=((j:Int),true))\/((∀k,k < l.length->(l.getD k aP).ID≠id)/\r=(0,false))
theorem Gh{l:List aK}{id:Int}{r q:Int×Bool}(h1:kA l id r)(h2:kA l id q):r=q:=by
 rcases h1 with⟨j,a1,a2,a3,rfl⟩ | ⟨a1,rfl⟩ <;> rcases h2 with⟨k,b1,b2,b3,rfl⟩ | ⟨b1,rfl⟩
 . grind
 . grind
 . grind
 . rfl
theorem lN{t:ae}(id:Int)(hl:t.Symbols.length < 9223372036854775807):∃r,jz (t,id)=some r/\kV (t,id)=some r/\kA t.Symbols id r:=by
 rw[jz,pW,kV];have h:=jP (fun i=>dT (t.Symbols,(t.Symbols.length:Int),(i:Int),id)) t.Symbols.length (fun i=>decide ((t.Symbols.getD i aP).ID=id)) (fun i=>.inl ((i:Int),id)) (.inr id)
  (fun i hi=>by
   rw[dT,if_pos (by simp;omega),if_pos (au hi)];simp only[oZ4,oZ3,av,qt]
   rw[aD (by omega)])
  (by rw[dT,if_neg (by simp)])
 have e0:dT (t.Symbols,(t.Symbols.length:Int),((0:Nat):Int),id)=dT (t.Symbols,(t.Symbols.length:Int),0,id):=rfl;have g:=jP (fun i=>dZ (id,(i:Int),t)) t.Symbols.length (fun i=>decide ((t.Symbols.getD i aP).ID=id)) (fun i=>.inl ((i:Int),true)) (.inr ())
  (fun i hi=>by
   rw[dZ,if_pos (by simp;omega),if_pos (au hi),aD (by omega)]
   grind)
  (by rw[dZ,if_neg (by simp)])
 have g0:dZ (id,((0:Nat):Int),t)=dZ (id,0,t):=rfl;simp only[e0]at h;simp only[g0]at g;have hA:∃r,(dT (t.Symbols,(t.Symbols.length:Int),0,id) >>=fun o=>match o with | .inl o_1=>some (o_1.1,o_1.2) | .inr o_2=>some ((-1),o_2)) >>=(fun r=>some (maxI r.1 0,decide (0<=r.1)))=some r/\kA t.Symbols id r:=by
  rcases h with⟨j,h1,h2,h3,h4⟩ | ⟨h1,h4⟩
  . rw[h4];refine⟨((j:Int),true),?_,.inl ⟨j,h1,by simpa using h2,fun k hk=>by simpa using h3 k hk,rfl⟩⟩;have e1:maxI (j:Int) 0=(j:Int):=by unfold maxI;omega
    simp_all
  . rw[h4];exact⟨(0,false),rfl,.inr ⟨fun k hk=>by simpa using h1 k hk,rfl⟩⟩
 have hB:∃r,(dZ (id,0,t) >>=fun o=>match o with | .inl o_1=>some (o_1.1,o_1.2) | .inr o_2=>some (0,false))=some r/\kA t.Symbols id r:=by
  rcases g with⟨j,h1,h2,h3,h4⟩ | ⟨h1,h4⟩
  . rw[h4];exact⟨((j:Int),true),rfl,.inl ⟨j,h1,by simpa using h2,fun k hk=>by simpa using h3 k hk,rfl⟩⟩
  . rw[h4];exact⟨(0,false),rfl,.inr ⟨fun k hk=>by simpa using h1 k hk,rfl⟩⟩
 obtain⟨r,a1,a2⟩:=hA;obtain⟨q,b1,b2⟩:=hB;have:=Gh a2 b2
 grind
def zig(n:Int):Int:=if 0<=n then 2*n else -2*n - 1
theorem zP{a b:Int}(h:zig a=zig b):a=b:=by
 unfold zig at h;split at h <;> split at h <;> omega
def I64(n:Int):Prop:= -9223372036854775808<=n/\n<=9223372036854775807
theorem jd{n:Int}(h:I64 n):jt n=some (zig n):=by
 obtain⟨h1,h2⟩:=h;rw[jt];unfold zig;by_cases h0:0<=n
 . rw[if_pos (by simp[h0]),if_pos h0];obtain⟨k,rfl⟩:∃k:Nat,n=(k:Int):=⟨n.toNat,by omega⟩
   rw[wrpn (by omega)];have:=mulIn (a:=2) (b:=k) (by omega)
   grind
 . rw[if_neg (by simp[h0]),if_neg h0];rw[cC (by omega) (by omega),cb (by omega) (by omega)];obtain⟨k,hk⟩:∃k:Nat,0 - (n+1)=(k:Int):=⟨(0 - (n+1)).toNat,by omega⟩
   rw[hk,wrpn (by omega)];have h3:=mulIn (a:=2) (b:=k) (by omega);have h3':mulI .u64 2 (k:Int)=((2*k:Nat):Int):=h3;rw[h3'];have h4:=addIn (a:=2*k) (b:=1) (by omega)
   grind
theorem Kx(a:Nat)(h:a < 18446744073709551616):xorI .u64 (a:Int) 0=(a:Int):=by
 have e:(BitVec.ofInt 64 (a:Int) ^^^ BitVec.ofInt 64 (0:Int)).toNat=a:=by grind
 show IntKind.u64.wrap (((BitVec.ofInt 64 (a:Int) ^^^ BitVec.ofInt 64 (0:Int)).toNat:Nat):Int)=_;rw[e];exact wrapu (by omega) (by omega)
theorem Kz(a:Nat)(h:a < 18446744073709551616):xorI .u64 (a:Int) 18446744073709551615=((18446744073709551615 - a:Nat):Int):=by
 have e:(BitVec.ofInt 64 (a:Int) ^^^ BitVec.ofInt 64 (18446744073709551615:Int)).toNat=18446744073709551615 - a:=by
  have h1:BitVec.ofInt 64 (18446744073709551615:Int)=BitVec.allOnes 64:=by decide
  rw[h1,BitVec.ofInt_natCast,BitVec.xor_allOnes,BitVec.toNat_not,BitVec.toNat_ofNat,two64,Nat.mod_eq_of_lt h]
 all_goals (try omega)
 show IntKind.u64.wrap (((BitVec.ofInt 64 (a:Int) ^^^ BitVec.ofInt 64 (18446744073709551615:Int)).toNat:Nat):Int)=_;rw[e];exact wrapu (by omega) (by omega)
theorem shr63{n:Int}(h:I64 n):shrI .i64 n 63=if 0<=n then 0 else -1:=by
 obtain⟨h1,h2⟩:=h;unfold shrI;have e:((2:Int) ^ min (63:Int).toNat IntKind.i64.bits)=9223372036854775808:=by decide
 grind
theorem tj{n:Int}(h:I64 n):jA n=some (zig n):=by
 rw[jA,shr63 h];obtain⟨h1,h2⟩:=h;unfold zig;have hs:∀m:Int,shlI .u64 m 1=IntKind.u64.wrap (m*2):=by
  intro m;unfold shlI;rfl
 rw[hs]
 congr 1
 by_cases h0:0<=n
 . rw[if_pos h0,if_pos h0];obtain⟨k,rfl⟩:∃k:Nat,n=(k:Int):=⟨n.toNat,by omega⟩
   rw[wrpn (by omega),wrapu (by omega) (by omega)];have:wrp .u64 0=0:=by decide
   rw[this];have:=Kx (2*k) (by omega)
   grind
 . rw[if_neg h0,if_neg h0];have:wrp .u64 (-1)=18446744073709551615:=by decide
   rw[this];obtain⟨k,hk⟩:∃k:Nat,n+9223372036854775808=(k:Int):=⟨(n+9223372036854775808).toNat,by omega⟩
   have e:IntKind.u64.wrap (wrp .u64 n*2)=((2*k:Nat):Int):=by
    unfold wrp;rw[IntKind.wrap_u64,IntKind.wrap_u64];omega
   rw[e,Kz _ (by omega)];omega
theorem cmp1(a b:Int):ow (a,b)=some (if a < b then -1 else if b < a then 1 else 0):=by
 rw[ow];simp only[oU,oZ4,oZ3,decide_true,Bool.not_true,Bool.false_eq_true,if_false]
 grind
theorem cmp2(a b:Int):lC (a,b)=some (if a < b then -1 else if b < a then 1 else 0):=by
 rw[lC];simp only[ox,oZ4,oZ3,decide_true,Bool.not_true,Bool.false_eq_true,if_false]
 grind
theorem cmp3(a b:List UInt8):nT (a,b)=some (if Op.bytesLess a b=true then -1 else if(Op.bytesLess a b || decide (a=b))=true then 0 else 1):=by
 rw[nT];simp only[oy,oZ4,oZ3,decide_true,Bool.not_true,Bool.false_eq_true,if_false]
 grind
theorem or2(a b:Int):pP [a,b]=some (if a≠0 then a else b):=by
 rw[pP];have h0:gL (0,[a,b],((2:Nat):Int),((0:Nat):Int))=if a≠0 then some (.inl a)else(if b≠0 then some (.inl b)else some (.inr 0)):=by
  rw[gL,if_pos (by decide),if_pos (show inR ((0:Nat):Int) ([a,b]:List Int).length=true from au (k:=0) (n:=2) (by omega))];simp only[oZ4,oZ3,av,List.getD_cons_zero];by_cases ha:a=0
  . rw[if_neg (by simp[ha]),if_neg (by simp[ha])];have e1:addI .i64 ((0:Nat):Int) 1=((1:Nat):Int):=aD (by omega);rw[e1,gL,if_pos (by decide),if_pos (show inR ((1:Nat):Int) ([a,b]:List Int).length=true from au (k:=1) (n:=2) (by omega))];simp only[oZ4,oZ3,av,List.getD_cons_succ,List.getD_cons_zero];by_cases hb:b=0
    . rw[if_neg (by simp[hb]),if_neg (by simp[hb])];have e2:addI .i64 ((1:Nat):Int) 1=((2:Nat):Int):=aD (by omega);rw[e2,gL,if_neg (by decide)]
    grind
  grind
 grind
theorem uQ :∀a:List UInt8,Op.bytesLess a a=false
 | []=>rfl
 | x::r=>by
  simp[Op.bytesLess,uQ r]
theorem og{a b:ab}(ha:I64 a.Int_)(hb:I64 b.Int_):∃r,fq (a,b)=some r/\fe (a,b)=some r:=by
 rw[fq,fe];by_cases hk:a.Kind=b.Kind
 . rw[if_neg (show ¬((!(decide (a.Kind=b.Kind)))=true) by simp[hk]),if_neg (show ¬((!(decide (a.Kind=b.Kind)))=true) by simp[hk])];by_cases k1:a.Kind=1
   . rw[if_pos (show decide (a.Kind=1)=true by simp[k1]),if_pos (show decide (a.Kind=1)=true by simp[k1])];simp only[cF];cases eqB a.Bool_ b.Bool_ <;> cases b.Bool_ <;> exact⟨_,rfl,rfl⟩
   . rw[if_neg (show ¬(decide (a.Kind=1)=true) by simp[k1]),if_neg (show ¬(decide (a.Kind=1)=true) by simp[k1])];by_cases k2:a.Kind=2
     . rw[if_pos (show decide (a.Kind=2)=true by simp[k2]),if_pos (show decide (a.Kind=2)=true by simp[k2]),tj ha,tj hb,jd ha,jd hb];simp only[oZ4,oZ3,cmp1,cF];by_cases he:a.Int_=b.Int_
       . grind
       . have hne:zig a.Int_≠zig b.Int_:=fun h=>he (zP h)
         grind
     . rw[if_neg (show ¬(decide (a.Kind=2)=true) by simp[k2]),if_neg (show ¬(decide (a.Kind=2)=true) by simp[k2])];by_cases k3:a.Kind=3
       . rw[if_pos (show decide (a.Kind=3)=true by simp[k3]),if_pos (show decide (a.Kind=3)=true by simp[k3])];simp only[oZ4,oZ3,cmp2,cmp3,or2,cF];by_cases hl:a.Str.length=b.Str.length
         . have hq:¬((!(decide ((a.Str.length:Int)=(b.Str.length:Int))))=true):=by simp;omega
           rw[if_neg hq,hl];have e1:¬((b.Str.length:Int) < (b.Str.length:Int)):=by omega
           simp only[e1,if_false,ne_eq,not_true_eq_false];by_cases he:a.Str=b.Str
           . rw[he,uQ]
             grind
           grind
         grind
       . rw[if_neg (show ¬(decide (a.Kind=3)=true) by simp[k3]),if_neg (show ¬(decide (a.Kind=3)=true) by simp[k3])];by_cases k4:a.Kind=4
         . rw[if_pos (show decide (a.Kind=4)=true by simp[k4]),if_pos (show decide (a.Kind=4)=true by simp[k4])];simp only[oZ4,oZ3,cmp2,cF]
           grind
         simp_all
 simp_all
def Both(o1 o2:Option Bool):Prop:=∃r,o1=some r/\o2=some r
theorem r6 {γ δ : Type} (L : Nat -> Option (Bool ⊕ γ)) (L' : Nat -> Option (Bool ⊕ δ)) (n : Nat) (p : Nat -> Bool) (g : γ) (g' : δ)
 (h:∀i,i < n->L i=if p i=true then L (i+1)else some (.inl false)) (he:L n=some (.inr g))
 (h':∀i,i < n->L' i=if p i=true then L' (i+1)else some (.inl false)) (he':L' n=some (.inr g')):
 (L 0=some (.inr g)/\L' 0=some (.inr g')/\∀j,j < n->p j=true)\/(L 0=some (.inl false)/\L' 0=some (.inl false)/\∃j,j < n/\p j=false):=by
 rcases scan L n p (.inl false) (.inr g) h he with⟨a1,a2⟩ | ⟨a1,j,a2,a3⟩ <;> rcases scan L' n p (.inl false) (.inr g') h' he' with⟨b1,b2⟩ | ⟨b1,k,b2,b3⟩
 . exact .inl ⟨a1,b1,a2⟩
 . have:=a2 k b2;rw[b3]at this;cases this
 . have:=b2 j a2;rw[a3]at this;cases this
 . exact .inr ⟨a1,b1,j,a2,a3⟩
def fS(k:Int):Prop:=1<=k/\k<=9
theorem Gi{v:ab}(hk:fS v.Kind):∃p,oc v=some p/\im v=some p/\(p=true->v.Kind≠5->v.Kind≠6->v.Rest=[]):=by
 obtain⟨K,B,I,S,ID,Ks,Is,R⟩:=v;simp only at hk;rw[oc,ab.aA,im];have:K=1\/K=2\/K=3\/K=4\/K=5\/K=6\/K=7\/K=8\/K=9:=by unfold fS at hk;omega
 have eI:∀(x:Int),decide (x=x)=true:=fun x=>by simp
 rcases this with rfl | rfl | rfl | rfl | rfl | rfl | rfl | rfl | rfl
 all_goals
  refine⟨_,rfl,?_,?_⟩
  . simp[oH,eqB]
    try (cases B <;> simp)
  . simp[oH,eqB]
section
variable {ts:List ae} (hn:ts.length < 9223372036854775807) (hT:∀t,t∈ts->OkT t) (hK:∀t,t∈ts->fS t.Kind)
def Fit(ts:List ae)(x:ab):Prop:=∀t plain,Both (cA ((⟨ts⟩:az),t,x,plain)) (bW ((⟨ts⟩:az),t,x,plain))
theorem xP {l : List ab} (hl : l.length <= reachBytes) (ih : ∀ x, x ∈ l -> Fit ts x) (t : Int) (plain : Bool):
 Both (gH ((⟨ts⟩:az),t,l,plain)) (ef ((⟨ts⟩:az),t,l,plain)):=by
 have hr:=aQ hl
 let p:Nat->Bool:=fun i=>(cA ((⟨ts⟩:az),t,l.getD i af,plain)).getD false
 have hp:∀i,i < l.length->cA ((⟨ts⟩:az),t,l.getD i af,plain)=some (p i)/\bW ((⟨ts⟩:az),t,l.getD i af,plain)=some (p i):=by
  intro i hi;obtain⟨r,h1,h2⟩:=ih _ (aB hi af) t plain
  grind
 have hf:=jP (fun i=>fU (l,(l.length:Int),(i:Int),ts,t,plain)) l.length (fun i=>!(p i)) (fun i=>.inl ((i:Int),ts,t,plain)) (.inr (ts,t,plain))
  (fun i hi=>by
   rw[fU,if_pos (by simp;omega),if_pos (au hi),qX];simp only[ab.aA,av];rw[(hp i hi).1,aD (by omega)]
   rfl)
  (by rw[fU,if_neg (by simp)])
 have hs:=scan (fun i=>cE (t,l,plain,(i:Int),ts)) l.length p (.inl false) (.inr ())
  (fun i hi=>by
   rw[cE,if_pos (by simp;omega),if_pos (au hi)];simp only[ab.aA,av];rw[(hp i hi).2,aD (by omega)]
   grind)
  (by rw[cE,if_neg (by simp)])
 have e1:fU (l,(l.length:Int),((0:Nat):Int),ts,t,plain)=fU (l,(l.length:Int),0,ts,t,plain):=rfl;have e2:cE (t,l,plain,((0:Nat):Int),ts)=cE (t,l,plain,0,ts):=rfl;simp only[e1]at hf;simp only[e2]at hs;rw[gH,m9,pY,ef];rcases hf with⟨j,a1,a2,a3,a4⟩ | ⟨a1,a4⟩ <;> rcases hs with⟨b1,b2⟩ | ⟨b1,k,b2,b3⟩
 . have:=b2 j a1;simp[this]at a2
 . rw[a4,b1];refine⟨false,?_,rfl⟩;have e:decide ((0:Int)<=(j:Int))=true:=by simp
   simp only[oZ4,oZ3,e,Bool.not_true]
 . rw[a4,b1];exact⟨true,rfl,rfl⟩
 . have:=a1 k b2;simp[b3]at this
def restP(t:ae)(l:List aG)(i:Nat):Bool:=
 !((bG (t,(l.getD i aC).ID)).getD (0,false)).2 && (decide (1<=(l.getD i aC).ID) && decide ((l.getD i aC).ID<=1000)) && (decide (i=0) || decide ((l.getD (i - 1) aC).ID < (l.getD i aC).ID))
theorem KA {γ : Type} (kn f Z : Bool) (sI : Int) (I1 C : Int -> Bool) (X Y : Option γ) (hI1 : Z = true -> I1 sI = true):
 ((if(!kn)=true then some f else some false) >>=fun r_17=>some (bif kn then true else(!r_17)) >>=fun t131=>some Z >>=fun t134=>some sI >>=fun t141=>
  if(I1 t141 || (!((!t131) && t134)))=true then if(bif t131 then true else bif t134 then C t141 else false)=true then X else Y else none)=if(!kn && f && (!Z || !(C sI)))=true then Y else X:=by
 simp only[oZ4,oZ3];generalize C sI=c;cases Z with
 | true=>rw[hI1 rfl];cases kn <;> cases f <;> cases c <;> rfl
 | false=>generalize I1 sI=d;cases kn <;> cases f <;> cases d <;> cases c <;> rfl
theorem v6 {γ : Type} (R3 I0 Z : Bool) (sI : Int) (I1 C : Int -> Bool) (X Y : Option γ) (hI0 : I0 = true) (hI1 : Z = true -> I1 sI = true):
 (some R3 >>=fun r_3=>some (!r_3) >>=fun t31=>some Z >>=fun t34=>
  if(I0 || (!((!t31) && t34)))=true then some sI >>=fun t43=>if(I1 t43 || (!((!t31) && t34)))=true then if(bif t31 then true else bif t34 then C t43 else false)=true then X else Y else none else none)=if(R3 && (!Z || !(C sI)))=true then Y else X:=by
 subst hI0;simp only[oZ4,oZ3];generalize C sI=c;cases Z with
 | true=>rw[hI1 rfl];cases R3 <;> cases c <;> rfl
 | false=>generalize I1 sI=d;cases R3 <;> cases d <;> cases c <;> rfl
theorem gM{i:Nat}(h:0 < i)(h2:i < 9223372036854775807):subI .i64 (i:Int) 1=((i - 1:Nat):Int):=by
 rw[cb (by omega) (by omega)];omega
theorem rests {t : ae} (ht : t.Members.length < 9223372036854775807) (v : ab) (hl : v.Rest.length <= reachBytes) (plain : Bool) (ts : List ae):
 let inr:=(plain,ts,v.Kind,v.Bool_,v.Int_,v.Str,v.ID,v.Keys,v.Items,v.Rest,t.Kind,t.Name,t.Low,t.High,t.Max,t.Symbols,t.Members,t.Key,t.Elem,t.Open)
 ((cX (plain,v.Rest,(v.Rest.length:Int),0,ts,v,t.Kind,t.Name,t.Low,t.High,t.Max,t.Symbols,t.Members,t.Key,t.Elem,t.Open)=some (.inr inr)/\gq (t,v.Rest)=some true)\/
  (cX (plain,v.Rest,(v.Rest.length:Int),0,ts,v,t.Kind,t.Name,t.Low,t.High,t.Max,t.Symbols,t.Members,t.Key,t.Elem,t.Open)=some (.inl false)/\gq (t,v.Rest)=some false)):=by
 intro inr;have hr:=aQ hl;have hpe:∀i,i < v.Rest.length->∀r,bG (t,(v.Rest.getD i aC).ID)=some r->restP t v.Rest i=(!r.2 && (bif decide (1<=(v.Rest.getD i aC).ID)then decide ((v.Rest.getD i aC).ID<=1000)else false) && (!(decide ((0:Int) < (i:Int))) || !(decide ((v.Rest.getD i aC).ID<=(v.Rest.getD (subI .i64 (i:Int) 1).toNat aC).ID)))):=by
  intro i hi r hm;unfold restP;rw[hm,Option.getD_some];generalize (v.Rest.getD i aC).ID=x;by_cases h0:i=0
  . grind
  . have hz:decide ((0:Int) < (i:Int))=true:=by simp;omega
    rw[hz,gM (by omega) (by omega),av]
    grind
 have h:=r6 (fun i=>cX (plain,v.Rest,(v.Rest.length:Int),(i:Int),ts,v,t.Kind,t.Name,t.Low,t.High,t.Max,t.Symbols,t.Members,t.Key,t.Elem,t.Open)) (fun i=>cu (v.Rest,(i:Int),t)) v.Rest.length (restP t v.Rest) inr ()
  (fun i hi=>by
   obtain⟨r,h1,_,_⟩:=eu (t:=t) (v.Rest.getD i aC).ID ht;rw[cX,if_pos (by simp;omega),if_pos (au hi),hpe i hi r h1];simp only[av,pg,ab.aA,lU,oZ4,oZ3];rw[h1,aD (by omega)]
   exact KA r.2 (bif decide (1<=(v.Rest.getD i aC).ID)then decide ((v.Rest.getD i aC).ID<=1000)else false) (decide ((0:Int) < (i:Int))) (subI .i64 (i:Int) 1) (fun j=>inR j v.Rest.length) (fun j=>decide ((v.Rest.getD i aC).ID<=(v.Rest.getD j.toNat aC).ID)) _ _ (fun hz=>by
    have:0 < i:=by simp at hz;omega
    show inR _ _=true
    rw[gM this (by omega)];exact au (by omega)))
  (by rw[cX,if_neg (by simp)])
  (fun i hi=>by
   obtain⟨r,h1,h2,_⟩:=eu (t:=t) (v.Rest.getD i aC).ID ht;rw[cu,if_pos (by simp;omega),if_pos (au hi),hpe i hi r h1];simp only[av];rw[h2,aD (by omega)];have hid:ce ((v.Rest.getD i aC).ID,r.2)=some ((!r.2) && (bif decide (1<=(v.Rest.getD i aC).ID)then decide ((v.Rest.getD i aC).ID<=1000)else false)):=by
    rw[ce]
    grind
   show(if inR (i:Int) v.Rest.length=true then ce ((v.Rest.getD i aC).ID,r.2) >>=_ else none)=_;rw[if_pos (au hi),hid]
   exact v6 ((!r.2) && (bif decide (1<=(v.Rest.getD i aC).ID)then decide ((v.Rest.getD i aC).ID<=1000)else false)) (inR (i:Int) v.Rest.length) (decide ((0:Int) < (i:Int))) (subI .i64 (i:Int) 1) (fun j=>inR j v.Rest.length) (fun j=>decide ((v.Rest.getD i aC).ID<=(v.Rest.getD j.toNat aC).ID)) _ _ (au hi) (fun hz=>by
    have:0 < i:=by simp at hz;omega
    show inR _ _=true
    rw[gM this (by omega)];exact au (by omega)))
  (by rw[cu,if_neg (by simp)])
 have e1:cX (plain,v.Rest,(v.Rest.length:Int),((0:Nat):Int),ts,v,t.Kind,t.Name,t.Low,t.High,t.Max,t.Symbols,t.Members,t.Key,t.Elem,t.Open)=cX (plain,v.Rest,(v.Rest.length:Int),0,ts,v,t.Kind,t.Name,t.Low,t.High,t.Max,t.Symbols,t.Members,t.Key,t.Elem,t.Open):=rfl;have e2:cu (v.Rest,((0:Nat):Int),t)=cu (v.Rest,0,t):=rfl
 simp only[e1,e2]at h;rw[gq];rcases h with⟨h1,h2,_⟩ | ⟨h1,h2,_⟩
 . exact .inl ⟨h1,by rw[h2];rfl⟩
 . exact .inr ⟨h1,by rw[h2];rfl⟩
end
theorem Hm {ts : List ae} {t : ae} {v : ab} (hl : v.Items.length = t.Members.length) (hr : t.Members.length < 9223372036854775807) (ih : ∀ x, x ∈ v.Items -> Fit ts x) (plain : Bool):
 (dK (plain,t.Members,(t.Members.length:Int),0,ts,v.Kind,v.Bool_,v.Int_,v.Str,v.ID,v.Keys,v.Items,v.Rest)=some (.inr ())/\bT (plain,0,ts,v,t.Kind,t.Name,t.Low,t.High,t.Max,t.Symbols,t.Members,t.Key,t.Elem,t.Open)=some (.inr ()))\/
 (dK (plain,t.Members,(t.Members.length:Int),0,ts,v.Kind,v.Bool_,v.Int_,v.Str,v.ID,v.Keys,v.Items,v.Rest)=some (.inl false)/\bT (plain,0,ts,v,t.Kind,t.Name,t.Low,t.High,t.Max,t.Symbols,t.Members,t.Key,t.Elem,t.Open)=some (.inl false)):=by
 let p:Nat->Bool:=fun i=>(cA ((⟨ts⟩:az),(t.Members.getD i ag).Type_,v.Items.getD i af,plain)).getD false
 have hp:∀i,i < t.Members.length->cA ((⟨ts⟩:az),(t.Members.getD i ag).Type_,v.Items.getD i af,plain)=some (p i)/\bW ((⟨ts⟩:az),(t.Members.getD i ag).Type_,v.Items.getD i af,plain)=some (p i):=by
  intro i hi;obtain⟨r,h1,h2⟩:=ih _ (aB (by omega:i < v.Items.length) af) (t.Members.getD i ag).Type_ plain
  grind
 have h:=r6 (fun i=>dK (plain,t.Members,(t.Members.length:Int),(i:Int),ts,v.Kind,v.Bool_,v.Int_,v.Str,v.ID,v.Keys,v.Items,v.Rest)) (fun i=>bT (plain,(i:Int),ts,v,t.Kind,t.Name,t.Low,t.High,t.Max,t.Symbols,t.Members,t.Key,t.Elem,t.Open)) t.Members.length p () ()
  (fun i hi=>by
   rw[dK,if_pos (by simp;omega),if_pos (au hi),if_pos (au (by omega))];simp only[av,ab.aA];rw[(hp i hi).1,aD (by omega)]
   grind)
  (by rw[dK,if_neg (by simp)])
  (fun i hi=>by
   rw[bT,if_pos (by simp;omega),if_pos (au hi),if_pos (au (by omega))];simp only[av,ab.aA];rw[(hp i hi).2,aD (by omega)]
   grind)
  (by rw[bT,if_neg (by simp;omega)])
 have e1:dK (plain,t.Members,(t.Members.length:Int),((0:Nat):Int),ts,v.Kind,v.Bool_,v.Int_,v.Str,v.ID,v.Keys,v.Items,v.Rest)=dK (plain,t.Members,(t.Members.length:Int),0,ts,v.Kind,v.Bool_,v.Int_,v.Str,v.ID,v.Keys,v.Items,v.Rest):=rfl
 have e2:bT (plain,((0:Nat):Int),ts,v,t.Kind,t.Name,t.Low,t.High,t.Max,t.Symbols,t.Members,t.Key,t.Elem,t.Open)=bT (plain,0,ts,v,t.Kind,t.Name,t.Low,t.High,t.Max,t.Symbols,t.Members,t.Key,t.Elem,t.Open):=rfl;simp only[e1,e2]at h;rcases h with⟨h1,h2,_⟩ | ⟨h1,h2,_⟩
 . exact .inl ⟨h1,h2⟩
 . exact .inr ⟨h1,h2⟩
theorem kg{v:ab}(h:OkV v):I64 v.Int_:=by cases h with | mk _ _ _ _ _ _ _ _ n1 n2=>exact n2
theorem Iu {ts : List ae} {t : ae} {v : ab} (hr : v.Keys.length < 9223372036854775807) (hk : ∀ x, x ∈ v.Keys -> OkV x) (plain : Bool):
 let inr:=(plain,ts,v,t.Kind,t.Name,t.Low,t.High,t.Max,t.Symbols,t.Members,t.Key,t.Elem,t.Open)
 (cH (plain,1,ts,v,t.Kind,t.Name,t.Low,t.High,t.Max,t.Symbols,t.Members,t.Key,t.Elem,t.Open)=some (.inr inr)/\bF (1,v)=some (.inr ()))\/
 (cH (plain,1,ts,v,t.Kind,t.Name,t.Low,t.High,t.Max,t.Symbols,t.Members,t.Key,t.Elem,t.Open)=some (.inl false)/\bF (1,v)=some (.inl false)):=by
 intro inr;by_cases h0:v.Keys.length=0
 . left;refine⟨?_,?_⟩
   . rw[cH,if_neg (by simp[h0]),ab.aA]
   . rw[bF,if_neg (by simp[h0])]
 let c:Nat->Int:=fun i=>(fq (v.Keys.getD i af,v.Keys.getD (i+1) af)).getD 0
 have hc:∀i,i+1 < v.Keys.length->fq (v.Keys.getD i af,v.Keys.getD (i+1) af)=some (c i)/\fe (v.Keys.getD i af,v.Keys.getD (i+1) af)=some (c i):=by
  intro i hi;obtain⟨r,h1,h2⟩:=og (kg (hk _ (aB (by omega:i < v.Keys.length) af))) (kg (hk _ (aB hi af)))
  grind
 have h:=r6 (fun i=>cH (plain,((i+1:Nat):Int),ts,v,t.Kind,t.Name,t.Low,t.High,t.Max,t.Symbols,t.Members,t.Key,t.Elem,t.Open)) (fun i=>bF (((i+1:Nat):Int),v)) (v.Keys.length - 1) (fun i=>!(decide (0<=c i))) inr ()
  (fun i hi=>by
   have hs:=gM (i:=i+1) (by omega) (by omega);have hs':subI .i64 ((i+1:Nat):Int) 1=(i:Int):=by rw[hs];simp
   rw[cH,if_pos (by simp;omega)];simp only[oZ4,oZ3];rw[hs',if_pos (au (by omega)),if_pos (au (by omega))];simp only[av,ab.aA];rw[(hc i (by omega)).1,aD (by omega)]
   grind)
  (by
   have e:v.Keys.length - 1+1=v.Keys.length:=by omega
   rw[e,cH,if_neg (by simp),ab.aA])
  (fun i hi=>by
   have hs:=gM (i:=i+1) (by omega) (by omega);have hs':subI .i64 ((i+1:Nat):Int) 1=(i:Int):=by rw[hs];simp
   rw[bF,if_pos (by simp;omega)];simp only[oZ4,oZ3];rw[hs',if_pos (au (by omega)),if_pos (au (by omega))];simp only[av,ab.aA];rw[(hc i (by omega)).2,aD (by omega)]
   grind)
  (by
   have e:v.Keys.length - 1+1=v.Keys.length:=by omega
   rw[e,bF,if_neg (by simp)])
 have e1:cH (plain,((0+1:Nat):Int),ts,v,t.Kind,t.Name,t.Low,t.High,t.Max,t.Symbols,t.Members,t.Key,t.Elem,t.Open)=cH (plain,1,ts,v,t.Kind,t.Name,t.Low,t.High,t.Max,t.Symbols,t.Members,t.Key,t.Elem,t.Open):=rfl;have e2:bF (((0+1:Nat):Int),v)=bF (1,v):=rfl;simp only[e1,e2]at h;rcases h with⟨h1,h2,_⟩ | ⟨h1,h2,_⟩
 . exact .inl ⟨h1,h2⟩
 . exact .inr ⟨h1,h2⟩
theorem wV{α β:Type}{a:List α}{b:List β}(h:decide ((a.length:Int)=(b.length:Int))=true):a.length=b.length:=by grind
theorem k4e {o : Option (Int×Bool)} {r : Int×Bool} (ho : o = some r) (O plain f : Bool):
 (o >>=fun r_1=>some (bif O then(!plain)else false) >>=fun t85=>(if((!r_1.2) && t85)=true then some f else some false) >>=fun r_4=>some (bif r_1.2 then true else bif t85 then r_4 else false))=some (r.2 || (O && !plain && f)):=by
 subst ho;obtain⟨k,kn⟩:=r;cases kn <;> cases O <;> cases plain <;> cases f <;> rfl
theorem k4r {o : Option (Int×Bool)} {r : Int×Bool} (ho : o = some r) (O plain f : Bool) (F : Bool -> Option Bool) (hF : F false = some f):
 (o >>=fun r_1=>some (bif O then(!plain)else false) >>=fun t85=>(if((!r_1.2) && t85)=true then F r_1.2 else some false) >>=fun r_4=>some (bif r_1.2 then true else bif t85 then r_4 else false))=some (r.2 || (O && !plain && f)):=by
 subst ho;obtain⟨k,kn⟩:=r;cases kn <;> cases O <;> cases plain <;> simp[hF]
theorem k7{o:Option Bool}{r:Bool}(ho:o=some r)(q:Bool):(some q >>=fun t244=>(if t244=true then o else some false) >>=fun r_10=>some (bif t244 then r_10 else false))=some (q && r):=by grind
theorem k6k(c I1 I2 f:Bool){X:Option Bool}(hX:c=true->X=some f)(h1:c=true->I1=true/\I2=true):(some c >>=fun t188=>if(I1 || (!t188))=true then if(I2 || (!t188))=true then(if t188=true then X else some false) >>=fun r_8=>some (bif t188 then r_8 else false)else none else none)=some (c && f):=by grind
theorem k5r (A b q m : Bool) {ro : Option Bool} (hr : ro = some q) {L : Option (Bool ⊕ Unit)} (hL : A = true -> L = some (if m = true then .inr () else .inl false)):
 (if(bif (bif false then true else(!true))then true else b)=true then some false else some (!A) >>=fun t107=>(if(!t107)=true then ro else some false) >>=fun r_5=>if(bif t107 then true else(!r_5))=true then some false else L >>=fun o=>match o with | .inl x=>some x | .inr _=>some true)=some (A && !b && q && m):=by
 subst hr;cases A with
 | false=>cases b <;> rfl
 | true=>
  rw[hL rfl];cases b <;> cases q <;> cases m <;> rfl
theorem k6u(g f c1 c2 I E:Bool)(h1:c2=true->I=true):(some g >>=fun t209=>(if t209=true then some f else some false) >>=fun r_9=>some (bif bif bif t209 then r_9 else false then c1 else false then c2 else false) >>=fun t226=>if(I || (!t226))=true then some (bif t226 then E else false)else none)=some (g && f && c1 && c2 && E):=by grind
theorem k8r (c : Bool) {ok oi : Option Bool} {k i : Bool} (hk : ok = some k) (hi : oi = some i) {L : Option (Bool ⊕ Unit)} {q : Bool} (hL : L = some (if q = true then .inr () else .inl false)):
 (some c >>=fun t239=>(if(!t239)=true then ok else some false) >>=fun r_12=>some (bif t239 then true else(!r_12)) >>=fun t249=>(if(!t249)=true then oi else some false) >>=fun r_13=>if(bif t249 then true else(!r_13))=true then some false else L >>=fun o_3=>match o_3 with | .inl o_4=>some o_4 | .inr _=>some true)=some (!c && k && q && i):=by
 subst hk;subst hi;subst hL;cases c <;> cases k <;> cases q <;> cases i <;> rfl
theorem Iv{ts:List ae}(hn:ts.length < 9223372036854775807)(hT:∀t,t∈ts->OkT t)(hK:∀t,t∈ts->fS t.Kind){v:ab}(hv:OkV v):Fit ts v:=by
 induction hv with
 | mk v hs h1 h2 h3 hk hi hrd n1 n2 n3 n4 ihk ihi=>
  intro t plain;rw[cA,bW];by_cases hout:(bif decide (t < 0)then true else decide (((⟨ts⟩:az).Types.length:Int)<=t))=true
  . rw[if_pos hout,if_pos hout];exact⟨false,rfl,rfl⟩
  . rw[if_neg hout,if_neg hout];have hin:0<=t/\t < ts.length:=by grind
    obtain⟨j,rfl⟩:∃j:Nat,t=(j:Int):=⟨t.toNat,by omega⟩
    have hj:j < ts.length:=by omega
    rw[if_pos (au hj),if_pos (au hj)];simp only[av,ab.aA];have hxT:=hT _ (aB hj ap);have hxK:=hK _ (aB hj ap);generalize ts.getD j ap=x at hxT hxK ⊢;have hm:=aQ (bY hxT.mems);have hsy:=aQ (bY hxT.syms);by_cases hkd:v.Kind=x.Kind
    . obtain⟨p,p1,p2,p3⟩:=Gi (v:=v) (by rw[hkd];exact hxK);rw[p1,p2];cases p with
      | false=>exact⟨false,by simp[hkd],by simp[hkd]⟩
      | true=>
       have hitems:=xP (ts:=ts) h2 ihi;have hkeys:=xP (ts:=ts) h1 ihk;obtain⟨K,N,L,H,M,S,Ms,Ke,E,O⟩:=x;obtain⟨vK,B,I,Sx,ID,Ks,Is,R⟩:=v;simp only at hkd;subst hkd;have p3':=p3 rfl;simp only at p3' hxK hm hsy h1 h2 h3;have hc:vK=1\/vK=2\/vK=3\/vK=4\/vK=5\/vK=6\/vK=7\/vK=8\/vK=9:=by unfold fS at hxK;omega
       rcases hc with rfl | rfl | rfl | rfl | rfl | rfl | rfl | rfl | rfl
       . obtain rfl:R=[]:=p3' (by decide) (by decide);cases plain <;> exact⟨true,rfl,rfl⟩
       . obtain rfl:R=[]:=p3' (by decide) (by decide);cases plain <;> exact⟨_,rfl,rfl⟩
       . obtain rfl:R=[]:=p3' (by decide) (by decide);cases plain <;> exact⟨_,rfl,rfl⟩
       . obtain rfl:R=[]:=p3' (by decide) (by decide);obtain⟨r,r1,r2,_⟩:=lN (t:=⟨4,N,L,H,M,S,Ms,Ke,E,O⟩) ID hsy;have hf:ce (ID,false)=some (bif decide (1<=ID)then decide (ID<=1000)else false):=by rfl
         cases plain
         . exact⟨_,k4e r1 O false _,k4r r2 O false _ (fun b=>ce (ID,b)) hf⟩
         . exact⟨_,k4e r1 O true _,k4r r2 O true _ (fun b=>ce (ID,b)) hf⟩
       ·
        have hrs:=rests (t:=⟨5,N,L,H,M,S,Ms,Ke,E,O⟩) hm ⟨5,B,I,Sx,ID,Ks,Is,R⟩ h3 plain ts;have hps:decide ((Is.length:Int)=(Ms.length:Int))=true->_:=fun hA=>Hm (ts:=ts) (t:=⟨5,N,L,H,M,S,Ms,Ke,E,O⟩) (v:=⟨5,B,I,Sx,ID,Ks,Is,R⟩) (wV hA) hm ihi plain
        have hq:∃q:Bool,cX (plain,R,(R.length:Int),0,ts,⟨5,B,I,Sx,ID,Ks,Is,R⟩,5,N,L,H,M,S,Ms,Ke,E,O)=some (if q=true then .inr (plain,ts,5,B,I,Sx,ID,Ks,Is,R,5,N,L,H,M,S,Ms,Ke,E,O)else .inl false)/\gq (⟨5,N,L,H,M,S,Ms,Ke,E,O⟩,R)=some q:=by grind
        obtain⟨q,q1,q2⟩:=hq;have hmm:∃m:Bool,decide ((Is.length:Int)=(Ms.length:Int))=true->(dK (plain,Ms,(Ms.length:Int),0,ts,5,B,I,Sx,ID,Ks,Is,R)=some (if m=true then .inr ()else .inl false)/\bT (plain,0,ts,⟨5,B,I,Sx,ID,Ks,Is,R⟩,5,N,L,H,M,S,Ms,Ke,E,O)=some (if m=true then .inr ()else .inl false)):=by
         cases hA:decide ((Is.length:Int)=(Ms.length:Int))with
         | false=>exact⟨true,fun h=>by cases h⟩
         | true=>
          rcases hps hA with⟨a,b⟩ | ⟨a,b⟩
          . simp_all
          simp_all
        obtain⟨m,hm'⟩:=hmm;refine⟨(decide ((Is.length:Int)=(Ms.length:Int))) && !(bif plain then decide (0 < (R.length:Int))else false) && q && m,?_,?_⟩
        . show(if(bif (!(decide ((Is.length:Int)=(Ms.length:Int))))then true else bif plain then decide (0 < (R.length:Int))else false)=true then some false else cX (plain,R,(R.length:Int),0,ts,⟨5,B,I,Sx,ID,Ks,Is,R⟩,5,N,L,H,M,S,Ms,Ke,E,O) >>=_)=_
          grind
        . exact k5r (decide ((Is.length:Int)=(Ms.length:Int))) (bif plain then decide (0 < (R.length:Int))else false) q m q2 (fun hA=>(hm' hA).2)
       ·
        obtain⟨r,r1,r2,hf⟩:=eu (t:=⟨6,N,L,H,M,S,Ms,Ke,E,O⟩) ID hm;have hid:∀b,b=false->ce (ID,b)=some (bif decide (1<=ID)then decide (ID<=1000)else false):=by
         intro b hb;subst hb;rfl
        have hX:∃f:Bool,(bif decide ((Is.length:Int)=1)then decide ((R.length:Int)=0)else false)=true->(cA ((⟨ts⟩:az),(Ms.getD r.1.toNat ag).Type_,Is.getD (0:Int).toNat af,plain)=some f/\bW ((⟨ts⟩:az),(Ms.getD r.1.toNat ag).Type_,Is.getD (0:Int).toNat af,plain)=some f):=by
         by_cases h1':Is.length=1
         . obtain⟨f,f1,f2⟩:=ihi (Is.getD 0 af) (aB (by omega:0 < Is.length) af) (Ms.getD r.1.toNat ag).Type_ plain
           grind
         grind
        obtain⟨f,hfX⟩:=hX;have hidx:r.2=true->(bif decide ((Is.length:Int)=1)then decide ((R.length:Int)=0)else false)=true->inR r.1 Ms.length=true/\inR 0 Is.length=true:=by
         intro h6 hc';constructor
         . rcases hf with⟨k,k1,_,_,rfl⟩ | ⟨_,rfl⟩
           . exact au k1
           . cases h6
         . by_cases h1':Is.length=1
           . exact au (k:=0) (by omega)
           grind
        have hR0:decide ((R.length:Int)=1)=true->inR 0 R.length=true:=by
         intro h;have:=of_decide_eq_true h;exact au (k:=0) (by omega)
        obtain⟨ri,rk⟩:=r;refine⟨if rk=true then(bif decide ((Is.length:Int)=1)then decide ((R.length:Int)=0)else false) && f else(bif O then(!plain)else false) && (bif decide (1<=ID)then decide (ID<=1000)else false) && decide ((Is.length:Int)=0) && decide ((R.length:Int)=1) && decide ((R.getD (0:Int).toNat aC).ID=ID),?_,?_⟩
        . show(bG (⟨6,N,L,H,M,S,Ms,Ke,E,O⟩,ID) >>=_)=_;rw[r1];cases rk with
          | true=>exact k6k _ (inR ri Ms.length) (inR 0 Is.length) f (fun h=>(hfX h).1) (hidx rfl)
          | false=>exact k6u (bif O then(!plain)else false) (bif decide (1<=ID)then decide (ID<=1000)else false) (decide ((Is.length:Int)=0)) (decide ((R.length:Int)=1)) (inR 0 R.length) (decide ((R.getD (0:Int).toNat aC).ID=ID)) hR0
        . show(if(bif (bif false then true else(!true))then true else(bif plain then decide (0 < (R.length:Int))else false))=true then some false else cD (⟨6,N,L,H,M,S,Ms,Ke,E,O⟩,ID) >>=_)=_;rw[r2];cases hb0:(bif plain then decide (0 < (R.length:Int))else false)with
          | true=>
           have hpl:plain=true:=by grind
           subst hpl;have hRl:decide ((R.length:Int)=0)=false:=by grind
           grind
          | false=>
           cases rk with
           | true=>exact k6k _ (inR ri Ms.length) (inR 0 Is.length) f (fun h=>(hfX h).2) (hidx rfl)
           | false=>exact k6u (bif O then(!plain)else false) (bif decide (1<=ID)then decide (ID<=1000)else false) (decide ((Is.length:Int)=0)) (decide ((R.length:Int)=1)) (inR 0 R.length) (decide ((R.getD (0:Int).toNat aC).ID=ID)) hR0
       . obtain rfl:R=[]:=p3' (by decide) (by decide);obtain⟨r,r1,r2⟩:=hitems E plain;cases plain
         . exact⟨_,k7 r1 _,k7 r2 _⟩
         . exact⟨_,k7 r1 _,k7 r2 _⟩
       . obtain rfl:R=[]:=p3' (by decide) (by decide);obtain⟨k,k1,k2⟩:=hkeys Ke plain;obtain⟨i,i1,i2⟩:=hitems E plain;have hks:=Iu (ts:=ts) (t:=⟨8,N,L,H,M,S,Ms,Ke,E,O⟩) (v:=⟨8,B,I,Sx,ID,Ks,Is,[]⟩) (aQ h1) hk plain
         obtain⟨q,qa,qb⟩:∃q:Bool,cH (plain,1,ts,⟨8,B,I,Sx,ID,Ks,Is,[]⟩,8,N,L,H,M,S,Ms,Ke,E,O)=some (if q=true then .inr (plain,ts,⟨8,B,I,Sx,ID,Ks,Is,[]⟩,8,N,L,H,M,S,Ms,Ke,E,O)else .inl false)/\bF (1,⟨8,B,I,Sx,ID,Ks,Is,[]⟩)=some (if q=true then .inr ()else .inl false):=by
          rcases hks with⟨a,b⟩ | ⟨a,b⟩
          . simp_all
          simp_all
         refine⟨!(bif decide (M < (Ks.length:Int))then true else(!(decide ((Is.length:Int)=(Ks.length:Int))))) && k && q && i,?_,?_⟩
         . show(some (bif decide (M < (Ks.length:Int))then true else(!(decide ((Is.length:Int)=(Ks.length:Int))))) >>=fun t270=>(if(!t270)=true then gH ((⟨ts⟩:az),Ke,Ks,plain)else some false) >>=fun r_11=>if(bif t270 then true else(!r_11))=true then some false else cH (plain,1,ts,⟨8,B,I,Sx,ID,Ks,Is,[]⟩,8,N,L,H,M,S,Ms,Ke,E,O) >>=_)=_
           grind
         . cases plain
           . exact k8r (bif decide (M < (Ks.length:Int))then true else(!(decide ((Is.length:Int)=(Ks.length:Int))))) k2 i2 qb
           . exact k8r (bif decide (M < (Ks.length:Int))then true else(!(decide ((Is.length:Int)=(Ks.length:Int))))) k2 i2 qb
       . obtain rfl:R=[]:=p3' (by decide) (by decide);obtain⟨r,r1,r2⟩:=hitems E plain;cases plain
         . exact⟨_,k7 r1 _,k7 r2 _⟩
         . exact⟨_,k7 r1 _,k7 r2 _⟩
    . exact⟨false,by simp[hkd],by simp[hkd]⟩
theorem jY{U:Uni}{t:Ty}{l:List (t.den U.D)}(h:WF U ⟨.slice t,l⟩):l.length<=reachBytes/\l.length*t.bytes U<=reachBytes/\∀x,x∈l->∀c,c∈t.row U x->WF U c:=by cases h with | slice t l h1 h2 h3=>exact⟨h1,h2,h3⟩
theorem Hn(s:az):(⟨s.Types⟩:az)=s:=by cases s;rfl
def vbig(n:Nat):List UInt8:=if n=0 then[]else vbig (n / 256)++[UInt8.ofNat (n % 256)]
termination_by n
decreasing_by omega
theorem yE{α:Type}:∀(l:List α) (k:Nat) (x:α),k < l.length->(l.set k x).drop k=x::l.drop (k+1)
 | [],k,x,h=>by simp at h
 | a::l,0,x,h=>by simp
 | a::l,k+1,x,h=>by simp[yE l k x (by simpa using h)]
theorem shrI8(n:Nat):shrI .u64 (n:Int) 8=((n / 256:Nat):Int):=by
 unfold shrI;have:((2:Int) ^ min (8:Int).toNat IntKind.u64.bits)=256:=by decide
 grind
theorem Bl :∀(i n:Nat) (b:List Int),n < 256 ^ i->i<=8->b.length=8->∃(i':Nat) (b':List Int),iw ((n:Int),(i:Int),b)=some ((i':Int),b')/\i'<=8/\b'.length=8/\strOf (b'.drop i')=vbig n++strOf (b.drop i)
 | i,n,b,hn,hi,hb=>by
  rw[iw];by_cases h0:n=0
  . subst h0;rw[if_neg (by simp)];refine⟨i,b,rfl,hi,hb,?_⟩;rw[vbig,if_pos rfl];rfl
  . rw[if_pos (by simp;omega)]
    match i,hn,hi with
    | 0,hn,hi=>simp at hn;omega
    | i+1,hn,hi=>
     have hs:subI .i64 ((i+1:Nat):Int) 1=(i:Int):=by rw[cb (by omega) (by omega)];omega
     simp only[oZ4,oZ3];rw[hs,if_pos (au (by omega)),if_pos (by simp[hb];omega),shrI8,wrp8,av];have hlt:n / 256 < 256 ^ i:=by omega
     obtain⟨i',b',h1,h2,h3,h4⟩:=Bl i (n / 256) (b.set i ((n % 256:Nat):Int)) hlt (by omega) (by simp[hb]);refine⟨i',b',h1,h2,h3,?_⟩;rw[h4,yE _ _ _ (by omega),Hf]
     conv=>rhs;rw[vbig,if_neg h0]
     grind
theorem Bm{n:Nat}(hn:n < 18446744073709551616):lV (n:Int)=some (vbig n):=by
 have e:(256:Nat) ^ 8=18446744073709551616:=by decide
 obtain⟨i',b',h1,h2,h3,h4⟩:=Bl 8 n [0,0,0,0,0,0,0,0] (by rw[e];exact hn) (by omega) rfl;have h1':iw ((n:Int),8,[0,0,0,0,0,0,0,0])=some ((i':Int),b'):=h1;rw[lV,h1'];simp only[oZ4,oZ3,av];have hsl:slR (i':Int) 8 8=true:=dB (b:=8) (by omega) (by omega);have h8:(8:Int).toNat=8:=rfl
 rw[if_pos hsl,h8,if_pos (by simp[subR,h3];omega)];rw[List.take_of_length_le (by simp[h3]),h4];simp[strOf]
theorem jZ :∀(f n:Nat),n < 256 ^ f->(vbig n).length<=f
 | 0,n,h=>by
  have:n=0:=by simpa using h
  subst this;rw[vbig,if_pos rfl];simp
 | f+1,n,h=>by
  rw[vbig];split
  . simp
  . have:=jZ f (n / 256) (by omega);simp;omega
theorem xQ :∀(f n:Nat) (out:List UInt8),n < 256 ^ f->n < 18446744073709551616->out.length+f<=1000->jv ((n:Int),out)=some (vbig n++out)
 | f,n,out,hn,h64,ho=>by
  rw[jv];by_cases h0:n=0
  . subst h0;rw[if_neg (by simp),vbig,if_pos rfl];rfl
  . rw[if_pos (by simp;omega)]
    match f,hn,ho with
    | 0,hn,ho=>simp at hn;omega
    | f+1,hn,ho=>
     have hrem:remI (n:Int) 256=((n % 256:Nat):Int):=remIn (b:=256);have hq:quoI .u64 (n:Int) 256=((n / 256:Nat):Int):=by
      unfold quoI;have e:(n:Int).tdiv 256=((n / 256:Nat):Int):=by rw[Int.tdiv_eq_ediv_of_nonneg (by omega)];omega
      rw[e];exact wrapu (by omega) (by omega)
     have hone:strOf [((n % 256 % 256:Nat):Int)]=[UInt8.ofNat (n % 256)]:=by
      have:n % 256 % 256=n % 256:=by omega
      rw[this];rfl
     simp only[oZ4,oZ3];rw[hrem,hq,wrp8,hone,if_pos (bn (by simp;omega))];have hlt:n / 256 < 256 ^ f:=by omega
     rw[xQ f (n / 256) _ hlt (by omega) (by simp;omega)]
     conv=>rhs;rw[vbig,if_neg h0]
     grind
theorem xR{n:Nat}(hn:n < 18446744073709551616):lq (n:Int)=some (vbig n):=by
 have e:(256:Nat) ^ 8=18446744073709551616:=by decide
 rw[lq,xQ 8 n [] (by rw[e];exact hn) hn (by simp)];simp
end
section
open Go Go.Proofs.YtandcioiaooocaaGreat.Shv Go.Sort
set_option maxRecDepth 100000
section
variable {α:Type}
theorem yF{β γ:Type}{f g:β->List γ}:∀{l:List β},(∀x,x∈l->f x=g x)->l.flatMap f=l.flatMap g
 | [],_=>rfl
 | x::l,h=>by
  simp only[List.flatMap_cons];rw[h x (.head _),yF fun y hy=>h y (.tail _ hy)]
theorem wW(x:α)(n:Nat)(f:Nat->List α):∀(ks:List Nat),ks.Nodup->n∈ks->(ks.flatMap fun i=>if n=i then x::f i else f i).Perm (x::ks.flatMap f)
 | [],_,h=>by cases h
 | k::ks,hn,h=>by
  rw[List.nodup_cons]at hn;simp only[List.flatMap_cons];by_cases e:n=k
  . rw[if_pos e];have:(ks.flatMap fun i=>if n=i then x::f i else f i)=ks.flatMap f:=yF fun y hy=>by grind
    simp_all
  . rw[if_neg e];have hm:n∈ks:=(List.mem_cons.1 h).resolve_left e;refine((wW x n f ks hn.2 hm).append_left (f k)).trans ?_;simp_all
theorem wX(key:α->Nat)(ks:List Nat)(hn:ks.Nodup):∀l:List α,(∀x,x∈l->key x∈ks)->(ks.flatMap fun i=>l.filter fun x=>decide (key x=i)).Perm l
 | [],_=>by simp
 | x::l,h=>by
  have e:(fun i=>(x::l).filter fun y=>decide (key y=i))=fun i=>if key x=i then x::(l.filter fun y=>decide (key y=i))else l.filter fun y=>decide (key y=i):=by grind
  rw[e];exact(wW x (key x) _ ks hn (h x (.head _))).trans ((wX key ks hn l fun y hy=>h y (.tail _ hy)).cons x)
theorem FR(key:α->Nat)(a n:Nat)(l:List α):((List.range' a n).flatMap fun i=>l.filter fun x=>decide (key x=i)).Pairwise (fun x y=>decide (key y < key x)=false):=by
 rw[List.pairwise_flatMap];constructor
 . intro i hi;rw[List.pairwise_iff_forall_sublist]
   grind
 . refine(List.pairwise_lt_range' (s:=a) (n:=n)).imp ?_
   grind
theorem xS{α:Type}[Inhabited α]{lt:α->α->Bool}:∀{l:List α},l.Pairwise (fun x y=>lt x y=true\/lt y x=true)->di lt l=true
 | [],_=>rfl
 | x::l,h=>by
  rw[List.pairwise_cons]at h;simp only[di,Bool.and_eq_true,List.all_eq_true,Bool.or_eq_true];exact⟨h.1,xS h.2⟩
end
mutual
def wt :ab->Nat
 | ⟨_,_,_,s,_,ks,is,r⟩=>10+s.length+(r.map fun x=>x.Data.length+1).sum+wts ks+wts is
def wts :List ab->Nat
 | []=>0
 | v::l=>wt v+wts l
end
structure Fd where
 id:Nat
 c:Bool
 p:List UInt8
instance:Inhabited Fd:=⟨⟨0,false,[]⟩⟩
def ltF(a b:Fd):Bool:=decide (a.id < b.id)
def Fd.text(f:Fd):List UInt8:=bz f.id f.c f.p
def ilv :List (List UInt8)->List (List UInt8)->List UInt8
 | k::ks,v::vs=>aW k++(aW v++ilv ks vs)
 | _,_=>[]
def findM(l:List aj)(id:Int):Option aj:=l.find? fun m=>decide (m.ID=id)
open Classical in
noncomputable def om (m:aj) (v:ab):Bool:=m.HasDefault && decide (m.Default=v)
def rawF(r:aG):Fd:=⟨r.ID.toNat,false,r.Data⟩
mutual
noncomputable def vpay (ts:List ae) (t:Int):ab->List UInt8
 | ⟨_,b,i,s,id,ks,is,r⟩=>
  let x:=ts.getD t.toNat ap
  if x.Kind=1 then(if b=true then[1]else[])
  else if x.Kind=2 then vbig (zig i).toNat
  else if x.Kind=3 then s
  else if x.Kind=4 then vbig id.toNat
  else if x.Kind=5 then(isoB ltF (vents ts x.Members is++r.map rawF)).flatMap Fd.text
  else if x.Kind=6 then vput id.toNat++(match findM x.Members id with
   | some m=>(vpays ts m.Type_ is).headD []
   | none=>(r.map aG.Data).headD [])
  else if x.Kind=7 then(vpays ts x.Elem is).flatMap aW
  else if x.Kind=8 then ilv (vpays ts x.Key ks) (vpays ts x.Elem is)
  else match vpays ts x.Elem is with
   | []=>[]
   | p::_=>1::p
noncomputable def vpays (ts:List ae) (t:Int):List ab->List (List UInt8)
 | []=>[]
 | v::l=>vpay ts t v::vpays ts t l
noncomputable def vents (ts:List ae):List aj->List ab->List Fd
 | m::ms,v::l=>if om m v=true then vents ts ms l else⟨m.ID.toNat,m.Critical,vpay ts m.Type_ v⟩::vents ts ms l
 | _,_=>[]
end
mutual
noncomputable def vlev (ts:List ae) (t:Int):ab->Nat
 | ⟨_,_,_,_,id,ks,is,_⟩=>
  let x:=ts.getD t.toNat ap
  1+max (if ks=[]then 0 else 1) (if x.Kind=5 then vlevm ts x.Members is
   else if x.Kind=6 then(match findM x.Members id with
    | some m=>vlevs ts m.Type_ is
    | none=>0)
   else vlevs ts x.Elem is)
noncomputable def vlevs (ts:List ae) (t:Int):List ab->Nat
 | []=>0
 | v::l=>max (vlev ts t v) (vlevs ts t l)
noncomputable def vlevm (ts:List ae):List aj->List ab->Nat
 | m::ms,v::l=>if om m v=true then vlevm ts ms l else max (vlev ts m.Type_ v) (vlevm ts ms l)
 | _,_=>0
end
def I1000(n:Int):Prop:=1<=n/\n<=1000
def dS(ms:List aj)(r:List aG):Prop:=r.Pairwise (fun a b=>a.ID < b.ID)/\∀x,x∈r->I1000 x.ID/\findM ms x.ID=none
def vcmp(a b:ab):Int:=(fq (a,b)).getD 0
def cr(ks:List ab):Prop:=∀i,i+1 < ks.length->vcmp (ks.getD i af) (ks.getD (i+1) af) < 0
mutual
def vfit(ts:List ae)(pl:Bool)(t:Int):ab->Prop
 | ⟨k,b,i,s,id,ks,is,r⟩=>
  let x:=ts.getD t.toNat ap
  (0<=t/\t < ts.length/\k=x.Kind/\(pl=true->r=[]))/\
  (k=1/\i=0/\s=[]/\id=0/\ks=[]/\is=[]/\r=[]\/
  k=2/\b=false/\s=[]/\id=0/\ks=[]/\is=[]/\r=[]/\x.Low<=i/\i<=x.High\/
  k=3/\b=false/\i=0/\id=0/\ks=[]/\is=[]/\r=[]/\(s.length:Int)<=x.Max\/
  k=4/\b=false/\i=0/\s=[]/\ks=[]/\is=[]/\r=[]/\((∃y,y∈x.Symbols/\y.ID=id)\/x.Open=true/\pl=false/\I1000 id)\/
  k=5/\b=false/\i=0/\s=[]/\id=0/\ks=[]/\dS x.Members r/\vfitm ts pl x.Members is\/
  k=6/\b=false/\i=0/\s=[]/\ks=[]/\(match findM x.Members id with
   | some m=>r=[]/\is.length=1/\vfits ts pl m.Type_ is
   | none=>x.Open=true/\pl=false/\I1000 id/\is=[]/\∃d,r=[⟨id,d⟩])\/
  k=7/\b=false/\i=0/\s=[]/\id=0/\ks=[]/\r=[]/\(is.length:Int)<=x.Max/\vfits ts pl x.Elem is\/
  k=8/\b=false/\i=0/\s=[]/\id=0/\r=[]/\(ks.length:Int)<=x.Max/\is.length=ks.length/\vfits ts pl x.Key ks/\vfits ts pl x.Elem is/\cr ks\/
  k=9/\b=false/\i=0/\s=[]/\id=0/\ks=[]/\r=[]/\is.length<=1/\vfits ts pl x.Elem is)
def vfits(ts:List ae)(pl:Bool)(t:Int):List ab->Prop
 | []=>True
 | v::l=>vfit ts pl t v/\vfits ts pl t l
def vfitm(ts:List ae)(pl:Bool):List aj->List ab->Prop
 | m::ms,v::l=>vfit ts pl m.Type_ v/\vfitm ts pl ms l
 | [],[]=>True
 | _,_=>False
end
theorem wt_eq(v:ab):wt v=10+v.Str.length+(v.Rest.map fun x=>x.Data.length+1).sum+wts v.Keys+wts v.Items:=by cases v;rw[wt]
theorem ci(v:ab)(l:List ab):wts (v::l)=wt v+wts l:=by rw[wts]
theorem ck :wts []=0:=by rw[wts]
theorem bp :∀{l:List ab} {x:ab},x∈l->wt x<=wts l
 | y::l,x,h=>by
  rw[ci];rcases List.mem_cons.1 h with rfl | h
  . omega
  . have:=bp h;omega
theorem wY{p:List UInt8}(h:p.length < 1152921504606846976):(aW p).length<=p.length+10:=by
 have:=cZ (n:=p.length) (by omega);unfold aW;simp;omega
theorem yG{f:Fd}(h:f.p.length < 1152921504606846976)(hi:f.id<=9223372036854775807):f.text.length<=f.p.length+20:=by
 have:=wY h;have:=cZ (n:=2*f.id+(if f.c then 1 else 0)) (by split <;> omega);unfold Fd.text bz;simp only[List.length_append];omega
theorem uR{α β:Type}{f:α->List β}{a b:List α}(h:a.Perm b):(a.flatMap f).length=(b.flatMap f).length:=(h.flatMap_right f).length_eq
theorem pT{n:Int}(h:I64 n):(zig n).toNat < 18446744073709551616:=by
 unfold zig I64 at*;split <;> omega
section
variable {ts:List ae}
def LenOk(ts:List ae)(v:ab):Prop:=∀t,(vpay ts t v).length+20<=21*wt v
theorem r7 :∀{l:List ab} {t:Int},wts l<=1099511627776->(∀x,x∈l->LenOk ts x)->((vpays ts t l).flatMap aW).length<=21*wts l
 | [],t,_,_=>by rw[vpays];simp
 | v::l,t,hw,h=>by
  rw[vpays,List.flatMap_cons,List.length_append];rw[ci]at hw ⊢;have h1:=h v (.head _) t;have h2:=r7 (t:=t) (by omega) fun x hx=>h x (.tail _ hx)
  have h3:=wY (p:=vpay ts t v) (by omega);omega
theorem gD :∀{l:List ab} {t:Int},(vpays ts t l).length=l.length
 | [],t=>by rw[vpays];rfl
 | v::l,t=>by rw[vpays,List.length_cons,List.length_cons,gD]
theorem r8 :∀{l:List ab} {t:Int},vpays ts t l=l.map (vpay ts t)
 | [],t=>by rw[vpays];rfl
 | v::l,t=>by rw[vpays,List.map,r8]
theorem sW :∀(a b:List (List UInt8)),(ilv a b).length<=(a.flatMap aW).length+(b.flatMap aW).length
 | [],b=>by simp[ilv]
 | k::ks,[]=>by simp[ilv]
 | k::ks,v::vs=>by
  have:=sW ks vs;simp only[ilv,List.flatMap_cons,List.length_append];omega
theorem xT :∀{ms:List aj} {l:List ab},wts l<=1099511627776->(∀m,m∈ms->m.ID<=1000)->(∀x,x∈l->LenOk ts x)->((vents ts ms l).flatMap Fd.text).length<=21*wts l
 | [],l,_,_,_=>by rw[vents] <;> simp
 | m::ms,[],_,_,_=>by rw[vents] <;> simp
 | m::ms,v::l,hw,hm,h=>by
  rw[ci]at hw ⊢;rw[vents];have h1:=h v (.head _) m.Type_;have h2:=xT (ms:=ms) (l:=l) (by omega) (fun x hx=>hm x (.tail _ hx)) fun x hx=>h x (.tail _ hx)
  have h4:=hm m (.head _);split
  . omega
  . rw[List.flatMap_cons,List.length_append];have h3:=yG (f:=⟨m.ID.toNat,m.Critical,vpay ts m.Type_ v⟩) (by show(vpay ts m.Type_ v).length < _;omega) (by show m.ID.toNat<=_;omega)
    grind
theorem yH :∀{l:List aG},(∀x,x∈l->x.Data.length<=reachBytes/\x.ID<=9223372036854775807)->True->((l.map rawF).flatMap Fd.text).length<=21*(l.map fun x=>x.Data.length+1).sum
 | [],_,_=>by simp
 | r::l,h,_=>by
  have h1:=h r (.head _);have h2:=yH (l:=l) (fun x hx=>h x (.tail _ hx)) trivial;unfold reachBytes at h1;have h3:=yG (f:=rawF r) (by show r.Data.length < _;omega) (by show r.ID.toNat<=_;omega);have h3':(rawF r).text.length<=r.Data.length+20:=h3
  grind
def MOk(ts:List ae):Prop:=∀x,x∈ts->∀m,m∈x.Members->m.ID<=1000
theorem Gj{α:Type}(l:List α)(i:Nat)(d:α):l.getD i d∈l\/l.getD i d=d:=by grind
theorem xU{l:List (List UInt8)}{n:Nat}(h:∀x,x∈l->x.length<=n):(l.headD []).length<=n:=by
 cases l with
 | nil=>simp
 | cons x l=>exact h x (.head _)
theorem zQ :∀{l:List Nat} {n:Nat},n∈l->n<=l.sum
 | a::l,n,h=>by
  rw[List.sum_cons];rcases List.mem_cons.1 h with rfl | h
  . omega
  . have:=zQ h;omega
theorem KB(hM:MOk ts){v:ab}(h:OkV v):wt v<=1099511627776->LenOk ts v:=by
 induction h with
 | mk v hs h1 h2 h3 hk hi hr n1 n2 n3 n4 ihk ihi=>
  intro hw t;have hwt:=wt_eq v;have LK:∀x,x∈v.Keys->LenOk ts x:=fun x hx=>ihk x hx (by have:=bp hx;omega)
  have LI:∀x,x∈v.Items->LenOk ts x:=fun x hx=>ihi x hx (by have:=bp hx;omega)
  have PK:=fun t=>r7 (t:=t) (l:=v.Keys) (by omega) LK
  have PI:=fun t=>r7 (t:=t) (l:=v.Items) (by omega) LI
  have hx:∀m,m∈(ts.getD t.toNat ap).Members->m.ID<=1000:=by
   rcases Gj ts t.toNat ap with h | h
   . exact hM _ h
   . rw[h];intro m hm;cases hm
  have QI:∀t,((vpays ts t v.Items).headD []).length+20<=21*wts v.Items+20:=fun t=>by
   have:((vpays ts t v.Items).headD []).length<=21*wts v.Items:=xU fun p hp=>by
    rw[r8]at hp;obtain⟨x,hx,rfl⟩:=List.mem_map.1 hp;have:=LI x hx t;have:=bp hx;omega
   omega
  have RI:((v.Rest.map rawF).flatMap Fd.text).length<=21*(v.Rest.map fun x=>x.Data.length+1).sum:=yH (fun x hx=>⟨hr x hx,(n4 x hx).2⟩) trivial;have EI:=xT (ts:=ts) (ms:=(ts.getD t.toNat ap).Members) (l:=v.Items) (by omega) hx LI;have DI:((v.Rest.map aG.Data).headD []).length<=(v.Rest.map fun x=>x.Data.length+1).sum:=xU fun p hp=>by
   obtain⟨x,hx,rfl⟩:=List.mem_map.1 hp;have:x.Data.length+1<=(v.Rest.map fun x=>x.Data.length+1).sum:=zQ (List.mem_map.2 ⟨x,hx,rfl⟩);omega
  obtain⟨K,b,i,s,id,ks,is,r⟩:=v;simp only at*;rw[vpay];have hz:=jZ 8 _ (pT n2);have hid:id.toNat < 18446744073709551616:=by omega
  have hb:=jZ 8 _ hid;have hp:=cZ hid;generalize ts.getD t.toNat ap=x at*;split
  . grind
  . split
    . omega
    . split
      . omega
      . split
        . omega
        . split
          . rw[uR (iL _ _),List.flatMap_append,List.length_append];omega
          . split
            . grind
            . split
              . grind
              . split
                . have:=sW (vpays ts x.Key ks) (vpays ts x.Elem is)
                  grind
                grind
end
section
variable (ts:List ae)
mutual
theorem vlev_le :∀(v:ab) (t:Int),vlev ts t v<=wt v
 | ⟨_,_,_,_,id,ks,is,_⟩,t=>by
  rw[vlev,wt];have h1:=vlevs_le is;have h2:=vlevm_le is
  grind
theorem vlevs_le :∀(l:List ab) (t:Int),vlevs ts t l<=wts l
 | [],t=>by rw[vlevs];omega
 | v::l,t=>by
  rw[vlevs,wts];have:=vlev_le v t;have:=vlevs_le l t;omega
theorem vlevm_le :∀(l:List ab) (ms:List aj),vlevm ts ms l<=wts l
 | [], ms => by rw [vlevm]; · omega
                . intros;simp_all
 | v :: l, [] => by rw [vlevm]; · omega
                    . intros;simp_all
 | v::l,m::ms=>by
  rw[vlevm,wts];have:=vlev_le v m.Type_;have:=vlevm_le l ms
  grind
end
end
theorem NN(v:ab):10<=wt v:=by rw[wt_eq];omega
section
variable {ts:List ae}
theorem jQ :∀{ms:List aj} {l:List ab} {x:Fd},x∈vents ts ms l->∃m,m∈ms/\x.id=m.ID.toNat
 | [],l,x,h=>by
  rw[vents]at h
  . cases h
  grind
 | m::ms,[],x,h=>by
  rw[vents]at h
  . cases h
  grind
 | m::ms,v::l,x,h=>by
  rw[vents]at h;split at h
  . obtain⟨m',h1,h2⟩:=jQ h
    grind
  . rcases List.mem_cons.1 h with rfl | h
    . grind
    . obtain⟨m',h1,h2⟩:=jQ h
      grind
theorem wZ{ms:List aj}{l:List ab}{n:Nat}(h:∀m,m∈ms->m.ID.toNat≠n):((vents ts ms l).filter fun x=>decide (x.id=n))=[]:=by
 rw[List.filter_eq_nil_iff];intro x hx;obtain⟨m,h1,h2⟩:=jQ hx
 grind
theorem v7 : ∀ {ms : List aj} {l : List ab} {n j : Nat}, ms.Pairwise (fun a b => a.ID.toNat ≠ b.ID.toNat) -> l.length = ms.length -> j < ms.length -> (ms.getD j ag).ID.toNat = n ->
 ((vents ts ms l).filter fun x=>decide (x.id=n))=if om (ms.getD j ag) (l.getD j af)=true then[]else[⟨n,(ms.getD j ag).Critical,vpay ts (ms.getD j ag).Type_ (l.getD j af)⟩]
 | [],l,n,j,_,_,hj,_=>by cases hj
 | m::ms,[],n,j,_,hl,_,_=>by cases hl
 | m::ms,v::l,n,0,hd,hl,hj,he=>by
  rw[List.pairwise_cons]at hd;simp only[List.getD_cons_zero]at he ⊢;have hn:=wZ (ts:=ts) (l:=l) (ms:=ms) (n:=n) fun x hx=>by have:=hd.1 x hx;omega
  rw[vents]
  grind
 | m::ms,v::l,n,j+1,hd,hl,hj,he=>by
  rw[List.pairwise_cons]at hd;simp only[List.getD_cons_succ]at he ⊢;have hj':j < ms.length:=by simpa using hj
  have hm:ms.getD j ag∈ms:=by grind
  have hne:=hd.1 _ hm;have ih:=v7 (l:=l) hd.2 (by simpa using hl) hj' he;rw[vents]
  grind
theorem Gk(l:List aG)(n:Nat)(h:∀x,x∈l->0<=x.ID):((l.map rawF).filter fun x=>decide (x.id=n))=(l.filter fun x=>decide (x.ID=(n:Int))).map rawF:=by
 rw[List.filter_map]
 congr 1
 apply List.filter_congr;intro x hx;have:=h x hx;show decide (x.ID.toNat=n)=_
 grind
noncomputable def dj (ts:List ae) (ms:List aj) (l:List ab) (r:List aG):List Fd:=vents ts ms l++r.map rawF
def MAsc(ms:List aj):Prop:=ms.Pairwise (fun a b=>a.ID < b.ID)/\∀m,m∈ms->I1000 m.ID
theorem zR{ms:List aj}(h:MAsc ms):ms.Pairwise (fun a b=>a.ID.toNat≠b.ID.toNat):=by
 refine h.1.imp_of_mem fun {a b} ha hb hlt=>?_
 have:=h.2 a ha;have:=h.2 b hb;unfold I1000 at*;omega
theorem r9 :∀{ms:List aj} {l:List ab},ms.Pairwise (fun a b=>a.ID.toNat≠b.ID.toNat)->(vents ts ms l).Pairwise (fun a b=>a.id≠b.id)
 | [],l,_=>by
  rw[vents]
  . exact .nil
  grind
 | m::ms,[],_=>by
  rw[vents]
  . exact .nil
  grind
 | m::ms,v::l,h=>by
  rw[List.pairwise_cons]at h;rw[vents];split
  . exact r9 h.2
  . rw[List.pairwise_cons];refine⟨fun x hx=>?_,r9 h.2⟩;obtain⟨m',h1,h2⟩:=jQ hx
    grind
theorem iI{ms:List aj}{id:Int}(h:findM ms id=none):∀m,m∈ms->m.ID≠id:=by
 unfold findM at h
 grind
theorem qO{ms:List aj}{l:List ab}{r:List aG}(h:MAsc ms)(hr:dS ms r):di ltF (dj ts ms l r)=true:=by
 apply xS;have key:(dj ts ms l r).Pairwise (fun a b=>a.id≠b.id):=by
  unfold dj;rw[List.pairwise_append];refine⟨r9 (zR h),?_,?_⟩
  . rw[List.pairwise_map];refine hr.1.imp_of_mem fun {a b} ha hb hlt=>?_
    have:=(hr.2 a ha).1;have:=(hr.2 b hb).1;show a.ID.toNat≠b.ID.toNat;unfold I1000 at*;omega
  . intro x hx y hy;obtain⟨m,h1,h2⟩:=jQ hx;obtain⟨q,h3,rfl⟩:=List.mem_map.1 hy;have h4:=iI (hr.2 q h3).2 m h1;have:=h.2 m h1;have:=(hr.2 q h3).1;show x.id≠q.ID.toNat;unfold I1000 at*;omega
 refine key.imp fun {a b} hne=>?_
 simp only[ltF,decide_eq_true_eq];omega
theorem vh{ms:List aj}{l:List ab}{r:List aG}(h:MAsc ms)(hr:dS ms r){x:Fd}(hx:x∈dj ts ms l r):1<=x.id/\x.id<=1000:=by
 rcases List.mem_append.1 hx with hx | hx
 . obtain⟨m,h1,h2⟩:=jQ hx;have:=h.2 m h1;unfold I1000 at*;omega
 . obtain⟨q,h3,rfl⟩:=List.mem_map.1 hx;have:=(hr.2 q h3).1;unfold I1000 at*;show 1<=q.ID.toNat/\q.ID.toNat<=1000;omega
theorem zS :SWO ltF:=by refine⟨fun x=>?_,fun x y z h1 h2=>?_,fun x y z h1 h2=>?_⟩ <;> simp[ltF]at* <;> omega
theorem Fb {l : List Fd} (hp : di ltF l = true) (hr : ∀ x, x ∈ l -> 1 <= x.id /\ x.id <= 1000):
 isoB ltF l=(List.range' 1 1000).flatMap fun n=>l.filter fun x=>decide (x.id=n):=by
 refine vV hp (iL _ _) (wX Fd.id _ List.nodup_range' l fun x hx=>?_) (ou zS l) (FR Fd.id 1 1000 l);have:=hr x hx;rw[List.mem_range'_1];omega
end
section
variable {ts:List ae} {pl:Bool}
theorem aU :∀{l:List ab} {t:Int},vfits ts pl t l↔∀x,x∈l->vfit ts pl t x
 | [],t=>by rw[vfits];simp
 | v::l,t=>by
  rw[vfits,aU]
  grind
theorem dy :∀{ms:List aj} {l:List ab},vfitm ts pl ms l↔l.length=ms.length/\∀i,i < ms.length->vfit ts pl (ms.getD i ag).Type_ (l.getD i af)
 | [],[]=>by
  have:vfitm ts pl [] []=True:=by rw[vfitm]
  grind
 | [],v::l=>by
  have:vfitm ts pl [] (v::l)=False:=by rw[vfitm] <;> (intros;simp_all)
  grind
 | m::ms,[]=>by
  have:vfitm ts pl (m::ms) []=False:=by rw[vfitm] <;> (intros;simp_all)
  grind
 | m::ms,v::l=>by
  rw[vfitm,dy];constructor
  . grind
  . rintro ⟨h1,h2⟩
    exact⟨h2 0 (by simp),by simpa using h1,fun i hi=>h2 (i+1) (by simpa using hi)⟩
end
def SaysP(o:Option Bool)(P:Prop):Prop:=∃r,o=some r/\(r=true↔P)
theorem SaysP.imp{o:Option Bool}{P Q:Prop}(h:SaysP o P)(e:P↔Q):SaysP o Q:=by grind
theorem SaysP.of{b:Bool}{P:Prop}(e:b=true↔P):SaysP (some b) P:=⟨b,rfl,e⟩
theorem SaysP.loop {L : Nat -> Option (Bool ⊕ Unit)} {n : Nat} {p : Nat -> Bool} {g : Unit} {o : Option (Bool ⊕ Unit)} (h0 : o = L 0) (hstep : ∀ i, i < n -> L i = if p i = true then L (i + 1) else some (.inl false)) (hend : L n = some (.inr g)):
 SaysP (o >>=fun o=>match o with | .inl x=>some x | .inr _=>some true) (∀i,i < n->p i=true):=by
 subst h0;rcases scan L n p (.inl false) (.inr g) hstep hend with⟨h1,h2⟩ | ⟨h1,j,h2,h3⟩
 . rw[h1];exact⟨true,rfl,by simpa using h2⟩
 . rw[h1];refine⟨false,rfl,?_⟩;constructor
   . intro h;cases h
   . intro h;have:=h j h2;rw[h3]at this;cases this
theorem pA{α:Type}(f:α->Int)(d:α):∀l:List α,l.Pairwise (fun a b=>f a < f b)↔∀i,i+1 < l.length->f (l.getD i d) < f (l.getD (i+1) d)
 | []=>by simp
 | [a]=>by simp
 | a::b::l=>by
  rw[List.pairwise_cons,pA f d (b::l)];constructor
  . rintro ⟨h1,h2⟩ i hi
    cases i with
    | zero=>exact h1 b (.head _)
    | succ i=>exact h2 i (by simpa using hi)
  . intro h;have h2:∀i,i+1 < (b::l).length->f ((b::l).getD i d) < f ((b::l).getD (i+1) d):=fun i hi=>h (i+1) (by simpa using hi)
    refine⟨fun x hx=>?_,h2⟩;have h0:=h 0 (by simp);simp only[List.getD_cons_zero,List.getD_cons_succ]at h0;have h3:=(pA f d (b::l)).2 h2;rw[List.pairwise_cons]at h3
    grind
section
variable {ts:List ae}
def FitS(ts:List ae)(x:ab):Prop:=∀t pl,SaysP (bW ((⟨ts⟩:az),t,x,pl)) (vfit ts pl t x)
theorem yI{l:List ab}(hl:l.length<=reachBytes)(ih:∀x,x∈l->FitS ts x)(t:Int)(pl:Bool):SaysP (ef ((⟨ts⟩:az),t,l,pl)) (vfits ts pl t l):=by
 have hr:=aQ hl
 let p:Nat->Bool:=fun i=>(bW ((⟨ts⟩:az),t,l.getD i af,pl)).getD false
 have hp:∀i,i < l.length->bW ((⟨ts⟩:az),t,l.getD i af,pl)=some (p i)/\(p i=true↔vfit ts pl t (l.getD i af)):=by
  intro i hi;obtain⟨r,h1,h2⟩:=ih _ (aB hi af) t pl
  grind
 rw[ef];refine(SaysP.loop (L:=fun i=>cE (t,l,pl,(i:Int),ts)) (n:=l.length) (p:=p) (g:=()) rfl (fun i hi=>?_) ?_).imp ?_
 . show cE (t,l,pl,(i:Int),ts)=if p i=true then cE (t,l,pl,((i+1:Nat):Int),ts)else _
   rw[cE,if_pos (by simp;omega),if_pos (au hi)];simp only[ab.aA,av];rw[(hp i hi).1,aD (by omega)]
   grind
 . show cE (t,l,pl,(l.length:Int),ts)=_;rw[cE,if_neg (by simp)]
 . rw[aU];constructor
   . intro h x hx;obtain⟨i,hi,rfl⟩:=List.getElem_of_mem hx
     grind
   grind
theorem jH{l:List aj}{id:Int}{r:Int×Bool}(h:jc l id r):(r.2=true/\∃j:Nat,j < l.length/\r.1=(j:Int)/\findM l id=some (l.getD j ag)/\(l.getD j ag).ID=id)\/(r.2=false/\findM l id=none):=by
 rcases h with⟨j,h1,h2,h3,rfl⟩ | ⟨h1,rfl⟩
 . refine .inl ⟨rfl,j,h1,rfl,?_,h2⟩;unfold findM;rw[List.find?_eq_some_iff_getElem];refine⟨by rw[decide_eq_true_eq];exact h2,j,h1,(bc h1 _).symm,fun k hk=>?_⟩
   grind
 . refine .inr ⟨rfl,?_⟩;unfold findM;rw[List.find?_eq_none];intro m hm;obtain⟨i,hi,rfl⟩:=List.getElem_of_mem hm
   grind
theorem Iw{t:ae}(ht:t.Members.length < 9223372036854775807){l:List aG}(hl:l.length<=reachBytes):SaysP (gq (t,l)) (dS t.Members l):=by
 have hr:=aQ hl;rw[gq]
 let p:Nat->Bool:=fun i=>!((bG (t,(l.getD i aC).ID)).getD (0,false)).2 && (bif decide (1<=(l.getD i aC).ID)then decide ((l.getD i aC).ID<=1000)else false) && (!(decide ((0:Int) < (i:Int))) || !(decide ((l.getD i aC).ID<=(l.getD (subI .i64 (i:Int) 1).toNat aC).ID)))
 refine(SaysP.loop (L:=fun i=>cu (l,(i:Int),t)) (n:=l.length) (p:=p) (g:=()) rfl (fun i hi=>?_) ?_).imp ?_
 . show cu (l,(i:Int),t)=if p i=true then cu (l,((i+1:Nat):Int),t)else _
   obtain⟨r,h1,h2,_⟩:=eu (t:=t) (l.getD i aC).ID ht;have hpi:p i=(!r.2 && (bif decide (1<=(l.getD i aC).ID)then decide ((l.getD i aC).ID<=1000)else false) && (!(decide ((0:Int) < (i:Int))) || !(decide ((l.getD i aC).ID<=(l.getD (subI .i64 (i:Int) 1).toNat aC).ID)))):=by simp only[p,h1,Option.getD_some]
   rw[hpi,cu,if_pos (by simp;omega),if_pos (au hi)];simp only[av];rw[h2,aD (by omega)];have hid:ce ((l.getD i aC).ID,r.2)=some ((!r.2) && (bif decide (1<=(l.getD i aC).ID)then decide ((l.getD i aC).ID<=1000)else false)):=by
    rw[ce]
    grind
   show(if inR (i:Int) l.length=true then ce ((l.getD i aC).ID,r.2) >>=_ else none)=_;rw[if_pos (au hi),hid]
   exact v6 ((!r.2) && (bif decide (1<=(l.getD i aC).ID)then decide ((l.getD i aC).ID<=1000)else false)) (inR (i:Int) l.length) (decide ((0:Int) < (i:Int))) (subI .i64 (i:Int) 1) (fun j=>inR j l.length) (fun j=>decide ((l.getD i aC).ID<=(l.getD j.toNat aC).ID)) _ _ (au hi) (fun hz=>by
    have:0 < i:=by simp at hz;omega
    show inR _ _=true
    rw[gM this (by omega)];exact au (by omega))
 . show cu (l,(l.length:Int),t)=_;rw[cu,if_neg (by simp)]
 . unfold dS;rw[pA (fun a:aG=>a.ID) aC];have key:∀i,i < l.length->(p i=true↔(I1000 (l.getD i aC).ID/\findM t.Members (l.getD i aC).ID=none)/\(i=0\/(l.getD (i - 1) aC).ID < (l.getD i aC).ID)):=by
    intro i hi;obtain⟨r,h1,h2,hf⟩:=eu (t:=t) (l.getD i aC).ID ht;have hpi:p i=(!r.2 && (bif decide (1<=(l.getD i aC).ID)then decide ((l.getD i aC).ID<=1000)else false) && (!(decide ((0:Int) < (i:Int))) || !(decide ((l.getD i aC).ID<=(l.getD (subI .i64 (i:Int) 1).toNat aC).ID)))):=by simp only[p,h1,Option.getD_some]
    rw[hpi];have hn:r.2=false↔findM t.Members (l.getD i aC).ID=none:=by
     rcases jH hf with⟨a,j,_,_,b,_⟩ | ⟨a,b⟩
     . grind
     grind
    rw[<-hn];unfold I1000;by_cases h0:i=0
    . grind
    . have hz:decide ((0:Int) < (i:Int))=true:=by simp;omega
      rw[hz,gM (by omega) (by omega),av]
      grind
   constructor
   . intro h;refine⟨fun i hi=>?_,fun x hx=>?_⟩
     . grind
     . obtain⟨i,hi,rfl⟩:=List.getElem_of_mem hx;simp_all
   . rintro ⟨h1,h2⟩ i hi
     refine(key i hi).2 ⟨h2 _ (aB hi aC),?_⟩;by_cases h0:i=0
     . omega
     . right;have:=h1 (i - 1) (by omega);have e:i - 1+1=i:=by omega
       grind
theorem Ho {t : ae} {v : ab} (hl : v.Items.length = t.Members.length) (hr : t.Members.length < 9223372036854775807) (ih : ∀ x, x ∈ v.Items -> FitS ts x) (pl : Bool):
 SaysP (bT (pl,0,ts,v,t.Kind,t.Name,t.Low,t.High,t.Max,t.Symbols,t.Members,t.Key,t.Elem,t.Open) >>=fun o=>match o with | .inl o_1=>some o_1 | .inr _=>some true) (vfitm ts pl t.Members v.Items):=by
 let p:Nat->Bool:=fun i=>(bW ((⟨ts⟩:az),(t.Members.getD i ag).Type_,v.Items.getD i af,pl)).getD false
 have hp:∀i,i < t.Members.length->bW ((⟨ts⟩:az),(t.Members.getD i ag).Type_,v.Items.getD i af,pl)=some (p i)/\(p i=true↔vfit ts pl (t.Members.getD i ag).Type_ (v.Items.getD i af)):=by
  intro i hi;obtain⟨r,h1,h2⟩:=ih _ (aB (by omega:i < v.Items.length) af) (t.Members.getD i ag).Type_ pl
  grind
 refine(SaysP.loop (L:=fun i=>bT (pl,(i:Int),ts,v,t.Kind,t.Name,t.Low,t.High,t.Max,t.Symbols,t.Members,t.Key,t.Elem,t.Open)) (n:=t.Members.length) (p:=p) (g:=()) rfl (fun i hi=>?_) ?_).imp ?_
 . show bT (pl,(i:Int),ts,v,t.Kind,t.Name,t.Low,t.High,t.Max,t.Symbols,t.Members,t.Key,t.Elem,t.Open)=if p i=true then bT (pl,((i+1:Nat):Int),ts,v,t.Kind,t.Name,t.Low,t.High,t.Max,t.Symbols,t.Members,t.Key,t.Elem,t.Open)else _
   rw[bT,if_pos (by simp;omega),if_pos (au hi),if_pos (au (by omega))];simp only[av,ab.aA];rw[(hp i hi).1,aD (by omega)];cases p i <;> rfl
 . show bT (pl,(t.Members.length:Int),ts,v,t.Kind,t.Name,t.Low,t.High,t.Max,t.Symbols,t.Members,t.Key,t.Elem,t.Open)=_;rw[bT,if_neg (by simp;omega)]
 . rw[dy];constructor
   . intro h;exact⟨hl,fun i hi=>(hp i hi).2.1 (h i hi)⟩
   . rintro ⟨_,h⟩ i hi;exact(hp i hi).2.2 (h i hi)
theorem Ix {v : ab} (hr : v.Keys.length < 9223372036854775807) (hk : ∀ x, x ∈ v.Keys -> OkV x):
 SaysP (bF (1,v) >>=fun o_3=>match o_3 with | .inl o_4=>some o_4 | .inr _=>some true) (cr v.Keys):=by
 by_cases h0:v.Keys.length=0
 . rw[bF,if_neg (by simp[h0])];refine⟨true,rfl,?_⟩;unfold cr;simp only[true_iff];intro i hi;omega
 refine(SaysP.loop (L:=fun i=>bF (((i+1:Nat):Int),v)) (n:=v.Keys.length - 1) (p:=fun i=>!(decide (0<=vcmp (v.Keys.getD i af) (v.Keys.getD (i+1) af)))) (g:=()) rfl (fun i hi=>?_) ?_).imp ?_
 . show bF (((i+1:Nat):Int),v)=if _ then bF (((i+1+1:Nat):Int),v)else _
   have hs':subI .i64 ((i+1:Nat):Int) 1=(i:Int):=by rw[gM (by omega) (by omega)];simp
   obtain⟨r,c1,c2⟩:=og (kg (hk _ (aB (by omega:i < v.Keys.length) af))) (kg (hk _ (aB (by omega:i+1 < v.Keys.length) af)));have hv:vcmp (v.Keys.getD i af) (v.Keys.getD (i+1) af)=r:=by unfold vcmp;rw[c1];rfl
   rw[hv,bF,if_pos (by simp;omega)];simp only[oZ4,oZ3];rw[hs',if_pos (au (by omega)),if_pos (au (by omega))];simp only[av,ab.aA];rw[c2,aD (by omega)];simp only[oZ3];cases decide (0<=r) <;> rfl
 . have e:v.Keys.length - 1+1=v.Keys.length:=by omega
   show bF (((v.Keys.length - 1+1:Nat):Int),v)=_;rw[e,bF,if_neg (by simp)]
 . unfold cr;constructor
   . intro h i hi;have:=h i (by omega)
     simpa using this
   . intro h i hi;have:=h i (by omega)
     simpa using this
theorem cn (pl : Bool) (t : Int) (v : ab): vfit ts pl t v ↔
 (0<=t/\t < ts.length/\v.Kind=(ts.getD t.toNat ap).Kind/\(pl=true->v.Rest=[]))/\
 (v.Kind=1/\v.Int_=0/\v.Str=[]/\v.ID=0/\v.Keys=[]/\v.Items=[]/\v.Rest=[]\/
 v.Kind=2/\v.Bool_=false/\v.Str=[]/\v.ID=0/\v.Keys=[]/\v.Items=[]/\v.Rest=[]/\(ts.getD t.toNat ap).Low<=v.Int_/\v.Int_<=(ts.getD t.toNat ap).High\/
 v.Kind=3/\v.Bool_=false/\v.Int_=0/\v.ID=0/\v.Keys=[]/\v.Items=[]/\v.Rest=[]/\(v.Str.length:Int)<=(ts.getD t.toNat ap).Max\/
 v.Kind=4/\v.Bool_=false/\v.Int_=0/\v.Str=[]/\v.Keys=[]/\v.Items=[]/\v.Rest=[]/\((∃y,y∈(ts.getD t.toNat ap).Symbols/\y.ID=v.ID)\/(ts.getD t.toNat ap).Open=true/\pl=false/\I1000 v.ID)\/
 v.Kind=5/\v.Bool_=false/\v.Int_=0/\v.Str=[]/\v.ID=0/\v.Keys=[]/\dS (ts.getD t.toNat ap).Members v.Rest/\vfitm ts pl (ts.getD t.toNat ap).Members v.Items\/
 v.Kind=6/\v.Bool_=false/\v.Int_=0/\v.Str=[]/\v.Keys=[]/\(match findM (ts.getD t.toNat ap).Members v.ID with
  | some m=>v.Rest=[]/\v.Items.length=1/\vfits ts pl m.Type_ v.Items
  | none=>(ts.getD t.toNat ap).Open=true/\pl=false/\I1000 v.ID/\v.Items=[]/\∃d,v.Rest=[⟨v.ID,d⟩])\/
 v.Kind=7/\v.Bool_=false/\v.Int_=0/\v.Str=[]/\v.ID=0/\v.Keys=[]/\v.Rest=[]/\(v.Items.length:Int)<=(ts.getD t.toNat ap).Max/\vfits ts pl (ts.getD t.toNat ap).Elem v.Items\/
 v.Kind=8/\v.Bool_=false/\v.Int_=0/\v.Str=[]/\v.ID=0/\v.Rest=[]/\(v.Keys.length:Int)<=(ts.getD t.toNat ap).Max/\v.Items.length=v.Keys.length/\vfits ts pl (ts.getD t.toNat ap).Key v.Keys/\vfits ts pl (ts.getD t.toNat ap).Elem v.Items/\cr v.Keys\/
 v.Kind=9/\v.Bool_=false/\v.Int_=0/\v.Str=[]/\v.ID=0/\v.Keys=[]/\v.Rest=[]/\v.Items.length<=1/\vfits ts pl (ts.getD t.toNat ap).Elem v.Items):=by
 cases v;rw[vfit];try exact Iff.rfl
end
def ZeroV(v:ab):Prop:=(v.Kind=1\/v.Bool_=false)/\(v.Kind=2\/v.Int_=0)/\(v.Kind=3\/v.Str=[])/\((v.Kind=4\/v.Kind=6)\/v.ID=0)/\(v.Kind=8\/v.Keys=[])/\(5<=v.Kind\/v.Items=[])/\((v.Kind=5\/v.Kind=6)\/v.Rest=[])
theorem Iy(v:ab):SaysP (im v) (ZeroV v):=by
 rw[im];refine .of ?_;unfold ZeroV;have e:∀{α:Type} (l:List α),((l.length:Int)=0)↔l=[]:=fun l=>by simp_all
 grind
theorem cutS{z b:Bool}{o:Option Bool}{P Z Q:Prop}(hz:z=true↔Z)(hb:b=false↔Q)(ho:SaysP o P):SaysP (if(bif (bif false then true else(!z))then true else b)=true then some false else o) (Z/\Q/\P):=by
 obtain⟨r,rfl,h⟩:=ho;cases z with
 | false=>
  refine⟨false,rfl,?_⟩
  grind
 | true=>
  cases b with
  | true=>refine⟨false,rfl,?_⟩;simp at hb;simp[hb]
  | false=>refine⟨r,rfl,?_⟩;simp at hz hb;simp[hz,hb,h]
theorem and2S{q:Bool}{o:Option Bool}{P Q:Prop}(hq:q=true↔Q)(ho:SaysP o P):SaysP (some q >>=fun t244=>(if t244=true then o else some false) >>=fun r_10=>some (bif t244 then r_10 else false)) (Q/\P):=by
 obtain⟨r,rfl,h⟩:=ho;refine⟨q && r,by cases q <;> cases r <;> rfl,?_⟩
 grind
theorem and5S {A : Bool} {ro L : Option Bool} {PA PR PM : Prop} (hA : A = true ↔ PA) (hr : SaysP ro PR) (hM : A = true -> SaysP L PM):
 SaysP (some (!A) >>=fun t107=>(if(!t107)=true then ro else some false) >>=fun r_5=>if(bif t107 then true else(!r_5))=true then some false else L) (PA/\PR/\PM):=by
 obtain⟨q,rfl,hq⟩:=hr;cases A with
 | false=>refine⟨false,rfl,?_⟩;simp at hA;simp[hA]
 | true=>
  obtain⟨m,rfl,hm⟩:=hM rfl;cases q with
  | false=>refine⟨false,rfl,?_⟩;simp at hq;simp[hq]
  | true=>refine⟨m,rfl,?_⟩;simp at hA hq;simp[hA,hq,hm]
theorem and8S {c : Bool} {ok oi L : Option Bool} {PC PK PI PQ : Prop} (hc : c = false ↔ PC) (hk : SaysP ok PK) (hi : SaysP oi PI) (hL : SaysP L PQ):
 SaysP (some c >>=fun t239=>(if(!t239)=true then ok else some false) >>=fun r_12=>some (bif t239 then true else(!r_12)) >>=fun t249=>(if(!t249)=true then oi else some false) >>=fun r_13=>if(bif t249 then true else(!r_13))=true then some false else L) (PC/\PK/\PI/\PQ):=by
 obtain⟨k,rfl,hk⟩:=hk;obtain⟨i,rfl,hi⟩:=hi;obtain⟨q,rfl,hq⟩:=hL;rw[<-hc,<-hk,<-hi,<-hq];cases c <;> cases k <;> cases i <;> exact⟨_,rfl,by simp⟩
theorem rN{l:List aK}{id:Int}{r:Int×Bool}(h:kA l id r):r.2=true↔∃y,y∈l/\y.ID=id:=by
 rcases h with⟨j,h1,h2,h3,rfl⟩ | ⟨h1,rfl⟩
 . grind
 . constructor
   . grind
   . rintro ⟨y,hy,he⟩
     obtain⟨i,hi,rfl⟩:=List.getElem_of_mem hy
     grind
section
variable {ts:List ae} (hn:ts.length < 9223372036854775807) (hT:∀t,t∈ts->OkT t) (hK:∀t,t∈ts->fS t.Kind)
include hn hT hK in
theorem yK{v:ab}(hv:OkV v):FitS ts v:=by
 induction hv with
 | mk v hs h1 h2 h3 hk hi hrd n1 n2 n3 n4 ihk ihi=>
  intro t pl;rw[bW];by_cases hout:(bif decide (t < 0)then true else decide (((⟨ts⟩:az).Types.length:Int)<=t))=true
  . rw[if_pos hout];refine⟨false,rfl,?_⟩;rw[cn]
    grind
  . rw[if_neg hout];have hin:0<=t/\t < ts.length:=by grind
    obtain⟨j,rfl⟩:∃j:Nat,t=(j:Int):=⟨t.toNat,by omega⟩
    have hj:j < ts.length:=by omega
    rw[if_pos (au hj)];simp only[cn,av,ab.aA];have hxT:=hT _ (aB hj ap);have hxK:=hK _ (aB hj ap);generalize ts.getD j ap=x at hxT hxK ⊢;have hm:=aQ (bY hxT.mems);have hsy:=aQ (bY hxT.syms);by_cases hkd:v.Kind=x.Kind
    . obtain⟨z,z1,z2⟩:=Iy v;have hitems:=yI (ts:=ts) h2 ihi;have hkeys:=yI (ts:=ts) h1 ihk;show SaysP ((if(!(!(decide (v.Kind=x.Kind))))=true then im v else some false) >>=_) _;rw[if_pos (by simp[hkd]),z1];obtain⟨K,N,L,H,M,S,Ms,Ke,E,O⟩:=x;obtain⟨vK,B,I,Sx,ID,Ks,Is,R⟩:=v;simp only at hkd;subst hkd;simp only at hxK hm hsy h1 h2 h3 z1
      have hb:(bif pl then decide (0 < (R.length:Int))else false)=false↔(pl=true->R=[]):=by simp_all
      have hc:vK=1\/vK=2\/vK=3\/vK=4\/vK=5\/vK=6\/vK=7\/vK=8\/vK=9:=by unfold fS at hxK;omega
      have cut : ∀ {o : Option Bool} {P W : Prop}, SaysP o P -> ((ZeroV ⟨vK, B, I, Sx, ID, Ks, Is, R⟩ /\ (pl = true -> R = []) /\ P) ↔ W) ->
       SaysP (some z >>=fun r=>if(bif (bif false then true else(!r))then true else bif pl then decide (0 < (R.length:Int))else false)=true then some false else o) W:=fun ho hw=>(cutS z2 hb ho).imp hw
      have hz:(0:Int)<=j/\(j:Int) < ts.length:=hin;rcases hc with rfl | rfl | rfl | rfl | rfl | rfl | rfl | rfl | rfl
      . exact cut (P:=True) (.of (b:=true) (by simp)) (by unfold ZeroV;simp[hz];grind)
      . exact cut (P:=L<=I/\I<=H) (.of (b:=bif decide (L<=I)then decide (I<=H)else false) (by by_cases g:L<=I <;> simp[g])) (by unfold ZeroV;simp[hz];grind)
      . exact cut (P:=(Sx.length:Int)<=M) (.of (b:=decide ((Sx.length:Int)<=M)) (by simp)) (by unfold ZeroV;simp[hz];grind)
      . obtain⟨r,_,r2,hf⟩:=lN (t:=⟨4,N,L,H,M,S,Ms,Ke,E,O⟩) ID hsy;have hid:ce (ID,false)=some (bif decide (1<=ID)then decide (ID<=1000)else false):=by rfl
        have h4:=k4r r2 O pl _ (fun b=>ce (ID,b)) hid;have hs:=rN hf;simp only at hs;refine cut (P:=(∃y,y∈S/\y.ID=ID)\/O=true/\pl=false/\I1000 ID) ⟨_,h4,?_⟩ (by unfold ZeroV;simp[hz];grind);rw[<-hs];unfold I1000
        grind
      . refine cut (P:=Is.length=Ms.length/\dS Ms R/\vfitm ts pl Ms Is) ?_ (by
         have:vfitm ts pl Ms Is->Is.length=Ms.length:=fun h=>(dy.1 h).1
         unfold ZeroV;simp[hz];grind)
        exact and5S (A:=decide ((Is.length:Int)=(Ms.length:Int))) (by simp;omega) (Iw (t:=⟨5,N,L,H,M,S,Ms,Ke,E,O⟩) hm h3) (fun hA=>Ho (ts:=ts) (t:=⟨5,N,L,H,M,S,Ms,Ke,E,O⟩) (v:=⟨5,B,I,Sx,ID,Ks,Is,R⟩) (wV hA) hm ihi pl)
      . obtain⟨r,_,r2,hf⟩:=eu (t:=⟨6,N,L,H,M,S,Ms,Ke,E,O⟩) ID hm;have hid:∀b,b=false->ce (ID,b)=some (bif decide (1<=ID)then decide (ID<=1000)else false):=by
         intro b hb;subst hb;rfl
        have hR0:decide ((R.length:Int)=1)=true->inR 0 R.length=true:=by
         intro h;have:=of_decide_eq_true h;exact au (k:=0) (by omega)
        refine cut (P:=match findM Ms ID with
         | some m=>R=[]/\Is.length=1/\vfits ts pl m.Type_ Is
         | none=>O=true/\pl=false/\I1000 ID/\Is=[]/\∃d,R=[⟨ID,d⟩]) ?_ (by
          unfold ZeroV;simp[hz]
          grind)
        obtain⟨ri,rk⟩:=r;show SaysP (cD (⟨6,N,L,H,M,S,Ms,Ke,E,O⟩,ID) >>=_) _;rw[r2];rcases jH hf with⟨e,k,k1,k2,k3,k4⟩ | ⟨e,k3⟩
        . simp only at e k1 k2 k3 k4;subst e;subst k2;rw[k3];have hX:∃f:Bool,((bif decide ((Is.length:Int)=1)then decide ((R.length:Int)=0)else false)=true->bW ((⟨ts⟩:az),(Ms.getD (k:Int).toNat ag).Type_,Is.getD (0:Int).toNat af,pl)=some f)/\(Is.length=1->(f=true↔vfits ts pl (Ms.getD k ag).Type_ Is)):=by
           by_cases h1':Is.length=1
           . obtain⟨f,f1,f2⟩:=ihi (Is.getD 0 af) (aB (by omega:0 < Is.length) af) (Ms.getD k ag).Type_ pl;refine⟨f,fun _=>f1,fun _=>?_⟩;rw[f2]
             match Is,h1' with
             | [y],_=>rw[aU];simp
           . refine⟨false,fun h=>?_,fun h=>absurd h h1'⟩
             grind
          obtain⟨f,f1,f2⟩:=hX;have hidx:(bif decide ((Is.length:Int)=1)then decide ((R.length:Int)=0)else false)=true->inR (k:Int) Ms.length=true/\inR 0 Is.length=true:=by
           intro hc';refine⟨au k1,?_⟩;by_cases h1':Is.length=1
           . exact au (k:=0) (by omega)
           grind
          refine⟨_,k6k _ (inR (k:Int) Ms.length) (inR 0 Is.length) f f1 hidx,?_⟩;by_cases g1:Is.length=1
          . simp_all
          grind
        . simp only at e k3;subst e;rw[k3];refine⟨_,k6u (bif O then(!pl)else false) (bif decide (1<=ID)then decide (ID<=1000)else false) (decide ((Is.length:Int)=0)) (decide ((R.length:Int)=1)) (inR 0 R.length) (decide ((R.getD (0:Int).toNat aC).ID=ID)) hR0,?_⟩;unfold I1000
          match R with
          | []=>simp
          | [⟨rid,rd⟩]=>cases O <;> cases pl <;> by_cases g1:1<=ID <;> by_cases g2:ID<=1000 <;> cases Is <;> by_cases g3:rid=ID <;> simp[g1,g2,g3] <;> omega
          | a::b::c=>simp;omega
      . exact cut (P:=(Is.length:Int)<=M/\vfits ts pl E Is) (and2S (by simp) (hitems E pl)) (by unfold ZeroV;simp[hz];grind)
      . refine cut (P:=((Ks.length:Int)<=M/\Is.length=Ks.length)/\vfits ts pl Ke Ks/\vfits ts pl E Is/\cr Ks) ?_ (by unfold ZeroV;simp[hz];grind);refine and8S (c:=bif decide (M < (Ks.length:Int))then true else(!(decide ((Is.length:Int)=(Ks.length:Int))))) ?_ (hkeys Ke pl) (hitems E pl) (Ix (v:=⟨8,B,I,Sx,ID,Ks,Is,R⟩) (aQ h1) hk)
        grind
      . exact cut (P:=Is.length<=1/\vfits ts pl E Is) (and2S (q:=decide ((Is.length:Int)<=1)) (by simp;omega) (hitems E pl)) (by unfold ZeroV;simp[hz];grind)
    . refine⟨false,by simp[hkd],?_⟩
      grind
end
theorem pB(a b:Nat):maxI (a:Int) (b:Int)=((max a b:Nat):Int):=by unfold maxI;omega
theorem bm{α:Type}{l:List α}{i:Nat}(h:i < l.length)(d:α):l.drop i=l.getD i d::l.drop (i+1):=by simp_all
theorem zT{m:aj}{v:ab}(hv:OkV v)(hd:m.HasDefault=true):cp (v,m.Default)=some (om m v):=by
 obtain⟨r,h1,h2⟩:=pz hv m.Default;rw[h1];unfold om
 grind
section
variable {ts:List ae}
theorem KD(t:Int)(v:ab):1<=vlev ts t v:=by
 cases v;rw[vlev];omega
end
structure SOk (ts:List ae):Prop where
 n:ts.length<=1000
 T:∀t,t∈ts->OkT t
 K:∀t,t∈ts->fS t.Kind
 M:MOk ts
 A:∀x,x∈ts->(x.Kind=5\/x.Kind=6)->MAsc x.Members/\x.Members.length<=16
 S:∀x,x∈ts->x.Kind=4->∀y,y∈x.Symbols->I1000 y.ID
 Ky:∀x,x∈ts->x.Kind=8->1<=(ts.getD x.Key.toNat ap).Kind/\(ts.getD x.Key.toNat ap).Kind<=4
section
variable {ts:List ae}
theorem vpay1{t:Int}{v:ab}(h:(ts.getD t.toNat ap).Kind=1):vpay ts t v=if v.Bool_=true then[1]else[]:=by cases v;rw[vpay];simp only[h];rfl
theorem vpay2{t:Int}{v:ab}(h:(ts.getD t.toNat ap).Kind=2):vpay ts t v=vbig (zig v.Int_).toNat:=by cases v;rw[vpay];simp only[h];rfl
theorem vpay3{t:Int}{v:ab}(h:(ts.getD t.toNat ap).Kind=3):vpay ts t v=v.Str:=by cases v;rw[vpay];simp only[h];rfl
theorem vpay4{t:Int}{v:ab}(h:(ts.getD t.toNat ap).Kind=4):vpay ts t v=vbig v.ID.toNat:=by cases v;rw[vpay];simp only[h];rfl
theorem vpay5{t:Int}{v:ab}(h:(ts.getD t.toNat ap).Kind=5):vpay ts t v=(isoB ltF (dj ts (ts.getD t.toNat ap).Members v.Items v.Rest)).flatMap Fd.text:=by cases v;rw[vpay];simp only[h];rfl
theorem vpay6 {t : Int} {v : ab} (h : (ts.getD t.toNat ap).Kind = 6): vpay ts t v = vput v.ID.toNat ++ (match findM (ts.getD t.toNat ap).Members v.ID with
 | some m=>(vpays ts m.Type_ v.Items).headD []
 | none=>(v.Rest.map aG.Data).headD []):=by
 cases v;rw[vpay];simp only[h];rfl
theorem vpay7{t:Int}{v:ab}(h:(ts.getD t.toNat ap).Kind=7):vpay ts t v=(vpays ts (ts.getD t.toNat ap).Elem v.Items).flatMap aW:=by cases v;rw[vpay];simp only[h];rfl
theorem vpay8{t:Int}{v:ab}(h:(ts.getD t.toNat ap).Kind=8):vpay ts t v=ilv (vpays ts (ts.getD t.toNat ap).Key v.Keys) (vpays ts (ts.getD t.toNat ap).Elem v.Items):=by cases v;rw[vpay];simp only[h];rfl
theorem vpay9 {t : Int} {v : ab} (h : (ts.getD t.toNat ap).Kind = 9): vpay ts t v = match vpays ts (ts.getD t.toNat ap).Elem v.Items with
 | []=>[]
 | p::_=>1::p:=by
 cases v;rw[vpay];simp only[h];rfl
theorem sX (t : Int) (v : ab): vlev ts t v = 1 + max (if v.Keys = [] then 0 else 1) (if (ts.getD t.toNat ap).Kind = 5 then vlevm ts (ts.getD t.toNat ap).Members v.Items
 else if(ts.getD t.toNat ap).Kind=6 then(match findM (ts.getD t.toNat ap).Members v.ID with
  | some m=>vlevs ts m.Type_ v.Items
  | none=>0)
 else vlevs ts (ts.getD t.toNat ap).Elem v.Items):=by
 cases v;rw[vlev];try rfl
theorem Iz{t:Int}{v:ab}(hk:v.Keys=[])(hi:v.Items=[]):vlev ts t v=1:=by
 rw[sX,hk,hi];have h1:vlevs ts (ts.getD t.toNat ap).Elem []=0:=by rw[vlevs]
 have h2:vlevm ts (ts.getD t.toNat ap).Members []=0:=by rw[vlevm];intros;simp_all
 rw[h1,h2]
 have h3 : (match findM (ts.getD t.toNat ap).Members v.ID with
  | some m=>vlevs ts m.Type_ []
  | none=>0)=0:=by
  split
  . rw[vlevs]
  . rfl
 grind
end
section
variable {ts:List ae} (H:SOk ts)
theorem sY(H:SOk ts){v:ab}(hv:OkV v)(hw:wt v<=1099511627776)(t:Int):(vpay ts t v).length<=23089744183296:=by
 have:=KB H.M hv hw t;omega
end
section
variable {ts:List ae}
def Rp(ts:List ae)(x:ab)(t:Int):Prop:=cT ((⟨ts⟩:az),t,x)=some (vpay ts t x)
def Rl(ts:List ae)(x:ab)(t:Int):Prop:=dG ((⟨ts⟩:az),t,x)=some ((vlev ts t x:Nat):Int)
theorem yL {x : ae} {v : ab} (hlen : ∀ y, y ∈ v.Items -> (vpay ts x.Elem y).length <= 1000000000000000) (hw : ∀ y, y ∈ v.Items -> Rp ts y x.Elem) (hl : v.Items.length <= reachBytes):
 ∀(k i:Nat) (acc:List UInt8),i+k=v.Items.length->acc.length+((vpays ts x.Elem (v.Items.drop i)).flatMap aW).length<=70368744177664->
 gV (acc,(i:Int),ts,v,x)=some (acc++(vpays ts x.Elem (v.Items.drop i)).flatMap aW)
 | 0,i,acc,hi,ha=>by
  rw[gV,if_neg (by simp;omega),List.drop_eq_nil_of_le (by omega:v.Items.length<=i),vpays];simp
 | k+1,i,acc,hi,ha=>by
  have hlt:i < v.Items.length:=by omega
  have hr:=aQ hl;have hmem:v.Items.getD i af∈v.Items:=aB hlt af;rw[bm hlt af,vpays,List.flatMap_cons,List.length_append]at ha;have hp:=hlen _ hmem;have hW:=hw _ hmem;unfold Rp at hW;rw[gV,if_pos (by simp;omega),if_pos (au hlt)];simp only[oZ4,oZ3,av,ab.aA];rw[hW];simp only[oZ3];rw[oz (by omega)];simp only[oZ3]
  rw[if_pos (bn (by omega)),aD (by omega),yL hlen hw hl k (i+1) _ (by omega) (by rw[List.length_append];omega),bm hlt af,vpays,List.flatMap_cons,List.append_assoc]
theorem zU {x : ae} {v : ab} (hkl : v.Items.length = v.Keys.length) (hlen : ∀ y, y ∈ v.Items -> (vpay ts x.Elem y).length <= 1000000000000000) (hlenk : ∀ y, y ∈ v.Keys -> (vpay ts x.Key y).length <= 1000000000000000)
 (hw:∀y,y∈v.Items->Rp ts y x.Elem) (hwk:∀y,y∈v.Keys->Rp ts y x.Key) (hl:v.Items.length<=reachBytes):
 ∀(k i:Nat) (acc:List UInt8),i+k=v.Items.length->acc.length+(ilv (vpays ts x.Key (v.Keys.drop i)) (vpays ts x.Elem (v.Items.drop i))).length<=70368744177664->
 gW (acc,(i:Int),ts,v,x)=some (acc++ilv (vpays ts x.Key (v.Keys.drop i)) (vpays ts x.Elem (v.Items.drop i)))
 | 0,i,acc,hi,ha=>by
  rw[gW,if_neg (by simp;omega),List.drop_eq_nil_of_le (by omega:v.Items.length<=i),List.drop_eq_nil_of_le (by omega:v.Keys.length<=i),vpays,vpays,ilv]
  . simp
  grind
 | k+1,i,acc,hi,ha=>by
  have hlt:i < v.Items.length:=by omega
  have hlt2:i < v.Keys.length:=by omega
  have hr:=aQ hl;have hmem:v.Items.getD i af∈v.Items:=aB hlt af;have hmem2:v.Keys.getD i af∈v.Keys:=aB hlt2 af;rw[bm hlt af,bm hlt2 af,vpays,vpays,ilv,List.length_append,List.length_append]at ha;have hp:=hlen _ hmem;have hp2:=hlenk _ hmem2;have hW:=hw _ hmem;have hW2:=hwk _ hmem2;unfold Rp at hW hW2;rw[gW,if_pos (by simp;omega),if_pos (au hlt2)]
  simp only[oZ4,oZ3,av,ab.aA];rw[hW2];simp only[oZ3];rw[oz (by omega)];simp only[oZ3];rw[if_pos (bn (by omega)),if_pos (au hlt),hW];simp only[oZ3];rw[oz (by omega)];simp only[oZ3]
  rw[if_pos (bn (by rw[List.length_append];omega)),aD (by omega),zU hkl hlen hlenk hw hwk hl k (i+1) _ (by omega) (by rw[List.length_append,List.length_append];omega),bm hlt af,bm hlt2 af,vpays,vpays,ilv,List.append_assoc,List.append_assoc]
def dk(R:List aG)(n:Nat):List Fd:=(R.filter fun x=>decide (x.ID=(n:Int))).map rawF
theorem Hp{a:aG}{l:List aG}{n:Nat}(h:a.ID=(n:Int)):dk (a::l) n=rawF a::dk l n:=by unfold dk;rw[List.filter_cons,if_pos (by rw[h];simp),List.map_cons]
theorem IA{a:aG}{l:List aG}{n:Nat}(h:¬a.ID=(n:Int)):dk (a::l) n=dk l n:=by unfold dk;rw[List.filter_cons,if_neg (by simpa using h)]
theorem refOm {γ : Type} {m : aj} {w : ab} (hw : OkV w) (A B : Option γ):
 ((if(!(!m.HasDefault))=true then cp (w,m.Default)else some false).bind fun r_19=>if(bif (!m.HasDefault)then true else(!r_19))=true then A else B)=if om m w=true then B else A:=by
 cases hd:m.HasDefault with
 | false=>
  have:om m w=false:=by unfold om;rw[hd];rfl
  rw[this];rfl
 | true=>
  have:=zT hw hd;simp only[Bool.not_true,Bool.not_false,if_true,this];cases om m w <;> rfl
theorem rO {x : ae} {v : ab} (hr : ∀ y, y ∈ v.Rest -> y.Data.length <= reachBytes) (hR : v.Rest.length <= reachBytes) (n : Nat) (hn : n <= 1000):
 ∀(k i:Nat) (out:List UInt8),i+k=v.Rest.length->out.length+((dk (v.Rest.drop i) n).flatMap Fd.text).length<=70368744177664->
 dE (out,(n:Int),(i:Int),ts,v,x)=some (out++(dk (v.Rest.drop i) n).flatMap Fd.text,(n:Int),ts,v,x)
 | 0,i,out,hi,ha=>by
  rw[dE,if_neg (by simp;omega),List.drop_eq_nil_of_le (by omega:v.Rest.length<=i),ab.aA];simp[dk]
 | k+1,i,out,hi,ha=>by
  have hlt:i < v.Rest.length:=by omega
  have hrr:=aQ hR;have hd:=hr _ (aB hlt aC);unfold reachBytes at hd;rw[bm hlt aC]at ha;rw[dE,if_pos (by simp;omega),if_pos (au hlt)];simp only[oZ4,oZ3,av,ab.aA];rw[bm hlt aC];by_cases e:(v.Rest.getD i aC).ID=(n:Int)
  . rw[Hp e,List.flatMap_cons]at ha ⊢;have ht:(rawF (v.Rest.getD i aC)).text=bz n false (v.Rest.getD i aC).Data:=by unfold rawF Fd.text;rw[e];rfl
    rw[ht,List.length_append]at ha;rw[if_pos (by rw[e];simp),if_pos (au hlt),vW (by omega) (by omega)];simp only[oZ3];rw[if_pos (bn (by omega)),aD (by omega),rO hr hR n hn k (i+1) _ (by omega) (by rw[List.length_append];omega),ht,List.append_assoc]
  . rw[IA e]at ha ⊢;rw[if_neg (by simpa using e),aD (by omega),rO hr hR n hn k (i+1) _ (by omega) ha]
noncomputable def grp (ts:List ae) (x:ae) (v:ab) (n:Nat):List Fd:=(dj ts x.Members v.Items v.Rest).filter fun f=>decide (f.id=n)
theorem sZ {x : ae} {v : ab} (hm : x.Members.length < 9223372036854775807) (hma : MAsc x.Members) (hrk : dS x.Members v.Rest) (hil : v.Items.length = x.Members.length)
 (hr:∀y,y∈v.Rest->y.Data.length<=reachBytes) (hR:v.Rest.length<=reachBytes) (hok:∀y,y∈v.Items->OkV y) (hlenI:∀x,x∈v.Items->∀t,(vpay ts t x).length<=23089744183296)
 (hw:∀i,i < x.Members.length->Rp ts (v.Items.getD i af) (x.Members.getD i ag).Type_):
 ∀(k n:Nat) (out:List UInt8),n+k=1001->1<=n->out.length+(((List.range' n k).flatMap (grp ts x v)).flatMap Fd.text).length<=70368744177664->
 eW (out,(n:Int),ts,v,x)=some (out++((List.range' n k).flatMap (grp ts x v)).flatMap Fd.text)
 | 0,n,out,hi,h1,ha=>by
  rw[eW,if_neg (by simp;omega)];simp
 | k+1,n,out,hi,h1,ha=>by
  have hid0:∀y,y∈v.Rest->0<=y.ID:=fun y hy=>by have:=(hrk.2 y hy).1;unfold I1000 at this;omega
  have hg:grp ts x v n=((vents ts x.Members v.Items).filter fun f=>decide (f.id=n))++dk v.Rest n:=by
   unfold grp dj dk;rw[List.filter_append,Gk _ _ hid0]
  rw[List.range'_succ,List.flatMap_cons,List.flatMap_append,hg,List.flatMap_append]at ha ⊢;simp only[List.length_append]at ha;rw[eW,if_pos (by simp;omega)];obtain⟨r,_,r2,hf⟩:=eu (t:=x) (n:Int) hm;simp only[oZ4,oZ3,av,ab.aA];rw[r2];simp only[oZ3]
  have inner:∀out':List UInt8,out'.length+((dk v.Rest n).flatMap Fd.text).length<=70368744177664->dE (out',(n:Int),0,ts,v,x)=some (out'++(dk v.Rest n).flatMap Fd.text,(n:Int),ts,v,x):=fun out' h=>by
   have:=rO (ts:=ts) (x:=x) hr hR n (by omega) v.Rest.length 0 out' (by omega) (by simpa using h)
   grind
  rcases jH hf with⟨e,j,q1,q2,q3,q4⟩ | ⟨e,q3⟩
  . have hlt2:j < v.Items.length:=by omega
    have hmem:v.Items.getD j af∈v.Items:=aB hlt2 af;have hfd:=v7 (ts:=ts) (zR hma) hil q1 (n:=n) (by rw[q4];simp);rw[if_pos e,q2,if_pos (au q1)];rw[if_pos (by rw[au hlt2];rfl)];simp only[av];rw[refOm (hok _ hmem)];have hrec:=sZ hm hma hrk hil hr hR hok hlenI hw k (n+1);cases ho:om (x.Members.getD j ag) (v.Items.getD j af)with
    | true=>
     rw[ho,if_pos rfl]at hfd;rw[hfd]at ha ⊢;rw[if_pos rfl,inner out (by omega)];simp only[oZ3,ab.aA];rw[aD (by omega),hrec _ (by omega) (by omega) (by rw[List.length_append];omega)];simp
    | false=>
     rw[ho,if_neg (by simp)]at hfd;rw[hfd]at ha ⊢;have hp:=hlenI _ hmem (x.Members.getD j ag).Type_;have hW:=hw j q1;unfold Rp at hW
     have ht:([⟨n,(x.Members.getD j ag).Critical,vpay ts (x.Members.getD j ag).Type_ (v.Items.getD j af)⟩]:List Fd).flatMap Fd.text=bz n (x.Members.getD j ag).Critical (vpay ts (x.Members.getD j ag).Type_ (v.Items.getD j af)):=by simp only[List.flatMap_cons,List.flatMap_nil,List.append_nil];rfl
     rw[ht]at ha ⊢;rw[if_neg (by simp),if_pos (au hlt2),hW];simp only[oZ3];rw[vW (by omega) (by omega)];simp only[oZ3];rw[if_pos (bn (by omega)),inner _ (by rw[List.length_append];omega)];simp only[oZ3,ab.aA];rw[aD (by omega),hrec _ (by omega) (by omega) (by rw[List.length_append,List.length_append];omega)]
     grind
  . have hnone:((vents ts x.Members v.Items).filter fun f=>decide (f.id=n))=[]:=wZ fun m hm'=>by
     have:=iI q3 m hm';omega
    rw[hnone]at ha ⊢;rw[if_neg (by simp[e]),inner out (by omega)];simp only[oZ3,ab.aA];rw[aD (by omega),sZ hm hma hrk hil hr hR hok hlenI hw k (n+1) _ (by omega) (by omega) (by rw[List.length_append];omega)];simp
end
section
variable {ts:List ae}
theorem NO {γ : Type} {m : aj} {w : ab} (hw : OkV w) (A B : Option γ):
 ((if m.HasDefault=true then cp (w,m.Default)else some false).bind fun r=>if(bif m.HasDefault then r else false)=true then A else B)=if om m w=true then A else B:=by
 cases hd:m.HasDefault with
 | false=>
  have:om m w=false:=by unfold om;rw[hd];rfl
  rw[this];rfl
 | true=>
  have:=zT hw hd;simp only[if_true,this];cases om m w <;> rfl
theorem yM {x : ae} {v : ab} (h5 : ¬ x.Kind = 5) (h6 : ¬ x.Kind = 6) (hw : ∀ y, y ∈ v.Items -> Rl ts y x.Elem) (hl : v.Items.length <= reachBytes):
 ∀(k i b:Nat),i+k=v.Items.length->bE ((b:Int),(i:Int),ts,v,x)=some (((max b (vlevs ts x.Elem (v.Items.drop i)):Nat):Int),v)
 | 0,i,b,hi=>by rw[bE,if_neg (by simp;omega),List.drop_eq_nil_of_le (by omega:v.Items.length<=i),vlevs,ab.aA,Nat.max_zero]
 | k+1,i,b,hi=>by
  have hlt:i < v.Items.length:=by omega
  have hr:=aQ hl;have hW:=hw _ (aB hlt af);unfold Rl at hW;rw[bE,if_pos (by simp;omega),if_neg (by simp[h5]),if_neg (by simp[h6]),if_pos (au hlt)];simp only[av,ab.aA];rw[hW];simp only[oZ4,oZ3];rw[pB,aD (by omega),yM h5 h6 hw hl k (i+1) _ (by omega),bm hlt af,vlevs,Nat.max_assoc]
theorem zV {x : ae} {v : ab} (h5 : x.Kind = 5) (hil : v.Items.length = x.Members.length) (hok : ∀ y, y ∈ v.Items -> OkV y) (hw : ∀ i, i < x.Members.length -> Rl ts (v.Items.getD i af) (x.Members.getD i ag).Type_) (hl : v.Items.length <= reachBytes):
 ∀(k i b:Nat),i+k=v.Items.length->bE ((b:Int),(i:Int),ts,v,x)=some (((max b (vlevm ts (x.Members.drop i) (v.Items.drop i)):Nat):Int),v)
 | 0,i,b,hi=>by
  rw[bE,if_neg (by simp;omega),List.drop_eq_nil_of_le (by omega:v.Items.length<=i),ab.aA,List.drop_eq_nil_of_le (by omega:x.Members.length<=i)];rw[vlevm]
  . grind
  grind
 | k+1,i,b,hi=>by
  have hlt:i < v.Items.length:=by omega
  have hlt2:i < x.Members.length:=by omega
  have hr:=aQ hl;have hmem:=aB hlt af;have hW:=hw i hlt2;unfold Rl at hW;rw[bE,if_pos (by simp;omega),if_pos (by simp[h5]),if_pos (au hlt2)];simp only[oZ4,oZ3,av,ab.aA];rw[if_pos (by rw[au hlt];rfl),NO (hok _ hmem)];have hrec:=zV h5 hil hok hw hl k (i+1);rw[bm hlt af,bm hlt2 ag,vlevm]
  cases ho:om (x.Members.getD i ag) (v.Items.getD i af)with
  | true=>rw[if_pos rfl,aD (by omega),hrec _ (by omega),if_pos rfl]
  | false=>
   rw[if_neg (by simp),if_neg (by simp[h5]),if_pos (au hlt),hW];simp only[oZ3];rw[pB,aD (by omega),hrec _ (by omega),if_neg (by simp),Nat.max_assoc]
theorem zW {x : ae} {v : ab} (h6 : x.Kind = 6) {j : Nat} (hj : j < x.Members.length) (hM : cD (x, v.ID) = some ((j : Int), true)) (hw : ∀ y, y ∈ v.Items -> Rl ts y (x.Members.getD j ag).Type_) (hl : v.Items.length <= reachBytes):
 ∀(k i b:Nat),i+k=v.Items.length->bE ((b:Int),(i:Int),ts,v,x)=some (((max b (vlevs ts (x.Members.getD j ag).Type_ (v.Items.drop i)):Nat):Int),v)
 | 0,i,b,hi=>by rw[bE,if_neg (by simp;omega),List.drop_eq_nil_of_le (by omega:v.Items.length<=i),vlevs,ab.aA,Nat.max_zero]
 | k+1,i,b,hi=>by
  have hlt:i < v.Items.length:=by omega
  have hr:=aQ hl;have hW:=hw _ (aB hlt af);unfold Rl at hW;rw[bE,if_pos (by simp;omega),if_neg (by simp[h6]),if_pos (by simp[h6]),hM];simp only[oZ4,oZ3,av,ab.aA];rw[if_pos (au hj),if_pos (au hlt),hW];simp only[oZ3];rw[pB,aD (by omega),zW h6 hj hM hw hl k (i+1) _ (by omega),bm hlt af,vlevs,Nat.max_assoc]
theorem pC {x : ae} {v : ab} {b w : Nat} (hL : bE (0, 0, ts, v, x) = some (((max 0 b : Nat): Int), v)) (hb : b < 1152921504606846976) (hw : w = 1 + max (if v.Keys = [] then 0 else 1) b):
 (bE (0,0,ts,v,x) >>=fun o=>if decide (0 < (o.2.Keys.length:Int))=true then some (addI .i64 1 (maxI o.1 1))else some (addI .i64 1 o.1))=some (w:Int):=by
 rw[hL];simp only[oZ4,oZ3];by_cases hk:v.Keys=[]
 . rw[if_neg (by simp[hk])];rw[if_pos hk]at hw;have:addI .i64 1 ((max 0 b:Nat):Int)=((1+max 0 b:Nat):Int):=mr (a:=1) (by omega);rw[this,hw]
 . rw[if_pos (by
    have:0 < v.Keys.length:=List.length_pos_iff.2 hk
    grind)]
   rw[if_neg hk]at hw;have e:maxI ((max 0 b:Nat):Int) 1=((max 1 b:Nat):Int):=by
    have:=pB (max 0 b) 1
    grind
   rw[e];have:addI .i64 1 ((max 1 b:Nat):Int)=((1+max 1 b:Nat):Int):=mr (a:=1) (by omega);rw[this,hw]
theorem Lq(H:SOk ts){v:ab}(hv:OkV v):wt v<=1099511627776->∀t,vfit ts false t v->Rl ts v t:=by
 induction hv with
 | mk v hs h1 h2 h3 hk hi hrd n1 n2 n3 n4 ihk ihi=>
  intro hw t hf;have hwt:=wt_eq v;have hWI:∀x,x∈v.Items->∀t,vfit ts false t x->Rl ts x t:=fun x hx t=>ihi x hx (by have:=bp hx;omega) t
  obtain⟨⟨g1,g2,g3,_⟩,hf⟩:=(cn _ _ _).1 hf;obtain⟨j,rfl⟩:∃j:Nat,t=(j:Int):=⟨t.toNat,by omega⟩
  have hj:j < ts.length:=by omega
  unfold Rl;rw[dG,if_pos (au hj)];simp only[av,ab.aA]at hf g3 ⊢;have hxm:=aB hj ap;have hlev:=sX (ts:=ts) (j:Int) v;simp only[av]at hlev;have hA:=H.A _ hxm;have hm:=aQ (bY (H.T _ hxm).mems);generalize ts.getD j ap=x at*;have b1:∀E,vlevs ts E v.Items < 1152921504606846976:=fun E=>by have:=vlevs_le ts v.Items E;omega
  have b2:∀E,vlevm ts E v.Items < 1152921504606846976:=fun E=>by have:=vlevm_le ts v.Items E;omega
  have easy:¬x.Kind=5->¬x.Kind=6->(∀y,y∈v.Items->vfit ts false x.Elem y)->(bE (0,0,ts,v,x) >>=fun o=>if decide (0 < (o.2.Keys.length:Int))=true then some (addI .i64 1 (maxI o.1 1))else some (addI .i64 1 o.1))=some ((vlev ts (j:Int) v:Nat):Int):=by
   intro a b c;have hL:=yM (ts:=ts) (x:=x) (v:=v) a b (fun y hy=>hWI y hy _ (c y hy)) h2 v.Items.length 0 0 (by omega);rw[if_neg a,if_neg b]at hlev;exact pC hL (b1 _) hlev
  rcases hf with⟨k,c1,c2,c3,c4,c5,c6⟩ | ⟨k,c1,c2,c3,c4,c5,c6,c7,c8⟩ | ⟨k,c1,c2,c3,c4,c5,c6,c7⟩ | ⟨k,c1,c2,c3,c4,c5,c6,c7⟩ | ⟨k,c1,c2,c3,c4,c5,c6,c7⟩ | ⟨k,c1,c2,c3,c4,c5⟩ | ⟨k,c1,c2,c3,c4,c5,c6,c7,c8⟩ | ⟨k,c1,c2,c3,c4,c5,c6,c7,c8,c9,c10⟩ | ⟨k,c1,c2,c3,c4,c5,c6,c7,c8⟩ <;> rw[k]at g3
  . grind
  . grind
  . grind
  . grind
  . obtain⟨hil,hip⟩:=dy.1 c7;have hL:=zV (ts:=ts) (x:=x) (v:=v) g3.symm hil hi (fun i hi'=>hWI _ (aB (by omega) af) _ (hip i hi')) h2 v.Items.length 0 0 (by omega);rw[if_pos g3.symm]at hlev;exact pC hL (b2 _) hlev
  . rw[if_neg (show ¬x.Kind=5 by omega),if_pos g3.symm]at hlev;obtain⟨r,_,r2,hf⟩:=eu (t:=x) v.ID hm;rcases jH hf with⟨e,q,q1,q2,q3,q4⟩ | ⟨e,q3⟩
    . rw[q3]at c5 hlev;simp only at c5 hlev;obtain⟨d1,d2,d3⟩:=c5;have hr:r=((q:Int),true):=by rw[<-q2,<-e]
      have hL:=zW (ts:=ts) (x:=x) (v:=v) g3.symm q1 (by rw[r2,hr]) (fun y hy=>hWI y hy _ (aU.1 d3 y hy)) h2 v.Items.length 0 0 (by omega);exact pC hL (b1 _) hlev
    . rw[q3]at c5 hlev;simp only at c5 hlev;have hi0:v.Items=[]:=c5.2.2.2.1;have hL:bE (0,0,ts,v,x)=some (((max 0 0:Nat):Int),v):=by rw[bE,if_neg (by simp[hi0]),ab.aA];rfl
      exact pC hL (by omega) hlev
  . exact easy (by omega) (by omega) (aU.1 c8)
  . exact easy (by omega) (by omega) (aU.1 c9)
  . exact easy (by omega) (by omega) (aU.1 c8)
set_option maxHeartbeats 400000 in
theorem Lr(H:SOk ts){v:ab}(hv:OkV v):wt v<=1099511627776->∀t,vfit ts false t v->Rp ts v t:=by
 induction hv with
 | mk v hs h1 h2 h3 hk hi hrd n1 n2 n3 n4 ihk ihi=>
  intro hw t hf;have hOk:OkV v:= .mk v hs h1 h2 h3 hk hi hrd n1 n2 n3 n4;have hwt:=wt_eq v;have hlenI:∀x,x∈v.Items->∀t,(vpay ts t x).length<=23089744183296:=fun x hx t=>sY H (hi x hx) (by have:=bp hx;omega) t
  have hlenK:∀x,x∈v.Keys->∀t,(vpay ts t x).length<=23089744183296:=fun x hx t=>sY H (hk x hx) (by have:=bp hx;omega) t
  have hWI:∀x,x∈v.Items->∀t,vfit ts false t x->Rp ts x t:=fun x hx t=>ihi x hx (by have:=bp hx;omega) t
  have hWK:∀x,x∈v.Keys->∀t,vfit ts false t x->Rp ts x t:=fun x hx t=>ihk x hx (by have:=bp hx;omega) t
  have hlenv:=sY H hOk hw t;obtain⟨⟨g1,g2,g3,_⟩,hf⟩:=(cn _ _ _).1 hf;obtain⟨j,rfl⟩:∃j:Nat,t=(j:Int):=⟨t.toNat,by omega⟩
  have hj:j < ts.length:=by omega
  unfold Rp;rw[cT,if_pos (au hj)];simp only[oZ4,oZ3,av,ab.aA]at hf g3 ⊢;have hxm:=aB hj ap;have hv1:=@vpay1 ts (j:Int) v;have hv2:=@vpay2 ts (j:Int) v;have hv3:=@vpay3 ts (j:Int) v;have hv4:=@vpay4 ts (j:Int) v;have hv5:=@vpay5 ts (j:Int) v;have hv6:=@vpay6 ts (j:Int) v;have hv7:=@vpay7 ts (j:Int) v
  have hv8:=@vpay8 ts (j:Int) v;have hv9:=@vpay9 ts (j:Int) v;simp only[av]at hv1 hv2 hv3 hv4 hv5 hv6 hv7 hv8 hv9;have hA:=H.A _ hxm;have hS:=H.S _ hxm;have hm:=aQ (bY (H.T _ hxm).mems);generalize ts.getD j ap=x at*
  rcases hf with⟨k,c1,c2,c3,c4,c5,c6⟩ | ⟨k,c1,c2,c3,c4,c5,c6,c7,c8⟩ | ⟨k,c1,c2,c3,c4,c5,c6,c7⟩ | ⟨k,c1,c2,c3,c4,c5,c6,c7⟩ | ⟨k,c1,c2,c3,c4,c5,c6,c7⟩ | ⟨k,c1,c2,c3,c4,c5⟩ | ⟨k,c1,c2,c3,c4,c5,c6,c7,c8⟩ | ⟨k,c1,c2,c3,c4,c5,c6,c7,c8,c9,c10⟩ | ⟨k,c1,c2,c3,c4,c5,c6,c7,c8⟩ <;> rw[k]at g3 <;> have kx:=g3.symm
  . grind
  . rw[if_neg (by simp[kx]),if_pos (by simp[kx]),hv2 kx,jd n2];simp only[oZ3];have hz:=pT n2;obtain⟨n,hn⟩:∃n:Nat,zig v.Int_=(n:Int):=⟨(zig v.Int_).toNat,by unfold zig;split <;> omega⟩
    rw[hn,Int.toNat_natCast]at hz;rw[hn,xR hz];rfl
  . rw[if_neg (by simp[kx]),if_neg (by simp[kx]),if_pos (by simp[kx]),hv3 kx]
  . rw[if_neg (by simp[kx]),if_neg (by simp[kx]),if_neg (by simp[kx]),if_pos (by simp[kx]),hv4 kx]
    obtain⟨n,hn⟩:∃n:Nat,v.ID=(n:Int):=⟨v.ID.toNat,by
     rcases c7 with⟨y,hy,he⟩ | ⟨_,_,he⟩
     . have:=hS kx y hy;unfold I1000 at this;omega
     . unfold I1000 at he;omega⟩
    rw[hn,wrpn (by omega),xR (by omega),Int.toNat_natCast];rfl
  . rw[if_neg (by simp[kx]),if_neg (by simp[kx]),if_neg (by simp[kx]),if_neg (by simp[kx]),if_neg (by simp[kx]),if_neg (by simp[kx]),if_neg (by simp[kx]),if_neg (by simp[kx]),hv5 kx];obtain⟨hma,hm16⟩:=hA (.inl kx);obtain⟨hil,hip⟩:=dy.1 c7;rw[hv5 kx]at hlenv;have hsg:=Fb (qO (ts:=ts) (l:=v.Items) hma c6) (fun y hy=>vh hma c6 hy)
    have e0:(fun n=>(dj ts x.Members v.Items v.Rest).filter fun f=>decide (f.id=n))=grp ts x v:=rfl;rw[e0]at hsg;rw[hsg]at hlenv ⊢;have:=sZ (ts:=ts) hm hma c6 hil (fun y hy=>hrd y hy) h3 hi hlenI (fun i hi'=>hWI _ (aB (by omega) af) _ (hip i hi')) 1000 1 [] (by omega) (by omega) (by simp only[List.length_nil];omega);have h0:eW ([],1,ts,v,x)=_:=this;rw[h0]
    rfl
  . rw[if_neg (by simp[kx]),if_neg (by simp[kx]),if_neg (by simp[kx]),if_neg (by simp[kx]),if_neg (by simp[kx]),if_pos (by simp[kx]),hv6 kx];obtain⟨hma,hm16⟩:=hA (.inr kx);obtain⟨r,_,r2,hf⟩:=eu (t:=x) v.ID hm;rcases jH hf with⟨e,q,q1,q2,q3,q4⟩ | ⟨e,q3⟩
    . rw[q3]at c5;rw[q3];simp only at c5 ⊢;obtain⟨d1,d2,d3⟩:=c5;have hI:=hma.2 _ (aB q1 ag);rw[q4]at hI;obtain⟨n,hn⟩:∃n:Nat,v.ID=(n:Int):=⟨v.ID.toNat,by unfold I1000 at hI;omega⟩
      rw[if_neg (by simp[d1]),r2,hn,wrpn (by unfold I1000 at hI;omega),l7 (by unfold I1000 at hI;omega)];simp only[oZ3];rw[q2,if_pos (au q1)]
      match hI:v.Items,d2 with
      | [y],_=>
       have hy:y∈v.Items:=by rw[hI];exact .head _
       have hi0:inR 0 ([y]:List ab).length=true:=au (k:=0) (by simp);have hf:=aU.1 d3 y hy;have hW:=hWI y hy _ hf;unfold Rp at hW;rw[if_pos hi0];simp only[av,Int.toNat_zero,List.getD_cons_zero];rw[hW];have hp:=hlenI y hy (x.Members.getD q ag).Type_;have hp10:=cZ (n:=n) (by rw[hn]at n3;omega);simp only[oZ3];rw[if_pos (bn (by omega))]
       have ep:vpays ts (x.Members.getD q ag).Type_ [y]=[vpay ts (x.Members.getD q ag).Type_ y]:=by rw[vpays,vpays]
       rw[ep];rfl
    . rw[q3]at c5;rw[q3];simp only at c5 ⊢;obtain⟨d1,d2,d3,d4,d,d5⟩:=c5;obtain⟨n,hn⟩:∃n:Nat,v.ID=(n:Int):=⟨v.ID.toNat,by unfold I1000 at d3;omega⟩
      have hdl:=hrd ⟨v.ID,d⟩ (by rw[d5];exact .head _);simp only at hdl;unfold reachBytes at hdl;have hp10:=cZ (n:=n) (by rw[hn]at n3;omega);rw[d5,hn,if_pos (by simp),wrpn (by unfold I1000 at d3;omega),l7 (by unfold I1000 at d3;omega)];simp only[oZ3];have hi0:inR 0 ([⟨(n:Int),d⟩]:List aG).length=true:=au (k:=0) (by simp);rw[if_pos hi0]
      simp only[Int.toNat_zero,List.getD_cons_zero];rw[if_pos (bn (by omega))];rfl
  . rw[if_neg (by simp[kx]),if_neg (by simp[kx]),if_neg (by simp[kx]),if_neg (by simp[kx]),if_neg (by simp[kx]),if_neg (by simp[kx]),if_pos (by simp[kx])];have hf:=aU.1 c8;rw[hv7 kx]at hlenv ⊢
    have:=yL (ts:=ts) (x:=x) (v:=v) (fun y hy=>by have:=hlenI y hy x.Elem;omega) (fun y hy=>hWI y hy x.Elem (hf y hy)) h2 v.Items.length 0 [] (by omega) (by simp only[List.drop_zero,List.length_nil];omega);have h0:gV ([],0,ts,v,x)=_:=this;rw[h0];rfl
  . rw[if_neg (by simp[kx]),if_neg (by simp[kx]),if_neg (by simp[kx]),if_neg (by simp[kx]),if_neg (by simp[kx]),if_neg (by simp[kx]),if_neg (by simp[kx]),if_pos (by simp[kx])];have hf:=aU.1 c9;have hfk:=aU.1 c8;rw[hv8 kx]at hlenv ⊢
    have:=zU (ts:=ts) (x:=x) (v:=v) c7 (fun y hy=>by have:=hlenI y hy x.Elem;omega) (fun y hy=>by have:=hlenK y hy x.Key;omega) (fun y hy=>hWI y hy x.Elem (hf y hy)) (fun y hy=>hWK y hy x.Key (hfk y hy)) h2 v.Items.length 0 [] (by omega) (by simp only[List.drop_zero,List.length_nil];omega);have h0:gW ([],0,ts,v,x)=_:=this;rw[h0];rfl
  . rw[if_neg (by simp[kx]),if_neg (by simp[kx]),if_neg (by simp[kx]),if_neg (by simp[kx]),if_pos (by simp[kx]),hv9 kx];have hf:=aU.1 c8
    match hI:v.Items,c7 with
    | [],_=>rw[if_pos (by simp),vpays]
    | [y],_=>
     have hy:y∈v.Items:=by rw[hI];exact .head _
     have hi0:inR 0 ([y]:List ab).length=true:=au (k:=0) (by simp);rw[if_neg (by simp),if_pos hi0];have hW:=hWI y hy x.Elem (hf y hy);unfold Rp at hW;simp only[Int.toNat_zero,List.getD_cons_zero];rw[hW];have hp:=hlenI y hy x.Elem;simp only[oZ3];rw[if_pos (bn (by simp;omega))];have ep:vpays ts x.Elem [y]=[vpay ts x.Elem y]:=by rw[vpays,vpays]
     rw[ep];rfl
    | a::b::c,h=>simp at h
end
theorem SaysP.says{α:Type}{o:Option Bool}{a b:α}(h:Says o a b):SaysP o (a=b):=h
theorem and3S {o1 o2 o3 : Option Bool} {P1 P2 P3 : Prop} (h1 : SaysP o1 P1) (h2 : SaysP o2 P2) (h3 : SaysP o3 P3):
 SaysP (o1 >>=fun r_6=>(if r_6=true then o2 else some false) >>=fun r_7=>some (bif r_6 then r_7 else false) >>=fun t53=>(if t53=true then o3 else some false) >>=fun r_8=>some (bif t53 then r_8 else false)) (P1/\P2/\P3):=by
 obtain⟨a,rfl,h1⟩:=h1;obtain⟨b,rfl,h2⟩:=h2;obtain⟨c,rfl,h3⟩:=h3;rw[<-h1,<-h2,<-h3];cases a <;> cases b <;> cases c <;> exact⟨_,rfl,by simp⟩
theorem Bn{o:Option Bool}{P:Prop}(h:SaysP o P):SaysP (o >>=fun r=>some r) P:=by grind
def fT(union:Bool)(Ms:List aj):Prop:=(∀m,m∈Ms->badM union m=false)/\(union=false\/0 < Ms.length)/\MAsc Ms/\(∀m,m∈Ms->nm m.Name=true)/\(Ms.map (·.Name)).Nodup/\Ms.length<=16
def m7(S:List aK):Prop:=0 < S.length/\(S.Pairwise (fun a b=>a.ID < b.ID)/\∀y,y∈S->I1000 y.ID)/\(∀y,y∈S->nm y.Name=true)/\(S.map (·.Name)).Nodup/\S.length<=16
theorem Hq{l:List (List UInt8)}:l.Nodup↔∀i,i < l.length->(l.take i).contains (l.getD i [])=false:=by
 unfold List.Nodup;rw[List.pairwise_iff_getElem];constructor
 . intro h i hi;apply Bool.eq_false_iff.2;intro hc;obtain⟨k,hk,he⟩:=(ft (by omega)).1 hc
   grind
 . intro h k i hk' hi hk he;have:=h i hi;rw[Bool.eq_false_iff]at this;apply this;refine(ft (by omega)).2 ⟨k,hk,?_⟩
   grind
theorem zX{α:Type}(f:α->Int)(g:α->List UInt8)(d:α)(l:List α):(∀i,i < l.length->idp (l.map f) (l.map g) i=true)↔(l.Pairwise (fun a b=>f a < f b)/\∀x,x∈l->I1000 (f x))/\(∀x,x∈l->nm (g x)=true)/\(l.map g).Nodup:=by
 rw[pA f d,Hq];have key:∀i,i < l.length->(idp (l.map f) (l.map g) i=true↔I1000 (f (l.getD i d))/\(i=0\/f (l.getD (i - 1) d) < f (l.getD i d))/\nm (g (l.getD i d))=true/\((l.map g).take i).contains ((l.map g).getD i [])=false):=by
  intro i hi;unfold idp I1000
  grind
 constructor
 . intro h;refine⟨⟨fun i hi=>?_,fun x hx=>?_⟩,fun x hx=>?_,fun i hi=>?_⟩
   . grind
   . obtain⟨i,hi,rfl⟩:=List.getElem_of_mem hx
     grind
   . obtain⟨i,hi,rfl⟩:=List.getElem_of_mem hx
     grind
   grind
 . rintro ⟨⟨h1,h2⟩,h3,h4⟩ i hi
   refine(key i hi).2 ⟨h2 _ (aB hi d),?_,h3 _ (aB hi d),h4 i (by simpa using hi)⟩;by_cases h0:i=0
   . omega
   . right;have:=h1 (i - 1) (by omega);have e:i - 1+1=i:=by omega
     grind
theorem xV{t:ae}(h:OkT t):SaysP (iu t) ((∀m,m∈t.Members->badM (decide (t.Kind=6)) m=false)/\(t.Kind=5\/0 < t.Members.length)/\MAsc t.Members/\(∀m,m∈t.Members->nm m.Name=true)/\(t.Members.map (·.Name)).Nodup/\t.Members.length<=16):=by
 obtain⟨r,h1,h2⟩:=wS h;refine⟨r,h1,h2.trans ?_⟩;rw[zX (fun m:aj=>m.ID) (fun m:aj=>m.Name) ag];have e:(∀i,i < t.Members.length->badM (decide (t.Kind=6)) (t.Members.getD i ag)=false)↔∀m,m∈t.Members->badM (decide (t.Kind=6)) m=false:=by
  constructor
  . intro h m hm;obtain⟨i,hi,rfl⟩:=List.getElem_of_mem hm
    grind
  grind
 rw[e];unfold MAsc
 grind
theorem IB{l:List aK}(hl:l.length*24<=reachBytes):SaysP (jy l) (m7 l):=by
 obtain⟨r,h1,h2⟩:=zO hl;refine⟨r,h1,h2.trans ?_⟩;rw[zX (fun m:aK=>m.ID) (fun m:aK=>m.Name) aP];unfold m7
 grind
def FormP(t:ae):Prop:=
 (t.Kind=1/\t.Name=[]/\t.Low=0/\t.High=0/\t.Max=0/\t.Symbols=[]/\t.Members=[]/\t.Key=0/\t.Elem=0/\t.Open=false)\/
 (t.Kind=2/\t.Name=[]/\t.Low<=t.High/\t.Max=0/\t.Symbols=[]/\t.Members=[]/\t.Key=0/\t.Elem=0/\t.Open=false)\/
 (t.Kind=3/\t.Name=[]/\t.Low=0/\t.High=0/\(0<=t.Max/\t.Max<=200)/\t.Symbols=[]/\t.Members=[]/\t.Key=0/\t.Elem=0/\t.Open=false)\/
 (t.Kind=4/\nm t.Name=true/\t.Low=0/\t.High=0/\t.Max=0/\m7 t.Symbols/\t.Members=[]/\t.Key=0/\t.Elem=0)\/
 (t.Kind=5/\nm t.Name=true/\t.Low=0/\t.High=0/\t.Max=0/\t.Symbols=[]/\fT false t.Members/\t.Key=0/\t.Elem=0/\t.Open=false)\/
 (t.Kind=6/\nm t.Name=true/\t.Low=0/\t.High=0/\t.Max=0/\t.Symbols=[]/\fT true t.Members/\t.Key=0/\t.Elem=0)\/
 (t.Kind=7/\t.Name=[]/\t.Low=0/\t.High=0/\(0<=t.Max/\t.Max<=50)/\t.Symbols=[]/\t.Members=[]/\t.Key=0/\t.Open=false)\/
 (t.Kind=8/\t.Name=[]/\t.Low=0/\t.High=0/\(0<=t.Max/\t.Max<=50)/\t.Symbols=[]/\t.Members=[]/\t.Open=false)\/
 (t.Kind=9/\t.Name=[]/\t.Low=0/\t.High=0/\t.Max=0/\t.Symbols=[]/\t.Members=[]/\t.Key=0/\t.Open=false)
theorem IC{t:ae}(h:OkT t):SaysP (bl t) (FormP t):=by
 have hz:OkT (⟨0,[],0,0,0,[],[],0,0,false⟩:ae):=⟨by simp,by simp,by simp⟩
 obtain⟨Kd,N,L,H,M,S,Ms,K,E,O⟩:=t;have hS:=h.syms;have hMs:=h.mems;have hd:=h.dv;simp only at hS hMs hd;by_cases k1:Kd=1
 . subst k1;have a:=ca (a:=(⟨0,N,L,H,M,S,Ms,K,E,O⟩:ae)) ⟨hS,hMs,hd⟩ (⟨0,[],0,0,0,[],[],0,0,false⟩:ae);refine(Bn (SaysP.says a)).imp ?_;unfold FormP;simp
 by_cases k2:Kd=2
 . subst k2;have a:=ca (a:=(⟨0,N,0,0,M,S,Ms,K,E,O⟩:ae)) ⟨hS,hMs,hd⟩ (⟨0,[],0,0,0,[],[],0,0,false⟩:ae);refine(and2S (q:=decide (L<=H)) (Q:=L<=H) (by simp) (SaysP.says a)).imp (Q:=FormP ⟨2,N,L,H,M,S,Ms,K,E,O⟩) ?_;unfold FormP
   grind
 by_cases k3:Kd=3
 . subst k3;have a:=ca (a:=(⟨0,N,L,H,0,S,Ms,K,E,O⟩:ae)) ⟨hS,hMs,hd⟩ (⟨0,[],0,0,0,[],[],0,0,false⟩:ae);refine(and2S (q:=bif decide (0<=M)then decide (M<=200)else false) (Q:=0<=M/\M<=200) (by by_cases g:0<=M <;> simp[g]) (SaysP.says a)).imp (Q:=FormP ⟨3,N,L,H,M,S,Ms,K,E,O⟩) ?_;unfold FormP
   grind
 by_cases k4:Kd=4
 . subst k4;have a:=ca (a:=(⟨0,[],L,H,M,[],Ms,K,E,false⟩:ae)) ⟨by simp,hMs,hd⟩ (⟨0,[],0,0,0,[],[],0,0,false⟩:ae);refine(and3S (⟨nm N,lexNm N,Iff.rfl⟩:SaysP (cK N) (nm N=true)) (IB hS) (SaysP.says a)).imp (Q:=FormP ⟨4,N,L,H,M,S,Ms,K,E,O⟩) ?_;unfold FormP
   grind
 by_cases k5:Kd=5
 . subst k5;have a:=ca (a:=(⟨0,[],L,H,M,S,[],K,E,bif O then decide ((5:Int)=5)else false⟩:ae)) ⟨hS,by simp,by simp⟩ (⟨0,[],0,0,0,[],[],0,0,false⟩:ae);refine(and3S (⟨nm N,lexNm N,Iff.rfl⟩:SaysP (cK N) (nm N=true)) (xV h) (SaysP.says a)).imp (Q:=FormP ⟨5,N,L,H,M,S,Ms,K,E,O⟩) ?_;unfold FormP fT
   grind
 by_cases k6:Kd=6
 . subst k6;have a:=ca (a:=(⟨0,[],L,H,M,S,[],K,E,bif O then decide ((6:Int)=5)else false⟩:ae)) ⟨hS,by simp,by simp⟩ (⟨0,[],0,0,0,[],[],0,0,false⟩:ae);refine(and3S (⟨nm N,lexNm N,Iff.rfl⟩:SaysP (cK N) (nm N=true)) (xV h) (SaysP.says a)).imp (Q:=FormP ⟨6,N,L,H,M,S,Ms,K,E,O⟩) ?_;unfold FormP fT
   grind
 by_cases k7:Kd=7
 . subst k7;have a:=ca (a:=(⟨0,N,L,H,0,S,Ms,K,0,O⟩:ae)) ⟨hS,hMs,hd⟩ (⟨0,[],0,0,0,[],[],0,0,false⟩:ae);refine(and2S (q:=bif decide (0<=M)then decide (M<=50)else false) (Q:=0<=M/\M<=50) (by by_cases g:0<=M <;> simp[g]) (SaysP.says a)).imp (Q:=FormP ⟨7,N,L,H,M,S,Ms,K,E,O⟩) ?_;unfold FormP
   grind
 by_cases k8:Kd=8
 . subst k8;have a:=ca (a:=(⟨0,N,L,H,0,S,Ms,0,0,O⟩:ae)) ⟨hS,hMs,hd⟩ (⟨0,[],0,0,0,[],[],0,0,false⟩:ae);refine(and2S (q:=bif decide (0<=M)then decide (M<=50)else false) (Q:=0<=M/\M<=50) (by by_cases g:0<=M <;> simp[g]) (SaysP.says a)).imp (Q:=FormP ⟨8,N,L,H,M,S,Ms,K,E,O⟩) ?_;unfold FormP
   grind
 by_cases k9:Kd=9
 . subst k9;have a:=ca (a:=(⟨0,N,L,H,M,S,Ms,K,0,O⟩:ae)) ⟨hS,hMs,hd⟩ (⟨0,[],0,0,0,[],[],0,0,false⟩:ae);refine(Bn (SaysP.says a)).imp (Q:=FormP ⟨9,N,L,H,M,S,Ms,K,E,O⟩) ?_;unfold FormP;simp
 refine⟨false,by simp[bl,k1,k2,k3,k4,k5,k6,k7,k8,k9],?_⟩;unfold FormP
 grind
structure VOk (ts:List ae):Prop where
 n:ts.length<=32
 F:∀t,t∈ts->FormP t
 D:∀i,i < ts.length->(!(decide ((ts.getD i ap).Name=[])) && ((ts.map (·.Name)).take i).contains (ts.getD i ap).Name)=false
 U:∀t,t∈ts->∀u,u∈usesL t->0<=u/\u < ts.length
 Ky:∀t,t∈ts->t.Kind=8->1<=(ts.getD t.Key.toNat ap).Kind/\(ts.getD t.Key.toNat ap).Kind<=4
theorem Ht {ts : List ae} (hT : ∀ t, t ∈ ts -> OkT t) {i : Nat} (hi : i < ts.length): stepV ts i = none ↔ FormP (ts.getD i ap) /\ (!(decide ((ts.getD i ap).Name = [])) && ((ts.map (·.Name)).take i).contains (ts.getD i ap).Name) = false /\ (∀ u, u ∈ usesL (ts.getD i ap) -> 0 <= u /\ u < ts.length) /\
 ((ts.getD i ap).Kind=8->1<=(ts.getD (ts.getD i ap).Key.toNat ap).Kind/\(ts.getD (ts.getD i ap).Key.toNat ap).Kind<=4):=by
 obtain⟨r,f1,f2⟩:=IC (hT _ (aB hi ap));rw[sF rfl f1,<-f2];have hu:(usesL (ts.getD i ap)).any (outB ts.length)=false↔∀u,u∈usesL (ts.getD i ap)->0<=u/\u < ts.length:=by
  rw[List.any_eq_false];constructor
  . intro h u hu;have:=h u hu;unfold outB at this
    grind
  . intro h u hu;have:=h u hu;unfold outB
    grind
 rw[<-hu];generalize (usesL (ts.getD i ap)).any (outB ts.length)=b;generalize (!(decide ((ts.getD i ap).Name=[])) && ((ts.map (·.Name)).take i).contains (ts.getD i ap).Name)=c
 have hk:(decide ((ts.getD i ap).Kind=8) && !(keyB (ts.getD (ts.getD i ap).Key.toNat ap).Kind))=false↔((ts.getD i ap).Kind=8->1<=(ts.getD (ts.getD i ap).Key.toNat ap).Kind/\(ts.getD (ts.getD i ap).Key.toNat ap).Kind<=4):=by
  unfold keyB
  grind
 rw[<-hk];generalize (decide ((ts.getD i ap).Kind=8) && !(keyB (ts.getD (ts.getD i ap).Key.toNat ap).Kind))=d;cases r <;> cases b <;> cases c <;> cases d <;> simp
theorem oZ{ts:List ae}(hT:∀t,t∈ts->OkT t)(h:VOk ts):iB (⟨ts⟩:az)=some 0/\lc (⟨ts⟩:az)=some 0:=by
 obtain⟨e,h1,h2,_,h4⟩:=Hl (s:=⟨ts⟩) (by have:=h.n;unfold reachBytes;show ts.length<=_;omega) hT;have e0:e=0:=h4 ⟨h.n,fun i hi=>(Ht hT hi).2 ⟨h.F _ (aB hi ap),h.D i hi,h.U _ (aB hi ap),h.Ky _ (aB hi ap)⟩⟩
 grind
theorem VOk.sok{ts:List ae}(hT:∀t,t∈ts->OkT t)(h:VOk ts):SOk ts:=by
 refine⟨by have:=h.n;omega,hT,fun t ht=>?_,fun t ht m hm=>?_,fun t ht hk=>?_,fun t ht hk y hy=>?_,h.Ky⟩
 . have:=h.F t ht;unfold FormP at this;unfold fS;omega
 . have:=h.F t ht;unfold FormP at this;have hne:t.Members≠[]:=by intro e;rw[e]at hm;cases hm
   have:fT false t.Members\/fT true t.Members:=by grind
   rcases this with a | a
   . exact(a.2.2.1.2 m hm).2
   . exact(a.2.2.1.2 m hm).2
 . have:=h.F t ht;unfold FormP at this;have:fT false t.Members\/fT true t.Members:=by grind
   rcases this with a | a
   . exact⟨a.2.2.1,a.2.2.2.2.2⟩
   . exact⟨a.2.2.1,a.2.2.2.2.2⟩
 . have:=h.F t ht;unfold FormP at this;have:m7 t.Symbols:=by grind
   exact this.2.1.2 y hy
end
end Go.Proofs.YtandcioiaooocaaGreat
