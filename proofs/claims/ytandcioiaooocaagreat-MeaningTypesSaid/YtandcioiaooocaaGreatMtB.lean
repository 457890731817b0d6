/- The functions of the program as functions of Lean, that its code does what they say, and what they answer; part B. -/
import Derived.Test.YtandcioiaooocaaGreatMtA

namespace Go.Proofs.YtandcioiaooocaaGreat
set_option linter.all false
section
open Go Go.Proofs.YtandcioiaooocaaGreat.Shv
open Tryz
set_option maxRecDepth 100000
def bu(x_:List db×Int×List aM):Option (List aM):=
 match x_ with
 | (l_2,i,b_1)=>
 if(bif decide (i < (l_2.length:Int))then decide (0 < (b_1.length:Int))else false)=true then
 if inR i l_2.length=true then
 some (l_2.getD i.toNat dU) >>=fun x0=>
 some (b_1.length:Int) >>=fun t38=>
 if(!(decide (t38=0)))=true then
 some (remI (wrp .i64 x0.Node) t38) >>=fun t39=>
 if inR t39 b_1.length=true then
 if decide (t39.toNat < b_1.length)=true then
 some (b_1.getD t39.toNat aw).Parts >>=fun t46=>
 if room 3 ([]++t46).length=true then
 some ([]++t46) >>=fun l_3=>
 if decide (t39.toNat < b_1.length)=true then
 if decide (t39.toNat=t39.toNat)=true then
 let k_1:=fun z1_0=>
 some (remI x0.Kind 8) >>=fun t67_1=>
 if decide (t67_1=0)=true then
 if decide (t39.toNat < b_1.length)=true then
 some (subI .u8 (addI .u8 (b_1.getD t39.toNat aw).A (remI x0.A 5)) 2) >>=fun t103_1=>
 if decide (t39.toNat < b_1.length)=true then
 bu (l_2,addI .i64 i 1,(b_1.set t39.toNat (⟨(b_1.getD t39.toNat aw).Kind,t103_1,(b_1.getD t39.toNat aw).B,(b_1.getD t39.toNat aw).C,(b_1.getD t39.toNat aw).Parts⟩:aM)).set t39.toNat (⟨((b_1.set t39.toNat (⟨(b_1.getD t39.toNat aw).Kind,t103_1,(b_1.getD t39.toNat aw).B,(b_1.getD t39.toNat aw).C,(b_1.getD t39.toNat aw).Parts⟩:aM)).getD t39.toNat aw).Kind,((b_1.set t39.toNat (⟨(b_1.getD t39.toNat aw).Kind,t103_1,(b_1.getD t39.toNat aw).B,(b_1.getD t39.toNat aw).C,(b_1.getD t39.toNat aw).Parts⟩:aM)).getD t39.toNat aw).A,((b_1.set t39.toNat (⟨(b_1.getD t39.toNat aw).Kind,t103_1,(b_1.getD t39.toNat aw).B,(b_1.getD t39.toNat aw).C,(b_1.getD t39.toNat aw).Parts⟩:aM)).getD t39.toNat aw).B,((b_1.set t39.toNat (⟨(b_1.getD t39.toNat aw).Kind,t103_1,(b_1.getD t39.toNat aw).B,(b_1.getD t39.toNat aw).C,(b_1.getD t39.toNat aw).Parts⟩:aM)).getD t39.toNat aw).C,l_3⟩:aM))
 else none
 else none
 else
 if decide (t67_1=1)=true then
 if decide (t39.toNat < b_1.length)=true then
 some (subI .u8 (addI .u8 (b_1.getD t39.toNat aw).B (remI x0.B 5)) 2) >>=fun t117_1=>
 if decide (t39.toNat < b_1.length)=true then
 bu (l_2,addI .i64 i 1,(b_1.set t39.toNat (⟨(b_1.getD t39.toNat aw).Kind,(b_1.getD t39.toNat aw).A,t117_1,(b_1.getD t39.toNat aw).C,(b_1.getD t39.toNat aw).Parts⟩:aM)).set t39.toNat (⟨((b_1.set t39.toNat (⟨(b_1.getD t39.toNat aw).Kind,(b_1.getD t39.toNat aw).A,t117_1,(b_1.getD t39.toNat aw).C,(b_1.getD t39.toNat aw).Parts⟩:aM)).getD t39.toNat aw).Kind,((b_1.set t39.toNat (⟨(b_1.getD t39.toNat aw).Kind,(b_1.getD t39.toNat aw).A,t117_1,(b_1.getD t39.toNat aw).C,(b_1.getD t39.toNat aw).Parts⟩:aM)).getD t39.toNat aw).A,((b_1.set t39.toNat (⟨(b_1.getD t39.toNat aw).Kind,(b_1.getD t39.toNat aw).A,t117_1,(b_1.getD t39.toNat aw).C,(b_1.getD t39.toNat aw).Parts⟩:aM)).getD t39.toNat aw).B,((b_1.set t39.toNat (⟨(b_1.getD t39.toNat aw).Kind,(b_1.getD t39.toNat aw).A,t117_1,(b_1.getD t39.toNat aw).C,(b_1.getD t39.toNat aw).Parts⟩:aM)).getD t39.toNat aw).C,l_3⟩:aM))
 else none
 else none
 else
 if decide (t67_1=2)=true then
 if decide (t39.toNat < b_1.length)=true then
 some (remI x0.A 6) >>=fun t129_1=>
 if decide (0<=t129_1)=true then
 some (xorI .u8 (b_1.getD t39.toNat aw).A (shlI .u8 1 t129_1)) >>=fun t131_1=>
 if decide (t39.toNat < b_1.length)=true then
 bu (l_2,addI .i64 i 1,(b_1.set t39.toNat (⟨(b_1.getD t39.toNat aw).Kind,t131_1,(b_1.getD t39.toNat aw).B,(b_1.getD t39.toNat aw).C,(b_1.getD t39.toNat aw).Parts⟩:aM)).set t39.toNat (⟨((b_1.set t39.toNat (⟨(b_1.getD t39.toNat aw).Kind,t131_1,(b_1.getD t39.toNat aw).B,(b_1.getD t39.toNat aw).C,(b_1.getD t39.toNat aw).Parts⟩:aM)).getD t39.toNat aw).Kind,((b_1.set t39.toNat (⟨(b_1.getD t39.toNat aw).Kind,t131_1,(b_1.getD t39.toNat aw).B,(b_1.getD t39.toNat aw).C,(b_1.getD t39.toNat aw).Parts⟩:aM)).getD t39.toNat aw).A,((b_1.set t39.toNat (⟨(b_1.getD t39.toNat aw).Kind,t131_1,(b_1.getD t39.toNat aw).B,(b_1.getD t39.toNat aw).C,(b_1.getD t39.toNat aw).Parts⟩:aM)).getD t39.toNat aw).B,((b_1.set t39.toNat (⟨(b_1.getD t39.toNat aw).Kind,t131_1,(b_1.getD t39.toNat aw).B,(b_1.getD t39.toNat aw).C,(b_1.getD t39.toNat aw).Parts⟩:aM)).getD t39.toNat aw).C,l_3⟩:aM))
 else none
 else none
 else none
 else
 if decide (t67_1=3)=true then
 if decide (t39.toNat < b_1.length)=true then
 some (addI .u8 (b_1.getD t39.toNat aw).C x0.A) >>=fun t143_1=>
 if decide (t39.toNat < b_1.length)=true then
 bu (l_2,addI .i64 i 1,(b_1.set t39.toNat (⟨(b_1.getD t39.toNat aw).Kind,(b_1.getD t39.toNat aw).A,(b_1.getD t39.toNat aw).B,t143_1,(b_1.getD t39.toNat aw).Parts⟩:aM)).set t39.toNat (⟨((b_1.set t39.toNat (⟨(b_1.getD t39.toNat aw).Kind,(b_1.getD t39.toNat aw).A,(b_1.getD t39.toNat aw).B,t143_1,(b_1.getD t39.toNat aw).Parts⟩:aM)).getD t39.toNat aw).Kind,((b_1.set t39.toNat (⟨(b_1.getD t39.toNat aw).Kind,(b_1.getD t39.toNat aw).A,(b_1.getD t39.toNat aw).B,t143_1,(b_1.getD t39.toNat aw).Parts⟩:aM)).getD t39.toNat aw).A,((b_1.set t39.toNat (⟨(b_1.getD t39.toNat aw).Kind,(b_1.getD t39.toNat aw).A,(b_1.getD t39.toNat aw).B,t143_1,(b_1.getD t39.toNat aw).Parts⟩:aM)).getD t39.toNat aw).B,((b_1.set t39.toNat (⟨(b_1.getD t39.toNat aw).Kind,(b_1.getD t39.toNat aw).A,(b_1.getD t39.toNat aw).B,t143_1,(b_1.getD t39.toNat aw).Parts⟩:aM)).getD t39.toNat aw).C,l_3⟩:aM))
 else none
 else none
 else
 if decide (t67_1=4)=true then
 if decide (t39.toNat=t39.toNat)=true then
 if decide ((l_3.length:Int) < 8)=true then
 if decide (t39.toNat=t39.toNat)=true then
 some [(⟨x0.A,x0.B,quoI .u8 x0.A 12⟩:df)] >>=fun t167_1=>
 if room 3 (l_3++t167_1).length=true then
 if decide (t39.toNat=t39.toNat)=true then
 bu (l_2,addI .i64 i 1,b_1.set t39.toNat (⟨(b_1.getD t39.toNat aw).Kind,(b_1.getD t39.toNat aw).A,(b_1.getD t39.toNat aw).B,(b_1.getD t39.toNat aw).C,l_3++t167_1⟩:aM))
 else none
 else none
 else none
 else
 bu (l_2,addI .i64 i 1,b_1.set t39.toNat (⟨(b_1.getD t39.toNat aw).Kind,(b_1.getD t39.toNat aw).A,(b_1.getD t39.toNat aw).B,(b_1.getD t39.toNat aw).C,l_3⟩:aM))
 else none
 else
 if decide (t67_1=5)=true then
 if decide (t39.toNat=t39.toNat)=true then
 if decide (0 < (l_3.length:Int))=true then
 if decide (t39.toNat=t39.toNat)=true then
 if slR 0 z1_0 l_3.length=true then
 if decide (t39.toNat=t39.toNat)=true then
 some (addI .i64 z1_0 1) >>=fun t191_1=>
 if slR t191_1 (l_3.length:Int) l_3.length=true then
 if(decide (z1_0.toNat+((l_3.length:Int).toNat - t191_1.toNat)<=l_3.length) && decide (t191_1.toNat+((l_3.length:Int).toNat - t191_1.toNat)<=l_3.length))=true then
 if decide (t39.toNat=t39.toNat)=true then
 bu (l_2,addI .i64 i 1,b_1.set t39.toNat (⟨(b_1.getD t39.toNat aw).Kind,(b_1.getD t39.toNat aw).A,(b_1.getD t39.toNat aw).B,(b_1.getD t39.toNat aw).C,l_3.take z1_0.toNat++(l_3.drop t191_1.toNat).take ((l_3.length:Int).toNat - t191_1.toNat)⟩:aM))
 else none
 else none
 else none
 else none
 else none
 else none
 else
 bu (l_2,addI .i64 i 1,b_1.set t39.toNat (⟨(b_1.getD t39.toNat aw).Kind,(b_1.getD t39.toNat aw).A,(b_1.getD t39.toNat aw).B,(b_1.getD t39.toNat aw).C,l_3⟩:aM))
 else none
 else
 if decide (t67_1=6)=true then
 if decide (t39.toNat=t39.toNat)=true then
 if decide (0 < (l_3.length:Int))=true then
 if decide (t39.toNat=t39.toNat)=true then
 if inR z1_0 l_3.length=true then
 if decide (z1_0.toNat < l_3.length)=true then
 bu (l_2,addI .i64 i 1,b_1.set t39.toNat (⟨(b_1.getD t39.toNat aw).Kind,(b_1.getD t39.toNat aw).A,(b_1.getD t39.toNat aw).B,(b_1.getD t39.toNat aw).C,l_3.set z1_0.toNat (⟨(l_3.getD z1_0.toNat bP).ID,(l_3.getD z1_0.toNat bP).Type_,x0.B⟩:df)⟩:aM))
 else none
 else none
 else none
 else
 bu (l_2,addI .i64 i 1,b_1.set t39.toNat (⟨(b_1.getD t39.toNat aw).Kind,(b_1.getD t39.toNat aw).A,(b_1.getD t39.toNat aw).B,(b_1.getD t39.toNat aw).C,l_3⟩:aM))
 else none
 else
 if decide (t39.toNat=t39.toNat)=true then
 if decide (0 < (l_3.length:Int))=true then
 if decide (t39.toNat=t39.toNat)=true then
 if decide (t39.toNat=t39.toNat)=true then
 if inR z1_0 l_3.length=true then
 if decide (z1_0.toNat < l_3.length)=true then
 if inR z1_0 l_3.length=true then
 if decide (z1_0.toNat < l_3.length)=true then
 bu (l_2,addI .i64 i 1,b_1.set t39.toNat (⟨(b_1.getD t39.toNat aw).Kind,(b_1.getD t39.toNat aw).A,(b_1.getD t39.toNat aw).B,(b_1.getD t39.toNat aw).C,l_3.set z1_0.toNat (⟨(l_3.getD z1_0.toNat bP).ID,addI .u8 (l_3.getD z1_0.toNat bP).Type_ x0.B,(l_3.getD z1_0.toNat bP).Flag⟩:df)⟩:aM))
 else none
 else none
 else none
 else none
 else none
 else none
 else
 bu (l_2,addI .i64 i 1,b_1.set t39.toNat (⟨(b_1.getD t39.toNat aw).Kind,(b_1.getD t39.toNat aw).A,(b_1.getD t39.toNat aw).B,(b_1.getD t39.toNat aw).C,l_3⟩:aM))
 else none
 if decide (0 < (l_3.length:Int))=true then
 if decide (t39.toNat=t39.toNat)=true then
 some (l_3.length:Int) >>=fun t63=>
 if(!(decide (t63=0)))=true then
 some (remI (wrp .i64 x0.A) t63) >>=fun t64=>
 k_1 t64
 else none
 else none
 else
 k_1 0
 else none
 else none
 else none
 else none
 else none
 else none
 else none
 else
 some b_1
  partial_fixpoint
theorem Ai :LC 31 0 [0] e31_0 bu:= .rc bu.partial_correctness .n .n fun _ _=>by kernel_rfl
def mq(x_:aT×List db):Option (aT):=
 match x_ with
 | (d,l)=>
 if room 32 ([]++d.Nodes).length=true then
 bu (l,0,[]++d.Nodes) >>=fun o=>
 some (⟨o⟩:aT)
 else none
theorem e31_k :KC e31:= .m (by kernel_rfl)
theorem AI :FC e31 mq:= .fn e31_k .n (.k Ai .n) fun _=>by kernel_rfl
def kB(c:dr):Option (av×av×Int×ab×Bool):=
 gU c.D >>=fun r=>
 mq (c.D.S,c.L) >>=fun r_6=>
 f9 r_6 >>=fun r_7=>
 some (bif bif (!r.2.2.2.2)then true else(!r_7.2)then true else decide (4 < (c.L.length:Int))) >>=fun t44=>
 (if(!t44)=true then mC (ab.eta r.2.2.1)else some false) >>=fun r_10=>
 if(bif t44 then true else(!r_10))=true then
 some ((⟨[]⟩:av),(⟨[]⟩:av),0,(⟨0,false,0,[],0,[],[],[]⟩:ab),false)
 else
 some (r.1,r_7.1,r.2.1,ab.eta r.2.2.1,true)
theorem e11_k :KC e11:= .m (by kernel_rfl)
theorem B4 :FC e11 kB:= .fn e11_k (.k BU (.k AI (.k sV (.k Be .n)))) .n fun _=>by kernel_rfl
def ct(path:List Int):Option (aP):=
 if room 8 ([]++path).length=true then
 some (⟨(⟨0,false,0,[],0,[],[],[]⟩:ab),[]++path,false⟩:aP)
 else none
theorem e68_k :KC e68:= .m (by kernel_rfl)
theorem mn :FC e68 ct:= .fn e68_k .n .n fun _=>by kernel_rfl
def iX(x_:Int×List UInt8):Option (List UInt8):=
 match x_ with
 | (n_1,out_1)=>
 if decide (0 < n_1)=true then
 some (strOf [wrp .u8 (remI n_1 256)]) >>=fun t10=>
 if decide (t10.length+out_1.length<=aU)=true then
 iX (quoI .u64 n_1 256,t10++out_1)
 else none
 else
 some out_1
  partial_fixpoint
theorem A0 :LC 83 0 [0] e83_0 iX:= .rc iX.partial_correctness .n .n fun _ _=>by kernel_rfl
def kr(n:Int):Option (List UInt8):=
 iX (n,[]) >>=fun o=>
 some o
theorem e83_k :KC e83:= .m (by kernel_rfl)
theorem BN :FC e83 kr:= .fn e83_k .n (.k A0 .n) fun _=>by kernel_rfl
def iY(x_:Int×List Int):Option (Int×List Int):=
 match x_ with
 | (n_2,b_1)=>
 if decide (128<=n_2)=true then
 some [wrp .u8 (addI .u64 (remI n_2 128) 128)] >>=fun t11=>
 if room 1 (b_1++t11).length=true then
 iY (quoI .u64 n_2 128,b_1++t11)
 else none
 else
 some (n_2,b_1)
  partial_fixpoint
theorem A1 :LC 85 0 [0] e85_0 iY:= .rc iY.partial_correctness .n .n fun _ _=>by kernel_rfl
def f8(n:Int):Option (List UInt8):=
 iY (n,[]) >>=fun o=>
 some [wrp .u8 o.1] >>=fun t18=>
 if room 1 (o.2++t18).length=true then
 some (strOf (o.2++t18))
 else none
theorem e85_k :KC e85:= .m (by kernel_rfl)
theorem o4 :FC e85 f8:= .fn e85_k .n (.k A1 .n) fun _=>by kernel_rfl
def f0(p:List UInt8):Option (List UInt8):=
 f8 (wrp .u64 (p.length:Int)) >>=fun r=>
 if decide (r.length+p.length<=aU)=true then
 some (r++p)
 else none
theorem e86_k :KC e86:= .m (by kernel_rfl)
theorem oV :FC e86 f0:= .fn e86_k (.k o4 .n) .n fun _=>by kernel_rfl
def kg(x_:Int×Bool×List UInt8):Option (List UInt8):=
 match x_ with
 | (id,critical,p)=>
 some (wrp .u64 (mulI .i64 2 id)) >>=fun t10=>
 if critical=true then
 f8 (addI .u64 t10 1) >>=fun r=>
 f0 p >>=fun r_1=>
 if decide (r.length+r_1.length<=aU)=true then
 some (r++r_1)
 else none
 else
 f8 t10 >>=fun r_2=>
 f0 p >>=fun r_3=>
 if decide (r_2.length+r_3.length<=aU)=true then
 some (r_2++r_3)
 else none
theorem e87_k :KC e87:= .m (by kernel_rfl)
theorem sD :FC e87 kg:= .fn e87_k (.k o4 (.k oV .n)) .n fun _=>by kernel_rfl
def dp(x_:List UInt8×Int×Int×List ae×ab×ae):Option (List UInt8×Int×List ae×ab×ae):=
 match x_ with
 | (out_9,id_4,k,b_18,b_19,b_20)=>
 if decide (k < (b_19.Rest.length:Int))=true then
 if inR k b_19.Rest.length=true then
 if decide ((b_19.Rest.getD k.toNat aC).ID=id_4)=true then
 if inR k b_19.Rest.length=true then
 kg (id_4,false,(b_19.Rest.getD k.toNat aC).Data) >>=fun r_22=>
 if decide (out_9.length+r_22.length<=aU)=true then
 dp (out_9++r_22,id_4,addI .i64 k 1,b_18,ab.eta b_19,b_20)
 else none
 else none
 else
 dp (out_9,id_4,addI .i64 k 1,b_18,ab.eta b_19,b_20)
 else none
 else
 some (out_9,id_4,b_18,ab.eta b_19,b_20)
  partial_fixpoint
theorem zV :LC 49 0 [0,2] x9 dp:= .rc dp.partial_correctness (.k sD .n) .n fun _ _=>by kernel_rfl
mutual
def cN(x_:av×Int×ab):Option (List UInt8):=
 match x_ with
 | (s,t,v)=>
 if inR t s.Types.length=true then
 some (s.Types.getD t.toNat ap) >>=fun x0=>
 if decide (x0.Kind=1)=true then
 if v.Bool_=true then
 some [1]
 else
 some []
 else
 if decide (x0.Kind=2)=true then
 iV v.Int_ >>=fun r=>
 kr r >>=fun r_1=>
 some r_1
 else
 if decide (x0.Kind=3)=true then
 some v.Str
 else
 if decide (x0.Kind=4)=true then
 kr (wrp .u64 v.ID) >>=fun r_2=>
 some r_2
 else
 if decide (x0.Kind=9)=true then
 if decide ((v.Items.length:Int)=0)=true then
 some []
 else
 if inR 0 v.Items.length=true then
 cN (s,x0.Elem,ab.eta (v.Items.getD (0:Int).toNat af)) >>=fun r_3=>
 if decide ([1].length+r_3.length<=aU)=true then
 some ([1]++r_3)
 else none
 else none
 else
 if decide (x0.Kind=6)=true then
 if decide (0 < (v.Rest.length:Int))=true then
 f8 (wrp .u64 v.ID) >>=fun r_4=>
 if inR 0 v.Rest.length=true then
 some (v.Rest.getD (0:Int).toNat aC) >>=fun x0_2=>
 if decide (r_4.length+x0_2.Data.length<=aU)=true then
 some (r_4++x0_2.Data)
 else none
 else none
 else
 cd (x0,v.ID) >>=fun r_5=>
 f8 (wrp .u64 v.ID) >>=fun r_8=>
 if inR r_5.1 x0.Members.length=true then
 if inR 0 v.Items.length=true then
 cN (s,(x0.Members.getD r_5.1.toNat ag).Type_,ab.eta (v.Items.getD (0:Int).toNat af)) >>=fun r_9=>
 if decide (r_8.length+r_9.length<=aU)=true then
 some (r_8++r_9)
 else none
 else none
 else none
 else
 if decide (x0.Kind=7)=true then
 gD ([],0,s.Types,ab.eta v,x0) >>=fun o=>
 some o
 else
 if decide (x0.Kind=8)=true then
 gE ([],0,s.Types,ab.eta v,x0) >>=fun o_1=>
 some o_1
 else
 eL ([],1,s.Types,ab.eta v,x0) >>=fun o_2=>
 some o_2
 else none
  partial_fixpoint
def gD(x_:List UInt8×Int×List ae×ab×ae):Option (List UInt8):=
 match x_ with
 | (out_3,i,b,b_1,b_2)=>
 if decide (i < (b_1.Items.length:Int))=true then
 if inR i b_1.Items.length=true then
 cN ((⟨b⟩:av),b_2.Elem,ab.eta (b_1.Items.getD i.toNat af)) >>=fun r_10=>
 f0 r_10 >>=fun r_11=>
 if decide (out_3.length+r_11.length<=aU)=true then
 gD (out_3++r_11,addI .i64 i 1,b,ab.eta b_1,b_2)
 else none
 else none
 else
 some out_3
  partial_fixpoint
def gE(x_:List UInt8×Int×List ae×ab×ae):Option (List UInt8):=
 match x_ with
 | (out_4,i_1,b_3,b_4,b_5)=>
 if decide (i_1 < (b_4.Items.length:Int))=true then
 if inR i_1 b_4.Keys.length=true then
 cN ((⟨b_3⟩:av),b_5.Key,ab.eta (b_4.Keys.getD i_1.toNat af)) >>=fun r_12=>
 f0 r_12 >>=fun r_13=>
 if decide (out_4.length+r_13.length<=aU)=true then
 some (out_4++r_13) >>=fun t144=>
 if inR i_1 b_4.Items.length=true then
 cN ((⟨b_3⟩:av),b_5.Elem,ab.eta (b_4.Items.getD i_1.toNat af)) >>=fun r_14=>
 f0 r_14 >>=fun r_15=>
 if decide (t144.length+r_15.length<=aU)=true then
 gE (t144++r_15,addI .i64 i_1 1,b_3,ab.eta b_4,b_5)
 else none
 else none
 else none
 else none
 else
 some out_4
  partial_fixpoint
def eL(x_:List UInt8×Int×List ae×ab×ae):Option (List UInt8):=
 match x_ with
 | (out_5,id,b_6,b_7,b_8)=>
 if decide (id<=1000)=true then
 cd (b_8,id) >>=fun r_16=>
 if r_16.2=true then
 if inR r_16.1 b_8.Members.length=true then
 some (b_8.Members.getD r_16.1.toNat ag) >>=fun x0_8=>
 some (!x0_8.HasDefault) >>=fun t175=>
 if(inR r_16.1 b_7.Items.length || (!(!t175)))=true then
 (if(!t175)=true then cr (ab.eta (b_7.Items.getD r_16.1.toNat af),ab.eta x0_8.Default)else some false) >>=fun r_19=>
 if(bif t175 then true else(!r_19))=true then
 if inR r_16.1 b_7.Items.length=true then
 cN ((⟨b_6⟩:av),x0_8.Type_,ab.eta (b_7.Items.getD r_16.1.toNat af)) >>=fun r_20=>
 kg (id,x0_8.Critical,r_20) >>=fun r_21=>
 if decide (out_5.length+r_21.length<=aU)=true then
 dp (out_5++r_21,id,0,b_6,ab.eta b_7,b_8) >>=fun o_3=>
 eL (o_3.1,addI .i64 o_3.2.1 1,o_3.2.2.1,ab.eta o_3.2.2.2.1,o_3.2.2.2.2)
 else none
 else none
 else
 dp (out_5,id,0,b_6,ab.eta b_7,b_8) >>=fun o_4=>
 eL (o_4.1,addI .i64 o_4.2.1 1,o_4.2.2.1,ab.eta o_4.2.2.2.1,o_4.2.2.2.2)
 else none
 else none
 else
 dp (out_5,id,0,b_6,ab.eta b_7,b_8) >>=fun o_5=>
 eL (o_5.1,addI .i64 o_5.2.1 1,o_5.2.2.1,ab.eta o_5.2.2.2.1,o_5.2.2.2.2)
 else
 some out_5
  partial_fixpoint
end
theorem e49_k :KC e49:= .m (by kernel_rfl)
theorem Aq :(∀h r,cN h=some r->FD e49 h r)/\(∀h r,eL h=some r->LD 49 0 [2] e49_2 h r)/\(∀h r,gE h=some r->LD 49 0 [1] e49_1 h r)/\(∀h r,gD h=some r->LD 49 0 [0] e49_0 h r):=cN.mutual_partial_correctness (FD e49) (LD 49 0 [2] e49_2) (LD 49 0 [1] e49_1) (LD 49 0 [0] e49_0)
 (fun _ _ _ _ h0 h1 h2 h3 _ _ h=>FA e49 e49_k (.k sn (.k BN (.k (FH e49 e49_k h0) (.k o4 (.k fP .n))))) (.k (LH e49_0 h3) (.k (LH e49_1 h2) (.k (LH e49_2 h1) .n))) (.trans (by kernel_rfl) h))
 (fun _ _ h0 h1 _ _ h=>LA e49_2 h1 (.k fP (.k ml (.k (FH e49 e49_k h0) (.k sD .n)))) (.k zV .n) (.trans (by kernel_rfl) h))
 (fun _ _ h0 h2 _ _ h=>LA e49_1 h2 (.k (FH e49 e49_k h0) (.k oV .n)) .n (.trans (by kernel_rfl) h))
 (fun _ _ h0 h3 _ _ h=>LA e49_0 h3 (.k (FH e49 e49_k h0) (.k oV .n)) .n (.trans (by kernel_rfl) h))
theorem sj :FC e49 cN:= .of e49_k Aq.1
def dZ(v:ab):Option (aP):=
 some (⟨ab.eta v,[],true⟩:aP)
theorem e73_k :KC e73:= .m (by kernel_rfl)
theorem oW :FC e73 dZ:= .fn e73_k .n .n fun _=>by kernel_rfl
def gg(x_:List Int×Int):Option (List Int):=
 match x_ with
 | (path,step)=>
 if room 8 ([]++path).length=true then
 some ([]++path) >>=fun l=>
 some [step] >>=fun t9=>
 if room 8 (l++t9).length=true then
 some (l++t9)
 else none
 else none
theorem e72_k :KC e72:= .m (by kernel_rfl)
theorem ko :FC e72 gg:= .fn e72_k .n .n fun _=>by kernel_rfl
def iO(x_:aj×ab):Option (Bool):=
 match x_ with
 | (m,v)=>
 (if m.HasDefault=true then j9 (ab.eta m.Default,ab.eta v)else some false) >>=fun r=>
 some (bif m.HasDefault then r else false)
theorem Kx :KC e107:= .m (by kernel_rfl)
theorem sd :FC e107 iO:= .fn Kx (.k sB .n) .n fun _=>by kernel_rfl
def dQ(x_:List Int×Int×List ae×ae×ab×ae×Int×Bool×Int×List UInt8×Int×Bool×Int×Bool×Int×List UInt8×Int×List ab×List aG):Option ((aP) ⊕ (Int×Bool×Int×List UInt8×Int×Bool×Int×Bool×Int×List UInt8×Int×List ab×List aG)):=
 match x_ with
 | (path_3,i,b_48,b_49,b_50,b_51,b_52,b_53,b_54,b_55,b_56,b_57,b_58,b_59,b_60,b_61,b_62,b_63,b_64)=>
 if decide (i < (b_49.Members.length:Int))=true then
 if inR i b_49.Members.length=true then
 some (b_49.Members.getD i.toNat ag) >>=fun x0_6=>
 cd (b_51,x0_6.ID) >>=fun r_11=>
 if r_11.2=true then
 dQ (path_3,addI .i64 i 1,b_48,b_49,ab.eta b_50,b_51,b_52,b_53,b_54,b_55,b_56,b_57,b_58,b_59,b_60,b_61,b_62,b_63,b_64)
 else
 if x0_6.Critical=true then
 gg (path_3,x0_6.ID) >>=fun r_14=>
 ct r_14 >>=fun r_15=>
 some (.inl (⟨ab.eta r_15.Value,r_15.Path,r_15.OK⟩:aP))
 else
 if inR i b_50.Items.length=true then
 iO ((⟨x0_6.ID,x0_6.Name,x0_6.Type_,x0_6.Critical,x0_6.HasDefault,ab.eta x0_6.Default⟩:aj),ab.eta (b_50.Items.getD i.toNat af)) >>=fun r_16=>
 if(!r_16)=true then
 if inR i b_50.Items.length=true then
 cN ((⟨b_48⟩:av),x0_6.Type_,ab.eta (b_50.Items.getD i.toNat af)) >>=fun r_17=>
 some [(⟨x0_6.ID,r_17⟩:aG)] >>=fun t170=>
 if room 24 (b_64++t170).length=true then
 dQ (path_3,addI .i64 i 1,b_48,b_49,ab.eta b_50,b_51,b_52,b_53,b_54,b_55,b_56,b_57,b_58,b_59,b_60,b_61,b_62,b_63,b_64++t170)
 else none
 else none
 else
 dQ (path_3,addI .i64 i 1,b_48,b_49,ab.eta b_50,b_51,b_52,b_53,b_54,b_55,b_56,b_57,b_58,b_59,b_60,b_61,b_62,b_63,b_64)
 else none
 else none
 else
 some (.inr (b_52,b_53,b_54,b_55,b_56,b_57,b_58,b_59,b_60,b_61,b_62,b_63,b_64))
  partial_fixpoint
theorem Ar :LC 71 0 [1] e71_1 dQ:= .rc dQ.partial_correctness (.k fP (.k ko (.k mn (.k sd (.k sj .n))))) .n fun _ _=>by kernel_rfl
mutual
def de(x_:av×Int×ab×av×Int×List Int):Option (aP):=
 match x_ with
 | (w,wt,v,r,rt,path)=>
 if inR wt w.Types.length=true then
 some (w.Types.getD wt.toNat ap) >>=fun x0=>
 if inR rt r.Types.length=true then
 some (r.Types.getD rt.toNat ap) >>=fun x0_1=>
 if(!(decide (x0.Kind=x0_1.Kind)))=true then
 ct path >>=fun r_1=>
 some (⟨ab.eta r_1.Value,r_1.Path,r_1.OK⟩:aP)
 else
 if(bif decide (x0.Kind=2)then bif decide (v.Int_ < x0_1.Low)then true else decide (x0_1.High < v.Int_)else false)=true then
 ct path >>=fun r_2=>
 some (⟨ab.eta r_2.Value,r_2.Path,r_2.OK⟩:aP)
 else
 if(bif decide (x0.Kind=3)then decide (x0_1.Max < (v.Str.length:Int))else false)=true then
 ct path >>=fun r_3=>
 some (⟨ab.eta r_3.Value,r_3.Path,r_3.OK⟩:aP)
 else
 if decide (x0.Kind=4)=true then
 iU (x0_1,v.ID) >>=fun r_4=>
 if(bif (!r_4.2)then(!x0_1.Open)else false)=true then
 ct path >>=fun r_7=>
 some (⟨ab.eta r_7.Value,r_7.Path,r_7.OK⟩:aP)
 else
 if(bif bif decide (x0.Kind=7)then true else decide (x0.Kind=8)then decide (x0_1.Max < (v.Items.length:Int))else false)=true then
 ct path >>=fun r_8=>
 some (⟨ab.eta r_8.Value,r_8.Path,r_8.OK⟩:aP)
 else
 if decide (x0.Kind=6)=true then
 kh (w,x0,ab.eta v,r,x0_1,path) >>=fun r_9=>
 some (⟨ab.eta r_9.Value,r_9.Path,r_9.OK⟩:aP)
 else
 if decide (x0.Kind=5)=true then
 j6 (w,x0,ab.eta v,r,x0_1,path) >>=fun r_10=>
 some (⟨ab.eta r_10.Value,r_10.Path,r_10.OK⟩:aP)
 else
 dS (path,0,w.Types,ab.eta v,r.Types,0,false,0,[],0,false,x0,x0_1,v.Kind,v.Bool_,v.Int_,v.Str,v.ID,v.Rest,[]) >>=fun o=>
 match o with
 | .inl o_1=>
 some (⟨ab.eta o_1.Value,o_1.Path,o_1.OK⟩:aP)
 | .inr o_2=>
 dT (o_2.1,0,o_2.2.1,ab.eta o_2.2.2.1,o_2.2.2.2.1,o_2.2.2.2.2.1,o_2.2.2.2.2.2.1,o_2.2.2.2.2.2.2.1,o_2.2.2.2.2.2.2.2.1,o_2.2.2.2.2.2.2.2.2.1,o_2.2.2.2.2.2.2.2.2.2.1,o_2.2.2.2.2.2.2.2.2.2.2.1,o_2.2.2.2.2.2.2.2.2.2.2.2.1,o_2.2.2.2.2.2.2.2.2.2.2.2.2.1,o_2.2.2.2.2.2.2.2.2.2.2.2.2.2.1,o_2.2.2.2.2.2.2.2.2.2.2.2.2.2.2.1,o_2.2.2.2.2.2.2.2.2.2.2.2.2.2.2.2.1,o_2.2.2.2.2.2.2.2.2.2.2.2.2.2.2.2.2.1,o_2.2.2.2.2.2.2.2.2.2.2.2.2.2.2.2.2.2.1,o_2.2.2.2.2.2.2.2.2.2.2.2.2.2.2.2.2.2.2,[]) >>=fun o_3=>
 match o_3 with
 | .inl o_4=>
 some (⟨ab.eta o_4.Value,o_4.Path,o_4.OK⟩:aP)
 | .inr o_5=>
 dZ (⟨o_5.2.2.2.2.2.2.1,o_5.2.2.2.2.2.2.2.1,o_5.2.2.2.2.2.2.2.2.1,o_5.2.2.2.2.2.2.2.2.2.1,o_5.2.2.2.2.2.2.2.2.2.2.1,o_5.2.2.2.2.2.2.2.2.2.2.2.2.1,o_5.2.2.2.2.2.2.2.2.2.2.2.2.2,o_5.2.2.2.2.2.2.2.2.2.2.2.1⟩:ab) >>=fun r_11=>
 some (⟨ab.eta r_11.Value,r_11.Path,r_11.OK⟩:aP)
 else
 if(bif bif decide (x0.Kind=7)then true else decide (x0.Kind=8)then decide (x0_1.Max < (v.Items.length:Int))else false)=true then
 ct path >>=fun r_12=>
 some (⟨ab.eta r_12.Value,r_12.Path,r_12.OK⟩:aP)
 else
 if decide (x0.Kind=6)=true then
 kh (w,x0,ab.eta v,r,x0_1,path) >>=fun r_13=>
 some (⟨ab.eta r_13.Value,r_13.Path,r_13.OK⟩:aP)
 else
 if decide (x0.Kind=5)=true then
 j6 (w,x0,ab.eta v,r,x0_1,path) >>=fun r_14=>
 some (⟨ab.eta r_14.Value,r_14.Path,r_14.OK⟩:aP)
 else
 dS (path,0,w.Types,ab.eta v,r.Types,0,false,0,[],0,false,x0,x0_1,v.Kind,v.Bool_,v.Int_,v.Str,v.ID,v.Rest,[]) >>=fun o_6=>
 match o_6 with
 | .inl o_7=>
 some (⟨ab.eta o_7.Value,o_7.Path,o_7.OK⟩:aP)
 | .inr o_8=>
 dT (o_8.1,0,o_8.2.1,ab.eta o_8.2.2.1,o_8.2.2.2.1,o_8.2.2.2.2.1,o_8.2.2.2.2.2.1,o_8.2.2.2.2.2.2.1,o_8.2.2.2.2.2.2.2.1,o_8.2.2.2.2.2.2.2.2.1,o_8.2.2.2.2.2.2.2.2.2.1,o_8.2.2.2.2.2.2.2.2.2.2.1,o_8.2.2.2.2.2.2.2.2.2.2.2.1,o_8.2.2.2.2.2.2.2.2.2.2.2.2.1,o_8.2.2.2.2.2.2.2.2.2.2.2.2.2.1,o_8.2.2.2.2.2.2.2.2.2.2.2.2.2.2.1,o_8.2.2.2.2.2.2.2.2.2.2.2.2.2.2.2.1,o_8.2.2.2.2.2.2.2.2.2.2.2.2.2.2.2.2.1,o_8.2.2.2.2.2.2.2.2.2.2.2.2.2.2.2.2.2.1,o_8.2.2.2.2.2.2.2.2.2.2.2.2.2.2.2.2.2.2,[]) >>=fun o_9=>
 match o_9 with
 | .inl o_10=>
 some (⟨ab.eta o_10.Value,o_10.Path,o_10.OK⟩:aP)
 | .inr o_11=>
 dZ (⟨o_11.2.2.2.2.2.2.1,o_11.2.2.2.2.2.2.2.1,o_11.2.2.2.2.2.2.2.2.1,o_11.2.2.2.2.2.2.2.2.2.1,o_11.2.2.2.2.2.2.2.2.2.2.1,o_11.2.2.2.2.2.2.2.2.2.2.2.2.1,o_11.2.2.2.2.2.2.2.2.2.2.2.2.2,o_11.2.2.2.2.2.2.2.2.2.2.2.1⟩:ab) >>=fun r_15=>
 some (⟨ab.eta r_15.Value,r_15.Path,r_15.OK⟩:aP)
 else none
 else none
  partial_fixpoint
def j6(x_:av×ae×ab×av×ae×List Int):Option (aP):=
 match x_ with
 | (w,x0,v,r,y,path)=>
 eO (path,0,w.Types,x0,ab.eta v,r.Types,y,0,false,0,[],0,false,v.Kind,false,0,[],0,[]) >>=fun o=>
 match o with
 | .inl o_1=>
 some (⟨ab.eta o_1.Value,o_1.Path,o_1.OK⟩:aP)
 | .inr o_2=>
 dQ (o_2.1,0,o_2.2.1,o_2.2.2.1,ab.eta o_2.2.2.2.1,o_2.2.2.2.2.1,o_2.2.2.2.2.2.1,o_2.2.2.2.2.2.2.1,o_2.2.2.2.2.2.2.2.1,o_2.2.2.2.2.2.2.2.2.1,o_2.2.2.2.2.2.2.2.2.2.1,o_2.2.2.2.2.2.2.2.2.2.2.1,o_2.2.2.2.2.2.2.2.2.2.2.2.1,o_2.2.2.2.2.2.2.2.2.2.2.2.2.1,o_2.2.2.2.2.2.2.2.2.2.2.2.2.2.1,o_2.2.2.2.2.2.2.2.2.2.2.2.2.2.2.1,o_2.2.2.2.2.2.2.2.2.2.2.2.2.2.2.2.1,o_2.2.2.2.2.2.2.2.2.2.2.2.2.2.2.2.2,[]) >>=fun o_3=>
 match o_3 with
 | .inl o_4=>
 some (⟨ab.eta o_4.Value,o_4.Path,o_4.OK⟩:aP)
 | .inr o_5=>
 dZ (⟨o_5.2.2.2.2.2.2.1,o_5.2.2.2.2.2.2.2.1,o_5.2.2.2.2.2.2.2.2.1,o_5.2.2.2.2.2.2.2.2.2.1,o_5.2.2.2.2.2.2.2.2.2.2.1,[],o_5.2.2.2.2.2.2.2.2.2.2.2.1,o_5.2.2.2.2.2.2.2.2.2.2.2.2⟩:ab) >>=fun r_1=>
 some (⟨ab.eta r_1.Value,r_1.Path,r_1.OK⟩:aP)
  partial_fixpoint
def kh(x_:av×ae×ab×av×ae×List Int):Option (aP):=
 match x_ with
 | (w,x0,v,r,y,path)=>
 cd (x0,v.ID) >>=fun r_1=>
 cd (y,v.ID) >>=fun r_4=>
 if(bif (!r_4.2)then(!y.Open)else false)=true then
 ct path >>=fun r_7=>
 some (⟨ab.eta r_7.Value,r_7.Path,r_7.OK⟩:aP)
 else
 if(!r_4.2)=true then
 if inR r_1.1 x0.Members.length=true then
 if inR 0 v.Items.length=true then
 cN (w,(x0.Members.getD r_1.1.toNat ag).Type_,ab.eta (v.Items.getD (0:Int).toNat af)) >>=fun r_8=>
 dZ (⟨v.Kind,false,0,[],v.ID,[],[],[(⟨v.ID,r_8⟩:aG)]⟩:ab) >>=fun r_9=>
 some (⟨ab.eta r_9.Value,r_9.Path,r_9.OK⟩:aP)
 else none
 else none
 else
 if inR r_1.1 x0.Members.length=true then
 if inR 0 v.Items.length=true then
 if inR r_4.1 y.Members.length=true then
 gg (path,v.ID) >>=fun r_10=>
 de (w,(x0.Members.getD r_1.1.toNat ag).Type_,ab.eta (v.Items.getD (0:Int).toNat af),r,(y.Members.getD r_4.1.toNat ag).Type_,r_10) >>=fun r_11=>
 if(!r_11.OK)=true then
 some (⟨ab.eta r_11.Value,r_11.Path,r_11.OK⟩:aP)
 else
 dZ (⟨v.Kind,false,0,[],v.ID,[],[ab.eta r_11.Value],[]⟩:ab) >>=fun r_12=>
 some (⟨ab.eta r_12.Value,r_12.Path,r_12.OK⟩:aP)
 else none
 else none
 else none
  partial_fixpoint
def dS(x_:List Int×Int×List ae×ab×List ae×Int×Bool×Int×List UInt8×Int×Bool×ae×ae×Int×Bool×Int×List UInt8×Int×List aG×List ab):Option ((aP) ⊕ (List Int×List ae×ab×List ae×Int×Bool×Int×List UInt8×Int×Bool×ae×ae×Int×Bool×Int×List UInt8×Int×List aG×List ab)):=
 match x_ with
 | (path_3,i,b_68,b_69,b_70,b_71,b_72,b_73,b_74,b_75,b_76,b_77,b_78,b_79,b_80,b_81,b_82,b_83,b_84,b_85)=>
 if decide (i < (b_69.Keys.length:Int))=true then
 if inR i b_69.Keys.length=true then
 gg (path_3,i) >>=fun r_16=>
 de ((⟨b_68⟩:av),b_77.Key,ab.eta (b_69.Keys.getD i.toNat af),(⟨b_70⟩:av),b_78.Key,r_16) >>=fun r_17=>
 if(!r_17.OK)=true then
 some (.inl (⟨ab.eta r_17.Value,r_17.Path,r_17.OK⟩:aP))
 else
 some [ab.eta r_17.Value] >>=fun t161=>
 if room 120 (b_85++t161).length=true then
 dS (path_3,addI .i64 i 1,b_68,ab.eta b_69,b_70,b_71,b_72,b_73,b_74,b_75,b_76,b_77,b_78,b_79,b_80,b_81,b_82,b_83,b_84,b_85++t161)
 else none
 else none
 else
 some (.inr (path_3,b_68,ab.eta b_69,b_70,b_71,b_72,b_73,b_74,b_75,b_76,b_77,b_78,b_79,b_80,b_81,b_82,b_83,b_84,b_85))
  partial_fixpoint
def dT(x_:List Int×Int×List ae×ab×List ae×Int×Bool×Int×List UInt8×Int×Bool×ae×ae×Int×Bool×Int×List UInt8×Int×List aG×List ab×List ab):Option ((aP) ⊕ (Int×Bool×Int×List UInt8×Int×Bool×Int×Bool×Int×List UInt8×Int×List aG×List ab×List ab)):=
 match x_ with
 | (path_4,i_1,b_86,b_87,b_88,b_89,b_90,b_91,b_92,b_93,b_94,b_95,b_96,b_97,b_98,b_99,b_100,b_101,b_102,b_103,b_104)=>
 if decide (i_1 < (b_87.Items.length:Int))=true then
 if inR i_1 b_87.Items.length=true then
 gg (path_4,i_1) >>=fun r_18=>
 de ((⟨b_86⟩:av),b_95.Elem,ab.eta (b_87.Items.getD i_1.toNat af),(⟨b_88⟩:av),b_96.Elem,r_18) >>=fun r_19=>
 if(!r_19.OK)=true then
 some (.inl (⟨ab.eta r_19.Value,r_19.Path,r_19.OK⟩:aP))
 else
 some [ab.eta r_19.Value] >>=fun t194=>
 if room 120 (b_104++t194).length=true then
 dT (path_4,addI .i64 i_1 1,b_86,ab.eta b_87,b_88,b_89,b_90,b_91,b_92,b_93,b_94,b_95,b_96,b_97,b_98,b_99,b_100,b_101,b_102,b_103,b_104++t194)
 else none
 else none
 else
 some (.inr (b_89,b_90,b_91,b_92,b_93,b_94,b_97,b_98,b_99,b_100,b_101,b_102,b_103,b_104))
  partial_fixpoint
def eO(x_:List Int×Int×List ae×ae×ab×List ae×ae×Int×Bool×Int×List UInt8×Int×Bool×Int×Bool×Int×List UInt8×Int×List ab):Option ((aP) ⊕ (List Int×List ae×ae×ab×ae×Int×Bool×Int×List UInt8×Int×Bool×Int×Bool×Int×List UInt8×Int×List ab)):=
 match x_ with
 | (path_2,k,b_31,b_32,b_33,b_34,b_35,b_36,b_37,b_38,b_39,b_40,b_41,b_42,b_43,b_44,b_45,b_46,b_47)=>
 if decide (k < (b_35.Members.length:Int))=true then
 if inR k b_35.Members.length=true then
 some (b_35.Members.getD k.toNat ag) >>=fun x0_1=>
 gg (path_2,x0_1.ID) >>=fun r_2=>
 cd (b_32,x0_1.ID) >>=fun r_3=>
 if(bif (!r_3.2)then(!x0_1.HasDefault)else false)=true then
 ct r_2 >>=fun r_6=>
 some (.inl (⟨ab.eta r_6.Value,r_6.Path,r_6.OK⟩:aP))
 else
 if(!r_3.2)=true then
 some [ab.eta x0_1.Default] >>=fun t65=>
 if room 120 (b_47++t65).length=true then
 eO (path_2,addI .i64 k 1,b_31,b_32,ab.eta b_33,b_34,b_35,b_36,b_37,b_38,b_39,b_40,b_41,b_42,b_43,b_44,b_45,b_46,b_47++t65)
 else none
 else
 if inR r_3.1 b_32.Members.length=true then
 if inR r_3.1 b_33.Items.length=true then
 de ((⟨b_31⟩:av),(b_32.Members.getD r_3.1.toNat ag).Type_,ab.eta (b_33.Items.getD r_3.1.toNat af),(⟨b_34⟩:av),x0_1.Type_,r_2) >>=fun r_7=>
 if inR r_3.1 b_32.Members.length=true then
 some (b_32.Members.getD r_3.1.toNat ag) >>=fun x0_4=>
 if inR r_3.1 b_33.Items.length=true then
 iO ((⟨x0_4.ID,x0_4.Name,x0_4.Type_,x0_4.Critical,x0_4.HasDefault,ab.eta x0_4.Default⟩:aj),ab.eta (b_33.Items.getD r_3.1.toNat af)) >>=fun r_8=>
 some (!r_7.OK) >>=fun t99=>
 (if(r_8 && (!t99))=true then iO ((⟨x0_1.ID,x0_1.Name,x0_1.Type_,x0_1.Critical,x0_1.HasDefault,ab.eta x0_1.Default⟩:aj),ab.eta r_7.Value)else some false) >>=fun r_9=>
 if(bif r_8 then bif t99 then true else(!r_9)else false)=true then
 ct r_2 >>=fun r_10=>
 some (.inl (⟨ab.eta r_10.Value,r_10.Path,r_10.OK⟩:aP))
 else
 if(!r_7.OK)=true then
 some (.inl (⟨ab.eta r_7.Value,r_7.Path,r_7.OK⟩:aP))
 else
 some [ab.eta r_7.Value] >>=fun t118=>
 if room 120 (b_47++t118).length=true then
 eO (path_2,addI .i64 k 1,b_31,b_32,ab.eta b_33,b_34,b_35,b_36,b_37,b_38,b_39,b_40,b_41,b_42,b_43,b_44,b_45,b_46,b_47++t118)
 else none
 else none
 else none
 else none
 else none
 else none
 else
 some (.inr (path_2,b_31,b_32,ab.eta b_33,b_35,b_36,b_37,b_38,b_39,b_40,b_41,b_42,b_43,b_44,b_45,b_46,b_47))
  partial_fixpoint
end
theorem e39_k :KC e39:= .m (by kernel_rfl)
theorem e71_k :KC e71:= .m (by kernel_rfl)
theorem e70_k :KC e70:= .m (by kernel_rfl)
theorem A2 :(∀h r,de h=some r->FD e39 h r)/\(∀h r,dT h=some r->LD 39 0 [1] e39_1 h r)/\(∀h r,dS h=some r->LD 39 0 [0] e39_0 h r)/\(∀h r,j6 h=some r->FD e71 h r)/\(∀h r,eO h=some r->LD 71 0 [0] e71_0 h r)/\(∀h r,kh h=some r->FD e70 h r):=de.mutual_partial_correctness (FD e39) (LD 39 0 [1] e39_1) (LD 39 0 [0] e39_0) (FD e71) (LD 71 0 [0] e71_0) (FD e70)
 (fun _ _ _ _ h1 h2 h3 h5 _ _ h=>FA e39 e39_k (.k mn (.k oM (.k (FH e70 e70_k h5) (.k (FH e71 e71_k h3) (.k oW .n))))) (.k (LH e39_0 h2) (.k (LH e39_1 h1) .n)) (.trans (by kernel_rfl) h))
 (fun _ _ h0 h1 _ _ h=>LA e39_1 h1 (.k ko (.k (FH e39 e39_k h0) .n)) .n (.trans (by kernel_rfl) h))
 (fun _ _ h0 h2 _ _ h=>LA e39_0 h2 (.k ko (.k (FH e39 e39_k h0) .n)) .n (.trans (by kernel_rfl) h))
 (fun _ h4 _ _ h=>FA e71 e71_k (.k oW .n) (.k (LH e71_0 h4) (.k Ar .n)) (.trans (by kernel_rfl) h))
 (fun _ _ h0 h4 _ _ h=>LA e71_0 h4 (.k ko (.k fP (.k mn (.k (FH e39 e39_k h0) (.k sd .n))))) .n (.trans (by kernel_rfl) h))
 (fun _ h0 _ _ h=>FA e70 e70_k (.k fP (.k mn (.k sj (.k oW (.k ko (.k (FH e39 e39_k h0) .n)))))) .n (.trans (by kernel_rfl) h))
theorem sF :FC e39 de:= .of e39_k A2.1
def mr(x_:av×Int×ab×av×Int):Option (ab×Int):=
 match x_ with
 | (w,wt,v,r,rt)=>
 kf (w,wt,ab.eta v,r,rt) >>=fun r_1=>
 if(!(decide (r_1=0)))=true then
 some ((⟨0,false,0,[],0,[],[],[]⟩:ab),r_1)
 else
 de (w,wt,ab.eta v,r,rt,[]) >>=fun r_2=>
 if(!r_2.OK)=true then
 some ((⟨0,false,0,[],0,[],[],[]⟩:ab),12)
 else
 some (ab.eta r_2.Value,0)
theorem e14_k :KC e14:= .m (by kernel_rfl)
theorem AK :FC e14 mr:= .fn e14_k (.k sC (.k sF .n)) .n fun _=>by kernel_rfl
def mu(x_:av×Int×ab×av×Int):Option (List Int×Int):=
 match x_ with
 | (w,wt,v,r,rt)=>
 kf (w,wt,ab.eta v,r,rt) >>=fun r_1=>
 if(!(decide (r_1=0)))=true then
 some ([],r_1)
 else
 de (w,wt,ab.eta v,r,rt,[]) >>=fun r_2=>
 if r_2.OK=true then
 some ([],15)
 else
 some (r_2.Path,0)
theorem e18_k :KC e18:= .m (by kernel_rfl)
theorem AL :FC e18 mu:= .fn e18_k (.k sC (.k sF .n)) .n fun _=>by kernel_rfl
def mg(x_:dr×Int):Option (Bool):=
 match x_ with
 | (c,k)=>
 kB c >>=fun r=>
 j8 () >>=fun r_6=>
 if(bif (!r_6)then true else(!r.2.2.2.2))=true then
 j8 () >>=fun r_7=>
 some r_7
 else
 some (r.2.1.Types.length:Int) >>=fun t38=>
 if(!(decide (t38=0)))=true then
 some (remI (wrp .i64 k) t38) >>=fun t39=>
 mK (r.1,r.2.2.1,ab.eta r.2.2.2.1,r.2.1,t39) >>=fun r_8=>
 mr (r.1,r.2.2.1,ab.eta r.2.2.2.1,r.2.1,t39) >>=fun r_11=>
 mL (r.1,r.2.2.1,ab.eta r.2.2.2.1,r.2.1,t39) >>=fun r_14=>
 mu (r.1,r.2.2.1,ab.eta r.2.2.2.1,r.2.1,t39) >>=fun r_17=>
 some (bif decide (r_8.2=r_11.2)then decide (r_14.2=r_17.2)else false) >>=fun t83=>
 (if t83=true then j9 (ab.eta r_8.1,ab.eta r_11.1)else some false) >>=fun r_20=>
 some (bif t83 then r_20 else false) >>=fun t88=>
 (if t88=true then fQ (r_14.1,r_17.1)else some false) >>=fun r_21=>
 some (bif t88 then r_21 else false)
 else none
theorem e6_k :KC e6:= .m (by kernel_rfl)
theorem KT :FC e6 mg:= .fn e6_k (.k B4 (.k A6 (.k BI (.k AK (.k BK (.k AL (.k sB (.k se .n)))))))) .n fun _=>by kernel_rfl
end
section
open Go Go.Proofs.YtandcioiaooocaaGreat.Shv
open Tryz
set_option maxRecDepth 100000
set_option linter.all false

end
section
open Go Go.Proofs.YtandcioiaooocaaGreat.Shv
set_option maxRecDepth 100000
set_option linter.all false

end
section
open Go Go.Proofs.YtandcioiaooocaaGreat.Shv
set_option maxRecDepth 100000
def vput(n:Nat):List UInt8:=if n < 128 then[UInt8.ofNat n]else UInt8.ofNat (n % 128+128)::vput (n / 128)
termination_by n
decreasing_by omega
theorem qu{n:Nat}(h:n < 128):vput n=[UInt8.ofNat n]:=by rw[vput,if_pos h]
theorem rf{n:Nat}(h:¬n < 128):vput n=UInt8.ofNat (n % 128+128)::vput (n / 128):=by rw[vput,if_neg h]
theorem Hy{a:Nat}(h:a < 256):orI .u8 (a:Int) 128=((a % 128+128:Nat):Int):=by
 have key:∀a:Nat,a < 256->orI .u8 (a:Int) 128=((a % 128+128:Nat):Int):=by decide+kernel
 grind
theorem wrp8(n:Nat):wrp .u8 (n:Int)=((n % 256:Nat):Int):=by rfl
theorem shrI7(n:Nat):shrI .u64 (n:Int) 7=((n / 128:Nat):Int):=by
 unfold shrI;have:((2:Int) ^ min (7:Int).toNat IntKind.u64.bits)=128:=by decide
 grind
theorem EO(m:Nat)(l:List Int):strOf ((m:Int)::l)=UInt8.ofNat m::strOf l:=rfl
theorem m6(a b:List Int):strOf (a++b)=strOf a++strOf b:=List.map_append
theorem pz{α:Type}:∀(l:List α) (i:Nat) (x:α),i < l.length->(l.set i x).take (i+1)=l.take i++[x]
 | [],i,x,h=>by simp at h
 | a::l,0,x,h=>by simp
 | a::l,i+1,x,h=>by simp[pz l i x (by simpa using h)]
theorem zf :∀(f n i:Nat) (b:List Int),i+f=9->n < 128*128 ^ f->b.length=10->∃(n' i':Nat) (b':List Int),gX ((n:Int),(i:Int),b)=some ((n':Int),(i':Int),b')/\n' < 128/\i'<=9/\b'.length=10/\strOf (b'.take i')++[UInt8.ofNat n']=strOf (b.take i)++vput n
 | f,n,i,b,hi,hn,hb=>by
  rw[gX];by_cases hs:n < 128
  . rw[if_neg (by simp;omega)];exact⟨n,i,b,rfl,hs,by omega,hb,by rw[qu hs]⟩
  . rw[if_pos (by simp;omega),if_pos (au (by
     omega)),if_pos (by
     cases f with
     | zero=>simp at hn;omega
     | succ f=>simp[hb];omega)]
    match f,hi,hn with
    | 0,hi,hn=>simp at hn;omega
    | f+1,hi,hn=>
     rw[shrI7,aE (by omega),wrp8,Hy (Nat.mod_lt _ (by omega)),az];have hlt:n / 128 < 128*128 ^ f:=by omega
     obtain⟨n',i',b',h1,h2,h3,h4,h5⟩:=zf f (n / 128) (i+1) (b.set i ((n % 256 % 128+128:Nat):Int)) (by omega) hlt (by simp[hb]);refine⟨n',i',b',h1,h2,h3,h4,?_⟩;rw[h5,pz _ _ _ (by omega),m6,rf hs];have:n % 256 % 128=n % 128:=by omega
     rw[this];have hone:strOf [((n % 128+128:Nat):Int)]=[UInt8.ofNat (n % 128+128)]:=rfl
     grind
theorem rU :(128:Nat)*128 ^ 9=1180591620717411303424:=by decide
theorem l8{n:Nat}(hn:n < 18446744073709551616):fj (n:Int)=some (vput n):=by
 obtain⟨n',i',b',h1,h2,h3,h4,h5⟩:=zf 9 n 0 [0,0,0,0,0,0,0,0,0,0] rfl (by rw[rU];omega) rfl;rw[fj];have h1':gX ((n:Int),0,[0,0,0,0,0,0,0,0,0,0])=some ((n':Int),(i':Int),b'):=h1;rw[h1'];simp only[oZ4,oZ3];have hsl:slR 0 ((i'+1:Nat):Int) 10=true:=fw (a:=0) (by omega) (by omega)
 rw[if_pos (au (by omega)),if_pos (by simp[h4];omega),aE (by omega),if_pos hsl,if_pos (by simp[subR,h4];omega),az,az,wrp8];have:n' % 256=n':=Nat.mod_eq_of_lt (by omega);rw[this];simp only[Int.toNat_zero,List.drop_zero];rw[pz _ _ _ (by omega),m6];have h6:strOf [(n':Int)]=[UInt8.ofNat n']:=rfl;rw[h6,h5];rfl
theorem wu :∀(f n:Nat) (b:List Int),n < 128 ^ f->n < 18446744073709551616->b.length+f<=1000->∃(n':Nat) (b':List Int),iY ((n:Int),b)=some ((n':Int),b')/\n' < 128/\b'.length<=1000/\strOf b'++[UInt8.ofNat n']=strOf b++vput n
 | f,n,b,hn,h64,hb=>by
  rw[iY];by_cases hs:n < 128
  . rw[if_neg (by simp;omega)];exact⟨n,b,rfl,hs,by omega,by rw[qu hs]⟩
  . rw[if_pos (by simp;omega)]
    match f,hn with
    | 0,hn=>simp at hn;omega
    | f+1,hn=>
     have hrem:remI (n:Int) 128=((n % 128:Nat):Int):=remIn (b:=128);have hadd:addI .u64 ((n % 128:Nat):Int) 128=((n % 128+128:Nat):Int):=addIn (b:=128) (by omega);have hq:quoI .u64 (n:Int) 128=((n / 128:Nat):Int):=by
      unfold quoI;have e:(n:Int).tdiv 128=((n / 128:Nat):Int):=by rw[Int.tdiv_eq_ediv_of_nonneg (by omega)];omega
      rw[e];exact wrapu (by omega) (by omega)
     simp only[oZ4,oZ3];rw[hrem,hadd,hq,wrp8,if_pos (aX (by omega) (by simp;omega))];have hlt:n / 128 < 128 ^ f:=by omega
     obtain⟨n',b',h1,h2,h3,h4⟩:=wu f (n / 128) (b++[(((n % 128+128) % 256:Nat):Int)]) hlt (by omega) (by simp;omega);refine⟨n',b',h1,h2,h3,?_⟩;rw[h4,m6,rf hs];have:(n % 128+128) % 256=n % 128+128:=by omega
     rw[this];have hone:strOf [((n % 128+128:Nat):Int)]=[UInt8.ofNat (n % 128+128)]:=rfl
     grind
theorem lj{n:Nat}(hn:n < 18446744073709551616):f8 (n:Int)=some (vput n):=by
 obtain⟨n',b',h1,h2,h3,h4⟩:=wu 10 n [] (by have:=rU;rw[Nat.pow_succ,Nat.mul_comm];omega) hn (by simp);rw[f8,h1];simp only[oZ4,oZ3];rw[if_pos (aX (by omega) (by simp;omega)),wrp8,m6];have:n' % 256=n':=Nat.mod_eq_of_lt (by omega);rw[this];have h6:strOf [(n':Int)]=[UInt8.ofNat n']:=rfl;rw[h6,h4];rfl
theorem rh :∀(f n:Nat),n < 128 ^ (f+1)->(vput n).length<=f+1
 | f,n,hn=>by
  by_cases hs:n < 128
  . rw[qu hs];simp
  . rw[rf hs]
    match f,hn with
    | 0,hn=>simp at hn;omega
    | f+1,hn=>
     have:=rh f (n / 128) (by omega);simp;omega
theorem cS{n:Nat}(hn:n < 18446744073709551616):(vput n).length<=10:=rh 9 n (by have:=rU;rw[Nat.pow_succ,Nat.mul_comm];omega)
theorem fc{n:Nat}(h:n < 256):(UInt8.ofNat n).toNat=n:=by simp_all
def bH(p:List UInt8):List UInt8:=vput p.length++p
theorem bm{n:Nat}(h:n<=9223372036854775807):decide (n<=aU)=true:=by
 unfold aU;simp;omega
theorem GK{p:List UInt8}(h:p.length<=1152921504606846976):gi p=some (bH p):=by
 rw[gi,wrpn (by omega),l8 (by omega)];simp only[oZ4,oZ3];have:=cS (n:=p.length) (by omega);rw[if_pos (bm (by omega))];rfl
theorem nn{p:List UInt8}(h:p.length<=1152921504606846976):f0 p=some (bH p):=by
 rw[f0,wrpn (by omega),lj (by omega)];simp only[oZ4,oZ3];have:=cS (n:=p.length) (by omega);rw[if_pos (bm (by omega))];rfl
def dG(id:Nat)(c:Bool)(p:List UInt8):List UInt8:=vput (2*id+(if c then 1 else 0))++bH p
theorem vw{p:List UInt8}(h:p.length<=1152921504606846976):(bH p).length<=p.length+10:=by
 have:=cS (n:=p.length) (by omega);unfold bH;simp;omega
theorem GM{id:Nat}{c:Bool}{p:List UInt8}(hid:id<=4611686018427387903)(h:p.length<=1152921504606846900):ja ((id:Int),c,p)=some (dG id c p):=by
 rw[ja];have hm:mulI .u64 2 (wrp .u64 (id:Int))=((2*id:Nat):Int):=by rw[wrpn (by omega)];exact mulIn (a:=2) (by omega)
 simp only[oZ4,oZ3];rw[hm,GK (by omega)];have hl:=vw (p:=p) (by omega);cases c with
 | true=>
  have ha:addI .u64 ((2*id:Nat):Int) 1=((2*id+1:Nat):Int):=addIn (b:=1) (by omega);rw[if_pos rfl,ha,l8 (by omega)];have:=cS (n:=2*id+1) (by omega);simp only[oZ3];rw[if_pos (bm (by omega))];rfl
 | false=>
  rw[if_neg (by simp),l8 (by omega)];have:=cS (n:=2*id) (by omega);simp only[oZ3];rw[if_pos (bm (by omega))];rfl
theorem uM{id:Nat}{c:Bool}{p:List UInt8}(hid:id<=4611686018427387903)(h:p.length<=1152921504606846900):kg ((id:Int),c,p)=some (dG id c p):=by
 rw[kg];have hm:wrp .u64 (mulI .i64 2 (id:Int))=((2*id:Nat):Int):=by
  rw[Ig (by omega) (by omega)];have:(2:Int)*(id:Int)=((2*id:Nat):Int):=by omega
  rw[this];exact wrpn (by omega)
 simp only[oZ4,oZ3];rw[hm,nn (by omega)];have hl:=vw (p:=p) (by omega);cases c with
 | true=>
  have ha:addI .u64 ((2*id:Nat):Int) 1=((2*id+1:Nat):Int):=addIn (b:=1) (by omega);rw[if_pos rfl,ha,lj (by omega)];have:=cS (n:=2*id+1) (by omega);simp only[oZ3];rw[if_pos (bm (by omega))];rfl
 | false=>
  rw[if_neg (by simp),lj (by omega)];have:=cS (n:=2*id) (by omega);simp only[oZ3];rw[if_pos (bm (by omega))];rfl
inductive OkV:ab->Prop
 | mk (v : ab) (hs : v.Str.length <= reachBytes) (h1 : v.Keys.length <= reachBytes) (h2 : v.Items.length <= reachBytes) (h3 : v.Rest.length <= reachBytes)
  (hk:∀x,x∈v.Keys->OkV x) (hi:∀x,x∈v.Items->OkV x) (hr:∀x,x∈v.Rest->x.Data.length<=reachBytes)
  (n1: -9223372036854775808<=v.Kind/\v.Kind<=9223372036854775807) (n2: -9223372036854775808<=v.Int_/\v.Int_<=9223372036854775807) (n3: -9223372036854775808<=v.ID/\v.ID<=9223372036854775807)
  (n4:∀x,x∈v.Rest->-9223372036854775808<=x.ID/\x.ID<=9223372036854775807):OkV v
theorem aR{n:Nat}(h:n<=reachBytes):n < 9223372036854775807:=Nat.lt_of_le_of_lt h (by decide)
theorem scan {γ : Type} (L : Nat -> Option γ) (n : Nat) (p : Nat -> Bool) (bad good : γ) (hstep : ∀ i, i < n -> L i = if p i = true then L (i + 1) else some bad) (hend : L n = some good):
 (L 0=some good/\∀j,j < n->p j=true)\/(L 0=some bad/\∃j,j < n/\p j=false):=by
 have key:∀k i,i+k=n->(L i=some good/\∀j,i<=j->j < n->p j=true)\/(L i=some bad/\∃j,j < n/\p j=false):=by
  intro k
  induction k with
  | zero => intro i hi; have : i = n := by omega
            subst this;exact .inl ⟨hend,fun j h1 h2=>by omega⟩
  | succ k ih=>grind
 rcases key n 0 (by omega)with⟨h1,h2⟩ | h
 . exact .inl ⟨h1,fun j hj=>h2 j (Nat.zero_le _) hj⟩
 . exact .inr h
theorem bn{α:Type}{l:List α}{i:Nat}(h:i < l.length)(d:α):l.getD i d=l[i]:=by grind
theorem je {α : Type} {a b : List α} {p : Nat -> Bool} (hl : a.length = b.length) (hp : ∀ (i : Nat) (h1 : i < a.length) (h2 : i < b.length), p i = true ↔ a[i] = b[i]):
 (∀j,j < a.length->p j=true)↔a=b:=by
 constructor
 . intro h;exact List.ext_getElem hl fun i h1 h2=>(hp i h1 h2).1 (h i h1)
 . rintro rfl j hj
   exact(hp j hj hj).2 rfl
def Says{α:Type}(o:Option Bool)(a b:α):Prop:=∃r,o=some r/\(r=true↔a=b)
theorem Says.of_scan {α : Type} {a b : List α} {p : Nat -> Bool} (hl : a.length = b.length) (hp : ∀ (i : Nat) (h1 : i < a.length) (h2 : i < b.length), p i = true ↔ a[i] = b[i]) {o : Option Bool}
 (h:(o=some true/\∀j,j < a.length->p j=true)\/(o=some false/\∃j,j < a.length/\p j=false)):Says o a b:=by
 rcases h with⟨h1,h2⟩ | ⟨h1,j,h2,h3⟩
 . exact⟨true,h1,by simp[(je hl hp).1 h2]⟩
 . refine⟨false,h1,?_⟩;constructor
   . intro h;cases h
   . intro h;have:=(je hl hp).2 h j h2;rw[h3]at this;cases this
theorem zg{a b:aG}:(eqI a.ID b.ID && (eqS a.Data b.Data && true))=true↔a=b:=by cases a;cases b;simp[eqI,eqS]
theorem zh{a b:aK}:(eqI a.ID b.ID && (eqS a.Name b.Name && true))=true↔a=b:=by
 cases a;cases b;simp[eqI,eqS]
theorem Kz{α:Type}{a b:List α}(h:¬a.length=b.length):a≠b:=fun e=>h (congrArg List.length e)
theorem jt{α:Type}{a b:List α}(h:¬a.length=b.length):Says (some false) a b:=⟨false,rfl,by simp[Kz h]⟩
theorem zi{a b:List aG}(ha:a.length<=reachBytes):Says (fG (a,b)) a b:=by
 rw[fG];by_cases hl:a.length=b.length
 . rw[if_neg (by simp;omega)];have hr:=aR ha;have:=scan (fun i=>cL (a,b,(a.length:Int),(i:Int))) a.length (fun i=>eqI (a.getD i aC).ID (b.getD i aC).ID && (eqS (a.getD i aC).Data (b.getD i aC).Data && true)) (.inl false) (.inr ())
    (fun i hi=>by
     rw[cL,if_pos (by simp;omega),if_pos (au hi)];simp only[oZ4,oZ3,az];rw[if_pos (au (by omega)),aE (by omega)]
     grind)
    (by rw[cL,if_neg (by simp)])
   have h0:cL (a,b,(a.length:Int),((0:Nat):Int))=cL (a,b,(a.length:Int),0):=rfl;simp only[h0]at this;refine Says.of_scan (p:=fun i=>eqI (a.getD i aC).ID (b.getD i aC).ID && (eqS (a.getD i aC).Data (b.getD i aC).Data && true)) hl (fun i h1 h2=>by simp only[bn h1,bn h2];exact zg) ?_
   grind
 . rw[if_pos (by simp;omega)];exact jt hl
theorem KA{a b:List aK}(ha:a.length<=reachBytes):Says (me (a,b)) a b:=by
 rw[me];by_cases hl:a.length=b.length
 . rw[if_neg (by simp;omega)];have hr:=aR ha;have:=scan (fun i=>eC (a,b,(a.length:Int),(i:Int))) a.length (fun i=>eqI (a.getD i aQ).ID (b.getD i aQ).ID && (eqS (a.getD i aQ).Name (b.getD i aQ).Name && true)) (.inl false) (.inr ())
    (fun i hi=>by
     rw[eC,if_pos (by simp;omega),if_pos (au hi)];simp only[oZ4,oZ3,az];rw[if_pos (au (by omega)),aE (by omega)]
     grind)
    (by rw[eC,if_neg (by simp)])
   have h0:eC (a,b,(a.length:Int),((0:Nat):Int))=eC (a,b,(a.length:Int),0):=rfl;simp only[h0]at this;refine Says.of_scan (p:=fun i=>eqI (a.getD i aQ).ID (b.getD i aQ).ID && (eqS (a.getD i aQ).Name (b.getD i aQ).Name && true)) hl (fun i h1 h2=>by simp only[bn h1,bn h2];exact zh) ?_
   grind
 . rw[if_pos (by simp;omega)];exact jt hl
theorem nM(v:ab):(⟨v.Kind,v.Bool_,v.Int_,v.Str,v.ID,v.Keys,v.Items,v.Rest⟩:ab)=v:=by cases v;rfl
theorem wv{a b:ab}:a=b↔a.Kind=b.Kind/\a.Bool_=b.Bool_/\a.Int_=b.Int_/\a.Str=b.Str/\a.ID=b.ID/\a.Rest=b.Rest/\a.Keys=b.Keys/\a.Items=b.Items:=by
 constructor
 . grind
 . cases a;cases b
   grind
section
variable {f:ab×ab->Option Bool}
theorem qv {a b : List ab} (hl : a.length = b.length) (ih : ∀ x, x ∈ a -> ∀ y, Says (f (x, y)) x y) (L : Nat -> Option (Bool ⊕ Unit))
 (hstep:∀i,i < a.length->L i=(f (ab.eta (a.getD i af),ab.eta (b.getD i af)) >>=fun r=>if(!r)=true then some (.inl false)else L (i+1)))
 (hend:L a.length=some (.inr ())):Says (L 0 >>=fun o=>match o with | .inl x=>some x | .inr _=>some true) a b:=by
 have hget:∀(i:Nat) (h1:i < a.length) (h2:i < b.length),Says (f (ab.eta (a.getD i af),ab.eta (b.getD i af))) a[i] b[i]:=by
  intro i h1 h2;rw[bn h1,bn h2,ab.aA,ab.aA]
  grind
 have:=scan L a.length (fun i=>(f (ab.eta (a.getD i af),ab.eta (b.getD i af))).getD false) (.inl false) (.inr ())
  (fun i hi=>by
   obtain⟨r,h1,h2⟩:=hget i hi (by omega)
   grind) hend
 refine Says.of_scan hl (fun i h1 h2=>?_) ?_ (p:=fun i=>(f (ab.eta (a.getD i af),ab.eta (b.getD i af))).getD false)
 . obtain⟨r,h3,h4⟩:=hget i h1 h2;rw[h3];exact h4
 . rcases this with⟨h1,h2⟩ | ⟨h1,h2⟩
   . exact .inl ⟨by rw[h1];rfl,h2⟩
   . exact .inr ⟨by rw[h1];rfl,h2⟩
end
theorem yd{a b:List ab}(ha:a.length<=reachBytes)(ih:∀x,x∈a->∀y,Says (fe (x,y)) x y):Says (iI (a,b)) a b:=by
 rw[iI];by_cases hl:a.length=b.length
 . rw[if_neg (by simp;omega)];have hr:=aR ha;exact qv hl ih (fun i=>iG (b,a,(a.length:Int),(i:Int)))
    (fun i hi=>by
     rw[iG,if_pos (by simp;omega),if_pos (au hi),if_pos (au (by omega)),aE (by omega)]
     rfl)
    (by rw[iG,if_neg (by simp)])
 . rw[if_pos (by simp;omega)];exact jt hl
theorem yf{a b:List ab}(ha:a.length<=reachBytes)(ih:∀x,x∈a->∀y,Says (dh (x,y)) x y):Says (jR (a,b)) a b:=by
 rw[jR];by_cases hl:a.length=b.length
 . rw[if_neg (by simp;omega)];have hr:=aR ha;exact qv hl ih (fun i=>iH (b,a,(a.length:Int),(i:Int)))
    (fun i hi=>by
     rw[iH,if_pos (by simp;omega),if_pos (au hi),if_pos (au (by omega)),aE (by omega)]
     rfl)
    (by rw[iH,if_neg (by simp)])
 . rw[if_pos (by simp;omega)];exact jt hl
theorem yg{a b:List ab}(ha:a.length<=reachBytes)(ih:∀x,x∈a->∀y,Says (cr (x,y)) x y):Says (jT (a,b)) a b:=by
 rw[jT];by_cases hl:a.length=b.length
 . rw[if_neg (by simp;omega)];have hr:=aR ha;exact qv hl ih (fun i=>iL (a,b,(i:Int)))
    (fun i hi=>by
     rw[iL,if_pos (by simp;omega),if_pos (au hi),if_pos (au (by omega)),aE (by omega)]
     rfl)
    (by rw[iL,if_neg (by simp)])
 . rw[if_pos (by simp;omega)];exact jt hl
theorem three {a b : ab} {h5 : Bool} (e5 : h5 = true ↔ a.Kind = b.Kind /\ a.Bool_ = b.Bool_ /\ a.Int_ = b.Int_ /\ a.Str = b.Str /\ a.ID = b.ID) {x y z : Option Bool} (hx : Says x a.Rest b.Rest) (hy : Says y a.Keys b.Keys) (hz : Says z a.Items b.Items):
 Says (some h5 >>=fun t37=>(if t37=true then x else some false) >>=fun r=>some (bif t37 then r else false) >>=fun t44=>(if t44=true then y else some false) >>=fun r_1=>some (bif t44 then r_1 else false) >>=fun t51=>(if t51=true then z else some false) >>=fun r_2=>some (bif t51 then r_2 else false)) a b:=by
 obtain⟨rx,hx1,hx2⟩:=hx;obtain⟨ry,hy1,hy2⟩:=hy;obtain⟨rz,hz1,hz2⟩:=hz;subst hx1;subst hy1;subst hz1;refine⟨h5 && rx && ry && rz,?_,?_⟩
 . cases h5 <;> cases rx <;> cases ry <;> rfl
 . rw[wv];simp only[Bool.and_eq_true];rw[e5,hx2,hy2,hz2];constructor
   . rintro ⟨⟨⟨⟨h1,h2,h3,h4,h5⟩,h6⟩,h7⟩,h8⟩;exact⟨h1,h2,h3,h4,h5,h6,h7,h8⟩
   . rintro ⟨h1,h2,h3,h4,h5,h6,h7,h8⟩;exact⟨⟨⟨⟨h1,h2,h3,h4,h5⟩,h6⟩,h7⟩,h8⟩
theorem five{a b:ab}:(bif bif bif bif decide (a.Kind=b.Kind)then eqB a.Bool_ b.Bool_ else false then decide (a.Int_=b.Int_)else false then decide (a.Str=b.Str)else false then decide (a.ID=b.ID)else false)=true↔a.Kind=b.Kind/\a.Bool_=b.Bool_/\a.Int_=b.Int_/\a.Str=b.Str/\a.ID=b.ID:=by
 simp only[Bool.cond_eq_ite,eqB]
 grind
theorem EP{a:ab}(h:OkV a):∀b,Says (fe (a,b)) a b:=by
 induction h with
 | mk a hs h1 h2 h3 hk hi hr n1 n2 n3 n4 ihk ihi=>
  intro b;rw[fe];exact three five (zi h3) (yd h1 ihk) (yd h2 ihi)
theorem nC{a:ab}(h:OkV a):∀b,Says (dh (a,b)) a b:=by
 induction h with
 | mk a hs h1 h2 h3 hk hi hr n1 n2 n3 n4 ihk ihi=>
  intro b;rw[dh];exact three five (zi h3) (yf h1 ihk) (yf h2 ihi)
theorem og{a:ab}(h:OkV a):∀b,Says (cr (a,b)) a b:=by
 induction h with
 | mk a hs h1 h2 h3 hk hi hr n1 n2 n3 n4 ihk ihi=>
  intro b;rw[cr];by_cases h5:a.Kind=b.Kind/\a.Bool_=b.Bool_/\a.Int_=b.Int_/\a.Str=b.Str/\a.ID=b.ID/\a.Rest.length=b.Rest.length
  . obtain⟨e1,e2,e3,e4,e5,e6⟩:=h5;rw[if_neg (by simp[e1,e2,e3,e4,e5,e6,eqB])];have hr3:=aR h3;have hsc:=scan (fun i=>eD ((i:Int),a,b)) a.Rest.length (fun i=>eqI (a.Rest.getD i aC).ID (b.Rest.getD i aC).ID && (eqS (a.Rest.getD i aC).Data (b.Rest.getD i aC).Data && true)) (.inl false) (.inr (a,b))
     (fun i hi'=>by
      rw[eD,if_pos (by simp;omega),if_pos (au hi')];simp only[oZ4,oZ3,az,ab.aA];rw[if_pos (au (by omega)),aE (by omega)]
      grind)
     (by rw[eD,if_neg (by simp),ab.aA,ab.aA])
    have h0:eD (((0:Nat):Int),a,b)=eD (0,a,b):=rfl;simp only[h0]at hsc;rw[nM,nM];have hp:∀(i:Nat) (h1:i < a.Rest.length) (h2:i < b.Rest.length),(eqI (a.Rest.getD i aC).ID (b.Rest.getD i aC).ID && (eqS (a.Rest.getD i aC).Data (b.Rest.getD i aC).Data && true))=true↔a.Rest[i]=b.Rest[i]:=fun i h1 h2=>by rw[bn h1,bn h2];exact zg
    rcases hsc with⟨g1,g2⟩ | ⟨g1,j,g2,g3⟩
    . have hrest:=(je e6 hp).1 g2;rw[g1];obtain⟨rk,k1,k2⟩:=yg (a:=a.Keys) (b:=b.Keys) h1 ihk;obtain⟨ri,i1,i2⟩:=yg (a:=a.Items) (b:=b.Items) h2 ihi;simp only[oZ4,oZ3];rw[k1,i1];refine⟨rk && ri,by cases rk <;> rfl,?_⟩;rw[wv,Bool.and_eq_true,k2,i2]
      grind
    . rw[g1];refine⟨false,rfl,?_⟩
      grind
  . rw[if_pos]
    . refine⟨false,rfl,?_⟩
      grind
    . simp only[Bool.cond_eq_ite,eqB]
      grind
def dD(c:Int):Bool:=decide (c=95\/(97<=c/\c<=122)\/(65<=c/\c<=90))
def l9(c:Int):Bool:=decide (48<=c/\c<=57)
theorem nN(c:Int):ky c=some (dD c):=by
 rw[ky];unfold dD
 grind
theorem ww(c:Int):j5 c=some (dD c):=by
 rw[j5];unfold dD
 grind
theorem GN(c:Int):mQ c=some (l9 c):=by
 rw[mQ];unfold l9
 grind
theorem GO(c:Int):mD c=some (l9 c):=by
 rw[mD];unfold l9
 grind
theorem xg {γ : Type} (A B I : Bool) (X Y : Option γ) (hI : I = true):
 (some A >>=fun r_1=>some (!r_1) >>=fun t26=>if(I || (!t26))=true then(if t26=true then some B else some false) >>=fun r_2=>if(bif t26 then(!r_2)else false)=true then X else Y else none)=if(A || B)=true then Y else X:=by
 subst hI;cases A <;> cases B <;> rfl
theorem yh(s:List UInt8):∃r,cA s=some r/\gI s=some r:=by
 rw[cA,gI];simp only[oZ4,oZ3];by_cases hb:s=[]\/24 < s.length
 . have ht:(bif decide (s=[])then true else decide (24 < (s.length:Int)))=true:=by grind
   rw[ht];simp_all
 . have hne:s≠[]:=fun h=>hb (.inl h)
   have hlen:s.length<=24:=by omega
   have ht:(bif decide (s=[])then true else decide (24 < (s.length:Int)))=false:=by grind
   have hpos:0 < s.length:=List.length_pos_iff.2 hne;have hin:inR 0 s.length=true:=au (k:=0) hpos;simp only[ht,hin,Bool.true_or,if_true,Bool.not_false,oZ3,nN,ww,cond_false];cases hl:dD (cp s 0)with
   | false=>exact⟨false,rfl,rfl⟩
   | true=>
    rw[if_neg (by simp),if_neg (by simp)]
    let p:Nat->Bool:=fun i=>dD (cp s i) || l9 (cp s i)
    have s1:=scan (fun i=>cP (s,(s.length:Int),(i:Int))) s.length p (.inl false) (.inr ())
     (fun i hi=>by
      rw[cP,if_pos (by simp;omega),if_pos (au hi),nN,GN,aE (by omega)]
      exact xg _ _ _ _ _ (au hi))
     (by rw[cP,if_neg (by simp)])
    have s2:=scan (fun i=>eN (s,(i:Int))) s.length p (.inl false) (.inr ())
     (fun i hi=>by
      rw[eN,if_pos (by simp;omega),if_pos (au hi),ww,GO,aE (by omega)]
      exact xg _ _ _ _ _ (au hi))
     (by rw[eN,if_neg (by simp)])
    have e1:cP (s,(s.length:Int),((0:Nat):Int))=cP (s,(s.length:Int),0):=rfl;have e2:eN (s,((0:Nat):Int))=eN (s,0):=rfl;simp only[e1,e2]at s1 s2;rcases s1 with⟨a1,a2⟩ | ⟨a1,j,a2,a3⟩ <;> rcases s2 with⟨b1,b2⟩ | ⟨b1,k,b2,b3⟩
    . simp_all
    . grind
    . grind
    simp_all
def nm(s:List UInt8):Bool:=(cA s).getD false
theorem lexNm(s:List UInt8):cA s=some (nm s):=by
 obtain⟨r,h1,_⟩:=yh s;unfold nm;rw[h1];rfl
theorem refNm(s:List UInt8):gI s=some (nm s):=by
 obtain⟨r,h1,h2⟩:=yh s;unfold nm;rw[h1,h2];rfl
theorem nm_ne{s:List UInt8}(h:nm s=true):s≠[]:=by
 rintro rfl
 unfold nm at h;rw[cA]at h;simp at h
def idp(l:List Int)(names:List (List UInt8))(i:Nat):Bool:=
 decide (1<=l.getD i 0) && decide (l.getD i 0<=1000) && (decide (i=0) || decide (l.getD (i - 1) 0 < l.getD i 0)) && nm (names.getD i []) && !((names.take i).contains (names.getD i []))
def setOf(l:List (List UInt8)):List (List UInt8):=l.foldl addS []
theorem GP(ks:List (List UInt8))(a s:List UInt8):hasS (addS ks a) s=(hasS ks s || decide (a=s)):=by
 unfold addS;split
 . grind
 . simp[hasS,List.any_append]
theorem vz(l:List (List UInt8))(s:List UInt8):hasS (setOf l) s=l.contains s:=by
 have key:∀(l:List (List UInt8)) (ks:List (List UInt8)),hasS (l.foldl addS ks) s=(hasS ks s || l.contains s):=by
  intro l
  induction l with
  | nil=>intro ks;simp
  | cons a r ih=>
   intro ks;rw[List.foldl_cons,ih,GP,Bool.or_assoc]
   grind
 have:=key l []
 simpa[setOf,hasS]using this
theorem vA{l:List (List UInt8)}{i:Nat}(h:i < l.length):addS (setOf (l.take i)) (l.getD i [])=setOf (l.take (i+1)):=by
 unfold setOf;rw[List.take_add_one,List.foldl_append,List.getElem?_eq_getElem h,bn h];rfl
theorem Hz {γ : Type} (A Z I1 C I H N : Bool) (X Y : Option γ) (hI : I = true) (hI1 : Z = true -> I1 = true):
 (if(I1 || (!((!A) && Z)))=true then
  some (bif A then true else bif Z then C else false) >>=fun t34=>
  if(I || (!(!t34)))=true then
   some (bif t34 then true else H) >>=fun t42=>
   if(I || (!(!t42)))=true then
    (if(!t42)=true then some N else some false) >>=fun r=>
    if(bif t42 then true else(!r))=true then X else(if I=true then Y else none)
   else none
  else none
 else none)=if(!A && (!Z || !C) && N && !H)=true then Y else X:=by
 subst hI;cases Z with
 | true=>have:=hI1 rfl;subst this;cases A <;> cases C <;> cases H <;> cases N <;> rfl
 | false=>cases A <;> cases I1 <;> cases C <;> cases H <;> cases N <;> rfl
theorem zj{l:List Int}{names:List (List UInt8)}(hl:l.length<=reachBytes)(hn:names.length=l.length):∃r,kV (l,names)=some r/\(r=true↔(∀i,i < l.length->idp l names i=true)/\l.length<=16):=by
 rw[kV];have hr:=aR hl;have hsc:=scan (fun i=>eX (l,names,l,(l.length:Int),(i:Int),setOf (names.take i))) l.length (idp l names) (.inl false) (.inr l)
  (fun i hi=>by
   have hin:i < names.length:=by omega
   rw[eX,if_pos (by simp;omega),if_pos (au hi)];simp only[az];rw[lexNm,aE (by omega),vA hin,vz];have hsub:0 < i->subI .i64 (i:Int) 1=((i - 1:Nat):Int):=by intro h;rw[cX (by omega) (by omega)];omega
   refine(Hz (bif decide (l.getD i 0 < 1)then true else decide (1000 < l.getD i 0)) (decide ((0:Int) < (i:Int))) (inR (subI .i64 (i:Int) 1) l.length) (decide (l.getD i 0<=l.getD (subI .i64 (i:Int) 1).toNat 0)) (inR (i:Int) names.length) ((names.take i).contains (names.getD i [])) (nm (names.getD i [])) _ _ (au hin) (fun hz=>?_)).trans ?_
   . have hpos:0 < i:=by simp at hz;omega
     rw[hsub hpos];exact au (by omega)
   . have:(!(bif decide (l.getD i 0 < 1)then true else decide (1000 < l.getD i 0)) && (!(decide ((0:Int) < (i:Int))) || !(decide (l.getD i 0<=l.getD (subI .i64 (i:Int) 1).toNat 0))) && nm (names.getD i []) && !((names.take i).contains (names.getD i [])))=idp l names i:=by
      unfold idp
      grind
     rw[this])
  (by rw[eX,if_neg (by simp)])
 have e0:eX (l,names,l,(l.length:Int),((0:Nat):Int),setOf (names.take 0))=eX (l,names,l,(l.length:Int),0,[]):=rfl;simp only[e0]at hsc;rcases hsc with⟨h1,h2⟩ | ⟨h1,j,h2,h3⟩
 . rw[h1];refine⟨decide ((l.length:Int)<=16),rfl,?_⟩
   grind
 . rw[h1];refine⟨false,rfl,?_⟩
   grind
theorem room8{k n:Nat}(hk:k<=16)(h:n*24<=reachBytes):room k n=true:=by
 unfold room bS aY;unfold reachBytes at h;simp only[Bool.and_eq_true,decide_eq_true_eq];have:(2*n+192)*k<=(2*n+192)*16:=Nat.mul_le_mul_left _ hk;omega
theorem jk{α:Type}(l:List α)(i:Nat)(d:α)(h:i < l.length):l.take i++[l.getD i d]=l.take (i+1):=by simp_all
theorem bM{α β:Type}(f:α->β)(l:List α)(i:Nat)(d:α)(e:β)(h:i < l.length):(l.map f).getD i e=f (l.getD i d):=by grind
theorem eY{l:List (List UInt8)}{i:Nat}{s:List UInt8}(hi:i<=l.length):(l.take i).contains s=true↔∃k,k < i/\l.getD k []=s:=by
 rw[List.contains_iff_mem];constructor
 . intro h;obtain⟨k,hk,he⟩:=List.getElem_of_mem h;rw[List.length_take]at hk;refine⟨k,by omega,?_⟩
   grind
 . rintro ⟨k,hk,he⟩
   rw[<-he,bn (by omega)];have:(l.take i)[k]'(by rw[List.length_take];omega)=l[k]:=List.getElem_take
   grind
def bef(l:List Int)(i:Nat):Int:=if i=0 then 0 else l.getD (i - 1) 0
theorem yi {l : List Int} {names : List (List UInt8)} {i : Nat} (hi : i < l.length) (hn : names.length = l.length):
 idp l names i=(decide (bef l i < l.getD i 0) && decide (1<=l.getD i 0) && decide (l.getD i 0<=1000) && nm (names.getD i []) && !((names.take i).contains (names.getD i []))):=by
 unfold idp bef;generalize l.getD i 0=x;generalize l.getD (i - 1) 0=y;generalize nm (names.getD i [])=a;generalize (names.take i).contains (names.getD i [])=b;by_cases h0:i=0
 . subst h0;by_cases h1:1<=x
   . have:decide ((0:Int) < x)=true:=by simp;omega
     simp[h1,this]
   . simp[h1]
 . simp only[h0,if_false,decide_false,Bool.false_or];by_cases h1:1<=x <;> by_cases h2:x<=1000 <;> by_cases h3:y < x <;> simp[h1,h2,h3]
theorem vB(l:List aK)(hl:l.length*24<=reachBytes):∀(k i:Nat),i+k=l.length->fV (l,l,(l.length:Int),(i:Int),(l.map (·.ID)).take i,(l.map (·.Name)).take i)=some (l,l.map (·.ID),l.map (·.Name))
 | 0,i,h=>by
  have:i=l.length:=by omega
  subst this;rw[fV,if_neg (by simp)];rw[List.take_of_length_le (by simp),List.take_of_length_le (by simp)]
 | k+1,i,h=>by
  have hr:l.length < 9223372036854775807:=by unfold reachBytes at hl;omega
  have hi:i < l.length:=by omega
  rw[fV,if_pos (by simp;omega),if_pos (au hi)];simp only[oZ4,oZ3,az];rw[<-bM (·.ID) l i aQ 0 hi,<-bM (·.Name) l i aQ [] hi,jk _ _ _ (by simpa using hi),jk _ _ _ (by simpa using hi)];rw[if_pos (room8 (by omega) (by simp;omega)),if_pos (room8 (by omega) (by simp;omega)),aE (by omega)];exact vB l hl k (i+1) (by omega)
theorem yj{l:List aK}(hl:l.length*24<=reachBytes):∃r,i5 l=some r/\(r=true↔0 < l.length/\(∀i,i < l.length->idp (l.map (·.ID)) (l.map (·.Name)) i=true)/\l.length<=16):=by
 have h:=vB l hl l.length 0 (by omega);have h':fV (l,l,(l.length:Int),0,[],[])=some (l,l.map (·.ID),l.map (·.Name)):=h;rw[i5,h'];simp only[oZ4,oZ3];obtain⟨r,h1,h2⟩:=zj (l:=l.map (·.ID)) (names:=l.map (·.Name)) (by simp;unfold reachBytes at*;omega) (by simp);rw[List.length_map]at h2
 grind
theorem refId(a b:Int):kA (a,b)=some (decide (a < b) && decide (1<=b) && decide (b<=1000)):=by
 rw[kA]
 grind
theorem EQ (l : List aK) (hl : l.length <= reachBytes) (i : Nat) (hi : i < l.length):
 dK (l,(i:Int),0)=some (if((l.map (·.Name)).take i).contains ((l.map (·.Name)).getD i [])=true then .inl false else .inr (l,(i:Int))):=by
 have hr:=aR hl;have hsc:=scan (fun k=>dK (l,(i:Int),(k:Int))) i (fun k=>!(decide ((l.getD k aQ).Name=(l.getD i aQ).Name))) (.inl false) (.inr (l,(i:Int)))
  (fun k hk=>by
   rw[dK,if_pos (by simp;omega),if_pos (au (by omega)),if_pos (au hi),aE (by omega)]
   grind)
  (by rw[dK,if_neg (by simp)])
 have e0:dK (l,(i:Int),((0:Nat):Int))=dK (l,(i:Int),0):=rfl;simp only[e0]at hsc;rw[bM (·.Name) l i aQ [] hi];rcases hsc with⟨h1,h2⟩ | ⟨h1,j,h2,h3⟩
 . rw[h1,if_neg];rw[eY (by simp;omega)]
   rintro ⟨k,hk,he⟩
   rw[bM (·.Name) l k aQ [] (by omega)]at he;have:=h2 k hk;rw[he]at this;simp at this
 . rw[h1,if_pos];rw[eY (by simp;omega)];refine⟨j,h2,?_⟩;rw[bM (·.Name) l j aQ [] (by omega)]
   simpa using h3
theorem HA{l:List aK}(hl:l.length<=reachBytes):∃r,jY l=some r/\(r=true↔0 < l.length/\(∀i,i < l.length->idp (l.map (·.ID)) (l.map (·.Name)) i=true)/\l.length<=16):=by
 have hr:=aR hl;have hsc:=scan (fun i=>eH (l,bef (l.map (·.ID)) i,(i:Int))) l.length (idp (l.map (·.ID)) (l.map (·.Name))) (.inl false) (.inr l)
  (fun i hi=>by
   rw[eH,if_pos (by simp;omega),if_pos (au hi),refId,EQ l hl i hi,yi (by simpa using hi) (by simp)];simp only[oZ4,oZ3,az];rw[<-bM (·.ID) l i aQ 0 hi,<-bM (·.Name) l i aQ [] hi,refNm];generalize (decide (bef (l.map (·.ID)) i < (l.map (·.ID)).getD i 0) && decide (1<=(l.map (·.ID)).getD i 0) && decide ((l.map (·.ID)).getD i 0<=1000))=q
   rw[if_pos (by rw[au hi];rfl)];cases q with
   | false=>rfl
   | true=>
    simp only[Bool.not_true,Bool.not_false,if_true,oZ3,Bool.true_and];cases nm ((l.map (·.Name)).getD i [])with
    | false=>rfl
    | true=>
     simp only[Bool.not_true,cond_false,Bool.false_eq_true,if_false,Bool.true_and];cases hc:((l.map (·.Name)).take i).contains ((l.map (·.Name)).getD i [])with
     | true=>simp
     | false=>
      simp only[Bool.false_eq_true,if_false,Bool.not_false,if_true];rw[if_pos (au hi),aE (by omega)];have:bef (l.map (·.ID)) (i+1)=(l.getD i aQ).ID:=by
       unfold bef
       grind
      grind)
  (by rw[eH,if_neg (by simp)])
 have e0:eH (l,bef (l.map (·.ID)) 0,((0:Nat):Int))=eH (l,0,0):=rfl;simp only[e0]at hsc;rw[jY];rcases hsc with⟨h1,h2⟩ | ⟨h1,j,h2,h3⟩
 . rw[h1];refine⟨_,rfl,?_⟩
   grind
 . rw[h1];refine⟨false,rfl,?_⟩
   grind
theorem F2{l:List aK}(hl:l.length*24<=reachBytes):∃r,i5 l=some r/\jY l=some r:=by
 obtain⟨r,h1,h2⟩:=yj hl;obtain⟨q,h3,h4⟩:=HA (l:=l) (by unfold reachBytes at*;omega)
 grind
structure OkT (t:ae):Prop where
 syms:t.Symbols.length*24<=reachBytes
 mems:t.Members.length*24<=reachBytes
 dv:∀m,m∈t.Members->OkV m.Default
theorem ce{n:Nat}(h:n*24<=reachBytes):n<=reachBytes:=by unfold reachBytes at*;omega
theorem ET{a b:aj}:a=b↔a.ID=b.ID/\a.Name=b.Name/\a.Type_=b.Type_/\a.Critical=b.Critical/\a.HasDefault=b.HasDefault/\a.Default=b.Default:=by cases a;cases b;simp
theorem dz(x:aj):(⟨x.ID,x.Name,x.Type_,x.Critical,x.HasDefault,ab.eta x.Default⟩:aj)=x:=by cases x;simp[ab.aA]
theorem fiveM{a b:aj}:(bif bif bif bif decide (a.ID=b.ID)then decide (a.Name=b.Name)else false then decide (a.Type_=b.Type_)else false then eqB a.Critical b.Critical else false then eqB a.HasDefault b.HasDefault else false)=true↔a.ID=b.ID/\a.Name=b.Name/\a.Type_=b.Type_/\a.Critical=b.Critical/\a.HasDefault=b.HasDefault:=by
 simp only[Bool.cond_eq_ite,eqB]
 grind
theorem twoM {a b : aj} {q : Bool} (hq : q = true ↔ a.ID = b.ID /\ a.Name = b.Name /\ a.Type_ = b.Type_ /\ a.Critical = b.Critical /\ a.HasDefault = b.HasDefault) {x : Option Bool} (hx : Says x a.Default b.Default):
 Says (some q >>=fun t37=>(if t37=true then x else some false) >>=fun r=>some (bif t37 then r else false)) a b:=by
 obtain⟨rx,h1,h2⟩:=hx;subst h1;refine⟨q && rx,by cases q <;> cases rx <;> rfl,?_⟩;rw[ET,Bool.and_eq_true,hq,h2];constructor
 . rintro ⟨⟨a1,a2,a3,a4,a5⟩,a6⟩;exact⟨a1,a2,a3,a4,a5,a6⟩
 . rintro ⟨a1,a2,a3,a4,a5,a6⟩;exact⟨⟨a1,a2,a3,a4,a5⟩,a6⟩
theorem F3{a:aj}(h:OkV a.Default)(b:aj):Says (kw (a,b)) a b:=by
 rw[kw];simp only[nM,ab.aA];exact twoM fiveM (nC h _)
theorem F4{a:aj}(h:OkV a.Default)(b:aj):Says (jU (a,b)) a b:=by
 rw[jU];simp only[nM,ab.aA];exact twoM fiveM (og h _)
theorem uN {f : aj×aj -> Option Bool} {γ : Type} {g : γ} {a b : List aj} (hl : a.length = b.length) (ih : ∀ x, x ∈ a -> ∀ y, Says (f (x, y)) x y) (L : Nat -> Option (Bool ⊕ γ))
 (hstep:∀i,i < a.length->L i=(f (a.getD i ag,b.getD i ag) >>=fun r=>if(!r)=true then some (.inl false)else L (i+1)))
 (hend:L a.length=some (.inr g)):(L 0=some (.inr g)/\a=b)\/(L 0=some (.inl false)/\a≠b):=by
 have hget:∀(i:Nat) (h1:i < a.length) (h2:i < b.length),Says (f (a.getD i ag,b.getD i ag)) a[i] b[i]:=by grind
 have hp:∀(i:Nat) (h1:i < a.length) (h2:i < b.length),(f (a.getD i ag,b.getD i ag)).getD false=true↔a[i]=b[i]:=by
  intro i h1 h2;obtain⟨r,h3,h4⟩:=hget i h1 h2
  grind
 have:=scan L a.length (fun i=>(f (a.getD i ag,b.getD i ag)).getD false) (.inl false) (.inr g)
  (fun i hi=>by
   obtain⟨r,h1,h2⟩:=hget i hi (by omega)
   grind) hend
 rcases this with⟨h1,h2⟩ | ⟨h1,j,h2,h3⟩
 . exact .inl ⟨h1,(je hl hp).1 h2⟩
 . refine .inr ⟨h1,fun e=>?_⟩;have:=(je hl hp).2 e j h2;rw[h3]at this;cases this
theorem Df{a b:List aj}(ha:a.length<=reachBytes)(hd:∀m,m∈a->OkV m.Default):Says (mc (a,b)) a b:=by
 rw[mc];by_cases hl:a.length=b.length
 . rw[if_neg (by simp;omega)];have hr:=aR ha;have hs:=uN (g:=()) hl (f:=kw) (fun x hx y=>F3 (hd x hx) y) (fun i=>eA (b,a,(a.length:Int),(i:Int)))
    (fun i hi=>by
     rw[eA,if_pos (by simp;omega),if_pos (au hi)];simp only[oZ4,oZ3,az,dz]
     rw[if_pos (au (by omega)),aE (by omega)])
    (by rw[eA,if_neg (by simp)])
   have e0:eA (b,a,(a.length:Int),((0:Nat):Int))=eA (b,a,(a.length:Int),0):=rfl;simp only[e0]at hs;rcases hs with⟨h1,h2⟩ | ⟨h1,h2⟩
   . rw[h1];exact⟨true,rfl,by simp[h2]⟩
   . rw[h1];exact⟨false,rfl,by simp[h2]⟩
 . rw[if_pos (by simp;omega)];exact jt hl
theorem xh{a b:ae}:a=b↔a.Kind=b.Kind/\a.Name=b.Name/\a.Low=b.Low/\a.High=b.High/\a.Max=b.Max/\a.Key=b.Key/\a.Elem=b.Elem/\a.Open=b.Open/\a.Symbols=b.Symbols/\a.Members=b.Members:=by
 cases a;cases b
 grind
theorem KB {a b : ae}: (bif bif bif bif bif bif bif decide (a.Kind = b.Kind) then decide (a.Name = b.Name) else false then decide (a.Low = b.Low) else false then decide (a.High = b.High) else false then decide (a.Max = b.Max) else false then decide (a.Key = b.Key) else false then decide (a.Elem = b.Elem) else false then eqB a.Open b.Open else false) = true ↔
 a.Kind=b.Kind/\a.Name=b.Name/\a.Low=b.Low/\a.High=b.High/\a.Max=b.Max/\a.Key=b.Key/\a.Elem=b.Elem/\a.Open=b.Open:=by
 simp only[Bool.cond_eq_ite,eqB];by_cases h1:a.Kind=b.Kind <;> by_cases h2:a.Name=b.Name <;> by_cases h3:a.Low=b.Low <;> by_cases h4:a.High=b.High <;> simp[h1,h2,h3,h4]
 by_cases h5:a.Max=b.Max <;> by_cases h6:a.Key=b.Key <;> by_cases h7:a.Elem=b.Elem <;> simp[h5,h6,h7]
theorem bT{a:ae}(h:OkT a)(b:ae):Says (bB (a,b)) a b:=by
 rw[bB];obtain⟨rs,s1,s2⟩:=KA (a:=a.Symbols) (b:=b.Symbols) (ce h.syms);obtain⟨rm,m1,m2⟩:=Df (a:=a.Members) (b:=b.Members) (ce h.mems) h.dv;have e8:=KB (a:=a) (b:=b)
 generalize (bif bif bif bif bif bif bif decide (a.Kind=b.Kind)then decide (a.Name=b.Name)else false then decide (a.Low=b.Low)else false then decide (a.High=b.High)else false then decide (a.Max=b.Max)else false then decide (a.Key=b.Key)else false then decide (a.Elem=b.Elem)else false then eqB a.Open b.Open else false)=q at e8 ⊢
 simp only[oZ4,oZ3];rw[s1,m1];refine⟨q && rs && rm,by cases q <;> cases rs <;> cases rm <;> rfl,?_⟩;rw[xh,Bool.and_eq_true,Bool.and_eq_true,e8,s2,m2]
 grind
theorem nY(a:ae):(⟨a.Kind,a.Name,a.Low,a.High,a.Max,a.Symbols,a.Members,a.Key,a.Elem,a.Open⟩:ae)=a:=by cases a;rfl
theorem fx{a:ae}(h:OkT a)(b:ae):Says (mo (a,b)) a b:=by
 rw[mo];simp only[nY];by_cases h5:(a.Kind=b.Kind/\a.Name=b.Name/\a.Low=b.Low/\a.High=b.High/\a.Max=b.Max/\a.Key=b.Key/\a.Elem=b.Elem/\a.Open=b.Open)/\a.Symbols.length=b.Symbols.length/\a.Members.length=b.Members.length
 . obtain⟨⟨e1,e2,e3,e4,e5,e6,e7,e8⟩,e9,e10⟩:=h5;rw[if_neg (by simp[e1,e2,e3,e4,e5,e6,e7,e8,e9,e10,eqB])];have hr:=aR (ce h.syms);have hr2:=aR (ce h.mems)
   have hsc:=scan (fun i=>eE ((i:Int),a,b)) a.Symbols.length (fun i=>eqI (a.Symbols.getD i aQ).ID (b.Symbols.getD i aQ).ID && (eqS (a.Symbols.getD i aQ).Name (b.Symbols.getD i aQ).Name && true)) (.inl false) (.inr (a,b))
    (fun i hi'=>by
     rw[eE,if_pos (by simp;omega),if_pos (au hi')];simp only[oZ4,oZ3,az];rw[if_pos (au (by omega)),aE (by omega)]
     grind)
    (by rw[eE,if_neg (by simp)])
   have h0:eE (((0:Nat):Int),a,b)=eE (0,a,b):=rfl;simp only[h0]at hsc;have hp:∀(i:Nat) (h1:i < a.Symbols.length) (h2:i < b.Symbols.length),(eqI (a.Symbols.getD i aQ).ID (b.Symbols.getD i aQ).ID && (eqS (a.Symbols.getD i aQ).Name (b.Symbols.getD i aQ).Name && true))=true↔a.Symbols[i]=b.Symbols[i]:=fun i h1 h2=>by rw[bn h1,bn h2];exact zh
   rcases hsc with⟨g1,g2⟩ | ⟨g1,j,g2,g3⟩
   . have hsy:=(je e9 hp).1 g2;rw[g1];simp only[oZ4,oZ3];have hs:=uN (g:=()) e10 (f:=jU) (fun x hx y=>F4 (h.dv x hx) y) (fun i=>eF ((i:Int),a,b))
      (fun i hi=>by
       rw[eF,if_pos (by simp;omega),if_pos (au hi)];simp only[oZ4,oZ3,az,dz]
       rw[if_pos (au (by omega)),aE (by omega)])
      (by rw[eF,if_neg (by simp)])
     have e0:eF (((0:Nat):Int),a,b)=eF (0,a,b):=rfl;simp only[e0]at hs;rcases hs with⟨k1,k2⟩ | ⟨k1,k2⟩
     . rw[k1];refine⟨true,rfl,?_⟩;rw[xh]
       grind
     . rw[k1];refine⟨false,rfl,?_⟩
       grind
   . rw[g1];refine⟨false,rfl,?_⟩
     grind
 . rw[if_pos]
   . refine⟨false,rfl,?_⟩
     grind
   . simp only[Bool.cond_eq_ite,eqB];by_cases q1:a.Kind=b.Kind <;> by_cases q2:a.Name=b.Name <;> by_cases q3:a.Low=b.Low <;> by_cases q4:a.High=b.High <;> simp[q1,q2,q3,q4]
     grind
def fC(v:ab):Bool:=(dh (v,af)).getD false
theorem HB{v:ab}(h:OkV v):dh (v,af)=some (fC v):=by
 obtain⟨r,h1,h2⟩:=nC h af;unfold fC;rw[h1];rfl
theorem HC{v:ab}(h:OkV v):cr (v,af)=some (fC v):=by
 obtain⟨r,h1,h2⟩:=nC h af;obtain⟨q,h3,h4⟩:=og h af;unfold fC;rw[h1,h3]
 grind
theorem GQ{v:ab}(h:OkV v):mX v=some (fC v):=by
 rw[mX,ab.aA];have:=HB h;unfold af at this
 grind
def badM(union:Bool)(m:aj):Bool:=(union && (m.Critical || m.HasDefault)) || (m.Critical && m.HasDefault) || (!m.HasDefault && !fC m.Default)
theorem aB{α:Type}{l:List α}{i:Nat}(h:i < l.length)(d:α):l.getD i d∈l:=by grind
theorem vC{t:ae}(h:OkT t):∃r,gV t=some r/\(r=true↔(∀i,i < t.Members.length->badM (decide (t.Kind=6)) (t.Members.getD i ag)=false)/\(t.Kind=5\/0 < t.Members.length)/\(∀i,i < t.Members.length->idp (t.Members.map (·.ID)) (t.Members.map (·.Name)) i=true)/\t.Members.length<=16):=by
 have hr:t.Members.length < 9223372036854775807:=aR (ce h.mems);have hsc:=scan (fun i=>eT (t.Members,(t.Members.length:Int),(i:Int),t,(t.Members.map (·.ID)).take i,(t.Members.map (·.Name)).take i)) t.Members.length (fun i=>!(badM (decide (t.Kind=6)) (t.Members.getD i ag))) (.inl false) (.inr (t,t.Members.map (·.ID),t.Members.map (·.Name)))
  (fun i hi=>by
   have hz:=GQ (h.dv _ (aB hi ag));rw[eT,if_pos (by simp;omega),if_pos (au hi)];simp only[oZ4,oZ3,az,ab.aA];rw[<-bM (·.ID) t.Members i ag 0 hi,<-bM (·.Name) t.Members i ag [] hi,jk _ _ _ (by simpa using hi),jk _ _ _ (by simpa using hi)];have hb:((t.Members.map (·.ID)).take (i+1)).length*24<=reachBytes:=by
    refine Nat.le_trans (Nat.mul_le_mul_right _ ?_) h.mems;simp;omega
   have hb2:((t.Members.map (·.Name)).take (i+1)).length*24<=reachBytes:=by grind
   rw[if_pos (room8 (by omega) hb),if_pos (room8 (by omega) hb2),aE (by omega),hz];unfold badM
   grind)
  (by
   rw[eT,if_neg (by simp)]
   rw[List.take_of_length_le (by simp),List.take_of_length_le (by simp)])
 have e0:eT (t.Members,(t.Members.length:Int),((0:Nat):Int),t,(t.Members.map (·.ID)).take 0,(t.Members.map (·.Name)).take 0)=eT (t.Members,(t.Members.length:Int),0,t,[],[]):=rfl;simp only[e0]at hsc;rw[gV];obtain⟨r,h1,h2⟩:=zj (l:=t.Members.map (·.ID)) (names:=t.Members.map (·.Name)) (by simpa using ce h.mems) (by simp);rw[List.length_map]at h2
 rcases hsc with⟨g1,g2⟩ | ⟨g1,j,g2,g3⟩
 . rw[g1];simp only[oZ4,oZ3];rw[h1];refine⟨(bif decide (t.Kind=5)then true else decide (0 < ((t.Members.map (·.ID)).length:Int))) && r,?_,?_⟩
   . grind
   grind
 grind
theorem EU (l : List aj) (record : Bool) (hl : l.length <= reachBytes) (i : Nat) (hi : i < l.length):
 dL (l,record,(i:Int),0,l.getD i ag)=some (if((l.map (·.Name)).take i).contains ((l.map (·.Name)).getD i [])=true then .inl false else .inr (l,record,(i:Int),l.getD i ag)):=by
 have hr:=aR hl;have hsc:=scan (fun k=>dL (l,record,(i:Int),(k:Int),l.getD i ag)) i (fun k=>!(decide ((l.getD k ag).Name=(l.getD i ag).Name))) (.inl false) (.inr (l,record,(i:Int),l.getD i ag))
  (fun k hk=>by
   rw[dL,if_pos (by simp;omega),if_pos (au (by omega)),aE (by omega)];simp only[az,dz]
   grind)
  (by rw[dL,if_neg (by simp),dz])
 have e0:dL (l,record,(i:Int),((0:Nat):Int),l.getD i ag)=dL (l,record,(i:Int),0,l.getD i ag):=rfl;simp only[e0]at hsc;rw[bM (·.Name) l i ag [] hi];rcases hsc with⟨h1,h2⟩ | ⟨h1,j,h2,h3⟩
 . rw[h1,if_neg];rw[eY (by simp;omega)]
   rintro ⟨k,hk,he⟩
   rw[bM (·.Name) l k ag [] (by omega)]at he;have:=h2 k hk;rw[he]at this;simp at this
 . rw[h1,if_pos];rw[eY (by simp;omega)];refine⟨j,h2,?_⟩;rw[bM (·.Name) l j ag [] (by omega)]
   simpa using h3
theorem EV{l:List aj}{record:Bool}(hl:l.length<=reachBytes)(hd:∀m,m∈l->OkV m.Default):∃r,iS (l,record)=some r/\(r=true↔(∀i,i < l.length->badM (!record) (l.getD i ag)=false)/\(record=true\/0 < l.length)/\(∀i,i < l.length->idp (l.map (·.ID)) (l.map (·.Name)) i=true)/\l.length<=16):=by
 have hr:=aR hl;have hsc:=scan (fun i=>eK (l,record,bef (l.map (·.ID)) i,(i:Int))) l.length (fun i=>idp (l.map (·.ID)) (l.map (·.Name)) i && !(badM (!record) (l.getD i ag))) (.inl false) (.inr (l,record))
  (fun i hi=>by
   have hz:=HC (hd _ (aB hi ag));unfold af at hz;rw[eK,if_pos (by simp;omega),if_pos (au hi)];simp only[oZ4,oZ3,az,ab.aA,dz,yi (l:=l.map (·.ID)) (names:=l.map (·.Name)) (i:=i) (by simpa using hi) (by simp)];rw[EU l record hl i hi,hz];have hbef:bef (l.map (·.ID)) (i+1)=(l.getD i ag).ID:=by
    unfold bef
    grind
   rw[<-bM (·.ID) l i ag 0 hi,<-bM (·.Name) l i ag [] hi,refId,refNm];simp only[oZ3];generalize (decide (bef (l.map (·.ID)) i < (l.map (·.ID)).getD i 0) && decide (1<=(l.map (·.ID)).getD i 0) && decide ((l.map (·.ID)).getD i 0<=1000))=q;cases q with
   | false=>simp
   | true=>
    simp only[Bool.not_true,Bool.not_false,if_true,oZ3,Bool.true_and];cases nm ((l.map (·.Name)).getD i [])with
    | false=>simp
    | true=>
     simp only[Bool.not_true,Bool.true_and,Bool.or_false,cond_false];unfold badM;cases record <;> cases (l.getD i ag).Critical <;> cases (l.getD i ag).HasDefault <;> cases fC (l.getD i ag).Default <;>
      simp only[Bool.not_true,Bool.not_false,Bool.or_self,Bool.and_self,Bool.or_true,Bool.true_or,Bool.and_true,Bool.and_false,Bool.false_and,Bool.true_and,Bool.false_or,Bool.or_false,cond_true,cond_false,if_true,if_false,Bool.false_eq_true,oZ3] <;>
      first
       | rfl
       | (cases hc:((l.map (·.Name)).take i).contains ((l.map (·.Name)).getD i [])with
        | true=>simp
        | false=>
         simp only[Bool.false_eq_true,if_false,Bool.not_false,if_true];rw[aE (by omega),hbef]
         try rfl))
  (by rw[eK,if_neg (by simp)])
 have e0:eK (l,record,bef (l.map (·.ID)) 0,((0:Nat):Int))=eK (l,record,0,0):=rfl;simp only[e0]at hsc;rw[iS];rcases hsc with⟨h1,h2⟩ | ⟨h1,j,h2,h3⟩
 . rw[h1];refine⟨_,rfl,?_⟩
   grind
 . rw[h1];refine⟨false,rfl,?_⟩
   grind
theorem wx{t:ae}(h:OkT t)(hk:t.Kind=5\/t.Kind=6):∃r,gV t=some r/\iS (t.Members,decide (t.Kind=5))=some r:=by
 obtain⟨r,h1,h2⟩:=vC h;obtain⟨q,h3,h4⟩:=EV (l:=t.Members) (record:=decide (t.Kind=5)) (ce h.mems) h.dv;have hu:(!(decide (t.Kind=5)))=decide (t.Kind=6):=by grind
 grind
theorem OkT.plain{k l h m kk e:Int}{n:List UInt8}{S:List aK}{Ms:List aj}{o:Bool}(hS:S.length*24<=reachBytes)(hM:Ms.length*24<=reachBytes)(hd:∀x,x∈Ms->OkV x.Default):OkT ⟨k,n,l,h,m,S,Ms,kk,e,o⟩:=⟨hS,hM,hd⟩
theorem form1{N:List UInt8}{L H M K E:Int}{S:List aK}{Ms:List aj}{O:Bool}(h:OkT (⟨1,N,L,H,M,S,Ms,K,E,O⟩:ae)):∃r,bj (⟨1,N,L,H,M,S,Ms,K,E,O⟩:ae)=some r/\bw (⟨1,N,L,H,M,S,Ms,K,E,O⟩:ae)=some r/\(r=true->N=[]):=by
 obtain⟨a,a1,a2⟩:=bT (a:=(⟨0,N,L,H,M,S,Ms,K,E,O⟩:ae)) ⟨h.syms,h.mems,h.dv⟩ (⟨0,[],0,0,0,[],[],0,0,false⟩:ae);obtain⟨b,b1,b2⟩:=fx h (⟨1,[],0,0,0,[],[],0,0,false⟩:ae);have hab:a=b:=by grind
 subst hab;refine⟨a,by simp[bj,a1],by simp[bw,dq,ci,b1];try (cases a <;> rfl),fun hr=>?_⟩
 grind
theorem form2{N:List UInt8}{L H M K E:Int}{S:List aK}{Ms:List aj}{O:Bool}(h:OkT (⟨2,N,L,H,M,S,Ms,K,E,O⟩:ae)):∃r,bj (⟨2,N,L,H,M,S,Ms,K,E,O⟩:ae)=some r/\bw (⟨2,N,L,H,M,S,Ms,K,E,O⟩:ae)=some r/\(r=true->N=[]):=by
 obtain⟨a,a1,a2⟩:=bT (a:=(⟨0,N,0,0,M,S,Ms,K,E,O⟩:ae)) ⟨h.syms,h.mems,h.dv⟩ (⟨0,[],0,0,0,[],[],0,0,false⟩:ae);obtain⟨b,b1,b2⟩:=fx h (⟨2,[],L,H,0,[],[],0,0,false⟩:ae);have hab:a=b:=by grind
 subst hab;refine⟨decide (L<=H) && a,?_,?_,fun hr=>?_⟩
 . simp only[bj]
   grind
 . simp only[bw];generalize decide (L<=H)=q;simp[dq,ci,b1]
   grind
 grind
theorem form3{N:List UInt8}{L H M K E:Int}{S:List aK}{Ms:List aj}{O:Bool}(h:OkT (⟨3,N,L,H,M,S,Ms,K,E,O⟩:ae)):∃r,bj (⟨3,N,L,H,M,S,Ms,K,E,O⟩:ae)=some r/\bw (⟨3,N,L,H,M,S,Ms,K,E,O⟩:ae)=some r/\(r=true->N=[]):=by
 obtain⟨a,a1,a2⟩:=bT (a:=(⟨0,N,L,H,0,S,Ms,K,E,O⟩:ae)) ⟨h.syms,h.mems,h.dv⟩ (⟨0,[],0,0,0,[],[],0,0,false⟩:ae);obtain⟨b,b1,b2⟩:=fx h (⟨3,[],0,0,M,[],[],0,0,false⟩:ae);have hab:a=b:=by grind
 subst hab;refine⟨(bif decide (0<=M)then decide (M<=200)else false) && a,?_,?_,fun hr=>?_⟩
 . simp only[bj]
   grind
 . simp only[bw];generalize (bif decide (0<=M)then decide (M<=200)else false)=q;simp[dq,ci,b1]
   grind
 grind
theorem form4{N:List UInt8}{L H M K E:Int}{S:List aK}{Ms:List aj}{O:Bool}(h:OkT (⟨4,N,L,H,M,S,Ms,K,E,O⟩:ae)):∃r,bj (⟨4,N,L,H,M,S,Ms,K,E,O⟩:ae)=some r/\bw (⟨4,N,L,H,M,S,Ms,K,E,O⟩:ae)=some r/\(r=true->N≠[]):=by
 obtain⟨a,a1,a2⟩:=bT (a:=(⟨0,[],L,H,M,[],Ms,K,E,false⟩:ae)) ⟨(by simp),h.mems,h.dv⟩ (⟨0,[],0,0,0,[],[],0,0,false⟩:ae);obtain⟨b,b1,b2⟩:=fx h (⟨4,N,0,0,0,S,[],0,0,O⟩:ae);have hab:a=b:=by grind
 subst hab;obtain⟨q,q1,q2⟩:=F2 (l:=S) h.syms;refine⟨nm N && q && a,?_,?_,fun hr=>?_⟩
 . simp only[bj];simp[a1,q1,lexNm]
   grind
 . simp only[bw]
   try simp at q2
   simp[dq,ci,b1,q2,refNm]
   grind
 . simp only[Bool.and_eq_true]at hr;exact nm_ne hr.1.1
theorem form5{N:List UInt8}{L H M K E:Int}{S:List aK}{Ms:List aj}{O:Bool}(h:OkT (⟨5,N,L,H,M,S,Ms,K,E,O⟩:ae)):∃r,bj (⟨5,N,L,H,M,S,Ms,K,E,O⟩:ae)=some r/\bw (⟨5,N,L,H,M,S,Ms,K,E,O⟩:ae)=some r/\(r=true->N≠[]):=by
 obtain⟨a,a1,a2⟩:=bT (a:=(⟨0,[],L,H,M,S,[],K,E,(bif O then decide ((5:Int)=5)else false)⟩:ae)) ⟨h.syms,(by simp),(by simp)⟩ (⟨0,[],0,0,0,[],[],0,0,false⟩:ae);obtain⟨b,b1,b2⟩:=fx h (⟨5,N,0,0,0,[],Ms,0,0,false⟩:ae);have hab:a=b:=by grind
 subst hab;obtain⟨q,q1,q2⟩:=wx h (by simp);refine⟨nm N && q && a,?_,?_,fun hr=>?_⟩
 . simp only[bj]
   try simp at a1
   try simp at q1
   simp[a1,q1,lexNm]
   grind
 . simp only[bw]
   try simp at q2
   simp[dq,ci,b1,q2,refNm]
   grind
 . simp only[Bool.and_eq_true]at hr;exact nm_ne hr.1.1
theorem form6{N:List UInt8}{L H M K E:Int}{S:List aK}{Ms:List aj}{O:Bool}(h:OkT (⟨6,N,L,H,M,S,Ms,K,E,O⟩:ae)):∃r,bj (⟨6,N,L,H,M,S,Ms,K,E,O⟩:ae)=some r/\bw (⟨6,N,L,H,M,S,Ms,K,E,O⟩:ae)=some r/\(r=true->N≠[]):=by
 obtain⟨a,a1,a2⟩:=bT (a:=(⟨0,[],L,H,M,S,[],K,E,(bif O then decide ((6:Int)=5)else false)⟩:ae)) ⟨h.syms,(by simp),(by simp)⟩ (⟨0,[],0,0,0,[],[],0,0,false⟩:ae);obtain⟨b,b1,b2⟩:=fx h (⟨6,N,0,0,0,[],Ms,0,0,O⟩:ae);have hab:a=b:=by grind
 subst hab;obtain⟨q,q1,q2⟩:=wx h (by simp);refine⟨nm N && q && a,?_,?_,fun hr=>?_⟩
 . simp only[bj]
   try simp at a1
   try simp at q1
   simp[a1,q1,lexNm]
   grind
 . simp only[bw]
   try simp at q2
   simp[dq,ci,b1,q2,refNm]
   grind
 . simp only[Bool.and_eq_true]at hr;exact nm_ne hr.1.1
theorem form7{N:List UInt8}{L H M K E:Int}{S:List aK}{Ms:List aj}{O:Bool}(h:OkT (⟨7,N,L,H,M,S,Ms,K,E,O⟩:ae)):∃r,bj (⟨7,N,L,H,M,S,Ms,K,E,O⟩:ae)=some r/\bw (⟨7,N,L,H,M,S,Ms,K,E,O⟩:ae)=some r/\(r=true->N=[]):=by
 obtain⟨a,a1,a2⟩:=bT (a:=(⟨0,N,L,H,0,S,Ms,K,0,O⟩:ae)) ⟨h.syms,h.mems,h.dv⟩ (⟨0,[],0,0,0,[],[],0,0,false⟩:ae);obtain⟨b,b1,b2⟩:=fx h (⟨7,[],0,0,M,[],[],0,E,false⟩:ae);have hab:a=b:=by grind
 subst hab;refine⟨(bif decide (0<=M)then decide (M<=50)else false) && a,?_,?_,fun hr=>?_⟩
 . simp only[bj]
   grind
 . simp only[bw];generalize (bif decide (0<=M)then decide (M<=50)else false)=q;simp[dq,ci,b1]
   grind
 grind
theorem form8{N:List UInt8}{L H M K E:Int}{S:List aK}{Ms:List aj}{O:Bool}(h:OkT (⟨8,N,L,H,M,S,Ms,K,E,O⟩:ae)):∃r,bj (⟨8,N,L,H,M,S,Ms,K,E,O⟩:ae)=some r/\bw (⟨8,N,L,H,M,S,Ms,K,E,O⟩:ae)=some r/\(r=true->N=[]):=by
 obtain⟨a,a1,a2⟩:=bT (a:=(⟨0,N,L,H,0,S,Ms,0,0,O⟩:ae)) ⟨h.syms,h.mems,h.dv⟩ (⟨0,[],0,0,0,[],[],0,0,false⟩:ae);obtain⟨b,b1,b2⟩:=fx h (⟨8,[],0,0,M,[],[],K,E,false⟩:ae);have hab:a=b:=by grind
 subst hab;refine⟨(bif decide (0<=M)then decide (M<=50)else false) && a,?_,?_,fun hr=>?_⟩
 . simp only[bj]
   grind
 . simp only[bw];generalize (bif decide (0<=M)then decide (M<=50)else false)=q;simp[dq,ci,b1]
   grind
 grind
theorem form9{N:List UInt8}{L H M K E:Int}{S:List aK}{Ms:List aj}{O:Bool}(h:OkT (⟨9,N,L,H,M,S,Ms,K,E,O⟩:ae)):∃r,bj (⟨9,N,L,H,M,S,Ms,K,E,O⟩:ae)=some r/\bw (⟨9,N,L,H,M,S,Ms,K,E,O⟩:ae)=some r/\(r=true->N=[]):=by
 obtain⟨a,a1,a2⟩:=bT (a:=(⟨0,N,L,H,M,S,Ms,K,0,O⟩:ae)) ⟨h.syms,h.mems,h.dv⟩ (⟨0,[],0,0,0,[],[],0,0,false⟩:ae);obtain⟨b,b1,b2⟩:=fx h (⟨9,[],0,0,0,[],[],0,E,false⟩:ae);have hab:a=b:=by grind
 subst hab;refine⟨a,by simp[bj,a1],by simp[bw,dq,ci,b1];try (cases a <;> rfl),fun hr=>?_⟩
 grind
def cI(k:Int):Bool:=bif bif decide (k=4)then true else decide (k=5)then true else decide (k=6)
theorem wy{t:ae}(h:OkT t):∃r,bj t=some r/\bw t=some r/\(r=true->1<=t.Kind/\t.Kind<=9/\cI t.Kind=!(decide (t.Name=[]))):=by
 by_cases hk:1<=t.Kind/\t.Kind<=9
 . obtain⟨Kd,N,L,H,M,S,Ms,K,E,O⟩:=t;simp only at hk;have:Kd=1\/Kd=2\/Kd=3\/Kd=4\/Kd=5\/Kd=6\/Kd=7\/Kd=8\/Kd=9:=by omega
   rcases this with rfl | rfl | rfl | rfl | rfl | rfl | rfl | rfl | rfl
   . obtain⟨r,h1,h2,h3⟩:=form1 h;exact⟨r,h1,h2,fun hr=>⟨hk.1,hk.2,by simp[cI,h3 hr]⟩⟩
   . obtain⟨r,h1,h2,h3⟩:=form2 h;exact⟨r,h1,h2,fun hr=>⟨hk.1,hk.2,by simp[cI,h3 hr]⟩⟩
   . obtain⟨r,h1,h2,h3⟩:=form3 h;exact⟨r,h1,h2,fun hr=>⟨hk.1,hk.2,by simp[cI,h3 hr]⟩⟩
   . obtain⟨r,h1,h2,h3⟩:=form4 h;exact⟨r,h1,h2,fun hr=>⟨hk.1,hk.2,by simp[cI,h3 hr]⟩⟩
   . obtain⟨r,h1,h2,h3⟩:=form5 h;exact⟨r,h1,h2,fun hr=>⟨hk.1,hk.2,by simp[cI,h3 hr]⟩⟩
   . obtain⟨r,h1,h2,h3⟩:=form6 h;exact⟨r,h1,h2,fun hr=>⟨hk.1,hk.2,by simp[cI,h3 hr]⟩⟩
   . obtain⟨r,h1,h2,h3⟩:=form7 h;exact⟨r,h1,h2,fun hr=>⟨hk.1,hk.2,by simp[cI,h3 hr]⟩⟩
   . obtain⟨r,h1,h2,h3⟩:=form8 h;exact⟨r,h1,h2,fun hr=>⟨hk.1,hk.2,by simp[cI,h3 hr]⟩⟩
   . obtain⟨r,h1,h2,h3⟩:=form9 h;exact⟨r,h1,h2,fun hr=>⟨hk.1,hk.2,by simp[cI,h3 hr]⟩⟩
 . refine⟨false,?_,?_,fun h=>by cases h⟩
   . have e:∀k:Int,1<=k->k<=9->¬t.Kind=k:=fun k h1 h2 e=>hk (by omega)
     simp[bj,e 1,e 2,e 3,e 4,e 5,e 6,e 7,e 8,e 9]
   . have e:(bif decide (t.Kind < 1)then true else decide (9 < t.Kind))=true:=by grind
     rw[bw,e];rfl
def usesL(t:ae):List Int:=t.Members.map (·.Type_)++(if t.Kind=8 then[t.Key]else[])++(if 7<=t.Kind then[t.Elem]else[])
theorem jO{k n:Nat}(hk:k<=16){m:Nat}(h:m*24<=reachBytes)(hn:n<=m+2):room k n=true:=by
 unfold room bS aY;unfold reachBytes at h;simp only[Bool.and_eq_true,decide_eq_true_eq];have:(2*n+192)*k<=(2*n+192)*16:=Nat.mul_le_mul_left _ hk;omega
theorem vD(t:ae)(h:t.Members.length*24<=reachBytes):∀(k i:Nat),i+k=t.Members.length->gf (t.Members,(t.Members.length:Int),(i:Int),t,(t.Members.map (·.Type_)).take i)=some (t,t.Members.map (·.Type_))
 | 0,i,hi=>by rw[gf,if_neg (by simp;omega),List.take_of_length_le (by simp;omega)]
 | k+1,i,hi=>by
  have hr:=aR (ce h);have hlt:i < t.Members.length:=by omega
  rw[gf,if_pos (by simp;omega),if_pos (au hlt)];simp only[oZ4,oZ3,az];rw[<-bM (·.Type_) t.Members i ag 0 hlt,jk _ _ _ (by simpa using hlt),aE (by omega),if_pos (jO (m:=t.Members.length) (by omega) h (by simp;omega))];exact vD t h k (i+1) (by omega)
theorem HD{t:ae}(h:t.Members.length*24<=reachBytes):ng t=some (usesL t):=by
 have h0:=vD t h t.Members.length 0 (by omega);have h0':gf (t.Members,(t.Members.length:Int),0,t,[])=some (t,t.Members.map (·.Type_)):=h0;rw[ng,h0'];unfold usesL;simp only[oZ4,oZ3];have r1:room 8 (t.Members.map (·.Type_)++[t.Key]).length=true:=jO (m:=t.Members.length) (by omega) h (by simp)
 have r2:room 8 (t.Members.map (·.Type_)++[t.Key]++[t.Elem]).length=true:=jO (m:=t.Members.length) (by omega) h (by simp)
 grind
theorem vE(t:ae)(h:t.Members.length*24<=reachBytes):∀(k i:Nat),i+k=t.Members.length->fS ((i:Int),t,(t.Members.map (·.Type_)).take i)=some (t,t.Members.map (·.Type_))
 | 0,i,hi=>by rw[fS,if_neg (by simp;omega),List.take_of_length_le (by simp;omega)]
 | k+1,i,hi=>by
  have hr:=aR (ce h);have hlt:i < t.Members.length:=by omega
  rw[fS,if_pos (by simp;omega),if_pos (au hlt)];simp only[oZ4,oZ3,az];rw[<-bM (·.Type_) t.Members i ag 0 hlt,jk _ _ _ (by simpa using hlt),aE (by omega),if_pos (jO (m:=t.Members.length) (by omega) h (by simp;omega))];exact vE t h k (i+1) (by omega)
theorem HE{t:ae}(h:t.Members.length*24<=reachBytes)(hk:t.Kind<=9):mF t=some (usesL t):=by
 have h0:=vE t h t.Members.length 0 (by omega);have h0':fS (0,t,[])=some (t,t.Members.map (·.Type_)):=h0;rw[mF,h0'];unfold usesL;simp only[oZ4,oZ3];have r1:room 8 (t.Members.map (·.Type_)++[t.Key]).length=true:=jO (m:=t.Members.length) (by omega) h (by simp)
 have r2:room 8 (t.Members.map (·.Type_)++[t.Key]++[t.Elem]).length=true:=jO (m:=t.Members.length) (by omega) h (by simp)
 grind
theorem HF(k:Int):ci k=some (cI k):=rfl
def keyB(k:Int):Bool:=bif decide (1<=k)then decide (k<=4)else false
def outB(n:Nat)(u:Int):Bool:=bif decide (u < 0)then true else decide ((n:Int)<=u)
def stepV(ts:List ae)(i:Nat):Option Int:=
 let t:=ts.getD i ap
 if !((bj t).getD false)then some 1
 else if !(decide (t.Name=[])) && ((ts.map (·.Name)).take i).contains t.Name then some 1
 else if(usesL t).any (outB ts.length)then some 4
 else if decide (t.Kind=8) && !(keyB (ts.getD t.Key.toNat ap).Kind)then some 1
 else none
theorem rj {ts : List ae} {i : Nat} {t : ae} {r : Bool} (hT : ts.getD i ap = t) (f1 : bj t = some r):
 stepV ts i=if(!r)=true then some 1 else if(!(decide (t.Name=[])) && ((ts.map (·.Name)).take i).contains t.Name)=true then some 1 else if(usesL t).any (outB ts.length)=true then some 4 else if(decide (t.Kind=8) && !(keyB (ts.getD t.Key.toNat ap).Kind))=true then some 1 else none:=by
 subst hT;unfold stepV;simp only[f1,Option.getD_some]
theorem xj {γ : Type} (L : Nat -> Option γ) (l : List Int) (q : Int -> Bool) (bad good : γ) (hstep : ∀ i, i < l.length -> L i = if q (l.getD i 0) = true then some bad else L (i + 1)) (hend : L l.length = some good):
 L 0=some (if l.any q=true then bad else good):=by
 have:=scan L l.length (fun i=>!(q (l.getD i 0))) bad good (fun i hi=>by grind) hend;rcases this with⟨h1,h2⟩ | ⟨h1,j,h2,h3⟩
 . rw[h1,if_neg];intro h;rw[List.any_eq_true]at h;obtain⟨x,hx,hq⟩:=h;obtain⟨j,hj,he⟩:=List.getElem_of_mem hx;have:=h2 j hj;rw[bn hj,he,hq]at this;cases this
 . rw[h1,if_pos];rw[List.any_eq_true];refine⟨l.getD j 0,aB h2 0,by simpa using h3⟩
theorem wz{t:ae}(h:t.Members.length*24<=reachBytes):(usesL t).length < 9223372036854775807:=by
 unfold usesL reachBytes at*
 grind
theorem KD {L : Nat -> Option (Int ⊕ Unit)} {L' : Nat -> Option (Int ⊕ Unit)} {n : Nat} {step : Nat -> Option Int}
 (h:∀i,i < n->L i=match step i with | some e=>some (.inl e) | none=>L (i+1)) (he:L n=some (.inr ()))
 (h':∀i,i < n->L' i=match step i with | some e=>some (.inl e) | none=>L' (i+1)) (he':L' n=some (.inr ())):∃o,L 0=some o/\L' 0=some o/\((o= .inr ()/\∀i,i < n->step i=none)\/∃i e,i < n/\step i=some e/\o= .inl e):=by
 have key:∀k i,i+k=n->∃o,L i=some o/\L' i=some o/\((o= .inr ()/\∀m,i<=m->m < n->step m=none)\/∃m e,m < n/\step m=some e/\o= .inl e):=by
  intro k
  induction k with
  | zero => intro i hi; have : i = n := by omega
            subst this;exact⟨_,he,he',.inl ⟨rfl,fun m h1 h2=>by omega⟩⟩
  | succ k ih=>
   intro i hi;rw[h i (by omega),h' i (by omega)];cases hst:step i with
   | some e=>exact⟨_,rfl,rfl,.inr ⟨i,e,by omega,hst,rfl⟩⟩
   | none=>
    obtain⟨o,o1,o2,o3⟩:=ih (i+1) (by omega)
    grind
 obtain⟨o,o1,o2,o3⟩:=key n 0 (by omega);refine⟨o,o1,o2,?_⟩;rcases o3 with⟨a,b⟩ | h
 . exact .inl ⟨a,fun i hi=>b i (Nat.zero_le _) hi⟩
 . exact .inr h
theorem zk{ts:List ae}{t:ae}(hu:(usesL t).any (outB ts.length)=false)(h8:t.Kind=8):inR t.Key ts.length=true:=by
 have hm:t.Key∈usesL t:=by unfold usesL;simp[h8]
 rw[List.any_eq_false]at hu;have:=hu _ hm;unfold outB at this;unfold inR
 grind
theorem KE (ts : List ae) (t : ae) (i : Nat) (hi : i < ts.length) (hr : ts.length < 9223372036854775807):
 dN ((i:Int),0,ts,t.Kind,t.Name,t.Low,t.High,t.Max,t.Symbols,t.Members,t.Key,t.Elem,t.Open)=some (if(cI t.Kind && ((ts.map (·.Name)).take i).contains t.Name)=true then .inl 1 else .inr ((i:Int),ts,t.Kind,t.Name,t.Low,t.High,t.Max,t.Symbols,t.Members,t.Key,t.Elem,t.Open)):=by
 have hsc:=scan (fun k=>dN ((i:Int),(k:Int),ts,t.Kind,t.Name,t.Low,t.High,t.Max,t.Symbols,t.Members,t.Key,t.Elem,t.Open)) i (fun k=>!(bif cI t.Kind then decide ((ts.getD k ap).Name=t.Name)else false)) (.inl 1) (.inr ((i:Int),ts,t.Kind,t.Name,t.Low,t.High,t.Max,t.Symbols,t.Members,t.Key,t.Elem,t.Open))
  (fun k hk=>by
   rw[dN,if_pos (by simp;omega),HF];simp only[oZ4,oZ3];rw[if_pos (by rw[au (show k < ts.length by omega)];rfl),aE (by omega),az]
   grind)
  (by rw[dN,if_neg (by simp)])
 have e0:dN ((i:Int),((0:Nat):Int),ts,t.Kind,t.Name,t.Low,t.High,t.Max,t.Symbols,t.Members,t.Key,t.Elem,t.Open)=dN ((i:Int),0,ts,t.Kind,t.Name,t.Low,t.High,t.Max,t.Symbols,t.Members,t.Key,t.Elem,t.Open):=rfl;simp only[e0]at hsc;rcases hsc with⟨h1,h2⟩ | ⟨h1,j,h2,h3⟩
 . rw[h1,if_neg];rw[Bool.and_eq_true,eY (by simp;omega)]
   rintro ⟨hn,k,hk,he⟩
   rw[bM (·.Name) ts k ap [] (by omega)]at he;have:=h2 k hk;rw[hn,he]at this;simp at this
 . rw[h1,if_pos];rw[Bool.and_eq_true,eY (by simp;omega)];cases hn:cI t.Kind with
   | false=>rw[hn]at h3;cases h3
   | true=>
    refine⟨rfl,j,h2,?_⟩;rw[bM (·.Name) ts j ap [] (by omega)];rw[hn]at h3
    simpa using h3
theorem KF (ts : List ae) (t : ae) (i : Nat) (l : List Int) (hl : l.length < 9223372036854775807):
 fN ((i:Int),l,0,ts,t.Kind,t.Name,t.Low,t.High,t.Max,t.Symbols,t.Members,t.Key,t.Elem,t.Open)=some (if l.any (outB ts.length)=true then .inl 4 else .inr ((i:Int),ts,t.Kind,t.Name,t.Low,t.High,t.Max,t.Symbols,t.Members,t.Key,t.Elem,t.Open)):=
 xj (fun j=>fN ((i:Int),l,(j:Int),ts,t.Kind,t.Name,t.Low,t.High,t.Max,t.Symbols,t.Members,t.Key,t.Elem,t.Open)) l (outB ts.length) (.inl 4) (.inr ((i:Int),ts,t.Kind,t.Name,t.Low,t.High,t.Max,t.Symbols,t.Members,t.Key,t.Elem,t.Open))
  (fun j hj=>by
   rw[fN,if_pos (by simp;omega),if_pos (au hj)];simp only[oZ4,oZ3];rw[if_pos (by rw[au hj];rfl),aE (by omega)]
   rfl)
  (by rw[fN,if_neg (by simp)])
theorem EW{s:av}(hs:s.Types.length<=reachBytes)(ht:∀t,t∈s.Types->OkT t):∃e,i9 s=some e/\kb s=some e/\(e=0->s.Types.length<=32/\∀i,i < s.Types.length->stepV s.Types i=none)/\((s.Types.length<=32/\∀i,i < s.Types.length->stepV s.Types i=none)->e=0):=by
 rw[i9,kb];by_cases h32:32 < s.Types.length
 . exact⟨3,by rw[if_pos (by simp;omega)],by rw[if_pos (by simp;omega)],fun h=>(by cases h),fun h=>absurd h.1 (by omega)⟩
 . rw[if_neg (by simp;omega),if_neg (by simp;omega)];have hr:s.Types.length < 9223372036854775807:=by omega
   have:=KD (L:=fun i=>f7 (s.Types,(s.Types.length:Int),(i:Int),s.Types,setOf ((s.Types.map (·.Name)).take i))) (L':=fun i=>eP ((i:Int),s.Types)) (n:=s.Types.length) (step:=stepV s.Types)
    (fun i hi=>by
     have hok:=ht _ (aB hi ap);obtain⟨r,f1,f2,f3⟩:=wy hok;rw[f7,if_pos (by simp;omega),if_pos (au hi)];simp only[oZ4,oZ3,az];generalize hT:s.Types.getD i ap=t at*;rw[rj hT f1,f1];simp only[oZ3,vz];cases r with
     | false=>rw[if_pos (show(bif (!false)then true else bif (!(decide (t.Name=[])))then((s.Types.map (·.Name)).take i).contains t.Name else false)=true from rfl),if_pos (show(!false)=true from rfl)]
     | true=>
      rw[if_neg (show ¬((!true)=true) by simp)];by_cases hd:(!(decide (t.Name=[])) && ((s.Types.map (·.Name)).take i).contains t.Name)=true
      . grind
      . have hd':¬((bif (!(decide (t.Name=[])))then((s.Types.map (·.Name)).take i).contains t.Name else false)=true):=by grind
        rw[if_neg (show ¬((bif (!true)then true else bif (!(decide (t.Name=[])))then((s.Types.map (·.Name)).take i).contains t.Name else false)=true)from hd'),if_neg hd,HD hok.mems];simp only[oZ3];have hul:=wz hok.mems
        have hin:=xj (fun j=>eU (s.Types,(s.Types.length:Int),(i:Int),usesL t,((usesL t).length:Int),(j:Int),s.Types,addS (setOf ((s.Types.map (·.Name)).take i)) t.Name,t.Kind,t.Name,t.Low,t.High,t.Max,t.Symbols,t.Members,t.Key,t.Elem,t.Open)) (usesL t) (outB s.Types.length) (.inl 4)
         (.inr (s.Types,(s.Types.length:Int),(i:Int),s.Types,addS (setOf ((s.Types.map (·.Name)).take i)) t.Name,t.Kind,t.Name,t.Low,t.High,t.Max,t.Symbols,t.Members,t.Key,t.Elem,t.Open))
         (fun j hj=>by
          rw[eU,if_pos (by simp;omega),if_pos (au hj),aE (by omega)]
          rfl)
         (by rw[eU,if_neg (by simp)])
        have e0:eU (s.Types,(s.Types.length:Int),(i:Int),usesL t,((usesL t).length:Int),((0:Nat):Int),s.Types,addS (setOf ((s.Types.map (·.Name)).take i)) t.Name,t.Kind,t.Name,t.Low,t.High,t.Max,t.Symbols,t.Members,t.Key,t.Elem,t.Open)=eU (s.Types,(s.Types.length:Int),(i:Int),usesL t,((usesL t).length:Int),0,s.Types,addS (setOf ((s.Types.map (·.Name)).take i)) t.Name,t.Kind,t.Name,t.Low,t.High,t.Max,t.Symbols,t.Members,t.Key,t.Elem,t.Open):=rfl
        rw[<-e0,hin];cases hu:(usesL t).any (outB s.Types.length)with
        | true=>rfl
        | false=>
         simp only[Bool.false_eq_true,if_false,oZ3];have hsucc:addS (setOf ((s.Types.map (·.Name)).take i)) t.Name=setOf ((s.Types.map (·.Name)).take (i+1)):=by
          have h1:=vA (l:=s.Types.map (·.Name)) (i:=i) (by simpa using hi)
          grind
         rw[hsucc,aE (by omega)];by_cases h8:t.Kind=8
         . have hk:=zk hu h8;rw[if_pos (by rw[hk];rfl),if_pos (by rw[hk];rfl)];simp only[h8,decide_true,cond_true,Bool.true_and,keyB]
           grind
         grind)
    (by rw[f7,if_neg (by simp)])
    (fun i hi=>by
     have hok:=ht _ (aB hi ap);obtain⟨r,f1,f2,f3⟩:=wy hok;rw[eP,if_pos (by simp;omega),if_pos (au hi)];simp only[oZ4,oZ3,az];generalize hT:s.Types.getD i ap=t at*;rw[rj hT f1,f2,KE s.Types t i hi hr];simp only[oZ3];cases r with
     | false=>rfl
     | true=>
      obtain⟨k1,k2,k3⟩:=f3 rfl;rw[if_neg (show ¬((!true)=true) by simp),if_neg (show ¬((!true)=true) by simp),k3];cases hd:(!(decide (t.Name=[])) && ((s.Types.map (·.Name)).take i).contains t.Name)with
      | true=>rfl
      | false=>
       simp only[Bool.false_eq_true,if_false,nY];rw[HE hok.mems k2];simp only[oZ3];rw[KF s.Types t i (usesL t) (wz hok.mems)];cases hu:(usesL t).any (outB s.Types.length)with
       | true=>rfl
       | false=>
        simp only[Bool.false_eq_true,if_false,oZ3];rw[aE (by omega)];by_cases h8:t.Kind=8
        . have hk:=zk hu h8;rw[if_pos (by rw[hk];rfl)];simp only[h8,decide_true,if_true,jV,oZ3,cond_true,Bool.true_and];show(if(!(keyB (s.Types.getD t.Key.toNat ap).Kind))=true then some (.inl 1)else eP (((i+1:Nat):Int),s.Types))=_
          grind
        grind)
    (by rw[eP,if_neg (by simp)])
   obtain⟨o,h1,h2,h3⟩:=this;have h1':f7 (s.Types,(s.Types.length:Int),0,s.Types,[])=some o:=h1;have h2':eP (0,s.Types)=some o:=h2;rw[h1',h2'];rcases h3 with⟨rfl,h4⟩ | ⟨i,e,h4,h5,rfl⟩
   . simp_all
   . refine⟨_,rfl,rfl,fun h0=>?_,fun h=>by have:=h.2 i h4;rw[h5]at this;cases this⟩
     exfalso
     subst h0;unfold stepV at h5
     grind
theorem ll {γ : Type} (L : Nat -> Option γ) (n : Nat) (q : Nat -> Bool) (hit : Nat -> γ) (miss : γ) (hstep : ∀ i, i < n -> L i = if q i = true then some (hit i) else L (i + 1)) (hend : L n = some miss):
 (∃j,j < n/\q j=true/\(∀k,k < j->q k=false)/\L 0=some (hit j))\/((∀k,k < n->q k=false)/\L 0=some miss):=by
 have key:∀k i,i+k=n->(∀m,m < i->q m=false)->L 0=L i->(∃j,j < n/\q j=true/\(∀k,k < j->q k=false)/\L 0=some (hit j))\/((∀k,k < n->q k=false)/\L 0=some miss):=by
  intro k
  induction k with
  | zero => intro i hi hm h0; have : i = n := by omega
            subst this;exact .inr ⟨hm,by rw[h0,hend]⟩
  | succ k ih=>
   intro i hi hm h0;rw[hstep i (by omega)]at h0
   grind
 exact key n 0 (by omega) (fun m hm=>by omega) rfl
def iC(l:List aj)(id:Int)(r:Int×Bool):Prop:=(∃j:Nat,j < l.length/\(l.getD j ag).ID=id/\(∀k,k < j->(l.getD k ag).ID≠id)/\r=((j:Int),true))\/((∀k,k < l.length->(l.getD k ag).ID≠id)/\r=(0,false))
theorem qc{l:List aj}{id:Int}{r q:Int×Bool}(h1:iC l id r)(h2:iC l id q):r=q:=by
 rcases h1 with⟨j,a1,a2,a3,rfl⟩ | ⟨a1,rfl⟩ <;> rcases h2 with⟨k,b1,b2,b3,rfl⟩ | ⟨b1,rfl⟩
 . grind
 . grind
 . grind
 . rfl
theorem po{t:ae}{id:Int}(hl:t.Members.length < 9223372036854775807):∃r,bR (t,id)=some r/\iC t.Members id r:=by
 rw[bR,oG];have h:=ll (fun i=>eB (t.Members,(t.Members.length:Int),(i:Int),id)) t.Members.length (fun i=>decide ((t.Members.getD i ag).ID=id)) (fun i=>.inl ((i:Int),id)) (.inr id)
  (fun i hi=>by
   rw[eB,if_pos (by simp;omega),if_pos (au hi)];simp only[oZ4,oZ3,az,dz,o8]
   rw[aE (by omega)])
  (by rw[eB,if_neg (by simp)])
 have e0:eB (t.Members,(t.Members.length:Int),((0:Nat):Int),id)=eB (t.Members,(t.Members.length:Int),0,id):=rfl;simp only[e0]at h;rcases h with⟨j,h1,h2,h3,h4⟩ | ⟨h1,h4⟩
 . rw[h4];refine⟨((j:Int),true),?_,.inl ⟨j,h1,by simpa using h2,fun k hk=>by simpa using h3 k hk,rfl⟩⟩;have e1:maxI (j:Int) 0=(j:Int):=by unfold maxI;omega
   simp_all
 . rw[h4];exact⟨(0,false),rfl,.inr ⟨fun k hk=>by simpa using h1 k hk,rfl⟩⟩
theorem tB{t:ae}{id:Int}(hl:t.Members.length < 9223372036854775807):∃r,cd (t,id)=some r/\iC t.Members id r:=by
 rw[cd];have h:=ll (fun i=>eM (id,(i:Int),t)) t.Members.length (fun i=>decide ((t.Members.getD i ag).ID=id)) (fun i=>.inl ((i:Int),true)) (.inr ())
  (fun i hi=>by
   rw[eM,if_pos (by simp;omega),if_pos (au hi),aE (by omega)]
   grind)
  (by rw[eM,if_neg (by simp)])
 have e0:eM (id,((0:Nat):Int),t)=eM (id,0,t):=rfl;simp only[e0]at h;rcases h with⟨j,h1,h2,h3,h4⟩ | ⟨h1,h4⟩
 . rw[h4];exact⟨((j:Int),true),rfl,.inl ⟨j,h1,by simpa using h2,fun k hk=>by simpa using h3 k hk,rfl⟩⟩
 . rw[h4];exact⟨(0,false),rfl,.inr ⟨fun k hk=>by simpa using h1 k hk,rfl⟩⟩
theorem fg{t:ae}(id:Int)(hl:t.Members.length < 9223372036854775807):∃r,bR (t,id)=some r/\cd (t,id)=some r/\iC t.Members id r:=by
 obtain⟨r,h1,h2⟩:=po (id:=id) hl;obtain⟨q,h3,h4⟩:=tB (id:=id) hl;have:=qc h2 h4
 grind
def jP(l:List aK)(id:Int)(r:Int×Bool):Prop:=(∃j:Nat,j < l.length/\(l.getD j aQ).ID=id/\(∀k,k < j->(l.getD k aQ).ID≠id)/\r=((j:Int),true))\/((∀k,k < l.length->(l.getD k aQ).ID≠id)/\r=(0,false))
theorem DL{l:List aK}{id:Int}{r q:Int×Bool}(h1:jP l id r)(h2:jP l id q):r=q:=by
 rcases h1 with⟨j,a1,a2,a3,rfl⟩ | ⟨a1,rfl⟩ <;> rcases h2 with⟨k,b1,b2,b3,rfl⟩ | ⟨b1,rfl⟩
 . grind
 . grind
 . grind
 . rfl
theorem kO{t:ae}(id:Int)(hl:t.Symbols.length < 9223372036854775807):∃r,kD (t,id)=some r/\iU (t,id)=some r/\jP t.Symbols id r:=by
 rw[kD,oF,iU];have h:=ll (fun i=>dI (t.Symbols,(t.Symbols.length:Int),(i:Int),id)) t.Symbols.length (fun i=>decide ((t.Symbols.getD i aQ).ID=id)) (fun i=>.inl ((i:Int),id)) (.inr id)
  (fun i hi=>by
   rw[dI,if_pos (by simp;omega),if_pos (au hi)];simp only[oZ4,oZ3,az,o7]
   rw[aE (by omega)])
  (by rw[dI,if_neg (by simp)])
 have e0:dI (t.Symbols,(t.Symbols.length:Int),((0:Nat):Int),id)=dI (t.Symbols,(t.Symbols.length:Int),0,id):=rfl;have g:=ll (fun i=>dP (id,(i:Int),t)) t.Symbols.length (fun i=>decide ((t.Symbols.getD i aQ).ID=id)) (fun i=>.inl ((i:Int),true)) (.inr ())
  (fun i hi=>by
   rw[dP,if_pos (by simp;omega),if_pos (au hi),aE (by omega)]
   grind)
  (by rw[dP,if_neg (by simp)])
 have g0:dP (id,((0:Nat):Int),t)=dP (id,0,t):=rfl;simp only[e0]at h;simp only[g0]at g;have hA:∃r,(dI (t.Symbols,(t.Symbols.length:Int),0,id) >>=fun o=>match o with | .inl o_1=>some (o_1.1,o_1.2) | .inr o_2=>some ((-1),o_2)) >>=(fun r=>some (maxI r.1 0,decide (0<=r.1)))=some r/\jP t.Symbols id r:=by
  rcases h with⟨j,h1,h2,h3,h4⟩ | ⟨h1,h4⟩
  . rw[h4];refine⟨((j:Int),true),?_,.inl ⟨j,h1,by simpa using h2,fun k hk=>by simpa using h3 k hk,rfl⟩⟩;have e1:maxI (j:Int) 0=(j:Int):=by unfold maxI;omega
    simp_all
  . rw[h4];exact⟨(0,false),rfl,.inr ⟨fun k hk=>by simpa using h1 k hk,rfl⟩⟩
 have hB:∃r,(dP (id,0,t) >>=fun o=>match o with | .inl o_1=>some (o_1.1,o_1.2) | .inr o_2=>some (0,false))=some r/\jP t.Symbols id r:=by
  rcases g with⟨j,h1,h2,h3,h4⟩ | ⟨h1,h4⟩
  . rw[h4];exact⟨((j:Int),true),rfl,.inl ⟨j,h1,by simpa using h2,fun k hk=>by simpa using h3 k hk,rfl⟩⟩
  . rw[h4];exact⟨(0,false),rfl,.inr ⟨fun k hk=>by simpa using h1 k hk,rfl⟩⟩
 obtain⟨r,a1,a2⟩:=hA;obtain⟨q,b1,b2⟩:=hB;have:=DL a2 b2
 grind
def zig(n:Int):Int:=if 0<=n then 2*n else -2*n - 1
theorem yk{a b:Int}(h:zig a=zig b):a=b:=by
 unfold zig at h;split at h <;> split at h <;> omega
def I64(n:Int):Prop:= -9223372036854775808<=n/\n<=9223372036854775807
theorem iD{n:Int}(h:I64 n):iV n=some (zig n):=by
 obtain⟨h1,h2⟩:=h;rw[iV];unfold zig;by_cases h0:0<=n
 . rw[if_pos (by simp[h0]),if_pos h0];obtain⟨k,rfl⟩:∃k:Nat,n=(k:Int):=⟨n.toNat,by omega⟩
   rw[wrpn (by omega)];have:=mulIn (a:=2) (b:=k) (by omega)
   grind
 . rw[if_neg (by simp[h0]),if_neg h0];rw[cq (by omega) (by omega),cX (by omega) (by omega)];obtain⟨k,hk⟩:∃k:Nat,0 - (n+1)=(k:Int):=⟨(0 - (n+1)).toNat,by omega⟩
   rw[hk,wrpn (by omega)];have h3:=mulIn (a:=2) (b:=k) (by omega);have h3':mulI .u64 2 (k:Int)=((2*k:Nat):Int):=h3;rw[h3'];have h4:=addIn (a:=2*k) (b:=1) (by omega)
   grind
theorem GR(a:Nat)(h:a < 18446744073709551616):xorI .u64 (a:Int) 0=(a:Int):=by
 have e:(BitVec.ofInt 64 (a:Int) ^^^ BitVec.ofInt 64 (0:Int)).toNat=a:=by grind
 show IntKind.u64.wrap (((BitVec.ofInt 64 (a:Int) ^^^ BitVec.ofInt 64 (0:Int)).toNat:Nat):Int)=_;rw[e];exact wrapu (by omega) (by omega)
theorem GT(a:Nat)(h:a < 18446744073709551616):xorI .u64 (a:Int) 18446744073709551615=((18446744073709551615 - a:Nat):Int):=by
 have e:(BitVec.ofInt 64 (a:Int) ^^^ BitVec.ofInt 64 (18446744073709551615:Int)).toNat=18446744073709551615 - a:=by
  have h1:BitVec.ofInt 64 (18446744073709551615:Int)=BitVec.allOnes 64:=by decide
  rw[h1,BitVec.ofInt_natCast,BitVec.xor_allOnes,BitVec.toNat_not,BitVec.toNat_ofNat,two64,Nat.mod_eq_of_lt h]
 all_goals (try omega)
 show IntKind.u64.wrap (((BitVec.ofInt 64 (a:Int) ^^^ BitVec.ofInt 64 (18446744073709551615:Int)).toNat:Nat):Int)=_;rw[e];exact wrapu (by omega) (by omega)
theorem shr63{n:Int}(h:I64 n):shrI .i64 n 63=if 0<=n then 0 else -1:=by
 obtain⟨h1,h2⟩:=h;unfold shrI;have e:((2:Int) ^ min (63:Int).toNat IntKind.i64.bits)=9223372036854775808:=by decide
 grind
theorem rV{n:Int}(h:I64 n):i6 n=some (zig n):=by
 rw[i6,shr63 h];obtain⟨h1,h2⟩:=h;unfold zig;have hs:∀m:Int,shlI .u64 m 1=IntKind.u64.wrap (m*2):=by
  intro m;unfold shlI;rfl
 rw[hs]
 congr 1
 by_cases h0:0<=n
 . rw[if_pos h0,if_pos h0];obtain⟨k,rfl⟩:∃k:Nat,n=(k:Int):=⟨n.toNat,by omega⟩
   rw[wrpn (by omega),wrapu (by omega) (by omega)];have:wrp .u64 0=0:=by decide
   rw[this];have:=GR (2*k) (by omega)
   grind
 . rw[if_neg h0,if_neg h0];have:wrp .u64 (-1)=18446744073709551615:=by decide
   rw[this];obtain⟨k,hk⟩:∃k:Nat,n+9223372036854775808=(k:Int):=⟨(n+9223372036854775808).toNat,by omega⟩
   have e:IntKind.u64.wrap (wrp .u64 n*2)=((2*k:Nat):Int):=by
    unfold wrp;rw[IntKind.wrap_u64,IntKind.wrap_u64];omega
   rw[e,GT _ (by omega)];omega
theorem cmp1(a b:Int):nh (a,b)=some (if a < b then -1 else if b < a then 1 else 0):=by
 rw[nh];simp only[nL,oZ4,oZ3,decide_true,Bool.not_true,Bool.false_eq_true,if_false]
 grind
theorem cmp2(a b:Int):kE (a,b)=some (if a < b then -1 else if b < a then 1 else 0):=by
 rw[kE];simp only[nj,oZ4,oZ3,decide_true,Bool.not_true,Bool.false_eq_true,if_false]
 grind
theorem cmp3(a b:List UInt8):mR (a,b)=some (if Op.bytesLess a b=true then -1 else if(Op.bytesLess a b || decide (a=b))=true then 0 else 1):=by
 rw[mR];simp only[nl,oZ4,oZ3,decide_true,Bool.not_true,Bool.false_eq_true,if_false]
 grind
theorem or2(a b:Int):oB [a,b]=some (if a≠0 then a else b):=by
 rw[oB];have h0:gp (0,[a,b],((2:Nat):Int),((0:Nat):Int))=if a≠0 then some (.inl a)else(if b≠0 then some (.inl b)else some (.inr 0)):=by
  rw[gp,if_pos (by decide),if_pos (show inR ((0:Nat):Int) ([a,b]:List Int).length=true from au (k:=0) (n:=2) (by omega))];simp only[oZ4,oZ3,az,List.getD_cons_zero];by_cases ha:a=0
  . rw[if_neg (by simp[ha]),if_neg (by simp[ha])];have e1:addI .i64 ((0:Nat):Int) 1=((1:Nat):Int):=aE (by omega);rw[e1,gp,if_pos (by decide),if_pos (show inR ((1:Nat):Int) ([a,b]:List Int).length=true from au (k:=1) (n:=2) (by omega))];simp only[oZ4,oZ3,az,List.getD_cons_succ,List.getD_cons_zero];by_cases hb:b=0
    . rw[if_neg (by simp[hb]),if_neg (by simp[hb])];have e2:addI .i64 ((1:Nat):Int) 1=((2:Nat):Int):=aE (by omega);rw[e2,gp,if_neg (by decide)]
    grind
  grind
 grind
theorem tM :∀a:List UInt8,Op.bytesLess a a=false
 | []=>rfl
 | x::r=>by
  simp[Op.bytesLess,tM r]
theorem pN{a b:ab}(ha:I64 a.Int_)(hb:I64 b.Int_):∃r,gW (a,b)=some r/\eR (a,b)=some r:=by
 rw[gW,eR];by_cases hk:a.Kind=b.Kind
 . rw[if_neg (show ¬((!(decide (a.Kind=b.Kind)))=true) by simp[hk]),if_neg (show ¬((!(decide (a.Kind=b.Kind)))=true) by simp[hk])];by_cases k1:a.Kind=1
   . rw[if_pos (show decide (a.Kind=1)=true by simp[k1]),if_pos (show decide (a.Kind=1)=true by simp[k1])];simp only[cw];cases eqB a.Bool_ b.Bool_ <;> cases b.Bool_ <;> exact⟨_,rfl,rfl⟩
   . rw[if_neg (show ¬(decide (a.Kind=1)=true) by simp[k1]),if_neg (show ¬(decide (a.Kind=1)=true) by simp[k1])];by_cases k2:a.Kind=2
     . rw[if_pos (show decide (a.Kind=2)=true by simp[k2]),if_pos (show decide (a.Kind=2)=true by simp[k2]),rV ha,rV hb,iD ha,iD hb];simp only[oZ4,oZ3,cmp1,cw];by_cases he:a.Int_=b.Int_
       . grind
       . have hne:zig a.Int_≠zig b.Int_:=fun h=>he (yk h)
         grind
     . rw[if_neg (show ¬(decide (a.Kind=2)=true) by simp[k2]),if_neg (show ¬(decide (a.Kind=2)=true) by simp[k2])];by_cases k3:a.Kind=3
       . rw[if_pos (show decide (a.Kind=3)=true by simp[k3]),if_pos (show decide (a.Kind=3)=true by simp[k3])];simp only[oZ4,oZ3,cmp2,cmp3,or2,cw];by_cases hl:a.Str.length=b.Str.length
         . have hq:¬((!(decide ((a.Str.length:Int)=(b.Str.length:Int))))=true):=by simp;omega
           rw[if_neg hq,hl];have e1:¬((b.Str.length:Int) < (b.Str.length:Int)):=by omega
           simp only[e1,if_false,ne_eq,not_true_eq_false];by_cases he:a.Str=b.Str
           . rw[he,tM]
             grind
           grind
         grind
       . rw[if_neg (show ¬(decide (a.Kind=3)=true) by simp[k3]),if_neg (show ¬(decide (a.Kind=3)=true) by simp[k3])];by_cases k4:a.Kind=4
         . rw[if_pos (show decide (a.Kind=4)=true by simp[k4]),if_pos (show decide (a.Kind=4)=true by simp[k4])];simp only[oZ4,oZ3,cmp2,cw]
           grind
         simp_all
 simp_all
def Both(o1 o2:Option Bool):Prop:=∃r,o1=some r/\o2=some r
theorem qM {γ δ : Type} (L : Nat -> Option (Bool ⊕ γ)) (L' : Nat -> Option (Bool ⊕ δ)) (n : Nat) (p : Nat -> Bool) (g : γ) (g' : δ)
 (h:∀i,i < n->L i=if p i=true then L (i+1)else some (.inl false)) (he:L n=some (.inr g))
 (h':∀i,i < n->L' i=if p i=true then L' (i+1)else some (.inl false)) (he':L' n=some (.inr g')):
 (L 0=some (.inr g)/\L' 0=some (.inr g')/\∀j,j < n->p j=true)\/(L 0=some (.inl false)/\L' 0=some (.inl false)/\∃j,j < n/\p j=false):=by
 rcases scan L n p (.inl false) (.inr g) h he with⟨a1,a2⟩ | ⟨a1,j,a2,a3⟩ <;> rcases scan L' n p (.inl false) (.inr g') h' he' with⟨b1,b2⟩ | ⟨b1,k,b2,b3⟩
 . exact .inl ⟨a1,b1,a2⟩
 . have:=a2 k b2;rw[b3]at this;cases this
 . have:=b2 j a2;rw[a3]at this;cases this
 . exact .inr ⟨a1,b1,j,a2,a3⟩
def fD(k:Int):Prop:=1<=k/\k<=9
theorem DN{v:ab}(hk:fD v.Kind):∃p,mY v=some p/\gR v=some p/\(p=true->v.Kind≠5->v.Kind≠6->v.Rest=[]):=by
 obtain⟨K,B,I,S,ID,Ks,Is,R⟩:=v;simp only at hk;rw[mY,ab.aA,gR];have:K=1\/K=2\/K=3\/K=4\/K=5\/K=6\/K=7\/K=8\/K=9:=by unfold fD at hk;omega
 have eI:∀(x:Int),decide (x=x)=true:=fun x=>by simp
 rcases this with rfl | rfl | rfl | rfl | rfl | rfl | rfl | rfl | rfl
 all_goals
  refine⟨_,rfl,?_,?_⟩
  . simp[nA,eqB]
    try (cases B <;> simp)
  . simp[nA,eqB]
section
variable {ts:List ae} (hn:ts.length < 9223372036854775807) (hT:∀t,t∈ts->OkT t) (hK:∀t,t∈ts->fD t.Kind)
def Fit(ts:List ae)(x:ab):Prop:=∀t plain,Both (ck ((⟨ts⟩:av),t,x,plain)) (bQ ((⟨ts⟩:av),t,x,plain))
theorem wA {l : List ab} (hl : l.length <= reachBytes) (ih : ∀ x, x ∈ l -> Fit ts x) (t : Int) (plain : Bool):
 Both (gm ((⟨ts⟩:av),t,l,plain)) (d7 ((⟨ts⟩:av),t,l,plain)):=by
 have hr:=aR hl
 let p:Nat->Bool:=fun i=>(ck ((⟨ts⟩:av),t,l.getD i af,plain)).getD false
 have hp:∀i,i < l.length->ck ((⟨ts⟩:av),t,l.getD i af,plain)=some (p i)/\bQ ((⟨ts⟩:av),t,l.getD i af,plain)=some (p i):=by
  intro i hi;obtain⟨r,h1,h2⟩:=ih _ (aB hi af) t plain
  grind
 have hf:=ll (fun i=>fF (l,(l.length:Int),(i:Int),ts,t,plain)) l.length (fun i=>!(p i)) (fun i=>.inl ((i:Int),ts,t,plain)) (.inr (ts,t,plain))
  (fun i hi=>by
   rw[fF,if_pos (by simp;omega),if_pos (au hi),pM];simp only[ab.aA,az];rw[(hp i hi).1,aE (by omega)]
   rfl)
  (by rw[fF,if_neg (by simp)])
 have hs:=scan (fun i=>cu (t,l,plain,(i:Int),ts)) l.length p (.inl false) (.inr ())
  (fun i hi=>by
   rw[cu,if_pos (by simp;omega),if_pos (au hi)];simp only[ab.aA,az];rw[(hp i hi).2,aE (by omega)]
   grind)
  (by rw[cu,if_neg (by simp)])
 have e1:fF (l,(l.length:Int),((0:Nat):Int),ts,t,plain)=fF (l,(l.length:Int),0,ts,t,plain):=rfl;have e2:cu (t,l,plain,((0:Nat):Int),ts)=cu (t,l,plain,0,ts):=rfl;simp only[e1]at hf;simp only[e2]at hs;rw[gm,md,oH,d7];rcases hf with⟨j,a1,a2,a3,a4⟩ | ⟨a1,a4⟩ <;> rcases hs with⟨b1,b2⟩ | ⟨b1,k,b2,b3⟩
 . have:=b2 j a1;simp[this]at a2
 . rw[a4,b1];refine⟨false,?_,rfl⟩;have e:decide ((0:Int)<=(j:Int))=true:=by simp
   simp only[oZ4,oZ3,e,Bool.not_true]
 . rw[a4,b1];exact⟨true,rfl,rfl⟩
 . have:=a1 k b2;simp[b3]at this
def restP(t:ae)(l:List aG)(i:Nat):Bool:=
 !((bR (t,(l.getD i aC).ID)).getD (0,false)).2 && (decide (1<=(l.getD i aC).ID) && decide ((l.getD i aC).ID<=1000)) && (decide (i=0) || decide ((l.getD (i - 1) aC).ID < (l.getD i aC).ID))
theorem GU {γ : Type} (kn f Z : Bool) (sI : Int) (I1 C : Int -> Bool) (X Y : Option γ) (hI1 : Z = true -> I1 sI = true):
 ((if(!kn)=true then some f else some false) >>=fun r_17=>some (bif kn then true else(!r_17)) >>=fun t131=>some Z >>=fun t134=>some sI >>=fun t141=>
  if(I1 t141 || (!((!t131) && t134)))=true then if(bif t131 then true else bif t134 then C t141 else false)=true then X else Y else none)=if(!kn && f && (!Z || !(C sI)))=true then Y else X:=by
 simp only[oZ4,oZ3];generalize C sI=c;cases Z with
 | true=>rw[hI1 rfl];cases kn <;> cases f <;> cases c <;> rfl
 | false=>generalize I1 sI=d;cases kn <;> cases f <;> cases d <;> cases c <;> rfl
theorem uO {γ : Type} (R3 I0 Z : Bool) (sI : Int) (I1 C : Int -> Bool) (X Y : Option γ) (hI0 : I0 = true) (hI1 : Z = true -> I1 sI = true):
 (some R3 >>=fun r_3=>some (!r_3) >>=fun t31=>some Z >>=fun t34=>
  if(I0 || (!((!t31) && t34)))=true then some sI >>=fun t43=>if(I1 t43 || (!((!t31) && t34)))=true then if(bif t31 then true else bif t34 then C t43 else false)=true then X else Y else none else none)=if(R3 && (!Z || !(C sI)))=true then Y else X:=by
 subst hI0;simp only[oZ4,oZ3];generalize C sI=c;cases Z with
 | true=>rw[hI1 rfl];cases R3 <;> cases c <;> rfl
 | false=>generalize I1 sI=d;cases R3 <;> cases d <;> cases c <;> rfl
theorem gq{i:Nat}(h:0 < i)(h2:i < 9223372036854775807):subI .i64 (i:Int) 1=((i - 1:Nat):Int):=by
 rw[cX (by omega) (by omega)];omega
theorem rests {t : ae} (ht : t.Members.length < 9223372036854775807) (v : ab) (hl : v.Rest.length <= reachBytes) (plain : Bool) (ts : List ae):
 let inr:=(plain,ts,v.Kind,v.Bool_,v.Int_,v.Str,v.ID,v.Keys,v.Items,v.Rest,t.Kind,t.Name,t.Low,t.High,t.Max,t.Symbols,t.Members,t.Key,t.Elem,t.Open)
 ((cR (plain,v.Rest,(v.Rest.length:Int),0,ts,v,t.Kind,t.Name,t.Low,t.High,t.Max,t.Symbols,t.Members,t.Key,t.Elem,t.Open)=some (.inr inr)/\fZ (t,v.Rest)=some true)\/
  (cR (plain,v.Rest,(v.Rest.length:Int),0,ts,v,t.Kind,t.Name,t.Low,t.High,t.Max,t.Symbols,t.Members,t.Key,t.Elem,t.Open)=some (.inl false)/\fZ (t,v.Rest)=some false)):=by
 intro inr;have hr:=aR hl;have hpe:∀i,i < v.Rest.length->∀r,bR (t,(v.Rest.getD i aC).ID)=some r->restP t v.Rest i=(!r.2 && (bif decide (1<=(v.Rest.getD i aC).ID)then decide ((v.Rest.getD i aC).ID<=1000)else false) && (!(decide ((0:Int) < (i:Int))) || !(decide ((v.Rest.getD i aC).ID<=(v.Rest.getD (subI .i64 (i:Int) 1).toNat aC).ID)))):=by
  intro i hi r hm;unfold restP;rw[hm,Option.getD_some];generalize (v.Rest.getD i aC).ID=x;by_cases h0:i=0
  . grind
  . have hz:decide ((0:Int) < (i:Int))=true:=by simp;omega
    rw[hz,gq (by omega) (by omega),az]
    grind
 have h:=qM (fun i=>cR (plain,v.Rest,(v.Rest.length:Int),(i:Int),ts,v,t.Kind,t.Name,t.Low,t.High,t.Max,t.Symbols,t.Members,t.Key,t.Elem,t.Open)) (fun i=>cg (v.Rest,(i:Int),t)) v.Rest.length (restP t v.Rest) inr ()
  (fun i hi=>by
   obtain⟨r,h1,_,_⟩:=fg (t:=t) (v.Rest.getD i aC).ID ht;rw[cR,if_pos (by simp;omega),if_pos (au hi),hpe i hi r h1];simp only[az,nY,ab.aA,kW,oZ4,oZ3];rw[h1,aE (by omega)]
   exact GU r.2 (bif decide (1<=(v.Rest.getD i aC).ID)then decide ((v.Rest.getD i aC).ID<=1000)else false) (decide ((0:Int) < (i:Int))) (subI .i64 (i:Int) 1) (fun j=>inR j v.Rest.length) (fun j=>decide ((v.Rest.getD i aC).ID<=(v.Rest.getD j.toNat aC).ID)) _ _ (fun hz=>by
    have:0 < i:=by simp at hz;omega
    show inR _ _=true
    rw[gq this (by omega)];exact au (by omega)))
  (by rw[cR,if_neg (by simp)])
  (fun i hi=>by
   obtain⟨r,h1,h2,_⟩:=fg (t:=t) (v.Rest.getD i aC).ID ht;rw[cg,if_pos (by simp;omega),if_pos (au hi),hpe i hi r h1];simp only[az];rw[h2,aE (by omega)];have hid:bU ((v.Rest.getD i aC).ID,r.2)=some ((!r.2) && (bif decide (1<=(v.Rest.getD i aC).ID)then decide ((v.Rest.getD i aC).ID<=1000)else false)):=by
    rw[bU]
    grind
   show(if inR (i:Int) v.Rest.length=true then bU ((v.Rest.getD i aC).ID,r.2) >>=_ else none)=_;rw[if_pos (au hi),hid]
   exact uO ((!r.2) && (bif decide (1<=(v.Rest.getD i aC).ID)then decide ((v.Rest.getD i aC).ID<=1000)else false)) (inR (i:Int) v.Rest.length) (decide ((0:Int) < (i:Int))) (subI .i64 (i:Int) 1) (fun j=>inR j v.Rest.length) (fun j=>decide ((v.Rest.getD i aC).ID<=(v.Rest.getD j.toNat aC).ID)) _ _ (au hi) (fun hz=>by
    have:0 < i:=by simp at hz;omega
    show inR _ _=true
    rw[gq this (by omega)];exact au (by omega)))
  (by rw[cg,if_neg (by simp)])
 have e1:cR (plain,v.Rest,(v.Rest.length:Int),((0:Nat):Int),ts,v,t.Kind,t.Name,t.Low,t.High,t.Max,t.Symbols,t.Members,t.Key,t.Elem,t.Open)=cR (plain,v.Rest,(v.Rest.length:Int),0,ts,v,t.Kind,t.Name,t.Low,t.High,t.Max,t.Symbols,t.Members,t.Key,t.Elem,t.Open):=rfl;have e2:cg (v.Rest,((0:Nat):Int),t)=cg (v.Rest,0,t):=rfl
 simp only[e1,e2]at h;rw[fZ];rcases h with⟨h1,h2,_⟩ | ⟨h1,h2,_⟩
 . exact .inl ⟨h1,by rw[h2];rfl⟩
 . exact .inr ⟨h1,by rw[h2];rfl⟩
end
theorem EX {ts : List ae} {t : ae} {v : ab} (hl : v.Items.length = t.Members.length) (hr : t.Members.length < 9223372036854775807) (ih : ∀ x, x ∈ v.Items -> Fit ts x) (plain : Bool):
 (du (plain,t.Members,(t.Members.length:Int),0,ts,v.Kind,v.Bool_,v.Int_,v.Str,v.ID,v.Keys,v.Items,v.Rest)=some (.inr ())/\bO (plain,0,ts,v,t.Kind,t.Name,t.Low,t.High,t.Max,t.Symbols,t.Members,t.Key,t.Elem,t.Open)=some (.inr ()))\/
 (du (plain,t.Members,(t.Members.length:Int),0,ts,v.Kind,v.Bool_,v.Int_,v.Str,v.ID,v.Keys,v.Items,v.Rest)=some (.inl false)/\bO (plain,0,ts,v,t.Kind,t.Name,t.Low,t.High,t.Max,t.Symbols,t.Members,t.Key,t.Elem,t.Open)=some (.inl false)):=by
 let p:Nat->Bool:=fun i=>(ck ((⟨ts⟩:av),(t.Members.getD i ag).Type_,v.Items.getD i af,plain)).getD false
 have hp:∀i,i < t.Members.length->ck ((⟨ts⟩:av),(t.Members.getD i ag).Type_,v.Items.getD i af,plain)=some (p i)/\bQ ((⟨ts⟩:av),(t.Members.getD i ag).Type_,v.Items.getD i af,plain)=some (p i):=by
  intro i hi;obtain⟨r,h1,h2⟩:=ih _ (aB (by omega:i < v.Items.length) af) (t.Members.getD i ag).Type_ plain
  grind
 have h:=qM (fun i=>du (plain,t.Members,(t.Members.length:Int),(i:Int),ts,v.Kind,v.Bool_,v.Int_,v.Str,v.ID,v.Keys,v.Items,v.Rest)) (fun i=>bO (plain,(i:Int),ts,v,t.Kind,t.Name,t.Low,t.High,t.Max,t.Symbols,t.Members,t.Key,t.Elem,t.Open)) t.Members.length p () ()
  (fun i hi=>by
   rw[du,if_pos (by simp;omega),if_pos (au hi),if_pos (au (by omega))];simp only[az,ab.aA];rw[(hp i hi).1,aE (by omega)]
   grind)
  (by rw[du,if_neg (by simp)])
  (fun i hi=>by
   rw[bO,if_pos (by simp;omega),if_pos (au hi),if_pos (au (by omega))];simp only[az,ab.aA];rw[(hp i hi).2,aE (by omega)]
   grind)
  (by rw[bO,if_neg (by simp;omega)])
 have e1:du (plain,t.Members,(t.Members.length:Int),((0:Nat):Int),ts,v.Kind,v.Bool_,v.Int_,v.Str,v.ID,v.Keys,v.Items,v.Rest)=du (plain,t.Members,(t.Members.length:Int),0,ts,v.Kind,v.Bool_,v.Int_,v.Str,v.ID,v.Keys,v.Items,v.Rest):=rfl
 have e2:bO (plain,((0:Nat):Int),ts,v,t.Kind,t.Name,t.Low,t.High,t.Max,t.Symbols,t.Members,t.Key,t.Elem,t.Open)=bO (plain,0,ts,v,t.Kind,t.Name,t.Low,t.High,t.Max,t.Symbols,t.Members,t.Key,t.Elem,t.Open):=rfl;simp only[e1,e2]at h;rcases h with⟨h1,h2,_⟩ | ⟨h1,h2,_⟩
 . exact .inl ⟨h1,h2⟩
 . exact .inr ⟨h1,h2⟩
theorem jC{v:ab}(h:OkV v):I64 v.Int_:=by cases h with | mk _ _ _ _ _ _ _ _ n1 n2=>exact n2
theorem F5 {ts : List ae} {t : ae} {v : ab} (hr : v.Keys.length < 9223372036854775807) (hk : ∀ x, x ∈ v.Keys -> OkV x) (plain : Bool):
 let inr:=(plain,ts,v,t.Kind,t.Name,t.Low,t.High,t.Max,t.Symbols,t.Members,t.Key,t.Elem,t.Open)
 (cz (plain,1,ts,v,t.Kind,t.Name,t.Low,t.High,t.Max,t.Symbols,t.Members,t.Key,t.Elem,t.Open)=some (.inr inr)/\bA (1,v)=some (.inr ()))\/
 (cz (plain,1,ts,v,t.Kind,t.Name,t.Low,t.High,t.Max,t.Symbols,t.Members,t.Key,t.Elem,t.Open)=some (.inl false)/\bA (1,v)=some (.inl false)):=by
 intro inr;by_cases h0:v.Keys.length=0
 . left;refine⟨?_,?_⟩
   . rw[cz,if_neg (by simp[h0]),ab.aA]
   . rw[bA,if_neg (by simp[h0])]
 let c:Nat->Int:=fun i=>(gW (v.Keys.getD i af,v.Keys.getD (i+1) af)).getD 0
 have hc:∀i,i+1 < v.Keys.length->gW (v.Keys.getD i af,v.Keys.getD (i+1) af)=some (c i)/\eR (v.Keys.getD i af,v.Keys.getD (i+1) af)=some (c i):=by
  intro i hi;obtain⟨r,h1,h2⟩:=pN (jC (hk _ (aB (by omega:i < v.Keys.length) af))) (jC (hk _ (aB hi af)))
  grind
 have h:=qM (fun i=>cz (plain,((i+1:Nat):Int),ts,v,t.Kind,t.Name,t.Low,t.High,t.Max,t.Symbols,t.Members,t.Key,t.Elem,t.Open)) (fun i=>bA (((i+1:Nat):Int),v)) (v.Keys.length - 1) (fun i=>!(decide (0<=c i))) inr ()
  (fun i hi=>by
   have hs:=gq (i:=i+1) (by omega) (by omega);have hs':subI .i64 ((i+1:Nat):Int) 1=(i:Int):=by rw[hs];simp
   rw[cz,if_pos (by simp;omega)];simp only[oZ4,oZ3];rw[hs',if_pos (au (by omega)),if_pos (au (by omega))];simp only[az,ab.aA];rw[(hc i (by omega)).1,aE (by omega)]
   grind)
  (by
   have e:v.Keys.length - 1+1=v.Keys.length:=by omega
   rw[e,cz,if_neg (by simp),ab.aA])
  (fun i hi=>by
   have hs:=gq (i:=i+1) (by omega) (by omega);have hs':subI .i64 ((i+1:Nat):Int) 1=(i:Int):=by rw[hs];simp
   rw[bA,if_pos (by simp;omega)];simp only[oZ4,oZ3];rw[hs',if_pos (au (by omega)),if_pos (au (by omega))];simp only[az,ab.aA];rw[(hc i (by omega)).2,aE (by omega)]
   grind)
  (by
   have e:v.Keys.length - 1+1=v.Keys.length:=by omega
   rw[e,bA,if_neg (by simp)])
 have e1:cz (plain,((0+1:Nat):Int),ts,v,t.Kind,t.Name,t.Low,t.High,t.Max,t.Symbols,t.Members,t.Key,t.Elem,t.Open)=cz (plain,1,ts,v,t.Kind,t.Name,t.Low,t.High,t.Max,t.Symbols,t.Members,t.Key,t.Elem,t.Open):=rfl;have e2:bA (((0+1:Nat):Int),v)=bA (1,v):=rfl;simp only[e1,e2]at h;rcases h with⟨h1,h2,_⟩ | ⟨h1,h2,_⟩
 . exact .inl ⟨h1,h2⟩
 . exact .inr ⟨h1,h2⟩
theorem vF{α β:Type}{a:List α}{b:List β}(h:decide ((a.length:Int)=(b.length:Int))=true):a.length=b.length:=by grind
theorem k4e {o : Option (Int×Bool)} {r : Int×Bool} (ho : o = some r) (O plain f : Bool):
 (o >>=fun r_1=>some (bif O then(!plain)else false) >>=fun t85=>(if((!r_1.2) && t85)=true then some f else some false) >>=fun r_4=>some (bif r_1.2 then true else bif t85 then r_4 else false))=some (r.2 || (O && !plain && f)):=by
 subst ho;obtain⟨k,kn⟩:=r;cases kn <;> cases O <;> cases plain <;> cases f <;> rfl
theorem k4r {o : Option (Int×Bool)} {r : Int×Bool} (ho : o = some r) (O plain f : Bool) (F : Bool -> Option Bool) (hF : F false = some f):
 (o >>=fun r_1=>some (bif O then(!plain)else false) >>=fun t85=>(if((!r_1.2) && t85)=true then F r_1.2 else some false) >>=fun r_4=>some (bif r_1.2 then true else bif t85 then r_4 else false))=some (r.2 || (O && !plain && f)):=by
 subst ho;obtain⟨k,kn⟩:=r;cases kn <;> cases O <;> cases plain <;> simp[hF]
theorem k7{o:Option Bool}{r:Bool}(ho:o=some r)(q:Bool):(some q >>=fun t244=>(if t244=true then o else some false) >>=fun r_10=>some (bif t244 then r_10 else false))=some (q && r):=by grind
theorem k6k(c I1 I2 f:Bool){X:Option Bool}(hX:c=true->X=some f)(h1:c=true->I1=true/\I2=true):(some c >>=fun t188=>if(I1 || (!t188))=true then if(I2 || (!t188))=true then(if t188=true then X else some false) >>=fun r_8=>some (bif t188 then r_8 else false)else none else none)=some (c && f):=by grind
theorem k5r (A b q m : Bool) {ro : Option Bool} (hr : ro = some q) {L : Option (Bool ⊕ Unit)} (hL : A = true -> L = some (if m = true then .inr () else .inl false)):
 (if(bif (bif false then true else(!true))then true else b)=true then some false else some (!A) >>=fun t107=>(if(!t107)=true then ro else some false) >>=fun r_5=>if(bif t107 then true else(!r_5))=true then some false else L >>=fun o=>match o with | .inl x=>some x | .inr _=>some true)=some (A && !b && q && m):=by
 subst hr;cases A with
 | false=>cases b <;> rfl
 | true=>
  rw[hL rfl];cases b <;> cases q <;> cases m <;> rfl
theorem k6u(g f c1 c2 I E:Bool)(h1:c2=true->I=true):(some g >>=fun t209=>(if t209=true then some f else some false) >>=fun r_9=>some (bif bif bif t209 then r_9 else false then c1 else false then c2 else false) >>=fun t226=>if(I || (!t226))=true then some (bif t226 then E else false)else none)=some (g && f && c1 && c2 && E):=by grind
theorem k8r (c : Bool) {ok oi : Option Bool} {k i : Bool} (hk : ok = some k) (hi : oi = some i) {L : Option (Bool ⊕ Unit)} {q : Bool} (hL : L = some (if q = true then .inr () else .inl false)):
 (some c >>=fun t239=>(if(!t239)=true then ok else some false) >>=fun r_12=>some (bif t239 then true else(!r_12)) >>=fun t249=>(if(!t249)=true then oi else some false) >>=fun r_13=>if(bif t249 then true else(!r_13))=true then some false else L >>=fun o_3=>match o_3 with | .inl o_4=>some o_4 | .inr _=>some true)=some (!c && k && q && i):=by
 subst hk;subst hi;subst hL;cases c <;> cases k <;> cases q <;> cases i <;> rfl
theorem F6{ts:List ae}(hn:ts.length < 9223372036854775807)(hT:∀t,t∈ts->OkT t)(hK:∀t,t∈ts->fD t.Kind){v:ab}(hv:OkV v):Fit ts v:=by
 induction hv with
 | mk v hs h1 h2 h3 hk hi hrd n1 n2 n3 n4 ihk ihi=>
  intro t plain;rw[ck,bQ];by_cases hout:(bif decide (t < 0)then true else decide (((⟨ts⟩:av).Types.length:Int)<=t))=true
  . rw[if_pos hout,if_pos hout];exact⟨false,rfl,rfl⟩
  . rw[if_neg hout,if_neg hout];have hin:0<=t/\t < ts.length:=by grind
    obtain⟨j,rfl⟩:∃j:Nat,t=(j:Int):=⟨t.toNat,by omega⟩
    have hj:j < ts.length:=by omega
    rw[if_pos (au hj),if_pos (au hj)];simp only[az,ab.aA];have hxT:=hT _ (aB hj ap);have hxK:=hK _ (aB hj ap);generalize ts.getD j ap=x at hxT hxK ⊢;have hm:=aR (ce hxT.mems);have hsy:=aR (ce hxT.syms);by_cases hkd:v.Kind=x.Kind
    . obtain⟨p,p1,p2,p3⟩:=DN (v:=v) (by rw[hkd];exact hxK);rw[p1,p2];cases p with
      | false=>exact⟨false,by simp[hkd],by simp[hkd]⟩
      | true=>
       have hitems:=wA (ts:=ts) h2 ihi;have hkeys:=wA (ts:=ts) h1 ihk;obtain⟨K,N,L,H,M,S,Ms,Ke,E,O⟩:=x;obtain⟨vK,B,I,Sx,ID,Ks,Is,R⟩:=v;simp only at hkd;subst hkd;have p3':=p3 rfl;simp only at p3' hxK hm hsy h1 h2 h3;have hc:vK=1\/vK=2\/vK=3\/vK=4\/vK=5\/vK=6\/vK=7\/vK=8\/vK=9:=by unfold fD at hxK;omega
       rcases hc with rfl | rfl | rfl | rfl | rfl | rfl | rfl | rfl | rfl
       . obtain rfl:R=[]:=p3' (by decide) (by decide);cases plain <;> exact⟨true,rfl,rfl⟩
       . obtain rfl:R=[]:=p3' (by decide) (by decide);cases plain <;> exact⟨_,rfl,rfl⟩
       . obtain rfl:R=[]:=p3' (by decide) (by decide);cases plain <;> exact⟨_,rfl,rfl⟩
       . obtain rfl:R=[]:=p3' (by decide) (by decide);obtain⟨r,r1,r2,_⟩:=kO (t:=⟨4,N,L,H,M,S,Ms,Ke,E,O⟩) ID hsy;have hf:bU (ID,false)=some (bif decide (1<=ID)then decide (ID<=1000)else false):=by rfl
         cases plain
         . exact⟨_,k4e r1 O false _,k4r r2 O false _ (fun b=>bU (ID,b)) hf⟩
         . exact⟨_,k4e r1 O true _,k4r r2 O true _ (fun b=>bU (ID,b)) hf⟩
       ·
        have hrs:=rests (t:=⟨5,N,L,H,M,S,Ms,Ke,E,O⟩) hm ⟨5,B,I,Sx,ID,Ks,Is,R⟩ h3 plain ts;have hps:decide ((Is.length:Int)=(Ms.length:Int))=true->_:=fun hA=>EX (ts:=ts) (t:=⟨5,N,L,H,M,S,Ms,Ke,E,O⟩) (v:=⟨5,B,I,Sx,ID,Ks,Is,R⟩) (vF hA) hm ihi plain
        have hq:∃q:Bool,cR (plain,R,(R.length:Int),0,ts,⟨5,B,I,Sx,ID,Ks,Is,R⟩,5,N,L,H,M,S,Ms,Ke,E,O)=some (if q=true then .inr (plain,ts,5,B,I,Sx,ID,Ks,Is,R,5,N,L,H,M,S,Ms,Ke,E,O)else .inl false)/\fZ (⟨5,N,L,H,M,S,Ms,Ke,E,O⟩,R)=some q:=by grind
        obtain⟨q,q1,q2⟩:=hq;have hmm:∃m:Bool,decide ((Is.length:Int)=(Ms.length:Int))=true->(du (plain,Ms,(Ms.length:Int),0,ts,5,B,I,Sx,ID,Ks,Is,R)=some (if m=true then .inr ()else .inl false)/\bO (plain,0,ts,⟨5,B,I,Sx,ID,Ks,Is,R⟩,5,N,L,H,M,S,Ms,Ke,E,O)=some (if m=true then .inr ()else .inl false)):=by
         cases hA:decide ((Is.length:Int)=(Ms.length:Int))with
         | false=>exact⟨true,fun h=>by cases h⟩
         | true=>
          rcases hps hA with⟨a,b⟩ | ⟨a,b⟩
          . simp_all
          simp_all
        obtain⟨m,hm'⟩:=hmm;refine⟨(decide ((Is.length:Int)=(Ms.length:Int))) && !(bif plain then decide (0 < (R.length:Int))else false) && q && m,?_,?_⟩
        . show(if(bif (!(decide ((Is.length:Int)=(Ms.length:Int))))then true else bif plain then decide (0 < (R.length:Int))else false)=true then some false else cR (plain,R,(R.length:Int),0,ts,⟨5,B,I,Sx,ID,Ks,Is,R⟩,5,N,L,H,M,S,Ms,Ke,E,O) >>=_)=_
          grind
        . exact k5r (decide ((Is.length:Int)=(Ms.length:Int))) (bif plain then decide (0 < (R.length:Int))else false) q m q2 (fun hA=>(hm' hA).2)
       ·
        obtain⟨r,r1,r2,hf⟩:=fg (t:=⟨6,N,L,H,M,S,Ms,Ke,E,O⟩) ID hm;have hid:∀b,b=false->bU (ID,b)=some (bif decide (1<=ID)then decide (ID<=1000)else false):=by
         intro b hb;subst hb;rfl
        have hX:∃f:Bool,(bif decide ((Is.length:Int)=1)then decide ((R.length:Int)=0)else false)=true->(ck ((⟨ts⟩:av),(Ms.getD r.1.toNat ag).Type_,Is.getD (0:Int).toNat af,plain)=some f/\bQ ((⟨ts⟩:av),(Ms.getD r.1.toNat ag).Type_,Is.getD (0:Int).toNat af,plain)=some f):=by
         by_cases h1':Is.length=1
         . obtain⟨f,f1,f2⟩:=ihi (Is.getD 0 af) (aB (by omega:0 < Is.length) af) (Ms.getD r.1.toNat ag).Type_ plain
           grind
         grind
        obtain⟨f,hfX⟩:=hX;have hidx:r.2=true->(bif decide ((Is.length:Int)=1)then decide ((R.length:Int)=0)else false)=true->inR r.1 Ms.length=true/\inR 0 Is.length=true:=by
         intro h6 hc';constructor
         . rcases hf with⟨k,k1,_,_,rfl⟩ | ⟨_,rfl⟩
           . exact au k1
           . cases h6
         . by_cases h1':Is.length=1
           . exact au (k:=0) (by omega)
           grind
        have hR0:decide ((R.length:Int)=1)=true->inR 0 R.length=true:=by
         intro h;have:=of_decide_eq_true h;exact au (k:=0) (by omega)
        obtain⟨ri,rk⟩:=r;refine⟨if rk=true then(bif decide ((Is.length:Int)=1)then decide ((R.length:Int)=0)else false) && f else(bif O then(!plain)else false) && (bif decide (1<=ID)then decide (ID<=1000)else false) && decide ((Is.length:Int)=0) && decide ((R.length:Int)=1) && decide ((R.getD (0:Int).toNat aC).ID=ID),?_,?_⟩
        . show(bR (⟨6,N,L,H,M,S,Ms,Ke,E,O⟩,ID) >>=_)=_;rw[r1];cases rk with
          | true=>exact k6k _ (inR ri Ms.length) (inR 0 Is.length) f (fun h=>(hfX h).1) (hidx rfl)
          | false=>exact k6u (bif O then(!plain)else false) (bif decide (1<=ID)then decide (ID<=1000)else false) (decide ((Is.length:Int)=0)) (decide ((R.length:Int)=1)) (inR 0 R.length) (decide ((R.getD (0:Int).toNat aC).ID=ID)) hR0
        . show(if(bif (bif false then true else(!true))then true else(bif plain then decide (0 < (R.length:Int))else false))=true then some false else cd (⟨6,N,L,H,M,S,Ms,Ke,E,O⟩,ID) >>=_)=_;rw[r2];cases hb0:(bif plain then decide (0 < (R.length:Int))else false)with
          | true=>
           have hpl:plain=true:=by grind
           subst hpl;have hRl:decide ((R.length:Int)=0)=false:=by grind
           grind
          | false=>
           cases rk with
           | true=>exact k6k _ (inR ri Ms.length) (inR 0 Is.length) f (fun h=>(hfX h).2) (hidx rfl)
           | false=>exact k6u (bif O then(!plain)else false) (bif decide (1<=ID)then decide (ID<=1000)else false) (decide ((Is.length:Int)=0)) (decide ((R.length:Int)=1)) (inR 0 R.length) (decide ((R.getD (0:Int).toNat aC).ID=ID)) hR0
       . obtain rfl:R=[]:=p3' (by decide) (by decide);obtain⟨r,r1,r2⟩:=hitems E plain;cases plain
         . exact⟨_,k7 r1 _,k7 r2 _⟩
         . exact⟨_,k7 r1 _,k7 r2 _⟩
       . obtain rfl:R=[]:=p3' (by decide) (by decide);obtain⟨k,k1,k2⟩:=hkeys Ke plain;obtain⟨i,i1,i2⟩:=hitems E plain;have hks:=F5 (ts:=ts) (t:=⟨8,N,L,H,M,S,Ms,Ke,E,O⟩) (v:=⟨8,B,I,Sx,ID,Ks,Is,[]⟩) (aR h1) hk plain
         obtain⟨q,qa,qb⟩:∃q:Bool,cz (plain,1,ts,⟨8,B,I,Sx,ID,Ks,Is,[]⟩,8,N,L,H,M,S,Ms,Ke,E,O)=some (if q=true then .inr (plain,ts,⟨8,B,I,Sx,ID,Ks,Is,[]⟩,8,N,L,H,M,S,Ms,Ke,E,O)else .inl false)/\bA (1,⟨8,B,I,Sx,ID,Ks,Is,[]⟩)=some (if q=true then .inr ()else .inl false):=by
          rcases hks with⟨a,b⟩ | ⟨a,b⟩
          . simp_all
          simp_all
         refine⟨!(bif decide (M < (Ks.length:Int))then true else(!(decide ((Is.length:Int)=(Ks.length:Int))))) && k && q && i,?_,?_⟩
         . show(some (bif decide (M < (Ks.length:Int))then true else(!(decide ((Is.length:Int)=(Ks.length:Int))))) >>=fun t270=>(if(!t270)=true then gm ((⟨ts⟩:av),Ke,Ks,plain)else some false) >>=fun r_11=>if(bif t270 then true else(!r_11))=true then some false else cz (plain,1,ts,⟨8,B,I,Sx,ID,Ks,Is,[]⟩,8,N,L,H,M,S,Ms,Ke,E,O) >>=_)=_
           grind
         . cases plain
           . exact k8r (bif decide (M < (Ks.length:Int))then true else(!(decide ((Is.length:Int)=(Ks.length:Int))))) k2 i2 qb
           . exact k8r (bif decide (M < (Ks.length:Int))then true else(!(decide ((Is.length:Int)=(Ks.length:Int))))) k2 i2 qb
       . obtain rfl:R=[]:=p3' (by decide) (by decide);obtain⟨r,r1,r2⟩:=hitems E plain;cases plain
         . exact⟨_,k7 r1 _,k7 r2 _⟩
         . exact⟨_,k7 r1 _,k7 r2 _⟩
    . exact⟨false,by simp[hkd],by simp[hkd]⟩
theorem ju{U:Uni}{t:Ty}{l:List (t.den U.D)}(h:WF U ⟨.slice t,l⟩):l.length<=reachBytes/\l.length*t.bytes U<=reachBytes/\∀x,x∈l->∀c,c∈t.row U x->WF U c:=by cases h with | slice t l h1 h2 h3=>exact⟨h1,h2,h3⟩
theorem EY(s:av):(⟨s.Types⟩:av)=s:=by cases s;rfl
def vbig(n:Nat):List UInt8:=if n=0 then[]else vbig (n / 256)++[UInt8.ofNat (n % 256)]
termination_by n
decreasing_by omega
theorem xk{α:Type}:∀(l:List α) (k:Nat) (x:α),k < l.length->(l.set k x).drop k=x::l.drop (k+1)
 | [],k,x,h=>by simp at h
 | a::l,0,x,h=>by simp
 | a::l,k+1,x,h=>by simp[xk l k x (by simpa using h)]
theorem shrI8(n:Nat):shrI .u64 (n:Int) 8=((n / 256:Nat):Int):=by
 unfold shrI;have:((2:Int) ^ min (8:Int).toNat IntKind.u64.bits)=256:=by decide
 grind
theorem zl :∀(i n:Nat) (b:List Int),n < 256 ^ i->i<=8->b.length=8->∃(i':Nat) (b':List Int),gY ((n:Int),(i:Int),b)=some ((i':Int),b')/\i'<=8/\b'.length=8/\strOf (b'.drop i')=vbig n++strOf (b.drop i)
 | i,n,b,hn,hi,hb=>by
  rw[gY];by_cases h0:n=0
  . subst h0;rw[if_neg (by simp)];refine⟨i,b,rfl,hi,hb,?_⟩;rw[vbig,if_pos rfl];rfl
  . rw[if_pos (by simp;omega)]
    match i,hn,hi with
    | 0,hn,hi=>simp at hn;omega
    | i+1,hn,hi=>
     have hs:subI .i64 ((i+1:Nat):Int) 1=(i:Int):=by rw[cX (by omega) (by omega)];omega
     simp only[oZ4,oZ3];rw[hs,if_pos (au (by omega)),if_pos (by simp[hb];omega),shrI8,wrp8,az];have hlt:n / 256 < 256 ^ i:=by omega
     obtain⟨i',b',h1,h2,h3,h4⟩:=zl i (n / 256) (b.set i ((n % 256:Nat):Int)) hlt (by omega) (by simp[hb]);refine⟨i',b',h1,h2,h3,?_⟩;rw[h4,xk _ _ _ (by omega),EO]
     conv=>rhs;rw[vbig,if_neg h0]
     grind
theorem zm{n:Nat}(hn:n < 18446744073709551616):kX (n:Int)=some (vbig n):=by
 have e:(256:Nat) ^ 8=18446744073709551616:=by decide
 obtain⟨i',b',h1,h2,h3,h4⟩:=zl 8 n [0,0,0,0,0,0,0,0] (by rw[e];exact hn) (by omega) rfl;have h1':gY ((n:Int),8,[0,0,0,0,0,0,0,0])=some ((i':Int),b'):=h1;rw[kX,h1'];simp only[oZ4,oZ3,az];have hsl:slR (i':Int) 8 8=true:=fw (b:=8) (by omega) (by omega);have h8:(8:Int).toNat=8:=rfl
 rw[if_pos hsl,h8,if_pos (by simp[subR,h3];omega)];rw[List.take_of_length_le (by simp[h3]),h4];simp[strOf]
theorem lx :∀(f n:Nat),n < 256 ^ f->(vbig n).length<=f
 | 0,n,h=>by
  have:n=0:=by simpa using h
  subst this;rw[vbig,if_pos rfl];simp
 | f+1,n,h=>by
  rw[vbig];split
  . simp
  . have:=lx f (n / 256) (by omega);simp;omega
theorem wB :∀(f n:Nat) (out:List UInt8),n < 256 ^ f->n < 18446744073709551616->out.length+f<=1000->iX ((n:Int),out)=some (vbig n++out)
 | f,n,out,hn,h64,ho=>by
  rw[iX];by_cases h0:n=0
  . subst h0;rw[if_neg (by simp),vbig,if_pos rfl];rfl
  . rw[if_pos (by simp;omega)]
    match f,hn,ho with
    | 0,hn,ho=>simp at hn;omega
    | f+1,hn,ho=>
     have hrem:remI (n:Int) 256=((n % 256:Nat):Int):=remIn (b:=256);have hq:quoI .u64 (n:Int) 256=((n / 256:Nat):Int):=by
      unfold quoI;have e:(n:Int).tdiv 256=((n / 256:Nat):Int):=by rw[Int.tdiv_eq_ediv_of_nonneg (by omega)];omega
      rw[e];exact wrapu (by omega) (by omega)
     have hone:strOf [((n % 256 % 256:Nat):Int)]=[UInt8.ofNat (n % 256)]:=by
      have:n % 256 % 256=n % 256:=by omega
      rw[this];rfl
     simp only[oZ4,oZ3];rw[hrem,hq,wrp8,hone,if_pos (bm (by simp;omega))];have hlt:n / 256 < 256 ^ f:=by omega
     rw[wB f (n / 256) _ hlt (by omega) (by simp;omega)]
     conv=>rhs;rw[vbig,if_neg h0]
     grind
theorem wC{n:Nat}(hn:n < 18446744073709551616):kr (n:Int)=some (vbig n):=by
 have e:(256:Nat) ^ 8=18446744073709551616:=by decide
 rw[kr,wB 8 n [] (by rw[e];exact hn) hn (by simp)];simp
end
section
open Go Go.Proofs.YtandcioiaooocaaGreat.Shv Go.Sort
set_option maxRecDepth 100000
section
variable {α:Type}
theorem xl{β γ:Type}{f g:β->List γ}:∀{l:List β},(∀x,x∈l->f x=g x)->l.flatMap f=l.flatMap g
 | [],_=>rfl
 | x::l,h=>by
  simp only[List.flatMap_cons];rw[h x (.head _),xl fun y hy=>h y (.tail _ hy)]
theorem vG(x:α)(n:Nat)(f:Nat->List α):∀(ks:List Nat),ks.Nodup->n∈ks->(ks.flatMap fun i=>if n=i then x::f i else f i).Perm (x::ks.flatMap f)
 | [],_,h=>by cases h
 | k::ks,hn,h=>by
  rw[List.nodup_cons]at hn;simp only[List.flatMap_cons];by_cases e:n=k
  . rw[if_pos e];have:(ks.flatMap fun i=>if n=i then x::f i else f i)=ks.flatMap f:=xl fun y hy=>by grind
    simp_all
  . rw[if_neg e];have hm:n∈ks:=(List.mem_cons.1 h).resolve_left e;refine((vG x n f ks hn.2 hm).append_left (f k)).trans ?_;simp_all
theorem vH(key:α->Nat)(ks:List Nat)(hn:ks.Nodup):∀l:List α,(∀x,x∈l->key x∈ks)->(ks.flatMap fun i=>l.filter fun x=>decide (key x=i)).Perm l
 | [],_=>by simp
 | x::l,h=>by
  have e:(fun i=>(x::l).filter fun y=>decide (key y=i))=fun i=>if key x=i then x::(l.filter fun y=>decide (key y=i))else l.filter fun y=>decide (key y=i):=by grind
  rw[e];exact(vG x (key x) _ ks hn (h x (.head _))).trans ((vH key ks hn l fun y hy=>h y (.tail _ hy)).cons x)
theorem Dg(key:α->Nat)(a n:Nat)(l:List α):((List.range' a n).flatMap fun i=>l.filter fun x=>decide (key x=i)).Pairwise (fun x y=>decide (key y < key x)=false):=by
 rw[List.pairwise_flatMap];constructor
 . intro i hi;rw[List.pairwise_iff_forall_sublist]
   grind
 . refine(List.pairwise_lt_range' (s:=a) (n:=n)).imp ?_
   grind
theorem wD{α:Type}[Inhabited α]{lt:α->α->Bool}:∀{l:List α},l.Pairwise (fun x y=>lt x y=true\/lt y x=true)->cY lt l=true
 | [],_=>rfl
 | x::l,h=>by
  rw[List.pairwise_cons]at h;simp only[cY,Bool.and_eq_true,List.all_eq_true,Bool.or_eq_true];exact⟨h.1,wD h.2⟩
end
mutual
def wt :ab->Nat
 | ⟨_,_,_,s,_,ks,is,r⟩=>10+s.length+(r.map fun x=>x.Data.length+1).sum+wts ks+wts is
def wts :List ab->Nat
 | []=>0
 | v::l=>wt v+wts l
end
structure Fd where
 id:Nat
 c:Bool
 p:List UInt8
instance:Inhabited Fd:=⟨⟨0,false,[]⟩⟩
def ltF(a b:Fd):Bool:=decide (a.id < b.id)
def Fd.text(f:Fd):List UInt8:=dG f.id f.c f.p
def ilv :List (List UInt8)->List (List UInt8)->List UInt8
 | k::ks,v::vs=>bH k++(bH v++ilv ks vs)
 | _,_=>[]
def findM(l:List aj)(id:Int):Option aj:=l.find? fun m=>decide (m.ID=id)
open Classical in
noncomputable def om (m:aj) (v:ab):Bool:=m.HasDefault && decide (m.Default=v)
def rawF(r:aG):Fd:=⟨r.ID.toNat,false,r.Data⟩
mutual
noncomputable def vpay (ts:List ae) (t:Int):ab->List UInt8
 | ⟨_,b,i,s,id,ks,is,r⟩=>
  let x:=ts.getD t.toNat ap
  if x.Kind=1 then(if b=true then[1]else[])
  else if x.Kind=2 then vbig (zig i).toNat
  else if x.Kind=3 then s
  else if x.Kind=4 then vbig id.toNat
  else if x.Kind=5 then(isoB ltF (vents ts x.Members is++r.map rawF)).flatMap Fd.text
  else if x.Kind=6 then vput id.toNat++(match findM x.Members id with
   | some m=>(vpays ts m.Type_ is).headD []
   | none=>(r.map aG.Data).headD [])
  else if x.Kind=7 then(vpays ts x.Elem is).flatMap bH
  else if x.Kind=8 then ilv (vpays ts x.Key ks) (vpays ts x.Elem is)
  else match vpays ts x.Elem is with
   | []=>[]
   | p::_=>1::p
noncomputable def vpays (ts:List ae) (t:Int):List ab->List (List UInt8)
 | []=>[]
 | v::l=>vpay ts t v::vpays ts t l
noncomputable def vents (ts:List ae):List aj->List ab->List Fd
 | m::ms,v::l=>if om m v=true then vents ts ms l else⟨m.ID.toNat,m.Critical,vpay ts m.Type_ v⟩::vents ts ms l
 | _,_=>[]
end
def I1000(n:Int):Prop:=1<=n/\n<=1000
def dH(ms:List aj)(r:List aG):Prop:=r.Pairwise (fun a b=>a.ID < b.ID)/\∀x,x∈r->I1000 x.ID/\findM ms x.ID=none
def vcmp(a b:ab):Int:=(gW (a,b)).getD 0
def cE(ks:List ab):Prop:=∀i,i+1 < ks.length->vcmp (ks.getD i af) (ks.getD (i+1) af) < 0
mutual
def vfit(ts:List ae)(pl:Bool)(t:Int):ab->Prop
 | ⟨k,b,i,s,id,ks,is,r⟩=>
  let x:=ts.getD t.toNat ap
  (0<=t/\t < ts.length/\k=x.Kind/\(pl=true->r=[]))/\
  (k=1/\i=0/\s=[]/\id=0/\ks=[]/\is=[]/\r=[]\/
  k=2/\b=false/\s=[]/\id=0/\ks=[]/\is=[]/\r=[]/\x.Low<=i/\i<=x.High\/
  k=3/\b=false/\i=0/\id=0/\ks=[]/\is=[]/\r=[]/\(s.length:Int)<=x.Max\/
  k=4/\b=false/\i=0/\s=[]/\ks=[]/\is=[]/\r=[]/\((∃y,y∈x.Symbols/\y.ID=id)\/x.Open=true/\pl=false/\I1000 id)\/
  k=5/\b=false/\i=0/\s=[]/\id=0/\ks=[]/\dH x.Members r/\vfitm ts pl x.Members is\/
  k=6/\b=false/\i=0/\s=[]/\ks=[]/\(match findM x.Members id with
   | some m=>r=[]/\is.length=1/\vfits ts pl m.Type_ is
   | none=>x.Open=true/\pl=false/\I1000 id/\is=[]/\∃d,r=[⟨id,d⟩])\/
  k=7/\b=false/\i=0/\s=[]/\id=0/\ks=[]/\r=[]/\(is.length:Int)<=x.Max/\vfits ts pl x.Elem is\/
  k=8/\b=false/\i=0/\s=[]/\id=0/\r=[]/\(ks.length:Int)<=x.Max/\is.length=ks.length/\vfits ts pl x.Key ks/\vfits ts pl x.Elem is/\cE ks\/
  k=9/\b=false/\i=0/\s=[]/\id=0/\ks=[]/\r=[]/\is.length<=1/\vfits ts pl x.Elem is)
def vfits(ts:List ae)(pl:Bool)(t:Int):List ab->Prop
 | []=>True
 | v::l=>vfit ts pl t v/\vfits ts pl t l
def vfitm(ts:List ae)(pl:Bool):List aj->List ab->Prop
 | m::ms,v::l=>vfit ts pl m.Type_ v/\vfitm ts pl ms l
 | [],[]=>True
 | _,_=>False
end
theorem wt_eq(v:ab):wt v=10+v.Str.length+(v.Rest.map fun x=>x.Data.length+1).sum+wts v.Keys+wts v.Items:=by cases v;rw[wt]
theorem bX(v:ab)(l:List ab):wts (v::l)=wt v+wts l:=by rw[wts]
theorem bZ :wts []=0:=by rw[wts]
theorem bK :∀{l:List ab} {x:ab},x∈l->wt x<=wts l
 | y::l,x,h=>by
  rw[bX];rcases List.mem_cons.1 h with rfl | h
  . omega
  . have:=bK h;omega
theorem vI{p:List UInt8}(h:p.length < 1152921504606846976):(bH p).length<=p.length+10:=by
 have:=cS (n:=p.length) (by omega);unfold bH;simp;omega
theorem xm{f:Fd}(h:f.p.length < 1152921504606846976)(hi:f.id<=9223372036854775807):f.text.length<=f.p.length+20:=by
 have:=vI h;have:=cS (n:=2*f.id+(if f.c then 1 else 0)) (by split <;> omega);unfold Fd.text dG;simp only[List.length_append];omega
theorem tN{α β:Type}{f:α->List β}{a b:List α}(h:a.Perm b):(a.flatMap f).length=(b.flatMap f).length:=(h.flatMap_right f).length_eq
theorem rW{n:Int}(h:I64 n):(zig n).toNat < 18446744073709551616:=by
 unfold zig I64 at*;split <;> omega
section
variable {ts:List ae}
def LenOk(ts:List ae)(v:ab):Prop:=∀t,(vpay ts t v).length+20<=21*wt v
theorem qN :∀{l:List ab} {t:Int},wts l<=1099511627776->(∀x,x∈l->LenOk ts x)->((vpays ts t l).flatMap bH).length<=21*wts l
 | [],t,_,_=>by rw[vpays];simp
 | v::l,t,hw,h=>by
  rw[vpays,List.flatMap_cons,List.length_append];rw[bX]at hw ⊢;have h1:=h v (.head _) t;have h2:=qN (t:=t) (by omega) fun x hx=>h x (.tail _ hx)
  have h3:=vI (p:=vpay ts t v) (by omega);omega
theorem wE :∀{l:List ab} {t:Int},vpays ts t l=l.map (vpay ts t)
 | [],t=>by rw[vpays];rfl
 | v::l,t=>by rw[vpays,List.map,wE]
theorem rG :∀(a b:List (List UInt8)),(ilv a b).length<=(a.flatMap bH).length+(b.flatMap bH).length
 | [],b=>by simp[ilv]
 | k::ks,[]=>by simp[ilv]
 | k::ks,v::vs=>by
  have:=rG ks vs;simp only[ilv,List.flatMap_cons,List.length_append];omega
theorem wF :∀{ms:List aj} {l:List ab},wts l<=1099511627776->(∀m,m∈ms->m.ID<=1000)->(∀x,x∈l->LenOk ts x)->((vents ts ms l).flatMap Fd.text).length<=21*wts l
 | [],l,_,_,_=>by rw[vents] <;> simp
 | m::ms,[],_,_,_=>by rw[vents] <;> simp
 | m::ms,v::l,hw,hm,h=>by
  rw[bX]at hw ⊢;rw[vents];have h1:=h v (.head _) m.Type_;have h2:=wF (ms:=ms) (l:=l) (by omega) (fun x hx=>hm x (.tail _ hx)) fun x hx=>h x (.tail _ hx)
  have h4:=hm m (.head _);split
  . omega
  . rw[List.flatMap_cons,List.length_append];have h3:=xm (f:=⟨m.ID.toNat,m.Critical,vpay ts m.Type_ v⟩) (by show(vpay ts m.Type_ v).length < _;omega) (by show m.ID.toNat<=_;omega)
    grind
theorem xo :∀{l:List aG},(∀x,x∈l->x.Data.length<=reachBytes/\x.ID<=9223372036854775807)->True->((l.map rawF).flatMap Fd.text).length<=21*(l.map fun x=>x.Data.length+1).sum
 | [],_,_=>by simp
 | r::l,h,_=>by
  have h1:=h r (.head _);have h2:=xo (l:=l) (fun x hx=>h x (.tail _ hx)) trivial;unfold reachBytes at h1;have h3:=xm (f:=rawF r) (by show r.Data.length < _;omega) (by show r.ID.toNat<=_;omega);have h3':(rawF r).text.length<=r.Data.length+20:=h3
  grind
def MOk(ts:List ae):Prop:=∀x,x∈ts->∀m,m∈x.Members->m.ID<=1000
theorem DO{α:Type}(l:List α)(i:Nat)(d:α):l.getD i d∈l\/l.getD i d=d:=by grind
theorem wG{l:List (List UInt8)}{n:Nat}(h:∀x,x∈l->x.length<=n):(l.headD []).length<=n:=by
 cases l with
 | nil=>simp
 | cons x l=>exact h x (.head _)
theorem yl :∀{l:List Nat} {n:Nat},n∈l->n<=l.sum
 | a::l,n,h=>by
  rw[List.sum_cons];rcases List.mem_cons.1 h with rfl | h
  . omega
  . have:=yl h;omega
theorem GV(hM:MOk ts){v:ab}(h:OkV v):wt v<=1099511627776->LenOk ts v:=by
 induction h with
 | mk v hs h1 h2 h3 hk hi hr n1 n2 n3 n4 ihk ihi=>
  intro hw t;have hwt:=wt_eq v;have LK:∀x,x∈v.Keys->LenOk ts x:=fun x hx=>ihk x hx (by have:=bK hx;omega)
  have LI:∀x,x∈v.Items->LenOk ts x:=fun x hx=>ihi x hx (by have:=bK hx;omega)
  have PK:=fun t=>qN (t:=t) (l:=v.Keys) (by omega) LK
  have PI:=fun t=>qN (t:=t) (l:=v.Items) (by omega) LI
  have hx:∀m,m∈(ts.getD t.toNat ap).Members->m.ID<=1000:=by
   rcases DO ts t.toNat ap with h | h
   . exact hM _ h
   . rw[h];intro m hm;cases hm
  have QI:∀t,((vpays ts t v.Items).headD []).length+20<=21*wts v.Items+20:=fun t=>by
   have:((vpays ts t v.Items).headD []).length<=21*wts v.Items:=wG fun p hp=>by
    rw[wE]at hp;obtain⟨x,hx,rfl⟩:=List.mem_map.1 hp;have:=LI x hx t;have:=bK hx;omega
   omega
  have RI:((v.Rest.map rawF).flatMap Fd.text).length<=21*(v.Rest.map fun x=>x.Data.length+1).sum:=xo (fun x hx=>⟨hr x hx,(n4 x hx).2⟩) trivial;have EI:=wF (ts:=ts) (ms:=(ts.getD t.toNat ap).Members) (l:=v.Items) (by omega) hx LI;have DI:((v.Rest.map aG.Data).headD []).length<=(v.Rest.map fun x=>x.Data.length+1).sum:=wG fun p hp=>by
   obtain⟨x,hx,rfl⟩:=List.mem_map.1 hp;have:x.Data.length+1<=(v.Rest.map fun x=>x.Data.length+1).sum:=yl (List.mem_map.2 ⟨x,hx,rfl⟩);omega
  obtain⟨K,b,i,s,id,ks,is,r⟩:=v;simp only at*;rw[vpay];have hz:=lx 8 _ (rW n2);have hid:id.toNat < 18446744073709551616:=by omega
  have hb:=lx 8 _ hid;have hp:=cS hid;generalize ts.getD t.toNat ap=x at*;split
  . grind
  . split
    . omega
    . split
      . omega
      . split
        . omega
        . split
          . rw[tN (ib _ _),List.flatMap_append,List.length_append];omega
          . split
            . grind
            . split
              . grind
              . split
                . have:=rG (vpays ts x.Key ks) (vpays ts x.Elem is)
                  grind
                grind
end
theorem zn(v:ab):10<=wt v:=by rw[wt_eq];omega
section
variable {ts:List ae}
theorem jl :∀{ms:List aj} {l:List ab} {x:Fd},x∈vents ts ms l->∃m,m∈ms/\x.id=m.ID.toNat
 | [],l,x,h=>by
  rw[vents]at h
  . cases h
  grind
 | m::ms,[],x,h=>by
  rw[vents]at h
  . cases h
  grind
 | m::ms,v::l,x,h=>by
  rw[vents]at h;split at h
  . obtain⟨m',h1,h2⟩:=jl h
    grind
  . rcases List.mem_cons.1 h with rfl | h
    . grind
    . obtain⟨m',h1,h2⟩:=jl h
      grind
theorem vL{ms:List aj}{l:List ab}{n:Nat}(h:∀m,m∈ms->m.ID.toNat≠n):((vents ts ms l).filter fun x=>decide (x.id=n))=[]:=by
 rw[List.filter_eq_nil_iff];intro x hx;obtain⟨m,h1,h2⟩:=jl hx
 grind
theorem uP : ∀ {ms : List aj} {l : List ab} {n j : Nat}, ms.Pairwise (fun a b => a.ID.toNat ≠ b.ID.toNat) -> l.length = ms.length -> j < ms.length -> (ms.getD j ag).ID.toNat = n ->
 ((vents ts ms l).filter fun x=>decide (x.id=n))=if om (ms.getD j ag) (l.getD j af)=true then[]else[⟨n,(ms.getD j ag).Critical,vpay ts (ms.getD j ag).Type_ (l.getD j af)⟩]
 | [],l,n,j,_,_,hj,_=>by cases hj
 | m::ms,[],n,j,_,hl,_,_=>by cases hl
 | m::ms,v::l,n,0,hd,hl,hj,he=>by
  rw[List.pairwise_cons]at hd;simp only[List.getD_cons_zero]at he ⊢;have hn:=vL (ts:=ts) (l:=l) (ms:=ms) (n:=n) fun x hx=>by have:=hd.1 x hx;omega
  rw[vents]
  grind
 | m::ms,v::l,n,j+1,hd,hl,hj,he=>by
  rw[List.pairwise_cons]at hd;simp only[List.getD_cons_succ]at he ⊢;have hj':j < ms.length:=by simpa using hj
  have hm:ms.getD j ag∈ms:=by grind
  have hne:=hd.1 _ hm;have ih:=uP (l:=l) hd.2 (by simpa using hl) hj' he;rw[vents]
  grind
theorem DR(l:List aG)(n:Nat)(h:∀x,x∈l->0<=x.ID):((l.map rawF).filter fun x=>decide (x.id=n))=(l.filter fun x=>decide (x.ID=(n:Int))).map rawF:=by
 rw[List.filter_map]
 congr 1
 apply List.filter_congr;intro x hx;have:=h x hx;show decide (x.ID.toNat=n)=_
 grind
noncomputable def dm (ts:List ae) (ms:List aj) (l:List ab) (r:List aG):List Fd:=vents ts ms l++r.map rawF
def MAsc(ms:List aj):Prop:=ms.Pairwise (fun a b=>a.ID < b.ID)/\∀m,m∈ms->I1000 m.ID
theorem ym{ms:List aj}(h:MAsc ms):ms.Pairwise (fun a b=>a.ID.toNat≠b.ID.toNat):=by
 refine h.1.imp_of_mem fun {a b} ha hb hlt=>?_
 have:=h.2 a ha;have:=h.2 b hb;unfold I1000 at*;omega
theorem qO :∀{ms:List aj} {l:List ab},ms.Pairwise (fun a b=>a.ID.toNat≠b.ID.toNat)->(vents ts ms l).Pairwise (fun a b=>a.id≠b.id)
 | [],l,_=>by
  rw[vents]
  . exact .nil
  grind
 | m::ms,[],_=>by
  rw[vents]
  . exact .nil
  grind
 | m::ms,v::l,h=>by
  rw[List.pairwise_cons]at h;rw[vents];split
  . exact qO h.2
  . rw[List.pairwise_cons];refine⟨fun x hx=>?_,qO h.2⟩;obtain⟨m',h1,h2⟩:=jl hx
    grind
theorem kY{ms:List aj}{id:Int}(h:findM ms id=none):∀m,m∈ms->m.ID≠id:=by
 unfold findM at h
 grind
theorem pA{ms:List aj}{l:List ab}{r:List aG}(h:MAsc ms)(hr:dH ms r):cY ltF (dm ts ms l r)=true:=by
 apply wD;have key:(dm ts ms l r).Pairwise (fun a b=>a.id≠b.id):=by
  unfold dm;rw[List.pairwise_append];refine⟨qO (ym h),?_,?_⟩
  . rw[List.pairwise_map];refine hr.1.imp_of_mem fun {a b} ha hb hlt=>?_
    have:=(hr.2 a ha).1;have:=(hr.2 b hb).1;show a.ID.toNat≠b.ID.toNat;unfold I1000 at*;omega
  . intro x hx y hy;obtain⟨m,h1,h2⟩:=jl hx;obtain⟨q,h3,rfl⟩:=List.mem_map.1 hy;have h4:=kY (hr.2 q h3).2 m h1;have:=h.2 m h1;have:=(hr.2 q h3).1;show x.id≠q.ID.toNat;unfold I1000 at*;omega
 refine key.imp fun {a b} hne=>?_
 simp only[ltF,decide_eq_true_eq];omega
theorem Dh{ms:List aj}{l:List ab}{r:List aG}(h:MAsc ms)(hr:dH ms r){x:Fd}(hx:x∈dm ts ms l r):1<=x.id/\x.id<=1000:=by
 rcases List.mem_append.1 hx with hx | hx
 . obtain⟨m,h1,h2⟩:=jl hx;have:=h.2 m h1;unfold I1000 at*;omega
 . obtain⟨q,h3,rfl⟩:=List.mem_map.1 hx;have:=(hr.2 q h3).1;unfold I1000 at*;show 1<=q.ID.toNat/\q.ID.toNat<=1000;omega
theorem yn :SWO ltF:=by refine⟨fun x=>?_,fun x y z h1 h2=>?_,fun x y z h1 h2=>?_⟩ <;> simp[ltF]at* <;> omega
theorem CG {l : List Fd} (hp : cY ltF l = true) (hr : ∀ x, x ∈ l -> 1 <= x.id /\ x.id <= 1000):
 isoB ltF l=(List.range' 1 1000).flatMap fun n=>l.filter fun x=>decide (x.id=n):=by
 refine uL hp (ib _ _) (vH Fd.id _ List.nodup_range' l fun x hx=>?_) (nb yn l) (Dg Fd.id 1 1000 l);have:=hr x hx;rw[List.mem_range'_1];omega
end
section
variable {ts:List ae} {pl:Bool}
theorem aW :∀{l:List ab} {t:Int},vfits ts pl t l↔∀x,x∈l->vfit ts pl t x
 | [],t=>by rw[vfits];simp
 | v::l,t=>by
  rw[vfits,aW]
  grind
theorem dB :∀{ms:List aj} {l:List ab},vfitm ts pl ms l↔l.length=ms.length/\∀i,i < ms.length->vfit ts pl (ms.getD i ag).Type_ (l.getD i af)
 | [],[]=>by
  have:vfitm ts pl [] []=True:=by rw[vfitm]
  grind
 | [],v::l=>by
  have:vfitm ts pl [] (v::l)=False:=by rw[vfitm] <;> (intros;simp_all)
  grind
 | m::ms,[]=>by
  have:vfitm ts pl (m::ms) []=False:=by rw[vfitm] <;> (intros;simp_all)
  grind
 | m::ms,v::l=>by
  rw[vfitm,dB];constructor
  . grind
  . rintro ⟨h1,h2⟩
    exact⟨h2 0 (by simp),by simpa using h1,fun i hi=>h2 (i+1) (by simpa using hi)⟩
end
def SaysP(o:Option Bool)(P:Prop):Prop:=∃r,o=some r/\(r=true↔P)
theorem SaysP.imp{o:Option Bool}{P Q:Prop}(h:SaysP o P)(e:P↔Q):SaysP o Q:=by grind
theorem SaysP.of{b:Bool}{P:Prop}(e:b=true↔P):SaysP (some b) P:=⟨b,rfl,e⟩
theorem SaysP.loop {L : Nat -> Option (Bool ⊕ Unit)} {n : Nat} {p : Nat -> Bool} {g : Unit} {o : Option (Bool ⊕ Unit)} (h0 : o = L 0) (hstep : ∀ i, i < n -> L i = if p i = true then L (i + 1) else some (.inl false)) (hend : L n = some (.inr g)):
 SaysP (o >>=fun o=>match o with | .inl x=>some x | .inr _=>some true) (∀i,i < n->p i=true):=by
 subst h0;rcases scan L n p (.inl false) (.inr g) hstep hend with⟨h1,h2⟩ | ⟨h1,j,h2,h3⟩
 . rw[h1];exact⟨true,rfl,by simpa using h2⟩
 . rw[h1];refine⟨false,rfl,?_⟩;constructor
   . intro h;cases h
   . intro h;have:=h j h2;rw[h3]at this;cases this
theorem oh{α:Type}(f:α->Int)(d:α):∀l:List α,l.Pairwise (fun a b=>f a < f b)↔∀i,i+1 < l.length->f (l.getD i d) < f (l.getD (i+1) d)
 | []=>by simp
 | [a]=>by simp
 | a::b::l=>by
  rw[List.pairwise_cons,oh f d (b::l)];constructor
  . rintro ⟨h1,h2⟩ i hi
    cases i with
    | zero=>exact h1 b (.head _)
    | succ i=>exact h2 i (by simpa using hi)
  . intro h;have h2:∀i,i+1 < (b::l).length->f ((b::l).getD i d) < f ((b::l).getD (i+1) d):=fun i hi=>h (i+1) (by simpa using hi)
    refine⟨fun x hx=>?_,h2⟩;have h0:=h 0 (by simp);simp only[List.getD_cons_zero,List.getD_cons_succ]at h0;have h3:=(oh f d (b::l)).2 h2;rw[List.pairwise_cons]at h3
    grind
section
variable {ts:List ae}
def FitS(ts:List ae)(x:ab):Prop:=∀t pl,SaysP (bQ ((⟨ts⟩:av),t,x,pl)) (vfit ts pl t x)
theorem xp{l:List ab}(hl:l.length<=reachBytes)(ih:∀x,x∈l->FitS ts x)(t:Int)(pl:Bool):SaysP (d7 ((⟨ts⟩:av),t,l,pl)) (vfits ts pl t l):=by
 have hr:=aR hl
 let p:Nat->Bool:=fun i=>(bQ ((⟨ts⟩:av),t,l.getD i af,pl)).getD false
 have hp:∀i,i < l.length->bQ ((⟨ts⟩:av),t,l.getD i af,pl)=some (p i)/\(p i=true↔vfit ts pl t (l.getD i af)):=by
  intro i hi;obtain⟨r,h1,h2⟩:=ih _ (aB hi af) t pl
  grind
 rw[d7];refine(SaysP.loop (L:=fun i=>cu (t,l,pl,(i:Int),ts)) (n:=l.length) (p:=p) (g:=()) rfl (fun i hi=>?_) ?_).imp ?_
 . show cu (t,l,pl,(i:Int),ts)=if p i=true then cu (t,l,pl,((i+1:Nat):Int),ts)else _
   rw[cu,if_pos (by simp;omega),if_pos (au hi)];simp only[ab.aA,az];rw[(hp i hi).1,aE (by omega)]
   grind
 . show cu (t,l,pl,(l.length:Int),ts)=_;rw[cu,if_neg (by simp)]
 . rw[aW];constructor
   . intro h x hx;obtain⟨i,hi,rfl⟩:=List.getElem_of_mem hx
     grind
   grind
theorem kP{l:List aj}{id:Int}{r:Int×Bool}(h:iC l id r):(r.2=true/\∃j:Nat,j < l.length/\r.1=(j:Int)/\findM l id=some (l.getD j ag)/\(l.getD j ag).ID=id)\/(r.2=false/\findM l id=none):=by
 rcases h with⟨j,h1,h2,h3,rfl⟩ | ⟨h1,rfl⟩
 . refine .inl ⟨rfl,j,h1,rfl,?_,h2⟩;unfold findM;rw[List.find?_eq_some_iff_getElem];refine⟨by rw[decide_eq_true_eq];exact h2,j,h1,(bn h1 _).symm,fun k hk=>?_⟩
   grind
 . refine .inr ⟨rfl,?_⟩;unfold findM;rw[List.find?_eq_none];intro m hm;obtain⟨i,hi,rfl⟩:=List.getElem_of_mem hm
   grind
theorem F7{t:ae}(ht:t.Members.length < 9223372036854775807){l:List aG}(hl:l.length<=reachBytes):SaysP (fZ (t,l)) (dH t.Members l):=by
 have hr:=aR hl;rw[fZ]
 let p:Nat->Bool:=fun i=>!((bR (t,(l.getD i aC).ID)).getD (0,false)).2 && (bif decide (1<=(l.getD i aC).ID)then decide ((l.getD i aC).ID<=1000)else false) && (!(decide ((0:Int) < (i:Int))) || !(decide ((l.getD i aC).ID<=(l.getD (subI .i64 (i:Int) 1).toNat aC).ID)))
 refine(SaysP.loop (L:=fun i=>cg (l,(i:Int),t)) (n:=l.length) (p:=p) (g:=()) rfl (fun i hi=>?_) ?_).imp ?_
 . show cg (l,(i:Int),t)=if p i=true then cg (l,((i+1:Nat):Int),t)else _
   obtain⟨r,h1,h2,_⟩:=fg (t:=t) (l.getD i aC).ID ht;have hpi:p i=(!r.2 && (bif decide (1<=(l.getD i aC).ID)then decide ((l.getD i aC).ID<=1000)else false) && (!(decide ((0:Int) < (i:Int))) || !(decide ((l.getD i aC).ID<=(l.getD (subI .i64 (i:Int) 1).toNat aC).ID)))):=by simp only[p,h1,Option.getD_some]
   rw[hpi,cg,if_pos (by simp;omega),if_pos (au hi)];simp only[az];rw[h2,aE (by omega)];have hid:bU ((l.getD i aC).ID,r.2)=some ((!r.2) && (bif decide (1<=(l.getD i aC).ID)then decide ((l.getD i aC).ID<=1000)else false)):=by
    rw[bU]
    grind
   show(if inR (i:Int) l.length=true then bU ((l.getD i aC).ID,r.2) >>=_ else none)=_;rw[if_pos (au hi),hid]
   exact uO ((!r.2) && (bif decide (1<=(l.getD i aC).ID)then decide ((l.getD i aC).ID<=1000)else false)) (inR (i:Int) l.length) (decide ((0:Int) < (i:Int))) (subI .i64 (i:Int) 1) (fun j=>inR j l.length) (fun j=>decide ((l.getD i aC).ID<=(l.getD j.toNat aC).ID)) _ _ (au hi) (fun hz=>by
    have:0 < i:=by simp at hz;omega
    show inR _ _=true
    rw[gq this (by omega)];exact au (by omega))
 . show cg (l,(l.length:Int),t)=_;rw[cg,if_neg (by simp)]
 . unfold dH;rw[oh (fun a:aG=>a.ID) aC];have key:∀i,i < l.length->(p i=true↔(I1000 (l.getD i aC).ID/\findM t.Members (l.getD i aC).ID=none)/\(i=0\/(l.getD (i - 1) aC).ID < (l.getD i aC).ID)):=by
    intro i hi;obtain⟨r,h1,h2,hf⟩:=fg (t:=t) (l.getD i aC).ID ht;have hpi:p i=(!r.2 && (bif decide (1<=(l.getD i aC).ID)then decide ((l.getD i aC).ID<=1000)else false) && (!(decide ((0:Int) < (i:Int))) || !(decide ((l.getD i aC).ID<=(l.getD (subI .i64 (i:Int) 1).toNat aC).ID)))):=by simp only[p,h1,Option.getD_some]
    rw[hpi];have hn:r.2=false↔findM t.Members (l.getD i aC).ID=none:=by
     rcases kP hf with⟨a,j,_,_,b,_⟩ | ⟨a,b⟩
     . grind
     grind
    rw[<-hn];unfold I1000;by_cases h0:i=0
    . grind
    . have hz:decide ((0:Int) < (i:Int))=true:=by simp;omega
      rw[hz,gq (by omega) (by omega),az]
      grind
   constructor
   . intro h;refine⟨fun i hi=>?_,fun x hx=>?_⟩
     . grind
     . obtain⟨i,hi,rfl⟩:=List.getElem_of_mem hx;simp_all
   . rintro ⟨h1,h2⟩ i hi
     refine(key i hi).2 ⟨h2 _ (aB hi aC),?_⟩;by_cases h0:i=0
     . omega
     . right;have:=h1 (i - 1) (by omega);have e:i - 1+1=i:=by omega
       grind
theorem EZ {t : ae} {v : ab} (hl : v.Items.length = t.Members.length) (hr : t.Members.length < 9223372036854775807) (ih : ∀ x, x ∈ v.Items -> FitS ts x) (pl : Bool):
 SaysP (bO (pl,0,ts,v,t.Kind,t.Name,t.Low,t.High,t.Max,t.Symbols,t.Members,t.Key,t.Elem,t.Open) >>=fun o=>match o with | .inl o_1=>some o_1 | .inr _=>some true) (vfitm ts pl t.Members v.Items):=by
 let p:Nat->Bool:=fun i=>(bQ ((⟨ts⟩:av),(t.Members.getD i ag).Type_,v.Items.getD i af,pl)).getD false
 have hp:∀i,i < t.Members.length->bQ ((⟨ts⟩:av),(t.Members.getD i ag).Type_,v.Items.getD i af,pl)=some (p i)/\(p i=true↔vfit ts pl (t.Members.getD i ag).Type_ (v.Items.getD i af)):=by
  intro i hi;obtain⟨r,h1,h2⟩:=ih _ (aB (by omega:i < v.Items.length) af) (t.Members.getD i ag).Type_ pl
  grind
 refine(SaysP.loop (L:=fun i=>bO (pl,(i:Int),ts,v,t.Kind,t.Name,t.Low,t.High,t.Max,t.Symbols,t.Members,t.Key,t.Elem,t.Open)) (n:=t.Members.length) (p:=p) (g:=()) rfl (fun i hi=>?_) ?_).imp ?_
 . show bO (pl,(i:Int),ts,v,t.Kind,t.Name,t.Low,t.High,t.Max,t.Symbols,t.Members,t.Key,t.Elem,t.Open)=if p i=true then bO (pl,((i+1:Nat):Int),ts,v,t.Kind,t.Name,t.Low,t.High,t.Max,t.Symbols,t.Members,t.Key,t.Elem,t.Open)else _
   rw[bO,if_pos (by simp;omega),if_pos (au hi),if_pos (au (by omega))];simp only[az,ab.aA];rw[(hp i hi).1,aE (by omega)];cases p i <;> rfl
 . show bO (pl,(t.Members.length:Int),ts,v,t.Kind,t.Name,t.Low,t.High,t.Max,t.Symbols,t.Members,t.Key,t.Elem,t.Open)=_;rw[bO,if_neg (by simp;omega)]
 . rw[dB];constructor
   . intro h;exact⟨hl,fun i hi=>(hp i hi).2.1 (h i hi)⟩
   . rintro ⟨_,h⟩ i hi;exact(hp i hi).2.2 (h i hi)
theorem F8 {v : ab} (hr : v.Keys.length < 9223372036854775807) (hk : ∀ x, x ∈ v.Keys -> OkV x):
 SaysP (bA (1,v) >>=fun o_3=>match o_3 with | .inl o_4=>some o_4 | .inr _=>some true) (cE v.Keys):=by
 by_cases h0:v.Keys.length=0
 . rw[bA,if_neg (by simp[h0])];refine⟨true,rfl,?_⟩;unfold cE;simp only[true_iff];intro i hi;omega
 refine(SaysP.loop (L:=fun i=>bA (((i+1:Nat):Int),v)) (n:=v.Keys.length - 1) (p:=fun i=>!(decide (0<=vcmp (v.Keys.getD i af) (v.Keys.getD (i+1) af)))) (g:=()) rfl (fun i hi=>?_) ?_).imp ?_
 . show bA (((i+1:Nat):Int),v)=if _ then bA (((i+1+1:Nat):Int),v)else _
   have hs':subI .i64 ((i+1:Nat):Int) 1=(i:Int):=by rw[gq (by omega) (by omega)];simp
   obtain⟨r,c1,c2⟩:=pN (jC (hk _ (aB (by omega:i < v.Keys.length) af))) (jC (hk _ (aB (by omega:i+1 < v.Keys.length) af)));have hv:vcmp (v.Keys.getD i af) (v.Keys.getD (i+1) af)=r:=by unfold vcmp;rw[c1];rfl
   rw[hv,bA,if_pos (by simp;omega)];simp only[oZ4,oZ3];rw[hs',if_pos (au (by omega)),if_pos (au (by omega))];simp only[az,ab.aA];rw[c2,aE (by omega)];simp only[oZ3];cases decide (0<=r) <;> rfl
 . have e:v.Keys.length - 1+1=v.Keys.length:=by omega
   show bA (((v.Keys.length - 1+1:Nat):Int),v)=_;rw[e,bA,if_neg (by simp)]
 . unfold cE;constructor
   . intro h i hi;have:=h i (by omega)
     simpa using this
   . intro h i hi;have:=h i (by omega)
     simpa using this
theorem cn (pl : Bool) (t : Int) (v : ab): vfit ts pl t v ↔
 (0<=t/\t < ts.length/\v.Kind=(ts.getD t.toNat ap).Kind/\(pl=true->v.Rest=[]))/\
 (v.Kind=1/\v.Int_=0/\v.Str=[]/\v.ID=0/\v.Keys=[]/\v.Items=[]/\v.Rest=[]\/
 v.Kind=2/\v.Bool_=false/\v.Str=[]/\v.ID=0/\v.Keys=[]/\v.Items=[]/\v.Rest=[]/\(ts.getD t.toNat ap).Low<=v.Int_/\v.Int_<=(ts.getD t.toNat ap).High\/
 v.Kind=3/\v.Bool_=false/\v.Int_=0/\v.ID=0/\v.Keys=[]/\v.Items=[]/\v.Rest=[]/\(v.Str.length:Int)<=(ts.getD t.toNat ap).Max\/
 v.Kind=4/\v.Bool_=false/\v.Int_=0/\v.Str=[]/\v.Keys=[]/\v.Items=[]/\v.Rest=[]/\((∃y,y∈(ts.getD t.toNat ap).Symbols/\y.ID=v.ID)\/(ts.getD t.toNat ap).Open=true/\pl=false/\I1000 v.ID)\/
 v.Kind=5/\v.Bool_=false/\v.Int_=0/\v.Str=[]/\v.ID=0/\v.Keys=[]/\dH (ts.getD t.toNat ap).Members v.Rest/\vfitm ts pl (ts.getD t.toNat ap).Members v.Items\/
 v.Kind=6/\v.Bool_=false/\v.Int_=0/\v.Str=[]/\v.Keys=[]/\(match findM (ts.getD t.toNat ap).Members v.ID with
  | some m=>v.Rest=[]/\v.Items.length=1/\vfits ts pl m.Type_ v.Items
  | none=>(ts.getD t.toNat ap).Open=true/\pl=false/\I1000 v.ID/\v.Items=[]/\∃d,v.Rest=[⟨v.ID,d⟩])\/
 v.Kind=7/\v.Bool_=false/\v.Int_=0/\v.Str=[]/\v.ID=0/\v.Keys=[]/\v.Rest=[]/\(v.Items.length:Int)<=(ts.getD t.toNat ap).Max/\vfits ts pl (ts.getD t.toNat ap).Elem v.Items\/
 v.Kind=8/\v.Bool_=false/\v.Int_=0/\v.Str=[]/\v.ID=0/\v.Rest=[]/\(v.Keys.length:Int)<=(ts.getD t.toNat ap).Max/\v.Items.length=v.Keys.length/\vfits ts pl (ts.getD t.toNat ap).Key v.Keys/\vfits ts pl (ts.getD t.toNat ap).Elem v.Items/\cE v.Keys\/
 v.Kind=9/\v.Bool_=false/\v.Int_=0/\v.Str=[]/\v.ID=0/\v.Keys=[]/\v.Rest=[]/\v.Items.length<=1/\vfits ts pl (ts.getD t.toNat ap).Elem v.Items):=by
 cases v;rw[vfit];try exact Iff.rfl
end
def ZeroV(v:ab):Prop:=(v.Kind=1\/v.Bool_=false)/\(v.Kind=2\/v.Int_=0)/\(v.Kind=3\/v.Str=[])/\((v.Kind=4\/v.Kind=6)\/v.ID=0)/\(v.Kind=8\/v.Keys=[])/\(5<=v.Kind\/v.Items=[])/\((v.Kind=5\/v.Kind=6)\/v.Rest=[])
theorem F9(v:ab):SaysP (gR v) (ZeroV v):=by
 rw[gR];refine .of ?_;unfold ZeroV;have e:∀{α:Type} (l:List α),((l.length:Int)=0)↔l=[]:=fun l=>by simp_all
 grind
theorem cutS{z b:Bool}{o:Option Bool}{P Z Q:Prop}(hz:z=true↔Z)(hb:b=false↔Q)(ho:SaysP o P):SaysP (if(bif (bif false then true else(!z))then true else b)=true then some false else o) (Z/\Q/\P):=by
 obtain⟨r,rfl,h⟩:=ho;cases z with
 | false=>
  refine⟨false,rfl,?_⟩
  grind
 | true=>
  cases b with
  | true=>refine⟨false,rfl,?_⟩;simp at hb;simp[hb]
  | false=>refine⟨r,rfl,?_⟩;simp at hz hb;simp[hz,hb,h]
theorem and2S{q:Bool}{o:Option Bool}{P Q:Prop}(hq:q=true↔Q)(ho:SaysP o P):SaysP (some q >>=fun t244=>(if t244=true then o else some false) >>=fun r_10=>some (bif t244 then r_10 else false)) (Q/\P):=by
 obtain⟨r,rfl,h⟩:=ho;refine⟨q && r,by cases q <;> cases r <;> rfl,?_⟩
 grind
theorem and5S {A : Bool} {ro L : Option Bool} {PA PR PM : Prop} (hA : A = true ↔ PA) (hr : SaysP ro PR) (hM : A = true -> SaysP L PM):
 SaysP (some (!A) >>=fun t107=>(if(!t107)=true then ro else some false) >>=fun r_5=>if(bif t107 then true else(!r_5))=true then some false else L) (PA/\PR/\PM):=by
 obtain⟨q,rfl,hq⟩:=hr;cases A with
 | false=>refine⟨false,rfl,?_⟩;simp at hA;simp[hA]
 | true=>
  obtain⟨m,rfl,hm⟩:=hM rfl;cases q with
  | false=>refine⟨false,rfl,?_⟩;simp at hq;simp[hq]
  | true=>refine⟨m,rfl,?_⟩;simp at hA hq;simp[hA,hq,hm]
theorem and8S {c : Bool} {ok oi L : Option Bool} {PC PK PI PQ : Prop} (hc : c = false ↔ PC) (hk : SaysP ok PK) (hi : SaysP oi PI) (hL : SaysP L PQ):
 SaysP (some c >>=fun t239=>(if(!t239)=true then ok else some false) >>=fun r_12=>some (bif t239 then true else(!r_12)) >>=fun t249=>(if(!t249)=true then oi else some false) >>=fun r_13=>if(bif t249 then true else(!r_13))=true then some false else L) (PC/\PK/\PI/\PQ):=by
 obtain⟨k,rfl,hk⟩:=hk;obtain⟨i,rfl,hi⟩:=hi;obtain⟨q,rfl,hq⟩:=hL;rw[<-hc,<-hk,<-hi,<-hq];cases c <;> cases k <;> cases i <;> exact⟨_,rfl,by simp⟩
theorem vM{l:List aK}{id:Int}{r:Int×Bool}(h:jP l id r):r.2=true↔∃y,y∈l/\y.ID=id:=by
 rcases h with⟨j,h1,h2,h3,rfl⟩ | ⟨h1,rfl⟩
 . grind
 . constructor
   . grind
   . rintro ⟨y,hy,he⟩
     obtain⟨i,hi,rfl⟩:=List.getElem_of_mem hy
     grind
section
variable {ts:List ae} (hn:ts.length < 9223372036854775807) (hT:∀t,t∈ts->OkT t) (hK:∀t,t∈ts->fD t.Kind)
include hn hT hK in
theorem xq{v:ab}(hv:OkV v):FitS ts v:=by
 induction hv with
 | mk v hs h1 h2 h3 hk hi hrd n1 n2 n3 n4 ihk ihi=>
  intro t pl;rw[bQ];by_cases hout:(bif decide (t < 0)then true else decide (((⟨ts⟩:av).Types.length:Int)<=t))=true
  . rw[if_pos hout];refine⟨false,rfl,?_⟩;rw[cn]
    grind
  . rw[if_neg hout];have hin:0<=t/\t < ts.length:=by grind
    obtain⟨j,rfl⟩:∃j:Nat,t=(j:Int):=⟨t.toNat,by omega⟩
    have hj:j < ts.length:=by omega
    rw[if_pos (au hj)];simp only[cn,az,ab.aA];have hxT:=hT _ (aB hj ap);have hxK:=hK _ (aB hj ap);generalize ts.getD j ap=x at hxT hxK ⊢;have hm:=aR (ce hxT.mems);have hsy:=aR (ce hxT.syms);by_cases hkd:v.Kind=x.Kind
    . obtain⟨z,z1,z2⟩:=F9 v;have hitems:=xp (ts:=ts) h2 ihi;have hkeys:=xp (ts:=ts) h1 ihk;show SaysP ((if(!(!(decide (v.Kind=x.Kind))))=true then gR v else some false) >>=_) _;rw[if_pos (by simp[hkd]),z1];obtain⟨K,N,L,H,M,S,Ms,Ke,E,O⟩:=x;obtain⟨vK,B,I,Sx,ID,Ks,Is,R⟩:=v;simp only at hkd;subst hkd;simp only at hxK hm hsy h1 h2 h3 z1
      have hb:(bif pl then decide (0 < (R.length:Int))else false)=false↔(pl=true->R=[]):=by simp_all
      have hc:vK=1\/vK=2\/vK=3\/vK=4\/vK=5\/vK=6\/vK=7\/vK=8\/vK=9:=by unfold fD at hxK;omega
      have cut : ∀ {o : Option Bool} {P W : Prop}, SaysP o P -> ((ZeroV ⟨vK, B, I, Sx, ID, Ks, Is, R⟩ /\ (pl = true -> R = []) /\ P) ↔ W) ->
       SaysP (some z >>=fun r=>if(bif (bif false then true else(!r))then true else bif pl then decide (0 < (R.length:Int))else false)=true then some false else o) W:=fun ho hw=>(cutS z2 hb ho).imp hw
      have hz:(0:Int)<=j/\(j:Int) < ts.length:=hin;rcases hc with rfl | rfl | rfl | rfl | rfl | rfl | rfl | rfl | rfl
      . exact cut (P:=True) (.of (b:=true) (by simp)) (by unfold ZeroV;simp[hz];grind)
      . exact cut (P:=L<=I/\I<=H) (.of (b:=bif decide (L<=I)then decide (I<=H)else false) (by by_cases g:L<=I <;> simp[g])) (by unfold ZeroV;simp[hz];grind)
      . exact cut (P:=(Sx.length:Int)<=M) (.of (b:=decide ((Sx.length:Int)<=M)) (by simp)) (by unfold ZeroV;simp[hz];grind)
      . obtain⟨r,_,r2,hf⟩:=kO (t:=⟨4,N,L,H,M,S,Ms,Ke,E,O⟩) ID hsy;have hid:bU (ID,false)=some (bif decide (1<=ID)then decide (ID<=1000)else false):=by rfl
        have h4:=k4r r2 O pl _ (fun b=>bU (ID,b)) hid;have hs:=vM hf;simp only at hs;refine cut (P:=(∃y,y∈S/\y.ID=ID)\/O=true/\pl=false/\I1000 ID) ⟨_,h4,?_⟩ (by unfold ZeroV;simp[hz];grind);rw[<-hs];unfold I1000
        grind
      . refine cut (P:=Is.length=Ms.length/\dH Ms R/\vfitm ts pl Ms Is) ?_ (by
         have:vfitm ts pl Ms Is->Is.length=Ms.length:=fun h=>(dB.1 h).1
         unfold ZeroV;simp[hz];grind)
        exact and5S (A:=decide ((Is.length:Int)=(Ms.length:Int))) (by simp;omega) (F7 (t:=⟨5,N,L,H,M,S,Ms,Ke,E,O⟩) hm h3) (fun hA=>EZ (ts:=ts) (t:=⟨5,N,L,H,M,S,Ms,Ke,E,O⟩) (v:=⟨5,B,I,Sx,ID,Ks,Is,R⟩) (vF hA) hm ihi pl)
      . obtain⟨r,_,r2,hf⟩:=fg (t:=⟨6,N,L,H,M,S,Ms,Ke,E,O⟩) ID hm;have hid:∀b,b=false->bU (ID,b)=some (bif decide (1<=ID)then decide (ID<=1000)else false):=by
         intro b hb;subst hb;rfl
        have hR0:decide ((R.length:Int)=1)=true->inR 0 R.length=true:=by
         intro h;have:=of_decide_eq_true h;exact au (k:=0) (by omega)
        refine cut (P:=match findM Ms ID with
         | some m=>R=[]/\Is.length=1/\vfits ts pl m.Type_ Is
         | none=>O=true/\pl=false/\I1000 ID/\Is=[]/\∃d,R=[⟨ID,d⟩]) ?_ (by
          unfold ZeroV;simp[hz]
          grind)
        obtain⟨ri,rk⟩:=r;show SaysP (cd (⟨6,N,L,H,M,S,Ms,Ke,E,O⟩,ID) >>=_) _;rw[r2];rcases kP hf with⟨e,k,k1,k2,k3,k4⟩ | ⟨e,k3⟩
        . simp only at e k1 k2 k3 k4;subst e;subst k2;rw[k3];have hX:∃f:Bool,((bif decide ((Is.length:Int)=1)then decide ((R.length:Int)=0)else false)=true->bQ ((⟨ts⟩:av),(Ms.getD (k:Int).toNat ag).Type_,Is.getD (0:Int).toNat af,pl)=some f)/\(Is.length=1->(f=true↔vfits ts pl (Ms.getD k ag).Type_ Is)):=by
           by_cases h1':Is.length=1
           . obtain⟨f,f1,f2⟩:=ihi (Is.getD 0 af) (aB (by omega:0 < Is.length) af) (Ms.getD k ag).Type_ pl;refine⟨f,fun _=>f1,fun _=>?_⟩;rw[f2]
             match Is,h1' with
             | [y],_=>rw[aW];simp
           . refine⟨false,fun h=>?_,fun h=>absurd h h1'⟩
             grind
          obtain⟨f,f1,f2⟩:=hX;have hidx:(bif decide ((Is.length:Int)=1)then decide ((R.length:Int)=0)else false)=true->inR (k:Int) Ms.length=true/\inR 0 Is.length=true:=by
           intro hc';refine⟨au k1,?_⟩;by_cases h1':Is.length=1
           . exact au (k:=0) (by omega)
           grind
          refine⟨_,k6k _ (inR (k:Int) Ms.length) (inR 0 Is.length) f f1 hidx,?_⟩;by_cases g1:Is.length=1
          . simp_all
          grind
        . simp only at e k3;subst e;rw[k3];refine⟨_,k6u (bif O then(!pl)else false) (bif decide (1<=ID)then decide (ID<=1000)else false) (decide ((Is.length:Int)=0)) (decide ((R.length:Int)=1)) (inR 0 R.length) (decide ((R.getD (0:Int).toNat aC).ID=ID)) hR0,?_⟩;unfold I1000
          match R with
          | []=>simp
          | [⟨rid,rd⟩]=>cases O <;> cases pl <;> by_cases g1:1<=ID <;> by_cases g2:ID<=1000 <;> cases Is <;> by_cases g3:rid=ID <;> simp[g1,g2,g3] <;> omega
          | a::b::c=>simp;omega
      . exact cut (P:=(Is.length:Int)<=M/\vfits ts pl E Is) (and2S (by simp) (hitems E pl)) (by unfold ZeroV;simp[hz];grind)
      . refine cut (P:=((Ks.length:Int)<=M/\Is.length=Ks.length)/\vfits ts pl Ke Ks/\vfits ts pl E Is/\cE Ks) ?_ (by unfold ZeroV;simp[hz];grind);refine and8S (c:=bif decide (M < (Ks.length:Int))then true else(!(decide ((Is.length:Int)=(Ks.length:Int))))) ?_ (hkeys Ke pl) (hitems E pl) (F8 (v:=⟨8,B,I,Sx,ID,Ks,Is,R⟩) (aR h1) hk)
        grind
      . exact cut (P:=Is.length<=1/\vfits ts pl E Is) (and2S (q:=decide ((Is.length:Int)<=1)) (by simp;omega) (hitems E pl)) (by unfold ZeroV;simp[hz];grind)
    . refine⟨false,by simp[hkd],?_⟩
      grind
end
theorem bk{α:Type}{l:List α}{i:Nat}(h:i < l.length)(d:α):l.drop i=l.getD i d::l.drop (i+1):=by simp_all
theorem HH{m:aj}{v:ab}(hv:OkV v)(hd:m.HasDefault=true):cr (v,m.Default)=some (om m v):=by
 obtain⟨r,h1,h2⟩:=og hv m.Default;rw[h1];unfold om
 grind
structure SOk (ts:List ae):Prop where
 n:ts.length<=1000
 T:∀t,t∈ts->OkT t
 K:∀t,t∈ts->fD t.Kind
 M:MOk ts
 A:∀x,x∈ts->(x.Kind=5\/x.Kind=6)->MAsc x.Members/\x.Members.length<=16
 S:∀x,x∈ts->x.Kind=4->∀y,y∈x.Symbols->I1000 y.ID
 Ky:∀x,x∈ts->x.Kind=8->1<=(ts.getD x.Key.toNat ap).Kind/\(ts.getD x.Key.toNat ap).Kind<=4
section
variable {ts:List ae}
theorem vpay1{t:Int}{v:ab}(h:(ts.getD t.toNat ap).Kind=1):vpay ts t v=if v.Bool_=true then[1]else[]:=by cases v;rw[vpay];simp only[h];rfl
theorem vpay2{t:Int}{v:ab}(h:(ts.getD t.toNat ap).Kind=2):vpay ts t v=vbig (zig v.Int_).toNat:=by cases v;rw[vpay];simp only[h];rfl
theorem vpay3{t:Int}{v:ab}(h:(ts.getD t.toNat ap).Kind=3):vpay ts t v=v.Str:=by cases v;rw[vpay];simp only[h];rfl
theorem vpay4{t:Int}{v:ab}(h:(ts.getD t.toNat ap).Kind=4):vpay ts t v=vbig v.ID.toNat:=by cases v;rw[vpay];simp only[h];rfl
theorem vpay5{t:Int}{v:ab}(h:(ts.getD t.toNat ap).Kind=5):vpay ts t v=(isoB ltF (dm ts (ts.getD t.toNat ap).Members v.Items v.Rest)).flatMap Fd.text:=by cases v;rw[vpay];simp only[h];rfl
theorem vpay6 {t : Int} {v : ab} (h : (ts.getD t.toNat ap).Kind = 6): vpay ts t v = vput v.ID.toNat ++ (match findM (ts.getD t.toNat ap).Members v.ID with
 | some m=>(vpays ts m.Type_ v.Items).headD []
 | none=>(v.Rest.map aG.Data).headD []):=by
 cases v;rw[vpay];simp only[h];rfl
theorem vpay7{t:Int}{v:ab}(h:(ts.getD t.toNat ap).Kind=7):vpay ts t v=(vpays ts (ts.getD t.toNat ap).Elem v.Items).flatMap bH:=by cases v;rw[vpay];simp only[h];rfl
theorem vpay8{t:Int}{v:ab}(h:(ts.getD t.toNat ap).Kind=8):vpay ts t v=ilv (vpays ts (ts.getD t.toNat ap).Key v.Keys) (vpays ts (ts.getD t.toNat ap).Elem v.Items):=by cases v;rw[vpay];simp only[h];rfl
theorem vpay9 {t : Int} {v : ab} (h : (ts.getD t.toNat ap).Kind = 9): vpay ts t v = match vpays ts (ts.getD t.toNat ap).Elem v.Items with
 | []=>[]
 | p::_=>1::p:=by
 cases v;rw[vpay];simp only[h];rfl
end
section
variable {ts:List ae} (H:SOk ts)
theorem rH(H:SOk ts){v:ab}(hv:OkV v)(hw:wt v<=1099511627776)(t:Int):(vpay ts t v).length<=23089744183296:=by
 have:=GV H.M hv hw t;omega
end
section
variable {ts:List ae}
def Rp(ts:List ae)(x:ab)(t:Int):Prop:=cN ((⟨ts⟩:av),t,x)=some (vpay ts t x)
theorem xr {x : ae} {v : ab} (hlen : ∀ y, y ∈ v.Items -> (vpay ts x.Elem y).length <= 1000000000000000) (hw : ∀ y, y ∈ v.Items -> Rp ts y x.Elem) (hl : v.Items.length <= reachBytes):
 ∀(k i:Nat) (acc:List UInt8),i+k=v.Items.length->acc.length+((vpays ts x.Elem (v.Items.drop i)).flatMap bH).length<=70368744177664->
 gD (acc,(i:Int),ts,v,x)=some (acc++(vpays ts x.Elem (v.Items.drop i)).flatMap bH)
 | 0,i,acc,hi,ha=>by
  rw[gD,if_neg (by simp;omega),List.drop_eq_nil_of_le (by omega:v.Items.length<=i),vpays];simp
 | k+1,i,acc,hi,ha=>by
  have hlt:i < v.Items.length:=by omega
  have hr:=aR hl;have hmem:v.Items.getD i af∈v.Items:=aB hlt af;rw[bk hlt af,vpays,List.flatMap_cons,List.length_append]at ha;have hp:=hlen _ hmem;have hW:=hw _ hmem;unfold Rp at hW;rw[gD,if_pos (by simp;omega),if_pos (au hlt)];simp only[oZ4,oZ3,az,ab.aA];rw[hW];simp only[oZ3];rw[nn (by omega)];simp only[oZ3]
  rw[if_pos (bm (by omega)),aE (by omega),xr hlen hw hl k (i+1) _ (by omega) (by rw[List.length_append];omega),bk hlt af,vpays,List.flatMap_cons,List.append_assoc]
theorem yo {x : ae} {v : ab} (hkl : v.Items.length = v.Keys.length) (hlen : ∀ y, y ∈ v.Items -> (vpay ts x.Elem y).length <= 1000000000000000) (hlenk : ∀ y, y ∈ v.Keys -> (vpay ts x.Key y).length <= 1000000000000000)
 (hw:∀y,y∈v.Items->Rp ts y x.Elem) (hwk:∀y,y∈v.Keys->Rp ts y x.Key) (hl:v.Items.length<=reachBytes):
 ∀(k i:Nat) (acc:List UInt8),i+k=v.Items.length->acc.length+(ilv (vpays ts x.Key (v.Keys.drop i)) (vpays ts x.Elem (v.Items.drop i))).length<=70368744177664->
 gE (acc,(i:Int),ts,v,x)=some (acc++ilv (vpays ts x.Key (v.Keys.drop i)) (vpays ts x.Elem (v.Items.drop i)))
 | 0,i,acc,hi,ha=>by
  rw[gE,if_neg (by simp;omega),List.drop_eq_nil_of_le (by omega:v.Items.length<=i),List.drop_eq_nil_of_le (by omega:v.Keys.length<=i),vpays,vpays,ilv]
  . simp
  grind
 | k+1,i,acc,hi,ha=>by
  have hlt:i < v.Items.length:=by omega
  have hlt2:i < v.Keys.length:=by omega
  have hr:=aR hl;have hmem:v.Items.getD i af∈v.Items:=aB hlt af;have hmem2:v.Keys.getD i af∈v.Keys:=aB hlt2 af;rw[bk hlt af,bk hlt2 af,vpays,vpays,ilv,List.length_append,List.length_append]at ha;have hp:=hlen _ hmem;have hp2:=hlenk _ hmem2;have hW:=hw _ hmem;have hW2:=hwk _ hmem2;unfold Rp at hW hW2;rw[gE,if_pos (by simp;omega),if_pos (au hlt2)]
  simp only[oZ4,oZ3,az,ab.aA];rw[hW2];simp only[oZ3];rw[nn (by omega)];simp only[oZ3];rw[if_pos (bm (by omega)),if_pos (au hlt),hW];simp only[oZ3];rw[nn (by omega)];simp only[oZ3]
  rw[if_pos (bm (by rw[List.length_append];omega)),aE (by omega),yo hkl hlen hlenk hw hwk hl k (i+1) _ (by omega) (by rw[List.length_append,List.length_append];omega),bk hlt af,bk hlt2 af,vpays,vpays,ilv,List.append_assoc,List.append_assoc]
def cZ(R:List aG)(n:Nat):List Fd:=(R.filter fun x=>decide (x.ID=(n:Int))).map rawF
theorem E0{a:aG}{l:List aG}{n:Nat}(h:a.ID=(n:Int)):cZ (a::l) n=rawF a::cZ l n:=by unfold cZ;rw[List.filter_cons,if_pos (by rw[h];simp),List.map_cons]
theorem Ga{a:aG}{l:List aG}{n:Nat}(h:¬a.ID=(n:Int)):cZ (a::l) n=cZ l n:=by unfold cZ;rw[List.filter_cons,if_neg (by simpa using h)]
theorem refOm {γ : Type} {m : aj} {w : ab} (hw : OkV w) (A B : Option γ):
 ((if(!(!m.HasDefault))=true then cr (w,m.Default)else some false).bind fun r_19=>if(bif (!m.HasDefault)then true else(!r_19))=true then A else B)=if om m w=true then B else A:=by
 cases hd:m.HasDefault with
 | false=>
  have:om m w=false:=by unfold om;rw[hd];rfl
  rw[this];rfl
 | true=>
  have:=HH hw hd;simp only[Bool.not_true,Bool.not_false,if_true,this];cases om m w <;> rfl
theorem qw {x : ae} {v : ab} (hr : ∀ y, y ∈ v.Rest -> y.Data.length <= reachBytes) (hR : v.Rest.length <= reachBytes) (n : Nat) (hn : n <= 1000):
 ∀(k i:Nat) (out:List UInt8),i+k=v.Rest.length->out.length+((cZ (v.Rest.drop i) n).flatMap Fd.text).length<=70368744177664->
 dp (out,(n:Int),(i:Int),ts,v,x)=some (out++(cZ (v.Rest.drop i) n).flatMap Fd.text,(n:Int),ts,v,x)
 | 0,i,out,hi,ha=>by
  rw[dp,if_neg (by simp;omega),List.drop_eq_nil_of_le (by omega:v.Rest.length<=i),ab.aA];simp[cZ]
 | k+1,i,out,hi,ha=>by
  have hlt:i < v.Rest.length:=by omega
  have hrr:=aR hR;have hd:=hr _ (aB hlt aC);unfold reachBytes at hd;rw[bk hlt aC]at ha;rw[dp,if_pos (by simp;omega),if_pos (au hlt)];simp only[oZ4,oZ3,az,ab.aA];rw[bk hlt aC];by_cases e:(v.Rest.getD i aC).ID=(n:Int)
  . rw[E0 e,List.flatMap_cons]at ha ⊢;have ht:(rawF (v.Rest.getD i aC)).text=dG n false (v.Rest.getD i aC).Data:=by unfold rawF Fd.text;rw[e];rfl
    rw[ht,List.length_append]at ha;rw[if_pos (by rw[e];simp),if_pos (au hlt),uM (by omega) (by omega)];simp only[oZ3];rw[if_pos (bm (by omega)),aE (by omega),qw hr hR n hn k (i+1) _ (by omega) (by rw[List.length_append];omega),ht,List.append_assoc]
  . rw[Ga e]at ha ⊢;rw[if_neg (by simpa using e),aE (by omega),qw hr hR n hn k (i+1) _ (by omega) ha]
noncomputable def grp (ts:List ae) (x:ae) (v:ab) (n:Nat):List Fd:=(dm ts x.Members v.Items v.Rest).filter fun f=>decide (f.id=n)
theorem rI {x : ae} {v : ab} (hm : x.Members.length < 9223372036854775807) (hma : MAsc x.Members) (hrk : dH x.Members v.Rest) (hil : v.Items.length = x.Members.length)
 (hr:∀y,y∈v.Rest->y.Data.length<=reachBytes) (hR:v.Rest.length<=reachBytes) (hok:∀y,y∈v.Items->OkV y) (hlenI:∀x,x∈v.Items->∀t,(vpay ts t x).length<=23089744183296)
 (hw:∀i,i < x.Members.length->Rp ts (v.Items.getD i af) (x.Members.getD i ag).Type_):
 ∀(k n:Nat) (out:List UInt8),n+k=1001->1<=n->out.length+(((List.range' n k).flatMap (grp ts x v)).flatMap Fd.text).length<=70368744177664->
 eL (out,(n:Int),ts,v,x)=some (out++((List.range' n k).flatMap (grp ts x v)).flatMap Fd.text)
 | 0,n,out,hi,h1,ha=>by
  rw[eL,if_neg (by simp;omega)];simp
 | k+1,n,out,hi,h1,ha=>by
  have hid0:∀y,y∈v.Rest->0<=y.ID:=fun y hy=>by have:=(hrk.2 y hy).1;unfold I1000 at this;omega
  have hg:grp ts x v n=((vents ts x.Members v.Items).filter fun f=>decide (f.id=n))++cZ v.Rest n:=by
   unfold grp dm cZ;rw[List.filter_append,DR _ _ hid0]
  rw[List.range'_succ,List.flatMap_cons,List.flatMap_append,hg,List.flatMap_append]at ha ⊢;simp only[List.length_append]at ha;rw[eL,if_pos (by simp;omega)];obtain⟨r,_,r2,hf⟩:=fg (t:=x) (n:Int) hm;simp only[oZ4,oZ3,az,ab.aA];rw[r2];simp only[oZ3]
  have inner:∀out':List UInt8,out'.length+((cZ v.Rest n).flatMap Fd.text).length<=70368744177664->dp (out',(n:Int),0,ts,v,x)=some (out'++(cZ v.Rest n).flatMap Fd.text,(n:Int),ts,v,x):=fun out' h=>by
   have:=qw (ts:=ts) (x:=x) hr hR n (by omega) v.Rest.length 0 out' (by omega) (by simpa using h)
   grind
  rcases kP hf with⟨e,j,q1,q2,q3,q4⟩ | ⟨e,q3⟩
  . have hlt2:j < v.Items.length:=by omega
    have hmem:v.Items.getD j af∈v.Items:=aB hlt2 af;have hfd:=uP (ts:=ts) (ym hma) hil q1 (n:=n) (by rw[q4];simp);rw[if_pos e,q2,if_pos (au q1)];rw[if_pos (by rw[au hlt2];rfl)];simp only[az];rw[refOm (hok _ hmem)];have hrec:=rI hm hma hrk hil hr hR hok hlenI hw k (n+1);cases ho:om (x.Members.getD j ag) (v.Items.getD j af)with
    | true=>
     rw[ho,if_pos rfl]at hfd;rw[hfd]at ha ⊢;rw[if_pos rfl,inner out (by omega)];simp only[oZ3,ab.aA];rw[aE (by omega),hrec _ (by omega) (by omega) (by rw[List.length_append];omega)];simp
    | false=>
     rw[ho,if_neg (by simp)]at hfd;rw[hfd]at ha ⊢;have hp:=hlenI _ hmem (x.Members.getD j ag).Type_;have hW:=hw j q1;unfold Rp at hW
     have ht:([⟨n,(x.Members.getD j ag).Critical,vpay ts (x.Members.getD j ag).Type_ (v.Items.getD j af)⟩]:List Fd).flatMap Fd.text=dG n (x.Members.getD j ag).Critical (vpay ts (x.Members.getD j ag).Type_ (v.Items.getD j af)):=by simp only[List.flatMap_cons,List.flatMap_nil,List.append_nil];rfl
     rw[ht]at ha ⊢;rw[if_neg (by simp),if_pos (au hlt2),hW];simp only[oZ3];rw[uM (by omega) (by omega)];simp only[oZ3];rw[if_pos (bm (by omega)),inner _ (by rw[List.length_append];omega)];simp only[oZ3,ab.aA];rw[aE (by omega),hrec _ (by omega) (by omega) (by rw[List.length_append,List.length_append];omega)]
     grind
  . have hnone:((vents ts x.Members v.Items).filter fun f=>decide (f.id=n))=[]:=vL fun m hm'=>by
     have:=kY q3 m hm';omega
    rw[hnone]at ha ⊢;rw[if_neg (by simp[e]),inner out (by omega)];simp only[oZ3,ab.aA];rw[aE (by omega),rI hm hma hrk hil hr hR hok hlenI hw k (n+1) _ (by omega) (by omega) (by rw[List.length_append];omega)];simp
end
section
variable {ts:List ae}
set_option maxHeartbeats 400000 in
theorem yp(H:SOk ts){v:ab}(hv:OkV v):wt v<=1099511627776->∀t,vfit ts false t v->Rp ts v t:=by
 induction hv with
 | mk v hs h1 h2 h3 hk hi hrd n1 n2 n3 n4 ihk ihi=>
  intro hw t hf;have hOk:OkV v:= .mk v hs h1 h2 h3 hk hi hrd n1 n2 n3 n4;have hwt:=wt_eq v;have hlenI:∀x,x∈v.Items->∀t,(vpay ts t x).length<=23089744183296:=fun x hx t=>rH H (hi x hx) (by have:=bK hx;omega) t
  have hlenK:∀x,x∈v.Keys->∀t,(vpay ts t x).length<=23089744183296:=fun x hx t=>rH H (hk x hx) (by have:=bK hx;omega) t
  have hWI:∀x,x∈v.Items->∀t,vfit ts false t x->Rp ts x t:=fun x hx t=>ihi x hx (by have:=bK hx;omega) t
  have hWK:∀x,x∈v.Keys->∀t,vfit ts false t x->Rp ts x t:=fun x hx t=>ihk x hx (by have:=bK hx;omega) t
  have hlenv:=rH H hOk hw t;obtain⟨⟨g1,g2,g3,_⟩,hf⟩:=(cn _ _ _).1 hf;obtain⟨j,rfl⟩:∃j:Nat,t=(j:Int):=⟨t.toNat,by omega⟩
  have hj:j < ts.length:=by omega
  unfold Rp;rw[cN,if_pos (au hj)];simp only[oZ4,oZ3,az,ab.aA]at hf g3 ⊢;have hxm:=aB hj ap;have hv1:=@vpay1 ts (j:Int) v;have hv2:=@vpay2 ts (j:Int) v;have hv3:=@vpay3 ts (j:Int) v;have hv4:=@vpay4 ts (j:Int) v;have hv5:=@vpay5 ts (j:Int) v;have hv6:=@vpay6 ts (j:Int) v;have hv7:=@vpay7 ts (j:Int) v
  have hv8:=@vpay8 ts (j:Int) v;have hv9:=@vpay9 ts (j:Int) v;simp only[az]at hv1 hv2 hv3 hv4 hv5 hv6 hv7 hv8 hv9;have hA:=H.A _ hxm;have hS:=H.S _ hxm;have hm:=aR (ce (H.T _ hxm).mems);generalize ts.getD j ap=x at*
  rcases hf with⟨k,c1,c2,c3,c4,c5,c6⟩ | ⟨k,c1,c2,c3,c4,c5,c6,c7,c8⟩ | ⟨k,c1,c2,c3,c4,c5,c6,c7⟩ | ⟨k,c1,c2,c3,c4,c5,c6,c7⟩ | ⟨k,c1,c2,c3,c4,c5,c6,c7⟩ | ⟨k,c1,c2,c3,c4,c5⟩ | ⟨k,c1,c2,c3,c4,c5,c6,c7,c8⟩ | ⟨k,c1,c2,c3,c4,c5,c6,c7,c8,c9,c10⟩ | ⟨k,c1,c2,c3,c4,c5,c6,c7,c8⟩ <;> rw[k]at g3 <;> have kx:=g3.symm
  . grind
  . rw[if_neg (by simp[kx]),if_pos (by simp[kx]),hv2 kx,iD n2];simp only[oZ3];have hz:=rW n2;obtain⟨n,hn⟩:∃n:Nat,zig v.Int_=(n:Int):=⟨(zig v.Int_).toNat,by unfold zig;split <;> omega⟩
    rw[hn,Int.toNat_natCast]at hz;rw[hn,wC hz];rfl
  . rw[if_neg (by simp[kx]),if_neg (by simp[kx]),if_pos (by simp[kx]),hv3 kx]
  . rw[if_neg (by simp[kx]),if_neg (by simp[kx]),if_neg (by simp[kx]),if_pos (by simp[kx]),hv4 kx]
    obtain⟨n,hn⟩:∃n:Nat,v.ID=(n:Int):=⟨v.ID.toNat,by
     rcases c7 with⟨y,hy,he⟩ | ⟨_,_,he⟩
     . have:=hS kx y hy;unfold I1000 at this;omega
     . unfold I1000 at he;omega⟩
    rw[hn,wrpn (by omega),wC (by omega),Int.toNat_natCast];rfl
  . rw[if_neg (by simp[kx]),if_neg (by simp[kx]),if_neg (by simp[kx]),if_neg (by simp[kx]),if_neg (by simp[kx]),if_neg (by simp[kx]),if_neg (by simp[kx]),if_neg (by simp[kx]),hv5 kx];obtain⟨hma,hm16⟩:=hA (.inl kx);obtain⟨hil,hip⟩:=dB.1 c7;rw[hv5 kx]at hlenv;have hsg:=CG (pA (ts:=ts) (l:=v.Items) hma c6) (fun y hy=>Dh hma c6 hy)
    have e0:(fun n=>(dm ts x.Members v.Items v.Rest).filter fun f=>decide (f.id=n))=grp ts x v:=rfl;rw[e0]at hsg;rw[hsg]at hlenv ⊢;have:=rI (ts:=ts) hm hma c6 hil (fun y hy=>hrd y hy) h3 hi hlenI (fun i hi'=>hWI _ (aB (by omega) af) _ (hip i hi')) 1000 1 [] (by omega) (by omega) (by simp only[List.length_nil];omega);have h0:eL ([],1,ts,v,x)=_:=this;rw[h0]
    rfl
  . rw[if_neg (by simp[kx]),if_neg (by simp[kx]),if_neg (by simp[kx]),if_neg (by simp[kx]),if_neg (by simp[kx]),if_pos (by simp[kx]),hv6 kx];obtain⟨hma,hm16⟩:=hA (.inr kx);obtain⟨r,_,r2,hf⟩:=fg (t:=x) v.ID hm;rcases kP hf with⟨e,q,q1,q2,q3,q4⟩ | ⟨e,q3⟩
    . rw[q3]at c5;rw[q3];simp only at c5 ⊢;obtain⟨d1,d2,d3⟩:=c5;have hI:=hma.2 _ (aB q1 ag);rw[q4]at hI;obtain⟨n,hn⟩:∃n:Nat,v.ID=(n:Int):=⟨v.ID.toNat,by unfold I1000 at hI;omega⟩
      rw[if_neg (by simp[d1]),r2,hn,wrpn (by unfold I1000 at hI;omega),lj (by unfold I1000 at hI;omega)];simp only[oZ3];rw[q2,if_pos (au q1)]
      match hI:v.Items,d2 with
      | [y],_=>
       have hy:y∈v.Items:=by rw[hI];exact .head _
       have hi0:inR 0 ([y]:List ab).length=true:=au (k:=0) (by simp);have hf:=aW.1 d3 y hy;have hW:=hWI y hy _ hf;unfold Rp at hW;rw[if_pos hi0];simp only[az,Int.toNat_zero,List.getD_cons_zero];rw[hW];have hp:=hlenI y hy (x.Members.getD q ag).Type_;have hp10:=cS (n:=n) (by rw[hn]at n3;omega);simp only[oZ3];rw[if_pos (bm (by omega))]
       have ep:vpays ts (x.Members.getD q ag).Type_ [y]=[vpay ts (x.Members.getD q ag).Type_ y]:=by rw[vpays,vpays]
       rw[ep];rfl
    . rw[q3]at c5;rw[q3];simp only at c5 ⊢;obtain⟨d1,d2,d3,d4,d,d5⟩:=c5;obtain⟨n,hn⟩:∃n:Nat,v.ID=(n:Int):=⟨v.ID.toNat,by unfold I1000 at d3;omega⟩
      have hdl:=hrd ⟨v.ID,d⟩ (by rw[d5];exact .head _);simp only at hdl;unfold reachBytes at hdl;have hp10:=cS (n:=n) (by rw[hn]at n3;omega);rw[d5,hn,if_pos (by simp),wrpn (by unfold I1000 at d3;omega),lj (by unfold I1000 at d3;omega)];simp only[oZ3];have hi0:inR 0 ([⟨(n:Int),d⟩]:List aG).length=true:=au (k:=0) (by simp);rw[if_pos hi0]
      simp only[Int.toNat_zero,List.getD_cons_zero];rw[if_pos (bm (by omega))];rfl
  . rw[if_neg (by simp[kx]),if_neg (by simp[kx]),if_neg (by simp[kx]),if_neg (by simp[kx]),if_neg (by simp[kx]),if_neg (by simp[kx]),if_pos (by simp[kx])];have hf:=aW.1 c8;rw[hv7 kx]at hlenv ⊢
    have:=xr (ts:=ts) (x:=x) (v:=v) (fun y hy=>by have:=hlenI y hy x.Elem;omega) (fun y hy=>hWI y hy x.Elem (hf y hy)) h2 v.Items.length 0 [] (by omega) (by simp only[List.drop_zero,List.length_nil];omega);have h0:gD ([],0,ts,v,x)=_:=this;rw[h0];rfl
  . rw[if_neg (by simp[kx]),if_neg (by simp[kx]),if_neg (by simp[kx]),if_neg (by simp[kx]),if_neg (by simp[kx]),if_neg (by simp[kx]),if_neg (by simp[kx]),if_pos (by simp[kx])];have hf:=aW.1 c9;have hfk:=aW.1 c8;rw[hv8 kx]at hlenv ⊢
    have:=yo (ts:=ts) (x:=x) (v:=v) c7 (fun y hy=>by have:=hlenI y hy x.Elem;omega) (fun y hy=>by have:=hlenK y hy x.Key;omega) (fun y hy=>hWI y hy x.Elem (hf y hy)) (fun y hy=>hWK y hy x.Key (hfk y hy)) h2 v.Items.length 0 [] (by omega) (by simp only[List.drop_zero,List.length_nil];omega);have h0:gE ([],0,ts,v,x)=_:=this;rw[h0];rfl
  . rw[if_neg (by simp[kx]),if_neg (by simp[kx]),if_neg (by simp[kx]),if_neg (by simp[kx]),if_pos (by simp[kx]),hv9 kx];have hf:=aW.1 c8
    match hI:v.Items,c7 with
    | [],_=>rw[if_pos (by simp),vpays]
    | [y],_=>
     have hy:y∈v.Items:=by rw[hI];exact .head _
     have hi0:inR 0 ([y]:List ab).length=true:=au (k:=0) (by simp);rw[if_neg (by simp),if_pos hi0];have hW:=hWI y hy x.Elem (hf y hy);unfold Rp at hW;simp only[Int.toNat_zero,List.getD_cons_zero];rw[hW];have hp:=hlenI y hy x.Elem;simp only[oZ3];rw[if_pos (bm (by simp;omega))];have ep:vpays ts x.Elem [y]=[vpay ts x.Elem y]:=by rw[vpays,vpays]
     rw[ep];rfl
    | a::b::c,h=>simp at h
end
theorem SaysP.says{α:Type}{o:Option Bool}{a b:α}(h:Says o a b):SaysP o (a=b):=h
theorem and3S {o1 o2 o3 : Option Bool} {P1 P2 P3 : Prop} (h1 : SaysP o1 P1) (h2 : SaysP o2 P2) (h3 : SaysP o3 P3):
 SaysP (o1 >>=fun r_6=>(if r_6=true then o2 else some false) >>=fun r_7=>some (bif r_6 then r_7 else false) >>=fun t53=>(if t53=true then o3 else some false) >>=fun r_8=>some (bif t53 then r_8 else false)) (P1/\P2/\P3):=by
 obtain⟨a,rfl,h1⟩:=h1;obtain⟨b,rfl,h2⟩:=h2;obtain⟨c,rfl,h3⟩:=h3;rw[<-h1,<-h2,<-h3];cases a <;> cases b <;> cases c <;> exact⟨_,rfl,by simp⟩
theorem zo{o:Option Bool}{P:Prop}(h:SaysP o P):SaysP (o >>=fun r=>some r) P:=by grind
def fE(union:Bool)(Ms:List aj):Prop:=(∀m,m∈Ms->badM union m=false)/\(union=false\/0 < Ms.length)/\MAsc Ms/\(∀m,m∈Ms->nm m.Name=true)/\(Ms.map (·.Name)).Nodup/\Ms.length<=16
def ma(S:List aK):Prop:=0 < S.length/\(S.Pairwise (fun a b=>a.ID < b.ID)/\∀y,y∈S->I1000 y.ID)/\(∀y,y∈S->nm y.Name=true)/\(S.map (·.Name)).Nodup/\S.length<=16
theorem E2{l:List (List UInt8)}:l.Nodup↔∀i,i < l.length->(l.take i).contains (l.getD i [])=false:=by
 unfold List.Nodup;rw[List.pairwise_iff_getElem];constructor
 . intro h i hi;apply Bool.eq_false_iff.2;intro hc;obtain⟨k,hk,he⟩:=(eY (by omega)).1 hc
   grind
 . intro h k i hk' hi hk he;have:=h i hi;rw[Bool.eq_false_iff]at this;apply this;refine(eY (by omega)).2 ⟨k,hk,?_⟩
   grind
theorem yr{α:Type}(f:α->Int)(g:α->List UInt8)(d:α)(l:List α):(∀i,i < l.length->idp (l.map f) (l.map g) i=true)↔(l.Pairwise (fun a b=>f a < f b)/\∀x,x∈l->I1000 (f x))/\(∀x,x∈l->nm (g x)=true)/\(l.map g).Nodup:=by
 rw[oh f d,E2];have key:∀i,i < l.length->(idp (l.map f) (l.map g) i=true↔I1000 (f (l.getD i d))/\(i=0\/f (l.getD (i - 1) d) < f (l.getD i d))/\nm (g (l.getD i d))=true/\((l.map g).take i).contains ((l.map g).getD i [])=false):=by
  intro i hi;unfold idp I1000
  grind
 constructor
 . intro h;refine⟨⟨fun i hi=>?_,fun x hx=>?_⟩,fun x hx=>?_,fun i hi=>?_⟩
   . grind
   . obtain⟨i,hi,rfl⟩:=List.getElem_of_mem hx
     grind
   . obtain⟨i,hi,rfl⟩:=List.getElem_of_mem hx
     grind
   grind
 . rintro ⟨⟨h1,h2⟩,h3,h4⟩ i hi
   refine(key i hi).2 ⟨h2 _ (aB hi d),?_,h3 _ (aB hi d),h4 i (by simpa using hi)⟩;by_cases h0:i=0
   . omega
   . right;have:=h1 (i - 1) (by omega);have e:i - 1+1=i:=by omega
     grind
theorem wH{t:ae}(h:OkT t):SaysP (gV t) ((∀m,m∈t.Members->badM (decide (t.Kind=6)) m=false)/\(t.Kind=5\/0 < t.Members.length)/\MAsc t.Members/\(∀m,m∈t.Members->nm m.Name=true)/\(t.Members.map (·.Name)).Nodup/\t.Members.length<=16):=by
 obtain⟨r,h1,h2⟩:=vC h;refine⟨r,h1,h2.trans ?_⟩;rw[yr (fun m:aj=>m.ID) (fun m:aj=>m.Name) ag];have e:(∀i,i < t.Members.length->badM (decide (t.Kind=6)) (t.Members.getD i ag)=false)↔∀m,m∈t.Members->badM (decide (t.Kind=6)) m=false:=by
  constructor
  . intro h m hm;obtain⟨i,hi,rfl⟩:=List.getElem_of_mem hm
    grind
  grind
 rw[e];unfold MAsc
 grind
theorem Gb{l:List aK}(hl:l.length*24<=reachBytes):SaysP (i5 l) (ma l):=by
 obtain⟨r,h1,h2⟩:=yj hl;refine⟨r,h1,h2.trans ?_⟩;rw[yr (fun m:aK=>m.ID) (fun m:aK=>m.Name) aQ];unfold ma
 grind
def FormP(t:ae):Prop:=
 (t.Kind=1/\t.Name=[]/\t.Low=0/\t.High=0/\t.Max=0/\t.Symbols=[]/\t.Members=[]/\t.Key=0/\t.Elem=0/\t.Open=false)\/
 (t.Kind=2/\t.Name=[]/\t.Low<=t.High/\t.Max=0/\t.Symbols=[]/\t.Members=[]/\t.Key=0/\t.Elem=0/\t.Open=false)\/
 (t.Kind=3/\t.Name=[]/\t.Low=0/\t.High=0/\(0<=t.Max/\t.Max<=200)/\t.Symbols=[]/\t.Members=[]/\t.Key=0/\t.Elem=0/\t.Open=false)\/
 (t.Kind=4/\nm t.Name=true/\t.Low=0/\t.High=0/\t.Max=0/\ma t.Symbols/\t.Members=[]/\t.Key=0/\t.Elem=0)\/
 (t.Kind=5/\nm t.Name=true/\t.Low=0/\t.High=0/\t.Max=0/\t.Symbols=[]/\fE false t.Members/\t.Key=0/\t.Elem=0/\t.Open=false)\/
 (t.Kind=6/\nm t.Name=true/\t.Low=0/\t.High=0/\t.Max=0/\t.Symbols=[]/\fE true t.Members/\t.Key=0/\t.Elem=0)\/
 (t.Kind=7/\t.Name=[]/\t.Low=0/\t.High=0/\(0<=t.Max/\t.Max<=50)/\t.Symbols=[]/\t.Members=[]/\t.Key=0/\t.Open=false)\/
 (t.Kind=8/\t.Name=[]/\t.Low=0/\t.High=0/\(0<=t.Max/\t.Max<=50)/\t.Symbols=[]/\t.Members=[]/\t.Open=false)\/
 (t.Kind=9/\t.Name=[]/\t.Low=0/\t.High=0/\t.Max=0/\t.Symbols=[]/\t.Members=[]/\t.Key=0/\t.Open=false)
theorem Gc{t:ae}(h:OkT t):SaysP (bj t) (FormP t):=by
 have hz:OkT (⟨0,[],0,0,0,[],[],0,0,false⟩:ae):=⟨by simp,by simp,by simp⟩
 obtain⟨Kd,N,L,H,M,S,Ms,K,E,O⟩:=t;have hS:=h.syms;have hMs:=h.mems;have hd:=h.dv;simp only at hS hMs hd;by_cases k1:Kd=1
 . subst k1;have a:=bT (a:=(⟨0,N,L,H,M,S,Ms,K,E,O⟩:ae)) ⟨hS,hMs,hd⟩ (⟨0,[],0,0,0,[],[],0,0,false⟩:ae);refine(zo (SaysP.says a)).imp ?_;unfold FormP;simp
 by_cases k2:Kd=2
 . subst k2;have a:=bT (a:=(⟨0,N,0,0,M,S,Ms,K,E,O⟩:ae)) ⟨hS,hMs,hd⟩ (⟨0,[],0,0,0,[],[],0,0,false⟩:ae);refine(and2S (q:=decide (L<=H)) (Q:=L<=H) (by simp) (SaysP.says a)).imp (Q:=FormP ⟨2,N,L,H,M,S,Ms,K,E,O⟩) ?_;unfold FormP
   grind
 by_cases k3:Kd=3
 . subst k3;have a:=bT (a:=(⟨0,N,L,H,0,S,Ms,K,E,O⟩:ae)) ⟨hS,hMs,hd⟩ (⟨0,[],0,0,0,[],[],0,0,false⟩:ae);refine(and2S (q:=bif decide (0<=M)then decide (M<=200)else false) (Q:=0<=M/\M<=200) (by by_cases g:0<=M <;> simp[g]) (SaysP.says a)).imp (Q:=FormP ⟨3,N,L,H,M,S,Ms,K,E,O⟩) ?_;unfold FormP
   grind
 by_cases k4:Kd=4
 . subst k4;have a:=bT (a:=(⟨0,[],L,H,M,[],Ms,K,E,false⟩:ae)) ⟨by simp,hMs,hd⟩ (⟨0,[],0,0,0,[],[],0,0,false⟩:ae);refine(and3S (⟨nm N,lexNm N,Iff.rfl⟩:SaysP (cA N) (nm N=true)) (Gb hS) (SaysP.says a)).imp (Q:=FormP ⟨4,N,L,H,M,S,Ms,K,E,O⟩) ?_;unfold FormP
   grind
 by_cases k5:Kd=5
 . subst k5;have a:=bT (a:=(⟨0,[],L,H,M,S,[],K,E,bif O then decide ((5:Int)=5)else false⟩:ae)) ⟨hS,by simp,by simp⟩ (⟨0,[],0,0,0,[],[],0,0,false⟩:ae);refine(and3S (⟨nm N,lexNm N,Iff.rfl⟩:SaysP (cA N) (nm N=true)) (wH h) (SaysP.says a)).imp (Q:=FormP ⟨5,N,L,H,M,S,Ms,K,E,O⟩) ?_;unfold FormP fE
   grind
 by_cases k6:Kd=6
 . subst k6;have a:=bT (a:=(⟨0,[],L,H,M,S,[],K,E,bif O then decide ((6:Int)=5)else false⟩:ae)) ⟨hS,by simp,by simp⟩ (⟨0,[],0,0,0,[],[],0,0,false⟩:ae);refine(and3S (⟨nm N,lexNm N,Iff.rfl⟩:SaysP (cA N) (nm N=true)) (wH h) (SaysP.says a)).imp (Q:=FormP ⟨6,N,L,H,M,S,Ms,K,E,O⟩) ?_;unfold FormP fE
   grind
 by_cases k7:Kd=7
 . subst k7;have a:=bT (a:=(⟨0,N,L,H,0,S,Ms,K,0,O⟩:ae)) ⟨hS,hMs,hd⟩ (⟨0,[],0,0,0,[],[],0,0,false⟩:ae);refine(and2S (q:=bif decide (0<=M)then decide (M<=50)else false) (Q:=0<=M/\M<=50) (by by_cases g:0<=M <;> simp[g]) (SaysP.says a)).imp (Q:=FormP ⟨7,N,L,H,M,S,Ms,K,E,O⟩) ?_;unfold FormP
   grind
 by_cases k8:Kd=8
 . subst k8;have a:=bT (a:=(⟨0,N,L,H,0,S,Ms,0,0,O⟩:ae)) ⟨hS,hMs,hd⟩ (⟨0,[],0,0,0,[],[],0,0,false⟩:ae);refine(and2S (q:=bif decide (0<=M)then decide (M<=50)else false) (Q:=0<=M/\M<=50) (by by_cases g:0<=M <;> simp[g]) (SaysP.says a)).imp (Q:=FormP ⟨8,N,L,H,M,S,Ms,K,E,O⟩) ?_;unfold FormP
   grind
 by_cases k9:Kd=9
 . subst k9;have a:=bT (a:=(⟨0,N,L,H,M,S,Ms,K,0,O⟩:ae)) ⟨hS,hMs,hd⟩ (⟨0,[],0,0,0,[],[],0,0,false⟩:ae);refine(zo (SaysP.says a)).imp (Q:=FormP ⟨9,N,L,H,M,S,Ms,K,E,O⟩) ?_;unfold FormP;simp
 refine⟨false,by simp[bj,k1,k2,k3,k4,k5,k6,k7,k8,k9],?_⟩;unfold FormP
 grind
structure VOk (ts:List ae):Prop where
 n:ts.length<=32
 F:∀t,t∈ts->FormP t
 D:∀i,i < ts.length->(!(decide ((ts.getD i ap).Name=[])) && ((ts.map (·.Name)).take i).contains (ts.getD i ap).Name)=false
 U:∀t,t∈ts->∀u,u∈usesL t->0<=u/\u < ts.length
 Ky:∀t,t∈ts->t.Kind=8->1<=(ts.getD t.Key.toNat ap).Kind/\(ts.getD t.Key.toNat ap).Kind<=4
theorem E3 {ts : List ae} (hT : ∀ t, t ∈ ts -> OkT t) {i : Nat} (hi : i < ts.length): stepV ts i = none ↔ FormP (ts.getD i ap) /\ (!(decide ((ts.getD i ap).Name = [])) && ((ts.map (·.Name)).take i).contains (ts.getD i ap).Name) = false /\ (∀ u, u ∈ usesL (ts.getD i ap) -> 0 <= u /\ u < ts.length) /\
 ((ts.getD i ap).Kind=8->1<=(ts.getD (ts.getD i ap).Key.toNat ap).Kind/\(ts.getD (ts.getD i ap).Key.toNat ap).Kind<=4):=by
 obtain⟨r,f1,f2⟩:=Gc (hT _ (aB hi ap));rw[rj rfl f1,<-f2];have hu:(usesL (ts.getD i ap)).any (outB ts.length)=false↔∀u,u∈usesL (ts.getD i ap)->0<=u/\u < ts.length:=by
  rw[List.any_eq_false];constructor
  . intro h u hu;have:=h u hu;unfold outB at this
    grind
  . intro h u hu;have:=h u hu;unfold outB
    grind
 rw[<-hu];generalize (usesL (ts.getD i ap)).any (outB ts.length)=b;generalize (!(decide ((ts.getD i ap).Name=[])) && ((ts.map (·.Name)).take i).contains (ts.getD i ap).Name)=c
 have hk:(decide ((ts.getD i ap).Kind=8) && !(keyB (ts.getD (ts.getD i ap).Key.toNat ap).Kind))=false↔((ts.getD i ap).Kind=8->1<=(ts.getD (ts.getD i ap).Key.toNat ap).Kind/\(ts.getD (ts.getD i ap).Key.toNat ap).Kind<=4):=by
  unfold keyB
  grind
 rw[<-hk];generalize (decide ((ts.getD i ap).Kind=8) && !(keyB (ts.getD (ts.getD i ap).Key.toNat ap).Kind))=d;cases r <;> cases b <;> cases c <;> cases d <;> simp
theorem qP{ts:List ae}(hT:∀t,t∈ts->OkT t)(h:VOk ts):i9 (⟨ts⟩:av)=some 0/\kb (⟨ts⟩:av)=some 0:=by
 obtain⟨e,h1,h2,_,h4⟩:=EW (s:=⟨ts⟩) (by have:=h.n;unfold reachBytes;show ts.length<=_;omega) hT;have e0:e=0:=h4 ⟨h.n,fun i hi=>(E3 hT hi).2 ⟨h.F _ (aB hi ap),h.D i hi,h.U _ (aB hi ap),h.Ky _ (aB hi ap)⟩⟩
 grind
theorem VOk.sok{ts:List ae}(hT:∀t,t∈ts->OkT t)(h:VOk ts):SOk ts:=by
 refine⟨by have:=h.n;omega,hT,fun t ht=>?_,fun t ht m hm=>?_,fun t ht hk=>?_,fun t ht hk y hy=>?_,h.Ky⟩
 . have:=h.F t ht;unfold FormP at this;unfold fD;omega
 . have:=h.F t ht;unfold FormP at this;have hne:t.Members≠[]:=by intro e;rw[e]at hm;cases hm
   have:fE false t.Members\/fE true t.Members:=by grind
   rcases this with a | a
   . exact(a.2.2.1.2 m hm).2
   . exact(a.2.2.1.2 m hm).2
 . have:=h.F t ht;unfold FormP at this;have:fE false t.Members\/fE true t.Members:=by grind
   rcases this with a | a
   . exact⟨a.2.2.1,a.2.2.2.2.2⟩
   . exact⟨a.2.2.1,a.2.2.2.2.2⟩
 . have:=h.F t ht;unfold FormP at this;have:ma t.Symbols:=by grind
   exact this.2.1.2 y hy
def rsum(l:List aG):Nat:=(l.map fun x=>x.Data.length).sum
theorem GW(l:List aG):(l.map fun x=>x.Data.length+1).sum=rsum l+l.length:=by
 unfold rsum
 induction l with
 | nil=>rfl
 | cons a l ih=>simp only[List.map_cons,List.sum_cons,List.length_cons];omega
def Left(n:Int)(w:Nat)(m:Int):Prop:=m<=n/\-1000000000000000<=m/\(0<=m->(w:Int)+m<=n)
theorem xt{v:ab}(hl:v.Rest.length<=reachBytes)(hd:∀x,x∈v.Rest->x.Data.length<=reachBytes):∀(k i:Nat) (n:Int),i+k=v.Rest.length->n<=3000->-1000000000000000<=n->∃m,fR (n,(i:Int),v)=some (m,v)/\Left n (rsum (v.Rest.drop i)) m
 | 0, i, n, hi, h3, hm => ⟨n, by
  rw[fR,if_neg,ab.aA];intro h;have g:¬(i:Int) < (v.Rest.length:Int):=by omega
  simp[g]at h,by
  rw[List.drop_eq_nil_of_le (by omega:v.Rest.length<=i)]
  exact⟨by omega,hm,fun _=>by simp[rsum]⟩⟩
 | k+1,i,n,hi,h3,hm=>by
  have hlt:i < v.Rest.length:=by omega
  have hr:=aR hl;have hdd:=hd _ (aB hlt aC);unfold reachBytes at hdd;have g:(i:Int) < (v.Rest.length:Int):=by omega
  rw[fR];by_cases h0:0<=n
  . rw[if_pos (by simp[g,h0]),if_pos (au hlt)];simp only[az,ab.aA];rw[cX (by omega) (by omega),aE (by omega)];obtain⟨m,m1,m2,m3,m4⟩:=xt hl hd k (i+1) (n - ((v.Rest.getD i aC).Data.length:Int)) (by omega) (by omega) (by omega);refine⟨m,m1,by omega,m3,fun h=>?_⟩;have:=m4 h;rw[bk hlt aC]
    have e:rsum (v.Rest.getD i aC::v.Rest.drop (i+1))=(v.Rest.getD i aC).Data.length+rsum (v.Rest.drop (i+1)):=by unfold rsum;simp only[List.map_cons,List.sum_cons]
    rw[e];omega
  . refine⟨n,?_,by omega,hm,fun h=>absurd h h0⟩;rw[if_neg (by simp[g,h0]),ab.aA]
theorem xu{v:ab}(hl:v.Keys.length<=reachBytes)(ih:∀x,x∈v.Keys->∀n,0<=n->n<=3000->∃m,dY (x,n)=some m/\Left n (wt x) m):∀(k i:Nat) (n:Int),i+k=v.Keys.length->n<=3000->-1000000000000000<=n->∃m,gG (n,(i:Int),v)=some (m,v)/\Left n (wts (v.Keys.drop i)) m
 | 0, i, n, hi, h3, hm => ⟨n, by
  rw[gG,if_neg,ab.aA];intro h;have g:¬(i:Int) < (v.Keys.length:Int):=by omega
  simp[g]at h,by
  rw[List.drop_eq_nil_of_le (by omega:v.Keys.length<=i),bZ]
  exact⟨by omega,hm,fun _=>by simp⟩⟩
 | k+1,i,n,hi,h3,hm=>by
  have hlt:i < v.Keys.length:=by omega
  have hr:=aR hl;have g:(i:Int) < (v.Keys.length:Int):=by omega
  rw[gG];by_cases h0:0<=n
  . obtain⟨a,a1,a2,a3,a4⟩:=ih _ (aB hlt af) n h0 h3;rw[if_pos (by simp[g,h0]),if_pos (au hlt)];simp only[az,ab.aA];rw[a1];simp only[oZ4,oZ3];rw[aE (by omega)];obtain⟨m,m1,m2,m3,m4⟩:=xu hl ih k (i+1) a (by omega) (by omega) (by omega);refine⟨m,m1,by omega,m3,fun h=>?_⟩;have:=m4 h;have:=a4 (by omega);rw[bk hlt af,bX];omega
  . refine⟨n,?_,by omega,hm,fun h=>absurd h h0⟩;rw[if_neg (by simp[g,h0]),ab.aA]
theorem xw{v:ab}(hl:v.Items.length<=reachBytes)(ih:∀x,x∈v.Items->∀n,0<=n->n<=3000->∃m,dY (x,n)=some m/\Left n (wt x) m):∀(k i:Nat) (n:Int),i+k=v.Items.length->n<=3000->-1000000000000000<=n->∃m,gH (n,(i:Int),v)=some m/\Left n (wts (v.Items.drop i)) m
 | 0, i, n, hi, h3, hm => ⟨n, by
  rw[gH,if_neg];intro h;have g:¬(i:Int) < (v.Items.length:Int):=by omega
  simp[g]at h,by
  rw[List.drop_eq_nil_of_le (by omega:v.Items.length<=i),bZ]
  exact⟨by omega,hm,fun _=>by simp⟩⟩
 | k+1,i,n,hi,h3,hm=>by
  have hlt:i < v.Items.length:=by omega
  have hr:=aR hl;have g:(i:Int) < (v.Items.length:Int):=by omega
  rw[gH];by_cases h0:0<=n
  . obtain⟨a,a1,a2,a3,a4⟩:=ih _ (aB hlt af) n h0 h3;rw[if_pos (by simp[g,h0]),if_pos (au hlt)];simp only[az,ab.aA];rw[a1];simp only[oZ4,oZ3];rw[aE (by omega)];obtain⟨m,m1,m2,m3,m4⟩:=xw hl ih k (i+1) a (by omega) (by omega) (by omega);refine⟨m,m1,by omega,m3,fun h=>?_⟩;have:=m4 h;have:=a4 (by omega);rw[bk hlt af,bX];omega
  . refine⟨n,?_,by omega,hm,fun h=>absurd h h0⟩;rw[if_neg (by simp[g,h0])]
theorem size8{v:ab}(hv:OkV v):∀n:Int,0<=n->n<=3000->∃m,dY (v,n)=some m/\Left n (wt v) m:=by
 induction hv with
 | mk v hs h1 h2 h3 hk hi hrd n1 n2 n3 n4 ihk ihi=>
  intro n h0 hn;have e1:addI .i64 (addI .i64 10 (v.Str.length:Int)) (v.Rest.length:Int)=((10+v.Str.length+v.Rest.length:Nat):Int):=by
   have a1:=aR hs;have a2:=aR h3;unfold reachBytes at hs h3;have:addI .i64 10 (v.Str.length:Int)=((10+v.Str.length:Nat):Int):=x3 (a:=10) (by omega);rw[this,x3 (by omega)]
  unfold reachBytes at hs;have h3':=h3;unfold reachBytes at h3';have e2:subI .i64 n ((10+v.Str.length+v.Rest.length:Nat):Int)=n - ((10+v.Str.length+v.Rest.length:Nat):Int):=cX (by omega) (by omega);obtain⟨a,a1,a2,a3,a4⟩:=xt h3 hrd v.Rest.length 0 (n - ((10+v.Str.length+v.Rest.length:Nat):Int)) (by omega) (by omega) (by omega)
  obtain⟨b,b1,b2,b3,b4⟩:=xu h1 ihk v.Keys.length 0 a (by omega) (by omega) (by omega);obtain⟨c,c1,c2,c3,c4⟩:=xw h2 ihi v.Items.length 0 b (by omega) (by omega) (by omega);have a1':fR (n - ((10+v.Str.length+v.Rest.length:Nat):Int),0,v)=_:=a1;have b1':gG (a,0,v)=_:=b1;have c1':gH (b,0,v)=_:=c1;refine⟨c,?_,by omega,c3,fun h=>?_⟩
  . rw[dY];simp only[ab.aA];rw[e1,e2,a1'];simp only[oZ4,oZ3,ab.aA];rw[b1'];simp only[oZ3,ab.aA];rw[c1'];rfl
  . have:=c4 h;have:=b4 (by omega);have:=a4 (by omega);rw[wt_eq,GW]
    grind
theorem DT{v:ab}(hv:OkV v):∃b,mC v=some b/\(b=true->wt v<=3000):=by
 obtain⟨m,m1,m2,m3,m4⟩:=size8 hv 3000 (by omega) (by omega);rw[mC];simp only[ab.aA];rw[m1];refine⟨decide (0<=m),rfl,fun h=>?_⟩;have h0:0<=m:=of_decide_eq_true h;have:=m4 h0;omega
def KG(ts:List ae)(ms:List aj):Prop:=∀m,m∈ms->m.HasDefault=true->vfit ts true m.Type_ m.Default
theorem okOne{t:Ty}{x:t.den Un.D}(h:Ok Un [t] x):∀d,d∈t.row Un x->WF Un d:=fun d hd=>h ⟨t,x⟩ (List.mem_cons_self ..) d hd
theorem KH{t u:Ty}{r:List Ty}{h:Hs Un.D (t::u::r)}(hk:Ok Un (t::u::r) h):∀d,d∈t.row Un h.1->WF Un d:=fun d hd=>hk ⟨t,h.1⟩ (List.mem_cons_self ..) d hd
theorem KI{t u:Ty}{r:List Ty}{h:Hs Un.D (t::u::r)}(hk:Ok Un (t::u::r) h):Ok Un (u::r) h.2:=fun c hc d hd=>hk c (List.mem_cons_of_mem _ hc) d hd
abbrev Nd :=aM
abbrev dNd :=aw
abbrev dPt :=bP
theorem nz{a:Int}(h:¬a=0):(!(decide (a=0)))=true:=by simp[h]
theorem bF{x m:Int}(h:0<=x)(hm:0<=m):remI x m=x % m:=by unfold remI;rw[Int.tmod_eq_emod_of_nonneg h]
theorem KM{x:Int}(h:0<=x)(h2:x<=255):quoI .u8 x 4=x / 4:=by
 unfold quoI;rw[Int.tdiv_eq_ediv_of_nonneg h,IntKind.wrap_u8];omega
theorem cK{x:Int}(h:I64 x):wrp .i64 x=x:=by
 unfold wrp I64 at*;rw[IntKind.wrap_i64];omega
theorem rX{k:Int}(h:0<=k/\k<=25):dC (wrp .i32 (addI .i64 97 k))=[UInt8.ofNat (97+k.toNat)]:=by
 have key:∀k:Nat,k < 26->dC (wrp .i32 (addI .i64 97 (k:Int)))=[UInt8.ofNat (97+k)]:=by decide+kernel
 grind
theorem KN{k:Int}(h:0<=k/\k<=25):dC (wrp .i32 (addI .i64 65 k))=[UInt8.ofNat (65+k.toNat)]:=by
 have key:∀k:Nat,k < 26->dC (wrp .i32 (addI .i64 65 (k:Int)))=[UInt8.ofNat (65+k)]:=by decide+kernel
 grind
theorem vN{s:List UInt8}(h0:s≠[])(hl:s.length<=24)(h:∀i:Nat,i < s.length->dD (cp s i)=true):nm s=true:=by
 have key:∀k i:Nat,i+k=s.length->cP (s,(s.length:Int),(i:Int))=some (.inr ()):=by
  intro k
  induction k with
  | zero=>intro i hi;rw[cP,if_neg (by simp;omega)]
  | succ k ih=>
   intro i hi;rw[cP,if_pos (by simp;omega),if_pos (au (by omega)),nN,h i (by omega)];simp only[oZ4,oZ3,Bool.not_true];rw[if_pos (by rw[au (by omega)];rfl),aE (by omega)];exact ih (i+1) (by omega)
 have hpos:0 < s.length:=List.length_pos_iff.2 h0;have h00:=h 0 hpos;have hin:inR 0 s.length=true:=au (k:=0) hpos;have ht:(bif decide (s=[])then true else decide (24 < (s.length:Int)))=false:=by grind
 have hk:cP (s,(s.length:Int),0)=some (.inr ()):=key s.length 0 (by omega);have h00':dD (cp s 0)=true:=h00;unfold nm;rw[cA];simp only[oZ4,oZ3];rw[ht,hin,nN,h00']
 grind
theorem KO{c:Nat}(h:65<=c/\c<=90\/97<=c/\c<=122):nm [UInt8.ofNat c]=true:=by
 refine vN (by simp) (by simp) fun i hi=>?_
 have:i=0:=by simp at hi;omega
 subst this;have e:cp [UInt8.ofNat c] ((0:Nat):Int)=(c:Int):=by
  rw[qq];simp only[List.getD_cons_zero];rw[fc (by omega)]
 rw[e];unfold dD;simp;omega
theorem zp{b c:Nat}(hb:97<=b/\b<=122)(h:97<=c/\c<=122):nm [UInt8.ofNat b,UInt8.ofNat c]=true:=by
 refine vN (by simp) (by simp) fun i hi=>?_
 have:i=0\/i=1:=by simp at hi;omega
 rcases this with rfl | rfl
 . rw[qq];simp only[List.getD_cons_zero];rw[fc (by omega)];unfold dD;simp;omega
 . rw[qq];simp only[List.getD_cons_succ,List.getD_cons_zero];rw[fc (by omega)];unfold dD;simp;omega
def U8(x:Int):Prop:=0<=x/\x<=255
structure NOk (x:Nd):Prop where
 k:U8 x.Kind
 a:U8 x.A
 b:U8 x.B
 c:U8 x.C
 p:∀q,q∈x.Parts->U8 q.ID/\U8 q.Type_/\U8 q.Flag
 l:x.Parts.length<=reachBytes
def kd(ns:List Nd)(i:Int):Int:=1+(ns.getD i.toNat dNd).Kind % 9
section
variable {ns:List Nd} (hN:∀x,x∈ns->NOk x) (h5:ns.length<=5)
include hN h5 in
theorem kd_eq{i:Int}(h0:0<=i)(h1:i < ns.length):fY ((⟨ns⟩:aT),i)=some (kd ns i)/\1<=kd ns i/\kd ns i<=9:=by
 obtain⟨j,rfl⟩:∃j:Nat,i=(j:Int):=⟨i.toNat,by omega⟩
 have hx:=(hN _ (aB (by omega:j < ns.length) dNd)).k;unfold kd;rw[az];obtain⟨a,b⟩:=hx;refine⟨?_,by omega,by omega⟩;rw[fY,if_pos (au (by omega:j < ns.length)),az,bF a (by omega),cK ⟨by omega,by omega⟩,cq (by omega) (by omega)]
def Tgt(ns:List Nd)(i u:Int):Prop:=0<=u/\u < ns.length/\(7<=kd ns u\/u < i)
include hN h5 in
theorem wI :∀(k i:Nat),i+k=ns.length->dO ((ns.length:Int),(i:Int),ns)=some (.inr ())\/∃u:Int,dO ((ns.length:Int),(i:Int),ns)=some (.inl u)/\0<=u/\u < ns.length/\7<=kd ns u
 | 0,i,hi=>.inl (by rw[dO,if_neg (by simp;omega)])
 | k+1,i,hi=>by
  obtain⟨e,_,_⟩:=kd_eq hN h5 (i:=(i:Int)) (by omega) (by omega);rw[dO,if_pos (by simp;omega),e];simp only[oZ4,oZ3,j3];by_cases h7:7<=kd ns i
  . grind
  . rw[if_neg (by simpa using h7),aE (by omega)];exact wI k (i+1) (by omega)
include hN h5 in
theorem Ge(h1:1<=ns.length){i code:Int}(hi:0<=i/\i < ns.length)(hc:U8 code):∃u,j4 ((⟨ns⟩:aT),i,code)=some u/\(u < 0\/Tgt ns i u):=by
 have hm:wrp .i64 code=code:=cK ⟨by unfold U8 at hc;omega,by unfold U8 at hc;omega⟩;obtain⟨c1,c2⟩:=hc;have hr0:0<=code % (ns.length:Int):=Int.emod_nonneg _ (by omega);have hr1:code % (ns.length:Int) < ns.length:=Int.emod_lt_of_pos _ (by omega);rw[j4];simp only[oZ4,oZ3];rw[if_pos (nz (by omega)),hm,bF c1 (by omega)]
 obtain⟨e,_,_⟩:=kd_eq hN h5 hr0 hr1;rw[e];simp only[oZ3,j3];by_cases h7:7<=kd ns (code % (ns.length:Int))
 . rw[if_pos (by simp[h7])];exact⟨_,rfl,.inr ⟨hr0,hr1,.inl h7⟩⟩
 . by_cases hlt:code % (ns.length:Int) < i
   . rw[if_pos (by simp[hlt])];exact⟨_,rfl,.inr ⟨hr0,hr1,.inr hlt⟩⟩
   . rw[if_neg (by simp[h7,hlt])];by_cases hp:0 < i
     . rw[if_pos (by simpa using hp),if_pos (by simp;omega),bF hr0 (by omega)];have a0:0<=code % (ns.length:Int) % i:=Int.emod_nonneg _ (by omega);have a1:code % (ns.length:Int) % i < i:=Int.emod_lt_of_pos _ (by omega);exact⟨_,rfl,.inr ⟨a0,by omega,.inr a1⟩⟩
     . rw[if_neg (by simpa using hp)];have h0:=wI hN h5 ns.length 0 (by omega);have e0:dO ((ns.length:Int),((0:Nat):Int),ns)=dO ((ns.length:Int),0,ns):=rfl;rw[e0]at h0;rcases h0 with h | ⟨u,h,a,b,c⟩
       . grind
       . rw[h];exact⟨u,rfl,.inr ⟨a,b,.inl c⟩⟩
def KeyT(ns:List Nd)(u:Int):Prop:=0<=u/\u < ns.length/\1<=kd ns u/\kd ns u<=4
include hN h5 in
theorem zq{code:Int}(hc:U8 code)(h1:1<=ns.length):∀(k i:Nat),i+k=ns.length->(dV (code,(ns.length:Int),(i:Int),ns)=some (.inr ())/\∀m:Nat,i<=m->m < ns.length->¬KeyT ns ((code+m) % (ns.length:Int)))\/∃u:Int,dV (code,(ns.length:Int),(i:Int),ns)=some (.inl u)/\KeyT ns u
 | 0,i,hi=>.inl ⟨by rw[dV,if_neg (by simp;omega)],fun m a b=>by omega⟩
 | k+1,i,hi=>by
  obtain⟨c1,c2⟩:=hc;have hr0:0<=(code+i) % (ns.length:Int):=Int.emod_nonneg _ (by omega);have hr1:(code+i) % (ns.length:Int) < ns.length:=Int.emod_lt_of_pos _ (by omega);obtain⟨e,e1,e9⟩:=kd_eq hN h5 hr0 hr1;rw[dV,if_pos (by simp;omega),if_pos (nz (by omega)),cK ⟨by omega,by omega⟩,cq (by omega) (by omega),bF (by omega) (by omega)]
  simp only[oZ4,oZ3];rw[e];simp only[oZ3,jV];by_cases h4:kd ns ((code+i) % (ns.length:Int))<=4
  . rw[if_pos (by simp[e1,h4])];exact .inr ⟨_,rfl,hr0,hr1,e1,h4⟩
  . rw[if_neg (by simp[h4]),aE (by omega)];rcases zq ⟨c1,c2⟩ h1 k (i+1) (by omega)with⟨a,b⟩ | h
    . refine .inl ⟨a,fun m hm1 hm2=>?_⟩;by_cases hm:m=i
      . subst hm;rintro ⟨_,_,_,h⟩;exact h4 h
      grind
    grind
include hN h5 in
theorem zr{code:Int}(hc:U8 code)(h1:1<=ns.length):∃u,gS ((⟨ns⟩:aT),code)=some u/\((u= -1/\∀w,¬KeyT ns w)\/KeyT ns u):=by
 rw[gS];have h0:=zq hN h5 hc h1 ns.length 0 (by omega);have e0:dV (code,(ns.length:Int),((0:Nat):Int),ns)=dV (code,(ns.length:Int),0,ns):=rfl;rw[e0]at h0;rcases h0 with⟨h,a⟩ | ⟨u,h,a⟩
 . rw[h];refine⟨-1,rfl,.inl ⟨rfl,fun w hw=>?_⟩⟩;have hw':=hw;obtain⟨w0,w1,_⟩:=hw';have hr0:0<=(w - code) % (ns.length:Int):=Int.emod_nonneg _ (by omega);have hr1:(w - code) % (ns.length:Int) < ns.length:=Int.emod_lt_of_pos _ (by omega);refine a ((w - code) % (ns.length:Int)).toNat (by omega) (by omega) ?_
   have e:(code+(((w - code) % (ns.length:Int)).toNat:Int)) % (ns.length:Int)=w:=by
    rw[Int.toNat_of_nonneg hr0,Int.add_emod_emod];have:code+(w - code)=w:=by omega
    rw[this];exact Int.emod_eq_of_lt w0 w1
   grind
 grind
theorem rY{x:Nd}(h:NOk x):eV x=some (x.A % 7 - 3):=by
 have:=h.a;unfold U8 at this;rw[eV,bF this.1 (by omega),cK ⟨by omega,by omega⟩,cX (by omega) (by omega)]
theorem yu{x:Nd}(h:NOk x):gQ x=some (x.A % 7 - 3+x.B % 6):=by
 have ha:=h.a;have hb:=h.b;unfold U8 at ha hb;rw[gQ,rY h];simp only[oZ4,oZ3];rw[bF hb.1 (by omega),cK ⟨by omega,by omega⟩,cq (by omega) (by omega)]
def IdsOk(l:List Int)(n:Int):Prop:=l.Pairwise (· < ·)/\∀x,x∈l->1<=x/\x<=n
theorem rZ{x:Nd}:∀(k i:Nat) (acc:List Int),i+k=6->IdsOk acc i->acc.length<=i->∃l,eS ((i:Int),x,acc)=some l/\IdsOk l 6/\l.length<=6
 | 0,i,acc,hi,ha,hl=>⟨acc,by rw[eS,if_neg (by simp;omega)],⟨ha.1,fun y hy=>by have:=ha.2 y hy;omega⟩,by omega⟩
 | k+1,i,acc,hi,ha,hl=>by
  have hacc:IdsOk acc ((i+1:Nat):Int):=⟨ha.1,fun y hy=>by have:=ha.2 y hy;omega⟩
  rw[eS,if_pos (by simp;omega),if_pos (by simp)];simp only[oZ4,oZ3];rw[aE (by omega)];split
  . rw[if_pos (aX (by omega) (by simp;omega))];refine rZ k (i+1) _ (by omega) ⟨?_,fun y hy=>?_⟩ (by simp;omega)
    . rw[List.pairwise_append];refine⟨ha.1,by simp,fun a h1 b h2=>?_⟩;have:=ha.2 a h1
      grind
    . rcases List.mem_append.1 hy with h | h
      . have:=ha.2 y h;omega
      grind
  . exact rZ k (i+1) acc (by omega) hacc (by omega)
theorem KP(x:Nd):∃l,d6 x=some l/\IdsOk l 6/\1<=l.length/\l.length<=6:=by
 obtain⟨l,h1,h2,h3⟩:=rZ (x:=x) 6 0 [] (by omega) ⟨.nil,fun y hy=>by cases hy⟩ (by simp);have h1':eS (0,x,[])=some l:=h1;rw[d6,h1'];simp only[oZ4,oZ3];cases l with
 | nil=>
  rw[if_pos (by simp),if_pos (aX (by omega) (by simp))];exact⟨_,rfl,⟨by simp,fun y hy=>by simp at hy;omega⟩,by simp,by simp⟩
 | cons a l=>grind
def idsL(x:Nd):List Int:=(d6 x).getD []
theorem ids_eq'(x:Nd):d6 x=some (idsL x)/\IdsOk (idsL x) 6/\1<=(idsL x).length/\(idsL x).length<=6:=by
 obtain⟨l,h1,h2⟩:=KP x;unfold idsL
 grind
def InitP(k:Int)(x:Nd)(key:Prop)(v:ab):Prop:=
 v.Keys=[]/\v.Items=[]/\v.Rest=[]/\
 (k=1/\v.Kind=1/\v.Int_=0/\v.Str=[]/\v.ID=0\/
  k=2/\v.Kind=2/\v.Bool_=false/\v.Str=[]/\v.ID=0/\x.A % 7 - 3<=v.Int_/\v.Int_<=x.A % 7 - 3+x.B % 6\/
  k=3/\v.Kind=3/\v.Bool_=false/\v.Int_=0/\v.ID=0/\(v.Str.length:Int)<=x.A % 4\/
  k=4/\v.Kind=4/\v.Bool_=false/\v.Int_=0/\v.Str=[]/\v.ID∈idsL x\/
  7<=k/\v.Bool_=false/\v.Int_=0/\v.Str=[]/\v.ID=0/\(v.Kind=k/\(k=8->key)\/k=8/\v.Kind=7/\¬key))
def Init(ns:List Nd)(t:Int)(v:ab):Prop:=InitP (kd ns t) (ns.getD t.toNat dNd) (∃w,KeyT ns w) v
include hN h5 in
theorem E4(h1:1<=ns.length){t code:Int}(ht:0<=t/\t < ns.length)(hc:U8 code):∃r,jW ((⟨ns⟩:aT),t,code)=some r/\(r.2=false->r.1=af)/\(r.2=true->Init ns t r.1):=by
 obtain⟨j,rfl⟩:∃j:Nat,t=(j:Int):=⟨t.toNat,by omega⟩
 have hj:j < ns.length:=by omega
 have hx:=hN _ (aB hj dNd);obtain⟨e,k1,k9⟩:=kd_eq hN h5 ht.1 ht.2;obtain⟨u,hu,hu2⟩:=zr hN h5 (code:=0) ⟨by omega,by omega⟩ h1;obtain⟨c1,c2⟩:=hc;rw[jW,if_pos (au hj)];simp only[oZ4,oZ3,az];rw[e];simp only[oZ3];unfold Init;simp only[az];have hids:=ids_eq' (ns.getD j dNd);generalize kd ns (j:Int)=k at*
 generalize ns.getD j dNd=x at*;have ha:=hx.a;have hb:=hx.b;unfold U8 at ha hb;have hc9:k=1\/k=2\/k=3\/k=4\/k=5\/k=6\/k=7\/k=8\/k=9:=by omega
 rcases hc9 with rfl | rfl | rfl | rfl | rfl | rfl | rfl | rfl | rfl
 . exact⟨_,rfl,fun h=>(by cases h),fun _=>by unfold InitP;simp⟩
 . have el:=rY hx;have eh:=yu hx;have e1:addI .i64 (subI .i64 (x.A % 7 - 3+x.B % 6) (x.A % 7 - 3)) 1=x.B % 6+1:=by rw[cX (by omega) (by omega),cq (by omega) (by omega)];omega
   have e2:remI (wrp .i64 code) (x.B % 6+1)=code % (x.B % 6+1):=by rw[cK ⟨by omega,by omega⟩,bF c1 (by omega)]
   have r0:0<=code % (x.B % 6+1):=Int.emod_nonneg _ (by omega);have r1:code % (x.B % 6+1) < x.B % 6+1:=Int.emod_lt_of_pos _ (by omega);have e3:addI .i64 (x.A % 7 - 3) (code % (x.B % 6+1))=x.A % 7 - 3+code % (x.B % 6+1):=cq (by omega) (by omega)
   simp only[Int.reduceEq,decide_false,decide_true,Bool.false_eq_true,if_false,if_true,oZ3,cond_false,cond_true];rw[el];simp only[oZ4,oZ3];rw[eh];simp only[oZ3];rw[e1,if_pos (by simp;omega),e2,e3];exact⟨_,rfl,fun h=>(by cases h),fun _=>by unfold InitP;simp;omega⟩
 . simp only[Int.reduceEq,decide_false,decide_true,Bool.false_eq_true,if_false,if_true,oZ3,cond_false,cond_true];rw[bF ha.1 (by omega),bF c1 (by omega)];by_cases g:0 < x.A % 4
   . by_cases g2:code % 2=1
     . rw[if_pos (by simp[g,g2])];exact⟨_,rfl,fun h=>(by cases h),fun _=>by unfold InitP;simp;omega⟩
     . rw[if_neg (by simp[g2])];exact⟨_,rfl,fun h=>(by cases h),fun _=>by unfold InitP;simp;omega⟩
   . rw[if_neg (by simp[g])];exact⟨_,rfl,fun h=>(by cases h),fun _=>by unfold InitP;simp;omega⟩
 . obtain⟨i1,i2,i3,i4⟩:=hids;simp only[Int.reduceEq,decide_false,decide_true,Bool.false_eq_true,if_false,if_true,oZ3,cond_false,cond_true];rw[i1];simp only[oZ4,oZ3];have r0:0<=code % ((idsL x).length:Int):=Int.emod_nonneg _ (by omega)
   have r1:code % ((idsL x).length:Int) < ((idsL x).length:Int):=Int.emod_lt_of_pos _ (by omega);rw[if_pos (nz (by omega)),cK ⟨by omega,by omega⟩,bF c1 (by omega)];obtain⟨q,hq⟩:∃q:Nat,code % ((idsL x).length:Int)=(q:Int):=⟨(code % ((idsL x).length:Int)).toNat,by omega⟩
   rw[hq,if_pos (au (by omega)),az];exact⟨_,rfl,fun h=>(by cases h),fun _=>by unfold InitP;simp;rw[<-List.getD_eq_getElem?_getD];exact aB (by omega) 0⟩
 . exact⟨_,rfl,fun _=>rfl,fun h=>by cases h⟩
 . exact⟨_,rfl,fun _=>rfl,fun h=>by cases h⟩
 . exact⟨_,rfl,fun h=>(by cases h),fun _=>by unfold InitP;simp⟩
 . simp only[Int.reduceEq,decide_false,decide_true,Bool.false_eq_true,if_false,if_true,oZ3,cond_false,cond_true];rw[hu];rcases hu2 with⟨rfl,a⟩ | a
   . exact⟨_,rfl,fun h=>(by cases h),fun _=>by unfold InitP;simp;exact fun w hw=>a w hw⟩
   . have hge:¬u < 0:=by have:=a.1;omega
     simp only[oZ4,oZ3];rw[if_neg (by simp[hge])];exact⟨_,rfl,fun h=>(by cases h),fun _=>by unfold InitP;simp;exact⟨u,a⟩⟩
 . exact⟨_,rfl,fun h=>(by cases h),fun _=>by unfold InitP;simp⟩
end
section
variable {ns:List Nd} (hN:∀x,x∈ns->NOk x) (h5:ns.length<=5)
structure MemP (ns:List Nd) (i:Int) (record:Bool) (m:aj):Prop where
 id:1<=m.ID/\m.ID<=12
 name:m.Name=[UInt8.ofNat 109,UInt8.ofNat (97+m.ID.toNat)]
 tgt:Tgt ns i m.Type_
 crit:m.Critical=true->m.HasDefault=false
 un:record=false->m.Critical=false/\m.HasDefault=false
 nod:m.HasDefault=false->m.Default=af
 dfl:m.HasDefault=true->Init ns m.Type_ m.Default
include hN h5 in
theorem xx (h1 : 1 <= ns.length) {i : Int} (hi : 0 <= i /\ i < ns.length) {x : Nd} (hx : NOk x) (record : Bool) {id : Int} (hid : 1 <= id /\ id <= 12) {acc : List aj} (ha : acc.length <= 12):
 ∀(k j:Nat),j+k=x.Parts.length->∃l,fM (i,record,id,(j:Int),ns,x,acc)=some (i,record,id,ns,x,acc++l)/\l.length<=1/\∀m,m∈l->m.ID=id/\MemP ns i record m
 | 0,j,hj=>⟨[],by rw[fM,if_neg (by simp;omega)];simp,by simp,fun m hm=>by cases hm⟩
 | k+1,j,hj=>by
  have hlt:j < x.Parts.length:=by omega
  have hr:=aR hx.l;obtain⟨q1,q2,q3⟩:=hx.p _ (aB hlt dPt);obtain⟨u,hu,hu2⟩:=Ge hN h5 h1 hi q2;rw[fM,if_pos (by simp;omega),if_pos (au hlt)];simp only[oZ4,oZ3,az];have hu':j4 ((⟨ns⟩:aT),i,(x.Parts.getD j bP).Type_)=some u:=hu;rw[hu'];simp only[oZ3];generalize hp:x.Parts.getD j bP=p
  have q1':U8 p.ID:=by rw[<-hp];exact q1
  have q3':U8 p.Flag:=by rw[<-hp];exact q3
  obtain⟨f1,f2⟩:=q3';have e1:remI p.Flag 4=p.Flag % 4:=bF f1 (by omega);have e2:quoI .u8 p.Flag 4=p.Flag / 4:=KM f1 f2;have rec':=xx h1 hi hx record hid ha k (j+1) (by omega);by_cases hskip:(bif (!(decide (addI .i64 1 (wrp .i64 (remI p.ID 12))=id)))then true else decide (u < 0))=true
  . rw[if_pos hskip,aE (by omega)];exact rec'
  . rw[if_neg hskip];have hu0:Tgt ns i u:=by grind
    have hrune:=rX (k:=id) ⟨by omega,by omega⟩;rw[hrune];have hname:([109]++[UInt8.ofNat (97+id.toNat)]:List UInt8)=[UInt8.ofNat 109,UInt8.ofNat (97+id.toNat)]:=rfl;rw[if_pos (bm (by simp)),hname,e1,e2];obtain⟨r,r1,r2,r3⟩:=E4 hN h5 h1 ⟨hu0.1,hu0.2.1⟩ (code:=p.Flag / 4) ⟨by omega,by omega⟩
    have hroom:∀m:aj,room 160 (acc++[m]).length=true:=fun m=>aX (by omega) (by simp;omega)
    have done:∀m:aj,m.ID=id->MemP ns i record m->∃l,(some (i,record,id,ns,x,acc++[m]):Option (Int×Bool×Int×List Nd×Nd×List aj))=some (i,record,id,ns,x,acc++l)/\l.length<=1/\∀m,m∈l->m.ID=id/\MemP ns i record m:=fun m a b=>⟨[m],rfl,by simp,fun y hy=>by grind⟩
    cases record with
    | false=>
     simp only[cond_false,Bool.false_eq_true,if_false];rw[if_pos (hroom _)];exact done _ rfl ⟨hid,rfl,hu0,fun h=>(by cases h),fun _=>⟨rfl,rfl⟩,fun _=>rfl,fun h=>by cases h⟩
    | true=>
     simp only[cond_true];by_cases g1:p.Flag % 4=1
     . rw[if_pos (by simpa using g1),if_neg (by simp;omega),if_pos (hroom _)];exact done _ rfl ⟨hid,rfl,hu0,fun _=>rfl,fun h=>(by cases h),fun _=>rfl,fun h=>by cases h⟩
     . rw[if_neg (by simpa using g1)];by_cases g2:2<=p.Flag % 4
       . rw[if_pos (by simpa using g2),r1];simp only[oZ3,ab.aA];rw[if_pos (hroom _)];exact done _ rfl ⟨hid,rfl,hu0,fun h=>(by cases h),fun h=>(by cases h),r2,r3⟩
       . rw[if_neg (by simpa using g2),if_pos (hroom _)];exact done _ rfl ⟨hid,rfl,hu0,fun h=>(by cases h),fun h=>(by cases h),fun _=>rfl,fun h=>by cases h⟩
def MemsP(ns:List Nd)(i:Int)(record:Bool)(l:List aj):Prop:=l.Pairwise (fun a b=>a.ID < b.ID)/\(∀m,m∈l->MemP ns i record m)/\l.length<=12
include hN h5 in
theorem xy (h1 : 1 <= ns.length) {i : Int} (hi : 0 <= i /\ i < ns.length) {x : Nd} (hx : NOk x) (record : Bool): ∀ (k id : Nat) (acc : List aj), id + k = 13 -> 1 <= id ->
 acc.Pairwise (fun a b=>a.ID < b.ID)->(∀m,m∈acc->MemP ns i record m/\m.ID < id)->acc.length < id->∃l,fO (i,record,(id:Int),ns,x,acc)=some l/\MemsP ns i record l
 | 0,id,acc,hk,h0,ha,hb,hl=>⟨acc,by rw[fO,if_neg (by simp;omega)],ha,fun m hm=>(hb m hm).1,by omega⟩
 | k+1,id,acc,hk,h0,ha,hb,hl=>by
  rw[fO,if_pos (by simp;omega)];obtain⟨l,l1,l2,l3⟩:=xx hN h5 h1 hi hx record (id:=(id:Int)) ⟨by omega,by omega⟩ (acc:=acc) (by omega) x.Parts.length 0 (by omega);have l1':fM (i,record,(id:Int),0,ns,x,acc)=_:=l1;rw[l1'];simp only[oZ4,oZ3];rw[aE (by omega)]
  refine xy h1 hi hx record k (id+1) _ (by omega) (by omega) ?_ (fun m hm=>?_) (by simp;omega)
  . rw[List.pairwise_append];refine⟨ha,?_,fun a h2 b h3=>?_⟩
    . match l,l2 with
      | [],_=>exact .nil
      | [a],_=>simp
      | a::b::c,h=>simp at h
    grind
  grind
include hN h5 in
theorem xz(h1:1<=ns.length){i:Int}(hi:0<=i/\i < ns.length)(record:Bool):∃l,gM ((⟨ns⟩:aT),i,record)=some l/\MemsP ns i record l:=by
 obtain⟨j,rfl⟩:∃j:Nat,i=(j:Int):=⟨i.toNat,by omega⟩
 have hj:j < ns.length:=by omega
 have hx:=hN _ (aB hj dNd);obtain⟨l,l1,l2⟩:=xy hN h5 h1 hi hx record 12 1 [] (by omega) (by omega) .nil (fun m hm=>by cases hm) (by simp);refine⟨l,?_,l2⟩;have l1':fO ((j:Int),record,1,ns,ns.getD j dNd,[])=some l:=l1;rw[gM,if_pos (au hj),az]
 grind
def symsL(l:List Int):List aK:=l.map fun j=>⟨j,[UInt8.ofNat 115,UInt8.ofNat (97+j.toNat)]⟩
theorem yv {l : List Int} (hl : l.length <= 6) (hr : ∀ x, x ∈ l -> 1 <= x /\ x <= 6) (n i : Int) (b : List Nd) (b1 : Int) (b2 : List UInt8) (b3 b4 b5 b6 b7 : Int) (b8 : Bool) (b9 : List ae): ∀ (k j : Nat) (acc : List aK), j + k = l.length -> acc.length <= j ->
 eQ (n,i,l,(j:Int),b,b1,b2,b3,b4,b5,b6,b7,b8,b9,acc)=some (n,i,b,b1,b2,b3,b4,b5,b6,b7,b8,b9,acc++symsL (l.drop j))
 | 0,j,acc,hj,ha=>by
  rw[eQ,if_neg (by simp;omega),List.drop_eq_nil_of_le (by omega:l.length<=j)];simp[symsL]
 | k+1,j,acc,hj,ha=>by
  have hlt:j < l.length:=by omega
  have hx:=hr _ (aB hlt 0);rw[eQ,if_pos (by simp;omega),if_pos (au hlt),if_pos (au hlt)];simp only[oZ4,oZ3,az];rw[rX ⟨by omega,by omega⟩,if_pos (bm (by simp)),if_pos (aX (by omega) (by simp;omega)),aE (by omega),yv hl hr n i b b1 b2 b3 b4 b5 b6 b7 b8 b9 k (j+1) _ (by omega) (by simp;omega),bk hlt 0];simp[symsL]
def TyP(ns:List Nd)(i:Int)(t:ae):Prop:=
 let x:=ns.getD i.toNat dNd
 let n:=(ns.length:Int)
 let nameL:=[UInt8.ofNat (65+i.toNat)]
 (kd ns i=1/\t=⟨1,[],0,0,0,[],[],0,0,false⟩)\/
 (kd ns i=2/\t=⟨2,[],x.A % 7 - 3,x.A % 7 - 3+x.B % 6,0,[],[],0,0,false⟩)\/
 (kd ns i=3/\t=⟨3,[],0,0,x.A % 4,[],[],0,0,false⟩)\/
 (kd ns i=4/\∃o,t=⟨4,nameL,0,0,0,symsL (idsL x),[],0,0,o⟩)\/
 (kd ns i=5/\∃l,MemsP ns i true l/\t=⟨5,nameL,0,0,0,[],l,0,0,false⟩)\/
 (kd ns i=6/\t=⟨5,nameL,0,0,0,[],[],0,0,false⟩)\/
 (kd ns i=6/\∃l o,MemsP ns i false l/\0 < l.length/\t=⟨6,nameL,0,0,0,[],l,0,0,o⟩)\/
 (kd ns i=7/\t=⟨7,[],0,0,x.A % 4,[],[],0,x.C % n,false⟩)\/
 (kd ns i=8/\(∀w,¬KeyT ns w)/\t=⟨7,[],0,0,x.A % 4,[],[],0,x.C % n,false⟩)\/
 (kd ns i=8/\∃k,KeyT ns k/\t=⟨8,[],0,0,x.A % 4,[],[],k,x.C % n,false⟩)\/
 (kd ns i=9/\t=⟨9,[],0,0,0,[],[],0,x.C % n,false⟩)
include hN h5 in
theorem of_l0 (h1 : 1 <= ns.length): ∀ (k i : Nat) (acc : List ae), i + k = ns.length -> acc.length = i -> (∀ j, j < i -> TyP ns (j : Int) (acc.getD j ap)) ->
 ∃l,bd ((ns.length:Int),(i:Int),ns,acc)=some l/\l.length=ns.length/\∀j,j < ns.length->TyP ns (j:Int) (l.getD j ap)
 | 0,i,acc,hi,hl,ha=>⟨acc,by rw[bd,if_neg (by simp;omega)],by omega,fun j hj=>ha j (by omega)⟩
 | k+1,i,acc,hi,hl,ha=>by
  have hlt:i < ns.length:=by omega
  have hx:=hN _ (aB hlt dNd);obtain⟨e,k1,k9⟩:=kd_eq hN h5 (i:=(i:Int)) (by omega) (by omega);have next:∀t:ae,TyP ns (i:Int) t->∃l,(if room 120 (acc++[t]).length=true then bd ((ns.length:Int),addI .i64 (i:Int) 1,ns,acc++[t])else none)=some l/\l.length=ns.length/\∀j,j < ns.length->TyP ns (j:Int) (l.getD j ap):=by
   intro t ht;rw[if_pos (aX (by omega) (by simp;omega)),aE (by omega)];refine of_l0 h1 k (i+1) _ (by omega) (by simp;omega) fun j hj=>?_
   grind
  rw[bd,if_pos (by simp;omega),if_pos (au hlt)];simp only[oZ4,oZ3,az];rw[e];simp only[oZ3,ci];have hrune:=KN (k:=(i:Int)) ⟨by omega,by omega⟩;have hT:∀t,TyP ns (i:Int) t->TyP ns (i:Int) t:=fun t h=>h
  have⟨ga,gb,gc⟩:U8 (ns.getD i dNd).A/\U8 (ns.getD i dNd).B/\U8 (ns.getD i dNd).C:=⟨hx.a,hx.b,hx.c⟩
  have g0:(!(decide ((ns.length:Int)=0)))=true:=nz (by omega);have gA:wrp .i64 (remI (ns.getD i dNd).A 4)=(ns.getD i dNd).A % 4:=by
   unfold U8 at ga;rw[bF ga.1 (by omega),cK ⟨by omega,by omega⟩]
  have gC:remI (wrp .i64 (ns.getD i dNd).C) (ns.length:Int)=(ns.getD i dNd).C % (ns.length:Int):=by
   unfold U8 at gc;rw[cK ⟨by omega,by omega⟩,bF gc.1 (by omega)]
  have hc9:kd ns (i:Int)=1\/kd ns (i:Int)=2\/kd ns (i:Int)=3\/kd ns (i:Int)=4\/kd ns (i:Int)=5\/kd ns (i:Int)=6\/kd ns (i:Int)=7\/kd ns (i:Int)=8\/kd ns (i:Int)=9:=by omega
  rcases hc9 with hk | hk | hk | hk | hk | hk | hk | hk | hk <;> rw[hk] <;>
   simp only[Int.reduceEq,decide_false,decide_true,Bool.false_eq_true,if_false,if_true,oZ3,cond_false,cond_true]
  . exact next _ (by unfold TyP;simp[hk])
  . have el:=rY hx;have eh:=yu hx;have el':eV (ns.getD i aw)=_:=el;have eh':gQ (ns.getD i aw)=_:=eh;rw[el'];simp only[oZ3];rw[eh'];simp only[oZ3];exact next _ (by unfold TyP;simp only[az];exact .inr (.inl ⟨hk,by first | trivial | rfl⟩))
  . have gA':wrp .i64 (remI (ns.getD i aw).A 4)=_:=gA;rw[gA'];exact next _ (by unfold TyP;simp only[az];exact .inr (.inr (.inl ⟨hk,by first | trivial | rfl⟩)))
  . obtain⟨i1,i2,i3,i4⟩:=ids_eq' (ns.getD i dNd);have i1':d6 (ns.getD i aw)=_:=i1;rw[i1'];simp only[oZ3];have hs:=yv (l:=idsL (ns.getD i dNd)) i4 i2.2 (ns.length:Int) (i:Int) ns 4 (dC (wrp .i32 (addI .i64 65 (i:Int)))) 0 0 0 0 0 (decide (remI (ns.getD i dNd).B 2=1)) acc (idsL (ns.getD i dNd)).length 0 [] (by omega) (by simp)
    have hs':eQ ((ns.length:Int),(i:Int),idsL (ns.getD i dNd),0,ns,4,dC (wrp .i32 (addI .i64 65 (i:Int))),0,0,0,0,0,decide (remI (ns.getD i aw).B 2=1),acc,[])=_:=hs;rw[hs'];simp only[oZ3,List.drop_zero,List.nil_append];rw[hrune];exact next _ (by unfold TyP;simp only[az];exact .inr (.inr (.inr (.inl ⟨hk,_,rfl⟩))))
  . obtain⟨l,l1,l2⟩:=xz hN h5 h1 (i:=(i:Int)) ⟨by omega,by omega⟩ true;rw[l1];simp only[oZ3];rw[hrune];exact next _ (by unfold TyP;simp only[az];exact .inr (.inr (.inr (.inr (.inl ⟨hk,l,l2,rfl⟩)))))
  . obtain⟨l,l1,l2⟩:=xz hN h5 h1 (i:=(i:Int)) ⟨by omega,by omega⟩ false;rw[l1];simp only[oZ3];rw[hrune];by_cases h0:l.length=0
    . rw[if_pos (by simp[h0])];exact next _ (by unfold TyP;simp only[az];exact .inr (.inr (.inr (.inr (.inr (.inl ⟨hk,by first | trivial | rfl⟩))))))
    . rw[if_neg (by simp;intro h;rw[h]at h0;simp at h0)];exact next _ (by unfold TyP;simp only[az];exact .inr (.inr (.inr (.inr (.inr (.inr (.inl ⟨hk,l,_,l2,by omega,rfl⟩)))))))
  . have gA':wrp .i64 (remI (ns.getD i aw).A 4)=_:=gA;have gC':remI (wrp .i64 (ns.getD i aw).C) (ns.length:Int)=_:=gC;rw[if_pos g0,gA',gC'];exact next _ (by unfold TyP;simp only[az];exact .inr (.inr (.inr (.inr (.inr (.inr (.inr (.inl ⟨hk,by first | trivial | rfl⟩))))))))
  . have gA':wrp .i64 (remI (ns.getD i aw).A 4)=_:=gA;have gC':remI (wrp .i64 (ns.getD i aw).C) (ns.length:Int)=_:=gC;obtain⟨u,u1,u2⟩:=zr hN h5 gb h1;have u1':gS ((⟨ns⟩:aT),(ns.getD i aw).B)=some u:=u1;rw[u1'];simp only[oZ3];rw[if_pos g0,gA',gC'];rcases u2 with⟨rfl,a⟩ | a
    . rw[if_pos (by simp)];exact next _ (by unfold TyP;simp only[az];exact .inr (.inr (.inr (.inr (.inr (.inr (.inr (.inr (.inl ⟨hk,a,by first | trivial | rfl⟩)))))))))
    . rw[if_neg (by have:=a.1;simp;omega)];exact next _ (by unfold TyP;simp only[az];exact .inr (.inr (.inr (.inr (.inr (.inr (.inr (.inr (.inr (.inl ⟨hk,u,a,rfl⟩))))))))))
  . have gC':remI (wrp .i64 (ns.getD i aw).C) (ns.length:Int)=_:=gC;rw[if_pos g0,gC'];exact next _ (by unfold TyP;simp only[az];exact .inr (.inr (.inr (.inr (.inr (.inr (.inr (.inr (.inr (.inr ⟨hk,by first | trivial | rfl⟩))))))))))
end
def DOk(d:aT):Prop:=d.Nodes.length<=reachBytes/\∀x,x∈d.Nodes->NOk x
theorem of_eq{d:aT}(hd:DOk d):f9 d=some (⟨[]⟩,false)\/∃l,f9 d=some (⟨l⟩,true)/\1<=d.Nodes.length/\d.Nodes.length<=5/\l.length=d.Nodes.length/\∀j,j < d.Nodes.length->TyP d.Nodes (j:Int) (l.getD j ap):=by
 rw[f9];simp only[oZ4,oZ3];by_cases h:1<=d.Nodes.length/\d.Nodes.length<=5
 . obtain⟨l,l1,l2,l3⟩:=of_l0 hd.2 h.2 h.1 d.Nodes.length 0 [] (by omega) rfl (fun j hj=>by omega)
   grind
 grind
end
end Go.Proofs.YtandcioiaooocaaGreat
