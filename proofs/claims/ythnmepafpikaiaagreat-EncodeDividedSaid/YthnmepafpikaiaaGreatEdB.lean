/- The functions of the program as functions of Lean, that its code does what they say, and what they answer; part B. -/
import Derived.Test.YthnmepafpikaiaaGreatEdA

namespace Go.Proofs.YthnmepafpikaiaaGreat
set_option linter.all false
section
open Go Go.Proofs.YthnmepafpikaiaaGreat.Shv
open Tryz
set_option maxRecDepth 100000
def g2v(x_:SType × List SType × List Int × Bool) :Option (Int × List SType × List Int × Bool):=
 match x_ with
 | (t,b,b_1,b_2)=>
 g1a (14,b,b_1,b_2) >>=fun r=>
 g3o (addI .i64 1 r.1,r.2.1,r.2.2.1,r.2.2.2,t) >>=fun o=>
 some (o.1,o.2.1,o.2.2.1,o.2.2.2)
def gol(F:Hs Un.D [.nm 3,.slice (.nm 3),.slice (.int .u8),.bool]→Option (Hs Un.D [.int .i64,.slice (.nm 3),.slice (.int .u8),.bool])) :FSpec Un:=⟨92,[.c (.ptr 0 0),.row 3],[.box [.hole (.slice (.nm 3)),.hole (.slice (.int .u8)),.hole .bool]],[.nm 3,.slice (.nm 3),.slice (.int .u8),.bool],.c (.hole (.int .i64)),[.box [.hole (.slice (.nm 3)),.hole (.slice (.int .u8)),.hole .bool]],[.int .i64,.slice (.nm 3),.slice (.int .u8),.bool],F⟩
def g9y :FSpec Un:=gol g2v
theorem gmp :FSnd prog g9y:=FSnd.of fun h r hr=>FAt.of_body (s:=g9y) (fo:=foS [g2m]) (lo:=loL [(0,gcj)]) func92 g1q5 g1mh (by kernel_rfl) (FoSnd.cons F89_b g39 FoSnd.nil) (LoOk.snd (LoOk.cons gke LoOk.nil)) (Eq.trans (by kernel_rfl) hr)
def g60(x_:Int × List SType × List Int × Bool) :Option (SRaw × List SType × List Int × Bool):=
 match x_ with
 | (n,b,b_1,b_2)=>
 some [[],[1],[97],[3,1,2]] >>=fun t6=>
 g1a (4,b,b_1,b_2) >>=fun r=>
 if inR r.1 t6.length=true then
 some ((⟨n,t6.getD r.1.toNat []⟩:SRaw),r.2.1,r.2.2.1,r.2.2.2)
 else none
theorem F93_b :gg prog 93=true:=by kernel_rfl
theorem g1q6 :f93.body.bind (Shv.resolve prog f93.ntmps)=some (g6 prog f93):=by kernel_rfl
theorem g1mi :g7 prog f93.results.toList=some [.cell 4 true 2]:=by kernel_rfl
def gsv(F:Hs Un.D [.int .i64,.slice (.nm 3),.slice (.int .u8),.bool]→Option (Hs Un.D [.nm 2,.slice (.nm 3),.slice (.int .u8),.bool])) :FSpec Un:=⟨93,[.c (.ptr 0 0),.c (.hole (.int .i64))],[.box [.hole (.slice (.nm 3)),.hole (.slice (.int .u8)),.hole .bool]],[.int .i64,.slice (.nm 3),.slice (.int .u8),.bool],.row 2,[.box [.hole (.slice (.nm 3)),.hole (.slice (.int .u8)),.hole .bool]],[.nm 2,.slice (.nm 3),.slice (.int .u8),.bool],F⟩
def gbw :FSpec Un:=gsv g60
theorem gql :FSnd prog gbw:=FSnd.of fun h r hr=>FAt.of_body (s:=gbw) (fo:=foS [g2m]) (lo:=loL []) func93 g1q6 g1mi (by kernel_rfl) (FoSnd.cons F89_b g39 FoSnd.nil) (LoOk.snd LoOk.nil) (Eq.trans (by kernel_rfl) hr)
def g29(x_:Bool × Bool) :Option (Int):=
 match x_ with
 | (less,equal)=>
 if equal=true then
 some 0
 else
 if less=true then
 some (-1)
 else
 some 1
theorem g1q7 :gg prog 154=true:=by kernel_rfl
theorem g1mj :f154.body.bind (Shv.resolve prog f154.ntmps)=some (g6 prog f154):=by kernel_rfl
theorem g1iv :g7 prog f154.results.toList=some [.tmp 4]:=by kernel_rfl
def gye(F:Hs Un.D [.bool,.bool]→Option (Hs Un.D [.int .i64])) :FSpec Un:=⟨154,[.c (.hole .bool),.c (.hole .bool)],[],[.bool,.bool],.c (.hole (.int .i64)),[],[.int .i64],F⟩
def gg5 :FSpec Un:=gye g29
theorem gvt :FSnd prog gg5:=FSnd.of fun h r hr=>FAt.of_body (s:=gg5) (fo:=foS []) (lo:=loL []) func154 g1mj g1iv (by kernel_rfl) FoSnd.nil (LoOk.snd LoOk.nil) (Eq.trans (by kernel_rfl) hr)
def g3x(x_:SValue × SValue) :Option (Int):=
 match x_ with
 | (a,b)=>
 if(!(decide (a.Kind=b.Kind)))=true then
 some 0
 else
 if decide (a.Kind=1)=true then
 g29 (b.Bool_,eqB a.Bool_ b.Bool_) >>=fun r=>
 some r
 else
 if decide (a.Kind=2)=true then
 g7o a.Int_ >>=fun r_1=>
 g7o b.Int_ >>=fun r_2=>
 g29 (decide (r_1 < r_2),decide (a.Int_=b.Int_)) >>=fun r_3=>
 some r_3
 else
 if decide (a.Kind=3)=true then
 if(!(decide ((a.Str.length:Int)=(b.Str.length:Int))))=true then
 g29 (decide ((a.Str.length:Int) < (b.Str.length:Int)),false) >>=fun r_4=>
 some r_4
 else
 g29 (Op.bytesLess a.Str b.Str,decide (a.Str=b.Str)) >>=fun r_5=>
 some r_5
 else
 if decide (a.Kind=4)=true then
 g29 (decide (a.ID < b.ID),decide (a.ID=b.ID)) >>=fun r_6=>
 some r_6
 else
 some 0
theorem g1ft :gg prog 131=true:=by kernel_rfl
theorem g1mk :f131.body.bind (Shv.resolve prog f131.ntmps)=some (g6 prog f131):=by kernel_rfl
theorem g1iw :g7 prog f131.results.toList=some [.tmp 4]:=by kernel_rfl
def gvu(F:Hs Un.D [.nm 1,.nm 1]→Option (Hs Un.D [.int .i64])) :FSpec Un:=⟨131,[.row 1,.row 1],[],[.nm 1,.nm 1],.c (.hole (.int .i64)),[],[.int .i64],F⟩
def g9z :FSpec Un:=gvu g3x
theorem gin :FSnd prog g9z:=FSnd.of fun h r hr=>FAt.of_body (s:=g9z) (fo:=foS [gg5,gf4]) (lo:=loL []) func131 g1mk g1iw (by kernel_rfl) (FoSnd.cons g1q7 gvt (FoSnd.cons g1q0 gui FoSnd.nil)) (LoOk.snd LoOk.nil) (Eq.trans (by kernel_rfl) hr)
def g58(x_:Int × SValue × SValue × SValue × Int × Bool × Int × List UInt8 × Int) :Option (Int × SValue × SValue × SValue × Int × Bool × Int × List UInt8 × Int):=
 match x_ with
 | (i_1,b_8,b_9,b_10,b_11,b_12,b_13,b_14,b_15)=>
 some (decide (i_1 < (b_8.Keys.length:Int))) >>=fun t12=>
 if(inR i_1 b_8.Keys.length || (!t12))=true then
 (if t12=true then g3x (SValue.eta (b_8.Keys.getD i_1.toNat dSValue),SValue.eta b_9)else some 0) >>=fun r_1=>
 if(bif t12 then decide (r_1 < 0)else false)=true then
 g58 (addI .i64 i_1 1,SValue.eta b_8,SValue.eta b_9,SValue.eta b_10,b_11,b_12,b_13,b_14,b_15)
 else
 some (i_1,SValue.eta b_8,SValue.eta b_9,SValue.eta b_10,b_11,b_12,b_13,b_14,b_15)
 else none
  partial_fixpoint
theorem F94_b :gg prog 94=true:=by kernel_rfl
theorem g1q8 :f94.body.bind (Shv.resolve prog f94.ntmps)=some (g6 prog f94):=by kernel_rfl
theorem g1ml :g7 prog f94.results.toList=some [.cell 6 true 8]:=by kernel_rfl
def gkt :Shape:=⟨[(3,.c (.ptr 0 0)),(4,.c (.ptr 1 0)),(5,.c (.ptr 2 0)),(6,.c (.ptr 3 0)),(7,.c (.hole (.int .i64)))],[.brow 1,.brow 1,.brow 1,.box [.hole (.int .i64),.hole .bool,.hole (.int .i64),.hole .str,.hole (.int .i64),.cap0,.cap0,.cap0]]⟩
def gdx :List Ty:=[.int .i64,.nm 1,.nm 1,.nm 1,.int .i64,.bool,.int .i64,.str,.int .i64]
def gbx :List OSpec:=[⟨.exit 0,⟨[(3,.c (.ptr 0 0)),(4,.c (.ptr 1 0)),(5,.c (.ptr 2 0)),(6,.c (.ptr 3 0)),(7,.c (.hole (.int .i64)))],[.brow 1,.brow 1,.brow 1,.box [.hole (.int .i64),.hole .bool,.hole (.int .i64),.hole .str,.hole (.int .i64),.cap0,.cap0,.cap0]]⟩,[],[.int .i64,.nm 1,.nm 1,.nm 1,.int .i64,.bool,.int .i64,.str,.int .i64]⟩]
def gx2(F:Hs Un.D gdx→Option (OSum Un gbx)) :LSpec Un:=⟨gkt,[],gdx,gbx,F⟩
def glz :LSpec Un:=gx2 g58
theorem guj :LSnd prog f94.ntmps 0 (gn (g6 prog f94) 0) glz:=fun h o ho=>g58.partial_correctness (fun h o=>LAt (U:=Un) prog f94.ntmps 0 (gn (g6 prog f94) 0) gkt gdx gbx h o) (fun F1 HF1 h o ho=>LAt.of_round (fo:=foS [g9z]) (lo:=loL []) (own:=[]) (F':=F1) (FoSnd.cons g1ft gin FoSnd.nil) (LoOk.snd LoOk.nil) HF1 (Eq.trans (by kernel_rfl) ho)) h o ho
def ggr(x_:SValue × SValue × SValue) :Option (SValue):=
 match x_ with
 | (v,key,item)=>
 g58 (0,SValue.eta v,SValue.eta key,SValue.eta item,0,false,0,[],0) >>=fun o=>
 some (decide (o.1 < (o.2.1.Keys.length:Int))) >>=fun t29=>
 if(inR o.1 o.2.1.Keys.length || (!t29))=true then
 (if t29=true then g3x (SValue.eta (o.2.1.Keys.getD o.1.toNat dSValue),SValue.eta o.2.2.1)else some 0) >>=fun r=>
 if(bif t29 then decide (r=0)else false)=true then
 some (SValue.eta o.2.1)
 else
 if slR 0 o.1 o.2.1.Keys.length=true then
 some (cutL o.2.1.Keys 0 o.1) >>=fun t45=>
 if room 120 ([]++t45).length=true then
 some ([]++t45) >>=fun l=>
 some [SValue.eta o.2.2.1] >>=fun t48=>
 if room 120 (l++t48).length=true then
 some (l++t48) >>=fun l_1=>
 if slR o.1 (o.2.1.Keys.length:Int) o.2.1.Keys.length=true then
 some (cutL o.2.1.Keys o.1 (o.2.1.Keys.length:Int)) >>=fun t53=>
 if room 120 (l_1++t53).length=true then
 if slR 0 o.1 o.2.1.Items.length=true then
 some (cutL o.2.1.Items 0 o.1) >>=fun t60=>
 if room 120 ([]++t60).length=true then
 some ([]++t60) >>=fun l_3=>
 some [SValue.eta o.2.2.2.1] >>=fun t63=>
 if room 120 (l_3++t63).length=true then
 some (l_3++t63) >>=fun l_4=>
 if slR o.1 (o.2.1.Items.length:Int) o.2.1.Items.length=true then
 some (cutL o.2.1.Items o.1 (o.2.1.Items.length:Int)) >>=fun t68=>
 if room 120 (l_4++t68).length=true then
 some (⟨o.2.1.Kind,o.2.1.Bool_,o.2.1.Int_,o.2.1.Str,o.2.1.ID,l_1++t53,l_4++t68,o.2.1.Rest⟩:SValue)
 else none
 else none
 else none
 else none
 else none
 else none
 else none
 else none
 else none
 else none
 else none
def g119(F:Hs Un.D [.nm 1,.nm 1,.nm 1]→Option (Hs Un.D [.nm 1])) :FSpec Un:=⟨94,[.row 1,.row 1,.row 1],[],[.nm 1,.nm 1,.nm 1],.row 1,[],[.nm 1],F⟩
def giu :FSpec Un:=g119 ggr
theorem gyf :FSnd prog giu:=FSnd.of fun h r hr=>FAt.of_body (s:=giu) (fo:=foS [g9z]) (lo:=loL [(0,glz)]) func94 g1q8 g1ml (by kernel_rfl) (FoSnd.cons g1ft gin FoSnd.nil) (LoOk.snd (LoOk.cons guj LoOk.nil)) (Eq.trans (by kernel_rfl) hr)
mutual
def g1e(x_:Int × List SType × List Int × Bool) :Option (SValue × List SType × List Int × Bool):=
 match x_ with
 | (t,b,b_1,b_2)=>
 if inR t b.length=true then
 some (b.getD t.toNat dSType) >>=fun x0=>
 if decide (x0.Kind=1)=true then
 g1a (2,b,b_1,b_2) >>=fun r=>
 some ((⟨x0.Kind,decide (r.1=1),0,[],0,[],[],[]⟩:SValue),r.2.1,r.2.2.1,r.2.2.2)
 else
 if decide (x0.Kind=2)=true then
 g1a (256,b,b_1,b_2) >>=fun r_5=>
 some (addI .i64 (subI .i64 x0.High x0.Low) 1) >>=fun t51=>
 if(!(decide (t51=0)))=true then
 some ((⟨x0.Kind,false,addI .i64 x0.Low (remI r_5.1 t51),[],0,[],[],[]⟩:SValue),r_5.2.1,r_5.2.2.1,r_5.2.2.2)
 else none
 else
 if decide (x0.Kind=3)=true then
 g9n (x0.Max,b,b_1,b_2) >>=fun r_10=>
 some ((⟨x0.Kind,false,0,r_10.1,0,[],[],[]⟩:SValue),r_10.2.1,r_10.2.2.1,r_10.2.2.2)
 else
 if decide (x0.Kind=4)=true then
 g1a ((x0.Symbols.length:Int),b,b_1,b_2) >>=fun r_15=>
 if inR r_15.1 x0.Symbols.length=true then
 some (x0.Symbols.getD r_15.1.toNat dSSymbol) >>=fun x0_1=>
 if x0.Open=true then
 g5z (r_15.2.1,r_15.2.2.1,r_15.2.2.2) >>=fun r_20=>
 if(bif x0.Open then r_20.1 else false)=true then
 g2v (x0,r_20.2.1,r_20.2.2.1,r_20.2.2.2) >>=fun r_25=>
 some ((⟨x0.Kind,false,0,[],r_25.1,[],[],[]⟩:SValue),r_25.2.1,r_25.2.2.1,r_25.2.2.2)
 else
 some ((⟨x0.Kind,false,0,[],x0_1.ID,[],[],[]⟩:SValue),r_20.2.1,r_20.2.2.1,r_20.2.2.2)
 else
 if(bif x0.Open then false else false)=true then
 g2v (x0,r_15.2.1,r_15.2.2.1,r_15.2.2.2) >>=fun r_30=>
 some ((⟨x0.Kind,false,0,[],r_30.1,[],[],[]⟩:SValue),r_30.2.1,r_30.2.2.1,r_30.2.2.2)
 else
 some ((⟨x0.Kind,false,0,[],x0_1.ID,[],[],[]⟩:SValue),r_15.2.1,r_15.2.2.1,r_15.2.2.2)
 else none
 else
 if decide (x0.Kind=5)=true then
 g1m (0,b,b_1,b_2,0,false,0,[],0,x0.Kind,x0.Name,x0.Low,x0.High,x0.Max,x0.Symbols,x0.Members,x0.Key,x0.Elem,x0.Open,x0.Kind,false,0,[],0,[]) >>=fun o=>
 g5z (o.1,o.2.1,o.2.2.1) >>=fun r_35=>
 if r_35.1=true then
 g2v ((⟨o.2.2.2.2.2.2.2.2.1,o.2.2.2.2.2.2.2.2.2.1,o.2.2.2.2.2.2.2.2.2.2.1,o.2.2.2.2.2.2.2.2.2.2.2.1,o.2.2.2.2.2.2.2.2.2.2.2.2.1,o.2.2.2.2.2.2.2.2.2.2.2.2.2.1,o.2.2.2.2.2.2.2.2.2.2.2.2.2.2.1,o.2.2.2.2.2.2.2.2.2.2.2.2.2.2.2.1,o.2.2.2.2.2.2.2.2.2.2.2.2.2.2.2.2.1,o.2.2.2.2.2.2.2.2.2.2.2.2.2.2.2.2.2.1⟩:SType),r_35.2.1,r_35.2.2.1,r_35.2.2.2) >>=fun r_40=>
 g60 (r_40.1,r_40.2.1,r_40.2.2.1,r_40.2.2.2) >>=fun r_45=>
 some ((⟨o.2.2.2.2.2.2.2.2.2.2.2.2.2.2.2.2.2.2.1,o.2.2.2.2.2.2.2.2.2.2.2.2.2.2.2.2.2.2.2.1,o.2.2.2.2.2.2.2.2.2.2.2.2.2.2.2.2.2.2.2.2.1,o.2.2.2.2.2.2.2.2.2.2.2.2.2.2.2.2.2.2.2.2.2.1,o.2.2.2.2.2.2.2.2.2.2.2.2.2.2.2.2.2.2.2.2.2.2.1,[],o.2.2.2.2.2.2.2.2.2.2.2.2.2.2.2.2.2.2.2.2.2.2.2,[r_45.1]⟩:SValue),r_45.2.1,r_45.2.2.1,r_45.2.2.2)
 else
 some ((⟨o.2.2.2.2.2.2.2.2.2.2.2.2.2.2.2.2.2.2.1,o.2.2.2.2.2.2.2.2.2.2.2.2.2.2.2.2.2.2.2.1,o.2.2.2.2.2.2.2.2.2.2.2.2.2.2.2.2.2.2.2.2.1,o.2.2.2.2.2.2.2.2.2.2.2.2.2.2.2.2.2.2.2.2.2.1,o.2.2.2.2.2.2.2.2.2.2.2.2.2.2.2.2.2.2.2.2.2.2.1,[],o.2.2.2.2.2.2.2.2.2.2.2.2.2.2.2.2.2.2.2.2.2.2.2,[]⟩:SValue),r_35.2.1,r_35.2.2.1,r_35.2.2.2)
 else
 if decide (x0.Kind=6)=true then
 if x0.Open=true then
 g5z (b,b_1,b_2) >>=fun r_50=>
 if(bif x0.Open then r_50.1 else false)=true then
 g2v (x0,r_50.2.1,r_50.2.2.1,r_50.2.2.2) >>=fun r_55=>
 g60 (r_55.1,r_55.2.1,r_55.2.2.1,r_55.2.2.2) >>=fun r_60=>
 some ((⟨x0.Kind,false,0,[],r_55.1,[],[],[r_60.1]⟩:SValue),r_60.2.1,r_60.2.2.1,r_60.2.2.2)
 else
 g1a ((x0.Members.length:Int),r_50.2.1,r_50.2.2.1,r_50.2.2.2) >>=fun r_65=>
 if inR r_65.1 x0.Members.length=true then
 some (x0.Members.getD r_65.1.toNat dSMember) >>=fun x0_2=>
 g1e (x0_2.Type_,r_65.2.1,r_65.2.2.1,r_65.2.2.2) >>=fun r_70=>
 some ((⟨x0.Kind,false,0,[],x0_2.ID,[],[SValue.eta r_70.1],[]⟩:SValue),r_70.2.1,r_70.2.2.1,r_70.2.2.2)
 else none
 else
 if(bif x0.Open then false else false)=true then
 g2v (x0,b,b_1,b_2) >>=fun r_75=>
 g60 (r_75.1,r_75.2.1,r_75.2.2.1,r_75.2.2.2) >>=fun r_80=>
 some ((⟨x0.Kind,false,0,[],r_75.1,[],[],[r_80.1]⟩:SValue),r_80.2.1,r_80.2.2.1,r_80.2.2.2)
 else
 g1a ((x0.Members.length:Int),b,b_1,b_2) >>=fun r_85=>
 if inR r_85.1 x0.Members.length=true then
 some (x0.Members.getD r_85.1.toNat dSMember) >>=fun x0_3=>
 g1e (x0_3.Type_,r_85.2.1,r_85.2.2.1,r_85.2.2.2) >>=fun r_90=>
 some ((⟨x0.Kind,false,0,[],x0_3.ID,[],[SValue.eta r_90.1],[]⟩:SValue),r_90.2.1,r_90.2.2.1,r_90.2.2.2)
 else none
 else
 if decide (x0.Kind=7)=true then
 g1a (addI .i64 (minI x0.Max 3) 1,b,b_1,b_2) >>=fun r_95=>
 g2p (r_95.1,r_95.2.1,r_95.2.2.1,r_95.2.2.2,0,false,0,[],0,x0.Kind,x0.Name,x0.Low,x0.High,x0.Max,x0.Symbols,x0.Members,x0.Key,x0.Elem,x0.Open,x0.Kind,false,0,[],0,[]) >>=fun o_1=>
 some ((⟨o_1.2.2.2.2.2.2.2.2.1,o_1.2.2.2.2.2.2.2.2.2.1,o_1.2.2.2.2.2.2.2.2.2.2.1,o_1.2.2.2.2.2.2.2.2.2.2.2.1,o_1.2.2.2.2.2.2.2.2.2.2.2.2.1,[],o_1.2.2.2.2.2.2.2.2.2.2.2.2.2,[]⟩:SValue),o_1.1,o_1.2.1,o_1.2.2.1)
 else
 if decide (x0.Kind=8)=true then
 g1a (addI .i64 (minI x0.Max 3) 1,b,b_1,b_2) >>=fun r_100=>
 g2q (r_100.1,r_100.2.1,r_100.2.2.1,r_100.2.2.2,0,false,0,[],0,x0.Kind,x0.Name,x0.Low,x0.High,x0.Max,x0.Symbols,x0.Members,x0.Key,x0.Elem,x0.Open,x0.Kind,false,0,[],0,[],[],[]) >>=fun o_2=>
 some ((⟨o_2.2.2.2.2.2.2.2.2.1,o_2.2.2.2.2.2.2.2.2.2.1,o_2.2.2.2.2.2.2.2.2.2.2.1,o_2.2.2.2.2.2.2.2.2.2.2.2.1,o_2.2.2.2.2.2.2.2.2.2.2.2.2.1,o_2.2.2.2.2.2.2.2.2.2.2.2.2.2.1,o_2.2.2.2.2.2.2.2.2.2.2.2.2.2.2.1,o_2.2.2.2.2.2.2.2.2.2.2.2.2.2.2.2⟩:SValue),o_2.1,o_2.2.1,o_2.2.2.1)
 else
 g1a (2,b,b_1,b_2) >>=fun r_105=>
 if decide (r_105.1=1)=true then
 g1e (x0.Elem,r_105.2.1,r_105.2.2.1,r_105.2.2.2) >>=fun r_110=>
 some ((⟨x0.Kind,false,0,[],0,[],[SValue.eta r_110.1],[]⟩:SValue),r_110.2.1,r_110.2.2.1,r_110.2.2.2)
 else
 some ((⟨x0.Kind,false,0,[],0,[],[],[]⟩:SValue),r_105.2.1,r_105.2.2.1,r_105.2.2.2)
 else none
  partial_fixpoint
def g1m(x_:Int × List SType × List Int × Bool × Int × Bool × Int × List UInt8 × Int × Int × List UInt8 × Int × Int × Int × List SSymbol × List SMember × Int × Int × Bool × Int × Bool × Int × List UInt8 × Int × List SValue) :Option (List SType × List Int × Bool × Int × Bool × Int × List UInt8 × Int × Int × List UInt8 × Int × Int × Int × List SSymbol × List SMember × Int × Int × Bool × Int × Bool × Int × List UInt8 × Int × List SValue):=
 match x_ with
 | (i,b_57,b_58,b_59,b_60,b_61,b_62,b_63,b_64,b_65,b_66,b_67,b_68,b_69,b_70,b_71,b_72,b_73,b_74,b_75,b_76,b_77,b_78,b_79,b_80)=>
 if decide (i < (b_71.length:Int))=true then
 if inR i b_71.length=true then
 some (b_71.getD i.toNat dSMember) >>=fun x0_4=>
 if x0_4.HasDefault=true then
 g1a (3,b_57,b_58,b_59) >>=fun r_115=>
 if(bif x0_4.HasDefault then decide (r_115.1=0)else false)=true then
 if inR i b_71.length=true then
 some [SValue.eta (b_71.getD i.toNat dSMember).Default] >>=fun t113=>
 if room 120 (b_80++t113).length=true then
 g1m (addI .i64 i 1,r_115.2.1,r_115.2.2.1,r_115.2.2.2,b_60,b_61,b_62,b_63,b_64,b_65,b_66,b_67,b_68,b_69,b_70,b_71,b_72,b_73,b_74,b_75,b_76,b_77,b_78,b_79,b_80++t113)
 else none
 else none
 else
 if inR i b_71.length=true then
 g1e ((b_71.getD i.toNat dSMember).Type_,r_115.2.1,r_115.2.2.1,r_115.2.2.2) >>=fun r_120=>
 some [SValue.eta r_120.1] >>=fun t126=>
 if room 120 (b_80++t126).length=true then
 g1m (addI .i64 i 1,r_120.2.1,r_120.2.2.1,r_120.2.2.2,b_60,b_61,b_62,b_63,b_64,b_65,b_66,b_67,b_68,b_69,b_70,b_71,b_72,b_73,b_74,b_75,b_76,b_77,b_78,b_79,b_80++t126)
 else none
 else none
 else
 if(bif x0_4.HasDefault then false else false)=true then
 if inR i b_71.length=true then
 some [SValue.eta (b_71.getD i.toNat dSMember).Default] >>=fun t113_1=>
 if room 120 (b_80++t113_1).length=true then
 g1m (addI .i64 i 1,b_57,b_58,b_59,b_60,b_61,b_62,b_63,b_64,b_65,b_66,b_67,b_68,b_69,b_70,b_71,b_72,b_73,b_74,b_75,b_76,b_77,b_78,b_79,b_80++t113_1)
 else none
 else none
 else
 if inR i b_71.length=true then
 g1e ((b_71.getD i.toNat dSMember).Type_,b_57,b_58,b_59) >>=fun r_125=>
 some [SValue.eta r_125.1] >>=fun t126_1=>
 if room 120 (b_80++t126_1).length=true then
 g1m (addI .i64 i 1,r_125.2.1,r_125.2.2.1,r_125.2.2.2,b_60,b_61,b_62,b_63,b_64,b_65,b_66,b_67,b_68,b_69,b_70,b_71,b_72,b_73,b_74,b_75,b_76,b_77,b_78,b_79,b_80++t126_1)
 else none
 else none
 else none
 else
 some (b_57,b_58,b_59,b_60,b_61,b_62,b_63,b_64,b_65,b_66,b_67,b_68,b_69,b_70,b_71,b_72,b_73,b_74,b_75,b_76,b_77,b_78,b_79,b_80)
  partial_fixpoint
def g2p(x_:Int × List SType × List Int × Bool × Int × Bool × Int × List UInt8 × Int × Int × List UInt8 × Int × Int × Int × List SSymbol × List SMember × Int × Int × Bool × Int × Bool × Int × List UInt8 × Int × List SValue) :Option (List SType × List Int × Bool × Int × Bool × Int × List UInt8 × Int × Int × Bool × Int × List UInt8 × Int × List SValue):=
 match x_ with
 | (n,b_81,b_82,b_83,b_84,b_85,b_86,b_87,b_88,b_89,b_90,b_91,b_92,b_93,b_94,b_95,b_96,b_97,b_98,b_99,b_100,b_101,b_102,b_103,b_104)=>
 if decide (0 < n)=true then
 g1e (b_97,b_81,b_82,b_83) >>=fun r_130=>
 some [SValue.eta r_130.1] >>=fun t193=>
 if room 120 (b_104++t193).length=true then
 g2p (subI .i64 n 1,r_130.2.1,r_130.2.2.1,r_130.2.2.2,b_84,b_85,b_86,b_87,b_88,b_89,b_90,b_91,b_92,b_93,b_94,b_95,b_96,b_97,b_98,b_99,b_100,b_101,b_102,b_103,b_104++t193)
 else none
 else
 some (b_81,b_82,b_83,b_84,b_85,b_86,b_87,b_88,b_99,b_100,b_101,b_102,b_103,b_104)
  partial_fixpoint
def g2q(x_:Int × List SType × List Int × Bool × Int × Bool × Int × List UInt8 × Int × Int × List UInt8 × Int × Int × Int × List SSymbol × List SMember × Int × Int × Bool × Int × Bool × Int × List UInt8 × Int × List SValue × List SValue × List SRaw) :Option (List SType × List Int × Bool × Int × Bool × Int × List UInt8 × Int × Int × Bool × Int × List UInt8 × Int × List SValue × List SValue × List SRaw):=
 match x_ with
 | (n_1,b_105,b_106,b_107,b_108,b_109,b_110,b_111,b_112,b_113,b_114,b_115,b_116,b_117,b_118,b_119,b_120,b_121,b_122,b_123,b_124,b_125,b_126,b_127,b_128,b_129,b_130)=>
 if decide (0 < n_1)=true then
 g1e (b_120,b_105,b_106,b_107) >>=fun r_135=>
 g1e (b_121,r_135.2.1,r_135.2.2.1,r_135.2.2.2) >>=fun r_140=>
 ggr ((⟨b_123,b_124,b_125,b_126,b_127,b_128,b_129,b_130⟩:SValue),SValue.eta r_135.1,SValue.eta r_140.1) >>=fun r_145=>
 g2q (subI .i64 n_1 1,r_140.2.1,r_140.2.2.1,r_140.2.2.2,b_108,b_109,b_110,b_111,b_112,b_113,b_114,b_115,b_116,b_117,b_118,b_119,b_120,b_121,b_122,r_145.Kind,r_145.Bool_,r_145.Int_,r_145.Str,r_145.ID,r_145.Keys,r_145.Items,r_145.Rest)
 else
 some (b_105,b_106,b_107,b_108,b_109,b_110,b_111,b_112,b_123,b_124,b_125,b_126,b_127,b_128,b_129,b_130)
  partial_fixpoint
end
theorem F55_b :gg prog 55=true:=by kernel_rfl
theorem g1q9 :f55.body.bind (Shv.resolve prog f55.ntmps)=some (g6 prog f55):=by kernel_rfl
theorem g1mm :g7 prog f55.results.toList=some [.cell 4 true 8]:=by kernel_rfl
def g4o(F:Hs Un.D [.int .i64,.slice (.nm 3),.slice (.int .u8),.bool]→Option (Hs Un.D [.nm 1,.slice (.nm 3),.slice (.int .u8),.bool])) :FSpec Un:=⟨55,[.c (.ptr 0 0),.c (.hole (.int .i64))],[.box [.hole (.slice (.nm 3)),.hole (.slice (.int .u8)),.hole .bool]],[.int .i64,.slice (.nm 3),.slice (.int .u8),.bool],.row 1,[.box [.hole (.slice (.nm 3)),.hole (.slice (.int .u8)),.hole .bool]],[.nm 1,.slice (.nm 3),.slice (.int .u8),.bool],F⟩
def g5u :FSpec Un:=g4o g1e
def gd4 :Shape:=⟨[(0,.c (.ptr 0 0)),(4,.c (.ptr 1 0)),(5,.c (.ptr 2 0)),(6,.c (.ptr 3 0)),(10,.c (.hole (.int .i64)))],[.box [.hole (.slice (.nm 3)),.hole (.slice (.int .u8)),.hole .bool],.box [.hole (.int .i64),.hole .bool,.hole (.int .i64),.hole .str,.hole (.int .i64),.cap0,.cap0,.cap0],.box [.hole (.int .i64),.hole .str,.hole (.int .i64),.hole (.int .i64),.hole (.int .i64),.hole (.slice (.nm 4)),.hole (.slice (.nm 0)),.hole (.int .i64),.hole (.int .i64),.hole .bool],.box [.hole (.int .i64),.hole .bool,.hole (.int .i64),.hole .str,.hole (.int .i64),.hole (.slice (.nm 1)),.hole (.slice (.nm 1)),.hole (.slice (.nm 2))]]⟩
def g8s :List Ty:=[.int .i64,.slice (.nm 3),.slice (.int .u8),.bool,.int .i64,.bool,.int .i64,.str,.int .i64,.int .i64,.str,.int .i64,.int .i64,.int .i64,.slice (.nm 4),.slice (.nm 0),.int .i64,.int .i64,.bool,.int .i64,.bool,.int .i64,.str,.int .i64,.slice (.nm 1),.slice (.nm 1),.slice (.nm 2)]
def g7y :List OSpec:=[⟨.exit 5,⟨[(4,.c (.ptr 1 0)),(6,.c (.ptr 2 0))],[.box [.hole (.slice (.nm 3)),.hole (.slice (.int .u8)),.hole .bool],.box [.hole (.int .i64),.hole .bool,.hole (.int .i64),.hole .str,.hole (.int .i64),.cap0,.cap0,.cap0],.box [.hole (.int .i64),.hole .bool,.hole (.int .i64),.hole .str,.hole (.int .i64),.hole (.slice (.nm 1)),.hole (.slice (.nm 1)),.hole (.slice (.nm 2))]]⟩,[],[.slice (.nm 3),.slice (.int .u8),.bool,.int .i64,.bool,.int .i64,.str,.int .i64,.int .i64,.bool,.int .i64,.str,.int .i64,.slice (.nm 1),.slice (.nm 1),.slice (.nm 2)]⟩]
def gdy(F:Hs Un.D g8s→Option (OSum Un g7y)) :LSpec Un:=⟨gd4,[],g8s,g7y,F⟩
def gnl :LSpec Un:=gdy g2q
def gd5 :Shape:=⟨[(0,.c (.ptr 0 0)),(4,.c (.ptr 1 0)),(5,.c (.ptr 2 0)),(6,.c (.ptr 3 0)),(9,.c (.hole (.int .i64)))],[.box [.hole (.slice (.nm 3)),.hole (.slice (.int .u8)),.hole .bool],.box [.hole (.int .i64),.hole .bool,.hole (.int .i64),.hole .str,.hole (.int .i64),.cap0,.cap0,.cap0],.box [.hole (.int .i64),.hole .str,.hole (.int .i64),.hole (.int .i64),.hole (.int .i64),.hole (.slice (.nm 4)),.hole (.slice (.nm 0)),.hole (.int .i64),.hole (.int .i64),.hole .bool],.box [.hole (.int .i64),.hole .bool,.hole (.int .i64),.hole .str,.hole (.int .i64),.cap0,.arr 4,.cap0],.arr (.nm 1)]⟩
def g8t :List Ty:=[.int .i64,.slice (.nm 3),.slice (.int .u8),.bool,.int .i64,.bool,.int .i64,.str,.int .i64,.int .i64,.str,.int .i64,.int .i64,.int .i64,.slice (.nm 4),.slice (.nm 0),.int .i64,.int .i64,.bool,.int .i64,.bool,.int .i64,.str,.int .i64,.slice (.nm 1)]
def g7z :List OSpec:=[⟨.exit 3,⟨[(4,.c (.ptr 1 0)),(6,.c (.ptr 2 0))],[.box [.hole (.slice (.nm 3)),.hole (.slice (.int .u8)),.hole .bool],.box [.hole (.int .i64),.hole .bool,.hole (.int .i64),.hole .str,.hole (.int .i64),.cap0,.cap0,.cap0],.box [.hole (.int .i64),.hole .bool,.hole (.int .i64),.hole .str,.hole (.int .i64),.cap0,.arr 3,.cap0],.arr (.nm 1)]⟩,[],[.slice (.nm 3),.slice (.int .u8),.bool,.int .i64,.bool,.int .i64,.str,.int .i64,.int .i64,.bool,.int .i64,.str,.int .i64,.slice (.nm 1)]⟩]
def gdz(F:Hs Un.D g8t→Option (OSum Un g7z)) :LSpec Un:=⟨gd5,[(.cell 225 6,.nm 1)],g8t,g7z,F⟩
def gnm :LSpec Un:=gdz g2p
def gd6 :Shape:=⟨[(0,.c (.ptr 0 0)),(4,.c (.ptr 1 0)),(5,.c (.ptr 2 0)),(6,.c (.ptr 3 0)),(7,.c (.hole (.int .i64)))],[.box [.hole (.slice (.nm 3)),.hole (.slice (.int .u8)),.hole .bool],.box [.hole (.int .i64),.hole .bool,.hole (.int .i64),.hole .str,.hole (.int .i64),.cap0,.cap0,.cap0],.box [.hole (.int .i64),.hole .str,.hole (.int .i64),.hole (.int .i64),.hole (.int .i64),.hole (.slice (.nm 4)),.hole (.slice (.nm 0)),.hole (.int .i64),.hole (.int .i64),.hole .bool],.box [.hole (.int .i64),.hole .bool,.hole (.int .i64),.hole .str,.hole (.int .i64),.cap0,.arr 4,.cap0],.arr (.nm 1)]⟩
def g8u :List Ty:=[.int .i64,.slice (.nm 3),.slice (.int .u8),.bool,.int .i64,.bool,.int .i64,.str,.int .i64,.int .i64,.str,.int .i64,.int .i64,.int .i64,.slice (.nm 4),.slice (.nm 0),.int .i64,.int .i64,.bool,.int .i64,.bool,.int .i64,.str,.int .i64,.slice (.nm 1)]
def g80 :List OSpec:=[⟨.exit 1,⟨[(0,.c (.ptr 0 0)),(4,.c (.ptr 1 0)),(5,.c (.ptr 2 0)),(6,.c (.ptr 3 0))],[.box [.hole (.slice (.nm 3)),.hole (.slice (.int .u8)),.hole .bool],.box [.hole (.int .i64),.hole .bool,.hole (.int .i64),.hole .str,.hole (.int .i64),.cap0,.cap0,.cap0],.box [.hole (.int .i64),.hole .str,.hole (.int .i64),.hole (.int .i64),.hole (.int .i64),.hole (.slice (.nm 4)),.hole (.slice (.nm 0)),.hole (.int .i64),.hole (.int .i64),.hole .bool],.box [.hole (.int .i64),.hole .bool,.hole (.int .i64),.hole .str,.hole (.int .i64),.cap0,.arr 4,.cap0],.arr (.nm 1)]⟩,[],[.slice (.nm 3),.slice (.int .u8),.bool,.int .i64,.bool,.int .i64,.str,.int .i64,.int .i64,.str,.int .i64,.int .i64,.int .i64,.slice (.nm 4),.slice (.nm 0),.int .i64,.int .i64,.bool,.int .i64,.bool,.int .i64,.str,.int .i64,.slice (.nm 1)]⟩]
def ge0(F:Hs Un.D g8u→Option (OSum Un g80)) :LSpec Un:=⟨gd6,[(.cell 225 6,.nm 1)],g8u,g80,F⟩
def gnn :LSpec Un:=ge0 g1m
theorem gom :(FSnd prog g5u)∧(LSnd prog f55.ntmps 1 (gn (g6 prog f55) 2) gnl)∧(LSnd prog f55.ntmps 1 (gn (g6 prog f55) 1) gnm)∧(LSnd prog f55.ntmps 1 (gn (g6 prog f55) 0) gnn):=g1e.mutual_partial_correctness (fun h r=>FAt prog g5u h r) (fun h o=>LAt (U:=Un) prog f55.ntmps 1 (gn (g6 prog f55) 2) gd4 g8s g7y h o) (fun h o=>LAt (U:=Un) prog f55.ntmps 1 (gn (g6 prog f55) 1) gd5 g8t g7z h o) (fun h o=>LAt (U:=Un) prog f55.ntmps 1 (gn (g6 prog f55) 0) gd6 g8u g80 h o)
 (fun F1 F2 F3 F4 HF1 HF2 HF3 HF4 h o ho=>FAt.of_body (s:=(g4o F1)) (fo:=foS [g2m,gbg,gbv,g9y,gbw,g4o F1]) (lo:=loL [(0,ge0 F4),(1,gdz F3),(2,gdy F2)]) func55 g1q9 g1mm (by kernel_rfl) (FoSnd.cons F89_b g39 (FoSnd.cons F90_b gp9 (FoSnd.cons F91_b gqk (FoSnd.cons F92_b gmp (FoSnd.cons F93_b gql (FoSnd.cons F55_b HF1 FoSnd.nil)))))) (LoOk.snd (LoOk.cons HF4 (LoOk.cons HF3 (LoOk.cons HF2 LoOk.nil)))) (Eq.trans (by kernel_rfl) ho))
 (fun F1 F2 HF1 HF2 h o ho=>LAt.of_round (fo:=foS [g4o F1,giu]) (lo:=loL []) (own:=[]) (F':=F2) (FoSnd.cons F55_b HF1 (FoSnd.cons F94_b gyf FoSnd.nil)) (LoOk.snd LoOk.nil) HF2 (Eq.trans (by kernel_rfl) ho))
 (fun F1 F3 HF1 HF3 h o ho=>LAt.of_round (fo:=foS [g4o F1]) (lo:=loL []) (own:=[(.cell 3 6,.nm 1)]) (F':=F3) (FoSnd.cons F55_b HF1 FoSnd.nil) (LoOk.snd LoOk.nil) HF3 (Eq.trans (by kernel_rfl) ho))
 (fun F1 F4 HF1 HF4 h o ho=>LAt.of_round (fo:=foS [g2m,g4o F1]) (lo:=loL []) (own:=[(.cell 3 6,.nm 1)]) (F':=F4) (FoSnd.cons F89_b g39 (FoSnd.cons F55_b HF1 FoSnd.nil)) (LoOk.snd LoOk.nil) HF4 (Eq.trans (by kernel_rfl) ho))
theorem ged :FSnd prog g5u:=gom.1
def gf6(x_:SSchema × Int × List Int) :Option (SValue):=
 match x_ with
 | (s,t,choices)=>
 some (minI 60 (choices.length:Int)) >>=fun t12=>
 if slR 0 t12 choices.length=true then
 g1e (t,s.Types,cutL choices 0 t12,false) >>=fun r=>
 some (SValue.eta r.1)
 else none
theorem F24_b :gg prog 24=true:=by kernel_rfl
theorem g1qa :f24.body.bind (Shv.resolve prog f24.ntmps)=some (g6 prog f24):=by kernel_rfl
theorem g1mn :g7 prog f24.results.toList=some [.cell 6 true 8]:=by kernel_rfl
def gzw(F:Hs Un.D [.nm 5,.int .i64,.slice (.int .u8)]→Option (Hs Un.D [.nm 1])) :FSpec Un:=⟨24,[.row 5,.c (.hole (.int .i64)),.c (.hole (.slice (.int .u8)))],[],[.nm 5,.int .i64,.slice (.int .u8)],.row 1,[],[.nm 1],F⟩
def ghv :FSpec Un:=gzw gf6
theorem gx3 :FSnd prog ghv:=FSnd.of fun h r hr=>FAt.of_body (s:=ghv) (fo:=foS [g5u]) (lo:=loL []) func24 g1qa g1mn (by kernel_rfl) (FoSnd.cons F55_b ged FoSnd.nil) (LoOk.snd LoOk.nil) (Eq.trans (by kernel_rfl) hr)
def gbm(x_:SSchema × Int × List Int) :Option (SValue):=
 match x_ with
 | (s,t,choices)=>
 some (minI 60 (choices.length:Int)) >>=fun t12=>
 if slR 0 t12 choices.length=true then
 g1e (t,s.Types,cutL choices 0 t12,true) >>=fun r=>
 some (SValue.eta r.1)
 else none
theorem F25_b :gg prog 25=true:=by kernel_rfl
theorem g1qb :f25.body.bind (Shv.resolve prog f25.ntmps)=some (g6 prog f25):=by kernel_rfl
theorem g1mo :g7 prog f25.results.toList=some [.cell 6 true 8]:=by kernel_rfl
def gvv(F:Hs Un.D [.nm 5,.int .i64,.slice (.int .u8)]→Option (Hs Un.D [.nm 1])) :FSpec Un:=⟨25,[.row 5,.c (.hole (.int .i64)),.c (.hole (.slice (.int .u8)))],[],[.nm 5,.int .i64,.slice (.int .u8)],.row 1,[],[.nm 1],F⟩
def ge1 :FSpec Un:=gvv gbm
theorem gsw :FSnd prog ge1:=FSnd.of fun h r hr=>FAt.of_body (s:=ge1) (fo:=foS [g5u]) (lo:=loL []) func25 g1qb g1mo (by kernel_rfl) (FoSnd.cons F55_b ged FoSnd.nil) (LoOk.snd LoOk.nil) (Eq.trans (by kernel_rfl) hr)
def ge2(d:Sheaveref08Draft) :Option (SSchema × Int × SValue × SValue × Bool):=
 g9a d.S >>=fun r=>
 if(!r.2)=true then
 some (r.1,0,(⟨0,false,0,[],0,[],[],[]⟩:SValue),(⟨0,false,0,[],0,[],[],[]⟩:SValue),false)
 else
 some (r.1.Types.length:Int) >>=fun t26=>
 if(!(decide (t26=0)))=true then
 some (remI (wrp .i64 d.T) t26) >>=fun t27=>
 gf6 (r.1,t27,d.C) >>=fun r_3=>
 gbm (r.1,t27,d.C) >>=fun r_4=>
 some (r.1,t27,SValue.eta r_3,SValue.eta r_4,true)
 else none
theorem F23_b :gg prog 23=true:=by kernel_rfl
theorem g1qc :f23.body.bind (Shv.resolve prog f23.ntmps)=some (g6 prog f23):=by kernel_rfl
theorem g1mp :g7 prog f23.results.toList=some [.cell 2 true 1,.tmp 3,.cell 4 true 8,.cell 5 true 8,.tmp 6]:=by kernel_rfl
def g133(F:Hs Un.D [.nm 13]→Option (Hs Un.D [.nm 5,.int .i64,.nm 1,.nm 1,.bool])) :FSpec Un:=⟨23,[.row 13],[],[.nm 13],.tup [.row 5,.c (.hole (.int .i64)),.row 1,.row 1,.c (.hole .bool)],[],[.nm 5,.int .i64,.nm 1,.nm 1,.bool],F⟩
def gkf :FSpec Un:=g133 ge2
theorem gzx :FSnd prog gkf:=FSnd.of fun h r hr=>FAt.of_body (s:=gkf) (fo:=foS [gkc,ghv,ge1]) (lo:=loL []) func23 g1qc g1mp (by kernel_rfl) (FoSnd.cons F20_b gzu (FoSnd.cons F24_b gx3 (FoSnd.cons F25_b gsw FoSnd.nil))) (LoOk.snd LoOk.nil) (Eq.trans (by kernel_rfl) hr)
end
section
open Go Go.Proofs.YthnmepafpikaiaaGreat.Shv
open Tryz
set_option maxRecDepth 100000
def g9c(v:SValue) :Option (Bool):=
 some (bif bif bif bif bif bif bif decide (v.Kind=1)then true else(!v.Bool_)then bif decide (v.Kind=2)then true else decide (v.Int_=0)else false then bif decide (v.Kind=3)then true else decide (v.Str=[])else false then bif bif decide (v.Kind=4)then true else decide (v.Kind=6)then true else decide (v.ID=0)else false then bif decide (v.Kind=8)then true else decide ((v.Keys.length:Int)=0)else false then bif decide (5≤v.Kind)then true else decide ((v.Items.length:Int)=0)else false then bif bif decide (v.Kind=5)then true else decide (v.Kind=6)then true else decide ((v.Rest.length:Int)=0)else false)
def g1p(x_:Int × Bool) :Option (Bool):=
 match x_ with
 | (n,known)=>
 some (bif bif (!known)then decide (1≤n)else false then decide (n≤1000)else false)
def g23(x_:List SRaw × Int × SType) :Option ((Bool) ⊕ (Unit)):=
 match x_ with
 | (l_1,i,b)=>
 if decide (i < (l_1.length:Int))=true then
 if inR i l_1.length=true then
 g20 (b,(l_1.getD i.toNat dSRaw).ID) >>=fun r=>
 if inR i l_1.length=true then
 g1p ((l_1.getD i.toNat dSRaw).ID,r.2) >>=fun r_3=>
 some (!r_3) >>=fun t31=>
 some (decide (0 < i)) >>=fun t34=>
 if(inR i l_1.length || (!((!t31) && t34)))=true then
 some (subI .i64 i 1) >>=fun t43=>
 if(inR t43 l_1.length || (!((!t31) && t34)))=true then
 if(bif t31 then true else bif t34 then decide ((l_1.getD i.toNat dSRaw).ID≤(l_1.getD t43.toNat dSRaw).ID)else false)=true then
 some (.inl false)
 else
 g23 (l_1,addI .i64 i 1,b)
 else none
 else none
 else none
 else none
 else
 some (.inr ())
  partial_fixpoint
def g7d(x_:SType × List SRaw) :Option (Bool):=
 match x_ with
 | (t,l)=>
 g23 (l,0,t) >>=fun o=>
 match o with
 | .inl o_1=>
 some o_1
 | .inr o_2=>
 some true
def g1g(x_:Int × SValue) :Option ((Bool) ⊕ (Unit)):=
 match x_ with
 | (i_1,b_12)=>
 if decide (i_1 < (b_12.Keys.length:Int))=true then
 some (subI .i64 i_1 1) >>=fun t270=>
 if inR t270 b_12.Keys.length=true then
 if inR i_1 b_12.Keys.length=true then
 g3x (SValue.eta (b_12.Keys.getD t270.toNat dSValue),SValue.eta (b_12.Keys.getD i_1.toNat dSValue)) >>=fun r_16=>
 if decide (0≤r_16)=true then
 some (.inl false)
 else
 g1g (addI .i64 i_1 1,SValue.eta b_12)
 else none
 else none
 else
 some (.inr ())
  partial_fixpoint
mutual
def g6o(x_:SSchema × Int × List SValue × Bool) :Option (Bool):=
 match x_ with
 | (s,t,l,plain)=>
 g2f (t,l,plain,0,s.Types) >>=fun o=>
 match o with
 | .inl o_1=>
 some o_1
 | .inr o_2=>
 some true
  partial_fixpoint
def g2a(x_:SSchema × Int × SValue × Bool) :Option (Bool):=
 match x_ with
 | (s,t,v,plain)=>
 if(bif decide (t < 0)then true else decide ((s.Types.length:Int)≤t))=true then
 some false
 else
 if inR t s.Types.length=true then
 some (s.Types.getD t.toNat dSType) >>=fun x0=>
 some (!(decide (v.Kind=x0.Kind))) >>=fun t34=>
 (if(!t34)=true then g9c (SValue.eta v)else some false) >>=fun r=>
 if(bif bif t34 then true else(!r)then true else bif plain then decide (0 < (v.Rest.length:Int))else false)=true then
 some false
 else
 if decide (x0.Kind=1)=true then
 some true
 else
 if decide (x0.Kind=2)=true then
 some (bif decide (x0.Low≤v.Int_)then decide (v.Int_≤x0.High)else false)
 else
 if decide (x0.Kind=3)=true then
 some (decide ((v.Str.length:Int)≤x0.Max))
 else
 if decide (x0.Kind=4)=true then
 g9x (x0,v.ID) >>=fun r_1=>
 some (bif x0.Open then(!plain)else false) >>=fun t91=>
 (if((!r_1.2) && t91)=true then g1p (v.ID,r_1.2)else some false) >>=fun r_4=>
 some (bif r_1.2 then true else bif t91 then r_4 else false)
 else
 if decide (x0.Kind=5)=true then
 some (!(decide ((v.Items.length:Int)=(x0.Members.length:Int)))) >>=fun t107=>
 (if(!t107)=true then g7d (x0,v.Rest)else some false) >>=fun r_5=>
 if(bif t107 then true else(!r_5))=true then
 some false
 else
 g1l (plain,0,s.Types,SValue.eta v,x0.Kind,x0.Name,x0.Low,x0.High,x0.Max,x0.Symbols,x0.Members,x0.Key,x0.Elem,x0.Open) >>=fun o=>
 match o with
 | .inl o_1=>
 some o_1
 | .inr o_2=>
 some true
 else
 if decide (x0.Kind=6)=true then
 g20 (x0,v.ID) >>=fun r_6=>
 if r_6.2=true then
 some (bif decide ((v.Items.length:Int)=1)then decide ((v.Rest.length:Int)=0)else false) >>=fun t156=>
 if(inR r_6.1 x0.Members.length || (!t156))=true then
 if(inR 0 v.Items.length || (!t156))=true then
 (if t156=true then g2a (s,(x0.Members.getD r_6.1.toNat dSMember).Type_,SValue.eta (v.Items.getD (0:Int).toNat dSValue),plain)else some false) >>=fun r_9=>
 some (bif t156 then r_9 else false)
 else none
 else none
 else
 some (bif x0.Open then(!plain)else false) >>=fun t177=>
 (if t177=true then g1p (v.ID,r_6.2)else some false) >>=fun r_10=>
 some (bif bif bif t177 then r_10 else false then decide ((v.Items.length:Int)=0)else false then decide ((v.Rest.length:Int)=1)else false) >>=fun t195=>
 if(inR 0 v.Rest.length || (!t195))=true then
 some (bif t195 then decide ((v.Rest.getD (0:Int).toNat dSRaw).ID=v.ID)else false)
 else none
 else
 if decide (x0.Kind=7)=true then
 some (decide ((v.Items.length:Int)≤x0.Max)) >>=fun t213=>
 (if t213=true then g6o (s,x0.Elem,v.Items,plain)else some false) >>=fun r_11=>
 some (bif t213 then r_11 else false)
 else
 if decide (x0.Kind=8)=true then
 some (bif decide (x0.Max < (v.Keys.length:Int))then true else(!(decide ((v.Items.length:Int)=(v.Keys.length:Int))))) >>=fun t239=>
 (if(!t239)=true then g6o (s,x0.Key,v.Keys,plain)else some false) >>=fun r_12=>
 some (bif t239 then true else(!r_12)) >>=fun t249=>
 (if(!t249)=true then g6o (s,x0.Elem,v.Items,plain)else some false) >>=fun r_13=>
 if(bif t249 then true else(!r_13))=true then
 some false
 else
 g1g (1,SValue.eta v) >>=fun o_3=>
 match o_3 with
 | .inl o_4=>
 some o_4
 | .inr o_5=>
 some true
 else
 some (decide ((v.Items.length:Int)≤1)) >>=fun t283=>
 (if t283=true then g6o (s,x0.Elem,v.Items,plain)else some false) >>=fun r_14=>
 some (bif t283 then r_14 else false)
 else none
  partial_fixpoint
def g2f(x_:Int × List SValue × Bool × Int × List SType) :Option ((Bool) ⊕ (Unit)):=
 match x_ with
 | (t_1,l_1,plain_1,i,b)=>
 if decide (i < (l_1.length:Int))=true then
 if inR i l_1.length=true then
 g2a ((⟨b⟩:SSchema),t_1,SValue.eta (l_1.getD i.toNat dSValue),plain_1) >>=fun r=>
 if(!r)=true then
 some (.inl false)
 else
 g2f (t_1,l_1,plain_1,addI .i64 i 1,b)
 else none
 else
 some (.inr ())
  partial_fixpoint
def g1l(x_:Bool × Int × List SType × SValue × Int × List UInt8 × Int × Int × Int × List SSymbol × List SMember × Int × Int × Bool) :Option ((Bool) ⊕ (Unit)):=
 match x_ with
 | (plain_1,i,b,b_1,b_2,b_3,b_4,b_5,b_6,b_7,b_8,b_9,b_10,b_11)=>
 if decide (i < (b_1.Items.length:Int))=true then
 if inR i b_8.length=true then
 if inR i b_1.Items.length=true then
 g2a ((⟨b⟩:SSchema),(b_8.getD i.toNat dSMember).Type_,SValue.eta (b_1.Items.getD i.toNat dSValue),plain_1) >>=fun r_15=>
 if(!r_15)=true then
 some (.inl false)
 else
 g1l (plain_1,addI .i64 i 1,b,SValue.eta b_1,b_2,b_3,b_4,b_5,b_6,b_7,b_8,b_9,b_10,b_11)
 else none
 else none
 else
 some (.inr ())
  partial_fixpoint
end
def gkg(x_:SSchema × Int × SValue) :Option (Bool):=
 match x_ with
 | (s,t,v)=>
 g2a (s,t,SValue.eta v,false) >>=fun r=>
 some r
def g8l(x_:SSchema × Int × SValue) :Option (Int):=
 match x_ with
 | (s,t,v)=>
 gai s >>=fun r=>
 if(!(decide (r=0)))=true then
 some r
 else
 if(bif decide (t < 0)then true else decide ((s.Types.length:Int)≤t))=true then
 some 4
 else
 gkg (s,t,SValue.eta v) >>=fun r_1=>
 if(!r_1)=true then
 some 1
 else
 some 0
end
section
open Go Go.Proofs.YthnmepafpikaiaaGreat.Shv
open Tryz
set_option maxRecDepth 100000
mutual
def g4j(x_:SSchema × Int × SValue) :Option (Int):=
 match x_ with
 | (s,t,v)=>
 if inR t s.Types.length=true then
 g16 (0,0,s.Types,SValue.eta v,s.Types.getD t.toNat dSType) >>=fun o=>
 if decide (0 < (o.2.Keys.length:Int))=true then
 some (addI .i64 1 (maxI o.1 1))
 else
 some (addI .i64 1 o.1)
 else none
  partial_fixpoint
def g16(x_:Int × Int × List SType × SValue × SType) :Option (Int × SValue):=
 match x_ with
 | (below_1,i,b_1,b_2,b_3)=>
 if decide (i < (b_2.Items.length:Int))=true then
 if decide (b_3.Kind=5)=true then
 if inR i b_3.Members.length=true then
 some (b_3.Members.getD i.toNat dSMember) >>=fun x0_1=>
 if(inR i b_2.Items.length || (!x0_1.HasDefault))=true then
 (if x0_1.HasDefault=true then g1y (SValue.eta (b_2.Items.getD i.toNat dSValue),SValue.eta x0_1.Default)else some false) >>=fun r=>
 if(bif x0_1.HasDefault then r else false)=true then
 g16 (below_1,addI .i64 i 1,b_1,SValue.eta b_2,b_3)
 else
 if decide (b_3.Kind=6)=true then
 g20 (b_3,b_2.ID) >>=fun r_1=>
 if inR r_1.1 b_3.Members.length=true then
 if inR i b_2.Items.length=true then
 g4j ((⟨b_1⟩:SSchema),(b_3.Members.getD r_1.1.toNat dSMember).Type_,SValue.eta (b_2.Items.getD i.toNat dSValue)) >>=fun r_4=>
 g16 (maxI below_1 r_4,addI .i64 i 1,b_1,SValue.eta b_2,b_3)
 else none
 else none
 else
 if inR i b_2.Items.length=true then
 g4j ((⟨b_1⟩:SSchema),x0_1.Type_,SValue.eta (b_2.Items.getD i.toNat dSValue)) >>=fun r_5=>
 g16 (maxI below_1 r_5,addI .i64 i 1,b_1,SValue.eta b_2,b_3)
 else none
 else none
 else none
 else
 if decide (b_3.Kind=6)=true then
 g20 (b_3,b_2.ID) >>=fun r_6=>
 if inR r_6.1 b_3.Members.length=true then
 if inR i b_2.Items.length=true then
 g4j ((⟨b_1⟩:SSchema),(b_3.Members.getD r_6.1.toNat dSMember).Type_,SValue.eta (b_2.Items.getD i.toNat dSValue)) >>=fun r_9=>
 g16 (maxI below_1 r_9,addI .i64 i 1,b_1,SValue.eta b_2,b_3)
 else none
 else none
 else
 if inR i b_2.Items.length=true then
 g4j ((⟨b_1⟩:SSchema),b_3.Elem,SValue.eta (b_2.Items.getD i.toNat dSValue)) >>=fun r_10=>
 g16 (maxI below_1 r_10,addI .i64 i 1,b_1,SValue.eta b_2,b_3)
 else none
 else
 some (below_1,SValue.eta b_2)
  partial_fixpoint
end
def gon(x_:SSchema × Int × SValue) :Option (List UInt8 × Int):=
 match x_ with
 | (s,t,v)=>
 g8l (s,t,SValue.eta v) >>=fun r=>
 if(!(decide (r=0)))=true then
 some ([],r)
 else
 g2g (s,t,SValue.eta v) >>=fun r_1=>
 some (decide (4096 < (r_1.length:Int))) >>=fun t23=>
 (if(!t23)=true then g4j (s,t,SValue.eta v)else some 0) >>=fun r_2=>
 if(bif t23 then true else decide (200 < r_2))=true then
 some ([],3)
 else
 some (r_1,0)
def g122(x_:SSchema × Int × SValue) :Option (Int × Int):=
 match x_ with
 | (s,t,v)=>
 g4z (s,t,SValue.eta v) >>=fun r=>
 if(!(decide (r=0)))=true then
 some (0,r)
 else
 g1d (t,SValue.eta v,1,s.Types,0) >>=fun r_1=>
 some ((r_1.1.length:Int),0)
end
section
open Go Go.Proofs.YthnmepafpikaiaaGreat.Shv
open Tryz
set_option maxRecDepth 100000
def gs4(x_:SSchema × Int × SValue) :Option (Int × Int):=
 match x_ with
 | (s,t,v)=>
 g8l (s,t,SValue.eta v) >>=fun r=>
 if(!(decide (r=0)))=true then
 some (0,r)
 else
 g2g (s,t,SValue.eta v) >>=fun r_1=>
 some ((r_1.length:Int),0)
def ghw(x_:Int × Bool × List UInt8) :Option (List UInt8 × Int):=
 match x_ with
 | (id,critical,payload)=>
 if(bif decide (id < 1)then true else decide (1000 < id))=true then
 some ([],7)
 else
 if decide (4096 < (payload.length:Int))=true then
 some ([],3)
 else
 gbb (id,critical,payload) >>=fun r=>
 some (r,0)
theorem F35_b :gg prog 35=true:=by kernel_rfl
theorem g1qd :f35.body.bind (Shv.resolve prog f35.ntmps)=some (g6 prog f35):=by kernel_rfl
theorem g1mq :g7 prog f35.results.toList=some [.tmp 6,.tmp 7]:=by kernel_rfl
def g16g(F:Hs Un.D [.int .i64,.bool,.str]→Option (Hs Un.D [.str,.int .i64])) :FSpec Un:=⟨35,[.c (.hole (.int .i64)),.c (.hole .bool),.c (.hole .str)],[],[.int .i64,.bool,.str],.tup [.c (.hole .str),.c (.hole (.int .i64))],[],[.str,.int .i64],F⟩
def gno :FSpec Un:=g16g ghw
theorem g134 :FSnd prog gno:=FSnd.of fun h r hr=>FAt.of_body (s:=gno) (fo:=foS [gdn]) (lo:=loL []) func35 g1qd g1mq (by kernel_rfl) (FoSnd.cons F68_b gk7 FoSnd.nil) (LoOk.snd LoOk.nil) (Eq.trans (by kernel_rfl) hr)
def g1t(x_:List UInt8 × Int × List UInt8 × List SField × Int × Int) :Option ((Bool) ⊕ (List UInt8 × Int × List UInt8)):=
 match x_ with
 | (m_1,f_1,again_1,t57,t58_1,t59)=>
 if decide (t59 < t58_1)=true then
 if inR t59 t57.length=true then
 some (t57.getD t59.toNat dSField) >>=fun x0=>
 ghw (x0.ID,x0.Critical,x0.Data) >>=fun r_24=>
 if(!(decide (r_24.2=0)))=true then
 some (.inl false)
 else
 if decide (again_1.length+r_24.1.length≤g26)=true then
 g1t (m_1,f_1,again_1++r_24.1,t57,t58_1,addI .i64 t59 1)
 else none
 else none
 else
 some (.inr (m_1,f_1,again_1))
  partial_fixpoint
theorem F9_ok :f9.body.bind (Shv.resolve prog f9.ntmps)=some (g6 prog f9):=by kernel_rfl
theorem g1qe :g7 prog f9.results.toList=some [.tmp 2]:=by kernel_rfl
def gbr :Shape:=⟨[(8,.c (.hole .str)),(11,.c (.hole (.int .i64))),(12,.c (.hole .str)),(57,.c (.hole (.slice (.nm 8)))),(58,.c (.hole (.int .i64))),(59,.c (.hole (.int .i64)))],[]⟩
def g81 :List Ty:=[.str,.int .i64,.str,.slice (.nm 8),.int .i64,.int .i64]
def g72 :List OSpec:=[⟨.ret,⟨[(2,.c (.hole .bool))],[]⟩,[],[.bool]⟩,⟨.exit 1,⟨[(8,.c (.hole .str)),(11,.c (.hole (.int .i64))),(12,.c (.hole .str))],[]⟩,[],[.str,.int .i64,.str]⟩]
def gm0(F:Hs Un.D g81→Option (OSum Un g72)) :LSpec Un:=⟨gbr,[],g81,g72,F⟩
def gck :LSpec Un:=gm0 g1t
theorem gkh :LSnd prog f9.ntmps 0 (gn (g6 prog f9) 0) gck:=fun h o ho=>g1t.partial_correctness (fun h o=>LAt (U:=Un) prog f9.ntmps 0 (gn (g6 prog f9) 0) gbr g81 g72 h o) (fun F1 HF1 h o ho=>LAt.of_round (fo:=foS [gno]) (lo:=loL []) (own:=[]) (F':=F1) (FoSnd.cons F35_b g134 FoSnd.nil) (LoOk.snd LoOk.nil) HF1 (Eq.trans (by kernel_rfl) ho)) h o ho
end
section
open Go Go.Proofs.YthnmepafpikaiaaGreat.Shv
open Tryz
set_option maxRecDepth 100000
def g7t(d:Sheaveref08Draft) :Option (Bool):=
 ge2 d >>=fun r=>
 gag () >>=fun r_6=>
 if(bif (!r_6)then true else(!r.2.2.2.2))=true then
 gag () >>=fun r_7=>
 some r_7
 else
 ga8 (r.1,r.2.1,SValue.eta r.2.2.2.1) >>=fun r_8=>
 if(!(decide (r_8.2=0)))=true then
 some (decide (r_8.2=3))
 else
 if decide (r.2.2.2.1.Kind=5)=true then
 gc4 r_8.1 >>=fun r_11=>
 g1t (r_8.1,r_11.2,[],r_11.1,(r_11.1.length:Int),0) >>=fun o=>
 match o with
 | .inl o_1=>
 some o_1
 | .inr o_2=>
 some (bif decide (o_2.2.1=0)then decide (o_2.2.2=o_2.1)else false)
 else
 if decide (r.2.2.2.1.Kind=6)=true then
 gew r_8.1 >>=fun r_14=>
 some (bif decide (r_14.2.2=0)then decide (r_14.1=r.2.2.2.1.ID)else false)
 else
 some (decide (r.2.2.2.1.Kind=7)) >>=fun t103=>
 if t103=true then
 if t103=true then
 g5i r_8.1 >>=fun r_18=>
 some (bif decide (r_18.2=0)then decide ((r_18.1.length:Int)=addI .i64 (r.2.2.2.1.Items.length:Int) (r.2.2.2.1.Keys.length:Int))else false)
 else
 some true
 else
 if decide (r.2.2.2.1.Kind=8)=true then
 g5i r_8.1 >>=fun r_21=>
 some (bif decide (r_21.2=0)then decide ((r_21.1.length:Int)=addI .i64 (r.2.2.2.1.Items.length:Int) (r.2.2.2.1.Keys.length:Int))else false)
 else
 some true
def goo(F:Hs Un.D [.nm 13]→Option (Hs Un.D [.bool])) :FSpec Un:=⟨9,[.row 13],[],[.nm 13],.c (.hole .bool),[],[.bool],F⟩
def gee :FSpec Un:=goo g7t
theorem g15u :FSnd prog gee:=FSnd.of fun h r hr=>FAt.of_body (s:=gee) (fo:=foS [gkf,gg1,ggj,ggk,glp,gdp]) (lo:=loL [(0,gck)]) func9 F9_ok g1qe (by kernel_rfl) (FoSnd.cons F23_b gzx (FoSnd.cons F11_b gvm (FoSnd.cons F26_b gpr (FoSnd.cons F12_b gpt (FoSnd.cons F16_b gvk (FoSnd.cons F14_b gk9 FoSnd.nil)))))) (LoOk.snd (LoOk.cons gkh LoOk.nil)) (Eq.trans (by kernel_rfl) hr)
end
section
open Go Go.Proofs.YthnmepafpikaiaaGreat.Shv
open Tryz
set_option maxRecDepth 100000
def g7p(_:Unit) :Option (SSchema):=
 some (⟨[(⟨2,[],(-10),10,0,[],[],0,0,false⟩:SType),(⟨2,[],0,5,0,[],[],0,0,false⟩:SType),(⟨3,[],0,0,8,[],[],0,0,false⟩:SType),(⟨5,[80,111,105,110,116],0,0,0,[],[(⟨1,[120],0,false,false,(⟨0,false,0,[],0,[],[],[]⟩:SValue)⟩:SMember),(⟨2,[121],1,false,true,(⟨2,false,3,[],0,[],[],[]⟩:SValue)⟩:SMember),(⟨3,[116,97,103],2,true,false,(⟨0,false,0,[],0,[],[],[]⟩:SValue)⟩:SMember)],0,0,false⟩:SType)]⟩:SSchema)
theorem g9o :∀x,Le (g7p x) (g6r x):=fun _=>Le.r
def gg6(x_:Int × Int) :Option (SValue):=
 match x_ with
 | (x0,y)=>
 some (⟨5,false,0,[],0,[],[(⟨2,false,x0,[],0,[],[],[]⟩:SValue),(⟨2,false,y,[],0,[],[],[]⟩:SValue),(⟨3,false,0,[97,98],0,[],[],[]⟩:SValue)],[]⟩:SValue)
theorem gm1 :∀x,Le (gg6 x) (gd9 x):=fun x=>match x with | (_,_)=>Le.r
def g5q :Nat→(List SSymbol × List SSymbol × Int × Int→Option ((Bool) ⊕ (Unit)))
 | 0=>fun _=>none
 | fuel+1=>
 fun(x_:List SSymbol × List SSymbol × Int × Int)=>match x_ with
 | (s1_1,s2_1,t12_1,t13)=>
 if decide (t13 < t12_1)=true then
 if inR t13 s1_1.length=true then
 some (s1_1.getD t13.toNat dSSymbol) >>=fun x0=>
 if inR t13 s2_1.length=true then
 some (s2_1.getD t13.toNat dSSymbol) >>=fun x0_1=>
 if(!(eqI x0.ID x0_1.ID && (eqS x0.Name x0_1.Name && true)))=true then
 some (.inl false)
 else
 (g5q fuel) (s1_1,s2_1,t12_1,addI .i64 t13 1)
 else none
 else none
 else
 some (.inr ())
theorem g84 :∀n,(∀x,Le ((g5q n) x) (g15 x))
 | 0=>fun _=>Le.n
 | fuel+1=>fun x=>match x with | (_,_,_,_)=>by rw[g15];exact(Le.i (Le.i (Le.b Le.r fun _=>(Le.i (Le.b Le.r fun _=>(Le.i Le.r ((g84 fuel) _))) Le.r)) Le.r) Le.r)
def g92(x:List SSymbol × List SSymbol × Int × Int) :Option ((Bool) ⊕ (Unit)):=(g5q 40) x
theorem gfq :∀x,Le (g92 x) (g15 x):=(g84 40)
def ga0(x_:List SSymbol × List SSymbol) :Option (Bool):=
 match x_ with
 | (s1,s2)=>
 if(!(decide ((s1.length:Int)=(s2.length:Int))))=true then
 some false
 else
 g92 (s1,s2,(s1.length:Int),0) >>=fun o=>
 match o with
 | .inl o_1=>
 some o_1
 | .inr o_2=>
 some true
theorem ghx :∀x,Le (ga0 x) (g3j x):=fun x=>match x with | (_,_)=>(Le.i Le.r (Le.b (gfq _) fun _=>Le.r))
def g7e :Nat→(List SRaw × List SRaw × Int × Int→Option ((Bool) ⊕ (Unit)))
 | 0=>fun _=>none
 | fuel+1=>
 fun(x_:List SRaw × List SRaw × Int × Int)=>match x_ with
 | (s1_1,s2_1,t12_1,t13)=>
 if decide (t13 < t12_1)=true then
 if inR t13 s1_1.length=true then
 some (s1_1.getD t13.toNat dSRaw) >>=fun x0=>
 if inR t13 s2_1.length=true then
 some (s2_1.getD t13.toNat dSRaw) >>=fun x0_1=>
 if(!(eqI x0.ID x0_1.ID && (eqS x0.Data x0_1.Data && true)))=true then
 some (.inl false)
 else
 (g7e fuel) (s1_1,s2_1,t12_1,addI .i64 t13 1)
 else none
 else none
 else
 some (.inr ())
theorem ga1 :∀n,(∀x,Le ((g7e n) x) (g1c x))
 | 0=>fun _=>Le.n
 | fuel+1=>fun x=>match x with | (_,_,_,_)=>by rw[g1c];exact(Le.i (Le.i (Le.b Le.r fun _=>(Le.i (Le.b Le.r fun _=>(Le.i Le.r ((ga1 fuel) _))) Le.r)) Le.r) Le.r)
def gbh(x:List SRaw × List SRaw × Int × Int) :Option ((Bool) ⊕ (Unit)):=(g7e 40) x
theorem gje :∀x,Le (gbh x) (g1c x):=(ga1 40)
def g8v(x_:List SRaw × List SRaw) :Option (Bool):=
 match x_ with
 | (s1,s2)=>
 if(!(decide ((s1.length:Int)=(s2.length:Int))))=true then
 some false
 else
 gbh (s1,s2,(s1.length:Int),0) >>=fun o=>
 match o with
 | .inl o_1=>
 some o_1
 | .inr o_2=>
 some true
theorem gcl :∀x,Le (g8v x) (g3z x):=fun x=>match x with | (_,_)=>(Le.i Le.r (Le.b (gje _) fun _=>Le.r))
def g75 :Nat→(SValue × SValue→Option (Bool)) × (List SValue × List SValue→Option (Bool)) × (List SValue × List SValue × Int × Int→Option ((Bool) ⊕ (Unit)))
 | 0=>(fun _=>none,fun _=>none,fun _=>none)
 | fuel+1=>
 (fun(x_:SValue × SValue)=>match x_ with
 | (a,b)=>
 some (bif bif bif bif decide (a.Kind=b.Kind)then eqB a.Bool_ b.Bool_ else false then decide (a.Int_=b.Int_)else false then decide (a.Str=b.Str)else false then decide (a.ID=b.ID)else false) >>=fun t37=>
 (if t37=true then g8v (a.Rest,b.Rest)else some false) >>=fun r=>
 some (bif t37 then r else false) >>=fun t44=>
 (if t44=true then(g75 fuel).2.1 (a.Keys,b.Keys)else some false) >>=fun r_1=>
 some (bif t44 then r_1 else false) >>=fun t51=>
 (if t51=true then(g75 fuel).2.1 (a.Items,b.Items)else some false) >>=fun r_2=>
 some (bif t51 then r_2 else false),
 fun(x_:List SValue × List SValue)=>match x_ with
 | (s1,s2)=>
 if(!(decide ((s1.length:Int)=(s2.length:Int))))=true then
 some false
 else
 (g75 fuel).2.2 (s2,s1,(s1.length:Int),0) >>=fun o=>
 match o with
 | .inl o_1=>
 some o_1
 | .inr o_2=>
 some true,
 fun(x_:List SValue × List SValue × Int × Int)=>match x_ with
 | (s2_1,t15,t16_1,t17)=>
 if decide (t17 < t16_1)=true then
 if inR t17 t15.length=true then
 if inR t17 s2_1.length=true then
 (g75 fuel).1 (SValue.eta (t15.getD t17.toNat dSValue),SValue.eta (s2_1.getD t17.toNat dSValue)) >>=fun r=>
 if(!r)=true then
 some (.inl false)
 else
 (g75 fuel).2.2 (s2_1,t15,t16_1,addI .i64 t17 1)
 else none
 else none
 else
 some (.inr ()))
theorem g9d :∀n,(∀x,Le ((g75 n).1 x) (g54 x))∧(∀x,Le ((g75 n).2.1 x) (g17 x))∧(∀x,Le ((g75 n).2.2 x) (gy x))
 | 0=>⟨fun _=>Le.n,fun _=>Le.n,fun _=>Le.n⟩
 | fuel+1=>⟨fun x=>match x with | (_,_)=>by rw[g54];exact(Le.b Le.r fun _=>(Le.b (Le.i (gcl _) Le.r) fun _=>(Le.b Le.r fun _=>(Le.b (Le.i ((g9d fuel).2.1 _) Le.r) fun _=>(Le.b Le.r fun _=>(Le.b (Le.i ((g9d fuel).2.1 _) Le.r) fun _=>Le.r)))))),
 fun x=>match x with | (_,_)=>by rw[g17];exact(Le.i Le.r (Le.b ((g9d fuel).2.2 _) fun _=>Le.r)),
 fun x=>match x with | (_,_,_,_)=>by rw[gy];exact(Le.i (Le.i (Le.i (Le.b ((g9d fuel).1 _) fun _=>(Le.i Le.r ((g9d fuel).2.2 _))) Le.r) Le.r) Le.r)⟩
def gpa(x:SValue × SValue) :Option (Bool):=(g75 40).1 x
theorem gvw :∀x,Le (gpa x) (g54 x):=(g9d 40).1
def gs5(x_:SMember × SMember) :Option (Bool):=
 match x_ with
 | (x0,y)=>
 some (bif bif bif bif decide (x0.ID=y.ID)then decide (x0.Name=y.Name)else false then decide (x0.Type_=y.Type_)else false then eqB x0.Critical y.Critical else false then eqB x0.HasDefault y.HasDefault else false) >>=fun t37=>
 (if t37=true then gpa ((⟨x0.Default.Kind,x0.Default.Bool_,x0.Default.Int_,x0.Default.Str,x0.Default.ID,x0.Default.Keys,x0.Default.Items,x0.Default.Rest⟩:SValue),SValue.eta y.Default)else some false) >>=fun r=>
 some (bif t37 then r else false)
theorem g11a :∀x,Le (gs5 x) (gaz x):=fun x=>match x with | (_,_)=>(Le.b Le.r fun _=>(Le.b (Le.i (gvw _) Le.r) fun _=>Le.r))
def g27 :Nat→(List SMember × List SMember × Int × Int→Option ((Bool) ⊕ (Unit)))
 | 0=>fun _=>none
 | fuel+1=>
 fun(x_:List SMember × List SMember × Int × Int)=>match x_ with
 | (s2_1,t15,t16_1,t17)=>
 if decide (t17 < t16_1)=true then
 if inR t17 t15.length=true then
 some (t15.getD t17.toNat dSMember) >>=fun x0=>
 if inR t17 s2_1.length=true then
 some (s2_1.getD t17.toNat dSMember) >>=fun x0_1=>
 gs5 ((⟨x0.ID,x0.Name,x0.Type_,x0.Critical,x0.HasDefault,SValue.eta x0.Default⟩:SMember),(⟨x0_1.ID,x0_1.Name,x0_1.Type_,x0_1.Critical,x0_1.HasDefault,SValue.eta x0_1.Default⟩:SMember)) >>=fun r=>
 if(!r)=true then
 some (.inl false)
 else
 (g27 fuel) (s2_1,t15,t16_1,addI .i64 t17 1)
 else none
 else none
 else
 some (.inr ())
theorem g3f :∀n,(∀x,Le ((g27 n) x) (gh x))
 | 0=>fun _=>Le.n
 | fuel+1=>fun x=>match x with | (_,_,_,_)=>by rw[gh];exact(Le.i (Le.i (Le.b Le.r fun _=>(Le.i (Le.b Le.r fun _=>(Le.b (g11a _) fun _=>(Le.i Le.r ((g3f fuel) _)))) Le.r)) Le.r) Le.r)
def g3v(x:List SMember × List SMember × Int × Int) :Option ((Bool) ⊕ (Unit)):=(g27 40) x
theorem g76 :∀x,Le (g3v x) (gh x):=(g3f 40)
def g49(x_:List SMember × List SMember) :Option (Bool):=
 match x_ with
 | (s1,s2)=>
 if(!(decide ((s1.length:Int)=(s2.length:Int))))=true then
 some false
 else
 g3v (s2,s1,(s1.length:Int),0) >>=fun o=>
 match o with
 | .inl o_1=>
 some o_1
 | .inr o_2=>
 some true
theorem g82 :∀x,Le (g49 x) (g1h x):=fun x=>match x with | (_,_)=>(Le.i Le.r (Le.b (g76 _) fun _=>Le.r))
def g1u(x_:SType × SType) :Option (Bool):=
 match x_ with
 | (a,b)=>
 some (bif bif bif bif bif bif bif decide (a.Kind=b.Kind)then decide (a.Name=b.Name)else false then decide (a.Low=b.Low)else false then decide (a.High=b.High)else false then decide (a.Max=b.Max)else false then decide (a.Key=b.Key)else false then decide (a.Elem=b.Elem)else false then eqB a.Open b.Open else false) >>=fun t58=>
 (if t58=true then ga0 (a.Symbols,b.Symbols)else some false) >>=fun r=>
 some (bif t58 then r else false) >>=fun t65=>
 (if t65=true then g49 (a.Members,b.Members)else some false) >>=fun r_1=>
 some (bif t65 then r_1 else false)
theorem g1q :∀x,Le (g1u x) (g1v x):=fun x=>match x with | (_,_)=>(Le.b Le.r fun _=>(Le.b (Le.i (ghx _) Le.r) fun _=>(Le.b Le.r fun _=>(Le.b (Le.i (g82 _) Le.r) fun _=>Le.r))))
def gki(c:Int) :Option (Bool):=
 some (bif bif decide (c=95)then true else bif decide (97≤c)then decide (c≤122)else false then true else bif decide (65≤c)then decide (c≤90)else false)
theorem gpu :∀x,Le (gki x) (gb0 x):=fun _=>Le.r
def gth(c:Int) :Option (Bool):=
 some (bif decide (48≤c)then decide (c≤57)else false)
theorem g135 :∀x,Le (gth x) (gfd x):=fun _=>Le.r
def giv :Nat→(List UInt8 × Int × Int→Option ((Bool) ⊕ (Unit)))
 | 0=>fun _=>none
 | fuel+1=>
 fun(x_:List UInt8 × Int × Int)=>match x_ with
 | (s_1,t18_1,t19)=>
 if decide (t19 < t18_1)=true then
 if inR t19 s_1.length=true then
 gki (g4p s_1 t19) >>=fun r_1=>
 some (!r_1) >>=fun t26=>
 if(inR t19 s_1.length || (!t26))=true then
 (if t26=true then gth (g4p s_1 t19)else some false) >>=fun r_2=>
 if(bif t26 then(!r_2)else false)=true then
 some (.inl false)
 else
 (giv fuel) (s_1,t18_1,addI .i64 t19 1)
 else none
 else none
 else
 some (.inr ())
theorem gm2 :∀n,(∀x,Le ((giv n) x) (g28 x))
 | 0=>fun _=>Le.n
 | fuel+1=>fun x=>match x with | (_,_,_)=>by rw[g28];exact(Le.i (Le.i (Le.b (gpu _) fun _=>(Le.b Le.r fun _=>(Le.i (Le.b (Le.i (g135 _) Le.r) fun _=>(Le.i Le.r ((gm2 fuel) _))) Le.r))) Le.r) Le.r)
def gpv(x:List UInt8 × Int × Int) :Option ((Bool) ⊕ (Unit)):=(giv 40) x
theorem gzy :∀x,Le (gpv x) (g28 x):=(gm2 40)
def ge3(s:List UInt8) :Option (Bool):=
 some (bif decide (s=[])then true else decide (24 < (s.length:Int))) >>=fun t10=>
 if(inR 0 s.length || (!(!t10)))=true then
 (if(!t10)=true then gki (g4p s 0)else some false) >>=fun r=>
 if(bif t10 then true else(!r))=true then
 some false
 else
 gpv (s,(s.length:Int),0) >>=fun o=>
 match o with
 | .inl o_1=>
 some o_1
 | .inr o_2=>
 some true
 else none
theorem ggs :∀x,Le (ge3 x) (g3t x):=fun _=>(Le.b Le.r fun _=>(Le.i (Le.b (Le.i (gpu _) Le.r) fun _=>(Le.i Le.r (Le.b (gzy _) fun _=>Le.r))) Le.r))
def gm3 :Nat→(List Int × List (List UInt8) × List Int × Int × Int × List (List UInt8)→Option ((Bool) ⊕ (List Int)))
 | 0=>fun _=>none
 | fuel+1=>
 fun(x_:List Int × List (List UInt8) × List Int × Int × Int × List (List UInt8))=>match x_ with
 | (l_2,names_1,t9,t10_1,t11,b)=>
 if decide (t11 < t10_1)=true then
 if inR t11 t9.length=true then
 some (t9.getD t11.toNat 0) >>=fun x0=>
 some (bif decide (x0 < 1)then true else decide (1000 < x0)) >>=fun t21=>
 some (decide (0 < t11)) >>=fun t24=>
 some (subI .i64 t11 1) >>=fun t29=>
 if(inR t29 l_2.length || (!((!t21) && t24)))=true then
 some (bif t21 then true else bif t24 then decide (x0≤l_2.getD t29.toNat 0)else false) >>=fun t34=>
 if(inR t11 names_1.length || (!(!t34)))=true then
 some (bif t34 then true else hasS b (names_1.getD t11.toNat [])) >>=fun t42=>
 if(inR t11 names_1.length || (!(!t42)))=true then
 (if(!t42)=true then ge3 (names_1.getD t11.toNat [])else some false) >>=fun r=>
 if(bif t42 then true else(!r))=true then
 some (.inl false)
 else
 if inR t11 names_1.length=true then
 (gm3 fuel) (l_2,names_1,t9,t10_1,addI .i64 t11 1,addS b (names_1.getD t11.toNat []))
 else none
 else none
 else none
 else none
 else none
 else
 some (.inr l_2)
theorem gop :∀n,(∀x,Le ((gm3 n) x) (g4w x))
 | 0=>fun _=>Le.n
 | fuel+1=>fun x=>match x with | (_,_,_,_,_,_)=>by rw[g4w];exact(Le.i (Le.i (Le.b Le.r fun _=>(Le.b Le.r fun _=>(Le.b Le.r fun _=>(Le.b Le.r fun _=>(Le.i (Le.b Le.r fun _=>(Le.i (Le.b Le.r fun _=>(Le.i (Le.b (Le.i (ggs _) Le.r) fun _=>(Le.i Le.r (Le.i ((gop fuel) _) Le.r))) Le.r)) Le.r)) Le.r))))) Le.r) Le.r)
def gti(x:List Int × List (List UInt8) × List Int × Int × Int × List (List UInt8)) :Option ((Bool) ⊕ (List Int)):=(gm3 40) x
theorem g136 :∀x,Le (gti x) (g4w x):=(gop 40)
def gs6(x_:List Int × List (List UInt8)) :Option (Bool):=
 match x_ with
 | (l,names)=>
 gti (l,names,l,(l.length:Int),0,[]) >>=fun o=>
 match o with
 | .inl o_1=>
 some o_1
 | .inr o_2=>
 some (decide ((o_2.length:Int)≤16))
theorem gxp :∀x,Le (gs6 x) (gid x):=fun x=>match x with | (_,_)=>(Le.b (g136 _) fun _=>Le.r)
def gg7 :Nat→(List SSymbol × List SSymbol × Int × Int × List Int × List (List UInt8)→Option (List SSymbol × List Int × List (List UInt8)))
 | 0=>fun _=>none
 | fuel+1=>
 fun(x_:List SSymbol × List SSymbol × Int × Int × List Int × List (List UInt8))=>match x_ with
 | (l_2,t7,t8_1,t9,b_2,b_3)=>
 if decide (t9 < t8_1)=true then
 if inR t9 t7.length=true then
 some (t7.getD t9.toNat dSSymbol) >>=fun x0=>
 some [x0.ID] >>=fun t16=>
 if room 8 (b_2++t16).length=true then
 some [x0.Name] >>=fun t21=>
 if room 16 (b_3++t21).length=true then
 (gg7 fuel) (l_2,t7,t8_1,addI .i64 t9 1,b_2++t16,b_3++t21)
 else none
 else none
 else none
 else
 some (l_2,b_2,b_3)
theorem gjf :∀n,(∀x,Le ((gg7 n) x) (g3d x))
 | 0=>fun _=>Le.n
 | fuel+1=>fun x=>match x with | (_,_,_,_,_,_)=>by rw[g3d];exact(Le.i (Le.i (Le.b Le.r fun _=>(Le.b Le.r fun _=>(Le.i (Le.b Le.r fun _=>(Le.i ((gjf fuel) _) Le.r)) Le.r))) Le.r) Le.r)
def gmy(x:List SSymbol × List SSymbol × Int × Int × List Int × List (List UInt8)) :Option (List SSymbol × List Int × List (List UInt8)):=(gg7 40) x
theorem gx4 :∀x,Le (gmy x) (g3d x):=(gjf 40)
def gs7(l:List SSymbol) :Option (Bool):=
 gmy (l,l,(l.length:Int),0,[],[]) >>=fun o=>
 some (decide (0 < (o.1.length:Int))) >>=fun t26=>
 (if t26=true then gs6 (o.2.1,o.2.2)else some false) >>=fun r=>
 some (bif t26 then r else false)
theorem g11b :∀x,Le (gs7 x) (g94 x):=fun _=>(Le.b (gx4 _) fun _=>(Le.b Le.r fun _=>(Le.b (Le.i (gxp _) Le.r) fun _=>Le.r)))
def gvx(v:SValue) :Option (Bool):=
 gpa (SValue.eta v,(⟨0,false,0,[],0,[],[],[]⟩:SValue)) >>=fun r=>
 some r
theorem g159 :∀x,Le (gvx x) (gha x):=fun _=>(Le.b (gvw _) fun _=>Le.r)
def gg8 :Nat→(List SMember × Int × Int × SType × List Int × List (List UInt8)→Option ((Bool) ⊕ (SType × List Int × List (List UInt8))))
 | 0=>fun _=>none
 | fuel+1=>
 fun(x_:List SMember × Int × Int × SType × List Int × List (List UInt8))=>match x_ with
 | (t8,t9_1,t10,b_3,b_4,b_5)=>
 if decide (t10 < t9_1)=true then
 if inR t10 t8.length=true then
 some (t8.getD t10.toNat dSMember) >>=fun x0=>
 some [x0.ID] >>=fun t17=>
 if room 8 (b_4++t17).length=true then
 some [x0.Name] >>=fun t22=>
 if room 16 (b_5++t22).length=true then
 some (bif bif decide (b_3.Kind=6)then bif x0.Critical then true else x0.HasDefault else false then true else bif x0.Critical then x0.HasDefault else false) >>=fun t42=>
 some (!x0.HasDefault) >>=fun t46=>
 (if((!t42) && t46)=true then gvx (SValue.eta x0.Default)else some false) >>=fun r_1=>
 if(bif t42 then true else bif t46 then(!r_1)else false)=true then
 some (.inl false)
 else
 (gg8 fuel) (t8,t9_1,addI .i64 t10 1,b_3,b_4++t17,b_5++t22)
 else none
 else none
 else none
 else
 some (.inr (b_3,b_4,b_5))
theorem gjg :∀n,(∀x,Le ((gg8 n) x) (g30 x))
 | 0=>fun _=>Le.n
 | fuel+1=>fun x=>match x with | (_,_,_,_,_,_)=>by rw[g30];exact(Le.i (Le.i (Le.b Le.r fun _=>(Le.b Le.r fun _=>(Le.i (Le.b Le.r fun _=>(Le.i (Le.b Le.r fun _=>(Le.b Le.r fun _=>(Le.b (Le.i (g159 _) Le.r) fun _=>(Le.i Le.r ((gjg fuel) _))))) Le.r)) Le.r))) Le.r) Le.r)
def gmz(x:List SMember × Int × Int × SType × List Int × List (List UInt8)) :Option ((Bool) ⊕ (SType × List Int × List (List UInt8))):=(gg8 40) x
theorem gx5 :∀x,Le (gmz x) (g30 x):=(gjg 40)
def gkj(t:SType) :Option (Bool):=
 gmz (t.Members,(t.Members.length:Int),0,t,[],[]) >>=fun o=>
 match o with
 | .inl o_1=>
 some o_1
 | .inr o_2=>
 some (bif decide (o_2.1.Kind=5)then true else decide (0 < (o_2.2.1.length:Int))) >>=fun t62=>
 (if t62=true then gs6 (o_2.2.1,o_2.2.2)else some false) >>=fun r=>
 some (bif t62 then r else false)
theorem gpw :∀x,Le (gkj x) (g7j x):=fun _=>(Le.b (gx5 _) fun o=>match o with | .inl _=>Le.r | .inr _=>(Le.b Le.r fun _=>(Le.b (Le.i (gxp _) Le.r) fun _=>Le.r)))
def gxq(t:SType) :Option (Bool):=
 if decide (t.Kind=1)=true then
 g1u ((⟨0,t.Name,t.Low,t.High,t.Max,t.Symbols,t.Members,t.Key,t.Elem,t.Open⟩:SType),(⟨0,[],0,0,0,[],[],0,0,false⟩:SType)) >>=fun r=>
 some r
 else
 if decide (t.Kind=2)=true then
 some (decide (t.Low≤t.High)) >>=fun t17=>
 (if t17=true then g1u ((⟨0,t.Name,0,0,t.Max,t.Symbols,t.Members,t.Key,t.Elem,t.Open⟩:SType),(⟨0,[],0,0,0,[],[],0,0,false⟩:SType))else some false) >>=fun r_1=>
 some (bif t17 then r_1 else false)
 else
 if decide (t.Kind=3)=true then
 some (bif decide (0≤t.Max)then decide (t.Max≤200)else false) >>=fun t29=>
 (if t29=true then g1u ((⟨0,t.Name,t.Low,t.High,0,t.Symbols,t.Members,t.Key,t.Elem,t.Open⟩:SType),(⟨0,[],0,0,0,[],[],0,0,false⟩:SType))else some false) >>=fun r_2=>
 some (bif t29 then r_2 else false)
 else
 if decide (t.Kind=4)=true then
 ge3 t.Name >>=fun r_3=>
 (if r_3=true then gs7 t.Symbols else some false) >>=fun r_4=>
 some (bif r_3 then r_4 else false) >>=fun t40=>
 (if t40=true then g1u ((⟨0,[],t.Low,t.High,t.Max,[],t.Members,t.Key,t.Elem,false⟩:SType),(⟨0,[],0,0,0,[],[],0,0,false⟩:SType))else some false) >>=fun r_5=>
 some (bif t40 then r_5 else false)
 else
 some (decide (t.Kind=5)) >>=fun t45=>
 if t45=true then
 if t45=true then
 ge3 t.Name >>=fun r_6=>
 (if r_6=true then gkj t else some false) >>=fun r_7=>
 some (bif r_6 then r_7 else false) >>=fun t53=>
 (if t53=true then g1u ((⟨0,[],t.Low,t.High,t.Max,t.Symbols,[],t.Key,t.Elem,bif t.Open then decide (t.Kind=5)else false⟩:SType),(⟨0,[],0,0,0,[],[],0,0,false⟩:SType))else some false) >>=fun r_8=>
 some (bif t53 then r_8 else false)
 else
 some (decide (t.Kind=7)) >>=fun t65=>
 if t65=true then
 if t65=true then
 some (bif decide (0≤t.Max)then decide (t.Max≤50)else false) >>=fun t74=>
 if decide (t.Kind=8)=true then
 (if t74=true then g1u ((⟨0,t.Name,t.Low,t.High,0,t.Symbols,t.Members,0,0,t.Open⟩:SType),(⟨0,[],0,0,0,[],[],0,0,false⟩:SType))else some false) >>=fun r_9=>
 some (bif t74 then r_9 else false)
 else
 (if t74=true then g1u ((⟨0,t.Name,t.Low,t.High,0,t.Symbols,t.Members,t.Key,0,t.Open⟩:SType),(⟨0,[],0,0,0,[],[],0,0,false⟩:SType))else some false) >>=fun r_10=>
 some (bif t74 then r_10 else false)
 else
 if decide (t.Kind=9)=true then
 g1u ((⟨0,t.Name,t.Low,t.High,t.Max,t.Symbols,t.Members,t.Key,0,t.Open⟩:SType),(⟨0,[],0,0,0,[],[],0,0,false⟩:SType)) >>=fun r_11=>
 some r_11
 else
 some false
 else
 if decide (t.Kind=8)=true then
 some (bif decide (0≤t.Max)then decide (t.Max≤50)else false) >>=fun t74_1=>
 if decide (t.Kind=8)=true then
 (if t74_1=true then g1u ((⟨0,t.Name,t.Low,t.High,0,t.Symbols,t.Members,0,0,t.Open⟩:SType),(⟨0,[],0,0,0,[],[],0,0,false⟩:SType))else some false) >>=fun r_12=>
 some (bif t74_1 then r_12 else false)
 else
 (if t74_1=true then g1u ((⟨0,t.Name,t.Low,t.High,0,t.Symbols,t.Members,t.Key,0,t.Open⟩:SType),(⟨0,[],0,0,0,[],[],0,0,false⟩:SType))else some false) >>=fun r_13=>
 some (bif t74_1 then r_13 else false)
 else
 if decide (t.Kind=9)=true then
 g1u ((⟨0,t.Name,t.Low,t.High,t.Max,t.Symbols,t.Members,t.Key,0,t.Open⟩:SType),(⟨0,[],0,0,0,[],[],0,0,false⟩:SType)) >>=fun r_14=>
 some r_14
 else
 some false
 else
 if decide (t.Kind=6)=true then
 ge3 t.Name >>=fun r_15=>
 (if r_15=true then gkj t else some false) >>=fun r_16=>
 some (bif r_15 then r_16 else false) >>=fun t53_1=>
 (if t53_1=true then g1u ((⟨0,[],t.Low,t.High,t.Max,t.Symbols,[],t.Key,t.Elem,bif t.Open then decide (t.Kind=5)else false⟩:SType),(⟨0,[],0,0,0,[],[],0,0,false⟩:SType))else some false) >>=fun r_17=>
 some (bif t53_1 then r_17 else false)
 else
 some (decide (t.Kind=7)) >>=fun t65_1=>
 if t65_1=true then
 if t65_1=true then
 some (bif decide (0≤t.Max)then decide (t.Max≤50)else false) >>=fun t74_2=>
 if decide (t.Kind=8)=true then
 (if t74_2=true then g1u ((⟨0,t.Name,t.Low,t.High,0,t.Symbols,t.Members,0,0,t.Open⟩:SType),(⟨0,[],0,0,0,[],[],0,0,false⟩:SType))else some false) >>=fun r_18=>
 some (bif t74_2 then r_18 else false)
 else
 (if t74_2=true then g1u ((⟨0,t.Name,t.Low,t.High,0,t.Symbols,t.Members,t.Key,0,t.Open⟩:SType),(⟨0,[],0,0,0,[],[],0,0,false⟩:SType))else some false) >>=fun r_19=>
 some (bif t74_2 then r_19 else false)
 else
 if decide (t.Kind=9)=true then
 g1u ((⟨0,t.Name,t.Low,t.High,t.Max,t.Symbols,t.Members,t.Key,0,t.Open⟩:SType),(⟨0,[],0,0,0,[],[],0,0,false⟩:SType)) >>=fun r_20=>
 some r_20
 else
 some false
 else
 if decide (t.Kind=8)=true then
 some (bif decide (0≤t.Max)then decide (t.Max≤50)else false) >>=fun t74_3=>
 if decide (t.Kind=8)=true then
 (if t74_3=true then g1u ((⟨0,t.Name,t.Low,t.High,0,t.Symbols,t.Members,0,0,t.Open⟩:SType),(⟨0,[],0,0,0,[],[],0,0,false⟩:SType))else some false) >>=fun r_21=>
 some (bif t74_3 then r_21 else false)
 else
 (if t74_3=true then g1u ((⟨0,t.Name,t.Low,t.High,0,t.Symbols,t.Members,t.Key,0,t.Open⟩:SType),(⟨0,[],0,0,0,[],[],0,0,false⟩:SType))else some false) >>=fun r_22=>
 some (bif t74_3 then r_22 else false)
 else
 if decide (t.Kind=9)=true then
 g1u ((⟨0,t.Name,t.Low,t.High,t.Max,t.Symbols,t.Members,t.Key,0,t.Open⟩:SType),(⟨0,[],0,0,0,[],[],0,0,false⟩:SType)) >>=fun r_23=>
 some r_23
 else
 some false
theorem g16h :∀x,Le (gxq x) (g1o x):=fun _=>(Le.i (Le.b (g1q _) fun _=>Le.r) (Le.i (Le.b Le.r fun _=>(Le.b (Le.i (g1q _) Le.r) fun _=>Le.r)) (Le.i (Le.b Le.r fun _=>(Le.b (Le.i (g1q _) Le.r) fun _=>Le.r)) (Le.i (Le.b (ggs _) fun _=>(Le.b (Le.i (g11b _) Le.r) fun _=>(Le.b Le.r fun _=>(Le.b (Le.i (g1q _) Le.r) fun _=>Le.r)))) (Le.b Le.r fun _=>(Le.i (Le.i (Le.b (ggs _) fun _=>(Le.b (Le.i (gpw _) Le.r) fun _=>(Le.b Le.r fun _=>(Le.b (Le.i (g1q _) Le.r) fun _=>Le.r)))) (Le.b Le.r fun _=>(Le.i (Le.i (Le.b Le.r fun _=>(Le.i (Le.b (Le.i (g1q _) Le.r) fun _=>Le.r) (Le.b (Le.i (g1q _) Le.r) fun _=>Le.r))) (Le.i (Le.b (g1q _) fun _=>Le.r) Le.r)) (Le.i (Le.b Le.r fun _=>(Le.i (Le.b (Le.i (g1q _) Le.r) fun _=>Le.r) (Le.b (Le.i (g1q _) Le.r) fun _=>Le.r))) (Le.i (Le.b (g1q _) fun _=>Le.r) Le.r))))) (Le.i (Le.b (ggs _) fun _=>(Le.b (Le.i (gpw _) Le.r) fun _=>(Le.b Le.r fun _=>(Le.b (Le.i (g1q _) Le.r) fun _=>Le.r)))) (Le.b Le.r fun _=>(Le.i (Le.i (Le.b Le.r fun _=>(Le.i (Le.b (Le.i (g1q _) Le.r) fun _=>Le.r) (Le.b (Le.i (g1q _) Le.r) fun _=>Le.r))) (Le.i (Le.b (g1q _) fun _=>Le.r) Le.r)) (Le.i (Le.b Le.r fun _=>(Le.i (Le.b (Le.i (g1q _) Le.r) fun _=>Le.r) (Le.b (Le.i (g1q _) Le.r) fun _=>Le.r))) (Le.i (Le.b (g1q _) fun _=>Le.r) Le.r)))))))))))
def gkk :Nat→(List SMember × Int × Int × SType × List Int→Option (SType × List Int))
 | 0=>fun _=>none
 | fuel+1=>
 fun(x_:List SMember × Int × Int × SType × List Int)=>match x_ with
 | (t7,t8_1,t9,b_2,b_3)=>
 if decide (t9 < t8_1)=true then
 if inR t9 t7.length=true then
 some [(t7.getD t9.toNat dSMember).Type_] >>=fun t16=>
 if room 8 (b_3++t16).length=true then
 (gkk fuel) (t7,t8_1,addI .i64 t9 1,b_2,b_3++t16)
 else none
 else none
 else
 some (b_2,b_3)
theorem gn0 :∀n,(∀x,Le ((gkk n) x) (g4y x))
 | 0=>fun _=>Le.n
 | fuel+1=>fun x=>match x with | (_,_,_,_,_)=>by rw[g4y];exact(Le.i (Le.i (Le.b Le.r fun _=>(Le.i ((gn0 fuel) _) Le.r)) Le.r) Le.r)
def gs8(x:List SMember × Int × Int × SType × List Int) :Option (SType × List Int):=(gkk 40) x
theorem g11c :∀x,Le (gs8 x) (g4y x):=(gn0 40)
def gxr(t:SType) :Option (List Int):=
 gs8 (t.Members,(t.Members.length:Int),0,t,[]) >>=fun o=>
 if decide (o.1.Kind=8)=true then
 some [o.1.Key] >>=fun t25=>
 if room 8 (o.2++t25).length=true then
 some (o.2++t25) >>=fun l=>
 if decide (7≤o.1.Kind)=true then
 some [o.1.Elem] >>=fun t33=>
 if room 8 (l++t33).length=true then
 some (l++t33)
 else none
 else
 some l
 else none
 else
 if decide (7≤o.1.Kind)=true then
 some [o.1.Elem] >>=fun t33_1=>
 if room 8 (o.2++t33_1).length=true then
 some (o.2++t33_1)
 else none
 else
 some o.2
theorem g16i :∀x,Le (gxr x) (gj5 x):=fun _=>(Le.b (g11c _) fun _=>Le.r)
def gg9 :Nat→(List SType × Int × Int × List Int × Int × Int × List SType × List (List UInt8) × Int × List UInt8 × Int × Int × Int × List SSymbol × List SMember × Int × Int × Bool→Option ((Int) ⊕ (List SType × Int × Int × List SType × List (List UInt8) × Int × List UInt8 × Int × Int × Int × List SSymbol × List SMember × Int × Int × Bool)))
 | 0=>fun _=>none
 | fuel+1=>
 fun(x_:List SType × Int × Int × List Int × Int × Int × List SType × List (List UInt8) × Int × List UInt8 × Int × Int × Int × List SSymbol × List SMember × Int × Int × Bool)=>match x_ with
 | (t14_2,t15_3,t16_2,t38,t39_1,t40,b_14,b_15,b_16,b_17,b_18,b_19,b_20,b_21,b_22,b_23,b_24,b_25)=>
 if decide (t40 < t39_1)=true then
 if inR t40 t38.length=true then
 some (t38.getD t40.toNat 0) >>=fun x0_3=>
 if(bif decide (x0_3 < 0)then true else decide ((b_14.length:Int)≤x0_3))=true then
 some (.inl 4)
 else
 (gg9 fuel) (t14_2,t15_3,t16_2,t38,t39_1,addI .i64 t40 1,b_14,b_15,b_16,b_17,b_18,b_19,b_20,b_21,b_22,b_23,b_24,b_25)
 else none
 else
 some (.inr (t14_2,t15_3,t16_2,b_14,b_15,b_16,b_17,b_18,b_19,b_20,b_21,b_22,b_23,b_24,b_25))
theorem gjh :∀n,(∀x,Le ((gg9 n) x) (g31 x))
 | 0=>fun _=>Le.n
 | fuel+1=>fun x=>match x with | (_,_,_,_,_,_,_,_,_,_,_,_,_,_,_,_,_,_)=>by rw[g31];exact(Le.i (Le.i (Le.b Le.r fun _=>(Le.i Le.r ((gjh fuel) _))) Le.r) Le.r)
def gn1(x:List SType × Int × Int × List Int × Int × Int × List SType × List (List UInt8) × Int × List UInt8 × Int × Int × Int × List SSymbol × List SMember × Int × Int × Bool) :Option ((Int) ⊕ (List SType × Int × Int × List SType × List (List UInt8) × Int × List UInt8 × Int × Int × Int × List SSymbol × List SMember × Int × Int × Bool)):=(gg9 40) x
theorem gx6 :∀x,Le (gn1 x) (g31 x):=(gjh 40)
def giw :Nat→(List SType × Int × Int × List SType × List (List UInt8)→Option ((Int) ⊕ (Unit)))
 | 0=>fun _=>none
 | fuel+1=>
 fun(x_:List SType × Int × Int × List SType × List (List UInt8))=>match x_ with
 | (t14,t15_1,t16,b,b_1)=>
 if decide (t16 < t15_1)=true then
 if inR t16 t14.length=true then
 some (t14.getD t16.toNat dSType) >>=fun x0=>
 gxq x0 >>=fun r=>
 if(bif (!r)then true else bif (!(decide (x0.Name=[])))then hasS b_1 x0.Name else false)=true then
 some (.inl 1)
 else
 gxr x0 >>=fun r_1=>
 gn1 (t14,t15_1,t16,r_1,(r_1.length:Int),0,b,addS b_1 x0.Name,x0.Kind,x0.Name,x0.Low,x0.High,x0.Max,x0.Symbols,x0.Members,x0.Key,x0.Elem,x0.Open) >>=fun o_3=>
 match o_3 with
 | .inl o_4=>
 some (.inl o_4)
 | .inr o_5=>
 some (decide (o_5.2.2.2.2.2.1=8)) >>=fun t56=>
 if(inR o_5.2.2.2.2.2.2.2.2.2.2.2.2.1 o_5.2.2.2.1.length || (!t56))=true then
 some (decide ((o_5.2.2.2.1.getD o_5.2.2.2.2.2.2.2.2.2.2.2.2.1.toNat dSType).Kind < 1)) >>=fun t65=>
 if(inR o_5.2.2.2.2.2.2.2.2.2.2.2.2.1 o_5.2.2.2.1.length || (!(t56 && (!t65))))=true then
 if(bif t56 then bif t65 then true else decide (4 < (o_5.2.2.2.1.getD o_5.2.2.2.2.2.2.2.2.2.2.2.2.1.toNat dSType).Kind)else false)=true then
 some (.inl 1)
 else
 (giw fuel) (o_5.1,o_5.2.1,addI .i64 o_5.2.2.1 1,o_5.2.2.2.1,o_5.2.2.2.2.1)
 else none
 else none
 else none
 else
 some (.inr ())
theorem gm4 :∀n,(∀x,Le ((giw n) x) (g4e x))
 | 0=>fun _=>Le.n
 | fuel+1=>fun x=>match x with | (_,_,_,_,_)=>by rw[g4e];exact(Le.i (Le.i (Le.b Le.r fun _=>(Le.b (g16h _) fun _=>(Le.i Le.r (Le.b (g16i _) fun _=>(Le.b (gx6 _) fun o=>match o with | .inl _=>Le.r | .inr _=>(Le.b Le.r fun _=>(Le.i (Le.b Le.r fun _=>(Le.i (Le.i Le.r ((gm4 fuel) _)) Le.r)) Le.r))))))) Le.r) Le.r)
def gpx(x:List SType × Int × Int × List SType × List (List UInt8)) :Option ((Int) ⊕ (Unit)):=(giw 40) x
theorem gzz :∀x,Le (gpx x) (g4e x):=(gm4 40)
def gvy(s:SSchema) :Option (Int):=
 if decide (32 < (s.Types.length:Int))=true then
 some 3
 else
 gpx (s.Types,(s.Types.length:Int),0,s.Types,[]) >>=fun o=>
 match o with
 | .inl o_1=>
 some o_1
 | .inr o_2=>
 some 0
theorem g15a :∀x,Le (gvy x) (gba x):=fun _=>(Le.i Le.r (Le.b (gzz _) fun _=>Le.r))
def gkl(x_:SSchema × Int) :Option (Int):=
 match x_ with
 | (s,t)=>
 gvy (⟨s.Types⟩:SSchema) >>=fun r=>
 if(!(decide (r=0)))=true then
 some r
 else
 if(bif decide (t < 0)then true else decide ((s.Types.length:Int)≤t))=true then
 some 4
 else
 some 0
theorem gpy :∀x,Le (gkl x) (gb1 x):=fun x=>match x with | (_,_)=>(Le.b (g15a _) fun _=>Le.r)
def g100(v:SValue) :Option (SValue):=
 if decide (v.Kind=1)=true then
 some (⟨v.Kind,v.Bool_,0,[],0,[],[],[]⟩:SValue)
 else
 if decide (v.Kind=2)=true then
 some (⟨v.Kind,false,v.Int_,[],0,[],[],[]⟩:SValue)
 else
 if decide (v.Kind=3)=true then
 some (⟨v.Kind,false,0,v.Str,0,[],[],[]⟩:SValue)
 else
 if decide (v.Kind=4)=true then
 some (⟨v.Kind,false,0,[],v.ID,[],[],[]⟩:SValue)
 else
 if decide (v.Kind=5)=true then
 some (⟨v.Kind,false,0,[],0,[],v.Items,v.Rest⟩:SValue)
 else
 if decide (v.Kind=6)=true then
 some (⟨v.Kind,false,0,[],v.ID,[],v.Items,v.Rest⟩:SValue)
 else
 if decide (v.Kind=8)=true then
 some (⟨v.Kind,false,0,[],0,v.Keys,v.Items,[]⟩:SValue)
 else
 some (decide (v.Kind=7)) >>=fun t57=>
 if t57=true then
 if t57=true then
 some (⟨v.Kind,false,0,[],0,[],v.Items,[]⟩:SValue)
 else
 some (⟨v.Kind,false,0,[],0,[],[],[]⟩:SValue)
 else
 if decide (v.Kind=9)=true then
 some (⟨v.Kind,false,0,[],0,[],v.Items,[]⟩:SValue)
 else
 some (⟨v.Kind,false,0,[],0,[],[],[]⟩:SValue)
theorem g18f :∀x,Le (g100 x) (glf x):=fun _=>Le.r
def gvz(v:SValue) :Option (Bool):=
 g100 (SValue.eta v) >>=fun r=>
 some (bif bif bif bif bif bif eqB v.Bool_ r.Bool_ then decide (v.Int_=r.Int_)else false then decide (v.Str=r.Str)else false then decide (v.ID=r.ID)else false then decide ((v.Keys.length:Int)=(r.Keys.length:Int))else false then decide ((v.Items.length:Int)=(r.Items.length:Int))else false then decide ((v.Rest.length:Int)=(r.Rest.length:Int))else false)
theorem g15b :∀x,Le (gvz x) (ghc x):=fun _=>(Le.b (g18f _) fun _=>Le.r)
def gpz(x_:SSymbol × Int) :Option (Bool × Int):=
 match x_ with
 | (x0,b)=>
 some (decide (x0.ID=b),b)
theorem g101 :∀x,Le (gpz x) (ggb x):=fun x=>match x with | (_,_)=>Le.r
def g51 :Nat→(List SSymbol × Int × Int × Int→Option ((Int × Int) ⊕ (Int)))
 | 0=>fun _=>none
 | fuel+1=>
 fun(x_:List SSymbol × Int × Int × Int)=>match x_ with
 | (s_1,t7_1,t8,b_3)=>
 if decide (t8 < t7_1)=true then
 if inR t8 s_1.length=true then
 gpz (s_1.getD t8.toNat dSSymbol,b_3) >>=fun r=>
 if r.1=true then
 some (.inl (t8,r.2))
 else
 (g51 fuel) (s_1,t7_1,addI .i64 t8 1,r.2)
 else none
 else
 some (.inr b_3)
theorem g6p :∀n,(∀x,Le ((g51 n) x) (gv x))
 | 0=>fun _=>Le.n
 | fuel+1=>fun x=>match x with | (_,_,_,_)=>by rw[gv];exact(Le.i (Le.i (Le.b (g101 _) fun _=>(Le.i Le.r ((g6p fuel) _))) Le.r) Le.r)
def g7q(x:List SSymbol × Int × Int × Int) :Option ((Int × Int) ⊕ (Int)):=(g51 40) x
theorem gd7 :∀x,Le (g7q x) (gv x):=(g6p 40)
def g8p(x_:List SSymbol × Int) :Option (Int × Int):=
 match x_ with
 | (s,b)=>
 g7q (s,(s.length:Int),0,b) >>=fun o=>
 match o with
 | .inl o_1=>
 some (o_1.1,o_1.2)
 | .inr o_2=>
 some ((-1),o_2)
theorem gf7 :∀x,Le (g8p x) (g44 x):=fun x=>match x with | (_,_)=>(Le.b (gd7 _) fun _=>Le.r)
def gm5(x_:SType × Int) :Option (Int × Bool):=
 match x_ with
 | (t,id)=>
 g8p (t.Symbols,id) >>=fun r=>
 some (maxI r.1 0,decide (0≤r.1))
theorem gs9 :∀x,Le (gm5 x) (gc2 x):=fun x=>match x with | (_,_)=>(Le.b (gf7 _) fun _=>Le.r)
def gm6(id:Int) :Option (Bool):=
 some (bif decide (1≤id)then decide (id≤1000)else false)
theorem gpb :∀x,Le (gm6 x) (gie x):=fun _=>Le.r
def gq0(x_:SMember × Int) :Option (Bool × Int):=
 match x_ with
 | (m,b)=>
 some (decide (m.ID=b),b)
theorem g102 :∀x,Le (gq0 x) (ggd x):=fun x=>match x with | (_,_)=>Le.r
def g52 :Nat→(List SMember × Int × Int × Int→Option ((Int × Int) ⊕ (Int)))
 | 0=>fun _=>none
 | fuel+1=>
 fun(x_:List SMember × Int × Int × Int)=>match x_ with
 | (s_1,t7_1,t8,b_3)=>
 if decide (t8 < t7_1)=true then
 if inR t8 s_1.length=true then
 some (s_1.getD t8.toNat dSMember) >>=fun x0=>
 gq0 ((⟨x0.ID,x0.Name,x0.Type_,x0.Critical,x0.HasDefault,SValue.eta x0.Default⟩:SMember),b_3) >>=fun r=>
 if r.1=true then
 some (.inl (t8,r.2))
 else
 (g52 fuel) (s_1,t7_1,addI .i64 t8 1,r.2)
 else none
 else
 some (.inr b_3)
theorem g6q :∀n,(∀x,Le ((g52 n) x) (gz x))
 | 0=>fun _=>Le.n
 | fuel+1=>fun x=>match x with | (_,_,_,_)=>by rw[gz];exact(Le.i (Le.i (Le.b Le.r fun _=>(Le.b (g102 _) fun _=>(Le.i Le.r ((g6q fuel) _)))) Le.r) Le.r)
def g7r(x:List SMember × Int × Int × Int) :Option ((Int × Int) ⊕ (Int)):=(g52 40) x
theorem gd8 :∀x,Le (g7r x) (gz x):=(g6q 40)
def g8q(x_:List SMember × Int) :Option (Int × Int):=
 match x_ with
 | (s,b)=>
 g7r (s,(s.length:Int),0,b) >>=fun o=>
 match o with
 | .inl o_1=>
 some (o_1.1,o_1.2)
 | .inr o_2=>
 some ((-1),o_2)
theorem gf8 :∀x,Le (g8q x) (g45 x):=fun x=>match x with | (_,_)=>(Le.b (gd8 _) fun _=>Le.r)
def g8j(x_:SType × Int) :Option (Int × Bool):=
 match x_ with
 | (t,id)=>
 g8q (t.Members,id) >>=fun r=>
 some (maxI r.1 0,decide (0≤r.1))
theorem g9e :∀x,Le (g8j x) (g38 x):=fun x=>match x with | (_,_)=>(Le.b (gf8 _) fun _=>Le.r)
def gm7 :Nat→(Bool × List SRaw × Int × Int × List SType × SValue × Int × List UInt8 × Int × Int × Int × List SSymbol × List SMember × Int × Int × Bool→Option ((Bool) ⊕ (Bool × List SType × Int × Bool × Int × List UInt8 × Int × List SValue × List SValue × List SRaw × Int × List UInt8 × Int × Int × Int × List SSymbol × List SMember × Int × Int × Bool)))
 | 0=>fun _=>none
 | fuel+1=>
 fun(x_:Bool × List SRaw × Int × Int × List SType × SValue × Int × List UInt8 × Int × Int × Int × List SSymbol × List SMember × Int × Int × Bool)=>match x_ with
 | (plain_3,t111,t112_1,t113,b_31,b_32,b_33,b_34,b_35,b_36,b_37,b_38,b_39,b_40,b_41,b_42)=>
 if decide (t113 < t112_1)=true then
 if inR t113 t111.length=true then
 some (t111.getD t113.toNat dSRaw) >>=fun x0_4=>
 g8j ((⟨b_33,b_34,b_35,b_36,b_37,b_38,b_39,b_40,b_41,b_42⟩:SType),x0_4.ID) >>=fun r_14=>
 (if(!r_14.2)=true then gm6 x0_4.ID else some false) >>=fun r_17=>
 some (bif r_14.2 then true else(!r_17)) >>=fun t131=>
 some (decide (0 < t113)) >>=fun t134=>
 some (subI .i64 t113 1) >>=fun t141=>
 if(inR t141 b_32.Rest.length || (!((!t131) && t134)))=true then
 if(bif t131 then true else bif t134 then decide (x0_4.ID≤(b_32.Rest.getD t141.toNat dSRaw).ID)else false)=true then
 some (.inl false)
 else
 (gm7 fuel) (plain_3,t111,t112_1,addI .i64 t113 1,b_31,SValue.eta b_32,b_33,b_34,b_35,b_36,b_37,b_38,b_39,b_40,b_41,b_42)
 else none
 else none
 else
 some (.inr (plain_3,b_31,b_32.Kind,b_32.Bool_,b_32.Int_,b_32.Str,b_32.ID,b_32.Keys,b_32.Items,b_32.Rest,b_33,b_34,b_35,b_36,b_37,b_38,b_39,b_40,b_41,b_42))
theorem goq :∀n,(∀x,Le ((gm7 n) x) (g32 x))
 | 0=>fun _=>Le.n
 | fuel+1=>fun x=>match x with | (_,_,_,_,_,_,_,_,_,_,_,_,_,_,_,_)=>by rw[g32];exact(Le.i (Le.i (Le.b Le.r fun _=>(Le.b (g9e _) fun _=>(Le.b (Le.i (gpb _) Le.r) fun _=>(Le.b Le.r fun _=>(Le.b Le.r fun _=>(Le.b Le.r fun _=>(Le.i (Le.i Le.r ((goq fuel) _)) Le.r))))))) Le.r) Le.r)
def gtj(x:Bool × List SRaw × Int × Int × List SType × SValue × Int × List UInt8 × Int × Int × Int × List SSymbol × List SMember × Int × Int × Bool) :Option ((Bool) ⊕ (Bool × List SType × Int × Bool × Int × List UInt8 × Int × List SValue × List SValue × List SRaw × Int × List UInt8 × Int × Int × Int × List SSymbol × List SMember × Int × Int × Bool)):=(gm7 40) x
theorem g137 :∀x,Le (gtj x) (g32 x):=(goq 40)
def guk(x0:Int) :Option (Bool):=
 some (!(decide (x0=x0)))
theorem g103 :∀x,Le (guk x) (gob x):=fun _=>Le.r
def gxs(x_:Int × Int) :Option (Int):=
 match x_ with
 | (x0,y)=>
 guk x0 >>=fun r=>
 guk y >>=fun r_1=>
 if r=true then
 if r_1=true then
 some 0
 else
 some (-1)
 else
 if r_1=true then
 some 1
 else
 if decide (x0 < y)=true then
 some (-1)
 else
 if decide (y < x0)=true then
 some 1
 else
 some 0
theorem g16j :∀x,Le (gxs x) (gj6 x):=fun x=>match x with | (_,_)=>(Le.b (g103 _) fun _=>(Le.b (g103 _) fun _=>Le.r))
def gpc(x0:Int) :Option (Bool):=
 some (!(decide (x0=x0)))
theorem gw0 :∀x,Le (gpc x) (gj7 x):=fun _=>Le.r
def gm8(x_:Int × Int) :Option (Int):=
 match x_ with
 | (x0,y)=>
 gpc x0 >>=fun r=>
 gpc y >>=fun r_1=>
 if r=true then
 if r_1=true then
 some 0
 else
 some (-1)
 else
 if r_1=true then
 some 1
 else
 if decide (x0 < y)=true then
 some (-1)
 else
 if decide (y < x0)=true then
 some 1
 else
 some 0
theorem gsa :∀x,Le (gm8 x) (gc3 x):=fun x=>match x with | (_,_)=>(Le.b (gw0 _) fun _=>(Le.b (gw0 _) fun _=>Le.r))
def gpd(x0:List UInt8) :Option (Bool):=
 some (!(decide (x0=x0)))
theorem gw1 :∀x,Le (gpd x) (gj8 x):=fun _=>Le.r
def gtk(x_:List UInt8 × List UInt8) :Option (Int):=
 match x_ with
 | (x0,y)=>
 gpd x0 >>=fun r=>
 gpd y >>=fun r_1=>
 if r=true then
 if r_1=true then
 some 0
 else
 some (-1)
 else
 if r_1=true then
 some 1
 else
 if Op.bytesLess x0 y=true then
 some (-1)
 else
 if(!(Op.bytesLess x0 y || decide (x0=y)))=true then
 some 1
 else
 some 0
theorem g138 :∀x,Le (gtk x) (gfg x):=fun x=>match x with | (_,_)=>(Le.b (gw1 _) fun _=>(Le.b (gw1 _) fun _=>Le.r))
def gul :Nat→(Int × List Int × Int × Int→Option ((Int) ⊕ (Int)))
 | 0=>fun _=>none
 | fuel+1=>
 fun(x_:Int × List Int × Int × Int)=>match x_ with
 | (zero_1,t6,t7_1,t8)=>
 if decide (t8 < t7_1)=true then
 if inR t8 t6.length=true then
 some (t6.getD t8.toNat 0) >>=fun x0=>
 if(!(decide (x0=zero_1)))=true then
 some (.inl x0)
 else
 (gul fuel) (zero_1,t6,t7_1,addI .i64 t8 1)
 else none
 else
 some (.inr zero_1)
theorem gw2 :∀n,(∀x,Le ((gul n) x) (g7m x))
 | 0=>fun _=>Le.n
 | fuel+1=>fun x=>match x with | (_,_,_,_)=>by rw[g7m];exact(Le.i (Le.i (Le.b Le.r fun _=>(Le.i Le.r ((gw2 fuel) _))) Le.r) Le.r)
def g123(x:Int × List Int × Int × Int) :Option ((Int) ⊕ (Int)):=(gul 40) x
theorem g1a0 :∀x,Le (g123 x) (g7m x):=(gw2 40)
def g1a1(vals:List Int) :Option (Int):=
 g123 (0,vals,(vals.length:Int),0) >>=fun o=>
 match o with
 | .inl o_1=>
 some o_1
 | .inr o_2=>
 some o_2
theorem g1fu :∀x,Le (g1a1 x) (gzl x):=fun _=>(Le.b (g1a0 _) fun _=>Le.r)
def ggt(n:Int) :Option (Int):=
 some (xorI .u64 (shlI .u64 (wrp .u64 n) 1) (wrp .u64 (shrI .i64 n 63)))
theorem gkm :∀x,Le (ggt x) (ga4 x):=fun _=>Le.r
def gtl(x_:SValue × SValue) :Option (Int):=
 match x_ with
 | (a,b)=>
 if(!(decide (a.Kind=b.Kind)))=true then
 some 0
 else
 if decide (a.Kind=1)=true then
 if eqB a.Bool_ b.Bool_=true then
 some 0
 else
 if b.Bool_=true then
 some (-1)
 else
 some 1
 else
 if decide (a.Kind=2)=true then
 ggt a.Int_ >>=fun r=>
 ggt b.Int_ >>=fun r_1=>
 gxs (r,r_1) >>=fun r_2=>
 some r_2
 else
 if decide (a.Kind=3)=true then
 gm8 ((a.Str.length:Int),(b.Str.length:Int)) >>=fun r_3=>
 gtk (a.Str,b.Str) >>=fun r_4=>
 g1a1 [r_3,r_4] >>=fun r_5=>
 some r_5
 else
 if decide (a.Kind=4)=true then
 gm8 (a.ID,b.ID) >>=fun r_6=>
 some r_6
 else
 some 0
theorem g139 :∀x,Le (gtl x) (g8o x):=fun x=>match x with | (_,_)=>(Le.i Le.r (Le.i Le.r (Le.i (Le.b (gkm _) fun _=>(Le.b (gkm _) fun _=>(Le.b (g16j _) fun _=>Le.r))) (Le.i (Le.b (gsa _) fun _=>(Le.b (g138 _) fun _=>(Le.b (g1fu _) fun _=>Le.r))) (Le.i (Le.b (gsa _) fun _=>Le.r) Le.r)))))
def gm9 :Nat→(Bool × Int × List SType × SValue × Int × List UInt8 × Int × Int × Int × List SSymbol × List SMember × Int × Int × Bool→Option ((Bool) ⊕ (Bool × List SType × SValue × Int × List UInt8 × Int × Int × Int × List SSymbol × List SMember × Int × Int × Bool)))
 | 0=>fun _=>none
 | fuel+1=>
 fun(x_:Bool × Int × List SType × SValue × Int × List UInt8 × Int × Int × Int × List SSymbol × List SMember × Int × Int × Bool)=>match x_ with
 | (plain_5,i,b_52,b_53,b_54,b_55,b_56,b_57,b_58,b_59,b_60,b_61,b_62,b_63)=>
 if decide (i < (b_53.Keys.length:Int))=true then
 some (subI .i64 i 1) >>=fun t291=>
 if inR t291 b_53.Keys.length=true then
 if inR i b_53.Keys.length=true then
 gtl (SValue.eta (b_53.Keys.getD t291.toNat dSValue),SValue.eta (b_53.Keys.getD i.toNat dSValue)) >>=fun r_19=>
 if decide (0≤r_19)=true then
 some (.inl false)
 else
 (gm9 fuel) (plain_5,addI .i64 i 1,b_52,SValue.eta b_53,b_54,b_55,b_56,b_57,b_58,b_59,b_60,b_61,b_62,b_63)
 else none
 else none
 else
 some (.inr (plain_5,b_52,SValue.eta b_53,b_54,b_55,b_56,b_57,b_58,b_59,b_60,b_61,b_62,b_63))
theorem gor :∀n,(∀x,Le ((gm9 n) x) (g2o x))
 | 0=>fun _=>Le.n
 | fuel+1=>fun x=>match x with | (_,_,_,_,_,_,_,_,_,_,_,_,_,_)=>by rw[g2o];exact(Le.i (Le.b Le.r fun _=>(Le.i (Le.i (Le.b (g139 _) fun _=>(Le.i Le.r ((gor fuel) _))) Le.r) Le.r)) Le.r)
def gtm(x:Bool × Int × List SType × SValue × Int × List UInt8 × Int × Int × Int × List SSymbol × List SMember × Int × Int × Bool) :Option ((Bool) ⊕ (Bool × List SType × SValue × Int × List UInt8 × Int × Int × Int × List SSymbol × List SMember × Int × Int × Bool)):=(gm9 40) x
theorem g13a :∀x,Le (gtm x) (g2o x):=(gor 40)
def ge :Nat→(List SValue × List SType × Int × Bool→Option (Bool × List SType × Int × Bool)) × (List SValue × List SType × Int × Bool→Option (Int × List SType × Int × Bool)) × (SSchema × Int × List SValue × Bool→Option (Bool)) × (SValue × List SType × Int × Bool→Option (Bool × List SType × Int × Bool)) × (SSchema × Int × SValue × Bool→Option (Bool)) × (List SValue × Int × Int × List SType × Int × Bool→Option ((Int × List SType × Int × Bool) ⊕ (List SType × Int × Bool))) × (Bool × List SMember × Int × Int × List SType × Int × Bool × Int × List UInt8 × Int × List SValue × List SValue × List SRaw→Option ((Bool) ⊕ (Unit)))
 | 0=>(fun _=>none,fun _=>none,fun _=>none,fun _=>none,fun _=>none,fun _=>none,fun _=>none)
 | fuel+1=>
 (fun(x_:List SValue × List SType × Int × Bool)=>match x_ with
 | (s,b,b_1,b_2)=>
 (ge fuel).2.1 (s,b,b_1,b_2) >>=fun r=>
 some (decide (0≤r.1),r.2.1,r.2.2.1,r.2.2.2),
 fun(x_:List SValue × List SType × Int × Bool)=>match x_ with
 | (s,b,b_1,b_2)=>
 (ge fuel).2.2.2.2.2.1 (s,(s.length:Int),0,b,b_1,b_2) >>=fun o=>
 match o with
 | .inl o_1=>
 some (o_1.1,o_1.2.1,o_1.2.2.1,o_1.2.2.2)
 | .inr o_2=>
 some ((-1),o_2.1,o_2.2.1,o_2.2.2),
 fun(x_:SSchema × Int × List SValue × Bool)=>match x_ with
 | (s,t,l,plain)=>
 (ge fuel).1 (l,s.Types,t,plain) >>=fun r=>
 some (!r.1),
 fun(x_:SValue × List SType × Int × Bool)=>match x_ with
 | (v,b,b_1,b_2)=>
 (ge fuel).2.2.2.2.1 ((⟨b⟩:SSchema),b_1,SValue.eta v,b_2) >>=fun r=>
 some ((!r),b,b_1,b_2),
 fun(x_:SSchema × Int × SValue × Bool)=>match x_ with
 | (s,t,v,plain)=>
 if(bif decide (t < 0)then true else decide ((s.Types.length:Int)≤t))=true then
 some false
 else
 if inR t s.Types.length=true then
 some (s.Types.getD t.toNat dSType) >>=fun x0=>
 some (!(decide (v.Kind=x0.Kind))) >>=fun t39=>
 (if(!t39)=true then gvz (SValue.eta v)else some false) >>=fun r=>
 if(bif t39 then true else(!r))=true then
 some false
 else
 if decide (x0.Kind=2)=true then
 some (bif decide (x0.Low≤v.Int_)then decide (v.Int_≤x0.High)else false)
 else
 if decide (x0.Kind=3)=true then
 some (decide ((v.Str.length:Int)≤x0.Max))
 else
 if decide (x0.Kind=4)=true then
 gm5 (x0,v.ID) >>=fun r_1=>
 some (bif x0.Open then(!plain)else false) >>=fun t85=>
 (if((!r_1.2) && t85)=true then gm6 v.ID else some false) >>=fun r_4=>
 some (bif r_1.2 then true else bif t85 then r_4 else false)
 else
 if decide (x0.Kind=5)=true then
 if(bif (!(decide ((v.Items.length:Int)=(x0.Members.length:Int))))then true else bif plain then decide (0 < (v.Rest.length:Int))else false)=true then
 some false
 else
 gtj (plain,v.Rest,(v.Rest.length:Int),0,s.Types,SValue.eta v,x0.Kind,x0.Name,x0.Low,x0.High,x0.Max,x0.Symbols,x0.Members,x0.Key,x0.Elem,x0.Open) >>=fun o=>
 match o with
 | .inl o_1=>
 some o_1
 | .inr o_2=>
 (ge fuel).2.2.2.2.2.2 (o_2.1,o_2.2.2.2.2.2.2.2.2.2.2.2.2.2.2.2.2.1,(o_2.2.2.2.2.2.2.2.2.2.2.2.2.2.2.2.2.1.length:Int),0,o_2.2.1,o_2.2.2.1,o_2.2.2.2.1,o_2.2.2.2.2.1,o_2.2.2.2.2.2.1,o_2.2.2.2.2.2.2.1,o_2.2.2.2.2.2.2.2.1,o_2.2.2.2.2.2.2.2.2.1,o_2.2.2.2.2.2.2.2.2.2.1) >>=fun o_3=>
 match o_3 with
 | .inl o_4=>
 some o_4
 | .inr o_5=>
 some true
 else
 if decide (x0.Kind=6)=true then
 g8j (x0,v.ID) >>=fun r_5=>
 if r_5.2=true then
 some (bif decide ((v.Items.length:Int)=1)then decide ((v.Rest.length:Int)=0)else false) >>=fun t188=>
 if(inR r_5.1 x0.Members.length || (!t188))=true then
 if(inR 0 v.Items.length || (!t188))=true then
 (if t188=true then(ge fuel).2.2.2.2.1 ((⟨s.Types⟩:SSchema),(x0.Members.getD r_5.1.toNat dSMember).Type_,SValue.eta (v.Items.getD (0:Int).toNat dSValue),plain)else some false) >>=fun r_8=>
 some (bif t188 then r_8 else false)
 else none
 else none
 else
 some (bif x0.Open then(!plain)else false) >>=fun t209=>
 (if t209=true then gm6 v.ID else some false) >>=fun r_9=>
 some (bif bif bif t209 then r_9 else false then decide ((v.Items.length:Int)=0)else false then decide ((v.Rest.length:Int)=1)else false) >>=fun t226=>
 if(inR 0 v.Rest.length || (!t226))=true then
 some (bif t226 then decide ((v.Rest.getD (0:Int).toNat dSRaw).ID=v.ID)else false)
 else none
 else
 if decide (x0.Kind=7)=true then
 some (decide ((v.Items.length:Int)≤x0.Max)) >>=fun t244=>
 (if t244=true then(ge fuel).2.2.1 ((⟨s.Types⟩:SSchema),x0.Elem,v.Items,plain)else some false) >>=fun r_10=>
 some (bif t244 then r_10 else false)
 else
 if decide (x0.Kind=8)=true then
 some (bif decide (x0.Max < (v.Keys.length:Int))then true else(!(decide ((v.Items.length:Int)=(v.Keys.length:Int))))) >>=fun t270=>
 (if(!t270)=true then(ge fuel).2.2.1 ((⟨s.Types⟩:SSchema),x0.Key,v.Keys,plain)else some false) >>=fun r_11=>
 if(bif t270 then true else(!r_11))=true then
 some false
 else
 gtm (plain,1,s.Types,SValue.eta v,x0.Kind,x0.Name,x0.Low,x0.High,x0.Max,x0.Symbols,x0.Members,x0.Key,x0.Elem,x0.Open) >>=fun o_6=>
 match o_6 with
 | .inl o_7=>
 some o_7
 | .inr o_8=>
 (ge fuel).2.2.1 ((⟨o_8.2.1⟩:SSchema),o_8.2.2.2.2.2.2.2.2.2.2.2.1,o_8.2.2.1.Items,o_8.1) >>=fun r_12=>
 some r_12
 else
 if decide (x0.Kind=9)=true then
 some (decide ((v.Items.length:Int)≤1)) >>=fun t313=>
 (if t313=true then(ge fuel).2.2.1 ((⟨s.Types⟩:SSchema),x0.Elem,v.Items,plain)else some false) >>=fun r_13=>
 some (bif t313 then r_13 else false)
 else
 some true
 else none,
 fun(x_:List SValue × Int × Int × List SType × Int × Bool)=>match x_ with
 | (s_1,t7_1,t8,b_9,b_10,b_11)=>
 if decide (t8 < t7_1)=true then
 if inR t8 s_1.length=true then
 (ge fuel).2.2.2.1 (SValue.eta (s_1.getD t8.toNat dSValue),b_9,b_10,b_11) >>=fun r=>
 if r.1=true then
 some (.inl (t8,r.2.1,r.2.2.1,r.2.2.2))
 else
 (ge fuel).2.2.2.2.2.1 (s_1,t7_1,addI .i64 t8 1,r.2.1,r.2.2.1,r.2.2.2)
 else none
 else
 some (.inr (b_9,b_10,b_11)),
 fun(x_:Bool × List SMember × Int × Int × List SType × Int × Bool × Int × List UInt8 × Int × List SValue × List SValue × List SRaw)=>match x_ with
 | (plain_4,t150,t151_1,t152,b_43,b_44,b_45,b_46,b_47,b_48,b_49,b_50,b_51)=>
 if decide (t152 < t151_1)=true then
 if inR t152 t150.length=true then
 if inR t152 b_50.length=true then
 (ge fuel).2.2.2.2.1 ((⟨b_43⟩:SSchema),(t150.getD t152.toNat dSMember).Type_,SValue.eta (b_50.getD t152.toNat dSValue),plain_4) >>=fun r_18=>
 if(!r_18)=true then
 some (.inl false)
 else
 (ge fuel).2.2.2.2.2.2 (plain_4,t150,t151_1,addI .i64 t152 1,b_43,b_44,b_45,b_46,b_47,b_48,b_49,b_50,b_51)
 else none
 else none
 else
 some (.inr ()))
theorem gj :∀n,(∀x,Le ((ge n).1 x) (g22 x))∧(∀x,Le ((ge n).2.1 x) (g36 x))∧(∀x,Le ((ge n).2.2.1 x) (g8a x))∧(∀x,Le ((ge n).2.2.2.1 x) (ghf x))∧(∀x,Le ((ge n).2.2.2.2.1 x) (g4h x))∧(∀x,Le ((ge n).2.2.2.2.2.1 x) (g19 x))∧(∀x,Le ((ge n).2.2.2.2.2.2 x) (g3q x))
 | 0=>⟨fun _=>Le.n,fun _=>Le.n,fun _=>Le.n,fun _=>Le.n,fun _=>Le.n,fun _=>Le.n,fun _=>Le.n⟩
 | fuel+1=>⟨fun x=>match x with | (_,_,_,_)=>by rw[g22];exact(Le.b ((gj fuel).2.1 _) fun _=>Le.r),
 fun x=>match x with | (_,_,_,_)=>by rw[g36];exact(Le.b ((gj fuel).2.2.2.2.2.1 _) fun _=>Le.r),
 fun x=>match x with | (_,_,_,_)=>by rw[g8a];exact(Le.b ((gj fuel).1 _) fun _=>Le.r),
 fun x=>match x with | (_,_,_,_)=>by rw[ghf];exact(Le.b ((gj fuel).2.2.2.2.1 _) fun _=>Le.r),
 fun x=>match x with | (_,_,_,_)=>by rw[g4h];exact(Le.i Le.r (Le.i (Le.b Le.r fun _=>(Le.b Le.r fun _=>(Le.b (Le.i (g15b _) Le.r) fun _=>(Le.i Le.r (Le.i Le.r (Le.i Le.r (Le.i (Le.b (gs9 _) fun _=>(Le.b Le.r fun _=>(Le.b (Le.i (gpb _) Le.r) fun _=>Le.r))) (Le.i (Le.i Le.r (Le.b (g137 _) fun o=>match o with | .inl _=>Le.r | .inr _=>(Le.b ((gj fuel).2.2.2.2.2.2 _) fun _=>Le.r))) (Le.i (Le.b (g9e _) fun _=>(Le.i (Le.b Le.r fun _=>(Le.i (Le.i (Le.b (Le.i ((gj fuel).2.2.2.2.1 _) Le.r) fun _=>Le.r) Le.r) Le.r)) (Le.b Le.r fun _=>(Le.b (Le.i (gpb _) Le.r) fun _=>Le.r)))) (Le.i (Le.b Le.r fun _=>(Le.b (Le.i ((gj fuel).2.2.1 _) Le.r) fun _=>Le.r)) (Le.i (Le.b Le.r fun _=>(Le.b (Le.i ((gj fuel).2.2.1 _) Le.r) fun _=>(Le.i Le.r (Le.b (g13a _) fun o=>match o with | .inl _=>Le.r | .inr _=>(Le.b ((gj fuel).2.2.1 _) fun _=>Le.r))))) (Le.i (Le.b Le.r fun _=>(Le.b (Le.i ((gj fuel).2.2.1 _) Le.r) fun _=>Le.r)) Le.r)))))))))))) Le.r)),
 fun x=>match x with | (_,_,_,_,_,_)=>by rw[g19];exact(Le.i (Le.i (Le.b ((gj fuel).2.2.2.1 _) fun _=>(Le.i Le.r ((gj fuel).2.2.2.2.2.1 _))) Le.r) Le.r),
 fun x=>match x with | (_,_,_,_,_,_,_,_,_,_,_,_,_)=>by rw[g3q];exact(Le.i (Le.i (Le.i (Le.b ((gj fuel).2.2.2.2.1 _) fun _=>(Le.i Le.r ((gj fuel).2.2.2.2.2.2 _))) Le.r) Le.r) Le.r)⟩
def g104(x:SSchema × Int × SValue × Bool) :Option (Bool):=(ge 40).2.2.2.2.1 x
theorem g18g :∀x,Le (g104 x) (g4h x):=(gj 40).2.2.2.2.1
def gsb(x_:SSchema × Int × SValue) :Option (Bool):=
 match x_ with
 | (s,t,v)=>
 g104 ((⟨s.Types⟩:SSchema),t,SValue.eta v,false) >>=fun r=>
 some r
theorem gxt :∀x,Le (gsb x) (gcc x):=fun x=>match x with | (_,_,_)=>(Le.b (g18g _) fun _=>Le.r)
def gsc(x_:SSchema × Int × SValue) :Option (Int):=
 match x_ with
 | (s,t,v)=>
 gkl ((⟨s.Types⟩:SSchema),t) >>=fun r=>
 if(!(decide (r=0)))=true then
 some r
 else
 gsb ((⟨s.Types⟩:SSchema),t,SValue.eta v) >>=fun r_1=>
 if(!r_1)=true then
 some 1
 else
 some 0
theorem g11d :∀x,Le (gsc x) (g4z x):=fun x=>match x with | (_,_,_)=>(Le.b (gpy _) fun _=>(Le.i Le.r (Le.b (gxt _) fun _=>Le.r)))
def gma :Nat→(Int × Int × List Int→Option (Int × List Int))
 | 0=>fun _=>none
 | fuel+1=>
 fun(x_:Int × Int × List Int)=>match x_ with
 | (n_1,i_1,b_1)=>
 if decide (0 < n_1)=true then
 some (subI .i64 i_1 1) >>=fun t10=>
 if inR t10 8=true then
 if decide (t10.toNat < b_1.length)=true then
 (gma fuel) (shrI .u64 n_1 8,t10,b_1.set t10.toNat (wrp .u8 n_1))
 else none
 else none
 else
 some (i_1,b_1)
theorem gos :∀n,(∀x,Le ((gma n) x) (g6c x))
 | 0=>fun _=>Le.n
 | fuel+1=>fun x=>match x with | (_,_,_)=>by rw[g6c];exact(Le.i (Le.b Le.r fun _=>(Le.i (Le.i ((gos fuel) _) Le.r) Le.r)) Le.r)
def gtn(x:Int × Int × List Int) :Option (Int × List Int):=(gma 40) x
theorem g13b :∀x,Le (gtn x) (g6c x):=(gos 40)
def gsd(n:Int) :Option (List UInt8):=
 gtn (n,8,[0,0,0,0,0,0,0,0]) >>=fun o=>
 if slR o.1 8 8=true then
 if subR o.1.toNat ((8:Int).toNat - o.1.toNat) o.2.length=true then
 some (strOf ((o.2.drop o.1.toNat).take ((8:Int).toNat - o.1.toNat)))
 else none
 else none
theorem gxu :∀x,Le (gsd x) (gif x):=fun _=>(Le.b (g13b _) fun _=>Le.r)
def gr :Nat→(List SValue × List SValue→Option (Bool)) × (SValue × SValue→Option (Bool)) × (List SValue × List SValue × Int × Int→Option ((Bool) ⊕ (Unit)))
 | 0=>(fun _=>none,fun _=>none,fun _=>none)
 | fuel+1=>
 (fun(x_:List SValue × List SValue)=>match x_ with
 | (s1,s2)=>
 if(!(decide ((s1.length:Int)=(s2.length:Int))))=true then
 some false
 else
 (gr fuel).2.2 (s2,s1,(s1.length:Int),0) >>=fun o=>
 match o with
 | .inl o_1=>
 some o_1
 | .inr o_2=>
 some true,
 fun(x_:SValue × SValue)=>match x_ with
 | (a,b)=>
 some (bif bif bif bif decide (a.Kind=b.Kind)then eqB a.Bool_ b.Bool_ else false then decide (a.Int_=b.Int_)else false then decide (a.Str=b.Str)else false then decide (a.ID=b.ID)else false) >>=fun t37=>
 (if t37=true then g8v (a.Rest,b.Rest)else some false) >>=fun r=>
 some (bif t37 then r else false) >>=fun t44=>
 (if t44=true then(gr fuel).1 (a.Keys,b.Keys)else some false) >>=fun r_1=>
 some (bif t44 then r_1 else false) >>=fun t51=>
 (if t51=true then(gr fuel).1 (a.Items,b.Items)else some false) >>=fun r_2=>
 some (bif t51 then r_2 else false),
 fun(x_:List SValue × List SValue × Int × Int)=>match x_ with
 | (s2_1,t15,t16_1,t17)=>
 if decide (t17 < t16_1)=true then
 if inR t17 t15.length=true then
 if inR t17 s2_1.length=true then
 (gr fuel).2.1 (SValue.eta (t15.getD t17.toNat dSValue),SValue.eta (s2_1.getD t17.toNat dSValue)) >>=fun r=>
 if(!r)=true then
 some (.inl false)
 else
 (gr fuel).2.2 (s2_1,t15,t16_1,addI .i64 t17 1)
 else none
 else none
 else
 some (.inr ()))
theorem g18 :∀n,(∀x,Le ((gr n).1 x) (g11 x))∧(∀x,Le ((gr n).2.1 x) (g9j x))∧(∀x,Le ((gr n).2.2 x) (gw x))
 | 0=>⟨fun _=>Le.n,fun _=>Le.n,fun _=>Le.n⟩
 | fuel+1=>⟨fun x=>match x with | (_,_)=>by rw[g11];exact(Le.i Le.r (Le.b ((g18 fuel).2.2 _) fun _=>Le.r)),
 fun x=>match x with | (_,_)=>by rw[g9j];exact(Le.b Le.r fun _=>(Le.b (Le.i (gcl _) Le.r) fun _=>(Le.b Le.r fun _=>(Le.b (Le.i ((g18 fuel).1 _) Le.r) fun _=>(Le.b Le.r fun _=>(Le.b (Le.i ((g18 fuel).1 _) Le.r) fun _=>Le.r)))))),
 fun x=>match x with | (_,_,_,_)=>by rw[gw];exact(Le.i (Le.i (Le.i (Le.b ((g18 fuel).2.1 _) fun _=>(Le.i Le.r ((g18 fuel).2.2 _))) Le.r) Le.r) Le.r)⟩
def gxv(x:SValue × SValue) :Option (Bool):=(gr 40).2.1 x
theorem g16k :∀x,Le (gxv x) (g9j x):=(g18 40).2.1
def gse(x_:SMember × SValue) :Option (Bool):=
 match x_ with
 | (m,v)=>
 (if m.HasDefault=true then gxv (SValue.eta m.Default,SValue.eta v)else some false) >>=fun r=>
 some (bif m.HasDefault then r else false)
theorem g11e :∀x,Le (gse x) (gdm x):=fun x=>match x with | (_,_)=>(Le.b (Le.i (g16k _) Le.r) fun _=>Le.r)
def gmb :Nat→(Int × Int × List Int→Option (Int × Int × List Int))
 | 0=>fun _=>none
 | fuel+1=>
 fun(x_:Int × Int × List Int)=>match x_ with
 | (n_2,i_1,b_1)=>
 if decide (128≤n_2)=true then
 if inR i_1 10=true then
 if decide (i_1.toNat < b_1.length)=true then
 (gmb fuel) (shrI .u64 n_2 7,addI .i64 i_1 1,b_1.set i_1.toNat (orI .u8 (wrp .u8 n_2) 128))
 else none
 else none
 else
 some (n_2,i_1,b_1)
theorem got :∀n,(∀x,Le ((gmb n) x) (g6d x))
 | 0=>fun _=>Le.n
 | fuel+1=>fun x=>match x with | (_,_,_)=>by rw[g6d];exact(Le.i (Le.i (Le.i ((got fuel) _) Le.r) Le.r) Le.r)
def gto(x:Int × Int × List Int) :Option (Int × Int × List Int):=(gmb 40) x
theorem g13c :∀x,Le (gto x) (g6d x):=(got 40)
def ghy(n:Int) :Option (List UInt8):=
 gto (n,0,[0,0,0,0,0,0,0,0,0,0]) >>=fun o=>
 if inR o.2.1 10=true then
 if decide (o.2.1.toNat < o.2.2.length)=true then
 some (o.2.2.set o.2.1.toNat (wrp .u8 o.1)) >>=fun l_1=>
 some (addI .i64 o.2.1 1) >>=fun t21=>
 if slR 0 t21 10=true then
 if subR (0:Int).toNat t21.toNat l_1.length=true then
 some (strOf ((l_1.drop (0:Int).toNat).take t21.toNat))
 else none
 else none
 else none
 else none
theorem gjp :∀x,Le (ghy x) (gcd x):=fun _=>(Le.b (g13c _) fun _=>Le.r)
def gb2(p:List UInt8) :Option (List UInt8):=
 ghy (wrp .u64 (p.length:Int)) >>=fun r=>
 if decide (r.length+p.length≤g26)=true then
 some (r++p)
 else none
theorem gcm :∀x,Le (gb2 x) (g8d x):=fun _=>(Le.b (gjp _) fun _=>Le.r)
def gnp(x_:Int × Bool × List UInt8) :Option (List UInt8):=
 match x_ with
 | (id,critical,p)=>
 some (mulI .u64 2 (wrp .u64 id)) >>=fun t10=>
 if critical=true then
 ghy (addI .u64 t10 1) >>=fun r=>
 gb2 p >>=fun r_1=>
 if decide (r.length+r_1.length≤g26)=true then
 some (r++r_1)
 else none
 else
 ghy t10 >>=fun r_2=>
 gb2 p >>=fun r_3=>
 if decide (r_2.length+r_3.length≤g26)=true then
 some (r_2++r_3)
 else none
theorem gtp :∀x,Le (gnp x) (gbb x):=fun x=>match x with | (_,_,_)=>(Le.b Le.r fun _=>(Le.i (Le.b (gjp _) fun _=>(Le.b (gcm _) fun _=>Le.r)) (Le.b (gjp _) fun _=>(Le.b (gcm _) fun _=>Le.r))))
def g4q(x_:List UInt8 × List UInt8) :Option (Int × List UInt8):=
 match x_ with
 | (s,b)=>
 some b >>=fun r=>
 if(decide (r.length=b.length) && true)=true then
 if room 1 (r.length+s.length)=true then
 some ((s.length:Int),catS r s)
 else none
 else none
theorem g5v :∀x,Le (g4q x) (g2j x):=fun x=>match x with | (_,_)=>Le.r
def gbi(b:List UInt8) :Option (List UInt8):=
 if eqI (b.length:Int) (b.length:Int)=true then
 some b
 else none
theorem ggu :∀x,Le (gbi x) (g5l x):=fun _=>Le.r
def gas :Nat→(List SRaw × Int × Int × List SType × Int × List EncodeEntry→Option (List SType × Int × List EncodeEntry))
 | 0=>fun _=>none
 | fuel+1=>
 fun(x_:List SRaw × Int × Int × List SType × Int × List EncodeEntry)=>match x_ with
 | (t57,t58_1,t59,b_16,b_17,b_18)=>
 if decide (t59 < t58_1)=true then
 if inR t59 t57.length=true then
 some (t57.getD t59.toNat dSRaw) >>=fun x0_4=>
 gnp (x0_4.ID,false,x0_4.Data) >>=fun r_8=>
 some [(⟨x0_4.ID,r_8⟩:EncodeEntry)] >>=fun t72=>
 if room 24 (b_18++t72).length=true then
 (gas fuel) (t57,t58_1,addI .i64 t59 1,b_16,b_17,b_18++t72)
 else none
 else none
 else
 some (b_16,b_17,b_18)
theorem ge4 :∀n,(∀x,Le ((gas n) x) (g1w x))
 | 0=>fun _=>Le.n
 | fuel+1=>fun x=>match x with | (_,_,_,_,_,_)=>by rw[g1w];exact(Le.i (Le.i (Le.b Le.r fun _=>(Le.b (gtp _) fun _=>(Le.b Le.r fun _=>(Le.i ((ge4 fuel) _) Le.r)))) Le.r) Le.r)
def ggv(x:List SRaw × Int × Int × List SType × Int × List EncodeEntry) :Option (List SType × Int × List EncodeEntry):=(gas 40) x
theorem gpe :∀x,Le (ggv x) (g1w x):=(ge4 40)
def gat :Nat→(Int × Int × List SType × Int × List EncodeEntry × List UInt8→Option (List SType × Int × List UInt8))
 | 0=>fun _=>none
 | fuel+1=>
 fun(x_:Int × Int × List SType × Int × List EncodeEntry × List UInt8)=>match x_ with
 | (t78_1,t79,b_19,b_20,b_21,b_22)=>
 if decide (t79 < t78_1)=true then
 if inR t79 b_21.length=true then
 if decide (t79.toNat < b_21.length)=true then
 g4q ((b_21.getD t79.toNat dEncodeEntry).text,b_22) >>=fun r_9=>
 (gat fuel) (t78_1,addI .i64 t79 1,b_19,b_20,b_21,r_9.2)
 else none
 else none
 else
 some (b_19,b_20,b_22)
theorem ge5 :∀n,(∀x,Le ((gat n) x) (g1x x))
 | 0=>fun _=>Le.n
 | fuel+1=>fun x=>match x with | (_,_,_,_,_,_)=>by rw[g1x];exact(Le.i (Le.i (Le.i (Le.b (g5v _) fun _=>((ge5 fuel) _)) Le.r) Le.r) Le.r)
def ggw(x:Int × Int × List SType × Int × List EncodeEntry × List UInt8) :Option (List SType × Int × List UInt8):=(gat 40) x
theorem gpf :∀x,Le (ggw x) (g1x x):=(ge5 40)
def g13 :Nat→(Int × SValue × Int × List SType × Int→Option (List UInt8 × List SType × Int)) × (SType × SValue × Int × List SType × Int→Option (List UInt8 × List SType × Int)) × (SType × SValue × Int × List SType × Int→Option (List UInt8 × List SType × Int)) × (Int × List SValue × Int × Int × List SType × Int × SValue × SType × List UInt8→Option (List SType × Int × List UInt8)) × (Int × List SMember × Int × Int × List SType × Int × SValue × List EncodeEntry→Option (List SType × Int × SValue × List EncodeEntry))
 | 0=>(fun _=>none,fun _=>none,fun _=>none,fun _=>none,fun _=>none)
 | fuel+1=>
 (fun(x_:Int × SValue × Int × List SType × Int)=>match x_ with
 | (t,v,level,b,b_1)=>
 some (maxI b_1 level) >>=fun t19=>
 if inR t b.length=true then
 some (b.getD t.toNat dSType) >>=fun x0=>
 if decide (x0.Kind=1)=true then
 if v.Bool_=true then
 some ([1],b,t19)
 else
 some ([],b,t19)
 else
 if decide (x0.Kind=2)=true then
 ggt v.Int_ >>=fun r=>
 gsd r >>=fun r_1=>
 some (r_1,b,t19)
 else
 if decide (x0.Kind=3)=true then
 some (v.Str,b,t19)
 else
 if decide (x0.Kind=4)=true then
 gsd (wrp .u64 v.ID) >>=fun r_2=>
 some (r_2,b,t19)
 else
 if decide (x0.Kind=5)=true then
 (g13 fuel).2.1 (x0,SValue.eta v,level,b,t19) >>=fun r_3=>
 some (r_3.1,r_3.2.1,r_3.2.2)
 else
 if decide (x0.Kind=6)=true then
 (g13 fuel).2.2.1 (x0,SValue.eta v,level,b,t19) >>=fun r_7=>
 some (r_7.1,r_7.2.1,r_7.2.2)
 else
 if decide (x0.Kind=9)=true then
 if decide ((v.Items.length:Int)=0)=true then
 some ([],b,t19)
 else
 if inR 0 v.Items.length=true then
 (g13 fuel).1 (x0.Elem,SValue.eta (v.Items.getD (0:Int).toNat dSValue),addI .i64 level 1,b,t19) >>=fun r_11=>
 if decide ([1].length+r_11.1.length≤g26)=true then
 some ([1]++r_11.1,r_11.2.1,r_11.2.2)
 else none
 else none
 else
 (g13 fuel).2.2.2.1 (level,v.Items,(v.Items.length:Int),0,b,t19,SValue.eta v,x0,[]) >>=fun o=>
 gbi o.2.2 >>=fun r_15=>
 some (r_15,o.1,o.2.1)
 else none,
 fun(x_:SType × SValue × Int × List SType × Int)=>match x_ with
 | (x0,v,level,b,b_1)=>
 (g13 fuel).2.2.2.2 (level,x0.Members,(x0.Members.length:Int),0,b,b_1,SValue.eta v,[]) >>=fun o=>
 ggv (o.2.2.1.Rest,(o.2.2.1.Rest.length:Int),0,o.1,o.2.1,o.2.2.2) >>=fun o_1=>
 sortK sortLt o_1.2.2 >>=fun r=>
 if(decide (r.length=o_1.2.2.length) && true)=true then
 ggw ((r.length:Int),0,o_1.1,o_1.2.1,r,[]) >>=fun o_2=>
 gbi o_2.2.2 >>=fun r_1=>
 some (r_1,o_2.1,o_2.2.1)
 else none,
 fun(x_:SType × SValue × Int × List SType × Int)=>match x_ with
 | (x0,v,level,b,b_1)=>
 ghy (wrp .u64 v.ID) >>=fun r=>
 g8j (x0,v.ID) >>=fun r_1=>
 if(!r_1.2)=true then
 if inR 0 v.Rest.length=true then
 some (v.Rest.getD (0:Int).toNat dSRaw) >>=fun x0_1=>
 if decide (r.length+x0_1.Data.length≤g26)=true then
 some (r++x0_1.Data,b,b_1)
 else none
 else none
 else
 if inR r_1.1 x0.Members.length=true then
 if inR 0 v.Items.length=true then
 (g13 fuel).1 ((x0.Members.getD r_1.1.toNat dSMember).Type_,SValue.eta (v.Items.getD (0:Int).toNat dSValue),addI .i64 level 1,b,b_1) >>=fun r_4=>
 if decide (r.length+r_4.1.length≤g26)=true then
 some (r++r_4.1,r_4.2.1,r_4.2.2)
 else none
 else none
 else none,
 fun(x_:Int × List SValue × Int × Int × List SType × Int × SValue × SType × List UInt8)=>match x_ with
 | (level_1,t84,t85_1,t86,b_5,b_6,b_7,b_8,b_9)=>
 if decide (t86 < t85_1)=true then
 if inR t86 t84.length=true then
 some (t84.getD t86.toNat dSValue) >>=fun x0_2=>
 if decide (b_8.Kind=8)=true then
 if inR t86 b_7.Keys.length=true then
 (g13 fuel).1 (b_8.Key,SValue.eta (b_7.Keys.getD t86.toNat dSValue),addI .i64 level_1 1,b_5,b_6) >>=fun r_16=>
 gb2 r_16.1 >>=fun r_20=>
 g4q (r_20,b_9) >>=fun r_21=>
 (g13 fuel).1 (b_8.Elem,SValue.eta x0_2,addI .i64 level_1 1,r_16.2.1,r_16.2.2) >>=fun r_24=>
 gb2 r_24.1 >>=fun r_28=>
 g4q (r_28,r_21.2) >>=fun r_29=>
 (g13 fuel).2.2.2.1 (level_1,t84,t85_1,addI .i64 t86 1,r_24.2.1,r_24.2.2,SValue.eta b_7,b_8,r_29.2)
 else none
 else
 (g13 fuel).1 (b_8.Elem,SValue.eta x0_2,addI .i64 level_1 1,b_5,b_6) >>=fun r_32=>
 gb2 r_32.1 >>=fun r_36=>
 g4q (r_36,b_9) >>=fun r_37=>
 (g13 fuel).2.2.2.1 (level_1,t84,t85_1,addI .i64 t86 1,r_32.2.1,r_32.2.2,SValue.eta b_7,b_8,r_37.2)
 else none
 else
 some (b_5,b_6,b_9),
 fun(x_:Int × List SMember × Int × Int × List SType × Int × SValue × List EncodeEntry)=>match x_ with
 | (level_1,t18,t19_1,t20,b_12,b_13,b_14,b_15)=>
 if decide (t20 < t19_1)=true then
 if inR t20 t18.length=true then
 some (t18.getD t20.toNat dSMember) >>=fun x0_1=>
 if inR t20 b_14.Items.length=true then
 gse ((⟨x0_1.ID,x0_1.Name,x0_1.Type_,x0_1.Critical,x0_1.HasDefault,SValue.eta x0_1.Default⟩:SMember),SValue.eta (b_14.Items.getD t20.toNat dSValue)) >>=fun r_2=>
 if(!r_2)=true then
 if inR t20 b_14.Items.length=true then
 (g13 fuel).1 (x0_1.Type_,SValue.eta (b_14.Items.getD t20.toNat dSValue),addI .i64 level_1 1,b_12,b_13) >>=fun r_3=>
 gnp (x0_1.ID,x0_1.Critical,r_3.1) >>=fun r_7=>
 some [(⟨x0_1.ID,r_7⟩:EncodeEntry)] >>=fun t53=>
 if room 24 (b_15++t53).length=true then
 (g13 fuel).2.2.2.2 (level_1,t18,t19_1,addI .i64 t20 1,r_3.2.1,r_3.2.2,SValue.eta b_14,b_15++t53)
 else none
 else none
 else
 (g13 fuel).2.2.2.2 (level_1,t18,t19_1,addI .i64 t20 1,b_12,b_13,SValue.eta b_14,b_15)
 else none
 else none
 else
 some (b_12,b_13,SValue.eta b_14,b_15))
theorem g1b :∀n,(∀x,Le ((g13 n).1 x) (g1d x))∧(∀x,Le ((g13 n).2.1 x) (g6h x))∧(∀x,Le ((g13 n).2.2.1 x) (g5p x))∧(∀x,Le ((g13 n).2.2.2.1 x) (g1f x))∧(∀x,Le ((g13 n).2.2.2.2 x) (g2b x))
 | 0=>⟨fun _=>Le.n,fun _=>Le.n,fun _=>Le.n,fun _=>Le.n,fun _=>Le.n⟩
 | fuel+1=>⟨fun x=>match x with | (_,_,_,_,_)=>by rw[g1d];exact(Le.b Le.r fun _=>(Le.i (Le.b Le.r fun _=>(Le.i Le.r (Le.i (Le.b (gkm _) fun _=>(Le.b (gxu _) fun _=>Le.r)) (Le.i Le.r (Le.i (Le.b (gxu _) fun _=>Le.r) (Le.i (Le.b ((g1b fuel).2.1 _) fun _=>Le.r) (Le.i (Le.b ((g1b fuel).2.2.1 _) fun _=>Le.r) (Le.i (Le.i Le.r (Le.i (Le.b ((g1b fuel).1 _) fun _=>Le.r) Le.r)) (Le.b ((g1b fuel).2.2.2.1 _) fun _=>(Le.b (ggu _) fun _=>Le.r)))))))))) Le.r)),
 fun x=>match x with | (_,_,_,_,_)=>by rw[g6h];exact(Le.b ((g1b fuel).2.2.2.2 _) fun _=>(Le.b (gpe _) fun _=>(Le.b (g1hg sortSWO _) fun _=>(Le.i (Le.b (gpf _) fun _=>(Le.b (ggu _) fun _=>Le.r)) Le.r)))),
 fun x=>match x with | (_,_,_,_,_)=>by rw[g5p];exact(Le.b (gjp _) fun _=>(Le.b (g9e _) fun _=>(Le.i Le.r (Le.i (Le.i (Le.b ((g1b fuel).1 _) fun _=>Le.r) Le.r) Le.r)))),
 fun x=>match x with | (_,_,_,_,_,_,_,_,_)=>by rw[g1f];exact(Le.i (Le.i (Le.b Le.r fun _=>(Le.i (Le.i (Le.b ((g1b fuel).1 _) fun _=>(Le.b (gcm _) fun _=>(Le.b (g5v _) fun _=>(Le.b ((g1b fuel).1 _) fun _=>(Le.b (gcm _) fun _=>(Le.b (g5v _) fun _=>((g1b fuel).2.2.2.1 _))))))) Le.r) (Le.b ((g1b fuel).1 _) fun _=>(Le.b (gcm _) fun _=>(Le.b (g5v _) fun _=>((g1b fuel).2.2.2.1 _)))))) Le.r) Le.r),
 fun x=>match x with | (_,_,_,_,_,_,_,_)=>by rw[g2b];exact(Le.i (Le.i (Le.b Le.r fun _=>(Le.i (Le.b (g11e _) fun _=>(Le.i (Le.i (Le.b ((g1b fuel).1 _) fun _=>(Le.b (gtp _) fun _=>(Le.b Le.r fun _=>(Le.i ((g1b fuel).2.2.2.2 _) Le.r)))) Le.r) ((g1b fuel).2.2.2.2 _))) Le.r)) Le.r) Le.r)⟩
def gby(x:Int × SValue × Int × List SType × Int) :Option (List UInt8 × List SType × Int):=(g13 40).1 x
theorem ghz :∀x,Le (gby x) (g1d x):=(g1b 40).1
def gmc(x_:SSchema × Int × SValue) :Option (List UInt8 × Int):=
 match x_ with
 | (s,t,v)=>
 gsc ((⟨s.Types⟩:SSchema),t,SValue.eta v) >>=fun r=>
 if(!(decide (r=0)))=true then
 some ([],r)
 else
 gby (t,SValue.eta v,1,s.Types,0) >>=fun r_1=>
 if(bif decide (4096 < (r_1.1.length:Int))then true else decide (200 < r_1.2.2))=true then
 some ([],3)
 else
 some (r_1.1,0)
theorem gsf :∀x,Le (gmc x) (ga8 x):=fun x=>match x with | (_,_,_)=>(Le.b (g11d _) fun _=>(Le.i Le.r (Le.b (ghz _) fun _=>Le.r)))
def gmd :Nat→(List UInt8 × Int × Int × Int→Option ((Int × Int × Int) ⊕ (Unit)))
 | 0=>fun _=>none
 | fuel+1=>
 fun(x_:List UInt8 × Int × Int × Int)=>match x_ with
 | (s_1,n,t10_1,t11)=>
 if decide (t11 < t10_1)=true then
 if inR t11 s_1.length=true then
 some (g4p s_1 t11) >>=fun t16=>
 if(bif decide (t11=9)then decide (1 < t16)else false)=true then
 some (.inl (0,0,7))
 else
 if decide (128≤t16)=true then
 some (mulI .i64 7 t11) >>=fun t41=>
 if decide (0≤t41)=true then
 (gmd fuel) (s_1,orI .u64 n (shlI .u64 (wrp .u64 (andI .u8 t16 127)) t41),t10_1,addI .i64 t11 1)
 else none
 else
 if(bif decide (t16=0)then decide (0 < t11)else false)=true then
 some (.inl (0,0,2))
 else
 some (mulI .i64 7 t11) >>=fun t21=>
 if decide (0≤t21)=true then
 some (.inl (orI .u64 n (shlI .u64 (wrp .u64 t16) t21),addI .i64 t11 1,0))
 else none
 else none
 else
 some (.inr ())
theorem gou :∀n,(∀x,Le ((gmd n) x) (g5h x))
 | 0=>fun _=>Le.n
 | fuel+1=>fun x=>match x with | (_,_,_,_)=>by rw[g5h];exact(Le.i (Le.i (Le.b Le.r fun _=>(Le.i Le.r (Le.i (Le.b Le.r fun _=>(Le.i ((gou fuel) _) Le.r)) Le.r))) Le.r) Le.r)
def gtq(x:List UInt8 × Int × Int × Int) :Option ((Int × Int × Int) ⊕ (Unit)):=(gmd 40) x
theorem g13d :∀x,Le (gtq x) (g5h x):=(gou 40)
def g105(s:List UInt8) :Option (Int × Int × Int):=
 gtq (s,0,minI 10 (s.length:Int),0) >>=fun o=>
 match o with
 | .inl o_1=>
 some (o_1.1,o_1.2.1,o_1.2.2)
 | .inr o_2=>
 some (0,0,10)
theorem g18h :∀x,Le (g105 x) (glm x):=fun _=>(Le.b (g13d _) fun _=>Le.r)
def gjq(s:List UInt8) :Option (Int × List UInt8 × Bool):=
 g105 s >>=fun r=>
 if(!(decide (r.2.2=0)))=true then
 some (0,[],false)
 else
 if slR r.2.1 (s.length:Int) s.length=true then
 some (r.1,cutL s r.2.1 (s.length:Int),true)
 else none
theorem gnq :∀x,Le (gjq x) (g9k x):=fun _=>(Le.b (g18h _) fun _=>Le.r)
def gpg(s:List UInt8) :Option (List UInt8 × List UInt8 × Bool):=
 gjq s >>=fun r=>
 if(bif (!r.2.2)then true else decide (wrp .u64 (r.2.1.length:Int) < r.1))=true then
 some ([],[],false)
 else
 if slR 0 r.1 r.2.1.length=true then
 if slR r.1 (r.2.1.length:Int) r.2.1.length=true then
 some (cutL r.2.1 0 r.1,cutL r.2.1 r.1 (r.2.1.length:Int),true)
 else none
 else none
theorem gw3 :∀x,Le (gpg x) (gfv x):=fun _=>(Le.b (gnq _) fun _=>Le.r)
def gix :Nat→(List UInt8 × List (List UInt8)→Option ((Int) ⊕ (List (List UInt8))))
 | 0=>fun _=>none
 | fuel+1=>
 fun(x_:List UInt8 × List (List UInt8))=>match x_ with
 | (s,b_1)=>
 if(!(decide (s=[])))=true then
 gpg s >>=fun r=>
 if(!r.2.2)=true then
 some (.inl 12)
 else
 some [r.1] >>=fun t22=>
 if room 16 (b_1++t22).length=true then
 (gix fuel) (r.2.1,b_1++t22)
 else none
 else
 some (.inr b_1)
theorem gme :∀n,(∀x,Le ((gix n) x) (g3r x))
 | 0=>fun _=>Le.n
 | fuel+1=>fun x=>match x with | (_,_)=>by rw[g3r];exact(Le.i (Le.b (gw3 _) fun _=>(Le.i Le.r (Le.b Le.r fun _=>(Le.i ((gme fuel) _) Le.r)))) Le.r)
def gq1(x:List UInt8 × List (List UInt8)) :Option ((Int) ⊕ (List (List UInt8))):=(gix 40) x
theorem g106 :∀x,Le (gq1 x) (g3r x):=(gme 40)
def gnr(payload:List UInt8) :Option (List (List UInt8) × Int):=
 gq1 (payload,[]) >>=fun o=>
 match o with
 | .inl o_1=>
 some ([],o_1)
 | .inr o_2=>
 some (o_2,0)
theorem gts :∀x,Le (gnr x) (g5i x):=fun _=>(Le.b (g106 _) fun _=>Le.r)
def g8k :Nat→(List (List UInt8) × List (List UInt8) × Int × Int→Option ((Bool) ⊕ (Unit)))
 | 0=>fun _=>none
 | fuel+1=>
 fun(x_:List (List UInt8) × List (List UInt8) × Int × Int)=>match x_ with
 | (s1_1,s2_1,t12_1,t13)=>
 if decide (t13 < t12_1)=true then
 if inR t13 s1_1.length=true then
 if inR t13 s2_1.length=true then
 if(!(decide (s1_1.getD t13.toNat []=s2_1.getD t13.toNat [])))=true then
 some (.inl false)
 else
 (g8k fuel) (s1_1,s2_1,t12_1,addI .i64 t13 1)
 else none
 else none
 else
 some (.inr ())
theorem gaw :∀n,(∀x,Le ((g8k n) x) (g2w x))
 | 0=>fun _=>Le.n
 | fuel+1=>fun x=>match x with | (_,_,_,_)=>by rw[g2w];exact(Le.i (Le.i (Le.i (Le.i Le.r ((gaw fuel) _)) Le.r) Le.r) Le.r)
def gcn(x:List (List UInt8) × List (List UInt8) × Int × Int) :Option ((Bool) ⊕ (Unit)):=(g8k 40) x
theorem gky :∀x,Le (gcn x) (g2w x):=(gaw 40)
def gef(x_:List (List UInt8) × List (List UInt8)) :Option (Bool):=
 match x_ with
 | (s1,s2)=>
 if(!(decide ((s1.length:Int)=(s2.length:Int))))=true then
 some false
 else
 gcn (s1,s2,(s1.length:Int),0) >>=fun o=>
 match o with
 | .inl o_1=>
 some o_1
 | .inr o_2=>
 some true
theorem gns :∀x,Le (gef x) (gal x):=fun x=>match x with | (_,_)=>(Le.i Le.r (Le.b (gky _) fun _=>Le.r))
def gi0 :Nat→(Int × List UInt8 × List SField→Option ((Int) ⊕ (List SField)))
 | 0=>fun _=>none
 | fuel+1=>
 fun(x_:Int × List UInt8 × List SField)=>match x_ with
 | (last,s,b_1)=>
 if(!(decide (s=[])))=true then
 gjq s >>=fun r=>
 if(bif bif (!r.2.2)then true else decide (quoI .u64 r.1 2≤last)then true else decide (1000 < quoI .u64 r.1 2))=true then
 some (.inl 12)
 else
 gpg r.2.1 >>=fun r_4=>
 if(!r_4.2.2)=true then
 some (.inl 12)
 else
 some [(⟨wrp .i64 (quoI .u64 r.1 2),decide (remI r.1 2=1),r_4.1⟩:SField)] >>=fun t50=>
 if room 32 (b_1++t50).length=true then
 (gi0 fuel) (quoI .u64 r.1 2,r_4.2.1,b_1++t50)
 else none
 else
 some (.inr b_1)
theorem gku :∀n,(∀x,Le ((gi0 n) x) (g2x x))
 | 0=>fun _=>Le.n
 | fuel+1=>fun x=>match x with | (_,_,_)=>by rw[g2x];exact(Le.i (Le.b (gnq _) fun _=>(Le.i Le.r (Le.b (gw3 _) fun _=>(Le.i Le.r (Le.b Le.r fun _=>(Le.i ((gku fuel) _) Le.r)))))) Le.r)
def gov(x:Int × List UInt8 × List SField) :Option ((Int) ⊕ (List SField)):=(gi0 40) x
theorem gyg :∀x,Le (gov x) (g2x x):=(gku 40)
def gtt(payload:List UInt8) :Option (List SField × Int):=
 gov (0,payload,[]) >>=fun o=>
 match o with
 | .inl o_1=>
 some ([],o_1)
 | .inr o_2=>
 some (o_2,0)
theorem g13e :∀x,Le (gtt x) (gc4 x):=fun _=>(Le.b (gyg _) fun _=>Le.r)
def gsg(payload:List UInt8) :Option (Int × List UInt8 × Int):=
 gjq payload >>=fun r=>
 if(bif bif (!r.2.2)then true else decide (r.1 < 1)then true else decide (1000 < r.1))=true then
 some (0,[],12)
 else
 some (wrp .i64 r.1,r.2.1,0)
theorem gxw :∀x,Le (gsg x) (gew x):=fun _=>(Le.b (gnq _) fun _=>Le.r)
def gtu(x_:List UInt8 × List UInt8) :Option (Bool):=
 match x_ with
 | (a,b)=>
 some (bif decide ((a.length:Int) < (b.length:Int))then true else bif decide ((a.length:Int)=(b.length:Int))then Op.bytesLess a b else false)
theorem g13f :∀x,Le (gtu x) (gp7 x):=fun x=>match x with | (_,_)=>Le.r
def gga :Nat→(List UInt8 × Int × Int × Int→Option (Int))
 | 0=>fun _=>none
 | fuel+1=>
 fun(x_:List UInt8 × Int × Int × Int)=>match x_ with
 | (s_1,n_1,t17_1,t18)=>
 if decide (t18 < t17_1)=true then
 if inR t18 s_1.length=true then
 (gga fuel) (s_1,orI .u64 (shlI .u64 n_1 8) (wrp .u64 (g4p s_1 t18)),t17_1,addI .i64 t18 1)
 else none
 else
 some n_1
theorem gji :∀n,(∀x,Le ((gga n) x) (g6m x))
 | 0=>fun _=>Le.n
 | fuel+1=>fun x=>match x with | (_,_,_,_)=>by rw[g6m];exact(Le.i (Le.i ((gji fuel) _) Le.r) Le.r)
def gn2(x:List UInt8 × Int × Int × Int) :Option (Int):=(gga 40) x
theorem gx7 :∀x,Le (gn2 x) (g6m x):=(gji 40)
def gsh(s:List UInt8) :Option (Int × Int):=
 some (!(decide (s=[]))) >>=fun t7=>
 if(inR 0 s.length || (!t7))=true then
 if(bif t7 then decide (g4p s 0=0)else false)=true then
 some (0,2)
 else
 if decide (8 < (s.length:Int))=true then
 some (0,7)
 else
 gn2 (s,0,(s.length:Int),0) >>=fun o=>
 some (o,0)
 else none
theorem g11f :∀x,Le (gsh x) (gnk x):=fun _=>(Le.b Le.r fun _=>(Le.i (Le.i Le.r (Le.i Le.r (Le.b (gx7 _) fun _=>Le.r))) Le.r))
def gq2(n:Int) :Option (Int):=
 some (xorI .i64 (wrp .i64 (shrI .u64 n 1)) (subI .i64 0 (wrp .i64 (andI .u64 n 1))))
theorem g107 :∀x,Le (gq2 x) (gls x):=fun _=>Le.r
def gmf(x_:SType × List UInt8) :Option (Bool):=
 match x_ with
 | (x0,p)=>
 if decide (x0.Kind=1)=true then
 some (bif decide (p=[])then true else decide (p=[1]))
 else
 if decide (x0.Kind=3)=true then
 some (decide ((p.length:Int)≤x0.Max))
 else
 gsh p >>=fun r=>
 if(!(decide (r.2=0)))=true then
 some false
 else
 if decide (x0.Kind=2)=true then
 gq2 r.1 >>=fun r_3=>
 some (bif decide (x0.Low≤r_3)then decide (r_3≤x0.High)else false)
 else
 if(bif decide (r.1 < 1)then true else decide (1000 < r.1))=true then
 some false
 else
 gm5 (x0,wrp .i64 r.1) >>=fun r_4=>
 some (bif r_4.2 then true else x0.Open)
theorem gsi :∀x,Le (gmf x) (gjo x):=fun x=>match x with | (_,_)=>(Le.i Le.r (Le.i Le.r (Le.b (g11f _) fun _=>(Le.i Le.r (Le.i (Le.b (g107 _) fun _=>Le.r) (Le.i Le.r (Le.b (gs9 _) fun _=>Le.r)))))))
def g7u :Nat→(Int × List SMember × Int × Int→Option (Int))
 | 0=>fun _=>none
 | fuel+1=>
 fun(x_:Int × List SMember × Int × Int)=>match x_ with
 | (seen_3,t93,t94_1,t95)=>
 if decide (t95 < t94_1)=true then
 if inR t95 t93.length=true then
 if(!(t93.getD t95.toNat dSMember).HasDefault)=true then
 (g7u fuel) (subI .i64 seen_3 1,t93,t94_1,addI .i64 t95 1)
 else
 (g7u fuel) (seen_3,t93,t94_1,addI .i64 t95 1)
 else none
 else
 some seen_3
theorem g9f :∀n,(∀x,Le ((g7u n) x) (g3a x))
 | 0=>fun _=>Le.n
 | fuel+1=>fun x=>match x with | (_,_,_,_)=>by rw[g3a];exact(Le.i (Le.i (Le.i ((g9f fuel) _) ((g9f fuel) _)) Le.r) Le.r)
def ggx(x:Int × List SMember × Int × Int) :Option (Int):=(g7u 40) x
theorem gph :∀x,Le (ggx x) (g3a x):=(g9f 40)
def gf :Nat→(EncodeReader × Int × List UInt8 × Int→Option (Bool)) × (EncodeReader × SType × List UInt8 × Int→Option (Bool)) × (List UInt8 × List SType × Int × List UInt8 × Int × Int × Int × List SSymbol × List SMember × Int × Int × Bool × Int→Option (Bool × List SType × Int × List UInt8 × Int × Int × Int × List SSymbol × List SMember × Int × Int × Bool × Int)) × (EncodeReader × SType × List UInt8 × Int→Option (Bool)) × (List (List UInt8) × List SType × Int × List UInt8 × Int × Int × Int × List SSymbol × List SMember × Int × Int × Bool × Int→Option (Bool × List SType × Int × List UInt8 × Int × Int × Int × List SSymbol × List SMember × Int × Int × Bool × Int)) × (List (List UInt8) × List SType × Int × List UInt8 × Int × Int × Int × List SSymbol × List SMember × Int × Int × Bool × Int→Option (Int × List SType × Int × List UInt8 × Int × Int × Int × List SSymbol × List SMember × Int × Int × Bool × Int)) × (List (List UInt8) × Int × List SType × Int × List UInt8 × Int × Int × Int × List SSymbol × List SMember × Int × Int × Bool × Int→Option ((Bool) ⊕ (Unit))) × (Int × Int × List SField × Int × Int × List SType × SType→Option ((Bool) ⊕ (Int × SType))) × (List (List UInt8) × Int × Int × List SType × Int × List UInt8 × Int × Int × Int × List SSymbol × List SMember × Int × Int × Bool × Int→Option ((Int × List SType × Int × List UInt8 × Int × Int × Int × List SSymbol × List SMember × Int × Int × Bool × Int) ⊕ (List SType × Int × List UInt8 × Int × Int × Int × List SSymbol × List SMember × Int × Int × Bool × Int)))
 | 0=>(fun _=>none,fun _=>none,fun _=>none,fun _=>none,fun _=>none,fun _=>none,fun _=>none,fun _=>none,fun _=>none)
 | fuel+1=>
 (fun(x_:EncodeReader × Int × List UInt8 × Int)=>match x_ with
 | (r,t,p,level)=>
 if inR t r.s.Types.length=true then
 some (r.s.Types.getD t.toNat dSType) >>=fun x0=>
 if decide (200 < level)=true then
 some false
 else
 if decide (x0.Kind=5)=true then
 (gf fuel).2.2.2.1 ((⟨(⟨r.s.Types⟩:SSchema)⟩:EncodeReader),x0,p,level) >>=fun r_1=>
 some r_1
 else
 some (decide (x0.Kind=7)) >>=fun t33=>
 if t33=true then
 if t33=true then
 (gf fuel).2.1 ((⟨(⟨r.s.Types⟩:SSchema)⟩:EncodeReader),x0,p,level) >>=fun r_2=>
 some r_2
 else
 if decide (x0.Kind=9)=true then
 some (decide (p=[])) >>=fun t43=>
 if(inR 0 p.length || (!(!t43)))=true then
 some (decide (g4p p 0=1)) >>=fun t47=>
 if(slR 1 (p.length:Int) p.length || (!((!t43) && t47)))=true then
 (if((!t43) && t47)=true then(gf fuel).1 ((⟨(⟨r.s.Types⟩:SSchema)⟩:EncodeReader),x0.Elem,cutL p 1 (p.length:Int),addI .i64 level 1)else some false) >>=fun r_3=>
 some (bif t43 then true else bif t47 then r_3 else false)
 else none
 else none
 else
 if decide (x0.Kind=6)=true then
 gsg p >>=fun r_4=>
 if(!(decide (r_4.2.2=0)))=true then
 some false
 else
 g8j (x0,r_4.1) >>=fun r_8=>
 some (bif (!r_8.2)then x0.Open else false) >>=fun t80=>
 if(inR r_8.1 x0.Members.length || (!((!t80) && r_8.2)))=true then
 (if((!t80) && r_8.2)=true then(gf fuel).1 ((⟨(⟨r.s.Types⟩:SSchema)⟩:EncodeReader),(x0.Members.getD r_8.1.toNat dSMember).Type_,r_4.2.1,addI .i64 level 1)else some false) >>=fun r_11=>
 some (bif t80 then true else bif r_8.2 then r_11 else false)
 else none
 else
 gmf (x0,p) >>=fun r_12=>
 some r_12
 else
 if decide (x0.Kind=8)=true then
 (gf fuel).2.1 ((⟨(⟨r.s.Types⟩:SSchema)⟩:EncodeReader),x0,p,level) >>=fun r_13=>
 some r_13
 else
 if decide (x0.Kind=9)=true then
 some (decide (p=[])) >>=fun t43_1=>
 if(inR 0 p.length || (!(!t43_1)))=true then
 some (decide (g4p p 0=1)) >>=fun t47_1=>
 if(slR 1 (p.length:Int) p.length || (!((!t43_1) && t47_1)))=true then
 (if((!t43_1) && t47_1)=true then(gf fuel).1 ((⟨(⟨r.s.Types⟩:SSchema)⟩:EncodeReader),x0.Elem,cutL p 1 (p.length:Int),addI .i64 level 1)else some false) >>=fun r_14=>
 some (bif t43_1 then true else bif t47_1 then r_14 else false)
 else none
 else none
 else
 if decide (x0.Kind=6)=true then
 gsg p >>=fun r_15=>
 if(!(decide (r_15.2.2=0)))=true then
 some false
 else
 g8j (x0,r_15.1) >>=fun r_19=>
 some (bif (!r_19.2)then x0.Open else false) >>=fun t80_1=>
 if(inR r_19.1 x0.Members.length || (!((!t80_1) && r_19.2)))=true then
 (if((!t80_1) && r_19.2)=true then(gf fuel).1 ((⟨(⟨r.s.Types⟩:SSchema)⟩:EncodeReader),(x0.Members.getD r_19.1.toNat dSMember).Type_,r_15.2.1,addI .i64 level 1)else some false) >>=fun r_22=>
 some (bif t80_1 then true else bif r_19.2 then r_22 else false)
 else none
 else
 gmf (x0,p) >>=fun r_23=>
 some r_23
 else none,
 fun(x_:EncodeReader × SType × List UInt8 × Int)=>match x_ with
 | (r,x0,p,level)=>
 gnr p >>=fun r_1=>
 if(!(decide (r_1.2=0)))=true then
 some false
 else
 if decide (x0.Kind=7)=true then
 some (decide ((r_1.1.length:Int)≤x0.Max)) >>=fun t26=>
 if t26=true then
 (gf fuel).2.2.2.2.1 (r_1.1,r.s.Types,x0.Kind,x0.Name,x0.Low,x0.High,x0.Max,x0.Symbols,x0.Members,x0.Key,x0.Elem,x0.Open,level) >>=fun r_4=>
 some (bif t26 then(!r_4.1)else false)
 else
 some (bif t26 then false else false)
 else
 if(bif decide (remI (r_1.1.length:Int) 2=1)then true else decide (x0.Max < quoI .i64 (r_1.1.length:Int) 2))=true then
 some false
 else
 (gf fuel).2.2.2.2.2.2.1 (r_1.1,0,r.s.Types,x0.Kind,x0.Name,x0.Low,x0.High,x0.Max,x0.Symbols,x0.Members,x0.Key,x0.Elem,x0.Open,level) >>=fun o=>
 match o with
 | .inl o_1=>
 some o_1
 | .inr o_2=>
 some true,
 fun(x_:List UInt8 × List SType × Int × List UInt8 × Int × Int × Int × List SSymbol × List SMember × Int × Int × Bool × Int)=>match x_ with
 | (p,b,b_1,b_2,b_3,b_4,b_5,b_6,b_7,b_8,b_9,b_10,b_11)=>
 (gf fuel).1 ((⟨(⟨b⟩:SSchema)⟩:EncodeReader),b_9,p,addI .i64 b_11 1) >>=fun r=>
 some ((!r),b,b_1,b_2,b_3,b_4,b_5,b_6,b_7,b_8,b_9,b_10,b_11),
 fun(x_:EncodeReader × SType × List UInt8 × Int)=>match x_ with
 | (r,x0,p,level)=>
 gtt p >>=fun r_1=>
 if(!(decide (r_1.2=0)))=true then
 some false
 else
 (gf fuel).2.2.2.2.2.2.2.1 (level,0,r_1.1,(r_1.1.length:Int),0,r.s.Types,x0) >>=fun o=>
 match o with
 | .inl o_1=>
 some o_1
 | .inr o_2=>
 ggx (o_2.1,o_2.2.Members,(o_2.2.Members.length:Int),0) >>=fun o_3=>
 some (decide (o_3=0)),
 fun(x_:List (List UInt8) × List SType × Int × List UInt8 × Int × Int × Int × List SSymbol × List SMember × Int × Int × Bool × Int)=>match x_ with
 | (s,b,b_1,b_2,b_3,b_4,b_5,b_6,b_7,b_8,b_9,b_10,b_11)=>
 (gf fuel).2.2.2.2.2.1 (s,b,b_1,b_2,b_3,b_4,b_5,b_6,b_7,b_8,b_9,b_10,b_11) >>=fun r=>
 some (decide (0≤r.1),r.2.1,r.2.2.1,r.2.2.2.1,r.2.2.2.2.1,r.2.2.2.2.2.1,r.2.2.2.2.2.2.1,r.2.2.2.2.2.2.2.1,r.2.2.2.2.2.2.2.2.1,r.2.2.2.2.2.2.2.2.2.1,r.2.2.2.2.2.2.2.2.2.2.1,r.2.2.2.2.2.2.2.2.2.2.2.1,r.2.2.2.2.2.2.2.2.2.2.2.2),
 fun(x_:List (List UInt8) × List SType × Int × List UInt8 × Int × Int × Int × List SSymbol × List SMember × Int × Int × Bool × Int)=>match x_ with
 | (s,b,b_1,b_2,b_3,b_4,b_5,b_6,b_7,b_8,b_9,b_10,b_11)=>
 (gf fuel).2.2.2.2.2.2.2.2 (s,(s.length:Int),0,b,b_1,b_2,b_3,b_4,b_5,b_6,b_7,b_8,b_9,b_10,b_11) >>=fun o=>
 match o with
 | .inl o_1=>
 some (o_1.1,o_1.2.1,o_1.2.2.1,o_1.2.2.2.1,o_1.2.2.2.2.1,o_1.2.2.2.2.2.1,o_1.2.2.2.2.2.2.1,o_1.2.2.2.2.2.2.2.1,o_1.2.2.2.2.2.2.2.2.1,o_1.2.2.2.2.2.2.2.2.2.1,o_1.2.2.2.2.2.2.2.2.2.2.1,o_1.2.2.2.2.2.2.2.2.2.2.2.1,o_1.2.2.2.2.2.2.2.2.2.2.2.2)
 | .inr o_2=>
 some ((-1),o_2.1,o_2.2.1,o_2.2.2.1,o_2.2.2.2.1,o_2.2.2.2.2.1,o_2.2.2.2.2.2.1,o_2.2.2.2.2.2.2.1,o_2.2.2.2.2.2.2.2.1,o_2.2.2.2.2.2.2.2.2.1,o_2.2.2.2.2.2.2.2.2.2.1,o_2.2.2.2.2.2.2.2.2.2.2.1,o_2.2.2.2.2.2.2.2.2.2.2.2),
 fun(x_:List (List UInt8) × Int × List SType × Int × List UInt8 × Int × Int × Int × List SSymbol × List SMember × Int × Int × Bool × Int)=>match x_ with
 | (l,i,b,b_1,b_2,b_3,b_4,b_5,b_6,b_7,b_8,b_9,b_10,b_11)=>
 if decide (i < (l.length:Int))=true then
 if inR i l.length=true then
 (gf fuel).1 ((⟨(⟨b⟩:SSchema)⟩:EncodeReader),b_8,l.getD i.toNat [],addI .i64 b_11 1) >>=fun r_18=>
 some (!r_18) >>=fun t61=>
 some (addI .i64 i 1) >>=fun t68=>
 if(inR t68 l.length || (!(!t61)))=true then
 (if(!t61)=true then(gf fuel).1 ((⟨(⟨b⟩:SSchema)⟩:EncodeReader),b_9,l.getD t68.toNat [],addI .i64 b_11 1)else some false) >>=fun r_19=>
 some (bif t61 then true else(!r_19)) >>=fun t75=>
 some (decide (0 < i)) >>=fun t78=>
 some (subI .i64 i 2) >>=fun t82=>
 if(inR t82 l.length || (!((!t75) && t78)))=true then
 if(inR i l.length || (!((!t75) && t78)))=true then
 (if((!t75) && t78)=true then gtu (l.getD t82.toNat [],l.getD i.toNat [])else some false) >>=fun r_20=>
 if(bif t75 then true else bif t78 then(!r_20)else false)=true then
 some (.inl false)
 else
 (gf fuel).2.2.2.2.2.2.1 (l,addI .i64 i 2,b,b_1,b_2,b_3,b_4,b_5,b_6,b_7,b_8,b_9,b_10,b_11)
 else none
 else none
 else none
 else none
 else
 some (.inr ()),
 fun(x_:Int × Int × List SField × Int × Int × List SType × SType)=>match x_ with
 | (level_1,seen_2,t27,t28_1,t29,b_1,b_2)=>
 if decide (t29 < t28_1)=true then
 if inR t29 t27.length=true then
 some (t27.getD t29.toNat dSField) >>=fun x0_1=>
 g8j (b_2,x0_1.ID) >>=fun r_4=>
 if(!r_4.2)=true then
 if x0_1.Critical=true then
 some (.inl false)
 else
 (gf fuel).2.2.2.2.2.2.2.1 (level_1,seen_2,t27,t28_1,addI .i64 t29 1,b_1,b_2)
 else
 if inR r_4.1 b_2.Members.length=true then
 some (b_2.Members.getD r_4.1.toNat dSMember) >>=fun x0_2=>
 some (!(eqB x0_1.Critical x0_2.Critical)) >>=fun t53=>
 (if(!t53)=true then(gf fuel).1 ((⟨(⟨b_1⟩:SSchema)⟩:EncodeReader),x0_2.Type_,x0_1.Data,addI .i64 level_1 1)else some false) >>=fun r_7=>
 if(bif t53 then true else(!r_7))=true then
 some (.inl false)
 else
 if x0_2.HasDefault=true then
 gsb ((⟨b_1⟩:SSchema),x0_2.Type_,SValue.eta x0_2.Default) >>=fun r_8=>
 if r_8=true then
 gby (x0_2.Type_,SValue.eta x0_2.Default,1,b_1,0) >>=fun r_9=>
 if(bif r_8 then decide (r_9.1=x0_1.Data)else false)=true then
 some (.inl false)
 else
 (gf fuel).2.2.2.2.2.2.2.1 (level_1,seen_2,t27,t28_1,addI .i64 t29 1,b_1,b_2)
 else
 if(bif r_8 then false else false)=true then
 some (.inl false)
 else
 (gf fuel).2.2.2.2.2.2.2.1 (level_1,seen_2,t27,t28_1,addI .i64 t29 1,b_1,b_2)
 else
 (gf fuel).2.2.2.2.2.2.2.1 (level_1,addI .i64 seen_2 1,t27,t28_1,addI .i64 t29 1,b_1,b_2)
 else none
 else none
 else
 some (.inr (seen_2,b_2)),
 fun(x_:List (List UInt8) × Int × Int × List SType × Int × List UInt8 × Int × Int × Int × List SSymbol × List SMember × Int × Int × Bool × Int)=>match x_ with
 | (s_1,t7_1,t8,b_36,b_37,b_38,b_39,b_40,b_41,b_42,b_43,b_44,b_45,b_46,b_47)=>
 if decide (t8 < t7_1)=true then
 if inR t8 s_1.length=true then
 (gf fuel).2.2.1 (s_1.getD t8.toNat [],b_36,b_37,b_38,b_39,b_40,b_41,b_42,b_43,b_44,b_45,b_46,b_47) >>=fun r=>
 if r.1=true then
 some (.inl (t8,r.2.1,r.2.2.1,r.2.2.2.1,r.2.2.2.2.1,r.2.2.2.2.2.1,r.2.2.2.2.2.2.1,r.2.2.2.2.2.2.2.1,r.2.2.2.2.2.2.2.2.1,r.2.2.2.2.2.2.2.2.2.1,r.2.2.2.2.2.2.2.2.2.2.1,r.2.2.2.2.2.2.2.2.2.2.2.1,r.2.2.2.2.2.2.2.2.2.2.2.2))
 else
 (gf fuel).2.2.2.2.2.2.2.2 (s_1,t7_1,addI .i64 t8 1,r.2.1,r.2.2.1,r.2.2.2.1,r.2.2.2.2.1,r.2.2.2.2.2.1,r.2.2.2.2.2.2.1,r.2.2.2.2.2.2.2.1,r.2.2.2.2.2.2.2.2.1,r.2.2.2.2.2.2.2.2.2.1,r.2.2.2.2.2.2.2.2.2.2.1,r.2.2.2.2.2.2.2.2.2.2.2.1,r.2.2.2.2.2.2.2.2.2.2.2.2)
 else none
 else
 some (.inr (b_36,b_37,b_38,b_39,b_40,b_41,b_42,b_43,b_44,b_45,b_46,b_47)))
theorem gi :∀n,(∀x,Le ((gf n).1 x) (g1j x))∧(∀x,Le ((gf n).2.1 x) (g8y x))∧(∀x,Le ((gf n).2.2.1 x) (g8w x))∧(∀x,Le ((gf n).2.2.2.1 x) (gam x))∧(∀x,Le ((gf n).2.2.2.2.1 x) (g4v x))∧(∀x,Le ((gf n).2.2.2.2.2.1 x) (g5k x))∧(∀x,Le ((gf n).2.2.2.2.2.2.1 x) (g6z x))∧(∀x,Le ((gf n).2.2.2.2.2.2.2.1 x) (g3b x))∧(∀x,Le ((gf n).2.2.2.2.2.2.2.2 x) (g3e x))
 | 0=>⟨fun _=>Le.n,fun _=>Le.n,fun _=>Le.n,fun _=>Le.n,fun _=>Le.n,fun _=>Le.n,fun _=>Le.n,fun _=>Le.n,fun _=>Le.n⟩
 | fuel+1=>⟨fun x=>match x with | (_,_,_,_)=>by rw[g1j];exact(Le.i (Le.b Le.r fun _=>(Le.i Le.r (Le.i (Le.b ((gi fuel).2.2.2.1 _) fun _=>Le.r) (Le.b Le.r fun _=>(Le.i (Le.i (Le.b ((gi fuel).2.1 _) fun _=>Le.r) (Le.i (Le.b Le.r fun _=>(Le.i (Le.b Le.r fun _=>(Le.i (Le.b (Le.i ((gi fuel).1 _) Le.r) fun _=>Le.r) Le.r)) Le.r)) (Le.i (Le.b (gxw _) fun _=>(Le.i Le.r (Le.b (g9e _) fun _=>(Le.b Le.r fun _=>(Le.i (Le.b (Le.i ((gi fuel).1 _) Le.r) fun _=>Le.r) Le.r))))) (Le.b (gsi _) fun _=>Le.r)))) (Le.i (Le.b ((gi fuel).2.1 _) fun _=>Le.r) (Le.i (Le.b Le.r fun _=>(Le.i (Le.b Le.r fun _=>(Le.i (Le.b (Le.i ((gi fuel).1 _) Le.r) fun _=>Le.r) Le.r)) Le.r)) (Le.i (Le.b (gxw _) fun _=>(Le.i Le.r (Le.b (g9e _) fun _=>(Le.b Le.r fun _=>(Le.i (Le.b (Le.i ((gi fuel).1 _) Le.r) fun _=>Le.r) Le.r))))) (Le.b (gsi _) fun _=>Le.r))))))))) Le.r),
 fun x=>match x with | (_,_,_,_)=>by rw[g8y];exact(Le.b (gts _) fun _=>(Le.i Le.r (Le.i (Le.b Le.r fun _=>(Le.i (Le.b ((gi fuel).2.2.2.2.1 _) fun _=>Le.r) Le.r)) (Le.i Le.r (Le.b ((gi fuel).2.2.2.2.2.2.1 _) fun _=>Le.r))))),
 fun x=>match x with | (_,_,_,_,_,_,_,_,_,_,_,_,_)=>by rw[g8w];exact(Le.b ((gi fuel).1 _) fun _=>Le.r),
 fun x=>match x with | (_,_,_,_)=>by rw[gam];exact(Le.b (g13e _) fun _=>(Le.i Le.r (Le.b ((gi fuel).2.2.2.2.2.2.2.1 _) fun o=>match o with | .inl _=>Le.r | .inr _=>(Le.b (gph _) fun _=>Le.r)))),
 fun x=>match x with | (_,_,_,_,_,_,_,_,_,_,_,_,_)=>by rw[g4v];exact(Le.b ((gi fuel).2.2.2.2.2.1 _) fun _=>Le.r),
 fun x=>match x with | (_,_,_,_,_,_,_,_,_,_,_,_,_)=>by rw[g5k];exact(Le.b ((gi fuel).2.2.2.2.2.2.2.2 _) fun _=>Le.r),
 fun x=>match x with | (_,_,_,_,_,_,_,_,_,_,_,_,_,_)=>by rw[g6z];exact(Le.i (Le.i (Le.b ((gi fuel).1 _) fun _=>(Le.b Le.r fun _=>(Le.b Le.r fun _=>(Le.i (Le.b (Le.i ((gi fuel).1 _) Le.r) fun _=>(Le.b Le.r fun _=>(Le.b Le.r fun _=>(Le.b Le.r fun _=>(Le.i (Le.i (Le.b (Le.i (g13f _) Le.r) fun _=>(Le.i Le.r ((gi fuel).2.2.2.2.2.2.1 _))) Le.r) Le.r))))) Le.r)))) Le.r) Le.r),
 fun x=>match x with | (_,_,_,_,_,_,_)=>by rw[g3b];exact(Le.i (Le.i (Le.b Le.r fun _=>(Le.b (g9e _) fun _=>(Le.i (Le.i Le.r ((gi fuel).2.2.2.2.2.2.2.1 _)) (Le.i (Le.b Le.r fun _=>(Le.b Le.r fun _=>(Le.b (Le.i ((gi fuel).1 _) Le.r) fun _=>(Le.i Le.r (Le.i (Le.b (gxt _) fun _=>(Le.i (Le.b (ghz _) fun _=>(Le.i Le.r ((gi fuel).2.2.2.2.2.2.2.1 _))) (Le.i Le.r ((gi fuel).2.2.2.2.2.2.2.1 _)))) ((gi fuel).2.2.2.2.2.2.2.1 _)))))) Le.r)))) Le.r) Le.r),
 fun x=>match x with | (_,_,_,_,_,_,_,_,_,_,_,_,_,_,_)=>by rw[g3e];exact(Le.i (Le.i (Le.b ((gi fuel).2.2.1 _) fun _=>(Le.i Le.r ((gi fuel).2.2.2.2.2.2.2.2 _))) Le.r) Le.r)⟩
def ggy(x:EncodeReader × Int × List UInt8 × Int) :Option (Bool):=(gf 40).1 x
theorem gpi :∀x,Le (ggy x) (g1j x):=(gi 40).1
def gi1(x_:SSchema × Int × List UInt8) :Option (Bool):=
 match x_ with
 | (s,t,m)=>
 gkl ((⟨s.Types⟩:SSchema),t) >>=fun r=>
 some (bif decide (r=0)then decide ((m.length:Int)≤4096)else false) >>=fun t15=>
 (if t15=true then ggy ((⟨(⟨s.Types⟩:SSchema)⟩:EncodeReader),t,m,1)else some false) >>=fun r_1=>
 some (bif t15 then r_1 else false)
theorem gn3 :∀x,Le (gi1 x) (gey x):=fun x=>match x with | (_,_,_)=>(Le.b (gpy _) fun _=>(Le.b Le.r fun _=>(Le.b (Le.i (gpi _) Le.r) fun _=>Le.r)))
def gyh(_:Unit) :Option (Bool):=
 g7p () >>=fun r=>
 gg6 ((-2),3) >>=fun r_1=>
 gmc (r,3,SValue.eta r_1) >>=fun r_2=>
 g7p () >>=fun r_5=>
 gg6 ((-2),0) >>=fun r_6=>
 gmc (r_5,3,SValue.eta r_6) >>=fun r_7=>
 gnr [1,97,0] >>=fun r_10=>
 some (bif bif bif bif decide (r_2.2=0)then decide (r_7.2=0)else false then decide (r_10.2=0)else false then decide (r_2.1=[2,1,3,7,2,97,98])else false then decide (r_7.1=[2,1,3,4,0,7,2,97,98])else false) >>=fun t40=>
 (if t40=true then gef (r_10.1,[[97],[]])else some false) >>=fun r_13=>
 some (bif t40 then r_13 else false) >>=fun t45=>
 (if t45=true then g7p ()else some dSSchema) >>=fun r_14=>
 (if t45=true then gi1 (r_14,3,r_2.1)else some false) >>=fun r_15=>
 some (bif t45 then r_15 else false) >>=fun t50=>
 (if t50=true then g7p ()else some dSSchema) >>=fun r_16=>
 (if t50=true then gi1 (r_16,3,[2,1,3,4,1,6,7,2,97,98])else some false) >>=fun r_17=>
 some (bif t50 then(!r_17)else false)
theorem gx8 :∀x,Le (gyh x) (gag x):=fun _=>(Le.b (g9o _) fun _=>(Le.b (gm1 _) fun _=>(Le.b (gsf _) fun _=>(Le.b (g9o _) fun _=>(Le.b (gm1 _) fun _=>(Le.b (gsf _) fun _=>(Le.b (gts _) fun _=>(Le.b Le.r fun _=>(Le.b (Le.i (gns _) Le.r) fun _=>(Le.b Le.r fun _=>(Le.b (Le.i (g9o _) Le.r) fun _=>(Le.b (Le.i (gn3 _) Le.r) fun _=>(Le.b Le.r fun _=>(Le.b (Le.i (g9o _) Le.r) fun _=>(Le.b (Le.i (gn3 _) Le.r) fun _=>Le.r)))))))))))))))
theorem gkv :gag ()=some true:=gx8 () true (by kernel_rfl)
end
section
open Go Go.Proofs.YthnmepafpikaiaaGreat.Shv
set_option maxRecDepth 100000
def vg(s:List UInt8) :Nat→Nat→Nat→Int × Int × Int
 | 0,_,_=>(0,0,10)
 | f+1,i,n=>
   if i < s.length then
     if i=9∧1 < (s.getD i 0).toNat then(0,0,7)
     else if 128≤(s.getD i 0).toNat then vg s f (i+1) (n+((s.getD i 0).toNat % 128)*2 ^ (7*i))
     else if(s.getD i 0).toNat=0∧0 < i then(0,0,2)
     else(((n+(s.getD i 0).toNat*2 ^ (7*i):Nat):Int),((i+1:Nat):Int),0)
   else(0,0,10)
theorem pow7{i:Nat}(h:i≤9) :2 ^ (7*i)≤9223372036854775808:=by
 have:2 ^ (7*i)≤2 ^ 63:=Nat.pow_le_pow_right (by omega) (by omega);have e:(2:Nat) ^ 63=9223372036854775808:=by decide
 omega
theorem pow7s(i:Nat) :2 ^ (7*(i+1))=2 ^ (7*i)*128:=by rw[Nat.mul_add,Nat.pow_add]
theorem step7{n i b:Nat}(hn:n < 2 ^ (7*i)) :n+(b % 128)*2 ^ (7*i) < 2 ^ (7*(i+1)):=by
 rw[pow7s];have:b % 128*2 ^ (7*i)≤127*2 ^ (7*i):=Nat.mul_le_mul_right _ (by omega);omega
theorem fit7{n i b:Nat}(hi:i≤9)(hn:n < 2 ^ (7*i))(hb:b < 128)(h9:i=9→b≤1) :b*2 ^ (7*i) < 18446744073709551616∧n+b*2 ^ (7*i) < 18446744073709551616:=by
 rcases Nat.lt_or_ge i 9 with h | h
 · have:2 ^ (7*i)≤2 ^ 56:=Nat.pow_le_pow_right (by omega) (by omega);have e:(2:Nat) ^ 56=72057594037927936:=by decide
   have:b*2 ^ (7*i)≤127*2 ^ (7*i):=Nat.mul_le_mul_right _ (by omega);omega
 · have:i=9:=by omega
   subst this;have e:(2:Nat) ^ (7*9)=9223372036854775808:=by decide
   rw[e]at hn ⊢;have:=h9 rfl;omega
theorem g1fv(s:List UInt8) :∀(f i n:Nat),i+f=10→n < 2 ^ (7*i)→∃o,g5h (s,(n:Int),((min 10 s.length:Nat):Int),(i:Int))=some o∧(match o with | .inl x=>x | .inr _=>(0,0,10))=vg s f i n
 | 0,i,n,h,hn=>by
   refine⟨.inr (),?_,rfl⟩;rw[g5h];rw[if_neg (by simp;omega)]
 | f+1,i,n,h,hn=>by
   rw[g5h];simp only[vg,oZ4,oZ3,gqa];by_cases hi:i < s.length
   · have hb:=g17d s i;generalize (s.getD i 0).toNat=b at hb ⊢;rw[if_pos (by simp;omega),if_pos (g8 hi),if_pos hi];have hm:mulI .i64 7 (i:Int)=((7*i:Nat):Int):=by rw[g1fi (by omega) (by omega)];norm_cast
     rw[hm];have hz:decide ((0:Int)≤((7*i:Nat):Int))=true:=by simp;omega
     by_cases h9:i=9∧1 < b
     · rw[if_pos h9,if_pos (by obtain⟨h1,h2⟩:=h9;subst h1;simp;omega)];exact⟨_,rfl,rfl⟩
     · rw[if_neg h9,if_neg (by
         intro hc;apply h9;simp only[Bool.cond_eq_ite,Bool.ite_eq_true_distrib,decide_eq_true_eq]at hc;split at hc
         · rename_i h1;exact⟨by omega,by omega⟩
         · cases hc)]
       by_cases hbig:128≤b
       · rw[if_pos hbig,if_pos (by simp;omega),if_pos hz];have h9':i=9→False:=fun h1=>h9 ⟨h1,by omega⟩
         have hlt:b % 128 < 128:=Nat.mod_lt _ (by omega);have hf:=fit7 (i:=i) (n:=n) (b:=b % 128) (by omega) hn hlt (fun h1=>(h9' h1).elim);rw[g1hd hb,wrpn (by omega),g19l (by omega) hf.1,g1bx (by have:=pow7 (i:=i) (by omega);omega) hf.1,g1fh hn,gu (by omega)];exact g1fv s f (i+1) (n+b % 128*2 ^ (7*i)) (by omega) (step7 hn)
       · rw[if_neg hbig,if_neg (by simp;omega)];by_cases h0:b=0∧0 < i
         · rw[if_pos h0,if_pos (by obtain⟨h1,h2⟩:=h0;subst h1;simp;omega)];exact⟨_,rfl,rfl⟩
         · rw[if_neg h0,if_neg (by
             intro hc;apply h0;simp only[Bool.cond_eq_ite,Bool.ite_eq_true_distrib,decide_eq_true_eq]at hc;split at hc
             · rename_i h1;exact⟨by omega,by omega⟩
             · cases hc),if_pos hz]
           have hf:=fit7 (i:=i) (n:=n) (b:=b) (by omega) hn (by omega) (fun h1=>by omega);rw[wrpn (by omega),g19l (by omega) hf.1,g1bx (by have:=pow7 (i:=i) (by omega);omega) hf.1,g1fh hn,gu (by omega)];exact⟨_,rfl,rfl⟩
   · rw[if_neg (by simp;omega),if_neg hi];exact⟨_,rfl,rfl⟩
theorem g1fw(s:List UInt8) :glm s=some (vg s 10 0 0):=by
 obtain⟨o,h1,h2⟩:=g1fv s 10 0 0 rfl (by decide);rw[glm];have:minI 10 (s.length:Int)=((min 10 s.length:Nat):Int):=g12m 10 s.length;rw[this];have h1':g5h (s,0,((min 10 s.length:Nat):Int),0)=some o:=h1;rw[h1',←h2];cases o <;> rfl
end
section
open Go Go.Proofs.YthnmepafpikaiaaGreat.Shv
set_option maxRecDepth 100000
theorem g1a2(s:List UInt8) :∀(f i n:Nat),i≤s.length→i+f=10→n < 2 ^ (7*i)→(∃e:Int,e≠0∧vg s f i n=(0,0,e))∨∃m k:Nat,vg s f i n=((m:Int),(k:Int),0)∧i < k∧k≤s.length∧m < 18446744073709551616
 | 0,i,n,hil,h,hn=>.inl ⟨10,by decide,rfl⟩
 | f+1,i,n,hil,h,hn=>by
   simp only[vg];have hb:=g17d s i;generalize (s.getD i 0).toNat=b at hb ⊢;by_cases hi:i < s.length
   · rw[if_pos hi];by_cases h9:i=9∧1 < b
     · rw[if_pos h9];exact .inl ⟨7,by decide,rfl⟩
     · rw[if_neg h9];by_cases hbig:128≤b
       · rw[if_pos hbig];rcases g1a2 s f (i+1) (n+b % 128*2 ^ (7*i)) (by omega) (by omega) (step7 hn)with h | ⟨m,k,h1,h2,h3,h4⟩
         · exact .inl h
         · exact .inr ⟨m,k,h1,by omega,h3,h4⟩
       · rw[if_neg hbig];by_cases h0:b=0∧0 < i
         · rw[if_pos h0];exact .inl ⟨2,by decide,rfl⟩
         · rw[if_neg h0];have hf:=fit7 (i:=i) (n:=n) (b:=b) (by omega) hn (by omega) (fun h1=>by omega);exact .inr ⟨_,i+1,rfl,by omega,by omega,hf.2⟩
   · rw[if_neg hi];exact .inl ⟨10,by decide,rfl⟩
theorem vg0(s:List UInt8) :(∃e:Int,e≠0∧vg s 10 0 0=(0,0,e))∨∃m k:Nat,vg s 10 0 0=((m:Int),(k:Int),0)∧0 < k∧k≤s.length∧m < 18446744073709551616:=
 g1a2 s 10 0 0 (by omega) rfl (by decide)
theorem g1ix{s:List UInt8}{e:Int}(he:e≠0)(h:vg s 10 0 0=(0,0,e)) :g9k s=some (0,[],false):=by
 rw[g9k,g1fw,h];simp only[oZ4,oZ3];rw[if_pos (by simp[he])]
theorem g16l{s:List UInt8}{m k:Nat}(h:vg s 10 0 0=((m:Int),(k:Int),0))(hk:k≤s.length) :g9k s=some ((m:Int),s.drop k,true):=by
 rw[g9k,g1fw,h];simp only[oZ4,oZ3];rw[if_neg (by simp),if_pos (gc0 hk (Nat.le_refl _)),gju]
def encP :Option (List UInt8 × List UInt8)→List UInt8 × List UInt8 × Bool
 | none=>([],[],false)
 | some (a,b)=>(a,b,true)
def vpart(s:List UInt8) :Option (List UInt8 × List UInt8):=
 match vg s 10 0 0 with
 | (m,k,e)=>if e=0∧m.toNat+k.toNat≤s.length then some ((s.drop k.toNat).take m.toNat,(s.drop k.toNat).drop m.toNat)else none
theorem g1c0{s:List UInt8}(hs:s.length≤1000000) :gfv s=some (encP (vpart s)):=by
 rw[gfv];unfold vpart;rcases vg0 s with⟨e,he,hv⟩ | ⟨m,k,hv,hk0,hk,hm⟩
 · rw[g1ix he hv,hv];simp[he,encP]
 · rw[g16l hv hk,hv];simp only[oZ4,oZ3,Int.toNat_natCast,true_and,List.length_drop];rw[wrpn (by omega)];by_cases hle:m+k≤s.length
   · rw[if_neg (by simp;omega),if_pos (show slR 0 (m:Int) (s.length - k)=true from gc0 (a:=0) (by omega) (by omega)),if_pos (gc0 (by omega) (Nat.le_refl _)),if_pos hle];have:((s.length - k:Nat):Int)=((s.drop k).length:Int):=by simp
     rw[this,gju,gej];rfl
   · rw[if_pos (by simp;omega),if_neg hle];rfl
end
section
open Go Go.Proofs.YthnmepafpikaiaaGreat.Shv
set_option maxRecDepth 100000
def vput(n:Nat) :List UInt8:=if n < 128 then[UInt8.ofNat n]else UInt8.ofNat (n % 128+128)::vput (n / 128)
termination_by n
decreasing_by omega
theorem gmg{n:Nat}(h:n < 128) :vput n=[UInt8.ofNat n]:=by rw[vput,if_pos h]
theorem gnt{n:Nat}(h:¬n < 128) :vput n=UInt8.ofNat (n % 128+128)::vput (n / 128):=by rw[vput,if_neg h]
theorem g1mr{a:Nat}(h:a < 256) :orI .u8 (a:Int) 128=((a % 128+128:Nat):Int):=by
 have key:∀a:Nat,a < 256→orI .u8 (a:Int) 128=((a % 128+128:Nat):Int):=by decide+kernel
 exact key a h
theorem wrp8(n:Nat) :wrp .u8 (n:Int)=((n % 256:Nat):Int):=by
 unfold wrp;rw[IntKind.wrap_u8];omega
theorem shrI7(n:Nat) :shrI .u64 (n:Int) 7=((n / 128:Nat):Int):=by
 unfold shrI;have:((2:Int) ^ min (7:Int).toNat IntKind.u64.bits)=128:=by decide
 rw[this,Int.fdiv_eq_ediv_of_nonneg _ (by omega)];omega
theorem g1e0(m:Nat)(l:List Int) :strOf ((m:Int)::l)=UInt8.ofNat m::strOf l:=rfl
theorem gmh(a b:List Int) :strOf (a++b)=strOf a++strOf b:=List.map_append
theorem gpj{α:Type} :∀(l:List α) (i:Nat) (x:α),i < l.length→(l.set i x).take (i+1)=l.take i++[x]
 | [],i,x,h=>by simp at h
 | a::l,0,x,h=>by simp
 | a::l,i+1,x,h=>by simp[gpj l i x (by simpa using h)]
theorem g1fx :∀(f n i:Nat) (b:List Int),i+f=9→n < 128*128 ^ f→b.length=10→∃(n' i':Nat) (b':List Int),g6d ((n:Int),(i:Int),b)=some ((n':Int),(i':Int),b')∧n' < 128∧i'≤9∧b'.length=10∧strOf (b'.take i')++[UInt8.ofNat n']=strOf (b.take i)++vput n
 | f,n,i,b,hi,hn,hb=>by
   rw[g6d];by_cases hs:n < 128
   · rw[if_neg (by simp;omega)];exact⟨n,i,b,rfl,hs,by omega,hb,by rw[gmg hs]⟩
   · rw[if_pos (by simp;omega),if_pos (g8 (by
       cases f with
       | zero=>simp at hn;omega
       | succ f=>omega)),if_pos (by
       cases f with
       | zero=>simp at hn;omega
       | succ f=>simp[hb];omega)]
     match f,hi,hn with
     | 0,hi,hn=>simp at hn;omega
     | f+1,hi,hn=>
       rw[shrI7,gu (by omega),wrp8,g1mr (Nat.mod_lt _ (by omega)),g9];have hlt:n / 128 < 128*128 ^ f:=by
         rw[Nat.div_lt_iff_lt_mul (by omega)];rw[Nat.pow_succ]at hn;rw[Nat.mul_assoc];exact hn
       obtain⟨n',i',b',h1,h2,h3,h4,h5⟩:=g1fx f (n / 128) (i+1) (b.set i ((n % 256 % 128+128:Nat):Int)) (by omega) hlt (by simp[hb]);refine⟨n',i',b',h1,h2,h3,h4,?_⟩;rw[h5,gpj _ _ _ (by omega),gmh,gnt hs];have:n % 256 % 128=n % 128:=by omega
       rw[this];have hone:strOf [((n % 128+128:Nat):Int)]=[UInt8.ofNat (n % 128+128)]:=rfl;rw[hone,List.append_assoc];rfl
theorem g1a3 :(128:Nat)*128 ^ 9=1180591620717411303424:=by decide
theorem g108{n:Nat}(hn:n < 18446744073709551616) :gcd (n:Int)=some (vput n):=by
 obtain⟨n',i',b',h1,h2,h3,h4,h5⟩:=g1fx 9 n 0 [0,0,0,0,0,0,0,0,0,0] rfl (by rw[g1a3];omega) rfl;rw[gcd];have h1':g6d ((n:Int),0,[0,0,0,0,0,0,0,0,0,0])=some ((n':Int),(i':Int),b'):=h1;rw[h1'];simp only[oZ4,oZ3];have hsl:slR 0 ((i'+1:Nat):Int) 10=true:=gc0 (a:=0) (by omega) (by omega)
 rw[if_pos (g8 (by omega)),if_pos (by simp[h4];omega),gu (by omega),if_pos hsl,if_pos (by simp[subR,h4];omega),g9,g9,wrp8];have:n' % 256=n':=Nat.mod_eq_of_lt (by omega);rw[this];simp only[Int.toNat_zero,List.drop_zero];rw[gpj _ _ _ (by omega),gmh];have h6:strOf [(n':Int)]=[UInt8.ofNat n']:=rfl;rw[h6,h5];simp[strOf]
theorem g17f :∀(f n:Nat) (b:List Int),n < 128 ^ f→n < 18446744073709551616→b.length+f≤1000→∃(n':Nat) (b':List Int),gci ((n:Int),b)=some ((n':Int),b')∧n' < 128∧b'.length≤1000∧strOf b'++[UInt8.ofNat n']=strOf b++vput n
 | f,n,b,hn,h64,hb=>by
   rw[gci];by_cases hs:n < 128
   · rw[if_neg (by simp;omega)];exact⟨n,b,rfl,hs,by omega,by rw[gmg hs]⟩
   · rw[if_pos (by simp;omega)]
     match f,hn with
     | 0,hn=>simp at hn;omega
     | f+1,hn=>
       have hrem:remI (n:Int) 128=((n % 128:Nat):Int):=remIn (b:=128);have hadd:addI .u64 ((n % 128:Nat):Int) 128=((n % 128+128:Nat):Int):=addIn (b:=128) (by omega);have hq:quoI .u64 (n:Int) 128=((n / 128:Nat):Int):=by
         unfold quoI;have e:(n:Int).tdiv 128=((n / 128:Nat):Int):=by rw[Int.tdiv_eq_ediv_of_nonneg (by omega)];omega
         rw[e];exact wrapu (by omega) (by omega)
       simp only[oZ4,oZ3];rw[hrem,hadd,hq,wrp8,if_pos (g66 (by omega) (by simp;omega))];have hlt:n / 128 < 128 ^ f:=by
         rw[Nat.div_lt_iff_lt_mul (by omega)];rw[Nat.pow_succ]at hn;exact hn
       obtain⟨n',b',h1,h2,h3,h4⟩:=g17f f (n / 128) (b++[(((n % 128+128) % 256:Nat):Int)]) hlt (by omega) (by simp;omega);refine⟨n',b',h1,h2,h3,?_⟩;rw[h4,gmh,gnt hs];have:(n % 128+128) % 256=n % 128+128:=by omega
       rw[this];have hone:strOf [((n % 128+128:Nat):Int)]=[UInt8.ofNat (n % 128+128)]:=rfl;rw[hone,List.append_assoc];rfl
theorem gow{n:Nat}(hn:n < 18446744073709551616) :g8h (n:Int)=some (vput n):=by
 obtain⟨n',b',h1,h2,h3,h4⟩:=g17f 10 n [] (by have:=g1a3;rw[Nat.pow_succ,Nat.mul_comm];omega) hn (by simp);rw[g8h,h1];simp only[oZ4,oZ3];rw[if_pos (g66 (by omega) (by simp;omega)),wrp8,gmh];have:n' % 256=n':=Nat.mod_eq_of_lt (by omega);rw[this];have h6:strOf [(n':Int)]=[UInt8.ofNat n']:=rfl;rw[h6,h4];simp[strOf]
theorem g1a4 :∀(f n:Nat),n < 128 ^ (f+1)→(vput n).length≤f+1
 | f,n,hn=>by
   by_cases hs:n < 128
   · rw[gmg hs];simp
   · rw[gnt hs]
     match f,hn with
     | 0,hn=>simp at hn;omega
     | f+1,hn=>
       have:=g1a4 f (n / 128) (by
         rw[Nat.div_lt_iff_lt_mul (by omega)];rw[Nat.pow_succ]at hn;exact hn)
       simp;omega
theorem g5w{n:Nat}(hn:n < 18446744073709551616) :(vput n).length≤10:=g1a4 9 n (by have:=g1a3;rw[Nat.pow_succ,Nat.mul_comm];omega)
theorem gsj(n:Nat) :0 < (vput n).length:=by
 rw[vput];split <;> simp
theorem g6a{n:Nat}(h:n < 256) :(UInt8.ofNat n).toNat=n:=by
 rw[UInt8.toNat_ofNat'];exact Nat.mod_eq_of_lt h
theorem g1fy :∀(f i acc n:Nat) (pre rest:List UInt8),i+f=10→pre.length=i→n*2 ^ (7*i) < 18446744073709551616→(n=0→i=0)→vg (pre++(vput n++rest)) f i acc=(((acc+n*2 ^ (7*i):Nat):Int),((i+(vput n).length:Nat):Int),0)
 | 0,i,acc,n,pre,rest,hi,hp,hn,h0=>by
   have:i=10:=by omega
   subst this;have e:(2:Nat) ^ (7*10)=1180591620717411303424:=by decide
   rw[e]at hn;have:n=0:=by omega
   have:=h0 this;omega
 | f+1,i,acc,n,pre,rest,hi,hp,hn,h0=>by
   have hlen:i < (pre++(vput n++rest)).length:=by
     have:=gsj n;simp;omega
   have hget:∀(x:UInt8) (r:List UInt8),vput n=x::r→(pre++(vput n++rest)).getD i 0=x:=by
     intro x r hx;rw[hx,List.getD_eq_getElem?_getD,List.getElem?_append_right (by omega),hp];simp
   simp only[vg];rw[if_pos hlen];by_cases hs:n < 128
   · rw[hget _ _ (gmg hs),g6a (by omega),if_neg (by
       rintro ⟨h1,h2⟩
       subst h1;have e:(2:Nat) ^ (7*9)=9223372036854775808:=by decide
       rw[e]at hn;omega),if_neg (by omega),if_neg (by
       rintro ⟨h1,h2⟩
       have:=h0 h1;omega),gmg hs]
     simp
   · have hi9:i < 9:=by
       apply Classical.byContradiction;intro h9;have:i=9:=by omega
       rw[this]at hn;have e:(2:Nat) ^ (7*9)=9223372036854775808:=by decide
       rw[e]at hn;omega
     rw[hget _ _ (gnt hs),g6a (by omega),if_neg (by omega),if_pos (by omega)];have hmod:(n % 128+128) % 128=n % 128:=by omega
     have hsum:n % 128*2 ^ (7*i)+n / 128*2 ^ (7*(i+1))=n*2 ^ (7*i):=by
       rw[pow7s];have h1:n / 128*(2 ^ (7*i)*128)=(n / 128*128)*2 ^ (7*i):=by
         rw[Nat.mul_comm (2 ^ (7*i)) 128,Nat.mul_assoc]
       rw[h1,←Nat.add_mul]
       congr 1;omega
     have hbound:n / 128*2 ^ (7*(i+1)) < 18446744073709551616:=by omega
     have:=g1fy f (i+1) (acc+n % 128*2 ^ (7*i)) (n / 128) (pre++[UInt8.ofNat (n % 128+128)]) rest (by omega) (by simp[hp]) hbound (by omega);rw[hmod];have es:pre++(vput n++rest)=pre++[UInt8.ofNat (n % 128+128)]++(vput (n / 128)++rest):=by
       rw[gnt hs];simp
     rw[es,this,Nat.add_assoc,hsum,gnt hs,List.length_cons];have:i+1+(vput (n / 128)).length=i+((vput (n / 128)).length+1):=by omega
     rw[this]
theorem g16m{n:Nat}(hn:n < 18446744073709551616)(rest:List UInt8) :vg (vput n++rest) 10 0 0=((n:Int),((vput n).length:Int),0):=by
 have:=g1fy 10 0 0 n [] rest rfl rfl (by simpa using hn) (fun _=>rfl)
 simpa using this
def g2z(p:List UInt8) :List UInt8:=vput p.length++p
theorem g3c{n:Nat}(h:n≤9223372036854775807) :decide (n≤g26)=true:=by
 unfold g26;simp;omega
theorem gx9{p:List UInt8}(h:p.length≤1152921504606846976) :g8d p=some (g2z p):=by
 rw[g8d,wrpn (by omega),g108 (by omega)];simp only[oZ4,oZ3];have:=g5w (n:=p.length) (by omega);rw[if_pos (g3c (by omega))];rfl
theorem go1{p:List UInt8}(h:p.length≤1152921504606846976) :g7c p=some (g2z p):=by
 rw[g7c,wrpn (by omega),gow (by omega)];simp only[oZ4,oZ3];have:=g5w (n:=p.length) (by omega);rw[if_pos (g3c (by omega))];rfl
def g6b(id:Nat)(c:Bool)(p:List UInt8) :List UInt8:=vput (2*id+(if c then 1 else 0))++g2z p
theorem g15c{p:List UInt8}(h:p.length≤1152921504606846976) :(g2z p).length≤p.length+10:=by
 have:=g5w (n:=p.length) (by omega);unfold g2z;simp;omega
theorem g13g{id:Nat}{c:Bool}{p:List UInt8}(hid:id≤4611686018427387903)(h:p.length≤1152921504606846900) :gbb ((id:Int),c,p)=some (g6b id c p):=by
 rw[gbb];have hm:mulI .u64 2 (wrp .u64 (id:Int))=((2*id:Nat):Int):=by
   rw[wrpn (by omega)];exact mulIn (a:=2) (by omega)
 simp only[oZ4,oZ3];rw[hm,gx9 (by omega)];have hl:=g15c (p:=p) (by omega);cases c with
 | true=>
   have ha:addI .u64 ((2*id:Nat):Int) 1=((2*id+1:Nat):Int):=addIn (b:=1) (by omega);rw[if_pos rfl,ha,g108 (by omega)];have:=g5w (n:=2*id+1) (by omega);simp only[oZ3];rw[if_pos (g3c (by omega))];rfl
 | false=>
   rw[if_neg (by simp),g108 (by omega)];have:=g5w (n:=2*id) (by omega);simp only[oZ3];rw[if_pos (g3c (by omega))];rfl
theorem g124{id:Nat}{c:Bool}{p:List UInt8}(hid:id≤4611686018427387903)(h:p.length≤1152921504606846900) :gdc ((id:Int),c,p)=some (g6b id c p):=by
 rw[gdc];have hm:wrp .u64 (mulI .i64 2 (id:Int))=((2*id:Nat):Int):=by
   rw[g1fi (by omega) (by omega)];have:(2:Int)*(id:Int)=((2*id:Nat):Int):=by omega
   rw[this];exact wrpn (by omega)
 simp only[oZ4,oZ3];rw[hm,go1 (by omega)];have hl:=g15c (p:=p) (by omega);cases c with
 | true=>
   have ha:addI .u64 ((2*id:Nat):Int) 1=((2*id+1:Nat):Int):=addIn (b:=1) (by omega);rw[if_pos rfl,ha,gow (by omega)];have:=g5w (n:=2*id+1) (by omega);simp only[oZ3];rw[if_pos (g3c (by omega))];rfl
 | false=>
   rw[if_neg (by simp),gow (by omega)];have:=g5w (n:=2*id) (by omega);simp only[oZ3];rw[if_pos (g3c (by omega))];rfl
theorem g125{p rest:List UInt8}(h:p.length≤100000) :vpart (g2z p++rest)=some (p,rest):=by
 unfold vpart g2z;rw[List.append_assoc,g16m (by omega)];simp only[Int.toNat_natCast,true_and];rw[if_pos (by simp;omega)];simp
theorem g1bh {id : Nat} {c : Bool} {p rest : List UInt8} {last : Nat} {b : List SField} (h1 : last < id) (hid : id ≤ 1000) (h : (g6b id c p ++ rest).length ≤ 100000) (hb : b.length ≤ 90000) :
   g2x ((last:Int),g6b id c p++rest,b)=g2x ((id:Int),rest,b++[⟨(id:Int),c,p⟩]):=by
 have hpl:p.length≤100000:=by
   have h2:=h;simp only[g6b,g2z,List.length_append]at h2;omega
 have hne:g6b id c p++rest≠[]:=by
   intro hc;have h2:=congrArg List.length hc;have:=gsj (2*id+(if c then 1 else 0));simp only[g6b,List.length_append,List.length_nil]at h2;omega
 have hh:2*id+(if c then 1 else 0)≤2001:=by split <;> omega
 have hg:vg (g6b id c p++rest) 10 0 0=(((2*id+(if c then 1 else 0):Nat):Int),((vput (2*id+(if c then 1 else 0))).length:Int),0):=by
   unfold g6b;rw[List.append_assoc];exact g16m (by omega) _
 have hn:=g16l hg (by unfold g6b;simp);have hd:(g6b id c p++rest).drop (vput (2*id+(if c then 1 else 0))).length=g2z p++rest:=by
   unfold g6b;rw[List.append_assoc,List.drop_left]
 rw[hd]at hn;have hdiv:(2*id+(if c then 1 else 0)) / 2=id:=by split <;> omega
 have hrem:decide (remI ((2*id+(if c then 1 else 0):Nat):Int) 2=1)=c:=by
   have:remI ((2*id+(if c then 1 else 0):Nat):Int) 2=(((2*id+(if c then 1 else 0)) % 2:Nat):Int):=remIn (b:=2);rw[this];cases c with
   | true=>simp
   | false=>simp
 rw[g2x,if_pos (by simp only[Bool.not_eq_true',decide_eq_false_iff_not];exact hne),hn];simp only[oZ4,oZ3];rw[quoI2 (by omega),hdiv,if_neg (by simp;omega),hrem,g1c0 (by
   have h2:=h;simp only[g6b,List.length_append]at h2;simp only[List.length_append];omega),g125 hpl]
 simp only[oZ3];have hw:wrp .i64 (id:Int)=(id:Int):=wrp64 (by omega) (by omega);have hnn:¬((!(encP (some (p,rest))).2.2)=true):=by simp[encP]
 rw[if_neg hnn,hw];have hr:room 32 (b++[(⟨(id:Int),c,(encP (some (p,rest))).1⟩:SField)]).length=true:=g66 (by omega) (by simp;omega);rw[if_pos hr];rfl
end
section
open Go Go.Proofs.YthnmepafpikaiaaGreat.Shv
set_option maxRecDepth 100000
inductive OkV:SValue→Prop
 | mk (v : SValue) (hs : v.Str.length ≤ reachBytes) (h1 : v.Keys.length ≤ reachBytes) (h2 : v.Items.length ≤ reachBytes) (h3 : v.Rest.length ≤ reachBytes)
     (hk:∀x,x∈v.Keys→OkV x) (hi:∀x,x∈v.Items→OkV x) (hr:∀x,x∈v.Rest→x.Data.length≤reachBytes)
     (n1: -9223372036854775808≤v.Kind∧v.Kind≤9223372036854775807) (n2: -9223372036854775808≤v.Int_∧v.Int_≤9223372036854775807) (n3: -9223372036854775808≤v.ID∧v.ID≤9223372036854775807)
     (n4:∀x,x∈v.Rest→-9223372036854775808≤x.ID∧x.ID≤9223372036854775807):OkV v
theorem g1i{n:Nat}(h:n≤reachBytes) :n < 9223372036854775807:=Nat.lt_of_le_of_lt h (by decide)
theorem scan {γ : Type} (L : Nat → Option γ) (n : Nat) (p : Nat → Bool) (bad good : γ) (hstep : ∀ i, i < n → L i = if p i = true then L (i + 1) else some bad) (hend : L n = some good) :
   (L 0=some good∧∀j,j < n→p j=true)∨(L 0=some bad∧∃j,j < n∧p j=false):=by
 have key:∀k i,i+k=n→(L i=some good∧∀j,i≤j→j < n→p j=true)∨(L i=some bad∧∃j,j < n∧p j=false):=by
   intro k
   induction k with
   | zero => intro i hi; have : i = n := by omega
             subst this;exact .inl ⟨hend,fun j h1 h2=>by omega⟩
   | succ k ih=>
     intro i hi;rw[hstep i (by omega)];cases hp:p i with
     | true=>
       rw[if_pos rfl];rcases ih (i+1) (by omega)with⟨h1,h2⟩ | h
       · refine .inl ⟨h1,fun j hj1 hj2=>?_⟩;rcases Nat.lt_or_ge i j with h | h
         · exact h2 j h hj2
         · have:j=i:=by omega
           subst this;exact hp
       · exact .inr h
     | false=>exact .inr ⟨by rw[if_neg (by simp)],i,by omega,hp⟩
 rcases key n 0 (by omega)with⟨h1,h2⟩ | h
 · exact .inl ⟨h1,fun j hj=>h2 j (Nat.zero_le _) hj⟩
 · exact .inr h
theorem g1n{α:Type}{l:List α}{i:Nat}(h:i < l.length)(d:α) :l.getD i d=l[i]:=by
 rw[List.getD_eq_getElem?_getD,List.getElem?_eq_getElem h];rfl
theorem gax {α : Type} {a b : List α} {p : Nat → Bool} (hl : a.length = b.length) (hp : ∀ (i : Nat) (h1 : i < a.length) (h2 : i < b.length), p i = true ↔ a[i] = b[i]) :
   (∀j,j < a.length→p j=true)↔a=b:=by
 constructor
 · intro h;exact List.ext_getElem hl fun i h1 h2=>(hp i h1 h2).1 (h i h1)
 · rintro rfl j hj
   exact(hp j hj hj).2 rfl
def Says{α:Type}(o:Option Bool)(a b:α) :Prop:=∃r,o=some r∧(r=true↔a=b)
theorem Says.of_scan {α : Type} {a b : List α} {p : Nat → Bool} (hl : a.length = b.length) (hp : ∀ (i : Nat) (h1 : i < a.length) (h2 : i < b.length), p i = true ↔ a[i] = b[i]) {o : Option Bool}
   (h:(o=some true∧∀j,j < a.length→p j=true)∨(o=some false∧∃j,j < a.length∧p j=false)):Says o a b:=by
 rcases h with⟨h1,h2⟩ | ⟨h1,j,h2,h3⟩
 · exact⟨true,h1,by simp[(gax hl hp).1 h2]⟩
 · refine⟨false,h1,?_⟩;constructor
   · intro h;cases h
   · intro h;have:=(gax hl hp).2 h j h2;rw[h3]at this;cases this
theorem g1fz{a b:SRaw} :(eqI a.ID b.ID && (eqS a.Data b.Data && true))=true↔a=b:=by
 cases a;cases b;simp[eqI,eqS]
theorem g1g0{a b:SSymbol} :(eqI a.ID b.ID && (eqS a.Name b.Name && true))=true↔a=b:=by
 cases a;cases b;simp[eqI,eqS]
theorem g1qf{α:Type}{a b:List α}(h:¬a.length=b.length) :a≠b:=fun e=>h (congrArg List.length e)
theorem gnu{α:Type}{a b:List α}(h:¬a.length=b.length) :Says (some false) a b:=⟨false,rfl,by simp[g1qf h]⟩
theorem g1g1{a b:List SRaw}(ha:a.length≤reachBytes) :Says (g3z (a,b)) a b:=by
 rw[g3z];by_cases hl:a.length=b.length
 · rw[if_neg (by simp;omega)];have hr:=g1i ha;have:=scan (fun i=>g1c (a,b,(a.length:Int),(i:Int))) a.length (fun i=>eqI (a.getD i dSRaw).ID (b.getD i dSRaw).ID && (eqS (a.getD i dSRaw).Data (b.getD i dSRaw).Data && true)) (.inl false) (.inr ())
     (fun i hi=>by
       rw[g1c,if_pos (by simp;omega),if_pos (g8 hi)];simp only[oZ4,oZ3,g9];rw[if_pos (g8 (by omega)),gu (by omega)];generalize (eqI (a.getD i dSRaw).ID (b.getD i dSRaw).ID && (eqS (a.getD i dSRaw).Data (b.getD i dSRaw).Data && true))=c;cases c <;> rfl)
     (by rw[g1c,if_neg (by simp)])
   have h0:g1c (a,b,(a.length:Int),((0:Nat):Int))=g1c (a,b,(a.length:Int),0):=rfl;simp only[h0]at this;refine Says.of_scan (p:=fun i=>eqI (a.getD i dSRaw).ID (b.getD i dSRaw).ID && (eqS (a.getD i dSRaw).Data (b.getD i dSRaw).Data && true)) hl (fun i h1 h2=>by simp only[g1n h1,g1n h2];exact g1fz) ?_;rcases this with⟨h1,h2⟩ | ⟨h1,h2⟩
   · exact .inl ⟨by rw[h1];rfl,h2⟩
   · exact .inr ⟨by rw[h1];rfl,h2⟩
 · rw[if_pos (by simp;omega)];exact gnu hl
theorem g1qg{a b:List SSymbol}(ha:a.length≤reachBytes) :Says (g3j (a,b)) a b:=by
 rw[g3j];by_cases hl:a.length=b.length
 · rw[if_neg (by simp;omega)];have hr:=g1i ha;have:=scan (fun i=>g15 (a,b,(a.length:Int),(i:Int))) a.length (fun i=>eqI (a.getD i dSSymbol).ID (b.getD i dSSymbol).ID && (eqS (a.getD i dSSymbol).Name (b.getD i dSSymbol).Name && true)) (.inl false) (.inr ())
     (fun i hi=>by
       rw[g15,if_pos (by simp;omega),if_pos (g8 hi)];simp only[oZ4,oZ3,g9];rw[if_pos (g8 (by omega)),gu (by omega)];generalize (eqI (a.getD i dSSymbol).ID (b.getD i dSSymbol).ID && (eqS (a.getD i dSSymbol).Name (b.getD i dSSymbol).Name && true))=c;cases c <;> rfl)
     (by rw[g15,if_neg (by simp)])
   have h0:g15 (a,b,(a.length:Int),((0:Nat):Int))=g15 (a,b,(a.length:Int),0):=rfl;simp only[h0]at this;refine Says.of_scan (p:=fun i=>eqI (a.getD i dSSymbol).ID (b.getD i dSSymbol).ID && (eqS (a.getD i dSSymbol).Name (b.getD i dSSymbol).Name && true)) hl (fun i h1 h2=>by simp only[g1n h1,g1n h2];exact g1g0) ?_;rcases this with⟨h1,h2⟩ | ⟨h1,h2⟩
   · exact .inl ⟨by rw[h1];rfl,h2⟩
   · exact .inr ⟨by rw[h1];rfl,h2⟩
 · rw[if_pos (by simp;omega)];exact gnu hl
theorem gtv(v:SValue) :(⟨v.Kind,v.Bool_,v.Int_,v.Str,v.ID,v.Keys,v.Items,v.Rest⟩:SValue)=v:=by cases v;rfl
theorem gtw{a b:SValue} :a=b↔a.Kind=b.Kind∧a.Bool_=b.Bool_∧a.Int_=b.Int_∧a.Str=b.Str∧a.ID=b.ID∧a.Rest=b.Rest∧a.Keys=b.Keys∧a.Items=b.Items:=by
 constructor
 · rintro rfl;exact⟨rfl,rfl,rfl,rfl,rfl,rfl,rfl,rfl⟩
 · cases a;cases b
   rintro ⟨h1,h2,h3,h4,h5,h6,h7,h8⟩
   simp only at*;subst h1;subst h2;subst h3;subst h4;subst h5;subst h6;subst h7;subst h8;rfl
section
variable {f:SValue × SValue→Option Bool}
theorem gxa {a b : List SValue} (hl : a.length = b.length) (ih : ∀ x, x ∈ a → ∀ y, Says (f (x, y)) x y) (L : Nat → Option (Bool ⊕ Unit))
   (hstep:∀i,i < a.length→L i=(f (SValue.eta (a.getD i dSValue),SValue.eta (b.getD i dSValue)) >>=fun r=>if(!r)=true then some (.inl false)else L (i+1)))
   (hend:L a.length=some (.inr ())):Says (L 0 >>=fun o=>match o with | .inl x=>some x | .inr _=>some true) a b:=by
 have hget:∀(i:Nat) (h1:i < a.length) (h2:i < b.length),Says (f (SValue.eta (a.getD i dSValue),SValue.eta (b.getD i dSValue))) a[i] b[i]:=by
   intro i h1 h2;rw[g1n h1,g1n h2,SValue.g14,SValue.g14];exact ih _ (List.getElem_mem h1) _
 have:=scan L a.length (fun i=>(f (SValue.eta (a.getD i dSValue),SValue.eta (b.getD i dSValue))).getD false) (.inl false) (.inr ())
   (fun i hi=>by
     obtain⟨r,h1,h2⟩:=hget i hi (by omega);rw[hstep i hi,h1];cases r <;> rfl) hend
 refine Says.of_scan hl (fun i h1 h2=>?_) ?_ (p:=fun i=>(f (SValue.eta (a.getD i dSValue),SValue.eta (b.getD i dSValue))).getD false)
 · obtain⟨r,h3,h4⟩:=hget i h1 h2;rw[h3];exact h4
 · rcases this with⟨h1,h2⟩ | ⟨h1,h2⟩
   · exact .inl ⟨by rw[h1];rfl,h2⟩
   · exact .inr ⟨by rw[h1];rfl,h2⟩
end
theorem g1c1{a b:List SValue}(ha:a.length≤reachBytes)(ih:∀x,x∈a→∀y,Says (g9j (x,y)) x y) :Says (g11 (a,b)) a b:=by
 rw[g11];by_cases hl:a.length=b.length
 · rw[if_neg (by simp;omega)];have hr:=g1i ha;exact gxa hl ih (fun i=>gw (b,a,(a.length:Int),(i:Int)))
     (fun i hi=>by
       rw[gw,if_pos (by simp;omega),if_pos (g8 hi),if_pos (g8 (by omega)),gu (by omega)];rfl)
     (by rw[gw,if_neg (by simp)])
 · rw[if_pos (by simp;omega)];exact gnu hl
theorem g1c2{a b:List SValue}(ha:a.length≤reachBytes)(ih:∀x,x∈a→∀y,Says (g54 (x,y)) x y) :Says (g17 (a,b)) a b:=by
 rw[g17];by_cases hl:a.length=b.length
 · rw[if_neg (by simp;omega)];have hr:=g1i ha;exact gxa hl ih (fun i=>gy (b,a,(a.length:Int),(i:Int)))
     (fun i hi=>by
       rw[gy,if_pos (by simp;omega),if_pos (g8 hi),if_pos (g8 (by omega)),gu (by omega)];rfl)
     (by rw[gy,if_neg (by simp)])
 · rw[if_pos (by simp;omega)];exact gnu hl
theorem g1c3{a b:List SValue}(ha:a.length≤reachBytes)(ih:∀x,x∈a→∀y,Says (g1y (x,y)) x y) :Says (g9l (a,b)) a b:=by
 rw[g9l];by_cases hl:a.length=b.length
 · rw[if_neg (by simp;omega)];have hr:=g1i ha;exact gxa hl ih (fun i=>g5t (a,b,(i:Int)))
     (fun i hi=>by
       rw[g5t,if_pos (by simp;omega),if_pos (g8 hi),if_pos (g8 (by omega)),gu (by omega)];rfl)
     (by rw[g5t,if_neg (by simp)])
 · rw[if_pos (by simp;omega)];exact gnu hl
theorem three {a b : SValue} {h5 : Bool} (e5 : h5 = true ↔ a.Kind = b.Kind ∧ a.Bool_ = b.Bool_ ∧ a.Int_ = b.Int_ ∧ a.Str = b.Str ∧ a.ID = b.ID) {x y z : Option Bool} (hx : Says x a.Rest b.Rest) (hy : Says y a.Keys b.Keys) (hz : Says z a.Items b.Items) :
   Says (some h5 >>=fun t37=>(if t37=true then x else some false) >>=fun r=>some (bif t37 then r else false) >>=fun t44=>(if t44=true then y else some false) >>=fun r_1=>some (bif t44 then r_1 else false) >>=fun t51=>(if t51=true then z else some false) >>=fun r_2=>some (bif t51 then r_2 else false)) a b:=by
 obtain⟨rx,hx1,hx2⟩:=hx;obtain⟨ry,hy1,hy2⟩:=hy;obtain⟨rz,hz1,hz2⟩:=hz;subst hx1;subst hy1;subst hz1;refine⟨h5 && rx && ry && rz,?_,?_⟩
 · cases h5 <;> cases rx <;> cases ry <;> rfl
 · rw[gtw];simp only[Bool.and_eq_true];rw[e5,hx2,hy2,hz2];constructor
   · rintro ⟨⟨⟨⟨h1,h2,h3,h4,h5⟩,h6⟩,h7⟩,h8⟩;exact⟨h1,h2,h3,h4,h5,h6,h7,h8⟩
   · rintro ⟨h1,h2,h3,h4,h5,h6,h7,h8⟩;exact⟨⟨⟨⟨h1,h2,h3,h4,h5⟩,h6⟩,h7⟩,h8⟩
theorem five{a b:SValue} :(bif bif bif bif decide (a.Kind=b.Kind)then eqB a.Bool_ b.Bool_ else false then decide (a.Int_=b.Int_)else false then decide (a.Str=b.Str)else false then decide (a.ID=b.ID)else false)=true↔a.Kind=b.Kind∧a.Bool_=b.Bool_∧a.Int_=b.Int_∧a.Str=b.Str∧a.ID=b.ID:=by
 simp only[Bool.cond_eq_ite,eqB];by_cases h1:a.Kind=b.Kind <;> by_cases h2:a.Bool_=b.Bool_ <;> by_cases h3:a.Int_=b.Int_ <;> by_cases h4:a.Str=b.Str <;> simp[h1,h2,h3,h4]
theorem g1e1{a:SValue}(h:OkV a) :∀b,Says (g9j (a,b)) a b:=by
 induction h with
 | mk a hs h1 h2 h3 hk hi hr n1 n2 n3 n4 ihk ihi=>
   intro b;rw[g9j];exact three five (g1g1 h3) (g1c1 h1 ihk) (g1c1 h2 ihi)
theorem gqm{a:SValue}(h:OkV a) :∀b,Says (g54 (a,b)) a b:=by
 induction h with
 | mk a hs h1 h2 h3 hk hi hr n1 n2 n3 n4 ihk ihi=>
   intro b;rw[g54];exact three five (g1g1 h3) (g1c2 h1 ihk) (g1c2 h2 ihi)
theorem g16n{a:SValue}(h:OkV a) :∀b,Says (g1y (a,b)) a b:=by
 induction h with
 | mk a hs h1 h2 h3 hk hi hr n1 n2 n3 n4 ihk ihi=>
   intro b;rw[g1y];by_cases h5:a.Kind=b.Kind∧a.Bool_=b.Bool_∧a.Int_=b.Int_∧a.Str=b.Str∧a.ID=b.ID∧a.Rest.length=b.Rest.length
   · obtain⟨e1,e2,e3,e4,e5,e6⟩:=h5;rw[if_neg (by simp[e1,e2,e3,e4,e5,e6,eqB])];have hr3:=g1i h3;have hsc:=scan (fun i=>g3u ((i:Int),a,b)) a.Rest.length (fun i=>eqI (a.Rest.getD i dSRaw).ID (b.Rest.getD i dSRaw).ID && (eqS (a.Rest.getD i dSRaw).Data (b.Rest.getD i dSRaw).Data && true)) (.inl false) (.inr (a,b))
       (fun i hi'=>by
         rw[g3u,if_pos (by simp;omega),if_pos (g8 hi')];simp only[oZ4,oZ3,g9,SValue.g14];rw[if_pos (g8 (by omega)),gu (by omega)];generalize (eqI (a.Rest.getD i dSRaw).ID (b.Rest.getD i dSRaw).ID && (eqS (a.Rest.getD i dSRaw).Data (b.Rest.getD i dSRaw).Data && true))=c;cases c <;> rfl)
       (by rw[g3u,if_neg (by simp),SValue.g14,SValue.g14])
     have h0:g3u (((0:Nat):Int),a,b)=g3u (0,a,b):=rfl;simp only[h0]at hsc;rw[gtv,gtv];have hp:∀(i:Nat) (h1:i < a.Rest.length) (h2:i < b.Rest.length),(eqI (a.Rest.getD i dSRaw).ID (b.Rest.getD i dSRaw).ID && (eqS (a.Rest.getD i dSRaw).Data (b.Rest.getD i dSRaw).Data && true))=true↔a.Rest[i]=b.Rest[i]:=fun i h1 h2=>by
       rw[g1n h1,g1n h2];exact g1fz
     rcases hsc with⟨g1,g2⟩ | ⟨g1,j,g2,g3⟩
     · have hrest:=(gax e6 hp).1 g2;rw[g1];obtain⟨rk,k1,k2⟩:=g1c3 (a:=a.Keys) (b:=b.Keys) h1 ihk;obtain⟨ri,i1,i2⟩:=g1c3 (a:=a.Items) (b:=b.Items) h2 ihi;simp only[oZ4,oZ3];rw[k1,i1];refine⟨rk && ri,by cases rk <;> rfl,?_⟩;rw[gtw,Bool.and_eq_true,k2,i2];constructor
       · rintro ⟨q1,q2⟩;exact⟨e1,e2,e3,e4,e5,hrest,q1,q2⟩
       · rintro ⟨_,_,_,_,_,_,q1,q2⟩;exact⟨q1,q2⟩
     · rw[g1];refine⟨false,rfl,?_⟩;constructor
       · intro h;cases h
       · intro h;have:=(gax e6 hp).2 (gtw.1 h).2.2.2.2.2.1 j g2;rw[g3]at this;cases this
   · rw[if_pos]
     · refine⟨false,rfl,?_⟩;constructor
       · intro h;cases h
       · intro h
         exfalso;apply h5
         obtain⟨q1,q2,q3,q4,q5,q6,_⟩:=gtw.1 h;exact⟨q1,q2,q3,q4,q5,by rw[q6]⟩
     · simp only[Bool.cond_eq_ite,eqB];by_cases q1:a.Kind=b.Kind <;> by_cases q2:a.Bool_=b.Bool_ <;> by_cases q3:a.Int_=b.Int_ <;> by_cases q4:a.Str=b.Str <;> by_cases q5:a.ID=b.ID <;> simp[q1,q2,q3,q4,q5]
       intro q6;exact h5 ⟨q1,q2,q3,q4,q5,by omega⟩
end
section
open Go Go.Proofs.YthnmepafpikaiaaGreat.Shv
set_option maxRecDepth 100000
def ge6(c:Int) :Bool:=decide (c=95∨(97≤c∧c≤122)∨(65≤c∧c≤90))
def g109(c:Int) :Bool:=decide (48≤c∧c≤57)
theorem gtx(c:Int) :gb0 c=some (ge6 c):=by
 rw[gb0];unfold ge6
 congr 1
 by_cases h1:c=95 <;> by_cases h2:97≤c <;> by_cases h3:c≤122 <;> by_cases h4:65≤c <;> by_cases h5:c≤90 <;> simp[h1,h2,h3,h4,h5] <;> omega
theorem g17g(c:Int) :gcg c=some (ge6 c):=by
 rw[gcg];unfold ge6
 congr 1
 by_cases h1:c=95 <;> by_cases h2:97≤c <;> by_cases h3:c≤122 <;> by_cases h4:65≤c <;> by_cases h5:c≤90 <;> simp[h1,h2,h3,h4,h5] <;> omega
theorem g1iy(c:Int) :gfd c=some (g109 c):=by
 rw[gfd];unfold g109;by_cases h2:48≤c <;> by_cases h3:c≤57 <;> simp[h2,h3]
theorem g1iz(c:Int) :git c=some (g109 c):=by
 rw[git];unfold g109;by_cases h2:48≤c <;> by_cases h3:c≤57 <;> simp[h2,h3]
theorem g1a5 {γ : Type} (A B I : Bool) (X Y : Option γ) (hI : I = true) :
   (some A >>=fun r_1=>some (!r_1) >>=fun t26=>if(I || (!t26))=true then(if t26=true then some B else some false) >>=fun r_2=>if(bif t26 then(!r_2)else false)=true then X else Y else none)=if(A || B)=true then Y else X:=by
 subst hI;cases A <;> cases B <;> rfl
theorem g1c4(s:List UInt8) :∃r,g3t s=some r∧g7n s=some r:=by
 rw[g3t,g7n];simp only[oZ4,oZ3];by_cases hb:s=[]∨24 < s.length
 · have ht:(bif decide (s=[])then true else decide (24 < (s.length:Int)))=true:=by
     rcases hb with h | h
     · simp[h]
     · simp;omega
   rw[ht];exact⟨false,by simp,by simp⟩
 · have hne:s≠[]:=fun h=>hb (.inl h)
   have hlen:s.length≤24:=by omega
   have ht:(bif decide (s=[])then true else decide (24 < (s.length:Int)))=false:=by
     simp[hne];omega
   have hpos:0 < s.length:=List.length_pos_iff.2 hne;have hin:inR 0 s.length=true:=g8 (k:=0) hpos;simp only[ht,hin,Bool.true_or,if_true,Bool.not_false,oZ3,gtx,g17g,cond_false];cases hl:ge6 (g4p s 0)with
   | false=>exact⟨false,rfl,rfl⟩
   | true=>
     rw[if_neg (by simp),if_neg (by simp)]
     let p:Nat→Bool:=fun i=>ge6 (g4p s i) || g109 (g4p s i)
     have s1:=scan (fun i=>g28 (s,(s.length:Int),(i:Int))) s.length p (.inl false) (.inr ())
       (fun i hi=>by
         rw[g28,if_pos (by simp;omega),if_pos (g8 hi),gtx,g1iy,gu (by omega)];exact g1a5 _ _ _ _ _ (g8 hi))
       (by rw[g28,if_neg (by simp)])
     have s2:=scan (fun i=>g50 (s,(i:Int))) s.length p (.inl false) (.inr ())
       (fun i hi=>by
         rw[g50,if_pos (by simp;omega),if_pos (g8 hi),g17g,g1iz,gu (by omega)];exact g1a5 _ _ _ _ _ (g8 hi))
       (by rw[g50,if_neg (by simp)])
     have e1:g28 (s,(s.length:Int),((0:Nat):Int))=g28 (s,(s.length:Int),0):=rfl;have e2:g50 (s,((0:Nat):Int))=g50 (s,0):=rfl;simp only[e1,e2]at s1 s2;rcases s1 with⟨a1,a2⟩ | ⟨a1,j,a2,a3⟩ <;> rcases s2 with⟨b1,b2⟩ | ⟨b1,k,b2,b3⟩
     · exact⟨true,by rw[a1];rfl,by rw[b1];rfl⟩
     · have:=a2 k b2;rw[b3]at this;cases this
     · have:=b2 j a2;rw[a3]at this;cases this
     · exact⟨false,by rw[a1];rfl,by rw[b1];rfl⟩
def nm(s:List UInt8) :Bool:=(g3t s).getD false
theorem lexNm(s:List UInt8) :g3t s=some (nm s):=by
 obtain⟨r,h1,_⟩:=g1c4 s;unfold nm;rw[h1];rfl
theorem refNm(s:List UInt8) :g7n s=some (nm s):=by
 obtain⟨r,h1,h2⟩:=g1c4 s;unfold nm;rw[h1,h2];rfl
theorem nm_ne{s:List UInt8}(h:nm s=true) :s≠[]:=by
 rintro rfl
 unfold nm at h;rw[g3t]at h;simp at h
def idp(l:List Int)(names:List (List UInt8))(i:Nat) :Bool:=
 decide (1≤l.getD i 0) && decide (l.getD i 0≤1000) && (decide (i=0) || decide (l.getD (i - 1) 0 < l.getD i 0)) && nm (names.getD i []) && !((names.take i).contains (names.getD i []))
def setOf(l:List (List UInt8)) :List (List UInt8):=l.foldl addS []
theorem g1j0(ks:List (List UInt8))(a s:List UInt8) :hasS (addS ks a) s=(hasS ks s || decide (a=s)):=by
 unfold addS;split
 · rename_i h;by_cases e:a=s
   · subst e;simp[h]
   · simp[e]
 · simp[hasS,List.any_append]
theorem g15d(l:List (List UInt8))(s:List UInt8) :hasS (setOf l) s=l.contains s:=by
 have key:∀(l:List (List UInt8)) (ks:List (List UInt8)),hasS (l.foldl addS ks) s=(hasS ks s || l.contains s):=by
   intro l
   induction l with
   | nil=>intro ks;simp
   | cons a r ih=>
     intro ks;rw[List.foldl_cons,ih,g1j0,Bool.or_assoc]
     congr 1
     rw[List.contains_cons]
     congr 1
     by_cases e:a=s
     · subst e;simp
     · have:¬s=a:=fun h=>e h.symm
       simp[e,this]
 have:=key l []
 simpa[setOf,hasS]using this
theorem g15e{l:List (List UInt8)}{i:Nat}(h:i < l.length) :addS (setOf (l.take i)) (l.getD i [])=setOf (l.take (i+1)):=by
 unfold setOf;rw[List.take_add_one,List.foldl_append,List.getElem?_eq_getElem h,g1n h];rfl
theorem g1ms {γ : Type} (A Z I1 C I H N : Bool) (X Y : Option γ) (hI : I = true) (hI1 : Z = true → I1 = true) :
   (if(I1 || (!((!A) && Z)))=true then
     some (bif A then true else bif Z then C else false) >>=fun t34=>
     if(I || (!(!t34)))=true then
       some (bif t34 then true else H) >>=fun t42=>
       if(I || (!(!t42)))=true then
         (if(!t42)=true then some N else some false) >>=fun r=>
         if(bif t42 then true else(!r))=true then X else(if I=true then Y else none)
       else none
     else none
   else none)=if(!A && (!Z || !C) && N && !H)=true then Y else X:=by
 subst hI;cases Z with
 | true=>have:=hI1 rfl;subst this;cases A <;> cases C <;> cases H <;> cases N <;> rfl
 | false=>cases A <;> cases I1 <;> cases C <;> cases H <;> cases N <;> rfl
theorem g1g2{l:List Int}{names:List (List UInt8)}(hl:l.length≤reachBytes)(hn:names.length=l.length) :∃r,gid (l,names)=some r∧(r=true↔(∀i,i < l.length→idp l names i=true)∧l.length≤16):=by
 rw[gid];have hr:=g1i hl;have hsc:=scan (fun i=>g4w (l,names,l,(l.length:Int),(i:Int),setOf (names.take i))) l.length (idp l names) (.inl false) (.inr l)
   (fun i hi=>by
     have hin:i < names.length:=by omega
     rw[g4w,if_pos (by simp;omega),if_pos (g8 hi)];simp only[g9];rw[lexNm,gu (by omega),g15e hin,g15d];have hsub:0 < i→subI .i64 (i:Int) 1=((i - 1:Nat):Int):=by
       intro h;rw[gj4 (by omega) (by omega)];omega
     refine(g1ms (bif decide (l.getD i 0 < 1)then true else decide (1000 < l.getD i 0)) (decide ((0:Int) < (i:Int))) (inR (subI .i64 (i:Int) 1) l.length) (decide (l.getD i 0≤l.getD (subI .i64 (i:Int) 1).toNat 0)) (inR (i:Int) names.length) ((names.take i).contains (names.getD i [])) (nm (names.getD i [])) _ _ (g8 hin) (fun hz=>?_)).trans ?_
     · have hpos:0 < i:=by simp at hz;omega
       rw[hsub hpos];exact g8 (by omega)
     · have:(!(bif decide (l.getD i 0 < 1)then true else decide (1000 < l.getD i 0)) && (!(decide ((0:Int) < (i:Int))) || !(decide (l.getD i 0≤l.getD (subI .i64 (i:Int) 1).toNat 0))) && nm (names.getD i []) && !((names.take i).contains (names.getD i [])))=idp l names i:=by
         unfold idp;generalize nm (names.getD i [])=N;generalize (names.take i).contains (names.getD i [])=H;generalize l.getD i 0=x;by_cases h0:i=0
         · subst h0;cases N <;> cases H <;> by_cases h1:1≤x <;> by_cases h2:x≤1000 <;> simp[h1,h2] <;> omega
         · have hz:decide ((0:Int) < (i:Int))=true:=by simp;omega
           rw[hz,hsub (by omega),g9];generalize l.getD (i - 1) 0=y;cases N <;> cases H <;> by_cases h1:1≤x <;> by_cases h2:x≤1000 <;> by_cases h3:y < x <;> simp[h0,h1,h2,h3] <;> omega
       rw[this])
   (by rw[g4w,if_neg (by simp)])
 have e0:g4w (l,names,l,(l.length:Int),((0:Nat):Int),setOf (names.take 0))=g4w (l,names,l,(l.length:Int),0,[]):=rfl;simp only[e0]at hsc;rcases hsc with⟨h1,h2⟩ | ⟨h1,j,h2,h3⟩
 · rw[h1];refine⟨decide ((l.length:Int)≤16),rfl,?_⟩;simp only[decide_eq_true_eq];constructor
   · intro h;exact⟨h2,by omega⟩
   · intro h;omega
 · rw[h1];refine⟨false,rfl,?_⟩;constructor
   · intro h;cases h
   · rintro ⟨h,_⟩
     have:=h j h2;rw[h3]at this;cases this
end
section
open Go Go.Proofs.YthnmepafpikaiaaGreat.Shv
set_option maxRecDepth 100000
theorem room8{k n:Nat}(hk:k≤16)(h:n*24≤reachBytes) :room k n=true:=by
 unfold room g63 g1s;unfold reachBytes at h;simp only[Bool.and_eq_true,decide_eq_true_eq];have:(2*n+192)*k≤(2*n+192)*16:=Nat.mul_le_mul_left _ hk;omega
theorem gkw{α:Type}(l:List α)(i:Nat)(d:α)(h:i < l.length) :l.take i++[l.getD i d]=l.take (i+1):=by
 rw[List.take_add_one,List.getElem?_eq_getElem h,g1n h];rfl
theorem g2y{α β:Type}(f:α→β)(l:List α)(i:Nat)(d:α)(e:β)(h:i < l.length) :(l.map f).getD i e=f (l.getD i d):=by
 rw[g1n h,g1n (by simpa using h)];simp
theorem g77{l:List (List UInt8)}{i:Nat}{s:List UInt8}(hi:i≤l.length) :(l.take i).contains s=true↔∃k,k < i∧l.getD k []=s:=by
 rw[List.contains_iff_mem];constructor
 · intro h;obtain⟨k,hk,he⟩:=List.getElem_of_mem h;rw[List.length_take]at hk;refine⟨k,by omega,?_⟩;rw[g1n (by omega),←he,List.getElem_take]
 · rintro ⟨k,hk,he⟩
   rw[←he,g1n (by omega)];have:(l.take i)[k]'(by rw[List.length_take];omega)=l[k]:=List.getElem_take;rw[←this];exact List.getElem_mem _
def bef(l:List Int)(i:Nat) :Int:=if i=0 then 0 else l.getD (i - 1) 0
theorem g1c5 {l : List Int} {names : List (List UInt8)} {i : Nat} (hi : i < l.length) (hn : names.length = l.length) :
   idp l names i=(decide (bef l i < l.getD i 0) && decide (1≤l.getD i 0) && decide (l.getD i 0≤1000) && nm (names.getD i []) && !((names.take i).contains (names.getD i []))):=by
 unfold idp bef;generalize l.getD i 0=x;generalize l.getD (i - 1) 0=y;generalize nm (names.getD i [])=a;generalize (names.take i).contains (names.getD i [])=b;by_cases h0:i=0
 · subst h0;by_cases h1:1≤x
   · have:decide ((0:Int) < x)=true:=by simp;omega
     simp[h1,this]
   · simp[h1]
 · simp only[h0,if_false,decide_false,Bool.false_or];by_cases h1:1≤x <;> by_cases h2:x≤1000 <;> by_cases h3:y < x <;> simp[h1,h2,h3]
theorem g15f(l:List SSymbol)(hl:l.length*24≤reachBytes) :∀(k i:Nat),i+k=l.length→g3d (l,l,(l.length:Int),(i:Int),(l.map (·.ID)).take i,(l.map (·.Name)).take i)=some (l,l.map (·.ID),l.map (·.Name))
 | 0,i,h=>by
   have:i=l.length:=by omega
   subst this;rw[g3d,if_neg (by simp)];rw[List.take_of_length_le (by simp),List.take_of_length_le (by simp)]
 | k+1,i,h=>by
   have hr:l.length < 9223372036854775807:=by unfold reachBytes at hl;omega
   have hi:i < l.length:=by omega
   rw[g3d,if_pos (by simp;omega),if_pos (g8 hi)];simp only[oZ4,oZ3,g9];rw[←g2y (·.ID) l i dSSymbol 0 hi,←g2y (·.Name) l i dSSymbol [] hi,gkw _ _ _ (by simpa using hi),gkw _ _ _ (by simpa using hi)];rw[if_pos (room8 (by omega) (by simp;omega)),if_pos (room8 (by omega) (by simp;omega)),gu (by omega)];exact g15f l hl k (i+1) (by omega)
theorem g1c6{l:List SSymbol}(hl:l.length*24≤reachBytes) :∃r,g94 l=some r∧(r=true↔0 < l.length∧(∀i,i < l.length→idp (l.map (·.ID)) (l.map (·.Name)) i=true)∧l.length≤16):=by
 have h:=g15f l hl l.length 0 (by omega);have h':g3d (l,l,(l.length:Int),0,[],[])=some (l,l.map (·.ID),l.map (·.Name)):=h;rw[g94,h'];simp only[oZ4,oZ3];obtain⟨r,h1,h2⟩:=g1g2 (l:=l.map (·.ID)) (names:=l.map (·.Name)) (by simp;unfold reachBytes at*;omega) (by simp);rw[List.length_map]at h2;rw[h1]
 refine⟨decide (0 < (l.length:Int)) && r,?_,?_⟩
 · cases decide (0 < (l.length:Int)) <;> rfl
 · rw[Bool.and_eq_true,h2,decide_eq_true_eq];constructor
   · rintro ⟨a,b⟩;exact⟨by omega,b⟩
   · rintro ⟨a,b⟩;exact⟨by omega,b⟩
theorem refId(a b:Int) :gih (a,b)=some (decide (a < b) && decide (1≤b) && decide (b≤1000)):=by
 rw[gih];cases decide (a < b) <;> cases decide (1≤b) <;> rfl
theorem g1e2 (l : List SSymbol) (hl : l.length ≤ reachBytes) (i : Nat) (hi : i < l.length) :
   g33 (l,(i:Int),0)=some (if((l.map (·.Name)).take i).contains ((l.map (·.Name)).getD i [])=true then .inl false else .inr (l,(i:Int))):=by
 have hr:=g1i hl;have hsc:=scan (fun k=>g33 (l,(i:Int),(k:Int))) i (fun k=>!(decide ((l.getD k dSSymbol).Name=(l.getD i dSSymbol).Name))) (.inl false) (.inr (l,(i:Int)))
   (fun k hk=>by
     rw[g33,if_pos (by simp;omega),if_pos (g8 (by omega)),if_pos (g8 hi),gu (by omega)];simp only[g9];cases decide ((l.getD k dSSymbol).Name=(l.getD i dSSymbol).Name) <;> rfl)
   (by rw[g33,if_neg (by simp)])
 have e0:g33 (l,(i:Int),((0:Nat):Int))=g33 (l,(i:Int),0):=rfl;simp only[e0]at hsc;rw[g2y (·.Name) l i dSSymbol [] hi];rcases hsc with⟨h1,h2⟩ | ⟨h1,j,h2,h3⟩
 · rw[h1,if_neg];rw[g77 (by simp;omega)]
   rintro ⟨k,hk,he⟩
   rw[g2y (·.Name) l k dSSymbol [] (by omega)]at he;have:=h2 k hk;rw[he]at this;simp at this
 · rw[h1,if_pos];rw[g77 (by simp;omega)];refine⟨j,h2,?_⟩;rw[g2y (·.Name) l j dSSymbol [] (by omega)]
   simpa using h3
theorem g1mt{l:List SSymbol}(hl:l.length≤reachBytes) :∃r,gbl l=some r∧(r=true↔0 < l.length∧(∀i,i < l.length→idp (l.map (·.ID)) (l.map (·.Name)) i=true)∧l.length≤16):=by
 have hr:=g1i hl;have hsc:=scan (fun i=>g4l (l,bef (l.map (·.ID)) i,(i:Int))) l.length (idp (l.map (·.ID)) (l.map (·.Name))) (.inl false) (.inr l)
   (fun i hi=>by
     rw[g4l,if_pos (by simp;omega),if_pos (g8 hi),refId,g1e2 l hl i hi,g1c5 (by simpa using hi) (by simp)];simp only[oZ4,oZ3,g9];rw[←g2y (·.ID) l i dSSymbol 0 hi,←g2y (·.Name) l i dSSymbol [] hi,refNm]
     generalize (decide (bef (l.map (·.ID)) i < (l.map (·.ID)).getD i 0) && decide (1≤(l.map (·.ID)).getD i 0) && decide ((l.map (·.ID)).getD i 0≤1000))=q;rw[if_pos (by rw[g8 hi];rfl)];cases q with
     | false=>rfl
     | true=>
       simp only[Bool.not_true,Bool.not_false,if_true,oZ3,Bool.true_and];cases nm ((l.map (·.Name)).getD i [])with
       | false=>rfl
       | true=>
         simp only[Bool.not_true,cond_false,Bool.false_eq_true,if_false,Bool.true_and];cases hc:((l.map (·.Name)).take i).contains ((l.map (·.Name)).getD i [])with
         | true=>simp
         | false=>
           simp only[Bool.false_eq_true,if_false,Bool.not_false,if_true];rw[if_pos (g8 hi),gu (by omega)];have:bef (l.map (·.ID)) (i+1)=(l.getD i dSSymbol).ID:=by
             unfold bef;rw[if_neg (by omega)];exact g2y (·.ID) l i dSSymbol 0 hi
           rw[this];rfl)
   (by rw[g4l,if_neg (by simp)])
 have e0:g4l (l,bef (l.map (·.ID)) 0,((0:Nat):Int))=g4l (l,0,0):=rfl;simp only[e0]at hsc;rw[gbl];rcases hsc with⟨h1,h2⟩ | ⟨h1,j,h2,h3⟩
 · rw[h1];refine⟨_,rfl,?_⟩;simp only[Bool.cond_eq_ite];constructor
   · intro h;split at h
     · rename_i h4;simp at h h4;exact⟨by omega,h2,by omega⟩
     · cases h
   · rintro ⟨a,_,b⟩
     rw[if_pos (by simp;omega)];simp;omega
 · rw[h1];refine⟨false,rfl,?_⟩;constructor
   · intro h;cases h
   · rintro ⟨_,h,_⟩
     have:=h j h2;rw[h3]at this;cases this
theorem g1g3{l:List SSymbol}(hl:l.length*24≤reachBytes) :∃r,g94 l=some r∧gbl l=some r:=by
 obtain⟨r,h1,h2⟩:=g1c6 hl;obtain⟨q,h3,h4⟩:=g1mt (l:=l) (by unfold reachBytes at*;omega);have:r=q:=Bool.eq_iff_iff.2 (h2.trans h4.symm);exact⟨r,h1,by rw[this];exact h3⟩
end
section
open Go Go.Proofs.YthnmepafpikaiaaGreat.Shv
set_option maxRecDepth 100000
structure OkT (t:SType):Prop where
 syms:t.Symbols.length*24≤reachBytes
 mems:t.Members.length*24≤reachBytes
 dv:∀m,m∈t.Members→OkV m.Default
theorem g5r{n:Nat}(h:n*24≤reachBytes) :n≤reachBytes:=by unfold reachBytes at*;omega
theorem g1e3{a b:SMember} :a=b↔a.ID=b.ID∧a.Name=b.Name∧a.Type_=b.Type_∧a.Critical=b.Critical∧a.HasDefault=b.HasDefault∧a.Default=b.Default:=by
 cases a;cases b;simp
theorem gf9(x:SMember) :(⟨x.ID,x.Name,x.Type_,x.Critical,x.HasDefault,SValue.eta x.Default⟩:SMember)=x:=by cases x;simp[SValue.g14]
theorem fiveM{a b:SMember} :(bif bif bif bif decide (a.ID=b.ID)then decide (a.Name=b.Name)else false then decide (a.Type_=b.Type_)else false then eqB a.Critical b.Critical else false then eqB a.HasDefault b.HasDefault else false)=true↔a.ID=b.ID∧a.Name=b.Name∧a.Type_=b.Type_∧a.Critical=b.Critical∧a.HasDefault=b.HasDefault:=by
 simp only[Bool.cond_eq_ite,eqB];by_cases h1:a.ID=b.ID <;> by_cases h2:a.Name=b.Name <;> by_cases h3:a.Type_=b.Type_ <;> by_cases h4:a.Critical=b.Critical <;> simp[h1,h2,h3,h4]
theorem twoM {a b : SMember} {q : Bool} (hq : q = true ↔ a.ID = b.ID ∧ a.Name = b.Name ∧ a.Type_ = b.Type_ ∧ a.Critical = b.Critical ∧ a.HasDefault = b.HasDefault) {x : Option Bool} (hx : Says x a.Default b.Default) :
   Says (some q >>=fun t37=>(if t37=true then x else some false) >>=fun r=>some (bif t37 then r else false)) a b:=by
 obtain⟨rx,h1,h2⟩:=hx;subst h1;refine⟨q && rx,by cases q <;> cases rx <;> rfl,?_⟩;rw[g1e3,Bool.and_eq_true,hq,h2];constructor
 · rintro ⟨⟨a1,a2,a3,a4,a5⟩,a6⟩;exact⟨a1,a2,a3,a4,a5,a6⟩
 · rintro ⟨a1,a2,a3,a4,a5,a6⟩;exact⟨⟨a1,a2,a3,a4,a5⟩,a6⟩
theorem g1g4{a:SMember}(h:OkV a.Default)(b:SMember) :Says (gaz (a,b)) a b:=by
 rw[gaz];simp only[gtv,SValue.g14];exact twoM fiveM (gqm h _)
theorem g1g5{a:SMember}(h:OkV a.Default)(b:SMember) :Says (g9m (a,b)) a b:=by
 rw[g9m];simp only[gtv];exact twoM fiveM (g16n h _)
theorem g126 {f : SMember × SMember → Option Bool} {γ : Type} {g : γ} {a b : List SMember} (hl : a.length = b.length) (ih : ∀ x, x ∈ a → ∀ y, Says (f (x, y)) x y) (L : Nat → Option (Bool ⊕ γ))
   (hstep:∀i,i < a.length→L i=(f (a.getD i dSMember,b.getD i dSMember) >>=fun r=>if(!r)=true then some (.inl false)else L (i+1)))
   (hend:L a.length=some (.inr g)):(L 0=some (.inr g)∧a=b)∨(L 0=some (.inl false)∧a≠b):=by
 have hget:∀(i:Nat) (h1:i < a.length) (h2:i < b.length),Says (f (a.getD i dSMember,b.getD i dSMember)) a[i] b[i]:=by
   intro i h1 h2;rw[g1n h1,g1n h2];exact ih _ (List.getElem_mem h1) _
 have hp:∀(i:Nat) (h1:i < a.length) (h2:i < b.length),(f (a.getD i dSMember,b.getD i dSMember)).getD false=true↔a[i]=b[i]:=by
   intro i h1 h2;obtain⟨r,h3,h4⟩:=hget i h1 h2;rw[h3];exact h4
 have:=scan L a.length (fun i=>(f (a.getD i dSMember,b.getD i dSMember)).getD false) (.inl false) (.inr g)
   (fun i hi=>by
     obtain⟨r,h1,h2⟩:=hget i hi (by omega);rw[hstep i hi,h1];cases r <;> rfl) hend
 rcases this with⟨h1,h2⟩ | ⟨h1,j,h2,h3⟩
 · exact .inl ⟨h1,(gax hl hp).1 h2⟩
 · refine .inr ⟨h1,fun e=>?_⟩;have:=(gax hl hp).2 e j h2;rw[h3]at this;cases this
theorem g1a6{a b:List SMember}(ha:a.length≤reachBytes)(hd:∀m,m∈a→OkV m.Default) :Says (g1h (a,b)) a b:=by
 rw[g1h];by_cases hl:a.length=b.length
 · rw[if_neg (by simp;omega)];have hr:=g1i ha;have hs:=g126 (g:=()) hl (f:=gaz) (fun x hx y=>g1g4 (hd x hx) y) (fun i=>gh (b,a,(a.length:Int),(i:Int)))
     (fun i hi=>by
       rw[gh,if_pos (by simp;omega),if_pos (g8 hi)];simp only[oZ4,oZ3,g9,gf9];rw[if_pos (g8 (by omega)),gu (by omega)])
     (by rw[gh,if_neg (by simp)])
   have e0:gh (b,a,(a.length:Int),((0:Nat):Int))=gh (b,a,(a.length:Int),0):=rfl;simp only[e0]at hs;rcases hs with⟨h1,h2⟩ | ⟨h1,h2⟩
   · rw[h1];exact⟨true,rfl,by simp[h2]⟩
   · rw[h1];exact⟨false,rfl,by simp[h2]⟩
 · rw[if_pos (by simp;omega)];exact gnu hl
theorem gxb{a b:SType} :a=b↔a.Kind=b.Kind∧a.Name=b.Name∧a.Low=b.Low∧a.High=b.High∧a.Max=b.Max∧a.Key=b.Key∧a.Elem=b.Elem∧a.Open=b.Open∧a.Symbols=b.Symbols∧a.Members=b.Members:=by
 cases a;cases b;simp only[SType.mk.injEq];constructor
 · rintro ⟨h1,h2,h3,h4,h5,h6,h7,h8,h9,h10⟩;exact⟨h1,h2,h3,h4,h5,h8,h9,h10,h6,h7⟩
 · rintro ⟨h1,h2,h3,h4,h5,h6,h7,h8,h9,h10⟩;exact⟨h1,h2,h3,h4,h5,h9,h10,h6,h7,h8⟩
theorem g1qh {a b : SType} : (bif bif bif bif bif bif bif decide (a.Kind = b.Kind) then decide (a.Name = b.Name) else false then decide (a.Low = b.Low) else false then decide (a.High = b.High) else false then decide (a.Max = b.Max) else false then decide (a.Key = b.Key) else false then decide (a.Elem = b.Elem) else false then eqB a.Open b.Open else false) = true ↔
   a.Kind=b.Kind∧a.Name=b.Name∧a.Low=b.Low∧a.High=b.High∧a.Max=b.Max∧a.Key=b.Key∧a.Elem=b.Elem∧a.Open=b.Open:=by
 simp only[Bool.cond_eq_ite,eqB];by_cases h1:a.Kind=b.Kind <;> by_cases h2:a.Name=b.Name <;> by_cases h3:a.Low=b.Low <;> by_cases h4:a.High=b.High <;> simp[h1,h2,h3,h4]
 by_cases h5:a.Max=b.Max <;> by_cases h6:a.Key=b.Key <;> by_cases h7:a.Elem=b.Elem <;> simp[h5,h6,h7]
theorem g6t{a:SType}(h:OkT a)(b:SType) :Says (g1v (a,b)) a b:=by
 rw[g1v];obtain⟨rs,s1,s2⟩:=g1qg (a:=a.Symbols) (b:=b.Symbols) (g5r h.syms);obtain⟨rm,m1,m2⟩:=g1a6 (a:=a.Members) (b:=b.Members) (g5r h.mems) h.dv;have e8:=g1qh (a:=a) (b:=b)
 generalize (bif bif bif bif bif bif bif decide (a.Kind=b.Kind)then decide (a.Name=b.Name)else false then decide (a.Low=b.Low)else false then decide (a.High=b.High)else false then decide (a.Max=b.Max)else false then decide (a.Key=b.Key)else false then decide (a.Elem=b.Elem)else false then eqB a.Open b.Open else false)=q at e8 ⊢
 simp only[oZ4,oZ3];rw[s1,m1];refine⟨q && rs && rm,by cases q <;> cases rs <;> cases rm <;> rfl,?_⟩;rw[gxb,Bool.and_eq_true,Bool.and_eq_true,e8,s2,m2];constructor
 · rintro ⟨⟨⟨a1,a2,a3,a4,a5,a6,a7,a8⟩,a9⟩,a10⟩;exact⟨a1,a2,a3,a4,a5,a6,a7,a8,a9,a10⟩
 · rintro ⟨a1,a2,a3,a4,a5,a6,a7,a8,a9,a10⟩;exact⟨⟨⟨a1,a2,a3,a4,a5,a6,a7,a8⟩,a9⟩,a10⟩
theorem gxc(a:SType) :(⟨a.Kind,a.Name,a.Low,a.High,a.Max,a.Symbols,a.Members,a.Key,a.Elem,a.Open⟩:SType)=a:=by cases a;rfl
theorem gii{a:SType}(h:OkT a)(b:SType) :Says (gf1 (a,b)) a b:=by
 rw[gf1];simp only[gxc];by_cases h5:(a.Kind=b.Kind∧a.Name=b.Name∧a.Low=b.Low∧a.High=b.High∧a.Max=b.Max∧a.Key=b.Key∧a.Elem=b.Elem∧a.Open=b.Open)∧a.Symbols.length=b.Symbols.length∧a.Members.length=b.Members.length
 · obtain⟨⟨e1,e2,e3,e4,e5,e6,e7,e8⟩,e9,e10⟩:=h5;rw[if_neg (by simp[e1,e2,e3,e4,e5,e6,e7,e8,e9,e10,eqB])];have hr:=g1i (g5r h.syms);have hr2:=g1i (g5r h.mems)
   have hsc:=scan (fun i=>g46 ((i:Int),a,b)) a.Symbols.length (fun i=>eqI (a.Symbols.getD i dSSymbol).ID (b.Symbols.getD i dSSymbol).ID && (eqS (a.Symbols.getD i dSSymbol).Name (b.Symbols.getD i dSSymbol).Name && true)) (.inl false) (.inr (a,b))
     (fun i hi'=>by
       rw[g46,if_pos (by simp;omega),if_pos (g8 hi')];simp only[oZ4,oZ3,g9];rw[if_pos (g8 (by omega)),gu (by omega)];generalize (eqI (a.Symbols.getD i dSSymbol).ID (b.Symbols.getD i dSSymbol).ID && (eqS (a.Symbols.getD i dSSymbol).Name (b.Symbols.getD i dSSymbol).Name && true))=c;cases c <;> rfl)
     (by rw[g46,if_neg (by simp)])
   have h0:g46 (((0:Nat):Int),a,b)=g46 (0,a,b):=rfl;simp only[h0]at hsc;have hp:∀(i:Nat) (h1:i < a.Symbols.length) (h2:i < b.Symbols.length),(eqI (a.Symbols.getD i dSSymbol).ID (b.Symbols.getD i dSSymbol).ID && (eqS (a.Symbols.getD i dSSymbol).Name (b.Symbols.getD i dSSymbol).Name && true))=true↔a.Symbols[i]=b.Symbols[i]:=fun i h1 h2=>by
     rw[g1n h1,g1n h2];exact g1g0
   rcases hsc with⟨g1,g2⟩ | ⟨g1,j,g2,g3⟩
   · have hsy:=(gax e9 hp).1 g2;rw[g1];simp only[oZ4,oZ3];have hs:=g126 (g:=()) e10 (f:=g9m) (fun x hx y=>g1g5 (h.dv x hx) y) (fun i=>g47 ((i:Int),a,b))
       (fun i hi=>by
         rw[g47,if_pos (by simp;omega),if_pos (g8 hi)];simp only[oZ4,oZ3,g9,gf9];rw[if_pos (g8 (by omega)),gu (by omega)])
       (by rw[g47,if_neg (by simp)])
     have e0:g47 (((0:Nat):Int),a,b)=g47 (0,a,b):=rfl;simp only[e0]at hs;rcases hs with⟨k1,k2⟩ | ⟨k1,k2⟩
     · rw[k1];refine⟨true,rfl,?_⟩;rw[gxb];simp[e1,e2,e3,e4,e5,e6,e7,e8,hsy,k2]
     · rw[k1];refine⟨false,rfl,?_⟩;rw[gxb];simp[k2]
   · rw[g1];refine⟨false,rfl,?_⟩;constructor
     · intro h;cases h
     · intro h;have:=(gax e9 hp).2 (gxb.1 h).2.2.2.2.2.2.2.2.1 j g2;rw[g3]at this;cases this
 · rw[if_pos]
   · refine⟨false,rfl,?_⟩;constructor
     · intro h;cases h
     · intro h
       exfalso;apply h5
       subst h;simp
   · simp only[Bool.cond_eq_ite,eqB];by_cases q1:a.Kind=b.Kind <;> by_cases q2:a.Name=b.Name <;> by_cases q3:a.Low=b.Low <;> by_cases q4:a.High=b.High <;> simp[q1,q2,q3,q4]
     by_cases q5:a.Max=b.Max <;> by_cases q6:a.Key=b.Key <;> by_cases q7:a.Elem=b.Elem <;> by_cases q8:a.Open=b.Open <;> simp[q5,q6,q7,q8]
     by_cases q9:a.Symbols.length=b.Symbols.length
     · by_cases q10:a.Members.length=b.Members.length
       · exact absurd ⟨⟨q1,q2,q3,q4,q5,q6,q7,q8⟩,q9,q10⟩ h5
       · right;omega
     · left;omega
end
section
open Go Go.Proofs.YthnmepafpikaiaaGreat.Shv
set_option maxRecDepth 100000
def gjj(v:SValue) :Bool:=(g54 (v,dSValue)).getD false
theorem g1mu{v:SValue}(h:OkV v) :g54 (v,dSValue)=some (gjj v):=by
 obtain⟨r,h1,h2⟩:=gqm h dSValue;unfold gjj;rw[h1];rfl
theorem g1mv{v:SValue}(h:OkV v) :g1y (v,dSValue)=some (gjj v):=by
 obtain⟨r,h1,h2⟩:=gqm h dSValue;obtain⟨q,h3,h4⟩:=g16n h dSValue;unfold gjj;rw[h1,h3];have:q=r:=Bool.eq_iff_iff.2 (h4.trans h2.symm);rw[this];rfl
theorem g1j1{v:SValue}(h:OkV v) :gha v=some (gjj v):=by
 rw[gha,SValue.g14];have:=g1mu h;unfold dSValue at this;rw[this];rfl
def badM(union:Bool)(m:SMember) :Bool:=(union && (m.Critical || m.HasDefault)) || (m.Critical && m.HasDefault) || (!m.HasDefault && !gjj m.Default)
theorem gt{α:Type}{l:List α}{i:Nat}(h:i < l.length)(d:α) :l.getD i d∈l:=by
 rw[g1n h];exact List.getElem_mem h
theorem g15g{t:SType}(h:OkT t) :∃r,g7j t=some r∧(r=true↔(∀i,i < t.Members.length→badM (decide (t.Kind=6)) (t.Members.getD i dSMember)=false)∧(t.Kind=5∨0 < t.Members.length)∧(∀i,i < t.Members.length→idp (t.Members.map (·.ID)) (t.Members.map (·.Name)) i=true)∧t.Members.length≤16):=by
 have hr:t.Members.length < 9223372036854775807:=g1i (g5r h.mems);have hsc:=scan (fun i=>g30 (t.Members,(t.Members.length:Int),(i:Int),t,(t.Members.map (·.ID)).take i,(t.Members.map (·.Name)).take i)) t.Members.length (fun i=>!(badM (decide (t.Kind=6)) (t.Members.getD i dSMember))) (.inl false) (.inr (t,t.Members.map (·.ID),t.Members.map (·.Name)))
   (fun i hi=>by
     have hz:=g1j1 (h.dv _ (gt hi dSMember));rw[g30,if_pos (by simp;omega),if_pos (g8 hi)];simp only[oZ4,oZ3,g9,SValue.g14];rw[←g2y (·.ID) t.Members i dSMember 0 hi,←g2y (·.Name) t.Members i dSMember [] hi,gkw _ _ _ (by simpa using hi),gkw _ _ _ (by simpa using hi)];have hb:((t.Members.map (·.ID)).take (i+1)).length*24≤reachBytes:=by
       refine Nat.le_trans (Nat.mul_le_mul_right _ ?_) h.mems;simp;omega
     have hb2:((t.Members.map (·.Name)).take (i+1)).length*24≤reachBytes:=by
       refine Nat.le_trans (Nat.mul_le_mul_right _ ?_) h.mems;simp;omega
     rw[if_pos (room8 (by omega) hb),if_pos (room8 (by omega) hb2),gu (by omega),hz];unfold badM;cases decide (t.Kind=6) <;> cases (t.Members.getD i dSMember).Critical <;> cases (t.Members.getD i dSMember).HasDefault <;> cases gjj (t.Members.getD i dSMember).Default <;> rfl)
   (by
     rw[g30,if_neg (by simp)];rw[List.take_of_length_le (by simp),List.take_of_length_le (by simp)])
 have e0:g30 (t.Members,(t.Members.length:Int),((0:Nat):Int),t,(t.Members.map (·.ID)).take 0,(t.Members.map (·.Name)).take 0)=g30 (t.Members,(t.Members.length:Int),0,t,[],[]):=rfl;simp only[e0]at hsc;rw[g7j];obtain⟨r,h1,h2⟩:=g1g2 (l:=t.Members.map (·.ID)) (names:=t.Members.map (·.Name)) (by simpa using g5r h.mems) (by simp);rw[List.length_map]at h2
 rcases hsc with⟨g1,g2⟩ | ⟨g1,j,g2,g3⟩
 · rw[g1];simp only[oZ4,oZ3];rw[h1];refine⟨(bif decide (t.Kind=5)then true else decide (0 < ((t.Members.map (·.ID)).length:Int))) && r,?_,?_⟩
   · cases (bif decide (t.Kind=5)then true else decide (0 < ((t.Members.map (·.ID)).length:Int))) <;> rfl
   · rw[Bool.and_eq_true,h2];have e5:(bif decide (t.Kind=5)then true else decide (0 < ((t.Members.map (·.ID)).length:Int)))=true↔(t.Kind=5∨0 < t.Members.length):=by
       by_cases h5:t.Kind=5 <;> simp[h5]
     rw[e5];constructor
     · rintro ⟨a,b,c⟩
       exact⟨fun i hi=>by simpa using g2 i hi,a,b,c⟩
     · rintro ⟨_,a,b,c⟩;exact⟨a,b,c⟩
 · rw[g1];refine⟨false,rfl,?_⟩;constructor
   · intro h;cases h
   · rintro ⟨a,_⟩
     have h5:=a j g2;have g3':(!(badM (decide (t.Kind=6)) (t.Members.getD j dSMember)))=false:=g3;rw[h5]at g3';cases g3'
theorem g1e4 (l : List SMember) (record : Bool) (hl : l.length ≤ reachBytes) (i : Nat) (hi : i < l.length) :
   g34 (l,record,(i:Int),0,l.getD i dSMember)=some (if((l.map (·.Name)).take i).contains ((l.map (·.Name)).getD i [])=true then .inl false else .inr (l,record,(i:Int),l.getD i dSMember)):=by
 have hr:=g1i hl;have hsc:=scan (fun k=>g34 (l,record,(i:Int),(k:Int),l.getD i dSMember)) i (fun k=>!(decide ((l.getD k dSMember).Name=(l.getD i dSMember).Name))) (.inl false) (.inr (l,record,(i:Int),l.getD i dSMember))
   (fun k hk=>by
     rw[g34,if_pos (by simp;omega),if_pos (g8 (by omega)),gu (by omega)];simp only[g9,gf9];cases decide ((l.getD k dSMember).Name=(l.getD i dSMember).Name) <;> rfl)
   (by rw[g34,if_neg (by simp),gf9])
 have e0:g34 (l,record,(i:Int),((0:Nat):Int),l.getD i dSMember)=g34 (l,record,(i:Int),0,l.getD i dSMember):=rfl;simp only[e0]at hsc;rw[g2y (·.Name) l i dSMember [] hi];rcases hsc with⟨h1,h2⟩ | ⟨h1,j,h2,h3⟩
 · rw[h1,if_neg];rw[g77 (by simp;omega)]
   rintro ⟨k,hk,he⟩
   rw[g2y (·.Name) l k dSMember [] (by omega)]at he;have:=h2 k hk;rw[he]at this;simp at this
 · rw[h1,if_pos];rw[g77 (by simp;omega)];refine⟨j,h2,?_⟩;rw[g2y (·.Name) l j dSMember [] (by omega)]
   simpa using h3
theorem g1e5{l:List SMember}{record:Bool}(hl:l.length≤reachBytes)(hd:∀m,m∈l→OkV m.Default) :∃r,g91 (l,record)=some r∧(r=true↔(∀i,i < l.length→badM (!record) (l.getD i dSMember)=false)∧(record=true∨0 < l.length)∧(∀i,i < l.length→idp (l.map (·.ID)) (l.map (·.Name)) i=true)∧l.length≤16):=by
 have hr:=g1i hl;have hsc:=scan (fun i=>g4m (l,record,bef (l.map (·.ID)) i,(i:Int))) l.length (fun i=>idp (l.map (·.ID)) (l.map (·.Name)) i && !(badM (!record) (l.getD i dSMember))) (.inl false) (.inr (l,record))
   (fun i hi=>by
     have hz:=g1mv (hd _ (gt hi dSMember));unfold dSValue at hz;rw[g4m,if_pos (by simp;omega),if_pos (g8 hi)];simp only[oZ4,oZ3,g9,SValue.g14,gf9,g1c5 (l:=l.map (·.ID)) (names:=l.map (·.Name)) (i:=i) (by simpa using hi) (by simp)];rw[g1e4 l record hl i hi,hz];have hbef:bef (l.map (·.ID)) (i+1)=(l.getD i dSMember).ID:=by
       unfold bef;rw[if_neg (by omega)];exact g2y (·.ID) l i dSMember 0 hi
     rw[←g2y (·.ID) l i dSMember 0 hi,←g2y (·.Name) l i dSMember [] hi,refId,refNm];simp only[oZ3];generalize (decide (bef (l.map (·.ID)) i < (l.map (·.ID)).getD i 0) && decide (1≤(l.map (·.ID)).getD i 0) && decide ((l.map (·.ID)).getD i 0≤1000))=q;cases q with
     | false=>simp
     | true=>
       simp only[Bool.not_true,Bool.not_false,if_true,oZ3,Bool.true_and];cases nm ((l.map (·.Name)).getD i [])with
       | false=>simp
       | true=>
         simp only[Bool.not_true,Bool.true_and,Bool.or_false,cond_false];unfold badM;cases record <;> cases (l.getD i dSMember).Critical <;> cases (l.getD i dSMember).HasDefault <;> cases gjj (l.getD i dSMember).Default <;>
           simp only[Bool.not_true,Bool.not_false,Bool.or_self,Bool.and_self,Bool.or_true,Bool.true_or,Bool.and_true,Bool.and_false,Bool.false_and,Bool.true_and,Bool.false_or,Bool.or_false,cond_true,cond_false,if_true,if_false,Bool.false_eq_true,oZ3] <;>
           first
             | rfl
             | (cases hc:((l.map (·.Name)).take i).contains ((l.map (·.Name)).getD i [])with
               | true=>simp
               | false=>
                 simp only[Bool.false_eq_true,if_false,Bool.not_false,if_true];rw[gu (by omega),hbef]
                 try rfl))
   (by rw[g4m,if_neg (by simp)])
 have e0:g4m (l,record,bef (l.map (·.ID)) 0,((0:Nat):Int))=g4m (l,record,0,0):=rfl;simp only[e0]at hsc;rw[g91];rcases hsc with⟨h1,h2⟩ | ⟨h1,j,h2,h3⟩
 · rw[h1];refine⟨_,rfl,?_⟩;have h2':∀i,i < l.length→idp (l.map (·.ID)) (l.map (·.Name)) i=true∧badM (!record) (l.getD i dSMember)=false:=fun i hi=>by
     have:=h2 i hi
     simpa using this
   simp only[Bool.cond_eq_ite];constructor
   · intro h;split at h
     · rename_i h4;refine⟨fun i hi=>(h2' i hi).2,?_,fun i hi=>(h2' i hi).1,by simp at h4;omega⟩;cases record with
       | true=>exact .inl rfl
       | false=>right;simp at h;omega
     · cases h
   · rintro ⟨_,a,_,b⟩
     rw[if_pos (by simp;omega)];cases record with
     | true=>rfl
     | false=>simp at a ⊢;omega
 · rw[h1];refine⟨false,rfl,?_⟩;constructor
   · intro h;cases h
   · rintro ⟨a,_,b,_⟩
     have h5:=b j h2;have h6:=a j h2;rw[h5,h6]at h3;cases h3
theorem g17h{t:SType}(h:OkT t)(hk:t.Kind=5∨t.Kind=6) :∃r,g7j t=some r∧g91 (t.Members,decide (t.Kind=5))=some r:=by
 obtain⟨r,h1,h2⟩:=g15g h;obtain⟨q,h3,h4⟩:=g1e5 (l:=t.Members) (record:=decide (t.Kind=5)) (g5r h.mems) h.dv;have hu:(!(decide (t.Kind=5)))=decide (t.Kind=6):=by
   rcases hk with e | e <;> rw[e] <;> rfl
 rw[hu]at h4;have e5:decide (t.Kind=5)=true↔t.Kind=5:=decide_eq_true_iff;rw[e5]at h4;have:r=q:=Bool.eq_iff_iff.2 (h2.trans h4.symm);exact⟨r,h1,by rw[this];exact h3⟩
end
section
open Go Go.Proofs.YthnmepafpikaiaaGreat.Shv
set_option maxRecDepth 100000
theorem OkT.plain{k l h m kk e:Int}{n:List UInt8}{S:List SSymbol}{Ms:List SMember}{o:Bool}(hS:S.length*24≤reachBytes)(hM:Ms.length*24≤reachBytes)(hd:∀x,x∈Ms→OkV x.Default) :OkT ⟨k,n,l,h,m,S,Ms,kk,e,o⟩:=⟨hS,hM,hd⟩
theorem form1{N:List UInt8}{L H M K E:Int}{S:List SSymbol}{Ms:List SMember}{O:Bool}(h:OkT (⟨1,N,L,H,M,S,Ms,K,E,O⟩:SType)) :∃r,g1o (⟨1,N,L,H,M,S,Ms,K,E,O⟩:SType)=some r∧g1k (⟨1,N,L,H,M,S,Ms,K,E,O⟩:SType)=some r∧(r=true→N=[]):=by
 obtain⟨a,a1,a2⟩:=g6t (a:=(⟨0,N,L,H,M,S,Ms,K,E,O⟩:SType)) ⟨h.syms,h.mems,h.dv⟩ (⟨0,[],0,0,0,[],[],0,0,false⟩:SType);obtain⟨b,b1,b2⟩:=gii h (⟨1,[],0,0,0,[],[],0,0,false⟩:SType);have hab:a=b:=by
   refine Bool.eq_iff_iff.2 (a2.trans (Iff.trans ?_ b2.symm));simp only[SType.mk.injEq]
   try (simp)
 subst hab;refine⟨a,by simp[g1o,a1],by simp[g1k,g41,g1z,b1];try (cases a <;> rfl),fun hr=>?_⟩;have:=b2.1 hr;simp only[SType.mk.injEq]at this;exact this.2.1
theorem form2{N:List UInt8}{L H M K E:Int}{S:List SSymbol}{Ms:List SMember}{O:Bool}(h:OkT (⟨2,N,L,H,M,S,Ms,K,E,O⟩:SType)) :∃r,g1o (⟨2,N,L,H,M,S,Ms,K,E,O⟩:SType)=some r∧g1k (⟨2,N,L,H,M,S,Ms,K,E,O⟩:SType)=some r∧(r=true→N=[]):=by
 obtain⟨a,a1,a2⟩:=g6t (a:=(⟨0,N,0,0,M,S,Ms,K,E,O⟩:SType)) ⟨h.syms,h.mems,h.dv⟩ (⟨0,[],0,0,0,[],[],0,0,false⟩:SType);obtain⟨b,b1,b2⟩:=gii h (⟨2,[],L,H,0,[],[],0,0,false⟩:SType);have hab:a=b:=by
   refine Bool.eq_iff_iff.2 (a2.trans (Iff.trans ?_ b2.symm));simp only[SType.mk.injEq]
   try (simp)
 subst hab;refine⟨decide (L≤H) && a,?_,?_,fun hr=>?_⟩
 · simp only[g1o];generalize decide (L≤H)=q;simp[a1]
   try (cases q <;> rfl)
 · simp only[g1k];generalize decide (L≤H)=q;simp[g41,g1z,b1]
   try (cases a <;> cases q <;> rfl)
 · rw[Bool.and_eq_true]at hr;have:=b2.1 hr.2;simp only[SType.mk.injEq]at this;exact this.2.1
theorem form3{N:List UInt8}{L H M K E:Int}{S:List SSymbol}{Ms:List SMember}{O:Bool}(h:OkT (⟨3,N,L,H,M,S,Ms,K,E,O⟩:SType)) :∃r,g1o (⟨3,N,L,H,M,S,Ms,K,E,O⟩:SType)=some r∧g1k (⟨3,N,L,H,M,S,Ms,K,E,O⟩:SType)=some r∧(r=true→N=[]):=by
 obtain⟨a,a1,a2⟩:=g6t (a:=(⟨0,N,L,H,0,S,Ms,K,E,O⟩:SType)) ⟨h.syms,h.mems,h.dv⟩ (⟨0,[],0,0,0,[],[],0,0,false⟩:SType);obtain⟨b,b1,b2⟩:=gii h (⟨3,[],0,0,M,[],[],0,0,false⟩:SType);have hab:a=b:=by
   refine Bool.eq_iff_iff.2 (a2.trans (Iff.trans ?_ b2.symm));simp only[SType.mk.injEq]
   try (simp)
 subst hab;refine⟨(bif decide (0≤M)then decide (M≤200)else false) && a,?_,?_,fun hr=>?_⟩
 · simp only[g1o];generalize (bif decide (0≤M)then decide (M≤200)else false)=q;simp[a1]
   try (cases q <;> rfl)
 · simp only[g1k];generalize (bif decide (0≤M)then decide (M≤200)else false)=q;simp[g41,g1z,b1]
   try (cases a <;> cases q <;> rfl)
 · rw[Bool.and_eq_true]at hr;have:=b2.1 hr.2;simp only[SType.mk.injEq]at this;exact this.2.1
theorem form4{N:List UInt8}{L H M K E:Int}{S:List SSymbol}{Ms:List SMember}{O:Bool}(h:OkT (⟨4,N,L,H,M,S,Ms,K,E,O⟩:SType)) :∃r,g1o (⟨4,N,L,H,M,S,Ms,K,E,O⟩:SType)=some r∧g1k (⟨4,N,L,H,M,S,Ms,K,E,O⟩:SType)=some r∧(r=true→N≠[]):=by
 obtain⟨a,a1,a2⟩:=g6t (a:=(⟨0,[],L,H,M,[],Ms,K,E,false⟩:SType)) ⟨(by simp),h.mems,h.dv⟩ (⟨0,[],0,0,0,[],[],0,0,false⟩:SType);obtain⟨b,b1,b2⟩:=gii h (⟨4,N,0,0,0,S,[],0,0,O⟩:SType);have hab:a=b:=by
   refine Bool.eq_iff_iff.2 (a2.trans (Iff.trans ?_ b2.symm));simp only[SType.mk.injEq]
   try (cases O <;> simp)
 subst hab;obtain⟨q,q1,q2⟩:=g1g3 (l:=S) h.syms;refine⟨nm N && q && a,?_,?_,fun hr=>?_⟩
 · simp only[g1o];simp[a1,q1,lexNm]
   try (cases nm N <;> cases q <;> rfl)
 · simp only[g1k]
   try simp at q2
   simp[g41,g1z,b1,q2,refNm]
   try (cases a <;> cases nm N <;> cases q <;> rfl)
 · simp only[Bool.and_eq_true]at hr;exact nm_ne hr.1.1
theorem form5{N:List UInt8}{L H M K E:Int}{S:List SSymbol}{Ms:List SMember}{O:Bool}(h:OkT (⟨5,N,L,H,M,S,Ms,K,E,O⟩:SType)) :∃r,g1o (⟨5,N,L,H,M,S,Ms,K,E,O⟩:SType)=some r∧g1k (⟨5,N,L,H,M,S,Ms,K,E,O⟩:SType)=some r∧(r=true→N≠[]):=by
 obtain⟨a,a1,a2⟩:=g6t (a:=(⟨0,[],L,H,M,S,[],K,E,(bif O then decide ((5:Int)=5)else false)⟩:SType)) ⟨h.syms,(by simp),(by simp)⟩ (⟨0,[],0,0,0,[],[],0,0,false⟩:SType);obtain⟨b,b1,b2⟩:=gii h (⟨5,N,0,0,0,[],Ms,0,0,false⟩:SType);have hab:a=b:=by
   refine Bool.eq_iff_iff.2 (a2.trans (Iff.trans ?_ b2.symm));simp only[SType.mk.injEq]
   try (cases O <;> simp)
 subst hab;obtain⟨q,q1,q2⟩:=g17h h (by simp);refine⟨nm N && q && a,?_,?_,fun hr=>?_⟩
 · simp only[g1o]
   try simp at a1
   try simp at q1
   simp[a1,q1,lexNm]
   try (cases nm N <;> cases q <;> rfl)
 · simp only[g1k]
   try simp at q2
   simp[g41,g1z,b1,q2,refNm]
   try (cases a <;> cases nm N <;> cases q <;> rfl)
 · simp only[Bool.and_eq_true]at hr;exact nm_ne hr.1.1
theorem form6{N:List UInt8}{L H M K E:Int}{S:List SSymbol}{Ms:List SMember}{O:Bool}(h:OkT (⟨6,N,L,H,M,S,Ms,K,E,O⟩:SType)) :∃r,g1o (⟨6,N,L,H,M,S,Ms,K,E,O⟩:SType)=some r∧g1k (⟨6,N,L,H,M,S,Ms,K,E,O⟩:SType)=some r∧(r=true→N≠[]):=by
 obtain⟨a,a1,a2⟩:=g6t (a:=(⟨0,[],L,H,M,S,[],K,E,(bif O then decide ((6:Int)=5)else false)⟩:SType)) ⟨h.syms,(by simp),(by simp)⟩ (⟨0,[],0,0,0,[],[],0,0,false⟩:SType);obtain⟨b,b1,b2⟩:=gii h (⟨6,N,0,0,0,[],Ms,0,0,O⟩:SType);have hab:a=b:=by
   refine Bool.eq_iff_iff.2 (a2.trans (Iff.trans ?_ b2.symm));simp only[SType.mk.injEq]
   try (cases O <;> simp)
 subst hab;obtain⟨q,q1,q2⟩:=g17h h (by simp);refine⟨nm N && q && a,?_,?_,fun hr=>?_⟩
 · simp only[g1o]
   try simp at a1
   try simp at q1
   simp[a1,q1,lexNm]
   try (cases nm N <;> cases q <;> rfl)
 · simp only[g1k]
   try simp at q2
   simp[g41,g1z,b1,q2,refNm]
   try (cases a <;> cases nm N <;> cases q <;> rfl)
 · simp only[Bool.and_eq_true]at hr;exact nm_ne hr.1.1
theorem form7{N:List UInt8}{L H M K E:Int}{S:List SSymbol}{Ms:List SMember}{O:Bool}(h:OkT (⟨7,N,L,H,M,S,Ms,K,E,O⟩:SType)) :∃r,g1o (⟨7,N,L,H,M,S,Ms,K,E,O⟩:SType)=some r∧g1k (⟨7,N,L,H,M,S,Ms,K,E,O⟩:SType)=some r∧(r=true→N=[]):=by
 obtain⟨a,a1,a2⟩:=g6t (a:=(⟨0,N,L,H,0,S,Ms,K,0,O⟩:SType)) ⟨h.syms,h.mems,h.dv⟩ (⟨0,[],0,0,0,[],[],0,0,false⟩:SType);obtain⟨b,b1,b2⟩:=gii h (⟨7,[],0,0,M,[],[],0,E,false⟩:SType);have hab:a=b:=by
   refine Bool.eq_iff_iff.2 (a2.trans (Iff.trans ?_ b2.symm));simp only[SType.mk.injEq]
   try (simp)
 subst hab;refine⟨(bif decide (0≤M)then decide (M≤50)else false) && a,?_,?_,fun hr=>?_⟩
 · simp only[g1o];generalize (bif decide (0≤M)then decide (M≤50)else false)=q;simp[a1]
   try (cases q <;> rfl)
 · simp only[g1k];generalize (bif decide (0≤M)then decide (M≤50)else false)=q;simp[g41,g1z,b1]
   try (cases a <;> cases q <;> rfl)
 · rw[Bool.and_eq_true]at hr;have:=b2.1 hr.2;simp only[SType.mk.injEq]at this;exact this.2.1
theorem form8{N:List UInt8}{L H M K E:Int}{S:List SSymbol}{Ms:List SMember}{O:Bool}(h:OkT (⟨8,N,L,H,M,S,Ms,K,E,O⟩:SType)) :∃r,g1o (⟨8,N,L,H,M,S,Ms,K,E,O⟩:SType)=some r∧g1k (⟨8,N,L,H,M,S,Ms,K,E,O⟩:SType)=some r∧(r=true→N=[]):=by
 obtain⟨a,a1,a2⟩:=g6t (a:=(⟨0,N,L,H,0,S,Ms,0,0,O⟩:SType)) ⟨h.syms,h.mems,h.dv⟩ (⟨0,[],0,0,0,[],[],0,0,false⟩:SType);obtain⟨b,b1,b2⟩:=gii h (⟨8,[],0,0,M,[],[],K,E,false⟩:SType);have hab:a=b:=by
   refine Bool.eq_iff_iff.2 (a2.trans (Iff.trans ?_ b2.symm));simp only[SType.mk.injEq]
   try (simp)
 subst hab;refine⟨(bif decide (0≤M)then decide (M≤50)else false) && a,?_,?_,fun hr=>?_⟩
 · simp only[g1o];generalize (bif decide (0≤M)then decide (M≤50)else false)=q;simp[a1]
   try (cases q <;> rfl)
 · simp only[g1k];generalize (bif decide (0≤M)then decide (M≤50)else false)=q;simp[g41,g1z,b1]
   try (cases a <;> cases q <;> rfl)
 · rw[Bool.and_eq_true]at hr;have:=b2.1 hr.2;simp only[SType.mk.injEq]at this;exact this.2.1
theorem form9{N:List UInt8}{L H M K E:Int}{S:List SSymbol}{Ms:List SMember}{O:Bool}(h:OkT (⟨9,N,L,H,M,S,Ms,K,E,O⟩:SType)) :∃r,g1o (⟨9,N,L,H,M,S,Ms,K,E,O⟩:SType)=some r∧g1k (⟨9,N,L,H,M,S,Ms,K,E,O⟩:SType)=some r∧(r=true→N=[]):=by
 obtain⟨a,a1,a2⟩:=g6t (a:=(⟨0,N,L,H,M,S,Ms,K,0,O⟩:SType)) ⟨h.syms,h.mems,h.dv⟩ (⟨0,[],0,0,0,[],[],0,0,false⟩:SType);obtain⟨b,b1,b2⟩:=gii h (⟨9,[],0,0,0,[],[],0,E,false⟩:SType);have hab:a=b:=by
   refine Bool.eq_iff_iff.2 (a2.trans (Iff.trans ?_ b2.symm));simp only[SType.mk.injEq]
   try (simp)
 subst hab;refine⟨a,by simp[g1o,a1],by simp[g1k,g41,g1z,b1];try (cases a <;> rfl),fun hr=>?_⟩;have:=b2.1 hr;simp only[SType.mk.injEq]at this;exact this.2.1
end
section
open Go Go.Proofs.YthnmepafpikaiaaGreat.Shv
set_option maxRecDepth 100000
def gbj(k:Int) :Bool:=bif bif decide (k=4)then true else decide (k=5)then true else decide (k=6)
theorem g10a{t:SType}(h:OkT t) :∃r,g1o t=some r∧g1k t=some r∧(r=true→1≤t.Kind∧t.Kind≤9∧gbj t.Kind=!(decide (t.Name=[]))):=by
 by_cases hk:1≤t.Kind∧t.Kind≤9
 · obtain⟨Kd,N,L,H,M,S,Ms,K,E,O⟩:=t;simp only at hk;have:Kd=1∨Kd=2∨Kd=3∨Kd=4∨Kd=5∨Kd=6∨Kd=7∨Kd=8∨Kd=9:=by omega
   rcases this with rfl | rfl | rfl | rfl | rfl | rfl | rfl | rfl | rfl
   · obtain⟨r,h1,h2,h3⟩:=form1 h;exact⟨r,h1,h2,fun hr=>⟨hk.1,hk.2,by simp[gbj,h3 hr]⟩⟩
   · obtain⟨r,h1,h2,h3⟩:=form2 h;exact⟨r,h1,h2,fun hr=>⟨hk.1,hk.2,by simp[gbj,h3 hr]⟩⟩
   · obtain⟨r,h1,h2,h3⟩:=form3 h;exact⟨r,h1,h2,fun hr=>⟨hk.1,hk.2,by simp[gbj,h3 hr]⟩⟩
   · obtain⟨r,h1,h2,h3⟩:=form4 h;exact⟨r,h1,h2,fun hr=>⟨hk.1,hk.2,by simp[gbj,h3 hr]⟩⟩
   · obtain⟨r,h1,h2,h3⟩:=form5 h;exact⟨r,h1,h2,fun hr=>⟨hk.1,hk.2,by simp[gbj,h3 hr]⟩⟩
   · obtain⟨r,h1,h2,h3⟩:=form6 h;exact⟨r,h1,h2,fun hr=>⟨hk.1,hk.2,by simp[gbj,h3 hr]⟩⟩
   · obtain⟨r,h1,h2,h3⟩:=form7 h;exact⟨r,h1,h2,fun hr=>⟨hk.1,hk.2,by simp[gbj,h3 hr]⟩⟩
   · obtain⟨r,h1,h2,h3⟩:=form8 h;exact⟨r,h1,h2,fun hr=>⟨hk.1,hk.2,by simp[gbj,h3 hr]⟩⟩
   · obtain⟨r,h1,h2,h3⟩:=form9 h;exact⟨r,h1,h2,fun hr=>⟨hk.1,hk.2,by simp[gbj,h3 hr]⟩⟩
 · refine⟨false,?_,?_,fun h=>by cases h⟩
   · have e:∀k:Int,1≤k→k≤9→¬t.Kind=k:=fun k h1 h2 e=>hk (by omega)
     simp[g1o,e 1,e 2,e 3,e 4,e 5,e 6,e 7,e 8,e 9]
   · have e:(bif decide (t.Kind < 1)then true else decide (9 < t.Kind))=true:=by
       by_cases h1:t.Kind < 1
       · simp[h1]
       · simp[h1];omega
     rw[g1k,e];rfl
def usesL(t:SType) :List Int:=t.Members.map (·.Type_)++(if t.Kind=8 then[t.Key]else[])++(if 7≤t.Kind then[t.Elem]else[])
theorem gox{k n:Nat}(hk:k≤16){m:Nat}(h:m*24≤reachBytes)(hn:n≤m+2) :room k n=true:=by
 unfold room g63 g1s;unfold reachBytes at h;simp only[Bool.and_eq_true,decide_eq_true_eq];have:(2*n+192)*k≤(2*n+192)*16:=Nat.mul_le_mul_left _ hk;omega
theorem g15h(t:SType)(h:t.Members.length*24≤reachBytes) :∀(k i:Nat),i+k=t.Members.length→g4y (t.Members,(t.Members.length:Int),(i:Int),t,(t.Members.map (·.Type_)).take i)=some (t,t.Members.map (·.Type_))
 | 0,i,hi=>by
   rw[g4y,if_neg (by simp;omega),List.take_of_length_le (by simp;omega)]
 | k+1,i,hi=>by
   have hr:=g1i (g5r h);have hlt:i < t.Members.length:=by omega
   rw[g4y,if_pos (by simp;omega),if_pos (g8 hlt)];simp only[oZ4,oZ3,g9];rw[←g2y (·.Type_) t.Members i dSMember 0 hlt,gkw _ _ _ (by simpa using hlt),gu (by omega),if_pos (gox (m:=t.Members.length) (by omega) h (by simp;omega))];exact g15h t h k (i+1) (by omega)
theorem g1mw{t:SType}(h:t.Members.length*24≤reachBytes) :gj5 t=some (usesL t):=by
 have h0:=g15h t h t.Members.length 0 (by omega);have h0':g4y (t.Members,(t.Members.length:Int),0,t,[])=some (t,t.Members.map (·.Type_)):=h0;rw[gj5,h0'];unfold usesL;simp only[oZ4,oZ3];have r1:room 8 (t.Members.map (·.Type_)++[t.Key]).length=true:=gox (m:=t.Members.length) (by omega) h (by simp)
 have r2:room 8 (t.Members.map (·.Type_)++[t.Key]++[t.Elem]).length=true:=gox (m:=t.Members.length) (by omega) h (by simp);have r3:room 8 (t.Members.map (·.Type_)++[t.Elem]).length=true:=gox (m:=t.Members.length) (by omega) h (by simp);by_cases h8:t.Kind=8
 · have h7:7≤t.Kind:=by omega
   rw[if_pos (by simp[h8]),if_pos r1,if_pos (by simp[h7]),if_pos r2,if_pos h8,if_pos h7]
 · rw[if_neg (by simp[h8]),if_neg h8];by_cases h7:7≤t.Kind
   · rw[if_pos (by simp[h7]),if_pos r3,if_pos h7];simp
   · rw[if_neg (by simp[h7]),if_neg h7];simp
theorem g15i(t:SType)(h:t.Members.length*24≤reachBytes) :∀(k i:Nat),i+k=t.Members.length→g6s ((i:Int),t,(t.Members.map (·.Type_)).take i)=some (t,t.Members.map (·.Type_))
 | 0,i,hi=>by
   rw[g6s,if_neg (by simp;omega),List.take_of_length_le (by simp;omega)]
 | k+1,i,hi=>by
   have hr:=g1i (g5r h);have hlt:i < t.Members.length:=by omega
   rw[g6s,if_pos (by simp;omega),if_pos (g8 hlt)];simp only[oZ4,oZ3,g9];rw[←g2y (·.Type_) t.Members i dSMember 0 hlt,gkw _ _ _ (by simpa using hlt),gu (by omega),if_pos (gox (m:=t.Members.length) (by omega) h (by simp;omega))];exact g15i t h k (i+1) (by omega)
theorem g1mx{t:SType}(h:t.Members.length*24≤reachBytes)(hk:t.Kind≤9) :gkd t=some (usesL t):=by
 have h0:=g15i t h t.Members.length 0 (by omega);have h0':g6s (0,t,[])=some (t,t.Members.map (·.Type_)):=h0;rw[gkd,h0'];unfold usesL;simp only[oZ4,oZ3];have r1:room 8 (t.Members.map (·.Type_)++[t.Key]).length=true:=gox (m:=t.Members.length) (by omega) h (by simp)
 have r2:room 8 (t.Members.map (·.Type_)++[t.Key]++[t.Elem]).length=true:=gox (m:=t.Members.length) (by omega) h (by simp);have r3:room 8 (t.Members.map (·.Type_)++[t.Elem]).length=true:=gox (m:=t.Members.length) (by omega) h (by simp);by_cases h8:t.Kind=8
 · have h7:7≤t.Kind:=by omega
   rw[if_pos (by simp[h8]),if_pos r1,if_pos (by simp[h8]),if_pos r2,if_pos h8,if_pos h7]
 · rw[if_neg (by simp[h8]),if_neg h8];by_cases h7:7≤t.Kind
   · have:t.Kind=7∨t.Kind=9:=by omega
     rw[if_pos (by rcases this with e | e <;> simp[e]),if_pos r3,if_pos h7];simp
   · have e7:¬t.Kind=7:=by omega
     have e9:¬t.Kind=9:=by omega
     rw[if_neg (by simp[h8,e7,e9]),if_neg h7];simp
theorem g1my(k:Int) :g1z k=some (gbj k):=rfl
def keyB(k:Int) :Bool:=bif decide (1≤k)then decide (k≤4)else false
def outB(n:Nat)(u:Int) :Bool:=bif decide (u < 0)then true else decide ((n:Int)≤u)
def stepV(ts:List SType)(i:Nat) :Option Int:=
 let t:=ts.getD i dSType
 if !((g1o t).getD false)then some 1
 else if !(decide (t.Name=[])) && ((ts.map (·.Name)).take i).contains t.Name then some 1
 else if(usesL t).any (outB ts.length)then some 4
 else if decide (t.Kind=8) && !(keyB (ts.getD t.Key.toNat dSType).Kind)then some 1
 else none
theorem gxd {ts : List SType} {i : Nat} {t : SType} {r : Bool} (hT : ts.getD i dSType = t) (f1 : g1o t = some r) :
   stepV ts i=if(!r)=true then some 1 else if(!(decide (t.Name=[])) && ((ts.map (·.Name)).take i).contains t.Name)=true then some 1 else if(usesL t).any (outB ts.length)=true then some 4 else if(decide (t.Kind=8) && !(keyB (ts.getD t.Key.toNat dSType).Kind))=true then some 1 else none:=by
 subst hT;unfold stepV;simp only[f1,Option.getD_some]
theorem g1a7 {γ : Type} (L : Nat → Option γ) (l : List Int) (q : Int → Bool) (bad good : γ) (hstep : ∀ i, i < l.length → L i = if q (l.getD i 0) = true then some bad else L (i + 1)) (hend : L l.length = some good) :
   L 0=some (if l.any q=true then bad else good):=by
 have:=scan L l.length (fun i=>!(q (l.getD i 0))) bad good (fun i hi=>by
   rw[hstep i hi];cases q (l.getD i 0) <;> rfl) hend
 rcases this with⟨h1,h2⟩ | ⟨h1,j,h2,h3⟩
 · rw[h1,if_neg];intro h;rw[List.any_eq_true]at h;obtain⟨x,hx,hq⟩:=h;obtain⟨j,hj,he⟩:=List.getElem_of_mem hx;have:=h2 j hj;rw[g1n hj,he,hq]at this;cases this
 · rw[h1,if_pos];rw[List.any_eq_true];refine⟨l.getD j 0,gt h2 0,by simpa using h3⟩
theorem g17i{t:SType}(h:t.Members.length*24≤reachBytes) :(usesL t).length < 9223372036854775807:=by
 unfold usesL reachBytes at*;simp only[List.length_append,List.length_map];split <;> split <;> simp <;> omega
theorem g1qi {L : Nat → Option (Int ⊕ Unit)} {L' : Nat → Option (Int ⊕ Unit)} {n : Nat} {step : Nat → Option Int}
   (h:∀i,i < n→L i=match step i with | some e=>some (.inl e) | none=>L (i+1)) (he:L n=some (.inr ()))
   (h':∀i,i < n→L' i=match step i with | some e=>some (.inl e) | none=>L' (i+1)) (he':L' n=some (.inr ())):∃o,L 0=some o∧L' 0=some o∧((o= .inr ()∧∀i,i < n→step i=none)∨∃i e,i < n∧step i=some e∧o= .inl e):=by
 have key:∀k i,i+k=n→∃o,L i=some o∧L' i=some o∧((o= .inr ()∧∀m,i≤m→m < n→step m=none)∨∃m e,m < n∧step m=some e∧o= .inl e):=by
   intro k
   induction k with
   | zero => intro i hi; have : i = n := by omega
             subst this;exact⟨_,he,he',.inl ⟨rfl,fun m h1 h2=>by omega⟩⟩
   | succ k ih=>
     intro i hi;rw[h i (by omega),h' i (by omega)];cases hst:step i with
     | some e=>exact⟨_,rfl,rfl,.inr ⟨i,e,by omega,hst,rfl⟩⟩
     | none=>
       obtain⟨o,o1,o2,o3⟩:=ih (i+1) (by omega);refine⟨o,o1,o2,?_⟩;rcases o3 with⟨a,b⟩ | h
       · refine .inl ⟨a,fun m h1 h2=>?_⟩;rcases Nat.lt_or_ge i m with h | h
         · exact b m h h2
         · have:m=i:=by omega
           subst this;exact hst
       · exact .inr h
 obtain⟨o,o1,o2,o3⟩:=key n 0 (by omega);refine⟨o,o1,o2,?_⟩;rcases o3 with⟨a,b⟩ | h
 · exact .inl ⟨a,fun i hi=>b i (Nat.zero_le _) hi⟩
 · exact .inr h
theorem g1g6{ts:List SType}{t:SType}(hu:(usesL t).any (outB ts.length)=false)(h8:t.Kind=8) :inR t.Key ts.length=true:=by
 have hm:t.Key∈usesL t:=by unfold usesL;simp[h8]
 rw[List.any_eq_false]at hu;have:=hu _ hm;unfold outB at this;unfold inR;simp only[Bool.and_eq_true,decide_eq_true_eq];by_cases h1:t.Key < 0
 · simp[h1]at this
 · simp[h1]at this;omega
theorem g1qj (ts : List SType) (t : SType) (i : Nat) (hi : i < ts.length) (hr : ts.length < 9223372036854775807) :
   g3m ((i:Int),0,ts,t.Kind,t.Name,t.Low,t.High,t.Max,t.Symbols,t.Members,t.Key,t.Elem,t.Open)=some (if(gbj t.Kind && ((ts.map (·.Name)).take i).contains t.Name)=true then .inl 1 else .inr ((i:Int),ts,t.Kind,t.Name,t.Low,t.High,t.Max,t.Symbols,t.Members,t.Key,t.Elem,t.Open)):=by
 have hsc:=scan (fun k=>g3m ((i:Int),(k:Int),ts,t.Kind,t.Name,t.Low,t.High,t.Max,t.Symbols,t.Members,t.Key,t.Elem,t.Open)) i (fun k=>!(bif gbj t.Kind then decide ((ts.getD k dSType).Name=t.Name)else false)) (.inl 1) (.inr ((i:Int),ts,t.Kind,t.Name,t.Low,t.High,t.Max,t.Symbols,t.Members,t.Key,t.Elem,t.Open))
   (fun k hk=>by
     rw[g3m,if_pos (by simp;omega),g1my];simp only[oZ4,oZ3];rw[if_pos (by rw[g8 (show k < ts.length by omega)];rfl),gu (by omega),g9];cases (bif gbj t.Kind then decide ((ts.getD k dSType).Name=t.Name)else false) <;> rfl)
   (by rw[g3m,if_neg (by simp)])
 have e0:g3m ((i:Int),((0:Nat):Int),ts,t.Kind,t.Name,t.Low,t.High,t.Max,t.Symbols,t.Members,t.Key,t.Elem,t.Open)=g3m ((i:Int),0,ts,t.Kind,t.Name,t.Low,t.High,t.Max,t.Symbols,t.Members,t.Key,t.Elem,t.Open):=rfl;simp only[e0]at hsc;rcases hsc with⟨h1,h2⟩ | ⟨h1,j,h2,h3⟩
 · rw[h1,if_neg];rw[Bool.and_eq_true,g77 (by simp;omega)]
   rintro ⟨hn,k,hk,he⟩
   rw[g2y (·.Name) ts k dSType [] (by omega)]at he;have:=h2 k hk;rw[hn,he]at this;simp at this
 · rw[h1,if_pos];rw[Bool.and_eq_true,g77 (by simp;omega)];cases hn:gbj t.Kind with
   | false=>rw[hn]at h3;cases h3
   | true=>
     refine⟨rfl,j,h2,?_⟩;rw[g2y (·.Name) ts j dSType [] (by omega)];rw[hn]at h3
     simpa using h3
theorem g1qk (ts : List SType) (t : SType) (i : Nat) (l : List Int) (hl : l.length < 9223372036854775807) :
   g5m ((i:Int),l,0,ts,t.Kind,t.Name,t.Low,t.High,t.Max,t.Symbols,t.Members,t.Key,t.Elem,t.Open)=some (if l.any (outB ts.length)=true then .inl 4 else .inr ((i:Int),ts,t.Kind,t.Name,t.Low,t.High,t.Max,t.Symbols,t.Members,t.Key,t.Elem,t.Open)):=
 g1a7 (fun j=>g5m ((i:Int),l,(j:Int),ts,t.Kind,t.Name,t.Low,t.High,t.Max,t.Symbols,t.Members,t.Key,t.Elem,t.Open)) l (outB ts.length) (.inl 4) (.inr ((i:Int),ts,t.Kind,t.Name,t.Low,t.High,t.Max,t.Symbols,t.Members,t.Key,t.Elem,t.Open))
   (fun j hj=>by
     rw[g5m,if_pos (by simp;omega),if_pos (g8 hj)];simp only[oZ4,oZ3];rw[if_pos (by rw[g8 hj];rfl),gu (by omega)];rfl)
   (by rw[g5m,if_neg (by simp)])
theorem g15j{s:SSchema}(hs:s.Types.length≤reachBytes)(ht:∀t,t∈s.Types→OkT t) :∃e,gba s=some e∧gai s=some e∧(e=0→s.Types.length≤32∧∀i,i < s.Types.length→stepV s.Types i=none)∧((s.Types.length≤32∧∀i,i < s.Types.length→stepV s.Types i=none)→e=0):=by
 rw[gba,gai];by_cases h32:32 < s.Types.length
 · exact⟨3,by rw[if_pos (by simp;omega)],by rw[if_pos (by simp;omega)],fun h=>(by cases h),fun h=>absurd h.1 (by omega)⟩
 · rw[if_neg (by simp;omega),if_neg (by simp;omega)];have hr:s.Types.length < 9223372036854775807:=by omega
   have:=g1qi (L:=fun i=>g4e (s.Types,(s.Types.length:Int),(i:Int),s.Types,setOf ((s.Types.map (·.Name)).take i))) (L':=fun i=>g5d ((i:Int),s.Types)) (n:=s.Types.length) (step:=stepV s.Types)
     (fun i hi=>by
       have hok:=ht _ (gt hi dSType);obtain⟨r,f1,f2,f3⟩:=g10a hok;rw[g4e,if_pos (by simp;omega),if_pos (g8 hi)];simp only[oZ4,oZ3,g9];generalize hT:s.Types.getD i dSType=t at*;rw[gxd hT f1,f1];simp only[oZ3,g15d];cases r with
       | false=>rw[if_pos (show(bif (!false)then true else bif (!(decide (t.Name=[])))then((s.Types.map (·.Name)).take i).contains t.Name else false)=true from rfl),if_pos (show(!false)=true from rfl)]
       | true=>
         rw[if_neg (show ¬((!true)=true) by simp)];by_cases hd:(!(decide (t.Name=[])) && ((s.Types.map (·.Name)).take i).contains t.Name)=true
         · have hd':(bif (!(decide (t.Name=[])))then((s.Types.map (·.Name)).take i).contains t.Name else false)=true:=by
             simp only[Bool.and_eq_true]at hd;rw[hd.1,hd.2];rfl
           rw[if_pos (show(bif (!true)then true else bif (!(decide (t.Name=[])))then((s.Types.map (·.Name)).take i).contains t.Name else false)=true from hd'),if_pos hd]
         · have hd':¬((bif (!(decide (t.Name=[])))then((s.Types.map (·.Name)).take i).contains t.Name else false)=true):=by
             intro hc;apply hd;cases h1:(!(decide (t.Name=[])))with
             | true=>rw[h1]at hc;simpa using hc
             | false=>rw[h1]at hc;cases hc
           rw[if_neg (show ¬((bif (!true)then true else bif (!(decide (t.Name=[])))then((s.Types.map (·.Name)).take i).contains t.Name else false)=true)from hd'),if_neg hd,g1mw hok.mems];simp only[oZ3];have hul:=g17i hok.mems
           have hin:=g1a7 (fun j=>g31 (s.Types,(s.Types.length:Int),(i:Int),usesL t,((usesL t).length:Int),(j:Int),s.Types,addS (setOf ((s.Types.map (·.Name)).take i)) t.Name,t.Kind,t.Name,t.Low,t.High,t.Max,t.Symbols,t.Members,t.Key,t.Elem,t.Open)) (usesL t) (outB s.Types.length) (.inl 4)
             (.inr (s.Types,(s.Types.length:Int),(i:Int),s.Types,addS (setOf ((s.Types.map (·.Name)).take i)) t.Name,t.Kind,t.Name,t.Low,t.High,t.Max,t.Symbols,t.Members,t.Key,t.Elem,t.Open))
             (fun j hj=>by
               rw[g31,if_pos (by simp;omega),if_pos (g8 hj),gu (by omega)];rfl)
             (by rw[g31,if_neg (by simp)])
           have e0:g31 (s.Types,(s.Types.length:Int),(i:Int),usesL t,((usesL t).length:Int),((0:Nat):Int),s.Types,addS (setOf ((s.Types.map (·.Name)).take i)) t.Name,t.Kind,t.Name,t.Low,t.High,t.Max,t.Symbols,t.Members,t.Key,t.Elem,t.Open)=g31 (s.Types,(s.Types.length:Int),(i:Int),usesL t,((usesL t).length:Int),0,s.Types,addS (setOf ((s.Types.map (·.Name)).take i)) t.Name,t.Kind,t.Name,t.Low,t.High,t.Max,t.Symbols,t.Members,t.Key,t.Elem,t.Open):=rfl
           rw[←e0,hin];cases hu:(usesL t).any (outB s.Types.length)with
           | true=>rfl
           | false=>
             simp only[Bool.false_eq_true,if_false,oZ3];have hsucc:addS (setOf ((s.Types.map (·.Name)).take i)) t.Name=setOf ((s.Types.map (·.Name)).take (i+1)):=by
               have h1:=g15e (l:=s.Types.map (·.Name)) (i:=i) (by simpa using hi);rw[g2y (·.Name) s.Types i dSType [] hi,hT]at h1;exact h1
             rw[hsucc,gu (by omega)];by_cases h8:t.Kind=8
             · have hk:=g1g6 hu h8;rw[if_pos (by rw[hk];rfl),if_pos (by rw[hk];rfl)];simp only[h8,decide_true,cond_true,Bool.true_and,keyB];generalize (s.Types.getD t.Key.toNat dSType).Kind=k;by_cases q1:k < 1
               · rw[if_pos (by simp[q1]),if_pos (by simp;omega)]
               · by_cases q2:4 < k
                 · rw[if_pos (by simp[q1,q2]),if_pos (by simp;omega)]
                 · rw[if_neg (by simp[q1,q2]),if_neg (by simp;omega)]
             · have e8:decide (t.Kind=8)=false:=by simp[h8]
               simp only[e8,Bool.not_false,Bool.or_true,if_true,Bool.false_and,cond_false,Bool.false_eq_true,if_false])
     (by rw[g4e,if_neg (by simp)])
     (fun i hi=>by
       have hok:=ht _ (gt hi dSType);obtain⟨r,f1,f2,f3⟩:=g10a hok;rw[g5d,if_pos (by simp;omega),if_pos (g8 hi)];simp only[oZ4,oZ3,g9];generalize hT:s.Types.getD i dSType=t at*;rw[gxd hT f1,f2,g1qj s.Types t i hi hr];simp only[oZ3];cases r with
       | false=>rfl
       | true=>
         obtain⟨k1,k2,k3⟩:=f3 rfl;rw[if_neg (show ¬((!true)=true) by simp),if_neg (show ¬((!true)=true) by simp),k3];cases hd:(!(decide (t.Name=[])) && ((s.Types.map (·.Name)).take i).contains t.Name)with
         | true=>rfl
         | false=>
           simp only[Bool.false_eq_true,if_false,gxc];rw[g1mx hok.mems k2];simp only[oZ3];rw[g1qk s.Types t i (usesL t) (g17i hok.mems)];cases hu:(usesL t).any (outB s.Types.length)with
           | true=>rfl
           | false=>
             simp only[Bool.false_eq_true,if_false,oZ3];rw[gu (by omega)];by_cases h8:t.Kind=8
             · have hk:=g1g6 hu h8;rw[if_pos (by rw[hk];rfl)];simp only[h8,decide_true,if_true,g8z,oZ3,cond_true,Bool.true_and];show(if(!(keyB (s.Types.getD t.Key.toNat dSType).Kind))=true then some (.inl 1)else g5d (((i+1:Nat):Int),s.Types))=_;cases keyB (s.Types.getD t.Key.toNat dSType).Kind <;> rfl
             · have e8:decide (t.Kind=8)=false:=by simp[h8]
               rw[e8];simp only[Bool.not_false,Bool.or_true,if_true,Bool.false_and,cond_false,Bool.false_eq_true,if_false,oZ3])
     (by rw[g5d,if_neg (by simp)])
   obtain⟨o,h1,h2,h3⟩:=this;have h1':g4e (s.Types,(s.Types.length:Int),0,s.Types,[])=some o:=h1;have h2':g5d (0,s.Types)=some o:=h2;rw[h1',h2'];rcases h3 with⟨rfl,h4⟩ | ⟨i,e,h4,h5,rfl⟩
   · exact⟨_,rfl,rfl,fun _=>⟨by omega,h4⟩,fun _=>rfl⟩
   · refine⟨_,rfl,rfl,fun h0=>?_,fun h=>by have:=h.2 i h4;rw[h5]at this;cases this⟩
     exfalso
     subst h0;unfold stepV at h5;simp only at h5;split at h5
     · cases h5
     · split at h5
       · cases h5
       · split at h5
         · cases h5
         · split at h5 <;> cases h5
theorem g1e6{s:SSchema}(hs:s.Types.length≤reachBytes)(ht:∀t,t∈s.Types→OkT t) :∃e,gba s=some e∧gai s=some e∧(e=0→s.Types.length≤32∧∀i,i < s.Types.length→stepV s.Types i=none):=by
 obtain⟨e,h1,h2,h3,_⟩:=g15j hs ht;exact⟨e,h1,h2,h3⟩
theorem g1e7{ts:List SType}(hT:∀t,t∈ts→OkT t)(hv:∀i,i < ts.length→stepV ts i=none) :∀t,t∈ts→1≤t.Kind∧t.Kind≤9:=by
 intro t ht;obtain⟨i,hi,he⟩:=List.getElem_of_mem ht;have hg:ts.getD i dSType=t:=by rw[g1n hi];exact he
 obtain⟨r,f1,_,f3⟩:=g10a (hT t ht);have h:=hv i hi;rw[gxd hg f1]at h;cases r with
 | false=>rw[if_pos (show(!false)=true from rfl)]at h;cases h
 | true=>exact⟨(f3 rfl).1,(f3 rfl).2.1⟩
end
section
open Go Go.Proofs.YthnmepafpikaiaaGreat.Shv
set_option maxRecDepth 100000
theorem goy {γ : Type} (L : Nat → Option γ) (n : Nat) (q : Nat → Bool) (hit : Nat → γ) (miss : γ) (hstep : ∀ i, i < n → L i = if q i = true then some (hit i) else L (i + 1)) (hend : L n = some miss) :
   (∃j,j < n∧q j=true∧(∀k,k < j→q k=false)∧L 0=some (hit j))∨((∀k,k < n→q k=false)∧L 0=some miss):=by
 have key:∀k i,i+k=n→(∀m,m < i→q m=false)→L 0=L i→(∃j,j < n∧q j=true∧(∀k,k < j→q k=false)∧L 0=some (hit j))∨((∀k,k < n→q k=false)∧L 0=some miss):=by
   intro k
   induction k with
   | zero => intro i hi hm h0; have : i = n := by omega
             subst this;exact .inr ⟨hm,by rw[h0,hend]⟩
   | succ k ih=>
     intro i hi hm h0;rw[hstep i (by omega)]at h0;cases hq:q i with
     | true=>rw[hq,if_pos rfl]at h0;exact .inl ⟨i,by omega,hq,hm,h0⟩
     | false=>
       rw[hq,if_neg (by simp)]at h0;refine ih (i+1) (by omega) (fun m hm'=>?_) h0;rcases Nat.lt_or_ge m i with h | h
       · exact hm m h
       · have:m=i:=by omega
         subst this;exact hq
 exact key n 0 (by omega) (fun m hm=>by omega) rfl
def gw4(l:List SMember)(id:Int)(r:Int × Bool) :Prop:=(∃j:Nat,j < l.length∧(l.getD j dSMember).ID=id∧(∀k,k < j→(l.getD k dSMember).ID≠id)∧r=((j:Int),true))∨((∀k,k < l.length→(l.getD k dSMember).ID≠id)∧r=(0,false))
theorem g1bi{l:List SMember}{id:Int}{r q:Int × Bool}(h1:gw4 l id r)(h2:gw4 l id q) :r=q:=by
 rcases h1 with⟨j,a1,a2,a3,rfl⟩ | ⟨a1,rfl⟩ <;> rcases h2 with⟨k,b1,b2,b3,rfl⟩ | ⟨b1,rfl⟩
 · have:j=k:=by
     rcases Nat.lt_trichotomy j k with h | h | h
     · exact absurd a2 (b3 j h)
     · exact h
     · exact absurd b2 (a3 k h)
   rw[this]
 · exact absurd a2 (b1 j a1)
 · exact absurd b2 (a1 k b1)
 · rfl
theorem g16o{t:SType}{id:Int}(hl:t.Members.length < 9223372036854775807) :∃r,g38 (t,id)=some r∧gw4 t.Members id r:=by
 rw[g38,g45];have h:=goy (fun i=>gz (t.Members,(t.Members.length:Int),(i:Int),id)) t.Members.length (fun i=>decide ((t.Members.getD i dSMember).ID=id)) (fun i=>.inl ((i:Int),id)) (.inr id)
   (fun i hi=>by
     rw[gz,if_pos (by simp;omega),if_pos (g8 hi)];simp only[oZ4,oZ3,g9,gf9,ggd];rw[gu (by omega)])
   (by rw[gz,if_neg (by simp)])
 have e0:gz (t.Members,(t.Members.length:Int),((0:Nat):Int),id)=gz (t.Members,(t.Members.length:Int),0,id):=rfl;simp only[e0]at h;rcases h with⟨j,h1,h2,h3,h4⟩ | ⟨h1,h4⟩
 · rw[h4];refine⟨((j:Int),true),?_,.inl ⟨j,h1,by simpa using h2,fun k hk=>by simpa using h3 k hk,rfl⟩⟩;have e1:maxI (j:Int) 0=(j:Int):=by unfold maxI;omega
   have e2:decide ((0:Int)≤(j:Int))=true:=by simp
   simp only[oZ4,oZ3,e1,e2]
 · rw[h4];exact⟨(0,false),rfl,.inr ⟨fun k hk=>by simpa using h1 k hk,rfl⟩⟩
theorem g16p{t:SType}{id:Int}(hl:t.Members.length < 9223372036854775807) :∃r,g20 (t,id)=some r∧gw4 t.Members id r:=by
 rw[g20];have h:=goy (fun i=>g37 (id,(i:Int),t)) t.Members.length (fun i=>decide ((t.Members.getD i dSMember).ID=id)) (fun i=>.inl ((i:Int),true)) (.inr ())
   (fun i hi=>by
     rw[g37,if_pos (by simp;omega),if_pos (g8 hi),gu (by omega)];simp only[g9])
   (by rw[g37,if_neg (by simp)])
 have e0:g37 (id,((0:Nat):Int),t)=g37 (id,0,t):=rfl;simp only[e0]at h;rcases h with⟨j,h1,h2,h3,h4⟩ | ⟨h1,h4⟩
 · rw[h4];exact⟨((j:Int),true),rfl,.inl ⟨j,h1,by simpa using h2,fun k hk=>by simpa using h3 k hk,rfl⟩⟩
 · rw[h4];exact⟨(0,false),rfl,.inr ⟨fun k hk=>by simpa using h1 k hk,rfl⟩⟩
theorem g73{t:SType}(id:Int)(hl:t.Members.length < 9223372036854775807) :∃r,g38 (t,id)=some r∧g20 (t,id)=some r∧gw4 t.Members id r:=by
 obtain⟨r,h1,h2⟩:=g16o (id:=id) hl;obtain⟨q,h3,h4⟩:=g16p (id:=id) hl;have:=g1bi h2 h4;subst this;exact⟨r,h1,h3,h2⟩
def gw5(l:List SSymbol)(id:Int)(r:Int × Bool) :Prop:=(∃j:Nat,j < l.length∧(l.getD j dSSymbol).ID=id∧(∀k,k < j→(l.getD k dSSymbol).ID≠id)∧r=((j:Int),true))∨((∀k,k < l.length→(l.getD k dSSymbol).ID≠id)∧r=(0,false))
theorem g1bj{l:List SSymbol}{id:Int}{r q:Int × Bool}(h1:gw5 l id r)(h2:gw5 l id q) :r=q:=by
 rcases h1 with⟨j,a1,a2,a3,rfl⟩ | ⟨a1,rfl⟩ <;> rcases h2 with⟨k,b1,b2,b3,rfl⟩ | ⟨b1,rfl⟩
 · have:j=k:=by
     rcases Nat.lt_trichotomy j k with h | h | h
     · exact absurd a2 (b3 j h)
     · exact h
     · exact absurd b2 (a3 k h)
   rw[this]
 · exact absurd a2 (b1 j a1)
 · exact absurd b2 (a1 k b1)
 · rfl
theorem gum{t:SType}(id:Int)(hl:t.Symbols.length < 9223372036854775807) :∃r,gc2 (t,id)=some r∧g9x (t,id)=some r∧gw5 t.Symbols id r:=by
 rw[gc2,g44,g9x];have h:=goy (fun i=>gv (t.Symbols,(t.Symbols.length:Int),(i:Int),id)) t.Symbols.length (fun i=>decide ((t.Symbols.getD i dSSymbol).ID=id)) (fun i=>.inl ((i:Int),id)) (.inr id)
   (fun i hi=>by
     rw[gv,if_pos (by simp;omega),if_pos (g8 hi)];simp only[oZ4,oZ3,g9,ggb];rw[gu (by omega)])
   (by rw[gv,if_neg (by simp)])
 have e0:gv (t.Symbols,(t.Symbols.length:Int),((0:Nat):Int),id)=gv (t.Symbols,(t.Symbols.length:Int),0,id):=rfl;have g:=goy (fun i=>g2t (id,(i:Int),t)) t.Symbols.length (fun i=>decide ((t.Symbols.getD i dSSymbol).ID=id)) (fun i=>.inl ((i:Int),true)) (.inr ())
   (fun i hi=>by
     rw[g2t,if_pos (by simp;omega),if_pos (g8 hi),gu (by omega)];simp only[g9])
   (by rw[g2t,if_neg (by simp)])
 have g0:g2t (id,((0:Nat):Int),t)=g2t (id,0,t):=rfl;simp only[e0]at h;simp only[g0]at g;have hA:∃r,(gv (t.Symbols,(t.Symbols.length:Int),0,id) >>=fun o=>match o with | .inl o_1=>some (o_1.1,o_1.2) | .inr o_2=>some ((-1),o_2)) >>=(fun r=>some (maxI r.1 0,decide (0≤r.1)))=some r∧gw5 t.Symbols id r:=by
   rcases h with⟨j,h1,h2,h3,h4⟩ | ⟨h1,h4⟩
   · rw[h4];refine⟨((j:Int),true),?_,.inl ⟨j,h1,by simpa using h2,fun k hk=>by simpa using h3 k hk,rfl⟩⟩;have e1:maxI (j:Int) 0=(j:Int):=by unfold maxI;omega
     have e2:decide ((0:Int)≤(j:Int))=true:=by simp
     simp only[oZ4,oZ3,e1,e2]
   · rw[h4];exact⟨(0,false),rfl,.inr ⟨fun k hk=>by simpa using h1 k hk,rfl⟩⟩
 have hB:∃r,(g2t (id,0,t) >>=fun o=>match o with | .inl o_1=>some (o_1.1,o_1.2) | .inr o_2=>some (0,false))=some r∧gw5 t.Symbols id r:=by
   rcases g with⟨j,h1,h2,h3,h4⟩ | ⟨h1,h4⟩
   · rw[h4];exact⟨((j:Int),true),rfl,.inl ⟨j,h1,by simpa using h2,fun k hk=>by simpa using h3 k hk,rfl⟩⟩
   · rw[h4];exact⟨(0,false),rfl,.inr ⟨fun k hk=>by simpa using h1 k hk,rfl⟩⟩
 obtain⟨r,a1,a2⟩:=hA;obtain⟨q,b1,b2⟩:=hB;have:=g1bj a2 b2;subst this;exact⟨r,a1,b1,a2⟩
end
section
open Go Go.Proofs.YthnmepafpikaiaaGreat.Shv
set_option maxRecDepth 100000
def zig(n:Int) :Int:=if 0≤n then 2*n else -2*n - 1
theorem g1c7{a b:Int}(h:zig a=zig b) :a=b:=by
 unfold zig at h;split at h <;> split at h <;> omega
def I64(n:Int) :Prop:= -9223372036854775808≤n∧n≤9223372036854775807
theorem gsk{n:Int}(h:I64 n) :g7o n=some (zig n):=by
 obtain⟨h1,h2⟩:=h;rw[g7o];unfold zig;by_cases h0:0≤n
 · rw[if_pos (by simp[h0]),if_pos h0];obtain⟨k,rfl⟩:∃k:Nat,n=(k:Int):=⟨n.toNat,by omega⟩
   rw[wrpn (by omega)];have:=mulIn (a:=2) (b:=k) (by omega)
   congr 1
   try omega
 · rw[if_neg (by simp[h0]),if_neg h0];rw[gb7 (by omega) (by omega),gj4 (by omega) (by omega)];obtain⟨k,hk⟩:∃k:Nat,0 - (n+1)=(k:Int):=⟨(0 - (n+1)).toNat,by omega⟩
   rw[hk,wrpn (by omega)];have h3:=mulIn (a:=2) (b:=k) (by omega);have h3':mulI .u64 2 (k:Int)=((2*k:Nat):Int):=h3;rw[h3'];have h4:=addIn (a:=2*k) (b:=1) (by omega);have h4':addI .u64 ((2*k:Nat):Int) 1=((2*k+1:Nat):Int):=h4;rw[h4']
   congr 1
   omega
theorem g1j2(a:Nat)(h:a < 18446744073709551616) :xorI .u64 (a:Int) 0=(a:Int):=by
 have e:(BitVec.ofInt 64 (a:Int) ^^^ BitVec.ofInt 64 (0:Int)).toNat=a:=by
   have:BitVec.ofInt 64 (0:Int)=BitVec.ofNat 64 0:=by decide
   rw[this,BitVec.ofInt_natCast,BitVec.toNat_xor,BitVec.toNat_ofNat,BitVec.toNat_ofNat,two64,Nat.mod_eq_of_lt h];simp
 show IntKind.u64.wrap (((BitVec.ofInt 64 (a:Int) ^^^ BitVec.ofInt 64 (0:Int)).toNat:Nat):Int)=_;rw[e];exact wrapu (by omega) (by omega)
theorem g1j3(a:Nat)(h:a < 18446744073709551616) :xorI .u64 (a:Int) 18446744073709551615=((18446744073709551615 - a:Nat):Int):=by
 have e:(BitVec.ofInt 64 (a:Int) ^^^ BitVec.ofInt 64 (18446744073709551615:Int)).toNat=18446744073709551615 - a:=by
   have h1:BitVec.ofInt 64 (18446744073709551615:Int)=BitVec.allOnes 64:=by decide
   rw[h1,BitVec.ofInt_natCast,BitVec.xor_allOnes,BitVec.toNat_not,BitVec.toNat_ofNat,two64,Nat.mod_eq_of_lt h]
 all_goals (try omega)
 show IntKind.u64.wrap (((BitVec.ofInt 64 (a:Int) ^^^ BitVec.ofInt 64 (18446744073709551615:Int)).toNat:Nat):Int)=_;rw[e];exact wrapu (by omega) (by omega)
theorem shr63{n:Int}(h:I64 n) :shrI .i64 n 63=if 0≤n then 0 else -1:=by
 obtain⟨h1,h2⟩:=h;unfold shrI;have e:((2:Int) ^ min (63:Int).toNat IntKind.i64.bits)=9223372036854775808:=by decide
 rw[e,Int.fdiv_eq_ediv_of_nonneg _ (by omega)];split <;> omega
theorem g1a8{n:Int}(h:I64 n) :ga4 n=some (zig n):=by
 rw[ga4,shr63 h];obtain⟨h1,h2⟩:=h;unfold zig;have hs:∀m:Int,shlI .u64 m 1=IntKind.u64.wrap (m*2):=by
   intro m;unfold shlI;have e:((2:Int) ^ min (1:Int).toNat IntKind.u64.bits)=2:=by decide
   rw[e]
 rw[hs]
 congr 1
 by_cases h0:0≤n
 · rw[if_pos h0,if_pos h0];obtain⟨k,rfl⟩:∃k:Nat,n=(k:Int):=⟨n.toNat,by omega⟩
   rw[wrpn (by omega),wrapu (by omega) (by omega)];have:wrp .u64 0=0:=by decide
   rw[this];have:=g1j2 (2*k) (by omega);have e:((k:Int)*2)=((2*k:Nat):Int):=by omega
   rw[e,this];omega
 · rw[if_neg h0,if_neg h0];have:wrp .u64 (-1)=18446744073709551615:=by decide
   rw[this];obtain⟨k,hk⟩:∃k:Nat,n+9223372036854775808=(k:Int):=⟨(n+9223372036854775808).toNat,by omega⟩
   have e:IntKind.u64.wrap (wrp .u64 n*2)=((2*k:Nat):Int):=by
     unfold wrp;rw[IntKind.wrap_u64,IntKind.wrap_u64];omega
   rw[e,g1j3 _ (by omega)];omega
theorem cmp1(a b:Int) :gj6 (a,b)=some (if a < b then -1 else if b < a then 1 else 0):=by
 rw[gj6];simp only[gob,oZ4,oZ3,decide_true,Bool.not_true,Bool.false_eq_true,if_false];by_cases h1:a < b <;> by_cases h2:b < a <;> simp[h1,h2]
theorem cmp2(a b:Int) :gc3 (a,b)=some (if a < b then -1 else if b < a then 1 else 0):=by
 rw[gc3];simp only[gj7,oZ4,oZ3,decide_true,Bool.not_true,Bool.false_eq_true,if_false];by_cases h1:a < b <;> by_cases h2:b < a <;> simp[h1,h2]
theorem cmp3(a b:List UInt8) :gfg (a,b)=some (if Op.bytesLess a b=true then -1 else if(Op.bytesLess a b || decide (a=b))=true then 0 else 1):=by
 rw[gfg];simp only[gj8,oZ4,oZ3,decide_true,Bool.not_true,Bool.false_eq_true,if_false];cases Op.bytesLess a b with
 | true=>rfl
 | false=>cases decide (a=b) <;> rfl
theorem or2(a b:Int) :gzl [a,b]=some (if a≠0 then a else b):=by
 rw[gzl];have h0:g7m (0,[a,b],((2:Nat):Int),((0:Nat):Int))=if a≠0 then some (.inl a)else(if b≠0 then some (.inl b)else some (.inr 0)):=by
   rw[g7m,if_pos (by decide),if_pos (show inR ((0:Nat):Int) ([a,b]:List Int).length=true from g8 (k:=0) (n:=2) (by omega))];simp only[oZ4,oZ3,g9,List.getD_cons_zero];by_cases ha:a=0
   · rw[if_neg (by simp[ha]),if_neg (by simp[ha])];have e1:addI .i64 ((0:Nat):Int) 1=((1:Nat):Int):=gu (by omega);rw[e1,g7m,if_pos (by decide),if_pos (show inR ((1:Nat):Int) ([a,b]:List Int).length=true from g8 (k:=1) (n:=2) (by omega))];simp only[oZ4,oZ3,g9,List.getD_cons_succ,List.getD_cons_zero];by_cases hb:b=0
     · rw[if_neg (by simp[hb]),if_neg (by simp[hb])];have e2:addI .i64 ((1:Nat):Int) 1=((2:Nat):Int):=gu (by omega);rw[e2,g7m,if_neg (by decide)]
     · rw[if_pos (by simp[hb]),if_pos hb]
   · rw[if_pos (by simp[ha]),if_pos ha]
 have h1:g7m (0,[a,b],(([a,b]:List Int).length:Int),0)=g7m (0,[a,b],((2:Nat):Int),((0:Nat):Int)):=rfl;rw[h1,h0];by_cases ha:a=0
 · by_cases hb:b=0 <;> simp[ha,hb]
 · simp[ha]
theorem gxx :∀a:List UInt8,Op.bytesLess a a=false
 | []=>rfl
 | x::r=>by
   simp[Op.bytesLess,gxx r]
theorem gsl{a b:SValue}(ha:I64 a.Int_)(hb:I64 b.Int_) :∃r,g8o (a,b)=some r∧g3x (a,b)=some r:=by
 rw[g8o,g3x];by_cases hk:a.Kind=b.Kind
 · rw[if_neg (show ¬((!(decide (a.Kind=b.Kind)))=true) by simp[hk]),if_neg (show ¬((!(decide (a.Kind=b.Kind)))=true) by simp[hk])];by_cases k1:a.Kind=1
   · rw[if_pos (show decide (a.Kind=1)=true by simp[k1]),if_pos (show decide (a.Kind=1)=true by simp[k1])];simp only[g29];cases eqB a.Bool_ b.Bool_ <;> cases b.Bool_ <;> exact⟨_,rfl,rfl⟩
   · rw[if_neg (show ¬(decide (a.Kind=1)=true) by simp[k1]),if_neg (show ¬(decide (a.Kind=1)=true) by simp[k1])];by_cases k2:a.Kind=2
     · rw[if_pos (show decide (a.Kind=2)=true by simp[k2]),if_pos (show decide (a.Kind=2)=true by simp[k2]),g1a8 ha,g1a8 hb,gsk ha,gsk hb];simp only[oZ4,oZ3,cmp1,g29];by_cases he:a.Int_=b.Int_
       · rw[he];exact⟨0,by simp,by simp⟩
       · have hne:zig a.Int_≠zig b.Int_:=fun h=>he (g1c7 h)
         rcases Int.lt_or_gt_of_ne hne with h | h
         · exact⟨-1,by simp[h],by simp[h,he]⟩
         · have:¬zig a.Int_ < zig b.Int_:=by omega
           exact⟨1,by simp[h,this],by simp[h,he,this]⟩
     · rw[if_neg (show ¬(decide (a.Kind=2)=true) by simp[k2]),if_neg (show ¬(decide (a.Kind=2)=true) by simp[k2])];by_cases k3:a.Kind=3
       · rw[if_pos (show decide (a.Kind=3)=true by simp[k3]),if_pos (show decide (a.Kind=3)=true by simp[k3])];simp only[oZ4,oZ3,cmp2,cmp3,or2,g29];by_cases hl:a.Str.length=b.Str.length
         · have hq:¬((!(decide ((a.Str.length:Int)=(b.Str.length:Int))))=true):=by simp;omega
           rw[if_neg hq,hl];have e1:¬((b.Str.length:Int) < (b.Str.length:Int)):=by omega
           simp only[e1,if_false,ne_eq,not_true_eq_false];by_cases he:a.Str=b.Str
           · rw[he,gxx];exact⟨0,by simp,by simp⟩
           · cases hb:Op.bytesLess a.Str b.Str with
             | true=>exact⟨-1,by simp,by simp[he]⟩
             | false=>exact⟨1,by simp[he],by simp[he]⟩
         · have hq:(!(decide ((a.Str.length:Int)=(b.Str.length:Int))))=true:=by simp;omega
           rw[if_pos hq];by_cases h:a.Str.length < b.Str.length
           · have e1:(a.Str.length:Int) < (b.Str.length:Int):=by omega
             exact⟨-1,by simp[e1],by simp[e1]⟩
           · have e1:¬((a.Str.length:Int) < (b.Str.length:Int)):=by omega
             have e2:(b.Str.length:Int) < (a.Str.length:Int):=by omega
             exact⟨1,by simp[e1,e2],by simp[e1]⟩
       · rw[if_neg (show ¬(decide (a.Kind=3)=true) by simp[k3]),if_neg (show ¬(decide (a.Kind=3)=true) by simp[k3])];by_cases k4:a.Kind=4
         · rw[if_pos (show decide (a.Kind=4)=true by simp[k4]),if_pos (show decide (a.Kind=4)=true by simp[k4])];simp only[oZ4,oZ3,cmp2,g29];by_cases he:a.ID=b.ID
           · rw[he];exact⟨0,by simp,by simp⟩
           · rcases Int.lt_or_gt_of_ne he with h | h
             · exact⟨-1,by simp[h],by simp[h,he]⟩
             · have:¬a.ID < b.ID:=by omega
               exact⟨1,by simp[h,this],by simp[h,he,this]⟩
         · rw[if_neg (show ¬(decide (a.Kind=4)=true) by simp[k4]),if_neg (show ¬(decide (a.Kind=4)=true) by simp[k4])];exact⟨0,rfl,rfl⟩
 · rw[if_pos (show(!(decide (a.Kind=b.Kind)))=true by simp[hk]),if_pos (show(!(decide (a.Kind=b.Kind)))=true by simp[hk])];exact⟨0,rfl,rfl⟩
end
end Go.Proofs.YthnmepafpikaiaaGreat
