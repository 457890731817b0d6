/- The functions of the program as functions of Lean, that its code does what they say, and what they answer; part B. -/
import Derived.Test.YthnmepafpikaiaaGreatErA

namespace Go.Proofs.YthnmepafpikaiaaGreat
set_option linter.all false
section
open Go Go.Proofs.YthnmepafpikaiaaGreat.Shv
open Tryz
set_option maxRecDepth 100000
def g2w (x_ : Bool × Bool) : Option (Int) :=
 match x_ with
 | (less, equal) =>
 if equal = true then
 some 0
 else
 if less = true then
 some (-1)
 else
 some 1
theorem g15y : g16h prog 154 = true := by kernel_rfl
theorem g132 : f154.body.bind (Shv.resolve prog f154.ntmps) = some (g16e prog f154) := by kernel_rfl
theorem g101 : g16f prog f154.results.toList = some [.tmp 4] := by kernel_rfl
def gsu (F : Hs Un.D [.bool, .bool] → Option (Hs Un.D [.int .i64])) : FSpec Un := ⟨154, [.c (.hole .bool), .c (.hole .bool)], [], [.bool, .bool], .c (.hole (.int .i64)), [], [.int .i64], F⟩
def gdv : FSpec Un := gsu g2w
theorem gqv : FSnd prog gdv := FSnd.of fun h r hr => FAt.of_body (s := gdv) (fo := foS []) (lo := loL []) func154 g132 g101 (by kernel_rfl) FoSnd.nil (LoOk.snd LoOk.nil) (Eq.trans (by kernel_rfl) hr)
def g71 (x_ : SValue × SValue) : Option (Int) :=
 match x_ with
 | (a, b) =>
 if (!(decide (a.Kind = b.Kind))) = true then
 some 0
 else
 if decide (a.Kind = 1) = true then
 g2w (b.Bool_, eqB a.Bool_ b.Bool_) >>= fun r =>
 some r
 else
 if decide (a.Kind = 2) = true then
 g5q a.Int_ >>= fun r_1 =>
 g5q b.Int_ >>= fun r_2 =>
 g2w (decide (r_1 < r_2), decide (a.Int_ = b.Int_)) >>= fun r_3 =>
 some r_3
 else
 if decide (a.Kind = 3) = true then
 if (!(decide ((a.Str.length : Int) = (b.Str.length : Int)))) = true then
 g2w (decide ((a.Str.length : Int) < (b.Str.length : Int)), false) >>= fun r_4 =>
 some r_4
 else
 g2w (Op.bytesLess a.Str b.Str, decide (a.Str = b.Str)) >>= fun r_5 =>
 some r_5
 else
 if decide (a.Kind = 4) = true then
 g2w (decide (a.ID < b.ID), decide (a.ID = b.ID)) >>= fun r_6 =>
 some r_6
 else
 some 0
theorem g15z : g16h prog 131 = true := by kernel_rfl
theorem g133 : f131.body.bind (Shv.resolve prog f131.ntmps) = some (g16e prog f131) := by kernel_rfl
theorem g102 : g16f prog f131.results.toList = some [.tmp 4] := by kernel_rfl
def gqw (F : Hs Un.D [.nm 4, .nm 4] → Option (Hs Un.D [.int .i64])) : FSpec Un := ⟨131, [.row 4, .row 4], [], [.nm 4, .nm 4], .c (.hole (.int .i64)), [], [.int .i64], F⟩
def gbu : FSpec Un := gqw g71
theorem gp0 : FSnd prog gbu := FSnd.of fun h r hr => FAt.of_body (s := gbu) (fo := foS [gdv, g94]) (lo := loL []) func131 g133 g102 (by kernel_rfl) (FoSnd.cons g15y gqv (FoSnd.cons gya ghi FoSnd.nil)) (LoOk.snd LoOk.nil) (Eq.trans (by kernel_rfl) hr)
def gt (x_ : Int × SValue) : Option ((Bool) ⊕ (Unit)) :=
 match x_ with
 | (i_1, b_12) =>
 if decide (i_1 < (b_12.Keys.length : Int)) = true then
 some (subI .i64 i_1 1) >>= fun t270 =>
 if inR t270 b_12.Keys.length = true then
 if inR i_1 b_12.Keys.length = true then
 g71 (SValue.eta (b_12.Keys.getD t270.toNat dSValue), SValue.eta (b_12.Keys.getD i_1.toNat dSValue)) >>= fun r_16 =>
 if decide (0 ≤ r_16) = true then
 some (.inl false)
 else
 gt (addI .i64 i_1 1, SValue.eta b_12)
 else none
 else none
 else
 some (.inr ())
  partial_fixpoint
theorem gti : g16h prog 107 = true := by kernel_rfl
theorem g134 : f107.body.bind (Shv.resolve prog f107.ntmps) = some (g16e prog f107) := by kernel_rfl
theorem g103 : g16f prog f107.results.toList = some [.tmp 8] := by kernel_rfl
def gin : Shape := ⟨[(6, .c (.ptr 0 0)), (15, .c (.hole (.int .i64)))], [.brow 4]⟩
def gbv : List Ty := [.int .i64, .nm 4]
def ga7 : List OSpec := [⟨.ret, ⟨[(8, .c (.hole .bool))], []⟩, [], [.bool]⟩, ⟨.exit 3, ⟨[], []⟩, [], []⟩]
def grn (F : Hs Un.D gbv → Option (OSum Un ga7)) : LSpec Un := ⟨gin, [], gbv, ga7, F⟩
def gjh : LSpec Un := grn gt
theorem gpw : LSnd prog f107.ntmps 0 (g16g (g16e prog f107) 1) gjh := fun h o ho => gt.partial_correctness (fun h o => LAt (U := Un) prog f107.ntmps 0 (g16g (g16e prog f107) 1) gin gbv ga7 h o) (fun F1 HF1 h o ho => LAt.of_round (fo := foS [gbu]) (lo := loL []) (own := []) (F' := F1) (FoSnd.cons g15z gp0 FoSnd.nil) (LoOk.snd LoOk.nil) HF1 (Eq.trans (by kernel_rfl) ho)) h o ho
mutual
def g3r (x_ : SSchema × Int × List SValue × Bool) : Option (Bool) :=
 match x_ with
 | (s, t, l, plain) =>
 g1e (t, l, plain, 0, s.Types) >>= fun o =>
 match o with
 | .inl o_1 =>
 some o_1
 | .inr o_2 =>
 some true
  partial_fixpoint
def g16 (x_ : SSchema × Int × SValue × Bool) : Option (Bool) :=
 match x_ with
 | (s, t, v, plain) =>
 if (bif decide (t < 0) then true else decide ((s.Types.length : Int) ≤ t)) = true then
 some false
 else
 if inR t s.Types.length = true then
 some (s.Types.getD t.toNat dSType) >>= fun x0 =>
 some (!(decide (v.Kind = x0.Kind))) >>= fun t34 =>
 (if (!t34) = true then g5i (SValue.eta v) else some false) >>= fun r =>
 if (bif bif t34 then true else (!r) then true else bif plain then decide (0 < (v.Rest.length : Int)) else false) = true then
 some false
 else
 if decide (x0.Kind = 1) = true then
 some true
 else
 if decide (x0.Kind = 2) = true then
 some (bif decide (x0.Low ≤ v.Int_) then decide (v.Int_ ≤ x0.High) else false)
 else
 if decide (x0.Kind = 3) = true then
 some (decide ((v.Str.length : Int) ≤ x0.Max))
 else
 if decide (x0.Kind = 4) = true then
 gai (x0, v.ID) >>= fun r_1 =>
 some (bif x0.Open then (!plain) else false) >>= fun t91 =>
 (if ((!r_1.2) && t91) = true then g13 (v.ID, r_1.2) else some false) >>= fun r_4 =>
 some (bif r_1.2 then true else bif t91 then r_4 else false)
 else
 if decide (x0.Kind = 5) = true then
 some (!(decide ((v.Items.length : Int) = (x0.Members.length : Int)))) >>= fun t107 =>
 (if (!t107) = true then g4n (x0, v.Rest) else some false) >>= fun r_5 =>
 if (bif t107 then true else (!r_5)) = true then
 some false
 else
 g10 (plain, 0, s.Types, SValue.eta v, x0.Kind, x0.Name, x0.Low, x0.High, x0.Max, x0.Symbols, x0.Members, x0.Key, x0.Elem, x0.Open) >>= fun o =>
 match o with
 | .inl o_1 =>
 some o_1
 | .inr o_2 =>
 some true
 else
 if decide (x0.Kind = 6) = true then
 g1q (x0, v.ID) >>= fun r_6 =>
 if r_6.2 = true then
 some (bif decide ((v.Items.length : Int) = 1) then decide ((v.Rest.length : Int) = 0) else false) >>= fun t156 =>
 if (inR r_6.1 x0.Members.length || (!t156)) = true then
 if (inR 0 v.Items.length || (!t156)) = true then
 (if t156 = true then g16 (s, (x0.Members.getD r_6.1.toNat dSMember).Type_, SValue.eta (v.Items.getD (0 : Int).toNat dSValue), plain) else some false) >>= fun r_9 =>
 some (bif t156 then r_9 else false)
 else none
 else none
 else
 some (bif x0.Open then (!plain) else false) >>= fun t177 =>
 (if t177 = true then g13 (v.ID, r_6.2) else some false) >>= fun r_10 =>
 some (bif bif bif t177 then r_10 else false then decide ((v.Items.length : Int) = 0) else false then decide ((v.Rest.length : Int) = 1) else false) >>= fun t195 =>
 if (inR 0 v.Rest.length || (!t195)) = true then
 some (bif t195 then decide ((v.Rest.getD (0 : Int).toNat dSRaw).ID = v.ID) else false)
 else none
 else
 if decide (x0.Kind = 7) = true then
 some (decide ((v.Items.length : Int) ≤ x0.Max)) >>= fun t213 =>
 (if t213 = true then g3r (s, x0.Elem, v.Items, plain) else some false) >>= fun r_11 =>
 some (bif t213 then r_11 else false)
 else
 if decide (x0.Kind = 8) = true then
 some (bif decide (x0.Max < (v.Keys.length : Int)) then true else (!(decide ((v.Items.length : Int) = (v.Keys.length : Int))))) >>= fun t239 =>
 (if (!t239) = true then g3r (s, x0.Key, v.Keys, plain) else some false) >>= fun r_12 =>
 some (bif t239 then true else (!r_12)) >>= fun t249 =>
 (if (!t249) = true then g3r (s, x0.Elem, v.Items, plain) else some false) >>= fun r_13 =>
 if (bif t249 then true else (!r_13)) = true then
 some false
 else
 gt (1, SValue.eta v) >>= fun o_3 =>
 match o_3 with
 | .inl o_4 =>
 some o_4
 | .inr o_5 =>
 some true
 else
 some (decide ((v.Items.length : Int) ≤ 1)) >>= fun t283 =>
 (if t283 = true then g3r (s, x0.Elem, v.Items, plain) else some false) >>= fun r_14 =>
 some (bif t283 then r_14 else false)
 else none
  partial_fixpoint
def g1e (x_ : Int × List SValue × Bool × Int × List SType) : Option ((Bool) ⊕ (Unit)) :=
 match x_ with
 | (t_1, l_1, plain_1, i, b) =>
 if decide (i < (l_1.length : Int)) = true then
 if inR i l_1.length = true then
 g16 ((⟨b⟩ : SSchema), t_1, SValue.eta (l_1.getD i.toNat dSValue), plain_1) >>= fun r =>
 if (!r) = true then
 some (.inl false)
 else
 g1e (t_1, l_1, plain_1, addI .i64 i 1, b)
 else none
 else
 some (.inr ())
  partial_fixpoint
def g10 (x_ : Bool × Int × List SType × SValue × Int × List UInt8 × Int × Int × Int × List SSymbol × List SMember × Int × Int × Bool) : Option ((Bool) ⊕ (Unit)) :=
 match x_ with
 | (plain_1, i, b, b_1, b_2, b_3, b_4, b_5, b_6, b_7, b_8, b_9, b_10, b_11) =>
 if decide (i < (b_1.Items.length : Int)) = true then
 if inR i b_8.length = true then
 if inR i b_1.Items.length = true then
 g16 ((⟨b⟩ : SSchema), (b_8.getD i.toNat dSMember).Type_, SValue.eta (b_1.Items.getD i.toNat dSValue), plain_1) >>= fun r_15 =>
 if (!r_15) = true then
 some (.inl false)
 else
 g10 (plain_1, addI .i64 i 1, b, SValue.eta b_1, b_2, b_3, b_4, b_5, b_6, b_7, b_8, b_9, b_10, b_11)
 else none
 else none
 else
 some (.inr ())
  partial_fixpoint
end
theorem g160 : g16h prog 140 = true := by kernel_rfl
theorem g135 : f140.body.bind (Shv.resolve prog f140.ntmps) = some (g16e prog f140) := by kernel_rfl
theorem g104 : g16f prog f140.results.toList = some [.tmp 8] := by kernel_rfl
def gmr (F : Hs Un.D [.nm 0, .int .i64, .slice (.nm 4), .bool] → Option (Hs Un.D [.bool])) : FSpec Un := ⟨140, [.row 0, .c (.hole (.int .i64)), .c (.hole (.slice (.nm 4))), .c (.hole .bool)], [], [.nm 0, .int .i64, .slice (.nm 4), .bool], .c (.hole .bool), [], [.bool], F⟩
def ggv : FSpec Un := gmr g3r
def gio : Shape := ⟨[(1, .c (.hole (.int .i64))), (2, .c (.hole (.slice (.nm 4)))), (3, .c (.hole .bool)), (4, .c (.ptr 0 0)), (9, .c (.hole (.int .i64)))], [.box [.hole (.slice (.nm 1))]]⟩
def gbw : List Ty := [.int .i64, .slice (.nm 4), .bool, .int .i64, .slice (.nm 1)]
def ga8 : List OSpec := [⟨.ret, ⟨[(8, .c (.hole .bool))], []⟩, [], [.bool]⟩, ⟨.exit 0, ⟨[], []⟩, [], []⟩]
def gji (F : Hs Un.D gbw → Option (OSum Un ga8)) : LSpec Un := ⟨gio, [], gbw, ga8, F⟩
def gro : LSpec Un := gji g1e
def g8n (F : Hs Un.D [.nm 0, .int .i64, .nm 4, .bool] → Option (Hs Un.D [.bool])) : FSpec Un := ⟨107, [.row 0, .c (.hole (.int .i64)), .row 4, .c (.hole .bool)], [], [.nm 0, .int .i64, .nm 4, .bool], .c (.hole .bool), [], [.bool], F⟩
def g8o : FSpec Un := g8n g16
def gip : Shape := ⟨[(3, .c (.hole .bool)), (4, .c (.ptr 0 0)), (6, .c (.ptr 1 0)), (9, .c (.ptr 2 0)), (12, .c (.hole (.int .i64)))], [.box [.hole (.slice (.nm 1))], .brow 4, .box [.hole (.int .i64), .hole .str, .hole (.int .i64), .hole (.int .i64), .hole (.int .i64), .hole (.slice (.nm 2)), .hole (.slice (.nm 3)), .hole (.int .i64), .hole (.int .i64), .hole .bool]]⟩
def gbx : List Ty := [.bool, .int .i64, .slice (.nm 1), .nm 4, .int .i64, .str, .int .i64, .int .i64, .int .i64, .slice (.nm 2), .slice (.nm 3), .int .i64, .int .i64, .bool]
def ga9 : List OSpec := [⟨.ret, ⟨[(8, .c (.hole .bool))], []⟩, [], [.bool]⟩, ⟨.exit 1, ⟨[], []⟩, [], []⟩]
def gjj (F : Hs Un.D gbx → Option (OSum Un ga9)) : LSpec Un := ⟨gip, [], gbx, ga9, F⟩
def grq : LSpec Un := gjj g10
theorem gsv : (FSnd prog ggv) ∧ (LSnd prog f140.ntmps 0 (g16g (g16e prog f140) 0) gro) ∧ (FSnd prog g8o) ∧ (LSnd prog f107.ntmps 0 (g16g (g16e prog f107) 0) grq) := g3r.mutual_partial_correctness (fun h r => FAt prog ggv h r) (fun h o => LAt (U := Un) prog f140.ntmps 0 (g16g (g16e prog f140) 0) gio gbw ga8 h o) (fun h r => FAt prog g8o h r) (fun h o => LAt (U := Un) prog f107.ntmps 0 (g16g (g16e prog f107) 0) gip gbx ga9 h o)
 (fun F2 HF2 h o ho => FAt.of_body (s := ggv) (fo := foS []) (lo := loL [(0, gji F2)]) func140 g135 g104 (by kernel_rfl) FoSnd.nil (LoOk.snd (LoOk.cons HF2 LoOk.nil)) (Eq.trans (by kernel_rfl) ho))
 (fun F2 F3 HF2 HF3 h o ho => LAt.of_round (fo := foS [g8n F3]) (lo := loL []) (own := []) (F' := F2) (FoSnd.cons gti HF3 FoSnd.nil) (LoOk.snd LoOk.nil) HF2 (Eq.trans (by kernel_rfl) ho))
 (fun F1 F3 F4 HF1 HF3 HF4 h o ho => FAt.of_body (s := (g8n F3)) (fo := foS [gfs, gct, gcu, gfv, g40, g8n F3, gmr F1]) (lo := loL [(0, gjj F4), (1, gjh)]) func107 g134 g103 (by kernel_rfl) (FoSnd.cons g15u gri (FoSnd.cons F86_b gpv (FoSnd.cons gy9 gli (FoSnd.cons g15x grl (FoSnd.cons F87_b g5b (FoSnd.cons gti HF3 (FoSnd.cons g160 HF1 FoSnd.nil))))))) (LoOk.snd (LoOk.cons HF4 (LoOk.cons gpw LoOk.nil))) (Eq.trans (by kernel_rfl) ho))
 (fun F3 F4 HF3 HF4 h o ho => LAt.of_round (fo := foS [g8n F3]) (lo := loL []) (own := []) (F' := F4) (FoSnd.cons gti HF3 FoSnd.nil) (LoOk.snd LoOk.nil) HF4 (Eq.trans (by kernel_rfl) ho))
theorem gkb : FSnd prog g8o := gsv.2.2.1
def gbc (x_ : SSchema × Int × SValue) : Option (Bool) :=
 match x_ with
 | (s, t, v) =>
 g16 (s, t, SValue.eta v, true) >>= fun r =>
 some r
theorem F64_b : g16h prog 64 = true := by kernel_rfl
theorem g161 : f64.body.bind (Shv.resolve prog f64.ntmps) = some (g16e prog f64) := by kernel_rfl
theorem g136 : g16f prog f64.results.toList = some [.tmp 6] := by kernel_rfl
def gsw (F : Hs Un.D [.nm 0, .int .i64, .nm 4] → Option (Hs Un.D [.bool])) : FSpec Un := ⟨64, [.row 0, .c (.hole (.int .i64)), .row 4], [], [.nm 0, .int .i64, .nm 4], .c (.hole .bool), [], [.bool], F⟩
def gdw : FSpec Un := gsw gbc
theorem gqx : FSnd prog gdw := FSnd.of fun h r hr => FAt.of_body (s := gdw) (fo := foS [g8o]) (lo := loL []) func64 g161 g136 (by kernel_rfl) (FoSnd.cons gti gkb FoSnd.nil) (LoOk.snd LoOk.nil) (Eq.trans (by kernel_rfl) hr)
def g1d (x_ : Int × List SMember × Int × List SType) : Option ((Int × Int × Int) ⊕ (Int × List SType)) :=
 match x_ with
 | (t_2, l, i, b_2) =>
 if decide (i < (l.length : Int)) = true then
 if inR i l.length = true then
 some (l.getD i.toNat dSMember) >>= fun x0_1 =>
 if (inR i l.length || (!x0_1.HasDefault)) = true then
 if (inR i l.length || (!x0_1.HasDefault)) = true then
 (if x0_1.HasDefault = true then gbc ((⟨b_2⟩ : SSchema), (l.getD i.toNat dSMember).Type_, SValue.eta (l.getD i.toNat dSMember).Default) else some false) >>= fun r_1 =>
 if (bif x0_1.HasDefault then (!r_1) else false) = true then
 if inR i l.length = true then
 some (.inl (t_2, (l.getD i.toNat dSMember).ID, 1))
 else none
 else
 g1d (t_2, l, addI .i64 i 1, b_2)
 else none
 else none
 else none
 else
 some (.inr (t_2, b_2))
  partial_fixpoint
theorem F32_b : g16h prog 32 = true := by kernel_rfl
theorem g162 : f32.body.bind (Shv.resolve prog f32.ntmps) = some (g16e prog f32) := by kernel_rfl
theorem g137 : g16f prog f32.results.toList = some [.tmp 2, .tmp 3, .tmp 4] := by kernel_rfl
def gby : Shape := ⟨[(1, .c (.ptr 0 0)), (6, .c (.hole (.int .i64))), (7, .c (.hole (.slice (.nm 3)))), (8, .c (.hole (.int .i64)))], [.box [.hole (.slice (.nm 1))]]⟩
def g7c : List Ty := [.int .i64, .slice (.nm 3), .int .i64, .slice (.nm 1)]
def g6h : List OSpec := [⟨.ret, ⟨[(2, .c (.hole (.int .i64))), (3, .c (.hole (.int .i64))), (4, .c (.hole (.int .i64)))], []⟩, [], [.int .i64, .int .i64, .int .i64]⟩, ⟨.exit 2, ⟨[(1, .c (.ptr 0 0)), (6, .c (.hole (.int .i64)))], [.box [.hole (.slice (.nm 1))]]⟩, [], [.int .i64, .slice (.nm 1)]⟩]
def glj (F : Hs Un.D g7c → Option (OSum Un g6h)) : LSpec Un := ⟨gby, [], g7c, g6h, F⟩
def gcb : LSpec Un := glj g1d
theorem gk5 : LSnd prog f32.ntmps 0 (g16g (g16g (g16e prog f32) 0) 0) gcb := fun h o ho => g1d.partial_correctness (fun h o => LAt (U := Un) prog f32.ntmps 0 (g16g (g16g (g16e prog f32) 0) 0) gby g7c g6h h o) (fun F1 HF1 h o ho => LAt.of_round (fo := foS [gdw]) (lo := loL []) (own := []) (F' := F1) (FoSnd.cons F64_b gqx FoSnd.nil) (LoOk.snd LoOk.nil) HF1 (Eq.trans (by kernel_rfl) ho)) h o ho
def g1n (x_ : Int × List SType) : Option ((Int × Int × Int) ⊕ (Unit)) :=
 match x_ with
 | (t, b) =>
 if decide (t < (b.length : Int)) = true then
 if inR t b.length = true then
 g1d (t, (b.getD t.toNat dSType).Members, 0, b) >>= fun o_3 =>
 match o_3 with
 | .inl o_4 =>
 some (.inl (o_4.1, o_4.2.1, o_4.2.2))
 | .inr o_5 =>
 g1n (addI .i64 o_5.1 1, o_5.2)
 else none
 else
 some (.inr ())
  partial_fixpoint
def gdi : Shape := ⟨[(1, .c (.ptr 0 0)), (6, .c (.hole (.int .i64)))], [.box [.hole (.slice (.nm 1))]]⟩
def g8j : List Ty := [.int .i64, .slice (.nm 1)]
def g7d : List OSpec := [⟨.ret, ⟨[(2, .c (.hole (.int .i64))), (3, .c (.hole (.int .i64))), (4, .c (.hole (.int .i64)))], []⟩, [], [.int .i64, .int .i64, .int .i64]⟩, ⟨.exit 0, ⟨[], []⟩, [], []⟩]
def gne (F : Hs Un.D g8j → Option (OSum Un g7d)) : LSpec Un := ⟨gdi, [], g8j, g7d, F⟩
def gem : LSpec Un := gne g1n
theorem glk : LSnd prog f32.ntmps 0 (g16g (g16e prog f32) 0) gem := fun h o ho => g1n.partial_correctness (fun h o => LAt (U := Un) prog f32.ntmps 0 (g16g (g16e prog f32) 0) gdi g8j g7d h o) (fun F1 HF1 h o ho => LAt.of_round (fo := foS []) (lo := loL [(0, gcb)]) (own := []) (F' := F1) FoSnd.nil (LoOk.snd (LoOk.cons gk5 LoOk.nil)) HF1 (Eq.trans (by kernel_rfl) ho)) h o ho
def g95 (s : SSchema) : Option (Int × Int × Int) :=
 g4x s >>= fun r =>
 if (!(decide (r = 0))) = true then
 some (0, 0, r)
 else
 g1n (0, s.Types) >>= fun o =>
 match o with
 | .inl o_1 =>
 some (o_1.1, o_1.2.1, o_1.2.2)
 | .inr o_2 =>
 some (0, 0, 0)
def gpx (F : Hs Un.D [.nm 0] → Option (Hs Un.D [.int .i64, .int .i64, .int .i64])) : FSpec Un := ⟨32, [.row 0], [], [.nm 0], .tup [.c (.hole (.int .i64)), .c (.hole (.int .i64)), .c (.hole (.int .i64))], [], [.int .i64, .int .i64, .int .i64], F⟩
def gb5 : FSpec Un := gpx g95
theorem go7 : FSnd prog gb5 := FSnd.of fun h r hr => FAt.of_body (s := gb5) (fo := foS [g70]) (lo := loL [(0, gem)]) func32 g162 g137 (by kernel_rfl) (FoSnd.cons F33_b gbt FoSnd.nil) (LoOk.snd (LoOk.cons glk LoOk.nil)) (Eq.trans (by kernel_rfl) hr)
def gcv (x_ : SSchema × Int × SValue) : Option (Bool) :=
 match x_ with
 | (s, t, v) =>
 g16 (s, t, SValue.eta v, false) >>= fun r =>
 some r
theorem g163 : g16h prog 102 = true := by kernel_rfl
theorem g138 : f102.body.bind (Shv.resolve prog f102.ntmps) = some (g16e prog f102) := by kernel_rfl
theorem g105 : g16f prog f102.results.toList = some [.tmp 6] := by kernel_rfl
def gtj (F : Hs Un.D [.nm 0, .int .i64, .nm 4] → Option (Hs Un.D [.bool])) : FSpec Un := ⟨102, [.row 0, .c (.hole (.int .i64)), .row 4], [], [.nm 0, .int .i64, .nm 4], .c (.hole .bool), [], [.bool], F⟩
def gfw : FSpec Un := gtj gcv
theorem grr : FSnd prog gfw := FSnd.of fun h r hr => FAt.of_body (s := gfw) (fo := foS [g8o]) (lo := loL []) func102 g138 g105 (by kernel_rfl) (FoSnd.cons gti gkb FoSnd.nil) (LoOk.snd LoOk.nil) (Eq.trans (by kernel_rfl) hr)
def g4y (x_ : SSchema × Int × SValue) : Option (Int) :=
 match x_ with
 | (s, t, v) =>
 g4x s >>= fun r =>
 if (!(decide (r = 0))) = true then
 some r
 else
 if (bif decide (t < 0) then true else decide ((s.Types.length : Int) ≤ t)) = true then
 some 4
 else
 gcv (s, t, SValue.eta v) >>= fun r_1 =>
 if (!r_1) = true then
 some 1
 else
 some 0
theorem F59_b : g16h prog 59 = true := by kernel_rfl
theorem g164 : f59.body.bind (Shv.resolve prog f59.ntmps) = some (g16e prog f59) := by kernel_rfl
theorem g139 : g16f prog f59.results.toList = some [.tmp 6] := by kernel_rfl
def gsx (F : Hs Un.D [.nm 0, .int .i64, .nm 4] → Option (Hs Un.D [.int .i64])) : FSpec Un := ⟨59, [.row 0, .c (.hole (.int .i64)), .row 4], [], [.nm 0, .int .i64, .nm 4], .c (.hole (.int .i64)), [], [.int .i64], F⟩
def g9z : FSpec Un := gsx g4y
theorem giq : FSnd prog g9z := FSnd.of fun h r hr => FAt.of_body (s := g9z) (fo := foS [g70, gfw]) (lo := loL []) func59 g164 g139 (by kernel_rfl) (FoSnd.cons F33_b gbt (FoSnd.cons g163 grr FoSnd.nil)) (LoOk.snd LoOk.nil) (Eq.trans (by kernel_rfl) hr)
def g5r (x_ : Int × List UInt8) : Option (List UInt8) :=
 match x_ with
 | (n_1, out_1) =>
 if decide (0 < n_1) = true then
 some (strOf [wrp .u8 (remI n_1 256)]) >>= fun t10 =>
 if decide (t10.length + out_1.length ≤ g16z) = true then
 g5r (quoI .u64 n_1 256, t10 ++ out_1)
 else none
 else
 some out_1
  partial_fixpoint
theorem g165 : g16h prog 103 = true := by kernel_rfl
theorem g13a : f103.body.bind (Shv.resolve prog f103.ntmps) = some (g16e prog f103) := by kernel_rfl
theorem g106 : g16f prog f103.results.toList = some [.tmp 2] := by kernel_rfl
def gir : Shape := ⟨[(0, .c (.hole (.int .u64))), (3, .c (.hole .str))], []⟩
def gbz : List Ty := [.int .u64, .str]
def gaa : List OSpec := [⟨.exit 0, ⟨[(3, .c (.hole .str))], []⟩, [], [.str]⟩]
def grs (F : Hs Un.D gbz → Option (OSum Un gaa)) : LSpec Un := ⟨gir, [], gbz, gaa, F⟩
def gjk : LSpec Un := grs g5r
theorem gpy : LSnd prog f103.ntmps 0 (g16g (g16e prog f103) 0) gjk := fun h o ho => g5r.partial_correctness (fun h o => LAt (U := Un) prog f103.ntmps 0 (g16g (g16e prog f103) 0) gir gbz gaa h o) (fun F1 HF1 h o ho => LAt.of_round (fo := foS []) (lo := loL []) (own := []) (F' := F1) FoSnd.nil (LoOk.snd LoOk.nil) HF1 (Eq.trans (by kernel_rfl) ho)) h o ho
end
section
open Go Go.Proofs.YthnmepafpikaiaaGreat.Shv
open Tryz
set_option maxRecDepth 100000
def gaj (n : Int) : Option (List UInt8) :=
 g5r (n, []) >>= fun o =>
 some o
def guj (F : Hs Un.D [.int .u64] → Option (Hs Un.D [.str])) : FSpec Un := ⟨103, [.c (.hole (.int .u64))], [], [.int .u64], .c (.hole .str), [], [.str], F⟩
def ggw : FSpec Un := guj gaj
theorem gsy : FSnd prog ggw := FSnd.of fun h r hr => FAt.of_body (s := ggw) (fo := foS []) (lo := loL [(0, gjk)]) func103 g13a g106 (by kernel_rfl) FoSnd.nil (LoOk.snd (LoOk.cons gpy LoOk.nil)) (Eq.trans (by kernel_rfl) hr)
def g5s (x_ : Int × List Int) : Option (Int × List Int) :=
 match x_ with
 | (n_2, b_1) =>
 if decide (128 ≤ n_2) = true then
 some [wrp .u8 (addI .u64 (remI n_2 128) 128)] >>= fun t11 =>
 if room 1 (b_1 ++ t11).length = true then
 g5s (quoI .u64 n_2 128, b_1 ++ t11)
 else none
 else
 some (n_2, b_1)
  partial_fixpoint
theorem gxp : g16h prog 105 = true := by kernel_rfl
theorem g13b : f105.body.bind (Shv.resolve prog f105.ntmps) = some (g16e prog f105) := by kernel_rfl
theorem g107 : g16f prog f105.results.toList = some [.tmp 2] := by kernel_rfl
def gis : Shape := ⟨[(0, .c (.hole (.int .u64))), (3, .c (.arr 0))], [.arr (.int .u8)]⟩
def gc0 : List Ty := [.int .u64, .slice (.int .u8)]
def gab : List OSpec := [⟨.exit 0, ⟨[(0, .c (.hole (.int .u64))), (3, .c (.arr 0))], [.arr (.int .u8)]⟩, [], [.int .u64, .slice (.int .u8)]⟩]
def grt (F : Hs Un.D gc0 → Option (OSum Un gab)) : LSpec Un := ⟨gis, [(.slot 3, .int .u8)], gc0, gab, F⟩
def gjl : LSpec Un := grt g5s
theorem gpz : LSnd prog f105.ntmps 0 (g16g (g16e prog f105) 0) gjl := fun h o ho => g5s.partial_correctness (fun h o => LAt (U := Un) prog f105.ntmps 0 (g16g (g16e prog f105) 0) gis gc0 gab h o) (fun F1 HF1 h o ho => LAt.of_round (fo := foS []) (lo := loL []) (own := [(.slot 3, .int .u8)]) (F' := F1) FoSnd.nil (LoOk.snd LoOk.nil) HF1 (Eq.trans (by kernel_rfl) ho)) h o ho
def g4z (n : Int) : Option (List UInt8) :=
 g5s (n, []) >>= fun o =>
 some [wrp .u8 o.1] >>= fun t18 =>
 if room 1 (o.2 ++ t18).length = true then
 some (strOf (o.2 ++ t18))
 else none
def guk (F : Hs Un.D [.int .u64] → Option (Hs Un.D [.str])) : FSpec Un := ⟨105, [.c (.hole (.int .u64))], [], [.int .u64], .c (.hole .str), [], [.str], F⟩
def g8p : FSpec Un := guk g4z
theorem gdx : FSnd prog g8p := FSnd.of fun h r hr => FAt.of_body (s := g8p) (fo := foS []) (lo := loL [(0, gjl)]) func105 g13b g107 (by kernel_rfl) FoSnd.nil (LoOk.snd (LoOk.cons gpz LoOk.nil)) (Eq.trans (by kernel_rfl) hr)
def g4o (p : List UInt8) : Option (List UInt8) :=
 g4z (wrp .u64 (p.length : Int)) >>= fun r =>
 if decide (r.length + p.length ≤ g16z) = true then
 some (r ++ p)
 else none
theorem gxq : g16h prog 106 = true := by kernel_rfl
theorem g13c : f106.body.bind (Shv.resolve prog f106.ntmps) = some (g16e prog f106) := by kernel_rfl
theorem g108 : g16f prog f106.results.toList = some [.tmp 2] := by kernel_rfl
def gtk (F : Hs Un.D [.str] → Option (Hs Un.D [.str])) : FSpec Un := ⟨106, [.c (.hole .str)], [], [.str], .c (.hole .str), [], [.str], F⟩
def g80 : FSpec Un := gtk g4o
theorem gcw : FSnd prog g80 := FSnd.of fun h r hr => FAt.of_body (s := g80) (fo := foS [g8p]) (lo := loL []) func106 g13c g108 (by kernel_rfl) (FoSnd.cons gxp gdx FoSnd.nil) (LoOk.snd LoOk.nil) (Eq.trans (by kernel_rfl) hr)
def g8q (x_ : Int × Bool × List UInt8) : Option (List UInt8) :=
 match x_ with
 | (id, critical, p) =>
 some (wrp .u64 (mulI .i64 2 id)) >>= fun t10 =>
 if critical = true then
 g4z (addI .u64 t10 1) >>= fun r =>
 g4o p >>= fun r_1 =>
 if decide (r.length + r_1.length ≤ g16z) = true then
 some (r ++ r_1)
 else none
 else
 g4z t10 >>= fun r_2 =>
 g4o p >>= fun r_3 =>
 if decide (r_2.length + r_3.length ≤ g16z) = true then
 some (r_2 ++ r_3)
 else none
theorem F69_b : g16h prog 69 = true := by kernel_rfl
theorem g166 : f69.body.bind (Shv.resolve prog f69.ntmps) = some (g16e prog f69) := by kernel_rfl
theorem g13d : g16f prog f69.results.toList = some [.tmp 6] := by kernel_rfl
def gsz (F : Hs Un.D [.int .i64, .bool, .str] → Option (Hs Un.D [.str])) : FSpec Un := ⟨69, [.c (.hole (.int .i64)), .c (.hole .bool), .c (.hole .str)], [], [.int .i64, .bool, .str], .c (.hole .str), [], [.str], F⟩
def ga0 : FSpec Un := gsz g8q
theorem git : FSnd prog ga0 := FSnd.of fun h r hr => FAt.of_body (s := ga0) (fo := foS [g8p, g80]) (lo := loL []) func69 g166 g13d (by kernel_rfl) (FoSnd.cons gxp gdx (FoSnd.cons gxq gcw FoSnd.nil)) (LoOk.snd LoOk.nil) (Eq.trans (by kernel_rfl) hr)
def g15 (x_ : List UInt8 × Int × Int × List SType × SValue × SType) : Option (List UInt8 × Int × List SType × SValue × SType) :=
 match x_ with
 | (out_9, id_4, k, b_18, b_19, b_20) =>
 if decide (k < (b_19.Rest.length : Int)) = true then
 if inR k b_19.Rest.length = true then
 if decide ((b_19.Rest.getD k.toNat dSRaw).ID = id_4) = true then
 if inR k b_19.Rest.length = true then
 g8q (id_4, false, (b_19.Rest.getD k.toNat dSRaw).Data) >>= fun r_22 =>
 if decide (out_9.length + r_22.length ≤ g16z) = true then
 g15 (out_9 ++ r_22, id_4, addI .i64 k 1, b_18, SValue.eta b_19, b_20)
 else none
 else none
 else
 g15 (out_9, id_4, addI .i64 k 1, b_18, SValue.eta b_19, b_20)
 else none
 else
 some (out_9, id_4, b_18, SValue.eta b_19, b_20)
  partial_fixpoint
theorem F60_b : g16h prog 60 = true := by kernel_rfl
theorem g167 : f60.body.bind (Shv.resolve prog f60.ntmps) = some (g16e prog f60) := by kernel_rfl
theorem g13e : g16f prog f60.results.toList = some [.tmp 6] := by kernel_rfl
def gcc : Shape := ⟨[(3, .c (.ptr 0 0)), (5, .c (.ptr 1 0)), (7, .c (.ptr 2 0)), (14, .c (.hole .str)), (15, .c (.hole (.int .i64))), (19, .c (.hole (.int .i64)))], [.box [.hole (.slice (.nm 1))], .brow 4, .brow 1]⟩
def g81 : List Ty := [.str, .int .i64, .int .i64, .slice (.nm 1), .nm 4, .nm 1]
def g6u : List OSpec := [⟨.exit 7, ⟨[(3, .c (.ptr 0 0)), (5, .c (.ptr 1 0)), (7, .c (.ptr 2 0)), (14, .c (.hole .str)), (15, .c (.hole (.int .i64)))], [.box [.hole (.slice (.nm 1))], .brow 4, .brow 1]⟩, [], [.str, .int .i64, .slice (.nm 1), .nm 4, .nm 1]⟩]
def gm8 (F : Hs Un.D g81 → Option (OSum Un g6u)) : LSpec Un := ⟨gcc, [], g81, g6u, F⟩
def gdj : LSpec Un := gm8 g15
theorem gkt : LSnd prog f60.ntmps 0 (g16g (g16g (g16e prog f60) 2) 0) gdj := fun h o ho => g15.partial_correctness (fun h o => LAt (U := Un) prog f60.ntmps 0 (g16g (g16g (g16e prog f60) 2) 0) gcc g81 g6u h o) (fun F1 HF1 h o ho => LAt.of_round (fo := foS [ga0]) (lo := loL []) (own := []) (F' := F1) (FoSnd.cons F69_b git FoSnd.nil) (LoOk.snd LoOk.nil) HF1 (Eq.trans (by kernel_rfl) ho)) h o ho
mutual
def g17 (x_ : SSchema × Int × SValue) : Option (List UInt8) :=
 match x_ with
 | (s, t, v) =>
 if inR t s.Types.length = true then
 some (s.Types.getD t.toNat dSType) >>= fun x0 =>
 if decide (x0.Kind = 1) = true then
 if v.Bool_ = true then
 some [1]
 else
 some []
 else
 if decide (x0.Kind = 2) = true then
 g5q v.Int_ >>= fun r =>
 gaj r >>= fun r_1 =>
 some r_1
 else
 if decide (x0.Kind = 3) = true then
 some v.Str
 else
 if decide (x0.Kind = 4) = true then
 gaj (wrp .u64 v.ID) >>= fun r_2 =>
 some r_2
 else
 if decide (x0.Kind = 9) = true then
 if decide ((v.Items.length : Int) = 0) = true then
 some []
 else
 if inR 0 v.Items.length = true then
 g17 (s, x0.Elem, SValue.eta (v.Items.getD (0 : Int).toNat dSValue)) >>= fun r_3 =>
 if decide ([1].length + r_3.length ≤ g16z) = true then
 some ([1] ++ r_3)
 else none
 else none
 else
 if decide (x0.Kind = 6) = true then
 if decide (0 < (v.Rest.length : Int)) = true then
 g4z (wrp .u64 v.ID) >>= fun r_4 =>
 if inR 0 v.Rest.length = true then
 some (v.Rest.getD (0 : Int).toNat dSRaw) >>= fun x0_2 =>
 if decide (r_4.length + x0_2.Data.length ≤ g16z) = true then
 some (r_4 ++ x0_2.Data)
 else none
 else none
 else
 g1q (x0, v.ID) >>= fun r_5 =>
 g4z (wrp .u64 v.ID) >>= fun r_8 =>
 if inR r_5.1 x0.Members.length = true then
 if inR 0 v.Items.length = true then
 g17 (s, (x0.Members.getD r_5.1.toNat dSMember).Type_, SValue.eta (v.Items.getD (0 : Int).toNat dSValue)) >>= fun r_9 =>
 if decide (r_8.length + r_9.length ≤ g16z) = true then
 some (r_8 ++ r_9)
 else none
 else none
 else none
 else
 if decide (x0.Kind = 7) = true then
 g3a ([], 0, s.Types, SValue.eta v, x0) >>= fun o =>
 some o
 else
 if decide (x0.Kind = 8) = true then
 g3b ([], 0, s.Types, SValue.eta v, x0) >>= fun o_1 =>
 some o_1
 else
 g29 ([], 1, s.Types, SValue.eta v, x0) >>= fun o_2 =>
 some o_2
 else none
  partial_fixpoint
def g3a (x_ : List UInt8 × Int × List SType × SValue × SType) : Option (List UInt8) :=
 match x_ with
 | (out_3, i, b, b_1, b_2) =>
 if decide (i < (b_1.Items.length : Int)) = true then
 if inR i b_1.Items.length = true then
 g17 ((⟨b⟩ : SSchema), b_2.Elem, SValue.eta (b_1.Items.getD i.toNat dSValue)) >>= fun r_10 =>
 g4o r_10 >>= fun r_11 =>
 if decide (out_3.length + r_11.length ≤ g16z) = true then
 g3a (out_3 ++ r_11, addI .i64 i 1, b, SValue.eta b_1, b_2)
 else none
 else none
 else
 some out_3
  partial_fixpoint
def g3b (x_ : List UInt8 × Int × List SType × SValue × SType) : Option (List UInt8) :=
 match x_ with
 | (out_4, i_1, b_3, b_4, b_5) =>
 if decide (i_1 < (b_4.Items.length : Int)) = true then
 if inR i_1 b_4.Keys.length = true then
 g17 ((⟨b_3⟩ : SSchema), b_5.Key, SValue.eta (b_4.Keys.getD i_1.toNat dSValue)) >>= fun r_12 =>
 g4o r_12 >>= fun r_13 =>
 if decide (out_4.length + r_13.length ≤ g16z) = true then
 some (out_4 ++ r_13) >>= fun t144 =>
 if inR i_1 b_4.Items.length = true then
 g17 ((⟨b_3⟩ : SSchema), b_5.Elem, SValue.eta (b_4.Items.getD i_1.toNat dSValue)) >>= fun r_14 =>
 g4o r_14 >>= fun r_15 =>
 if decide (t144.length + r_15.length ≤ g16z) = true then
 g3b (t144 ++ r_15, addI .i64 i_1 1, b_3, SValue.eta b_4, b_5)
 else none
 else none
 else none
 else none
 else
 some out_4
  partial_fixpoint
def g29 (x_ : List UInt8 × Int × List SType × SValue × SType) : Option (List UInt8) :=
 match x_ with
 | (out_5, id, b_6, b_7, b_8) =>
 if decide (id ≤ 1000) = true then
 g1q (b_8, id) >>= fun r_16 =>
 if r_16.2 = true then
 if inR r_16.1 b_8.Members.length = true then
 some (b_8.Members.getD r_16.1.toNat dSMember) >>= fun x0_8 =>
 some (!x0_8.HasDefault) >>= fun t175 =>
 if (inR r_16.1 b_7.Items.length || (!(!t175))) = true then
 (if (!t175) = true then g11 (SValue.eta (b_7.Items.getD r_16.1.toNat dSValue), SValue.eta x0_8.Default) else some false) >>= fun r_19 =>
 if (bif t175 then true else (!r_19)) = true then
 if inR r_16.1 b_7.Items.length = true then
 g17 ((⟨b_6⟩ : SSchema), x0_8.Type_, SValue.eta (b_7.Items.getD r_16.1.toNat dSValue)) >>= fun r_20 =>
 g8q (id, x0_8.Critical, r_20) >>= fun r_21 =>
 if decide (out_5.length + r_21.length ≤ g16z) = true then
 g15 (out_5 ++ r_21, id, 0, b_6, SValue.eta b_7, b_8) >>= fun o_3 =>
 g29 (o_3.1, addI .i64 o_3.2.1 1, o_3.2.2.1, SValue.eta o_3.2.2.2.1, o_3.2.2.2.2)
 else none
 else none
 else
 g15 (out_5, id, 0, b_6, SValue.eta b_7, b_8) >>= fun o_4 =>
 g29 (o_4.1, addI .i64 o_4.2.1 1, o_4.2.2.1, SValue.eta o_4.2.2.2.1, o_4.2.2.2.2)
 else none
 else none
 else
 g15 (out_5, id, 0, b_6, SValue.eta b_7, b_8) >>= fun o_5 =>
 g29 (o_5.1, addI .i64 o_5.2.1 1, o_5.2.2.1, SValue.eta o_5.2.2.2.1, o_5.2.2.2.2)
 else
 some out_5
  partial_fixpoint
end
def g4i (F : Hs Un.D [.nm 0, .int .i64, .nm 4] → Option (Hs Un.D [.str])) : FSpec Un := ⟨60, [.row 0, .c (.hole (.int .i64)), .row 4], [], [.nm 0, .int .i64, .nm 4], .c (.hole .str), [], [.str], F⟩
def g5t : FSpec Un := g4i g17
def gen : Shape := ⟨[(3, .c (.ptr 0 0)), (5, .c (.ptr 1 0)), (7, .c (.ptr 2 0)), (14, .c (.hole .str)), (15, .c (.hole (.int .i64)))], [.box [.hole (.slice (.nm 1))], .brow 4, .brow 1]⟩
def g96 : List Ty := [.str, .int .i64, .slice (.nm 1), .nm 4, .nm 1]
def g82 : List OSpec := [⟨.exit 5, ⟨[(14, .c (.hole .str))], []⟩, [], [.str]⟩]
def gfx (F : Hs Un.D g96 → Option (OSum Un g82)) : LSpec Un := ⟨gen, [], g96, g82, F⟩
def go8 : LSpec Un := gfx g29
def geo : Shape := ⟨[(3, .c (.ptr 0 0)), (5, .c (.ptr 1 0)), (7, .c (.ptr 2 0)), (12, .c (.hole .str)), (13, .c (.hole (.int .i64)))], [.box [.hole (.slice (.nm 1))], .brow 4, .brow 1]⟩
def g97 : List Ty := [.str, .int .i64, .slice (.nm 1), .nm 4, .nm 1]
def g83 : List OSpec := [⟨.exit 3, ⟨[(12, .c (.hole .str))], []⟩, [], [.str]⟩]
def gfy (F : Hs Un.D g97 → Option (OSum Un g83)) : LSpec Un := ⟨geo, [], g97, g83, F⟩
def go9 : LSpec Un := gfy g3b
def gep : Shape := ⟨[(3, .c (.ptr 0 0)), (5, .c (.ptr 1 0)), (7, .c (.ptr 2 0)), (10, .c (.hole .str)), (11, .c (.hole (.int .i64)))], [.box [.hole (.slice (.nm 1))], .brow 4, .brow 1]⟩
def g98 : List Ty := [.str, .int .i64, .slice (.nm 1), .nm 4, .nm 1]
def g84 : List OSpec := [⟨.exit 1, ⟨[(10, .c (.hole .str))], []⟩, [], [.str]⟩]
def gfz (F : Hs Un.D g98 → Option (OSum Un g84)) : LSpec Un := ⟨gep, [], g98, g84, F⟩
def goa : LSpec Un := gfz g3a
theorem gp1 : (FSnd prog g5t) ∧ (LSnd prog f60.ntmps 0 (g16g (g16e prog f60) 2) go8) ∧ (LSnd prog f60.ntmps 0 (g16g (g16e prog f60) 1) go9) ∧ (LSnd prog f60.ntmps 0 (g16g (g16e prog f60) 0) goa) := g17.mutual_partial_correctness (fun h r => FAt prog g5t h r) (fun h o => LAt (U := Un) prog f60.ntmps 0 (g16g (g16e prog f60) 2) gen g96 g82 h o) (fun h o => LAt (U := Un) prog f60.ntmps 0 (g16g (g16e prog f60) 1) geo g97 g83 h o) (fun h o => LAt (U := Un) prog f60.ntmps 0 (g16g (g16e prog f60) 0) gep g98 g84 h o)
 (fun F1 F2 F3 F4 HF1 HF2 HF3 HF4 h o ho => FAt.of_body (s := (g4i F1)) (fo := foS [g94, ggw, g4i F1, g8p, g40]) (lo := loL [(0, gfz F4), (1, gfy F3), (2, gfx F2)]) func60 g167 g13e (by kernel_rfl) (FoSnd.cons gya ghi (FoSnd.cons g165 gsy (FoSnd.cons F60_b HF1 (FoSnd.cons gxp gdx (FoSnd.cons F87_b g5b FoSnd.nil))))) (LoOk.snd (LoOk.cons HF4 (LoOk.cons HF3 (LoOk.cons HF2 LoOk.nil)))) (Eq.trans (by kernel_rfl) ho))
 (fun F1 F2 HF1 HF2 h o ho => LAt.of_round (fo := foS [g40, g2h, g4i F1, ga0]) (lo := loL [(0, gdj)]) (own := []) (F' := F2) (FoSnd.cons F87_b g5b (FoSnd.cons F58_b g5y (FoSnd.cons F60_b HF1 (FoSnd.cons F69_b git FoSnd.nil)))) (LoOk.snd (LoOk.cons gkt LoOk.nil)) HF2 (Eq.trans (by kernel_rfl) ho))
 (fun F1 F3 HF1 HF3 h o ho => LAt.of_round (fo := foS [g4i F1, g80]) (lo := loL []) (own := []) (F' := F3) (FoSnd.cons F60_b HF1 (FoSnd.cons gxq gcw FoSnd.nil)) (LoOk.snd LoOk.nil) HF3 (Eq.trans (by kernel_rfl) ho))
 (fun F1 F4 HF1 HF4 h o ho => LAt.of_round (fo := foS [g4i F1, g80]) (lo := loL []) (own := []) (F' := F4) (FoSnd.cons F60_b HF1 (FoSnd.cons gxq gcw FoSnd.nil)) (LoOk.snd LoOk.nil) HF4 (Eq.trans (by kernel_rfl) ho))
theorem ggm : FSnd prog g5t := gp1.1
mutual
def g2a (x_ : SSchema × Int × SValue) : Option (Int) :=
 match x_ with
 | (s, t, v) =>
 if inR t s.Types.length = true then
 gm (0, 0, s.Types, SValue.eta v, s.Types.getD t.toNat dSType) >>= fun o =>
 if decide (0 < (o.2.Keys.length : Int)) = true then
 some (addI .i64 1 (maxI o.1 1))
 else
 some (addI .i64 1 o.1)
 else none
  partial_fixpoint
def gm (x_ : Int × Int × List SType × SValue × SType) : Option (Int × SValue) :=
 match x_ with
 | (below_1, i, b_1, b_2, b_3) =>
 if decide (i < (b_2.Items.length : Int)) = true then
 if decide (b_3.Kind = 5) = true then
 if inR i b_3.Members.length = true then
 some (b_3.Members.getD i.toNat dSMember) >>= fun x0_1 =>
 if (inR i b_2.Items.length || (!x0_1.HasDefault)) = true then
 (if x0_1.HasDefault = true then g11 (SValue.eta (b_2.Items.getD i.toNat dSValue), SValue.eta x0_1.Default) else some false) >>= fun r =>
 if (bif x0_1.HasDefault then r else false) = true then
 gm (below_1, addI .i64 i 1, b_1, SValue.eta b_2, b_3)
 else
 if decide (b_3.Kind = 6) = true then
 g1q (b_3, b_2.ID) >>= fun r_1 =>
 if inR r_1.1 b_3.Members.length = true then
 if inR i b_2.Items.length = true then
 g2a ((⟨b_1⟩ : SSchema), (b_3.Members.getD r_1.1.toNat dSMember).Type_, SValue.eta (b_2.Items.getD i.toNat dSValue)) >>= fun r_4 =>
 gm (maxI below_1 r_4, addI .i64 i 1, b_1, SValue.eta b_2, b_3)
 else none
 else none
 else
 if inR i b_2.Items.length = true then
 g2a ((⟨b_1⟩ : SSchema), x0_1.Type_, SValue.eta (b_2.Items.getD i.toNat dSValue)) >>= fun r_5 =>
 gm (maxI below_1 r_5, addI .i64 i 1, b_1, SValue.eta b_2, b_3)
 else none
 else none
 else none
 else
 if decide (b_3.Kind = 6) = true then
 g1q (b_3, b_2.ID) >>= fun r_6 =>
 if inR r_6.1 b_3.Members.length = true then
 if inR i b_2.Items.length = true then
 g2a ((⟨b_1⟩ : SSchema), (b_3.Members.getD r_6.1.toNat dSMember).Type_, SValue.eta (b_2.Items.getD i.toNat dSValue)) >>= fun r_9 =>
 gm (maxI below_1 r_9, addI .i64 i 1, b_1, SValue.eta b_2, b_3)
 else none
 else none
 else
 if inR i b_2.Items.length = true then
 g2a ((⟨b_1⟩ : SSchema), b_3.Elem, SValue.eta (b_2.Items.getD i.toNat dSValue)) >>= fun r_10 =>
 gm (maxI below_1 r_10, addI .i64 i 1, b_1, SValue.eta b_2, b_3)
 else none
 else
 some (below_1, SValue.eta b_2)
  partial_fixpoint
end
theorem F61_b : g16h prog 61 = true := by kernel_rfl
theorem g168 : f61.body.bind (Shv.resolve prog f61.ntmps) = some (g16e prog f61) := by kernel_rfl
theorem g13f : g16f prog f61.results.toList = some [.tmp 6] := by kernel_rfl
def gjm (F : Hs Un.D [.nm 0, .int .i64, .nm 4] → Option (Hs Un.D [.int .i64])) : FSpec Un := ⟨61, [.row 0, .c (.hole (.int .i64)), .row 4], [], [.nm 0, .int .i64, .nm 4], .c (.hole (.int .i64)), [], [.int .i64], F⟩
def g6i : FSpec Un := gjm g2a
def gg0 : Shape := ⟨[(3, .c (.ptr 0 0)), (5, .c (.ptr 1 0)), (7, .c (.ptr 2 0)), (8, .c (.hole (.int .i64))), (9, .c (.hole (.int .i64)))], [.box [.hole (.slice (.nm 1))], .brow 4, .brow 1]⟩
def g9v : List Ty := [.int .i64, .int .i64, .slice (.nm 1), .nm 4, .nm 1]
def g8k : List OSpec := [⟨.exit 0, ⟨[(5, .c (.ptr 0 0)), (8, .c (.hole (.int .i64)))], [.brow 4]⟩, [], [.int .i64, .nm 4]⟩]
def ggn (F : Hs Un.D g9v → Option (OSum Un g8k)) : LSpec Un := ⟨gg0, [], g9v, g8k, F⟩
def gp2 : LSpec Un := ggn gm
theorem gq0 : (FSnd prog g6i) ∧ (LSnd prog f61.ntmps 0 (g16g (g16e prog f61) 0) gp2) := g2a.mutual_partial_correctness (fun h r => FAt prog g6i h r) (fun h o => LAt (U := Un) prog f61.ntmps 0 (g16g (g16e prog f61) 0) gg0 g9v g8k h o)
 (fun F2 HF2 h o ho => FAt.of_body (s := g6i) (fo := foS []) (lo := loL [(0, ggn F2)]) func61 g168 g13f (by kernel_rfl) FoSnd.nil (LoOk.snd (LoOk.cons HF2 LoOk.nil)) (Eq.trans (by kernel_rfl) ho))
 (fun F1 F2 HF1 HF2 h o ho => LAt.of_round (fo := foS [g2h, g40, gjm F1]) (lo := loL []) (own := []) (F' := F2) (FoSnd.cons F58_b g5y (FoSnd.cons F87_b g5b (FoSnd.cons F61_b HF1 FoSnd.nil))) (LoOk.snd LoOk.nil) HF2 (Eq.trans (by kernel_rfl) ho))
theorem gq1 : FSnd prog g6i := gq0.1
def g4p (x_ : SSchema × Int × SValue) : Option (List UInt8 × Int) :=
 match x_ with
 | (s, t, v) =>
 g4y (s, t, SValue.eta v) >>= fun r =>
 if (!(decide (r = 0))) = true then
 some ([], r)
 else
 g17 (s, t, SValue.eta v) >>= fun r_1 =>
 some (decide (4096 < (r_1.length : Int))) >>= fun t23 =>
 (if (!t23) = true then g2a (s, t, SValue.eta v) else some 0) >>= fun r_2 =>
 if (bif t23 then true else decide (200 < r_2)) = true then
 some ([], 3)
 else
 some (r_1, 0)
theorem F28_b : g16h prog 28 = true := by kernel_rfl
theorem g169 : f28.body.bind (Shv.resolve prog f28.ntmps) = some (g16e prog f28) := by kernel_rfl
theorem g13g : g16f prog f28.results.toList = some [.tmp 6, .tmp 7] := by kernel_rfl
def gru (F : Hs Un.D [.nm 0, .int .i64, .nm 4] → Option (Hs Un.D [.str, .int .i64])) : FSpec Un := ⟨28, [.row 0, .c (.hole (.int .i64)), .row 4], [], [.nm 0, .int .i64, .nm 4], .tup [.c (.hole .str), .c (.hole (.int .i64))], [], [.str, .int .i64], F⟩
def gcx : FSpec Un := gru g4p
theorem gq2 : FSnd prog gcx := FSnd.of fun h r hr => FAt.of_body (s := gcx) (fo := foS [g9z, g5t, g6i]) (lo := loL []) func28 g169 g13g (by kernel_rfl) (FoSnd.cons F59_b giq (FoSnd.cons F60_b ggm (FoSnd.cons F61_b gq1 FoSnd.nil))) (LoOk.snd LoOk.nil) (Eq.trans (by kernel_rfl) hr)
def gb6 (x_ : SSchema × Int × SValue) : Option (Int × Int) :=
 match x_ with
 | (s, t, v) =>
 g47 (s, t, SValue.eta v) >>= fun r =>
 if (!(decide (r = 0))) = true then
 some (0, r)
 else
 gv (t, SValue.eta v, 1, s.Types, 0) >>= fun r_1 =>
 some ((r_1.1.length : Int), 0)
theorem F29_b : g16h prog 29 = true := by kernel_rfl
theorem g16a : f29.body.bind (Shv.resolve prog f29.ntmps) = some (g16e prog f29) := by kernel_rfl
theorem g13h : g16f prog f29.results.toList = some [.tmp 6, .tmp 7] := by kernel_rfl
def gx8 (F : Hs Un.D [.nm 0, .int .i64, .nm 4] → Option (Hs Un.D [.int .i64, .int .i64])) : FSpec Un := ⟨29, [.row 0, .c (.hole (.int .i64)), .row 4], [], [.nm 0, .int .i64, .nm 4], .tup [.c (.hole (.int .i64)), .c (.hole (.int .i64))], [], [.int .i64, .int .i64], F⟩
def gm9 : FSpec Un := gx8 gb6
theorem gwc : FSnd prog gm9 := FSnd.of fun h r hr => FAt.of_body (s := gm9) (fo := foS [gcn, g3w]) (lo := loL []) func29 g16a g13h (by kernel_rfl) (FoSnd.cons F56_b gl5 (FoSnd.cons F57_b g8r FoSnd.nil)) (LoOk.snd LoOk.nil) (Eq.trans (by kernel_rfl) hr)
end
section
open Go Go.Proofs.YthnmepafpikaiaaGreat.Shv
open Tryz
set_option maxRecDepth 100000
def g5j (x_ : SSchema × Int × SValue) : Option (Int × Int) :=
 match x_ with
 | (s, t, v) =>
 g4y (s, t, SValue.eta v) >>= fun r =>
 if (!(decide (r = 0))) = true then
 some (0, r)
 else
 g17 (s, t, SValue.eta v) >>= fun r_1 =>
 some ((r_1.length : Int), 0)
theorem F34_b : g16h prog 34 = true := by kernel_rfl
theorem g16b : f34.body.bind (Shv.resolve prog f34.ntmps) = some (g16e prog f34) := by kernel_rfl
theorem g13i : g16f prog f34.results.toList = some [.tmp 6, .tmp 7] := by kernel_rfl
def gtl (F : Hs Un.D [.nm 0, .int .i64, .nm 4] → Option (Hs Un.D [.int .i64, .int .i64])) : FSpec Un := ⟨34, [.row 0, .c (.hole (.int .i64)), .row 4], [], [.nm 0, .int .i64, .nm 4], .tup [.c (.hole (.int .i64)), .c (.hole (.int .i64))], [], [.int .i64, .int .i64], F⟩
def gg1 : FSpec Un := gtl g5j
theorem grv : FSnd prog gg1 := FSnd.of fun h r hr => FAt.of_body (s := gg1) (fo := foS [g9z, g5t]) (lo := loL []) func34 g16b g13i (by kernel_rfl) (FoSnd.cons F59_b giq (FoSnd.cons F60_b ggm FoSnd.nil)) (LoOk.snd LoOk.nil) (Eq.trans (by kernel_rfl) hr)
def g6j (x_ : SSchema × Int × SValue) : Option (Bool) :=
 match x_ with
 | (s, t, v) =>
 g8m () >>= fun r =>
 some (!r) >>= fun t19 =>
 (if (!t19) = true then gef s else some false) >>= fun r_1 =>
 some (bif t19 then true else (!r_1)) >>= fun t24 =>
 (if (!t24) = true then gba (SValue.eta v) else some false) >>= fun r_2 =>
 if (bif t24 then true else (!r_2)) = true then
 g8m () >>= fun r_3 =>
 some r_3
 else
 g95 s >>= fun r_4 =>
 g4x s >>= fun r_8 =>
 if (bif decide (r_8 = 0) then (!(decide (r_4.2.2 = 0))) else false) = true then
 some true
 else
 g4s (s, t, SValue.eta v) >>= fun r_9 =>
 g4p (s, t, SValue.eta v) >>= fun r_12 =>
 gb6 (s, t, SValue.eta v) >>= fun r_15 =>
 g5j (s, t, SValue.eta v) >>= fun r_18 =>
 some (bif bif bif decide (r_9.1 = r_12.1) then decide (r_9.2 = r_12.2) else false then decide (r_15.1 = r_18.1) else false then decide (r_15.2 = r_18.2) else false)
theorem F7_ok : f7.body.bind (Shv.resolve prog f7.ntmps) = some (g16e prog f7) := by kernel_rfl
theorem g16c : g16f prog f7.results.toList = some [.tmp 6] := by kernel_rfl
def gma (F : Hs Un.D [.nm 0, .int .i64, .nm 4] → Option (Hs Un.D [.bool])) : FSpec Un := ⟨7, [.row 0, .c (.hole (.int .i64)), .row 4], [], [.nm 0, .int .i64, .nm 4], .c (.hole .bool), [], [.bool], F⟩
def gdk : FSpec Un := gma g6j
theorem gwt : FSnd prog gdk := FSnd.of fun h r hr => FAt.of_body (s := gdk) (fo := foS [gdq, ggt, gdr, gb5, g70, gea, gcx, gm9, gg1]) (lo := loL []) func7 F7_ok g16c (by kernel_rfl) (FoSnd.cons F11_b gqg (FoSnd.cons F30_b gsn (FoSnd.cons F31_b gqn (FoSnd.cons F32_b go7 (FoSnd.cons F33_b gbt (FoSnd.cons F26_b gmp (FoSnd.cons F28_b gq2 (FoSnd.cons F29_b gwc (FoSnd.cons F34_b grv FoSnd.nil))))))))) (LoOk.snd LoOk.nil) (Eq.trans (by kernel_rfl) hr)
end
section
open Go Go.Proofs.YthnmepafpikaiaaGreat.Shv
open Tryz
set_option maxRecDepth 100000
def g5u (_ : Unit) : Option (SSchema) :=
 some (⟨[(⟨2, [], (-10), 10, 0, [], [], 0, 0, false⟩ : SType), (⟨2, [], 0, 5, 0, [], [], 0, 0, false⟩ : SType), (⟨3, [], 0, 0, 8, [], [], 0, 0, false⟩ : SType), (⟨5, [80, 111, 105, 110, 116], 0, 0, 0, [], [(⟨1, [120], 0, false, false, (⟨0, false, 0, [], 0, [], [], []⟩ : SValue)⟩ : SMember), (⟨2, [121], 1, false, true, (⟨2, false, 3, [], 0, [], [], []⟩ : SValue)⟩ : SMember), (⟨3, [116, 97, 103], 2, true, false, (⟨0, false, 0, [], 0, [], [], []⟩ : SValue)⟩ : SMember)], 0, 0, false⟩ : SType)]⟩ : SSchema)
theorem g7k : ∀ x, Le (g5u x) (g52 x) := fun _ => Le.r
def gdy (x_ : Int × Int) : Option (SValue) :=
 match x_ with
 | (x0, y) =>
 some (⟨5, false, 0, [], 0, [], [(⟨2, false, x0, [], 0, [], [], []⟩ : SValue), (⟨2, false, y, [], 0, [], [], []⟩ : SValue), (⟨3, false, 0, [97, 98], 0, [], [], []⟩ : SValue)], []⟩ : SValue)
theorem gjn : ∀ x, Le (gdy x) (gb9 x) := fun x => match x with | (_, _) => Le.r
def g4e : Nat → (List SSymbol × List SSymbol × Int × Int → Option ((Bool) ⊕ (Unit)))
 | 0 => fun _ => none
 | fuel + 1 =>
 fun (x_ : List SSymbol × List SSymbol × Int × Int) => match x_ with
 | (s1_1, s2_1, t12_1, t13) =>
 if decide (t13 < t12_1) = true then
 if inR t13 s1_1.length = true then
 some (s1_1.getD t13.toNat dSSymbol) >>= fun x0 =>
 if inR t13 s2_1.length = true then
 some (s2_1.getD t13.toNat dSSymbol) >>= fun x0_1 =>
 if (!(eqI x0.ID x0_1.ID && (eqS x0.Name x0_1.Name && true))) = true then
 some (.inl false)
 else
 (g4e fuel) (s1_1, s2_1, t12_1, addI .i64 t13 1)
 else none
 else none
 else
 some (.inr ())
theorem g64 : ∀ n, (∀ x, Le ((g4e n) x) (gk x))
 | 0 => fun _ => Le.n
 | fuel + 1 => fun x => match x with | (_, _, _, _) => by rw [gk]; exact (Le.i (Le.i (Le.b Le.r fun _ => (Le.i (Le.b Le.r fun _ => (Le.i Le.r ((g64 fuel) _))) Le.r)) Le.r) Le.r)
def g72 (x : List SSymbol × List SSymbol × Int × Int) : Option ((Bool) ⊕ (Unit)) := (g4e 40) x
theorem gdl : ∀ x, Le (g72 x) (gk x) := (g64 40)
def g85 (x_ : List SSymbol × List SSymbol) : Option (Bool) :=
 match x_ with
 | (s1, s2) =>
 if (!(decide ((s1.length : Int) = (s2.length : Int)))) = true then
 some false
 else
 g72 (s1, s2, (s1.length : Int), 0) >>= fun o =>
 match o with
 | .inl o_1 =>
 some o_1
 | .inr o_2 =>
 some true
theorem gg2 : ∀ x, Le (g85 x) (g2n x) := fun x => match x with | (_, _) => (Le.i Le.r (Le.b (gdl _) fun _ => Le.r))
def g5k : Nat → (List SRaw × List SRaw × Int × Int → Option ((Bool) ⊕ (Unit)))
 | 0 => fun _ => none
 | fuel + 1 =>
 fun (x_ : List SRaw × List SRaw × Int × Int) => match x_ with
 | (s1_1, s2_1, t12_1, t13) =>
 if decide (t13 < t12_1) = true then
 if inR t13 s1_1.length = true then
 some (s1_1.getD t13.toNat dSRaw) >>= fun x0 =>
 if inR t13 s2_1.length = true then
 some (s2_1.getD t13.toNat dSRaw) >>= fun x0_1 =>
 if (!(eqI x0.ID x0_1.ID && (eqS x0.Data x0_1.Data && true))) = true then
 some (.inl false)
 else
 (g5k fuel) (s1_1, s2_1, t12_1, addI .i64 t13 1)
 else none
 else none
 else
 some (.inr ())
theorem g86 : ∀ n, (∀ x, Le ((g5k n) x) (gu x))
 | 0 => fun _ => Le.n
 | fuel + 1 => fun x => match x with | (_, _, _, _) => by rw [gu]; exact (Le.i (Le.i (Le.b Le.r fun _ => (Le.i (Le.b Le.r fun _ => (Le.i Le.r ((g86 fuel) _))) Le.r)) Le.r) Le.r)
def g9w (x : List SRaw × List SRaw × Int × Int) : Option ((Bool) ⊕ (Unit)) := (g5k 40) x
theorem ghj : ∀ x, Le (g9w x) (gu x) := (g86 40)
def g6v (x_ : List SRaw × List SRaw) : Option (Bool) :=
 match x_ with
 | (s1, s2) =>
 if (!(decide ((s1.length : Int) = (s2.length : Int)))) = true then
 some false
 else
 g9w (s1, s2, (s1.length : Int), 0) >>= fun o =>
 match o with
 | .inl o_1 =>
 some o_1
 | .inr o_2 =>
 some true
theorem gak : ∀ x, Le (g6v x) (g2u x) := fun x => match x with | (_, _) => (Le.i Le.r (Le.b (ghj _) fun _ => Le.r))
def g5c : Nat → (SValue × SValue → Option (Bool)) × (List SValue × List SValue → Option (Bool)) × (List SValue × List SValue × Int × Int → Option ((Bool) ⊕ (Unit)))
 | 0 => (fun _ => none, fun _ => none, fun _ => none)
 | fuel + 1 =>
 (fun (x_ : SValue × SValue) => match x_ with
 | (a, b) =>
 some (bif bif bif bif decide (a.Kind = b.Kind) then eqB a.Bool_ b.Bool_ else false then decide (a.Int_ = b.Int_) else false then decide (a.Str = b.Str) else false then decide (a.ID = b.ID) else false) >>= fun t37 =>
 (if t37 = true then g6v (a.Rest, b.Rest) else some false) >>= fun r =>
 some (bif t37 then r else false) >>= fun t44 =>
 (if t44 = true then (g5c fuel).2.1 (a.Keys, b.Keys) else some false) >>= fun r_1 =>
 some (bif t44 then r_1 else false) >>= fun t51 =>
 (if t51 = true then (g5c fuel).2.1 (a.Items, b.Items) else some false) >>= fun r_2 =>
 some (bif t51 then r_2 else false),
 fun (x_ : List SValue × List SValue) => match x_ with
 | (s1, s2) =>
 if (!(decide ((s1.length : Int) = (s2.length : Int)))) = true then
 some false
 else
 (g5c fuel).2.2 (s2, s1, (s1.length : Int), 0) >>= fun o =>
 match o with
 | .inl o_1 =>
 some o_1
 | .inr o_2 =>
 some true,
 fun (x_ : List SValue × List SValue × Int × Int) => match x_ with
 | (s2_1, t15, t16_1, t17) =>
 if decide (t17 < t16_1) = true then
 if inR t17 t15.length = true then
 if inR t17 s2_1.length = true then
 (g5c fuel).1 (SValue.eta (t15.getD t17.toNat dSValue), SValue.eta (s2_1.getD t17.toNat dSValue)) >>= fun r =>
 if (!r) = true then
 some (.inl false)
 else
 (g5c fuel).2.2 (s2_1, t15, t16_1, addI .i64 t17 1)
 else none
 else none
 else
 some (.inr ()))
theorem g7e : ∀ n, (∀ x, Le ((g5c n).1 x) (g46 x)) ∧ (∀ x, Le ((g5c n).2.1 x) (gn x)) ∧ (∀ x, Le ((g5c n).2.2 x) (gf x))
 | 0 => ⟨fun _ => Le.n, fun _ => Le.n, fun _ => Le.n⟩
 | fuel + 1 => ⟨fun x => match x with | (_, _) => by rw [g46]; exact (Le.b Le.r fun _ => (Le.b (Le.i (gak _) Le.r) fun _ => (Le.b Le.r fun _ => (Le.b (Le.i ((g7e fuel).2.1 _) Le.r) fun _ => (Le.b Le.r fun _ => (Le.b (Le.i ((g7e fuel).2.1 _) Le.r) fun _ => Le.r)))))),
 fun x => match x with | (_, _) => by rw [gn]; exact (Le.i Le.r (Le.b ((g7e fuel).2.2 _) fun _ => Le.r)),
 fun x => match x with | (_, _, _, _) => by rw [gf]; exact (Le.i (Le.i (Le.i (Le.b ((g7e fuel).1 _) fun _ => (Le.i Le.r ((g7e fuel).2.2 _))) Le.r) Le.r) Le.r)⟩
def gmb (x : SValue × SValue) : Option (Bool) := (g5c 40).1 x
theorem gqy : ∀ x, Le (gmb x) (g46 x) := (g7e 40).1
def gob (x_ : SMember × SMember) : Option (Bool) :=
 match x_ with
 | (x0, y) =>
 some (bif bif bif bif decide (x0.ID = y.ID) then decide (x0.Name = y.Name) else false then decide (x0.Type_ = y.Type_) else false then eqB x0.Critical y.Critical else false then eqB x0.HasDefault y.HasDefault else false) >>= fun t37 =>
 (if t37 = true then gmb ((⟨x0.Default.Kind, x0.Default.Bool_, x0.Default.Int_, x0.Default.Str, x0.Default.ID, x0.Default.Keys, x0.Default.Items, x0.Default.Rest⟩ : SValue), SValue.eta y.Default) else some false) >>= fun r =>
 some (bif t37 then r else false)
theorem gul : ∀ x, Le (gob x) (g9e x) := fun x => match x with | (_, _) => (Le.b Le.r fun _ => (Le.b (Le.i (gqy _) Le.r) fun _ => Le.r))
def g1l : Nat → (List SMember × List SMember × Int × Int → Option ((Bool) ⊕ (Unit)))
 | 0 => fun _ => none
 | fuel + 1 =>
 fun (x_ : List SMember × List SMember × Int × Int) => match x_ with
 | (s2_1, t15, t16_1, t17) =>
 if decide (t17 < t16_1) = true then
 if inR t17 t15.length = true then
 some (t15.getD t17.toNat dSMember) >>= fun x0 =>
 if inR t17 s2_1.length = true then
 some (s2_1.getD t17.toNat dSMember) >>= fun x0_1 =>
 gob ((⟨x0.ID, x0.Name, x0.Type_, x0.Critical, x0.HasDefault, SValue.eta x0.Default⟩ : SMember), (⟨x0_1.ID, x0_1.Name, x0_1.Type_, x0_1.Critical, x0_1.HasDefault, SValue.eta x0_1.Default⟩ : SMember)) >>= fun r =>
 if (!r) = true then
 some (.inl false)
 else
 (g1l fuel) (s2_1, t15, t16_1, addI .i64 t17 1)
 else none
 else none
 else
 some (.inr ())
theorem g2l : ∀ n, (∀ x, Le ((g1l n) x) (g8 x))
 | 0 => fun _ => Le.n
 | fuel + 1 => fun x => match x with | (_, _, _, _) => by rw [g8]; exact (Le.i (Le.i (Le.b Le.r fun _ => (Le.i (Le.b Le.r fun _ => (Le.b (gul _) fun _ => (Le.i Le.r ((g2l fuel) _)))) Le.r)) Le.r) Le.r)
def g2t (x : List SMember × List SMember × Int × Int) : Option ((Bool) ⊕ (Unit)) := (g1l 40) x
theorem g5d : ∀ x, Le (g2t x) (g8 x) := (g2l 40)
def g31 (x_ : List SMember × List SMember) : Option (Bool) :=
 match x_ with
 | (s1, s2) =>
 if (!(decide ((s1.length : Int) = (s2.length : Int)))) = true then
 some false
 else
 g2t (s2, s1, (s1.length : Int), 0) >>= fun o =>
 match o with
 | .inl o_1 =>
 some o_1
 | .inr o_2 =>
 some true
theorem g62 : ∀ x, Le (g31 x) (gx x) := fun x => match x with | (_, _) => (Le.i Le.r (Le.b (g5d _) fun _ => Le.r))
def g19 (x_ : SType × SType) : Option (Bool) :=
 match x_ with
 | (a, b) =>
 some (bif bif bif bif bif bif bif decide (a.Kind = b.Kind) then decide (a.Name = b.Name) else false then decide (a.Low = b.Low) else false then decide (a.High = b.High) else false then decide (a.Max = b.Max) else false then decide (a.Key = b.Key) else false then decide (a.Elem = b.Elem) else false then eqB a.Open b.Open else false) >>= fun t58 =>
 (if t58 = true then g85 (a.Symbols, b.Symbols) else some false) >>= fun r =>
 some (bif t58 then r else false) >>= fun t65 =>
 (if t65 = true then g31 (a.Members, b.Members) else some false) >>= fun r_1 =>
 some (bif t65 then r_1 else false)
theorem g18 : ∀ x, Le (g19 x) (g1a x) := fun x => match x with | (_, _) => (Le.b Le.r fun _ => (Le.b (Le.i (gg2 _) Le.r) fun _ => (Le.b Le.r fun _ => (Le.b (Le.i (g62 _) Le.r) fun _ => Le.r))))
def gi6 (c : Int) : Option (Bool) :=
 some (bif bif decide (c = 95) then true else bif decide (97 ≤ c) then decide (c ≤ 122) else false then true else bif decide (65 ≤ c) then decide (c ≤ 90) else false)
theorem gms : ∀ x, Le (gi6 x) (g9f x) := fun _ => Le.r
def gpd (c : Int) : Option (Bool) :=
 some (bif decide (48 ≤ c) then decide (c ≤ 57) else false)
theorem gva : ∀ x, Le (gpd x) (gd0 x) := fun _ => Le.r
def ggx : Nat → (List UInt8 × Int × Int → Option ((Bool) ⊕ (Unit)))
 | 0 => fun _ => none
 | fuel + 1 =>
 fun (x_ : List UInt8 × Int × Int) => match x_ with
 | (s_1, t18_1, t19) =>
 if decide (t19 < t18_1) = true then
 if inR t19 s_1.length = true then
 gi6 (g17g s_1 t19) >>= fun r_1 =>
 some (!r_1) >>= fun t26 =>
 if (inR t19 s_1.length || (!t26)) = true then
 (if t26 = true then gpd (g17g s_1 t19) else some false) >>= fun r_2 =>
 if (bif t26 then (!r_2) else false) = true then
 some (.inl false)
 else
 (ggx fuel) (s_1, t18_1, addI .i64 t19 1)
 else none
 else none
 else
 some (.inr ())
theorem gjo : ∀ n, (∀ x, Le ((ggx n) x) (g2q x))
 | 0 => fun _ => Le.n
 | fuel + 1 => fun x => match x with | (_, _, _) => by rw [g2q]; exact (Le.i (Le.i (Le.b (gms _) fun _ => (Le.b Le.r fun _ => (Le.i (Le.b (Le.i (gva _) Le.r) fun _ => (Le.i Le.r ((gjo fuel) _))) Le.r))) Le.r) Le.r)
def gmt (x : List UInt8 × Int × Int) : Option ((Bool) ⊕ (Unit)) := (ggx 40) x
theorem gtm : ∀ x, Le (gmt x) (g2q x) := (gjo 40)
def gc1 (s : List UInt8) : Option (Bool) :=
 some (bif decide (s = []) then true else decide (24 < (s.length : Int))) >>= fun t10 =>
 if (inR 0 s.length || (!(!t10))) = true then
 (if (!t10) = true then gi6 (g17g s 0) else some false) >>= fun r =>
 if (bif t10 then true else (!r)) = true then
 some false
 else
 gmt (s, (s.length : Int), 0) >>= fun o =>
 match o with
 | .inl o_1 =>
 some o_1
 | .inr o_2 =>
 some true
 else none
theorem ger : ∀ x, Le (gc1 x) (g33 x) := fun _ => (Le.b Le.r fun _ => (Le.i (Le.b (Le.i (gms _) Le.r) fun _ => (Le.i Le.r (Le.b (gtm _) fun _ => Le.r))) Le.r))
def gjp : Nat → (List Int × List (List UInt8) × List Int × Int × Int × List (List UInt8) → Option ((Bool) ⊕ (List Int)))
 | 0 => fun _ => none
 | fuel + 1 =>
 fun (x_ : List Int × List (List UInt8) × List Int × Int × Int × List (List UInt8)) => match x_ with
 | (l_2, names_1, t9, t10_1, t11, b) =>
 if decide (t11 < t10_1) = true then
 if inR t11 t9.length = true then
 some (t9.getD t11.toNat 0) >>= fun x0 =>
 some (bif decide (x0 < 1) then true else decide (1000 < x0)) >>= fun t21 =>
 some (decide (0 < t11)) >>= fun t24 =>
 some (subI .i64 t11 1) >>= fun t29 =>
 if (inR t29 l_2.length || (!((!t21) && t24))) = true then
 some (bif t21 then true else bif t24 then decide (x0 ≤ l_2.getD t29.toNat 0) else false) >>= fun t34 =>
 if (inR t11 names_1.length || (!(!t34))) = true then
 some (bif t34 then true else hasS b (names_1.getD t11.toNat [])) >>= fun t42 =>
 if (inR t11 names_1.length || (!(!t42))) = true then
 (if (!t42) = true then gc1 (names_1.getD t11.toNat []) else some false) >>= fun r =>
 if (bif t42 then true else (!r)) = true then
 some (.inl false)
 else
 if inR t11 names_1.length = true then
 (gjp fuel) (l_2, names_1, t9, t10_1, addI .i64 t11 1, addS b (names_1.getD t11.toNat []))
 else none
 else none
 else none
 else none
 else none
 else
 some (.inr l_2)
theorem gll : ∀ n, (∀ x, Le ((gjp n) x) (g3n x))
 | 0 => fun _ => Le.n
 | fuel + 1 => fun x => match x with | (_, _, _, _, _, _) => by rw [g3n]; exact (Le.i (Le.i (Le.b Le.r fun _ => (Le.b Le.r fun _ => (Le.b Le.r fun _ => (Le.b Le.r fun _ => (Le.i (Le.b Le.r fun _ => (Le.i (Le.b Le.r fun _ => (Le.i (Le.b (Le.i (ger _) Le.r) fun _ => (Le.i Le.r (Le.i ((gll fuel) _) Le.r))) Le.r)) Le.r)) Le.r))))) Le.r) Le.r)
def gpe (x : List Int × List (List UInt8) × List Int × Int × Int × List (List UInt8)) : Option ((Bool) ⊕ (List Int)) := (gjp 40) x
theorem gvb : ∀ x, Le (gpe x) (g3n x) := (gll 40)
def goc (x_ : List Int × List (List UInt8)) : Option (Bool) :=
 match x_ with
 | (l, names) =>
 gpe (l, names, l, (l.length : Int), 0, []) >>= fun o =>
 match o with
 | .inl o_1 =>
 some o_1
 | .inr o_2 =>
 some (decide ((o_2.length : Int) ≤ 16))
theorem gs3 : ∀ x, Le (goc x) (gg9 x) := fun x => match x with | (_, _) => (Le.b (gvb _) fun _ => Le.r)
def gdz : Nat → (List SSymbol × List SSymbol × Int × Int × List Int × List (List UInt8) → Option (List SSymbol × List Int × List (List UInt8)))
 | 0 => fun _ => none
 | fuel + 1 =>
 fun (x_ : List SSymbol × List SSymbol × Int × Int × List Int × List (List UInt8)) => match x_ with
 | (l_2, t7, t8_1, t9, b_2, b_3) =>
 if decide (t9 < t8_1) = true then
 if inR t9 t7.length = true then
 some (t7.getD t9.toNat dSSymbol) >>= fun x0 =>
 some [x0.ID] >>= fun t16 =>
 if room 8 (b_2 ++ t16).length = true then
 some [x0.Name] >>= fun t21 =>
 if room 16 (b_3 ++ t21).length = true then
 (gdz fuel) (l_2, t7, t8_1, addI .i64 t9 1, b_2 ++ t16, b_3 ++ t21)
 else none
 else none
 else none
 else
 some (l_2, b_2, b_3)
theorem ghk : ∀ n, (∀ x, Le ((gdz n) x) (g2i x))
 | 0 => fun _ => Le.n
 | fuel + 1 => fun x => match x with | (_, _, _, _, _, _) => by rw [g2i]; exact (Le.i (Le.i (Le.b Le.r fun _ => (Le.b Le.r fun _ => (Le.i (Le.b Le.r fun _ => (Le.i ((ghk fuel) _) Le.r)) Le.r))) Le.r) Le.r)
def gkc (x : List SSymbol × List SSymbol × Int × Int × List Int × List (List UInt8)) : Option (List SSymbol × List Int × List (List UInt8)) := (gdz 40) x
theorem grw : ∀ x, Le (gkc x) (g2i x) := (ghk 40)
def god (l : List SSymbol) : Option (Bool) :=
 gkc (l, l, (l.length : Int), 0, [], []) >>= fun o =>
 some (decide (0 < (o.1.length : Int))) >>= fun t26 =>
 (if t26 = true then goc (o.2.1, o.2.2) else some false) >>= fun r =>
 some (bif t26 then r else false)
theorem gum : ∀ x, Le (god x) (g73 x) := fun _ => (Le.b (grw _) fun _ => (Le.b Le.r fun _ => (Le.b (Le.i (gs3 _) Le.r) fun _ => Le.r)))
def gqz (v : SValue) : Option (Bool) :=
 gmb (SValue.eta v, (⟨0, false, 0, [], 0, [], [], []⟩ : SValue)) >>= fun r =>
 some r
theorem gwd : ∀ x, Le (gqz x) (gf2 x) := fun _ => (Le.b (gqy _) fun _ => Le.r)
def ge0 : Nat → (List SMember × Int × Int × SType × List Int × List (List UInt8) → Option ((Bool) ⊕ (SType × List Int × List (List UInt8))))
 | 0 => fun _ => none
 | fuel + 1 =>
 fun (x_ : List SMember × Int × Int × SType × List Int × List (List UInt8)) => match x_ with
 | (t8, t9_1, t10, b_3, b_4, b_5) =>
 if decide (t10 < t9_1) = true then
 if inR t10 t8.length = true then
 some (t8.getD t10.toNat dSMember) >>= fun x0 =>
 some [x0.ID] >>= fun t17 =>
 if room 8 (b_4 ++ t17).length = true then
 some [x0.Name] >>= fun t22 =>
 if room 16 (b_5 ++ t22).length = true then
 some (bif bif decide (b_3.Kind = 6) then bif x0.Critical then true else x0.HasDefault else false then true else bif x0.Critical then x0.HasDefault else false) >>= fun t42 =>
 some (!x0.HasDefault) >>= fun t46 =>
 (if ((!t42) && t46) = true then gqz (SValue.eta x0.Default) else some false) >>= fun r_1 =>
 if (bif t42 then true else bif t46 then (!r_1) else false) = true then
 some (.inl false)
 else
 (ge0 fuel) (t8, t9_1, addI .i64 t10 1, b_3, b_4 ++ t17, b_5 ++ t22)
 else none
 else none
 else none
 else
 some (.inr (b_3, b_4, b_5))
theorem ghl : ∀ n, (∀ x, Le ((ge0 n) x) (g24 x))
 | 0 => fun _ => Le.n
 | fuel + 1 => fun x => match x with | (_, _, _, _, _, _) => by rw [g24]; exact (Le.i (Le.i (Le.b Le.r fun _ => (Le.b Le.r fun _ => (Le.i (Le.b Le.r fun _ => (Le.i (Le.b Le.r fun _ => (Le.b Le.r fun _ => (Le.b (Le.i (gwd _) Le.r) fun _ => (Le.i Le.r ((ghl fuel) _))))) Le.r)) Le.r))) Le.r) Le.r)
def gkd (x : List SMember × Int × Int × SType × List Int × List (List UInt8)) : Option ((Bool) ⊕ (SType × List Int × List (List UInt8))) := (ge0 40) x
theorem grx : ∀ x, Le (gkd x) (g24 x) := (ghl 40)
def gi7 (t : SType) : Option (Bool) :=
 gkd (t.Members, (t.Members.length : Int), 0, t, [], []) >>= fun o =>
 match o with
 | .inl o_1 =>
 some o_1
 | .inr o_2 =>
 some (bif decide (o_2.1.Kind = 5) then true else decide (0 < (o_2.2.1.length : Int))) >>= fun t62 =>
 (if t62 = true then goc (o_2.2.1, o_2.2.2) else some false) >>= fun r =>
 some (bif t62 then r else false)
theorem gmu : ∀ x, Le (gi7 x) (g5m x) := fun _ => (Le.b (grx _) fun o => match o with | .inl _ => Le.r | .inr _ => (Le.b Le.r fun _ => (Le.b (Le.i (gs3 _) Le.r) fun _ => Le.r)))
def gs4 (t : SType) : Option (Bool) :=
 if decide (t.Kind = 1) = true then
 g19 ((⟨0, t.Name, t.Low, t.High, t.Max, t.Symbols, t.Members, t.Key, t.Elem, t.Open⟩ : SType), (⟨0, [], 0, 0, 0, [], [], 0, 0, false⟩ : SType)) >>= fun r =>
 some r
 else
 if decide (t.Kind = 2) = true then
 some (decide (t.Low ≤ t.High)) >>= fun t17 =>
 (if t17 = true then g19 ((⟨0, t.Name, 0, 0, t.Max, t.Symbols, t.Members, t.Key, t.Elem, t.Open⟩ : SType), (⟨0, [], 0, 0, 0, [], [], 0, 0, false⟩ : SType)) else some false) >>= fun r_1 =>
 some (bif t17 then r_1 else false)
 else
 if decide (t.Kind = 3) = true then
 some (bif decide (0 ≤ t.Max) then decide (t.Max ≤ 200) else false) >>= fun t29 =>
 (if t29 = true then g19 ((⟨0, t.Name, t.Low, t.High, 0, t.Symbols, t.Members, t.Key, t.Elem, t.Open⟩ : SType), (⟨0, [], 0, 0, 0, [], [], 0, 0, false⟩ : SType)) else some false) >>= fun r_2 =>
 some (bif t29 then r_2 else false)
 else
 if decide (t.Kind = 4) = true then
 gc1 t.Name >>= fun r_3 =>
 (if r_3 = true then god t.Symbols else some false) >>= fun r_4 =>
 some (bif r_3 then r_4 else false) >>= fun t40 =>
 (if t40 = true then g19 ((⟨0, [], t.Low, t.High, t.Max, [], t.Members, t.Key, t.Elem, false⟩ : SType), (⟨0, [], 0, 0, 0, [], [], 0, 0, false⟩ : SType)) else some false) >>= fun r_5 =>
 some (bif t40 then r_5 else false)
 else
 some (decide (t.Kind = 5)) >>= fun t45 =>
 if t45 = true then
 if t45 = true then
 gc1 t.Name >>= fun r_6 =>
 (if r_6 = true then gi7 t else some false) >>= fun r_7 =>
 some (bif r_6 then r_7 else false) >>= fun t53 =>
 (if t53 = true then g19 ((⟨0, [], t.Low, t.High, t.Max, t.Symbols, [], t.Key, t.Elem, bif t.Open then decide (t.Kind = 5) else false⟩ : SType), (⟨0, [], 0, 0, 0, [], [], 0, 0, false⟩ : SType)) else some false) >>= fun r_8 =>
 some (bif t53 then r_8 else false)
 else
 some (decide (t.Kind = 7)) >>= fun t65 =>
 if t65 = true then
 if t65 = true then
 some (bif decide (0 ≤ t.Max) then decide (t.Max ≤ 50) else false) >>= fun t74 =>
 if decide (t.Kind = 8) = true then
 (if t74 = true then g19 ((⟨0, t.Name, t.Low, t.High, 0, t.Symbols, t.Members, 0, 0, t.Open⟩ : SType), (⟨0, [], 0, 0, 0, [], [], 0, 0, false⟩ : SType)) else some false) >>= fun r_9 =>
 some (bif t74 then r_9 else false)
 else
 (if t74 = true then g19 ((⟨0, t.Name, t.Low, t.High, 0, t.Symbols, t.Members, t.Key, 0, t.Open⟩ : SType), (⟨0, [], 0, 0, 0, [], [], 0, 0, false⟩ : SType)) else some false) >>= fun r_10 =>
 some (bif t74 then r_10 else false)
 else
 if decide (t.Kind = 9) = true then
 g19 ((⟨0, t.Name, t.Low, t.High, t.Max, t.Symbols, t.Members, t.Key, 0, t.Open⟩ : SType), (⟨0, [], 0, 0, 0, [], [], 0, 0, false⟩ : SType)) >>= fun r_11 =>
 some r_11
 else
 some false
 else
 if decide (t.Kind = 8) = true then
 some (bif decide (0 ≤ t.Max) then decide (t.Max ≤ 50) else false) >>= fun t74_1 =>
 if decide (t.Kind = 8) = true then
 (if t74_1 = true then g19 ((⟨0, t.Name, t.Low, t.High, 0, t.Symbols, t.Members, 0, 0, t.Open⟩ : SType), (⟨0, [], 0, 0, 0, [], [], 0, 0, false⟩ : SType)) else some false) >>= fun r_12 =>
 some (bif t74_1 then r_12 else false)
 else
 (if t74_1 = true then g19 ((⟨0, t.Name, t.Low, t.High, 0, t.Symbols, t.Members, t.Key, 0, t.Open⟩ : SType), (⟨0, [], 0, 0, 0, [], [], 0, 0, false⟩ : SType)) else some false) >>= fun r_13 =>
 some (bif t74_1 then r_13 else false)
 else
 if decide (t.Kind = 9) = true then
 g19 ((⟨0, t.Name, t.Low, t.High, t.Max, t.Symbols, t.Members, t.Key, 0, t.Open⟩ : SType), (⟨0, [], 0, 0, 0, [], [], 0, 0, false⟩ : SType)) >>= fun r_14 =>
 some r_14
 else
 some false
 else
 if decide (t.Kind = 6) = true then
 gc1 t.Name >>= fun r_15 =>
 (if r_15 = true then gi7 t else some false) >>= fun r_16 =>
 some (bif r_15 then r_16 else false) >>= fun t53_1 =>
 (if t53_1 = true then g19 ((⟨0, [], t.Low, t.High, t.Max, t.Symbols, [], t.Key, t.Elem, bif t.Open then decide (t.Kind = 5) else false⟩ : SType), (⟨0, [], 0, 0, 0, [], [], 0, 0, false⟩ : SType)) else some false) >>= fun r_17 =>
 some (bif t53_1 then r_17 else false)
 else
 some (decide (t.Kind = 7)) >>= fun t65_1 =>
 if t65_1 = true then
 if t65_1 = true then
 some (bif decide (0 ≤ t.Max) then decide (t.Max ≤ 50) else false) >>= fun t74_2 =>
 if decide (t.Kind = 8) = true then
 (if t74_2 = true then g19 ((⟨0, t.Name, t.Low, t.High, 0, t.Symbols, t.Members, 0, 0, t.Open⟩ : SType), (⟨0, [], 0, 0, 0, [], [], 0, 0, false⟩ : SType)) else some false) >>= fun r_18 =>
 some (bif t74_2 then r_18 else false)
 else
 (if t74_2 = true then g19 ((⟨0, t.Name, t.Low, t.High, 0, t.Symbols, t.Members, t.Key, 0, t.Open⟩ : SType), (⟨0, [], 0, 0, 0, [], [], 0, 0, false⟩ : SType)) else some false) >>= fun r_19 =>
 some (bif t74_2 then r_19 else false)
 else
 if decide (t.Kind = 9) = true then
 g19 ((⟨0, t.Name, t.Low, t.High, t.Max, t.Symbols, t.Members, t.Key, 0, t.Open⟩ : SType), (⟨0, [], 0, 0, 0, [], [], 0, 0, false⟩ : SType)) >>= fun r_20 =>
 some r_20
 else
 some false
 else
 if decide (t.Kind = 8) = true then
 some (bif decide (0 ≤ t.Max) then decide (t.Max ≤ 50) else false) >>= fun t74_3 =>
 if decide (t.Kind = 8) = true then
 (if t74_3 = true then g19 ((⟨0, t.Name, t.Low, t.High, 0, t.Symbols, t.Members, 0, 0, t.Open⟩ : SType), (⟨0, [], 0, 0, 0, [], [], 0, 0, false⟩ : SType)) else some false) >>= fun r_21 =>
 some (bif t74_3 then r_21 else false)
 else
 (if t74_3 = true then g19 ((⟨0, t.Name, t.Low, t.High, 0, t.Symbols, t.Members, t.Key, 0, t.Open⟩ : SType), (⟨0, [], 0, 0, 0, [], [], 0, 0, false⟩ : SType)) else some false) >>= fun r_22 =>
 some (bif t74_3 then r_22 else false)
 else
 if decide (t.Kind = 9) = true then
 g19 ((⟨0, t.Name, t.Low, t.High, t.Max, t.Symbols, t.Members, t.Key, 0, t.Open⟩ : SType), (⟨0, [], 0, 0, 0, [], [], 0, 0, false⟩ : SType)) >>= fun r_23 =>
 some r_23
 else
 some false
theorem gwu : ∀ x, Le (gs4 x) (g12 x) := fun _ => (Le.i (Le.b (g18 _) fun _ => Le.r) (Le.i (Le.b Le.r fun _ => (Le.b (Le.i (g18 _) Le.r) fun _ => Le.r)) (Le.i (Le.b Le.r fun _ => (Le.b (Le.i (g18 _) Le.r) fun _ => Le.r)) (Le.i (Le.b (ger _) fun _ => (Le.b (Le.i (gum _) Le.r) fun _ => (Le.b Le.r fun _ => (Le.b (Le.i (g18 _) Le.r) fun _ => Le.r)))) (Le.b Le.r fun _ => (Le.i (Le.i (Le.b (ger _) fun _ => (Le.b (Le.i (gmu _) Le.r) fun _ => (Le.b Le.r fun _ => (Le.b (Le.i (g18 _) Le.r) fun _ => Le.r)))) (Le.b Le.r fun _ => (Le.i (Le.i (Le.b Le.r fun _ => (Le.i (Le.b (Le.i (g18 _) Le.r) fun _ => Le.r) (Le.b (Le.i (g18 _) Le.r) fun _ => Le.r))) (Le.i (Le.b (g18 _) fun _ => Le.r) Le.r)) (Le.i (Le.b Le.r fun _ => (Le.i (Le.b (Le.i (g18 _) Le.r) fun _ => Le.r) (Le.b (Le.i (g18 _) Le.r) fun _ => Le.r))) (Le.i (Le.b (g18 _) fun _ => Le.r) Le.r))))) (Le.i (Le.b (ger _) fun _ => (Le.b (Le.i (gmu _) Le.r) fun _ => (Le.b Le.r fun _ => (Le.b (Le.i (g18 _) Le.r) fun _ => Le.r)))) (Le.b Le.r fun _ => (Le.i (Le.i (Le.b Le.r fun _ => (Le.i (Le.b (Le.i (g18 _) Le.r) fun _ => Le.r) (Le.b (Le.i (g18 _) Le.r) fun _ => Le.r))) (Le.i (Le.b (g18 _) fun _ => Le.r) Le.r)) (Le.i (Le.b Le.r fun _ => (Le.i (Le.b (Le.i (g18 _) Le.r) fun _ => Le.r) (Le.b (Le.i (g18 _) Le.r) fun _ => Le.r))) (Le.i (Le.b (g18 _) fun _ => Le.r) Le.r)))))))))))
def gi8 : Nat → (List SMember × Int × Int × SType × List Int → Option (SType × List Int))
 | 0 => fun _ => none
 | fuel + 1 =>
 fun (x_ : List SMember × Int × Int × SType × List Int) => match x_ with
 | (t7, t8_1, t9, b_2, b_3) =>
 if decide (t9 < t8_1) = true then
 if inR t9 t7.length = true then
 some [(t7.getD t9.toNat dSMember).Type_] >>= fun t16 =>
 if room 8 (b_3 ++ t16).length = true then
 (gi8 fuel) (t7, t8_1, addI .i64 t9 1, b_2, b_3 ++ t16)
 else none
 else none
 else
 some (b_2, b_3)
theorem gke : ∀ n, (∀ x, Le ((gi8 n) x) (g3o x))
 | 0 => fun _ => Le.n
 | fuel + 1 => fun x => match x with | (_, _, _, _, _) => by rw [g3o]; exact (Le.i (Le.i (Le.b Le.r fun _ => (Le.i ((gke fuel) _) Le.r)) Le.r) Le.r)
def goe (x : List SMember × Int × Int × SType × List Int) : Option (SType × List Int) := (gi8 40) x
theorem gun : ∀ x, Le (goe x) (g3o x) := (gke 40)
def gs5 (t : SType) : Option (List Int) :=
 goe (t.Members, (t.Members.length : Int), 0, t, []) >>= fun o =>
 if decide (o.1.Kind = 8) = true then
 some [o.1.Key] >>= fun t25 =>
 if room 8 (o.2 ++ t25).length = true then
 some (o.2 ++ t25) >>= fun l =>
 if decide (7 ≤ o.1.Kind) = true then
 some [o.1.Elem] >>= fun t33 =>
 if room 8 (l ++ t33).length = true then
 some (l ++ t33)
 else none
 else
 some l
 else none
 else
 if decide (7 ≤ o.1.Kind) = true then
 some [o.1.Elem] >>= fun t33_1 =>
 if room 8 (o.2 ++ t33_1).length = true then
 some (o.2 ++ t33_1)
 else none
 else
 some o.2
theorem gwv : ∀ x, Le (gs5 x) (gh0 x) := fun _ => (Le.b (gun _) fun _ => Le.r)
def ge1 : Nat → (List SType × Int × Int × List Int × Int × Int × List SType × List (List UInt8) × Int × List UInt8 × Int × Int × Int × List SSymbol × List SMember × Int × Int × Bool → Option ((Int) ⊕ (List SType × Int × Int × List SType × List (List UInt8) × Int × List UInt8 × Int × Int × Int × List SSymbol × List SMember × Int × Int × Bool)))
 | 0 => fun _ => none
 | fuel + 1 =>
 fun (x_ : List SType × Int × Int × List Int × Int × Int × List SType × List (List UInt8) × Int × List UInt8 × Int × Int × Int × List SSymbol × List SMember × Int × Int × Bool) => match x_ with
 | (t14_2, t15_3, t16_2, t38, t39_1, t40, b_14, b_15, b_16, b_17, b_18, b_19, b_20, b_21, b_22, b_23, b_24, b_25) =>
 if decide (t40 < t39_1) = true then
 if inR t40 t38.length = true then
 some (t38.getD t40.toNat 0) >>= fun x0_3 =>
 if (bif decide (x0_3 < 0) then true else decide ((b_14.length : Int) ≤ x0_3)) = true then
 some (.inl 4)
 else
 (ge1 fuel) (t14_2, t15_3, t16_2, t38, t39_1, addI .i64 t40 1, b_14, b_15, b_16, b_17, b_18, b_19, b_20, b_21, b_22, b_23, b_24, b_25)
 else none
 else
 some (.inr (t14_2, t15_3, t16_2, b_14, b_15, b_16, b_17, b_18, b_19, b_20, b_21, b_22, b_23, b_24, b_25))
theorem ghm : ∀ n, (∀ x, Le ((ge1 n) x) (g25 x))
 | 0 => fun _ => Le.n
 | fuel + 1 => fun x => match x with | (_, _, _, _, _, _, _, _, _, _, _, _, _, _, _, _, _, _) => by rw [g25]; exact (Le.i (Le.i (Le.b Le.r fun _ => (Le.i Le.r ((ghm fuel) _))) Le.r) Le.r)
def gkf (x : List SType × Int × Int × List Int × Int × Int × List SType × List (List UInt8) × Int × List UInt8 × Int × Int × Int × List SSymbol × List SMember × Int × Int × Bool) : Option ((Int) ⊕ (List SType × Int × Int × List SType × List (List UInt8) × Int × List UInt8 × Int × Int × Int × List SSymbol × List SMember × Int × Int × Bool)) := (ge1 40) x
theorem gry : ∀ x, Le (gkf x) (g25 x) := (ghm 40)
def ggy : Nat → (List SType × Int × Int × List SType × List (List UInt8) → Option ((Int) ⊕ (Unit)))
 | 0 => fun _ => none
 | fuel + 1 =>
 fun (x_ : List SType × Int × Int × List SType × List (List UInt8)) => match x_ with
 | (t14, t15_1, t16, b, b_1) =>
 if decide (t16 < t15_1) = true then
 if inR t16 t14.length = true then
 some (t14.getD t16.toNat dSType) >>= fun x0 =>
 gs4 x0 >>= fun r =>
 if (bif (!r) then true else bif (!(decide (x0.Name = []))) then hasS b_1 x0.Name else false) = true then
 some (.inl 1)
 else
 gs5 x0 >>= fun r_1 =>
 gkf (t14, t15_1, t16, r_1, (r_1.length : Int), 0, b, addS b_1 x0.Name, x0.Kind, x0.Name, x0.Low, x0.High, x0.Max, x0.Symbols, x0.Members, x0.Key, x0.Elem, x0.Open) >>= fun o_3 =>
 match o_3 with
 | .inl o_4 =>
 some (.inl o_4)
 | .inr o_5 =>
 some (decide (o_5.2.2.2.2.2.1 = 8)) >>= fun t56 =>
 if (inR o_5.2.2.2.2.2.2.2.2.2.2.2.2.1 o_5.2.2.2.1.length || (!t56)) = true then
 some (decide ((o_5.2.2.2.1.getD o_5.2.2.2.2.2.2.2.2.2.2.2.2.1.toNat dSType).Kind < 1)) >>= fun t65 =>
 if (inR o_5.2.2.2.2.2.2.2.2.2.2.2.2.1 o_5.2.2.2.1.length || (!(t56 && (!t65)))) = true then
 if (bif t56 then bif t65 then true else decide (4 < (o_5.2.2.2.1.getD o_5.2.2.2.2.2.2.2.2.2.2.2.2.1.toNat dSType).Kind) else false) = true then
 some (.inl 1)
 else
 (ggy fuel) (o_5.1, o_5.2.1, addI .i64 o_5.2.2.1 1, o_5.2.2.2.1, o_5.2.2.2.2.1)
 else none
 else none
 else none
 else
 some (.inr ())
theorem gjq : ∀ n, (∀ x, Le ((ggy n) x) (g34 x))
 | 0 => fun _ => Le.n
 | fuel + 1 => fun x => match x with | (_, _, _, _, _) => by rw [g34]; exact (Le.i (Le.i (Le.b Le.r fun _ => (Le.b (gwu _) fun _ => (Le.i Le.r (Le.b (gwv _) fun _ => (Le.b (gry _) fun o => match o with | .inl _ => Le.r | .inr _ => (Le.b Le.r fun _ => (Le.i (Le.b Le.r fun _ => (Le.i (Le.i Le.r ((gjq fuel) _)) Le.r)) Le.r))))))) Le.r) Le.r)
def gmv (x : List SType × Int × Int × List SType × List (List UInt8)) : Option ((Int) ⊕ (Unit)) := (ggy 40) x
theorem gtn : ∀ x, Le (gmv x) (g34 x) := (gjq 40)
def gr0 (s : SSchema) : Option (Int) :=
 if decide (32 < (s.Types.length : Int)) = true then
 some 3
 else
 gmv (s.Types, (s.Types.length : Int), 0, s.Types, []) >>= fun o =>
 match o with
 | .inl o_1 =>
 some o_1
 | .inr o_2 =>
 some 0
theorem gwe : ∀ x, Le (gr0 x) (gf4 x) := fun _ => (Le.i Le.r (Le.b (gtn _) fun _ => Le.r))
def gi9 (x_ : SSchema × Int) : Option (Int) :=
 match x_ with
 | (s, t) =>
 gr0 (⟨s.Types⟩ : SSchema) >>= fun r =>
 if (!(decide (r = 0))) = true then
 some r
 else
 if (bif decide (t < 0) then true else decide ((s.Types.length : Int) ≤ t)) = true then
 some 4
 else
 some 0
theorem gmw : ∀ x, Le (gi9 x) (gbe x) := fun x => match x with | (_, _) => (Le.b (gwe _) fun _ => Le.r)
def gto (v : SValue) : Option (SValue) :=
 if decide (v.Kind = 1) = true then
 some (⟨v.Kind, v.Bool_, 0, [], 0, [], [], []⟩ : SValue)
 else
 if decide (v.Kind = 2) = true then
 some (⟨v.Kind, false, v.Int_, [], 0, [], [], []⟩ : SValue)
 else
 if decide (v.Kind = 3) = true then
 some (⟨v.Kind, false, 0, v.Str, 0, [], [], []⟩ : SValue)
 else
 if decide (v.Kind = 4) = true then
 some (⟨v.Kind, false, 0, [], v.ID, [], [], []⟩ : SValue)
 else
 if decide (v.Kind = 5) = true then
 some (⟨v.Kind, false, 0, [], 0, [], v.Items, v.Rest⟩ : SValue)
 else
 if decide (v.Kind = 6) = true then
 some (⟨v.Kind, false, 0, [], v.ID, [], v.Items, v.Rest⟩ : SValue)
 else
 if decide (v.Kind = 8) = true then
 some (⟨v.Kind, false, 0, [], 0, v.Keys, v.Items, []⟩ : SValue)
 else
 some (decide (v.Kind = 7)) >>= fun t57 =>
 if t57 = true then
 if t57 = true then
 some (⟨v.Kind, false, 0, [], 0, [], v.Items, []⟩ : SValue)
 else
 some (⟨v.Kind, false, 0, [], 0, [], [], []⟩ : SValue)
 else
 if decide (v.Kind = 9) = true then
 some (⟨v.Kind, false, 0, [], 0, [], v.Items, []⟩ : SValue)
 else
 some (⟨v.Kind, false, 0, [], 0, [], [], []⟩ : SValue)
theorem gx9 : ∀ x, Le (gto x) (gj1 x) := fun _ => Le.r
def gr1 (v : SValue) : Option (Bool) :=
 gto (SValue.eta v) >>= fun r =>
 some (bif bif bif bif bif bif eqB v.Bool_ r.Bool_ then decide (v.Int_ = r.Int_) else false then decide (v.Str = r.Str) else false then decide (v.ID = r.ID) else false then decide ((v.Keys.length : Int) = (r.Keys.length : Int)) else false then decide ((v.Items.length : Int) = (r.Items.length : Int)) else false then decide ((v.Rest.length : Int) = (r.Rest.length : Int)) else false)
theorem gwf : ∀ x, Le (gr1 x) (gf5 x) := fun _ => (Le.b (gx9 _) fun _ => Le.r)
def gmx (x_ : SSymbol × Int) : Option (Bool × Int) :=
 match x_ with
 | (x0, b) =>
 some (decide (x0.ID = b), b)
theorem gtp : ∀ x, Le (gmx x) (ge3 x) := fun x => match x with | (_, _) => Le.r
def g3p : Nat → (List SSymbol × Int × Int × Int → Option ((Int × Int) ⊕ (Int)))
 | 0 => fun _ => none
 | fuel + 1 =>
 fun (x_ : List SSymbol × Int × Int × Int) => match x_ with
 | (s_1, t7_1, t8, b_3) =>
 if decide (t8 < t7_1) = true then
 if inR t8 s_1.length = true then
 gmx (s_1.getD t8.toNat dSSymbol, b_3) >>= fun r =>
 if r.1 = true then
 some (.inl (t8, r.2))
 else
 (g3p fuel) (s_1, t7_1, addI .i64 t8 1, r.2)
 else none
 else
 some (.inr b_3)
theorem g50 : ∀ n, (∀ x, Le ((g3p n) x) (gc x))
 | 0 => fun _ => Le.n
 | fuel + 1 => fun x => match x with | (_, _, _, _) => by rw [gc]; exact (Le.i (Le.i (Le.b (gtp _) fun _ => (Le.i Le.r ((g50 fuel) _))) Le.r) Le.r)
def g5v (x : List SSymbol × Int × Int × Int) : Option ((Int × Int) ⊕ (Int)) := (g3p 40) x
theorem gb7 : ∀ x, Le (g5v x) (gc x) := (g50 40)
def g6o (x_ : List SSymbol × Int) : Option (Int × Int) :=
 match x_ with
 | (s, b) =>
 g5v (s, (s.length : Int), 0, b) >>= fun o =>
 match o with
 | .inl o_1 =>
 some (o_1.1, o_1.2)
 | .inr o_2 =>
 some ((-1), o_2)
theorem gcy : ∀ x, Le (g6o x) (g2y x) := fun x => match x with | (_, _) => (Le.b (gb7 _) fun _ => Le.r)
def gjr (x_ : SType × Int) : Option (Int × Bool) :=
 match x_ with
 | (t, id) =>
 g6o (t.Symbols, id) >>= fun r =>
 some (maxI r.1 0, decide (0 ≤ r.1))
theorem gof : ∀ x, Le (gjr x) (gae x) := fun x => match x with | (_, _) => (Le.b (gcy _) fun _ => Le.r)
def gjs (id : Int) : Option (Bool) :=
 some (bif decide (1 ≤ id) then decide (id ≤ 1000) else false)
theorem gmc : ∀ x, Le (gjs x) (gga x) := fun _ => Le.r
def gmy (x_ : SMember × Int) : Option (Bool × Int) :=
 match x_ with
 | (m, b) =>
 some (decide (m.ID = b), b)
theorem gtq : ∀ x, Le (gmy x) (ge5 x) := fun x => match x with | (_, _) => Le.r
def g3q : Nat → (List SMember × Int × Int × Int → Option ((Int × Int) ⊕ (Int)))
 | 0 => fun _ => none
 | fuel + 1 =>
 fun (x_ : List SMember × Int × Int × Int) => match x_ with
 | (s_1, t7_1, t8, b_3) =>
 if decide (t8 < t7_1) = true then
 if inR t8 s_1.length = true then
 some (s_1.getD t8.toNat dSMember) >>= fun x0 =>
 gmy ((⟨x0.ID, x0.Name, x0.Type_, x0.Critical, x0.HasDefault, SValue.eta x0.Default⟩ : SMember), b_3) >>= fun r =>
 if r.1 = true then
 some (.inl (t8, r.2))
 else
 (g3q fuel) (s_1, t7_1, addI .i64 t8 1, r.2)
 else none
 else
 some (.inr b_3)
theorem g51 : ∀ n, (∀ x, Le ((g3q n) x) (gg x))
 | 0 => fun _ => Le.n
 | fuel + 1 => fun x => match x with | (_, _, _, _) => by rw [gg]; exact (Le.i (Le.i (Le.b Le.r fun _ => (Le.b (gtq _) fun _ => (Le.i Le.r ((g51 fuel) _)))) Le.r) Le.r)
def g5w (x : List SMember × Int × Int × Int) : Option ((Int × Int) ⊕ (Int)) := (g3q 40) x
theorem gb8 : ∀ x, Le (g5w x) (gg x) := (g51 40)
def g6p (x_ : List SMember × Int) : Option (Int × Int) :=
 match x_ with
 | (s, b) =>
 g5w (s, (s.length : Int), 0, b) >>= fun o =>
 match o with
 | .inl o_1 =>
 some (o_1.1, o_1.2)
 | .inr o_2 =>
 some ((-1), o_2)
theorem gcz : ∀ x, Le (g6p x) (g2z x) := fun x => match x with | (_, _) => (Le.b (gb8 _) fun _ => Le.r)
def g6k (x_ : SType × Int) : Option (Int × Bool) :=
 match x_ with
 | (t, id) =>
 g6p (t.Members, id) >>= fun r =>
 some (maxI r.1 0, decide (0 ≤ r.1))
theorem g7f : ∀ x, Le (g6k x) (g2e x) := fun x => match x with | (_, _) => (Le.b (gcz _) fun _ => Le.r)
def gjt : Nat → (Bool × List SRaw × Int × Int × List SType × SValue × Int × List UInt8 × Int × Int × Int × List SSymbol × List SMember × Int × Int × Bool → Option ((Bool) ⊕ (Bool × List SType × Int × Bool × Int × List UInt8 × Int × List SValue × List SValue × List SRaw × Int × List UInt8 × Int × Int × Int × List SSymbol × List SMember × Int × Int × Bool)))
 | 0 => fun _ => none
 | fuel + 1 =>
 fun (x_ : Bool × List SRaw × Int × Int × List SType × SValue × Int × List UInt8 × Int × Int × Int × List SSymbol × List SMember × Int × Int × Bool) => match x_ with
 | (plain_3, t111, t112_1, t113, b_31, b_32, b_33, b_34, b_35, b_36, b_37, b_38, b_39, b_40, b_41, b_42) =>
 if decide (t113 < t112_1) = true then
 if inR t113 t111.length = true then
 some (t111.getD t113.toNat dSRaw) >>= fun x0_4 =>
 g6k ((⟨b_33, b_34, b_35, b_36, b_37, b_38, b_39, b_40, b_41, b_42⟩ : SType), x0_4.ID) >>= fun r_14 =>
 (if (!r_14.2) = true then gjs x0_4.ID else some false) >>= fun r_17 =>
 some (bif r_14.2 then true else (!r_17)) >>= fun t131 =>
 some (decide (0 < t113)) >>= fun t134 =>
 some (subI .i64 t113 1) >>= fun t141 =>
 if (inR t141 b_32.Rest.length || (!((!t131) && t134))) = true then
 if (bif t131 then true else bif t134 then decide (x0_4.ID ≤ (b_32.Rest.getD t141.toNat dSRaw).ID) else false) = true then
 some (.inl false)
 else
 (gjt fuel) (plain_3, t111, t112_1, addI .i64 t113 1, b_31, SValue.eta b_32, b_33, b_34, b_35, b_36, b_37, b_38, b_39, b_40, b_41, b_42)
 else none
 else none
 else
 some (.inr (plain_3, b_31, b_32.Kind, b_32.Bool_, b_32.Int_, b_32.Str, b_32.ID, b_32.Keys, b_32.Items, b_32.Rest, b_33, b_34, b_35, b_36, b_37, b_38, b_39, b_40, b_41, b_42))
theorem glm : ∀ n, (∀ x, Le ((gjt n) x) (g26 x))
 | 0 => fun _ => Le.n
 | fuel + 1 => fun x => match x with | (_, _, _, _, _, _, _, _, _, _, _, _, _, _, _, _) => by rw [g26]; exact (Le.i (Le.i (Le.b Le.r fun _ => (Le.b (g7f _) fun _ => (Le.b (Le.i (gmc _) Le.r) fun _ => (Le.b Le.r fun _ => (Le.b Le.r fun _ => (Le.b Le.r fun _ => (Le.i (Le.i Le.r ((glm fuel) _)) Le.r))))))) Le.r) Le.r)
def gpf (x : Bool × List SRaw × Int × Int × List SType × SValue × Int × List UInt8 × Int × Int × Int × List SSymbol × List SMember × Int × Int × Bool) : Option ((Bool) ⊕ (Bool × List SType × Int × Bool × Int × List UInt8 × Int × List SValue × List SValue × List SRaw × Int × List UInt8 × Int × Int × Int × List SSymbol × List SMember × Int × Int × Bool)) := (gjt 40) x
theorem gvc : ∀ x, Le (gpf x) (g26 x) := (glm 40)
def gq3 (x0 : Int) : Option (Bool) :=
 some (!(decide (x0 = x0)))
theorem gts : ∀ x, Le (gq3 x) (gl4 x) := fun _ => Le.r
def gs6 (x_ : Int × Int) : Option (Int) :=
 match x_ with
 | (x0, y) =>
 gq3 x0 >>= fun r =>
 gq3 y >>= fun r_1 =>
 if r = true then
 if r_1 = true then
 some 0
 else
 some (-1)
 else
 if r_1 = true then
 some 1
 else
 if decide (x0 < y) = true then
 some (-1)
 else
 if decide (y < x0) = true then
 some 1
 else
 some 0
theorem gww : ∀ x, Le (gs6 x) (gh1 x) := fun x => match x with | (_, _) => (Le.b (gts _) fun _ => (Le.b (gts _) fun _ => Le.r))
def gmd (x0 : Int) : Option (Bool) :=
 some (!(decide (x0 = x0)))
theorem gr2 : ∀ x, Le (gmd x) (gh2 x) := fun _ => Le.r
def gju (x_ : Int × Int) : Option (Int) :=
 match x_ with
 | (x0, y) =>
 gmd x0 >>= fun r =>
 gmd y >>= fun r_1 =>
 if r = true then
 if r_1 = true then
 some 0
 else
 some (-1)
 else
 if r_1 = true then
 some 1
 else
 if decide (x0 < y) = true then
 some (-1)
 else
 if decide (y < x0) = true then
 some 1
 else
 some 0
theorem gog : ∀ x, Le (gju x) (gaf x) := fun x => match x with | (_, _) => (Le.b (gr2 _) fun _ => (Le.b (gr2 _) fun _ => Le.r))
def gme (x0 : List UInt8) : Option (Bool) :=
 some (!(decide (x0 = x0)))
theorem gr3 : ∀ x, Le (gme x) (gh3 x) := fun _ => Le.r
def gpg (x_ : List UInt8 × List UInt8) : Option (Int) :=
 match x_ with
 | (x0, y) =>
 gme x0 >>= fun r =>
 gme y >>= fun r_1 =>
 if r = true then
 if r_1 = true then
 some 0
 else
 some (-1)
 else
 if r_1 = true then
 some 1
 else
 if Op.bytesLess x0 y = true then
 some (-1)
 else
 if (!(Op.bytesLess x0 y || decide (x0 = y))) = true then
 some 1
 else
 some 0
theorem gvd : ∀ x, Le (gpg x) (gd3 x) := fun x => match x with | (_, _) => (Le.b (gr3 _) fun _ => (Le.b (gr3 _) fun _ => Le.r))
def gq4 : Nat → (Int × List Int × Int × Int → Option ((Int) ⊕ (Int)))
 | 0 => fun _ => none
 | fuel + 1 =>
 fun (x_ : Int × List Int × Int × Int) => match x_ with
 | (zero_1, t6, t7_1, t8) =>
 if decide (t8 < t7_1) = true then
 if inR t8 t6.length = true then
 some (t6.getD t8.toNat 0) >>= fun x0 =>
 if (!(decide (x0 = zero_1))) = true then
 some (.inl x0)
 else
 (gq4 fuel) (zero_1, t6, t7_1, addI .i64 t8 1)
 else none
 else
 some (.inr zero_1)
theorem gr4 : ∀ n, (∀ x, Le ((gq4 n) x) (g5p x))
 | 0 => fun _ => Le.n
 | fuel + 1 => fun x => match x with | (_, _, _, _) => by rw [g5p]; exact (Le.i (Le.i (Le.b Le.r fun _ => (Le.i Le.r ((gr4 fuel) _))) Le.r) Le.r)
def gus (x : Int × List Int × Int × Int) : Option ((Int) ⊕ (Int)) := (gq4 40) x
theorem gxr : ∀ x, Le (gus x) (g5p x) := (gr4 40)
def gxs (vals : List Int) : Option (Int) :=
 gus (0, vals, (vals.length : Int), 0) >>= fun o =>
 match o with
 | .inl o_1 =>
 some o_1
 | .inr o_2 =>
 some o_2
theorem gyb : ∀ x, Le (gxs x) (gt9 x) := fun _ => (Le.b (gxr _) fun _ => Le.r)
def ges (n : Int) : Option (Int) :=
 some (xorI .u64 (shlI .u64 (wrp .u64 n) 1) (wrp .u64 (shrI .i64 n 63)))
theorem gia : ∀ x, Le (ges x) (g87 x) := fun _ => Le.r
def gph (x_ : SValue × SValue) : Option (Int) :=
 match x_ with
 | (a, b) =>
 if (!(decide (a.Kind = b.Kind))) = true then
 some 0
 else
 if decide (a.Kind = 1) = true then
 if eqB a.Bool_ b.Bool_ = true then
 some 0
 else
 if b.Bool_ = true then
 some (-1)
 else
 some 1
 else
 if decide (a.Kind = 2) = true then
 ges a.Int_ >>= fun r =>
 ges b.Int_ >>= fun r_1 =>
 gs6 (r, r_1) >>= fun r_2 =>
 some r_2
 else
 if decide (a.Kind = 3) = true then
 gju ((a.Str.length : Int), (b.Str.length : Int)) >>= fun r_3 =>
 gpg (a.Str, b.Str) >>= fun r_4 =>
 gxs [r_3, r_4] >>= fun r_5 =>
 some r_5
 else
 if decide (a.Kind = 4) = true then
 gju (a.ID, b.ID) >>= fun r_6 =>
 some r_6
 else
 some 0
theorem gve : ∀ x, Le (gph x) (g6n x) := fun x => match x with | (_, _) => (Le.i Le.r (Le.i Le.r (Le.i (Le.b (gia _) fun _ => (Le.b (gia _) fun _ => (Le.b (gww _) fun _ => Le.r))) (Le.i (Le.b (gog _) fun _ => (Le.b (gvd _) fun _ => (Le.b (gyb _) fun _ => Le.r))) (Le.i (Le.b (gog _) fun _ => Le.r) Le.r)))))
def gjv : Nat → (Bool × Int × List SType × SValue × Int × List UInt8 × Int × Int × Int × List SSymbol × List SMember × Int × Int × Bool → Option ((Bool) ⊕ (Bool × List SType × SValue × Int × List UInt8 × Int × Int × Int × List SSymbol × List SMember × Int × Int × Bool)))
 | 0 => fun _ => none
 | fuel + 1 =>
 fun (x_ : Bool × Int × List SType × SValue × Int × List UInt8 × Int × Int × Int × List SSymbol × List SMember × Int × Int × Bool) => match x_ with
 | (plain_5, i, b_52, b_53, b_54, b_55, b_56, b_57, b_58, b_59, b_60, b_61, b_62, b_63) =>
 if decide (i < (b_53.Keys.length : Int)) = true then
 some (subI .i64 i 1) >>= fun t291 =>
 if inR t291 b_53.Keys.length = true then
 if inR i b_53.Keys.length = true then
 gph (SValue.eta (b_53.Keys.getD t291.toNat dSValue), SValue.eta (b_53.Keys.getD i.toNat dSValue)) >>= fun r_19 =>
 if decide (0 ≤ r_19) = true then
 some (.inl false)
 else
 (gjv fuel) (plain_5, addI .i64 i 1, b_52, SValue.eta b_53, b_54, b_55, b_56, b_57, b_58, b_59, b_60, b_61, b_62, b_63)
 else none
 else none
 else
 some (.inr (plain_5, b_52, SValue.eta b_53, b_54, b_55, b_56, b_57, b_58, b_59, b_60, b_61, b_62, b_63))
theorem gln : ∀ n, (∀ x, Le ((gjv n) x) (g1y x))
 | 0 => fun _ => Le.n
 | fuel + 1 => fun x => match x with | (_, _, _, _, _, _, _, _, _, _, _, _, _, _) => by rw [g1y]; exact (Le.i (Le.b Le.r fun _ => (Le.i (Le.i (Le.b (gve _) fun _ => (Le.i Le.r ((gln fuel) _))) Le.r) Le.r)) Le.r)
def gpi (x : Bool × Int × List SType × SValue × Int × List UInt8 × Int × Int × Int × List SSymbol × List SMember × Int × Int × Bool) : Option ((Bool) ⊕ (Bool × List SType × SValue × Int × List UInt8 × Int × Int × Int × List SSymbol × List SMember × Int × Int × Bool)) := (gjv 40) x
theorem gvf : ∀ x, Le (gpi x) (g1y x) := (gln 40)
def g6 : Nat → (List SValue × List SType × Int × Bool → Option (Bool × List SType × Int × Bool)) × (List SValue × List SType × Int × Bool → Option (Int × List SType × Int × Bool)) × (SSchema × Int × List SValue × Bool → Option (Bool)) × (SValue × List SType × Int × Bool → Option (Bool × List SType × Int × Bool)) × (SSchema × Int × SValue × Bool → Option (Bool)) × (List SValue × Int × Int × List SType × Int × Bool → Option ((Int × List SType × Int × Bool) ⊕ (List SType × Int × Bool))) × (Bool × List SMember × Int × Int × List SType × Int × Bool × Int × List UInt8 × Int × List SValue × List SValue × List SRaw → Option ((Bool) ⊕ (Unit)))
 | 0 => (fun _ => none, fun _ => none, fun _ => none, fun _ => none, fun _ => none, fun _ => none, fun _ => none)
 | fuel + 1 =>
 (fun (x_ : List SValue × List SType × Int × Bool) => match x_ with
 | (s, b, b_1, b_2) =>
 (g6 fuel).2.1 (s, b, b_1, b_2) >>= fun r =>
 some (decide (0 ≤ r.1), r.2.1, r.2.2.1, r.2.2.2),
 fun (x_ : List SValue × List SType × Int × Bool) => match x_ with
 | (s, b, b_1, b_2) =>
 (g6 fuel).2.2.2.2.2.1 (s, (s.length : Int), 0, b, b_1, b_2) >>= fun o =>
 match o with
 | .inl o_1 =>
 some (o_1.1, o_1.2.1, o_1.2.2.1, o_1.2.2.2)
 | .inr o_2 =>
 some ((-1), o_2.1, o_2.2.1, o_2.2.2),
 fun (x_ : SSchema × Int × List SValue × Bool) => match x_ with
 | (s, t, l, plain) =>
 (g6 fuel).1 (l, s.Types, t, plain) >>= fun r =>
 some (!r.1),
 fun (x_ : SValue × List SType × Int × Bool) => match x_ with
 | (v, b, b_1, b_2) =>
 (g6 fuel).2.2.2.2.1 ((⟨b⟩ : SSchema), b_1, SValue.eta v, b_2) >>= fun r =>
 some ((!r), b, b_1, b_2),
 fun (x_ : SSchema × Int × SValue × Bool) => match x_ with
 | (s, t, v, plain) =>
 if (bif decide (t < 0) then true else decide ((s.Types.length : Int) ≤ t)) = true then
 some false
 else
 if inR t s.Types.length = true then
 some (s.Types.getD t.toNat dSType) >>= fun x0 =>
 some (!(decide (v.Kind = x0.Kind))) >>= fun t39 =>
 (if (!t39) = true then gr1 (SValue.eta v) else some false) >>= fun r =>
 if (bif t39 then true else (!r)) = true then
 some false
 else
 if decide (x0.Kind = 2) = true then
 some (bif decide (x0.Low ≤ v.Int_) then decide (v.Int_ ≤ x0.High) else false)
 else
 if decide (x0.Kind = 3) = true then
 some (decide ((v.Str.length : Int) ≤ x0.Max))
 else
 if decide (x0.Kind = 4) = true then
 gjr (x0, v.ID) >>= fun r_1 =>
 some (bif x0.Open then (!plain) else false) >>= fun t85 =>
 (if ((!r_1.2) && t85) = true then gjs v.ID else some false) >>= fun r_4 =>
 some (bif r_1.2 then true else bif t85 then r_4 else false)
 else
 if decide (x0.Kind = 5) = true then
 if (bif (!(decide ((v.Items.length : Int) = (x0.Members.length : Int)))) then true else bif plain then decide (0 < (v.Rest.length : Int)) else false) = true then
 some false
 else
 gpf (plain, v.Rest, (v.Rest.length : Int), 0, s.Types, SValue.eta v, x0.Kind, x0.Name, x0.Low, x0.High, x0.Max, x0.Symbols, x0.Members, x0.Key, x0.Elem, x0.Open) >>= fun o =>
 match o with
 | .inl o_1 =>
 some o_1
 | .inr o_2 =>
 (g6 fuel).2.2.2.2.2.2 (o_2.1, o_2.2.2.2.2.2.2.2.2.2.2.2.2.2.2.2.2.1, (o_2.2.2.2.2.2.2.2.2.2.2.2.2.2.2.2.2.1.length : Int), 0, o_2.2.1, o_2.2.2.1, o_2.2.2.2.1, o_2.2.2.2.2.1, o_2.2.2.2.2.2.1, o_2.2.2.2.2.2.2.1, o_2.2.2.2.2.2.2.2.1, o_2.2.2.2.2.2.2.2.2.1, o_2.2.2.2.2.2.2.2.2.2.1) >>= fun o_3 =>
 match o_3 with
 | .inl o_4 =>
 some o_4
 | .inr o_5 =>
 some true
 else
 if decide (x0.Kind = 6) = true then
 g6k (x0, v.ID) >>= fun r_5 =>
 if r_5.2 = true then
 some (bif decide ((v.Items.length : Int) = 1) then decide ((v.Rest.length : Int) = 0) else false) >>= fun t188 =>
 if (inR r_5.1 x0.Members.length || (!t188)) = true then
 if (inR 0 v.Items.length || (!t188)) = true then
 (if t188 = true then (g6 fuel).2.2.2.2.1 ((⟨s.Types⟩ : SSchema), (x0.Members.getD r_5.1.toNat dSMember).Type_, SValue.eta (v.Items.getD (0 : Int).toNat dSValue), plain) else some false) >>= fun r_8 =>
 some (bif t188 then r_8 else false)
 else none
 else none
 else
 some (bif x0.Open then (!plain) else false) >>= fun t209 =>
 (if t209 = true then gjs v.ID else some false) >>= fun r_9 =>
 some (bif bif bif t209 then r_9 else false then decide ((v.Items.length : Int) = 0) else false then decide ((v.Rest.length : Int) = 1) else false) >>= fun t226 =>
 if (inR 0 v.Rest.length || (!t226)) = true then
 some (bif t226 then decide ((v.Rest.getD (0 : Int).toNat dSRaw).ID = v.ID) else false)
 else none
 else
 if decide (x0.Kind = 7) = true then
 some (decide ((v.Items.length : Int) ≤ x0.Max)) >>= fun t244 =>
 (if t244 = true then (g6 fuel).2.2.1 ((⟨s.Types⟩ : SSchema), x0.Elem, v.Items, plain) else some false) >>= fun r_10 =>
 some (bif t244 then r_10 else false)
 else
 if decide (x0.Kind = 8) = true then
 some (bif decide (x0.Max < (v.Keys.length : Int)) then true else (!(decide ((v.Items.length : Int) = (v.Keys.length : Int))))) >>= fun t270 =>
 (if (!t270) = true then (g6 fuel).2.2.1 ((⟨s.Types⟩ : SSchema), x0.Key, v.Keys, plain) else some false) >>= fun r_11 =>
 if (bif t270 then true else (!r_11)) = true then
 some false
 else
 gpi (plain, 1, s.Types, SValue.eta v, x0.Kind, x0.Name, x0.Low, x0.High, x0.Max, x0.Symbols, x0.Members, x0.Key, x0.Elem, x0.Open) >>= fun o_6 =>
 match o_6 with
 | .inl o_7 =>
 some o_7
 | .inr o_8 =>
 (g6 fuel).2.2.1 ((⟨o_8.2.1⟩ : SSchema), o_8.2.2.2.2.2.2.2.2.2.2.2.1, o_8.2.2.1.Items, o_8.1) >>= fun r_12 =>
 some r_12
 else
 if decide (x0.Kind = 9) = true then
 some (decide ((v.Items.length : Int) ≤ 1)) >>= fun t313 =>
 (if t313 = true then (g6 fuel).2.2.1 ((⟨s.Types⟩ : SSchema), x0.Elem, v.Items, plain) else some false) >>= fun r_13 =>
 some (bif t313 then r_13 else false)
 else
 some true
 else none,
 fun (x_ : List SValue × Int × Int × List SType × Int × Bool) => match x_ with
 | (s_1, t7_1, t8, b_9, b_10, b_11) =>
 if decide (t8 < t7_1) = true then
 if inR t8 s_1.length = true then
 (g6 fuel).2.2.2.1 (SValue.eta (s_1.getD t8.toNat dSValue), b_9, b_10, b_11) >>= fun r =>
 if r.1 = true then
 some (.inl (t8, r.2.1, r.2.2.1, r.2.2.2))
 else
 (g6 fuel).2.2.2.2.2.1 (s_1, t7_1, addI .i64 t8 1, r.2.1, r.2.2.1, r.2.2.2)
 else none
 else
 some (.inr (b_9, b_10, b_11)),
 fun (x_ : Bool × List SMember × Int × Int × List SType × Int × Bool × Int × List UInt8 × Int × List SValue × List SValue × List SRaw) => match x_ with
 | (plain_4, t150, t151_1, t152, b_43, b_44, b_45, b_46, b_47, b_48, b_49, b_50, b_51) =>
 if decide (t152 < t151_1) = true then
 if inR t152 t150.length = true then
 if inR t152 b_50.length = true then
 (g6 fuel).2.2.2.2.1 ((⟨b_43⟩ : SSchema), (t150.getD t152.toNat dSMember).Type_, SValue.eta (b_50.getD t152.toNat dSValue), plain_4) >>= fun r_18 =>
 if (!r_18) = true then
 some (.inl false)
 else
 (g6 fuel).2.2.2.2.2.2 (plain_4, t150, t151_1, addI .i64 t152 1, b_43, b_44, b_45, b_46, b_47, b_48, b_49, b_50, b_51)
 else none
 else none
 else
 some (.inr ()))
theorem ga : ∀ n, (∀ x, Le ((g6 n).1 x) (g1g x)) ∧ (∀ x, Le ((g6 n).2.1 x) (g2b x)) ∧ (∀ x, Le ((g6 n).2.2.1 x) (g69 x)) ∧ (∀ x, Le ((g6 n).2.2.2.1 x) (gf8 x)) ∧ (∀ x, Le ((g6 n).2.2.2.2.1 x) (g37 x)) ∧ (∀ x, Le ((g6 n).2.2.2.2.2.1 x) (gq x)) ∧ (∀ x, Le ((g6 n).2.2.2.2.2.2 x) (g2r x))
 | 0 => ⟨fun _ => Le.n, fun _ => Le.n, fun _ => Le.n, fun _ => Le.n, fun _ => Le.n, fun _ => Le.n, fun _ => Le.n⟩
 | fuel + 1 => ⟨fun x => match x with | (_, _, _, _) => by rw [g1g]; exact (Le.b ((ga fuel).2.1 _) fun _ => Le.r),
 fun x => match x with | (_, _, _, _) => by rw [g2b]; exact (Le.b ((ga fuel).2.2.2.2.2.1 _) fun _ => Le.r),
 fun x => match x with | (_, _, _, _) => by rw [g69]; exact (Le.b ((ga fuel).1 _) fun _ => Le.r),
 fun x => match x with | (_, _, _, _) => by rw [gf8]; exact (Le.b ((ga fuel).2.2.2.2.1 _) fun _ => Le.r),
 fun x => match x with | (_, _, _, _) => by rw [g37]; exact (Le.i Le.r (Le.i (Le.b Le.r fun _ => (Le.b Le.r fun _ => (Le.b (Le.i (gwf _) Le.r) fun _ => (Le.i Le.r (Le.i Le.r (Le.i Le.r (Le.i (Le.b (gof _) fun _ => (Le.b Le.r fun _ => (Le.b (Le.i (gmc _) Le.r) fun _ => Le.r))) (Le.i (Le.i Le.r (Le.b (gvc _) fun o => match o with | .inl _ => Le.r | .inr _ => (Le.b ((ga fuel).2.2.2.2.2.2 _) fun _ => Le.r))) (Le.i (Le.b (g7f _) fun _ => (Le.i (Le.b Le.r fun _ => (Le.i (Le.i (Le.b (Le.i ((ga fuel).2.2.2.2.1 _) Le.r) fun _ => Le.r) Le.r) Le.r)) (Le.b Le.r fun _ => (Le.b (Le.i (gmc _) Le.r) fun _ => Le.r)))) (Le.i (Le.b Le.r fun _ => (Le.b (Le.i ((ga fuel).2.2.1 _) Le.r) fun _ => Le.r)) (Le.i (Le.b Le.r fun _ => (Le.b (Le.i ((ga fuel).2.2.1 _) Le.r) fun _ => (Le.i Le.r (Le.b (gvf _) fun o => match o with | .inl _ => Le.r | .inr _ => (Le.b ((ga fuel).2.2.1 _) fun _ => Le.r))))) (Le.i (Le.b Le.r fun _ => (Le.b (Le.i ((ga fuel).2.2.1 _) Le.r) fun _ => Le.r)) Le.r)))))))))))) Le.r)),
 fun x => match x with | (_, _, _, _, _, _) => by rw [gq]; exact (Le.i (Le.i (Le.b ((ga fuel).2.2.2.1 _) fun _ => (Le.i Le.r ((ga fuel).2.2.2.2.2.1 _))) Le.r) Le.r),
 fun x => match x with | (_, _, _, _, _, _, _, _, _, _, _, _, _) => by rw [g2r]; exact (Le.i (Le.i (Le.i (Le.b ((ga fuel).2.2.2.2.1 _) fun _ => (Le.i Le.r ((ga fuel).2.2.2.2.2.2 _))) Le.r) Le.r) Le.r)⟩
def gtt (x : SSchema × Int × SValue × Bool) : Option (Bool) := (g6 40).2.2.2.2.1 x
theorem gxa : ∀ x, Le (gtt x) (g37 x) := (ga 40).2.2.2.2.1
def goh (x_ : SSchema × Int × SValue) : Option (Bool) :=
 match x_ with
 | (s, t, v) =>
 gtt ((⟨s.Types⟩ : SSchema), t, SValue.eta v, false) >>= fun r =>
 some r
theorem gs7 : ∀ x, Le (goh x) (ggb x) := fun x => match x with | (_, _, _) => (Le.b (gxa _) fun _ => Le.r)
def goi (x_ : SSchema × Int × SValue) : Option (Int) :=
 match x_ with
 | (s, t, v) =>
 gi9 ((⟨s.Types⟩ : SSchema), t) >>= fun r =>
 if (!(decide (r = 0))) = true then
 some r
 else
 goh ((⟨s.Types⟩ : SSchema), t, SValue.eta v) >>= fun r_1 =>
 if (!r_1) = true then
 some 1
 else
 some 0
theorem guo : ∀ x, Le (goi x) (g47 x) := fun x => match x with | (_, _, _) => (Le.b (gmw _) fun _ => (Le.i Le.r (Le.b (gs7 _) fun _ => Le.r)))
def gjw : Nat → (Int × Int × List Int → Option (Int × List Int))
 | 0 => fun _ => none
 | fuel + 1 =>
 fun (x_ : Int × Int × List Int) => match x_ with
 | (n_1, i_1, b_1) =>
 if decide (0 < n_1) = true then
 some (subI .i64 i_1 1) >>= fun t10 =>
 if inR t10 8 = true then
 if decide (t10.toNat < b_1.length) = true then
 (gjw fuel) (shrI .u64 n_1 8, t10, b_1.set t10.toNat (wrp .u8 n_1))
 else none
 else none
 else
 some (i_1, b_1)
theorem glo : ∀ n, (∀ x, Le ((gjw n) x) (g4q x))
 | 0 => fun _ => Le.n
 | fuel + 1 => fun x => match x with | (_, _, _) => by rw [g4q]; exact (Le.i (Le.b Le.r fun _ => (Le.i (Le.i ((glo fuel) _) Le.r) Le.r)) Le.r)
def gpj (x : Int × Int × List Int) : Option (Int × List Int) := (gjw 40) x
theorem gvg : ∀ x, Le (gpj x) (g4q x) := (glo 40)
def goj (n : Int) : Option (List UInt8) :=
 gpj (n, 8, [0, 0, 0, 0, 0, 0, 0, 0]) >>= fun o =>
 if slR o.1 8 8 = true then
 if subR o.1.toNat ((8 : Int).toNat - o.1.toNat) o.2.length = true then
 some (strOf ((o.2.drop o.1.toNat).take ((8 : Int).toNat - o.1.toNat)))
 else none
 else none
theorem gs8 : ∀ x, Le (goj x) (ggc x) := fun _ => (Le.b (gvg _) fun _ => Le.r)
def gb : Nat → (List SValue × List SValue → Option (Bool)) × (SValue × SValue → Option (Bool)) × (List SValue × List SValue × Int × Int → Option ((Bool) ⊕ (Unit)))
 | 0 => (fun _ => none, fun _ => none, fun _ => none)
 | fuel + 1 =>
 (fun (x_ : List SValue × List SValue) => match x_ with
 | (s1, s2) =>
 if (!(decide ((s1.length : Int) = (s2.length : Int)))) = true then
 some false
 else
 (gb fuel).2.2 (s2, s1, (s1.length : Int), 0) >>= fun o =>
 match o with
 | .inl o_1 =>
 some o_1
 | .inr o_2 =>
 some true,
 fun (x_ : SValue × SValue) => match x_ with
 | (a, b) =>
 some (bif bif bif bif decide (a.Kind = b.Kind) then eqB a.Bool_ b.Bool_ else false then decide (a.Int_ = b.Int_) else false then decide (a.Str = b.Str) else false then decide (a.ID = b.ID) else false) >>= fun t37 =>
 (if t37 = true then g6v (a.Rest, b.Rest) else some false) >>= fun r =>
 some (bif t37 then r else false) >>= fun t44 =>
 (if t44 = true then (gb fuel).1 (a.Keys, b.Keys) else some false) >>= fun r_1 =>
 some (bif t44 then r_1 else false) >>= fun t51 =>
 (if t51 = true then (gb fuel).1 (a.Items, b.Items) else some false) >>= fun r_2 =>
 some (bif t51 then r_2 else false),
 fun (x_ : List SValue × List SValue × Int × Int) => match x_ with
 | (s2_1, t15, t16_1, t17) =>
 if decide (t17 < t16_1) = true then
 if inR t17 t15.length = true then
 if inR t17 s2_1.length = true then
 (gb fuel).2.1 (SValue.eta (t15.getD t17.toNat dSValue), SValue.eta (s2_1.getD t17.toNat dSValue)) >>= fun r =>
 if (!r) = true then
 some (.inl false)
 else
 (gb fuel).2.2 (s2_1, t15, t16_1, addI .i64 t17 1)
 else none
 else none
 else
 some (.inr ()))
theorem gp : ∀ n, (∀ x, Le ((gb n).1 x) (gi x)) ∧ (∀ x, Le ((gb n).2.1 x) (g7j x)) ∧ (∀ x, Le ((gb n).2.2 x) (ge x))
 | 0 => ⟨fun _ => Le.n, fun _ => Le.n, fun _ => Le.n⟩
 | fuel + 1 => ⟨fun x => match x with | (_, _) => by rw [gi]; exact (Le.i Le.r (Le.b ((gp fuel).2.2 _) fun _ => Le.r)),
 fun x => match x with | (_, _) => by rw [g7j]; exact (Le.b Le.r fun _ => (Le.b (Le.i (gak _) Le.r) fun _ => (Le.b Le.r fun _ => (Le.b (Le.i ((gp fuel).1 _) Le.r) fun _ => (Le.b Le.r fun _ => (Le.b (Le.i ((gp fuel).1 _) Le.r) fun _ => Le.r)))))),
 fun x => match x with | (_, _, _, _) => by rw [ge]; exact (Le.i (Le.i (Le.i (Le.b ((gp fuel).2.1 _) fun _ => (Le.i Le.r ((gp fuel).2.2 _))) Le.r) Le.r) Le.r)⟩
def gs9 (x : SValue × SValue) : Option (Bool) := (gb 40).2.1 x
theorem gwx : ∀ x, Le (gs9 x) (g7j x) := (gp 40).2.1
def gok (x_ : SMember × SValue) : Option (Bool) :=
 match x_ with
 | (m, v) =>
 (if m.HasDefault = true then gs9 (SValue.eta m.Default, SValue.eta v) else some false) >>= fun r =>
 some (bif m.HasDefault then r else false)
theorem gup : ∀ x, Le (gok x) (gbi x) := fun x => match x with | (_, _) => (Le.b (Le.i (gwx _) Le.r) fun _ => Le.r)
def gjx : Nat → (Int × Int × List Int → Option (Int × Int × List Int))
 | 0 => fun _ => none
 | fuel + 1 =>
 fun (x_ : Int × Int × List Int) => match x_ with
 | (n_2, i_1, b_1) =>
 if decide (128 ≤ n_2) = true then
 if inR i_1 10 = true then
 if decide (i_1.toNat < b_1.length) = true then
 (gjx fuel) (shrI .u64 n_2 7, addI .i64 i_1 1, b_1.set i_1.toNat (orI .u8 (wrp .u8 n_2) 128))
 else none
 else none
 else
 some (n_2, i_1, b_1)
theorem glp : ∀ n, (∀ x, Le ((gjx n) x) (g4r x))
 | 0 => fun _ => Le.n
 | fuel + 1 => fun x => match x with | (_, _, _) => by rw [g4r]; exact (Le.i (Le.i (Le.i ((glp fuel) _) Le.r) Le.r) Le.r)
def gpk (x : Int × Int × List Int) : Option (Int × Int × List Int) := (gjx 40) x
theorem gvh : ∀ x, Le (gpk x) (g4r x) := (glp 40)
def gg3 (n : Int) : Option (List UInt8) :=
 gpk (n, 0, [0, 0, 0, 0, 0, 0, 0, 0, 0, 0]) >>= fun o =>
 if inR o.2.1 10 = true then
 if decide (o.2.1.toNat < o.2.2.length) = true then
 some (o.2.2.set o.2.1.toNat (wrp .u8 o.1)) >>= fun l_1 =>
 some (addI .i64 o.2.1 1) >>= fun t21 =>
 if slR 0 t21 10 = true then
 if subR (0 : Int).toNat t21.toNat l_1.length = true then
 some (strOf ((l_1.drop (0 : Int).toNat).take t21.toNat))
 else none
 else none
 else none
 else none
theorem ghq : ∀ x, Le (gg3 x) (gag x) := fun _ => (Le.b (gvh _) fun _ => Le.r)
def g9g (p : List UInt8) : Option (List UInt8) :=
 gg3 (wrp .u64 (p.length : Int)) >>= fun r =>
 if decide (r.length + p.length ≤ g16z) = true then
 some (r ++ p)
 else none
theorem gal : ∀ x, Le (g9g x) (g6c x) := fun _ => (Le.b (ghq _) fun _ => Le.r)
def gku (x_ : Int × Bool × List UInt8) : Option (List UInt8) :=
 match x_ with
 | (id, critical, p) =>
 some (mulI .u64 2 (wrp .u64 id)) >>= fun t10 =>
 if critical = true then
 gg3 (addI .u64 t10 1) >>= fun r =>
 g9g p >>= fun r_1 =>
 if decide (r.length + r_1.length ≤ g16z) = true then
 some (r ++ r_1)
 else none
 else
 gg3 t10 >>= fun r_2 =>
 g9g p >>= fun r_3 =>
 if decide (r_2.length + r_3.length ≤ g16z) = true then
 some (r_2 ++ r_3)
 else none
theorem gpl : ∀ x, Le (gku x) (gbj x) := fun x => match x with | (_, _, _) => (Le.b Le.r fun _ => (Le.i (Le.b (ghq _) fun _ => (Le.b (gal _) fun _ => Le.r)) (Le.b (ghq _) fun _ => (Le.b (gal _) fun _ => Le.r))))
def g3e (x_ : List UInt8 × List UInt8) : Option (Int × List UInt8) :=
 match x_ with
 | (s, b) =>
 some b >>= fun r =>
 if (decide (r.length = b.length) && true) = true then
 if room 1 (r.length + s.length) = true then
 some ((s.length : Int), catS r s)
 else none
 else none
theorem g4f : ∀ x, Le (g3e x) (g1t x) := fun x => match x with | (_, _) => Le.r
def g9x (b : List UInt8) : Option (List UInt8) :=
 if eqI (b.length : Int) (b.length : Int) = true then
 some b
 else none
theorem geu : ∀ x, Le (g9x x) (g48 x) := fun _ => Le.r
def g99 : Nat → (List SRaw × Int × Int × List SType × Int × List EncodeEntry → Option (List SType × Int × List EncodeEntry))
 | 0 => fun _ => none
 | fuel + 1 =>
 fun (x_ : List SRaw × Int × Int × List SType × Int × List EncodeEntry) => match x_ with
 | (t57, t58_1, t59, b_16, b_17, b_18) =>
 if decide (t59 < t58_1) = true then
 if inR t59 t57.length = true then
 some (t57.getD t59.toNat dSRaw) >>= fun x0_4 =>
 gku (x0_4.ID, false, x0_4.Data) >>= fun r_8 =>
 some [(⟨x0_4.ID, r_8⟩ : EncodeEntry)] >>= fun t72 =>
 if room 24 (b_18 ++ t72).length = true then
 (g99 fuel) (t57, t58_1, addI .i64 t59 1, b_16, b_17, b_18 ++ t72)
 else none
 else none
 else
 some (b_16, b_17, b_18)
theorem gc2 : ∀ n, (∀ x, Le ((g99 n) x) (g1b x))
 | 0 => fun _ => Le.n
 | fuel + 1 => fun x => match x with | (_, _, _, _, _, _) => by rw [g1b]; exact (Le.i (Le.i (Le.b Le.r fun _ => (Le.b (gpl _) fun _ => (Le.b Le.r fun _ => (Le.i ((gc2 fuel) _) Le.r)))) Le.r) Le.r)
def gev (x : List SRaw × Int × Int × List SType × Int × List EncodeEntry) : Option (List SType × Int × List EncodeEntry) := (g99 40) x
theorem gmf : ∀ x, Le (gev x) (g1b x) := (gc2 40)
def g9a : Nat → (Int × Int × List SType × Int × List EncodeEntry × List UInt8 → Option (List SType × Int × List UInt8))
 | 0 => fun _ => none
 | fuel + 1 =>
 fun (x_ : Int × Int × List SType × Int × List EncodeEntry × List UInt8) => match x_ with
 | (t78_1, t79, b_19, b_20, b_21, b_22) =>
 if decide (t79 < t78_1) = true then
 if inR t79 b_21.length = true then
 if decide (t79.toNat < b_21.length) = true then
 g3e ((b_21.getD t79.toNat dEncodeEntry).text, b_22) >>= fun r_9 =>
 (g9a fuel) (t78_1, addI .i64 t79 1, b_19, b_20, b_21, r_9.2)
 else none
 else none
 else
 some (b_19, b_20, b_22)
theorem gc3 : ∀ n, (∀ x, Le ((g9a n) x) (g1c x))
 | 0 => fun _ => Le.n
 | fuel + 1 => fun x => match x with | (_, _, _, _, _, _) => by rw [g1c]; exact (Le.i (Le.i (Le.i (Le.b (g4f _) fun _ => ((gc3 fuel) _)) Le.r) Le.r) Le.r)
def gew (x : Int × Int × List SType × Int × List EncodeEntry × List UInt8) : Option (List SType × Int × List UInt8) := (g9a 40) x
theorem gmg : ∀ x, Le (gew x) (g1c x) := (gc3 40)
def gj : Nat → (Int × SValue × Int × List SType × Int → Option (List UInt8 × List SType × Int)) × (SType × SValue × Int × List SType × Int → Option (List UInt8 × List SType × Int)) × (SType × SValue × Int × List SType × Int → Option (List UInt8 × List SType × Int)) × (Int × List SValue × Int × Int × List SType × Int × SValue × SType × List UInt8 → Option (List SType × Int × List UInt8)) × (Int × List SMember × Int × Int × List SType × Int × SValue × List EncodeEntry → Option (List SType × Int × SValue × List EncodeEntry))
 | 0 => (fun _ => none, fun _ => none, fun _ => none, fun _ => none, fun _ => none)
 | fuel + 1 =>
 (fun (x_ : Int × SValue × Int × List SType × Int) => match x_ with
 | (t, v, level, b, b_1) =>
 some (maxI b_1 level) >>= fun t19 =>
 if inR t b.length = true then
 some (b.getD t.toNat dSType) >>= fun x0 =>
 if decide (x0.Kind = 1) = true then
 if v.Bool_ = true then
 some ([1], b, t19)
 else
 some ([], b, t19)
 else
 if decide (x0.Kind = 2) = true then
 ges v.Int_ >>= fun r =>
 goj r >>= fun r_1 =>
 some (r_1, b, t19)
 else
 if decide (x0.Kind = 3) = true then
 some (v.Str, b, t19)
 else
 if decide (x0.Kind = 4) = true then
 goj (wrp .u64 v.ID) >>= fun r_2 =>
 some (r_2, b, t19)
 else
 if decide (x0.Kind = 5) = true then
 (gj fuel).2.1 (x0, SValue.eta v, level, b, t19) >>= fun r_3 =>
 some (r_3.1, r_3.2.1, r_3.2.2)
 else
 if decide (x0.Kind = 6) = true then
 (gj fuel).2.2.1 (x0, SValue.eta v, level, b, t19) >>= fun r_7 =>
 some (r_7.1, r_7.2.1, r_7.2.2)
 else
 if decide (x0.Kind = 9) = true then
 if decide ((v.Items.length : Int) = 0) = true then
 some ([], b, t19)
 else
 if inR 0 v.Items.length = true then
 (gj fuel).1 (x0.Elem, SValue.eta (v.Items.getD (0 : Int).toNat dSValue), addI .i64 level 1, b, t19) >>= fun r_11 =>
 if decide ([1].length + r_11.1.length ≤ g16z) = true then
 some ([1] ++ r_11.1, r_11.2.1, r_11.2.2)
 else none
 else none
 else
 (gj fuel).2.2.2.1 (level, v.Items, (v.Items.length : Int), 0, b, t19, SValue.eta v, x0, []) >>= fun o =>
 g9x o.2.2 >>= fun r_15 =>
 some (r_15, o.1, o.2.1)
 else none,
 fun (x_ : SType × SValue × Int × List SType × Int) => match x_ with
 | (x0, v, level, b, b_1) =>
 (gj fuel).2.2.2.2 (level, x0.Members, (x0.Members.length : Int), 0, b, b_1, SValue.eta v, []) >>= fun o =>
 gev (o.2.2.1.Rest, (o.2.2.1.Rest.length : Int), 0, o.1, o.2.1, o.2.2.2) >>= fun o_1 =>
 sortK sortLt o_1.2.2 >>= fun r =>
 if (decide (r.length = o_1.2.2.length) && true) = true then
 gew ((r.length : Int), 0, o_1.1, o_1.2.1, r, []) >>= fun o_2 =>
 g9x o_2.2.2 >>= fun r_1 =>
 some (r_1, o_2.1, o_2.2.1)
 else none,
 fun (x_ : SType × SValue × Int × List SType × Int) => match x_ with
 | (x0, v, level, b, b_1) =>
 gg3 (wrp .u64 v.ID) >>= fun r =>
 g6k (x0, v.ID) >>= fun r_1 =>
 if (!r_1.2) = true then
 if inR 0 v.Rest.length = true then
 some (v.Rest.getD (0 : Int).toNat dSRaw) >>= fun x0_1 =>
 if decide (r.length + x0_1.Data.length ≤ g16z) = true then
 some (r ++ x0_1.Data, b, b_1)
 else none
 else none
 else
 if inR r_1.1 x0.Members.length = true then
 if inR 0 v.Items.length = true then
 (gj fuel).1 ((x0.Members.getD r_1.1.toNat dSMember).Type_, SValue.eta (v.Items.getD (0 : Int).toNat dSValue), addI .i64 level 1, b, b_1) >>= fun r_4 =>
 if decide (r.length + r_4.1.length ≤ g16z) = true then
 some (r ++ r_4.1, r_4.2.1, r_4.2.2)
 else none
 else none
 else none,
 fun (x_ : Int × List SValue × Int × Int × List SType × Int × SValue × SType × List UInt8) => match x_ with
 | (level_1, t84, t85_1, t86, b_5, b_6, b_7, b_8, b_9) =>
 if decide (t86 < t85_1) = true then
 if inR t86 t84.length = true then
 some (t84.getD t86.toNat dSValue) >>= fun x0_2 =>
 if decide (b_8.Kind = 8) = true then
 if inR t86 b_7.Keys.length = true then
 (gj fuel).1 (b_8.Key, SValue.eta (b_7.Keys.getD t86.toNat dSValue), addI .i64 level_1 1, b_5, b_6) >>= fun r_16 =>
 g9g r_16.1 >>= fun r_20 =>
 g3e (r_20, b_9) >>= fun r_21 =>
 (gj fuel).1 (b_8.Elem, SValue.eta x0_2, addI .i64 level_1 1, r_16.2.1, r_16.2.2) >>= fun r_24 =>
 g9g r_24.1 >>= fun r_28 =>
 g3e (r_28, r_21.2) >>= fun r_29 =>
 (gj fuel).2.2.2.1 (level_1, t84, t85_1, addI .i64 t86 1, r_24.2.1, r_24.2.2, SValue.eta b_7, b_8, r_29.2)
 else none
 else
 (gj fuel).1 (b_8.Elem, SValue.eta x0_2, addI .i64 level_1 1, b_5, b_6) >>= fun r_32 =>
 g9g r_32.1 >>= fun r_36 =>
 g3e (r_36, b_9) >>= fun r_37 =>
 (gj fuel).2.2.2.1 (level_1, t84, t85_1, addI .i64 t86 1, r_32.2.1, r_32.2.2, SValue.eta b_7, b_8, r_37.2)
 else none
 else
 some (b_5, b_6, b_9),
 fun (x_ : Int × List SMember × Int × Int × List SType × Int × SValue × List EncodeEntry) => match x_ with
 | (level_1, t18, t19_1, t20, b_12, b_13, b_14, b_15) =>
 if decide (t20 < t19_1) = true then
 if inR t20 t18.length = true then
 some (t18.getD t20.toNat dSMember) >>= fun x0_1 =>
 if inR t20 b_14.Items.length = true then
 gok ((⟨x0_1.ID, x0_1.Name, x0_1.Type_, x0_1.Critical, x0_1.HasDefault, SValue.eta x0_1.Default⟩ : SMember), SValue.eta (b_14.Items.getD t20.toNat dSValue)) >>= fun r_2 =>
 if (!r_2) = true then
 if inR t20 b_14.Items.length = true then
 (gj fuel).1 (x0_1.Type_, SValue.eta (b_14.Items.getD t20.toNat dSValue), addI .i64 level_1 1, b_12, b_13) >>= fun r_3 =>
 gku (x0_1.ID, x0_1.Critical, r_3.1) >>= fun r_7 =>
 some [(⟨x0_1.ID, r_7⟩ : EncodeEntry)] >>= fun t53 =>
 if room 24 (b_15 ++ t53).length = true then
 (gj fuel).2.2.2.2 (level_1, t18, t19_1, addI .i64 t20 1, r_3.2.1, r_3.2.2, SValue.eta b_14, b_15 ++ t53)
 else none
 else none
 else
 (gj fuel).2.2.2.2 (level_1, t18, t19_1, addI .i64 t20 1, b_12, b_13, SValue.eta b_14, b_15)
 else none
 else none
 else
 some (b_12, b_13, SValue.eta b_14, b_15))
theorem gr : ∀ n, (∀ x, Le ((gj n).1 x) (gv x)) ∧ (∀ x, Le ((gj n).2.1 x) (g4v x)) ∧ (∀ x, Le ((gj n).2.2.1 x) (g49 x)) ∧ (∀ x, Le ((gj n).2.2.2.1 x) (gw x)) ∧ (∀ x, Le ((gj n).2.2.2.2 x) (g1m x))
 | 0 => ⟨fun _ => Le.n, fun _ => Le.n, fun _ => Le.n, fun _ => Le.n, fun _ => Le.n⟩
 | fuel + 1 => ⟨fun x => match x with | (_, _, _, _, _) => by rw [gv]; exact (Le.b Le.r fun _ => (Le.i (Le.b Le.r fun _ => (Le.i Le.r (Le.i (Le.b (gia _) fun _ => (Le.b (gs8 _) fun _ => Le.r)) (Le.i Le.r (Le.i (Le.b (gs8 _) fun _ => Le.r) (Le.i (Le.b ((gr fuel).2.1 _) fun _ => Le.r) (Le.i (Le.b ((gr fuel).2.2.1 _) fun _ => Le.r) (Le.i (Le.i Le.r (Le.i (Le.b ((gr fuel).1 _) fun _ => Le.r) Le.r)) (Le.b ((gr fuel).2.2.2.1 _) fun _ => (Le.b (geu _) fun _ => Le.r)))))))))) Le.r)),
 fun x => match x with | (_, _, _, _, _) => by rw [g4v]; exact (Le.b ((gr fuel).2.2.2.2 _) fun _ => (Le.b (gmf _) fun _ => (Le.b (g1rs sortSWO _) fun _ => (Le.i (Le.b (gmg _) fun _ => (Le.b (geu _) fun _ => Le.r)) Le.r)))),
 fun x => match x with | (_, _, _, _, _) => by rw [g49]; exact (Le.b (ghq _) fun _ => (Le.b (g7f _) fun _ => (Le.i Le.r (Le.i (Le.i (Le.b ((gr fuel).1 _) fun _ => Le.r) Le.r) Le.r)))),
 fun x => match x with | (_, _, _, _, _, _, _, _, _) => by rw [gw]; exact (Le.i (Le.i (Le.b Le.r fun _ => (Le.i (Le.i (Le.b ((gr fuel).1 _) fun _ => (Le.b (gal _) fun _ => (Le.b (g4f _) fun _ => (Le.b ((gr fuel).1 _) fun _ => (Le.b (gal _) fun _ => (Le.b (g4f _) fun _ => ((gr fuel).2.2.2.1 _))))))) Le.r) (Le.b ((gr fuel).1 _) fun _ => (Le.b (gal _) fun _ => (Le.b (g4f _) fun _ => ((gr fuel).2.2.2.1 _)))))) Le.r) Le.r),
 fun x => match x with | (_, _, _, _, _, _, _, _) => by rw [g1m]; exact (Le.i (Le.i (Le.b Le.r fun _ => (Le.i (Le.b (gup _) fun _ => (Le.i (Le.i (Le.b ((gr fuel).1 _) fun _ => (Le.b (gpl _) fun _ => (Le.b Le.r fun _ => (Le.i ((gr fuel).2.2.2.2 _) Le.r)))) Le.r) ((gr fuel).2.2.2.2 _))) Le.r)) Le.r) Le.r)⟩
def gac (x : Int × SValue × Int × List SType × Int) : Option (List UInt8 × List SType × Int) := (gj 40).1 x
theorem gg4 : ∀ x, Le (gac x) (gv x) := (gr 40).1
def gjy (x_ : SSchema × Int × SValue) : Option (List UInt8 × Int) :=
 match x_ with
 | (s, t, v) =>
 goi ((⟨s.Types⟩ : SSchema), t, SValue.eta v) >>= fun r =>
 if (!(decide (r = 0))) = true then
 some ([], r)
 else
 gac (t, SValue.eta v, 1, s.Types, 0) >>= fun r_1 =>
 if (bif decide (4096 < (r_1.1.length : Int)) then true else decide (200 < r_1.2.2)) = true then
 some ([], 3)
 else
 some (r_1.1, 0)
theorem gol : ∀ x, Le (gjy x) (g4s x) := fun x => match x with | (_, _, _) => (Le.b (guo _) fun _ => (Le.i Le.r (Le.b (gg4 _) fun _ => Le.r)))
def gjz : Nat → (List UInt8 × Int × Int × Int → Option ((Int × Int × Int) ⊕ (Unit)))
 | 0 => fun _ => none
 | fuel + 1 =>
 fun (x_ : List UInt8 × Int × Int × Int) => match x_ with
 | (s_1, n, t10_1, t11) =>
 if decide (t11 < t10_1) = true then
 if inR t11 s_1.length = true then
 some (g17g s_1 t11) >>= fun t16 =>
 if (bif decide (t11 = 9) then decide (1 < t16) else false) = true then
 some (.inl (0, 0, 7))
 else
 if decide (128 ≤ t16) = true then
 some (mulI .i64 7 t11) >>= fun t41 =>
 if decide (0 ≤ t41) = true then
 (gjz fuel) (s_1, orI .u64 n (shlI .u64 (wrp .u64 (andI .u8 t16 127)) t41), t10_1, addI .i64 t11 1)
 else none
 else
 if (bif decide (t16 = 0) then decide (0 < t11) else false) = true then
 some (.inl (0, 0, 2))
 else
 some (mulI .i64 7 t11) >>= fun t21 =>
 if decide (0 ≤ t21) = true then
 some (.inl (orI .u64 n (shlI .u64 (wrp .u64 t16) t21), addI .i64 t11 1, 0))
 else none
 else none
 else
 some (.inr ())
theorem glq : ∀ n, (∀ x, Le ((gjz n) x) (g8b x))
 | 0 => fun _ => Le.n
 | fuel + 1 => fun x => match x with | (_, _, _, _) => by rw [g8b]; exact (Le.i (Le.i (Le.b Le.r fun _ => (Le.i Le.r (Le.i (Le.b Le.r fun _ => (Le.i ((glq fuel) _) Le.r)) Le.r))) Le.r) Le.r)
def gpm (x : List UInt8 × Int × Int × Int) : Option ((Int × Int × Int) ⊕ (Unit)) := (gjz 40) x
theorem gvi : ∀ x, Le (gpm x) (g8b x) := (glq 40)
def gtu (s : List UInt8) : Option (Int × Int × Int) :=
 gpm (s, 0, minI 10 (s.length : Int), 0) >>= fun o =>
 match o with
 | .inl o_1 =>
 some (o_1.1, o_1.2.1, o_1.2.2)
 | .inr o_2 =>
 some (0, 0, 10)
theorem gxb : ∀ x, Le (gtu x) (gr7 x) := fun _ => (Le.b (gvi _) fun _ => Le.r)
def ghr (s : List UInt8) : Option (Int × List UInt8 × Bool) :=
 gtu s >>= fun r =>
 if (!(decide (r.2.2 = 0))) = true then
 some (0, [], false)
 else
 if slR r.2.1 (s.length : Int) s.length = true then
 some (r.1, cutL s r.2.1 (s.length : Int), true)
 else none
theorem gkv : ∀ x, Le (ghr x) (gh5 x) := fun _ => (Le.b (gxb _) fun _ => Le.r)
def gmh (s : List UInt8) : Option (List UInt8 × List UInt8 × Bool) :=
 ghr s >>= fun r =>
 if (bif (!r.2.2) then true else decide (wrp .u64 (r.2.1.length : Int) < r.1)) = true then
 some ([], [], false)
 else
 if slR 0 r.1 r.2.1.length = true then
 if slR r.1 (r.2.1.length : Int) r.2.1.length = true then
 some (cutL r.2.1 0 r.1, cutL r.2.1 r.1 (r.2.1.length : Int), true)
 else none
 else none
theorem gr5 : ∀ x, Le (gmh x) (gky x) := fun _ => (Le.b (gkv _) fun _ => Le.r)
def ggz : Nat → (List UInt8 × List (List UInt8) → Option ((Int) ⊕ (List (List UInt8))))
 | 0 => fun _ => none
 | fuel + 1 =>
 fun (x_ : List UInt8 × List (List UInt8)) => match x_ with
 | (s, b_1) =>
 if (!(decide (s = []))) = true then
 gmh s >>= fun r =>
 if (!r.2.2) = true then
 some (.inl 12)
 else
 some [r.1] >>= fun t22 =>
 if room 16 (b_1 ++ t22).length = true then
 (ggz fuel) (r.2.1, b_1 ++ t22)
 else none
 else
 some (.inr b_1)
theorem gk0 : ∀ n, (∀ x, Le ((ggz n) x) (g6e x))
 | 0 => fun _ => Le.n
 | fuel + 1 => fun x => match x with | (_, _) => by rw [g6e]; exact (Le.i (Le.b (gr5 _) fun _ => (Le.i Le.r (Le.b Le.r fun _ => (Le.i ((gk0 fuel) _) Le.r)))) Le.r)
def gmz (x : List UInt8 × List (List UInt8)) : Option ((Int) ⊕ (List (List UInt8))) := (ggz 40) x
theorem gtv : ∀ x, Le (gmz x) (g6e x) := (gk0 40)
def gkw (payload : List UInt8) : Option (List (List UInt8) × Int) :=
 gmz (payload, []) >>= fun o =>
 match o with
 | .inl o_1 =>
 some ([], o_1)
 | .inr o_2 =>
 some (o_2, 0)
theorem gpn : ∀ x, Le (gkw x) (gj9 x) := fun _ => (Le.b (gtv _) fun _ => Le.r)
def g6l : Nat → (List (List UInt8) × List (List UInt8) × Int × Int → Option ((Bool) ⊕ (Unit)))
 | 0 => fun _ => none
 | fuel + 1 =>
 fun (x_ : List (List UInt8) × List (List UInt8) × Int × Int) => match x_ with
 | (s1_1, s2_1, t12_1, t13) =>
 if decide (t13 < t12_1) = true then
 if inR t13 s1_1.length = true then
 if inR t13 s2_1.length = true then
 if (!(decide (s1_1.getD t13.toNat [] = s2_1.getD t13.toNat []))) = true then
 some (.inl false)
 else
 (g6l fuel) (s1_1, s2_1, t12_1, addI .i64 t13 1)
 else none
 else none
 else
 some (.inr ())
theorem g9d : ∀ n, (∀ x, Le ((g6l n) x) (g23 x))
 | 0 => fun _ => Le.n
 | fuel + 1 => fun x => match x with | (_, _, _, _) => by rw [g23]; exact (Le.i (Le.i (Le.i (Le.i Le.r ((g9d fuel) _)) Le.r) Le.r) Le.r)
def gam (x : List (List UInt8) × List (List UInt8) × Int × Int) : Option ((Bool) ⊕ (Unit)) := (g6l 40) x
theorem giv : ∀ x, Le (gam x) (g23 x) := (g9d 40)
def gcd (x_ : List (List UInt8) × List (List UInt8)) : Option (Bool) :=
 match x_ with
 | (s1, s2) =>
 if (!(decide ((s1.length : Int) = (s2.length : Int)))) = true then
 some false
 else
 gam (s1, s2, (s1.length : Int), 0) >>= fun o =>
 match o with
 | .inl o_1 =>
 some o_1
 | .inr o_2 =>
 some true
theorem gkx : ∀ x, Le (gcd x) (g8s x) := fun x => match x with | (_, _) => (Le.i Le.r (Le.b (giv _) fun _ => Le.r))
def gg5 : Nat → (Int × List UInt8 × List SField → Option ((Int) ⊕ (List SField)))
 | 0 => fun _ => none
 | fuel + 1 =>
 fun (x_ : Int × List UInt8 × List SField) => match x_ with
 | (last, s, b_1) =>
 if (!(decide (s = []))) = true then
 ghr s >>= fun r =>
 if (bif bif (!r.2.2) then true else decide (quoI .u64 r.1 2 ≤ last) then true else decide (1000 < quoI .u64 r.1 2)) = true then
 some (.inl 12)
 else
 gmh r.2.1 >>= fun r_4 =>
 if (!r_4.2.2) = true then
 some (.inl 12)
 else
 some [(⟨wrp .i64 (quoI .u64 r.1 2), decide (remI r.1 2 = 1), r_4.1⟩ : SField)] >>= fun t50 =>
 if room 32 (b_1 ++ t50).length = true then
 (gg5 fuel) (quoI .u64 r.1 2, r_4.2.1, b_1 ++ t50)
 else none
 else
 some (.inr b_1)
theorem giu : ∀ n, (∀ x, Le ((gg5 n) x) (g5h x))
 | 0 => fun _ => Le.n
 | fuel + 1 => fun x => match x with | (_, _, _) => by rw [g5h]; exact (Le.i (Le.b (gkv _) fun _ => (Le.i Le.r (Le.b (gr5 _) fun _ => (Le.i Le.r (Le.b Le.r fun _ => (Le.i ((giu fuel) _) Le.r)))))) Le.r)
def glr (x : Int × List UInt8 × List SField) : Option ((Int) ⊕ (List SField)) := (gg5 40) x
theorem gt0 : ∀ x, Le (glr x) (g5h x) := (giu 40)
def gpo (payload : List UInt8) : Option (List SField × Int) :=
 glr (0, payload, []) >>= fun o =>
 match o with
 | .inl o_1 =>
 some ([], o_1)
 | .inr o_2 =>
 some (o_2, 0)
theorem gvj : ∀ x, Le (gpo x) (gly x) := fun _ => (Le.b (gt0 _) fun _ => Le.r)
def gom (payload : List UInt8) : Option (Int × List UInt8 × Int) :=
 ghr payload >>= fun r =>
 if (bif bif (!r.2.2) then true else decide (r.1 < 1) then true else decide (1000 < r.1)) = true then
 some (0, [], 12)
 else
 some (wrp .i64 r.1, r.2.1, 0)
theorem gsa : ∀ x, Le (gom x) (gn5 x) := fun _ => (Le.b (gkv _) fun _ => Le.r)
def gpp (x_ : List UInt8 × List UInt8) : Option (Bool) :=
 match x_ with
 | (a, b) =>
 some (bif decide ((a.length : Int) < (b.length : Int)) then true else bif decide ((a.length : Int) = (b.length : Int)) then Op.bytesLess a b else false)
theorem gvk : ∀ x, Le (gpp x) (glz x) := fun x => match x with | (_, _) => Le.r
def ge2 : Nat → (List UInt8 × Int × Int × Int → Option (Int))
 | 0 => fun _ => none
 | fuel + 1 =>
 fun (x_ : List UInt8 × Int × Int × Int) => match x_ with
 | (s_1, n_1, t17_1, t18) =>
 if decide (t18 < t17_1) = true then
 if inR t18 s_1.length = true then
 (ge2 fuel) (s_1, orI .u64 (shlI .u64 n_1 8) (wrp .u64 (g17g s_1 t18)), t17_1, addI .i64 t18 1)
 else none
 else
 some n_1
theorem ghn : ∀ n, (∀ x, Le ((ge2 n) x) (g4w x))
 | 0 => fun _ => Le.n
 | fuel + 1 => fun x => match x with | (_, _, _, _) => by rw [g4w]; exact (Le.i (Le.i ((ghn fuel) _) Le.r) Le.r)
def gkg (x : List UInt8 × Int × Int × Int) : Option (Int) := (ge2 40) x
theorem grz : ∀ x, Le (gkg x) (g4w x) := (ghn 40)
def gon (s : List UInt8) : Option (Int × Int) :=
 some (!(decide (s = []))) >>= fun t7 =>
 if (inR 0 s.length || (!t7)) = true then
 if (bif t7 then decide (g17g s 0 = 0) else false) = true then
 some (0, 2)
 else
 if decide (8 < (s.length : Int)) = true then
 some (0, 7)
 else
 gkg (s, 0, (s.length : Int), 0) >>= fun o =>
 some (o, 0)
 else none
theorem guq : ∀ x, Le (gon x) (gkp x) := fun _ => (Le.b Le.r fun _ => (Le.i (Le.i Le.r (Le.i Le.r (Le.b (grz _) fun _ => Le.r))) Le.r))
def gn0 (n : Int) : Option (Int) :=
 some (xorI .i64 (wrp .i64 (shrI .u64 n 1)) (subI .i64 0 (wrp .i64 (andI .u64 n 1))))
theorem gtw : ∀ x, Le (gn0 x) (gje x) := fun _ => Le.r
def gk1 (x_ : SType × List UInt8) : Option (Bool) :=
 match x_ with
 | (x0, p) =>
 if decide (x0.Kind = 1) = true then
 some (bif decide (p = []) then true else decide (p = [1]))
 else
 if decide (x0.Kind = 3) = true then
 some (decide ((p.length : Int) ≤ x0.Max))
 else
 gon p >>= fun r =>
 if (!(decide (r.2 = 0))) = true then
 some false
 else
 if decide (x0.Kind = 2) = true then
 gn0 r.1 >>= fun r_3 =>
 some (bif decide (x0.Low ≤ r_3) then decide (r_3 ≤ x0.High) else false)
 else
 if (bif decide (r.1 < 1) then true else decide (1000 < r.1)) = true then
 some false
 else
 gjr (x0, wrp .i64 r.1) >>= fun r_4 =>
 some (bif r_4.2 then true else x0.Open)
theorem goo : ∀ x, Le (gk1 x) (ghp x) := fun x => match x with | (_, _) => (Le.i Le.r (Le.i Le.r (Le.b (guq _) fun _ => (Le.i Le.r (Le.i (Le.b (gtw _) fun _ => Le.r) (Le.i Le.r (Le.b (gof _) fun _ => Le.r)))))))
def g5z : Nat → (Int × List SMember × Int × Int → Option (Int))
 | 0 => fun _ => none
 | fuel + 1 =>
 fun (x_ : Int × List SMember × Int × Int) => match x_ with
 | (seen_3, t93, t94_1, t95) =>
 if decide (t95 < t94_1) = true then
 if inR t95 t93.length = true then
 if (!(t93.getD t95.toNat dSMember).HasDefault) = true then
 (g5z fuel) (subI .i64 seen_3 1, t93, t94_1, addI .i64 t95 1)
 else
 (g5z fuel) (seen_3, t93, t94_1, addI .i64 t95 1)
 else none
 else
 some seen_3
theorem g7g : ∀ n, (∀ x, Le ((g5z n) x) (g2f x))
 | 0 => fun _ => Le.n
 | fuel + 1 => fun x => match x with | (_, _, _, _) => by rw [g2f]; exact (Le.i (Le.i (Le.i ((g7g fuel) _) ((g7g fuel) _)) Le.r) Le.r)
def gex (x : Int × List SMember × Int × Int) : Option (Int) := (g5z 40) x
theorem gmi : ∀ x, Le (gex x) (g2f x) := (g7g 40)
def g7 : Nat → (EncodeReader × Int × List UInt8 × Int → Option (Bool)) × (EncodeReader × SType × List UInt8 × Int → Option (Bool)) × (List UInt8 × List SType × Int × List UInt8 × Int × Int × Int × List SSymbol × List SMember × Int × Int × Bool × Int → Option (Bool × List SType × Int × List UInt8 × Int × Int × Int × List SSymbol × List SMember × Int × Int × Bool × Int)) × (EncodeReader × SType × List UInt8 × Int → Option (Bool)) × (List (List UInt8) × List SType × Int × List UInt8 × Int × Int × Int × List SSymbol × List SMember × Int × Int × Bool × Int → Option (Bool × List SType × Int × List UInt8 × Int × Int × Int × List SSymbol × List SMember × Int × Int × Bool × Int)) × (List (List UInt8) × List SType × Int × List UInt8 × Int × Int × Int × List SSymbol × List SMember × Int × Int × Bool × Int → Option (Int × List SType × Int × List UInt8 × Int × Int × Int × List SSymbol × List SMember × Int × Int × Bool × Int)) × (List (List UInt8) × Int × List SType × Int × List UInt8 × Int × Int × Int × List SSymbol × List SMember × Int × Int × Bool × Int → Option ((Bool) ⊕ (Unit))) × (Int × Int × List SField × Int × Int × List SType × SType → Option ((Bool) ⊕ (Int × SType))) × (List (List UInt8) × Int × Int × List SType × Int × List UInt8 × Int × Int × Int × List SSymbol × List SMember × Int × Int × Bool × Int → Option ((Int × List SType × Int × List UInt8 × Int × Int × Int × List SSymbol × List SMember × Int × Int × Bool × Int) ⊕ (List SType × Int × List UInt8 × Int × Int × Int × List SSymbol × List SMember × Int × Int × Bool × Int)))
 | 0 => (fun _ => none, fun _ => none, fun _ => none, fun _ => none, fun _ => none, fun _ => none, fun _ => none, fun _ => none, fun _ => none)
 | fuel + 1 =>
 (fun (x_ : EncodeReader × Int × List UInt8 × Int) => match x_ with
 | (r, t, p, level) =>
 if inR t r.s.Types.length = true then
 some (r.s.Types.getD t.toNat dSType) >>= fun x0 =>
 if decide (200 < level) = true then
 some false
 else
 if decide (x0.Kind = 5) = true then
 (g7 fuel).2.2.2.1 ((⟨(⟨r.s.Types⟩ : SSchema)⟩ : EncodeReader), x0, p, level) >>= fun r_1 =>
 some r_1
 else
 some (decide (x0.Kind = 7)) >>= fun t33 =>
 if t33 = true then
 if t33 = true then
 (g7 fuel).2.1 ((⟨(⟨r.s.Types⟩ : SSchema)⟩ : EncodeReader), x0, p, level) >>= fun r_2 =>
 some r_2
 else
 if decide (x0.Kind = 9) = true then
 some (decide (p = [])) >>= fun t43 =>
 if (inR 0 p.length || (!(!t43))) = true then
 some (decide (g17g p 0 = 1)) >>= fun t47 =>
 if (slR 1 (p.length : Int) p.length || (!((!t43) && t47))) = true then
 (if ((!t43) && t47) = true then (g7 fuel).1 ((⟨(⟨r.s.Types⟩ : SSchema)⟩ : EncodeReader), x0.Elem, cutL p 1 (p.length : Int), addI .i64 level 1) else some false) >>= fun r_3 =>
 some (bif t43 then true else bif t47 then r_3 else false)
 else none
 else none
 else
 if decide (x0.Kind = 6) = true then
 gom p >>= fun r_4 =>
 if (!(decide (r_4.2.2 = 0))) = true then
 some false
 else
 g6k (x0, r_4.1) >>= fun r_8 =>
 some (bif (!r_8.2) then x0.Open else false) >>= fun t80 =>
 if (inR r_8.1 x0.Members.length || (!((!t80) && r_8.2))) = true then
 (if ((!t80) && r_8.2) = true then (g7 fuel).1 ((⟨(⟨r.s.Types⟩ : SSchema)⟩ : EncodeReader), (x0.Members.getD r_8.1.toNat dSMember).Type_, r_4.2.1, addI .i64 level 1) else some false) >>= fun r_11 =>
 some (bif t80 then true else bif r_8.2 then r_11 else false)
 else none
 else
 gk1 (x0, p) >>= fun r_12 =>
 some r_12
 else
 if decide (x0.Kind = 8) = true then
 (g7 fuel).2.1 ((⟨(⟨r.s.Types⟩ : SSchema)⟩ : EncodeReader), x0, p, level) >>= fun r_13 =>
 some r_13
 else
 if decide (x0.Kind = 9) = true then
 some (decide (p = [])) >>= fun t43_1 =>
 if (inR 0 p.length || (!(!t43_1))) = true then
 some (decide (g17g p 0 = 1)) >>= fun t47_1 =>
 if (slR 1 (p.length : Int) p.length || (!((!t43_1) && t47_1))) = true then
 (if ((!t43_1) && t47_1) = true then (g7 fuel).1 ((⟨(⟨r.s.Types⟩ : SSchema)⟩ : EncodeReader), x0.Elem, cutL p 1 (p.length : Int), addI .i64 level 1) else some false) >>= fun r_14 =>
 some (bif t43_1 then true else bif t47_1 then r_14 else false)
 else none
 else none
 else
 if decide (x0.Kind = 6) = true then
 gom p >>= fun r_15 =>
 if (!(decide (r_15.2.2 = 0))) = true then
 some false
 else
 g6k (x0, r_15.1) >>= fun r_19 =>
 some (bif (!r_19.2) then x0.Open else false) >>= fun t80_1 =>
 if (inR r_19.1 x0.Members.length || (!((!t80_1) && r_19.2))) = true then
 (if ((!t80_1) && r_19.2) = true then (g7 fuel).1 ((⟨(⟨r.s.Types⟩ : SSchema)⟩ : EncodeReader), (x0.Members.getD r_19.1.toNat dSMember).Type_, r_15.2.1, addI .i64 level 1) else some false) >>= fun r_22 =>
 some (bif t80_1 then true else bif r_19.2 then r_22 else false)
 else none
 else
 gk1 (x0, p) >>= fun r_23 =>
 some r_23
 else none,
 fun (x_ : EncodeReader × SType × List UInt8 × Int) => match x_ with
 | (r, x0, p, level) =>
 gkw p >>= fun r_1 =>
 if (!(decide (r_1.2 = 0))) = true then
 some false
 else
 if decide (x0.Kind = 7) = true then
 some (decide ((r_1.1.length : Int) ≤ x0.Max)) >>= fun t26 =>
 if t26 = true then
 (g7 fuel).2.2.2.2.1 (r_1.1, r.s.Types, x0.Kind, x0.Name, x0.Low, x0.High, x0.Max, x0.Symbols, x0.Members, x0.Key, x0.Elem, x0.Open, level) >>= fun r_4 =>
 some (bif t26 then (!r_4.1) else false)
 else
 some (bif t26 then false else false)
 else
 if (bif decide (remI (r_1.1.length : Int) 2 = 1) then true else decide (x0.Max < quoI .i64 (r_1.1.length : Int) 2)) = true then
 some false
 else
 (g7 fuel).2.2.2.2.2.2.1 (r_1.1, 0, r.s.Types, x0.Kind, x0.Name, x0.Low, x0.High, x0.Max, x0.Symbols, x0.Members, x0.Key, x0.Elem, x0.Open, level) >>= fun o =>
 match o with
 | .inl o_1 =>
 some o_1
 | .inr o_2 =>
 some true,
 fun (x_ : List UInt8 × List SType × Int × List UInt8 × Int × Int × Int × List SSymbol × List SMember × Int × Int × Bool × Int) => match x_ with
 | (p, b, b_1, b_2, b_3, b_4, b_5, b_6, b_7, b_8, b_9, b_10, b_11) =>
 (g7 fuel).1 ((⟨(⟨b⟩ : SSchema)⟩ : EncodeReader), b_9, p, addI .i64 b_11 1) >>= fun r =>
 some ((!r), b, b_1, b_2, b_3, b_4, b_5, b_6, b_7, b_8, b_9, b_10, b_11),
 fun (x_ : EncodeReader × SType × List UInt8 × Int) => match x_ with
 | (r, x0, p, level) =>
 gpo p >>= fun r_1 =>
 if (!(decide (r_1.2 = 0))) = true then
 some false
 else
 (g7 fuel).2.2.2.2.2.2.2.1 (level, 0, r_1.1, (r_1.1.length : Int), 0, r.s.Types, x0) >>= fun o =>
 match o with
 | .inl o_1 =>
 some o_1
 | .inr o_2 =>
 gex (o_2.1, o_2.2.Members, (o_2.2.Members.length : Int), 0) >>= fun o_3 =>
 some (decide (o_3 = 0)),
 fun (x_ : List (List UInt8) × List SType × Int × List UInt8 × Int × Int × Int × List SSymbol × List SMember × Int × Int × Bool × Int) => match x_ with
 | (s, b, b_1, b_2, b_3, b_4, b_5, b_6, b_7, b_8, b_9, b_10, b_11) =>
 (g7 fuel).2.2.2.2.2.1 (s, b, b_1, b_2, b_3, b_4, b_5, b_6, b_7, b_8, b_9, b_10, b_11) >>= fun r =>
 some (decide (0 ≤ r.1), r.2.1, r.2.2.1, r.2.2.2.1, r.2.2.2.2.1, r.2.2.2.2.2.1, r.2.2.2.2.2.2.1, r.2.2.2.2.2.2.2.1, r.2.2.2.2.2.2.2.2.1, r.2.2.2.2.2.2.2.2.2.1, r.2.2.2.2.2.2.2.2.2.2.1, r.2.2.2.2.2.2.2.2.2.2.2.1, r.2.2.2.2.2.2.2.2.2.2.2.2),
 fun (x_ : List (List UInt8) × List SType × Int × List UInt8 × Int × Int × Int × List SSymbol × List SMember × Int × Int × Bool × Int) => match x_ with
 | (s, b, b_1, b_2, b_3, b_4, b_5, b_6, b_7, b_8, b_9, b_10, b_11) =>
 (g7 fuel).2.2.2.2.2.2.2.2 (s, (s.length : Int), 0, b, b_1, b_2, b_3, b_4, b_5, b_6, b_7, b_8, b_9, b_10, b_11) >>= fun o =>
 match o with
 | .inl o_1 =>
 some (o_1.1, o_1.2.1, o_1.2.2.1, o_1.2.2.2.1, o_1.2.2.2.2.1, o_1.2.2.2.2.2.1, o_1.2.2.2.2.2.2.1, o_1.2.2.2.2.2.2.2.1, o_1.2.2.2.2.2.2.2.2.1, o_1.2.2.2.2.2.2.2.2.2.1, o_1.2.2.2.2.2.2.2.2.2.2.1, o_1.2.2.2.2.2.2.2.2.2.2.2.1, o_1.2.2.2.2.2.2.2.2.2.2.2.2)
 | .inr o_2 =>
 some ((-1), o_2.1, o_2.2.1, o_2.2.2.1, o_2.2.2.2.1, o_2.2.2.2.2.1, o_2.2.2.2.2.2.1, o_2.2.2.2.2.2.2.1, o_2.2.2.2.2.2.2.2.1, o_2.2.2.2.2.2.2.2.2.1, o_2.2.2.2.2.2.2.2.2.2.1, o_2.2.2.2.2.2.2.2.2.2.2.1, o_2.2.2.2.2.2.2.2.2.2.2.2),
 fun (x_ : List (List UInt8) × Int × List SType × Int × List UInt8 × Int × Int × Int × List SSymbol × List SMember × Int × Int × Bool × Int) => match x_ with
 | (l, i, b, b_1, b_2, b_3, b_4, b_5, b_6, b_7, b_8, b_9, b_10, b_11) =>
 if decide (i < (l.length : Int)) = true then
 if inR i l.length = true then
 (g7 fuel).1 ((⟨(⟨b⟩ : SSchema)⟩ : EncodeReader), b_8, l.getD i.toNat [], addI .i64 b_11 1) >>= fun r_18 =>
 some (!r_18) >>= fun t61 =>
 some (addI .i64 i 1) >>= fun t68 =>
 if (inR t68 l.length || (!(!t61))) = true then
 (if (!t61) = true then (g7 fuel).1 ((⟨(⟨b⟩ : SSchema)⟩ : EncodeReader), b_9, l.getD t68.toNat [], addI .i64 b_11 1) else some false) >>= fun r_19 =>
 some (bif t61 then true else (!r_19)) >>= fun t75 =>
 some (decide (0 < i)) >>= fun t78 =>
 some (subI .i64 i 2) >>= fun t82 =>
 if (inR t82 l.length || (!((!t75) && t78))) = true then
 if (inR i l.length || (!((!t75) && t78))) = true then
 (if ((!t75) && t78) = true then gpp (l.getD t82.toNat [], l.getD i.toNat []) else some false) >>= fun r_20 =>
 if (bif t75 then true else bif t78 then (!r_20) else false) = true then
 some (.inl false)
 else
 (g7 fuel).2.2.2.2.2.2.1 (l, addI .i64 i 2, b, b_1, b_2, b_3, b_4, b_5, b_6, b_7, b_8, b_9, b_10, b_11)
 else none
 else none
 else none
 else none
 else
 some (.inr ()),
 fun (x_ : Int × Int × List SField × Int × Int × List SType × SType) => match x_ with
 | (level_1, seen_2, t27, t28_1, t29, b_1, b_2) =>
 if decide (t29 < t28_1) = true then
 if inR t29 t27.length = true then
 some (t27.getD t29.toNat dSField) >>= fun x0_1 =>
 g6k (b_2, x0_1.ID) >>= fun r_4 =>
 if (!r_4.2) = true then
 if x0_1.Critical = true then
 some (.inl false)
 else
 (g7 fuel).2.2.2.2.2.2.2.1 (level_1, seen_2, t27, t28_1, addI .i64 t29 1, b_1, b_2)
 else
 if inR r_4.1 b_2.Members.length = true then
 some (b_2.Members.getD r_4.1.toNat dSMember) >>= fun x0_2 =>
 some (!(eqB x0_1.Critical x0_2.Critical)) >>= fun t53 =>
 (if (!t53) = true then (g7 fuel).1 ((⟨(⟨b_1⟩ : SSchema)⟩ : EncodeReader), x0_2.Type_, x0_1.Data, addI .i64 level_1 1) else some false) >>= fun r_7 =>
 if (bif t53 then true else (!r_7)) = true then
 some (.inl false)
 else
 if x0_2.HasDefault = true then
 goh ((⟨b_1⟩ : SSchema), x0_2.Type_, SValue.eta x0_2.Default) >>= fun r_8 =>
 if r_8 = true then
 gac (x0_2.Type_, SValue.eta x0_2.Default, 1, b_1, 0) >>= fun r_9 =>
 if (bif r_8 then decide (r_9.1 = x0_1.Data) else false) = true then
 some (.inl false)
 else
 (g7 fuel).2.2.2.2.2.2.2.1 (level_1, seen_2, t27, t28_1, addI .i64 t29 1, b_1, b_2)
 else
 if (bif r_8 then false else false) = true then
 some (.inl false)
 else
 (g7 fuel).2.2.2.2.2.2.2.1 (level_1, seen_2, t27, t28_1, addI .i64 t29 1, b_1, b_2)
 else
 (g7 fuel).2.2.2.2.2.2.2.1 (level_1, addI .i64 seen_2 1, t27, t28_1, addI .i64 t29 1, b_1, b_2)
 else none
 else none
 else
 some (.inr (seen_2, b_2)),
 fun (x_ : List (List UInt8) × Int × Int × List SType × Int × List UInt8 × Int × Int × Int × List SSymbol × List SMember × Int × Int × Bool × Int) => match x_ with
 | (s_1, t7_1, t8, b_36, b_37, b_38, b_39, b_40, b_41, b_42, b_43, b_44, b_45, b_46, b_47) =>
 if decide (t8 < t7_1) = true then
 if inR t8 s_1.length = true then
 (g7 fuel).2.2.1 (s_1.getD t8.toNat [], b_36, b_37, b_38, b_39, b_40, b_41, b_42, b_43, b_44, b_45, b_46, b_47) >>= fun r =>
 if r.1 = true then
 some (.inl (t8, r.2.1, r.2.2.1, r.2.2.2.1, r.2.2.2.2.1, r.2.2.2.2.2.1, r.2.2.2.2.2.2.1, r.2.2.2.2.2.2.2.1, r.2.2.2.2.2.2.2.2.1, r.2.2.2.2.2.2.2.2.2.1, r.2.2.2.2.2.2.2.2.2.2.1, r.2.2.2.2.2.2.2.2.2.2.2.1, r.2.2.2.2.2.2.2.2.2.2.2.2))
 else
 (g7 fuel).2.2.2.2.2.2.2.2 (s_1, t7_1, addI .i64 t8 1, r.2.1, r.2.2.1, r.2.2.2.1, r.2.2.2.2.1, r.2.2.2.2.2.1, r.2.2.2.2.2.2.1, r.2.2.2.2.2.2.2.1, r.2.2.2.2.2.2.2.2.1, r.2.2.2.2.2.2.2.2.2.1, r.2.2.2.2.2.2.2.2.2.2.1, r.2.2.2.2.2.2.2.2.2.2.2.1, r.2.2.2.2.2.2.2.2.2.2.2.2)
 else none
 else
 some (.inr (b_36, b_37, b_38, b_39, b_40, b_41, b_42, b_43, b_44, b_45, b_46, b_47)))
theorem g9 : ∀ n, (∀ x, Le ((g7 n).1 x) (gy x)) ∧ (∀ x, Le ((g7 n).2.1 x) (g6y x)) ∧ (∀ x, Le ((g7 n).2.2.1 x) (g6w x)) ∧ (∀ x, Le ((g7 n).2.2.2.1 x) (g8t x)) ∧ (∀ x, Le ((g7 n).2.2.2.2.1 x) (g3m x)) ∧ (∀ x, Le ((g7 n).2.2.2.2.2.1 x) (g45 x)) ∧ (∀ x, Le ((g7 n).2.2.2.2.2.2.1 x) (g57 x)) ∧ (∀ x, Le ((g7 n).2.2.2.2.2.2.2.1 x) (g2g x)) ∧ (∀ x, Le ((g7 n).2.2.2.2.2.2.2.2 x) (g2j x))
 | 0 => ⟨fun _ => Le.n, fun _ => Le.n, fun _ => Le.n, fun _ => Le.n, fun _ => Le.n, fun _ => Le.n, fun _ => Le.n, fun _ => Le.n, fun _ => Le.n⟩
 | fuel + 1 => ⟨fun x => match x with | (_, _, _, _) => by rw [gy]; exact (Le.i (Le.b Le.r fun _ => (Le.i Le.r (Le.i (Le.b ((g9 fuel).2.2.2.1 _) fun _ => Le.r) (Le.b Le.r fun _ => (Le.i (Le.i (Le.b ((g9 fuel).2.1 _) fun _ => Le.r) (Le.i (Le.b Le.r fun _ => (Le.i (Le.b Le.r fun _ => (Le.i (Le.b (Le.i ((g9 fuel).1 _) Le.r) fun _ => Le.r) Le.r)) Le.r)) (Le.i (Le.b (gsa _) fun _ => (Le.i Le.r (Le.b (g7f _) fun _ => (Le.b Le.r fun _ => (Le.i (Le.b (Le.i ((g9 fuel).1 _) Le.r) fun _ => Le.r) Le.r))))) (Le.b (goo _) fun _ => Le.r)))) (Le.i (Le.b ((g9 fuel).2.1 _) fun _ => Le.r) (Le.i (Le.b Le.r fun _ => (Le.i (Le.b Le.r fun _ => (Le.i (Le.b (Le.i ((g9 fuel).1 _) Le.r) fun _ => Le.r) Le.r)) Le.r)) (Le.i (Le.b (gsa _) fun _ => (Le.i Le.r (Le.b (g7f _) fun _ => (Le.b Le.r fun _ => (Le.i (Le.b (Le.i ((g9 fuel).1 _) Le.r) fun _ => Le.r) Le.r))))) (Le.b (goo _) fun _ => Le.r))))))))) Le.r),
 fun x => match x with | (_, _, _, _) => by rw [g6y]; exact (Le.b (gpn _) fun _ => (Le.i Le.r (Le.i (Le.b Le.r fun _ => (Le.i (Le.b ((g9 fuel).2.2.2.2.1 _) fun _ => Le.r) Le.r)) (Le.i Le.r (Le.b ((g9 fuel).2.2.2.2.2.2.1 _) fun _ => Le.r))))),
 fun x => match x with | (_, _, _, _, _, _, _, _, _, _, _, _, _) => by rw [g6w]; exact (Le.b ((g9 fuel).1 _) fun _ => Le.r),
 fun x => match x with | (_, _, _, _) => by rw [g8t]; exact (Le.b (gvj _) fun _ => (Le.i Le.r (Le.b ((g9 fuel).2.2.2.2.2.2.2.1 _) fun o => match o with | .inl _ => Le.r | .inr _ => (Le.b (gmi _) fun _ => Le.r)))),
 fun x => match x with | (_, _, _, _, _, _, _, _, _, _, _, _, _) => by rw [g3m]; exact (Le.b ((g9 fuel).2.2.2.2.2.1 _) fun _ => Le.r),
 fun x => match x with | (_, _, _, _, _, _, _, _, _, _, _, _, _) => by rw [g45]; exact (Le.b ((g9 fuel).2.2.2.2.2.2.2.2 _) fun _ => Le.r),
 fun x => match x with | (_, _, _, _, _, _, _, _, _, _, _, _, _, _) => by rw [g57]; exact (Le.i (Le.i (Le.b ((g9 fuel).1 _) fun _ => (Le.b Le.r fun _ => (Le.b Le.r fun _ => (Le.i (Le.b (Le.i ((g9 fuel).1 _) Le.r) fun _ => (Le.b Le.r fun _ => (Le.b Le.r fun _ => (Le.b Le.r fun _ => (Le.i (Le.i (Le.b (Le.i (gvk _) Le.r) fun _ => (Le.i Le.r ((g9 fuel).2.2.2.2.2.2.1 _))) Le.r) Le.r))))) Le.r)))) Le.r) Le.r),
 fun x => match x with | (_, _, _, _, _, _, _) => by rw [g2g]; exact (Le.i (Le.i (Le.b Le.r fun _ => (Le.b (g7f _) fun _ => (Le.i (Le.i Le.r ((g9 fuel).2.2.2.2.2.2.2.1 _)) (Le.i (Le.b Le.r fun _ => (Le.b Le.r fun _ => (Le.b (Le.i ((g9 fuel).1 _) Le.r) fun _ => (Le.i Le.r (Le.i (Le.b (gs7 _) fun _ => (Le.i (Le.b (gg4 _) fun _ => (Le.i Le.r ((g9 fuel).2.2.2.2.2.2.2.1 _))) (Le.i Le.r ((g9 fuel).2.2.2.2.2.2.2.1 _)))) ((g9 fuel).2.2.2.2.2.2.2.1 _)))))) Le.r)))) Le.r) Le.r),
 fun x => match x with | (_, _, _, _, _, _, _, _, _, _, _, _, _, _, _) => by rw [g2j]; exact (Le.i (Le.i (Le.b ((g9 fuel).2.2.1 _) fun _ => (Le.i Le.r ((g9 fuel).2.2.2.2.2.2.2.2 _))) Le.r) Le.r)⟩
def gey (x : EncodeReader × Int × List UInt8 × Int) : Option (Bool) := (g7 40).1 x
theorem gmj : ∀ x, Le (gey x) (gy x) := (g9 40).1
def gg6 (x_ : SSchema × Int × List UInt8) : Option (Bool) :=
 match x_ with
 | (s, t, m) =>
 gi9 ((⟨s.Types⟩ : SSchema), t) >>= fun r =>
 some (bif decide (r = 0) then decide ((m.length : Int) ≤ 4096) else false) >>= fun t15 =>
 (if t15 = true then gey ((⟨(⟨s.Types⟩ : SSchema)⟩ : EncodeReader), t, m, 1) else some false) >>= fun r_1 =>
 some (bif t15 then r_1 else false)
theorem gkh : ∀ x, Le (gg6 x) (gcq x) := fun x => match x with | (_, _, _) => (Le.b (gmw _) fun _ => (Le.b Le.r fun _ => (Le.b (Le.i (gmj _) Le.r) fun _ => Le.r)))
def gt1 (_ : Unit) : Option (Bool) :=
 g5u () >>= fun r =>
 gdy ((-2), 3) >>= fun r_1 =>
 gjy (r, 3, SValue.eta r_1) >>= fun r_2 =>
 g5u () >>= fun r_5 =>
 gdy ((-2), 0) >>= fun r_6 =>
 gjy (r_5, 3, SValue.eta r_6) >>= fun r_7 =>
 gkw [1, 97, 0] >>= fun r_10 =>
 some (bif bif bif bif decide (r_2.2 = 0) then decide (r_7.2 = 0) else false then decide (r_10.2 = 0) else false then decide (r_2.1 = [2, 1, 3, 7, 2, 97, 98]) else false then decide (r_7.1 = [2, 1, 3, 4, 0, 7, 2, 97, 98]) else false) >>= fun t40 =>
 (if t40 = true then gcd (r_10.1, [[97], []]) else some false) >>= fun r_13 =>
 some (bif t40 then r_13 else false) >>= fun t45 =>
 (if t45 = true then g5u () else some dSSchema) >>= fun r_14 =>
 (if t45 = true then gg6 (r_14, 3, r_2.1) else some false) >>= fun r_15 =>
 some (bif t45 then r_15 else false) >>= fun t50 =>
 (if t50 = true then g5u () else some dSSchema) >>= fun r_16 =>
 (if t50 = true then gg6 (r_16, 3, [2, 1, 3, 4, 1, 6, 7, 2, 97, 98]) else some false) >>= fun r_17 =>
 some (bif t50 then (!r_17) else false)
theorem gs0 : ∀ x, Le (gt1 x) (g8m x) := fun _ => (Le.b (g7k _) fun _ => (Le.b (gjn _) fun _ => (Le.b (gol _) fun _ => (Le.b (g7k _) fun _ => (Le.b (gjn _) fun _ => (Le.b (gol _) fun _ => (Le.b (gpn _) fun _ => (Le.b Le.r fun _ => (Le.b (Le.i (gkx _) Le.r) fun _ => (Le.b Le.r fun _ => (Le.b (Le.i (g7k _) Le.r) fun _ => (Le.b (Le.i (gkh _) Le.r) fun _ => (Le.b Le.r fun _ => (Le.b (Le.i (g7k _) Le.r) fun _ => (Le.b (Le.i (gkh _) Le.r) fun _ => Le.r)))))))))))))))
theorem gr6 : g8m () = some true := gs0 () true (by kernel_rfl)
end
section
open Go Go.Proofs.YthnmepafpikaiaaGreat.Shv
set_option maxRecDepth 100000
set_option linter.all false
end
section
open Go Go.Proofs.YthnmepafpikaiaaGreat.Shv
set_option maxRecDepth 100000
set_option linter.all false
end
section
open Go Go.Proofs.YthnmepafpikaiaaGreat.Shv
set_option maxRecDepth 100000
def vput (n : Nat) : List UInt8 := if n < 128 then [UInt8.ofNat n] else UInt8.ofNat (n % 128 + 128) :: vput (n / 128)
termination_by n
decreasing_by omega
theorem g1eb {n : Nat} (h : n < 128) : vput n = [UInt8.ofNat n] := by rw [vput, if_pos h]
theorem g1h3 {n : Nat} (h : ¬ n < 128) : vput n = UInt8.ofNat (n % 128 + 128) :: vput (n / 128) := by rw [vput, if_neg h]
theorem g1sl {a : Nat} (h : a < 256) : orI .u8 (a : Int) 128 = ((a % 128 + 128 : Nat) : Int) := by
 have key : ∀ a : Nat, a < 256 → orI .u8 (a : Int) 128 = ((a % 128 + 128 : Nat) : Int) := by decide +kernel
 exact key a h
theorem wrp8 (n : Nat) : wrp .u8 (n : Int) = ((n % 256 : Nat) : Int) := by
 unfold wrp; rw [IntKind.wrap_u8]; omega
theorem shrI7 (n : Nat) : shrI .u64 (n : Int) 7 = ((n / 128 : Nat) : Int) := by
 unfold shrI;have : ((2 : Int) ^ min (7 : Int).toNat IntKind.u64.bits) = 128 := by decide
 rw [this, Int.fdiv_eq_ediv_of_nonneg _ (by omega)];omega
theorem g1oz (m : Nat) (l : List Int) : strOf ((m : Int) :: l) = UInt8.ofNat m :: strOf l := rfl
theorem g1a7 (a b : List Int) : strOf (a ++ b) = strOf a ++ strOf b := List.map_append
theorem g1b4 {α : Type} : ∀ (l : List α) (i : Nat) (x : α), i < l.length → (l.set i x).take (i + 1) = l.take i ++ [x]
 | [], i, x, h => by simp at h
 | a :: l, 0, x, h => by simp
 | a :: l, i + 1, x, h => by simp [g1b4 l i x (by simpa using h)]
theorem g1qf : ∀ (f n i : Nat) (b : List Int), i + f = 9 → n < 128 * 128 ^ f → b.length = 10 → ∃ (n' i' : Nat) (b' : List Int), g4r ((n : Int), (i : Int), b) = some ((n' : Int), (i' : Int), b') ∧ n' < 128 ∧ i' ≤ 9 ∧ b'.length = 10 ∧ strOf (b'.take i') ++ [UInt8.ofNat n'] = strOf (b.take i) ++ vput n
 | f, n, i, b, hi, hn, hb => by
   rw [g4r];by_cases hs : n < 128
   · rw [if_neg (by simp; omega)];exact ⟨n, i, b, rfl, hs, by omega, hb, by rw [g1eb hs]⟩
   · rw [if_pos (by simp; omega), if_pos (g16i (by
       cases f with
       | zero => simp at hn; omega
       | succ f => omega)), if_pos (by
       cases f with
       | zero => simp at hn; omega
       | succ f => simp [hb]; omega)]
     match f, hi, hn with
     | 0, hi, hn => simp at hn; omega
     | f + 1, hi, hn =>
       rw [shrI7, g16o (by omega), wrp8, g1sl (Nat.mod_lt _ (by omega)), g16j];have hlt : n / 128 < 128 * 128 ^ f := by
         rw [Nat.div_lt_iff_lt_mul (by omega)];rw [Nat.pow_succ] at hn;rw [Nat.mul_assoc]; exact hn
       obtain ⟨n', i', b', h1, h2, h3, h4, h5⟩ := g1qf f (n / 128) (i + 1) (b.set i ((n % 256 % 128 + 128 : Nat) : Int)) (by omega) hlt (by simp [hb]);refine ⟨n', i', b', h1, h2, h3, h4, ?_⟩;rw [h5, g1b4 _ _ _ (by omega), g1a7, g1h3 hs];have : n % 256 % 128 = n % 128 := by omega
       rw [this];have hone : strOf [((n % 128 + 128 : Nat) : Int)] = [UInt8.ofNat (n % 128 + 128)] := rfl;rw [hone, List.append_assoc];rfl
theorem g1lc : (128 : Nat) * 128 ^ 9 = 1180591620717411303424 := by decide
theorem g1fm {n : Nat} (hn : n < 18446744073709551616) : gag (n : Int) = some (vput n) := by
 obtain ⟨n', i', b', h1, h2, h3, h4, h5⟩ := g1qf 9 n 0 [0, 0, 0, 0, 0, 0, 0, 0, 0, 0] rfl (by rw [g1lc]; omega) rfl;rw [gag];have h1' : g4r ((n : Int), 0, [0, 0, 0, 0, 0, 0, 0, 0, 0, 0]) = some ((n' : Int), (i' : Int), b') := h1;rw [h1'];simp only [oZ4, oZ3];have hsl : slR 0 ((i' + 1 : Nat) : Int) 10 = true := g1n5 (a := 0) (by omega) (by omega)
 rw [if_pos (g16i (by omega)), if_pos (by simp [h4]; omega), g16o (by omega), if_pos hsl, if_pos (by simp [subR, h4]; omega), g16j, g16j, wrp8];have : n' % 256 = n' := Nat.mod_eq_of_lt (by omega);rw [this];simp only [Int.toNat_zero, List.drop_zero];rw [g1b4 _ _ _ (by omega), g1a7];have h6 : strOf [(n' : Int)] = [UInt8.ofNat n'] := rfl;rw [h6, h5];simp [strOf]
theorem g1jj : ∀ (f n : Nat) (b : List Int), n < 128 ^ f → n < 18446744073709551616 → b.length + f ≤ 1000 → ∃ (n' : Nat) (b' : List Int), g5s ((n : Int), b) = some ((n' : Int), b') ∧ n' < 128 ∧ b'.length ≤ 1000 ∧ strOf b' ++ [UInt8.ofNat n'] = strOf b ++ vput n
 | f, n, b, hn, h64, hb => by
   rw [g5s];by_cases hs : n < 128
   · rw [if_neg (by simp; omega)];exact ⟨n, b, rfl, hs, by omega, by rw [g1eb hs]⟩
   · rw [if_pos (by simp; omega)]
     match f, hn with
     | 0, hn => simp at hn; omega
     | f + 1, hn =>
       have hrem : remI (n : Int) 128 = ((n % 128 : Nat) : Int) := remIn (b := 128);have hadd : addI .u64 ((n % 128 : Nat) : Int) 128 = ((n % 128 + 128 : Nat) : Int) := addIn (b := 128) (by omega);have hq : quoI .u64 (n : Int) 128 = ((n / 128 : Nat) : Int) := by
         unfold quoI;have e : (n : Int).tdiv 128 = ((n / 128 : Nat) : Int) := by rw [Int.tdiv_eq_ediv_of_nonneg (by omega)]; omega
         rw [e]; exact wrapu (by omega) (by omega)
       simp only [oZ4, oZ3];rw [hrem, hadd, hq, wrp8, if_pos (g1qe (by omega) (by simp; omega))];have hlt : n / 128 < 128 ^ f := by
         rw [Nat.div_lt_iff_lt_mul (by omega)];rw [Nat.pow_succ] at hn; exact hn
       obtain ⟨n', b', h1, h2, h3, h4⟩ := g1jj f (n / 128) (b ++ [(((n % 128 + 128) % 256 : Nat) : Int)]) hlt (by omega) (by simp; omega);refine ⟨n', b', h1, h2, h3, ?_⟩;rw [h4, g1a7, g1h3 hs];have : (n % 128 + 128) % 256 = n % 128 + 128 := by omega
       rw [this];have hone : strOf [((n % 128 + 128 : Nat) : Int)] = [UInt8.ofNat (n % 128 + 128)] := rfl;rw [hone, List.append_assoc];rfl
theorem g1aw {n : Nat} (hn : n < 18446744073709551616) : g4z (n : Int) = some (vput n) := by
 obtain ⟨n', b', h1, h2, h3, h4⟩ := g1jj 10 n [] (by have := g1lc; rw [Nat.pow_succ, Nat.mul_comm]; omega) hn (by simp);rw [g4z, h1];simp only [oZ4, oZ3];rw [if_pos (g1qe (by omega) (by simp; omega)), wrp8, g1a7];have : n' % 256 = n' := Nat.mod_eq_of_lt (by omega);rw [this];have h6 : strOf [(n' : Int)] = [UInt8.ofNat n'] := rfl;rw [h6, h4];simp [strOf]
theorem g1ld : ∀ (f n : Nat), n < 128 ^ (f + 1) → (vput n).length ≤ f + 1
 | f, n, hn => by
   by_cases hs : n < 128
   · rw [g1eb hs]; simp
   · rw [g1h3 hs]
     match f, hn with
     | 0, hn => simp at hn; omega
     | f + 1, hn =>
       have := g1ld f (n / 128) (by
         rw [Nat.div_lt_iff_lt_mul (by omega)];rw [Nat.pow_succ] at hn; exact hn)
       simp; omega
theorem g17d {n : Nat} (hn : n < 18446744073709551616) : (vput n).length ≤ 10 := g1ld 9 n (by have := g1lc; rw [Nat.pow_succ, Nat.mul_comm]; omega)
def g17w (p : List UInt8) : List UInt8 := vput p.length ++ p
theorem g177 {n : Nat} (h : n ≤ 9223372036854775807) : decide (n ≤ g16z) = true := by
 unfold g16z; simp; omega
theorem g1ec {p : List UInt8} (h : p.length ≤ 1152921504606846976) : g6c p = some (g17w p) := by
 rw [g6c, wrpn (by omega), g1fm (by omega)];simp only [oZ4, oZ3];have := g17d (n := p.length) (by omega);rw [if_pos (g177 (by omega))];rfl
theorem g1ap {p : List UInt8} (h : p.length ≤ 1152921504606846976) : g4o p = some (g17w p) := by
 rw [g4o, wrpn (by omega), g1aw (by omega)];simp only [oZ4, oZ3];have := g17d (n := p.length) (by omega);rw [if_pos (g177 (by omega))];rfl
def g1a8 (id : Nat) (c : Bool) (p : List UInt8) : List UInt8 := vput (2 * id + (if c then 1 else 0)) ++ g17w p
theorem g1i4 {p : List UInt8} (h : p.length ≤ 1152921504606846976) : (g17w p).length ≤ p.length + 10 := by
 have := g17d (n := p.length) (by omega);unfold g17w; simp; omega
theorem g1le {id : Nat} {c : Bool} {p : List UInt8} (hid : id ≤ 4611686018427387903) (h : p.length ≤ 1152921504606846900) : gbj ((id : Int), c, p) = some (g1a8 id c p) := by
 rw [gbj];have hm : mulI .u64 2 (wrp .u64 (id : Int)) = ((2 * id : Nat) : Int) := by
   rw [wrpn (by omega)]; exact mulIn (a := 2) (by omega)
 simp only [oZ4, oZ3];rw [hm, g1ec (by omega)];have hl := g1i4 (p := p) (by omega);cases c with
 | true =>
   have ha : addI .u64 ((2 * id : Nat) : Int) 1 = ((2 * id + 1 : Nat) : Int) := addIn (b := 1) (by omega);rw [if_pos rfl, ha, g1fm (by omega)];have := g17d (n := 2 * id + 1) (by omega);simp only [oZ3];rw [if_pos (g177 (by omega))];rfl
 | false =>
   rw [if_neg (by simp), g1fm (by omega)];have := g17d (n := 2 * id) (by omega);simp only [oZ3];rw [if_pos (g177 (by omega))];rfl
theorem g1gm {id : Nat} {c : Bool} {p : List UInt8} (hid : id ≤ 4611686018427387903) (h : p.length ≤ 1152921504606846900) : g8q ((id : Int), c, p) = some (g1a8 id c p) := by
 rw [g8q];have hm : wrp .u64 (mulI .i64 2 (id : Int)) = ((2 * id : Nat) : Int) := by
   rw [g1tk (by omega) (by omega)];have : (2 : Int) * (id : Int) = ((2 * id : Nat) : Int) := by omega
   rw [this]; exact wrpn (by omega)
 simp only [oZ4, oZ3];rw [hm, g1ap (by omega)];have hl := g1i4 (p := p) (by omega);cases c with
 | true =>
   have ha : addI .u64 ((2 * id : Nat) : Int) 1 = ((2 * id + 1 : Nat) : Int) := addIn (b := 1) (by omega);rw [if_pos rfl, ha, g1aw (by omega)];have := g17d (n := 2 * id + 1) (by omega);simp only [oZ3];rw [if_pos (g177 (by omega))];rfl
 | false =>
   rw [if_neg (by simp), g1aw (by omega)];have := g17d (n := 2 * id) (by omega);simp only [oZ3];rw [if_pos (g177 (by omega))];rfl
end
section
open Go Go.Proofs.YthnmepafpikaiaaGreat.Shv
set_option maxRecDepth 100000
inductive OkV : SValue → Prop
 | mk (v : SValue) (hs : v.Str.length ≤ reachBytes) (h1 : v.Keys.length ≤ reachBytes) (h2 : v.Items.length ≤ reachBytes) (h3 : v.Rest.length ≤ reachBytes)
     (hk : ∀ x, x ∈ v.Keys → OkV x) (hi : ∀ x, x ∈ v.Items → OkV x) (hr : ∀ x, x ∈ v.Rest → x.Data.length ≤ reachBytes)
     (n1 : -9223372036854775808 ≤ v.Kind ∧ v.Kind ≤ 9223372036854775807) (n2 : -9223372036854775808 ≤ v.Int_ ∧ v.Int_ ≤ 9223372036854775807) (n3 : -9223372036854775808 ≤ v.ID ∧ v.ID ≤ 9223372036854775807)
     (n4 : ∀ x, x ∈ v.Rest → -9223372036854775808 ≤ x.ID ∧ x.ID ≤ 9223372036854775807) : OkV v
theorem g16s {n : Nat} (h : n ≤ reachBytes) : n < 9223372036854775807 := Nat.lt_of_le_of_lt h (by decide)
theorem scan {γ : Type} (L : Nat → Option γ) (n : Nat) (p : Nat → Bool) (bad good : γ) (hstep : ∀ i, i < n → L i = if p i = true then L (i + 1) else some bad) (hend : L n = some good) :
   (L 0 = some good ∧ ∀ j, j < n → p j = true) ∨ (L 0 = some bad ∧ ∃ j, j < n ∧ p j = false) := by
 have key : ∀ k i, i + k = n → (L i = some good ∧ ∀ j, i ≤ j → j < n → p j = true) ∨ (L i = some bad ∧ ∃ j, j < n ∧ p j = false) := by
   intro k
   induction k with
   | zero => intro i hi; have : i = n := by omega
             subst this; exact .inl ⟨hend, fun j h1 h2 => by omega⟩
   | succ k ih =>
     intro i hi;rw [hstep i (by omega)];cases hp : p i with
     | true =>
       rw [if_pos rfl];rcases ih (i + 1) (by omega) with ⟨h1, h2⟩ | h
       · refine .inl ⟨h1, fun j hj1 hj2 => ?_⟩;rcases Nat.lt_or_ge i j with h | h
         · exact h2 j h hj2
         · have : j = i := by omega
           subst this; exact hp
       · exact .inr h
     | false => exact .inr ⟨by rw [if_neg (by simp)], i, by omega, hp⟩
 rcases key n 0 (by omega) with ⟨h1, h2⟩ | h
 · exact .inl ⟨h1, fun j hj => h2 j (Nat.zero_le _) hj⟩
 · exact .inr h
theorem g16t {α : Type} {l : List α} {i : Nat} (h : i < l.length) (d : α) : l.getD i d = l[i] := by
 rw [List.getD_eq_getElem?_getD, List.getElem?_eq_getElem h]; rfl
theorem g183 {α : Type} {a b : List α} {p : Nat → Bool} (hl : a.length = b.length) (hp : ∀ (i : Nat) (h1 : i < a.length) (h2 : i < b.length), p i = true ↔ a[i] = b[i]) :
   (∀ j, j < a.length → p j = true) ↔ a = b := by
 constructor
 · intro h;exact List.ext_getElem hl fun i h1 h2 => (hp i h1 h2).1 (h i h1)
 · rintro rfl j hj
   exact (hp j hj hj).2 rfl
def Says {α : Type} (o : Option Bool) (a b : α) : Prop := ∃ r, o = some r ∧ (r = true ↔ a = b)
theorem Says.of_scan {α : Type} {a b : List α} {p : Nat → Bool} (hl : a.length = b.length) (hp : ∀ (i : Nat) (h1 : i < a.length) (h2 : i < b.length), p i = true ↔ a[i] = b[i]) {o : Option Bool}
   (h : (o = some true ∧ ∀ j, j < a.length → p j = true) ∨ (o = some false ∧ ∃ j, j < a.length ∧ p j = false)) : Says o a b := by
 rcases h with ⟨h1, h2⟩ | ⟨h1, j, h2, h3⟩
 · exact ⟨true, h1, by simp [(g183 hl hp).1 h2]⟩
 · refine ⟨false, h1, ?_⟩;constructor
   · intro h; cases h
   · intro h;have := (g183 hl hp).2 h j h2;rw [h3] at this; cases this
theorem g1qg {a b : SRaw} : (eqI a.ID b.ID && (eqS a.Data b.Data && true)) = true ↔ a = b := by
 cases a; cases b; simp [eqI, eqS]
theorem g1qh {a b : SSymbol} : (eqI a.ID b.ID && (eqS a.Name b.Name && true)) = true ↔ a = b := by
 cases a; cases b; simp [eqI, eqS]
theorem g1tl {α : Type} {a b : List α} (h : ¬ a.length = b.length) : a ≠ b := fun e => h (congrArg List.length e)
theorem g1ai {α : Type} {a b : List α} (h : ¬ a.length = b.length) : Says (some false) a b := ⟨false, rfl, by simp [g1tl h]⟩
theorem g1qi {a b : List SRaw} (ha : a.length ≤ reachBytes) : Says (g2u (a, b)) a b := by
 rw [g2u];by_cases hl : a.length = b.length
 · rw [if_neg (by simp; omega)];have hr := g16s ha;have := scan (fun i => gu (a, b, (a.length : Int), (i : Int))) a.length (fun i => eqI (a.getD i dSRaw).ID (b.getD i dSRaw).ID && (eqS (a.getD i dSRaw).Data (b.getD i dSRaw).Data && true)) (.inl false) (.inr ())
     (fun i hi => by
       rw [gu, if_pos (by simp; omega), if_pos (g16i hi)];simp only [oZ4, oZ3, g16j];rw [if_pos (g16i (by omega)), g16o (by omega)];generalize (eqI (a.getD i dSRaw).ID (b.getD i dSRaw).ID && (eqS (a.getD i dSRaw).Data (b.getD i dSRaw).Data && true)) = c;cases c <;> rfl)
     (by rw [gu, if_neg (by simp)])
   have h0 : gu (a, b, (a.length : Int), ((0 : Nat) : Int)) = gu (a, b, (a.length : Int), 0) := rfl;simp only [h0] at this;refine Says.of_scan (p := fun i => eqI (a.getD i dSRaw).ID (b.getD i dSRaw).ID && (eqS (a.getD i dSRaw).Data (b.getD i dSRaw).Data && true)) hl (fun i h1 h2 => by simp only [g16t h1, g16t h2]; exact g1qg) ?_;rcases this with ⟨h1, h2⟩ | ⟨h1, h2⟩
   · exact .inl ⟨by rw [h1]; rfl, h2⟩
   · exact .inr ⟨by rw [h1]; rfl, h2⟩
 · rw [if_pos (by simp; omega)];exact g1ai hl
theorem g1tm {a b : List SSymbol} (ha : a.length ≤ reachBytes) : Says (g2n (a, b)) a b := by
 rw [g2n];by_cases hl : a.length = b.length
 · rw [if_neg (by simp; omega)];have hr := g16s ha;have := scan (fun i => gk (a, b, (a.length : Int), (i : Int))) a.length (fun i => eqI (a.getD i dSSymbol).ID (b.getD i dSSymbol).ID && (eqS (a.getD i dSSymbol).Name (b.getD i dSSymbol).Name && true)) (.inl false) (.inr ())
     (fun i hi => by
       rw [gk, if_pos (by simp; omega), if_pos (g16i hi)];simp only [oZ4, oZ3, g16j];rw [if_pos (g16i (by omega)), g16o (by omega)];generalize (eqI (a.getD i dSSymbol).ID (b.getD i dSSymbol).ID && (eqS (a.getD i dSSymbol).Name (b.getD i dSSymbol).Name && true)) = c;cases c <;> rfl)
     (by rw [gk, if_neg (by simp)])
   have h0 : gk (a, b, (a.length : Int), ((0 : Nat) : Int)) = gk (a, b, (a.length : Int), 0) := rfl;simp only [h0] at this;refine Says.of_scan (p := fun i => eqI (a.getD i dSSymbol).ID (b.getD i dSSymbol).ID && (eqS (a.getD i dSSymbol).Name (b.getD i dSSymbol).Name && true)) hl (fun i h1 h2 => by simp only [g16t h1, g16t h2]; exact g1qh) ?_;rcases this with ⟨h1, h2⟩ | ⟨h1, h2⟩
   · exact .inl ⟨by rw [h1]; rfl, h2⟩
   · exact .inr ⟨by rw [h1]; rfl, h2⟩
 · rw [if_pos (by simp; omega)];exact g1ai hl
theorem g1cl (v : SValue) : (⟨v.Kind, v.Bool_, v.Int_, v.Str, v.ID, v.Keys, v.Items, v.Rest⟩ : SValue) = v := by cases v; rfl
theorem g1cm {a b : SValue} : a = b ↔ a.Kind = b.Kind ∧ a.Bool_ = b.Bool_ ∧ a.Int_ = b.Int_ ∧ a.Str = b.Str ∧ a.ID = b.ID ∧ a.Rest = b.Rest ∧ a.Keys = b.Keys ∧ a.Items = b.Items := by
 constructor
 · rintro rfl; exact ⟨rfl, rfl, rfl, rfl, rfl, rfl, rfl, rfl⟩
 · cases a; cases b
   rintro ⟨h1, h2, h3, h4, h5, h6, h7, h8⟩
   simp only at *;subst h1; subst h2; subst h3; subst h4; subst h5; subst h6; subst h7; subst h8;rfl
section
variable {f : SValue × SValue → Option Bool}
theorem g1ed {a b : List SValue} (hl : a.length = b.length) (ih : ∀ x, x ∈ a → ∀ y, Says (f (x, y)) x y) (L : Nat → Option (Bool ⊕ Unit))
   (hstep : ∀ i, i < a.length → L i = (f (SValue.eta (a.getD i dSValue), SValue.eta (b.getD i dSValue)) >>= fun r => if (!r) = true then some (.inl false) else L (i + 1)))
   (hend : L a.length = some (.inr ())) : Says (L 0 >>= fun o => match o with | .inl x => some x | .inr _ => some true) a b := by
 have hget : ∀ (i : Nat) (h1 : i < a.length) (h2 : i < b.length), Says (f (SValue.eta (a.getD i dSValue), SValue.eta (b.getD i dSValue))) a[i] b[i] := by
   intro i h1 h2;rw [g16t h1, g16t h2, SValue.gh, SValue.gh];exact ih _ (List.getElem_mem h1) _
 have := scan L a.length (fun i => (f (SValue.eta (a.getD i dSValue), SValue.eta (b.getD i dSValue))).getD false) (.inl false) (.inr ())
   (fun i hi => by
     obtain ⟨r, h1, h2⟩ := hget i hi (by omega);rw [hstep i hi, h1];cases r <;> rfl) hend
 refine Says.of_scan hl (fun i h1 h2 => ?_) ?_ (p := fun i => (f (SValue.eta (a.getD i dSValue), SValue.eta (b.getD i dSValue))).getD false)
 · obtain ⟨r, h3, h4⟩ := hget i h1 h2;rw [h3]; exact h4
 · rcases this with ⟨h1, h2⟩ | ⟨h1, h2⟩
   · exact .inl ⟨by rw [h1]; rfl, h2⟩
   · exact .inr ⟨by rw [h1]; rfl, h2⟩
end
theorem g1n7 {a b : List SValue} (ha : a.length ≤ reachBytes) (ih : ∀ x, x ∈ a → ∀ y, Says (g7j (x, y)) x y) : Says (gi (a, b)) a b := by
 rw [gi];by_cases hl : a.length = b.length
 · rw [if_neg (by simp; omega)];have hr := g16s ha;exact g1ed hl ih (fun i => ge (b, a, (a.length : Int), (i : Int)))
     (fun i hi => by
       rw [ge, if_pos (by simp; omega), if_pos (g16i hi), if_pos (g16i (by omega)), g16o (by omega)];rfl)
     (by rw [ge, if_neg (by simp)])
 · rw [if_pos (by simp; omega)];exact g1ai hl
theorem g1n8 {a b : List SValue} (ha : a.length ≤ reachBytes) (ih : ∀ x, x ∈ a → ∀ y, Says (g46 (x, y)) x y) : Says (gn (a, b)) a b := by
 rw [gn];by_cases hl : a.length = b.length
 · rw [if_neg (by simp; omega)];have hr := g16s ha;exact g1ed hl ih (fun i => gf (b, a, (a.length : Int), (i : Int)))
     (fun i hi => by
       rw [gf, if_pos (by simp; omega), if_pos (g16i hi), if_pos (g16i (by omega)), g16o (by omega)];rfl)
     (by rw [gf, if_neg (by simp)])
 · rw [if_pos (by simp; omega)];exact g1ai hl
theorem g1n9 {a b : List SValue} (ha : a.length ≤ reachBytes) (ih : ∀ x, x ∈ a → ∀ y, Says (g11 (x, y)) x y) : Says (g59 (a, b)) a b := by
 rw [g59];by_cases hl : a.length = b.length
 · rw [if_neg (by simp; omega)];have hr := g16s ha;exact g1ed hl ih (fun i => g3d (a, b, (i : Int)))
     (fun i hi => by
       rw [g3d, if_pos (by simp; omega), if_pos (g16i hi), if_pos (g16i (by omega)), g16o (by omega)];rfl)
     (by rw [g3d, if_neg (by simp)])
 · rw [if_pos (by simp; omega)];exact g1ai hl
theorem three {a b : SValue} {h5 : Bool} (e5 : h5 = true ↔ a.Kind = b.Kind ∧ a.Bool_ = b.Bool_ ∧ a.Int_ = b.Int_ ∧ a.Str = b.Str ∧ a.ID = b.ID) {x y z : Option Bool} (hx : Says x a.Rest b.Rest) (hy : Says y a.Keys b.Keys) (hz : Says z a.Items b.Items) :
   Says (some h5 >>= fun t37 => (if t37 = true then x else some false) >>= fun r => some (bif t37 then r else false) >>= fun t44 => (if t44 = true then y else some false) >>= fun r_1 => some (bif t44 then r_1 else false) >>= fun t51 => (if t51 = true then z else some false) >>= fun r_2 => some (bif t51 then r_2 else false)) a b := by
 obtain ⟨rx, hx1, hx2⟩ := hx;obtain ⟨ry, hy1, hy2⟩ := hy;obtain ⟨rz, hz1, hz2⟩ := hz;subst hx1; subst hy1; subst hz1;refine ⟨h5 && rx && ry && rz, ?_, ?_⟩
 · cases h5 <;> cases rx <;> cases ry <;> rfl
 · rw [g1cm];simp only [Bool.and_eq_true];rw [e5, hx2, hy2, hz2];constructor
   · rintro ⟨⟨⟨⟨h1, h2, h3, h4, h5⟩, h6⟩, h7⟩, h8⟩; exact ⟨h1, h2, h3, h4, h5, h6, h7, h8⟩
   · rintro ⟨h1, h2, h3, h4, h5, h6, h7, h8⟩; exact ⟨⟨⟨⟨h1, h2, h3, h4, h5⟩, h6⟩, h7⟩, h8⟩
theorem five {a b : SValue} : (bif bif bif bif decide (a.Kind = b.Kind) then eqB a.Bool_ b.Bool_ else false then decide (a.Int_ = b.Int_) else false then decide (a.Str = b.Str) else false then decide (a.ID = b.ID) else false) = true ↔ a.Kind = b.Kind ∧ a.Bool_ = b.Bool_ ∧ a.Int_ = b.Int_ ∧ a.Str = b.Str ∧ a.ID = b.ID := by
 simp only [Bool.cond_eq_ite, eqB];by_cases h1 : a.Kind = b.Kind <;> by_cases h2 : a.Bool_ = b.Bool_ <;> by_cases h3 : a.Int_ = b.Int_ <;> by_cases h4 : a.Str = b.Str <;> simp [h1, h2, h3, h4]
theorem g1p0 {a : SValue} (h : OkV a) : ∀ b, Says (g7j (a, b)) a b := by
 induction h with
 | mk a hs h1 h2 h3 hk hi hr n1 n2 n3 n4 ihk ihi =>
   intro b;rw [g7j];exact three five (g1qi h3) (g1n7 h1 ihk) (g1n7 h2 ihi)
theorem g1ee {a : SValue} (h : OkV a) : ∀ b, Says (g46 (a, b)) a b := by
 induction h with
 | mk a hs h1 h2 h3 hk hi hr n1 n2 n3 n4 ihk ihi =>
   intro b;rw [g46];exact three five (g1qi h3) (g1n8 h1 ihk) (g1n8 h2 ihi)
theorem g1it {a : SValue} (h : OkV a) : ∀ b, Says (g11 (a, b)) a b := by
 induction h with
 | mk a hs h1 h2 h3 hk hi hr n1 n2 n3 n4 ihk ihi =>
   intro b;rw [g11];by_cases h5 : a.Kind = b.Kind ∧ a.Bool_ = b.Bool_ ∧ a.Int_ = b.Int_ ∧ a.Str = b.Str ∧ a.ID = b.ID ∧ a.Rest.length = b.Rest.length
   · obtain ⟨e1, e2, e3, e4, e5, e6⟩ := h5;rw [if_neg (by simp [e1, e2, e3, e4, e5, e6, eqB])];have hr3 := g16s h3;have hsc := scan (fun i => g1v ((i : Int), a, b)) a.Rest.length (fun i => eqI (a.Rest.getD i dSRaw).ID (b.Rest.getD i dSRaw).ID && (eqS (a.Rest.getD i dSRaw).Data (b.Rest.getD i dSRaw).Data && true)) (.inl false) (.inr (a, b))
       (fun i hi' => by
         rw [g1v, if_pos (by simp; omega), if_pos (g16i hi')];simp only [oZ4, oZ3, g16j, SValue.gh];rw [if_pos (g16i (by omega)), g16o (by omega)];generalize (eqI (a.Rest.getD i dSRaw).ID (b.Rest.getD i dSRaw).ID && (eqS (a.Rest.getD i dSRaw).Data (b.Rest.getD i dSRaw).Data && true)) = c;cases c <;> rfl)
       (by rw [g1v, if_neg (by simp), SValue.gh, SValue.gh])
     have h0 : g1v (((0 : Nat) : Int), a, b) = g1v (0, a, b) := rfl;simp only [h0] at hsc;rw [g1cl, g1cl];have hp : ∀ (i : Nat) (h1 : i < a.Rest.length) (h2 : i < b.Rest.length), (eqI (a.Rest.getD i dSRaw).ID (b.Rest.getD i dSRaw).ID && (eqS (a.Rest.getD i dSRaw).Data (b.Rest.getD i dSRaw).Data && true)) = true ↔ a.Rest[i] = b.Rest[i] := fun i h1 h2 => by
       rw [g16t h1, g16t h2]; exact g1qg
     rcases hsc with ⟨g1, g2⟩ | ⟨g1, j, g2, g3⟩
     · have hrest := (g183 e6 hp).1 g2;rw [g1];obtain ⟨rk, k1, k2⟩ := g1n9 (a := a.Keys) (b := b.Keys) h1 ihk;obtain ⟨ri, i1, i2⟩ := g1n9 (a := a.Items) (b := b.Items) h2 ihi;simp only [oZ4, oZ3];rw [k1, i1];refine ⟨rk && ri, by cases rk <;> rfl, ?_⟩;rw [g1cm, Bool.and_eq_true, k2, i2];constructor
       · rintro ⟨q1, q2⟩; exact ⟨e1, e2, e3, e4, e5, hrest, q1, q2⟩
       · rintro ⟨_, _, _, _, _, _, q1, q2⟩; exact ⟨q1, q2⟩
     · rw [g1];refine ⟨false, rfl, ?_⟩;constructor
       · intro h; cases h
       · intro h;have := (g183 e6 hp).2 (g1cm.1 h).2.2.2.2.2.1 j g2;rw [g3] at this; cases this
   · rw [if_pos]
     · refine ⟨false, rfl, ?_⟩;constructor
       · intro h; cases h
       · intro h
         exfalso; apply h5
         obtain ⟨q1, q2, q3, q4, q5, q6, _⟩ := g1cm.1 h;exact ⟨q1, q2, q3, q4, q5, by rw [q6]⟩
     · simp only [Bool.cond_eq_ite, eqB];by_cases q1 : a.Kind = b.Kind <;> by_cases q2 : a.Bool_ = b.Bool_ <;> by_cases q3 : a.Int_ = b.Int_ <;> by_cases q4 : a.Str = b.Str <;> by_cases q5 : a.ID = b.ID <;> simp [q1, q2, q3, q4, q5]
       intro q6;exact h5 ⟨q1, q2, q3, q4, q5, by omega⟩
end
section
open Go Go.Proofs.YthnmepafpikaiaaGreat.Shv
set_option maxRecDepth 100000
def g1bk (c : Int) : Bool := decide (c = 95 ∨ (97 ≤ c ∧ c ≤ 122) ∨ (65 ≤ c ∧ c ≤ 90))
def g1fn (c : Int) : Bool := decide (48 ≤ c ∧ c ≤ 57)
theorem g1jk (c : Int) : g9f c = some (g1bk c) := by
 rw [g9f]; unfold g1bk
 congr 1
 by_cases h1 : c = 95 <;> by_cases h2 : 97 ≤ c <;> by_cases h3 : c ≤ 122 <;> by_cases h4 : 65 ≤ c <;> by_cases h5 : c ≤ 90 <;> simp [h1, h2, h3, h4, h5] <;> omega
theorem g1jl (c : Int) : g7t c = some (g1bk c) := by
 rw [g7t]; unfold g1bk
 congr 1
 by_cases h1 : c = 95 <;> by_cases h2 : 97 ≤ c <;> by_cases h3 : c ≤ 122 <;> by_cases h4 : 65 ≤ c <;> by_cases h5 : c ≤ 90 <;> simp [h1, h2, h3, h4, h5] <;> omega
theorem g1rt (c : Int) : gd0 c = some (g1fn c) := by
 rw [gd0]; unfold g1fn;by_cases h2 : 48 ≤ c <;> by_cases h3 : c ≤ 57 <;> simp [h2, h3]
theorem g1ru (c : Int) : gbb c = some (g1fn c) := by
 rw [gbb]; unfold g1fn;by_cases h2 : 48 ≤ c <;> by_cases h3 : c ≤ 57 <;> simp [h2, h3]
theorem g1lf {γ : Type} (A B I : Bool) (X Y : Option γ) (hI : I = true) :
   (some A >>= fun r_1 => some (!r_1) >>= fun t26 => if (I || (!t26)) = true then (if t26 = true then some B else some false) >>= fun r_2 => if (bif t26 then (!r_2) else false) = true then X else Y else none) = if (A || B) = true then Y else X := by
 subst hI; cases A <;> cases B <;> rfl
theorem g1na (s : List UInt8) : ∃ r, g33 s = some r ∧ g4m s = some r := by
 rw [g33, g4m];simp only [oZ4, oZ3];by_cases hb : s = [] ∨ 24 < s.length
 · have ht : (bif decide (s = []) then true else decide (24 < (s.length : Int))) = true := by
     rcases hb with h | h
     · simp [h]
     · simp; omega
   rw [ht];exact ⟨false, by simp, by simp⟩
 · have hne : s ≠ [] := fun h => hb (.inl h)
   have hlen : s.length ≤ 24 := by omega
   have ht : (bif decide (s = []) then true else decide (24 < (s.length : Int))) = false := by
     simp [hne]; omega
   have hpos : 0 < s.length := List.length_pos_iff.2 hne;have hin : inR 0 s.length = true := g16i (k := 0) hpos;simp only [ht, hin, Bool.true_or, if_true, Bool.not_false, oZ3, g1jk, g1jl, cond_false];cases hl : g1bk (g17g s 0) with
   | false => exact ⟨false, rfl, rfl⟩
   | true =>
     rw [if_neg (by simp), if_neg (by simp)]
     let p : Nat → Bool := fun i => g1bk (g17g s i) || g1fn (g17g s i)
     have s1 := scan (fun i => g2q (s, (s.length : Int), (i : Int))) s.length p (.inl false) (.inr ())
       (fun i hi => by
         rw [g2q, if_pos (by simp; omega), if_pos (g16i hi), g1jk, g1rt, g16o (by omega)];exact g1lf _ _ _ _ _ (g16i hi))
       (by rw [g2q, if_neg (by simp)])
     have s2 := scan (fun i => g2c (s, (i : Int))) s.length p (.inl false) (.inr ())
       (fun i hi => by
         rw [g2c, if_pos (by simp; omega), if_pos (g16i hi), g1jl, g1ru, g16o (by omega)];exact g1lf _ _ _ _ _ (g16i hi))
       (by rw [g2c, if_neg (by simp)])
     have e1 : g2q (s, (s.length : Int), ((0 : Nat) : Int)) = g2q (s, (s.length : Int), 0) := rfl;have e2 : g2c (s, ((0 : Nat) : Int)) = g2c (s, 0) := rfl;simp only [e1, e2] at s1 s2;rcases s1 with ⟨a1, a2⟩ | ⟨a1, j, a2, a3⟩ <;> rcases s2 with ⟨b1, b2⟩ | ⟨b1, k, b2, b3⟩
     · exact ⟨true, by rw [a1]; rfl, by rw [b1]; rfl⟩
     · have := a2 k b2; rw [b3] at this; cases this
     · have := b2 j a2; rw [a3] at this; cases this
     · exact ⟨false, by rw [a1]; rfl, by rw [b1]; rfl⟩
def nm (s : List UInt8) : Bool := (g33 s).getD false
theorem lexNm (s : List UInt8) : g33 s = some (nm s) := by
 obtain ⟨r, h1, _⟩ := g1na s;unfold nm; rw [h1]; rfl
theorem refNm (s : List UInt8) : g4m s = some (nm s) := by
 obtain ⟨r, h1, h2⟩ := g1na s;unfold nm; rw [h1, h2]; rfl
theorem nm_ne {s : List UInt8} (h : nm s = true) : s ≠ [] := by
 rintro rfl
 unfold nm at h;rw [g33] at h;simp at h
def idp (l : List Int) (names : List (List UInt8)) (i : Nat) : Bool :=
 decide (1 ≤ l.getD i 0) && decide (l.getD i 0 ≤ 1000) && (decide (i = 0) || decide (l.getD (i - 1) 0 < l.getD i 0)) && nm (names.getD i []) && !((names.take i).contains (names.getD i []))
def setOf (l : List (List UInt8)) : List (List UInt8) := l.foldl addS []
theorem g1rv (ks : List (List UInt8)) (a s : List UInt8) : hasS (addS ks a) s = (hasS ks s || decide (a = s)) := by
 unfold addS;split
 · rename_i h;by_cases e : a = s
   · subst e; simp [h]
   · simp [e]
 · simp [hasS, List.any_append]
theorem g1i5 (l : List (List UInt8)) (s : List UInt8) : hasS (setOf l) s = l.contains s := by
 have key : ∀ (l : List (List UInt8)) (ks : List (List UInt8)), hasS (l.foldl addS ks) s = (hasS ks s || l.contains s) := by
   intro l
   induction l with
   | nil => intro ks; simp
   | cons a r ih =>
     intro ks;rw [List.foldl_cons, ih, g1rv, Bool.or_assoc]
     congr 1
     rw [List.contains_cons]
     congr 1
     by_cases e : a = s
     · subst e; simp
     · have : ¬ s = a := fun h => e h.symm
       simp [e, this]
 have := key l []
 simpa [setOf, hasS] using this
theorem g1i6 {l : List (List UInt8)} {i : Nat} (h : i < l.length) : addS (setOf (l.take i)) (l.getD i []) = setOf (l.take (i + 1)) := by
 unfold setOf;rw [List.take_add_one, List.foldl_append, List.getElem?_eq_getElem h, g16t h];rfl
theorem g1sm {γ : Type} (A Z I1 C I H N : Bool) (X Y : Option γ) (hI : I = true) (hI1 : Z = true → I1 = true) :
   (if (I1 || (!((!A) && Z))) = true then
     some (bif A then true else bif Z then C else false) >>= fun t34 =>
     if (I || (!(!t34))) = true then
       some (bif t34 then true else H) >>= fun t42 =>
       if (I || (!(!t42))) = true then
         (if (!t42) = true then some N else some false) >>= fun r =>
         if (bif t42 then true else (!r)) = true then X else (if I = true then Y else none)
       else none
     else none
   else none) = if (!A && (!Z || !C) && N && !H) = true then Y else X := by
 subst hI;cases Z with
 | true => have := hI1 rfl; subst this; cases A <;> cases C <;> cases H <;> cases N <;> rfl
 | false => cases A <;> cases I1 <;> cases C <;> cases H <;> cases N <;> rfl
theorem g1qj {l : List Int} {names : List (List UInt8)} (hl : l.length ≤ reachBytes) (hn : names.length = l.length) : ∃ r, gg9 (l, names) = some r ∧ (r = true ↔ (∀ i, i < l.length → idp l names i = true) ∧ l.length ≤ 16) := by
 rw [gg9];have hr := g16s hl;have hsc := scan (fun i => g3n (l, names, l, (l.length : Int), (i : Int), setOf (names.take i))) l.length (idp l names) (.inl false) (.inr l)
   (fun i hi => by
     have hin : i < names.length := by omega
     rw [g3n, if_pos (by simp; omega), if_pos (g16i hi)];simp only [g16j];rw [lexNm, g16o (by omega), g1i6 hin, g1i5];have hsub : 0 < i → subI .i64 (i : Int) 1 = ((i - 1 : Nat) : Int) := by
       intro h; rw [g1dm (by omega) (by omega)]; omega
     refine (g1sm (bif decide (l.getD i 0 < 1) then true else decide (1000 < l.getD i 0)) (decide ((0 : Int) < (i : Int))) (inR (subI .i64 (i : Int) 1) l.length) (decide (l.getD i 0 ≤ l.getD (subI .i64 (i : Int) 1).toNat 0)) (inR (i : Int) names.length) ((names.take i).contains (names.getD i [])) (nm (names.getD i [])) _ _ (g16i hin) (fun hz => ?_)).trans ?_
     · have hpos : 0 < i := by simp at hz; omega
       rw [hsub hpos]; exact g16i (by omega)
     · have : (!(bif decide (l.getD i 0 < 1) then true else decide (1000 < l.getD i 0)) && (!(decide ((0 : Int) < (i : Int))) || !(decide (l.getD i 0 ≤ l.getD (subI .i64 (i : Int) 1).toNat 0))) && nm (names.getD i []) && !((names.take i).contains (names.getD i []))) = idp l names i := by
         unfold idp;generalize nm (names.getD i []) = N;generalize (names.take i).contains (names.getD i []) = H;generalize l.getD i 0 = x;by_cases h0 : i = 0
         · subst h0;cases N <;> cases H <;> by_cases h1 : 1 ≤ x <;> by_cases h2 : x ≤ 1000 <;> simp [h1, h2] <;> omega
         · have hz : decide ((0 : Int) < (i : Int)) = true := by simp; omega
           rw [hz, hsub (by omega), g16j];generalize l.getD (i - 1) 0 = y;cases N <;> cases H <;> by_cases h1 : 1 ≤ x <;> by_cases h2 : x ≤ 1000 <;> by_cases h3 : y < x <;> simp [h0, h1, h2, h3] <;> omega
       rw [this])
   (by rw [g3n, if_neg (by simp)])
 have e0 : g3n (l, names, l, (l.length : Int), ((0 : Nat) : Int), setOf (names.take 0)) = g3n (l, names, l, (l.length : Int), 0, []) := rfl;simp only [e0] at hsc;rcases hsc with ⟨h1, h2⟩ | ⟨h1, j, h2, h3⟩
 · rw [h1];refine ⟨decide ((l.length : Int) ≤ 16), rfl, ?_⟩;simp only [decide_eq_true_eq];constructor
   · intro h; exact ⟨h2, by omega⟩
   · intro h; omega
 · rw [h1];refine ⟨false, rfl, ?_⟩;constructor
   · intro h; cases h
   · rintro ⟨h, _⟩
     have := h j h2; rw [h3] at this; cases this
end
section
open Go Go.Proofs.YthnmepafpikaiaaGreat.Shv
set_option maxRecDepth 100000
theorem room8 {k n : Nat} (hk : k ≤ 16) (h : n * 24 ≤ reachBytes) : room k n = true := by
 unfold room g17e g16v;unfold reachBytes at h;simp only [Bool.and_eq_true, decide_eq_true_eq];have : (2 * n + 192) * k ≤ (2 * n + 192) * 16 := Nat.mul_le_mul_left _ hk;omega
theorem g19u {α : Type} (l : List α) (i : Nat) (d : α) (h : i < l.length) : l.take i ++ [l.getD i d] = l.take (i + 1) := by
 rw [List.take_add_one, List.getElem?_eq_getElem h, g16t h]; rfl
theorem g170 {α β : Type} (f : α → β) (l : List α) (i : Nat) (d : α) (e : β) (h : i < l.length) : (l.map f).getD i e = f (l.getD i d) := by
 rw [g16t h, g16t (by simpa using h)]; simp
theorem g17v {l : List (List UInt8)} {i : Nat} {s : List UInt8} (hi : i ≤ l.length) : (l.take i).contains s = true ↔ ∃ k, k < i ∧ l.getD k [] = s := by
 rw [List.contains_iff_mem];constructor
 · intro h;obtain ⟨k, hk, he⟩ := List.getElem_of_mem h;rw [List.length_take] at hk;refine ⟨k, by omega, ?_⟩;rw [g16t (by omega), ← he, List.getElem_take]
 · rintro ⟨k, hk, he⟩
   rw [← he, g16t (by omega)];have : (l.take i)[k]'(by rw [List.length_take]; omega) = l[k] := List.getElem_take;rw [← this];exact List.getElem_mem _
def bef (l : List Int) (i : Nat) : Int := if i = 0 then 0 else l.getD (i - 1) 0
theorem g1nb {l : List Int} {names : List (List UInt8)} {i : Nat} (hi : i < l.length) (hn : names.length = l.length) :
   idp l names i = (decide (bef l i < l.getD i 0) && decide (1 ≤ l.getD i 0) && decide (l.getD i 0 ≤ 1000) && nm (names.getD i []) && !((names.take i).contains (names.getD i []))) := by
 unfold idp bef;generalize l.getD i 0 = x;generalize l.getD (i - 1) 0 = y;generalize nm (names.getD i []) = a;generalize (names.take i).contains (names.getD i []) = b;by_cases h0 : i = 0
 · subst h0;by_cases h1 : 1 ≤ x
   · have : decide ((0 : Int) < x) = true := by simp; omega
     simp [h1, this]
   · simp [h1]
 · simp only [h0, if_false, decide_false, Bool.false_or];by_cases h1 : 1 ≤ x <;> by_cases h2 : x ≤ 1000 <;> by_cases h3 : y < x <;> simp [h1, h2, h3]
theorem g1i7 (l : List SSymbol) (hl : l.length * 24 ≤ reachBytes) : ∀ (k i : Nat), i + k = l.length → g2i (l, l, (l.length : Int), (i : Int), (l.map (·.ID)).take i, (l.map (·.Name)).take i) = some (l, l.map (·.ID), l.map (·.Name))
 | 0, i, h => by
   have : i = l.length := by omega
   subst this;rw [g2i, if_neg (by simp)];rw [List.take_of_length_le (by simp), List.take_of_length_le (by simp)]
 | k + 1, i, h => by
   have hr : l.length < 9223372036854775807 := by unfold reachBytes at hl; omega
   have hi : i < l.length := by omega
   rw [g2i, if_pos (by simp; omega), if_pos (g16i hi)];simp only [oZ4, oZ3, g16j];rw [← g170 (·.ID) l i dSSymbol 0 hi, ← g170 (·.Name) l i dSSymbol [] hi, g19u _ _ _ (by simpa using hi), g19u _ _ _ (by simpa using hi)];rw [if_pos (room8 (by omega) (by simp; omega)), if_pos (room8 (by omega) (by simp; omega)), g16o (by omega)];exact g1i7 l hl k (i + 1) (by omega)
theorem g1nc {l : List SSymbol} (hl : l.length * 24 ≤ reachBytes) : ∃ r, g73 l = some r ∧ (r = true ↔ 0 < l.length ∧ (∀ i, i < l.length → idp (l.map (·.ID)) (l.map (·.Name)) i = true) ∧ l.length ≤ 16) := by
 have h := g1i7 l hl l.length 0 (by omega);have h' : g2i (l, l, (l.length : Int), 0, [], []) = some (l, l.map (·.ID), l.map (·.Name)) := h;rw [g73, h'];simp only [oZ4, oZ3];obtain ⟨r, h1, h2⟩ := g1qj (l := l.map (·.ID)) (names := l.map (·.Name)) (by simp; unfold reachBytes at *; omega) (by simp);rw [List.length_map] at h2;rw [h1]
 refine ⟨decide (0 < (l.length : Int)) && r, ?_, ?_⟩
 · cases decide (0 < (l.length : Int)) <;> rfl
 · rw [Bool.and_eq_true, h2, decide_eq_true_eq];constructor
   · rintro ⟨a, b⟩; exact ⟨by omega, b⟩
   · rintro ⟨a, b⟩; exact ⟨by omega, b⟩
theorem refId (a b : Int) : gbp (a, b) = some (decide (a < b) && decide (1 ≤ b) && decide (b ≤ 1000)) := by
 rw [gbp];cases decide (a < b) <;> cases decide (1 ≤ b) <;> rfl
theorem g1p1 (l : List SSymbol) (hl : l.length ≤ reachBytes) (i : Nat) (hi : i < l.length) :
   g1h (l, (i : Int), 0) = some (if ((l.map (·.Name)).take i).contains ((l.map (·.Name)).getD i []) = true then .inl false else .inr (l, (i : Int))) := by
 have hr := g16s hl;have hsc := scan (fun k => g1h (l, (i : Int), (k : Int))) i (fun k => !(decide ((l.getD k dSSymbol).Name = (l.getD i dSSymbol).Name))) (.inl false) (.inr (l, (i : Int)))
   (fun k hk => by
     rw [g1h, if_pos (by simp; omega), if_pos (g16i (by omega)), if_pos (g16i hi), g16o (by omega)];simp only [g16j];cases decide ((l.getD k dSSymbol).Name = (l.getD i dSSymbol).Name) <;> rfl)
   (by rw [g1h, if_neg (by simp)])
 have e0 : g1h (l, (i : Int), ((0 : Nat) : Int)) = g1h (l, (i : Int), 0) := rfl;simp only [e0] at hsc;rw [g170 (·.Name) l i dSSymbol [] hi];rcases hsc with ⟨h1, h2⟩ | ⟨h1, j, h2, h3⟩
 · rw [h1, if_neg];rw [g17v (by simp; omega)]
   rintro ⟨k, hk, he⟩
   rw [g170 (·.Name) l k dSSymbol [] (by omega)] at he;have := h2 k hk;rw [he] at this;simp at this
 · rw [h1, if_pos];rw [g17v (by simp; omega)];refine ⟨j, h2, ?_⟩;rw [g170 (·.Name) l j dSSymbol [] (by omega)]
   simpa using h3
theorem g1sn {l : List SSymbol} (hl : l.length ≤ reachBytes) : ∃ r, g6z l = some r ∧ (r = true ↔ 0 < l.length ∧ (∀ i, i < l.length → idp (l.map (·.ID)) (l.map (·.Name)) i = true) ∧ l.length ≤ 16) := by
 have hr := g16s hl;have hsc := scan (fun i => g27 (l, bef (l.map (·.ID)) i, (i : Int))) l.length (idp (l.map (·.ID)) (l.map (·.Name))) (.inl false) (.inr l)
   (fun i hi => by
     rw [g27, if_pos (by simp; omega), if_pos (g16i hi), refId, g1p1 l hl i hi, g1nb (by simpa using hi) (by simp)];simp only [oZ4, oZ3, g16j];rw [← g170 (·.ID) l i dSSymbol 0 hi, ← g170 (·.Name) l i dSSymbol [] hi, refNm]
     generalize (decide (bef (l.map (·.ID)) i < (l.map (·.ID)).getD i 0) && decide (1 ≤ (l.map (·.ID)).getD i 0) && decide ((l.map (·.ID)).getD i 0 ≤ 1000)) = q;rw [if_pos (by rw [g16i hi]; rfl)];cases q with
     | false => rfl
     | true =>
       simp only [Bool.not_true, Bool.not_false, if_true, oZ3, Bool.true_and];cases nm ((l.map (·.Name)).getD i []) with
       | false => rfl
       | true =>
         simp only [Bool.not_true, cond_false, Bool.false_eq_true, if_false, Bool.true_and];cases hc : ((l.map (·.Name)).take i).contains ((l.map (·.Name)).getD i []) with
         | true => simp
         | false =>
           simp only [Bool.false_eq_true, if_false, Bool.not_false, if_true];rw [if_pos (g16i hi), g16o (by omega)];have : bef (l.map (·.ID)) (i + 1) = (l.getD i dSSymbol).ID := by
             unfold bef;rw [if_neg (by omega)];exact g170 (·.ID) l i dSSymbol 0 hi
           rw [this];rfl)
   (by rw [g27, if_neg (by simp)])
 have e0 : g27 (l, bef (l.map (·.ID)) 0, ((0 : Nat) : Int)) = g27 (l, 0, 0) := rfl;simp only [e0] at hsc;rw [g6z];rcases hsc with ⟨h1, h2⟩ | ⟨h1, j, h2, h3⟩
 · rw [h1];refine ⟨_, rfl, ?_⟩;simp only [Bool.cond_eq_ite];constructor
   · intro h;split at h
     · rename_i h4; simp at h h4; exact ⟨by omega, h2, by omega⟩
     · cases h
   · rintro ⟨a, _, b⟩
     rw [if_pos (by simp; omega)]; simp; omega
 · rw [h1];refine ⟨false, rfl, ?_⟩;constructor
   · intro h; cases h
   · rintro ⟨_, h, _⟩
     have := h j h2; rw [h3] at this; cases this
theorem g1qk {l : List SSymbol} (hl : l.length * 24 ≤ reachBytes) : ∃ r, g73 l = some r ∧ g6z l = some r := by
 obtain ⟨r, h1, h2⟩ := g1nc hl;obtain ⟨q, h3, h4⟩ := g1sn (l := l) (by unfold reachBytes at *; omega);have : r = q := Bool.eq_iff_iff.2 (h2.trans h4.symm);exact ⟨r, h1, by rw [this]; exact h3⟩
end
section
open Go Go.Proofs.YthnmepafpikaiaaGreat.Shv
set_option maxRecDepth 100000
structure OkT (t : SType) : Prop where
 syms : t.Symbols.length * 24 ≤ reachBytes
 mems : t.Members.length * 24 ≤ reachBytes
 dv : ∀ m, m ∈ t.Members → OkV m.Default
theorem g17i {n : Nat} (h : n * 24 ≤ reachBytes) : n ≤ reachBytes := by unfold reachBytes at *; omega
theorem g1p2 {a b : SMember} : a = b ↔ a.ID = b.ID ∧ a.Name = b.Name ∧ a.Type_ = b.Type_ ∧ a.Critical = b.Critical ∧ a.HasDefault = b.HasDefault ∧ a.Default = b.Default := by
 cases a; cases b; simp
theorem g18v (x : SMember) : (⟨x.ID, x.Name, x.Type_, x.Critical, x.HasDefault, SValue.eta x.Default⟩ : SMember) = x := by cases x; simp [SValue.gh]
theorem fiveM {a b : SMember} : (bif bif bif bif decide (a.ID = b.ID) then decide (a.Name = b.Name) else false then decide (a.Type_ = b.Type_) else false then eqB a.Critical b.Critical else false then eqB a.HasDefault b.HasDefault else false) = true ↔ a.ID = b.ID ∧ a.Name = b.Name ∧ a.Type_ = b.Type_ ∧ a.Critical = b.Critical ∧ a.HasDefault = b.HasDefault := by
 simp only [Bool.cond_eq_ite, eqB];by_cases h1 : a.ID = b.ID <;> by_cases h2 : a.Name = b.Name <;> by_cases h3 : a.Type_ = b.Type_ <;> by_cases h4 : a.Critical = b.Critical <;> simp [h1, h2, h3, h4]
theorem twoM {a b : SMember} {q : Bool} (hq : q = true ↔ a.ID = b.ID ∧ a.Name = b.Name ∧ a.Type_ = b.Type_ ∧ a.Critical = b.Critical ∧ a.HasDefault = b.HasDefault) {x : Option Bool} (hx : Says x a.Default b.Default) :
   Says (some q >>= fun t37 => (if t37 = true then x else some false) >>= fun r => some (bif t37 then r else false)) a b := by
 obtain ⟨rx, h1, h2⟩ := hx;subst h1;refine ⟨q && rx, by cases q <;> cases rx <;> rfl, ?_⟩;rw [g1p2, Bool.and_eq_true, hq, h2];constructor
 · rintro ⟨⟨a1, a2, a3, a4, a5⟩, a6⟩; exact ⟨a1, a2, a3, a4, a5, a6⟩
 · rintro ⟨a1, a2, a3, a4, a5, a6⟩; exact ⟨⟨a1, a2, a3, a4, a5⟩, a6⟩
theorem g1ql {a : SMember} (h : OkV a.Default) (b : SMember) : Says (g9e (a, b)) a b := by
 rw [g9e];simp only [g1cl, SValue.gh];exact twoM fiveM (g1ee h _)
theorem g1qm {a : SMember} (h : OkV a.Default) (b : SMember) : Says (g5a (a, b)) a b := by
 rw [g5a];simp only [g1cl];exact twoM fiveM (g1it h _)
theorem g1gn {f : SMember × SMember → Option Bool} {γ : Type} {g : γ} {a b : List SMember} (hl : a.length = b.length) (ih : ∀ x, x ∈ a → ∀ y, Says (f (x, y)) x y) (L : Nat → Option (Bool ⊕ γ))
   (hstep : ∀ i, i < a.length → L i = (f (a.getD i dSMember, b.getD i dSMember) >>= fun r => if (!r) = true then some (.inl false) else L (i + 1)))
   (hend : L a.length = some (.inr g)) : (L 0 = some (.inr g) ∧ a = b) ∨ (L 0 = some (.inl false) ∧ a ≠ b) := by
 have hget : ∀ (i : Nat) (h1 : i < a.length) (h2 : i < b.length), Says (f (a.getD i dSMember, b.getD i dSMember)) a[i] b[i] := by
   intro i h1 h2;rw [g16t h1, g16t h2];exact ih _ (List.getElem_mem h1) _
 have hp : ∀ (i : Nat) (h1 : i < a.length) (h2 : i < b.length), (f (a.getD i dSMember, b.getD i dSMember)).getD false = true ↔ a[i] = b[i] := by
   intro i h1 h2;obtain ⟨r, h3, h4⟩ := hget i h1 h2;rw [h3]; exact h4
 have := scan L a.length (fun i => (f (a.getD i dSMember, b.getD i dSMember)).getD false) (.inl false) (.inr g)
   (fun i hi => by
     obtain ⟨r, h1, h2⟩ := hget i hi (by omega);rw [hstep i hi, h1];cases r <;> rfl) hend
 rcases this with ⟨h1, h2⟩ | ⟨h1, j, h2, h3⟩
 · exact .inl ⟨h1, (g183 hl hp).1 h2⟩
 · refine .inr ⟨h1, fun e => ?_⟩;have := (g183 hl hp).2 e j h2;rw [h3] at this; cases this
theorem g1lg {a b : List SMember} (ha : a.length ≤ reachBytes) (hd : ∀ m, m ∈ a → OkV m.Default) : Says (gx (a, b)) a b := by
 rw [gx];by_cases hl : a.length = b.length
 · rw [if_neg (by simp; omega)];have hr := g16s ha;have hs := g1gn (g := ()) hl (f := g9e) (fun x hx y => g1ql (hd x hx) y) (fun i => g8 (b, a, (a.length : Int), (i : Int)))
     (fun i hi => by
       rw [g8, if_pos (by simp; omega), if_pos (g16i hi)];simp only [oZ4, oZ3, g16j, g18v];rw [if_pos (g16i (by omega)), g16o (by omega)])
     (by rw [g8, if_neg (by simp)])
   have e0 : g8 (b, a, (a.length : Int), ((0 : Nat) : Int)) = g8 (b, a, (a.length : Int), 0) := rfl;simp only [e0] at hs;rcases hs with ⟨h1, h2⟩ | ⟨h1, h2⟩
   · rw [h1]; exact ⟨true, rfl, by simp [h2]⟩
   · rw [h1]; exact ⟨false, rfl, by simp [h2]⟩
 · rw [if_pos (by simp; omega)];exact g1ai hl
theorem g1ef {a b : SType} : a = b ↔ a.Kind = b.Kind ∧ a.Name = b.Name ∧ a.Low = b.Low ∧ a.High = b.High ∧ a.Max = b.Max ∧ a.Key = b.Key ∧ a.Elem = b.Elem ∧ a.Open = b.Open ∧ a.Symbols = b.Symbols ∧ a.Members = b.Members := by
 cases a; cases b;simp only [SType.mk.injEq];constructor
 · rintro ⟨h1, h2, h3, h4, h5, h6, h7, h8, h9, h10⟩; exact ⟨h1, h2, h3, h4, h5, h8, h9, h10, h6, h7⟩
 · rintro ⟨h1, h2, h3, h4, h5, h6, h7, h8, h9, h10⟩; exact ⟨h1, h2, h3, h4, h5, h9, h10, h6, h7, h8⟩
theorem g1tn {a b : SType} : (bif bif bif bif bif bif bif decide (a.Kind = b.Kind) then decide (a.Name = b.Name) else false then decide (a.Low = b.Low) else false then decide (a.High = b.High) else false then decide (a.Max = b.Max) else false then decide (a.Key = b.Key) else false then decide (a.Elem = b.Elem) else false then eqB a.Open b.Open else false) = true ↔
   a.Kind = b.Kind ∧ a.Name = b.Name ∧ a.Low = b.Low ∧ a.High = b.High ∧ a.Max = b.Max ∧ a.Key = b.Key ∧ a.Elem = b.Elem ∧ a.Open = b.Open := by
 simp only [Bool.cond_eq_ite, eqB];by_cases h1 : a.Kind = b.Kind <;> by_cases h2 : a.Name = b.Name <;> by_cases h3 : a.Low = b.Low <;> by_cases h4 : a.High = b.High <;> simp [h1, h2, h3, h4]
 by_cases h5 : a.Max = b.Max <;> by_cases h6 : a.Key = b.Key <;> by_cases h7 : a.Elem = b.Elem <;> simp [h5, h6, h7]
theorem g17n {a : SType} (h : OkT a) (b : SType) : Says (g1a (a, b)) a b := by
 rw [g1a];obtain ⟨rs, s1, s2⟩ := g1tm (a := a.Symbols) (b := b.Symbols) (g17i h.syms);obtain ⟨rm, m1, m2⟩ := g1lg (a := a.Members) (b := b.Members) (g17i h.mems) h.dv;have e8 := g1tn (a := a) (b := b)
 generalize (bif bif bif bif bif bif bif decide (a.Kind = b.Kind) then decide (a.Name = b.Name) else false then decide (a.Low = b.Low) else false then decide (a.High = b.High) else false then decide (a.Max = b.Max) else false then decide (a.Key = b.Key) else false then decide (a.Elem = b.Elem) else false then eqB a.Open b.Open else false) = q at e8 ⊢
 simp only [oZ4, oZ3];rw [s1, m1];refine ⟨q && rs && rm, by cases q <;> cases rs <;> cases rm <;> rfl, ?_⟩;rw [g1ef, Bool.and_eq_true, Bool.and_eq_true, e8, s2, m2];constructor
 · rintro ⟨⟨⟨a1, a2, a3, a4, a5, a6, a7, a8⟩, a9⟩, a10⟩; exact ⟨a1, a2, a3, a4, a5, a6, a7, a8, a9, a10⟩
 · rintro ⟨a1, a2, a3, a4, a5, a6, a7, a8, a9, a10⟩; exact ⟨⟨⟨a1, a2, a3, a4, a5, a6, a7, a8⟩, a9⟩, a10⟩
theorem g1h4 (a : SType) : (⟨a.Kind, a.Name, a.Low, a.High, a.Max, a.Symbols, a.Members, a.Key, a.Elem, a.Open⟩ : SType) = a := by cases a; rfl
theorem g19h {a : SType} (h : OkT a) (b : SType) : Says (g8x (a, b)) a b := by
 rw [g8x];simp only [g1h4];by_cases h5 : (a.Kind = b.Kind ∧ a.Name = b.Name ∧ a.Low = b.Low ∧ a.High = b.High ∧ a.Max = b.Max ∧ a.Key = b.Key ∧ a.Elem = b.Elem ∧ a.Open = b.Open) ∧ a.Symbols.length = b.Symbols.length ∧ a.Members.length = b.Members.length
 · obtain ⟨⟨e1, e2, e3, e4, e5, e6, e7, e8⟩, e9, e10⟩ := h5;rw [if_neg (by simp [e1, e2, e3, e4, e5, e6, e7, e8, e9, e10, eqB])];have hr := g16s (g17i h.syms);have hr2 := g16s (g17i h.mems)
   have hsc := scan (fun i => g20 ((i : Int), a, b)) a.Symbols.length (fun i => eqI (a.Symbols.getD i dSSymbol).ID (b.Symbols.getD i dSSymbol).ID && (eqS (a.Symbols.getD i dSSymbol).Name (b.Symbols.getD i dSSymbol).Name && true)) (.inl false) (.inr (a, b))
     (fun i hi' => by
       rw [g20, if_pos (by simp; omega), if_pos (g16i hi')];simp only [oZ4, oZ3, g16j];rw [if_pos (g16i (by omega)), g16o (by omega)];generalize (eqI (a.Symbols.getD i dSSymbol).ID (b.Symbols.getD i dSSymbol).ID && (eqS (a.Symbols.getD i dSSymbol).Name (b.Symbols.getD i dSSymbol).Name && true)) = c;cases c <;> rfl)
     (by rw [g20, if_neg (by simp)])
   have h0 : g20 (((0 : Nat) : Int), a, b) = g20 (0, a, b) := rfl;simp only [h0] at hsc;have hp : ∀ (i : Nat) (h1 : i < a.Symbols.length) (h2 : i < b.Symbols.length), (eqI (a.Symbols.getD i dSSymbol).ID (b.Symbols.getD i dSSymbol).ID && (eqS (a.Symbols.getD i dSSymbol).Name (b.Symbols.getD i dSSymbol).Name && true)) = true ↔ a.Symbols[i] = b.Symbols[i] := fun i h1 h2 => by
     rw [g16t h1, g16t h2]; exact g1qh
   rcases hsc with ⟨g1, g2⟩ | ⟨g1, j, g2, g3⟩
   · have hsy := (g183 e9 hp).1 g2;rw [g1];simp only [oZ4, oZ3];have hs := g1gn (g := ()) e10 (f := g5a) (fun x hx y => g1qm (h.dv x hx) y) (fun i => g21 ((i : Int), a, b))
       (fun i hi => by
         rw [g21, if_pos (by simp; omega), if_pos (g16i hi)];simp only [oZ4, oZ3, g16j, g18v];rw [if_pos (g16i (by omega)), g16o (by omega)])
       (by rw [g21, if_neg (by simp)])
     have e0 : g21 (((0 : Nat) : Int), a, b) = g21 (0, a, b) := rfl;simp only [e0] at hs;rcases hs with ⟨k1, k2⟩ | ⟨k1, k2⟩
     · rw [k1];refine ⟨true, rfl, ?_⟩;rw [g1ef];simp [e1, e2, e3, e4, e5, e6, e7, e8, hsy, k2]
     · rw [k1];refine ⟨false, rfl, ?_⟩;rw [g1ef];simp [k2]
   · rw [g1];refine ⟨false, rfl, ?_⟩;constructor
     · intro h; cases h
     · intro h;have := (g183 e9 hp).2 (g1ef.1 h).2.2.2.2.2.2.2.2.1 j g2;rw [g3] at this; cases this
 · rw [if_pos]
   · refine ⟨false, rfl, ?_⟩;constructor
     · intro h; cases h
     · intro h
       exfalso; apply h5
       subst h;simp
   · simp only [Bool.cond_eq_ite, eqB];by_cases q1 : a.Kind = b.Kind <;> by_cases q2 : a.Name = b.Name <;> by_cases q3 : a.Low = b.Low <;> by_cases q4 : a.High = b.High <;> simp [q1, q2, q3, q4]
     by_cases q5 : a.Max = b.Max <;> by_cases q6 : a.Key = b.Key <;> by_cases q7 : a.Elem = b.Elem <;> by_cases q8 : a.Open = b.Open <;> simp [q5, q6, q7, q8]
     by_cases q9 : a.Symbols.length = b.Symbols.length
     · by_cases q10 : a.Members.length = b.Members.length
       · exact absurd ⟨⟨q1, q2, q3, q4, q5, q6, q7, q8⟩, q9, q10⟩ h5
       · right; omega
     · left; omega
end
section
open Go Go.Proofs.YthnmepafpikaiaaGreat.Shv
set_option maxRecDepth 100000
def g1ax (v : SValue) : Bool := (g46 (v, dSValue)).getD false
theorem g1so {v : SValue} (h : OkV v) : g46 (v, dSValue) = some (g1ax v) := by
 obtain ⟨r, h1, h2⟩ := g1ee h dSValue;unfold g1ax; rw [h1]; rfl
theorem g1sp {v : SValue} (h : OkV v) : g11 (v, dSValue) = some (g1ax v) := by
 obtain ⟨r, h1, h2⟩ := g1ee h dSValue;obtain ⟨q, h3, h4⟩ := g1it h dSValue;unfold g1ax; rw [h1, h3];have : q = r := Bool.eq_iff_iff.2 (h4.trans h2.symm);rw [this]; rfl
theorem g1rw {v : SValue} (h : OkV v) : gf2 v = some (g1ax v) := by
 rw [gf2, SValue.gh];have := g1so h;unfold dSValue at this;rw [this]; rfl
def badM (union : Bool) (m : SMember) : Bool := (union && (m.Critical || m.HasDefault)) || (m.Critical && m.HasDefault) || (!m.HasDefault && !g1ax m.Default)
theorem g16r {α : Type} {l : List α} {i : Nat} (h : i < l.length) (d : α) : l.getD i d ∈ l := by
 rw [g16t h]; exact List.getElem_mem h
theorem g1i8 {t : SType} (h : OkT t) : ∃ r, g5m t = some r ∧ (r = true ↔ (∀ i, i < t.Members.length → badM (decide (t.Kind = 6)) (t.Members.getD i dSMember) = false) ∧ (t.Kind = 5 ∨ 0 < t.Members.length) ∧ (∀ i, i < t.Members.length → idp (t.Members.map (·.ID)) (t.Members.map (·.Name)) i = true) ∧ t.Members.length ≤ 16) := by
 have hr : t.Members.length < 9223372036854775807 := g16s (g17i h.mems);have hsc := scan (fun i => g24 (t.Members, (t.Members.length : Int), (i : Int), t, (t.Members.map (·.ID)).take i, (t.Members.map (·.Name)).take i)) t.Members.length (fun i => !(badM (decide (t.Kind = 6)) (t.Members.getD i dSMember))) (.inl false) (.inr (t, t.Members.map (·.ID), t.Members.map (·.Name)))
   (fun i hi => by
     have hz := g1rw (h.dv _ (g16r hi dSMember));rw [g24, if_pos (by simp; omega), if_pos (g16i hi)];simp only [oZ4, oZ3, g16j, SValue.gh];rw [← g170 (·.ID) t.Members i dSMember 0 hi, ← g170 (·.Name) t.Members i dSMember [] hi, g19u _ _ _ (by simpa using hi), g19u _ _ _ (by simpa using hi)]
     have hb : ((t.Members.map (·.ID)).take (i + 1)).length * 24 ≤ reachBytes := by
       refine Nat.le_trans (Nat.mul_le_mul_right _ ?_) h.mems;simp; omega
     have hb2 : ((t.Members.map (·.Name)).take (i + 1)).length * 24 ≤ reachBytes := by
       refine Nat.le_trans (Nat.mul_le_mul_right _ ?_) h.mems;simp; omega
     rw [if_pos (room8 (by omega) hb), if_pos (room8 (by omega) hb2), g16o (by omega), hz];unfold badM;cases decide (t.Kind = 6) <;> cases (t.Members.getD i dSMember).Critical <;> cases (t.Members.getD i dSMember).HasDefault <;> cases g1ax (t.Members.getD i dSMember).Default <;> rfl)
   (by
     rw [g24, if_neg (by simp)];rw [List.take_of_length_le (by simp), List.take_of_length_le (by simp)])
 have e0 : g24 (t.Members, (t.Members.length : Int), ((0 : Nat) : Int), t, (t.Members.map (·.ID)).take 0, (t.Members.map (·.Name)).take 0) = g24 (t.Members, (t.Members.length : Int), 0, t, [], []) := rfl;simp only [e0] at hsc;rw [g5m];obtain ⟨r, h1, h2⟩ := g1qj (l := t.Members.map (·.ID)) (names := t.Members.map (·.Name)) (by simpa using g17i h.mems) (by simp);rw [List.length_map] at h2
 rcases hsc with ⟨g1, g2⟩ | ⟨g1, j, g2, g3⟩
 · rw [g1];simp only [oZ4, oZ3];rw [h1];refine ⟨(bif decide (t.Kind = 5) then true else decide (0 < ((t.Members.map (·.ID)).length : Int))) && r, ?_, ?_⟩
   · cases (bif decide (t.Kind = 5) then true else decide (0 < ((t.Members.map (·.ID)).length : Int))) <;> rfl
   · rw [Bool.and_eq_true, h2];have e5 : (bif decide (t.Kind = 5) then true else decide (0 < ((t.Members.map (·.ID)).length : Int))) = true ↔ (t.Kind = 5 ∨ 0 < t.Members.length) := by
       by_cases h5 : t.Kind = 5 <;> simp [h5]
     rw [e5];constructor
     · rintro ⟨a, b, c⟩
       exact ⟨fun i hi => by simpa using g2 i hi, a, b, c⟩
     · rintro ⟨_, a, b, c⟩; exact ⟨a, b, c⟩
 · rw [g1];refine ⟨false, rfl, ?_⟩;constructor
   · intro h; cases h
   · rintro ⟨a, _⟩
     have h5 := a j g2;have g3' : (!(badM (decide (t.Kind = 6)) (t.Members.getD j dSMember))) = false := g3;rw [h5] at g3';cases g3'
theorem g1p3 (l : List SMember) (record : Bool) (hl : l.length ≤ reachBytes) (i : Nat) (hi : i < l.length) :
   g1i (l, record, (i : Int), 0, l.getD i dSMember) = some (if ((l.map (·.Name)).take i).contains ((l.map (·.Name)).getD i []) = true then .inl false else .inr (l, record, (i : Int), l.getD i dSMember)) := by
 have hr := g16s hl;have hsc := scan (fun k => g1i (l, record, (i : Int), (k : Int), l.getD i dSMember)) i (fun k => !(decide ((l.getD k dSMember).Name = (l.getD i dSMember).Name))) (.inl false) (.inr (l, record, (i : Int), l.getD i dSMember))
   (fun k hk => by
     rw [g1i, if_pos (by simp; omega), if_pos (g16i (by omega)), g16o (by omega)];simp only [g16j, g18v];cases decide ((l.getD k dSMember).Name = (l.getD i dSMember).Name) <;> rfl)
   (by rw [g1i, if_neg (by simp), g18v])
 have e0 : g1i (l, record, (i : Int), ((0 : Nat) : Int), l.getD i dSMember) = g1i (l, record, (i : Int), 0, l.getD i dSMember) := rfl;simp only [e0] at hsc;rw [g170 (·.Name) l i dSMember [] hi];rcases hsc with ⟨h1, h2⟩ | ⟨h1, j, h2, h3⟩
 · rw [h1, if_neg];rw [g17v (by simp; omega)]
   rintro ⟨k, hk, he⟩
   rw [g170 (·.Name) l k dSMember [] (by omega)] at he;have := h2 k hk;rw [he] at this;simp at this
 · rw [h1, if_pos];rw [g17v (by simp; omega)];refine ⟨j, h2, ?_⟩;rw [g170 (·.Name) l j dSMember [] (by omega)]
   simpa using h3
theorem g1p4 {l : List SMember} {record : Bool} (hl : l.length ≤ reachBytes) (hd : ∀ m, m ∈ l → OkV m.Default) : ∃ r, g53 (l, record) = some r ∧ (r = true ↔ (∀ i, i < l.length → badM (!record) (l.getD i dSMember) = false) ∧ (record = true ∨ 0 < l.length) ∧ (∀ i, i < l.length → idp (l.map (·.ID)) (l.map (·.Name)) i = true) ∧ l.length ≤ 16) := by
 have hr := g16s hl;have hsc := scan (fun i => g28 (l, record, bef (l.map (·.ID)) i, (i : Int))) l.length (fun i => idp (l.map (·.ID)) (l.map (·.Name)) i && !(badM (!record) (l.getD i dSMember))) (.inl false) (.inr (l, record))
   (fun i hi => by
     have hz := g1sp (hd _ (g16r hi dSMember));unfold dSValue at hz;rw [g28, if_pos (by simp; omega), if_pos (g16i hi)];simp only [oZ4, oZ3, g16j, SValue.gh, g18v, g1nb (l := l.map (·.ID)) (names := l.map (·.Name)) (i := i) (by simpa using hi) (by simp)];rw [g1p3 l record hl i hi, hz];have hbef : bef (l.map (·.ID)) (i + 1) = (l.getD i dSMember).ID := by
       unfold bef;rw [if_neg (by omega)];exact g170 (·.ID) l i dSMember 0 hi
     rw [← g170 (·.ID) l i dSMember 0 hi, ← g170 (·.Name) l i dSMember [] hi, refId, refNm];simp only [oZ3];generalize (decide (bef (l.map (·.ID)) i < (l.map (·.ID)).getD i 0) && decide (1 ≤ (l.map (·.ID)).getD i 0) && decide ((l.map (·.ID)).getD i 0 ≤ 1000)) = q;cases q with
     | false => simp
     | true =>
       simp only [Bool.not_true, Bool.not_false, if_true, oZ3, Bool.true_and];cases nm ((l.map (·.Name)).getD i []) with
       | false => simp
       | true =>
         simp only [Bool.not_true, Bool.true_and, Bool.or_false, cond_false];unfold badM;cases record <;> cases (l.getD i dSMember).Critical <;> cases (l.getD i dSMember).HasDefault <;> cases g1ax (l.getD i dSMember).Default <;>
           simp only [Bool.not_true, Bool.not_false, Bool.or_self, Bool.and_self, Bool.or_true, Bool.true_or, Bool.and_true, Bool.and_false, Bool.false_and, Bool.true_and, Bool.false_or, Bool.or_false, cond_true, cond_false, if_true, if_false, Bool.false_eq_true, oZ3] <;>
           first
             | rfl
             | (cases hc : ((l.map (·.Name)).take i).contains ((l.map (·.Name)).getD i []) with
               | true => simp
               | false =>
                 simp only [Bool.false_eq_true, if_false, Bool.not_false, if_true];rw [g16o (by omega), hbef]
                 try rfl))
   (by rw [g28, if_neg (by simp)])
 have e0 : g28 (l, record, bef (l.map (·.ID)) 0, ((0 : Nat) : Int)) = g28 (l, record, 0, 0) := rfl;simp only [e0] at hsc;rw [g53];rcases hsc with ⟨h1, h2⟩ | ⟨h1, j, h2, h3⟩
 · rw [h1];refine ⟨_, rfl, ?_⟩;have h2' : ∀ i, i < l.length → idp (l.map (·.ID)) (l.map (·.Name)) i = true ∧ badM (!record) (l.getD i dSMember) = false := fun i hi => by
     have := h2 i hi
     simpa using this
   simp only [Bool.cond_eq_ite];constructor
   · intro h;split at h
     · rename_i h4;refine ⟨fun i hi => (h2' i hi).2, ?_, fun i hi => (h2' i hi).1, by simp at h4; omega⟩;cases record with
       | true => exact .inl rfl
       | false => right; simp at h; omega
     · cases h
   · rintro ⟨_, a, _, b⟩
     rw [if_pos (by simp; omega)];cases record with
     | true => rfl
     | false => simp at a ⊢; omega
 · rw [h1];refine ⟨false, rfl, ?_⟩;constructor
   · intro h; cases h
   · rintro ⟨a, _, b, _⟩
     have h5 := b j h2;have h6 := a j h2;rw [h5, h6] at h3;cases h3
theorem g1jm {t : SType} (h : OkT t) (hk : t.Kind = 5 ∨ t.Kind = 6) : ∃ r, g5m t = some r ∧ g53 (t.Members, decide (t.Kind = 5)) = some r := by
 obtain ⟨r, h1, h2⟩ := g1i8 h;obtain ⟨q, h3, h4⟩ := g1p4 (l := t.Members) (record := decide (t.Kind = 5)) (g17i h.mems) h.dv;have hu : (!(decide (t.Kind = 5))) = decide (t.Kind = 6) := by
   rcases hk with e | e <;> rw [e] <;> rfl
 rw [hu] at h4;have e5 : decide (t.Kind = 5) = true ↔ t.Kind = 5 := decide_eq_true_iff;rw [e5] at h4;have : r = q := Bool.eq_iff_iff.2 (h2.trans h4.symm);exact ⟨r, h1, by rw [this]; exact h3⟩
end
section
open Go Go.Proofs.YthnmepafpikaiaaGreat.Shv
set_option maxRecDepth 100000
theorem OkT.plain {k l h m kk e : Int} {n : List UInt8} {S : List SSymbol} {Ms : List SMember} {o : Bool} (hS : S.length * 24 ≤ reachBytes) (hM : Ms.length * 24 ≤ reachBytes) (hd : ∀ x, x ∈ Ms → OkV x.Default) : OkT ⟨k, n, l, h, m, S, Ms, kk, e, o⟩ := ⟨hS, hM, hd⟩
theorem form1 {N : List UInt8} {L H M K E : Int} {S : List SSymbol} {Ms : List SMember} {O : Bool} (h : OkT (⟨1, N, L, H, M, S, Ms, K, E, O⟩ : SType)) : ∃ r, g12 (⟨1, N, L, H, M, S, Ms, K, E, O⟩ : SType) = some r ∧ gz (⟨1, N, L, H, M, S, Ms, K, E, O⟩ : SType) = some r ∧ (r = true → N = []) := by
 obtain ⟨a, a1, a2⟩ := g17n (a := (⟨0, N, L, H, M, S, Ms, K, E, O⟩ : SType)) ⟨h.syms, h.mems, h.dv⟩ (⟨0, [], 0, 0, 0, [], [], 0, 0, false⟩ : SType);obtain ⟨b, b1, b2⟩ := g19h h (⟨1, [], 0, 0, 0, [], [], 0, 0, false⟩ : SType);have hab : a = b := by
   refine Bool.eq_iff_iff.2 (a2.trans (Iff.trans ?_ b2.symm));simp only [SType.mk.injEq]
   try (simp)
 subst hab;refine ⟨a, by simp [g12, a1], by simp [gz, g2k, g1w, b1]; try (cases a <;> rfl), fun hr => ?_⟩;have := b2.1 hr;simp only [SType.mk.injEq] at this;exact this.2.1
theorem form2 {N : List UInt8} {L H M K E : Int} {S : List SSymbol} {Ms : List SMember} {O : Bool} (h : OkT (⟨2, N, L, H, M, S, Ms, K, E, O⟩ : SType)) : ∃ r, g12 (⟨2, N, L, H, M, S, Ms, K, E, O⟩ : SType) = some r ∧ gz (⟨2, N, L, H, M, S, Ms, K, E, O⟩ : SType) = some r ∧ (r = true → N = []) := by
 obtain ⟨a, a1, a2⟩ := g17n (a := (⟨0, N, 0, 0, M, S, Ms, K, E, O⟩ : SType)) ⟨h.syms, h.mems, h.dv⟩ (⟨0, [], 0, 0, 0, [], [], 0, 0, false⟩ : SType);obtain ⟨b, b1, b2⟩ := g19h h (⟨2, [], L, H, 0, [], [], 0, 0, false⟩ : SType);have hab : a = b := by
   refine Bool.eq_iff_iff.2 (a2.trans (Iff.trans ?_ b2.symm));simp only [SType.mk.injEq]
   try (simp)
 subst hab;refine ⟨decide (L ≤ H) && a, ?_, ?_, fun hr => ?_⟩
 · simp only [g12];generalize decide (L ≤ H) = q;simp [a1]
   try (cases q <;> rfl)
 · simp only [gz];generalize decide (L ≤ H) = q;simp [g2k, g1w, b1]
   try (cases a <;> cases q <;> rfl)
 · rw [Bool.and_eq_true] at hr;have := b2.1 hr.2;simp only [SType.mk.injEq] at this;exact this.2.1
theorem form3 {N : List UInt8} {L H M K E : Int} {S : List SSymbol} {Ms : List SMember} {O : Bool} (h : OkT (⟨3, N, L, H, M, S, Ms, K, E, O⟩ : SType)) : ∃ r, g12 (⟨3, N, L, H, M, S, Ms, K, E, O⟩ : SType) = some r ∧ gz (⟨3, N, L, H, M, S, Ms, K, E, O⟩ : SType) = some r ∧ (r = true → N = []) := by
 obtain ⟨a, a1, a2⟩ := g17n (a := (⟨0, N, L, H, 0, S, Ms, K, E, O⟩ : SType)) ⟨h.syms, h.mems, h.dv⟩ (⟨0, [], 0, 0, 0, [], [], 0, 0, false⟩ : SType);obtain ⟨b, b1, b2⟩ := g19h h (⟨3, [], 0, 0, M, [], [], 0, 0, false⟩ : SType);have hab : a = b := by
   refine Bool.eq_iff_iff.2 (a2.trans (Iff.trans ?_ b2.symm));simp only [SType.mk.injEq]
   try (simp)
 subst hab;refine ⟨(bif decide (0 ≤ M) then decide (M ≤ 200) else false) && a, ?_, ?_, fun hr => ?_⟩
 · simp only [g12];generalize (bif decide (0 ≤ M) then decide (M ≤ 200) else false) = q;simp [a1]
   try (cases q <;> rfl)
 · simp only [gz];generalize (bif decide (0 ≤ M) then decide (M ≤ 200) else false) = q;simp [g2k, g1w, b1]
   try (cases a <;> cases q <;> rfl)
 · rw [Bool.and_eq_true] at hr;have := b2.1 hr.2;simp only [SType.mk.injEq] at this;exact this.2.1
theorem form4 {N : List UInt8} {L H M K E : Int} {S : List SSymbol} {Ms : List SMember} {O : Bool} (h : OkT (⟨4, N, L, H, M, S, Ms, K, E, O⟩ : SType)) : ∃ r, g12 (⟨4, N, L, H, M, S, Ms, K, E, O⟩ : SType) = some r ∧ gz (⟨4, N, L, H, M, S, Ms, K, E, O⟩ : SType) = some r ∧ (r = true → N ≠ []) := by
 obtain ⟨a, a1, a2⟩ := g17n (a := (⟨0, [], L, H, M, [], Ms, K, E, false⟩ : SType)) ⟨(by simp), h.mems, h.dv⟩ (⟨0, [], 0, 0, 0, [], [], 0, 0, false⟩ : SType);obtain ⟨b, b1, b2⟩ := g19h h (⟨4, N, 0, 0, 0, S, [], 0, 0, O⟩ : SType);have hab : a = b := by
   refine Bool.eq_iff_iff.2 (a2.trans (Iff.trans ?_ b2.symm));simp only [SType.mk.injEq]
   try (cases O <;> simp)
 subst hab;obtain ⟨q, q1, q2⟩ := g1qk (l := S) h.syms;refine ⟨nm N && q && a, ?_, ?_, fun hr => ?_⟩
 · simp only [g12];simp [a1, q1, lexNm]
   try (cases nm N <;> cases q <;> rfl)
 · simp only [gz]
   try simp at q2
   simp [g2k, g1w, b1, q2, refNm]
   try (cases a <;> cases nm N <;> cases q <;> rfl)
 · simp only [Bool.and_eq_true] at hr;exact nm_ne hr.1.1
theorem form5 {N : List UInt8} {L H M K E : Int} {S : List SSymbol} {Ms : List SMember} {O : Bool} (h : OkT (⟨5, N, L, H, M, S, Ms, K, E, O⟩ : SType)) : ∃ r, g12 (⟨5, N, L, H, M, S, Ms, K, E, O⟩ : SType) = some r ∧ gz (⟨5, N, L, H, M, S, Ms, K, E, O⟩ : SType) = some r ∧ (r = true → N ≠ []) := by
 obtain ⟨a, a1, a2⟩ := g17n (a := (⟨0, [], L, H, M, S, [], K, E, (bif O then decide ((5 : Int) = 5) else false)⟩ : SType)) ⟨h.syms, (by simp), (by simp)⟩ (⟨0, [], 0, 0, 0, [], [], 0, 0, false⟩ : SType);obtain ⟨b, b1, b2⟩ := g19h h (⟨5, N, 0, 0, 0, [], Ms, 0, 0, false⟩ : SType);have hab : a = b := by
   refine Bool.eq_iff_iff.2 (a2.trans (Iff.trans ?_ b2.symm));simp only [SType.mk.injEq]
   try (cases O <;> simp)
 subst hab;obtain ⟨q, q1, q2⟩ := g1jm h (by simp);refine ⟨nm N && q && a, ?_, ?_, fun hr => ?_⟩
 · simp only [g12]
   try simp at a1
   try simp at q1
   simp [a1, q1, lexNm]
   try (cases nm N <;> cases q <;> rfl)
 · simp only [gz]
   try simp at q2
   simp [g2k, g1w, b1, q2, refNm]
   try (cases a <;> cases nm N <;> cases q <;> rfl)
 · simp only [Bool.and_eq_true] at hr;exact nm_ne hr.1.1
theorem form6 {N : List UInt8} {L H M K E : Int} {S : List SSymbol} {Ms : List SMember} {O : Bool} (h : OkT (⟨6, N, L, H, M, S, Ms, K, E, O⟩ : SType)) : ∃ r, g12 (⟨6, N, L, H, M, S, Ms, K, E, O⟩ : SType) = some r ∧ gz (⟨6, N, L, H, M, S, Ms, K, E, O⟩ : SType) = some r ∧ (r = true → N ≠ []) := by
 obtain ⟨a, a1, a2⟩ := g17n (a := (⟨0, [], L, H, M, S, [], K, E, (bif O then decide ((6 : Int) = 5) else false)⟩ : SType)) ⟨h.syms, (by simp), (by simp)⟩ (⟨0, [], 0, 0, 0, [], [], 0, 0, false⟩ : SType);obtain ⟨b, b1, b2⟩ := g19h h (⟨6, N, 0, 0, 0, [], Ms, 0, 0, O⟩ : SType);have hab : a = b := by
   refine Bool.eq_iff_iff.2 (a2.trans (Iff.trans ?_ b2.symm));simp only [SType.mk.injEq]
   try (cases O <;> simp)
 subst hab;obtain ⟨q, q1, q2⟩ := g1jm h (by simp);refine ⟨nm N && q && a, ?_, ?_, fun hr => ?_⟩
 · simp only [g12]
   try simp at a1
   try simp at q1
   simp [a1, q1, lexNm]
   try (cases nm N <;> cases q <;> rfl)
 · simp only [gz]
   try simp at q2
   simp [g2k, g1w, b1, q2, refNm]
   try (cases a <;> cases nm N <;> cases q <;> rfl)
 · simp only [Bool.and_eq_true] at hr;exact nm_ne hr.1.1
theorem form7 {N : List UInt8} {L H M K E : Int} {S : List SSymbol} {Ms : List SMember} {O : Bool} (h : OkT (⟨7, N, L, H, M, S, Ms, K, E, O⟩ : SType)) : ∃ r, g12 (⟨7, N, L, H, M, S, Ms, K, E, O⟩ : SType) = some r ∧ gz (⟨7, N, L, H, M, S, Ms, K, E, O⟩ : SType) = some r ∧ (r = true → N = []) := by
 obtain ⟨a, a1, a2⟩ := g17n (a := (⟨0, N, L, H, 0, S, Ms, K, 0, O⟩ : SType)) ⟨h.syms, h.mems, h.dv⟩ (⟨0, [], 0, 0, 0, [], [], 0, 0, false⟩ : SType);obtain ⟨b, b1, b2⟩ := g19h h (⟨7, [], 0, 0, M, [], [], 0, E, false⟩ : SType);have hab : a = b := by
   refine Bool.eq_iff_iff.2 (a2.trans (Iff.trans ?_ b2.symm));simp only [SType.mk.injEq]
   try (simp)
 subst hab;refine ⟨(bif decide (0 ≤ M) then decide (M ≤ 50) else false) && a, ?_, ?_, fun hr => ?_⟩
 · simp only [g12];generalize (bif decide (0 ≤ M) then decide (M ≤ 50) else false) = q;simp [a1]
   try (cases q <;> rfl)
 · simp only [gz];generalize (bif decide (0 ≤ M) then decide (M ≤ 50) else false) = q;simp [g2k, g1w, b1]
   try (cases a <;> cases q <;> rfl)
 · rw [Bool.and_eq_true] at hr;have := b2.1 hr.2;simp only [SType.mk.injEq] at this;exact this.2.1
theorem form8 {N : List UInt8} {L H M K E : Int} {S : List SSymbol} {Ms : List SMember} {O : Bool} (h : OkT (⟨8, N, L, H, M, S, Ms, K, E, O⟩ : SType)) : ∃ r, g12 (⟨8, N, L, H, M, S, Ms, K, E, O⟩ : SType) = some r ∧ gz (⟨8, N, L, H, M, S, Ms, K, E, O⟩ : SType) = some r ∧ (r = true → N = []) := by
 obtain ⟨a, a1, a2⟩ := g17n (a := (⟨0, N, L, H, 0, S, Ms, 0, 0, O⟩ : SType)) ⟨h.syms, h.mems, h.dv⟩ (⟨0, [], 0, 0, 0, [], [], 0, 0, false⟩ : SType);obtain ⟨b, b1, b2⟩ := g19h h (⟨8, [], 0, 0, M, [], [], K, E, false⟩ : SType);have hab : a = b := by
   refine Bool.eq_iff_iff.2 (a2.trans (Iff.trans ?_ b2.symm));simp only [SType.mk.injEq]
   try (simp)
 subst hab;refine ⟨(bif decide (0 ≤ M) then decide (M ≤ 50) else false) && a, ?_, ?_, fun hr => ?_⟩
 · simp only [g12];generalize (bif decide (0 ≤ M) then decide (M ≤ 50) else false) = q;simp [a1]
   try (cases q <;> rfl)
 · simp only [gz];generalize (bif decide (0 ≤ M) then decide (M ≤ 50) else false) = q;simp [g2k, g1w, b1]
   try (cases a <;> cases q <;> rfl)
 · rw [Bool.and_eq_true] at hr;have := b2.1 hr.2;simp only [SType.mk.injEq] at this;exact this.2.1
theorem form9 {N : List UInt8} {L H M K E : Int} {S : List SSymbol} {Ms : List SMember} {O : Bool} (h : OkT (⟨9, N, L, H, M, S, Ms, K, E, O⟩ : SType)) : ∃ r, g12 (⟨9, N, L, H, M, S, Ms, K, E, O⟩ : SType) = some r ∧ gz (⟨9, N, L, H, M, S, Ms, K, E, O⟩ : SType) = some r ∧ (r = true → N = []) := by
 obtain ⟨a, a1, a2⟩ := g17n (a := (⟨0, N, L, H, M, S, Ms, K, 0, O⟩ : SType)) ⟨h.syms, h.mems, h.dv⟩ (⟨0, [], 0, 0, 0, [], [], 0, 0, false⟩ : SType);obtain ⟨b, b1, b2⟩ := g19h h (⟨9, [], 0, 0, 0, [], [], 0, E, false⟩ : SType);have hab : a = b := by
   refine Bool.eq_iff_iff.2 (a2.trans (Iff.trans ?_ b2.symm));simp only [SType.mk.injEq]
   try (simp)
 subst hab;refine ⟨a, by simp [g12, a1], by simp [gz, g2k, g1w, b1]; try (cases a <;> rfl), fun hr => ?_⟩;have := b2.1 hr;simp only [SType.mk.injEq] at this;exact this.2.1
end
section
open Go Go.Proofs.YthnmepafpikaiaaGreat.Shv
set_option maxRecDepth 100000
def g188 (k : Int) : Bool := bif bif decide (k = 4) then true else decide (k = 5) then true else decide (k = 6)
theorem g1fo {t : SType} (h : OkT t) : ∃ r, g12 t = some r ∧ gz t = some r ∧ (r = true → 1 ≤ t.Kind ∧ t.Kind ≤ 9 ∧ g188 t.Kind = !(decide (t.Name = []))) := by
 by_cases hk : 1 ≤ t.Kind ∧ t.Kind ≤ 9
 · obtain ⟨Kd, N, L, H, M, S, Ms, K, E, O⟩ := t;simp only at hk;have : Kd = 1 ∨ Kd = 2 ∨ Kd = 3 ∨ Kd = 4 ∨ Kd = 5 ∨ Kd = 6 ∨ Kd = 7 ∨ Kd = 8 ∨ Kd = 9 := by omega
   rcases this with rfl | rfl | rfl | rfl | rfl | rfl | rfl | rfl | rfl
   · obtain ⟨r, h1, h2, h3⟩ := form1 h;exact ⟨r, h1, h2, fun hr => ⟨hk.1, hk.2, by simp [g188, h3 hr]⟩⟩
   · obtain ⟨r, h1, h2, h3⟩ := form2 h;exact ⟨r, h1, h2, fun hr => ⟨hk.1, hk.2, by simp [g188, h3 hr]⟩⟩
   · obtain ⟨r, h1, h2, h3⟩ := form3 h;exact ⟨r, h1, h2, fun hr => ⟨hk.1, hk.2, by simp [g188, h3 hr]⟩⟩
   · obtain ⟨r, h1, h2, h3⟩ := form4 h;exact ⟨r, h1, h2, fun hr => ⟨hk.1, hk.2, by simp [g188, h3 hr]⟩⟩
   · obtain ⟨r, h1, h2, h3⟩ := form5 h;exact ⟨r, h1, h2, fun hr => ⟨hk.1, hk.2, by simp [g188, h3 hr]⟩⟩
   · obtain ⟨r, h1, h2, h3⟩ := form6 h;exact ⟨r, h1, h2, fun hr => ⟨hk.1, hk.2, by simp [g188, h3 hr]⟩⟩
   · obtain ⟨r, h1, h2, h3⟩ := form7 h;exact ⟨r, h1, h2, fun hr => ⟨hk.1, hk.2, by simp [g188, h3 hr]⟩⟩
   · obtain ⟨r, h1, h2, h3⟩ := form8 h;exact ⟨r, h1, h2, fun hr => ⟨hk.1, hk.2, by simp [g188, h3 hr]⟩⟩
   · obtain ⟨r, h1, h2, h3⟩ := form9 h;exact ⟨r, h1, h2, fun hr => ⟨hk.1, hk.2, by simp [g188, h3 hr]⟩⟩
 · refine ⟨false, ?_, ?_, fun h => by cases h⟩
   · have e : ∀ k : Int, 1 ≤ k → k ≤ 9 → ¬ t.Kind = k := fun k h1 h2 e => hk (by omega)
     simp [g12, e 1, e 2, e 3, e 4, e 5, e 6, e 7, e 8, e 9]
   · have e : (bif decide (t.Kind < 1) then true else decide (9 < t.Kind)) = true := by
       by_cases h1 : t.Kind < 1
       · simp [h1]
       · simp [h1]; omega
     rw [gz, e];rfl
def usesL (t : SType) : List Int := t.Members.map (·.Type_) ++ (if t.Kind = 8 then [t.Key] else []) ++ (if 7 ≤ t.Kind then [t.Elem] else [])
theorem g1ay {k n : Nat} (hk : k ≤ 16) {m : Nat} (h : m * 24 ≤ reachBytes) (hn : n ≤ m + 2) : room k n = true := by
 unfold room g17e g16v;unfold reachBytes at h;simp only [Bool.and_eq_true, decide_eq_true_eq];have : (2 * n + 192) * k ≤ (2 * n + 192) * 16 := Nat.mul_le_mul_left _ hk;omega
theorem g1i9 (t : SType) (h : t.Members.length * 24 ≤ reachBytes) : ∀ (k i : Nat), i + k = t.Members.length → g3o (t.Members, (t.Members.length : Int), (i : Int), t, (t.Members.map (·.Type_)).take i) = some (t, t.Members.map (·.Type_))
 | 0, i, hi => by
   rw [g3o, if_neg (by simp; omega), List.take_of_length_le (by simp; omega)]
 | k + 1, i, hi => by
   have hr := g16s (g17i h);have hlt : i < t.Members.length := by omega
   rw [g3o, if_pos (by simp; omega), if_pos (g16i hlt)];simp only [oZ4, oZ3, g16j];rw [← g170 (·.Type_) t.Members i dSMember 0 hlt, g19u _ _ _ (by simpa using hlt), g16o (by omega), if_pos (g1ay (m := t.Members.length) (by omega) h (by simp; omega))];exact g1i9 t h k (i + 1) (by omega)
theorem g1sq {t : SType} (h : t.Members.length * 24 ≤ reachBytes) : gh0 t = some (usesL t) := by
 have h0 := g1i9 t h t.Members.length 0 (by omega);have h0' : g3o (t.Members, (t.Members.length : Int), 0, t, []) = some (t, t.Members.map (·.Type_)) := h0;rw [gh0, h0'];unfold usesL;simp only [oZ4, oZ3];have r1 : room 8 (t.Members.map (·.Type_) ++ [t.Key]).length = true := g1ay (m := t.Members.length) (by omega) h (by simp)
 have r2 : room 8 (t.Members.map (·.Type_) ++ [t.Key] ++ [t.Elem]).length = true := g1ay (m := t.Members.length) (by omega) h (by simp);have r3 : room 8 (t.Members.map (·.Type_) ++ [t.Elem]).length = true := g1ay (m := t.Members.length) (by omega) h (by simp);by_cases h8 : t.Kind = 8
 · have h7 : 7 ≤ t.Kind := by omega
   rw [if_pos (by simp [h8]), if_pos r1, if_pos (by simp [h7]), if_pos r2, if_pos h8, if_pos h7]
 · rw [if_neg (by simp [h8]), if_neg h8];by_cases h7 : 7 ≤ t.Kind
   · rw [if_pos (by simp [h7]), if_pos r3, if_pos h7]; simp
   · rw [if_neg (by simp [h7]), if_neg h7]; simp
theorem g1ia (t : SType) (h : t.Members.length * 24 ≤ reachBytes) : ∀ (k i : Nat), i + k = t.Members.length → g3l ((i : Int), t, (t.Members.map (·.Type_)).take i) = some (t, t.Members.map (·.Type_))
 | 0, i, hi => by
   rw [g3l, if_neg (by simp; omega), List.take_of_length_le (by simp; omega)]
 | k + 1, i, hi => by
   have hr := g16s (g17i h);have hlt : i < t.Members.length := by omega
   rw [g3l, if_pos (by simp; omega), if_pos (g16i hlt)];simp only [oZ4, oZ3, g16j];rw [← g170 (·.Type_) t.Members i dSMember 0 hlt, g19u _ _ _ (by simpa using hlt), g16o (by omega), if_pos (g1ay (m := t.Members.length) (by omega) h (by simp; omega))];exact g1ia t h k (i + 1) (by omega)
theorem g1sr {t : SType} (h : t.Members.length * 24 ≤ reachBytes) (hk : t.Kind ≤ 9) : gcs t = some (usesL t) := by
 have h0 := g1ia t h t.Members.length 0 (by omega);have h0' : g3l (0, t, []) = some (t, t.Members.map (·.Type_)) := h0;rw [gcs, h0'];unfold usesL;simp only [oZ4, oZ3];have r1 : room 8 (t.Members.map (·.Type_) ++ [t.Key]).length = true := g1ay (m := t.Members.length) (by omega) h (by simp)
 have r2 : room 8 (t.Members.map (·.Type_) ++ [t.Key] ++ [t.Elem]).length = true := g1ay (m := t.Members.length) (by omega) h (by simp);have r3 : room 8 (t.Members.map (·.Type_) ++ [t.Elem]).length = true := g1ay (m := t.Members.length) (by omega) h (by simp);by_cases h8 : t.Kind = 8
 · have h7 : 7 ≤ t.Kind := by omega
   rw [if_pos (by simp [h8]), if_pos r1, if_pos (by simp [h8]), if_pos r2, if_pos h8, if_pos h7]
 · rw [if_neg (by simp [h8]), if_neg h8];by_cases h7 : 7 ≤ t.Kind
   · have : t.Kind = 7 ∨ t.Kind = 9 := by omega
     rw [if_pos (by rcases this with e | e <;> simp [e]), if_pos r3, if_pos h7]; simp
   · have e7 : ¬ t.Kind = 7 := by omega
     have e9 : ¬ t.Kind = 9 := by omega
     rw [if_neg (by simp [h8, e7, e9]), if_neg h7]; simp
theorem g1ss (k : Int) : g1w k = some (g188 k) := rfl
def keyB (k : Int) : Bool := bif decide (1 ≤ k) then decide (k ≤ 4) else false
def outB (n : Nat) (u : Int) : Bool := bif decide (u < 0) then true else decide ((n : Int) ≤ u)
def stepV (ts : List SType) (i : Nat) : Option Int :=
 let t := ts.getD i dSType
 if !((g12 t).getD false) then some 1
 else if !(decide (t.Name = [])) && ((ts.map (·.Name)).take i).contains t.Name then some 1
 else if (usesL t).any (outB ts.length) then some 4
 else if decide (t.Kind = 8) && !(keyB (ts.getD t.Key.toNat dSType).Kind) then some 1
 else none
theorem g1eg {ts : List SType} {i : Nat} {t : SType} {r : Bool} (hT : ts.getD i dSType = t) (f1 : g12 t = some r) :
   stepV ts i = if (!r) = true then some 1 else if (!(decide (t.Name = [])) && ((ts.map (·.Name)).take i).contains t.Name) = true then some 1 else if (usesL t).any (outB ts.length) = true then some 4 else if (decide (t.Kind = 8) && !(keyB (ts.getD t.Key.toNat dSType).Kind)) = true then some 1 else none := by
 subst hT;unfold stepV;simp only [f1, Option.getD_some]
theorem g1lh {γ : Type} (L : Nat → Option γ) (l : List Int) (q : Int → Bool) (bad good : γ) (hstep : ∀ i, i < l.length → L i = if q (l.getD i 0) = true then some bad else L (i + 1)) (hend : L l.length = some good) :
   L 0 = some (if l.any q = true then bad else good) := by
 have := scan L l.length (fun i => !(q (l.getD i 0))) bad good (fun i hi => by
   rw [hstep i hi]; cases q (l.getD i 0) <;> rfl) hend
 rcases this with ⟨h1, h2⟩ | ⟨h1, j, h2, h3⟩
 · rw [h1, if_neg];intro h;rw [List.any_eq_true] at h;obtain ⟨x, hx, hq⟩ := h;obtain ⟨j, hj, he⟩ := List.getElem_of_mem hx;have := h2 j hj;rw [g16t hj, he, hq] at this;cases this
 · rw [h1, if_pos];rw [List.any_eq_true];refine ⟨l.getD j 0, g16r h2 0, by simpa using h3⟩
theorem g1jn {t : SType} (h : t.Members.length * 24 ≤ reachBytes) : (usesL t).length < 9223372036854775807 := by
 unfold usesL reachBytes at *;simp only [List.length_append, List.length_map];split <;> split <;> simp <;> omega
theorem g1to {L : Nat → Option (Int ⊕ Unit)} {L' : Nat → Option (Int ⊕ Unit)} {n : Nat} {step : Nat → Option Int}
   (h : ∀ i, i < n → L i = match step i with | some e => some (.inl e) | none => L (i + 1)) (he : L n = some (.inr ()))
   (h' : ∀ i, i < n → L' i = match step i with | some e => some (.inl e) | none => L' (i + 1)) (he' : L' n = some (.inr ())) : ∃ o, L 0 = some o ∧ L' 0 = some o ∧ ((o = .inr () ∧ ∀ i, i < n → step i = none) ∨ ∃ i e, i < n ∧ step i = some e ∧ o = .inl e) := by
 have key : ∀ k i, i + k = n → ∃ o, L i = some o ∧ L' i = some o ∧ ((o = .inr () ∧ ∀ m, i ≤ m → m < n → step m = none) ∨ ∃ m e, m < n ∧ step m = some e ∧ o = .inl e) := by
   intro k
   induction k with
   | zero => intro i hi; have : i = n := by omega
             subst this; exact ⟨_, he, he', .inl ⟨rfl, fun m h1 h2 => by omega⟩⟩
   | succ k ih =>
     intro i hi;rw [h i (by omega), h' i (by omega)];cases hst : step i with
     | some e => exact ⟨_, rfl, rfl, .inr ⟨i, e, by omega, hst, rfl⟩⟩
     | none =>
       obtain ⟨o, o1, o2, o3⟩ := ih (i + 1) (by omega);refine ⟨o, o1, o2, ?_⟩;rcases o3 with ⟨a, b⟩ | h
       · refine .inl ⟨a, fun m h1 h2 => ?_⟩;rcases Nat.lt_or_ge i m with h | h
         · exact b m h h2
         · have : m = i := by omega
           subst this; exact hst
       · exact .inr h
 obtain ⟨o, o1, o2, o3⟩ := key n 0 (by omega);refine ⟨o, o1, o2, ?_⟩;rcases o3 with ⟨a, b⟩ | h
 · exact .inl ⟨a, fun i hi => b i (Nat.zero_le _) hi⟩
 · exact .inr h
theorem g1qn {ts : List SType} {t : SType} (hu : (usesL t).any (outB ts.length) = false) (h8 : t.Kind = 8) : inR t.Key ts.length = true := by
 have hm : t.Key ∈ usesL t := by unfold usesL; simp [h8]
 rw [List.any_eq_false] at hu;have := hu _ hm;unfold outB at this;unfold inR;simp only [Bool.and_eq_true, decide_eq_true_eq];by_cases h1 : t.Key < 0
 · simp [h1] at this
 · simp [h1] at this; omega
theorem g1tp (ts : List SType) (t : SType) (i : Nat) (hi : i < ts.length) (hr : ts.length < 9223372036854775807) :
   g1u ((i : Int), 0, ts, t.Kind, t.Name, t.Low, t.High, t.Max, t.Symbols, t.Members, t.Key, t.Elem, t.Open) = some (if (g188 t.Kind && ((ts.map (·.Name)).take i).contains t.Name) = true then .inl 1 else .inr ((i : Int), ts, t.Kind, t.Name, t.Low, t.High, t.Max, t.Symbols, t.Members, t.Key, t.Elem, t.Open)) := by
 have hsc := scan (fun k => g1u ((i : Int), (k : Int), ts, t.Kind, t.Name, t.Low, t.High, t.Max, t.Symbols, t.Members, t.Key, t.Elem, t.Open)) i (fun k => !(bif g188 t.Kind then decide ((ts.getD k dSType).Name = t.Name) else false)) (.inl 1) (.inr ((i : Int), ts, t.Kind, t.Name, t.Low, t.High, t.Max, t.Symbols, t.Members, t.Key, t.Elem, t.Open))
   (fun k hk => by
     rw [g1u, if_pos (by simp; omega), g1ss];simp only [oZ4, oZ3];rw [if_pos (by rw [g16i (show k < ts.length by omega)]; rfl), g16o (by omega), g16j];cases (bif g188 t.Kind then decide ((ts.getD k dSType).Name = t.Name) else false) <;> rfl)
   (by rw [g1u, if_neg (by simp)])
 have e0 : g1u ((i : Int), ((0 : Nat) : Int), ts, t.Kind, t.Name, t.Low, t.High, t.Max, t.Symbols, t.Members, t.Key, t.Elem, t.Open) = g1u ((i : Int), 0, ts, t.Kind, t.Name, t.Low, t.High, t.Max, t.Symbols, t.Members, t.Key, t.Elem, t.Open) := rfl;simp only [e0] at hsc;rcases hsc with ⟨h1, h2⟩ | ⟨h1, j, h2, h3⟩
 · rw [h1, if_neg];rw [Bool.and_eq_true, g17v (by simp; omega)]
   rintro ⟨hn, k, hk, he⟩
   rw [g170 (·.Name) ts k dSType [] (by omega)] at he;have := h2 k hk;rw [hn, he] at this;simp at this
 · rw [h1, if_pos];rw [Bool.and_eq_true, g17v (by simp; omega)];cases hn : g188 t.Kind with
   | false => rw [hn] at h3; cases h3
   | true =>
     refine ⟨rfl, j, h2, ?_⟩;rw [g170 (·.Name) ts j dSType [] (by omega)];rw [hn] at h3
     simpa using h3
theorem g1tq (ts : List SType) (t : SType) (i : Nat) (l : List Int) (hl : l.length < 9223372036854775807) :
   g2o ((i : Int), l, 0, ts, t.Kind, t.Name, t.Low, t.High, t.Max, t.Symbols, t.Members, t.Key, t.Elem, t.Open) = some (if l.any (outB ts.length) = true then .inl 4 else .inr ((i : Int), ts, t.Kind, t.Name, t.Low, t.High, t.Max, t.Symbols, t.Members, t.Key, t.Elem, t.Open)) :=
 g1lh (fun j => g2o ((i : Int), l, (j : Int), ts, t.Kind, t.Name, t.Low, t.High, t.Max, t.Symbols, t.Members, t.Key, t.Elem, t.Open)) l (outB ts.length) (.inl 4) (.inr ((i : Int), ts, t.Kind, t.Name, t.Low, t.High, t.Max, t.Symbols, t.Members, t.Key, t.Elem, t.Open))
   (fun j hj => by
     rw [g2o, if_pos (by simp; omega), if_pos (g16i hj)];simp only [oZ4, oZ3];rw [if_pos (by rw [g16i hj]; rfl), g16o (by omega)];rfl)
   (by rw [g2o, if_neg (by simp)])
theorem g1tv {s : SSchema} (hs : s.Types.length ≤ reachBytes) (ht : ∀ t, t ∈ s.Types → OkT t) : ∃ e, gf4 s = some e ∧ g4x s = some e ∧ (e = 0 → s.Types.length ≤ 32 ∧ ∀ i, i < s.Types.length → stepV s.Types i = none) ∧ ((s.Types.length ≤ 32 ∧ ∀ i, i < s.Types.length → stepV s.Types i = none) → e = 0) := by
 rw [gf4, g4x];by_cases h32 : 32 < s.Types.length
 · exact ⟨3, by rw [if_pos (by simp; omega)], by rw [if_pos (by simp; omega)], fun h => (by cases h), fun h => absurd h.1 (by omega)⟩
 · rw [if_neg (by simp; omega), if_neg (by simp; omega)];have hr : s.Types.length < 9223372036854775807 := by omega
   have := g1to (L := fun i => g34 (s.Types, (s.Types.length : Int), (i : Int), s.Types, setOf ((s.Types.map (·.Name)).take i))) (L' := fun i => g2m ((i : Int), s.Types)) (n := s.Types.length) (step := stepV s.Types)
     (fun i hi => by
       have hok := ht _ (g16r hi dSType);obtain ⟨r, f1, f2, f3⟩ := g1fo hok;rw [g34, if_pos (by simp; omega), if_pos (g16i hi)];simp only [oZ4, oZ3, g16j];generalize hT : s.Types.getD i dSType = t at *;rw [g1eg hT f1, f1];simp only [oZ3, g1i5];cases r with
       | false => rw [if_pos (show (bif (!false) then true else bif (!(decide (t.Name = []))) then ((s.Types.map (·.Name)).take i).contains t.Name else false) = true from rfl), if_pos (show (!false) = true from rfl)]
       | true =>
         rw [if_neg (show ¬ ((!true) = true) by simp)];by_cases hd : (!(decide (t.Name = [])) && ((s.Types.map (·.Name)).take i).contains t.Name) = true
         · have hd' : (bif (!(decide (t.Name = []))) then ((s.Types.map (·.Name)).take i).contains t.Name else false) = true := by
             simp only [Bool.and_eq_true] at hd; rw [hd.1, hd.2]; rfl
           rw [if_pos (show (bif (!true) then true else bif (!(decide (t.Name = []))) then ((s.Types.map (·.Name)).take i).contains t.Name else false) = true from hd'), if_pos hd]
         · have hd' : ¬ ((bif (!(decide (t.Name = []))) then ((s.Types.map (·.Name)).take i).contains t.Name else false) = true) := by
             intro hc; apply hd;cases h1 : (!(decide (t.Name = []))) with
             | true => rw [h1] at hc; simpa using hc
             | false => rw [h1] at hc; cases hc
           rw [if_neg (show ¬ ((bif (!true) then true else bif (!(decide (t.Name = []))) then ((s.Types.map (·.Name)).take i).contains t.Name else false) = true) from hd'), if_neg hd, g1sq hok.mems];simp only [oZ3];have hul := g1jn hok.mems
           have hin := g1lh (fun j => g25 (s.Types, (s.Types.length : Int), (i : Int), usesL t, ((usesL t).length : Int), (j : Int), s.Types, addS (setOf ((s.Types.map (·.Name)).take i)) t.Name, t.Kind, t.Name, t.Low, t.High, t.Max, t.Symbols, t.Members, t.Key, t.Elem, t.Open)) (usesL t) (outB s.Types.length) (.inl 4)
             (.inr (s.Types, (s.Types.length : Int), (i : Int), s.Types, addS (setOf ((s.Types.map (·.Name)).take i)) t.Name, t.Kind, t.Name, t.Low, t.High, t.Max, t.Symbols, t.Members, t.Key, t.Elem, t.Open))
             (fun j hj => by
               rw [g25, if_pos (by simp; omega), if_pos (g16i hj), g16o (by omega)];rfl)
             (by rw [g25, if_neg (by simp)])
           have e0 : g25 (s.Types, (s.Types.length : Int), (i : Int), usesL t, ((usesL t).length : Int), ((0 : Nat) : Int), s.Types, addS (setOf ((s.Types.map (·.Name)).take i)) t.Name, t.Kind, t.Name, t.Low, t.High, t.Max, t.Symbols, t.Members, t.Key, t.Elem, t.Open) = g25 (s.Types, (s.Types.length : Int), (i : Int), usesL t, ((usesL t).length : Int), 0, s.Types, addS (setOf ((s.Types.map (·.Name)).take i)) t.Name, t.Kind, t.Name, t.Low, t.High, t.Max, t.Symbols, t.Members, t.Key, t.Elem, t.Open) := rfl
           rw [← e0, hin];cases hu : (usesL t).any (outB s.Types.length) with
           | true => rfl
           | false =>
             simp only [Bool.false_eq_true, if_false, oZ3];have hsucc : addS (setOf ((s.Types.map (·.Name)).take i)) t.Name = setOf ((s.Types.map (·.Name)).take (i + 1)) := by
               have h1 := g1i6 (l := s.Types.map (·.Name)) (i := i) (by simpa using hi);rw [g170 (·.Name) s.Types i dSType [] hi, hT] at h1;exact h1
             rw [hsucc, g16o (by omega)];by_cases h8 : t.Kind = 8
             · have hk := g1qn hu h8;rw [if_pos (by rw [hk]; rfl), if_pos (by rw [hk]; rfl)];simp only [h8, decide_true, cond_true, Bool.true_and, keyB];generalize (s.Types.getD t.Key.toNat dSType).Kind = k;by_cases q1 : k < 1
               · rw [if_pos (by simp [q1]), if_pos (by simp; omega)]
               · by_cases q2 : 4 < k
                 · rw [if_pos (by simp [q1, q2]), if_pos (by simp; omega)]
                 · rw [if_neg (by simp [q1, q2]), if_neg (by simp; omega)]
             · have e8 : decide (t.Kind = 8) = false := by simp [h8]
               simp only [e8, Bool.not_false, Bool.or_true, if_true, Bool.false_and, cond_false, Bool.false_eq_true, if_false])
     (by rw [g34, if_neg (by simp)])
     (fun i hi => by
       have hok := ht _ (g16r hi dSType);obtain ⟨r, f1, f2, f3⟩ := g1fo hok;rw [g2m, if_pos (by simp; omega), if_pos (g16i hi)];simp only [oZ4, oZ3, g16j];generalize hT : s.Types.getD i dSType = t at *;rw [g1eg hT f1, f2, g1tp s.Types t i hi hr];simp only [oZ3];cases r with
       | false => rfl
       | true =>
         obtain ⟨k1, k2, k3⟩ := f3 rfl;rw [if_neg (show ¬ ((!true) = true) by simp), if_neg (show ¬ ((!true) = true) by simp), k3];cases hd : (!(decide (t.Name = [])) && ((s.Types.map (·.Name)).take i).contains t.Name) with
         | true => rfl
         | false =>
           simp only [Bool.false_eq_true, if_false, g1h4];rw [g1sr hok.mems k2];simp only [oZ3];rw [g1tq s.Types t i (usesL t) (g1jn hok.mems)];cases hu : (usesL t).any (outB s.Types.length) with
           | true => rfl
           | false =>
             simp only [Bool.false_eq_true, if_false, oZ3];rw [g16o (by omega)];by_cases h8 : t.Kind = 8
             · have hk := g1qn hu h8;rw [if_pos (by rw [hk]; rfl)];simp only [h8, decide_true, if_true, gdu, oZ3, cond_true, Bool.true_and];show (if (!(keyB (s.Types.getD t.Key.toNat dSType).Kind)) = true then some (.inl 1) else g2m (((i + 1 : Nat) : Int), s.Types)) = _;cases keyB (s.Types.getD t.Key.toNat dSType).Kind <;> rfl
             · have e8 : decide (t.Kind = 8) = false := by simp [h8]
               rw [e8];simp only [Bool.not_false, Bool.or_true, if_true, Bool.false_and, cond_false, Bool.false_eq_true, if_false, oZ3])
     (by rw [g2m, if_neg (by simp)])
   obtain ⟨o, h1, h2, h3⟩ := this;have h1' : g34 (s.Types, (s.Types.length : Int), 0, s.Types, []) = some o := h1;have h2' : g2m (0, s.Types) = some o := h2;rw [h1', h2'];rcases h3 with ⟨rfl, h4⟩ | ⟨i, e, h4, h5, rfl⟩
   · exact ⟨_, rfl, rfl, fun _ => ⟨by omega, h4⟩, fun _ => rfl⟩
   · refine ⟨_, rfl, rfl, fun h0 => ?_, fun h => by have := h.2 i h4; rw [h5] at this; cases this⟩
     exfalso
     subst h0;unfold stepV at h5;simp only at h5;split at h5
     · cases h5
     · split at h5
       · cases h5
       · split at h5
         · cases h5
         · split at h5 <;> cases h5
theorem g1ib {s : SSchema} (hs : s.Types.length ≤ reachBytes) (ht : ∀ t, t ∈ s.Types → OkT t) : ∃ e, gf4 s = some e ∧ g4x s = some e ∧ (e = 0 → s.Types.length ≤ 32 ∧ ∀ i, i < s.Types.length → stepV s.Types i = none) := by
 obtain ⟨e, h1, h2, h3, _⟩ := g1tv hs ht;exact ⟨e, h1, h2, h3⟩
theorem g1p5 {ts : List SType} (hT : ∀ t, t ∈ ts → OkT t) (hv : ∀ i, i < ts.length → stepV ts i = none) : ∀ t, t ∈ ts → 1 ≤ t.Kind ∧ t.Kind ≤ 9 := by
 intro t ht;obtain ⟨i, hi, he⟩ := List.getElem_of_mem ht;have hg : ts.getD i dSType = t := by rw [g16t hi]; exact he
 obtain ⟨r, f1, _, f3⟩ := g1fo (hT t ht);have h := hv i hi;rw [g1eg hg f1] at h;cases r with
 | false => rw [if_pos (show (!false) = true from rfl)] at h; cases h
 | true => exact ⟨(f3 rfl).1, (f3 rfl).2.1⟩
end
section
open Go Go.Proofs.YthnmepafpikaiaaGreat.Shv
set_option maxRecDepth 100000
theorem g1az {γ : Type} (L : Nat → Option γ) (n : Nat) (q : Nat → Bool) (hit : Nat → γ) (miss : γ) (hstep : ∀ i, i < n → L i = if q i = true then some (hit i) else L (i + 1)) (hend : L n = some miss) :
   (∃ j, j < n ∧ q j = true ∧ (∀ k, k < j → q k = false) ∧ L 0 = some (hit j)) ∨ ((∀ k, k < n → q k = false) ∧ L 0 = some miss) := by
 have key : ∀ k i, i + k = n → (∀ m, m < i → q m = false) → L 0 = L i → (∃ j, j < n ∧ q j = true ∧ (∀ k, k < j → q k = false) ∧ L 0 = some (hit j)) ∨ ((∀ k, k < n → q k = false) ∧ L 0 = some miss) := by
   intro k
   induction k with
   | zero => intro i hi hm h0; have : i = n := by omega
             subst this; exact .inr ⟨hm, by rw [h0, hend]⟩
   | succ k ih =>
     intro i hi hm h0;rw [hstep i (by omega)] at h0;cases hq : q i with
     | true => rw [hq, if_pos rfl] at h0; exact .inl ⟨i, by omega, hq, hm, h0⟩
     | false =>
       rw [hq, if_neg (by simp)] at h0;refine ih (i + 1) (by omega) (fun m hm' => ?_) h0;rcases Nat.lt_or_ge m i with h | h
       · exact hm m h
       · have : m = i := by omega
         subst this; exact hq
 exact key n 0 (by omega) (fun m hm => by omega) rfl
def g1dn (l : List SMember) (id : Int) (r : Int × Bool) : Prop := (∃ j : Nat, j < l.length ∧ (l.getD j dSMember).ID = id ∧ (∀ k, k < j → (l.getD k dSMember).ID ≠ id) ∧ r = ((j : Int), true)) ∨ ((∀ k, k < l.length → (l.getD k dSMember).ID ≠ id) ∧ r = (0, false))
theorem g1mo {l : List SMember} {id : Int} {r q : Int × Bool} (h1 : g1dn l id r) (h2 : g1dn l id q) : r = q := by
 rcases h1 with ⟨j, a1, a2, a3, rfl⟩ | ⟨a1, rfl⟩ <;> rcases h2 with ⟨k, b1, b2, b3, rfl⟩ | ⟨b1, rfl⟩
 · have : j = k := by
     rcases Nat.lt_trichotomy j k with h | h | h
     · exact absurd a2 (b3 j h)
     · exact h
     · exact absurd b2 (a3 k h)
   rw [this]
 · exact absurd a2 (b1 j a1)
 · exact absurd b2 (a1 k b1)
 · rfl
theorem g1iu {t : SType} {id : Int} (hl : t.Members.length < 9223372036854775807) : ∃ r, g2e (t, id) = some r ∧ g1dn t.Members id r := by
 rw [g2e, g2z];have h := g1az (fun i => gg (t.Members, (t.Members.length : Int), (i : Int), id)) t.Members.length (fun i => decide ((t.Members.getD i dSMember).ID = id)) (fun i => .inl ((i : Int), id)) (.inr id)
   (fun i hi => by
     rw [gg, if_pos (by simp; omega), if_pos (g16i hi)];simp only [oZ4, oZ3, g16j, g18v, ge5];rw [g16o (by omega)])
   (by rw [gg, if_neg (by simp)])
 have e0 : gg (t.Members, (t.Members.length : Int), ((0 : Nat) : Int), id) = gg (t.Members, (t.Members.length : Int), 0, id) := rfl;simp only [e0] at h;rcases h with ⟨j, h1, h2, h3, h4⟩ | ⟨h1, h4⟩
 · rw [h4];refine ⟨((j : Int), true), ?_, .inl ⟨j, h1, by simpa using h2, fun k hk => by simpa using h3 k hk, rfl⟩⟩;have e1 : maxI (j : Int) 0 = (j : Int) := by unfold maxI; omega
   have e2 : decide ((0 : Int) ≤ (j : Int)) = true := by simp
   simp only [oZ4, oZ3, e1, e2]
 · rw [h4];exact ⟨(0, false), rfl, .inr ⟨fun k hk => by simpa using h1 k hk, rfl⟩⟩
theorem g1iv {t : SType} {id : Int} (hl : t.Members.length < 9223372036854775807) : ∃ r, g1q (t, id) = some r ∧ g1dn t.Members id r := by
 rw [g1q];have h := g1az (fun i => g2d (id, (i : Int), t)) t.Members.length (fun i => decide ((t.Members.getD i dSMember).ID = id)) (fun i => .inl ((i : Int), true)) (.inr ())
   (fun i hi => by
     rw [g2d, if_pos (by simp; omega), if_pos (g16i hi), g16o (by omega)];simp only [g16j])
   (by rw [g2d, if_neg (by simp)])
 have e0 : g2d (id, ((0 : Nat) : Int), t) = g2d (id, 0, t) := rfl;simp only [e0] at h;rcases h with ⟨j, h1, h2, h3, h4⟩ | ⟨h1, h4⟩
 · rw [h4];exact ⟨((j : Int), true), rfl, .inl ⟨j, h1, by simpa using h2, fun k hk => by simpa using h3 k hk, rfl⟩⟩
 · rw [h4];exact ⟨(0, false), rfl, .inr ⟨fun k hk => by simpa using h1 k hk, rfl⟩⟩
theorem g17t {t : SType} (id : Int) (hl : t.Members.length < 9223372036854775807) : ∃ r, g2e (t, id) = some r ∧ g1q (t, id) = some r ∧ g1dn t.Members id r := by
 obtain ⟨r, h1, h2⟩ := g1iu (id := id) hl;obtain ⟨q, h3, h4⟩ := g1iv (id := id) hl;have := g1mo h2 h4;subst this;exact ⟨r, h1, h3, h2⟩
def g1do (l : List SSymbol) (id : Int) (r : Int × Bool) : Prop := (∃ j : Nat, j < l.length ∧ (l.getD j dSSymbol).ID = id ∧ (∀ k, k < j → (l.getD k dSSymbol).ID ≠ id) ∧ r = ((j : Int), true)) ∨ ((∀ k, k < l.length → (l.getD k dSSymbol).ID ≠ id) ∧ r = (0, false))
theorem g1mp {l : List SSymbol} {id : Int} {r q : Int × Bool} (h1 : g1do l id r) (h2 : g1do l id q) : r = q := by
 rcases h1 with ⟨j, a1, a2, a3, rfl⟩ | ⟨a1, rfl⟩ <;> rcases h2 with ⟨k, b1, b2, b3, rfl⟩ | ⟨b1, rfl⟩
 · have : j = k := by
     rcases Nat.lt_trichotomy j k with h | h | h
     · exact absurd a2 (b3 j h)
     · exact h
     · exact absurd b2 (a3 k h)
   rw [this]
 · exact absurd a2 (b1 j a1)
 · exact absurd b2 (a1 k b1)
 · rfl
theorem g1go {t : SType} (id : Int) (hl : t.Symbols.length < 9223372036854775807) : ∃ r, gae (t, id) = some r ∧ gai (t, id) = some r ∧ g1do t.Symbols id r := by
 rw [gae, g2y, gai];have h := g1az (fun i => gc (t.Symbols, (t.Symbols.length : Int), (i : Int), id)) t.Symbols.length (fun i => decide ((t.Symbols.getD i dSSymbol).ID = id)) (fun i => .inl ((i : Int), id)) (.inr id)
   (fun i hi => by
     rw [gc, if_pos (by simp; omega), if_pos (g16i hi)];simp only [oZ4, oZ3, g16j, ge3];rw [g16o (by omega)])
   (by rw [gc, if_neg (by simp)])
 have e0 : gc (t.Symbols, (t.Symbols.length : Int), ((0 : Nat) : Int), id) = gc (t.Symbols, (t.Symbols.length : Int), 0, id) := rfl;have g := g1az (fun i => g1z (id, (i : Int), t)) t.Symbols.length (fun i => decide ((t.Symbols.getD i dSSymbol).ID = id)) (fun i => .inl ((i : Int), true)) (.inr ())
   (fun i hi => by
     rw [g1z, if_pos (by simp; omega), if_pos (g16i hi), g16o (by omega)];simp only [g16j])
   (by rw [g1z, if_neg (by simp)])
 have g0 : g1z (id, ((0 : Nat) : Int), t) = g1z (id, 0, t) := rfl;simp only [e0] at h;simp only [g0] at g;have hA : ∃ r, (gc (t.Symbols, (t.Symbols.length : Int), 0, id) >>= fun o => match o with | .inl o_1 => some (o_1.1, o_1.2) | .inr o_2 => some ((-1), o_2)) >>= (fun r => some (maxI r.1 0, decide (0 ≤ r.1))) = some r ∧ g1do t.Symbols id r := by
   rcases h with ⟨j, h1, h2, h3, h4⟩ | ⟨h1, h4⟩
   · rw [h4];refine ⟨((j : Int), true), ?_, .inl ⟨j, h1, by simpa using h2, fun k hk => by simpa using h3 k hk, rfl⟩⟩;have e1 : maxI (j : Int) 0 = (j : Int) := by unfold maxI; omega
     have e2 : decide ((0 : Int) ≤ (j : Int)) = true := by simp
     simp only [oZ4, oZ3, e1, e2]
   · rw [h4];exact ⟨(0, false), rfl, .inr ⟨fun k hk => by simpa using h1 k hk, rfl⟩⟩
 have hB : ∃ r, (g1z (id, 0, t) >>= fun o => match o with | .inl o_1 => some (o_1.1, o_1.2) | .inr o_2 => some (0, false)) = some r ∧ g1do t.Symbols id r := by
   rcases g with ⟨j, h1, h2, h3, h4⟩ | ⟨h1, h4⟩
   · rw [h4];exact ⟨((j : Int), true), rfl, .inl ⟨j, h1, by simpa using h2, fun k hk => by simpa using h3 k hk, rfl⟩⟩
   · rw [h4];exact ⟨(0, false), rfl, .inr ⟨fun k hk => by simpa using h1 k hk, rfl⟩⟩
 obtain ⟨r, a1, a2⟩ := hA;obtain ⟨q, b1, b2⟩ := hB;have := g1mp a2 b2;subst this;exact ⟨r, a1, b1, a2⟩
end
end Go.Proofs.YthnmepafpikaiaaGreat
