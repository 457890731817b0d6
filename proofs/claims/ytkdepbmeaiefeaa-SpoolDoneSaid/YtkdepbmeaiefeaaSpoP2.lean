/- Written by program: the functions of the program as functions of Lean, and that the program's code does what they say. -/
import Derived.Test.YtkdepbmeaiefeaaSpoP1
namespace Go.Proofs.Ytkdepbmeaiefeaa
open Go Go.Proofs.Ytkdepbmeaiefeaa.Shv
set_option maxRecDepth 100000
set_option linter.all false

def sheavelaw51_awake_l0 (x_ : Int × Int × List Item × Int × Int × List Int) : Option ((Bool) ⊕ (List Item × Int × Int)) :=
  match x_ with
  | (t17, t18, b_3, b_4, b_5, b_6) =>
  if decide (t18 < t17) = true then
    if inR t18 b_6.length = true then
      if decide (t18.toNat < b_6.length) = true then
        spool_Put ((⟨b_3, b_4, b_5⟩ : Spool), b_6.getD t18.toNat 0, [120]) >>= fun r_15 =>
        if (!(decide (r_15.2 = 0))) = true then
          some (.inl false)
        else
          sheavelaw51_awake_l0 (t17, addI .i64 t18 1, r_15.1.Items, r_15.1.Next, r_15.1.Cursor, b_6)
      else none
    else none
  else
    some (.inr (b_3, b_4, b_5))
  partial_fixpoint
theorem F10_b : hasBody Try.prog 10 = true := by kernel_rfl
theorem F10_ok : Try.f10.body.bind (Go.Proofs.Ytkdepbmeaiefeaa.Shv.resolve Try.prog Try.f10.ntmps) = some (codeOf Try.prog Try.f10) := by kernel_rfl
theorem F10_res : resolveRes Try.prog Try.f10.results.toList = some [.tmp 0] := by kernel_rfl
def sheavelaw51_awake_l0_sh : Shape := ⟨[(1, .c (.ptr 0 0)), (16, .c (.arr 1)), (17, .c (.hole (.int .i64))), (18, .c (.hole (.int .i64)))], [.box [.hole (.slice (.nm 1)), .hole (.int .i64), .hole (.int .i64)], .arr (.int .i64)]⟩
def sheavelaw51_awake_l0_ts : List Ty := [.int .i64, .int .i64, .slice (.nm 1), .int .i64, .int .i64, .slice (.int .i64)]
def sheavelaw51_awake_l0_outs : List OSpec := [⟨.ret, ⟨[(0, .c (.hole .bool))], []⟩, [], [.bool]⟩, ⟨.exit 0, ⟨[(1, .c (.ptr 0 0))], [.box [.hole (.slice (.nm 1)), .hole (.int .i64), .hole (.int .i64)]]⟩, [], [.slice (.nm 1), .int .i64, .int .i64]⟩]
def sheavelaw51_awake_l0_p (F : Hs Un.D sheavelaw51_awake_l0_ts → Option (OSum Un sheavelaw51_awake_l0_outs)) : LSpec Un := ⟨sheavelaw51_awake_l0_sh, [], sheavelaw51_awake_l0_ts, sheavelaw51_awake_l0_outs, F⟩
def sheavelaw51_awake_l0_s : LSpec Un := sheavelaw51_awake_l0_p sheavelaw51_awake_l0
theorem sheavelaw51_awake_l0_snd : LSnd Try.prog Try.f10.ntmps 0 (loopOf (codeOf Try.prog Try.f10) 0) sheavelaw51_awake_l0_s := fun h o ho => sheavelaw51_awake_l0.partial_correctness (fun h o => LAt (U := Un) Try.prog Try.f10.ntmps 0 (loopOf (codeOf Try.prog Try.f10) 0) sheavelaw51_awake_l0_sh sheavelaw51_awake_l0_ts sheavelaw51_awake_l0_outs h o) (fun F1 HF1 h o ho => LAt.of_round (fo := foS [spool_Put_s]) (lo := loL []) (own := []) (F' := F1) (FoSnd.cons F14_b spool_Put_snd FoSnd.nil) (LoOk.snd LoOk.nil) HF1 (Eq.trans (by kernel_rfl) ho)) h o ho
def sheavelaw51_awake (_ : Unit) : Option (Bool) :=
  sheavelaw51_awake_l0 (3, 0, [], 1, 0, [0, 1, 0]) >>= fun o =>
  match o with
  | .inl o_1 =>
    some o_1
  | .inr o_2 =>
    spool_Rewrite ((⟨o_2.1, o_2.2.1, o_2.2.2⟩ : Spool), 2, 1, 1) >>= fun r =>
    spool_Rewrite (r.1, 2, 1, 1) >>= fun r_4 =>
    spool_Take r_4.1 >>= fun r_8 =>
    spool_Held (⟨o_2.1, o_2.2.1, o_2.2.2⟩ : Spool) >>= fun r_12 =>
    some (bif bif bif decide (r_12 = 3) then decide (r.2.2 = 0) else false then decide (r.2.1 = 1) else false then decide (r.1.Cursor = 2) else false) >>= fun t65 =>
    (if t65 = true then spool_Rewritten (r.1, 2) else some false) >>= fun r_13 =>
    some (bif bif bif t65 then (!r_13) else false then decide (r_4.2.2 = 0) else false then decide (r_4.2.1 = 1) else false) >>= fun t78 =>
    (if t78 = true then spool_Rewritten (r_4.1, 2) else some false) >>= fun r_14 =>
    some (bif bif bif bif t78 then r_14 else false then decide (r_8.2.2 = 0) else false then eqI r_8.2.1.ID 1 && (eqI r_8.2.1.Version 1 && (eqS r_8.2.1.Data [120] && true)) else false then decide (r_8.1.Cursor = 2) else false)
def sheavelaw51_awake_p (F : Hs Un.D [] → Option (Hs Un.D [.bool])) : FSpec Un := ⟨10, [], [], [], .c (.hole .bool), [], [.bool], F⟩
def sheavelaw51_awake_s : FSpec Un := sheavelaw51_awake_p sheavelaw51_awake
theorem sheavelaw51_awake_snd : FSnd Try.prog sheavelaw51_awake_s := FSnd.of fun h r hr => FAt.of_body (s := sheavelaw51_awake_s) (fo := foS [spool_Rewrite_s, spool_Take_s, spool_Held_s, spool_Rewritten_s]) (lo := loL [(0, sheavelaw51_awake_l0_s)]) Try.func10 F10_ok F10_res (by kernel_rfl) (FoSnd.cons F17_b spool_Rewrite_snd (FoSnd.cons F22_b spool_Take_snd (FoSnd.cons F24_b spool_Held_snd (FoSnd.cons F19_b spool_Rewritten_snd FoSnd.nil)))) (LoOk.snd (LoOk.cons sheavelaw51_awake_l0_snd LoOk.nil)) (Eq.trans (by kernel_rfl) hr)
def sheavelaw51_small_l0 (x_ : Int × List Item × Int × Int × Spool) : Option (Int × Spool) :=
  match x_ with
  | (n_1, t7, t8_1, t9, b_1) =>
  if decide (t9 < t8_1) = true then
    if inR t9 t7.length = true then
      sheavelaw51_small_l0 (addI .i64 n_1 ((t7.getD t9.toNat dItem).Data.length : Int), t7, t8_1, addI .i64 t9 1, b_1)
    else none
  else
    some (n_1, b_1)
  partial_fixpoint
theorem F11_b : hasBody Try.prog 11 = true := by kernel_rfl
theorem F11_ok : Try.f11.body.bind (Go.Proofs.Ytkdepbmeaiefeaa.Shv.resolve Try.prog Try.f11.ntmps) = some (codeOf Try.prog Try.f11) := by kernel_rfl
theorem F11_res : resolveRes Try.prog Try.f11.results.toList = some [.tmp 2] := by kernel_rfl
def sheavelaw51_small_l0_sh : Shape := ⟨[(1, .c (.ptr 0 0)), (3, .c (.hole (.int .i64))), (7, .c (.hole (.slice (.nm 1)))), (8, .c (.hole (.int .i64))), (9, .c (.hole (.int .i64)))], [.brow 0]⟩
def sheavelaw51_small_l0_ts : List Ty := [.int .i64, .slice (.nm 1), .int .i64, .int .i64, .nm 0]
def sheavelaw51_small_l0_outs : List OSpec := [⟨.exit 0, ⟨[(1, .c (.ptr 0 0)), (3, .c (.hole (.int .i64)))], [.brow 0]⟩, [], [.int .i64, .nm 0]⟩]
def sheavelaw51_small_l0_p (F : Hs Un.D sheavelaw51_small_l0_ts → Option (OSum Un sheavelaw51_small_l0_outs)) : LSpec Un := ⟨sheavelaw51_small_l0_sh, [], sheavelaw51_small_l0_ts, sheavelaw51_small_l0_outs, F⟩
def sheavelaw51_small_l0_s : LSpec Un := sheavelaw51_small_l0_p sheavelaw51_small_l0
theorem sheavelaw51_small_l0_snd : LSnd Try.prog Try.f11.ntmps 0 (loopOf (codeOf Try.prog Try.f11) 0) sheavelaw51_small_l0_s := fun h o ho => sheavelaw51_small_l0.partial_correctness (fun h o => LAt (U := Un) Try.prog Try.f11.ntmps 0 (loopOf (codeOf Try.prog Try.f11) 0) sheavelaw51_small_l0_sh sheavelaw51_small_l0_ts sheavelaw51_small_l0_outs h o) (fun F1 HF1 h o ho => LAt.of_round (fo := foS []) (lo := loL []) (own := []) (F' := F1) FoSnd.nil (LoOk.snd LoOk.nil) HF1 (Eq.trans (by kernel_rfl) ho)) h o ho
def sheavelaw51_small (s : Spool) : Option (Bool) :=
  sheavelaw51_small_l0 (0, s.Items, (s.Items.length : Int), 0, s) >>= fun o =>
  some (bif decide ((o.2.Items.length : Int) ≤ 1002) then decide (o.1 ≤ 20000) else false)
def sheavelaw51_small_p (F : Hs Un.D [.nm 0] → Option (Hs Un.D [.bool])) : FSpec Un := ⟨11, [.row 0], [], [.nm 0], .c (.hole .bool), [], [.bool], F⟩
def sheavelaw51_small_s : FSpec Un := sheavelaw51_small_p sheavelaw51_small
theorem sheavelaw51_small_snd : FSnd Try.prog sheavelaw51_small_s := FSnd.of fun h r hr => FAt.of_body (s := sheavelaw51_small_s) (fo := foS []) (lo := loL [(0, sheavelaw51_small_l0_s)]) Try.func11 F11_ok F11_res (by kernel_rfl) FoSnd.nil (LoOk.snd (LoOk.cons sheavelaw51_small_l0_snd LoOk.nil)) (Eq.trans (by kernel_rfl) hr)
def sheaveref51_version (v : Int) : Option (Bool) :=
  some (bif decide (0 ≤ v) then decide (v < 6) else false)
theorem F31_b : hasBody Try.prog 31 = true := by kernel_rfl
theorem F31_ok : Try.f31.body.bind (Go.Proofs.Ytkdepbmeaiefeaa.Shv.resolve Try.prog Try.f31.ntmps) = some (codeOf Try.prog Try.f31) := by kernel_rfl
theorem F31_res : resolveRes Try.prog Try.f31.results.toList = some [.tmp 2] := by kernel_rfl
def sheaveref51_version_p (F : Hs Un.D [.int .i64] → Option (Hs Un.D [.bool])) : FSpec Un := ⟨31, [.c (.hole (.int .i64))], [], [.int .i64], .c (.hole .bool), [], [.bool], F⟩
def sheaveref51_version_s : FSpec Un := sheaveref51_version_p sheaveref51_version
theorem sheaveref51_version_snd : FSnd Try.prog sheaveref51_version_s := FSnd.of fun h r hr => FAt.of_body (s := sheaveref51_version_s) (fo := foS []) (lo := loL []) Try.func31 F31_ok F31_res (by kernel_rfl) FoSnd.nil (LoOk.snd LoOk.nil) (Eq.trans (by kernel_rfl) hr)
def sheaveref51_Valid_l0 (x_ : Int × Int × Spool) : Option ((Int) ⊕ (Unit)) :=
  match x_ with
  | (before, i, b) =>
  if decide (i < (b.Items.length : Int)) = true then
    if inR i b.Items.length = true then
      some (b.Items.getD i.toNat dItem) >>= fun x0 =>
      some (bif decide (x0.ID ≤ before) then true else decide (b.Next ≤ x0.ID)) >>= fun t55 =>
      (if (!t55) = true then sheaveref51_version x0.Version else some false) >>= fun r =>
      if (bif bif t55 then true else (!r) then true else decide (4096 < (x0.Data.length : Int))) = true then
        some (.inl 1)
      else
        sheaveref51_Valid_l0 (x0.ID, addI .i64 i 1, b)
    else none
  else
    some (.inr ())
  partial_fixpoint
theorem F13_b : hasBody Try.prog 13 = true := by kernel_rfl
theorem F13_ok : Try.f13.body.bind (Go.Proofs.Ytkdepbmeaiefeaa.Shv.resolve Try.prog Try.f13.ntmps) = some (codeOf Try.prog Try.f13) := by kernel_rfl
theorem F13_res : resolveRes Try.prog Try.f13.results.toList = some [.tmp 2] := by kernel_rfl
def sheaveref51_Valid_l0_sh : Shape := ⟨[(1, .c (.ptr 0 0)), (3, .c (.hole (.int .i64))), (4, .c (.hole (.int .i64)))], [.brow 0]⟩
def sheaveref51_Valid_l0_ts : List Ty := [.int .i64, .int .i64, .nm 0]
def sheaveref51_Valid_l0_outs : List OSpec := [⟨.ret, ⟨[(2, .c (.hole (.int .i64)))], []⟩, [], [.int .i64]⟩, ⟨.exit 0, ⟨[], []⟩, [], []⟩]
def sheaveref51_Valid_l0_p (F : Hs Un.D sheaveref51_Valid_l0_ts → Option (OSum Un sheaveref51_Valid_l0_outs)) : LSpec Un := ⟨sheaveref51_Valid_l0_sh, [], sheaveref51_Valid_l0_ts, sheaveref51_Valid_l0_outs, F⟩
def sheaveref51_Valid_l0_s : LSpec Un := sheaveref51_Valid_l0_p sheaveref51_Valid_l0
theorem sheaveref51_Valid_l0_snd : LSnd Try.prog Try.f13.ntmps 0 (loopOf (codeOf Try.prog Try.f13) 0) sheaveref51_Valid_l0_s := fun h o ho => sheaveref51_Valid_l0.partial_correctness (fun h o => LAt (U := Un) Try.prog Try.f13.ntmps 0 (loopOf (codeOf Try.prog Try.f13) 0) sheaveref51_Valid_l0_sh sheaveref51_Valid_l0_ts sheaveref51_Valid_l0_outs h o) (fun F1 HF1 h o ho => LAt.of_round (fo := foS [sheaveref51_version_s]) (lo := loL []) (own := []) (F' := F1) (FoSnd.cons F31_b sheaveref51_version_snd FoSnd.nil) (LoOk.snd LoOk.nil) HF1 (Eq.trans (by kernel_rfl) ho)) h o ho
def sheaveref51_Valid (s : Spool) : Option (Int) :=
  if (bif bif bif bif decide (1000 < (s.Items.length : Int)) then true else decide (s.Next < 1) then true else decide (4611686018427387904 < s.Next) then true else decide (s.Cursor < 0) then true else decide ((s.Items.length : Int) < s.Cursor)) = true then
    some 1
  else
    sheaveref51_Valid_l0 (0, 0, s) >>= fun o =>
    match o with
    | .inl o_1 =>
      some o_1
    | .inr o_2 =>
      some 0
def sheaveref51_Valid_p (F : Hs Un.D [.nm 0] → Option (Hs Un.D [.int .i64])) : FSpec Un := ⟨13, [.row 0], [], [.nm 0], .c (.hole (.int .i64)), [], [.int .i64], F⟩
def sheaveref51_Valid_s : FSpec Un := sheaveref51_Valid_p sheaveref51_Valid
theorem sheaveref51_Valid_snd : FSnd Try.prog sheaveref51_Valid_s := FSnd.of fun h r hr => FAt.of_body (s := sheaveref51_Valid_s) (fo := foS []) (lo := loL [(0, sheaveref51_Valid_l0_s)]) Try.func13 F13_ok F13_res (by kernel_rfl) FoSnd.nil (LoOk.snd (LoOk.cons sheaveref51_Valid_l0_snd LoOk.nil)) (Eq.trans (by kernel_rfl) hr)
def sheavelaw51_SpoolValid (s : Spool) : Option (Bool) :=
  sheavelaw51_awake () >>= fun r =>
  some (!r) >>= fun t4 =>
  (if (!t4) = true then sheavelaw51_small s else some false) >>= fun r_1 =>
  if (bif t4 then true else (!r_1)) = true then
    sheavelaw51_awake () >>= fun r_2 =>
    some r_2
  else
    spool_Valid s >>= fun r_3 =>
    sheaveref51_Valid s >>= fun r_4 =>
    some (decide (r_3 = r_4))
theorem F3_b : hasBody Try.prog 3 = true := by kernel_rfl
theorem F3_ok : Try.f3.body.bind (Go.Proofs.Ytkdepbmeaiefeaa.Shv.resolve Try.prog Try.f3.ntmps) = some (codeOf Try.prog Try.f3) := by kernel_rfl
theorem F3_res : resolveRes Try.prog Try.f3.results.toList = some [.tmp 2] := by kernel_rfl
def sheavelaw51_SpoolValid_p (F : Hs Un.D [.nm 0] → Option (Hs Un.D [.bool])) : FSpec Un := ⟨3, [.row 0], [], [.nm 0], .c (.hole .bool), [], [.bool], F⟩
def sheavelaw51_SpoolValid_s : FSpec Un := sheavelaw51_SpoolValid_p sheavelaw51_SpoolValid
theorem sheavelaw51_SpoolValid_snd : FSnd Try.prog sheavelaw51_SpoolValid_s := FSnd.of fun h r hr => FAt.of_body (s := sheavelaw51_SpoolValid_s) (fo := foS [sheavelaw51_awake_s, sheavelaw51_small_s, spool_Valid_s, sheaveref51_Valid_s]) (lo := loL []) Try.func3 F3_ok F3_res (by kernel_rfl) (FoSnd.cons F10_b sheavelaw51_awake_snd (FoSnd.cons F11_b sheavelaw51_small_snd (FoSnd.cons F12_b spool_Valid_snd (FoSnd.cons F13_b sheaveref51_Valid_snd FoSnd.nil)))) (LoOk.snd LoOk.nil) (Eq.trans (by kernel_rfl) hr)
def sheaveref51_copied (s : Spool) : Option (Int × Int × List Item) :=
  if room 32 ([] ++ s.Items).length = true then
    some (s.Next, s.Cursor, [] ++ s.Items)
  else none
theorem F33_b : hasBody Try.prog 33 = true := by kernel_rfl
theorem F33_ok : Try.f33.body.bind (Go.Proofs.Ytkdepbmeaiefeaa.Shv.resolve Try.prog Try.f33.ntmps) = some (codeOf Try.prog Try.f33) := by kernel_rfl
theorem F33_res : resolveRes Try.prog Try.f33.results.toList = some [.cell 2 true 3] := by kernel_rfl
def sheaveref51_copied_p (F : Hs Un.D [.nm 0] → Option (Hs Un.D [.int .i64, .int .i64, .slice (.nm 1)])) : FSpec Un := ⟨33, [.row 0], [], [.nm 0], .agg [.arr 0, .hole (.int .i64), .hole (.int .i64)], [.arr (.nm 1)], [.int .i64, .int .i64, .slice (.nm 1)], F⟩
def sheaveref51_copied_s : FSpec Un := sheaveref51_copied_p sheaveref51_copied
theorem sheaveref51_copied_snd : FSnd Try.prog sheaveref51_copied_s := FSnd.of fun h r hr => FAt.of_body (s := sheaveref51_copied_s) (fo := foS []) (lo := loL []) Try.func33 F33_ok F33_res (by kernel_rfl) FoSnd.nil (LoOk.snd LoOk.nil) (Eq.trans (by kernel_rfl) hr)
def sheaveref51_Put (x_ : Spool × Int × List UInt8) : Option (Spool × Int) :=
  match x_ with
  | (s, v, data) =>
  sheaveref51_Valid s >>= fun r =>
  if (!(decide (r = 0))) = true then
    some ((⟨[], 0, 0⟩ : Spool), 1)
  else
    sheaveref51_version v >>= fun r_1 =>
    if (!r_1) = true then
      some ((⟨[], 0, 0⟩ : Spool), 7)
    else
      if (bif bif decide ((s.Items.length : Int) = 1000) then true else decide (s.Next = 4611686018427387904) then true else decide (4096 < (data.length : Int))) = true then
        some ((⟨[], 0, 0⟩ : Spool), 3)
      else
        sheaveref51_copied s >>= fun r_2 =>
        if room 32 (r_2.2.2 ++ [(⟨r_2.1, v, data⟩ : Item)]).length = true then
          some ((⟨r_2.2.2 ++ [(⟨r_2.1, v, data⟩ : Item)], addI .i64 r_2.1 1, r_2.2.1⟩ : Spool), 0)
        else none
theorem F15_b : hasBody Try.prog 15 = true := by kernel_rfl
theorem F15_ok : Try.f15.body.bind (Go.Proofs.Ytkdepbmeaiefeaa.Shv.resolve Try.prog Try.f15.ntmps) = some (codeOf Try.prog Try.f15) := by kernel_rfl
theorem F15_res : resolveRes Try.prog Try.f15.results.toList = some [.cell 6 true 3, .tmp 7] := by kernel_rfl
def sheaveref51_Put_p (F : Hs Un.D [.nm 0, .int .i64, .str] → Option (Hs Un.D [.nm 0, .int .i64])) : FSpec Un := ⟨15, [.row 0, .c (.hole (.int .i64)), .c (.hole .str)], [], [.nm 0, .int .i64, .str], .tup [.row 0, .c (.hole (.int .i64))], [], [.nm 0, .int .i64], F⟩
def sheaveref51_Put_s : FSpec Un := sheaveref51_Put_p sheaveref51_Put
theorem sheaveref51_Put_snd : FSnd Try.prog sheaveref51_Put_s := FSnd.of fun h r hr => FAt.of_body (s := sheaveref51_Put_s) (fo := foS [sheaveref51_Valid_s, sheaveref51_version_s, sheaveref51_copied_s]) (lo := loL []) Try.func15 F15_ok F15_res (by kernel_rfl) (FoSnd.cons F13_b sheaveref51_Valid_snd (FoSnd.cons F31_b sheaveref51_version_snd (FoSnd.cons F33_b sheaveref51_copied_snd FoSnd.nil))) (LoOk.snd LoOk.nil) (Eq.trans (by kernel_rfl) hr)
def sheaveref51_Same_l0 (x_ : Int × Spool × Spool) : Option ((Bool) ⊕ (Unit)) :=
  match x_ with
  | (i, b_1, b_2) =>
  if decide (i < (b_1.Items.length : Int)) = true then
    if inR i b_1.Items.length = true then
      some (b_1.Items.getD i.toNat dItem) >>= fun x0 =>
      if inR i b_2.Items.length = true then
        some (b_2.Items.getD i.toNat dItem) >>= fun x0_1 =>
        if (!(eqI x0.ID x0_1.ID && (eqI x0.Version x0_1.Version && (eqS x0.Data x0_1.Data && true)))) = true then
          some (.inl false)
        else
          sheaveref51_Same_l0 (addI .i64 i 1, b_1, b_2)
      else none
    else none
  else
    some (.inr ())
  partial_fixpoint
theorem F16_b : hasBody Try.prog 16 = true := by kernel_rfl
theorem F16_ok : Try.f16.body.bind (Go.Proofs.Ytkdepbmeaiefeaa.Shv.resolve Try.prog Try.f16.ntmps) = some (codeOf Try.prog Try.f16) := by kernel_rfl
theorem F16_res : resolveRes Try.prog Try.f16.results.toList = some [.tmp 4] := by kernel_rfl
def sheaveref51_Same_l0_sh : Shape := ⟨[(2, .c (.ptr 0 0)), (3, .c (.ptr 1 0)), (5, .c (.hole (.int .i64)))], [.brow 0, .brow 0]⟩
def sheaveref51_Same_l0_ts : List Ty := [.int .i64, .nm 0, .nm 0]
def sheaveref51_Same_l0_outs : List OSpec := [⟨.ret, ⟨[(4, .c (.hole .bool))], []⟩, [], [.bool]⟩, ⟨.exit 0, ⟨[], []⟩, [], []⟩]
def sheaveref51_Same_l0_p (F : Hs Un.D sheaveref51_Same_l0_ts → Option (OSum Un sheaveref51_Same_l0_outs)) : LSpec Un := ⟨sheaveref51_Same_l0_sh, [], sheaveref51_Same_l0_ts, sheaveref51_Same_l0_outs, F⟩
def sheaveref51_Same_l0_s : LSpec Un := sheaveref51_Same_l0_p sheaveref51_Same_l0
theorem sheaveref51_Same_l0_snd : LSnd Try.prog Try.f16.ntmps 0 (loopOf (codeOf Try.prog Try.f16) 0) sheaveref51_Same_l0_s := fun h o ho => sheaveref51_Same_l0.partial_correctness (fun h o => LAt (U := Un) Try.prog Try.f16.ntmps 0 (loopOf (codeOf Try.prog Try.f16) 0) sheaveref51_Same_l0_sh sheaveref51_Same_l0_ts sheaveref51_Same_l0_outs h o) (fun F1 HF1 h o ho => LAt.of_round (fo := foS []) (lo := loL []) (own := []) (F' := F1) FoSnd.nil (LoOk.snd LoOk.nil) HF1 (Eq.trans (by kernel_rfl) ho)) h o ho
def sheaveref51_Same (x_ : Spool × Spool) : Option (Bool) :=
  match x_ with
  | (a, b) =>
  if (bif bif (!(decide (a.Next = b.Next))) then true else (!(decide (a.Cursor = b.Cursor))) then true else (!(decide ((a.Items.length : Int) = (b.Items.length : Int))))) = true then
    some false
  else
    sheaveref51_Same_l0 (0, a, b) >>= fun o =>
    match o with
    | .inl o_1 =>
      some o_1
    | .inr o_2 =>
      some true
def sheaveref51_Same_p (F : Hs Un.D [.nm 0, .nm 0] → Option (Hs Un.D [.bool])) : FSpec Un := ⟨16, [.row 0, .row 0], [], [.nm 0, .nm 0], .c (.hole .bool), [], [.bool], F⟩
def sheaveref51_Same_s : FSpec Un := sheaveref51_Same_p sheaveref51_Same
theorem sheaveref51_Same_snd : FSnd Try.prog sheaveref51_Same_s := FSnd.of fun h r hr => FAt.of_body (s := sheaveref51_Same_s) (fo := foS []) (lo := loL [(0, sheaveref51_Same_l0_s)]) Try.func16 F16_ok F16_res (by kernel_rfl) FoSnd.nil (LoOk.snd (LoOk.cons sheaveref51_Same_l0_snd LoOk.nil)) (Eq.trans (by kernel_rfl) hr)
def sheavelaw51_SpoolPut (x_ : Spool × Int × List UInt8) : Option (Bool) :=
  match x_ with
  | (s, v, data) =>
  sheavelaw51_awake () >>= fun r =>
  some (!r) >>= fun t12 =>
  (if (!t12) = true then sheavelaw51_small s else some false) >>= fun r_1 =>
  if (bif bif t12 then true else (!r_1) then true else decide (5000 < (data.length : Int))) = true then
    sheavelaw51_awake () >>= fun r_2 =>
    some r_2
  else
    spool_Put (s, v, data) >>= fun r_3 =>
    sheaveref51_Put (s, v, data) >>= fun r_6 =>
    some (decide (r_3.2 = r_6.2)) >>= fun t40 =>
    (if t40 = true then sheaveref51_Same (r_3.1, r_6.1) else some false) >>= fun r_9 =>
    some (bif t40 then r_9 else false)
theorem F4_b : hasBody Try.prog 4 = true := by kernel_rfl
theorem F4_ok : Try.f4.body.bind (Go.Proofs.Ytkdepbmeaiefeaa.Shv.resolve Try.prog Try.f4.ntmps) = some (codeOf Try.prog Try.f4) := by kernel_rfl
theorem F4_res : resolveRes Try.prog Try.f4.results.toList = some [.tmp 6] := by kernel_rfl
def sheavelaw51_SpoolPut_p (F : Hs Un.D [.nm 0, .int .i64, .str] → Option (Hs Un.D [.bool])) : FSpec Un := ⟨4, [.row 0, .c (.hole (.int .i64)), .c (.hole .str)], [], [.nm 0, .int .i64, .str], .c (.hole .bool), [], [.bool], F⟩
def sheavelaw51_SpoolPut_s : FSpec Un := sheavelaw51_SpoolPut_p sheavelaw51_SpoolPut
theorem sheavelaw51_SpoolPut_snd : FSnd Try.prog sheavelaw51_SpoolPut_s := FSnd.of fun h r hr => FAt.of_body (s := sheavelaw51_SpoolPut_s) (fo := foS [sheavelaw51_awake_s, sheavelaw51_small_s, spool_Put_s, sheaveref51_Put_s, sheaveref51_Same_s]) (lo := loL []) Try.func4 F4_ok F4_res (by kernel_rfl) (FoSnd.cons F10_b sheavelaw51_awake_snd (FoSnd.cons F11_b sheavelaw51_small_snd (FoSnd.cons F14_b spool_Put_snd (FoSnd.cons F15_b sheaveref51_Put_snd (FoSnd.cons F16_b sheaveref51_Same_snd FoSnd.nil))))) (LoOk.snd LoOk.nil) (Eq.trans (by kernel_rfl) hr)
def sheaveref51_check (x_ : Spool × Int × Int) : Option (Int) :=
  match x_ with
  | (s, v, n) =>
  sheaveref51_Valid s >>= fun r =>
  if (!(decide (r = 0))) = true then
    some 1
  else
    sheaveref51_version v >>= fun r_1 =>
    if (bif (!r_1) then true else decide (n < 0)) = true then
      some 7
    else
      some 0
theorem F37_b : hasBody Try.prog 37 = true := by kernel_rfl
theorem F37_ok : Try.f37.body.bind (Go.Proofs.Ytkdepbmeaiefeaa.Shv.resolve Try.prog Try.f37.ntmps) = some (codeOf Try.prog Try.f37) := by kernel_rfl
theorem F37_res : resolveRes Try.prog Try.f37.results.toList = some [.tmp 6] := by kernel_rfl
def sheaveref51_check_p (F : Hs Un.D [.nm 0, .int .i64, .int .i64] → Option (Hs Un.D [.int .i64])) : FSpec Un := ⟨37, [.row 0, .c (.hole (.int .i64)), .c (.hole (.int .i64))], [], [.nm 0, .int .i64, .int .i64], .c (.hole (.int .i64)), [], [.int .i64], F⟩
def sheaveref51_check_s : FSpec Un := sheaveref51_check_p sheaveref51_check
theorem sheaveref51_check_snd : FSnd Try.prog sheaveref51_check_s := FSnd.of fun h r hr => FAt.of_body (s := sheaveref51_check_s) (fo := foS [sheaveref51_Valid_s, sheaveref51_version_s]) (lo := loL []) Try.func37 F37_ok F37_res (by kernel_rfl) (FoSnd.cons F13_b sheaveref51_Valid_snd (FoSnd.cons F31_b sheaveref51_version_snd FoSnd.nil)) (LoOk.snd LoOk.nil) (Eq.trans (by kernel_rfl) hr)
end Go.Proofs.Ytkdepbmeaiefeaa
