/- Written by program: the functions of the program as functions of Lean, and that the program's code does what they say. -/
import Derived.Test.YtkdepbmeaiefeaaSpoP3
namespace Go.Proofs.Ytkdepbmeaiefeaa
open Go Go.Proofs.Ytkdepbmeaiefeaa.Shv
set_option maxRecDepth 100000
set_option linter.all false

def sheavelaw51_SpoolPortions (x_ : Sheaveref51Draft × Sheavelaw51Numbers × List Int) : Option (Bool) :=
  match x_ with
  | (d, x0, portions) =>
  sheaveref51_Of d >>= fun r =>
  sheavelaw51_awake () >>= fun r_3 =>
  if (bif bif (!r_3) then true else (!r.2) then true else decide (40 < (portions.length : Int))) = true then
    sheavelaw51_awake () >>= fun r_4 =>
    some r_4
  else
    some (wrp .i64 (remI (wrp .u64 x0.Version) 6)) >>= fun t41 =>
    spool_Rewrite (r.1, x0.Running, t41, 1000) >>= fun r_5 =>
    if room 1 ([] ++ portions).length = true then
      some ([] ++ portions) >>= fun l =>
      if room 1 (l ++ [100]).length = true then
        some (l ++ [100]) >>= fun l_1 =>
        sheavelaw51_SpoolPortions_l0 (t41, x0.Running, r_5.2.1, r_5.2.2, 0, (l_1.length : Int), 0, r.1, r_5.1, l_1) >>= fun o =>
        match o with
        | .inl o_1 =>
          some o_1
        | .inr o_2 =>
          some (bif decide (o_2.2.1 = 0) then decide (o_2.2.2.1 = o_2.1) else false) >>= fun t91 =>
          (if t91 = true then sheaveref51_Same (o_2.2.2.2.1, o_2.2.2.2.2) else some false) >>= fun r_9 =>
          some (bif t91 then r_9 else false)
      else none
    else none
def sheavelaw51_SpoolPortions_p (F : Hs Un.D [.nm 3, .nm 2, .slice (.int .u8)] → Option (Hs Un.D [.bool])) : FSpec Un := ⟨7, [.row 3, .row 2, .c (.hole (.slice (.int .u8)))], [], [.nm 3, .nm 2, .slice (.int .u8)], .c (.hole .bool), [], [.bool], F⟩
def sheavelaw51_SpoolPortions_s : FSpec Un := sheavelaw51_SpoolPortions_p sheavelaw51_SpoolPortions
theorem sheavelaw51_SpoolPortions_snd : FSnd Try.prog sheavelaw51_SpoolPortions_s := FSnd.of fun h r hr => FAt.of_body (s := sheavelaw51_SpoolPortions_s) (fo := foS [sheaveref51_Of_s, sheavelaw51_awake_s, spool_Rewrite_s, sheaveref51_Same_s]) (lo := loL [(0, sheavelaw51_SpoolPortions_l0_s)]) Try.func7 F7_ok F7_res (by kernel_rfl) (FoSnd.cons F21_b sheaveref51_Of_snd (FoSnd.cons F10_b sheavelaw51_awake_snd (FoSnd.cons F17_b spool_Rewrite_snd (FoSnd.cons F16_b sheaveref51_Same_snd FoSnd.nil)))) (LoOk.snd (LoOk.cons sheavelaw51_SpoolPortions_l0_snd LoOk.nil)) (Eq.trans (by kernel_rfl) hr)
def spool_Begin (s : Spool) : Option (Spool) :=
  spool_Valid s >>= fun r =>
  if (!(decide (r = 0))) = true then
    some (⟨[], 0, 0⟩ : Spool)
  else
    cloneF 32 s.Items >>= fun r_1 =>
    some (⟨r_1, s.Next, 0⟩ : Spool)
theorem F23_b : hasBody Try.prog 23 = true := by kernel_rfl
theorem F23_ok : Try.f23.body.bind (Go.Proofs.Ytkdepbmeaiefeaa.Shv.resolve Try.prog Try.f23.ntmps) = some (codeOf Try.prog Try.f23) := by kernel_rfl
theorem F23_res : resolveRes Try.prog Try.f23.results.toList = some [.cell 2 true 3] := by kernel_rfl
def spool_Begin_p (F : Hs Un.D [.nm 0] → Option (Hs Un.D [.nm 0])) : FSpec Un := ⟨23, [.row 0], [], [.nm 0], .row 0, [], [.nm 0], F⟩
def spool_Begin_s : FSpec Un := spool_Begin_p spool_Begin
theorem spool_Begin_snd : FSnd Try.prog spool_Begin_s := FSnd.of fun h r hr => FAt.of_body (s := spool_Begin_s) (fo := foS [spool_Valid_s, slices_Clone_32_s]) (lo := loL []) Try.func23 F23_ok F23_res (by kernel_rfl) (FoSnd.cons F12_b spool_Valid_snd (FoSnd.cons F32_b slices_Clone_32_snd FoSnd.nil)) (LoOk.snd LoOk.nil) (Eq.trans (by kernel_rfl) hr)
def sheavelaw51_SpoolDone (x_ : Sheaveref51Draft × Int × Int) : Option (Bool) :=
  match x_ with
  | (d, running, v) =>
  sheaveref51_Of d >>= fun r =>
  sheavelaw51_awake () >>= fun r_3 =>
  if (bif (!r_3) then true else (!r.2)) = true then
    sheavelaw51_awake () >>= fun r_4 =>
    some r_4
  else
    some (wrp .i64 (remI v 6)) >>= fun t28 =>
    if decide (0 ≤ t28) = true then
      some (orI .u8 running (shlI .u8 1 t28)) >>= fun t32 =>
      spool_Begin r.1 >>= fun r_5 =>
      spool_Rewrite (r_5, t32, t28, 1000) >>= fun r_6 =>
      some (decide (r_6.2.2 = 0)) >>= fun t43 =>
      (if t43 = true then spool_Rewritten (r_6.1, t32) else some false) >>= fun r_10 =>
      some (bif t43 then r_10 else false) >>= fun t48 =>
      (if t48 = true then spool_Held r_6.1 else some 0) >>= fun r_11 =>
      some (bif bif t48 then decide (andNotI .u8 r_11 t32 = 0) else false then decide ((r_6.1.Items.length : Int) = (r.1.Items.length : Int)) else false)
    else none
theorem F8_b : hasBody Try.prog 8 = true := by kernel_rfl
theorem F8_ok : Try.f8.body.bind (Go.Proofs.Ytkdepbmeaiefeaa.Shv.resolve Try.prog Try.f8.ntmps) = some (codeOf Try.prog Try.f8) := by kernel_rfl
theorem F8_res : resolveRes Try.prog Try.f8.results.toList = some [.tmp 6] := by kernel_rfl
def sheavelaw51_SpoolDone_p (F : Hs Un.D [.nm 3, .int .u8, .int .u8] → Option (Hs Un.D [.bool])) : FSpec Un := ⟨8, [.row 3, .c (.hole (.int .u8)), .c (.hole (.int .u8))], [], [.nm 3, .int .u8, .int .u8], .c (.hole .bool), [], [.bool], F⟩
def sheavelaw51_SpoolDone_s : FSpec Un := sheavelaw51_SpoolDone_p sheavelaw51_SpoolDone
theorem sheavelaw51_SpoolDone_snd : FSnd Try.prog sheavelaw51_SpoolDone_s := FSnd.of fun h r hr => FAt.of_body (s := sheavelaw51_SpoolDone_s) (fo := foS [sheaveref51_Of_s, sheavelaw51_awake_s, spool_Begin_s, spool_Rewrite_s, spool_Rewritten_s, spool_Held_s]) (lo := loL []) Try.func8 F8_ok F8_res (by kernel_rfl) (FoSnd.cons F21_b sheaveref51_Of_snd (FoSnd.cons F10_b sheavelaw51_awake_snd (FoSnd.cons F23_b spool_Begin_snd (FoSnd.cons F17_b spool_Rewrite_snd (FoSnd.cons F19_b spool_Rewritten_snd (FoSnd.cons F24_b spool_Held_snd FoSnd.nil)))))) (LoOk.snd LoOk.nil) (Eq.trans (by kernel_rfl) hr)
def spool_Get_1 (x_ : Item × Int) : Option (Bool × Int) :=
  match x_ with
  | (x0, b) =>
  some (decide (x0.ID = b), b)
theorem F40_b : hasBody Try.prog 40 = true := by kernel_rfl
theorem F40_ok : Try.f40.body.bind (Go.Proofs.Ytkdepbmeaiefeaa.Shv.resolve Try.prog Try.f40.ntmps) = some (codeOf Try.prog Try.f40) := by kernel_rfl
theorem F40_res : resolveRes Try.prog Try.f40.results.toList = some [.tmp 3] := by kernel_rfl
def spool_Get_1_p (F : Hs Un.D [.nm 1, .int .i64] → Option (Hs Un.D [.bool, .int .i64])) : FSpec Un := ⟨40, [.row 1, .c (.ptr 0 0)], [.box [.hole (.int .i64)]], [.nm 1, .int .i64], .c (.hole .bool), [.box [.hole (.int .i64)]], [.bool, .int .i64], F⟩
def spool_Get_1_s : FSpec Un := spool_Get_1_p spool_Get_1
theorem spool_Get_1_snd : FSnd Try.prog spool_Get_1_s := FSnd.of fun h r hr => FAt.of_body (s := spool_Get_1_s) (fo := foS []) (lo := loL []) Try.func40 F40_ok F40_res (by kernel_rfl) FoSnd.nil (LoOk.snd LoOk.nil) (Eq.trans (by kernel_rfl) hr)
def slices_IndexFuncapi_Item_api_Item_l0 (x_ : List Item × Int × Int × Int) : Option ((Int × Int) ⊕ (Int)) :=
  match x_ with
  | (s_1, t7_1, t8, b_3) =>
  if decide (t8 < t7_1) = true then
    if inR t8 s_1.length = true then
      spool_Get_1 (s_1.getD t8.toNat dItem, b_3) >>= fun r =>
      if r.1 = true then
        some (.inl (t8, r.2))
      else
        slices_IndexFuncapi_Item_api_Item_l0 (s_1, t7_1, addI .i64 t8 1, r.2)
    else none
  else
    some (.inr b_3)
  partial_fixpoint
theorem F39_b : hasBody Try.prog 39 = true := by kernel_rfl
theorem F39_ok : Try.f39.body.bind (Go.Proofs.Ytkdepbmeaiefeaa.Shv.resolve Try.prog Try.f39.ntmps) = some (codeOf Try.prog Try.f39) := by kernel_rfl
theorem F39_res : resolveRes Try.prog Try.f39.results.toList = some [.tmp 4] := by kernel_rfl
def slices_IndexFuncapi_Item_api_Item_l0_sh : Shape := ⟨[(0, .c (.hole (.slice (.nm 1)))), (1, .c (.fn 40 [0])), (7, .c (.hole (.int .i64))), (8, .c (.hole (.int .i64)))], [.box [.hole (.int .i64)]]⟩
def slices_IndexFuncapi_Item_api_Item_l0_ts : List Ty := [.slice (.nm 1), .int .i64, .int .i64, .int .i64]
def slices_IndexFuncapi_Item_api_Item_l0_outs : List OSpec := [⟨.ret, ⟨[(4, .c (.hole (.int .i64)))], [.box [.hole (.int .i64)]]⟩, [], [.int .i64, .int .i64]⟩, ⟨.exit 0, ⟨[], [.box [.hole (.int .i64)]]⟩, [], [.int .i64]⟩]
def slices_IndexFuncapi_Item_api_Item_l0_p (F : Hs Un.D slices_IndexFuncapi_Item_api_Item_l0_ts → Option (OSum Un slices_IndexFuncapi_Item_api_Item_l0_outs)) : LSpec Un := ⟨slices_IndexFuncapi_Item_api_Item_l0_sh, [], slices_IndexFuncapi_Item_api_Item_l0_ts, slices_IndexFuncapi_Item_api_Item_l0_outs, F⟩
def slices_IndexFuncapi_Item_api_Item_l0_s : LSpec Un := slices_IndexFuncapi_Item_api_Item_l0_p slices_IndexFuncapi_Item_api_Item_l0
theorem slices_IndexFuncapi_Item_api_Item_l0_snd : LSnd Try.prog Try.f39.ntmps 1 (loopOf (codeOf Try.prog Try.f39) 0) slices_IndexFuncapi_Item_api_Item_l0_s := fun h o ho => slices_IndexFuncapi_Item_api_Item_l0.partial_correctness (fun h o => LAt (U := Un) Try.prog Try.f39.ntmps 1 (loopOf (codeOf Try.prog Try.f39) 0) slices_IndexFuncapi_Item_api_Item_l0_sh slices_IndexFuncapi_Item_api_Item_l0_ts slices_IndexFuncapi_Item_api_Item_l0_outs h o) (fun F1 HF1 h o ho => LAt.of_round (fo := foS [spool_Get_1_s]) (lo := loL []) (own := []) (F' := F1) (FoSnd.cons F40_b spool_Get_1_snd FoSnd.nil) (LoOk.snd LoOk.nil) HF1 (Eq.trans (by kernel_rfl) ho)) h o ho
def slices_IndexFuncapi_Item_api_Item (x_ : List Item × Int) : Option (Int × Int) :=
  match x_ with
  | (s, b) =>
  slices_IndexFuncapi_Item_api_Item_l0 (s, (s.length : Int), 0, b) >>= fun o =>
  match o with
  | .inl o_1 =>
    some (o_1.1, o_1.2)
  | .inr o_2 =>
    some ((-1), o_2)
def slices_IndexFuncapi_Item_api_Item_p (F : Hs Un.D [.slice (.nm 1), .int .i64] → Option (Hs Un.D [.int .i64, .int .i64])) : FSpec Un := ⟨39, [.c (.hole (.slice (.nm 1))), .c (.fn 40 [0])], [.box [.hole (.int .i64)]], [.slice (.nm 1), .int .i64], .c (.hole (.int .i64)), [.box [.hole (.int .i64)]], [.int .i64, .int .i64], F⟩
def slices_IndexFuncapi_Item_api_Item_s : FSpec Un := slices_IndexFuncapi_Item_api_Item_p slices_IndexFuncapi_Item_api_Item
theorem slices_IndexFuncapi_Item_api_Item_snd : FSnd Try.prog slices_IndexFuncapi_Item_api_Item_s := FSnd.of fun h r hr => FAt.of_body (s := slices_IndexFuncapi_Item_api_Item_s) (fo := foS []) (lo := loL [(0, slices_IndexFuncapi_Item_api_Item_l0_s)]) Try.func39 F39_ok F39_res (by kernel_rfl) FoSnd.nil (LoOk.snd (LoOk.cons slices_IndexFuncapi_Item_api_Item_l0_snd LoOk.nil)) (Eq.trans (by kernel_rfl) hr)
def spool_Get (x_ : Spool × Int) : Option (Item × Int) :=
  match x_ with
  | (s, id) =>
  spool_Valid (⟨s.Items, s.Next, s.Cursor⟩ : Spool) >>= fun r =>
  if (!(decide (r = 0))) = true then
    some ((⟨0, 0, []⟩ : Item), r)
  else
    slices_IndexFuncapi_Item_api_Item (s.Items, id) >>= fun r_1 =>
    if decide (r_1.1 < 0) = true then
      some ((⟨0, 0, []⟩ : Item), 4)
    else
      if inR r_1.1 s.Items.length = true then
        some (s.Items.getD r_1.1.toNat dItem, 0)
      else none
theorem F26_b : hasBody Try.prog 26 = true := by kernel_rfl
theorem F26_ok : Try.f26.body.bind (Go.Proofs.Ytkdepbmeaiefeaa.Shv.resolve Try.prog Try.f26.ntmps) = some (codeOf Try.prog Try.f26) := by kernel_rfl
theorem F26_res : resolveRes Try.prog Try.f26.results.toList = some [.cell 4 true 3, .tmp 5] := by kernel_rfl
def spool_Get_p (F : Hs Un.D [.nm 0, .int .i64] → Option (Hs Un.D [.nm 1, .int .i64])) : FSpec Un := ⟨26, [.row 0, .c (.hole (.int .i64))], [], [.nm 0, .int .i64], .tup [.row 1, .c (.hole (.int .i64))], [], [.nm 1, .int .i64], F⟩
def spool_Get_s : FSpec Un := spool_Get_p spool_Get
theorem spool_Get_snd : FSnd Try.prog spool_Get_s := FSnd.of fun h r hr => FAt.of_body (s := spool_Get_s) (fo := foS [spool_Valid_s, slices_IndexFuncapi_Item_api_Item_s]) (lo := loL []) Try.func26 F26_ok F26_res (by kernel_rfl) (FoSnd.cons F12_b spool_Valid_snd (FoSnd.cons F39_b slices_IndexFuncapi_Item_api_Item_snd FoSnd.nil)) (LoOk.snd LoOk.nil) (Eq.trans (by kernel_rfl) hr)
def sheaveref51_Get_l0 (x_ : Int × Int × Spool × Int × Int × List UInt8) : Option ((Int × Item) ⊕ (Int × Int × List UInt8)) :=
  match x_ with
  | (id_1, i, b_4, b_5, b_6, b_7) =>
  if decide (i < (b_4.Items.length : Int)) = true then
    if inR i b_4.Items.length = true then
      if decide ((b_4.Items.getD i.toNat dItem).ID = id_1) = true then
        if inR i b_4.Items.length = true then
          some (.inl (0, b_4.Items.getD i.toNat dItem))
        else none
      else
        sheaveref51_Get_l0 (id_1, addI .i64 i 1, b_4, b_5, b_6, b_7)
    else none
  else
    some (.inr (b_5, b_6, b_7))
  partial_fixpoint
theorem F27_b : hasBody Try.prog 27 = true := by kernel_rfl
theorem F27_ok : Try.f27.body.bind (Go.Proofs.Ytkdepbmeaiefeaa.Shv.resolve Try.prog Try.f27.ntmps) = some (codeOf Try.prog Try.f27) := by kernel_rfl
theorem F27_res : resolveRes Try.prog Try.f27.results.toList = some [.cell 4 true 3, .tmp 5] := by kernel_rfl
def sheaveref51_Get_l0_sh : Shape := ⟨[(1, .c (.hole (.int .i64))), (2, .c (.ptr 0 0)), (4, .c (.ptr 1 0)), (6, .c (.hole (.int .i64)))], [.brow 0, .box [.hole (.int .i64), .hole (.int .i64), .hole .str]]⟩
def sheaveref51_Get_l0_ts : List Ty := [.int .i64, .int .i64, .nm 0, .int .i64, .int .i64, .str]
def sheaveref51_Get_l0_outs : List OSpec := [⟨.ret, ⟨[(4, .c (.ptr 0 0)), (5, .c (.hole (.int .i64)))], [.brow 1]⟩, [], [.int .i64, .nm 1]⟩, ⟨.exit 0, ⟨[(4, .c (.ptr 0 0))], [.box [.hole (.int .i64), .hole (.int .i64), .hole .str]]⟩, [], [.int .i64, .int .i64, .str]⟩]
def sheaveref51_Get_l0_p (F : Hs Un.D sheaveref51_Get_l0_ts → Option (OSum Un sheaveref51_Get_l0_outs)) : LSpec Un := ⟨sheaveref51_Get_l0_sh, [], sheaveref51_Get_l0_ts, sheaveref51_Get_l0_outs, F⟩
def sheaveref51_Get_l0_s : LSpec Un := sheaveref51_Get_l0_p sheaveref51_Get_l0
theorem sheaveref51_Get_l0_snd : LSnd Try.prog Try.f27.ntmps 0 (loopOf (codeOf Try.prog Try.f27) 0) sheaveref51_Get_l0_s := fun h o ho => sheaveref51_Get_l0.partial_correctness (fun h o => LAt (U := Un) Try.prog Try.f27.ntmps 0 (loopOf (codeOf Try.prog Try.f27) 0) sheaveref51_Get_l0_sh sheaveref51_Get_l0_ts sheaveref51_Get_l0_outs h o) (fun F1 HF1 h o ho => LAt.of_round (fo := foS []) (lo := loL []) (own := []) (F' := F1) FoSnd.nil (LoOk.snd LoOk.nil) HF1 (Eq.trans (by kernel_rfl) ho)) h o ho
def sheaveref51_Get (x_ : Spool × Int) : Option (Item × Int) :=
  match x_ with
  | (s, id) =>
  sheaveref51_Valid s >>= fun r =>
  if (!(decide (r = 0))) = true then
    some ((⟨0, 0, []⟩ : Item), 1)
  else
    sheaveref51_Get_l0 (id, 0, s, 0, 0, []) >>= fun o =>
    match o with
    | .inl o_1 =>
      some (o_1.2, o_1.1)
    | .inr o_2 =>
      some ((⟨0, 0, []⟩ : Item), 4)
def sheaveref51_Get_p (F : Hs Un.D [.nm 0, .int .i64] → Option (Hs Un.D [.nm 1, .int .i64])) : FSpec Un := ⟨27, [.row 0, .c (.hole (.int .i64))], [], [.nm 0, .int .i64], .tup [.row 1, .c (.hole (.int .i64))], [], [.nm 1, .int .i64], F⟩
def sheaveref51_Get_s : FSpec Un := sheaveref51_Get_p sheaveref51_Get
theorem sheaveref51_Get_snd : FSnd Try.prog sheaveref51_Get_s := FSnd.of fun h r hr => FAt.of_body (s := sheaveref51_Get_s) (fo := foS [sheaveref51_Valid_s]) (lo := loL [(0, sheaveref51_Get_l0_s)]) Try.func27 F27_ok F27_res (by kernel_rfl) (FoSnd.cons F13_b sheaveref51_Valid_snd FoSnd.nil) (LoOk.snd (LoOk.cons sheaveref51_Get_l0_snd LoOk.nil)) (Eq.trans (by kernel_rfl) hr)
def sheaveref51_Held_l0 (x_ : Int × Int × Spool) : Option (Int) :=
  match x_ with
  | (out_1, i, b) =>
  if decide (i < (b.Items.length : Int)) = true then
    if inR i b.Items.length = true then
      some (b.Items.getD i.toNat dItem) >>= fun x0 =>
      if decide (0 ≤ x0.Version) = true then
        sheaveref51_Held_l0 (orI .u8 out_1 (shlI .u8 1 x0.Version), addI .i64 i 1, b)
      else none
    else none
  else
    some out_1
  partial_fixpoint
theorem F28_b : hasBody Try.prog 28 = true := by kernel_rfl
theorem F28_ok : Try.f28.body.bind (Go.Proofs.Ytkdepbmeaiefeaa.Shv.resolve Try.prog Try.f28.ntmps) = some (codeOf Try.prog Try.f28) := by kernel_rfl
theorem F28_res : resolveRes Try.prog Try.f28.results.toList = some [.tmp 2] := by kernel_rfl
def sheaveref51_Held_l0_sh : Shape := ⟨[(1, .c (.ptr 0 0)), (3, .c (.hole (.int .u8))), (4, .c (.hole (.int .i64)))], [.brow 0]⟩
def sheaveref51_Held_l0_ts : List Ty := [.int .u8, .int .i64, .nm 0]
def sheaveref51_Held_l0_outs : List OSpec := [⟨.exit 0, ⟨[(3, .c (.hole (.int .u8)))], []⟩, [], [.int .u8]⟩]
def sheaveref51_Held_l0_p (F : Hs Un.D sheaveref51_Held_l0_ts → Option (OSum Un sheaveref51_Held_l0_outs)) : LSpec Un := ⟨sheaveref51_Held_l0_sh, [], sheaveref51_Held_l0_ts, sheaveref51_Held_l0_outs, F⟩
def sheaveref51_Held_l0_s : LSpec Un := sheaveref51_Held_l0_p sheaveref51_Held_l0
theorem sheaveref51_Held_l0_snd : LSnd Try.prog Try.f28.ntmps 0 (loopOf (codeOf Try.prog Try.f28) 0) sheaveref51_Held_l0_s := fun h o ho => sheaveref51_Held_l0.partial_correctness (fun h o => LAt (U := Un) Try.prog Try.f28.ntmps 0 (loopOf (codeOf Try.prog Try.f28) 0) sheaveref51_Held_l0_sh sheaveref51_Held_l0_ts sheaveref51_Held_l0_outs h o) (fun F1 HF1 h o ho => LAt.of_round (fo := foS []) (lo := loL []) (own := []) (F' := F1) FoSnd.nil (LoOk.snd LoOk.nil) HF1 (Eq.trans (by kernel_rfl) ho)) h o ho
def sheaveref51_Held (s : Spool) : Option (Int) :=
  sheaveref51_Valid s >>= fun r =>
  if (!(decide (r = 0))) = true then
    some 0
  else
    sheaveref51_Held_l0 (0, 0, s) >>= fun o =>
    some o
def sheaveref51_Held_p (F : Hs Un.D [.nm 0] → Option (Hs Un.D [.int .u8])) : FSpec Un := ⟨28, [.row 0], [], [.nm 0], .c (.hole (.int .u8)), [], [.int .u8], F⟩
def sheaveref51_Held_s : FSpec Un := sheaveref51_Held_p sheaveref51_Held
theorem sheaveref51_Held_snd : FSnd Try.prog sheaveref51_Held_s := FSnd.of fun h r hr => FAt.of_body (s := sheaveref51_Held_s) (fo := foS [sheaveref51_Valid_s]) (lo := loL [(0, sheaveref51_Held_l0_s)]) Try.func28 F28_ok F28_res (by kernel_rfl) (FoSnd.cons F13_b sheaveref51_Valid_snd FoSnd.nil) (LoOk.snd (LoOk.cons sheaveref51_Held_l0_snd LoOk.nil)) (Eq.trans (by kernel_rfl) hr)
def sheaveref51_Begin (s : Spool) : Option (Spool) :=
  sheaveref51_Valid s >>= fun r =>
  if (!(decide (r = 0))) = true then
    some (⟨[], 0, 0⟩ : Spool)
  else
    sheaveref51_copied s >>= fun r_1 =>
    some (⟨r_1.2.2, r_1.1, 0⟩ : Spool)
theorem F29_b : hasBody Try.prog 29 = true := by kernel_rfl
theorem F29_ok : Try.f29.body.bind (Go.Proofs.Ytkdepbmeaiefeaa.Shv.resolve Try.prog Try.f29.ntmps) = some (codeOf Try.prog Try.f29) := by kernel_rfl
theorem F29_res : resolveRes Try.prog Try.f29.results.toList = some [.cell 2 true 3] := by kernel_rfl
def sheaveref51_Begin_p (F : Hs Un.D [.nm 0] → Option (Hs Un.D [.nm 0])) : FSpec Un := ⟨29, [.row 0], [], [.nm 0], .row 0, [], [.nm 0], F⟩
def sheaveref51_Begin_s : FSpec Un := sheaveref51_Begin_p sheaveref51_Begin
theorem sheaveref51_Begin_snd : FSnd Try.prog sheaveref51_Begin_s := FSnd.of fun h r hr => FAt.of_body (s := sheaveref51_Begin_s) (fo := foS [sheaveref51_Valid_s, sheaveref51_copied_s]) (lo := loL []) Try.func29 F29_ok F29_res (by kernel_rfl) (FoSnd.cons F13_b sheaveref51_Valid_snd (FoSnd.cons F33_b sheaveref51_copied_snd FoSnd.nil)) (LoOk.snd LoOk.nil) (Eq.trans (by kernel_rfl) hr)
def sheavelaw51_SpoolTake (x_ : Spool × Int) : Option (Bool) :=
  match x_ with
  | (s, id) =>
  sheavelaw51_awake () >>= fun r =>
  some (!r) >>= fun t16 =>
  (if (!t16) = true then sheavelaw51_small s else some false) >>= fun r_1 =>
  if (bif t16 then true else (!r_1)) = true then
    sheavelaw51_awake () >>= fun r_2 =>
    some r_2
  else
    spool_Take s >>= fun r_3 =>
    sheaveref51_Take s >>= fun r_7 =>
    spool_Get (s, id) >>= fun r_11 =>
    sheaveref51_Get (s, id) >>= fun r_14 =>
    some (bif decide (r_3.2.2 = r_7.2.2) then eqI r_3.2.1.ID r_7.2.1.ID && (eqI r_3.2.1.Version r_7.2.1.Version && (eqS r_3.2.1.Data r_7.2.1.Data && true)) else false) >>= fun t54 =>
    (if t54 = true then sheaveref51_Same (r_3.1, r_7.1) else some false) >>= fun r_17 =>
    some (bif bif bif t54 then r_17 else false then decide (r_11.2 = r_14.2) else false then eqI r_11.1.ID r_14.1.ID && (eqI r_11.1.Version r_14.1.Version && (eqS r_11.1.Data r_14.1.Data && true)) else false) >>= fun t69 =>
    (if t69 = true then spool_Held s else some 0) >>= fun r_18 =>
    (if t69 = true then sheaveref51_Held s else some 0) >>= fun r_19 =>
    some (bif t69 then decide (r_18 = r_19) else false) >>= fun t76 =>
    (if t76 = true then spool_Begin s else some dSpool) >>= fun r_20 =>
    (if t76 = true then sheaveref51_Begin s else some dSpool) >>= fun r_21 =>
    (if t76 = true then sheaveref51_Same (r_20, r_21) else some false) >>= fun r_22 =>
    some (bif t76 then r_22 else false)
theorem F9_b : hasBody Try.prog 9 = true := by kernel_rfl
theorem F9_ok : Try.f9.body.bind (Go.Proofs.Ytkdepbmeaiefeaa.Shv.resolve Try.prog Try.f9.ntmps) = some (codeOf Try.prog Try.f9) := by kernel_rfl
theorem F9_res : resolveRes Try.prog Try.f9.results.toList = some [.tmp 4] := by kernel_rfl
def sheavelaw51_SpoolTake_p (F : Hs Un.D [.nm 0, .int .i64] → Option (Hs Un.D [.bool])) : FSpec Un := ⟨9, [.row 0, .c (.hole (.int .i64))], [], [.nm 0, .int .i64], .c (.hole .bool), [], [.bool], F⟩
def sheavelaw51_SpoolTake_s : FSpec Un := sheavelaw51_SpoolTake_p sheavelaw51_SpoolTake
theorem sheavelaw51_SpoolTake_snd : FSnd Try.prog sheavelaw51_SpoolTake_s := FSnd.of fun h r hr => FAt.of_body (s := sheavelaw51_SpoolTake_s) (fo := foS [sheavelaw51_awake_s, sheavelaw51_small_s, spool_Take_s, sheaveref51_Take_s, spool_Get_s, sheaveref51_Get_s, sheaveref51_Same_s, spool_Held_s, sheaveref51_Held_s, spool_Begin_s, sheaveref51_Begin_s]) (lo := loL []) Try.func9 F9_ok F9_res (by kernel_rfl) (FoSnd.cons F10_b sheavelaw51_awake_snd (FoSnd.cons F11_b sheavelaw51_small_snd (FoSnd.cons F22_b spool_Take_snd (FoSnd.cons F25_b sheaveref51_Take_snd (FoSnd.cons F26_b spool_Get_snd (FoSnd.cons F27_b sheaveref51_Get_snd (FoSnd.cons F16_b sheaveref51_Same_snd (FoSnd.cons F24_b spool_Held_snd (FoSnd.cons F28_b sheaveref51_Held_snd (FoSnd.cons F23_b spool_Begin_snd (FoSnd.cons F29_b sheaveref51_Begin_snd FoSnd.nil))))))))))) (LoOk.snd LoOk.nil) (Eq.trans (by kernel_rfl) hr)
end Go.Proofs.Ytkdepbmeaiefeaa
