/- Written by program: the functions of the program as functions of Lean, and that the program's code does what they say. -/
import Derived.Test.YtkdepbmeaiefeaaSpoU
namespace Go.Proofs.Ytkdepbmeaiefeaa
open Go Go.Proofs.Ytkdepbmeaiefeaa.Shv
set_option maxRecDepth 100000
set_option linter.all false

theorem F32_b : hasBody Try.prog 32 = true := by kernel_rfl
def slices_Clone_32_s : FSpec Un := cloneS Un 32 (.nm 1) 32
theorem slices_Clone_32_snd : FSnd Try.prog slices_Clone_32_s := clone_snd (sz := 3) (bytes := 32) (z := [.t (.int .i64 0), .t (.int .i64 0), .t (.str [])]) Try.func32 (by kernel_rfl) (by kernel_rfl) (by kernel_rfl) rfl rfl
def spool_known (v : Int) : Option (Bool) :=
  some (bif decide (0 ≤ v) then decide (v < 6) else false)
theorem F30_b : hasBody Try.prog 30 = true := by kernel_rfl
theorem F30_ok : Try.f30.body.bind (Go.Proofs.Ytkdepbmeaiefeaa.Shv.resolve Try.prog Try.f30.ntmps) = some (codeOf Try.prog Try.f30) := by kernel_rfl
theorem F30_res : resolveRes Try.prog Try.f30.results.toList = some [.tmp 2] := by kernel_rfl
def spool_known_p (F : Hs Un.D [.int .i64] → Option (Hs Un.D [.bool])) : FSpec Un := ⟨30, [.c (.hole (.int .i64))], [], [.int .i64], .c (.hole .bool), [], [.bool], F⟩
def spool_known_s : FSpec Un := spool_known_p spool_known
theorem spool_known_snd : FSnd Try.prog spool_known_s := FSnd.of fun h r hr => FAt.of_body (s := spool_known_s) (fo := foS []) (lo := loL []) Try.func30 F30_ok F30_res (by kernel_rfl) FoSnd.nil (LoOk.snd LoOk.nil) (Eq.trans (by kernel_rfl) hr)
def spool_Valid_l0 (x_ : Bool × List Item × Int × Int × Spool) : Option (Bool) :=
  match x_ with
  | (ok_1, t34, t35_1, t36, b) =>
  if decide (t36 < t35_1) = true then
    if inR t36 t34.length = true then
      some (t34.getD t36.toNat dItem) >>= fun x0 =>
      some (bif bif ok_1 then decide (1 ≤ x0.ID) else false then decide (x0.ID < b.Next) else false) >>= fun t53 =>
      (if t53 = true then spool_known x0.Version else some false) >>= fun r =>
      some (bif bif t53 then r else false then decide ((x0.Data.length : Int) ≤ 4096) else false) >>= fun t64 =>
      some (decide (t36 = 0)) >>= fun t67 =>
      some (subI .i64 t36 1) >>= fun t74 =>
      if (inR t74 b.Items.length || (!(t64 && (!t67)))) = true then
        spool_Valid_l0 (bif t64 then bif t67 then true else decide ((b.Items.getD t74.toNat dItem).ID < x0.ID) else false, t34, t35_1, addI .i64 t36 1, b)
      else none
    else none
  else
    some ok_1
  partial_fixpoint
theorem F12_b : hasBody Try.prog 12 = true := by kernel_rfl
theorem F12_ok : Try.f12.body.bind (Go.Proofs.Ytkdepbmeaiefeaa.Shv.resolve Try.prog Try.f12.ntmps) = some (codeOf Try.prog Try.f12) := by kernel_rfl
theorem F12_res : resolveRes Try.prog Try.f12.results.toList = some [.tmp 2] := by kernel_rfl
def spool_Valid_l0_sh : Shape := ⟨[(1, .c (.ptr 0 0)), (3, .c (.hole .bool)), (34, .c (.hole (.slice (.nm 1)))), (35, .c (.hole (.int .i64))), (36, .c (.hole (.int .i64)))], [.brow 0]⟩
def spool_Valid_l0_ts : List Ty := [.bool, .slice (.nm 1), .int .i64, .int .i64, .nm 0]
def spool_Valid_l0_outs : List OSpec := [⟨.exit 0, ⟨[(3, .c (.hole .bool))], []⟩, [], [.bool]⟩]
def spool_Valid_l0_p (F : Hs Un.D spool_Valid_l0_ts → Option (OSum Un spool_Valid_l0_outs)) : LSpec Un := ⟨spool_Valid_l0_sh, [], spool_Valid_l0_ts, spool_Valid_l0_outs, F⟩
def spool_Valid_l0_s : LSpec Un := spool_Valid_l0_p spool_Valid_l0
theorem spool_Valid_l0_snd : LSnd Try.prog Try.f12.ntmps 0 (loopOf (codeOf Try.prog Try.f12) 0) spool_Valid_l0_s := fun h o ho => spool_Valid_l0.partial_correctness (fun h o => LAt (U := Un) Try.prog Try.f12.ntmps 0 (loopOf (codeOf Try.prog Try.f12) 0) spool_Valid_l0_sh spool_Valid_l0_ts spool_Valid_l0_outs h o) (fun F1 HF1 h o ho => LAt.of_round (fo := foS [spool_known_s]) (lo := loL []) (own := []) (F' := F1) (FoSnd.cons F30_b spool_known_snd FoSnd.nil) (LoOk.snd LoOk.nil) HF1 (Eq.trans (by kernel_rfl) ho)) h o ho
def spool_Valid (s : Spool) : Option (Int) :=
  spool_Valid_l0 (bif bif bif bif decide ((s.Items.length : Int) ≤ 1000) then decide (1 ≤ s.Next) else false then decide (s.Next ≤ 4611686018427387904) else false then decide (0 ≤ s.Cursor) else false then decide (s.Cursor ≤ (s.Items.length : Int)) else false, s.Items, (s.Items.length : Int), 0, s) >>= fun o =>
  if (!o) = true then
    some 1
  else
    some 0
def spool_Valid_p (F : Hs Un.D [.nm 0] → Option (Hs Un.D [.int .i64])) : FSpec Un := ⟨12, [.row 0], [], [.nm 0], .c (.hole (.int .i64)), [], [.int .i64], F⟩
def spool_Valid_s : FSpec Un := spool_Valid_p spool_Valid
theorem spool_Valid_snd : FSnd Try.prog spool_Valid_s := FSnd.of fun h r hr => FAt.of_body (s := spool_Valid_s) (fo := foS []) (lo := loL [(0, spool_Valid_l0_s)]) Try.func12 F12_ok F12_res (by kernel_rfl) FoSnd.nil (LoOk.snd (LoOk.cons spool_Valid_l0_snd LoOk.nil)) (Eq.trans (by kernel_rfl) hr)
def spool_Put (x_ : Spool × Int × List UInt8) : Option (Spool × Int) :=
  match x_ with
  | (s, version, data) =>
  spool_Valid s >>= fun r =>
  if (!(decide (r = 0))) = true then
    some ((⟨[], 0, 0⟩ : Spool), r)
  else
    spool_known version >>= fun r_1 =>
    if (!r_1) = true then
      some ((⟨[], 0, 0⟩ : Spool), 7)
    else
      if (bif bif decide (1000 ≤ (s.Items.length : Int)) then true else decide (4611686018427387904 ≤ s.Next) then true else decide (4096 < (data.length : Int))) = true then
        some ((⟨[], 0, 0⟩ : Spool), 3)
      else
        cloneF 32 s.Items >>= fun r_2 =>
        if room 32 (r_2 ++ [(⟨s.Next, version, data⟩ : Item)]).length = true then
          some ((⟨r_2 ++ [(⟨s.Next, version, data⟩ : Item)], addI .i64 s.Next 1, s.Cursor⟩ : Spool), 0)
        else none
theorem F14_b : hasBody Try.prog 14 = true := by kernel_rfl
theorem F14_ok : Try.f14.body.bind (Go.Proofs.Ytkdepbmeaiefeaa.Shv.resolve Try.prog Try.f14.ntmps) = some (codeOf Try.prog Try.f14) := by kernel_rfl
theorem F14_res : resolveRes Try.prog Try.f14.results.toList = some [.cell 6 true 3, .tmp 7] := by kernel_rfl
def spool_Put_p (F : Hs Un.D [.nm 0, .int .i64, .str] → Option (Hs Un.D [.nm 0, .int .i64])) : FSpec Un := ⟨14, [.row 0, .c (.hole (.int .i64)), .c (.hole .str)], [], [.nm 0, .int .i64, .str], .tup [.row 0, .c (.hole (.int .i64))], [], [.nm 0, .int .i64], F⟩
def spool_Put_s : FSpec Un := spool_Put_p spool_Put
theorem spool_Put_snd : FSnd Try.prog spool_Put_s := FSnd.of fun h r hr => FAt.of_body (s := spool_Put_s) (fo := foS [spool_Valid_s, spool_known_s, slices_Clone_32_s]) (lo := loL []) Try.func14 F14_ok F14_res (by kernel_rfl) (FoSnd.cons F12_b spool_Valid_snd (FoSnd.cons F30_b spool_known_snd (FoSnd.cons F32_b slices_Clone_32_snd FoSnd.nil))) (LoOk.snd LoOk.nil) (Eq.trans (by kernel_rfl) hr)
def spool_numbers (x_ : Spool × Int × Int) : Option (Int) :=
  match x_ with
  | (s, version, n) =>
  spool_Valid s >>= fun r =>
  if (!(decide (r = 0))) = true then
    some r
  else
    spool_known version >>= fun r_1 =>
    if (bif (!r_1) then true else decide (n < 0)) = true then
      some 7
    else
      some 0
theorem F34_b : hasBody Try.prog 34 = true := by kernel_rfl
theorem F34_ok : Try.f34.body.bind (Go.Proofs.Ytkdepbmeaiefeaa.Shv.resolve Try.prog Try.f34.ntmps) = some (codeOf Try.prog Try.f34) := by kernel_rfl
theorem F34_res : resolveRes Try.prog Try.f34.results.toList = some [.tmp 6] := by kernel_rfl
def spool_numbers_p (F : Hs Un.D [.nm 0, .int .i64, .int .i64] → Option (Hs Un.D [.int .i64])) : FSpec Un := ⟨34, [.row 0, .c (.hole (.int .i64)), .c (.hole (.int .i64))], [], [.nm 0, .int .i64, .int .i64], .c (.hole (.int .i64)), [], [.int .i64], F⟩
def spool_numbers_s : FSpec Un := spool_numbers_p spool_numbers
theorem spool_numbers_snd : FSnd Try.prog spool_numbers_s := FSnd.of fun h r hr => FAt.of_body (s := spool_numbers_s) (fo := foS [spool_Valid_s, spool_known_s]) (lo := loL []) Try.func34 F34_ok F34_res (by kernel_rfl) (FoSnd.cons F12_b spool_Valid_snd (FoSnd.cons F30_b spool_known_snd FoSnd.nil)) (LoOk.snd LoOk.nil) (Eq.trans (by kernel_rfl) hr)
def spool_runs (x_ : Int × Int) : Option (Bool) :=
  match x_ with
  | (running, version) =>
  if decide (0 ≤ version) = true then
    some (decide (andI .u8 (shrI .u8 running version) 1 = 1))
  else none
theorem F41_b : hasBody Try.prog 41 = true := by kernel_rfl
theorem F41_ok : Try.f41.body.bind (Go.Proofs.Ytkdepbmeaiefeaa.Shv.resolve Try.prog Try.f41.ntmps) = some (codeOf Try.prog Try.f41) := by kernel_rfl
theorem F41_res : resolveRes Try.prog Try.f41.results.toList = some [.tmp 4] := by kernel_rfl
def spool_runs_p (F : Hs Un.D [.int .u8, .int .i64] → Option (Hs Un.D [.bool])) : FSpec Un := ⟨41, [.c (.hole (.int .u8)), .c (.hole (.int .i64))], [], [.int .u8, .int .i64], .c (.hole .bool), [], [.bool], F⟩
def spool_runs_s : FSpec Un := spool_runs_p spool_runs
theorem spool_runs_snd : FSnd Try.prog spool_runs_s := FSnd.of fun h r hr => FAt.of_body (s := spool_runs_s) (fo := foS []) (lo := loL []) Try.func41 F41_ok F41_res (by kernel_rfl) FoSnd.nil (LoOk.snd LoOk.nil) (Eq.trans (by kernel_rfl) hr)
def spool_Rewrite_1 (x_ : Int × List Item × Int) : Option (Int × List Item × Int) :=
  match x_ with
  | (x0, b, b_1) =>
  if decide (x0.toNat < b.length) = true then
    some (0, b.set x0.toNat (⟨(b.getD x0.toNat dItem).ID, b_1, (b.getD x0.toNat dItem).Data⟩ : Item), b_1)
  else none
theorem F36_b : hasBody Try.prog 36 = true := by kernel_rfl
theorem F36_ok : Try.f36.body.bind (Go.Proofs.Ytkdepbmeaiefeaa.Shv.resolve Try.prog Try.f36.ntmps) = some (codeOf Try.prog Try.f36) := by kernel_rfl
theorem F36_res : resolveRes Try.prog Try.f36.results.toList = some [.tmp 3] := by kernel_rfl
def spool_Rewrite_1_p (F : Hs Un.D [.int .i64, .slice (.nm 1), .int .i64] → Option (Hs Un.D [.int .i64, .slice (.nm 1), .int .i64])) : FSpec Un := ⟨36, [.c (.eptr 0 (.nm 1) 0), .c (.ptr 1 0)], [.arr (.nm 1), .box [.hole (.int .i64)]], [.int .i64, .slice (.nm 1), .int .i64], .c (.hole (.int .i64)), [.arr (.nm 1), .box [.hole (.int .i64)]], [.int .i64, .slice (.nm 1), .int .i64], F⟩
def spool_Rewrite_1_s : FSpec Un := spool_Rewrite_1_p spool_Rewrite_1
theorem spool_Rewrite_1_snd : FSnd Try.prog spool_Rewrite_1_s := FSnd.of fun h r hr => FAt.of_body (s := spool_Rewrite_1_s) (fo := foS []) (lo := loL []) Try.func36 F36_ok F36_res (by kernel_rfl) FoSnd.nil (LoOk.snd LoOk.nil) (Eq.trans (by kernel_rfl) hr)
def spool_advance_l0 (x_ : Int × Int × Int × Int × Int × Int × List Item) : Option ((Int × Int × Int × Int × List Item) ⊕ (Int × Int × Int × Int × Int × List Item)) :=
  match x_ with
  | (running_1, n_1, done_1, b_12, b_13, b_14, b_15) =>
  if decide (b_13 < (b_15.length : Int)) = true then
    if inR b_13 b_15.length = true then
      if decide (b_13.toNat < b_15.length) = true then
        spool_runs (running_1, (b_15.getD b_13.toNat dItem).Version) >>= fun r =>
        if r = true then
          spool_advance_l0 (running_1, n_1, done_1, b_12, addI .i64 b_13 1, b_14, b_15)
        else
          if decide (done_1 = n_1) = true then
            some (.inl (done_1, b_12, b_13, b_14, b_15))
          else
            spool_Rewrite_1 ((b_13.toNat : Int), b_15, b_14) >>= fun r_1 =>
            if (decide (r_1.2.1.length = b_15.length) && true) = true then
              if (!(decide (r_1.1 = 0))) = true then
                some (.inr (done_1, r_1.1, b_12, b_13, r_1.2.2, r_1.2.1))
              else
                spool_advance_l0 (running_1, n_1, addI .i64 done_1 1, b_12, addI .i64 b_13 1, r_1.2.2, r_1.2.1)
            else none
      else none
    else none
  else
    some (.inl (done_1, b_12, b_13, b_14, b_15))
  partial_fixpoint
theorem F35_b : hasBody Try.prog 35 = true := by kernel_rfl
theorem F35_ok : Try.f35.body.bind (Go.Proofs.Ytkdepbmeaiefeaa.Shv.resolve Try.prog Try.f35.ntmps) = some (codeOf Try.prog Try.f35) := by kernel_rfl
theorem F35_res : resolveRes Try.prog Try.f35.results.toList = some [.tmp 8, .tmp 9] := by kernel_rfl
def spool_advance_l0_sh : Shape := ⟨[(0, .c (.ptr 0 0)), (1, .c (.hole (.int .u8))), (2, .c (.hole (.int .i64))), (3, .c (.fn 36 [1])), (10, .c (.hole (.int .i64)))], [.box [.arr 2, .hole (.int .i64), .hole (.int .i64)], .box [.hole (.int .i64)], .arr (.nm 1)]⟩
def spool_advance_l0_ts : List Ty := [.int .u8, .int .i64, .int .i64, .int .i64, .int .i64, .int .i64, .slice (.nm 1)]
def spool_advance_l0_outs : List OSpec := [⟨.exit 0, ⟨[(10, .c (.hole (.int .i64)))], [.box [.arr 2, .hole (.int .i64), .hole (.int .i64)], .box [.hole (.int .i64)], .arr (.nm 1)]⟩, [], [.int .i64, .int .i64, .int .i64, .int .i64, .slice (.nm 1)]⟩, ⟨.ret, ⟨[(8, .c (.hole (.int .i64))), (9, .c (.hole (.int .i64)))], [.box [.arr 2, .hole (.int .i64), .hole (.int .i64)], .box [.hole (.int .i64)], .arr (.nm 1)]⟩, [], [.int .i64, .int .i64, .int .i64, .int .i64, .int .i64, .slice (.nm 1)]⟩]
def spool_advance_l0_p (F : Hs Un.D spool_advance_l0_ts → Option (OSum Un spool_advance_l0_outs)) : LSpec Un := ⟨spool_advance_l0_sh, [], spool_advance_l0_ts, spool_advance_l0_outs, F⟩
def spool_advance_l0_s : LSpec Un := spool_advance_l0_p spool_advance_l0
theorem spool_advance_l0_snd : LSnd Try.prog Try.f35.ntmps 3 (loopOf (codeOf Try.prog Try.f35) 0) spool_advance_l0_s := fun h o ho => spool_advance_l0.partial_correctness (fun h o => LAt (U := Un) Try.prog Try.f35.ntmps 3 (loopOf (codeOf Try.prog Try.f35) 0) spool_advance_l0_sh spool_advance_l0_ts spool_advance_l0_outs h o) (fun F1 HF1 h o ho => LAt.of_round (fo := foS [spool_runs_s, spool_Rewrite_1_s]) (lo := loL []) (own := []) (F' := F1) (FoSnd.cons F41_b spool_runs_snd (FoSnd.cons F36_b spool_Rewrite_1_snd FoSnd.nil)) (LoOk.snd LoOk.nil) HF1 (Eq.trans (by kernel_rfl) ho)) h o ho
def spool_advance (x_ : Int × Int × Int × Int × Int × List Item) : Option (Int × Int × Int × Int × Int × List Item) :=
  match x_ with
  | (running, n, b, b_1, b_2, b_3) =>
  spool_advance_l0 (running, n, 0, b, b_1, b_2, b_3) >>= fun o =>
  match o with
  | .inl o_1 =>
    some (o_1.1, 0, o_1.2.1, o_1.2.2.1, o_1.2.2.2.1, o_1.2.2.2.2)
  | .inr o_2 =>
    some (o_2.1, o_2.2.1, o_2.2.2.1, o_2.2.2.2.1, o_2.2.2.2.2.1, o_2.2.2.2.2.2)
def spool_advance_p (F : Hs Un.D [.int .u8, .int .i64, .int .i64, .int .i64, .int .i64, .slice (.nm 1)] → Option (Hs Un.D [.int .i64, .int .i64, .int .i64, .int .i64, .int .i64, .slice (.nm 1)])) : FSpec Un := ⟨35, [.c (.ptr 0 0), .c (.hole (.int .u8)), .c (.hole (.int .i64)), .c (.fn 36 [1])], [.box [.arr 2, .hole (.int .i64), .hole (.int .i64)], .box [.hole (.int .i64)], .arr (.nm 1)], [.int .u8, .int .i64, .int .i64, .int .i64, .int .i64, .slice (.nm 1)], .tup [.c (.hole (.int .i64)), .c (.hole (.int .i64))], [.box [.arr 2, .hole (.int .i64), .hole (.int .i64)], .box [.hole (.int .i64)], .arr (.nm 1)], [.int .i64, .int .i64, .int .i64, .int .i64, .int .i64, .slice (.nm 1)], F⟩
def spool_advance_s : FSpec Un := spool_advance_p spool_advance
theorem spool_advance_snd : FSnd Try.prog spool_advance_s := FSnd.of fun h r hr => FAt.of_body (s := spool_advance_s) (fo := foS []) (lo := loL [(0, spool_advance_l0_s)]) Try.func35 F35_ok F35_res (by kernel_rfl) FoSnd.nil (LoOk.snd (LoOk.cons spool_advance_l0_snd LoOk.nil)) (Eq.trans (by kernel_rfl) hr)
def spool_Rewrite (x_ : Spool × Int × Int × Int) : Option (Spool × Int × Int) :=
  match x_ with
  | (s, running, version, n) =>
  spool_numbers (s, version, n) >>= fun r =>
  if (!(decide (r = 0))) = true then
    some ((⟨[], 0, 0⟩ : Spool), 0, r)
  else
    cloneF 32 s.Items >>= fun r_1 =>
    spool_advance (running, n, s.Next, s.Cursor, version, r_1) >>= fun r_2 =>
    if (decide (r_2.2.2.2.2.2.length = r_1.length) && true) = true then
      some ((⟨r_2.2.2.2.2.2, r_2.2.2.1, r_2.2.2.2.1⟩ : Spool), r_2.1, 0)
    else none
theorem F17_b : hasBody Try.prog 17 = true := by kernel_rfl
theorem F17_ok : Try.f17.body.bind (Go.Proofs.Ytkdepbmeaiefeaa.Shv.resolve Try.prog Try.f17.ntmps) = some (codeOf Try.prog Try.f17) := by kernel_rfl
theorem F17_res : resolveRes Try.prog Try.f17.results.toList = some [.cell 8 true 3, .tmp 9, .tmp 10] := by kernel_rfl
def spool_Rewrite_p (F : Hs Un.D [.nm 0, .int .u8, .int .i64, .int .i64] → Option (Hs Un.D [.nm 0, .int .i64, .int .i64])) : FSpec Un := ⟨17, [.row 0, .c (.hole (.int .u8)), .c (.hole (.int .i64)), .c (.hole (.int .i64))], [], [.nm 0, .int .u8, .int .i64, .int .i64], .tup [.row 0, .c (.hole (.int .i64)), .c (.hole (.int .i64))], [], [.nm 0, .int .i64, .int .i64], F⟩
def spool_Rewrite_s : FSpec Un := spool_Rewrite_p spool_Rewrite
theorem spool_Rewrite_snd : FSnd Try.prog spool_Rewrite_s := FSnd.of fun h r hr => FAt.of_body (s := spool_Rewrite_s) (fo := foS [spool_numbers_s, slices_Clone_32_s, spool_advance_s]) (lo := loL []) Try.func17 F17_ok F17_res (by kernel_rfl) (FoSnd.cons F34_b spool_numbers_snd (FoSnd.cons F32_b slices_Clone_32_snd (FoSnd.cons F35_b spool_advance_snd FoSnd.nil))) (LoOk.snd LoOk.nil) (Eq.trans (by kernel_rfl) hr)
def spool_Take (s : Spool) : Option (Spool × Item × Int) :=
  spool_Valid s >>= fun r =>
  if (!(decide (r = 0))) = true then
    some ((⟨[], 0, 0⟩ : Spool), (⟨0, 0, []⟩ : Item), r)
  else
    if decide ((s.Items.length : Int) = 0) = true then
      some ((⟨[], 0, 0⟩ : Spool), (⟨0, 0, []⟩ : Item), 10)
    else
      if inR 0 s.Items.length = true then
        some (s.Items.getD (0 : Int).toNat dItem) >>= fun x0 =>
        if slR 1 (s.Items.length : Int) s.Items.length = true then
          cloneF 32 (cutL s.Items 1 (s.Items.length : Int)) >>= fun r_1 =>
          if decide (0 < s.Cursor) = true then
            some ((⟨r_1, s.Next, subI .i64 s.Cursor 1⟩ : Spool), x0, 0)
          else
            some ((⟨r_1, s.Next, s.Cursor⟩ : Spool), x0, 0)
        else none
      else none
theorem F22_b : hasBody Try.prog 22 = true := by kernel_rfl
theorem F22_ok : Try.f22.body.bind (Go.Proofs.Ytkdepbmeaiefeaa.Shv.resolve Try.prog Try.f22.ntmps) = some (codeOf Try.prog Try.f22) := by kernel_rfl
theorem F22_res : resolveRes Try.prog Try.f22.results.toList = some [.cell 2 true 3, .cell 3 true 3, .tmp 4] := by kernel_rfl
def spool_Take_p (F : Hs Un.D [.nm 0] → Option (Hs Un.D [.nm 0, .nm 1, .int .i64])) : FSpec Un := ⟨22, [.row 0], [], [.nm 0], .tup [.row 0, .row 1, .c (.hole (.int .i64))], [], [.nm 0, .nm 1, .int .i64], F⟩
def spool_Take_s : FSpec Un := spool_Take_p spool_Take
theorem spool_Take_snd : FSnd Try.prog spool_Take_s := FSnd.of fun h r hr => FAt.of_body (s := spool_Take_s) (fo := foS [spool_Valid_s, slices_Clone_32_s]) (lo := loL []) Try.func22 F22_ok F22_res (by kernel_rfl) (FoSnd.cons F12_b spool_Valid_snd (FoSnd.cons F32_b slices_Clone_32_snd FoSnd.nil)) (LoOk.snd LoOk.nil) (Eq.trans (by kernel_rfl) hr)
def spool_Held_l0 (x_ : Int × List Item × Int × Int) : Option (Int) :=
  match x_ with
  | (out_1, t10, t11_1, t12) =>
  if decide (t12 < t11_1) = true then
    if inR t12 t10.length = true then
      some (t10.getD t12.toNat dItem) >>= fun x0 =>
      if decide (0 ≤ x0.Version) = true then
        spool_Held_l0 (orI .u8 out_1 (shlI .u8 1 x0.Version), t10, t11_1, addI .i64 t12 1)
      else none
    else none
  else
    some out_1
  partial_fixpoint
theorem F24_b : hasBody Try.prog 24 = true := by kernel_rfl
theorem F24_ok : Try.f24.body.bind (Go.Proofs.Ytkdepbmeaiefeaa.Shv.resolve Try.prog Try.f24.ntmps) = some (codeOf Try.prog Try.f24) := by kernel_rfl
theorem F24_res : resolveRes Try.prog Try.f24.results.toList = some [.tmp 2] := by kernel_rfl
def spool_Held_l0_sh : Shape := ⟨[(3, .c (.hole (.int .u8))), (10, .c (.hole (.slice (.nm 1)))), (11, .c (.hole (.int .i64))), (12, .c (.hole (.int .i64)))], []⟩
def spool_Held_l0_ts : List Ty := [.int .u8, .slice (.nm 1), .int .i64, .int .i64]
def spool_Held_l0_outs : List OSpec := [⟨.exit 0, ⟨[(3, .c (.hole (.int .u8)))], []⟩, [], [.int .u8]⟩]
def spool_Held_l0_p (F : Hs Un.D spool_Held_l0_ts → Option (OSum Un spool_Held_l0_outs)) : LSpec Un := ⟨spool_Held_l0_sh, [], spool_Held_l0_ts, spool_Held_l0_outs, F⟩
def spool_Held_l0_s : LSpec Un := spool_Held_l0_p spool_Held_l0
theorem spool_Held_l0_snd : LSnd Try.prog Try.f24.ntmps 0 (loopOf (codeOf Try.prog Try.f24) 0) spool_Held_l0_s := fun h o ho => spool_Held_l0.partial_correctness (fun h o => LAt (U := Un) Try.prog Try.f24.ntmps 0 (loopOf (codeOf Try.prog Try.f24) 0) spool_Held_l0_sh spool_Held_l0_ts spool_Held_l0_outs h o) (fun F1 HF1 h o ho => LAt.of_round (fo := foS []) (lo := loL []) (own := []) (F' := F1) FoSnd.nil (LoOk.snd LoOk.nil) HF1 (Eq.trans (by kernel_rfl) ho)) h o ho
def spool_Held (s : Spool) : Option (Int) :=
  spool_Valid s >>= fun r =>
  if (!(decide (r = 0))) = true then
    some 0
  else
    spool_Held_l0 (0, s.Items, (s.Items.length : Int), 0) >>= fun o =>
    some o
def spool_Held_p (F : Hs Un.D [.nm 0] → Option (Hs Un.D [.int .u8])) : FSpec Un := ⟨24, [.row 0], [], [.nm 0], .c (.hole (.int .u8)), [], [.int .u8], F⟩
def spool_Held_s : FSpec Un := spool_Held_p spool_Held
theorem spool_Held_snd : FSnd Try.prog spool_Held_s := FSnd.of fun h r hr => FAt.of_body (s := spool_Held_s) (fo := foS [spool_Valid_s]) (lo := loL [(0, spool_Held_l0_s)]) Try.func24 F24_ok F24_res (by kernel_rfl) (FoSnd.cons F12_b spool_Valid_snd FoSnd.nil) (LoOk.snd (LoOk.cons spool_Held_l0_snd LoOk.nil)) (Eq.trans (by kernel_rfl) hr)
def spool_Rewritten (x_ : Spool × Int) : Option (Bool) :=
  match x_ with
  | (s, running) =>
  spool_Valid s >>= fun r =>
  some (bif decide (r = 0) then decide (s.Cursor = (s.Items.length : Int)) else false) >>= fun t15 =>
  (if t15 = true then spool_Held s else some 0) >>= fun r_1 =>
  some (bif t15 then decide (andNotI .u8 r_1 running = 0) else false)
theorem F19_b : hasBody Try.prog 19 = true := by kernel_rfl
theorem F19_ok : Try.f19.body.bind (Go.Proofs.Ytkdepbmeaiefeaa.Shv.resolve Try.prog Try.f19.ntmps) = some (codeOf Try.prog Try.f19) := by kernel_rfl
theorem F19_res : resolveRes Try.prog Try.f19.results.toList = some [.tmp 4] := by kernel_rfl
def spool_Rewritten_p (F : Hs Un.D [.nm 0, .int .u8] → Option (Hs Un.D [.bool])) : FSpec Un := ⟨19, [.row 0, .c (.hole (.int .u8))], [], [.nm 0, .int .u8], .c (.hole .bool), [], [.bool], F⟩
def spool_Rewritten_s : FSpec Un := spool_Rewritten_p spool_Rewritten
theorem spool_Rewritten_snd : FSnd Try.prog spool_Rewritten_s := FSnd.of fun h r hr => FAt.of_body (s := spool_Rewritten_s) (fo := foS [spool_Valid_s, spool_Held_s]) (lo := loL []) Try.func19 F19_ok F19_res (by kernel_rfl) (FoSnd.cons F12_b spool_Valid_snd (FoSnd.cons F24_b spool_Held_snd FoSnd.nil)) (LoOk.snd LoOk.nil) (Eq.trans (by kernel_rfl) hr)
end Go.Proofs.Ytkdepbmeaiefeaa
