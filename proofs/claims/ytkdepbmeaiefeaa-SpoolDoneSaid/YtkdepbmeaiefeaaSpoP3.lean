/- Written by program: the functions of the program as functions of Lean, and that the program's code does what they say. -/
import Derived.Test.YtkdepbmeaiefeaaSpoP2
namespace Go.Proofs.Ytkdepbmeaiefeaa
open Go Go.Proofs.Ytkdepbmeaiefeaa.Shv
set_option maxRecDepth 100000
set_option linter.all false

def sheaveref51_runs (x_ : Int × Int) : Option (Bool) :=
  match x_ with
  | (running, v) =>
  if decide (0 ≤ v) = true then
    some (decide (andI .u8 (shrI .u8 running v) 1 = 1))
  else none
theorem F38_b : hasBody Try.prog 38 = true := by kernel_rfl
theorem F38_ok : Try.f38.body.bind (Go.Proofs.Ytkdepbmeaiefeaa.Shv.resolve Try.prog Try.f38.ntmps) = some (codeOf Try.prog Try.f38) := by kernel_rfl
theorem F38_res : resolveRes Try.prog Try.f38.results.toList = some [.tmp 4] := by kernel_rfl
def sheaveref51_runs_p (F : Hs Un.D [.int .u8, .int .i64] → Option (Hs Un.D [.bool])) : FSpec Un := ⟨38, [.c (.hole (.int .u8)), .c (.hole (.int .i64))], [], [.int .u8, .int .i64], .c (.hole .bool), [], [.bool], F⟩
def sheaveref51_runs_s : FSpec Un := sheaveref51_runs_p sheaveref51_runs
theorem sheaveref51_runs_snd : FSnd Try.prog sheaveref51_runs_s := FSnd.of fun h r hr => FAt.of_body (s := sheaveref51_runs_s) (fo := foS []) (lo := loL []) Try.func38 F38_ok F38_res (by kernel_rfl) FoSnd.nil (LoOk.snd LoOk.nil) (Eq.trans (by kernel_rfl) hr)
def sheaveref51_Rewrite_l0 (x_ : Int × Int × Int × Int × Int × Int × Int × Int × List Item) : Option (Int × Int × Int × Int × Int × List Item) :=
  match x_ with
  | (running_1, v_1, n_1, done_1, b_5, b_6, b_7, b_8, b_9) =>
  if decide (b_6 < (b_9.length : Int)) = true then
    if inR b_6 b_9.length = true then
      if decide (b_6.toNat < b_9.length) = true then
        sheaveref51_runs (running_1, (b_9.getD b_6.toNat dItem).Version) >>= fun r_5 =>
        if (!r_5) = true then
          if decide (done_1 = n_1) = true then
            some (done_1, b_5, b_6, b_7, b_8, b_9)
          else
            if inR b_6 b_9.length = true then
              if decide (b_6.toNat < b_9.length) = true then
                sheaveref51_Rewrite_l0 (running_1, v_1, n_1, addI .i64 done_1 1, b_5, addI .i64 b_6 1, b_7, b_8, b_9.set b_6.toNat (⟨(b_9.getD b_6.toNat dItem).ID, v_1, (b_9.getD b_6.toNat dItem).Data⟩ : Item))
              else none
            else none
        else
          sheaveref51_Rewrite_l0 (running_1, v_1, n_1, done_1, b_5, addI .i64 b_6 1, b_7, b_8, b_9)
      else none
    else none
  else
    some (done_1, b_5, b_6, b_7, b_8, b_9)
  partial_fixpoint
theorem F18_b : hasBody Try.prog 18 = true := by kernel_rfl
theorem F18_ok : Try.f18.body.bind (Go.Proofs.Ytkdepbmeaiefeaa.Shv.resolve Try.prog Try.f18.ntmps) = some (codeOf Try.prog Try.f18) := by kernel_rfl
theorem F18_res : resolveRes Try.prog Try.f18.results.toList = some [.cell 8 true 3, .tmp 9, .tmp 10] := by kernel_rfl
def sheaveref51_Rewrite_l0_sh : Shape := ⟨[(1, .c (.hole (.int .u8))), (2, .c (.hole (.int .i64))), (3, .c (.hole (.int .i64))), (4, .c (.ptr 0 0)), (8, .c (.ptr 1 0)), (12, .c (.hole (.int .i64)))], [.box [.arr 2, .hole (.int .i64), .hole (.int .i64)], .box [.cap0, .hole (.int .i64), .hole (.int .i64)], .arr (.nm 1)]⟩
def sheaveref51_Rewrite_l0_ts : List Ty := [.int .u8, .int .i64, .int .i64, .int .i64, .int .i64, .int .i64, .int .i64, .int .i64, .slice (.nm 1)]
def sheaveref51_Rewrite_l0_outs : List OSpec := [⟨.exit 0, ⟨[(4, .c (.ptr 0 0)), (8, .c (.ptr 1 0)), (12, .c (.hole (.int .i64)))], [.box [.arr 2, .hole (.int .i64), .hole (.int .i64)], .box [.cap0, .hole (.int .i64), .hole (.int .i64)], .arr (.nm 1)]⟩, [], [.int .i64, .int .i64, .int .i64, .int .i64, .int .i64, .slice (.nm 1)]⟩]
def sheaveref51_Rewrite_l0_p (F : Hs Un.D sheaveref51_Rewrite_l0_ts → Option (OSum Un sheaveref51_Rewrite_l0_outs)) : LSpec Un := ⟨sheaveref51_Rewrite_l0_sh, [], sheaveref51_Rewrite_l0_ts, sheaveref51_Rewrite_l0_outs, F⟩
def sheaveref51_Rewrite_l0_s : LSpec Un := sheaveref51_Rewrite_l0_p sheaveref51_Rewrite_l0
theorem sheaveref51_Rewrite_l0_snd : LSnd Try.prog Try.f18.ntmps 0 (loopOf (codeOf Try.prog Try.f18) 0) sheaveref51_Rewrite_l0_s := fun h o ho => sheaveref51_Rewrite_l0.partial_correctness (fun h o => LAt (U := Un) Try.prog Try.f18.ntmps 0 (loopOf (codeOf Try.prog Try.f18) 0) sheaveref51_Rewrite_l0_sh sheaveref51_Rewrite_l0_ts sheaveref51_Rewrite_l0_outs h o) (fun F1 HF1 h o ho => LAt.of_round (fo := foS [sheaveref51_runs_s]) (lo := loL []) (own := []) (F' := F1) (FoSnd.cons F38_b sheaveref51_runs_snd FoSnd.nil) (LoOk.snd LoOk.nil) HF1 (Eq.trans (by kernel_rfl) ho)) h o ho
def sheaveref51_Rewrite (x_ : Spool × Int × Int × Int) : Option (Spool × Int × Int) :=
  match x_ with
  | (s, running, v, n) =>
  sheaveref51_check (s, v, n) >>= fun r =>
  if (!(decide (r = 0))) = true then
    some ((⟨[], 0, 0⟩ : Spool), 0, r)
  else
    sheaveref51_copied s >>= fun r_1 =>
    sheaveref51_Rewrite_l0 (running, v, n, 0, r_1.1, r_1.2.1, 0, 0, r_1.2.2) >>= fun o =>
    some ((⟨o.2.2.2.2.2, o.2.1, o.2.2.1⟩ : Spool), o.1, 0)
def sheaveref51_Rewrite_p (F : Hs Un.D [.nm 0, .int .u8, .int .i64, .int .i64] → Option (Hs Un.D [.nm 0, .int .i64, .int .i64])) : FSpec Un := ⟨18, [.row 0, .c (.hole (.int .u8)), .c (.hole (.int .i64)), .c (.hole (.int .i64))], [], [.nm 0, .int .u8, .int .i64, .int .i64], .tup [.row 0, .c (.hole (.int .i64)), .c (.hole (.int .i64))], [], [.nm 0, .int .i64, .int .i64], F⟩
def sheaveref51_Rewrite_s : FSpec Un := sheaveref51_Rewrite_p sheaveref51_Rewrite
theorem sheaveref51_Rewrite_snd : FSnd Try.prog sheaveref51_Rewrite_s := FSnd.of fun h r hr => FAt.of_body (s := sheaveref51_Rewrite_s) (fo := foS [sheaveref51_check_s, sheaveref51_copied_s]) (lo := loL [(0, sheaveref51_Rewrite_l0_s)]) Try.func18 F18_ok F18_res (by kernel_rfl) (FoSnd.cons F37_b sheaveref51_check_snd (FoSnd.cons F33_b sheaveref51_copied_snd FoSnd.nil)) (LoOk.snd (LoOk.cons sheaveref51_Rewrite_l0_snd LoOk.nil)) (Eq.trans (by kernel_rfl) hr)
def sheaveref51_Rewritten_l0 (x_ : Int × Int × Spool) : Option ((Bool) ⊕ (Unit)) :=
  match x_ with
  | (running_1, i, b) =>
  if decide (i < (b.Items.length : Int)) = true then
    if inR i b.Items.length = true then
      sheaveref51_runs (running_1, (b.Items.getD i.toNat dItem).Version) >>= fun r_1 =>
      if (!r_1) = true then
        some (.inl false)
      else
        sheaveref51_Rewritten_l0 (running_1, addI .i64 i 1, b)
    else none
  else
    some (.inr ())
  partial_fixpoint
theorem F20_b : hasBody Try.prog 20 = true := by kernel_rfl
theorem F20_ok : Try.f20.body.bind (Go.Proofs.Ytkdepbmeaiefeaa.Shv.resolve Try.prog Try.f20.ntmps) = some (codeOf Try.prog Try.f20) := by kernel_rfl
theorem F20_res : resolveRes Try.prog Try.f20.results.toList = some [.tmp 4] := by kernel_rfl
def sheaveref51_Rewritten_l0_sh : Shape := ⟨[(1, .c (.hole (.int .u8))), (2, .c (.ptr 0 0)), (5, .c (.hole (.int .i64)))], [.brow 0]⟩
def sheaveref51_Rewritten_l0_ts : List Ty := [.int .u8, .int .i64, .nm 0]
def sheaveref51_Rewritten_l0_outs : List OSpec := [⟨.ret, ⟨[(4, .c (.hole .bool))], []⟩, [], [.bool]⟩, ⟨.exit 0, ⟨[], []⟩, [], []⟩]
def sheaveref51_Rewritten_l0_p (F : Hs Un.D sheaveref51_Rewritten_l0_ts → Option (OSum Un sheaveref51_Rewritten_l0_outs)) : LSpec Un := ⟨sheaveref51_Rewritten_l0_sh, [], sheaveref51_Rewritten_l0_ts, sheaveref51_Rewritten_l0_outs, F⟩
def sheaveref51_Rewritten_l0_s : LSpec Un := sheaveref51_Rewritten_l0_p sheaveref51_Rewritten_l0
theorem sheaveref51_Rewritten_l0_snd : LSnd Try.prog Try.f20.ntmps 0 (loopOf (codeOf Try.prog Try.f20) 0) sheaveref51_Rewritten_l0_s := fun h o ho => sheaveref51_Rewritten_l0.partial_correctness (fun h o => LAt (U := Un) Try.prog Try.f20.ntmps 0 (loopOf (codeOf Try.prog Try.f20) 0) sheaveref51_Rewritten_l0_sh sheaveref51_Rewritten_l0_ts sheaveref51_Rewritten_l0_outs h o) (fun F1 HF1 h o ho => LAt.of_round (fo := foS [sheaveref51_runs_s]) (lo := loL []) (own := []) (F' := F1) (FoSnd.cons F38_b sheaveref51_runs_snd FoSnd.nil) (LoOk.snd LoOk.nil) HF1 (Eq.trans (by kernel_rfl) ho)) h o ho
def sheaveref51_Rewritten (x_ : Spool × Int) : Option (Bool) :=
  match x_ with
  | (s, running) =>
  sheaveref51_Valid s >>= fun r =>
  if (bif (!(decide (r = 0))) then true else decide (s.Cursor < (s.Items.length : Int))) = true then
    some false
  else
    sheaveref51_Rewritten_l0 (running, 0, s) >>= fun o =>
    match o with
    | .inl o_1 =>
      some o_1
    | .inr o_2 =>
      some true
def sheaveref51_Rewritten_p (F : Hs Un.D [.nm 0, .int .u8] → Option (Hs Un.D [.bool])) : FSpec Un := ⟨20, [.row 0, .c (.hole (.int .u8))], [], [.nm 0, .int .u8], .c (.hole .bool), [], [.bool], F⟩
def sheaveref51_Rewritten_s : FSpec Un := sheaveref51_Rewritten_p sheaveref51_Rewritten
theorem sheaveref51_Rewritten_snd : FSnd Try.prog sheaveref51_Rewritten_s := FSnd.of fun h r hr => FAt.of_body (s := sheaveref51_Rewritten_s) (fo := foS [sheaveref51_Valid_s]) (lo := loL [(0, sheaveref51_Rewritten_l0_s)]) Try.func20 F20_ok F20_res (by kernel_rfl) (FoSnd.cons F13_b sheaveref51_Valid_snd FoSnd.nil) (LoOk.snd (LoOk.cons sheaveref51_Rewritten_l0_snd LoOk.nil)) (Eq.trans (by kernel_rfl) hr)
def sheavelaw51_SpoolRewrite (x_ : Spool × Sheavelaw51Numbers) : Option (Bool) :=
  match x_ with
  | (s, x0) =>
  sheavelaw51_awake () >>= fun r =>
  some (!r) >>= fun t13 =>
  (if (!t13) = true then sheavelaw51_small s else some false) >>= fun r_1 =>
  if (bif t13 then true else (!r_1)) = true then
    sheavelaw51_awake () >>= fun r_2 =>
    some r_2
  else
    spool_Rewrite (s, x0.Running, x0.Version, x0.N) >>= fun r_3 =>
    sheaveref51_Rewrite (s, x0.Running, x0.Version, x0.N) >>= fun r_7 =>
    some (bif decide (r_3.2.2 = r_7.2.2) then decide (r_3.2.1 = r_7.2.1) else false) >>= fun t51 =>
    (if t51 = true then sheaveref51_Same (r_3.1, r_7.1) else some false) >>= fun r_11 =>
    some (bif t51 then r_11 else false) >>= fun t56 =>
    (if t56 = true then spool_Rewritten (s, x0.Running) else some false) >>= fun r_12 =>
    (if t56 = true then sheaveref51_Rewritten (s, x0.Running) else some false) >>= fun r_13 =>
    some (bif t56 then eqB r_12 r_13 else false)
theorem F5_b : hasBody Try.prog 5 = true := by kernel_rfl
theorem F5_ok : Try.f5.body.bind (Go.Proofs.Ytkdepbmeaiefeaa.Shv.resolve Try.prog Try.f5.ntmps) = some (codeOf Try.prog Try.f5) := by kernel_rfl
theorem F5_res : resolveRes Try.prog Try.f5.results.toList = some [.tmp 4] := by kernel_rfl
def sheavelaw51_SpoolRewrite_p (F : Hs Un.D [.nm 0, .nm 2] → Option (Hs Un.D [.bool])) : FSpec Un := ⟨5, [.row 0, .row 2], [], [.nm 0, .nm 2], .c (.hole .bool), [], [.bool], F⟩
def sheavelaw51_SpoolRewrite_s : FSpec Un := sheavelaw51_SpoolRewrite_p sheavelaw51_SpoolRewrite
theorem sheavelaw51_SpoolRewrite_snd : FSnd Try.prog sheavelaw51_SpoolRewrite_s := FSnd.of fun h r hr => FAt.of_body (s := sheavelaw51_SpoolRewrite_s) (fo := foS [sheavelaw51_awake_s, sheavelaw51_small_s, spool_Rewrite_s, sheaveref51_Rewrite_s, sheaveref51_Same_s, spool_Rewritten_s, sheaveref51_Rewritten_s]) (lo := loL []) Try.func5 F5_ok F5_res (by kernel_rfl) (FoSnd.cons F10_b sheavelaw51_awake_snd (FoSnd.cons F11_b sheavelaw51_small_snd (FoSnd.cons F17_b spool_Rewrite_snd (FoSnd.cons F18_b sheaveref51_Rewrite_snd (FoSnd.cons F16_b sheaveref51_Same_snd (FoSnd.cons F19_b spool_Rewritten_snd (FoSnd.cons F20_b sheaveref51_Rewritten_snd FoSnd.nil))))))) (LoOk.snd LoOk.nil) (Eq.trans (by kernel_rfl) hr)
def sheaveref51_Take (s : Spool) : Option (Spool × Item × Int) :=
  sheaveref51_Valid s >>= fun r =>
  if (!(decide (r = 0))) = true then
    some ((⟨[], 0, 0⟩ : Spool), (⟨0, 0, []⟩ : Item), 1)
  else
    if decide ((s.Items.length : Int) = 0) = true then
      some ((⟨[], 0, 0⟩ : Spool), (⟨0, 0, []⟩ : Item), 10)
    else
      if inR 0 s.Items.length = true then
        sheaveref51_copied s >>= fun r_1 =>
        if slR 1 (r_1.2.2.length : Int) r_1.2.2.length = true then
          some ((⟨cutL r_1.2.2 1 (r_1.2.2.length : Int), r_1.1, maxI (subI .i64 r_1.2.1 1) 0⟩ : Spool), s.Items.getD (0 : Int).toNat dItem, 0)
        else none
      else none
theorem F25_b : hasBody Try.prog 25 = true := by kernel_rfl
theorem F25_ok : Try.f25.body.bind (Go.Proofs.Ytkdepbmeaiefeaa.Shv.resolve Try.prog Try.f25.ntmps) = some (codeOf Try.prog Try.f25) := by kernel_rfl
theorem F25_res : resolveRes Try.prog Try.f25.results.toList = some [.cell 2 true 3, .cell 3 true 3, .tmp 4] := by kernel_rfl
def sheaveref51_Take_p (F : Hs Un.D [.nm 0] → Option (Hs Un.D [.nm 0, .nm 1, .int .i64])) : FSpec Un := ⟨25, [.row 0], [], [.nm 0], .tup [.row 0, .row 1, .c (.hole (.int .i64))], [], [.nm 0, .nm 1, .int .i64], F⟩
def sheaveref51_Take_s : FSpec Un := sheaveref51_Take_p sheaveref51_Take
theorem sheaveref51_Take_snd : FSnd Try.prog sheaveref51_Take_s := FSnd.of fun h r hr => FAt.of_body (s := sheaveref51_Take_s) (fo := foS [sheaveref51_Valid_s, sheaveref51_copied_s]) (lo := loL []) Try.func25 F25_ok F25_res (by kernel_rfl) (FoSnd.cons F13_b sheaveref51_Valid_snd (FoSnd.cons F33_b sheaveref51_copied_snd FoSnd.nil)) (LoOk.snd LoOk.nil) (Eq.trans (by kernel_rfl) hr)
def sheaveref51_Of_l0 (x_ : Int × Sheaveref51Draft × Int × Int × List Item × Int × Int) : Option (Sheaveref51Draft × Int × Int × List Item × Int × Int) :=
  match x_ with
  | (i, b_12, b_13, b_14, b_15, b_16, b_17) =>
  if (bif decide (i < (b_12.Versions.length : Int)) then decide (i < 40) else false) = true then
    if inR i b_12.Versions.length = true then
      some (wrp .i64 (remI (b_12.Versions.getD i.toNat 0) 6)) >>= fun t26 =>
      sheaveref51_Put ((⟨b_15, b_16, b_17⟩ : Spool), t26, runeStr (wrp .i32 (addI .i64 97 t26))) >>= fun r =>
      sheaveref51_Of_l0 (addI .i64 i 1, b_12, b_13, b_14, r.1.Items, r.1.Next, r.1.Cursor)
    else none
  else
    some (b_12, b_13, b_14, b_15, b_16, b_17)
  partial_fixpoint
theorem F21_b : hasBody Try.prog 21 = true := by kernel_rfl
theorem F21_ok : Try.f21.body.bind (Go.Proofs.Ytkdepbmeaiefeaa.Shv.resolve Try.prog Try.f21.ntmps) = some (codeOf Try.prog Try.f21) := by kernel_rfl
theorem F21_res : resolveRes Try.prog Try.f21.results.toList = some [.cell 2 true 3, .tmp 3] := by kernel_rfl
def sheaveref51_Of_l0_sh : Shape := ⟨[(1, .c (.ptr 0 0)), (2, .c (.ptr 1 0)), (4, .c (.ptr 2 0)), (5, .c (.hole (.int .i64)))], [.brow 3, .box [.cap0, .hole (.int .i64), .hole (.int .i64)], .box [.hole (.slice (.nm 1)), .hole (.int .i64), .hole (.int .i64)]]⟩
def sheaveref51_Of_l0_ts : List Ty := [.int .i64, .nm 3, .int .i64, .int .i64, .slice (.nm 1), .int .i64, .int .i64]
def sheaveref51_Of_l0_outs : List OSpec := [⟨.exit 0, ⟨[(1, .c (.ptr 0 0)), (2, .c (.ptr 1 0)), (4, .c (.ptr 2 0))], [.brow 3, .box [.cap0, .hole (.int .i64), .hole (.int .i64)], .box [.hole (.slice (.nm 1)), .hole (.int .i64), .hole (.int .i64)]]⟩, [], [.nm 3, .int .i64, .int .i64, .slice (.nm 1), .int .i64, .int .i64]⟩]
def sheaveref51_Of_l0_p (F : Hs Un.D sheaveref51_Of_l0_ts → Option (OSum Un sheaveref51_Of_l0_outs)) : LSpec Un := ⟨sheaveref51_Of_l0_sh, [], sheaveref51_Of_l0_ts, sheaveref51_Of_l0_outs, F⟩
def sheaveref51_Of_l0_s : LSpec Un := sheaveref51_Of_l0_p sheaveref51_Of_l0
theorem sheaveref51_Of_l0_snd : LSnd Try.prog Try.f21.ntmps 0 (loopOf (codeOf Try.prog Try.f21) 0) sheaveref51_Of_l0_s := fun h o ho => sheaveref51_Of_l0.partial_correctness (fun h o => LAt (U := Un) Try.prog Try.f21.ntmps 0 (loopOf (codeOf Try.prog Try.f21) 0) sheaveref51_Of_l0_sh sheaveref51_Of_l0_ts sheaveref51_Of_l0_outs h o) (fun F1 HF1 h o ho => LAt.of_round (fo := foS [sheaveref51_Put_s]) (lo := loL []) (own := []) (F' := F1) (FoSnd.cons F15_b sheaveref51_Put_snd FoSnd.nil) (LoOk.snd LoOk.nil) HF1 (Eq.trans (by kernel_rfl) ho)) h o ho
def sheaveref51_Of_l1 (x_ : Int × Sheaveref51Draft × Int × Int × List Item × Int × Int) : Option (Sheaveref51Draft × Int × Int × List Item × Int × Int) :=
  match x_ with
  | (i_1, b_18, b_19, b_20, b_21, b_22, b_23) =>
  if (bif decide (i_1 < wrp .i64 (remI b_18.Taken 8)) then decide (0 < (b_21.length : Int)) else false) = true then
    sheaveref51_Take (⟨b_21, b_22, b_23⟩ : Spool) >>= fun r_3 =>
    sheaveref51_Of_l1 (addI .i64 i_1 1, b_18, b_19, b_20, r_3.1.Items, r_3.1.Next, r_3.1.Cursor)
  else
    some (b_18, b_19, b_20, b_21, b_22, b_23)
  partial_fixpoint
def sheaveref51_Of_l1_sh : Shape := ⟨[(1, .c (.ptr 0 0)), (2, .c (.ptr 1 0)), (4, .c (.ptr 2 0)), (7, .c (.hole (.int .i64)))], [.brow 3, .box [.cap0, .hole (.int .i64), .hole (.int .i64)], .box [.hole (.slice (.nm 1)), .hole (.int .i64), .hole (.int .i64)]]⟩
def sheaveref51_Of_l1_ts : List Ty := [.int .i64, .nm 3, .int .i64, .int .i64, .slice (.nm 1), .int .i64, .int .i64]
def sheaveref51_Of_l1_outs : List OSpec := [⟨.exit 2, ⟨[(1, .c (.ptr 0 0)), (2, .c (.ptr 1 0)), (4, .c (.ptr 2 0))], [.brow 3, .box [.cap0, .hole (.int .i64), .hole (.int .i64)], .box [.hole (.slice (.nm 1)), .hole (.int .i64), .hole (.int .i64)]]⟩, [], [.nm 3, .int .i64, .int .i64, .slice (.nm 1), .int .i64, .int .i64]⟩]
def sheaveref51_Of_l1_p (F : Hs Un.D sheaveref51_Of_l1_ts → Option (OSum Un sheaveref51_Of_l1_outs)) : LSpec Un := ⟨sheaveref51_Of_l1_sh, [], sheaveref51_Of_l1_ts, sheaveref51_Of_l1_outs, F⟩
def sheaveref51_Of_l1_s : LSpec Un := sheaveref51_Of_l1_p sheaveref51_Of_l1
theorem sheaveref51_Of_l1_snd : LSnd Try.prog Try.f21.ntmps 0 (loopOf (codeOf Try.prog Try.f21) 1) sheaveref51_Of_l1_s := fun h o ho => sheaveref51_Of_l1.partial_correctness (fun h o => LAt (U := Un) Try.prog Try.f21.ntmps 0 (loopOf (codeOf Try.prog Try.f21) 1) sheaveref51_Of_l1_sh sheaveref51_Of_l1_ts sheaveref51_Of_l1_outs h o) (fun F1 HF1 h o ho => LAt.of_round (fo := foS [sheaveref51_Take_s]) (lo := loL []) (own := []) (F' := F1) (FoSnd.cons F25_b sheaveref51_Take_snd FoSnd.nil) (LoOk.snd LoOk.nil) HF1 (Eq.trans (by kernel_rfl) ho)) h o ho
def sheaveref51_Of (d : Sheaveref51Draft) : Option (Spool × Bool) :=
  sheaveref51_Of_l0 (0, d, 0, 0, [], 1, 0) >>= fun o =>
  sheaveref51_Of_l1 (0, o.1, o.2.1, o.2.2.1, o.2.2.2.1, o.2.2.2.2.1, o.2.2.2.2.2) >>= fun o_1 =>
  some (addI .i64 (o_1.2.2.2.1.length : Int) 1) >>= fun t63 =>
  if (!(decide (t63 = 0))) = true then
    some ((⟨o_1.2.2.2.1, o_1.2.2.2.2.1, remI (wrp .i64 o_1.1.Point) t63⟩ : Spool), decide ((o_1.1.Versions.length : Int) ≤ 40))
  else none
def sheaveref51_Of_p (F : Hs Un.D [.nm 3] → Option (Hs Un.D [.nm 0, .bool])) : FSpec Un := ⟨21, [.row 3], [], [.nm 3], .tup [.row 0, .c (.hole .bool)], [], [.nm 0, .bool], F⟩
def sheaveref51_Of_s : FSpec Un := sheaveref51_Of_p sheaveref51_Of
theorem sheaveref51_Of_snd : FSnd Try.prog sheaveref51_Of_s := FSnd.of fun h r hr => FAt.of_body (s := sheaveref51_Of_s) (fo := foS []) (lo := loL [(0, sheaveref51_Of_l0_s), (1, sheaveref51_Of_l1_s)]) Try.func21 F21_ok F21_res (by kernel_rfl) FoSnd.nil (LoOk.snd (LoOk.cons sheaveref51_Of_l0_snd (LoOk.cons sheaveref51_Of_l1_snd LoOk.nil))) (Eq.trans (by kernel_rfl) hr)
def sheavelaw51_SpoolQueue_l0 (x_ : List Int × Int × Int × Spool × List Item) : Option ((Bool) ⊕ (Spool × List Item)) :=
  match x_ with
  | (t41, t42_1, t43, b_3, b_4) =>
  if decide (t43 < t42_1) = true then
    if inR t43 t41.length = true then
      some (t41.getD t43.toNat 0) >>= fun x0 =>
      spool_Put (b_3, wrp .i64 (remI x0 6), runeStr (wrp .i32 (addI .i64 65 t43))) >>= fun r_9 =>
      if (!(decide (r_9.2 = 0))) = true then
        some (.inl false)
      else
        some (wrp .i64 (remI x0 6)) >>= fun t67 =>
        some (runeStr (wrp .i32 (addI .i64 65 t43))) >>= fun t71 =>
        if room 32 (b_4 ++ [(⟨b_3.Next, t67, t71⟩ : Item)]).length = true then
          sheavelaw51_SpoolQueue_l0 (t41, t42_1, addI .i64 t43 1, r_9.1, b_4 ++ [(⟨b_3.Next, t67, t71⟩ : Item)])
        else none
    else none
  else
    some (.inr (b_3, b_4))
  partial_fixpoint
theorem F6_b : hasBody Try.prog 6 = true := by kernel_rfl
theorem F6_ok : Try.f6.body.bind (Go.Proofs.Ytkdepbmeaiefeaa.Shv.resolve Try.prog Try.f6.ntmps) = some (codeOf Try.prog Try.f6) := by kernel_rfl
theorem F6_res : resolveRes Try.prog Try.f6.results.toList = some [.tmp 4] := by kernel_rfl
def sheavelaw51_SpoolQueue_l0_sh : Shape := ⟨[(5, .c (.ptr 0 0)), (7, .c (.arr 1)), (41, .c (.hole (.slice (.int .u8)))), (42, .c (.hole (.int .i64))), (43, .c (.hole (.int .i64)))], [.brow 0, .arr (.nm 1)]⟩
def sheavelaw51_SpoolQueue_l0_ts : List Ty := [.slice (.int .u8), .int .i64, .int .i64, .nm 0, .slice (.nm 1)]
def sheavelaw51_SpoolQueue_l0_outs : List OSpec := [⟨.ret, ⟨[(4, .c (.hole .bool))], []⟩, [], [.bool]⟩, ⟨.exit 0, ⟨[(5, .c (.ptr 0 0)), (7, .c (.arr 1))], [.brow 0, .arr (.nm 1)]⟩, [], [.nm 0, .slice (.nm 1)]⟩]
def sheavelaw51_SpoolQueue_l0_p (F : Hs Un.D sheavelaw51_SpoolQueue_l0_ts → Option (OSum Un sheavelaw51_SpoolQueue_l0_outs)) : LSpec Un := ⟨sheavelaw51_SpoolQueue_l0_sh, [], sheavelaw51_SpoolQueue_l0_ts, sheavelaw51_SpoolQueue_l0_outs, F⟩
def sheavelaw51_SpoolQueue_l0_s : LSpec Un := sheavelaw51_SpoolQueue_l0_p sheavelaw51_SpoolQueue_l0
theorem sheavelaw51_SpoolQueue_l0_snd : LSnd Try.prog Try.f6.ntmps 0 (loopOf (codeOf Try.prog Try.f6) 0) sheavelaw51_SpoolQueue_l0_s := fun h o ho => sheavelaw51_SpoolQueue_l0.partial_correctness (fun h o => LAt (U := Un) Try.prog Try.f6.ntmps 0 (loopOf (codeOf Try.prog Try.f6) 0) sheavelaw51_SpoolQueue_l0_sh sheavelaw51_SpoolQueue_l0_ts sheavelaw51_SpoolQueue_l0_outs h o) (fun F1 HF1 h o ho => LAt.of_round (fo := foS [spool_Put_s]) (lo := loL []) (own := []) (F' := F1) (FoSnd.cons F14_b spool_Put_snd FoSnd.nil) (LoOk.snd LoOk.nil) HF1 (Eq.trans (by kernel_rfl) ho)) h o ho
def sheavelaw51_SpoolQueue_l1 (x_ : Int × Int × Spool × List Item) : Option ((Bool) ⊕ (Spool)) :=
  match x_ with
  | (t78_1, t79, b_5, b_6) =>
  if decide (t79 < t78_1) = true then
    if inR t79 b_6.length = true then
      if decide (t79.toNat < b_6.length) = true then
        spool_Take b_5 >>= fun r_12 =>
        some (bif (!(decide (r_12.2.2 = 0))) then true else (!(eqI (b_6.getD t79.toNat dItem).ID r_12.2.1.ID && (eqI (b_6.getD t79.toNat dItem).Version r_12.2.1.Version && (eqS (b_6.getD t79.toNat dItem).Data r_12.2.1.Data && true))))) >>= fun t96 =>
        some (decide (0 < t79)) >>= fun t99 =>
        some (subI .i64 t79 1) >>= fun t103 =>
        if (inR t103 b_6.length || (!((!t96) && t99))) = true then
          if (decide (t103.toNat < b_6.length) || (!((!t96) && t99))) = true then
            if (bif t96 then true else bif t99 then decide ((b_6.getD t79.toNat dItem).ID ≤ (b_6.getD t103.toNat dItem).ID) else false) = true then
              some (.inl false)
            else
              sheavelaw51_SpoolQueue_l1 (t78_1, addI .i64 t79 1, r_12.1, b_6)
          else none
        else none
      else none
    else none
  else
    some (.inr b_5)
  partial_fixpoint
def sheavelaw51_SpoolQueue_l1_sh : Shape := ⟨[(5, .c (.ptr 0 0)), (7, .c (.arr 1)), (77, .c (.arr 1)), (78, .c (.hole (.int .i64))), (79, .c (.hole (.int .i64)))], [.brow 0, .arr (.nm 1)]⟩
def sheavelaw51_SpoolQueue_l1_ts : List Ty := [.int .i64, .int .i64, .nm 0, .slice (.nm 1)]
def sheavelaw51_SpoolQueue_l1_outs : List OSpec := [⟨.ret, ⟨[(4, .c (.hole .bool))], []⟩, [], [.bool]⟩, ⟨.exit 2, ⟨[(5, .c (.ptr 0 0))], [.brow 0]⟩, [], [.nm 0]⟩]
def sheavelaw51_SpoolQueue_l1_p (F : Hs Un.D sheavelaw51_SpoolQueue_l1_ts → Option (OSum Un sheavelaw51_SpoolQueue_l1_outs)) : LSpec Un := ⟨sheavelaw51_SpoolQueue_l1_sh, [], sheavelaw51_SpoolQueue_l1_ts, sheavelaw51_SpoolQueue_l1_outs, F⟩
def sheavelaw51_SpoolQueue_l1_s : LSpec Un := sheavelaw51_SpoolQueue_l1_p sheavelaw51_SpoolQueue_l1
theorem sheavelaw51_SpoolQueue_l1_snd : LSnd Try.prog Try.f6.ntmps 0 (loopOf (codeOf Try.prog Try.f6) 1) sheavelaw51_SpoolQueue_l1_s := fun h o ho => sheavelaw51_SpoolQueue_l1.partial_correctness (fun h o => LAt (U := Un) Try.prog Try.f6.ntmps 0 (loopOf (codeOf Try.prog Try.f6) 1) sheavelaw51_SpoolQueue_l1_sh sheavelaw51_SpoolQueue_l1_ts sheavelaw51_SpoolQueue_l1_outs h o) (fun F1 HF1 h o ho => LAt.of_round (fo := foS [spool_Take_s]) (lo := loL []) (own := []) (F' := F1) (FoSnd.cons F22_b spool_Take_snd FoSnd.nil) (LoOk.snd LoOk.nil) HF1 (Eq.trans (by kernel_rfl) ho)) h o ho
def sheavelaw51_SpoolQueue (x_ : Sheaveref51Draft × List Int) : Option (Bool) :=
  match x_ with
  | (d, more) =>
  sheaveref51_Of d >>= fun r =>
  sheavelaw51_awake () >>= fun r_3 =>
  if (bif bif (!r_3) then true else (!r.2) then true else decide (40 < (more.length : Int))) = true then
    sheavelaw51_awake () >>= fun r_4 =>
    some r_4
  else
    if room 32 ([] ++ r.1.Items).length = true then
      sheavelaw51_SpoolQueue_l0 (more, (more.length : Int), 0, r.1, [] ++ r.1.Items) >>= fun o =>
      match o with
      | .inl o_1 =>
        some o_1
      | .inr o_2 =>
        sheavelaw51_SpoolQueue_l1 ((o_2.2.length : Int), 0, o_2.1, o_2.2) >>= fun o_3 =>
        match o_3 with
        | .inl o_4 =>
          some o_4
        | .inr o_5 =>
          spool_Take o_5 >>= fun r_5 =>
          some (decide (r_5.2.2 = 10))
    else none
def sheavelaw51_SpoolQueue_p (F : Hs Un.D [.nm 3, .slice (.int .u8)] → Option (Hs Un.D [.bool])) : FSpec Un := ⟨6, [.row 3, .c (.hole (.slice (.int .u8)))], [], [.nm 3, .slice (.int .u8)], .c (.hole .bool), [], [.bool], F⟩
def sheavelaw51_SpoolQueue_s : FSpec Un := sheavelaw51_SpoolQueue_p sheavelaw51_SpoolQueue
theorem sheavelaw51_SpoolQueue_snd : FSnd Try.prog sheavelaw51_SpoolQueue_s := FSnd.of fun h r hr => FAt.of_body (s := sheavelaw51_SpoolQueue_s) (fo := foS [sheaveref51_Of_s, sheavelaw51_awake_s, spool_Take_s]) (lo := loL [(0, sheavelaw51_SpoolQueue_l0_s), (1, sheavelaw51_SpoolQueue_l1_s)]) Try.func6 F6_ok F6_res (by kernel_rfl) (FoSnd.cons F21_b sheaveref51_Of_snd (FoSnd.cons F10_b sheavelaw51_awake_snd (FoSnd.cons F22_b spool_Take_snd FoSnd.nil))) (LoOk.snd (LoOk.cons sheavelaw51_SpoolQueue_l0_snd (LoOk.cons sheavelaw51_SpoolQueue_l1_snd LoOk.nil))) (Eq.trans (by kernel_rfl) hr)
def sheavelaw51_SpoolPortions_l0 (x_ : Int × Int × Int × Int × Int × Int × Int × Spool × Spool × List Int) : Option ((Bool) ⊕ (Int × Int × Int × Spool × Spool)) :=
  match x_ with
  | (to, running, n_1, e0_1, done_1, t57_1, t58, b_2, b_3, b_4) =>
  if decide (t58 < t57_1) = true then
    if inR t58 b_4.length = true then
      if decide (t58.toNat < b_4.length) = true then
        some (b_4.getD t58.toNat 0) >>= fun t61 =>
        spool_Rewrite (b_2, running, to, wrp .i64 t61) >>= fun r_10 =>
        if (bif (!(decide (r_10.2.2 = 0))) then true else decide (wrp .i64 t61 < r_10.2.1)) = true then
          some (.inl false)
        else
          sheavelaw51_SpoolPortions_l0 (to, running, n_1, e0_1, addI .i64 done_1 r_10.2.1, t57_1, addI .i64 t58 1, r_10.1, b_3, b_4)
      else none
    else none
  else
    some (.inr (n_1, e0_1, done_1, b_2, b_3))
  partial_fixpoint
theorem F7_b : hasBody Try.prog 7 = true := by kernel_rfl
theorem F7_ok : Try.f7.body.bind (Go.Proofs.Ytkdepbmeaiefeaa.Shv.resolve Try.prog Try.f7.ntmps) = some (codeOf Try.prog Try.f7) := by kernel_rfl
theorem F7_res : resolveRes Try.prog Try.f7.results.toList = some [.tmp 6] := by kernel_rfl
def sheavelaw51_SpoolPortions_l0_sh : Shape := ⟨[(7, .c (.ptr 0 0)), (9, .c (.hole (.int .i64))), (10, .c (.hole (.int .u8))), (11, .c (.ptr 1 0)), (12, .c (.hole (.int .i64))), (13, .c (.hole (.int .i64))), (14, .c (.hole (.int .i64))), (56, .c (.arr 2)), (57, .c (.hole (.int .i64))), (58, .c (.hole (.int .i64)))], [.brow 0, .brow 0, .arr (.int .u8)]⟩
def sheavelaw51_SpoolPortions_l0_ts : List Ty := [.int .i64, .int .u8, .int .i64, .int .i64, .int .i64, .int .i64, .int .i64, .nm 0, .nm 0, .slice (.int .u8)]
def sheavelaw51_SpoolPortions_l0_outs : List OSpec := [⟨.ret, ⟨[(6, .c (.hole .bool))], []⟩, [], [.bool]⟩, ⟨.exit 0, ⟨[(7, .c (.ptr 0 0)), (11, .c (.ptr 1 0)), (12, .c (.hole (.int .i64))), (13, .c (.hole (.int .i64))), (14, .c (.hole (.int .i64)))], [.brow 0, .brow 0]⟩, [], [.int .i64, .int .i64, .int .i64, .nm 0, .nm 0]⟩]
def sheavelaw51_SpoolPortions_l0_p (F : Hs Un.D sheavelaw51_SpoolPortions_l0_ts → Option (OSum Un sheavelaw51_SpoolPortions_l0_outs)) : LSpec Un := ⟨sheavelaw51_SpoolPortions_l0_sh, [], sheavelaw51_SpoolPortions_l0_ts, sheavelaw51_SpoolPortions_l0_outs, F⟩
def sheavelaw51_SpoolPortions_l0_s : LSpec Un := sheavelaw51_SpoolPortions_l0_p sheavelaw51_SpoolPortions_l0
theorem sheavelaw51_SpoolPortions_l0_snd : LSnd Try.prog Try.f7.ntmps 0 (loopOf (codeOf Try.prog Try.f7) 0) sheavelaw51_SpoolPortions_l0_s := fun h o ho => sheavelaw51_SpoolPortions_l0.partial_correctness (fun h o => LAt (U := Un) Try.prog Try.f7.ntmps 0 (loopOf (codeOf Try.prog Try.f7) 0) sheavelaw51_SpoolPortions_l0_sh sheavelaw51_SpoolPortions_l0_ts sheavelaw51_SpoolPortions_l0_outs h o) (fun F1 HF1 h o ho => LAt.of_round (fo := foS [spool_Rewrite_s]) (lo := loL []) (own := []) (F' := F1) (FoSnd.cons F17_b spool_Rewrite_snd FoSnd.nil) (LoOk.snd LoOk.nil) HF1 (Eq.trans (by kernel_rfl) ho)) h o ho
end Go.Proofs.Ytkdepbmeaiefeaa
