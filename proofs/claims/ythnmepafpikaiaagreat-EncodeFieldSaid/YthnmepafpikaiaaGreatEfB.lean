/- The functions of the program as functions of Lean, that its code does what they say, and what they answer; part B. -/
import Derived.Test.YthnmepafpikaiaaGreatEfA

namespace Go.Proofs.YthnmepafpikaiaaGreat
open Go Go.Proofs.YthnmepafpikaiaaGreat.Shv
set_option maxRecDepth 100000
set_option linter.all false

def encode_reader_items_1 (x_ : List UInt8 × List SType × SType × Int) : Option (Bool × List SType × SType × Int) :=
  match x_ with
  | (p, b, b_1, b_2) =>
  encode_reader_canonical ((⟨(⟨b⟩ : SSchema)⟩ : EncodeReader), b_1.Elem, p, addI .i64 b_2 1) >>= fun r =>
  some ((!r), b, b_1, b_2)
def encode_reader_items_1_p (F : Hs Un.D [.str, .slice (.nm 3), .nm 3, .int .i64] → Option (Hs Un.D [.bool, .slice (.nm 3), .nm 3, .int .i64])) : FSpec Un := ⟨123, [.c (.hole .str), .c (.ptr 0 0), .c (.ptr 1 0), .c (.ptr 2 0)], [.box [.hole (.slice (.nm 3))], .brow 3, .box [.hole (.int .i64)]], [.str, .slice (.nm 3), .nm 3, .int .i64], .c (.hole .bool), [.box [.hole (.slice (.nm 3))], .brow 3, .box [.hole (.int .i64)]], [.bool, .slice (.nm 3), .nm 3, .int .i64], F⟩
def encode_reader_items_1_s : FSpec Un := encode_reader_items_1_p encode_reader_items_1
theorem encode_reader_items_1_snd : FSnd Tryz.prog encode_reader_items_1_s := FSnd.of fun h r hr => FAt.of_body (s := encode_reader_items_1_s) (fo := foS [encode_reader_canonical_s]) (lo := loL []) Tryz.func123 F123_ok F123_res (by kernel_rfl) (FoSnd.cons F53_b encode_reader_canonical_snd FoSnd.nil) (LoOk.snd LoOk.nil) (Eq.trans (by kernel_rfl) hr)
def slices_IndexFuncstring_string_l0 (x_ : List (List UInt8) × Int × Int × List SType × SType × Int) : Option ((Int × List SType × SType × Int) ⊕ (List SType × SType × Int)) :=
  match x_ with
  | (s_1, t7_1, t8, b_9, b_10, b_11) =>
  if decide (t8 < t7_1) = true then
    if inR t8 s_1.length = true then
      encode_reader_items_1 (s_1.getD t8.toNat [], b_9, b_10, b_11) >>= fun r =>
      if r.1 = true then
        some (.inl (t8, r.2.1, r.2.2.1, r.2.2.2))
      else
        slices_IndexFuncstring_string_l0 (s_1, t7_1, addI .i64 t8 1, r.2.1, r.2.2.1, r.2.2.2)
    else none
  else
    some (.inr (b_9, b_10, b_11))
  partial_fixpoint
def slices_IndexFuncstring_string_l0_sh : Shape := ⟨[(0, .c (.hole (.slice .str))), (1, .c (.fn 123 [0, 1, 2])), (7, .c (.hole (.int .i64))), (8, .c (.hole (.int .i64)))], [.box [.hole (.slice (.nm 3))], .brow 3, .box [.hole (.int .i64)]]⟩
def slices_IndexFuncstring_string_l0_ts : List Ty := [.slice .str, .int .i64, .int .i64, .slice (.nm 3), .nm 3, .int .i64]
def slices_IndexFuncstring_string_l0_outs : List OSpec := [⟨.ret, ⟨[(4, .c (.hole (.int .i64)))], [.box [.hole (.slice (.nm 3))], .brow 3, .box [.hole (.int .i64)]]⟩, [], [.int .i64, .slice (.nm 3), .nm 3, .int .i64]⟩, ⟨.exit 0, ⟨[], [.box [.hole (.slice (.nm 3))], .brow 3, .box [.hole (.int .i64)]]⟩, [], [.slice (.nm 3), .nm 3, .int .i64]⟩]
def slices_IndexFuncstring_string_l0_p (F : Hs Un.D slices_IndexFuncstring_string_l0_ts → Option (OSum Un slices_IndexFuncstring_string_l0_outs)) : LSpec Un := ⟨slices_IndexFuncstring_string_l0_sh, [], slices_IndexFuncstring_string_l0_ts, slices_IndexFuncstring_string_l0_outs, F⟩
def slices_IndexFuncstring_string_l0_s : LSpec Un := slices_IndexFuncstring_string_l0_p slices_IndexFuncstring_string_l0
theorem slices_IndexFuncstring_string_l0_snd : LSnd Tryz.prog Tryz.f151.ntmps 3 (loopOf (codeOf Tryz.prog Tryz.f151) 0) slices_IndexFuncstring_string_l0_s := fun h o ho => slices_IndexFuncstring_string_l0.partial_correctness (fun h o => LAt (U := Un) Tryz.prog Tryz.f151.ntmps 3 (loopOf (codeOf Tryz.prog Tryz.f151) 0) slices_IndexFuncstring_string_l0_sh slices_IndexFuncstring_string_l0_ts slices_IndexFuncstring_string_l0_outs h o) (fun F1 HF1 h o ho => LAt.of_round (fo := foS [encode_reader_items_1_s]) (lo := loL []) (own := []) (F' := F1) (FoSnd.cons F123_b encode_reader_items_1_snd FoSnd.nil) (LoOk.snd LoOk.nil) HF1 (Eq.trans (by kernel_rfl) ho)) h o ho
def slices_IndexFuncstring_string (x_ : List (List UInt8) × List SType × SType × Int) : Option (Int × List SType × SType × Int) :=
  match x_ with
  | (s, b, b_1, b_2) =>
  slices_IndexFuncstring_string_l0 (s, (s.length : Int), 0, b, b_1, b_2) >>= fun o =>
  match o with
  | .inl o_1 =>
    some (o_1.1, o_1.2.1, o_1.2.2.1, o_1.2.2.2)
  | .inr o_2 =>
    some ((-1), o_2.1, o_2.2.1, o_2.2.2)
def slices_IndexFuncstring_string_p (F : Hs Un.D [.slice .str, .slice (.nm 3), .nm 3, .int .i64] → Option (Hs Un.D [.int .i64, .slice (.nm 3), .nm 3, .int .i64])) : FSpec Un := ⟨151, [.c (.hole (.slice .str)), .c (.fn 123 [0, 1, 2])], [.box [.hole (.slice (.nm 3))], .brow 3, .box [.hole (.int .i64)]], [.slice .str, .slice (.nm 3), .nm 3, .int .i64], .c (.hole (.int .i64)), [.box [.hole (.slice (.nm 3))], .brow 3, .box [.hole (.int .i64)]], [.int .i64, .slice (.nm 3), .nm 3, .int .i64], F⟩
def slices_IndexFuncstring_string_s : FSpec Un := slices_IndexFuncstring_string_p slices_IndexFuncstring_string
theorem slices_IndexFuncstring_string_snd : FSnd Tryz.prog slices_IndexFuncstring_string_s := FSnd.of fun h r hr => FAt.of_body (s := slices_IndexFuncstring_string_s) (fo := foS []) (lo := loL [(0, slices_IndexFuncstring_string_l0_s)]) Tryz.func151 F151_ok F151_res (by kernel_rfl) FoSnd.nil (LoOk.snd (LoOk.cons slices_IndexFuncstring_string_l0_snd LoOk.nil)) (Eq.trans (by kernel_rfl) hr)
def slices_ContainsFuncstring_string (x_ : List (List UInt8) × List SType × SType × Int) : Option (Bool × List SType × SType × Int) :=
  match x_ with
  | (s, b, b_1, b_2) =>
  slices_IndexFuncstring_string (s, b, b_1, b_2) >>= fun r =>
  some (decide (0 ≤ r.1), r.2.1, r.2.2.1, r.2.2.2)
def slices_ContainsFuncstring_string_p (F : Hs Un.D [.slice .str, .slice (.nm 3), .nm 3, .int .i64] → Option (Hs Un.D [.bool, .slice (.nm 3), .nm 3, .int .i64])) : FSpec Un := ⟨122, [.c (.hole (.slice .str)), .c (.fn 123 [0, 1, 2])], [.box [.hole (.slice (.nm 3))], .brow 3, .box [.hole (.int .i64)]], [.slice .str, .slice (.nm 3), .nm 3, .int .i64], .c (.hole .bool), [.box [.hole (.slice (.nm 3))], .brow 3, .box [.hole (.int .i64)]], [.bool, .slice (.nm 3), .nm 3, .int .i64], F⟩
def slices_ContainsFuncstring_string_s : FSpec Un := slices_ContainsFuncstring_string_p slices_ContainsFuncstring_string
theorem slices_ContainsFuncstring_string_snd : FSnd Tryz.prog slices_ContainsFuncstring_string_s := FSnd.of fun h r hr => FAt.of_body (s := slices_ContainsFuncstring_string_s) (fo := foS [slices_IndexFuncstring_string_s]) (lo := loL []) Tryz.func122 F122_ok F122_res (by kernel_rfl) (FoSnd.cons F151_b slices_IndexFuncstring_string_snd FoSnd.nil) (LoOk.snd LoOk.nil) (Eq.trans (by kernel_rfl) hr)
def encode_Canonical (x_ : SSchema × Int × List UInt8) : Option (Bool) :=
  match x_ with
  | (s, t, m) =>
  encode_errorOf ((⟨s.Types⟩ : SSchema), t) >>= fun r =>
  some (bif decide (r = 0) then decide ((m.length : Int) ≤ 4096) else false) >>= fun t15 =>
  (if t15 = true then encode_reader_canonical ((⟨(⟨s.Types⟩ : SSchema)⟩ : EncodeReader), t, m, 1) else some false) >>= fun r_1 =>
  some (bif t15 then r_1 else false)
theorem F21_b : hasBody Tryz.prog 21 = true := by kernel_rfl
theorem F21_ok : Tryz.f21.body.bind (Go.Proofs.YthnmepafpikaiaaGreat.Shv.resolve Tryz.prog Tryz.f21.ntmps) = some (codeOf Tryz.prog Tryz.f21) := by kernel_rfl
theorem F21_res : resolveRes Tryz.prog Tryz.f21.results.toList = some [.tmp 6] := by kernel_rfl
def encode_Canonical_p (F : Hs Un.D [.nm 5, .int .i64, .str] → Option (Hs Un.D [.bool])) : FSpec Un := ⟨21, [.row 5, .c (.hole (.int .i64)), .c (.hole .str)], [], [.nm 5, .int .i64, .str], .c (.hole .bool), [], [.bool], F⟩
def encode_Canonical_s : FSpec Un := encode_Canonical_p encode_Canonical
theorem encode_Canonical_snd : FSnd Tryz.prog encode_Canonical_s := FSnd.of fun h r hr => FAt.of_body (s := encode_Canonical_s) (fo := foS [encode_errorOf_s, encode_reader_canonical_s]) (lo := loL []) Tryz.func21 F21_ok F21_res (by kernel_rfl) (FoSnd.cons F52_b encode_errorOf_snd (FoSnd.cons F53_b encode_reader_canonical_snd FoSnd.nil)) (LoOk.snd LoOk.nil) (Eq.trans (by kernel_rfl) hr)
def sheavelaw09_awake (_ : Unit) : Option (Bool) :=
  sheavelaw09_example () >>= fun r =>
  sheavelaw09_point ((-2), 3) >>= fun r_1 =>
  encode_Encode (r, 3, SValue.eta r_1) >>= fun r_2 =>
  sheavelaw09_example () >>= fun r_5 =>
  sheavelaw09_point ((-2), 0) >>= fun r_6 =>
  encode_Encode (r_5, 3, SValue.eta r_6) >>= fun r_7 =>
  encode_Items [1, 97, 0] >>= fun r_10 =>
  some (bif bif bif bif decide (r_2.2 = 0) then decide (r_7.2 = 0) else false then decide (r_10.2 = 0) else false then decide (r_2.1 = [2, 1, 3, 7, 2, 97, 98]) else false then decide (r_7.1 = [2, 1, 3, 4, 0, 7, 2, 97, 98]) else false) >>= fun t40 =>
  (if t40 = true then slices_Equalstring_string (r_10.1, [[97], []]) else some false) >>= fun r_13 =>
  some (bif t40 then r_13 else false) >>= fun t45 =>
  (if t45 = true then sheavelaw09_example () else some dSSchema) >>= fun r_14 =>
  (if t45 = true then encode_Canonical (r_14, 3, r_2.1) else some false) >>= fun r_15 =>
  some (bif t45 then r_15 else false) >>= fun t50 =>
  (if t50 = true then sheavelaw09_example () else some dSSchema) >>= fun r_16 =>
  (if t50 = true then encode_Canonical (r_16, 3, [2, 1, 3, 4, 1, 6, 7, 2, 97, 98]) else some false) >>= fun r_17 =>
  some (bif t50 then (!r_17) else false)
theorem F11_b : hasBody Tryz.prog 11 = true := by kernel_rfl
theorem F11_ok : Tryz.f11.body.bind (Go.Proofs.YthnmepafpikaiaaGreat.Shv.resolve Tryz.prog Tryz.f11.ntmps) = some (codeOf Tryz.prog Tryz.f11) := by kernel_rfl
theorem F11_res : resolveRes Tryz.prog Tryz.f11.results.toList = some [.tmp 0] := by kernel_rfl
def sheavelaw09_awake_p (F : Hs Un.D [] → Option (Hs Un.D [.bool])) : FSpec Un := ⟨11, [], [], [], .c (.hole .bool), [], [.bool], F⟩
def sheavelaw09_awake_s : FSpec Un := sheavelaw09_awake_p sheavelaw09_awake
theorem sheavelaw09_awake_snd : FSnd Tryz.prog sheavelaw09_awake_s := FSnd.of fun h r hr => FAt.of_body (s := sheavelaw09_awake_s) (fo := foS [sheavelaw09_example_s, sheavelaw09_point_s, encode_Encode_s, encode_Items_s, slices_Equalstring_string_s, encode_Canonical_s]) (lo := loL []) Tryz.func11 F11_ok F11_res (by kernel_rfl) (FoSnd.cons F38_b sheavelaw09_example_snd (FoSnd.cons F39_b sheavelaw09_point_snd (FoSnd.cons F26_b encode_Encode_snd (FoSnd.cons F14_b encode_Items_snd (FoSnd.cons F40_b slices_Equalstring_string_snd (FoSnd.cons F21_b encode_Canonical_snd FoSnd.nil)))))) (LoOk.snd LoOk.nil) (Eq.trans (by kernel_rfl) hr)
def sheaveref03_Get_l0 (x_ : List UInt8 × Int × Int × Int) : Option ((Int × Int × Int) ⊕ (Unit)) :=
  match x_ with
  | (s_1, n, unit, i) =>
  if decide (i < 10) = true then
    if decide (i = (s_1.length : Int)) = true then
      some (.inl (0, 0, 10))
    else
      if inR i s_1.length = true then
        some (wrp .u64 (byteAt s_1 i)) >>= fun t20 =>
        if (bif decide (i = 9) then decide (1 < t20) else false) = true then
          some (.inl (0, 0, 7))
        else
          some (addI .u64 n (mulI .u64 (remI t20 128) unit)) >>= fun t32 =>
          if decide (t20 < 128) = true then
            if (bif decide (t20 = 0) then decide (0 < i) else false) = true then
              some (.inl (0, 0, 2))
            else
              some (.inl (t32, addI .i64 i 1, 0))
          else
            sheaveref03_Get_l0 (s_1, t32, mulI .u64 unit 128, addI .i64 i 1)
      else none
  else
    some (.inr ())
  partial_fixpoint
theorem F43_b : hasBody Tryz.prog 43 = true := by kernel_rfl
theorem F43_ok : Tryz.f43.body.bind (Go.Proofs.YthnmepafpikaiaaGreat.Shv.resolve Tryz.prog Tryz.f43.ntmps) = some (codeOf Tryz.prog Tryz.f43) := by kernel_rfl
theorem F43_res : resolveRes Tryz.prog Tryz.f43.results.toList = some [.tmp 2, .tmp 3, .tmp 4] := by kernel_rfl
def sheaveref03_Get_l0_sh : Shape := ⟨[(0, .c (.hole .str)), (5, .c (.hole (.int .u64))), (6, .c (.hole (.int .u64))), (7, .c (.hole (.int .i64)))], []⟩
def sheaveref03_Get_l0_ts : List Ty := [.str, .int .u64, .int .u64, .int .i64]
def sheaveref03_Get_l0_outs : List OSpec := [⟨.ret, ⟨[(2, .c (.hole (.int .u64))), (3, .c (.hole (.int .i64))), (4, .c (.hole (.int .i64)))], []⟩, [], [.int .u64, .int .i64, .int .i64]⟩, ⟨.exit 0, ⟨[], []⟩, [], []⟩]
def sheaveref03_Get_l0_p (F : Hs Un.D sheaveref03_Get_l0_ts → Option (OSum Un sheaveref03_Get_l0_outs)) : LSpec Un := ⟨sheaveref03_Get_l0_sh, [], sheaveref03_Get_l0_ts, sheaveref03_Get_l0_outs, F⟩
def sheaveref03_Get_l0_s : LSpec Un := sheaveref03_Get_l0_p sheaveref03_Get_l0
theorem sheaveref03_Get_l0_snd : LSnd Tryz.prog Tryz.f43.ntmps 0 (loopOf (codeOf Tryz.prog Tryz.f43) 0) sheaveref03_Get_l0_s := fun h o ho => sheaveref03_Get_l0.partial_correctness (fun h o => LAt (U := Un) Tryz.prog Tryz.f43.ntmps 0 (loopOf (codeOf Tryz.prog Tryz.f43) 0) sheaveref03_Get_l0_sh sheaveref03_Get_l0_ts sheaveref03_Get_l0_outs h o) (fun F1 HF1 h o ho => LAt.of_round (fo := foS []) (lo := loL []) (own := []) (F' := F1) FoSnd.nil (LoOk.snd LoOk.nil) HF1 (Eq.trans (by kernel_rfl) ho)) h o ho
def sheaveref03_Get (s : List UInt8) : Option (Int × Int × Int) :=
  sheaveref03_Get_l0 (s, 0, 1, 0) >>= fun o =>
  match o with
  | .inl o_1 =>
    some (o_1.1, o_1.2.1, o_1.2.2)
  | .inr o_2 =>
    some (0, 0, 7)
def sheaveref03_Get_p (F : Hs Un.D [.str] → Option (Hs Un.D [.int .u64, .int .i64, .int .i64])) : FSpec Un := ⟨43, [.c (.hole .str)], [], [.str], .tup [.c (.hole (.int .u64)), .c (.hole (.int .i64)), .c (.hole (.int .i64))], [], [.int .u64, .int .i64, .int .i64], F⟩
def sheaveref03_Get_s : FSpec Un := sheaveref03_Get_p sheaveref03_Get
theorem sheaveref03_Get_snd : FSnd Tryz.prog sheaveref03_Get_s := FSnd.of fun h r hr => FAt.of_body (s := sheaveref03_Get_s) (fo := foS []) (lo := loL [(0, sheaveref03_Get_l0_s)]) Tryz.func43 F43_ok F43_res (by kernel_rfl) FoSnd.nil (LoOk.snd (LoOk.cons sheaveref03_Get_l0_snd LoOk.nil)) (Eq.trans (by kernel_rfl) hr)
def sheaveref09_cut (s : List UInt8) : Option (List UInt8 × List UInt8 × Bool) :=
  sheaveref03_Get s >>= fun r =>
  if (bif (!(decide (r.2.2 = 0))) then true else decide (wrp .u64 (subI .i64 (s.length : Int) r.2.1) < r.1)) = true then
    some ([], [], false)
  else
    some (addI .i64 r.2.1 (wrp .i64 r.1)) >>= fun t30 =>
    if slR r.2.1 t30 s.length = true then
      some (addI .i64 r.2.1 (wrp .i64 r.1)) >>= fun t36 =>
      if slR t36 (s.length : Int) s.length = true then
        some (cutL s r.2.1 t30, cutL s t36 (s.length : Int), true)
      else none
    else none
theorem F44_b : hasBody Tryz.prog 44 = true := by kernel_rfl
theorem F44_ok : Tryz.f44.body.bind (Go.Proofs.YthnmepafpikaiaaGreat.Shv.resolve Tryz.prog Tryz.f44.ntmps) = some (codeOf Tryz.prog Tryz.f44) := by kernel_rfl
theorem F44_res : resolveRes Tryz.prog Tryz.f44.results.toList = some [.tmp 2, .tmp 3, .tmp 4] := by kernel_rfl
def sheaveref09_cut_p (F : Hs Un.D [.str] → Option (Hs Un.D [.str, .str, .bool])) : FSpec Un := ⟨44, [.c (.hole .str)], [], [.str], .tup [.c (.hole .str), .c (.hole .str), .c (.hole .bool)], [], [.str, .str, .bool], F⟩
def sheaveref09_cut_s : FSpec Un := sheaveref09_cut_p sheaveref09_cut
theorem sheaveref09_cut_snd : FSnd Tryz.prog sheaveref09_cut_s := FSnd.of fun h r hr => FAt.of_body (s := sheaveref09_cut_s) (fo := foS [sheaveref03_Get_s]) (lo := loL []) Tryz.func44 F44_ok F44_res (by kernel_rfl) (FoSnd.cons F43_b sheaveref03_Get_snd FoSnd.nil) (LoOk.snd LoOk.nil) (Eq.trans (by kernel_rfl) hr)
def sheaveref09_Fields_l0 (x_ : List UInt8 × Int × List SField) : Option ((Int) ⊕ (List SField)) :=
  match x_ with
  | (payload_1, before, b_1) =>
  if (!(decide (payload_1 = []))) = true then
    sheaveref03_Get payload_1 >>= fun r =>
    if (bif bif (!(decide (r.2.2 = 0))) then true else decide (2001 < r.1) then true else decide (wrp .i64 (quoI .u64 r.1 2) ≤ before)) = true then
      some (.inl 12)
    else
      if slR r.2.1 (payload_1.length : Int) payload_1.length = true then
        sheaveref09_cut (cutL payload_1 r.2.1 (payload_1.length : Int)) >>= fun r_4 =>
        if (!r_4.2.2) = true then
          some (.inl 12)
        else
          some (wrp .i64 (quoI .u64 r.1 2)) >>= fun t45 =>
          some [(⟨t45, decide (remI r.1 2 = 1), r_4.1⟩ : SField)] >>= fun t54 =>
          if room 32 (b_1 ++ t54).length = true then
            sheaveref09_Fields_l0 (r_4.2.1, t45, b_1 ++ t54)
          else none
      else none
  else
    some (.inr b_1)
  partial_fixpoint
theorem F13_b : hasBody Tryz.prog 13 = true := by kernel_rfl
theorem F13_ok : Tryz.f13.body.bind (Go.Proofs.YthnmepafpikaiaaGreat.Shv.resolve Tryz.prog Tryz.f13.ntmps) = some (codeOf Tryz.prog Tryz.f13) := by kernel_rfl
theorem F13_res : resolveRes Tryz.prog Tryz.f13.results.toList = some [.tmp 2, .tmp 3] := by kernel_rfl
def sheaveref09_Fields_l0_sh : Shape := ⟨[(0, .c (.hole .str)), (4, .c (.arr 0)), (5, .c (.hole (.int .i64)))], [.arr (.nm 8)]⟩
def sheaveref09_Fields_l0_ts : List Ty := [.str, .int .i64, .slice (.nm 8)]
def sheaveref09_Fields_l0_outs : List OSpec := [⟨.ret, ⟨[(2, .c (.cap0)), (3, .c (.hole (.int .i64)))], []⟩, [], [.int .i64]⟩, ⟨.exit 0, ⟨[(4, .c (.arr 0))], [.arr (.nm 8)]⟩, [], [.slice (.nm 8)]⟩]
def sheaveref09_Fields_l0_p (F : Hs Un.D sheaveref09_Fields_l0_ts → Option (OSum Un sheaveref09_Fields_l0_outs)) : LSpec Un := ⟨sheaveref09_Fields_l0_sh, [(.slot 4, .nm 8)], sheaveref09_Fields_l0_ts, sheaveref09_Fields_l0_outs, F⟩
def sheaveref09_Fields_l0_s : LSpec Un := sheaveref09_Fields_l0_p sheaveref09_Fields_l0
theorem sheaveref09_Fields_l0_snd : LSnd Tryz.prog Tryz.f13.ntmps 0 (loopOf (codeOf Tryz.prog Tryz.f13) 0) sheaveref09_Fields_l0_s := fun h o ho => sheaveref09_Fields_l0.partial_correctness (fun h o => LAt (U := Un) Tryz.prog Tryz.f13.ntmps 0 (loopOf (codeOf Tryz.prog Tryz.f13) 0) sheaveref09_Fields_l0_sh sheaveref09_Fields_l0_ts sheaveref09_Fields_l0_outs h o) (fun F1 HF1 h o ho => LAt.of_round (fo := foS [sheaveref03_Get_s, sheaveref09_cut_s]) (lo := loL []) (own := [(.slot 4, .nm 8)]) (F' := F1) (FoSnd.cons F43_b sheaveref03_Get_snd (FoSnd.cons F44_b sheaveref09_cut_snd FoSnd.nil)) (LoOk.snd LoOk.nil) HF1 (Eq.trans (by kernel_rfl) ho)) h o ho
def sheaveref09_Fields (payload : List UInt8) : Option (List SField × Int) :=
  sheaveref09_Fields_l0 (payload, 0, []) >>= fun o =>
  match o with
  | .inl o_1 =>
    some ([], o_1)
  | .inr o_2 =>
    some (o_2, 0)
def sheaveref09_Fields_p (F : Hs Un.D [.str] → Option (Hs Un.D [.slice (.nm 8), .int .i64])) : FSpec Un := ⟨13, [.c (.hole .str)], [], [.str], .tup [.c (.hole (.slice (.nm 8))), .c (.hole (.int .i64))], [], [.slice (.nm 8), .int .i64], F⟩
def sheaveref09_Fields_s : FSpec Un := sheaveref09_Fields_p sheaveref09_Fields
theorem sheaveref09_Fields_snd : FSnd Tryz.prog sheaveref09_Fields_s := FSnd.of fun h r hr => FAt.of_body (s := sheaveref09_Fields_s) (fo := foS []) (lo := loL [(0, sheaveref09_Fields_l0_s)]) Tryz.func13 F13_ok F13_res (by kernel_rfl) FoSnd.nil (LoOk.snd (LoOk.cons sheaveref09_Fields_l0_snd LoOk.nil)) (Eq.trans (by kernel_rfl) hr)
def sheaveref09_Items_l0 (x_ : List UInt8 × List (List UInt8)) : Option ((Int) ⊕ (List (List UInt8))) :=
  match x_ with
  | (payload_1, b_1) =>
  if (!(decide (payload_1 = []))) = true then
    sheaveref09_cut payload_1 >>= fun r =>
    if (!r.2.2) = true then
      some (.inl 12)
    else
      some [r.1] >>= fun t20 =>
      if room 16 (b_1 ++ t20).length = true then
        sheaveref09_Items_l0 (r.2.1, b_1 ++ t20)
      else none
  else
    some (.inr b_1)
  partial_fixpoint
theorem F15_b : hasBody Tryz.prog 15 = true := by kernel_rfl
theorem F15_ok : Tryz.f15.body.bind (Go.Proofs.YthnmepafpikaiaaGreat.Shv.resolve Tryz.prog Tryz.f15.ntmps) = some (codeOf Tryz.prog Tryz.f15) := by kernel_rfl
theorem F15_res : resolveRes Tryz.prog Tryz.f15.results.toList = some [.tmp 2, .tmp 3] := by kernel_rfl
def sheaveref09_Items_l0_sh : Shape := ⟨[(0, .c (.hole .str)), (4, .c (.arr 0))], [.arr .str]⟩
def sheaveref09_Items_l0_ts : List Ty := [.str, .slice .str]
def sheaveref09_Items_l0_outs : List OSpec := [⟨.ret, ⟨[(2, .c (.cap0)), (3, .c (.hole (.int .i64)))], []⟩, [], [.int .i64]⟩, ⟨.exit 0, ⟨[(4, .c (.arr 0))], [.arr .str]⟩, [], [.slice .str]⟩]
def sheaveref09_Items_l0_p (F : Hs Un.D sheaveref09_Items_l0_ts → Option (OSum Un sheaveref09_Items_l0_outs)) : LSpec Un := ⟨sheaveref09_Items_l0_sh, [(.slot 4, .str)], sheaveref09_Items_l0_ts, sheaveref09_Items_l0_outs, F⟩
def sheaveref09_Items_l0_s : LSpec Un := sheaveref09_Items_l0_p sheaveref09_Items_l0
theorem sheaveref09_Items_l0_snd : LSnd Tryz.prog Tryz.f15.ntmps 0 (loopOf (codeOf Tryz.prog Tryz.f15) 0) sheaveref09_Items_l0_s := fun h o ho => sheaveref09_Items_l0.partial_correctness (fun h o => LAt (U := Un) Tryz.prog Tryz.f15.ntmps 0 (loopOf (codeOf Tryz.prog Tryz.f15) 0) sheaveref09_Items_l0_sh sheaveref09_Items_l0_ts sheaveref09_Items_l0_outs h o) (fun F1 HF1 h o ho => LAt.of_round (fo := foS [sheaveref09_cut_s]) (lo := loL []) (own := [(.slot 4, .str)]) (F' := F1) (FoSnd.cons F44_b sheaveref09_cut_snd FoSnd.nil) (LoOk.snd LoOk.nil) HF1 (Eq.trans (by kernel_rfl) ho)) h o ho
def sheaveref09_Items (payload : List UInt8) : Option (List (List UInt8) × Int) :=
  sheaveref09_Items_l0 (payload, []) >>= fun o =>
  match o with
  | .inl o_1 =>
    some ([], o_1)
  | .inr o_2 =>
    some (o_2, 0)
def sheaveref09_Items_p (F : Hs Un.D [.str] → Option (Hs Un.D [.slice .str, .int .i64])) : FSpec Un := ⟨15, [.c (.hole .str)], [], [.str], .tup [.c (.hole (.slice .str)), .c (.hole (.int .i64))], [], [.slice .str, .int .i64], F⟩
def sheaveref09_Items_s : FSpec Un := sheaveref09_Items_p sheaveref09_Items
theorem sheaveref09_Items_snd : FSnd Tryz.prog sheaveref09_Items_s := FSnd.of fun h r hr => FAt.of_body (s := sheaveref09_Items_s) (fo := foS []) (lo := loL [(0, sheaveref09_Items_l0_s)]) Tryz.func15 F15_ok F15_res (by kernel_rfl) FoSnd.nil (LoOk.snd (LoOk.cons sheaveref09_Items_l0_snd LoOk.nil)) (Eq.trans (by kernel_rfl) hr)
def sheaveref09_Arm (payload : List UInt8) : Option (Int × List UInt8 × Int) :=
  sheaveref03_Get payload >>= fun r =>
  if (bif bif (!(decide (r.2.2 = 0))) then true else decide (r.1 < 1) then true else decide (1000 < r.1)) = true then
    some (0, [], 12)
  else
    if slR r.2.1 (payload.length : Int) payload.length = true then
      some (wrp .i64 r.1, cutL payload r.2.1 (payload.length : Int), 0)
    else none
theorem F17_b : hasBody Tryz.prog 17 = true := by kernel_rfl
theorem F17_ok : Tryz.f17.body.bind (Go.Proofs.YthnmepafpikaiaaGreat.Shv.resolve Tryz.prog Tryz.f17.ntmps) = some (codeOf Tryz.prog Tryz.f17) := by kernel_rfl
theorem F17_res : resolveRes Tryz.prog Tryz.f17.results.toList = some [.tmp 2, .tmp 3, .tmp 4] := by kernel_rfl
def sheaveref09_Arm_p (F : Hs Un.D [.str] → Option (Hs Un.D [.int .i64, .str, .int .i64])) : FSpec Un := ⟨17, [.c (.hole .str)], [], [.str], .tup [.c (.hole (.int .i64)), .c (.hole .str), .c (.hole (.int .i64))], [], [.int .i64, .str, .int .i64], F⟩
def sheaveref09_Arm_s : FSpec Un := sheaveref09_Arm_p sheaveref09_Arm
theorem sheaveref09_Arm_snd : FSnd Tryz.prog sheaveref09_Arm_s := FSnd.of fun h r hr => FAt.of_body (s := sheaveref09_Arm_s) (fo := foS [sheaveref03_Get_s]) (lo := loL []) Tryz.func17 F17_ok F17_res (by kernel_rfl) (FoSnd.cons F43_b sheaveref03_Get_snd FoSnd.nil) (LoOk.snd LoOk.nil) (Eq.trans (by kernel_rfl) hr)
end Go.Proofs.YthnmepafpikaiaaGreat

namespace Go.Proofs.YthnmepafpikaiaaGreat
open Go Go.Proofs.YthnmepafpikaiaaGreat.Shv
set_option maxRecDepth 100000
set_option linter.all false

def sheaveref09_SameFields_l0 (x_ : List SField × List SField × Int) : Option ((Bool) ⊕ (Unit)) :=
  match x_ with
  | (a_1, b_1, i) =>
  if decide (i < (a_1.length : Int)) = true then
    if inR i a_1.length = true then
      some (a_1.getD i.toNat dSField) >>= fun x0 =>
      if inR i b_1.length = true then
        some (b_1.getD i.toNat dSField) >>= fun x0_1 =>
        if (!(eqI x0.ID x0_1.ID && (eqB x0.Critical x0_1.Critical && (eqS x0.Data x0_1.Data && true)))) = true then
          some (.inl false)
        else
          sheaveref09_SameFields_l0 (a_1, b_1, addI .i64 i 1)
      else none
    else none
  else
    some (.inr ())
  partial_fixpoint
theorem F18_b : hasBody Tryz.prog 18 = true := by kernel_rfl
theorem F18_ok : Tryz.f18.body.bind (Go.Proofs.YthnmepafpikaiaaGreat.Shv.resolve Tryz.prog Tryz.f18.ntmps) = some (codeOf Tryz.prog Tryz.f18) := by kernel_rfl
theorem F18_res : resolveRes Tryz.prog Tryz.f18.results.toList = some [.tmp 4] := by kernel_rfl
def sheaveref09_SameFields_l0_sh : Shape := ⟨[(0, .c (.hole (.slice (.nm 8)))), (1, .c (.hole (.slice (.nm 8)))), (5, .c (.hole (.int .i64)))], []⟩
def sheaveref09_SameFields_l0_ts : List Ty := [.slice (.nm 8), .slice (.nm 8), .int .i64]
def sheaveref09_SameFields_l0_outs : List OSpec := [⟨.ret, ⟨[(4, .c (.hole .bool))], []⟩, [], [.bool]⟩, ⟨.exit 0, ⟨[], []⟩, [], []⟩]
def sheaveref09_SameFields_l0_p (F : Hs Un.D sheaveref09_SameFields_l0_ts → Option (OSum Un sheaveref09_SameFields_l0_outs)) : LSpec Un := ⟨sheaveref09_SameFields_l0_sh, [], sheaveref09_SameFields_l0_ts, sheaveref09_SameFields_l0_outs, F⟩
def sheaveref09_SameFields_l0_s : LSpec Un := sheaveref09_SameFields_l0_p sheaveref09_SameFields_l0
theorem sheaveref09_SameFields_l0_snd : LSnd Tryz.prog Tryz.f18.ntmps 0 (loopOf (codeOf Tryz.prog Tryz.f18) 0) sheaveref09_SameFields_l0_s := fun h o ho => sheaveref09_SameFields_l0.partial_correctness (fun h o => LAt (U := Un) Tryz.prog Tryz.f18.ntmps 0 (loopOf (codeOf Tryz.prog Tryz.f18) 0) sheaveref09_SameFields_l0_sh sheaveref09_SameFields_l0_ts sheaveref09_SameFields_l0_outs h o) (fun F1 HF1 h o ho => LAt.of_round (fo := foS []) (lo := loL []) (own := []) (F' := F1) FoSnd.nil (LoOk.snd LoOk.nil) HF1 (Eq.trans (by kernel_rfl) ho)) h o ho
def sheaveref09_SameFields (x_ : List SField × List SField) : Option (Bool) :=
  match x_ with
  | (a, b) =>
  if (!(decide ((a.length : Int) = (b.length : Int)))) = true then
    some false
  else
    sheaveref09_SameFields_l0 (a, b, 0) >>= fun o =>
    match o with
    | .inl o_1 =>
      some o_1
    | .inr o_2 =>
      some true
def sheaveref09_SameFields_p (F : Hs Un.D [.slice (.nm 8), .slice (.nm 8)] → Option (Hs Un.D [.bool])) : FSpec Un := ⟨18, [.c (.hole (.slice (.nm 8))), .c (.hole (.slice (.nm 8)))], [], [.slice (.nm 8), .slice (.nm 8)], .c (.hole .bool), [], [.bool], F⟩
def sheaveref09_SameFields_s : FSpec Un := sheaveref09_SameFields_p sheaveref09_SameFields
theorem sheaveref09_SameFields_snd : FSnd Tryz.prog sheaveref09_SameFields_s := FSnd.of fun h r hr => FAt.of_body (s := sheaveref09_SameFields_s) (fo := foS []) (lo := loL [(0, sheaveref09_SameFields_l0_s)]) Tryz.func18 F18_ok F18_res (by kernel_rfl) FoSnd.nil (LoOk.snd (LoOk.cons sheaveref09_SameFields_l0_snd LoOk.nil)) (Eq.trans (by kernel_rfl) hr)
def sheaveref09_Strings_l0 (x_ : List (List UInt8) × List (List UInt8) × Int) : Option ((Bool) ⊕ (Unit)) :=
  match x_ with
  | (a_1, b_1, i) =>
  if decide (i < (a_1.length : Int)) = true then
    if inR i a_1.length = true then
      if inR i b_1.length = true then
        if (!(decide (a_1.getD i.toNat [] = b_1.getD i.toNat []))) = true then
          some (.inl false)
        else
          sheaveref09_Strings_l0 (a_1, b_1, addI .i64 i 1)
      else none
    else none
  else
    some (.inr ())
  partial_fixpoint
theorem F19_b : hasBody Tryz.prog 19 = true := by kernel_rfl
theorem F19_ok : Tryz.f19.body.bind (Go.Proofs.YthnmepafpikaiaaGreat.Shv.resolve Tryz.prog Tryz.f19.ntmps) = some (codeOf Tryz.prog Tryz.f19) := by kernel_rfl
theorem F19_res : resolveRes Tryz.prog Tryz.f19.results.toList = some [.tmp 4] := by kernel_rfl
def sheaveref09_Strings_l0_sh : Shape := ⟨[(0, .c (.hole (.slice .str))), (1, .c (.hole (.slice .str))), (5, .c (.hole (.int .i64)))], []⟩
def sheaveref09_Strings_l0_ts : List Ty := [.slice .str, .slice .str, .int .i64]
def sheaveref09_Strings_l0_outs : List OSpec := [⟨.ret, ⟨[(4, .c (.hole .bool))], []⟩, [], [.bool]⟩, ⟨.exit 0, ⟨[], []⟩, [], []⟩]
def sheaveref09_Strings_l0_p (F : Hs Un.D sheaveref09_Strings_l0_ts → Option (OSum Un sheaveref09_Strings_l0_outs)) : LSpec Un := ⟨sheaveref09_Strings_l0_sh, [], sheaveref09_Strings_l0_ts, sheaveref09_Strings_l0_outs, F⟩
def sheaveref09_Strings_l0_s : LSpec Un := sheaveref09_Strings_l0_p sheaveref09_Strings_l0
theorem sheaveref09_Strings_l0_snd : LSnd Tryz.prog Tryz.f19.ntmps 0 (loopOf (codeOf Tryz.prog Tryz.f19) 0) sheaveref09_Strings_l0_s := fun h o ho => sheaveref09_Strings_l0.partial_correctness (fun h o => LAt (U := Un) Tryz.prog Tryz.f19.ntmps 0 (loopOf (codeOf Tryz.prog Tryz.f19) 0) sheaveref09_Strings_l0_sh sheaveref09_Strings_l0_ts sheaveref09_Strings_l0_outs h o) (fun F1 HF1 h o ho => LAt.of_round (fo := foS []) (lo := loL []) (own := []) (F' := F1) FoSnd.nil (LoOk.snd LoOk.nil) HF1 (Eq.trans (by kernel_rfl) ho)) h o ho
def sheaveref09_Strings (x_ : List (List UInt8) × List (List UInt8)) : Option (Bool) :=
  match x_ with
  | (a, b) =>
  if (!(decide ((a.length : Int) = (b.length : Int)))) = true then
    some false
  else
    sheaveref09_Strings_l0 (a, b, 0) >>= fun o =>
    match o with
    | .inl o_1 =>
      some o_1
    | .inr o_2 =>
      some true
def sheaveref09_Strings_p (F : Hs Un.D [.slice .str, .slice .str] → Option (Hs Un.D [.bool])) : FSpec Un := ⟨19, [.c (.hole (.slice .str)), .c (.hole (.slice .str))], [], [.slice .str, .slice .str], .c (.hole .bool), [], [.bool], F⟩
def sheaveref09_Strings_s : FSpec Un := sheaveref09_Strings_p sheaveref09_Strings
theorem sheaveref09_Strings_snd : FSnd Tryz.prog sheaveref09_Strings_s := FSnd.of fun h r hr => FAt.of_body (s := sheaveref09_Strings_s) (fo := foS []) (lo := loL [(0, sheaveref09_Strings_l0_s)]) Tryz.func19 F19_ok F19_res (by kernel_rfl) FoSnd.nil (LoOk.snd (LoOk.cons sheaveref09_Strings_l0_snd LoOk.nil)) (Eq.trans (by kernel_rfl) hr)
def sheavelaw09_EncodeParts (payload : List UInt8) : Option (Bool) :=
  sheavelaw09_awake () >>= fun r =>
  if (bif (!r) then true else decide (300 < (payload.length : Int))) = true then
    sheavelaw09_awake () >>= fun r_1 =>
    some r_1
  else
    encode_Fields payload >>= fun r_2 =>
    sheaveref09_Fields payload >>= fun r_5 =>
    encode_Items payload >>= fun r_8 =>
    sheaveref09_Items payload >>= fun r_11 =>
    encode_Arm payload >>= fun r_14 =>
    sheaveref09_Arm payload >>= fun r_18 =>
    some (decide (r_2.2 = r_5.2)) >>= fun t59 =>
    (if t59 = true then sheaveref09_SameFields (r_2.1, r_5.1) else some false) >>= fun r_22 =>
    some (bif bif t59 then r_22 else false then decide (r_8.2 = r_11.2) else false) >>= fun t69 =>
    (if t69 = true then sheaveref09_Strings (r_8.1, r_11.1) else some false) >>= fun r_23 =>
    some (bif bif bif bif t69 then r_23 else false then decide (r_14.1 = r_18.1) else false then decide (r_14.2.1 = r_18.2.1) else false then decide (r_14.2.2 = r_18.2.2) else false)
theorem F3_b : hasBody Tryz.prog 3 = true := by kernel_rfl
theorem F3_ok : Tryz.f3.body.bind (Go.Proofs.YthnmepafpikaiaaGreat.Shv.resolve Tryz.prog Tryz.f3.ntmps) = some (codeOf Tryz.prog Tryz.f3) := by kernel_rfl
theorem F3_res : resolveRes Tryz.prog Tryz.f3.results.toList = some [.tmp 2] := by kernel_rfl
def sheavelaw09_EncodeParts_p (F : Hs Un.D [.str] → Option (Hs Un.D [.bool])) : FSpec Un := ⟨3, [.c (.hole .str)], [], [.str], .c (.hole .bool), [], [.bool], F⟩
def sheavelaw09_EncodeParts_s : FSpec Un := sheavelaw09_EncodeParts_p sheavelaw09_EncodeParts
theorem sheavelaw09_EncodeParts_snd : FSnd Tryz.prog sheavelaw09_EncodeParts_s := FSnd.of fun h r hr => FAt.of_body (s := sheavelaw09_EncodeParts_s) (fo := foS [sheavelaw09_awake_s, encode_Fields_s, sheaveref09_Fields_s, encode_Items_s, sheaveref09_Items_s, encode_Arm_s, sheaveref09_Arm_s, sheaveref09_SameFields_s, sheaveref09_Strings_s]) (lo := loL []) Tryz.func3 F3_ok F3_res (by kernel_rfl) (FoSnd.cons F11_b sheavelaw09_awake_snd (FoSnd.cons F12_b encode_Fields_snd (FoSnd.cons F13_b sheaveref09_Fields_snd (FoSnd.cons F14_b encode_Items_snd (FoSnd.cons F15_b sheaveref09_Items_snd (FoSnd.cons F16_b encode_Arm_snd (FoSnd.cons F17_b sheaveref09_Arm_snd (FoSnd.cons F18_b sheaveref09_SameFields_snd (FoSnd.cons F19_b sheaveref09_Strings_snd FoSnd.nil))))))))) (LoOk.snd LoOk.nil) (Eq.trans (by kernel_rfl) hr)
def encode_Field (x_ : Int × Bool × List UInt8) : Option (List UInt8 × Int) :=
  match x_ with
  | (id, critical, payload) =>
  if (bif decide (id < 1) then true else decide (1000 < id)) = true then
    some ([], 7)
  else
    if decide (4096 < (payload.length : Int)) = true then
      some ([], 3)
    else
      encode_field (id, critical, payload) >>= fun r =>
      some (r, 0)
theorem F35_b : hasBody Tryz.prog 35 = true := by kernel_rfl
theorem F35_ok : Tryz.f35.body.bind (Go.Proofs.YthnmepafpikaiaaGreat.Shv.resolve Tryz.prog Tryz.f35.ntmps) = some (codeOf Tryz.prog Tryz.f35) := by kernel_rfl
theorem F35_res : resolveRes Tryz.prog Tryz.f35.results.toList = some [.tmp 6, .tmp 7] := by kernel_rfl
def encode_Field_p (F : Hs Un.D [.int .i64, .bool, .str] → Option (Hs Un.D [.str, .int .i64])) : FSpec Un := ⟨35, [.c (.hole (.int .i64)), .c (.hole .bool), .c (.hole .str)], [], [.int .i64, .bool, .str], .tup [.c (.hole .str), .c (.hole (.int .i64))], [], [.str, .int .i64], F⟩
def encode_Field_s : FSpec Un := encode_Field_p encode_Field
theorem encode_Field_snd : FSnd Tryz.prog encode_Field_s := FSnd.of fun h r hr => FAt.of_body (s := encode_Field_s) (fo := foS [encode_field_s]) (lo := loL []) Tryz.func35 F35_ok F35_res (by kernel_rfl) (FoSnd.cons F68_b encode_field_snd FoSnd.nil) (LoOk.snd LoOk.nil) (Eq.trans (by kernel_rfl) hr)
def sheaveref03_Put_l0 (x_ : Int × List Int) : Option (Int × List Int) :=
  match x_ with
  | (n_2, b_1) =>
  if decide (128 ≤ n_2) = true then
    some [wrp .u8 (addI .u64 (remI n_2 128) 128)] >>= fun t11 =>
    if room 1 (b_1 ++ t11).length = true then
      sheaveref03_Put_l0 (quoI .u64 n_2 128, b_1 ++ t11)
    else none
  else
    some (n_2, b_1)
  partial_fixpoint
theorem F105_b : hasBody Tryz.prog 105 = true := by kernel_rfl
theorem F105_ok : Tryz.f105.body.bind (Go.Proofs.YthnmepafpikaiaaGreat.Shv.resolve Tryz.prog Tryz.f105.ntmps) = some (codeOf Tryz.prog Tryz.f105) := by kernel_rfl
theorem F105_res : resolveRes Tryz.prog Tryz.f105.results.toList = some [.tmp 2] := by kernel_rfl
def sheaveref03_Put_l0_sh : Shape := ⟨[(0, .c (.hole (.int .u64))), (3, .c (.arr 0))], [.arr (.int .u8)]⟩
def sheaveref03_Put_l0_ts : List Ty := [.int .u64, .slice (.int .u8)]
def sheaveref03_Put_l0_outs : List OSpec := [⟨.exit 0, ⟨[(0, .c (.hole (.int .u64))), (3, .c (.arr 0))], [.arr (.int .u8)]⟩, [], [.int .u64, .slice (.int .u8)]⟩]
def sheaveref03_Put_l0_p (F : Hs Un.D sheaveref03_Put_l0_ts → Option (OSum Un sheaveref03_Put_l0_outs)) : LSpec Un := ⟨sheaveref03_Put_l0_sh, [(.slot 3, .int .u8)], sheaveref03_Put_l0_ts, sheaveref03_Put_l0_outs, F⟩
def sheaveref03_Put_l0_s : LSpec Un := sheaveref03_Put_l0_p sheaveref03_Put_l0
theorem sheaveref03_Put_l0_snd : LSnd Tryz.prog Tryz.f105.ntmps 0 (loopOf (codeOf Tryz.prog Tryz.f105) 0) sheaveref03_Put_l0_s := fun h o ho => sheaveref03_Put_l0.partial_correctness (fun h o => LAt (U := Un) Tryz.prog Tryz.f105.ntmps 0 (loopOf (codeOf Tryz.prog Tryz.f105) 0) sheaveref03_Put_l0_sh sheaveref03_Put_l0_ts sheaveref03_Put_l0_outs h o) (fun F1 HF1 h o ho => LAt.of_round (fo := foS []) (lo := loL []) (own := [(.slot 3, .int .u8)]) (F' := F1) FoSnd.nil (LoOk.snd LoOk.nil) HF1 (Eq.trans (by kernel_rfl) ho)) h o ho
def sheaveref03_Put (n : Int) : Option (List UInt8) :=
  sheaveref03_Put_l0 (n, []) >>= fun o =>
  some [wrp .u8 o.1] >>= fun t18 =>
  if room 1 (o.2 ++ t18).length = true then
    some (strOf (o.2 ++ t18))
  else none
def sheaveref03_Put_p (F : Hs Un.D [.int .u64] → Option (Hs Un.D [.str])) : FSpec Un := ⟨105, [.c (.hole (.int .u64))], [], [.int .u64], .c (.hole .str), [], [.str], F⟩
def sheaveref03_Put_s : FSpec Un := sheaveref03_Put_p sheaveref03_Put
theorem sheaveref03_Put_snd : FSnd Tryz.prog sheaveref03_Put_s := FSnd.of fun h r hr => FAt.of_body (s := sheaveref03_Put_s) (fo := foS []) (lo := loL [(0, sheaveref03_Put_l0_s)]) Tryz.func105 F105_ok F105_res (by kernel_rfl) FoSnd.nil (LoOk.snd (LoOk.cons sheaveref03_Put_l0_snd LoOk.nil)) (Eq.trans (by kernel_rfl) hr)
def sheaveref09_part (p : List UInt8) : Option (List UInt8) :=
  sheaveref03_Put (wrp .u64 (p.length : Int)) >>= fun r =>
  if decide (r.length + p.length ≤ strMax) = true then
    some (r ++ p)
  else none
theorem F106_b : hasBody Tryz.prog 106 = true := by kernel_rfl
theorem F106_ok : Tryz.f106.body.bind (Go.Proofs.YthnmepafpikaiaaGreat.Shv.resolve Tryz.prog Tryz.f106.ntmps) = some (codeOf Tryz.prog Tryz.f106) := by kernel_rfl
theorem F106_res : resolveRes Tryz.prog Tryz.f106.results.toList = some [.tmp 2] := by kernel_rfl
def sheaveref09_part_p (F : Hs Un.D [.str] → Option (Hs Un.D [.str])) : FSpec Un := ⟨106, [.c (.hole .str)], [], [.str], .c (.hole .str), [], [.str], F⟩
def sheaveref09_part_s : FSpec Un := sheaveref09_part_p sheaveref09_part
theorem sheaveref09_part_snd : FSnd Tryz.prog sheaveref09_part_s := FSnd.of fun h r hr => FAt.of_body (s := sheaveref09_part_s) (fo := foS [sheaveref03_Put_s]) (lo := loL []) Tryz.func106 F106_ok F106_res (by kernel_rfl) (FoSnd.cons F105_b sheaveref03_Put_snd FoSnd.nil) (LoOk.snd LoOk.nil) (Eq.trans (by kernel_rfl) hr)
def sheaveref09_field (x_ : Int × Bool × List UInt8) : Option (List UInt8) :=
  match x_ with
  | (id, critical, p) =>
  some (wrp .u64 (mulI .i64 2 id)) >>= fun t10 =>
  if critical = true then
    sheaveref03_Put (addI .u64 t10 1) >>= fun r =>
    sheaveref09_part p >>= fun r_1 =>
    if decide (r.length + r_1.length ≤ strMax) = true then
      some (r ++ r_1)
    else none
  else
    sheaveref03_Put t10 >>= fun r_2 =>
    sheaveref09_part p >>= fun r_3 =>
    if decide (r_2.length + r_3.length ≤ strMax) = true then
      some (r_2 ++ r_3)
    else none
theorem F69_b : hasBody Tryz.prog 69 = true := by kernel_rfl
theorem F69_ok : Tryz.f69.body.bind (Go.Proofs.YthnmepafpikaiaaGreat.Shv.resolve Tryz.prog Tryz.f69.ntmps) = some (codeOf Tryz.prog Tryz.f69) := by kernel_rfl
theorem F69_res : resolveRes Tryz.prog Tryz.f69.results.toList = some [.tmp 6] := by kernel_rfl
def sheaveref09_field_p (F : Hs Un.D [.int .i64, .bool, .str] → Option (Hs Un.D [.str])) : FSpec Un := ⟨69, [.c (.hole (.int .i64)), .c (.hole .bool), .c (.hole .str)], [], [.int .i64, .bool, .str], .c (.hole .str), [], [.str], F⟩
def sheaveref09_field_s : FSpec Un := sheaveref09_field_p sheaveref09_field
theorem sheaveref09_field_snd : FSnd Tryz.prog sheaveref09_field_s := FSnd.of fun h r hr => FAt.of_body (s := sheaveref09_field_s) (fo := foS [sheaveref03_Put_s, sheaveref09_part_s]) (lo := loL []) Tryz.func69 F69_ok F69_res (by kernel_rfl) (FoSnd.cons F105_b sheaveref03_Put_snd (FoSnd.cons F106_b sheaveref09_part_snd FoSnd.nil)) (LoOk.snd LoOk.nil) (Eq.trans (by kernel_rfl) hr)
def sheaveref09_Field (x_ : Int × Bool × List UInt8) : Option (List UInt8 × Int) :=
  match x_ with
  | (id, critical, payload) =>
  if (bif decide (id < 1) then true else decide (1000 < id)) = true then
    some ([], 7)
  else
    if decide (4096 < (payload.length : Int)) = true then
      some ([], 3)
    else
      sheaveref09_field (id, critical, payload) >>= fun r =>
      some (r, 0)
theorem F36_b : hasBody Tryz.prog 36 = true := by kernel_rfl
theorem F36_ok : Tryz.f36.body.bind (Go.Proofs.YthnmepafpikaiaaGreat.Shv.resolve Tryz.prog Tryz.f36.ntmps) = some (codeOf Tryz.prog Tryz.f36) := by kernel_rfl
theorem F36_res : resolveRes Tryz.prog Tryz.f36.results.toList = some [.tmp 6, .tmp 7] := by kernel_rfl
def sheaveref09_Field_p (F : Hs Un.D [.int .i64, .bool, .str] → Option (Hs Un.D [.str, .int .i64])) : FSpec Un := ⟨36, [.c (.hole (.int .i64)), .c (.hole .bool), .c (.hole .str)], [], [.int .i64, .bool, .str], .tup [.c (.hole .str), .c (.hole (.int .i64))], [], [.str, .int .i64], F⟩
def sheaveref09_Field_s : FSpec Un := sheaveref09_Field_p sheaveref09_Field
theorem sheaveref09_Field_snd : FSnd Tryz.prog sheaveref09_Field_s := FSnd.of fun h r hr => FAt.of_body (s := sheaveref09_Field_s) (fo := foS [sheaveref09_field_s]) (lo := loL []) Tryz.func36 F36_ok F36_res (by kernel_rfl) (FoSnd.cons F69_b sheaveref09_field_snd FoSnd.nil) (LoOk.snd LoOk.nil) (Eq.trans (by kernel_rfl) hr)
def sheavelaw09_EncodeField (x_ : Int × Bool × List UInt8) : Option (Bool) :=
  match x_ with
  | (id, critical, payload) =>
  sheavelaw09_awake () >>= fun r =>
  if (bif (!r) then true else decide (5000 < (payload.length : Int))) = true then
    sheavelaw09_awake () >>= fun r_1 =>
    some r_1
  else
    encode_Field (id, critical, payload) >>= fun r_2 =>
    sheaveref09_Field (id, critical, payload) >>= fun r_5 =>
    if (bif bif (!(decide (r_2.1 = r_5.1))) then true else (!(decide (r_2.2 = r_5.2))) then true else (!(decide (r_2.2 = 0)))) = true then
      some (bif decide (r_2.1 = r_5.1) then decide (r_2.2 = r_5.2) else false)
    else
      encode_Fields r_2.1 >>= fun r_8 =>
      some (decide (r_8.2 = 0)) >>= fun t61 =>
      (if t61 = true then sheaveref09_SameFields (r_8.1, [(⟨id, critical, payload⟩ : SField)]) else some false) >>= fun r_11 =>
      some (bif t61 then r_11 else false)
theorem F8_b : hasBody Tryz.prog 8 = true := by kernel_rfl
theorem F8_ok : Tryz.f8.body.bind (Go.Proofs.YthnmepafpikaiaaGreat.Shv.resolve Tryz.prog Tryz.f8.ntmps) = some (codeOf Tryz.prog Tryz.f8) := by kernel_rfl
theorem F8_res : resolveRes Tryz.prog Tryz.f8.results.toList = some [.tmp 6] := by kernel_rfl
def sheavelaw09_EncodeField_p (F : Hs Un.D [.int .i64, .bool, .str] → Option (Hs Un.D [.bool])) : FSpec Un := ⟨8, [.c (.hole (.int .i64)), .c (.hole .bool), .c (.hole .str)], [], [.int .i64, .bool, .str], .c (.hole .bool), [], [.bool], F⟩
def sheavelaw09_EncodeField_s : FSpec Un := sheavelaw09_EncodeField_p sheavelaw09_EncodeField
theorem sheavelaw09_EncodeField_snd : FSnd Tryz.prog sheavelaw09_EncodeField_s := FSnd.of fun h r hr => FAt.of_body (s := sheavelaw09_EncodeField_s) (fo := foS [sheavelaw09_awake_s, encode_Field_s, sheaveref09_Field_s, encode_Fields_s, sheaveref09_SameFields_s]) (lo := loL []) Tryz.func8 F8_ok F8_res (by kernel_rfl) (FoSnd.cons F11_b sheavelaw09_awake_snd (FoSnd.cons F35_b encode_Field_snd (FoSnd.cons F36_b sheaveref09_Field_snd (FoSnd.cons F12_b encode_Fields_snd (FoSnd.cons F18_b sheaveref09_SameFields_snd FoSnd.nil))))) (LoOk.snd LoOk.nil) (Eq.trans (by kernel_rfl) hr)
end Go.Proofs.YthnmepafpikaiaaGreat

namespace Go.Proofs.YthnmepafpikaiaaGreat
open Go Go.Proofs.YthnmepafpikaiaaGreat.Shv
set_option maxRecDepth 100000
set_option linter.all false

def sheavelaw09_example_k (_ : Unit) : Option (SSchema) :=
  some (⟨[(⟨2, [], (-10), 10, 0, [], [], 0, 0, false⟩ : SType), (⟨2, [], 0, 5, 0, [], [], 0, 0, false⟩ : SType), (⟨3, [], 0, 0, 8, [], [], 0, 0, false⟩ : SType), (⟨5, [80, 111, 105, 110, 116], 0, 0, 0, [], [(⟨1, [120], 0, false, false, (⟨0, false, 0, [], 0, [], [], []⟩ : SValue)⟩ : SMember), (⟨2, [121], 1, false, true, (⟨2, false, 3, [], 0, [], [], []⟩ : SValue)⟩ : SMember), (⟨3, [116, 97, 103], 2, true, false, (⟨0, false, 0, [], 0, [], [], []⟩ : SValue)⟩ : SMember)], 0, 0, false⟩ : SType)]⟩ : SSchema)
theorem sheavelaw09_example_le : ∀ x, Le (sheavelaw09_example_k x) (sheavelaw09_example x) := fun _ => Le.r
def sheavelaw09_point_k (x_ : Int × Int) : Option (SValue) :=
  match x_ with
  | (x0, y) =>
  some (⟨5, false, 0, [], 0, [], [(⟨2, false, x0, [], 0, [], [], []⟩ : SValue), (⟨2, false, y, [], 0, [], [], []⟩ : SValue), (⟨3, false, 0, [97, 98], 0, [], [], []⟩ : SValue)], []⟩ : SValue)
theorem sheavelaw09_point_le : ∀ x, Le (sheavelaw09_point_k x) (sheavelaw09_point x) := fun x => match x with | (_, _) => Le.r
def slices_Equalapi_Symbol_api_Symbol_l0_t : Nat → (List SSymbol × List SSymbol × Int × Int → Option ((Bool) ⊕ (Unit)))
  | 0 => fun _ => none
  | fuel + 1 =>
   fun (x_ : List SSymbol × List SSymbol × Int × Int) => match x_ with
    | (s1_1, s2_1, t12_1, t13) =>
    if decide (t13 < t12_1) = true then
      if inR t13 s1_1.length = true then
        some (s1_1.getD t13.toNat dSSymbol) >>= fun x0 =>
        if inR t13 s2_1.length = true then
          some (s2_1.getD t13.toNat dSSymbol) >>= fun x0_1 =>
          if (!(eqI x0.ID x0_1.ID && (eqS x0.Name x0_1.Name && true))) = true then
            some (.inl false)
          else
            (slices_Equalapi_Symbol_api_Symbol_l0_t fuel) (s1_1, s2_1, t12_1, addI .i64 t13 1)
        else none
      else none
    else
      some (.inr ())
theorem slices_Equalapi_Symbol_api_Symbol_l0_t_le : ∀ n, (∀ x, Le ((slices_Equalapi_Symbol_api_Symbol_l0_t n) x) (slices_Equalapi_Symbol_api_Symbol_l0 x))
  | 0 => fun _ => Le.n
  | fuel + 1 => fun x => match x with | (_, _, _, _) => by rw [slices_Equalapi_Symbol_api_Symbol_l0]; exact (Le.i (Le.i (Le.b Le.r fun _ => (Le.i (Le.b Le.r fun _ => (Le.i Le.r ((slices_Equalapi_Symbol_api_Symbol_l0_t_le fuel) _))) Le.r)) Le.r) Le.r)
def slices_Equalapi_Symbol_api_Symbol_l0_k (x : List SSymbol × List SSymbol × Int × Int) : Option ((Bool) ⊕ (Unit)) := (slices_Equalapi_Symbol_api_Symbol_l0_t 40) x
theorem slices_Equalapi_Symbol_api_Symbol_l0_le : ∀ x, Le (slices_Equalapi_Symbol_api_Symbol_l0_k x) (slices_Equalapi_Symbol_api_Symbol_l0 x) := (slices_Equalapi_Symbol_api_Symbol_l0_t_le 40)
def slices_Equalapi_Symbol_api_Symbol_k (x_ : List SSymbol × List SSymbol) : Option (Bool) :=
  match x_ with
  | (s1, s2) =>
  if (!(decide ((s1.length : Int) = (s2.length : Int)))) = true then
    some false
  else
    slices_Equalapi_Symbol_api_Symbol_l0_k (s1, s2, (s1.length : Int), 0) >>= fun o =>
    match o with
    | .inl o_1 =>
      some o_1
    | .inr o_2 =>
      some true
theorem slices_Equalapi_Symbol_api_Symbol_le : ∀ x, Le (slices_Equalapi_Symbol_api_Symbol_k x) (slices_Equalapi_Symbol_api_Symbol x) := fun x => match x with | (_, _) => (Le.i Le.r (Le.b (slices_Equalapi_Symbol_api_Symbol_l0_le _) fun _ => Le.r))
def slices_Equalapi_Raw_api_Raw_l0_t : Nat → (List SRaw × List SRaw × Int × Int → Option ((Bool) ⊕ (Unit)))
  | 0 => fun _ => none
  | fuel + 1 =>
   fun (x_ : List SRaw × List SRaw × Int × Int) => match x_ with
    | (s1_1, s2_1, t12_1, t13) =>
    if decide (t13 < t12_1) = true then
      if inR t13 s1_1.length = true then
        some (s1_1.getD t13.toNat dSRaw) >>= fun x0 =>
        if inR t13 s2_1.length = true then
          some (s2_1.getD t13.toNat dSRaw) >>= fun x0_1 =>
          if (!(eqI x0.ID x0_1.ID && (eqS x0.Data x0_1.Data && true))) = true then
            some (.inl false)
          else
            (slices_Equalapi_Raw_api_Raw_l0_t fuel) (s1_1, s2_1, t12_1, addI .i64 t13 1)
        else none
      else none
    else
      some (.inr ())
theorem slices_Equalapi_Raw_api_Raw_l0_t_le : ∀ n, (∀ x, Le ((slices_Equalapi_Raw_api_Raw_l0_t n) x) (slices_Equalapi_Raw_api_Raw_l0 x))
  | 0 => fun _ => Le.n
  | fuel + 1 => fun x => match x with | (_, _, _, _) => by rw [slices_Equalapi_Raw_api_Raw_l0]; exact (Le.i (Le.i (Le.b Le.r fun _ => (Le.i (Le.b Le.r fun _ => (Le.i Le.r ((slices_Equalapi_Raw_api_Raw_l0_t_le fuel) _))) Le.r)) Le.r) Le.r)
def slices_Equalapi_Raw_api_Raw_l0_k (x : List SRaw × List SRaw × Int × Int) : Option ((Bool) ⊕ (Unit)) := (slices_Equalapi_Raw_api_Raw_l0_t 40) x
theorem slices_Equalapi_Raw_api_Raw_l0_le : ∀ x, Le (slices_Equalapi_Raw_api_Raw_l0_k x) (slices_Equalapi_Raw_api_Raw_l0 x) := (slices_Equalapi_Raw_api_Raw_l0_t_le 40)
def slices_Equalapi_Raw_api_Raw_k (x_ : List SRaw × List SRaw) : Option (Bool) :=
  match x_ with
  | (s1, s2) =>
  if (!(decide ((s1.length : Int) = (s2.length : Int)))) = true then
    some false
  else
    slices_Equalapi_Raw_api_Raw_l0_k (s1, s2, (s1.length : Int), 0) >>= fun o =>
    match o with
    | .inl o_1 =>
      some o_1
    | .inr o_2 =>
      some true
theorem slices_Equalapi_Raw_api_Raw_le : ∀ x, Le (slices_Equalapi_Raw_api_Raw_k x) (slices_Equalapi_Raw_api_Raw x) := fun x => match x with | (_, _) => (Le.i Le.r (Le.b (slices_Equalapi_Raw_api_Raw_l0_le _) fun _ => Le.r))
def schema_same_t : Nat → (SValue × SValue → Option (Bool)) × (List SValue × List SValue → Option (Bool)) × (List SValue × List SValue × Int × Int → Option ((Bool) ⊕ (Unit)))
  | 0 => (fun _ => none, fun _ => none, fun _ => none)
  | fuel + 1 =>
   (fun (x_ : SValue × SValue) => match x_ with
    | (a, b) =>
    some (bif bif bif bif decide (a.Kind = b.Kind) then eqB a.Bool_ b.Bool_ else false then decide (a.Int_ = b.Int_) else false then decide (a.Str = b.Str) else false then decide (a.ID = b.ID) else false) >>= fun t37 =>
    (if t37 = true then slices_Equalapi_Raw_api_Raw_k (a.Rest, b.Rest) else some false) >>= fun r =>
    some (bif t37 then r else false) >>= fun t44 =>
    (if t44 = true then (schema_same_t fuel).2.1 (a.Keys, b.Keys) else some false) >>= fun r_1 =>
    some (bif t44 then r_1 else false) >>= fun t51 =>
    (if t51 = true then (schema_same_t fuel).2.1 (a.Items, b.Items) else some false) >>= fun r_2 =>
    some (bif t51 then r_2 else false),
   fun (x_ : List SValue × List SValue) => match x_ with
    | (s1, s2) =>
    if (!(decide ((s1.length : Int) = (s2.length : Int)))) = true then
      some false
    else
      (schema_same_t fuel).2.2 (s2, s1, (s1.length : Int), 0) >>= fun o =>
      match o with
      | .inl o_1 =>
        some o_1
      | .inr o_2 =>
        some true,
   fun (x_ : List SValue × List SValue × Int × Int) => match x_ with
    | (s2_1, t15, t16_1, t17) =>
    if decide (t17 < t16_1) = true then
      if inR t17 t15.length = true then
        if inR t17 s2_1.length = true then
          (schema_same_t fuel).1 (SValue.eta (t15.getD t17.toNat dSValue), SValue.eta (s2_1.getD t17.toNat dSValue)) >>= fun r =>
          if (!r) = true then
            some (.inl false)
          else
            (schema_same_t fuel).2.2 (s2_1, t15, t16_1, addI .i64 t17 1)
        else none
      else none
    else
      some (.inr ()))
theorem schema_same_t_le : ∀ n, (∀ x, Le ((schema_same_t n).1 x) (schema_same x)) ∧ (∀ x, Le ((schema_same_t n).2.1 x) (slices_EqualFuncapi_Value_api_Value_api_Value_api_Value x)) ∧ (∀ x, Le ((schema_same_t n).2.2 x) (slices_EqualFuncapi_Value_api_Value_api_Value_api_Value_l0 x))
  | 0 => ⟨fun _ => Le.n, fun _ => Le.n, fun _ => Le.n⟩
  | fuel + 1 => ⟨fun x => match x with | (_, _) => by rw [schema_same]; exact (Le.b Le.r fun _ => (Le.b (Le.i (slices_Equalapi_Raw_api_Raw_le _) Le.r) fun _ => (Le.b Le.r fun _ => (Le.b (Le.i ((schema_same_t_le fuel).2.1 _) Le.r) fun _ => (Le.b Le.r fun _ => (Le.b (Le.i ((schema_same_t_le fuel).2.1 _) Le.r) fun _ => Le.r)))))),
    fun x => match x with | (_, _) => by rw [slices_EqualFuncapi_Value_api_Value_api_Value_api_Value]; exact (Le.i Le.r (Le.b ((schema_same_t_le fuel).2.2 _) fun _ => Le.r)),
    fun x => match x with | (_, _, _, _) => by rw [slices_EqualFuncapi_Value_api_Value_api_Value_api_Value_l0]; exact (Le.i (Le.i (Le.i (Le.b ((schema_same_t_le fuel).1 _) fun _ => (Le.i Le.r ((schema_same_t_le fuel).2.2 _))) Le.r) Le.r) Le.r)⟩
def schema_same_k (x : SValue × SValue) : Option (Bool) := (schema_same_t 40).1 x
theorem schema_same_le : ∀ x, Le (schema_same_k x) (schema_same x) := (schema_same_t_le 40).1
def slices_EqualFuncapi_Value_api_Value_api_Value_api_Value_k (x : List SValue × List SValue) : Option (Bool) := (schema_same_t 40).2.1 x
theorem slices_EqualFuncapi_Value_api_Value_api_Value_api_Value_le : ∀ x, Le (slices_EqualFuncapi_Value_api_Value_api_Value_api_Value_k x) (slices_EqualFuncapi_Value_api_Value_api_Value_api_Value x) := (schema_same_t_le 40).2.1
def slices_EqualFuncapi_Value_api_Value_api_Value_api_Value_l0_k (x : List SValue × List SValue × Int × Int) : Option ((Bool) ⊕ (Unit)) := (schema_same_t 40).2.2 x
theorem slices_EqualFuncapi_Value_api_Value_api_Value_api_Value_l0_le : ∀ x, Le (slices_EqualFuncapi_Value_api_Value_api_Value_api_Value_l0_k x) (slices_EqualFuncapi_Value_api_Value_api_Value_api_Value_l0 x) := (schema_same_t_le 40).2.2
def schema_equal_1_k (x_ : SMember × SMember) : Option (Bool) :=
  match x_ with
  | (x0, y) =>
  some (bif bif bif bif decide (x0.ID = y.ID) then decide (x0.Name = y.Name) else false then decide (x0.Type_ = y.Type_) else false then eqB x0.Critical y.Critical else false then eqB x0.HasDefault y.HasDefault else false) >>= fun t37 =>
  (if t37 = true then schema_same_k ((⟨x0.Default.Kind, x0.Default.Bool_, x0.Default.Int_, x0.Default.Str, x0.Default.ID, x0.Default.Keys, x0.Default.Items, x0.Default.Rest⟩ : SValue), SValue.eta y.Default) else some false) >>= fun r =>
  some (bif t37 then r else false)
theorem schema_equal_1_le : ∀ x, Le (schema_equal_1_k x) (schema_equal_1 x) := fun x => match x with | (_, _) => (Le.b Le.r fun _ => (Le.b (Le.i (schema_same_le _) Le.r) fun _ => Le.r))
def slices_EqualFuncapi_Member_api_Member_api_Member_api_Member_l0_t : Nat → (List SMember × List SMember × Int × Int → Option ((Bool) ⊕ (Unit)))
  | 0 => fun _ => none
  | fuel + 1 =>
   fun (x_ : List SMember × List SMember × Int × Int) => match x_ with
    | (s2_1, t15, t16_1, t17) =>
    if decide (t17 < t16_1) = true then
      if inR t17 t15.length = true then
        some (t15.getD t17.toNat dSMember) >>= fun x0 =>
        if inR t17 s2_1.length = true then
          some (s2_1.getD t17.toNat dSMember) >>= fun x0_1 =>
          schema_equal_1_k ((⟨x0.ID, x0.Name, x0.Type_, x0.Critical, x0.HasDefault, SValue.eta x0.Default⟩ : SMember), (⟨x0_1.ID, x0_1.Name, x0_1.Type_, x0_1.Critical, x0_1.HasDefault, SValue.eta x0_1.Default⟩ : SMember)) >>= fun r =>
          if (!r) = true then
            some (.inl false)
          else
            (slices_EqualFuncapi_Member_api_Member_api_Member_api_Member_l0_t fuel) (s2_1, t15, t16_1, addI .i64 t17 1)
        else none
      else none
    else
      some (.inr ())
theorem slices_EqualFuncapi_Member_api_Member_api_Member_api_Member_l0_t_le : ∀ n, (∀ x, Le ((slices_EqualFuncapi_Member_api_Member_api_Member_api_Member_l0_t n) x) (slices_EqualFuncapi_Member_api_Member_api_Member_api_Member_l0 x))
  | 0 => fun _ => Le.n
  | fuel + 1 => fun x => match x with | (_, _, _, _) => by rw [slices_EqualFuncapi_Member_api_Member_api_Member_api_Member_l0]; exact (Le.i (Le.i (Le.b Le.r fun _ => (Le.i (Le.b Le.r fun _ => (Le.b (schema_equal_1_le _) fun _ => (Le.i Le.r ((slices_EqualFuncapi_Member_api_Member_api_Member_api_Member_l0_t_le fuel) _)))) Le.r)) Le.r) Le.r)
def slices_EqualFuncapi_Member_api_Member_api_Member_api_Member_l0_k (x : List SMember × List SMember × Int × Int) : Option ((Bool) ⊕ (Unit)) := (slices_EqualFuncapi_Member_api_Member_api_Member_api_Member_l0_t 40) x
theorem slices_EqualFuncapi_Member_api_Member_api_Member_api_Member_l0_le : ∀ x, Le (slices_EqualFuncapi_Member_api_Member_api_Member_api_Member_l0_k x) (slices_EqualFuncapi_Member_api_Member_api_Member_api_Member_l0 x) := (slices_EqualFuncapi_Member_api_Member_api_Member_api_Member_l0_t_le 40)
def slices_EqualFuncapi_Member_api_Member_api_Member_api_Member_k (x_ : List SMember × List SMember) : Option (Bool) :=
  match x_ with
  | (s1, s2) =>
  if (!(decide ((s1.length : Int) = (s2.length : Int)))) = true then
    some false
  else
    slices_EqualFuncapi_Member_api_Member_api_Member_api_Member_l0_k (s2, s1, (s1.length : Int), 0) >>= fun o =>
    match o with
    | .inl o_1 =>
      some o_1
    | .inr o_2 =>
      some true
theorem slices_EqualFuncapi_Member_api_Member_api_Member_api_Member_le : ∀ x, Le (slices_EqualFuncapi_Member_api_Member_api_Member_api_Member_k x) (slices_EqualFuncapi_Member_api_Member_api_Member_api_Member x) := fun x => match x with | (_, _) => (Le.i Le.r (Le.b (slices_EqualFuncapi_Member_api_Member_api_Member_api_Member_l0_le _) fun _ => Le.r))
def schema_equal_k (x_ : SType × SType) : Option (Bool) :=
  match x_ with
  | (a, b) =>
  some (bif bif bif bif bif bif bif decide (a.Kind = b.Kind) then decide (a.Name = b.Name) else false then decide (a.Low = b.Low) else false then decide (a.High = b.High) else false then decide (a.Max = b.Max) else false then decide (a.Key = b.Key) else false then decide (a.Elem = b.Elem) else false then eqB a.Open b.Open else false) >>= fun t58 =>
  (if t58 = true then slices_Equalapi_Symbol_api_Symbol_k (a.Symbols, b.Symbols) else some false) >>= fun r =>
  some (bif t58 then r else false) >>= fun t65 =>
  (if t65 = true then slices_EqualFuncapi_Member_api_Member_api_Member_api_Member_k (a.Members, b.Members) else some false) >>= fun r_1 =>
  some (bif t65 then r_1 else false)
theorem schema_equal_le : ∀ x, Le (schema_equal_k x) (schema_equal x) := fun x => match x with | (_, _) => (Le.b Le.r fun _ => (Le.b (Le.i (slices_Equalapi_Symbol_api_Symbol_le _) Le.r) fun _ => (Le.b Le.r fun _ => (Le.b (Le.i (slices_EqualFuncapi_Member_api_Member_api_Member_api_Member_le _) Le.r) fun _ => Le.r))))
def lexer_isLetter_k (c : Int) : Option (Bool) :=
  some (bif bif decide (c = 95) then true else bif decide (97 ≤ c) then decide (c ≤ 122) else false then true else bif decide (65 ≤ c) then decide (c ≤ 90) else false)
theorem lexer_isLetter_le : ∀ x, Le (lexer_isLetter_k x) (lexer_isLetter x) := fun _ => Le.r
def lexer_isDigit_k (c : Int) : Option (Bool) :=
  some (bif decide (48 ≤ c) then decide (c ≤ 57) else false)
theorem lexer_isDigit_le : ∀ x, Le (lexer_isDigit_k x) (lexer_isDigit x) := fun _ => Le.r
def lexer_IsName_l0_t : Nat → (List UInt8 × Int × Int → Option ((Bool) ⊕ (Unit)))
  | 0 => fun _ => none
  | fuel + 1 =>
   fun (x_ : List UInt8 × Int × Int) => match x_ with
    | (s_1, t18_1, t19) =>
    if decide (t19 < t18_1) = true then
      if inR t19 s_1.length = true then
        lexer_isLetter_k (byteAt s_1 t19) >>= fun r_1 =>
        some (!r_1) >>= fun t26 =>
        if (inR t19 s_1.length || (!t26)) = true then
          (if t26 = true then lexer_isDigit_k (byteAt s_1 t19) else some false) >>= fun r_2 =>
          if (bif t26 then (!r_2) else false) = true then
            some (.inl false)
          else
            (lexer_IsName_l0_t fuel) (s_1, t18_1, addI .i64 t19 1)
        else none
      else none
    else
      some (.inr ())
theorem lexer_IsName_l0_t_le : ∀ n, (∀ x, Le ((lexer_IsName_l0_t n) x) (lexer_IsName_l0 x))
  | 0 => fun _ => Le.n
  | fuel + 1 => fun x => match x with | (_, _, _) => by rw [lexer_IsName_l0]; exact (Le.i (Le.i (Le.b (lexer_isLetter_le _) fun _ => (Le.b Le.r fun _ => (Le.i (Le.b (Le.i (lexer_isDigit_le _) Le.r) fun _ => (Le.i Le.r ((lexer_IsName_l0_t_le fuel) _))) Le.r))) Le.r) Le.r)
def lexer_IsName_l0_k (x : List UInt8 × Int × Int) : Option ((Bool) ⊕ (Unit)) := (lexer_IsName_l0_t 40) x
theorem lexer_IsName_l0_le : ∀ x, Le (lexer_IsName_l0_k x) (lexer_IsName_l0 x) := (lexer_IsName_l0_t_le 40)
def lexer_IsName_k (s : List UInt8) : Option (Bool) :=
  some (bif decide (s = []) then true else decide (24 < (s.length : Int))) >>= fun t10 =>
  if (inR 0 s.length || (!(!t10))) = true then
    (if (!t10) = true then lexer_isLetter_k (byteAt s 0) else some false) >>= fun r =>
    if (bif t10 then true else (!r)) = true then
      some false
    else
      lexer_IsName_l0_k (s, (s.length : Int), 0) >>= fun o =>
      match o with
      | .inl o_1 =>
        some o_1
      | .inr o_2 =>
        some true
  else none
theorem lexer_IsName_le : ∀ x, Le (lexer_IsName_k x) (lexer_IsName x) := fun _ => (Le.b Le.r fun _ => (Le.i (Le.b (Le.i (lexer_isLetter_le _) Le.r) fun _ => (Le.i Le.r (Le.b (lexer_IsName_l0_le _) fun _ => Le.r))) Le.r))
def schema_ids_l0_t : Nat → (List Int × List (List UInt8) × List Int × Int × Int × List (List UInt8) → Option ((Bool) ⊕ (List Int)))
  | 0 => fun _ => none
  | fuel + 1 =>
   fun (x_ : List Int × List (List UInt8) × List Int × Int × Int × List (List UInt8)) => match x_ with
    | (l_2, names_1, t9, t10_1, t11, b) =>
    if decide (t11 < t10_1) = true then
      if inR t11 t9.length = true then
        some (t9.getD t11.toNat 0) >>= fun x0 =>
        some (bif decide (x0 < 1) then true else decide (1000 < x0)) >>= fun t21 =>
        some (decide (0 < t11)) >>= fun t24 =>
        some (subI .i64 t11 1) >>= fun t29 =>
        if (inR t29 l_2.length || (!((!t21) && t24))) = true then
          some (bif t21 then true else bif t24 then decide (x0 ≤ l_2.getD t29.toNat 0) else false) >>= fun t34 =>
          if (inR t11 names_1.length || (!(!t34))) = true then
            some (bif t34 then true else hasS b (names_1.getD t11.toNat [])) >>= fun t42 =>
            if (inR t11 names_1.length || (!(!t42))) = true then
              (if (!t42) = true then lexer_IsName_k (names_1.getD t11.toNat []) else some false) >>= fun r =>
              if (bif t42 then true else (!r)) = true then
                some (.inl false)
              else
                if inR t11 names_1.length = true then
                  (schema_ids_l0_t fuel) (l_2, names_1, t9, t10_1, addI .i64 t11 1, addS b (names_1.getD t11.toNat []))
                else none
            else none
          else none
        else none
      else none
    else
      some (.inr l_2)
theorem schema_ids_l0_t_le : ∀ n, (∀ x, Le ((schema_ids_l0_t n) x) (schema_ids_l0 x))
  | 0 => fun _ => Le.n
  | fuel + 1 => fun x => match x with | (_, _, _, _, _, _) => by rw [schema_ids_l0]; exact (Le.i (Le.i (Le.b Le.r fun _ => (Le.b Le.r fun _ => (Le.b Le.r fun _ => (Le.b Le.r fun _ => (Le.i (Le.b Le.r fun _ => (Le.i (Le.b Le.r fun _ => (Le.i (Le.b (Le.i (lexer_IsName_le _) Le.r) fun _ => (Le.i Le.r (Le.i ((schema_ids_l0_t_le fuel) _) Le.r))) Le.r)) Le.r)) Le.r))))) Le.r) Le.r)
def schema_ids_l0_k (x : List Int × List (List UInt8) × List Int × Int × Int × List (List UInt8)) : Option ((Bool) ⊕ (List Int)) := (schema_ids_l0_t 40) x
theorem schema_ids_l0_le : ∀ x, Le (schema_ids_l0_k x) (schema_ids_l0 x) := (schema_ids_l0_t_le 40)
def schema_ids_k (x_ : List Int × List (List UInt8)) : Option (Bool) :=
  match x_ with
  | (l, names) =>
  schema_ids_l0_k (l, names, l, (l.length : Int), 0, []) >>= fun o =>
  match o with
  | .inl o_1 =>
    some o_1
  | .inr o_2 =>
    some (decide ((o_2.length : Int) ≤ 16))
theorem schema_ids_le : ∀ x, Le (schema_ids_k x) (schema_ids x) := fun x => match x with | (_, _) => (Le.b (schema_ids_l0_le _) fun _ => Le.r)
def schema_symbols_l0_t : Nat → (List SSymbol × List SSymbol × Int × Int × List Int × List (List UInt8) → Option (List SSymbol × List Int × List (List UInt8)))
  | 0 => fun _ => none
  | fuel + 1 =>
   fun (x_ : List SSymbol × List SSymbol × Int × Int × List Int × List (List UInt8)) => match x_ with
    | (l_2, t7, t8_1, t9, b_2, b_3) =>
    if decide (t9 < t8_1) = true then
      if inR t9 t7.length = true then
        some (t7.getD t9.toNat dSSymbol) >>= fun x0 =>
        some [x0.ID] >>= fun t16 =>
        if room 8 (b_2 ++ t16).length = true then
          some [x0.Name] >>= fun t21 =>
          if room 16 (b_3 ++ t21).length = true then
            (schema_symbols_l0_t fuel) (l_2, t7, t8_1, addI .i64 t9 1, b_2 ++ t16, b_3 ++ t21)
          else none
        else none
      else none
    else
      some (l_2, b_2, b_3)
theorem schema_symbols_l0_t_le : ∀ n, (∀ x, Le ((schema_symbols_l0_t n) x) (schema_symbols_l0 x))
  | 0 => fun _ => Le.n
  | fuel + 1 => fun x => match x with | (_, _, _, _, _, _) => by rw [schema_symbols_l0]; exact (Le.i (Le.i (Le.b Le.r fun _ => (Le.b Le.r fun _ => (Le.i (Le.b Le.r fun _ => (Le.i ((schema_symbols_l0_t_le fuel) _) Le.r)) Le.r))) Le.r) Le.r)
def schema_symbols_l0_k (x : List SSymbol × List SSymbol × Int × Int × List Int × List (List UInt8)) : Option (List SSymbol × List Int × List (List UInt8)) := (schema_symbols_l0_t 40) x
theorem schema_symbols_l0_le : ∀ x, Le (schema_symbols_l0_k x) (schema_symbols_l0 x) := (schema_symbols_l0_t_le 40)
def schema_symbols_k (l : List SSymbol) : Option (Bool) :=
  schema_symbols_l0_k (l, l, (l.length : Int), 0, [], []) >>= fun o =>
  some (decide (0 < (o.1.length : Int))) >>= fun t26 =>
  (if t26 = true then schema_ids_k (o.2.1, o.2.2) else some false) >>= fun r =>
  some (bif t26 then r else false)
theorem schema_symbols_le : ∀ x, Le (schema_symbols_k x) (schema_symbols x) := fun _ => (Le.b (schema_symbols_l0_le _) fun _ => (Le.b Le.r fun _ => (Le.b (Le.i (schema_ids_le _) Le.r) fun _ => Le.r)))
def schema_blank_k (v : SValue) : Option (Bool) :=
  schema_same_k (SValue.eta v, (⟨0, false, 0, [], 0, [], [], []⟩ : SValue)) >>= fun r =>
  some r
theorem schema_blank_le : ∀ x, Le (schema_blank_k x) (schema_blank x) := fun _ => (Le.b (schema_same_le _) fun _ => Le.r)
def schema_members_l0_t : Nat → (List SMember × Int × Int × SType × List Int × List (List UInt8) → Option ((Bool) ⊕ (SType × List Int × List (List UInt8))))
  | 0 => fun _ => none
  | fuel + 1 =>
   fun (x_ : List SMember × Int × Int × SType × List Int × List (List UInt8)) => match x_ with
    | (t8, t9_1, t10, b_3, b_4, b_5) =>
    if decide (t10 < t9_1) = true then
      if inR t10 t8.length = true then
        some (t8.getD t10.toNat dSMember) >>= fun x0 =>
        some [x0.ID] >>= fun t17 =>
        if room 8 (b_4 ++ t17).length = true then
          some [x0.Name] >>= fun t22 =>
          if room 16 (b_5 ++ t22).length = true then
            some (bif bif decide (b_3.Kind = 6) then bif x0.Critical then true else x0.HasDefault else false then true else bif x0.Critical then x0.HasDefault else false) >>= fun t42 =>
            some (!x0.HasDefault) >>= fun t46 =>
            (if ((!t42) && t46) = true then schema_blank_k (SValue.eta x0.Default) else some false) >>= fun r_1 =>
            if (bif t42 then true else bif t46 then (!r_1) else false) = true then
              some (.inl false)
            else
              (schema_members_l0_t fuel) (t8, t9_1, addI .i64 t10 1, b_3, b_4 ++ t17, b_5 ++ t22)
          else none
        else none
      else none
    else
      some (.inr (b_3, b_4, b_5))
theorem schema_members_l0_t_le : ∀ n, (∀ x, Le ((schema_members_l0_t n) x) (schema_members_l0 x))
  | 0 => fun _ => Le.n
  | fuel + 1 => fun x => match x with | (_, _, _, _, _, _) => by rw [schema_members_l0]; exact (Le.i (Le.i (Le.b Le.r fun _ => (Le.b Le.r fun _ => (Le.i (Le.b Le.r fun _ => (Le.i (Le.b Le.r fun _ => (Le.b Le.r fun _ => (Le.b (Le.i (schema_blank_le _) Le.r) fun _ => (Le.i Le.r ((schema_members_l0_t_le fuel) _))))) Le.r)) Le.r))) Le.r) Le.r)
def schema_members_l0_k (x : List SMember × Int × Int × SType × List Int × List (List UInt8)) : Option ((Bool) ⊕ (SType × List Int × List (List UInt8))) := (schema_members_l0_t 40) x
theorem schema_members_l0_le : ∀ x, Le (schema_members_l0_k x) (schema_members_l0 x) := (schema_members_l0_t_le 40)
def schema_members_k (t : SType) : Option (Bool) :=
  schema_members_l0_k (t.Members, (t.Members.length : Int), 0, t, [], []) >>= fun o =>
  match o with
  | .inl o_1 =>
    some o_1
  | .inr o_2 =>
    some (bif decide (o_2.1.Kind = 5) then true else decide (0 < (o_2.2.1.length : Int))) >>= fun t62 =>
    (if t62 = true then schema_ids_k (o_2.2.1, o_2.2.2) else some false) >>= fun r =>
    some (bif t62 then r else false)
theorem schema_members_le : ∀ x, Le (schema_members_k x) (schema_members x) := fun _ => (Le.b (schema_members_l0_le _) fun o => match o with | .inl _ => Le.r | .inr _ => (Le.b Le.r fun _ => (Le.b (Le.i (schema_ids_le _) Le.r) fun _ => Le.r)))
def schema_form_k (t : SType) : Option (Bool) :=
  if decide (t.Kind = 1) = true then
    schema_equal_k ((⟨0, t.Name, t.Low, t.High, t.Max, t.Symbols, t.Members, t.Key, t.Elem, t.Open⟩ : SType), (⟨0, [], 0, 0, 0, [], [], 0, 0, false⟩ : SType)) >>= fun r =>
    some r
  else
    if decide (t.Kind = 2) = true then
      some (decide (t.Low ≤ t.High)) >>= fun t17 =>
      (if t17 = true then schema_equal_k ((⟨0, t.Name, 0, 0, t.Max, t.Symbols, t.Members, t.Key, t.Elem, t.Open⟩ : SType), (⟨0, [], 0, 0, 0, [], [], 0, 0, false⟩ : SType)) else some false) >>= fun r_1 =>
      some (bif t17 then r_1 else false)
    else
      if decide (t.Kind = 3) = true then
        some (bif decide (0 ≤ t.Max) then decide (t.Max ≤ 200) else false) >>= fun t29 =>
        (if t29 = true then schema_equal_k ((⟨0, t.Name, t.Low, t.High, 0, t.Symbols, t.Members, t.Key, t.Elem, t.Open⟩ : SType), (⟨0, [], 0, 0, 0, [], [], 0, 0, false⟩ : SType)) else some false) >>= fun r_2 =>
        some (bif t29 then r_2 else false)
      else
        if decide (t.Kind = 4) = true then
          lexer_IsName_k t.Name >>= fun r_3 =>
          (if r_3 = true then schema_symbols_k t.Symbols else some false) >>= fun r_4 =>
          some (bif r_3 then r_4 else false) >>= fun t40 =>
          (if t40 = true then schema_equal_k ((⟨0, [], t.Low, t.High, t.Max, [], t.Members, t.Key, t.Elem, false⟩ : SType), (⟨0, [], 0, 0, 0, [], [], 0, 0, false⟩ : SType)) else some false) >>= fun r_5 =>
          some (bif t40 then r_5 else false)
        else
          some (decide (t.Kind = 5)) >>= fun t45 =>
          if t45 = true then
            if t45 = true then
              lexer_IsName_k t.Name >>= fun r_6 =>
              (if r_6 = true then schema_members_k t else some false) >>= fun r_7 =>
              some (bif r_6 then r_7 else false) >>= fun t53 =>
              (if t53 = true then schema_equal_k ((⟨0, [], t.Low, t.High, t.Max, t.Symbols, [], t.Key, t.Elem, bif t.Open then decide (t.Kind = 5) else false⟩ : SType), (⟨0, [], 0, 0, 0, [], [], 0, 0, false⟩ : SType)) else some false) >>= fun r_8 =>
              some (bif t53 then r_8 else false)
            else
              some (decide (t.Kind = 7)) >>= fun t65 =>
              if t65 = true then
                if t65 = true then
                  some (bif decide (0 ≤ t.Max) then decide (t.Max ≤ 50) else false) >>= fun t74 =>
                  if decide (t.Kind = 8) = true then
                    (if t74 = true then schema_equal_k ((⟨0, t.Name, t.Low, t.High, 0, t.Symbols, t.Members, 0, 0, t.Open⟩ : SType), (⟨0, [], 0, 0, 0, [], [], 0, 0, false⟩ : SType)) else some false) >>= fun r_9 =>
                    some (bif t74 then r_9 else false)
                  else
                    (if t74 = true then schema_equal_k ((⟨0, t.Name, t.Low, t.High, 0, t.Symbols, t.Members, t.Key, 0, t.Open⟩ : SType), (⟨0, [], 0, 0, 0, [], [], 0, 0, false⟩ : SType)) else some false) >>= fun r_10 =>
                    some (bif t74 then r_10 else false)
                else
                  if decide (t.Kind = 9) = true then
                    schema_equal_k ((⟨0, t.Name, t.Low, t.High, t.Max, t.Symbols, t.Members, t.Key, 0, t.Open⟩ : SType), (⟨0, [], 0, 0, 0, [], [], 0, 0, false⟩ : SType)) >>= fun r_11 =>
                    some r_11
                  else
                    some false
              else
                if decide (t.Kind = 8) = true then
                  some (bif decide (0 ≤ t.Max) then decide (t.Max ≤ 50) else false) >>= fun t74_1 =>
                  if decide (t.Kind = 8) = true then
                    (if t74_1 = true then schema_equal_k ((⟨0, t.Name, t.Low, t.High, 0, t.Symbols, t.Members, 0, 0, t.Open⟩ : SType), (⟨0, [], 0, 0, 0, [], [], 0, 0, false⟩ : SType)) else some false) >>= fun r_12 =>
                    some (bif t74_1 then r_12 else false)
                  else
                    (if t74_1 = true then schema_equal_k ((⟨0, t.Name, t.Low, t.High, 0, t.Symbols, t.Members, t.Key, 0, t.Open⟩ : SType), (⟨0, [], 0, 0, 0, [], [], 0, 0, false⟩ : SType)) else some false) >>= fun r_13 =>
                    some (bif t74_1 then r_13 else false)
                else
                  if decide (t.Kind = 9) = true then
                    schema_equal_k ((⟨0, t.Name, t.Low, t.High, t.Max, t.Symbols, t.Members, t.Key, 0, t.Open⟩ : SType), (⟨0, [], 0, 0, 0, [], [], 0, 0, false⟩ : SType)) >>= fun r_14 =>
                    some r_14
                  else
                    some false
          else
            if decide (t.Kind = 6) = true then
              lexer_IsName_k t.Name >>= fun r_15 =>
              (if r_15 = true then schema_members_k t else some false) >>= fun r_16 =>
              some (bif r_15 then r_16 else false) >>= fun t53_1 =>
              (if t53_1 = true then schema_equal_k ((⟨0, [], t.Low, t.High, t.Max, t.Symbols, [], t.Key, t.Elem, bif t.Open then decide (t.Kind = 5) else false⟩ : SType), (⟨0, [], 0, 0, 0, [], [], 0, 0, false⟩ : SType)) else some false) >>= fun r_17 =>
              some (bif t53_1 then r_17 else false)
            else
              some (decide (t.Kind = 7)) >>= fun t65_1 =>
              if t65_1 = true then
                if t65_1 = true then
                  some (bif decide (0 ≤ t.Max) then decide (t.Max ≤ 50) else false) >>= fun t74_2 =>
                  if decide (t.Kind = 8) = true then
                    (if t74_2 = true then schema_equal_k ((⟨0, t.Name, t.Low, t.High, 0, t.Symbols, t.Members, 0, 0, t.Open⟩ : SType), (⟨0, [], 0, 0, 0, [], [], 0, 0, false⟩ : SType)) else some false) >>= fun r_18 =>
                    some (bif t74_2 then r_18 else false)
                  else
                    (if t74_2 = true then schema_equal_k ((⟨0, t.Name, t.Low, t.High, 0, t.Symbols, t.Members, t.Key, 0, t.Open⟩ : SType), (⟨0, [], 0, 0, 0, [], [], 0, 0, false⟩ : SType)) else some false) >>= fun r_19 =>
                    some (bif t74_2 then r_19 else false)
                else
                  if decide (t.Kind = 9) = true then
                    schema_equal_k ((⟨0, t.Name, t.Low, t.High, t.Max, t.Symbols, t.Members, t.Key, 0, t.Open⟩ : SType), (⟨0, [], 0, 0, 0, [], [], 0, 0, false⟩ : SType)) >>= fun r_20 =>
                    some r_20
                  else
                    some false
              else
                if decide (t.Kind = 8) = true then
                  some (bif decide (0 ≤ t.Max) then decide (t.Max ≤ 50) else false) >>= fun t74_3 =>
                  if decide (t.Kind = 8) = true then
                    (if t74_3 = true then schema_equal_k ((⟨0, t.Name, t.Low, t.High, 0, t.Symbols, t.Members, 0, 0, t.Open⟩ : SType), (⟨0, [], 0, 0, 0, [], [], 0, 0, false⟩ : SType)) else some false) >>= fun r_21 =>
                    some (bif t74_3 then r_21 else false)
                  else
                    (if t74_3 = true then schema_equal_k ((⟨0, t.Name, t.Low, t.High, 0, t.Symbols, t.Members, t.Key, 0, t.Open⟩ : SType), (⟨0, [], 0, 0, 0, [], [], 0, 0, false⟩ : SType)) else some false) >>= fun r_22 =>
                    some (bif t74_3 then r_22 else false)
                else
                  if decide (t.Kind = 9) = true then
                    schema_equal_k ((⟨0, t.Name, t.Low, t.High, t.Max, t.Symbols, t.Members, t.Key, 0, t.Open⟩ : SType), (⟨0, [], 0, 0, 0, [], [], 0, 0, false⟩ : SType)) >>= fun r_23 =>
                    some r_23
                  else
                    some false
theorem schema_form_le : ∀ x, Le (schema_form_k x) (schema_form x) := fun _ => (Le.i (Le.b (schema_equal_le _) fun _ => Le.r) (Le.i (Le.b Le.r fun _ => (Le.b (Le.i (schema_equal_le _) Le.r) fun _ => Le.r)) (Le.i (Le.b Le.r fun _ => (Le.b (Le.i (schema_equal_le _) Le.r) fun _ => Le.r)) (Le.i (Le.b (lexer_IsName_le _) fun _ => (Le.b (Le.i (schema_symbols_le _) Le.r) fun _ => (Le.b Le.r fun _ => (Le.b (Le.i (schema_equal_le _) Le.r) fun _ => Le.r)))) (Le.b Le.r fun _ => (Le.i (Le.i (Le.b (lexer_IsName_le _) fun _ => (Le.b (Le.i (schema_members_le _) Le.r) fun _ => (Le.b Le.r fun _ => (Le.b (Le.i (schema_equal_le _) Le.r) fun _ => Le.r)))) (Le.b Le.r fun _ => (Le.i (Le.i (Le.b Le.r fun _ => (Le.i (Le.b (Le.i (schema_equal_le _) Le.r) fun _ => Le.r) (Le.b (Le.i (schema_equal_le _) Le.r) fun _ => Le.r))) (Le.i (Le.b (schema_equal_le _) fun _ => Le.r) Le.r)) (Le.i (Le.b Le.r fun _ => (Le.i (Le.b (Le.i (schema_equal_le _) Le.r) fun _ => Le.r) (Le.b (Le.i (schema_equal_le _) Le.r) fun _ => Le.r))) (Le.i (Le.b (schema_equal_le _) fun _ => Le.r) Le.r))))) (Le.i (Le.b (lexer_IsName_le _) fun _ => (Le.b (Le.i (schema_members_le _) Le.r) fun _ => (Le.b Le.r fun _ => (Le.b (Le.i (schema_equal_le _) Le.r) fun _ => Le.r)))) (Le.b Le.r fun _ => (Le.i (Le.i (Le.b Le.r fun _ => (Le.i (Le.b (Le.i (schema_equal_le _) Le.r) fun _ => Le.r) (Le.b (Le.i (schema_equal_le _) Le.r) fun _ => Le.r))) (Le.i (Le.b (schema_equal_le _) fun _ => Le.r) Le.r)) (Le.i (Le.b Le.r fun _ => (Le.i (Le.b (Le.i (schema_equal_le _) Le.r) fun _ => Le.r) (Le.b (Le.i (schema_equal_le _) Le.r) fun _ => Le.r))) (Le.i (Le.b (schema_equal_le _) fun _ => Le.r) Le.r)))))))))))
def schema_uses_l0_t : Nat → (List SMember × Int × Int × SType × List Int → Option (SType × List Int))
  | 0 => fun _ => none
  | fuel + 1 =>
   fun (x_ : List SMember × Int × Int × SType × List Int) => match x_ with
    | (t7, t8_1, t9, b_2, b_3) =>
    if decide (t9 < t8_1) = true then
      if inR t9 t7.length = true then
        some [(t7.getD t9.toNat dSMember).Type_] >>= fun t16 =>
        if room 8 (b_3 ++ t16).length = true then
          (schema_uses_l0_t fuel) (t7, t8_1, addI .i64 t9 1, b_2, b_3 ++ t16)
        else none
      else none
    else
      some (b_2, b_3)
theorem schema_uses_l0_t_le : ∀ n, (∀ x, Le ((schema_uses_l0_t n) x) (schema_uses_l0 x))
  | 0 => fun _ => Le.n
  | fuel + 1 => fun x => match x with | (_, _, _, _, _) => by rw [schema_uses_l0]; exact (Le.i (Le.i (Le.b Le.r fun _ => (Le.i ((schema_uses_l0_t_le fuel) _) Le.r)) Le.r) Le.r)
def schema_uses_l0_k (x : List SMember × Int × Int × SType × List Int) : Option (SType × List Int) := (schema_uses_l0_t 40) x
theorem schema_uses_l0_le : ∀ x, Le (schema_uses_l0_k x) (schema_uses_l0 x) := (schema_uses_l0_t_le 40)
def schema_uses_k (t : SType) : Option (List Int) :=
  schema_uses_l0_k (t.Members, (t.Members.length : Int), 0, t, []) >>= fun o =>
  if decide (o.1.Kind = 8) = true then
    some [o.1.Key] >>= fun t25 =>
    if room 8 (o.2 ++ t25).length = true then
      some (o.2 ++ t25) >>= fun l =>
      if decide (7 ≤ o.1.Kind) = true then
        some [o.1.Elem] >>= fun t33 =>
        if room 8 (l ++ t33).length = true then
          some (l ++ t33)
        else none
      else
        some l
    else none
  else
    if decide (7 ≤ o.1.Kind) = true then
      some [o.1.Elem] >>= fun t33_1 =>
      if room 8 (o.2 ++ t33_1).length = true then
        some (o.2 ++ t33_1)
      else none
    else
      some o.2
theorem schema_uses_le : ∀ x, Le (schema_uses_k x) (schema_uses x) := fun _ => (Le.b (schema_uses_l0_le _) fun _ => Le.r)
def schema_Valid_l0_0_t : Nat → (List SType × Int × Int × List Int × Int × Int × List SType × List (List UInt8) × Int × List UInt8 × Int × Int × Int × List SSymbol × List SMember × Int × Int × Bool → Option ((Int) ⊕ (List SType × Int × Int × List SType × List (List UInt8) × Int × List UInt8 × Int × Int × Int × List SSymbol × List SMember × Int × Int × Bool)))
  | 0 => fun _ => none
  | fuel + 1 =>
   fun (x_ : List SType × Int × Int × List Int × Int × Int × List SType × List (List UInt8) × Int × List UInt8 × Int × Int × Int × List SSymbol × List SMember × Int × Int × Bool) => match x_ with
    | (t14_2, t15_3, t16_2, t38, t39_1, t40, b_14, b_15, b_16, b_17, b_18, b_19, b_20, b_21, b_22, b_23, b_24, b_25) =>
    if decide (t40 < t39_1) = true then
      if inR t40 t38.length = true then
        some (t38.getD t40.toNat 0) >>= fun x0_3 =>
        if (bif decide (x0_3 < 0) then true else decide ((b_14.length : Int) ≤ x0_3)) = true then
          some (.inl 4)
        else
          (schema_Valid_l0_0_t fuel) (t14_2, t15_3, t16_2, t38, t39_1, addI .i64 t40 1, b_14, b_15, b_16, b_17, b_18, b_19, b_20, b_21, b_22, b_23, b_24, b_25)
      else none
    else
      some (.inr (t14_2, t15_3, t16_2, b_14, b_15, b_16, b_17, b_18, b_19, b_20, b_21, b_22, b_23, b_24, b_25))
theorem schema_Valid_l0_0_t_le : ∀ n, (∀ x, Le ((schema_Valid_l0_0_t n) x) (schema_Valid_l0_0 x))
  | 0 => fun _ => Le.n
  | fuel + 1 => fun x => match x with | (_, _, _, _, _, _, _, _, _, _, _, _, _, _, _, _, _, _) => by rw [schema_Valid_l0_0]; exact (Le.i (Le.i (Le.b Le.r fun _ => (Le.i Le.r ((schema_Valid_l0_0_t_le fuel) _))) Le.r) Le.r)
def schema_Valid_l0_0_k (x : List SType × Int × Int × List Int × Int × Int × List SType × List (List UInt8) × Int × List UInt8 × Int × Int × Int × List SSymbol × List SMember × Int × Int × Bool) : Option ((Int) ⊕ (List SType × Int × Int × List SType × List (List UInt8) × Int × List UInt8 × Int × Int × Int × List SSymbol × List SMember × Int × Int × Bool)) := (schema_Valid_l0_0_t 40) x
theorem schema_Valid_l0_0_le : ∀ x, Le (schema_Valid_l0_0_k x) (schema_Valid_l0_0 x) := (schema_Valid_l0_0_t_le 40)
def schema_Valid_l0_t : Nat → (List SType × Int × Int × List SType × List (List UInt8) → Option ((Int) ⊕ (Unit)))
  | 0 => fun _ => none
  | fuel + 1 =>
   fun (x_ : List SType × Int × Int × List SType × List (List UInt8)) => match x_ with
    | (t14, t15_1, t16, b, b_1) =>
    if decide (t16 < t15_1) = true then
      if inR t16 t14.length = true then
        some (t14.getD t16.toNat dSType) >>= fun x0 =>
        schema_form_k x0 >>= fun r =>
        if (bif (!r) then true else bif (!(decide (x0.Name = []))) then hasS b_1 x0.Name else false) = true then
          some (.inl 1)
        else
          schema_uses_k x0 >>= fun r_1 =>
          schema_Valid_l0_0_k (t14, t15_1, t16, r_1, (r_1.length : Int), 0, b, addS b_1 x0.Name, x0.Kind, x0.Name, x0.Low, x0.High, x0.Max, x0.Symbols, x0.Members, x0.Key, x0.Elem, x0.Open) >>= fun o_3 =>
          match o_3 with
          | .inl o_4 =>
            some (.inl o_4)
          | .inr o_5 =>
            some (decide (o_5.2.2.2.2.2.1 = 8)) >>= fun t56 =>
            if (inR o_5.2.2.2.2.2.2.2.2.2.2.2.2.1 o_5.2.2.2.1.length || (!t56)) = true then
              some (decide ((o_5.2.2.2.1.getD o_5.2.2.2.2.2.2.2.2.2.2.2.2.1.toNat dSType).Kind < 1)) >>= fun t65 =>
              if (inR o_5.2.2.2.2.2.2.2.2.2.2.2.2.1 o_5.2.2.2.1.length || (!(t56 && (!t65)))) = true then
                if (bif t56 then bif t65 then true else decide (4 < (o_5.2.2.2.1.getD o_5.2.2.2.2.2.2.2.2.2.2.2.2.1.toNat dSType).Kind) else false) = true then
                  some (.inl 1)
                else
                  (schema_Valid_l0_t fuel) (o_5.1, o_5.2.1, addI .i64 o_5.2.2.1 1, o_5.2.2.2.1, o_5.2.2.2.2.1)
              else none
            else none
      else none
    else
      some (.inr ())
theorem schema_Valid_l0_t_le : ∀ n, (∀ x, Le ((schema_Valid_l0_t n) x) (schema_Valid_l0 x))
  | 0 => fun _ => Le.n
  | fuel + 1 => fun x => match x with | (_, _, _, _, _) => by rw [schema_Valid_l0]; exact (Le.i (Le.i (Le.b Le.r fun _ => (Le.b (schema_form_le _) fun _ => (Le.i Le.r (Le.b (schema_uses_le _) fun _ => (Le.b (schema_Valid_l0_0_le _) fun o => match o with | .inl _ => Le.r | .inr _ => (Le.b Le.r fun _ => (Le.i (Le.b Le.r fun _ => (Le.i (Le.i Le.r ((schema_Valid_l0_t_le fuel) _)) Le.r)) Le.r))))))) Le.r) Le.r)
def schema_Valid_l0_k (x : List SType × Int × Int × List SType × List (List UInt8)) : Option ((Int) ⊕ (Unit)) := (schema_Valid_l0_t 40) x
theorem schema_Valid_l0_le : ∀ x, Le (schema_Valid_l0_k x) (schema_Valid_l0 x) := (schema_Valid_l0_t_le 40)
def schema_Valid_k (s : SSchema) : Option (Int) :=
  if decide (32 < (s.Types.length : Int)) = true then
    some 3
  else
    schema_Valid_l0_k (s.Types, (s.Types.length : Int), 0, s.Types, []) >>= fun o =>
    match o with
    | .inl o_1 =>
      some o_1
    | .inr o_2 =>
      some 0
theorem schema_Valid_le : ∀ x, Le (schema_Valid_k x) (schema_Valid x) := fun _ => (Le.i Le.r (Le.b (schema_Valid_l0_le _) fun _ => Le.r))
def encode_errorOf_k (x_ : SSchema × Int) : Option (Int) :=
  match x_ with
  | (s, t) =>
  schema_Valid_k (⟨s.Types⟩ : SSchema) >>= fun r =>
  if (!(decide (r = 0))) = true then
    some r
  else
    if (bif decide (t < 0) then true else decide ((s.Types.length : Int) ≤ t)) = true then
      some 4
    else
      some 0
theorem encode_errorOf_le : ∀ x, Le (encode_errorOf_k x) (encode_errorOf x) := fun x => match x with | (_, _) => (Le.b (schema_Valid_le _) fun _ => Le.r)
def value_bare_k (v : SValue) : Option (SValue) :=
  if decide (v.Kind = 1) = true then
    some (⟨v.Kind, v.Bool_, 0, [], 0, [], [], []⟩ : SValue)
  else
    if decide (v.Kind = 2) = true then
      some (⟨v.Kind, false, v.Int_, [], 0, [], [], []⟩ : SValue)
    else
      if decide (v.Kind = 3) = true then
        some (⟨v.Kind, false, 0, v.Str, 0, [], [], []⟩ : SValue)
      else
        if decide (v.Kind = 4) = true then
          some (⟨v.Kind, false, 0, [], v.ID, [], [], []⟩ : SValue)
        else
          if decide (v.Kind = 5) = true then
            some (⟨v.Kind, false, 0, [], 0, [], v.Items, v.Rest⟩ : SValue)
          else
            if decide (v.Kind = 6) = true then
              some (⟨v.Kind, false, 0, [], v.ID, [], v.Items, v.Rest⟩ : SValue)
            else
              if decide (v.Kind = 8) = true then
                some (⟨v.Kind, false, 0, [], 0, v.Keys, v.Items, []⟩ : SValue)
              else
                some (decide (v.Kind = 7)) >>= fun t57 =>
                if t57 = true then
                  if t57 = true then
                    some (⟨v.Kind, false, 0, [], 0, [], v.Items, []⟩ : SValue)
                  else
                    some (⟨v.Kind, false, 0, [], 0, [], [], []⟩ : SValue)
                else
                  if decide (v.Kind = 9) = true then
                    some (⟨v.Kind, false, 0, [], 0, [], v.Items, []⟩ : SValue)
                  else
                    some (⟨v.Kind, false, 0, [], 0, [], [], []⟩ : SValue)
theorem value_bare_le : ∀ x, Le (value_bare_k x) (value_bare x) := fun _ => Le.r
def value_proper_k (v : SValue) : Option (Bool) :=
  value_bare_k (SValue.eta v) >>= fun r =>
  some (bif bif bif bif bif bif eqB v.Bool_ r.Bool_ then decide (v.Int_ = r.Int_) else false then decide (v.Str = r.Str) else false then decide (v.ID = r.ID) else false then decide ((v.Keys.length : Int) = (r.Keys.length : Int)) else false then decide ((v.Items.length : Int) = (r.Items.length : Int)) else false then decide ((v.Rest.length : Int) = (r.Rest.length : Int)) else false)
theorem value_proper_le : ∀ x, Le (value_proper_k x) (value_proper x) := fun _ => (Le.b (value_bare_le _) fun _ => Le.r)
def schema_Symbol_1_k (x_ : SSymbol × Int) : Option (Bool × Int) :=
  match x_ with
  | (x0, b) =>
  some (decide (x0.ID = b), b)
theorem schema_Symbol_1_le : ∀ x, Le (schema_Symbol_1_k x) (schema_Symbol_1 x) := fun x => match x with | (_, _) => Le.r
def slices_IndexFuncapi_Symbol_api_Symbol_l0_t : Nat → (List SSymbol × Int × Int × Int → Option ((Int × Int) ⊕ (Int)))
  | 0 => fun _ => none
  | fuel + 1 =>
   fun (x_ : List SSymbol × Int × Int × Int) => match x_ with
    | (s_1, t7_1, t8, b_3) =>
    if decide (t8 < t7_1) = true then
      if inR t8 s_1.length = true then
        schema_Symbol_1_k (s_1.getD t8.toNat dSSymbol, b_3) >>= fun r =>
        if r.1 = true then
          some (.inl (t8, r.2))
        else
          (slices_IndexFuncapi_Symbol_api_Symbol_l0_t fuel) (s_1, t7_1, addI .i64 t8 1, r.2)
      else none
    else
      some (.inr b_3)
theorem slices_IndexFuncapi_Symbol_api_Symbol_l0_t_le : ∀ n, (∀ x, Le ((slices_IndexFuncapi_Symbol_api_Symbol_l0_t n) x) (slices_IndexFuncapi_Symbol_api_Symbol_l0 x))
  | 0 => fun _ => Le.n
  | fuel + 1 => fun x => match x with | (_, _, _, _) => by rw [slices_IndexFuncapi_Symbol_api_Symbol_l0]; exact (Le.i (Le.i (Le.b (schema_Symbol_1_le _) fun _ => (Le.i Le.r ((slices_IndexFuncapi_Symbol_api_Symbol_l0_t_le fuel) _))) Le.r) Le.r)
def slices_IndexFuncapi_Symbol_api_Symbol_l0_k (x : List SSymbol × Int × Int × Int) : Option ((Int × Int) ⊕ (Int)) := (slices_IndexFuncapi_Symbol_api_Symbol_l0_t 40) x
theorem slices_IndexFuncapi_Symbol_api_Symbol_l0_le : ∀ x, Le (slices_IndexFuncapi_Symbol_api_Symbol_l0_k x) (slices_IndexFuncapi_Symbol_api_Symbol_l0 x) := (slices_IndexFuncapi_Symbol_api_Symbol_l0_t_le 40)
def slices_IndexFuncapi_Symbol_api_Symbol_k (x_ : List SSymbol × Int) : Option (Int × Int) :=
  match x_ with
  | (s, b) =>
  slices_IndexFuncapi_Symbol_api_Symbol_l0_k (s, (s.length : Int), 0, b) >>= fun o =>
  match o with
  | .inl o_1 =>
    some (o_1.1, o_1.2)
  | .inr o_2 =>
    some ((-1), o_2)
theorem slices_IndexFuncapi_Symbol_api_Symbol_le : ∀ x, Le (slices_IndexFuncapi_Symbol_api_Symbol_k x) (slices_IndexFuncapi_Symbol_api_Symbol x) := fun x => match x with | (_, _) => (Le.b (slices_IndexFuncapi_Symbol_api_Symbol_l0_le _) fun _ => Le.r)
def schema_Symbol_k (x_ : SType × Int) : Option (Int × Bool) :=
  match x_ with
  | (t, id) =>
  slices_IndexFuncapi_Symbol_api_Symbol_k (t.Symbols, id) >>= fun r =>
  some (maxI r.1 0, decide (0 ≤ r.1))
theorem schema_Symbol_le : ∀ x, Le (schema_Symbol_k x) (schema_Symbol x) := fun x => match x with | (_, _) => (Le.b (slices_IndexFuncapi_Symbol_api_Symbol_le _) fun _ => Le.r)
def value_free_k (id : Int) : Option (Bool) :=
  some (bif decide (1 ≤ id) then decide (id ≤ 1000) else false)
theorem value_free_le : ∀ x, Le (value_free_k x) (value_free x) := fun _ => Le.r
def schema_Member_1_k (x_ : SMember × Int) : Option (Bool × Int) :=
  match x_ with
  | (m, b) =>
  some (decide (m.ID = b), b)
theorem schema_Member_1_le : ∀ x, Le (schema_Member_1_k x) (schema_Member_1 x) := fun x => match x with | (_, _) => Le.r
def slices_IndexFuncapi_Member_api_Member_l0_t : Nat → (List SMember × Int × Int × Int → Option ((Int × Int) ⊕ (Int)))
  | 0 => fun _ => none
  | fuel + 1 =>
   fun (x_ : List SMember × Int × Int × Int) => match x_ with
    | (s_1, t7_1, t8, b_3) =>
    if decide (t8 < t7_1) = true then
      if inR t8 s_1.length = true then
        some (s_1.getD t8.toNat dSMember) >>= fun x0 =>
        schema_Member_1_k ((⟨x0.ID, x0.Name, x0.Type_, x0.Critical, x0.HasDefault, SValue.eta x0.Default⟩ : SMember), b_3) >>= fun r =>
        if r.1 = true then
          some (.inl (t8, r.2))
        else
          (slices_IndexFuncapi_Member_api_Member_l0_t fuel) (s_1, t7_1, addI .i64 t8 1, r.2)
      else none
    else
      some (.inr b_3)
theorem slices_IndexFuncapi_Member_api_Member_l0_t_le : ∀ n, (∀ x, Le ((slices_IndexFuncapi_Member_api_Member_l0_t n) x) (slices_IndexFuncapi_Member_api_Member_l0 x))
  | 0 => fun _ => Le.n
  | fuel + 1 => fun x => match x with | (_, _, _, _) => by rw [slices_IndexFuncapi_Member_api_Member_l0]; exact (Le.i (Le.i (Le.b Le.r fun _ => (Le.b (schema_Member_1_le _) fun _ => (Le.i Le.r ((slices_IndexFuncapi_Member_api_Member_l0_t_le fuel) _)))) Le.r) Le.r)
def slices_IndexFuncapi_Member_api_Member_l0_k (x : List SMember × Int × Int × Int) : Option ((Int × Int) ⊕ (Int)) := (slices_IndexFuncapi_Member_api_Member_l0_t 40) x
theorem slices_IndexFuncapi_Member_api_Member_l0_le : ∀ x, Le (slices_IndexFuncapi_Member_api_Member_l0_k x) (slices_IndexFuncapi_Member_api_Member_l0 x) := (slices_IndexFuncapi_Member_api_Member_l0_t_le 40)
def slices_IndexFuncapi_Member_api_Member_k (x_ : List SMember × Int) : Option (Int × Int) :=
  match x_ with
  | (s, b) =>
  slices_IndexFuncapi_Member_api_Member_l0_k (s, (s.length : Int), 0, b) >>= fun o =>
  match o with
  | .inl o_1 =>
    some (o_1.1, o_1.2)
  | .inr o_2 =>
    some ((-1), o_2)
theorem slices_IndexFuncapi_Member_api_Member_le : ∀ x, Le (slices_IndexFuncapi_Member_api_Member_k x) (slices_IndexFuncapi_Member_api_Member x) := fun x => match x with | (_, _) => (Le.b (slices_IndexFuncapi_Member_api_Member_l0_le _) fun _ => Le.r)
def schema_Member_k (x_ : SType × Int) : Option (Int × Bool) :=
  match x_ with
  | (t, id) =>
  slices_IndexFuncapi_Member_api_Member_k (t.Members, id) >>= fun r =>
  some (maxI r.1 0, decide (0 ≤ r.1))
theorem schema_Member_le : ∀ x, Le (schema_Member_k x) (schema_Member x) := fun x => match x with | (_, _) => (Le.b (slices_IndexFuncapi_Member_api_Member_le _) fun _ => Le.r)
def value_fits_l0_t : Nat → (Bool × List SRaw × Int × Int × List SType × SValue × Int × List UInt8 × Int × Int × Int × List SSymbol × List SMember × Int × Int × Bool → Option ((Bool) ⊕ (Bool × List SType × Int × Bool × Int × List UInt8 × Int × List SValue × List SValue × List SRaw × Int × List UInt8 × Int × Int × Int × List SSymbol × List SMember × Int × Int × Bool)))
  | 0 => fun _ => none
  | fuel + 1 =>
   fun (x_ : Bool × List SRaw × Int × Int × List SType × SValue × Int × List UInt8 × Int × Int × Int × List SSymbol × List SMember × Int × Int × Bool) => match x_ with
    | (plain_3, t111, t112_1, t113, b_31, b_32, b_33, b_34, b_35, b_36, b_37, b_38, b_39, b_40, b_41, b_42) =>
    if decide (t113 < t112_1) = true then
      if inR t113 t111.length = true then
        some (t111.getD t113.toNat dSRaw) >>= fun x0_4 =>
        schema_Member_k ((⟨b_33, b_34, b_35, b_36, b_37, b_38, b_39, b_40, b_41, b_42⟩ : SType), x0_4.ID) >>= fun r_14 =>
        (if (!r_14.2) = true then value_free_k x0_4.ID else some false) >>= fun r_17 =>
        some (bif r_14.2 then true else (!r_17)) >>= fun t131 =>
        some (decide (0 < t113)) >>= fun t134 =>
        some (subI .i64 t113 1) >>= fun t141 =>
        if (inR t141 b_32.Rest.length || (!((!t131) && t134))) = true then
          if (bif t131 then true else bif t134 then decide (x0_4.ID ≤ (b_32.Rest.getD t141.toNat dSRaw).ID) else false) = true then
            some (.inl false)
          else
            (value_fits_l0_t fuel) (plain_3, t111, t112_1, addI .i64 t113 1, b_31, SValue.eta b_32, b_33, b_34, b_35, b_36, b_37, b_38, b_39, b_40, b_41, b_42)
        else none
      else none
    else
      some (.inr (plain_3, b_31, b_32.Kind, b_32.Bool_, b_32.Int_, b_32.Str, b_32.ID, b_32.Keys, b_32.Items, b_32.Rest, b_33, b_34, b_35, b_36, b_37, b_38, b_39, b_40, b_41, b_42))
theorem value_fits_l0_t_le : ∀ n, (∀ x, Le ((value_fits_l0_t n) x) (value_fits_l0 x))
  | 0 => fun _ => Le.n
  | fuel + 1 => fun x => match x with | (_, _, _, _, _, _, _, _, _, _, _, _, _, _, _, _) => by rw [value_fits_l0]; exact (Le.i (Le.i (Le.b Le.r fun _ => (Le.b (schema_Member_le _) fun _ => (Le.b (Le.i (value_free_le _) Le.r) fun _ => (Le.b Le.r fun _ => (Le.b Le.r fun _ => (Le.b Le.r fun _ => (Le.i (Le.i Le.r ((value_fits_l0_t_le fuel) _)) Le.r))))))) Le.r) Le.r)
def value_fits_l0_k (x : Bool × List SRaw × Int × Int × List SType × SValue × Int × List UInt8 × Int × Int × Int × List SSymbol × List SMember × Int × Int × Bool) : Option ((Bool) ⊕ (Bool × List SType × Int × Bool × Int × List UInt8 × Int × List SValue × List SValue × List SRaw × Int × List UInt8 × Int × Int × Int × List SSymbol × List SMember × Int × Int × Bool)) := (value_fits_l0_t 40) x
theorem value_fits_l0_le : ∀ x, Le (value_fits_l0_k x) (value_fits_l0 x) := (value_fits_l0_t_le 40)
def cmp_isNaN_k (x0 : Int) : Option (Bool) :=
  some (!(decide (x0 = x0)))
theorem cmp_isNaN_le : ∀ x, Le (cmp_isNaN_k x) (cmp_isNaN x) := fun _ => Le.r
def cmp_Compare_k (x_ : Int × Int) : Option (Int) :=
  match x_ with
  | (x0, y) =>
  cmp_isNaN_k x0 >>= fun r =>
  cmp_isNaN_k y >>= fun r_1 =>
  if r = true then
    if r_1 = true then
      some 0
    else
      some (-1)
  else
    if r_1 = true then
      some 1
    else
      if decide (x0 < y) = true then
        some (-1)
      else
        if decide (y < x0) = true then
          some 1
        else
          some 0
theorem cmp_Compare_le : ∀ x, Le (cmp_Compare_k x) (cmp_Compare x) := fun x => match x with | (_, _) => (Le.b (cmp_isNaN_le _) fun _ => (Le.b (cmp_isNaN_le _) fun _ => Le.r))
def cmp_isNaN_2_k (x0 : Int) : Option (Bool) :=
  some (!(decide (x0 = x0)))
theorem cmp_isNaN_2_le : ∀ x, Le (cmp_isNaN_2_k x) (cmp_isNaN_2 x) := fun _ => Le.r
def cmp_Compare_2_k (x_ : Int × Int) : Option (Int) :=
  match x_ with
  | (x0, y) =>
  cmp_isNaN_2_k x0 >>= fun r =>
  cmp_isNaN_2_k y >>= fun r_1 =>
  if r = true then
    if r_1 = true then
      some 0
    else
      some (-1)
  else
    if r_1 = true then
      some 1
    else
      if decide (x0 < y) = true then
        some (-1)
      else
        if decide (y < x0) = true then
          some 1
        else
          some 0
theorem cmp_Compare_2_le : ∀ x, Le (cmp_Compare_2_k x) (cmp_Compare_2 x) := fun x => match x with | (_, _) => (Le.b (cmp_isNaN_2_le _) fun _ => (Le.b (cmp_isNaN_2_le _) fun _ => Le.r))
def cmp_isNaN_3_k (x0 : List UInt8) : Option (Bool) :=
  some (!(decide (x0 = x0)))
theorem cmp_isNaN_3_le : ∀ x, Le (cmp_isNaN_3_k x) (cmp_isNaN_3 x) := fun _ => Le.r
def cmp_Compare_3_k (x_ : List UInt8 × List UInt8) : Option (Int) :=
  match x_ with
  | (x0, y) =>
  cmp_isNaN_3_k x0 >>= fun r =>
  cmp_isNaN_3_k y >>= fun r_1 =>
  if r = true then
    if r_1 = true then
      some 0
    else
      some (-1)
  else
    if r_1 = true then
      some 1
    else
      if Op.bytesLess x0 y = true then
        some (-1)
      else
        if (!(Op.bytesLess x0 y || decide (x0 = y))) = true then
          some 1
        else
          some 0
theorem cmp_Compare_3_le : ∀ x, Le (cmp_Compare_3_k x) (cmp_Compare_3 x) := fun x => match x with | (_, _) => (Le.b (cmp_isNaN_3_le _) fun _ => (Le.b (cmp_isNaN_3_le _) fun _ => Le.r))
def cmp_Or_l0_t : Nat → (Int × List Int × Int × Int → Option ((Int) ⊕ (Int)))
  | 0 => fun _ => none
  | fuel + 1 =>
   fun (x_ : Int × List Int × Int × Int) => match x_ with
    | (zero_1, t6, t7_1, t8) =>
    if decide (t8 < t7_1) = true then
      if inR t8 t6.length = true then
        some (t6.getD t8.toNat 0) >>= fun x0 =>
        if (!(decide (x0 = zero_1))) = true then
          some (.inl x0)
        else
          (cmp_Or_l0_t fuel) (zero_1, t6, t7_1, addI .i64 t8 1)
      else none
    else
      some (.inr zero_1)
theorem cmp_Or_l0_t_le : ∀ n, (∀ x, Le ((cmp_Or_l0_t n) x) (cmp_Or_l0 x))
  | 0 => fun _ => Le.n
  | fuel + 1 => fun x => match x with | (_, _, _, _) => by rw [cmp_Or_l0]; exact (Le.i (Le.i (Le.b Le.r fun _ => (Le.i Le.r ((cmp_Or_l0_t_le fuel) _))) Le.r) Le.r)
def cmp_Or_l0_k (x : Int × List Int × Int × Int) : Option ((Int) ⊕ (Int)) := (cmp_Or_l0_t 40) x
theorem cmp_Or_l0_le : ∀ x, Le (cmp_Or_l0_k x) (cmp_Or_l0 x) := (cmp_Or_l0_t_le 40)
def cmp_Or_k (vals : List Int) : Option (Int) :=
  cmp_Or_l0_k (0, vals, (vals.length : Int), 0) >>= fun o =>
  match o with
  | .inl o_1 =>
    some o_1
  | .inr o_2 =>
    some o_2
theorem cmp_Or_le : ∀ x, Le (cmp_Or_k x) (cmp_Or x) := fun _ => (Le.b (cmp_Or_l0_le _) fun _ => Le.r)
def varint_Zigzag_k (n : Int) : Option (Int) :=
  some (xorI .u64 (shlI .u64 (wrp .u64 n) 1) (wrp .u64 (shrI .i64 n 63)))
theorem varint_Zigzag_le : ∀ x, Le (varint_Zigzag_k x) (varint_Zigzag x) := fun _ => Le.r
def value_Compare_k (x_ : SValue × SValue) : Option (Int) :=
  match x_ with
  | (a, b) =>
  if (!(decide (a.Kind = b.Kind))) = true then
    some 0
  else
    if decide (a.Kind = 1) = true then
      if eqB a.Bool_ b.Bool_ = true then
        some 0
      else
        if b.Bool_ = true then
          some (-1)
        else
          some 1
    else
      if decide (a.Kind = 2) = true then
        varint_Zigzag_k a.Int_ >>= fun r =>
        varint_Zigzag_k b.Int_ >>= fun r_1 =>
        cmp_Compare_k (r, r_1) >>= fun r_2 =>
        some r_2
      else
        if decide (a.Kind = 3) = true then
          cmp_Compare_2_k ((a.Str.length : Int), (b.Str.length : Int)) >>= fun r_3 =>
          cmp_Compare_3_k (a.Str, b.Str) >>= fun r_4 =>
          cmp_Or_k [r_3, r_4] >>= fun r_5 =>
          some r_5
        else
          if decide (a.Kind = 4) = true then
            cmp_Compare_2_k (a.ID, b.ID) >>= fun r_6 =>
            some r_6
          else
            some 0
theorem value_Compare_le : ∀ x, Le (value_Compare_k x) (value_Compare x) := fun x => match x with | (_, _) => (Le.i Le.r (Le.i Le.r (Le.i (Le.b (varint_Zigzag_le _) fun _ => (Le.b (varint_Zigzag_le _) fun _ => (Le.b (cmp_Compare_le _) fun _ => Le.r))) (Le.i (Le.b (cmp_Compare_2_le _) fun _ => (Le.b (cmp_Compare_3_le _) fun _ => (Le.b (cmp_Or_le _) fun _ => Le.r))) (Le.i (Le.b (cmp_Compare_2_le _) fun _ => Le.r) Le.r)))))
def value_fits_l2_t : Nat → (Bool × Int × List SType × SValue × Int × List UInt8 × Int × Int × Int × List SSymbol × List SMember × Int × Int × Bool → Option ((Bool) ⊕ (Bool × List SType × SValue × Int × List UInt8 × Int × Int × Int × List SSymbol × List SMember × Int × Int × Bool)))
  | 0 => fun _ => none
  | fuel + 1 =>
   fun (x_ : Bool × Int × List SType × SValue × Int × List UInt8 × Int × Int × Int × List SSymbol × List SMember × Int × Int × Bool) => match x_ with
    | (plain_5, i, b_52, b_53, b_54, b_55, b_56, b_57, b_58, b_59, b_60, b_61, b_62, b_63) =>
    if decide (i < (b_53.Keys.length : Int)) = true then
      some (subI .i64 i 1) >>= fun t291 =>
      if inR t291 b_53.Keys.length = true then
        if inR i b_53.Keys.length = true then
          value_Compare_k (SValue.eta (b_53.Keys.getD t291.toNat dSValue), SValue.eta (b_53.Keys.getD i.toNat dSValue)) >>= fun r_19 =>
          if decide (0 ≤ r_19) = true then
            some (.inl false)
          else
            (value_fits_l2_t fuel) (plain_5, addI .i64 i 1, b_52, SValue.eta b_53, b_54, b_55, b_56, b_57, b_58, b_59, b_60, b_61, b_62, b_63)
        else none
      else none
    else
      some (.inr (plain_5, b_52, SValue.eta b_53, b_54, b_55, b_56, b_57, b_58, b_59, b_60, b_61, b_62, b_63))
theorem value_fits_l2_t_le : ∀ n, (∀ x, Le ((value_fits_l2_t n) x) (value_fits_l2 x))
  | 0 => fun _ => Le.n
  | fuel + 1 => fun x => match x with | (_, _, _, _, _, _, _, _, _, _, _, _, _, _) => by rw [value_fits_l2]; exact (Le.i (Le.b Le.r fun _ => (Le.i (Le.i (Le.b (value_Compare_le _) fun _ => (Le.i Le.r ((value_fits_l2_t_le fuel) _))) Le.r) Le.r)) Le.r)
def value_fits_l2_k (x : Bool × Int × List SType × SValue × Int × List UInt8 × Int × Int × Int × List SSymbol × List SMember × Int × Int × Bool) : Option ((Bool) ⊕ (Bool × List SType × SValue × Int × List UInt8 × Int × Int × Int × List SSymbol × List SMember × Int × Int × Bool)) := (value_fits_l2_t 40) x
theorem value_fits_l2_le : ∀ x, Le (value_fits_l2_k x) (value_fits_l2 x) := (value_fits_l2_t_le 40)
def slices_ContainsFuncapi_Value_api_Value_t : Nat → (List SValue × List SType × Int × Bool → Option (Bool × List SType × Int × Bool)) × (List SValue × List SType × Int × Bool → Option (Int × List SType × Int × Bool)) × (SSchema × Int × List SValue × Bool → Option (Bool)) × (SValue × List SType × Int × Bool → Option (Bool × List SType × Int × Bool)) × (SSchema × Int × SValue × Bool → Option (Bool)) × (List SValue × Int × Int × List SType × Int × Bool → Option ((Int × List SType × Int × Bool) ⊕ (List SType × Int × Bool))) × (Bool × List SMember × Int × Int × List SType × Int × Bool × Int × List UInt8 × Int × List SValue × List SValue × List SRaw → Option ((Bool) ⊕ (Unit)))
  | 0 => (fun _ => none, fun _ => none, fun _ => none, fun _ => none, fun _ => none, fun _ => none, fun _ => none)
  | fuel + 1 =>
   (fun (x_ : List SValue × List SType × Int × Bool) => match x_ with
    | (s, b, b_1, b_2) =>
    (slices_ContainsFuncapi_Value_api_Value_t fuel).2.1 (s, b, b_1, b_2) >>= fun r =>
    some (decide (0 ≤ r.1), r.2.1, r.2.2.1, r.2.2.2),
   fun (x_ : List SValue × List SType × Int × Bool) => match x_ with
    | (s, b, b_1, b_2) =>
    (slices_ContainsFuncapi_Value_api_Value_t fuel).2.2.2.2.2.1 (s, (s.length : Int), 0, b, b_1, b_2) >>= fun o =>
    match o with
    | .inl o_1 =>
      some (o_1.1, o_1.2.1, o_1.2.2.1, o_1.2.2.2)
    | .inr o_2 =>
      some ((-1), o_2.1, o_2.2.1, o_2.2.2),
   fun (x_ : SSchema × Int × List SValue × Bool) => match x_ with
    | (s, t, l, plain) =>
    (slices_ContainsFuncapi_Value_api_Value_t fuel).1 (l, s.Types, t, plain) >>= fun r =>
    some (!r.1),
   fun (x_ : SValue × List SType × Int × Bool) => match x_ with
    | (v, b, b_1, b_2) =>
    (slices_ContainsFuncapi_Value_api_Value_t fuel).2.2.2.2.1 ((⟨b⟩ : SSchema), b_1, SValue.eta v, b_2) >>= fun r =>
    some ((!r), b, b_1, b_2),
   fun (x_ : SSchema × Int × SValue × Bool) => match x_ with
    | (s, t, v, plain) =>
    if (bif decide (t < 0) then true else decide ((s.Types.length : Int) ≤ t)) = true then
      some false
    else
      if inR t s.Types.length = true then
        some (s.Types.getD t.toNat dSType) >>= fun x0 =>
        some (!(decide (v.Kind = x0.Kind))) >>= fun t39 =>
        (if (!t39) = true then value_proper_k (SValue.eta v) else some false) >>= fun r =>
        if (bif t39 then true else (!r)) = true then
          some false
        else
          if decide (x0.Kind = 2) = true then
            some (bif decide (x0.Low ≤ v.Int_) then decide (v.Int_ ≤ x0.High) else false)
          else
            if decide (x0.Kind = 3) = true then
              some (decide ((v.Str.length : Int) ≤ x0.Max))
            else
              if decide (x0.Kind = 4) = true then
                schema_Symbol_k (x0, v.ID) >>= fun r_1 =>
                some (bif x0.Open then (!plain) else false) >>= fun t85 =>
                (if ((!r_1.2) && t85) = true then value_free_k v.ID else some false) >>= fun r_4 =>
                some (bif r_1.2 then true else bif t85 then r_4 else false)
              else
                if decide (x0.Kind = 5) = true then
                  if (bif (!(decide ((v.Items.length : Int) = (x0.Members.length : Int)))) then true else bif plain then decide (0 < (v.Rest.length : Int)) else false) = true then
                    some false
                  else
                    value_fits_l0_k (plain, v.Rest, (v.Rest.length : Int), 0, s.Types, SValue.eta v, x0.Kind, x0.Name, x0.Low, x0.High, x0.Max, x0.Symbols, x0.Members, x0.Key, x0.Elem, x0.Open) >>= fun o =>
                    match o with
                    | .inl o_1 =>
                      some o_1
                    | .inr o_2 =>
                      (slices_ContainsFuncapi_Value_api_Value_t fuel).2.2.2.2.2.2 (o_2.1, o_2.2.2.2.2.2.2.2.2.2.2.2.2.2.2.2.2.1, (o_2.2.2.2.2.2.2.2.2.2.2.2.2.2.2.2.2.1.length : Int), 0, o_2.2.1, o_2.2.2.1, o_2.2.2.2.1, o_2.2.2.2.2.1, o_2.2.2.2.2.2.1, o_2.2.2.2.2.2.2.1, o_2.2.2.2.2.2.2.2.1, o_2.2.2.2.2.2.2.2.2.1, o_2.2.2.2.2.2.2.2.2.2.1) >>= fun o_3 =>
                      match o_3 with
                      | .inl o_4 =>
                        some o_4
                      | .inr o_5 =>
                        some true
                else
                  if decide (x0.Kind = 6) = true then
                    schema_Member_k (x0, v.ID) >>= fun r_5 =>
                    if r_5.2 = true then
                      some (bif decide ((v.Items.length : Int) = 1) then decide ((v.Rest.length : Int) = 0) else false) >>= fun t188 =>
                      if (inR r_5.1 x0.Members.length || (!t188)) = true then
                        if (inR 0 v.Items.length || (!t188)) = true then
                          (if t188 = true then (slices_ContainsFuncapi_Value_api_Value_t fuel).2.2.2.2.1 ((⟨s.Types⟩ : SSchema), (x0.Members.getD r_5.1.toNat dSMember).Type_, SValue.eta (v.Items.getD (0 : Int).toNat dSValue), plain) else some false) >>= fun r_8 =>
                          some (bif t188 then r_8 else false)
                        else none
                      else none
                    else
                      some (bif x0.Open then (!plain) else false) >>= fun t209 =>
                      (if t209 = true then value_free_k v.ID else some false) >>= fun r_9 =>
                      some (bif bif bif t209 then r_9 else false then decide ((v.Items.length : Int) = 0) else false then decide ((v.Rest.length : Int) = 1) else false) >>= fun t226 =>
                      if (inR 0 v.Rest.length || (!t226)) = true then
                        some (bif t226 then decide ((v.Rest.getD (0 : Int).toNat dSRaw).ID = v.ID) else false)
                      else none
                  else
                    if decide (x0.Kind = 7) = true then
                      some (decide ((v.Items.length : Int) ≤ x0.Max)) >>= fun t244 =>
                      (if t244 = true then (slices_ContainsFuncapi_Value_api_Value_t fuel).2.2.1 ((⟨s.Types⟩ : SSchema), x0.Elem, v.Items, plain) else some false) >>= fun r_10 =>
                      some (bif t244 then r_10 else false)
                    else
                      if decide (x0.Kind = 8) = true then
                        some (bif decide (x0.Max < (v.Keys.length : Int)) then true else (!(decide ((v.Items.length : Int) = (v.Keys.length : Int))))) >>= fun t270 =>
                        (if (!t270) = true then (slices_ContainsFuncapi_Value_api_Value_t fuel).2.2.1 ((⟨s.Types⟩ : SSchema), x0.Key, v.Keys, plain) else some false) >>= fun r_11 =>
                        if (bif t270 then true else (!r_11)) = true then
                          some false
                        else
                          value_fits_l2_k (plain, 1, s.Types, SValue.eta v, x0.Kind, x0.Name, x0.Low, x0.High, x0.Max, x0.Symbols, x0.Members, x0.Key, x0.Elem, x0.Open) >>= fun o_6 =>
                          match o_6 with
                          | .inl o_7 =>
                            some o_7
                          | .inr o_8 =>
                            (slices_ContainsFuncapi_Value_api_Value_t fuel).2.2.1 ((⟨o_8.2.1⟩ : SSchema), o_8.2.2.2.2.2.2.2.2.2.2.2.1, o_8.2.2.1.Items, o_8.1) >>= fun r_12 =>
                            some r_12
                      else
                        if decide (x0.Kind = 9) = true then
                          some (decide ((v.Items.length : Int) ≤ 1)) >>= fun t313 =>
                          (if t313 = true then (slices_ContainsFuncapi_Value_api_Value_t fuel).2.2.1 ((⟨s.Types⟩ : SSchema), x0.Elem, v.Items, plain) else some false) >>= fun r_13 =>
                          some (bif t313 then r_13 else false)
                        else
                          some true
      else none,
   fun (x_ : List SValue × Int × Int × List SType × Int × Bool) => match x_ with
    | (s_1, t7_1, t8, b_9, b_10, b_11) =>
    if decide (t8 < t7_1) = true then
      if inR t8 s_1.length = true then
        (slices_ContainsFuncapi_Value_api_Value_t fuel).2.2.2.1 (SValue.eta (s_1.getD t8.toNat dSValue), b_9, b_10, b_11) >>= fun r =>
        if r.1 = true then
          some (.inl (t8, r.2.1, r.2.2.1, r.2.2.2))
        else
          (slices_ContainsFuncapi_Value_api_Value_t fuel).2.2.2.2.2.1 (s_1, t7_1, addI .i64 t8 1, r.2.1, r.2.2.1, r.2.2.2)
      else none
    else
      some (.inr (b_9, b_10, b_11)),
   fun (x_ : Bool × List SMember × Int × Int × List SType × Int × Bool × Int × List UInt8 × Int × List SValue × List SValue × List SRaw) => match x_ with
    | (plain_4, t150, t151_1, t152, b_43, b_44, b_45, b_46, b_47, b_48, b_49, b_50, b_51) =>
    if decide (t152 < t151_1) = true then
      if inR t152 t150.length = true then
        if inR t152 b_50.length = true then
          (slices_ContainsFuncapi_Value_api_Value_t fuel).2.2.2.2.1 ((⟨b_43⟩ : SSchema), (t150.getD t152.toNat dSMember).Type_, SValue.eta (b_50.getD t152.toNat dSValue), plain_4) >>= fun r_18 =>
          if (!r_18) = true then
            some (.inl false)
          else
            (slices_ContainsFuncapi_Value_api_Value_t fuel).2.2.2.2.2.2 (plain_4, t150, t151_1, addI .i64 t152 1, b_43, b_44, b_45, b_46, b_47, b_48, b_49, b_50, b_51)
        else none
      else none
    else
      some (.inr ()))
theorem slices_ContainsFuncapi_Value_api_Value_t_le : ∀ n, (∀ x, Le ((slices_ContainsFuncapi_Value_api_Value_t n).1 x) (slices_ContainsFuncapi_Value_api_Value x)) ∧ (∀ x, Le ((slices_ContainsFuncapi_Value_api_Value_t n).2.1 x) (slices_IndexFuncapi_Value_api_Value x)) ∧ (∀ x, Le ((slices_ContainsFuncapi_Value_api_Value_t n).2.2.1 x) (value_each x)) ∧ (∀ x, Le ((slices_ContainsFuncapi_Value_api_Value_t n).2.2.2.1 x) (value_each_1 x)) ∧ (∀ x, Le ((slices_ContainsFuncapi_Value_api_Value_t n).2.2.2.2.1 x) (value_fits x)) ∧ (∀ x, Le ((slices_ContainsFuncapi_Value_api_Value_t n).2.2.2.2.2.1 x) (slices_IndexFuncapi_Value_api_Value_l0 x)) ∧ (∀ x, Le ((slices_ContainsFuncapi_Value_api_Value_t n).2.2.2.2.2.2 x) (value_fits_l1 x))
  | 0 => ⟨fun _ => Le.n, fun _ => Le.n, fun _ => Le.n, fun _ => Le.n, fun _ => Le.n, fun _ => Le.n, fun _ => Le.n⟩
  | fuel + 1 => ⟨fun x => match x with | (_, _, _, _) => by rw [slices_ContainsFuncapi_Value_api_Value]; exact (Le.b ((slices_ContainsFuncapi_Value_api_Value_t_le fuel).2.1 _) fun _ => Le.r),
    fun x => match x with | (_, _, _, _) => by rw [slices_IndexFuncapi_Value_api_Value]; exact (Le.b ((slices_ContainsFuncapi_Value_api_Value_t_le fuel).2.2.2.2.2.1 _) fun _ => Le.r),
    fun x => match x with | (_, _, _, _) => by rw [value_each]; exact (Le.b ((slices_ContainsFuncapi_Value_api_Value_t_le fuel).1 _) fun _ => Le.r),
    fun x => match x with | (_, _, _, _) => by rw [value_each_1]; exact (Le.b ((slices_ContainsFuncapi_Value_api_Value_t_le fuel).2.2.2.2.1 _) fun _ => Le.r),
    fun x => match x with | (_, _, _, _) => by rw [value_fits]; exact (Le.i Le.r (Le.i (Le.b Le.r fun _ => (Le.b Le.r fun _ => (Le.b (Le.i (value_proper_le _) Le.r) fun _ => (Le.i Le.r (Le.i Le.r (Le.i Le.r (Le.i (Le.b (schema_Symbol_le _) fun _ => (Le.b Le.r fun _ => (Le.b (Le.i (value_free_le _) Le.r) fun _ => Le.r))) (Le.i (Le.i Le.r (Le.b (value_fits_l0_le _) fun o => match o with | .inl _ => Le.r | .inr _ => (Le.b ((slices_ContainsFuncapi_Value_api_Value_t_le fuel).2.2.2.2.2.2 _) fun _ => Le.r))) (Le.i (Le.b (schema_Member_le _) fun _ => (Le.i (Le.b Le.r fun _ => (Le.i (Le.i (Le.b (Le.i ((slices_ContainsFuncapi_Value_api_Value_t_le fuel).2.2.2.2.1 _) Le.r) fun _ => Le.r) Le.r) Le.r)) (Le.b Le.r fun _ => (Le.b (Le.i (value_free_le _) Le.r) fun _ => Le.r)))) (Le.i (Le.b Le.r fun _ => (Le.b (Le.i ((slices_ContainsFuncapi_Value_api_Value_t_le fuel).2.2.1 _) Le.r) fun _ => Le.r)) (Le.i (Le.b Le.r fun _ => (Le.b (Le.i ((slices_ContainsFuncapi_Value_api_Value_t_le fuel).2.2.1 _) Le.r) fun _ => (Le.i Le.r (Le.b (value_fits_l2_le _) fun o => match o with | .inl _ => Le.r | .inr _ => (Le.b ((slices_ContainsFuncapi_Value_api_Value_t_le fuel).2.2.1 _) fun _ => Le.r))))) (Le.i (Le.b Le.r fun _ => (Le.b (Le.i ((slices_ContainsFuncapi_Value_api_Value_t_le fuel).2.2.1 _) Le.r) fun _ => Le.r)) Le.r)))))))))))) Le.r)),
    fun x => match x with | (_, _, _, _, _, _) => by rw [slices_IndexFuncapi_Value_api_Value_l0]; exact (Le.i (Le.i (Le.b ((slices_ContainsFuncapi_Value_api_Value_t_le fuel).2.2.2.1 _) fun _ => (Le.i Le.r ((slices_ContainsFuncapi_Value_api_Value_t_le fuel).2.2.2.2.2.1 _))) Le.r) Le.r),
    fun x => match x with | (_, _, _, _, _, _, _, _, _, _, _, _, _) => by rw [value_fits_l1]; exact (Le.i (Le.i (Le.i (Le.b ((slices_ContainsFuncapi_Value_api_Value_t_le fuel).2.2.2.2.1 _) fun _ => (Le.i Le.r ((slices_ContainsFuncapi_Value_api_Value_t_le fuel).2.2.2.2.2.2 _))) Le.r) Le.r) Le.r)⟩
def slices_ContainsFuncapi_Value_api_Value_k (x : List SValue × List SType × Int × Bool) : Option (Bool × List SType × Int × Bool) := (slices_ContainsFuncapi_Value_api_Value_t 40).1 x
theorem slices_ContainsFuncapi_Value_api_Value_le : ∀ x, Le (slices_ContainsFuncapi_Value_api_Value_k x) (slices_ContainsFuncapi_Value_api_Value x) := (slices_ContainsFuncapi_Value_api_Value_t_le 40).1
def slices_IndexFuncapi_Value_api_Value_k (x : List SValue × List SType × Int × Bool) : Option (Int × List SType × Int × Bool) := (slices_ContainsFuncapi_Value_api_Value_t 40).2.1 x
theorem slices_IndexFuncapi_Value_api_Value_le : ∀ x, Le (slices_IndexFuncapi_Value_api_Value_k x) (slices_IndexFuncapi_Value_api_Value x) := (slices_ContainsFuncapi_Value_api_Value_t_le 40).2.1
def value_each_k (x : SSchema × Int × List SValue × Bool) : Option (Bool) := (slices_ContainsFuncapi_Value_api_Value_t 40).2.2.1 x
theorem value_each_le : ∀ x, Le (value_each_k x) (value_each x) := (slices_ContainsFuncapi_Value_api_Value_t_le 40).2.2.1
def value_each_1_k (x : SValue × List SType × Int × Bool) : Option (Bool × List SType × Int × Bool) := (slices_ContainsFuncapi_Value_api_Value_t 40).2.2.2.1 x
theorem value_each_1_le : ∀ x, Le (value_each_1_k x) (value_each_1 x) := (slices_ContainsFuncapi_Value_api_Value_t_le 40).2.2.2.1
def value_fits_k (x : SSchema × Int × SValue × Bool) : Option (Bool) := (slices_ContainsFuncapi_Value_api_Value_t 40).2.2.2.2.1 x
theorem value_fits_le : ∀ x, Le (value_fits_k x) (value_fits x) := (slices_ContainsFuncapi_Value_api_Value_t_le 40).2.2.2.2.1
def slices_IndexFuncapi_Value_api_Value_l0_k (x : List SValue × Int × Int × List SType × Int × Bool) : Option ((Int × List SType × Int × Bool) ⊕ (List SType × Int × Bool)) := (slices_ContainsFuncapi_Value_api_Value_t 40).2.2.2.2.2.1 x
theorem slices_IndexFuncapi_Value_api_Value_l0_le : ∀ x, Le (slices_IndexFuncapi_Value_api_Value_l0_k x) (slices_IndexFuncapi_Value_api_Value_l0 x) := (slices_ContainsFuncapi_Value_api_Value_t_le 40).2.2.2.2.2.1
def value_fits_l1_k (x : Bool × List SMember × Int × Int × List SType × Int × Bool × Int × List UInt8 × Int × List SValue × List SValue × List SRaw) : Option ((Bool) ⊕ (Unit)) := (slices_ContainsFuncapi_Value_api_Value_t 40).2.2.2.2.2.2 x
theorem value_fits_l1_le : ∀ x, Le (value_fits_l1_k x) (value_fits_l1 x) := (slices_ContainsFuncapi_Value_api_Value_t_le 40).2.2.2.2.2.2
def value_Fits_k (x_ : SSchema × Int × SValue) : Option (Bool) :=
  match x_ with
  | (s, t, v) =>
  value_fits_k ((⟨s.Types⟩ : SSchema), t, SValue.eta v, false) >>= fun r =>
  some r
theorem value_Fits_le : ∀ x, Le (value_Fits_k x) (value_Fits x) := fun x => match x with | (_, _, _) => (Le.b (value_fits_le _) fun _ => Le.r)
def encode_checked_k (x_ : SSchema × Int × SValue) : Option (Int) :=
  match x_ with
  | (s, t, v) =>
  encode_errorOf_k ((⟨s.Types⟩ : SSchema), t) >>= fun r =>
  if (!(decide (r = 0))) = true then
    some r
  else
    value_Fits_k ((⟨s.Types⟩ : SSchema), t, SValue.eta v) >>= fun r_1 =>
    if (!r_1) = true then
      some 1
    else
      some 0
theorem encode_checked_le : ∀ x, Le (encode_checked_k x) (encode_checked x) := fun x => match x with | (_, _, _) => (Le.b (encode_errorOf_le _) fun _ => (Le.i Le.r (Le.b (value_Fits_le _) fun _ => Le.r)))
def varint_Big_l0_t : Nat → (Int × Int × List Int → Option (Int × List Int))
  | 0 => fun _ => none
  | fuel + 1 =>
   fun (x_ : Int × Int × List Int) => match x_ with
    | (n_1, i_1, b_1) =>
    if decide (0 < n_1) = true then
      some (subI .i64 i_1 1) >>= fun t10 =>
      if inR t10 8 = true then
        if decide (t10.toNat < b_1.length) = true then
          (varint_Big_l0_t fuel) (shrI .u64 n_1 8, t10, b_1.set t10.toNat (wrp .u8 n_1))
        else none
      else none
    else
      some (i_1, b_1)
theorem varint_Big_l0_t_le : ∀ n, (∀ x, Le ((varint_Big_l0_t n) x) (varint_Big_l0 x))
  | 0 => fun _ => Le.n
  | fuel + 1 => fun x => match x with | (_, _, _) => by rw [varint_Big_l0]; exact (Le.i (Le.b Le.r fun _ => (Le.i (Le.i ((varint_Big_l0_t_le fuel) _) Le.r) Le.r)) Le.r)
def varint_Big_l0_k (x : Int × Int × List Int) : Option (Int × List Int) := (varint_Big_l0_t 40) x
theorem varint_Big_l0_le : ∀ x, Le (varint_Big_l0_k x) (varint_Big_l0 x) := (varint_Big_l0_t_le 40)
def varint_Big_k (n : Int) : Option (List UInt8) :=
  varint_Big_l0_k (n, 8, [0, 0, 0, 0, 0, 0, 0, 0]) >>= fun o =>
  if slR o.1 8 8 = true then
    if subR o.1.toNat ((8 : Int).toNat - o.1.toNat) o.2.length = true then
      some (strOf ((o.2.drop o.1.toNat).take ((8 : Int).toNat - o.1.toNat)))
    else none
  else none
theorem varint_Big_le : ∀ x, Le (varint_Big_k x) (varint_Big x) := fun _ => (Le.b (varint_Big_l0_le _) fun _ => Le.r)
def slices_EqualFuncapi_Value_api_Value_api_Value_api_Value_2_t : Nat → (List SValue × List SValue → Option (Bool)) × (SValue × SValue → Option (Bool)) × (List SValue × List SValue × Int × Int → Option ((Bool) ⊕ (Unit)))
  | 0 => (fun _ => none, fun _ => none, fun _ => none)
  | fuel + 1 =>
   (fun (x_ : List SValue × List SValue) => match x_ with
    | (s1, s2) =>
    if (!(decide ((s1.length : Int) = (s2.length : Int)))) = true then
      some false
    else
      (slices_EqualFuncapi_Value_api_Value_api_Value_api_Value_2_t fuel).2.2 (s2, s1, (s1.length : Int), 0) >>= fun o =>
      match o with
      | .inl o_1 =>
        some o_1
      | .inr o_2 =>
        some true,
   fun (x_ : SValue × SValue) => match x_ with
    | (a, b) =>
    some (bif bif bif bif decide (a.Kind = b.Kind) then eqB a.Bool_ b.Bool_ else false then decide (a.Int_ = b.Int_) else false then decide (a.Str = b.Str) else false then decide (a.ID = b.ID) else false) >>= fun t37 =>
    (if t37 = true then slices_Equalapi_Raw_api_Raw_k (a.Rest, b.Rest) else some false) >>= fun r =>
    some (bif t37 then r else false) >>= fun t44 =>
    (if t44 = true then (slices_EqualFuncapi_Value_api_Value_api_Value_api_Value_2_t fuel).1 (a.Keys, b.Keys) else some false) >>= fun r_1 =>
    some (bif t44 then r_1 else false) >>= fun t51 =>
    (if t51 = true then (slices_EqualFuncapi_Value_api_Value_api_Value_api_Value_2_t fuel).1 (a.Items, b.Items) else some false) >>= fun r_2 =>
    some (bif t51 then r_2 else false),
   fun (x_ : List SValue × List SValue × Int × Int) => match x_ with
    | (s2_1, t15, t16_1, t17) =>
    if decide (t17 < t16_1) = true then
      if inR t17 t15.length = true then
        if inR t17 s2_1.length = true then
          (slices_EqualFuncapi_Value_api_Value_api_Value_api_Value_2_t fuel).2.1 (SValue.eta (t15.getD t17.toNat dSValue), SValue.eta (s2_1.getD t17.toNat dSValue)) >>= fun r =>
          if (!r) = true then
            some (.inl false)
          else
            (slices_EqualFuncapi_Value_api_Value_api_Value_api_Value_2_t fuel).2.2 (s2_1, t15, t16_1, addI .i64 t17 1)
        else none
      else none
    else
      some (.inr ()))
theorem slices_EqualFuncapi_Value_api_Value_api_Value_api_Value_2_t_le : ∀ n, (∀ x, Le ((slices_EqualFuncapi_Value_api_Value_api_Value_api_Value_2_t n).1 x) (slices_EqualFuncapi_Value_api_Value_api_Value_api_Value_2 x)) ∧ (∀ x, Le ((slices_EqualFuncapi_Value_api_Value_api_Value_api_Value_2_t n).2.1 x) (value_Equal x)) ∧ (∀ x, Le ((slices_EqualFuncapi_Value_api_Value_api_Value_api_Value_2_t n).2.2 x) (slices_EqualFuncapi_Value_api_Value_api_Value_api_Value_2_l0 x))
  | 0 => ⟨fun _ => Le.n, fun _ => Le.n, fun _ => Le.n⟩
  | fuel + 1 => ⟨fun x => match x with | (_, _) => by rw [slices_EqualFuncapi_Value_api_Value_api_Value_api_Value_2]; exact (Le.i Le.r (Le.b ((slices_EqualFuncapi_Value_api_Value_api_Value_api_Value_2_t_le fuel).2.2 _) fun _ => Le.r)),
    fun x => match x with | (_, _) => by rw [value_Equal]; exact (Le.b Le.r fun _ => (Le.b (Le.i (slices_Equalapi_Raw_api_Raw_le _) Le.r) fun _ => (Le.b Le.r fun _ => (Le.b (Le.i ((slices_EqualFuncapi_Value_api_Value_api_Value_api_Value_2_t_le fuel).1 _) Le.r) fun _ => (Le.b Le.r fun _ => (Le.b (Le.i ((slices_EqualFuncapi_Value_api_Value_api_Value_api_Value_2_t_le fuel).1 _) Le.r) fun _ => Le.r)))))),
    fun x => match x with | (_, _, _, _) => by rw [slices_EqualFuncapi_Value_api_Value_api_Value_api_Value_2_l0]; exact (Le.i (Le.i (Le.i (Le.b ((slices_EqualFuncapi_Value_api_Value_api_Value_api_Value_2_t_le fuel).2.1 _) fun _ => (Le.i Le.r ((slices_EqualFuncapi_Value_api_Value_api_Value_api_Value_2_t_le fuel).2.2 _))) Le.r) Le.r) Le.r)⟩
def slices_EqualFuncapi_Value_api_Value_api_Value_api_Value_2_k (x : List SValue × List SValue) : Option (Bool) := (slices_EqualFuncapi_Value_api_Value_api_Value_api_Value_2_t 40).1 x
theorem slices_EqualFuncapi_Value_api_Value_api_Value_api_Value_2_le : ∀ x, Le (slices_EqualFuncapi_Value_api_Value_api_Value_api_Value_2_k x) (slices_EqualFuncapi_Value_api_Value_api_Value_api_Value_2 x) := (slices_EqualFuncapi_Value_api_Value_api_Value_api_Value_2_t_le 40).1
def value_Equal_k (x : SValue × SValue) : Option (Bool) := (slices_EqualFuncapi_Value_api_Value_api_Value_api_Value_2_t 40).2.1 x
theorem value_Equal_le : ∀ x, Le (value_Equal_k x) (value_Equal x) := (slices_EqualFuncapi_Value_api_Value_api_Value_api_Value_2_t_le 40).2.1
def slices_EqualFuncapi_Value_api_Value_api_Value_api_Value_2_l0_k (x : List SValue × List SValue × Int × Int) : Option ((Bool) ⊕ (Unit)) := (slices_EqualFuncapi_Value_api_Value_api_Value_api_Value_2_t 40).2.2 x
theorem slices_EqualFuncapi_Value_api_Value_api_Value_api_Value_2_l0_le : ∀ x, Le (slices_EqualFuncapi_Value_api_Value_api_Value_api_Value_2_l0_k x) (slices_EqualFuncapi_Value_api_Value_api_Value_api_Value_2_l0 x) := (slices_EqualFuncapi_Value_api_Value_api_Value_api_Value_2_t_le 40).2.2
def encode_omitted_k (x_ : SMember × SValue) : Option (Bool) :=
  match x_ with
  | (m, v) =>
  (if m.HasDefault = true then value_Equal_k (SValue.eta m.Default, SValue.eta v) else some false) >>= fun r =>
  some (bif m.HasDefault then r else false)
theorem encode_omitted_le : ∀ x, Le (encode_omitted_k x) (encode_omitted x) := fun x => match x with | (_, _) => (Le.b (Le.i (value_Equal_le _) Le.r) fun _ => Le.r)
def varint_Put_l0_t : Nat → (Int × Int × List Int → Option (Int × Int × List Int))
  | 0 => fun _ => none
  | fuel + 1 =>
   fun (x_ : Int × Int × List Int) => match x_ with
    | (n_2, i_1, b_1) =>
    if decide (128 ≤ n_2) = true then
      if inR i_1 10 = true then
        if decide (i_1.toNat < b_1.length) = true then
          (varint_Put_l0_t fuel) (shrI .u64 n_2 7, addI .i64 i_1 1, b_1.set i_1.toNat (orI .u8 (wrp .u8 n_2) 128))
        else none
      else none
    else
      some (n_2, i_1, b_1)
theorem varint_Put_l0_t_le : ∀ n, (∀ x, Le ((varint_Put_l0_t n) x) (varint_Put_l0 x))
  | 0 => fun _ => Le.n
  | fuel + 1 => fun x => match x with | (_, _, _) => by rw [varint_Put_l0]; exact (Le.i (Le.i (Le.i ((varint_Put_l0_t_le fuel) _) Le.r) Le.r) Le.r)
def varint_Put_l0_k (x : Int × Int × List Int) : Option (Int × Int × List Int) := (varint_Put_l0_t 40) x
theorem varint_Put_l0_le : ∀ x, Le (varint_Put_l0_k x) (varint_Put_l0 x) := (varint_Put_l0_t_le 40)
def varint_Put_k (n : Int) : Option (List UInt8) :=
  varint_Put_l0_k (n, 0, [0, 0, 0, 0, 0, 0, 0, 0, 0, 0]) >>= fun o =>
  if inR o.2.1 10 = true then
    if decide (o.2.1.toNat < o.2.2.length) = true then
      some (o.2.2.set o.2.1.toNat (wrp .u8 o.1)) >>= fun l_1 =>
      some (addI .i64 o.2.1 1) >>= fun t21 =>
      if slR 0 t21 10 = true then
        if subR (0 : Int).toNat t21.toNat l_1.length = true then
          some (strOf ((l_1.drop (0 : Int).toNat).take t21.toNat))
        else none
      else none
    else none
  else none
theorem varint_Put_le : ∀ x, Le (varint_Put_k x) (varint_Put x) := fun _ => (Le.b (varint_Put_l0_le _) fun _ => Le.r)
def encode_sized_k (p : List UInt8) : Option (List UInt8) :=
  varint_Put_k (wrp .u64 (p.length : Int)) >>= fun r =>
  if decide (r.length + p.length ≤ strMax) = true then
    some (r ++ p)
  else none
theorem encode_sized_le : ∀ x, Le (encode_sized_k x) (encode_sized x) := fun _ => (Le.b (varint_Put_le _) fun _ => Le.r)
def encode_field_k (x_ : Int × Bool × List UInt8) : Option (List UInt8) :=
  match x_ with
  | (id, critical, p) =>
  some (mulI .u64 2 (wrp .u64 id)) >>= fun t10 =>
  if critical = true then
    varint_Put_k (addI .u64 t10 1) >>= fun r =>
    encode_sized_k p >>= fun r_1 =>
    if decide (r.length + r_1.length ≤ strMax) = true then
      some (r ++ r_1)
    else none
  else
    varint_Put_k t10 >>= fun r_2 =>
    encode_sized_k p >>= fun r_3 =>
    if decide (r_2.length + r_3.length ≤ strMax) = true then
      some (r_2 ++ r_3)
    else none
theorem encode_field_le : ∀ x, Le (encode_field_k x) (encode_field x) := fun x => match x with | (_, _, _) => (Le.b Le.r fun _ => (Le.i (Le.b (varint_Put_le _) fun _ => (Le.b (encode_sized_le _) fun _ => Le.r)) (Le.b (varint_Put_le _) fun _ => (Le.b (encode_sized_le _) fun _ => Le.r))))
def strings_Builder_WriteString_k (x_ : List UInt8 × List UInt8) : Option (Int × List UInt8) :=
  match x_ with
  | (s, b) =>
  some b >>= fun r =>
  if (decide (r.length = b.length) && true) = true then
    if room 1 (r.length + s.length) = true then
      some ((s.length : Int), catS r s)
    else none
  else none
theorem strings_Builder_WriteString_le : ∀ x, Le (strings_Builder_WriteString_k x) (strings_Builder_WriteString x) := fun x => match x with | (_, _) => Le.r
def strings_Builder_String_k (b : List UInt8) : Option (List UInt8) :=
  if eqI (b.length : Int) (b.length : Int) = true then
    some b
  else none
theorem strings_Builder_String_le : ∀ x, Le (strings_Builder_String_k x) (strings_Builder_String x) := fun _ => Le.r
def encode_writer_record_l1_t : Nat → (List SRaw × Int × Int × List SType × Int × List EncodeEntry → Option (List SType × Int × List EncodeEntry))
  | 0 => fun _ => none
  | fuel + 1 =>
   fun (x_ : List SRaw × Int × Int × List SType × Int × List EncodeEntry) => match x_ with
    | (t57, t58_1, t59, b_16, b_17, b_18) =>
    if decide (t59 < t58_1) = true then
      if inR t59 t57.length = true then
        some (t57.getD t59.toNat dSRaw) >>= fun x0_4 =>
        encode_field_k (x0_4.ID, false, x0_4.Data) >>= fun r_8 =>
        some [(⟨x0_4.ID, r_8⟩ : EncodeEntry)] >>= fun t72 =>
        if room 24 (b_18 ++ t72).length = true then
          (encode_writer_record_l1_t fuel) (t57, t58_1, addI .i64 t59 1, b_16, b_17, b_18 ++ t72)
        else none
      else none
    else
      some (b_16, b_17, b_18)
theorem encode_writer_record_l1_t_le : ∀ n, (∀ x, Le ((encode_writer_record_l1_t n) x) (encode_writer_record_l1 x))
  | 0 => fun _ => Le.n
  | fuel + 1 => fun x => match x with | (_, _, _, _, _, _) => by rw [encode_writer_record_l1]; exact (Le.i (Le.i (Le.b Le.r fun _ => (Le.b (encode_field_le _) fun _ => (Le.b Le.r fun _ => (Le.i ((encode_writer_record_l1_t_le fuel) _) Le.r)))) Le.r) Le.r)
def encode_writer_record_l1_k (x : List SRaw × Int × Int × List SType × Int × List EncodeEntry) : Option (List SType × Int × List EncodeEntry) := (encode_writer_record_l1_t 40) x
theorem encode_writer_record_l1_le : ∀ x, Le (encode_writer_record_l1_k x) (encode_writer_record_l1 x) := (encode_writer_record_l1_t_le 40)
def encode_writer_record_l2_t : Nat → (Int × Int × List SType × Int × List EncodeEntry × List UInt8 → Option (List SType × Int × List UInt8))
  | 0 => fun _ => none
  | fuel + 1 =>
   fun (x_ : Int × Int × List SType × Int × List EncodeEntry × List UInt8) => match x_ with
    | (t78_1, t79, b_19, b_20, b_21, b_22) =>
    if decide (t79 < t78_1) = true then
      if inR t79 b_21.length = true then
        if decide (t79.toNat < b_21.length) = true then
          strings_Builder_WriteString_k ((b_21.getD t79.toNat dEncodeEntry).text, b_22) >>= fun r_9 =>
          (encode_writer_record_l2_t fuel) (t78_1, addI .i64 t79 1, b_19, b_20, b_21, r_9.2)
        else none
      else none
    else
      some (b_19, b_20, b_22)
theorem encode_writer_record_l2_t_le : ∀ n, (∀ x, Le ((encode_writer_record_l2_t n) x) (encode_writer_record_l2 x))
  | 0 => fun _ => Le.n
  | fuel + 1 => fun x => match x with | (_, _, _, _, _, _) => by rw [encode_writer_record_l2]; exact (Le.i (Le.i (Le.i (Le.b (strings_Builder_WriteString_le _) fun _ => ((encode_writer_record_l2_t_le fuel) _)) Le.r) Le.r) Le.r)
def encode_writer_record_l2_k (x : Int × Int × List SType × Int × List EncodeEntry × List UInt8) : Option (List SType × Int × List UInt8) := (encode_writer_record_l2_t 40) x
theorem encode_writer_record_l2_le : ∀ x, Le (encode_writer_record_l2_k x) (encode_writer_record_l2 x) := (encode_writer_record_l2_t_le 40)
def encode_writer_payload_t : Nat → (Int × SValue × Int × List SType × Int → Option (List UInt8 × List SType × Int)) × (SType × SValue × Int × List SType × Int → Option (List UInt8 × List SType × Int)) × (SType × SValue × Int × List SType × Int → Option (List UInt8 × List SType × Int)) × (Int × List SValue × Int × Int × List SType × Int × SValue × SType × List UInt8 → Option (List SType × Int × List UInt8)) × (Int × List SMember × Int × Int × List SType × Int × SValue × List EncodeEntry → Option (List SType × Int × SValue × List EncodeEntry))
  | 0 => (fun _ => none, fun _ => none, fun _ => none, fun _ => none, fun _ => none)
  | fuel + 1 =>
   (fun (x_ : Int × SValue × Int × List SType × Int) => match x_ with
    | (t, v, level, b, b_1) =>
    some (maxI b_1 level) >>= fun t19 =>
    if inR t b.length = true then
      some (b.getD t.toNat dSType) >>= fun x0 =>
      if decide (x0.Kind = 1) = true then
        if v.Bool_ = true then
          some ([1], b, t19)
        else
          some ([], b, t19)
      else
        if decide (x0.Kind = 2) = true then
          varint_Zigzag_k v.Int_ >>= fun r =>
          varint_Big_k r >>= fun r_1 =>
          some (r_1, b, t19)
        else
          if decide (x0.Kind = 3) = true then
            some (v.Str, b, t19)
          else
            if decide (x0.Kind = 4) = true then
              varint_Big_k (wrp .u64 v.ID) >>= fun r_2 =>
              some (r_2, b, t19)
            else
              if decide (x0.Kind = 5) = true then
                (encode_writer_payload_t fuel).2.1 (x0, SValue.eta v, level, b, t19) >>= fun r_3 =>
                some (r_3.1, r_3.2.1, r_3.2.2)
              else
                if decide (x0.Kind = 6) = true then
                  (encode_writer_payload_t fuel).2.2.1 (x0, SValue.eta v, level, b, t19) >>= fun r_7 =>
                  some (r_7.1, r_7.2.1, r_7.2.2)
                else
                  if decide (x0.Kind = 9) = true then
                    if decide ((v.Items.length : Int) = 0) = true then
                      some ([], b, t19)
                    else
                      if inR 0 v.Items.length = true then
                        (encode_writer_payload_t fuel).1 (x0.Elem, SValue.eta (v.Items.getD (0 : Int).toNat dSValue), addI .i64 level 1, b, t19) >>= fun r_11 =>
                        if decide ([1].length + r_11.1.length ≤ strMax) = true then
                          some ([1] ++ r_11.1, r_11.2.1, r_11.2.2)
                        else none
                      else none
                  else
                    (encode_writer_payload_t fuel).2.2.2.1 (level, v.Items, (v.Items.length : Int), 0, b, t19, SValue.eta v, x0, []) >>= fun o =>
                    strings_Builder_String_k o.2.2 >>= fun r_15 =>
                    some (r_15, o.1, o.2.1)
    else none,
   fun (x_ : SType × SValue × Int × List SType × Int) => match x_ with
    | (x0, v, level, b, b_1) =>
    (encode_writer_payload_t fuel).2.2.2.2 (level, x0.Members, (x0.Members.length : Int), 0, b, b_1, SValue.eta v, []) >>= fun o =>
    encode_writer_record_l1_k (o.2.2.1.Rest, (o.2.2.1.Rest.length : Int), 0, o.1, o.2.1, o.2.2.2) >>= fun o_1 =>
    sortK sortLt o_1.2.2 >>= fun r =>
    if (decide (r.length = o_1.2.2.length) && true) = true then
      encode_writer_record_l2_k ((r.length : Int), 0, o_1.1, o_1.2.1, r, []) >>= fun o_2 =>
      strings_Builder_String_k o_2.2.2 >>= fun r_1 =>
      some (r_1, o_2.1, o_2.2.1)
    else none,
   fun (x_ : SType × SValue × Int × List SType × Int) => match x_ with
    | (x0, v, level, b, b_1) =>
    varint_Put_k (wrp .u64 v.ID) >>= fun r =>
    schema_Member_k (x0, v.ID) >>= fun r_1 =>
    if (!r_1.2) = true then
      if inR 0 v.Rest.length = true then
        some (v.Rest.getD (0 : Int).toNat dSRaw) >>= fun x0_1 =>
        if decide (r.length + x0_1.Data.length ≤ strMax) = true then
          some (r ++ x0_1.Data, b, b_1)
        else none
      else none
    else
      if inR r_1.1 x0.Members.length = true then
        if inR 0 v.Items.length = true then
          (encode_writer_payload_t fuel).1 ((x0.Members.getD r_1.1.toNat dSMember).Type_, SValue.eta (v.Items.getD (0 : Int).toNat dSValue), addI .i64 level 1, b, b_1) >>= fun r_4 =>
          if decide (r.length + r_4.1.length ≤ strMax) = true then
            some (r ++ r_4.1, r_4.2.1, r_4.2.2)
          else none
        else none
      else none,
   fun (x_ : Int × List SValue × Int × Int × List SType × Int × SValue × SType × List UInt8) => match x_ with
    | (level_1, t84, t85_1, t86, b_5, b_6, b_7, b_8, b_9) =>
    if decide (t86 < t85_1) = true then
      if inR t86 t84.length = true then
        some (t84.getD t86.toNat dSValue) >>= fun x0_2 =>
        if decide (b_8.Kind = 8) = true then
          if inR t86 b_7.Keys.length = true then
            (encode_writer_payload_t fuel).1 (b_8.Key, SValue.eta (b_7.Keys.getD t86.toNat dSValue), addI .i64 level_1 1, b_5, b_6) >>= fun r_16 =>
            encode_sized_k r_16.1 >>= fun r_20 =>
            strings_Builder_WriteString_k (r_20, b_9) >>= fun r_21 =>
            (encode_writer_payload_t fuel).1 (b_8.Elem, SValue.eta x0_2, addI .i64 level_1 1, r_16.2.1, r_16.2.2) >>= fun r_24 =>
            encode_sized_k r_24.1 >>= fun r_28 =>
            strings_Builder_WriteString_k (r_28, r_21.2) >>= fun r_29 =>
            (encode_writer_payload_t fuel).2.2.2.1 (level_1, t84, t85_1, addI .i64 t86 1, r_24.2.1, r_24.2.2, SValue.eta b_7, b_8, r_29.2)
          else none
        else
          (encode_writer_payload_t fuel).1 (b_8.Elem, SValue.eta x0_2, addI .i64 level_1 1, b_5, b_6) >>= fun r_32 =>
          encode_sized_k r_32.1 >>= fun r_36 =>
          strings_Builder_WriteString_k (r_36, b_9) >>= fun r_37 =>
          (encode_writer_payload_t fuel).2.2.2.1 (level_1, t84, t85_1, addI .i64 t86 1, r_32.2.1, r_32.2.2, SValue.eta b_7, b_8, r_37.2)
      else none
    else
      some (b_5, b_6, b_9),
   fun (x_ : Int × List SMember × Int × Int × List SType × Int × SValue × List EncodeEntry) => match x_ with
    | (level_1, t18, t19_1, t20, b_12, b_13, b_14, b_15) =>
    if decide (t20 < t19_1) = true then
      if inR t20 t18.length = true then
        some (t18.getD t20.toNat dSMember) >>= fun x0_1 =>
        if inR t20 b_14.Items.length = true then
          encode_omitted_k ((⟨x0_1.ID, x0_1.Name, x0_1.Type_, x0_1.Critical, x0_1.HasDefault, SValue.eta x0_1.Default⟩ : SMember), SValue.eta (b_14.Items.getD t20.toNat dSValue)) >>= fun r_2 =>
          if (!r_2) = true then
            if inR t20 b_14.Items.length = true then
              (encode_writer_payload_t fuel).1 (x0_1.Type_, SValue.eta (b_14.Items.getD t20.toNat dSValue), addI .i64 level_1 1, b_12, b_13) >>= fun r_3 =>
              encode_field_k (x0_1.ID, x0_1.Critical, r_3.1) >>= fun r_7 =>
              some [(⟨x0_1.ID, r_7⟩ : EncodeEntry)] >>= fun t53 =>
              if room 24 (b_15 ++ t53).length = true then
                (encode_writer_payload_t fuel).2.2.2.2 (level_1, t18, t19_1, addI .i64 t20 1, r_3.2.1, r_3.2.2, SValue.eta b_14, b_15 ++ t53)
              else none
            else none
          else
            (encode_writer_payload_t fuel).2.2.2.2 (level_1, t18, t19_1, addI .i64 t20 1, b_12, b_13, SValue.eta b_14, b_15)
        else none
      else none
    else
      some (b_12, b_13, SValue.eta b_14, b_15))
theorem encode_writer_payload_t_le : ∀ n, (∀ x, Le ((encode_writer_payload_t n).1 x) (encode_writer_payload x)) ∧ (∀ x, Le ((encode_writer_payload_t n).2.1 x) (encode_writer_record x)) ∧ (∀ x, Le ((encode_writer_payload_t n).2.2.1 x) (encode_writer_union x)) ∧ (∀ x, Le ((encode_writer_payload_t n).2.2.2.1 x) (encode_writer_payload_l0 x)) ∧ (∀ x, Le ((encode_writer_payload_t n).2.2.2.2 x) (encode_writer_record_l0 x))
  | 0 => ⟨fun _ => Le.n, fun _ => Le.n, fun _ => Le.n, fun _ => Le.n, fun _ => Le.n⟩
  | fuel + 1 => ⟨fun x => match x with | (_, _, _, _, _) => by rw [encode_writer_payload]; exact (Le.b Le.r fun _ => (Le.i (Le.b Le.r fun _ => (Le.i Le.r (Le.i (Le.b (varint_Zigzag_le _) fun _ => (Le.b (varint_Big_le _) fun _ => Le.r)) (Le.i Le.r (Le.i (Le.b (varint_Big_le _) fun _ => Le.r) (Le.i (Le.b ((encode_writer_payload_t_le fuel).2.1 _) fun _ => Le.r) (Le.i (Le.b ((encode_writer_payload_t_le fuel).2.2.1 _) fun _ => Le.r) (Le.i (Le.i Le.r (Le.i (Le.b ((encode_writer_payload_t_le fuel).1 _) fun _ => Le.r) Le.r)) (Le.b ((encode_writer_payload_t_le fuel).2.2.2.1 _) fun _ => (Le.b (strings_Builder_String_le _) fun _ => Le.r)))))))))) Le.r)),
    fun x => match x with | (_, _, _, _, _) => by rw [encode_writer_record]; exact (Le.b ((encode_writer_payload_t_le fuel).2.2.2.2 _) fun _ => (Le.b (encode_writer_record_l1_le _) fun _ => (Le.b (sortK_le sortSWO _) fun _ => (Le.i (Le.b (encode_writer_record_l2_le _) fun _ => (Le.b (strings_Builder_String_le _) fun _ => Le.r)) Le.r)))),
    fun x => match x with | (_, _, _, _, _) => by rw [encode_writer_union]; exact (Le.b (varint_Put_le _) fun _ => (Le.b (schema_Member_le _) fun _ => (Le.i Le.r (Le.i (Le.i (Le.b ((encode_writer_payload_t_le fuel).1 _) fun _ => Le.r) Le.r) Le.r)))),
    fun x => match x with | (_, _, _, _, _, _, _, _, _) => by rw [encode_writer_payload_l0]; exact (Le.i (Le.i (Le.b Le.r fun _ => (Le.i (Le.i (Le.b ((encode_writer_payload_t_le fuel).1 _) fun _ => (Le.b (encode_sized_le _) fun _ => (Le.b (strings_Builder_WriteString_le _) fun _ => (Le.b ((encode_writer_payload_t_le fuel).1 _) fun _ => (Le.b (encode_sized_le _) fun _ => (Le.b (strings_Builder_WriteString_le _) fun _ => ((encode_writer_payload_t_le fuel).2.2.2.1 _))))))) Le.r) (Le.b ((encode_writer_payload_t_le fuel).1 _) fun _ => (Le.b (encode_sized_le _) fun _ => (Le.b (strings_Builder_WriteString_le _) fun _ => ((encode_writer_payload_t_le fuel).2.2.2.1 _)))))) Le.r) Le.r),
    fun x => match x with | (_, _, _, _, _, _, _, _) => by rw [encode_writer_record_l0]; exact (Le.i (Le.i (Le.b Le.r fun _ => (Le.i (Le.b (encode_omitted_le _) fun _ => (Le.i (Le.i (Le.b ((encode_writer_payload_t_le fuel).1 _) fun _ => (Le.b (encode_field_le _) fun _ => (Le.b Le.r fun _ => (Le.i ((encode_writer_payload_t_le fuel).2.2.2.2 _) Le.r)))) Le.r) ((encode_writer_payload_t_le fuel).2.2.2.2 _))) Le.r)) Le.r) Le.r)⟩
def encode_writer_payload_k (x : Int × SValue × Int × List SType × Int) : Option (List UInt8 × List SType × Int) := (encode_writer_payload_t 40).1 x
theorem encode_writer_payload_le : ∀ x, Le (encode_writer_payload_k x) (encode_writer_payload x) := (encode_writer_payload_t_le 40).1
def encode_writer_record_k (x : SType × SValue × Int × List SType × Int) : Option (List UInt8 × List SType × Int) := (encode_writer_payload_t 40).2.1 x
theorem encode_writer_record_le : ∀ x, Le (encode_writer_record_k x) (encode_writer_record x) := (encode_writer_payload_t_le 40).2.1
def encode_writer_union_k (x : SType × SValue × Int × List SType × Int) : Option (List UInt8 × List SType × Int) := (encode_writer_payload_t 40).2.2.1 x
theorem encode_writer_union_le : ∀ x, Le (encode_writer_union_k x) (encode_writer_union x) := (encode_writer_payload_t_le 40).2.2.1
def encode_writer_payload_l0_k (x : Int × List SValue × Int × Int × List SType × Int × SValue × SType × List UInt8) : Option (List SType × Int × List UInt8) := (encode_writer_payload_t 40).2.2.2.1 x
theorem encode_writer_payload_l0_le : ∀ x, Le (encode_writer_payload_l0_k x) (encode_writer_payload_l0 x) := (encode_writer_payload_t_le 40).2.2.2.1
def encode_writer_record_l0_k (x : Int × List SMember × Int × Int × List SType × Int × SValue × List EncodeEntry) : Option (List SType × Int × SValue × List EncodeEntry) := (encode_writer_payload_t 40).2.2.2.2 x
theorem encode_writer_record_l0_le : ∀ x, Le (encode_writer_record_l0_k x) (encode_writer_record_l0 x) := (encode_writer_payload_t_le 40).2.2.2.2
def encode_Encode_k (x_ : SSchema × Int × SValue) : Option (List UInt8 × Int) :=
  match x_ with
  | (s, t, v) =>
  encode_checked_k ((⟨s.Types⟩ : SSchema), t, SValue.eta v) >>= fun r =>
  if (!(decide (r = 0))) = true then
    some ([], r)
  else
    encode_writer_payload_k (t, SValue.eta v, 1, s.Types, 0) >>= fun r_1 =>
    if (bif decide (4096 < (r_1.1.length : Int)) then true else decide (200 < r_1.2.2)) = true then
      some ([], 3)
    else
      some (r_1.1, 0)
theorem encode_Encode_le : ∀ x, Le (encode_Encode_k x) (encode_Encode x) := fun x => match x with | (_, _, _) => (Le.b (encode_checked_le _) fun _ => (Le.i Le.r (Le.b (encode_writer_payload_le _) fun _ => Le.r)))
def varint_Get_l0_t : Nat → (List UInt8 × Int × Int × Int → Option ((Int × Int × Int) ⊕ (Unit)))
  | 0 => fun _ => none
  | fuel + 1 =>
   fun (x_ : List UInt8 × Int × Int × Int) => match x_ with
    | (s_1, n, t10_1, t11) =>
    if decide (t11 < t10_1) = true then
      if inR t11 s_1.length = true then
        some (byteAt s_1 t11) >>= fun t16 =>
        if (bif decide (t11 = 9) then decide (1 < t16) else false) = true then
          some (.inl (0, 0, 7))
        else
          if decide (128 ≤ t16) = true then
            some (mulI .i64 7 t11) >>= fun t41 =>
            if decide (0 ≤ t41) = true then
              (varint_Get_l0_t fuel) (s_1, orI .u64 n (shlI .u64 (wrp .u64 (andI .u8 t16 127)) t41), t10_1, addI .i64 t11 1)
            else none
          else
            if (bif decide (t16 = 0) then decide (0 < t11) else false) = true then
              some (.inl (0, 0, 2))
            else
              some (mulI .i64 7 t11) >>= fun t21 =>
              if decide (0 ≤ t21) = true then
                some (.inl (orI .u64 n (shlI .u64 (wrp .u64 t16) t21), addI .i64 t11 1, 0))
              else none
      else none
    else
      some (.inr ())
theorem varint_Get_l0_t_le : ∀ n, (∀ x, Le ((varint_Get_l0_t n) x) (varint_Get_l0 x))
  | 0 => fun _ => Le.n
  | fuel + 1 => fun x => match x with | (_, _, _, _) => by rw [varint_Get_l0]; exact (Le.i (Le.i (Le.b Le.r fun _ => (Le.i Le.r (Le.i (Le.b Le.r fun _ => (Le.i ((varint_Get_l0_t_le fuel) _) Le.r)) Le.r))) Le.r) Le.r)
def varint_Get_l0_k (x : List UInt8 × Int × Int × Int) : Option ((Int × Int × Int) ⊕ (Unit)) := (varint_Get_l0_t 40) x
theorem varint_Get_l0_le : ∀ x, Le (varint_Get_l0_k x) (varint_Get_l0 x) := (varint_Get_l0_t_le 40)
def varint_Get_k (s : List UInt8) : Option (Int × Int × Int) :=
  varint_Get_l0_k (s, 0, minI 10 (s.length : Int), 0) >>= fun o =>
  match o with
  | .inl o_1 =>
    some (o_1.1, o_1.2.1, o_1.2.2)
  | .inr o_2 =>
    some (0, 0, 10)
theorem varint_Get_le : ∀ x, Le (varint_Get_k x) (varint_Get x) := fun _ => (Le.b (varint_Get_l0_le _) fun _ => Le.r)
def encode_next_k (s : List UInt8) : Option (Int × List UInt8 × Bool) :=
  varint_Get_k s >>= fun r =>
  if (!(decide (r.2.2 = 0))) = true then
    some (0, [], false)
  else
    if slR r.2.1 (s.length : Int) s.length = true then
      some (r.1, cutL s r.2.1 (s.length : Int), true)
    else none
theorem encode_next_le : ∀ x, Le (encode_next_k x) (encode_next x) := fun _ => (Le.b (varint_Get_le _) fun _ => Le.r)
def encode_part_k (s : List UInt8) : Option (List UInt8 × List UInt8 × Bool) :=
  encode_next_k s >>= fun r =>
  if (bif (!r.2.2) then true else decide (wrp .u64 (r.2.1.length : Int) < r.1)) = true then
    some ([], [], false)
  else
    if slR 0 r.1 r.2.1.length = true then
      if slR r.1 (r.2.1.length : Int) r.2.1.length = true then
        some (cutL r.2.1 0 r.1, cutL r.2.1 r.1 (r.2.1.length : Int), true)
      else none
    else none
theorem encode_part_le : ∀ x, Le (encode_part_k x) (encode_part x) := fun _ => (Le.b (encode_next_le _) fun _ => Le.r)
def encode_Items_l0_t : Nat → (List UInt8 × List (List UInt8) → Option ((Int) ⊕ (List (List UInt8))))
  | 0 => fun _ => none
  | fuel + 1 =>
   fun (x_ : List UInt8 × List (List UInt8)) => match x_ with
    | (s, b_1) =>
    if (!(decide (s = []))) = true then
      encode_part_k s >>= fun r =>
      if (!r.2.2) = true then
        some (.inl 12)
      else
        some [r.1] >>= fun t22 =>
        if room 16 (b_1 ++ t22).length = true then
          (encode_Items_l0_t fuel) (r.2.1, b_1 ++ t22)
        else none
    else
      some (.inr b_1)
theorem encode_Items_l0_t_le : ∀ n, (∀ x, Le ((encode_Items_l0_t n) x) (encode_Items_l0 x))
  | 0 => fun _ => Le.n
  | fuel + 1 => fun x => match x with | (_, _) => by rw [encode_Items_l0]; exact (Le.i (Le.b (encode_part_le _) fun _ => (Le.i Le.r (Le.b Le.r fun _ => (Le.i ((encode_Items_l0_t_le fuel) _) Le.r)))) Le.r)
def encode_Items_l0_k (x : List UInt8 × List (List UInt8)) : Option ((Int) ⊕ (List (List UInt8))) := (encode_Items_l0_t 40) x
theorem encode_Items_l0_le : ∀ x, Le (encode_Items_l0_k x) (encode_Items_l0 x) := (encode_Items_l0_t_le 40)
def encode_Items_k (payload : List UInt8) : Option (List (List UInt8) × Int) :=
  encode_Items_l0_k (payload, []) >>= fun o =>
  match o with
  | .inl o_1 =>
    some ([], o_1)
  | .inr o_2 =>
    some (o_2, 0)
theorem encode_Items_le : ∀ x, Le (encode_Items_k x) (encode_Items x) := fun _ => (Le.b (encode_Items_l0_le _) fun _ => Le.r)
def slices_Equalstring_string_l0_t : Nat → (List (List UInt8) × List (List UInt8) × Int × Int → Option ((Bool) ⊕ (Unit)))
  | 0 => fun _ => none
  | fuel + 1 =>
   fun (x_ : List (List UInt8) × List (List UInt8) × Int × Int) => match x_ with
    | (s1_1, s2_1, t12_1, t13) =>
    if decide (t13 < t12_1) = true then
      if inR t13 s1_1.length = true then
        if inR t13 s2_1.length = true then
          if (!(decide (s1_1.getD t13.toNat [] = s2_1.getD t13.toNat []))) = true then
            some (.inl false)
          else
            (slices_Equalstring_string_l0_t fuel) (s1_1, s2_1, t12_1, addI .i64 t13 1)
        else none
      else none
    else
      some (.inr ())
theorem slices_Equalstring_string_l0_t_le : ∀ n, (∀ x, Le ((slices_Equalstring_string_l0_t n) x) (slices_Equalstring_string_l0 x))
  | 0 => fun _ => Le.n
  | fuel + 1 => fun x => match x with | (_, _, _, _) => by rw [slices_Equalstring_string_l0]; exact (Le.i (Le.i (Le.i (Le.i Le.r ((slices_Equalstring_string_l0_t_le fuel) _)) Le.r) Le.r) Le.r)
def slices_Equalstring_string_l0_k (x : List (List UInt8) × List (List UInt8) × Int × Int) : Option ((Bool) ⊕ (Unit)) := (slices_Equalstring_string_l0_t 40) x
theorem slices_Equalstring_string_l0_le : ∀ x, Le (slices_Equalstring_string_l0_k x) (slices_Equalstring_string_l0 x) := (slices_Equalstring_string_l0_t_le 40)
def slices_Equalstring_string_k (x_ : List (List UInt8) × List (List UInt8)) : Option (Bool) :=
  match x_ with
  | (s1, s2) =>
  if (!(decide ((s1.length : Int) = (s2.length : Int)))) = true then
    some false
  else
    slices_Equalstring_string_l0_k (s1, s2, (s1.length : Int), 0) >>= fun o =>
    match o with
    | .inl o_1 =>
      some o_1
    | .inr o_2 =>
      some true
theorem slices_Equalstring_string_le : ∀ x, Le (slices_Equalstring_string_k x) (slices_Equalstring_string x) := fun x => match x with | (_, _) => (Le.i Le.r (Le.b (slices_Equalstring_string_l0_le _) fun _ => Le.r))
def encode_Fields_l0_t : Nat → (Int × List UInt8 × List SField → Option ((Int) ⊕ (List SField)))
  | 0 => fun _ => none
  | fuel + 1 =>
   fun (x_ : Int × List UInt8 × List SField) => match x_ with
    | (last, s, b_1) =>
    if (!(decide (s = []))) = true then
      encode_next_k s >>= fun r =>
      if (bif bif (!r.2.2) then true else decide (quoI .u64 r.1 2 ≤ last) then true else decide (1000 < quoI .u64 r.1 2)) = true then
        some (.inl 12)
      else
        encode_part_k r.2.1 >>= fun r_4 =>
        if (!r_4.2.2) = true then
          some (.inl 12)
        else
          some [(⟨wrp .i64 (quoI .u64 r.1 2), decide (remI r.1 2 = 1), r_4.1⟩ : SField)] >>= fun t50 =>
          if room 32 (b_1 ++ t50).length = true then
            (encode_Fields_l0_t fuel) (quoI .u64 r.1 2, r_4.2.1, b_1 ++ t50)
          else none
    else
      some (.inr b_1)
theorem encode_Fields_l0_t_le : ∀ n, (∀ x, Le ((encode_Fields_l0_t n) x) (encode_Fields_l0 x))
  | 0 => fun _ => Le.n
  | fuel + 1 => fun x => match x with | (_, _, _) => by rw [encode_Fields_l0]; exact (Le.i (Le.b (encode_next_le _) fun _ => (Le.i Le.r (Le.b (encode_part_le _) fun _ => (Le.i Le.r (Le.b Le.r fun _ => (Le.i ((encode_Fields_l0_t_le fuel) _) Le.r)))))) Le.r)
def encode_Fields_l0_k (x : Int × List UInt8 × List SField) : Option ((Int) ⊕ (List SField)) := (encode_Fields_l0_t 40) x
theorem encode_Fields_l0_le : ∀ x, Le (encode_Fields_l0_k x) (encode_Fields_l0 x) := (encode_Fields_l0_t_le 40)
def encode_Fields_k (payload : List UInt8) : Option (List SField × Int) :=
  encode_Fields_l0_k (0, payload, []) >>= fun o =>
  match o with
  | .inl o_1 =>
    some ([], o_1)
  | .inr o_2 =>
    some (o_2, 0)
theorem encode_Fields_le : ∀ x, Le (encode_Fields_k x) (encode_Fields x) := fun _ => (Le.b (encode_Fields_l0_le _) fun _ => Le.r)
def encode_Arm_k (payload : List UInt8) : Option (Int × List UInt8 × Int) :=
  encode_next_k payload >>= fun r =>
  if (bif bif (!r.2.2) then true else decide (r.1 < 1) then true else decide (1000 < r.1)) = true then
    some (0, [], 12)
  else
    some (wrp .i64 r.1, r.2.1, 0)
theorem encode_Arm_le : ∀ x, Le (encode_Arm_k x) (encode_Arm x) := fun _ => (Le.b (encode_next_le _) fun _ => Le.r)
def encode_before_k (x_ : List UInt8 × List UInt8) : Option (Bool) :=
  match x_ with
  | (a, b) =>
  some (bif decide ((a.length : Int) < (b.length : Int)) then true else bif decide ((a.length : Int) = (b.length : Int)) then Op.bytesLess a b else false)
theorem encode_before_le : ∀ x, Le (encode_before_k x) (encode_before x) := fun x => match x with | (_, _) => Le.r
def varint_FromBig_l0_t : Nat → (List UInt8 × Int × Int × Int → Option (Int))
  | 0 => fun _ => none
  | fuel + 1 =>
   fun (x_ : List UInt8 × Int × Int × Int) => match x_ with
    | (s_1, n_1, t17_1, t18) =>
    if decide (t18 < t17_1) = true then
      if inR t18 s_1.length = true then
        (varint_FromBig_l0_t fuel) (s_1, orI .u64 (shlI .u64 n_1 8) (wrp .u64 (byteAt s_1 t18)), t17_1, addI .i64 t18 1)
      else none
    else
      some n_1
theorem varint_FromBig_l0_t_le : ∀ n, (∀ x, Le ((varint_FromBig_l0_t n) x) (varint_FromBig_l0 x))
  | 0 => fun _ => Le.n
  | fuel + 1 => fun x => match x with | (_, _, _, _) => by rw [varint_FromBig_l0]; exact (Le.i (Le.i ((varint_FromBig_l0_t_le fuel) _) Le.r) Le.r)
def varint_FromBig_l0_k (x : List UInt8 × Int × Int × Int) : Option (Int) := (varint_FromBig_l0_t 40) x
theorem varint_FromBig_l0_le : ∀ x, Le (varint_FromBig_l0_k x) (varint_FromBig_l0 x) := (varint_FromBig_l0_t_le 40)
def varint_FromBig_k (s : List UInt8) : Option (Int × Int) :=
  some (!(decide (s = []))) >>= fun t7 =>
  if (inR 0 s.length || (!t7)) = true then
    if (bif t7 then decide (byteAt s 0 = 0) else false) = true then
      some (0, 2)
    else
      if decide (8 < (s.length : Int)) = true then
        some (0, 7)
      else
        varint_FromBig_l0_k (s, 0, (s.length : Int), 0) >>= fun o =>
        some (o, 0)
  else none
theorem varint_FromBig_le : ∀ x, Le (varint_FromBig_k x) (varint_FromBig x) := fun _ => (Le.b Le.r fun _ => (Le.i (Le.i Le.r (Le.i Le.r (Le.b (varint_FromBig_l0_le _) fun _ => Le.r))) Le.r))
def varint_Unzigzag_k (n : Int) : Option (Int) :=
  some (xorI .i64 (wrp .i64 (shrI .u64 n 1)) (subI .i64 0 (wrp .i64 (andI .u64 n 1))))
theorem varint_Unzigzag_le : ∀ x, Le (varint_Unzigzag_k x) (varint_Unzigzag x) := fun _ => Le.r
def encode_simple_k (x_ : SType × List UInt8) : Option (Bool) :=
  match x_ with
  | (x0, p) =>
  if decide (x0.Kind = 1) = true then
    some (bif decide (p = []) then true else decide (p = [1]))
  else
    if decide (x0.Kind = 3) = true then
      some (decide ((p.length : Int) ≤ x0.Max))
    else
      varint_FromBig_k p >>= fun r =>
      if (!(decide (r.2 = 0))) = true then
        some false
      else
        if decide (x0.Kind = 2) = true then
          varint_Unzigzag_k r.1 >>= fun r_3 =>
          some (bif decide (x0.Low ≤ r_3) then decide (r_3 ≤ x0.High) else false)
        else
          if (bif decide (r.1 < 1) then true else decide (1000 < r.1)) = true then
            some false
          else
            schema_Symbol_k (x0, wrp .i64 r.1) >>= fun r_4 =>
            some (bif r_4.2 then true else x0.Open)
theorem encode_simple_le : ∀ x, Le (encode_simple_k x) (encode_simple x) := fun x => match x with | (_, _) => (Le.i Le.r (Le.i Le.r (Le.b (varint_FromBig_le _) fun _ => (Le.i Le.r (Le.i (Le.b (varint_Unzigzag_le _) fun _ => Le.r) (Le.i Le.r (Le.b (schema_Symbol_le _) fun _ => Le.r)))))))
def encode_reader_record_l1_t : Nat → (Int × List SMember × Int × Int → Option (Int))
  | 0 => fun _ => none
  | fuel + 1 =>
   fun (x_ : Int × List SMember × Int × Int) => match x_ with
    | (seen_3, t93, t94_1, t95) =>
    if decide (t95 < t94_1) = true then
      if inR t95 t93.length = true then
        if (!(t93.getD t95.toNat dSMember).HasDefault) = true then
          (encode_reader_record_l1_t fuel) (subI .i64 seen_3 1, t93, t94_1, addI .i64 t95 1)
        else
          (encode_reader_record_l1_t fuel) (seen_3, t93, t94_1, addI .i64 t95 1)
      else none
    else
      some seen_3
theorem encode_reader_record_l1_t_le : ∀ n, (∀ x, Le ((encode_reader_record_l1_t n) x) (encode_reader_record_l1 x))
  | 0 => fun _ => Le.n
  | fuel + 1 => fun x => match x with | (_, _, _, _) => by rw [encode_reader_record_l1]; exact (Le.i (Le.i (Le.i ((encode_reader_record_l1_t_le fuel) _) ((encode_reader_record_l1_t_le fuel) _)) Le.r) Le.r)
def encode_reader_record_l1_k (x : Int × List SMember × Int × Int) : Option (Int) := (encode_reader_record_l1_t 40) x
theorem encode_reader_record_l1_le : ∀ x, Le (encode_reader_record_l1_k x) (encode_reader_record_l1 x) := (encode_reader_record_l1_t_le 40)
def encode_reader_canonical_t : Nat → (EncodeReader × Int × List UInt8 × Int → Option (Bool)) × (EncodeReader × SType × List UInt8 × Int → Option (Bool)) × (List UInt8 × List SType × Int × List UInt8 × Int × Int × Int × List SSymbol × List SMember × Int × Int × Bool × Int → Option (Bool × List SType × Int × List UInt8 × Int × Int × Int × List SSymbol × List SMember × Int × Int × Bool × Int)) × (EncodeReader × SType × List UInt8 × Int → Option (Bool)) × (List (List UInt8) × List SType × Int × List UInt8 × Int × Int × Int × List SSymbol × List SMember × Int × Int × Bool × Int → Option (Bool × List SType × Int × List UInt8 × Int × Int × Int × List SSymbol × List SMember × Int × Int × Bool × Int)) × (List (List UInt8) × List SType × Int × List UInt8 × Int × Int × Int × List SSymbol × List SMember × Int × Int × Bool × Int → Option (Int × List SType × Int × List UInt8 × Int × Int × Int × List SSymbol × List SMember × Int × Int × Bool × Int)) × (List (List UInt8) × Int × List SType × Int × List UInt8 × Int × Int × Int × List SSymbol × List SMember × Int × Int × Bool × Int → Option ((Bool) ⊕ (Unit))) × (Int × Int × List SField × Int × Int × List SType × SType → Option ((Bool) ⊕ (Int × SType))) × (List (List UInt8) × Int × Int × List SType × Int × List UInt8 × Int × Int × Int × List SSymbol × List SMember × Int × Int × Bool × Int → Option ((Int × List SType × Int × List UInt8 × Int × Int × Int × List SSymbol × List SMember × Int × Int × Bool × Int) ⊕ (List SType × Int × List UInt8 × Int × Int × Int × List SSymbol × List SMember × Int × Int × Bool × Int)))
  | 0 => (fun _ => none, fun _ => none, fun _ => none, fun _ => none, fun _ => none, fun _ => none, fun _ => none, fun _ => none, fun _ => none)
  | fuel + 1 =>
   (fun (x_ : EncodeReader × Int × List UInt8 × Int) => match x_ with
    | (r, t, p, level) =>
    if inR t r.s.Types.length = true then
      some (r.s.Types.getD t.toNat dSType) >>= fun x0 =>
      if decide (200 < level) = true then
        some false
      else
        if decide (x0.Kind = 5) = true then
          (encode_reader_canonical_t fuel).2.2.2.1 ((⟨(⟨r.s.Types⟩ : SSchema)⟩ : EncodeReader), x0, p, level) >>= fun r_1 =>
          some r_1
        else
          some (decide (x0.Kind = 7)) >>= fun t33 =>
          if t33 = true then
            if t33 = true then
              (encode_reader_canonical_t fuel).2.1 ((⟨(⟨r.s.Types⟩ : SSchema)⟩ : EncodeReader), x0, p, level) >>= fun r_2 =>
              some r_2
            else
              if decide (x0.Kind = 9) = true then
                some (decide (p = [])) >>= fun t43 =>
                if (inR 0 p.length || (!(!t43))) = true then
                  some (decide (byteAt p 0 = 1)) >>= fun t47 =>
                  if (slR 1 (p.length : Int) p.length || (!((!t43) && t47))) = true then
                    (if ((!t43) && t47) = true then (encode_reader_canonical_t fuel).1 ((⟨(⟨r.s.Types⟩ : SSchema)⟩ : EncodeReader), x0.Elem, cutL p 1 (p.length : Int), addI .i64 level 1) else some false) >>= fun r_3 =>
                    some (bif t43 then true else bif t47 then r_3 else false)
                  else none
                else none
              else
                if decide (x0.Kind = 6) = true then
                  encode_Arm_k p >>= fun r_4 =>
                  if (!(decide (r_4.2.2 = 0))) = true then
                    some false
                  else
                    schema_Member_k (x0, r_4.1) >>= fun r_8 =>
                    some (bif (!r_8.2) then x0.Open else false) >>= fun t80 =>
                    if (inR r_8.1 x0.Members.length || (!((!t80) && r_8.2))) = true then
                      (if ((!t80) && r_8.2) = true then (encode_reader_canonical_t fuel).1 ((⟨(⟨r.s.Types⟩ : SSchema)⟩ : EncodeReader), (x0.Members.getD r_8.1.toNat dSMember).Type_, r_4.2.1, addI .i64 level 1) else some false) >>= fun r_11 =>
                      some (bif t80 then true else bif r_8.2 then r_11 else false)
                    else none
                else
                  encode_simple_k (x0, p) >>= fun r_12 =>
                  some r_12
          else
            if decide (x0.Kind = 8) = true then
              (encode_reader_canonical_t fuel).2.1 ((⟨(⟨r.s.Types⟩ : SSchema)⟩ : EncodeReader), x0, p, level) >>= fun r_13 =>
              some r_13
            else
              if decide (x0.Kind = 9) = true then
                some (decide (p = [])) >>= fun t43_1 =>
                if (inR 0 p.length || (!(!t43_1))) = true then
                  some (decide (byteAt p 0 = 1)) >>= fun t47_1 =>
                  if (slR 1 (p.length : Int) p.length || (!((!t43_1) && t47_1))) = true then
                    (if ((!t43_1) && t47_1) = true then (encode_reader_canonical_t fuel).1 ((⟨(⟨r.s.Types⟩ : SSchema)⟩ : EncodeReader), x0.Elem, cutL p 1 (p.length : Int), addI .i64 level 1) else some false) >>= fun r_14 =>
                    some (bif t43_1 then true else bif t47_1 then r_14 else false)
                  else none
                else none
              else
                if decide (x0.Kind = 6) = true then
                  encode_Arm_k p >>= fun r_15 =>
                  if (!(decide (r_15.2.2 = 0))) = true then
                    some false
                  else
                    schema_Member_k (x0, r_15.1) >>= fun r_19 =>
                    some (bif (!r_19.2) then x0.Open else false) >>= fun t80_1 =>
                    if (inR r_19.1 x0.Members.length || (!((!t80_1) && r_19.2))) = true then
                      (if ((!t80_1) && r_19.2) = true then (encode_reader_canonical_t fuel).1 ((⟨(⟨r.s.Types⟩ : SSchema)⟩ : EncodeReader), (x0.Members.getD r_19.1.toNat dSMember).Type_, r_15.2.1, addI .i64 level 1) else some false) >>= fun r_22 =>
                      some (bif t80_1 then true else bif r_19.2 then r_22 else false)
                    else none
                else
                  encode_simple_k (x0, p) >>= fun r_23 =>
                  some r_23
    else none,
   fun (x_ : EncodeReader × SType × List UInt8 × Int) => match x_ with
    | (r, x0, p, level) =>
    encode_Items_k p >>= fun r_1 =>
    if (!(decide (r_1.2 = 0))) = true then
      some false
    else
      if decide (x0.Kind = 7) = true then
        some (decide ((r_1.1.length : Int) ≤ x0.Max)) >>= fun t26 =>
        if t26 = true then
          (encode_reader_canonical_t fuel).2.2.2.2.1 (r_1.1, r.s.Types, x0.Kind, x0.Name, x0.Low, x0.High, x0.Max, x0.Symbols, x0.Members, x0.Key, x0.Elem, x0.Open, level) >>= fun r_4 =>
          some (bif t26 then (!r_4.1) else false)
        else
          some (bif t26 then false else false)
      else
        if (bif decide (remI (r_1.1.length : Int) 2 = 1) then true else decide (x0.Max < quoI .i64 (r_1.1.length : Int) 2)) = true then
          some false
        else
          (encode_reader_canonical_t fuel).2.2.2.2.2.2.1 (r_1.1, 0, r.s.Types, x0.Kind, x0.Name, x0.Low, x0.High, x0.Max, x0.Symbols, x0.Members, x0.Key, x0.Elem, x0.Open, level) >>= fun o =>
          match o with
          | .inl o_1 =>
            some o_1
          | .inr o_2 =>
            some true,
   fun (x_ : List UInt8 × List SType × Int × List UInt8 × Int × Int × Int × List SSymbol × List SMember × Int × Int × Bool × Int) => match x_ with
    | (p, b, b_1, b_2, b_3, b_4, b_5, b_6, b_7, b_8, b_9, b_10, b_11) =>
    (encode_reader_canonical_t fuel).1 ((⟨(⟨b⟩ : SSchema)⟩ : EncodeReader), b_9, p, addI .i64 b_11 1) >>= fun r =>
    some ((!r), b, b_1, b_2, b_3, b_4, b_5, b_6, b_7, b_8, b_9, b_10, b_11),
   fun (x_ : EncodeReader × SType × List UInt8 × Int) => match x_ with
    | (r, x0, p, level) =>
    encode_Fields_k p >>= fun r_1 =>
    if (!(decide (r_1.2 = 0))) = true then
      some false
    else
      (encode_reader_canonical_t fuel).2.2.2.2.2.2.2.1 (level, 0, r_1.1, (r_1.1.length : Int), 0, r.s.Types, x0) >>= fun o =>
      match o with
      | .inl o_1 =>
        some o_1
      | .inr o_2 =>
        encode_reader_record_l1_k (o_2.1, o_2.2.Members, (o_2.2.Members.length : Int), 0) >>= fun o_3 =>
        some (decide (o_3 = 0)),
   fun (x_ : List (List UInt8) × List SType × Int × List UInt8 × Int × Int × Int × List SSymbol × List SMember × Int × Int × Bool × Int) => match x_ with
    | (s, b, b_1, b_2, b_3, b_4, b_5, b_6, b_7, b_8, b_9, b_10, b_11) =>
    (encode_reader_canonical_t fuel).2.2.2.2.2.1 (s, b, b_1, b_2, b_3, b_4, b_5, b_6, b_7, b_8, b_9, b_10, b_11) >>= fun r =>
    some (decide (0 ≤ r.1), r.2.1, r.2.2.1, r.2.2.2.1, r.2.2.2.2.1, r.2.2.2.2.2.1, r.2.2.2.2.2.2.1, r.2.2.2.2.2.2.2.1, r.2.2.2.2.2.2.2.2.1, r.2.2.2.2.2.2.2.2.2.1, r.2.2.2.2.2.2.2.2.2.2.1, r.2.2.2.2.2.2.2.2.2.2.2.1, r.2.2.2.2.2.2.2.2.2.2.2.2),
   fun (x_ : List (List UInt8) × List SType × Int × List UInt8 × Int × Int × Int × List SSymbol × List SMember × Int × Int × Bool × Int) => match x_ with
    | (s, b, b_1, b_2, b_3, b_4, b_5, b_6, b_7, b_8, b_9, b_10, b_11) =>
    (encode_reader_canonical_t fuel).2.2.2.2.2.2.2.2 (s, (s.length : Int), 0, b, b_1, b_2, b_3, b_4, b_5, b_6, b_7, b_8, b_9, b_10, b_11) >>= fun o =>
    match o with
    | .inl o_1 =>
      some (o_1.1, o_1.2.1, o_1.2.2.1, o_1.2.2.2.1, o_1.2.2.2.2.1, o_1.2.2.2.2.2.1, o_1.2.2.2.2.2.2.1, o_1.2.2.2.2.2.2.2.1, o_1.2.2.2.2.2.2.2.2.1, o_1.2.2.2.2.2.2.2.2.2.1, o_1.2.2.2.2.2.2.2.2.2.2.1, o_1.2.2.2.2.2.2.2.2.2.2.2.1, o_1.2.2.2.2.2.2.2.2.2.2.2.2)
    | .inr o_2 =>
      some ((-1), o_2.1, o_2.2.1, o_2.2.2.1, o_2.2.2.2.1, o_2.2.2.2.2.1, o_2.2.2.2.2.2.1, o_2.2.2.2.2.2.2.1, o_2.2.2.2.2.2.2.2.1, o_2.2.2.2.2.2.2.2.2.1, o_2.2.2.2.2.2.2.2.2.2.1, o_2.2.2.2.2.2.2.2.2.2.2.1, o_2.2.2.2.2.2.2.2.2.2.2.2),
   fun (x_ : List (List UInt8) × Int × List SType × Int × List UInt8 × Int × Int × Int × List SSymbol × List SMember × Int × Int × Bool × Int) => match x_ with
    | (l, i, b, b_1, b_2, b_3, b_4, b_5, b_6, b_7, b_8, b_9, b_10, b_11) =>
    if decide (i < (l.length : Int)) = true then
      if inR i l.length = true then
        (encode_reader_canonical_t fuel).1 ((⟨(⟨b⟩ : SSchema)⟩ : EncodeReader), b_8, l.getD i.toNat [], addI .i64 b_11 1) >>= fun r_18 =>
        some (!r_18) >>= fun t61 =>
        some (addI .i64 i 1) >>= fun t68 =>
        if (inR t68 l.length || (!(!t61))) = true then
          (if (!t61) = true then (encode_reader_canonical_t fuel).1 ((⟨(⟨b⟩ : SSchema)⟩ : EncodeReader), b_9, l.getD t68.toNat [], addI .i64 b_11 1) else some false) >>= fun r_19 =>
          some (bif t61 then true else (!r_19)) >>= fun t75 =>
          some (decide (0 < i)) >>= fun t78 =>
          some (subI .i64 i 2) >>= fun t82 =>
          if (inR t82 l.length || (!((!t75) && t78))) = true then
            if (inR i l.length || (!((!t75) && t78))) = true then
              (if ((!t75) && t78) = true then encode_before_k (l.getD t82.toNat [], l.getD i.toNat []) else some false) >>= fun r_20 =>
              if (bif t75 then true else bif t78 then (!r_20) else false) = true then
                some (.inl false)
              else
                (encode_reader_canonical_t fuel).2.2.2.2.2.2.1 (l, addI .i64 i 2, b, b_1, b_2, b_3, b_4, b_5, b_6, b_7, b_8, b_9, b_10, b_11)
            else none
          else none
        else none
      else none
    else
      some (.inr ()),
   fun (x_ : Int × Int × List SField × Int × Int × List SType × SType) => match x_ with
    | (level_1, seen_2, t27, t28_1, t29, b_1, b_2) =>
    if decide (t29 < t28_1) = true then
      if inR t29 t27.length = true then
        some (t27.getD t29.toNat dSField) >>= fun x0_1 =>
        schema_Member_k (b_2, x0_1.ID) >>= fun r_4 =>
        if (!r_4.2) = true then
          if x0_1.Critical = true then
            some (.inl false)
          else
            (encode_reader_canonical_t fuel).2.2.2.2.2.2.2.1 (level_1, seen_2, t27, t28_1, addI .i64 t29 1, b_1, b_2)
        else
          if inR r_4.1 b_2.Members.length = true then
            some (b_2.Members.getD r_4.1.toNat dSMember) >>= fun x0_2 =>
            some (!(eqB x0_1.Critical x0_2.Critical)) >>= fun t53 =>
            (if (!t53) = true then (encode_reader_canonical_t fuel).1 ((⟨(⟨b_1⟩ : SSchema)⟩ : EncodeReader), x0_2.Type_, x0_1.Data, addI .i64 level_1 1) else some false) >>= fun r_7 =>
            if (bif t53 then true else (!r_7)) = true then
              some (.inl false)
            else
              if x0_2.HasDefault = true then
                value_Fits_k ((⟨b_1⟩ : SSchema), x0_2.Type_, SValue.eta x0_2.Default) >>= fun r_8 =>
                if r_8 = true then
                  encode_writer_payload_k (x0_2.Type_, SValue.eta x0_2.Default, 1, b_1, 0) >>= fun r_9 =>
                  if (bif r_8 then decide (r_9.1 = x0_1.Data) else false) = true then
                    some (.inl false)
                  else
                    (encode_reader_canonical_t fuel).2.2.2.2.2.2.2.1 (level_1, seen_2, t27, t28_1, addI .i64 t29 1, b_1, b_2)
                else
                  if (bif r_8 then false else false) = true then
                    some (.inl false)
                  else
                    (encode_reader_canonical_t fuel).2.2.2.2.2.2.2.1 (level_1, seen_2, t27, t28_1, addI .i64 t29 1, b_1, b_2)
              else
                (encode_reader_canonical_t fuel).2.2.2.2.2.2.2.1 (level_1, addI .i64 seen_2 1, t27, t28_1, addI .i64 t29 1, b_1, b_2)
          else none
      else none
    else
      some (.inr (seen_2, b_2)),
   fun (x_ : List (List UInt8) × Int × Int × List SType × Int × List UInt8 × Int × Int × Int × List SSymbol × List SMember × Int × Int × Bool × Int) => match x_ with
    | (s_1, t7_1, t8, b_36, b_37, b_38, b_39, b_40, b_41, b_42, b_43, b_44, b_45, b_46, b_47) =>
    if decide (t8 < t7_1) = true then
      if inR t8 s_1.length = true then
        (encode_reader_canonical_t fuel).2.2.1 (s_1.getD t8.toNat [], b_36, b_37, b_38, b_39, b_40, b_41, b_42, b_43, b_44, b_45, b_46, b_47) >>= fun r =>
        if r.1 = true then
          some (.inl (t8, r.2.1, r.2.2.1, r.2.2.2.1, r.2.2.2.2.1, r.2.2.2.2.2.1, r.2.2.2.2.2.2.1, r.2.2.2.2.2.2.2.1, r.2.2.2.2.2.2.2.2.1, r.2.2.2.2.2.2.2.2.2.1, r.2.2.2.2.2.2.2.2.2.2.1, r.2.2.2.2.2.2.2.2.2.2.2.1, r.2.2.2.2.2.2.2.2.2.2.2.2))
        else
          (encode_reader_canonical_t fuel).2.2.2.2.2.2.2.2 (s_1, t7_1, addI .i64 t8 1, r.2.1, r.2.2.1, r.2.2.2.1, r.2.2.2.2.1, r.2.2.2.2.2.1, r.2.2.2.2.2.2.1, r.2.2.2.2.2.2.2.1, r.2.2.2.2.2.2.2.2.1, r.2.2.2.2.2.2.2.2.2.1, r.2.2.2.2.2.2.2.2.2.2.1, r.2.2.2.2.2.2.2.2.2.2.2.1, r.2.2.2.2.2.2.2.2.2.2.2.2)
      else none
    else
      some (.inr (b_36, b_37, b_38, b_39, b_40, b_41, b_42, b_43, b_44, b_45, b_46, b_47)))
theorem encode_reader_canonical_t_le : ∀ n, (∀ x, Le ((encode_reader_canonical_t n).1 x) (encode_reader_canonical x)) ∧ (∀ x, Le ((encode_reader_canonical_t n).2.1 x) (encode_reader_items x)) ∧ (∀ x, Le ((encode_reader_canonical_t n).2.2.1 x) (encode_reader_items_1_2 x)) ∧ (∀ x, Le ((encode_reader_canonical_t n).2.2.2.1 x) (encode_reader_record x)) ∧ (∀ x, Le ((encode_reader_canonical_t n).2.2.2.2.1 x) (slices_ContainsFuncstring_string_2 x)) ∧ (∀ x, Le ((encode_reader_canonical_t n).2.2.2.2.2.1 x) (slices_IndexFuncstring_string_2 x)) ∧ (∀ x, Le ((encode_reader_canonical_t n).2.2.2.2.2.2.1 x) (encode_reader_items_l0 x)) ∧ (∀ x, Le ((encode_reader_canonical_t n).2.2.2.2.2.2.2.1 x) (encode_reader_record_l0 x)) ∧ (∀ x, Le ((encode_reader_canonical_t n).2.2.2.2.2.2.2.2 x) (slices_IndexFuncstring_string_2_l0 x))
  | 0 => ⟨fun _ => Le.n, fun _ => Le.n, fun _ => Le.n, fun _ => Le.n, fun _ => Le.n, fun _ => Le.n, fun _ => Le.n, fun _ => Le.n, fun _ => Le.n⟩
  | fuel + 1 => ⟨fun x => match x with | (_, _, _, _) => by rw [encode_reader_canonical]; exact (Le.i (Le.b Le.r fun _ => (Le.i Le.r (Le.i (Le.b ((encode_reader_canonical_t_le fuel).2.2.2.1 _) fun _ => Le.r) (Le.b Le.r fun _ => (Le.i (Le.i (Le.b ((encode_reader_canonical_t_le fuel).2.1 _) fun _ => Le.r) (Le.i (Le.b Le.r fun _ => (Le.i (Le.b Le.r fun _ => (Le.i (Le.b (Le.i ((encode_reader_canonical_t_le fuel).1 _) Le.r) fun _ => Le.r) Le.r)) Le.r)) (Le.i (Le.b (encode_Arm_le _) fun _ => (Le.i Le.r (Le.b (schema_Member_le _) fun _ => (Le.b Le.r fun _ => (Le.i (Le.b (Le.i ((encode_reader_canonical_t_le fuel).1 _) Le.r) fun _ => Le.r) Le.r))))) (Le.b (encode_simple_le _) fun _ => Le.r)))) (Le.i (Le.b ((encode_reader_canonical_t_le fuel).2.1 _) fun _ => Le.r) (Le.i (Le.b Le.r fun _ => (Le.i (Le.b Le.r fun _ => (Le.i (Le.b (Le.i ((encode_reader_canonical_t_le fuel).1 _) Le.r) fun _ => Le.r) Le.r)) Le.r)) (Le.i (Le.b (encode_Arm_le _) fun _ => (Le.i Le.r (Le.b (schema_Member_le _) fun _ => (Le.b Le.r fun _ => (Le.i (Le.b (Le.i ((encode_reader_canonical_t_le fuel).1 _) Le.r) fun _ => Le.r) Le.r))))) (Le.b (encode_simple_le _) fun _ => Le.r))))))))) Le.r),
    fun x => match x with | (_, _, _, _) => by rw [encode_reader_items]; exact (Le.b (encode_Items_le _) fun _ => (Le.i Le.r (Le.i (Le.b Le.r fun _ => (Le.i (Le.b ((encode_reader_canonical_t_le fuel).2.2.2.2.1 _) fun _ => Le.r) Le.r)) (Le.i Le.r (Le.b ((encode_reader_canonical_t_le fuel).2.2.2.2.2.2.1 _) fun _ => Le.r))))),
    fun x => match x with | (_, _, _, _, _, _, _, _, _, _, _, _, _) => by rw [encode_reader_items_1_2]; exact (Le.b ((encode_reader_canonical_t_le fuel).1 _) fun _ => Le.r),
    fun x => match x with | (_, _, _, _) => by rw [encode_reader_record]; exact (Le.b (encode_Fields_le _) fun _ => (Le.i Le.r (Le.b ((encode_reader_canonical_t_le fuel).2.2.2.2.2.2.2.1 _) fun o => match o with | .inl _ => Le.r | .inr _ => (Le.b (encode_reader_record_l1_le _) fun _ => Le.r)))),
    fun x => match x with | (_, _, _, _, _, _, _, _, _, _, _, _, _) => by rw [slices_ContainsFuncstring_string_2]; exact (Le.b ((encode_reader_canonical_t_le fuel).2.2.2.2.2.1 _) fun _ => Le.r),
    fun x => match x with | (_, _, _, _, _, _, _, _, _, _, _, _, _) => by rw [slices_IndexFuncstring_string_2]; exact (Le.b ((encode_reader_canonical_t_le fuel).2.2.2.2.2.2.2.2 _) fun _ => Le.r),
    fun x => match x with | (_, _, _, _, _, _, _, _, _, _, _, _, _, _) => by rw [encode_reader_items_l0]; exact (Le.i (Le.i (Le.b ((encode_reader_canonical_t_le fuel).1 _) fun _ => (Le.b Le.r fun _ => (Le.b Le.r fun _ => (Le.i (Le.b (Le.i ((encode_reader_canonical_t_le fuel).1 _) Le.r) fun _ => (Le.b Le.r fun _ => (Le.b Le.r fun _ => (Le.b Le.r fun _ => (Le.i (Le.i (Le.b (Le.i (encode_before_le _) Le.r) fun _ => (Le.i Le.r ((encode_reader_canonical_t_le fuel).2.2.2.2.2.2.1 _))) Le.r) Le.r))))) Le.r)))) Le.r) Le.r),
    fun x => match x with | (_, _, _, _, _, _, _) => by rw [encode_reader_record_l0]; exact (Le.i (Le.i (Le.b Le.r fun _ => (Le.b (schema_Member_le _) fun _ => (Le.i (Le.i Le.r ((encode_reader_canonical_t_le fuel).2.2.2.2.2.2.2.1 _)) (Le.i (Le.b Le.r fun _ => (Le.b Le.r fun _ => (Le.b (Le.i ((encode_reader_canonical_t_le fuel).1 _) Le.r) fun _ => (Le.i Le.r (Le.i (Le.b (value_Fits_le _) fun _ => (Le.i (Le.b (encode_writer_payload_le _) fun _ => (Le.i Le.r ((encode_reader_canonical_t_le fuel).2.2.2.2.2.2.2.1 _))) (Le.i Le.r ((encode_reader_canonical_t_le fuel).2.2.2.2.2.2.2.1 _)))) ((encode_reader_canonical_t_le fuel).2.2.2.2.2.2.2.1 _)))))) Le.r)))) Le.r) Le.r),
    fun x => match x with | (_, _, _, _, _, _, _, _, _, _, _, _, _, _, _) => by rw [slices_IndexFuncstring_string_2_l0]; exact (Le.i (Le.i (Le.b ((encode_reader_canonical_t_le fuel).2.2.1 _) fun _ => (Le.i Le.r ((encode_reader_canonical_t_le fuel).2.2.2.2.2.2.2.2 _))) Le.r) Le.r)⟩
def encode_reader_canonical_k (x : EncodeReader × Int × List UInt8 × Int) : Option (Bool) := (encode_reader_canonical_t 40).1 x
theorem encode_reader_canonical_le : ∀ x, Le (encode_reader_canonical_k x) (encode_reader_canonical x) := (encode_reader_canonical_t_le 40).1
def encode_reader_items_k (x : EncodeReader × SType × List UInt8 × Int) : Option (Bool) := (encode_reader_canonical_t 40).2.1 x
theorem encode_reader_items_le : ∀ x, Le (encode_reader_items_k x) (encode_reader_items x) := (encode_reader_canonical_t_le 40).2.1
def encode_reader_items_1_2_k (x : List UInt8 × List SType × Int × List UInt8 × Int × Int × Int × List SSymbol × List SMember × Int × Int × Bool × Int) : Option (Bool × List SType × Int × List UInt8 × Int × Int × Int × List SSymbol × List SMember × Int × Int × Bool × Int) := (encode_reader_canonical_t 40).2.2.1 x
theorem encode_reader_items_1_2_le : ∀ x, Le (encode_reader_items_1_2_k x) (encode_reader_items_1_2 x) := (encode_reader_canonical_t_le 40).2.2.1
def encode_reader_record_k (x : EncodeReader × SType × List UInt8 × Int) : Option (Bool) := (encode_reader_canonical_t 40).2.2.2.1 x
theorem encode_reader_record_le : ∀ x, Le (encode_reader_record_k x) (encode_reader_record x) := (encode_reader_canonical_t_le 40).2.2.2.1
def slices_ContainsFuncstring_string_2_k (x : List (List UInt8) × List SType × Int × List UInt8 × Int × Int × Int × List SSymbol × List SMember × Int × Int × Bool × Int) : Option (Bool × List SType × Int × List UInt8 × Int × Int × Int × List SSymbol × List SMember × Int × Int × Bool × Int) := (encode_reader_canonical_t 40).2.2.2.2.1 x
theorem slices_ContainsFuncstring_string_2_le : ∀ x, Le (slices_ContainsFuncstring_string_2_k x) (slices_ContainsFuncstring_string_2 x) := (encode_reader_canonical_t_le 40).2.2.2.2.1
def slices_IndexFuncstring_string_2_k (x : List (List UInt8) × List SType × Int × List UInt8 × Int × Int × Int × List SSymbol × List SMember × Int × Int × Bool × Int) : Option (Int × List SType × Int × List UInt8 × Int × Int × Int × List SSymbol × List SMember × Int × Int × Bool × Int) := (encode_reader_canonical_t 40).2.2.2.2.2.1 x
theorem slices_IndexFuncstring_string_2_le : ∀ x, Le (slices_IndexFuncstring_string_2_k x) (slices_IndexFuncstring_string_2 x) := (encode_reader_canonical_t_le 40).2.2.2.2.2.1
def encode_reader_items_l0_k (x : List (List UInt8) × Int × List SType × Int × List UInt8 × Int × Int × Int × List SSymbol × List SMember × Int × Int × Bool × Int) : Option ((Bool) ⊕ (Unit)) := (encode_reader_canonical_t 40).2.2.2.2.2.2.1 x
theorem encode_reader_items_l0_le : ∀ x, Le (encode_reader_items_l0_k x) (encode_reader_items_l0 x) := (encode_reader_canonical_t_le 40).2.2.2.2.2.2.1
def encode_reader_record_l0_k (x : Int × Int × List SField × Int × Int × List SType × SType) : Option ((Bool) ⊕ (Int × SType)) := (encode_reader_canonical_t 40).2.2.2.2.2.2.2.1 x
theorem encode_reader_record_l0_le : ∀ x, Le (encode_reader_record_l0_k x) (encode_reader_record_l0 x) := (encode_reader_canonical_t_le 40).2.2.2.2.2.2.2.1
def slices_IndexFuncstring_string_2_l0_k (x : List (List UInt8) × Int × Int × List SType × Int × List UInt8 × Int × Int × Int × List SSymbol × List SMember × Int × Int × Bool × Int) : Option ((Int × List SType × Int × List UInt8 × Int × Int × Int × List SSymbol × List SMember × Int × Int × Bool × Int) ⊕ (List SType × Int × List UInt8 × Int × Int × Int × List SSymbol × List SMember × Int × Int × Bool × Int)) := (encode_reader_canonical_t 40).2.2.2.2.2.2.2.2 x
theorem slices_IndexFuncstring_string_2_l0_le : ∀ x, Le (slices_IndexFuncstring_string_2_l0_k x) (slices_IndexFuncstring_string_2_l0 x) := (encode_reader_canonical_t_le 40).2.2.2.2.2.2.2.2
def encode_Canonical_k (x_ : SSchema × Int × List UInt8) : Option (Bool) :=
  match x_ with
  | (s, t, m) =>
  encode_errorOf_k ((⟨s.Types⟩ : SSchema), t) >>= fun r =>
  some (bif decide (r = 0) then decide ((m.length : Int) ≤ 4096) else false) >>= fun t15 =>
  (if t15 = true then encode_reader_canonical_k ((⟨(⟨s.Types⟩ : SSchema)⟩ : EncodeReader), t, m, 1) else some false) >>= fun r_1 =>
  some (bif t15 then r_1 else false)
theorem encode_Canonical_le : ∀ x, Le (encode_Canonical_k x) (encode_Canonical x) := fun x => match x with | (_, _, _) => (Le.b (encode_errorOf_le _) fun _ => (Le.b Le.r fun _ => (Le.b (Le.i (encode_reader_canonical_le _) Le.r) fun _ => Le.r)))
def sheavelaw09_awake_k (_ : Unit) : Option (Bool) :=
  sheavelaw09_example_k () >>= fun r =>
  sheavelaw09_point_k ((-2), 3) >>= fun r_1 =>
  encode_Encode_k (r, 3, SValue.eta r_1) >>= fun r_2 =>
  sheavelaw09_example_k () >>= fun r_5 =>
  sheavelaw09_point_k ((-2), 0) >>= fun r_6 =>
  encode_Encode_k (r_5, 3, SValue.eta r_6) >>= fun r_7 =>
  encode_Items_k [1, 97, 0] >>= fun r_10 =>
  some (bif bif bif bif decide (r_2.2 = 0) then decide (r_7.2 = 0) else false then decide (r_10.2 = 0) else false then decide (r_2.1 = [2, 1, 3, 7, 2, 97, 98]) else false then decide (r_7.1 = [2, 1, 3, 4, 0, 7, 2, 97, 98]) else false) >>= fun t40 =>
  (if t40 = true then slices_Equalstring_string_k (r_10.1, [[97], []]) else some false) >>= fun r_13 =>
  some (bif t40 then r_13 else false) >>= fun t45 =>
  (if t45 = true then sheavelaw09_example_k () else some dSSchema) >>= fun r_14 =>
  (if t45 = true then encode_Canonical_k (r_14, 3, r_2.1) else some false) >>= fun r_15 =>
  some (bif t45 then r_15 else false) >>= fun t50 =>
  (if t50 = true then sheavelaw09_example_k () else some dSSchema) >>= fun r_16 =>
  (if t50 = true then encode_Canonical_k (r_16, 3, [2, 1, 3, 4, 1, 6, 7, 2, 97, 98]) else some false) >>= fun r_17 =>
  some (bif t50 then (!r_17) else false)
theorem sheavelaw09_awake_le : ∀ x, Le (sheavelaw09_awake_k x) (sheavelaw09_awake x) := fun _ => (Le.b (sheavelaw09_example_le _) fun _ => (Le.b (sheavelaw09_point_le _) fun _ => (Le.b (encode_Encode_le _) fun _ => (Le.b (sheavelaw09_example_le _) fun _ => (Le.b (sheavelaw09_point_le _) fun _ => (Le.b (encode_Encode_le _) fun _ => (Le.b (encode_Items_le _) fun _ => (Le.b Le.r fun _ => (Le.b (Le.i (slices_Equalstring_string_le _) Le.r) fun _ => (Le.b Le.r fun _ => (Le.b (Le.i (sheavelaw09_example_le _) Le.r) fun _ => (Le.b (Le.i (encode_Canonical_le _) Le.r) fun _ => (Le.b Le.r fun _ => (Le.b (Le.i (sheavelaw09_example_le _) Le.r) fun _ => (Le.b (Le.i (encode_Canonical_le _) Le.r) fun _ => Le.r)))))))))))))))
theorem sheavelaw09_awake_run : sheavelaw09_awake () = some true := sheavelaw09_awake_le () true (by kernel_rfl)
end Go.Proofs.YthnmepafpikaiaaGreat

namespace Go.Proofs.YthnmepafpikaiaaGreat
open Go Go.Proofs.YthnmepafpikaiaaGreat.Shv
set_option maxRecDepth 100000
set_option linter.all false

def vg (s : List UInt8) : Nat → Nat → Nat → Int × Int × Int
  | 0, _, _ => (0, 0, 10)
  | f + 1, i, n =>
    if i < s.length then
      if i = 9 ∧ 1 < (s.getD i 0).toNat then (0, 0, 7)
      else if 128 ≤ (s.getD i 0).toNat then vg s f (i + 1) (n + ((s.getD i 0).toNat % 128) * 2 ^ (7 * i))
      else if (s.getD i 0).toNat = 0 ∧ 0 < i then (0, 0, 2)
      else (((n + (s.getD i 0).toNat * 2 ^ (7 * i) : Nat) : Int), ((i + 1 : Nat) : Int), 0)
    else (0, 0, 10)

theorem pow7 {i : Nat} (h : i ≤ 9) : 2 ^ (7 * i) ≤ 9223372036854775808 := by
  have : 2 ^ (7 * i) ≤ 2 ^ 63 := Nat.pow_le_pow_right (by omega) (by omega)
  have e : (2 : Nat) ^ 63 = 9223372036854775808 := by decide
  omega
theorem pow7s (i : Nat) : 2 ^ (7 * (i + 1)) = 2 ^ (7 * i) * 128 := by rw [Nat.mul_add, Nat.pow_add]

/-- the number grows within its bounds -/
theorem step7 {n i b : Nat} (hn : n < 2 ^ (7 * i)) : n + (b % 128) * 2 ^ (7 * i) < 2 ^ (7 * (i + 1)) := by
  rw [pow7s]
  have : b % 128 * 2 ^ (7 * i) ≤ 127 * 2 ^ (7 * i) := Nat.mul_le_mul_right _ (by omega)
  omega
theorem fit7 {n i b : Nat} (hi : i ≤ 9) (hn : n < 2 ^ (7 * i)) (hb : b < 128) (h9 : i = 9 → b ≤ 1) : b * 2 ^ (7 * i) < 18446744073709551616 ∧ n + b * 2 ^ (7 * i) < 18446744073709551616 := by
  rcases Nat.lt_or_ge i 9 with h | h
  · have : 2 ^ (7 * i) ≤ 2 ^ 56 := Nat.pow_le_pow_right (by omega) (by omega)
    have e : (2 : Nat) ^ 56 = 72057594037927936 := by decide
    have : b * 2 ^ (7 * i) ≤ 127 * 2 ^ (7 * i) := Nat.mul_le_mul_right _ (by omega)
    omega
  · have : i = 9 := by omega
    subst this
    have e : (2 : Nat) ^ (7 * 9) = 9223372036854775808 := by decide
    rw [e] at hn ⊢
    have := h9 rfl
    omega

theorem get_l0 (s : List UInt8) : ∀ (f i n : Nat), i + f = 10 → n < 2 ^ (7 * i) → ∃ o, varint_Get_l0 (s, (n : Int), ((min 10 s.length : Nat) : Int), (i : Int)) = some o ∧ (match o with | .inl x => x | .inr _ => (0, 0, 10)) = vg s f i n
  | 0, i, n, h, hn => by
    refine ⟨.inr (), ?_, rfl⟩
    rw [varint_Get_l0]
    rw [if_neg (by simp; omega)]
  | f + 1, i, n, h, hn => by
    rw [varint_Get_l0]
    simp only [vg, Option.bind_eq_bind, Option.bind_some, byteAt_nat]
    by_cases hi : i < s.length
    · have hb := byteAt_lt s i
      generalize (s.getD i 0).toNat = b at hb ⊢
      rw [if_pos (by simp; omega), if_pos (inR_nat hi), if_pos hi]
      have hm : mulI .i64 7 (i : Int) = ((7 * i : Nat) : Int) := by rw [mulI64 (by omega) (by omega)]; norm_cast
      rw [hm]
      have hz : decide ((0 : Int) ≤ ((7 * i : Nat) : Int)) = true := by simp; omega
      by_cases h9 : i = 9 ∧ 1 < b
      · rw [if_pos h9, if_pos (by obtain ⟨h1, h2⟩ := h9; subst h1; simp; omega)]
        exact ⟨_, rfl, rfl⟩
      · rw [if_neg h9, if_neg (by
          intro hc; apply h9
          simp only [Bool.cond_eq_ite, Bool.ite_eq_true_distrib, decide_eq_true_eq] at hc
          split at hc
          · rename_i h1; exact ⟨by omega, by omega⟩
          · cases hc)]
        by_cases hbig : 128 ≤ b
        · rw [if_pos hbig, if_pos (by simp; omega), if_pos hz]
          have h9' : i = 9 → False := fun h1 => h9 ⟨h1, by omega⟩
          have hlt : b % 128 < 128 := Nat.mod_lt _ (by omega)
          have hf := fit7 (i := i) (n := n) (b := b % 128) (by omega) hn hlt (fun h1 => (h9' h1).elim)
          rw [andI_127 hb, wrpn (by omega), shlI_nat (by omega) hf.1, orI_nat (by have := pow7 (i := i) (by omega); omega) hf.1, or_add hn, addI64s (by omega)]
          exact get_l0 s f (i + 1) (n + b % 128 * 2 ^ (7 * i)) (by omega) (step7 hn)
        · rw [if_neg hbig, if_neg (by simp; omega)]
          by_cases h0 : b = 0 ∧ 0 < i
          · rw [if_pos h0, if_pos (by obtain ⟨h1, h2⟩ := h0; subst h1; simp; omega)]
            exact ⟨_, rfl, rfl⟩
          · rw [if_neg h0, if_neg (by
              intro hc; apply h0
              simp only [Bool.cond_eq_ite, Bool.ite_eq_true_distrib, decide_eq_true_eq] at hc
              split at hc
              · rename_i h1; exact ⟨by omega, by omega⟩
              · cases hc), if_pos hz]
            have hf := fit7 (i := i) (n := n) (b := b) (by omega) hn (by omega) (fun h1 => by omega)
            rw [wrpn (by omega), shlI_nat (by omega) hf.1, orI_nat (by have := pow7 (i := i) (by omega); omega) hf.1, or_add hn, addI64s (by omega)]
            exact ⟨_, rfl, rfl⟩
    · rw [if_neg (by simp; omega), if_neg hi]
      exact ⟨_, rfl, rfl⟩

theorem get_eq (s : List UInt8) : varint_Get s = some (vg s 10 0 0) := by
  obtain ⟨o, h1, h2⟩ := get_l0 s 10 0 0 rfl (by decide)
  rw [varint_Get]
  have : minI 10 (s.length : Int) = ((min 10 s.length : Nat) : Int) := minI_nat 10 s.length
  rw [this]
  have h1' : varint_Get_l0 (s, 0, ((min 10 s.length : Nat) : Int), 0) = some o := h1
  rw [h1', ← h2]
  cases o <;> rfl

theorem refget_l0 (s : List UInt8) : ∀ (f i n : Nat), i ≤ s.length → i + f = 10 → n < 2 ^ (7 * i) → ∃ o, sheaveref03_Get_l0 (s, (n : Int), (if i < 10 then ((2 ^ (7 * i) : Nat) : Int) else mulI .u64 ((2 ^ (7 * 9) : Nat) : Int) 128), (i : Int)) = some o ∧ (i < 10 → (match o with | .inl x => x | .inr _ => (0, 0, 7)) = vg s f i n)
  | 0, i, n, hil, h, hn => by
    refine ⟨.inr (), ?_, fun h' => by omega⟩
    rw [sheaveref03_Get_l0]
    rw [if_neg (by simp; omega)]
  | f + 1, i, n, hil, h, hn => by
    rw [sheaveref03_Get_l0]
    simp only [vg, Option.bind_eq_bind, Option.bind_some, byteAt_nat]
    rw [if_pos (show decide ((i : Int) < 10) = true by simp; omega), if_pos (show i < 10 by omega)]
    by_cases hi : i < s.length
    · have hb := byteAt_lt s i
      generalize (s.getD i 0).toNat = b at hb ⊢
      rw [if_neg (by simp; omega), if_pos (inR_nat hi), if_pos hi, wrpn (by omega)]
      by_cases h9 : i = 9 ∧ 1 < b
      · rw [if_pos h9, if_pos (by obtain ⟨h1, h2⟩ := h9; subst h1; simp; omega)]
        exact ⟨_, rfl, fun _ => rfl⟩
      · rw [if_neg h9, if_neg (by
          intro hc; apply h9
          simp only [Bool.cond_eq_ite, Bool.ite_eq_true_distrib, decide_eq_true_eq] at hc
          split at hc
          · rename_i h1; exact ⟨by omega, by omega⟩
          · cases hc)]
        have hrem : remI (b : Int) 128 = ((b % 128 : Nat) : Int) := remIn (b := 128)
        have hlt : b % 128 < 128 := Nat.mod_lt _ (by omega)
        by_cases hbig : 128 ≤ b
        · rw [if_pos hbig, if_neg (by simp; omega)]
          have h9' : i = 9 → False := fun h1 => h9 ⟨h1, by omega⟩
          have hf := fit7 (i := i) (n := n) (b := b % 128) (by omega) hn hlt (fun h1 => (h9' h1).elim)
          rw [hrem, mulIn hf.1, addIn hf.2, addI64s (by omega)]
          obtain ⟨o, h1, h2⟩ := refget_l0 s f (i + 1) (n + b % 128 * 2 ^ (7 * i)) (by omega) (by omega) (step7 hn)
          have hu : mulI .u64 ((2 ^ (7 * i) : Nat) : Int) 128 = ((2 ^ (7 * (i + 1)) : Nat) : Int) := by
            have := mulIn (a := 2 ^ (7 * i)) (b := 128) (by
              have : 2 ^ (7 * i) ≤ 2 ^ 56 := Nat.pow_le_pow_right (by omega) (by omega)
              have e : (2 : Nat) ^ 56 = 72057594037927936 := by decide
              omega)
            rw [pow7s]; exact this
          rw [if_pos (show i + 1 < 10 by omega)] at h1
          rw [hu]
          exact ⟨o, h1, fun _ => h2 (by omega)⟩
        · rw [if_neg hbig, if_pos (by simp; omega)]
          have hmod : b % 128 = b := Nat.mod_eq_of_lt (by omega)
          have hf := fit7 (i := i) (n := n) (b := b) (by omega) hn (by omega) (fun h1 => by omega)
          by_cases h0 : b = 0 ∧ 0 < i
          · rw [if_pos h0, if_pos (by obtain ⟨h1, h2⟩ := h0; subst h1; simp; omega)]
            exact ⟨_, rfl, fun _ => rfl⟩
          · rw [if_neg h0, if_neg (by
              intro hc; apply h0
              simp only [Bool.cond_eq_ite, Bool.ite_eq_true_distrib, decide_eq_true_eq] at hc
              split at hc
              · rename_i h1; exact ⟨by omega, by omega⟩
              · cases hc)]
            rw [hrem, hmod, mulIn hf.1, addIn hf.2, addI64s (by omega)]
            exact ⟨_, rfl, fun _ => rfl⟩
    · rw [if_pos (by simp; omega), if_neg hi]
      exact ⟨_, rfl, fun _ => rfl⟩

theorem refget_eq (s : List UInt8) : sheaveref03_Get s = some (vg s 10 0 0) := by
  obtain ⟨o, h1, h2⟩ := refget_l0 s 10 0 0 (by omega) rfl (by decide)
  rw [sheaveref03_Get]
  have h1' : sheaveref03_Get_l0 (s, 0, 1, 0) = some o := h1
  rw [h1', ← h2 (by decide)]
  cases o <;> rfl
end Go.Proofs.YthnmepafpikaiaaGreat

namespace Go.Proofs.YthnmepafpikaiaaGreat
open Go Go.Proofs.YthnmepafpikaiaaGreat.Shv
set_option maxRecDepth 100000
set_option linter.all false

theorem vg_split (s : List UInt8) : ∀ (f i n : Nat), i ≤ s.length → i + f = 10 → n < 2 ^ (7 * i) → (∃ e : Int, e ≠ 0 ∧ vg s f i n = (0, 0, e)) ∨ ∃ m k : Nat, vg s f i n = ((m : Int), (k : Int), 0) ∧ i < k ∧ k ≤ s.length ∧ m < 18446744073709551616
  | 0, i, n, hil, h, hn => .inl ⟨10, by decide, rfl⟩
  | f + 1, i, n, hil, h, hn => by
    simp only [vg]
    have hb := byteAt_lt s i
    generalize (s.getD i 0).toNat = b at hb ⊢
    by_cases hi : i < s.length
    · rw [if_pos hi]
      by_cases h9 : i = 9 ∧ 1 < b
      · rw [if_pos h9]; exact .inl ⟨7, by decide, rfl⟩
      · rw [if_neg h9]
        by_cases hbig : 128 ≤ b
        · rw [if_pos hbig]
          rcases vg_split s f (i + 1) (n + b % 128 * 2 ^ (7 * i)) (by omega) (by omega) (step7 hn) with h | ⟨m, k, h1, h2, h3, h4⟩
          · exact .inl h
          · exact .inr ⟨m, k, h1, by omega, h3, h4⟩
        · rw [if_neg hbig]
          by_cases h0 : b = 0 ∧ 0 < i
          · rw [if_pos h0]; exact .inl ⟨2, by decide, rfl⟩
          · rw [if_neg h0]
            have hf := fit7 (i := i) (n := n) (b := b) (by omega) hn (by omega) (fun h1 => by omega)
            exact .inr ⟨_, i + 1, rfl, by omega, by omega, hf.2⟩
    · rw [if_neg hi]; exact .inl ⟨10, by decide, rfl⟩

theorem vg0 (s : List UInt8) : (∃ e : Int, e ≠ 0 ∧ vg s 10 0 0 = (0, 0, e)) ∨ ∃ m k : Nat, vg s 10 0 0 = ((m : Int), (k : Int), 0) ∧ 0 < k ∧ k ≤ s.length ∧ m < 18446744073709551616 :=
  vg_split s 10 0 0 (by omega) rfl (by decide)

theorem next_err {s : List UInt8} {e : Int} (he : e ≠ 0) (h : vg s 10 0 0 = (0, 0, e)) : encode_next s = some (0, [], false) := by
  rw [encode_next, get_eq, h]
  simp only [Option.bind_eq_bind, Option.bind_some]
  rw [if_pos (by simp [he])]
theorem next_ok {s : List UInt8} {m k : Nat} (h : vg s 10 0 0 = ((m : Int), (k : Int), 0)) (hk : k ≤ s.length) : encode_next s = some ((m : Int), s.drop k, true) := by
  rw [encode_next, get_eq, h]
  simp only [Option.bind_eq_bind, Option.bind_some]
  rw [if_neg (by simp), if_pos (slR_nat hk (Nat.le_refl _)), cutL_end]

/-- a part: the payload and the rest -/
def encP : Option (List UInt8 × List UInt8) → List UInt8 × List UInt8 × Bool
  | none => ([], [], false)
  | some (a, b) => (a, b, true)

def vpart (s : List UInt8) : Option (List UInt8 × List UInt8) :=
  match vg s 10 0 0 with
  | (m, k, e) => if e = 0 ∧ m.toNat + k.toNat ≤ s.length then some ((s.drop k.toNat).take m.toNat, (s.drop k.toNat).drop m.toNat) else none

theorem vpart_len {s a b : List UInt8} (h : vpart s = some (a, b)) : a.length + b.length < s.length := by
  unfold vpart at h
  rcases vg0 s with ⟨e, he, hv⟩ | ⟨m, k, hv, hk0, hk, hm⟩
  · rw [hv] at h; simp [he] at h
  · rw [hv] at h
    simp only [Int.toNat_natCast, true_and] at h
    split at h
    · cases h
      simp; omega
    · cases h

theorem part_eq {s : List UInt8} (hs : s.length ≤ 1000000) : encode_part s = some (encP (vpart s)) := by
  rw [encode_part]
  unfold vpart
  rcases vg0 s with ⟨e, he, hv⟩ | ⟨m, k, hv, hk0, hk, hm⟩
  · rw [next_err he hv, hv]
    simp [he, encP]
  · rw [next_ok hv hk, hv]
    simp only [Option.bind_eq_bind, Option.bind_some, Int.toNat_natCast, true_and, List.length_drop]
    rw [wrpn (by omega)]
    by_cases hle : m + k ≤ s.length
    · rw [if_neg (by simp; omega), if_pos (show slR 0 (m : Int) (s.length - k) = true from slR_nat (a := 0) (by omega) (by omega)), if_pos (slR_nat (by omega) (Nat.le_refl _)), if_pos hle]
      have : ((s.length - k : Nat) : Int) = ((s.drop k).length : Int) := by simp
      rw [this, cutL_end, cutL_front]
      rfl
    · rw [if_pos (by simp; omega), if_neg hle]
      rfl

theorem cut_eq {s : List UInt8} (hs : s.length ≤ 1000000) : sheaveref09_cut s = some (encP (vpart s)) := by
  rw [sheaveref09_cut, refget_eq]
  unfold vpart
  rcases vg0 s with ⟨e, he, hv⟩ | ⟨m, k, hv, hk0, hk, hm⟩
  · rw [hv]
    simp [he, encP]
  · rw [hv]
    simp only [Option.bind_eq_bind, Option.bind_some, Int.toNat_natCast, true_and]
    have hsub : subI .i64 (s.length : Int) (k : Int) = ((s.length - k : Nat) : Int) := by rw [subI64 (by omega) (by omega)]; omega
    rw [hsub, wrpn (by omega)]
    by_cases hle : m + k ≤ s.length
    · rw [if_neg (by simp; omega), if_pos hle]
      have hw : wrp .i64 (m : Int) = (m : Int) := wrp64 (by omega) (by omega)
      rw [hw, addI64n (by omega), if_pos (slR_nat (by omega) (by omega)), if_pos (slR_nat (by omega) (Nat.le_refl _)), cutL_end]
      have : cutL s (k : Int) ((k + m : Nat) : Int) = (s.drop k).take m := by
        unfold cutL
        rw [Int.toNat_natCast, Int.toNat_natCast, List.drop_take]
        congr 1; omega
      rw [this, List.drop_drop]
      rfl
    · rw [if_pos (by simp; omega), if_neg hle]
      rfl

/-! the items -/
theorem items_l0 : ∀ (n : Nat) (s : List UInt8) (b : List (List UInt8)), s.length ≤ n → s.length + b.length ≤ 100000 → ∃ o, encode_Items_l0 (s, b) = some o ∧ sheaveref09_Items_l0 (s, b) = some o ∧ ∀ l, o = .inr l → l.length ≤ s.length + b.length := by
  intro n
  induction n with
  | zero =>
    intro s b h1 h2
    have : s = [] := List.eq_nil_of_length_eq_zero (by omega)
    subst this
    refine ⟨.inr b, ?_, ?_, fun l hl => by cases hl; omega⟩
    · rw [encode_Items_l0]; rw [if_neg (by simp)]
    · rw [sheaveref09_Items_l0]; rw [if_neg (by simp)]
  | succ n ih =>
    intro s b h1 h2
    rw [encode_Items_l0, sheaveref09_Items_l0, part_eq (by omega), cut_eq (by omega)]
    simp only [Option.bind_eq_bind, Option.bind_some]
    by_cases hs : s = []
    · subst hs
      exact ⟨.inr b, by rw [if_neg (by simp)], by rw [if_neg (by simp)], fun l hl => by cases hl; omega⟩
    · have hc : (!(decide (s = []))) = true := by simp [hs]
      rw [if_pos hc, if_pos hc]
      cases hv : vpart s with
      | none => exact ⟨.inl 12, rfl, rfl, fun l hl => by cases hl⟩
      | some p =>
        obtain ⟨x, y⟩ := p
        have hl := vpart_len hv
        have hr : room 16 (b ++ [(encP (some (x, y))).1]).length = true := room_k (by omega) (by simp; omega)
        have hn : ¬ ((!(encP (some (x, y))).2.2) = true) := by simp [encP]
        rw [if_neg hn, if_pos hr, if_neg hn, if_pos hr]
        obtain ⟨o, h3, h4, h5⟩ := ih y (b ++ [x]) (by omega) (by simp; omega)
        exact ⟨o, h3, h4, fun l hl' => by have := h5 l hl'; simp at this; omega⟩

theorem items_eq {s : List UInt8} (h : s.length ≤ 90000) : ∃ o, encode_Items s = some o ∧ sheaveref09_Items s = some o ∧ o.1.length ≤ s.length := by
  obtain ⟨o, h1, h2, h3⟩ := items_l0 s.length s [] (Nat.le_refl _) (by simp; omega)
  rw [encode_Items, sheaveref09_Items, h1, h2]
  cases o with
  | inl e => exact ⟨_, rfl, rfl, by simp⟩
  | inr l => exact ⟨_, rfl, rfl, by have := h3 l rfl; simpa using this⟩

/-! the fields -/
theorem fields_l0 : ∀ (n : Nat) (s : List UInt8) (last : Nat) (b : List SField), s.length ≤ n → s.length + b.length ≤ 100000 → ∃ o, encode_Fields_l0 ((last : Int), s, b) = some o ∧ sheaveref09_Fields_l0 (s, (last : Int), b) = some o ∧ ∀ l, o = .inr l → l.length ≤ s.length + b.length := by
  intro n
  induction n with
  | zero =>
    intro s last b h1 h2
    have : s = [] := List.eq_nil_of_length_eq_zero (by omega)
    subst this
    refine ⟨.inr b, ?_, ?_, fun l hl => by cases hl; omega⟩
    · rw [encode_Fields_l0]; rw [if_neg (by simp)]
    · rw [sheaveref09_Fields_l0]; rw [if_neg (by simp)]
  | succ n ih =>
    intro s last b h1 h2
    rw [encode_Fields_l0, sheaveref09_Fields_l0, refget_eq]
    by_cases hs : s = []
    · subst hs
      exact ⟨.inr b, by rw [if_neg (by simp)], by rw [if_neg (by simp)], fun l hl => by cases hl; omega⟩
    · have hc : (!(decide (s = []))) = true := by simp [hs]
      rw [if_pos hc, if_pos hc]
      rcases vg0 s with ⟨e, he, hv⟩ | ⟨m, k, hv, hk0, hk, hm⟩
      · rw [next_err he hv, hv]
        exact ⟨.inl 12, rfl, by simp [he], fun l hl => by cases hl⟩
      · rw [next_ok hv hk, hv]
        simp only [Option.bind_eq_bind, Option.bind_some]
        rw [quoI2 hm]
        by_cases hbad : m / 2 ≤ last ∨ 1000 < m / 2
        · refine ⟨.inl 12, by rw [if_pos (by simp; omega)], ?_, fun l hl => by cases hl⟩
          rw [if_pos]
          by_cases h2001 : 2001 < m
          · simp; omega
          · have hw : wrp .i64 ((m / 2 : Nat) : Int) = ((m / 2 : Nat) : Int) := wrp64 (by omega) (by omega)
            rw [hw]; simp; omega
        · have hw : wrp .i64 ((m / 2 : Nat) : Int) = ((m / 2 : Nat) : Int) := wrp64 (by omega) (by omega)
          rw [hw, if_neg (by simp; omega), if_neg (by simp; omega), if_pos (slR_nat hk (Nat.le_refl _)), cutL_end, part_eq (by simp; omega), cut_eq (by simp; omega)]
          simp only [Option.bind_some]
          cases hp : vpart (s.drop k) with
          | none => exact ⟨.inl 12, rfl, rfl, fun l hl => by cases hl⟩
          | some p =>
            obtain ⟨x, y⟩ := p
            have hl := vpart_len hp
            rw [List.length_drop] at hl
            have hr : room 32 (b ++ [(⟨((m / 2 : Nat) : Int), decide (remI (m : Int) 2 = 1), (encP (some (x, y))).1⟩ : SField)]).length = true := room_k (by omega) (by simp; omega)
            have hn : ¬ ((!(encP (some (x, y))).2.2) = true) := by simp [encP]
            rw [if_neg hn, if_pos hr, if_neg hn, if_pos hr]
            obtain ⟨o, h3, h4, h5⟩ := ih y (m / 2) (b ++ [(⟨((m / 2 : Nat) : Int), decide (remI (m : Int) 2 = 1), x⟩ : SField)]) (by omega) (by simp; omega)
            exact ⟨o, h3, h4, fun l hl' => by have := h5 l hl'; simp at this; omega⟩

theorem fields_eq {s : List UInt8} (h : s.length ≤ 90000) : ∃ o, encode_Fields s = some o ∧ sheaveref09_Fields s = some o ∧ o.1.length ≤ s.length := by
  obtain ⟨o, h1, h2, h3⟩ := fields_l0 s.length s 0 [] (Nat.le_refl _) (by simp; omega)
  have h1' : encode_Fields_l0 (0, s, []) = some o := h1
  have h2' : sheaveref09_Fields_l0 (s, 0, []) = some o := h2
  rw [encode_Fields, sheaveref09_Fields, h1', h2']
  cases o with
  | inl e => exact ⟨_, rfl, rfl, by simp⟩
  | inr l => exact ⟨_, rfl, rfl, by have := h3 l rfl; simpa using this⟩

theorem arm_eq (s : List UInt8) : ∃ o, encode_Arm s = some o ∧ sheaveref09_Arm s = some o := by
  rw [encode_Arm, sheaveref09_Arm, refget_eq]
  rcases vg0 s with ⟨e, he, hv⟩ | ⟨m, k, hv, hk0, hk, hm⟩
  · rw [next_err he hv, hv]
    exact ⟨(0, [], 12), rfl, by simp [he]⟩
  · rw [next_ok hv hk, hv]
    simp only [Option.bind_eq_bind, Option.bind_some]
    by_cases hbad : m < 1 ∨ 1000 < m
    · exact ⟨(0, [], 12), by rw [if_pos (by simp; omega)], by rw [if_pos (by simp; omega)]⟩
    · rw [if_neg (by simp; omega), if_neg (by simp; omega), if_pos (slR_nat hk (Nat.le_refl _)), cutL_end]
      exact ⟨_, rfl, rfl⟩

/-! a list is the same as itself -/
theorem sameFields_l0 (l : List SField) (hl : l.length ≤ 1000000) : ∀ (n i : Nat), i + n = l.length → sheaveref09_SameFields_l0 (l, l, (i : Int)) = some (.inr ())
  | 0, i, h => by rw [sheaveref09_SameFields_l0, if_neg (by simp; omega)]
  | n + 1, i, h => by
    rw [sheaveref09_SameFields_l0, if_pos (by simp; omega), if_pos (inR_nat (by omega))]
    simp only [Option.bind_eq_bind, Option.bind_some]
    rw [if_pos (inR_nat (by omega)), if_neg (by simp [eqI, eqB, eqS]), addI64s (by omega)]
    exact sameFields_l0 l hl n (i + 1) (by omega)

theorem sameFields (l : List SField) (hl : l.length ≤ 1000000) : sheaveref09_SameFields (l, l) = some true := by
  rw [sheaveref09_SameFields, if_neg (by simp)]
  have := sameFields_l0 l hl l.length 0 (by omega)
  have h : sheaveref09_SameFields_l0 (l, l, 0) = some (.inr ()) := this
  rw [h]; rfl

theorem strings_l0 (l : List (List UInt8)) (hl : l.length ≤ 1000000) : ∀ (n i : Nat), i + n = l.length → sheaveref09_Strings_l0 (l, l, (i : Int)) = some (.inr ())
  | 0, i, h => by rw [sheaveref09_Strings_l0, if_neg (by simp; omega)]
  | n + 1, i, h => by
    rw [sheaveref09_Strings_l0, if_pos (by simp; omega), if_pos (inR_nat (by omega)), if_pos (inR_nat (by omega)), if_neg (by simp), addI64s (by omega)]
    exact strings_l0 l hl n (i + 1) (by omega)

theorem sameStrings (l : List (List UInt8)) (hl : l.length ≤ 1000000) : sheaveref09_Strings (l, l) = some true := by
  rw [sheaveref09_Strings, if_neg (by simp)]
  have := strings_l0 l hl l.length 0 (by omega)
  have h : sheaveref09_Strings_l0 (l, l, 0) = some (.inr ()) := this
  rw [h]; rfl
theorem law_EncodeParts (p : List UInt8) : sheavelaw09_EncodeParts p = some true := by
  rw [sheavelaw09_EncodeParts, sheavelaw09_awake_run]
  simp only [Option.bind_eq_bind, Option.bind_some]
  by_cases h : 300 < p.length
  · rw [if_pos (by simp; omega)]
  · rw [if_neg (by simp; omega)]
    obtain ⟨a, a1, a2, a3⟩ := fields_eq (s := p) (by omega)
    obtain ⟨b, b1, b2, b3⟩ := items_eq (s := p) (by omega)
    obtain ⟨c, c1, c2⟩ := arm_eq p
    rw [a1, a2, b1, b2, c1, c2]
    simp only [Option.bind_some, decide_true, if_true, cond_true]
    rw [sameFields _ (by omega)]
    simp only [Option.bind_some, if_true, cond_true]
    rw [sameStrings _ (by omega)]
    simp

end Go.Proofs.YthnmepafpikaiaaGreat

namespace Go.Proofs.YthnmepafpikaiaaGreat
open Go Go.Proofs.YthnmepafpikaiaaGreat.Shv
set_option maxRecDepth 100000
set_option linter.all false

/-- the varint of a number -/
def vput (n : Nat) : List UInt8 := if n < 128 then [UInt8.ofNat n] else UInt8.ofNat (n % 128 + 128) :: vput (n / 128)
termination_by n
decreasing_by omega

theorem vput_small {n : Nat} (h : n < 128) : vput n = [UInt8.ofNat n] := by rw [vput, if_pos h]
theorem vput_big {n : Nat} (h : ¬ n < 128) : vput n = UInt8.ofNat (n % 128 + 128) :: vput (n / 128) := by rw [vput, if_neg h]

theorem orI_128 {a : Nat} (h : a < 256) : orI .u8 (a : Int) 128 = ((a % 128 + 128 : Nat) : Int) := by
  have key : ∀ a : Nat, a < 256 → orI .u8 (a : Int) 128 = ((a % 128 + 128 : Nat) : Int) := by decide +kernel
  exact key a h
theorem wrp8 (n : Nat) : wrp .u8 (n : Int) = ((n % 256 : Nat) : Int) := by
  unfold wrp; rw [IntKind.wrap_u8]; omega
theorem shrI7 (n : Nat) : shrI .u64 (n : Int) 7 = ((n / 128 : Nat) : Int) := by
  unfold shrI
  have : ((2 : Int) ^ min (7 : Int).toNat IntKind.u64.bits) = 128 := by decide
  rw [this, Int.fdiv_eq_ediv_of_nonneg _ (by omega)]
  omega

theorem strOf_cons (m : Nat) (l : List Int) : strOf ((m : Int) :: l) = UInt8.ofNat m :: strOf l := rfl
theorem strOf_append (a b : List Int) : strOf (a ++ b) = strOf a ++ strOf b := List.map_append

theorem take_set_succ {α : Type} : ∀ (l : List α) (i : Nat) (x : α), i < l.length → (l.set i x).take (i + 1) = l.take i ++ [x]
  | [], i, x, h => by simp at h
  | a :: l, 0, x, h => by simp
  | a :: l, i + 1, x, h => by simp [take_set_succ l i x (by simpa using h)]

theorem put_l0 : ∀ (f n i : Nat) (b : List Int), i + f = 9 → n < 128 * 128 ^ f → b.length = 10 → ∃ (n' i' : Nat) (b' : List Int), varint_Put_l0 ((n : Int), (i : Int), b) = some ((n' : Int), (i' : Int), b') ∧ n' < 128 ∧ i' ≤ 9 ∧ b'.length = 10 ∧ strOf (b'.take i') ++ [UInt8.ofNat n'] = strOf (b.take i) ++ vput n
  | f, n, i, b, hi, hn, hb => by
    rw [varint_Put_l0]
    by_cases hs : n < 128
    · rw [if_neg (by simp; omega)]
      exact ⟨n, i, b, rfl, hs, by omega, hb, by rw [vput_small hs]⟩
    · rw [if_pos (by simp; omega), if_pos (inR_nat (by
        cases f with
        | zero => simp at hn; omega
        | succ f => omega)), if_pos (by
        cases f with
        | zero => simp at hn; omega
        | succ f => simp [hb]; omega)]
      match f, hi, hn with
      | 0, hi, hn => simp at hn; omega
      | f + 1, hi, hn =>
        rw [shrI7, addI64s (by omega), wrp8, orI_128 (Nat.mod_lt _ (by omega)), toNat_nat]
        have hlt : n / 128 < 128 * 128 ^ f := by
          rw [Nat.div_lt_iff_lt_mul (by omega)]
          rw [Nat.pow_succ] at hn
          rw [Nat.mul_assoc]; exact hn
        obtain ⟨n', i', b', h1, h2, h3, h4, h5⟩ := put_l0 f (n / 128) (i + 1) (b.set i ((n % 256 % 128 + 128 : Nat) : Int)) (by omega) hlt (by simp [hb])
        refine ⟨n', i', b', h1, h2, h3, h4, ?_⟩
        rw [h5, take_set_succ _ _ _ (by omega), strOf_append, vput_big hs]
        have : n % 256 % 128 = n % 128 := by omega
        rw [this]
        have hone : strOf [((n % 128 + 128 : Nat) : Int)] = [UInt8.ofNat (n % 128 + 128)] := rfl
        rw [hone, List.append_assoc]
        rfl

theorem pow128 : (128 : Nat) * 128 ^ 9 = 1180591620717411303424 := by decide

theorem put_eq {n : Nat} (hn : n < 18446744073709551616) : varint_Put (n : Int) = some (vput n) := by
  obtain ⟨n', i', b', h1, h2, h3, h4, h5⟩ := put_l0 9 n 0 [0, 0, 0, 0, 0, 0, 0, 0, 0, 0] rfl (by rw [pow128]; omega) rfl
  rw [varint_Put]
  have h1' : varint_Put_l0 ((n : Int), 0, [0, 0, 0, 0, 0, 0, 0, 0, 0, 0]) = some ((n' : Int), (i' : Int), b') := h1
  rw [h1']
  simp only [Option.bind_eq_bind, Option.bind_some]
  have hsl : slR 0 ((i' + 1 : Nat) : Int) 10 = true := slR_nat (a := 0) (by omega) (by omega)
  rw [if_pos (inR_nat (by omega)), if_pos (by simp [h4]; omega), addI64s (by omega), if_pos hsl, if_pos (by simp [subR, h4]; omega), toNat_nat, toNat_nat, wrp8]
  have : n' % 256 = n' := Nat.mod_eq_of_lt (by omega)
  rw [this]
  simp only [Int.toNat_zero, List.drop_zero]
  rw [take_set_succ _ _ _ (by omega), strOf_append]
  have h6 : strOf [(n' : Int)] = [UInt8.ofNat n'] := rfl
  rw [h6, h5]
  simp [strOf]

theorem refput_l0 : ∀ (f n : Nat) (b : List Int), n < 128 ^ f → n < 18446744073709551616 → b.length + f ≤ 1000 → ∃ (n' : Nat) (b' : List Int), sheaveref03_Put_l0 ((n : Int), b) = some ((n' : Int), b') ∧ n' < 128 ∧ b'.length ≤ 1000 ∧ strOf b' ++ [UInt8.ofNat n'] = strOf b ++ vput n
  | f, n, b, hn, h64, hb => by
    rw [sheaveref03_Put_l0]
    by_cases hs : n < 128
    · rw [if_neg (by simp; omega)]
      exact ⟨n, b, rfl, hs, by omega, by rw [vput_small hs]⟩
    · rw [if_pos (by simp; omega)]
      match f, hn with
      | 0, hn => simp at hn; omega
      | f + 1, hn =>
        have hrem : remI (n : Int) 128 = ((n % 128 : Nat) : Int) := remIn (b := 128)
        have hadd : addI .u64 ((n % 128 : Nat) : Int) 128 = ((n % 128 + 128 : Nat) : Int) := addIn (b := 128) (by omega)
        have hq : quoI .u64 (n : Int) 128 = ((n / 128 : Nat) : Int) := by
          unfold quoI
          have e : (n : Int).tdiv 128 = ((n / 128 : Nat) : Int) := by rw [Int.tdiv_eq_ediv_of_nonneg (by omega)]; omega
          rw [e]; exact wrapu (by omega) (by omega)
        simp only [Option.bind_eq_bind, Option.bind_some]
        rw [hrem, hadd, hq, wrp8, if_pos (room_k (by omega) (by simp; omega))]
        have hlt : n / 128 < 128 ^ f := by
          rw [Nat.div_lt_iff_lt_mul (by omega)]
          rw [Nat.pow_succ] at hn; exact hn
        obtain ⟨n', b', h1, h2, h3, h4⟩ := refput_l0 f (n / 128) (b ++ [(((n % 128 + 128) % 256 : Nat) : Int)]) hlt (by omega) (by simp; omega)
        refine ⟨n', b', h1, h2, h3, ?_⟩
        rw [h4, strOf_append, vput_big hs]
        have : (n % 128 + 128) % 256 = n % 128 + 128 := by omega
        rw [this]
        have hone : strOf [((n % 128 + 128 : Nat) : Int)] = [UInt8.ofNat (n % 128 + 128)] := rfl
        rw [hone, List.append_assoc]
        rfl

theorem refput_eq {n : Nat} (hn : n < 18446744073709551616) : sheaveref03_Put (n : Int) = some (vput n) := by
  obtain ⟨n', b', h1, h2, h3, h4⟩ := refput_l0 10 n [] (by have := pow128; rw [Nat.pow_succ, Nat.mul_comm]; omega) hn (by simp)
  rw [sheaveref03_Put, h1]
  simp only [Option.bind_eq_bind, Option.bind_some]
  rw [if_pos (room_k (by omega) (by simp; omega)), wrp8, strOf_append]
  have : n' % 256 = n' := Nat.mod_eq_of_lt (by omega)
  rw [this]
  have h6 : strOf [(n' : Int)] = [UInt8.ofNat n'] := rfl
  rw [h6, h4]
  simp [strOf]

theorem vput_len : ∀ (f n : Nat), n < 128 ^ (f + 1) → (vput n).length ≤ f + 1
  | f, n, hn => by
    by_cases hs : n < 128
    · rw [vput_small hs]; simp
    · rw [vput_big hs]
      match f, hn with
      | 0, hn => simp at hn; omega
      | f + 1, hn =>
        have := vput_len f (n / 128) (by
          rw [Nat.div_lt_iff_lt_mul (by omega)]
          rw [Nat.pow_succ] at hn; exact hn)
        simp; omega
theorem vput_len10 {n : Nat} (hn : n < 18446744073709551616) : (vput n).length ≤ 10 := vput_len 9 n (by have := pow128; rw [Nat.pow_succ, Nat.mul_comm]; omega)
theorem vput_pos (n : Nat) : 0 < (vput n).length := by
  rw [vput]; split <;> simp

theorem toNat_ofNat8 {n : Nat} (h : n < 256) : (UInt8.ofNat n).toNat = n := by
  rw [UInt8.toNat_ofNat']; exact Nat.mod_eq_of_lt h

/-- what was put is got -/
theorem vg_put : ∀ (f i acc n : Nat) (pre rest : List UInt8), i + f = 10 → pre.length = i → n * 2 ^ (7 * i) < 18446744073709551616 → (n = 0 → i = 0) → vg (pre ++ (vput n ++ rest)) f i acc = (((acc + n * 2 ^ (7 * i) : Nat) : Int), ((i + (vput n).length : Nat) : Int), 0)
  | 0, i, acc, n, pre, rest, hi, hp, hn, h0 => by
    have : i = 10 := by omega
    subst this
    have e : (2 : Nat) ^ (7 * 10) = 1180591620717411303424 := by decide
    rw [e] at hn
    have : n = 0 := by omega
    have := h0 this
    omega
  | f + 1, i, acc, n, pre, rest, hi, hp, hn, h0 => by
    have hlen : i < (pre ++ (vput n ++ rest)).length := by
      have := vput_pos n
      simp; omega
    have hget : ∀ (x : UInt8) (r : List UInt8), vput n = x :: r → (pre ++ (vput n ++ rest)).getD i 0 = x := by
      intro x r hx
      rw [hx, List.getD_eq_getElem?_getD, List.getElem?_append_right (by omega), hp]
      simp
    simp only [vg]
    rw [if_pos hlen]
    by_cases hs : n < 128
    · rw [hget _ _ (vput_small hs), toNat_ofNat8 (by omega), if_neg (by
        rintro ⟨h1, h2⟩
        subst h1
        have e : (2 : Nat) ^ (7 * 9) = 9223372036854775808 := by decide
        rw [e] at hn; omega), if_neg (by omega), if_neg (by
        rintro ⟨h1, h2⟩
        have := h0 h1; omega), vput_small hs]
      simp
    · have hi9 : i < 9 := by
        apply Classical.byContradiction
        intro h9
        have : i = 9 := by omega
        rw [this] at hn
        have e : (2 : Nat) ^ (7 * 9) = 9223372036854775808 := by decide
        rw [e] at hn; omega
      rw [hget _ _ (vput_big hs), toNat_ofNat8 (by omega), if_neg (by omega), if_pos (by omega)]
      have hmod : (n % 128 + 128) % 128 = n % 128 := by omega
      have hsum : n % 128 * 2 ^ (7 * i) + n / 128 * 2 ^ (7 * (i + 1)) = n * 2 ^ (7 * i) := by
        rw [pow7s]
        have h1 : n / 128 * (2 ^ (7 * i) * 128) = (n / 128 * 128) * 2 ^ (7 * i) := by
          rw [Nat.mul_comm (2 ^ (7 * i)) 128, Nat.mul_assoc]
        rw [h1, ← Nat.add_mul]
        congr 1; omega
      have hbound : n / 128 * 2 ^ (7 * (i + 1)) < 18446744073709551616 := by omega
      have := vg_put f (i + 1) (acc + n % 128 * 2 ^ (7 * i)) (n / 128) (pre ++ [UInt8.ofNat (n % 128 + 128)]) rest (by omega) (by simp [hp]) hbound (by omega)
      rw [hmod]
      have es : pre ++ (vput n ++ rest) = pre ++ [UInt8.ofNat (n % 128 + 128)] ++ (vput (n / 128) ++ rest) := by
        rw [vput_big hs]; simp
      rw [es, this, Nat.add_assoc, hsum, vput_big hs, List.length_cons]
      have : i + 1 + (vput (n / 128)).length = i + ((vput (n / 128)).length + 1) := by omega
      rw [this]

theorem vg_put0 {n : Nat} (hn : n < 18446744073709551616) (rest : List UInt8) : vg (vput n ++ rest) 10 0 0 = ((n : Int), ((vput n).length : Int), 0) := by
  have := vg_put 10 0 0 n [] rest rfl rfl (by simpa using hn) (fun _ => rfl)
  simpa using this

/-- a payload behind its length -/
def vsized (p : List UInt8) : List UInt8 := vput p.length ++ p

theorem strMax_ok {n : Nat} (h : n ≤ 1000000) : decide (n ≤ strMax) = true := by
  unfold strMax; simp; omega

theorem sized_eq {p : List UInt8} (h : p.length ≤ 100000) : encode_sized p = some (vsized p) := by
  rw [encode_sized, wrpn (by omega), put_eq (by omega)]
  simp only [Option.bind_eq_bind, Option.bind_some]
  have := vput_len10 (n := p.length) (by omega)
  rw [if_pos (strMax_ok (by omega))]
  rfl
theorem refsized_eq {p : List UInt8} (h : p.length ≤ 100000) : sheaveref09_part p = some (vsized p) := by
  rw [sheaveref09_part, wrpn (by omega), refput_eq (by omega)]
  simp only [Option.bind_eq_bind, Option.bind_some]
  have := vput_len10 (n := p.length) (by omega)
  rw [if_pos (strMax_ok (by omega))]
  rfl

/-- a field as it is written -/
def vfield (id : Nat) (c : Bool) (p : List UInt8) : List UInt8 := vput (2 * id + (if c then 1 else 0)) ++ vsized p

theorem vsized_len {p : List UInt8} (h : p.length ≤ 100000) : (vsized p).length ≤ p.length + 10 := by
  have := vput_len10 (n := p.length) (by omega)
  unfold vsized; simp; omega

theorem field_eq {id : Nat} {c : Bool} {p : List UInt8} (hid : id ≤ 1000000) (h : p.length ≤ 90000) : encode_field ((id : Int), c, p) = some (vfield id c p) := by
  rw [encode_field]
  have hm : mulI .u64 2 (wrp .u64 (id : Int)) = ((2 * id : Nat) : Int) := by
    rw [wrpn (by omega)]; exact mulIn (a := 2) (by omega)
  simp only [Option.bind_eq_bind, Option.bind_some]
  rw [hm, sized_eq (by omega)]
  have hl := vsized_len (p := p) (by omega)
  cases c with
  | true =>
    have ha : addI .u64 ((2 * id : Nat) : Int) 1 = ((2 * id + 1 : Nat) : Int) := addIn (b := 1) (by omega)
    rw [if_pos rfl, ha, put_eq (by omega)]
    have := vput_len10 (n := 2 * id + 1) (by omega)
    simp only [Option.bind_some]
    rw [if_pos (strMax_ok (by omega))]
    rfl
  | false =>
    rw [if_neg (by simp), put_eq (by omega)]
    have := vput_len10 (n := 2 * id) (by omega)
    simp only [Option.bind_some]
    rw [if_pos (strMax_ok (by omega))]
    rfl
theorem reffield_eq {id : Nat} {c : Bool} {p : List UInt8} (hid : id ≤ 1000000) (h : p.length ≤ 90000) : sheaveref09_field ((id : Int), c, p) = some (vfield id c p) := by
  rw [sheaveref09_field]
  have hm : wrp .u64 (mulI .i64 2 (id : Int)) = ((2 * id : Nat) : Int) := by
    rw [mulI64 (by omega) (by omega)]
    have : (2 : Int) * (id : Int) = ((2 * id : Nat) : Int) := by omega
    rw [this]; exact wrpn (by omega)
  simp only [Option.bind_eq_bind, Option.bind_some]
  rw [hm, refsized_eq (by omega)]
  have hl := vsized_len (p := p) (by omega)
  cases c with
  | true =>
    have ha : addI .u64 ((2 * id : Nat) : Int) 1 = ((2 * id + 1 : Nat) : Int) := addIn (b := 1) (by omega)
    rw [if_pos rfl, ha, refput_eq (by omega)]
    have := vput_len10 (n := 2 * id + 1) (by omega)
    simp only [Option.bind_some]
    rw [if_pos (strMax_ok (by omega))]
    rfl
  | false =>
    rw [if_neg (by simp), refput_eq (by omega)]
    have := vput_len10 (n := 2 * id) (by omega)
    simp only [Option.bind_some]
    rw [if_pos (strMax_ok (by omega))]
    rfl

theorem vpart_sized {p rest : List UInt8} (h : p.length ≤ 100000) : vpart (vsized p ++ rest) = some (p, rest) := by
  unfold vpart vsized
  rw [List.append_assoc, vg_put0 (by omega)]
  simp only [Int.toNat_natCast, true_and]
  rw [if_pos (by simp; omega)]
  simp

/-- one field, read -/
theorem fields_step {id : Nat} {c : Bool} {p rest : List UInt8} {last : Nat} {b : List SField} (h1 : last < id) (hid : id ≤ 1000) (h : (vfield id c p ++ rest).length ≤ 100000) (hb : b.length ≤ 90000) :
    encode_Fields_l0 ((last : Int), vfield id c p ++ rest, b) = encode_Fields_l0 ((id : Int), rest, b ++ [⟨(id : Int), c, p⟩]) := by
  have hpl : p.length ≤ 100000 := by
    have h2 := h
    simp only [vfield, vsized, List.length_append] at h2; omega
  have hne : vfield id c p ++ rest ≠ [] := by
    intro hc
    have h2 := congrArg List.length hc
    have := vput_pos (2 * id + (if c then 1 else 0))
    simp only [vfield, List.length_append, List.length_nil] at h2; omega
  have hh : 2 * id + (if c then 1 else 0) ≤ 2001 := by split <;> omega
  have hg : vg (vfield id c p ++ rest) 10 0 0 = (((2 * id + (if c then 1 else 0) : Nat) : Int), ((vput (2 * id + (if c then 1 else 0))).length : Int), 0) := by
    unfold vfield
    rw [List.append_assoc]
    exact vg_put0 (by omega) _
  have hn := next_ok hg (by unfold vfield; simp)
  have hd : (vfield id c p ++ rest).drop (vput (2 * id + (if c then 1 else 0))).length = vsized p ++ rest := by
    unfold vfield
    rw [List.append_assoc, List.drop_left]
  rw [hd] at hn
  have hdiv : (2 * id + (if c then 1 else 0)) / 2 = id := by split <;> omega
  have hrem : decide (remI ((2 * id + (if c then 1 else 0) : Nat) : Int) 2 = 1) = c := by
    have : remI ((2 * id + (if c then 1 else 0) : Nat) : Int) 2 = (((2 * id + (if c then 1 else 0)) % 2 : Nat) : Int) := remIn (b := 2)
    rw [this]
    cases c with
    | true => simp
    | false => simp
  rw [encode_Fields_l0, if_pos (by simp only [Bool.not_eq_true', decide_eq_false_iff_not]; exact hne), hn]
  simp only [Option.bind_eq_bind, Option.bind_some]
  rw [quoI2 (by omega), hdiv, if_neg (by simp; omega), hrem, part_eq (by
    have h2 := h
    simp only [vfield, List.length_append] at h2
    simp only [List.length_append]; omega), vpart_sized hpl]
  simp only [Option.bind_some]
  have hw : wrp .i64 (id : Int) = (id : Int) := wrp64 (by omega) (by omega)
  have hnn : ¬ ((!(encP (some (p, rest))).2.2) = true) := by simp [encP]
  rw [if_neg hnn, hw]
  have hr : room 32 (b ++ [(⟨(id : Int), c, (encP (some (p, rest))).1⟩ : SField)]).length = true := room_k (by omega) (by simp; omega)
  rw [if_pos hr]
  rfl

theorem fields_one {id : Nat} {c : Bool} {p : List UInt8} (h1 : 0 < id) (hid : id ≤ 1000) (h : p.length ≤ 90000) : encode_Fields (vfield id c p) = some ([⟨(id : Int), c, p⟩], 0) := by
  have hl : (vfield id c p ++ []).length ≤ 100000 := by
    have h2 := vput_len10 (n := 2 * id + (if c then 1 else 0)) (by split <;> omega)
    have h3 := vsized_len (p := p) (by omega)
    simp only [vfield, List.append_nil, List.length_append]; omega
  have hs := fields_step (rest := []) (last := 0) (b := []) (c := c) (p := p) h1 hid hl (by simp)
  have hs' : encode_Fields_l0 (0, vfield id c p, []) = encode_Fields_l0 ((id : Int), [], [⟨(id : Int), c, p⟩]) := by simpa using hs
  rw [encode_Fields, hs', encode_Fields_l0, if_neg (by simp)]
  rfl

theorem law_EncodeField (id : Int) (c : Bool) (p : List UInt8) : sheavelaw09_EncodeField (id, c, p) = some true := by
  rw [sheavelaw09_EncodeField, sheavelaw09_awake_run]
  simp only [Option.bind_eq_bind, Option.bind_some]
  by_cases h : 5000 < p.length
  · rw [if_pos (by simp; omega)]
  · rw [if_neg (by simp; omega), encode_Field, sheaveref09_Field]
    by_cases hid : id < 1 ∨ 1000 < id
    · rw [if_pos (by simp; omega), if_pos (by simp; omega)]
      rfl
    · have hidc : ¬ ((bif decide (id < 1) then true else decide (1000 < id)) = true) := by simp; omega
      rw [if_neg hidc, if_neg hidc]
      by_cases hl : 4096 < p.length
      · have hlc : decide (4096 < (p.length : Int)) = true := by simp; omega
        rw [if_pos hlc, if_pos hlc]
        rfl
      · have hlc : ¬ (decide (4096 < (p.length : Int)) = true) := by simp; omega
        rw [if_neg hlc, if_neg hlc]
        obtain ⟨k, rfl⟩ : ∃ k : Nat, id = (k : Int) := ⟨id.toNat, by omega⟩
        rw [field_eq (by omega) (by omega), reffield_eq (by omega) (by omega)]
        simp only [Option.bind_eq_bind, Option.bind_some]
        rw [if_neg (by simp)]
        simp only [fields_one (id := k) (c := c) (p := p) (by omega) (by omega) (by omega)]
        simp only [Option.bind_some, decide_true, if_true, cond_true]
        rw [sameFields _ (by simp)]
        rfl

end Go.Proofs.YthnmepafpikaiaaGreat
