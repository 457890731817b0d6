/- The contract of a law's function, out of its certificate and of the plain law. -/
import Derived.Test.YtkdepbmeaiefeaaShvZ1
namespace Go.Proofs.Ytkdepbmeaiefeaa.Shv
set_option linter.all false
open Go Go.ChangeShapes Go.WideShapes Go.RowKit

variable {U : Uni}

def isAgg (P : Program) (t : TypeId) : Bool :=
  match P.underlying t with
  | some (.struct _) => true
  | some (.array _ _) => true
  | _ => false
def isStruct (P : Program) (t : TypeId) : Bool :=
  match P.underlying t with
  | some (.struct _) => true
  | _ => false
def flatIs (P : Program) (U : Uni) (st : TypeId → Option Nat) (t : TypeId) (tys : List Ty) : Bool :=
  match flat P U st 60 t with
  | some a => tysEq a tys
  | none => false

/-- the parameters' shapes -/
def parOk (P : Program) (U : Uni) (st : TypeId → Option Nat) : List TypeId → List SV → List Ty → Bool
  | [], [], [] => true
  | t :: ts, .row m :: svs, .nm m' :: tys => (Nat.beq m m' && (isStruct P t && flatIs P U st t (U.tys m))) && parOk P U st ts svs tys
  | t :: ts, .c (.hole ty) :: svs, ty' :: tys => (Ty.beq ty ty' && (!ty.isNm && (!isAgg P t && flatIs P U st t [ty]))) && parOk P U st ts svs tys
  | _, _, _ => false

theorem flatIs_some {P : Program} {st : TypeId → Option Nat} {t : TypeId} {tys : List Ty} (h : flatIs P U st t tys = true) : flat P U st 60 t = some tys := by
  unfold flatIs at h
  split at h
  · rename_i a ha; rw [ha, tysEq_eq h]
  · cases h

section
variable {H : Type} {enc : TypeId × Value → H} {P : Program} {w : World} {φ : Phi}

theorem parOk_length {st : TypeId → Option Nat} : ∀ {tids : List TypeId} {svs : List SV} {tys : List Ty}, parOk P U st tids svs tys = true → tids.length = tys.length
  | [], [], [], _ => rfl
  | [], [], _ :: _, h => by cases h
  | [], _ :: _, _, h => by cases h
  | _ :: _, [], _, h => by cases h
  | _ :: _, sv :: _, [], h => by
    cases sv with
    | c x => cases x <;> cases h
    | _ => cases h
  | t :: ts, sv :: svs, ty :: tys, h => by
    have : parOk P U st ts svs tys = true := by
      cases sv with
      | row m => cases ty with
        | nm m' => simp only [parOk, Bool.and_eq_true] at h; exact h.2
        | _ => cases h
      | c x => cases x with
        | hole ty => simp only [parOk, Bool.and_eq_true] at h; exact h.2
        | _ => cases h
      | _ => cases h
    simp [parOk_length this]

theorem okWide_agg {b0 : Nat} {r : Reach} {t : TypeId} {v : Value} (hs : isStruct P t = true) (h : Value.okWide P w r b0 t v) : ∃ cs, v = .agg cs := by
  unfold isStruct at hs
  unfold Value.okWide at h
  split at hs
  · rename_i fs hu
    rw [hu] at h
    obtain ⟨cs, hcs, _⟩ := h
    exact ⟨cs, hcs⟩
  · cases hs

theorem okWide_one {b0 : Nat} {r : Reach} {t : TypeId} {v : Value} (hs : isAgg P t = false) (h : Value.okWide P w r b0 t v) : v.cells = #[v] := by
  unfold isAgg at hs
  unfold Value.okWide at h
  have h2 : Cell.okWide P w r b0 t v := by
    split at h
    · rename_i hu; rw [hu] at hs; cases hs
    · rename_i hu; rw [hu] at hs; cases hs
    · exact h
  cases v with
  | agg cs =>
    unfold Cell.okWide at h2
    split at h2 <;> first | (rename_i e; cases e) | (rename_i e _; cases e) | skip
    unfold Cell.ok at h2
    split at h2 <;> first | (rename_i e; cases e) | (rename_i e _; cases e) | cases h2
  | _ => rfl

theorem All2_map_t {w : World} {S : Stab} : ∀ {l : List (Cell U.D)} {vs : List Value}, All2 (fun c v => RT w S (Cell.enc U c) v) l vs → All2 (RC φ w S) ((l.map XC.t).map XC.conc) vs
  | [], [], .nil => .nil
  | c :: l, v :: vs, .cons h1 h2 => .cons h1 (All2_map_t h2)

theorem args_read (tot : U.Total) (φ : Phi) {st : TypeId → Option Nat} {b0 : Nat} : ∀ (ts : List TypeId) (svs : List SV) (tys : List Ty) (args : List Value) (ds : List (DataW H)) (ps : List MemPlace),
    parOk P U st ts svs tys = true → (∀ (j : Nat) t v, ts[j]? = some t → args[j]? = some v → Value.okWide P w .any b0 t v) →
    DataW.TrodAll enc P w 0 (fun _ => true) true ts args ds ps → (∀ k, k ∈ DataW.weightsEach P ts ds → k ≤ reachBytes) →
    ∃ (l : Cs U) (xs : List (XV U)), l.map Cell.ty = tys ∧ (∀ c, c ∈ l → ∀ d, d ∈ c.ty.row U c.val → WF U d) ∧ filVs svs l = (xs, []) ∧ (∀ x, x ∈ xs → solidV x = true) ∧ All2 (RV φ w (Old w)) (xs.map concV) args
  | [], [], [], args, ds, ps, _, _, ht, _ => by
    obtain ⟨rfl, rfl, rfl⟩ := trodAll_nil ht
    exact ⟨[], [], rfl, by simp, rfl, by simp, .nil⟩
  | t :: ts, sv :: svs, ty :: tys, args, ds, ps, hp, hv, ht, hw => by
    obtain ⟨v, vs, d, ds', p, q, rfl, rfl, rfl, ⟨fuel, h1⟩, h2⟩ := trodAll_cons ht
    have hv0 := hv 0 t v rfl rfl
    have hw0 : ∀ k, k ∈ d.weights P t → k ≤ reachBytes := fun k hk => hw k (by simp only [DataW.weightsEach, List.mem_append]; exact .inl hk)
    have rest : ∀ (hp' : parOk P U st ts svs tys = true), _ := fun hp' => args_read tot φ (st := st) (b0 := b0) ts svs tys vs ds' q hp' (fun j t v hj hvj => hv (j + 1) t v (by simpa using hj) (by simpa using hvj)) h2
      (fun k hk => hw k (by simp only [DataW.weightsEach, List.mem_append]; exact .inr hk))
    unfold parOk at hp
    split at hp
    · rename_i heq _ ; cases heq
    · rename_i t0 ts0 m svs0 m' tys0 e1 e2 e3
      cases e1; cases e2; cases e3
      simp only [Bool.and_eq_true] at hp
      obtain ⟨⟨hm, hs, hf⟩, hp2⟩ := hp
      have hm' := beq_true hm
      subst hm'
      obtain ⟨l, xs, hl1, hl2, hl3, hl4, hl5⟩ := rest hp2
      obtain ⟨cs, rfl⟩ := okWide_agg hs hv0
      obtain ⟨l0, hl0⟩ := data_read tot fuel 60 t _ _ _ h1 (flatIs_some hf) hw0
      obtain ⟨x, hx⟩ := mk_of tot (t := .nm m) hl0.ty
      refine ⟨⟨.nm m, x⟩ :: l, .agg ((Ty.row U (.nm m) x).map .t) :: xs, by simp [hl1], ?_, ?_, ?_, ?_⟩
      · intro c hc
        rcases List.mem_cons.1 hc with rfl | hc
        · intro d hd
          exact hl0.wf d (hx ▸ hd)
        · exact hl2 c hc
      · simp only [filVs, filV, hl3]
      · intro y hy
        rcases List.mem_cons.1 hy with rfl | hy
        · simp [solidV, XC.solid]
        · exact hl4 y hy
      · refine .cons ?_ hl5
        have := All2_map_t (φ := φ) hl0.rt
        rw [← hx] at this
        exact RV.agg (vs := cs.toList) this
    · rename_i t0 ts0 ty0 svs0 ty' tys0 e1 e2 e3
      cases e1; cases e2; cases e3
      simp only [Bool.and_eq_true, Bool.not_eq_true'] at hp
      obtain ⟨⟨hm, hn, hs, hf⟩, hp2⟩ := hp
      have hm' := Ty.beq_eq hm
      subst hm'
      obtain ⟨l, xs, hl1, hl2, hl3, hl4, hl5⟩ := rest hp2
      rw [okWide_one hs hv0] at h1
      obtain ⟨l0, hl0⟩ := data_read tot fuel 60 t _ _ _ h1 (flatIs_some hf) hw0
      match l0, hl0 with
      | [], hl0 => cases hl0.ty
      | [⟨ty1, x⟩], hl0 =>
        have ht1 : ty1 = ty0 := by have := hl0.ty; simpa using this
        subst ht1
        refine ⟨⟨ty1, x⟩ :: l, .c (.t ⟨ty1, x⟩) :: xs, by simp [hl1], ?_, ?_, ?_, ?_⟩
        · intro c hc
          rcases List.mem_cons.1 hc with rfl | hc
          · intro d hd
            refine hl0.wf d ?_
            cases ty1 <;> first | exact hd | cases hn
          · exact hl2 c hc
        · simp only [filVs, filV, filC, hl3]
        · intro y hy
          rcases List.mem_cons.1 hy with rfl | hy
          · rfl
          · exact hl4 y hy
        · refine .cons ?_ hl5
          cases hl0.rt with
          | cons h3 h4 => exact .c h3
      | _ :: _ :: _, hl0 => have := hl0.ty; simp at this
    · cases hp
  | [], [], _ :: _, _, _, _, hp, _, _, _ => by cases hp
  | [], _ :: _, _, _, _, _, hp, _, _, _ => by cases hp
  | _ :: _, [], _, _, _, _, hp, _, _, _ => by cases hp
  | t :: ts, sv :: svs, [], _, _, _, hp, _, _, _ => by
    cases sv with
    | row m => cases hp
    | c x => cases x <;> cases hp
    | agg l => cases hp
    | tup l => cases hp

/-- the tuple of cells -/
theorem Hs.of_cells : ∀ (ts : List Ty) (l : Cs U), l.map Cell.ty = ts → ∃ h : Hs U.D ts, Hs.cells U.D ts h = l
  | [], [], _ => ⟨(), rfl⟩
  | [t], [⟨t', x⟩], h => by
    have : t' = t := by simpa using h
    subst this
    exact ⟨x, rfl⟩
  | t :: u :: r, ⟨t', x⟩ :: l, h => by
    simp only [List.map_cons, List.cons.injEq] at h
    obtain ⟨h1, h2⟩ := h
    subst h1
    obtain ⟨y, hy⟩ := Hs.of_cells (u :: r) l (by simpa using h2)
    exact ⟨(x, y), by show ⟨t', x⟩ :: Hs.cells U.D (u :: r) y = _; rw [hy]⟩
  | [], _ :: _, h => by simp at h
  | _ :: _, [], h => by simp at h
  | [_], _ :: _ :: _, h => by simp at h

theorem HsC.dec_of {D : Nat → Type} : ∀ {ts : List Ty} {t : Ty} (h : HsC D t ts), HsC.dec D t ts (HsC.cells D t ts h) = some h
  | [], t, x => Cell.as_mk
  | u :: r, t, x => by
    unfold HsC.dec HsC.cells
    simp only [hd1, Cell.as_mk]
    rw [HsC.dec_of]
    rfl

theorem Hs.dec_of {D : Nat → Type} : ∀ {ts : List Ty} (h : Hs D ts), Hs.dec D ts (Hs.cells D ts h) = some h
  | [], _ => rfl
  | _ :: _, h => HsC.dec_of h

theorem Hs.dec_ty {D : Nat → Type} : ∀ {ts : List Ty} {l : List (Cell D)}, l.map Cell.ty = ts → ∃ h, Hs.dec D ts l = some h := by
  have go : ∀ (ts : List Ty) (l : List (Cell D)), l.map Cell.ty = ts → ∃ h : Hs D ts, Hs.cells D ts h = l := by
    intro ts
    induction ts with
    | nil => intro l h; cases l with
      | nil => exact ⟨(), rfl⟩
      | cons => cases h
    | cons t r ih =>
      intro l h
      cases l with
      | nil => cases h
      | cons c l =>
        obtain ⟨t', x⟩ := c
        simp only [List.map_cons, List.cons.injEq] at h
        obtain ⟨h1, h2⟩ := h
        subst h1
        obtain ⟨y, hy⟩ := ih l h2
        cases r with
        | nil =>
          cases l with
          | nil => exact ⟨x, rfl⟩
          | cons => cases h2
        | cons u r => exact ⟨(x, y), by show ⟨t', x⟩ :: Hs.cells D (u :: r) y = _; rw [hy]⟩
  intro ts l h
  obtain ⟨y, hy⟩ := go ts l h
  exact ⟨y, by rw [← hy]; exact Hs.dec_of y⟩

/-- the arguments' premise of a plain law -/
def Ok (U : Uni) (ts : List Ty) (h : Hs U.D ts) : Prop := ∀ c, c ∈ Hs.cells U.D ts h → ∀ d, d ∈ c.ty.row U c.val → WF U d

theorem nil_sr {N : Nat} : SR N ([] : XSt U) [] := fun b x h => by cases h

theorem args_vr {N : Nat} {σ : XSt U} : ∀ {xs : List (XV U)}, (∀ x, x ∈ xs → solidV x = true) → All2 (VR N σ) xs (xs.map concV)
  | [], _ => .nil
  | x :: xs, h => .cons (conc_vr (h x (by simp))).1 (args_vr fun y hy => h y (by simp [hy]))

theorem args_bnd {k : Nat → Bool} : ∀ {xs : List (XV U)}, (∀ x, x ∈ xs → solidV x = true) → V.bnd.V.bnds k (xs.map concV) = true
  | [], _ => rfl
  | x :: xs, h => by
    simp only [List.map_cons, V.bnd.V.bnds, Bool.and_eq_true]
    exact ⟨(conc_vr (N := 0) (σ := []) (h x (by simp))).2 k, args_bnd fun y hy => h y (by simp [hy])⟩

/-- a call of a law's function -/
theorem law_calls {f : Nat} {sa : List SV} {ts : List Ty} {F : Hs U.D ts → Option (Hs U.D [.bool])} (tot : U.Total) (hs : FSnd P ⟨f, sa, [], ts, .c (.hole .bool), [], [.bool], F⟩)
    (law : ∀ h : Hs U.D ts, Ok U ts h → F h = some true) {st : TypeId → Option Nat} {tids : List TypeId} (hp : parOk P U st tids sa ts = true)
    {b0 : Nat} {args : Array Value} {ds : List (DataW H)} {ps : List MemPlace} (hv : ∀ (j : Nat) t v, tids[j]? = some t → args[j]? = some v → Value.okWide P w .any b0 t v)
    (ht : DataW.TrodAll enc P w 0 (fun _ => true) true tids args.toList ds ps) (hw : ∀ k, k ∈ DataW.weightsEach P tids ds → k ≤ reachBytes) :
    Calls P f args w fun e w' => e = .returned (.bool true) ∧ Below w.heap.size w w' := by
  obtain ⟨l, xs, hl1, hl2, hl3, hl4, hl5⟩ := args_read tot (fun b => (b, 0)) tids sa ts args.toList ds ps hp (fun j t v hj hvj => hv j t v hj (by simpa using hvj)) ht hw
  obtain ⟨h, hh⟩ := Hs.of_cells ts l hl1
  have hF := law h (fun c hc d hd => hl2 c (hh ▸ hc) d hd)
  have hcon := hs h true hF (xs.map concV) [] (by
    show All2 (VR 0 _) (filVs sa (Hs.cells U.D ts h)).1 _
    rw [hh, hl3]; exact args_vr hl4) (by
    show SR 0 (filS 0 [] _) []
    exact nil_sr)
  have := hcon (fun b => (b, 0)) (Old w) w (fun _ => False) { blk := fun b x hx => (by cases hx), inj := fun b b' x y hx => (by cases hx), st := fun b j hb => hb } (fun b x hx => by cases hx) (fun b x hx => by cases hx)
    (args_bnd hl4) args.toList hl5
  rw [Array.toArray_toList] at this
  refine this.mono fun e w' ⟨v, r, φ', S', σ', N', he, ⟨_, hr, _⟩, hrv, _, _, _, hext, _⟩ => ?_
  cases hr with
  | c hc =>
    cases hc with
    | t c =>
      cases hrv with
      | c hrc =>
        cases hrc
        exact ⟨he, hext.os, hext.tape, hext.output, hext.size, fun k hk => hext.block k hk (fun h => h)⟩

/-- nothing that was there has changed -/
theorem post_below {f : Func} {s : ChangeSpec} {fresh handsOn again : Bool} {W W' : World} {args : Array Value} {v : Value} {ds gs : List (DataW H)} {before : List MemPlace}
    (hW : DataW.Whole enc P f.params.toList s.vars false W args.toList ds gs before) (hb : Below W.heap.size W W')
    (hres : ∀ (b : Nat) (sp : Nat → Bool) (hd : Bool), DataW.TrodAll enc P W' b sp hd f.resultTypes.toList (v.resultList f.resultTypes.size) (s.fn H (ds ++ gs)).results [])
    (hargs : ∀ sp : Nat → Bool, (∀ p ∈ before, sp p.block = true) → DataW.TrodAll enc P W' 0 sp true f.params.toList args.toList (s.fn H (ds ++ gs)).args before)
    (hvars : ∀ sp : Nat → Bool, (∀ p ∈ before, sp p.block = true) → DataW.TrodVars enc P W' sp s.vars (s.fn H (ds ++ gs)).vars [])
    (hok : ∀ (j : Nat) (t : TypeId) (r : Value), f.resultTypes[j]? = some t → (v.resultList f.resultTypes.size)[j]? = some r → Value.okWide P W' .any 0 t r) :
    s.post enc P f false fresh handsOn again W args v W' := by
  have hlt := hW.lt
  have hold : ∀ p ∈ before, (fun b => decide (b < W.heap.size)) p.block = true := fun p hp => by simpa using hlt p hp
  refine ⟨ds, gs, before, [], before, [], hW, hres _ _ _, hargs _ hold, hvars _ hold, hb.frame _, fun _ => ?_⟩
  refine ⟨hok, (s.fn H (ds ++ gs)).results ++ (s.fn H (ds ++ gs)).args, (s.fn H (ds ++ gs)).vars, before, ⟨before, [], ?_, hvars _ (fun _ _ => rfl), by simp, ?_, fun h => by cases h⟩, fun p hp _ => hp⟩
  · have := trodAll_append (hargs (fun _ => true) (fun _ _ => rfl)) (hres 0 (fun _ => true) true)
    simpa using this
  · intro b off hp
    obtain ⟨_, _, _, _, _, hz, _⟩ := hW
    rw [World.frozen?_of_block (w := W) (a := ⟨b, off, none⟩) (hb.block b (hlt _ hp))]
    exact hz b off hp

/-- the contract that the row asks for -/
theorem law_contract {f : Nat} {fn : Func} {s : ChangeSpec} {sa : List SV} {ts : List Ty} {F : Hs U.D ts → Option (Hs U.D [.bool])} (tot : U.Total)
    (hs : FSnd P ⟨f, sa, [], ts, .c (.hole .bool), [], [.bool], F⟩)
    (law : ∀ h : Hs U.D ts, Ok U ts h → F h = some true) {st : TypeId → Option Nat} (hp : parOk P U st fn.params.toList sa ts = true)
    {tb : TypeId} (hres : fn.resultTypes = #[tb]) (htb : P.underlying tb = some .bool) (hvars : s.vars = [])
    (hfn : ∀ ds : List (DataW H), ds.length = ts.length → (s.fn H ds).results = [.lit (.bool true)] ∧ (s.fn H ds).args = ds ∧ (s.fn H ds).vars = [])
    (hlay : (laidOutB P && mapsRowed P) = true) (hpar : fn.params.toList.all (fun t => decide (t < P.types.size)) = true)
    (hsl : ((List.range P.types.size).all fun t => match P.underlying t with | some (.slice e) => decide (0 < P.cellsOf e) | _ => true) = true)
    {W : World} {base : Nat} {args : Array Value} {ds gs : List (DataW H)} {before : List MemPlace} {fresh handsOn again : Bool}
    (hval : ∀ (j : Nat) t v, fn.params[j]? = some t → args[j]? = some v → Value.okWide P W .any base t v)
    (hW : DataW.Whole enc P fn.params.toList s.vars false W args.toList ds gs before)
    (hk : (DataW.weightsEach P (fn.params.toList ++ s.plain.varTypes P) (ds ++ gs)).all (· ≤ reachBytes) = true) :
    Calls P f args W fun e W' => ∃ v, e = .returned v ∧ s.post enc P fn false fresh handsOn again W args v W' := by
  have hW' := hW
  obtain ⟨p, q, hA, hV, rfl, hfz, hnd⟩ := hW
  rw [hvars] at hV
  obtain ⟨rfl, rfl⟩ := trodVars_none hV
  have hvt : s.plain.varTypes P = [] := by
    show s.vars.filterMap _ = [] <;> simp [hvars]
  rw [hvt, List.append_nil, List.append_nil, List.all_eq_true] at hk
  have hlen : ds.length = ts.length := by
    have h1 : ∀ {tids : List TypeId} {vs : List Value} {ds : List (DataW H)} {ps : List MemPlace}, DataW.TrodAll enc P W 0 (fun _ => true) true tids vs ds ps → ds.length = tids.length := by
      intro tids
      induction tids with
      | nil => intro vs ds ps h; obtain ⟨_, rfl, _⟩ := trodAll_nil h; rfl
      | cons t r ih => intro vs ds ps h; obtain ⟨_, _, _, _, _, _, _, rfl, _, _, h2⟩ := trodAll_cons h; simp [ih h2]
    rw [h1 hA, parOk_length hp]
  obtain ⟨hr1, hr2, hr3⟩ := hfn ds hlen
  simp only [Bool.and_eq_true] at hlay
  have K := kids_rows hlay.1 hlay.2
  have hsz := slices_full_of P hsl
  refine (law_calls tot hs law hp (fun j t v hj hvj => hval j t v (by simpa using hj) hvj) hA (fun k hk' => by simpa using hk k hk')).mono fun e W' ⟨he, hb⟩ => ?_
  subst he
  refine ⟨_, rfl, post_below hW' hb ?_ ?_ ?_ ?_⟩
  · intro b sp hd
    rw [List.append_nil, hr1, hres]
    exact trodAll_cons_mk (shut_bool htb _) trodAll_mk0
  · intro sp hsp
    rw [List.append_nil, hr2]
    have hlt := hW'.lt
    clear hW' hfz hnd hk hval hlen
    have hT : ∀ t, t ∈ fn.params.toList → t < P.types.size := fun t ht => by simpa using List.all_eq_true.1 hpar t ht
    have go : ∀ {tids : List TypeId} {vs : List Value} {ds : List (DataW H)} {ps : List MemPlace}, (∀ t, t ∈ tids → t < P.types.size) → (∀ p ∈ ps, p.block < W.heap.size ∧ sp p.block = true) →
        DataW.TrodAll enc P W 0 (fun _ => true) true tids vs ds ps → DataW.TrodAll enc P W' 0 sp true tids vs ds ps := by
      intro tids
      induction tids with
      | nil => intro vs ds ps _ _ h; obtain ⟨rfl, rfl, rfl⟩ := trodAll_nil h; exact trodAll_mk0
      | cons t r ih =>
        intro vs ds ps hT hps h
        obtain ⟨v, vs', d, ds', a, b, rfl, rfl, rfl, ⟨fu, h1⟩, h2⟩ := trodAll_cons h
        refine ⟨a, b, ⟨fu, DataW.trod_stays (T := (· < P.types.size)) K (fun {t e} => hsz t e) (by intro hh; cases hh) (hT t (by simp)) h1 (fun x hx => hb.same (hps x (by simp [hx])).1) (fun x hx => (hps x (by simp [hx])).2)⟩, ih (fun t ht => hT t (by simp [ht])) (fun x hx => hps x (by simp [hx])) h2, rfl⟩
    rw [List.append_nil]
    exact go hT (fun x hx => ⟨hlt x (by simp [hx]), hsp x (by simp [hx])⟩) hA
  · intro sp hsp
    rw [List.append_nil, hr3, hvars]
    exact rfl
  · exact ok_one hres rfl (okWide_bool_mk htb _)

end

end Go.Proofs.Ytkdepbmeaiefeaa.Shv
