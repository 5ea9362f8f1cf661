/-
  Each operation of the ideal machine is the model's: all of them in one word.
-/
import Derived.Test.YtdoilggfajngiaaVMc
namespace Go.Proofs.Ytdoilggfajngiaa.VE
open Go Go.RowKit

section
variable {P : Program} {cfg : Cfg} {M : Nat → Prop} {B key : Nat} {O : Nat → Nat → Prop} {x : Xs} {h hr : Nat → Option Box} {u : Nat → Bool} {w : World} {k : Out → R} {r : IV × List (Nat × Box)}

/-- What an operation of the model does, where the ideal machine's goes through. -/
def OpDone (P : Program) (M : Nat → Prop) (B : Nat) (O : Nat → Nat → Prop) (x : Xs) (h : Nat → Option Box) (u : Nat → Bool) (w : World) (out : Out) (o : Oper) (a : Act) : Prop :=
  ∀ (next : Act → World → Prop) (Q : Exit → Act → World → Prop),
    (∀ v w' x', Ext x w x' w' → Fr M B w w' → HRel M B O x' (updMany h out.ups) (updMany u (out.news.map fun i => (i, true))) w' → IVRel x' w' v out.v → next (a.put o.dst v) w') → o.wp P a w next Q

theorem Step.done {out : Out} {o : Oper} {a : Act} {s : Sem Value} (hex : execOp a.eval o = (s >>= fun v => Pure.pure (Next.value v) : Sem Next)) (hs : Step P M B O x h u w out s) : OpDone P M B O x h u w out o a := by
  intro next Q hn
  obtain ⟨v, w', x', h1, h2, h3, h4, h5⟩ := hs
  unfold Oper.wp
  rw [hex, Sem.run_bind, h1, Result.andThen_ok]
  exact hn v w' x' h2 h3 h4 h5

theorem StepU.done {out : Out} {o : Oper} {a : Act} {s : Sem Unit} (hv : out.v = .c .junk) (hex : execOp a.eval o = (s >>= fun _ => Pure.pure Next.skip : Sem Next)) (hs : StepU P M B O x h u w out s) : OpDone P M B O x h u w out o a := by
  intro next Q hn
  obtain ⟨w', x', h1, h2, h3, h4⟩ := hs
  unfold Oper.wp
  rw [hex, Sem.run_bind, h1, Result.andThen_ok]
  exact hn undef w' x' h2 h3 h4 (by rw [hv]; exact .c _ _ (.junk _))

theorem Step.doneOf {out : Out} {o : Oper} {a : Act} {s : Sem Value} (hex : execOp a.eval o = (s >>= fun v => Pure.pure (Next.value v) : Sem Next)) (hs : (∀ i, i ∈ out.news → u i = false) → Step P M B O x h u w out s) :
    (∀ i, i ∈ out.news → u i = false) → OpDone P M B O x h u w out o a := fun hf => Step.done hex (hs hf)

theorem array1 {α : Type} {a : Array α} (h : a.size = 1) : ∃ y, a = #[y] := by
  match a, h with
  | ⟨[y]⟩, _ => exact ⟨y, rfl⟩
theorem array2 {α : Type} {a : Array α} (h : a.size = 2) : ∃ y z, a = #[y, z] := by
  match a, h with
  | ⟨[y, z]⟩, _ => exact ⟨y, z, rfl⟩
theorem arrayCons {α : Type} {a : Array α} {n : Nat} (h : a.size = n + 1) : ∃ y l, a = ⟨y :: l⟩ ∧ l.length = n := by
  match a, h with
  | ⟨y :: l⟩, h => exact ⟨y, l, rfl, by simpa using h⟩

theorem core_sound (hcfg : CfgOK P cfg) (rel : HRel M B O x h u w) (hsub : ∀ i b, hr i = some b → h i = some b) {o : Oper} {a : Act} {vals : List IV} (hl : vals.length = o.op.operands.toList.length)
    (hv : ∀ j y, vals[j]? = some y → IVRel x w ((o.op.operands.toList.map a.eval).getD j undef) y) (H : coreK cfg key hr k o.op vals = some r) :
    ∃ out, k out = some r ∧ ((∀ i, i ∈ out.news → u i = false) → OpDone P M B O x h u w out o a) := by
  obtain ⟨dst, op, type, pos, after, guard⟩ := o
  simp only at hl hv H
  have hty := hcfg.ty
  cases op with
  | move X =>
    match vals, hl with
    | [y], _ =>
      have h0 := hv 0 y rfl
      exact ⟨_, H, fun _ => Step.done (s := pure (a.eval X)) rfl (Step.pure rel rfl h0)⟩
  | assign X =>
    match vals, hl with
    | [y], _ =>
      have h0 := hv 0 y rfl
      exact ⟨_, H, fun _ => Step.done (s := pure (a.eval X)) rfl (Step.pure rel rfl h0)⟩
  | pick c A Bo =>
    match vals, hl with
    | [y0, y1, y2], _ =>
      obtain ⟨out, h1, h2⟩ := pickK_sound (P := P) rel (hv 0 y0 rfl) (hv 1 y1 rfl) (hv 2 y2 rfl) H
      refine ⟨out, h1, fun _ => Step.done ?_ h2⟩
      simp [execOp, Op.operands]
  | alloc t =>
    match vals, hl with
    | [], _ =>
      obtain ⟨out, h1, h2⟩ := allocK_sound hty rel H
      exact ⟨out, h1, Step.doneOf rfl h2⟩
  | box t X =>
    match vals, hl with
    | [y], _ =>
      obtain ⟨out, h1, h2⟩ := boxK_sound (P := P) rel (hv 0 y rfl) H
      exact ⟨out, h1, Step.doneOf rfl h2⟩
  | build t parts =>
    have hmap : ((Op.build t parts).operands.toList.map a.eval) = parts.toList.map fun p => a.eval p.2 := by simp [Op.operands, Function.comp_def]
    rw [hmap] at hv
    obtain ⟨out, h1, h2⟩ := buildK_sound (ρ := a.eval) hty rel (by rw [hl]; simp [Op.operands]) hv H
    exact ⟨out, h1, fun _ => Step.done rfl h2⟩
  | buildSlice t len parts =>
    have hmap : ((Op.buildSlice t len parts).operands.toList.map a.eval) = parts.toList.map fun p => a.eval p.2 := by simp [Op.operands, Function.comp_def]
    rw [hmap] at hv
    obtain ⟨out, h1, h2⟩ := buildSliceK_sound (ρ := a.eval) hty rel hsub (by rw [hl]; simp [Op.operands]) hv H
    exact ⟨out, h1, Step.doneOf rfl h2⟩
  | load t X =>
    match vals, hl with
    | [y], _ =>
      obtain ⟨out, h1, h2⟩ := loadK_sound hty rel hsub (hv 0 y rfl) H
      exact ⟨out, h1, fun _ => Step.done rfl h2⟩
  | store t X Y =>
    match vals, hl with
    | [y0, y1], _ =>
      obtain ⟨out, h1, h3, h2⟩ := storeK_sound hty rel hsub (hv 0 y0 rfl) (hv 1 y1 rfl) H
      exact ⟨out, h1, fun _ => StepU.done h3 rfl h2⟩
  | nilCheck X =>
    match vals, hl with
    | [y], _ =>
      have h0 := hv 0 y rfl
      obtain ⟨out, h1, rfl, h3⟩ := nilCheckK_sound h0 H
      refine ⟨_, h1, fun _ => Step.done (s := pure (a.eval X)) ?_ (Step.pure rel rfl h0)⟩
      have e0 : ((Op.nilCheck X).operands.toList.map a.eval).getD 0 undef = a.eval X := rfl
      rw [e0] at h3
      simp only [execOp]
      rcases h3 with ⟨ad, e⟩ | ⟨f, caps, e⟩
      · rw [e]; rfl
      · rw [e]; rfl
  | binOp op xt X Y yt =>
    match vals, hl with
    | [y0, y1], _ =>
      obtain ⟨out, h1, h2⟩ := binK_sound (P := P) hty rel (hv 0 y0 rfl) (hv 1 y1 rfl) X Y H
      exact ⟨out, h1, fun _ => Step.done rfl h2⟩
  | unOp op xt X =>
    match vals, hl with
    | [y], _ =>
      obtain ⟨out, h1, h2⟩ := unK_sound (P := P) rel (hv 0 y rfl) H
      exact ⟨out, h1, fun _ => Step.done rfl h2⟩
  | convert s d X =>
    match vals, hl with
    | [y], _ =>
      obtain ⟨out, h1, h2⟩ := convertK_sound hty rel hsub (hv 0 y rfl) H
      exact ⟨out, h1, fun _ => Step.done rfl h2⟩
  | makeFunc fn first captured =>
    have H0 : makeFuncK k fn first.size vals = some r := H
    have hf : first.size = 0 := by
      unfold makeFuncK at H0
      cases fn with
      | func f => exact (need_some H0).1
      | _ => cases H0
    have hf' : first = #[] := by simpa using hf
    subst hf'
    have hmap : ((Op.makeFunc fn #[] captured).operands.toList.map a.eval) = (captured.map a.eval).toList := by simp [Op.operands]
    rw [hmap] at hv
    obtain ⟨out, h1, h2⟩ := makeFuncK_sound (P := P) (first := #[]) (caps := captured.map a.eval) rel (by rw [hl]; simp [Op.operands]) (fun j c hj => by have := hv j c hj; simpa [List.getD] using this) H0
    exact ⟨out, h1, fun _ => Step.done (by simp [execOp]) h2⟩
  | makeSlice t L C =>
    match vals, hl with
    | [y0, y1], _ =>
      obtain ⟨out, h1, h2⟩ := makeSliceK_sound hty rel (hv 0 y0 rfl) (hv 1 y1 rfl) H
      exact ⟨out, h1, Step.doneOf rfl h2⟩
  | slice t X lo hi mx =>
    cases mx with
    | some m =>
      cases lo with
      | none => simp [coreK] at H
      | some lo =>
        cases hi with
        | none => simp [coreK] at H
        | some hi =>
          match vals, H with
          | y :: rs, H =>
            have hops : (Op.slice t X (some lo) (some hi) (some m)).operands.toList = [X, lo, hi, m] := rfl
            rw [hops] at hv hl
            have H0 : slice3K cfg hr k t y rs = some r := H
            obtain ⟨out, h1, h2⟩ := slice3K_sound (L := a.eval lo) (Z := a.eval hi) (Mx := a.eval m) (A := a.eval X) hty rel hsub (hv 0 y rfl) (by simpa using hl) (fun j z hz => by simpa using hv (j + 1) z (by simpa using hz)) H0
            exact ⟨out, h1, fun _ => Step.done rfl h2⟩
    | none =>
      match vals, H with
      | y :: rs, H =>
        have hops : (Op.slice t X lo hi none).operands.toList = X :: (lo.toList ++ hi.toList) := by cases lo <;> cases hi <;> rfl
        rw [hops] at hv hl
        have H : (bif viewed cfg.more.view y then sliceVK cfg hr k t lo.isSome hi.isSome y rs else sliceK cfg hr k t lo.isSome hi.isSome y rs) = some r := H
        cases hvw : viewed cfg.more.view y with
        | true =>
          rw [hvw] at H
          obtain ⟨out, h1, h2⟩ := sliceVK_sound (lo := lo) (hi := hi) (ρ := a.eval) (A := a.eval X) hty rel hsub (hv 0 y rfl) (by simpa using hl) (fun j z hz => by simpa using hv (j + 1) z (by simpa using hz)) H
          exact ⟨out, h1, fun _ => Step.done rfl h2⟩
        | false =>
        rw [hvw] at H
        have H0 : sliceK cfg hr k t lo.isSome hi.isSome y rs = some r := H
        obtain ⟨out, h1, h2⟩ := sliceK_sound (lo := lo) (hi := hi) (ρ := a.eval) (A := a.eval X) hty rel hsub (hv 0 y rfl) (by simpa using hl) (fun j z hz => by simpa using hv (j + 1) z (by simpa using hz)) H0
        exact ⟨out, h1, fun _ => Step.done rfl h2⟩
  | makeMap t rs =>
    cases rs with
    | some _ => cases vals <;> simp [coreK] at H
    | none =>
      match vals, hl with
      | [], _ =>
        obtain ⟨out, h1, h2⟩ := makeMapK_sound rel H
        exact ⟨out, h1, Step.doneOf rfl h2⟩
  | lookup t X Y ok =>
    match vals, hl with
    | [y0, y1], _ =>
      obtain ⟨out, h1, h2⟩ := lookupK_sound hty rel hsub (hv 0 y0 rfl) (hv 1 y1 rfl) H
      exact ⟨out, h1, fun _ => Step.done rfl h2⟩
  | mapUpdate t X Y Z =>
    match vals, hl with
    | [y0, y1, y2], _ =>
      obtain ⟨out, h1, h3, h2⟩ := mapUpdateK_sound hty rel hsub (hv 0 y0 rfl) (hv 1 y1 rfl) (hv 2 y2 rfl) H
      exact ⟨out, h1, fun _ => StepU.done h3 rfl h2⟩
  | mapEntry t X Y =>
    match vals, hl with
    | [y0, y1], _ =>
      obtain ⟨out, h1, h2⟩ := mapEntryK_sound hty rel hsub (hv 0 y0 rfl) (hv 1 y1 rfl) H
      exact ⟨out, h1, fun _ => Step.done rfl h2⟩
  | entryStore t X Y Z =>
    match vals, hl with
    | [y0, y1, y2], _ =>
      obtain ⟨out, h1, h3, h2⟩ := entryStoreK_sound hty rel hsub (hv 0 y0 rfl) (hv 1 y1 rfl) (hv 2 y2 rfl) H
      exact ⟨out, h1, fun _ => StepU.done h3 rfl h2⟩
  | fieldAddr t X f =>
    match vals, hl with
    | [y], _ =>
      obtain ⟨out, h1, h2⟩ := fieldAddrK_sound hty rel (hv 0 y rfl) H
      exact ⟨out, h1, fun _ => Step.done rfl h2⟩
  | field t X f =>
    match vals, hl with
    | [y], _ =>
      obtain ⟨out, h1, h2⟩ := fieldK_sound hty rel (hv 0 y rfl) H
      exact ⟨out, h1, fun _ => Step.done rfl h2⟩
  | indexAddr t X I =>
    match vals, hl with
    | [y0, y1], _ =>
      obtain ⟨out, h1, h2⟩ := indexAddrK_sound hty rel hsub (hv 0 y0 rfl) (hv 1 y1 rfl) H
      exact ⟨out, h1, fun _ => Step.done rfl h2⟩
  | index t X I =>
    match vals, hl with
    | [y0, y1], _ =>
      obtain ⟨out, h1, h2⟩ := indexK_sound hty rel (hv 0 y0 rfl) (hv 1 y1 rfl) H
      exact ⟨out, h1, fun _ => Step.done rfl h2⟩
  | extract X i =>
    match vals, hl with
    | [y], _ =>
      obtain ⟨out, h1, h2⟩ := extractK_sound (P := P) rel (hv 0 y rfl) H
      exact ⟨out, h1, fun _ => Step.done rfl h2⟩
  | call c =>
    obtain ⟨callee, args, ts⟩ := c
    cases callee with
    | invoke => simp [coreK] at H
    | value f =>
      match vals, hl, H with
      | .c (.fn g cap) :: vs, hl, H =>
        have hops : (Op.call ⟨.value f, args, ts⟩).operands.toList = f :: args.toList := by simp [Op.operands, Call.operands]
        rw [hops] at hv hl
        have H0 : callsK cfg key hr k g (vs ++ cap.map .c) = some r := H
        have hfn := iv_c (hv 0 _ rfl)
        have e0 : ((f :: args.toList).map a.eval).getD 0 undef = a.eval f := rfl
        rw [e0] at hfn
        generalize hF : a.eval f = F at hfn
        cases hfn with
        | fn _ _ caps hcs hcel =>
          have hal : args.size = vs.length := by simpa using hl.symm
          have hargs : ∀ j c, (vs ++ cap.map IV.c)[j]? = some c → IVRel x w ((args.map a.eval ++ caps).getD j undef) c := fun j c hj => by
            rw [getD_ext]
            by_cases hlt : j < vs.length
            · rw [List.getElem?_append_left hlt] at hj
              rw [Array.getElem?_append_left (by simp; omega)]
              have := hv (j + 1) c (by simpa using hj)
              simpa [List.getD] using this
            · rw [List.getElem?_append_right (by omega)] at hj
              rw [Array.getElem?_append_right (by simp; omega), Array.size_map, hal]
              rw [List.getElem?_map] at hj
              cases hc : cap[j - vs.length]? with
              | none => simp [hc] at hj
              | some d =>
                simp [hc] at hj; subst hj
                have := hcel _ _ hc
                rw [getD_ext] at this
                exact .c _ _ this
          rcases callsK_cases H0 with ⟨hov, H1⟩ | H0
          · have hsz : (args.map a.eval ++ caps).size = (vs ++ cap.map IV.c).length := by simp [hal, hcs]
            obtain ⟨h1, h3⟩ := ovlK_sound (us := args.map a.eval ++ caps) rel hsub (hcfg.ovl _ (ovl_mem hov)) hsz hargs H1
            refine ⟨_, h1, fun _ => ?_⟩
            intro next Q hn
            unfold Oper.wp
            have hex : (execOp a.eval ⟨dst, .call ⟨.value f, args, ts⟩, type, pos, after, guard⟩).run P w = .ok (.value (.bool false)) w := by
              simp only [execOp, resolve, Sem.run_bind, hF]
              simp only [Deferred.ofValue, Sem.run_pure, Result.andThen_ok, invoke]
              simpa using h3
            rw [hex, Oper.upon_value]
            exact hn _ w x (Ext.refl _ _) (Fr.refl _ _ _) rel (.c _ _ (.v _ rfl))
          obtain ⟨out, h1, h3, h4⟩ := calls2K_sound (us := args.map a.eval ++ caps) hcfg rel hsub (by simp [hal, hcs]) hargs H0
          refine ⟨out, h1, fun hnw => ?_⟩
          intro next Q hn
          unfold Oper.wp
          have hex : (execOp a.eval ⟨dst, .call ⟨.value f, args, ts⟩, type, pos, after, guard⟩).run P w = .ok (.enter g (args.map a.eval ++ caps)) w := by
            simp only [execOp, resolve, Sem.run_bind, hF]
            simp only [Deferred.ofValue, Sem.run_pure, Result.andThen_ok, invoke]
            have := h3 w
            simpa using this
          rw [hex, Oper.upon_enter]
          refine (h4 hnw).mono ?_
          rintro e w' ⟨v, x', rfl, p1, p2, p3, p4⟩
          exact hn v w' x' p1 p2 p3 p4
    | builtin b =>
      have hops : (Op.call ⟨.builtin b, args, ts⟩).operands.toList = args.toList := by simp [Op.operands, Call.operands]
      rw [hops] at hv hl
      have H0 : builtinK cfg key hr k b ts vals = some r := by
        cases vals <;> exact H
      have hex : ∀ {s : Sem Value}, builtin b ts type (args.map fun | .const _ => true | _ => false) (args.map a.eval) = (s >>= fun v => Pure.pure (Next.value v) : Sem Next) →
          execOp a.eval ⟨dst, .call ⟨.builtin b, args, ts⟩, type, pos, after, guard⟩ = (s >>= fun v => Pure.pure (Next.value v) : Sem Next) := by
        intro s hs
        simp only [execOp, resolve, pure_bind, invoke]
        exact hs
      unfold builtinK at H0
      split at H0
      · rename_i y
        obtain ⟨t, ht, H1⟩ := bindK_some H0
        obtain ⟨X, rfl⟩ := array1 (a := args) (by simpa using hl.symm)
        obtain ⟨out, h1, h2⟩ := lenK_sound (ty := type) (A := a.eval X) hty rel hsub ht (hv 0 y rfl) H1
        exact ⟨out, h1, fun _ => Step.done (hex (by simp [builtin])) h2⟩
      · rename_i y rs
        obtain ⟨v, hm, H1⟩ := bindK_some H0
        obtain ⟨X, l, rfl, hll⟩ := arrayCons (a := args) (n := rs.length) (by simpa using hl.symm)
        obtain ⟨C, hC, hCr⟩ := minmax_sound (P := P) (mx := true) rs (l.map a.eval) y v (a.eval X) (hv 0 y rfl) (by simp [hll]) (fun j z hz => by simpa [List.getD] using hv (j + 1) z (by simpa using hz)) hm
        refine ⟨_, H1, fun _ => Step.done (s := Builtin.max_ ts type (#[a.eval X] ++ (l.map a.eval).toArray)) (hex ?_) (Step.pure rel ?_ hCr)⟩
        · simp [builtin]
        · simp only [Builtin.max_]
          simpa using hC
      · rename_i y rs
        obtain ⟨v, hm, H1⟩ := bindK_some H0
        obtain ⟨X, l, rfl, hll⟩ := arrayCons (a := args) (n := rs.length) (by simpa using hl.symm)
        obtain ⟨C, hC, hCr⟩ := minmax_sound (P := P) (mx := false) rs (l.map a.eval) y v (a.eval X) (hv 0 y rfl) (by simp [hll]) (fun j z hz => by simpa [List.getD] using hv (j + 1) z (by simpa using hz)) hm
        refine ⟨_, H1, fun _ => Step.done (s := Builtin.min_ ts type (#[a.eval X] ++ (l.map a.eval).toArray)) (hex ?_) (Step.pure rel ?_ hCr)⟩
        · simp [builtin]
        · simp only [Builtin.min_]
          simpa using hC
      · rename_i y z
        obtain ⟨t, ht, H1⟩ := bindK_some H0
        obtain ⟨t2, ht2, H2⟩ := bindK_some H1
        obtain ⟨X, Y, rfl⟩ := array2 (a := args) (by simpa using hl.symm)
        cases hvw : isView1 y with
        | true =>
          rw [hvw] at H2
          cases hi1 : isInt1 z with
          | true =>
            rw [hi1] at H2
            obtain ⟨out, h1, h2⟩ := appendZK_sound (ty := type) (A := a.eval X) (Y := a.eval Y) hty rel hsub ht ht2 (hv 0 y rfl) (hv 1 z rfl) H2
            exact ⟨out, h1, fun hnw => Step.done (hex (by simp [builtin])) (h2 hnw)⟩
          | false =>
          rw [hi1] at H2
          obtain ⟨out, h1, h2⟩ := appendVK_sound (ty := type) (A := a.eval X) (Y := a.eval Y) hty rel hsub ht ht2 (hv 0 y rfl) (hv 1 z rfl) H2
          exact ⟨out, h1, fun hnw => Step.done (hex (by simp [builtin])) (h2 hnw)⟩
        | false =>
        rw [hvw] at H2
        obtain ⟨out, h1, h2⟩ := appendK_sound (ty := type) (A := a.eval X) (Y := a.eval Y) hty rel hsub ht ht2 (hv 0 y rfl) (hv 1 z rfl) H2
        exact ⟨out, h1, Step.doneOf (hex (by simp [builtin])) h2⟩
      · rename_i y
        obtain ⟨t, ht, H1⟩ := bindK_some H0
        obtain ⟨X, rfl⟩ := array1 (a := args) (by simpa using hl.symm)
        obtain ⟨out, h1, h2⟩ := clearK_sound (ty := type) (A := a.eval X) hty rel hsub ht (hv 0 y rfl) H1
        exact ⟨out, h1, fun _ => Step.done (hex (by simp [builtin])) h2⟩
      · rename_i y z
        obtain ⟨t, ht, H1⟩ := bindK_some H0
        obtain ⟨t2, ht2, H2⟩ := bindK_some H1
        obtain ⟨X, Y, rfl⟩ := array2 (a := args) (by simpa using hl.symm)
        obtain ⟨out, h1, h2⟩ := copyK_sound (ty := type) (A := a.eval X) (Y := a.eval Y) hty rel hsub ht (hv 0 y rfl) (hv 1 z rfl) H2
        exact ⟨out, h1, fun _ => Step.done (hex (by simp [builtin])) h2⟩
      · rename_i y
        obtain ⟨t, ht, H1⟩ := bindK_some H0
        obtain ⟨X, rfl⟩ := array1 (a := args) (by simpa using hl.symm)
        obtain ⟨out, h1, h2⟩ := capK_sound (ty := type) (A := a.eval X) hty rel ht (hv 0 y rfl) H1
        exact ⟨out, h1, fun _ => Step.done (hex (by simp [builtin])) h2⟩
      · rename_i y z
        obtain ⟨t, ht, H1⟩ := bindK_some H0
        obtain ⟨X, Y, rfl⟩ := array2 (a := args) (by simpa using hl.symm)
        obtain ⟨out, h1, h2⟩ := deleteK_sound (ty := type) (A := a.eval X) (X := a.eval Y) hty rel hsub ht (hv 0 y rfl) (hv 1 z rfl) H1
        exact ⟨out, h1, fun _ => Step.done (hex (by simp [builtin])) h2⟩
      · cases H0
  | _ => cases vals <;> cases H

end
end Go.Proofs.Ytdoilggfajngiaa.VE
