/-
  The run: where the ideal machine comes to an end, the model's comes to its own, with what was told.
-/
import Derived.Test.YtdoilggfajngiaaVR
namespace Go.Proofs.Ytdoilggfajngiaa.VE
open Go Go.RowKit

/-- Told as such a result, by whoever may read as much. -/
def Res (x : Xs) (w : World) (v : Value) (r : IV) : Prop := ∀ y : Xs, (∀ b o, x.ok b o → y.ok b o) → IVRel y w v r

section
variable {P : Program} {cfg : Cfg} {M : Nat → Prop} {B : Nat} {O : Nat → Nat → Prop} {n : Nat} {x : Xs} {σ : St} {a : Act} {w : World} {r : IV × List (Nat × Box)} {h : Nat → Option Box} {u : Nat → Bool}

/-! ### the results -/

def ResC (x : Xs) (w : World) (v : Value) (c : IC) : Prop := ∀ y : Xs, (∀ b o, x.ok b o → y.ok b o) → VRel y w v c

theorem outC_sound {fz : List (Nat × Option Box)} {x' : Xs} (hf : Frozen x w h fz x') {c : IC} {v : Value} (hp : ∀ p, p ∈ freezes h c → p ∈ fz) (hv : VRel x w v c) : ResC x' w v (finVals.out (settle h c)) := by
  intro y hy
  cases c with
  | v u => cases hv with | v _ h1 => exact .v _ h1
  | junk => exact .junk _
  | view => exact .junk _
  | mref => exact .junk _
  | sl t xs =>
    have := hv.ext hf.ext
    cases this with
    | sl _ _ a cap rd hcap hnil hcell hel =>
      exact .sl t xs a cap rd hcap hnil (fun i hi j hj => by
        obtain ⟨ad, p1, p2, p3, p4⟩ := hcell i hi j hj
        exact ⟨ad, p1, p2, hy _ _ p3, p4⟩) fun i e hi j c hc => by
          have h1 := hel i e hi j c hc
          have hfree := enc_free t e c (List.mem_of_getElem? hc)
          exact elFree hy t e c (List.mem_of_getElem? hc) h1
  | sref id =>
    simp only [settle]
    cases hb : h id with
    | none => exact .junk _
    | some b =>
      cases b with
      | cells ty cs => exact .junk _
      | ice ty cs => exact .junk _
      | row => exact .junk _
      | map => exact .junk _
      | arr ty t xs fr =>
        have h2 := hf.tell id ty t xs fr hb (by cases fr with | true => exact .inr rfl | false => exact .inl (hp _ (by simp [freezes, hb]))) v hv
        show VRel y w v (.sl t xs)
        cases h2 with
        | sl _ _ a cap rd hcap hnil hcell hel =>
          exact .sl t xs a cap rd hcap hnil (fun i hi j hj => by
            obtain ⟨ad, p1, p2, p3, p4⟩ := hcell i hi j hj
            exact ⟨ad, p1, p2, hy _ _ p3, p4⟩) fun i e hi j c hc => elFree hy t e c (List.mem_of_getElem? hc) (hel i e hi j c hc)
  | ref => exact .junk _
  | eref => exact .junk _
  | snap => exact .junk _
  | fn => exact .junk _
  | own => exact .junk _
  | anew => exact .junk _
  | emp => exact .junk _
  | psnap => exact .junk _
where
  elFree {x' y : Xs} {w : World} (hy : ∀ b o, x'.ok b o → y.ok b o) : ∀ (t : Ty) (e : El t) (c : IC), c ∈ enc t e → ∀ {v : Value}, VRel x' w v c → VRel y w v c
    | .int _, _, _, hc, v, hv => by simp [enc] at hc; subst hc; cases hv with | v _ h1 => exact .v _ h1
    | .bool, _, _, hc, v, hv => by simp [enc] at hc; subst hc; cases hv with | v _ h1 => exact .v _ h1
    | .str, _, _, hc, v, hv => by simp [enc] at hc; subst hc; cases hv with | v _ h1 => exact .v _ h1
    | .sl t, _, _, hc, v, hv => by
      simp [enc] at hc; subst hc
      cases hv with
      | sl _ _ a cap rd hcap hnil hcell hel =>
        exact .sl t _ a cap rd hcap hnil (fun i hi j hj => by
          obtain ⟨ad, p1, p2, p3, p4⟩ := hcell i hi j hj
          exact ⟨ad, p1, p2, hy _ _ p3, p4⟩) fun i e hi j c hc => elFree hy t e c (List.mem_of_getElem? hc) (hel i e hi j c hc)
    | .prod a b, e, c, hc, v, hv => by
      simp only [enc, List.mem_append] at hc
      exact hc.elim (fun h => elFree hy a _ c h hv) (fun h => elFree hy b _ c h hv)
    | .addr, _, _, hc, v, hv => by simp [enc] at hc; subst hc; cases hv with | v _ h1 => exact .v _ h1
    | .pint _, _, _, hc, v, hv => by
      simp [enc] at hc; subst hc
      cases hv with
      | psnap _ _ b base rd hfree hcell hel =>
        refine .psnap _ 0 b base rd hfree (fun j hj => ⟨hy _ _ (hcell j hj).1, (hcell j hj).2⟩) fun j c hj => ?_
        have h1 := hel j c hj
        cases j with
        | zero =>
          simp at hj; subst hj
          generalize rd 0 = V at h1
          cases h1 with | v _ h2 => exact .v _ h2
        | succ j => simp at hj

theorem settleFin_sound {fz : List (Nat × Option Box)} {x' : Xs} (hf : Frozen x w h fz x') {c : IV} {v : Value} (hp : ∀ p, p ∈ VE.freezeAll h (cellsOf c) → p ∈ fz) (hv : IVRel x w v c) : Res x' w v (finVals.settleFin h c) := by
  intro y hy
  cases hv with
  | c _ c hv => exact .c _ _ (outC_sound hf (fun p hp' => hp p (mem_freezeAll.2 ⟨c, by simp [cellsOf], hp'⟩)) hv y hy)
  | agg us cs hs hel =>
    refine .agg us _ (by simpa using hs) fun j c hc => ?_
    rw [List.getElem?_map] at hc
    cases hj : cs[j]? with
    | none => simp [hj] at hc
    | some d =>
      simp [hj] at hc; subst hc
      exact outC_sound hf (fun p hp' => hp p (mem_freezeAll.2 ⟨d, List.mem_of_getElem? hj, hp'⟩)) (hel j d hj) y hy
  | tup => exact .c _ _ (.junk _)

def resF (a : Act) : ResultVar → Sem Value
  | .tmp t => pure (a.tmps.getD t undef)
  | .cell ad t => do loadVar t (← asAddr (a.tmps.getD ad undef))

theorem mapM_array {α β : Type} (f : α → Sem β) (xs : Array α) {l : List β} (H : (xs.toList.mapM f).run P w = .ok l w) : (xs.mapM f).run P w = .ok l.toArray w := by
  rw [← Array.toList_mapM, map_eq_pure_bind, Sem.run_bind] at H
  cases hr : (xs.mapM f).run P w with
  | ok arr w' =>
    rw [hr] at H
    simp only [Result.andThen_ok, Sem.run_pure] at H
    injection H with h1 h2
    subst h2
    rw [← h1]
  | halt e w' => rw [hr] at H; cases H

theorem finVals_sound (hcfg : CfgOK P cfg) (rel : Rel M B O n x σ a w) : ∀ (res : List ResultVar) {l : List IV}, finVals cfg σ res = some l →
    ∃ (raws : List IV) (vs : List Value), l = raws.map (finVals.settleFin σ.h) ∧ vs.length = raws.length ∧ (∀ j raw, raws[j]? = some raw → IVRel x w (vs.getD j undef) raw) ∧ (res.mapM (resF a)).run P w = .ok vs w
  | [], l, H => by
    simp only [finVals, Option.some.injEq] at H
    subst H
    exact ⟨[], [], rfl, rfl, fun j raw hj => (by simp at hj), rfl⟩
  | .tmp t :: res, l, H => by
    simp only [finVals] at H
    cases hr : finVals cfg σ res with
    | none => rw [hr] at H; cases H
    | some l' =>
      rw [hr] at H
      simp only [Option.map_some, Option.some.injEq] at H
      subst H
      obtain ⟨raws, vs, e1, e2, e3, e4⟩ := finVals_sound hcfg rel res hr
      refine ⟨σ.t t :: raws, a.tmps.getD t undef :: vs, by rw [e1]; rfl, by simp [e2], fun j raw hj => ?_, ?_⟩
      · cases j with
        | zero => simp at hj; subst hj; exact rel.tmps t
        | succ j => exact e3 j raw (by simpa using hj)
      · rw [List.mapM_cons, Sem.run_bind]
        simp only [resF, Sem.run_pure, Result.andThen_ok, Sem.run_bind]
        rw [e4]
        rfl
  | .cell ad t :: res, l, H => by
    simp only [finVals] at H
    cases hi : cfg.ty t with
    | none => rw [hi] at H; cases H
    | some i =>
      rw [hi] at H
      simp only at H
      cases hc : readAt σ.h i.size (σ.t ad) with
      | none => rw [hc] at H; cases H
      | some cs =>
        rw [hc] at H
        simp only at H
        cases hone : (!i.d.agg && !(Nat.beq i.size 1)) with
        | true => rw [hone] at H; cases H
        | false =>
        rw [hone] at H
        simp only [cond_false] at H
        cases hr : finVals cfg σ res with
        | none => rw [hr] at H; cases H
        | some l' =>
          rw [hr] at H
          simp only [Option.map_some, Option.some.injEq] at H
          subst H
          obtain ⟨raws, vs, e1, e2, e3, e4⟩ := finVals_sound hcfg rel res hr
          obtain ⟨ad', us, hA, hsp, hlen, hrow⟩ := readAt_sound rel.heap (fun _ _ h => h) (rel.tmps ad) hc
          have h1 : i.d.agg = false → i.size = 1 := fun ha => by
            rw [ha] at hone
            simp only [Bool.not_false, Bool.true_and, Bool.not_eq_false'] at hone
            exact Nat.eq_of_beq_eq_true hone
          have hload : (loadVar t ad').run P w = .ok (if i.d.agg then .agg us.toArray else us.getD 0 undef) w := by
            have hT := hcfg.ty _ _ hi
            simp only [loadVar, Sem.run_bind, Result.andThen_ok, hT.runAgg]
            cases hagg : i.d.agg with
            | true =>
              have h2 := run_loadCells_list (P := P) w ad' us hrow.cell
              have h3 : us.length = i.size := by rw [hrow.len, hlen]
              rw [h3] at h2
              simp [hT.runSize, h2]
            | false =>
              have h2 := h1 hagg
              have hl : us.length = 1 := by rw [hrow.len, hlen, h2]
              match us, hl with
              | [v], _ =>
                have h3 := hrow.cell 0 v rfl
                have : ad'.add 0 = ad' := by simp [Addr.add]
                rw [this] at h3
                simp [h3]
          refine ⟨mkIV i.d.agg cs :: raws, (if i.d.agg then .agg us.toArray else us.getD 0 undef) :: vs, by rw [e1]; rfl, by simp [e2], fun j raw hj => ?_, ?_⟩
          · cases j with
            | zero => simp at hj; subst hj; exact ivOfCells hrow.len hrow.rel _ fun ha => by rw [hlen]; exact h1 ha
            | succ j => exact e3 j raw (by simpa using hj)
          · rw [List.mapM_cons, Sem.run_bind]
            have h0 : (resF a (.cell ad t)).run P w = .ok (if i.d.agg then .agg us.toArray else us.getD 0 undef) w := by
              simp only [resF, hA, asAddr, Sem.run_bind, Sem.run_pure, Result.andThen_ok, hload]
            rw [h0]
            simp only [Result.andThen_ok, Sem.run_bind]
            rw [e4]
            rfl

theorem rawVals_sound (hcfg : CfgOK P cfg) (rel : Rel M B O n x σ a w) : ∀ (res : List ResultVar) {l : List IV}, rawVals cfg σ res = some l →
    ∃ (vs : List Value), vs.length = l.length ∧ (∀ j raw, l[j]? = some raw → IVRel x w (vs.getD j undef) raw) ∧ (res.mapM (resF a)).run P w = .ok vs w
  | [], l, H => by
    simp only [rawVals, Option.some.injEq] at H
    subst H
    exact ⟨[], rfl, fun j raw hj => (by simp at hj), rfl⟩
  | .tmp t :: res, l, H => by
    simp only [rawVals] at H
    cases hr : rawVals cfg σ res with
    | none => rw [hr] at H; cases H
    | some l' =>
      rw [hr] at H
      simp only [Option.map_some, Option.some.injEq] at H
      subst H
      obtain ⟨vs, e2, e3, e4⟩ := rawVals_sound hcfg rel res hr
      refine ⟨a.tmps.getD t undef :: vs, by simp [e2], fun j raw hj => ?_, ?_⟩
      · cases j with
        | zero => simp at hj; subst hj; exact rel.tmps t
        | succ j => exact e3 j raw (by simpa using hj)
      · rw [List.mapM_cons, Sem.run_bind]
        simp only [resF, Sem.run_pure, Result.andThen_ok, Sem.run_bind]
        rw [e4]
        rfl
  | .cell ad t :: res, l, H => by
    simp only [rawVals] at H
    cases hi : cfg.ty t with
    | none => rw [hi] at H; cases H
    | some i =>
      rw [hi] at H
      simp only at H
      cases hc : readAt σ.h i.size (σ.t ad) with
      | none => rw [hc] at H; cases H
      | some cs =>
        rw [hc] at H
        simp only at H
        cases hone : (!i.d.agg && !(Nat.beq i.size 1)) with
        | true => rw [hone] at H; cases H
        | false =>
        rw [hone] at H
        simp only [cond_false] at H
        cases hr : rawVals cfg σ res with
        | none => rw [hr] at H; cases H
        | some l' =>
          rw [hr] at H
          simp only [Option.map_some, Option.some.injEq] at H
          subst H
          obtain ⟨vs, e2, e3, e4⟩ := rawVals_sound hcfg rel res hr
          obtain ⟨ad', us, hA, hsp, hlen, hrow⟩ := readAt_sound rel.heap (fun _ _ h => h) (rel.tmps ad) hc
          have h1 : i.d.agg = false → i.size = 1 := fun ha => by
            rw [ha] at hone
            simp only [Bool.not_false, Bool.true_and, Bool.not_eq_false'] at hone
            exact Nat.eq_of_beq_eq_true hone
          have hload : (loadVar t ad').run P w = .ok (if i.d.agg then .agg us.toArray else us.getD 0 undef) w := by
            have hT := hcfg.ty _ _ hi
            simp only [loadVar, Sem.run_bind, Result.andThen_ok, hT.runAgg]
            cases hagg : i.d.agg with
            | true =>
              have h2 := run_loadCells_list (P := P) w ad' us hrow.cell
              have h3 : us.length = i.size := by rw [hrow.len, hlen]
              rw [h3] at h2
              simp [hT.runSize, h2]
            | false =>
              have h2 := h1 hagg
              have hl : us.length = 1 := by rw [hrow.len, hlen, h2]
              match us, hl with
              | [v], _ =>
                have h3 := hrow.cell 0 v rfl
                have : ad'.add 0 = ad' := by simp [Addr.add]
                rw [this] at h3
                simp [h3]
          refine ⟨(if i.d.agg then .agg us.toArray else us.getD 0 undef) :: vs, by simp [e2], fun j raw hj => ?_, ?_⟩
          · cases j with
            | zero => simp at hj; subst hj; exact ivOfCells hrow.len hrow.rel _ fun ha => by rw [hlen]; exact h1 ha
            | succ j => exact e3 j raw (by simpa using hj)
          · rw [List.mapM_cons, Sem.run_bind]
            have h0 : (resF a (.cell ad t)).run P w = .ok (if i.d.agg then .agg us.toArray else us.getD 0 undef) w := by
              simp only [resF, hA, asAddr, Sem.run_bind, Sem.run_pure, Result.andThen_ok, hload]
            rw [h0]
            simp only [Result.andThen_ok, Sem.run_bind]
            rw [e4]
            rfl

theorem outC_tell {v : Value} {c : IC} (hv : VRel x w v c) : VRel x w v (outC c) := by
  cases c <;> first | exact hv | exact .junk _
theorem outV_tell {v : Value} {c : IV} (hv : IVRel x w v c) : IVRel x w v (outV c) := by
  cases hv with
  | c u c h => exact .c _ _ (outC_tell h)
  | agg us cs hs h =>
    refine .agg _ _ (by simpa using hs) fun j c hc => ?_
    rw [List.getElem?_map] at hc
    cases hj : cs[j]? with
    | none => simp [hj] at hc
    | some d =>
      simp [hj] at hc; subst hc
      exact outC_tell (h j d hj)
  | tup => exact .c _ _ (.junk _)

theorem keepTmps_fst {t : Nat → IV} : ∀ (l : List (Nat × LK)) {ts : List (Nat × IV)} {bs : List Ent} {ids : List Nat}, keepTmps h t l = some (ts, bs, ids) → ts.map (·.1) = l.map (·.1)
  | [], ts, bs, ids, H => by
    simp only [keepTmps, Option.some.injEq, Prod.mk.injEq] at H
    obtain ⟨rfl, rfl, rfl⟩ := H
    rfl
  | (i, lk) :: l, ts, bs, ids, H => by
    simp only [keepTmps] at H
    split at H
    · rename_i a b c a' b' c' h1 h2
      simp only [Option.some.injEq, Prod.mk.injEq] at H
      obtain ⟨rfl, rfl, rfl⟩ := H
      simp only [List.map_cons, keepTmps_fst l h2]
    · cases H

theorem slots_fst : ∀ (i : Nat) (l : List LK) (j : Nat), j < l.length → ((slots i l).map (·.1))[j]? = some (900 + (i + j))
  | i, [], j, h => by simp at h
  | i, a :: l, j, h => by
    cases j with
    | zero => rfl
    | succ j =>
      have := slots_fst (i + 1) l j (by simpa using h)
      simp only [slots, List.map_cons, List.getElem?_cons_succ, this]
      congr 1; omega

theorem slots_length : ∀ (i : Nat) (l : List LK), (slots i l).length = l.length
  | _, [] => rfl
  | i, a :: l => by simp [slots, slots_length (i + 1) l]

theorem one_or_tup {y : Xs} {vs : List Value} {cs : List IV} (hl : vs.length = cs.length) (h : ∀ j c, cs[j]? = some c → IVRel y w (vs.getD j undef) c) :
    IVRel y w (if h : vs.toArray.size = 1 then vs.toArray[0] else .tuple vs.toArray) (oneOrTup cs) := by
  match cs, hl, h with
  | [c], hl, h =>
    obtain ⟨v, hv⟩ := List.length_eq_one_iff.1 (show vs.length = 1 from hl)
    subst hv
    show IVRel y w _ c
    simpa using h 0 c rfl
  | [], hl, h =>
    have : vs = [] := by simpa using hl
    subst this
    exact .tup _ _ rfl fun j c hc => by simp at hc
  | c :: d :: cs, hl, h =>
    have hne : ¬ vs.toArray.size = 1 := by simp [hl]
    rw [dif_neg hne]
    refine .tup _ _ (by simpa using hl) fun j e he => ?_
    have := h j e he
    simpa [Array.getD_eq_getD_getElem?, List.getD] using this

/-- The end of a body that hands boxes back. -/
theorem finO_sound (hcfg : CfgOK P cfg) (rel : Rel M B O n x σ a w) {fn : Func} {F : List LK × List (Nat × List LK)} (H : finO cfg fn.results.toList σ F = some r) :
    ∃ v x' u', (results fn a.tmps).run P w = .ok v w ∧ Ext0 x w x' w ∧ HRel M B O x' (ofB r.2) u' w ∧ IVRel x' w v r.1 ∧ ∀ i, i ∈ cfg.more.objs → x'.g i = x.g i := by
  unfold finO at H
  split at H
  · rename_i raws hraw
    obtain ⟨vs, e2, e3, e4⟩ := rawVals_sound hcfg rel _ hraw
    have hres : (results fn a.tmps).run P w = .ok (if h : vs.toArray.size = 1 then vs.toArray[0] else .tuple vs.toArray) w := by
      show (fn.results.mapM (resF a) >>= fun vs => _).run P w = _
      rw [Sem.run_bind, mapM_array _ _ e4]
      rfl
    simp only at H
    split at H
    · rename_i ts b1 l1 b2 l2 h1 h2
      generalize hbs : b1 ++ b2 = bs at H
      generalize hls : (l1 ++ l2) ++ cfg.more.objs = ls at H
      cases hc : (Nat.beq F.1.length raws.length && nodup (bs.map (·.1)) && nodup (oldsOf bs) && (ls.all (fun i => bs.any (keptAs i)) && bs.all fun e => outB e.2.2)) with
      | false => rw [hc] at H; cases H
      | true =>
        rw [hc] at H
        simp only [cond_true] at H
        obtain ⟨hcut, H⟩ := cutK_some H
        simp only [Option.some.injEq] at H
        subst H
        simp only [Bool.and_eq_true] at hc
        obtain ⟨⟨⟨n0, n1⟩, n2⟩, n3, n4⟩ := hc
        have m1 := nodup_spec n1
        have m2 := nodup_spec n2
        have hlen := Nat.eq_of_beq_eq_true n0
        obtain ⟨x1, f1, r1, _, g1⟩ := HRel.freezeAll (keepFz { σ with t := fun i => raws.getD (i - 900) (.c .junk) } ⟨slots 0 F.1, F.2⟩) x σ.h rel.heap fun p hp => keepFz_fz (σ := { σ with t := fun i => raws.getD (i - 900) (.c .junk) }) hp
        have fit : Fit x1 (keptX x1 bs) bs ls := keptFit m1 n3
        have fit0 : Fit x1 (keptX x1 bs) (b1 ++ b2) (l1 ++ l2) := by
          rw [hbs]
          exact ⟨fit.toNamed, fit.ent, fun i hi => fit.ids i (by rw [← hls]; exact List.mem_append_left _ hi)⟩
        obtain ⟨t1, t2⟩ := keepTmps_sound (T := fun i => vs.getD (i - 900) undef) r1 (fun i => by
          show IVRel x1 w _ (raws.getD (i - 900) (.c .junk))
          cases hi : raws[i - 900]? with
          | none =>
            rw [show raws.getD (i - 900) (.c .junk) = .c .junk by simp [List.getD, hi]]
            exact .c _ _ (.junk _)
          | some c =>
            rw [show raws.getD (i - 900) (.c .junk) = c by simp [List.getD, hi]]
            exact (e3 _ c hi).ext f1) _ hcut h1 fit0.left
        have t3 := keepBoxes_sound r1 _ h2 fit0.right
        have good : ∀ e, e ∈ bs → GoodE x1 (keptX x1 bs) _ w e := fun e he => by
          rw [← hbs] at he
          exact (List.mem_append.1 he).elim (t2 e) (t3 e)
        have hk := r1.kept m1 m2 good
        refine ⟨_, keptX x1 bs, _, hres, ⟨f1.ok, f1.okp, fun _ _ _ => rfl⟩, by show HRel M B O _ (ofB (bs.map fun e => (e.1, e.2.2))) _ w; rw [ofB_ents]; exact hk, ?_, fun i hi => ?_⟩
        · have hts := keepTmps_fst _ h1
          have htl : ts.length = raws.length := by
            have := congrArg List.length hts
            simp only [List.length_map, slots_length] at this
            rw [this, hlen]
          refine one_or_tup (by simp [e2, htl]) fun j c hc => ?_
          rw [List.getElem?_map] at hc
          cases hj : ts[j]? with
          | none => simp [hj] at hc
          | some p =>
            simp [hj] at hc; subst hc
            have hlt : j < F.1.length := by
              have := (List.getElem?_eq_some_iff.1 hj).1
              omega
            have h5 := slots_fst 0 F.1 j hlt
            rw [← hts, List.getElem?_map, hj] at h5
            simp only [Option.map_some, Option.some.injEq] at h5
            have := t1 p (List.mem_of_getElem? hj)
            rw [h5, Nat.zero_add, Nat.add_sub_cancel_left] at this
            exact outV_tell this
        · exact (fit.ids i (by rw [← hls]; exact List.mem_append_right _ hi)).trans (by rw [g1])
    · cases H
  · cases H

/-- What a body's end comes to. -/
def EndOf (cfg : Cfg) (M : Nat → Prop) (B : Nat) (O : Nat → Nat → Prop) (r : IV × List (Nat × Box)) (x : Xs) (w : World) (v : Value) : Prop :=
  match cfg.more.fin with
  | none => (∀ k o, x.ok k o → k < w.heap.size) ∧ (∀ k o, x.ok k o → O k o ∨ B ≤ k ∨ M k) ∧ Res x w v r.1 ∧ r.2 = []
  | some _ => (∃ u, HRel M B O x (ofB r.2) u w) ∧ IVRel x w v r.1

theorem finP_sound (hcfg : CfgOK P cfg) (rel : Rel M B O n x σ a w) {fn : Func} (H : (match finVals cfg σ fn.results.toList with | some [x] => some (x, []) | some l => some (.tup l, []) | none => none) = some r) :
    ∃ v x', (results fn a.tmps).run P w = .ok v w ∧ Ext0 x w x' w ∧ (∀ i, x'.g i = x.g i) ∧ (∀ b o, x'.ok b o → b < w.heap.size) ∧ (∀ b o, x'.ok b o → O b o ∨ B ≤ b ∨ M b) ∧ Res x' w v r.1 ∧ r.2 = [] := by
  cases hl : finVals cfg σ fn.results.toList with
  | none => rw [hl] at H; cases H
  | some l =>
    rw [hl] at H
    obtain ⟨raws, vs, e1, e2, e3, e4⟩ := finVals_sound hcfg rel _ hl
    have hres : (results fn a.tmps).run P w = .ok (if h : vs.toArray.size = 1 then vs.toArray[0] else .tuple vs.toArray) w := by
      show (fn.results.mapM (resF a) >>= fun vs => _).run P w = _
      rw [Sem.run_bind, mapM_array _ _ e4]
      rfl
    obtain ⟨x', hfz, rel'⟩ := rel.heap.frozen (raws.foldr (fun c r => VE.freezeAll σ.h (cellsOf c) ++ r) []) (fun p hp => by
      obtain ⟨c, _, hc⟩ := (mem_foldr_app _ _ _).1 hp
      obtain ⟨d, _, hd⟩ := mem_freezeAll.1 hc
      exact freezes_fz (fun _ _ h => h) hd)
    have hone : ∀ j raw, raws[j]? = some raw → Res x' w (vs.getD j undef) (finVals.settleFin σ.h raw) := fun j raw hj =>
      settleFin_sound hfz (fun p hp => (mem_foldr_app _ _ _).2 ⟨raw, List.mem_of_getElem? hj, hp⟩) (e3 j raw hj)
    refine ⟨_, x', hres, hfz.ext.zero, fun i => by rw [hfz.g], fun b o hb => rel'.old b o (rel'.okp b o hb), rel'.okb, ?_⟩
    have htup : ∀ l : List IV, l = raws.map (finVals.settleFin σ.h) → vs.toArray.size ≠ 1 → Res x' w (if h : vs.toArray.size = 1 then vs.toArray[0] else .tuple vs.toArray) (.tup l) := fun l hl hne y hy => by
      rw [dif_neg hne]
      refine .tup _ _ (by simp [hl, e2]) fun j c hc => ?_
      rw [hl, List.getElem?_map] at hc
      cases hj : raws[j]? with
      | none => simp [hj] at hc
      | some raw =>
        simp [hj] at hc; subst hc
        have := hone j raw hj y hy
        simpa [Array.getD_eq_getD_getElem?, List.getD] using this
    split at H
    · rename_i z hz
      simp only [Option.some.injEq] at H hz
      subst H
      rw [hz] at e1
      have hlen : raws.length = 1 := by simpa using (congrArg List.length e1).symm
      obtain ⟨raw, hraw⟩ := List.length_eq_one_iff.1 hlen
      obtain ⟨v, hv⟩ := List.length_eq_one_iff.1 (e2.trans hlen)
      refine ⟨?_, rfl⟩
      have h1 := hone 0 raw (by rw [hraw]; rfl)
      rw [hraw] at e1
      simp only [List.map_cons, List.map_nil, List.cons.injEq, and_true] at e1
      rw [← e1] at h1
      subst hv
      simpa using h1
    · rename_i l' hne hl'
      simp only [Option.some.injEq] at H hl'
      subst H; subst hl'
      refine ⟨htup l e1 fun h => ?_, rfl⟩
      have : l.length = 1 := by rw [e1, List.length_map, ← e2]; simpa using h
      match l, this with
      | [z], _ => exact hne z rfl
    · cases H

theorem fin_sound (hcfg : CfgOK P cfg) (rel : Rel M B O n x σ a w) {fn : Func} (H : fin cfg fn.results.toList σ = some r) :
    ∃ v x', (results fn a.tmps).run P w = .ok v w ∧ Ext0 x w x' w ∧ (∀ i, i ∈ cfg.more.objs → x'.g i = x.g i) ∧ EndOf cfg M B O r x' w v := by
  unfold fin at H
  unfold EndOf
  split at H
  · rename_i F hF
    obtain ⟨v, x', u', h1, h2, h3, h4, h5⟩ := finO_sound hcfg rel H
    rw [hF]
    exact ⟨v, x', h1, h2, h5, ⟨u', h3⟩, h4⟩
  · rename_i hF
    obtain ⟨v, x', h1, h2, h3, h4⟩ := finP_sound hcfg rel H
    rw [hF]
    exact ⟨v, x', h1, h2, fun i _ => h3 i, h4⟩

end
end Go.Proofs.Ytdoilggfajngiaa.VE
