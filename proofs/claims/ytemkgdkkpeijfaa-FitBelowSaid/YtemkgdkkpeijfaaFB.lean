/-
  Who may be picked: each function's contract.
-/
import Derived.Test.YtemkgdkkpeijfaaSL
namespace Go.Proofs.Ytemkgdkkpeijfaa
open Go VE

theorem fits_ints {l : List Int} (h : l.length * 8 ≤ reachBytes) : fits (.sl (.int .i64)) l = true := fits_sl (t := .int .i64) h fun _ _ => rfl
theorem noP_filter (p : El TStatus → Bool) (l : List (El TStatus)) : (l.filter fun s => !noP p s) = l.filter p := by
  refine List.filter_congr fun s _ => ?_
  unfold noP; rw [Bool.not_not]

theorem indexI_ok : indexI.OK := indexI.mk SpecsOK.nil fun l p hx => by
  have h : (fits (.sl (.int .i64)) l && (true && true)) = true := hx
  simp only [Bool.and_eq_true] at h
  have hb := fits_len' (n := 8) h.1 rfl
  have hr := reach_lt
  refine ⟨l.length + 2, ?_⟩
  rw [indexI.start]
  exact loop_ix (t := .int .i64) l (intEq p) (fun m k => indexI.l1 m l p l.length k) (fun i => some (vi .i64 i, [])) (fun m k hk => by
    rw [indexI.s1, cond_dt (by omega), test_d (by omega), test_d (by omega), w64s (by omega), toNat_cast]; rfl) (fun m => by rw [indexI.s1, cond_df (by omega)]; rfl)
theorem contI_ok : contI.OK := contI.mk (indexI_ok.cons' SpecsOK.nil) fun l p hx => ⟨1, by
  rw [contI.start, test_true (show indexI.pre (l, p, ()) = true from hx)]
  exact congrArg (fun b => some (vb b, [])) (VE.ixOf_any (intEq p) l)⟩

theorem pickAO_ok : pickAO.OK := pickAO.mk (allF_ok.cons' (copy_ok.cons' SpecsOK.nil)) fun l u hx => by
  have hl : fits (.sl TStatus) l = true := by
    have h : (fits (.sl TStatus) l && true) = true := hx
    simpa using h
  have hb := stat_len hl
  have hr := reach_lt
  refine ⟨l.length + 2, ?_⟩
  rw [pickAO.start]
  have hres : pickAO.back (l, u, ()) = [(115326, .arr 43 TStatus l false)] := rfl
  rw [hres]
  have h := loop_fm (t := TStatus) l (fun s => some s) (fun m out k => pickAO.l1 m l l.length k out) (fun out => some (.c (.sref 115326), [(115326, .arr 43 TStatus out false)])) (fun m k out hk ho => ?_) (fun m out => ?_) l.length 0 [] (by omega) (Nat.zero_le _)
  · refine h.trans ?_
    rw [List.drop_zero, List.filterMap_some]; rfl
  · have hf := fits_rd hl hk
    rw [pickAO.s1, cond_dt (by omega), test_d (by omega), test_d (by omega), w64s (by omega), toNat_cast, test_true (by simpa [allF.pre] using hf), test_true (by simpa [copy.pre] using fits_stat hf), test_d (lim200 hb (by omega))]
  · rw [pickAO.s1, cond_df (by omega)]
theorem copySO_ok : copySO.OK := copySO.mk SpecsOK.nil (pickAO_ok.cons' .nil) fun l hx => ⟨1, by
  rw [copySO.start, test_true (show pickAO.pre (l, (), ()) = true from hx)]; rfl⟩

theorem ofF_ok : ofF.OK := ofF.mk (has_ok.cons' SpecsOK.nil) fun s c hx => ⟨1, by
  have h : (fits TStatus s && (fits (.sl TPair) c && true)) = true := hx
  simp only [Bool.and_eq_true] at h
  rw [ofF.start, test_true (show has.pre (s.1, c, ()) = true by
    show (fits THost s.1 && (fits (.sl TPair) c && true)) = true
    rw [fits_stat h.1, h.2.1]; rfl)]
  rfl⟩
theorem grF_ok : grF.OK := grF.mk SpecsOK.nil fun s c _ => ⟨1, by rw [grF.start]; rfl⟩
theorem woF_ok : woF.OK := woF.mk (contI_ok.cons' SpecsOK.nil) fun s c hx => ⟨1, by
  have h : (fits TStatus s && (fits (.sl (.int .i64)) c && true)) = true := hx
  simp only [Bool.and_eq_true] at h
  rw [woF.start, test_true (show contI.pre (c, s.1.1, ()) = true by
    show (fits (.sl (.int .i64)) c && (true && true)) = true
    rw [h.2.1]; rfl)]
  rfl⟩
theorem beF_ok : beF.OK := beF.mk SpecsOK.nil fun s c _ => ⟨1, by rw [beF.start]; rfl⟩

/-! ### Of -/

theorem nOf_ok : nOf.OK := nOf.mk (ofF_ok.cons' SpecsOK.nil) fun s x hx => ⟨1, by
  rw [nOf.start, test_true (show ofF.pre (s, x.1, ()) = true from hx)]; rfl⟩
theorem jxOf_ok : jxOf.OK := jxOf.mk (nOf_ok.cons' SpecsOK.nil) fun l x hx => by
  have h : (fits (.sl TStatus) l && (fits (.sl TPair) x.1 && true)) = true := hx
  rw [Bool.and_eq_true] at h
  obtain ⟨hl, hc⟩ := h
  have hb := stat_len hl
  have hr := reach_lt
  refine ⟨l.length + 2, ?_⟩
  rw [jxOf.start]
  exact loop_ix (t := TStatus) l (noP (pOf x.1)) (fun m k => jxOf.l1 m l x.1 l.length k) (fun i => some (vi .i64 i, [])) (fun m k hk => by
    rw [jxOf.s1, cond_dt (by omega), test_d (by omega), test_d (by omega), w64s (by omega), toNat_cast, test_true (show nOf.pre (rdEl TStatus l k, (x.1, ()), ()) = true by
      show (fits TStatus (rdEl TStatus l k) && (fits (.sl TPair) x.1 && true)) = true
      rw [fits_rd hl hk]; exact hc)]; rfl) (fun m => by rw [jxOf.s1, cond_df (by omega)]; rfl)
theorem deOf_ok : deOf.OK := deOf.mk (nOf_ok.cons' (jxOf_ok.cons' SpecsOK.nil)) fun l x hx => by
  have h : (fits (.sl TStatus) l && (fits (.sl TPair) x.1 && true)) = true := hx
  rw [Bool.and_eq_true] at h
  obtain ⟨hl, hc⟩ := h
  have hb := stat_len hl
  have hr := reach_lt
  have hres : deOf.back (l, x, ()) = [(115326, .arr 43 TStatus (l.filter (pOf x.1)) false)] := rfl
  have hpre : jxOf.pre (l, (x.1, ()), ()) = true := hx
  rcases VE.ixOf_cases (noP (pOf x.1)) l with ⟨h1, h2, _⟩ | ⟨j, h1, h2, _, h4, _⟩
  · rw [noP_filter] at h2
    have h1 : ixOf (noP (pOf x.1)) l = -1 := h1
    exact ⟨1, by rw [deOf.start, hres, test_true hpre, h1, cond_et rfl, h2]; rfl⟩
  · have h1 : ixOf (noP (pOf x.1)) l = (j : Int) := h1
    refine ⟨(l.length - (j + 1) + 1) + 1, ?_⟩
    rw [deOf.start, hres, test_true hpre, h1, cond_ef (by omega), w64s (by omega), ← noP_filter]
    exact delF_start (t := TStatus) l (noP (pOf x.1)) (fun m i j xs => deOf.l1 m x.1 (i : Int) (j : Int) xs) (fun xs => some (.c (.sref 115326), [(115326, .arr 43 TStatus xs false)])) (fun m i j xs hxs hij hj hrd => by
      rw [deOf.s1, cond_dt (by omega), test_d (by omega), test_d (by omega)]
      simp only [toNat_cast]
      rw [hrd, test_true (show nOf.pre (rdEl TStatus l j, (x.1, ()), ()) = true by
        show (fits TStatus (rdEl TStatus l j) && (fits (.sl TPair) x.1 && true)) = true
        rw [fits_rd hl hj]; exact hc), test_d (by omega), test_d (by omega), w64s (by omega), w64s (by omega)]) (fun m i xs hxs hi => by
      rw [deOf.s1, cond_df (by omega)]
      simp only [toNat_cast, Nat.zero_add, Nat.sub_zero]
      have hl2 : ∀ d : El TStatus, (over xs i (List.replicate (xs.length - i) d)).length = xs.length := fun d => by
        rw [over_length _ _ _ (by omega)]; simp; omega
      rw [test_d (by omega), test_d (by omega), test_d (by simp; omega), test_d (by omega), test_d (by rw [hl2]; omega), test_d (by rw [hl2]; omega), take_over_behind (α := El TStatus) _ _ _ _ (Nat.le_refl _) (by omega)]) h2 h4
theorem thOf_ok : thOf.OK := thOf.mk SpecsOK.nil (copySO_ok.cons' (deOf_ok.cons' .nil)) fun l x hx => ⟨1, by
  have h : (fits (.sl TStatus) l && (fits (.sl TPair) x.1 && true)) = true := hx
  rw [Bool.and_eq_true] at h
  rw [thOf.start, test_true (show copySO.pre (l, ()) = true by show (fits (.sl TStatus) l && true) = true; rw [h.1]; rfl), test_true (show deOf.pre (l, (x.1, ()), ()) = true from hx)]; rfl⟩

/-! ### Gr -/

theorem nGr_ok : nGr.OK := nGr.mk (grF_ok.cons' SpecsOK.nil) fun s x hx => ⟨1, by
  rw [nGr.start, test_true (show grF.pre (s, x.1, ()) = true from hx)]; rfl⟩
theorem jxGr_ok : jxGr.OK := jxGr.mk (nGr_ok.cons' SpecsOK.nil) fun l x hx => by
  have h : (fits (.sl TStatus) l && (fits (.int .i64) x.1 && true)) = true := hx
  rw [Bool.and_eq_true] at h
  obtain ⟨hl, hc⟩ := h
  have hb := stat_len hl
  have hr := reach_lt
  refine ⟨l.length + 2, ?_⟩
  rw [jxGr.start]
  exact loop_ix (t := TStatus) l (noP (pGr x.1)) (fun m k => jxGr.l1 m l x.1 l.length k) (fun i => some (vi .i64 i, [])) (fun m k hk => by
    rw [jxGr.s1, cond_dt (by omega), test_d (by omega), test_d (by omega), w64s (by omega), toNat_cast, test_true (show nGr.pre (rdEl TStatus l k, (x.1, ()), ()) = true by
      show (fits TStatus (rdEl TStatus l k) && (fits (.int .i64) x.1 && true)) = true
      rw [fits_rd hl hk]; exact hc)]; rfl) (fun m => by rw [jxGr.s1, cond_df (by omega)]; rfl)
theorem deGr_ok : deGr.OK := deGr.mk (nGr_ok.cons' (jxGr_ok.cons' SpecsOK.nil)) fun l x hx => by
  have h : (fits (.sl TStatus) l && (fits (.int .i64) x.1 && true)) = true := hx
  rw [Bool.and_eq_true] at h
  obtain ⟨hl, hc⟩ := h
  have hb := stat_len hl
  have hr := reach_lt
  have hres : deGr.back (l, x, ()) = [(115326, .arr 43 TStatus (l.filter (pGr x.1)) false)] := rfl
  have hpre : jxGr.pre (l, (x.1, ()), ()) = true := hx
  rcases VE.ixOf_cases (noP (pGr x.1)) l with ⟨h1, h2, _⟩ | ⟨j, h1, h2, _, h4, _⟩
  · rw [noP_filter] at h2
    have h1 : ixOf (noP (pGr x.1)) l = -1 := h1
    exact ⟨1, by rw [deGr.start, hres, test_true hpre, h1, cond_et rfl, h2]; rfl⟩
  · have h1 : ixOf (noP (pGr x.1)) l = (j : Int) := h1
    refine ⟨(l.length - (j + 1) + 1) + 1, ?_⟩
    rw [deGr.start, hres, test_true hpre, h1, cond_ef (by omega), w64s (by omega), ← noP_filter]
    exact delF_start (t := TStatus) l (noP (pGr x.1)) (fun m i j xs => deGr.l1 m x.1 (i : Int) (j : Int) xs) (fun xs => some (.c (.sref 115326), [(115326, .arr 43 TStatus xs false)])) (fun m i j xs hxs hij hj hrd => by
      rw [deGr.s1, cond_dt (by omega), test_d (by omega), test_d (by omega)]
      simp only [toNat_cast]
      rw [hrd, test_true (show nGr.pre (rdEl TStatus l j, (x.1, ()), ()) = true by
        show (fits TStatus (rdEl TStatus l j) && (fits (.int .i64) x.1 && true)) = true
        rw [fits_rd hl hj]; exact hc), test_d (by omega), test_d (by omega), w64s (by omega), w64s (by omega)]) (fun m i xs hxs hi => by
      rw [deGr.s1, cond_df (by omega)]
      simp only [toNat_cast, Nat.zero_add, Nat.sub_zero]
      have hl2 : ∀ d : El TStatus, (over xs i (List.replicate (xs.length - i) d)).length = xs.length := fun d => by
        rw [over_length _ _ _ (by omega)]; simp; omega
      rw [test_d (by omega), test_d (by omega), test_d (by simp; omega), test_d (by omega), test_d (by rw [hl2]; omega), test_d (by rw [hl2]; omega), take_over_behind (α := El TStatus) _ _ _ _ (Nat.le_refl _) (by omega)]) h2 h4
theorem thGr_ok : thGr.OK := thGr.mk SpecsOK.nil (copySO_ok.cons' (deGr_ok.cons' .nil)) fun l x hx => ⟨1, by
  have h : (fits (.sl TStatus) l && (fits (.int .i64) x.1 && true)) = true := hx
  rw [Bool.and_eq_true] at h
  rw [thGr.start, test_true (show copySO.pre (l, ()) = true by show (fits (.sl TStatus) l && true) = true; rw [h.1]; rfl), test_true (show deGr.pre (l, (x.1, ()), ()) = true from hx)]; rfl⟩

/-! ### Fr -/

theorem nFr_ok : nFr.OK := nFr.mk (free_ok.cons' SpecsOK.nil) fun s x hx => ⟨1, by
  rw [nFr.start, test_true (show free.pre (s, ()) = true from hx)]; rfl⟩
theorem jxFr_ok : jxFr.OK := jxFr.mk (nFr_ok.cons' SpecsOK.nil) fun l x hx => by
  have h : (fits (.sl TStatus) l && true) = true := hx
  rw [Bool.and_eq_true] at h
  obtain ⟨hl, hc⟩ := h
  have hb := stat_len hl
  have hr := reach_lt
  refine ⟨l.length + 2, ?_⟩
  rw [jxFr.start]
  exact loop_ix (t := TStatus) l (noP freeB) (fun m k => jxFr.l1 m l l.length k) (fun i => some (vi .i64 i, [])) (fun m k hk => by
    rw [jxFr.s1, cond_dt (by omega), test_d (by omega), test_d (by omega), w64s (by omega), toNat_cast, test_true (show nFr.pre (rdEl TStatus l k, (), ()) = true by
      show (fits TStatus (rdEl TStatus l k) && true) = true
      rw [fits_rd hl hk]; exact hc)]; rfl) (fun m => by rw [jxFr.s1, cond_df (by omega)]; rfl)
theorem deFr_ok : deFr.OK := deFr.mk (nFr_ok.cons' (jxFr_ok.cons' SpecsOK.nil)) fun l x hx => by
  have h : (fits (.sl TStatus) l && true) = true := hx
  rw [Bool.and_eq_true] at h
  obtain ⟨hl, hc⟩ := h
  have hb := stat_len hl
  have hr := reach_lt
  have hres : deFr.back (l, x, ()) = [(115326, .arr 43 TStatus (l.filter freeB) false)] := rfl
  have hpre : jxFr.pre (l, (), ()) = true := hx
  rcases VE.ixOf_cases (noP freeB) l with ⟨h1, h2, _⟩ | ⟨j, h1, h2, _, h4, _⟩
  · rw [noP_filter] at h2
    have h1 : ixOf (noP freeB) l = -1 := h1
    exact ⟨1, by rw [deFr.start, hres, test_true hpre, h1, cond_et rfl, h2]; rfl⟩
  · have h1 : ixOf (noP freeB) l = (j : Int) := h1
    refine ⟨(l.length - (j + 1) + 1) + 1, ?_⟩
    rw [deFr.start, hres, test_true hpre, h1, cond_ef (by omega), w64s (by omega), ← noP_filter]
    exact delF_start (t := TStatus) l (noP freeB) (fun m i j xs => deFr.l1 m (i : Int) (j : Int) xs) (fun xs => some (.c (.sref 115326), [(115326, .arr 43 TStatus xs false)])) (fun m i j xs hxs hij hj hrd => by
      rw [deFr.s1, cond_dt (by omega), test_d (by omega), test_d (by omega)]
      simp only [toNat_cast]
      rw [hrd, test_true (show nFr.pre (rdEl TStatus l j, (), ()) = true by
        show (fits TStatus (rdEl TStatus l j) && true) = true
        rw [fits_rd hl hj]; exact hc), test_d (by omega), test_d (by omega), w64s (by omega), w64s (by omega)]) (fun m i xs hxs hi => by
      rw [deFr.s1, cond_df (by omega)]
      simp only [toNat_cast, Nat.zero_add, Nat.sub_zero]
      have hl2 : ∀ d : El TStatus, (over xs i (List.replicate (xs.length - i) d)).length = xs.length := fun d => by
        rw [over_length _ _ _ (by omega)]; simp; omega
      rw [test_d (by omega), test_d (by omega), test_d (by simp; omega), test_d (by omega), test_d (by rw [hl2]; omega), test_d (by rw [hl2]; omega), take_over_behind (α := El TStatus) _ _ _ _ (Nat.le_refl _) (by omega)]) h2 h4
theorem thFr_ok : thFr.OK := thFr.mk SpecsOK.nil (copySO_ok.cons' (deFr_ok.cons' .nil)) fun l x hx => ⟨1, by
  have h : (fits (.sl TStatus) l && true) = true := hx
  rw [Bool.and_eq_true] at h
  rw [thFr.start, test_true (show copySO.pre (l, ()) = true by show (fits (.sl TStatus) l && true) = true; rw [h.1]; rfl), test_true (show deFr.pre (l, (), ()) = true from hx)]; rfl⟩

/-! ### Wo -/

theorem nWo_ok : nWo.OK := nWo.mk (woF_ok.cons' SpecsOK.nil) fun s x hx => ⟨1, by
  rw [nWo.start, test_true (show woF.pre (s, x.1, ()) = true from hx)]; rfl⟩
theorem jxWo_ok : jxWo.OK := jxWo.mk (nWo_ok.cons' SpecsOK.nil) fun l x hx => by
  have h : (fits (.sl TStatus) l && (fits (.sl (.int .i64)) x.1 && true)) = true := hx
  rw [Bool.and_eq_true] at h
  obtain ⟨hl, hc⟩ := h
  have hb := stat_len hl
  have hr := reach_lt
  refine ⟨l.length + 2, ?_⟩
  rw [jxWo.start]
  exact loop_ix (t := TStatus) l (noP (pWo x.1)) (fun m k => jxWo.l1 m l x.1 l.length k) (fun i => some (vi .i64 i, [])) (fun m k hk => by
    rw [jxWo.s1, cond_dt (by omega), test_d (by omega), test_d (by omega), w64s (by omega), toNat_cast, test_true (show nWo.pre (rdEl TStatus l k, (x.1, ()), ()) = true by
      show (fits TStatus (rdEl TStatus l k) && (fits (.sl (.int .i64)) x.1 && true)) = true
      rw [fits_rd hl hk]; exact hc)]; rfl) (fun m => by rw [jxWo.s1, cond_df (by omega)]; rfl)
theorem deWo_ok : deWo.OK := deWo.mk (nWo_ok.cons' (jxWo_ok.cons' SpecsOK.nil)) fun l x hx => by
  have h : (fits (.sl TStatus) l && (fits (.sl (.int .i64)) x.1 && true)) = true := hx
  rw [Bool.and_eq_true] at h
  obtain ⟨hl, hc⟩ := h
  have hb := stat_len hl
  have hr := reach_lt
  have hres : deWo.back (l, x, ()) = [(115326, .arr 43 TStatus (l.filter (pWo x.1)) false)] := rfl
  have hpre : jxWo.pre (l, (x.1, ()), ()) = true := hx
  rcases VE.ixOf_cases (noP (pWo x.1)) l with ⟨h1, h2, _⟩ | ⟨j, h1, h2, _, h4, _⟩
  · rw [noP_filter] at h2
    have h1 : ixOf (noP (pWo x.1)) l = -1 := h1
    exact ⟨1, by rw [deWo.start, hres, test_true hpre, h1, cond_et rfl, h2]; rfl⟩
  · have h1 : ixOf (noP (pWo x.1)) l = (j : Int) := h1
    refine ⟨(l.length - (j + 1) + 1) + 1, ?_⟩
    rw [deWo.start, hres, test_true hpre, h1, cond_ef (by omega), w64s (by omega), ← noP_filter]
    exact delF_start (t := TStatus) l (noP (pWo x.1)) (fun m i j xs => deWo.l1 m x.1 (i : Int) (j : Int) xs) (fun xs => some (.c (.sref 115326), [(115326, .arr 43 TStatus xs false)])) (fun m i j xs hxs hij hj hrd => by
      rw [deWo.s1, cond_dt (by omega), test_d (by omega), test_d (by omega)]
      simp only [toNat_cast]
      rw [hrd, test_true (show nWo.pre (rdEl TStatus l j, (x.1, ()), ()) = true by
        show (fits TStatus (rdEl TStatus l j) && (fits (.sl (.int .i64)) x.1 && true)) = true
        rw [fits_rd hl hj]; exact hc), test_d (by omega), test_d (by omega), w64s (by omega), w64s (by omega)]) (fun m i xs hxs hi => by
      rw [deWo.s1, cond_df (by omega)]
      simp only [toNat_cast, Nat.zero_add, Nat.sub_zero]
      have hl2 : ∀ d : El TStatus, (over xs i (List.replicate (xs.length - i) d)).length = xs.length := fun d => by
        rw [over_length _ _ _ (by omega)]; simp; omega
      rw [test_d (by omega), test_d (by omega), test_d (by simp; omega), test_d (by omega), test_d (by rw [hl2]; omega), test_d (by rw [hl2]; omega), take_over_behind (α := El TStatus) _ _ _ _ (Nat.le_refl _) (by omega)]) h2 h4
theorem thWo_ok : thWo.OK := thWo.mk SpecsOK.nil (copySO_ok.cons' (deWo_ok.cons' .nil)) fun l x hx => ⟨1, by
  have h : (fits (.sl TStatus) l && (fits (.sl (.int .i64)) x.1 && true)) = true := hx
  rw [Bool.and_eq_true] at h
  rw [thWo.start, test_true (show copySO.pre (l, ()) = true by show (fits (.sl TStatus) l && true) = true; rw [h.1]; rfl), test_true (show deWo.pre (l, (x.1, ()), ()) = true from hx)]; rfl⟩

/-! ### Be -/

theorem nBe_ok : nBe.OK := nBe.mk (beF_ok.cons' SpecsOK.nil) fun s x hx => ⟨1, by
  rw [nBe.start, test_true (show beF.pre (s, x.1, ()) = true from hx)]; rfl⟩
theorem jxBe_ok : jxBe.OK := jxBe.mk (nBe_ok.cons' SpecsOK.nil) fun l x hx => by
  have h : (fits (.sl TStatus) l && (fits (.int .i64) x.1 && true)) = true := hx
  rw [Bool.and_eq_true] at h
  obtain ⟨hl, hc⟩ := h
  have hb := stat_len hl
  have hr := reach_lt
  refine ⟨l.length + 2, ?_⟩
  rw [jxBe.start]
  exact loop_ix (t := TStatus) l (noP (pBe x.1)) (fun m k => jxBe.l1 m l x.1 l.length k) (fun i => some (vi .i64 i, [])) (fun m k hk => by
    rw [jxBe.s1, cond_dt (by omega), test_d (by omega), test_d (by omega), w64s (by omega), toNat_cast, test_true (show nBe.pre (rdEl TStatus l k, (x.1, ()), ()) = true by
      show (fits TStatus (rdEl TStatus l k) && (fits (.int .i64) x.1 && true)) = true
      rw [fits_rd hl hk]; exact hc)]; rfl) (fun m => by rw [jxBe.s1, cond_df (by omega)]; rfl)
theorem deBe_ok : deBe.OK := deBe.mk (nBe_ok.cons' (jxBe_ok.cons' SpecsOK.nil)) fun l x hx => by
  have h : (fits (.sl TStatus) l && (fits (.int .i64) x.1 && true)) = true := hx
  rw [Bool.and_eq_true] at h
  obtain ⟨hl, hc⟩ := h
  have hb := stat_len hl
  have hr := reach_lt
  have hres : deBe.back (l, x, ()) = [(115326, .arr 43 TStatus (l.filter (pBe x.1)) false)] := rfl
  have hpre : jxBe.pre (l, (x.1, ()), ()) = true := hx
  rcases VE.ixOf_cases (noP (pBe x.1)) l with ⟨h1, h2, _⟩ | ⟨j, h1, h2, _, h4, _⟩
  · rw [noP_filter] at h2
    have h1 : ixOf (noP (pBe x.1)) l = -1 := h1
    exact ⟨1, by rw [deBe.start, hres, test_true hpre, h1, cond_et rfl, h2]; rfl⟩
  · have h1 : ixOf (noP (pBe x.1)) l = (j : Int) := h1
    refine ⟨(l.length - (j + 1) + 1) + 1, ?_⟩
    rw [deBe.start, hres, test_true hpre, h1, cond_ef (by omega), w64s (by omega), ← noP_filter]
    exact delF_start (t := TStatus) l (noP (pBe x.1)) (fun m i j xs => deBe.l1 m x.1 (i : Int) (j : Int) xs) (fun xs => some (.c (.sref 115326), [(115326, .arr 43 TStatus xs false)])) (fun m i j xs hxs hij hj hrd => by
      rw [deBe.s1, cond_dt (by omega), test_d (by omega), test_d (by omega)]
      simp only [toNat_cast]
      rw [hrd, test_true (show nBe.pre (rdEl TStatus l j, (x.1, ()), ()) = true by
        show (fits TStatus (rdEl TStatus l j) && (fits (.int .i64) x.1 && true)) = true
        rw [fits_rd hl hj]; exact hc), test_d (by omega), test_d (by omega), w64s (by omega), w64s (by omega)]) (fun m i xs hxs hi => by
      rw [deBe.s1, cond_df (by omega)]
      simp only [toNat_cast, Nat.zero_add, Nat.sub_zero]
      have hl2 : ∀ d : El TStatus, (over xs i (List.replicate (xs.length - i) d)).length = xs.length := fun d => by
        rw [over_length _ _ _ (by omega)]; simp; omega
      rw [test_d (by omega), test_d (by omega), test_d (by simp; omega), test_d (by omega), test_d (by rw [hl2]; omega), test_d (by rw [hl2]; omega), take_over_behind (α := El TStatus) _ _ _ _ (Nat.le_refl _) (by omega)]) h2 h4
theorem thBe_ok : thBe.OK := thBe.mk SpecsOK.nil (copySO_ok.cons' (deBe_ok.cons' .nil)) fun l x hx => ⟨1, by
  have h : (fits (.sl TStatus) l && (fits (.int .i64) x.1 && true)) = true := hx
  rw [Bool.and_eq_true] at h
  rw [thBe.start, test_true (show copySO.pre (l, ()) = true by show (fits (.sl TStatus) l && true) = true; rw [h.1]; rfl), test_true (show deBe.pre (l, (x.1, ()), ()) = true from hx)]; rfl⟩

/-! ### the rows -/

theorem ofL_eq (l : List (El TStatus)) (c : List (El TPair)) (b : Bool) (X : List (El TStatus)) (hX : X = (l.filter memB).filter (pOf c)) :
    (cond (((X.length : Nat) : Int) == 0) (cond b (some ((IV.c (.sl TStatus (l.filter memB))), ([] : List (Nat × Box)))) (some ((.c (.sl TStatus X)), []))) (some ((.c (.sl TStatus X)), []))) = some ((.c (.sl TStatus (ofL l c b))), []) := by
  subst hX
  unfold ofL
  cases ((((l.filter memB).filter (pOf c)).length : Int) == 0) <;> cases b <;> rfl

theorem fOf_ok : fOf.OK := fOf.mk (members_ok.cons' (thOf_ok.cons' SpecsOK.nil)) fun l c b hx => ⟨1, by
  have h : (fits (.sl TStatus) l && (fits (.sl TPair) c && (fits .bool b && true))) = true := hx
  simp only [Bool.and_eq_true] at h
  rw [fOf.start, test_true (show members.pre (l, ()) = true by show (fits (.sl TStatus) l && true) = true; rw [h.1]; rfl), test_true (show thOf.pre (l.filter memB, (c, ()), ()) = true by
    show (fits (.sl TStatus) (l.filter memB) && (fits (.sl TPair) c && true)) = true
    rw [fits_filter h.1, h.2.1]; rfl)]
  exact ofL_eq l c b _ rfl⟩
theorem fGr_ok : fGr.OK := fGr.mk (thGr_ok.cons' SpecsOK.nil) fun l c hx => ⟨1, by rw [fGr.start, test_true (show thGr.pre (l, (c, ()), ()) = true from hx)]; rfl⟩
theorem fFr_ok : fFr.OK := fFr.mk (thFr_ok.cons' SpecsOK.nil) fun l hx => ⟨1, by rw [fFr.start, test_true (show thFr.pre (l, (), ()) = true from hx)]; rfl⟩
theorem fWo_ok : fWo.OK := fWo.mk (thWo_ok.cons' SpecsOK.nil) fun l c hx => ⟨1, by rw [fWo.start, test_true (show thWo.pre (l, (c, ()), ()) = true from hx)]; rfl⟩
theorem fBe_ok : fBe.OK := fBe.mk (thBe_ok.cons' SpecsOK.nil) fun l c hx => ⟨1, by rw [fBe.start, test_true (show thBe.pre (l, (c, ()), ()) = true from hx)]; rfl⟩

theorem one_pre {s : El TStatus} (h : fits TStatus s = true) : copyOne.pre (s, ()) = true := by show (fits TStatus s && true) = true; rw [h]; rfl

theorem rOf_ok : rOf.OK := rOf.mk (membersR_ok.cons' (hasR_ok.cons' SpecsOK.nil)) fun l c b hx => by
  have h : (fits (.sl TStatus) l && (fits (.sl TPair) c && (fits .bool b && true))) = true := hx
  simp only [Bool.and_eq_true] at h
  have hp : membersR.pre (l, ()) = true := by show (fits (.sl TStatus) l && true) = true; rw [h.1]; rfl
  have hM := fits_filter (p := memB) h.1
  have hb := stat_len hM
  have hr := reach_lt
  refine ⟨(l.filter memB).length + 2, ?_⟩
  rw [rOf.start, test_true hp]
  have key := loop_fm (t := TStatus) (l.filter memB) (fun s => if pOf c s then some s else none) (fun m out k => rOf.l1 m l c b (l.filter memB) (l.filter memB).length k out)
    (fun X => cond (((X.length : Nat) : Int) == 0) (cond b (some ((IV.c (.sl TStatus (l.filter memB))), ([] : List (Nat × Box)))) (some ((.c (.sl TStatus X)), []))) (some ((.c (.sl TStatus X)), []))) (fun m k out hk ho => ?_) (fun m out => ?_) (l.filter memB).length 0 [] (by omega) (Nat.zero_le _)
  · refine key.trans ?_
    rw [List.drop_zero, fm_filter]
    exact ofL_eq l c b _ rfl
  · have hf := fits_rd hM hk
    rw [rOf.s1, cond_dt (by omega), test_d (by omega), test_d (by omega), w64s (by omega), toNat_cast, test_true (show hasR.pre ((rdEl TStatus (l.filter memB) k).1, c, ()) = true by
      show (fits THost _ && (fits (.sl TPair) c && true)) = true
      rw [fits_stat hf, h.2.1]; rfl), test_d (lim200 hb (by omega))]
    unfold pOf
    cases hasB (rdEl TStatus (l.filter memB) k).1 c <;> rfl
  · rw [rOf.s1, cond_df (by omega), test_true hp]

theorem rGr_ok : rGr.OK := rGr.mk (copyOne_ok.cons' SpecsOK.nil) fun l c hx => by
  have h : (fits (.sl TStatus) l && (true && true)) = true := hx
  simp only [Bool.and_eq_true] at h
  have hl := h.1
  have hb := stat_len hl
  have hr := reach_lt
  refine ⟨l.length + 2, ?_⟩
  rw [rGr.start]
  have key := loop_fm (t := TStatus) l (fun s => if pGr c s then some s else none) (fun m out k => rGr.l1 m c l l.length k out) (fun out => some (.c (.sl TStatus out), [])) (fun m k out hk ho => ?_) (fun m out => ?_) l.length 0 [] (by omega) (Nat.zero_le _)
  · refine key.trans ?_
    rw [List.drop_zero, fm_filter]; rfl
  · have hf := fits_rd hl hk
    rw [rGr.s1, cond_dt (by omega), test_d (by omega), test_d (by omega), w64s (by omega), toNat_cast, test_true (one_pre hf), test_d (lim200 hb (by omega))]
    show cond (pGr c (rdEl TStatus l k)) _ _ = _
    cases pGr c (rdEl TStatus l k) <;> rfl
  · rw [rGr.s1, cond_df (by omega)]
theorem rBe_ok : rBe.OK := rBe.mk (copyOne_ok.cons' SpecsOK.nil) fun l c hx => by
  have h : (fits (.sl TStatus) l && (true && true)) = true := hx
  simp only [Bool.and_eq_true] at h
  have hl := h.1
  have hb := stat_len hl
  have hr := reach_lt
  refine ⟨l.length + 2, ?_⟩
  rw [rBe.start]
  have key := loop_fm (t := TStatus) l (fun s => if pBe c s then some s else none) (fun m out k => rBe.l1 m c l l.length k out) (fun out => some (.c (.sl TStatus out), [])) (fun m k out hk ho => ?_) (fun m out => ?_) l.length 0 [] (by omega) (Nat.zero_le _)
  · refine key.trans ?_
    rw [List.drop_zero, fm_filter]; rfl
  · have hf := fits_rd hl hk
    rw [rBe.s1, cond_dt (by omega), test_d (by omega), test_d (by omega), w64s (by omega), toNat_cast, test_true (one_pre hf), test_d (lim200 hb (by omega))]
    show cond (pBe c (rdEl TStatus l k)) _ _ = _
    cases pBe c (rdEl TStatus l k) <;> rfl
  · rw [rBe.s1, cond_df (by omega)]
theorem rFr_ok : rFr.OK := rFr.mk (copyOne_ok.cons' (freeR_ok.cons' SpecsOK.nil)) fun l hx => by
  have h : (fits (.sl TStatus) l && true) = true := hx
  simp only [Bool.and_eq_true] at h
  have hl := h.1
  have hb := stat_len hl
  have hr := reach_lt
  refine ⟨l.length + 2, ?_⟩
  rw [rFr.start]
  have key := loop_fm (t := TStatus) l (fun s => if freeB s then some s else none) (fun m out k => rFr.l1 m l l.length k out) (fun out => some (.c (.sl TStatus out), [])) (fun m k out hk ho => ?_) (fun m out => ?_) l.length 0 [] (by omega) (Nat.zero_le _)
  · refine key.trans ?_
    rw [List.drop_zero, fm_filter]; rfl
  · have hf := fits_rd hl hk
    rw [rFr.s1, cond_dt (by omega), test_d (by omega), test_d (by omega), w64s (by omega), toNat_cast, test_true (by simpa [freeR.pre] using hf), test_true (one_pre hf), test_d (lim200 hb (by omega))]
    cases freeB (rdEl TStatus l k) <;> rfl
  · rw [rFr.s1, cond_df (by omega)]

/-- The round over those that are excluded, with a member in hand. -/
noncomputable def rW (m : Nat) (no : List Int) (b : Bool) (l : List (El TStatus)) (n k len j : Int) (out : List (El TStatus)) (s : El TStatus) : R := rWo.l2 m no b l n k no len j out s.1.1 s.1.2.1 s.1.2.2.1 s.1.2.2.2.1 s.1.2.2.2.2.1 s.1.2.2.2.2.2 s.2.1.1 s.2.1.2.1 s.2.1.2.2.1 s.2.1.2.2.2 s.2.2.1 s.2.2.2.1.1 s.2.2.2.1.2 s.2.2.2.2.1.1 s.2.2.2.2.1.2.1 s.2.2.2.2.1.2.2.1 s.2.2.2.2.1.2.2.2 s.2.2.2.2.2.1 s.2.2.2.2.2.2.1 s.2.2.2.2.2.2.2.1 s.2.2.2.2.2.2.2.2
theorem rW_step (m : Nat) (no : List Int) (b : Bool) (l : List (El TStatus)) (n k len j : Int) (out : List (El TStatus)) (s : El TStatus) : rW (m + 1) no b l n k len j out s =
    cond (decide (j < len)) (test (decide ((0 : Int) ≤ j)) (test (decide (j < (no.length : Int))) (cond b (rW m no true l n k len (IntKind.i64.wrap (j + 1)) out s) (rW m no (rdEl (.int .i64) no j.toNat == s.1.1) l n k len (IntKind.i64.wrap (j + 1)) out s))))
      (cond (!b) (test (copyOne.pre (s, ())) (test (decide (out.length + [s].length ≤ lim 200)) (rWo.l1 m no l n (IntKind.i64.wrap (k + 1)) (out ++ [s])))) (rWo.l1 m no l n (IntKind.i64.wrap (k + 1)) out)) := rWo.s2 ..

theorem rW_loop (no : List Int) (hn : no.length < 9223372036854775806) (l : List (El TStatus)) (n k : Int) (out : List (El TStatus)) (s : El TStatus) (M : Nat) {r : R}
    (K : (cond (pWo no s) (test (copyOne.pre (s, ())) (test (decide (out.length + [s].length ≤ lim 200)) (rWo.l1 M no l n (IntKind.i64.wrap (k + 1)) (out ++ [s])))) (rWo.l1 M no l n (IntKind.i64.wrap (k + 1)) out)) = r) :
    ∀ (d j : Nat) (b : Bool), no.length = j + d → b = (no.take j).any (intEq (sId s)) → rW (M + 1 + d) no b l n k no.length j out s = r
  | 0, j, b, h, hb => by
    have : j = no.length := by omega
    subst this
    rw [List.take_length] at hb
    show rW (M + 1) _ _ _ _ _ _ _ _ _ = _
    rw [rW_step, cond_df (by omega), hb]
    exact K
  | d + 1, j, b, h, hb => by
    have ht : (no.take (j + 1)).any (intEq (sId s)) = (b || (rdEl (.int .i64) no j == s.1.1)) := by
      have e2 : no.take (j + 1) = no.take j ++ [no[j]] := List.take_succ_eq_append_getElem (by omega)
      have e3 : rdEl (.int .i64) no j = no[j] := by simp [rdEl, List.getD, show j < no.length by omega]
      rw [e2, List.any_append, ← hb, e3]
      simp only [List.any_cons, List.any_nil, Bool.or_false, intEq, sId]
      congr 1
      rw [Bool.eq_iff_iff, beq_iff_eq, beq_iff_eq]
      exact eq_comm
    show rW (M + 1 + d + 1) _ _ _ _ _ _ _ _ _ = _
    rw [rW_step, cond_dt (by omega), test_d (by omega), test_d (by omega), w64s (by omega), toNat_cast]
    cases b with
    | true => exact rW_loop no hn l n k out s M K d (j + 1) true (by omega) (by rw [ht]; rfl)
    | false => exact rW_loop no hn l n k out s M K d (j + 1) _ (by omega) (by rw [ht]; rfl)

theorem rWo_loop (no : List Int) (hn : no.length < 9223372036854775806) (l : List (El TStatus)) (hl : fits (.sl TStatus) l = true) : ∀ (d k : Nat) (out : List (El TStatus)), l.length = k + d → out = (l.take k).filter (pWo no) →
    ∃ m, rWo.l1 m no l l.length k out = some (.c (.sl TStatus (l.filter (pWo no))), [])
  | 0, k, out, h, ho => ⟨1, by
    have : k = l.length := by omega
    subst this
    rw [rWo.s1, cond_df (by omega), ho, List.take_length]⟩
  | d + 1, k, out, h, ho => by
    have hb := stat_len hl
    have hr := reach_lt
    have e2 : l.take (k + 1) = l.take k ++ [rdEl TStatus l k] := by
      rw [List.take_succ_eq_append_getElem (by omega)]
      simp [rdEl, List.getD, show k < l.length by omega]
    have hf := fits_rd hl (show k < l.length by omega)
    obtain ⟨M, hM⟩ := rWo_loop no hn l hl d (k + 1) _ (by omega) rfl
    have hlen : out.length ≤ k := by
      rw [ho]
      exact Nat.le_trans (List.length_filter_le _ _) (by rw [List.length_take]; omega)
    refine ⟨M + 1 + no.length + 1, ?_⟩
    rw [rWo.s1, cond_dt (by omega), test_d (by omega), test_d (by omega), toNat_cast]
    refine rW_loop no hn l l.length k out (rdEl TStatus l k) M ?_ no.length 0 false (by omega) rfl
    rw [w64s (by omega), test_true (one_pre hf), test_d (lim200 hb (by omega))]
    have e3 : (l.take (k + 1)).filter (pWo no) = bif pWo no (rdEl TStatus l k) then out ++ [rdEl TStatus l k] else out := by
      rw [e2, List.filter_append, ← ho]
      cases hp : pWo no (rdEl TStatus l k) <;> simp [hp]
    rw [e3] at hM
    cases hp : pWo no (rdEl TStatus l k) with
    | true => rw [hp] at hM; exact hM
    | false => rw [hp] at hM; exact hM

theorem rWo_ok : rWo.OK := rWo.mk (copyOne_ok.cons' SpecsOK.nil) fun l no hx => by
  have h : (fits (.sl TStatus) l && (fits (.sl (.int .i64)) no && true)) = true := hx
  simp only [Bool.and_eq_true] at h
  have hb := fits_len' (n := 8) h.2.1 rfl
  have hr := reach_lt
  obtain ⟨m, hm⟩ := rWo_loop no (by omega) l h.1 l.length 0 [] (by omega) rfl
  exact ⟨m + 1, by rw [rWo.start]; exact hm⟩

theorem awake_ok : awake.OK := awake.mk (newR_ok.cons' (fOf_ok.cons' (fGr_ok.cons' (fFr_ok.cons' (fWo_ok.cons' (fBe_ok.cons' SpecsOK.nil)))))) fun _ _ => ⟨1, by
  rw [awake.start]
  kernel_rfl⟩

end Go.Proofs.Ytemkgdkkpeijfaa
