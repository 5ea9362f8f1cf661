/-
  In turn, by weight: each function's contract.
-/
import Derived.Test.YtgocadoemofepaaRF
namespace Go.Proofs.Ytgocadoemofepaa
open Go VE

theorem cond_nt {α : Type} {a b : Int} {x y : α} (h : a ≠ b) : cond (bne a b) x y = x := cond_t (by simpa using h)
theorem cond_nf {α : Type} {a b : Int} {x y : α} (h : a = b) : cond (bne a b) x y = y := cond_f (by simpa using h)

theorem ixOf_any {α : Type} (p : α → Bool) (l : List α) : decide (ixOf p l ≥ 0) = l.any p := by
  unfold ixOf
  cases h : ixF p l 0 with
  | none => rw [ixF_none.1 h]; rfl
  | some i => rw [(ixF_some h).2.2]; exact dec_t (by simp)

theorem fits_sh (x : El TShare) : fits TShare x = true := rfl
theorem fits_shs {l : List (El TShare)} (h : l.length * 16 ≤ reachBytes) : fits (.sl TShare) l = true := fits_sl (t := TShare) h fun _ _ => rfl
theorem len_shs {l : List (El TShare)} (h : fits (.sl TShare) l = true) : l.length * 16 ≤ reachBytes := fits_len' (n := 16) h rfl
theorem fits_ints {l : List Int} (h : l.length * 8 ≤ reachBytes) : fits (.sl (.int .i64)) l = true := fits_sl (t := .int .i64) h fun _ _ => rfl

/-! ### rows that are alike -/

theorem eq_loop (l m : List (El TShare)) (hlm : m.length = l.length) (L : Nat → Int → R)
    (hs : ∀ (f k : Nat), k < l.length → L (f + 1) (k : Int) = cond (!shEq (rdEl TShare l k) (rdEl TShare m k)) (some (vb false, [])) (L f ((k + 1 : Nat) : Int)))
    (he : ∀ (f : Nat), L (f + 1) (l.length : Int) = some (vb true, [])) : ∀ (n k : Nat), l.length = k + n → L (n + 1) (k : Int) = some (vb (eqSh (l.drop k) (m.drop k)), [])
  | 0, k, h => by
    have : k = l.length := by omega
    subst this
    rw [he, List.drop_length, ← hlm, List.drop_length]; rfl
  | n + 1, k, h => by
    rw [hs _ _ (by omega), eq_loop l m hlm L hs he n (k + 1) (by omega), rdEl_drop l (by omega : k < l.length), rdEl_drop m (by omega : k < m.length), eqSh]
    cases shEq (rdEl TShare l k) (rdEl TShare m k) <;> rfl

theorem eqSh_len : ∀ (l m : List (El TShare)), l.length ≠ m.length → eqSh l m = false
  | [], [], h => absurd rfl h
  | [], _ :: _, _ => rfl
  | _ :: _, [], _ => rfl
  | a :: l, b :: m, h => by
    rw [eqSh, eqSh_len l m (by simpa using h)]
    cases shEq a b <;> rfl

theorem shEq_iff {a b : Int × Int} : shEq a b = true ↔ a = b := by
  unfold shEq
  simp only [Bool.and_true, Bool.and_eq_true, beq_iff_eq]
  exact ⟨fun h => Prod.ext h.1 h.2, fun h => by rw [h]; exact ⟨rfl, rfl⟩⟩

theorem eqSh_iff : ∀ {l m : List (Int × Int)}, eqSh l m = true ↔ l = m
  | [], [] => by simp [eqSh]
  | [], _ :: _ => by simp [eqSh]
  | _ :: _, [] => by simp [eqSh]
  | a :: l, b :: m => by
    rw [eqSh, Bool.and_eq_true, shEq_iff, eqSh_iff]
    simp

theorem eqS_ok : eqS.OK := eqS.mk SpecsOK.nil fun l m hx => by
  have hh : fits (.sl TShare) l = true ∧ fits (.sl TShare) m = true := by simpa [eqS.pre] using hx
  have hb := len_shs hh.1
  have hr := reach_lt
  refine ⟨l.length + 2, ?_⟩
  rw [eqS.start]
  by_cases hlm : m.length = l.length
  · rw [cond_nf (by omega)]
    exact eq_loop l m hlm (fun f k => eqS.l1 f l m l.length k) (fun f k hk => by
      rw [eqS.s1, cond_dt (by omega), test_d (by omega), test_d (by omega), test_d (by omega), test_d (by omega), w64s (by omega), toNat_cast]; rfl) (fun f => by rw [eqS.s1, cond_df (by omega)]; rfl) l.length 0 (by omega)
  · rw [cond_nt (by omega)]
    show _ = some (vb (eqSh l m), _)
    rw [eqSh_len l m (by omega)]; rfl

theorem sameT_ok : sameT.OK := sameT.mk SpecsOK.nil fun l m hx => by
  have hh : fits (.sl TShare) l = true ∧ fits (.sl TShare) m = true := by simpa [sameT.pre] using hx
  have hb := len_shs hh.1
  have hr := reach_lt
  refine ⟨l.length + 2, ?_⟩
  rw [sameT.start]
  by_cases hlm : m.length = l.length
  · rw [cond_nf (by omega)]
    exact eq_loop l m hlm (fun f k => sameT.l1 f l m l.length k) (fun f k hk => by
      rw [sameT.s1, cond_dt (by omega), test_d (by omega), test_d (by omega), test_d (by omega), test_d (by omega), w64s (by omega), toNat_cast]; rfl) (fun f => by rw [sameT.s1, cond_df (by omega)]; rfl) l.length 0 (by omega)
  · rw [cond_nt (by omega)]
    show _ = some (vb (eqSh l m), _)
    rw [eqSh_len l m (by omega)]; rfl

theorem clone_ok : clone.OK := clone.mkR fun l hx => by
  have hl : fits (.sl TShare) l = true := by simpa [clone.pre] using hx
  have hb := len_shs hl
  have hr := reach_lt
  cases l with
  | nil => exact returns_nil (Returns.slnil (cloneN.ret SpecsOK.nil (m := 1) (cloneN.start 0))) (cloneE.ret SpecsOK.nil (m := 1) (cloneE.start 0))
  | cons a l => exact cloneC.ret SpecsOK.nil a l (m := 1) (by
      have hle : ([] : List (El TShare)).length + (a :: l).length ≤ lim 16 := by
        simp only [lim, List.length_nil, List.length_cons] at *
        omega
      rw [cloneC.start, test_d hle]; rfl)

/-! ### rows that may be -/

theorem sameId_ok : sameId.OK := sameId.mk SpecsOK.nil fun y x _ => ⟨1, by
  rw [sameId.start]; rfl⟩

theorem loop_findD {t : Ty} (l : List (El t)) (L : Nat → Int → R) (p : El t → Bool) (A : R) (Bo : Nat → R)
    (hs : ∀ (m k : Nat), k < l.length → L (m + 1) (k : Int) = cond (p (rdEl t l k)) A (L m ((k + 1 : Nat) : Int)))
    (he : ∀ (m : Nat), L (m + 1) (l.length : Int) = Bo m) (d : Nat) : ∀ (n k : Nat), l.length = k + n → L (n + 1 + d) (k : Int) = cond ((l.drop k).any p) A (Bo d)
  | 0, k, h => by
    have : k = l.length := by omega
    subst this
    rw [show 0 + 1 + d = d + 1 by omega, he, List.drop_length]; rfl
  | n + 1, k, h => by
    rw [show n + 1 + 1 + d = (n + 1 + d) + 1 by omega, hs _ _ (by omega), loop_findD l L p A Bo hs he d n (k + 1) (by omega), rdEl_drop l (by omega : k < l.length), List.any_cons]
    cases p (rdEl t l k) <;> rfl

theorem ixId_ok : ixId.OK := ixId.mk (sameId_ok.cons' SpecsOK.nil) fun l x hx => by
  have hl : fits (.sl TShare) l = true := by
    have h : (fits (.sl TShare) l && _) = true := hx
    simp only [Bool.and_eq_true] at h
    exact h.1
  have hb := len_shs hl
  have hr := reach_lt
  refine ⟨l.length + 2, ?_⟩
  rw [ixId.start]
  have h := loop_find (t := TShare) l (fun m k => ixId.l1 m l x.1.1 x.1.2 l.length k) (idIs x.1.1) (fun i => some (vi .i64 i, [])) (some (vi .i64 (-1), [])) (fun m k hk => ?_) (fun m => ?_) l.length 0 (by omega)
  · refine h.trans ?_
    rw [List.drop_zero]
    show _ = some (vi .i64 (ixOf (idIs x.1.1) l), _)
    unfold ixOf
    cases ixF (idIs x.1.1) l 0 <;> rfl
  · rw [ixId.s1, cond_dt (by omega), test_d (by omega), test_d (by omega), w64s (by omega), toNat_cast]
    rfl
  · rw [ixId.s1, cond_df (by omega)]; rfl

theorem cfId_ok : cfId.OK := cfId.mk (ixId_ok.cons' SpecsOK.nil) fun l x hx => by
  refine ⟨1, ?_⟩
  rw [cfId.start]
  exact (test_true (b := ixId.pre (l, (x.1, ()), ())) hx).trans (by rw [ixOf_any]; rfl)

theorem fits_take {l : List (El TShare)} (h : l.length * 16 ≤ reachBytes) (k : Nat) : fits (.sl TShare) (l.take k) = true := fits_shs (by
  rw [List.length_take]
  omega)

theorem dec64 (n : Nat) : decide ((n : Int) ≤ 64) = decide (n ≤ 64) := by
  by_cases h : n ≤ 64
  · rw [dec_t h, dec_t (by omega)]
  · rw [dec_f h, dec_f (by omega)]

theorem part_tree {α : Type} (l : List (El TShare)) (k : Nat) (A B : α) :
    cond (decide ((rdEl TShare l k).2 < 1)) A (cond (decide ((rdEl TShare l k).2 > 1000000)) A (cond ((l.take k).any (idIs (rdEl TShare l k).1)) A B)) = cond (!okAt l k) A B := by
  unfold okAt
  generalize (rdEl TShare l k).2 = z
  by_cases h1 : z < 1
  · rw [cond_dt h1, dec_f (Int.not_le.2 h1)]; rfl
  · rw [cond_df h1, dec_t (Int.not_lt.1 h1 : (1 : Int) ≤ z)]
    by_cases h2 : z > 1000000
    · rw [cond_dt h2, dec_f (Int.not_le.2 h2)]; rfl
    · rw [cond_df h2, dec_t (Int.not_lt.1 h2 : z ≤ 1000000)]
      cases (l.take k).any (idIs (rdEl TShare l k).1) <;> rfl

theorem may_res (l : List (El TShare)) : cond (anyN (fun k => !okAt l k) 0 l.length) (some (vb false, [])) (some (vb (decide (1 ≤ l.length) && decide (l.length ≤ 64)), [])) = (some (vb (mayRow l), []) : R) := by
  unfold mayRow
  cases anyN (fun k => !okAt l k) 0 l.length <;> rfl

theorem mayW_ok : mayW.OK := mayW.mk (cfId_ok.cons' SpecsOK.nil) fun l hx => by
  have hl : fits (.sl TShare) l = true := by simpa [mayW.pre] using hx
  have hb := len_shs hl
  have hr := reach_lt
  refine ⟨l.length + 2, ?_⟩
  rw [mayW.start]
  have h := loop_any (fun k => !okAt l k) l.length (fun m k => mayW.l1 m l l l.length k) (some (vb false, [])) (some (vb (decide (1 ≤ l.length) && decide (l.length ≤ 64)), [])) (fun m k hk => ?_) (fun m => ?_) l.length 0 (by omega)
  · exact h.trans (may_res l)
  · rw [mayW.s1, cond_dt (by omega), test_d (by omega), test_d (by omega), toNat_cast, test_d (by omega), test_d (by omega), List.drop_zero, w64s (by omega),
      test_true (show cfId.pre (l.take k, ((rdEl TShare l k), ()), ()) = true from by
        show (fits (.sl TShare) (l.take k) && (fits TShare _ && true)) = true
        rw [fits_take hb]; rfl)]
    exact part_tree l k _ _
  · rw [mayW.s1, cond_df (by omega), dec64]
    by_cases h1 : 1 ≤ l.length
    · rw [cond_dt (by omega), dec_t h1]; rfl
    · rw [cond_df (by omega), dec_f h1]; rfl

/-- How many steps are left. -/
def fuR : Nat → Nat → Nat
  | 0, _ => 1
  | n + 1, k => (k + 1 + fuR n (k + 1)) + 1

theorem mayRR_loop (l : List (El TShare)) (hb : l.length * 16 ≤ reachBytes) : ∀ (n k : Nat), l.length = k + n →
    mayRR.l1 (fuR n k) l l l.length k = cond (anyN (fun k => !okAt l k) k n) (some (vb false, [])) (some (vb (decide (1 ≤ l.length) && decide (l.length ≤ 64)), []))
  | 0, k, h => by
    have hr := reach_lt
    rw [fuR, mayRR.s1, cond_df (by omega), dec64, anyN]
    by_cases h1 : 1 ≤ l.length
    · rw [cond_dt (by omega), dec_t h1]; rfl
    · rw [cond_df (by omega), dec_f h1]; rfl
  | n + 1, k, h => by
    have hr := reach_lt
    have ht : (l.take k).length = k := by rw [List.length_take]; omega
    have hl2 : mayRR.l2 (k + 1 + fuR n (k + 1)) l l l.length k (l.take k) ((l.take k).length : Int) 0 (rdEl TShare l k).1 (rdEl TShare l k).2 =
        cond ((l.take k).any (idIs (rdEl TShare l k).1)) (some (vb false, [])) (mayRR.l1 (fuR n (k + 1)) l l l.length ((k + 1 : Nat) : Int)) := by
      have := loop_findD (t := TShare) (l.take k) (fun m i => mayRR.l2 m l l l.length k (l.take k) ((l.take k).length : Int) i (rdEl TShare l k).1 (rdEl TShare l k).2) (idIs (rdEl TShare l k).1) (some (vb false, []))
        (fun d => mayRR.l1 d l l l.length ((k + 1 : Nat) : Int)) (fun m i hi => by
          rw [mayRR.s2, cond_dt (by omega), test_d (by omega), test_d (by omega), toNat_cast, w64s (by omega)]
          have : ((rdEl TShare l k).1 == (rdEl TShare (l.take k) i).1) = idIs (rdEl TShare l k).1 (rdEl TShare (l.take k) i) := by
            unfold idIs
            rw [Bool.eq_iff_iff, beq_iff_eq, beq_iff_eq]
            exact ⟨fun h => h.symm, fun h => h.symm⟩
          rw [this]; rfl) (fun m => by
          rw [mayRR.s2, cond_df (by omega), w64s (by omega)]) (fuR n (k + 1)) k 0 (by omega)
      rw [List.drop_zero] at this
      exact this
    rw [fuR, mayRR.s1, cond_dt (by omega), test_d (by omega), test_d (by omega), toNat_cast, test_d (by omega), test_d (by omega), List.drop_zero, hl2]
    refine (part_tree l k (some (vb false, [])) _).trans ?_
    rw [mayRR_loop l hb n (k + 1) (by omega), anyN]
    cases okAt l k <;> rfl

theorem mayRR_ok : mayRR.OK := mayRR.mk SpecsOK.nil fun l hx => by
  have hl : fits (.sl TShare) l = true := by simpa [mayRR.pre] using hx
  refine ⟨fuR l.length 0 + 1, ?_⟩
  rw [mayRR.start]
  exact (mayRR_loop l (len_shs hl) l.length 0 (by omega)).trans (may_res l)

theorem row_in {l : List (Int × Int)} (h : mayRow l = true) : 1 ≤ l.length ∧ l.length ≤ 64 := by
  unfold mayRow at h
  simp only [Bool.and_eq_true, decide_eq_true_eq] at h
  exact h.2

/-! ### once round -/

theorem bump_len (l : List (Int × Int)) (now : List Int) (k : Nat) : (bump l now k).length = now.length := by unfold bump; rw [List.length_set]

theorem spin_top (l : List (Int × Int)) : ∀ (n k top : Nat) (all : Int) (now : List Int), k + n ≤ l.length → top < l.length → (spin l n k top all now).1 < l.length
  | 0, _, _, _, _, _, h => h
  | n + 1, k, top, all, now, h, ht => by
    rw [spin]
    refine spin_top l n (k + 1) _ _ _ (by omega) ?_
    cases ahead l (bump l now k) k top
    · exact ht
    · show k < l.length; omega

theorem spin_len (l : List (Int × Int)) : ∀ (n k top : Nat) (all : Int) (now : List Int), (spin l n k top all now).2.2.length = now.length
  | 0, _, _, _, _ => rfl
  | n + 1, k, top, all, now => by rw [spin, spin_len l n (k + 1), bump_len]

theorem startN_len {row l : List (Int × Int)} {now : List Int} (h : row.length = now.length) : (startN row l now).length = l.length := by
  unfold startN
  cases he : eqSh row l with
  | true => rw [cond_true, ← h, eqSh_iff.1 he]
  | false => rw [cond_false, List.length_replicate]

theorem nowOf_len {row l : List (Int × Int)} {now : List Int} (h : row.length = now.length) : (nowOf row l now).length = l.length := by
  unfold nowOf spun
  rw [List.length_set, spin_len, startN_len h]

/-- What Next hands back, once the row is gone through. -/
def nextEnd (l : List (El TShare)) (s : Nat × Int × List Int) : R :=
  some (.tup [vi .i64 (rdEl TShare l s.1).1, vb true], objBx 0 47 TWheel [none, some 3] (l, s.2.2.set s.1 (IntKind.i64.wrap (rdEl (.int .i64) s.2.2 s.1 - s.2.1))))

theorem nextW_loop (l : List (El TShare)) (hl : l.length ≤ 64) : ∀ (n k top : Nat) (all : Int) (now : List Int), l.length = k + n → top < l.length → now.length = l.length →
    nextW.l1 (n + 1) top all l l.length k l now = nextEnd l (spin l n k top all now)
  | 0, k, top, all, now, h, ht, hn => by
    rw [nextW.s1, cond_df (by omega), test_d (by omega), test_d (by omega), test_d (by omega), test_d (by omega), test_d (by omega), test_d (by omega), toNat_cast]
    rfl
  | n + 1, k, top, all, now, h, ht, hn => by
    rw [nextW.s1, cond_dt (by omega), test_d (by omega), test_d (by omega), test_d (by omega), test_d (by omega), test_d (by omega), test_d (by omega)]
    simp only [toNat_cast]
    rw [w64s (by omega)]
    have hB : List.set now k (IntKind.i64.wrap (rdEl (.int .i64) now k + (rdEl TShare l k).2)) = bump l now k := rfl
    rw [hB]
    have hbl := bump_len l now k
    have ih : ∀ t, t < l.length → nextW.l1 (n + 1) (t : Int) (IntKind.i64.wrap (all + (rdEl TShare l k).2)) l l.length ((k + 1 : Nat) : Int) l (bump l now k) = nextEnd l (spin l n (k + 1) t (IntKind.i64.wrap (all + (rdEl TShare l k).2)) (bump l now k)) :=
      fun t ht => nextW_loop l hl n (k + 1) t _ _ (by omega) ht (by rw [hbl, hn])
    rw [spin]
    generalize bump l now k = b at *
    rw [test_d (by omega), test_d (by omega), test_d (by omega), test_d (by omega), test_d (by omega), test_d (by omega), test_d (by omega), test_d (by omega), test_d (by omega), test_d (by omega), ih k (by omega), ih top ht]
    unfold ahead
    cases decide (rdEl (.int .i64) b k > rdEl (.int .i64) b top) with
    | true => rfl
    | false =>
      cases (rdEl (.int .i64) b k == rdEl (.int .i64) b top) with
      | false => rfl
      | true => cases decide ((rdEl TShare l k).1 < (rdEl TShare l top).1) <;> rfl

theorem wheel_fits {w : El TWheel} (h : fits TWheel w = true) : w.1.length * 16 ≤ reachBytes ∧ w.2.length * 8 ≤ reachBytes := by
  obtain ⟨h1, h2⟩ := fits_prod h
  exact ⟨len_shs h1, fits_len' (n := 8) h2 rfl⟩

theorem nextW_ok : nextW.OK := nextW.mk (mayW_ok.cons' (eqS_ok.cons' (clone_ok.cons' SpecsOK.nil))) fun w l hx => by
  have h : (fits TWheel w && (fits (.sl TShare) l && (decide (w.1.length = w.2.length) && true))) = true := hx
  simp only [Bool.and_eq_true, decide_eq_true_eq] at h
  obtain ⟨hw, hl, hlen, _⟩ := h
  obtain ⟨hw1, hw2⟩ := wheel_fits hw
  refine ⟨l.length + 2, ?_⟩
  rw [nextW.start, test_true (show mayW.pre (l, ()) = true by simpa [mayW.pre] using hl)]
  have hres : nextW.res (w, l, ()) = .tup [vi .i64 (nextI w l), vb (mayRow l)] := rfl
  have hback : nextW.back (w, l, ()) = objBx 0 47 TWheel [none, some 3] (wheelN w l) := rfl
  rw [hres, hback]
  unfold nextI wheelN
  cases hm : mayRow l with
  | false => rfl
  | true =>
    obtain ⟨r1, r2⟩ := row_in hm
    rw [Bool.not_true, cond_false, test_true (show eqS.pre (w.1, l, ()) = true by simpa [eqS.pre] using ⟨(fits_prod hw).1, hl⟩), cond_true, cond_true]
    unfold idOf' nowOf spun startN
    cases he : eqSh w.1 l with
    | true =>
      have hwl := eqSh_iff.1 he
      rw [Bool.not_true, cond_false, cond_true, hwl]
      exact nextW_loop l r2 l.length 0 0 0 w.2 (by omega) (by omega) (by rw [← hlen, hwl])
    | false =>
      rw [Bool.not_false, cond_true, cond_false, test_true (show clone.pre (l, ()) = true by simpa [clone.pre] using hl), test_d (by omega), test_d (by simp only [lim]; omega), toNat_cast]
      exact nextW_loop l r2 l.length 0 0 0 (List.replicate l.length 0) (by omega) (by omega) (by rw [List.length_replicate])

theorem new_ok : new.OK := new.mk .nil fun _ _ => ⟨1, by rw [new.start]; rfl⟩
theorem nextZ_ok : nextZ.OK := nextZ.mk .nil fun l _ => ⟨1, by rw [nextZ.start]; rfl⟩
theorem turnsZ_ok : turnsZ.OK := turnsZ.mk .nil fun _ _ => ⟨1, by rw [turnsZ.start]; rfl⟩

end Go.Proofs.Ytgocadoemofepaa
