/-
  Rows of keys: a sorted row is the only one of its keys.
-/
import Derived.Test.YtlaifjifgoadkaaOB
namespace Go.Proofs.Ytlaifjifgoadkaa
open Go VE

/-- Room for a key, and one more (one less) of it. -/
def room (c : Nat) (x : Ky) (es : En) : En := pE ((bE c x es : Nat) : Int) (IntKind.i64.wrap (gE x es + 1)) (sE c x (gE x es) es)
def roomM (c : Nat) (x : Ky) (es : En) : En := pE ((bE c x es : Nat) : Int) (IntKind.i64.wrap (gE x es - 1)) (sE c x (gE x es) es)

theorem one_tail {l a : List Ky} {N : Int} {i : Nat} {es : En} {c : Nat} (m : Nat) (x y : Ky) (h : i < l.length) (hl : l.length ≤ 200) (hB : Born c es) :
    test (iE ((bE c x es : Nat) : Int) (sE c x (gE x es) es)) (test (decide ((0 : Int) ≤ (i : Int))) (test (decide ((i : Int) < (l.length : Int)))
      (test (iE ((bE (cE c x es) y (room c x es) : Nat) : Int) (sE (cE c x es) y (gE y (room c x es)) (room c x es)))
        (lOne.l1 m l a a a N (IntKind.i64.wrap ((i : Int) + 1)) (roomM (cE c x es) y (room c x es)) (cE (cE c x es) y (room c x es)))))) =
    lOne.l1 m l a a a N ((i + 1 : Nat) : Int) (sE (cE c x es) y (IntKind.i64.wrap (gE y (sE c x (IntKind.i64.wrap (gE x es + 1)) es) - 1)) (sE c x (IntKind.i64.wrap (gE x es + 1)) es))
      (cE (cE c x es) y (sE c x (IntKind.i64.wrap (gE x es + 1)) es)) := by
  have h1 := put_set c x (gE x es) (IntKind.i64.wrap (gE x es + 1)) hB
  have hr : room c x es = sE c x (IntKind.i64.wrap (gE x es + 1)) es := h1.1
  have hB1 := born_set c x (IntKind.i64.wrap (gE x es + 1)) hB
  rw [test_true h1.2, test_d (by omega), test_d (by omega), hr]
  generalize sE c x (IntKind.i64.wrap (gE x es + 1)) es = m1 at hB1 ⊢
  generalize cE c x es = c1 at hB1 ⊢
  have h2 := put_set c1 y (gE y m1) (IntKind.i64.wrap (gE y m1 - 1)) hB1
  have hr2 : roomM c1 y m1 = sE c1 y (IntKind.i64.wrap (gE y m1 - 1)) m1 := h2.1
  rw [test_true h2.2, hr2, w64s (by omega)]

theorem one_step {l a : List Ky} {N : Int} {i : Nat} {es : En} {c : Nat} (m : Nat) (hi : (i : Int) < N) (hl : l.length ≤ 200) (hla : i < l.length) (ha : a.length = l.length) (hs : a.Pairwise Le) (hB : Born c es) :
    lOne.l1 (m + 1) l a a a N (i : Int) es c =
    lOne.l1 m l a a a N ((i + 1 : Nat) : Int) (sE (cE c (rdEl TKey a i) es) (rdEl TKey l i) (IntKind.i64.wrap (gE (rdEl TKey l i) (sE c (rdEl TKey a i) (IntKind.i64.wrap (gE (rdEl TKey a i) es + 1)) es) - 1)) (sE c (rdEl TKey a i) (IntKind.i64.wrap (gE (rdEl TKey a i) es + 1)) es))
      (cE (cE c (rdEl TKey a i) es) (rdEl TKey l i) (sE c (rdEl TKey a i) (IntKind.i64.wrap (gE (rdEl TKey a i) es + 1)) es)) := by
  have tail := one_tail (l := l) (a := a) (N := N) m (rdEl TKey a i) (rdEl TKey l i) hla hl hB
  have d0 : (0 : Int) ≤ (i : Int) := by omega
  have d1 : (i : Int) < (a.length : Int) := by omega
  have hq : (!(((rdEl TKey a i).1 == (rdEl TKey a i).1) && (((rdEl TKey a i).2 == (rdEl TKey a i).2) && true))) = false := by simp
  rw [lOne.s1, toNat_cast, cond_dt hi, test_d d0, test_d d1, test_d d0, test_d d1]
  refine (cond_f hq).trans ?_
  rw [test_d d0, test_d d1, test_d d0, test_d d1]
  refine (cond_f hq).trans ?_
  by_cases h0 : (i : Int) > 0
  · have e : IntKind.i64.wrap ((i : Int) - 1) = ((i - 1 : Nat) : Int) := by rw [w64] <;> omega
    have hless : less (rdEl TKey a i) (rdEl TKey a (i - 1)) = false := sorted_rd hs (i := i - 1) (j := i) (by omega) (by omega)
    rw [cond_dt h0, test_d d0, test_d d1, e, toNat_cast, test_d (by omega), test_d (by omega), cond_f hless, test_d d0, test_d d1]
    exact tail
  · rw [cond_df h0, test_d d0, test_d d1]
    exact tail

theorem one_last {l : List Ky} (hl : l.length ≤ 200) {es : En} {c : Nat} (h : ∀ y, gE y es = 0) : ∀ (n k : Nat), l.length = k + n → ∀ m, lOne.l2 (m + (n + 1)) l (l.length : Int) (k : Int) es c = some (vb true, [])
  | 0, k, hk, m => by
    refine (lOne.s2 m l (l.length : Int) (k : Int) es c).trans ?_
    rw [cond_df (by omega)]
    rfl
  | n + 1, k, hk, m => by
    refine (lOne.s2 (m + (n + 1)) l (l.length : Int) (k : Int) es c).trans ?_
    rw [cond_dt (by omega), test_d (by omega), test_d (by omega), toNat_cast, w64s (by omega)]
    refine (cond_f (show bne (gE (rdEl TKey l k) es) 0 = false by rw [h]; rfl)).trans ?_
    exact one_last hl h n (k + 1) (by omega) m

theorem one_count {x : Ky} {es : En} {c : Nat} {d : Int} (hd : -300 ≤ gE x es + d ∧ gE x es + d ≤ 300) (y : Ky) : gE y (sE c x (IntKind.i64.wrap (gE x es + d)) es) = gE y es + (bif eqEl TKey y x then d else 0) := by
  rw [gE_sE, w64 (by omega) (by omega)]
  cases h : eqEl TKey y x with
  | true => rw [(eqEl_iff y x).1 h]; rfl
  | false => show gE y es = gE y es + 0; omega

theorem one_loop {l a : List Ky} (hl : l.length ≤ 200) (ha : a.length = l.length) (hs : a.Pairwise Le) : ∀ (n i : Nat) (es : En) (c : Nat), l.length = i + n → Born c es → (∀ y, gE y es = cP y (l.drop i) - cP y (a.drop i)) →
    ∃ f, ∀ m, lOne.l1 (m + f) l a a a (l.length : Int) (i : Int) es c = some (vb true, [])
  | 0, i, es, c, hi, hB, hg => by
    have hz : ∀ y, gE y es = 0 := fun y => by
      rw [hg, List.drop_eq_nil_of_le (by omega), List.drop_eq_nil_of_le (by omega)]
      omega
    refine ⟨l.length + 1 + 1, fun m => ?_⟩
    refine (lOne.s1 (m + (l.length + 1)) l a a a (l.length : Int) (i : Int) es c).trans ?_
    rw [cond_df (by omega)]
    exact one_last hl hz l.length 0 (by omega) m
  | n + 1, i, es, c, hi, hB, hg => by
    have el : ∀ y, cP y (l.drop i) = cP y (l.drop (i + 1)) + (bif eqEl TKey y (rdEl TKey l i) then 1 else 0) := fun y => by
      rw [rdEl_drop (t := TKey) l (show i < l.length by omega)]
      exact cP_cons y _ _
    have ea : ∀ y, cP y (a.drop i) = cP y (a.drop (i + 1)) + (bif eqEl TKey y (rdEl TKey a i) then 1 else 0) := fun y => by
      rw [rdEl_drop (t := TKey) a (show i < a.length by omega)]
      exact cP_cons y _ _
    have b1 : ∀ (y : Ky) (s : List Ky) (j : Nat), s.length = l.length → 0 ≤ cP y (s.drop j) ∧ cP y (s.drop j) ≤ 200 := fun y s j hs => by
      have := cP_le y (s.drop j)
      have h2 : (s.drop j).length = s.length - j := List.length_drop ..
      omega
    generalize hx : rdEl TKey a i = x at *
    generalize hy : rdEl TKey l i = z at *
    have gb : ∀ y, -200 ≤ gE y es ∧ gE y es ≤ 200 := fun y => by
      have h1 := b1 y l i rfl
      have h2 := b1 y a i ha
      rw [hg]; omega
    have g1 : ∀ y, gE y (sE c x (IntKind.i64.wrap (gE x es + 1)) es) = gE y es + (bif eqEl TKey y x then 1 else 0) := fun y => one_count (by have := gb x; omega) y
    have gb1 : ∀ y, -201 ≤ gE y (sE c x (IntKind.i64.wrap (gE x es + 1)) es) ∧ gE y (sE c x (IntKind.i64.wrap (gE x es + 1)) es) ≤ 201 := fun y => by
      have := gb y
      rw [g1]
      cases eqEl TKey y x
      · show _ ≤ gE y es + 0 ∧ gE y es + 0 ≤ _; omega
      · show _ ≤ gE y es + 1 ∧ gE y es + 1 ≤ _; omega
    have hB1 := born_set c x (IntKind.i64.wrap (gE x es + 1)) hB
    have hB2 := born_set (cE c x es) z (IntKind.i64.wrap (gE z (sE c x (IntKind.i64.wrap (gE x es + 1)) es) - 1)) hB1
    have g2 : ∀ y, gE y (sE (cE c x es) z (IntKind.i64.wrap (gE z (sE c x (IntKind.i64.wrap (gE x es + 1)) es) - 1)) (sE c x (IntKind.i64.wrap (gE x es + 1)) es)) = cP y (l.drop (i + 1)) - cP y (a.drop (i + 1)) := fun y => by
      have h := one_count (x := z) (es := sE c x (IntKind.i64.wrap (gE x es + 1)) es) (c := cE c x es) (d := -1) (by have := gb1 z; omega) y
      have e : gE z (sE c x (IntKind.i64.wrap (gE x es + 1)) es) - 1 = gE z (sE c x (IntKind.i64.wrap (gE x es + 1)) es) + -1 := by omega
      rw [e, h, g1, hg, el, ea]
      cases eqEl TKey y x <;> cases eqEl TKey y z <;> simp only [cond_true, cond_false] <;> omega
    obtain ⟨f, hf⟩ := one_loop hl ha hs n (i + 1) _ _ (by omega) hB2 g2
    refine ⟨f + 1, fun m => ?_⟩
    have st := one_step (l := l) (a := a) (N := (l.length : Int)) (i := i) (es := es) (c := c) (m + f) (by omega) hl (by omega) ha hs hB
    rw [hx, hy] at st
    exact st.trans (hf m)

theorem turn_some {l : List Ky} (hl : l.length ≤ 200) (t : Int) : IntKind.u64.wrap (IntKind.i64.wrap ((l.length : Int) + 1)) ≠ 0 ∧ ∃ k : Nat, IntKind.i64.wrap (Int.tmod (IntKind.u64.wrap t) (IntKind.u64.wrap (IntKind.i64.wrap ((l.length : Int) + 1)))) = (k : Int) ∧ k ≤ l.length := by
  have hu : ∀ n : Int, IntKind.u64.wrap n = n % 18446744073709551616 := fun n => by simp [IntKind.wrap, IntKind.bits, IntKind.signed]
  have e : IntKind.u64.wrap (IntKind.i64.wrap ((l.length : Int) + 1)) = (l.length : Int) + 1 := by
    rw [w64 (by omega) (by omega), hu]; omega
  have hk : 0 ≤ IntKind.u64.wrap t := by rw [hu]; exact Int.emod_nonneg _ (by omega)
  rw [e, Int.tmod_eq_emod_of_nonneg hk]
  have h2 := Int.emod_nonneg (IntKind.u64.wrap t) (show (l.length : Int) + 1 ≠ 0 by omega)
  have h3 := Int.emod_lt_of_pos (IntKind.u64.wrap t) (show (0 : Int) < (l.length : Int) + 1 by omega)
  rw [w64 (by omega) (by omega)]
  exact ⟨by omega, (IntKind.u64.wrap t % ((l.length : Int) + 1)).toNat, by omega, by omega⟩

theorem lOne_R : lOne.Law := fun l t hx => by
  have hh : ∃ f, lOne.go f l t = some (vb true, []) := by
    by_cases hl : (l.length : Int) > 200
    · exact ⟨1, by rw [lOne.start, cond_dt hl]; rfl⟩
    have hl2 : l.length ≤ 200 := by omega
    have hlim : 1000000 ≤ lim 16 := by decide
    obtain ⟨hn0, k, hk, hkl⟩ := turn_some hl2 t
    have hp : ((([] : List Ky) ++ List.drop k l) ++ List.drop 0 (List.take k l)).Perm l := by
      rw [List.nil_append, List.drop_zero]
      refine List.perm_append_comm.trans ?_
      rw [List.take_append_drop]
    have eb := sort_of_perm hp
    have lb := hp.length_eq
    have e1 : (([] : List Ky) ++ List.drop k l).length = l.length - k := by rw [List.nil_append, List.length_drop]
    have e2 : (List.drop 0 (List.take k l)).length = k := by rw [List.drop_zero, List.length_take]; omega
    have ls := sort_length _ l (Nat.le_refl _)
    have hB : Born 0 ([] : En) := trivial
    obtain ⟨f, hf⟩ := one_loop hl2 ls (sort_sorted _ l (Nat.le_refl _)) l.length 0 [] 0 (by omega) hB (fun y => by
      show (0 : Int) = cP y l - cP y (sort l)
      rw [cP_perm y (sort_perm _ l (Nat.le_refl _))]; omega)
    have hne : bne (l.length : Int) (l.length : Int) = false := by simp [bne]
    refine ⟨0 + f + 1, ?_⟩
    rw [lOne.start, cond_df hl, dec_f hn0, Bool.not_false, test_true rfl, test_true (sort_pre (by omega)), hk, toNat_cast, List.take_length]
    rw [test_d (by omega), test_d (by omega), test_d (by rw [List.length_drop]; simp; omega), test_d (by omega), test_d (by omega), test_d (by rw [e1, e2]; omega), test_true (sort_pre (by rw [lb]; omega)), test_true (sort_pre (by rw [ls]; omega)), eb, sort_twice, ls]
    rw [cond_f hne, cond_f hne, cond_f hne]
    exact hf 0
  obtain ⟨f, hf⟩ := hh
  exact lOne.ret (awake_ok.cons' (sort_ok.cons' (less_ok.cons' SpecsOK.nil))) l t hf

end Go.Proofs.Ytlaifjifgoadkaa
