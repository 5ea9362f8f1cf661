/-
  Rows gone through: whatever the numbers and the text.
-/
import Derived.Test.YtognnacdakfekaaUM
namespace Go.Proofs.Ytognnacdakfekaa
open Go VE

/-- Where in the turn each number stands. -/
theorem rd_turn {n f : Int} {k : Nat} (hk : (k : Int) < n) : rdEl (.int .i64) (turnL n f) k = if (k : Int) < n - first n f then first n f + (k : Int) else (k : Int) - (n - first n f) := by
  have hb := first_lt (n := n) (f := f) (by omega)
  unfold turnL
  rw [if_neg (by omega)]
  unfold rdEl
  rw [List.getD_eq_getElem?_getD, List.getElem?_append, upto_length]
  by_cases h : (k : Int) < n - first n f
  · rw [if_pos (by omega), if_pos h]
    have := rd_upto (f := fun j : Nat => first n f + (j : Int)) (N := (n - first n f).toNat) (k := k) (by omega)
    unfold rdEl at this
    rw [List.getD_eq_getElem?_getD] at this
    exact this
  · rw [if_neg (by omega), if_neg h]
    have := rd_upto (f := fun j : Nat => (j : Int)) (N := (first n f).toNat) (k := k - (n - first n f).toNat) (by omega)
    unfold rdEl at this
    rw [List.getD_eq_getElem?_getD] at this
    refine this.trans ?_
    show ((k - (n - first n f).toNat : Nat) : Int) = _
    omega

theorem draw_pre {d n : Int} (h : n ≤ 1000000) : draw.pre (d, n, ()) = true := by
  show (true && (true && (decide (n ≤ 1000000) && true))) = true
  rw [dec_t h]; rfl

theorem forms_l1 {n from' : Int} (hn : 1 ≤ n) (hn2 : n ≤ 500) {x1 x2 x3 : Int} {s : ByteArray} {b : Int} (hx : x1 = from') (m : Nat) : ∀ (d k : Nat), (turnL n from').length = k + d →
    lForms.l1 (m + (d + 1)) n x1 x2 x3 s b (turnL n from') ((turnL n from').length : Int) (k : Int) = lForms.l1 (m + 1) n x1 x2 x3 s b (turnL n from') ((turnL n from').length : Int) (((turnL n from').length : Nat) : Int)
  | 0, k, hk => by
    have : k = (turnL n from').length := by omega
    rw [this, Nat.zero_add]
  | d + 1, k, hk => by
    subst hx
    have ih := forms_l1 (from' := x1) hn hn2 (x1 := x1) (x2 := x2) (x3 := x3) (s := s) (b := b) rfl m d (k + 1) (by omega)
    have hl := turnL_length (n := n) (f := x1)
    have hb := first_lt (n := n) (f := x1) hn
    refine (lForms.s1 (m + (d + 1)) n x1 x2 x3 s b (turnL n x1) _ _).trans ?_
    rw [cond_dt (by omega), test_d (by omega), test_d (by omega), dec_f (show ¬ n = 0 by omega), Bool.not_false, test_true rfl, toNat_cast, rd_turn (by omega)]
    have e1 : drawR x1 n = first n x1 := by unfold drawR; rw [if_neg (by omega)]
    have e2 : Int.tmod (IntKind.i64.wrap (drawR x1 n + (k : Int))) n = if (k : Int) < n - first n x1 then first n x1 + (k : Int) else (k : Int) - (n - first n x1) := by
      rw [e1, w64 (by omega) (by omega), Int.tmod_eq_emod_of_nonneg (by omega)]
      split
      · exact Int.emod_eq_of_lt (by omega) (by omega)
      · have : (first n x1 + (k : Int)) % n = (first n x1 + (k : Int) - n) % n := by rw [Int.sub_emod_right]
        rw [this, Int.emod_eq_of_lt (by omega) (by omega)]
        omega
    rw [e2, cond_f (by simp), w64s (by omega), test_true (draw_pre (by omega))]
    exact ih

theorem forms_l2 {x0 x1 x2 : Int} {L : List ByteArray} (hl : L.length ≤ 1001) (m : Nat) : ∀ (d k : Nat), L.length = k + d →
    lForms.l2 (m + (d + 1)) x0 x1 x2 L L (L.length : Int) (k : Int) = lForms.l2 (m + 1) x0 x1 x2 L L (L.length : Int) ((L.length : Nat) : Int)
  | 0, k, hk => by
    have : k = L.length := by omega
    rw [this, Nat.zero_add]
  | d + 1, k, hk => by
    have ih := forms_l2 (x0 := x0) (x1 := x1) (x2 := x2) hl m d (k + 1) (by omega)
    refine (lForms.s2 (m + (d + 1)) x0 x1 x2 L L _ _).trans ?_
    rw [cond_dt (by omega), test_d (by omega), test_d (by omega), test_d (by omega), test_d (by omega), cond_f (by simp), w64s (by omega)]
    exact ih

theorem times_fact {f s t : Int} (hs : 1 ≤ s) (hf : 0 ≤ f) (ht : t ≤ 4611686018427387904) (hft : f ≤ t) : ∃ N : Nat, timesL f s t = upto (fun k => f + (k : Int) * s) (N + 1) ∧ (∀ k : Nat, k ≤ N → f + (k : Int) * s ≤ t) ∧ t - (f + (N : Int) * s) < s := by
  have hq : 0 ≤ (t - f) / s := Int.ediv_nonneg (by omega) (by omega)
  refine ⟨((t - f) / s).toNat, by unfold timesL; rw [if_neg (by omega)], fun k hk => ?_, ?_⟩
  · have h1 : (k : Int) * s ≤ ((t - f) / s) * s := Int.mul_le_mul_of_nonneg_right (by omega) (by omega)
    have h2 := Int.ediv_mul_le (t - f) (show s ≠ 0 by omega)
    omega
  · have e : (((t - f) / s).toNat : Int) = (t - f) / s := by omega
    rw [e]
    have h1 := Int.emod_add_mul_ediv (t - f) s
    have h2 := Int.emod_lt_of_pos (t - f) (show 0 < s by omega)
    have h3 : s * ((t - f) / s) = (t - f) / s * s := Int.mul_comm _ _
    omega

theorem rd_lin {f s : Int} {N k : Nat} (h : k < N) : rdEl (.int .i64) (upto (fun k : Nat => f + (k : Int) * s) N) k = f + (k : Int) * s := rd_upto h

theorem forms_l3 {f s t : Int} {M : Nat} (hs : 1 ≤ s) (hf : 0 ≤ f) (ht : t ≤ 4611686018427387904) (hM0 : 0 < M) (hM : M ≤ 300) (hle : ∀ k : Nat, k < M → f + (k : Int) * s ≤ t) (hend : M = 300 ∨ t - (f + ((M - 1 : Nat) : Int) * s) < s) (m : Nat) :
    ∀ (d k : Nat), M = k + d → lForms.l3 (m + (d + 1)) f s t (upto (fun k => f + (k : Int) * s) M) (upto (fun k => f + (k : Int) * s) M) (M : Int) (k : Int) = some (vb true, [])
  | 0, k, hk => by
    have hu := upto_length (fun k : Nat => f + (k : Int) * s) M
    refine (lForms.s3 m f s t _ _ _ _).trans ?_
    rw [cond_df (by omega), hu, cond_dt (by omega)]
    by_cases h3 : M = 300
    · rw [cond_et (by omega)]; rfl
    · have hq := hle (M - 1) (by omega)
      have e : IntKind.i64.wrap ((M : Int) - 1) = ((M - 1 : Nat) : Int) := by rw [w64] <;> omega
      have h0 : 0 ≤ ((M - 1 : Nat) : Int) * s := Int.mul_nonneg (by omega) (by omega)
      rw [cond_ef (by omega), e, test_d (by omega), test_d (by omega), toNat_cast, rd_lin (by omega), w64 (by omega) (by omega), cond_dt (by omega)]
      rfl
  | d + 1, k, hk => by
    have ih := forms_l3 hs hf ht hM0 hM hle hend m d (k + 1) (by omega)
    have hu := upto_length (fun k : Nat => f + (k : Int) * s) M
    have h0 : 0 ≤ (k : Int) * s := Int.mul_nonneg (by omega) (by omega)
    have hk2 := hle k (by omega)
    refine (lForms.s3 (m + (d + 1)) f s t _ _ _ _).trans ?_
    rw [cond_dt (by omega), test_d (by omega), test_d (by omega), toNat_cast, rd_lin (by omega), cond_df (show ¬ (f + (k : Int) * s < 0) by omega), cond_df (show ¬ (f + (k : Int) * s > t) by omega)]
    by_cases hk0 : k = 0
    · subst hk0
      rw [cond_et (by omega), cond_f (by simp), cond_df (by omega), w64s (by omega)]
      exact ih
    · have e : IntKind.i64.wrap ((k : Int) - 1) = ((k - 1 : Nat) : Int) := by rw [w64] <;> omega
      have e2 : f + (k : Int) * s - (f + ((k - 1 : Nat) : Int) * s) = s := by
        have : (k : Int) = ((k - 1 : Nat) : Int) + 1 := by omega
        rw [this, Int.add_mul, Int.one_mul]; omega
      have hs2 : s ≤ 4611686018427387904 := by
        have : 1 * s ≤ (k : Int) * s := Int.mul_le_mul_of_nonneg_right (by omega) (by omega)
        omega
      rw [cond_ef (by omega), cond_dt (by omega), e, test_d (by omega), test_d (by omega), toNat_cast, rd_lin (by omega), e2, w64 (n := s) (by omega) (by omega), cond_f (by simp), w64s (by omega)]
      exact ih

theorem row_none {f s t n : Int} (h : s < 1 ∨ f < 0 ∨ 4611686018427387904 < t ∨ t < f) : (((rowL (timesL f s t) n).length : Int) == 0) = true := by
  unfold rowL timesL
  rw [if_pos h]; simp

theorem forms_end {f s t : Int} {L : List ByteArray} (hl : L.length ≤ 1001) : ∃ d, ∀ m, lForms.l2 (m + d + 1) f s t L L (L.length : Int) ((L.length : Nat) : Int) = some (vb true, []) := by
  by_cases h1 : s < 1
  · exact ⟨0, fun m => by rw [lForms.s2, cond_df (by omega), cond_dt h1, cond_t (row_none (.inl h1))]; rfl⟩
  by_cases h2 : f < 0
  · exact ⟨0, fun m => by rw [lForms.s2, cond_df (by omega), cond_df h1, cond_dt h2, cond_t (row_none (.inr (.inl h2)))]; rfl⟩
  by_cases h3 : t > 4611686018427387904
  · exact ⟨0, fun m => by rw [lForms.s2, cond_df (by omega), cond_df h1, cond_df h2, cond_dt h3, cond_t (row_none (.inr (.inr (.inl h3))))]; rfl⟩
  by_cases h4 : f > t
  · exact ⟨0, fun m => by rw [lForms.s2, cond_df (by omega), cond_df h1, cond_df h2, cond_df h3, cond_dt h4, cond_t (row_none (.inr (.inr (.inr h4))))]; rfl⟩
  obtain ⟨N, hN, hle, hend⟩ := times_fact (f := f) (s := s) (t := t) (by omega) (by omega) (by omega) (by omega)
  have hr : rowL (timesL f s t) 300 = upto (fun k => f + (k : Int) * s) (Nat.min 300 (N + 1)) := by
    unfold rowL
    rw [hN]; exact take_upto
  obtain ⟨M, hM⟩ : ∃ M, Nat.min 300 (N + 1) = M := ⟨_, rfl⟩
  have hM1 : M ≤ 300 ∧ M ≤ N + 1 ∧ (M = 300 ∨ M = N + 1) := by
    rw [← hM]
    show min 300 (N + 1) ≤ 300 ∧ min 300 (N + 1) ≤ N + 1 ∧ (min 300 (N + 1) = 300 ∨ min 300 (N + 1) = N + 1)
    omega
  rw [hM] at hr
  refine ⟨M + 1, fun m => ?_⟩
  rw [lForms.s2, cond_df (by omega), cond_df h1, cond_df h2, cond_df h3, cond_df h4, hr, upto_length]
  exact forms_l3 (by omega) (by omega) (by omega) (by omega) (by omega) (fun k hk => hle k (by omega)) (hM1.2.2.imp id fun h => by rw [h]; exact hend) m M 0 (by omega)

theorem rowT_pre {n f k : Int} (hn : n ≤ 1000000) (hk : k ≤ 1000000) : rowT.pre ((n, f, ()), k, ()) = true := by
  show (true && (true && (true && ((decide (n ≤ 1000000) && decide (k ≤ 1000000)) && true)))) = true
  rw [dec_t hn, dec_t hk]; rfl
theorem partsR_pre {s : ByteArray} {b : Int} (h : s.size ≤ 1000) : partsR.pre (s, b, ()) = true := by
  show (fits .str s && (true && (decide (s.size ≤ 1000) && true))) = true
  have : fits .str s = true := decide_eq_true (show s.size ≤ reachBytes by have : reachBytes = 140737488351232 := rfl; omega)
  rw [this, dec_t h]; rfl

theorem lForms_R : lForms.Law := fun n f s t x b hx => by
  have hh : ∃ d, lForms.go d n f s t x b = some (vb true, []) := by
    by_cases h1 : n > 500
    · exact ⟨1, by rw [lForms.start, cond_dt h1]; rfl⟩
    by_cases h2 : (x.size : Int) > 1000
    · exact ⟨1, by rw [lForms.start, cond_df h1, cond_dt h2]; rfl⟩
    have hxs : x.size ≤ 1000 := by omega
    have hlen := turnL_length (n := n) (f := f)
    have hr : rowL (turnL n f) 600 = turnL n f := List.take_of_length_le (by rw [hlen]; omega)
    have e0 : ((turnL n f).length : Int) = ite (n > 0) n 0 := by
      rw [hlen]; split <;> omega
    obtain ⟨d, hd⟩ := forms_end (f := f) (s := s) (t := t) (L := partsL x b) (parts_len hxs)
    have e1 : ∀ m, lForms.l1 (m + d + 1 + (partsL x b).length + 1) n f s t x b (turnL n f) ((turnL n f).length : Int) (((turnL n f).length : Nat) : Int) = some (vb true, []) := fun m => by
      refine (lForms.s1 _ n f s t x b _ _ _).trans ?_
      rw [cond_df (by omega), test_true (parts_pre hxs), test_true (partsR_pre hxs), cond_f (by simp)]
      have := forms_l2 (x0 := f) (x1 := s) (x2 := t) (L := partsL x b) (parts_len hxs) (m + d) (partsL x b).length 0 (by omega)
      rw [show m + d + 1 + (partsL x b).length = m + d + ((partsL x b).length + 1) by omega]
      exact this.trans (hd m)
    refine ⟨(0 + d + 1 + (partsL x b).length) + ((turnL n f).length + 1) + 1, ?_⟩
    rw [lForms.start, cond_df h1, cond_df h2, test_true (rowT_pre (by omega) (by omega)), hr, cond_f (by rw [e0]; simp)]
    by_cases h0 : 1 ≤ n
    · exact (forms_l1 h0 (by omega) rfl _ (turnL n f).length 0 (by omega)).trans (e1 0)
    · have hz : turnL n f = [] := by unfold turnL; rw [if_pos (by omega)]
      have := e1 0
      rw [hz] at this ⊢
      exact this
  obtain ⟨d, hd⟩ := hh
  exact lForms.ret (awake_ok.cons' (turn_ok.cons' (times_ok.cons' (parts_ok.cons' (partsR_ok.cons' (draw_ok.cons' (row_ok.cons' .nil))))))) n f s t x b hd

end Go.Proofs.Ytognnacdakfekaa
