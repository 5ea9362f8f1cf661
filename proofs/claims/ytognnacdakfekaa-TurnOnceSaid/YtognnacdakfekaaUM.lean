/-
  Rows gone through: times.
-/
import Derived.Test.YtognnacdakfekaaUL
namespace Go.Proofs.Ytognnacdakfekaa
open Go VE

theorem times_exact {f s t : Int} {n : Nat} (hf : 0 ≤ f) (hs : 1 ≤ s) (h1 : f + (n : Int) * s ≤ t) (h2 : t < f + (n : Int) * s + s) (ht : t ≤ 4611686018427387904) : timesL f s t = upto (fun k => f + (k : Int) * s) (n + 1) := by
  have h0 : 0 ≤ (n : Int) * s := Int.mul_nonneg (by omega) (by omega)
  have e : (t - f) / s = (n : Int) := by
    have g1 : (n : Int) ≤ (t - f) / s := Int.le_ediv_of_mul_le (by omega) (by omega)
    have g2 : (t - f) / s < (n : Int) + 1 := Int.ediv_lt_of_lt_mul (by omega) (by rw [Int.add_mul, Int.one_mul]; omega)
    omega
  unfold timesL
  rw [if_neg (by omega), e]
  rfl

theorem rd_upto {f : Nat → Int} {N k : Nat} (h : k < N) : rdEl (.int .i64) (upto f N) k = f k := by
  unfold rdEl upto
  simp [List.getD, h]
theorem take_upto {f : Nat → Int} {N k : Nat} : (upto f N).take k = upto f (Nat.min k N) := by
  unfold upto
  rw [← List.map_take, List.take_range]

theorem u64_wrap (n : Int) : IntKind.u64.wrap n = n % 18446744073709551616 := by simp [IntKind.wrap, IntKind.bits, IntKind.signed]
/-- A draw below c. -/
theorem drawn (x : Int) {c : Int} (h0 : 0 < c) (h1 : c ≤ 1000000) : ∃ k : Nat, IntKind.i64.wrap (Int.tmod (IntKind.u64.wrap x) c) = (k : Int) ∧ (k : Int) < c := by
  have hk : 0 ≤ IntKind.u64.wrap x := by rw [u64_wrap]; exact Int.emod_nonneg _ (by omega)
  rw [Int.tmod_eq_emod_of_nonneg hk]
  have h2 := Int.emod_nonneg (IntKind.u64.wrap x) (show c ≠ 0 by omega)
  have h3 := Int.emod_lt_of_pos (IntKind.u64.wrap x) h0
  rw [w64 (by omega) (by omega)]
  exact ⟨(IntKind.u64.wrap x % c).toNat, by omega, by omega⟩

theorem times_l1 {f s : Int} {N : Nat} (hf : 0 ≤ f) (hf2 : f ≤ 100000) (hs : 1 ≤ s) (hs2 : s ≤ 1000) (hN : N ≤ 100) : ∀ (n k : Nat), N = k + n →
    lTimes.l1 (n + 1) f s (upto (fun k => f + (k : Int) * s) N) (upto (fun k => f + (k : Int) * s) N) (N : Int) (k : Int) = some (vb true, [])
  | 0, k, hk => by
    rw [lTimes.s1, cond_df (by omega), w64 (by omega) (by omega)]
    have : rowL (timesL f s (f - 1)) 9 = [] := by
      unfold rowL timesL
      rw [if_pos (by omega)]; rfl
    rw [this]
    rfl
  | n + 1, k, hk => by
    have ih := times_l1 hf hf2 hs hs2 hN n (k + 1) (by omega)
    have hb : (k : Int) * s ≤ 100 * 1000 := Int.mul_le_mul (by omega) (by omega) (by omega) (by omega)
    have hb0 : 0 ≤ (k : Int) * s := Int.mul_nonneg (by omega) (by omega)
    have hu := upto_length (fun k : Nat => f + (k : Int) * s) N
    rw [lTimes.s1, cond_dt (by omega), test_d (by omega), test_d (by rw [hu]; omega), toNat_cast, rd_upto (by omega), w64 (n := (k : Int) * s) (by omega) (by omega), w64 (n := f + (k : Int) * s) (by omega) (by omega), cond_f (by simp), test_d (by omega), test_d (by rw [hu]; omega), test_d (by omega), test_d (by rw [hu]; omega), cond_f (by simp), w64s (by omega)]
    exact ih

theorem lTimes_R : lTimes.Law := fun x0 x1 x2 hx => by
  have hh : ∃ f, lTimes.go f x0 x1 x2 = some (vb true, []) := by
    obtain ⟨f, e0, h0⟩ := drawn x0 (c := 100000) (by omega) (by omega)
    obtain ⟨q, e1, h1⟩ := drawn x1 (c := 1000) (by omega) (by omega)
    obtain ⟨n, e2, h2⟩ := drawn x2 (c := 100) (by omega) (by omega)
    have hb : (n : Int) * ((1 : Int) + (q : Int)) ≤ 100 * 1000 := Int.mul_le_mul (by omega) (by omega) (by omega) (by omega)
    have hb0 : 0 ≤ (n : Int) * ((1 : Int) + (q : Int)) := Int.mul_nonneg (by omega) (by omega)
    have w1 : IntKind.i64.wrap ((1 : Int) + (q : Int)) = (1 : Int) + (q : Int) := w64 (by omega) (by omega)
    have t1 := times_exact (f := (f : Int)) (s := (1 : Int) + (q : Int)) (t := (f : Int) + (n : Int) * ((1 : Int) + (q : Int))) (n := n) (by omega) (by omega) (by omega) (by omega) (by omega)
    have t2 := times_exact (f := (f : Int)) (s := (1 : Int) + (q : Int)) (t := (f : Int) + (n : Int) * ((1 : Int) + (q : Int)) + ((1 : Int) + (q : Int)) - 1) (n := n) (by omega) (by omega) (by omega) (by omega) (by omega)
    refine ⟨n + 1 + 1 + 1, ?_⟩
    rw [lTimes.start, e0, e1, e2, w1]
    generalize hs : (1 : Int) + (q : Int) = s at *
    generalize hp : (n : Int) * s = p at *
    rw [w64 (n := p) (by omega) (by omega), w64 (n := (f : Int) + p) (by omega) (by omega), w64 (n := (f : Int) + p + s) (by omega) (by omega), w64 (n := (f : Int) + p + s - 1) (by omega) (by omega), w64 (n := (n : Int) + 1) (by omega) (by omega), t1, t2]
    have hr : rowL (upto (fun k : Nat => (f : Int) + (k : Int) * s) (n + 1)) 200 = upto (fun k : Nat => (f : Int) + (k : Int) * s) (n + 1) := by
      unfold rowL
      exact List.take_of_length_le (by rw [upto_length]; omega)
    rw [hr, upto_length, cond_f (by simp), cond_f (by simp)]
    exact times_l1 (by omega) (by omega) (by omega) (by omega) (by omega) (n + 1) 0 (by omega)
  obtain ⟨f, hf⟩ := hh
  exact lTimes.ret (awake_ok.cons' (times_ok.cons' (row_ok.cons' .nil))) x0 x1 x2 hf

end Go.Proofs.Ytognnacdakfekaa
