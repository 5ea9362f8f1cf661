/-
  Rows of keys: Find, and the rows that every program must know.
-/
import Derived.Test.YtnpncjpgihgkcaaB
namespace Go.Proofs.Ytnpncjpgihgkcaa
open Go VE

theorem find_loop : ∀ (n : Nat) (l : List (Int × Int)) (a b : Int) (lo hi : Nat), l.length ≤ 8796093022208 → lo ≤ hi → hi ≤ l.length → hi - lo ≤ n →
    f14.r2 (n + 1) l (lo : Int) (hi : Int) a b =
      some (.tup [.c (.v (.int .i64 ((findN n l (a, b) lo hi : Nat) : Int))), .c (.v (.bool (decide (findN n l (a, b) lo hi < l.length) && ((rdEl TKey l (findN n l (a, b) lo hi)).1 == a && (rdEl TKey l (findN n l (a, b) lo hi)).2 == b))))], [])
  | n, l, a, b, lo, hi, hl, h1, h2, h3 => by
    rw [f14.step2]
    by_cases h : lo < hi
    · cases n with
      | zero => omega
      | succ n =>
        have m1 : IntKind.i64.wrap ((hi : Int) - (lo : Int)) = ((hi - lo : Nat) : Int) := by rw [w64] <;> omega
        have m2 : IntKind.i64.wrap (Int.tdiv ((hi - lo : Nat) : Int) 2) = (((hi - lo) / 2 : Nat) : Int) := by
          rw [Int.tdiv_eq_ediv_of_nonneg (by omega), w64] <;> omega
        have m3 : IntKind.i64.wrap ((lo : Int) + (((hi - lo) / 2 : Nat) : Int)) = ((lo + (hi - lo) / 2 : Nat) : Int) := by rw [w64] <;> omega
        have m4 : IntKind.i64.wrap (((lo + (hi - lo) / 2 : Nat) : Int) + 1) = ((lo + (hi - lo) / 2 + 1 : Nat) : Int) := by rw [w64] <;> omega
        have m5 : (((lo + (hi - lo) / 2 : Nat) : Int)).toNat = lo + (hi - lo) / 2 := by omega
        rw [cond_t (dec_t (by omega)), m1, m2, m3, m4, m5, test_true (dec_t (by omega)), test_true (dec_t (by omega))]
        have e : findN (n + 1) l (a, b) lo hi = if less (rdEl TKey l (lo + (hi - lo) / 2)) (a, b) then findN n l (a, b) (lo + (hi - lo) / 2 + 1) hi else findN n l (a, b) lo (lo + (hi - lo) / 2) := by
          rw [findN, if_pos h]
        rw [e]
        cases hc : less (rdEl TKey l (lo + (hi - lo) / 2)) (a, b) with
        | true =>
          rw [cond_t rfl, if_pos rfl]
          exact find_loop n l a b _ hi hl (by omega) h2 (by omega)
        | false =>
          rw [cond_f rfl, if_neg (by simp)]
          exact find_loop n l a b lo _ hl (by omega) (by omega) (by omega)
    · rw [cond_f (dec_f (by omega))]
      have e : findN n l (a, b) lo hi = lo := by
        cases n with
        | zero => rfl
        | succ n => rw [findN, if_neg h]
      rw [e]
      have m : ((lo : Int)).toNat = lo := by omega
      by_cases h4 : lo < l.length
      · rw [cond_t (dec_t (by omega)), test_true (dec_t (by omega)), test_true (dec_t (by omega)), m]
        simp [h4]
      · rw [cond_f (dec_f (by omega))]
        simp [h4]

theorem find14 : SpecOK Try.prog 14 spFind := by
  refine specOK_of_run (cfg := cfg14) (cfgOK_of mixed tab_ok (less16.cons' SpecsOK.nil)) Try.func14 (by kernel_rfl) (by kernel_rfl) fun args k r h => ?_
  unfold spFind at h
  split at h
  · rename_i l a b
    obtain ⟨h1, h2⟩ := test_some h
    have h1 : List.length l ≤ 8796093022208 := of_decide_eq_true h1
    refine ⟨_, fun k' => test_true (dec_t h1), by show 2 ≤ 42; omega, List.length l + 2, ?_⟩
    have e : run cfg14 Try.f14.ntmps Try.f14.results.toList (List.length l + 2) [.code (bodyOf Try.f14)] (enter [.c (.sl (.prod (.int .i64) (.int .i64)) l), .agg [.v (.int .i64 a), .v (.int .i64 b)]]) = f14.go (List.length l + 2) l a b := by kernel_rfl
    rw [e, f14.start]
    exact find_loop (List.length l) l a b 0 (List.length l) h1 (by omega) (Nat.le_refl _) (by omega)
  · cases h

theorem awake8 : SpecOK Try.prog 8 spTrue := by
  refine specOK_of_run (cfg := cfg8) (cfgOK_of mixed tab_ok (sort9.cons' (find14.cons' (rising15.cons' SpecsOK.nil)))) Try.func8 (by kernel_rfl) (by kernel_rfl) fun args k r h => ?_
  unfold spTrue at h
  split at h
  · refine ⟨_, fun _ => rfl, by show 0 ≤ 43; omega, 1, ?_⟩
    have e : run cfg8 Try.f8.ntmps Try.f8.results.toList 1 [.code (bodyOf Try.f8)] (enter []) = f8.go 1 := by kernel_rfl
    rw [e, f8.start]
    rfl
  · cases h

end Go.Proofs.Ytnpncjpgihgkcaa
