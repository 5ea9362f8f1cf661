/-
  Hashes: each function's contract, continued; the laws' functions.
-/
import Derived.Test.YtdigifchnecnkaaDoorXB
namespace Go.Proofs.YtdigifchnecnkaaDoor
open Go VE

theorem below_ok : below.OK := below.mk SpecsOK.nil fun h n hx => ⟨1, by
  have h' : (true && (true && (decide (0 ≤ h ∧ h < 18446744073709551616 ∧ n ≤ 9223372036854775807) && true))) = true := hx
  simp only [Bool.and_eq_true, decide_eq_true_eq] at h'
  obtain ⟨_, _, ⟨h0, h1, h2⟩, _⟩ := h'
  have hres : below.res (h, n, ()) = vi .i64 (belowN h n) := rfl
  rw [below.start, hres]
  unfold belowN
  by_cases hn : n < 1
  · rw [cond_dt hn, dec_t hn]; rfl
  · have e : IntKind.u64.wrap n ≠ 0 := by rw [wrap_u64]; omega
    rw [cond_df hn, dec_f hn, test_true (by rw [dec_f e]; rfl), below_val h0 h1 (by omega) h2]; rfl⟩
end Go.Proofs.YtdigifchnecnkaaDoor
