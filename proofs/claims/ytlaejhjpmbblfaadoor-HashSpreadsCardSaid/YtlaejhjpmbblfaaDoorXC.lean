/-
  Hashes: each function's contract, continued; the laws' functions.
-/
import Derived.Test.YtlaejhjpmbblfaaDoorXB
namespace Go.Proofs.YtlaejhjpmbblfaaDoor
open Go VE

theorem below_ok : below.OK := below.mk SpecsOK.nil fun h n hx => ⟨1, by
  have h' : (true && (true && (decide (0 ≤ h ∧ h < 18446744073709551616 ∧ n ≤ 9223372036854775807) && true))) = true := hx
  simp only [Bool.and_eq_true, decide_eq_true_eq] at h'
  obtain ⟨_, _, ⟨h0, h1, h2⟩, _⟩ := h'
  have hres : below.res (h, n, ()) = vi .i64 (belowN h n) := rfl
  rw [below.start, hres]
  unfold belowN
  by_cases hn : n < 1
  · rw [cond_dt hn, dec_t hn]; rfl
  · have e : IntKind.u64.wrap n ≠ 0 := by rw [wrap_u64]; omega
    rw [cond_df hn, dec_f hn, test_true (by rw [dec_f e]; rfl), below_val h0 h1 (by omega) h2]; rfl⟩
theorem belowR_ok : belowR.OK := belowR.mk SpecsOK.nil fun h n hx => ⟨1, by
  have h' : (true && (true && (decide (0 ≤ h ∧ h < 18446744073709551616 ∧ n ≤ 9223372036854775807) && true))) = true := hx
  simp only [Bool.and_eq_true, decide_eq_true_eq] at h'
  obtain ⟨_, _, ⟨h0, h1, h2⟩, _⟩ := h'
  have hres : belowR.res (h, n, ()) = vi .i64 (belowN h n) := rfl
  rw [belowR.start, hres]
  unfold belowN
  by_cases hn : n < 1
  · rw [cond_dt hn, dec_t hn]; rfl
  · have e : IntKind.u64.wrap n ≠ 0 := by rw [wrap_u64]; omega
    rw [cond_df hn, dec_f hn, test_true (by rw [dec_f e]; rfl), below_val h0 h1 (by omega) h2]; rfl⟩

/-! ### digits -/

def db (u : Nat) : ByteArray := ⟨(Lib.decDigits u).toArray⟩
def one (u : Nat) : ByteArray := ⟨#[UInt8.ofNat u]⟩

theorem db_small {u : Nat} (h : u < 10) : db u = one (48 + u) := by
  unfold db one
  rw [Lib.decDigits, dif_pos h]
theorem db_big {u : Nat} (h : ¬ u < 10) : db u = db (u / 10) ++ one (48 + u % 10) := by
  unfold db one
  rw [Lib.decDigits, dif_neg h]
  apply ByteArray.ext
  rw [ByteArray.data_append]
  simp

theorem wrap_u8 (n : Int) : IntKind.u8.wrap n = n % 256 := by simp [IntKind.wrap, IntKind.bits, IntKind.signed]
theorem one_str {n : Int} {u : Nat} (h : n = (48 + u : Nat)) (hu : u < 10) : bytesStr (IntKind.u8.wrap (IntKind.i64.wrap n) :: ([] : List Int)) = one (48 + u) := by
  subst h
  have e : IntKind.u8.wrap (IntKind.i64.wrap ((48 + u : Nat) : Int)) = ((48 + u : Nat) : Int) := by
    rw [w64 (by omega) (by omega), wrap_u8]; omega
  rw [e]; rfl
theorem one_size (u : Nat) : (one u).size = 1 := rfl

theorem digits_loop : ∀ (k u : Nat) (s : ByteArray), u < 10 ^ (k + 1) → u < 9223372036854775808 → s.size + k ≤ 100 → digits.l1 (k + 1) (u : Int) s = some (vs (db u ++ s), [])
  | k, u, s, hu, hu2, hs => by
    have t1 : Int.tmod (u : Int) 10 = ((u % 10 : Nat) : Int) := by rw [Int.tmod_eq_emod_of_nonneg (by omega)]; omega
    have t2 : Int.tdiv (u : Int) 10 = ((u / 10 : Nat) : Int) := by rw [Int.tdiv_eq_ediv_of_nonneg (by omega)]; omega
    have t3 : IntKind.i64.wrap ((u / 10 : Nat) : Int) = ((u / 10 : Nat) : Int) := w64 (by omega) (by omega)
    have e1 : bytesStr (IntKind.u8.wrap (IntKind.i64.wrap ((48 : Int) + ((u % 10 : Nat) : Int))) :: ([] : List Int)) = one (48 + u % 10) := one_str (by omega) (by omega)
    rw [digits.s1, t1, t2, t3, e1, test_d (by rw [one_size]; omega)]
    by_cases h10 : u < 10
    · have h0 : ((u / 10 : Nat) : Int) = 0 := by omega
      have hm : u % 10 = u := by omega
      rw [cond_et h0, hm, db_small h10]; rfl
    · have h0 : ((u / 10 : Nat) : Int) ≠ 0 := by omega
      cases k with
      | zero => omega
      | succ k =>
        rw [cond_ef h0, digits_loop k (u / 10) _ (by rw [Nat.pow_succ] at hu; omega) (by omega) (by rw [append_size, one_size]; omega), db_big h10, ByteArray.append_assoc]

theorem minus_loop : ∀ (k u : Nat) (s : ByteArray), u < 10 ^ (k + 1) → u ≤ 9223372036854775808 → s.size + k ≤ 100 → minus.l1 (k + 1) (-(u : Int)) s = some (vs ((⟨#[45]⟩ : ByteArray) ++ (db u ++ s)), [])
  | k, u, s, hu, hu2, hs => by
    have t1 : Int.tmod (-(u : Int)) 10 = -((u % 10 : Nat) : Int) := by
      rw [Int.neg_tmod, Int.tmod_eq_emod_of_nonneg (by omega)]; omega
    have t2 : Int.tdiv (-(u : Int)) 10 = -((u / 10 : Nat) : Int) := by
      rw [Int.neg_tdiv, Int.tdiv_eq_ediv_of_nonneg (by omega)]; omega
    have t3 : IntKind.i64.wrap (-((u / 10 : Nat) : Int)) = -((u / 10 : Nat) : Int) := w64 (by omega) (by omega)
    have e1 : bytesStr (IntKind.u8.wrap (IntKind.i64.wrap ((48 : Int) - (-((u % 10 : Nat) : Int)))) :: ([] : List Int)) = one (48 + u % 10) := one_str (by omega) (by omega)
    have hone : (⟨#[45]⟩ : ByteArray).size = 1 := rfl
    rw [minus.s1, t1, t2, t3, e1, test_d (by rw [one_size]; omega)]
    by_cases h10 : u < 10
    · have h0 : -((u / 10 : Nat) : Int) = 0 := by omega
      have hm : u % 10 = u := by omega
      rw [cond_et h0, hm, db_small h10, test_d (by rw [hone, append_size, one_size]; omega)]; rfl
    · have h0 : -((u / 10 : Nat) : Int) ≠ 0 := by omega
      cases k with
      | zero => omega
      | succ k =>
        rw [cond_ef h0, minus_loop k (u / 10) _ (by rw [Nat.pow_succ] at hu; omega) (by omega) (by rw [append_size, one_size]; omega), db_big h10, ByteArray.append_assoc]

theorem append_empty (a : ByteArray) : a ++ (⟨#[]⟩ : ByteArray) = a := ByteArray.append_empty
theorem itoa_neg {n : Int} (h : n < 0) : itoaB n = (⟨#[45]⟩ : ByteArray) ++ db n.natAbs := by
  unfold itoaB Lib.itoa db
  rw [if_pos h]
  apply ByteArray.ext
  rw [ByteArray.data_append]
  simp
theorem itoa_pos {n : Int} (h : ¬ n < 0) : itoaB n = db n.toNat := by
  unfold itoaB Lib.itoa db
  rw [if_neg h]

theorem minus_ok : minus.OK := minus.mk SpecsOK.nil fun n hx => by
  have h' : (true && (decide (-9223372036854775808 ≤ n ∧ n < 0) && true)) = true := hx
  simp only [Bool.and_eq_true, decide_eq_true_eq] at h'
  obtain ⟨_, ⟨h0, h1⟩, _⟩ := h'
  have e : (10 : Nat) ^ 20 = 100000000000000000000 := rfl
  have hz : (⟨#[]⟩ : ByteArray).size = 0 := rfl
  have hl := minus_loop 19 n.natAbs ⟨#[]⟩ (by omega) (by omega) (by rw [hz]; omega)
  rw [show -(n.natAbs : Int) = n by omega, append_empty] at hl
  refine ⟨21, ?_⟩
  have hres : minus.res (n, ()) = vs (itoaB n) := rfl
  rw [minus.start, hres, itoa_neg h1]
  exact hl

theorem digits_ok : digits.OK := digits.mk (minus_ok.cons' SpecsOK.nil) fun n hx => by
  have h' : (true && (decide (-9223372036854775808 ≤ n ∧ n ≤ 9223372036854775807) && true)) = true := hx
  simp only [Bool.and_eq_true, decide_eq_true_eq] at h'
  obtain ⟨_, ⟨h0, h1⟩, _⟩ := h'
  have hres : digits.res (n, ()) = vs (itoaB n) := rfl
  refine ⟨21, ?_⟩
  rw [digits.start, hres]
  by_cases hn : n < 0
  · rw [cond_dt hn, test_true (show minus.pre (n, ()) = true by
      show (true && (decide (-9223372036854775808 ≤ n ∧ n < 0) && true)) = true
      rw [dec_t ⟨h0, hn⟩]; rfl)]
    rfl
  · have e : (10 : Nat) ^ 20 = 100000000000000000000 := rfl
    have hz : (⟨#[]⟩ : ByteArray).size = 0 := rfl
    have hl := digits_loop 19 n.toNat ⟨#[]⟩ (by omega) (by omega) (by rw [hz]; omega)
    rw [show (n.toNat : Int) = n by omega, append_empty] at hl
    rw [cond_df hn, itoa_pos hn]
    exact hl

/-! ### what every program must know -/

theorem itoa_one : itoaB 1 = (⟨#[49]⟩ : ByteArray) := by
  rw [itoa_pos (by decide), db_small (by decide)]; rfl
theorem awake_ok : awake.OK := awake.mk (text_ok.cons' (with_ok.cons' (below_ok.cons' SpecsOK.nil))) fun _ _ => ⟨1, by
  have e1 : bne (textN (⟨#[97]⟩ : ByteArray)) (textN (⟨#[98]⟩ : ByteArray)) = true := by
    rw [textN_eq, textN_eq]; kernel_rfl
  have e2 : withN (⟨#[97]⟩ : ByteArray) 1 = textN (⟨#[97, 35, 49]⟩ : ByteArray) := by
    unfold withN
    rw [itoa_one]
    congr 1
  rw [awake.start, e1, cond_true, cond_et e2]; rfl⟩

/-! ### the laws -/

theorem lForms_R : lForms.Law := fun s n h m hx => by
  have h' : (fits .str s && (true && (true && (true && (decide (0 ≤ h ∧ h < 18446744073709551616 ∧ -9223372036854775808 ≤ n ∧ n ≤ 9223372036854775807 ∧ m ≤ 9223372036854775807) && true))))) = true := hx
  simp only [Bool.and_eq_true, decide_eq_true_eq] at h'
  obtain ⟨hs, _, _, _, ⟨h0, h1, h2, h3, h4⟩, _⟩ := h'
  have hh : ∃ f, lForms.go f s n h m = some (vb true, []) := by
    refine ⟨1, ?_⟩
    rw [lForms.start]
    by_cases hc : (s.size : Int) > 2000
    · rw [cond_dt hc]; rfl
    have p1 : (fits .str s && true) = true := by rw [hs]; rfl
    have p2 : (fits .str s && (true && (decide (s.size ≤ 100000 ∧ -9223372036854775808 ≤ n ∧ n ≤ 9223372036854775807) && true))) = true := by
      rw [hs, dec_t ⟨by omega, h2, h3⟩]; rfl
    have p3 : (true && (true && (decide (0 ≤ h ∧ h < 18446744073709551616 ∧ m ≤ 9223372036854775807) && true))) = true := by
      rw [dec_t ⟨h0, h1, h4⟩]; rfl
    rw [cond_df hc, test_true (show text.pre (s, ()) = true from p1), test_true (show textR.pre (s, ()) = true from p1), cond_et rfl, test_true (show with.pre (s, n, ()) = true from p2), test_true (show withR.pre (s, n, ()) = true from p2), cond_et rfl,
      test_true (show below.pre (h, m, ()) = true from p3), test_true (show belowR.pre (h, m, ()) = true from p3), cond_et rfl]
    rfl
  obtain ⟨f, hf⟩ := hh
  exact lForms.ret (awake_ok.cons' (text_ok.cons' (textR_ok.cons' (with_ok.cons' (withR_ok.cons' (below_ok.cons' (belowR_ok.cons' SpecsOK.nil))))))) s n h m hf

theorem lForms_pre (s : ByteArray) (n h m : Int) (hx : wfs [(false, .str), (false, .int .i64), (false, .int .u64), (false, .int .i64)] (s, n, h, m, ())) : lForms.pre (s, n, h, m, ()) = true := by
  have b1 : s.size ≤ reachBytes := hx.1
  have b2 : -9223372036854775808 ≤ n ∧ n ≤ 9223372036854775807 := hx.2.1
  have b3 : 0 ≤ h ∧ h ≤ 18446744073709551615 := hx.2.2.1
  have b4 : -9223372036854775808 ≤ m ∧ m ≤ 9223372036854775807 := hx.2.2.2.1
  show (fits .str s && (true && (true && (true && (decide (0 ≤ h ∧ h < 18446744073709551616 ∧ -9223372036854775808 ≤ n ∧ n ≤ 9223372036854775807 ∧ m ≤ 9223372036854775807) && true))))) = true
  rw [fits_str' b1, dec_t ⟨b3.1, by omega, b2.1, b2.2, b4.2⟩]; rfl

end Go.Proofs.YtlaejhjpmbblfaaDoor
