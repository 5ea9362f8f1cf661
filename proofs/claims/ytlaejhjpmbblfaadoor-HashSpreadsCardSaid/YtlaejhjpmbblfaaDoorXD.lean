/-
  Hashes: the laws' functions, continued.
-/
import Derived.Test.YtlaejhjpmbblfaaDoorXC
namespace Go.Proofs.YtlaejhjpmbblfaaDoor
open Go VE

/-! ### unlike last bytes -/

theorem mul_inj {x y p q : BitVec 64} (hpq : p * q = 1#64) (h : x * p = y * p) : x = y := by
  have h1 : x * p * q = y * p * q := by rw [h]
  rw [BitVec.mul_assoc, BitVec.mul_assoc, hpq, BitVec.mul_one, BitVec.mul_one] at h1
  exact h1
theorem xor_inj {h x y : BitVec 64} (e : h ^^^ x = h ^^^ y) : x = y := by
  have h1 : h ^^^ (h ^^^ x) = h ^^^ (h ^^^ y) := by rw [e]
  rw [← BitVec.xor_assoc, ← BitVec.xor_assoc, BitVec.xor_self, BitVec.zero_xor, BitVec.zero_xor] at h1
  exact h1
theorem shift_back (x : BitVec 64) : (x ^^^ (x >>> 33)) ^^^ ((x ^^^ (x >>> 33)) >>> 33) = x := by
  apply BitVec.eq_of_getLsbD_eq
  intro i hi
  simp only [BitVec.getLsbD_xor, BitVec.getLsbD_ushiftRight]
  have : x.getLsbD (33 + (33 + i)) = false := BitVec.getLsbD_of_ge x _ (by omega)
  rw [this]
  cases x.getLsbD i <;> cases x.getLsbD (33 + i) <;> rfl
theorem shift_inj {x y : BitVec 64} (h : x ^^^ (x >>> 33) = y ^^^ (y >>> 33)) : x = y := by
  rw [← shift_back x, ← shift_back y, h]
theorem fin_inj {x y : BitVec 64} (h : finB x = finB y) : x = y := by
  unfold finB at h
  have h1 := shift_inj h
  exact shift_inj (mul_inj (p := 0xff51afd7ed558ccd#64) (q := 0x4f74430c22a54005#64) (by decide) h1)
theorem step_inj {h : BitVec 64} {a b : Int} (ha : 0 ≤ a ∧ a < 256) (hb : 0 ≤ b ∧ b < 256) (e : stepB h a = stepB h b) : a = b := by
  unfold stepB at e
  have h1 := xor_inj (mul_inj (p := 0x100000001b3#64) (q := 0xce965057aff6957b#64) (by decide) e)
  have h2 := congrArg BitVec.toNat h1
  rw [BitVec.toNat_ofInt, BitVec.toNat_ofInt] at h2
  have e2 : ((2 : Nat) ^ 64 : Nat) = 18446744073709551616 := rfl
  rw [e2] at h2
  omega

theorem nums_append (s t : ByteArray) : nums (s ++ t) = nums s ++ nums t := by
  unfold nums
  rw [ByteArray.data_append]
  simp
theorem nums_one {a : Int} (h : 0 ≤ a ∧ a < 256) : nums (bytesStr (a :: ([] : List Int))) = [a] := by
  show [((UInt8.ofNat a.toNat).toNat : Int)] = [a]
  have : (UInt8.ofNat a.toNat).toNat = a.toNat := by
    rw [UInt8.toNat_ofNat']
    exact Nat.mod_eq_of_lt (by omega)
  rw [this]
  congr 1
  omega

theorem text_last (s : ByteArray) {a : Int} (h : 0 ≤ a ∧ a < 256) : textN (s ++ bytesStr (a :: ([] : List Int))) = ((finB (stepB (hashB (nums s) 0xcbf29ce484222325#64) a)).toNat : Int) := by
  have e : hashB (nums s ++ [a]) 0xcbf29ce484222325#64 = stepB (hashB (nums s) 0xcbf29ce484222325#64) a := by
    unfold hashB
    rw [List.foldl_append, List.foldl_cons, List.foldl_nil]
  rw [textN_eq, textB, nums_append, nums_one h, e]

theorem lLast_R : lLast.Law := fun s a b hx => by
  have h' : (fits .str s && (true && (true && (decide (0 ≤ a ∧ a < 256 ∧ 0 ≤ b ∧ b < 256) && true)))) = true := hx
  simp only [Bool.and_eq_true, decide_eq_true_eq] at h'
  obtain ⟨hs, _, _, ⟨a0, a1, b0, b1⟩, _⟩ := h'
  have hh : ∃ f, lLast.go f s a b = some (vb true, []) := by
    refine ⟨1, ?_⟩
    rw [lLast.start]
    by_cases hc : (s.size : Int) > 500
    · rw [cond_dt hc]; rfl
    have hR : reachBytes = 140737488351232 := rfl
    have hz : ∀ c : Int, (bytesStr (c :: ([] : List Int))).size = 1 := fun c => rfl
    have p : ∀ c : Int, text.pre (s ++ bytesStr (c :: ([] : List Int)), ()) = true := fun c => by
      show (fits .str (s ++ bytesStr (c :: ([] : List Int))) && true) = true
      rw [fits_str' (by rw [append_size, hz, hR]; omega)]; rfl
    have key : ((textN (s ++ bytesStr (a :: ([] : List Int))) == textN (s ++ bytesStr (b :: ([] : List Int)))) == (a == b)) = true := by
      by_cases hab : a = b
      · subst hab; simp
      · have h1 : (a == b) = false := by simpa using hab
        have h2 : (textN (s ++ bytesStr (a :: ([] : List Int))) == textN (s ++ bytesStr (b :: ([] : List Int)))) = false := by
          rw [beq_eq_false_iff_ne, text_last s ⟨a0, a1⟩, text_last s ⟨b0, b1⟩]
          intro e
          have e := BitVec.eq_of_toNat_eq (Int.ofNat.inj e)
          exact hab (step_inj ⟨a0, a1⟩ ⟨b0, b1⟩ (fin_inj e))
        rw [h1, h2]; rfl
    rw [cond_df hc, test_d (by rw [hz]; omega), test_true (p a), test_d (by rw [hz]; omega), test_true (p b), cond_t key]
    rfl
  obtain ⟨f, hf⟩ := hh
  exact lLast.ret (awake_ok.cons' (text_ok.cons' SpecsOK.nil)) s a b hf

theorem lLast_pre (s : ByteArray) (a b : Int) (hx : wfs [(false, .str), (false, .int .u8), (false, .int .u8)] (s, a, b, ())) : lLast.pre (s, a, b, ()) = true := by
  have b1 : s.size ≤ reachBytes := hx.1
  have b2 : 0 ≤ a ∧ a ≤ 255 := hx.2.1
  have b3 : 0 ≤ b ∧ b ≤ 255 := hx.2.2.1
  show (fits .str s && (true && (true && (decide (0 ≤ a ∧ a < 256 ∧ 0 ≤ b ∧ b < 256) && true)))) = true
  rw [fits_str' b1, dec_t ⟨b2.1, by omega, b3.1, by omega⟩]; rfl

/-! ### below -/

theorem mod_some (k : Int) : ∃ n : Int, IntKind.i64.wrap ((1 : Int) + IntKind.i64.wrap (Int.tmod (IntKind.u64.wrap k) 100000)) = n ∧ 1 ≤ n ∧ n ≤ 100000 := by
  have hk : 0 ≤ IntKind.u64.wrap k := (wrap_within .u64 k).1
  rw [Int.tmod_eq_emod_of_nonneg hk]
  have h2 := Int.emod_nonneg (IntKind.u64.wrap k) (show (100000 : Int) ≠ 0 by omega)
  have h3 := Int.emod_lt_of_pos (IntKind.u64.wrap k) (show (0 : Int) < 100000 by omega)
  rw [w64 (n := IntKind.u64.wrap k % 100000) (by omega) (by omega), w64 (by omega) (by omega)]
  exact ⟨_, rfl, by omega, by omega⟩

theorem lBelow_R : lBelow.Law := fun h k hx => by
  have h' : (true && (true && (decide (0 ≤ h ∧ h < 18446744073709551616) && true))) = true := hx
  simp only [Bool.and_eq_true, decide_eq_true_eq] at h'
  obtain ⟨_, _, ⟨h0, h1⟩, _⟩ := h'
  have hh : ∃ f, lBelow.go f h k = some (vb true, []) := by
    refine ⟨1, ?_⟩
    obtain ⟨n, hn, n1, n2⟩ := mod_some k
    have a1 := Int.emod_nonneg h (show n ≠ 0 by omega)
    have a2 := Int.emod_lt_of_pos h (show 0 < n by omega)
    have e1 : belowN h n = h % n := by unfold belowN; rw [dec_f (by omega)]; rfl
    have e2 : belowN h 1 = 0 := by
      unfold belowN
      rw [dec_f (by omega)]
      show h % 1 = 0
      omega
    have e3 : IntKind.u64.wrap (h % n) = h % n := by rw [wrap_u64]; omega
    have e4 : belowN (h % n) n = h % n := by
      unfold belowN
      rw [dec_f (by omega)]
      exact Int.emod_eq_of_lt a1 a2
    have p : ∀ (x m : Int), 0 ≤ x → x < 18446744073709551616 → m ≤ 9223372036854775807 → below.pre (x, m, ()) = true := fun x m x0 x1 m1 => by
      show (true && (true && (decide (0 ≤ x ∧ x < 18446744073709551616 ∧ m ≤ 9223372036854775807) && true))) = true
      rw [dec_t ⟨x0, x1, m1⟩]; rfl
    rw [lBelow.start, hn, test_true (p h n h0 h1 (by omega)), e1, cond_dt a1, cond_dt a2, test_true (p h 1 h0 h1 (by omega)), cond_et e2, e3, test_true (p (h % n) n a1 (by omega) (by omega)), cond_et e4]
    rfl
  obtain ⟨f, hf⟩ := hh
  exact lBelow.ret (awake_ok.cons' (below_ok.cons' SpecsOK.nil)) h k hf

theorem lBelow_pre (h n : Int) (hx : wfs [(false, .int .u64), (false, .int .i64)] (h, n, ())) : lBelow.pre (h, n, ()) = true := by
  have b1 : 0 ≤ h ∧ h ≤ 18446744073709551615 := hx.1
  show (true && (true && (decide (0 ≤ h ∧ h < 18446744073709551616) && true))) = true
  rw [dec_t ⟨b1.1, by omega⟩]; rfl

/-! ### spread -/

theorem lSpreads_R : lSpreads.Law := fun s n m hx => by
  have h' : (fits .str s && (true && (true && (decide (-9223372036854775808 ≤ n ∧ n ≤ 9223372036854775807 ∧ -9223372036854775808 ≤ m ∧ m ≤ 9223372036854775807) && true)))) = true := hx
  simp only [Bool.and_eq_true, decide_eq_true_eq] at h'
  obtain ⟨hs, _, _, ⟨n0, n1, m0, m1⟩, _⟩ := h'
  have hh : ∃ f, lSpreads.go f s n m = some (vb true, []) := by
    refine ⟨1, ?_⟩
    rw [lSpreads.start]
    by_cases hc : (s.size : Int) > 500
    · rw [cond_dt hc]; rfl
    have hone : (⟨#[35]⟩ : ByteArray).size = 1 := rfl
    have p : ∀ x : Int, -9223372036854775808 ≤ x → x ≤ 9223372036854775807 → (fits .str s && (true && (decide (s.size ≤ 100000 ∧ -9223372036854775808 ≤ x ∧ x ≤ 9223372036854775807) && true))) = true := fun x x0 x1 => by
      rw [hs, dec_t ⟨by omega, x0, x1⟩]; rfl
    obtain ⟨e1, e2⟩ := with_pre (s := s) (by omega) n0 n1
    have hi := itoa_size n0 n1
    have hw : withN s n = textN ((s ++ (⟨#[35]⟩ : ByteArray)) ++ itoaB n) := rfl
    have tail : (test (decide (s.size + (⟨#[35]⟩ : ByteArray).size ≤ 9223372036854775807)) (
       test (digits.pre (n, ())) (
        test (decide ((s ++ (⟨#[35]⟩ : ByteArray)).size + (itoaB n).size ≤ 9223372036854775807)) (
         test (text.pre (((s ++ (⟨#[35]⟩ : ByteArray)) ++ itoaB n), ())) (
          cond (withN s n == textN ((s ++ (⟨#[35]⟩ : ByteArray)) ++ itoaB n)) (
           test (withR.pre (s, m, ())) (
            cond (withN s m == withN s m) (
             some ((.c (.v (.bool true))), [])) (
             some ((.c (.v (.bool false))), [])))) (
           some ((.c (.v (.bool false))), [])))))) : R) = some (vb true, []) := by
      rw [test_d (by rw [hone]; omega), test_true (show digits.pre (n, ()) = true by
        show (true && (decide (-9223372036854775808 ≤ n ∧ n ≤ 9223372036854775807) && true)) = true
        rw [dec_t ⟨n0, n1⟩]; rfl), test_d (by rw [e1]; omega), test_true (show text.pre ((s ++ (⟨#[35]⟩ : ByteArray)) ++ itoaB n, ()) = true by
        show (fits .str _ && true) = true
        rw [e2]; rfl), cond_et hw, test_true (show withR.pre (s, m, ()) = true from p m m0 m1), cond_et rfl]
      rfl
    rw [cond_df hc, test_true (show with.pre (s, n, ()) = true from p n n0 n1), test_true (show with.pre (s, m, ()) = true from p m m0 m1)]
    by_cases hnm : n = m
    · have hb : bne n m = false := by simp [bne, hnm]
      rw [hb, cond_false, cond_et (by rw [hnm])]
      exact tail
    · have hb : bne n m = true := by simp [bne, hnm]
      rw [hb, cond_true]
      exact tail
  obtain ⟨f, hf⟩ := hh
  exact lSpreads.ret (awake_ok.cons' (text_ok.cons' (with_ok.cons' (withR_ok.cons' (digits_ok.cons' SpecsOK.nil))))) s n m hf

theorem lSpreads_pre (s : ByteArray) (n m : Int) (hx : wfs [(false, .str), (false, .int .i64), (false, .int .i64)] (s, n, m, ())) : lSpreads.pre (s, n, m, ()) = true := by
  have b1 : s.size ≤ reachBytes := hx.1
  have b2 : -9223372036854775808 ≤ n ∧ n ≤ 9223372036854775807 := hx.2.1
  have b3 : -9223372036854775808 ≤ m ∧ m ≤ 9223372036854775807 := hx.2.2.1
  show (fits .str s && (true && (true && (decide (-9223372036854775808 ≤ n ∧ n ≤ 9223372036854775807 ∧ -9223372036854775808 ≤ m ∧ m ≤ 9223372036854775807) && true)))) = true
  rw [fits_str' b1, dec_t ⟨b2.1, b2.2, b3.1, b3.2⟩]; rfl

end Go.Proofs.YtlaejhjpmbblfaaDoor
