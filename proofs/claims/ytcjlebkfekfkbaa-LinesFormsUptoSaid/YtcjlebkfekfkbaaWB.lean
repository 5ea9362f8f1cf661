/-
  Lines and words: contracts.
-/
import Derived.Test.YtcjlebkfekfkbaaWR
import Derived.Test.YtcjlebkfekfkbaaUR
import Derived.Test.YtcjlebkfekfkbaaShelf
namespace Go.Proofs.Ytcjlebkfekfkbaa
open Go VE

theorem runsC_ok : runsC.OK := runsC.mkR fun s b _ => runs_returns s b

/-! ### cut -/

theorem idxN_le (c : UInt8) : ∀ l, idxN c l ≤ l.length
  | [] => Nat.le_refl _
  | b :: l => by
    unfold idxN
    have := idxN_le c l
    split
    · exact Nat.zero_le _
    · simp; omega
theorem indexByte_idx (c : UInt8) : ∀ l, Lib.indexByte l c = if idxN c l < l.length then (idxN c l : Int) else -1
  | [] => rfl
  | b :: l => by
    have ih := indexByte_idx c l
    have hle := idxN_le c l
    unfold Lib.indexByte idxN
    by_cases h : b = c
    · rw [if_pos (by simpa using h), if_pos h, if_pos (by simp)]; rfl
    · rw [if_neg (by simpa using h), if_neg h, ih]
      by_cases h2 : idxN c l < l.length
      · rw [if_pos h2, if_neg (by simp <;> omega), if_pos (by simp <;> omega)]; omega
      · rw [if_neg h2, if_pos (by simp), if_neg (by simp <;> omega)]

theorem hash_le (s : ByteArray) : hashAt s ≤ s.size := by
  have := idxN_le 35 s.data.toList
  simpa [hashAt] using this
theorem index_lib (s : ByteArray) : Lib.indexByte s.data.toList 35 = indexB s := by
  rw [indexByte_idx]
  unfold indexB hashAt
  have : s.data.toList.length = s.size := by simp
  rw [this]

theorem index_ok : index.OK := index.mkR fun s c hx => by
  have h : (fits .str s && (fits .str c && (decide (c = hashB) && true))) = true := hx
  simp only [Bool.and_true, Bool.and_eq_true, decide_eq_true_eq] at h
  obtain ⟨_, _, rfl⟩ := h
  intro w us ok hok hl hus ha
  obtain ⟨u0, u1, rfl⟩ : ∃ u0 u1, us = #[u0, u1] := by
    obtain ⟨l⟩ := us
    match l, hus with
    | [u0, u1], _ => exact ⟨u0, u1, rfl⟩
  have h0 : u0 = .string s := (iv_v (ha 0 _ rfl)).1
  have h1 : u1 = .string hashB := (iv_v (ha 1 _ rfl)).1
  subst h0 h1
  refine (Try.stringslite_Index_one s 35 w).mono ?_
  rintro e w' ⟨rfl, rfl⟩
  rw [index_lib]
  exact ⟨_, rfl, Go.RowKit.Below.refl _ _, .c _ _ (.v _ rfl)⟩

theorem str_fits {s : ByteArray} (h : s.size ≤ 1000000) : fits .str s = true := decide_eq_true (show s.size ≤ reachBytes by have : reachBytes = 140737488351232 := rfl; omega)

theorem scut_ok : scut.OK := scut.mk (index_ok.cons' .nil) fun s c hx => ⟨1, by
  have h0 : (fits .str s && (fits .str c && (decide (c = hashB) && true))) = true := hx
  have h := h0
  simp only [Bool.and_true, Bool.and_eq_true, decide_eq_true_eq] at h
  obtain ⟨hs, _, rfl⟩ := h
  have hs : s.size ≤ reachBytes := of_decide_eq_true hs
  have hR : reachBytes = 140737488351232 := rfl
  have hle := hash_le s
  have hp : index.pre (s, (hashB, ())) = true := h0
  have hres : scut.res (s, hashB, ()) = .tup [vs (cutA s), vs (cutZ s), vb (cutF s)] := rfl
  rw [scut.start, test_true hp, hres]
  unfold cutA cutZ cutF indexB
  by_cases h : hashAt s < s.size
  · have e : IntKind.i64.wrap ((hashAt s : Int) + (ByteArray.size hashB : Int)) = ((hashAt s + 1 : Nat) : Int) := by
      rw [show (ByteArray.size hashB : Int) = 1 from rfl, w64s (by omega)]
    rw [if_pos h, if_pos h, cond_dt (by omega), test_d (by omega), test_d (by omega), e, test_d (by omega), test_d (by omega), toNat_cast, toNat_cast, dec_t h]
    rfl
  · have : s.extract 0 (hashAt s) = s := by
      rw [show hashAt s = s.size by omega]; exact ByteArray.extract_zero_size
    rw [if_neg h, if_neg h, cond_df (by omega), this, dec_f h]
    rfl⟩

theorem cut_ok : cut.OK := cut.mk (scut_ok.cons' .nil) fun s c hx => ⟨1, by
  have h0 : scut.pre (s, (c, ())) = true := hx
  rw [cut.start, test_true h0]; rfl⟩

/-! ### bytes that may be -/

theorem byte_lt (s : ByteArray) (n : Int) : 0 ≤ byteAt s n ∧ byteAt s n < 256 := by
  unfold byteAt
  have := (s.data.toList.getD n.toNat 0).toNat_lt
  omega

theorem may_loop {s : ByteArray} (hs : s.size ≤ 140737488351232) : ∀ (r i : Nat), i + r = s.size →
    may.l1 (r + 1) s (s.size : Int) (i : Int) = some (vb (allB (fun c => decide (32 ≤ c) && decide (c ≤ 126)) s r i && decide (s.size ≤ 200)), [])
  | 0, i, hi => by
    rw [may.s1, cond_df (by omega)]
    show some (vb (decide ((s.size : Int) ≤ 200)), _) = some (vb (true && decide (s.size ≤ 200)), _)
    rw [Bool.true_and]
    by_cases h : s.size ≤ 200
    · rw [dec_t h, dec_t (by omega)]
    · rw [dec_f h, dec_f (by omega)]
  | r + 1, i, hi => by
    have ih := may_loop hs r (i + 1) (by omega)
    rw [may.s1, cond_dt (by omega), test_d (by omega), test_d (by omega)]
    unfold allB
    by_cases h1 : byteAt s (i : Int) < 32
    · rw [cond_dt h1, dec_f (show ¬ 32 ≤ byteAt s (i : Int) by omega)]; rfl
    · rw [cond_df h1, test_d (by omega), test_d (by omega), dec_t (show 32 ≤ byteAt s (i : Int) by omega)]
      by_cases h2 : byteAt s (i : Int) > 126
      · rw [cond_dt h2, dec_f (show ¬ byteAt s (i : Int) ≤ 126 by omega)]; rfl
      · rw [cond_df h2, dec_t (show byteAt s (i : Int) ≤ 126 by omega), w64s (by omega), ih]; rfl

theorem fits_size {s : ByteArray} (h : fits .str s = true) : s.size ≤ 140737488351232 := of_decide_eq_true h

theorem may_ok : may.OK := may.mk .nil fun s hx => by
  have hs : s.size ≤ 140737488351232 := fits_size (Bool.and_eq_true_iff.1 hx).1
  refine ⟨s.size + 2, ?_⟩
  rw [may.start]
  exact may_loop hs s.size 0 (by omega)

/-! ### numbers -/

theorem beq_nil {s : ByteArray} : (ByteArray.toList s == ByteArray.toList (⟨#[]⟩ : ByteArray)) = decide (s.size = 0) := by
  have e : ∀ a : ByteArray, ByteArray.toList a = a.data.toList := fun a => ByteArray.toList_eq a
  rw [e, e]
  have : s.size = s.data.toList.length := by simp
  rw [this]
  cases s.data.toList <;> simp

theorem num_step {x : Int} {s : ByteArray} {i : Nat} (h0 : 0 ≤ x) (h1 : x < 100000000000) (h2 : ¬ byteAt s (i : Int) < 48) (h3 : ¬ byteAt s (i : Int) > 57) :
    IntKind.i64.wrap ((IntKind.i64.wrap (x * (10 : Int))) + (IntKind.i64.wrap (IntKind.u8.wrap ((byteAt s (i : Int)) - (48 : Int))))) = x * 10 + (byteAt s (i : Int) - 48) := by
  have hu : ∀ n : Int, IntKind.u8.wrap n = n % 256 := fun n => by simp [IntKind.wrap, IntKind.bits, IntKind.signed]
  rw [hu, w64 (n := x * 10) (by omega) (by omega), Int.emod_eq_of_lt (by omega) (by omega), w64 (n := byteAt s (i : Int) - 48) (by omega) (by omega), w64 (by omega) (by omega)]

def numEnd (o : Option Int) : IV := .tup [vi .i64 (match o with | some n => if 1000000 < n then (0, false) else (n, true) | none => (0, false) : Int × Bool).1, vb (match o with | some n => if 1000000 < n then (0, false) else (n, true) | none => (0, false) : Int × Bool).2]

theorem pow10 : ∀ i : Nat, i ≤ 7 → (10 : Int) ^ i ≤ 10000000
  | 0, _ => by decide
  | 1, _ => by decide
  | 2, _ => by decide
  | 3, _ => by decide
  | 4, _ => by decide
  | 5, _ => by decide
  | 6, _ => by decide
  | 7, _ => by decide
  | n + 8, h => by omega

theorem number_loop {s : ByteArray} (hs : s.size ≤ 7) : ∀ (r i : Nat) (x : Int), i + r = s.size → 0 ≤ x → x < 10 ^ i →
    number.l1 (r + 1) s x (s.size : Int) (i : Int) = some (numEnd (numG s r i x), [])
  | 0, i, x, hi, h0, h1 => by
    rw [number.s1, cond_df (by omega)]
    unfold numG numEnd
    by_cases h : x > 1000000
    · rw [cond_dt h]; simp only [if_pos h]; rfl
    · rw [cond_df h]; simp only [if_neg h]; rfl
  | r + 1, i, x, hi, h0, h1 => by
    have hb := byte_lt s (i : Int)
    have hx := pow10 i (by omega)
    rw [number.s1, cond_dt (by omega), test_d (by omega), test_d (by omega)]
    unfold numG
    by_cases h2 : byteAt s (i : Int) < 48
    · rw [cond_dt h2, if_pos (.inl h2)]; rfl
    · rw [cond_df h2, test_d (by omega), test_d (by omega)]
      by_cases h3 : byteAt s (i : Int) > 57
      · rw [cond_dt h3, if_pos (.inr h3)]; rfl
      · rw [cond_df h3, if_neg (by omega), test_d (by omega), test_d (by omega), num_step h0 (by omega) h2 h3, w64s (by omega)]
        refine number_loop hs r (i + 1) _ (by omega) (by omega) ?_
        rw [Int.pow_succ]; omega

theorem numberR_loop {s : ByteArray} (hs : s.size ≤ 7) : ∀ (r i : Nat) (x : Int), i + r = s.size → 0 ≤ x → x < 10 ^ i →
    numberR.l1 (r + 1) s x (s.size : Int) (i : Int) = some (numEnd (numG s r i x), [])
  | 0, i, x, hi, h0, h1 => by
    rw [numberR.s1, cond_df (by omega)]
    unfold numG numEnd
    by_cases h : x > 1000000
    · rw [cond_dt h]; simp only [if_pos h]; rfl
    · rw [cond_df h]; simp only [if_neg h]; rfl
  | r + 1, i, x, hi, h0, h1 => by
    have hb := byte_lt s (i : Int)
    have hx := pow10 i (by omega)
    rw [numberR.s1, cond_dt (by omega), test_d (by omega), test_d (by omega)]
    unfold numG
    by_cases h2 : byteAt s (i : Int) < 48
    · rw [cond_dt h2, if_pos (.inl h2)]; rfl
    · rw [cond_df h2, test_d (by omega), test_d (by omega)]
      by_cases h3 : byteAt s (i : Int) > 57
      · rw [cond_dt h3, if_pos (.inr h3)]; rfl
      · rw [cond_df h3, if_neg (by omega), test_d (by omega), test_d (by omega), num_step h0 (by omega) h2 h3, w64s (by omega)]
        refine numberR_loop hs r (i + 1) _ (by omega) (by omega) ?_
        rw [Int.pow_succ]; omega

theorem numB_bad {s : ByteArray} (h : s.size < 1 ∨ 7 < s.size ∨ (1 < s.size ∧ byteAt s 0 = 48)) : numB s = (0, false) := by unfold numB; rw [if_pos h]
theorem numB_good {s : ByteArray} (h : ¬ (s.size < 1 ∨ 7 < s.size ∨ (1 < s.size ∧ byteAt s 0 = 48))) : numEnd (numG s s.size 0 0) = .tup [vi .i64 (numB s).1, vb (numB s).2] := by unfold numB numEnd; rw [if_neg h]; rfl

theorem number_ok : number.OK := number.mk .nil fun s hx => by
  have hres : number.res (s, ()) = .tup [vi .i64 (numB s).1, vb (numB s).2] := rfl
  refine ⟨s.size + 2, ?_⟩
  rw [number.start, hres, beq_nil]
  by_cases h1 : s.size = 0
  · rw [cond_dt h1, numB_bad (by omega)]; rfl
  rw [cond_df h1]
  by_cases h2 : (s.size : Int) > 7
  · rw [cond_dt h2, numB_bad (by omega)]; rfl
  rw [cond_df h2]
  by_cases h3 : (s.size : Int) > 1
  · rw [cond_dt h3, test_d (by omega)]
    by_cases h4 : byteAt s 0 = 48
    · rw [cond_et h4, numB_bad (.inr (.inr ⟨by omega, h4⟩))]; rfl
    · rw [cond_ef h4, ← numB_good (by omega)]
      exact number_loop (by omega) s.size 0 0 (by omega) (by omega) (by decide)
  · rw [cond_df h3, ← numB_good (by omega)]
    exact number_loop (by omega) s.size 0 0 (by omega) (by omega) (by decide)

theorem numberR_ok : numberR.OK := numberR.mk .nil fun s hx => by
  have hres : numberR.res (s, ()) = .tup [vi .i64 (numB s).1, vb (numB s).2] := rfl
  refine ⟨s.size + 2, ?_⟩
  rw [numberR.start, hres]
  by_cases h1 : (s.size : Int) < 1
  · rw [cond_dt h1, numB_bad (by omega)]; rfl
  rw [cond_df h1]
  by_cases h2 : (s.size : Int) > 7
  · rw [cond_dt h2, numB_bad (by omega)]; rfl
  rw [cond_df h2]
  by_cases h3 : (s.size : Int) > 1
  · rw [cond_dt h3, test_d (by omega)]
    by_cases h4 : byteAt s 0 = 48
    · rw [cond_et h4, numB_bad (.inr (.inr ⟨by omega, h4⟩))]; rfl
    · rw [cond_ef h4, ← numB_good (by omega)]
      exact numberR_loop (by omega) s.size 0 0 (by omega) (by omega) (by decide)
  · rw [cond_df h3, ← numB_good (by omega)]
    exact numberR_loop (by omega) s.size 0 0 (by omega) (by omega) (by decide)

/-! ### names -/

/-- What the test of one byte comes to. -/
theorem name_test (c : Int) (A B : R) :
    cond (decide (c < 97)) (cond (decide (c < 48)) (cond (bne c 45) (cond (bne c 46) B A) A) (cond (decide (c > 57)) (cond (bne c 45) (cond (bne c 46) B A) A) A))
      (cond (decide (c > 122)) (cond (decide (c < 48)) (cond (bne c 45) (cond (bne c 46) B A) A) (cond (decide (c > 57)) (cond (bne c 45) (cond (bne c 46) B A) A) A)) A) = cond (nameC c) A B := by
  unfold nameC
  by_cases h1 : c < 97
  · rw [cond_dt h1, dec_f (show ¬ 97 ≤ c by omega)]
    by_cases h2 : c < 48
    · rw [cond_dt h2, dec_f (show ¬ 48 ≤ c by omega)]
      by_cases h3 : c = 45
      · subst h3; rfl
      by_cases h4 : c = 46
      · subst h4; rfl
      rw [cond_t (by simpa using h3), cond_t (by simpa using h4)]
      have e3 : (c == 45) = false := by simpa using h3
      have e4 : (c == 46) = false := by simpa using h4
      rw [e3, e4]; rfl
    · rw [cond_df h2, dec_t (show 48 ≤ c by omega)]
      by_cases h5 : c > 57
      · rw [cond_dt h5, dec_f (show ¬ c ≤ 57 by omega), cond_t (by simp; omega), cond_t (by simp; omega)]
        have e3 : (c == 45) = false := by simp; omega
        have e4 : (c == 46) = false := by simp; omega
        rw [e3, e4]; rfl
      · rw [cond_df h5, dec_t (show c ≤ 57 by omega)]; rfl
  · rw [cond_df h1, dec_t (show 97 ≤ c by omega)]
    by_cases h2 : c > 122
    · rw [cond_dt h2, dec_f (show ¬ c ≤ 122 by omega), cond_df (by omega), cond_dt (by omega), cond_t (by simp; omega), cond_t (by simp; omega), dec_f (show ¬ c ≤ 57 by omega)]
      have e3 : (c == 45) = false := by simp; omega
      have e4 : (c == 46) = false := by simp; omega
      rw [e3, e4]
      cases decide (48 ≤ c) <;> rfl
    · rw [cond_df h2, dec_t (show c ≤ 122 by omega)]; rfl

theorem nameW_loop {s : ByteArray} (hs : s.size ≤ 140737488351232) : ∀ (r i : Nat), i + r = s.size →
    nameW.l1 (r + 1) s (s.size : Int) (i : Int) = some (vb (allB nameC s r i && (decide (1 ≤ s.size) && (decide (s.size ≤ 12) && !(ByteArray.toList s == ByteArray.toList dashB)))), [])
  | 0, i, hi => by
    rw [nameW.s1, cond_df (by omega)]
    unfold allB
    by_cases h1 : 1 ≤ s.size
    · rw [cond_dt (by omega), dec_t h1]
      by_cases h2 : s.size ≤ 12
      · rw [cond_dt (by omega), dec_t h2]; rfl
      · rw [cond_df (by omega), dec_f h2]; rfl
    · rw [cond_df (by omega), dec_f h1]; rfl
  | r + 1, i, hi => by
    have ih := nameW_loop hs r (i + 1) (by omega)
    rw [nameW.s1, cond_dt (by omega), test_d (by omega), test_d (by omega), w64s (by omega)]
    refine (name_test _ _ _).trans ?_
    unfold allB
    cases nameC (byteAt s (i : Int)) with
    | true => rw [cond_true, ih]; rfl
    | false => rfl

theorem nameW_ok : nameW.OK := nameW.mk .nil fun s hx => by
  have hs : s.size ≤ 140737488351232 := fits_size (Bool.and_eq_true_iff.1 hx).1
  refine ⟨s.size + 2, ?_⟩
  rw [nameW.start]
  exact nameW_loop hs s.size 0 (by omega)

theorem wordR_loop {s : ByteArray} (hs : s.size ≤ 140737488351232) : ∀ (r i : Nat), i + r = s.size →
    wordR.l1 (r + 1) s (s.size : Int) (i : Int) = some (vb (allB nameC s r i), [])
  | 0, i, hi => by
    rw [wordR.s1, cond_df (by omega)]; rfl
  | r + 1, i, hi => by
    have ih := wordR_loop hs r (i + 1) (by omega)
    rw [wordR.s1, cond_dt (by omega), test_d (by omega), test_d (by omega), w64s (by omega)]
    refine (name_test _ _ _).trans ?_
    unfold allB
    cases nameC (byteAt s (i : Int)) with
    | true => rw [cond_true, ih]; rfl
    | false => rfl

theorem wordR_ok : wordR.OK := wordR.mk .nil fun s hx => by
  have hs : s.size ≤ 140737488351232 := fits_size (Bool.and_eq_true_iff.1 hx).1
  have hres : wordR.res (s, ()) = vb (nameB s) := rfl
  refine ⟨s.size + 2, ?_⟩
  rw [wordR.start, hres]
  unfold nameB
  by_cases h1 : (s.size : Int) < 1
  · rw [cond_dt h1, dec_f (show ¬ 1 ≤ s.size by omega), Bool.false_and, Bool.and_false]; rfl
  rw [cond_df h1, dec_t (show 1 ≤ s.size by omega), Bool.true_and]
  by_cases h2 : (s.size : Int) > 12
  · rw [cond_dt h2, dec_f (show ¬ s.size ≤ 12 by omega), Bool.false_and, Bool.and_false]; rfl
  rw [cond_df h2, dec_t (show s.size ≤ 12 by omega), Bool.true_and]
  have e : (ByteArray.toList s == ByteArray.toList (⟨#[45]⟩ : ByteArray)) = (ByteArray.toList s == ByteArray.toList dashB) := rfl
  rw [e]
  cases ByteArray.toList s == ByteArray.toList dashB with
  | true => rw [cond_true, Bool.not_true, Bool.and_false]; rfl
  | false =>
    rw [cond_false, Bool.not_false, Bool.and_true]
    exact wordR_loop hs s.size 0 (by omega)

/-! ### parts -/

theorem partsR_loop {s : ByteArray} {b : Int} (hs : s.size ≤ 10000) : ∀ (r i a n : Nat) (out : List ByteArray), i + r = s.size → a ≤ i → out.length ≤ i →
    partsR.l1 (r + 1) s b (a : Int) (s.size : Int) (i : Int) out = some (.c (.sl .str (out ++ (runs s b r i a n).map (·.2))), [])
  | 0, i, a, n, out, hi, ha, ho => by
    have hlim : 1000000 ≤ lim 16 := by decide
    rw [partsR.s1, cond_df (by omega), test_d (by omega), test_d (by omega), test_d (by simp; omega), toNat_cast]
    rfl
  | r + 1, i, a, n, out, hi, ha, ho => by
    have hlim : 1000000 ≤ lim 16 := by decide
    rw [partsR.s1, cond_dt (by omega), test_d (by omega), test_d (by omega)]
    unfold runs
    by_cases hb : byteAt s (i : Int) = b
    · have ih := partsR_loop (b := b) hs r (i + 1) (i + 1) (n + 1) (out ++ [s.extract a i]) (by omega) (by omega) (by simp; omega)
      rw [cond_t (by simpa using hb), test_d (by omega), test_d (by omega), test_d (by omega), test_d (by omega), test_d (by simp; omega), w64s (by omega), toNat_cast, toNat_cast, if_pos hb]
      refine ih.trans ?_
      simp
    · have ih := partsR_loop (b := b) hs r (i + 1) a n out (by omega) (by omega) (by omega)
      rw [cond_f (by simpa using hb), w64s (by omega), if_neg hb]
      exact ih

theorem partsR_ok : partsR.OK := partsR.mk .nil fun s b hx => by
  have h : (fits .str s && (true && (decide (s.size ≤ 10000) && true))) = true := hx
  simp only [Bool.true_and, Bool.and_true, Bool.and_eq_true, decide_eq_true_eq] at h
  refine ⟨s.size + 2, ?_⟩
  rw [partsR.start]
  exact partsR_loop h.2 s.size 0 0 0 [] (by omega) (by omega) (by simp)

end Go.Proofs.Ytcjlebkfekfkbaa
