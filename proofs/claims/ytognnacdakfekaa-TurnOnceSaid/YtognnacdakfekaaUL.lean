/-
  Rows gone through: contracts; joins; times.
-/
import Derived.Test.YtognnacdakfekaaUC
import Derived.Test.YtognnacdakfekaaUF
namespace Go.Proofs.Ytognnacdakfekaa
open Go VE

theorem draw_ok : draw.OK := draw.mk .nil fun d n hx => ⟨1, by
  have h : (true && (true && (decide (n ≤ 1000000) && true))) = true := hx
  simp only [Bool.true_and, Bool.and_true, decide_eq_true_eq] at h
  have hres : draw.res (d, n, ()) = vi .i64 (drawR d n) := rfl
  rw [draw.start, hres]
  unfold drawR first
  by_cases h1 : n < 1
  · rw [cond_dt h1, if_pos h1]; rfl
  · rw [cond_df h1, if_neg h1, dec_f (show ¬ n = 0 by omega), Bool.not_false, test_true rfl]
    have h2 := Int.tmod_lt_of_pos d (b := n) (by omega)
    have h3 := Int.lt_tmod_of_pos d (b := n) (by omega)
    by_cases h4 : Int.tmod d n < 0
    · rw [cond_dt h4, if_pos h4, w64 (by omega) (by omega)]; rfl
    · rw [cond_df h4, if_neg h4]; rfl⟩

theorem partsR_loop {s : ByteArray} {b : Int} (hs : s.size ≤ 1000) : ∀ (r i a n : Nat) (out : List ByteArray), i + r = s.size → a ≤ i → out.length ≤ i →
    partsR.l1 (r + 1) s b (a : Int) (s.size : Int) (i : Int) out = some (.c (.sl .str (out ++ (runs s b r i a n).map (·.2))), [])
  | 0, i, a, n, out, hi, ha, ho => by
    have hlim : 1000000 ≤ lim 16 := by decide
    rw [partsR.s1, cond_df (by omega), test_d (by omega), test_d (by omega), test_d (by simp; omega), toNat_cast]
    rfl
  | r + 1, i, a, n, out, hi, ha, ho => by
    have hlim : 1000000 ≤ lim 16 := by decide
    rw [partsR.s1, cond_dt (by omega), test_d (by omega), test_d (by omega)]
    unfold runs
    by_cases hb : byteAt s (i : Int) = b
    · have ih := partsR_loop (b := b) hs r (i + 1) (i + 1) (n + 1) (out ++ [s.extract a i]) (by omega) (by omega) (by simp; omega)
      rw [cond_t (by simpa using hb), test_d (by omega), test_d (by omega), test_d (by omega), test_d (by omega), test_d (by simp; omega), w64s (by omega), toNat_cast, toNat_cast, if_pos hb]
      refine ih.trans ?_
      simp
    · have ih := partsR_loop (b := b) hs r (i + 1) a n out (by omega) (by omega) (by omega)
      rw [cond_f (by simpa using hb), w64s (by omega), if_neg hb]
      exact ih

theorem partsR_ok : partsR.OK := partsR.mk .nil fun s b hx => by
  have h : (fits .str s && (true && (decide (s.size ≤ 1000) && true))) = true := hx
  simp only [Bool.true_and, Bool.and_true, Bool.and_eq_true, decide_eq_true_eq] at h
  refine ⟨s.size + 2, ?_⟩
  rw [partsR.start]
  exact partsR_loop h.2 s.size 0 0 0 [] (by omega) (by omega) (by simp)

theorem awake_ok : awake.OK := awake.mk (turn_ok.cons' (times_ok.cons' (parts_ok.cons' (row_ok.cons' .nil)))) fun _ _ => ⟨1, by rw [awake.start]; rfl⟩

/-! ### joined -/

theorem sep_str {s : ByteArray} {i : Nat} {b : Int} (h : i < s.size) (hb : byteAt s (i : Int) = b) : bytesStr [b] = s.extract i (i + 1) := by
  rw [ByteArray.extract_add_one (by omega), ← hb, byteAt_get h]
  unfold bytesStr
  simp
  rfl

def tailJ (b : Int) : List ByteArray → ByteArray
  | [] => ⟨#[]⟩
  | x :: l => bytesStr [b] ++ x ++ tailJ b l

theorem runs_join {s : ByteArray} {b : Int} : ∀ (r i a n : Nat), i + r = s.size → a ≤ i → ∃ x l, (runs s b r i a n).map (·.2) = x :: l ∧ x ++ tailJ b l = s.extract a s.size
  | 0, i, a, n, hi, ha => ⟨s.extract a s.size, [], rfl, ByteArray.append_empty⟩
  | r + 1, i, a, n, hi, ha => by
    unfold runs
    by_cases hb : byteAt s (i : Int) = b
    · obtain ⟨x, l, h1, h2⟩ := runs_join (s := s) (b := b) r (i + 1) (i + 1) (n + 1) (by omega) (Nat.le_refl _)
      rw [if_pos hb]
      refine ⟨s.extract a i, x :: l, by rw [List.map_cons, h1], ?_⟩
      show s.extract a i ++ (bytesStr [b] ++ x ++ tailJ b l) = _
      rw [ByteArray.append_assoc, h2, sep_str (by omega) hb, ByteArray.extract_eq_extract_append_extract (a := s) (i := a) (k := s.size) i (by omega) (by omega), ByteArray.extract_eq_extract_append_extract (a := s) (i := i) (k := s.size) (i + 1) (by omega) (by omega)]
    · rw [if_neg hb]
      exact runs_join r (i + 1) a n (by omega) (by omega)

theorem joins_l1 {s : ByteArray} {b : Int} {L : List ByteArray} {t : ByteArray} (hs : s.size ≤ 1000) (hL : L = partsL s b) (m : Nat) : ∀ (r i a n c : Nat), i + r = s.size → c + (runs s b r i a n).length = L.length + 1 → c ≤ i + 1 →
    lJoins.l1 (m + (r + 1)) s b L (c : Int) t (s.size : Int) (i : Int) = lJoins.l2 m s b L (L.length : Int) t L (L.length : Int) (0 : Int)
  | 0, i, a, n, c, hi, hc, hci => by
    refine (lJoins.s1 m s b L (c : Int) t (s.size : Int) (i : Int)).trans ?_
    have : c = L.length := by simp [runs] at hc; omega
    rw [cond_df (by omega), this]
  | r + 1, i, a, n, c, hi, hc, hci => by
    refine (lJoins.s1 (m + (r + 1)) s b L (c : Int) t (s.size : Int) (i : Int)).trans ?_
    rw [cond_dt (by omega), test_d (by omega), test_d (by omega)]
    unfold runs at hc
    by_cases hb : byteAt s (i : Int) = b
    · rw [if_pos hb, List.length_cons] at hc
      rw [cond_t (by simpa using hb), w64s (by omega), w64s (by omega)]
      exact joins_l1 hs hL m r (i + 1) (i + 1) (n + 1) (c + 1) (by omega) (by omega) (by omega)
    · rw [if_neg hb] at hc
      rw [cond_f (by simpa using hb), w64s (by omega)]
      exact joins_l1 hs hL m r (i + 1) a n c (by omega) hc (by omega)

theorem joins_l2 {s : ByteArray} {b : Int} {L : List ByteArray} (hs : s.size ≤ 1000) (hl : L.length ≤ 1001) : ∀ (n k : Nat) (t : ByteArray), L.length = k + n → 0 < k → t ++ tailJ b (L.drop k) = s →
    lJoins.l2 (n + 1) s b L (L.length : Int) t L (L.length : Int) (k : Int) = some (vb true, [])
  | 0, k, t, hk, h0, ht => by
    have ht : t = s := by rw [← ht, List.drop_eq_nil_of_le (by omega)]; exact ByteArray.append_empty.symm
    refine (lJoins.s2 0 s b L (L.length : Int) t L (L.length : Int) (k : Int)).trans ?_
    rw [cond_df (by omega), cond_et rfl, ht, cond_t (by simp)]
    rfl
  | n + 1, k, t, hk, h0, ht => by
    have hd := rdEl_drop (t := .str) L (show k < L.length by omega)
    have ht' : t ++ (bytesStr [b] ++ rdEl .str L k ++ tailJ b (L.drop (k + 1))) = s := by rw [hd] at ht; exact ht
    rw [ByteArray.append_assoc, ← ByteArray.append_assoc, ← ByteArray.append_assoc] at ht'
    have hsz := congrArg ByteArray.size ht'
    rw [ByteArray.size_append, ByteArray.size_append, ByteArray.size_append] at hsz
    have hsz : t.size + (bytesStr [b]).size + (show ByteArray from rdEl .str L k).size + (tailJ b (L.drop (k + 1))).size = s.size := hsz
    refine (lJoins.s2 (n + 1) s b L (L.length : Int) t L (L.length : Int) (k : Int)).trans ?_
    rw [cond_dt (by omega), test_d (by omega), test_d (by omega), cond_dt (by omega), toNat_cast]
    have e1 : t.size + (bytesStr [b]).size ≤ 9223372036854775807 := by omega
    have e2 : (t ++ bytesStr [b]).size + (show ByteArray from rdEl .str L k).size ≤ 9223372036854775807 := by rw [ByteArray.size_append]; omega
    refine (test_d e1).trans ((test_d e2).trans ?_)
    rw [w64s (by omega)]
    exact joins_l2 hs hl n (k + 1) _ (by omega) (by omega) ht'

theorem parts_pre {s : ByteArray} {b : Int} (h : s.size ≤ 1000) : parts.pre (s, b, ()) = true := by
  show (fits .str s && (true && (decide (s.size ≤ 1000) && true))) = true
  have : fits .str s = true := decide_eq_true (show s.size ≤ reachBytes by have : reachBytes = 140737488351232 := rfl; omega)
  rw [this, dec_t h]; rfl
theorem parts_len {s : ByteArray} {b : Int} (h : s.size ≤ 1000) : (partsL s b).length ≤ 1001 := by
  have := runs_length (s := s) (sep := b) s.size 0 0 0
  unfold partsL runsL
  rw [List.length_map]; omega

theorem lJoins_R : lJoins.Law := fun s b hx => by
  have hh : ∃ f, lJoins.go f s b = some (vb true, []) := by
    by_cases hl : (s.size : Int) > 1000
    · exact ⟨1, by rw [lJoins.start, cond_dt hl]; rfl⟩
    have hs : s.size ≤ 1000 := by omega
    obtain ⟨x, l, h1, h2⟩ := runs_join (s := s) (b := b) s.size 0 0 0 (by omega) (by omega)
    have h1 : partsL s b = x :: l := h1
    have hlen := parts_len (b := b) hs
    have hl1 : (runs s b s.size 0 0 0).length = (partsL s b).length := by unfold partsL runsL; rw [List.length_map]
    refine ⟨(l.length + 1 + 1) + (s.size + 1) + 1, ?_⟩
    rw [lJoins.start, cond_df hl, test_true (parts_pre hs)]
    refine (joins_l1 hs rfl (l.length + 1 + 1) s.size 0 0 0 1 (by omega) (by omega) (by omega)).trans ?_
    have hL : (partsL s b).length = l.length + 1 := by rw [h1]; rfl
    rw [ByteArray.extract_zero_size] at h2
    have hsz := congrArg ByteArray.size h2
    rw [ByteArray.size_append] at hsz
    have hx0 : rdEl .str (partsL s b) 0 = x := by rw [h1]; rfl
    refine (lJoins.s2 (l.length + 1) s b _ _ _ _ _ _).trans ?_
    rw [cond_dt (by omega), test_d (by omega), test_d (by omega), cond_df (by omega), show Int.toNat 0 = 0 from rfl, hx0]
    refine (test_d (show (⟨#[]⟩ : ByteArray).size + x.size ≤ 9223372036854775807 by show 0 + x.size ≤ _; omega)).trans ?_
    have e0 : (⟨#[]⟩ : ByteArray) ++ x = x := ByteArray.empty_append
    rw [e0, show IntKind.i64.wrap ((0 : Int) + 1) = ((1 : Nat) : Int) from rfl]
    exact joins_l2 hs hlen l.length 1 x (by omega) (by omega) (by rw [h1]; exact h2)
  obtain ⟨f, hf⟩ := hh
  exact lJoins.ret (awake_ok.cons' (parts_ok.cons' .nil)) s b hf

end Go.Proofs.Ytognnacdakfekaa
