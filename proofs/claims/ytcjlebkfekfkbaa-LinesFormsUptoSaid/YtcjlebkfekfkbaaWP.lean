/-
  Lines: the document's split; rows of lines compared; what they weigh.
-/
import Derived.Test.YtcjlebkfekfkbaaWN
import Derived.WalkKit
import Derived.BigCall
import Derived.Lib.FrozenHead2
import Derived.Lib.OthersKept
namespace Go.Proofs.Ytcjlebkfekfkbaa
open Go VE

/-! ### the document's split -/

theorem partsR_pre {s : ByteArray} {b : Int} (h : s.size ≤ 10000) : partsR.pre (s, b, ()) = true := by
  show (fits .str s && (true && (decide (s.size ≤ 10000) && true))) = true
  rw [str_fits (by omega), dec_t h]; rfl

theorem hash_at {s : ByteArray} (h : hashAt s < s.size) : byteAt s (hashAt s : Int) = 35 := by
  rw [byteAt_bs]
  have key : ∀ l : List UInt8, idxN 35 l < l.length → l.getD (idxN 35 l) 0 = 35 := by
    intro l
    induction l with
    | nil => intro h; simp at h
    | cons b l ih =>
      intro h
      unfold idxN at h ⊢
      by_cases hb : b = 35
      · rw [if_pos hb, hb]; rfl
      · rw [if_neg hb] at h ⊢
        exact ih (by simp at h; omega)
  show (((bs s).getD (idxN 35 (bs s)) 0).toNat : Int) = 35
  rw [key (bs s) (by rw [bs_length]; exact h)]
  rfl
theorem hash_ahead {s : ByteArray} {i : Nat} (h : i < hashAt s) : byteAt s (i : Int) ≠ 35 := by
  rw [byteAt_bs]
  have key : ∀ (l : List UInt8) (i : Nat), i < idxN 35 l → l.getD i 0 ≠ 35 := by
    intro l
    induction l with
    | nil => intro i h; simp [idxN] at h
    | cons b l ih =>
      intro i h
      unfold idxN at h
      by_cases hb : b = 35
      · rw [if_pos hb] at h; omega
      · rw [if_neg hb] at h
        cases i with
        | zero => exact hb
        | succ i => exact ih i (by omega)
  intro e
  refine key (bs s) i h (UInt8.toNat_inj.1 ?_)
  have : (35 : UInt8).toNat = 35 := rfl
  omega

section
variable {L : List ByteArray} {N : Int}

/-- The words of one line, gone through; then the next line. -/
theorem splitR_l4 {i : Nat} {x3 : Int} {P : List ByteArray} {out : List Ln} (hi : i ≤ 100000) (hP : P.length ≤ 100000) (ho : out.length ≤ 100000) (hx : x3 = (i : Int)) (m : Nat) :
    ∀ (d k : Nat) (w : List ByteArray), P.length = k + d → w.length ≤ k →
      splitR.l4 (m + (d + 1)) (i : Int) L N x3 P (P.length : Int) (k : Int) out w =
        splitR.l1 m L N ((i + 1 : Nat) : Int) (if (w ++ (P.drop k).filter fun w => !(ByteArray.toList w == ByteArray.toList ⟨#[]⟩)).length = 0 then out else out ++ [((i : Int) + 1, w ++ (P.drop k).filter fun w => !(ByteArray.toList w == ByteArray.toList ⟨#[]⟩))])
  | 0, k, w, h, hw => by
    have hlim : 1000000 ≤ lim 32 := by decide
    refine (splitR.s4 m (i : Int) L N x3 P _ _ out w).trans ?_
    rw [cond_df (by omega), List.drop_eq_nil_of_le (by omega), List.filter_nil, List.append_nil, hx, w64s (by omega)]
    by_cases h0 : w.length = 0
    · rw [cond_df (by omega), if_pos h0]
    · have t1 : out.length + ((((i + 1 : Nat) : Int), w) :: ([] : List Ln)).length ≤ lim 32 := by rw [List.length_singleton]; omega
      rw [cond_dt (by omega), if_neg h0]
      exact test_d t1
  | d + 1, k, w, h, hw => by
    have hlim : 1000000 ≤ lim 16 := by decide
    have hd := rdEl_drop (t := .str) P (show k < P.length by omega)
    refine (splitR.s4 (m + (d + 1)) (i : Int) L N x3 P _ _ out w).trans ?_
    rw [cond_dt (by omega), test_d (by omega), test_d (by omega), toNat_cast, w64s (by omega), hd, List.filter_cons]
    cases hq : !(ByteArray.toList (rdEl .str P k) == ByteArray.toList (⟨#[]⟩ : ByteArray)) with
    | true =>
      have t1 : w.length + ((rdEl .str P k) :: ([] : List ByteArray)).length ≤ lim 16 := by rw [List.length_singleton]; omega
      rw [cond_true, if_pos rfl]
      refine (test_d t1).trans ((splitR_l4 hi hP ho hx m d (k + 1) (w ++ [rdEl .str P k]) (by omega) (by rw [List.length_append]; simp; omega)).trans ?_)
      rw [List.append_assoc]; rfl
    | false =>
      rw [cond_false, if_neg Bool.false_ne_true]
      exact splitR_l4 hi hP ho hx m d (k + 1) w (by omega) (by omega)

theorem splitR_l3 {i : Nat} {x3 : Int} {x : ByteArray} {out : List Ln} (hi : i ≤ 100000) (ho : out.length ≤ 100000) (hs : x.size ≤ 200) (hx : x3 = (i : Int)) : ∃ f, f ≤ 1000 ∧ ∀ m,
    splitR.l3 (m + f) (i : Int) x L N x3 (x.size : Int) 0 out = splitR.l1 m L N ((i + 1 : Nat) : Int) (if (wordsL x).length = 0 then out else out ++ [((i : Int) + 1, wordsL x)]) := by
  have hle := hash_le x
  have hc := cutA_size x
  have hP : (partsL (cutA x) 32).length ≤ (cutA x).size + 1 := by
    have := runs_length (s := cutA x) (sep := 32) (cutA x).size 0 0 0
    unfold partsL runsL
    rw [List.length_map]; exact this
  refine ⟨((partsL (cutA x) 32).length + 1) + (hashAt x + 1), by omega, fun m => ?_⟩
  have fin : splitR.l4 (m + ((partsL (cutA x) 32).length + 1)) (i : Int) L N x3 (partsL (cutA x) 32) ((partsL (cutA x) 32).length : Int) 0 out [] = splitR.l1 m L N ((i + 1 : Nat) : Int) (if (wordsL x).length = 0 then out else out ++ [((i : Int) + 1, wordsL x)]) :=
    splitR_l4 hi (by omega) ho hx m (partsL (cutA x) 32).length 0 [] (by omega) (by simp)
  have loop : ∀ d k : Nat, hashAt x = k + d → splitR.l3 (m + ((partsL (cutA x) 32).length + 1) + (d + 1)) (i : Int) x L N x3 (x.size : Int) (k : Int) out = splitR.l1 m L N ((i + 1 : Nat) : Int) (if (wordsL x).length = 0 then out else out ++ [((i : Int) + 1, wordsL x)]) := by
    intro d
    induction d with
    | zero =>
      intro k hk
      refine (splitR.s3 _ (i : Int) x L N x3 _ _ out).trans ?_
      have hk : k = hashAt x := by omega
      subst hk
      by_cases h : hashAt x < x.size
      · rw [cond_dt (by omega), test_d (by omega), test_d (by omega), cond_et (hash_at h), test_d (by omega), test_d (by omega), toNat_cast]
        exact (test_true (partsR_pre (s := cutA x) (by omega))).trans fin
      · have e : cutA x = x := by
          unfold cutA
          rw [show hashAt x = x.size by omega]; exact ByteArray.extract_zero_size
        rw [e] at fin
        rw [cond_df (by omega), test_true (partsR_pre (by omega))]
        rw [e]
        exact fin
    | succ d ih =>
      intro k hk
      refine (splitR.s3 _ (i : Int) x L N x3 _ _ out).trans ?_
      rw [cond_dt (by omega), test_d (by omega), test_d (by omega), cond_ef (hash_ahead (by omega)), w64s (by omega)]
      exact ih (k + 1) (by omega)
  have := loop (hashAt x) 0 (by omega)
  rw [show m + (((partsL (cutA x) 32).length + 1) + (hashAt x + 1)) = m + ((partsL (cutA x) 32).length + 1) + (hashAt x + 1) by omega]
  exact this

theorem splitR_l2 {i : Nat} {x3 : Int} {x : ByteArray} {out : List Ln} (hi : i ≤ 100000) (hs : x.size ≤ 200) (m : Nat) : ∀ (d k : Nat), x.size = k + d →
    splitR.l2 (m + (d + 1)) (i : Int) x L N x3 (x.size : Int) (k : Int) out =
      cond (allB (fun c => decide (32 ≤ c) && decide (c ≤ 126)) x d k) (splitR.l3 m (i : Int) x L N x3 (x.size : Int) 0 out) (some (.tup [.c (.v (.slice none 0 0)), vi .i64 ((i : Int) + 1), vi .i64 2], []))
  | 0, k, h => by
    refine (splitR.s2 m (i : Int) x L N x3 _ _ out).trans ?_
    rw [cond_df (by omega)]; rfl
  | d + 1, k, h => by
    have ih := splitR_l2 (x3 := x3) (out := out) hi hs m d (k + 1) (by omega)
    have w1 : IntKind.i64.wrap ((i : Int) + 1) = (i : Int) + 1 := w64 (by omega) (by omega)
    refine (splitR.s2 (m + (d + 1)) (i : Int) x L N x3 _ _ out).trans ?_
    rw [cond_dt (by omega), test_d (by omega), test_d (by omega), w1]
    unfold allB
    by_cases h1 : byteAt x (k : Int) < 32
    · rw [cond_dt h1, dec_f (show ¬ 32 ≤ byteAt x (k : Int) by omega)]; rfl
    · rw [cond_df h1, test_d (by omega), test_d (by omega), dec_t (show 32 ≤ byteAt x (k : Int) by omega)]
      by_cases h2 : byteAt x (k : Int) > 126
      · rw [cond_dt h2, dec_f (show ¬ byteAt x (k : Int) ≤ 126 by omega)]; rfl
      · rw [cond_df h2, dec_t (show byteAt x (k : Int) ≤ 126 by omega), w64s (by omega), ih]; rfl

end

theorem splitR_l1 {L : List ByteArray} (hL : L.length ≤ 10000) : ∀ (d k : Nat) (out : List Ln), L.length = k + d → out.length ≤ k →
    ∃ f, ∀ m, splitR.l1 (m + f) L (L.length : Int) (k : Int) out = some (splitIV (splitG (L.drop k) k out), [])
  | 0, k, out, h, ho => ⟨1, fun m => by
      rw [splitR.s1, cond_df (by omega), List.drop_eq_nil_of_le (by omega)]; rfl⟩
  | d + 1, k, out, h, ho => by
    have hd := rdEl_drop (t := .str) L (show k < L.length by omega)
    have w1 : IntKind.i64.wrap ((k : Int) + 1) = (k : Int) + 1 := w64 (by omega) (by omega)
    generalize hx : (show ByteArray from rdEl .str L k) = x at hd
    have hx : rdEl .str L k = x := hx
    rw [hd]
    by_cases hs : x.size ≤ 200
    · obtain ⟨f3, hf3, e3⟩ := splitR_l3 (L := L) (N := (L.length : Int)) (i := k) (x3 := (k : Int)) (x := x) (out := out) (by omega) (by omega) hs rfl
      obtain ⟨f1, e1⟩ := splitR_l1 hL d (k + 1) (if (wordsL x).length = 0 then out else out ++ [((k : Int) + 1, wordsL x)]) (by omega) (by
        split
        · omega
        · rw [List.length_append, List.length_singleton]; omega)
      refine ⟨f1 + f3 + (x.size + 1) + 1, fun m => ?_⟩
      rw [show m + (f1 + f3 + (x.size + 1) + 1) = (m + f1 + f3) + (x.size + 1) + 1 by omega]
      refine (splitR.s1 _ L (L.length : Int) (k : Int) out).trans ?_
      rw [cond_dt (by omega), test_d (by omega), test_d (by omega), toNat_cast, hx, cond_df (by omega)]
      refine (splitR_l2 (by omega) hs (m + f1 + f3) x.size 0 (by omega)).trans ?_
      have hm : mayB x = allB (fun c => decide (32 ≤ c) && decide (c ≤ 126)) x x.size 0 := by unfold mayB; rw [dec_t hs, Bool.and_true]
      rw [← hm, splitG]
      cases hmb : mayB x with
      | true => rw [cond_true, if_pos rfl, e3, e1]
      | false => rfl
    · refine ⟨1, fun m => ?_⟩
      refine (splitR.s1 _ L (L.length : Int) (k : Int) out).trans ?_
      have hm : mayB x = false := by unfold mayB; rw [dec_f hs, Bool.and_false]
      rw [cond_dt (by omega), test_d (by omega), test_d (by omega), toNat_cast, hx, cond_dt (by omega), splitG, hm, w1]
      rfl

theorem splitR_ok : splitR.OK := splitR.mkR fun s hx => by
  refine of_splitIV ?_ (splitL_nil s)
  by_cases hs : s.size ≤ 4000
  · have hP := runs_length (s := s) (sep := 10) s.size 0 0 0
    have hP : (partsL s 10).length ≤ s.size + 1 := by unfold partsL runsL; rw [List.length_map]; exact hP
    obtain ⟨f, hf⟩ := splitR_l1 (L := partsL s 10) (by omega) (partsL s 10).length 0 [] (by omega) (by simp)
    have e : splitL s = splitG ((partsL s 10).drop 0) 0 [] := by unfold splitL; rw [if_neg (by omega)]; rfl
    rw [e]
    refine splitR.ret (partsR_ok.cons' .nil) s (m := 0 + f + 1) ?_
    rw [splitR.start, cond_df (by omega), test_true (partsR_pre (by omega))]
    exact hf 0
  · have e : splitL s = ([], 0, 2) := by unfold splitL; rw [if_pos (by omega)]
    rw [e]
    refine splitR.ret (partsR_ok.cons' .nil) s (m := 1) ?_
    rw [splitR.start, cond_dt (by omega)]
    rfl

/-! ### rows of lines, compared -/

theorem sameW_len : ∀ {a b : List ByteArray}, sameW a b = true → a.length = b.length
  | [], [], _ => rfl
  | x :: a, y :: b, h => by
    have := sameW_len (a := a) (b := b) (Bool.and_eq_true_iff.1 h).2
    simp [this]
  | [], y :: b, h => by cases h
  | x :: a, [], h => by cases h
theorem sameL_len : ∀ {a b : List Ln}, sameL a b = true → a.length = b.length
  | [], [], _ => rfl
  | x :: a, y :: b, h => by
    have := sameL_len (a := a) (b := b) (Bool.and_eq_true_iff.1 h).2
    simp [this]
  | [], y :: b, h => by cases h
  | x :: a, [], h => by cases h
theorem sameW_refl : ∀ a : List ByteArray, sameW a a = true
  | [] => rfl
  | x :: a => by
    show ((ByteArray.toList x == ByteArray.toList x) && sameW a a) = true
    rw [sameW_refl a]; simp
theorem sameL_refl : ∀ a : List Ln, sameL a a = true
  | [] => rfl
  | x :: a => by
    show ((x.1 == x.1 && sameW x.2 x.2) && sameL a a) = true
    rw [sameW_refl, sameL_refl a]; simp

theorem sameR_l2 {a b : List Ln} {i : Nat} {N x4 : Int} (hi : i < a.length) (hi2 : i < b.length) (hl : (rdEl TLine a i).2.length = (rdEl TLine b i).2.length) (hb : (rdEl TLine a i).2.length ≤ 140737488355328) (hi3 : i ≤ 140737488355328) (hx : x4 = (i : Int)) (m : Nat) : ∀ (d k : Nat), (rdEl TLine a i).2.length = k + d →
    sameR.l2 (m + (d + 1)) a b (i : Int) N x4 ((rdEl TLine a i).2.length : Int) (k : Int) = cond (sameW ((rdEl TLine a i).2.drop k) ((rdEl TLine b i).2.drop k)) (sameR.l1 m a b N ((i + 1 : Nat) : Int)) (some (vb false, []))
  | 0, k, h => by
    refine (sameR.s2 m a b (i : Int) N x4 _ _).trans ?_
    rw [cond_df (by omega), hx, w64s (by omega), List.drop_eq_nil_of_le (by omega), List.drop_eq_nil_of_le (by omega)]
    rfl
  | d + 1, k, h => by
    have ih := sameR_l2 (N := N) (x4 := x4) hi hi2 hl hb hi3 hx m d (k + 1) (by omega)
    refine (sameR.s2 (m + (d + 1)) a b (i : Int) N x4 _ _).trans ?_
    have h1 := rdEl_drop (t := .str) (rdEl TLine a i).2 (show k < _ by omega)
    have h2 := rdEl_drop (t := .str) (rdEl TLine b i).2 (show k < _ by omega)
    rw [cond_dt (by omega), test_d (by omega), test_d (by omega), test_d (by omega), toNat_cast, toNat_cast, test_d (by omega), test_d (by omega), test_d (by omega), test_d (by omega), test_d (by omega), w64s (by omega), h1, h2, ih]
    have e : sameW (rdEl .str (rdEl TLine a i).2 k :: (rdEl TLine a i).2.drop (k + 1)) (rdEl .str (rdEl TLine b i).2 k :: (rdEl TLine b i).2.drop (k + 1)) =
        ((ByteArray.toList (rdEl .str (rdEl TLine a i).2 k) == ByteArray.toList (rdEl .str (rdEl TLine b i).2 k)) && sameW ((rdEl TLine a i).2.drop (k + 1)) ((rdEl TLine b i).2.drop (k + 1))) := rfl
    rw [e]
    cases ByteArray.toList (rdEl .str (rdEl TLine a i).2 k) == ByteArray.toList (rdEl .str (rdEl TLine b i).2 k) <;> rfl

theorem sameR_l1 {a b : List Ln} (hl : a.length = b.length) (hN : a.length ≤ 140737488355328) (hW : ∀ x ∈ a, x.2.length ≤ 140737488355328) : ∀ (d k : Nat), a.length = k + d →
    ∃ f, ∀ m, sameR.l1 (m + f) a b (a.length : Int) (k : Int) = some (vb (sameL (a.drop k) (b.drop k)), [])
  | 0, k, h => ⟨1, fun m => by
      rw [sameR.s1, cond_df (by omega), List.drop_eq_nil_of_le (by omega), List.drop_eq_nil_of_le (by omega)]; rfl⟩
  | d + 1, k, h => by
    obtain ⟨f, hf⟩ := sameR_l1 hl hN hW d (k + 1) (by omega)
    have h1 := rdEl_drop (t := TLine) a (show k < a.length by omega)
    have h2 := rdEl_drop (t := TLine) b (show k < b.length by omega)
    have hm : rdEl TLine a k ∈ a := by
      have : rdEl TLine a k ∈ a.drop k := by rw [h1]; exact List.mem_cons_self ..
      exact List.mem_of_mem_drop this
    have hw := hW _ hm
    refine ⟨f + ((rdEl TLine a k).2.length + 1) + 1, fun m => ?_⟩
    rw [show m + (f + ((rdEl TLine a k).2.length + 1) + 1) = (m + f) + ((rdEl TLine a k).2.length + 1) + 1 by omega, h1, h2]
    refine (sameR.s1 _ a b _ _).trans ?_
    rw [cond_dt (by omega), test_d (by omega), test_d (by omega), test_d (by omega), test_d (by omega), toNat_cast]
    have e : sameL (rdEl TLine a k :: a.drop (k + 1)) (rdEl TLine b k :: b.drop (k + 1)) = (((rdEl TLine a k).1 == (rdEl TLine b k).1 && sameW (rdEl TLine a k).2 (rdEl TLine b k).2) && sameL (a.drop (k + 1)) (b.drop (k + 1))) := rfl
    rw [e]
    by_cases hn : (rdEl TLine a k).1 = (rdEl TLine b k).1
    · have e1 : bne (rdEl TLine a k).1 (rdEl TLine b k).1 = false := by rw [hn]; exact bne_self_eq_false _
      have e2 : ((rdEl TLine a k).1 == (rdEl TLine b k).1) = true := by rw [hn]; exact beq_self_eq_true _
      rw [e2, Bool.true_and]
      refine (cond_f e1).trans ?_
      rw [test_d (by omega), test_d (by omega), test_d (by omega), test_d (by omega)]
      by_cases hl2 : (rdEl TLine a k).2.length = (rdEl TLine b k).2.length
      · have e3 : bne ((rdEl TLine a k).2.length : Int) ((rdEl TLine b k).2.length : Int) = false := by rw [hl2]; exact bne_self_eq_false _
        refine (cond_f e3).trans ?_
        rw [test_d (by omega), test_d (by omega)]
        refine (sameR_l2 (by omega) (by omega) hl2 hw (by omega) rfl (m + f) (rdEl TLine a k).2.length 0 (by omega)).trans ?_
        rw [List.drop_zero, List.drop_zero, hf]
        cases sameW (rdEl TLine a k).2 (rdEl TLine b k).2 <;> rfl
      · have e3 : bne ((rdEl TLine a k).2.length : Int) ((rdEl TLine b k).2.length : Int) = true := by simp; omega
        have e4 : sameW (rdEl TLine a k).2 (rdEl TLine b k).2 = false := by
          cases h : sameW (rdEl TLine a k).2 (rdEl TLine b k).2 with
          | true => exact absurd (sameW_len h) hl2
          | false => rfl
        rw [e4]
        exact cond_t e3
    · have e1 : bne (rdEl TLine a k).1 (rdEl TLine b k).1 = true := by simpa using hn
      have e2 : ((rdEl TLine a k).1 == (rdEl TLine b k).1) = false := by simpa using hn
      rw [e2]
      exact cond_t e1

theorem lines_fits {a : List Ln} (h : fits (.sl TLine) a = true) : a.length ≤ 140737488355328 ∧ ∀ x ∈ a, x.2.length ≤ 140737488355328 := by
  have hR : reachBytes = 140737488351232 := rfl
  obtain ⟨h1, h2⟩ := Bool.and_eq_true_iff.1 h
  have h1 : a.length * 32 ≤ reachBytes := of_decide_eq_true h1
  refine ⟨by omega, fun x hx => ?_⟩
  have h3 := List.all_eq_true.1 h2 x hx
  have h4 := (Bool.and_eq_true_iff.1 (Bool.and_eq_true_iff.1 h3).2).1
  have h4 : x.2.length * 16 ≤ reachBytes := of_decide_eq_true h4
  omega

theorem sameR_ok : sameR.OK := sameR.mk .nil fun a b hx => by
  obtain ⟨h1, _⟩ := Bool.and_eq_true_iff.1 hx
  obtain ⟨h1, h2⟩ := lines_fits h1
  have hres : sameR.res (a, b, ()) = vb (sameL a b) := rfl
  by_cases hl : a.length = b.length
  · obtain ⟨f, hf⟩ := sameR_l1 hl h1 h2 a.length 0 (by omega)
    have e : bne (a.length : Int) (b.length : Int) = false := by rw [hl]; exact bne_self_eq_false _
    refine ⟨0 + f + 1, ?_⟩
    rw [sameR.start, hres]
    exact (cond_f e).trans (hf 0)
  · have e : bne (a.length : Int) (b.length : Int) = true := by simp; omega
    have e4 : sameL a b = false := by
      cases h : sameL a b with
      | true => exact absurd (sameL_len h) hl
      | false => rfl
    refine ⟨1, ?_⟩
    rw [sameR.start, hres, e4]
    exact cond_t e

/-! ### what lines weigh -/

theorem sizesW_nn : ∀ W : List ByteArray, 0 ≤ sizesW W
  | [] => Int.le_refl _
  | w :: W => by
    have := sizesW_nn W
    show 0 ≤ (w.size : Int) + sizesW W
    omega
theorem sizesL_nn : ∀ L : List Ln, 0 ≤ sizesL L
  | [] => Int.le_refl _
  | x :: L => by
    have := sizesL_nn L
    have := sizesW_nn x.2
    show 0 ≤ ((x.2.length : Int) + sizesW x.2) + sizesL L
    omega

theorem light_l2 {L : List Ln} {N : Int} {i : Nat} {W : List ByteArray} (hi : i ≤ 140737488355328) (hw : W.length ≤ 140737488355328) (m : Nat) : ∀ (d k : Nat) (x : Int), W.length = k + d → 0 ≤ x → x + sizesW (W.drop k) ≤ 4611686018427387904 →
    light.l2 (m + (d + 1)) x L N (i : Int) W (W.length : Int) (k : Int) = light.l1 m (x + sizesW (W.drop k)) L N ((i + 1 : Nat) : Int)
  | 0, k, x, h, h0, hb => by
    refine (light.s2 m x L N _ W _ _).trans ?_
    rw [cond_df (by omega), List.drop_eq_nil_of_le (by omega), w64s (by omega)]
    show light.l1 m x L N _ = light.l1 m (x + 0) L N _
    rw [Int.add_zero]
  | d + 1, k, x, h, h0, hb => by
    have hd := rdEl_drop (t := .str) W (show k < W.length by omega)
    rw [hd] at hb ⊢
    have e : sizesW (rdEl .str W k :: W.drop (k + 1)) = ((show ByteArray from rdEl .str W k).size : Int) + sizesW (W.drop (k + 1)) := rfl
    rw [e] at hb ⊢
    have := sizesW_nn (W.drop (k + 1))
    refine (light.s2 (m + (d + 1)) x L N _ W _ _).trans ?_
    have e2 : IntKind.i64.wrap (x + ((show ByteArray from rdEl .str W k).size : Int)) = x + ((show ByteArray from rdEl .str W k).size : Int) := w64 (by omega) (by omega)
    have e2 : IntKind.i64.wrap (x + (ByteArray.size (rdEl .str W k) : Int)) = x + ((show ByteArray from rdEl .str W k).size : Int) := e2
    rw [cond_dt (by omega), test_d (by omega), test_d (by omega), toNat_cast, w64s (by omega), e2, light_l2 hi hw m d (k + 1) _ (by omega) (by omega) (by omega), Int.add_assoc]

theorem light_l1 {L : List Ln} (hN : L.length ≤ 140737488355328) (hW : ∀ x ∈ L, x.2.length ≤ 140737488355328) : ∀ (d k : Nat) (x : Int), L.length = k + d → 0 ≤ x → x + sizesL (L.drop k) ≤ 4611686018427387904 →
    ∃ f, ∀ m, light.l1 (m + f) x L (L.length : Int) (k : Int) = some (vi .i64 (if 3000 < x + sizesL (L.drop k) then 1 else 0), [])
  | 0, k, x, h, h0, hb => ⟨1, fun m => by
      rw [light.s1, cond_df (by omega), List.drop_eq_nil_of_le (by omega)]
      have e : x + sizesL [] = x := Int.add_zero _
      rw [e]
      by_cases h : x > 3000
      · rw [cond_dt h, if_pos h]; rfl
      · rw [cond_df h, if_neg h]; rfl⟩
  | d + 1, k, x, h, h0, hb => by
    have hd := rdEl_drop (t := TLine) L (show k < L.length by omega)
    have hm : rdEl TLine L k ∈ L := by
      have : rdEl TLine L k ∈ L.drop k := by rw [hd]; exact List.mem_cons_self ..
      exact List.mem_of_mem_drop this
    have hw := hW _ hm
    rw [hd] at hb ⊢
    have e : sizesL (rdEl TLine L k :: L.drop (k + 1)) = (((rdEl TLine L k).2.length : Int) + sizesW (rdEl TLine L k).2) + sizesL (L.drop (k + 1)) := rfl
    rw [e] at hb ⊢
    have n1 := sizesL_nn (L.drop (k + 1))
    have n2 := sizesW_nn (rdEl TLine L k).2
    obtain ⟨f, hf⟩ := light_l1 hN hW d (k + 1) (x + (((rdEl TLine L k).2.length : Int) + sizesW (rdEl TLine L k).2)) (by omega) (by omega) (by omega)
    refine ⟨f + ((rdEl TLine L k).2.length + 1) + 1, fun m => ?_⟩
    rw [show m + (f + ((rdEl TLine L k).2.length + 1) + 1) = (m + f) + ((rdEl TLine L k).2.length + 1) + 1 by omega]
    refine (light.s1 _ x L _ _).trans ?_
    rw [cond_dt (by omega), test_d (by omega), test_d (by omega), toNat_cast, w64 (n := x + ((rdEl TLine L k).2.length : Int)) (by omega) (by omega)]
    refine (light_l2 (by omega) hw (m + f) (rdEl TLine L k).2.length 0 _ (by omega) (by omega) (by rw [List.drop_zero]; omega)).trans ?_
    rw [List.drop_zero, Int.add_assoc, hf m, Int.add_assoc]

theorem light_ok : light.OK := light.mk .nil fun L hx => by
  obtain ⟨h1, h2⟩ := Bool.and_eq_true_iff.1 hx
  have h2 : (L.length : Int) + sizesL L ≤ 4611686018427387904 := of_decide_eq_true (Bool.and_eq_true_iff.1 h2).1
  obtain ⟨h3, h4⟩ := lines_fits (a := L) h1
  obtain ⟨f, hf⟩ := light_l1 h3 h4 L.length 0 (L.length : Int) (by omega) (by omega) (by rw [List.drop_zero]; exact h2)
  refine ⟨0 + f + 1, ?_⟩
  rw [light.start]
  exact hf 0

end Go.Proofs.Ytcjlebkfekfkbaa

namespace Go.Proofs.Ytcjlebkfekfkbaa
open Go VE Go.RowKit Go.Shelf

set_option maxRecDepth 100000 in
set_option maxHeartbeats 1000000 in
theorem copy_used (b : Nat) (w : World) (h0 : w.cell? ⟨b, 0, none⟩ = some (.pointer (some ⟨b, 0, none⟩))) :
    Calls Try.prog 30 #[.pointer (some ⟨b, 0, none⟩)] w fun e w' => e = .returned (.tuple #[]) ∧ w' = w := by
  obtain ⟨j, hj, _⟩ := Option.map_eq_some_iff.1 (show (Try.prog.info? 54).map (·.size) = some 2 by kernel_rfl)
  have hn : Try.f30.ntmps = 20 := rfl
  go_enter Try.func30, hn
  go_wp2
  rw [Lib.run_neq_ptr_same w _ (show Try.prog.underlying 52 = some (.pointer 54) by kernel_rfl) hj]
  go_wp2
  go_end0
  exact ⟨rfl, rfl⟩

set_option maxRecDepth 100000 in
set_option maxHeartbeats 1000000 in
theorem copy_fresh (b : Nat) (w : World) (h0 : w.cell? ⟨b, 0, none⟩ = some (.pointer none)) (hsh : w.shape? b = some (54, 2)) (hfz : w.frozen? ⟨b, 0, none⟩ = false) :
    Calls Try.prog 30 #[.pointer (some ⟨b, 0, none⟩)] w fun e w' => e = .returned (.tuple #[]) ∧ w' = w.setCell ⟨b, 0, none⟩ (.pointer (some ⟨b, 0, none⟩)) := by
  obtain ⟨j, hj, hjs⟩ := Option.map_eq_some_iff.1 (show (Try.prog.info? 54).map (·.size) = some 2 by kernel_rfl)
  have t52 : Try.prog.underlying 52 = some (.pointer 54) := by kernel_rfl
  have t66 : Try.prog.underlying 66 = some .unsafePointer := by kernel_rfl
  have hn : Try.f30.ntmps = 20 := rfl
  go_enter Try.func30, hn
  go_wp2
  rw [Lib.run_to_unsafe w ⟨b, 0, none⟩ t52 t66 hj (by rw [hjs]; decide) hsh (Nat.zero_lt_succ 1)]
  simp only [Result.andThen]
  rw [Oper.upon_value]
  go_wp2
  rw [run_callFunc_extern Try.func33 (by kernel_rfl) (by kernel_rfl) (by kernel_rfl) (e := Extern.AbiNoEscape.same) (by kernel_rfl)]
  rw [Lib.run_noEscape]
  simp only [Result.andThen]
  rw [Oper.upon_value]
  go_wp2
  rw [Lib.run_from_unsafe w ⟨b, 0, none⟩ t66 t52 hj hsh (by kernel_rfl)]
  simp only [Result.andThen]
  rw [Oper.upon_value]
  go_wp2
  go_end0
  exact ⟨rfl, rfl⟩

theorem copy_k (B b : Nat) (bs : List Value) (w : World) (h : Lib.IsBuilderF 54 5 B b bs w) :
    Calls Try.prog 30 #[.pointer (some ⟨b, 0, none⟩)] w fun e w' => e = .returned (.tuple #[]) ∧ (Lib.BuilderAtF 54 5 B b (.pointer (some ⟨b, 0, none⟩)) bs w' ∧ Below B w w') := by
  rcases h with h | h
  · refine (copy_fresh b w h.cell0 h.shape h.frozen0).mono ?_
    rintro e w' ⟨rfl, rfl⟩
    exact ⟨rfl, h.used _, (Below.refl B w).setCell (p := ⟨b, 0, none⟩) h.1 _⟩
  · refine (copy_used b w h.cell0).mono ?_
    rintro e w' ⟨rfl, rfl⟩
    exact ⟨rfl, h, Below.refl B _⟩

set_option maxHeartbeats 2000000 in
set_option maxRecDepth 100000 in
theorem write_k (B b : Nat) (bs : List Value) (s : ByteArray) (w : World) (h : Lib.IsBuilderF 54 5 B b bs w) (hlen : bs.length + s.size ≤ 140737488355328) (hBw : B ≤ w.heap.size) :
    Calls Try.prog 25 #[.pointer (some ⟨b, 0, none⟩), .string s] w fun e w' => e = .returned (.tuple #[.int .i64 s.size, .nilIface]) ∧ (Lib.BuilderAtF 54 5 B b (.pointer (some ⟨b, 0, none⟩)) (bs ++ Lib.strCells s) w' ∧ Below B w w') := by
  have infoByte : (Try.prog.info? 5).map (fun i => (i.zero, i.size, i.bytes)) = some (some (.int .u8 0), 1, 1) := by kernel_rfl
  obtain ⟨i0, hi, hz0, hz1, hz2⟩ := info_parts infoByte
  have hn : Try.f25.ntmps = 19 := rfl
  go_enter Try.func25, hn
  go_wp2_with (go_at_call 30; refine (copy_k B b bs _ h).mono ?_)
  rintro e w1 ⟨rfl, h1, hb1⟩
  obtain ⟨hB, v, hbk, hown, hne⟩ := h1
  have c0 : w1.cell? ⟨b, 0, none⟩ = some (.pointer (some ⟨b, 0, none⟩)) := by rw [Lib.cell_of_heap hbk]; rfl
  have c1 : w1.cell? ⟨b, 1, none⟩ = some v := by rw [Lib.cell_of_heap hbk]; rfl
  go_wp2_with (at_builtin; refine Lib.wpList_append_own_stringF _ rfl _ _ 23 9 rfl B 5 i0 (show Try.prog.underlying 23 = some (.slice 5) by kernel_rfl) (show Try.prog.underlying 9 = some .string by kernel_rfl) hi hz0 hz1 hz2 _ _ _ rfl hown s rfl ?c3 ?c4 ?c5 ?_)
  case c3 => unfold maxLen; omega
  case c4 => omega
  case c5 => have := hb1.size; omega
  intro v' w2 hown' hgrow _
  have hlt : b < w1.heap.size := by
    rcases Nat.lt_or_ge b w1.heap.size with h' | h'
    · exact h'
    · simp [Array.getElem?_eq_none h'] at hbk
  have hb2 : w2.heap[b]? = some (.cells #[.pointer (some ⟨b, 0, none⟩), v] 54 (0, 0)) := by
    rw [hgrow.block b hlt (fun e => hne e.symm)]
    exact hbk
  have d0 : w2.cell? ⟨b, 0, none⟩ = some (.pointer (some ⟨b, 0, none⟩)) := by rw [Lib.cell_of_heap hb2]; rfl
  have d1 : w2.cell? ⟨b, 1, none⟩ = some v := by rw [Lib.cell_of_heap hb2]; rfl
  have f1 : w2.frozen? ⟨b, 1, none⟩ = false := Lib.frozen_of_heap hb2 1
  obtain ⟨ao, n', cap, rfl⟩ : ∃ ao n' cap, v' = .slice ao n' cap := by
    rcases hown'.2 with ⟨hv, _⟩ | ⟨g, cap, cur, fz, hv, _⟩
    · exact ⟨_, _, _, hv⟩
    · exact ⟨_, _, _, hv⟩
  go_wp2
  go_ret2
  refine ⟨rfl, ?_, ?_⟩
  · exact Lib.BuilderAtF.put (T := 54) (e := 5) hB hb2 (bs' := bs ++ Lib.strCells s) (by simpa [Lib.strCells_length] using hown') (by decide)
  · exact (hb1.grown hgrow (by have := hb1.size; omega) (fun k hk => (hown.lt k hk).1)).setCell (p := ⟨b, 1, none⟩) hB _

end Go.Proofs.Ytcjlebkfekfkbaa

namespace Go.Proofs.Ytcjlebkfekfkbaa
open Go VE Go.RowKit Go.Shelf

/-- A row of lines, as it lies. -/
structure LinesAt (a : Option Addr) (l : List Ln) (w : World) : Prop where
  at_ : ∀ k x, l[k]? = some x → ∃ b o, a = some ⟨b, o, none⟩ ∧ b < w.heap.size ∧ w.cell? ⟨b, o + (k * 2), none⟩ = some (.int .i64 x.1) ∧
    ∃ a2 c2, w.cell? ⟨b, o + (k * 2 + 1), none⟩ = some (.slice a2 x.2.length c2) ∧ x.2.length ≤ c2 ∧
      ∀ j s, x.2[j]? = some s → ∃ b2 o2, a2 = some ⟨b2, o2, none⟩ ∧ b2 < w.heap.size ∧ w.cell? ⟨b2, o2 + j, none⟩ = some (.string s)

theorem joinT_bytes : ∀ (W : List ByteArray), bs (joinT W) = ((W.map bs).map ([32] ++ ·)).flatten
  | [] => rfl
  | w :: W => by
    have ih := joinT_bytes W
    show bs (((⟨#[32]⟩ : ByteArray) ++ w) ++ joinT W) = _
    rw [bs_append, bs_append, ih]
    rfl
theorem join_cons (x : List UInt8) : ∀ (r : List (List UInt8)), Lib.join (x :: r) [32] = x ++ (r.map ([32] ++ ·)).flatten
  | [] => by simp [Lib.join, List.intercalate]
  | y :: r => by
    have ih := join_cons y r
    have e : Lib.join (x :: y :: r) [32] = x ++ ([32] ++ Lib.join (y :: r) [32]) := by simp [Lib.join, List.intercalate]
    rw [e, ih]
    simp
theorem join_bytes : ∀ (W : List ByteArray), Lib.join (W.map (·.data.toList)) [32] = bs (joinW W)
  | [] => rfl
  | w :: W => by
    show Lib.join (bs w :: W.map bs) [32] = bs (w ++ joinT W)
    rw [join_cons, bs_append, joinT_bytes]

theorem joinL_snoc : ∀ (l : List Ln) (x : Ln), joinL (l ++ [x]) = joinL l ++ (joinW x.2 ++ (⟨#[10]⟩ : ByteArray))
  | [], x => by
    show (joinW x.2 ++ (⟨#[10]⟩ : ByteArray)) ++ (⟨#[]⟩ : ByteArray) = (⟨#[]⟩ : ByteArray) ++ (joinW x.2 ++ (⟨#[10]⟩ : ByteArray))
    exact ByteArray.append_empty.trans ByteArray.empty_append.symm
  | y :: l, x => by
    show (joinW y.2 ++ (⟨#[10]⟩ : ByteArray)) ++ joinL (l ++ [x]) = ((joinW y.2 ++ (⟨#[10]⟩ : ByteArray)) ++ joinL l) ++ _
    rw [joinL_snoc l x, ByteArray.append_assoc, ByteArray.append_assoc, ByteArray.append_assoc]
theorem joinL_app : ∀ (l m : List Ln), joinL (l ++ m) = joinL l ++ joinL m
  | [], m => ByteArray.empty_append.symm
  | y :: l, m => by
    show (joinW y.2 ++ (⟨#[10]⟩ : ByteArray)) ++ joinL (l ++ m) = ((joinW y.2 ++ (⟨#[10]⟩ : ByteArray)) ++ joinL l) ++ joinL m
    rw [joinL_app l m, ByteArray.append_assoc, ByteArray.append_assoc, ByteArray.append_assoc]
theorem take_size (l : List Ln) (k : Nat) : (joinL (l.take k)).size ≤ (joinL l).size := by
  have := joinL_app (l.take k) (l.drop k)
  rw [List.take_append_drop] at this
  rw [this, ByteArray.size_append]; omega

theorem builder_below {B b : Nat} {l : List Value} {w w' : World} (h : Lib.IsBuilderF 54 5 B b l w) (hb : Below w.heap.size w w') : Lib.IsBuilderF 54 5 B b l w' := by
  have key : ∀ {p : Value}, Lib.BuilderAtF 54 5 B b p l w → Lib.BuilderAtF 54 5 B b p l w' := fun h => by
    have hlt := h.lt
    obtain ⟨hB, v, hbk, hown, hne⟩ := h
    exact ⟨hB, v, (hb.block b hlt).trans hbk, hown.kept (row := none) ⟨hb.os, hb.tape, hb.output, hb.size, fun k hk _ => hb.block k hk⟩ (Classical.em _), hne⟩
  exact h.imp key key

theorem builder_lt {B b : Nat} {l : List Value} {w : World} (h : Lib.IsBuilderF 54 5 B b l w) : b < w.heap.size := h.elim (fun h => h.lt) (fun h => h.lt)

/-- The words of a line, joined. -/
theorem join_call {a2 : Option Addr} {c2 : Nat} {W : List ByteArray} {w V : World} (hbw : Below w.heap.size w V) (hcap : W.length ≤ c2)
    (hw : ∀ j s, W[j]? = some s → ∃ b2 o2, a2 = some ⟨b2, o2, none⟩ ∧ b2 < w.heap.size ∧ w.cell? ⟨b2, o2 + j, none⟩ = some (.string s)) (hs : (joinW W).size ≤ 1000000) :
    Calls Try.prog 26 #[.slice a2 W.length c2, .string ⟨#[32]⟩] V fun e w' => e = .returned (.string (joinW W)) ∧ Below V.heap.size V w' := by
  cases W with
  | nil =>
    refine (Try.strings_Join_none a2 c2 ⟨#[32]⟩ V).mono ?_
    rintro e w' ⟨rfl, rfl⟩
    exact ⟨rfl, Below.refl _ _⟩
  | cons s W =>
    obtain ⟨b2, o2, rfl, hb2, _⟩ := hw 0 s rfl
    have hlen := joinW_len (s :: W)
    have hj := join_bytes (s :: W)
    refine (Try.strings_Join b2 o2 c2 (s :: W) ⟨#[32]⟩ V (fun j x hx => ?_) (by have := hbw.size; omega) (by omega) hcap (by
      show (Lib.join ((s :: W).map (·.data.toList)) [32]).length ≤ _
      rw [hj, bs_length]; omega)).mono ?_
    · obtain ⟨b3, o3, e, hb3, hc⟩ := hw j x hx
      cases e
      exact (hbw.cell (p := ⟨b2, o2 + j, none⟩) hb2).trans hc
    · rintro e w' ⟨rfl, h⟩
      refine ⟨?_, h⟩
      have : (⟨(Lib.join ((s :: W).map (·.data.toList)) [32]).toArray⟩ : ByteArray) = joinW (s :: W) := by rw [hj]
      exact congrArg (fun z => Ending.returned (.string z)) this

set_option maxHeartbeats 4000000 in
set_option maxRecDepth 1000000 in
theorem join_walk (a : Option Addr) (cap : Nat) (l : List Ln) (w : World) (hA : LinesAt a l w) (hs : (joinL l).size ≤ 1000000) :
    Calls Try.prog 20 #[.slice a l.length cap] w fun e w' => e = .returned (.string (joinL l)) ∧ Below w.heap.size w w' := by
  have hn : Try.f20.ntmps = 19 := rfl
  go_enter Try.func20, hn
  go_wp2
  go_loopw [8] (fun v wr => ∃ k : Nat, k ≤ l.length ∧ v = .int .i64 (k : Int) ∧ Lib.IsBuilderF 54 5 w.heap.size w.heap.size (Lib.byteCells (bs (joinL (l.take k)))) wr ∧ Below w.heap.size w wr)
    (fun v _ => l.length - (intOf v).toNat)
  case atStart => exact ⟨0, by omega, rfl, Lib.IsBuilderF.of (Lib.fresh_isBuilder 54 5 w), (Below.refl _ w).alloc (Nat.le_refl _) _⟩
  case round =>
    obtain ⟨k, hk, rfl, hI, hbw⟩ := hrel
    by_cases hlt : k < l.length
    · obtain ⟨x, hx⟩ : ∃ x, l[k]? = some x := ⟨l[k], List.getElem?_eq_getElem hlt⟩
      obtain ⟨b, o, rfl, hb, hc1, a2, c2, hc2, hcap, hw⟩ := hA.at_ k x hx
      have d1 := (hbw.cell (p := ⟨b, o + (k * 2), none⟩) hb).trans hc1
      have d2 := (hbw.cell (p := ⟨b, o + (k * 2 + 1), none⟩) hb).trans hc2
      have d2 : wr.cell? ⟨b, o + k * 2 + 1, none⟩ = some (.slice a2 x.2.length c2) := by rw [Nat.add_assoc]; exact d2
      have hlt2 := builder_lt hI
      have hmem : x ∈ l := List.mem_of_getElem? hx
      have hll := (joinL_len l).1
      have hsz : (joinW x.2).size ≤ 1000000 := by have := (joinL_len l).2 x hmem; omega
      have hbw2 : ∀ o, Below w.heap.size w (wr.alloc o) := fun o => hbw.trans ((Below.refl _ wr).alloc (Nat.le_of_lt hlt2) _)
      go_wp2_with (go_at_call 26; refine (join_call (w := w) (hbw2 _) hcap hw hsz).mono ?_)
      rintro e W1 ⟨rfl, hb1⟩
      have hI1 := builder_below (hI.alloc _) hb1
      have hW1 := builder_lt hI1
      have hk1 := take_size l k
      have hbs : (Lib.byteCells (bs (joinL (l.take k)))).length + (joinW x.2 ++ (⟨#[10]⟩ : ByteArray)).size ≤ 140737488355328 := by
        rw [Lib.byteCells_length, bs_length, ByteArray.size_append]
        show _ + ((joinW x.2).size + 1) ≤ _
        omega
      go_wp2_with (go_at_call 25; refine (write_k w.heap.size w.heap.size _ _ _ hI1 hbs (Nat.le_of_lt hW1)).mono ?_)
      rintro e W2 ⟨rfl, h2, hb2⟩
      go_wp2
      go_roundw
      case rel =>
        have e1 : l.take (k + 1) = l.take k ++ [x] := by rw [List.take_add_one, hx]; rfl
        refine ⟨k + 1, by omega, by simp, ?_, ((hbw2 _).trans (hb1.mono (by simp; omega))).trans hb2⟩
        rw [e1, joinL_snoc, bs_append, Lib.byteCells_append]
        exact Or.inr h2
      case measure =>
        simp [intOf]
        omega
    · have hkl : k = l.length := by omega
      go_wp2_with (go_at_call 27; refine (Try.Builder_String_any_f w.heap.size w.heap.size _ _ hI (Nat.le_of_lt (builder_lt hI))).mono ?_)
      rintro e W1 ⟨rfl, _, hb1⟩
      go_wp2
      go_ret
      exact ⟨rfl, hbw.trans hb1⟩

theorem lines_at {w : World} {ok : Nat → Nat → Prop} (hok : ∀ b o, ok b o → b < w.heap.size) {u : Value} {l : List Ln} (h : VRel (outside ok w) w u (.sl TLine l)) : ∃ a cap, u = .slice a l.length cap ∧ LinesAt a l w := by
  cases h with
  | sl _ _ a cap rd hcap hnil hcell hel =>
    refine ⟨a, cap, rfl, ⟨fun k x hx => ?_⟩⟩
    have hk : k < l.length := (List.getElem?_eq_some_iff.1 hx).1
    obtain ⟨ad, rfl, h1, h2, h3⟩ := hcell k hk 0 (by decide)
    obtain ⟨ad', e, _, h5, h6⟩ := hcell k hk 1 (by decide)
    cases e
    have v0 := hel k x hx 0 _ rfl
    have v1 := hel k x hx 1 _ rfl
    obtain ⟨b, o, sp⟩ := ad
    have h1 : sp = none := h1
    subst h1
    have e0 : rd k 0 = .int .i64 x.1 := by
      generalize rd k 0 = z at v0
      cases v0
      rfl
    rw [e0] at h3
    refine ⟨b, o, rfl, hok _ _ h2, h3, ?_⟩
    generalize rd k 1 = z at v1 h6
    cases v1 with
    | sl _ _ a2 c2 rd2 hcap2 hnil2 hcell2 hel2 =>
      refine ⟨a2, c2, h6, hcap2, fun j s hs => ?_⟩
      obtain ⟨ad2, e2, g1, g2, g3⟩ := hcell2 j (List.getElem?_eq_some_iff.1 hs).1 0 (by decide)
      obtain ⟨b2, o2, sp2⟩ := ad2
      have g1 : sp2 = none := g1
      subst g1
      have v2 := hel2 j s hs 0 _ rfl
      have e3 : rd2 j 0 = .string s := by
        generalize rd2 j 0 = z at v2
        cases v2
        rfl
      rw [e3] at g3
      refine ⟨b2, o2, e2, hok _ _ g2, ?_⟩
      have : o2 + (j * width .str + 0) = o2 + j := by show o2 + (j * 1 + 0) = _; omega
      rw [this] at g3
      exact g3

theorem join_ok : join.OK := join.mkR fun l hx => by
  have h2 := (Bool.and_eq_true_iff.1 (Bool.and_eq_true_iff.1 hx).2).1
  have h2 : (joinL l).size ≤ 1000000 := of_decide_eq_true h2
  intro w us ok hok hl hus ha
  obtain ⟨u0, rfl⟩ : ∃ u0, us = #[u0] := by
    obtain ⟨L⟩ := us
    match L, hus with
    | [u0], _ => exact ⟨u0, rfl⟩
  have h0 := iv_c (ha 0 _ rfl)
  obtain ⟨a, cap, e, hA⟩ := lines_at hok h0
  have e : u0 = .slice a l.length cap := e
  subst e
  refine (join_walk a cap l w hA h2).mono ?_
  rintro e w' ⟨rfl, hb⟩
  exact ⟨_, rfl, hb, .c _ _ (.v _ rfl)⟩

end Go.Proofs.Ytcjlebkfekfkbaa
