/-
  LinesForms: the lines are as the document's.
-/
import Derived.Test.YtcjlebkfekfkbaaWP
import Derived.Test.YtcjlebkfekfkbaaWS
namespace Go.Proofs.Ytcjlebkfekfkbaa
open Go VE

theorem reach_val : reachBytes = 140737488351232 := rfl
theorem word_pre {s : ByteArray} (h : s.size ≤ 1000000) : wordR.pre (s, ()) = true ∧ nameW.pre (s, ()) = true ∧ number.pre (s, ()) = true ∧ numberR.pre (s, ()) = true ∧ splitR.pre (s, ()) = true := by
  have e : (fits .str s && true) = true := by rw [str_fits h]; rfl
  exact ⟨e, e, e, e, e⟩

/-- A line that is small. -/
def Slight (K : Nat) (x : Ln) : Prop := x.2.length ≤ K ∧ ∀ w ∈ x.2, w.size ≤ K
theorem slight_fits {K : Nat} (hK : K ≤ 1000000000) {l : List Ln} (hl : l.length ≤ K) (h : ∀ x ∈ l, Slight K x) : fits (.sl TLine) l = true := by
  have hR := reach_val
  have h0 : l.length * 32 ≤ reachBytes := by omega
  refine Bool.and_eq_true_iff.2 ⟨decide_eq_true h0, List.all_eq_true.2 fun x hx => ?_⟩
  obtain ⟨h1, h2⟩ := h x hx
  have h3 : x.2.length * 16 ≤ reachBytes := by omega
  refine Bool.and_eq_true_iff.2 ⟨rfl, Bool.and_eq_true_iff.2 ⟨decide_eq_true h3, List.all_eq_true.2 fun w hw => ?_⟩⟩
  have h4 := h2 w hw
  exact decide_eq_true (show w.size ≤ reachBytes by omega)

/-! ### what Split answers is small -/

theorem parts_small {s w : ByteArray} {c : Int} (h : w ∈ partsL s c) : w.size ≤ s.size := by
  obtain ⟨v, hv, rfl⟩ := List.mem_map.1 h
  exact (runs_mem hv).2.2
theorem parts_len (s : ByteArray) (c : Int) : (partsL s c).length ≤ s.size + 1 := by
  have hP := runs_length (s := s) (sep := c) s.size 0 0 0
  unfold partsL runsL; rw [List.length_map]; exact hP
theorem words_slight {s : ByteArray} {K : Nat} (h : s.size < K) (n : Int) : Slight K (n, wordsL s) := by
  have hc := cutA_size s
  refine ⟨?_, fun w hw => ?_⟩
  · show (wordsL s).length ≤ K
    unfold wordsL
    have h1 := List.length_filter_le (fun w => !(ByteArray.toList w == ByteArray.toList ⟨#[]⟩)) (partsL (cutA s) 32)
    have h2 := parts_len (cutA s) 32
    omega
  · have : w ∈ wordsL s := hw
    unfold wordsL at this
    have := parts_small (List.mem_filter.1 this).1
    omega
theorem splitG_small {K : Nat} : ∀ (l : List ByteArray) (i : Nat) (out : List Ln), (∀ x ∈ l, x.size < K) → (∀ x ∈ out, Slight K x) →
    (splitG l i out).1.length ≤ out.length + l.length ∧ ∀ x ∈ (splitG l i out).1, Slight K x
  | [], i, out, _, ho => ⟨Nat.le_refl _, ho⟩
  | x :: l, i, out, hl, ho => by
    unfold splitG
    by_cases hm : mayB x = true
    · rw [if_pos hm]
      by_cases hw : (wordsL x).length = 0
      · rw [if_pos hw]
        obtain ⟨h1, h2⟩ := splitG_small l (i + 1) out (fun y hy => hl y (List.mem_cons_of_mem _ hy)) ho
        exact ⟨by rw [List.length_cons]; omega, h2⟩
      · rw [if_neg hw]
        obtain ⟨h1, h2⟩ := splitG_small l (i + 1) (out ++ [((i : Int) + 1, wordsL x)]) (fun y hy => hl y (List.mem_cons_of_mem _ hy)) fun y hy => by
          rcases List.mem_append.1 hy with hy | hy
          · exact ho y hy
          · rw [List.mem_singleton.1 hy]; exact words_slight (hl x (List.mem_cons_self ..)) _
        refine ⟨?_, h2⟩
        rw [List.length_append, List.length_singleton] at h1
        rw [List.length_cons]; omega
    · rw [if_neg hm]
      exact ⟨Nat.zero_le _, fun y hy => by cases hy⟩
theorem splitL_fits (s : ByteArray) : fits (.sl TLine) (splitL s).1 = true := by
  unfold splitL
  by_cases hs : 4000 < s.size
  · rw [if_pos hs]; exact slight_fits (K := 0) (by omega) (Nat.le_refl _) fun x hx => by cases hx
  · rw [if_neg hs]
    obtain ⟨h1, h2⟩ := splitG_small (K := 5000) (partsL s 10) 0 [] (fun x hx => by have := parts_small hx; omega) (fun x hx => by cases hx)
    have h3 := parts_len s 10
    rw [List.length_nil] at h1
    exact slight_fits (K := 5000) (by omega) (by omega) h2

/-! ### what is of small bulk -/

theorem sz_words : ∀ W : List ByteArray, ((W.map (szE .str)).sum : Int) = (W.length : Int) + sizesW W
  | [] => rfl
  | w :: W => by
    have ih := sz_words W
    have e : szE .str w = w.size + 1 := rfl
    show (((w :: W).map (szE .str)).sum : Int) = ((w :: W).length : Int) + ((w.size : Int) + sizesW W)
    rw [List.map_cons, List.sum_cons, List.length_cons, e]
    omega
theorem sz_lines : ∀ L : List Ln, ((L.map (szE TLine)).sum : Int) = 2 * (L.length : Int) + sizesL L
  | [] => rfl
  | x :: L => by
    have ih := sz_lines L
    have e : szE TLine x = 1 + ((x.2.map (szE .str)).sum + 1) := rfl
    have ew := sz_words x.2
    show (((x :: L).map (szE TLine)).sum : Int) = 2 * ((x :: L).length : Int) + (((x.2.length : Int) + sizesW x.2) + sizesL L)
    rw [List.map_cons, List.sum_cons, List.length_cons, e]
    omega
theorem sizesW_nn' : ∀ W : List ByteArray, 0 ≤ sizesW W
  | [] => Int.le_refl 0
  | w :: W => by
    have := sizesW_nn' W
    show 0 ≤ (w.size : Int) + sizesW W
    omega
theorem sizesW_mem : ∀ (W : List ByteArray), ∀ w ∈ W, (w.size : Int) ≤ sizesW W
  | v :: W, w, hw => by
    have := sizesW_nn' W
    show (w.size : Int) ≤ (v.size : Int) + sizesW W
    rcases List.mem_cons.1 hw with rfl | hw
    · omega
    · have := sizesW_mem W w hw
      omega
theorem sizesL_mem : ∀ (L : List Ln), ∀ x ∈ L, (x.2.length : Int) + sizesW x.2 ≤ sizesL L
  | v :: L, x, hx => by
    have := sizesL_nn L
    have := sizesW_nn' v.2
    show (x.2.length : Int) + sizesW x.2 ≤ ((v.2.length : Int) + sizesW v.2) + sizesL L
    rcases List.mem_cons.1 hx with rfl | hx
    · omega
    · have := sizesL_mem L x hx
      omega
theorem joinT_sz : ∀ W : List ByteArray, ((joinT W).size : Int) = (W.length : Int) + sizesW W
  | [] => rfl
  | w :: W => by
    have ih := joinT_sz W
    have e : (joinT (w :: W)).size = 1 + w.size + (joinT W).size := by
      show (((⟨#[32]⟩ : ByteArray) ++ w) ++ joinT W).size = _
      rw [ByteArray.size_append, ByteArray.size_append]; rfl
    show ((joinT (w :: W)).size : Int) = ((w :: W).length : Int) + ((w.size : Int) + sizesW W)
    rw [e, List.length_cons]
    omega
theorem joinW_sz : ∀ W : List ByteArray, ((joinW W).size : Int) ≤ (W.length : Int) + sizesW W
  | [] => Int.le_refl 0
  | w :: W => by
    have ih := joinT_sz W
    have e : (joinW (w :: W)).size = w.size + (joinT W).size := ByteArray.size_append
    show ((joinW (w :: W)).size : Int) ≤ ((w :: W).length : Int) + ((w.size : Int) + sizesW W)
    rw [e, List.length_cons]
    omega
theorem joinL_sz : ∀ L : List Ln, ((joinL L).size : Int) ≤ (L.length : Int) + sizesL L
  | [] => Int.le_refl 0
  | x :: L => by
    have ih := joinL_sz L
    have hw := joinW_sz x.2
    have e : (joinL (x :: L)).size = (joinW x.2).size + 1 + (joinL L).size := by
      show ((joinW x.2 ++ (⟨#[10]⟩ : ByteArray)) ++ joinL L).size = _
      rw [ByteArray.size_append, ByteArray.size_append]; rfl
    show ((joinL (x :: L)).size : Int) ≤ ((x :: L).length : Int) + (((x.2.length : Int) + sizesW x.2) + sizesL L)
    rw [e, List.length_cons]
    omega

theorem lForms_R (s : ByteArray) (L : List Ln) (h : szEs [(false, .str), (false, .sl TLine)] (s, L, ()) ≤ 1048576) :
    VE.Returns Try.prog 7 (ivA lForms.ps (s, L, ())) (vb true) := by
  have e : szEs [(false, .str), (false, .sl TLine)] (s, L, ()) = (s.size + 1) + (((L.map (szE TLine)).sum + 1) + 0) := rfl
  rw [e] at h
  have hz := sz_lines L
  have hn := sizesL_nn L
  have hfit : fits (.sl TLine) L = true := slight_fits (K := 1048576) (by omega) (by omega) fun x hx => by
    have h1 := sizesL_mem L x hx
    have h2 := sizesW_nn' x.2
    refine ⟨by omega, fun w hw => ?_⟩
    have h3 := sizesW_mem x.2 w hw
    omega
  have hlight : light.pre (L, ()) = true := by
    show (fits (.sl TLine) L && (decide ((List.length L : Int) + sizesL L ≤ 4611686018427387904) && true)) = true
    rw [hfit, dec_t (by omega)]; rfl
  refine lForms.ret (awake_ok.cons' (split_ok.cons' (splitR_ok.cons' (number_ok.cons' (numberR_ok.cons' (nameW_ok.cons' (wordR_ok.cons' (join_ok.cons' (joinR_ok.cons' (sameR_ok.cons' (light_ok.cons' .nil))))))))))) s L (m := 1) ?_
  rw [lForms.start]
  by_cases h1 : (s.size : Int) > 6000
  · rw [cond_dt h1]; rfl
  rw [cond_df h1, test_true hlight]
  by_cases h2 : lightI L > 0
  · rw [cond_dt h2]; rfl
  rw [cond_df h2]
  have h3 : ¬ 3000 < (L.length : Int) + sizesL L := fun h => by
    unfold lightI at h2
    rw [if_pos h] at h2
    omega
  have hj := joinL_sz L
  have hjoin : join.pre (L, ()) = true ∧ joinR.pre (L, ()) = true := by
    have e : (fits (.sl TLine) L && (decide (ByteArray.size (joinL L) ≤ 1000000) && true)) = true := by
      rw [hfit, dec_t (by omega)]; rfl
    exact ⟨e, e⟩
  have hsame : sameR.pre ((splitL s).1, (splitL s).1, ()) = true := by
    show (fits (.sl TLine) (splitL s).1 && (fits (.sl TLine) (splitL s).1 && true)) = true
    rw [splitL_fits]; rfl
  obtain ⟨p1, p2, p3, p4, p5⟩ := word_pre (s := s) (by omega)
  rw [test_true (split_pre (by omega)), test_true p5, test_true p3, test_true p4, test_true hsame, sameL_refl, cond_true, cond_t (beq_self_eq_true _), cond_t (beq_self_eq_true _), cond_t (beq_self_eq_true _), cond_t (beq_self_eq_true _),
    test_true p2, test_true p1, cond_t (beq_self_eq_true _), test_true hjoin.1, test_true hjoin.2, cond_t (beq_self_eq_true _)]
  rfl

end Go.Proofs.Ytcjlebkfekfkbaa
