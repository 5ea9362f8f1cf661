/-
  Sorted rows: there is one of the same keys; where halving comes to.
-/
import Derived.Test.YtnpncjpgihgkcaaC
namespace Go.Proofs.Ytnpncjpgihgkcaa
open Go VE

abbrev Le (a b : Int × Int) : Prop := less b a = false

theorem less_iff (a b : Int × Int) : less a b = true ↔ a.1 < b.1 ∨ (a.1 = b.1 ∧ a.2 < b.2) := by simp [less]
theorem le_iff (a b : Int × Int) : Le a b ↔ a.1 < b.1 ∨ (a.1 = b.1 ∧ a.2 ≤ b.2) := by
  have := less_iff b a
  unfold Le
  cases h : less b a
  · rw [h] at this
    simp at this
    simp only [true_iff]
    omega
  · rw [h] at this
    simp at this
    simp only [Bool.true_eq_false, false_iff]
    omega
theorem Le.trans {a b c : Int × Int} (h1 : Le a b) (h2 : Le b c) : Le a c := by rw [le_iff] at *; omega
theorem Le.anti {a b : Int × Int} (h1 : Le a b) (h2 : Le b a) : a = b := by
  rw [le_iff] at *
  exact Prod.ext (by omega) (by omega)
theorem le_of_less {a b : Int × Int} (h : less a b = true) : Le a b := by rw [less_iff] at h; rw [le_iff]; omega
theorem less_le {a b c : Int × Int} (h1 : Le a b) (h2 : less b c = true) : less a c = true := by rw [less_iff] at *; rw [le_iff] at h1; omega

theorem merge_perm : ∀ (n : Nat) (l m : List (Int × Int)), l.length + m.length ≤ n → (merge l m).Perm (l ++ m)
  | _, [], m, _ => by rw [merge_nil]; exact .refl _
  | _, a :: l, [], _ => by rw [merge_nil', List.append_nil]
  | 0, a :: l, b :: m, h => by simp at h
  | n + 1, a :: l, b :: m, h => by
    rw [merge_cons]
    simp only [List.length_cons] at h
    split
    · have ih := merge_perm n (a :: l) m (by simp <;> omega)
      exact (ih.cons b).trans List.perm_middle.symm
    · have ih := merge_perm n l (b :: m) (by simp <;> omega)
      exact ih.cons a

theorem merge_sorted : ∀ (n : Nat) (l m : List (Int × Int)), l.length + m.length ≤ n → l.Pairwise Le → m.Pairwise Le → (merge l m).Pairwise Le
  | _, [], m, _, _, h => by rw [merge_nil]; exact h
  | _, a :: l, [], _, h, _ => by rw [merge_nil']; exact h
  | 0, a :: l, b :: m, h, _, _ => by simp at h
  | n + 1, a :: l, b :: m, h, hl, hm => by
    rw [merge_cons]
    simp only [List.length_cons] at h
    have hl' := List.pairwise_cons.1 hl
    have hm' := List.pairwise_cons.1 hm
    split
    · rename_i hc
      refine List.pairwise_cons.2 ⟨fun x hx => ?_, merge_sorted n (a :: l) m (by simp <;> omega) hl hm'.2⟩
      have := (merge_perm _ (a :: l) m (Nat.le_refl _)).mem_iff.1 hx
      rcases List.mem_append.1 this with h1 | h1
      · rcases List.mem_cons.1 h1 with rfl | h1
        · exact le_of_less hc
        · exact (le_of_less hc).trans (hl'.1 x h1)
      · exact hm'.1 x h1
    · rename_i hc
      have hab : Le a b := by simpa using hc
      refine List.pairwise_cons.2 ⟨fun x hx => ?_, merge_sorted n l (b :: m) (by simp <;> omega) hl'.2 hm⟩
      have := (merge_perm _ l (b :: m) (Nat.le_refl _)).mem_iff.1 hx
      rcases List.mem_append.1 this with h1 | h1
      · exact hl'.1 x h1
      · rcases List.mem_cons.1 h1 with rfl | h1
        · exact hab
        · exact hab.trans (hm'.1 x h1)

theorem sort_perm : ∀ (n : Nat) (l : List (Int × Int)), l.length ≤ n → (sort l).Perm l
  | 0, l, h => by
    have : l = [] := List.length_eq_zero_iff.1 (by omega)
    subst this; exact .refl _
  | n + 1, l, h => by
    rw [sort_rec l]
    split
    · exact .refl _
    · refine (merge_perm _ _ _ (Nat.le_refl _)).trans ?_
      have h1 := sort_perm n (l.take (l.length / 2)) (by rw [List.length_take]; omega)
      have h2 := sort_perm n (l.drop (l.length / 2)) (by rw [List.length_drop]; omega)
      have := h1.append h2
      rwa [List.take_append_drop] at this

theorem sort_sorted : ∀ (n : Nat) (l : List (Int × Int)), l.length ≤ n → (sort l).Pairwise Le
  | 0, l, h => by
    have : l = [] := List.length_eq_zero_iff.1 (by omega)
    subst this; exact .nil
  | n + 1, l, h => by
    rw [sort_rec l]
    split
    · rename_i h1
      match l, h1 with
      | [], _ => exact .nil
      | [_], _ => exact List.pairwise_singleton ..
      | _ :: _ :: _, h1 => simp at h1; omega
    · exact merge_sorted _ _ _ (Nat.le_refl _) (sort_sorted n _ (by rw [List.length_take]; omega)) (sort_sorted n _ (by rw [List.length_drop]; omega))

theorem sorted_one {l m : List (Int × Int)} (h1 : l.Pairwise Le) (h2 : m.Pairwise Le) (hp : l.Perm m) : l = m :=
  List.Perm.eq_of_pairwise (fun _ _ _ _ => Le.anti) h1 h2 hp

theorem merge_sort (l m : List (Int × Int)) : merge (sort l) (sort m) = sort (l ++ m) :=
  sorted_one (merge_sorted _ _ _ (Nat.le_refl _) (sort_sorted _ _ (Nat.le_refl _)) (sort_sorted _ _ (Nat.le_refl _))) (sort_sorted _ _ (Nat.le_refl _))
    ((merge_perm _ _ _ (Nat.le_refl _)).trans (((sort_perm _ l (Nat.le_refl _)).append (sort_perm _ m (Nat.le_refl _))).trans (sort_perm _ (l ++ m) (Nat.le_refl _)).symm))

theorem sort_of_perm {l m : List (Int × Int)} (h : l.Perm m) : sort l = sort m :=
  sorted_one (sort_sorted _ _ (Nat.le_refl _)) (sort_sorted _ _ (Nat.le_refl _)) (((sort_perm _ l (Nat.le_refl _)).trans h).trans (sort_perm _ m (Nat.le_refl _)).symm)

/-! ### Find in a sorted row -/

theorem rd_lt {l : List (Int × Int)} {i : Nat} (h : i < l.length) : rdEl TKey l i = l[i] := by
  show l.getD i _ = _
  simp [List.getD, h]

theorem sorted_rd {l : List (Int × Int)} (hs : l.Pairwise Le) {i j : Nat} (hij : i ≤ j) (hj : j < l.length) : Le (rdEl TKey l i) (rdEl TKey l j) := by
  rw [rd_lt (by omega), rd_lt hj]
  rcases Nat.lt_or_ge i j with h | h
  · exact List.pairwise_iff_getElem.1 hs i j (by omega) hj h
  · have : i = j := by omega
    subst this
    rw [le_iff]; omega

theorem findN_spec {l : List (Int × Int)} (hs : l.Pairwise Le) (k : Int × Int) : ∀ (n lo hi : Nat), lo ≤ hi → hi ≤ l.length → hi - lo ≤ n →
    (∀ i, i < lo → less (rdEl TKey l i) k = true) → (∀ i, hi ≤ i → i < l.length → less (rdEl TKey l i) k = false) →
    findN n l k lo hi ≤ hi ∧ (∀ i, i < findN n l k lo hi → less (rdEl TKey l i) k = true) ∧ ∀ i, findN n l k lo hi ≤ i → i < l.length → less (rdEl TKey l i) k = false
  | 0, lo, hi, h1, h2, h3, ha, hb => by
    have : lo = hi := by omega
    subst this
    exact ⟨Nat.le_refl _, ha, hb⟩
  | n + 1, lo, hi, h1, h2, h3, ha, hb => by
    by_cases h : lo < hi
    · rw [findN, if_pos h]
      split
      · rename_i hc
        have := findN_spec hs k n (lo + (hi - lo) / 2 + 1) hi (by omega) h2 (by omega) (fun i hi' => less_le (sorted_rd hs (j := lo + (hi - lo) / 2) (by omega) (by omega)) hc) hb
        exact this
      · rename_i hc
        have hc' : less (rdEl TKey l (lo + (hi - lo) / 2)) k = false := by simpa using hc
        have := findN_spec hs k n lo (lo + (hi - lo) / 2) (by omega) (by omega) (by omega) ha (fun i hi1 hi2 => by
          cases hl : less (rdEl TKey l i) k with
          | false => rfl
          | true =>
            have := less_le (sorted_rd hs hi1 hi2) hl
            rw [hc'] at this; cases this)
        exact ⟨by omega, this.2⟩
    · have : lo = hi := by omega
      subst this
      rw [findN, if_neg h]
      exact ⟨Nat.le_refl _, ha, hb⟩

theorem find_spec {l : List (Int × Int)} (hs : l.Pairwise Le) (k : Int × Int) :
    find l k ≤ l.length ∧ (∀ i, i < find l k → less (rdEl TKey l i) k = true) ∧ ∀ i, find l k ≤ i → i < l.length → less (rdEl TKey l i) k = false :=
  findN_spec hs k l.length 0 l.length (by omega) (Nat.le_refl _) (by omega) (fun i h => by omega) (fun i h1 h2 => by omega)

theorem find_there {l : List (Int × Int)} (hs : l.Pairwise Le) {i : Nat} (hi : i < l.length) : find l (rdEl TKey l i) ≤ i ∧ rdEl TKey l (find l (rdEl TKey l i)) = rdEl TKey l i := by
  obtain ⟨h1, h2, h3⟩ := find_spec hs (rdEl TKey l i)
  have hle : find l (rdEl TKey l i) ≤ i := by
    rcases Nat.lt_or_ge i (find l (rdEl TKey l i)) with h | h
    · have := h2 i h
      simp [less] at this
    · exact h
  refine ⟨hle, ?_⟩
  have h4 := h3 _ (Nat.le_refl _) (by omega)
  exact Le.anti (sorted_rd hs hle hi) h4

theorem there_iff {l : List (Int × Int)} (hs : l.Pairwise Le) (k : Int × Int) : there l k = true ↔ ∃ i, i < l.length ∧ rdEl TKey l i = k := by
  unfold there
  simp only [Bool.and_eq_true, decide_eq_true_eq, beq_iff_eq]
  constructor
  · rintro ⟨h1, h2, h3⟩
    exact ⟨_, h1, Prod.ext h2 h3⟩
  · rintro ⟨i, hi, rfl⟩
    obtain ⟨h1, h2⟩ := find_there hs hi
    exact ⟨by omega, by rw [h2], by rw [h2]⟩

end Go.Proofs.Ytnpncjpgihgkcaa
