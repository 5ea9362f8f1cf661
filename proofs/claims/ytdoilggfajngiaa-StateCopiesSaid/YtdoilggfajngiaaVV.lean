/-
  Laws of the library's slices, in plain words: what is deleted, what is put in; maps by their keys.
-/
import Derived.Test.YtdoilggfajngiaaVZo
namespace Go.Proofs.Ytdoilggfajngiaa.VE
open Go Go.RowKit

def cutOut {α : Type} (l : List α) (i j : Nat) : List α := l.take i ++ l.drop j
theorem cutOut_same {α : Type} (l : List α) (i : Nat) : cutOut l i i = l := List.take_append_drop i l

theorem take_over {α : Type} (xs : List α) (i : Nat) (ys : List α) (n : Nat) (h : i + ys.length = n) (hi : i ≤ xs.length) : (over xs i ys).take n = xs.take i ++ ys := by
  unfold over
  rw [← List.append_assoc, List.take_append_of_le_length (by simp; omega), List.take_of_length_le (by simp; omega)]

theorem take_over_behind {α : Type} (xs : List α) (i : Nat) (ys : List α) (n : Nat) (h : n ≤ i) (hi : i ≤ xs.length) : (over xs i ys).take n = xs.take n := by
  unfold over
  rw [List.take_append_of_le_length (by simp; omega), List.take_take]
  congr 1; omega

theorem take_over_del {α : Type} (l r : List α) (i j k n : Nat) (hij : i ≤ j) (hj : j ≤ l.length) (hk : k = i + (l.length - j)) (hn : n = k) : (over (over l i (l.drop j)) k r).take n = cutOut l i j := by
  subst hn; subst hk
  have hlen : (over l i (l.drop j)).length = l.length := by rw [over_length _ _ _ (by omega)]; simp; omega
  rw [take_over_behind _ _ _ _ (Nat.le_refl _) (by omega), take_over _ _ _ _ (by simp) (by omega)]
  rfl

/-- slices.DeleteFunc, round by round. -/
theorem delF_loop {t : Ty} (l : List (El t)) (p : El t → Bool) (L : Nat → Nat → Nat → List (El t) → R) (K : List (El t) → R)
    (hs : ∀ (m i j : Nat) (xs : List (El t)), xs.length = l.length → i < j → j < l.length → rdEl t xs j = rdEl t l j → L (m + 1) i j xs = cond (!p (rdEl t l j)) (L m (i + 1) (j + 1) (xs.set i (rdEl t l j))) (L m i (j + 1) xs))
    (he : ∀ (m i : Nat) (xs : List (El t)), xs.length = l.length → i ≤ l.length → L (m + 1) i l.length xs = K (xs.take i)) :
    ∀ (n i j : Nat) (xs : List (El t)), l.length = j + n → i < j → xs.length = l.length → xs.take i = (l.take j).filter (fun x => !p x) → (∀ k, j ≤ k → xs[k]? = l[k]?) → L (n + 1) i j xs = K (l.filter fun x => !p x)
  | 0, i, j, xs, h, hij, hlen, ht, hd => by
    have : j = l.length := by omega
    subst this
    rw [he _ _ _ hlen (by omega), ht, List.take_length]
  | n + 1, i, j, xs, h, hij, hlen, ht, hd => by
    have hj : j < l.length := by omega
    have hr : rdEl t xs j = rdEl t l j := by simp only [rdEl, List.getD, hd j (Nat.le_refl _)]
    rw [hs _ _ _ _ hlen hij hj hr]
    have htk : l.take (j + 1) = l.take j ++ [rdEl t l j] := by
      rw [List.take_succ_eq_append_getElem hj]
      congr 2
      simp [rdEl, List.getD, hj]
    cases hp : p (rdEl t l j) with
    | true =>
      rw [Bool.not_true, cond_false]
      exact delF_loop l p L K hs he n i (j + 1) xs (by omega) (by omega) hlen (by rw [ht, htk, List.filter_append]; simp [hp]) fun k hk => hd k (by omega)
    | false =>
      rw [Bool.not_false, cond_true]
      refine delF_loop l p L K hs he n (i + 1) (j + 1) _ (by omega) (by omega) (by rw [List.length_set, hlen]) ?_ fun k hk => ?_
      · rw [List.take_succ_eq_append_getElem (by rw [List.length_set]; omega), htk, List.filter_append, ← ht, List.take_set_of_le (Nat.le_refl _)]
        simp [hp]
      · rw [List.getElem?_set_ne (by omega)]
        exact hd k (by omega)

/-- Where the first is that goes. -/
theorem ixF_first {α : Type} {p : α → Bool} : ∀ {l : List α} {k i : Nat}, ixF p l k = some i → ∃ j, i = k + j ∧ j < l.length ∧ (l.take j).filter (fun x => !p x) = l.take j ∧ (l.take (j + 1)).filter (fun x => !p x) = l.take j
  | [], k, i, h => by simp [ixF] at h
  | a :: l, k, i, h => by
    simp only [ixF] at h
    cases hp : p a with
    | true =>
      simp [hp] at h
      exact ⟨0, by omega, by simp, rfl, by simp [hp]⟩
    | false =>
      simp [hp] at h
      obtain ⟨j, h1, h2, h3, h4⟩ := ixF_first h
      refine ⟨j + 1, by omega, by simpa using h2, ?_, ?_⟩
      · rw [List.take_succ_cons, List.filter_cons, hp]
        simp only [Bool.not_false, if_true]
        rw [h3]
      · rw [List.take_succ_cons, List.filter_cons, hp]
        simp only [Bool.not_false, if_true]
        rw [h4, List.take_succ_cons]

theorem ixF_none_filter {α : Type} {p : α → Bool} {l : List α} {k : Nat} (h : ixF p l k = none) : l.filter (fun x => !p x) = l := by
  have h1 := ixF_none.1 h
  rw [List.any_eq_false] at h1
  refine List.filter_eq_self.2 fun a ha => ?_
  have := h1 a ha
  simp [this]

def ixOf {α : Type} (p : α → Bool) (l : List α) : Int := match ixF p l 0 with | some i => (i : Int) | none => -1

theorem ixOf_cases {α : Type} (p : α → Bool) (l : List α) : (ixOf p l = -1 ∧ l.filter (fun x => !p x) = l ∧ l.any p = false) ∨ ∃ j : Nat, ixOf p l = (j : Int) ∧ j < l.length ∧ (l.take j).filter (fun x => !p x) = l.take j ∧ (l.take (j + 1)).filter (fun x => !p x) = l.take j ∧ l.any p = true := by
  unfold ixOf
  cases h : ixF p l 0 with
  | none => exact .inl ⟨rfl, ixF_none_filter h, ixF_none.1 h⟩
  | some i =>
    obtain ⟨j, h1, h2, h3, h4⟩ := ixF_first h
    exact .inr ⟨j, by simp only; omega, h2, h3, h4, (ixF_some h).2.2⟩

/-- slices.DeleteFunc, from its first hit on. -/
theorem delF_start {t : Ty} (l : List (El t)) (p : El t → Bool) (L : Nat → Nat → Nat → List (El t) → R) (K : List (El t) → R)
    (hs : ∀ (m i j : Nat) (xs : List (El t)), xs.length = l.length → i < j → j < l.length → rdEl t xs j = rdEl t l j → L (m + 1) i j xs = cond (!p (rdEl t l j)) (L m (i + 1) (j + 1) (xs.set i (rdEl t l j))) (L m i (j + 1) xs))
    (he : ∀ (m i : Nat) (xs : List (El t)), xs.length = l.length → i ≤ l.length → L (m + 1) i l.length xs = K (xs.take i)) {j : Nat} (hj : j < l.length) (h1 : (l.take (j + 1)).filter (fun x => !p x) = l.take j) :
    L (l.length - (j + 1) + 1) j (j + 1) l = K (l.filter fun x => !p x) :=
  delF_loop l p L K hs he (l.length - (j + 1)) j (j + 1) l (by omega) (by omega) rfl h1.symm fun _ _ => rfl

theorem ixOf_any {α : Type} (p : α → Bool) (l : List α) : decide (ixOf p l ≥ 0) = l.any p := by
  unfold ixOf
  cases h : ixF p l 0 with
  | none => rw [ixF_none.1 h]; rfl
  | some i => rw [(ixF_some h).2.2]; exact dec_t (by simp)

theorem loop_ix {t : Ty} (l : List (El t)) (p : El t → Bool) (L : Nat → Int → R) (K : Int → R)
    (hs : ∀ (m k : Nat), k < l.length → L (m + 1) (k : Int) = cond (p (rdEl t l k)) (K (k : Int)) (L m ((k + 1 : Nat) : Int)))
    (he : ∀ (m : Nat), L (m + 1) (l.length : Int) = K (-1)) : L (l.length + 1) 0 = K (ixOf p l) := by
  have h := loop_find l L p (fun i => K (i : Int)) (K (-1)) hs he l.length 0 (by omega)
  rw [List.drop_zero] at h
  refine h.trans ?_
  unfold ixOf
  cases ixF p l 0 <;> rfl

end Go.Proofs.Ytdoilggfajngiaa.VE
