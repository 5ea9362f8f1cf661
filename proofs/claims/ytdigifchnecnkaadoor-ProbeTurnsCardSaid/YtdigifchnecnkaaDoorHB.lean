/-
  Hosts: each function's contract.
-/
import Derived.Test.YtdigifchnecnkaaDoorPF
namespace Go.Proofs.YtdigifchnecnkaaDoor
open Go VE

theorem ixOf_any {α : Type} (p : α → Bool) (l : List α) : decide (ixOf p l ≥ 0) = l.any p := by
  unfold ixOf
  cases h : ixF p l 0 with
  | none => rw [ixF_none.1 h]; rfl
  | some i => rw [(ixF_some h).2.2]; exact dec_t (by simp)

theorem all_any {α : Type} (p : α → Bool) (l : List α) : l.all p = !l.any (fun x => !p x) := by
  induction l with
  | nil => rfl
  | cons a l ih => simp only [List.all_cons, List.any_cons, ih]; cases p a <;> rfl

theorem okC_tree {α : Type} (c : Int) (A B : α) :
     cond (decide (c < (97 : Int))) (
      cond (decide (c < (48 : Int))) (
       cond (bne c (45 : Int)) (cond (bne c (46 : Int)) A B) B) (
       cond (decide (c > (57 : Int))) (cond (bne c (45 : Int)) (cond (bne c (46 : Int)) A B) B) B)) (
      cond (decide (c > (122 : Int))) (
       cond (decide (c < (48 : Int))) (cond (bne c (45 : Int)) (cond (bne c (46 : Int)) A B) B) (
        cond (decide (c > (57 : Int))) (cond (bne c (45 : Int)) (cond (bne c (46 : Int)) A B) B) B)) B) = cond (!okC c) A B := by
  unfold okC
  cases decide (c < 97) <;> cases decide (c > 122) <;> cases decide (c < 48) <;> cases decide (c > 57) <;> cases bne c 45 <;> cases bne c 46 <;> rfl

theorem word_loop (s : ByteArray) (hs : s.size ≤ reachBytes) (L : Nat → Int → R) (Bo : R) (hs1 : ∀ (m : Nat) (k : Nat), k < s.size → L (m + 1) (k : Int) = cond (!okC (byteAt s k)) (some (vb false, [])) (L m ((k + 1 : Nat) : Int)))
    (he : ∀ (m : Nat), L (m + 1) (s.size : Int) = Bo) : L (s.size + 1) 0 = cond ((nums s).all okC) Bo (some (vb false, [])) := by
  have h := loop_find (t := .int .u8) (nums s) L (fun c => !okC c) (fun _ => some (vb false, [])) Bo (fun m k hk => by
    rw [nums_length] at hk
    rw [hs1 m k hk, nums_rd]) (fun m => by rw [nums_length]; exact he m) s.size 0 (by rw [nums_length]; omega)
  have h : L (s.size + 1) 0 = _ := h
  rw [h, List.drop_zero, ixF_any, all_any]
  cases (nums s).any fun c => !okC c <;> rfl

theorem word_ok : word.OK := word.mk SpecsOK.nil fun s hx => by
  have hs : s.size ≤ reachBytes := fits_str (by simpa [word.pre] using hx)
  have hr := reach_lt
  refine ⟨s.size + 2, ?_⟩
  rw [word.start]
  rw [word_loop s hs (fun m k => word.l1 m s s.size k) (some (vb (decide (1 ≤ s.size) && (decide (s.size ≤ 12) && !isBlank s)), []))]
  · show _ = some (vb (wordB s), _)
    unfold wordB
    cases (nums s).all okC <;> rfl
  · intro m k hk
    rw [word.s1, cond_dt (by omega), test_d (by omega), test_d (by omega), w64s (by omega)]
    exact okC_tree _ _ _
  · intro m
    rw [word.s1, cond_df (by omega)]
    by_cases h1 : 1 ≤ s.size
    · rw [cond_dt (by omega), dec_t h1]
      by_cases h2 : s.size ≤ 12
      · rw [cond_dt (by omega), dec_t h2]; rfl
      · rw [cond_df (by omega), dec_f h2]; rfl
    · rw [cond_df (by omega), dec_f h1]; rfl

theorem wordR_ok : wordR.OK := wordR.mk SpecsOK.nil fun s hx => by
  have hs : s.size ≤ reachBytes := fits_str (by simpa [wordR.pre] using hx)
  have hr := reach_lt
  refine ⟨s.size + 2, ?_⟩
  rw [wordR.start]
  rw [word_loop s hs (fun m k => wordR.l1 m s s.size k) (some (vb true, []))]
  · show _ = some (vb (wordB s), _)
    unfold wordB isBlank
    by_cases h1 : 1 ≤ s.size
    · rw [cond_df (by omega), dec_t h1]
      by_cases h2 : s.size ≤ 12
      · rw [cond_df (by omega), dec_t h2]
        cases s.toList == (⟨#[45]⟩ : ByteArray).toList <;> cases (nums s).all okC <;> rfl
      · rw [cond_dt (by omega), dec_f h2]
        cases (nums s).all okC <;> rfl
    · rw [cond_dt (by omega), dec_f h1]
      cases (nums s).all okC <;> rfl
  · intro m k hk
    rw [wordR.s1, cond_dt (by omega), test_d (by omega), test_d (by omega), w64s (by omega)]
    exact okC_tree _ _ _
  · intro m
    rw [wordR.s1, cond_df (by omega)]; rfl

/-! ### bytes in order -/

theorem less_total : ∀ (a b : List UInt8), (Op.bytesLess b a || b == a) = !Op.bytesLess a b
  | [], [] => rfl
  | [], _ :: _ => rfl
  | _ :: _, [] => rfl
  | x :: a, y :: b => by
    have ih := less_total a b
    simp only [Op.bytesLess]
    rcases Nat.lt_trichotomy x.toNat y.toNat with h | h | h
    · have h1 : x < y := h
      have h2 : ¬ y < x := by intro h'; have : y.toNat < x.toNat := h'; omega
      have h3 : y ≠ x := by rintro rfl; omega
      have h4 : (y == x) = false := by simpa using h3
      have h5 : (y :: b == x :: a) = false := by simp [h3]
      simp [h1, h2, h4, h3]
    · have h1 : x = y := UInt8.toNat_inj.1 h
      subst h1
      have h2 : ¬ x < x := by intro h'; have : x.toNat < x.toNat := h'; omega
      have h3 : (x :: b == x :: a) = (b == a) := by simp
      rw [h3]
      simp only [h2, decide_false, Bool.false_or, beq_self_eq_true, Bool.true_and]
      exact ih
    · have h1 : y < x := h
      have h2 : ¬ x < y := by intro h'; have : x.toNat < y.toNat := h'; omega
      have h3 : (x == y) = false := by
        have : x ≠ y := by rintro rfl; omega
        simpa using this
      simp [h1, h2, h3]

theorem rises_loop (l : List (El TPair)) (hb : l.length < 9223372036854775806) (L : Nat → Int → R) (Bo : R)
    (hs : ∀ (m k : Nat), k + 1 < l.length → L (m + 1) ((k : Int) + 1) = cond (!Op.bytesLess (rdEl TPair l k).1.toList (rdEl TPair l (k + 1)).1.toList) (some (vb false, [])) (L m (((k + 1 : Nat) : Int) + 1)))
    (he : ∀ (m k : Nat), l.length ≤ k + 1 → L (m + 1) ((k : Int) + 1) = Bo) : ∀ (n k : Nat), l.length ≤ k + n + 1 → L (n + 1) ((k : Int) + 1) = cond (risesP (l.drop k)) Bo (some (vb false, []))
  | n, k, h => by
    by_cases hk : k + 1 < l.length
    · cases n with
      | zero => omega
      | succ n =>
        rw [hs _ _ hk, rises_loop l hb L Bo hs he n (k + 1) (by omega), rdEl_drop l (by omega : k < l.length), rdEl_drop l hk]
        rw [risesP]
        cases Op.bytesLess (rdEl TPair l k).1.toList (rdEl TPair l (k + 1)).1.toList <;> rfl
    · rw [he _ _ (by omega)]
      have : risesP (l.drop k) = true := by
        have h1 : (l.drop k).length ≤ 1 := by rw [List.length_drop]; omega
        match l.drop k, h1 with
        | [], _ => rfl
        | [_], _ => rfl
      rw [this]; rfl

def mayRest (h : El THost) : Bool :=
  (decide (1 ≤ h.1) && decide (h.1 ≤ 1000000)) && (wordB h.2.1 && (((h.2.2.2.1.toList == (⟨#[]⟩ : ByteArray).toList) || wordB h.2.2.2.1) && ((decide (0 ≤ h.2.2.1) && decide (h.2.2.1 ≤ 3)) && ((decide (1 ≤ h.2.2.2.2.1) && decide (h.2.2.2.2.1 ≤ 20)) && maySubB h.2.2.2.2.2))))
theorem mayB_eq (h : El THost) : mayB h = (risesP h.2.2.2.2.2 && mayRest h) := rfl

theorem pred_w {k : Nat} (h : k < 9223372036854775806) : IntKind.i64.wrap (((k : Int) + 1) - 1) = (k : Int) := by rw [w64] <;> omega
theorem succ_w {k : Nat} (h : k < 9223372036854775806) : IntKind.i64.wrap (((k : Int) + 1) + 1) = ((k + 1 : Nat) : Int) + 1 := by rw [w64] <;> omega
theorem toNat_s (k : Nat) : ((k : Int) + 1).toNat = k + 1 := by omega

end Go.Proofs.YtdigifchnecnkaaDoor
