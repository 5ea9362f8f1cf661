/-
  Configurations: each function's contract.
-/
import Derived.Test.YtdigifchnecnkaaDoorHB
namespace Go.Proofs.YtdigifchnecnkaaDoor
open Go VE

theorem numbers_ok : numbers.OK := numbers.mk .nil fun x0 _ => ⟨1, by rw [numbers.start]; rfl⟩

theorem cDef_ok : cDef.OK := cDef.mk .nil fun _ _ => ⟨1, by rw [cDef.start]; rfl⟩

theorem zone_fit {c : El TConfig} (h : fits TConfig c = true) : fits .str (cZone c) = true := by
  have h2 : (fits .str (cZone c) && true) = true := h
  simpa using h2

theorem cMay_ok : cMay.OK := cMay.mk (word_ok.cons' .nil) (numbers_ok.cons' .nil) fun c hx => by
  have hc : fits TConfig c = true := by simpa [cMay.pre] using hx
  refine ⟨21, ?_⟩
  rw [cMay.start, test_true (b := numbers.pre _) hx]
  have hl := loop_find (t := TNum) (firstL c ++ secondL c) (fun m k => cMay.l1 m (firstL c ++ secondL c) 19 k c.1 c.2.1 c.2.2.1 c.2.2.2.1 c.2.2.2.2.1 c.2.2.2.2.2.1 c.2.2.2.2.2.2.1 c.2.2.2.2.2.2.2.1 c.2.2.2.2.2.2.2.2.1 c.2.2.2.2.2.2.2.2.2.1 c.2.2.2.2.2.2.2.2.2.2.1 c.2.2.2.2.2.2.2.2.2.2.2.1 c.2.2.2.2.2.2.2.2.2.2.2.2.1 c.2.2.2.2.2.2.2.2.2.2.2.2.2.1 c.2.2.2.2.2.2.2.2.2.2.2.2.2.2.1 c.2.2.2.2.2.2.2.2.2.2.2.2.2.2.2.1 c.2.2.2.2.2.2.2.2.2.2.2.2.2.2.2.2.1 c.2.2.2.2.2.2.2.2.2.2.2.2.2.2.2.2.2.1 c.2.2.2.2.2.2.2.2.2.2.2.2.2.2.2.2.2.2.1 c.2.2.2.2.2.2.2.2.2.2.2.2.2.2.2.2.2.2.2.1 c.2.2.2.2.2.2.2.2.2.2.2.2.2.2.2.2.2.2.2.2.1 c.2.2.2.2.2.2.2.2.2.2.2.2.2.2.2.2.2.2.2.2.2.1 c.2.2.2.2.2.2.2.2.2.2.2.2.2.2.2.2.2.2.2.2.2.2) (fun n => !inR n) (fun _ => some (vb false, []))
    (some (vb ((decide (1 ≤ cPolicy c) && decide (cPolicy c ≤ 3)) && zoneB (cZone c)), [])) (fun m k hk => by
      have hk : k < 19 := hk
      rw [cMay.s1, cond_dt (by omega), test_d (by omega), test_d (show (k : Int) < ((firstL c ++ secondL c).length : Int) by show (k : Int) < 19; omega), w64s (by omega), toNat_cast]
      generalize rdEl TNum (firstL c ++ secondL c) k = n
      unfold inR
      by_cases h1 : n.2.1 < n.2.2.1
      · rw [cond_dt h1, dec_f (Int.not_le.2 h1)]; rfl
      · rw [cond_df h1, dec_t (Int.not_lt.1 h1)]
        by_cases h2 : n.2.1 > n.2.2.2
        · rw [cond_dt h2, dec_f (Int.not_le.2 h2)]; rfl
        · rw [cond_df h2, dec_t (Int.not_lt.1 h2)]; rfl) (fun m => by
      show cMay.l1 (m + 1) (firstL c ++ secondL c) 19 19 c.1 c.2.1 c.2.2.1 c.2.2.2.1 c.2.2.2.2.1 c.2.2.2.2.2.1 c.2.2.2.2.2.2.1 c.2.2.2.2.2.2.2.1 c.2.2.2.2.2.2.2.2.1 c.2.2.2.2.2.2.2.2.2.1 c.2.2.2.2.2.2.2.2.2.2.1 c.2.2.2.2.2.2.2.2.2.2.2.1 c.2.2.2.2.2.2.2.2.2.2.2.2.1 c.2.2.2.2.2.2.2.2.2.2.2.2.2.1 c.2.2.2.2.2.2.2.2.2.2.2.2.2.2.1 c.2.2.2.2.2.2.2.2.2.2.2.2.2.2.2.1 c.2.2.2.2.2.2.2.2.2.2.2.2.2.2.2.2.1 c.2.2.2.2.2.2.2.2.2.2.2.2.2.2.2.2.2.1 c.2.2.2.2.2.2.2.2.2.2.2.2.2.2.2.2.2.2.1 c.2.2.2.2.2.2.2.2.2.2.2.2.2.2.2.2.2.2.2.1 c.2.2.2.2.2.2.2.2.2.2.2.2.2.2.2.2.2.2.2.2.1 c.2.2.2.2.2.2.2.2.2.2.2.2.2.2.2.2.2.2.2.2.2.1 c.2.2.2.2.2.2.2.2.2.2.2.2.2.2.2.2.2.2.2.2.2.2 = _
      rw [cMay.s1, cond_df (by omega)]
      by_cases h1 : 1 ≤ cPolicy c
      · rw [cond_dt (show cPolicy c ≥ 1 from h1), dec_t h1]
        by_cases h2 : cPolicy c ≤ 3
        · rw [cond_dt h2, dec_t h2]
          unfold zoneB
          cases (cZone c).toList == (⟨#[]⟩ : ByteArray).toList with
          | true => rfl
          | false =>
            exact (test_true (b := word.pre (cZone c, ())) (by simpa [word.pre] using zone_fit hc)).trans rfl
        · rw [cond_df h2, dec_f h2]; rfl
      · rw [cond_df (show ¬ cPolicy c ≥ 1 from h1), dec_f h1]; rfl) 19 0 rfl
  have hl : cMay.l1 20 (firstL c ++ secondL c) 19 0 c.1 c.2.1 c.2.2.1 c.2.2.2.1 c.2.2.2.2.1 c.2.2.2.2.2.1 c.2.2.2.2.2.2.1 c.2.2.2.2.2.2.2.1 c.2.2.2.2.2.2.2.2.1 c.2.2.2.2.2.2.2.2.2.1 c.2.2.2.2.2.2.2.2.2.2.1 c.2.2.2.2.2.2.2.2.2.2.2.1 c.2.2.2.2.2.2.2.2.2.2.2.2.1 c.2.2.2.2.2.2.2.2.2.2.2.2.2.1 c.2.2.2.2.2.2.2.2.2.2.2.2.2.2.1 c.2.2.2.2.2.2.2.2.2.2.2.2.2.2.2.1 c.2.2.2.2.2.2.2.2.2.2.2.2.2.2.2.2.1 c.2.2.2.2.2.2.2.2.2.2.2.2.2.2.2.2.2.1 c.2.2.2.2.2.2.2.2.2.2.2.2.2.2.2.2.2.2.1 c.2.2.2.2.2.2.2.2.2.2.2.2.2.2.2.2.2.2.2.1 c.2.2.2.2.2.2.2.2.2.2.2.2.2.2.2.2.2.2.2.2.1 c.2.2.2.2.2.2.2.2.2.2.2.2.2.2.2.2.2.2.2.2.2.1 c.2.2.2.2.2.2.2.2.2.2.2.2.2.2.2.2.2.2.2.2.2.2 = _ := hl
  show cMay.l1 20 (firstL c ++ secondL c) 19 0 c.1 c.2.1 c.2.2.1 c.2.2.2.1 c.2.2.2.2.1 c.2.2.2.2.2.1 c.2.2.2.2.2.2.1 c.2.2.2.2.2.2.2.1 c.2.2.2.2.2.2.2.2.1 c.2.2.2.2.2.2.2.2.2.1 c.2.2.2.2.2.2.2.2.2.2.1 c.2.2.2.2.2.2.2.2.2.2.2.1 c.2.2.2.2.2.2.2.2.2.2.2.2.1 c.2.2.2.2.2.2.2.2.2.2.2.2.2.1 c.2.2.2.2.2.2.2.2.2.2.2.2.2.2.1 c.2.2.2.2.2.2.2.2.2.2.2.2.2.2.2.1 c.2.2.2.2.2.2.2.2.2.2.2.2.2.2.2.2.1 c.2.2.2.2.2.2.2.2.2.2.2.2.2.2.2.2.2.1 c.2.2.2.2.2.2.2.2.2.2.2.2.2.2.2.2.2.2.1 c.2.2.2.2.2.2.2.2.2.2.2.2.2.2.2.2.2.2.2.1 c.2.2.2.2.2.2.2.2.2.2.2.2.2.2.2.2.2.2.2.2.1 c.2.2.2.2.2.2.2.2.2.2.2.2.2.2.2.2.2.2.2.2.2.1 c.2.2.2.2.2.2.2.2.2.2.2.2.2.2.2.2.2.2.2.2.2.2 = some (vb (mayC c), [])
  rw [hl, List.drop_zero, ixF_any, mayC, all_any inR]
  cases (firstL c ++ secondL c).any fun x => !inR x <;> rfl

theorem bit_ok : bit.OK := bit.mk .nil fun b _ => ⟨1, by rw [bit.start]; cases b <;> rfl⟩

theorem numsR_ok : numsR.OK := numsR.mk (bit_ok.cons' .nil) fun c _ => ⟨1, by rw [numsR.start]; rfl⟩

theorem rowsR_ok : rowsR.OK := rowsR.mk .nil fun _ _ => ⟨1, by rw [rowsR.start]; rfl⟩

/-- A number out of its bounds. -/
theorem outR_eq (a lo hi : Int) : (decide (a < lo) || decide (a > hi)) = !(decide (lo ≤ a) && decide (a ≤ hi)) := by
  by_cases h1 : a < lo
  · rw [dec_t h1, dec_f (by omega : ¬ lo ≤ a)]; rfl
  · rw [dec_f h1, dec_t (by omega : lo ≤ a)]
    by_cases h2 : a > hi
    · rw [dec_t h2, dec_f (by omega : ¬ a ≤ hi)]; rfl
    · rw [dec_f h2, dec_t (by omega : a ≤ hi)]; rfl

def qR (c : El TConfig) (k : Nat) : Bool := decide (rdEl (.int .i64) (numsL c) k < (rdEl TRow rowsL k).2.1) || decide (rdEl (.int .i64) (numsL c) k > (rdEl TRow rowsL k).2.2.1)
def bR (c : El TConfig) (k : Nat) : Bool := decide ((rdEl TRow rowsL k).2.1 ≤ rdEl (.int .i64) (numsL c) k) && decide (rdEl (.int .i64) (numsL c) k ≤ (rdEl TRow rowsL k).2.2.1)

theorem bitI_in (b : Bool) : (decide ((0 : Int) ≤ bitI b) && decide (bitI b ≤ 1)) = true := by cases b <;> rfl

theorem anyN_not (q b : Nat → Bool) (h : ∀ k, q k = !b k) : ∀ (n k : Nat), anyN q k n = !((List.range' k n).all b)
  | 0, k => rfl
  | n + 1, k => by
    rw [anyN, anyN_not q b h n (k + 1), h, List.range'_succ, List.all_cons]
    cases b k <;> rfl

theorem swap_and (l : List Bool) (x y : Bool) : ((l.all id) && (x && y)) = ((l.all id && x) && y) := by rw [Bool.and_assoc]

theorem rows_all (c : El TConfig) : ((List.range' 0 23).all (bR c)) = ((firstL c ++ secondL c).all inR && (decide (1 ≤ cPolicy c) && decide (cPolicy c ≤ 3))) := by
  have h15 : bR c 15 = true := bitI_in _
  have h22 : bR c 22 = true := bitI_in _
  have h21 : bR c 21 = true := rfl
  have e0 : bR c 0 = inR (rdEl TNum (firstL c ++ secondL c) 0) := rfl
  have e1 : bR c 1 = inR (rdEl TNum (firstL c ++ secondL c) 1) := rfl
  have e2 : bR c 2 = inR (rdEl TNum (firstL c ++ secondL c) 2) := rfl
  have e3 : bR c 3 = inR (rdEl TNum (firstL c ++ secondL c) 3) := rfl
  have e4 : bR c 4 = inR (rdEl TNum (firstL c ++ secondL c) 4) := rfl
  have e5 : bR c 5 = inR (rdEl TNum (firstL c ++ secondL c) 5) := rfl
  have e6 : bR c 6 = inR (rdEl TNum (firstL c ++ secondL c) 6) := rfl
  have e7 : bR c 7 = inR (rdEl TNum (firstL c ++ secondL c) 7) := rfl
  have e8 : bR c 8 = inR (rdEl TNum (firstL c ++ secondL c) 8) := rfl
  have e9 : bR c 9 = inR (rdEl TNum (firstL c ++ secondL c) 9) := rfl
  have e10 : bR c 10 = inR (rdEl TNum (firstL c ++ secondL c) 10) := rfl
  have e11 : bR c 11 = inR (rdEl TNum (firstL c ++ secondL c) 11) := rfl
  have e12 : bR c 12 = inR (rdEl TNum (firstL c ++ secondL c) 12) := rfl
  have e13 : bR c 13 = inR (rdEl TNum (firstL c ++ secondL c) 13) := rfl
  have e14 : bR c 14 = inR (rdEl TNum (firstL c ++ secondL c) 14) := rfl
  have e16 : bR c 16 = inR (rdEl TNum (firstL c ++ secondL c) 15) := rfl
  have e17 : bR c 17 = inR (rdEl TNum (firstL c ++ secondL c) 16) := rfl
  have e18 : bR c 18 = inR (rdEl TNum (firstL c ++ secondL c) 17) := rfl
  have e19 : bR c 19 = inR (rdEl TNum (firstL c ++ secondL c) 18) := rfl
  have e20 : bR c 20 = (decide (1 ≤ cPolicy c) && decide (cPolicy c ≤ 3)) := rfl
  show (bR c 0 && (bR c 1 && (bR c 2 && (bR c 3 && (bR c 4 && (bR c 5 && (bR c 6 && (bR c 7 && (bR c 8 && (bR c 9 && (bR c 10 && (bR c 11 && (bR c 12 && (bR c 13 && (bR c 14 && (bR c 15 && (bR c 16 && (bR c 17 && (bR c 18 && (bR c 19 && (bR c 20 && (bR c 21 && (bR c 22 && true))))))))))))))))))))))) = ((inR (rdEl TNum (firstL c ++ secondL c) 0) && (inR (rdEl TNum (firstL c ++ secondL c) 1) && (inR (rdEl TNum (firstL c ++ secondL c) 2) && (inR (rdEl TNum (firstL c ++ secondL c) 3) && (inR (rdEl TNum (firstL c ++ secondL c) 4) && (inR (rdEl TNum (firstL c ++ secondL c) 5) && (inR (rdEl TNum (firstL c ++ secondL c) 6) && (inR (rdEl TNum (firstL c ++ secondL c) 7) && (inR (rdEl TNum (firstL c ++ secondL c) 8) && (inR (rdEl TNum (firstL c ++ secondL c) 9) && (inR (rdEl TNum (firstL c ++ secondL c) 10) && (inR (rdEl TNum (firstL c ++ secondL c) 11) && (inR (rdEl TNum (firstL c ++ secondL c) 12) && (inR (rdEl TNum (firstL c ++ secondL c) 13) && (inR (rdEl TNum (firstL c ++ secondL c) 14) && (inR (rdEl TNum (firstL c ++ secondL c) 15) && (inR (rdEl TNum (firstL c ++ secondL c) 16) && (inR (rdEl TNum (firstL c ++ secondL c) 17) && (inR (rdEl TNum (firstL c ++ secondL c) 18) && true))))))))))))))))))) && (decide (1 ≤ cPolicy c) && decide (cPolicy c ≤ 3)))
  rw [e0, e1, e2, e3, e4, e5, e6, e7, e8, e9, e10, e11, e12, e13, e14, e16, e17, e18, e19, e20]
  rw [h15, h21, h22]
  generalize inR (rdEl TNum (firstL c ++ secondL c) 0) = b0
  generalize inR (rdEl TNum (firstL c ++ secondL c) 1) = b1
  generalize inR (rdEl TNum (firstL c ++ secondL c) 2) = b2
  generalize inR (rdEl TNum (firstL c ++ secondL c) 3) = b3
  generalize inR (rdEl TNum (firstL c ++ secondL c) 4) = b4
  generalize inR (rdEl TNum (firstL c ++ secondL c) 5) = b5
  generalize inR (rdEl TNum (firstL c ++ secondL c) 6) = b6
  generalize inR (rdEl TNum (firstL c ++ secondL c) 7) = b7
  generalize inR (rdEl TNum (firstL c ++ secondL c) 8) = b8
  generalize inR (rdEl TNum (firstL c ++ secondL c) 9) = b9
  generalize inR (rdEl TNum (firstL c ++ secondL c) 10) = b10
  generalize inR (rdEl TNum (firstL c ++ secondL c) 11) = b11
  generalize inR (rdEl TNum (firstL c ++ secondL c) 12) = b12
  generalize inR (rdEl TNum (firstL c ++ secondL c) 13) = b13
  generalize inR (rdEl TNum (firstL c ++ secondL c) 14) = b14
  generalize inR (rdEl TNum (firstL c ++ secondL c) 15) = b15
  generalize inR (rdEl TNum (firstL c ++ secondL c) 16) = b16
  generalize inR (rdEl TNum (firstL c ++ secondL c) 17) = b17
  generalize inR (rdEl TNum (firstL c ++ secondL c) 18) = b18
  generalize (decide (1 ≤ cPolicy c) && decide (cPolicy c ≤ 3)) = p
  cases b0 with
  | false => simp
  | true =>
  simp only [Bool.true_and]
  cases b1 with
  | false => simp
  | true =>
  simp only [Bool.true_and]
  cases b2 with
  | false => simp
  | true =>
  simp only [Bool.true_and]
  cases b3 with
  | false => simp
  | true =>
  simp only [Bool.true_and]
  cases b4 with
  | false => simp
  | true =>
  simp only [Bool.true_and]
  cases b5 with
  | false => simp
  | true =>
  simp only [Bool.true_and]
  cases b6 with
  | false => simp
  | true =>
  simp only [Bool.true_and]
  cases b7 with
  | false => simp
  | true =>
  simp only [Bool.true_and]
  cases b8 with
  | false => simp
  | true =>
  simp only [Bool.true_and]
  cases b9 with
  | false => simp
  | true =>
  simp only [Bool.true_and]
  cases b10 with
  | false => simp
  | true =>
  simp only [Bool.true_and]
  cases b11 with
  | false => simp
  | true =>
  simp only [Bool.true_and]
  cases b12 with
  | false => simp
  | true =>
  simp only [Bool.true_and]
  cases b13 with
  | false => simp
  | true =>
  simp only [Bool.true_and]
  cases b14 with
  | false => simp
  | true =>
  simp only [Bool.true_and]
  cases b15 with
  | false => simp
  | true =>
  simp only [Bool.true_and]
  cases b16 with
  | false => simp
  | true =>
  simp only [Bool.true_and]
  cases b17 with
  | false => simp
  | true =>
  simp only [Bool.true_and]
  cases b18 with
  | false => simp
  | true =>
  simp only [Bool.true_and]
  cases p <;> rfl

theorem mayCR_ok : mayCR.OK := mayCR.mk (numsR_ok.cons' (rowsR_ok.cons' (wordR_ok.cons' .nil))) fun c hx => by
  have hc : fits TConfig c = true := by simpa [mayCR.pre] using hx
  refine ⟨25, ?_⟩
  rw [mayCR.start, test_true (b := numsR.pre _) hx]
  have hl := loop_any (qR c) 23 (fun m k => mayCR.l1 m (numsL c) rowsL 23 k c.1 c.2.1 c.2.2.1 c.2.2.2.1 c.2.2.2.2.1 c.2.2.2.2.2.1 c.2.2.2.2.2.2.1 c.2.2.2.2.2.2.2.1 c.2.2.2.2.2.2.2.2.1 c.2.2.2.2.2.2.2.2.2.1 c.2.2.2.2.2.2.2.2.2.2.1 c.2.2.2.2.2.2.2.2.2.2.2.1 c.2.2.2.2.2.2.2.2.2.2.2.2.1 c.2.2.2.2.2.2.2.2.2.2.2.2.2.1 c.2.2.2.2.2.2.2.2.2.2.2.2.2.2.1 c.2.2.2.2.2.2.2.2.2.2.2.2.2.2.2.1 c.2.2.2.2.2.2.2.2.2.2.2.2.2.2.2.2.1 c.2.2.2.2.2.2.2.2.2.2.2.2.2.2.2.2.2.1 c.2.2.2.2.2.2.2.2.2.2.2.2.2.2.2.2.2.2.1 c.2.2.2.2.2.2.2.2.2.2.2.2.2.2.2.2.2.2.2.1 c.2.2.2.2.2.2.2.2.2.2.2.2.2.2.2.2.2.2.2.2.1 c.2.2.2.2.2.2.2.2.2.2.2.2.2.2.2.2.2.2.2.2.2.1 c.2.2.2.2.2.2.2.2.2.2.2.2.2.2.2.2.2.2.2.2.2.2) (some (vb false, [])) (some (vb (zoneB (cZone c)), [])) (fun m k hk => by
      rw [mayCR.s1, cond_dt (by omega), test_d (by omega), test_d (show (k : Int) < (rowsL.length : Int) by show (k : Int) < 23; omega), test_d (by omega), test_d (show (k : Int) < ((numsL c).length : Int) by show (k : Int) < 23; omega), w64s (by omega), toNat_cast]
      unfold qR
      by_cases h1 : rdEl (.int .i64) (numsL c) k < (rdEl TRow rowsL k).2.1
      · rw [cond_dt h1, dec_t h1]; rfl
      · rw [cond_df h1, dec_f h1, test_d (by omega), test_d (show (k : Int) < ((numsL c).length : Int) by show (k : Int) < 23; omega)]
        by_cases h2 : rdEl (.int .i64) (numsL c) k > (rdEl TRow rowsL k).2.2.1
        · rw [cond_dt h2, dec_t h2]; rfl
        · rw [cond_df h2, dec_f h2]; rfl) (fun m => by
      show mayCR.l1 (m + 1) (numsL c) rowsL 23 23 c.1 c.2.1 c.2.2.1 c.2.2.2.1 c.2.2.2.2.1 c.2.2.2.2.2.1 c.2.2.2.2.2.2.1 c.2.2.2.2.2.2.2.1 c.2.2.2.2.2.2.2.2.1 c.2.2.2.2.2.2.2.2.2.1 c.2.2.2.2.2.2.2.2.2.2.1 c.2.2.2.2.2.2.2.2.2.2.2.1 c.2.2.2.2.2.2.2.2.2.2.2.2.1 c.2.2.2.2.2.2.2.2.2.2.2.2.2.1 c.2.2.2.2.2.2.2.2.2.2.2.2.2.2.1 c.2.2.2.2.2.2.2.2.2.2.2.2.2.2.2.1 c.2.2.2.2.2.2.2.2.2.2.2.2.2.2.2.2.1 c.2.2.2.2.2.2.2.2.2.2.2.2.2.2.2.2.2.1 c.2.2.2.2.2.2.2.2.2.2.2.2.2.2.2.2.2.2.1 c.2.2.2.2.2.2.2.2.2.2.2.2.2.2.2.2.2.2.2.1 c.2.2.2.2.2.2.2.2.2.2.2.2.2.2.2.2.2.2.2.2.1 c.2.2.2.2.2.2.2.2.2.2.2.2.2.2.2.2.2.2.2.2.2.1 c.2.2.2.2.2.2.2.2.2.2.2.2.2.2.2.2.2.2.2.2.2.2 = _
      rw [mayCR.s1, cond_df (by omega)]
      unfold zoneB
      cases (cZone c).toList == (⟨#[]⟩ : ByteArray).toList with
      | true => rfl
      | false =>
        exact (test_true (b := wordR.pre (cZone c, ())) (by simpa [wordR.pre] using zone_fit hc)).trans rfl) 23 0 rfl
  have hl : mayCR.l1 24 (numsL c) rowsL 23 0 c.1 c.2.1 c.2.2.1 c.2.2.2.1 c.2.2.2.2.1 c.2.2.2.2.2.1 c.2.2.2.2.2.2.1 c.2.2.2.2.2.2.2.1 c.2.2.2.2.2.2.2.2.1 c.2.2.2.2.2.2.2.2.2.1 c.2.2.2.2.2.2.2.2.2.2.1 c.2.2.2.2.2.2.2.2.2.2.2.1 c.2.2.2.2.2.2.2.2.2.2.2.2.1 c.2.2.2.2.2.2.2.2.2.2.2.2.2.1 c.2.2.2.2.2.2.2.2.2.2.2.2.2.2.1 c.2.2.2.2.2.2.2.2.2.2.2.2.2.2.2.1 c.2.2.2.2.2.2.2.2.2.2.2.2.2.2.2.2.1 c.2.2.2.2.2.2.2.2.2.2.2.2.2.2.2.2.2.1 c.2.2.2.2.2.2.2.2.2.2.2.2.2.2.2.2.2.2.1 c.2.2.2.2.2.2.2.2.2.2.2.2.2.2.2.2.2.2.2.1 c.2.2.2.2.2.2.2.2.2.2.2.2.2.2.2.2.2.2.2.2.1 c.2.2.2.2.2.2.2.2.2.2.2.2.2.2.2.2.2.2.2.2.2.1 c.2.2.2.2.2.2.2.2.2.2.2.2.2.2.2.2.2.2.2.2.2.2 = _ := hl
  show mayCR.l1 24 (numsL c) rowsL 23 0 c.1 c.2.1 c.2.2.1 c.2.2.2.1 c.2.2.2.2.1 c.2.2.2.2.2.1 c.2.2.2.2.2.2.1 c.2.2.2.2.2.2.2.1 c.2.2.2.2.2.2.2.2.1 c.2.2.2.2.2.2.2.2.2.1 c.2.2.2.2.2.2.2.2.2.2.1 c.2.2.2.2.2.2.2.2.2.2.2.1 c.2.2.2.2.2.2.2.2.2.2.2.2.1 c.2.2.2.2.2.2.2.2.2.2.2.2.2.1 c.2.2.2.2.2.2.2.2.2.2.2.2.2.2.1 c.2.2.2.2.2.2.2.2.2.2.2.2.2.2.2.1 c.2.2.2.2.2.2.2.2.2.2.2.2.2.2.2.2.1 c.2.2.2.2.2.2.2.2.2.2.2.2.2.2.2.2.2.1 c.2.2.2.2.2.2.2.2.2.2.2.2.2.2.2.2.2.2.1 c.2.2.2.2.2.2.2.2.2.2.2.2.2.2.2.2.2.2.2.1 c.2.2.2.2.2.2.2.2.2.2.2.2.2.2.2.2.2.2.2.2.1 c.2.2.2.2.2.2.2.2.2.2.2.2.2.2.2.2.2.2.2.2.2.1 c.2.2.2.2.2.2.2.2.2.2.2.2.2.2.2.2.2.2.2.2.2.2 = some (vb (mayC c), [])
  rw [hl, anyN_not (qR c) (bR c) (fun k => outR_eq _ _ _), rows_all, mayC]
  generalize (firstL c ++ secondL c).all inR = A
  generalize (decide (1 ≤ cPolicy c) && decide (cPolicy c ≤ 3)) = p
  cases A <;> cases p <;> rfl

end Go.Proofs.YtdigifchnecnkaaDoor
