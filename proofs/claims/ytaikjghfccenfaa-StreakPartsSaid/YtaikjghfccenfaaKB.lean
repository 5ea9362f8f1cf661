/-
  Failures in a row: each function's contract.
-/
import Derived.Test.YtaikjghfccenfaaKF
namespace Go.Proofs.Ytaikjghfccenfaa
open Go VE

theorem mm_n0 (n : Int) : (ite ((4611686018427387904 : Int) < (ite ((0 : Int) > n) (0 : Int) n)) (4611686018427387904 : Int) (ite ((0 : Int) > n) (0 : Int) n)) = n0 n := by
  unfold n0; split <;> split <;> omega
theorem mm_n0' (n : Int) : (ite ((ite ((4611686018427387904 : Int) < n) (4611686018427387904 : Int) n) > (0 : Int)) (ite ((4611686018427387904 : Int) < n) (4611686018427387904 : Int) n) (0 : Int)) = n0 n := by
  unfold n0; split <;> split <;> omega
theorem mm_note (n : Int) : IntKind.i64.wrap ((ite ((4611686018427387903 : Int) < (ite ((0 : Int) > n) (0 : Int) n)) (4611686018427387903 : Int) (ite ((0 : Int) > n) (0 : Int) n)) + 1) = noteN n false := by
  show _ = min (max n 0) 4611686018427387903 + 1
  rw [w64] <;> split <;> split <;> omega
theorem mm_noteR (n : Int) : (ite ((4611686018427387904 : Int) < (IntKind.i64.wrap ((n0 n) + (1 : Int)))) (4611686018427387904 : Int) (IntKind.i64.wrap ((n0 n) + (1 : Int)))) = noteN n false := by
  show _ = min (max n 0) 4611686018427387903 + 1
  unfold n0
  rw [w64 (by omega) (by omega)]
  split <;> omega

theorem timeR_ok : timeR.OK := timeR.mk .nil fun n _ => ⟨1, by rw [timeR.start, mm_n0']; rfl⟩

theorem note_ok : note.OK := note.mk (cMay_ok.cons' (cDef_ok.cons' .nil)) fun c n ok hx => by
  refine ⟨1, ?_⟩
  rw [note.start, mm_note]
  have hc : fits TConfig c = true := by
    have h : (fits TConfig c && (fits (.int .i64) n && (fits .bool ok && true))) = true := hx
    simp only [Bool.and_eq_true] at h
    exact h.1
  show _ = some (IV.tup [vi .i64 (noteN n ok), vb (noteB c n ok)], [])
  cases ok with
  | true => rfl
  | false =>
    rw [cond_false, test_true (show cMay.pre (c, ()) = true by simpa [cMay.pre] using hc)]
    unfold noteB heldC
    cases mayC c with
    | false => rfl
    | true =>
      show cond (decide (cErrors c > 0)) _ _ = some (IV.tup [vi .i64 (noteN n false), vb (true && (decide (cErrors c > 0) && decide (noteN n false ≥ cErrors c)))], [])
      cases decide (cErrors c > 0) <;> rfl

theorem noteR_ok : noteR.OK := noteR.mk (heldR_ok.cons' (timeR_ok.cons' .nil)) fun c n ok hx => by
  refine ⟨1, ?_⟩
  rw [noteR.start, mm_noteR]
  have hc : fits TConfig c = true := by
    have h : (fits TConfig c && (fits (.int .i64) n && (fits .bool ok && true))) = true := hx
    simp only [Bool.and_eq_true] at h
    exact h.1
  show _ = some (IV.tup [vi .i64 (noteN n ok), vb (noteB c n ok)], [])
  rw [test_true (show heldR.pre (c, ()) = true by simpa [heldR.pre] using hc)]
  cases ok with
  | true => rfl
  | false =>
    unfold noteB
    show cond (decide (cErrors (heldC c) > 0)) _ _ = some (IV.tup [vi .i64 (noteN n false), vb (true && (decide (cErrors (heldC c) > 0) && decide (noteN n false ≥ cErrors (heldC c))))], [])
    cases decide (cErrors (heldC c) > 0) <;> rfl

/-- A loop that takes answers one by one. -/
theorem ans_loop (c : El TConfig) (l : List Bool) (hl : l.length ≤ reachBytes) (L : Nat → Int → Int → Int → R) (F : Nat → Int × Int → R)
    (hs : ∀ (m k : Nat) (n y : Int), k < l.length → L (m + 1) n y (k : Int) = cond (noteB c n (rdEl .bool l k)) (L m 0 (IntKind.i64.wrap (y + 1)) ((k + 1 : Nat) : Int)) (L m (noteN n (rdEl .bool l k)) y ((k + 1 : Nat) : Int)))
    (he : ∀ (d : Nat) (n y : Int), L (d + 1) n y (l.length : Int) = F d (n, y)) (d : Nat) (n y : Int) : L (l.length + 1 + d) n y 0 = F d (foldL (upN c) l (n, y)) := by
  have h := loop_acc (t := .bool) (α := Int × Int) l (fun m a k => L m a.1 a.2 k) F (upN c) (fun _ _ => True) (fun _ _ _ _ => trivial) (fun m k a hk _ => by
    rw [hs m k a.1 a.2 hk]
    unfold upN
    cases noteB c a.1 (rdEl .bool l k) <;> rfl) (fun d a => he d a.1 a.2) d l.length 0 (n, y) (by omega) trivial
  simpa using h

theorem all_ok : all.OK := all.mk (note_ok.cons' .nil) fun c n l hx => by
  have h : (fits TConfig c && (fits (.int .i64) n && (fits (.sl .bool) l && true))) = true := hx
  simp only [Bool.and_eq_true] at h
  have hc := h.1
  have hl : l.length * 1 ≤ reachBytes := fits_len' h.2.2.1 rfl
  have hr := reach_lt
  refine ⟨l.length + 2, ?_⟩
  rw [all.start, mm_n0]
  have := ans_loop c l (by omega) (fun m n y k => all.l1 m n y l (l.length : Int) k c.1 c.2.1 c.2.2.1 c.2.2.2.1 c.2.2.2.2.1 c.2.2.2.2.2.1 c.2.2.2.2.2.2.1 c.2.2.2.2.2.2.2.1 c.2.2.2.2.2.2.2.2.1 c.2.2.2.2.2.2.2.2.2.1 c.2.2.2.2.2.2.2.2.2.2.1 c.2.2.2.2.2.2.2.2.2.2.2.1 c.2.2.2.2.2.2.2.2.2.2.2.2.1 c.2.2.2.2.2.2.2.2.2.2.2.2.2.1 c.2.2.2.2.2.2.2.2.2.2.2.2.2.2.1 c.2.2.2.2.2.2.2.2.2.2.2.2.2.2.2.1 c.2.2.2.2.2.2.2.2.2.2.2.2.2.2.2.2.1 c.2.2.2.2.2.2.2.2.2.2.2.2.2.2.2.2.2.1 c.2.2.2.2.2.2.2.2.2.2.2.2.2.2.2.2.2.2.1 c.2.2.2.2.2.2.2.2.2.2.2.2.2.2.2.2.2.2.2.1 c.2.2.2.2.2.2.2.2.2.2.2.2.2.2.2.2.2.2.2.2.1 c.2.2.2.2.2.2.2.2.2.2.2.2.2.2.2.2.2.2.2.2.2.1 c.2.2.2.2.2.2.2.2.2.2.2.2.2.2.2.2.2.2.2.2.2.2) (fun _ a => some (.tup [vi .i64 a.1, vi .i64 a.2], []))
    (fun m k n y hk => by
      rw [all.s1, cond_dt (by omega), test_d (by omega), test_d (by omega), w64s (by omega), toNat_cast]
      exact test_true (show note.pre (c, n, rdEl .bool l k, ()) = true by simpa [note.pre] using ⟨hc, rfl, rfl⟩))
    (fun d n y => by rw [all.s1, cond_df (by omega)]; rfl) 0 (n0 n) 0
  exact this

theorem awake_ok : awake.OK := awake.mk (defR_ok.cons' (note_ok.cons' .nil)) fun _ _ => ⟨1, by rw [awake.start]; rfl⟩

/-! ### counting -/

theorem noteN_true (n : Int) : noteN n true = 0 := rfl
theorem n0_0 : n0 0 = 0 := rfl

/-- A count lies where a count may lie. -/
theorem fold_in (c : El TConfig) : ∀ (l : List Bool) (n y : Int), (0 ≤ n ∧ n ≤ 4611686018427387904) → 0 ≤ y → y + l.length ≤ 1000000 →
    (0 ≤ (foldL (upN c) l (n, y)).1 ∧ (foldL (upN c) l (n, y)).1 ≤ 4611686018427387904) ∧ y ≤ (foldL (upN c) l (n, y)).2 ∧ (foldL (upN c) l (n, y)).2 ≤ y + l.length ∧
      ∀ z : Int, 0 ≤ z → z + l.length ≤ 1000000 → foldL (upN c) l (n, z) = ((foldL (upN c) l (n, y)).1, z + ((foldL (upN c) l (n, y)).2 - y))
  | [], n, y, hn, hy, hl => by
    refine ⟨hn, Int.le_refl _, by simp [foldL], fun z _ _ => ?_⟩
    show (n, z) = (n, z + (y - y))
    rw [Int.sub_self, Int.add_zero]
  | b :: l, n, y, hn, hy, hl => by
    simp only [List.length_cons] at hl
    show (_ ∧ _) ∧ _
    simp only [foldL]
    cases hb : noteB c n b with
    | true =>
      have hu : ∀ z : Int, 0 ≤ z → z ≤ 1000000 → upN c (n, z) b = (0, z + 1) := fun z h0 h1 => by
        unfold upN; rw [hb, cond_true, w64 (by omega) (by omega)]
      rw [hu y hy (by omega)]
      obtain ⟨i1, i2, i3, i4⟩ := fold_in c l 0 (y + 1) ⟨by omega, by omega⟩ (by omega) (by omega)
      refine ⟨i1, by omega, by simp only [List.length_cons]; omega, fun z hz1 hz2 => ?_⟩
      simp only [List.length_cons] at hz2
      rw [hu z hz1 (by omega), i4 (z + 1) (by omega) (by omega)]
      refine Prod.ext rfl ?_
      show z + 1 + (_ - (y + 1)) = z + (_ - y)
      omega
    | false =>
      have hu : ∀ z : Int, upN c (n, z) b = (noteN n b, z) := fun z => by
        unfold upN; rw [hb, cond_false]
      rw [hu y]
      have hm : 0 ≤ noteN n b ∧ noteN n b ≤ 4611686018427387904 := by
        cases b with
        | true => rw [noteN_true]; omega
        | false => show 0 ≤ min (max n 0) 4611686018427387903 + 1 ∧ min (max n 0) 4611686018427387903 + 1 ≤ _; omega
      obtain ⟨i1, i2, i3, i4⟩ := fold_in c l (noteN n b) y hm hy (by omega)
      refine ⟨i1, i2, by simp only [List.length_cons]; omega, fun z hz1 hz2 => ?_⟩
      simp only [List.length_cons] at hz2
      rw [hu z, i4 z hz1 (by omega)]

theorem foldL_append {α β : Type} (up : α → β → α) : ∀ (l m : List β) (a : α), foldL up (l ++ m) a = foldL up m (foldL up l a)
  | [], _, _ => rfl
  | b :: l, m, a => foldL_append up l m (up a b)

theorem n0_in (n : Int) : 0 ≤ n0 n ∧ n0 n ≤ 4611686018427387904 := by unfold n0; omega
theorem n0_same {n : Int} (h : 0 ≤ n ∧ n ≤ 4611686018427387904) : n0 n = n := by unfold n0; omega

theorem all_parts (c : El TConfig) (n : Int) (l m : List Bool) (hl : l.length + m.length ≤ 1000) :
    (allP c (allP c n l).1 m).1 = (allP c n (l ++ m)).1 ∧ (allP c n l).2 + (allP c (allP c n l).1 m).2 = (allP c n (l ++ m)).2 ∧ 0 ≤ (allP c n l).2 ∧ (allP c n l).2 ≤ l.length ∧ 0 ≤ (allP c (allP c n l).1 m).2 ∧ (allP c (allP c n l).1 m).2 ≤ m.length := by
  unfold allP
  rw [foldL_append]
  obtain ⟨i1, i2, i3, _⟩ := fold_in c l (n0 n) 0 (n0_in n) (Int.le_refl _) (by omega)
  rw [n0_same i1]
  generalize foldL (upN c) l (n0 n, 0) = a at i1 i2 i3
  obtain ⟨j1, j2, j3, j4⟩ := fold_in c m a.1 0 i1 (Int.le_refl _) (by omega)
  have := j4 a.2 i2 (by omega)
  have e : foldL (upN c) m a = foldL (upN c) m (a.1, a.2) := rfl
  rw [e, this]
  refine ⟨rfl, ?_, i2, by omega, j2, by omega⟩
  show a.2 + _ = a.2 + (_ - 0)
  omega

theorem oks_all (c : El TConfig) (k : Nat) : foldL (upN c) (List.replicate k true) (0, 0) = (0, 0) := by
  induction k with
  | zero => rfl
  | succ k ih =>
    rw [List.replicate_succ]
    exact ih

/-- Failures alone, where no count of them says yes. -/
theorem fails_none (c : El TConfig) (hc : cErrors (heldC c) = 0) (y : Int) : ∀ (k : Nat) (n : Int), 0 ≤ n → n + k ≤ 1000000 → foldL (upN c) (List.replicate k false) (n, y) = (n + k, y)
  | 0, n, _, _ => by simp [foldL]
  | k + 1, n, h0, h1 => by
    rw [List.replicate_succ]
    have hb : upN c (n, y) false = (n + 1, y) := by
      unfold upN noteB
      rw [hc]
      show (noteN n false, y) = _
      show (min (max n 0) 4611686018427387903 + 1, y) = _
      congr 1; omega
    show foldL (upN c) (List.replicate k false) (upN c (n, y) false) = _
    rw [hb, fails_none c hc y k (n + 1) (by omega) (by omega)]
    congr 1; omega

/-- Failures alone, where so many of them say yes. -/
theorem fails_some (c : El TConfig) {E : Nat} (hE : 0 < E) (hc : cErrors (heldC c) = (E : Int)) : ∀ (k j : Nat), j + k ≤ 1000000 →
    foldL (upN c) (List.replicate k false) (((j % E : Nat) : Int), ((j / E : Nat) : Int)) = ((((j + k) % E : Nat) : Int), (((j + k) / E : Nat) : Int))
  | 0, j, _ => rfl
  | k + 1, j, h => by
    rw [List.replicate_succ]
    have hlt := Nat.mod_lt j hE
    have hdm := Nat.div_add_mod j E
    have hd : j / E ≤ j := Nat.div_le_self j E
    have hb : upN c (((j % E : Nat) : Int), ((j / E : Nat) : Int)) false = ((((j + 1) % E : Nat) : Int), (((j + 1) / E : Nat) : Int)) := by
      unfold upN noteB
      rw [hc]
      have hn : noteN ((j % E : Nat) : Int) false = ((j % E + 1 : Nat) : Int) := by
        show min (max ((j % E : Nat) : Int) 0) 4611686018427387903 + 1 = _
        have : j % E ≤ j := Nat.mod_le j E
        omega
      rw [hn, dec_t (by omega : (E : Int) > 0)]
      by_cases h1 : j % E + 1 = E
      · rw [dec_t (by omega : (((j % E + 1 : Nat) : Int)) ≥ (E : Int))]
        show (0, IntKind.i64.wrap (((j / E : Nat) : Int) + 1)) = _
        rw [w64s (by omega)]
        have e : j + 1 = E * (j / E + 1) := by rw [Nat.mul_add]; omega
        rw [e, Nat.mul_mod_right, Nat.mul_div_cancel_left _ hE]
        rfl
      · rw [dec_f (by omega : ¬ (((j % E + 1 : Nat) : Int)) ≥ (E : Int))]
        show (((j % E + 1 : Nat) : Int), ((j / E : Nat) : Int)) = _
        have e : j + 1 = (j % E + 1) + E * (j / E) := by omega
        have e1 : (j + 1) % E = j % E + 1 := by
          rw [e, Nat.add_mul_mod_self_left, Nat.mod_eq_of_lt (by omega)]
        have e2 : (j + 1) / E = j / E := by
          rw [e, Nat.add_mul_div_left _ _ hE, Nat.div_eq_of_lt (by omega), Nat.zero_add]
        rw [e1, e2]
    show foldL (upN c) (List.replicate k false) (upN c _ false) = _
    rw [hb, fails_some c hE hc k (j + 1) (by omega), show j + 1 + k = j + (k + 1) by omega]

end Go.Proofs.Ytaikjghfccenfaa
