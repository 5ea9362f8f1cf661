/-
  Hosts: each function's contract.
-/
import Derived.Test.YtdoilggfajngiaaHF
namespace Go.Proofs.Ytdoilggfajngiaa
open Go VE

theorem ixOf_any {α : Type} (p : α → Bool) (l : List α) : decide (ixOf p l ≥ 0) = l.any p := by
  unfold ixOf
  cases h : ixF p l 0 with
  | none => rw [ixF_none.1 h]; rfl
  | some i => rw [(ixF_some h).2.2]; exact dec_t (by simp)

theorem all_any {α : Type} (p : α → Bool) (l : List α) : l.all p = !l.any (fun x => !p x) := by
  induction l with
  | nil => rfl
  | cons a l ih => simp only [List.all_cons, List.any_cons, ih]; cases p a <;> rfl

theorem okC_tree {α : Type} (c : Int) (A B : α) :
     cond (decide (c < (97 : Int))) (
      cond (decide (c < (48 : Int))) (
       cond (bne c (45 : Int)) (cond (bne c (46 : Int)) A B) B) (
       cond (decide (c > (57 : Int))) (cond (bne c (45 : Int)) (cond (bne c (46 : Int)) A B) B) B)) (
      cond (decide (c > (122 : Int))) (
       cond (decide (c < (48 : Int))) (cond (bne c (45 : Int)) (cond (bne c (46 : Int)) A B) B) (
        cond (decide (c > (57 : Int))) (cond (bne c (45 : Int)) (cond (bne c (46 : Int)) A B) B) B)) B) = cond (!okC c) A B := by
  unfold okC
  cases decide (c < 97) <;> cases decide (c > 122) <;> cases decide (c < 48) <;> cases decide (c > 57) <;> cases bne c 45 <;> cases bne c 46 <;> rfl

theorem word_loop (s : ByteArray) (hs : s.size ≤ reachBytes) (L : Nat → Int → R) (Bo : R) (hs1 : ∀ (m : Nat) (k : Nat), k < s.size → L (m + 1) (k : Int) = cond (!okC (byteAt s k)) (some (vb false, [])) (L m ((k + 1 : Nat) : Int)))
    (he : ∀ (m : Nat), L (m + 1) (s.size : Int) = Bo) : L (s.size + 1) 0 = cond ((nums s).all okC) Bo (some (vb false, [])) := by
  have h := loop_find (t := .int .u8) (nums s) L (fun c => !okC c) (fun _ => some (vb false, [])) Bo (fun m k hk => by
    rw [nums_length] at hk
    rw [hs1 m k hk, nums_rd]) (fun m => by rw [nums_length]; exact he m) s.size 0 (by rw [nums_length]; omega)
  have h : L (s.size + 1) 0 = _ := h
  rw [h, List.drop_zero, ixF_any, all_any]
  cases (nums s).any fun c => !okC c <;> rfl

theorem word_ok : word.OK := word.mk SpecsOK.nil fun s hx => by
  have hs : s.size ≤ reachBytes := fits_str (by simpa [word.pre] using hx)
  have hr := reach_lt
  refine ⟨s.size + 2, ?_⟩
  rw [word.start]
  rw [word_loop s hs (fun m k => word.l1 m s s.size k) (some (vb (decide (1 ≤ s.size) && (decide (s.size ≤ 12) && !isBlank s)), []))]
  · show _ = some (vb (wordB s), _)
    unfold wordB
    cases (nums s).all okC <;> rfl
  · intro m k hk
    rw [word.s1, cond_dt (by omega), test_d (by omega), test_d (by omega), w64s (by omega)]
    exact okC_tree _ _ _
  · intro m
    rw [word.s1, cond_df (by omega)]
    by_cases h1 : 1 ≤ s.size
    · rw [cond_dt (by omega), dec_t h1]
      by_cases h2 : s.size ≤ 12
      · rw [cond_dt (by omega), dec_t h2]; rfl
      · rw [cond_df (by omega), dec_f h2]; rfl
    · rw [cond_df (by omega), dec_f h1]; rfl

theorem wordR_ok : wordR.OK := wordR.mk SpecsOK.nil fun s hx => by
  have hs : s.size ≤ reachBytes := fits_str (by simpa [wordR.pre] using hx)
  have hr := reach_lt
  refine ⟨s.size + 2, ?_⟩
  rw [wordR.start]
  rw [word_loop s hs (fun m k => wordR.l1 m s s.size k) (some (vb true, []))]
  · show _ = some (vb (wordB s), _)
    unfold wordB isBlank
    by_cases h1 : 1 ≤ s.size
    · rw [cond_df (by omega), dec_t h1]
      by_cases h2 : s.size ≤ 12
      · rw [cond_df (by omega), dec_t h2]
        cases s.toList == (⟨#[45]⟩ : ByteArray).toList <;> cases (nums s).all okC <;> rfl
      · rw [cond_dt (by omega), dec_f h2]
        cases (nums s).all okC <;> rfl
    · rw [cond_dt (by omega), dec_f h1]
      cases (nums s).all okC <;> rfl
  · intro m k hk
    rw [wordR.s1, cond_dt (by omega), test_d (by omega), test_d (by omega), w64s (by omega)]
    exact okC_tree _ _ _
  · intro m
    rw [wordR.s1, cond_df (by omega)]; rfl

theorem notWords_ok : notWords.OK := notWords.mk (word_ok.cons' SpecsOK.nil) fun p hx => by
  have hp : fits TPair p = true := by simpa [notWords.pre] using hx
  obtain ⟨h1, h2⟩ := fits_prod hp
  refine ⟨1, ?_⟩
  have a1 : word.pre (p.1, ()) = true := by simpa [word.pre] using h1
  have a2 : word.pre (p.2, ()) = true := by simpa [word.pre] using h2
  rw [notWords.start, test_true a1, test_true a2]
  show _ = some (vb (nwB p), _)
  unfold nwB
  cases wordB p.1 <;> rfl

theorem ixNW_ok : ixNW.OK := ixNW.mk (notWords_ok.cons' SpecsOK.nil) fun l u hx => by
  have hl : fits (.sl TPair) l = true := by simpa [ixNW.pre] using hx
  have hb := fits_len' (n := 32) hl rfl
  have hr := reach_lt
  refine ⟨l.length + 2, ?_⟩
  rw [ixNW.start]
  have h := loop_find (t := TPair) l (fun m k => ixNW.l1 m l l.length k) nwB (fun i => some (vi .i64 i, [])) (some (vi .i64 (-1), [])) (fun m k hk => ?_) (fun m => ?_) l.length 0 (by omega)
  · refine h.trans ?_
    rw [List.drop_zero]
    show _ = some (vi .i64 (ixOf nwB l), _)
    unfold ixOf
    cases ixF nwB l 0 <;> rfl
  · have a1 : notWords.pre (rdEl TPair l k, ()) = true := by simpa [notWords.pre] using fits_rd hl hk
    rw [ixNW.s1, cond_dt (by omega), test_d (by omega), test_d (by omega), w64s (by omega), toNat_cast, test_true a1]
    rfl
  · rw [ixNW.s1, cond_df (by omega)]; rfl

theorem cfNW_ok : cfNW.OK := cfNW.mk (ixNW_ok.cons' SpecsOK.nil) fun l u hx => by
  have hl : fits (.sl TPair) l = true := by simpa [cfNW.pre] using hx
  have a1 : ixNW.pre (l, (), ()) = true := by simpa [ixNW.pre] using hl
  refine ⟨1, ?_⟩
  rw [cfNW.start, test_true a1, ixOf_any]
  rfl

theorem maySub_ok : maySub.OK := maySub.mk (cfNW_ok.cons' SpecsOK.nil) fun l hx => by
  have hl : fits (.sl TPair) l = true := by simpa [maySub.pre] using hx
  have a1 : cfNW.pre (l, (), ()) = true := by simpa [cfNW.pre] using hl
  refine ⟨1, ?_⟩
  rw [maySub.start, test_true a1]
  show _ = some (vb (maySubB l), _)
  unfold maySubB
  by_cases h : l.length ≤ 6
  · rw [cond_dt (by omega), dec_t h]; rfl
  · rw [cond_df (by omega), dec_f h]; rfl

theorem maySubR_ok : maySubR.OK := maySubR.mk (wordR_ok.cons' SpecsOK.nil) fun l hx => by
  have hl : fits (.sl TPair) l = true := by simpa [maySubR.pre] using hx
  have hb := fits_len' (n := 32) hl rfl
  have hr := reach_lt
  refine ⟨l.length + 2, ?_⟩
  rw [maySubR.start]
  have h := loop_find (t := TPair) l (fun m k => maySubR.l1 m l l l.length k) nwB (fun i => some (vb false, [])) (some (vb (decide (l.length ≤ 6)), [])) (fun m k hk => ?_) (fun m => ?_) l.length 0 (by omega)
  · refine h.trans ?_
    rw [List.drop_zero, ixF_any]
    show _ = some (vb (maySubB l), _)
    unfold maySubB
    cases l.any nwB <;> cases decide (l.length ≤ 6) <;> rfl
  · obtain ⟨h1, h2⟩ := fits_prod (fits_rd hl hk)
    have a1 : wordR.pre ((rdEl TPair l k).1, ()) = true := by simpa [wordR.pre] using h1
    have a2 : wordR.pre ((rdEl TPair l k).2, ()) = true := by simpa [wordR.pre] using h2
    rw [maySubR.s1, cond_dt (by omega), test_d (by omega), test_d (by omega), w64s (by omega), toNat_cast, test_true a1, test_true a2]
    unfold nwB
    cases wordB (rdEl TPair l k).1 <;> cases wordB (rdEl TPair l k).2 <;> rfl
  · rw [maySubR.s1, cond_df (by omega)]
    have : decide ((l.length : Int) ≤ 6) = decide (l.length ≤ 6) := by
      by_cases h : l.length ≤ 6
      · rw [dec_t h, dec_t (by omega)]
      · rw [dec_f h, dec_f (by omega)]
    rw [this]; rfl

/-! ### bytes in order -/

theorem less_total : ∀ (a b : List UInt8), (Op.bytesLess b a || b == a) = !Op.bytesLess a b
  | [], [] => rfl
  | [], _ :: _ => rfl
  | _ :: _, [] => rfl
  | x :: a, y :: b => by
    have ih := less_total a b
    simp only [Op.bytesLess]
    rcases Nat.lt_trichotomy x.toNat y.toNat with h | h | h
    · have h1 : x < y := h
      have h2 : ¬ y < x := by intro h'; have : y.toNat < x.toNat := h'; omega
      have h3 : y ≠ x := by rintro rfl; omega
      have h4 : (y == x) = false := by simpa using h3
      have h5 : (y :: b == x :: a) = false := by simp [h3]
      simp [h1, h2, h4, h3]
    · have h1 : x = y := UInt8.toNat_inj.1 h
      subst h1
      have h2 : ¬ x < x := by intro h'; have : x.toNat < x.toNat := h'; omega
      have h3 : (x :: b == x :: a) = (b == a) := by simp
      rw [h3]
      simp only [h2, decide_false, Bool.false_or, beq_self_eq_true, Bool.true_and]
      exact ih
    · have h1 : y < x := h
      have h2 : ¬ x < y := by intro h'; have : x.toNat < y.toNat := h'; omega
      have h3 : (x == y) = false := by
        have : x ≠ y := by rintro rfl; omega
        simpa using this
      simp [h1, h2, h3]

theorem rises_loop (l : List (El TPair)) (hb : l.length < 9223372036854775806) (L : Nat → Int → R) (Bo : R)
    (hs : ∀ (m k : Nat), k + 1 < l.length → L (m + 1) ((k : Int) + 1) = cond (!Op.bytesLess (rdEl TPair l k).1.toList (rdEl TPair l (k + 1)).1.toList) (some (vb false, [])) (L m (((k + 1 : Nat) : Int) + 1)))
    (he : ∀ (m k : Nat), l.length ≤ k + 1 → L (m + 1) ((k : Int) + 1) = Bo) : ∀ (n k : Nat), l.length ≤ k + n + 1 → L (n + 1) ((k : Int) + 1) = cond (risesP (l.drop k)) Bo (some (vb false, []))
  | n, k, h => by
    by_cases hk : k + 1 < l.length
    · cases n with
      | zero => omega
      | succ n =>
        rw [hs _ _ hk, rises_loop l hb L Bo hs he n (k + 1) (by omega), rdEl_drop l (by omega : k < l.length), rdEl_drop l hk]
        rw [risesP]
        cases Op.bytesLess (rdEl TPair l k).1.toList (rdEl TPair l (k + 1)).1.toList <;> rfl
    · rw [he _ _ (by omega)]
      have : risesP (l.drop k) = true := by
        have h1 : (l.drop k).length ≤ 1 := by rw [List.length_drop]; omega
        match l.drop k, h1 with
        | [], _ => rfl
        | [_], _ => rfl
      rw [this]; rfl

def mayRest (h : El THost) : Bool :=
  (decide (1 ≤ h.1) && decide (h.1 ≤ 1000000)) && (wordB h.2.1 && (((h.2.2.2.1.toList == (⟨#[]⟩ : ByteArray).toList) || wordB h.2.2.2.1) && ((decide (0 ≤ h.2.2.1) && decide (h.2.2.1 ≤ 3)) && ((decide (1 ≤ h.2.2.2.2.1) && decide (h.2.2.2.2.1 ≤ 20)) && maySubB h.2.2.2.2.2))))
theorem mayB_eq (h : El THost) : mayB h = (risesP h.2.2.2.2.2 && mayRest h) := rfl

theorem pred_w {k : Nat} (h : k < 9223372036854775806) : IntKind.i64.wrap (((k : Int) + 1) - 1) = (k : Int) := by rw [w64] <;> omega
theorem succ_w {k : Nat} (h : k < 9223372036854775806) : IntKind.i64.wrap (((k : Int) + 1) + 1) = ((k + 1 : Nat) : Int) + 1 := by rw [w64] <;> omega
theorem toNat_s (k : Nat) : ((k : Int) + 1).toNat = k + 1 := by omega

theorem may_ok : may.OK := may.mk (word_ok.cons' (maySub_ok.cons' SpecsOK.nil)) fun h hx => by
  have hh : fits THost h = true := by simpa [may.pre] using hx
  obtain ⟨id, addr, prio, zone, weight, meta_⟩ := h
  obtain ⟨_, hh⟩ := fits_prod hh
  obtain ⟨g1, hh⟩ := fits_prod hh
  obtain ⟨_, hh⟩ := fits_prod hh
  obtain ⟨g2, hh⟩ := fits_prod hh
  obtain ⟨_, g3⟩ := fits_prod hh
  have hb : List.length meta_ * 32 ≤ reachBytes := fits_len' (n := 32) g3 rfl
  have hr := reach_lt
  simp only at g1 g2 g3
  have a1 : word.pre (addr, ()) = true := by simpa [word.pre] using g1
  have a2 : word.pre (zone, ()) = true := by simpa [word.pre] using g2
  have a3 : maySub.pre (meta_, ()) = true := by simpa [maySub.pre] using g3
  refine ⟨meta_.length + 2, ?_⟩
  rw [may.start]
  have hl := rises_loop meta_ (by omega) (fun m k => may.l1 m k id addr prio zone weight meta_) (some (vb (mayRest (id, addr, prio, zone, weight, meta_)), [])) (fun m k hk => ?_) (fun m k hk => ?_) meta_.length 0 (by omega)
  · refine hl.trans ?_
    rw [List.drop_zero]
    show _ = some (vb (mayB _), _)
    rw [mayB_eq]
    cases risesP meta_ <;> rfl
  · rw [may.s1, cond_dt (by omega), pred_w (by omega), succ_w (by omega), toNat_s, toNat_cast, test_d (by omega), test_d (by omega), test_d (by omega), test_d (by omega)]; rfl
  · rw [may.s1, cond_df (by omega), test_true a1, test_true a2, test_true a3]
    unfold mayRest
    simp only [ge_iff_le]
    cases decide (1 ≤ id) <;> cases decide (id ≤ 1000000) <;> cases wordB addr <;> cases (zone.toList == (⟨#[]⟩ : ByteArray).toList) <;> cases wordB zone <;> cases decide (0 ≤ prio) <;> cases decide (prio ≤ 3) <;> first | rfl | (cases decide (1 ≤ weight) <;> cases decide (weight ≤ 20) <;> rfl)

end Go.Proofs.Ytdoilggfajngiaa
