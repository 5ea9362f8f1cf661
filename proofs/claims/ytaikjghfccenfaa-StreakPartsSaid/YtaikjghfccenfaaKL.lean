/-
  Failures in a row: what the laws' functions come to.
-/
import Derived.Test.YtaikjghfccenfaaKB
import Derived.Laws.Closers25b
namespace Go.Proofs.Ytaikjghfccenfaa
open Go VE

theorem lForms_R : lForms.Law := fun c n ok l hx => by
  have h : (fits TConfig c && (fits (.int .i64) n && (fits .bool ok && (fits (.sl .bool) l && true)))) = true := hx
  simp only [Bool.and_eq_true] at h
  have hc := h.1
  have hl : l.length * 1 ≤ reachBytes := fits_len' h.2.2.2.1 rfl
  have hr := reach_lt
  have hlf := h.2.2.2.1
  refine lForms.ret (awake_ok.cons' (note_ok.cons' (noteR_ok.cons' (all_ok.cons' .nil)))) c n ok l (m := l.length + 2) ?_
  rw [lForms.start]
  by_cases h1 : (l.length : Int) > 300
  · rw [cond_dt h1]; rfl
  rw [cond_df h1]
  by_cases h2 : (((cZone c).size : Nat) : Int) > 100
  · rw [cond_dt h2]; rfl
  rw [cond_df h2, test_true (show note.pre (c, n, ok, ()) = true by simpa [note.pre] using ⟨hc, rfl, rfl⟩), test_true (show noteR.pre (c, n, ok, ()) = true by simpa [noteR.pre] using ⟨hc, rfl, rfl⟩), mm_n0']
  have hs := ans_loop c l (by omega) (fun m a y k => lForms.l1 m n l (noteN n ok) (noteB c n ok) (noteN n ok) (noteB c n ok) a y l (l.length : Int) k c.1 c.2.1 c.2.2.1 c.2.2.2.1 c.2.2.2.2.1 c.2.2.2.2.2.1 c.2.2.2.2.2.2.1 c.2.2.2.2.2.2.2.1 c.2.2.2.2.2.2.2.2.1 c.2.2.2.2.2.2.2.2.2.1 c.2.2.2.2.2.2.2.2.2.2.1 c.2.2.2.2.2.2.2.2.2.2.2.1 c.2.2.2.2.2.2.2.2.2.2.2.2.1 c.2.2.2.2.2.2.2.2.2.2.2.2.2.1 c.2.2.2.2.2.2.2.2.2.2.2.2.2.2.1 c.2.2.2.2.2.2.2.2.2.2.2.2.2.2.2.1 c.2.2.2.2.2.2.2.2.2.2.2.2.2.2.2.2.1 c.2.2.2.2.2.2.2.2.2.2.2.2.2.2.2.2.2.1 c.2.2.2.2.2.2.2.2.2.2.2.2.2.2.2.2.2.2.1 c.2.2.2.2.2.2.2.2.2.2.2.2.2.2.2.2.2.2.2.1 c.2.2.2.2.2.2.2.2.2.2.2.2.2.2.2.2.2.2.2.2.1 c.2.2.2.2.2.2.2.2.2.2.2.2.2.2.2.2.2.2.2.2.2.1 c.2.2.2.2.2.2.2.2.2.2.2.2.2.2.2.2.2.2.2.2.2.2)
    (fun _ p => cond ((allP c n l).1 == p.1) (cond ((allP c n l).2 == p.2) (some (vb true, [])) (some (vb false, []))) (some (vb false, [])))
    (fun m k a y hk => by
      rw [lForms.s1, cond_dt (by omega), test_d (by omega), test_d (by omega), w64s (by omega), toNat_cast]
      exact test_true (show noteR.pre (c, a, rdEl .bool l k, ()) = true by simpa [noteR.pre] using ⟨hc, rfl, rfl⟩))
    (fun d a y => by
      rw [lForms.s1, cond_df (by omega), beq_self_eq_true, cond_true, beq_self_eq_true, cond_true]
      exact test_true (show all.pre (c, n, l, ()) = true by simpa [all.pre] using ⟨hc, rfl, hlf⟩)) 0 (n0 n) 0
  refine hs.trans ?_
  show cond ((allP c n l).1 == (allP c n l).1) (cond ((allP c n l).2 == (allP c n l).2) _ _) _ = _
  rw [beq_self_eq_true, beq_self_eq_true]
  rfl

theorem modN (k : Int) (n : Nat) (h0 : 0 < n) (h1 : n ≤ 1000) : ∃ j : Nat, j < n ∧ IntKind.i64.wrap (Int.tmod (IntKind.u64.wrap k) (n : Int)) = (j : Int) := by
  have hk : 0 ≤ IntKind.u64.wrap k := (wrap_within .u64 k).1
  rw [Int.tmod_eq_emod_of_nonneg hk]
  have h2 := Int.emod_nonneg (IntKind.u64.wrap k) (show (n : Int) ≠ 0 by omega)
  have h3 := Int.emod_lt_of_pos (IntKind.u64.wrap k) (show (0 : Int) < (n : Int) by omega)
  exact ⟨(IntKind.u64.wrap k % (n : Int)).toNat, by omega, by rw [w64 (by omega) (by omega)]; omega⟩

theorem fits_def : fits TConfig defC = true := by kernel_rfl
theorem may_def : mayC defC = true := by kernel_rfl
theorem fits_held {c : El TConfig} (h : fits TConfig c = true) : fits TConfig (heldC c) = true := by
  unfold heldC
  cases mayC c with
  | true => exact h
  | false => exact fits_def
theorem may_held (c : El TConfig) : mayC (heldC c) = true := by
  unfold heldC
  cases h : mayC c with
  | true => exact h
  | false => exact may_def

theorem fits_bools {l : List Bool} (h : l.length ≤ 1000) : fits (.sl .bool) l = true := by
  refine fits_sl (t := .bool) ?_ fun _ _ => rfl
  show l.length * 1 ≤ reachBytes
  have : (1000 : Nat) ≤ reachBytes := by decide
  omega

theorem lParts_R : lParts.Law := fun c n l k hx => by
  have h : (fits TConfig c && (fits (.int .i64) n && (fits (.sl .bool) l && (fits (.int .i64) k && true)))) = true := hx
  simp only [Bool.and_eq_true] at h
  have hc := h.1
  refine lParts.ret (awake_ok.cons' (all_ok.cons' (mayCR_ok.cons' (heldR_ok.cons' .nil)))) c n l k (m := 1) ?_
  rw [lParts.start]
  by_cases h1 : (l.length : Int) > 200
  · rw [cond_dt h1]; rfl
  rw [cond_df h1]
  by_cases h2 : (((cZone c).size : Nat) : Int) > 100
  · rw [cond_dt h2]; rfl
  have hl : l.length ≤ 200 := by omega
  obtain ⟨j, hj, hjw⟩ := modN k (l.length + 1) (by omega) (by omega)
  have hu : IntKind.u64.wrap ((l.length + 1 : Nat) : Int) = ((l.length + 1 : Nat) : Int) := IntWalk.u64_in _ ⟨by omega, by omega⟩
  have hall : ∀ (a : Int) (m : List Bool), m.length ≤ 200 → all.pre (c, a, m, ()) = true := fun a m hm => by simpa [all.pre] using ⟨hc, rfl, fits_bools (by omega)⟩
  have htl : (l.take j).length ≤ 200 := by rw [List.length_take]; omega
  have hdl : (l.drop j).length ≤ 200 := by rw [List.length_drop]; omega
  rw [cond_df h2, w64s (by omega), hu, dec_f (by omega : ¬ ((l.length + 1 : Nat) : Int) = 0), Bool.not_false, test_true rfl, hjw, toNat_cast, test_d (by omega), test_d (by omega), List.drop_zero, List.take_length,
    test_true (hall _ _ htl), test_d (by omega), test_d (by omega), test_true (hall _ _ hdl), test_true (hall _ _ hl)]
  have hsp := all_parts c n (l.take j) (l.drop j) (by rw [List.length_take, List.length_drop]; omega)
  rw [List.take_append_drop] at hsp
  obtain ⟨p1, p2, p3, p4, p5, p6⟩ := hsp
  have e1 : (allP c (allP c n (l.take j)).1 (l.drop j)).1 = (allP c n l).1 := p1
  rw [e1, beq_self_eq_true, cond_true, w64 (by omega) (by omega), p2, beq_self_eq_true, cond_true, test_true (show heldR.pre (c, ()) = true by simpa [heldR.pre] using hc),
    test_true (show mayCR.pre (heldC c, ()) = true by simpa [mayCR.pre] using fits_held hc), may_held]
  rfl

/-! ### failures alone -/

theorem set_true (k i : Nat) : (List.replicate k true ++ List.replicate (i + 1) false).set k true = List.replicate (k + 1) true ++ List.replicate i false := by
  rw [List.set_append_right _ _ (by simp), List.length_replicate, Nat.sub_self, List.replicate_succ (n := i), List.set_cons_zero, List.replicate_succ', List.append_assoc]
  rfl

theorem once_loop (c : El TConfig) (a : Int) (f : List Bool) (len : Nat) (hlen : len ≤ 1000) (r : R) (he : lOnce.l1 1 a f len len (List.replicate len true) c.1 c.2.1 c.2.2.1 c.2.2.2.1 c.2.2.2.2.1 c.2.2.2.2.2.1 c.2.2.2.2.2.2.1 c.2.2.2.2.2.2.2.1 c.2.2.2.2.2.2.2.2.1 c.2.2.2.2.2.2.2.2.2.1 c.2.2.2.2.2.2.2.2.2.2.1 c.2.2.2.2.2.2.2.2.2.2.2.1 c.2.2.2.2.2.2.2.2.2.2.2.2.1 c.2.2.2.2.2.2.2.2.2.2.2.2.2.1 c.2.2.2.2.2.2.2.2.2.2.2.2.2.2.1 c.2.2.2.2.2.2.2.2.2.2.2.2.2.2.2.1 c.2.2.2.2.2.2.2.2.2.2.2.2.2.2.2.2.1 c.2.2.2.2.2.2.2.2.2.2.2.2.2.2.2.2.2.1 c.2.2.2.2.2.2.2.2.2.2.2.2.2.2.2.2.2.2.1 c.2.2.2.2.2.2.2.2.2.2.2.2.2.2.2.2.2.2.2.1 c.2.2.2.2.2.2.2.2.2.2.2.2.2.2.2.2.2.2.2.2.1 c.2.2.2.2.2.2.2.2.2.2.2.2.2.2.2.2.2.2.2.2.2.1 c.2.2.2.2.2.2.2.2.2.2.2.2.2.2.2.2.2.2.2.2.2.2 = r) :
    ∀ (i k : Nat), k + i = len → lOnce.l1 (i + 1) a f len k (List.replicate k true ++ List.replicate i false) c.1 c.2.1 c.2.2.1 c.2.2.2.1 c.2.2.2.2.1 c.2.2.2.2.2.1 c.2.2.2.2.2.2.1 c.2.2.2.2.2.2.2.1 c.2.2.2.2.2.2.2.2.1 c.2.2.2.2.2.2.2.2.2.1 c.2.2.2.2.2.2.2.2.2.2.1 c.2.2.2.2.2.2.2.2.2.2.2.1 c.2.2.2.2.2.2.2.2.2.2.2.2.1 c.2.2.2.2.2.2.2.2.2.2.2.2.2.1 c.2.2.2.2.2.2.2.2.2.2.2.2.2.2.1 c.2.2.2.2.2.2.2.2.2.2.2.2.2.2.2.1 c.2.2.2.2.2.2.2.2.2.2.2.2.2.2.2.2.1 c.2.2.2.2.2.2.2.2.2.2.2.2.2.2.2.2.2.1 c.2.2.2.2.2.2.2.2.2.2.2.2.2.2.2.2.2.2.1 c.2.2.2.2.2.2.2.2.2.2.2.2.2.2.2.2.2.2.2.1 c.2.2.2.2.2.2.2.2.2.2.2.2.2.2.2.2.2.2.2.2.1 c.2.2.2.2.2.2.2.2.2.2.2.2.2.2.2.2.2.2.2.2.2.1 c.2.2.2.2.2.2.2.2.2.2.2.2.2.2.2.2.2.2.2.2.2.2 = r
  | 0, k, h => by
    have : k = len := by omega
    subst this
    rw [List.replicate_zero, List.append_nil]
    exact he
  | i + 1, k, h => by
    rw [lOnce.s1, cond_dt (by omega), test_d (by omega), test_d (by rw [List.length_append, List.length_replicate, List.length_replicate]; omega), w64s (by omega), toNat_cast, set_true]
    exact once_loop c a f len hlen r he i (k + 1) (by omega)

theorem err_in {c : El TConfig} (h : mayC c = true) : 0 ≤ cErrors c ∧ cErrors c ≤ 100 := by
  unfold mayC at h
  simp only [Bool.and_eq_true] at h
  have h2 := List.all_eq_true.1 h.1 (rdEl TNum (firstL c ++ secondL c) 7) (rdEl_mem (show 7 < 19 by omega))
  have h3 : (decide (0 ≤ cErrors c) && decide (cErrors c ≤ 100)) = true := h2
  simpa using h3

theorem lOnce_R : lOnce.Law := fun c n k hx => by
  have h : (fits TConfig c && (fits (.int .i64) n && (fits (.int .i64) k && true))) = true := hx
  simp only [Bool.and_eq_true] at h
  have hc := h.1
  obtain ⟨a, ha, haw⟩ := modN n 300 (by omega) (by omega)
  obtain ⟨b, hb, hbw⟩ := modN k 300 (by omega) (by omega)
  have hlim : lim 1 = 140737488355328 := by simp [lim]
  refine lOnce.ret (awake_ok.cons' (mayCR_ok.cons' (all_ok.cons' .nil))) c n k (m := b + 2) ?_
  rw [lOnce.start, test_true (show mayCR.pre (c, ()) = true by simpa [mayCR.pre] using hc)]
  cases hm : mayC c with
  | false => rfl
  | true =>
  rw [Bool.not_true, cond_false]
  have haw : IntKind.i64.wrap (Int.tmod (IntKind.u64.wrap n) (300 : Int)) = (a : Int) := haw
  have hbw : IntKind.i64.wrap (Int.tmod (IntKind.u64.wrap k) (300 : Int)) = (b : Int) := hbw
  rw [haw, hbw, hlim, test_d (by omega), test_d (by omega), test_d (by omega), test_d (by omega), test_d (by omega), test_d (by omega), toNat_cast, toNat_cast, List.length_replicate]
  have hheld : heldC c = c := by unfold heldC; rw [hm]; rfl
  refine once_loop c a (List.replicate a false) b (by omega) _ ?_ b 0 (by omega)
  have hall : ∀ (m : List Bool), m.length ≤ 1000 → all.pre (c, (0 : Int), m, ()) = true := fun m hm => by simpa [all.pre] using ⟨hc, rfl, fits_bools hm⟩
  have hoks : allP c 0 (List.replicate b true) = (0, 0) := oks_all c b
  rw [lOnce.s1, cond_df (by omega), test_true (hall (List.replicate a false) (by rw [List.length_replicate]; omega)), test_true (hall (List.replicate b true) (by rw [List.length_replicate]; omega))]
  have e1 : bne (allP c 0 (List.replicate b true)).1 0 = false := by rw [hoks]; rfl
  have e2 : bne (allP c 0 (List.replicate b true)).2 0 = false := by rw [hoks]; rfl
  rw [cond_f (show bne (allP c 0 (List.replicate b true)).1 0 = false from e1), cond_f (show bne (allP c 0 (List.replicate b true)).2 0 = false from e2)]
  obtain ⟨g0, g1⟩ := err_in hm
  by_cases hE : cErrors c = 0
  · have hf : allP c 0 (List.replicate a false) = ((a : Int), 0) := by
      have := fails_none c (by rw [hheld]; exact hE) 0 a 0 (by omega) (by omega)
      rw [Int.zero_add] at this
      exact this
    have hcz : c.2.2.2.2.2.2.2.1 = 0 := hE
    rw [cond_et hcz]
    show cond ((allP c 0 (List.replicate a false)).1 == (a : Int)) (cond ((allP c 0 (List.replicate a false)).2 == 0) _ _) _ = _
    rw [hf]
    simp only [beq_self_eq_true, cond_true]
    rfl
  · obtain ⟨E, hEE⟩ : ∃ E : Nat, cErrors c = (E : Int) := ⟨(cErrors c).toNat, by omega⟩
    have hE0 : 0 < E := by omega
    have hf : allP c 0 (List.replicate a false) = (((a % E : Nat) : Int), ((a / E : Nat) : Int)) := by
      have := fails_some c hE0 (by rw [hheld]; exact hEE) a 0 (by omega)
      rw [Nat.zero_mod, Nat.zero_div, Nat.zero_add] at this
      exact this
    have hdl := Nat.div_le_self a E
    have hce : c.2.2.2.2.2.2.2.1 = (E : Int) := hEE
    have hq : Int.tdiv (a : Int) c.2.2.2.2.2.2.2.1 = ((a / E : Nat) : Int) := by
      rw [hce, Int.tdiv_eq_ediv_of_nonneg (by omega)]
      simp
    have hq2 : Int.tmod (a : Int) c.2.2.2.2.2.2.2.1 = ((a % E : Nat) : Int) := by
      rw [hce, Int.tmod_eq_emod_of_nonneg (by omega)]
      simp
    have hnz : ¬ c.2.2.2.2.2.2.2.1 = 0 := hE
    generalize a / E = Q at hf hdl hq
    generalize a % E = T at hf hq2
    have hf2 : allP c 0 ((([] ++ List.replicate a false) ++ [true]) ++ List.replicate a false) = ((T : Int), ((Q + Q : Nat) : Int)) := by
      unfold allP at hf ⊢
      rw [List.nil_append, foldL_append, foldL_append, hf]
      have ht : foldL (upN c) [true] ((T : Int), (Q : Int)) = (0, (Q : Int)) := rfl
      rw [ht]
      obtain ⟨_, _, _, i4⟩ := fold_in c (List.replicate a false) 0 0 ⟨by omega, by omega⟩ (Int.le_refl _) (by rw [List.length_replicate]; omega)
      rw [i4 (Q : Int) (by omega) (by rw [List.length_replicate]; omega)]
      have hf3 : foldL (upN c) (List.replicate a false) (0, 0) = ((T : Int), (Q : Int)) := hf
      rw [hf3]
      refine Prod.ext rfl ?_
      show (Q : Int) + ((Q : Int) - 0) = ((Q + Q : Nat) : Int)
      omega
    have hw1 : IntKind.i64.wrap (Q : Int) = (Q : Int) := w64 (by omega) (by omega)
    have hw2 : IntKind.i64.wrap (2 * (Q : Int)) = ((Q + Q : Nat) : Int) := by rw [w64 (by omega) (by omega)]; omega
    rw [cond_ef hnz]
    simp only [List.length_append, List.length_replicate, List.length_nil, List.length_cons, hlim]
    rw [test_d (by omega), test_d (by omega), test_d (by omega), test_true (hall _ (by simp; omega)),
      dec_f hnz, Bool.not_false, test_true rfl, test_true rfl, hq, hq2, hw1]
    show cond ((allP c 0 (List.replicate a false)).2 == _) (cond ((allP c 0 (List.replicate a false)).1 == _) (cond ((allP c 0 ((([] ++ List.replicate a false) ++ [true]) ++ List.replicate a false)).1 == (allP c 0 (List.replicate a false)).1)
      (cond ((allP c 0 ((([] ++ List.replicate a false) ++ [true]) ++ List.replicate a false)).2 == IntKind.i64.wrap (2 * (allP c 0 (List.replicate a false)).2)) _ _) _) _) _ = _
    rw [hf, hf2, hw2]
    simp only [beq_self_eq_true, cond_true]
    rfl

end Go.Proofs.Ytaikjghfccenfaa
