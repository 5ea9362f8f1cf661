/-
  THE LAW triagelaw3.OrderForms ANSWERS true WHATEVER TWO ROWS OF KEYS AND KEY IT IS HANDED: sorting, merging, finding and asking whether a row rises answer as the document says. No condition.
-/
import Derived.Test.YtnpncjpgihgkcaaF3
import Derived.Test.YtnpncjpgihgkcaaRows
namespace Go.Proofs.Ytnpncjpgihgkcaa
open Go VE Go.ChangeShapes Go.WideShapes

theorem own3 : ownKnob Try.prog.godebug = none := by kernel_rfl
theorem laidOut3 : laidOutB Try.prog = true := by kernel_rfl

def cnt (l : List (Int × Int)) (k : Int × Int) : Nat := l.countP fun p => less p k

theorem find_cnt {a : List (Int × Int)} (hs : a.Pairwise Le) (k : Int × Int) : find a k = cnt a k := by
  obtain ⟨h1, h2, h3⟩ := find_spec hs k
  unfold cnt
  rw [← List.take_append_drop (find a k) a, List.countP_append, List.take_append_drop]
  have e1 : (a.take (find a k)).countP (fun p => less p k) = find a k := by
    have : (a.take (find a k)).countP (fun p => less p k) = (a.take (find a k)).length := by
      rw [List.countP_eq_length]
      intro p hp
      obtain ⟨j, hj, rfl⟩ := List.getElem_of_mem hp
      rw [List.length_take] at hj
      rw [List.getElem_take, ← rd_lt]
      exact h2 j (by omega)
    rw [this, List.length_take]; omega
  have e2 : (a.drop (find a k)).countP (fun p => less p k) = 0 := by
    rw [List.countP_eq_zero]
    intro p hp
    obtain ⟨j, hj, rfl⟩ := List.getElem_of_mem hp
    rw [List.length_drop] at hj
    rw [List.getElem_drop, ← rd_lt]
    rw [h3 _ (by omega) (by omega)]; simp
  rw [e1, e2]; omega

theorem forms_loop2 (l a : List (Int × Int)) (kx ky : Int) (hl : l.length ≤ 8796093022208) : ∀ (m k : Nat) (b : Bool), l.length ≤ k + m → (b && rising (l.drop k)) = rising l →
    f3.r16 (m + 1) l a ((find a (kx, ky) : Nat) : Int) ((find a (kx, ky) : Nat) : Int) (there a (kx, ky)) b ((k : Int) + 1) kx ky = some (vb true, []) := by
  have fin : ∀ (b : Bool), b = rising l → (cond (((find a (kx, ky) : Nat) : Int) == ((find a (kx, ky) : Nat) : Int)) (
    cond (decide (((find a (kx, ky) : Nat) : Int) < ((List.length a) : Int))) (
     test (decide ((0 : Int) ≤ ((find a (kx, ky) : Nat) : Int))) (
      test (decide (((find a (kx, ky) : Nat) : Int) < ((List.length a) : Int))) (
       cond (there a (kx, ky) == ((((rdEl (.prod (.int .i64) (.int .i64)) a (Int.toNat ((find a (kx, ky) : Nat) : Int)))).1 == kx) && ((((rdEl (.prod (.int .i64) (.int .i64)) a (Int.toNat ((find a (kx, ky) : Nat) : Int)))).2 == ky) && true))) (
        test (decide ((List.length l) ≤ 140737488355328)) (
         cond (rising l == b) (
          some ((.c (.v (.bool true))), [])) (
          some ((.c (.v (.bool false))), [])))) (
        some ((.c (.v (.bool false))), []))))) (
     cond (there a (kx, ky) == false) (
      test (decide ((List.length l) ≤ 140737488355328)) (
       cond (rising l == b) (
        some ((.c (.v (.bool true))), [])) (
        some ((.c (.v (.bool false))), [])))) (
      some ((.c (.v (.bool false))), [])))) (
    some ((.c (.v (.bool false))), [])) : R) = some (vb true, []) := by
    intro b hb
    have t : ((find a (kx, ky) : Nat) : Int).toNat = find a (kx, ky) := by omega
    rw [cond_t (beq_self_eq_true _)]
    by_cases h : find a (kx, ky) < a.length
    · rw [cond_t (dec_t (by omega)), test_true (dec_t (by omega)), test_true (dec_t (by omega)), t]
      have : there a (kx, ky) = (((rdEl (.prod (.int .i64) (.int .i64)) a (find a (kx, ky))).1 == kx) && ((((rdEl (.prod (.int .i64) (.int .i64)) a (find a (kx, ky)))).2 == ky) && true)) := by
        unfold there
        rw [dec_t h, Bool.true_and, Bool.and_true]
      rw [← this, cond_t (beq_self_eq_true _), test_true (dec_t (by omega)), cond_t (by rw [hb]; exact beq_self_eq_true _)]
      rfl
    · rw [cond_f (dec_f (by omega))]
      have : there a (kx, ky) = false := by
        unfold there
        rw [dec_f h, Bool.false_and]
      rw [this, cond_t (beq_self_eq_true _), test_true (dec_t (by omega)), cond_t (by rw [hb]; exact beq_self_eq_true _)]
      rfl
  intro m
  induction m with
  | zero =>
    intro k b hk hb
    rw [f3.step16, cond_f (dec_f (by omega))]
    refine fin b ?_
    rw [List.drop_eq_nil_of_le (by omega)] at hb
    simpa [rising] using hb
  | succ m ih =>
    intro k b hk hb
    rw [f3.step16]
    by_cases h : k + 1 < l.length
    · have e1 : IntKind.i64.wrap ((k : Int) + 1 - 1) = (k : Int) := by rw [w64] <;> omega
      have e2 : IntKind.i64.wrap ((k : Int) + 1 + 1) = ((k + 1 : Nat) : Int) + 1 := by rw [w64] <;> omega
      have e3 : ((k : Int) + 1).toNat = k + 1 := by omega
      have e4 : (k : Int).toNat = k := by omega
      rw [rd_cons l k (by omega), rd_cons l (k + 1) h] at hb
      simp only [rising] at hb
      rw [← rd_cons l (k + 1) h] at hb
      rw [cond_t (dec_t (by omega)), e1, e2, e3, e4]
      cases b with
      | false =>
        rw [cond_false]
        exact ih (k + 1) false (by omega) (by simpa using hb)
      | true =>
        rw [Bool.true_and] at hb
        rw [cond_true, test_true (dec_t (by omega)), test_true (dec_t (by omega)), test_true (dec_t (by omega)), test_true (dec_t (by omega))]
        by_cases h1 : (rdEl TKey l k).1 < (rdEl TKey l (k + 1)).1
        · rw [cond_t (dec_t h1)]
          have : less (rdEl TKey l k) (rdEl TKey l (k + 1)) = true := by rw [less_iff]; exact .inl h1
          rw [this] at hb
          exact ih (k + 1) true (by omega) hb
        · rw [cond_f (dec_f h1), test_true (dec_t (by omega)), test_true (dec_t (by omega)), test_true (dec_t (by omega)), test_true (dec_t (by omega))]
          by_cases h2 : (rdEl TKey l k).1 = (rdEl TKey l (k + 1)).1
          · rw [cond_t (by rw [beq_iff_eq]; exact h2), test_true (dec_t (by omega)), test_true (dec_t (by omega)), test_true (dec_t (by omega)), test_true (dec_t (by omega))]
            have : less (rdEl TKey l k) (rdEl TKey l (k + 1)) = decide ((rdEl TKey l k).2 < (rdEl TKey l (k + 1)).2) := by
              simp [less, h2]
            rw [this] at hb
            exact ih (k + 1) _ (by omega) hb
          · rw [cond_f (by rw [beq_eq_false_iff_ne]; exact h2)]
            have : less (rdEl TKey l k) (rdEl TKey l (k + 1)) = false := by simp [less, h1, h2]
            rw [this] at hb
            exact ih (k + 1) false (by omega) hb
    · rw [cond_f (dec_f (by omega))]
      refine fin b ?_
      have : rising (l.drop k) = true := by
        have h1 : (l.drop k).length ≤ 1 := by rw [List.length_drop]; omega
        match l.drop k, h1 with
        | [], _ => rfl
        | [_], _ => rfl
      rw [this, Bool.and_true] at hb
      exact hb

theorem forms_loop1 (l a : List (Int × Int)) (kx ky : Int) (hl : l.length ≤ 8796093022208) (ha : a.length ≤ 8796093022208) (m : Nat) : ∀ (d i : Nat), i + d = l.length →
    f3.r8 (m + d + 1) l a ((cnt (l.take i) (kx, ky) : Nat) : Int) l (l.length : Int) (i : Int) kx ky = f3.r16 m l a ((cnt l (kx, ky) : Nat) : Int) ((find a (kx, ky) : Nat) : Int) (there a (kx, ky)) true 1 kx ky
  | 0, i, h => by
    rw [show m + 0 + 1 = m + 1 from rfl, f3.step8, cond_f (dec_f (by omega)), test_true (dec_t ha), List.take_of_length_le (by omega)]
  | d + 1, i, h => by
    have hi : i < l.length := by omega
    have t : ((i : Nat) : Int).toNat = i := by omega
    have w : IntKind.i64.wrap ((i : Int) + 1) = ((i + 1 : Nat) : Int) := by rw [w64] <;> omega
    have ih := forms_loop1 l a kx ky hl ha m d (i + 1) (by omega)
    have hc : cnt (l.take i) (kx, ky) ≤ i := by
      have := List.countP_le_length (p := fun p => less p (kx, ky)) (l := l.take i)
      unfold cnt
      rw [List.length_take] at this; omega
    have w2 : IntKind.i64.wrap (((cnt (l.take i) (kx, ky) : Nat) : Int) + 1) = ((cnt (l.take i) (kx, ky) + 1 : Nat) : Int) := by rw [w64] <;> omega
    have hs : cnt (l.take (i + 1)) (kx, ky) = if less (rdEl TKey l i) (kx, ky) = true then cnt (l.take i) (kx, ky) + 1 else cnt (l.take i) (kx, ky) := by
      unfold cnt
      rw [List.take_succ_eq_append_getElem hi, List.countP_append, ← rd_lt hi, List.countP_singleton]
      split <;> rfl
    rw [hs] at ih
    rw [show m + (d + 1) + 1 = (m + d + 1) + 1 from rfl, f3.step8, t, w, w2, cond_t (dec_t (by omega)), test_true (dec_t (by omega)), test_true (dec_t (by omega))]
    by_cases h1 : (rdEl TKey l i).1 < kx
    · rw [cond_t (dec_t h1)]
      rw [if_pos ((less_iff _ _).2 (.inl h1))] at ih
      exact ih
    · rw [cond_f (dec_f h1)]
      by_cases h2 : (rdEl TKey l i).1 = kx
      · rw [cond_t (by rw [beq_iff_eq]; exact h2)]
        by_cases h3 : (rdEl TKey l i).2 < ky
        · rw [cond_t (dec_t h3)]
          rw [if_pos ((less_iff _ _).2 (.inr ⟨h2, h3⟩))] at ih
          exact ih
        · rw [cond_f (dec_f h3)]
          have nl : ¬ less (rdEl TKey l i) (kx, ky) = true := fun hh => ((less_iff _ _).1 hh).elim h1 fun g => h3 g.2
          rw [if_neg nl] at ih
          exact ih
      · rw [cond_f (by rw [beq_eq_false_iff_ne]; exact h2)]
        have nl : ¬ less (rdEl TKey l i) (kx, ky) = true := fun hh => ((less_iff _ _).1 hh).elim h1 fun g => h2 g.1
        rw [if_neg nl] at ih
        exact ih

theorem forms3 (l m : List (Int × Int)) (kx ky : Int) (hl : l.length * 16 ≤ reachBytes) (hm : m.length * 16 ≤ reachBytes) : ∃ n, f3.go n l m kx ky = some (vb true, []) := by
  have hl' : l.length ≤ 8796093022208 := by simp only [reachBytes] at hl; omega
  have hm' : m.length ≤ 8796093022208 := by simp only [reachBytes] at hm; omega
  have w : IntKind.i64.wrap ((l.length : Int) + (m.length : Int)) = (l.length : Int) + (m.length : Int) := by rw [w64] <;> omega
  by_cases h : (l.length : Int) + (m.length : Int) > 300
  · refine ⟨1, ?_⟩
    rw [f3.start, w, cond_t (dec_t h)]; rfl
  · have s1 := sort_length _ l (Nat.le_refl _)
    have s2 := sort_length _ m (Nat.le_refl _)
    have s3 := sort_length _ (l ++ m) (Nat.le_refl _)
    rw [List.length_append] at s3
    have e1 : merge (sort l) (sort m) = sort (l ++ m) := merge_sort l m
    have e4 : ([] ++ l) ++ m = l ++ m := by rw [List.nil_append]
    refine ⟨(l.length + 1) + l.length + 1 + 1, ?_⟩
    rw [f3.start, w, cond_f (dec_f h), e4, e1, sameL_self, sameL_self, Bool.not_true]
    rw [test_true (dec_t hl'), test_true (dec_t hm'), test_true (dec_t hl'), test_true (dec_t hl'), test_true (dec_t (by omega)), cond_false, test_true (dec_t (by omega)), test_true (dec_t (by simp [lim] <;> omega)), test_true (dec_t (by simp [lim] <;> omega)),
      test_true (dec_t (by rw [List.length_append]; omega)), test_true (dec_t (by rw [List.length_append]; omega)), test_true (dec_t (by omega)), cond_false]
    have k1 := forms_loop1 l (sort l) kx ky hl' (by omega) (l.length + 1) l.length 0 (by omega)
    have k2 : cnt l (kx, ky) = find (sort l) (kx, ky) := by
      rw [find_cnt (sort_sorted _ l (Nat.le_refl _))]
      exact ((sort_perm _ l (Nat.le_refl _)).countP_eq _).symm
    rw [k2] at k1
    have k3 := forms_loop2 l (sort l) kx ky hl' l.length 0 true (by omega) (by simp)
    exact k1.trans k3

theorem orderForms_lifted (os : Os) (started : os.Started) (H : Type) (en : TypeId × Value → H) :
    ReturnsInHanded {} Try.checked os 3 .any (Rows.orderFormsSpec.pre6 en Try.prog Try.f3 Rows.orderFormsRow.domain false) (Rows.orderFormsSpec.post en Try.prog Try.f3 false true false false) := by
  refine law_lifted (C := Try.checked) (ps := [(false, .sl TKey), (false, .sl TKey), (true, TKey)]) (tb := 4) own3 started laidOut3 (by kernel_rfl) Try.func3 (by kernel_rfl) (by kernel_rfl) (by kernel_rfl) rfl
    (fun H ds h => by match ds, h with | [_, _, _], _ => rfl)
    (ChangeSpec.witness6 (enc := en) (C := Try.checked) false ⟨#[], #[.slice none 0 0, .slice none 0 0, .agg #[.int .i64 0, .int .i64 0]], []⟩ 8 (by kernel_rfl) (by kernel_rfl) (by kernel_rfl) (by kernel_rfl))
    fun x hx => ?_
  obtain ⟨l, m, ⟨a, b⟩, u⟩ := x
  obtain ⟨⟨h1, _⟩, ⟨h2, _⟩, _⟩ := hx
  obtain ⟨n, hn⟩ := forms3 l m a b h1 h2
  refine returns_of_run (cfg := cfg3) (cfgOK_of mixed tab_ok (sort9.withSl.cons' (find14.cons' (rising15.cons' (awake8.cons' (merge13.withSl.cons' (sort11.cons' (keys12.cons' (same10.cons' SpecsOK.nil))))))))) Try.func3 (c := bodyOf Try.f3) rfl (by show 3 ≤ 158; omega) (m := n) ?_
  have e0 : run cfg3 Try.f3.ntmps Try.f3.results.toList n [.code (bodyOf Try.f3)] (enter (ivs [(false, .sl TKey), (false, .sl TKey), (true, TKey)] (l, m, (a, b), u))) = f3.go n l m a b := by kernel_rfl
  exact e0.trans hn

theorem orderForms_holds : Rows.OrderFormsSaid :=
  OpenClaim.holds_of_wide 3 Try.f3 rfl rfl rfl rfl rfl rfl rfl ⟨rfl, rfl, rfl, rfl, rfl⟩ rfl rfl rfl rfl rfl (by kernel_rfl) Try.func3 (by kernel_rfl)
    (of_decide_eq_true (by kernel_rfl)) (by unfold Func.isWrapper; first | (rw [if_pos (by decide +kernel)]; kernel_rfl) | (rw [if_neg (by decide +kernel)]; exact ⟨rfl, rfl⟩))
    (fun os started H enc _ => orderForms_lifted os started H enc)

end Go.Proofs.Ytnpncjpgihgkcaa
