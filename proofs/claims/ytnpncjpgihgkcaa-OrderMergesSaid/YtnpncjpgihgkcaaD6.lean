/-
  THE LAW triagelaw3.OrderMerges ANSWERS true WHATEVER TWO ROWS OF KEYS IT IS HANDED: merged sorted rows are the sorted row of both, either way round, and with nothing a row is itself. No condition.
-/
import Derived.Test.YtnpncjpgihgkcaaF6
import Derived.Test.YtnpncjpgihgkcaaRows
namespace Go.Proofs.Ytnpncjpgihgkcaa
open Go VE Go.ChangeShapes Go.WideShapes

theorem own6 : ownKnob Try.prog.godebug = none := by kernel_rfl
theorem laidOut6 : laidOutB Try.prog = true := by kernel_rfl

theorem same_key (p : Int × Int) : Bool.not ((p.1 == p.1) && ((p.2 == p.2) && true)) = false := by simp

theorem merges_loop2 (a : List (Int × Int)) (ha : a.length ≤ 8796093022208) : ∀ (d i : Nat), i + d = a.length → f6.r15 (d + 1) a a (a.length : Int) (i : Int) = some (vb true, [])
  | 0, i, h => by
    rw [f6.step15, cond_f (dec_f (by omega))]; rfl
  | d + 1, i, h => by
    have w : IntKind.i64.wrap ((i : Int) + 1) = ((i + 1 : Nat) : Int) := by rw [w64] <;> omega
    rw [f6.step15, cond_t (dec_t (by omega)), test_true (dec_t (by omega)), test_true (dec_t (by omega)), test_true (dec_t (by omega)), test_true (dec_t (by omega)), cond_f (same_key _), w]
    exact merges_loop2 a ha d (i + 1) (by omega)

theorem merges_loop1 (a z e : List (Int × Int)) (hz : z.length ≤ 8796093022208) (k : Nat) : ∀ (d i : Nat), i + d = z.length → f6.r9 (k + d + 1) a z z z e (z.length : Int) (i : Int) = f6.r15 k a e (e.length : Int) 0
  | 0, i, h => by
    rw [show k + 0 + 1 = k + 1 from rfl, f6.step9, cond_f (dec_f (by omega))]
  | d + 1, i, h => by
    have w : IntKind.i64.wrap ((i : Int) + 1) = ((i + 1 : Nat) : Int) := by rw [w64] <;> omega
    rw [show k + (d + 1) + 1 = (k + d + 1) + 1 from rfl, f6.step9, cond_t (dec_t (by omega)), test_true (dec_t (by omega)), test_true (dec_t (by omega)), test_true (dec_t (by omega)), test_true (dec_t (by omega)), cond_f (same_key _),
      test_true (dec_t (by omega)), test_true (dec_t (by omega)), test_true (dec_t (by omega)), test_true (dec_t (by omega)), cond_f (same_key _), w]
    exact merges_loop1 a z e hz k d (i + 1) (by omega)

theorem bne_same (n : Int) : bne n n = false := by simp

theorem merges6 (l m : List (Int × Int)) (hl : l.length * 16 ≤ reachBytes) (hm : m.length * 16 ≤ reachBytes) : ∃ n, f6.go n l m = some (vb true, []) := by
  have hl' : l.length ≤ 8796093022208 := by simp only [reachBytes] at hl; omega
  have hm' : m.length ≤ 8796093022208 := by simp only [reachBytes] at hm; omega
  have w : IntKind.i64.wrap ((l.length : Int) + (m.length : Int)) = (l.length : Int) + (m.length : Int) := by rw [w64] <;> omega
  by_cases h : (l.length : Int) + (m.length : Int) > 200
  · refine ⟨1, ?_⟩
    rw [f6.start, w, cond_t (dec_t h)]; rfl
  · have s1 := sort_length _ l (Nat.le_refl _)
    have s2 := sort_length _ m (Nat.le_refl _)
    have s3 := sort_length _ (l ++ m) (Nat.le_refl _)
    have e1 : merge (sort l) (sort m) = sort (l ++ m) := merge_sort l m
    have e2 : merge (sort m) (sort l) = sort (l ++ m) := (merge_sort m l).trans (sort_of_perm List.perm_append_comm)
    have e3 : merge (sort l) [] = sort l := merge_nil' _
    have e4 : ([] ++ l) ++ m = l ++ m := by rw [List.nil_append]
    refine ⟨((sort l).length + 1) + (sort (l ++ m)).length + 1 + 1, ?_⟩
    rw [f6.start, w, cond_f (dec_f h), e4, e1, e2, e3]
    rw [test_true (dec_t hl'), test_true (dec_t hm'), test_true (dec_t (by omega)), test_true (dec_t (by omega)), test_true (dec_t (by simp [lim] <;> omega)), test_true (dec_t (by simp [lim] <;> omega)),
      test_true (dec_t (by rw [List.length_append]; omega)), test_true (dec_t (by simp <;> omega)), cond_f (bne_same _), cond_f (bne_same _), cond_f (bne_same _)]
    rw [show (0 : Int) = ((0 : Nat) : Int) from rfl, merges_loop1 _ _ _ (by rw [s3, List.length_append]; omega) _ _ 0 (by omega)]
    exact merges_loop2 (sort l) (by omega) _ 0 (by omega)

theorem orderMerges_lifted (os : Os) (started : os.Started) (H : Type) (en : TypeId × Value → H) :
    ReturnsInHanded {} Try.checked os 6 .any (Rows.orderMergesSpec.pre6 en Try.prog Try.f6 Rows.orderMergesRow.domain false) (Rows.orderMergesSpec.post en Try.prog Try.f6 false true false false) := by
  refine law_lifted (C := Try.checked) (ps := [(false, .sl TKey), (false, .sl TKey)]) (tb := 4) own6 started laidOut6 (by kernel_rfl) Try.func6 (by kernel_rfl) (by kernel_rfl) (by kernel_rfl) rfl
    (fun H ds h => by match ds, h with | [_, _], _ => rfl)
    (ChangeSpec.witness6 (enc := en) (C := Try.checked) false ⟨#[], #[.slice none 0 0, .slice none 0 0], []⟩ 8 (by kernel_rfl) (by kernel_rfl) (by kernel_rfl) (by kernel_rfl))
    fun x hx => ?_
  obtain ⟨l, m, u⟩ := x
  obtain ⟨⟨h1, _⟩, ⟨h2, _⟩, _⟩ := hx
  obtain ⟨n, hn⟩ := merges6 l m h1 h2
  refine returns_of_run (cfg := cfg6) (cfgOK_of mixed tab_ok (sort9.withSl.cons' (merge13.withSl.cons' (awake8.cons' SpecsOK.nil)))) Try.func6 (c := bodyOf Try.f6) rfl (by show 2 ≤ 99; omega) (m := n) ?_
  have e0 : run cfg6 Try.f6.ntmps Try.f6.results.toList n [.code (bodyOf Try.f6)] (enter (ivs [(false, .sl TKey), (false, .sl TKey)] (l, m, u))) = f6.go n l m := by kernel_rfl
  exact e0.trans hn

theorem orderMerges_holds : Rows.OrderMergesSaid :=
  OpenClaim.holds_of_wide 6 Try.f6 rfl rfl rfl rfl rfl rfl rfl ⟨rfl, rfl, rfl, rfl, rfl⟩ rfl rfl rfl rfl rfl (by kernel_rfl) Try.func6 (by kernel_rfl)
    (of_decide_eq_true (by kernel_rfl)) (by unfold Func.isWrapper; first | (rw [if_pos (by decide +kernel)]; kernel_rfl) | (rw [if_neg (by decide +kernel)]; exact ⟨rfl, rfl⟩))
    (fun os started H enc _ => orderMerges_lifted os started H enc)

end Go.Proofs.Ytnpncjpgihgkcaa
