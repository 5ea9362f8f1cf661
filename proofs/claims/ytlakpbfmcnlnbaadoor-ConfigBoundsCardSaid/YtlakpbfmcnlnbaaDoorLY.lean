/-
  Configurations: at each bound.
-/
import Derived.Test.YtlakpbfmcnlnbaaDoorLX
namespace Go.Proofs.YtlakpbfmcnlnbaaDoor
open Go VE

theorem cond_both {b : Bool} {A B t : R} (hA : A = t) (hB : B = t) : cond b A B = t := by cases b <;> assumption

theorem may_at {T : El TConfig} (i : Nat) (hi : i < 23) {x : Int} (hT : T = madeC ((numsL defC).set i x) ⟨#[]⟩) (hx : nth (numsL T) i = x) : mayC T = (decide (loR i ≤ x) && decide (x ≤ hiR i)) := by
  by_cases h : loR i ≤ x ∧ x ≤ hiR i
  · rw [dec_t h.1, dec_t h.2, hT]
    exact may_good (def_good.set hi h.1 h.2)
  · have e : (decide (loR i ≤ x) && decide (x ≤ hiR i)) = false := by
      by_cases h1 : loR i ≤ x
      · rw [dec_f (fun h2 => h ⟨h1, h2⟩), Bool.and_false]
      · rw [dec_f h1]; rfl
    rw [e]
    cases hm : mayC T
    · rfl
    · have := (good_may hm).le i hi
      rw [hx] at this
      exact absurd this h

theorem parse_none : parseC ⟨#[]⟩ = (defC, 0, 0) := by
  have e : splitL ⟨#[]⟩ = ([], 0, 0) := by
    rw [splitL_eq (by decide)]
    rfl
  unfold parseC
  rw [e]
  rfl

theorem bound_case (T : El TConfig) {x lo hi : Int} (hm : mayC T = (decide (lo ≤ x) && decide (x ≤ hi))) :
    cond (decide (x ≥ lo)) (
      test (parse.pre ((textC T), Unit.unit)) (
       cond ((mayC T) == (decide (x ≤ hi))) (
        cond ((Bool.not ((ByteArray.toList (textC T)) == (ByteArray.toList (⟨#[]⟩ : ByteArray)))) == (decide (x ≤ hi))) (
         cond (Bool.not (decide (x ≤ hi))) (
          cond (decide (x ≤ hi)) (
           some ((.c (.v (.bool true))), [])) (
           cond (ceq (parseC (textC T)).1 defC) (
            some ((.c (.v (.bool true))), [])) (
            some ((.c (.v (.bool false))), [])))) (
          cond ((((parseC (textC T))).2).2 == (0 : Int)) (
           cond (ceq (parseC (textC T)).1 T) (
            cond (decide (x ≤ hi)) (
             some ((.c (.v (.bool true))), [])) (
             cond (ceq (parseC (textC T)).1 defC) (
              some ((.c (.v (.bool true))), [])) (
              some ((.c (.v (.bool false))), [])))) (
            some ((.c (.v (.bool false))), []))) (
           some ((.c (.v (.bool false))), [])))) (
         some ((.c (.v (.bool false))), []))) (
        some ((.c (.v (.bool false))), [])))) (
      test (parse.pre ((textC T), Unit.unit)) (
       cond ((mayC T) == false) (
        cond ((Bool.not ((ByteArray.toList (textC T)) == (ByteArray.toList (⟨#[]⟩ : ByteArray)))) == false) (
         cond (ceq (parseC (textC T)).1 defC) (
          some ((.c (.v (.bool true))), [])) (
          some ((.c (.v (.bool false))), []))) (
         some ((.c (.v (.bool false))), []))) (
        some ((.c (.v (.bool false))), [])))) = some (vb true, []) := by
  have be : ((⟨#[]⟩ : ByteArray).toList == (⟨#[]⟩ : ByteArray).toList) = true := beq_self_eq_true _
  rw [test_true (text_parse_pre T), test_true (text_parse_pre T)]
  by_cases h1 : lo ≤ x
  · rw [dec_t h1, Bool.true_and] at hm
    rw [cond_dt (show x ≥ lo from h1)]
    by_cases h2 : x ≤ hi
    · rw [dec_t h2] at hm ⊢
      rw [hm, text_full T hm, parse_may hm]
      dsimp only
      rw [ceq_refl]
      rfl
    · rw [dec_f h2] at hm ⊢
      have ht : textC T = ⟨#[]⟩ := by unfold textC; rw [hm]; rfl
      rw [hm, ht, parse_none]
      dsimp only
      rw [ceq_refl, be]
      rfl
  · rw [dec_f h1, Bool.false_and] at hm
    rw [cond_df (show ¬ x ≥ lo from h1)]
    have ht : textC T = ⟨#[]⟩ := by unfold textC; rw [hm]; rfl
    rw [hm, ht, parse_none]
    dsimp only
    rw [ceq_refl, be]
    rfl

theorem lBounds_R : lBounds.Law := fun w x hx => by
  refine lBounds.ret (m := 1) (awake_ok.cons' (cDef_ok.cons' (parse_ok.cons' (text_ok.cons' (cMay_ok.cons' .nil))))) w x ?_
  rw [lBounds.start]
  exact cond_both (bound_case _ (may_at 0 (by decide) rfl rfl)) (cond_both (bound_case _ (may_at 3 (by decide) rfl rfl)) (cond_both (bound_case _ (may_at 5 (by decide) rfl rfl)) (cond_both (bound_case _ (may_at 6 (by decide) rfl rfl))
    (cond_both (bound_case _ (may_at 8 (by decide) rfl rfl)) (cond_both (bound_case _ (may_at 11 (by decide) rfl rfl)) (cond_both (bound_case _ (may_at 20 (by decide) rfl rfl)) (bound_case _ (may_at 19 (by decide) rfl rfl))))))))
theorem lBounds_pre (w x : Int) (hx : wfs [(false, .int .i64), (false, .int .i64)] (w, x, ())) : lBounds.pre (w, x, ()) = true := by
  have b1 : -9223372036854775808 ≤ w ∧ w ≤ 9223372036854775807 := hx.1
  have b2 : -9223372036854775808 ≤ x ∧ x ≤ 9223372036854775807 := hx.2.1
  show (true && (true && (decide (-9223372036854775808 ≤ w ∧ w ≤ 9223372036854775807 ∧ -9223372036854775808 ≤ x ∧ x ≤ 9223372036854775807) && true))) = true
  rw [dec_t ⟨b1.1, b1.2, b2.1, b2.2⟩]; rfl

end Go.Proofs.YtlakpbfmcnlnbaaDoor
