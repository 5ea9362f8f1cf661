/-
  'OrderLess' is true of whatever three keys.
-/
import Derived.Test.YtnpncjpgihgkcaaC
import Derived.Test.YtnpncjpgihgkcaaRows
namespace Go.Proofs.Ytnpncjpgihgkcaa
open Go VE Go.ChangeShapes Go.WideShapes

theorem own0 : ownKnob Try.prog.godebug = none := by kernel_rfl
theorem laidOut0 : laidOutB Try.prog = true := by kernel_rfl

theorem less_irr (a : Int × Int) : less a a = false := by simp [less]

theorem less_iff (a b : Int × Int) : less a b = true ↔ a.1 < b.1 ∨ (a.1 = b.1 ∧ a.2 < b.2) := by simp [less]

theorem less_trans {a b c : Int × Int} (h1 : less a b = true) (h2 : less b c = true) : less a c = true := by
  rw [less_iff] at *
  omega

theorem less_tot {a b : Int × Int} (h : ¬ (a.1 = b.1 ∧ a.2 = b.2)) : (less a b == less b a) = false := by
  have h1 := less_iff a b
  have h2 := less_iff b a
  cases h3 : less a b <;> cases h4 : less b a
  · rw [h3] at h1; rw [h4] at h2
    simp at h1 h2
    exfalso
    omega
  · rfl
  · rfl
  · rw [h3] at h1; rw [h4] at h2
    simp at h1 h2
    exfalso
    omega

theorem less7 (a b c d e f : Int) : f7.go 1 a b c d e f = some (vb true, []) := by
  rw [f7.start, cond_f (less_irr _)]
  have tail : (cond (Bool.not (less (a, b) (c, d))) (some ((.c (.v (.bool true))), [])) (cond (Bool.not (less (c, d) (e, f))) (some ((.c (.v (.bool true))), [])) (cond (less (a, b) (e, f)) (some ((.c (.v (.bool true))), [])) (some ((.c (.v (.bool false))), [])))) : R) = some (vb true, []) := by
    cases h1 : less (a, b) (c, d) with
    | false => rfl
    | true =>
      cases h2 : less (c, d) (e, f) with
      | false => rfl
      | true => rw [less_trans h1 h2]; rfl
  rw [tail]
  cases h : (a == c) && ((b == d) && true) with
  | true => rfl
  | false =>
    rw [less_tot (by simpa using h)]
    rfl

theorem orderLess_lifted (os : Os) (started : os.Started) (H : Type) (en : TypeId × Value → H) :
    ReturnsInHanded {} Try.checked os 7 .any (Rows.orderLessSpec.pre6 en Try.prog Try.f7 Rows.orderLessRow.domain false) (Rows.orderLessSpec.post en Try.prog Try.f7 false true false false) := by
  refine law_lifted (C := Try.checked) (ps := [(true, TKey), (true, TKey), (true, TKey)]) (tb := 4) own0 started laidOut0 (by kernel_rfl) Try.func7 (by kernel_rfl) (by kernel_rfl) (by kernel_rfl) rfl
    (fun H ds h => by match ds, h with | [_, _, _], _ => rfl)
    (ChangeSpec.witness6 (enc := en) (C := Try.checked) false ⟨#[], #[.agg #[.int .i64 0, .int .i64 0], .agg #[.int .i64 0, .int .i64 0], .agg #[.int .i64 0, .int .i64 0]], []⟩ 8 (by kernel_rfl) (by kernel_rfl) (by kernel_rfl) (by kernel_rfl))
    fun x w => ?_
  obtain ⟨⟨a, b⟩, ⟨c, d⟩, ⟨e, f⟩, _⟩ := x
  refine returns_of_run (cfg := cfg7) (cfgOK_of mixed tab_ok (less16.cons' (awake8.cons' SpecsOK.nil))) Try.func7 (c := bodyOf Try.f7) rfl (by show 3 ≤ 42; omega) (m := 1) ?_
  have e0 : run cfg7 Try.f7.ntmps Try.f7.results.toList 1 [.code (bodyOf Try.f7)] (enter (ivs [(true, TKey), (true, TKey), (true, TKey)] ((a, b), (c, d), (e, f), ()))) = f7.go 1 a b c d e f := by kernel_rfl
  exact e0.trans (less7 a b c d e f)

theorem orderLess_holds : Rows.OrderLessSaid :=
  OpenClaim.holds_of_wide 7 Try.f7 rfl rfl rfl rfl rfl rfl rfl ⟨rfl, rfl, rfl, rfl, rfl⟩ rfl rfl rfl rfl rfl (by kernel_rfl) Try.func7 (by kernel_rfl)
    (of_decide_eq_true (by kernel_rfl)) (by unfold Func.isWrapper; first | (rw [if_pos (by decide +kernel)]; kernel_rfl) | (rw [if_neg (by decide +kernel)]; exact ⟨rfl, rfl⟩))
    (fun os started H enc _ => orderLess_lifted os started H enc)

end Go.Proofs.Ytnpncjpgihgkcaa
