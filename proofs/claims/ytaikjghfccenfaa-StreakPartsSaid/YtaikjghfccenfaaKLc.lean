/-
  Answers in two parts are as in one.
-/
import Derived.Test.YtaikjghfccenfaaKL
import Derived.Test.YtaikjghfccenfaaChecked
import Derived.Test.YtaikjghfccenfaaRows
namespace Go.Proofs.Ytaikjghfccenfaa
open Go VE Go.ChangeShapes Go.WideShapes

theorem streakParts_lifted (os : Os) (started : os.Started) (H : Type) (en : TypeId × Value → H) :
    ReturnsInHanded {} Try.checked os 5 .any (Rows.streakPartsSpec.pre6 en Try.prog Try.f5 Rows.streakPartsRow.domain false) (Rows.streakPartsSpec.post en Try.prog Try.f5 false true false false) := by
  refine law_lifted (C := Try.checked) (ps := [(true, TConfig), (false, (.int .i64)), (false, (.sl .bool)), (false, (.int .i64))]) (tb := 4) own0 started laidOut0 (by kernel_rfl) Try.func5 (by kernel_rfl) (by kernel_rfl) (by kernel_rfl) rfl
    (fun H ds h => by match ds, h with | [_, _, _, _], _ => rfl)
    (ChangeSpec.witness6 (enc := en) (C := Try.checked) false ⟨#[], #[.agg #[(.int .i64 0), (.int .i64 0), (.int .i64 0), (.int .i64 0), (.int .i64 0), (.int .i64 0), (.int .i64 0), (.int .i64 0), (.int .i64 0), (.int .i64 0), (.int .i64 0), (.int .i64 0), (.int .i64 0), (.int .i64 0), (.int .i64 0), (.bool false), (.int .i64 0), (.int .i64 0), (.int .i64 0), (.int .i64 0), (.int .i64 0), (.string ⟨#[]⟩), (.bool false)], .int .i64 0, .slice none 0 0, .int .i64 0], []⟩ 8 (by kernel_rfl) (by kernel_rfl) (by kernel_rfl) (by kernel_rfl))
    fun (x : (El TConfig) × Int × (List Bool) × Int × Unit) hx => ?_
  exact lParts_R (x.1) (x.2.1) (x.2.2.1) (x.2.2.2.1) (by
    show (fits TConfig (x.1) && (fits (.int .i64) (x.2.1) && (fits (.sl .bool) (x.2.2.1) && (fits (.int .i64) (x.2.2.2.1) && (true))))) = true
    rw [fits_of_wf TConfig _ hx.1, fits_of_wf (.int .i64) _ hx.2.1, fits_of_wf (.sl .bool) _ hx.2.2.1, fits_of_wf (.int .i64) _ hx.2.2.2.1]; rfl)

theorem streakParts_holds : Rows.StreakPartsSaid :=
  OpenClaim.holds_of_wide 5 Try.f5 rfl rfl rfl rfl rfl rfl rfl ⟨rfl, rfl, rfl, rfl, rfl⟩ rfl rfl rfl rfl rfl (by kernel_rfl) Try.func5 (by kernel_rfl)
    (of_decide_eq_true (by kernel_rfl)) (by unfold Func.isWrapper; first | (rw [if_pos (by decide +kernel)]; kernel_rfl) | (rw [if_neg (by decide +kernel)]; exact ⟨rfl, rfl⟩))
    (fun os started H enc _ => streakParts_lifted os started H enc)

end Go.Proofs.Ytaikjghfccenfaa
