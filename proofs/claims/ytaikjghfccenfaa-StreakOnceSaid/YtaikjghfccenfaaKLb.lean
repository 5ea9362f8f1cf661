/-
  Answers that are ok never say yes; so many failures in a row do, once.
-/
import Derived.Test.YtaikjghfccenfaaKL
import Derived.Test.YtaikjghfccenfaaChecked
import Derived.Test.YtaikjghfccenfaaRows
namespace Go.Proofs.Ytaikjghfccenfaa
open Go VE Go.ChangeShapes Go.WideShapes

theorem streakOnce_lifted (os : Os) (started : os.Started) (H : Type) (en : TypeId × Value → H) :
    ReturnsInHanded {} Try.checked os 4 .any (Rows.streakOnceSpec.pre6 en Try.prog Try.f4 Rows.streakOnceRow.domain false) (Rows.streakOnceSpec.post en Try.prog Try.f4 false true false false) := by
  refine law_lifted (C := Try.checked) (ps := [(true, TConfig), (false, (.int .i64)), (false, (.int .i64))]) (tb := 4) own0 started laidOut0 (by kernel_rfl) Try.func4 (by kernel_rfl) (by kernel_rfl) (by kernel_rfl) rfl
    (fun H ds h => by match ds, h with | [_, _, _], _ => rfl)
    (ChangeSpec.witness6 (enc := en) (C := Try.checked) false ⟨#[], #[.agg #[(.int .i64 0), (.int .i64 0), (.int .i64 0), (.int .i64 0), (.int .i64 0), (.int .i64 0), (.int .i64 0), (.int .i64 0), (.int .i64 0), (.int .i64 0), (.int .i64 0), (.int .i64 0), (.int .i64 0), (.int .i64 0), (.int .i64 0), (.bool false), (.int .i64 0), (.int .i64 0), (.int .i64 0), (.int .i64 0), (.int .i64 0), (.string ⟨#[]⟩), (.bool false)], .int .i64 0, .int .i64 0], []⟩ 8 (by kernel_rfl) (by kernel_rfl) (by kernel_rfl) (by kernel_rfl))
    fun (x : (El TConfig) × Int × Int × Unit) hx => ?_
  exact lOnce_R (x.1) (x.2.1) (x.2.2.1) (by
    show (fits TConfig (x.1) && (fits (.int .i64) (x.2.1) && (fits (.int .i64) (x.2.2.1) && (true)))) = true
    rw [fits_of_wf TConfig _ hx.1, fits_of_wf (.int .i64) _ hx.2.1, fits_of_wf (.int .i64) _ hx.2.2.1]; rfl)

theorem streakOnce_holds : Rows.StreakOnceSaid :=
  OpenClaim.holds_of_wide 4 Try.f4 rfl rfl rfl rfl rfl rfl rfl ⟨rfl, rfl, rfl, rfl, rfl⟩ rfl rfl rfl rfl rfl (by kernel_rfl) Try.func4 (by kernel_rfl)
    (of_decide_eq_true (by kernel_rfl)) (by unfold Func.isWrapper; first | (rw [if_pos (by decide +kernel)]; kernel_rfl) | (rw [if_neg (by decide +kernel)]; exact ⟨rfl, rfl⟩))
    (fun os started H enc _ => streakOnce_lifted os started H enc)

end Go.Proofs.Ytaikjghfccenfaa
