/-
  SET ANEW: a timer set anew goes off but once, when it was set last; another kind's stays.
-/
import Derived.Test.YthlbiibholhkmaaCN
import Derived.Test.YthlbiibholhkmaaRows
namespace Go.Proofs.Ythlbiibholhkmaa
open Go VE Go.ChangeShapes Go.WideShapes

theorem clockAnew_lifted (os : Os) (started : os.Started) (H : Type) (en : TypeId × Value → H) :
    ReturnsInHanded {} Try.checked os 8 .any (Rows.clockAnewSpec.pre6 en Try.prog Try.f8 Rows.clockAnewRow.domain false) (Rows.clockAnewSpec.post en Try.prog Try.f8 false true false false) := by
  refine law_lifted (C := Try.checked) (ps := [(false, (.int .i64)), (false, (.int .i64)), (false, (.sl (.int .i64)))]) (tb := 4) own0 started laidOut0 (by kernel_rfl) Try.func8 (by kernel_rfl) (by kernel_rfl) (by kernel_rfl) rfl
    (fun H ds h => by match ds, h with | [_, _, _], _ => rfl)
    (ChangeSpec.witness6 (enc := en) (C := Try.checked) false ⟨#[], #[.int .i64 0, .int .i64 0, .slice none 0 0], []⟩ 8 (by kernel_rfl) (by kernel_rfl) (by kernel_rfl) (by kernel_rfl))
    fun (x : Int × Int × (List Int) × Unit) hx => ?_
  exact lAnew_R (x.1) (x.2.1) (x.2.2.1) (by
    show (fits (.int .i64) (x.1) && (fits (.int .i64) (x.2.1) && (fits (.sl (.int .i64)) (x.2.2.1) && (true)))) = true
    rw [fits_of_wf (.int .i64) _ hx.1, fits_of_wf (.int .i64) _ hx.2.1, fits_of_wf (.sl (.int .i64)) _ hx.2.2.1]; rfl)

theorem clockAnew_holds : Rows.ClockAnewSaid :=
  OpenClaim.holds_of_wide 8 Try.f8 rfl rfl rfl rfl rfl rfl rfl ⟨rfl, rfl, rfl, rfl, rfl⟩ rfl rfl rfl rfl rfl (by kernel_rfl) Try.func8 (by kernel_rfl)
    (of_decide_eq_true (by kernel_rfl)) (by unfold Func.isWrapper; first | (rw [if_pos (by decide +kernel)]; kernel_rfl) | (rw [if_neg (by decide +kernel)]; exact ⟨rfl, rfl⟩))
    (fun os started H enc _ => clockAnew_lifted os started H enc)

end Go.Proofs.Ythlbiibholhkmaa
