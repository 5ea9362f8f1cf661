/-
  THERE IS NO CLOCK: whatever is asked of a clock that there isn't answers as the law says.
-/
import Derived.Test.YthlbiibholhkmaaCL
import Derived.Test.YthlbiibholhkmaaRows
namespace Go.Proofs.Ythlbiibholhkmaa
open Go VE Go.ChangeShapes Go.WideShapes

theorem clockNil_lifted (os : Os) (started : os.Started) (H : Type) (en : TypeId × Value → H) :
    ReturnsInHanded {} Try.checked os 6 .any (Rows.clockNilSpec.pre6 en Try.prog Try.f6 Rows.clockNilRow.domain false) (Rows.clockNilSpec.post en Try.prog Try.f6 false true false false) := by
  refine law_lifted (C := Try.checked) (ps := [(true, (.prod (.int .i64) TTimer))]) (tb := 4) own0 started laidOut0 (by kernel_rfl) Try.func6 (by kernel_rfl) (by kernel_rfl) (by kernel_rfl) rfl
    (fun H ds h => by match ds, h with | [_], _ => rfl)
    (ChangeSpec.witness6 (enc := en) (C := Try.checked) false ⟨#[], #[.agg #[(.int .i64 0), (.int .i64 0), (.int .i64 0), (.int .i64 0)]], []⟩ 8 (by kernel_rfl) (by kernel_rfl) (by kernel_rfl) (by kernel_rfl))
    fun (x : (Int × (El TTimer)) × Unit) hx => ?_
  exact lNil_R (x.1) (by
    show (fits (.prod (.int .i64) TTimer) (x.1) && (true)) = true
    rw [fits_of_wf (.prod (.int .i64) TTimer) _ hx.1]; rfl)

theorem clockNil_holds : Rows.ClockNilSaid :=
  OpenClaim.holds_of_wide 6 Try.f6 rfl rfl rfl rfl rfl rfl rfl ⟨rfl, rfl, rfl, rfl, rfl⟩ rfl rfl rfl rfl rfl (by kernel_rfl) Try.func6 (by kernel_rfl)
    (of_decide_eq_true (by kernel_rfl)) (by unfold Func.isWrapper; first | (rw [if_pos (by decide +kernel)]; kernel_rfl) | (rw [if_neg (by decide +kernel)]; exact ⟨rfl, rfl⟩))
    (fun os started H enc _ => clockNil_lifted os started H enc)

end Go.Proofs.Ythlbiibholhkmaa
