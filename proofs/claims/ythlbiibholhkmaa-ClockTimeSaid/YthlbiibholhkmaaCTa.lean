/-
  TIME GOES ON: at any calls the time never goes back, is never beyond the last, and no timer is past.
-/
import Derived.Test.YthlbiibholhkmaaCT
import Derived.Test.YthlbiibholhkmaaRows
namespace Go.Proofs.Ythlbiibholhkmaa
open Go VE Go.ChangeShapes Go.WideShapes

theorem clockTime_lifted (os : Os) (started : os.Started) (H : Type) (en : TypeId × Value → H) :
    ReturnsInHanded {} Try.checked os 3 .any (Rows.clockTimeSpec.pre6 en Try.prog Try.f3 Rows.clockTimeRow.domain false) (Rows.clockTimeSpec.post en Try.prog Try.f3 false true false false) := by
  refine law_lifted (C := Try.checked) (ps := [(false, (.sl (.prod (.int .i64) TTimer)))]) (tb := 4) own0 started laidOut0 (by kernel_rfl) Try.func3 (by kernel_rfl) (by kernel_rfl) (by kernel_rfl) rfl
    (fun H ds h => by match ds, h with | [_], _ => rfl)
    (ChangeSpec.witness6 (enc := en) (C := Try.checked) false ⟨#[], #[.slice none 0 0], []⟩ 8 (by kernel_rfl) (by kernel_rfl) (by kernel_rfl) (by kernel_rfl))
    fun (x : (List (Int × (El TTimer))) × Unit) hx => ?_
  exact lTime_R (x.1) (by
    show (fits (.sl (.prod (.int .i64) TTimer)) (x.1) && (true)) = true
    rw [fits_of_wf (.sl (.prod (.int .i64) TTimer)) _ hx.1]; rfl)

theorem clockTime_holds : Rows.ClockTimeSaid :=
  OpenClaim.holds_of_wide 3 Try.f3 rfl rfl rfl rfl rfl rfl rfl ⟨rfl, rfl, rfl, rfl, rfl⟩ rfl rfl rfl rfl rfl (by kernel_rfl) Try.func3 (by kernel_rfl)
    (of_decide_eq_true (by kernel_rfl)) (by unfold Func.isWrapper; first | (rw [if_pos (by decide +kernel)]; kernel_rfl) | (rw [if_neg (by decide +kernel)]; exact ⟨rfl, rfl⟩))
    (fun os started H enc _ => clockTime_lifted os started H enc)

end Go.Proofs.Ythlbiibholhkmaa
