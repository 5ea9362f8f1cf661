/-
  LinesNumbers: numbers are read as they are written, and none otherwise: the law returns true for every input.
-/
import Derived.Test.YtcjlebkfekfkbaaWN
import Derived.Test.YtcjlebkfekfkbaaRows
namespace Go.Proofs.Ytcjlebkfekfkbaa
open Go VE Go.ChangeShapes Go.WideShapes

theorem linesNumbers_lifted (os : Os) (started : os.Started) (H : Type) (en : TypeId × Value → H) :
    ReturnsInHanded {} Try.checked os 4 .any (Rows.linesNumbersSpec.pre6 en Try.prog Try.f4 Rows.linesNumbersRow.domain false) (Rows.linesNumbersSpec.post en Try.prog Try.f4 false true false false) := by
  refine law_lifted (C := Try.checked) (ps := [(false, (.int .i64))]) (tb := 4) own0 started laidOut0 (by kernel_rfl) Try.func4 (by kernel_rfl) (by kernel_rfl) (by kernel_rfl) rfl
    (fun H ds h => by match ds, h with | [_], _ => rfl)
    (ChangeSpec.witness6 (enc := en) (C := Try.checked) false ⟨#[], #[.int .i64 0], []⟩ 8 (by kernel_rfl) (by kernel_rfl) (by kernel_rfl) (by kernel_rfl))
    fun (x : Int × Unit) hx => ?_
  exact lNumbers_R (x.1) (by
    show (fits (.int .i64) (x.1) && (true)) = true
    rw [fits_of_wf (.int .i64) _ hx.1]; rfl)

theorem linesNumbers_holds : Rows.LinesNumbersSaid :=
  OpenClaim.holds_of_wide 4 Try.f4 rfl rfl rfl rfl rfl rfl rfl ⟨rfl, rfl, rfl, rfl, rfl⟩ rfl rfl rfl rfl rfl (by kernel_rfl) Try.func4 (by kernel_rfl)
    (of_decide_eq_true (by kernel_rfl)) (by unfold Func.isWrapper; first | (rw [if_pos (by decide +kernel)]; kernel_rfl) | (rw [if_neg (by decide +kernel)]; exact ⟨rfl, rfl⟩))
    (fun os started H enc _ => linesNumbers_lifted os started H enc)

end Go.Proofs.Ytcjlebkfekfkbaa
