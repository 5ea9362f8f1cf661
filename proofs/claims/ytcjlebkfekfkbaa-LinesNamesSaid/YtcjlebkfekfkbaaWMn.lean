/-
  LinesNames: names at their bound may be, beyond it not; a byte of another kind makes none; a sign alone is none: the law returns true for every input.
-/
import Derived.Test.YtcjlebkfekfkbaaWM
import Derived.Test.YtcjlebkfekfkbaaRows
namespace Go.Proofs.Ytcjlebkfekfkbaa
open Go VE Go.ChangeShapes Go.WideShapes

theorem linesNames_lifted (os : Os) (started : os.Started) (H : Type) (en : TypeId × Value → H) :
    ReturnsInHanded {} Try.checked os 5 .any (Rows.linesNamesSpec.pre6 en Try.prog Try.f5 Rows.linesNamesRow.domain false) (Rows.linesNamesSpec.post en Try.prog Try.f5 false true false false) := by
  refine law_lifted (C := Try.checked) (ps := [(false, (.int .i64)), (false, (.int .u8))]) (tb := 4) own0 started laidOut0 (by kernel_rfl) Try.func5 (by kernel_rfl) (by kernel_rfl) (by kernel_rfl) rfl
    (fun H ds h => by match ds, h with | [_, _], _ => rfl)
    (ChangeSpec.witness6 (enc := en) (C := Try.checked) false ⟨#[], #[.int .i64 0, .int .u8 0], []⟩ 8 (by kernel_rfl) (by kernel_rfl) (by kernel_rfl) (by kernel_rfl))
    fun (x : Int × Int × Unit) hx => ?_
  exact lNames_R (x.1) (x.2.1) (lNames_pre (x.1) (x.2.1) hx)

theorem linesNames_holds : Rows.LinesNamesSaid :=
  OpenClaim.holds_of_wide 5 Try.f5 rfl rfl rfl rfl rfl rfl rfl ⟨rfl, rfl, rfl, rfl, rfl⟩ rfl rfl rfl rfl rfl (by kernel_rfl) Try.func5 (by kernel_rfl)
    (of_decide_eq_true (by kernel_rfl)) (by unfold Func.isWrapper; first | (rw [if_pos (by decide +kernel)]; kernel_rfl) | (rw [if_neg (by decide +kernel)]; exact ⟨rfl, rfl⟩))
    (fun os started H enc _ => linesNames_lifted os started H enc)

end Go.Proofs.Ytcjlebkfekfkbaa
