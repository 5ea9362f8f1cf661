/-
  LinesWrong: one byte that may not be makes an error of its line; a line that is too long does: the law returns true for every input.
-/
import Derived.Test.YtcjlebkfekfkbaaWL
import Derived.Test.YtcjlebkfekfkbaaRows
namespace Go.Proofs.Ytcjlebkfekfkbaa
open Go VE Go.ChangeShapes Go.WideShapes

theorem linesWrong_lifted (os : Os) (started : os.Started) (H : Type) (en : TypeId × Value → H) :
    ReturnsInHanded {} Try.checked os 3 .any (Rows.linesWrongSpec.pre6 en Try.prog Try.f3 Rows.linesWrongRow.domain false) (Rows.linesWrongSpec.post en Try.prog Try.f3 false true false false) := by
  refine law_lifted (C := Try.checked) (ps := [(false, (.int .i64)), (false, (.int .u8)), (false, .bool)]) (tb := 4) own0 started laidOut0 (by kernel_rfl) Try.func3 (by kernel_rfl) (by kernel_rfl) (by kernel_rfl) rfl
    (fun H ds h => by match ds, h with | [_, _, _], _ => rfl)
    (ChangeSpec.witness6 (enc := en) (C := Try.checked) false ⟨#[], #[.int .i64 0, .int .u8 0, .bool false], []⟩ 8 (by kernel_rfl) (by kernel_rfl) (by kernel_rfl) (by kernel_rfl))
    fun (x : Int × Int × Bool × Unit) hx => ?_
  exact lWrong_R (x.1) (x.2.1) (x.2.2.1) (lWrong_pre (x.1) (x.2.1) (x.2.2.1) hx)

theorem linesWrong_holds : Rows.LinesWrongSaid :=
  OpenClaim.holds_of_wide 3 Try.f3 rfl rfl rfl rfl rfl rfl rfl ⟨rfl, rfl, rfl, rfl, rfl⟩ rfl rfl rfl rfl rfl (by kernel_rfl) Try.func3 (by kernel_rfl)
    (of_decide_eq_true (by kernel_rfl)) (by unfold Func.isWrapper; first | (rw [if_pos (by decide +kernel)]; kernel_rfl) | (rw [if_neg (by decide +kernel)]; exact ⟨rfl, rfl⟩))
    (fun os started H enc _ => linesWrong_lifted os started H enc)

end Go.Proofs.Ytcjlebkfekfkbaa
