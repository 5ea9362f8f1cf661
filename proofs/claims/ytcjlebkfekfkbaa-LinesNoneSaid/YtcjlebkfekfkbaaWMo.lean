/-
  LinesNone: lines without words are none; blanks more change nothing; numbers of lines are where they stand: the law returns true for every input.
-/
import Derived.Test.YtcjlebkfekfkbaaWM
import Derived.Test.YtcjlebkfekfkbaaRows
namespace Go.Proofs.Ytcjlebkfekfkbaa
open Go VE Go.ChangeShapes Go.WideShapes

theorem linesNone_lifted (os : Os) (started : os.Started) (H : Type) (en : TypeId × Value → H) :
    ReturnsInHanded {} Try.checked os 6 .any (Rows.linesNoneSpec.pre6 en Try.prog Try.f6 Rows.linesNoneRow.domain false) (Rows.linesNoneSpec.post en Try.prog Try.f6 false true false false) := by
  refine law_lifted (C := Try.checked) (ps := [(false, (.sl (.int .i64))), (false, (.int .i64))]) (tb := 4) own0 started laidOut0 (by kernel_rfl) Try.func6 (by kernel_rfl) (by kernel_rfl) (by kernel_rfl) rfl
    (fun H ds h => by match ds, h with | [_, _], _ => rfl)
    (ChangeSpec.witness6 (enc := en) (C := Try.checked) false ⟨#[], #[.slice none 0 0, .int .i64 0], []⟩ 8 (by kernel_rfl) (by kernel_rfl) (by kernel_rfl) (by kernel_rfl))
    fun (x : (List Int) × Int × Unit) hx => ?_
  exact lNone_R (x.1) (x.2.1) (by
    show (fits (.sl (.int .i64)) (x.1) && (fits (.int .i64) (x.2.1) && (true))) = true
    rw [fits_of_wf (.sl (.int .i64)) _ hx.1, fits_of_wf (.int .i64) _ hx.2.1]; rfl)

theorem linesNone_holds : Rows.LinesNoneSaid :=
  OpenClaim.holds_of_wide 6 Try.f6 rfl rfl rfl rfl rfl rfl rfl ⟨rfl, rfl, rfl, rfl, rfl⟩ rfl rfl rfl rfl rfl (by kernel_rfl) Try.func6 (by kernel_rfl)
    (of_decide_eq_true (by kernel_rfl)) (by unfold Func.isWrapper; first | (rw [if_pos (by decide +kernel)]; kernel_rfl) | (rw [if_neg (by decide +kernel)]; exact ⟨rfl, rfl⟩))
    (fun os started H enc _ => linesNone_lifted os started H enc)

end Go.Proofs.Ytcjlebkfekfkbaa
