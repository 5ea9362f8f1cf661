/-
  TurnOnce: a turn has each number once, wherever it begins, and who leaves in the middle finds all of it again: the law returns true for every input.
-/
import Derived.Test.YtognnacdakfekaaUO
import Derived.Test.YtognnacdakfekaaRows
namespace Go.Proofs.Ytognnacdakfekaa
open Go VE Go.ChangeShapes Go.WideShapes

theorem turnOnce_lifted (os : Os) (started : os.Started) (H : Type) (en : TypeId × Value → H) :
    ReturnsInHanded {} Try.checked os 4 .any (Rows.turnOnceSpec.pre6 en Try.prog Try.f4 Rows.turnOnceRow.domain false) (Rows.turnOnceSpec.post en Try.prog Try.f4 false true false false) := by
  refine law_lifted (C := Try.checked) (ps := [(false, (.int .i64)), (false, (.int .i64)), (false, (.int .i64))]) (tb := 4) own0 started laidOut0 (by kernel_rfl) Try.func4 (by kernel_rfl) (by kernel_rfl) (by kernel_rfl) rfl
    (fun H ds h => by match ds, h with | [_, _, _], _ => rfl)
    (ChangeSpec.witness6 (enc := en) (C := Try.checked) false ⟨#[], #[.int .i64 0, .int .i64 0, .int .i64 0], []⟩ 8 (by kernel_rfl) (by kernel_rfl) (by kernel_rfl) (by kernel_rfl))
    fun (x : Int × Int × Int × Unit) hx => ?_
  exact lOnce_R (x.1) (x.2.1) (x.2.2.1) (by
    show (fits (.int .i64) (x.1) && (fits (.int .i64) (x.2.1) && (fits (.int .i64) (x.2.2.1) && (true)))) = true
    rw [fits_of_wf (.int .i64) _ hx.1, fits_of_wf (.int .i64) _ hx.2.1, fits_of_wf (.int .i64) _ hx.2.2.1]; rfl)

theorem turnOnce_holds : Rows.TurnOnceSaid :=
  OpenClaim.holds_of_wide 4 Try.f4 rfl rfl rfl rfl rfl rfl rfl ⟨rfl, rfl, rfl, rfl, rfl⟩ rfl rfl rfl rfl rfl (by kernel_rfl) Try.func4 (by kernel_rfl)
    (of_decide_eq_true (by kernel_rfl)) (by unfold Func.isWrapper; first | (rw [if_pos (by decide +kernel)]; kernel_rfl) | (rw [if_neg (by decide +kernel)]; exact ⟨rfl, rfl⟩))
    (fun os started H enc _ => turnOnce_lifted os started H enc)

end Go.Proofs.Ytognnacdakfekaa
