/-
  SUMS: where each stands is nought together, always; nobody waits for more turns than there are.
-/
import Derived.Test.YtgocadoemofepaaRO
import Derived.Test.YtgocadoemofepaaRows
namespace Go.Proofs.Ytgocadoemofepaa
open Go VE Go.ChangeShapes Go.WideShapes

theorem roundSums_lifted (os : Os) (started : os.Started) (H : Type) (en : TypeId × Value → H) :
    ReturnsInHanded {} Try.checked os 5 .any (Rows.roundSumsSpec.pre6 en Try.prog Try.f5 Rows.roundSumsRow.domain false) (Rows.roundSumsSpec.post en Try.prog Try.f5 false true false false) := by
  refine law_lifted (C := Try.checked) (ps := [(false, (.sl (.int .i64))), (false, (.sl (.int .i64))), (false, (.int .i64))]) (tb := 4) own0 started laidOut0 (by kernel_rfl) Try.func5 (by kernel_rfl) (by kernel_rfl) (by kernel_rfl) rfl
    (fun H ds h => by match ds, h with | [_, _, _], _ => rfl)
    (ChangeSpec.witness6 (enc := en) (C := Try.checked) false ⟨#[], #[.slice none 0 0, .slice none 0 0, .int .i64 0], []⟩ 8 (by kernel_rfl) (by kernel_rfl) (by kernel_rfl) (by kernel_rfl))
    fun (x : (List Int) × (List Int) × Int × Unit) hx => ?_
  exact lSums_R (x.1) (x.2.1) (x.2.2.1) (by
    show (fits (.sl (.int .i64)) (x.1) && (fits (.sl (.int .i64)) (x.2.1) && (fits (.int .i64) (x.2.2.1) && (true)))) = true
    rw [fits_of_wf (.sl (.int .i64)) _ hx.1, fits_of_wf (.sl (.int .i64)) _ hx.2.1, fits_of_wf (.int .i64) _ hx.2.2.1]; rfl)

theorem roundSums_holds : Rows.RoundSumsSaid :=
  OpenClaim.holds_of_wide 5 Try.f5 rfl rfl rfl rfl rfl rfl rfl ⟨rfl, rfl, rfl, rfl, rfl⟩ rfl rfl rfl rfl rfl (by kernel_rfl) Try.func5 (by kernel_rfl)
    (of_decide_eq_true (by kernel_rfl)) (by unfold Func.isWrapper; first | (rw [if_pos (by decide +kernel)]; kernel_rfl) | (rw [if_neg (by decide +kernel)]; exact ⟨rfl, rfl⟩))
    (fun os started H enc _ => roundSums_lifted os started H enc)

end Go.Proofs.Ytgocadoemofepaa
