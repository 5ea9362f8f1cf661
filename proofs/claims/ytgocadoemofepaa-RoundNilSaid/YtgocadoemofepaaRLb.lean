/-
  A wheel that there isn't; rows that may not be change nothing.
-/
import Derived.Test.YtgocadoemofepaaRL
import Derived.Test.YtgocadoemofepaaChecked
import Derived.Test.YtgocadoemofepaaRows
namespace Go.Proofs.Ytgocadoemofepaa
open Go VE Go.ChangeShapes Go.WideShapes

theorem roundNil_lifted (os : Os) (started : os.Started) (H : Type) (en : TypeId × Value → H) :
    ReturnsInHanded {} Try.checked os 6 .any (Rows.roundNilSpec.pre6 en Try.prog Try.f6 Rows.roundNilRow.domain false) (Rows.roundNilSpec.post en Try.prog Try.f6 false true false false) := by
  refine law_lifted (C := Try.checked) (ps := [(false, (.sl TShare))]) (tb := 4) own0 started laidOut0 (by kernel_rfl) Try.func6 (by kernel_rfl) (by kernel_rfl) (by kernel_rfl) rfl
    (fun H ds h => by match ds, h with | [_], _ => rfl)
    (ChangeSpec.witness6 (enc := en) (C := Try.checked) false ⟨#[], #[.slice none 0 0], []⟩ 8 (by kernel_rfl) (by kernel_rfl) (by kernel_rfl) (by kernel_rfl))
    fun (x : (List (El TShare)) × Unit) hx => ?_
  exact lNil_R (x.1) (by
    show (fits (.sl TShare) (x.1) && (true)) = true
    rw [fits_of_wf (.sl TShare) _ hx.1]; rfl)

theorem roundNil_holds : Rows.RoundNilSaid :=
  OpenClaim.holds_of_wide 6 Try.f6 rfl rfl rfl rfl rfl rfl rfl ⟨rfl, rfl, rfl, rfl, rfl⟩ rfl rfl rfl rfl rfl (by kernel_rfl) Try.func6 (by kernel_rfl)
    (of_decide_eq_true (by kernel_rfl)) (by unfold Func.isWrapper; first | (rw [if_pos (by decide +kernel)]; kernel_rfl) | (rw [if_neg (by decide +kernel)]; exact ⟨rfl, rfl⟩))
    (fun os started H enc _ => roundNil_lifted os started H enc)

end Go.Proofs.Ytgocadoemofepaa
