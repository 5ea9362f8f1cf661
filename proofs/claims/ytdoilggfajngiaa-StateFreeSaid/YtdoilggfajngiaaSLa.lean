/-
  'StateFree' is true of whatever states.
-/
import Derived.Test.YtdoilggfajngiaaSL
import Derived.Test.YtdoilggfajngiaaRows
namespace Go.Proofs.Ytdoilggfajngiaa
open Go VE Go.ChangeShapes Go.WideShapes

theorem stateFree_lifted (os : Os) (started : os.Started) (H : Type) (en : TypeId × Value → H) :
    ReturnsInHanded {} Try.checked os 3 .any (Rows.stateFreeSpec.pre6 en Try.prog Try.f3 Rows.stateFreeRow.domain false) (Rows.stateFreeSpec.post en Try.prog Try.f3 false true false false) := by
  refine law_lifted (C := Try.checked) (ps := [(false, (.sl TStatus))]) (tb := 4) own0 started laidOut0 (by kernel_rfl) Try.func3 (by kernel_rfl) (by kernel_rfl) (by kernel_rfl) rfl
    (fun H ds h => by match ds, h with | [_], _ => rfl)
    (ChangeSpec.witness6 (enc := en) (C := Try.checked) false ⟨#[], #[.slice none 0 0], []⟩ 8 (by kernel_rfl) (by kernel_rfl) (by kernel_rfl) (by kernel_rfl))
    fun (x : (List (El TStatus)) × Unit) hx => ?_
  exact lFree_R (x.1) (by
    show (fits (.sl TStatus) (x.1) && (true)) = true
    rw [fits_of_wf (.sl TStatus) _ hx.1]; rfl)

theorem stateFree_holds : Rows.StateFreeSaid :=
  OpenClaim.holds_of_wide 3 Try.f3 rfl rfl rfl rfl rfl rfl rfl ⟨rfl, rfl, rfl, rfl, rfl⟩ rfl rfl rfl rfl rfl (by kernel_rfl) Try.func3 (by kernel_rfl)
    (of_decide_eq_true (by kernel_rfl)) (by unfold Func.isWrapper; first | (rw [if_pos (by decide +kernel)]; kernel_rfl) | (rw [if_neg (by decide +kernel)]; exact ⟨rfl, rfl⟩))
    (fun os started H enc _ => stateFree_lifted os started H enc)

end Go.Proofs.Ytdoilggfajngiaa
