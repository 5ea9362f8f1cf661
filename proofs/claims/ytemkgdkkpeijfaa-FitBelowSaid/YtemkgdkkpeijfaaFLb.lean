/-
  A LOWER LIMIT: a lower limit leaves no more; those at it, or above, are not left.
-/
import Derived.Test.YtemkgdkkpeijfaaFL
import Derived.Test.YtemkgdkkpeijfaaRows
namespace Go.Proofs.Ytemkgdkkpeijfaa
open Go VE Go.ChangeShapes Go.WideShapes

theorem fitBelow_lifted (os : Os) (started : os.Started) (H : Type) (en : TypeId × Value → H) :
    ReturnsInHanded {} Try.checked os 7 .any (Rows.fitBelowSpec.pre6 en Try.prog Try.f7 Rows.fitBelowRow.domain false) (Rows.fitBelowSpec.post en Try.prog Try.f7 false true false false) := by
  refine law_lifted (C := Try.checked) (ps := [(false, (.sl TStatus)), (false, (.int .i64)), (false, (.int .i64))]) (tb := 4) own0 started laidOut0 (by kernel_rfl) Try.func7 (by kernel_rfl) (by kernel_rfl) (by kernel_rfl) rfl
    (fun H ds h => by match ds, h with | [_, _, _], _ => rfl)
    (ChangeSpec.witness6 (enc := en) (C := Try.checked) false ⟨#[], #[.slice none 0 0, .int .i64 0, .int .i64 0], []⟩ 8 (by kernel_rfl) (by kernel_rfl) (by kernel_rfl) (by kernel_rfl))
    fun (x : (List (El TStatus)) × Int × Int × Unit) hx => ?_
  exact lBelow_R (x.1) (x.2.1) (x.2.2.1) (by
    show (fits (.sl TStatus) (x.1) && (fits (.int .i64) (x.2.1) && (fits (.int .i64) (x.2.2.1) && (true)))) = true
    rw [fits_of_wf (.sl TStatus) _ hx.1, fits_of_wf (.int .i64) _ hx.2.1, fits_of_wf (.int .i64) _ hx.2.2.1]; rfl)

theorem fitBelow_holds : Rows.FitBelowSaid :=
  OpenClaim.holds_of_wide 7 Try.f7 rfl rfl rfl rfl rfl rfl rfl ⟨rfl, rfl, rfl, rfl, rfl⟩ rfl rfl rfl rfl rfl (by kernel_rfl) Try.func7 (by kernel_rfl)
    (of_decide_eq_true (by kernel_rfl)) (by unfold Func.isWrapper; first | (rw [if_pos (by decide +kernel)]; kernel_rfl) | (rw [if_neg (by decide +kernel)]; exact ⟨rfl, rfl⟩))
    (fun os started H enc _ => fitBelow_lifted os started H enc)

end Go.Proofs.Ytemkgdkkpeijfaa
