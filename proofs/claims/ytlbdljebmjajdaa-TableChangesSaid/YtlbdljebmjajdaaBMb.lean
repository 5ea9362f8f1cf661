/-
  Who comes and who stays are all of the one table; who goes and who stays all of the other.
-/
import Derived.Test.YtlbdljebmjajdaaBM
import Derived.Test.YtlbdljebmjajdaaRows
namespace Go.Proofs.Ytlbdljebmjajdaa
open Go VE Go.ChangeShapes Go.WideShapes

theorem tableChanges_lifted (os : Os) (started : os.Started) (H : Type) (en : TypeId × Value → H) :
    ReturnsInHanded {} Try.checked os 3 .any (Rows.tableChangesSpec.pre6 en Try.prog Try.f3 Rows.tableChangesRow.domain false) (Rows.tableChangesSpec.post en Try.prog Try.f3 false true false false) := by
  refine law_lifted (C := Try.checked) (ps := [(false, (.sl THost)), (false, (.sl THost))]) (tb := 4) own0 started laidOut0 (by kernel_rfl) Try.func3 (by kernel_rfl) (by kernel_rfl) (by kernel_rfl) rfl
    (fun H ds h => by match ds, h with | [_, _], _ => rfl)
    (ChangeSpec.witness6 (enc := en) (C := Try.checked) false ⟨#[], #[.slice none 0 0, .slice none 0 0], []⟩ 8 (by kernel_rfl) (by kernel_rfl) (by kernel_rfl) (by kernel_rfl))
    fun (x : (List (El THost)) × (List (El THost)) × Unit) hx => ?_
  exact lChanges_R (x.1) (x.2.1) (by
    show (fits (.sl THost) (x.1) && (fits (.sl THost) (x.2.1) && (true))) = true
    rw [fits_of_wf (.sl THost) _ hx.1, fits_of_wf (.sl THost) _ hx.2.1]; rfl)

theorem tableChanges_holds : Rows.TableChangesSaid :=
  OpenClaim.holds_of_wide 3 Try.f3 rfl rfl rfl rfl rfl rfl rfl ⟨rfl, rfl, rfl, rfl, rfl⟩ rfl rfl rfl rfl rfl (by kernel_rfl) Try.func3 (by kernel_rfl)
    (of_decide_eq_true (by kernel_rfl)) (by unfold Func.isWrapper; first | (rw [if_pos (by decide +kernel)]; kernel_rfl) | (rw [if_neg (by decide +kernel)]; exact ⟨rfl, rfl⟩))
    (fun os started H enc _ => tableChanges_lifted os started H enc)

end Go.Proofs.Ytlbdljebmjajdaa
