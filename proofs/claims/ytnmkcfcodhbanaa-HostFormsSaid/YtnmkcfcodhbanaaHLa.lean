/-
  'HostForms' is true of whatever two hosts and subset.
-/
import Derived.Test.YtnmkcfcodhbanaaHL
import Derived.Test.YtnmkcfcodhbanaaRows
namespace Go.Proofs.Ytnmkcfcodhbanaa
open Go VE Go.ChangeShapes Go.WideShapes

theorem hostForms_lifted (os : Os) (started : os.Started) (H : Type) (en : TypeId × Value → H) :
    ReturnsInHanded {} Try.checked os 3 .any (Rows.hostFormsSpec.pre6 en Try.prog Try.f3 Rows.hostFormsRow.domain false) (Rows.hostFormsSpec.post en Try.prog Try.f3 false true false false) := by
  refine law_lifted (C := Try.checked) (ps := [(true, THost), (true, THost), (false, (.sl TPair))]) (tb := 4) own0 started laidOut0 (by kernel_rfl) Try.func3 (by kernel_rfl) (by kernel_rfl) (by kernel_rfl) rfl
    (fun H ds h => by match ds, h with | [_, _, _], _ => rfl)
    (ChangeSpec.witness6 (enc := en) (C := Try.checked) false ⟨#[], #[.agg #[(.int .i64 0), (.string ⟨#[]⟩), (.int .i64 0), (.string ⟨#[]⟩), (.int .i64 0), (.slice none 0 0)], .agg #[(.int .i64 0), (.string ⟨#[]⟩), (.int .i64 0), (.string ⟨#[]⟩), (.int .i64 0), (.slice none 0 0)], .slice none 0 0], []⟩ 8 (by kernel_rfl) (by kernel_rfl) (by kernel_rfl) (by kernel_rfl))
    fun (x : (El THost) × (El THost) × (List (El TPair)) × Unit) hx => ?_
  exact lForms_R (x.1) (x.2.1) (x.2.2.1) (by
    show (fits THost (x.1) && (fits THost (x.2.1) && (fits (.sl TPair) (x.2.2.1) && (true)))) = true
    rw [fits_of_wf THost _ hx.1, fits_of_wf THost _ hx.2.1, fits_of_wf (.sl TPair) _ hx.2.2.1]; rfl)

theorem hostForms_holds : Rows.HostFormsSaid :=
  OpenClaim.holds_of_wide 3 Try.f3 rfl rfl rfl rfl rfl rfl rfl ⟨rfl, rfl, rfl, rfl, rfl⟩ rfl rfl rfl rfl rfl (by kernel_rfl) Try.func3 (by kernel_rfl)
    (of_decide_eq_true (by kernel_rfl)) (by unfold Func.isWrapper; first | (rw [if_pos (by decide +kernel)]; kernel_rfl) | (rw [if_neg (by decide +kernel)]; exact ⟨rfl, rfl⟩))
    (fun os started H enc _ => hostForms_lifted os started H enc)

end Go.Proofs.Ytnmkcfcodhbanaa
