/-
  'StateForms' is true of whatever states, host and numbers.
-/
import Derived.Test.YtdoilggfajngiaaSM
import Derived.Test.YtdoilggfajngiaaRows
namespace Go.Proofs.Ytdoilggfajngiaa
open Go VE Go.ChangeShapes Go.WideShapes

theorem stateForms_lifted (os : Os) (started : os.Started) (H : Type) (en : TypeId × Value → H) :
    ReturnsInHanded {} Try.checked os 7 .any (Rows.stateFormsSpec.pre6 en Try.prog Try.f7 Rows.stateFormsRow.domain false) (Rows.stateFormsSpec.post en Try.prog Try.f7 false true false false) := by
  refine law_lifted (C := Try.checked) (ps := [(false, (.sl TStatus)), (false, (.sl TStatus)), (true, TStatus), (true, THost), (false, (.int .i64)), (false, (.int .i64))]) (tb := 4) own0 started laidOut0 (by kernel_rfl) Try.func7 (by kernel_rfl) (by kernel_rfl) (by kernel_rfl) rfl
    (fun H ds h => by match ds, h with | [_, _, _, _, _, _], _ => rfl)
    (ChangeSpec.witness6 (enc := en) (C := Try.checked) false ⟨#[], #[.slice none 0 0, .slice none 0 0, .agg #[(.int .i64 0), (.string ⟨#[]⟩), (.int .i64 0), (.string ⟨#[]⟩), (.int .i64 0), (.slice none 0 0), (.bool false), (.int .i64 0), (.int .i64 0), (.int .i64 0), (.int .i64 0), (.int .i64 0), (.int .i64 0), (.bool false), (.int .i64 0), (.int .i64 0), (.int .i64 0), (.bool false), (.int .i64 0), (.int .i64 0), (.int .i64 0)], .agg #[(.int .i64 0), (.string ⟨#[]⟩), (.int .i64 0), (.string ⟨#[]⟩), (.int .i64 0), (.slice none 0 0)], .int .i64 0, .int .i64 0], []⟩ 8 (by kernel_rfl) (by kernel_rfl) (by kernel_rfl) (by kernel_rfl))
    fun (x : (List (El TStatus)) × (List (El TStatus)) × (El TStatus) × (El THost) × Int × Int × Unit) hx => ?_
  exact lForms_R (x.1) (x.2.1) (x.2.2.1) (x.2.2.2.1) (x.2.2.2.2.1) (x.2.2.2.2.2.1) (by
    show (fits (.sl TStatus) (x.1) && (fits (.sl TStatus) (x.2.1) && (fits TStatus (x.2.2.1) && (fits THost (x.2.2.2.1) && (fits (.int .i64) (x.2.2.2.2.1) && (fits (.int .i64) (x.2.2.2.2.2.1) && (true))))))) = true
    rw [fits_of_wf (.sl TStatus) _ hx.1, fits_of_wf (.sl TStatus) _ hx.2.1, fits_of_wf TStatus _ hx.2.2.1, fits_of_wf THost _ hx.2.2.2.1, fits_of_wf (.int .i64) _ hx.2.2.2.2.1, fits_of_wf (.int .i64) _ hx.2.2.2.2.2.1]; rfl)

theorem stateForms_holds : Rows.StateFormsSaid :=
  OpenClaim.holds_of_wide 7 Try.f7 rfl rfl rfl rfl rfl rfl rfl ⟨rfl, rfl, rfl, rfl, rfl⟩ rfl rfl rfl rfl rfl (by kernel_rfl) Try.func7 (by kernel_rfl)
    (of_decide_eq_true (by kernel_rfl)) (by unfold Func.isWrapper; first | (rw [if_pos (by decide +kernel)]; kernel_rfl) | (rw [if_neg (by decide +kernel)]; exact ⟨rfl, rfl⟩))
    (fun os started H enc _ => stateForms_lifted os started H enc)

end Go.Proofs.Ytdoilggfajngiaa
