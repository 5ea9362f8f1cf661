/-
  Any hosts, any number: adding, cutting, changes answer as the document's do.
-/
import Derived.Test.YtlbdljebmjajdaaBL
import Derived.Test.YtlbdljebmjajdaaRows
namespace Go.Proofs.Ytlbdljebmjajdaa
open Go VE Go.ChangeShapes Go.WideShapes

theorem tableForms_lifted (os : Os) (started : os.Started) (H : Type) (en : TypeId × Value → H) :
    ReturnsInHanded {} Try.checked os 5 .any (Rows.tableFormsSpec.pre6 en Try.prog Try.f5 Rows.tableFormsRow.domain false) (Rows.tableFormsSpec.post en Try.prog Try.f5 false true false false) := by
  refine law_lifted (C := Try.checked) (ps := [(false, (.sl THost)), (false, (.sl THost)), (true, THost), (false, (.int .i64))]) (tb := 4) own0 started laidOut0 (by kernel_rfl) Try.func5 (by kernel_rfl) (by kernel_rfl) (by kernel_rfl) rfl
    (fun H ds h => by match ds, h with | [_, _, _, _], _ => rfl)
    (ChangeSpec.witness6 (enc := en) (C := Try.checked) false ⟨#[], #[.slice none 0 0, .slice none 0 0, .agg #[(.int .i64 0), (.string ⟨#[]⟩), (.int .i64 0), (.string ⟨#[]⟩), (.int .i64 0), (.slice none 0 0)], .int .i64 0], []⟩ 8 (by kernel_rfl) (by kernel_rfl) (by kernel_rfl) (by kernel_rfl))
    fun (x : (List (El THost)) × (List (El THost)) × (El THost) × Int × Unit) hx => ?_
  exact lForms_R (x.1) (x.2.1) (x.2.2.1) (x.2.2.2.1) (by
    show (fits (.sl THost) (x.1) && (fits (.sl THost) (x.2.1) && (fits THost (x.2.2.1) && (fits (.int .i64) (x.2.2.2.1) && (true))))) = true
    rw [fits_of_wf (.sl THost) _ hx.1, fits_of_wf (.sl THost) _ hx.2.1, fits_of_wf THost _ hx.2.2.1, fits_of_wf (.int .i64) _ hx.2.2.2.1]; rfl)

theorem tableForms_holds : Rows.TableFormsSaid :=
  OpenClaim.holds_of_wide 5 Try.f5 rfl rfl rfl rfl rfl rfl rfl ⟨rfl, rfl, rfl, rfl, rfl⟩ rfl rfl rfl rfl rfl (by kernel_rfl) Try.func5 (by kernel_rfl)
    (of_decide_eq_true (by kernel_rfl)) (by unfold Func.isWrapper; first | (rw [if_pos (by decide +kernel)]; kernel_rfl) | (rw [if_neg (by decide +kernel)]; exact ⟨rfl, rfl⟩))
    (fun os started H enc _ => tableForms_lifted os started H enc)

end Go.Proofs.Ytlbdljebmjajdaa
