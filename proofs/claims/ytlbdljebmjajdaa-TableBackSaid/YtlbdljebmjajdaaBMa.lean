/-
  WHAT IS PUT IN AND TAKEN OUT AGAIN IS AS IT WAS; what is there is found; others are where they were.
-/
import Derived.Test.YtlbdljebmjajdaaBM
import Derived.Test.YtlbdljebmjajdaaRows
namespace Go.Proofs.Ytlbdljebmjajdaa
open Go VE Go.ChangeShapes Go.WideShapes

theorem tableBack_lifted (os : Os) (started : os.Started) (H : Type) (en : TypeId × Value → H) :
    ReturnsInHanded {} Try.checked os 6 .any (Rows.tableBackSpec.pre6 en Try.prog Try.f6 Rows.tableBackRow.domain false) (Rows.tableBackSpec.post en Try.prog Try.f6 false true false false) := by
  refine law_lifted (C := Try.checked) (ps := [(false, (.sl THost)), (true, THost)]) (tb := 4) own0 started laidOut0 (by kernel_rfl) Try.func6 (by kernel_rfl) (by kernel_rfl) (by kernel_rfl) rfl
    (fun H ds h => by match ds, h with | [_, _], _ => rfl)
    (ChangeSpec.witness6 (enc := en) (C := Try.checked) false ⟨#[], #[.slice none 0 0, .agg #[(.int .i64 0), (.string ⟨#[]⟩), (.int .i64 0), (.string ⟨#[]⟩), (.int .i64 0), (.slice none 0 0)]], []⟩ 8 (by kernel_rfl) (by kernel_rfl) (by kernel_rfl) (by kernel_rfl))
    fun (x : (List (El THost)) × (El THost) × Unit) hx => ?_
  exact lBack_R (x.1) (x.2.1) (by
    show (fits (.sl THost) (x.1) && (fits THost (x.2.1) && (true))) = true
    rw [fits_of_wf (.sl THost) _ hx.1, fits_of_wf THost _ hx.2.1]; rfl)

theorem tableBack_holds : Rows.TableBackSaid :=
  OpenClaim.holds_of_wide 6 Try.f6 rfl rfl rfl rfl rfl rfl rfl ⟨rfl, rfl, rfl, rfl, rfl⟩ rfl rfl rfl rfl rfl (by kernel_rfl) Try.func6 (by kernel_rfl)
    (of_decide_eq_true (by kernel_rfl)) (by unfold Func.isWrapper; first | (rw [if_pos (by decide +kernel)]; kernel_rfl) | (rw [if_neg (by decide +kernel)]; exact ⟨rfl, rfl⟩))
    (fun os started H enc _ => tableBack_lifted os started H enc)

end Go.Proofs.Ytlbdljebmjajdaa
