/-
  In whatever order hosts are put in, the table is the same.
-/
import Derived.Test.YtlbdljebmjajdaaBN
import Derived.Test.YtlbdljebmjajdaaRows
namespace Go.Proofs.Ytlbdljebmjajdaa
open Go VE Go.ChangeShapes Go.WideShapes

theorem tableOrder_lifted (os : Os) (started : os.Started) (H : Type) (en : TypeId × Value → H) :
    ReturnsInHanded {} Try.checked os 4 .any (Rows.tableOrderSpec.pre6 en Try.prog Try.f4 Rows.tableOrderRow.domain false) (Rows.tableOrderSpec.post en Try.prog Try.f4 false true false false) := by
  refine law_lifted (C := Try.checked) (ps := [(false, (.sl THost)), (false, (.int .i64))]) (tb := 4) own0 started laidOut0 (by kernel_rfl) Try.func4 (by kernel_rfl) (by kernel_rfl) (by kernel_rfl) rfl
    (fun H ds h => by match ds, h with | [_, _], _ => rfl)
    (ChangeSpec.witness6 (enc := en) (C := Try.checked) false ⟨#[], #[.slice none 0 0, .int .i64 0], []⟩ 8 (by kernel_rfl) (by kernel_rfl) (by kernel_rfl) (by kernel_rfl))
    fun (x : (List (El THost)) × Int × Unit) hx => ?_
  exact lOrder_R (x.1) (x.2.1) (by
    show (fits (.sl THost) (x.1) && (fits (.int .i64) (x.2.1) && (true))) = true
    rw [fits_of_wf (.sl THost) _ hx.1, fits_of_wf (.int .i64) _ hx.2.1]; rfl)

theorem tableOrder_holds : Rows.TableOrderSaid :=
  OpenClaim.holds_of_wide 4 Try.f4 rfl rfl rfl rfl rfl rfl rfl ⟨rfl, rfl, rfl, rfl, rfl⟩ rfl rfl rfl rfl rfl (by kernel_rfl) Try.func4 (by kernel_rfl)
    (of_decide_eq_true (by kernel_rfl)) (by unfold Func.isWrapper; first | (rw [if_pos (by decide +kernel)]; kernel_rfl) | (rw [if_neg (by decide +kernel)]; exact ⟨rfl, rfl⟩))
    (fun os started H enc _ => tableOrder_lifted os started H enc)

end Go.Proofs.Ytlbdljebmjajdaa
