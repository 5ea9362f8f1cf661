/-
  A sorted row is the only one of its keys: in whatever order they come; sorted again it is the same; none is lost.
-/
import Derived.Test.YtlaifjifgoadkaaOL
import Derived.Test.YtlaifjifgoadkaaRows
namespace Go.Proofs.Ytlaifjifgoadkaa
open Go VE Go.ChangeShapes Go.WideShapes

theorem orderOne_lifted (os : Os) (started : os.Started) (H : Type) (en : TypeId × Value → H) :
    ReturnsInHanded {} Try.checked os 4 .any (Rows.orderOneSpec.pre6 en Try.prog Try.f4 Rows.orderOneRow.domain false) (Rows.orderOneSpec.post en Try.prog Try.f4 false true false false) := by
  refine law_lifted (C := Try.checked) (ps := [(false, (.sl TKey)), (false, (.int .i64))]) (tb := 4) own0 started laidOut0 (by kernel_rfl) Try.func4 (by kernel_rfl) (by kernel_rfl) (by kernel_rfl) rfl
    (fun H ds h => by match ds, h with | [_, _], _ => rfl)
    (ChangeSpec.witness6 (enc := en) (C := Try.checked) false ⟨#[], #[.slice none 0 0, .int .i64 0], []⟩ 8 (by kernel_rfl) (by kernel_rfl) (by kernel_rfl) (by kernel_rfl))
    fun (x : (List (El TKey)) × Int × Unit) hx => ?_
  exact lOne_R (x.1) (x.2.1) (by
    show (fits (.sl TKey) (x.1) && (fits (.int .i64) (x.2.1) && (true))) = true
    rw [fits_of_wf (.sl TKey) _ hx.1, fits_of_wf (.int .i64) _ hx.2.1]; rfl)

theorem orderOne_holds : Rows.OrderOneSaid :=
  OpenClaim.holds_of_wide 4 Try.f4 rfl rfl rfl rfl rfl rfl rfl ⟨rfl, rfl, rfl, rfl, rfl⟩ rfl rfl rfl rfl rfl (by kernel_rfl) Try.func4 (by kernel_rfl)
    (of_decide_eq_true (by kernel_rfl)) (by unfold Func.isWrapper; first | (rw [if_pos (by decide +kernel)]; kernel_rfl) | (rw [if_neg (by decide +kernel)]; exact ⟨rfl, rfl⟩))
    (fun os started H enc _ => orderOne_lifted os started H enc)

end Go.Proofs.Ytlaifjifgoadkaa
