/-
  THERE IS NO BOOK: whatever is asked of a book that there isn't answers as the laws say, at any number.
-/
import Derived.Test.YtlmfmpfpildemaaLL
import Derived.Test.YtlmfmpfpildemaaRows
namespace Go.Proofs.Ytlmfmpfpildemaa
open Go VE Go.ChangeShapes Go.WideShapes

theorem ticketNil_lifted (os : Os) (started : os.Started) (H : Type) (en : TypeId × Value → H) :
    ReturnsInHanded {} Try.checked os 7 .any (Rows.ticketNilSpec.pre6 en Try.prog Try.f7 Rows.ticketNilRow.domain false) (Rows.ticketNilSpec.post en Try.prog Try.f7 false true false false) := by
  refine law_lifted (C := Try.checked) (ps := [(false, (.int .i64))]) (tb := 4) own0 started laidOut0 (by kernel_rfl) Try.func7 (by kernel_rfl) (by kernel_rfl) (by kernel_rfl) rfl
    (fun H ds h => by match ds, h with | [_], _ => rfl)
    (ChangeSpec.witness6 (enc := en) (C := Try.checked) false ⟨#[], #[.int .i64 0], []⟩ 8 (by kernel_rfl) (by kernel_rfl) (by kernel_rfl) (by kernel_rfl))
    fun (x : Int × Unit) hx => ?_
  exact lNil_R (x.1) (by
    show (fits (.int .i64) (x.1) && (true)) = true
    rw [fits_of_wf (.int .i64) _ hx.1]; rfl)

theorem ticketNil_holds : Rows.TicketNilSaid :=
  OpenClaim.holds_of_wide 7 Try.f7 rfl rfl rfl rfl rfl rfl rfl ⟨rfl, rfl, rfl, rfl, rfl⟩ rfl rfl rfl rfl rfl (by kernel_rfl) Try.func7 (by kernel_rfl)
    (of_decide_eq_true (by kernel_rfl)) (by unfold Func.isWrapper; first | (rw [if_pos (by decide +kernel)]; kernel_rfl) | (rw [if_neg (by decide +kernel)]; exact ⟨rfl, rfl⟩))
    (fun os started H enc _ => ticketNil_lifted os started H enc)

end Go.Proofs.Ytlmfmpfpildemaa
