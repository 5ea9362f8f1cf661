/-
  IN WHICH ORDER: of up to 60 tickets and 60 numbers to close, those are left that weren't closed, in the order in which they came.
-/
import Derived.Test.YtlmfmpfpildemaaLM
import Derived.Test.YtlmfmpfpildemaaRows
namespace Go.Proofs.Ytlmfmpfpildemaa
open Go VE Go.ChangeShapes Go.WideShapes

theorem ticketOrder_lifted (os : Os) (started : os.Started) (H : Type) (en : TypeId × Value → H) :
    ReturnsInHanded {} Try.checked os 3 .any (Rows.ticketOrderSpec.pre6 en Try.prog Try.f3 Rows.ticketOrderRow.domain false) (Rows.ticketOrderSpec.post en Try.prog Try.f3 false true false false) := by
  refine law_lifted (C := Try.checked) (ps := [(false, (.sl (.int .i64))), (false, (.sl (.int .i64)))]) (tb := 4) own0 started laidOut0 (by kernel_rfl) Try.func3 (by kernel_rfl) (by kernel_rfl) (by kernel_rfl) rfl
    (fun H ds h => by match ds, h with | [_, _], _ => rfl)
    (ChangeSpec.witness6 (enc := en) (C := Try.checked) false ⟨#[], #[.slice none 0 0, .slice none 0 0], []⟩ 8 (by kernel_rfl) (by kernel_rfl) (by kernel_rfl) (by kernel_rfl))
    fun (x : (List Int) × (List Int) × Unit) hx => ?_
  exact lOrder_R (x.1) (x.2.1) (by
    show (fits (.sl (.int .i64)) (x.1) && (fits (.sl (.int .i64)) (x.2.1) && (true))) = true
    rw [fits_of_wf (.sl (.int .i64)) _ hx.1, fits_of_wf (.sl (.int .i64)) _ hx.2.1]; rfl)

theorem ticketOrder_holds : Rows.TicketOrderSaid :=
  OpenClaim.holds_of_wide 3 Try.f3 rfl rfl rfl rfl rfl rfl rfl ⟨rfl, rfl, rfl, rfl, rfl⟩ rfl rfl rfl rfl rfl (by kernel_rfl) Try.func3 (by kernel_rfl)
    (of_decide_eq_true (by kernel_rfl)) (by unfold Func.isWrapper; first | (rw [if_pos (by decide +kernel)]; kernel_rfl) | (rw [if_neg (by decide +kernel)]; exact ⟨rfl, rfl⟩))
    (fun os started H enc _ => ticketOrder_lifted os started H enc)

end Go.Proofs.Ytlmfmpfpildemaa
