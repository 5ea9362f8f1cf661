/-
  NEVER TWICE: at any list of up to 300 calls no number is given twice, and what is open is what was opened, not closed and not dropped.
-/
import Derived.Test.YtlmfmpfpildemaaLM
import Derived.Test.YtlmfmpfpildemaaRows
namespace Go.Proofs.Ytlmfmpfpildemaa
open Go VE Go.ChangeShapes Go.WideShapes

theorem ticketNever_lifted (os : Os) (started : os.Started) (H : Type) (en : TypeId × Value → H) :
    ReturnsInHanded {} Try.checked os 4 .any (Rows.ticketNeverSpec.pre6 en Try.prog Try.f4 Rows.ticketNeverRow.domain false) (Rows.ticketNeverSpec.post en Try.prog Try.f4 false true false false) := by
  refine law_lifted (C := Try.checked) (ps := [(false, (.sl TKey))]) (tb := 4) own0 started laidOut0 (by kernel_rfl) Try.func4 (by kernel_rfl) (by kernel_rfl) (by kernel_rfl) rfl
    (fun H ds h => by match ds, h with | [_], _ => rfl)
    (ChangeSpec.witness6 (enc := en) (C := Try.checked) false ⟨#[], #[.slice none 0 0], []⟩ 8 (by kernel_rfl) (by kernel_rfl) (by kernel_rfl) (by kernel_rfl))
    fun (x : (List (El TKey)) × Unit) hx => ?_
  exact lNever_R (x.1) (by
    show (fits (.sl TKey) (x.1) && (true)) = true
    rw [fits_of_wf (.sl TKey) _ hx.1]; rfl)

theorem ticketNever_holds : Rows.TicketNeverSaid :=
  OpenClaim.holds_of_wide 4 Try.f4 rfl rfl rfl rfl rfl rfl rfl ⟨rfl, rfl, rfl, rfl, rfl⟩ rfl rfl rfl rfl rfl (by kernel_rfl) Try.func4 (by kernel_rfl)
    (of_decide_eq_true (by kernel_rfl)) (by unfold Func.isWrapper; first | (rw [if_pos (by decide +kernel)]; kernel_rfl) | (rw [if_neg (by decide +kernel)]; exact ⟨rfl, rfl⟩))
    (fun os started H enc _ => ticketNever_lifted os started H enc)

end Go.Proofs.Ytlmfmpfpildemaa
