/-
  Nothing that Copy, Members or Hosts hands out is shared with what it was made of: for every input.
-/
import Derived.Test.YtdoilggfajngiaaSV
import Derived.Test.YtdoilggfajngiaaRows
namespace Go.Proofs.Ytdoilggfajngiaa
open Go VE Go.ChangeShapes Go.WideShapes

theorem stateCopies_lifted (os : Os) (started : os.Started) (H : Type) (en : TypeId × Value → H) :
    ReturnsInHanded {} Try.checked os 6 .any (Rows.stateCopiesSpec.pre6 en Try.prog Try.f6 Rows.stateCopiesRow.domain false) (Rows.stateCopiesSpec.post en Try.prog Try.f6 false true false false) := by
  refine law_lifted (C := Try.checked) (ps := [(false, (.sl TStatus)), (false, .str)]) (tb := 4) own0 started laidOut0 (by kernel_rfl) Try.func6 (by kernel_rfl) (by kernel_rfl) (by kernel_rfl) rfl
    (fun H ds h => by match ds, h with | [_, _], _ => rfl)
    (ChangeSpec.witness6 (enc := en) (C := Try.checked) false ⟨#[], #[.slice none 0 0, .string ⟨#[]⟩], []⟩ 8 (by kernel_rfl) (by kernel_rfl) (by kernel_rfl) (by kernel_rfl))
    fun (x : (List (El TStatus)) × ByteArray × Unit) hx => ?_
  exact lCopies_R (x.1) (x.2.1) (by
    show (fits (.sl TStatus) (x.1) && (fits .str (x.2.1) && (true))) = true
    rw [fits_of_wf (.sl TStatus) _ hx.1, fits_of_wf .str _ hx.2.1]; rfl)

theorem stateCopies_holds : Rows.StateCopiesSaid :=
  OpenClaim.holds_of_wide 6 Try.f6 rfl rfl rfl rfl rfl rfl rfl ⟨rfl, rfl, rfl, rfl, rfl⟩ rfl rfl rfl rfl rfl (by kernel_rfl) Try.func6 (by kernel_rfl)
    (of_decide_eq_true (by kernel_rfl)) (by unfold Func.isWrapper; first | (rw [if_pos (by decide +kernel)]; kernel_rfl) | (rw [if_neg (by decide +kernel)]; exact ⟨rfl, rfl⟩))
    (fun os started H enc _ => stateCopies_lifted os started H enc)

end Go.Proofs.Ytdoilggfajngiaa
