/-
  COPIES MAY BE SPOILT: whatever is written into a copy's own pairs, the host is as it was.
-/
import Derived.Test.YtnmkcfcodhbanaaHV
import Derived.Test.YtnmkcfcodhbanaaRows
namespace Go.Proofs.Ytnmkcfcodhbanaa
open Go VE Go.ChangeShapes Go.WideShapes

theorem hostCopies_lifted (os : Os) (started : os.Started) (H : Type) (en : TypeId × Value → H) :
    ReturnsInHanded {} Try.checked os 5 .any (Rows.hostCopiesSpec.pre6 en Try.prog Try.f5 Rows.hostCopiesRow.domain false) (Rows.hostCopiesSpec.post en Try.prog Try.f5 false true false false) := by
  refine law_lifted (C := Try.checked) (ps := [(true, THost), (false, .str)]) (tb := 4) own0 started laidOut0 (by kernel_rfl) Try.func5 (by kernel_rfl) (by kernel_rfl) (by kernel_rfl) rfl
    (fun H ds h => by match ds, h with | [_, _], _ => rfl)
    (ChangeSpec.witness6 (enc := en) (C := Try.checked) false ⟨#[], #[.agg #[(.int .i64 0), (.string ⟨#[]⟩), (.int .i64 0), (.string ⟨#[]⟩), (.int .i64 0), (.slice none 0 0)], .string ⟨#[]⟩], []⟩ 8 (by kernel_rfl) (by kernel_rfl) (by kernel_rfl) (by kernel_rfl))
    fun (x : (El THost) × ByteArray × Unit) hx => ?_
  exact lCopies_R (x.1) (x.2.1) (by
    show (fits THost (x.1) && (fits .str (x.2.1) && (true))) = true
    rw [fits_of_wf THost _ hx.1, fits_of_wf .str _ hx.2.1]; rfl)

theorem hostCopies_holds : Rows.HostCopiesSaid :=
  OpenClaim.holds_of_wide 5 Try.f5 rfl rfl rfl rfl rfl rfl rfl ⟨rfl, rfl, rfl, rfl, rfl⟩ rfl rfl rfl rfl rfl (by kernel_rfl) Try.func5 (by kernel_rfl)
    (of_decide_eq_true (by kernel_rfl)) (by unfold Func.isWrapper; first | (rw [if_pos (by decide +kernel)]; kernel_rfl) | (rw [if_neg (by decide +kernel)]; exact ⟨rfl, rfl⟩))
    (fun os started H enc _ => hostCopies_lifted os started H enc)

end Go.Proofs.Ytnmkcfcodhbanaa
