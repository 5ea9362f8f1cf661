/-
  LinesBack: what Join writes, Split reads back
-/
import Derived.Test.YtcjlebkfekfkbaaWQ
import Derived.Test.YtcjlebkfekfkbaaRows
namespace Go.Proofs.Ytcjlebkfekfkbaa
open Go VE Go.ChangeShapes Go.WideShapes

theorem linesBack_lifted (os : Os) (started : os.Started) (H : Type) (en : TypeId × Value → H) :
    ReturnsInHanded {} Try.checked os 8 .any (Rows.linesBackSpec.pre6 en Try.prog Try.f8 Rows.linesBackRow.domain false) (Rows.linesBackSpec.post en Try.prog Try.f8 false true false false) := by
  refine law_lifted (C := Try.checked) (ps := [(false, (.sl (.sl .str))), (false, .str)]) (tb := 4) own0 started laidOut0 (by kernel_rfl) Try.func8 (by kernel_rfl) (by kernel_rfl) (by kernel_rfl) rfl
    (fun H ds h => by match ds, h with | [_, _], _ => rfl)
    (ChangeSpec.witness6 (enc := en) (C := Try.checked) false ⟨#[], #[.slice none 0 0, .string ⟨#[]⟩], []⟩ 8 (by kernel_rfl) (by kernel_rfl) (by kernel_rfl) (by kernel_rfl))
    fun (x : (List (List ByteArray)) × ByteArray × Unit) hx => ?_
  exact lBack_R (x.1) (x.2.1) (by
    show (fits (.sl (.sl .str)) (x.1) && (fits .str (x.2.1) && (true))) = true
    rw [fits_of_wf (.sl (.sl .str)) _ hx.1, fits_of_wf .str _ hx.2.1]; rfl)

theorem linesBack_holds : Rows.LinesBackSaid :=
  OpenClaim.holds_of_wide 8 Try.f8 rfl rfl rfl rfl rfl rfl rfl ⟨rfl, rfl, rfl, rfl, rfl⟩ rfl rfl rfl rfl rfl (by kernel_rfl) Try.func8 (by kernel_rfl)
    (of_decide_eq_true (by kernel_rfl)) (by unfold Func.isWrapper; first | (rw [if_pos (by decide +kernel)]; kernel_rfl) | (rw [if_neg (by decide +kernel)]; exact ⟨rfl, rfl⟩))
    (fun os started H enc _ => linesBack_lifted os started H enc)

end Go.Proofs.Ytcjlebkfekfkbaa
