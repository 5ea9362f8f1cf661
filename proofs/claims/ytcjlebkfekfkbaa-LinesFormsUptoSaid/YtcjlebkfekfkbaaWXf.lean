/-
  LinesForms: the lines are as the document's
-/
import Derived.Test.YtcjlebkfekfkbaaWX
import Derived.Test.YtcjlebkfekfkbaaRows
namespace Go.Proofs.Ytcjlebkfekfkbaa
open Go VE Go.ChangeShapes Go.WideShapes

theorem linesForms_lifted (os : Os) (started : os.Started) (H : Type) (en : TypeId × Value → H) (F : Stop.Interp) :
    ReturnsInHanded {} Try.checked os 7 .any ((Rows.OpenSpec.upto Rows.linesFormsSpec).pre6 en Try.prog Try.f7 Rows.linesFormsUptoRow.domain false) (((Rows.OpenSpec.upto Rows.linesFormsSpec).at F).post en Try.prog Try.f7 false true false false) := by
  refine law_small (C := Try.checked) (ps := [(false, .str), (false, (.sl TLine))]) (tb := 4) own0 started laidOut0 (by kernel_rfl) Try.func7 (s := Rows.OpenSpec.upto Rows.linesFormsSpec) rfl (by kernel_rfl) (by kernel_rfl) (by kernel_rfl) rfl rfl
    (fun H ds h => by match ds, h with | [_, _], _ => rfl)
    (OpenSpec.witness (enc := en) (C := Try.checked) rfl false ⟨#[], #[.string ⟨#[]⟩, .slice none 0 0], []⟩ 8 (by kernel_rfl) (by kernel_rfl) (by kernel_rfl) (x := ([.lit (.string []), .nil], [], [])) (by kernel_rfl) (by kernel_rfl) (by kernel_rfl) (by kernel_rfl))
    1048576 (fun ds h => of_decide_eq_true h) fun (x : ByteArray × (List (El TLine)) × Unit) hx hs => ?_
  exact lForms_R (x.1) (x.2.1) hs

theorem linesForms_holds : Rows.LinesFormsUptoSaid :=
  OpenClaim.holds_of_cond 7 Try.f7 rfl rfl rfl rfl rfl rfl rfl ⟨rfl, rfl, rfl, rfl, rfl⟩ rfl rfl rfl rfl rfl (by kernel_rfl) Try.func7 (by kernel_rfl)
    (of_decide_eq_true (by kernel_rfl)) (by unfold Func.isWrapper; first | (rw [if_pos (by decide +kernel)]; kernel_rfl) | (rw [if_neg (by decide +kernel)]; exact ⟨rfl, rfl⟩))
    (fun os started H enc _ F => linesForms_lifted os started H enc F)

end Go.Proofs.Ytcjlebkfekfkbaa
