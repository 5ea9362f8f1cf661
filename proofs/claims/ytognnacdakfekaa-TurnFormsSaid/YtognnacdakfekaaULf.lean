/-
  TurnForms: rows gone through answer as the document says, whatever the numbers and the text: the law returns true for every input.
-/
import Derived.Test.YtognnacdakfekaaUN
import Derived.Test.YtognnacdakfekaaRows
namespace Go.Proofs.Ytognnacdakfekaa
open Go VE Go.ChangeShapes Go.WideShapes

theorem turnForms_lifted (os : Os) (started : os.Started) (H : Type) (en : TypeId × Value → H) :
    ReturnsInHanded {} Try.checked os 3 .any (Rows.turnFormsSpec.pre6 en Try.prog Try.f3 Rows.turnFormsRow.domain false) (Rows.turnFormsSpec.post en Try.prog Try.f3 false true false false) := by
  refine law_lifted (C := Try.checked) (ps := [(false, (.int .i64)), (false, (.int .i64)), (false, (.int .i64)), (false, (.int .i64)), (false, .str), (false, (.int .u8))]) (tb := 4) own0 started laidOut0 (by kernel_rfl) Try.func3 (by kernel_rfl) (by kernel_rfl) (by kernel_rfl) rfl
    (fun H ds h => by match ds, h with | [_, _, _, _, _, _], _ => rfl)
    (ChangeSpec.witness6 (enc := en) (C := Try.checked) false ⟨#[], #[.int .i64 0, .int .i64 0, .int .i64 0, .int .i64 0, .string ⟨#[]⟩, .int .u8 0], []⟩ 8 (by kernel_rfl) (by kernel_rfl) (by kernel_rfl) (by kernel_rfl))
    fun (x : Int × Int × Int × Int × ByteArray × Int × Unit) hx => ?_
  exact lForms_R (x.1) (x.2.1) (x.2.2.1) (x.2.2.2.1) (x.2.2.2.2.1) (x.2.2.2.2.2.1) (by
    show (fits (.int .i64) (x.1) && (fits (.int .i64) (x.2.1) && (fits (.int .i64) (x.2.2.1) && (fits (.int .i64) (x.2.2.2.1) && (fits .str (x.2.2.2.2.1) && (fits (.int .u8) (x.2.2.2.2.2.1) && (true))))))) = true
    rw [fits_of_wf (.int .i64) _ hx.1, fits_of_wf (.int .i64) _ hx.2.1, fits_of_wf (.int .i64) _ hx.2.2.1, fits_of_wf (.int .i64) _ hx.2.2.2.1, fits_of_wf .str _ hx.2.2.2.2.1, fits_of_wf (.int .u8) _ hx.2.2.2.2.2.1]; rfl)

theorem turnForms_holds : Rows.TurnFormsSaid :=
  OpenClaim.holds_of_wide 3 Try.f3 rfl rfl rfl rfl rfl rfl rfl ⟨rfl, rfl, rfl, rfl, rfl⟩ rfl rfl rfl rfl rfl (by kernel_rfl) Try.func3 (by kernel_rfl)
    (of_decide_eq_true (by kernel_rfl)) (by unfold Func.isWrapper; first | (rw [if_pos (by decide +kernel)]; kernel_rfl) | (rw [if_neg (by decide +kernel)]; exact ⟨rfl, rfl⟩))
    (fun os started H enc _ => turnForms_lifted os started H enc)

end Go.Proofs.Ytognnacdakfekaa
