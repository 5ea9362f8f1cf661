/-
  TurnJoins: the parts of a text, with the byte between, are the text: for every text and byte, the law returns true.
-/
import Derived.Test.YtognnacdakfekaaUL
import Derived.Test.YtognnacdakfekaaRows
namespace Go.Proofs.Ytognnacdakfekaa
open Go VE Go.ChangeShapes Go.WideShapes

theorem turnJoins_lifted (os : Os) (started : os.Started) (H : Type) (en : TypeId × Value → H) :
    ReturnsInHanded {} Try.checked os 5 .any (Rows.turnJoinsSpec.pre6 en Try.prog Try.f5 Rows.turnJoinsRow.domain false) (Rows.turnJoinsSpec.post en Try.prog Try.f5 false true false false) := by
  refine law_lifted (C := Try.checked) (ps := [(false, .str), (false, (.int .u8))]) (tb := 4) own0 started laidOut0 (by kernel_rfl) Try.func5 (by kernel_rfl) (by kernel_rfl) (by kernel_rfl) rfl
    (fun H ds h => by match ds, h with | [_, _], _ => rfl)
    (ChangeSpec.witness6 (enc := en) (C := Try.checked) false ⟨#[], #[.string ⟨#[]⟩, .int .u8 0], []⟩ 8 (by kernel_rfl) (by kernel_rfl) (by kernel_rfl) (by kernel_rfl))
    fun (x : ByteArray × Int × Unit) hx => ?_
  exact lJoins_R (x.1) (x.2.1) (by
    show (fits .str (x.1) && (fits (.int .u8) (x.2.1) && (true))) = true
    rw [fits_of_wf .str _ hx.1, fits_of_wf (.int .u8) _ hx.2.1]; rfl)

theorem turnJoins_holds : Rows.TurnJoinsSaid :=
  OpenClaim.holds_of_wide 5 Try.f5 rfl rfl rfl rfl rfl rfl rfl ⟨rfl, rfl, rfl, rfl, rfl⟩ rfl rfl rfl rfl rfl (by kernel_rfl) Try.func5 (by kernel_rfl)
    (of_decide_eq_true (by kernel_rfl)) (by unfold Func.isWrapper; first | (rw [if_pos (by decide +kernel)]; kernel_rfl) | (rw [if_neg (by decide +kernel)]; exact ⟨rfl, rfl⟩))
    (fun os started H enc _ => turnJoins_lifted os started H enc)

end Go.Proofs.Ytognnacdakfekaa
