/-
  As many as may be, and no more.
-/
import Derived.Test.YtlbdljebmjajdaaBM
import Derived.Test.YtlbdljebmjajdaaRows
namespace Go.Proofs.Ytlbdljebmjajdaa
open Go VE Go.ChangeShapes Go.WideShapes

theorem tableFull_lifted (os : Os) (started : os.Started) (H : Type) (en : TypeId × Value → H) :
    ReturnsInHanded {} Try.checked os 7 .any (Rows.tableFullSpec.pre6 en Try.prog Try.f7 Rows.tableFullRow.domain false) (Rows.tableFullSpec.post en Try.prog Try.f7 false true false false) := by
  refine law_lifted (C := Try.checked) (ps := [(true, THost), (false, (.int .i64))]) (tb := 4) own0 started laidOut0 (by kernel_rfl) Try.func7 (by kernel_rfl) (by kernel_rfl) (by kernel_rfl) rfl
    (fun H ds h => by match ds, h with | [_, _], _ => rfl)
    (ChangeSpec.witness6 (enc := en) (C := Try.checked) false ⟨#[], #[.agg #[(.int .i64 0), (.string ⟨#[]⟩), (.int .i64 0), (.string ⟨#[]⟩), (.int .i64 0), (.slice none 0 0)], .int .i64 0], []⟩ 8 (by kernel_rfl) (by kernel_rfl) (by kernel_rfl) (by kernel_rfl))
    fun (x : (El THost) × Int × Unit) hx => ?_
  exact lFull_R (x.1) (x.2.1) (by
    show (fits THost (x.1) && (fits (.int .i64) (x.2.1) && (true))) = true
    rw [fits_of_wf THost _ hx.1, fits_of_wf (.int .i64) _ hx.2.1]; rfl)

theorem tableFull_holds : Rows.TableFullSaid :=
  OpenClaim.holds_of_wide 7 Try.f7 rfl rfl rfl rfl rfl rfl rfl ⟨rfl, rfl, rfl, rfl, rfl⟩ rfl rfl rfl rfl rfl (by kernel_rfl) Try.func7 (by kernel_rfl)
    (of_decide_eq_true (by kernel_rfl)) (by unfold Func.isWrapper; first | (rw [if_pos (by decide +kernel)]; kernel_rfl) | (rw [if_neg (by decide +kernel)]; exact ⟨rfl, rfl⟩))
    (fun os started H enc _ => tableFull_lifted os started H enc)

end Go.Proofs.Ytlbdljebmjajdaa
