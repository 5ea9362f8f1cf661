/-
  GROUPS: each host is in one priority's group, all groups are all, and who is excluded is in none.
-/
import Derived.Test.YtemkgdkkpeijfaaFM
import Derived.Test.YtemkgdkkpeijfaaRows
namespace Go.Proofs.Ytemkgdkkpeijfaa
open Go VE Go.ChangeShapes Go.WideShapes

theorem fitGroups_lifted (os : Os) (started : os.Started) (H : Type) (en : TypeId × Value → H) :
    ReturnsInHanded {} Try.checked os 6 .any (Rows.fitGroupsSpec.pre6 en Try.prog Try.f6 Rows.fitGroupsRow.domain false) (Rows.fitGroupsSpec.post en Try.prog Try.f6 false true false false) := by
  refine law_lifted (C := Try.checked) (ps := [(false, (.sl TStatus)), (false, (.sl (.int .i64)))]) (tb := 4) own0 started laidOut0 (by kernel_rfl) Try.func6 (by kernel_rfl) (by kernel_rfl) (by kernel_rfl) rfl
    (fun H ds h => by match ds, h with | [_, _], _ => rfl)
    (ChangeSpec.witness6 (enc := en) (C := Try.checked) false ⟨#[], #[.slice none 0 0, .slice none 0 0], []⟩ 8 (by kernel_rfl) (by kernel_rfl) (by kernel_rfl) (by kernel_rfl))
    fun (x : (List (El TStatus)) × (List Int) × Unit) hx => ?_
  exact lGroups_R (x.1) (x.2.1) (by
    show (fits (.sl TStatus) (x.1) && (fits (.sl (.int .i64)) (x.2.1) && (true))) = true
    rw [fits_of_wf (.sl TStatus) _ hx.1, fits_of_wf (.sl (.int .i64)) _ hx.2.1]; rfl)

theorem fitGroups_holds : Rows.FitGroupsSaid :=
  OpenClaim.holds_of_wide 6 Try.f6 rfl rfl rfl rfl rfl rfl rfl ⟨rfl, rfl, rfl, rfl, rfl⟩ rfl rfl rfl rfl rfl (by kernel_rfl) Try.func6 (by kernel_rfl)
    (of_decide_eq_true (by kernel_rfl)) (by unfold Func.isWrapper; first | (rw [if_pos (by decide +kernel)]; kernel_rfl) | (rw [if_neg (by decide +kernel)]; exact ⟨rfl, rfl⟩))
    (fun os started H enc _ => fitGroups_lifted os started H enc)

end Go.Proofs.Ytemkgdkkpeijfaa
