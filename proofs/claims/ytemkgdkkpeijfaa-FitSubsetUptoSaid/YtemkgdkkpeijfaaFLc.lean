/-
  A SUBSET: who is told has the subset, or, where nobody has it and it falls back, all are told; a longer subset has no more, of what is of bounded bulk.
-/
import Derived.Test.YtemkgdkkpeijfaaFL
import Derived.Test.YtemkgdkkpeijfaaRows
namespace Go.Proofs.Ytemkgdkkpeijfaa
open Go VE Go.ChangeShapes Go.WideShapes

theorem fitSubset_lifted (os : Os) (started : os.Started) (H : Type) (en : TypeId × Value → H) (F : Stop.Interp) :
    ReturnsInHanded {} Try.checked os 5 .any ((Rows.OpenSpec.upto Rows.fitSubsetSpec).pre6 en Try.prog Try.f5 Rows.fitSubsetUptoRow.domain false) (((Rows.OpenSpec.upto Rows.fitSubsetSpec).at F).post en Try.prog Try.f5 false true false false) := by
  refine law_upto (C := Try.checked) (ps := [(false, (.sl TStatus)), (false, (.sl TPair)), (true, TPair)]) (tb := 4) own0 started laidOut0 (by kernel_rfl) Try.func5 (s := Rows.OpenSpec.upto Rows.fitSubsetSpec) rfl (by kernel_rfl) (by kernel_rfl) (by kernel_rfl) rfl rfl
    (fun H ds h => by match ds, h with | [_, _, _], _ => rfl)
    (OpenSpec.witness (enc := en) (C := Try.checked) rfl false ⟨#[], #[.slice none 0 0, .slice none 0 0, .agg #[(.string ⟨#[]⟩), (.string ⟨#[]⟩)]], []⟩ 8 (by kernel_rfl) (by kernel_rfl) (by kernel_rfl) (x := ([.nil, .nil, .agg [.lit (.string []), .lit (.string [])]], [], [])) (by kernel_rfl) (by kernel_rfl) (by kernel_rfl) (by kernel_rfl))
    8589934592 (fun ds h n hn => small_w ds h _ (by kernel_rfl) n hn) fun (x : (List (El TStatus)) × (List (El TPair)) × (El TPair) × Unit) hx => ?_
  exact lSubset_R (x.1) (x.2.1) (x.2.2.1) (lSubset_pre (x.1) (x.2.1) (x.2.2.1) hx)

theorem fitSubset_holds : Rows.FitSubsetUptoSaid :=
  OpenClaim.holds_of_cond 5 Try.f5 rfl rfl rfl rfl rfl rfl rfl ⟨rfl, rfl, rfl, rfl, rfl⟩ rfl rfl rfl rfl rfl (by kernel_rfl) Try.func5 (by kernel_rfl)
    (of_decide_eq_true (by kernel_rfl)) (by unfold Func.isWrapper; first | (rw [if_pos (by decide +kernel)]; kernel_rfl) | (rw [if_neg (by decide +kernel)]; exact ⟨rfl, rfl⟩))
    (fun os started H enc _ F => fitSubset_lifted os started H enc F)

end Go.Proofs.Ytemkgdkkpeijfaa
