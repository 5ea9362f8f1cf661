/-
  'HostParts' is true of whatever host and two subsets, where what it reads is of bulk at most 1048576.
-/
import Derived.Test.YtnmkcfcodhbanaaHP
import Derived.Test.YtnmkcfcodhbanaaU
namespace Go.Proofs.Ytnmkcfcodhbanaa
open Go VE Go.ChangeShapes Go.WideShapes

theorem hostParts_lifted (os : Os) (started : os.Started) (H : Type) (en : TypeId × Value → H) (F : Stop.Interp) :
    ReturnsInHanded {} Try.checked os 4 .any ((Rows.OpenSpec.upto Rows.hostPartsSpec).pre6 en Try.prog Try.f4 Rows.hostPartsUptoRow.domain false) (((Rows.OpenSpec.upto Rows.hostPartsSpec).at F).post en Try.prog Try.f4 false true false false) := by
  refine law_upto (C := Try.checked) (ps := [(true, THost), (false, (.sl TPair)), (false, (.sl TPair))]) (tb := 4) own0 started laidOut0 (by kernel_rfl) Try.func4 (s := Rows.OpenSpec.upto Rows.hostPartsSpec) rfl (by kernel_rfl) (by kernel_rfl) (by kernel_rfl) rfl rfl
    (fun H ds h => by match ds, h with | [_, _, _], _ => rfl)
    (OpenSpec.witness (enc := en) (C := Try.checked) rfl false ⟨#[], #[.agg #[(.int .i64 0), (.string ⟨#[]⟩), (.int .i64 0), (.string ⟨#[]⟩), (.int .i64 0), (.slice none 0 0)], .slice none 0 0, .slice none 0 0], []⟩ 8 (by kernel_rfl) (by kernel_rfl) (by kernel_rfl) (x := ([.agg [.lit (.int .i64 0), .lit (.string []), .lit (.int .i64 0), .lit (.string []), .lit (.int .i64 0), .nil], .nil, .nil], [], [])) (by kernel_rfl) (by kernel_rfl) (by kernel_rfl) (by kernel_rfl))
    8589934592 (fun ds h n hn => small_w ds h _ (by kernel_rfl) n hn) fun (x : (El THost) × (List (El TPair)) × (List (El TPair)) × Unit) hx => ?_
  exact lParts_R (x.1) (x.2.1) (x.2.2.1) (lParts_pre (x.1) (x.2.1) (x.2.2.1) hx)

theorem hostParts_holds : Rows.HostPartsUptoSaid :=
  OpenClaim.holds_of_cond 4 Try.f4 rfl rfl rfl rfl rfl rfl rfl ⟨rfl, rfl, rfl, rfl, rfl⟩ rfl rfl rfl rfl rfl (by kernel_rfl) Try.func4 (by kernel_rfl)
    (of_decide_eq_true (by kernel_rfl)) (by unfold Func.isWrapper; first | (rw [if_pos (by decide +kernel)]; kernel_rfl) | (rw [if_neg (by decide +kernel)]; exact ⟨rfl, rfl⟩))
    (fun os started H enc _ F => hostParts_lifted os started H enc F)

end Go.Proofs.Ytnmkcfcodhbanaa
