/-
  ANY FIELD TURNED: with any one field turned a host is another one, of what is of bounded bulk.
-/
import Derived.Test.YtnmkcfcodhbanaaHV
import Derived.Test.YtnmkcfcodhbanaaRows
namespace Go.Proofs.Ytnmkcfcodhbanaa
open Go VE Go.ChangeShapes Go.WideShapes

theorem hostTurned_lifted (os : Os) (started : os.Started) (H : Type) (en : TypeId × Value → H) (F : Stop.Interp) :
    ReturnsInHanded {} Try.checked os 7 .any ((Rows.OpenSpec.upto Rows.hostTurnedSpec).pre6 en Try.prog Try.f7 Rows.hostTurnedUptoRow.domain false) (((Rows.OpenSpec.upto Rows.hostTurnedSpec).at F).post en Try.prog Try.f7 false true false false) := by
  refine law_upto (C := Try.checked) (ps := [(true, THost), (false, (.int .i64))]) (tb := 4) own0 started laidOut0 (by kernel_rfl) Try.func7 (s := Rows.OpenSpec.upto Rows.hostTurnedSpec) rfl (by kernel_rfl) (by kernel_rfl) (by kernel_rfl) rfl rfl
    (fun H ds h => by match ds, h with | [_, _], _ => rfl)
    (OpenSpec.witness (enc := en) (C := Try.checked) rfl false ⟨#[], #[.agg #[(.int .i64 0), (.string ⟨#[]⟩), (.int .i64 0), (.string ⟨#[]⟩), (.int .i64 0), (.slice none 0 0)], .int .i64 0], []⟩ 8 (by kernel_rfl) (by kernel_rfl) (by kernel_rfl) (x := ([.agg [.lit (.int .i64 0), .lit (.string []), .lit (.int .i64 0), .lit (.string []), .lit (.int .i64 0), .nil], .lit (.int .i64 0)], [], [])) (by kernel_rfl) (by kernel_rfl) (by kernel_rfl) (by kernel_rfl))
    8589934592 (fun ds h n hn => small_w ds h _ (by kernel_rfl) n hn) fun (x : (El THost) × Int × Unit) hx => ?_
  exact lTurned_R (x.1) (x.2.1) (lTurned_pre (x.1) (x.2.1) hx)

theorem hostTurned_holds : Rows.HostTurnedUptoSaid :=
  OpenClaim.holds_of_cond 7 Try.f7 rfl rfl rfl rfl rfl rfl rfl ⟨rfl, rfl, rfl, rfl, rfl⟩ rfl rfl rfl rfl rfl (by kernel_rfl) Try.func7 (by kernel_rfl)
    (of_decide_eq_true (by kernel_rfl)) (by unfold Func.isWrapper; first | (rw [if_pos (by decide +kernel)]; kernel_rfl) | (rw [if_neg (by decide +kernel)]; exact ⟨rfl, rfl⟩))
    (fun os started H enc _ F => hostTurned_lifted os started H enc F)

end Go.Proofs.Ytnmkcfcodhbanaa
