/-
  Any calls, from any time on: the clock answers as the document's does, in time and timers, too.
-/
import Derived.Test.YthlbiibholhkmaaCE
import Derived.Test.YthlbiibholhkmaaRows
namespace Go.Proofs.Ythlbiibholhkmaa
open Go VE Go.ChangeShapes Go.WideShapes

theorem clockPlays_lifted (os : Os) (started : os.Started) (H : Type) (en : TypeId × Value → H) :
    ReturnsInHanded {} Try.checked os 5 .any (Rows.clockPlaysSpec.pre6 en Try.prog Try.f5 Rows.clockPlaysRow.domain false) (Rows.clockPlaysSpec.post en Try.prog Try.f5 false true false false) := by
  refine law_lifted (C := Try.checked) (ps := [(false, (.int .i64)), (false, (.sl (.prod (.int .i64) TTimer)))]) (tb := 4) own0 started laidOut0 (by kernel_rfl) Try.func5 (by kernel_rfl) (by kernel_rfl) (by kernel_rfl) rfl
    (fun H ds h => by match ds, h with | [_, _], _ => rfl)
    (ChangeSpec.witness6 (enc := en) (C := Try.checked) false ⟨#[], #[.int .i64 0, .slice none 0 0], []⟩ 8 (by kernel_rfl) (by kernel_rfl) (by kernel_rfl) (by kernel_rfl))
    fun (x : Int × (List (Int × (El TTimer))) × Unit) hx => ?_
  exact lPlays_R (x.1) (x.2.1) (by
    show (fits (.int .i64) (x.1) && (fits (.sl (.prod (.int .i64) TTimer)) (x.2.1) && (true))) = true
    rw [fits_of_wf (.int .i64) _ hx.1, fits_of_wf (.sl (.prod (.int .i64) TTimer)) _ hx.2.1]; rfl)

theorem clockPlays_holds : Rows.ClockPlaysSaid :=
  OpenClaim.holds_of_wide 5 Try.f5 rfl rfl rfl rfl rfl rfl rfl ⟨rfl, rfl, rfl, rfl, rfl⟩ rfl rfl rfl rfl rfl (by kernel_rfl) Try.func5 (by kernel_rfl)
    (of_decide_eq_true (by kernel_rfl)) (by unfold Func.isWrapper; first | (rw [if_pos (by decide +kernel)]; kernel_rfl) | (rw [if_neg (by decide +kernel)]; exact ⟨rfl, rfl⟩))
    (fun os started H enc _ => clockPlays_lifted os started H enc)

end Go.Proofs.Ythlbiibholhkmaa
