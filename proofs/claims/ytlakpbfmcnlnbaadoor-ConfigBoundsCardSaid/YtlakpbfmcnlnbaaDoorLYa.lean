/-
  At a field's bound a configuration may be, beyond it it may not: for every input.
-/
import Derived.Test.YtlakpbfmcnlnbaaDoorLY
import Derived.Test.YtlakpbfmcnlnbaaDoorRows
import Derived.Test.YtlakpbfmcnlnbaaDoorCards
import Derived.Test.YtlakpbfmcnlnbaaDoorTie
import Derived.SevenTiedAt
namespace Go.Proofs.YtlakpbfmcnlnbaaDoor
open Go VE Go.ChangeShapes Go.WideShapes

theorem configBounds_laid (W : World) (h : laidMetH Tryd.prog Rows.configBoundsRow.laid W) : Laid (all0 W) W := by
  rw [MakeChecks.laidMetH_plain _ _ _ (by kernel_rfl)] at h
  have h1 : laidMet Tryd.prog [("math/bits.deBruijn32tab", Rows.laid_math_bits_deBruijn32tab), ("math/bits.deBruijn64tab", Rows.laid_math_bits_deBruijn64tab), ("internal/strconv.uint64pow10", Lib.tabData .u64 Lib.pow10Tab)] W := by
    have e : Rows.configBoundsRow.laid = [("math/bits.deBruijn32tab", Rows.laid_math_bits_deBruijn32tab), ("math/bits.deBruijn64tab", Rows.laid_math_bits_deBruijn64tab), ("internal/strconv.uint64pow10", Lib.tabData .u64 Lib.pow10Tab)] := by kernel_rfl
    rw [← e]; exact h
  have hT := Lib.tabIs_of_head (t := ((Tryd.prog.globals[0]?).map (·.type)).getD 0) (e := 36) (n := 20) tab_named (by kernel_rfl) (by kernel_rfl) (by kernel_rfl) (by kernel_rfl) (by kernel_rfl) h1.tail.tail
  exact fun p hp => laid_of_tab hT tab_named (by decide) p (by rw [← tab_cells]; exact hp)

theorem configBounds_door (os : Os) (args : Array Value) : laidMetH Tryd.prog Rows.configBoundsRow.laid ((World.doorLaid Tryd.prog 400 os).forCall (fun _ _ => 0) ⟨#[], args, []⟩).memory :=
  laidMetH_of_parts3 (fuel := 8) (laidMet_of_run' 8 (by kernel_rfl) (by kernel_rfl)) (by kernel_rfl) (by kernel_rfl)

theorem configBounds_lifted (os : Os) (started : os.Started) (H : Type) (en : TypeId × Value → H) :
    ReturnsInHanded {} Tryd.checked os 7 .any (fun w args => (Rows.configBoundsSpec.pre en Tryd.prog Tryd.f7 [] false w args ∧ laidMetH Tryd.prog Rows.configBoundsRow.laid w) ∧ sizedMet en Tryd.prog Tryd.f7 (OpenSpec.ofChange Rows.configBoundsSpec) false w args)
      (Rows.configBoundsSpec.post en Tryd.prog Tryd.f7 false true false false) := by
  refine law_laid (C := Tryd.checked) (ps := [(false, (.int .i64)), (false, (.int .i64))]) (tb := 4) own0 started laidOut0 (by kernel_rfl) Tryd.func7 (by kernel_rfl) (by kernel_rfl) (by kernel_rfl) rfl
    (fun H ds h => by match ds, h with | [_, _], _ => rfl) (X := fun w => laidMetH Tryd.prog Rows.configBoundsRow.laid w) (fun _ _ hh h => h.of_heap hh) configBounds_laid
    (ChangeSpec.witness_shaped (enc := en) (C := Tryd.checked) (os := os) (X := fun w _ => laidMetH Tryd.prog Rows.configBoundsRow.laid w) false (World.doorLaid Tryd.prog 400 os) #[.int .i64 0, .int .i64 0] 8 rfl (World.shaped_of_RefB (by kernel_rfl) (by kernel_rfl)) (by kernel_rfl) (by kernel_rfl) (by kernel_rfl) (configBounds_door os _))
    fun (x : Int × Int × Unit) hx => ?_
  exact lBounds_R (x.1) (x.2.1) (lBounds_pre (x.1) (x.2.1) hx)

theorem configBounds_holds : Rows.ConfigBoundsSaid :=
  OpenClaim.holds_of_wide 7 Tryd.f7 rfl rfl rfl rfl rfl rfl rfl ⟨rfl, rfl, rfl, rfl, rfl⟩ rfl rfl rfl rfl rfl (by kernel_rfl) Tryd.func7 (by kernel_rfl)
    (of_decide_eq_true (by kernel_rfl)) (by unfold Func.isWrapper; first | (rw [if_pos (by decide +kernel)]; kernel_rfl) | (rw [if_neg (by decide +kernel)]; exact ⟨rfl, rfl⟩))
    (fun os started H enc _ => configBounds_lifted os started H enc)

theorem configBounds_card : Rows.ConfigBoundsCardSaid :=
  Claim7.holds_tied_plain_at .later [] [.data, .data, .data] true Rows.configBoundsCard.stood.harness false
    configBounds_holds (fun _ h => by cases h) (by kernel_rfl) (fun _ h => by cases h) configBounds_row_tie rfl ⟨rfl, rfl⟩ (by kernel_rfl) rfl
    (fun f fn hf hfn => by
      obtain rfl : f = 7 := Option.some.inj ((show Tryd.prog.funcNamed "triage/triagelaw6.ConfigBounds" = some 7 by kernel_rfl).symm.trans hf) |>.symm
      obtain rfl : fn = Tryd.f7 := (Option.some.inj (Tryd.func7.symm.trans hfn)).symm
      exact ⟨by kernel_rfl, fun j t ht => by
        have hp : Tryd.f7.params = #[3, 3] := by kernel_rfl
        rw [hp] at ht
        have hm : t ∈ [3, 3] := by simpa using Array.mem_of_getElem? ht
        have hall : ([3, 3].all fun u => !Tryd.prog.wantsStandIn u) = true := by kernel_rfl
        exact (show Tryd.prog.wantsStandIn t = false by simpa using List.all_eq_true.1 hall t hm)⟩)
    (by kernel_rfl)

end Go.Proofs.YtlakpbfmcnlnbaaDoor
