/-
  Any configuration, any text: the program and the document say the same: for every input.
-/
import Derived.Test.YtlakpbfmcnlnbaaDoorMY
import Derived.Test.YtlakpbfmcnlnbaaDoorRows
import Derived.Test.YtlakpbfmcnlnbaaDoorCards
import Derived.Test.YtlakpbfmcnlnbaaDoorTie
import Derived.SevenTiedAt
namespace Go.Proofs.YtlakpbfmcnlnbaaDoor
open Go VE Go.ChangeShapes Go.WideShapes

theorem configForms_laid (W : World) (h : laidMetH Tryd.prog Rows.configFormsRow.laid W) : Laid (all0 W) W := by
  rw [MakeChecks.laidMetH_plain _ _ _ (by kernel_rfl)] at h
  have h1 : laidMet Tryd.prog [("math/bits.deBruijn32tab", Rows.laid_math_bits_deBruijn32tab), ("math/bits.deBruijn64tab", Rows.laid_math_bits_deBruijn64tab), ("internal/strconv.uint64pow10", Lib.tabData .u64 Lib.pow10Tab)] W := by
    have e : Rows.configFormsRow.laid = [("math/bits.deBruijn32tab", Rows.laid_math_bits_deBruijn32tab), ("math/bits.deBruijn64tab", Rows.laid_math_bits_deBruijn64tab), ("internal/strconv.uint64pow10", Lib.tabData .u64 Lib.pow10Tab)] := by kernel_rfl
    rw [← e]; exact h
  have hT := Lib.tabIs_of_head (t := ((Tryd.prog.globals[0]?).map (·.type)).getD 0) (e := 36) (n := 20) tab_named (by kernel_rfl) (by kernel_rfl) (by kernel_rfl) (by kernel_rfl) (by kernel_rfl) h1.tail.tail
  exact fun p hp => laid_of_tab hT tab_named (by decide) p (by rw [← tab_cells]; exact hp)

theorem configForms_door (os : Os) (args : Array Value) : laidMetH Tryd.prog Rows.configFormsRow.laid ((World.doorLaid Tryd.prog 400 os).forCall (fun _ _ => 0) ⟨#[], args, []⟩).memory :=
  laidMetH_of_parts3 (fuel := 8) (laidMet_of_run' 8 (by kernel_rfl) (by kernel_rfl)) (by kernel_rfl) (by kernel_rfl)

theorem configForms_lifted (os : Os) (started : os.Started) (H : Type) (en : TypeId × Value → H) :
    ReturnsInHanded {} Tryd.checked os 3 .any (fun w args => (Rows.configFormsSpec.pre en Tryd.prog Tryd.f3 [] false w args ∧ laidMetH Tryd.prog Rows.configFormsRow.laid w) ∧ sizedMet en Tryd.prog Tryd.f3 (OpenSpec.ofChange Rows.configFormsSpec) false w args)
      (Rows.configFormsSpec.post en Tryd.prog Tryd.f3 false true false false) := by
  refine law_laid (C := Tryd.checked) (ps := [(true, TConfig), (false, .str)]) (tb := 4) own0 started laidOut0 (by kernel_rfl) Tryd.func3 (by kernel_rfl) (by kernel_rfl) (by kernel_rfl) rfl
    (fun H ds h => by match ds, h with | [_, _], _ => rfl) (X := fun w => laidMetH Tryd.prog Rows.configFormsRow.laid w) (fun _ _ hh h => h.of_heap hh) configForms_laid
    (ChangeSpec.witness_shaped (enc := en) (C := Tryd.checked) (os := os) (X := fun w _ => laidMetH Tryd.prog Rows.configFormsRow.laid w) false (World.doorLaid Tryd.prog 400 os) #[.agg #[(.int .i64 0), (.int .i64 0), (.int .i64 0), (.int .i64 0), (.int .i64 0), (.int .i64 0), (.int .i64 0), (.int .i64 0), (.int .i64 0), (.int .i64 0), (.int .i64 0), (.int .i64 0), (.int .i64 0), (.int .i64 0), (.int .i64 0), (.bool false), (.int .i64 0), (.int .i64 0), (.int .i64 0), (.int .i64 0), (.int .i64 0), (.string ⟨#[]⟩), (.bool false)], .string ⟨#[]⟩] 8 rfl (World.shaped_of_RefB (by kernel_rfl) (by kernel_rfl)) (by kernel_rfl) (by kernel_rfl) (by kernel_rfl) (configForms_door os _))
    fun (x : (El TConfig) × ByteArray × Unit) hx => ?_
  exact lForms_R (x.1) (x.2.1) (lForms_pre (x.1) (x.2.1) hx)

theorem configForms_holds : Rows.ConfigFormsSaid :=
  OpenClaim.holds_of_wide 3 Tryd.f3 rfl rfl rfl rfl rfl rfl rfl ⟨rfl, rfl, rfl, rfl, rfl⟩ rfl rfl rfl rfl rfl (by kernel_rfl) Tryd.func3 (by kernel_rfl)
    (of_decide_eq_true (by kernel_rfl)) (by unfold Func.isWrapper; first | (rw [if_pos (by decide +kernel)]; kernel_rfl) | (rw [if_neg (by decide +kernel)]; exact ⟨rfl, rfl⟩))
    (fun os started H enc _ => configForms_lifted os started H enc)

theorem configForms_card : Rows.ConfigFormsCardSaid :=
  Claim7.holds_tied_plain_at .later [] [.data, .data, .data] true Rows.configFormsCard.stood.harness false
    configForms_holds (fun _ h => by cases h) (by kernel_rfl) (fun _ h => by cases h) configForms_row_tie rfl ⟨rfl, rfl⟩ (by kernel_rfl) rfl
    (fun f fn hf hfn => by
      obtain rfl : f = 3 := Option.some.inj ((show Tryd.prog.funcNamed "triage/triagelaw6.ConfigForms" = some 3 by kernel_rfl).symm.trans hf) |>.symm
      obtain rfl : fn = Tryd.f3 := (Option.some.inj (Tryd.func3.symm.trans hfn)).symm
      exact ⟨by kernel_rfl, fun j t ht => by
        have hp : Tryd.f3.params = #[23, 9] := by kernel_rfl
        rw [hp] at ht
        have hm : t ∈ [23, 9] := by simpa using Array.mem_of_getElem? ht
        have hall : ([23, 9].all fun u => !Tryd.prog.wantsStandIn u) = true := by kernel_rfl
        exact (show Tryd.prog.wantsStandIn t = false by simpa using List.all_eq_true.1 hall t hm)⟩)
    (by kernel_rfl)

end Go.Proofs.YtlakpbfmcnlnbaaDoor
