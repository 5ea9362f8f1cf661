/-
  Steps of the bodies, from checkpoint to checkpoint (printed by wip/VE/mk2.py).
-/
import Derived.Test.YtlakpbfmcnlnbaaDoorLU
namespace Go.Proofs.YtlakpbfmcnlnbaaDoor
open Go VE

/-! ### triage/triagelaw6.ConfigBounds -/
abbrev lBounds.ps : List AK := [.d false (.int .i64), .d false (.int .i64)]
def lBounds.pre : ElA lBounds.ps → Bool := fun (x : Int × Int × Unit) => fits (.int .i64) (x.1) && (fits (.int .i64) (x.2.1) && ((fun w n => decide (-9223372036854775808 ≤ w ∧ w ≤ 9223372036854775807 ∧ -9223372036854775808 ≤ n ∧ n ≤ 9223372036854775807)) x.1 x.2.1 && (true)))
noncomputable def lBounds.res : ElA lBounds.ps → IV := fun (x : Int × Int × Unit) => (fun _ _ => vb true) x.1 x.2.1
noncomputable def lBounds.sp : ISpec := spOf lBounds.ps lBounds.pre lBounds.res
abbrev lBounds.OK : Prop := SpecOK Tryd.prog 7 lBounds.sp
noncomputable def lBounds.body : Code := bodyOf Tryd.f7
noncomputable def lBounds.rs : List ResultVar := Tryd.f7.results.toList
def lBounds.live : List (Nat × Live) := []
noncomputable def lBounds.specs  : List (Nat × (List Bool × ISpec)) := [(10, ([], awake.sp)), (17, ([], cDef.sp)), (11, ([], parse.sp)), (13, ([], text.sp)), (15, ([], cMay.sp))]
noncomputable def lBounds.ospecs  : List (Nat × OS) := []
noncomputable def lBounds.cfg  : Cfg := ⟨lkp tab, lkp (lBounds.specs ), lkp lBounds.live, ⟨lkp (lBounds.ospecs ), [], none, false, []⟩⟩
noncomputable def lBounds.go  (m : Nat) (x0 : Int) (x1 : Int) : R := run (lBounds.cfg ) 134 lBounds.rs m [.code lBounds.body] (enter (ivA lBounds.ps (x0, x1, ())))
theorem lBounds.start  (m : Nat) (x0 : Int) (x1 : Int) : lBounds.go  (m + 1) x0 x1 =
  cond ((Int.tmod (IntKind.u64.wrap x0) (8 : Int)) == (0 : Int)) (
   cond (decide (x1 ≥ (10 : Int))) (
    test (parse.pre ((textC (x1, defC.2)), Unit.unit)) (
     cond ((mayC (x1, defC.2)) == (decide (x1 ≤ (10000 : Int)))) (
      cond ((Bool.not ((ByteArray.toList (textC (x1, defC.2))) == (ByteArray.toList (⟨#[]⟩ : ByteArray)))) == (decide (x1 ≤ (10000 : Int)))) (
       cond (Bool.not (decide (x1 ≤ (10000 : Int)))) (
        cond (decide (x1 ≤ (10000 : Int))) (
         some ((.c (.v (.bool true))), [])) (
         cond (ceq (parseC (textC (x1, defC.2))).1 defC) (
          some ((.c (.v (.bool true))), [])) (
          some ((.c (.v (.bool false))), [])))) (
        cond ((((parseC (textC (x1, defC.2)))).2).2 == (0 : Int)) (
         cond (ceq (parseC (textC (x1, defC.2))).1 (x1, defC.2)) (
          cond (decide (x1 ≤ (10000 : Int))) (
           some ((.c (.v (.bool true))), [])) (
           cond (ceq (parseC (textC (x1, defC.2))).1 defC) (
            some ((.c (.v (.bool true))), [])) (
            some ((.c (.v (.bool false))), [])))) (
          some ((.c (.v (.bool false))), []))) (
         some ((.c (.v (.bool false))), [])))) (
       some ((.c (.v (.bool false))), []))) (
      some ((.c (.v (.bool false))), [])))) (
    test (parse.pre ((textC (x1, defC.2)), Unit.unit)) (
     cond ((mayC (x1, defC.2)) == false) (
      cond ((Bool.not ((ByteArray.toList (textC (x1, defC.2))) == (ByteArray.toList (⟨#[]⟩ : ByteArray)))) == false) (
       cond (ceq (parseC (textC (x1, defC.2))).1 defC) (
        some ((.c (.v (.bool true))), [])) (
        some ((.c (.v (.bool false))), []))) (
       some ((.c (.v (.bool false))), []))) (
      some ((.c (.v (.bool false))), []))))) (
   cond ((Int.tmod (IntKind.u64.wrap x0) (8 : Int)) == (1 : Int)) (
    cond (decide (x1 ≥ (1 : Int))) (
     test (parse.pre ((textC (defC.1, (defC.2.1, (defC.2.2.1, (x1, defC.2.2.2.2))))), Unit.unit)) (
      cond ((mayC (defC.1, (defC.2.1, (defC.2.2.1, (x1, defC.2.2.2.2))))) == (decide (x1 ≤ (10 : Int)))) (
       cond ((Bool.not ((ByteArray.toList (textC (defC.1, (defC.2.1, (defC.2.2.1, (x1, defC.2.2.2.2)))))) == (ByteArray.toList (⟨#[]⟩ : ByteArray)))) == (decide (x1 ≤ (10 : Int)))) (
        cond (Bool.not (decide (x1 ≤ (10 : Int)))) (
         cond (decide (x1 ≤ (10 : Int))) (
          some ((.c (.v (.bool true))), [])) (
          cond (ceq (parseC (textC (defC.1, (defC.2.1, (defC.2.2.1, (x1, defC.2.2.2.2)))))).1 defC) (
           some ((.c (.v (.bool true))), [])) (
           some ((.c (.v (.bool false))), [])))) (
         cond ((((parseC (textC (defC.1, (defC.2.1, (defC.2.2.1, (x1, defC.2.2.2.2))))))).2).2 == (0 : Int)) (
          cond (ceq (parseC (textC (defC.1, (defC.2.1, (defC.2.2.1, (x1, defC.2.2.2.2)))))).1 (defC.1, (defC.2.1, (defC.2.2.1, (x1, defC.2.2.2.2))))) (
           cond (decide (x1 ≤ (10 : Int))) (
            some ((.c (.v (.bool true))), [])) (
            cond (ceq (parseC (textC (defC.1, (defC.2.1, (defC.2.2.1, (x1, defC.2.2.2.2)))))).1 defC) (
             some ((.c (.v (.bool true))), [])) (
             some ((.c (.v (.bool false))), [])))) (
           some ((.c (.v (.bool false))), []))) (
          some ((.c (.v (.bool false))), [])))) (
        some ((.c (.v (.bool false))), []))) (
       some ((.c (.v (.bool false))), [])))) (
     test (parse.pre ((textC (defC.1, (defC.2.1, (defC.2.2.1, (x1, defC.2.2.2.2))))), Unit.unit)) (
      cond ((mayC (defC.1, (defC.2.1, (defC.2.2.1, (x1, defC.2.2.2.2))))) == false) (
       cond ((Bool.not ((ByteArray.toList (textC (defC.1, (defC.2.1, (defC.2.2.1, (x1, defC.2.2.2.2)))))) == (ByteArray.toList (⟨#[]⟩ : ByteArray)))) == false) (
        cond (ceq (parseC (textC (defC.1, (defC.2.1, (defC.2.2.1, (x1, defC.2.2.2.2)))))).1 defC) (
         some ((.c (.v (.bool true))), [])) (
         some ((.c (.v (.bool false))), []))) (
        some ((.c (.v (.bool false))), []))) (
       some ((.c (.v (.bool false))), []))))) (
    cond ((Int.tmod (IntKind.u64.wrap x0) (8 : Int)) == (2 : Int)) (
     cond (decide (x1 ≥ (0 : Int))) (
      test (parse.pre ((textC (defC.1, (defC.2.1, (defC.2.2.1, (defC.2.2.2.1, (defC.2.2.2.2.1, (x1, defC.2.2.2.2.2.2))))))), Unit.unit)) (
       cond ((mayC (defC.1, (defC.2.1, (defC.2.2.1, (defC.2.2.2.1, (defC.2.2.2.2.1, (x1, defC.2.2.2.2.2.2))))))) == (decide (x1 ≤ (100 : Int)))) (
        cond ((Bool.not ((ByteArray.toList (textC (defC.1, (defC.2.1, (defC.2.2.1, (defC.2.2.2.1, (defC.2.2.2.2.1, (x1, defC.2.2.2.2.2.2)))))))) == (ByteArray.toList (⟨#[]⟩ : ByteArray)))) == (decide (x1 ≤ (100 : Int)))) (
         cond (Bool.not (decide (x1 ≤ (100 : Int)))) (
          cond (decide (x1 ≤ (100 : Int))) (
           some ((.c (.v (.bool true))), [])) (
           cond (ceq (parseC (textC (defC.1, (defC.2.1, (defC.2.2.1, (defC.2.2.2.1, (defC.2.2.2.2.1, (x1, defC.2.2.2.2.2.2)))))))).1 defC) (
            some ((.c (.v (.bool true))), [])) (
            some ((.c (.v (.bool false))), [])))) (
          cond ((((parseC (textC (defC.1, (defC.2.1, (defC.2.2.1, (defC.2.2.2.1, (defC.2.2.2.2.1, (x1, defC.2.2.2.2.2.2))))))))).2).2 == (0 : Int)) (
           cond (ceq (parseC (textC (defC.1, (defC.2.1, (defC.2.2.1, (defC.2.2.2.1, (defC.2.2.2.2.1, (x1, defC.2.2.2.2.2.2)))))))).1 (defC.1, (defC.2.1, (defC.2.2.1, (defC.2.2.2.1, (defC.2.2.2.2.1, (x1, defC.2.2.2.2.2.2))))))) (
            cond (decide (x1 ≤ (100 : Int))) (
             some ((.c (.v (.bool true))), [])) (
             cond (ceq (parseC (textC (defC.1, (defC.2.1, (defC.2.2.1, (defC.2.2.2.1, (defC.2.2.2.2.1, (x1, defC.2.2.2.2.2.2)))))))).1 defC) (
              some ((.c (.v (.bool true))), [])) (
              some ((.c (.v (.bool false))), [])))) (
            some ((.c (.v (.bool false))), []))) (
           some ((.c (.v (.bool false))), [])))) (
         some ((.c (.v (.bool false))), []))) (
        some ((.c (.v (.bool false))), [])))) (
      test (parse.pre ((textC (defC.1, (defC.2.1, (defC.2.2.1, (defC.2.2.2.1, (defC.2.2.2.2.1, (x1, defC.2.2.2.2.2.2))))))), Unit.unit)) (
       cond ((mayC (defC.1, (defC.2.1, (defC.2.2.1, (defC.2.2.2.1, (defC.2.2.2.2.1, (x1, defC.2.2.2.2.2.2))))))) == false) (
        cond ((Bool.not ((ByteArray.toList (textC (defC.1, (defC.2.1, (defC.2.2.1, (defC.2.2.2.1, (defC.2.2.2.2.1, (x1, defC.2.2.2.2.2.2)))))))) == (ByteArray.toList (⟨#[]⟩ : ByteArray)))) == false) (
         cond (ceq (parseC (textC (defC.1, (defC.2.1, (defC.2.2.1, (defC.2.2.2.1, (defC.2.2.2.2.1, (x1, defC.2.2.2.2.2.2)))))))).1 defC) (
          some ((.c (.v (.bool true))), [])) (
          some ((.c (.v (.bool false))), []))) (
         some ((.c (.v (.bool false))), []))) (
        some ((.c (.v (.bool false))), []))))) (
     cond ((Int.tmod (IntKind.u64.wrap x0) (8 : Int)) == (3 : Int)) (
      cond (decide (x1 ≥ (100 : Int))) (
       test (parse.pre ((textC (defC.1, (defC.2.1, (defC.2.2.1, (defC.2.2.2.1, (defC.2.2.2.2.1, (defC.2.2.2.2.2.1, (x1, defC.2.2.2.2.2.2.2)))))))), Unit.unit)) (
        cond ((mayC (defC.1, (defC.2.1, (defC.2.2.1, (defC.2.2.2.1, (defC.2.2.2.2.1, (defC.2.2.2.2.2.1, (x1, defC.2.2.2.2.2.2.2)))))))) == (decide (x1 ≤ (1000 : Int)))) (
         cond ((Bool.not ((ByteArray.toList (textC (defC.1, (defC.2.1, (defC.2.2.1, (defC.2.2.2.1, (defC.2.2.2.2.1, (defC.2.2.2.2.2.1, (x1, defC.2.2.2.2.2.2.2))))))))) == (ByteArray.toList (⟨#[]⟩ : ByteArray)))) == (decide (x1 ≤ (1000 : Int)))) (
          cond (Bool.not (decide (x1 ≤ (1000 : Int)))) (
           cond (decide (x1 ≤ (1000 : Int))) (
            some ((.c (.v (.bool true))), [])) (
            cond (ceq (parseC (textC (defC.1, (defC.2.1, (defC.2.2.1, (defC.2.2.2.1, (defC.2.2.2.2.1, (defC.2.2.2.2.2.1, (x1, defC.2.2.2.2.2.2.2))))))))).1 defC) (
             some ((.c (.v (.bool true))), [])) (
             some ((.c (.v (.bool false))), [])))) (
           cond ((((parseC (textC (defC.1, (defC.2.1, (defC.2.2.1, (defC.2.2.2.1, (defC.2.2.2.2.1, (defC.2.2.2.2.2.1, (x1, defC.2.2.2.2.2.2.2)))))))))).2).2 == (0 : Int)) (
            cond (ceq (parseC (textC (defC.1, (defC.2.1, (defC.2.2.1, (defC.2.2.2.1, (defC.2.2.2.2.1, (defC.2.2.2.2.2.1, (x1, defC.2.2.2.2.2.2.2))))))))).1 (defC.1, (defC.2.1, (defC.2.2.1, (defC.2.2.2.1, (defC.2.2.2.2.1, (defC.2.2.2.2.2.1, (x1, defC.2.2.2.2.2.2.2)))))))) (
             cond (decide (x1 ≤ (1000 : Int))) (
              some ((.c (.v (.bool true))), [])) (
              cond (ceq (parseC (textC (defC.1, (defC.2.1, (defC.2.2.1, (defC.2.2.2.1, (defC.2.2.2.2.1, (defC.2.2.2.2.2.1, (x1, defC.2.2.2.2.2.2.2))))))))).1 defC) (
               some ((.c (.v (.bool true))), [])) (
               some ((.c (.v (.bool false))), [])))) (
             some ((.c (.v (.bool false))), []))) (
            some ((.c (.v (.bool false))), [])))) (
          some ((.c (.v (.bool false))), []))) (
         some ((.c (.v (.bool false))), [])))) (
       test (parse.pre ((textC (defC.1, (defC.2.1, (defC.2.2.1, (defC.2.2.2.1, (defC.2.2.2.2.1, (defC.2.2.2.2.2.1, (x1, defC.2.2.2.2.2.2.2)))))))), Unit.unit)) (
        cond ((mayC (defC.1, (defC.2.1, (defC.2.2.1, (defC.2.2.2.1, (defC.2.2.2.2.1, (defC.2.2.2.2.2.1, (x1, defC.2.2.2.2.2.2.2)))))))) == false) (
         cond ((Bool.not ((ByteArray.toList (textC (defC.1, (defC.2.1, (defC.2.2.1, (defC.2.2.2.1, (defC.2.2.2.2.1, (defC.2.2.2.2.2.1, (x1, defC.2.2.2.2.2.2.2))))))))) == (ByteArray.toList (⟨#[]⟩ : ByteArray)))) == false) (
          cond (ceq (parseC (textC (defC.1, (defC.2.1, (defC.2.2.1, (defC.2.2.2.1, (defC.2.2.2.2.1, (defC.2.2.2.2.2.1, (x1, defC.2.2.2.2.2.2.2))))))))).1 defC) (
           some ((.c (.v (.bool true))), [])) (
           some ((.c (.v (.bool false))), []))) (
          some ((.c (.v (.bool false))), []))) (
         some ((.c (.v (.bool false))), []))))) (
      cond ((Int.tmod (IntKind.u64.wrap x0) (8 : Int)) == (4 : Int)) (
       cond (decide (x1 ≥ (10 : Int))) (
        test (parse.pre ((textC (defC.1, (defC.2.1, (defC.2.2.1, (defC.2.2.2.1, (defC.2.2.2.2.1, (defC.2.2.2.2.2.1, (defC.2.2.2.2.2.2.1, (defC.2.2.2.2.2.2.2.1, (x1, defC.2.2.2.2.2.2.2.2.2)))))))))), Unit.unit)) (
         cond ((mayC (defC.1, (defC.2.1, (defC.2.2.1, (defC.2.2.2.1, (defC.2.2.2.2.1, (defC.2.2.2.2.2.1, (defC.2.2.2.2.2.2.1, (defC.2.2.2.2.2.2.2.1, (x1, defC.2.2.2.2.2.2.2.2.2)))))))))) == (decide (x1 ≤ (10000 : Int)))) (
          cond ((Bool.not ((ByteArray.toList (textC (defC.1, (defC.2.1, (defC.2.2.1, (defC.2.2.2.1, (defC.2.2.2.2.1, (defC.2.2.2.2.2.1, (defC.2.2.2.2.2.2.1, (defC.2.2.2.2.2.2.2.1, (x1, defC.2.2.2.2.2.2.2.2.2))))))))))) == (ByteArray.toList (⟨#[]⟩ : ByteArray)))) == (decide (x1 ≤ (10000 : Int)))) (
           cond (Bool.not (decide (x1 ≤ (10000 : Int)))) (
            cond (decide (x1 ≤ (10000 : Int))) (
             some ((.c (.v (.bool true))), [])) (
             cond (ceq (parseC (textC (defC.1, (defC.2.1, (defC.2.2.1, (defC.2.2.2.1, (defC.2.2.2.2.1, (defC.2.2.2.2.2.1, (defC.2.2.2.2.2.2.1, (defC.2.2.2.2.2.2.2.1, (x1, defC.2.2.2.2.2.2.2.2.2))))))))))).1 defC) (
              some ((.c (.v (.bool true))), [])) (
              some ((.c (.v (.bool false))), [])))) (
            cond ((((parseC (textC (defC.1, (defC.2.1, (defC.2.2.1, (defC.2.2.2.1, (defC.2.2.2.2.1, (defC.2.2.2.2.2.1, (defC.2.2.2.2.2.2.1, (defC.2.2.2.2.2.2.2.1, (x1, defC.2.2.2.2.2.2.2.2.2)))))))))))).2).2 == (0 : Int)) (
             cond (ceq (parseC (textC (defC.1, (defC.2.1, (defC.2.2.1, (defC.2.2.2.1, (defC.2.2.2.2.1, (defC.2.2.2.2.2.1, (defC.2.2.2.2.2.2.1, (defC.2.2.2.2.2.2.2.1, (x1, defC.2.2.2.2.2.2.2.2.2))))))))))).1 (defC.1, (defC.2.1, (defC.2.2.1, (defC.2.2.2.1, (defC.2.2.2.2.1, (defC.2.2.2.2.2.1, (defC.2.2.2.2.2.2.1, (defC.2.2.2.2.2.2.2.1, (x1, defC.2.2.2.2.2.2.2.2.2)))))))))) (
              cond (decide (x1 ≤ (10000 : Int))) (
               some ((.c (.v (.bool true))), [])) (
               cond (ceq (parseC (textC (defC.1, (defC.2.1, (defC.2.2.1, (defC.2.2.2.1, (defC.2.2.2.2.1, (defC.2.2.2.2.2.1, (defC.2.2.2.2.2.2.1, (defC.2.2.2.2.2.2.2.1, (x1, defC.2.2.2.2.2.2.2.2.2))))))))))).1 defC) (
                some ((.c (.v (.bool true))), [])) (
                some ((.c (.v (.bool false))), [])))) (
              some ((.c (.v (.bool false))), []))) (
             some ((.c (.v (.bool false))), [])))) (
           some ((.c (.v (.bool false))), []))) (
          some ((.c (.v (.bool false))), [])))) (
        test (parse.pre ((textC (defC.1, (defC.2.1, (defC.2.2.1, (defC.2.2.2.1, (defC.2.2.2.2.1, (defC.2.2.2.2.2.1, (defC.2.2.2.2.2.2.1, (defC.2.2.2.2.2.2.2.1, (x1, defC.2.2.2.2.2.2.2.2.2)))))))))), Unit.unit)) (
         cond ((mayC (defC.1, (defC.2.1, (defC.2.2.1, (defC.2.2.2.1, (defC.2.2.2.2.1, (defC.2.2.2.2.2.1, (defC.2.2.2.2.2.2.1, (defC.2.2.2.2.2.2.2.1, (x1, defC.2.2.2.2.2.2.2.2.2)))))))))) == false) (
          cond ((Bool.not ((ByteArray.toList (textC (defC.1, (defC.2.1, (defC.2.2.1, (defC.2.2.2.1, (defC.2.2.2.2.1, (defC.2.2.2.2.2.1, (defC.2.2.2.2.2.2.1, (defC.2.2.2.2.2.2.2.1, (x1, defC.2.2.2.2.2.2.2.2.2))))))))))) == (ByteArray.toList (⟨#[]⟩ : ByteArray)))) == false) (
           cond (ceq (parseC (textC (defC.1, (defC.2.1, (defC.2.2.1, (defC.2.2.2.1, (defC.2.2.2.2.1, (defC.2.2.2.2.2.1, (defC.2.2.2.2.2.2.1, (defC.2.2.2.2.2.2.2.1, (x1, defC.2.2.2.2.2.2.2.2.2))))))))))).1 defC) (
            some ((.c (.v (.bool true))), [])) (
            some ((.c (.v (.bool false))), []))) (
           some ((.c (.v (.bool false))), []))) (
          some ((.c (.v (.bool false))), []))))) (
       cond ((Int.tmod (IntKind.u64.wrap x0) (8 : Int)) == (5 : Int)) (
        cond (decide (x1 ≥ (0 : Int))) (
         test (parse.pre ((textC (defC.1, (defC.2.1, (defC.2.2.1, (defC.2.2.2.1, (defC.2.2.2.2.1, (defC.2.2.2.2.2.1, (defC.2.2.2.2.2.2.1, (defC.2.2.2.2.2.2.2.1, (defC.2.2.2.2.2.2.2.2.1, (defC.2.2.2.2.2.2.2.2.2.1, (defC.2.2.2.2.2.2.2.2.2.2.1, (x1, defC.2.2.2.2.2.2.2.2.2.2.2.2))))))))))))), Unit.unit)) (
          cond ((mayC (defC.1, (defC.2.1, (defC.2.2.1, (defC.2.2.2.1, (defC.2.2.2.2.1, (defC.2.2.2.2.2.1, (defC.2.2.2.2.2.2.1, (defC.2.2.2.2.2.2.2.1, (defC.2.2.2.2.2.2.2.2.1, (defC.2.2.2.2.2.2.2.2.2.1, (defC.2.2.2.2.2.2.2.2.2.2.1, (x1, defC.2.2.2.2.2.2.2.2.2.2.2.2))))))))))))) == (decide (x1 ≤ (10000 : Int)))) (
           cond ((Bool.not ((ByteArray.toList (textC (defC.1, (defC.2.1, (defC.2.2.1, (defC.2.2.2.1, (defC.2.2.2.2.1, (defC.2.2.2.2.2.1, (defC.2.2.2.2.2.2.1, (defC.2.2.2.2.2.2.2.1, (defC.2.2.2.2.2.2.2.2.1, (defC.2.2.2.2.2.2.2.2.2.1, (defC.2.2.2.2.2.2.2.2.2.2.1, (x1, defC.2.2.2.2.2.2.2.2.2.2.2.2)))))))))))))) == (ByteArray.toList (⟨#[]⟩ : ByteArray)))) == (decide (x1 ≤ (10000 : Int)))) (
            cond (Bool.not (decide (x1 ≤ (10000 : Int)))) (
             cond (decide (x1 ≤ (10000 : Int))) (
              some ((.c (.v (.bool true))), [])) (
              cond (ceq (parseC (textC (defC.1, (defC.2.1, (defC.2.2.1, (defC.2.2.2.1, (defC.2.2.2.2.1, (defC.2.2.2.2.2.1, (defC.2.2.2.2.2.2.1, (defC.2.2.2.2.2.2.2.1, (defC.2.2.2.2.2.2.2.2.1, (defC.2.2.2.2.2.2.2.2.2.1, (defC.2.2.2.2.2.2.2.2.2.2.1, (x1, defC.2.2.2.2.2.2.2.2.2.2.2.2)))))))))))))).1 defC) (
               some ((.c (.v (.bool true))), [])) (
               some ((.c (.v (.bool false))), [])))) (
             cond ((((parseC (textC (defC.1, (defC.2.1, (defC.2.2.1, (defC.2.2.2.1, (defC.2.2.2.2.1, (defC.2.2.2.2.2.1, (defC.2.2.2.2.2.2.1, (defC.2.2.2.2.2.2.2.1, (defC.2.2.2.2.2.2.2.2.1, (defC.2.2.2.2.2.2.2.2.2.1, (defC.2.2.2.2.2.2.2.2.2.2.1, (x1, defC.2.2.2.2.2.2.2.2.2.2.2.2))))))))))))))).2).2 == (0 : Int)) (
              cond (ceq (parseC (textC (defC.1, (defC.2.1, (defC.2.2.1, (defC.2.2.2.1, (defC.2.2.2.2.1, (defC.2.2.2.2.2.1, (defC.2.2.2.2.2.2.1, (defC.2.2.2.2.2.2.2.1, (defC.2.2.2.2.2.2.2.2.1, (defC.2.2.2.2.2.2.2.2.2.1, (defC.2.2.2.2.2.2.2.2.2.2.1, (x1, defC.2.2.2.2.2.2.2.2.2.2.2.2)))))))))))))).1 (defC.1, (defC.2.1, (defC.2.2.1, (defC.2.2.2.1, (defC.2.2.2.2.1, (defC.2.2.2.2.2.1, (defC.2.2.2.2.2.2.1, (defC.2.2.2.2.2.2.2.1, (defC.2.2.2.2.2.2.2.2.1, (defC.2.2.2.2.2.2.2.2.2.1, (defC.2.2.2.2.2.2.2.2.2.2.1, (x1, defC.2.2.2.2.2.2.2.2.2.2.2.2))))))))))))) (
               cond (decide (x1 ≤ (10000 : Int))) (
                some ((.c (.v (.bool true))), [])) (
                cond (ceq (parseC (textC (defC.1, (defC.2.1, (defC.2.2.1, (defC.2.2.2.1, (defC.2.2.2.2.1, (defC.2.2.2.2.2.1, (defC.2.2.2.2.2.2.1, (defC.2.2.2.2.2.2.2.1, (defC.2.2.2.2.2.2.2.2.1, (defC.2.2.2.2.2.2.2.2.2.1, (defC.2.2.2.2.2.2.2.2.2.2.1, (x1, defC.2.2.2.2.2.2.2.2.2.2.2.2)))))))))))))).1 defC) (
                 some ((.c (.v (.bool true))), [])) (
                 some ((.c (.v (.bool false))), [])))) (
               some ((.c (.v (.bool false))), []))) (
              some ((.c (.v (.bool false))), [])))) (
            some ((.c (.v (.bool false))), []))) (
           some ((.c (.v (.bool false))), [])))) (
         test (parse.pre ((textC (defC.1, (defC.2.1, (defC.2.2.1, (defC.2.2.2.1, (defC.2.2.2.2.1, (defC.2.2.2.2.2.1, (defC.2.2.2.2.2.2.1, (defC.2.2.2.2.2.2.2.1, (defC.2.2.2.2.2.2.2.2.1, (defC.2.2.2.2.2.2.2.2.2.1, (defC.2.2.2.2.2.2.2.2.2.2.1, (x1, defC.2.2.2.2.2.2.2.2.2.2.2.2))))))))))))), Unit.unit)) (
          cond ((mayC (defC.1, (defC.2.1, (defC.2.2.1, (defC.2.2.2.1, (defC.2.2.2.2.1, (defC.2.2.2.2.2.1, (defC.2.2.2.2.2.2.1, (defC.2.2.2.2.2.2.2.1, (defC.2.2.2.2.2.2.2.2.1, (defC.2.2.2.2.2.2.2.2.2.1, (defC.2.2.2.2.2.2.2.2.2.2.1, (x1, defC.2.2.2.2.2.2.2.2.2.2.2.2))))))))))))) == false) (
           cond ((Bool.not ((ByteArray.toList (textC (defC.1, (defC.2.1, (defC.2.2.1, (defC.2.2.2.1, (defC.2.2.2.2.1, (defC.2.2.2.2.2.1, (defC.2.2.2.2.2.2.1, (defC.2.2.2.2.2.2.2.1, (defC.2.2.2.2.2.2.2.2.1, (defC.2.2.2.2.2.2.2.2.2.1, (defC.2.2.2.2.2.2.2.2.2.2.1, (x1, defC.2.2.2.2.2.2.2.2.2.2.2.2)))))))))))))) == (ByteArray.toList (⟨#[]⟩ : ByteArray)))) == false) (
            cond (ceq (parseC (textC (defC.1, (defC.2.1, (defC.2.2.1, (defC.2.2.2.1, (defC.2.2.2.2.1, (defC.2.2.2.2.2.1, (defC.2.2.2.2.2.2.1, (defC.2.2.2.2.2.2.2.1, (defC.2.2.2.2.2.2.2.2.1, (defC.2.2.2.2.2.2.2.2.2.1, (defC.2.2.2.2.2.2.2.2.2.2.1, (x1, defC.2.2.2.2.2.2.2.2.2.2.2.2)))))))))))))).1 defC) (
             some ((.c (.v (.bool true))), [])) (
             some ((.c (.v (.bool false))), []))) (
            some ((.c (.v (.bool false))), []))) (
           some ((.c (.v (.bool false))), []))))) (
        cond ((Int.tmod (IntKind.u64.wrap x0) (8 : Int)) == (6 : Int)) (
         cond (decide (x1 ≥ (1 : Int))) (
          test (parse.pre ((textC (defC.1, (defC.2.1, (defC.2.2.1, (defC.2.2.2.1, (defC.2.2.2.2.1, (defC.2.2.2.2.2.1, (defC.2.2.2.2.2.2.1, (defC.2.2.2.2.2.2.2.1, (defC.2.2.2.2.2.2.2.2.1, (defC.2.2.2.2.2.2.2.2.2.1, (defC.2.2.2.2.2.2.2.2.2.2.1, (defC.2.2.2.2.2.2.2.2.2.2.2.1, (defC.2.2.2.2.2.2.2.2.2.2.2.2.1, (defC.2.2.2.2.2.2.2.2.2.2.2.2.2.1, (defC.2.2.2.2.2.2.2.2.2.2.2.2.2.2.1, (defC.2.2.2.2.2.2.2.2.2.2.2.2.2.2.2.1, (defC.2.2.2.2.2.2.2.2.2.2.2.2.2.2.2.2.1, (defC.2.2.2.2.2.2.2.2.2.2.2.2.2.2.2.2.2.1, (defC.2.2.2.2.2.2.2.2.2.2.2.2.2.2.2.2.2.2.1, (defC.2.2.2.2.2.2.2.2.2.2.2.2.2.2.2.2.2.2.2.1, (x1, defC.2.2.2.2.2.2.2.2.2.2.2.2.2.2.2.2.2.2.2.2.2)))))))))))))))))))))), Unit.unit)) (
           cond ((mayC (defC.1, (defC.2.1, (defC.2.2.1, (defC.2.2.2.1, (defC.2.2.2.2.1, (defC.2.2.2.2.2.1, (defC.2.2.2.2.2.2.1, (defC.2.2.2.2.2.2.2.1, (defC.2.2.2.2.2.2.2.2.1, (defC.2.2.2.2.2.2.2.2.2.1, (defC.2.2.2.2.2.2.2.2.2.2.1, (defC.2.2.2.2.2.2.2.2.2.2.2.1, (defC.2.2.2.2.2.2.2.2.2.2.2.2.1, (defC.2.2.2.2.2.2.2.2.2.2.2.2.2.1, (defC.2.2.2.2.2.2.2.2.2.2.2.2.2.2.1, (defC.2.2.2.2.2.2.2.2.2.2.2.2.2.2.2.1, (defC.2.2.2.2.2.2.2.2.2.2.2.2.2.2.2.2.1, (defC.2.2.2.2.2.2.2.2.2.2.2.2.2.2.2.2.2.1, (defC.2.2.2.2.2.2.2.2.2.2.2.2.2.2.2.2.2.2.1, (defC.2.2.2.2.2.2.2.2.2.2.2.2.2.2.2.2.2.2.2.1, (x1, defC.2.2.2.2.2.2.2.2.2.2.2.2.2.2.2.2.2.2.2.2.2)))))))))))))))))))))) == (decide (x1 ≤ (3 : Int)))) (
            cond ((Bool.not ((ByteArray.toList (textC (defC.1, (defC.2.1, (defC.2.2.1, (defC.2.2.2.1, (defC.2.2.2.2.1, (defC.2.2.2.2.2.1, (defC.2.2.2.2.2.2.1, (defC.2.2.2.2.2.2.2.1, (defC.2.2.2.2.2.2.2.2.1, (defC.2.2.2.2.2.2.2.2.2.1, (defC.2.2.2.2.2.2.2.2.2.2.1, (defC.2.2.2.2.2.2.2.2.2.2.2.1, (defC.2.2.2.2.2.2.2.2.2.2.2.2.1, (defC.2.2.2.2.2.2.2.2.2.2.2.2.2.1, (defC.2.2.2.2.2.2.2.2.2.2.2.2.2.2.1, (defC.2.2.2.2.2.2.2.2.2.2.2.2.2.2.2.1, (defC.2.2.2.2.2.2.2.2.2.2.2.2.2.2.2.2.1, (defC.2.2.2.2.2.2.2.2.2.2.2.2.2.2.2.2.2.1, (defC.2.2.2.2.2.2.2.2.2.2.2.2.2.2.2.2.2.2.1, (defC.2.2.2.2.2.2.2.2.2.2.2.2.2.2.2.2.2.2.2.1, (x1, defC.2.2.2.2.2.2.2.2.2.2.2.2.2.2.2.2.2.2.2.2.2))))))))))))))))))))))) == (ByteArray.toList (⟨#[]⟩ : ByteArray)))) == (decide (x1 ≤ (3 : Int)))) (
             cond (Bool.not (decide (x1 ≤ (3 : Int)))) (
              cond (decide (x1 ≤ (3 : Int))) (
               some ((.c (.v (.bool true))), [])) (
               cond (ceq (parseC (textC (defC.1, (defC.2.1, (defC.2.2.1, (defC.2.2.2.1, (defC.2.2.2.2.1, (defC.2.2.2.2.2.1, (defC.2.2.2.2.2.2.1, (defC.2.2.2.2.2.2.2.1, (defC.2.2.2.2.2.2.2.2.1, (defC.2.2.2.2.2.2.2.2.2.1, (defC.2.2.2.2.2.2.2.2.2.2.1, (defC.2.2.2.2.2.2.2.2.2.2.2.1, (defC.2.2.2.2.2.2.2.2.2.2.2.2.1, (defC.2.2.2.2.2.2.2.2.2.2.2.2.2.1, (defC.2.2.2.2.2.2.2.2.2.2.2.2.2.2.1, (defC.2.2.2.2.2.2.2.2.2.2.2.2.2.2.2.1, (defC.2.2.2.2.2.2.2.2.2.2.2.2.2.2.2.2.1, (defC.2.2.2.2.2.2.2.2.2.2.2.2.2.2.2.2.2.1, (defC.2.2.2.2.2.2.2.2.2.2.2.2.2.2.2.2.2.2.1, (defC.2.2.2.2.2.2.2.2.2.2.2.2.2.2.2.2.2.2.2.1, (x1, defC.2.2.2.2.2.2.2.2.2.2.2.2.2.2.2.2.2.2.2.2.2))))))))))))))))))))))).1 defC) (
                some ((.c (.v (.bool true))), [])) (
                some ((.c (.v (.bool false))), [])))) (
              cond ((((parseC (textC (defC.1, (defC.2.1, (defC.2.2.1, (defC.2.2.2.1, (defC.2.2.2.2.1, (defC.2.2.2.2.2.1, (defC.2.2.2.2.2.2.1, (defC.2.2.2.2.2.2.2.1, (defC.2.2.2.2.2.2.2.2.1, (defC.2.2.2.2.2.2.2.2.2.1, (defC.2.2.2.2.2.2.2.2.2.2.1, (defC.2.2.2.2.2.2.2.2.2.2.2.1, (defC.2.2.2.2.2.2.2.2.2.2.2.2.1, (defC.2.2.2.2.2.2.2.2.2.2.2.2.2.1, (defC.2.2.2.2.2.2.2.2.2.2.2.2.2.2.1, (defC.2.2.2.2.2.2.2.2.2.2.2.2.2.2.2.1, (defC.2.2.2.2.2.2.2.2.2.2.2.2.2.2.2.2.1, (defC.2.2.2.2.2.2.2.2.2.2.2.2.2.2.2.2.2.1, (defC.2.2.2.2.2.2.2.2.2.2.2.2.2.2.2.2.2.2.1, (defC.2.2.2.2.2.2.2.2.2.2.2.2.2.2.2.2.2.2.2.1, (x1, defC.2.2.2.2.2.2.2.2.2.2.2.2.2.2.2.2.2.2.2.2.2)))))))))))))))))))))))).2).2 == (0 : Int)) (
               cond (ceq (parseC (textC (defC.1, (defC.2.1, (defC.2.2.1, (defC.2.2.2.1, (defC.2.2.2.2.1, (defC.2.2.2.2.2.1, (defC.2.2.2.2.2.2.1, (defC.2.2.2.2.2.2.2.1, (defC.2.2.2.2.2.2.2.2.1, (defC.2.2.2.2.2.2.2.2.2.1, (defC.2.2.2.2.2.2.2.2.2.2.1, (defC.2.2.2.2.2.2.2.2.2.2.2.1, (defC.2.2.2.2.2.2.2.2.2.2.2.2.1, (defC.2.2.2.2.2.2.2.2.2.2.2.2.2.1, (defC.2.2.2.2.2.2.2.2.2.2.2.2.2.2.1, (defC.2.2.2.2.2.2.2.2.2.2.2.2.2.2.2.1, (defC.2.2.2.2.2.2.2.2.2.2.2.2.2.2.2.2.1, (defC.2.2.2.2.2.2.2.2.2.2.2.2.2.2.2.2.2.1, (defC.2.2.2.2.2.2.2.2.2.2.2.2.2.2.2.2.2.2.1, (defC.2.2.2.2.2.2.2.2.2.2.2.2.2.2.2.2.2.2.2.1, (x1, defC.2.2.2.2.2.2.2.2.2.2.2.2.2.2.2.2.2.2.2.2.2))))))))))))))))))))))).1 (defC.1, (defC.2.1, (defC.2.2.1, (defC.2.2.2.1, (defC.2.2.2.2.1, (defC.2.2.2.2.2.1, (defC.2.2.2.2.2.2.1, (defC.2.2.2.2.2.2.2.1, (defC.2.2.2.2.2.2.2.2.1, (defC.2.2.2.2.2.2.2.2.2.1, (defC.2.2.2.2.2.2.2.2.2.2.1, (defC.2.2.2.2.2.2.2.2.2.2.2.1, (defC.2.2.2.2.2.2.2.2.2.2.2.2.1, (defC.2.2.2.2.2.2.2.2.2.2.2.2.2.1, (defC.2.2.2.2.2.2.2.2.2.2.2.2.2.2.1, (defC.2.2.2.2.2.2.2.2.2.2.2.2.2.2.2.1, (defC.2.2.2.2.2.2.2.2.2.2.2.2.2.2.2.2.1, (defC.2.2.2.2.2.2.2.2.2.2.2.2.2.2.2.2.2.1, (defC.2.2.2.2.2.2.2.2.2.2.2.2.2.2.2.2.2.2.1, (defC.2.2.2.2.2.2.2.2.2.2.2.2.2.2.2.2.2.2.2.1, (x1, defC.2.2.2.2.2.2.2.2.2.2.2.2.2.2.2.2.2.2.2.2.2)))))))))))))))))))))) (
                cond (decide (x1 ≤ (3 : Int))) (
                 some ((.c (.v (.bool true))), [])) (
                 cond (ceq (parseC (textC (defC.1, (defC.2.1, (defC.2.2.1, (defC.2.2.2.1, (defC.2.2.2.2.1, (defC.2.2.2.2.2.1, (defC.2.2.2.2.2.2.1, (defC.2.2.2.2.2.2.2.1, (defC.2.2.2.2.2.2.2.2.1, (defC.2.2.2.2.2.2.2.2.2.1, (defC.2.2.2.2.2.2.2.2.2.2.1, (defC.2.2.2.2.2.2.2.2.2.2.2.1, (defC.2.2.2.2.2.2.2.2.2.2.2.2.1, (defC.2.2.2.2.2.2.2.2.2.2.2.2.2.1, (defC.2.2.2.2.2.2.2.2.2.2.2.2.2.2.1, (defC.2.2.2.2.2.2.2.2.2.2.2.2.2.2.2.1, (defC.2.2.2.2.2.2.2.2.2.2.2.2.2.2.2.2.1, (defC.2.2.2.2.2.2.2.2.2.2.2.2.2.2.2.2.2.1, (defC.2.2.2.2.2.2.2.2.2.2.2.2.2.2.2.2.2.2.1, (defC.2.2.2.2.2.2.2.2.2.2.2.2.2.2.2.2.2.2.2.1, (x1, defC.2.2.2.2.2.2.2.2.2.2.2.2.2.2.2.2.2.2.2.2.2))))))))))))))))))))))).1 defC) (
                  some ((.c (.v (.bool true))), [])) (
                  some ((.c (.v (.bool false))), [])))) (
                some ((.c (.v (.bool false))), []))) (
               some ((.c (.v (.bool false))), [])))) (
             some ((.c (.v (.bool false))), []))) (
            some ((.c (.v (.bool false))), [])))) (
          test (parse.pre ((textC (defC.1, (defC.2.1, (defC.2.2.1, (defC.2.2.2.1, (defC.2.2.2.2.1, (defC.2.2.2.2.2.1, (defC.2.2.2.2.2.2.1, (defC.2.2.2.2.2.2.2.1, (defC.2.2.2.2.2.2.2.2.1, (defC.2.2.2.2.2.2.2.2.2.1, (defC.2.2.2.2.2.2.2.2.2.2.1, (defC.2.2.2.2.2.2.2.2.2.2.2.1, (defC.2.2.2.2.2.2.2.2.2.2.2.2.1, (defC.2.2.2.2.2.2.2.2.2.2.2.2.2.1, (defC.2.2.2.2.2.2.2.2.2.2.2.2.2.2.1, (defC.2.2.2.2.2.2.2.2.2.2.2.2.2.2.2.1, (defC.2.2.2.2.2.2.2.2.2.2.2.2.2.2.2.2.1, (defC.2.2.2.2.2.2.2.2.2.2.2.2.2.2.2.2.2.1, (defC.2.2.2.2.2.2.2.2.2.2.2.2.2.2.2.2.2.2.1, (defC.2.2.2.2.2.2.2.2.2.2.2.2.2.2.2.2.2.2.2.1, (x1, defC.2.2.2.2.2.2.2.2.2.2.2.2.2.2.2.2.2.2.2.2.2)))))))))))))))))))))), Unit.unit)) (
           cond ((mayC (defC.1, (defC.2.1, (defC.2.2.1, (defC.2.2.2.1, (defC.2.2.2.2.1, (defC.2.2.2.2.2.1, (defC.2.2.2.2.2.2.1, (defC.2.2.2.2.2.2.2.1, (defC.2.2.2.2.2.2.2.2.1, (defC.2.2.2.2.2.2.2.2.2.1, (defC.2.2.2.2.2.2.2.2.2.2.1, (defC.2.2.2.2.2.2.2.2.2.2.2.1, (defC.2.2.2.2.2.2.2.2.2.2.2.2.1, (defC.2.2.2.2.2.2.2.2.2.2.2.2.2.1, (defC.2.2.2.2.2.2.2.2.2.2.2.2.2.2.1, (defC.2.2.2.2.2.2.2.2.2.2.2.2.2.2.2.1, (defC.2.2.2.2.2.2.2.2.2.2.2.2.2.2.2.2.1, (defC.2.2.2.2.2.2.2.2.2.2.2.2.2.2.2.2.2.1, (defC.2.2.2.2.2.2.2.2.2.2.2.2.2.2.2.2.2.2.1, (defC.2.2.2.2.2.2.2.2.2.2.2.2.2.2.2.2.2.2.2.1, (x1, defC.2.2.2.2.2.2.2.2.2.2.2.2.2.2.2.2.2.2.2.2.2)))))))))))))))))))))) == false) (
            cond ((Bool.not ((ByteArray.toList (textC (defC.1, (defC.2.1, (defC.2.2.1, (defC.2.2.2.1, (defC.2.2.2.2.1, (defC.2.2.2.2.2.1, (defC.2.2.2.2.2.2.1, (defC.2.2.2.2.2.2.2.1, (defC.2.2.2.2.2.2.2.2.1, (defC.2.2.2.2.2.2.2.2.2.1, (defC.2.2.2.2.2.2.2.2.2.2.1, (defC.2.2.2.2.2.2.2.2.2.2.2.1, (defC.2.2.2.2.2.2.2.2.2.2.2.2.1, (defC.2.2.2.2.2.2.2.2.2.2.2.2.2.1, (defC.2.2.2.2.2.2.2.2.2.2.2.2.2.2.1, (defC.2.2.2.2.2.2.2.2.2.2.2.2.2.2.2.1, (defC.2.2.2.2.2.2.2.2.2.2.2.2.2.2.2.2.1, (defC.2.2.2.2.2.2.2.2.2.2.2.2.2.2.2.2.2.1, (defC.2.2.2.2.2.2.2.2.2.2.2.2.2.2.2.2.2.2.1, (defC.2.2.2.2.2.2.2.2.2.2.2.2.2.2.2.2.2.2.2.1, (x1, defC.2.2.2.2.2.2.2.2.2.2.2.2.2.2.2.2.2.2.2.2.2))))))))))))))))))))))) == (ByteArray.toList (⟨#[]⟩ : ByteArray)))) == false) (
             cond (ceq (parseC (textC (defC.1, (defC.2.1, (defC.2.2.1, (defC.2.2.2.1, (defC.2.2.2.2.1, (defC.2.2.2.2.2.1, (defC.2.2.2.2.2.2.1, (defC.2.2.2.2.2.2.2.1, (defC.2.2.2.2.2.2.2.2.1, (defC.2.2.2.2.2.2.2.2.2.1, (defC.2.2.2.2.2.2.2.2.2.2.1, (defC.2.2.2.2.2.2.2.2.2.2.2.1, (defC.2.2.2.2.2.2.2.2.2.2.2.2.1, (defC.2.2.2.2.2.2.2.2.2.2.2.2.2.1, (defC.2.2.2.2.2.2.2.2.2.2.2.2.2.2.1, (defC.2.2.2.2.2.2.2.2.2.2.2.2.2.2.2.1, (defC.2.2.2.2.2.2.2.2.2.2.2.2.2.2.2.2.1, (defC.2.2.2.2.2.2.2.2.2.2.2.2.2.2.2.2.2.1, (defC.2.2.2.2.2.2.2.2.2.2.2.2.2.2.2.2.2.2.1, (defC.2.2.2.2.2.2.2.2.2.2.2.2.2.2.2.2.2.2.2.1, (x1, defC.2.2.2.2.2.2.2.2.2.2.2.2.2.2.2.2.2.2.2.2.2))))))))))))))))))))))).1 defC) (
              some ((.c (.v (.bool true))), [])) (
              some ((.c (.v (.bool false))), []))) (
             some ((.c (.v (.bool false))), []))) (
            some ((.c (.v (.bool false))), []))))) (
         cond (decide (x1 ≥ (1 : Int))) (
          test (parse.pre ((textC (defC.1, (defC.2.1, (defC.2.2.1, (defC.2.2.2.1, (defC.2.2.2.2.1, (defC.2.2.2.2.2.1, (defC.2.2.2.2.2.2.1, (defC.2.2.2.2.2.2.2.1, (defC.2.2.2.2.2.2.2.2.1, (defC.2.2.2.2.2.2.2.2.2.1, (defC.2.2.2.2.2.2.2.2.2.2.1, (defC.2.2.2.2.2.2.2.2.2.2.2.1, (defC.2.2.2.2.2.2.2.2.2.2.2.2.1, (defC.2.2.2.2.2.2.2.2.2.2.2.2.2.1, (defC.2.2.2.2.2.2.2.2.2.2.2.2.2.2.1, (defC.2.2.2.2.2.2.2.2.2.2.2.2.2.2.2.1, (defC.2.2.2.2.2.2.2.2.2.2.2.2.2.2.2.2.1, (defC.2.2.2.2.2.2.2.2.2.2.2.2.2.2.2.2.2.1, (defC.2.2.2.2.2.2.2.2.2.2.2.2.2.2.2.2.2.2.1, (x1, defC.2.2.2.2.2.2.2.2.2.2.2.2.2.2.2.2.2.2.2.2))))))))))))))))))))), Unit.unit)) (
           cond ((mayC (defC.1, (defC.2.1, (defC.2.2.1, (defC.2.2.2.1, (defC.2.2.2.2.1, (defC.2.2.2.2.2.1, (defC.2.2.2.2.2.2.1, (defC.2.2.2.2.2.2.2.1, (defC.2.2.2.2.2.2.2.2.1, (defC.2.2.2.2.2.2.2.2.2.1, (defC.2.2.2.2.2.2.2.2.2.2.1, (defC.2.2.2.2.2.2.2.2.2.2.2.1, (defC.2.2.2.2.2.2.2.2.2.2.2.2.1, (defC.2.2.2.2.2.2.2.2.2.2.2.2.2.1, (defC.2.2.2.2.2.2.2.2.2.2.2.2.2.2.1, (defC.2.2.2.2.2.2.2.2.2.2.2.2.2.2.2.1, (defC.2.2.2.2.2.2.2.2.2.2.2.2.2.2.2.2.1, (defC.2.2.2.2.2.2.2.2.2.2.2.2.2.2.2.2.2.1, (defC.2.2.2.2.2.2.2.2.2.2.2.2.2.2.2.2.2.2.1, (x1, defC.2.2.2.2.2.2.2.2.2.2.2.2.2.2.2.2.2.2.2.2))))))))))))))))))))) == (decide (x1 ≤ (10000 : Int)))) (
            cond ((Bool.not ((ByteArray.toList (textC (defC.1, (defC.2.1, (defC.2.2.1, (defC.2.2.2.1, (defC.2.2.2.2.1, (defC.2.2.2.2.2.1, (defC.2.2.2.2.2.2.1, (defC.2.2.2.2.2.2.2.1, (defC.2.2.2.2.2.2.2.2.1, (defC.2.2.2.2.2.2.2.2.2.1, (defC.2.2.2.2.2.2.2.2.2.2.1, (defC.2.2.2.2.2.2.2.2.2.2.2.1, (defC.2.2.2.2.2.2.2.2.2.2.2.2.1, (defC.2.2.2.2.2.2.2.2.2.2.2.2.2.1, (defC.2.2.2.2.2.2.2.2.2.2.2.2.2.2.1, (defC.2.2.2.2.2.2.2.2.2.2.2.2.2.2.2.1, (defC.2.2.2.2.2.2.2.2.2.2.2.2.2.2.2.2.1, (defC.2.2.2.2.2.2.2.2.2.2.2.2.2.2.2.2.2.1, (defC.2.2.2.2.2.2.2.2.2.2.2.2.2.2.2.2.2.2.1, (x1, defC.2.2.2.2.2.2.2.2.2.2.2.2.2.2.2.2.2.2.2.2)))))))))))))))))))))) == (ByteArray.toList (⟨#[]⟩ : ByteArray)))) == (decide (x1 ≤ (10000 : Int)))) (
             cond (Bool.not (decide (x1 ≤ (10000 : Int)))) (
              cond (decide (x1 ≤ (10000 : Int))) (
               some ((.c (.v (.bool true))), [])) (
               cond (ceq (parseC (textC (defC.1, (defC.2.1, (defC.2.2.1, (defC.2.2.2.1, (defC.2.2.2.2.1, (defC.2.2.2.2.2.1, (defC.2.2.2.2.2.2.1, (defC.2.2.2.2.2.2.2.1, (defC.2.2.2.2.2.2.2.2.1, (defC.2.2.2.2.2.2.2.2.2.1, (defC.2.2.2.2.2.2.2.2.2.2.1, (defC.2.2.2.2.2.2.2.2.2.2.2.1, (defC.2.2.2.2.2.2.2.2.2.2.2.2.1, (defC.2.2.2.2.2.2.2.2.2.2.2.2.2.1, (defC.2.2.2.2.2.2.2.2.2.2.2.2.2.2.1, (defC.2.2.2.2.2.2.2.2.2.2.2.2.2.2.2.1, (defC.2.2.2.2.2.2.2.2.2.2.2.2.2.2.2.2.1, (defC.2.2.2.2.2.2.2.2.2.2.2.2.2.2.2.2.2.1, (defC.2.2.2.2.2.2.2.2.2.2.2.2.2.2.2.2.2.2.1, (x1, defC.2.2.2.2.2.2.2.2.2.2.2.2.2.2.2.2.2.2.2.2)))))))))))))))))))))).1 defC) (
                some ((.c (.v (.bool true))), [])) (
                some ((.c (.v (.bool false))), [])))) (
              cond ((((parseC (textC (defC.1, (defC.2.1, (defC.2.2.1, (defC.2.2.2.1, (defC.2.2.2.2.1, (defC.2.2.2.2.2.1, (defC.2.2.2.2.2.2.1, (defC.2.2.2.2.2.2.2.1, (defC.2.2.2.2.2.2.2.2.1, (defC.2.2.2.2.2.2.2.2.2.1, (defC.2.2.2.2.2.2.2.2.2.2.1, (defC.2.2.2.2.2.2.2.2.2.2.2.1, (defC.2.2.2.2.2.2.2.2.2.2.2.2.1, (defC.2.2.2.2.2.2.2.2.2.2.2.2.2.1, (defC.2.2.2.2.2.2.2.2.2.2.2.2.2.2.1, (defC.2.2.2.2.2.2.2.2.2.2.2.2.2.2.2.1, (defC.2.2.2.2.2.2.2.2.2.2.2.2.2.2.2.2.1, (defC.2.2.2.2.2.2.2.2.2.2.2.2.2.2.2.2.2.1, (defC.2.2.2.2.2.2.2.2.2.2.2.2.2.2.2.2.2.2.1, (x1, defC.2.2.2.2.2.2.2.2.2.2.2.2.2.2.2.2.2.2.2.2))))))))))))))))))))))).2).2 == (0 : Int)) (
               cond (ceq (parseC (textC (defC.1, (defC.2.1, (defC.2.2.1, (defC.2.2.2.1, (defC.2.2.2.2.1, (defC.2.2.2.2.2.1, (defC.2.2.2.2.2.2.1, (defC.2.2.2.2.2.2.2.1, (defC.2.2.2.2.2.2.2.2.1, (defC.2.2.2.2.2.2.2.2.2.1, (defC.2.2.2.2.2.2.2.2.2.2.1, (defC.2.2.2.2.2.2.2.2.2.2.2.1, (defC.2.2.2.2.2.2.2.2.2.2.2.2.1, (defC.2.2.2.2.2.2.2.2.2.2.2.2.2.1, (defC.2.2.2.2.2.2.2.2.2.2.2.2.2.2.1, (defC.2.2.2.2.2.2.2.2.2.2.2.2.2.2.2.1, (defC.2.2.2.2.2.2.2.2.2.2.2.2.2.2.2.2.1, (defC.2.2.2.2.2.2.2.2.2.2.2.2.2.2.2.2.2.1, (defC.2.2.2.2.2.2.2.2.2.2.2.2.2.2.2.2.2.2.1, (x1, defC.2.2.2.2.2.2.2.2.2.2.2.2.2.2.2.2.2.2.2.2)))))))))))))))))))))).1 (defC.1, (defC.2.1, (defC.2.2.1, (defC.2.2.2.1, (defC.2.2.2.2.1, (defC.2.2.2.2.2.1, (defC.2.2.2.2.2.2.1, (defC.2.2.2.2.2.2.2.1, (defC.2.2.2.2.2.2.2.2.1, (defC.2.2.2.2.2.2.2.2.2.1, (defC.2.2.2.2.2.2.2.2.2.2.1, (defC.2.2.2.2.2.2.2.2.2.2.2.1, (defC.2.2.2.2.2.2.2.2.2.2.2.2.1, (defC.2.2.2.2.2.2.2.2.2.2.2.2.2.1, (defC.2.2.2.2.2.2.2.2.2.2.2.2.2.2.1, (defC.2.2.2.2.2.2.2.2.2.2.2.2.2.2.2.1, (defC.2.2.2.2.2.2.2.2.2.2.2.2.2.2.2.2.1, (defC.2.2.2.2.2.2.2.2.2.2.2.2.2.2.2.2.2.1, (defC.2.2.2.2.2.2.2.2.2.2.2.2.2.2.2.2.2.2.1, (x1, defC.2.2.2.2.2.2.2.2.2.2.2.2.2.2.2.2.2.2.2.2))))))))))))))))))))) (
                cond (decide (x1 ≤ (10000 : Int))) (
                 some ((.c (.v (.bool true))), [])) (
                 cond (ceq (parseC (textC (defC.1, (defC.2.1, (defC.2.2.1, (defC.2.2.2.1, (defC.2.2.2.2.1, (defC.2.2.2.2.2.1, (defC.2.2.2.2.2.2.1, (defC.2.2.2.2.2.2.2.1, (defC.2.2.2.2.2.2.2.2.1, (defC.2.2.2.2.2.2.2.2.2.1, (defC.2.2.2.2.2.2.2.2.2.2.1, (defC.2.2.2.2.2.2.2.2.2.2.2.1, (defC.2.2.2.2.2.2.2.2.2.2.2.2.1, (defC.2.2.2.2.2.2.2.2.2.2.2.2.2.1, (defC.2.2.2.2.2.2.2.2.2.2.2.2.2.2.1, (defC.2.2.2.2.2.2.2.2.2.2.2.2.2.2.2.1, (defC.2.2.2.2.2.2.2.2.2.2.2.2.2.2.2.2.1, (defC.2.2.2.2.2.2.2.2.2.2.2.2.2.2.2.2.2.1, (defC.2.2.2.2.2.2.2.2.2.2.2.2.2.2.2.2.2.2.1, (x1, defC.2.2.2.2.2.2.2.2.2.2.2.2.2.2.2.2.2.2.2.2)))))))))))))))))))))).1 defC) (
                  some ((.c (.v (.bool true))), [])) (
                  some ((.c (.v (.bool false))), [])))) (
                some ((.c (.v (.bool false))), []))) (
               some ((.c (.v (.bool false))), [])))) (
             some ((.c (.v (.bool false))), []))) (
            some ((.c (.v (.bool false))), [])))) (
          test (parse.pre ((textC (defC.1, (defC.2.1, (defC.2.2.1, (defC.2.2.2.1, (defC.2.2.2.2.1, (defC.2.2.2.2.2.1, (defC.2.2.2.2.2.2.1, (defC.2.2.2.2.2.2.2.1, (defC.2.2.2.2.2.2.2.2.1, (defC.2.2.2.2.2.2.2.2.2.1, (defC.2.2.2.2.2.2.2.2.2.2.1, (defC.2.2.2.2.2.2.2.2.2.2.2.1, (defC.2.2.2.2.2.2.2.2.2.2.2.2.1, (defC.2.2.2.2.2.2.2.2.2.2.2.2.2.1, (defC.2.2.2.2.2.2.2.2.2.2.2.2.2.2.1, (defC.2.2.2.2.2.2.2.2.2.2.2.2.2.2.2.1, (defC.2.2.2.2.2.2.2.2.2.2.2.2.2.2.2.2.1, (defC.2.2.2.2.2.2.2.2.2.2.2.2.2.2.2.2.2.1, (defC.2.2.2.2.2.2.2.2.2.2.2.2.2.2.2.2.2.2.1, (x1, defC.2.2.2.2.2.2.2.2.2.2.2.2.2.2.2.2.2.2.2.2))))))))))))))))))))), Unit.unit)) (
           cond ((mayC (defC.1, (defC.2.1, (defC.2.2.1, (defC.2.2.2.1, (defC.2.2.2.2.1, (defC.2.2.2.2.2.1, (defC.2.2.2.2.2.2.1, (defC.2.2.2.2.2.2.2.1, (defC.2.2.2.2.2.2.2.2.1, (defC.2.2.2.2.2.2.2.2.2.1, (defC.2.2.2.2.2.2.2.2.2.2.1, (defC.2.2.2.2.2.2.2.2.2.2.2.1, (defC.2.2.2.2.2.2.2.2.2.2.2.2.1, (defC.2.2.2.2.2.2.2.2.2.2.2.2.2.1, (defC.2.2.2.2.2.2.2.2.2.2.2.2.2.2.1, (defC.2.2.2.2.2.2.2.2.2.2.2.2.2.2.2.1, (defC.2.2.2.2.2.2.2.2.2.2.2.2.2.2.2.2.1, (defC.2.2.2.2.2.2.2.2.2.2.2.2.2.2.2.2.2.1, (defC.2.2.2.2.2.2.2.2.2.2.2.2.2.2.2.2.2.2.1, (x1, defC.2.2.2.2.2.2.2.2.2.2.2.2.2.2.2.2.2.2.2.2))))))))))))))))))))) == false) (
            cond ((Bool.not ((ByteArray.toList (textC (defC.1, (defC.2.1, (defC.2.2.1, (defC.2.2.2.1, (defC.2.2.2.2.1, (defC.2.2.2.2.2.1, (defC.2.2.2.2.2.2.1, (defC.2.2.2.2.2.2.2.1, (defC.2.2.2.2.2.2.2.2.1, (defC.2.2.2.2.2.2.2.2.2.1, (defC.2.2.2.2.2.2.2.2.2.2.1, (defC.2.2.2.2.2.2.2.2.2.2.2.1, (defC.2.2.2.2.2.2.2.2.2.2.2.2.1, (defC.2.2.2.2.2.2.2.2.2.2.2.2.2.1, (defC.2.2.2.2.2.2.2.2.2.2.2.2.2.2.1, (defC.2.2.2.2.2.2.2.2.2.2.2.2.2.2.2.1, (defC.2.2.2.2.2.2.2.2.2.2.2.2.2.2.2.2.1, (defC.2.2.2.2.2.2.2.2.2.2.2.2.2.2.2.2.2.1, (defC.2.2.2.2.2.2.2.2.2.2.2.2.2.2.2.2.2.2.1, (x1, defC.2.2.2.2.2.2.2.2.2.2.2.2.2.2.2.2.2.2.2.2)))))))))))))))))))))) == (ByteArray.toList (⟨#[]⟩ : ByteArray)))) == false) (
             cond (ceq (parseC (textC (defC.1, (defC.2.1, (defC.2.2.1, (defC.2.2.2.1, (defC.2.2.2.2.1, (defC.2.2.2.2.2.1, (defC.2.2.2.2.2.2.1, (defC.2.2.2.2.2.2.2.1, (defC.2.2.2.2.2.2.2.2.1, (defC.2.2.2.2.2.2.2.2.2.1, (defC.2.2.2.2.2.2.2.2.2.2.1, (defC.2.2.2.2.2.2.2.2.2.2.2.1, (defC.2.2.2.2.2.2.2.2.2.2.2.2.1, (defC.2.2.2.2.2.2.2.2.2.2.2.2.2.1, (defC.2.2.2.2.2.2.2.2.2.2.2.2.2.2.1, (defC.2.2.2.2.2.2.2.2.2.2.2.2.2.2.2.1, (defC.2.2.2.2.2.2.2.2.2.2.2.2.2.2.2.2.1, (defC.2.2.2.2.2.2.2.2.2.2.2.2.2.2.2.2.2.1, (defC.2.2.2.2.2.2.2.2.2.2.2.2.2.2.2.2.2.2.1, (x1, defC.2.2.2.2.2.2.2.2.2.2.2.2.2.2.2.2.2.2.2.2)))))))))))))))))))))).1 defC) (
              some ((.c (.v (.bool true))), [])) (
              some ((.c (.v (.bool false))), []))) (
             some ((.c (.v (.bool false))), []))) (
            some ((.c (.v (.bool false))), []))))))))))) := by kernel_rfl
theorem lBounds.run_eq  (m : Nat) (x0 : Int) (x1 : Int) : run (lBounds.cfg ) Tryd.f7.ntmps Tryd.f7.results.toList m [.code (bodyOf Tryd.f7)] (enter (ivA lBounds.ps (x0, x1, ()))) = lBounds.go  m x0 x1 := by kernel_rfl
theorem lBounds.ret  (hs : SpecsOK Tryd.prog (lBounds.specs ))  (x0 : Int) (x1 : Int) {m : Nat} {r : IV} (h : lBounds.go  m x0 x1 = some (r, [])) : VE.Returns Tryd.prog 7 (ivA lBounds.ps (x0, x1, ())) r :=
  returns_of_run (cfg := lBounds.cfg ) (cfgOK_of mixed tab_ok hs .nil) rfl Tryd.func7 (body_some (by kernel_rfl)) (Nat.le_of_ble_eq_true (by kernel_rfl)) ((lBounds.run_eq  m x0 x1).trans h)
abbrev lBounds.Law : Prop := ∀ (x0 : Int) (x1 : Int), lBounds.pre (x0, x1, ()) = true → VE.Returns Tryd.prog 7 (ivA lBounds.ps (x0, x1, ())) (lBounds.res (x0, x1, ()))
theorem lBounds.mkR (H : ∀ (x0 : Int) (x1 : Int), lBounds.pre (x0, x1, ()) = true → VE.Returns Tryd.prog 7 (ivA lBounds.ps (x0, x1, ())) (lBounds.res (x0, x1, ()))) : SpecOK Tryd.prog 7 lBounds.sp :=
  specOf_ret Tryd.func7 (by kernel_rfl) (by kernel_rfl) fun (x : Int × Int × Unit) hx => H (x.1) (x.2.1) hx
theorem lBounds.mk  (hs : SpecsOK Tryd.prog (lBounds.specs ))  (H : ∀ (x0 : Int) (x1 : Int), lBounds.pre (x0, x1, ()) = true → ∃ m, lBounds.go  m x0 x1 = some (lBounds.res (x0, x1, ()), [])) : SpecOK Tryd.prog 7 lBounds.sp :=
  lBounds.mkR fun x0 x1 hx => (H x0 x1 hx).elim fun _ hm => lBounds.ret  hs  x0 x1 hm

end Go.Proofs.YtlakpbfmcnlnbaaDoor
