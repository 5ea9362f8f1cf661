/-
  Steps of the bodies, from checkpoint to checkpoint (printed by wip/VE/mk.py).
-/
import Derived.Test.YtnpncjpgihgkcaaA
namespace Go.Proofs.Ytnpncjpgihgkcaa
open Go VE

/-! ### triage/triageref1.Sort -/
noncomputable def body11 : Code := bodyOf Try.f11
noncomputable def res11 : List ResultVar := Try.f11.results.toList
def live11 : List (Nat × Live) := [(7, ⟨[(3, .arr 43 (.prod (.int .i64) (.int .i64))), (5, .plain), (6, .plain), (7, .sl (.prod (.int .i64) (.int .i64))), (8, .plain), (9, .plain)], [(2053, [])]⟩), (3, ⟨[(3, .arr 43 (.prod (.int .i64) (.int .i64))), (7, .sl (.prod (.int .i64) (.int .i64))), (8, .plain), (9, .plain)], []⟩)]
noncomputable def cfg11  : Cfg := ⟨lkp tab, lkp [(17, ([], spLess))], lkp live11⟩
noncomputable def f11.r3  (m : Nat) (x0 : List (Int × Int)) (x1 : Int) (x2 : Int) (x3 : List (Int × Int)) : R := run (cfg11 ) 46 res11 m ((todoR 3 body11 []).getD []) ⟨ofList (.c .junk) [(3, (.c (.sref 510))), (7, (.c (.sl (.prod (.int .i64) (.int .i64)) x0))), (8, (.c (.v (.int .i64 x1)))), (9, (.c (.v (.int .i64 x2))))], ofList none [(510, some (.arr 43 (.prod (.int .i64) (.int .i64)) x3 false))], ofList false [(510, true)]⟩
noncomputable def f11.r7  (m : Nat) (x0 : Int) (x1 : List (Int × Int)) (x2 : Int) (x3 : Int) (x4 : List (Int × Int)) (x5 : Int) (x6 : Int) : R := run (cfg11 ) 46 res11 m ((todoR 7 body11 []).getD []) ⟨ofList (.c .junk) [(3, (.c (.sref 510))), (5, (.c (.ref 2053 0))), (6, (.c (.v (.int .i64 x0)))), (7, (.c (.sl (.prod (.int .i64) (.int .i64)) x1))), (8, (.c (.v (.int .i64 x2)))), (9, (.c (.v (.int .i64 x3))))], ofList none [(510, some (.arr 43 (.prod (.int .i64) (.int .i64)) x4 false)), (2053, some (.cells 43 [(.v (.int .i64 x5)), (.v (.int .i64 x6))]))], ofList false [(510, true), (2053, true)]⟩
noncomputable def f11.go  (m : Nat) (x0 : (List (Int × Int))) : R := run (cfg11 ) 46 res11 m [.code body11] (enter [(.c (.sl (.prod (.int .i64) (.int .i64)) x0))])
theorem f11.start  (m : Nat) (x0 : (List (Int × Int))) : f11.go  (m + 1) x0 =
  f11.r3  m x0 ((List.length x0) : Int) (0 : Int) ([] : List (Int × Int)) := by kernel_rfl
theorem f11.step3  (m : Nat) (x0 : List (Int × Int)) (x1 : Int) (x2 : Int) (x3 : List (Int × Int)) : f11.r3  (m + 1) x0 x1 x2 x3 =
  cond (decide (x2 < x1)) (
   test (decide ((0 : Int) ≤ x2)) (
    test (decide (x2 < ((List.length x0) : Int))) (
     test (decide (((List.length x3) + (List.length (((rdEl (.prod (.int .i64) (.int .i64)) x0 (Int.toNat x2))) :: ([] : List (Int × Int))))) ≤ (lim 16))) (
      f11.r7  m ((List.length x3) : Int) x0 x1 x2 (x3 ++ (((rdEl (.prod (.int .i64) (.int .i64)) x0 (Int.toNat x2))) :: ([] : List (Int × Int)))) ((rdEl (.prod (.int .i64) (.int .i64)) x0 (Int.toNat x2))).1 ((rdEl (.prod (.int .i64) (.int .i64)) x0 (Int.toNat x2))).2)))) (
   some ((.c (.sl (.prod (.int .i64) (.int .i64)) x3)), [])) := by kernel_rfl
theorem f11.step7  (m : Nat) (x0 : Int) (x1 : List (Int × Int)) (x2 : Int) (x3 : Int) (x4 : List (Int × Int)) (x5 : Int) (x6 : Int) : f11.r7  (m + 1) x0 x1 x2 x3 x4 x5 x6 =
  cond (decide (x0 > (0 : Int))) (
   test (decide ((0 : Int) ≤ (IntKind.i64.wrap (x0 - (1 : Int))))) (
    test (decide ((IntKind.i64.wrap (x0 - (1 : Int))) < ((List.length x4) : Int))) (
     cond (less (x5, x6) ((rdEl (.prod (.int .i64) (.int .i64)) x4 (Int.toNat (IntKind.i64.wrap (x0 - (1 : Int))))))) (
      test (decide ((0 : Int) ≤ (IntKind.i64.wrap (x0 - (1 : Int))))) (
       test (decide ((IntKind.i64.wrap (x0 - (1 : Int))) < ((List.length x4) : Int))) (
        test (decide ((0 : Int) ≤ x0)) (
         test (decide (x0 < ((List.length x4) : Int))) (
          f11.r7  m (IntKind.i64.wrap (x0 - (1 : Int))) x1 x2 x3 (List.set x4 (Int.toNat x0) ((rdEl (.prod (.int .i64) (.int .i64)) x4 (Int.toNat (IntKind.i64.wrap (x0 - (1 : Int))))))) x5 x6))))) (
      test (decide ((0 : Int) ≤ x0)) (
       test (decide (x0 < ((List.length x4) : Int))) (
        f11.r3  m x1 x2 (IntKind.i64.wrap (x3 + (1 : Int))) (List.set x4 (Int.toNat x0) (x5, x6)))))))) (
   test (decide ((0 : Int) ≤ x0)) (
    test (decide (x0 < ((List.length x4) : Int))) (
     f11.r3  m x1 x2 (IntKind.i64.wrap (x3 + (1 : Int))) (List.set x4 (Int.toNat x0) (x5, x6))))) := by kernel_rfl

end Go.Proofs.Ytnpncjpgihgkcaa
