/-
  Steps of the bodies, from checkpoint to checkpoint (printed by wip/VE/mk.py).
-/
import Derived.Test.YtnpncjpgihgkcaaS
namespace Go.Proofs.Ytnpncjpgihgkcaa
open Go VE

/-! ### triage/triagelaw3.OrderMerges -/
noncomputable def body6 : Code := bodyOf Try.f6
noncomputable def res6 : List ResultVar := Try.f6.results.toList
def live6 : List (Nat × Live) := [(15, ⟨[(5, .sl (.prod (.int .i64) (.int .i64))), (10, .sl (.prod (.int .i64) (.int .i64))), (84, .plain), (85, .plain)], []⟩), (9, ⟨[(5, .sl (.prod (.int .i64) (.int .i64))), (7, .sl (.prod (.int .i64) (.int .i64))), (8, .sl (.prod (.int .i64) (.int .i64))), (9, .sl (.prod (.int .i64) (.int .i64))), (10, .sl (.prod (.int .i64) (.int .i64))), (58, .plain), (59, .plain)], []⟩)]
noncomputable def cfg6  : Cfg := ⟨lkp tab, lkp [(9, ([], withSl [some TKey] spSort)), (13, ([], withSl [some TKey, some TKey] spMerge)), (8, ([], spTrue))], lkp live6⟩
noncomputable def f6.r9  (m : Nat) (x0 : List (Int × Int)) (x1 : List (Int × Int)) (x2 : List (Int × Int)) (x3 : List (Int × Int)) (x4 : List (Int × Int)) (x5 : Int) (x6 : Int) : R := run (cfg6 ) 99 res6 m ((todoR 9 body6 []).getD []) ⟨ofList (.c .junk) [(5, (.c (.sl (.prod (.int .i64) (.int .i64)) x0))), (7, (.c (.sl (.prod (.int .i64) (.int .i64)) x1))), (8, (.c (.sl (.prod (.int .i64) (.int .i64)) x2))), (9, (.c (.sl (.prod (.int .i64) (.int .i64)) x3))), (10, (.c (.sl (.prod (.int .i64) (.int .i64)) x4))), (58, (.c (.v (.int .i64 x5)))), (59, (.c (.v (.int .i64 x6))))], ofList none [], ofList false []⟩
noncomputable def f6.r15  (m : Nat) (x0 : List (Int × Int)) (x1 : List (Int × Int)) (x2 : Int) (x3 : Int) : R := run (cfg6 ) 99 res6 m ((todoR 15 body6 []).getD []) ⟨ofList (.c .junk) [(5, (.c (.sl (.prod (.int .i64) (.int .i64)) x0))), (10, (.c (.sl (.prod (.int .i64) (.int .i64)) x1))), (84, (.c (.v (.int .i64 x2)))), (85, (.c (.v (.int .i64 x3))))], ofList none [], ofList false []⟩
noncomputable def f6.go  (m : Nat) (x0 : (List (Int × Int))) (x1 : (List (Int × Int))) : R := run (cfg6 ) 99 res6 m [.code body6] (enter [(.c (.sl (.prod (.int .i64) (.int .i64)) x0)), (.c (.sl (.prod (.int .i64) (.int .i64)) x1))])
theorem f6.start  (m : Nat) (x0 : (List (Int × Int))) (x1 : (List (Int × Int))) : f6.go  (m + 1) x0 x1 =
  cond (decide ((IntKind.i64.wrap (((List.length x0) : Int) + ((List.length x1) : Int))) > (200 : Int))) (
   some ((.c (.v (.bool true))), [])) (
   test (decide ((List.length x0) ≤ 8796093022208)) (
    test (decide ((List.length x1) ≤ 8796093022208)) (
     test (decide (((List.length (sort x0)) + (List.length (sort x1))) ≤ 8796093022208)) (
      test (decide (((List.length (sort x1)) + (List.length (sort x0))) ≤ 8796093022208)) (
       test (decide (((List.length ([] : List (Int × Int))) + (List.length x0)) ≤ (lim 16))) (
        test (decide (((List.length (([] : List (Int × Int)) ++ x0)) + (List.length x1)) ≤ (lim 16))) (
         test (decide ((List.length ((([] : List (Int × Int)) ++ x0) ++ x1)) ≤ 8796093022208)) (
          test (decide (((List.length (sort x0)) + (List.length ([] : List (Int × Int)))) ≤ 8796093022208)) (
           cond (bne ((List.length (merge (sort x0) (sort x1))) : Int) ((List.length (sort ((([] : List (Int × Int)) ++ x0) ++ x1))) : Int)) (
            some ((.c (.v (.bool false))), [])) (
            cond (bne ((List.length (merge (sort x1) (sort x0))) : Int) ((List.length (sort ((([] : List (Int × Int)) ++ x0) ++ x1))) : Int)) (
             some ((.c (.v (.bool false))), [])) (
             cond (bne ((List.length (merge (sort x0) ([] : List (Int × Int)))) : Int) ((List.length (sort x0)) : Int)) (
              some ((.c (.v (.bool false))), [])) (
              f6.r9  m (sort x0) (merge (sort x0) (sort x1)) (merge (sort x1) (sort x0)) (sort ((([] : List (Int × Int)) ++ x0) ++ x1)) (merge (sort x0) ([] : List (Int × Int))) ((List.length (sort ((([] : List (Int × Int)) ++ x0) ++ x1))) : Int) (0 : Int))))))))))))) := by kernel_rfl
theorem f6.step9  (m : Nat) (x0 : List (Int × Int)) (x1 : List (Int × Int)) (x2 : List (Int × Int)) (x3 : List (Int × Int)) (x4 : List (Int × Int)) (x5 : Int) (x6 : Int) : f6.r9  (m + 1) x0 x1 x2 x3 x4 x5 x6 =
  cond (decide (x6 < x5)) (
   test (decide ((0 : Int) ≤ x6)) (
    test (decide (x6 < ((List.length x1) : Int))) (
     test (decide ((0 : Int) ≤ x6)) (
      test (decide (x6 < ((List.length x3) : Int))) (
       cond (Bool.not ((((rdEl (.prod (.int .i64) (.int .i64)) x1 (Int.toNat x6))).1 == ((rdEl (.prod (.int .i64) (.int .i64)) x3 (Int.toNat x6))).1) && ((((rdEl (.prod (.int .i64) (.int .i64)) x1 (Int.toNat x6))).2 == ((rdEl (.prod (.int .i64) (.int .i64)) x3 (Int.toNat x6))).2) && true))) (
        some ((.c (.v (.bool false))), [])) (
        test (decide ((0 : Int) ≤ x6)) (
         test (decide (x6 < ((List.length x2) : Int))) (
          test (decide ((0 : Int) ≤ x6)) (
           test (decide (x6 < ((List.length x3) : Int))) (
            cond (Bool.not ((((rdEl (.prod (.int .i64) (.int .i64)) x2 (Int.toNat x6))).1 == ((rdEl (.prod (.int .i64) (.int .i64)) x3 (Int.toNat x6))).1) && ((((rdEl (.prod (.int .i64) (.int .i64)) x2 (Int.toNat x6))).2 == ((rdEl (.prod (.int .i64) (.int .i64)) x3 (Int.toNat x6))).2) && true))) (
             some ((.c (.v (.bool false))), [])) (
             f6.r9  m x0 x1 x2 x3 x4 x5 (IntKind.i64.wrap (x6 + (1 : Int)))))))))))))) (
   f6.r15  m x0 x4 ((List.length x4) : Int) (0 : Int)) := by kernel_rfl
theorem f6.step15  (m : Nat) (x0 : List (Int × Int)) (x1 : List (Int × Int)) (x2 : Int) (x3 : Int) : f6.r15  (m + 1) x0 x1 x2 x3 =
  cond (decide (x3 < x2)) (
   test (decide ((0 : Int) ≤ x3)) (
    test (decide (x3 < ((List.length x1) : Int))) (
     test (decide ((0 : Int) ≤ x3)) (
      test (decide (x3 < ((List.length x0) : Int))) (
       cond (Bool.not ((((rdEl (.prod (.int .i64) (.int .i64)) x1 (Int.toNat x3))).1 == ((rdEl (.prod (.int .i64) (.int .i64)) x0 (Int.toNat x3))).1) && ((((rdEl (.prod (.int .i64) (.int .i64)) x1 (Int.toNat x3))).2 == ((rdEl (.prod (.int .i64) (.int .i64)) x0 (Int.toNat x3))).2) && true))) (
        some ((.c (.v (.bool false))), [])) (
        f6.r15  m x0 x1 x2 (IntKind.i64.wrap (x3 + (1 : Int))))))))) (
   some ((.c (.v (.bool true))), [])) := by kernel_rfl

end Go.Proofs.Ytnpncjpgihgkcaa
