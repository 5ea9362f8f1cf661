/-
  Steps of the bodies, from checkpoint to checkpoint (printed by wip/VE/mk.py).
-/
import Derived.Test.YtnpncjpgihgkcaaE
namespace Go.Proofs.Ytnpncjpgihgkcaa
open Go VE

/-! ### triage/triagelaw3.OrderForms -/
noncomputable def body3 : Code := bodyOf Try.f3
noncomputable def res3 : List ResultVar := Try.f3.results.toList
def live3 : List (Nat × Live) := [(16, ⟨[(0, .sl (.prod (.int .i64) (.int .i64))), (5, .plain), (7, .sl (.prod (.int .i64) (.int .i64))), (9, .plain), (12, .plain), (13, .plain), (14, .plain), (15, .plain)], [(1, [])]⟩), (8, ⟨[(0, .sl (.prod (.int .i64) (.int .i64))), (5, .plain), (7, .sl (.prod (.int .i64) (.int .i64))), (9, .plain), (47, .sl (.prod (.int .i64) (.int .i64))), (48, .plain), (49, .plain)], [(1, [])]⟩)]
noncomputable def cfg3  : Cfg := ⟨lkp tab, lkp [(9, ([], withSl [some TKey] spSort)), (14, ([], spFind)), (15, ([], spRising)), (8, ([], spTrue)), (13, ([], withSl [some TKey, some TKey] spMerge)), (11, ([], spSort)), (12, ([], spKeys)), (10, ([], spSame))], lkp live3⟩
noncomputable def f3.r8  (m : Nat) (x0 : List (Int × Int)) (x1 : List (Int × Int)) (x2 : Int) (x3 : List (Int × Int)) (x4 : Int) (x5 : Int) (x6 : Int) (x7 : Int) : R := run (cfg3 ) 158 res3 m ((todoR 8 body3 []).getD []) ⟨ofList (.c .junk) [(0, (.c (.sl (.prod (.int .i64) (.int .i64)) x0))), (5, (.c (.ref 1 0))), (7, (.c (.sl (.prod (.int .i64) (.int .i64)) x1))), (9, (.c (.v (.int .i64 x2)))), (47, (.c (.sl (.prod (.int .i64) (.int .i64)) x3))), (48, (.c (.v (.int .i64 x4)))), (49, (.c (.v (.int .i64 x5))))], ofList none [(1, some (.cells 24 [(.v (.int .i64 x6)), (.v (.int .i64 x7))]))], ofList false [(1, true)]⟩
noncomputable def f3.r16  (m : Nat) (x0 : List (Int × Int)) (x1 : List (Int × Int)) (x2 : Int) (x3 : Int) (x4 : Bool) (x5 : Bool) (x6 : Int) (x7 : Int) (x8 : Int) : R := run (cfg3 ) 158 res3 m ((todoR 16 body3 []).getD []) ⟨ofList (.c .junk) [(0, (.c (.sl (.prod (.int .i64) (.int .i64)) x0))), (5, (.c (.ref 1 0))), (7, (.c (.sl (.prod (.int .i64) (.int .i64)) x1))), (9, (.c (.v (.int .i64 x2)))), (12, (.c (.v (.int .i64 x3)))), (13, (.c (.v (.bool x4)))), (14, (.c (.v (.bool x5)))), (15, (.c (.v (.int .i64 x6))))], ofList none [(1, some (.cells 24 [(.v (.int .i64 x7)), (.v (.int .i64 x8))]))], ofList false [(1, true)]⟩
noncomputable def f3.go  (m : Nat) (x0 : (List (Int × Int))) (x1 : (List (Int × Int))) (x2 : Int) (x3 : Int) : R := run (cfg3 ) 158 res3 m [.code body3] (enter [(.c (.sl (.prod (.int .i64) (.int .i64)) x0)), (.c (.sl (.prod (.int .i64) (.int .i64)) x1)), (.agg [(.v (.int .i64 x2)), (.v (.int .i64 x3))])])
theorem f3.start  (m : Nat) (x0 : (List (Int × Int))) (x1 : (List (Int × Int))) (x2 : Int) (x3 : Int) : f3.go  (m + 1) x0 x1 x2 x3 =
  cond (decide ((IntKind.i64.wrap (((List.length x0) : Int) + ((List.length x1) : Int))) > (300 : Int))) (
   some ((.c (.v (.bool true))), [])) (
   test (decide ((List.length x0) ≤ 8796093022208)) (
    test (decide ((List.length x1) ≤ 8796093022208)) (
     test (decide ((List.length x0) ≤ 8796093022208)) (
      test (decide ((List.length x0) ≤ 8796093022208)) (
       test (decide ((List.length (sort x0)) ≤ 140737488355328)) (
        cond (Bool.not (sameL (sort x0) (sort x0))) (
         some ((.c (.v (.bool false))), [])) (
         test (decide (((List.length (sort x0)) + (List.length (sort x1))) ≤ 8796093022208)) (
          test (decide (((List.length ([] : List (Int × Int))) + (List.length x0)) ≤ (lim 16))) (
           test (decide (((List.length (([] : List (Int × Int)) ++ x0)) + (List.length x1)) ≤ (lim 16))) (
            test (decide ((List.length ((([] : List (Int × Int)) ++ x0) ++ x1)) ≤ 8796093022208)) (
             test (decide ((List.length ((([] : List (Int × Int)) ++ x0) ++ x1)) ≤ 8796093022208)) (
              test (decide ((List.length (merge (sort x0) (sort x1))) ≤ 140737488355328)) (
               cond (Bool.not (sameL (merge (sort x0) (sort x1)) (sort ((([] : List (Int × Int)) ++ x0) ++ x1)))) (
                some ((.c (.v (.bool false))), [])) (
                f3.r8  m x0 (sort x0) (0 : Int) x0 ((List.length x0) : Int) (0 : Int) x2 x3)))))))))))))) := by kernel_rfl
theorem f3.step8  (m : Nat) (x0 : List (Int × Int)) (x1 : List (Int × Int)) (x2 : Int) (x3 : List (Int × Int)) (x4 : Int) (x5 : Int) (x6 : Int) (x7 : Int) : f3.r8  (m + 1) x0 x1 x2 x3 x4 x5 x6 x7 =
  cond (decide (x5 < x4)) (
   test (decide ((0 : Int) ≤ x5)) (
    test (decide (x5 < ((List.length x3) : Int))) (
     cond (decide (((rdEl (.prod (.int .i64) (.int .i64)) x3 (Int.toNat x5))).1 < x6)) (
      f3.r8  m x0 x1 (IntKind.i64.wrap (x2 + (1 : Int))) x3 x4 (IntKind.i64.wrap (x5 + (1 : Int))) x6 x7) (
      cond (((rdEl (.prod (.int .i64) (.int .i64)) x3 (Int.toNat x5))).1 == x6) (
       cond (decide (((rdEl (.prod (.int .i64) (.int .i64)) x3 (Int.toNat x5))).2 < x7)) (
        f3.r8  m x0 x1 (IntKind.i64.wrap (x2 + (1 : Int))) x3 x4 (IntKind.i64.wrap (x5 + (1 : Int))) x6 x7) (
        f3.r8  m x0 x1 x2 x3 x4 (IntKind.i64.wrap (x5 + (1 : Int))) x6 x7)) (
       f3.r8  m x0 x1 x2 x3 x4 (IntKind.i64.wrap (x5 + (1 : Int))) x6 x7))))) (
   test (decide ((List.length x1) ≤ 8796093022208)) (
    f3.r16  m x0 x1 x2 ((find x1 (x6, x7)) : Int) (there x1 (x6, x7)) true (1 : Int) x6 x7)) := by kernel_rfl
theorem f3.step16  (m : Nat) (x0 : List (Int × Int)) (x1 : List (Int × Int)) (x2 : Int) (x3 : Int) (x4 : Bool) (x5 : Bool) (x6 : Int) (x7 : Int) (x8 : Int) : f3.r16  (m + 1) x0 x1 x2 x3 x4 x5 x6 x7 x8 =
  cond (decide (x6 < ((List.length x0) : Int))) (
   cond x5 (
    test (decide ((0 : Int) ≤ (IntKind.i64.wrap (x6 - (1 : Int))))) (
     test (decide ((IntKind.i64.wrap (x6 - (1 : Int))) < ((List.length x0) : Int))) (
      test (decide ((0 : Int) ≤ x6)) (
       test (decide (x6 < ((List.length x0) : Int))) (
        cond (decide (((rdEl (.prod (.int .i64) (.int .i64)) x0 (Int.toNat (IntKind.i64.wrap (x6 - (1 : Int)))))).1 < ((rdEl (.prod (.int .i64) (.int .i64)) x0 (Int.toNat x6))).1)) (
         f3.r16  m x0 x1 x2 x3 x4 true (IntKind.i64.wrap (x6 + (1 : Int))) x7 x8) (
         test (decide ((0 : Int) ≤ (IntKind.i64.wrap (x6 - (1 : Int))))) (
          test (decide ((IntKind.i64.wrap (x6 - (1 : Int))) < ((List.length x0) : Int))) (
           test (decide ((0 : Int) ≤ x6)) (
            test (decide (x6 < ((List.length x0) : Int))) (
             cond (((rdEl (.prod (.int .i64) (.int .i64)) x0 (Int.toNat (IntKind.i64.wrap (x6 - (1 : Int)))))).1 == ((rdEl (.prod (.int .i64) (.int .i64)) x0 (Int.toNat x6))).1) (
              test (decide ((0 : Int) ≤ (IntKind.i64.wrap (x6 - (1 : Int))))) (
               test (decide ((IntKind.i64.wrap (x6 - (1 : Int))) < ((List.length x0) : Int))) (
                test (decide ((0 : Int) ≤ x6)) (
                 test (decide (x6 < ((List.length x0) : Int))) (
                  f3.r16  m x0 x1 x2 x3 x4 (decide (((rdEl (.prod (.int .i64) (.int .i64)) x0 (Int.toNat (IntKind.i64.wrap (x6 - (1 : Int)))))).2 < ((rdEl (.prod (.int .i64) (.int .i64)) x0 (Int.toNat x6))).2)) (IntKind.i64.wrap (x6 + (1 : Int))) x7 x8))))) (
              f3.r16  m x0 x1 x2 x3 x4 false (IntKind.i64.wrap (x6 + (1 : Int))) x7 x8))))))))))) (
    f3.r16  m x0 x1 x2 x3 x4 false (IntKind.i64.wrap (x6 + (1 : Int))) x7 x8)) (
   cond (x3 == x2) (
    cond (decide (x2 < ((List.length x1) : Int))) (
     test (decide ((0 : Int) ≤ x2)) (
      test (decide (x2 < ((List.length x1) : Int))) (
       cond (x4 == ((((rdEl (.prod (.int .i64) (.int .i64)) x1 (Int.toNat x2))).1 == x7) && ((((rdEl (.prod (.int .i64) (.int .i64)) x1 (Int.toNat x2))).2 == x8) && true))) (
        test (decide ((List.length x0) ≤ 140737488355328)) (
         cond ((rising x0) == x5) (
          some ((.c (.v (.bool true))), [])) (
          some ((.c (.v (.bool false))), [])))) (
        some ((.c (.v (.bool false))), []))))) (
     cond (x4 == false) (
      test (decide ((List.length x0) ≤ 140737488355328)) (
       cond ((rising x0) == x5) (
        some ((.c (.v (.bool true))), [])) (
        some ((.c (.v (.bool false))), [])))) (
      some ((.c (.v (.bool false))), [])))) (
    some ((.c (.v (.bool false))), []))) := by kernel_rfl

end Go.Proofs.Ytnpncjpgihgkcaa
