/-
  Steps of the bodies, from checkpoint to checkpoint (printed by wip/VE/mk.py).
-/
import Derived.Test.YtnpncjpgihgkcaaS
namespace Go.Proofs.Ytnpncjpgihgkcaa
open Go VE

/-! ### triage/triagelaw3.OrderFinds -/
noncomputable def body5 : Code := bodyOf Try.f5
noncomputable def res5 : List ResultVar := Try.f5.results.toList
def live5 : List (Nat × Live) := [(6, ⟨[(3, .plain), (5, .sl (.prod (.int .i64) (.int .i64))), (6, .plain), (19, .sl (.prod (.int .i64) (.int .i64))), (20, .plain), (21, .plain)], [(1, [])]⟩)]
noncomputable def cfg5  : Cfg := ⟨lkp tab, lkp [(9, ([], spSort)), (14, ([], spFind)), (8, ([], spTrue))], lkp live5⟩
noncomputable def f5.r6  (m : Nat) (x0 : List (Int × Int)) (x1 : Bool) (x2 : List (Int × Int)) (x3 : Int) (x4 : Int) (x5 : Int) (x6 : Int) : R := run (cfg5 ) 83 res5 m ((todoR 6 body5 []).getD []) ⟨ofList (.c .junk) [(3, (.c (.ref 1 0))), (5, (.c (.sl (.prod (.int .i64) (.int .i64)) x0))), (6, (.c (.v (.bool x1)))), (19, (.c (.sl (.prod (.int .i64) (.int .i64)) x2))), (20, (.c (.v (.int .i64 x3)))), (21, (.c (.v (.int .i64 x4))))], ofList none [(1, some (.cells 24 [(.v (.int .i64 x5)), (.v (.int .i64 x6))]))], ofList false [(1, true)]⟩
noncomputable def f5.go  (m : Nat) (x0 : (List (Int × Int))) (x1 : Int) (x2 : Int) : R := run (cfg5 ) 83 res5 m [.code body5] (enter [(.c (.sl (.prod (.int .i64) (.int .i64)) x0)), (.agg [(.v (.int .i64 x1)), (.v (.int .i64 x2))])])
theorem f5.start  (m : Nat) (x0 : (List (Int × Int))) (x1 : Int) (x2 : Int) : f5.go  (m + 1) x0 x1 x2 =
  cond (decide (((List.length x0) : Int) > (200 : Int))) (
   some ((.c (.v (.bool true))), [])) (
   test (decide ((List.length x0) ≤ 8796093022208)) (
    f5.r6  m (sort x0) false (sort x0) ((List.length (sort x0)) : Int) (0 : Int) x1 x2)) := by kernel_rfl
theorem f5.step6  (m : Nat) (x0 : List (Int × Int)) (x1 : Bool) (x2 : List (Int × Int)) (x3 : Int) (x4 : Int) (x5 : Int) (x6 : Int) : f5.r6  (m + 1) x0 x1 x2 x3 x4 x5 x6 =
  cond (decide (x4 < x3)) (
   test (decide ((0 : Int) ≤ x4)) (
    test (decide (x4 < ((List.length x2) : Int))) (
     test (decide ((List.length x0) ≤ 8796093022208)) (
      cond (Bool.not (there x0 ((rdEl (.prod (.int .i64) (.int .i64)) x2 (Int.toNat x4))))) (
       some ((.c (.v (.bool false))), [])) (
       cond (decide (((find x0 ((rdEl (.prod (.int .i64) (.int .i64)) x2 (Int.toNat x4)))) : Int) > x4)) (
        some ((.c (.v (.bool false))), [])) (
        test (decide (((find x0 ((rdEl (.prod (.int .i64) (.int .i64)) x2 (Int.toNat x4)))) : Int) < ((List.length x0) : Int))) (
         cond (Bool.not ((((rdEl (.prod (.int .i64) (.int .i64)) x0 (Int.toNat ((find x0 ((rdEl (.prod (.int .i64) (.int .i64)) x2 (Int.toNat x4)))) : Int)))).1 == ((rdEl (.prod (.int .i64) (.int .i64)) x2 (Int.toNat x4))).1) && ((((rdEl (.prod (.int .i64) (.int .i64)) x0 (Int.toNat ((find x0 ((rdEl (.prod (.int .i64) (.int .i64)) x2 (Int.toNat x4)))) : Int)))).2 == ((rdEl (.prod (.int .i64) (.int .i64)) x2 (Int.toNat x4))).2) && true))) (
          some ((.c (.v (.bool false))), [])) (
          cond (decide (((find x0 ((rdEl (.prod (.int .i64) (.int .i64)) x2 (Int.toNat x4)))) : Int) > (0 : Int))) (
           test (decide ((0 : Int) ≤ (IntKind.i64.wrap (((find x0 ((rdEl (.prod (.int .i64) (.int .i64)) x2 (Int.toNat x4)))) : Int) - (1 : Int))))) (
            test (decide ((IntKind.i64.wrap (((find x0 ((rdEl (.prod (.int .i64) (.int .i64)) x2 (Int.toNat x4)))) : Int) - (1 : Int))) < ((List.length x0) : Int))) (
             cond ((((rdEl (.prod (.int .i64) (.int .i64)) x0 (Int.toNat (IntKind.i64.wrap (((find x0 ((rdEl (.prod (.int .i64) (.int .i64)) x2 (Int.toNat x4)))) : Int) - (1 : Int)))))).1 == ((rdEl (.prod (.int .i64) (.int .i64)) x2 (Int.toNat x4))).1) && ((((rdEl (.prod (.int .i64) (.int .i64)) x0 (Int.toNat (IntKind.i64.wrap (((find x0 ((rdEl (.prod (.int .i64) (.int .i64)) x2 (Int.toNat x4)))) : Int) - (1 : Int)))))).2 == ((rdEl (.prod (.int .i64) (.int .i64)) x2 (Int.toNat x4))).2) && true)) (
              some ((.c (.v (.bool false))), [])) (
              cond x1 (
               f5.r6  m x0 true x2 x3 (IntKind.i64.wrap (x4 + (1 : Int))) x5 x6) (
               f5.r6  m x0 ((((rdEl (.prod (.int .i64) (.int .i64)) x2 (Int.toNat x4))).1 == x5) && ((((rdEl (.prod (.int .i64) (.int .i64)) x2 (Int.toNat x4))).2 == x6) && true)) x2 x3 (IntKind.i64.wrap (x4 + (1 : Int))) x5 x6))))) (
           cond x1 (
            f5.r6  m x0 true x2 x3 (IntKind.i64.wrap (x4 + (1 : Int))) x5 x6) (
            f5.r6  m x0 ((((rdEl (.prod (.int .i64) (.int .i64)) x2 (Int.toNat x4))).1 == x5) && ((((rdEl (.prod (.int .i64) (.int .i64)) x2 (Int.toNat x4))).2 == x6) && true)) x2 x3 (IntKind.i64.wrap (x4 + (1 : Int))) x5 x6)))))))))) (
   test (decide ((List.length x0) ≤ 8796093022208)) (
    cond ((there x0 (x5, x6)) == x1) (
     some ((.c (.v (.bool true))), [])) (
     some ((.c (.v (.bool false))), [])))) := by kernel_rfl

end Go.Proofs.Ytnpncjpgihgkcaa
