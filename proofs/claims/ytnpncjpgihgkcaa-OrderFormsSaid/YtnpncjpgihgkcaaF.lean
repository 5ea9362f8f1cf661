/-
  Steps of the bodies, from checkpoint to checkpoint (printed by wip/VE/mk.py).
-/
import Derived.Test.YtnpncjpgihgkcaaA
namespace Go.Proofs.Ytnpncjpgihgkcaa
open Go VE

/-! ### triage/order.Less -/
noncomputable def body16 : Code := bodyOf Try.f16
noncomputable def res16 : List ResultVar := Try.f16.results.toList
def live16 : List (Nat × Live) := []
noncomputable def cfg16  : Cfg := ⟨lkp tab, lkp [], lkp live16⟩
noncomputable def f16.go  (m : Nat) (x0 : Int) (x1 : Int) (x2 : Int) (x3 : Int) : R := run (cfg16 ) 24 res16 m [.code body16] (enter [(.agg [(.v (.int .i64 x0)), (.v (.int .i64 x1))]), (.agg [(.v (.int .i64 x2)), (.v (.int .i64 x3))])])
theorem f16.start  (m : Nat) (x0 : Int) (x1 : Int) (x2 : Int) (x3 : Int) : f16.go  (m + 1) x0 x1 x2 x3 =
  cond (decide (x0 < x2)) (
   some ((.c (.v (.bool true))), [])) (
   cond (x0 == x2) (
    some ((.c (.v (.bool (decide (x1 < x3))))), [])) (
    some ((.c (.v (.bool false))), []))) := by kernel_rfl

/-! ### triage/triageref1.Less -/
noncomputable def body17 : Code := bodyOf Try.f17
noncomputable def res17 : List ResultVar := Try.f17.results.toList
def live17 : List (Nat × Live) := []
noncomputable def cfg17  : Cfg := ⟨lkp tab, lkp [], lkp live17⟩
noncomputable def f17.go  (m : Nat) (x0 : Int) (x1 : Int) (x2 : Int) (x3 : Int) : R := run (cfg17 ) 24 res17 m [.code body17] (enter [(.agg [(.v (.int .i64 x0)), (.v (.int .i64 x1))]), (.agg [(.v (.int .i64 x2)), (.v (.int .i64 x3))])])
theorem f17.start  (m : Nat) (x0 : Int) (x1 : Int) (x2 : Int) (x3 : Int) : f17.go  (m + 1) x0 x1 x2 x3 =
  cond (decide (x0 < x2)) (
   some ((.c (.v (.bool true))), [])) (
   cond (x0 == x2) (
    some ((.c (.v (.bool (decide (x1 < x3))))), [])) (
    some ((.c (.v (.bool false))), []))) := by kernel_rfl

/-! ### triage/order.Rising -/
noncomputable def body15 : Code := bodyOf Try.f15
noncomputable def res15 : List ResultVar := Try.f15.results.toList
def live15 : List (Nat × Live) := [(2, ⟨[(0, .sl (.prod (.int .i64) (.int .i64))), (3, .plain)], []⟩)]
noncomputable def cfg15  : Cfg := ⟨lkp tab, lkp [(16, ([], spLess))], lkp live15⟩
noncomputable def f15.r2  (m : Nat) (x0 : List (Int × Int)) (x1 : Int) : R := run (cfg15 ) 21 res15 m ((todoR 2 body15 []).getD []) ⟨ofList (.c .junk) [(0, (.c (.sl (.prod (.int .i64) (.int .i64)) x0))), (3, (.c (.v (.int .i64 x1))))], ofList none [], ofList false []⟩
noncomputable def f15.go  (m : Nat) (x0 : (List (Int × Int))) : R := run (cfg15 ) 21 res15 m [.code body15] (enter [(.c (.sl (.prod (.int .i64) (.int .i64)) x0))])
theorem f15.start  (m : Nat) (x0 : (List (Int × Int))) : f15.go  (m + 1) x0 =
  f15.r2  m x0 (1 : Int) := by kernel_rfl
theorem f15.step2  (m : Nat) (x0 : List (Int × Int)) (x1 : Int) : f15.r2  (m + 1) x0 x1 =
  cond (decide (x1 < ((List.length x0) : Int))) (
   test (decide ((0 : Int) ≤ (IntKind.i64.wrap (x1 - (1 : Int))))) (
    test (decide ((IntKind.i64.wrap (x1 - (1 : Int))) < ((List.length x0) : Int))) (
     test (decide ((0 : Int) ≤ x1)) (
      test (decide (x1 < ((List.length x0) : Int))) (
       cond (Bool.not (less ((rdEl (.prod (.int .i64) (.int .i64)) x0 (Int.toNat (IntKind.i64.wrap (x1 - (1 : Int)))))) ((rdEl (.prod (.int .i64) (.int .i64)) x0 (Int.toNat x1))))) (
        some ((.c (.v (.bool false))), [])) (
        f15.r2  m x0 (IntKind.i64.wrap (x1 + (1 : Int))))))))) (
   some ((.c (.v (.bool true))), [])) := by kernel_rfl

/-! ### triage/order.Find -/
noncomputable def body14 : Code := bodyOf Try.f14
noncomputable def res14 : List ResultVar := Try.f14.results.toList
def live14 : List (Nat × Live) := [(2, ⟨[(0, .sl (.prod (.int .i64) (.int .i64))), (3, .plain), (6, .plain), (7, .plain)], [(1, [])]⟩)]
noncomputable def cfg14  : Cfg := ⟨lkp tab, lkp [(16, ([], spLess))], lkp live14⟩
noncomputable def f14.r2  (m : Nat) (x0 : List (Int × Int)) (x1 : Int) (x2 : Int) (x3 : Int) (x4 : Int) : R := run (cfg14 ) 42 res14 m ((todoR 2 body14 []).getD []) ⟨ofList (.c .junk) [(0, (.c (.sl (.prod (.int .i64) (.int .i64)) x0))), (3, (.c (.ref 1 0))), (6, (.c (.v (.int .i64 x1)))), (7, (.c (.v (.int .i64 x2))))], ofList none [(1, some (.cells 24 [(.v (.int .i64 x3)), (.v (.int .i64 x4))]))], ofList false [(1, true)]⟩
noncomputable def f14.go  (m : Nat) (x0 : (List (Int × Int))) (x1 : Int) (x2 : Int) : R := run (cfg14 ) 42 res14 m [.code body14] (enter [(.c (.sl (.prod (.int .i64) (.int .i64)) x0)), (.agg [(.v (.int .i64 x1)), (.v (.int .i64 x2))])])
theorem f14.start  (m : Nat) (x0 : (List (Int × Int))) (x1 : Int) (x2 : Int) : f14.go  (m + 1) x0 x1 x2 =
  f14.r2  m x0 (0 : Int) ((List.length x0) : Int) x1 x2 := by kernel_rfl
theorem f14.step2  (m : Nat) (x0 : List (Int × Int)) (x1 : Int) (x2 : Int) (x3 : Int) (x4 : Int) : f14.r2  (m + 1) x0 x1 x2 x3 x4 =
  cond (decide (x1 < x2)) (
   test (decide ((0 : Int) ≤ (IntKind.i64.wrap (x1 + (IntKind.i64.wrap (Int.tdiv (IntKind.i64.wrap (x2 - x1)) (2 : Int))))))) (
    test (decide ((IntKind.i64.wrap (x1 + (IntKind.i64.wrap (Int.tdiv (IntKind.i64.wrap (x2 - x1)) (2 : Int))))) < ((List.length x0) : Int))) (
     cond (less ((rdEl (.prod (.int .i64) (.int .i64)) x0 (Int.toNat (IntKind.i64.wrap (x1 + (IntKind.i64.wrap (Int.tdiv (IntKind.i64.wrap (x2 - x1)) (2 : Int)))))))) (x3, x4)) (
      f14.r2  m x0 (IntKind.i64.wrap ((IntKind.i64.wrap (x1 + (IntKind.i64.wrap (Int.tdiv (IntKind.i64.wrap (x2 - x1)) (2 : Int))))) + (1 : Int))) x2 x3 x4) (
      f14.r2  m x0 x1 (IntKind.i64.wrap (x1 + (IntKind.i64.wrap (Int.tdiv (IntKind.i64.wrap (x2 - x1)) (2 : Int))))) x3 x4)))) (
   cond (decide (x1 < ((List.length x0) : Int))) (
    test (decide ((0 : Int) ≤ x1)) (
     test (decide (x1 < ((List.length x0) : Int))) (
      some ((.tup [(.c (.v (.int .i64 x1))), (.c (.v (.bool ((((rdEl (.prod (.int .i64) (.int .i64)) x0 (Int.toNat x1))).1 == x3) && ((((rdEl (.prod (.int .i64) (.int .i64)) x0 (Int.toNat x1))).2 == x4) && true)))))]), [])))) (
    some ((.tup [(.c (.v (.int .i64 x1))), (.c (.v (.bool false)))]), []))) := by kernel_rfl

/-! ### triage/order.Merge -/
noncomputable def body13 : Code := bodyOf Try.f13
noncomputable def res13 : List ResultVar := Try.f13.results.toList
def live13 : List (Nat × Live) := [(3, ⟨[(0, .sl (.prod (.int .i64) (.int .i64))), (1, .sl (.prod (.int .i64) (.int .i64))), (5, .arr 24 (.prod (.int .i64) (.int .i64)))], []⟩)]
noncomputable def cfg13  : Cfg := ⟨lkp tab, lkp [(16, ([], spLess))], lkp live13⟩
noncomputable def f13.r3  (m : Nat) (x0 : List (Int × Int)) (x1 : List (Int × Int)) (x2 : List (Int × Int)) : R := run (cfg13 ) 57 res13 m ((todoR 3 body13 []).getD []) ⟨ofList (.c .junk) [(0, (.c (.sl (.prod (.int .i64) (.int .i64)) x0))), (1, (.c (.sl (.prod (.int .i64) (.int .i64)) x1))), (5, (.c (.sref 766)))], ofList none [(766, some (.arr 24 (.prod (.int .i64) (.int .i64)) x2 false))], ofList false [(766, true)]⟩
noncomputable def f13.go  (m : Nat) (x0 : (List (Int × Int))) (x1 : (List (Int × Int))) : R := run (cfg13 ) 57 res13 m [.code body13] (enter [(.c (.sl (.prod (.int .i64) (.int .i64)) x0)), (.c (.sl (.prod (.int .i64) (.int .i64)) x1))])
theorem f13.start  (m : Nat) (x0 : (List (Int × Int))) (x1 : (List (Int × Int))) : f13.go  (m + 1) x0 x1 =
  test (decide ((0 : Int) ≤ (IntKind.i64.wrap (((List.length x0) : Int) + ((List.length x1) : Int))))) (
   test (decide ((IntKind.i64.wrap (((List.length x0) : Int) + ((List.length x1) : Int))) ≤ ((lim 16) : Int))) (
    f13.r3  m x0 x1 (List.replicate (Int.toNat (0 : Int)) ((0 : Int), (0 : Int))))) := by kernel_rfl
theorem f13.step3  (m : Nat) (x0 : List (Int × Int)) (x1 : List (Int × Int)) (x2 : List (Int × Int)) : f13.r3  (m + 1) x0 x1 x2 =
  cond (((List.length x0) : Int) == (0 : Int)) (
   cond (((List.length x1) : Int) == (0 : Int)) (
    some ((.c (.sl (.prod (.int .i64) (.int .i64)) x2)), [])) (
    cond (((List.length x1) : Int) == (0 : Int)) (
     test (decide ((0 : Int) < ((List.length x0) : Int))) (
      test (decide (((List.length x2) + (List.length (((rdEl (.prod (.int .i64) (.int .i64)) x0 (Int.toNat (0 : Int)))) :: []))) ≤ (lim 16))) (
       test (decide ((1 : Int) ≤ ((List.length x0) : Int))) (
        f13.r3  m (List.drop (Int.toNat (1 : Int)) (List.take (List.length x0) x0)) x1 (x2 ++ (((rdEl (.prod (.int .i64) (.int .i64)) x0 (Int.toNat (0 : Int)))) :: [])))))) (
     cond (decide (((List.length x0) : Int) > (0 : Int))) (
      test (decide ((0 : Int) < ((List.length x1) : Int))) (
       test (decide ((0 : Int) < ((List.length x0) : Int))) (
        cond (Bool.not (less ((rdEl (.prod (.int .i64) (.int .i64)) x1 (Int.toNat (0 : Int)))) ((rdEl (.prod (.int .i64) (.int .i64)) x0 (Int.toNat (0 : Int)))))) (
         test (decide ((0 : Int) < ((List.length x0) : Int))) (
          test (decide (((List.length x2) + (List.length (((rdEl (.prod (.int .i64) (.int .i64)) x0 (Int.toNat (0 : Int)))) :: []))) ≤ (lim 16))) (
           test (decide ((1 : Int) ≤ ((List.length x0) : Int))) (
            f13.r3  m (List.drop (Int.toNat (1 : Int)) (List.take (List.length x0) x0)) x1 (x2 ++ (((rdEl (.prod (.int .i64) (.int .i64)) x0 (Int.toNat (0 : Int)))) :: [])))))) (
         test (decide ((0 : Int) < ((List.length x1) : Int))) (
          test (decide (((List.length x2) + (List.length (((rdEl (.prod (.int .i64) (.int .i64)) x1 (Int.toNat (0 : Int)))) :: []))) ≤ (lim 16))) (
           test (decide ((1 : Int) ≤ ((List.length x1) : Int))) (
            f13.r3  m x0 (List.drop (Int.toNat (1 : Int)) (List.take (List.length x1) x1)) (x2 ++ (((rdEl (.prod (.int .i64) (.int .i64)) x1 (Int.toNat (0 : Int)))) :: []))))))))) (
      test (decide ((0 : Int) < ((List.length x1) : Int))) (
       test (decide (((List.length x2) + (List.length (((rdEl (.prod (.int .i64) (.int .i64)) x1 (Int.toNat (0 : Int)))) :: []))) ≤ (lim 16))) (
        test (decide ((1 : Int) ≤ ((List.length x1) : Int))) (
         f13.r3  m x0 (List.drop (Int.toNat (1 : Int)) (List.take (List.length x1) x1)) (x2 ++ (((rdEl (.prod (.int .i64) (.int .i64)) x1 (Int.toNat (0 : Int)))) :: []))))))))) (
   cond (((List.length x1) : Int) == (0 : Int)) (
    test (decide ((0 : Int) < ((List.length x0) : Int))) (
     test (decide (((List.length x2) + (List.length (((rdEl (.prod (.int .i64) (.int .i64)) x0 (Int.toNat (0 : Int)))) :: []))) ≤ (lim 16))) (
      test (decide ((1 : Int) ≤ ((List.length x0) : Int))) (
       f13.r3  m (List.drop (Int.toNat (1 : Int)) (List.take (List.length x0) x0)) x1 (x2 ++ (((rdEl (.prod (.int .i64) (.int .i64)) x0 (Int.toNat (0 : Int)))) :: [])))))) (
    cond (decide (((List.length x0) : Int) > (0 : Int))) (
     test (decide ((0 : Int) < ((List.length x1) : Int))) (
      test (decide ((0 : Int) < ((List.length x0) : Int))) (
       cond (Bool.not (less ((rdEl (.prod (.int .i64) (.int .i64)) x1 (Int.toNat (0 : Int)))) ((rdEl (.prod (.int .i64) (.int .i64)) x0 (Int.toNat (0 : Int)))))) (
        test (decide ((0 : Int) < ((List.length x0) : Int))) (
         test (decide (((List.length x2) + (List.length (((rdEl (.prod (.int .i64) (.int .i64)) x0 (Int.toNat (0 : Int)))) :: []))) ≤ (lim 16))) (
          test (decide ((1 : Int) ≤ ((List.length x0) : Int))) (
           f13.r3  m (List.drop (Int.toNat (1 : Int)) (List.take (List.length x0) x0)) x1 (x2 ++ (((rdEl (.prod (.int .i64) (.int .i64)) x0 (Int.toNat (0 : Int)))) :: [])))))) (
        test (decide ((0 : Int) < ((List.length x1) : Int))) (
         test (decide (((List.length x2) + (List.length (((rdEl (.prod (.int .i64) (.int .i64)) x1 (Int.toNat (0 : Int)))) :: []))) ≤ (lim 16))) (
          test (decide ((1 : Int) ≤ ((List.length x1) : Int))) (
           f13.r3  m x0 (List.drop (Int.toNat (1 : Int)) (List.take (List.length x1) x1)) (x2 ++ (((rdEl (.prod (.int .i64) (.int .i64)) x1 (Int.toNat (0 : Int)))) :: []))))))))) (
     test (decide ((0 : Int) < ((List.length x1) : Int))) (
      test (decide (((List.length x2) + (List.length (((rdEl (.prod (.int .i64) (.int .i64)) x1 (Int.toNat (0 : Int)))) :: []))) ≤ (lim 16))) (
       test (decide ((1 : Int) ≤ ((List.length x1) : Int))) (
        f13.r3  m x0 (List.drop (Int.toNat (1 : Int)) (List.take (List.length x1) x1)) (x2 ++ (((rdEl (.prod (.int .i64) (.int .i64)) x1 (Int.toNat (0 : Int)))) :: [])))))))) := by kernel_rfl

/-! ### triage/triagelaw3.same -/
noncomputable def body10 : Code := bodyOf Try.f10
noncomputable def res10 : List ResultVar := Try.f10.results.toList
def live10 : List (Nat × Live) := [(4, ⟨[(0, .sl (.prod (.int .i64) (.int .i64))), (1, .sl (.prod (.int .i64) (.int .i64))), (12, .plain), (13, .plain)], []⟩)]
noncomputable def cfg10  : Cfg := ⟨lkp tab, lkp [], lkp live10⟩
noncomputable def f10.r4  (m : Nat) (x0 : List (Int × Int)) (x1 : List (Int × Int)) (x2 : Int) (x3 : Int) : R := run (cfg10 ) 41 res10 m ((todoR 4 body10 []).getD []) ⟨ofList (.c .junk) [(0, (.c (.sl (.prod (.int .i64) (.int .i64)) x0))), (1, (.c (.sl (.prod (.int .i64) (.int .i64)) x1))), (12, (.c (.v (.int .i64 x2)))), (13, (.c (.v (.int .i64 x3))))], ofList none [], ofList false []⟩
noncomputable def f10.go  (m : Nat) (x0 : (List (Int × Int))) (x1 : (List (Int × Int))) : R := run (cfg10 ) 41 res10 m [.code body10] (enter [(.c (.sl (.prod (.int .i64) (.int .i64)) x0)), (.c (.sl (.prod (.int .i64) (.int .i64)) x1))])
theorem f10.start  (m : Nat) (x0 : (List (Int × Int))) (x1 : (List (Int × Int))) : f10.go  (m + 1) x0 x1 =
  cond (bne ((List.length x0) : Int) ((List.length x1) : Int)) (
   some ((.c (.v (.bool false))), [])) (
   f10.r4  m x0 x1 ((List.length x0) : Int) (0 : Int)) := by kernel_rfl
theorem f10.step4  (m : Nat) (x0 : List (Int × Int)) (x1 : List (Int × Int)) (x2 : Int) (x3 : Int) : f10.r4  (m + 1) x0 x1 x2 x3 =
  cond (decide (x3 < x2)) (
   test (decide ((0 : Int) ≤ x3)) (
    test (decide (x3 < ((List.length x0) : Int))) (
     test (decide ((0 : Int) ≤ x3)) (
      test (decide (x3 < ((List.length x1) : Int))) (
       cond (bne ((rdEl (.prod (.int .i64) (.int .i64)) x0 (Int.toNat x3))).1 ((rdEl (.prod (.int .i64) (.int .i64)) x1 (Int.toNat x3))).1) (
        some ((.c (.v (.bool false))), [])) (
        test (decide ((0 : Int) ≤ x3)) (
         test (decide (x3 < ((List.length x0) : Int))) (
          test (decide ((0 : Int) ≤ x3)) (
           test (decide (x3 < ((List.length x1) : Int))) (
            cond (bne ((rdEl (.prod (.int .i64) (.int .i64)) x0 (Int.toNat x3))).2 ((rdEl (.prod (.int .i64) (.int .i64)) x1 (Int.toNat x3))).2) (
             some ((.c (.v (.bool false))), [])) (
             f10.r4  m x0 x1 x2 (IntKind.i64.wrap (x3 + (1 : Int)))))))))))))) (
   some ((.c (.v (.bool true))), [])) := by kernel_rfl

/-! ### triage/triagelaw3.keys -/
noncomputable def body12 : Code := bodyOf Try.f12
noncomputable def res12 : List ResultVar := Try.f12.results.toList
def live12 : List (Nat × Live) := [(3, ⟨[(3, .arr 43 (.prod (.int .i64) (.int .i64))), (6, .sl (.prod (.int .i64) (.int .i64))), (7, .plain), (8, .plain)], []⟩)]
noncomputable def cfg12  : Cfg := ⟨lkp tab, lkp [], lkp live12⟩
noncomputable def f12.r3  (m : Nat) (x0 : List (Int × Int)) (x1 : Int) (x2 : Int) (x3 : List (Int × Int)) : R := run (cfg12 ) 22 res12 m ((todoR 3 body12 []).getD []) ⟨ofList (.c .junk) [(3, (.c (.sref 510))), (6, (.c (.sl (.prod (.int .i64) (.int .i64)) x0))), (7, (.c (.v (.int .i64 x1)))), (8, (.c (.v (.int .i64 x2))))], ofList none [(510, some (.arr 43 (.prod (.int .i64) (.int .i64)) x3 false))], ofList false [(510, true)]⟩
noncomputable def f12.go  (m : Nat) (x0 : (List (Int × Int))) : R := run (cfg12 ) 22 res12 m [.code body12] (enter [(.c (.sl (.prod (.int .i64) (.int .i64)) x0))])
theorem f12.start  (m : Nat) (x0 : (List (Int × Int))) : f12.go  (m + 1) x0 =
  f12.r3  m x0 ((List.length x0) : Int) (0 : Int) [] := by kernel_rfl
theorem f12.step3  (m : Nat) (x0 : List (Int × Int)) (x1 : Int) (x2 : Int) (x3 : List (Int × Int)) : f12.r3  (m + 1) x0 x1 x2 x3 =
  cond (decide (x2 < x1)) (
   test (decide ((0 : Int) ≤ x2)) (
    test (decide (x2 < ((List.length x0) : Int))) (
     test (decide (((List.length x3) + (List.length (((rdEl (.prod (.int .i64) (.int .i64)) x0 (Int.toNat x2))) :: []))) ≤ (lim 16))) (
      f12.r3  m x0 x1 (IntKind.i64.wrap (x2 + (1 : Int))) (x3 ++ (((rdEl (.prod (.int .i64) (.int .i64)) x0 (Int.toNat x2))) :: [])))))) (
   some ((.c (.sl (.prod (.int .i64) (.int .i64)) x3)), [])) := by kernel_rfl

/-! ### triage/order.Sort -/
noncomputable def body9 : Code := bodyOf Try.f9
noncomputable def res9 : List ResultVar := Try.f9.results.toList
def live9 : List (Nat × Live) := []
noncomputable def cfg9 (N : Nat) : Cfg := ⟨lkp tab, lkp [(13, ([], spMerge)), (9, ([], spSortN N))], lkp live9⟩
noncomputable def f9.go (N : Nat) (m : Nat) (x0 : (List (Int × Int))) : R := run (cfg9 N) 21 res9 m [.code body9] (enter [(.c (.sl (.prod (.int .i64) (.int .i64)) x0))])
theorem f9.start (N : Nat) (m : Nat) (x0 : (List (Int × Int))) : f9.go N (m + 1) x0 =
  cond (decide (((List.length x0) : Int) < (2 : Int))) (
   test (decide ((List.length x0) ≤ (lim 16))) (
    some ((.c (.sl (.prod (.int .i64) (.int .i64)) x0)), []))) (
   test (decide ((0 : Int) ≤ (IntKind.i64.wrap (Int.tdiv ((List.length x0) : Int) (2 : Int))))) (
    test (decide ((IntKind.i64.wrap (Int.tdiv ((List.length x0) : Int) (2 : Int))) ≤ ((List.length x0) : Int))) (
     test ((decide ((List.length (List.drop 0 (List.take (Int.toNat (IntKind.i64.wrap (Int.tdiv ((List.length x0) : Int) (2 : Int)))) x0))) < N)) && (decide ((List.length (List.drop 0 (List.take (Int.toNat (IntKind.i64.wrap (Int.tdiv ((List.length x0) : Int) (2 : Int)))) x0))) ≤ 8796093022208))) (
      test (decide ((0 : Int) ≤ (IntKind.i64.wrap (Int.tdiv ((List.length x0) : Int) (2 : Int))))) (
       test (decide ((IntKind.i64.wrap (Int.tdiv ((List.length x0) : Int) (2 : Int))) ≤ ((List.length x0) : Int))) (
        test ((decide ((List.length (List.drop (Int.toNat (IntKind.i64.wrap (Int.tdiv ((List.length x0) : Int) (2 : Int)))) (List.take (List.length x0) x0))) < N)) && (decide ((List.length (List.drop (Int.toNat (IntKind.i64.wrap (Int.tdiv ((List.length x0) : Int) (2 : Int)))) (List.take (List.length x0) x0))) ≤ 8796093022208))) (
         test (decide (((List.length (sort (List.drop 0 (List.take (Int.toNat (IntKind.i64.wrap (Int.tdiv ((List.length x0) : Int) (2 : Int)))) x0)))) + (List.length (sort (List.drop (Int.toNat (IntKind.i64.wrap (Int.tdiv ((List.length x0) : Int) (2 : Int)))) (List.take (List.length x0) x0))))) ≤ 8796093022208)) (
          some ((.c (.sl (.prod (.int .i64) (.int .i64)) (merge (sort (List.drop 0 (List.take (Int.toNat (IntKind.i64.wrap (Int.tdiv ((List.length x0) : Int) (2 : Int)))) x0))) (sort (List.drop (Int.toNat (IntKind.i64.wrap (Int.tdiv ((List.length x0) : Int) (2 : Int)))) (List.take (List.length x0) x0)))))), []))))))))) := by kernel_rfl

/-! ### triage/triagelaw3.awake -/
noncomputable def body8 : Code := bodyOf Try.f8
noncomputable def res8 : List ResultVar := Try.f8.results.toList
def live8 : List (Nat × Live) := []
noncomputable def cfg8  : Cfg := ⟨lkp tab, lkp [(9, ([], spSort)), (14, ([], spFind)), (15, ([], spRising))], lkp live8⟩
noncomputable def f8.go  (m : Nat)  : R := run (cfg8 ) 43 res8 m [.code body8] (enter [])
theorem f8.start  (m : Nat)  : f8.go  (m + 1)  =
  some ((.c (.v (.bool (rising (sort (((2 : Int), (1 : Int)) :: (((1 : Int), (5 : Int)) :: (((2 : Int), (0 : Int)) :: [])))))))), []) := by kernel_rfl

/-! ### triage/triagelaw3.OrderLess -/
noncomputable def body7 : Code := bodyOf Try.f7
noncomputable def res7 : List ResultVar := Try.f7.results.toList
def live7 : List (Nat × Live) := []
noncomputable def cfg7  : Cfg := ⟨lkp tab, lkp [(16, ([], spLess)), (8, ([], spTrue))], lkp live7⟩
noncomputable def f7.go  (m : Nat) (x0 : Int) (x1 : Int) (x2 : Int) (x3 : Int) (x4 : Int) (x5 : Int) : R := run (cfg7 ) 42 res7 m [.code body7] (enter [(.agg [(.v (.int .i64 x0)), (.v (.int .i64 x1))]), (.agg [(.v (.int .i64 x2)), (.v (.int .i64 x3))]), (.agg [(.v (.int .i64 x4)), (.v (.int .i64 x5))])])
theorem f7.start  (m : Nat) (x0 : Int) (x1 : Int) (x2 : Int) (x3 : Int) (x4 : Int) (x5 : Int) : f7.go  (m + 1) x0 x1 x2 x3 x4 x5 =
  cond (less (x0, x1) (x0, x1)) (
   some ((.c (.v (.bool false))), [])) (
   cond (Bool.not ((x0 == x2) && ((x1 == x3) && true))) (
    cond ((less (x0, x1) (x2, x3)) == (less (x2, x3) (x0, x1))) (
     some ((.c (.v (.bool false))), [])) (
     cond (Bool.not (less (x0, x1) (x2, x3))) (
      some ((.c (.v (.bool true))), [])) (
      cond (Bool.not (less (x2, x3) (x4, x5))) (
       some ((.c (.v (.bool true))), [])) (
       cond (less (x0, x1) (x4, x5)) (
        some ((.c (.v (.bool true))), [])) (
        some ((.c (.v (.bool false))), [])))))) (
    cond (Bool.not (less (x0, x1) (x2, x3))) (
     some ((.c (.v (.bool true))), [])) (
     cond (Bool.not (less (x2, x3) (x4, x5))) (
      some ((.c (.v (.bool true))), [])) (
      cond (less (x0, x1) (x4, x5)) (
       some ((.c (.v (.bool true))), [])) (
       some ((.c (.v (.bool false))), [])))))) := by kernel_rfl

end Go.Proofs.Ytnpncjpgihgkcaa
