/-
  Steps of the bodies, from checkpoint to checkpoint (printed by wip/VE/mk2.py).
-/
import Derived.Test.YthlbiibholhkmaaCA
namespace Go.Proofs.Ythlbiibholhkmaa
open Go VE

/-! ### slices.Insert(()triage/api.Timer,triage/api.Timer) -/
noncomputable def insV.body : Code := bodyOf Try.f27
noncomputable def insV.rs : List ResultVar := Try.f27.results.toList
def insV.live : List (Nat × Live) := []
noncomputable def insV.specs  : List (Nat × (List Bool × ISpec)) := []
noncomputable def insV.ospecs  : List (Nat × OS) := []
noncomputable def insV.cfg  : Cfg := ⟨lkp tab, lkp (insV.specs ), lkp insV.live, ⟨lkp (insV.ospecs ), [], some ([.arr 27 TTimer], []), true, [34]⟩⟩
noncomputable def insV.go  (m : Nat) (x0 : (List (El TTimer))) (x1 : Int) (x2 : (El TTimer)) (x3 : Nat) : R := run (insV.cfg ) 95 insV.rs m [.code insV.body] (enterO [.c (.view (oid 0) 3 0 x0.length (some x3)), .c (.v (.int .i64 x1)), .c (.sref (oid 2))] [(oid 0, .row 27 TTimer x0), (oid 2, .arr 27 TTimer [x2] false)])
theorem insV.start  (m : Nat) (x0 : (List (El TTimer))) (x1 : Int) (x2 : (El TTimer)) (x3 : Nat) : insV.go  (m + 1) x0 x1 x2 x3 =
  test (decide ((0 : Int) ≤ x1)) (
   test (decide (x1 ≤ ((List.length x0) : Int))) (
    cond (x1 == ((List.length x0) : Int)) (
     cond (decide (((0 + (List.length x0)) + (List.length (x2 :: ([] : List (El TTimer))))) ≤ x3)) (
      test (decide ((0 + (List.length x0)) ≤ (List.length x0))) (
       test (decide (((List.length x0) + (List.length (x2 :: ([] : List (El TTimer))))) ≤ (List.length (over x0 (0 + (List.length x0)) (x2 :: ([] : List (El TTimer))))))) (
        some ((.c (.sref 115326)), [(115326, (.arr 27 TTimer (List.take ((List.length x0) + (List.length (x2 :: ([] : List (El TTimer))))) (over x0 (0 + (List.length x0)) (x2 :: ([] : List (El TTimer))))) false))])))) (
      test (decide ((0 + (List.length x0)) ≤ (List.length x0))) (
       test (decide (((List.length x0) + (List.length (x2 :: ([] : List (El TTimer))))) ≤ (lim 24))) (
        some ((.c (.sref 115326)), [(115326, (.arr 27 TTimer ((List.take (List.length x0) (List.drop 0 x0)) ++ (x2 :: ([] : List (El TTimer)))) false))]))))) (
     cond (decide ((IntKind.i64.wrap (((List.length x0) : Int) + ((List.length (x2 :: ([] : List (El TTimer)))) : Int))) > ((x3 - 0) : Int))) (
      test (decide ((0 : Int) ≤ x1)) (
       test (decide (x1 ≤ ((x3 - 0) : Int))) (
        test (decide ((0 : Int) < (IntKind.i64.wrap ((IntKind.i64.wrap (((List.length x0) : Int) + ((List.length (x2 :: ([] : List (El TTimer)))) : Int))) - x1)))) (
         test (decide ((x3 : Int) < ((((0 + 0) + ((Int.toNat x1) - 0)) : Int) + (IntKind.i64.wrap ((IntKind.i64.wrap (((List.length x0) : Int) + ((List.length (x2 :: ([] : List (El TTimer)))) : Int))) - x1))))) (
          test (decide (((0 + 0) + ((Int.toNat x1) - 0)) ≤ (List.length x0))) (
           test (decide ((((Int.toNat x1) - 0) + (Int.toNat (IntKind.i64.wrap ((IntKind.i64.wrap (((List.length x0) : Int) + ((List.length (x2 :: ([] : List (El TTimer)))) : Int))) - x1)))) ≤ (lim 24))) (
            test (decide ((0 : Int) ≤ x1)) (
             test (decide (x1 ≤ ((List.length ((List.take ((Int.toNat x1) - 0) (List.drop (0 + 0) x0)) ++ (List.replicate (Int.toNat (IntKind.i64.wrap ((IntKind.i64.wrap (((List.length x0) : Int) + ((List.length (x2 :: ([] : List (El TTimer)))) : Int))) - x1))) ((0 : Int), ((0 : Int), (0 : Int)))))) : Int))) (
              test (decide (((0 + (Int.toNat x1)) + (List.length (List.take ((List.length ((List.take ((Int.toNat x1) - 0) (List.drop (0 + 0) x0)) ++ (List.replicate (Int.toNat (IntKind.i64.wrap ((IntKind.i64.wrap (((List.length x0) : Int) + ((List.length (x2 :: ([] : List (El TTimer)))) : Int))) - x1))) ((0 : Int), ((0 : Int), (0 : Int)))))) - (Int.toNat x1)) (x2 :: ([] : List (El TTimer)))))) ≤ (List.length ((List.take ((Int.toNat x1) - 0) (List.drop (0 + 0) x0)) ++ (List.replicate (Int.toNat (IntKind.i64.wrap ((IntKind.i64.wrap (((List.length x0) : Int) + ((List.length (x2 :: ([] : List (El TTimer)))) : Int))) - x1))) ((0 : Int), ((0 : Int), (0 : Int)))))))) (
               test (decide ((0 : Int) ≤ (IntKind.i64.wrap (x1 + ((List.length (x2 :: ([] : List (El TTimer)))) : Int))))) (
                test (decide ((IntKind.i64.wrap (x1 + ((List.length (x2 :: ([] : List (El TTimer)))) : Int))) ≤ ((List.length (over ((List.take ((Int.toNat x1) - 0) (List.drop (0 + 0) x0)) ++ (List.replicate (Int.toNat (IntKind.i64.wrap ((IntKind.i64.wrap (((List.length x0) : Int) + ((List.length (x2 :: ([] : List (El TTimer)))) : Int))) - x1))) ((0 : Int), ((0 : Int), (0 : Int))))) (0 + (Int.toNat x1)) (List.take ((List.length ((List.take ((Int.toNat x1) - 0) (List.drop (0 + 0) x0)) ++ (List.replicate (Int.toNat (IntKind.i64.wrap ((IntKind.i64.wrap (((List.length x0) : Int) + ((List.length (x2 :: ([] : List (El TTimer)))) : Int))) - x1))) ((0 : Int), ((0 : Int), (0 : Int)))))) - (Int.toNat x1)) (x2 :: ([] : List (El TTimer)))))) : Int))) (
                 test (decide ((0 : Int) ≤ x1)) (
                  test (decide (x1 ≤ ((List.length x0) : Int))) (
                   test (decide (((0 + (Int.toNat x1)) + (Nat.min ((List.length x0) - (Int.toNat x1)) ((List.length (over ((List.take ((Int.toNat x1) - 0) (List.drop (0 + 0) x0)) ++ (List.replicate (Int.toNat (IntKind.i64.wrap ((IntKind.i64.wrap (((List.length x0) : Int) + ((List.length (x2 :: ([] : List (El TTimer)))) : Int))) - x1))) ((0 : Int), ((0 : Int), (0 : Int))))) (0 + (Int.toNat x1)) (List.take ((List.length ((List.take ((Int.toNat x1) - 0) (List.drop (0 + 0) x0)) ++ (List.replicate (Int.toNat (IntKind.i64.wrap ((IntKind.i64.wrap (((List.length x0) : Int) + ((List.length (x2 :: ([] : List (El TTimer)))) : Int))) - x1))) ((0 : Int), ((0 : Int), (0 : Int)))))) - (Int.toNat x1)) (x2 :: ([] : List (El TTimer)))))) - (Int.toNat (IntKind.i64.wrap (x1 + ((List.length (x2 :: ([] : List (El TTimer)))) : Int))))))) ≤ (List.length x0))) (
                    test (decide (((0 + (Int.toNat (IntKind.i64.wrap (x1 + ((List.length (x2 :: ([] : List (El TTimer)))) : Int))))) + (List.length (List.take ((List.length (over ((List.take ((Int.toNat x1) - 0) (List.drop (0 + 0) x0)) ++ (List.replicate (Int.toNat (IntKind.i64.wrap ((IntKind.i64.wrap (((List.length x0) : Int) + ((List.length (x2 :: ([] : List (El TTimer)))) : Int))) - x1))) ((0 : Int), ((0 : Int), (0 : Int))))) (0 + (Int.toNat x1)) (List.take ((List.length ((List.take ((Int.toNat x1) - 0) (List.drop (0 + 0) x0)) ++ (List.replicate (Int.toNat (IntKind.i64.wrap ((IntKind.i64.wrap (((List.length x0) : Int) + ((List.length (x2 :: ([] : List (El TTimer)))) : Int))) - x1))) ((0 : Int), ((0 : Int), (0 : Int)))))) - (Int.toNat x1)) (x2 :: ([] : List (El TTimer)))))) - (Int.toNat (IntKind.i64.wrap (x1 + ((List.length (x2 :: ([] : List (El TTimer)))) : Int))))) (List.take (Nat.min ((List.length x0) - (Int.toNat x1)) ((List.length (over ((List.take ((Int.toNat x1) - 0) (List.drop (0 + 0) x0)) ++ (List.replicate (Int.toNat (IntKind.i64.wrap ((IntKind.i64.wrap (((List.length x0) : Int) + ((List.length (x2 :: ([] : List (El TTimer)))) : Int))) - x1))) ((0 : Int), ((0 : Int), (0 : Int))))) (0 + (Int.toNat x1)) (List.take ((List.length ((List.take ((Int.toNat x1) - 0) (List.drop (0 + 0) x0)) ++ (List.replicate (Int.toNat (IntKind.i64.wrap ((IntKind.i64.wrap (((List.length x0) : Int) + ((List.length (x2 :: ([] : List (El TTimer)))) : Int))) - x1))) ((0 : Int), ((0 : Int), (0 : Int)))))) - (Int.toNat x1)) (x2 :: ([] : List (El TTimer)))))) - (Int.toNat (IntKind.i64.wrap (x1 + ((List.length (x2 :: ([] : List (El TTimer)))) : Int)))))) (List.drop (0 + (Int.toNat x1)) x0))))) ≤ (List.length (over ((List.take ((Int.toNat x1) - 0) (List.drop (0 + 0) x0)) ++ (List.replicate (Int.toNat (IntKind.i64.wrap ((IntKind.i64.wrap (((List.length x0) : Int) + ((List.length (x2 :: ([] : List (El TTimer)))) : Int))) - x1))) ((0 : Int), ((0 : Int), (0 : Int))))) (0 + (Int.toNat x1)) (List.take ((List.length ((List.take ((Int.toNat x1) - 0) (List.drop (0 + 0) x0)) ++ (List.replicate (Int.toNat (IntKind.i64.wrap ((IntKind.i64.wrap (((List.length x0) : Int) + ((List.length (x2 :: ([] : List (El TTimer)))) : Int))) - x1))) ((0 : Int), ((0 : Int), (0 : Int)))))) - (Int.toNat x1)) (x2 :: ([] : List (El TTimer)))))))) (
                     some ((.c (.sref 115326)), [(115326, (.arr 27 TTimer (over (over ((List.take ((Int.toNat x1) - 0) (List.drop (0 + 0) x0)) ++ (List.replicate (Int.toNat (IntKind.i64.wrap ((IntKind.i64.wrap (((List.length x0) : Int) + ((List.length (x2 :: ([] : List (El TTimer)))) : Int))) - x1))) ((0 : Int), ((0 : Int), (0 : Int))))) (0 + (Int.toNat x1)) (List.take ((List.length ((List.take ((Int.toNat x1) - 0) (List.drop (0 + 0) x0)) ++ (List.replicate (Int.toNat (IntKind.i64.wrap ((IntKind.i64.wrap (((List.length x0) : Int) + ((List.length (x2 :: ([] : List (El TTimer)))) : Int))) - x1))) ((0 : Int), ((0 : Int), (0 : Int)))))) - (Int.toNat x1)) (x2 :: ([] : List (El TTimer))))) (0 + (Int.toNat (IntKind.i64.wrap (x1 + ((List.length (x2 :: ([] : List (El TTimer)))) : Int))))) (List.take ((List.length (over ((List.take ((Int.toNat x1) - 0) (List.drop (0 + 0) x0)) ++ (List.replicate (Int.toNat (IntKind.i64.wrap ((IntKind.i64.wrap (((List.length x0) : Int) + ((List.length (x2 :: ([] : List (El TTimer)))) : Int))) - x1))) ((0 : Int), ((0 : Int), (0 : Int))))) (0 + (Int.toNat x1)) (List.take ((List.length ((List.take ((Int.toNat x1) - 0) (List.drop (0 + 0) x0)) ++ (List.replicate (Int.toNat (IntKind.i64.wrap ((IntKind.i64.wrap (((List.length x0) : Int) + ((List.length (x2 :: ([] : List (El TTimer)))) : Int))) - x1))) ((0 : Int), ((0 : Int), (0 : Int)))))) - (Int.toNat x1)) (x2 :: ([] : List (El TTimer)))))) - (Int.toNat (IntKind.i64.wrap (x1 + ((List.length (x2 :: ([] : List (El TTimer)))) : Int))))) (List.take (Nat.min ((List.length x0) - (Int.toNat x1)) ((List.length (over ((List.take ((Int.toNat x1) - 0) (List.drop (0 + 0) x0)) ++ (List.replicate (Int.toNat (IntKind.i64.wrap ((IntKind.i64.wrap (((List.length x0) : Int) + ((List.length (x2 :: ([] : List (El TTimer)))) : Int))) - x1))) ((0 : Int), ((0 : Int), (0 : Int))))) (0 + (Int.toNat x1)) (List.take ((List.length ((List.take ((Int.toNat x1) - 0) (List.drop (0 + 0) x0)) ++ (List.replicate (Int.toNat (IntKind.i64.wrap ((IntKind.i64.wrap (((List.length x0) : Int) + ((List.length (x2 :: ([] : List (El TTimer)))) : Int))) - x1))) ((0 : Int), ((0 : Int), (0 : Int)))))) - (Int.toNat x1)) (x2 :: ([] : List (El TTimer)))))) - (Int.toNat (IntKind.i64.wrap (x1 + ((List.length (x2 :: ([] : List (El TTimer)))) : Int)))))) (List.drop (0 + (Int.toNat x1)) x0)))) false))]))))))))))))))))) (
      test (decide ((0 : Int) ≤ (IntKind.i64.wrap (((List.length x0) : Int) + ((List.length (x2 :: ([] : List (El TTimer)))) : Int))))) (
       test (decide ((IntKind.i64.wrap (((List.length x0) : Int) + ((List.length (x2 :: ([] : List (El TTimer)))) : Int))) ≤ ((x3 - 0) : Int))) (
        test (decide ((0 : Int) ≤ (IntKind.i64.wrap (x1 + ((List.length (x2 :: ([] : List (El TTimer)))) : Int))))) (
         test (decide ((IntKind.i64.wrap (x1 + ((List.length (x2 :: ([] : List (El TTimer)))) : Int))) ≤ (((Int.toNat (IntKind.i64.wrap (((List.length x0) : Int) + ((List.length (x2 :: ([] : List (El TTimer)))) : Int)))) - 0) : Int))) (
          test (decide ((0 : Int) ≤ (IntKind.i64.wrap (x1 + ((List.length (x2 :: ([] : List (El TTimer)))) : Int))))) (
           test (decide ((IntKind.i64.wrap (x1 + ((List.length (x2 :: ([] : List (El TTimer)))) : Int))) ≤ (((Int.toNat (IntKind.i64.wrap (((List.length x0) : Int) + ((List.length (x2 :: ([] : List (El TTimer)))) : Int)))) - 0) : Int))) (
            test (decide ((0 : Int) ≤ x1)) (
             test (decide (x1 ≤ (((Int.toNat (IntKind.i64.wrap (((List.length x0) : Int) + ((List.length (x2 :: ([] : List (El TTimer)))) : Int)))) - 0) : Int))) (
              test (decide ((((0 + 0) + (Int.toNat x1)) + (Nat.min (((Int.toNat (IntKind.i64.wrap (((List.length x0) : Int) + ((List.length (x2 :: ([] : List (El TTimer)))) : Int)))) - 0) - (Int.toNat x1)) (((Int.toNat (IntKind.i64.wrap (((List.length x0) : Int) + ((List.length (x2 :: ([] : List (El TTimer)))) : Int)))) - 0) - (Int.toNat (IntKind.i64.wrap (x1 + ((List.length (x2 :: ([] : List (El TTimer)))) : Int))))))) ≤ (List.length x0))) (
               test (decide (((0 + 0) + (Int.toNat (IntKind.i64.wrap (x1 + ((List.length (x2 :: ([] : List (El TTimer)))) : Int))))) ≤ (List.length x0))) (
                test (decide ((0 : Int) ≤ x1)) (
                 test (decide (x1 ≤ (((Int.toNat (IntKind.i64.wrap (((List.length x0) : Int) + ((List.length (x2 :: ([] : List (El TTimer)))) : Int)))) - 0) : Int))) (
                  test (decide (((0 + 0) + (Int.toNat x1)) ≤ (List.length (over x0 ((0 + 0) + (Int.toNat (IntKind.i64.wrap (x1 + ((List.length (x2 :: ([] : List (El TTimer)))) : Int))))) (List.take (((Int.toNat (IntKind.i64.wrap (((List.length x0) : Int) + ((List.length (x2 :: ([] : List (El TTimer)))) : Int)))) - 0) - (Int.toNat (IntKind.i64.wrap (x1 + ((List.length (x2 :: ([] : List (El TTimer)))) : Int))))) (List.take (Nat.min (((Int.toNat (IntKind.i64.wrap (((List.length x0) : Int) + ((List.length (x2 :: ([] : List (El TTimer)))) : Int)))) - 0) - (Int.toNat x1)) (((Int.toNat (IntKind.i64.wrap (((List.length x0) : Int) + ((List.length (x2 :: ([] : List (El TTimer)))) : Int)))) - 0) - (Int.toNat (IntKind.i64.wrap (x1 + ((List.length (x2 :: ([] : List (El TTimer)))) : Int)))))) (List.drop ((0 + 0) + (Int.toNat x1)) x0))))))) (
                   test (decide (((Int.toNat (IntKind.i64.wrap (((List.length x0) : Int) + ((List.length (x2 :: ([] : List (El TTimer)))) : Int)))) - 0) ≤ (List.length (over (over x0 ((0 + 0) + (Int.toNat (IntKind.i64.wrap (x1 + ((List.length (x2 :: ([] : List (El TTimer)))) : Int))))) (List.take (((Int.toNat (IntKind.i64.wrap (((List.length x0) : Int) + ((List.length (x2 :: ([] : List (El TTimer)))) : Int)))) - 0) - (Int.toNat (IntKind.i64.wrap (x1 + ((List.length (x2 :: ([] : List (El TTimer)))) : Int))))) (List.take (Nat.min (((Int.toNat (IntKind.i64.wrap (((List.length x0) : Int) + ((List.length (x2 :: ([] : List (El TTimer)))) : Int)))) - 0) - (Int.toNat x1)) (((Int.toNat (IntKind.i64.wrap (((List.length x0) : Int) + ((List.length (x2 :: ([] : List (El TTimer)))) : Int)))) - 0) - (Int.toNat (IntKind.i64.wrap (x1 + ((List.length (x2 :: ([] : List (El TTimer)))) : Int)))))) (List.drop ((0 + 0) + (Int.toNat x1)) x0)))) ((0 + 0) + (Int.toNat x1)) (List.take (((Int.toNat (IntKind.i64.wrap (((List.length x0) : Int) + ((List.length (x2 :: ([] : List (El TTimer)))) : Int)))) - 0) - (Int.toNat x1)) (x2 :: ([] : List (El TTimer)))))))) (
                    some ((.c (.sref 115326)), [(115326, (.arr 27 TTimer (List.take ((Int.toNat (IntKind.i64.wrap (((List.length x0) : Int) + ((List.length (x2 :: ([] : List (El TTimer)))) : Int)))) - 0) (over (over x0 ((0 + 0) + (Int.toNat (IntKind.i64.wrap (x1 + ((List.length (x2 :: ([] : List (El TTimer)))) : Int))))) (List.take (((Int.toNat (IntKind.i64.wrap (((List.length x0) : Int) + ((List.length (x2 :: ([] : List (El TTimer)))) : Int)))) - 0) - (Int.toNat (IntKind.i64.wrap (x1 + ((List.length (x2 :: ([] : List (El TTimer)))) : Int))))) (List.take (Nat.min (((Int.toNat (IntKind.i64.wrap (((List.length x0) : Int) + ((List.length (x2 :: ([] : List (El TTimer)))) : Int)))) - 0) - (Int.toNat x1)) (((Int.toNat (IntKind.i64.wrap (((List.length x0) : Int) + ((List.length (x2 :: ([] : List (El TTimer)))) : Int)))) - 0) - (Int.toNat (IntKind.i64.wrap (x1 + ((List.length (x2 :: ([] : List (El TTimer)))) : Int)))))) (List.drop ((0 + 0) + (Int.toNat x1)) x0)))) ((0 + 0) + (Int.toNat x1)) (List.take (((Int.toNat (IntKind.i64.wrap (((List.length x0) : Int) + ((List.length (x2 :: ([] : List (El TTimer)))) : Int)))) - 0) - (Int.toNat x1)) (x2 :: ([] : List (El TTimer)))))) false))]))))))))))))))))))) := by kernel_rfl
theorem insV.run_eq  (m : Nat) (x0 : (List (El TTimer))) (x1 : Int) (x2 : (El TTimer)) (x3 : Nat) : run (insV.cfg ) Try.f27.ntmps Try.f27.results.toList m [.code (bodyOf Try.f27)] (enterO [.c (.view (oid 0) 3 0 x0.length (some x3)), .c (.v (.int .i64 x1)), .c (.sref (oid 2))] [(oid 0, .row 27 TTimer x0), (oid 2, .arr 27 TTimer [x2] false)]) = insV.go  m x0 x1 x2 x3 := by kernel_rfl
theorem insV.ret  (hs : SpecsOK Try.prog (insV.specs ))  (x0 : (List (El TTimer))) (x1 : Int) (x2 : (El TTimer)) (x3 : Nat) {m : Nat} {r : IV} {b : List (Nat × Box)} (h : insV.go  m x0 x1 x2 x3 = some (r, b)) : VE.ReturnsO Try.prog 27 [.c (.view (oid 0) 3 0 x0.length (some x3)), .c (.v (.int .i64 x1)), .c (.sref (oid 2))] [(oid 0, .row 27 TTimer x0), (oid 2, .arr 27 TTimer [x2] false)] r b :=
  returnsO_of_run (cfg := insV.cfg ) (cfgOK_of mixed tab_ok hs .nil ovl_ok) rfl Try.func27 (body_some (by kernel_rfl)) (Nat.le_of_ble_eq_true (by kernel_rfl)) (fun _ _ _ h => by simp at h) ((insV.run_eq  m x0 x1 x2 x3).trans h)

/-! ### slices.Insert(()triage/api.Timer,triage/api.Timer) -/
abbrev ins.ps : List AK := [.m 27 TTimer, .d false (.int .i64), .m 27 TTimer]
def ins.pre : ElA ins.ps → Bool := fun (x : (List (El TTimer)) × Int × (List (El TTimer)) × Unit) => fits (.sl TTimer) (x.1) && (fits (.int .i64) (x.2.1) && (fits (.sl TTimer) (x.2.2.1) && ((fun l i v => decide (0 ≤ i ∧ i ≤ (List.length l : Int) ∧ List.length l ≤ 1000000 ∧ List.length v = 1)) x.1 x.2.1 x.2.2.1 && (true))))
def ins.rv : ElA ins.ps → List RV := fun (x : (List (El TTimer)) × Int × (List (El TTimer)) × Unit) => [.m 27 TTimer ((fun l i v => putIn l i.toNat (rdEl TTimer v 0)) x.1 x.2.1 x.2.2.1)]
def ins.res : ElA ins.ps → IV := fun x => oneOrTup (rvIVs 0 (ins.rv x))
def ins.back : ElA ins.ps → List (Nat × Box) := fun (x : (List (El TTimer)) × Int × (List (El TTimer)) × Unit) => rvBxs 0 (ins.rv x)
def ins.sp : OSpec := spO ins.ps ins.pre ins.res ins.back
abbrev ins.OK : Prop := SpecOKO Try.prog 27 ins.sp
theorem ins.mkR (H : ∀ (x0 : (List (El TTimer))) (x1 : Int) (x2 : (List (El TTimer))), ins.pre (x0, x1, x2, ()) = true → VE.ReturnsO Try.prog 27 (ivAO 0 ins.ps (x0, x1, x2, ())) (bxAO 0 ins.ps (x0, x1, x2, ())) (ins.res (x0, x1, x2, ())) (ins.back (x0, x1, x2, ()))) : SpecOKO Try.prog 27 ins.sp :=
  specO_ret Try.func27 (by kernel_rfl) (by kernel_rfl) fun (x : (List (El TTimer)) × Int × (List (El TTimer)) × Unit) hx => H (x.1) (x.2.1) (x.2.2.1) hx

/-! ### cmp.isNaN(int) -/
abbrev isNaN.ps : List AK := [.d false (.int .i64)]
def isNaN.pre : ElA isNaN.ps → Bool := fun (x : Int × Unit) => fits (.int .i64) (x.1) && (true)
def isNaN.res : ElA isNaN.ps → IV := fun (x : Int × Unit) => (fun _ => vb false) x.1
def isNaN.sp : ISpec := spOf isNaN.ps isNaN.pre isNaN.res
abbrev isNaN.OK : Prop := SpecOK Try.prog 38 isNaN.sp
noncomputable def isNaN.body : Code := bodyOf Try.f38
noncomputable def isNaN.rs : List ResultVar := Try.f38.results.toList
def isNaN.live : List (Nat × Live) := []
noncomputable def isNaN.specs  : List (Nat × (List Bool × ISpec)) := []
noncomputable def isNaN.ospecs  : List (Nat × OS) := []
noncomputable def isNaN.cfg  : Cfg := ⟨lkp tab, lkp (isNaN.specs ), lkp isNaN.live, ⟨lkp (isNaN.ospecs ), [], none, false, []⟩⟩
noncomputable def isNaN.go  (m : Nat) (x0 : Int) : R := run (isNaN.cfg ) 6 isNaN.rs m [.code isNaN.body] (enter (ivA isNaN.ps (x0, ())))
theorem isNaN.start  (m : Nat) (x0 : Int) : isNaN.go  (m + 1) x0 =
  some ((.c (.v (.bool (bne x0 x0)))), []) := by kernel_rfl
theorem isNaN.run_eq  (m : Nat) (x0 : Int) : run (isNaN.cfg ) Try.f38.ntmps Try.f38.results.toList m [.code (bodyOf Try.f38)] (enter (ivA isNaN.ps (x0, ()))) = isNaN.go  m x0 := by kernel_rfl
theorem isNaN.ret  (hs : SpecsOK Try.prog (isNaN.specs ))  (x0 : Int) {m : Nat} {r : IV} (h : isNaN.go  m x0 = some (r, [])) : VE.Returns Try.prog 38 (ivA isNaN.ps (x0, ())) r :=
  returns_of_run (cfg := isNaN.cfg ) (cfgOK_of mixed tab_ok hs .nil) rfl Try.func38 (body_some (by kernel_rfl)) (Nat.le_of_ble_eq_true (by kernel_rfl)) ((isNaN.run_eq  m x0).trans h)
abbrev isNaN.Law : Prop := ∀ (x0 : Int), isNaN.pre (x0, ()) = true → VE.Returns Try.prog 38 (ivA isNaN.ps (x0, ())) (isNaN.res (x0, ()))
theorem isNaN.mkR (H : ∀ (x0 : Int), isNaN.pre (x0, ()) = true → VE.Returns Try.prog 38 (ivA isNaN.ps (x0, ())) (isNaN.res (x0, ()))) : SpecOK Try.prog 38 isNaN.sp :=
  specOf_ret Try.func38 (by kernel_rfl) (by kernel_rfl) fun (x : Int × Unit) hx => H (x.1) hx
theorem isNaN.mk  (hs : SpecsOK Try.prog (isNaN.specs ))  (H : ∀ (x0 : Int), isNaN.pre (x0, ()) = true → ∃ m, isNaN.go  m x0 = some (isNaN.res (x0, ()), [])) : SpecOK Try.prog 38 isNaN.sp :=
  isNaN.mkR fun x0 hx => (H x0 hx).elim fun _ hm => isNaN.ret  hs  x0 hm

/-! ### cmp.Compare(int) -/
abbrev cmpI.ps : List AK := [.d false (.int .i64), .d false (.int .i64)]
def cmpI.pre : ElA cmpI.ps → Bool := fun (x : Int × Int × Unit) => fits (.int .i64) (x.1) && (fits (.int .i64) (x.2.1) && (true))
def cmpI.res : ElA cmpI.ps → IV := fun (x : Int × Int × Unit) => (fun x y => vi .i64 (cmpI x y)) x.1 x.2.1
def cmpI.sp : ISpec := spOf cmpI.ps cmpI.pre cmpI.res
abbrev cmpI.OK : Prop := SpecOK Try.prog 32 cmpI.sp
noncomputable def cmpI.body : Code := bodyOf Try.f32
noncomputable def cmpI.rs : List ResultVar := Try.f32.results.toList
def cmpI.live : List (Nat × Live) := []
noncomputable def cmpI.specs  : List (Nat × (List Bool × ISpec)) := [(38, ([], isNaN.sp))]
noncomputable def cmpI.ospecs  : List (Nat × OS) := []
noncomputable def cmpI.cfg  : Cfg := ⟨lkp tab, lkp (cmpI.specs ), lkp cmpI.live, ⟨lkp (cmpI.ospecs ), [], none, false, []⟩⟩
noncomputable def cmpI.go  (m : Nat) (x0 : Int) (x1 : Int) : R := run (cmpI.cfg ) 20 cmpI.rs m [.code cmpI.body] (enter (ivA cmpI.ps (x0, x1, ())))
theorem cmpI.start  (m : Nat) (x0 : Int) (x1 : Int) : cmpI.go  (m + 1) x0 x1 =
  cond (decide (x0 < x1)) (
   some ((.c (.v (.int .i64 (-(1 : Int))))), [])) (
   cond (decide (x0 > x1)) (
    some ((.c (.v (.int .i64 (1 : Int)))), [])) (
    some ((.c (.v (.int .i64 (0 : Int)))), []))) := by kernel_rfl
theorem cmpI.run_eq  (m : Nat) (x0 : Int) (x1 : Int) : run (cmpI.cfg ) Try.f32.ntmps Try.f32.results.toList m [.code (bodyOf Try.f32)] (enter (ivA cmpI.ps (x0, x1, ()))) = cmpI.go  m x0 x1 := by kernel_rfl
theorem cmpI.ret  (hs : SpecsOK Try.prog (cmpI.specs ))  (x0 : Int) (x1 : Int) {m : Nat} {r : IV} (h : cmpI.go  m x0 x1 = some (r, [])) : VE.Returns Try.prog 32 (ivA cmpI.ps (x0, x1, ())) r :=
  returns_of_run (cfg := cmpI.cfg ) (cfgOK_of mixed tab_ok hs .nil) rfl Try.func32 (body_some (by kernel_rfl)) (Nat.le_of_ble_eq_true (by kernel_rfl)) ((cmpI.run_eq  m x0 x1).trans h)
abbrev cmpI.Law : Prop := ∀ (x0 : Int) (x1 : Int), cmpI.pre (x0, x1, ()) = true → VE.Returns Try.prog 32 (ivA cmpI.ps (x0, x1, ())) (cmpI.res (x0, x1, ()))
theorem cmpI.mkR (H : ∀ (x0 : Int) (x1 : Int), cmpI.pre (x0, x1, ()) = true → VE.Returns Try.prog 32 (ivA cmpI.ps (x0, x1, ())) (cmpI.res (x0, x1, ()))) : SpecOK Try.prog 32 cmpI.sp :=
  specOf_ret Try.func32 (by kernel_rfl) (by kernel_rfl) fun (x : Int × Int × Unit) hx => H (x.1) (x.2.1) hx
theorem cmpI.mk  (hs : SpecsOK Try.prog (cmpI.specs ))  (H : ∀ (x0 : Int) (x1 : Int), cmpI.pre (x0, x1, ()) = true → ∃ m, cmpI.go  m x0 x1 = some (cmpI.res (x0, x1, ()), [])) : SpecOK Try.prog 32 cmpI.sp :=
  cmpI.mkR fun x0 x1 hx => (H x0 x1 hx).elim fun _ hm => cmpI.ret  hs  x0 x1 hm

/-! ### triage/order.Less -/
abbrev less.ps : List AK := [.d true (.prod (.int .i64) (.int .i64)), .d true (.prod (.int .i64) (.int .i64))]
def less.pre : ElA less.ps → Bool := fun (x : (Int × Int) × (Int × Int) × Unit) => fits (.prod (.int .i64) (.int .i64)) (x.1) && (fits (.prod (.int .i64) (.int .i64)) (x.2.1) && (true))
def less.res : ElA less.ps → IV := fun (x : (Int × Int) × (Int × Int) × Unit) => (fun k l => vb (ltK k l)) x.1 x.2.1
def less.sp : ISpec := spOf less.ps less.pre less.res
abbrev less.OK : Prop := SpecOK Try.prog 33 less.sp
noncomputable def less.body : Code := bodyOf Try.f33
noncomputable def less.rs : List ResultVar := Try.f33.results.toList
def less.live : List (Nat × Live) := []
noncomputable def less.specs  : List (Nat × (List Bool × ISpec)) := []
noncomputable def less.ospecs  : List (Nat × OS) := []
noncomputable def less.cfg  : Cfg := ⟨lkp tab, lkp (less.specs ), lkp less.live, ⟨lkp (less.ospecs ), [], none, false, []⟩⟩
noncomputable def less.go  (m : Nat) (x0 : (Int × Int)) (x1 : (Int × Int)) : R := run (less.cfg ) 24 less.rs m [.code less.body] (enter (ivA less.ps (x0, x1, ())))
theorem less.start  (m : Nat) (x0 : (Int × Int)) (x1 : (Int × Int)) : less.go  (m + 1) x0 x1 =
  cond (decide (x0.1 < x1.1)) (
   some ((.c (.v (.bool true))), [])) (
   cond (x0.1 == x1.1) (
    some ((.c (.v (.bool (decide (x0.2 < x1.2))))), [])) (
    some ((.c (.v (.bool false))), []))) := by kernel_rfl
theorem less.run_eq  (m : Nat) (x0 : (Int × Int)) (x1 : (Int × Int)) : run (less.cfg ) Try.f33.ntmps Try.f33.results.toList m [.code (bodyOf Try.f33)] (enter (ivA less.ps (x0, x1, ()))) = less.go  m x0 x1 := by kernel_rfl
theorem less.ret  (hs : SpecsOK Try.prog (less.specs ))  (x0 : (Int × Int)) (x1 : (Int × Int)) {m : Nat} {r : IV} (h : less.go  m x0 x1 = some (r, [])) : VE.Returns Try.prog 33 (ivA less.ps (x0, x1, ())) r :=
  returns_of_run (cfg := less.cfg ) (cfgOK_of mixed tab_ok hs .nil) rfl Try.func33 (body_some (by kernel_rfl)) (Nat.le_of_ble_eq_true (by kernel_rfl)) ((less.run_eq  m x0 x1).trans h)
abbrev less.Law : Prop := ∀ (x0 : (Int × Int)) (x1 : (Int × Int)), less.pre (x0, x1, ()) = true → VE.Returns Try.prog 33 (ivA less.ps (x0, x1, ())) (less.res (x0, x1, ()))
theorem less.mkR (H : ∀ (x0 : (Int × Int)) (x1 : (Int × Int)), less.pre (x0, x1, ()) = true → VE.Returns Try.prog 33 (ivA less.ps (x0, x1, ())) (less.res (x0, x1, ()))) : SpecOK Try.prog 33 less.sp :=
  specOf_ret Try.func33 (by kernel_rfl) (by kernel_rfl) fun (x : (Int × Int) × (Int × Int) × Unit) hx => H (x.1) (x.2.1) hx
theorem less.mk  (hs : SpecsOK Try.prog (less.specs ))  (H : ∀ (x0 : (Int × Int)) (x1 : (Int × Int)), less.pre (x0, x1, ()) = true → ∃ m, less.go  m x0 x1 = some (less.res (x0, x1, ()), [])) : SpecOK Try.prog 33 less.sp :=
  less.mkR fun x0 x1 hx => (H x0 x1 hx).elim fun _ hm => less.ret  hs  x0 x1 hm

/-! ### triage/clock.compare -/
abbrev cmpT.ps : List AK := [.d true TTimer, .d true TTimer]
def cmpT.pre : ElA cmpT.ps → Bool := fun (x : (El TTimer) × (El TTimer) × Unit) => fits TTimer (x.1) && (fits TTimer (x.2.1) && (true))
def cmpT.res : ElA cmpT.ps → IV := fun (x : (El TTimer) × (El TTimer) × Unit) => (fun a b => vi .i64 (cmpT a b)) x.1 x.2.1
def cmpT.sp : ISpec := spOf cmpT.ps cmpT.pre cmpT.res
abbrev cmpT.OK : Prop := SpecOK Try.prog 26 cmpT.sp
noncomputable def cmpT.body : Code := bodyOf Try.f26
noncomputable def cmpT.rs : List ResultVar := Try.f26.results.toList
def cmpT.live : List (Nat × Live) := []
noncomputable def cmpT.specs  : List (Nat × (List Bool × ISpec)) := [(32, ([], cmpI.sp)), (33, ([], less.sp))]
noncomputable def cmpT.ospecs  : List (Nat × OS) := []
noncomputable def cmpT.cfg  : Cfg := ⟨lkp tab, lkp (cmpT.specs ), lkp cmpT.live, ⟨lkp (cmpT.ospecs ), [], none, false, []⟩⟩
noncomputable def cmpT.go  (m : Nat) (x0 : (El TTimer)) (x1 : (El TTimer)) : R := run (cmpT.cfg ) 35 cmpT.rs m [.code cmpT.body] (enter (ivA cmpT.ps (x0, x1, ())))
theorem cmpT.start  (m : Nat) (x0 : (El TTimer)) (x1 : (El TTimer)) : cmpT.go  (m + 1) x0 x1 =
  cond (bne x0.1 x1.1) (
   some ((.c (.v (.int .i64 (cmpI x0.1 x1.1)))), [])) (
   cond (ltK x0.2 x1.2) (
    some ((.c (.v (.int .i64 (-(1 : Int))))), [])) (
    cond (ltK x1.2 x0.2) (
     some ((.c (.v (.int .i64 (1 : Int)))), [])) (
     some ((.c (.v (.int .i64 (0 : Int)))), [])))) := by kernel_rfl
theorem cmpT.run_eq  (m : Nat) (x0 : (El TTimer)) (x1 : (El TTimer)) : run (cmpT.cfg ) Try.f26.ntmps Try.f26.results.toList m [.code (bodyOf Try.f26)] (enter (ivA cmpT.ps (x0, x1, ()))) = cmpT.go  m x0 x1 := by kernel_rfl
theorem cmpT.ret  (hs : SpecsOK Try.prog (cmpT.specs ))  (x0 : (El TTimer)) (x1 : (El TTimer)) {m : Nat} {r : IV} (h : cmpT.go  m x0 x1 = some (r, [])) : VE.Returns Try.prog 26 (ivA cmpT.ps (x0, x1, ())) r :=
  returns_of_run (cfg := cmpT.cfg ) (cfgOK_of mixed tab_ok hs .nil) rfl Try.func26 (body_some (by kernel_rfl)) (Nat.le_of_ble_eq_true (by kernel_rfl)) ((cmpT.run_eq  m x0 x1).trans h)
abbrev cmpT.Law : Prop := ∀ (x0 : (El TTimer)) (x1 : (El TTimer)), cmpT.pre (x0, x1, ()) = true → VE.Returns Try.prog 26 (ivA cmpT.ps (x0, x1, ())) (cmpT.res (x0, x1, ()))
theorem cmpT.mkR (H : ∀ (x0 : (El TTimer)) (x1 : (El TTimer)), cmpT.pre (x0, x1, ()) = true → VE.Returns Try.prog 26 (ivA cmpT.ps (x0, x1, ())) (cmpT.res (x0, x1, ()))) : SpecOK Try.prog 26 cmpT.sp :=
  specOf_ret Try.func26 (by kernel_rfl) (by kernel_rfl) fun (x : (El TTimer) × (El TTimer) × Unit) hx => H (x.1) (x.2.1) hx
theorem cmpT.mk  (hs : SpecsOK Try.prog (cmpT.specs ))  (H : ∀ (x0 : (El TTimer)) (x1 : (El TTimer)), cmpT.pre (x0, x1, ()) = true → ∃ m, cmpT.go  m x0 x1 = some (cmpT.res (x0, x1, ()), [])) : SpecOK Try.prog 26 cmpT.sp :=
  cmpT.mkR fun x0 x1 hx => (H x0 x1 hx).elim fun _ hm => cmpT.ret  hs  x0 x1 hm

/-! ### slices.BinarySearchFunc(()triage/api.Timer,triage/api.Timer,triage/api.Timer) -/
abbrev bs.ps : List AK := [.d false (.sl TTimer), .d true TTimer, .f 26 []]
def bs.pre : ElA bs.ps → Bool := fun (x : (List (El TTimer)) × (El TTimer) × Unit × Unit) => fits (.sl TTimer) (x.1) && (fits TTimer (x.2.1) && ((fun l _ _ => risesT l) x.1 x.2.1 x.2.2.1 && (true)))
def bs.res : ElA bs.ps → IV := fun (x : (List (El TTimer)) × (El TTimer) × Unit × Unit) => (fun l t _ => .tup [vi .i64 (placeT l t : Int), vb (thereT l t)]) x.1 x.2.1 x.2.2.1
def bs.sp : ISpec := spOf bs.ps bs.pre bs.res
abbrev bs.OK : Prop := SpecOK Try.prog 25 bs.sp
noncomputable def bs.body : Code := bodyOf Try.f25
noncomputable def bs.rs : List ResultVar := Try.f25.results.toList
def bs.live : List (Nat × Live) := [(3, ⟨[(0, .sl TTimer), (2, .plain), (4, .plain), (8, .plain), (9, .plain), (10, .plain)], [(1, [])]⟩)]
noncomputable def bs.specs  : List (Nat × (List Bool × ISpec)) := [(26, ([], cmpT.sp))]
noncomputable def bs.ospecs  : List (Nat × OS) := []
noncomputable def bs.cfg  : Cfg := ⟨lkp tab, lkp (bs.specs ), lkp bs.live, ⟨lkp (bs.ospecs ), [], none, false, []⟩⟩
noncomputable def bs.l1  (m : Nat) (x0 : List (El TTimer)) (x1 : Int) (x2 : Int) (x3 : Int) (x4 : Int) (x5 : Int) (x6 : Int) : R := run (bs.cfg ) 49 bs.rs m ((todoR 3 bs.body []).getD []) ⟨ofList (.c .junk) [(0, (.c (.sl TTimer x0))), (2, (.c (.fn 26 []))), (4, (.c (.ref 1 0))), (8, (.c (.v (.int .i64 x1)))), (9, (.c (.v (.int .i64 x2)))), (10, (.c (.v (.int .i64 x3))))], ofList none [(1, some (.cells 27 [(.v (.int .i64 x4)), (.v (.int .i64 x5)), (.v (.int .i64 x6))]))], ofList false [(1, true)]⟩
noncomputable def bs.go  (m : Nat) (x0 : (List (El TTimer))) (x1 : (El TTimer)) (x2 : Unit) : R := run (bs.cfg ) 49 bs.rs m [.code bs.body] (enter (ivA bs.ps (x0, x1, x2, ())))
theorem bs.start  (m : Nat) (x0 : (List (El TTimer))) (x1 : (El TTimer)) (x2 : Unit) : bs.go  (m + 1) x0 x1 x2 =
  bs.l1  m x0 ((List.length x0) : Int) (0 : Int) ((List.length x0) : Int) x1.1 x1.2.1 x1.2.2 := by kernel_rfl
theorem bs.s1  (m : Nat) (x0 : List (El TTimer)) (x1 : Int) (x2 : Int) (x3 : Int) (x4 : Int) (x5 : Int) (x6 : Int) : bs.l1  (m + 1) x0 x1 x2 x3 x4 x5 x6 =
  cond (decide (x2 < x3)) (
   test (decide ((0 : Int) ≤ (IntKind.i64.wrap (Int.fdiv (IntKind.u64.wrap (IntKind.i64.wrap (x2 + x3))) ((2 : Int) ^ (Min.min (Int.toNat (1 : Int)) (Go.IntKind.bits Go.IntKind.u64))))))) (
    test (decide ((IntKind.i64.wrap (Int.fdiv (IntKind.u64.wrap (IntKind.i64.wrap (x2 + x3))) ((2 : Int) ^ (Min.min (Int.toNat (1 : Int)) (Go.IntKind.bits Go.IntKind.u64))))) < ((List.length x0) : Int))) (
     cond (decide ((cmpT ((rdEl TTimer x0 (Int.toNat (IntKind.i64.wrap (Int.fdiv (IntKind.u64.wrap (IntKind.i64.wrap (x2 + x3))) ((2 : Int) ^ (Min.min (Int.toNat (1 : Int)) (Go.IntKind.bits Go.IntKind.u64)))))))) (x4, (x5, x6))) < (0 : Int))) (
      bs.l1  m x0 x1 (IntKind.i64.wrap ((IntKind.i64.wrap (Int.fdiv (IntKind.u64.wrap (IntKind.i64.wrap (x2 + x3))) ((2 : Int) ^ (Min.min (Int.toNat (1 : Int)) (Go.IntKind.bits Go.IntKind.u64))))) + (1 : Int))) x3 x4 x5 x6) (
      bs.l1  m x0 x1 x2 (IntKind.i64.wrap (Int.fdiv (IntKind.u64.wrap (IntKind.i64.wrap (x2 + x3))) ((2 : Int) ^ (Min.min (Int.toNat (1 : Int)) (Go.IntKind.bits Go.IntKind.u64))))) x4 x5 x6)))) (
   cond (decide (x2 < x1)) (
    test (decide ((0 : Int) ≤ x2)) (
     test (decide (x2 < ((List.length x0) : Int))) (
      some ((.tup [(.c (.v (.int .i64 x2))), (.c (.v (.bool ((cmpT ((rdEl TTimer x0 (Int.toNat x2))) (x4, (x5, x6))) == (0 : Int)))))]), [])))) (
    some ((.tup [(.c (.v (.int .i64 x2))), (.c (.v (.bool false)))]), []))) := by kernel_rfl
theorem bs.run_eq  (m : Nat) (x0 : (List (El TTimer))) (x1 : (El TTimer)) (x2 : Unit) : run (bs.cfg ) Try.f25.ntmps Try.f25.results.toList m [.code (bodyOf Try.f25)] (enter (ivA bs.ps (x0, x1, x2, ()))) = bs.go  m x0 x1 x2 := by kernel_rfl
theorem bs.ret  (hs : SpecsOK Try.prog (bs.specs ))  (x0 : (List (El TTimer))) (x1 : (El TTimer)) (x2 : Unit) {m : Nat} {r : IV} (h : bs.go  m x0 x1 x2 = some (r, [])) : VE.Returns Try.prog 25 (ivA bs.ps (x0, x1, x2, ())) r :=
  returns_of_run (cfg := bs.cfg ) (cfgOK_of mixed tab_ok hs .nil) rfl Try.func25 (body_some (by kernel_rfl)) (Nat.le_of_ble_eq_true (by kernel_rfl)) ((bs.run_eq  m x0 x1 x2).trans h)
abbrev bs.Law : Prop := ∀ (x0 : (List (El TTimer))) (x1 : (El TTimer)) (x2 : Unit), bs.pre (x0, x1, x2, ()) = true → VE.Returns Try.prog 25 (ivA bs.ps (x0, x1, x2, ())) (bs.res (x0, x1, x2, ()))
theorem bs.mkR (H : ∀ (x0 : (List (El TTimer))) (x1 : (El TTimer)) (x2 : Unit), bs.pre (x0, x1, x2, ()) = true → VE.Returns Try.prog 25 (ivA bs.ps (x0, x1, x2, ())) (bs.res (x0, x1, x2, ()))) : SpecOK Try.prog 25 bs.sp :=
  specOf_ret Try.func25 (by kernel_rfl) (by kernel_rfl) fun (x : (List (El TTimer)) × (El TTimer) × Unit × Unit) hx => H (x.1) (x.2.1) (x.2.2.1) hx
theorem bs.mk  (hs : SpecsOK Try.prog (bs.specs ))  (H : ∀ (x0 : (List (El TTimer))) (x1 : (El TTimer)) (x2 : Unit), bs.pre (x0, x1, x2, ()) = true → ∃ m, bs.go  m x0 x1 x2 = some (bs.res (x0, x1, x2, ()), [])) : SpecOK Try.prog 25 bs.sp :=
  bs.mkR fun x0 x1 x2 hx => (H x0 x1 x2 hx).elim fun _ hm => bs.ret  hs  x0 x1 x2 hm

/-! ### (*triage/clock.Clock).find$1 -/
abbrev keyF.ps : List AK := [.d true TTimer, .p (.int .i64), .p (.int .i64)]
def keyF.pre : ElA keyF.ps → Bool := fun (x : (El TTimer) × Int × Int × Unit) => fits TTimer (x.1) && (fits (.int .i64) (x.2.1) && (fits (.int .i64) (x.2.2.1) && (true)))
def keyF.res : ElA keyF.ps → IV := fun (x : (El TTimer) × Int × Int × Unit) => (fun t k i => vb (keyK k i t)) x.1 x.2.1 x.2.2.1
def keyF.sp : ISpec := spOf keyF.ps keyF.pre keyF.res
abbrev keyF.OK : Prop := SpecOK Try.prog 37 keyF.sp
noncomputable def keyF.body : Code := bodyOf Try.f37
noncomputable def keyF.rs : List ResultVar := Try.f37.results.toList
def keyF.live : List (Nat × Live) := []
noncomputable def keyF.specs  : List (Nat × (List Bool × ISpec)) := []
noncomputable def keyF.ospecs  : List (Nat × OS) := []
noncomputable def keyF.cfg  : Cfg := ⟨lkp tab, lkp (keyF.specs ), lkp keyF.live, ⟨lkp (keyF.ospecs ), [], none, false, []⟩⟩
noncomputable def keyF.go  (m : Nat) (x0 : (El TTimer)) (x1 : Int) (x2 : Int) : R := run (keyF.cfg ) 15 keyF.rs m [.code keyF.body] (enter (ivA keyF.ps (x0, x1, x2, ())))
theorem keyF.start  (m : Nat) (x0 : (El TTimer)) (x1 : Int) (x2 : Int) : keyF.go  (m + 1) x0 x1 x2 =
  cond (x0.2.1 == x1) (
   some ((.c (.v (.bool (x0.2.2 == x2)))), [])) (
   some ((.c (.v (.bool false))), [])) := by kernel_rfl
theorem keyF.run_eq  (m : Nat) (x0 : (El TTimer)) (x1 : Int) (x2 : Int) : run (keyF.cfg ) Try.f37.ntmps Try.f37.results.toList m [.code (bodyOf Try.f37)] (enter (ivA keyF.ps (x0, x1, x2, ()))) = keyF.go  m x0 x1 x2 := by kernel_rfl
theorem keyF.ret  (hs : SpecsOK Try.prog (keyF.specs ))  (x0 : (El TTimer)) (x1 : Int) (x2 : Int) {m : Nat} {r : IV} (h : keyF.go  m x0 x1 x2 = some (r, [])) : VE.Returns Try.prog 37 (ivA keyF.ps (x0, x1, x2, ())) r :=
  returns_of_run (cfg := keyF.cfg ) (cfgOK_of mixed tab_ok hs .nil) rfl Try.func37 (body_some (by kernel_rfl)) (Nat.le_of_ble_eq_true (by kernel_rfl)) ((keyF.run_eq  m x0 x1 x2).trans h)
abbrev keyF.Law : Prop := ∀ (x0 : (El TTimer)) (x1 : Int) (x2 : Int), keyF.pre (x0, x1, x2, ()) = true → VE.Returns Try.prog 37 (ivA keyF.ps (x0, x1, x2, ())) (keyF.res (x0, x1, x2, ()))
theorem keyF.mkR (H : ∀ (x0 : (El TTimer)) (x1 : Int) (x2 : Int), keyF.pre (x0, x1, x2, ()) = true → VE.Returns Try.prog 37 (ivA keyF.ps (x0, x1, x2, ())) (keyF.res (x0, x1, x2, ()))) : SpecOK Try.prog 37 keyF.sp :=
  specOf_ret Try.func37 (by kernel_rfl) (by kernel_rfl) fun (x : (El TTimer) × Int × Int × Unit) hx => H (x.1) (x.2.1) (x.2.2.1) hx
theorem keyF.mk  (hs : SpecsOK Try.prog (keyF.specs ))  (H : ∀ (x0 : (El TTimer)) (x1 : Int) (x2 : Int), keyF.pre (x0, x1, x2, ()) = true → ∃ m, keyF.go  m x0 x1 x2 = some (keyF.res (x0, x1, x2, ()), [])) : SpecOK Try.prog 37 keyF.sp :=
  keyF.mkR fun x0 x1 x2 hx => (H x0 x1 x2 hx).elim fun _ hm => keyF.ret  hs  x0 x1 x2 hm

/-! ### slices.IndexFunc(()triage/api.Timer,triage/api.Timer) -/
abbrev ixK.ps : List AK := [.d false (.sl TTimer), .f 37 [(true, (.int .i64)), (true, (.int .i64))]]
def ixK.pre : ElA ixK.ps → Bool := fun (x : (List (El TTimer)) × (Int × (Int × Unit)) × Unit) => fits (.sl TTimer) (x.1) && (fits (.int .i64) (x.2.1.1) && (fits (.int .i64) (x.2.1.2.1) && (true)))
def ixK.res : ElA ixK.ps → IV := fun (x : (List (El TTimer)) × (Int × (Int × Unit)) × Unit) => (fun l x => vi .i64 (ixOf (keyK x.1 x.2.1) l)) x.1 x.2.1
def ixK.sp : ISpec := spOf ixK.ps ixK.pre ixK.res
abbrev ixK.OK : Prop := SpecOK Try.prog 36 ixK.sp
noncomputable def ixK.body : Code := bodyOf Try.f36
noncomputable def ixK.rs : List ResultVar := Try.f36.results.toList
def ixK.live : List (Nat × Live) := [(2, ⟨[(0, .sl TTimer), (1, .plain), (7, .plain), (8, .plain)], []⟩)]
noncomputable def ixK.specs  : List (Nat × (List Bool × ISpec)) := [(37, ([], keyF.sp))]
noncomputable def ixK.ospecs  : List (Nat × OS) := []
noncomputable def ixK.cfg  : Cfg := ⟨lkp tab, lkp (ixK.specs ), lkp ixK.live, ⟨lkp (ixK.ospecs ), [], none, false, []⟩⟩
noncomputable def ixK.l1  (m : Nat) (x0 : List (El TTimer)) (x1 : Int) (x2 : Int) (x3 : Int) (x4 : Int) : R := run (ixK.cfg ) 19 ixK.rs m ((todoR 2 ixK.body []).getD []) ⟨ofList (.c .junk) [(0, (.c (.sl TTimer x0))), (1, (.c (.fn 37 [(.snap [(.v (.int .i64 x1))] 0), (.snap [(.v (.int .i64 x2))] 0)]))), (7, (.c (.v (.int .i64 x3)))), (8, (.c (.v (.int .i64 x4))))], ofList none [], ofList false []⟩
noncomputable def ixK.go  (m : Nat) (x0 : (List (El TTimer))) (x1 : (Int × (Int × Unit))) : R := run (ixK.cfg ) 19 ixK.rs m [.code ixK.body] (enter (ivA ixK.ps (x0, x1, ())))
theorem ixK.start  (m : Nat) (x0 : (List (El TTimer))) (x1 : (Int × (Int × Unit))) : ixK.go  (m + 1) x0 x1 =
  ixK.l1  m x0 x1.1 x1.2.1 ((List.length x0) : Int) (0 : Int) := by kernel_rfl
theorem ixK.s1  (m : Nat) (x0 : List (El TTimer)) (x1 : Int) (x2 : Int) (x3 : Int) (x4 : Int) : ixK.l1  (m + 1) x0 x1 x2 x3 x4 =
  cond (decide (x4 < x3)) (
   test (decide ((0 : Int) ≤ x4)) (
    test (decide (x4 < ((List.length x0) : Int))) (
     cond (keyK x1 x2 ((rdEl TTimer x0 (Int.toNat x4)))) (
      some ((.c (.v (.int .i64 x4))), [])) (
      ixK.l1  m x0 x1 x2 x3 (IntKind.i64.wrap (x4 + (1 : Int))))))) (
   some ((.c (.v (.int .i64 (-(1 : Int))))), [])) := by kernel_rfl
theorem ixK.run_eq  (m : Nat) (x0 : (List (El TTimer))) (x1 : (Int × (Int × Unit))) : run (ixK.cfg ) Try.f36.ntmps Try.f36.results.toList m [.code (bodyOf Try.f36)] (enter (ivA ixK.ps (x0, x1, ()))) = ixK.go  m x0 x1 := by kernel_rfl
theorem ixK.ret  (hs : SpecsOK Try.prog (ixK.specs ))  (x0 : (List (El TTimer))) (x1 : (Int × (Int × Unit))) {m : Nat} {r : IV} (h : ixK.go  m x0 x1 = some (r, [])) : VE.Returns Try.prog 36 (ivA ixK.ps (x0, x1, ())) r :=
  returns_of_run (cfg := ixK.cfg ) (cfgOK_of mixed tab_ok hs .nil) rfl Try.func36 (body_some (by kernel_rfl)) (Nat.le_of_ble_eq_true (by kernel_rfl)) ((ixK.run_eq  m x0 x1).trans h)
abbrev ixK.Law : Prop := ∀ (x0 : (List (El TTimer))) (x1 : (Int × (Int × Unit))), ixK.pre (x0, x1, ()) = true → VE.Returns Try.prog 36 (ivA ixK.ps (x0, x1, ())) (ixK.res (x0, x1, ()))
theorem ixK.mkR (H : ∀ (x0 : (List (El TTimer))) (x1 : (Int × (Int × Unit))), ixK.pre (x0, x1, ()) = true → VE.Returns Try.prog 36 (ivA ixK.ps (x0, x1, ())) (ixK.res (x0, x1, ()))) : SpecOK Try.prog 36 ixK.sp :=
  specOf_ret Try.func36 (by kernel_rfl) (by kernel_rfl) fun (x : (List (El TTimer)) × (Int × (Int × Unit)) × Unit) hx => H (x.1) (x.2.1) hx
theorem ixK.mk  (hs : SpecsOK Try.prog (ixK.specs ))  (H : ∀ (x0 : (List (El TTimer))) (x1 : (Int × (Int × Unit))), ixK.pre (x0, x1, ()) = true → ∃ m, ixK.go  m x0 x1 = some (ixK.res (x0, x1, ()), [])) : SpecOK Try.prog 36 ixK.sp :=
  ixK.mkR fun x0 x1 hx => (H x0 x1 hx).elim fun _ hm => ixK.ret  hs  x0 x1 hm

/-! ### (*triage/clock.Clock).find -/
abbrev find.ps : List AK := [.p TClock, .d false (.int .i64), .d false (.int .i64)]
def find.pre : ElA find.ps → Bool := fun (x : (El TClock) × Int × Int × Unit) => fits TClock (x.1) && (fits (.int .i64) (x.2.1) && (fits (.int .i64) (x.2.2.1) && (true)))
def find.res : ElA find.ps → IV := fun (x : (El TClock) × Int × Int × Unit) => (fun c k i => vi .i64 (ixOf (keyK k i) c.2)) x.1 x.2.1 x.2.2.1
def find.sp : ISpec := spOf find.ps find.pre find.res
abbrev find.OK : Prop := SpecOK Try.prog 31 find.sp
noncomputable def find.body : Code := bodyOf Try.f31
noncomputable def find.rs : List ResultVar := Try.f31.results.toList
def find.live : List (Nat × Live) := []
noncomputable def find.specs  : List (Nat × (List Bool × ISpec)) := [(36, ([], ixK.sp))]
noncomputable def find.ospecs  : List (Nat × OS) := []
noncomputable def find.cfg  : Cfg := ⟨lkp tab, lkp (find.specs ), lkp find.live, ⟨lkp (find.ospecs ), [], none, false, []⟩⟩
noncomputable def find.go  (m : Nat) (x0 : (El TClock)) (x1 : Int) (x2 : Int) : R := run (find.cfg ) 15 find.rs m [.code find.body] (enter (ivA find.ps (x0, x1, x2, ())))
theorem find.start  (m : Nat) (x0 : (El TClock)) (x1 : Int) (x2 : Int) : find.go  (m + 1) x0 x1 x2 =
  test (ixK.pre (x0.2, ((x1, (x2, Unit.unit)), Unit.unit))) (
   some ((.c (.v (.int .i64 (ixOf (keyK x1 x2) x0.2)))), [])) := by kernel_rfl
theorem find.run_eq  (m : Nat) (x0 : (El TClock)) (x1 : Int) (x2 : Int) : run (find.cfg ) Try.f31.ntmps Try.f31.results.toList m [.code (bodyOf Try.f31)] (enter (ivA find.ps (x0, x1, x2, ()))) = find.go  m x0 x1 x2 := by kernel_rfl
theorem find.ret  (hs : SpecsOK Try.prog (find.specs ))  (x0 : (El TClock)) (x1 : Int) (x2 : Int) {m : Nat} {r : IV} (h : find.go  m x0 x1 x2 = some (r, [])) : VE.Returns Try.prog 31 (ivA find.ps (x0, x1, x2, ())) r :=
  returns_of_run (cfg := find.cfg ) (cfgOK_of mixed tab_ok hs .nil) rfl Try.func31 (body_some (by kernel_rfl)) (Nat.le_of_ble_eq_true (by kernel_rfl)) ((find.run_eq  m x0 x1 x2).trans h)
abbrev find.Law : Prop := ∀ (x0 : (El TClock)) (x1 : Int) (x2 : Int), find.pre (x0, x1, x2, ()) = true → VE.Returns Try.prog 31 (ivA find.ps (x0, x1, x2, ())) (find.res (x0, x1, x2, ()))
theorem find.mkR (H : ∀ (x0 : (El TClock)) (x1 : Int) (x2 : Int), find.pre (x0, x1, x2, ()) = true → VE.Returns Try.prog 31 (ivA find.ps (x0, x1, x2, ())) (find.res (x0, x1, x2, ()))) : SpecOK Try.prog 31 find.sp :=
  specOf_ret Try.func31 (by kernel_rfl) (by kernel_rfl) fun (x : (El TClock) × Int × Int × Unit) hx => H (x.1) (x.2.1) (x.2.2.1) hx
theorem find.mk  (hs : SpecsOK Try.prog (find.specs ))  (H : ∀ (x0 : (El TClock)) (x1 : Int) (x2 : Int), find.pre (x0, x1, x2, ()) = true → ∃ m, find.go  m x0 x1 x2 = some (find.res (x0, x1, x2, ()), [])) : SpecOK Try.prog 31 find.sp :=
  find.mkR fun x0 x1 x2 hx => (H x0 x1 x2 hx).elim fun _ hm => find.ret  hs  x0 x1 x2 hm

/-! ### (*triage/clock.Clock).find -/
abbrev findZ.ps : List AK := [.z, .d false (.int .i64), .d false (.int .i64)]
def findZ.pre : ElA findZ.ps → Bool := fun (x : Int × Int × Unit) => fits (.int .i64) (x.1) && (fits (.int .i64) (x.2.1) && (true))
def findZ.res : ElA findZ.ps → IV := fun (x : Int × Int × Unit) => (fun _ _ => vi .i64 (-1)) x.1 x.2.1
def findZ.sp : ISpec := spOf findZ.ps findZ.pre findZ.res
abbrev findZ.OK : Prop := SpecOK Try.prog 31 findZ.sp
noncomputable def findZ.body : Code := bodyOf Try.f31
noncomputable def findZ.rs : List ResultVar := Try.f31.results.toList
def findZ.live : List (Nat × Live) := []
noncomputable def findZ.specs  : List (Nat × (List Bool × ISpec)) := []
noncomputable def findZ.ospecs  : List (Nat × OS) := []
noncomputable def findZ.cfg  : Cfg := ⟨lkp tab, lkp (findZ.specs ), lkp findZ.live, ⟨lkp (findZ.ospecs ), [], none, false, []⟩⟩
noncomputable def findZ.go  (m : Nat) (x0 : Int) (x1 : Int) : R := run (findZ.cfg ) 15 findZ.rs m [.code findZ.body] (enter (ivA findZ.ps (x0, x1, ())))
theorem findZ.start  (m : Nat) (x0 : Int) (x1 : Int) : findZ.go  (m + 1) x0 x1 =
  some ((.c (.v (.int .i64 (-(1 : Int))))), []) := by kernel_rfl
theorem findZ.run_eq  (m : Nat) (x0 : Int) (x1 : Int) : run (findZ.cfg ) Try.f31.ntmps Try.f31.results.toList m [.code (bodyOf Try.f31)] (enter (ivA findZ.ps (x0, x1, ()))) = findZ.go  m x0 x1 := by kernel_rfl
theorem findZ.ret  (hs : SpecsOK Try.prog (findZ.specs ))  (x0 : Int) (x1 : Int) {m : Nat} {r : IV} (h : findZ.go  m x0 x1 = some (r, [])) : VE.Returns Try.prog 31 (ivA findZ.ps (x0, x1, ())) r :=
  returns_of_run (cfg := findZ.cfg ) (cfgOK_of mixed tab_ok hs .nil) rfl Try.func31 (body_some (by kernel_rfl)) (Nat.le_of_ble_eq_true (by kernel_rfl)) ((findZ.run_eq  m x0 x1).trans h)
abbrev findZ.Law : Prop := ∀ (x0 : Int) (x1 : Int), findZ.pre (x0, x1, ()) = true → VE.Returns Try.prog 31 (ivA findZ.ps (x0, x1, ())) (findZ.res (x0, x1, ()))
theorem findZ.mkR (H : ∀ (x0 : Int) (x1 : Int), findZ.pre (x0, x1, ()) = true → VE.Returns Try.prog 31 (ivA findZ.ps (x0, x1, ())) (findZ.res (x0, x1, ()))) : SpecOK Try.prog 31 findZ.sp :=
  specOf_ret Try.func31 (by kernel_rfl) (by kernel_rfl) fun (x : Int × Int × Unit) hx => H (x.1) (x.2.1) hx
theorem findZ.mk  (hs : SpecsOK Try.prog (findZ.specs ))  (H : ∀ (x0 : Int) (x1 : Int), findZ.pre (x0, x1, ()) = true → ∃ m, findZ.go  m x0 x1 = some (findZ.res (x0, x1, ()), [])) : SpecOK Try.prog 31 findZ.sp :=
  findZ.mkR fun x0 x1 hx => (H x0 x1 hx).elim fun _ hm => findZ.ret  hs  x0 x1 hm

/-! ### slices.Delete(()triage/api.Timer,triage/api.Timer) -/
abbrev del.ps : List AK := [.m 27 TTimer, .d false (.int .i64), .d false (.int .i64)]
def del.pre : ElA del.ps → Bool := fun (x : (List (El TTimer)) × Int × Int × Unit) => fits (.sl TTimer) (x.1) && (fits (.int .i64) (x.2.1) && (fits (.int .i64) (x.2.2.1) && ((fun l i j => decide (0 ≤ i ∧ i ≤ j ∧ j ≤ (List.length l : Int))) x.1 x.2.1 x.2.2.1 && (true))))
def del.rv : ElA del.ps → List RV := fun (x : (List (El TTimer)) × Int × Int × Unit) => [.m 27 TTimer ((fun l i j => cutOut l i.toNat j.toNat) x.1 x.2.1 x.2.2.1)]
def del.res : ElA del.ps → IV := fun x => oneOrTup (rvIVs 0 (del.rv x))
def del.back : ElA del.ps → List (Nat × Box) := fun (x : (List (El TTimer)) × Int × Int × Unit) => rvBxs 0 (del.rv x)
def del.sp : OSpec := spO del.ps del.pre del.res del.back
abbrev del.OK : Prop := SpecOKO Try.prog 28 del.sp
noncomputable def del.body : Code := bodyOf Try.f28
noncomputable def del.rs : List ResultVar := Try.f28.results.toList
def del.live : List (Nat × Live) := []
noncomputable def del.specs  : List (Nat × (List Bool × ISpec)) := []
noncomputable def del.ospecs  : List (Nat × OS) := []
noncomputable def del.cfg  : Cfg := ⟨lkp tab, lkp (del.specs ), lkp del.live, ⟨lkp (del.ospecs ), oids 0 del.ps, some ([.arr 27 TTimer], []), true, []⟩⟩
noncomputable def del.go  (m : Nat) (x0 : (List (El TTimer))) (x1 : Int) (x2 : Int) : R := run (del.cfg ) 33 del.rs m [.code del.body] (enterO (ivAO 0 del.ps (x0, x1, x2, ())) (bxAO 0 del.ps (x0, x1, x2, ())))
theorem del.start  (m : Nat) (x0 : (List (El TTimer))) (x1 : Int) (x2 : Int) : del.go  (m + 1) x0 x1 x2 =
  test (decide (((List.length x0) : Int) ≤ ((List.length x0) : Int))) (
   test (decide ((0 : Int) ≤ x2)) (
    test (decide (x2 ≤ ((List.length x0) : Int))) (
     test (decide ((0 : Int) ≤ x1)) (
      test (decide (x1 ≤ x2)) (
       cond (x1 == x2) (
        some ((.c (.sref 115326)), [(115326, (.arr 27 TTimer x0 false))])) (
        test (decide ((0 : Int) ≤ x1)) (
         test (decide (x1 ≤ ((List.length x0) : Int))) (
          test (decide ((0 : Int) ≤ x2)) (
           test (decide (x2 ≤ ((List.length x0) : Int))) (
            test (decide (((0 + (Int.toNat x2)) + ((List.length x0) - (Int.toNat x2))) ≤ (List.length x0))) (
             test (decide ((((0 + 0) + ((Int.toNat x1) - 0)) + (List.length (List.take ((List.length x0) - (Int.toNat x2)) (List.drop (0 + (Int.toNat x2)) x0)))) ≤ (List.length x0))) (
              test (decide ((((0 + 0) + ((Int.toNat x1) - 0)) + (List.length (List.take ((List.length x0) - (Int.toNat x2)) (List.drop (0 + (Int.toNat x2)) x0)))) ≤ (List.length x0))) (
               test (decide (((List.length x0) : Int) ≤ (((List.length (over x0 ((0 + 0) + ((Int.toNat x1) - 0)) (List.take ((List.length x0) - (Int.toNat x2)) (List.drop (0 + (Int.toNat x2)) x0)))) - (0 + 0)) : Int))) (
                test (decide (((((Int.toNat x1) - 0) + (List.length (List.take ((List.length x0) - (Int.toNat x2)) (List.drop (0 + (Int.toNat x2)) x0)))) : Int) ≤ ((Int.toNat ((List.length x0) : Int)) : Int))) (
                 test (decide ((((0 + 0) + (Int.toNat ((((Int.toNat x1) - 0) + (List.length (List.take ((List.length x0) - (Int.toNat x2)) (List.drop (0 + (Int.toNat x2)) x0)))) : Int))) + (List.length (List.replicate ((Int.toNat ((List.length x0) : Int)) - (Int.toNat ((((Int.toNat x1) - 0) + (List.length (List.take ((List.length x0) - (Int.toNat x2)) (List.drop (0 + (Int.toNat x2)) x0)))) : Int))) ((0 : Int), ((0 : Int), (0 : Int)))))) ≤ (List.length (over x0 ((0 + 0) + ((Int.toNat x1) - 0)) (List.take ((List.length x0) - (Int.toNat x2)) (List.drop (0 + (Int.toNat x2)) x0)))))) (
                  test (decide ((((Int.toNat x1) - 0) + (List.length (List.take ((List.length x0) - (Int.toNat x2)) (List.drop (0 + (Int.toNat x2)) x0)))) ≤ (List.length (over (over x0 ((0 + 0) + ((Int.toNat x1) - 0)) (List.take ((List.length x0) - (Int.toNat x2)) (List.drop (0 + (Int.toNat x2)) x0))) ((0 + 0) + (Int.toNat ((((Int.toNat x1) - 0) + (List.length (List.take ((List.length x0) - (Int.toNat x2)) (List.drop (0 + (Int.toNat x2)) x0)))) : Int))) (List.replicate ((Int.toNat ((List.length x0) : Int)) - (Int.toNat ((((Int.toNat x1) - 0) + (List.length (List.take ((List.length x0) - (Int.toNat x2)) (List.drop (0 + (Int.toNat x2)) x0)))) : Int))) ((0 : Int), ((0 : Int), (0 : Int)))))))) (
                   some ((.c (.sref 115326)), [(115326, (.arr 27 TTimer (List.take (((Int.toNat x1) - 0) + (List.length (List.take ((List.length x0) - (Int.toNat x2)) (List.drop (0 + (Int.toNat x2)) x0)))) (over (over x0 ((0 + 0) + ((Int.toNat x1) - 0)) (List.take ((List.length x0) - (Int.toNat x2)) (List.drop (0 + (Int.toNat x2)) x0))) ((0 + 0) + (Int.toNat ((((Int.toNat x1) - 0) + (List.length (List.take ((List.length x0) - (Int.toNat x2)) (List.drop (0 + (Int.toNat x2)) x0)))) : Int))) (List.replicate ((Int.toNat ((List.length x0) : Int)) - (Int.toNat ((((Int.toNat x1) - 0) + (List.length (List.take ((List.length x0) - (Int.toNat x2)) (List.drop (0 + (Int.toNat x2)) x0)))) : Int))) ((0 : Int), ((0 : Int), (0 : Int)))))) false))])))))))))))))))))) := by kernel_rfl
theorem del.run_eq  (m : Nat) (x0 : (List (El TTimer))) (x1 : Int) (x2 : Int) : run (del.cfg ) Try.f28.ntmps Try.f28.results.toList m [.code (bodyOf Try.f28)] (enterO (ivAO 0 del.ps (x0, x1, x2, ())) (bxAO 0 del.ps (x0, x1, x2, ()))) = del.go  m x0 x1 x2 := by kernel_rfl
theorem del.ret  (hs : SpecsOK Try.prog (del.specs ))  (x0 : (List (El TTimer))) (x1 : Int) (x2 : Int) {m : Nat} {r : IV} {b : List (Nat × Box)} (h : del.go  m x0 x1 x2 = some (r, b)) : VE.ReturnsO Try.prog 28 (ivAO 0 del.ps (x0, x1, x2, ())) (bxAO 0 del.ps (x0, x1, x2, ())) r b :=
  returnsO_of_run (cfg := del.cfg ) (cfgOK_of mixed tab_ok hs .nil) rfl Try.func28 (body_some (by kernel_rfl)) (Nat.le_of_ble_eq_true (by kernel_rfl)) (fun _ _ _ h => oids_mem h) ((del.run_eq  m x0 x1 x2).trans h)
abbrev del.Law : Prop := ∀ (x0 : (List (El TTimer))) (x1 : Int) (x2 : Int), del.pre (x0, x1, x2, ()) = true → VE.ReturnsO Try.prog 28 (ivAO 0 del.ps (x0, x1, x2, ())) (bxAO 0 del.ps (x0, x1, x2, ())) (del.res (x0, x1, x2, ())) (del.back (x0, x1, x2, ()))
theorem del.mkR (H : ∀ (x0 : (List (El TTimer))) (x1 : Int) (x2 : Int), del.pre (x0, x1, x2, ()) = true → VE.ReturnsO Try.prog 28 (ivAO 0 del.ps (x0, x1, x2, ())) (bxAO 0 del.ps (x0, x1, x2, ())) (del.res (x0, x1, x2, ())) (del.back (x0, x1, x2, ()))) : SpecOKO Try.prog 28 del.sp :=
  specO_ret Try.func28 (by kernel_rfl) (by kernel_rfl) fun (x : (List (El TTimer)) × Int × Int × Unit) hx => H (x.1) (x.2.1) (x.2.2.1) hx
theorem del.mk  (hs : SpecsOK Try.prog (del.specs ))  (H : ∀ (x0 : (List (El TTimer))) (x1 : Int) (x2 : Int), del.pre (x0, x1, x2, ()) = true → ∃ m, del.go  m x0 x1 x2 = some (del.res (x0, x1, x2, ()), del.back (x0, x1, x2, ()))) : SpecOKO Try.prog 28 del.sp :=
  del.mkR fun x0 x1 x2 hx => (H x0 x1 x2 hx).elim fun _ hm => del.ret  hs  x0 x1 x2 hm

/-! ### slices.Clone(()triage/api.Timer,triage/api.Timer) -/
abbrev cloneO.ps : List AK := [.d false (.sl TTimer)]
def cloneO.pre : ElA cloneO.ps → Bool := fun (x : (List (El TTimer)) × Unit) => fits (.sl TTimer) (x.1) && (true)
def cloneO.rv : ElA cloneO.ps → List RV := fun (x : (List (El TTimer)) × Unit) => [.m 27 TTimer ((fun l => l) x.1)]
def cloneO.res : ElA cloneO.ps → IV := fun x => oneOrTup (rvIVs 0 (cloneO.rv x))
def cloneO.back : ElA cloneO.ps → List (Nat × Box) := fun (x : (List (El TTimer)) × Unit) => rvBxs 0 (cloneO.rv x)
def cloneO.sp : OSpec := spO cloneO.ps cloneO.pre cloneO.res cloneO.back
abbrev cloneO.OK : Prop := SpecOKO Try.prog 29 cloneO.sp
theorem cloneO.mkR (H : ∀ (x0 : (List (El TTimer))), cloneO.pre (x0, ()) = true → VE.ReturnsO Try.prog 29 (ivAO 0 cloneO.ps (x0, ())) (bxAO 0 cloneO.ps (x0, ())) (cloneO.res (x0, ())) (cloneO.back (x0, ()))) : SpecOKO Try.prog 29 cloneO.sp :=
  specO_ret Try.func29 (by kernel_rfl) (by kernel_rfl) fun (x : (List (El TTimer)) × Unit) hx => H (x.1) hx

/-! ### slices.Clone(()triage/api.Timer,triage/api.Timer) -/
noncomputable def cloneON.body : Code := bodyOf Try.f29
noncomputable def cloneON.rs : List ResultVar := Try.f29.results.toList
def cloneON.live : List (Nat × Live) := []
noncomputable def cloneON.specs  : List (Nat × (List Bool × ISpec)) := []
noncomputable def cloneON.ospecs  : List (Nat × OS) := []
noncomputable def cloneON.cfg  : Cfg := ⟨lkp tab, lkp (cloneON.specs ), lkp cloneON.live, ⟨lkp (cloneON.ospecs ), [], some ([.arr 27 TTimer], []), false, []⟩⟩
noncomputable def cloneON.go  (m : Nat)  : R := run (cloneON.cfg ) 8 cloneON.rs m [.code cloneON.body] (enterO [.c (.v (.slice none 0 0))] [])
theorem cloneON.start  (m : Nat)  : cloneON.go  (m + 1)  =
  some ((.c (.sref 115326)), [(115326, (.arr 27 TTimer ([] : List (El TTimer)) false))]) := by kernel_rfl
theorem cloneON.run_eq  (m : Nat)  : run (cloneON.cfg ) Try.f29.ntmps Try.f29.results.toList m [.code (bodyOf Try.f29)] (enterO [.c (.v (.slice none 0 0))] []) = cloneON.go  m  := by kernel_rfl
theorem cloneON.ret  (hs : SpecsOK Try.prog (cloneON.specs ))   {m : Nat} {r : IV} {b : List (Nat × Box)} (h : cloneON.go  m  = some (r, b)) : VE.ReturnsO Try.prog 29 [.c (.v (.slice none 0 0))] [] r b :=
  returnsO_of_run (cfg := cloneON.cfg ) (cfgOK_of mixed tab_ok hs .nil) rfl Try.func29 (body_some (by kernel_rfl)) (Nat.le_of_ble_eq_true (by kernel_rfl)) (fun _ _ _ h => by cases h) ((cloneON.run_eq  m ).trans h)

/-! ### slices.Clone(()triage/api.Timer,triage/api.Timer) -/
noncomputable def cloneOE.body : Code := bodyOf Try.f29
noncomputable def cloneOE.rs : List ResultVar := Try.f29.results.toList
def cloneOE.live : List (Nat × Live) := []
noncomputable def cloneOE.specs  : List (Nat × (List Bool × ISpec)) := []
noncomputable def cloneOE.ospecs  : List (Nat × OS) := []
noncomputable def cloneOE.cfg  : Cfg := ⟨lkp tab, lkp (cloneOE.specs ), lkp cloneOE.live, ⟨lkp (cloneOE.ospecs ), [], some ([.arr 27 TTimer], []), false, []⟩⟩
noncomputable def cloneOE.go  (m : Nat)  : R := run (cloneOE.cfg ) 8 cloneOE.rs m [.code cloneOE.body] (enterO [.c .emp] [])
theorem cloneOE.start  (m : Nat)  : cloneOE.go  (m + 1)  =
  some ((.c (.sref 115326)), [(115326, (.arr 27 TTimer (([] : List (El TTimer)) ++ ([] : List (El TTimer))) false))]) := by kernel_rfl
theorem cloneOE.run_eq  (m : Nat)  : run (cloneOE.cfg ) Try.f29.ntmps Try.f29.results.toList m [.code (bodyOf Try.f29)] (enterO [.c .emp] []) = cloneOE.go  m  := by kernel_rfl
theorem cloneOE.ret  (hs : SpecsOK Try.prog (cloneOE.specs ))   {m : Nat} {r : IV} {b : List (Nat × Box)} (h : cloneOE.go  m  = some (r, b)) : VE.ReturnsO Try.prog 29 [.c .emp] [] r b :=
  returnsO_of_run (cfg := cloneOE.cfg ) (cfgOK_of mixed tab_ok hs .nil) rfl Try.func29 (body_some (by kernel_rfl)) (Nat.le_of_ble_eq_true (by kernel_rfl)) (fun _ _ _ h => by cases h) ((cloneOE.run_eq  m ).trans h)

/-! ### slices.Clone(()triage/api.Timer,triage/api.Timer) -/
noncomputable def cloneOC.body : Code := bodyOf Try.f29
noncomputable def cloneOC.rs : List ResultVar := Try.f29.results.toList
def cloneOC.live : List (Nat × Live) := []
noncomputable def cloneOC.specs  : List (Nat × (List Bool × ISpec)) := []
noncomputable def cloneOC.ospecs  : List (Nat × OS) := []
noncomputable def cloneOC.cfg  : Cfg := ⟨lkp tab, lkp (cloneOC.specs ), lkp cloneOC.live, ⟨lkp (cloneOC.ospecs ), [], some ([.arr 27 TTimer], []), false, []⟩⟩
noncomputable def cloneOC.go  (m : Nat) (x0 : (El TTimer)) (x1 : (List (El TTimer))) : R := run (cloneOC.cfg ) 8 cloneOC.rs m [.code cloneOC.body] (enterO [.c (.sl TTimer (x0 :: x1))] [])
theorem cloneOC.start  (m : Nat) (x0 : (El TTimer)) (x1 : (List (El TTimer))) : cloneOC.go  (m + 1) x0 x1 =
  test (decide (((List.length ([] : List (El TTimer))) + (List.length (x0 :: x1))) ≤ (lim 24))) (
   some ((.c (.sref 115326)), [(115326, (.arr 27 TTimer (([] : List (El TTimer)) ++ (x0 :: x1)) false))])) := by kernel_rfl
theorem cloneOC.run_eq  (m : Nat) (x0 : (El TTimer)) (x1 : (List (El TTimer))) : run (cloneOC.cfg ) Try.f29.ntmps Try.f29.results.toList m [.code (bodyOf Try.f29)] (enterO [.c (.sl TTimer (x0 :: x1))] []) = cloneOC.go  m x0 x1 := by kernel_rfl
theorem cloneOC.ret  (hs : SpecsOK Try.prog (cloneOC.specs ))  (x0 : (El TTimer)) (x1 : (List (El TTimer))) {m : Nat} {r : IV} {b : List (Nat × Box)} (h : cloneOC.go  m x0 x1 = some (r, b)) : VE.ReturnsO Try.prog 29 [.c (.sl TTimer (x0 :: x1))] [] r b :=
  returnsO_of_run (cfg := cloneOC.cfg ) (cfgOK_of mixed tab_ok hs .nil) rfl Try.func29 (body_some (by kernel_rfl)) (Nat.le_of_ble_eq_true (by kernel_rfl)) (fun _ _ _ h => by cases h) ((cloneOC.run_eq  m x0 x1).trans h)

/-! ### triage/clock.New -/
abbrev new.ps : List AK := [.d false (.int .i64)]
def new.pre : ElA new.ps → Bool := fun (x : Int × Unit) => fits (.int .i64) (x.1) && (true)
def new.rv : ElA new.ps → List RV := fun (x : Int × Unit) => [.o 55 TClock [none, some 27] ((fun n => (timeC n, [])) x.1)]
def new.res : ElA new.ps → IV := fun x => oneOrTup (rvIVs 0 (new.rv x))
def new.back : ElA new.ps → List (Nat × Box) := fun (x : Int × Unit) => rvBxs 0 (new.rv x)
def new.sp : OSpec := spO new.ps new.pre new.res new.back
abbrev new.OK : Prop := SpecOKO Try.prog 10 new.sp
noncomputable def new.body : Code := bodyOf Try.f10
noncomputable def new.rs : List ResultVar := Try.f10.results.toList
def new.live : List (Nat × Live) := []
noncomputable def new.specs  : List (Nat × (List Bool × ISpec)) := []
noncomputable def new.ospecs  : List (Nat × OS) := []
noncomputable def new.cfg  : Cfg := ⟨lkp tab, lkp (new.specs ), lkp new.live, ⟨lkp (new.ospecs ), oids 0 new.ps, some ([.obj [.plain, .arr 27 TTimer]], []), false, []⟩⟩
noncomputable def new.go  (m : Nat) (x0 : Int) : R := run (new.cfg ) 8 new.rs m [.code new.body] (enterO (ivAO 0 new.ps (x0, ())) (bxAO 0 new.ps (x0, ())))
theorem new.start  (m : Nat) (x0 : Int) : new.go  (m + 1) x0 =
  some ((.c (.ref 115326 0)), [(115326, (.cells 55 [(.v (.int .i64 (ite ((4611686018427387904 : Int) < (ite ((0 : Int) > x0) (0 : Int) x0)) (4611686018427387904 : Int) (ite ((0 : Int) > x0) (0 : Int) x0)))), (.sref 14889730)])), (14889730, (.arr 27 TTimer ([] : List (El TTimer)) false))]) := by kernel_rfl
theorem new.run_eq  (m : Nat) (x0 : Int) : run (new.cfg ) Try.f10.ntmps Try.f10.results.toList m [.code (bodyOf Try.f10)] (enterO (ivAO 0 new.ps (x0, ())) (bxAO 0 new.ps (x0, ()))) = new.go  m x0 := by kernel_rfl
theorem new.ret  (hs : SpecsOK Try.prog (new.specs ))  (x0 : Int) {m : Nat} {r : IV} {b : List (Nat × Box)} (h : new.go  m x0 = some (r, b)) : VE.ReturnsO Try.prog 10 (ivAO 0 new.ps (x0, ())) (bxAO 0 new.ps (x0, ())) r b :=
  returnsO_of_run (cfg := new.cfg ) (cfgOK_of mixed tab_ok hs .nil) rfl Try.func10 (body_some (by kernel_rfl)) (Nat.le_of_ble_eq_true (by kernel_rfl)) (fun _ _ _ h => oids_mem h) ((new.run_eq  m x0).trans h)
abbrev new.Law : Prop := ∀ (x0 : Int), new.pre (x0, ()) = true → VE.ReturnsO Try.prog 10 (ivAO 0 new.ps (x0, ())) (bxAO 0 new.ps (x0, ())) (new.res (x0, ())) (new.back (x0, ()))
theorem new.mkR (H : ∀ (x0 : Int), new.pre (x0, ()) = true → VE.ReturnsO Try.prog 10 (ivAO 0 new.ps (x0, ())) (bxAO 0 new.ps (x0, ())) (new.res (x0, ())) (new.back (x0, ()))) : SpecOKO Try.prog 10 new.sp :=
  specO_ret Try.func10 (by kernel_rfl) (by kernel_rfl) fun (x : Int × Unit) hx => H (x.1) hx
theorem new.mk  (hs : SpecsOK Try.prog (new.specs ))  (H : ∀ (x0 : Int), new.pre (x0, ()) = true → ∃ m, new.go  m x0 = some (new.res (x0, ()), new.back (x0, ()))) : SpecOKO Try.prog 10 new.sp :=
  new.mkR fun x0 hx => (H x0 hx).elim fun _ hm => new.ret  hs  x0 hm

/-! ### (*triage/clock.Clock).Now -/
abbrev now.ps : List AK := [.p TClock]
def now.pre : ElA now.ps → Bool := fun (x : (El TClock) × Unit) => fits TClock (x.1) && (true)
def now.res : ElA now.ps → IV := fun (x : (El TClock) × Unit) => (fun c => vi .i64 c.1) x.1
def now.sp : ISpec := spOf now.ps now.pre now.res
abbrev now.OK : Prop := SpecOK Try.prog 11 now.sp
noncomputable def now.body : Code := bodyOf Try.f11
noncomputable def now.rs : List ResultVar := Try.f11.results.toList
def now.live : List (Nat × Live) := []
noncomputable def now.specs  : List (Nat × (List Bool × ISpec)) := []
noncomputable def now.ospecs  : List (Nat × OS) := []
noncomputable def now.cfg  : Cfg := ⟨lkp tab, lkp (now.specs ), lkp now.live, ⟨lkp (now.ospecs ), [], none, false, []⟩⟩
noncomputable def now.go  (m : Nat) (x0 : (El TClock)) : R := run (now.cfg ) 9 now.rs m [.code now.body] (enter (ivA now.ps (x0, ())))
theorem now.start  (m : Nat) (x0 : (El TClock)) : now.go  (m + 1) x0 =
  some ((.c (.v (.int .i64 x0.1))), []) := by kernel_rfl
theorem now.run_eq  (m : Nat) (x0 : (El TClock)) : run (now.cfg ) Try.f11.ntmps Try.f11.results.toList m [.code (bodyOf Try.f11)] (enter (ivA now.ps (x0, ()))) = now.go  m x0 := by kernel_rfl
theorem now.ret  (hs : SpecsOK Try.prog (now.specs ))  (x0 : (El TClock)) {m : Nat} {r : IV} (h : now.go  m x0 = some (r, [])) : VE.Returns Try.prog 11 (ivA now.ps (x0, ())) r :=
  returns_of_run (cfg := now.cfg ) (cfgOK_of mixed tab_ok hs .nil) rfl Try.func11 (body_some (by kernel_rfl)) (Nat.le_of_ble_eq_true (by kernel_rfl)) ((now.run_eq  m x0).trans h)
abbrev now.Law : Prop := ∀ (x0 : (El TClock)), now.pre (x0, ()) = true → VE.Returns Try.prog 11 (ivA now.ps (x0, ())) (now.res (x0, ()))
theorem now.mkR (H : ∀ (x0 : (El TClock)), now.pre (x0, ()) = true → VE.Returns Try.prog 11 (ivA now.ps (x0, ())) (now.res (x0, ()))) : SpecOK Try.prog 11 now.sp :=
  specOf_ret Try.func11 (by kernel_rfl) (by kernel_rfl) fun (x : (El TClock) × Unit) hx => H (x.1) hx
theorem now.mk  (hs : SpecsOK Try.prog (now.specs ))  (H : ∀ (x0 : (El TClock)), now.pre (x0, ()) = true → ∃ m, now.go  m x0 = some (now.res (x0, ()), [])) : SpecOK Try.prog 11 now.sp :=
  now.mkR fun x0 hx => (H x0 hx).elim fun _ hm => now.ret  hs  x0 hm

/-! ### (*triage/clock.Clock).Now -/
abbrev nowZ.ps : List AK := [.z]
def nowZ.pre : ElA nowZ.ps → Bool := fun (x : Unit) => true
def nowZ.res : ElA nowZ.ps → IV := fun (x : Unit) => (vi .i64 0) 
def nowZ.sp : ISpec := spOf nowZ.ps nowZ.pre nowZ.res
abbrev nowZ.OK : Prop := SpecOK Try.prog 11 nowZ.sp
noncomputable def nowZ.body : Code := bodyOf Try.f11
noncomputable def nowZ.rs : List ResultVar := Try.f11.results.toList
def nowZ.live : List (Nat × Live) := []
noncomputable def nowZ.specs  : List (Nat × (List Bool × ISpec)) := []
noncomputable def nowZ.ospecs  : List (Nat × OS) := []
noncomputable def nowZ.cfg  : Cfg := ⟨lkp tab, lkp (nowZ.specs ), lkp nowZ.live, ⟨lkp (nowZ.ospecs ), [], none, false, []⟩⟩
noncomputable def nowZ.go  (m : Nat)  : R := run (nowZ.cfg ) 9 nowZ.rs m [.code nowZ.body] (enter (ivA nowZ.ps ()))
theorem nowZ.start  (m : Nat)  : nowZ.go  (m + 1)  =
  some ((.c (.v (.int .i64 (0 : Int)))), []) := by kernel_rfl
theorem nowZ.run_eq  (m : Nat)  : run (nowZ.cfg ) Try.f11.ntmps Try.f11.results.toList m [.code (bodyOf Try.f11)] (enter (ivA nowZ.ps ())) = nowZ.go  m  := by kernel_rfl
theorem nowZ.ret  (hs : SpecsOK Try.prog (nowZ.specs ))   {m : Nat} {r : IV} (h : nowZ.go  m  = some (r, [])) : VE.Returns Try.prog 11 (ivA nowZ.ps ()) r :=
  returns_of_run (cfg := nowZ.cfg ) (cfgOK_of mixed tab_ok hs .nil) rfl Try.func11 (body_some (by kernel_rfl)) (Nat.le_of_ble_eq_true (by kernel_rfl)) ((nowZ.run_eq  m ).trans h)
abbrev nowZ.Law : Prop := ∀ (_ : Unit), nowZ.pre () = true → VE.Returns Try.prog 11 (ivA nowZ.ps ()) (nowZ.res ())
theorem nowZ.mkR (H : ∀ (_ : Unit), nowZ.pre () = true → VE.Returns Try.prog 11 (ivA nowZ.ps ()) (nowZ.res ())) : SpecOK Try.prog 11 nowZ.sp :=
  specOf_ret Try.func11 (by kernel_rfl) (by kernel_rfl) fun (x : Unit) hx => H () hx
theorem nowZ.mk  (hs : SpecsOK Try.prog (nowZ.specs ))  (H : ∀ (_ : Unit), nowZ.pre () = true → ∃ m, nowZ.go  m  = some (nowZ.res (), [])) : SpecOK Try.prog 11 nowZ.sp :=
  nowZ.mkR fun _ hx => (H () hx).elim fun _ hm => nowZ.ret  hs   hm

/-! ### (*triage/clock.Clock).Cut -/
abbrev cut.ps : List AK := [.o 55 TClock [none, some 27], .d false (.int .i64), .d false (.int .i64)]
def cut.pre : ElA cut.ps → Bool := fun (x : (El TClock) × Int × Int × Unit) => fits TClock (x.1) && (fits (.int .i64) (x.2.1) && (fits (.int .i64) (x.2.2.1) && (true)))
def cut.rv : ElA cut.ps → List RV := fun (x : (El TClock) × Int × Int × Unit) => [.d ((fun c k i => vb (hasK c.2 k i)) x.1 x.2.1 x.2.2.1)]
def cut.res : ElA cut.ps → IV := fun x => oneOrTup (rvIVs 0 (cut.rv x))
def cut.back : ElA cut.ps → List (Nat × Box) := fun (x : (El TClock) × Int × Int × Unit) => rvBxs 0 (cut.rv x) ++ objBx 0 55 TClock [none, some 27] ((fun c k i => cutC c k i) x.1 x.2.1 x.2.2.1)
def cut.sp : OSpec := spO cut.ps cut.pre cut.res cut.back
abbrev cut.OK : Prop := SpecOKO Try.prog 18 cut.sp
noncomputable def cut.body : Code := bodyOf Try.f18
noncomputable def cut.rs : List ResultVar := Try.f18.results.toList
def cut.live : List (Nat × Live) := []
noncomputable def cut.specs  : List (Nat × (List Bool × ISpec)) := [(31, ([], find.sp))]
noncomputable def cut.ospecs  : List (Nat × OS) := [(28, ⟨[some (.arr 27 TTimer)], [], del.sp⟩)]
noncomputable def cut.cfg  : Cfg := ⟨lkp tab, lkp (cut.specs ), lkp cut.live, ⟨lkp (cut.ospecs ), oids 0 cut.ps, some ([.plain], [(oid 0, [.plain, .arr 27 TTimer])]), false, []⟩⟩
noncomputable def cut.go  (m : Nat) (x0 : (El TClock)) (x1 : Int) (x2 : Int) : R := run (cut.cfg ) 25 cut.rs m [.code cut.body] (enterO (ivAO 0 cut.ps (x0, x1, x2, ())) (bxAO 0 cut.ps (x0, x1, x2, ())))
theorem cut.start  (m : Nat) (x0 : (El TClock)) (x1 : Int) (x2 : Int) : cut.go  (m + 1) x0 x1 x2 =
  test (find.pre (x0, (x1, (x2, Unit.unit)))) (
   cond (decide ((ixOf (keyK x1 x2) x0.2) < (0 : Int))) (
    some ((.c (.v (.bool false))), [(102526, (.cells 55 [(.v (.int .i64 x0.1)), (.sref 13251330)])), (13251330, (.arr 27 TTimer x0.2 false))])) (
    test (del.pre (x0.2, ((ixOf (keyK x1 x2) x0.2), ((IntKind.i64.wrap ((ixOf (keyK x1 x2) x0.2) + (1 : Int))), Unit.unit)))) (
     some ((.c (.v (.bool true))), [(102526, (.cells 55 [(.v (.int .i64 x0.1)), (.sref 13251330)])), (13251330, (.arr 27 TTimer (cutOut x0.2 (Int.toNat (ixOf (keyK x1 x2) x0.2)) (Int.toNat (IntKind.i64.wrap ((ixOf (keyK x1 x2) x0.2) + (1 : Int))))) false))])))) := by kernel_rfl
theorem cut.run_eq  (m : Nat) (x0 : (El TClock)) (x1 : Int) (x2 : Int) : run (cut.cfg ) Try.f18.ntmps Try.f18.results.toList m [.code (bodyOf Try.f18)] (enterO (ivAO 0 cut.ps (x0, x1, x2, ())) (bxAO 0 cut.ps (x0, x1, x2, ()))) = cut.go  m x0 x1 x2 := by kernel_rfl
theorem cut.ret  (hs : SpecsOK Try.prog (cut.specs )) (ho : OSpecsOK Try.prog (cut.ospecs )) (x0 : (El TClock)) (x1 : Int) (x2 : Int) {m : Nat} {r : IV} {b : List (Nat × Box)} (h : cut.go  m x0 x1 x2 = some (r, b)) : VE.ReturnsO Try.prog 18 (ivAO 0 cut.ps (x0, x1, x2, ())) (bxAO 0 cut.ps (x0, x1, x2, ())) r b :=
  returnsO_of_run (cfg := cut.cfg ) (cfgOK_of mixed tab_ok hs ho) rfl Try.func18 (body_some (by kernel_rfl)) (Nat.le_of_ble_eq_true (by kernel_rfl)) (fun _ _ _ h => oids_mem h) ((cut.run_eq  m x0 x1 x2).trans h)
abbrev cut.Law : Prop := ∀ (x0 : (El TClock)) (x1 : Int) (x2 : Int), cut.pre (x0, x1, x2, ()) = true → VE.ReturnsO Try.prog 18 (ivAO 0 cut.ps (x0, x1, x2, ())) (bxAO 0 cut.ps (x0, x1, x2, ())) (cut.res (x0, x1, x2, ())) (cut.back (x0, x1, x2, ()))
theorem cut.mkR (H : ∀ (x0 : (El TClock)) (x1 : Int) (x2 : Int), cut.pre (x0, x1, x2, ()) = true → VE.ReturnsO Try.prog 18 (ivAO 0 cut.ps (x0, x1, x2, ())) (bxAO 0 cut.ps (x0, x1, x2, ())) (cut.res (x0, x1, x2, ())) (cut.back (x0, x1, x2, ()))) : SpecOKO Try.prog 18 cut.sp :=
  specO_ret Try.func18 (by kernel_rfl) (by kernel_rfl) fun (x : (El TClock) × Int × Int × Unit) hx => H (x.1) (x.2.1) (x.2.2.1) hx
theorem cut.mk  (hs : SpecsOK Try.prog (cut.specs )) (ho : OSpecsOK Try.prog (cut.ospecs )) (H : ∀ (x0 : (El TClock)) (x1 : Int) (x2 : Int), cut.pre (x0, x1, x2, ()) = true → ∃ m, cut.go  m x0 x1 x2 = some (cut.res (x0, x1, x2, ()), cut.back (x0, x1, x2, ()))) : SpecOKO Try.prog 18 cut.sp :=
  cut.mkR fun x0 x1 x2 hx => (H x0 x1 x2 hx).elim fun _ hm => cut.ret  hs ho x0 x1 x2 hm

/-! ### (*triage/clock.Clock).Cut -/
abbrev cutZ.ps : List AK := [.z, .d false (.int .i64), .d false (.int .i64)]
def cutZ.pre : ElA cutZ.ps → Bool := fun (x : Int × Int × Unit) => fits (.int .i64) (x.1) && (fits (.int .i64) (x.2.1) && (true))
def cutZ.rv : ElA cutZ.ps → List RV := fun (x : Int × Int × Unit) => [.d ((fun _ _ => vb false) x.1 x.2.1)]
def cutZ.res : ElA cutZ.ps → IV := fun x => oneOrTup (rvIVs 0 (cutZ.rv x))
def cutZ.back : ElA cutZ.ps → List (Nat × Box) := fun (x : Int × Int × Unit) => rvBxs 0 (cutZ.rv x)
def cutZ.sp : OSpec := spO cutZ.ps cutZ.pre cutZ.res cutZ.back
abbrev cutZ.OK : Prop := SpecOKO Try.prog 18 cutZ.sp
noncomputable def cutZ.body : Code := bodyOf Try.f18
noncomputable def cutZ.rs : List ResultVar := Try.f18.results.toList
def cutZ.live : List (Nat × Live) := []
noncomputable def cutZ.specs  : List (Nat × (List Bool × ISpec)) := [(31, ([], findZ.sp))]
noncomputable def cutZ.ospecs  : List (Nat × OS) := []
noncomputable def cutZ.cfg  : Cfg := ⟨lkp tab, lkp (cutZ.specs ), lkp cutZ.live, ⟨lkp (cutZ.ospecs ), oids 0 cutZ.ps, some ([.plain], []), false, []⟩⟩
noncomputable def cutZ.go  (m : Nat) (x0 : Int) (x1 : Int) : R := run (cutZ.cfg ) 25 cutZ.rs m [.code cutZ.body] (enterO (ivAO 0 cutZ.ps (x0, x1, ())) (bxAO 0 cutZ.ps (x0, x1, ())))
theorem cutZ.start  (m : Nat) (x0 : Int) (x1 : Int) : cutZ.go  (m + 1) x0 x1 =
  some ((.c (.v (.bool false))), []) := by kernel_rfl
theorem cutZ.run_eq  (m : Nat) (x0 : Int) (x1 : Int) : run (cutZ.cfg ) Try.f18.ntmps Try.f18.results.toList m [.code (bodyOf Try.f18)] (enterO (ivAO 0 cutZ.ps (x0, x1, ())) (bxAO 0 cutZ.ps (x0, x1, ()))) = cutZ.go  m x0 x1 := by kernel_rfl
theorem cutZ.ret  (hs : SpecsOK Try.prog (cutZ.specs ))  (x0 : Int) (x1 : Int) {m : Nat} {r : IV} {b : List (Nat × Box)} (h : cutZ.go  m x0 x1 = some (r, b)) : VE.ReturnsO Try.prog 18 (ivAO 0 cutZ.ps (x0, x1, ())) (bxAO 0 cutZ.ps (x0, x1, ())) r b :=
  returnsO_of_run (cfg := cutZ.cfg ) (cfgOK_of mixed tab_ok hs .nil) rfl Try.func18 (body_some (by kernel_rfl)) (Nat.le_of_ble_eq_true (by kernel_rfl)) (fun _ _ _ h => oids_mem h) ((cutZ.run_eq  m x0 x1).trans h)
abbrev cutZ.Law : Prop := ∀ (x0 : Int) (x1 : Int), cutZ.pre (x0, x1, ()) = true → VE.ReturnsO Try.prog 18 (ivAO 0 cutZ.ps (x0, x1, ())) (bxAO 0 cutZ.ps (x0, x1, ())) (cutZ.res (x0, x1, ())) (cutZ.back (x0, x1, ()))
theorem cutZ.mkR (H : ∀ (x0 : Int) (x1 : Int), cutZ.pre (x0, x1, ()) = true → VE.ReturnsO Try.prog 18 (ivAO 0 cutZ.ps (x0, x1, ())) (bxAO 0 cutZ.ps (x0, x1, ())) (cutZ.res (x0, x1, ())) (cutZ.back (x0, x1, ()))) : SpecOKO Try.prog 18 cutZ.sp :=
  specO_ret Try.func18 (by kernel_rfl) (by kernel_rfl) fun (x : Int × Int × Unit) hx => H (x.1) (x.2.1) hx
theorem cutZ.mk  (hs : SpecsOK Try.prog (cutZ.specs ))  (H : ∀ (x0 : Int) (x1 : Int), cutZ.pre (x0, x1, ()) = true → ∃ m, cutZ.go  m x0 x1 = some (cutZ.res (x0, x1, ()), cutZ.back (x0, x1, ()))) : SpecOKO Try.prog 18 cutZ.sp :=
  cutZ.mkR fun x0 x1 hx => (H x0 x1 hx).elim fun _ hm => cutZ.ret  hs  x0 x1 hm

/-! ### (*triage/clock.Clock).Set -/
abbrev put.ps : List AK := [.o 55 TClock [none, some 27], .d true TTimer]
def put.pre : ElA put.ps → Bool := fun (x : (El TClock) × (El TTimer) × Unit) => fits TClock (x.1) && (fits TTimer (x.2.1) && ((fun c t => risesT (cutT c.2 t.2.1 t.2.2) && decide (List.length c.2 ≤ 1000000)) x.1 x.2.1 && (true)))
def put.rv : ElA put.ps → List RV := fun (x : (El TClock) × (El TTimer) × Unit) => [.d ((fun c t => vb (setOk c t)) x.1 x.2.1)]
def put.res : ElA put.ps → IV := fun x => oneOrTup (rvIVs 0 (put.rv x))
def put.back : ElA put.ps → List (Nat × Box) := fun (x : (El TClock) × (El TTimer) × Unit) => rvBxs 0 (put.rv x) ++ objBx 0 55 TClock [none, some 27] ((fun c t => setC c t) x.1 x.2.1)
def put.sp : OSpec := spO put.ps put.pre put.res put.back
abbrev put.OK : Prop := SpecOKO Try.prog 12 put.sp
noncomputable def put.body : Code := bodyOf Try.f12
noncomputable def put.rs : List ResultVar := Try.f12.results.toList
def put.live : List (Nat × Live) := []
noncomputable def put.specs  : List (Nat × (List Bool × ISpec)) := [(25, ([], bs.sp))]
noncomputable def put.ospecs  : List (Nat × OS) := [(18, ⟨[some (.obj [.plain, .arr 27 TTimer])], [], cut.sp⟩), (27, ⟨[some (.arr 27 TTimer), none, some (.arr 27 TTimer)], [], ins.sp⟩)]
noncomputable def put.cfg  : Cfg := ⟨lkp tab, lkp (put.specs ), lkp put.live, ⟨lkp (put.ospecs ), oids 0 put.ps, some ([.plain], [(oid 0, [.plain, .arr 27 TTimer])]), false, []⟩⟩
noncomputable def put.go  (m : Nat) (x0 : (El TClock)) (x1 : (El TTimer)) : R := run (put.cfg ) 49 put.rs m [.code put.body] (enterO (ivAO 0 put.ps (x0, x1, ())) (bxAO 0 put.ps (x0, x1, ())))
theorem put.start  (m : Nat) (x0 : (El TClock)) (x1 : (El TTimer)) : put.go  (m + 1) x0 x1 =
  cond (decide (x1.1 < x0.1)) (
   some ((.c (.v (.bool false))), [(102526, (.cells 55 [(.v (.int .i64 x0.1)), (.sref 13251330)])), (13251330, (.arr 27 TTimer x0.2 false))])) (
   cond (decide (x1.1 > (4611686018427387904 : Int))) (
    some ((.c (.v (.bool false))), [(102526, (.cells 55 [(.v (.int .i64 x0.1)), (.sref 13251330)])), (13251330, (.arr 27 TTimer x0.2 false))])) (
    test (cut.pre (x0, (x1.2.1, (x1.2.2, Unit.unit)))) (
     test (bs.pre (((cutC x0 x1.2.1 x1.2.2)).2, (x1, (Unit.unit, Unit.unit)))) (
      test (ins.pre (((cutC x0 x1.2.1 x1.2.2)).2, (((placeT ((cutC x0 x1.2.1 x1.2.2)).2 x1) : Int), ((x1 :: ([] : List (El TTimer))), Unit.unit)))) (
       some ((.c (.v (.bool true))), [(102526, (.cells 55 [(.v (.int .i64 ((cutC x0 x1.2.1 x1.2.2)).1)), (.sref 13251330)])), (13251330, (.arr 27 TTimer (putIn ((cutC x0 x1.2.1 x1.2.2)).2 (Int.toNat ((placeT ((cutC x0 x1.2.1 x1.2.2)).2 x1) : Int)) (rdEl TTimer (x1 :: ([] : List (El TTimer))) 0)) false))])))))) := by kernel_rfl
theorem put.run_eq  (m : Nat) (x0 : (El TClock)) (x1 : (El TTimer)) : run (put.cfg ) Try.f12.ntmps Try.f12.results.toList m [.code (bodyOf Try.f12)] (enterO (ivAO 0 put.ps (x0, x1, ())) (bxAO 0 put.ps (x0, x1, ()))) = put.go  m x0 x1 := by kernel_rfl
theorem put.ret  (hs : SpecsOK Try.prog (put.specs )) (ho : OSpecsOK Try.prog (put.ospecs )) (x0 : (El TClock)) (x1 : (El TTimer)) {m : Nat} {r : IV} {b : List (Nat × Box)} (h : put.go  m x0 x1 = some (r, b)) : VE.ReturnsO Try.prog 12 (ivAO 0 put.ps (x0, x1, ())) (bxAO 0 put.ps (x0, x1, ())) r b :=
  returnsO_of_run (cfg := put.cfg ) (cfgOK_of mixed tab_ok hs ho) rfl Try.func12 (body_some (by kernel_rfl)) (Nat.le_of_ble_eq_true (by kernel_rfl)) (fun _ _ _ h => oids_mem h) ((put.run_eq  m x0 x1).trans h)
abbrev put.Law : Prop := ∀ (x0 : (El TClock)) (x1 : (El TTimer)), put.pre (x0, x1, ()) = true → VE.ReturnsO Try.prog 12 (ivAO 0 put.ps (x0, x1, ())) (bxAO 0 put.ps (x0, x1, ())) (put.res (x0, x1, ())) (put.back (x0, x1, ()))
theorem put.mkR (H : ∀ (x0 : (El TClock)) (x1 : (El TTimer)), put.pre (x0, x1, ()) = true → VE.ReturnsO Try.prog 12 (ivAO 0 put.ps (x0, x1, ())) (bxAO 0 put.ps (x0, x1, ())) (put.res (x0, x1, ())) (put.back (x0, x1, ()))) : SpecOKO Try.prog 12 put.sp :=
  specO_ret Try.func12 (by kernel_rfl) (by kernel_rfl) fun (x : (El TClock) × (El TTimer) × Unit) hx => H (x.1) (x.2.1) hx
theorem put.mk  (hs : SpecsOK Try.prog (put.specs )) (ho : OSpecsOK Try.prog (put.ospecs )) (H : ∀ (x0 : (El TClock)) (x1 : (El TTimer)), put.pre (x0, x1, ()) = true → ∃ m, put.go  m x0 x1 = some (put.res (x0, x1, ()), put.back (x0, x1, ()))) : SpecOKO Try.prog 12 put.sp :=
  put.mkR fun x0 x1 hx => (H x0 x1 hx).elim fun _ hm => put.ret  hs ho x0 x1 hm

/-! ### (*triage/clock.Clock).Set -/
abbrev putZ.ps : List AK := [.z, .d true TTimer]
def putZ.pre : ElA putZ.ps → Bool := fun (x : (El TTimer) × Unit) => fits TTimer (x.1) && (true)
def putZ.rv : ElA putZ.ps → List RV := fun (x : (El TTimer) × Unit) => [.d ((fun _ => vb false) x.1)]
def putZ.res : ElA putZ.ps → IV := fun x => oneOrTup (rvIVs 0 (putZ.rv x))
def putZ.back : ElA putZ.ps → List (Nat × Box) := fun (x : (El TTimer) × Unit) => rvBxs 0 (putZ.rv x)
def putZ.sp : OSpec := spO putZ.ps putZ.pre putZ.res putZ.back
abbrev putZ.OK : Prop := SpecOKO Try.prog 12 putZ.sp
noncomputable def putZ.body : Code := bodyOf Try.f12
noncomputable def putZ.rs : List ResultVar := Try.f12.results.toList
def putZ.live : List (Nat × Live) := []
noncomputable def putZ.specs  : List (Nat × (List Bool × ISpec)) := []
noncomputable def putZ.ospecs  : List (Nat × OS) := []
noncomputable def putZ.cfg  : Cfg := ⟨lkp tab, lkp (putZ.specs ), lkp putZ.live, ⟨lkp (putZ.ospecs ), oids 0 putZ.ps, some ([.plain], []), false, []⟩⟩
noncomputable def putZ.go  (m : Nat) (x0 : (El TTimer)) : R := run (putZ.cfg ) 49 putZ.rs m [.code putZ.body] (enterO (ivAO 0 putZ.ps (x0, ())) (bxAO 0 putZ.ps (x0, ())))
theorem putZ.start  (m : Nat) (x0 : (El TTimer)) : putZ.go  (m + 1) x0 =
  some ((.c (.v (.bool false))), []) := by kernel_rfl
theorem putZ.run_eq  (m : Nat) (x0 : (El TTimer)) : run (putZ.cfg ) Try.f12.ntmps Try.f12.results.toList m [.code (bodyOf Try.f12)] (enterO (ivAO 0 putZ.ps (x0, ())) (bxAO 0 putZ.ps (x0, ()))) = putZ.go  m x0 := by kernel_rfl
theorem putZ.ret  (hs : SpecsOK Try.prog (putZ.specs ))  (x0 : (El TTimer)) {m : Nat} {r : IV} {b : List (Nat × Box)} (h : putZ.go  m x0 = some (r, b)) : VE.ReturnsO Try.prog 12 (ivAO 0 putZ.ps (x0, ())) (bxAO 0 putZ.ps (x0, ())) r b :=
  returnsO_of_run (cfg := putZ.cfg ) (cfgOK_of mixed tab_ok hs .nil) rfl Try.func12 (body_some (by kernel_rfl)) (Nat.le_of_ble_eq_true (by kernel_rfl)) (fun _ _ _ h => oids_mem h) ((putZ.run_eq  m x0).trans h)
abbrev putZ.Law : Prop := ∀ (x0 : (El TTimer)), putZ.pre (x0, ()) = true → VE.ReturnsO Try.prog 12 (ivAO 0 putZ.ps (x0, ())) (bxAO 0 putZ.ps (x0, ())) (putZ.res (x0, ())) (putZ.back (x0, ()))
theorem putZ.mkR (H : ∀ (x0 : (El TTimer)), putZ.pre (x0, ()) = true → VE.ReturnsO Try.prog 12 (ivAO 0 putZ.ps (x0, ())) (bxAO 0 putZ.ps (x0, ())) (putZ.res (x0, ())) (putZ.back (x0, ()))) : SpecOKO Try.prog 12 putZ.sp :=
  specO_ret Try.func12 (by kernel_rfl) (by kernel_rfl) fun (x : (El TTimer) × Unit) hx => H (x.1) hx
theorem putZ.mk  (hs : SpecsOK Try.prog (putZ.specs ))  (H : ∀ (x0 : (El TTimer)), putZ.pre (x0, ()) = true → ∃ m, putZ.go  m x0 = some (putZ.res (x0, ()), putZ.back (x0, ()))) : SpecOKO Try.prog 12 putZ.sp :=
  putZ.mkR fun x0 hx => (H x0 hx).elim fun _ hm => putZ.ret  hs  x0 hm

/-! ### (*triage/clock.Clock).At -/
abbrev when.ps : List AK := [.o 55 TClock [none, some 27], .d false (.int .i64), .d false (.int .i64)]
def when.pre : ElA when.ps → Bool := fun (x : (El TClock) × Int × Int × Unit) => fits TClock (x.1) && (fits (.int .i64) (x.2.1) && (fits (.int .i64) (x.2.2.1) && (true)))
def when.rv : ElA when.ps → List RV := fun (x : (El TClock) × Int × Int × Unit) => [.d ((fun c k i => vi .i64 (atI c k i)) x.1 x.2.1 x.2.2.1), .d ((fun c k i => vb (hasK c.2 k i)) x.1 x.2.1 x.2.2.1)]
def when.res : ElA when.ps → IV := fun x => oneOrTup (rvIVs 0 (when.rv x))
def when.back : ElA when.ps → List (Nat × Box) := fun (x : (El TClock) × Int × Int × Unit) => rvBxs 0 (when.rv x) ++ objBx 0 55 TClock [none, some 27] ((fun c _ _ => c) x.1 x.2.1 x.2.2.1)
def when.sp : OSpec := spO when.ps when.pre when.res when.back
abbrev when.OK : Prop := SpecOKO Try.prog 22 when.sp
noncomputable def when.body : Code := bodyOf Try.f22
noncomputable def when.rs : List ResultVar := Try.f22.results.toList
def when.live : List (Nat × Live) := []
noncomputable def when.specs  : List (Nat × (List Bool × ISpec)) := [(31, ([], find.sp))]
noncomputable def when.ospecs  : List (Nat × OS) := []
noncomputable def when.cfg  : Cfg := ⟨lkp tab, lkp (when.specs ), lkp when.live, ⟨lkp (when.ospecs ), oids 0 when.ps, some ([.plain, .plain], [(oid 0, [.plain, .arr 27 TTimer])]), false, []⟩⟩
noncomputable def when.go  (m : Nat) (x0 : (El TClock)) (x1 : Int) (x2 : Int) : R := run (when.cfg ) 23 when.rs m [.code when.body] (enterO (ivAO 0 when.ps (x0, x1, x2, ())) (bxAO 0 when.ps (x0, x1, x2, ())))
theorem when.start  (m : Nat) (x0 : (El TClock)) (x1 : Int) (x2 : Int) : when.go  (m + 1) x0 x1 x2 =
  test (find.pre (x0, (x1, (x2, Unit.unit)))) (
   cond (decide ((ixOf (keyK x1 x2) x0.2) < (0 : Int))) (
    some ((.tup [(.c (.v (.int .i64 (0 : Int)))), (.c (.v (.bool false)))]), [(102526, (.cells 55 [(.v (.int .i64 x0.1)), (.sref 13251330)])), (13251330, (.arr 27 TTimer x0.2 false))])) (
    test (decide ((0 : Int) ≤ (ixOf (keyK x1 x2) x0.2))) (
     test (decide ((ixOf (keyK x1 x2) x0.2) < ((List.length x0.2) : Int))) (
      some ((.tup [(.c (.v (.int .i64 ((rdEl TTimer x0.2 (Int.toNat (ixOf (keyK x1 x2) x0.2)))).1))), (.c (.v (.bool true)))]), [(102526, (.cells 55 [(.v (.int .i64 x0.1)), (.sref 13251330)])), (13251330, (.arr 27 TTimer x0.2 false))]))))) := by kernel_rfl
theorem when.run_eq  (m : Nat) (x0 : (El TClock)) (x1 : Int) (x2 : Int) : run (when.cfg ) Try.f22.ntmps Try.f22.results.toList m [.code (bodyOf Try.f22)] (enterO (ivAO 0 when.ps (x0, x1, x2, ())) (bxAO 0 when.ps (x0, x1, x2, ()))) = when.go  m x0 x1 x2 := by kernel_rfl
theorem when.ret  (hs : SpecsOK Try.prog (when.specs ))  (x0 : (El TClock)) (x1 : Int) (x2 : Int) {m : Nat} {r : IV} {b : List (Nat × Box)} (h : when.go  m x0 x1 x2 = some (r, b)) : VE.ReturnsO Try.prog 22 (ivAO 0 when.ps (x0, x1, x2, ())) (bxAO 0 when.ps (x0, x1, x2, ())) r b :=
  returnsO_of_run (cfg := when.cfg ) (cfgOK_of mixed tab_ok hs .nil) rfl Try.func22 (body_some (by kernel_rfl)) (Nat.le_of_ble_eq_true (by kernel_rfl)) (fun _ _ _ h => oids_mem h) ((when.run_eq  m x0 x1 x2).trans h)
abbrev when.Law : Prop := ∀ (x0 : (El TClock)) (x1 : Int) (x2 : Int), when.pre (x0, x1, x2, ()) = true → VE.ReturnsO Try.prog 22 (ivAO 0 when.ps (x0, x1, x2, ())) (bxAO 0 when.ps (x0, x1, x2, ())) (when.res (x0, x1, x2, ())) (when.back (x0, x1, x2, ()))
theorem when.mkR (H : ∀ (x0 : (El TClock)) (x1 : Int) (x2 : Int), when.pre (x0, x1, x2, ()) = true → VE.ReturnsO Try.prog 22 (ivAO 0 when.ps (x0, x1, x2, ())) (bxAO 0 when.ps (x0, x1, x2, ())) (when.res (x0, x1, x2, ())) (when.back (x0, x1, x2, ()))) : SpecOKO Try.prog 22 when.sp :=
  specO_ret Try.func22 (by kernel_rfl) (by kernel_rfl) fun (x : (El TClock) × Int × Int × Unit) hx => H (x.1) (x.2.1) (x.2.2.1) hx
theorem when.mk  (hs : SpecsOK Try.prog (when.specs ))  (H : ∀ (x0 : (El TClock)) (x1 : Int) (x2 : Int), when.pre (x0, x1, x2, ()) = true → ∃ m, when.go  m x0 x1 x2 = some (when.res (x0, x1, x2, ()), when.back (x0, x1, x2, ()))) : SpecOKO Try.prog 22 when.sp :=
  when.mkR fun x0 x1 x2 hx => (H x0 x1 x2 hx).elim fun _ hm => when.ret  hs  x0 x1 x2 hm

/-! ### (*triage/clock.Clock).At -/
abbrev whenZ.ps : List AK := [.z, .d false (.int .i64), .d false (.int .i64)]
def whenZ.pre : ElA whenZ.ps → Bool := fun (x : Int × Int × Unit) => fits (.int .i64) (x.1) && (fits (.int .i64) (x.2.1) && (true))
def whenZ.rv : ElA whenZ.ps → List RV := fun (x : Int × Int × Unit) => [.d ((fun _ _ => vi .i64 0) x.1 x.2.1), .d ((fun _ _ => vb false) x.1 x.2.1)]
def whenZ.res : ElA whenZ.ps → IV := fun x => oneOrTup (rvIVs 0 (whenZ.rv x))
def whenZ.back : ElA whenZ.ps → List (Nat × Box) := fun (x : Int × Int × Unit) => rvBxs 0 (whenZ.rv x)
def whenZ.sp : OSpec := spO whenZ.ps whenZ.pre whenZ.res whenZ.back
abbrev whenZ.OK : Prop := SpecOKO Try.prog 22 whenZ.sp
noncomputable def whenZ.body : Code := bodyOf Try.f22
noncomputable def whenZ.rs : List ResultVar := Try.f22.results.toList
def whenZ.live : List (Nat × Live) := []
noncomputable def whenZ.specs  : List (Nat × (List Bool × ISpec)) := [(31, ([], findZ.sp))]
noncomputable def whenZ.ospecs  : List (Nat × OS) := []
noncomputable def whenZ.cfg  : Cfg := ⟨lkp tab, lkp (whenZ.specs ), lkp whenZ.live, ⟨lkp (whenZ.ospecs ), oids 0 whenZ.ps, some ([.plain, .plain], []), false, []⟩⟩
noncomputable def whenZ.go  (m : Nat) (x0 : Int) (x1 : Int) : R := run (whenZ.cfg ) 23 whenZ.rs m [.code whenZ.body] (enterO (ivAO 0 whenZ.ps (x0, x1, ())) (bxAO 0 whenZ.ps (x0, x1, ())))
theorem whenZ.start  (m : Nat) (x0 : Int) (x1 : Int) : whenZ.go  (m + 1) x0 x1 =
  some ((.tup [(.c (.v (.int .i64 (0 : Int)))), (.c (.v (.bool false)))]), []) := by kernel_rfl
theorem whenZ.run_eq  (m : Nat) (x0 : Int) (x1 : Int) : run (whenZ.cfg ) Try.f22.ntmps Try.f22.results.toList m [.code (bodyOf Try.f22)] (enterO (ivAO 0 whenZ.ps (x0, x1, ())) (bxAO 0 whenZ.ps (x0, x1, ()))) = whenZ.go  m x0 x1 := by kernel_rfl
theorem whenZ.ret  (hs : SpecsOK Try.prog (whenZ.specs ))  (x0 : Int) (x1 : Int) {m : Nat} {r : IV} {b : List (Nat × Box)} (h : whenZ.go  m x0 x1 = some (r, b)) : VE.ReturnsO Try.prog 22 (ivAO 0 whenZ.ps (x0, x1, ())) (bxAO 0 whenZ.ps (x0, x1, ())) r b :=
  returnsO_of_run (cfg := whenZ.cfg ) (cfgOK_of mixed tab_ok hs .nil) rfl Try.func22 (body_some (by kernel_rfl)) (Nat.le_of_ble_eq_true (by kernel_rfl)) (fun _ _ _ h => oids_mem h) ((whenZ.run_eq  m x0 x1).trans h)
abbrev whenZ.Law : Prop := ∀ (x0 : Int) (x1 : Int), whenZ.pre (x0, x1, ()) = true → VE.ReturnsO Try.prog 22 (ivAO 0 whenZ.ps (x0, x1, ())) (bxAO 0 whenZ.ps (x0, x1, ())) (whenZ.res (x0, x1, ())) (whenZ.back (x0, x1, ()))
theorem whenZ.mkR (H : ∀ (x0 : Int) (x1 : Int), whenZ.pre (x0, x1, ()) = true → VE.ReturnsO Try.prog 22 (ivAO 0 whenZ.ps (x0, x1, ())) (bxAO 0 whenZ.ps (x0, x1, ())) (whenZ.res (x0, x1, ())) (whenZ.back (x0, x1, ()))) : SpecOKO Try.prog 22 whenZ.sp :=
  specO_ret Try.func22 (by kernel_rfl) (by kernel_rfl) fun (x : Int × Int × Unit) hx => H (x.1) (x.2.1) hx
theorem whenZ.mk  (hs : SpecsOK Try.prog (whenZ.specs ))  (H : ∀ (x0 : Int) (x1 : Int), whenZ.pre (x0, x1, ()) = true → ∃ m, whenZ.go  m x0 x1 = some (whenZ.res (x0, x1, ()), whenZ.back (x0, x1, ()))) : SpecOKO Try.prog 22 whenZ.sp :=
  whenZ.mkR fun x0 x1 hx => (H x0 x1 hx).elim fun _ hm => whenZ.ret  hs  x0 x1 hm

/-! ### (*triage/clock.Clock).Next -/
abbrev due.ps : List AK := [.o 55 TClock [none, some 27], .d false (.int .i64)]
def due.pre : ElA due.ps → Bool := fun (x : (El TClock) × Int × Unit) => fits TClock (x.1) && (fits (.int .i64) (x.2.1) && (true))
def due.rv : ElA due.ps → List RV := fun (x : (El TClock) × Int × Unit) => [.d ((fun c to => mkIV true (enc TTimer (nextT c to))) x.1 x.2.1), .d ((fun c to => vb (dueB c to)) x.1 x.2.1)]
def due.res : ElA due.ps → IV := fun x => oneOrTup (rvIVs 0 (due.rv x))
def due.back : ElA due.ps → List (Nat × Box) := fun (x : (El TClock) × Int × Unit) => rvBxs 0 (due.rv x) ++ objBx 0 55 TClock [none, some 27] ((fun c to => nextC c to) x.1 x.2.1)
def due.sp : OSpec := spO due.ps due.pre due.res due.back
abbrev due.OK : Prop := SpecOKO Try.prog 13 due.sp
noncomputable def due.body : Code := bodyOf Try.f13
noncomputable def due.rs : List ResultVar := Try.f13.results.toList
def due.live : List (Nat × Live) := []
noncomputable def due.specs  : List (Nat × (List Bool × ISpec)) := []
noncomputable def due.ospecs  : List (Nat × OS) := [(28, ⟨[some (.arr 27 TTimer)], [], del.sp⟩)]
noncomputable def due.cfg  : Cfg := ⟨lkp tab, lkp (due.specs ), lkp due.live, ⟨lkp (due.ospecs ), oids 0 due.ps, some ([.plain, .plain], [(oid 0, [.plain, .arr 27 TTimer])]), false, []⟩⟩
noncomputable def due.go  (m : Nat) (x0 : (El TClock)) (x1 : Int) : R := run (due.cfg ) 49 due.rs m [.code due.body] (enterO (ivAO 0 due.ps (x0, x1, ())) (bxAO 0 due.ps (x0, x1, ())))
theorem due.start  (m : Nat) (x0 : (El TClock)) (x1 : Int) : due.go  (m + 1) x0 x1 =
  cond (((List.length x0.2) : Int) == (0 : Int)) (
   some ((.tup [(.agg [(.v (.int .i64 (0 : Int))), (.v (.int .i64 (0 : Int))), (.v (.int .i64 (0 : Int)))]), (.c (.v (.bool false)))]), [(102526, (.cells 55 [(.v (.int .i64 x0.1)), (.sref 13251330)])), (13251330, (.arr 27 TTimer x0.2 false))])) (
   test (decide ((0 : Int) < ((List.length x0.2) : Int))) (
    cond (decide (((rdEl TTimer x0.2 (Int.toNat (0 : Int)))).1 > x1)) (
     some ((.tup [(.agg [(.v (.int .i64 (0 : Int))), (.v (.int .i64 (0 : Int))), (.v (.int .i64 (0 : Int)))]), (.c (.v (.bool false)))]), [(102526, (.cells 55 [(.v (.int .i64 x0.1)), (.sref 13251330)])), (13251330, (.arr 27 TTimer x0.2 false))])) (
     test (decide ((0 : Int) < ((List.length x0.2) : Int))) (
      test (del.pre (x0.2, ((0 : Int), ((1 : Int), Unit.unit)))) (
       some ((.tup [(.agg [(.v (.int .i64 ((rdEl TTimer x0.2 (Int.toNat (0 : Int)))).1)), (.v (.int .i64 (((rdEl TTimer x0.2 (Int.toNat (0 : Int)))).2).1)), (.v (.int .i64 (((rdEl TTimer x0.2 (Int.toNat (0 : Int)))).2).2))]), (.c (.v (.bool true)))]), [(102526, (.cells 55 [(.v (.int .i64 ((rdEl TTimer x0.2 (Int.toNat (0 : Int)))).1)), (.sref 13251330)])), (13251330, (.arr 27 TTimer (cutOut x0.2 (Int.toNat (0 : Int)) (Int.toNat (1 : Int))) false))])))))) := by kernel_rfl
theorem due.run_eq  (m : Nat) (x0 : (El TClock)) (x1 : Int) : run (due.cfg ) Try.f13.ntmps Try.f13.results.toList m [.code (bodyOf Try.f13)] (enterO (ivAO 0 due.ps (x0, x1, ())) (bxAO 0 due.ps (x0, x1, ()))) = due.go  m x0 x1 := by kernel_rfl
theorem due.ret  (hs : SpecsOK Try.prog (due.specs )) (ho : OSpecsOK Try.prog (due.ospecs )) (x0 : (El TClock)) (x1 : Int) {m : Nat} {r : IV} {b : List (Nat × Box)} (h : due.go  m x0 x1 = some (r, b)) : VE.ReturnsO Try.prog 13 (ivAO 0 due.ps (x0, x1, ())) (bxAO 0 due.ps (x0, x1, ())) r b :=
  returnsO_of_run (cfg := due.cfg ) (cfgOK_of mixed tab_ok hs ho) rfl Try.func13 (body_some (by kernel_rfl)) (Nat.le_of_ble_eq_true (by kernel_rfl)) (fun _ _ _ h => oids_mem h) ((due.run_eq  m x0 x1).trans h)
abbrev due.Law : Prop := ∀ (x0 : (El TClock)) (x1 : Int), due.pre (x0, x1, ()) = true → VE.ReturnsO Try.prog 13 (ivAO 0 due.ps (x0, x1, ())) (bxAO 0 due.ps (x0, x1, ())) (due.res (x0, x1, ())) (due.back (x0, x1, ()))
theorem due.mkR (H : ∀ (x0 : (El TClock)) (x1 : Int), due.pre (x0, x1, ()) = true → VE.ReturnsO Try.prog 13 (ivAO 0 due.ps (x0, x1, ())) (bxAO 0 due.ps (x0, x1, ())) (due.res (x0, x1, ())) (due.back (x0, x1, ()))) : SpecOKO Try.prog 13 due.sp :=
  specO_ret Try.func13 (by kernel_rfl) (by kernel_rfl) fun (x : (El TClock) × Int × Unit) hx => H (x.1) (x.2.1) hx
theorem due.mk  (hs : SpecsOK Try.prog (due.specs )) (ho : OSpecsOK Try.prog (due.ospecs )) (H : ∀ (x0 : (El TClock)) (x1 : Int), due.pre (x0, x1, ()) = true → ∃ m, due.go  m x0 x1 = some (due.res (x0, x1, ()), due.back (x0, x1, ()))) : SpecOKO Try.prog 13 due.sp :=
  due.mkR fun x0 x1 hx => (H x0 x1 hx).elim fun _ hm => due.ret  hs ho x0 x1 hm

/-! ### (*triage/clock.Clock).Next -/
abbrev dueZ.ps : List AK := [.z, .d false (.int .i64)]
def dueZ.pre : ElA dueZ.ps → Bool := fun (x : Int × Unit) => fits (.int .i64) (x.1) && (true)
def dueZ.rv : ElA dueZ.ps → List RV := fun (x : Int × Unit) => [.d ((fun _ => mkIV true (enc TTimer (0, 0, 0))) x.1), .d ((fun _ => vb false) x.1)]
def dueZ.res : ElA dueZ.ps → IV := fun x => oneOrTup (rvIVs 0 (dueZ.rv x))
def dueZ.back : ElA dueZ.ps → List (Nat × Box) := fun (x : Int × Unit) => rvBxs 0 (dueZ.rv x)
def dueZ.sp : OSpec := spO dueZ.ps dueZ.pre dueZ.res dueZ.back
abbrev dueZ.OK : Prop := SpecOKO Try.prog 13 dueZ.sp
noncomputable def dueZ.body : Code := bodyOf Try.f13
noncomputable def dueZ.rs : List ResultVar := Try.f13.results.toList
def dueZ.live : List (Nat × Live) := []
noncomputable def dueZ.specs  : List (Nat × (List Bool × ISpec)) := []
noncomputable def dueZ.ospecs  : List (Nat × OS) := []
noncomputable def dueZ.cfg  : Cfg := ⟨lkp tab, lkp (dueZ.specs ), lkp dueZ.live, ⟨lkp (dueZ.ospecs ), oids 0 dueZ.ps, some ([.plain, .plain], []), false, []⟩⟩
noncomputable def dueZ.go  (m : Nat) (x0 : Int) : R := run (dueZ.cfg ) 49 dueZ.rs m [.code dueZ.body] (enterO (ivAO 0 dueZ.ps (x0, ())) (bxAO 0 dueZ.ps (x0, ())))
theorem dueZ.start  (m : Nat) (x0 : Int) : dueZ.go  (m + 1) x0 =
  some ((.tup [(.agg [(.v (.int .i64 (0 : Int))), (.v (.int .i64 (0 : Int))), (.v (.int .i64 (0 : Int)))]), (.c (.v (.bool false)))]), []) := by kernel_rfl
theorem dueZ.run_eq  (m : Nat) (x0 : Int) : run (dueZ.cfg ) Try.f13.ntmps Try.f13.results.toList m [.code (bodyOf Try.f13)] (enterO (ivAO 0 dueZ.ps (x0, ())) (bxAO 0 dueZ.ps (x0, ()))) = dueZ.go  m x0 := by kernel_rfl
theorem dueZ.ret  (hs : SpecsOK Try.prog (dueZ.specs ))  (x0 : Int) {m : Nat} {r : IV} {b : List (Nat × Box)} (h : dueZ.go  m x0 = some (r, b)) : VE.ReturnsO Try.prog 13 (ivAO 0 dueZ.ps (x0, ())) (bxAO 0 dueZ.ps (x0, ())) r b :=
  returnsO_of_run (cfg := dueZ.cfg ) (cfgOK_of mixed tab_ok hs .nil) rfl Try.func13 (body_some (by kernel_rfl)) (Nat.le_of_ble_eq_true (by kernel_rfl)) (fun _ _ _ h => oids_mem h) ((dueZ.run_eq  m x0).trans h)
abbrev dueZ.Law : Prop := ∀ (x0 : Int), dueZ.pre (x0, ()) = true → VE.ReturnsO Try.prog 13 (ivAO 0 dueZ.ps (x0, ())) (bxAO 0 dueZ.ps (x0, ())) (dueZ.res (x0, ())) (dueZ.back (x0, ()))
theorem dueZ.mkR (H : ∀ (x0 : Int), dueZ.pre (x0, ()) = true → VE.ReturnsO Try.prog 13 (ivAO 0 dueZ.ps (x0, ())) (bxAO 0 dueZ.ps (x0, ())) (dueZ.res (x0, ())) (dueZ.back (x0, ()))) : SpecOKO Try.prog 13 dueZ.sp :=
  specO_ret Try.func13 (by kernel_rfl) (by kernel_rfl) fun (x : Int × Unit) hx => H (x.1) hx
theorem dueZ.mk  (hs : SpecsOK Try.prog (dueZ.specs ))  (H : ∀ (x0 : Int), dueZ.pre (x0, ()) = true → ∃ m, dueZ.go  m x0 = some (dueZ.res (x0, ()), dueZ.back (x0, ()))) : SpecOKO Try.prog 13 dueZ.sp :=
  dueZ.mkR fun x0 hx => (H x0 hx).elim fun _ hm => dueZ.ret  hs  x0 hm

/-! ### (*triage/clock.Clock).Go -/
abbrev goTo.ps : List AK := [.o 55 TClock [none, some 27], .d false (.int .i64)]
def goTo.pre : ElA goTo.ps → Bool := fun (x : (El TClock) × Int × Unit) => fits TClock (x.1) && (fits (.int .i64) (x.2.1) && (true))
def goTo.rv : ElA goTo.ps → List RV := fun (x : (El TClock) × Int × Unit) => [.d ((fun c to => vb (goB c to)) x.1 x.2.1)]
def goTo.res : ElA goTo.ps → IV := fun x => oneOrTup (rvIVs 0 (goTo.rv x))
def goTo.back : ElA goTo.ps → List (Nat × Box) := fun (x : (El TClock) × Int × Unit) => rvBxs 0 (goTo.rv x) ++ objBx 0 55 TClock [none, some 27] ((fun c to => goC c to) x.1 x.2.1)
def goTo.sp : OSpec := spO goTo.ps goTo.pre goTo.res goTo.back
abbrev goTo.OK : Prop := SpecOKO Try.prog 14 goTo.sp
noncomputable def goTo.body : Code := bodyOf Try.f14
noncomputable def goTo.rs : List ResultVar := Try.f14.results.toList
def goTo.live : List (Nat × Live) := []
noncomputable def goTo.specs  : List (Nat × (List Bool × ISpec)) := []
noncomputable def goTo.ospecs  : List (Nat × OS) := []
noncomputable def goTo.cfg  : Cfg := ⟨lkp tab, lkp (goTo.specs ), lkp goTo.live, ⟨lkp (goTo.ospecs ), oids 0 goTo.ps, some ([.plain], [(oid 0, [.plain, .arr 27 TTimer])]), false, []⟩⟩
noncomputable def goTo.go  (m : Nat) (x0 : (El TClock)) (x1 : Int) : R := run (goTo.cfg ) 42 goTo.rs m [.code goTo.body] (enterO (ivAO 0 goTo.ps (x0, x1, ())) (bxAO 0 goTo.ps (x0, x1, ())))
theorem goTo.start  (m : Nat) (x0 : (El TClock)) (x1 : Int) : goTo.go  (m + 1) x0 x1 =
  cond (decide (x1 < x0.1)) (
   some ((.c (.v (.bool false))), [(102526, (.cells 55 [(.v (.int .i64 x0.1)), (.sref 13251330)])), (13251330, (.arr 27 TTimer x0.2 false))])) (
   cond (decide (x1 > (4611686018427387904 : Int))) (
    some ((.c (.v (.bool false))), [(102526, (.cells 55 [(.v (.int .i64 x0.1)), (.sref 13251330)])), (13251330, (.arr 27 TTimer x0.2 false))])) (
    cond (decide (((List.length x0.2) : Int) > (0 : Int))) (
     test (decide ((0 : Int) < ((List.length x0.2) : Int))) (
      cond (decide (((rdEl TTimer x0.2 (Int.toNat (0 : Int)))).1 ≤ x1)) (
       some ((.c (.v (.bool false))), [(102526, (.cells 55 [(.v (.int .i64 x0.1)), (.sref 13251330)])), (13251330, (.arr 27 TTimer x0.2 false))])) (
       some ((.c (.v (.bool true))), [(102526, (.cells 55 [(.v (.int .i64 x1)), (.sref 13251330)])), (13251330, (.arr 27 TTimer x0.2 false))])))) (
     some ((.c (.v (.bool true))), [(102526, (.cells 55 [(.v (.int .i64 x1)), (.sref 13251330)])), (13251330, (.arr 27 TTimer x0.2 false))])))) := by kernel_rfl
theorem goTo.run_eq  (m : Nat) (x0 : (El TClock)) (x1 : Int) : run (goTo.cfg ) Try.f14.ntmps Try.f14.results.toList m [.code (bodyOf Try.f14)] (enterO (ivAO 0 goTo.ps (x0, x1, ())) (bxAO 0 goTo.ps (x0, x1, ()))) = goTo.go  m x0 x1 := by kernel_rfl
theorem goTo.ret  (hs : SpecsOK Try.prog (goTo.specs ))  (x0 : (El TClock)) (x1 : Int) {m : Nat} {r : IV} {b : List (Nat × Box)} (h : goTo.go  m x0 x1 = some (r, b)) : VE.ReturnsO Try.prog 14 (ivAO 0 goTo.ps (x0, x1, ())) (bxAO 0 goTo.ps (x0, x1, ())) r b :=
  returnsO_of_run (cfg := goTo.cfg ) (cfgOK_of mixed tab_ok hs .nil) rfl Try.func14 (body_some (by kernel_rfl)) (Nat.le_of_ble_eq_true (by kernel_rfl)) (fun _ _ _ h => oids_mem h) ((goTo.run_eq  m x0 x1).trans h)
abbrev goTo.Law : Prop := ∀ (x0 : (El TClock)) (x1 : Int), goTo.pre (x0, x1, ()) = true → VE.ReturnsO Try.prog 14 (ivAO 0 goTo.ps (x0, x1, ())) (bxAO 0 goTo.ps (x0, x1, ())) (goTo.res (x0, x1, ())) (goTo.back (x0, x1, ()))
theorem goTo.mkR (H : ∀ (x0 : (El TClock)) (x1 : Int), goTo.pre (x0, x1, ()) = true → VE.ReturnsO Try.prog 14 (ivAO 0 goTo.ps (x0, x1, ())) (bxAO 0 goTo.ps (x0, x1, ())) (goTo.res (x0, x1, ())) (goTo.back (x0, x1, ()))) : SpecOKO Try.prog 14 goTo.sp :=
  specO_ret Try.func14 (by kernel_rfl) (by kernel_rfl) fun (x : (El TClock) × Int × Unit) hx => H (x.1) (x.2.1) hx
theorem goTo.mk  (hs : SpecsOK Try.prog (goTo.specs ))  (H : ∀ (x0 : (El TClock)) (x1 : Int), goTo.pre (x0, x1, ()) = true → ∃ m, goTo.go  m x0 x1 = some (goTo.res (x0, x1, ()), goTo.back (x0, x1, ()))) : SpecOKO Try.prog 14 goTo.sp :=
  goTo.mkR fun x0 x1 hx => (H x0 x1 hx).elim fun _ hm => goTo.ret  hs  x0 x1 hm

/-! ### (*triage/clock.Clock).Go -/
abbrev goToZ.ps : List AK := [.z, .d false (.int .i64)]
def goToZ.pre : ElA goToZ.ps → Bool := fun (x : Int × Unit) => fits (.int .i64) (x.1) && (true)
def goToZ.rv : ElA goToZ.ps → List RV := fun (x : Int × Unit) => [.d ((fun _ => vb false) x.1)]
def goToZ.res : ElA goToZ.ps → IV := fun x => oneOrTup (rvIVs 0 (goToZ.rv x))
def goToZ.back : ElA goToZ.ps → List (Nat × Box) := fun (x : Int × Unit) => rvBxs 0 (goToZ.rv x)
def goToZ.sp : OSpec := spO goToZ.ps goToZ.pre goToZ.res goToZ.back
abbrev goToZ.OK : Prop := SpecOKO Try.prog 14 goToZ.sp
noncomputable def goToZ.body : Code := bodyOf Try.f14
noncomputable def goToZ.rs : List ResultVar := Try.f14.results.toList
def goToZ.live : List (Nat × Live) := []
noncomputable def goToZ.specs  : List (Nat × (List Bool × ISpec)) := []
noncomputable def goToZ.ospecs  : List (Nat × OS) := []
noncomputable def goToZ.cfg  : Cfg := ⟨lkp tab, lkp (goToZ.specs ), lkp goToZ.live, ⟨lkp (goToZ.ospecs ), oids 0 goToZ.ps, some ([.plain], []), false, []⟩⟩
noncomputable def goToZ.go  (m : Nat) (x0 : Int) : R := run (goToZ.cfg ) 42 goToZ.rs m [.code goToZ.body] (enterO (ivAO 0 goToZ.ps (x0, ())) (bxAO 0 goToZ.ps (x0, ())))
theorem goToZ.start  (m : Nat) (x0 : Int) : goToZ.go  (m + 1) x0 =
  some ((.c (.v (.bool false))), []) := by kernel_rfl
theorem goToZ.run_eq  (m : Nat) (x0 : Int) : run (goToZ.cfg ) Try.f14.ntmps Try.f14.results.toList m [.code (bodyOf Try.f14)] (enterO (ivAO 0 goToZ.ps (x0, ())) (bxAO 0 goToZ.ps (x0, ()))) = goToZ.go  m x0 := by kernel_rfl
theorem goToZ.ret  (hs : SpecsOK Try.prog (goToZ.specs ))  (x0 : Int) {m : Nat} {r : IV} {b : List (Nat × Box)} (h : goToZ.go  m x0 = some (r, b)) : VE.ReturnsO Try.prog 14 (ivAO 0 goToZ.ps (x0, ())) (bxAO 0 goToZ.ps (x0, ())) r b :=
  returnsO_of_run (cfg := goToZ.cfg ) (cfgOK_of mixed tab_ok hs .nil) rfl Try.func14 (body_some (by kernel_rfl)) (Nat.le_of_ble_eq_true (by kernel_rfl)) (fun _ _ _ h => oids_mem h) ((goToZ.run_eq  m x0).trans h)
abbrev goToZ.Law : Prop := ∀ (x0 : Int), goToZ.pre (x0, ()) = true → VE.ReturnsO Try.prog 14 (ivAO 0 goToZ.ps (x0, ())) (bxAO 0 goToZ.ps (x0, ())) (goToZ.res (x0, ())) (goToZ.back (x0, ()))
theorem goToZ.mkR (H : ∀ (x0 : Int), goToZ.pre (x0, ()) = true → VE.ReturnsO Try.prog 14 (ivAO 0 goToZ.ps (x0, ())) (bxAO 0 goToZ.ps (x0, ())) (goToZ.res (x0, ())) (goToZ.back (x0, ()))) : SpecOKO Try.prog 14 goToZ.sp :=
  specO_ret Try.func14 (by kernel_rfl) (by kernel_rfl) fun (x : Int × Unit) hx => H (x.1) hx
theorem goToZ.mk  (hs : SpecsOK Try.prog (goToZ.specs ))  (H : ∀ (x0 : Int), goToZ.pre (x0, ()) = true → ∃ m, goToZ.go  m x0 = some (goToZ.res (x0, ()), goToZ.back (x0, ()))) : SpecOKO Try.prog 14 goToZ.sp :=
  goToZ.mkR fun x0 hx => (H x0 hx).elim fun _ hm => goToZ.ret  hs  x0 hm

/-! ### (*triage/clock.Clock).All -/
abbrev allT.ps : List AK := [.o 55 TClock [none, some 27]]
def allT.pre : ElA allT.ps → Bool := fun (x : (El TClock) × Unit) => fits TClock (x.1) && (true)
def allT.rv : ElA allT.ps → List RV := fun (x : (El TClock) × Unit) => [.d ((fun c => .c (.sl TTimer c.2)) x.1)]
def allT.res : ElA allT.ps → IV := fun x => oneOrTup (rvIVs 0 (allT.rv x))
def allT.back : ElA allT.ps → List (Nat × Box) := fun (x : (El TClock) × Unit) => rvBxs 0 (allT.rv x) ++ objBx 0 55 TClock [none, some 27] ((fun c => c) x.1)
def allT.sp : OSpec := spO allT.ps allT.pre allT.res allT.back
abbrev allT.OK : Prop := SpecOKO Try.prog 15 allT.sp
noncomputable def allT.body : Code := bodyOf Try.f15
noncomputable def allT.rs : List ResultVar := Try.f15.results.toList
def allT.live : List (Nat × Live) := []
noncomputable def allT.specs  : List (Nat × (List Bool × ISpec)) := []
noncomputable def allT.ospecs  : List (Nat × OS) := [(29, ⟨[], [], cloneO.sp⟩)]
noncomputable def allT.cfg  : Cfg := ⟨lkp tab, lkp (allT.specs ), lkp allT.live, ⟨lkp (allT.ospecs ), oids 0 allT.ps, some ([.sl TTimer], [(oid 0, [.plain, .arr 27 TTimer])]), false, []⟩⟩
noncomputable def allT.go  (m : Nat) (x0 : (El TClock)) : R := run (allT.cfg ) 10 allT.rs m [.code allT.body] (enterO (ivAO 0 allT.ps (x0, ())) (bxAO 0 allT.ps (x0, ())))
theorem allT.start  (m : Nat) (x0 : (El TClock)) : allT.go  (m + 1) x0 =
  test (cloneO.pre (x0.2, Unit.unit)) (
   some ((.c (.sl TTimer x0.2)), [(102526, (.cells 55 [(.v (.int .i64 x0.1)), (.sref 13251330)])), (13251330, (.arr 27 TTimer x0.2 false))])) := by kernel_rfl
theorem allT.run_eq  (m : Nat) (x0 : (El TClock)) : run (allT.cfg ) Try.f15.ntmps Try.f15.results.toList m [.code (bodyOf Try.f15)] (enterO (ivAO 0 allT.ps (x0, ())) (bxAO 0 allT.ps (x0, ()))) = allT.go  m x0 := by kernel_rfl
theorem allT.ret  (hs : SpecsOK Try.prog (allT.specs )) (ho : OSpecsOK Try.prog (allT.ospecs )) (x0 : (El TClock)) {m : Nat} {r : IV} {b : List (Nat × Box)} (h : allT.go  m x0 = some (r, b)) : VE.ReturnsO Try.prog 15 (ivAO 0 allT.ps (x0, ())) (bxAO 0 allT.ps (x0, ())) r b :=
  returnsO_of_run (cfg := allT.cfg ) (cfgOK_of mixed tab_ok hs ho) rfl Try.func15 (body_some (by kernel_rfl)) (Nat.le_of_ble_eq_true (by kernel_rfl)) (fun _ _ _ h => oids_mem h) ((allT.run_eq  m x0).trans h)
abbrev allT.Law : Prop := ∀ (x0 : (El TClock)), allT.pre (x0, ()) = true → VE.ReturnsO Try.prog 15 (ivAO 0 allT.ps (x0, ())) (bxAO 0 allT.ps (x0, ())) (allT.res (x0, ())) (allT.back (x0, ()))
theorem allT.mkR (H : ∀ (x0 : (El TClock)), allT.pre (x0, ()) = true → VE.ReturnsO Try.prog 15 (ivAO 0 allT.ps (x0, ())) (bxAO 0 allT.ps (x0, ())) (allT.res (x0, ())) (allT.back (x0, ()))) : SpecOKO Try.prog 15 allT.sp :=
  specO_ret Try.func15 (by kernel_rfl) (by kernel_rfl) fun (x : (El TClock) × Unit) hx => H (x.1) hx
theorem allT.mk  (hs : SpecsOK Try.prog (allT.specs )) (ho : OSpecsOK Try.prog (allT.ospecs )) (H : ∀ (x0 : (El TClock)), allT.pre (x0, ()) = true → ∃ m, allT.go  m x0 = some (allT.res (x0, ()), allT.back (x0, ()))) : SpecOKO Try.prog 15 allT.sp :=
  allT.mkR fun x0 hx => (H x0 hx).elim fun _ hm => allT.ret  hs ho x0 hm

/-! ### (*triage/clock.Clock).All -/
abbrev allTZ.ps : List AK := [.z]
def allTZ.pre : ElA allTZ.ps → Bool := fun (x : Unit) => true
def allTZ.rv : ElA allTZ.ps → List RV := fun (x : Unit) => [.d ((.c (.sl TTimer [])) )]
def allTZ.res : ElA allTZ.ps → IV := fun x => oneOrTup (rvIVs 0 (allTZ.rv x))
def allTZ.back : ElA allTZ.ps → List (Nat × Box) := fun (x : Unit) => rvBxs 0 (allTZ.rv x)
def allTZ.sp : OSpec := spO allTZ.ps allTZ.pre allTZ.res allTZ.back
abbrev allTZ.OK : Prop := SpecOKO Try.prog 15 allTZ.sp
noncomputable def allTZ.body : Code := bodyOf Try.f15
noncomputable def allTZ.rs : List ResultVar := Try.f15.results.toList
def allTZ.live : List (Nat × Live) := []
noncomputable def allTZ.specs  : List (Nat × (List Bool × ISpec)) := []
noncomputable def allTZ.ospecs  : List (Nat × OS) := []
noncomputable def allTZ.cfg  : Cfg := ⟨lkp tab, lkp (allTZ.specs ), lkp allTZ.live, ⟨lkp (allTZ.ospecs ), oids 0 allTZ.ps, some ([.sl TTimer], []), false, []⟩⟩
noncomputable def allTZ.go  (m : Nat)  : R := run (allTZ.cfg ) 10 allTZ.rs m [.code allTZ.body] (enterO (ivAO 0 allTZ.ps ()) (bxAO 0 allTZ.ps ()))
theorem allTZ.start  (m : Nat)  : allTZ.go  (m + 1)  =
  some ((.c (.sl TTimer ([] : List (El TTimer)))), []) := by kernel_rfl
theorem allTZ.run_eq  (m : Nat)  : run (allTZ.cfg ) Try.f15.ntmps Try.f15.results.toList m [.code (bodyOf Try.f15)] (enterO (ivAO 0 allTZ.ps ()) (bxAO 0 allTZ.ps ())) = allTZ.go  m  := by kernel_rfl
theorem allTZ.ret  (hs : SpecsOK Try.prog (allTZ.specs ))   {m : Nat} {r : IV} {b : List (Nat × Box)} (h : allTZ.go  m  = some (r, b)) : VE.ReturnsO Try.prog 15 (ivAO 0 allTZ.ps ()) (bxAO 0 allTZ.ps ()) r b :=
  returnsO_of_run (cfg := allTZ.cfg ) (cfgOK_of mixed tab_ok hs .nil) rfl Try.func15 (body_some (by kernel_rfl)) (Nat.le_of_ble_eq_true (by kernel_rfl)) (fun _ _ _ h => oids_mem h) ((allTZ.run_eq  m ).trans h)
abbrev allTZ.Law : Prop := ∀ (_ : Unit), allTZ.pre () = true → VE.ReturnsO Try.prog 15 (ivAO 0 allTZ.ps ()) (bxAO 0 allTZ.ps ()) (allTZ.res ()) (allTZ.back ())
theorem allTZ.mkR (H : ∀ (_ : Unit), allTZ.pre () = true → VE.ReturnsO Try.prog 15 (ivAO 0 allTZ.ps ()) (bxAO 0 allTZ.ps ()) (allTZ.res ()) (allTZ.back ())) : SpecOKO Try.prog 15 allTZ.sp :=
  specO_ret Try.func15 (by kernel_rfl) (by kernel_rfl) fun (x : Unit) hx => H () hx
theorem allTZ.mk  (hs : SpecsOK Try.prog (allTZ.specs ))  (H : ∀ (_ : Unit), allTZ.pre () = true → ∃ m, allTZ.go  m  = some (allTZ.res (), allTZ.back ())) : SpecOKO Try.prog 15 allTZ.sp :=
  allTZ.mkR fun _ hx => (H () hx).elim fun _ hm => allTZ.ret  hs   hm

/-! ### triage/triagelaw9.awake -/
abbrev awake.ps : List AK := []
def awake.pre : ElA awake.ps → Bool := fun (x : Unit) => true
def awake.res : ElA awake.ps → IV := fun (x : Unit) => (vb true) 
def awake.sp : ISpec := spOf awake.ps awake.pre awake.res
abbrev awake.OK : Prop := SpecOK Try.prog 9 awake.sp
noncomputable def awake.body : Code := bodyOf Try.f9
noncomputable def awake.rs : List ResultVar := Try.f9.results.toList
def awake.live : List (Nat × Live) := []
noncomputable def awake.specs  : List (Nat × (List Bool × ISpec)) := [(11, ([], now.sp))]
noncomputable def awake.ospecs  : List (Nat × OS) := [(10, ⟨[], [], new.sp⟩), (12, ⟨[some (.obj [.plain, .arr 27 TTimer])], [], put.sp⟩), (13, ⟨[some (.obj [.plain, .arr 27 TTimer])], [], due.sp⟩), (15, ⟨[some (.obj [.plain, .arr 27 TTimer])], [], allT.sp⟩), (14, ⟨[some (.obj [.plain, .arr 27 TTimer])], [], goTo.sp⟩)]
noncomputable def awake.cfg  : Cfg := ⟨lkp tab, lkp (awake.specs ), lkp awake.live, ⟨lkp (awake.ospecs ), [], none, false, []⟩⟩
noncomputable def awake.go  (m : Nat)  : R := run (awake.cfg ) 46 awake.rs m [.code awake.body] (enter (ivA awake.ps ()))
theorem awake.start  (m : Nat)  : awake.go  (m + 1)  =
  some ((.c (.v (.bool (Bool.not (goB ((nextC ((setC ((setC ((timeC (0 : Int)), ([] : List (El TTimer))) ((5 : Int), ((2 : Int), (1 : Int))))) ((5 : Int), ((1 : Int), (9 : Int))))) (9 : Int))) (9 : Int)))))), []) := by kernel_rfl
theorem awake.run_eq  (m : Nat)  : run (awake.cfg ) Try.f9.ntmps Try.f9.results.toList m [.code (bodyOf Try.f9)] (enter (ivA awake.ps ())) = awake.go  m  := by kernel_rfl
theorem awake.ret  (hs : SpecsOK Try.prog (awake.specs )) (ho : OSpecsOK Try.prog (awake.ospecs ))  {m : Nat} {r : IV} (h : awake.go  m  = some (r, [])) : VE.Returns Try.prog 9 (ivA awake.ps ()) r :=
  returns_of_run (cfg := awake.cfg ) (cfgOK_of mixed tab_ok hs ho) rfl Try.func9 (body_some (by kernel_rfl)) (Nat.le_of_ble_eq_true (by kernel_rfl)) ((awake.run_eq  m ).trans h)
abbrev awake.Law : Prop := ∀ (_ : Unit), awake.pre () = true → VE.Returns Try.prog 9 (ivA awake.ps ()) (awake.res ())
theorem awake.mkR (H : ∀ (_ : Unit), awake.pre () = true → VE.Returns Try.prog 9 (ivA awake.ps ()) (awake.res ())) : SpecOK Try.prog 9 awake.sp :=
  specOf_ret Try.func9 (by kernel_rfl) (by kernel_rfl) fun (x : Unit) hx => H () hx
theorem awake.mk  (hs : SpecsOK Try.prog (awake.specs )) (ho : OSpecsOK Try.prog (awake.ospecs )) (H : ∀ (_ : Unit), awake.pre () = true → ∃ m, awake.go  m  = some (awake.res (), [])) : SpecOK Try.prog 9 awake.sp :=
  awake.mkR fun _ hx => (H () hx).elim fun _ hm => awake.ret  hs ho  hm

end Go.Proofs.Ythlbiibholhkmaa
