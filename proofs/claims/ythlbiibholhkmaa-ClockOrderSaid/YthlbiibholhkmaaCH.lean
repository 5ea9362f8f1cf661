/-
  Steps of the bodies, from checkpoint to checkpoint (printed by wip/VE/mk2.py).
-/
import Derived.Test.YthlbiibholhkmaaCF
namespace Go.Proofs.Ythlbiibholhkmaa
open Go VE

/-! ### triage/triageref1.NewClock -/
abbrev newR.ps : List AK := [.d false (.int .i64)]
def newR.pre : ElA newR.ps → Bool := fun (x : Int × Unit) => fits (.int .i64) (x.1) && (true)
def newR.rv : ElA newR.ps → List RV := fun (x : Int × Unit) => [.o 45 TClock [none, some 27] ((fun n => (timeC n, [])) x.1)]
def newR.res : ElA newR.ps → IV := fun x => oneOrTup (rvIVs 0 (newR.rv x))
def newR.back : ElA newR.ps → List (Nat × Box) := fun (x : Int × Unit) => rvBxs 0 (newR.rv x)
def newR.sp : OSpec := spO newR.ps newR.pre newR.res newR.back
abbrev newR.OK : Prop := SpecOKO Try.prog 16 newR.sp
noncomputable def newR.body : Code := bodyOf Try.f16
noncomputable def newR.rs : List ResultVar := Try.f16.results.toList
def newR.live : List (Nat × Live) := []
noncomputable def newR.specs  : List (Nat × (List Bool × ISpec)) := []
noncomputable def newR.ospecs  : List (Nat × OS) := []
noncomputable def newR.cfg  : Cfg := ⟨lkp tab, lkp (newR.specs ), lkp newR.live, ⟨lkp (newR.ospecs ), oids 0 newR.ps, some ([.obj [.plain, .arr 27 TTimer]], []), false, []⟩⟩
noncomputable def newR.go  (m : Nat) (x0 : Int) : R := run (newR.cfg ) 8 newR.rs m [.code newR.body] (enterO (ivAO 0 newR.ps (x0, ())) (bxAO 0 newR.ps (x0, ())))
theorem newR.start  (m : Nat) (x0 : Int) : newR.go  (m + 1) x0 =
  some ((.c (.ref 115326 0)), [(115326, (.cells 45 [(.v (.int .i64 (ite ((ite ((4611686018427387904 : Int) < x0) (4611686018427387904 : Int) x0) > (0 : Int)) (ite ((4611686018427387904 : Int) < x0) (4611686018427387904 : Int) x0) (0 : Int)))), (.sref 14889730)])), (14889730, (.arr 27 TTimer ([] : List (El TTimer)) false))]) := by kernel_rfl
theorem newR.run_eq  (m : Nat) (x0 : Int) : run (newR.cfg ) Try.f16.ntmps Try.f16.results.toList m [.code (bodyOf Try.f16)] (enterO (ivAO 0 newR.ps (x0, ())) (bxAO 0 newR.ps (x0, ()))) = newR.go  m x0 := by kernel_rfl
theorem newR.ret  (hs : SpecsOK Try.prog (newR.specs ))  (x0 : Int) {m : Nat} {r : IV} {b : List (Nat × Box)} (h : newR.go  m x0 = some (r, b)) : VE.ReturnsO Try.prog 16 (ivAO 0 newR.ps (x0, ())) (bxAO 0 newR.ps (x0, ())) r b :=
  returnsO_of_run (cfg := newR.cfg ) (cfgOK_of mixed tab_ok hs .nil) rfl Try.func16 (body_some (by kernel_rfl)) (Nat.le_of_ble_eq_true (by kernel_rfl)) (fun _ _ _ h => oids_mem h) ((newR.run_eq  m x0).trans h)
abbrev newR.Law : Prop := ∀ (x0 : Int), newR.pre (x0, ()) = true → VE.ReturnsO Try.prog 16 (ivAO 0 newR.ps (x0, ())) (bxAO 0 newR.ps (x0, ())) (newR.res (x0, ())) (newR.back (x0, ()))
theorem newR.mkR (H : ∀ (x0 : Int), newR.pre (x0, ()) = true → VE.ReturnsO Try.prog 16 (ivAO 0 newR.ps (x0, ())) (bxAO 0 newR.ps (x0, ())) (newR.res (x0, ())) (newR.back (x0, ()))) : SpecOKO Try.prog 16 newR.sp :=
  specO_ret Try.func16 (by kernel_rfl) (by kernel_rfl) fun (x : Int × Unit) hx => H (x.1) hx
theorem newR.mk  (hs : SpecsOK Try.prog (newR.specs ))  (H : ∀ (x0 : Int), newR.pre (x0, ()) = true → ∃ m, newR.go  m x0 = some (newR.res (x0, ()), newR.back (x0, ()))) : SpecOKO Try.prog 16 newR.sp :=
  newR.mkR fun x0 hx => (H x0 hx).elim fun _ hm => newR.ret  hs  x0 hm

/-! ### triage/triageref1.ahead -/
abbrev aheadR.ps : List AK := [.d true TTimer, .d true TTimer]
def aheadR.pre : ElA aheadR.ps → Bool := fun (x : (El TTimer) × (El TTimer) × Unit) => fits TTimer (x.1) && (fits TTimer (x.2.1) && (true))
def aheadR.res : ElA aheadR.ps → IV := fun (x : (El TTimer) × (El TTimer) × Unit) => (fun a b => vb (ltT a b)) x.1 x.2.1
def aheadR.sp : ISpec := spOf aheadR.ps aheadR.pre aheadR.res
abbrev aheadR.OK : Prop := SpecOK Try.prog 30 aheadR.sp
noncomputable def aheadR.body : Code := bodyOf Try.f30
noncomputable def aheadR.rs : List ResultVar := Try.f30.results.toList
def aheadR.live : List (Nat × Live) := []
noncomputable def aheadR.specs  : List (Nat × (List Bool × ISpec)) := []
noncomputable def aheadR.ospecs  : List (Nat × OS) := []
noncomputable def aheadR.cfg  : Cfg := ⟨lkp tab, lkp (aheadR.specs ), lkp aheadR.live, ⟨lkp (aheadR.ospecs ), [], none, false, []⟩⟩
noncomputable def aheadR.go  (m : Nat) (x0 : (El TTimer)) (x1 : (El TTimer)) : R := run (aheadR.cfg ) 38 aheadR.rs m [.code aheadR.body] (enter (ivA aheadR.ps (x0, x1, ())))
theorem aheadR.start  (m : Nat) (x0 : (El TTimer)) (x1 : (El TTimer)) : aheadR.go  (m + 1) x0 x1 =
  cond (decide (x0.1 < x1.1)) (
   some ((.c (.v (.bool true))), [])) (
   cond (x0.1 == x1.1) (
    cond (decide (x0.2.1 < x1.2.1)) (
     some ((.c (.v (.bool true))), [])) (
     cond (x0.2.1 == x1.2.1) (
      some ((.c (.v (.bool (decide (x0.2.2 < x1.2.2))))), [])) (
      some ((.c (.v (.bool false))), [])))) (
    some ((.c (.v (.bool false))), []))) := by kernel_rfl
theorem aheadR.run_eq  (m : Nat) (x0 : (El TTimer)) (x1 : (El TTimer)) : run (aheadR.cfg ) Try.f30.ntmps Try.f30.results.toList m [.code (bodyOf Try.f30)] (enter (ivA aheadR.ps (x0, x1, ()))) = aheadR.go  m x0 x1 := by kernel_rfl
theorem aheadR.ret  (hs : SpecsOK Try.prog (aheadR.specs ))  (x0 : (El TTimer)) (x1 : (El TTimer)) {m : Nat} {r : IV} (h : aheadR.go  m x0 x1 = some (r, [])) : VE.Returns Try.prog 30 (ivA aheadR.ps (x0, x1, ())) r :=
  returns_of_run (cfg := aheadR.cfg ) (cfgOK_of mixed tab_ok hs .nil) rfl Try.func30 (body_some (by kernel_rfl)) (Nat.le_of_ble_eq_true (by kernel_rfl)) ((aheadR.run_eq  m x0 x1).trans h)
abbrev aheadR.Law : Prop := ∀ (x0 : (El TTimer)) (x1 : (El TTimer)), aheadR.pre (x0, x1, ()) = true → VE.Returns Try.prog 30 (ivA aheadR.ps (x0, x1, ())) (aheadR.res (x0, x1, ()))
theorem aheadR.mkR (H : ∀ (x0 : (El TTimer)) (x1 : (El TTimer)), aheadR.pre (x0, x1, ()) = true → VE.Returns Try.prog 30 (ivA aheadR.ps (x0, x1, ())) (aheadR.res (x0, x1, ()))) : SpecOK Try.prog 30 aheadR.sp :=
  specOf_ret Try.func30 (by kernel_rfl) (by kernel_rfl) fun (x : (El TTimer) × (El TTimer) × Unit) hx => H (x.1) (x.2.1) hx
theorem aheadR.mk  (hs : SpecsOK Try.prog (aheadR.specs ))  (H : ∀ (x0 : (El TTimer)) (x1 : (El TTimer)), aheadR.pre (x0, x1, ()) = true → ∃ m, aheadR.go  m x0 x1 = some (aheadR.res (x0, x1, ()), [])) : SpecOK Try.prog 30 aheadR.sp :=
  aheadR.mkR fun x0 x1 hx => (H x0 x1 hx).elim fun _ hm => aheadR.ret  hs  x0 x1 hm

/-! ### (*triage/triageref1.Clock).Cut -/
abbrev cutR.ps : List AK := [.o 45 TClock [none, some 27], .d false (.int .i64), .d false (.int .i64)]
def cutR.pre : ElA cutR.ps → Bool := fun (x : (El TClock) × Int × Int × Unit) => fits TClock (x.1) && (fits (.int .i64) (x.2.1) && (fits (.int .i64) (x.2.2.1) && (true)))
def cutR.rv : ElA cutR.ps → List RV := fun (x : (El TClock) × Int × Int × Unit) => [.d ((fun c k i => vb (cutRB c k i)) x.1 x.2.1 x.2.2.1)]
def cutR.res : ElA cutR.ps → IV := fun x => oneOrTup (rvIVs 0 (cutR.rv x))
def cutR.back : ElA cutR.ps → List (Nat × Box) := fun (x : (El TClock) × Int × Int × Unit) => rvBxs 0 (cutR.rv x) ++ objBx 0 45 TClock [none, some 27] ((fun c k i => cutRC c k i) x.1 x.2.1 x.2.2.1)
def cutR.sp : OSpec := spO cutR.ps cutR.pre cutR.res cutR.back
abbrev cutR.OK : Prop := SpecOKO Try.prog 19 cutR.sp
noncomputable def cutR.body : Code := bodyOf Try.f19
noncomputable def cutR.rs : List ResultVar := Try.f19.results.toList
def cutR.live : List (Nat × Live) := [(3, ⟨[(0, .plain), (1, .plain), (2, .plain), (7, .arr 27 TTimer), (14, .plain), (15, .plain), (16, .plain)], [(oid 0, [.plain, .arr 27 TTimer])]⟩)]
noncomputable def cutR.specs  : List (Nat × (List Bool × ISpec)) := []
noncomputable def cutR.ospecs  : List (Nat × OS) := []
noncomputable def cutR.cfg  : Cfg := ⟨lkp tab, lkp (cutR.specs ), lkp cutR.live, ⟨lkp (cutR.ospecs ), oids 0 cutR.ps, some ([.plain], [(oid 0, [.plain, .arr 27 TTimer])]), false, []⟩⟩
noncomputable def cutR.l1  (m : Nat) (x0 : Int) (x1 : Int) (x2 : Int) (x3 : Int) (x4 : List (El TTimer)) (x5 : Int) (x6 : List (El TTimer)) : R := run (cutR.cfg ) 48 cutR.rs m ((todoR 3 cutR.body []).getD []) ⟨ofList (.c .junk) [(0, (.c (.ref 102526 0))), (1, (.c (.v (.int .i64 x0)))), (2, (.c (.v (.int .i64 x1)))), (7, (.c (.sref 1022))), (14, (.c (.sref 13251330))), (15, (.c (.v (.int .i64 x2)))), (16, (.c (.v (.int .i64 x3))))], ofList none [(1022, some (.arr 27 TTimer x4 false)), (102526, some (.cells 45 [(.v (.int .i64 x5)), (.sref 13251330)])), (13251330, some (.arr 27 TTimer x6 false))], ofList false [(1022, true), (102526, true), (13251330, true)]⟩
noncomputable def cutR.go  (m : Nat) (x0 : (El TClock)) (x1 : Int) (x2 : Int) : R := run (cutR.cfg ) 48 cutR.rs m [.code cutR.body] (enterO (ivAO 0 cutR.ps (x0, x1, x2, ())) (bxAO 0 cutR.ps (x0, x1, x2, ())))
theorem cutR.start  (m : Nat) (x0 : (El TClock)) (x1 : Int) (x2 : Int) : cutR.go  (m + 1) x0 x1 x2 =
  cutR.l1  m x1 x2 ((List.length x0.2) : Int) (0 : Int) ([] : List (El TTimer)) x0.1 x0.2 := by kernel_rfl
theorem cutR.s1  (m : Nat) (x0 : Int) (x1 : Int) (x2 : Int) (x3 : Int) (x4 : List (El TTimer)) (x5 : Int) (x6 : List (El TTimer)) : cutR.l1  (m + 1) x0 x1 x2 x3 x4 x5 x6 =
  cond (decide (x3 < x2)) (
   test (decide ((0 : Int) ≤ x3)) (
    test (decide (x3 < ((List.length x6) : Int))) (
     cond (bne (((rdEl TTimer x6 (Int.toNat x3))).2).1 x0) (
      test (decide (((List.length x4) + (List.length (((rdEl TTimer x6 (Int.toNat x3))) :: ([] : List (El TTimer))))) ≤ (lim 24))) (
       cutR.l1  m x0 x1 x2 (IntKind.i64.wrap (x3 + (1 : Int))) (x4 ++ (((rdEl TTimer x6 (Int.toNat x3))) :: ([] : List (El TTimer)))) x5 x6)) (
      cond (bne (((rdEl TTimer x6 (Int.toNat x3))).2).2 x1) (
       test (decide (((List.length x4) + (List.length (((rdEl TTimer x6 (Int.toNat x3))) :: ([] : List (El TTimer))))) ≤ (lim 24))) (
        cutR.l1  m x0 x1 x2 (IntKind.i64.wrap (x3 + (1 : Int))) (x4 ++ (((rdEl TTimer x6 (Int.toNat x3))) :: ([] : List (El TTimer)))) x5 x6)) (
       cutR.l1  m x0 x1 x2 (IntKind.i64.wrap (x3 + (1 : Int))) x4 x5 x6))))) (
   some ((.c (.v (.bool (bne ((List.length x6) : Int) ((List.length x4) : Int))))), [(102526, (.cells 45 [(.v (.int .i64 x5)), (.sref 13251330)])), (13251330, (.arr 27 TTimer x4 false))])) := by kernel_rfl
theorem cutR.run_eq  (m : Nat) (x0 : (El TClock)) (x1 : Int) (x2 : Int) : run (cutR.cfg ) Try.f19.ntmps Try.f19.results.toList m [.code (bodyOf Try.f19)] (enterO (ivAO 0 cutR.ps (x0, x1, x2, ())) (bxAO 0 cutR.ps (x0, x1, x2, ()))) = cutR.go  m x0 x1 x2 := by kernel_rfl
theorem cutR.ret  (hs : SpecsOK Try.prog (cutR.specs ))  (x0 : (El TClock)) (x1 : Int) (x2 : Int) {m : Nat} {r : IV} {b : List (Nat × Box)} (h : cutR.go  m x0 x1 x2 = some (r, b)) : VE.ReturnsO Try.prog 19 (ivAO 0 cutR.ps (x0, x1, x2, ())) (bxAO 0 cutR.ps (x0, x1, x2, ())) r b :=
  returnsO_of_run (cfg := cutR.cfg ) (cfgOK_of mixed tab_ok hs .nil) rfl Try.func19 (body_some (by kernel_rfl)) (Nat.le_of_ble_eq_true (by kernel_rfl)) (fun _ _ _ h => oids_mem h) ((cutR.run_eq  m x0 x1 x2).trans h)
abbrev cutR.Law : Prop := ∀ (x0 : (El TClock)) (x1 : Int) (x2 : Int), cutR.pre (x0, x1, x2, ()) = true → VE.ReturnsO Try.prog 19 (ivAO 0 cutR.ps (x0, x1, x2, ())) (bxAO 0 cutR.ps (x0, x1, x2, ())) (cutR.res (x0, x1, x2, ())) (cutR.back (x0, x1, x2, ()))
theorem cutR.mkR (H : ∀ (x0 : (El TClock)) (x1 : Int) (x2 : Int), cutR.pre (x0, x1, x2, ()) = true → VE.ReturnsO Try.prog 19 (ivAO 0 cutR.ps (x0, x1, x2, ())) (bxAO 0 cutR.ps (x0, x1, x2, ())) (cutR.res (x0, x1, x2, ())) (cutR.back (x0, x1, x2, ()))) : SpecOKO Try.prog 19 cutR.sp :=
  specO_ret Try.func19 (by kernel_rfl) (by kernel_rfl) fun (x : (El TClock) × Int × Int × Unit) hx => H (x.1) (x.2.1) (x.2.2.1) hx
theorem cutR.mk  (hs : SpecsOK Try.prog (cutR.specs ))  (H : ∀ (x0 : (El TClock)) (x1 : Int) (x2 : Int), cutR.pre (x0, x1, x2, ()) = true → ∃ m, cutR.go  m x0 x1 x2 = some (cutR.res (x0, x1, x2, ()), cutR.back (x0, x1, x2, ()))) : SpecOKO Try.prog 19 cutR.sp :=
  cutR.mkR fun x0 x1 x2 hx => (H x0 x1 x2 hx).elim fun _ hm => cutR.ret  hs  x0 x1 x2 hm

/-! ### (*triage/triageref1.Clock).Set -/
abbrev putR.ps : List AK := [.o 45 TClock [none, some 27], .d true TTimer]
def putR.pre : ElA putR.ps → Bool := fun (x : (El TClock) × (El TTimer) × Unit) => fits TClock (x.1) && (fits TTimer (x.2.1) && (true))
def putR.rv : ElA putR.ps → List RV := fun (x : (El TClock) × (El TTimer) × Unit) => [.d ((fun c t => vb (setOk c t)) x.1 x.2.1)]
def putR.res : ElA putR.ps → IV := fun x => oneOrTup (rvIVs 0 (putR.rv x))
def putR.back : ElA putR.ps → List (Nat × Box) := fun (x : (El TClock) × (El TTimer) × Unit) => rvBxs 0 (putR.rv x) ++ objBx 0 45 TClock [none, some 27] ((fun c t => setRC c t) x.1 x.2.1)
def putR.sp : OSpec := spO putR.ps putR.pre putR.res putR.back
abbrev putR.OK : Prop := SpecOKO Try.prog 17 putR.sp
noncomputable def putR.body : Code := bodyOf Try.f17
noncomputable def putR.rs : List ResultVar := Try.f17.results.toList
def putR.live : List (Nat × Live) := [(5, ⟨[(0, .plain), (3, .plain), (5, .plain)], [(oid 0, [.plain, .arr 27 TTimer]), (1, [])]⟩)]
noncomputable def putR.specs  : List (Nat × (List Bool × ISpec)) := [(30, ([], aheadR.sp))]
noncomputable def putR.ospecs  : List (Nat × OS) := [(19, ⟨[some (.obj [.plain, .arr 27 TTimer])], [], cutR.sp⟩)]
noncomputable def putR.cfg  : Cfg := ⟨lkp tab, lkp (putR.specs ), lkp putR.live, ⟨lkp (putR.ospecs ), oids 0 putR.ps, some ([.plain], [(oid 0, [.plain, .arr 27 TTimer])]), true, []⟩⟩
noncomputable def putR.l1  (m : Nat) (x0 : Int) (x1 : Int) (x2 : List (El TTimer)) (x3 : Int) (x4 : Int) (x5 : Int) : R := run (putR.cfg ) 64 putR.rs m ((todoR 5 putR.body []).getD []) ⟨ofList (.c .junk) [(0, (.c (.ref 102526 0))), (3, (.c (.ref 1 0))), (5, (.c (.v (.int .i64 x0))))], ofList none [(102526, some (.cells 45 [(.v (.int .i64 x1)), (.sref 13251330)])), (13251330, some (.arr 27 TTimer x2 false)), (1, some (.cells 27 [(.v (.int .i64 x3)), (.v (.int .i64 x4)), (.v (.int .i64 x5))]))], ofList false [(102526, true), (13251330, true), (1, true)]⟩
noncomputable def putR.go  (m : Nat) (x0 : (El TClock)) (x1 : (El TTimer)) : R := run (putR.cfg ) 64 putR.rs m [.code putR.body] (enterO (ivAO 0 putR.ps (x0, x1, ())) (bxAO 0 putR.ps (x0, x1, ())))
theorem putR.start  (m : Nat) (x0 : (El TClock)) (x1 : (El TTimer)) : putR.go  (m + 1) x0 x1 =
  cond (decide (x1.1 < x0.1)) (
   some ((.c (.v (.bool false))), [(102526, (.cells 45 [(.v (.int .i64 x0.1)), (.sref 13251330)])), (13251330, (.arr 27 TTimer x0.2 false))])) (
   cond (decide (x1.1 > (4611686018427387904 : Int))) (
    some ((.c (.v (.bool false))), [(102526, (.cells 45 [(.v (.int .i64 x0.1)), (.sref 13251330)])), (13251330, (.arr 27 TTimer x0.2 false))])) (
    test (cutR.pre (x0, (x1.2.1, (x1.2.2, Unit.unit)))) (
     putR.l1  m (0 : Int) ((cutRC x0 x1.2.1 x1.2.2)).1 ((cutRC x0 x1.2.1 x1.2.2)).2 x1.1 x1.2.1 x1.2.2))) := by kernel_rfl
theorem putR.s1  (m : Nat) (x0 : Int) (x1 : Int) (x2 : List (El TTimer)) (x3 : Int) (x4 : Int) (x5 : Int) : putR.l1  (m + 1) x0 x1 x2 x3 x4 x5 =
  cond (decide (x0 < ((List.length x2) : Int))) (
   test (decide ((0 : Int) ≤ x0)) (
    test (decide (x0 < ((List.length x2) : Int))) (
     cond (ltT ((rdEl TTimer x2 (Int.toNat x0))) (x3, (x4, x5))) (
      putR.l1  m (IntKind.i64.wrap (x0 + (1 : Int))) x1 x2 x3 x4 x5) (
      test (decide ((0 : Int) ≤ x0)) (
       test (decide (x0 ≤ ((List.length x2) : Int))) (
        test (decide (((0 + 0) + ((Int.toNat x0) - 0)) ≤ (List.length x2))) (
         test (decide ((List.length (List.take ((Int.toNat x0) - 0) (List.drop (0 + 0) x2))) ≤ (lim 24))) (
          test (decide (((List.length (List.take ((Int.toNat x0) - 0) (List.drop (0 + 0) x2))) + (List.length ((x3, (x4, x5)) :: ([] : List (El TTimer))))) ≤ (lim 24))) (
           test (decide ((0 : Int) ≤ x0)) (
            test (decide (x0 ≤ ((List.length x2) : Int))) (
             test (decide (((0 + (Int.toNat x0)) + ((List.length x2) - (Int.toNat x0))) ≤ (List.length x2))) (
              test (decide (((List.length ((List.take ((Int.toNat x0) - 0) (List.drop (0 + 0) x2)) ++ ((x3, (x4, x5)) :: ([] : List (El TTimer))))) + (List.length (List.take ((List.length x2) - (Int.toNat x0)) (List.drop (0 + (Int.toNat x0)) x2)))) ≤ (lim 24))) (
               some ((.c (.v (.bool true))), [(102526, (.cells 45 [(.v (.int .i64 x1)), (.sref 13251330)])), (13251330, (.arr 27 TTimer (((List.take ((Int.toNat x0) - 0) (List.drop (0 + 0) x2)) ++ ((x3, (x4, x5)) :: ([] : List (El TTimer)))) ++ (List.take ((List.length x2) - (Int.toNat x0)) (List.drop (0 + (Int.toNat x0)) x2))) false))])))))))))))))) (
   test (decide ((0 : Int) ≤ x0)) (
    test (decide (x0 ≤ ((List.length x2) : Int))) (
     test (decide (((0 + 0) + ((Int.toNat x0) - 0)) ≤ (List.length x2))) (
      test (decide ((List.length (List.take ((Int.toNat x0) - 0) (List.drop (0 + 0) x2))) ≤ (lim 24))) (
       test (decide (((List.length (List.take ((Int.toNat x0) - 0) (List.drop (0 + 0) x2))) + (List.length ((x3, (x4, x5)) :: ([] : List (El TTimer))))) ≤ (lim 24))) (
        test (decide ((0 : Int) ≤ x0)) (
         test (decide (x0 ≤ ((List.length x2) : Int))) (
          test (decide (((0 + (Int.toNat x0)) + ((List.length x2) - (Int.toNat x0))) ≤ (List.length x2))) (
           test (decide (((List.length ((List.take ((Int.toNat x0) - 0) (List.drop (0 + 0) x2)) ++ ((x3, (x4, x5)) :: ([] : List (El TTimer))))) + (List.length (List.take ((List.length x2) - (Int.toNat x0)) (List.drop (0 + (Int.toNat x0)) x2)))) ≤ (lim 24))) (
            some ((.c (.v (.bool true))), [(102526, (.cells 45 [(.v (.int .i64 x1)), (.sref 13251330)])), (13251330, (.arr 27 TTimer (((List.take ((Int.toNat x0) - 0) (List.drop (0 + 0) x2)) ++ ((x3, (x4, x5)) :: ([] : List (El TTimer)))) ++ (List.take ((List.length x2) - (Int.toNat x0)) (List.drop (0 + (Int.toNat x0)) x2))) false))]))))))))))) := by kernel_rfl
theorem putR.run_eq  (m : Nat) (x0 : (El TClock)) (x1 : (El TTimer)) : run (putR.cfg ) Try.f17.ntmps Try.f17.results.toList m [.code (bodyOf Try.f17)] (enterO (ivAO 0 putR.ps (x0, x1, ())) (bxAO 0 putR.ps (x0, x1, ()))) = putR.go  m x0 x1 := by kernel_rfl
theorem putR.ret  (hs : SpecsOK Try.prog (putR.specs )) (ho : OSpecsOK Try.prog (putR.ospecs )) (x0 : (El TClock)) (x1 : (El TTimer)) {m : Nat} {r : IV} {b : List (Nat × Box)} (h : putR.go  m x0 x1 = some (r, b)) : VE.ReturnsO Try.prog 17 (ivAO 0 putR.ps (x0, x1, ())) (bxAO 0 putR.ps (x0, x1, ())) r b :=
  returnsO_of_run (cfg := putR.cfg ) (cfgOK_of mixed tab_ok hs ho) rfl Try.func17 (body_some (by kernel_rfl)) (Nat.le_of_ble_eq_true (by kernel_rfl)) (fun _ _ _ h => oids_mem h) ((putR.run_eq  m x0 x1).trans h)
abbrev putR.Law : Prop := ∀ (x0 : (El TClock)) (x1 : (El TTimer)), putR.pre (x0, x1, ()) = true → VE.ReturnsO Try.prog 17 (ivAO 0 putR.ps (x0, x1, ())) (bxAO 0 putR.ps (x0, x1, ())) (putR.res (x0, x1, ())) (putR.back (x0, x1, ()))
theorem putR.mkR (H : ∀ (x0 : (El TClock)) (x1 : (El TTimer)), putR.pre (x0, x1, ()) = true → VE.ReturnsO Try.prog 17 (ivAO 0 putR.ps (x0, x1, ())) (bxAO 0 putR.ps (x0, x1, ())) (putR.res (x0, x1, ())) (putR.back (x0, x1, ()))) : SpecOKO Try.prog 17 putR.sp :=
  specO_ret Try.func17 (by kernel_rfl) (by kernel_rfl) fun (x : (El TClock) × (El TTimer) × Unit) hx => H (x.1) (x.2.1) hx
theorem putR.mk  (hs : SpecsOK Try.prog (putR.specs )) (ho : OSpecsOK Try.prog (putR.ospecs )) (H : ∀ (x0 : (El TClock)) (x1 : (El TTimer)), putR.pre (x0, x1, ()) = true → ∃ m, putR.go  m x0 x1 = some (putR.res (x0, x1, ()), putR.back (x0, x1, ()))) : SpecOKO Try.prog 17 putR.sp :=
  putR.mkR fun x0 x1 hx => (H x0 x1 hx).elim fun _ hm => putR.ret  hs ho x0 x1 hm

/-! ### (*triage/triageref1.Clock).At -/
abbrev whenR.ps : List AK := [.p TClock, .d false (.int .i64), .d false (.int .i64)]
def whenR.pre : ElA whenR.ps → Bool := fun (x : (El TClock) × Int × Int × Unit) => fits TClock (x.1) && (fits (.int .i64) (x.2.1) && (fits (.int .i64) (x.2.2.1) && (true)))
def whenR.res : ElA whenR.ps → IV := fun (x : (El TClock) × Int × Int × Unit) => (fun c k i => .tup [vi .i64 (atRI c k i), vb (List.any c.2 (keyK k i))]) x.1 x.2.1 x.2.2.1
def whenR.sp : ISpec := spOf whenR.ps whenR.pre whenR.res
abbrev whenR.OK : Prop := SpecOK Try.prog 23 whenR.sp
noncomputable def whenR.body : Code := bodyOf Try.f23
noncomputable def whenR.rs : List ResultVar := Try.f23.results.toList
def whenR.live : List (Nat × Live) := [(2, ⟨[(1, .plain), (2, .plain), (13, .sl TTimer), (14, .plain), (15, .plain)], []⟩)]
noncomputable def whenR.specs  : List (Nat × (List Bool × ISpec)) := []
noncomputable def whenR.ospecs  : List (Nat × OS) := []
noncomputable def whenR.cfg  : Cfg := ⟨lkp tab, lkp (whenR.specs ), lkp whenR.live, ⟨lkp (whenR.ospecs ), [], none, false, []⟩⟩
noncomputable def whenR.l1  (m : Nat) (x0 : Int) (x1 : Int) (x2 : List (El TTimer)) (x3 : Int) (x4 : Int) : R := run (whenR.cfg ) 32 whenR.rs m ((todoR 2 whenR.body []).getD []) ⟨ofList (.c .junk) [(1, (.c (.v (.int .i64 x0)))), (2, (.c (.v (.int .i64 x1)))), (13, (.c (.sl TTimer x2))), (14, (.c (.v (.int .i64 x3)))), (15, (.c (.v (.int .i64 x4))))], ofList none [], ofList false []⟩
noncomputable def whenR.go  (m : Nat) (x0 : (El TClock)) (x1 : Int) (x2 : Int) : R := run (whenR.cfg ) 32 whenR.rs m [.code whenR.body] (enter (ivA whenR.ps (x0, x1, x2, ())))
theorem whenR.start  (m : Nat) (x0 : (El TClock)) (x1 : Int) (x2 : Int) : whenR.go  (m + 1) x0 x1 x2 =
  whenR.l1  m x1 x2 x0.2 ((List.length x0.2) : Int) (0 : Int) := by kernel_rfl
theorem whenR.s1  (m : Nat) (x0 : Int) (x1 : Int) (x2 : List (El TTimer)) (x3 : Int) (x4 : Int) : whenR.l1  (m + 1) x0 x1 x2 x3 x4 =
  cond (decide (x4 < x3)) (
   test (decide ((0 : Int) ≤ x4)) (
    test (decide (x4 < ((List.length x2) : Int))) (
     cond ((((rdEl TTimer x2 (Int.toNat x4))).2).1 == x0) (
      cond ((((rdEl TTimer x2 (Int.toNat x4))).2).2 == x1) (
       some ((.tup [(.c (.v (.int .i64 ((rdEl TTimer x2 (Int.toNat x4))).1))), (.c (.v (.bool true)))]), [])) (
       whenR.l1  m x0 x1 x2 x3 (IntKind.i64.wrap (x4 + (1 : Int))))) (
      whenR.l1  m x0 x1 x2 x3 (IntKind.i64.wrap (x4 + (1 : Int))))))) (
   some ((.tup [(.c (.v (.int .i64 (0 : Int)))), (.c (.v (.bool false)))]), [])) := by kernel_rfl
theorem whenR.run_eq  (m : Nat) (x0 : (El TClock)) (x1 : Int) (x2 : Int) : run (whenR.cfg ) Try.f23.ntmps Try.f23.results.toList m [.code (bodyOf Try.f23)] (enter (ivA whenR.ps (x0, x1, x2, ()))) = whenR.go  m x0 x1 x2 := by kernel_rfl
theorem whenR.ret  (hs : SpecsOK Try.prog (whenR.specs ))  (x0 : (El TClock)) (x1 : Int) (x2 : Int) {m : Nat} {r : IV} (h : whenR.go  m x0 x1 x2 = some (r, [])) : VE.Returns Try.prog 23 (ivA whenR.ps (x0, x1, x2, ())) r :=
  returns_of_run (cfg := whenR.cfg ) (cfgOK_of mixed tab_ok hs .nil) rfl Try.func23 (body_some (by kernel_rfl)) (Nat.le_of_ble_eq_true (by kernel_rfl)) ((whenR.run_eq  m x0 x1 x2).trans h)
abbrev whenR.Law : Prop := ∀ (x0 : (El TClock)) (x1 : Int) (x2 : Int), whenR.pre (x0, x1, x2, ()) = true → VE.Returns Try.prog 23 (ivA whenR.ps (x0, x1, x2, ())) (whenR.res (x0, x1, x2, ()))
theorem whenR.mkR (H : ∀ (x0 : (El TClock)) (x1 : Int) (x2 : Int), whenR.pre (x0, x1, x2, ()) = true → VE.Returns Try.prog 23 (ivA whenR.ps (x0, x1, x2, ())) (whenR.res (x0, x1, x2, ()))) : SpecOK Try.prog 23 whenR.sp :=
  specOf_ret Try.func23 (by kernel_rfl) (by kernel_rfl) fun (x : (El TClock) × Int × Int × Unit) hx => H (x.1) (x.2.1) (x.2.2.1) hx
theorem whenR.mk  (hs : SpecsOK Try.prog (whenR.specs ))  (H : ∀ (x0 : (El TClock)) (x1 : Int) (x2 : Int), whenR.pre (x0, x1, x2, ()) = true → ∃ m, whenR.go  m x0 x1 x2 = some (whenR.res (x0, x1, x2, ()), [])) : SpecOK Try.prog 23 whenR.sp :=
  whenR.mkR fun x0 x1 x2 hx => (H x0 x1 x2 hx).elim fun _ hm => whenR.ret  hs  x0 x1 x2 hm

/-! ### (*triage/triageref1.Clock).Next -/
abbrev dueR.ps : List AK := [.o 45 TClock [none, some 27], .d false (.int .i64)]
def dueR.pre : ElA dueR.ps → Bool := fun (x : (El TClock) × Int × Unit) => fits TClock (x.1) && (fits (.int .i64) (x.2.1) && (true))
def dueR.rv : ElA dueR.ps → List RV := fun (x : (El TClock) × Int × Unit) => [.d ((fun c to => mkIV true (enc TTimer (nextT c to))) x.1 x.2.1), .d ((fun c to => vb (dueB c to)) x.1 x.2.1)]
def dueR.res : ElA dueR.ps → IV := fun x => oneOrTup (rvIVs 0 (dueR.rv x))
def dueR.back : ElA dueR.ps → List (Nat × Box) := fun (x : (El TClock) × Int × Unit) => rvBxs 0 (dueR.rv x) ++ objBx 0 45 TClock [none, some 27] ((fun c to => nextC c to) x.1 x.2.1)
def dueR.sp : OSpec := spO dueR.ps dueR.pre dueR.res dueR.back
abbrev dueR.OK : Prop := SpecOKO Try.prog 20 dueR.sp
noncomputable def dueR.body : Code := bodyOf Try.f20
noncomputable def dueR.rs : List ResultVar := Try.f20.results.toList
def dueR.live : List (Nat × Live) := []
noncomputable def dueR.specs  : List (Nat × (List Bool × ISpec)) := []
noncomputable def dueR.ospecs  : List (Nat × OS) := []
noncomputable def dueR.cfg  : Cfg := ⟨lkp tab, lkp (dueR.specs ), lkp dueR.live, ⟨lkp (dueR.ospecs ), oids 0 dueR.ps, some ([.plain, .plain], [(oid 0, [.plain, .arr 27 TTimer])]), false, []⟩⟩
noncomputable def dueR.go  (m : Nat) (x0 : (El TClock)) (x1 : Int) : R := run (dueR.cfg ) 46 dueR.rs m [.code dueR.body] (enterO (ivAO 0 dueR.ps (x0, x1, ())) (bxAO 0 dueR.ps (x0, x1, ())))
theorem dueR.start  (m : Nat) (x0 : (El TClock)) (x1 : Int) : dueR.go  (m + 1) x0 x1 =
  cond (((List.length x0.2) : Int) == (0 : Int)) (
   some ((.tup [(.agg [(.v (.int .i64 (0 : Int))), (.v (.int .i64 (0 : Int))), (.v (.int .i64 (0 : Int)))]), (.c (.v (.bool false)))]), [(102526, (.cells 45 [(.v (.int .i64 x0.1)), (.sref 13251330)])), (13251330, (.arr 27 TTimer x0.2 false))])) (
   test (decide ((0 : Int) < ((List.length x0.2) : Int))) (
    cond (decide (((rdEl TTimer x0.2 (Int.toNat (0 : Int)))).1 > x1)) (
     some ((.tup [(.agg [(.v (.int .i64 (0 : Int))), (.v (.int .i64 (0 : Int))), (.v (.int .i64 (0 : Int)))]), (.c (.v (.bool false)))]), [(102526, (.cells 45 [(.v (.int .i64 x0.1)), (.sref 13251330)])), (13251330, (.arr 27 TTimer x0.2 false))])) (
     test (decide ((0 : Int) < ((List.length x0.2) : Int))) (
      test (decide ((1 : Int) ≤ ((List.length x0.2) : Int))) (
       test (decide ((List.length (List.drop (Int.toNat (1 : Int)) (List.take (List.length x0.2) x0.2))) ≤ (lim 24))) (
        some ((.tup [(.agg [(.v (.int .i64 ((rdEl TTimer x0.2 (Int.toNat (0 : Int)))).1)), (.v (.int .i64 (((rdEl TTimer x0.2 (Int.toNat (0 : Int)))).2).1)), (.v (.int .i64 (((rdEl TTimer x0.2 (Int.toNat (0 : Int)))).2).2))]), (.c (.v (.bool true)))]), [(102526, (.cells 45 [(.v (.int .i64 ((rdEl TTimer x0.2 (Int.toNat (0 : Int)))).1)), (.sref 13251330)])), (13251330, (.arr 27 TTimer (List.drop (Int.toNat (1 : Int)) (List.take (List.length x0.2) x0.2)) false))]))))))) := by kernel_rfl
theorem dueR.run_eq  (m : Nat) (x0 : (El TClock)) (x1 : Int) : run (dueR.cfg ) Try.f20.ntmps Try.f20.results.toList m [.code (bodyOf Try.f20)] (enterO (ivAO 0 dueR.ps (x0, x1, ())) (bxAO 0 dueR.ps (x0, x1, ()))) = dueR.go  m x0 x1 := by kernel_rfl
theorem dueR.ret  (hs : SpecsOK Try.prog (dueR.specs ))  (x0 : (El TClock)) (x1 : Int) {m : Nat} {r : IV} {b : List (Nat × Box)} (h : dueR.go  m x0 x1 = some (r, b)) : VE.ReturnsO Try.prog 20 (ivAO 0 dueR.ps (x0, x1, ())) (bxAO 0 dueR.ps (x0, x1, ())) r b :=
  returnsO_of_run (cfg := dueR.cfg ) (cfgOK_of mixed tab_ok hs .nil) rfl Try.func20 (body_some (by kernel_rfl)) (Nat.le_of_ble_eq_true (by kernel_rfl)) (fun _ _ _ h => oids_mem h) ((dueR.run_eq  m x0 x1).trans h)
abbrev dueR.Law : Prop := ∀ (x0 : (El TClock)) (x1 : Int), dueR.pre (x0, x1, ()) = true → VE.ReturnsO Try.prog 20 (ivAO 0 dueR.ps (x0, x1, ())) (bxAO 0 dueR.ps (x0, x1, ())) (dueR.res (x0, x1, ())) (dueR.back (x0, x1, ()))
theorem dueR.mkR (H : ∀ (x0 : (El TClock)) (x1 : Int), dueR.pre (x0, x1, ()) = true → VE.ReturnsO Try.prog 20 (ivAO 0 dueR.ps (x0, x1, ())) (bxAO 0 dueR.ps (x0, x1, ())) (dueR.res (x0, x1, ())) (dueR.back (x0, x1, ()))) : SpecOKO Try.prog 20 dueR.sp :=
  specO_ret Try.func20 (by kernel_rfl) (by kernel_rfl) fun (x : (El TClock) × Int × Unit) hx => H (x.1) (x.2.1) hx
theorem dueR.mk  (hs : SpecsOK Try.prog (dueR.specs ))  (H : ∀ (x0 : (El TClock)) (x1 : Int), dueR.pre (x0, x1, ()) = true → ∃ m, dueR.go  m x0 x1 = some (dueR.res (x0, x1, ()), dueR.back (x0, x1, ()))) : SpecOKO Try.prog 20 dueR.sp :=
  dueR.mkR fun x0 x1 hx => (H x0 x1 hx).elim fun _ hm => dueR.ret  hs  x0 x1 hm

/-! ### (*triage/triageref1.Clock).Go -/
abbrev goToR.ps : List AK := [.o 45 TClock [none, some 27], .d false (.int .i64)]
def goToR.pre : ElA goToR.ps → Bool := fun (x : (El TClock) × Int × Unit) => fits TClock (x.1) && (fits (.int .i64) (x.2.1) && (true))
def goToR.rv : ElA goToR.ps → List RV := fun (x : (El TClock) × Int × Unit) => [.d ((fun c to => vb (goB c to)) x.1 x.2.1)]
def goToR.res : ElA goToR.ps → IV := fun x => oneOrTup (rvIVs 0 (goToR.rv x))
def goToR.back : ElA goToR.ps → List (Nat × Box) := fun (x : (El TClock) × Int × Unit) => rvBxs 0 (goToR.rv x) ++ objBx 0 45 TClock [none, some 27] ((fun c to => goC c to) x.1 x.2.1)
def goToR.sp : OSpec := spO goToR.ps goToR.pre goToR.res goToR.back
abbrev goToR.OK : Prop := SpecOKO Try.prog 21 goToR.sp
noncomputable def goToR.body : Code := bodyOf Try.f21
noncomputable def goToR.rs : List ResultVar := Try.f21.results.toList
def goToR.live : List (Nat × Live) := []
noncomputable def goToR.specs  : List (Nat × (List Bool × ISpec)) := []
noncomputable def goToR.ospecs  : List (Nat × OS) := []
noncomputable def goToR.cfg  : Cfg := ⟨lkp tab, lkp (goToR.specs ), lkp goToR.live, ⟨lkp (goToR.ospecs ), oids 0 goToR.ps, some ([.plain], [(oid 0, [.plain, .arr 27 TTimer])]), false, []⟩⟩
noncomputable def goToR.go  (m : Nat) (x0 : (El TClock)) (x1 : Int) : R := run (goToR.cfg ) 38 goToR.rs m [.code goToR.body] (enterO (ivAO 0 goToR.ps (x0, x1, ())) (bxAO 0 goToR.ps (x0, x1, ())))
theorem goToR.start  (m : Nat) (x0 : (El TClock)) (x1 : Int) : goToR.go  (m + 1) x0 x1 =
  cond (decide (x1 < x0.1)) (
   some ((.c (.v (.bool false))), [(102526, (.cells 45 [(.v (.int .i64 x0.1)), (.sref 13251330)])), (13251330, (.arr 27 TTimer x0.2 false))])) (
   cond (decide (x1 > (4611686018427387904 : Int))) (
    some ((.c (.v (.bool false))), [(102526, (.cells 45 [(.v (.int .i64 x0.1)), (.sref 13251330)])), (13251330, (.arr 27 TTimer x0.2 false))])) (
    cond (decide (((List.length x0.2) : Int) > (0 : Int))) (
     test (decide ((0 : Int) < ((List.length x0.2) : Int))) (
      cond (decide (((rdEl TTimer x0.2 (Int.toNat (0 : Int)))).1 ≤ x1)) (
       some ((.c (.v (.bool false))), [(102526, (.cells 45 [(.v (.int .i64 x0.1)), (.sref 13251330)])), (13251330, (.arr 27 TTimer x0.2 false))])) (
       some ((.c (.v (.bool true))), [(102526, (.cells 45 [(.v (.int .i64 x1)), (.sref 13251330)])), (13251330, (.arr 27 TTimer x0.2 false))])))) (
     some ((.c (.v (.bool true))), [(102526, (.cells 45 [(.v (.int .i64 x1)), (.sref 13251330)])), (13251330, (.arr 27 TTimer x0.2 false))])))) := by kernel_rfl
theorem goToR.run_eq  (m : Nat) (x0 : (El TClock)) (x1 : Int) : run (goToR.cfg ) Try.f21.ntmps Try.f21.results.toList m [.code (bodyOf Try.f21)] (enterO (ivAO 0 goToR.ps (x0, x1, ())) (bxAO 0 goToR.ps (x0, x1, ()))) = goToR.go  m x0 x1 := by kernel_rfl
theorem goToR.ret  (hs : SpecsOK Try.prog (goToR.specs ))  (x0 : (El TClock)) (x1 : Int) {m : Nat} {r : IV} {b : List (Nat × Box)} (h : goToR.go  m x0 x1 = some (r, b)) : VE.ReturnsO Try.prog 21 (ivAO 0 goToR.ps (x0, x1, ())) (bxAO 0 goToR.ps (x0, x1, ())) r b :=
  returnsO_of_run (cfg := goToR.cfg ) (cfgOK_of mixed tab_ok hs .nil) rfl Try.func21 (body_some (by kernel_rfl)) (Nat.le_of_ble_eq_true (by kernel_rfl)) (fun _ _ _ h => oids_mem h) ((goToR.run_eq  m x0 x1).trans h)
abbrev goToR.Law : Prop := ∀ (x0 : (El TClock)) (x1 : Int), goToR.pre (x0, x1, ()) = true → VE.ReturnsO Try.prog 21 (ivAO 0 goToR.ps (x0, x1, ())) (bxAO 0 goToR.ps (x0, x1, ())) (goToR.res (x0, x1, ())) (goToR.back (x0, x1, ()))
theorem goToR.mkR (H : ∀ (x0 : (El TClock)) (x1 : Int), goToR.pre (x0, x1, ()) = true → VE.ReturnsO Try.prog 21 (ivAO 0 goToR.ps (x0, x1, ())) (bxAO 0 goToR.ps (x0, x1, ())) (goToR.res (x0, x1, ())) (goToR.back (x0, x1, ()))) : SpecOKO Try.prog 21 goToR.sp :=
  specO_ret Try.func21 (by kernel_rfl) (by kernel_rfl) fun (x : (El TClock) × Int × Unit) hx => H (x.1) (x.2.1) hx
theorem goToR.mk  (hs : SpecsOK Try.prog (goToR.specs ))  (H : ∀ (x0 : (El TClock)) (x1 : Int), goToR.pre (x0, x1, ()) = true → ∃ m, goToR.go  m x0 x1 = some (goToR.res (x0, x1, ()), goToR.back (x0, x1, ()))) : SpecOKO Try.prog 21 goToR.sp :=
  goToR.mkR fun x0 x1 hx => (H x0 x1 hx).elim fun _ hm => goToR.ret  hs  x0 x1 hm

/-! ### triage/triageref1.SameTimers -/
abbrev sameTs.ps : List AK := [.d false (.sl TTimer), .d false (.sl TTimer)]
def sameTs.pre : ElA sameTs.ps → Bool := fun (x : (List (El TTimer)) × (List (El TTimer)) × Unit) => fits (.sl TTimer) (x.1) && (fits (.sl TTimer) (x.2.1) && (true))
def sameTs.res : ElA sameTs.ps → IV := fun (x : (List (El TTimer)) × (List (El TTimer)) × Unit) => (fun l m => vb (eqTs l m)) x.1 x.2.1
def sameTs.sp : ISpec := spOf sameTs.ps sameTs.pre sameTs.res
abbrev sameTs.OK : Prop := SpecOK Try.prog 24 sameTs.sp
noncomputable def sameTs.body : Code := bodyOf Try.f24
noncomputable def sameTs.rs : List ResultVar := Try.f24.results.toList
def sameTs.live : List (Nat × Live) := [(4, ⟨[(0, .sl TTimer), (1, .sl TTimer), (12, .plain), (13, .plain)], []⟩)]
noncomputable def sameTs.specs  : List (Nat × (List Bool × ISpec)) := []
noncomputable def sameTs.ospecs  : List (Nat × OS) := []
noncomputable def sameTs.cfg  : Cfg := ⟨lkp tab, lkp (sameTs.specs ), lkp sameTs.live, ⟨lkp (sameTs.ospecs ), [], none, false, []⟩⟩
noncomputable def sameTs.l1  (m : Nat) (x0 : List (El TTimer)) (x1 : List (El TTimer)) (x2 : Int) (x3 : Int) : R := run (sameTs.cfg ) 26 sameTs.rs m ((todoR 4 sameTs.body []).getD []) ⟨ofList (.c .junk) [(0, (.c (.sl TTimer x0))), (1, (.c (.sl TTimer x1))), (12, (.c (.v (.int .i64 x2)))), (13, (.c (.v (.int .i64 x3))))], ofList none [], ofList false []⟩
noncomputable def sameTs.go  (m : Nat) (x0 : (List (El TTimer))) (x1 : (List (El TTimer))) : R := run (sameTs.cfg ) 26 sameTs.rs m [.code sameTs.body] (enter (ivA sameTs.ps (x0, x1, ())))
theorem sameTs.start  (m : Nat) (x0 : (List (El TTimer))) (x1 : (List (El TTimer))) : sameTs.go  (m + 1) x0 x1 =
  cond (bne ((List.length x0) : Int) ((List.length x1) : Int)) (
   some ((.c (.v (.bool false))), [])) (
   sameTs.l1  m x0 x1 ((List.length x0) : Int) (0 : Int)) := by kernel_rfl
theorem sameTs.s1  (m : Nat) (x0 : List (El TTimer)) (x1 : List (El TTimer)) (x2 : Int) (x3 : Int) : sameTs.l1  (m + 1) x0 x1 x2 x3 =
  cond (decide (x3 < x2)) (
   test (decide ((0 : Int) ≤ x3)) (
    test (decide (x3 < ((List.length x0) : Int))) (
     test (decide ((0 : Int) ≤ x3)) (
      test (decide (x3 < ((List.length x1) : Int))) (
       cond (Bool.not ((((rdEl TTimer x0 (Int.toNat x3))).1 == ((rdEl TTimer x1 (Int.toNat x3))).1) && (((((rdEl TTimer x0 (Int.toNat x3))).2).1 == (((rdEl TTimer x1 (Int.toNat x3))).2).1) && (((((rdEl TTimer x0 (Int.toNat x3))).2).2 == (((rdEl TTimer x1 (Int.toNat x3))).2).2) && true)))) (
        some ((.c (.v (.bool false))), [])) (
        sameTs.l1  m x0 x1 x2 (IntKind.i64.wrap (x3 + (1 : Int))))))))) (
   some ((.c (.v (.bool true))), [])) := by kernel_rfl
theorem sameTs.run_eq  (m : Nat) (x0 : (List (El TTimer))) (x1 : (List (El TTimer))) : run (sameTs.cfg ) Try.f24.ntmps Try.f24.results.toList m [.code (bodyOf Try.f24)] (enter (ivA sameTs.ps (x0, x1, ()))) = sameTs.go  m x0 x1 := by kernel_rfl
theorem sameTs.ret  (hs : SpecsOK Try.prog (sameTs.specs ))  (x0 : (List (El TTimer))) (x1 : (List (El TTimer))) {m : Nat} {r : IV} (h : sameTs.go  m x0 x1 = some (r, [])) : VE.Returns Try.prog 24 (ivA sameTs.ps (x0, x1, ())) r :=
  returns_of_run (cfg := sameTs.cfg ) (cfgOK_of mixed tab_ok hs .nil) rfl Try.func24 (body_some (by kernel_rfl)) (Nat.le_of_ble_eq_true (by kernel_rfl)) ((sameTs.run_eq  m x0 x1).trans h)
abbrev sameTs.Law : Prop := ∀ (x0 : (List (El TTimer))) (x1 : (List (El TTimer))), sameTs.pre (x0, x1, ()) = true → VE.Returns Try.prog 24 (ivA sameTs.ps (x0, x1, ())) (sameTs.res (x0, x1, ()))
theorem sameTs.mkR (H : ∀ (x0 : (List (El TTimer))) (x1 : (List (El TTimer))), sameTs.pre (x0, x1, ()) = true → VE.Returns Try.prog 24 (ivA sameTs.ps (x0, x1, ())) (sameTs.res (x0, x1, ()))) : SpecOK Try.prog 24 sameTs.sp :=
  specOf_ret Try.func24 (by kernel_rfl) (by kernel_rfl) fun (x : (List (El TTimer)) × (List (El TTimer)) × Unit) hx => H (x.1) (x.2.1) hx
theorem sameTs.mk  (hs : SpecsOK Try.prog (sameTs.specs ))  (H : ∀ (x0 : (List (El TTimer))) (x1 : (List (El TTimer))), sameTs.pre (x0, x1, ()) = true → ∃ m, sameTs.go  m x0 x1 = some (sameTs.res (x0, x1, ()), [])) : SpecOK Try.prog 24 sameTs.sp :=
  sameTs.mkR fun x0 x1 hx => (H x0 x1 hx).elim fun _ hm => sameTs.ret  hs  x0 x1 hm

/-! ### triage/triagelaw9.ClockPlays -/
abbrev lPlays.ps : List AK := [.d false (.int .i64), .d false (.sl (.prod (.int .i64) TTimer))]
def lPlays.pre : ElA lPlays.ps → Bool := fun (x : Int × (List (Int × (El TTimer))) × Unit) => fits (.int .i64) (x.1) && (fits (.sl (.prod (.int .i64) TTimer)) (x.2.1) && (true))
def lPlays.res : ElA lPlays.ps → IV := fun (x : Int × (List (Int × (El TTimer))) × Unit) => (fun _ _ => vb true) x.1 x.2.1
def lPlays.sp : ISpec := spOf lPlays.ps lPlays.pre lPlays.res
abbrev lPlays.OK : Prop := SpecOK Try.prog 5 lPlays.sp
noncomputable def lPlays.body : Code := bodyOf Try.f5
noncomputable def lPlays.rs : List ResultVar := Try.f5.results.toList
def lPlays.live : List (Nat × Live) := [(5, ⟨[(5, .plain), (6, .plain), (26, .sl (.prod (.int .i64) TTimer)), (27, .plain), (28, .plain)], [(46161920, [.plain, .arr 27 TTimer]), (46194688, [.plain, .arr 27 TTimer])]⟩)]
noncomputable def lPlays.specs  : List (Nat × (List Bool × ISpec)) := [(9, ([], awake.sp)), (11, ([], now.sp)), (23, ([], whenR.sp)), (24, ([], sameTs.sp))]
noncomputable def lPlays.ospecs  : List (Nat × OS) := [(10, ⟨[], [], new.sp⟩), (12, ⟨[some (.obj [.plain, .arr 27 TTimer])], [], put.sp⟩), (18, ⟨[some (.obj [.plain, .arr 27 TTimer])], [], cut.sp⟩), (13, ⟨[some (.obj [.plain, .arr 27 TTimer])], [], due.sp⟩), (14, ⟨[some (.obj [.plain, .arr 27 TTimer])], [], goTo.sp⟩), (22, ⟨[some (.obj [.plain, .arr 27 TTimer])], [], when.sp⟩), (15, ⟨[some (.obj [.plain, .arr 27 TTimer])], [], allT.sp⟩), (16, ⟨[], [], newR.sp⟩), (17, ⟨[some (.obj [.plain, .arr 27 TTimer])], [], putR.sp⟩), (19, ⟨[some (.obj [.plain, .arr 27 TTimer])], [], cutR.sp⟩), (20, ⟨[some (.obj [.plain, .arr 27 TTimer])], [], dueR.sp⟩), (21, ⟨[some (.obj [.plain, .arr 27 TTimer])], [], goToR.sp⟩)]
noncomputable def lPlays.cfg  : Cfg := ⟨lkp tab, lkp (lPlays.specs ), lkp lPlays.live, ⟨lkp (lPlays.ospecs ), [], none, false, []⟩⟩
noncomputable def lPlays.l1  (m : Nat) (x0 : List (Int × (El TTimer))) (x1 : Int) (x2 : Int) (x3 : Int) (x4 : List (El TTimer)) (x5 : Int) (x6 : List (El TTimer)) : R := run (lPlays.cfg ) 156 lPlays.rs m ((todoR 5 lPlays.body []).getD []) ⟨ofList (.c .junk) [(5, (.c (.ref 46161920 0))), (6, (.c (.ref 46194688 0))), (26, (.c (.sl (.prod (.int .i64) TTimer) x0))), (27, (.c (.v (.int .i64 x1)))), (28, (.c (.v (.int .i64 x2))))], ofList none [(46161920, some (.cells 55 [(.v (.int .i64 x3)), (.sref 5908853762)])), (5908853762, some (.arr 27 TTimer x4 false)), (46194688, some (.cells 45 [(.v (.int .i64 x5)), (.sref 5913048066)])), (5913048066, some (.arr 27 TTimer x6 false))], ofList false [(46161920, true), (5908853762, true), (46194688, true), (5913048066, true)]⟩
noncomputable def lPlays.go  (m : Nat) (x0 : Int) (x1 : (List (Int × (El TTimer)))) : R := run (lPlays.cfg ) 156 lPlays.rs m [.code lPlays.body] (enter (ivA lPlays.ps (x0, x1, ())))
theorem lPlays.start  (m : Nat) (x0 : Int) (x1 : (List (Int × (El TTimer)))) : lPlays.go  (m + 1) x0 x1 =
  cond (decide (((List.length x1) : Int) > (150 : Int))) (
   some ((.c (.v (.bool true))), [])) (
   lPlays.l1  m x1 ((List.length x1) : Int) (0 : Int) (timeC x0) ([] : List (El TTimer)) (timeC x0) ([] : List (El TTimer))) := by kernel_rfl
theorem lPlays.s1  (m : Nat) (x0 : List (Int × (El TTimer))) (x1 : Int) (x2 : Int) (x3 : Int) (x4 : List (El TTimer)) (x5 : Int) (x6 : List (El TTimer)) : lPlays.l1  (m + 1) x0 x1 x2 x3 x4 x5 x6 =
  cond (decide (x2 < x1)) (
   test (decide ((0 : Int) ≤ x2)) (
    test (decide (x2 < ((List.length x0) : Int))) (
     cond (((rdEl (.prod (.int .i64) TTimer) x0 (Int.toNat x2))).1 == (0 : Int)) (
      test (put.pre ((x3, x4), (((rdEl (.prod (.int .i64) TTimer) x0 (Int.toNat x2))).2, Unit.unit))) (
       test (putR.pre ((x5, x6), (((rdEl (.prod (.int .i64) TTimer) x0 (Int.toNat x2))).2, Unit.unit))) (
        cond (Bool.not ((setOk (x3, x4) ((rdEl (.prod (.int .i64) TTimer) x0 (Int.toNat x2))).2) == (setOk (x5, x6) ((rdEl (.prod (.int .i64) TTimer) x0 (Int.toNat x2))).2))) (
         some ((.c (.v (.bool false))), [])) (
         test (now.pre (((setC (x3, x4) ((rdEl (.prod (.int .i64) TTimer) x0 (Int.toNat x2))).2)), Unit.unit)) (
          cond (bne ((setC (x3, x4) ((rdEl (.prod (.int .i64) TTimer) x0 (Int.toNat x2))).2)).1 ((setRC (x5, x6) ((rdEl (.prod (.int .i64) TTimer) x0 (Int.toNat x2))).2)).1) (
           some ((.c (.v (.bool false))), [])) (
           test (allT.pre (((setC (x3, x4) ((rdEl (.prod (.int .i64) TTimer) x0 (Int.toNat x2))).2)), Unit.unit)) (
            test (sameTs.pre (((setC (x3, x4) ((rdEl (.prod (.int .i64) TTimer) x0 (Int.toNat x2))).2)).2, (((setRC (x5, x6) ((rdEl (.prod (.int .i64) TTimer) x0 (Int.toNat x2))).2)).2, Unit.unit))) (
             cond (Bool.not (eqTs ((setC (x3, x4) ((rdEl (.prod (.int .i64) TTimer) x0 (Int.toNat x2))).2)).2 ((setRC (x5, x6) ((rdEl (.prod (.int .i64) TTimer) x0 (Int.toNat x2))).2)).2)) (
              some ((.c (.v (.bool false))), [])) (
              lPlays.l1  m x0 x1 (IntKind.i64.wrap (x2 + (1 : Int))) ((setC (x3, x4) ((rdEl (.prod (.int .i64) TTimer) x0 (Int.toNat x2))).2)).1 ((setC (x3, x4) ((rdEl (.prod (.int .i64) TTimer) x0 (Int.toNat x2))).2)).2 ((setRC (x5, x6) ((rdEl (.prod (.int .i64) TTimer) x0 (Int.toNat x2))).2)).1 ((setRC (x5, x6) ((rdEl (.prod (.int .i64) TTimer) x0 (Int.toNat x2))).2)).2))))))))) (
      cond (((rdEl (.prod (.int .i64) TTimer) x0 (Int.toNat x2))).1 == (1 : Int)) (
       test (cut.pre ((x3, x4), (((((rdEl (.prod (.int .i64) TTimer) x0 (Int.toNat x2))).2).2).1, (((((rdEl (.prod (.int .i64) TTimer) x0 (Int.toNat x2))).2).2).2, Unit.unit)))) (
        test (cutR.pre ((x5, x6), (((((rdEl (.prod (.int .i64) TTimer) x0 (Int.toNat x2))).2).2).1, (((((rdEl (.prod (.int .i64) TTimer) x0 (Int.toNat x2))).2).2).2, Unit.unit)))) (
         cond (Bool.not ((hasK x4 ((((rdEl (.prod (.int .i64) TTimer) x0 (Int.toNat x2))).2).2).1 ((((rdEl (.prod (.int .i64) TTimer) x0 (Int.toNat x2))).2).2).2) == (cutRB (x5, x6) ((((rdEl (.prod (.int .i64) TTimer) x0 (Int.toNat x2))).2).2).1 ((((rdEl (.prod (.int .i64) TTimer) x0 (Int.toNat x2))).2).2).2))) (
          some ((.c (.v (.bool false))), [])) (
          test (now.pre (((cutC (x3, x4) ((((rdEl (.prod (.int .i64) TTimer) x0 (Int.toNat x2))).2).2).1 ((((rdEl (.prod (.int .i64) TTimer) x0 (Int.toNat x2))).2).2).2)), Unit.unit)) (
           cond (bne ((cutC (x3, x4) ((((rdEl (.prod (.int .i64) TTimer) x0 (Int.toNat x2))).2).2).1 ((((rdEl (.prod (.int .i64) TTimer) x0 (Int.toNat x2))).2).2).2)).1 ((cutRC (x5, x6) ((((rdEl (.prod (.int .i64) TTimer) x0 (Int.toNat x2))).2).2).1 ((((rdEl (.prod (.int .i64) TTimer) x0 (Int.toNat x2))).2).2).2)).1) (
            some ((.c (.v (.bool false))), [])) (
            test (allT.pre (((cutC (x3, x4) ((((rdEl (.prod (.int .i64) TTimer) x0 (Int.toNat x2))).2).2).1 ((((rdEl (.prod (.int .i64) TTimer) x0 (Int.toNat x2))).2).2).2)), Unit.unit)) (
             test (sameTs.pre (((cutC (x3, x4) ((((rdEl (.prod (.int .i64) TTimer) x0 (Int.toNat x2))).2).2).1 ((((rdEl (.prod (.int .i64) TTimer) x0 (Int.toNat x2))).2).2).2)).2, (((cutRC (x5, x6) ((((rdEl (.prod (.int .i64) TTimer) x0 (Int.toNat x2))).2).2).1 ((((rdEl (.prod (.int .i64) TTimer) x0 (Int.toNat x2))).2).2).2)).2, Unit.unit))) (
              cond (Bool.not (eqTs ((cutC (x3, x4) ((((rdEl (.prod (.int .i64) TTimer) x0 (Int.toNat x2))).2).2).1 ((((rdEl (.prod (.int .i64) TTimer) x0 (Int.toNat x2))).2).2).2)).2 ((cutRC (x5, x6) ((((rdEl (.prod (.int .i64) TTimer) x0 (Int.toNat x2))).2).2).1 ((((rdEl (.prod (.int .i64) TTimer) x0 (Int.toNat x2))).2).2).2)).2)) (
               some ((.c (.v (.bool false))), [])) (
               lPlays.l1  m x0 x1 (IntKind.i64.wrap (x2 + (1 : Int))) ((cutC (x3, x4) ((((rdEl (.prod (.int .i64) TTimer) x0 (Int.toNat x2))).2).2).1 ((((rdEl (.prod (.int .i64) TTimer) x0 (Int.toNat x2))).2).2).2)).1 ((cutC (x3, x4) ((((rdEl (.prod (.int .i64) TTimer) x0 (Int.toNat x2))).2).2).1 ((((rdEl (.prod (.int .i64) TTimer) x0 (Int.toNat x2))).2).2).2)).2 ((cutRC (x5, x6) ((((rdEl (.prod (.int .i64) TTimer) x0 (Int.toNat x2))).2).2).1 ((((rdEl (.prod (.int .i64) TTimer) x0 (Int.toNat x2))).2).2).2)).1 ((cutRC (x5, x6) ((((rdEl (.prod (.int .i64) TTimer) x0 (Int.toNat x2))).2).2).1 ((((rdEl (.prod (.int .i64) TTimer) x0 (Int.toNat x2))).2).2).2)).2))))))))) (
       cond (((rdEl (.prod (.int .i64) TTimer) x0 (Int.toNat x2))).1 == (2 : Int)) (
        test (due.pre ((x3, x4), ((((rdEl (.prod (.int .i64) TTimer) x0 (Int.toNat x2))).2).1, Unit.unit))) (
         test (dueR.pre ((x5, x6), ((((rdEl (.prod (.int .i64) TTimer) x0 (Int.toNat x2))).2).1, Unit.unit))) (
          cond ((((nextT (x3, x4) (((rdEl (.prod (.int .i64) TTimer) x0 (Int.toNat x2))).2).1)).1 == ((nextT (x5, x6) (((rdEl (.prod (.int .i64) TTimer) x0 (Int.toNat x2))).2).1)).1) && (((((nextT (x3, x4) (((rdEl (.prod (.int .i64) TTimer) x0 (Int.toNat x2))).2).1)).2).1 == (((nextT (x5, x6) (((rdEl (.prod (.int .i64) TTimer) x0 (Int.toNat x2))).2).1)).2).1) && (((((nextT (x3, x4) (((rdEl (.prod (.int .i64) TTimer) x0 (Int.toNat x2))).2).1)).2).2 == (((nextT (x5, x6) (((rdEl (.prod (.int .i64) TTimer) x0 (Int.toNat x2))).2).1)).2).2) && true))) (
           cond (Bool.not ((dueB (x3, x4) (((rdEl (.prod (.int .i64) TTimer) x0 (Int.toNat x2))).2).1) == (dueB (x5, x6) (((rdEl (.prod (.int .i64) TTimer) x0 (Int.toNat x2))).2).1))) (
            some ((.c (.v (.bool false))), [])) (
            test (now.pre (((nextC (x3, x4) (((rdEl (.prod (.int .i64) TTimer) x0 (Int.toNat x2))).2).1)), Unit.unit)) (
             cond (bne ((nextC (x3, x4) (((rdEl (.prod (.int .i64) TTimer) x0 (Int.toNat x2))).2).1)).1 ((nextC (x5, x6) (((rdEl (.prod (.int .i64) TTimer) x0 (Int.toNat x2))).2).1)).1) (
              some ((.c (.v (.bool false))), [])) (
              test (allT.pre (((nextC (x3, x4) (((rdEl (.prod (.int .i64) TTimer) x0 (Int.toNat x2))).2).1)), Unit.unit)) (
               test (sameTs.pre (((nextC (x3, x4) (((rdEl (.prod (.int .i64) TTimer) x0 (Int.toNat x2))).2).1)).2, (((nextC (x5, x6) (((rdEl (.prod (.int .i64) TTimer) x0 (Int.toNat x2))).2).1)).2, Unit.unit))) (
                cond (Bool.not (eqTs ((nextC (x3, x4) (((rdEl (.prod (.int .i64) TTimer) x0 (Int.toNat x2))).2).1)).2 ((nextC (x5, x6) (((rdEl (.prod (.int .i64) TTimer) x0 (Int.toNat x2))).2).1)).2)) (
                 some ((.c (.v (.bool false))), [])) (
                 lPlays.l1  m x0 x1 (IntKind.i64.wrap (x2 + (1 : Int))) ((nextC (x3, x4) (((rdEl (.prod (.int .i64) TTimer) x0 (Int.toNat x2))).2).1)).1 ((nextC (x3, x4) (((rdEl (.prod (.int .i64) TTimer) x0 (Int.toNat x2))).2).1)).2 ((nextC (x5, x6) (((rdEl (.prod (.int .i64) TTimer) x0 (Int.toNat x2))).2).1)).1 ((nextC (x5, x6) (((rdEl (.prod (.int .i64) TTimer) x0 (Int.toNat x2))).2).1)).2))))))) (
           some ((.c (.v (.bool false))), []))))) (
        cond (((rdEl (.prod (.int .i64) TTimer) x0 (Int.toNat x2))).1 == (3 : Int)) (
         test (goTo.pre ((x3, x4), ((((rdEl (.prod (.int .i64) TTimer) x0 (Int.toNat x2))).2).1, Unit.unit))) (
          test (goToR.pre ((x5, x6), ((((rdEl (.prod (.int .i64) TTimer) x0 (Int.toNat x2))).2).1, Unit.unit))) (
           cond (Bool.not ((goB (x3, x4) (((rdEl (.prod (.int .i64) TTimer) x0 (Int.toNat x2))).2).1) == (goB (x5, x6) (((rdEl (.prod (.int .i64) TTimer) x0 (Int.toNat x2))).2).1))) (
            some ((.c (.v (.bool false))), [])) (
            test (now.pre (((goC (x3, x4) (((rdEl (.prod (.int .i64) TTimer) x0 (Int.toNat x2))).2).1)), Unit.unit)) (
             cond (bne ((goC (x3, x4) (((rdEl (.prod (.int .i64) TTimer) x0 (Int.toNat x2))).2).1)).1 ((goC (x5, x6) (((rdEl (.prod (.int .i64) TTimer) x0 (Int.toNat x2))).2).1)).1) (
              some ((.c (.v (.bool false))), [])) (
              test (allT.pre (((goC (x3, x4) (((rdEl (.prod (.int .i64) TTimer) x0 (Int.toNat x2))).2).1)), Unit.unit)) (
               test (sameTs.pre (((goC (x3, x4) (((rdEl (.prod (.int .i64) TTimer) x0 (Int.toNat x2))).2).1)).2, (((goC (x5, x6) (((rdEl (.prod (.int .i64) TTimer) x0 (Int.toNat x2))).2).1)).2, Unit.unit))) (
                cond (Bool.not (eqTs ((goC (x3, x4) (((rdEl (.prod (.int .i64) TTimer) x0 (Int.toNat x2))).2).1)).2 ((goC (x5, x6) (((rdEl (.prod (.int .i64) TTimer) x0 (Int.toNat x2))).2).1)).2)) (
                 some ((.c (.v (.bool false))), [])) (
                 lPlays.l1  m x0 x1 (IntKind.i64.wrap (x2 + (1 : Int))) ((goC (x3, x4) (((rdEl (.prod (.int .i64) TTimer) x0 (Int.toNat x2))).2).1)).1 ((goC (x3, x4) (((rdEl (.prod (.int .i64) TTimer) x0 (Int.toNat x2))).2).1)).2 ((goC (x5, x6) (((rdEl (.prod (.int .i64) TTimer) x0 (Int.toNat x2))).2).1)).1 ((goC (x5, x6) (((rdEl (.prod (.int .i64) TTimer) x0 (Int.toNat x2))).2).1)).2))))))))) (
         test (when.pre ((x3, x4), (((((rdEl (.prod (.int .i64) TTimer) x0 (Int.toNat x2))).2).2).1, (((((rdEl (.prod (.int .i64) TTimer) x0 (Int.toNat x2))).2).2).2, Unit.unit)))) (
          test (whenR.pre ((x5, x6), (((((rdEl (.prod (.int .i64) TTimer) x0 (Int.toNat x2))).2).2).1, (((((rdEl (.prod (.int .i64) TTimer) x0 (Int.toNat x2))).2).2).2, Unit.unit)))) (
           cond ((atI (x3, x4) ((((rdEl (.prod (.int .i64) TTimer) x0 (Int.toNat x2))).2).2).1 ((((rdEl (.prod (.int .i64) TTimer) x0 (Int.toNat x2))).2).2).2) == (atRI (x5, x6) ((((rdEl (.prod (.int .i64) TTimer) x0 (Int.toNat x2))).2).2).1 ((((rdEl (.prod (.int .i64) TTimer) x0 (Int.toNat x2))).2).2).2)) (
            cond (Bool.not ((hasK x4 ((((rdEl (.prod (.int .i64) TTimer) x0 (Int.toNat x2))).2).2).1 ((((rdEl (.prod (.int .i64) TTimer) x0 (Int.toNat x2))).2).2).2) == (List.any x6 (keyK ((((rdEl (.prod (.int .i64) TTimer) x0 (Int.toNat x2))).2).2).1 ((((rdEl (.prod (.int .i64) TTimer) x0 (Int.toNat x2))).2).2).2)))) (
             some ((.c (.v (.bool false))), [])) (
             test (now.pre ((x3, x4), Unit.unit)) (
              cond (bne x3 x5) (
               some ((.c (.v (.bool false))), [])) (
               test (allT.pre ((x3, x4), Unit.unit)) (
                test (sameTs.pre (x4, (x6, Unit.unit))) (
                 cond (Bool.not (eqTs x4 x6)) (
                  some ((.c (.v (.bool false))), [])) (
                  lPlays.l1  m x0 x1 (IntKind.i64.wrap (x2 + (1 : Int))) x3 x4 x5 x6))))))) (
            some ((.c (.v (.bool false))), []))))))))))) (
   some ((.c (.v (.bool true))), [])) := by kernel_rfl
theorem lPlays.run_eq  (m : Nat) (x0 : Int) (x1 : (List (Int × (El TTimer)))) : run (lPlays.cfg ) Try.f5.ntmps Try.f5.results.toList m [.code (bodyOf Try.f5)] (enter (ivA lPlays.ps (x0, x1, ()))) = lPlays.go  m x0 x1 := by kernel_rfl
theorem lPlays.ret  (hs : SpecsOK Try.prog (lPlays.specs )) (ho : OSpecsOK Try.prog (lPlays.ospecs )) (x0 : Int) (x1 : (List (Int × (El TTimer)))) {m : Nat} {r : IV} (h : lPlays.go  m x0 x1 = some (r, [])) : VE.Returns Try.prog 5 (ivA lPlays.ps (x0, x1, ())) r :=
  returns_of_run (cfg := lPlays.cfg ) (cfgOK_of mixed tab_ok hs ho) rfl Try.func5 (body_some (by kernel_rfl)) (Nat.le_of_ble_eq_true (by kernel_rfl)) ((lPlays.run_eq  m x0 x1).trans h)
abbrev lPlays.Law : Prop := ∀ (x0 : Int) (x1 : (List (Int × (El TTimer)))), lPlays.pre (x0, x1, ()) = true → VE.Returns Try.prog 5 (ivA lPlays.ps (x0, x1, ())) (lPlays.res (x0, x1, ()))
theorem lPlays.mkR (H : ∀ (x0 : Int) (x1 : (List (Int × (El TTimer)))), lPlays.pre (x0, x1, ()) = true → VE.Returns Try.prog 5 (ivA lPlays.ps (x0, x1, ())) (lPlays.res (x0, x1, ()))) : SpecOK Try.prog 5 lPlays.sp :=
  specOf_ret Try.func5 (by kernel_rfl) (by kernel_rfl) fun (x : Int × (List (Int × (El TTimer))) × Unit) hx => H (x.1) (x.2.1) hx
theorem lPlays.mk  (hs : SpecsOK Try.prog (lPlays.specs )) (ho : OSpecsOK Try.prog (lPlays.ospecs )) (H : ∀ (x0 : Int) (x1 : (List (Int × (El TTimer)))), lPlays.pre (x0, x1, ()) = true → ∃ m, lPlays.go  m x0 x1 = some (lPlays.res (x0, x1, ()), [])) : SpecOK Try.prog 5 lPlays.sp :=
  lPlays.mkR fun x0 x1 hx => (H x0 x1 hx).elim fun _ hm => lPlays.ret  hs ho x0 x1 hm

end Go.Proofs.Ythlbiibholhkmaa
